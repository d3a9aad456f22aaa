/-
  DL3 (a part of a claim: our own text).
-/
import Derived.Test.YtnehaejghnoigaaGreatXCDL2
import Derived.Test.YtnehaejghnoigaaGreatXCD3
namespace Go.Abs
open Go.Proofs
theorem Sz9 (l : List V3) (h : l.length < 4294967296) : (lzu l l).o = some true := by
  show (gzh l l).run NN = _
  simp only [gzh, T.run]
  rw [cze rfl]
  refine (bzn (fun j => (j : Int)) U0.u l.length rfl h (fun j hj => ?_) ?_).trans rfl
  · rw [az6 (by omega), az8 (by omega), az8 (by omega), wn (by omega)]
    simp only [beq_self_eq_true, Bool.and_self, Bool.not_true, cond_false]
  · rw [az5 (by omega)]
theorem Mzz (l : List Int) (h : l.length < 4294967296) : (izg l l).o = some true := by
  show (izh l l).run NN = _
  simp only [izh, T.run]
  rw [cze rfl]
  refine (bzn (fun j => (j : Int)) U0.u l.length rfl h (fun j hj => ?_) ?_).trans rfl
  · rw [az6 (by omega), az8 (by omega), az8 (by omega), wn (by omega), cze rfl]
  · rw [az5 (by omega)]
theorem Fzj (x : azh) (h : x.Normals.length < 4294967296) : (kz7 x x).o = some true := by
  show (kz8 x x).run NN = _
  simp only [kz8, T.run, beq_self_eq_true, cond_true]
  rw [Sz9 _ h]; rfl
theorem Lzs (l : List azh) (h : l.length < 4294967296) (hn : ∀ x ∈ l, x.Normals.length < 4294967296) : (pza l l).o = some true := by
  show (izf l l).run NN = _
  simp only [izf, T.run]
  rw [cze rfl]
  refine (bzn (fun j => (j : Int)) U0.u l.length rfl h (fun j hj => ?_) ?_).trans rfl
  · rw [az6 (by omega), az8 (by omega), az8 (by omega), wn (by omega), Int.toNat_natCast, Fzj _ (hn _ (Gzn hj)), Option.bind_some]; rfl
  · rw [az5 (by omega)]
theorem Jzz (w : bz6) (h1 : w.Left.length < 4294967296) (h2 : w.Right.length < 4294967296) : (mzu w w).o = some true := by
  show (hz3 w w).run NN = _
  simp only [hz3, T.run, beq_self_eq_true, cond_true]
  rw [Mzz _ h1]
  simp only [Option.bind_some, cond_true]
  rw [Mzz _ h2]; rfl
def ResB (r : azk) : Prop := r.Pieces.length ≤ 4096 ∧ (∀ x ∈ r.Pieces, x.Normals.length ≤ 576) ∧ r.At.Normals.length ≤ 576 ∧ r.Witness.Left.length ≤ 8 ∧ r.Witness.Right.length ≤ 8
theorem yzh {r : azk} (h : ResB r) : (ez8 r r).o = some true := by
  obtain ⟨h1, h2, h3, h4, h5⟩ := h
  show (lzt r r).run NN = _
  simp only [lzt, T.run, beq_self_eq_true, cond_true]
  rw [Lzs _ (by omega) (fun x hx => by have := h2 x hx; omega)]
  simp only [Option.bind_some, cond_true]
  rw [Fzj _ (by omega)]
  simp only [Option.bind_some, cond_true]
  rw [Jzz _ (by omega) (by omega)]; rfl
theorem uzo (p q : List Int) (k i : Int) : (dza p q k i).1.length ≤ p.length := by
  unfold dza
  split
  · simp [bzv]
  · simp [nl]
abbrev XW := Int × List azh × Int × Int × List V3 × Int × List Int × List Int
noncomputable abbrev exO (n : Nat) (s : aza) (p q : List Int) (d k i : Int) (h : List V3) (ps : List azh) (W : XW) :=
  (RecS.fix ezr n).o (k, i, h, ps, W.1, W.2.1, W.2.2.1, W.2.2.2.1, W.2.2.2.2.1, W.2.2.2.2.2.1, W.2.2.2.2.2.2.1, W.2.2.2.2.2.2.2, p, q, s.Robot.Joints, s.Robot.Masses, s.Shapes, s.Skips, d)
abbrev exR (ok : Bool) (ps : List azh) (W : XW) (s : aza) (p q : List Int) (d : Int) :=
  (ok, ps, W.1, W.2.1, W.2.2.1, W.2.2.2.1, W.2.2.2.2.1, W.2.2.2.2.2.1, W.2.2.2.2.2.2.1, W.2.2.2.2.2.2.2, p, q, s.Robot.Joints, s.Robot.Masses, s.Shapes, s.Skips, d)
def PsB (ps : List azh) : Prop := ps.length ≤ 4096 ∧ ∀ x ∈ ps, x.Normals.length ≤ 576
theorem Kzt (n : Nat) (s : aza) (p q : List Int) (d k i : Int) (h : List V3) (ps : List azh) (W : XW) (hp : p.length < 4294967296) (hq : q.length < 4294967296) {v : cz5} (hv : (jz1 s (dza p q k i).1 h).o = some v) (hps : PsB ps) :
    exO (n + 1) s p q d k i h ps W = if 4096 ≤ ps.length then some (exR false ps (0, nl, k, i, nl, 0, nl, nl) s p q d) else
      if v.Kind = 1 then some (exR true (ps ++ [⟨k, i, v.Normals⟩]) W s p q d) else
      if v.Kind = 2 then some (exR false ps (2, nl, k, i, nl, v.Witness.Pair, v.Witness.Left, v.Witness.Right) s p q d) else
      if k < d then ((exO n s p q d (IntKind.i64.wrap (k + 1)) (IntKind.i64.wrap (2 * i)) v.Normals ps W).bind fun y => bif y.1 then (RecS.fix ezr n).o (IntKind.i64.wrap (k + 1), IntKind.i64.wrap (IntKind.i64.wrap (2 * i) + 1), v.Normals, y.2.1, y.2.2.1, y.2.2.2.1, y.2.2.2.2.1, y.2.2.2.2.2.1, y.2.2.2.2.2.2.1, y.2.2.2.2.2.2.2.1, y.2.2.2.2.2.2.2.2.1, y.2.2.2.2.2.2.2.2.2.1, y.2.2.2.2.2.2.2.2.2.2.1, y.2.2.2.2.2.2.2.2.2.2.2.1, y.2.2.2.2.2.2.2.2.2.2.2.2.1, y.2.2.2.2.2.2.2.2.2.2.2.2.2.1, y.2.2.2.2.2.2.2.2.2.2.2.2.2.2.1, y.2.2.2.2.2.2.2.2.2.2.2.2.2.2.2.1, y.2.2.2.2.2.2.2.2.2.2.2.2.2.2.2.2) else some (false, y.2)) else
      some (exR false ps (0, nl, k, i, nl, 0, nl, nl) s p q d) := by
  show (nzp (RecS.fix ezr n) k i h ps W.1 W.2.1 W.2.2.1 W.2.2.2.1 W.2.2.2.2.1 W.2.2.2.2.2.1 W.2.2.2.2.2.2.1 W.2.2.2.2.2.2.2 p q s.Robot.Joints s.Robot.Masses s.Shapes s.Skips d).run NN = _
  have hb : (jz1 (⟨⟨s.Robot.Joints, s.Robot.Masses⟩, s.Shapes, s.Skips⟩ : aza) (dza p q k i).1 h).o = some v := hv
  simp only [nzp, T.run, Ez6 p q k i hp hq, Option.bind_some, hb]
  obtain ⟨l1, _⟩ := hps
  by_cases c0 : 4096 ≤ ps.length
  · rw [if_pos c0, az6 (by omega)]
  · rw [if_neg c0, az5 (by omega)]
    by_cases c1 : v.Kind = 1
    · rw [if_pos c1, dzm c1, az8 (by simp only [List.length_cons, List.length_nil, bz1]; omega)]
    · rw [if_neg c1, dzn c1]
      by_cases c2 : v.Kind = 2
      · rw [if_pos c2, dzm c2]
      · rw [if_neg c2, dzn c2]
        by_cases c3 : k < d
        · rw [if_pos c3, az6 c3]
          refine congrArg (Option.bind _) (funext fun y => ?_)
          cases y.1 with
          | true =>
            simp only [cond_true]
            show Option.bind ((RecS.fix ezr n).o _) _ = _
            generalize (RecS.fix ezr n).o _ = oo
            cases oo <;> rfl
          | false => rfl
        · rw [if_neg c3, az5 c3]
theorem Tz6 : (xzd).o = some true := by kernel_rfl
open Go.Proofs
def rzy : azk := ⟨0, nl, ⟨0, 0, nl⟩, ⟨0, nl, nl⟩⟩
def Czd (ok : Bool) (ps : List azh) (W : XW) : azk :=
  bif ok then ⟨1, ps, ⟨0, 0, nl⟩, ⟨0, nl, nl⟩⟩ else ⟨W.1, W.2.1, ⟨W.2.2.1, W.2.2.2.1, W.2.2.2.2.1⟩, ⟨W.2.2.2.2.2.1, W.2.2.2.2.2.2.1, W.2.2.2.2.2.2.2⟩⟩
def W0 : XW := (0, nl, 0, 0, nl, 0, nl, nl)
def MO19 (y : aza × List Int × List Int × Int) : Prop := (0 ≤ y.2.2.2 ∧ y.2.2.2 < 6) ∧ y.2.1.length ≤ 3 ∧ y.2.2.1.length ≤ 3
theorem Ezb (l m n : List Int) (d : Int) (hl : l.length < 4294967296) (hm : m.length < 4294967296) (hn : n.length < 4294967296) : ∃ y, (nzx l m n d).o = some y ∧ MO19 y := by
  have e0 : (nzx l m n d).o = (nzy l m n d).run NN := rfl
  rw [e0]
  obtain ⟨s, es, s1, s2, s3⟩ := Jz1 l hl
  obtain ⟨p, ep, lp⟩ := xzg s.Robot m hm s2 s3
  obtain ⟨q, eq, lq⟩ := xzg s.Robot n hn s2 s3
  simp only [nzy, T.run]
  rw [es, Option.bind_some, ep, Option.bind_some, eq, Option.bind_some]
  have fin : ∀ q' : List Int, q'.length ≤ 3 → ∃ y, ((mzt (d.fdiv (2 ^ min (Int.toNat 4) 64)) 6).o.bind fun y70 => some (s, p, q', y70)) = some y ∧ MO19 y := by
    intro q' hq'
    rw [Azj (by decide) (by decide), Option.bind_some]
    exact ⟨_, rfl, by simp only; omega, by simp only; omega, hq'⟩
  cases IntKind.i64.wrap (((BitVec.ofInt 64 d &&& BitVec.ofInt 64 8).toNat : Nat) : Int) == 8
  · exact fin q (by omega)
  · simp only [cond_true]
    have hq : ∃ q' : List Int, (andK (iter (fun (x64 : List Int × Int) => (bif decide (x64.2 < ((x64.1.length : Nat) : Int)) then grd (0 ≤ x64.2 ∧ x64.2 < ((p.length : Nat) : Int)) (grd ((x64.2).toNat < p.length) (grd (0 ≤ x64.2 ∧ x64.2 < ((x64.1.length : Nat) : Int)) (grd ((x64.2).toNat < x64.1.length) (grd (0 ≤ x64.2 ∧ x64.2 < ((p.length : Nat) : Int)) (grd ((x64.2).toNat < p.length)
        (grd (0 ≤ x64.2 ∧ x64.2 < ((x64.1.length : Nat) : Int)) (grd ((x64.2).toNat < x64.1.length ∧ 0 ≤ (x64.2).toNat) (some (.next ((x64.1.set ((x64.2).toNat) (IntKind.i64.wrap ((p.getD ((x64.2).toNat) default) + IntKind.i64.wrap ((IntKind.i64.wrap ((x64.1.getD ((x64.2).toNat) default) - (p.getD ((x64.2).toNat) default))).tdiv 16)))), (IntKind.i64.wrap (x64.2 + 1)))))))))))) else some (.out x64.1) : Option (Step3 (List Int × Int) (List Int) (Step3 Unit (List Int) (aza × List Int × List Int × Int))))) NN (q, 0)) fun y67 => some (.out y67)) = some (.out q') ∧ q'.length ≤ 3 := by
      refine jz7 (g := fun b => Step3.out b) q.length (by omega) (fun j (y : List Int × Int) => y.1.length = q.length ∧ y.2 = (j : Int)) (fun (w : List Int) => w.length ≤ 3) ⟨rfl, rfl⟩ (fun j y hj hy => ?_) (fun y hy => ?_) (fun z hz => ⟨_, rfl, hz⟩)
      · obtain ⟨g1, g2⟩ := hy
        rw [g2, az6 (by omega), az8 ⟨by omega, by omega⟩, Int.toNat_natCast, az8 (by omega), az8 ⟨by omega, by omega⟩, az8 (by omega), az8 ⟨by omega, by omega⟩, az8 (by omega), az8 ⟨by omega, by omega⟩, az8 ⟨by omega, by omega⟩, wn (by omega)]
        exact ⟨_, rfl, by simp only [List.length_set]; exact g1, rfl⟩
      · obtain ⟨g1, g2⟩ := hy
        rw [g2, az5 (by omega)]; exact ⟨_, rfl, by omega⟩
    obtain ⟨q', e1, e2⟩ := hq
    rw [e1, az7]
    exact fin q' e2
open Go.Proofs
def TileF (d : Int) (np : Nat) : Int → List azh → Int → Prop
  | e, [], e' => e = e'
  | e, x :: l, e' => (0 ≤ x.Depth ∧ x.Depth ≤ d ∧ x.Normals.length = np ∧ x.Index * 2 ^ (d - x.Depth).toNat = e) ∧ TileF d np (e + 2 ^ (d - x.Depth).toNat) l e'
theorem TileF.append {d : Int} {np : Nat} : ∀ {l m : List azh} {a b c : Int}, TileF d np a l b → TileF d np b m c → TileF d np a (l ++ m) c
  | [], _, _, _, _, h, k => by have h : _ = _ := h; subst h; exact k
  | _ :: _, _, _, _, _, h, k => ⟨h.1, TileF.append h.2 k⟩
def Nzu (s : aza) (p q : List Int) (d : Int) (x : azh) : Prop := (0 ≤ x.Depth ∧ x.Depth ≤ d) ∧ (0 ≤ x.Index ∧ x.Index < 2 ^ x.Depth.toNat) ∧ Ozo s (dza p q x.Depth x.Index).1 x.Normals = true
def Uzy (s : aza) (p q : List Int) (d : Int) (W : XW) : Prop := W.2.1 = [] ∧ (0 ≤ W.2.2.1 ∧ W.2.2.1 ≤ d) ∧ (0 ≤ W.2.2.2.1 ∧ W.2.2.2.1 < 2 ^ W.2.2.1.toNat) ∧ W.2.2.2.2.1 = [] ∧
  ((W.1 = 0 ∧ W.2.2.2.2.2 = (0, [], [])) ∨ (W.1 = 2 ∧ Oze s (dza p q W.2.2.1 W.2.2.2.1).1 ⟨W.2.2.2.2.2.1, W.2.2.2.2.2.2.1, W.2.2.2.2.2.2.2⟩ = true ∧ W.2.2.2.2.2.2.1.length ≤ 8 ∧ W.2.2.2.2.2.2.2.length ≤ 8))
theorem Szj (s : aza) (p q : List Int) (hp : p.length < 4294967296) (hq : q.length < 4294967296) {d : Int} (h20 : d ≤ 20) :
    ∀ (f : Nat) (k i : Int) (h : List V3) (ps : List azh) (W : XW) (n : Nat), k + f = d → 0 ≤ k → 0 ≤ i → i < 2 ^ k.toNat → f + 1 ≤ n → h.length ≤ 576 → PsB ps →
      ∃ ok ps' W', exO n s p q d k i h ps W = some (exR ok ps' W' s p q d) ∧ PsB ps' ∧
        (ok = true → W' = W ∧ ∃ new, ps' = ps ++ new ∧ TileF d (bzj s).length (i * 2 ^ f) new ((i + 1) * 2 ^ f) ∧ ∀ x ∈ new, Nzu s p q d x) ∧
        (ok = false → Uzy s p q d W') := by
  intro f
  induction f using Nat.strongRecOn with
  | _ f ih =>
    intro k i h ps W n hk h0 i0 i1 hn hh hps
    obtain ⟨n, rfl⟩ : ∃ m, n = m + 1 := ⟨n - 1, by omega⟩
    have hv := nzk s (dza p q k i).1 h (by have := uzo p q k i; omega) (by omega)
    have v1 := Kzj s (dza p q k i).1 h
    have vc := Iza s (dza p q k i).1 h
    generalize clsV s (dza p q k i).1 h = v at hv v1 vc
    rw [Kzt n s p q d k i h ps W hp hq hv hps]
    have unk : Uzy s p q d (0, nl, k, i, nl, 0, nl, nl) := ⟨rfl, ⟨h0, by simp only; omega⟩, ⟨i0, i1⟩, rfl, .inl ⟨rfl, rfl⟩⟩
    by_cases c0 : 4096 ≤ ps.length
    · rw [if_pos c0]
      exact ⟨false, ps, _, rfl, hps, (fun h => by cases h), fun _ => unk⟩
    · rw [if_neg c0]
      by_cases c1 : v.Kind = 1
      · rw [if_pos c1]
        obtain ⟨-, -, fr⟩ : v.Witness = Hz4 ∧ (czp s = 0 ∧ boxV s.Robot (dza p q k i).1 = true) ∧ Ozo s (dza p q k i).1 v.Normals = true := by
          rcases vc with ⟨h1, -⟩ | ⟨-, h2⟩ | ⟨h1, -⟩
          · omega
          · exact h2
          · omega
        have fl : v.Normals.length = (bzj s).length := by
          simp only [Ozo, Bool.and_eq_true, decide_eq_true_eq] at fr; exact fr.2.2.1
        have e : (d - k).toNat = f := by omega
        refine ⟨true, _, W, rfl, ⟨by simp; omega, fun x hx => ?_⟩, fun _ => ⟨rfl, _, rfl, ⟨⟨h0, by simp only; omega, fl, by simp only [e]⟩, by simp only [TileF, e]; rw [Int.add_mul]; omega⟩, fun x hx => ?_⟩, (fun h => by cases h)⟩
        · rcases List.mem_append.1 hx with hx | hx
          · exact hps.2 x hx
          · simp at hx; subst hx; exact v1
        · simp at hx; subst hx; exact ⟨⟨h0, by simp only; omega⟩, ⟨i0, i1⟩, fr⟩
      · rw [if_neg c1]
        by_cases c2 : v.Kind = 2
        · rw [if_pos c2]
          obtain ⟨-, fr, l1, l2⟩ : v.Normals = [] ∧ Oze s (dza p q k i).1 v.Witness = true ∧ v.Witness.Left.length ≤ 8 ∧ v.Witness.Right.length ≤ 8 := by
            rcases vc with ⟨h1, -⟩ | ⟨h1, -⟩ | ⟨-, h2⟩
            · omega
            · omega
            · exact h2
          exact ⟨false, ps, _, rfl, hps, (fun h => by cases h), fun _ => ⟨rfl, ⟨h0, by simp only; omega⟩, ⟨i0, i1⟩, rfl, .inr ⟨rfl, fr, l1, l2⟩⟩⟩
        · rw [if_neg c2]
          by_cases c3 : k < d
          · rw [if_pos c3]
            obtain ⟨f, rfl⟩ : ∃ g, f = g + 1 := ⟨f - 1, by omega⟩
            have hp20 := Uz3 (k := k.toNat) (by omega)
            have hw : IntKind.i64.wrap (k + 1) = k + 1 := w64 (by omega) (by omega)
            have hw1 : IntKind.i64.wrap (2 * i) = 2 * i := w64 (by omega) (by omega)
            have hw2 : IntKind.i64.wrap (2 * i + 1) = 2 * i + 1 := w64 (by omega) (by omega)
            have hpk : (2 : Int) ^ (k + 1).toNat = 2 * 2 ^ k.toNat := by rw [show (k + 1).toNat = k.toNat + 1 by omega, Int.pow_succ]; omega
            rw [hw, hw1]
            obtain ⟨ok1, ps1, W1, e1, b1, b2, b3⟩ := ih f (by omega) (k + 1) (2 * i) v.Normals ps W n (by omega) (by omega) (by omega) (by rw [hpk]; omega) (by omega) v1 hps
            rw [e1]
            cases ok1 with
            | false => exact ⟨false, ps1, W1, rfl, b1, (fun h => by cases h), b3⟩
            | true =>
              obtain ⟨hWW, new1, rfl, t1, q1⟩ := b2 rfl
              subst hWW
              obtain ⟨ok2, ps2, W2, e2, d1, d2, d3⟩ := ih f (by omega) (k + 1) (2 * i + 1) v.Normals (ps ++ new1) W1 n (by omega) (by omega) (by omega) (by rw [hpk]; omega) (by omega) v1 b1
              refine ⟨ok2, ps2, W2, ?_, d1, fun hd => ?_, d3⟩
              · rw [← hw2] at e2; exact e2
              · obtain ⟨hW2, new2, rfl, t2, q2⟩ := d2 hd
                refine ⟨hW2, new1 ++ new2, by rw [List.append_assoc], ?_, fun x hx => (List.mem_append.1 hx).elim (q1 x) (q2 x)⟩
                have f1 : 2 * i * 2 ^ f = i * 2 ^ (f + 1) := by rw [Int.pow_succ, Int.mul_comm (2 ^ f) 2, ← Int.mul_assoc, Int.mul_comm i 2]
                have f2 : (2 * i + 1 + 1) * 2 ^ f = (i + 1) * 2 ^ (f + 1) := by rw [show 2 * i + 1 + 1 = 2 * (i + 1) by omega, Int.pow_succ, Int.mul_comm (2 ^ f) 2, ← Int.mul_assoc, Int.mul_comm (i + 1) 2]
                exact (f1 ▸ t1).append (f2 ▸ t2)
          · rw [if_neg c3]
            exact ⟨false, ps, _, rfl, hps, (fun h => by cases h), fun _ => unk⟩
def Cz6 (s : aza) (p q : List Int) : Bool := (czp s != 0) || (!fzo s.Robot p || !fzo s.Robot q)
theorem zzr (s : aza) (p q : List Int) (d : Int) (ok : Bool) (ps : List azh) (W : XW) (h0 : 0 ≤ d) (h1 : d ≤ 20)
    (he : exO NN s p q d 0 0 nl nl W0 = some (exR ok ps W s p q d)) : (dz9 s p q d).o = some (bif Cz6 s p q then rzy else Czd ok ps W) := by
  have ec : (vz7 0 0 nl nl 0 nl 0 0 nl 0 nl nl p q s.Robot.Joints s.Robot.Masses s.Shapes s.Skips d).o = some (exR ok ps W s p q d) := he
  have e0 : (ezj ⟨s.Robot, s.Shapes, s.Skips⟩).o = some (czp s) := iz0 s
  show (jzi s p q d).run NN = _
  simp only [jzi, T.run, e0, szl, Option.bind_some, azw, czr, az7, ec]
  rw [decide_eq_false (p := d < 0) (by omega), decide_eq_false (p := d > 20) (by omega)]
  unfold Cz6
  generalize ((czp s != 0) || (!fzo s.Robot p || !fzo s.Robot q)) = bad
  cases bad with
  | true => rfl
  | false => cases ok <;> rfl
structure ProveOk (s : aza) (p q : List Int) (d : Int) (r : azk) : Prop where
  kind : r.Kind = 0 ∨ r.Kind = 1 ∨ r.Kind = 2
  ready : r.Kind ≠ 0 → czp s = 0 ∧ fzo s.Robot p = true ∧ fzo s.Robot q = true
  tiles : r.Kind = 1 → TileF d (bzj s).length 0 r.Pieces (2 ^ d.toNat)
  free : r.Kind = 1 → ∀ x ∈ r.Pieces, Nzu s p q d x
  empty : r.Kind = 1 → r.At = ⟨0, 0, []⟩
  none : r.Kind ≠ 1 → r.Pieces = []
  depth : 0 ≤ r.At.Depth ∧ r.At.Depth ≤ d
  index : 0 ≤ r.At.Index ∧ r.At.Index < 2 ^ r.At.Depth.toNat
  norm : r.At.Normals = []
  coll : r.Kind = 2 → Oze s (dza p q r.At.Depth r.At.Index).1 r.Witness = true
  wit : r.Kind ≠ 2 → r.Witness = Hz4
  lens : r.Witness.Left.length ≤ 8 ∧ r.Witness.Right.length ≤ 8
  bd : PsB r.Pieces
theorem Pzp (s : aza) (p q : List Int) (hp : p.length < 4294967296) (hq : q.length < 4294967296) {d : Int} (h0 : 0 ≤ d) (h20 : d ≤ 20) :
    ∃ r, (dz9 s p q d).o = some r ∧ ProveOk s p q d r := by
  have nb : PsB nl := ⟨by simp [nl], by simp [nl]⟩
  obtain ⟨ok, ps, W, e1, b1, b2, b3⟩ := Szj s p q hp hq h20 d.toNat 0 0 nl nl W0 NN (by omega) (by omega) (by omega) (by decide) (by show _ ≤ 4294967296; omega) (by simp [nl]) nb
  refine ⟨_, zzr s p q d ok ps W h0 h20 e1, ?_⟩
  cases hb : Cz6 s p q with
  | true => exact ⟨.inl rfl, (fun h => absurd rfl h), (fun h => by cases h), (fun h => by cases h), (fun h => by cases h), fun _ => rfl, ⟨Int.le_refl _, h0⟩, ⟨Int.le_refl _, (show (0 : Int) < 2 ^ (0 : Int).toNat by decide)⟩, rfl, (fun h => by cases h), fun _ => rfl, ⟨by simp [rzy, nl], by simp [rzy, nl]⟩, nb⟩
  | false =>
    have rd : czp s = 0 ∧ fzo s.Robot p = true ∧ fzo s.Robot q = true := by
      simpa [Cz6] using hb
    cases ok with
    | true =>
      obtain ⟨_, new, hn, ht, hq⟩ := b2 rfl
      have hn : ps = new := hn
      subst hn
      have ht : TileF d (bzj s).length (0 * 2 ^ d.toNat) ps ((0 + 1) * 2 ^ d.toNat) := ht
      rw [Int.zero_mul, Int.zero_add, Int.one_mul] at ht
      exact ⟨.inr (.inl rfl), fun _ => rd, fun _ => ht, fun _ => hq, fun _ => rfl, (fun h => absurd rfl h), ⟨Int.le_refl _, h0⟩, ⟨Int.le_refl _, (show (0 : Int) < 2 ^ (0 : Int).toNat by decide)⟩, rfl, (fun h => by cases h), fun _ => rfl, ⟨by simp [Czd, nl], by simp [Czd, nl]⟩, b1⟩
    | false =>
      obtain ⟨c1, c2, c3, c4, c5⟩ := b3 rfl
      have pb : PsB W.2.1 := by rw [c1]; exact nb
      rcases c5 with ⟨k0, k1⟩ | ⟨k0, k1, k2, k3⟩
      · have w : (Czd false ps W).Witness = Hz4 := by
          show (⟨W.2.2.2.2.2.1, W.2.2.2.2.2.2.1, W.2.2.2.2.2.2.2⟩ : bz6) = Hz4
          rw [k1]; rfl
        refine ⟨.inl k0, (fun h => absurd k0 h), fun h => ?_, fun h => ?_, fun h => ?_, fun _ => c1, c2, c3, c4, fun h => ?_, fun _ => w, ?_, pb⟩
        · have h : W.1 = 1 := h; omega
        · have h : W.1 = 1 := h; omega
        · have h : W.1 = 1 := h; omega
        · have h : W.1 = 2 := h; omega
        · show (Czd false ps W).Witness.Left.length ≤ 8 ∧ (Czd false ps W).Witness.Right.length ≤ 8
          rw [w]; simp [Hz4, nl]
      · refine ⟨.inr (.inr k0), fun _ => rd, fun h => ?_, fun h => ?_, fun h => ?_, fun _ => c1, c2, c3, c4, fun _ => k1, fun h => absurd k0 h, ⟨k2, k3⟩, pb⟩
        · have h : W.1 = 1 := h; omega
        · have h : W.1 = 1 := h; omega
        · have h : W.1 = 1 := h; omega
end Go.Abs
