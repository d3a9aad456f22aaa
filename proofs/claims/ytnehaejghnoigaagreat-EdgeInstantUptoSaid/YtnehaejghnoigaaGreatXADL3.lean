/-
  DL3 (a part of a claim: our own text).
-/
import Derived.Test.YtnehaejghnoigaaGreatXADL2
import Derived.Test.YtnehaejghnoigaaGreatXAD3
namespace Go.Abs
open Go.Proofs
theorem same_vec (l : List V3) (h : l.length < 4294967296) : (make_Same_api_Vec_C l l).o = some true := by
  show (make_Same_api_Vec_T l l).run NN = _
  simp only [make_Same_api_Vec_T, T.run]
  rw [bif_nne rfl]
  refine (loop_to (fun j => (j : Int)) U0.u l.length rfl h (fun j hj => ?_) ?_).trans rfl
  · rw [bif_dpos (by omega), grd_p (by omega), grd_p (by omega), wn (by omega)]
    simp only [beq_self_eq_true, Bool.and_self, Bool.not_true, cond_false]
  · rw [bif_dneg (by omega)]
theorem same_int (l : List Int) (h : l.length < 4294967296) : (make_Same_int64_C l l).o = some true := by
  show (make_Same_int64_T l l).run NN = _
  simp only [make_Same_int64_T, T.run]
  rw [bif_nne rfl]
  refine (loop_to (fun j => (j : Int)) U0.u l.length rfl h (fun j hj => ?_) ?_).trans rfl
  · rw [bif_dpos (by omega), grd_p (by omega), grd_p (by omega), wn (by omega), bif_nne rfl]
  · rw [bif_dneg (by omega)]
theorem same_witness (w : S_Witness) (h1 : w.Left.length < 4294967296) (h2 : w.Right.length < 4294967296) : (make_SameWitness_C w w).o = some true := by
  show (make_SameWitness_T w w).run NN = _
  simp only [make_SameWitness_T, T.run, beq_self_eq_true, cond_true]
  rw [same_int _ h1]
  simp only [Option.bind_some, cond_true]
  rw [same_int _ h2]; rfl
theorem pieceV_len (p q : List Int) (k i : Int) : (pieceV p q k i).1.length ≤ p.length := by
  unfold pieceV
  split
  · simp [tab_len]
  · simp [nl]
abbrev XW := Int × List S_Piece × Int × Int × List V3 × Int × List Int × List Int
noncomputable abbrev exO (n : Nat) (s : S_Scene) (p q : List Int) (d k i : Int) (h : List V3) (ps : List S_Piece) (W : XW) :=
  (RecS.fix edge_Prove_2_S n).o (k, i, h, ps, W.1, W.2.1, W.2.2.1, W.2.2.2.1, W.2.2.2.2.1, W.2.2.2.2.2.1, W.2.2.2.2.2.2.1, W.2.2.2.2.2.2.2, p, q, s.Robot.Joints, s.Robot.Masses, s.Shapes, s.Skips, d)
abbrev exR (ok : Bool) (ps : List S_Piece) (W : XW) (s : S_Scene) (p q : List Int) (d : Int) :=
  (ok, ps, W.1, W.2.1, W.2.2.1, W.2.2.2.1, W.2.2.2.2.1, W.2.2.2.2.2.1, W.2.2.2.2.2.2.1, W.2.2.2.2.2.2.2, p, q, s.Robot.Joints, s.Robot.Masses, s.Shapes, s.Skips, d)
def PsB (ps : List S_Piece) : Prop := ps.length ≤ 4096 ∧ ∀ x ∈ ps, x.Normals.length ≤ 576
theorem ex_step (n : Nat) (s : S_Scene) (p q : List Int) (d k i : Int) (h : List V3) (ps : List S_Piece) (W : XW) (hp : p.length < 4294967296) (hq : q.length < 4294967296) {v : S_Verdict} (hv : (classify_Box_C s (pieceV p q k i).1 h).o = some v) (hps : PsB ps) :
    exO (n + 1) s p q d k i h ps W = if 4096 ≤ ps.length then some (exR false ps (0, nl, k, i, nl, 0, nl, nl) s p q d) else
      if v.Kind = 1 then some (exR true (ps ++ [⟨k, i, v.Normals⟩]) W s p q d) else
      if v.Kind = 2 then some (exR false ps (2, nl, k, i, nl, v.Witness.Pair, v.Witness.Left, v.Witness.Right) s p q d) else
      if k < d then ((exO n s p q d (IntKind.i64.wrap (k + 1)) (IntKind.i64.wrap (2 * i)) v.Normals ps W).bind fun y => bif y.1 then (RecS.fix edge_Prove_2_S n).o (IntKind.i64.wrap (k + 1), IntKind.i64.wrap (IntKind.i64.wrap (2 * i) + 1), v.Normals, y.2.1, y.2.2.1, y.2.2.2.1, y.2.2.2.2.1, y.2.2.2.2.2.1, y.2.2.2.2.2.2.1, y.2.2.2.2.2.2.2.1, y.2.2.2.2.2.2.2.2.1, y.2.2.2.2.2.2.2.2.2.1, y.2.2.2.2.2.2.2.2.2.2.1, y.2.2.2.2.2.2.2.2.2.2.2.1, y.2.2.2.2.2.2.2.2.2.2.2.2.1, y.2.2.2.2.2.2.2.2.2.2.2.2.2.1, y.2.2.2.2.2.2.2.2.2.2.2.2.2.2.1, y.2.2.2.2.2.2.2.2.2.2.2.2.2.2.2.1, y.2.2.2.2.2.2.2.2.2.2.2.2.2.2.2.2) else some (false, y.2)) else
      some (exR false ps (0, nl, k, i, nl, 0, nl, nl) s p q d) := by
  show (edge_Prove_2_T (RecS.fix edge_Prove_2_S n) k i h ps W.1 W.2.1 W.2.2.1 W.2.2.2.1 W.2.2.2.2.1 W.2.2.2.2.2.1 W.2.2.2.2.2.2.1 W.2.2.2.2.2.2.2 p q s.Robot.Joints s.Robot.Masses s.Shapes s.Skips d).run NN = _
  have hb : (classify_Box_C (⟨⟨s.Robot.Joints, s.Robot.Masses⟩, s.Shapes, s.Skips⟩ : S_Scene) (pieceV p q k i).1 h).o = some v := hv
  simp only [edge_Prove_2_T, T.run, config_Piece_e p q k i hp hq, Option.bind_some, hb]
  obtain ⟨l1, _⟩ := hps
  by_cases c0 : 4096 ≤ ps.length
  · rw [if_pos c0, bif_dpos (by omega)]
  · rw [if_neg c0, bif_dneg (by omega)]
    by_cases c1 : v.Kind = 1
    · rw [if_pos c1, bif_eq c1, grd_p (by simp only [List.length_cons, List.length_nil, maxLen_eq]; omega)]
    · rw [if_neg c1, bif_ne c1]
      by_cases c2 : v.Kind = 2
      · rw [if_pos c2, bif_eq c2]
      · rw [if_neg c2, bif_ne c2]
        by_cases c3 : k < d
        · rw [if_pos c3, bif_dpos c3]
          refine congrArg (Option.bind _) (funext fun y => ?_)
          cases y.1 with
          | true =>
            simp only [cond_true]
            show Option.bind ((RecS.fix edge_Prove_2_S n).o _) _ = _
            generalize (RecS.fix edge_Prove_2_S n).o _ = oo
            cases oo <;> rfl
          | false => rfl
        · rw [if_neg c3, bif_dneg c3]
theorem awake19 : (law19_awake_C).o = some true := by kernel_rfl
open Go.Proofs
def noEdge : S_EdgeResult := ⟨0, nl, ⟨0, 0, nl⟩, ⟨0, nl, nl⟩⟩
def edgeOf (ok : Bool) (ps : List S_Piece) (W : XW) : S_EdgeResult :=
  bif ok then ⟨1, ps, ⟨0, 0, nl⟩, ⟨0, nl, nl⟩⟩ else ⟨W.1, W.2.1, ⟨W.2.2.1, W.2.2.2.1, W.2.2.2.2.1⟩, ⟨W.2.2.2.2.2.1, W.2.2.2.2.2.2.1, W.2.2.2.2.2.2.2⟩⟩
def W0 : XW := (0, nl, 0, 0, nl, 0, nl, nl)
def MO19 (y : S_Scene × List Int × List Int × Int) : Prop := (0 ≤ y.2.2.2 ∧ y.2.2.2 < 6) ∧ y.2.1.length ≤ 3 ∧ y.2.2.1.length ≤ 3
theorem law19_motion_x (l m n : List Int) (d : Int) (hl : l.length < 4294967296) (hm : m.length < 4294967296) (hn : n.length < 4294967296) : ∃ y, (law19_motion_C l m n d).o = some y ∧ MO19 y := by
  have e0 : (law19_motion_C l m n d).o = (law19_motion_T l m n d).run NN := rfl
  rw [e0]
  obtain ⟨s, es, s1, s2, s3⟩ := make_Scene_x l hl
  obtain ⟨p, ep, lp⟩ := make_Config_x s.Robot m hm s2 s3
  obtain ⟨q, eq, lq⟩ := make_Config_x s.Robot n hn s2 s3
  simp only [law19_motion_T, T.run]
  rw [es, Option.bind_some, ep, Option.bind_some, eq, Option.bind_some]
  have fin : ∀ q' : List Int, q'.length ≤ 3 → ∃ y, ((make_Round_C (d.fdiv (2 ^ min (Int.toNat 4) 64)) 6).o.bind fun y70 => some (s, p, q', y70)) = some y ∧ MO19 y := by
    intro q' hq'
    rw [make_Round_e (by decide) (by decide), Option.bind_some]
    exact ⟨_, rfl, by simp only; omega, by simp only; omega, hq'⟩
  cases IntKind.i64.wrap (((BitVec.ofInt 64 d &&& BitVec.ofInt 64 8).toNat : Nat) : Int) == 8
  · exact fin q (by omega)
  · simp only [cond_true]
    have hq : ∃ q' : List Int, (andK (iter (fun (x64 : List Int × Int) => (bif decide (x64.2 < ((x64.1.length : Nat) : Int)) then grd (0 ≤ x64.2 ∧ x64.2 < ((p.length : Nat) : Int)) (grd ((x64.2).toNat < p.length) (grd (0 ≤ x64.2 ∧ x64.2 < ((x64.1.length : Nat) : Int)) (grd ((x64.2).toNat < x64.1.length) (grd (0 ≤ x64.2 ∧ x64.2 < ((p.length : Nat) : Int)) (grd ((x64.2).toNat < p.length)
        (grd (0 ≤ x64.2 ∧ x64.2 < ((x64.1.length : Nat) : Int)) (grd ((x64.2).toNat < x64.1.length ∧ 0 ≤ (x64.2).toNat) (some (.next ((x64.1.set ((x64.2).toNat) (IntKind.i64.wrap ((p.getD ((x64.2).toNat) default) + IntKind.i64.wrap ((IntKind.i64.wrap ((x64.1.getD ((x64.2).toNat) default) - (p.getD ((x64.2).toNat) default))).tdiv 16)))), (IntKind.i64.wrap (x64.2 + 1)))))))))))) else some (.out x64.1) : Option (Step3 (List Int × Int) (List Int) (Step3 Unit (List Int) (S_Scene × List Int × List Int × Int))))) NN (q, 0)) fun y67 => some (.out y67)) = some (.out q') ∧ q'.length ≤ 3 := by
      refine loop_cnt (g := fun b => Step3.out b) q.length (by omega) (fun j (y : List Int × Int) => y.1.length = q.length ∧ y.2 = (j : Int)) (fun (w : List Int) => w.length ≤ 3) ⟨rfl, rfl⟩ (fun j y hj hy => ?_) (fun y hy => ?_) (fun z hz => ⟨_, rfl, hz⟩)
      · obtain ⟨g1, g2⟩ := hy
        rw [g2, bif_dpos (by omega), grd_p ⟨by omega, by omega⟩, Int.toNat_natCast, grd_p (by omega), grd_p ⟨by omega, by omega⟩, grd_p (by omega), grd_p ⟨by omega, by omega⟩, grd_p (by omega), grd_p ⟨by omega, by omega⟩, grd_p ⟨by omega, by omega⟩, wn (by omega)]
        exact ⟨_, rfl, by simp only [List.length_set]; exact g1, rfl⟩
      · obtain ⟨g1, g2⟩ := hy
        rw [g2, bif_dneg (by omega)]; exact ⟨_, rfl, by omega⟩
    obtain ⟨q', e1, e2⟩ := hq
    rw [e1, andC_out]
    exact fin q' e2
open Go.Proofs
def TileF (d : Int) (np : Nat) : Int → List S_Piece → Int → Prop
  | e, [], e' => e = e'
  | e, x :: l, e' => (0 ≤ x.Depth ∧ x.Depth ≤ d ∧ x.Normals.length = np ∧ x.Index * 2 ^ (d - x.Depth).toNat = e) ∧ TileF d np (e + 2 ^ (d - x.Depth).toNat) l e'
theorem TileF.append {d : Int} {np : Nat} : ∀ {l m : List S_Piece} {a b c : Int}, TileF d np a l b → TileF d np b m c → TileF d np a (l ++ m) c
  | [], _, _, _, _, h, k => by have h : _ = _ := h; subst h; exact k
  | _ :: _, _, _, _, _, h, k => ⟨h.1, TileF.append h.2 k⟩
theorem TileF.le {d : Int} {np : Nat} : ∀ {l : List S_Piece} {a b : Int}, TileF d np a l b → a ≤ b
  | [], _, _, h => Int.le_of_eq h
  | x :: l, a, b, h => by
    have := TileF.le h.2
    have : (0 : Int) < 2 ^ (d - x.Depth).toNat := Int.pow_pos (by omega)
    omega
def PieceOk (s : S_Scene) (p q : List Int) (d : Int) (x : S_Piece) : Prop := (0 ≤ x.Depth ∧ x.Depth ≤ d) ∧ (0 ≤ x.Index ∧ x.Index < 2 ^ x.Depth.toNat) ∧ freeV s (pieceV p q x.Depth x.Index).1 x.Normals = true
def OutOk (s : S_Scene) (p q : List Int) (d : Int) (W : XW) : Prop := W.2.1 = [] ∧ (0 ≤ W.2.2.1 ∧ W.2.2.1 ≤ d) ∧ (0 ≤ W.2.2.2.1 ∧ W.2.2.2.1 < 2 ^ W.2.2.1.toNat) ∧ W.2.2.2.2.1 = [] ∧
  ((W.1 = 0 ∧ W.2.2.2.2.2 = (0, [], [])) ∨ (W.1 = 2 ∧ collV s (pieceV p q W.2.2.1 W.2.2.2.1).1 ⟨W.2.2.2.2.2.1, W.2.2.2.2.2.2.1, W.2.2.2.2.2.2.2⟩ = true ∧ W.2.2.2.2.2.2.1.length ≤ 8 ∧ W.2.2.2.2.2.2.2.length ≤ 8))
theorem ex_all (s : S_Scene) (p q : List Int) (hp : p.length < 4294967296) (hq : q.length < 4294967296) {d : Int} (h20 : d ≤ 20) :
    ∀ (f : Nat) (k i : Int) (h : List V3) (ps : List S_Piece) (W : XW) (n : Nat), k + f = d → 0 ≤ k → 0 ≤ i → i < 2 ^ k.toNat → f + 1 ≤ n → h.length ≤ 576 → PsB ps →
      ∃ ok ps' W', exO n s p q d k i h ps W = some (exR ok ps' W' s p q d) ∧ PsB ps' ∧
        (ok = true → W' = W ∧ ∃ new, ps' = ps ++ new ∧ TileF d (pairsV s).length (i * 2 ^ f) new ((i + 1) * 2 ^ f) ∧ ∀ x ∈ new, PieceOk s p q d x) ∧
        (ok = false → OutOk s p q d W') := by
  intro f
  induction f using Nat.strongRecOn with
  | _ f ih =>
    intro k i h ps W n hk h0 i0 i1 hn hh hps
    obtain ⟨n, rfl⟩ : ∃ m, n = m + 1 := ⟨n - 1, by omega⟩
    have hv := classify_Box_e s (pieceV p q k i).1 h (by have := pieceV_len p q k i; omega) (by omega)
    have v1 := cls_len s (pieceV p q k i).1 h
    have vc := cls_cases s (pieceV p q k i).1 h
    generalize clsV s (pieceV p q k i).1 h = v at hv v1 vc
    rw [ex_step n s p q d k i h ps W hp hq hv hps]
    have unk : OutOk s p q d (0, nl, k, i, nl, 0, nl, nl) := ⟨rfl, ⟨h0, by simp only; omega⟩, ⟨i0, i1⟩, rfl, .inl ⟨rfl, rfl⟩⟩
    by_cases c0 : 4096 ≤ ps.length
    · rw [if_pos c0]
      exact ⟨false, ps, _, rfl, hps, (fun h => by cases h), fun _ => unk⟩
    · rw [if_neg c0]
      by_cases c1 : v.Kind = 1
      · rw [if_pos c1]
        obtain ⟨-, -, fr⟩ : v.Witness = noWit ∧ (sceneV s = 0 ∧ boxV s.Robot (pieceV p q k i).1 = true) ∧ freeV s (pieceV p q k i).1 v.Normals = true := by
          rcases vc with ⟨h1, -⟩ | ⟨-, h2⟩ | ⟨h1, -⟩
          · omega
          · exact h2
          · omega
        have fl : v.Normals.length = (pairsV s).length := by
          simp only [freeV, Bool.and_eq_true, decide_eq_true_eq] at fr; exact fr.2.2.1
        have e : (d - k).toNat = f := by omega
        refine ⟨true, _, W, rfl, ⟨by simp; omega, fun x hx => ?_⟩, fun _ => ⟨rfl, _, rfl, ⟨⟨h0, by simp only; omega, fl, by simp only [e]⟩, by simp only [TileF, e]; rw [Int.add_mul]; omega⟩, fun x hx => ?_⟩, (fun h => by cases h)⟩
        · rcases List.mem_append.1 hx with hx | hx
          · exact hps.2 x hx
          · simp at hx; subst hx; exact v1
        · simp at hx; subst hx; exact ⟨⟨h0, by simp only; omega⟩, ⟨i0, i1⟩, fr⟩
      · rw [if_neg c1]
        by_cases c2 : v.Kind = 2
        · rw [if_pos c2]
          obtain ⟨-, fr, l1, l2⟩ : v.Normals = [] ∧ collV s (pieceV p q k i).1 v.Witness = true ∧ v.Witness.Left.length ≤ 8 ∧ v.Witness.Right.length ≤ 8 := by
            rcases vc with ⟨h1, -⟩ | ⟨h1, -⟩ | ⟨-, h2⟩
            · omega
            · omega
            · exact h2
          exact ⟨false, ps, _, rfl, hps, (fun h => by cases h), fun _ => ⟨rfl, ⟨h0, by simp only; omega⟩, ⟨i0, i1⟩, rfl, .inr ⟨rfl, fr, l1, l2⟩⟩⟩
        · rw [if_neg c2]
          by_cases c3 : k < d
          · rw [if_pos c3]
            obtain ⟨f, rfl⟩ : ∃ g, f = g + 1 := ⟨f - 1, by omega⟩
            have hp20 := pow20 (k := k.toNat) (by omega)
            have hw : IntKind.i64.wrap (k + 1) = k + 1 := w64 (by omega) (by omega)
            have hw1 : IntKind.i64.wrap (2 * i) = 2 * i := w64 (by omega) (by omega)
            have hw2 : IntKind.i64.wrap (2 * i + 1) = 2 * i + 1 := w64 (by omega) (by omega)
            have hpk : (2 : Int) ^ (k + 1).toNat = 2 * 2 ^ k.toNat := by rw [show (k + 1).toNat = k.toNat + 1 by omega, Int.pow_succ]; omega
            rw [hw, hw1]
            obtain ⟨ok1, ps1, W1, e1, b1, b2, b3⟩ := ih f (by omega) (k + 1) (2 * i) v.Normals ps W n (by omega) (by omega) (by omega) (by rw [hpk]; omega) (by omega) v1 hps
            rw [e1]
            cases ok1 with
            | false => exact ⟨false, ps1, W1, rfl, b1, (fun h => by cases h), b3⟩
            | true =>
              obtain ⟨hWW, new1, rfl, t1, q1⟩ := b2 rfl
              subst hWW
              obtain ⟨ok2, ps2, W2, e2, d1, d2, d3⟩ := ih f (by omega) (k + 1) (2 * i + 1) v.Normals (ps ++ new1) W1 n (by omega) (by omega) (by omega) (by rw [hpk]; omega) (by omega) v1 b1
              refine ⟨ok2, ps2, W2, ?_, d1, fun hd => ?_, d3⟩
              · rw [← hw2] at e2; exact e2
              · obtain ⟨hW2, new2, rfl, t2, q2⟩ := d2 hd
                refine ⟨hW2, new1 ++ new2, by rw [List.append_assoc], ?_, fun x hx => (List.mem_append.1 hx).elim (q1 x) (q2 x)⟩
                have f1 : 2 * i * 2 ^ f = i * 2 ^ (f + 1) := by rw [Int.pow_succ, Int.mul_comm (2 ^ f) 2, ← Int.mul_assoc, Int.mul_comm i 2]
                have f2 : (2 * i + 1 + 1) * 2 ^ f = (i + 1) * 2 ^ (f + 1) := by rw [show 2 * i + 1 + 1 = 2 * (i + 1) by omega, Int.pow_succ, Int.mul_comm (2 ^ f) 2, ← Int.mul_assoc, Int.mul_comm (i + 1) 2]
                exact (f1 ▸ t1).append (f2 ▸ t2)
          · rw [if_neg c3]
            exact ⟨false, ps, _, rfl, hps, (fun h => by cases h), fun _ => unk⟩
def badM19 (s : S_Scene) (p q : List Int) : Bool := (sceneV s != 0) || (!insideV s.Robot p || !insideV s.Robot q)
theorem prove_run2 (s : S_Scene) (p q : List Int) (d : Int) (ok : Bool) (ps : List S_Piece) (W : XW) (h0 : 0 ≤ d) (h1 : d ≤ 20)
    (he : exO NN s p q d 0 0 nl nl W0 = some (exR ok ps W s p q d)) : (edge_Prove_C s p q d).o = some (bif badM19 s p q then noEdge else edgeOf ok ps W) := by
  have ec : (edge_Prove_2_C 0 0 nl nl 0 nl 0 0 nl 0 nl nl p q s.Robot.Joints s.Robot.Masses s.Shapes s.Skips d).o = some (exR ok ps W s p q d) := he
  have e0 : (scene_Check_C ⟨s.Robot, s.Shapes, s.Skips⟩).o = some (sceneV s) := scene_Check_e s
  show (edge_Prove_T s p q d).run NN = _
  simp only [edge_Prove_T, T.run, e0, config_Inside_e, Option.bind_some, bif_out, bif_tb, andC_out, ec]
  rw [decide_eq_false (p := d < 0) (by omega), decide_eq_false (p := d > 20) (by omega)]
  unfold badM19
  generalize ((sceneV s != 0) || (!insideV s.Robot p || !insideV s.Robot q)) = bad
  cases bad with
  | true => rfl
  | false => cases ok <;> rfl
structure ProveOk (s : S_Scene) (p q : List Int) (d : Int) (r : S_EdgeResult) : Prop where
  kind : r.Kind = 0 ∨ r.Kind = 1 ∨ r.Kind = 2
  ready : r.Kind ≠ 0 → sceneV s = 0 ∧ insideV s.Robot p = true ∧ insideV s.Robot q = true
  tiles : r.Kind = 1 → TileF d (pairsV s).length 0 r.Pieces (2 ^ d.toNat)
  free : r.Kind = 1 → ∀ x ∈ r.Pieces, PieceOk s p q d x
  empty : r.Kind = 1 → r.At = ⟨0, 0, []⟩
  none : r.Kind ≠ 1 → r.Pieces = []
  depth : 0 ≤ r.At.Depth ∧ r.At.Depth ≤ d
  index : 0 ≤ r.At.Index ∧ r.At.Index < 2 ^ r.At.Depth.toNat
  norm : r.At.Normals = []
  coll : r.Kind = 2 → collV s (pieceV p q r.At.Depth r.At.Index).1 r.Witness = true
  wit : r.Kind ≠ 2 → r.Witness = noWit
  lens : r.Witness.Left.length ≤ 8 ∧ r.Witness.Right.length ≤ 8
  bd : PsB r.Pieces
theorem prove_all (s : S_Scene) (p q : List Int) (hp : p.length < 4294967296) (hq : q.length < 4294967296) {d : Int} (h0 : 0 ≤ d) (h20 : d ≤ 20) :
    ∃ r, (edge_Prove_C s p q d).o = some r ∧ ProveOk s p q d r := by
  have nb : PsB nl := ⟨by simp [nl], by simp [nl]⟩
  obtain ⟨ok, ps, W, e1, b1, b2, b3⟩ := ex_all s p q hp hq h20 d.toNat 0 0 nl nl W0 NN (by omega) (by omega) (by omega) (by decide) (by show _ ≤ 4294967296; omega) (by simp [nl]) nb
  refine ⟨_, prove_run2 s p q d ok ps W h0 h20 e1, ?_⟩
  cases hb : badM19 s p q with
  | true => exact ⟨.inl rfl, (fun h => absurd rfl h), (fun h => by cases h), (fun h => by cases h), (fun h => by cases h), fun _ => rfl, ⟨Int.le_refl _, h0⟩, ⟨Int.le_refl _, (show (0 : Int) < 2 ^ (0 : Int).toNat by decide)⟩, rfl, (fun h => by cases h), fun _ => rfl, ⟨by simp [noEdge, nl], by simp [noEdge, nl]⟩, nb⟩
  | false =>
    have rd : sceneV s = 0 ∧ insideV s.Robot p = true ∧ insideV s.Robot q = true := by
      simpa [badM19] using hb
    cases ok with
    | true =>
      obtain ⟨_, new, hn, ht, hq⟩ := b2 rfl
      have hn : ps = new := hn
      subst hn
      have ht : TileF d (pairsV s).length (0 * 2 ^ d.toNat) ps ((0 + 1) * 2 ^ d.toNat) := ht
      rw [Int.zero_mul, Int.zero_add, Int.one_mul] at ht
      exact ⟨.inr (.inl rfl), fun _ => rd, fun _ => ht, fun _ => hq, fun _ => rfl, (fun h => absurd rfl h), ⟨Int.le_refl _, h0⟩, ⟨Int.le_refl _, (show (0 : Int) < 2 ^ (0 : Int).toNat by decide)⟩, rfl, (fun h => by cases h), fun _ => rfl, ⟨by simp [edgeOf, nl], by simp [edgeOf, nl]⟩, b1⟩
    | false =>
      obtain ⟨c1, c2, c3, c4, c5⟩ := b3 rfl
      have pb : PsB W.2.1 := by rw [c1]; exact nb
      rcases c5 with ⟨k0, k1⟩ | ⟨k0, k1, k2, k3⟩
      · have w : (edgeOf false ps W).Witness = noWit := by
          show (⟨W.2.2.2.2.2.1, W.2.2.2.2.2.2.1, W.2.2.2.2.2.2.2⟩ : S_Witness) = noWit
          rw [k1]; rfl
        refine ⟨.inl k0, (fun h => absurd k0 h), fun h => ?_, fun h => ?_, fun h => ?_, fun _ => c1, c2, c3, c4, fun h => ?_, fun _ => w, ?_, pb⟩
        · have h : W.1 = 1 := h; omega
        · have h : W.1 = 1 := h; omega
        · have h : W.1 = 1 := h; omega
        · have h : W.1 = 2 := h; omega
        · show (edgeOf false ps W).Witness.Left.length ≤ 8 ∧ (edgeOf false ps W).Witness.Right.length ≤ 8
          rw [w]; simp [noWit, nl]
      · refine ⟨.inr (.inr k0), fun _ => rd, fun h => ?_, fun h => ?_, fun h => ?_, fun _ => c1, c2, c3, c4, fun _ => k1, fun h => absurd k0 h, ⟨k2, k3⟩, pb⟩
        · have h : W.1 = 1 := h; omega
        · have h : W.1 = 1 := h; omega
        · have h : W.1 = 1 := h; omega
open Go.Proofs
theorem shl1 {t : Int} (h0 : 0 ≤ t) (h1 : t ≤ 20) : IntKind.i64.wrap (1 * 2 ^ (min (IntKind.u64.wrap t).toNat 64)) = 2 ^ t.toNat := by
  rw [u64w h0 (by omega), show min t.toNat 64 = t.toNat by omega, Int.one_mul]
  have := pow20 (k := t.toNat) (by omega)
  have : (0 : Int) < 2 ^ t.toNat := Int.pow_pos (by omega)
  exact w64 (by omega) (by omega)
theorem pow9 {k : Int} (h0 : 0 ≤ k) (h1 : k ≤ 20) : 1 ≤ (2 : Int) ^ k.toNat ∧ (2 : Int) ^ k.toNat ≤ 1048576 := by
  have := pow20 (k := k.toNat) (by omega)
  have := two_pow_pos k.toNat
  omega
theorem edgeCovers_true (l m n : List Int) (depth : Int) (hl : l.length < 4294967296) (hm : m.length < 4294967296) (hn : n.length < 4294967296) : (law19_EdgeCovers_C l m n depth).o = some true := by
  suffices h : ∃ r, (law19_EdgeCovers_C l m n depth).o = some r ∧ r = true by
    obtain ⟨r, h1, rfl⟩ := h; exact h1
  show ∃ r, (law19_EdgeCovers_T l m n depth).run NN = some r ∧ r = true
  obtain ⟨⟨s, p, q, d⟩, e1, ⟨d0, d1⟩, lp, lq⟩ := law19_motion_x l m n depth hl hm hn
  simp only at d0 d1 lp lq
  obtain ⟨r, e2, ok⟩ := prove_all s p q (by omega) (by omega) (d := d) d0 (by omega)
  simp only [law19_EdgeCovers_T, T.run, e1, e2, Option.bind_some, awake19, cond_true, ref6_Pairs_e]
  by_cases c : r.Kind = 1
  · rw [bif_nne c]
    have hT := ok.tiles c
    have hlen : r.Pieces.length ≤ 4096 := ok.bd.1
    refine loop_mf (P := fun r => r = true) (fun k (x : Int × Int) => ∃ j : Nat, x.2 = (j : Int) ∧ j + k = r.Pieces.length ∧ 0 ≤ x.1 ∧ TileF d (pairsV s).length x.1 (r.Pieces.drop j) (2 ^ d.toNat)) (fun y : Int => y = 2 ^ d.toNat) r.Pieces.length ⟨0, rfl, by omega, Int.le_refl _, hT⟩ (by omega) ?_ ?_
    · rintro k ⟨e, i⟩ ⟨j, hj, hk, he, ht⟩
      simp only at hj he ht ⊢
      subst hj
      cases k with
      | zero =>
        rw [List.drop_eq_nil_of_le (by omega)] at ht
        exact .inr (.inl ⟨e, by rw [bif_dneg (by omega)], ht⟩)
      | succ k =>
        have hjl : j < r.Pieces.length := by omega
        rw [List.drop_eq_getElem_cons hjl] at ht
        obtain ⟨⟨t1, t2, t3, t4⟩, t5⟩ := ht
        have hg : r.Pieces.getD j default = r.Pieces[j] := by simp [List.getD_eq_getElem?_getD, hjl]
        have hle := t5.le
        have hp20 := pow20 (k := d.toNat) (by omega)
        have hpp : (0 : Int) < 2 ^ (d - r.Pieces[j].Depth).toNat := Int.pow_pos (by omega)
        have hz : IntKind.i64.wrap (d - r.Pieces[j].Depth) = d - r.Pieces[j].Depth := w64 (by omega) (by omega)
        have hs : IntKind.i64.wrap (e + 2 ^ (d - r.Pieces[j].Depth).toNat) = e + 2 ^ (d - r.Pieces[j].Depth).toNat := w64 (by omega) (by omega)
        have hee : IntKind.i64.wrap e = e := w64 (by omega) (by omega)
        rw [bif_dpos (by omega), grd_p (by omega), Int.toNat_natCast, hg, bif_dneg (by omega), bif_dneg (by omega), andC_out, bif_nne (by rw [t3]), hz,
          grd_p (by rw [u64w (by omega) (by omega)]; omega), shl1 (by omega) (by omega), t4, hee, bif_nne rfl, hs, wn (by omega)]
        exact .inl ⟨_, k, rfl, Nat.lt_succ_self k, j + 1, rfl, by omega, by simp only; omega, t5⟩
    · rintro y rfl
      rw [grd_p (by rw [u64w d0 (by omega)]; exact d0), shl1 d0 (by omega)]
      exact ⟨_, rfl, by simp⟩
  · rw [bif_neq c]
    simp only [ok.none c, ok.norm, List.length_nil]
    rw [bif_eq (by rfl), bif_dpos ok.depth.2]
    exact ⟨_, rfl, rfl⟩
end Go.Abs
