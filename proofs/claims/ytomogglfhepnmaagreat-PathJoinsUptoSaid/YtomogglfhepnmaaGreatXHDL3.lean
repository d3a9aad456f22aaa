/-
  DL3 (a part of a claim: our own text).
-/
import Derived.Test.YtomogglfhepnmaaGreatXHDL2
namespace Go.Abs
open Go.Proofs
theorem same_vec (l : List V3) (h : l.length < 4294967296) : (make_Same_api_Vec_C l l).o = some true := by
  show (make_Same_api_Vec_T l l).run NN = _
  simp only [make_Same_api_Vec_T, T.run]
  rw [bif_nne rfl]
  refine (loop_to (fun j => (j : Int)) U0.u l.length rfl h (fun j hj => ?_) ?_).trans rfl
  · rw [bif_dpos (by omega), grd_p (by omega), grd_p (by omega), wn (by omega)]
    simp only [beq_self_eq_true, Bool.and_self, Bool.not_true, cond_false]
  · rw [bif_dneg (by omega)]
theorem pieceV_len (p q : List Int) (k i : Int) : (pieceV p q k i).1.length ≤ p.length := by
  unfold pieceV
  split
  · simp [tab_len]
  · simp [nl]
abbrev XW := Int × List S_Piece × Int × Int × List V3 × Int × List Int × List Int
noncomputable abbrev exO (n : Nat) (s : S_Scene) (p q : List Int) (d k i : Int) (h : List V3) (ps : List S_Piece) (W : XW) :=
  (RecS.fix edge_Prove_2_S n).o (k, i, h, ps, W.1, W.2.1, W.2.2.1, W.2.2.2.1, W.2.2.2.2.1, W.2.2.2.2.2.1, W.2.2.2.2.2.2.1, W.2.2.2.2.2.2.2, p, q, s.Robot.Joints, s.Robot.Masses, s.Shapes, s.Skips, d)
abbrev exR (ok : Bool) (ps : List S_Piece) (W : XW) (s : S_Scene) (p q : List Int) (d : Int) :=
  (ok, ps, W.1, W.2.1, W.2.2.1, W.2.2.2.1, W.2.2.2.2.1, W.2.2.2.2.2.1, W.2.2.2.2.2.2.1, W.2.2.2.2.2.2.2, p, q, s.Robot.Joints, s.Robot.Masses, s.Shapes, s.Skips, d)
def PsB (ps : List S_Piece) : Prop := ps.length ≤ 4096 ∧ ∀ x ∈ ps, x.Normals.length ≤ 576
theorem ex_step (n : Nat) (s : S_Scene) (p q : List Int) (d k i : Int) (h : List V3) (ps : List S_Piece) (W : XW) (hp : p.length < 4294967296) (hq : q.length < 4294967296) {v : S_Verdict} (hv : (classify_Box_C s (pieceV p q k i).1 h).o = some v) (hps : PsB ps) :
    exO (n + 1) s p q d k i h ps W = if 4096 ≤ ps.length then some (exR false ps (0, nl, k, i, nl, 0, nl, nl) s p q d) else
      if v.Kind = 1 then some (exR true (ps ++ [⟨k, i, v.Normals⟩]) W s p q d) else
      if v.Kind = 2 then some (exR false ps (2, nl, k, i, nl, v.Witness.Pair, v.Witness.Left, v.Witness.Right) s p q d) else
      if k < d then ((exO n s p q d (IntKind.i64.wrap (k + 1)) (IntKind.i64.wrap (2 * i)) v.Normals ps W).bind fun y => bif y.1 then (RecS.fix edge_Prove_2_S n).o (IntKind.i64.wrap (k + 1), IntKind.i64.wrap (IntKind.i64.wrap (2 * i) + 1), v.Normals, y.2.1, y.2.2.1, y.2.2.2.1, y.2.2.2.2.1, y.2.2.2.2.2.1, y.2.2.2.2.2.2.1, y.2.2.2.2.2.2.2.1, y.2.2.2.2.2.2.2.2.1, y.2.2.2.2.2.2.2.2.2.1, y.2.2.2.2.2.2.2.2.2.2.1, y.2.2.2.2.2.2.2.2.2.2.2.1, y.2.2.2.2.2.2.2.2.2.2.2.2.1, y.2.2.2.2.2.2.2.2.2.2.2.2.2.1, y.2.2.2.2.2.2.2.2.2.2.2.2.2.2.1, y.2.2.2.2.2.2.2.2.2.2.2.2.2.2.2.1, y.2.2.2.2.2.2.2.2.2.2.2.2.2.2.2.2) else some (false, y.2)) else
      some (exR false ps (0, nl, k, i, nl, 0, nl, nl) s p q d) := by
  show (edge_Prove_2_T (RecS.fix edge_Prove_2_S n) k i h ps W.1 W.2.1 W.2.2.1 W.2.2.2.1 W.2.2.2.2.1 W.2.2.2.2.2.1 W.2.2.2.2.2.2.1 W.2.2.2.2.2.2.2 p q s.Robot.Joints s.Robot.Masses s.Shapes s.Skips d).run NN = _
  have hb : (classify_Box_C (⟨⟨s.Robot.Joints, s.Robot.Masses⟩, s.Shapes, s.Skips⟩ : S_Scene) (pieceV p q k i).1 h).o = some v := hv
  simp only [edge_Prove_2_T, T.run, config_Piece_e p q k i hp hq, Option.bind_some, hb]
  obtain ⟨l1, _⟩ := hps
  by_cases c0 : 4096 ≤ ps.length
  · rw [if_pos c0, bif_dpos (by omega)]
  · rw [if_neg c0, bif_dneg (by omega)]
    by_cases c1 : v.Kind = 1
    · rw [if_pos c1, bif_eq c1, grd_p (by simp only [List.length_cons, List.length_nil, maxLen_eq]; omega)]
    · rw [if_neg c1, bif_ne c1]
      by_cases c2 : v.Kind = 2
      · rw [if_pos c2, bif_eq c2]
      · rw [if_neg c2, bif_ne c2]
        by_cases c3 : k < d
        · rw [if_pos c3, bif_dpos c3]
          refine congrArg (Option.bind _) (funext fun y => ?_)
          cases y.1 with
          | true =>
            simp only [cond_true]
            show Option.bind ((RecS.fix edge_Prove_2_S n).o _) _ = _
            generalize (RecS.fix edge_Prove_2_S n).o _ = oo
            cases oo <;> rfl
          | false => rfl
        · rw [if_neg c3, bif_dneg c3]
open Go.Proofs
def noEdge : S_EdgeResult := ⟨0, nl, ⟨0, 0, nl⟩, ⟨0, nl, nl⟩⟩
def edgeOf (ok : Bool) (ps : List S_Piece) (W : XW) : S_EdgeResult :=
  bif ok then ⟨1, ps, ⟨0, 0, nl⟩, ⟨0, nl, nl⟩⟩ else ⟨W.1, W.2.1, ⟨W.2.2.1, W.2.2.2.1, W.2.2.2.2.1⟩, ⟨W.2.2.2.2.2.1, W.2.2.2.2.2.2.1, W.2.2.2.2.2.2.2⟩⟩
def W0 : XW := (0, nl, 0, 0, nl, 0, nl, nl)
open Go.Proofs
def TileF (d : Int) (np : Nat) : Int → List S_Piece → Int → Prop
  | e, [], e' => e = e'
  | e, x :: l, e' => (0 ≤ x.Depth ∧ x.Depth ≤ d ∧ x.Normals.length = np ∧ x.Index * 2 ^ (d - x.Depth).toNat = e) ∧ TileF d np (e + 2 ^ (d - x.Depth).toNat) l e'
theorem TileF.append {d : Int} {np : Nat} : ∀ {l m : List S_Piece} {a b c : Int}, TileF d np a l b → TileF d np b m c → TileF d np a (l ++ m) c
  | [], _, _, _, _, h, k => by have h : _ = _ := h; subst h; exact k
  | _ :: _, _, _, _, _, h, k => ⟨h.1, TileF.append h.2 k⟩
def PieceOk (s : S_Scene) (p q : List Int) (d : Int) (x : S_Piece) : Prop := (0 ≤ x.Depth ∧ x.Depth ≤ d) ∧ (0 ≤ x.Index ∧ x.Index < 2 ^ x.Depth.toNat) ∧ freeV s (pieceV p q x.Depth x.Index).1 x.Normals = true
def OutOk (s : S_Scene) (p q : List Int) (d : Int) (W : XW) : Prop := W.2.1 = [] ∧ (0 ≤ W.2.2.1 ∧ W.2.2.1 ≤ d) ∧ (0 ≤ W.2.2.2.1 ∧ W.2.2.2.1 < 2 ^ W.2.2.1.toNat) ∧ W.2.2.2.2.1 = [] ∧
  ((W.1 = 0 ∧ W.2.2.2.2.2 = (0, [], [])) ∨ (W.1 = 2 ∧ collV s (pieceV p q W.2.2.1 W.2.2.2.1).1 ⟨W.2.2.2.2.2.1, W.2.2.2.2.2.2.1, W.2.2.2.2.2.2.2⟩ = true ∧ W.2.2.2.2.2.2.1.length ≤ 8 ∧ W.2.2.2.2.2.2.2.length ≤ 8))
theorem ex_all (s : S_Scene) (p q : List Int) (hp : p.length < 4294967296) (hq : q.length < 4294967296) {d : Int} (h20 : d ≤ 20) :
    ∀ (f : Nat) (k i : Int) (h : List V3) (ps : List S_Piece) (W : XW) (n : Nat), k + f = d → 0 ≤ k → 0 ≤ i → i < 2 ^ k.toNat → f + 1 ≤ n → h.length ≤ 576 → PsB ps →
      ∃ ok ps' W', exO n s p q d k i h ps W = some (exR ok ps' W' s p q d) ∧ PsB ps' ∧
        (ok = true → W' = W ∧ ∃ new, ps' = ps ++ new ∧ TileF d (pairsV s).length (i * 2 ^ f) new ((i + 1) * 2 ^ f) ∧ ∀ x ∈ new, PieceOk s p q d x) ∧
        (ok = false → OutOk s p q d W') := by
  intro f
  induction f using Nat.strongRecOn with
  | _ f ih =>
    intro k i h ps W n hk h0 i0 i1 hn hh hps
    obtain ⟨n, rfl⟩ : ∃ m, n = m + 1 := ⟨n - 1, by omega⟩
    have hv := classify_Box_e s (pieceV p q k i).1 h (by have := pieceV_len p q k i; omega) (by omega)
    have v1 := cls_len s (pieceV p q k i).1 h
    have vc := cls_cases s (pieceV p q k i).1 h
    generalize clsV s (pieceV p q k i).1 h = v at hv v1 vc
    rw [ex_step n s p q d k i h ps W hp hq hv hps]
    have unk : OutOk s p q d (0, nl, k, i, nl, 0, nl, nl) := ⟨rfl, ⟨h0, by simp only; omega⟩, ⟨i0, i1⟩, rfl, .inl ⟨rfl, rfl⟩⟩
    by_cases c0 : 4096 ≤ ps.length
    · rw [if_pos c0]
      exact ⟨false, ps, _, rfl, hps, (fun h => by cases h), fun _ => unk⟩
    · rw [if_neg c0]
      by_cases c1 : v.Kind = 1
      · rw [if_pos c1]
        obtain ⟨-, -, fr⟩ : v.Witness = noWit ∧ (sceneV s = 0 ∧ boxV s.Robot (pieceV p q k i).1 = true) ∧ freeV s (pieceV p q k i).1 v.Normals = true := by
          rcases vc with ⟨h1, -⟩ | ⟨-, h2⟩ | ⟨h1, -⟩
          · omega
          · exact h2
          · omega
        have fl : v.Normals.length = (pairsV s).length := by
          simp only [freeV, Bool.and_eq_true, decide_eq_true_eq] at fr; exact fr.2.2.1
        have e : (d - k).toNat = f := by omega
        refine ⟨true, _, W, rfl, ⟨by simp; omega, fun x hx => ?_⟩, fun _ => ⟨rfl, _, rfl, ⟨⟨h0, by simp only; omega, fl, by simp only [e]⟩, by simp only [TileF, e]; rw [Int.add_mul]; omega⟩, fun x hx => ?_⟩, (fun h => by cases h)⟩
        · rcases List.mem_append.1 hx with hx | hx
          · exact hps.2 x hx
          · simp at hx; subst hx; exact v1
        · simp at hx; subst hx; exact ⟨⟨h0, by simp only; omega⟩, ⟨i0, i1⟩, fr⟩
      · rw [if_neg c1]
        by_cases c2 : v.Kind = 2
        · rw [if_pos c2]
          obtain ⟨-, fr, l1, l2⟩ : v.Normals = [] ∧ collV s (pieceV p q k i).1 v.Witness = true ∧ v.Witness.Left.length ≤ 8 ∧ v.Witness.Right.length ≤ 8 := by
            rcases vc with ⟨h1, -⟩ | ⟨h1, -⟩ | ⟨-, h2⟩
            · omega
            · omega
            · exact h2
          exact ⟨false, ps, _, rfl, hps, (fun h => by cases h), fun _ => ⟨rfl, ⟨h0, by simp only; omega⟩, ⟨i0, i1⟩, rfl, .inr ⟨rfl, fr, l1, l2⟩⟩⟩
        · rw [if_neg c2]
          by_cases c3 : k < d
          · rw [if_pos c3]
            obtain ⟨f, rfl⟩ : ∃ g, f = g + 1 := ⟨f - 1, by omega⟩
            have hp20 := pow20 (k := k.toNat) (by omega)
            have hw : IntKind.i64.wrap (k + 1) = k + 1 := w64 (by omega) (by omega)
            have hw1 : IntKind.i64.wrap (2 * i) = 2 * i := w64 (by omega) (by omega)
            have hw2 : IntKind.i64.wrap (2 * i + 1) = 2 * i + 1 := w64 (by omega) (by omega)
            have hpk : (2 : Int) ^ (k + 1).toNat = 2 * 2 ^ k.toNat := by rw [show (k + 1).toNat = k.toNat + 1 by omega, Int.pow_succ]; omega
            rw [hw, hw1]
            obtain ⟨ok1, ps1, W1, e1, b1, b2, b3⟩ := ih f (by omega) (k + 1) (2 * i) v.Normals ps W n (by omega) (by omega) (by omega) (by rw [hpk]; omega) (by omega) v1 hps
            rw [e1]
            cases ok1 with
            | false => exact ⟨false, ps1, W1, rfl, b1, (fun h => by cases h), b3⟩
            | true =>
              obtain ⟨hWW, new1, rfl, t1, q1⟩ := b2 rfl
              subst hWW
              obtain ⟨ok2, ps2, W2, e2, d1, d2, d3⟩ := ih f (by omega) (k + 1) (2 * i + 1) v.Normals (ps ++ new1) W1 n (by omega) (by omega) (by omega) (by rw [hpk]; omega) (by omega) v1 b1
              refine ⟨ok2, ps2, W2, ?_, d1, fun hd => ?_, d3⟩
              · rw [← hw2] at e2; exact e2
              · obtain ⟨hW2, new2, rfl, t2, q2⟩ := d2 hd
                refine ⟨hW2, new1 ++ new2, by rw [List.append_assoc], ?_, fun x hx => (List.mem_append.1 hx).elim (q1 x) (q2 x)⟩
                have f1 : 2 * i * 2 ^ f = i * 2 ^ (f + 1) := by rw [Int.pow_succ, Int.mul_comm (2 ^ f) 2, ← Int.mul_assoc, Int.mul_comm i 2]
                have f2 : (2 * i + 1 + 1) * 2 ^ f = (i + 1) * 2 ^ (f + 1) := by rw [show 2 * i + 1 + 1 = 2 * (i + 1) by omega, Int.pow_succ, Int.mul_comm (2 ^ f) 2, ← Int.mul_assoc, Int.mul_comm (i + 1) 2]
                exact (f1 ▸ t1).append (f2 ▸ t2)
          · rw [if_neg c3]
            exact ⟨false, ps, _, rfl, hps, (fun h => by cases h), fun _ => unk⟩
def badM19 (s : S_Scene) (p q : List Int) : Bool := (sceneV s != 0) || (!insideV s.Robot p || !insideV s.Robot q)
theorem prove_run2 (s : S_Scene) (p q : List Int) (d : Int) (ok : Bool) (ps : List S_Piece) (W : XW) (h0 : 0 ≤ d) (h1 : d ≤ 20)
    (he : exO NN s p q d 0 0 nl nl W0 = some (exR ok ps W s p q d)) : (edge_Prove_C s p q d).o = some (bif badM19 s p q then noEdge else edgeOf ok ps W) := by
  have ec : (edge_Prove_2_C 0 0 nl nl 0 nl 0 0 nl 0 nl nl p q s.Robot.Joints s.Robot.Masses s.Shapes s.Skips d).o = some (exR ok ps W s p q d) := he
  have e0 : (scene_Check_C ⟨s.Robot, s.Shapes, s.Skips⟩).o = some (sceneV s) := scene_Check_e s
  show (edge_Prove_T s p q d).run NN = _
  simp only [edge_Prove_T, T.run, e0, config_Inside_e, Option.bind_some, bif_out, bif_tb, andC_out, ec]
  rw [decide_eq_false (p := d < 0) (by omega), decide_eq_false (p := d > 20) (by omega)]
  unfold badM19
  generalize ((sceneV s != 0) || (!insideV s.Robot p || !insideV s.Robot q)) = bad
  cases bad with
  | true => rfl
  | false => cases ok <;> rfl
structure ProveOk (s : S_Scene) (p q : List Int) (d : Int) (r : S_EdgeResult) : Prop where
  kind : r.Kind = 0 ∨ r.Kind = 1 ∨ r.Kind = 2
  ready : r.Kind ≠ 0 → sceneV s = 0 ∧ insideV s.Robot p = true ∧ insideV s.Robot q = true
  tiles : r.Kind = 1 → TileF d (pairsV s).length 0 r.Pieces (2 ^ d.toNat)
  free : r.Kind = 1 → ∀ x ∈ r.Pieces, PieceOk s p q d x
  empty : r.Kind = 1 → r.At = ⟨0, 0, []⟩
  none : r.Kind ≠ 1 → r.Pieces = []
  depth : 0 ≤ r.At.Depth ∧ r.At.Depth ≤ d
  index : 0 ≤ r.At.Index ∧ r.At.Index < 2 ^ r.At.Depth.toNat
  norm : r.At.Normals = []
  coll : r.Kind = 2 → collV s (pieceV p q r.At.Depth r.At.Index).1 r.Witness = true
  wit : r.Kind ≠ 2 → r.Witness = noWit
  lens : r.Witness.Left.length ≤ 8 ∧ r.Witness.Right.length ≤ 8
  bd : PsB r.Pieces
theorem prove_all (s : S_Scene) (p q : List Int) (hp : p.length < 4294967296) (hq : q.length < 4294967296) {d : Int} (h0 : 0 ≤ d) (h20 : d ≤ 20) :
    ∃ r, (edge_Prove_C s p q d).o = some r ∧ ProveOk s p q d r := by
  have nb : PsB nl := ⟨by simp [nl], by simp [nl]⟩
  obtain ⟨ok, ps, W, e1, b1, b2, b3⟩ := ex_all s p q hp hq h20 d.toNat 0 0 nl nl W0 NN (by omega) (by omega) (by omega) (by decide) (by show _ ≤ 4294967296; omega) (by simp [nl]) nb
  refine ⟨_, prove_run2 s p q d ok ps W h0 h20 e1, ?_⟩
  cases hb : badM19 s p q with
  | true => exact ⟨.inl rfl, (fun h => absurd rfl h), (fun h => by cases h), (fun h => by cases h), (fun h => by cases h), fun _ => rfl, ⟨Int.le_refl _, h0⟩, ⟨Int.le_refl _, (show (0 : Int) < 2 ^ (0 : Int).toNat by decide)⟩, rfl, (fun h => by cases h), fun _ => rfl, ⟨by simp [noEdge, nl], by simp [noEdge, nl]⟩, nb⟩
  | false =>
    have rd : sceneV s = 0 ∧ insideV s.Robot p = true ∧ insideV s.Robot q = true := by
      simpa [badM19] using hb
    cases ok with
    | true =>
      obtain ⟨_, new, hn, ht, hq⟩ := b2 rfl
      have hn : ps = new := hn
      subst hn
      have ht : TileF d (pairsV s).length (0 * 2 ^ d.toNat) ps ((0 + 1) * 2 ^ d.toNat) := ht
      rw [Int.zero_mul, Int.zero_add, Int.one_mul] at ht
      exact ⟨.inr (.inl rfl), fun _ => rd, fun _ => ht, fun _ => hq, fun _ => rfl, (fun h => absurd rfl h), ⟨Int.le_refl _, h0⟩, ⟨Int.le_refl _, (show (0 : Int) < 2 ^ (0 : Int).toNat by decide)⟩, rfl, (fun h => by cases h), fun _ => rfl, ⟨by simp [edgeOf, nl], by simp [edgeOf, nl]⟩, b1⟩
    | false =>
      obtain ⟨c1, c2, c3, c4, c5⟩ := b3 rfl
      have pb : PsB W.2.1 := by rw [c1]; exact nb
      rcases c5 with ⟨k0, k1⟩ | ⟨k0, k1, k2, k3⟩
      · have w : (edgeOf false ps W).Witness = noWit := by
          show (⟨W.2.2.2.2.2.1, W.2.2.2.2.2.2.1, W.2.2.2.2.2.2.2⟩ : S_Witness) = noWit
          rw [k1]; rfl
        refine ⟨.inl k0, (fun h => absurd k0 h), fun h => ?_, fun h => ?_, fun h => ?_, fun _ => c1, c2, c3, c4, fun h => ?_, fun _ => w, ?_, pb⟩
        · have h : W.1 = 1 := h; omega
        · have h : W.1 = 1 := h; omega
        · have h : W.1 = 1 := h; omega
        · have h : W.1 = 2 := h; omega
        · show (edgeOf false ps W).Witness.Left.length ≤ 8 ∧ (edgeOf false ps W).Witness.Right.length ≤ 8
          rw [w]; simp [noWit, nl]
      · refine ⟨.inr (.inr k0), fun _ => rd, fun h => ?_, fun h => ?_, fun h => ?_, fun _ => c1, c2, c3, c4, fun _ => k1, fun h => absurd k0 h, ⟨k2, k3⟩, pb⟩
        · have h : W.1 = 1 := h; omega
        · have h : W.1 = 1 := h; omega
        · have h : W.1 = 1 := h; omega
open Go.Proofs
theorem pow9 {k : Int} (h0 : 0 ≤ k) (h1 : k ≤ 20) : 1 ≤ (2 : Int) ^ k.toNat ∧ (2 : Int) ^ k.toNat ≤ 1048576 := by
  have := pow20 (k := k.toNat) (by omega)
  have := two_pow_pos k.toNat
  omega
end Go.Abs
