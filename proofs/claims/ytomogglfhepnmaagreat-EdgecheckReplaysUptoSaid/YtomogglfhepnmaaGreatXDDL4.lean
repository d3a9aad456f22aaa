/-
  DL4 (a part of a claim: our own text).
-/
import Derived.Test.YtomogglfhepnmaaGreatXDDL3
import Derived.Test.YtomogglfhepnmaaGreatXDDM
namespace Go.Abs
open Go.Proofs
theorem inside_ok {r : S_Robot} {c : List Int} (h : insideV r c = true) : robotV r = 0 ∧ c.length = r.Joints.length ∧ c.length ≤ 10 ∧ smallV c = true ∧ ∀ i, i < c.length → (r.Joints.getD i default).Lo ≤ c.getD i default ∧ c.getD i default ≤ (r.Joints.getD i default).Hi := by
  simp only [insideV, Bool.and_eq_true, decide_eq_true_eq] at h
  obtain ⟨h1, h2, h3⟩ := h
  have hr := robotV_ok h1
  have lim : ∀ i, i < c.length → (r.Joints.getD i default).Lo ≤ c.getD i default ∧ c.getD i default ≤ (r.Joints.getD i default).Hi := fun i hi => by
    have := noneB_iff.1 h3 i hi
    simp only [outJ, Bool.or_eq_false_iff, decide_eq_false_iff_not] at this
    omega
  refine ⟨h1, h2, by omega, ?_, lim⟩
  unfold smallV
  rw [noneB_iff]
  intro i hi
  have jl := (robot_joint h1 (i := i) (by omega)).lim
  have rb := reach_bd (r.Joints.getD i default).Kind
  have := lim i hi
  simp only [big1, Bool.or_eq_false_iff, decide_eq_false_iff_not]
  omega
theorem motion_ok {r : S_Robot} {p q : List Int} {e : Int} (hp : insideV r p = true) (hq : insideV r q = true) (h0 : 0 ≤ e) (h1 : e ≤ 20) : motionV p q e = true := by
  have a := inside_ok hp
  have b := inside_ok hq
  exact motionV_iff.2 ⟨a.2.2.2.1, b.2.2.2.1, by omega, h0, h1⟩
open Go.Proofs
def PC (n : Nat) (l : List S_Piece) : Prop := PB n l ∧ ∀ x ∈ l, InR x.Index
theorem law20_motion_y (l m n : List Int) (d : Int) (hl : l.length < 4294967296) (hm : m.length < 4294967296) (hn : n.length < 4294967296) : ∃ y, (law20_motion_C l m n d).o = some y ∧ MO19 y := by
  have e0 : (law20_motion_C l m n d).o = (law20_motion_T l m n d).run NN := rfl
  rw [e0]
  obtain ⟨s, es, s1, s2, s3⟩ := make_Scene_x l hl
  obtain ⟨p, ep, lp⟩ := make_Config_x s.Robot m hm s2 s3
  obtain ⟨q, eq, lq⟩ := make_Config_x s.Robot n hn s2 s3
  simp only [law20_motion_T, T.run]
  rw [es, Option.bind_some, ep, Option.bind_some, eq, Option.bind_some]
  have fin : ∀ q' : List Int, q'.length ≤ 3 → ∃ y, ((make_Round_C (d.fdiv (2 ^ min (Int.toNat 4) 64)) 6).o.bind fun y70 => some (s, p, q', y70)) = some y ∧ MO19 y := by
    intro q' hq'
    rw [make_Round_e (by decide) (by decide), Option.bind_some]
    exact ⟨_, rfl, by simp only; omega, by simp only; omega, hq'⟩
  cases IntKind.i64.wrap (((BitVec.ofInt 64 d &&& BitVec.ofInt 64 8).toNat : Nat) : Int) == 8
  · exact fin q (by omega)
  · simp only [cond_true]
    have hq : ∃ q' : List Int, (andK (iter (fun (x64 : List Int × Int) => (bif decide (x64.2 < ((x64.1.length : Nat) : Int)) then grd (0 ≤ x64.2 ∧ x64.2 < ((p.length : Nat) : Int)) (grd ((x64.2).toNat < p.length) (grd (0 ≤ x64.2 ∧ x64.2 < ((x64.1.length : Nat) : Int)) (grd ((x64.2).toNat < x64.1.length) (grd (0 ≤ x64.2 ∧ x64.2 < ((p.length : Nat) : Int)) (grd ((x64.2).toNat < p.length)
        (grd (0 ≤ x64.2 ∧ x64.2 < ((x64.1.length : Nat) : Int)) (grd ((x64.2).toNat < x64.1.length ∧ 0 ≤ (x64.2).toNat) (some (.next ((x64.1.set ((x64.2).toNat) (IntKind.i64.wrap ((p.getD ((x64.2).toNat) default) + IntKind.i64.wrap ((IntKind.i64.wrap ((x64.1.getD ((x64.2).toNat) default) - (p.getD ((x64.2).toNat) default))).tdiv 16)))), (IntKind.i64.wrap (x64.2 + 1)))))))))))) else some (.out x64.1) : Option (Step3 (List Int × Int) (List Int) (Step3 Unit (List Int) (S_Scene × List Int × List Int × Int))))) NN (q, 0)) fun y67 => some (.out y67)) = some (.out q') ∧ q'.length ≤ 3 := by
      refine loop_cnt (g := fun b => Step3.out b) q.length (by omega) (fun j (y : List Int × Int) => y.1.length = q.length ∧ y.2 = (j : Int)) (fun (w : List Int) => w.length ≤ 3) ⟨rfl, rfl⟩ (fun j y hj hy => ?_) (fun y hy => ?_) (fun z hz => ⟨_, rfl, hz⟩)
      · obtain ⟨g1, g2⟩ := hy
        rw [g2, bif_dpos (by omega), grd_p ⟨by omega, by omega⟩, Int.toNat_natCast, grd_p (by omega), grd_p ⟨by omega, by omega⟩, grd_p (by omega), grd_p ⟨by omega, by omega⟩, grd_p (by omega), grd_p ⟨by omega, by omega⟩, grd_p ⟨by omega, by omega⟩, wn (by omega)]
        exact ⟨_, rfl, by simp only [List.length_set]; exact g1, rfl⟩
      · obtain ⟨g1, g2⟩ := hy
        rw [g2, bif_dneg (by omega)]; exact ⟨_, rfl, by omega⟩
    obtain ⟨q', e1, e2⟩ := hq
    rw [e1, andC_out]
    exact fin q' e2
def CovOk (l : List S_Piece) : Prop := l.length ≤ 4096 ∧ (∀ j, j < l.length → badT l j = false) ∧ plc l l.length = 1048576
theorem cover_iff {l : List S_Piece} : (coverV l).2 = true ↔ CovOk l := by
  constructor
  · intro h
    have h1 := (cover_ok h).1
    unfold coverV at h
    rw [if_pos h1] at h
    split at h
    · rename_i r hr
      obtain ⟨j, -, -, h3, -⟩ := scan_some _ _ hr
      cases hb : badT l j with
      | false => rw [hb] at h3; cases h3
      | true => rw [hb] at h3; simp only [sw, cond_true, Option.some.injEq] at h3; rw [← h3] at h; cases h
    · rename_i hn
      refine ⟨h1, fun j hj => ?_, by simpa using h⟩
      have := (scan_none _ _).1 hn j (Nat.zero_le _) (by omega)
      cases hb : badT l j with
      | false => rfl
      | true => rw [hb] at this; cases this
  · rintro ⟨h1, h2, h3⟩
    unfold coverV
    rw [if_pos h1]
    have : scan (fun j => sw (badT l j) ((j : Int), false)) l.length 0 = none := (scan_none _ _).2 fun j _ hj => by rw [h2 j (by omega)]; rfl
    rw [this, h3]; rfl
theorem check_iff {s : S_Scene} {p q : List Int} {l : List S_Piece} : (checkV s p q l).2 = 0 ↔ (sceneV s = 0 ∧ insideV s.Robot p = true ∧ insideV s.Robot q = true) ∧ CovOk l ∧
    ∀ j, j < l.length → freeV s (pieceV p q (l.getD j default).Depth (l.getD j default).Index).1 (l.getD j default).Normals = true := by
  constructor
  · intro h
    have h0 := checkV_ok h
    refine ⟨⟨h0.1, h0.2.1, h0.2.2.1⟩, ?_⟩
    unfold checkV at h
    rw [if_neg (fun h' => h' h0.1), if_neg (by rw [h0.2.1, h0.2.2.1]; decide)] at h
    split at h
    · cases h
    · rename_i hc
      refine ⟨cover_iff.1 (by simpa using hc), fun j hj => ?_⟩
      split at h
      · rename_i r hr
        obtain ⟨j, -, -, h3, -⟩ := scan_some _ _ hr
        cases hb : notF s p q l j with
        | false => rw [hb] at h3; cases h3
        | true => rw [hb] at h3; simp only [sw, cond_true, Option.some.injEq] at h3; rw [← h3] at h; cases h
      · rename_i hn
        have := (scan_none _ _).1 hn j (Nat.zero_le _) (by omega)
        cases hb : notF s p q l j with
        | false => simpa [notF] using hb
        | true => rw [hb] at this; cases this
  · rintro ⟨⟨h1, h2, h3⟩, h4, h5⟩
    unfold checkV
    rw [if_neg (fun h' => h' h1), if_neg (by rw [h2, h3]; decide), if_neg (by rw [cover_iff.2 h4]; decide)]
    have : scan (fun j => sw (notF s p q l j) ((j : Int), (2002 : Int))) l.length 0 = none := (scan_none _ _).2 fun j _ hj => by
      have := h5 j (by omega)
      unfold notF; rw [this]; rfl
    rw [this]
theorem plc_succ {l : List S_Piece} {j : Nat} {f n : Int} (h : begV (l.getD j default) = some (f, n)) : plc l (j + 1) = f + n := by simp only [plc, h]
open Go.Proofs
theorem edgecheck_Tiles_e (l : List S_Piece) : (edgecheck_Tiles_C l).o = some (coverV l).2 := by
  show (edgecheck_Tiles_T l).run NN = _
  simp only [edgecheck_Tiles_T, T.run, replay_tiling_e, Option.bind_some, tileV]
  cases (coverV l).2 <;> rfl
theorem tile_cov {s : S_Scene} {p q : List Int} {d : Int} (h20 : d ≤ 20) {np : Nat} : ∀ (l pre : List S_Piece) (e e' : Int), TileF d np e l e' → (∀ x ∈ l, PieceOk s p q d x) → plc (pre ++ l) pre.length = e * 2 ^ (20 - d).toNat →
    (∀ j, pre.length ≤ j → j < (pre ++ l).length → badT (pre ++ l) j = false) ∧ plc (pre ++ l) (pre ++ l).length = e' * 2 ^ (20 - d).toNat
  | [], pre, e, e', ht, _, hp => by
    have ht : e = e' := ht
    subst ht
    rw [List.append_nil] at hp ⊢
    exact ⟨fun j h1 h2 => by omega, hp⟩
  | x :: l, pre, e, e', ht, hx, hp => by
    obtain ⟨⟨t1, t2, t3, t4⟩, t5⟩ := ht
    obtain ⟨⟨y0, y1⟩, ⟨y2, y3⟩, yf⟩ := hx x (by simp)
    have e1 : pre ++ x :: l = (pre ++ [x]) ++ l := by simp
    have hg : (pre ++ x :: l).getD pre.length default = x := by simp [List.getD_eq_getElem?_getD]
    have hpow : (2 : Int) ^ (20 - x.Depth.toNat) = 2 ^ (d - x.Depth).toNat * 2 ^ (20 - d).toNat := by
      rw [← Int.pow_add, show (d - x.Depth).toNat + (20 - d).toNat = 20 - x.Depth.toNat by omega]
    have hb : begV ((pre ++ x :: l).getD pre.length default) = some (plc (pre ++ x :: l) pre.length, 2 ^ (20 - x.Depth.toNat)) := by
      rw [hg, hp]
      unfold begV
      rw [if_pos ⟨⟨y0, by omega⟩, y2, y3⟩, hpow, ← Int.mul_assoc, t4]
    have hs := plc_succ hb
    have l1 : (pre ++ [x]).length = pre.length + 1 := by simp
    have ih := tile_cov h20 l (pre ++ [x]) (e + 2 ^ (d - x.Depth).toNat) e' t5 (fun y hy => hx y (by simp [hy])) (by
      rw [← e1, l1, hs, hp, Int.add_mul, ← hpow])
    rw [← e1] at ih
    refine ⟨fun j h1 h2 => ?_, ih.2⟩
    by_cases ej : j = pre.length
    · subst ej; unfold badT; rw [hb]; simp
    · exact ih.1 j (by omega) h2
theorem prove_cov {s : S_Scene} {p q : List Int} {d : Int} {r : S_EdgeResult} (h0 : 0 ≤ d) (h20 : d ≤ 20) (ok : ProveOk s p q d r) (hk : r.Kind = 1) : CovOk r.Pieces := by
  have t := tile_cov h20 r.Pieces [] 0 (2 ^ d.toNat) (ok.tiles hk) (ok.free hk) (by rw [Int.zero_mul]; rfl)
  rw [List.nil_append] at t
  refine ⟨ok.bd.1, fun j hj => t.1 j (Nat.zero_le _) hj, t.2.trans ?_⟩
  rw [← Int.pow_add, show d.toNat + (20 - d).toNat = 20 by omega]; decide
theorem prove_check {s : S_Scene} {p q : List Int} {d : Int} {r : S_EdgeResult} (h0 : 0 ≤ d) (h20 : d ≤ 20) (ok : ProveOk s p q d r) (hk : r.Kind = 1) : (checkV s p q r.Pieces).2 = 0 := by
  rw [check_iff]
  exact ⟨ok.ready (by omega), prove_cov h0 h20 ok hk, fun j hj => (ok.free hk _ (getD_mem hj)).2.2⟩
theorem cov_nil : (coverV []).2 = false := by decide
theorem edgecheckReplays_true (l m n : List Int) (depth : Int) (hl : l.length < 4294967296) (hm : m.length < 4294967296) (hn : n.length < 4294967296) : (law20_EdgecheckReplays_C l m n depth).o = some true := by
  suffices h : ∃ r, (law20_EdgecheckReplays_C l m n depth).o = some r ∧ r = true by
    obtain ⟨r, h1, rfl⟩ := h; exact h1
  show ∃ r, (law20_EdgecheckReplays_T l m n depth).run NN = some r ∧ r = true
  obtain ⟨⟨s, p, q, d⟩, e1, ⟨d0, d1⟩, lp, lq⟩ := law20_motion_y l m n depth hl hm hn
  simp only at d0 d1 lp lq
  obtain ⟨r, e2, ok⟩ := prove_all s p q (by omega) (by omega) (d := d) d0 (by omega)
  have es : (⟨s.Robot, s.Shapes, s.Skips⟩ : S_Scene) = s := rfl
  have ee : (⟨r.Kind, r.Pieces, r.At, r.Witness⟩ : S_EdgeResult) = r := rfl
  simp only [law20_EdgecheckReplays_T, T.run, e1, Option.bind_some, es, e2, awake20, cond_true, ee, edgecheck_Accepts_e s p q (show p.length < 4294967296 by omega) (show q.length < 4294967296 by omega), edgecheck_Tiles_e]
  have key : accV s p q r = (r.Kind != 0) ∧ (coverV r.Pieces).2 = (r.Kind == 1) := by
    rcases ok.kind with k | k | k
    · have hw := ok.none (by omega)
      unfold accV
      rw [if_neg (by omega), if_neg (by omega), hw, k]
      exact ⟨rfl, cov_nil⟩
    · have hw := ok.wit (by omega)
      have ha := ok.empty k
      have hc := prove_check d0 (by omega) ok k
      unfold accV
      rw [if_pos k, hw, ha, hc, cover_iff.2 (prove_cov d0 (by omega) ok k), k]
      exact ⟨rfl, rfl⟩
    · have hw := ok.none (by omega)
      have rd := ok.ready (by omega)
      have hcv := ok.coll k
      unfold accV refuV
      rw [if_neg (by omega), if_pos k, hw, k, ok.norm, hcv]
      have hm : (pieceV p q r.At.Depth r.At.Index).2 = true := by
        unfold pieceV
        rw [if_pos ⟨motion_ok rd.2.1 rd.2.2 ok.depth.1 (by have := ok.depth.2; omega), ok.index.1, ok.index.2⟩]
      rw [hm]
      refine ⟨?_, cov_nil⟩
      simp [rd.1, rd.2.1, rd.2.2]
  rw [key.1, key.2]
  simp only [beq_self_eq_true, cond_true]
  exact ⟨_, rfl, rfl⟩
end Go.Abs
