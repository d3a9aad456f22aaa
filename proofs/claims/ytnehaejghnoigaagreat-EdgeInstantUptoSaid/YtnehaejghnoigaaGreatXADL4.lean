/-
  DL4 (a part of a claim: our own text).
-/
import Derived.Test.YtnehaejghnoigaaGreatXADL3
import Derived.Test.YtnehaejghnoigaaGreatXADM
namespace Go.Abs
open Go.Proofs
def atV (p q : List Int) (e j : Int) : List Int × Bool := if motionV p q e = true ∧ 0 ≤ j ∧ j ≤ 2 ^ e.toNat then (tab (atI p q e.toNat j) p.length, true) else (nl, false)
theorem ref10_At_e (p q : List Int) (e j : Int) (hp : p.length < 4294967296) (hq : q.length < 4294967296) : (ref10_At_C p q e j).o = some (atV p q e j) := by
  show (ref10_At_T p q e j).run NN = _
  simp only [ref10_At_T, T.run, ref10_pieces_e p q e hp hq, Option.bind_some]
  unfold atV
  cases hm : motionV p q e with
  | false => rw [if_neg (by simp)]; rfl
  | true =>
    obtain ⟨m1, m2, m3, m4, m5⟩ := motionV_iff.1 hm
    simp only [Bool.not_true, cond_false, u64_id m4 m5, grd_p m4, show min e.toNat 64 = e.toNat by omega, w2k (k := e.toNat) (by omega)]
    by_cases c1 : j < 0
    · rw [bif_dpos c1, andC_out, if_neg (by omega)]; rfl
    · rw [bif_dneg c1, andC_out]
      by_cases c2 : j > 2 ^ e.toNat
      · rw [bif_dpos c2, if_neg (by omega)]
      · rw [bif_dneg c2, if_pos ⟨by trivial, by omega, by omega⟩]
        refine (loop_to (fun i => (tab (atI p q e.toNat j) i, (i : Int))) (tab (atI p q e.toNat j) p.length) p.length rfl hp (fun i hi => ?_) ?_).trans rfl
        · rw [bif_dpos (by omega), grd_p (by omega), grd_p (by omega), grd_p (by omega), Int.toNat_natCast]
          have b1 := small_get m1 hi
          have b2 := small_get m2 (i := i) (by omega)
          have b3 := mul52 (i := j) (D := q.getD i default - p.getD i default) (by omega) (by have := pow20 (k := e.toNat) (by omega); omega) (by omega)
          have b4 := at_bd (p := p) (q := q) (e := e.toNat) (j := j) (k := i) (by omega) (by omega)
          rw [w64 (x := q.getD i default - p.getD i default) (by omega) (by omega), w64 (x := j * (q.getD i default - p.getD i default)) (by omega) (by omega), ref1_Floor_e ⟨by omega, by omega⟩ (two_pow_pos _)]
          simp only [Option.bind_some]
          have ea : p.getD i default + j * (q.getD i default - p.getD i default) / 2 ^ e.toNat = atI p q e.toNat j i := rfl
          rw [ea, w64 (x := atI p q e.toNat j i) (by omega) (by omega), grd_p (by simp only [tab_len, List.length_cons, List.length_nil, maxLen_eq]; omega), wn (by omega), tab_succ]
        · rw [bif_dneg (by omega)]
def ptI (c : List Int) (i : Nat) : S_Interval := ⟨c.getD i default, c.getD i default⟩
def ptB (c : List Int) : List S_Interval := if smallV c = true then tab (ptI c) c.length else nl
theorem ref10_Box_e (c : List Int) (hc : c.length < 4294967296) : (ref10_Box_C c).o = some (ptB c) := by
  show (ref10_Box_T c).run NN = _
  simp only [ref10_Box_T, T.run, ref10_small_e c hc, Option.bind_some]
  unfold ptB
  cases hs : smallV c with
  | false => rfl
  | true =>
    rw [if_pos rfl]
    refine (loop_to (fun i => (tab (ptI c) i, (i : Int))) (tab (ptI c) c.length) c.length rfl hc (fun i hi => ?_) ?_).trans rfl
    · rw [bif_dpos (by omega), grd_p (by omega), grd_p (by omega), Int.toNat_natCast, grd_p (by simp only [tab_len, List.length_cons, List.length_nil, maxLen_eq]; omega), wn (by omega), tab_succ]; rfl
    · rw [bif_dneg (by omega)]
theorem inside_ok {r : S_Robot} {c : List Int} (h : insideV r c = true) : robotV r = 0 ∧ c.length = r.Joints.length ∧ c.length ≤ 10 ∧ smallV c = true ∧ ∀ i, i < c.length → (r.Joints.getD i default).Lo ≤ c.getD i default ∧ c.getD i default ≤ (r.Joints.getD i default).Hi := by
  simp only [insideV, Bool.and_eq_true, decide_eq_true_eq] at h
  obtain ⟨h1, h2, h3⟩ := h
  have hr := robotV_ok h1
  have lim : ∀ i, i < c.length → (r.Joints.getD i default).Lo ≤ c.getD i default ∧ c.getD i default ≤ (r.Joints.getD i default).Hi := fun i hi => by
    have := noneB_iff.1 h3 i hi
    simp only [outJ, Bool.or_eq_false_iff, decide_eq_false_iff_not] at this
    omega
  refine ⟨h1, h2, by omega, ?_, lim⟩
  unfold smallV
  rw [noneB_iff]
  intro i hi
  have jl := (robot_joint h1 (i := i) (by omega)).lim
  have rb := reach_bd (r.Joints.getD i default).Kind
  have := lim i hi
  simp only [big1, Bool.or_eq_false_iff, decide_eq_false_iff_not]
  omega
theorem motion_ok {r : S_Robot} {p q : List Int} {e : Int} (hp : insideV r p = true) (hq : insideV r q = true) (h0 : 0 ≤ e) (h1 : e ≤ 20) : motionV p q e = true := by
  have a := inside_ok hp
  have b := inside_ok hq
  exact motionV_iff.2 ⟨a.2.2.2.1, b.2.2.2.1, by omega, h0, h1⟩
theorem tab_get' {α : Type} [Inhabited α] {f : Nat → α} {n i : Nat} (h : i < n) : (tab f n).getD i default = f i := tab_get h
theorem inst_box {s : S_Scene} {p q : List Int} {D i e j : Int} (hp : insideV s.Robot p = true) (hq : insideV s.Robot q = true) (hD : 0 ≤ D ∧ D ≤ 20) (hi : 0 ≤ i ∧ i < 2 ^ D.toNat) (he : 0 ≤ e ∧ e ≤ 20) (hj : 0 ≤ j ∧ j ≤ 2 ^ e.toNat)
    (h1 : i * 2 ^ e.toNat ≤ j * 2 ^ D.toNat) (h2 : j * 2 ^ D.toNat ≤ (i + 1) * 2 ^ e.toNat) (hb : boxV s.Robot (pieceV p q D i).1 = true) :
    (atV p q e j).2 = true ∧ insideV s.Robot (atV p q e j).1 = true ∧ (atV p q e j).1.length = p.length ∧ boxV s.Robot (ptB (atV p q e j).1) = true ∧ SBx s.Robot.Joints.length (ptB (atV p q e j).1) (pieceV p q D i).1 := by
  have a := inside_ok hp
  have b := inside_ok hq
  have ev : atV p q e j = (tab (atI p q e.toNat j) p.length, true) := by unfold atV; rw [if_pos ⟨motion_ok hp hq he.1 he.2, hj.1, hj.2⟩]
  have ep : (pieceV p q D i).1 = tab (pieceI p q D.toNat i) p.length := by unfold pieceV; rw [if_pos ⟨motion_ok hp hq hD.1 hD.2, hi.1, hi.2⟩]
  rw [ev]
  have hin : insideV s.Robot (tab (atI p q e.toNat j) p.length) = true := by
    simp only [insideV, Bool.and_eq_true, decide_eq_true_eq, tab_len]
    refine ⟨a.1, a.2.1, noneB_iff.2 fun k hk => ?_⟩
    have := at_bd (p := p) (q := q) (k := k) hj.1 hj.2
    have := a.2.2.2.2 k hk
    have := b.2.2.2.2 k (by omega)
    simp only [outJ, Bool.or_eq_false_iff, decide_eq_false_iff_not]
    rw [tab_get' hk]
    omega
  have sm := (inside_ok hin).2.2.2.1
  have epb : ptB (tab (atI p q e.toNat j) p.length) = tab (ptI (tab (atI p q e.toNat j) p.length)) p.length := by unfold ptB; rw [if_pos sm, tab_len]
  have hbx : boxV s.Robot (ptB (tab (atI p q e.toNat j) p.length)) = true := by
    rw [epb]
    simp only [boxV, Bool.and_eq_true, decide_eq_true_eq, tab_len]
    refine ⟨a.2.1, noneB_iff.2 fun k hk => ?_⟩
    unfold notV
    rw [tab_get' hk]
    have g := small_get sm (i := k) (by rw [tab_len]; exact hk)
    have : vV (ptI (tab (atI p q e.toNat j) p.length) k) = true := vV_iff.2 ⟨g.1, Int.le_refl _, g.2⟩
    rw [this]; rfl
  refine ⟨rfl, hin, tab_len _ _, hbx, show SBx s.Robot.Joints.length (ptB (tab (atI p q e.toNat j) p.length)) (pieceV p q D i).1 from SBx.of hbx hb fun k hk => ?_⟩
  rw [epb, ep, tab_get' (by omega), tab_get' (by omega)]
  have g := at_in (p := p) (q := q) (k := k) h1 h2
  unfold ptI
  rw [tab_get' (by omega)]
  exact g
open Go.Proofs
theorem pow_split (a b : Nat) : (2 : Int) ^ (a + b) = 2 ^ a * 2 ^ b := Int.pow_add 2 a b
theorem inst_in {D i k x : Int} (hD : 0 ≤ D) (hi : 0 ≤ i ∧ i < 2 ^ D.toNat) (hk : 0 ≤ k) (hx : 0 ≤ x ∧ x ≤ 2 ^ k.toNat) :
    (0 ≤ i * 2 ^ k.toNat + x ∧ i * 2 ^ k.toNat + x ≤ 2 ^ (D + k).toNat) ∧ i * 2 ^ (D + k).toNat ≤ (i * 2 ^ k.toNat + x) * 2 ^ D.toNat ∧ (i * 2 ^ k.toNat + x) * 2 ^ D.toNat ≤ (i + 1) * 2 ^ (D + k).toNat := by
  have e : (D + k).toNat = D.toNat + k.toNat := by omega
  have hE := two_pow_pos D.toNat
  have hF := two_pow_pos k.toNat
  rw [e, pow_split]
  generalize (2 : Int) ^ D.toNat = E at *
  generalize (2 : Int) ^ k.toNat = F at *
  have h1 : 0 ≤ i * F := Int.mul_nonneg hi.1 (by omega)
  have h2 : (i + 1) * F ≤ E * F := Int.mul_le_mul_of_nonneg_right (by omega) (by omega)
  rw [Int.add_mul] at h2
  have h3 : i * (E * F) = i * F * E := by rw [Int.mul_assoc, Int.mul_comm F E]
  have h4 : (i + 1) * (E * F) = (i * F + F) * E := by rw [Int.add_mul, Int.add_mul, h3, Int.one_mul, Int.mul_comm E F]
  refine ⟨⟨by omega, by omega⟩, ?_, ?_⟩
  · rw [h3]; exact Int.mul_le_mul_of_nonneg_right (by omega) (by omega)
  · rw [h4]; exact Int.mul_le_mul_of_nonneg_right (by omega) (by omega)
theorem TileF.ne {d : Int} {np : Nat} {l : List S_Piece} {e : Int} (h : TileF d np 0 l e) (he : 0 < e) : l ≠ [] := by
  rintro rfl
  have h : (0 : Int) = e := h
  omega
theorem edgeInstant_true (l m n : List Int) (depth at_ more x : Int) (hl : l.length < 4294967296) (hm : m.length < 4294967296) (hn : n.length < 4294967296) : (law19_EdgeInstant_C l m n depth at_ more x).o = some true := by
  suffices h : ∃ r, (law19_EdgeInstant_C l m n depth at_ more x).o = some r ∧ r = true by
    obtain ⟨r, h1, rfl⟩ := h; exact h1
  show ∃ r, (law19_EdgeInstant_T l m n depth at_ more x).run NN = some r ∧ r = true
  obtain ⟨⟨s, p, q, d⟩, e1, ⟨d0, d1⟩, lp, lq⟩ := law19_motion_x l m n depth hl hm hn
  simp only at d0 d1 lp lq
  obtain ⟨r, e2, ok⟩ := prove_all s p q (by omega) (by omega) (d := d) d0 (by omega)
  simp only [law19_EdgeInstant_T, T.run, e1, e2, Option.bind_some, awake19]
  by_cases c : r.Kind = 1
  · rw [bif_nne c]
    have rd := ok.ready (by omega)
    have hne := (ok.tiles c).ne (two_pow_pos _)
    have hlen : 0 < r.Pieces.length := by
      cases hq : r.Pieces with
      | nil => exact absurd hq hne
      | cons _ _ => simp
    have hb := ok.bd.1
    rw [bif_ne (by omega), make_Round_e (by omega) (by omega)]
    simp only [Option.bind_some]
    have hr : 0 ≤ at_ % (r.Pieces.length : Int) ∧ at_ % (r.Pieces.length : Int) < (r.Pieces.length : Int) := ⟨Int.emod_nonneg _ (by omega), Int.emod_lt_of_pos _ (by omega)⟩
    rw [grd_p hr]
    have hmem : r.Pieces.getD (at_ % (r.Pieces.length : Int)).toNat default ∈ r.Pieces := getD_mem (by omega)
    generalize r.Pieces.getD (at_ % (r.Pieces.length : Int)).toNat default = y at hmem ⊢
    obtain ⟨⟨y0, y1⟩, ⟨y2, y3⟩, yf⟩ := ok.free c y hmem
    rw [bif_dneg (by omega), decide_eq_false (by omega), andC_out, cond_false, make_Round_e (by decide) (by decide)]
    simp only [Option.bind_some]
    have hk : 0 ≤ more % 9 ∧ more % 9 < 9 := by omega
    generalize more % 9 = k at hk ⊢
    have pk := pow9 hk.1 (by omega)
    have pD := pow9 y0 (by omega)
    rw [grd_p (by rw [u64w hk.1 (by omega)]; omega), grd_p (by rw [u64w hk.1 (by omega)]; omega), shl1 hk.1 (by omega), w64 (x := 2 ^ k.toNat + 1) (by omega) (by omega), make_Round_e (by omega) (by omega)]
    simp only [Option.bind_some]
    have hx : 0 ≤ x % (2 ^ k.toNat + 1) ∧ x % (2 ^ k.toNat + 1) ≤ 2 ^ k.toNat := ⟨Int.emod_nonneg _ (by omega), by have := Int.emod_lt_of_pos x (show (0 : Int) < 2 ^ k.toNat + 1 by omega); omega⟩
    generalize x % (2 ^ k.toNat + 1) = z at hx ⊢
    obtain ⟨j1, j2, j3⟩ := inst_in y0 ⟨y2, y3⟩ hk.1 hx
    have pE := pow9 (k := y.Depth + k) (by omega) (by omega)
    have bm : 0 ≤ y.Index * 2 ^ k.toNat := Int.mul_nonneg y2 (by omega)
    rw [u64w hk.1 (by omega), show min k.toNat 64 = k.toNat by omega, w64 (x := y.Index * 2 ^ k.toNat) (by omega) (by omega), w64 (x := y.Index * 2 ^ k.toNat + z) (by omega) (by omega), w64 (x := y.Depth + k) (by omega) (by omega), ref10_At_e p q _ _ (by omega) (by omega)]
    simp only [Option.bind_some, cond_true]
    have yb := (free_iff.1 yf).2.1
    obtain ⟨k1, -, k2, k3, k4⟩ := inst_box (s := s) (p := p) (q := q) (D := y.Depth) (i := y.Index) (e := y.Depth + k) (j := y.Index * 2 ^ k.toNat + z) rd.2.1 rd.2.2 ⟨y0, by omega⟩ ⟨y2, y3⟩ ⟨by omega, by omega⟩ j1 j2 j3 yb
    rw [k1, ref10_Box_e _ (by omega)]
    simp only [Option.bind_some, cond_true]
    have bl : (ptB (atV p q (y.Depth + k) (y.Index * 2 ^ k.toNat + z)).1).length < 4294967296 := by
      have := (inside_ok rd.2.1).2.1
      simp only [boxV, Bool.and_eq_true, decide_eq_true_eq] at k3
      omega
    rw [classify_CheckFree_e _ _ _ bl, free_mono k3 k4 yf]
    exact ⟨_, rfl, rfl⟩
  · rw [bif_neq c]; exact ⟨_, rfl, rfl⟩
theorem edgeCollides_true (l m n : List Int) (depth more x : Int) (hl : l.length < 4294967296) (hm : m.length < 4294967296) (hn : n.length < 4294967296) : (law19_EdgeCollides_C l m n depth more x).o = some true := by
  suffices h : ∃ r, (law19_EdgeCollides_C l m n depth more x).o = some r ∧ r = true by
    obtain ⟨r, h1, rfl⟩ := h; exact h1
  show ∃ r, (law19_EdgeCollides_T l m n depth more x).run NN = some r ∧ r = true
  obtain ⟨⟨s, p, q, d⟩, e1, ⟨d0, d1⟩, lp, lq⟩ := law19_motion_x l m n depth hl hm hn
  simp only at d0 d1 lp lq
  obtain ⟨r, e2, ok⟩ := prove_all s p q (by omega) (by omega) (d := d) d0 (by omega)
  simp only [law19_EdgeCollides_T, T.run, e1, e2, Option.bind_some, awake19]
  by_cases c : r.Kind = 2
  · rw [bif_nne c]
    have rd := ok.ready (by omega)
    have yf := ok.coll c
    obtain ⟨y0, y1⟩ := ok.depth
    obtain ⟨y2, y3⟩ := ok.index
    generalize r.At.Depth = D at *
    generalize r.At.Index = i at *
    rw [bif_dneg (by omega), decide_eq_false (by omega), andC_out, cond_false, make_Round_e (by decide) (by decide)]
    simp only [Option.bind_some]
    have hk : 0 ≤ more % 9 ∧ more % 9 < 9 := by omega
    generalize more % 9 = k at hk ⊢
    have pk := pow9 hk.1 (by omega)
    have pD := pow9 y0 (by omega)
    rw [grd_p (by rw [u64w hk.1 (by omega)]; omega), grd_p (by rw [u64w hk.1 (by omega)]; omega), shl1 hk.1 (by omega), w64 (x := 2 ^ k.toNat + 1) (by omega) (by omega), make_Round_e (by omega) (by omega)]
    simp only [Option.bind_some]
    have hx : 0 ≤ x % (2 ^ k.toNat + 1) ∧ x % (2 ^ k.toNat + 1) ≤ 2 ^ k.toNat := ⟨Int.emod_nonneg _ (by omega), by have := Int.emod_lt_of_pos x (show (0 : Int) < 2 ^ k.toNat + 1 by omega); omega⟩
    generalize x % (2 ^ k.toNat + 1) = z at hx ⊢
    obtain ⟨j1, j2, j3⟩ := inst_in y0 ⟨y2, y3⟩ hk.1 hx
    have pE := pow9 (k := D + k) (by omega) (by omega)
    have bm : 0 ≤ i * 2 ^ k.toNat := Int.mul_nonneg y2 (by omega)
    rw [u64w hk.1 (by omega), show min k.toNat 64 = k.toNat by omega, w64 (x := i * 2 ^ k.toNat) (by omega) (by omega), w64 (x := i * 2 ^ k.toNat + z) (by omega) (by omega), w64 (x := D + k) (by omega) (by omega), ref10_At_e p q _ _ (by omega) (by omega)]
    simp only [Option.bind_some, cond_true]
    have yb := (coll_iff.1 yf).1.1.2
    obtain ⟨k1, -, k2, k3, k4⟩ := inst_box (s := s) (p := p) (q := q) (D := D) (i := i) (e := D + k) (j := i * 2 ^ k.toNat + z) rd.2.1 rd.2.2 ⟨y0, by omega⟩ ⟨y2, y3⟩ ⟨by omega, by omega⟩ j1 j2 j3 yb
    rw [k1, ref10_Box_e _ (by omega)]
    simp only [Option.bind_some, cond_true]
    have bl : (ptB (atV p q (D + k) (i * 2 ^ k.toNat + z)).1).length < 4294967296 := by
      have := (inside_ok rd.2.1).2.1
      simp only [boxV, Bool.and_eq_true, decide_eq_true_eq] at k3
      omega
    rw [show (⟨s.Robot, s.Shapes, s.Skips⟩ : S_Scene) = s from rfl, classify_CheckColliding_e _ _ _ bl, coll_mono k3 k4 yf]
    exact ⟨_, rfl, rfl⟩
  · rw [bif_neq c]; exact ⟨_, rfl, rfl⟩
open Go.Proofs
theorem app_get {l : List Int} {x : Int} {i : Nat} (h : i ≤ l.length) : (l ++ [x]).getD i default = if i < l.length then l.getD i default else x := by
  simp only [List.getD_eq_getElem?_getD]
  by_cases c : i < l.length
  · rw [if_pos c, List.getElem?_append_left c]
  · rw [if_neg c, show i = l.length by omega, List.getElem?_append_right (Nat.le_refl _)]; simp
def LimC (r : S_Robot) (l : List Int) : Prop := ∀ i, i < l.length → (r.Joints.getD i default).Lo ≤ l.getD i default ∧ l.getD i default ≤ (r.Joints.getD i default).Hi
theorem LimC.app {r : S_Robot} {l : List Int} {x : Int} (h : LimC r l) (hx : (r.Joints.getD l.length default).Lo ≤ x ∧ x ≤ (r.Joints.getD l.length default).Hi) : LimC r (l ++ [x]) := by
  intro i hi
  simp at hi
  rw [app_get (by omega)]
  split
  · exact h i (by assumption)
  · rw [show i = l.length by omega]; exact hx
theorem make_Config_y (r : S_Robot) (l : List Int) (hl : l.length < 4294967296) (h3 : r.Joints.length ≤ 3) (hj : ∀ j ∈ r.Joints, JB j) : ∃ c : List Int, (make_Config_C r l).o = some c ∧ c.length = r.Joints.length ∧ LimC r c := by
  have e0 : (make_Config_C r l).o = (make_Config_T r l).run NN := rfl
  rw [e0]
  simp only [make_Config_T, T.run]
  have ef : (make_From_C l).o = some (l, 0) := rfl
  rw [ef, Option.bind_some]
  simp only
  refine loop_cnt (g := fun b => b) r.Joints.length (by omega) (fun j (y : List Int × Int × List Int × Int) => y.1 = l ∧ 0 ≤ y.2.1 ∧ y.2.1 ≤ (l.length : Int) ∧ (y.2.2.1.length = j ∧ LimC r y.2.2.1) ∧ y.2.2.2 = (j : Int))
    (fun (w : List Int) => w.length = r.Joints.length ∧ LimC r w) ⟨rfl, by simp, by simp, ⟨by simp [nl], fun i hi => by simp [nl] at hi⟩, rfl⟩ (fun j y hj1 hy => ?_) (fun y hy => ?_) (fun z hz => ⟨_, rfl, hz⟩)
  · obtain ⟨g1, g2, g3, ⟨g4, g6⟩, g5⟩ := hy
    have jb := hj _ (getD_mem hj1)
    unfold JB at jb
    obtain ⟨s1, p1, q1, u1, v1, w1, x1⟩ := Source_Next_x hl g2 g3 (k := 6) (by decide) (by decide)
    rw [g5, g1, bif_dpos (by omega), grd_p ⟨by omega, by omega⟩, grd_p ⟨by omega, by omega⟩, q1, Option.bind_some, wn (by omega), Int.toNat_natCast]
    cases s1 == 0
    · cases s1 == 1
      · simp only [cond_false]
        rw [w64 (x := (r.Joints.getD j default).Hi - (r.Joints.getD j default).Lo) (by omega) (by omega), w64 (x := (r.Joints.getD j default).Hi - (r.Joints.getD j default).Lo + 1) (by omega) (by omega)]
        obtain ⟨s2, p2, q2, u2, v2, w2, x2⟩ := Source_Next_x hl w1 x1 (k := (r.Joints.getD j default).Hi - (r.Joints.getD j default).Lo + 1) (by omega) (by omega)
        rw [q2, Option.bind_some]
        simp only
        rw [grd_p ⟨by simp; omega, by simp [maxLen_eq]; omega⟩, andC_out]
        refine ⟨_, rfl, rfl, w2, x2, ⟨by simp; omega, g6.app ?_⟩, rfl⟩
        rw [g4, w64 (by omega) (by omega)]; omega
      · simp only [cond_false, cond_true]
        rw [grd_p ⟨by simp; omega, by simp [maxLen_eq]; omega⟩, andC_out]
        exact ⟨_, rfl, rfl, w1, x1, ⟨by simp; omega, g6.app (by rw [g4]; omega)⟩, rfl⟩
    · simp only [cond_true]
      rw [grd_p ⟨by simp; omega, by simp [maxLen_eq]; omega⟩, andC_out]
      exact ⟨_, rfl, rfl, w1, x1, ⟨by simp; omega, g6.app (by rw [g4]; omega)⟩, rfl⟩
  · obtain ⟨g1, g2, g3, g4, g5⟩ := hy
    rw [g5, bif_dneg (by omega)]; exact ⟨_, rfl, g4⟩
theorem lim_inside {r : S_Robot} {c : List Int} (hr : robotV r = 0) (hl : c.length = r.Joints.length) (h : LimC r c) : insideV r c = true := by
  simp only [insideV, Bool.and_eq_true, decide_eq_true_eq]
  refine ⟨hr, hl, noneB_iff.2 fun i hi => ?_⟩
  have := h i hi
  simp only [outJ, Bool.or_eq_false_iff, decide_eq_false_iff_not]
  omega
theorem law19_motion_y (l m n : List Int) (d : Int) (hl : l.length < 4294967296) (hm : m.length < 4294967296) (hn : n.length < 4294967296) : ∃ y, (law19_motion_C l m n d).o = some y ∧ MO19 y ∧ y.2.1.length = y.1.Robot.Joints.length ∧ LimC y.1.Robot y.2.1 := by
  have e0 : (law19_motion_C l m n d).o = (law19_motion_T l m n d).run NN := rfl
  rw [e0]
  obtain ⟨s, es, s1, s2, s3⟩ := make_Scene_x l hl
  obtain ⟨p, ep, lp, lm⟩ := make_Config_y s.Robot m hm s2 s3
  obtain ⟨q, eq, lq⟩ := make_Config_x s.Robot n hn s2 s3
  simp only [law19_motion_T, T.run]
  rw [es, Option.bind_some, ep, Option.bind_some, eq, Option.bind_some]
  have fin : ∀ q' : List Int, q'.length ≤ 3 → ∃ y, ((make_Round_C (d.fdiv (2 ^ min (Int.toNat 4) 64)) 6).o.bind fun y70 => some (s, p, q', y70)) = some y ∧ MO19 y ∧ y.2.1.length = y.1.Robot.Joints.length ∧ LimC y.1.Robot y.2.1 := by
    intro q' hq'
    rw [make_Round_e (by decide) (by decide), Option.bind_some]
    exact ⟨_, rfl, ⟨by simp only; omega, by simp only; omega, hq'⟩, lp, lm⟩
  cases IntKind.i64.wrap (((BitVec.ofInt 64 d &&& BitVec.ofInt 64 8).toNat : Nat) : Int) == 8
  · exact fin q (by omega)
  · simp only [cond_true]
    have hq : ∃ q' : List Int, (andK (iter (fun (x64 : List Int × Int) => (bif decide (x64.2 < ((x64.1.length : Nat) : Int)) then grd (0 ≤ x64.2 ∧ x64.2 < ((p.length : Nat) : Int)) (grd ((x64.2).toNat < p.length) (grd (0 ≤ x64.2 ∧ x64.2 < ((x64.1.length : Nat) : Int)) (grd ((x64.2).toNat < x64.1.length) (grd (0 ≤ x64.2 ∧ x64.2 < ((p.length : Nat) : Int)) (grd ((x64.2).toNat < p.length)
        (grd (0 ≤ x64.2 ∧ x64.2 < ((x64.1.length : Nat) : Int)) (grd ((x64.2).toNat < x64.1.length ∧ 0 ≤ (x64.2).toNat) (some (.next ((x64.1.set ((x64.2).toNat) (IntKind.i64.wrap ((p.getD ((x64.2).toNat) default) + IntKind.i64.wrap ((IntKind.i64.wrap ((x64.1.getD ((x64.2).toNat) default) - (p.getD ((x64.2).toNat) default))).tdiv 16)))), (IntKind.i64.wrap (x64.2 + 1)))))))))))) else some (.out x64.1) : Option (Step3 (List Int × Int) (List Int) (Step3 Unit (List Int) (S_Scene × List Int × List Int × Int))))) NN (q, 0)) fun y67 => some (.out y67)) = some (.out q') ∧ q'.length ≤ 3 := by
      refine loop_cnt (g := fun b => Step3.out b) q.length (by omega) (fun j (y : List Int × Int) => y.1.length = q.length ∧ y.2 = (j : Int)) (fun (w : List Int) => w.length ≤ 3) ⟨rfl, rfl⟩ (fun j y hj hy => ?_) (fun y hy => ?_) (fun z hz => ⟨_, rfl, hz⟩)
      · obtain ⟨g1, g2⟩ := hy
        rw [g2, bif_dpos (by omega), grd_p ⟨by omega, by omega⟩, Int.toNat_natCast, grd_p (by omega), grd_p ⟨by omega, by omega⟩, grd_p (by omega), grd_p ⟨by omega, by omega⟩, grd_p (by omega), grd_p ⟨by omega, by omega⟩, grd_p ⟨by omega, by omega⟩, wn (by omega)]
        exact ⟨_, rfl, by simp only [List.length_set]; exact g1, rfl⟩
      · obtain ⟨g1, g2⟩ := hy
        rw [g2, bif_dneg (by omega)]; exact ⟨_, rfl, by omega⟩
    obtain ⟨q', e1, e2⟩ := hq
    rw [e1, andC_out]
    exact fin q' e2
theorem piece_pt {p : List Int} (i : Int) (d k : Nat) : pieceI p p d i k = ptI p k := by
  unfold pieceI ptI
  have e : p.getD k default - p.getD k default = 0 := by omega
  rw [e, Int.mul_zero, Int.mul_zero]
  have h1 : min (0 : Int) 0 / 2 ^ d = 0 := by rw [show min (0 : Int) 0 = 0 from rfl, Int.zero_ediv]
  have h2 : cdiv (max (0 : Int) 0) (2 ^ d) = 0 := by unfold cdiv; rw [show max (0 : Int) 0 = 0 from rfl, Int.neg_zero, Int.zero_ediv]; rfl
  rw [h1, h2, Int.add_zero]
theorem pieceV_pt {r : S_Robot} {p : List Int} (hp : insideV r p = true) {d i : Int} (h0 : 0 ≤ d) (h1 : d ≤ 20) (i0 : 0 ≤ i) (i1 : i < 2 ^ d.toNat) : (pieceV p p d i).1 = ptB p := by
  have a := inside_ok hp
  unfold pieceV ptB
  rw [if_pos ⟨motion_ok hp hp h0 h1, i0, i1⟩, if_pos a.2.2.2.1]
  exact tab_congr fun k _ => piece_pt i _ k
theorem ex_point {s : S_Scene} {p : List Int} (hp : insideV s.Robot p = true) {d : Int} (h20 : d ≤ 20) {v : S_Verdict} (hv0 : v.Kind = 0) (hva : clsV s (ptB p) v.Normals = v) (hvl : v.Normals.length ≤ 576) :
    ∀ (f : Nat) (k i : Int) (h : List V3) (W : XW) (n : Nat), k + f = d → 0 ≤ k → 0 ≤ i → i < 2 ^ k.toNat → f + 1 ≤ n → h.length ≤ 576 → clsV s (ptB p) h = v →
      ∃ k' i', exO n s p p d k i h [] W = some (exR false [] (0, nl, k', i', nl, 0, nl, nl) s p p d) := by
  have hpl := (inside_ok hp).2.2.1
  intro f
  induction f with
  | zero =>
    intro k i h W n hk h0 i0 i1 hn hh hv
    obtain ⟨n, rfl⟩ : ∃ m, n = m + 1 := ⟨n - 1, by omega⟩
    have e := classify_Box_e s (pieceV p p k i).1 h (by have := pieceV_len p p k i; omega) (by omega)
    rw [pieceV_pt hp h0 (by omega) i0 i1, hv] at e
    rw [ex_step n s p p d k i h [] W (by omega) (by omega) (by rw [pieceV_pt hp h0 (by omega) i0 i1]; exact e) ⟨by simp, by simp⟩, if_neg (by simp), if_neg (by omega), if_neg (by omega), if_neg (by omega)]
    exact ⟨_, _, rfl⟩
  | succ f ih =>
    intro k i h W n hk h0 i0 i1 hn hh hv
    obtain ⟨n, rfl⟩ : ∃ m, n = m + 1 := ⟨n - 1, by omega⟩
    have e := classify_Box_e s (pieceV p p k i).1 h (by have := pieceV_len p p k i; omega) (by omega)
    rw [pieceV_pt hp h0 (by omega) i0 i1, hv] at e
    rw [ex_step n s p p d k i h [] W (by omega) (by omega) (by rw [pieceV_pt hp h0 (by omega) i0 i1]; exact e) ⟨by simp, by simp⟩, if_neg (by simp), if_neg (by omega), if_neg (by omega), if_pos (by omega)]
    have hp20 := pow20 (k := k.toNat) (by omega)
    have hpk : (2 : Int) ^ (k + 1).toNat = 2 * 2 ^ k.toNat := by rw [show (k + 1).toNat = k.toNat + 1 by omega, Int.pow_succ]; omega
    rw [w64 (x := k + 1) (by omega) (by omega), w64 (x := 2 * i) (by omega) (by omega)]
    obtain ⟨k', i', e2⟩ := ih (k + 1) (2 * i) v.Normals W n (by omega) (by omega) (by omega) (by rw [hpk]; omega) (by omega) hvl hva
    rw [e2]
    exact ⟨k', i', rfl⟩
theorem edgePoint_true (l m : List Int) (depth : Int) (hl : l.length < 4294967296) (hm : m.length < 4294967296) : (law19_EdgePoint_C l m depth).o = some true := by
  suffices h : ∃ r, (law19_EdgePoint_C l m depth).o = some r ∧ r = true by
    obtain ⟨r, h1, rfl⟩ := h; exact h1
  show ∃ r, (law19_EdgePoint_T l m depth).run NN = some r ∧ r = true
  obtain ⟨⟨s, p, q, d⟩, e1, ⟨⟨d0, d1⟩, lp, lq⟩, lj, lm⟩ := law19_motion_y l m m depth hl hm hm
  simp only at d0 d1 lp lq lj lm
  have lb : (ptB p).length < 4294967296 := by
    unfold ptB; split
    · rw [tab_len]; omega
    · simp [nl]
  have e2 := classify_Box_e s (ptB p) nl lb (by simp [nl])
  have vl := cls_len s (ptB p) nl
  have vc := cls_cases s (ptB p) nl
  have va := cls_again (s := s) (b := ptB p) (hs := nl)
  have v0 : sceneV s ≠ 0 → clsV s (ptB p) nl = ⟨0, nl, noWit⟩ := fun h => by unfold clsV; rw [if_neg fun h' => h h'.1]
  have nb : PsB nl := ⟨by simp [nl], by simp [nl]⟩
  obtain ⟨ok0, ps0, W0', e0, -⟩ := ex_all s p p (by omega) (by omega) (d := d) (by omega) d.toNat 0 0 nl nl W0 NN (by omega) (by omega) (by omega) (by decide) (by show _ ≤ 4294967296; omega) (by simp [nl]) nb
  simp only [law19_EdgePoint_T, T.run, e1, e2, ref10_Box_e p (by omega), Option.bind_some, awake19, cond_true]
  by_cases hs : sceneV s = 0
  · have hp : insideV s.Robot p = true := lim_inside (sceneV_ok hs).robot lj lm
    have hbad : badM19 s p p = false := by unfold badM19; rw [hp, hs]; rfl
    have ev : (classify_Box_C s (pieceV p p 0 0).1 nl).o = some (clsV s (ptB p) nl) := by rw [pieceV_pt hp (by omega) (by omega) (by omega) (by decide)]; exact e2
    have st := ex_step 4294967295 s p p d 0 0 nl nl W0 (by omega) (by omega) ev nb
    rw [if_neg (by simp [nl])] at st
    generalize hv : clsV s (ptB p) nl = v at *
    rcases vc with ⟨k0, kw⟩ | ⟨k1, kw, kb, kf⟩ | ⟨k2, kn, kc, l1, l2⟩
    · obtain ⟨k', i', e3⟩ := ex_point (s := s) (p := p) hp (d := d) (by omega) k0 (va k0) vl d.toNat 0 0 nl W0 NN (by omega) (by omega) (by omega) (by decide) (by show _ ≤ 4294967296; omega) (by simp [nl]) hv
      have e4 := prove_run2 s p p d false [] _ d0 (by omega) e3
      rw [hbad] at e4
      rw [e4]
      have sw := same_witness noWit (by simp [noWit, nl]) (by simp [noWit, nl])
      simp only [Option.bind_some, kw, cond_false, edgeOf]
      rw [bif_eq k0.symm]
      have : (⟨0, nl, nl⟩ : S_Witness) = noWit := rfl
      rw [this, sw]
      exact ⟨_, rfl, rfl⟩
    · rw [if_pos k1] at st
      have e4 := prove_run2 s p p d true _ _ d0 (by omega) st
      rw [hbad] at e4
      rw [e4]
      have sw := same_witness noWit (by simp [noWit, nl]) (by simp [noWit, nl])
      simp only [Option.bind_some, kw, cond_false, edgeOf, cond_true]
      rw [bif_eq k1.symm]
      have : (⟨0, nl, nl⟩ : S_Witness) = noWit := rfl
      rw [this, sw]
      have e5 : (nl ++ [(⟨0, 0, v.Normals⟩ : S_Piece)]) = [⟨0, 0, v.Normals⟩] := rfl
      rw [e5]
      simp only [Option.bind_some, cond_true, List.length_cons, List.length_nil]
      rw [bif_nne rfl, bif_eq (by rfl), grd_p (by omega)]
      have e6 : ([(⟨0, 0, v.Normals⟩ : S_Piece)].getD (Int.toNat 0) default).Normals = v.Normals := rfl
      rw [e6, same_vec _ (by omega)]
      exact ⟨_, rfl, rfl⟩
    · rw [if_neg (by omega), if_pos k2] at st
      have e4 := prove_run2 s p p d false _ _ d0 (by omega) st
      rw [hbad] at e4
      rw [e4]
      have sw := same_witness v.Witness (by omega) (by omega)
      simp only [Option.bind_some, cond_false, edgeOf]
      rw [bif_eq k2.symm]
      have : (⟨v.Witness.Pair, v.Witness.Left, v.Witness.Right⟩ : S_Witness) = v.Witness := rfl
      rw [this, sw]
      exact ⟨_, rfl, rfl⟩
  · have hbad : badM19 s p p = true := by unfold badM19; rw [show (sceneV s != 0) = true by simp [hs]]; rfl
    have e4 := prove_run2 s p p d ok0 ps0 W0' d0 (by omega) e0
    rw [hbad] at e4
    rw [e4, v0 hs]
    have sw := same_witness noWit (by simp [noWit, nl]) (by simp [noWit, nl])
    simp only [Option.bind_some, cond_true, noEdge]
    rw [bif_eq rfl]
    have : (⟨0, nl, nl⟩ : S_Witness) = noWit := rfl
    rw [this, sw]
    exact ⟨_, rfl, rfl⟩
end Go.Abs
