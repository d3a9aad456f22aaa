/-
  DL4 (a part of a claim: our own text).
-/
import Derived.Test.YtnehaejghnoigaaGreatXGDL3
import Derived.Test.YtnehaejghnoigaaGreatXGDM
import Derived.Test.YtnehaejghnoigaaGreatXGD3
namespace Go.Abs
open Go.Proofs
def atV (p q : List Int) (e j : Int) : List Int × Bool := if motionV p q e = true ∧ 0 ≤ j ∧ j ≤ 2 ^ e.toNat then (tab (atI p q e.toNat j) p.length, true) else (nl, false)
def ptI (c : List Int) (i : Nat) : S_Interval := ⟨c.getD i default, c.getD i default⟩
def ptB (c : List Int) : List S_Interval := if smallV c = true then tab (ptI c) c.length else nl
theorem ref10_Box_e (c : List Int) (hc : c.length < 4294967296) : (ref10_Box_C c).o = some (ptB c) := by
  show (ref10_Box_T c).run NN = _
  simp only [ref10_Box_T, T.run, ref10_small_e c hc, Option.bind_some]
  unfold ptB
  cases hs : smallV c with
  | false => rfl
  | true =>
    rw [if_pos rfl]
    refine (loop_to (fun i => (tab (ptI c) i, (i : Int))) (tab (ptI c) c.length) c.length rfl hc (fun i hi => ?_) ?_).trans rfl
    · rw [bif_dpos (by omega), grd_p (by omega), grd_p (by omega), Int.toNat_natCast, grd_p (by simp only [tab_len, List.length_cons, List.length_nil, maxLen_eq]; omega), wn (by omega), tab_succ]; rfl
    · rw [bif_dneg (by omega)]
theorem inside_ok {r : S_Robot} {c : List Int} (h : insideV r c = true) : robotV r = 0 ∧ c.length = r.Joints.length ∧ c.length ≤ 10 ∧ smallV c = true ∧ ∀ i, i < c.length → (r.Joints.getD i default).Lo ≤ c.getD i default ∧ c.getD i default ≤ (r.Joints.getD i default).Hi := by
  simp only [insideV, Bool.and_eq_true, decide_eq_true_eq] at h
  obtain ⟨h1, h2, h3⟩ := h
  have hr := robotV_ok h1
  have lim : ∀ i, i < c.length → (r.Joints.getD i default).Lo ≤ c.getD i default ∧ c.getD i default ≤ (r.Joints.getD i default).Hi := fun i hi => by
    have := noneB_iff.1 h3 i hi
    simp only [outJ, Bool.or_eq_false_iff, decide_eq_false_iff_not] at this
    omega
  refine ⟨h1, h2, by omega, ?_, lim⟩
  unfold smallV
  rw [noneB_iff]
  intro i hi
  have jl := (robot_joint h1 (i := i) (by omega)).lim
  have rb := reach_bd (r.Joints.getD i default).Kind
  have := lim i hi
  simp only [big1, Bool.or_eq_false_iff, decide_eq_false_iff_not]
  omega
theorem motion_ok {r : S_Robot} {p q : List Int} {e : Int} (hp : insideV r p = true) (hq : insideV r q = true) (h0 : 0 ≤ e) (h1 : e ≤ 20) : motionV p q e = true := by
  have a := inside_ok hp
  have b := inside_ok hq
  exact motionV_iff.2 ⟨a.2.2.2.1, b.2.2.2.1, by omega, h0, h1⟩
theorem tab_get' {α : Type} [Inhabited α] {f : Nat → α} {n i : Nat} (h : i < n) : (tab f n).getD i default = f i := tab_get h
theorem inst_box {s : S_Scene} {p q : List Int} {D i e j : Int} (hp : insideV s.Robot p = true) (hq : insideV s.Robot q = true) (hD : 0 ≤ D ∧ D ≤ 20) (hi : 0 ≤ i ∧ i < 2 ^ D.toNat) (he : 0 ≤ e ∧ e ≤ 20) (hj : 0 ≤ j ∧ j ≤ 2 ^ e.toNat)
    (h1 : i * 2 ^ e.toNat ≤ j * 2 ^ D.toNat) (h2 : j * 2 ^ D.toNat ≤ (i + 1) * 2 ^ e.toNat) (hb : boxV s.Robot (pieceV p q D i).1 = true) :
    (atV p q e j).2 = true ∧ insideV s.Robot (atV p q e j).1 = true ∧ (atV p q e j).1.length = p.length ∧ boxV s.Robot (ptB (atV p q e j).1) = true ∧ SBx s.Robot.Joints.length (ptB (atV p q e j).1) (pieceV p q D i).1 := by
  have a := inside_ok hp
  have b := inside_ok hq
  have ev : atV p q e j = (tab (atI p q e.toNat j) p.length, true) := by unfold atV; rw [if_pos ⟨motion_ok hp hq he.1 he.2, hj.1, hj.2⟩]
  have ep : (pieceV p q D i).1 = tab (pieceI p q D.toNat i) p.length := by unfold pieceV; rw [if_pos ⟨motion_ok hp hq hD.1 hD.2, hi.1, hi.2⟩]
  rw [ev]
  have hin : insideV s.Robot (tab (atI p q e.toNat j) p.length) = true := by
    simp only [insideV, Bool.and_eq_true, decide_eq_true_eq, tab_len]
    refine ⟨a.1, a.2.1, noneB_iff.2 fun k hk => ?_⟩
    have := at_bd (p := p) (q := q) (k := k) hj.1 hj.2
    have := a.2.2.2.2 k hk
    have := b.2.2.2.2 k (by omega)
    simp only [outJ, Bool.or_eq_false_iff, decide_eq_false_iff_not]
    rw [tab_get' hk]
    omega
  have sm := (inside_ok hin).2.2.2.1
  have epb : ptB (tab (atI p q e.toNat j) p.length) = tab (ptI (tab (atI p q e.toNat j) p.length)) p.length := by unfold ptB; rw [if_pos sm, tab_len]
  have hbx : boxV s.Robot (ptB (tab (atI p q e.toNat j) p.length)) = true := by
    rw [epb]
    simp only [boxV, Bool.and_eq_true, decide_eq_true_eq, tab_len]
    refine ⟨a.2.1, noneB_iff.2 fun k hk => ?_⟩
    unfold notV
    rw [tab_get' hk]
    have g := small_get sm (i := k) (by rw [tab_len]; exact hk)
    have : vV (ptI (tab (atI p q e.toNat j) p.length) k) = true := vV_iff.2 ⟨g.1, Int.le_refl _, g.2⟩
    rw [this]; rfl
  refine ⟨rfl, hin, tab_len _ _, hbx, show SBx s.Robot.Joints.length (ptB (tab (atI p q e.toNat j) p.length)) (pieceV p q D i).1 from SBx.of hbx hb fun k hk => ?_⟩
  rw [epb, ep, tab_get' (by omega), tab_get' (by omega)]
  have g := at_in (p := p) (q := q) (k := k) h1 h2
  unfold ptI
  rw [tab_get' (by omega)]
  exact g
open Go.Proofs
open Go.Proofs
open Go.Proofs
def PC (n : Nat) (l : List S_Piece) : Prop := PB n l ∧ ∀ x ∈ l, InR x.Index
theorem PC.get {n : Nat} {l : List S_Piece} (h : PC n l) {k : Nat} (hk : k < l.length) : (l.getD k default).Normals.length ≤ 1048576 ∧ InR (l.getD k default).Index := ⟨h.1.get hk, h.2 _ (getD_mem hk)⟩
theorem PC.set {n : Nat} {l : List S_Piece} (h : PC n l) {k : Nat} {x : S_Piece} (hx : x.Normals.length ≤ 1048576 ∧ InR x.Index) : PC n (l.set k x) := by
  refine ⟨h.1.set hx.1, fun y hy => ?_⟩
  rcases List.mem_or_eq_of_mem_set hy with hy | rfl
  · exact h.2 y hy
  · exact hx.2
theorem PC.app {n m : Nat} {l k : List S_Piece} (h : PC n l) (h' : PC m k) : PC (n + m) (l ++ k) :=
  ⟨h.1.app h'.1, fun y hy => (List.mem_append.1 hy).elim (h.2 y) (h'.2 y)⟩
theorem PC.take {n : Nat} {l : List S_Piece} (h : PC n l) (k : Nat) : PC k (l.take k) := ⟨h.1.take k, fun y hy => h.2 y (List.mem_of_mem_take hy)⟩
theorem PC.sub {n : Nat} {l : List S_Piece} (h : PC n l) (i k : Nat) : PC k ((l.drop i).take k) := ⟨h.1.sub i k, fun y hy => h.2 y (List.mem_of_mem_drop (List.mem_of_mem_take hy))⟩
theorem PC.mono {n m : Nat} {l : List S_Piece} (h : PC n l) (hm : n ≤ m) : PC m l := ⟨h.1.mono hm, h.2⟩
theorem PC.one {x : S_Piece} (hx : x.Normals.length ≤ 1048576 ∧ InR x.Index) : PC 1 [x] := ⟨PB.one hx.1, fun y hy => by simp at hy; subst hy; exact hx.2⟩
set_option maxHeartbeats 4000000 in
theorem law20_pieces_y {n : Nat} (l : List S_Piece) (hl : PC n l) (hn : n ≤ 1048576) (a b c : Int) : ∃ y, (law20_pieces_C l a b c).o = some y ∧ PC (n + 1) y := by
  have e0 : (law20_pieces_C l a b c).o = (law20_pieces_T l a b c).run NN := rfl
  have hle := hl.1.1
  rw [e0]
  simp only [law20_pieces_T, T.run]
  rw [grd_p ⟨by omega, by rw [maxLen_eq]; omega⟩]
  by_cases h0 : l.length = 0
  · rw [bif_eq (by omega), make_Round_e (by decide) (by decide), Option.bind_some, make_Round_e (by decide) (by decide), Option.bind_some]
    exact ⟨_, rfl, (PC.one ⟨by simp [nl], by unfold InR; simp only; omega⟩).mono (by omega)⟩
  · rw [bif_ne (by omega), make_Round_e (by omega) (by omega), Option.bind_some]
    obtain ⟨K, hK, hlt⟩ : ∃ K : Nat, b % (l.length : Int) = (K : Int) ∧ K < l.length := ⟨(b % (l.length : Int)).toNat, by have := Int.emod_nonneg b (show (l.length : Int) ≠ 0 by omega); omega, by have := Int.emod_nonneg b (show (l.length : Int) ≠ 0 by omega); have := Int.emod_lt_of_pos b (show (0 : Int) < l.length by omega); omega⟩
    rw [hK, make_Round_e (by decide) (by decide), Option.bind_some]
    have hg := hl.get hlt
    have wK : IntKind.i64.wrap ((K : Int) + 1) = ((K + 1 : Nat) : Int) := by rw [w64 (by omega) (by omega)]; omega
    simp only [Int.toNat_natCast, wK]
    have fin : ∀ y : List S_Piece, PC (n + 1) y → ∃ z, (andC (some (.out y) : Option (Step3 Unit (List S_Piece) (List S_Piece))) fun y21 => some y21) = some z ∧ PC (n + 1) z := fun y hy => ⟨y, rfl, hy⟩
    cases a % 7 == 0
    rotate_left
    · simp only [cond_true]
      rw [grd_p ⟨by omega, by omega⟩, grd_p hlt, make_Round_e (by decide) (by decide), Option.bind_some, grd_p ⟨by omega, by omega⟩, grd_p ⟨hlt, by omega⟩]
      exact fin _ ((hl.set (by first | exact hg | exact ⟨hg.1, InR.wr _⟩ | exact ⟨by simpa using hg.1, hg.2⟩)).mono (by omega))
    simp only [cond_false]
    cases a % 7 == 1
    rotate_left
    · simp only [cond_true]
      rw [grd_p ⟨by omega, by omega⟩, grd_p hlt, make_Round_e (by decide) (by decide), Option.bind_some, grd_p ⟨by omega, by omega⟩, grd_p ⟨hlt, by omega⟩]
      exact fin _ ((hl.set (by first | exact hg | exact ⟨hg.1, InR.wr _⟩ | exact ⟨by simpa using hg.1, hg.2⟩)).mono (by omega))
    simp only [cond_false]
    cases a % 7 == 2
    rotate_left
    · simp only [cond_true]
      rw [grd_p ⟨by omega, by omega, by omega⟩, grd_p ⟨by omega, by omega, by omega⟩, grd_p ⟨by omega, by rw [maxLen_eq]; omega, by omega, by omega⟩]
      exact fin _ (((hl.take _).app (hl.sub _ _)).mono (by omega))
    simp only [cond_false]
    cases a % 7 == 3
    rotate_left
    · simp only [cond_true]
      rw [grd_p ⟨by omega, by omega⟩, grd_p hlt, grd_p ⟨by simp only [List.length_cons, List.length_nil]; omega, by simp only [List.length_cons, List.length_nil, maxLen_eq]; omega⟩]
      exact fin _ (hl.app (PC.one hg))
    simp only [cond_false]
    cases a % 7 == 4
    rotate_left
    · simp only [cond_true]
      rw [grd_p ⟨by omega, by omega⟩, grd_p hlt, grd_p ⟨by omega, by rw [maxLen_eq]; omega⟩, grd_p ⟨by omega, by omega⟩, grd_p hlt, grd_p ⟨by omega, by omega⟩, grd_p trivial]
      by_cases hN : (l.getD K default).Normals.length = 0
      · rw [bif_dneg (by omega)]
        exact fin _ ((hl.set hg).mono (by omega))
      · rw [bif_dpos (by omega), grd_p ⟨by omega, by omega⟩, grd_p trivial, make_Round_e (by omega) (by omega), Option.bind_some]
        obtain ⟨v, hv⟩ := make_Normal_x c b a
        have r0 := Int.emod_nonneg c (show ((l.getD K default).Normals.length : Int) ≠ 0 by omega)
        have r1 := Int.emod_lt_of_pos c (show (0 : Int) < ((l.getD K default).Normals.length : Int) by omega)
        rw [hv, Option.bind_some, grd_p ⟨r0, r1⟩, grd_p ⟨by omega, by omega⟩]
        exact fin _ ((hl.set (by first | exact hg | exact ⟨hg.1, InR.wr _⟩ | exact ⟨by simpa using hg.1, hg.2⟩)).mono (by omega))
    simp only [cond_false]
    cases a % 7 == 5
    rotate_left
    · simp only [cond_true]
      rw [make_Round_e (by decide) (by decide), Option.bind_some]
      have r0 := Int.emod_nonneg c (show (3 : Int) ≠ 0 by decide)
      have r1 := Int.emod_lt_of_pos c (show (0 : Int) < 3 by decide)
      rw [grd_p ⟨r0, by simp only [List.length_cons, List.length_nil]; omega⟩, grd_p (by simp only [List.length_cons, List.length_nil]; omega), grd_p ⟨by omega, by omega⟩, grd_p ⟨hlt, by omega⟩]
      exact fin _ ((hl.set (by first | exact hg | exact ⟨hg.1, InR.wr _⟩ | exact ⟨by simpa using hg.1, hg.2⟩)).mono (by omega))
    simp only [cond_false]
    have z0 : (0 : Int).toNat = 0 := rfl
    rw [z0, grd_p ⟨by omega, by omega⟩, grd_p hlt, grd_p ⟨by omega, by omega, by omega⟩, grd_p ⟨by omega, by rw [maxLen_eq]; omega, by omega⟩]
    rw [grd_p ⟨by simp only [List.length_cons, List.length_nil, List.length_take, List.length_drop]; omega, by simp only [List.length_cons, List.length_nil, List.length_take, List.length_drop, maxLen_eq]; omega⟩]
    rw [grd_p ⟨by omega, by omega, by omega⟩, grd_p ⟨by simp only [List.length_cons, List.length_nil, List.length_take, List.length_drop, List.length_append]; omega, by simp only [List.length_cons, List.length_nil, List.length_take, List.length_drop, List.length_append, maxLen_eq]; omega, by omega⟩]
    refine fin _ ((((hl.sub _ _).app ⟨⟨?_, ?_⟩, ?_⟩).app (hl.sub _ _)).mono (m := n + 1) (n := (K - 0) + 2 + (l.length - (K + 1))) (by omega))
    · simp
    · intro y hy
      simp only [List.mem_cons, List.not_mem_nil, or_false] at hy
      rcases hy with rfl | rfl <;> exact hg.1
    · intro y hy
      simp only [List.mem_cons, List.not_mem_nil, or_false] at hy
      rcases hy with rfl | rfl <;> exact InR.wr _
def CovOk (l : List S_Piece) : Prop := l.length ≤ 4096 ∧ (∀ j, j < l.length → badT l j = false) ∧ plc l l.length = 1048576
theorem cover_iff {l : List S_Piece} : (coverV l).2 = true ↔ CovOk l := by
  constructor
  · intro h
    have h1 := (cover_ok h).1
    unfold coverV at h
    rw [if_pos h1] at h
    split at h
    · rename_i r hr
      obtain ⟨j, -, -, h3, -⟩ := scan_some _ _ hr
      cases hb : badT l j with
      | false => rw [hb] at h3; cases h3
      | true => rw [hb] at h3; simp only [sw, cond_true, Option.some.injEq] at h3; rw [← h3] at h; cases h
    · rename_i hn
      refine ⟨h1, fun j hj => ?_, by simpa using h⟩
      have := (scan_none _ _).1 hn j (Nat.zero_le _) (by omega)
      cases hb : badT l j with
      | false => rfl
      | true => rw [hb] at this; cases this
  · rintro ⟨h1, h2, h3⟩
    unfold coverV
    rw [if_pos h1]
    have : scan (fun j => sw (badT l j) ((j : Int), false)) l.length 0 = none := (scan_none _ _).2 fun j _ hj => by rw [h2 j (by omega)]; rfl
    rw [this, h3]; rfl
theorem check_iff {s : S_Scene} {p q : List Int} {l : List S_Piece} : (checkV s p q l).2 = 0 ↔ (sceneV s = 0 ∧ insideV s.Robot p = true ∧ insideV s.Robot q = true) ∧ CovOk l ∧
    ∀ j, j < l.length → freeV s (pieceV p q (l.getD j default).Depth (l.getD j default).Index).1 (l.getD j default).Normals = true := by
  constructor
  · intro h
    have h0 := checkV_ok h
    refine ⟨⟨h0.1, h0.2.1, h0.2.2.1⟩, ?_⟩
    unfold checkV at h
    rw [if_neg (fun h' => h' h0.1), if_neg (by rw [h0.2.1, h0.2.2.1]; decide)] at h
    split at h
    · cases h
    · rename_i hc
      refine ⟨cover_iff.1 (by simpa using hc), fun j hj => ?_⟩
      split at h
      · rename_i r hr
        obtain ⟨j, -, -, h3, -⟩ := scan_some _ _ hr
        cases hb : notF s p q l j with
        | false => rw [hb] at h3; cases h3
        | true => rw [hb] at h3; simp only [sw, cond_true, Option.some.injEq] at h3; rw [← h3] at h; cases h
      · rename_i hn
        have := (scan_none _ _).1 hn j (Nat.zero_le _) (by omega)
        cases hb : notF s p q l j with
        | false => simpa [notF] using hb
        | true => rw [hb] at this; cases this
  · rintro ⟨⟨h1, h2, h3⟩, h4, h5⟩
    unfold checkV
    rw [if_neg (fun h' => h' h1), if_neg (by rw [h2, h3]; decide), if_neg (by rw [cover_iff.2 h4]; decide)]
    have : scan (fun j => sw (notF s p q l j) ((j : Int), (2002 : Int))) l.length 0 = none := (scan_none _ _).2 fun j _ hj => by
      have := h5 j (by omega)
      unfold notF; rw [this]; rfl
    rw [this]
theorem badT_no {l : List S_Piece} {j : Nat} (h : badT l j = false) : ∃ n, begV (l.getD j default) = some (plc l j, n) ∧ plc l (j + 1) = plc l j + n := by
  unfold badT at h
  cases hb : begV (l.getD j default) with
  | none => rw [hb] at h; cases h
  | some x =>
    obtain ⟨f, n⟩ := x
    rw [hb] at h
    have hf : f = plc l j := by simpa using h
    refine ⟨n, by rw [hf], ?_⟩
    simp only [plc, hb, hf]
theorem plc_succ {l : List S_Piece} {j : Nat} {f n : Int} (h : begV (l.getD j default) = some (f, n)) : plc l (j + 1) = f + n := by simp only [plc, h]
theorem beg_range {x : S_Piece} {y : Int × Int} (h : begV x = some y) : (0 ≤ x.Depth ∧ x.Depth ≤ 20) ∧ (0 ≤ x.Index ∧ x.Index < 2 ^ x.Depth.toNat) ∧ y = (x.Index * 2 ^ (20 - x.Depth.toNat), 2 ^ (20 - x.Depth.toNat)) := by
  unfold begV at h
  split at h
  · rename_i hc
    simp only [Option.some.injEq] at h
    exact ⟨hc.1, hc.2, h.symm⟩
  · cases h
open Go.Proofs
theorem pow20_split {a : Int} (h0 : 0 ≤ a) (h1 : a ≤ 20) : (2 : Int) ^ (20 - a).toNat * 2 ^ a.toNat = 1048576 := by
  rw [← Int.pow_add, show (20 - a).toNat + a.toNat = 20 by omega]; decide
theorem place_inst {I i D e : Int} (d0 : 0 ≤ D ∧ D ≤ 20) (e0 : 0 ≤ e ∧ e ≤ 20) (h : I * 2 ^ (20 - D).toNat ≤ i * 2 ^ (20 - e).toNat) : I * 2 ^ e.toNat ≤ i * 2 ^ D.toNat := by
  have p1 := pow20_split d0.1 d0.2
  have p2 := pow20_split e0.1 e0.2
  have q1 := two_pow_pos D.toNat
  have q2 := two_pow_pos e.toNat
  generalize (2 : Int) ^ (20 - D).toNat = A at *
  generalize (2 : Int) ^ (20 - e).toNat = B at *
  generalize (2 : Int) ^ D.toNat = X at *
  generalize (2 : Int) ^ e.toNat = Y at *
  have h1 := Int.mul_le_mul_of_nonneg_right (Int.mul_le_mul_of_nonneg_right h (Int.le_of_lt q1)) (Int.le_of_lt q2)
  have a1 : I * A * X * Y = I * Y * 1048576 := by rw [← p1, Int.mul_assoc I A X, Int.mul_assoc I, Int.mul_assoc I, Int.mul_comm Y]
  have a2 : i * B * X * Y = i * X * 1048576 := by rw [← p2, Int.mul_assoc, Int.mul_comm X Y, ← Int.mul_assoc, Int.mul_assoc i B Y, Int.mul_assoc i, Int.mul_comm (B * Y), ← Int.mul_assoc]
  rw [a1, a2] at h1
  omega
theorem place_inst' {I i D e : Int} (d0 : 0 ≤ D ∧ D ≤ 20) (e0 : 0 ≤ e ∧ e ≤ 20) (h : i * 2 ^ (20 - e).toNat ≤ I * 2 ^ (20 - D).toNat) : i * 2 ^ D.toNat ≤ I * 2 ^ e.toNat := place_inst e0 d0 h
theorem place_bd {i e : Int} (e0 : 0 ≤ e ∧ e ≤ 20) (hi : 0 ≤ i ∧ i ≤ 2 ^ e.toNat) : 0 ≤ i * 2 ^ (20 - e).toNat ∧ i * 2 ^ (20 - e).toNat ≤ 1048576 := by
  have p := pow20_split e0.1 e0.2
  have q := two_pow_pos (20 - e).toNat
  refine ⟨Int.mul_nonneg hi.1 (by omega), ?_⟩
  have := Int.mul_le_mul_of_nonneg_right hi.2 (Int.le_of_lt q)
  rw [Int.mul_comm (2 ^ e.toNat), p] at this
  exact this
theorem cov_at {l : List S_Piece} (h : CovOk l) {t : Int} (t0 : 0 ≤ t) (t1 : t ≤ 1048576) : ∃ j, j < l.length ∧ plc l j ≤ t ∧ t ≤ plc l (j + 1) := by
  have key : ∀ m, m + 1 ≤ l.length → t ≤ plc l (m + 1) → ∃ j, j < l.length ∧ plc l j ≤ t ∧ t ≤ plc l (j + 1) := by
    intro m
    induction m with
    | zero => intro hm ht; exact ⟨0, by omega, by simpa [plc] using t0, ht⟩
    | succ m ih =>
      intro hm ht
      by_cases c : t ≤ plc l (m + 1)
      · exact ih (by omega) c
      · exact ⟨m + 1, by omega, by omega, ht⟩
  have h3 := h.2.2
  cases hl : l.length with
  | zero => rw [hl] at h3; cases h3
  | succ m =>
    have := key m (by omega) (by rw [← hl, h3]; exact t1)
    rw [hl] at this; exact this
section
variable {s : S_Scene} {p q : List Int} {l : List S_Piece} (hc : (checkV s p q l).2 = 0) {e i : Int} (e0 : 0 ≤ e ∧ e ≤ 20) (hi : 0 ≤ i ∧ i ≤ 2 ^ e.toNat)
include hc e0 hi
theorem acc_inst {j : Nat} (hj : j < l.length) (h1 : plc l j ≤ i * 2 ^ (20 - e).toNat) (h2 : i * 2 ^ (20 - e).toNat ≤ plc l (j + 1)) :
    (atV p q e i).2 = true ∧ insideV s.Robot (atV p q e i).1 = true ∧ freeV s (ptB (atV p q e i).1) (l.getD j default).Normals = true := by
  obtain ⟨⟨c1, c2, c3⟩, c4, c5⟩ := check_iff.1 hc
  obtain ⟨n, b1, b2⟩ := badT_no (c4.2.1 j hj)
  obtain ⟨r0, r1, r2⟩ := beg_range b1
  simp only [Prod.mk.injEq] at r2
  have ee : 20 - (l.getD j default).Depth.toNat = (20 - (l.getD j default).Depth).toNat := by omega
  rw [ee] at r2
  rw [b2, r2.2] at h2
  rw [r2.1] at h1 h2
  have f := c5 j hj
  have k1 := place_inst r0 e0 h1
  have k2 := place_inst' (I := (l.getD j default).Index + 1) (i := i) r0 e0 (by rw [Int.add_mul, Int.one_mul]; exact h2)
  obtain ⟨a1, a2, a3, a4, a5⟩ := inst_box (s := s) c2 c3 r0 r1 e0 hi k1 k2 (free_iff.1 f).2.1
  exact ⟨a1, a2, free_mono a4 a5 f⟩
theorem acc_any : (atV p q e i).2 = true ∧ insideV s.Robot (atV p q e i).1 = true ∧ ∀ w, collV s (ptB (atV p q e i).1) w = false := by
  obtain ⟨-, c4, -⟩ := check_iff.1 hc
  have b := place_bd e0 hi
  obtain ⟨j, hj, h1, h2⟩ := cov_at c4 b.1 b.2
  obtain ⟨k1, k2, k3⟩ := acc_inst hc e0 hi hj h1 h2
  exact ⟨k1, k2, fun w => free_no_coll k3⟩
end
theorem pt_len {c : List Int} (h : c.length < 4294967296) : (ptB c).length < 4294967296 := by
  unfold ptB; split
  · rw [tab_len]; exact h
  · simp [nl]
open Go.Proofs
theorem tile_cov {s : S_Scene} {p q : List Int} {d : Int} (h20 : d ≤ 20) {np : Nat} : ∀ (l pre : List S_Piece) (e e' : Int), TileF d np e l e' → (∀ x ∈ l, PieceOk s p q d x) → plc (pre ++ l) pre.length = e * 2 ^ (20 - d).toNat →
    (∀ j, pre.length ≤ j → j < (pre ++ l).length → badT (pre ++ l) j = false) ∧ plc (pre ++ l) (pre ++ l).length = e' * 2 ^ (20 - d).toNat
  | [], pre, e, e', ht, _, hp => by
    have ht : e = e' := ht
    subst ht
    rw [List.append_nil] at hp ⊢
    exact ⟨fun j h1 h2 => by omega, hp⟩
  | x :: l, pre, e, e', ht, hx, hp => by
    obtain ⟨⟨t1, t2, t3, t4⟩, t5⟩ := ht
    obtain ⟨⟨y0, y1⟩, ⟨y2, y3⟩, yf⟩ := hx x (by simp)
    have e1 : pre ++ x :: l = (pre ++ [x]) ++ l := by simp
    have hg : (pre ++ x :: l).getD pre.length default = x := by simp [List.getD_eq_getElem?_getD]
    have hpow : (2 : Int) ^ (20 - x.Depth.toNat) = 2 ^ (d - x.Depth).toNat * 2 ^ (20 - d).toNat := by
      rw [← Int.pow_add, show (d - x.Depth).toNat + (20 - d).toNat = 20 - x.Depth.toNat by omega]
    have hb : begV ((pre ++ x :: l).getD pre.length default) = some (plc (pre ++ x :: l) pre.length, 2 ^ (20 - x.Depth.toNat)) := by
      rw [hg, hp]
      unfold begV
      rw [if_pos ⟨⟨y0, by omega⟩, y2, y3⟩, hpow, ← Int.mul_assoc, t4]
    have hs := plc_succ hb
    have l1 : (pre ++ [x]).length = pre.length + 1 := by simp
    have ih := tile_cov h20 l (pre ++ [x]) (e + 2 ^ (d - x.Depth).toNat) e' t5 (fun y hy => hx y (by simp [hy])) (by
      rw [← e1, l1, hs, hp, Int.add_mul, ← hpow])
    rw [← e1] at ih
    refine ⟨fun j h1 h2 => ?_, ih.2⟩
    by_cases ej : j = pre.length
    · subst ej; unfold badT; rw [hb]; simp
    · exact ih.1 j (by omega) h2
theorem prove_cov {s : S_Scene} {p q : List Int} {d : Int} {r : S_EdgeResult} (h0 : 0 ≤ d) (h20 : d ≤ 20) (ok : ProveOk s p q d r) (hk : r.Kind = 1) : CovOk r.Pieces := by
  have t := tile_cov h20 r.Pieces [] 0 (2 ^ d.toNat) (ok.tiles hk) (ok.free hk) (by rw [Int.zero_mul]; rfl)
  rw [List.nil_append] at t
  refine ⟨ok.bd.1, fun j hj => t.1 j (Nat.zero_le _) hj, t.2.trans ?_⟩
  rw [← Int.pow_add, show d.toNat + (20 - d).toNat = 20 by omega]; decide
theorem prove_check {s : S_Scene} {p q : List Int} {d : Int} {r : S_EdgeResult} (h0 : 0 ≤ d) (h20 : d ≤ 20) (ok : ProveOk s p q d r) (hk : r.Kind = 1) : (checkV s p q r.Pieces).2 = 0 := by
  rw [check_iff]
  exact ⟨ok.ready (by omega), prove_cov h0 h20 ok hk, fun j hj => (ok.free hk _ (getD_mem hj)).2.2⟩
theorem law20_motion_z (l m n : List Int) (d : Int) (hl : l.length < 4294967296) (hm : m.length < 4294967296) (hn : n.length < 4294967296) : ∃ y, (law20_motion_C l m n d).o = some y ∧ MO19 y ∧ y.1.Robot.Joints.length ≤ 3 ∧ ∀ j ∈ y.1.Robot.Joints, JB j := by
  have e0 : (law20_motion_C l m n d).o = (law20_motion_T l m n d).run NN := rfl
  rw [e0]
  obtain ⟨s, es, s1, s2, s3⟩ := make_Scene_x l hl
  obtain ⟨p, ep, lp⟩ := make_Config_x s.Robot m hm s2 s3
  obtain ⟨q, eq, lq⟩ := make_Config_x s.Robot n hn s2 s3
  simp only [law20_motion_T, T.run]
  rw [es, Option.bind_some, ep, Option.bind_some, eq, Option.bind_some]
  have fin : ∀ q' : List Int, q'.length ≤ 3 → ∃ y, ((make_Round_C (d.fdiv (2 ^ min (Int.toNat 4) 64)) 6).o.bind fun y70 => some (s, p, q', y70)) = some y ∧ MO19 y ∧ y.1.Robot.Joints.length ≤ 3 ∧ ∀ j ∈ y.1.Robot.Joints, JB j := by
    intro q' hq'
    rw [make_Round_e (by decide) (by decide), Option.bind_some]
    exact ⟨_, rfl, ⟨by simp only; omega, by simp only; omega, hq'⟩, s2, s3⟩
  cases IntKind.i64.wrap (((BitVec.ofInt 64 d &&& BitVec.ofInt 64 8).toNat : Nat) : Int) == 8
  · exact fin q (by omega)
  · simp only [cond_true]
    have hq : ∃ q' : List Int, (andK (iter (fun (x64 : List Int × Int) => (bif decide (x64.2 < ((x64.1.length : Nat) : Int)) then grd (0 ≤ x64.2 ∧ x64.2 < ((p.length : Nat) : Int)) (grd ((x64.2).toNat < p.length) (grd (0 ≤ x64.2 ∧ x64.2 < ((x64.1.length : Nat) : Int)) (grd ((x64.2).toNat < x64.1.length) (grd (0 ≤ x64.2 ∧ x64.2 < ((p.length : Nat) : Int)) (grd ((x64.2).toNat < p.length)
        (grd (0 ≤ x64.2 ∧ x64.2 < ((x64.1.length : Nat) : Int)) (grd ((x64.2).toNat < x64.1.length ∧ 0 ≤ (x64.2).toNat) (some (.next ((x64.1.set ((x64.2).toNat) (IntKind.i64.wrap ((p.getD ((x64.2).toNat) default) + IntKind.i64.wrap ((IntKind.i64.wrap ((x64.1.getD ((x64.2).toNat) default) - (p.getD ((x64.2).toNat) default))).tdiv 16)))), (IntKind.i64.wrap (x64.2 + 1)))))))))))) else some (.out x64.1) : Option (Step3 (List Int × Int) (List Int) (Step3 Unit (List Int) (S_Scene × List Int × List Int × Int))))) NN (q, 0)) fun y67 => some (.out y67)) = some (.out q') ∧ q'.length ≤ 3 := by
      refine loop_cnt (g := fun b => Step3.out b) q.length (by omega) (fun j (y : List Int × Int) => y.1.length = q.length ∧ y.2 = (j : Int)) (fun (w : List Int) => w.length ≤ 3) ⟨rfl, rfl⟩ (fun j y hj hy => ?_) (fun y hy => ?_) (fun z hz => ⟨_, rfl, hz⟩)
      · obtain ⟨g1, g2⟩ := hy
        rw [g2, bif_dpos (by omega), grd_p ⟨by omega, by omega⟩, Int.toNat_natCast, grd_p (by omega), grd_p ⟨by omega, by omega⟩, grd_p (by omega), grd_p ⟨by omega, by omega⟩, grd_p (by omega), grd_p ⟨by omega, by omega⟩, grd_p ⟨by omega, by omega⟩, wn (by omega)]
        exact ⟨_, rfl, by simp only [List.length_set]; exact g1, rfl⟩
      · obtain ⟨g1, g2⟩ := hy
        rw [g2, bif_dneg (by omega)]; exact ⟨_, rfl, by omega⟩
    obtain ⟨q', e1, e2⟩ := hq
    rw [e1, andC_out]
    exact fin q' e2
theorem no_refute {s : S_Scene} {p q : List Int} {l : List S_Piece} (hc : (checkV s p q l).2 = 0) (x : S_Piece) (w : S_Witness) : refuV s p q x w = false := by
  cases hr : refuV s p q x w with
  | false => rfl
  | true =>
    exfalso
    unfold refuV at hr
    split at hr
    · rename_i h
      obtain ⟨h1, h2, h3, h4⟩ := h
      have hk : (0 ≤ x.Depth ∧ x.Depth ≤ 20) ∧ 0 ≤ x.Index ∧ x.Index < 2 ^ x.Depth.toNat := by
        unfold pieceV at h4
        split at h4
        · rename_i g
          obtain ⟨g1, g2, g3⟩ := g
          have g4 := motionV_iff.1 g1
          exact ⟨⟨g4.2.2.2.1, g4.2.2.2.2⟩, g2, g3⟩
        · simp at h4
      obtain ⟨⟨c1, c2, c3⟩, -, -⟩ := check_iff.1 hc
      have yb := (coll_iff.1 hr).1.1.2
      have tp := two_pow_pos x.Depth.toNat
      obtain ⟨-, -, -, a4, a5⟩ := inst_box (s := s) (p := p) (q := q) (D := x.Depth) (i := x.Index) (e := x.Depth) (j := x.Index) c2 c3 hk.1 hk.2 hk.1 ⟨hk.2.1, by omega⟩ (Int.le_refl _) (by rw [Int.add_mul]; omega) yb
      have h5 := (acc_any hc (e := x.Depth) (i := x.Index) hk.1 ⟨hk.2.1, by omega⟩).2.2 w
      rw [coll_mono a4 a5 hr] at h5
      cases h5
    · cases hr
theorem coll_refu {s : S_Scene} {p q : List Int} {d : Int} {r : S_EdgeResult} (h20 : d ≤ 20) (ok : ProveOk s p q d r) (k : r.Kind = 2) : refuV s p q r.At r.Witness = true := by
  have rd := ok.ready (by omega)
  have hcv := ok.coll k
  have hm : (pieceV p q r.At.Depth r.At.Index).2 = true := by
    unfold pieceV
    rw [if_pos ⟨motion_ok rd.2.1 rd.2.2 ok.depth.1 (by have := ok.depth.2; omega), ok.index.1, ok.index.2⟩]
  unfold refuV
  rw [if_pos ⟨rd.1, by rw [rd.2.1, rd.2.2]; rfl, by rw [ok.norm]; rfl, hm⟩]
  exact hcv
theorem andC_ex {τ R : Type} {X : Option (Step3 Unit τ R)} {u : τ} {k : τ → Option R} {Q : R → Prop} (h : ∃ z, X = some z ∧ z = Step3.out u) (hk : ∃ r, k u = some r ∧ Q r) : ∃ r, andC X k = some r ∧ Q r := by
  obtain ⟨z, rfl, rfl⟩ := h
  rw [andC_out]; exact hk
theorem edgecheckExclusive_true (l m n o : List Int) (depth : Int) (at_ : S_Piece) (w : S_Witness) (how x y : Int) (hl : l.length < 4294967296) (hm : m.length < 4294967296) (hn : n.length < 4294967296) (ho : o.length < 4294967296) : (law20_EdgecheckExclusive_C l m n o depth at_ w how x y).o = some true := by
  suffices h : ∃ r, (law20_EdgecheckExclusive_C l m n o depth at_ w how x y).o = some r ∧ r = true by
    obtain ⟨r, h1, rfl⟩ := h; exact h1
  show ∃ r, (law20_EdgecheckExclusive_T l m n o depth at_ w how x y).run NN = some r ∧ r = true
  obtain ⟨⟨s, p, q, d⟩, e1, ⟨⟨d0, d1⟩, lp, lq⟩, hj3, hjb⟩ := law20_motion_z l m n depth hl hm hn
  simp only at d0 d1 lp lq hj3 hjb
  obtain ⟨r, e2, ok⟩ := prove_all s p q (by omega) (by omega) (d := d) d0 (by omega)
  obtain ⟨c, e3, lc⟩ := make_Config_x s.Robot o ho hj3 hjb
  have e4 := ref10_Box_e c (by omega)
  have e5 := classify_Box_e s (ptB c) nl (pt_len (by omega)) (by simp [nl])
  have hN := cls_len s (ptB c) nl
  have es : (⟨s.Robot, s.Shapes, s.Skips⟩ : S_Scene) = s := rfl
  simp only [law20_EdgecheckExclusive_T, T.run, e1, Option.bind_some, es, e2]
  rw [make_Round_e (by decide) (by decide)]
  simp only [Option.bind_some]
  rw [make_Round_e (by decide) (by decide)]
  simp only [Option.bind_some, e3, e4, e5, edgecheck_Refutes_e s p q (show p.length < 4294967296 by omega) (show q.length < 4294967296 by omega), awake20]
  generalize clsV s (ptB c) nl = v at hN ⊢
  by_cases c1 : r.Kind = 1
  · have hc := prove_check d0 (by omega) ok c1
    rw [bif_eq c1]
    simp only [no_refute hc, cond_false, andC_out]
    exact ⟨_, rfl, rfl⟩
  · rw [bif_ne c1]
    by_cases c2 : r.Kind = 2
    · rw [bif_eq c2]
      refine andC_ex (u := U0.u) ?_ ⟨_, rfl, rfl⟩
      refine loop_mf (P := fun z => z = Step3.out U0.u) (fun m (y : List V3 × Int) => ∃ j : Nat, y.2 = (j : Int) ∧ y.1.length = j ∧ j + m = v.Normals.length) (fun y => PC 1 y) v.Normals.length ⟨0, rfl, rfl, by omega⟩ (by omega) ?_ ?_
      · rintro m ⟨a, _⟩ ⟨j, rfl, h2, h3⟩
        simp only at h2
        cases m with
        | zero =>
          refine .inr (.inl ⟨_, by rw [bif_dneg (by simp only; omega)], ⟨⟨by simp, fun z hz => ?_⟩, fun z hz => ?_⟩⟩)
          · simp only [List.mem_cons, List.not_mem_nil, or_false] at hz
            subst hz; simp only; omega
          · simp only [List.mem_cons, List.not_mem_nil, or_false] at hz
            subst hz; exact InR.wr 0
        | succ m =>
          rw [bif_dpos (by simp only; omega), grd_p (by decide)]
          simp only
          rw [grd_p ⟨by omega, by omega⟩, grd_p (by simp only [List.length_cons, List.length_nil, maxLen]; omega), grd_p (by decide), wn (by omega)]
          exact .inl ⟨_, m, rfl, Nat.lt_succ_self m, j + 1, rfl, by simp only [List.length_append, List.length_cons, List.length_nil]; omega, by omega⟩
      · intro z0 hz0
        obtain ⟨z, ez, hz⟩ := law20_pieces_y z0 hz0 (by decide) how x y
        have hc : (checkV s p q z).2 ≠ 0 := fun hc => by
          have h1 := no_refute hc r.At r.Witness
          rw [coll_refu (by omega) ok c2] at h1
          cases h1
        simp only [ez, Option.bind_some, edgecheck_Check_e s p q z (show p.length < 4294967296 by omega) (show q.length < 4294967296 by omega)]
        rw [bif_ne hc]
        exact ⟨_, rfl, rfl⟩
    · rw [bif_ne c2, andC_out]
      exact ⟨_, rfl, rfl⟩
end Go.Abs
