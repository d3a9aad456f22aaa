/-
  DL4 (a part of a claim: our own text).
-/
import Derived.Test.YtnehaejghnoigaaGreatXBDL3
import Derived.Test.YtnehaejghnoigaaGreatXBDM
namespace Go.Abs
open Go.Proofs
def atV (p q : List Int) (e j : Int) : List Int × Bool := if motionV p q e = true ∧ 0 ≤ j ∧ j ≤ 2 ^ e.toNat then (tab (atI p q e.toNat j) p.length, true) else (nl, false)
theorem ref10_At_e (p q : List Int) (e j : Int) (hp : p.length < 4294967296) (hq : q.length < 4294967296) : (ref10_At_C p q e j).o = some (atV p q e j) := by
  show (ref10_At_T p q e j).run NN = _
  simp only [ref10_At_T, T.run, ref10_pieces_e p q e hp hq, Option.bind_some]
  unfold atV
  cases hm : motionV p q e with
  | false => rw [if_neg (by simp)]; rfl
  | true =>
    obtain ⟨m1, m2, m3, m4, m5⟩ := motionV_iff.1 hm
    simp only [Bool.not_true, cond_false, u64_id m4 m5, grd_p m4, show min e.toNat 64 = e.toNat by omega, w2k (k := e.toNat) (by omega)]
    by_cases c1 : j < 0
    · rw [bif_dpos c1, andC_out, if_neg (by omega)]; rfl
    · rw [bif_dneg c1, andC_out]
      by_cases c2 : j > 2 ^ e.toNat
      · rw [bif_dpos c2, if_neg (by omega)]
      · rw [bif_dneg c2, if_pos ⟨by trivial, by omega, by omega⟩]
        refine (loop_to (fun i => (tab (atI p q e.toNat j) i, (i : Int))) (tab (atI p q e.toNat j) p.length) p.length rfl hp (fun i hi => ?_) ?_).trans rfl
        · rw [bif_dpos (by omega), grd_p (by omega), grd_p (by omega), grd_p (by omega), Int.toNat_natCast]
          have b1 := small_get m1 hi
          have b2 := small_get m2 (i := i) (by omega)
          have b3 := mul52 (i := j) (D := q.getD i default - p.getD i default) (by omega) (by have := pow20 (k := e.toNat) (by omega); omega) (by omega)
          have b4 := at_bd (p := p) (q := q) (e := e.toNat) (j := j) (k := i) (by omega) (by omega)
          rw [w64 (x := q.getD i default - p.getD i default) (by omega) (by omega), w64 (x := j * (q.getD i default - p.getD i default)) (by omega) (by omega), ref1_Floor_e ⟨by omega, by omega⟩ (two_pow_pos _)]
          simp only [Option.bind_some]
          have ea : p.getD i default + j * (q.getD i default - p.getD i default) / 2 ^ e.toNat = atI p q e.toNat j i := rfl
          rw [ea, w64 (x := atI p q e.toNat j i) (by omega) (by omega), grd_p (by simp only [tab_len, List.length_cons, List.length_nil, maxLen_eq]; omega), wn (by omega), tab_succ]
        · rw [bif_dneg (by omega)]
def ptI (c : List Int) (i : Nat) : S_Interval := ⟨c.getD i default, c.getD i default⟩
def ptB (c : List Int) : List S_Interval := if smallV c = true then tab (ptI c) c.length else nl
theorem ref10_Box_e (c : List Int) (hc : c.length < 4294967296) : (ref10_Box_C c).o = some (ptB c) := by
  show (ref10_Box_T c).run NN = _
  simp only [ref10_Box_T, T.run, ref10_small_e c hc, Option.bind_some]
  unfold ptB
  cases hs : smallV c with
  | false => rfl
  | true =>
    rw [if_pos rfl]
    refine (loop_to (fun i => (tab (ptI c) i, (i : Int))) (tab (ptI c) c.length) c.length rfl hc (fun i hi => ?_) ?_).trans rfl
    · rw [bif_dpos (by omega), grd_p (by omega), grd_p (by omega), Int.toNat_natCast, grd_p (by simp only [tab_len, List.length_cons, List.length_nil, maxLen_eq]; omega), wn (by omega), tab_succ]; rfl
    · rw [bif_dneg (by omega)]
theorem inside_ok {r : S_Robot} {c : List Int} (h : insideV r c = true) : robotV r = 0 ∧ c.length = r.Joints.length ∧ c.length ≤ 10 ∧ smallV c = true ∧ ∀ i, i < c.length → (r.Joints.getD i default).Lo ≤ c.getD i default ∧ c.getD i default ≤ (r.Joints.getD i default).Hi := by
  simp only [insideV, Bool.and_eq_true, decide_eq_true_eq] at h
  obtain ⟨h1, h2, h3⟩ := h
  have hr := robotV_ok h1
  have lim : ∀ i, i < c.length → (r.Joints.getD i default).Lo ≤ c.getD i default ∧ c.getD i default ≤ (r.Joints.getD i default).Hi := fun i hi => by
    have := noneB_iff.1 h3 i hi
    simp only [outJ, Bool.or_eq_false_iff, decide_eq_false_iff_not] at this
    omega
  refine ⟨h1, h2, by omega, ?_, lim⟩
  unfold smallV
  rw [noneB_iff]
  intro i hi
  have jl := (robot_joint h1 (i := i) (by omega)).lim
  have rb := reach_bd (r.Joints.getD i default).Kind
  have := lim i hi
  simp only [big1, Bool.or_eq_false_iff, decide_eq_false_iff_not]
  omega
theorem motion_ok {r : S_Robot} {p q : List Int} {e : Int} (hp : insideV r p = true) (hq : insideV r q = true) (h0 : 0 ≤ e) (h1 : e ≤ 20) : motionV p q e = true := by
  have a := inside_ok hp
  have b := inside_ok hq
  exact motionV_iff.2 ⟨a.2.2.2.1, b.2.2.2.1, by omega, h0, h1⟩
theorem tab_get' {α : Type} [Inhabited α] {f : Nat → α} {n i : Nat} (h : i < n) : (tab f n).getD i default = f i := tab_get h
theorem inst_box {s : S_Scene} {p q : List Int} {D i e j : Int} (hp : insideV s.Robot p = true) (hq : insideV s.Robot q = true) (hD : 0 ≤ D ∧ D ≤ 20) (hi : 0 ≤ i ∧ i < 2 ^ D.toNat) (he : 0 ≤ e ∧ e ≤ 20) (hj : 0 ≤ j ∧ j ≤ 2 ^ e.toNat)
    (h1 : i * 2 ^ e.toNat ≤ j * 2 ^ D.toNat) (h2 : j * 2 ^ D.toNat ≤ (i + 1) * 2 ^ e.toNat) (hb : boxV s.Robot (pieceV p q D i).1 = true) :
    (atV p q e j).2 = true ∧ insideV s.Robot (atV p q e j).1 = true ∧ (atV p q e j).1.length = p.length ∧ boxV s.Robot (ptB (atV p q e j).1) = true ∧ SBx s.Robot.Joints.length (ptB (atV p q e j).1) (pieceV p q D i).1 := by
  have a := inside_ok hp
  have b := inside_ok hq
  have ev : atV p q e j = (tab (atI p q e.toNat j) p.length, true) := by unfold atV; rw [if_pos ⟨motion_ok hp hq he.1 he.2, hj.1, hj.2⟩]
  have ep : (pieceV p q D i).1 = tab (pieceI p q D.toNat i) p.length := by unfold pieceV; rw [if_pos ⟨motion_ok hp hq hD.1 hD.2, hi.1, hi.2⟩]
  rw [ev]
  have hin : insideV s.Robot (tab (atI p q e.toNat j) p.length) = true := by
    simp only [insideV, Bool.and_eq_true, decide_eq_true_eq, tab_len]
    refine ⟨a.1, a.2.1, noneB_iff.2 fun k hk => ?_⟩
    have := at_bd (p := p) (q := q) (k := k) hj.1 hj.2
    have := a.2.2.2.2 k hk
    have := b.2.2.2.2 k (by omega)
    simp only [outJ, Bool.or_eq_false_iff, decide_eq_false_iff_not]
    rw [tab_get' hk]
    omega
  have sm := (inside_ok hin).2.2.2.1
  have epb : ptB (tab (atI p q e.toNat j) p.length) = tab (ptI (tab (atI p q e.toNat j) p.length)) p.length := by unfold ptB; rw [if_pos sm, tab_len]
  have hbx : boxV s.Robot (ptB (tab (atI p q e.toNat j) p.length)) = true := by
    rw [epb]
    simp only [boxV, Bool.and_eq_true, decide_eq_true_eq, tab_len]
    refine ⟨a.2.1, noneB_iff.2 fun k hk => ?_⟩
    unfold notV
    rw [tab_get' hk]
    have g := small_get sm (i := k) (by rw [tab_len]; exact hk)
    have : vV (ptI (tab (atI p q e.toNat j) p.length) k) = true := vV_iff.2 ⟨g.1, Int.le_refl _, g.2⟩
    rw [this]; rfl
  refine ⟨rfl, hin, tab_len _ _, hbx, show SBx s.Robot.Joints.length (ptB (tab (atI p q e.toNat j) p.length)) (pieceV p q D i).1 from SBx.of hbx hb fun k hk => ?_⟩
  rw [epb, ep, tab_get' (by omega), tab_get' (by omega)]
  have g := at_in (p := p) (q := q) (k := k) h1 h2
  unfold ptI
  rw [tab_get' (by omega)]
  exact g
open Go.Proofs
def PC (n : Nat) (l : List S_Piece) : Prop := PB n l ∧ ∀ x ∈ l, InR x.Index
theorem PC.get {n : Nat} {l : List S_Piece} (h : PC n l) {k : Nat} (hk : k < l.length) : (l.getD k default).Normals.length ≤ 1048576 ∧ InR (l.getD k default).Index := ⟨h.1.get hk, h.2 _ (getD_mem hk)⟩
theorem PC.set {n : Nat} {l : List S_Piece} (h : PC n l) {k : Nat} {x : S_Piece} (hx : x.Normals.length ≤ 1048576 ∧ InR x.Index) : PC n (l.set k x) := by
  refine ⟨h.1.set hx.1, fun y hy => ?_⟩
  rcases List.mem_or_eq_of_mem_set hy with hy | rfl
  · exact h.2 y hy
  · exact hx.2
theorem PC.app {n m : Nat} {l k : List S_Piece} (h : PC n l) (h' : PC m k) : PC (n + m) (l ++ k) :=
  ⟨h.1.app h'.1, fun y hy => (List.mem_append.1 hy).elim (h.2 y) (h'.2 y)⟩
theorem PC.take {n : Nat} {l : List S_Piece} (h : PC n l) (k : Nat) : PC k (l.take k) := ⟨h.1.take k, fun y hy => h.2 y (List.mem_of_mem_take hy)⟩
theorem PC.sub {n : Nat} {l : List S_Piece} (h : PC n l) (i k : Nat) : PC k ((l.drop i).take k) := ⟨h.1.sub i k, fun y hy => h.2 y (List.mem_of_mem_drop (List.mem_of_mem_take hy))⟩
theorem PC.mono {n m : Nat} {l : List S_Piece} (h : PC n l) (hm : n ≤ m) : PC m l := ⟨h.1.mono hm, h.2⟩
theorem PC.one {x : S_Piece} (hx : x.Normals.length ≤ 1048576 ∧ InR x.Index) : PC 1 [x] := ⟨PB.one hx.1, fun y hy => by simp at hy; subst hy; exact hx.2⟩
set_option maxHeartbeats 4000000 in
theorem law20_pieces_y {n : Nat} (l : List S_Piece) (hl : PC n l) (hn : n ≤ 1048576) (a b c : Int) : ∃ y, (law20_pieces_C l a b c).o = some y ∧ PC (n + 1) y := by
  have e0 : (law20_pieces_C l a b c).o = (law20_pieces_T l a b c).run NN := rfl
  have hle := hl.1.1
  rw [e0]
  simp only [law20_pieces_T, T.run]
  rw [grd_p ⟨by omega, by rw [maxLen_eq]; omega⟩]
  by_cases h0 : l.length = 0
  · rw [bif_eq (by omega), make_Round_e (by decide) (by decide), Option.bind_some, make_Round_e (by decide) (by decide), Option.bind_some]
    exact ⟨_, rfl, (PC.one ⟨by simp [nl], by unfold InR; simp only; omega⟩).mono (by omega)⟩
  · rw [bif_ne (by omega), make_Round_e (by omega) (by omega), Option.bind_some]
    obtain ⟨K, hK, hlt⟩ : ∃ K : Nat, b % (l.length : Int) = (K : Int) ∧ K < l.length := ⟨(b % (l.length : Int)).toNat, by have := Int.emod_nonneg b (show (l.length : Int) ≠ 0 by omega); omega, by have := Int.emod_nonneg b (show (l.length : Int) ≠ 0 by omega); have := Int.emod_lt_of_pos b (show (0 : Int) < l.length by omega); omega⟩
    rw [hK, make_Round_e (by decide) (by decide), Option.bind_some]
    have hg := hl.get hlt
    have wK : IntKind.i64.wrap ((K : Int) + 1) = ((K + 1 : Nat) : Int) := by rw [w64 (by omega) (by omega)]; omega
    simp only [Int.toNat_natCast, wK]
    have fin : ∀ y : List S_Piece, PC (n + 1) y → ∃ z, (andC (some (.out y) : Option (Step3 Unit (List S_Piece) (List S_Piece))) fun y21 => some y21) = some z ∧ PC (n + 1) z := fun y hy => ⟨y, rfl, hy⟩
    cases a % 7 == 0
    rotate_left
    · simp only [cond_true]
      rw [grd_p ⟨by omega, by omega⟩, grd_p hlt, make_Round_e (by decide) (by decide), Option.bind_some, grd_p ⟨by omega, by omega⟩, grd_p ⟨hlt, by omega⟩]
      exact fin _ ((hl.set (by first | exact hg | exact ⟨hg.1, InR.wr _⟩ | exact ⟨by simpa using hg.1, hg.2⟩)).mono (by omega))
    simp only [cond_false]
    cases a % 7 == 1
    rotate_left
    · simp only [cond_true]
      rw [grd_p ⟨by omega, by omega⟩, grd_p hlt, make_Round_e (by decide) (by decide), Option.bind_some, grd_p ⟨by omega, by omega⟩, grd_p ⟨hlt, by omega⟩]
      exact fin _ ((hl.set (by first | exact hg | exact ⟨hg.1, InR.wr _⟩ | exact ⟨by simpa using hg.1, hg.2⟩)).mono (by omega))
    simp only [cond_false]
    cases a % 7 == 2
    rotate_left
    · simp only [cond_true]
      rw [grd_p ⟨by omega, by omega, by omega⟩, grd_p ⟨by omega, by omega, by omega⟩, grd_p ⟨by omega, by rw [maxLen_eq]; omega, by omega, by omega⟩]
      exact fin _ (((hl.take _).app (hl.sub _ _)).mono (by omega))
    simp only [cond_false]
    cases a % 7 == 3
    rotate_left
    · simp only [cond_true]
      rw [grd_p ⟨by omega, by omega⟩, grd_p hlt, grd_p ⟨by simp only [List.length_cons, List.length_nil]; omega, by simp only [List.length_cons, List.length_nil, maxLen_eq]; omega⟩]
      exact fin _ (hl.app (PC.one hg))
    simp only [cond_false]
    cases a % 7 == 4
    rotate_left
    · simp only [cond_true]
      rw [grd_p ⟨by omega, by omega⟩, grd_p hlt, grd_p ⟨by omega, by rw [maxLen_eq]; omega⟩, grd_p ⟨by omega, by omega⟩, grd_p hlt, grd_p ⟨by omega, by omega⟩, grd_p trivial]
      by_cases hN : (l.getD K default).Normals.length = 0
      · rw [bif_dneg (by omega)]
        exact fin _ ((hl.set hg).mono (by omega))
      · rw [bif_dpos (by omega), grd_p ⟨by omega, by omega⟩, grd_p trivial, make_Round_e (by omega) (by omega), Option.bind_some]
        obtain ⟨v, hv⟩ := make_Normal_x c b a
        have r0 := Int.emod_nonneg c (show ((l.getD K default).Normals.length : Int) ≠ 0 by omega)
        have r1 := Int.emod_lt_of_pos c (show (0 : Int) < ((l.getD K default).Normals.length : Int) by omega)
        rw [hv, Option.bind_some, grd_p ⟨r0, r1⟩, grd_p ⟨by omega, by omega⟩]
        exact fin _ ((hl.set (by first | exact hg | exact ⟨hg.1, InR.wr _⟩ | exact ⟨by simpa using hg.1, hg.2⟩)).mono (by omega))
    simp only [cond_false]
    cases a % 7 == 5
    rotate_left
    · simp only [cond_true]
      rw [make_Round_e (by decide) (by decide), Option.bind_some]
      have r0 := Int.emod_nonneg c (show (3 : Int) ≠ 0 by decide)
      have r1 := Int.emod_lt_of_pos c (show (0 : Int) < 3 by decide)
      rw [grd_p ⟨r0, by simp only [List.length_cons, List.length_nil]; omega⟩, grd_p (by simp only [List.length_cons, List.length_nil]; omega), grd_p ⟨by omega, by omega⟩, grd_p ⟨hlt, by omega⟩]
      exact fin _ ((hl.set (by first | exact hg | exact ⟨hg.1, InR.wr _⟩ | exact ⟨by simpa using hg.1, hg.2⟩)).mono (by omega))
    simp only [cond_false]
    have z0 : (0 : Int).toNat = 0 := rfl
    rw [z0, grd_p ⟨by omega, by omega⟩, grd_p hlt, grd_p ⟨by omega, by omega, by omega⟩, grd_p ⟨by omega, by rw [maxLen_eq]; omega, by omega⟩]
    rw [grd_p ⟨by simp only [List.length_cons, List.length_nil, List.length_take, List.length_drop]; omega, by simp only [List.length_cons, List.length_nil, List.length_take, List.length_drop, maxLen_eq]; omega⟩]
    rw [grd_p ⟨by omega, by omega, by omega⟩, grd_p ⟨by simp only [List.length_cons, List.length_nil, List.length_take, List.length_drop, List.length_append]; omega, by simp only [List.length_cons, List.length_nil, List.length_take, List.length_drop, List.length_append, maxLen_eq]; omega, by omega⟩]
    refine fin _ ((((hl.sub _ _).app ⟨⟨?_, ?_⟩, ?_⟩).app (hl.sub _ _)).mono (m := n + 1) (n := (K - 0) + 2 + (l.length - (K + 1))) (by omega))
    · simp
    · intro y hy
      simp only [List.mem_cons, List.not_mem_nil, or_false] at hy
      rcases hy with rfl | rfl <;> exact hg.1
    · intro y hy
      simp only [List.mem_cons, List.not_mem_nil, or_false] at hy
      rcases hy with rfl | rfl <;> exact InR.wr _
theorem law20_motion_y (l m n : List Int) (d : Int) (hl : l.length < 4294967296) (hm : m.length < 4294967296) (hn : n.length < 4294967296) : ∃ y, (law20_motion_C l m n d).o = some y ∧ MO19 y := by
  have e0 : (law20_motion_C l m n d).o = (law20_motion_T l m n d).run NN := rfl
  rw [e0]
  obtain ⟨s, es, s1, s2, s3⟩ := make_Scene_x l hl
  obtain ⟨p, ep, lp⟩ := make_Config_x s.Robot m hm s2 s3
  obtain ⟨q, eq, lq⟩ := make_Config_x s.Robot n hn s2 s3
  simp only [law20_motion_T, T.run]
  rw [es, Option.bind_some, ep, Option.bind_some, eq, Option.bind_some]
  have fin : ∀ q' : List Int, q'.length ≤ 3 → ∃ y, ((make_Round_C (d.fdiv (2 ^ min (Int.toNat 4) 64)) 6).o.bind fun y70 => some (s, p, q', y70)) = some y ∧ MO19 y := by
    intro q' hq'
    rw [make_Round_e (by decide) (by decide), Option.bind_some]
    exact ⟨_, rfl, by simp only; omega, by simp only; omega, hq'⟩
  cases IntKind.i64.wrap (((BitVec.ofInt 64 d &&& BitVec.ofInt 64 8).toNat : Nat) : Int) == 8
  · exact fin q (by omega)
  · simp only [cond_true]
    have hq : ∃ q' : List Int, (andK (iter (fun (x64 : List Int × Int) => (bif decide (x64.2 < ((x64.1.length : Nat) : Int)) then grd (0 ≤ x64.2 ∧ x64.2 < ((p.length : Nat) : Int)) (grd ((x64.2).toNat < p.length) (grd (0 ≤ x64.2 ∧ x64.2 < ((x64.1.length : Nat) : Int)) (grd ((x64.2).toNat < x64.1.length) (grd (0 ≤ x64.2 ∧ x64.2 < ((p.length : Nat) : Int)) (grd ((x64.2).toNat < p.length)
        (grd (0 ≤ x64.2 ∧ x64.2 < ((x64.1.length : Nat) : Int)) (grd ((x64.2).toNat < x64.1.length ∧ 0 ≤ (x64.2).toNat) (some (.next ((x64.1.set ((x64.2).toNat) (IntKind.i64.wrap ((p.getD ((x64.2).toNat) default) + IntKind.i64.wrap ((IntKind.i64.wrap ((x64.1.getD ((x64.2).toNat) default) - (p.getD ((x64.2).toNat) default))).tdiv 16)))), (IntKind.i64.wrap (x64.2 + 1)))))))))))) else some (.out x64.1) : Option (Step3 (List Int × Int) (List Int) (Step3 Unit (List Int) (S_Scene × List Int × List Int × Int))))) NN (q, 0)) fun y67 => some (.out y67)) = some (.out q') ∧ q'.length ≤ 3 := by
      refine loop_cnt (g := fun b => Step3.out b) q.length (by omega) (fun j (y : List Int × Int) => y.1.length = q.length ∧ y.2 = (j : Int)) (fun (w : List Int) => w.length ≤ 3) ⟨rfl, rfl⟩ (fun j y hj hy => ?_) (fun y hy => ?_) (fun z hz => ⟨_, rfl, hz⟩)
      · obtain ⟨g1, g2⟩ := hy
        rw [g2, bif_dpos (by omega), grd_p ⟨by omega, by omega⟩, Int.toNat_natCast, grd_p (by omega), grd_p ⟨by omega, by omega⟩, grd_p (by omega), grd_p ⟨by omega, by omega⟩, grd_p (by omega), grd_p ⟨by omega, by omega⟩, grd_p ⟨by omega, by omega⟩, wn (by omega)]
        exact ⟨_, rfl, by simp only [List.length_set]; exact g1, rfl⟩
      · obtain ⟨g1, g2⟩ := hy
        rw [g2, bif_dneg (by omega)]; exact ⟨_, rfl, by omega⟩
    obtain ⟨q', e1, e2⟩ := hq
    rw [e1, andC_out]
    exact fin q' e2
def CovOk (l : List S_Piece) : Prop := l.length ≤ 4096 ∧ (∀ j, j < l.length → badT l j = false) ∧ plc l l.length = 1048576
theorem cover_iff {l : List S_Piece} : (coverV l).2 = true ↔ CovOk l := by
  constructor
  · intro h
    have h1 := (cover_ok h).1
    unfold coverV at h
    rw [if_pos h1] at h
    split at h
    · rename_i r hr
      obtain ⟨j, -, -, h3, -⟩ := scan_some _ _ hr
      cases hb : badT l j with
      | false => rw [hb] at h3; cases h3
      | true => rw [hb] at h3; simp only [sw, cond_true, Option.some.injEq] at h3; rw [← h3] at h; cases h
    · rename_i hn
      refine ⟨h1, fun j hj => ?_, by simpa using h⟩
      have := (scan_none _ _).1 hn j (Nat.zero_le _) (by omega)
      cases hb : badT l j with
      | false => rfl
      | true => rw [hb] at this; cases this
  · rintro ⟨h1, h2, h3⟩
    unfold coverV
    rw [if_pos h1]
    have : scan (fun j => sw (badT l j) ((j : Int), false)) l.length 0 = none := (scan_none _ _).2 fun j _ hj => by rw [h2 j (by omega)]; rfl
    rw [this, h3]; rfl
theorem check_iff {s : S_Scene} {p q : List Int} {l : List S_Piece} : (checkV s p q l).2 = 0 ↔ (sceneV s = 0 ∧ insideV s.Robot p = true ∧ insideV s.Robot q = true) ∧ CovOk l ∧
    ∀ j, j < l.length → freeV s (pieceV p q (l.getD j default).Depth (l.getD j default).Index).1 (l.getD j default).Normals = true := by
  constructor
  · intro h
    have h0 := checkV_ok h
    refine ⟨⟨h0.1, h0.2.1, h0.2.2.1⟩, ?_⟩
    unfold checkV at h
    rw [if_neg (fun h' => h' h0.1), if_neg (by rw [h0.2.1, h0.2.2.1]; decide)] at h
    split at h
    · cases h
    · rename_i hc
      refine ⟨cover_iff.1 (by simpa using hc), fun j hj => ?_⟩
      split at h
      · rename_i r hr
        obtain ⟨j, -, -, h3, -⟩ := scan_some _ _ hr
        cases hb : notF s p q l j with
        | false => rw [hb] at h3; cases h3
        | true => rw [hb] at h3; simp only [sw, cond_true, Option.some.injEq] at h3; rw [← h3] at h; cases h
      · rename_i hn
        have := (scan_none _ _).1 hn j (Nat.zero_le _) (by omega)
        cases hb : notF s p q l j with
        | false => simpa [notF] using hb
        | true => rw [hb] at this; cases this
  · rintro ⟨⟨h1, h2, h3⟩, h4, h5⟩
    unfold checkV
    rw [if_neg (fun h' => h' h1), if_neg (by rw [h2, h3]; decide), if_neg (by rw [cover_iff.2 h4]; decide)]
    have : scan (fun j => sw (notF s p q l j) ((j : Int), (2002 : Int))) l.length 0 = none := (scan_none _ _).2 fun j _ hj => by
      have := h5 j (by omega)
      unfold notF; rw [this]; rfl
    rw [this]
theorem badT_no {l : List S_Piece} {j : Nat} (h : badT l j = false) : ∃ n, begV (l.getD j default) = some (plc l j, n) ∧ plc l (j + 1) = plc l j + n := by
  unfold badT at h
  cases hb : begV (l.getD j default) with
  | none => rw [hb] at h; cases h
  | some x =>
    obtain ⟨f, n⟩ := x
    rw [hb] at h
    have hf : f = plc l j := by simpa using h
    refine ⟨n, by rw [hf], ?_⟩
    simp only [plc, hb, hf]
theorem plc_succ {l : List S_Piece} {j : Nat} {f n : Int} (h : begV (l.getD j default) = some (f, n)) : plc l (j + 1) = f + n := by simp only [plc, h]
def mirW (x : S_Piece) : S_Piece := ⟨x.Depth, IntKind.i64.wrap (2 ^ x.Depth.toNat - 1 - x.Index), x.Normals⟩
theorem beg_range {x : S_Piece} {y : Int × Int} (h : begV x = some y) : (0 ≤ x.Depth ∧ x.Depth ≤ 20) ∧ (0 ≤ x.Index ∧ x.Index < 2 ^ x.Depth.toNat) ∧ y = (x.Index * 2 ^ (20 - x.Depth.toNat), 2 ^ (20 - x.Depth.toNat)) := by
  unfold begV at h
  split at h
  · rename_i hc
    simp only [Option.some.injEq] at h
    exact ⟨hc.1, hc.2, h.symm⟩
  · cases h
theorem mirW_in {x : S_Piece} (h0 : 0 ≤ x.Depth ∧ x.Depth ≤ 20) (h : 0 ≤ x.Index ∧ x.Index < 2 ^ x.Depth.toNat) : mirW x = ⟨x.Depth, 2 ^ x.Depth.toNat - 1 - x.Index, x.Normals⟩ := by
  have := pow9 h0.1 h0.2
  unfold mirW
  rw [w64 (by omega) (by omega)]
theorem mirW_mirW {x : S_Piece} (h0 : 0 ≤ x.Depth ∧ x.Depth ≤ 20) (hi : InR x.Index) : mirW (mirW x) = x := by
  have := pow9 h0.1 h0.2
  unfold mirW
  obtain ⟨d, i, n⟩ := x
  simp only at *
  have e : IntKind.i64.wrap (2 ^ d.toNat - 1 - IntKind.i64.wrap (2 ^ d.toNat - 1 - i)) = i := by
    rw [wr_subr, show 2 ^ d.toNat - 1 - (2 ^ d.toNat - 1 - i) = i by omega]
    exact hi.w
  rw [e]
theorem beg_mir {x : S_Piece} {f n : Int} (h : begV x = some (f, n)) : begV (mirW x) = some (1048576 - f - n, n) := by
  obtain ⟨h0, h1, h2⟩ := beg_range h
  rw [mirW_in h0 h1]
  unfold begV
  simp only
  rw [if_pos ⟨h0, by omega, by omega⟩]
  simp only [Prod.mk.injEq] at h2
  obtain ⟨rfl, rfl⟩ := h2
  have e : (2 : Int) ^ x.Depth.toNat * 2 ^ (20 - x.Depth.toNat) = 1048576 := by
    rw [← Int.pow_add, show x.Depth.toNat + (20 - x.Depth.toNat) = 20 by omega]; decide
  congr 2
  rw [Int.sub_mul, Int.sub_mul, e, Int.one_mul]; omega
theorem piece_mirI {p q : List Int} (d : Nat) (i : Int) (k : Nat) : pieceI q p d (2 ^ d - 1 - i) k = pieceI p q d i k := by
  unfold pieceI
  generalize p.getD k default = P
  generalize q.getD k default = Q
  obtain ⟨D, hD⟩ : ∃ D, Q - P = D := ⟨_, rfl⟩
  have hP : P - Q = -D := by omega
  have hF := two_pow_pos d
  rw [hD, hP]
  generalize (2 : Int) ^ d = F at hF
  have e1 : (F - 1 - i) * -D = (i + 1) * D + F * -D := by
    rw [Int.sub_mul, Int.sub_mul, Int.add_mul, Int.one_mul, Int.one_mul, Int.mul_neg, Int.mul_neg]; omega
  have e2 : (F - 1 - i + 1) * -D = i * D + F * -D := by
    rw [show F - 1 - i + 1 = F - i by omega, Int.sub_mul, Int.mul_neg, Int.mul_neg]; omega
  rw [e1, e2]
  generalize i * D = a
  generalize (i + 1) * D = b
  have m1 : min (b + F * -D) (a + F * -D) = min a b + F * -D := by omega
  have m2 : max (b + F * -D) (a + F * -D) = max a b + F * -D := by omega
  rw [m1, m2]
  have d1 : (min a b + F * -D) / F = min a b / F + -D := Int.add_mul_ediv_left _ _ (by omega)
  have d2 : cdiv (max a b + F * -D) F = cdiv (max a b) F + -D := by
    unfold cdiv
    have : -(max a b + F * -D) = -max a b + F * D := by rw [Int.mul_neg]; omega
    rw [this, Int.add_mul_ediv_left _ _ (by omega)]; omega
  rw [d1, d2]
  congr 1 <;> omega
theorem piece_mir {r : S_Robot} {p q : List Int} (hp : insideV r p = true) (hq : insideV r q = true) {x : S_Piece} (h0 : 0 ≤ x.Depth ∧ x.Depth ≤ 20) (h : 0 ≤ x.Index ∧ x.Index < 2 ^ x.Depth.toNat) : (pieceV q p (mirW x).Depth (mirW x).Index).1 = (pieceV p q x.Depth x.Index).1 := by
  have a := inside_ok hp
  have b := inside_ok hq
  rw [mirW_in h0 h]
  unfold pieceV
  simp only
  rw [if_pos ⟨motion_ok hq hp h0.1 h0.2, by omega, by omega⟩, if_pos ⟨motion_ok hp hq h0.1 h0.2, h⟩, show q.length = p.length by omega]
  exact tab_congr fun k _ => piece_mirI _ _ k
def MirL (l z : List S_Piece) : Prop := z.length = l.length ∧ ∀ j, j < l.length → z.getD j default = mirW (l.getD (l.length - 1 - j) default)
theorem mir_cov {l z : List S_Piece} (h : MirL l z) (hc : CovOk l) : CovOk z := by
  obtain ⟨hz, hm⟩ := h
  obtain ⟨h1, h2, h3⟩ := hc
  have key : ∀ j, j ≤ l.length → plc z j = 1048576 - plc l (l.length - j) ∧ ∀ i, i < j → badT z i = false := by
    intro j
    induction j with
    | zero => intro _; exact ⟨by rw [Nat.sub_zero, h3]; rfl, fun i hi => by omega⟩
    | succ j ih =>
      intro hj
      obtain ⟨i1, i2⟩ := ih (by omega)
      obtain ⟨n, b1, b2⟩ := badT_no (h2 (l.length - 1 - j) (by omega))
      have e : l.length - 1 - j + 1 = l.length - j := by omega
      rw [e] at b2
      have bm := beg_mir b1
      rw [← hm j (by omega)] at bm
      have pj : plc z j = 1048576 - plc l (l.length - 1 - j) - n := by omega
      rw [← pj] at bm
      refine ⟨?_, fun i hi => ?_⟩
      · rw [plc_succ bm, show l.length - (j + 1) = l.length - 1 - j by omega]; omega
      · by_cases ei : i = j
        · subst ei; unfold badT; rw [bm]; simp
        · exact i2 i (by omega)
  have k := key l.length (Nat.le_refl _)
  refine ⟨by omega, fun j hj => k.2 j (by omega), ?_⟩
  rw [hz, k.1, Nat.sub_self]; rfl
theorem mir_check {s : S_Scene} {p q : List Int} {l z : List S_Piece} (h : MirL l z) (hc : (checkV s p q l).2 = 0) : (checkV s q p z).2 = 0 := by
  rw [check_iff] at hc ⊢
  obtain ⟨⟨h1, h2, h3⟩, h4, h5⟩ := hc
  refine ⟨⟨h1, h3, h2⟩, mir_cov h h4, fun j hj => ?_⟩
  rw [h.1] at hj
  rw [h.2 j hj]
  obtain ⟨n, b1, -⟩ := badT_no (h4.2.1 (l.length - 1 - j) (by omega))
  obtain ⟨r0, r1, -⟩ := beg_range b1
  rw [piece_mir h2 h3 r0 r1]
  exact h5 _ (by omega)
theorem MirL.symm {l z : List S_Piece} (h : MirL l z) (hd : ∀ j, j < l.length → (0 ≤ (l.getD j default).Depth ∧ (l.getD j default).Depth ≤ 20) ∧ InR (l.getD j default).Index) : MirL z l := by
  refine ⟨h.1.symm, fun j hj => ?_⟩
  rw [h.1] at hj ⊢
  rw [h.2 _ (by omega), show l.length - 1 - (l.length - 1 - j) = j by omega, mirW_mirW (hd j hj).1 (hd j hj).2]
theorem app_getP {l : List S_Piece} {x : S_Piece} {i : Nat} (h : i ≤ l.length) : (l ++ [x]).getD i default = if i < l.length then l.getD i default else x := by
  simp only [List.getD_eq_getElem?_getD]
  by_cases c : i < l.length
  · rw [if_pos c, List.getElem?_append_left c]
  · rw [if_neg c, show i = l.length by omega, List.getElem?_append_right (Nat.le_refl _)]; simp
theorem edgecheckReverses_true (l m n : List Int) (depth how a x : Int) (hl : l.length < 4294967296) (hm : m.length < 4294967296) (hn : n.length < 4294967296) : (law20_EdgecheckReverses_C l m n depth how a x).o = some true := by
  suffices h : ∃ r, (law20_EdgecheckReverses_C l m n depth how a x).o = some r ∧ r = true by
    obtain ⟨r, h1, rfl⟩ := h; exact h1
  show ∃ r, (law20_EdgecheckReverses_T l m n depth how a x).run NN = some r ∧ r = true
  obtain ⟨⟨s, p, q, d⟩, e1, ⟨d0, d1⟩, lp, lq⟩ := law20_motion_y l m n depth hl hm hn
  simp only at d0 d1 lp lq
  obtain ⟨r, e2, ok⟩ := prove_all s p q (by omega) (by omega) (d := d) d0 (by omega)
  have pc : PC 4096 r.Pieces := by
    refine ⟨⟨ok.bd.1, fun y hy => by have := ok.bd.2 y hy; omega⟩, fun y hy => ?_⟩
    by_cases c : r.Kind = 1
    · obtain ⟨⟨y0, y1⟩, ⟨y2, y3⟩, -⟩ := ok.free c y hy
      have := pow9 y0 (by omega)
      exact ⟨by omega, by omega⟩
    · rw [ok.none c] at hy; cases hy
  simp only [law20_EdgecheckReverses_T, T.run, e1, e2, Option.bind_some, awake20, cond_true]
  have main : ∀ y : List S_Piece, PC 4097 y → ∃ r : Bool, (andK (iter (fun x152 : List S_Piece × Int => bif decide (x152.2 ≥ 0) then grd (0 ≤ x152.2 ∧ x152.2 < ((y.length : Nat) : Int)) (andC (bif decide (((y.getD ((x152.2).toNat) default).Depth) < 0) then some (.out true) else some (.out (decide (((y.getD ((x152.2).toNat) default).Depth) > 20)))) fun y174 => bif y174 then some (.fin true) else grd (0 ≤ (IntKind.u64.wrap ((y.getD ((x152.2).toNat) default).Depth)))
      (grd ((x152.1.length + ([(⟨(y.getD ((x152.2).toNat) default).Depth, (IntKind.i64.wrap ((IntKind.i64.wrap ((IntKind.i64.wrap (1 * 2 ^ (min ((IntKind.u64.wrap ((y.getD ((x152.2).toNat) default).Depth))).toNat 64))) - 1)) - ((y.getD ((x152.2).toNat) default).Index))), (y.getD ((x152.2).toNat) default).Normals⟩ : S_Piece)] : (List S_Piece)).length) * 40 ≤ 140737488355328 ∧ (x152.1.length + ([(⟨(y.getD ((x152.2).toNat) default).Depth, (IntKind.i64.wrap ((IntKind.i64.wrap ((IntKind.i64.wrap (1 * 2 ^ (min ((IntKind.u64.wrap ((y.getD ((x152.2).toNat) default).Depth))).toNat 64))) - 1)) - ((y.getD ((x152.2).toNat) default).Index))), (y.getD ((x152.2).toNat) default).Normals⟩ : S_Piece)] : (List S_Piece)).length) ≤ maxLen)
      (some (.next ((x152.1 ++ ([(⟨(y.getD ((x152.2).toNat) default).Depth, (IntKind.i64.wrap ((IntKind.i64.wrap ((IntKind.i64.wrap (1 * 2 ^ (min ((IntKind.u64.wrap ((y.getD ((x152.2).toNat) default).Depth))).toNat 64))) - 1)) - ((y.getD ((x152.2).toNat) default).Index))), (y.getD ((x152.2).toNat) default).Normals⟩ : S_Piece)] : (List S_Piece))), (IntKind.i64.wrap (x152.2 - 1))))))) else some (.out x152.1)) NN (nl, (IntKind.i64.wrap (((y.length : Nat) : Int) - 1)))) fun y165 : List S_Piece => (edgecheck_Check_C s p q y).o.bind fun y179 => (edgecheck_Check_C s q p y165).o.bind fun y181 => some ((y179.2 == 0) == (y181.2 == 0))) = some r ∧ r = true := by
    intro y hy
    have hyl : y.length ≤ 4097 := hy.1.1
    refine loop_mf (P := fun r => r = true) (fun k (x : List S_Piece × Int) => x.2 = (k : Int) - 1 ∧ k ≤ y.length ∧ x.1.length = y.length - k ∧ (∀ j, j < y.length - k → x.1.getD j default = mirW (y.getD (y.length - 1 - j) default) ∧ 0 ≤ (y.getD (y.length - 1 - j) default).Depth ∧ (y.getD (y.length - 1 - j) default).Depth ≤ 20))
      (fun z : List S_Piece => z.length = y.length ∧ (∀ j, j < y.length → z.getD j default = mirW (y.getD (y.length - 1 - j) default) ∧ 0 ≤ (y.getD (y.length - 1 - j) default).Depth ∧ (y.getD (y.length - 1 - j) default).Depth ≤ 20)) y.length ⟨w64 (by omega) (by omega), Nat.le_refl _, by simp [nl], fun j hj => by omega⟩ (by omega) ?_ ?_
    · rintro k ⟨z, i⟩ ⟨hi, hk, hz, hj⟩
      simp only at hi hz hj ⊢
      subst hi
      cases k with
      | zero => exact .inr (.inl ⟨z, by rw [bif_dneg (by omega)], by omega, fun j h => hj j (by omega)⟩)
      | succ k =>
        have hkn : (((k + 1 : Nat) : Int) - 1).toNat = k := by omega
        rw [bif_dpos (by omega), grd_p (by omega), hkn]
        have hi := hy.2 _ (getD_mem (show k < y.length by omega))
        generalize hg : y.getD k default = g at hi ⊢
        by_cases c1 : g.Depth < 0
        · rw [bif_dpos c1, andC_out]; exact .inr (.inr ⟨_, rfl, rfl⟩)
        · rw [bif_dneg c1]
          by_cases c2 : g.Depth > 20
          · rw [decide_eq_true c2, andC_out]; exact .inr (.inr ⟨_, rfl, rfl⟩)
          · have pw := pow9 (k := g.Depth) (by omega) (by omega)
            rw [decide_eq_false c2, andC_out, cond_false, grd_p (by rw [u64w (by omega) (by omega)]; omega), shl1 (by omega) (by omega), w64 (x := 2 ^ g.Depth.toNat - 1) (by omega) (by omega), grd_p (by simp only [List.length_cons, List.length_nil, maxLen_eq]; omega), w64 (x := ((k + 1 : Nat) : Int) - 1 - 1) (by omega) (by omega)]
            refine .inl ⟨_, k, rfl, Nat.lt_succ_self k, by simp only; omega, by omega, by simp only [List.length_append, List.length_cons, List.length_nil]; omega, fun j hjk => ?_⟩
            rw [app_getP (by omega)]
            split
            · rename_i c; exact hj j (by omega)
            · rename_i c
              rw [show y.length - 1 - j = k by omega, hg]
              exact ⟨rfl, by omega, by omega⟩
    · rintro z ⟨hz, hj⟩
      have ml : MirL y z := ⟨hz, fun j h => (hj j h).1⟩
      have ml' : MirL z y := ml.symm fun j h => by
        have := hj (y.length - 1 - j) (by omega)
        rw [show y.length - 1 - (y.length - 1 - j) = j by omega] at this
        exact ⟨this.2, hy.2 _ (getD_mem h)⟩
      rw [edgecheck_Check_e s p q y (by omega) (by omega), edgecheck_Check_e s q p z (by omega) (by omega)]
      refine ⟨_, rfl, ?_⟩
      by_cases c : (checkV s p q y).2 = 0
      · rw [c, mir_check ml c]; rfl
      · have c' : (checkV s q p z).2 ≠ 0 := fun h => c (mir_check ml' h)
        have a1 : ((checkV s p q y).2 == 0) = false := by simpa using c
        have a2 : ((checkV s q p z).2 == 0) = false := by simpa using c'
        simp only [a1, a2]; rfl
  cases IntKind.i64.wrap (((BitVec.ofInt 64 how &&& BitVec.ofInt 64 1).toNat : Nat) : Int) == 1
  · exact main r.Pieces (pc.mono (by omega))
  · obtain ⟨y, e3, hy⟩ := law20_pieces_y r.Pieces pc (by omega) (how.fdiv (2 ^ min (Int.toNat 1) 64)) a x
    simp only [cond_true, e3, Option.bind_some, andC_out]
    exact main y hy
open Go.Proofs
theorem pow20_split {a : Int} (h0 : 0 ≤ a) (h1 : a ≤ 20) : (2 : Int) ^ (20 - a).toNat * 2 ^ a.toNat = 1048576 := by
  rw [← Int.pow_add, show (20 - a).toNat + a.toNat = 20 by omega]; decide
theorem place_inst {I i D e : Int} (d0 : 0 ≤ D ∧ D ≤ 20) (e0 : 0 ≤ e ∧ e ≤ 20) (h : I * 2 ^ (20 - D).toNat ≤ i * 2 ^ (20 - e).toNat) : I * 2 ^ e.toNat ≤ i * 2 ^ D.toNat := by
  have p1 := pow20_split d0.1 d0.2
  have p2 := pow20_split e0.1 e0.2
  have q1 := two_pow_pos D.toNat
  have q2 := two_pow_pos e.toNat
  generalize (2 : Int) ^ (20 - D).toNat = A at *
  generalize (2 : Int) ^ (20 - e).toNat = B at *
  generalize (2 : Int) ^ D.toNat = X at *
  generalize (2 : Int) ^ e.toNat = Y at *
  have h1 := Int.mul_le_mul_of_nonneg_right (Int.mul_le_mul_of_nonneg_right h (Int.le_of_lt q1)) (Int.le_of_lt q2)
  have a1 : I * A * X * Y = I * Y * 1048576 := by rw [← p1, Int.mul_assoc I A X, Int.mul_assoc I, Int.mul_assoc I, Int.mul_comm Y]
  have a2 : i * B * X * Y = i * X * 1048576 := by rw [← p2, Int.mul_assoc, Int.mul_comm X Y, ← Int.mul_assoc, Int.mul_assoc i B Y, Int.mul_assoc i, Int.mul_comm (B * Y), ← Int.mul_assoc]
  rw [a1, a2] at h1
  omega
theorem place_inst' {I i D e : Int} (d0 : 0 ≤ D ∧ D ≤ 20) (e0 : 0 ≤ e ∧ e ≤ 20) (h : i * 2 ^ (20 - e).toNat ≤ I * 2 ^ (20 - D).toNat) : i * 2 ^ D.toNat ≤ I * 2 ^ e.toNat := place_inst e0 d0 h
theorem place_bd {i e : Int} (e0 : 0 ≤ e ∧ e ≤ 20) (hi : 0 ≤ i ∧ i ≤ 2 ^ e.toNat) : 0 ≤ i * 2 ^ (20 - e).toNat ∧ i * 2 ^ (20 - e).toNat ≤ 1048576 := by
  have p := pow20_split e0.1 e0.2
  have q := two_pow_pos (20 - e).toNat
  refine ⟨Int.mul_nonneg hi.1 (by omega), ?_⟩
  have := Int.mul_le_mul_of_nonneg_right hi.2 (Int.le_of_lt q)
  rw [Int.mul_comm (2 ^ e.toNat), p] at this
  exact this
theorem cov_at {l : List S_Piece} (h : CovOk l) {t : Int} (t0 : 0 ≤ t) (t1 : t ≤ 1048576) : ∃ j, j < l.length ∧ plc l j ≤ t ∧ t ≤ plc l (j + 1) := by
  have key : ∀ m, m + 1 ≤ l.length → t ≤ plc l (m + 1) → ∃ j, j < l.length ∧ plc l j ≤ t ∧ t ≤ plc l (j + 1) := by
    intro m
    induction m with
    | zero => intro hm ht; exact ⟨0, by omega, by simpa [plc] using t0, ht⟩
    | succ m ih =>
      intro hm ht
      by_cases c : t ≤ plc l (m + 1)
      · exact ih (by omega) c
      · exact ⟨m + 1, by omega, by omega, ht⟩
  have h3 := h.2.2
  cases hl : l.length with
  | zero => rw [hl] at h3; cases h3
  | succ m =>
    have := key m (by omega) (by rw [← hl, h3]; exact t1)
    rw [hl] at this; exact this
section
variable {s : S_Scene} {p q : List Int} {l : List S_Piece} (hc : (checkV s p q l).2 = 0) {e i : Int} (e0 : 0 ≤ e ∧ e ≤ 20) (hi : 0 ≤ i ∧ i ≤ 2 ^ e.toNat)
include hc e0 hi
theorem acc_inst {j : Nat} (hj : j < l.length) (h1 : plc l j ≤ i * 2 ^ (20 - e).toNat) (h2 : i * 2 ^ (20 - e).toNat ≤ plc l (j + 1)) :
    (atV p q e i).2 = true ∧ insideV s.Robot (atV p q e i).1 = true ∧ freeV s (ptB (atV p q e i).1) (l.getD j default).Normals = true := by
  obtain ⟨⟨c1, c2, c3⟩, c4, c5⟩ := check_iff.1 hc
  obtain ⟨n, b1, b2⟩ := badT_no (c4.2.1 j hj)
  obtain ⟨r0, r1, r2⟩ := beg_range b1
  simp only [Prod.mk.injEq] at r2
  have ee : 20 - (l.getD j default).Depth.toNat = (20 - (l.getD j default).Depth).toNat := by omega
  rw [ee] at r2
  rw [b2, r2.2] at h2
  rw [r2.1] at h1 h2
  have f := c5 j hj
  have k1 := place_inst r0 e0 h1
  have k2 := place_inst' (I := (l.getD j default).Index + 1) (i := i) r0 e0 (by rw [Int.add_mul, Int.one_mul]; exact h2)
  obtain ⟨a1, a2, a3, a4, a5⟩ := inst_box (s := s) c2 c3 r0 r1 e0 hi k1 k2 (free_iff.1 f).2.1
  exact ⟨a1, a2, free_mono a4 a5 f⟩
theorem acc_any : (atV p q e i).2 = true ∧ insideV s.Robot (atV p q e i).1 = true ∧ ∀ w, collV s (ptB (atV p q e i).1) w = false := by
  obtain ⟨-, c4, -⟩ := check_iff.1 hc
  have b := place_bd e0 hi
  obtain ⟨j, hj, h1, h2⟩ := cov_at c4 b.1 b.2
  obtain ⟨k1, k2, k3⟩ := acc_inst hc e0 hi hj h1 h2
  exact ⟨k1, k2, fun w => free_no_coll k3⟩
end
theorem pt_len {c : List Int} (h : c.length < 4294967296) : (ptB c).length < 4294967296 := by
  unfold ptB; split
  · rw [tab_len]; exact h
  · simp [nl]
theorem at_len {p q : List Int} {e i : Int} : (atV p q e i).1.length ≤ p.length := by
  unfold atV; split
  · rw [tab_len]; exact Nat.le_refl _
  · simp [nl]
theorem edgecheckInstant_true (l m n : List Int) (depth k x : Int) (w : S_Witness) (hl : l.length < 4294967296) (hm : m.length < 4294967296) (hn : n.length < 4294967296) : (law20_EdgecheckInstant_C l m n depth k x w).o = some true := by
  suffices h : ∃ r, (law20_EdgecheckInstant_C l m n depth k x w).o = some r ∧ r = true by
    obtain ⟨r, h1, rfl⟩ := h; exact h1
  show ∃ r, (law20_EdgecheckInstant_T l m n depth k x w).run NN = some r ∧ r = true
  obtain ⟨⟨s, p, q, d⟩, e1, ⟨d0, d1⟩, lp, lq⟩ := law20_motion_y l m n depth hl hm hn
  simp only at d0 d1 lp lq
  obtain ⟨r, e2, ok⟩ := prove_all s p q (by omega) (by omega) (d := d) d0 (by omega)
  simp only [law20_EdgecheckInstant_T, T.run, e1, e2, Option.bind_some, awake20, cond_true, edgecheck_Check_e s p q r.Pieces (by omega) (by omega)]
  by_cases hc : (checkV s p q r.Pieces).2 = 0
  · rw [bif_nne hc, make_Round_e (by decide) (by decide)]
    simp only [Option.bind_some]
    have hk : 0 ≤ k % 21 ∧ k % 21 ≤ 20 := by omega
    generalize k % 21 = e at hk ⊢
    have pw := pow9 hk.1 hk.2
    rw [grd_p (by rw [u64w hk.1 (by omega)]; omega), shl1 hk.1 hk.2, w64 (x := 2 ^ e.toNat + 1) (by omega) (by omega), make_Round_e (by omega) (by omega)]
    simp only [Option.bind_some]
    have hi : 0 ≤ x % (2 ^ e.toNat + 1) ∧ x % (2 ^ e.toNat + 1) ≤ 2 ^ e.toNat := ⟨Int.emod_nonneg _ (by omega), by have := Int.emod_lt_of_pos x (show (0 : Int) < 2 ^ e.toNat + 1 by omega); omega⟩
    generalize x % (2 ^ e.toNat + 1) = i at hi ⊢
    obtain ⟨⟨c1, c2, c3⟩, c4, c5⟩ := check_iff.1 hc
    have al := at_len (p := p) (q := q) (e := e) (i := i)
    obtain ⟨a1, a2, a3⟩ := acc_any hc hk hi
    have tb := place_bd hk hi
    have hy1 : IntKind.i64.wrap (20 - e) = 20 - e := w64 (by omega) (by omega)
    have hy2 : IntKind.u64.wrap (20 - e) = 20 - e := u64w (by omega) (by omega)
    have hy3 : IntKind.i64.wrap (i * 2 ^ (min (20 - e).toNat 64)) = i * 2 ^ (20 - e).toNat := by rw [show min (20 - e).toNat 64 = (20 - e).toNat by omega]; exact w64 (by omega) (by omega)
    rw [ref10_At_e p q _ _ (by omega) (by omega)]
    simp only [Option.bind_some, hy1, hy2, hy3, ref10_Box_e _ (show (atV p q e i).1.length < 4294967296 by omega), classify_CheckFree_e s _ _ (pt_len (show (atV p q e i).1.length < 4294967296 by omega)), classify_CheckColliding_e s _ w (pt_len (show (atV p q e i).1.length < 4294967296 by omega)), a1, cond_true]
    have hln := c4.1
    refine loop_mf (P := fun r => r = true) (fun m (y : Int) => ∃ j : Nat, y = (j : Int) ∧ j + m = r.Pieces.length) (fun _ => True) r.Pieces.length ⟨0, rfl, by omega⟩ (by omega) ?_ ?_
    · rintro m _ ⟨j, rfl, hm'⟩
      cases m with
      | zero => exact .inr (.inl ⟨_, by rw [bif_dneg (by omega)], trivial⟩)
      | succ m =>
        have hj : j < r.Pieces.length := by omega
        obtain ⟨n', b1, b2⟩ := badT_no (c4.2.1 j hj)
        obtain ⟨r0, r1, r2⟩ := beg_range b1
        have bb := begV_bd b1
        have key := acc_inst hc hk hi hj
        simp only [Prod.mk.injEq] at r2
        have ee : 20 - (r.Pieces.getD j default).Depth.toNat = (20 - (r.Pieces.getD j default).Depth).toNat := by omega
        rw [ee] at r2
        rw [bif_dpos (by omega), Int.toNat_natCast]
        have hj' : 0 ≤ (j : Int) ∧ (j : Int) < (r.Pieces.length : Int) := by omega
        generalize hg : r.Pieces.getD j default = y at *
        have hz1 : IntKind.i64.wrap (20 - y.Depth) = 20 - y.Depth := w64 (by omega) (by omega)
        have hz2 : IntKind.u64.wrap (20 - y.Depth) = 20 - y.Depth := u64w (by omega) (by omega)
        have hz3 : IntKind.i64.wrap (y.Index * 2 ^ (min (20 - y.Depth).toNat 64)) = plc r.Pieces j := by
          rw [show min (20 - y.Depth).toNat 64 = (20 - y.Depth).toNat by omega, ← r2.1]; exact w64 (by omega) (by omega)
        have pd := pow9 r0.1 r0.2
        have hz4 : IntKind.i64.wrap (IntKind.i64.wrap (y.Index + 1) * 2 ^ (min (20 - y.Depth).toNat 64)) = plc r.Pieces (j + 1) := by
          rw [show min (20 - y.Depth).toNat 64 = (20 - y.Depth).toNat by omega, w64 (x := y.Index + 1) (by omega) (by omega), Int.add_mul, Int.one_mul, ← r2.1, ← r2.2, b2]; exact w64 (by omega) (by omega)
        simp only [hz1, hz2, hz3, hz4, grd_p hj', grd_p (show (0 : Int) ≤ 20 - y.Depth by omega), grd_p (show (0 : Int) ≤ 20 - e by omega), wn (show j < 4294967296 by omega)]
        have nx : (some (Step3.next ((j + 1 : Nat) : Int)) : Option (Step3 Int U0 Bool)) = some (Step3.next ((j + 1 : Nat) : Int)) := rfl
        by_cases g1 : plc r.Pieces j ≤ i * 2 ^ (20 - e).toNat
        · rw [bif_dpos g1]
          by_cases g2 : i * 2 ^ (20 - e).toNat ≤ plc r.Pieces (j + 1)
          · rw [bif_dpos g2, (key g1 g2).2.2, andC_out]
            exact .inl ⟨_, m, rfl, Nat.lt_succ_self m, j + 1, rfl, by omega⟩
          · rw [bif_dneg g2, andC_out]
            exact .inl ⟨_, m, rfl, Nat.lt_succ_self m, j + 1, rfl, by omega⟩
        · rw [bif_dneg g1, andC_out]
          exact .inl ⟨_, m, rfl, Nat.lt_succ_self m, j + 1, rfl, by omega⟩
    · intro _ _
      rw [ref10_Inside_e]
      simp only [Option.bind_some, a2, cond_true, a3 w]
      exact ⟨_, rfl, rfl⟩
  · rw [bif_neq hc]; exact ⟨_, rfl, rfl⟩
end Go.Abs
