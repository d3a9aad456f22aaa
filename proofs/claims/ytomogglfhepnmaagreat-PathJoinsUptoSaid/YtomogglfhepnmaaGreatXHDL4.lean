/-
  DL4 (a part of a claim: our own text).
-/
import Derived.Test.YtomogglfhepnmaaGreatXHDL3
import Derived.Test.YtomogglfhepnmaaGreatXHDM
import Derived.Test.YtomogglfhepnmaaGreatXHDL2
namespace Go.Abs
open Go.Proofs
open Go.Proofs
theorem app_get {l : List Int} {x : Int} {i : Nat} (h : i ≤ l.length) : (l ++ [x]).getD i default = if i < l.length then l.getD i default else x := by
  simp only [List.getD_eq_getElem?_getD]
  by_cases c : i < l.length
  · rw [if_pos c, List.getElem?_append_left c]
  · rw [if_neg c, show i = l.length by omega, List.getElem?_append_right (Nat.le_refl _)]; simp
def LimC (r : S_Robot) (l : List Int) : Prop := ∀ i, i < l.length → (r.Joints.getD i default).Lo ≤ l.getD i default ∧ l.getD i default ≤ (r.Joints.getD i default).Hi
theorem LimC.app {r : S_Robot} {l : List Int} {x : Int} (h : LimC r l) (hx : (r.Joints.getD l.length default).Lo ≤ x ∧ x ≤ (r.Joints.getD l.length default).Hi) : LimC r (l ++ [x]) := by
  intro i hi
  simp at hi
  rw [app_get (by omega)]
  split
  · exact h i (by assumption)
  · rw [show i = l.length by omega]; exact hx
theorem make_Config_y (r : S_Robot) (l : List Int) (hl : l.length < 4294967296) (h3 : r.Joints.length ≤ 3) (hj : ∀ j ∈ r.Joints, JB j) : ∃ c : List Int, (make_Config_C r l).o = some c ∧ c.length = r.Joints.length ∧ LimC r c := by
  have e0 : (make_Config_C r l).o = (make_Config_T r l).run NN := rfl
  rw [e0]
  simp only [make_Config_T, T.run]
  have ef : (make_From_C l).o = some (l, 0) := rfl
  rw [ef, Option.bind_some]
  simp only
  refine loop_cnt (g := fun b => b) r.Joints.length (by omega) (fun j (y : List Int × Int × List Int × Int) => y.1 = l ∧ 0 ≤ y.2.1 ∧ y.2.1 ≤ (l.length : Int) ∧ (y.2.2.1.length = j ∧ LimC r y.2.2.1) ∧ y.2.2.2 = (j : Int))
    (fun (w : List Int) => w.length = r.Joints.length ∧ LimC r w) ⟨rfl, by simp, by simp, ⟨by simp [nl], fun i hi => by simp [nl] at hi⟩, rfl⟩ (fun j y hj1 hy => ?_) (fun y hy => ?_) (fun z hz => ⟨_, rfl, hz⟩)
  · obtain ⟨g1, g2, g3, ⟨g4, g6⟩, g5⟩ := hy
    have jb := hj _ (getD_mem hj1)
    unfold JB at jb
    obtain ⟨s1, p1, q1, u1, v1, w1, x1⟩ := Source_Next_x hl g2 g3 (k := 6) (by decide) (by decide)
    rw [g5, g1, bif_dpos (by omega), grd_p ⟨by omega, by omega⟩, grd_p ⟨by omega, by omega⟩, q1, Option.bind_some, wn (by omega), Int.toNat_natCast]
    cases s1 == 0
    · cases s1 == 1
      · simp only [cond_false]
        rw [w64 (x := (r.Joints.getD j default).Hi - (r.Joints.getD j default).Lo) (by omega) (by omega), w64 (x := (r.Joints.getD j default).Hi - (r.Joints.getD j default).Lo + 1) (by omega) (by omega)]
        obtain ⟨s2, p2, q2, u2, v2, w2, x2⟩ := Source_Next_x hl w1 x1 (k := (r.Joints.getD j default).Hi - (r.Joints.getD j default).Lo + 1) (by omega) (by omega)
        rw [q2, Option.bind_some]
        simp only
        rw [grd_p ⟨by simp; omega, by simp [maxLen_eq]; omega⟩, andC_out]
        refine ⟨_, rfl, rfl, w2, x2, ⟨by simp; omega, g6.app ?_⟩, rfl⟩
        rw [g4, w64 (by omega) (by omega)]; omega
      · simp only [cond_false, cond_true]
        rw [grd_p ⟨by simp; omega, by simp [maxLen_eq]; omega⟩, andC_out]
        exact ⟨_, rfl, rfl, w1, x1, ⟨by simp; omega, g6.app (by rw [g4]; omega)⟩, rfl⟩
    · simp only [cond_true]
      rw [grd_p ⟨by simp; omega, by simp [maxLen_eq]; omega⟩, andC_out]
      exact ⟨_, rfl, rfl, w1, x1, ⟨by simp; omega, g6.app (by rw [g4]; omega)⟩, rfl⟩
  · obtain ⟨g1, g2, g3, g4, g5⟩ := hy
    rw [g5, bif_dneg (by omega)]; exact ⟨_, rfl, g4⟩
open Go.Proofs
def PC (n : Nat) (l : List S_Piece) : Prop := PB n l ∧ ∀ x ∈ l, InR x.Index
def CovOk (l : List S_Piece) : Prop := l.length ≤ 4096 ∧ (∀ j, j < l.length → badT l j = false) ∧ plc l l.length = 1048576
theorem cover_iff {l : List S_Piece} : (coverV l).2 = true ↔ CovOk l := by
  constructor
  · intro h
    have h1 := (cover_ok h).1
    unfold coverV at h
    rw [if_pos h1] at h
    split at h
    · rename_i r hr
      obtain ⟨j, -, -, h3, -⟩ := scan_some _ _ hr
      cases hb : badT l j with
      | false => rw [hb] at h3; cases h3
      | true => rw [hb] at h3; simp only [sw, cond_true, Option.some.injEq] at h3; rw [← h3] at h; cases h
    · rename_i hn
      refine ⟨h1, fun j hj => ?_, by simpa using h⟩
      have := (scan_none _ _).1 hn j (Nat.zero_le _) (by omega)
      cases hb : badT l j with
      | false => rfl
      | true => rw [hb] at this; cases this
  · rintro ⟨h1, h2, h3⟩
    unfold coverV
    rw [if_pos h1]
    have : scan (fun j => sw (badT l j) ((j : Int), false)) l.length 0 = none := (scan_none _ _).2 fun j _ hj => by rw [h2 j (by omega)]; rfl
    rw [this, h3]; rfl
theorem check_iff {s : S_Scene} {p q : List Int} {l : List S_Piece} : (checkV s p q l).2 = 0 ↔ (sceneV s = 0 ∧ insideV s.Robot p = true ∧ insideV s.Robot q = true) ∧ CovOk l ∧
    ∀ j, j < l.length → freeV s (pieceV p q (l.getD j default).Depth (l.getD j default).Index).1 (l.getD j default).Normals = true := by
  constructor
  · intro h
    have h0 := checkV_ok h
    refine ⟨⟨h0.1, h0.2.1, h0.2.2.1⟩, ?_⟩
    unfold checkV at h
    rw [if_neg (fun h' => h' h0.1), if_neg (by rw [h0.2.1, h0.2.2.1]; decide)] at h
    split at h
    · cases h
    · rename_i hc
      refine ⟨cover_iff.1 (by simpa using hc), fun j hj => ?_⟩
      split at h
      · rename_i r hr
        obtain ⟨j, -, -, h3, -⟩ := scan_some _ _ hr
        cases hb : notF s p q l j with
        | false => rw [hb] at h3; cases h3
        | true => rw [hb] at h3; simp only [sw, cond_true, Option.some.injEq] at h3; rw [← h3] at h; cases h
      · rename_i hn
        have := (scan_none _ _).1 hn j (Nat.zero_le _) (by omega)
        cases hb : notF s p q l j with
        | false => simpa [notF] using hb
        | true => rw [hb] at this; cases this
  · rintro ⟨⟨h1, h2, h3⟩, h4, h5⟩
    unfold checkV
    rw [if_neg (fun h' => h' h1), if_neg (by rw [h2, h3]; decide), if_neg (by rw [cover_iff.2 h4]; decide)]
    have : scan (fun j => sw (notF s p q l j) ((j : Int), (2002 : Int))) l.length 0 = none := (scan_none _ _).2 fun j _ hj => by
      have := h5 j (by omega)
      unfold notF; rw [this]; rfl
    rw [this]
theorem badT_no {l : List S_Piece} {j : Nat} (h : badT l j = false) : ∃ n, begV (l.getD j default) = some (plc l j, n) ∧ plc l (j + 1) = plc l j + n := by
  unfold badT at h
  cases hb : begV (l.getD j default) with
  | none => rw [hb] at h; cases h
  | some x =>
    obtain ⟨f, n⟩ := x
    rw [hb] at h
    have hf : f = plc l j := by simpa using h
    refine ⟨n, by rw [hf], ?_⟩
    simp only [plc, hb, hf]
theorem plc_succ {l : List S_Piece} {j : Nat} {f n : Int} (h : begV (l.getD j default) = some (f, n)) : plc l (j + 1) = f + n := by simp only [plc, h]
theorem beg_range {x : S_Piece} {y : Int × Int} (h : begV x = some y) : (0 ≤ x.Depth ∧ x.Depth ≤ 20) ∧ (0 ≤ x.Index ∧ x.Index < 2 ^ x.Depth.toNat) ∧ y = (x.Index * 2 ^ (20 - x.Depth.toNat), 2 ^ (20 - x.Depth.toNat)) := by
  unfold begV at h
  split at h
  · rename_i hc
    simp only [Option.some.injEq] at h
    exact ⟨hc.1, hc.2, h.symm⟩
  · cases h
open Go.Proofs
section
variable {s : S_Scene} {p q : List Int} {l : List S_Piece} (hc : (checkV s p q l).2 = 0) {e i : Int} (e0 : 0 ≤ e ∧ e ≤ 20) (hi : 0 ≤ i ∧ i ≤ 2 ^ e.toNat)
include hc e0 hi
end
open Go.Proofs
theorem tile_cov {s : S_Scene} {p q : List Int} {d : Int} (h20 : d ≤ 20) {np : Nat} : ∀ (l pre : List S_Piece) (e e' : Int), TileF d np e l e' → (∀ x ∈ l, PieceOk s p q d x) → plc (pre ++ l) pre.length = e * 2 ^ (20 - d).toNat →
    (∀ j, pre.length ≤ j → j < (pre ++ l).length → badT (pre ++ l) j = false) ∧ plc (pre ++ l) (pre ++ l).length = e' * 2 ^ (20 - d).toNat
  | [], pre, e, e', ht, _, hp => by
    have ht : e = e' := ht
    subst ht
    rw [List.append_nil] at hp ⊢
    exact ⟨fun j h1 h2 => by omega, hp⟩
  | x :: l, pre, e, e', ht, hx, hp => by
    obtain ⟨⟨t1, t2, t3, t4⟩, t5⟩ := ht
    obtain ⟨⟨y0, y1⟩, ⟨y2, y3⟩, yf⟩ := hx x (by simp)
    have e1 : pre ++ x :: l = (pre ++ [x]) ++ l := by simp
    have hg : (pre ++ x :: l).getD pre.length default = x := by simp [List.getD_eq_getElem?_getD]
    have hpow : (2 : Int) ^ (20 - x.Depth.toNat) = 2 ^ (d - x.Depth).toNat * 2 ^ (20 - d).toNat := by
      rw [← Int.pow_add, show (d - x.Depth).toNat + (20 - d).toNat = 20 - x.Depth.toNat by omega]
    have hb : begV ((pre ++ x :: l).getD pre.length default) = some (plc (pre ++ x :: l) pre.length, 2 ^ (20 - x.Depth.toNat)) := by
      rw [hg, hp]
      unfold begV
      rw [if_pos ⟨⟨y0, by omega⟩, y2, y3⟩, hpow, ← Int.mul_assoc, t4]
    have hs := plc_succ hb
    have l1 : (pre ++ [x]).length = pre.length + 1 := by simp
    have ih := tile_cov h20 l (pre ++ [x]) (e + 2 ^ (d - x.Depth).toNat) e' t5 (fun y hy => hx y (by simp [hy])) (by
      rw [← e1, l1, hs, hp, Int.add_mul, ← hpow])
    rw [← e1] at ih
    refine ⟨fun j h1 h2 => ?_, ih.2⟩
    by_cases ej : j = pre.length
    · subst ej; unfold badT; rw [hb]; simp
    · exact ih.1 j (by omega) h2
theorem prove_cov {s : S_Scene} {p q : List Int} {d : Int} {r : S_EdgeResult} (h0 : 0 ≤ d) (h20 : d ≤ 20) (ok : ProveOk s p q d r) (hk : r.Kind = 1) : CovOk r.Pieces := by
  have t := tile_cov h20 r.Pieces [] 0 (2 ^ d.toNat) (ok.tiles hk) (ok.free hk) (by rw [Int.zero_mul]; rfl)
  rw [List.nil_append] at t
  refine ⟨ok.bd.1, fun j hj => t.1 j (Nat.zero_le _) hj, t.2.trans ?_⟩
  rw [← Int.pow_add, show d.toNat + (20 - d).toNat = 20 by omega]; decide
theorem prove_check {s : S_Scene} {p q : List Int} {d : Int} {r : S_EdgeResult} (h0 : 0 ≤ d) (h20 : d ≤ 20) (ok : ProveOk s p q d r) (hk : r.Kind = 1) : (checkV s p q r.Pieces).2 = 0 := by
  rw [check_iff]
  exact ⟨ok.ready (by omega), prove_cov h0 h20 ok hk, fun j hj => (ok.free hk _ (getD_mem hj)).2.2⟩
open Go.Proofs
section
variable {J : S_Piece → S_Piece → Option S_Piece}
theorem push_len : ∀ (rs : List S_Piece) (x : S_Piece), (pushR J rs x).length ≤ rs.length + 1
  | [], x => by simp [pushR]
  | a :: rs, x => by
    simp only [pushR]
    cases hj : J a x with
    | some w => have := push_len rs w; simp; omega
    | none => simp
theorem fold_len : ∀ (l rs : List S_Piece), (l.foldl (pushR J) rs).length ≤ rs.length + l.length
  | [], _ => by simp
  | x :: l, rs => by
    have := fold_len l (pushR J rs x)
    have := push_len (J := J) rs x
    simp only [List.foldl_cons, List.length_cons]; omega
theorem merge_len (l : List S_Piece) : (mergeL J l).length ≤ l.length := by
  have := fold_len (J := J) l []
  unfold mergeL; simp at this ⊢; exact this
theorem fold_all {P : S_Piece → Prop} (hJ : ∀ a x w, J a x = some w → P a → P x → P w) : ∀ (l rs : List S_Piece), (∀ x ∈ rs, P x) → (∀ x ∈ l, P x) → ∀ x ∈ l.foldl (pushR J) rs, P x := by
  have push : ∀ (rs : List S_Piece) (x : S_Piece), (∀ y ∈ rs, P y) → P x → ∀ y ∈ pushR J rs x, P y := by
    intro rs
    induction rs with
    | nil => intro x _ hx y hy; simp [pushR] at hy; subst hy; exact hx
    | cons a rs ih =>
      intro x h hx
      simp only [pushR]
      cases hj : J a x with
      | some w => exact ih w (fun y hy => h y (by simp [hy])) (hJ a x w hj (h a (by simp)) hx)
      | none =>
        intro y hy
        rcases List.mem_cons.1 hy with rfl | hy
        · exact hx
        · exact h y hy
  intro l
  induction l with
  | nil => intro rs h _; exact h
  | cons x l ih => intro rs h hl; exact ih _ (push rs x h (hl x (by simp))) (fun y hy => hl y (by simp [hy]))
end
def TlB : Int → List S_Piece → Int → Prop
  | a, [], b => a = b
  | a, x :: l, b => ∃ n, begV x = some (a, n) ∧ TlB (a + n) l b
theorem TlB.app : ∀ {l m : List S_Piece} {a b c : Int}, TlB a l b → TlB b m c → TlB a (l ++ m) c
  | [], _, _, _, _, h, k => by have h : _ = _ := h; subst h; exact k
  | _ :: _, _, _, _, _, ⟨n, h1, h2⟩, k => ⟨n, h1, TlB.app h2 k⟩
theorem TlB.split : ∀ {l m : List S_Piece} {a c : Int}, TlB a (l ++ m) c → ∃ b, TlB a l b ∧ TlB b m c
  | [], _, a, _, h => ⟨a, rfl, h⟩
  | _ :: _, _, _, _, ⟨n, h1, h2⟩ => by
    obtain ⟨b, h3, h4⟩ := TlB.split h2
    exact ⟨b, ⟨n, h1, h3⟩, h4⟩
theorem TlB.snoc {l : List S_Piece} {x : S_Piece} {a c : Int} (h : TlB a (l ++ [x]) c) : ∃ f n, TlB a l f ∧ begV x = some (f, n) ∧ c = f + n := by
  obtain ⟨b, h1, n, h2, h3⟩ := h.split
  have h3 : b + n = c := h3
  exact ⟨b, n, h1, h2, h3.symm⟩
theorem tlb_plc : ∀ (l pre : List S_Piece) (a b : Int), plc (pre ++ l) pre.length = a →
    (TlB a l b ↔ (∀ j, pre.length ≤ j → j < (pre ++ l).length → badT (pre ++ l) j = false) ∧ plc (pre ++ l) (pre ++ l).length = b)
  | [], pre, a, b, hp => by
    rw [List.append_nil] at hp ⊢
    exact ⟨fun h => ⟨fun j h1 h2 => by omega, hp.trans h⟩, fun h => hp.symm.trans h.2⟩
  | x :: l, pre, a, b, hp => by
    have e1 : pre ++ x :: l = (pre ++ [x]) ++ l := by simp
    have hg : (pre ++ x :: l).getD pre.length default = x := by simp [List.getD_eq_getElem?_getD]
    have l1 : (pre ++ [x]).length = pre.length + 1 := by simp
    constructor
    · rintro ⟨n, h1, h2⟩
      have hb : begV ((pre ++ x :: l).getD pre.length default) = some (a, n) := by rw [hg]; exact h1
      have hs := plc_succ hb
      have ih := (tlb_plc l (pre ++ [x]) (a + n) b (by rw [← e1, l1, hs])).1 h2
      rw [← e1] at ih
      refine ⟨fun j h3 h4 => ?_, ih.2⟩
      by_cases ej : j = pre.length
      · subst ej; unfold badT; rw [hb, hp]; simp
      · exact ih.1 j (by omega) h4
    · rintro ⟨h1, h2⟩
      obtain ⟨n, b1, b2⟩ := badT_no (h1 pre.length (Nat.le_refl _) (by simp))
      rw [hg, hp] at b1
      refine ⟨n, b1, (tlb_plc l (pre ++ [x]) (a + n) b (by rw [← e1, l1, b2, hp])).2 ?_⟩
      rw [← e1]
      exact ⟨fun j h3 h4 => h1 j (by omega) h4, h2⟩
theorem cov_tlb {l : List S_Piece} : CovOk l ↔ l.length ≤ 4096 ∧ TlB 0 l 1048576 := by
  have h := tlb_plc l [] 0 1048576 rfl
  rw [List.nil_append] at h
  rw [h]
  exact ⟨fun ⟨h1, h2, h3⟩ => ⟨h1, fun j _ hj => h2 j hj, h3⟩, fun ⟨h1, h2, h3⟩ => ⟨h1, fun j hj => h2 j (Nat.zero_le _) hj, h3⟩⟩
def FreeP (s : S_Scene) (p q : List Int) (x : S_Piece) : Prop := freeV s (pieceV p q x.Depth x.Index).1 x.Normals = true
theorem check_tlb {s : S_Scene} {p q : List Int} {l : List S_Piece} : (checkV s p q l).2 = 0 ↔ (sceneV s = 0 ∧ insideV s.Robot p = true ∧ insideV s.Robot q = true) ∧ l.length ≤ 4096 ∧ TlB 0 l 1048576 ∧ ∀ x ∈ l, FreeP s p q x := by
  rw [check_iff, cov_tlb]
  constructor
  · rintro ⟨h1, ⟨h2, h3⟩, h4⟩
    refine ⟨h1, h2, h3, fun x hx => ?_⟩
    obtain ⟨i, hi, rfl⟩ := List.getElem_of_mem hx
    have := h4 i hi
    rw [getD_lt hi] at this
    exact this
  · rintro ⟨h1, h2, h3, h4⟩
    exact ⟨h1, ⟨h2, h3⟩, fun j hj => h4 _ (getD_mem hj)⟩
section
variable {s : S_Scene} {p q : List Int}
theorem join_free {a b w : S_Piece} (h : joinV s p q a b = some w) : FreeP s p q w := by
  unfold joinV at h
  split at h
  · cases h
  · split at h
    · cases h
    · split at h
      · rename_i hf; cases h; exact hf
      · split at h
        · rename_i hf; cases h; exact hf
        · cases h
theorem join_beg {a b w : S_Piece} (h : joinV s p q a b = some w) {f n m : Int} (ha : begV a = some (f, n)) (hb : begV b = some (f + n, m)) : begV w = some (f, n + m) := by
  obtain ⟨a0, a1, a2⟩ := beg_range ha
  obtain ⟨b0, b1, b2⟩ := beg_range hb
  simp only [Prod.mk.injEq] at a2 b2
  have hw : a.Depth = b.Depth ∧ 0 < a.Depth ∧ a.Index.tmod 2 = 0 ∧ w.Depth = IntKind.i64.wrap (a.Depth - 1) ∧ w.Index = IntKind.i64.wrap (a.Index.tdiv 2) := by
    unfold joinV at h
    split at h
    · cases h
    · rename_i hc
      have hc1 : a.Depth = b.Depth ∧ 0 < a.Depth ∧ a.Index.tmod 2 = 0 := by
        refine ⟨?_, ?_, ?_⟩
        · by_cases e : a.Depth = b.Depth
          · exact e
          · exact absurd (.inl e) hc
        · by_cases e : a.Depth ≤ 0
          · exact absurd (.inr (.inl e)) hc
          · omega
        · by_cases e : a.Index.tmod 2 = 0
          · exact e
          · exact absurd (.inr (.inr (.inl e))) hc
      refine ⟨hc1.1, hc1.2.1, hc1.2.2, ?_⟩
      split at h
      · cases h
      · split at h
        · cases h; exact ⟨rfl, rfl⟩
        · split at h
          · cases h; exact ⟨rfl, rfl⟩
          · cases h
  obtain ⟨h1, h2, h3, h4, h5⟩ := hw
  have pw := pow9 a0.1 a0.2
  rw [tmod_pos a1.1] at h3
  rw [tdiv_pos a1.1, w64 (by omega) (by omega)] at h5
  rw [w64 (by omega) (by omega)] at h4
  have p2 : (2 : Int) ^ a.Depth.toNat = 2 * 2 ^ (a.Depth - 1).toNat := by rw [show a.Depth.toNat = (a.Depth - 1).toNat + 1 by omega, Int.pow_succ]; omega
  have p3 : (2 : Int) ^ (20 - (a.Depth - 1).toNat) = 2 * 2 ^ (20 - a.Depth.toNat) := by rw [show 20 - (a.Depth - 1).toNat = (20 - a.Depth.toNat) + 1 by omega, Int.pow_succ]; omega
  unfold begV
  rw [h4, h5, if_pos ⟨by omega, by omega, by omega⟩, p3, a2.1, a2.2, b2.2, ← h1]
  have e : a.Index / 2 * (2 * 2 ^ (20 - a.Depth.toNat)) = a.Index * 2 ^ (20 - a.Depth.toNat) := by
    rw [← Int.mul_assoc, show a.Index / 2 * 2 = a.Index by omega]
  rw [e]
  congr 2; omega
theorem push_tlb : ∀ (rs : List S_Piece) (x : S_Piece) (f n : Int), TlB 0 rs.reverse f → begV x = some (f, n) → TlB 0 (pushR (joinV s p q) rs x).reverse (f + n)
  | [], x, f, n, h, hx => by
    have h : (0 : Int) = f := h
    subst h
    exact ⟨n, hx, rfl⟩
  | a :: rs, x, f, n, h, hx => by
    simp only [pushR]
    rw [List.reverse_cons] at h
    obtain ⟨fa, na, h1, h2, h3⟩ := h.snoc
    subst h3
    cases hj : joinV s p q a x with
    | some w =>
      have := push_tlb rs w fa (na + n) h1 (join_beg hj h2 hx)
      rw [← Int.add_assoc] at this
      exact this
    | none =>
      rw [List.reverse_cons, List.reverse_cons]
      exact h.app ⟨n, hx, rfl⟩
theorem fold_tlb : ∀ (l rs : List S_Piece) (f b : Int), TlB 0 rs.reverse f → TlB f l b → TlB 0 (l.foldl (pushR (joinV s p q)) rs).reverse b
  | [], rs, f, b, h, hl => by have hl : f = b := hl; subst hl; exact h
  | x :: l, rs, f, b, h, ⟨n, h1, h2⟩ => fold_tlb l _ (f + n) b (push_tlb rs x f n h h1) h2
theorem merge_check {l : List S_Piece} (h : (checkV s p q l).2 = 0) : (checkV s p q (mergeL (joinV s p q) l)).2 = 0 := by
  rw [check_tlb] at h ⊢
  obtain ⟨h1, h2, h3, h4⟩ := h
  refine ⟨h1, Nat.le_trans (merge_len l) h2, fold_tlb l [] 0 1048576 rfl h3, fun x hx => ?_⟩
  unfold mergeL at hx
  rw [List.mem_reverse] at hx
  exact fold_all (P := FreeP s p q) (fun a x w hw _ _ => join_free hw) l [] (fun x hx => by cases hx) h4 x hx
end
open Go.Proofs
def hi2 (x : S_Piece) : S_Piece := ⟨IntKind.i64.wrap (x.Depth + 1), IntKind.i64.wrap (IntKind.i64.wrap (2 * x.Index) + 1), x.Normals⟩
section
variable {s : S_Scene} {p q : List Int}
end
end Go.Abs
