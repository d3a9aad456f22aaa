/-
  DL4 (a part of a claim: our own text).
-/
import Derived.Test.YtomogglfhepnmaaGreatXEDL3
import Derived.Test.YtomogglfhepnmaaGreatXEDM
import Derived.Test.YtomogglfhepnmaaGreatXEDL2
namespace Go.Abs
open Go.Proofs
theorem inside_ok {r : S_Robot} {c : List Int} (h : insideV r c = true) : robotV r = 0 ∧ c.length = r.Joints.length ∧ c.length ≤ 10 ∧ smallV c = true ∧ ∀ i, i < c.length → (r.Joints.getD i default).Lo ≤ c.getD i default ∧ c.getD i default ≤ (r.Joints.getD i default).Hi := by
  simp only [insideV, Bool.and_eq_true, decide_eq_true_eq] at h
  obtain ⟨h1, h2, h3⟩ := h
  have hr := robotV_ok h1
  have lim : ∀ i, i < c.length → (r.Joints.getD i default).Lo ≤ c.getD i default ∧ c.getD i default ≤ (r.Joints.getD i default).Hi := fun i hi => by
    have := noneB_iff.1 h3 i hi
    simp only [outJ, Bool.or_eq_false_iff, decide_eq_false_iff_not] at this
    omega
  refine ⟨h1, h2, by omega, ?_, lim⟩
  unfold smallV
  rw [noneB_iff]
  intro i hi
  have jl := (robot_joint h1 (i := i) (by omega)).lim
  have rb := reach_bd (r.Joints.getD i default).Kind
  have := lim i hi
  simp only [big1, Bool.or_eq_false_iff, decide_eq_false_iff_not]
  omega
theorem motion_ok {r : S_Robot} {p q : List Int} {e : Int} (hp : insideV r p = true) (hq : insideV r q = true) (h0 : 0 ≤ e) (h1 : e ≤ 20) : motionV p q e = true := by
  have a := inside_ok hp
  have b := inside_ok hq
  exact motionV_iff.2 ⟨a.2.2.2.1, b.2.2.2.1, by omega, h0, h1⟩
theorem tab_get' {α : Type} [Inhabited α] {f : Nat → α} {n i : Nat} (h : i < n) : (tab f n).getD i default = f i := tab_get h
open Go.Proofs
def PC (n : Nat) (l : List S_Piece) : Prop := PB n l ∧ ∀ x ∈ l, InR x.Index
def CovOk (l : List S_Piece) : Prop := l.length ≤ 4096 ∧ (∀ j, j < l.length → badT l j = false) ∧ plc l l.length = 1048576
theorem cover_iff {l : List S_Piece} : (coverV l).2 = true ↔ CovOk l := by
  constructor
  · intro h
    have h1 := (cover_ok h).1
    unfold coverV at h
    rw [if_pos h1] at h
    split at h
    · rename_i r hr
      obtain ⟨j, -, -, h3, -⟩ := scan_some _ _ hr
      cases hb : badT l j with
      | false => rw [hb] at h3; cases h3
      | true => rw [hb] at h3; simp only [sw, cond_true, Option.some.injEq] at h3; rw [← h3] at h; cases h
    · rename_i hn
      refine ⟨h1, fun j hj => ?_, by simpa using h⟩
      have := (scan_none _ _).1 hn j (Nat.zero_le _) (by omega)
      cases hb : badT l j with
      | false => rfl
      | true => rw [hb] at this; cases this
  · rintro ⟨h1, h2, h3⟩
    unfold coverV
    rw [if_pos h1]
    have : scan (fun j => sw (badT l j) ((j : Int), false)) l.length 0 = none := (scan_none _ _).2 fun j _ hj => by rw [h2 j (by omega)]; rfl
    rw [this, h3]; rfl
theorem check_iff {s : S_Scene} {p q : List Int} {l : List S_Piece} : (checkV s p q l).2 = 0 ↔ (sceneV s = 0 ∧ insideV s.Robot p = true ∧ insideV s.Robot q = true) ∧ CovOk l ∧
    ∀ j, j < l.length → freeV s (pieceV p q (l.getD j default).Depth (l.getD j default).Index).1 (l.getD j default).Normals = true := by
  constructor
  · intro h
    have h0 := checkV_ok h
    refine ⟨⟨h0.1, h0.2.1, h0.2.2.1⟩, ?_⟩
    unfold checkV at h
    rw [if_neg (fun h' => h' h0.1), if_neg (by rw [h0.2.1, h0.2.2.1]; decide)] at h
    split at h
    · cases h
    · rename_i hc
      refine ⟨cover_iff.1 (by simpa using hc), fun j hj => ?_⟩
      split at h
      · rename_i r hr
        obtain ⟨j, -, -, h3, -⟩ := scan_some _ _ hr
        cases hb : notF s p q l j with
        | false => rw [hb] at h3; cases h3
        | true => rw [hb] at h3; simp only [sw, cond_true, Option.some.injEq] at h3; rw [← h3] at h; cases h
      · rename_i hn
        have := (scan_none _ _).1 hn j (Nat.zero_le _) (by omega)
        cases hb : notF s p q l j with
        | false => simpa [notF] using hb
        | true => rw [hb] at this; cases this
  · rintro ⟨⟨h1, h2, h3⟩, h4, h5⟩
    unfold checkV
    rw [if_neg (fun h' => h' h1), if_neg (by rw [h2, h3]; decide), if_neg (by rw [cover_iff.2 h4]; decide)]
    have : scan (fun j => sw (notF s p q l j) ((j : Int), (2002 : Int))) l.length 0 = none := (scan_none _ _).2 fun j _ hj => by
      have := h5 j (by omega)
      unfold notF; rw [this]; rfl
    rw [this]
theorem badT_no {l : List S_Piece} {j : Nat} (h : badT l j = false) : ∃ n, begV (l.getD j default) = some (plc l j, n) ∧ plc l (j + 1) = plc l j + n := by
  unfold badT at h
  cases hb : begV (l.getD j default) with
  | none => rw [hb] at h; cases h
  | some x =>
    obtain ⟨f, n⟩ := x
    rw [hb] at h
    have hf : f = plc l j := by simpa using h
    refine ⟨n, by rw [hf], ?_⟩
    simp only [plc, hb, hf]
theorem plc_succ {l : List S_Piece} {j : Nat} {f n : Int} (h : begV (l.getD j default) = some (f, n)) : plc l (j + 1) = f + n := by simp only [plc, h]
theorem beg_range {x : S_Piece} {y : Int × Int} (h : begV x = some y) : (0 ≤ x.Depth ∧ x.Depth ≤ 20) ∧ (0 ≤ x.Index ∧ x.Index < 2 ^ x.Depth.toNat) ∧ y = (x.Index * 2 ^ (20 - x.Depth.toNat), 2 ^ (20 - x.Depth.toNat)) := by
  unfold begV at h
  split at h
  · rename_i hc
    simp only [Option.some.injEq] at h
    exact ⟨hc.1, hc.2, h.symm⟩
  · cases h
open Go.Proofs
theorem tile_cov {s : S_Scene} {p q : List Int} {d : Int} (h20 : d ≤ 20) {np : Nat} : ∀ (l pre : List S_Piece) (e e' : Int), TileF d np e l e' → (∀ x ∈ l, PieceOk s p q d x) → plc (pre ++ l) pre.length = e * 2 ^ (20 - d).toNat →
    (∀ j, pre.length ≤ j → j < (pre ++ l).length → badT (pre ++ l) j = false) ∧ plc (pre ++ l) (pre ++ l).length = e' * 2 ^ (20 - d).toNat
  | [], pre, e, e', ht, _, hp => by
    have ht : e = e' := ht
    subst ht
    rw [List.append_nil] at hp ⊢
    exact ⟨fun j h1 h2 => by omega, hp⟩
  | x :: l, pre, e, e', ht, hx, hp => by
    obtain ⟨⟨t1, t2, t3, t4⟩, t5⟩ := ht
    obtain ⟨⟨y0, y1⟩, ⟨y2, y3⟩, yf⟩ := hx x (by simp)
    have e1 : pre ++ x :: l = (pre ++ [x]) ++ l := by simp
    have hg : (pre ++ x :: l).getD pre.length default = x := by simp [List.getD_eq_getElem?_getD]
    have hpow : (2 : Int) ^ (20 - x.Depth.toNat) = 2 ^ (d - x.Depth).toNat * 2 ^ (20 - d).toNat := by
      rw [← Int.pow_add, show (d - x.Depth).toNat + (20 - d).toNat = 20 - x.Depth.toNat by omega]
    have hb : begV ((pre ++ x :: l).getD pre.length default) = some (plc (pre ++ x :: l) pre.length, 2 ^ (20 - x.Depth.toNat)) := by
      rw [hg, hp]
      unfold begV
      rw [if_pos ⟨⟨y0, by omega⟩, y2, y3⟩, hpow, ← Int.mul_assoc, t4]
    have hs := plc_succ hb
    have l1 : (pre ++ [x]).length = pre.length + 1 := by simp
    have ih := tile_cov h20 l (pre ++ [x]) (e + 2 ^ (d - x.Depth).toNat) e' t5 (fun y hy => hx y (by simp [hy])) (by
      rw [← e1, l1, hs, hp, Int.add_mul, ← hpow])
    rw [← e1] at ih
    refine ⟨fun j h1 h2 => ?_, ih.2⟩
    by_cases ej : j = pre.length
    · subst ej; unfold badT; rw [hb]; simp
    · exact ih.1 j (by omega) h2
theorem prove_cov {s : S_Scene} {p q : List Int} {d : Int} {r : S_EdgeResult} (h0 : 0 ≤ d) (h20 : d ≤ 20) (ok : ProveOk s p q d r) (hk : r.Kind = 1) : CovOk r.Pieces := by
  have t := tile_cov h20 r.Pieces [] 0 (2 ^ d.toNat) (ok.tiles hk) (ok.free hk) (by rw [Int.zero_mul]; rfl)
  rw [List.nil_append] at t
  refine ⟨ok.bd.1, fun j hj => t.1 j (Nat.zero_le _) hj, t.2.trans ?_⟩
  rw [← Int.pow_add, show d.toNat + (20 - d).toNat = 20 by omega]; decide
theorem prove_check {s : S_Scene} {p q : List Int} {d : Int} {r : S_EdgeResult} (h0 : 0 ≤ d) (h20 : d ≤ 20) (ok : ProveOk s p q d r) (hk : r.Kind = 1) : (checkV s p q r.Pieces).2 = 0 := by
  rw [check_iff]
  exact ⟨ok.ready (by omega), prove_cov h0 h20 ok hk, fun j hj => (ok.free hk _ (getD_mem hj)).2.2⟩
open Go.Proofs
theorem awake21 : law21_awake_C.o = some true := by kernel_rfl
section
variable {J : S_Piece → S_Piece → Option S_Piece}
def RedS (J : S_Piece → S_Piece → Option S_Piece) : List S_Piece → Prop
  | [] => True
  | x :: rs => (match rs with | [] => True | a :: _ => J a x = none) ∧ RedS J rs
theorem push_red : ∀ (rs : List S_Piece) (x : S_Piece), RedS J rs → RedS J (pushR J rs x)
  | [], x, _ => ⟨trivial, trivial⟩
  | a :: rs, x, h => by
    simp only [pushR]
    cases hj : J a x with
    | some w => exact push_red rs w h.2
    | none => exact ⟨hj, h⟩
theorem push_len : ∀ (rs : List S_Piece) (x : S_Piece), (pushR J rs x).length ≤ rs.length + 1
  | [], x => by simp [pushR]
  | a :: rs, x => by
    simp only [pushR]
    cases hj : J a x with
    | some w => have := push_len rs w; simp; omega
    | none => simp
theorem fold_redS : ∀ (l rs : List S_Piece), RedS J rs → RedS J (l.foldl (pushR J) rs)
  | [], _, h => h
  | x :: l, rs, h => fold_redS l _ (push_red rs x h)
theorem fold_len : ∀ (l rs : List S_Piece), (l.foldl (pushR J) rs).length ≤ rs.length + l.length
  | [], _ => by simp
  | x :: l, rs => by
    have := fold_len l (pushR J rs x)
    have := push_len (J := J) rs x
    simp only [List.foldl_cons, List.length_cons]; omega
theorem fold_self : ∀ (rs : List S_Piece), RedS J rs → rs.reverse.foldl (pushR J) [] = rs
  | [], _ => rfl
  | x :: rs, h => by
    rw [List.reverse_cons, List.foldl_append, fold_self rs h.2]
    simp only [List.foldl_cons, List.foldl_nil]
    cases rs with
    | nil => rfl
    | cons a rs => simp only [pushR]; rw [h.1]
theorem merge_len (l : List S_Piece) : (mergeL J l).length ≤ l.length := by
  have := fold_len (J := J) l []
  unfold mergeL; simp at this ⊢; exact this
theorem merge_again (l : List S_Piece) : mergeL J (mergeL J l) = mergeL J l := by
  have h := fold_self _ (fold_redS (J := J) l [] trivial)
  unfold mergeL
  rw [h]
theorem fold_all {P : S_Piece → Prop} (hJ : ∀ a x w, J a x = some w → P a → P x → P w) : ∀ (l rs : List S_Piece), (∀ x ∈ rs, P x) → (∀ x ∈ l, P x) → ∀ x ∈ l.foldl (pushR J) rs, P x := by
  have push : ∀ (rs : List S_Piece) (x : S_Piece), (∀ y ∈ rs, P y) → P x → ∀ y ∈ pushR J rs x, P y := by
    intro rs
    induction rs with
    | nil => intro x _ hx y hy; simp [pushR] at hy; subst hy; exact hx
    | cons a rs ih =>
      intro x h hx
      simp only [pushR]
      cases hj : J a x with
      | some w => exact ih w (fun y hy => h y (by simp [hy])) (hJ a x w hj (h a (by simp)) hx)
      | none =>
        intro y hy
        rcases List.mem_cons.1 hy with rfl | hy
        · exact hx
        · exact h y hy
  intro l
  induction l with
  | nil => intro rs h _; exact h
  | cons x l ih => intro rs h hl; exact ih _ (push rs x h (hl x (by simp))) (fun y hy => hl y (by simp [hy]))
end
def TlB : Int → List S_Piece → Int → Prop
  | a, [], b => a = b
  | a, x :: l, b => ∃ n, begV x = some (a, n) ∧ TlB (a + n) l b
theorem TlB.app : ∀ {l m : List S_Piece} {a b c : Int}, TlB a l b → TlB b m c → TlB a (l ++ m) c
  | [], _, _, _, _, h, k => by have h : _ = _ := h; subst h; exact k
  | _ :: _, _, _, _, _, ⟨n, h1, h2⟩, k => ⟨n, h1, TlB.app h2 k⟩
theorem TlB.split : ∀ {l m : List S_Piece} {a c : Int}, TlB a (l ++ m) c → ∃ b, TlB a l b ∧ TlB b m c
  | [], _, a, _, h => ⟨a, rfl, h⟩
  | _ :: _, _, _, _, ⟨n, h1, h2⟩ => by
    obtain ⟨b, h3, h4⟩ := TlB.split h2
    exact ⟨b, ⟨n, h1, h3⟩, h4⟩
theorem TlB.snoc {l : List S_Piece} {x : S_Piece} {a c : Int} (h : TlB a (l ++ [x]) c) : ∃ f n, TlB a l f ∧ begV x = some (f, n) ∧ c = f + n := by
  obtain ⟨b, h1, n, h2, h3⟩ := h.split
  have h3 : b + n = c := h3
  exact ⟨b, n, h1, h2, h3.symm⟩
theorem tlb_plc : ∀ (l pre : List S_Piece) (a b : Int), plc (pre ++ l) pre.length = a →
    (TlB a l b ↔ (∀ j, pre.length ≤ j → j < (pre ++ l).length → badT (pre ++ l) j = false) ∧ plc (pre ++ l) (pre ++ l).length = b)
  | [], pre, a, b, hp => by
    rw [List.append_nil] at hp ⊢
    exact ⟨fun h => ⟨fun j h1 h2 => by omega, hp.trans h⟩, fun h => hp.symm.trans h.2⟩
  | x :: l, pre, a, b, hp => by
    have e1 : pre ++ x :: l = (pre ++ [x]) ++ l := by simp
    have hg : (pre ++ x :: l).getD pre.length default = x := by simp [List.getD_eq_getElem?_getD]
    have l1 : (pre ++ [x]).length = pre.length + 1 := by simp
    constructor
    · rintro ⟨n, h1, h2⟩
      have hb : begV ((pre ++ x :: l).getD pre.length default) = some (a, n) := by rw [hg]; exact h1
      have hs := plc_succ hb
      have ih := (tlb_plc l (pre ++ [x]) (a + n) b (by rw [← e1, l1, hs])).1 h2
      rw [← e1] at ih
      refine ⟨fun j h3 h4 => ?_, ih.2⟩
      by_cases ej : j = pre.length
      · subst ej; unfold badT; rw [hb, hp]; simp
      · exact ih.1 j (by omega) h4
    · rintro ⟨h1, h2⟩
      obtain ⟨n, b1, b2⟩ := badT_no (h1 pre.length (Nat.le_refl _) (by simp))
      rw [hg, hp] at b1
      refine ⟨n, b1, (tlb_plc l (pre ++ [x]) (a + n) b (by rw [← e1, l1, b2, hp])).2 ?_⟩
      rw [← e1]
      exact ⟨fun j h3 h4 => h1 j (by omega) h4, h2⟩
theorem cov_tlb {l : List S_Piece} : CovOk l ↔ l.length ≤ 4096 ∧ TlB 0 l 1048576 := by
  have h := tlb_plc l [] 0 1048576 rfl
  rw [List.nil_append] at h
  rw [h]
  exact ⟨fun ⟨h1, h2, h3⟩ => ⟨h1, fun j _ hj => h2 j hj, h3⟩, fun ⟨h1, h2, h3⟩ => ⟨h1, fun j hj => h2 j (Nat.zero_le _) hj, h3⟩⟩
def FreeP (s : S_Scene) (p q : List Int) (x : S_Piece) : Prop := freeV s (pieceV p q x.Depth x.Index).1 x.Normals = true
theorem check_tlb {s : S_Scene} {p q : List Int} {l : List S_Piece} : (checkV s p q l).2 = 0 ↔ (sceneV s = 0 ∧ insideV s.Robot p = true ∧ insideV s.Robot q = true) ∧ l.length ≤ 4096 ∧ TlB 0 l 1048576 ∧ ∀ x ∈ l, FreeP s p q x := by
  rw [check_iff, cov_tlb]
  constructor
  · rintro ⟨h1, ⟨h2, h3⟩, h4⟩
    refine ⟨h1, h2, h3, fun x hx => ?_⟩
    obtain ⟨i, hi, rfl⟩ := List.getElem_of_mem hx
    have := h4 i hi
    rw [getD_lt hi] at this
    exact this
  · rintro ⟨h1, h2, h3, h4⟩
    exact ⟨h1, ⟨h2, h3⟩, fun j hj => h4 _ (getD_mem hj)⟩
section
variable {s : S_Scene} {p q : List Int}
theorem join_free {a b w : S_Piece} (h : joinV s p q a b = some w) : FreeP s p q w := by
  unfold joinV at h
  split at h
  · cases h
  · split at h
    · cases h
    · split at h
      · rename_i hf; cases h; exact hf
      · split at h
        · rename_i hf; cases h; exact hf
        · cases h
theorem join_beg {a b w : S_Piece} (h : joinV s p q a b = some w) {f n m : Int} (ha : begV a = some (f, n)) (hb : begV b = some (f + n, m)) : begV w = some (f, n + m) := by
  obtain ⟨a0, a1, a2⟩ := beg_range ha
  obtain ⟨b0, b1, b2⟩ := beg_range hb
  simp only [Prod.mk.injEq] at a2 b2
  have hw : a.Depth = b.Depth ∧ 0 < a.Depth ∧ a.Index.tmod 2 = 0 ∧ w.Depth = IntKind.i64.wrap (a.Depth - 1) ∧ w.Index = IntKind.i64.wrap (a.Index.tdiv 2) := by
    unfold joinV at h
    split at h
    · cases h
    · rename_i hc
      have hc1 : a.Depth = b.Depth ∧ 0 < a.Depth ∧ a.Index.tmod 2 = 0 := by
        refine ⟨?_, ?_, ?_⟩
        · by_cases e : a.Depth = b.Depth
          · exact e
          · exact absurd (.inl e) hc
        · by_cases e : a.Depth ≤ 0
          · exact absurd (.inr (.inl e)) hc
          · omega
        · by_cases e : a.Index.tmod 2 = 0
          · exact e
          · exact absurd (.inr (.inr (.inl e))) hc
      refine ⟨hc1.1, hc1.2.1, hc1.2.2, ?_⟩
      split at h
      · cases h
      · split at h
        · cases h; exact ⟨rfl, rfl⟩
        · split at h
          · cases h; exact ⟨rfl, rfl⟩
          · cases h
  obtain ⟨h1, h2, h3, h4, h5⟩ := hw
  have pw := pow9 a0.1 a0.2
  rw [tmod_pos a1.1] at h3
  rw [tdiv_pos a1.1, w64 (by omega) (by omega)] at h5
  rw [w64 (by omega) (by omega)] at h4
  have p2 : (2 : Int) ^ a.Depth.toNat = 2 * 2 ^ (a.Depth - 1).toNat := by rw [show a.Depth.toNat = (a.Depth - 1).toNat + 1 by omega, Int.pow_succ]; omega
  have p3 : (2 : Int) ^ (20 - (a.Depth - 1).toNat) = 2 * 2 ^ (20 - a.Depth.toNat) := by rw [show 20 - (a.Depth - 1).toNat = (20 - a.Depth.toNat) + 1 by omega, Int.pow_succ]; omega
  unfold begV
  rw [h4, h5, if_pos ⟨by omega, by omega, by omega⟩, p3, a2.1, a2.2, b2.2, ← h1]
  have e : a.Index / 2 * (2 * 2 ^ (20 - a.Depth.toNat)) = a.Index * 2 ^ (20 - a.Depth.toNat) := by
    rw [← Int.mul_assoc, show a.Index / 2 * 2 = a.Index by omega]
  rw [e]
  congr 2; omega
theorem push_tlb : ∀ (rs : List S_Piece) (x : S_Piece) (f n : Int), TlB 0 rs.reverse f → begV x = some (f, n) → TlB 0 (pushR (joinV s p q) rs x).reverse (f + n)
  | [], x, f, n, h, hx => by
    have h : (0 : Int) = f := h
    subst h
    exact ⟨n, hx, rfl⟩
  | a :: rs, x, f, n, h, hx => by
    simp only [pushR]
    rw [List.reverse_cons] at h
    obtain ⟨fa, na, h1, h2, h3⟩ := h.snoc
    subst h3
    cases hj : joinV s p q a x with
    | some w =>
      have := push_tlb rs w fa (na + n) h1 (join_beg hj h2 hx)
      rw [← Int.add_assoc] at this
      exact this
    | none =>
      rw [List.reverse_cons, List.reverse_cons]
      exact h.app ⟨n, hx, rfl⟩
theorem fold_tlb : ∀ (l rs : List S_Piece) (f b : Int), TlB 0 rs.reverse f → TlB f l b → TlB 0 (l.foldl (pushR (joinV s p q)) rs).reverse b
  | [], rs, f, b, h, hl => by have hl : f = b := hl; subst hl; exact h
  | x :: l, rs, f, b, h, ⟨n, h1, h2⟩ => fold_tlb l _ (f + n) b (push_tlb rs x f n h h1) h2
theorem merge_check {l : List S_Piece} (h : (checkV s p q l).2 = 0) : (checkV s p q (mergeL (joinV s p q) l)).2 = 0 := by
  rw [check_tlb] at h ⊢
  obtain ⟨h1, h2, h3, h4⟩ := h
  refine ⟨h1, Nat.le_trans (merge_len l) h2, fold_tlb l [] 0 1048576 rfl h3, fun x hx => ?_⟩
  unfold mergeL at hx
  rw [List.mem_reverse] at hx
  exact fold_all (P := FreeP s p q) (fun a x w hw _ _ => join_free hw) l [] (fun x hx => by cases hx) h4 x hx
end
open Go.Proofs
theorem law21_motion_y (l m n : List Int) (d : Int) (hl : l.length < 4294967296) (hm : m.length < 4294967296) (hn : n.length < 4294967296) : ∃ y, (law21_motion_C l m n d).o = some y ∧ MO19 y := by
  have e0 : (law21_motion_C l m n d).o = (law21_motion_T l m n d).run NN := rfl
  rw [e0]
  obtain ⟨s, es, s1, s2, s3⟩ := make_Scene_x l hl
  obtain ⟨p, ep, lp⟩ := make_Config_x s.Robot m hm s2 s3
  obtain ⟨q, eq, lq⟩ := make_Config_x s.Robot n hn s2 s3
  simp only [law21_motion_T, T.run]
  rw [es, Option.bind_some, ep, Option.bind_some, eq, Option.bind_some]
  have fin : ∀ q' : List Int, q'.length ≤ 3 → ∃ y, ((make_Round_C (d.fdiv (2 ^ min (Int.toNat 4) 64)) 6).o.bind fun y70 => some (s, p, q', y70)) = some y ∧ MO19 y := by
    intro q' hq'
    rw [make_Round_e (by decide) (by decide), Option.bind_some]
    exact ⟨_, rfl, by simp only; omega, by simp only; omega, hq'⟩
  cases IntKind.i64.wrap (((BitVec.ofInt 64 d &&& BitVec.ofInt 64 8).toNat : Nat) : Int) == 8
  · exact fin q (by omega)
  · simp only [cond_true]
    have hq : ∃ q' : List Int, (andK (iter (fun (x64 : List Int × Int) => (bif decide (x64.2 < ((x64.1.length : Nat) : Int)) then grd (0 ≤ x64.2 ∧ x64.2 < ((p.length : Nat) : Int)) (grd ((x64.2).toNat < p.length) (grd (0 ≤ x64.2 ∧ x64.2 < ((x64.1.length : Nat) : Int)) (grd ((x64.2).toNat < x64.1.length) (grd (0 ≤ x64.2 ∧ x64.2 < ((p.length : Nat) : Int)) (grd ((x64.2).toNat < p.length)
        (grd (0 ≤ x64.2 ∧ x64.2 < ((x64.1.length : Nat) : Int)) (grd ((x64.2).toNat < x64.1.length ∧ 0 ≤ (x64.2).toNat) (some (.next ((x64.1.set ((x64.2).toNat) (IntKind.i64.wrap ((p.getD ((x64.2).toNat) default) + IntKind.i64.wrap ((IntKind.i64.wrap ((x64.1.getD ((x64.2).toNat) default) - (p.getD ((x64.2).toNat) default))).tdiv 16)))), (IntKind.i64.wrap (x64.2 + 1)))))))))))) else some (.out x64.1) : Option (Step3 (List Int × Int) (List Int) (Step3 Unit (List Int) (S_Scene × List Int × List Int × Int))))) NN (q, 0)) fun y67 => some (.out y67)) = some (.out q') ∧ q'.length ≤ 3 := by
      refine loop_cnt (g := fun b => Step3.out b) q.length (by omega) (fun j (y : List Int × Int) => y.1.length = q.length ∧ y.2 = (j : Int)) (fun (w : List Int) => w.length ≤ 3) ⟨rfl, rfl⟩ (fun j y hj hy => ?_) (fun y hy => ?_) (fun z hz => ⟨_, rfl, hz⟩)
      · obtain ⟨g1, g2⟩ := hy
        rw [g2, bif_dpos (by omega), grd_p ⟨by omega, by omega⟩, Int.toNat_natCast, grd_p (by omega), grd_p ⟨by omega, by omega⟩, grd_p (by omega), grd_p ⟨by omega, by omega⟩, grd_p (by omega), grd_p ⟨by omega, by omega⟩, grd_p ⟨by omega, by omega⟩, wn (by omega)]
        exact ⟨_, rfl, by simp only [List.length_set]; exact g1, rfl⟩
      · obtain ⟨g1, g2⟩ := hy
        rw [g2, bif_dneg (by omega)]; exact ⟨_, rfl, by omega⟩
    obtain ⟨q', e1, e2⟩ := hq
    rw [e1, andC_out]
    exact fin q' e2
def lo2 (x : S_Piece) : S_Piece := ⟨IntKind.i64.wrap (x.Depth + 1), IntKind.i64.wrap (2 * x.Index), x.Normals⟩
def hi2 (x : S_Piece) : S_Piece := ⟨IntKind.i64.wrap (x.Depth + 1), IntKind.i64.wrap (IntKind.i64.wrap (2 * x.Index) + 1), x.Normals⟩
def fineV : List S_Piece → List S_Piece
  | [] => []
  | x :: l => lo2 x :: hi2 x :: fineV l
theorem fine_snoc (l : List S_Piece) (x : S_Piece) : fineV (l ++ [x]) = fineV l ++ [lo2 x, hi2 x] := by
  induction l with
  | nil => rfl
  | cons y l ih => simp only [List.cons_append, fineV, ih]
theorem fine_len (l : List S_Piece) : (fineV l).length = 2 * l.length := by
  induction l with
  | nil => rfl
  | cons y l ih => simp only [fineV, List.length_cons, ih]; omega
theorem fine_mem {l : List S_Piece} {y : S_Piece} (h : y ∈ fineV l) : ∃ x ∈ l, y = lo2 x ∨ y = hi2 x := by
  induction l with
  | nil => cases h
  | cons x l ih =>
    simp only [fineV, List.mem_cons] at h
    rcases h with h | h | h
    · exact ⟨x, by simp, .inl h⟩
    · exact ⟨x, by simp, .inr h⟩
    · obtain ⟨z, hz, h⟩ := ih h
      exact ⟨z, by simp [hz], h⟩
theorem law21_fine_e (l : List S_Piece) (hl : l.length ≤ 4096) : (law21_fine_C l).o = some (fineV l) := by
  show (law21_fine_T l).run NN = _
  simp only [law21_fine_T, T.run]
  refine (loop_to (fun j => (fineV (l.take j), (j : Int))) (fineV (l.take l.length)) l.length rfl (show l.length < 4294967296 by omega) (fun j hj => ?_) ?_).trans ?_
  · have fl := fine_len (l.take j)
    have tl : (l.take j).length = j := by simp; omega
    have hj' : 0 ≤ (j : Int) ∧ (j : Int) < (l.length : Int) := by omega
    rw [bif_dpos (by simpa using hj)]
    simp only [Int.toNat_natCast, grd_p hj']
    rw [grd_p ⟨by simp only [List.length_cons, List.length_nil]; omega, by simp only [List.length_cons, List.length_nil, maxLen_eq]; omega⟩, wn (by omega), take_snoc hj, fine_snoc]; rfl
  · rw [bif_dneg (by simp)]
  · rw [List.take_length]
section
variable {s : S_Scene} {p q : List Int}
theorem half_in {d : Nat} {i : Int} {k : Nat} : ((pieceI p q d i k).Lo ≤ (pieceI p q (d + 1) (2 * i) k).Lo ∧ (pieceI p q (d + 1) (2 * i) k).Hi ≤ (pieceI p q d i k).Hi) ∧ ((pieceI p q d i k).Lo ≤ (pieceI p q (d + 1) (2 * i + 1) k).Lo ∧ (pieceI p q (d + 1) (2 * i + 1) k).Hi ≤ (pieceI p q d i k).Hi) := by
  unfold pieceI
  generalize q.getD k default - p.getD k default = D
  have hF := two_pow_pos d
  have hE := two_pow_pos (d + 1)
  have e : (2 : Int) ^ (d + 1) = 2 ^ d * 2 := Int.pow_succ 2 d
  have e1 : 2 * i * D = 2 * (i * D) := Int.mul_assoc _ _ _
  have e2 : (2 * i + 1) * D = 2 * (i * D) + D := by rw [Int.add_mul, Int.one_mul, e1]
  have e3 : (2 * i + 1 + 1) * D = 2 * (i * D) + 2 * D := by rw [Int.add_mul, Int.one_mul, e2]; omega
  have e4 : (i + 1) * D = i * D + D := by rw [Int.add_mul, Int.one_mul]
  rw [e1, e2, e3, e4]
  generalize i * D = t
  generalize hG : (2 : Int) ^ d = F at *
  have c1 : ∀ a b : Int, 2 * a ≤ b → a * 2 ^ (d + 1) ≤ b * F := fun a b h => by
    rw [e, show a * (F * 2) = 2 * a * F by rw [Int.mul_comm F 2, ← Int.mul_assoc, Int.mul_comm a 2]]
    exact Int.mul_le_mul_of_nonneg_right h (by omega)
  have c2 : ∀ a b : Int, b ≤ 2 * a → b * F ≤ a * 2 ^ (d + 1) := fun a b h => by
    rw [e, show a * (F * 2) = 2 * a * F by rw [Int.mul_comm F 2, ← Int.mul_assoc, Int.mul_comm a 2]]
    exact Int.mul_le_mul_of_nonneg_right h (by omega)
  have ceil2 : ∀ a b : Int, b ≤ 2 * a → cdiv b (2 ^ (d + 1)) ≤ cdiv a F := fun a b h => by
    have := floor_cross (a := -a) (b := -b) (E := 2 ^ (d + 1)) (F := F) (by omega) (by omega) (by rw [Int.neg_mul, Int.neg_mul]; have := c2 a b h; omega)
    unfold cdiv; omega
  have l1 := floor_cross (a := min t (t + D)) (b := min (2 * t) (2 * t + D)) (E := 2 ^ (d + 1)) (F := F) (by omega) (by omega) (c1 _ _ (by omega))
  have l2 := floor_cross (a := min t (t + D)) (b := min (2 * t + D) (2 * t + 2 * D)) (E := 2 ^ (d + 1)) (F := F) (by omega) (by omega) (c1 _ _ (by omega))
  have u1 := ceil2 (max t (t + D)) (max (2 * t) (2 * t + D)) (by omega)
  have u2 := ceil2 (max t (t + D)) (max (2 * t + D) (2 * t + 2 * D)) (by omega)
  refine ⟨⟨by simp only; omega, by simp only; omega⟩, ⟨by simp only; omega, by simp only; omega⟩⟩
theorem piece_lohi {d : Nat} {i : Int} {k : Nat} : (pieceI p q d i k).Lo ≤ (pieceI p q d i k).Hi := by
  unfold pieceI
  generalize q.getD k default - p.getD k default = D
  have := floor_le_ceil (a := min (i * D) ((i + 1) * D)) (b := max (i * D) ((i + 1) * D)) (c := 2 ^ d) (by omega) (two_pow_pos d)
  simp only; omega
theorem half_ok {x : S_Piece} (h0 : 0 ≤ x.Depth ∧ x.Depth < 20) (h1 : 0 ≤ x.Index ∧ x.Index < 2 ^ x.Depth.toNat) : lo2 x = ⟨x.Depth + 1, 2 * x.Index, x.Normals⟩ ∧ hi2 x = ⟨x.Depth + 1, 2 * x.Index + 1, x.Normals⟩ ∧ (2 : Int) ^ (x.Depth + 1).toNat = 2 * 2 ^ x.Depth.toNat := by
  have pw := pow9 h0.1 (by omega)
  unfold lo2 hi2
  rw [w64 (x := x.Depth + 1) (by omega) (by omega), w64 (x := 2 * x.Index) (by omega) (by omega), w64 (by omega) (by omega)]
  refine ⟨rfl, rfl, ?_⟩
  rw [show (x.Depth + 1).toNat = x.Depth.toNat + 1 by omega, Int.pow_succ]; omega
theorem half_free (hp : insideV s.Robot p = true) (hq : insideV s.Robot q = true) {x : S_Piece} (h0 : 0 ≤ x.Depth ∧ x.Depth < 20) (h1 : 0 ≤ x.Index ∧ x.Index < 2 ^ x.Depth.toNat) (hf : FreeP s p q x) : FreeP s p q (lo2 x) ∧ FreeP s p q (hi2 x) := by
  obtain ⟨e1, e2, e3⟩ := half_ok h0 h1
  have a := inside_ok hp
  have hb := (free_iff.1 hf).2.1
  have ep : (pieceV p q x.Depth x.Index).1 = tab (pieceI p q x.Depth.toNat x.Index) p.length := by unfold pieceV; rw [if_pos ⟨motion_ok hp hq h0.1 (by omega), h1⟩]
  have key : ∀ i : Int, (0 ≤ i ∧ i < 2 ^ (x.Depth + 1).toNat) → (∀ k, k < p.length → (pieceI p q x.Depth.toNat x.Index k).Lo ≤ (pieceI p q (x.Depth.toNat + 1) i k).Lo ∧ (pieceI p q (x.Depth.toNat + 1) i k).Hi ≤ (pieceI p q x.Depth.toNat x.Index k).Hi) → freeV s (pieceV p q (x.Depth + 1) i).1 x.Normals = true := by
    intro i hi hk
    have eq : (pieceV p q (x.Depth + 1) i).1 = tab (pieceI p q (x.Depth.toNat + 1) i) p.length := by
      unfold pieceV; rw [if_pos ⟨motion_ok hp hq (by omega) (by omega), hi⟩, show (x.Depth + 1).toNat = x.Depth.toNat + 1 by omega]
    have hb2 : boxV s.Robot (pieceV p q (x.Depth + 1) i).1 = true := by
      rw [eq]
      simp only [boxV, Bool.and_eq_true, decide_eq_true_eq, tab_len]
      refine ⟨a.2.1, noneB_iff.2 fun k hk' => ?_⟩
      have v := box_get hb (i := k) (by omega)
      rw [ep, tab_get' hk'] at v
      have v := vV_iff.1 v
      have h2 := hk k hk'
      have h3 := piece_lohi (p := p) (q := q) (d := x.Depth.toNat + 1) (i := i) (k := k)
      have : vV (pieceI p q (x.Depth.toNat + 1) i k) = true := vV_iff.2 (by omega)
      unfold notV
      rw [tab_get' hk', this]; rfl
    refine free_mono hb2 (SBx.of hb2 hb fun k hk' => ?_) hf
    rw [eq, ep, tab_get' (by omega), tab_get' (by omega)]
    exact hk k (by omega)
  unfold FreeP
  rw [e1, e2]
  exact ⟨key (2 * x.Index) (by omega) (fun k _ => half_in.1), key (2 * x.Index + 1) (by omega) (fun k _ => half_in.2)⟩
def GoodP (s : S_Scene) (p q : List Int) (x : S_Piece) : Prop := (0 ≤ x.Depth ∧ x.Depth < 20) ∧ (0 ≤ x.Index ∧ x.Index < 2 ^ x.Depth.toNat) ∧ FreeP s p q x
theorem join_halves (hp : insideV s.Robot p = true) (hq : insideV s.Robot q = true) {x : S_Piece} (h : GoodP s p q x) : joinV s p q (lo2 x) (hi2 x) = some x := by
  obtain ⟨h0, h1, hf⟩ := h
  obtain ⟨e1, e2, e3⟩ := half_ok h0 h1
  have pw := pow9 h0.1 (by omega)
  rw [e1, e2]
  unfold joinV
  simp only
  have t1 : (2 * x.Index).tmod 2 = 0 := by rw [tmod_pos (by omega)]; omega
  have t2 : (2 * x.Index).tdiv 2 = x.Index := by rw [tdiv_pos (by omega)]; omega
  rw [t1, t2, w64 (x := x.Depth + 1 - 1) (by omega) (by omega), w64 (x := x.Index) (by omega) (by omega), w64 (x := 2 * x.Index + 1) (by omega) (by omega), show x.Depth + 1 - 1 = x.Depth by omega]
  have hm : (pieceV p q x.Depth x.Index).2 = true := by unfold pieceV; rw [if_pos ⟨motion_ok hp hq h0.1 (by omega), h1⟩]
  rw [if_neg (by simp; omega), if_neg (by rw [hm]; decide), if_pos (show freeV s (pieceV p q x.Depth x.Index).1 x.Normals = true from hf)]
theorem join_even {a x : S_Piece} (h0 : 0 ≤ x.Depth ∧ x.Depth < 20) (h1 : 0 ≤ x.Index ∧ x.Index < 2 ^ x.Depth.toNat) (ha : InR a.Index) : joinV s p q a (lo2 x) = none := by
  obtain ⟨e1, e2, e3⟩ := half_ok h0 h1
  have pw := pow9 h0.1 (by omega)
  rw [e1]
  unfold joinV
  simp only
  refine if_pos ?_
  by_cases c : a.Index.tmod 2 = 0
  · refine .inr (.inr (.inr fun h => ?_))
    have e := Int.mul_tdiv_add_tmod a.Index 2
    have hw := wr (a.Index + 1)
    obtain ⟨r1, r2⟩ := ha
    rw [← h] at hw
    omega
  · exact .inr (.inr (.inl c))
theorem fold_fine (hp : insideV s.Robot p = true) (hq : insideV s.Robot q = true) : ∀ (l rs : List S_Piece), (∀ x ∈ l, GoodP s p q x) → (∀ x ∈ rs, InR x.Index) → (fineV l).foldl (pushR (joinV s p q)) rs = l.foldl (pushR (joinV s p q)) rs
  | [], _, _, _ => rfl
  | x :: l, rs, h, hr => by
    have gx := h x (by simp)
    have s1 : pushR (joinV s p q) rs (lo2 x) = lo2 x :: rs := by
      cases rs with
      | nil => rfl
      | cons a rs => simp only [pushR]; rw [join_even gx.1 gx.2.1 (hr a (by simp))]
    have s2 : pushR (joinV s p q) (lo2 x :: rs) (hi2 x) = pushR (joinV s p q) rs x := by
      simp only [pushR]; rw [join_halves hp hq gx]
    simp only [fineV, List.foldl_cons]
    rw [s1, s2]
    have pw := pow9 gx.1.1 (by have := gx.1.2; omega)
    refine fold_fine hp hq l _ (fun y hy => h y (by simp [hy])) ?_
    have := fold_all (J := joinV s p q) (P := fun y => InR y.Index) (fun a b w hw _ _ => ?_) [x] rs hr (fun y hy => by
      simp at hy; subst hy
      have := gx.2.1
      exact ⟨by omega, by omega⟩)
    · exact this
    · unfold joinV at hw
      split at hw
      · cases hw
      · split at hw
        · cases hw
        · split at hw
          · cases hw; exact InR.wr _
          · split at hw
            · cases hw; exact InR.wr _
            · cases hw
theorem fine_tlb : ∀ (l : List S_Piece) (a b : Int), (∀ x ∈ l, GoodP s p q x) → TlB a l b → TlB a (fineV l) b
  | [], _, _, _, h => h
  | x :: l, a, b, hx, ⟨n, h1, h2⟩ => by
    obtain ⟨g0, g1, -⟩ := hx x (by simp)
    obtain ⟨e1, e2, e3⟩ := half_ok g0 g1
    obtain ⟨-, -, r2⟩ := beg_range h1
    simp only [Prod.mk.injEq] at r2
    have p3 : (2 : Int) ^ (20 - x.Depth.toNat) = 2 * 2 ^ (20 - (x.Depth + 1).toNat) := by rw [show 20 - x.Depth.toNat = (20 - (x.Depth + 1).toNat) + 1 by omega, Int.pow_succ]; omega
    have b1 : begV (lo2 x) = some (a, 2 ^ (20 - (x.Depth + 1).toNat)) := by
      rw [e1]; unfold begV; simp only
      rw [if_pos ⟨by omega, by omega, by omega⟩, r2.1, p3, ← Int.mul_assoc, Int.mul_comm x.Index 2]
    have b2 : begV (hi2 x) = some (a + 2 ^ (20 - (x.Depth + 1).toNat), 2 ^ (20 - (x.Depth + 1).toNat)) := by
      rw [e2]; unfold begV; simp only
      rw [if_pos ⟨by omega, by omega, by omega⟩, r2.1, p3, ← Int.mul_assoc, Int.mul_comm x.Index 2, Int.add_mul, Int.one_mul]
    refine ⟨_, b1, _, b2, ?_⟩
    have e4 : a + 2 ^ (20 - (x.Depth + 1).toNat) + 2 ^ (20 - (x.Depth + 1).toNat) = a + n := by rw [r2.2, p3]; omega
    rw [e4]
    exact fine_tlb l _ _ (fun y hy => hx y (by simp [hy])) h2
end
theorem prove_good {s : S_Scene} {p q : List Int} {d : Int} {r : S_EdgeResult} (h1 : d < 6) (ok : ProveOk s p q d r) (hk : r.Kind = 1) : ∀ x ∈ r.Pieces, GoodP s p q x := fun x hx => by
  obtain ⟨⟨y0, y1⟩, y2, yf⟩ := ok.free hk x hx
  exact ⟨⟨y0, by omega⟩, y2, yf⟩
theorem pieces_64 {d : Int} {np : Nat} : ∀ {l : List S_Piece} {e e' : Int}, TileF d np e l e' → e + l.length ≤ e'
  | [], e, e', h => by have h : e = e' := h; simp; omega
  | x :: l, e, e', h => by
    have := pieces_64 h.2
    have := two_pow_pos (d - x.Depth).toNat
    simp only [List.length_cons]; omega
theorem compactUndoes_true (l m n : List Int) (depth : Int) (hl : l.length < 4294967296) (hm : m.length < 4294967296) (hn : n.length < 4294967296) : (law21_CompactUndoes_C l m n depth).o = some true := by
  suffices h : ∃ r, (law21_CompactUndoes_C l m n depth).o = some r ∧ r = true by
    obtain ⟨r, h1, rfl⟩ := h; exact h1
  show ∃ r, (law21_CompactUndoes_T l m n depth).run NN = some r ∧ r = true
  obtain ⟨⟨s, p, q, d⟩, e1, ⟨d0, d1⟩, lp, lq⟩ := law21_motion_y l m n depth hl hm hn
  simp only at d0 d1 lp lq
  obtain ⟨r, e2, ok⟩ := prove_all s p q (by omega) (by omega) (d := d) d0 (by omega)
  simp only [law21_CompactUndoes_T, T.run, e1, Option.bind_some, e2, awake21, cond_true]
  by_cases c : r.Kind = 1
  · have rd := ok.ready (by omega)
    have good := prove_good d1 ok c
    have ch := check_tlb.1 (prove_check d0 (by omega) ok c)
    have l64 := pieces_64 (ok.tiles c)
    have p6 := pow9 (k := d) d0 (by omega)
    have pd : (2 : Int) ^ d.toNat ≤ 32 := by
      have : (2 : Int) ^ d.toNat ≤ 2 ^ 5 := by exact_mod_cast Nat.pow_le_pow_right (by decide : 0 < 2) (show d.toNat ≤ 5 by omega)
      have e : (2 : Int) ^ 5 = 32 := by decide
      omega
    have fl := fine_len r.Pieces
    have fc : (checkV s p q (fineV r.Pieces)).2 = 0 := by
      rw [check_tlb]
      refine ⟨rd, by omega, fine_tlb (s := s) (p := p) (q := q) r.Pieces 0 1048576 good ch.2.2.1, fun y hy => ?_⟩
      obtain ⟨x, hx, hy⟩ := fine_mem hy
      have hh := half_free rd.2.1 rd.2.2 (good x hx).1 (good x hx).2.1 (good x hx).2.2
      rcases hy with rfl | rfl
      · exact hh.1
      · exact hh.2
    have fn : ∀ x ∈ fineV r.Pieces, x.Normals.length < 4294967296 := fun y hy => by
      obtain ⟨x, hx, hy⟩ := fine_mem hy
      have := ok.bd.2 x hx
      rcases hy with rfl | rfl
      · show x.Normals.length < 4294967296; omega
      · show x.Normals.length < 4294967296; omega
    have em : mergeV s p q (fineV r.Pieces) = mergeL (joinV s p q) r.Pieces := by
      unfold mergeV
      rw [if_neg (fun h => h fc)]
      unfold mergeL
      rw [fold_fine rd.2.1 rd.2.2 r.Pieces [] good (fun x hx => by cases hx)]
    rw [bif_nne c, law21_fine_e r.Pieces ok.bd.1]
    simp only [Option.bind_some]
    rw [compact_Merge_e s (by omega) (by omega) (fineV r.Pieces) (by omega) fn]
    simp only [Option.bind_some, em]
    have ml := merge_len (J := joinV s p q) r.Pieces
    have m1 : 1 ≤ (mergeL (joinV s p q) r.Pieces).length := by
      have := (check_tlb.1 (merge_check (prove_check d0 (by omega) ok c))).2.2.1
      cases h : mergeL (joinV s p q) r.Pieces with
      | nil => rw [h] at this; have this : (0 : Int) = 1048576 := this; omega
      | cons _ _ => simp
    rw [bif_dpos (by omega), decide_eq_true (by omega)]
    exact ⟨_, rfl, rfl⟩
  · rw [bif_neq c]; exact ⟨_, rfl, rfl⟩
theorem compactKeeps_true (l m n : List Int) (depth : Int) (hl : l.length < 4294967296) (hm : m.length < 4294967296) (hn : n.length < 4294967296) : (law21_CompactKeeps_C l m n depth).o = some true := by
  suffices h : ∃ r, (law21_CompactKeeps_C l m n depth).o = some r ∧ r = true by
    obtain ⟨r, h1, rfl⟩ := h; exact h1
  show ∃ r, (law21_CompactKeeps_T l m n depth).run NN = some r ∧ r = true
  obtain ⟨⟨s, p, q, d⟩, e1, ⟨d0, d1⟩, lp, lq⟩ := law21_motion_y l m n depth hl hm hn
  simp only at d0 d1 lp lq
  obtain ⟨r, e2, ok⟩ := prove_all s p q (by omega) (by omega) (d := d) d0 (by omega)
  have es : (⟨s.Robot, s.Shapes, s.Skips⟩ : S_Scene) = s := rfl
  simp only [law21_CompactKeeps_T, T.run, e1, Option.bind_some, e2, awake21, cond_true, law21_fine_e r.Pieces ok.bd.1, es]
  have fl := fine_len r.Pieces
  have bl' := ok.bd.1
  have fn : ∀ x ∈ fineV r.Pieces, x.Normals.length < 4294967296 := fun y hy => by
    obtain ⟨x, hx, hy⟩ := fine_mem hy
    have := ok.bd.2 x hx
    rcases hy with rfl | rfl
    · show x.Normals.length < 4294967296; omega
    · show x.Normals.length < 4294967296; omega
  generalize fineV r.Pieces = y at fl fn ⊢
  rw [edgecheck_Check_e s p q y (by omega) (by omega), compact_Merge_e s (by omega) (by omega) y (by omega) fn]
  simp only [Option.bind_some]
  by_cases c : (checkV s p q y).2 = 0
  · have em : mergeV s p q y = mergeL (joinV s p q) y := by unfold mergeV; rw [if_neg (fun h => h c)]
    have mc := merge_check c
    have ml := merge_len (J := joinV s p q) y
    have zn : ∀ x ∈ mergeL (joinV s p q) y, x.Normals.length < 4294967296 := fun x hx => by
      have h1 := (check_tlb.1 mc).2.2.2 x hx
      have h2 := (free_iff.1 h1).2.2.1
      have := pairs_len s
      omega
    have ea : mergeV s p q (mergeL (joinV s p q) y) = mergeL (joinV s p q) y := by unfold mergeV; rw [if_neg (fun h => h mc)]; exact merge_again y
    rw [bif_nne c, em, edgecheck_Check_e s p q _ (by omega) (by omega)]
    simp only [Option.bind_some]
    rw [bif_eq mc, bif_dpos (by omega), compact_Merge_e s (by omega) (by omega) _ (by omega) zn]
    simp only [Option.bind_some, ea]
    rw [same_pieces _ (by omega) zn]
    exact ⟨_, rfl, rfl⟩
  · have em : mergeV s p q y = y := by unfold mergeV; rw [if_pos c]
    rw [bif_neq c, em, same_pieces y (by omega) fn]
    exact ⟨_, rfl, rfl⟩
end Go.Abs
