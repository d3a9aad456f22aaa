/-
  DL4 (a part of a claim: our own text).
-/
import Derived.Test.YtnehaejghnoigaaGreatXCDL2
import Derived.Test.YtnehaejghnoigaaGreatXCDL3
namespace Go.Abs
open Go.Proofs
theorem zzi {σ τ R : Type} {f g : σ → Option (Step3 σ τ R)} (I : σ → Prop) (h : ∀ x, I x → f x = g x ∧ ∀ y, g x = some (.next y) → I y) : ∀ (N : Nat) (x : σ), I x → iter f N x = iter g N x
  | 0, _, _ => rfl
  | N + 1, x, hx => by
    obtain ⟨h1, h2⟩ := h x hx
    simp only [iter, h1]
    cases hg : g x with
    | none => rfl
    | some s => cases s with
      | next y => exact zzi I h N y (h2 y hg)
      | out _ => rfl
      | fin _ => rfl
theorem Mzk {σ σ' τ τ' R R' : Type} {f : σ → Option (Step3 σ τ R)} {g : σ' → Option (Step3 σ' τ' R')} (S : σ → σ' → Prop) (T : τ → τ' → Prop) (U : R → R' → Prop)
    (h : ∀ x y, S x y → (∃ x' y', f x = some (.next x') ∧ g y = some (.next y') ∧ S x' y') ∨ (∃ a b, f x = some (.out a) ∧ g y = some (.out b) ∧ T a b) ∨ (∃ a b, f x = some (.fin a) ∧ g y = some (.fin b) ∧ U a b)) :
    ∀ (N : Nat) (x : σ) (y : σ'), S x y → (∀ b, iter g N y = some (.inl b) → ∃ a, iter f N x = some (.inl a) ∧ T a b) ∧ (∀ b, iter g N y = some (.inr b) → ∃ a, iter f N x = some (.inr a) ∧ U a b)
  | 0, _, _, _ => ⟨fun b h => by simp [iter] at h, fun b h => by simp [iter] at h⟩
  | N + 1, x, y, hs => by
    rcases h x y hs with ⟨x', y', e1, e2, e3⟩ | ⟨a, b, e1, e2, e3⟩ | ⟨a, b, e1, e2, e3⟩
    · have := Mzk S T U h N x' y' e3
      simp only [iter, e1, e2]; exact this
    · simp only [iter, e1, e2]
      exact ⟨(fun b' h' => by cases h'; exact ⟨a, rfl, e3⟩), (fun b' h' => by cases h')⟩
    · simp only [iter, e1, e2]
      exact ⟨(fun b' h' => by cases h'), (fun b' h' => by cases h'; exact ⟨a, rfl, e3⟩)⟩
theorem Tz2 (l : List V3) (w : List Int) (hw : w.length = l.length) (hl : l.length < 4294967296) : (uzn l w).o = (mz0 l w).o := by
  show (pz9 l w).run NN = (mz1 l w).run NN
  simp only [pz9, mz1, T.run, T.ix]
  refine congrArg (fun z => andK z _) (zzi (fun x => 0 ≤ x.2.2.2 ∧ x.2.2.2 ≤ (l.length : Int)) (fun x hx => ?_) NN _ ⟨by simp, by simp⟩)
  by_cases c : x.2.2.2 < (l.length : Int)
  · constructor
    · rw [az6 c, az6 c]
      have h1 : 0 ≤ x.2.2.2 ∧ x.2.2.2 < (l.length : Int) := ⟨hx.1, c⟩
      have h2 : 0 ≤ x.2.2.2 ∧ x.2.2.2 < (w.length : Int) := by omega
      have h3 : x.2.2.2.toNat < w.length := by omega
      simp only [az8 h1, az8 h2, az8 h3]
    · intro y hy
      have h1 : 0 ≤ x.2.2.2 ∧ x.2.2.2 < (l.length : Int) := ⟨hx.1, c⟩
      have h2 : 0 ≤ x.2.2.2 ∧ x.2.2.2 < (w.length : Int) := by omega
      rw [az6 c] at hy
      simp only [az8 h1, az8 h2, Option.some.injEq, Step3.next.injEq] at hy
      subst hy
      simp only
      rw [w64 (by omega) (by omega)]; omega
  · constructor
    · rw [az5 c, az5 c]
    · intro y hy; rw [az5 c] at hy; cases hy
theorem Izm (l : List V3) (w : List Int) (i t : Int) (hw : w.length < 4294967296) : (kzz l w i t).o = (hzo w t i).o := by
  show (hz1 l w i t).run NN = (hzp w t i).run NN
  simp only [hz1, hzp, T.run]
  rw [az8 (p := w.length * 8 ≤ 140737488355328 ∧ w.length ≤ maxLen) ⟨by omega, by rw [bz1]; omega⟩]
  refine congrArg (fun z => andK z _) (zzi (fun x => x.1.length = w.length) (fun x hx => ?_) NN _ rfl)
  constructor
  · rw [hx]
  · intro y hy
    cases hc : decide (x.2.2 < ((x.1.length : Nat) : Int)) with
    | false => rw [hc] at hy; cases hy
    | true =>
      rw [hc, cond_true] at hy
      have hc := of_decide_eq_true hc
      by_cases c : 0 ≤ x.2.2
      · have h1 : 0 ≤ x.2.2 ∧ x.2.2 < (x.1.length : Int) := ⟨c, hc⟩
        have h2 : x.2.2.toNat < x.1.length := by omega
        have h3 : x.2.2.toNat < x.1.length ∧ 0 ≤ x.2.2.toNat := ⟨h2, by omega⟩
        simp only [az8 h1, az8 h2, az8 h3, Option.some.injEq, Step3.next.injEq] at hy
        subst hy
        simp only [List.length_set]; exact hx
      · rw [show grd (0 ≤ x.2.2 ∧ x.2.2 < (x.1.length : Int)) _ = none from by unfold grd; rw [if_neg (fun h => c h.1)]] at hy; cases hy
theorem Ezn (a b : V3) : (hzq a b).o = some (bz7 a b) := rfl
theorem Azs (a b : V3) : (fz8 a b).o = some (mzk a b) := rfl
def clo (x : Int) : Int := cdiv (max x (IntKind.i64.wrap (0 - x))) 65536
def Uz1 (v : V3) (m : Int) : Bool := decide (IntKind.i64.wrap (IntKind.i64.wrap (IntKind.i64.wrap (0 + IntKind.i64.wrap (clo v.1 * clo v.1)) + IntKind.i64.wrap (clo v.2.1 * clo v.2.1)) + IntKind.i64.wrap (clo v.2.2 * clo v.2.2)) ≤ IntKind.i64.wrap (m * m))
theorem Jzk {v : V3} (h : inV v) (m : Int) : (nz4 v m).o = some (Uz1 v m) := by
  show (jzp v m).run NN = _
  simp only [jzp, T.run, T.ix, bz8 (h.1.max (InR.wr _)) (show (0 : Int) < 65536 by decide), bz8 (h.2.1.max (InR.wr _)) (show (0 : Int) < 65536 by decide), bz8 (h.2.2.max (InR.wr _)) (show (0 : Int) < 65536 by decide), Option.bind_some]
  rfl
theorem Ozv {v : V3} (h : inV v) (m : Int) : (izj v m).o = some (Uz1 v m) := by
  show (ez9 v m).run NN = _
  simp only [ez9, T.run]
  have su : ∀ x : Int, InR x → (azv (max x (IntKind.i64.wrap (0 - x))) 16).o = some (clo x) := fun x hx => su16 (hx.max (InR.wr _))
  refine (bzn (fun j => ((match j with | 0 => 0 | 1 => IntKind.i64.wrap (0 + IntKind.i64.wrap (clo v.1 * clo v.1)) | 2 => IntKind.i64.wrap (IntKind.i64.wrap (0 + IntKind.i64.wrap (clo v.1 * clo v.1)) + IntKind.i64.wrap (clo v.2.1 * clo v.2.1)) | _ => IntKind.i64.wrap (IntKind.i64.wrap (IntKind.i64.wrap (0 + IntKind.i64.wrap (clo v.1 * clo v.1)) + IntKind.i64.wrap (clo v.2.1 * clo v.2.1)) + IntKind.i64.wrap (clo v.2.2 * clo v.2.2)) : Int), (j : Int)))
    (IntKind.i64.wrap (IntKind.i64.wrap (IntKind.i64.wrap (0 + IntKind.i64.wrap (clo v.1 * clo v.1)) + IntKind.i64.wrap (clo v.2.1 * clo v.2.1)) + IntKind.i64.wrap (clo v.2.2 * clo v.2.2))) 3 rfl (by decide) (fun j hj => ?_) ?_).trans rfl
  · rw [az6 (by simp only; omega), az8 (by simp only; omega), Int.toNat_natCast, wn (by omega)]
    match j, hj with
    | 0, _ => rw [show ([v.1, v.2.1, v.2.2] : List Int).getD 0 0 = v.1 from rfl, su _ h.1]; rfl
    | 1, _ => rw [show ([v.1, v.2.1, v.2.2] : List Int).getD 1 0 = v.2.1 from rfl, su _ h.2.1]; rfl
    | 2, _ => rw [show ([v.1, v.2.1, v.2.2] : List Int).getD 2 0 = v.2.2 from rfl, su _ h.2.2]; rfl
  · rw [az5 (by simp only; omega)]; rfl
def Lz6 (a b : V3) : Int := if mzk a (bz7 a b) ≤ 0 then 0 else min 256 (IntKind.i64.wrap ((mzk a (bz7 a b)).tdiv (max 1 (IntKind.i64.wrap ((mzk (bz7 a b) (bz7 a b)).tdiv 256)))))
theorem Ezd (a b : V3) : (oz2 a b).o = some (Lz6 a b) := by
  show (fzv a b).run NN = _
  simp only [fzv, T.run, hz7, fzg, Option.bind_some, Lz6]
  by_cases c : mzk a (bz7 a b) ≤ 0
  · rw [az6 c, if_pos c]
  · rw [az5 c, if_neg c, az8 (by omega)]
open Go.Proofs
theorem yzz (a : Int) (k : Nat) : (a.tdiv (2 ^ k)).tdiv 2 = a.tdiv (2 ^ (k + 1)) := by
  have p := bzw k
  have key : ∀ a : Int, 0 ≤ a → (a.tdiv (2 ^ k)).tdiv 2 = a.tdiv (2 ^ (k + 1)) := fun a ha => by
    rw [Int.tdiv_eq_ediv_of_nonneg ha, Int.tdiv_eq_ediv_of_nonneg (Int.ediv_nonneg ha (by omega)), Int.tdiv_eq_ediv_of_nonneg ha, Int.ediv_ediv_of_nonneg (by omega), Int.pow_succ]
  rcases Int.le_total 0 a with h | h
  · exact key a h
  · have := key (-a) (by omega)
    rw [Int.neg_tdiv, Int.neg_tdiv, Int.neg_tdiv] at this
    omega
def hv (v : V3) (k : Nat) : V3 := (v.1.tdiv (2 ^ k), v.2.1.tdiv (2 ^ k), v.2.2.tdiv (2 ^ k))
theorem Vzc {v : V3} (h : inV v) (k : Nat) : inV (hv v k) := ⟨h.1.tdiv (bzw k), h.2.1.tdiv (bzw k), h.2.2.tdiv (bzw k)⟩
def Mz1 (v : V3) : Bool := (v.1 == 0) && ((v.2.1 == 0) && ((v.2.2 == 0) && true))
theorem zeroB_no {v : V3} : Mz1 v = false ↔ v.1 ≠ 0 ∨ v.2.1 ≠ 0 ∨ v.2.2 ≠ 0 := by
  unfold Mz1
  by_cases h1 : v.1 = 0 <;> by_cases h2 : v.2.1 = 0 <;> by_cases h3 : v.2.2 = 0 <;> simp [h1, h2, h3]
theorem Hzq {a : Int} (h : a < -16384 ∨ a > 16384) : a.tdiv 2 ≠ 0 := by
  have e := Int.mul_tdiv_add_tmod a 2
  have l1 := Int.tmod_lt_of_pos a (show (0 : Int) < 2 by decide)
  have l2 := Int.lt_tmod_of_pos a (show (0 : Int) < 2 by decide)
  omega
theorem Hzv {v : V3} (h : inV v) : (gza v).o = (ezs v).o := by
  obtain ⟨n, ok, hr, -⟩ := vzn h
  rw [hr]
  have e0 : (ezs v).o = (fzz v).run NN := rfl
  rw [e0] at hr
  show (ezq v).run NN = _
  simp only [ezq, fzz, T.run, T.ix] at hr ⊢
  cases hz : Mz1 v with
  | true =>
    have hz' : ((v.1 == 0) && ((v.2.1 == 0) && ((v.2.2 == 0) && true))) = true := hz
    rw [hz', cond_true] at hr
    simp only [Option.some.injEq, Prod.mk.injEq] at hr
    obtain ⟨rfl, rfl⟩ := hr
    have v0 : v.1 = 0 ∧ v.2.1 = 0 ∧ v.2.2 = 0 := by
      unfold Mz1 at hz
      simpa using hz
    have nv : fz6 v 16384 = true := nearV_iff.2 (by omega)
    have e1 : iter (fun x29 : Int × Int × Int => ((dzg (x29.1, x29.2.1, x29.2.2)).o.bind fun y40 => bif !y40 then some (Step3.next (IntKind.i64.wrap (x29.1.tdiv 2), IntKind.i64.wrap (x29.2.1.tdiv 2), IntKind.i64.wrap (x29.2.2.tdiv 2))) else some (.out (x29.1, x29.2.1, x29.2.2)) : Option (Step3 (Int × Int × Int) (Int × Int × Int) (V3 × Bool)))) NN (v.1, v.2.1, v.2.2) = some (.inl v) := by
      suffices hN : ∀ N : Nat, iter (fun x29 : Int × Int × Int => ((dzg (x29.1, x29.2.1, x29.2.2)).o.bind fun y40 => bif !y40 then some (Step3.next (IntKind.i64.wrap (x29.1.tdiv 2), IntKind.i64.wrap (x29.2.1.tdiv 2), IntKind.i64.wrap (x29.2.2.tdiv 2))) else some (.out (x29.1, x29.2.1, x29.2.2)) : Option (Step3 (Int × Int × Int) (Int × Int × Int) (V3 × Bool)))) (N + 1) (v.1, v.2.1, v.2.2) = some (.inl v) from hN 4294967295
      intro N
      simp only [iter, fzm, Option.bind_some]
      have : (v.1, v.2.1, v.2.2) = v := rfl
      rw [this, nv]; rfl
    rw [e1]
    show some ((v.1, v.2.1, v.2.2), !((v.1 == 0) && ((v.2.1 == 0) && ((v.2.2 == 0) && true)))) = _
    rw [hz']; rfl
  | false =>
    have hz' : ((v.1 == 0) && ((v.2.1 == 0) && ((v.2.2 == 0) && true))) = false := hz
    rw [hz', cond_false] at hr
    have nz := zeroB_no.1 hz
    have sim : ∀ (N k : Nat), k ≤ 49 → Mz1 (hv v k) = false → ∀ r, iter (fun (x6 : Int) => (grd (x6 ≠ 0) (grd (x6 ≠ 0) (grd (x6 ≠ 0) ((dzy ((IntKind.i64.wrap (v.1.tdiv x6)), (IntKind.i64.wrap (v.2.1.tdiv x6)), (IntKind.i64.wrap (v.2.2.tdiv x6))) 16384).o.bind fun y15 =>
        bif y15 then some (.fin (((IntKind.i64.wrap (v.1.tdiv x6)), (IntKind.i64.wrap (v.2.1.tdiv x6)), (IntKind.i64.wrap (v.2.2.tdiv x6))), true)) else some (.next (IntKind.i64.wrap (x6 * 2)))))) : Option (Step3 Int U0 (V3 × Bool)))) N (2 ^ k) = some (.inr r) →
        iter (fun x29 : Int × Int × Int => ((dzg (x29.1, x29.2.1, x29.2.2)).o.bind fun y40 => bif !y40 then some (Step3.next (IntKind.i64.wrap (x29.1.tdiv 2), IntKind.i64.wrap (x29.2.1.tdiv 2), IntKind.i64.wrap (x29.2.2.tdiv 2))) else some (.out (x29.1, x29.2.1, x29.2.2)) : Option (Step3 (Int × Int × Int) (Int × Int × Int) (V3 × Bool)))) N (hv v k) = some (.inl r.1) ∧ r.2 = true ∧ Mz1 r.1 = false := by
      intro N
      induction N with
      | zero => intro k _ _ r hr; simp [iter] at hr
      | succ N ih =>
        intro k hk hz r hr
        have p := bzw k
        have hi := Vzc h k
        have ehv : (IntKind.i64.wrap (v.1.tdiv (2 ^ k)), IntKind.i64.wrap (v.2.1.tdiv (2 ^ k)), IntKind.i64.wrap (v.2.2.tdiv (2 ^ k))) = hv v k := by
          have a := hi.1.w; have b := hi.2.1.w; have c := hi.2.2.w
          simp only [hv] at a b c ⊢
          rw [a, b, c]
        have hp2 : (2 : Int) ^ k ≤ 562949953421312 := by
          have : (2 : Int) ^ k ≤ 2 ^ 49 := by exact_mod_cast Nat.pow_le_pow_right (by decide : 0 < 2) (show k ≤ 49 by omega)
          have e : (2 : Int) ^ 49 = 562949953421312 := by decide
          omega
        simp only [iter] at hr ⊢
        rw [az8 (by omega), az8 (by omega), az8 (by omega), ezi _ (by decide) (by decide), ehv] at hr
        have e3 : ((hv v k).1, (hv v k).2.1, (hv v k).2.2) = hv v k := rfl
        simp only [Option.bind_some] at hr
        rw [e3, fzm]
        simp only [Option.bind_some]
        cases hn : fz6 (hv v k) 16384 with
        | true =>
          rw [hn] at hr
          simp only [cond_true, Option.some.injEq, Sum.inr.injEq] at hr
          subst hr
          exact ⟨rfl, rfl, hz⟩
        | false =>
          rw [hn] at hr
          simp only [cond_false] at hr
          rw [w64 (x := 2 ^ k * 2) (by omega) (by omega), ← Int.pow_succ] at hr
          have hk' : k < 49 := by
            by_cases e : k = 49
            · exfalso
              have t1 := pzl h.1; have t2 := pzl h.2.1; have t3 := pzl h.2.2
              have e49 : (2 : Int) ^ 49 = 562949953421312 := by decide
              have : fz6 (hv v k) 16384 = true := by
                rw [e]; unfold hv; rw [e49]
                exact nearV_iff.2 ⟨t1, t2, t3⟩
              rw [hn] at this; cases this
            · omega
          have enx : (IntKind.i64.wrap ((hv v k).1.tdiv 2), IntKind.i64.wrap ((hv v k).2.1.tdiv 2), IntKind.i64.wrap ((hv v k).2.2.tdiv 2)) = hv v (k + 1) := by
            have hj := Vzc h (k + 1)
            have a := hj.1.w; have b := hj.2.1.w; have c := hj.2.2.w
            simp only [hv, yzz] at a b c ⊢
            rw [a, b, c]
          have hz2 : Mz1 (hv v (k + 1)) = false := by
            have : ¬ ((-16384 ≤ (hv v k).1 ∧ (hv v k).1 ≤ 16384) ∧ (-16384 ≤ (hv v k).2.1 ∧ (hv v k).2.1 ≤ 16384) ∧ (-16384 ≤ (hv v k).2.2 ∧ (hv v k).2.2 ≤ 16384)) := fun h' => by
              rw [nearV_iff.2 h'] at hn; cases hn
            rw [zeroB_no]
            have f1 : (hv v (k + 1)).1 = (hv v k).1.tdiv 2 := (yzz _ _).symm
            have f2 : (hv v (k + 1)).2.1 = (hv v k).2.1.tdiv 2 := (yzz _ _).symm
            have f3 : (hv v (k + 1)).2.2 = (hv v k).2.2.tdiv 2 := (yzz _ _).symm
            rw [f1, f2, f3]
            by_cases a1 : (hv v k).1 < -16384 ∨ (hv v k).1 > 16384
            · exact .inl (Hzq a1)
            · by_cases a2 : (hv v k).2.1 < -16384 ∨ (hv v k).2.1 > 16384
              · exact .inr (.inl (Hzq a2))
              · exact .inr (.inr (Hzq (by omega)))
          simp only [Bool.not_false, cond_true]
          rw [enx]
          exact ih (k + 1) (by omega) hz2 r hr
    have h0 : hv v 0 = v := by
      unfold hv
      rw [Int.pow_zero, Int.tdiv_one, Int.tdiv_one, Int.tdiv_one]
    have s0 := sim NN 0 (by omega) (by rw [h0]; exact hz)
    rw [h0, Int.pow_zero] at s0
    generalize iter _ NN (1 : Int) = o at hr s0
    cases o with
    | none => cases hr
    | some z => cases z with
      | inl _ => cases hr
      | inr r =>
        have hr : some r = some (n, ok) := hr
        injection hr with hr
        subst hr
        obtain ⟨s1, s2, s3⟩ := s0 _ rfl
        have e5 : (v.1, v.2.1, v.2.2) = v := rfl
        rw [e5, s1]
        show some ((n.1, n.2.1, n.2.2), !((n.1 == 0) && ((n.2.1 == 0) && ((n.2.2 == 0) && true)))) = _
        have s3' : ((n.1 == 0) && ((n.2.1 == 0) && ((n.2.2 == 0) && true))) = false := s3
        simp only at s2
        rw [s3', s2]; rfl
open Go.Proofs
def bI (c : Int → Int → Bool) (f : Nat → Int) : Nat → Nat
  | 0 => 0
  | j + 1 => bif c (f j) (f (bI c f j)) then j else bI c f j
theorem Qzn (c : Int → Int → Bool) (f : Nat → Int) : ∀ j, bI c f j ≤ j - 1
  | 0 => Nat.le_refl _
  | j + 1 => by
    have := Qzn c f j
    simp only [bI]
    cases c (f j) (f (bI c f j)) <;> simp only [cond_true, cond_false] <;> omega
def fN (n : V3) (l : List V3) (j : Nat) : Int := mzk n (l.getD j default)
section
variable {n : V3} {l : List V3} (h0 : 1 ≤ l.length) (hl : l.length < 4294967296)
include h0 hl
theorem Tzx (w : List Int) : (tz3 l w n).o = some (fN n l (bI ltB (fN n l) l.length), (bI ltB (fN n l) l.length : Int)) := by
  show (jzj l w n).run NN = _
  simp only [jzj, T.run, fzg, Option.bind_some]
  rw [az8 (by omega)]
  refine (bzn (fun j => (fN n l (bI ltB (fN n l) j), ((bI ltB (fN n l) j : Nat) : Int), (j : Int))) (fN n l (bI ltB (fN n l) l.length), (bI ltB (fN n l) l.length : Int)) l.length rfl hl (fun j hj => ?_) ?_).trans rfl
  · rw [az6 (by simpa using hj), az8 ⟨by simp, by simpa using hj⟩]
    simp only [Int.toNat_natCast, wn (show j < 4294967296 by omega)]
    have e : bI ltB (fN n l) (j + 1) = bif ltB (fN n l j) (fN n l (bI ltB (fN n l) j)) then j else bI ltB (fN n l) j := rfl
    rw [e]
    by_cases hq : fN n l j < fN n l (bI ltB (fN n l) j)
    · rw [show ltB (fN n l j) (fN n l (bI ltB (fN n l) j)) = true from decide_eq_true hq, az6 (show mzk n (l.getD j default) < fN n l (bI ltB (fN n l) j) from hq)]; rfl
    · rw [show ltB (fN n l j) (fN n l (bI ltB (fN n l) j)) = false from decide_eq_false hq, az5 (show ¬ mzk n (l.getD j default) < fN n l (bI ltB (fN n l) j) from hq)]; rfl
  · rw [az5 (by simp)]
theorem Nz9 (w : List Int) : (kzi l w n).o = some (fN n l (bI gtB (fN n l) l.length), (bI gtB (fN n l) l.length : Int)) := by
  show (ezp l w n).run NN = _
  simp only [ezp, T.run, fzg, Option.bind_some]
  rw [az8 (by omega)]
  refine (bzn (fun j => (fN n l (bI gtB (fN n l) j), ((bI gtB (fN n l) j : Nat) : Int), (j : Int))) (fN n l (bI gtB (fN n l) l.length), (bI gtB (fN n l) l.length : Int)) l.length rfl hl (fun j hj => ?_) ?_).trans rfl
  · rw [az6 (by simpa using hj), az8 ⟨by simp, by simpa using hj⟩]
    simp only [Int.toNat_natCast, wn (show j < 4294967296 by omega)]
    have e : bI gtB (fN n l) (j + 1) = bif gtB (fN n l j) (fN n l (bI gtB (fN n l) j)) then j else bI gtB (fN n l) j := rfl
    rw [e]
    by_cases hq : fN n l j > fN n l (bI gtB (fN n l) j)
    · rw [show gtB (fN n l j) (fN n l (bI gtB (fN n l) j)) = true from decide_eq_true hq, az6 (show mzk n (l.getD j default) > fN n l (bI gtB (fN n l) j) from hq)]; rfl
    · rw [show gtB (fN n l j) (fN n l (bI gtB (fN n l) j)) = false from decide_eq_false hq, az5 (show ¬ mzk n (l.getD j default) > fN n l (bI gtB (fN n l) j) from hq)]; rfl
  · rw [az5 (by simp)]
theorem Izf {c : Int → Int → Bool} {sg : Int} (hc : ∀ i j, i < l.length → j < l.length → decide (IntKind.i64.wrap (sg * fN n l i) < IntKind.i64.wrap (sg * fN n l j)) = c (fN n l i) (fN n l j)) (hi : ∀ x, c x x = false) :
    (dzj n l sg).o = some (bI c (fN n l) l.length : Int) := by
  show (fz7 n l sg).run NN = _
  simp only [fz7, T.run, Azs, Option.bind_some]
  have b1 : bI c (fN n l) 1 = 0 := by show (bif c (fN n l 0) (fN n l 0) then 0 else 0) = 0; rw [hi]; rfl
  refine (bzn (fun j => (((bI c (fN n l) (j + 1) : Nat) : Int), ((j + 1 : Nat) : Int))) ((bI c (fN n l) l.length : Nat) : Int) (l.length - 1) (by rw [b1]; rfl) (show l.length - 1 < 4294967296 by omega) (fun j hj => ?_) ?_).trans rfl
  · have bl := Qzn c (fN n l) (j + 1)
    rw [az6 (by simp only; omega), az8 (by simp only; omega), az8 (by simp only; omega)]
    simp only [Int.toNat_natCast, wn (show j + 1 < 4294967296 by omega)]
    have hcc := hc (j + 1) (bI c (fN n l) (j + 1)) (by omega) (by omega)
    have ed : decide (IntKind.i64.wrap (sg * mzk n (l.getD (j + 1) default)) < IntKind.i64.wrap (sg * mzk n (l.getD (bI c (fN n l) (j + 1)) default))) = c (fN n l (j + 1)) (fN n l (bI c (fN n l) (j + 1))) := hcc
    rw [ed]
    have e : bI c (fN n l) (j + 2) = bif c (fN n l (j + 1)) (fN n l (bI c (fN n l) (j + 1))) then j + 1 else bI c (fN n l) (j + 1) := rfl
    rw [e]
    cases c (fN n l (j + 1)) (fN n l (bI c (fN n l) (j + 1))) <;> rfl
  · rw [show l.length - 1 + 1 = l.length by omega, az5 (by simp)]
end
theorem Tzi {l : List V3} (h : fewV l = true) {i : Nat} (hi : i < l.length) : fz6 (l.getD i default) 268435456 = true := by
  simp only [fewV, Bool.and_eq_true] at h
  have := noneB_iff.1 h.2 i hi
  simpa [farN] using this
theorem Qzz {n : V3} (hn : bz0 n = true) {l : List V3} (hl : fewV l = true) {i : Nat} (hi : i < l.length) : -13194139533312 ≤ fN n l i ∧ fN n l i ≤ 13194139533312 := by
  obtain ⟨⟨b1, b2, b3⟩, -⟩ := Dzy hn
  have g := nearV_iff.1 (Tzi hl hi)
  unfold fN mzk
  generalize l.getD i default = v at g ⊢
  have p1 := Hz0 b1 g.1
  have p2 := Hz0 b2 g.2.1
  have p3 := Hz0 b3 g.2.2
  rw [w64 (x := n.1 * v.1) (by omega) (by omega), w64 (x := n.2.1 * v.2.1) (by omega) (by omega), w64 (x := n.2.2 * v.2.2) (by omega) (by omega), w64 (x := n.1 * v.1 + n.2.1 * v.2.1) (by omega) (by omega), w64 (by omega) (by omega)]
  omega
theorem Tzh {n : V3} (hn : bz0 n = true) {l : List V3} (hl : fewV l = true) : (dzj n l 1).o = some (bI ltB (fN n l) l.length : Int) := by
  have := zzb hl
  refine Izf (by omega) (by omega) (fun i j hi hj => ?_) (fun x => by simp [ltB])
  have a := Qzz hn hl hi
  have b := Qzz hn hl hj
  rw [w64 (x := 1 * fN n l i) (by omega) (by omega), w64 (x := 1 * fN n l j) (by omega) (by omega), Int.one_mul, Int.one_mul]; rfl
theorem Tzg {n : V3} (hn : bz0 n = true) {l : List V3} (hl : fewV l = true) : (dzj n l (-1)).o = some (bI gtB (fN n l) l.length : Int) := by
  have := zzb hl
  refine Izf (by omega) (by omega) (fun i j hi hj => ?_) (fun x => by simp [gtB])
  have a := Qzz hn hl hi
  have b := Qzz hn hl hj
  rw [w64 (x := -1 * fN n l i) (by omega) (by omega), w64 (x := -1 * fN n l j) (by omega) (by omega)]
  unfold gtB
  rw [decide_eq_decide]; omega
theorem Vzs (g : Nat → Bool) : bzk g 3 = (!g 0 && (!g 1 && !g 2)) := by
  rw [Bool.eq_iff_iff, noneB_iff]
  simp only [Bool.and_eq_true, Bool.not_eq_true']
  exact ⟨fun h => ⟨h 0 (by omega), h 1 (by omega), h 2 (by omega)⟩, fun h i hi => by
    match i, hi with
    | 0, _ => exact h.1
    | 1, _ => exact h.2.1
    | 2, _ => exact h.2.2⟩
def bey3 (x : Int) : Bool := decide (x < -268435456) || decide (x > 268435456)
theorem Nzy (v : V3) : (!bey3 v.1 && (!bey3 v.2.1 && !bey3 v.2.2)) = fz6 v 268435456 := by
  rw [Bool.eq_iff_iff]
  simp only [Bool.and_eq_true, Bool.not_eq_true', bey3, Bool.or_eq_false_iff, decide_eq_false_iff_not, nearV_iff]
  omega
theorem Bzh (l : List V3) : (gz9 l).o = some (fewV l) := by
  show (ezn l).run NN = _
  simp only [ezn, T.run, azw, az7, czr]
  unfold fewV
  by_cases h : 1 ≤ l.length ∧ l.length ≤ 8
  · rw [decide_eq_false (p := (l.length : Int) < 1) (by omega), decide_eq_false (p := (l.length : Int) > 8) (by omega), decide_eq_true h, wz7 (by rfl), Bool.true_and]
    refine (fza (fun i => sw (farN l i) false) l.length (by omega) (fun j hj => ?_) ?_).trans ?_
    · rw [az6 (by omega), az8 (by omega), Int.toNat_natCast, wn (by omega)]
      refine (fza (fun i => sw (bey3 (([(l.getD j default).1, (l.getD j default).2.1, (l.getD j default).2.2] : List Int).getD i 0)) (Step3.fin false)) 3 (by decide) (fun k hk => ?_) ?_).trans ?_
      · rw [az6 (by omega), az8 (by omega), wn (by omega), Int.toNat_natCast, ← dzl]; rfl
      · rw [az5 (by omega)]
      · rw [cz8, Vzs]
        have e : (!(bey3 (([(l.getD j default).1, (l.getD j default).2.1, (l.getD j default).2.2] : List Int).getD 0 0)) && (!(bey3 (([(l.getD j default).1, (l.getD j default).2.1, (l.getD j default).2.2] : List Int).getD 1 0)) && !(bey3 (([(l.getD j default).1, (l.getD j default).2.1, (l.getD j default).2.2] : List Int).getD 2 0)))) = fz6 (l.getD j default) 268435456 := Nzy _
        rw [e]
        unfold farN
        cases fz6 (l.getD j default) 268435456 <;> rfl
    · rw [az5 (by omega)]
    · rw [cz8]; cases bzk (farN l) l.length <;> rfl
  · rw [Fzu (by simp only [Bool.or_eq_true, decide_eq_true_eq]; omega), decide_eq_false h]; rfl
theorem Nzs {σ σ' τ τ' R R' : Type} {f : σ → Option (Step3 σ τ R)} {g : σ' → Option (Step3 σ' τ' R')} {k1 : τ → Option R} {k2 : τ' → Option R'} {F : R → Option R'} {x : σ} {y : σ'} {z : R'} (S : σ → σ' → Prop)
    (h : ∀ x y, S x y → (∃ x' y', f x = some (.next x') ∧ g y = some (.next y') ∧ S x' y') ∨ (∃ a b, f x = some (.fin a) ∧ g y = some (.fin b) ∧ F a = some b))
    (hs : S x y) (hk : ∀ b, k2 b = none) (hz : andK (iter g NN y) k2 = some z) : (andK (iter f NN x) k1).bind F = some z := by
  have sim := Mzk (f := f) (g := g) S (fun _ _ => False) (fun a b => F a = some b) (fun x y hs => (h x y hs).elim .inl fun h => .inr (.inr h)) NN x y hs
  generalize iter g NN y = o at hz sim
  cases o with
  | none => cases hz
  | some u => cases u with
    | inl b => have hz : k2 b = some z := hz; rw [hk] at hz; cases hz
    | inr b =>
      have hz : some b = some z := hz
      cases hz
      obtain ⟨a, e1, e2⟩ := sim.2 _ rfl
      rw [e1]; exact e2
theorem Jza (l : List V3) (h1 : 1 ≤ l.length) (h2 : l.length < 4294967296) : (fzh l).o = some (l, (List.replicate l.length (0 : Int)).set 0 65536) := by
  show (eza l).run NN = _
  simp only [eza, T.run]
  rw [az8 (by omega), az8 (by simp; omega), az8 (by simp; omega)]
  simp
theorem Nzv (a b : List V3) (m : Int) : (dz3 a b m 64).o = (dzc a b m 64).o := by
  obtain ⟨z, hz, -⟩ := Ezm a b m 64
  rw [hz]
  have e0 : (dzc a b m 64).o = (gz1 a b m 64).run NN := rfl
  rw [e0] at hz
  show (ezm a b m 64).run NN = _
  simp only [ezm, gz1, T.run, T.ix, Dza, Bzh, Option.bind_some, azw, az7] at hz ⊢
  cases ha : fewV a with
  | false => rw [ha] at hz; exact hz
  | true =>
    cases hb : fewV b with
    | false => rw [ha, hb] at hz; exact hz
    | true =>
      rw [ha, hb] at hz
      have la := zzb ha
      have lb := zzb hb
      simp only [Bool.not_true, cond_false, czr] at hz ⊢
      cases hc : decide (m < 0) || (decide (m > 2097152) || (decide ((64 : Int) < 0) || decide ((64 : Int) > 64))) with
      | true => rw [hc] at hz; exact hz
      | false =>
        rw [hc] at hz
        simp only [Bool.or_eq_false_iff, decide_eq_false_iff_not] at hc
        simp only [cond_false, Int.toNat_natCast, List.length_replicate, Jza a la.1 (by omega), Jza b lb.1 (by omega), Option.bind_some] at hz ⊢
        rw [az8 ⟨by omega, by omega, by omega, by omega⟩, az8 ⟨by omega, by omega, by omega, by omega⟩, az8 ⟨by omega, by omega⟩, az8 ⟨by simp; omega, by omega⟩, az8 ⟨by omega, by omega⟩, az8 ⟨by simp; omega, by omega⟩] at hz
        show ((mzf a ((List.replicate a.length (0 : Int)).set 0 65536) b ((List.replicate b.length (0 : Int)).set 0 65536) 0 0 0 0 m 64).run NN).bind _ = _
        simp only [mzf, T.run, T.ix]
        refine Nzs (fun x y => y = (x.2.2.1, x.2.2.2.1, x.2.2.2.2.1, x.1, x.2.1, x.2.2.2.2.2) ∧ x.1.length = a.length ∧ x.2.1.length = b.length ∧ 0 ≤ x.2.2.2.2.2 ∧ x.2.2.2.2.2 ≤ 64) ?_ ⟨rfl, by simp, by simp, by simp, by simp⟩ (fun _ => rfl) hz
        rintro ⟨wl, wr, c1, c2, c3, st⟩ _ ⟨rfl, hl, hr, h0, h1⟩
        simp only at hl hr h0 h1 ⊢
        obtain ⟨s1, e1, -⟩ := qzv a wl hl (by omega)
        obtain ⟨s2, e2, -⟩ := qzv b wr hr (by omega)
        have hi : inV (bz7 s1 s2) := ⟨InR.wr _, InR.wr _, InR.wr _⟩
        simp only [Tz2 a wl hl (by omega), Tz2 b wr hr (by omega), e1, e2, hz7, Ezn, Option.bind_some, Ozv hi, Jzk hi]
        cases Uz1 (bz7 s1 s2) m with
        | true => exact .inr ⟨_, _, rfl, rfl, rfl⟩
        | false =>
          have hx : inV (IntKind.i64.wrap ((bz7 s1 s2).1.tdiv 65536), IntKind.i64.wrap ((bz7 s1 s2).2.1.tdiv 65536), IntKind.i64.wrap ((bz7 s1 s2).2.2.tdiv 65536)) := ⟨InR.wr _, InR.wr _, InR.wr _⟩
          obtain ⟨nm, e4, e5⟩ := kzl hx.1 hx.2.1 hx.2.2
          have e6 := Hzv hx
          rw [e4] at e6
          simp only [e4, ← e6, Option.bind_some, cond_false]
          cases hnm : nm.2 with
          | false => exact .inr ⟨_, _, rfl, rfl, rfl⟩
          | true =>
            have hu := e5 hnm
            simp only [Bool.not_true, cond_false, Tzx (n := nm.1) la.1 (show a.length < 4294967296 by omega), Nz9 (n := nm.1) lb.1 (show b.length < 4294967296 by omega), Tzh hu ha, Tzg hu hb, Azs, ozw, tzl, Option.bind_some, Int.toNat_natCast]
            have i1 := Qzn ltB (fN nm.1 a) a.length
            have i2 := Qzn gtB (fN nm.1 b) b.length
            generalize hI : bI ltB (fN nm.1 a) a.length = I at i1 ⊢
            generalize hJ : bI gtB (fN nm.1 b) b.length = J at i2 ⊢
            have g1 : 0 ≤ (I : Int) ∧ (I : Int) < (a.length : Int) := by omega
            have g2 : 0 ≤ (J : Int) ∧ (J : Int) < (b.length : Int) := by omega
            have f1 : mzk nm.1 (a.getD I default) = fN nm.1 a I := rfl
            have f2 : mzk nm.1 (b.getD J default) = fN nm.1 b J := rfl
            simp only [az8 g1, az8 g2, f1, f2, Ezd, Option.bind_some]
            cases decide (IntKind.i64.wrap (fN nm.1 a I - fN nm.1 b J) > IntKind.i64.wrap (Lz3 nm.1 * m)) with
            | true => exact .inr ⟨_, _, rfl, rfl, rfl⟩
            | false =>
              simp only [cond_false]
              by_cases hst : st = 64
              · rw [dzm hst, decide_eq_true (p := st ≥ 64) (by omega)]
                exact .inr ⟨_, _, rfl, rfl, rfl⟩
              · rw [dzn hst, decide_eq_false (p := st ≥ 64) (by omega)]
                simp only [Bool.false_or]
                by_cases hp : mzk ((IntKind.i64.wrap ((bz7 s1 s2).1.tdiv 65536), IntKind.i64.wrap ((bz7 s1 s2).2.1.tdiv 65536), IntKind.i64.wrap ((bz7 s1 s2).2.2.tdiv 65536)) : V3) (bz7 ((IntKind.i64.wrap ((bz7 s1 s2).1.tdiv 65536), IntKind.i64.wrap ((bz7 s1 s2).2.1.tdiv 65536), IntKind.i64.wrap ((bz7 s1 s2).2.2.tdiv 65536)) : V3) (bz7 (a.getD I default) (b.getD J default))) ≤ 0
                · have h0' : Lz6 ((IntKind.i64.wrap ((bz7 s1 s2).1.tdiv 65536), IntKind.i64.wrap ((bz7 s1 s2).2.1.tdiv 65536), IntKind.i64.wrap ((bz7 s1 s2).2.2.tdiv 65536)) : V3) (bz7 (a.getD I default) (b.getD J default)) = 0 := by unfold Lz6; rw [if_pos hp]
                  rw [az6 hp, h0', dzm rfl]
                  exact .inr ⟨_, _, rfl, rfl, rfl⟩
                · have h0' : min 256 (IntKind.i64.wrap ((mzk ((IntKind.i64.wrap ((bz7 s1 s2).1.tdiv 65536), IntKind.i64.wrap ((bz7 s1 s2).2.1.tdiv 65536), IntKind.i64.wrap ((bz7 s1 s2).2.2.tdiv 65536)) : V3) (bz7 ((IntKind.i64.wrap ((bz7 s1 s2).1.tdiv 65536), IntKind.i64.wrap ((bz7 s1 s2).2.1.tdiv 65536), IntKind.i64.wrap ((bz7 s1 s2).2.2.tdiv 65536)) : V3) (bz7 (a.getD I default) (b.getD J default)))).tdiv (max 1 (IntKind.i64.wrap ((mzk (bz7 ((IntKind.i64.wrap ((bz7 s1 s2).1.tdiv 65536), IntKind.i64.wrap ((bz7 s1 s2).2.1.tdiv 65536), IntKind.i64.wrap ((bz7 s1 s2).2.2.tdiv 65536)) : V3) (bz7 (a.getD I default) (b.getD J default))) (bz7 ((IntKind.i64.wrap ((bz7 s1 s2).1.tdiv 65536), IntKind.i64.wrap ((bz7 s1 s2).2.1.tdiv 65536), IntKind.i64.wrap ((bz7 s1 s2).2.2.tdiv 65536)) : V3) (bz7 (a.getD I default) (b.getD J default)))).tdiv 256))))) = Lz6 ((IntKind.i64.wrap ((bz7 s1 s2).1.tdiv 65536), IntKind.i64.wrap ((bz7 s1 s2).2.1.tdiv 65536), IntKind.i64.wrap ((bz7 s1 s2).2.2.tdiv 65536)) : V3) (bz7 (a.getD I default) (b.getD J default)) := by unfold Lz6; rw [if_neg hp]
                  rw [az5 hp, az8 (by omega), h0']
                  generalize Lz6 ((IntKind.i64.wrap ((bz7 s1 s2).1.tdiv 65536), IntKind.i64.wrap ((bz7 s1 s2).2.1.tdiv 65536), IntKind.i64.wrap ((bz7 s1 s2).2.2.tdiv 65536)) : V3) (bz7 (a.getD I default) (b.getD J default)) = T
                  by_cases ht : T = 0
                  · rw [dzm ht, dzm ht]; exact .inr ⟨_, _, rfl, rfl, rfl⟩
                  · rw [dzn ht, dzn ht, Izm a wl _ T (by omega), Izm b wr _ T (by omega)]
                    obtain ⟨u1, e7, l1⟩ := lz3 wl T I (by omega) (by omega) (by omega)
                    obtain ⟨u2, e8, l2⟩ := lz3 wr T J (by omega) (by omega) (by omega)
                    simp only [e7, e8, Option.bind_some]
                    exact .inl ⟨_, _, rfl, rfl, rfl, by simp only; omega, by simp only; omega, by simp only; rw [w64 (by omega) (by omega)]; omega, by simp only; rw [w64 (by omega) (by omega)]; omega⟩
open Go.Proofs
def tot (g : Nat → Int) : Nat → Int
  | 0 => 0
  | j + 1 => tot g j + g j
theorem Uzu (a b : Int) : IntKind.i64.wrap (IntKind.i64.wrap a * b) = IntKind.i64.wrap (a * b) := by
  have h : ∃ t : Int, IntKind.i64.wrap a = a - 18446744073709551616 * t := ⟨(a + 9223372036854775808) / 18446744073709551616, by rw [wr]; omega⟩
  obtain ⟨t, ht⟩ := h
  rw [ht, Int.sub_mul, Int.mul_assoc]
  generalize a * b = m
  generalize t * b = u
  simp only [wr]; omega
theorem xzn (l : List V3) (hl : l.length < 4294967296) : (lz1 l).o = some (IntKind.i64.wrap (tot (fun i => (l.getD i default).1) l.length), IntKind.i64.wrap (tot (fun i => (l.getD i default).2.1) l.length), IntKind.i64.wrap (tot (fun i => (l.getD i default).2.2) l.length)) := by
  show (hza l).run NN = _
  simp only [hza, T.run, T.ix]
  refine (bzn (fun j => (IntKind.i64.wrap (tot (fun i => (l.getD i default).1) j), IntKind.i64.wrap (tot (fun i => (l.getD i default).2.1) j), IntKind.i64.wrap (tot (fun i => (l.getD i default).2.2) j), (j : Int)))
    (IntKind.i64.wrap (tot (fun i => (l.getD i default).1) l.length), IntKind.i64.wrap (tot (fun i => (l.getD i default).2.1) l.length), IntKind.i64.wrap (tot (fun i => (l.getD i default).2.2) l.length)) l.length rfl hl (fun j hj => ?_) ?_).trans rfl
  · rw [az6 (by simpa using hj), az8 ⟨by simp, by simpa using hj⟩]
    simp only [Int.toNat_natCast, wn (show j < 4294967296 by omega), Hzs, tot]
  · rw [az5 (by simp)]
theorem Gzx {R : Type} {k : Int → Option R} (l : List V3) (pr : V3 → Int) (m c : Int) (hc : IntKind.i64.wrap c = c) (hl : l.length < 4294967296) :
    andK (iter (fun x : Int × Int => (bif decide (x.2 < ((l.length : Nat) : Int)) then grd (0 ≤ x.2 ∧ x.2 < ((l.length : Nat) : Int)) (some (Step3.next (IntKind.i64.wrap (x.1 + IntKind.i64.wrap (pr (l.getD x.2.toNat default) * m)), IntKind.i64.wrap (x.2 + 1)))) else some (.out x.1) : Option (Step3 (Int × Int) Int R))) NN (c, 0)) k
      = k (IntKind.i64.wrap (c + tot (fun i => pr (l.getD i default)) l.length * m)) := by
  refine bzn (fun j => (IntKind.i64.wrap (c + tot (fun i => pr (l.getD i default)) j * m), (j : Int))) _ l.length ?_ hl (fun j hj => ?_) ?_
  · simp only [tot, Int.zero_mul, Int.add_zero, hc]; rfl
  · rw [az6 (by simpa using hj), az8 ⟨by simp, by simpa using hj⟩]
    simp only [Int.toNat_natCast, wn (show j < 4294967296 by omega), Hzs, Uzt, tot, Int.add_mul, Int.add_assoc]
  · rw [az5 (by simp)]
theorem Gzy {R : Type} {k : Int → Option R} (l : List V3) (pr : V3 → Int) (m c : Int) (hc : IntKind.i64.wrap c = c) (hl : l.length < 4294967296) :
    andK (iter (fun x : Int × Int => (bif decide (x.2 < ((l.length : Nat) : Int)) then grd (0 ≤ x.2 ∧ x.2 < ((l.length : Nat) : Int)) (some (Step3.next (IntKind.i64.wrap (x.1 - IntKind.i64.wrap (pr (l.getD x.2.toNat default) * m)), IntKind.i64.wrap (x.2 + 1)))) else some (.out x.1) : Option (Step3 (Int × Int) Int R))) NN (c, 0)) k
      = k (IntKind.i64.wrap (c - tot (fun i => pr (l.getD i default)) l.length * m)) := by
  refine bzn (fun j => (IntKind.i64.wrap (c - tot (fun i => pr (l.getD i default)) j * m), (j : Int))) _ l.length ?_ hl (fun j hj => ?_) ?_
  · simp only [tot, Int.zero_mul, Int.sub_zero, hc]; rfl
  · rw [az6 (by simpa using hj), az8 ⟨by simp, by simpa using hj⟩]
    simp only [Int.toNat_natCast, wn (show j < 4294967296 by omega), Hzt, Qzg, tot, Int.add_mul]
    congr 3
    rw [show ∀ x y z : Int, x - (y + z) = x - y - z from fun x y z => by omega]
  · rw [az5 (by simp)]
theorem Tz3 (a b : List IV3) : (Azr a b).o = some (Czv a b) := by
  rw [← vzj]
  show (tzo a b).run NN = (fzw a b).run NN
  simp only [tzo, fzw, T.run, T.ix, czu, ezt, Option.bind_some, azw, az7, mzb, hzi]
  cases ha : bz4 a with
  | false => rfl
  | true =>
    cases hb : bz4 b with
    | false => rfl
    | true =>
      have la := dz2 ha
      have lb := dz2 hb
      have ca := Mzc ha
      have cb := Mzc hb
      simp only [Bool.not_true, cond_false, xzn (cenV a) (by omega), xzn (cenV b) (by omega), Option.bind_some]
      have s1 := fun {R : Type} (k : Int → Option R) (c : Int) (hc : IntKind.i64.wrap c = c) => Gzx (k := k) (cenV a) (fun v => v.1) ((cenV b).length : Int) c hc (by omega)
      have s2 := fun {R : Type} (k : Int → Option R) (c : Int) (hc : IntKind.i64.wrap c = c) => Gzy (k := k) (cenV b) (fun v => v.1) ((cenV a).length : Int) c hc (by omega)
      have s3 := fun {R : Type} (k : Int → Option R) (c : Int) (hc : IntKind.i64.wrap c = c) => Gzx (k := k) (cenV a) (fun v => v.2.1) ((cenV b).length : Int) c hc (by omega)
      have s4 := fun {R : Type} (k : Int → Option R) (c : Int) (hc : IntKind.i64.wrap c = c) => Gzy (k := k) (cenV b) (fun v => v.2.1) ((cenV a).length : Int) c hc (by omega)
      have s5 := fun {R : Type} (k : Int → Option R) (c : Int) (hc : IntKind.i64.wrap c = c) => Gzx (k := k) (cenV a) (fun v => v.2.2) ((cenV b).length : Int) c hc (by omega)
      have s6 := fun {R : Type} (k : Int → Option R) (c : Int) (hc : IntKind.i64.wrap c = c) => Gzy (k := k) (cenV b) (fun v => v.2.2) ((cenV a).length : Int) c hc (by omega)
      rw [s1 _ 0 rfl, s2 _ _ (Uzv _), s3 _ 0 rfl, s4 _ _ (Uzv _), s5 _ 0 rfl, s6 _ _ (Uzv _)]
      simp only [Int.zero_add, Hzt, Qzg, Uzu, ca, cb]
      rw [Hzv ⟨InR.wr _, InR.wr _, InR.wr _⟩]
theorem Bz1 (a b : List V3) (m : Int) : (dzc a b m 64).o = some (yzp a b m) := by rw [← Nzv, kzb]
theorem Kzv {l : List V3} {j : Nat} (h : j < l.length) : (l.take (j + 1)).filter bz0 = (l.take j).filter bz0 ++ (bif bz0 (l.getD j default) then [l.getD j default] else []) := by
  have e : l.take (j + 1) = l.take j ++ [l.getD j default] := by
    rw [List.take_add_one, List.getD_eq_getElem?_getD]
    rw [List.getElem?_eq_getElem h]; rfl
  rw [e, List.filter_append]
  cases hu : bz0 (l.getD j default) with
  | true => rw [List.filter_cons, hu]; rfl
  | false => rw [List.filter_cons, hu]; rfl
theorem Uzw (a : List IV3) (ra : Int) (b : List IV3) (rb : Int) (hs : List V3) (hl : hs.length < 4294967280) : (nz2 a ra b rb hs).o = some (bif okF a ra b rb then Fzz a ra b rb hs else nl) := by
  show (hzm a ra b rb hs).run NN = _
  simp only [hzm, T.run, ezt, gz3, Option.bind_some, azw, az7, czr]
  have hq : (!bz4 a || (!bz4 b || (!radV ra || !radV rb))) = !okF a ra b rb := by
    unfold okF; cases bz4 a <;> cases bz4 b <;> cases radV ra <;> cases radV rb <;> rfl
  rw [hq]
  cases okF a ra b rb with
  | false => rfl
  | true =>
    simp only [Bool.not_true, cond_false, cond_true]
    have fl : ((hs.take hs.length).filter bz0).length ≤ hs.length := by
      have := List.length_filter_le bz0 (hs.take hs.length); simp at this ⊢; omega
    refine (bzn (fun j => ((hs.take j).filter bz0, (j : Int))) ((hs.take hs.length).filter bz0) hs.length rfl (show hs.length < 4294967296 by omega) (fun j hj => ?_) ?_).trans ?_
    · have fj : ((hs.take j).filter bz0).length ≤ j := by
        have := List.length_filter_le bz0 (hs.take j); simp at this ⊢; omega
      rw [az6 (by simpa using hj), az8 ⟨by simp, by simpa using hj⟩]
      simp only [Int.toNat_natCast, ezu, Option.bind_some, wn (show j < 4294967296 by omega), Kzv hj]
      cases bz0 (hs.getD j default) with
      | true =>
        simp only [cond_true]
        rw [az8 ⟨by omega, by omega⟩, az8 ⟨by simp only [List.length_cons, List.length_nil]; omega, by simp only [List.length_cons, List.length_nil, bz1]; omega⟩]; rfl
      | false => simp only [cond_false, List.append_nil, az7]
    · rw [az5 (by simp)]
    · simp only [Tz3, Option.bind_some]
      rw [List.take_length] at fl ⊢
      have eax : ref14_Axes_C.o = some axesL := rfl
      have fin : ∀ w : List V3, w.length ≤ hs.length + 1 → (ref14_Axes_C.o.bind fun y_1 => grd ((w.length + y_1.length) * 24 ≤ 140737488355328 ∧ w.length + y_1.length ≤ maxLen) ((czh a).o.bind fun y_2 => (czh b).o.bind fun y_3 => (dzc y_2 y_3 (IntKind.i64.wrap (ra + rb)) 64).o.bind fun y_4 =>
          andC ((dzb y_4.Normal).o.bind fun y_5 => bif y_5 then grd (((w ++ y_1).length + [y_4.Normal].length) * 24 ≤ 140737488355328 ∧ (w ++ y_1).length + [y_4.Normal].length ≤ maxLen) (some (.out (w ++ y_1 ++ [y_4.Normal]))) else some (.out (w ++ y_1)) : Option (Step3 Unit (List V3) (List V3))) fun y => some y)) = some (w ++ (axesL ++ Izz a ra b rb)) := by
        intro w hw
        have l6 : axesL.length = 6 := rfl
        rw [eax, Option.bind_some, az8 ⟨by omega, by rw [bz1]; omega⟩, hzi, Option.bind_some, hzi, Option.bind_some, Bz1, Option.bind_some, ezu, Option.bind_some]
        unfold Izz Fz9
        cases bz0 (yzp (cenV a) (cenV b) (IntKind.i64.wrap (ra + rb))).Normal
        · simp only [cond_false, az7, List.append_nil]
        · simp only [cond_true]
          rw [az8 ⟨by simp only [List.length_append, List.length_cons, List.length_nil]; omega, by simp only [List.length_append, List.length_cons, List.length_nil, bz1]; omega⟩, az7, List.append_assoc]
      unfold Fzz Nzl
      cases (Czv a b).2 with
      | false =>
        simp only [cond_false, az7, List.nil_append]
        exact fin _ (by omega)
      | true =>
        simp only [cond_true]
        rw [az8 ⟨by simp only [List.length_cons, List.length_nil]; omega, by simp only [List.length_cons, List.length_nil, bz1]; omega⟩, az7]
        refine (fin (hs.filter bz0 ++ [(Czv a b).1]) (by simp only [List.length_append, List.length_cons, List.length_nil]; omega)).trans ?_
        rw [List.append_assoc]
theorem Oz2 (a : List IV3) (ra : Int) (b : List IV3) (rb : Int) (hs : List V3) : (Fzz a ra b rb hs).length ≤ hs.length + 8 := by
  have := List.length_filter_le bz0 hs
  unfold Fzz Nzl Izz axesL
  cases (Czv a b).2 <;> cases bz0 (Fz9 a ra b rb).Normal <;> simp <;> omega
theorem Kz0 {l : List V3} {p : V3 → Bool} : ∀ (m j : Nat), j + m = l.length → (match scan (fun i => sw (p (l.getD i default)) ((i : Int), true)) m j with | some r => some (l.getD r.1.toNat default) | none => none) = (l.drop j).find? p
  | 0, j, h => by rw [List.drop_eq_nil_of_le (by omega)]; rfl
  | m + 1, j, h => by
    rw [Gz5 (by omega), szt]
    simp only [scan]
    cases hp : p (l.getD j default) with
    | true => simp [sw]
    | false => simp only [sw, cond_false]; exact Kz0 m (j + 1) (by omega)
theorem Uzx (a : List IV3) (ra : Int) (b : List IV3) (rb : Int) (hs : List V3) (hl : hs.length < 4294967280) : (nz3 a ra b rb hs).o = some (zzd a ra b rb hs) := by
  show (hzn a ra b rb hs).run NN = _
  simp only [hzn, T.run, Uzw a ra b rb hs hl, Option.bind_some]
  unfold zzd
  cases hk : okF a ra b rb with
  | false => rfl
  | true =>
    have cl := Oz2 a ra b rb hs
    simp only [cond_true]
    generalize Fzz a ra b rb hs = l at cl ⊢
    rw [Hzd l a ra b rb (by omega), Option.bind_some]
    have sf := Kz0 (l := l) (p := fun n => sepV n a ra b rb) l.length 0 (by omega)
    rw [List.drop_zero] at sf
    rw [← sf]
    have ef : (fun i => sw (firB l a ra b rb i) ((i : Int), true)) = (fun i => sw (sepV (l.getD i default) a ra b rb) ((i : Int), true)) := rfl
    rw [ef]
    cases h : scan (fun i => sw (sepV (l.getD i default) a ra b rb) ((i : Int), true)) l.length 0 with
    | none => rfl
    | some r =>
      obtain ⟨j, h1, h2, h3, -⟩ := gz6 _ _ h
      cases hb : sepV (l.getD j default) a ra b rb with
      | false => rw [hb] at h3; cases h3
      | true =>
        rw [hb] at h3; simp only [sw, cond_true, Option.some.injEq] at h3
        subst h3
        simp only [Option.getD_some, Bool.not_true, cond_false]
        rw [az8 ⟨by omega, by omega⟩]; rfl
open Go.Proofs
theorem Szb {α : Type} [Inhabited α] {f : Nat → α} {n i : Nat} (h : i < n) : (tab f n).getD i default = f i := kzn h
theorem Rz7 (hs : List V3) {j : Nat} (hj : j < 4294967295) {R : Type} {k : List V3 → Option R} : (andC (bif decide ((j : Int) < (hs.length : Int)) then grd (0 ≤ (j : Int) ∧ (j : Int) ≤ ((j + 1 : Nat) : Int) ∧ ((j + 1 : Nat) : Int) ≤ (hs.length : Int)) (some (.out ((hs.drop j).take ((((j + 1 : Nat) : Int)).toNat - j)))) else some (.out nl) : Option (Step3 Unit (List V3) R)) k) = k ((hs.drop j).take 1) := by
  by_cases hc : (j : Int) < (hs.length : Int)
  · rw [az6 hc, az8 ⟨by omega, by omega, by omega⟩, az7, show (((j + 1 : Nat) : Int)).toNat - j = 1 by omega]
  · rw [az5 hc, az7, List.drop_eq_nil_of_le (by omega)]; rfl
theorem Nz1 (s : aza) (b : List az0) (hs : List V3) (hbl : b.length < 4294967296) (hl : hs.length < 4294967280) : (sz5 s b hs).o = some (clsV s b hs) := by
  have hpl := xzr s
  show (kzf s b hs).run NN = _
  simp only [kzf, T.run]
  rw [Hzf s b hbl, Option.bind_some]
  unfold clsV
  by_cases h : czp s = 0 ∧ boxV s.Robot b = true
  · rw [if_pos h, if_pos h]
    simp only [Bool.not_true, cond_false, bzv]
    refine (lzs (fun j => ((bif bzk (misK s b hs) j then (1 : Int) else 0), tab (fun k => (fndK s b hs k).1) j, (j : Int))) (colK s b hs) ((bif bzk (misK s b hs) (bzj s).length then (1 : Int) else 0), tab (fun k => (fndK s b hs k).1) (bzj s).length) (bzj s).length ?_ (show (bzj s).length < 4294967296 by omega) (fun j hj => ?_) ?_).trans ?_
    · have : bzk (misK s b hs) 0 = true := noneB_iff.2 fun i hi => by omega
      rw [this]; rfl
    · dsimp only
      have hj1 : 0 ≤ (j : Int) ∧ (j : Int) < ((bzj s).length : Int) := by omega
      rw [az6 (by omega), Int.toNat_natCast, wn (by omega), Rz7 hs (by omega)]
      simp only [Szb hj, az8 hj1]
      have eA : (Qz6 s b j).points = bz3 s b (pA s j) ∧ (Qz6 s b j).radius = fzi s (pA s j) := ⟨rfl, rfl⟩
      have eB : (Qz7 s b j).points = bz3 s b (pB s j) ∧ (Qz7 s b j).radius = fzi s (pB s j) := ⟨rfl, rfl⟩
      have ef : zzd (bz3 s b (pA s j)) (fzi s (pA s j)) (bz3 s b (pB s j)) (fzi s (pB s j)) ((hs.drop j).take 1) = fndK s b hs j := rfl
      have eo : ovV (yzp (cenV (bz3 s b (pA s j))) (cenV (bz3 s b (pB s j))) (IntKind.i64.wrap (fzi s (pA s j) + fzi s (pB s j)))).Left (yzp (cenV (bz3 s b (pA s j))) (cenV (bz3 s b (pB s j))) (IntKind.i64.wrap (fzi s (pA s j) + fzi s (pB s j)))).Right (bz3 s b (pA s j)) (fzi s (pA s j)) (bz3 s b (pB s j)) (fzi s (pB s j)) = ovK s b j := rfl
      rw [eA.1, eA.2, eB.1, eB.2]
      simp only [Uzx _ _ _ _ ((hs.drop j).take 1) (by simp; omega), Option.bind_some, ef, hzi, Bz1, sz6, eo]
      rw [az8 ⟨by simp only [bzv, List.length_cons, List.length_nil]; omega, by simp only [bzv, List.length_cons, List.length_nil, bz1]; omega⟩, Fzb, iz4]
      unfold colK
      have hm : misK s b hs j = !(fndK s b hs j).2 := rfl
      rw [hm]
      cases hf : (fndK s b hs j).2 with
      | true =>
        simp only [cond_true, Bool.not_true, Bool.not_false, Bool.and_true, Bool.false_and, sw, cond_false, az7]
      | false =>
        simp only [cond_false, Bool.not_true, Bool.not_false, Bool.and_false, Bool.true_and]
        cases ovK s b j with
        | true => rfl
        | false => rfl
    · dsimp only
      rw [az5 (by omega)]
    · cases scan (colK s b hs) (bzj s).length 0 with
      | some v => rfl
      | none => rfl
  · rw [if_neg h, if_neg h]; rfl
open Go.Proofs
abbrev PlS := List azh × List azg
noncomputable def Qzb (s : aza) (p q : List Int) (d : Int) (ps : List azh) (tk : List azg) (k i : Int) (h : List V3) : Option (Step3 PlS (List azh) azk) :=
  if 4096 ≤ ps.length then some (.fin ⟨0, nl, ⟨k, i, nl⟩, ⟨0, nl, nl⟩⟩) else
  if (clsV s (dza p q k i).1 h).Kind = 1 then some (.next (ps ++ [⟨k, i, (clsV s (dza p q k i).1 h).Normals⟩], tk)) else
  if (clsV s (dza p q k i).1 h).Kind = 2 then some (.fin ⟨2, nl, ⟨k, i, nl⟩, (clsV s (dza p q k i).1 h).Witness⟩) else
  if k = d then some (.fin ⟨0, nl, ⟨k, i, nl⟩, ⟨0, nl, nl⟩⟩) else
  some (.next (ps, tk ++ [⟨IntKind.i64.wrap (k + 1), IntKind.i64.wrap (IntKind.i64.wrap (2 * i) + 1), (clsV s (dza p q k i).1 h).Normals⟩, ⟨IntKind.i64.wrap (k + 1), IntKind.i64.wrap (2 * i), (clsV s (dza p q k i).1 h).Normals⟩]))
theorem Czp {σ τ R : Type} {f : σ → Option (Step3 σ τ R)} {x y : σ} {N : Nat} (h : f x = some (.next y)) : iter f (N + 1) x = iter f N y := by simp only [iter, h]
theorem Izt {σ τ R : Type} {f : σ → Option (Step3 σ τ R)} {x : σ} {r : R} {N : Nat} (h : f x = some (.fin r)) : iter f (N + 1) x = some (.inr r) := by simp only [iter, h]
theorem Vzi {σ τ R : Type} {f : σ → Option (Step3 σ τ R)} {x : σ} {y : τ} {N : Nat} (h : f x = some (.out y)) : iter f (N + 1) x = some (.inl y) := by simp only [iter, h]
theorem Qzy (s : aza) (p q : List Int) (hp : p.length < 4294967296) (hq : q.length < 4294967296) {d : Int} (h20 : d ≤ 20) {f : PlS → Option (Step3 PlS (List azh) azk)}
    (hf : ∀ ps tk k i h, ps.length ≤ 4096 → tk.length ≤ 1000000 → 0 ≤ k → k ≤ d → h.length ≤ 576 → f (ps, tk ++ [⟨k, i, h⟩]) = Qzb s p q d ps tk k i h) :
    ∀ (m : Nat) (k i : Int) (h : List V3) (ps : List azh) (W : XW) (n : Nat) (tk : List azg), k + m = d → 0 ≤ k → m + 1 ≤ n → h.length ≤ 576 → PsB ps → tk.length + m ≤ 1000000 →
      ∃ ok ps' W', exO n s p q d k i h ps W = some (exR ok ps' W' s p q d) ∧ PsB ps' ∧
        (ok = true → ∃ c, c + 1 ≤ 2 ^ (m + 1) ∧ ∀ N, iter f (N + c) (ps, tk ++ [⟨k, i, h⟩]) = iter f N (ps', tk)) ∧
        (ok = false → ∃ c, c + 1 ≤ 2 ^ (m + 1) ∧ ∀ N, iter f (N + c) (ps, tk ++ [⟨k, i, h⟩]) = some (.inr (Czd false ps' W'))) := by
  intro m
  induction m with
  | zero =>
    intro k i h ps W n tk hk h0 hn hh hps htk
    obtain ⟨n, rfl⟩ : ∃ m, n = m + 1 := ⟨n - 1, by omega⟩
    have hv := nzk s (dza p q k i).1 h (by have := uzo p q k i; omega) (by omega)
    have v1 := Kzj s (dza p q k i).1 h
    have e := hf ps tk k i h hps.1 (by omega) h0 (by omega) hh
    rw [Kzt n s p q d k i h ps W hp hq hv hps]
    unfold Qzb at e
    generalize clsV s (dza p q k i).1 h = v at hv v1 e ⊢
    by_cases c0 : 4096 ≤ ps.length
    · rw [if_pos c0] at e ⊢
      exact ⟨false, ps, _, rfl, hps, (fun h => by cases h), fun _ => ⟨1, by decide, fun N => Izt e⟩⟩
    · rw [if_neg c0] at e ⊢
      by_cases c1 : v.Kind = 1
      · rw [if_pos c1] at e ⊢
        refine ⟨true, _, W, rfl, ⟨by simp; omega, fun x hx => ?_⟩, fun _ => ⟨1, by decide, fun N => Czp e⟩, (fun h => by cases h)⟩
        rcases List.mem_append.1 hx with hx | hx
        · exact hps.2 x hx
        · simp at hx; subst hx; exact v1
      · rw [if_neg c1] at e ⊢
        by_cases c2 : v.Kind = 2
        · rw [if_pos c2] at e ⊢
          exact ⟨false, ps, _, rfl, hps, (fun h => by cases h), fun _ => ⟨1, by decide, fun N => Izt e⟩⟩
        · rw [if_neg c2] at e ⊢
          rw [if_pos (by omega)] at e
          rw [if_neg (by omega)]
          exact ⟨false, ps, _, rfl, hps, (fun h => by cases h), fun _ => ⟨1, by decide, fun N => Izt e⟩⟩
  | succ m ih =>
    intro k i h ps W n tk hk h0 hn hh hps htk
    obtain ⟨n, rfl⟩ : ∃ m, n = m + 1 := ⟨n - 1, by omega⟩
    have hv := nzk s (dza p q k i).1 h (by have := uzo p q k i; omega) (by omega)
    have v1 := Kzj s (dza p q k i).1 h
    have e := hf ps tk k i h hps.1 (by omega) h0 (by omega) hh
    rw [Kzt n s p q d k i h ps W hp hq hv hps]
    unfold Qzb at e
    generalize clsV s (dza p q k i).1 h = v at hv v1 e ⊢
    have one : 1 + 1 ≤ 2 ^ (m + 1 + 1) := by have := Nat.one_le_two_pow (n := m + 1); rw [Nat.pow_succ]; omega
    by_cases c0 : 4096 ≤ ps.length
    · rw [if_pos c0] at e ⊢
      exact ⟨false, ps, _, rfl, hps, (fun h => by cases h), fun _ => ⟨1, one, fun N => Izt e⟩⟩
    · rw [if_neg c0] at e ⊢
      by_cases c1 : v.Kind = 1
      · rw [if_pos c1] at e ⊢
        refine ⟨true, _, W, rfl, ⟨by simp; omega, fun x hx => ?_⟩, fun _ => ⟨1, one, fun N => Czp e⟩, (fun h => by cases h)⟩
        rcases List.mem_append.1 hx with hx | hx
        · exact hps.2 x hx
        · simp at hx; subst hx; exact v1
      · rw [if_neg c1] at e ⊢
        by_cases c2 : v.Kind = 2
        · rw [if_pos c2] at e ⊢
          exact ⟨false, ps, _, rfl, hps, (fun h => by cases h), fun _ => ⟨1, one, fun N => Izt e⟩⟩
        · rw [if_neg c2] at e ⊢
          rw [if_neg (by omega)] at e
          rw [if_pos (by omega)]
          have hw : IntKind.i64.wrap (k + 1) = k + 1 := w64 (by omega) (by omega)
          rw [hw] at e ⊢
          have e' : f (ps, tk ++ [⟨k, i, h⟩]) = some (.next (ps, (tk ++ [⟨k + 1, IntKind.i64.wrap (IntKind.i64.wrap (2 * i) + 1), v.Normals⟩]) ++ [⟨k + 1, IntKind.i64.wrap (2 * i), v.Normals⟩])) := by rw [e, List.append_assoc]; rfl
          have pw : 2 ^ (m + 1 + 1) = 2 ^ (m + 1) + 2 ^ (m + 1) := by rw [Nat.pow_succ 2 (m + 1)]; omega
          obtain ⟨ok1, ps1, W1, e1, b1, b2, b3⟩ := ih (k + 1) (IntKind.i64.wrap (2 * i)) v.Normals ps W n (tk ++ [⟨k + 1, IntKind.i64.wrap (IntKind.i64.wrap (2 * i) + 1), v.Normals⟩]) (by omega) (by omega) (by omega) v1 hps (by simp; omega)
          rw [e1]
          cases ok1 with
          | false =>
            obtain ⟨c, hc, hN⟩ := b3 rfl
            exact ⟨false, ps1, W1, rfl, b1, (fun h => by cases h), fun _ => ⟨c + 1, by omega, fun N => (Czp e').trans (hN N)⟩⟩
          | true =>
            obtain ⟨c, hc, hN⟩ := b2 rfl
            obtain ⟨ok2, ps2, W2, e2, d1, d2, d3⟩ := ih (k + 1) (IntKind.i64.wrap (IntKind.i64.wrap (2 * i) + 1)) v.Normals ps1 W1 n tk (by omega) (by omega) (by omega) v1 b1 (by omega)
            refine ⟨ok2, ps2, W2, e2, d1, fun h => ?_, fun h => ?_⟩
            · obtain ⟨c', hc', hN'⟩ := d2 h
              refine ⟨c' + c + 1, by omega, fun N => ?_⟩
              rw [show N + (c' + c + 1) = (N + c') + c + 1 by omega, Czp e', hN, hN']
            · obtain ⟨c', hc', hN'⟩ := d3 h
              refine ⟨c' + c + 1, by omega, fun N => ?_⟩
              rw [show N + (c' + c + 1) = (N + c') + c + 1 by omega, Czp e', hN, hN']
theorem Uz4 (s : aza) (p q : List Int) : (yz4 s p q).o = some (!Cz6 s p q) := by
  show (qzy s p q).run NN = _
  simp only [qzy, T.run, fzk, Ezi, Option.bind_some]
  unfold Cz6
  by_cases h : czp s = 0
  · rw [dzm h, show (czp s != 0) = false by simp [h]]
    cases fzo s.Robot p <;> cases fzo s.Robot q <;> rfl
  · rw [dzn h, show (czp s != 0) = true by simp [h]]; rfl
theorem ozy (s : aza) (p q : List Int) (d : Int) (hp : p.length < 4294967296) (hq : q.length < 4294967296) :
    ∃ r, (dz9 s p q d).o = some r ∧ (lz4 s p q d).o = some r ∧ ResB r ∧ (¬ (0 ≤ d ∧ d ≤ 20) → r = rzy) := by
  have nb : PsB nl := ⟨by simp [nl], by simp [nl]⟩
  have rn : ResB rzy := ⟨by simp [rzy, nl], by simp [rzy, nl], by simp [rzy, nl], by simp [rzy, nl], by simp [rzy, nl]⟩
  have er := Uz4 s p q
  by_cases hd : 0 ≤ d ∧ d ≤ 20
  · obtain ⟨ra, ea, oka⟩ := Pzp s p q hp hq hd.1 hd.2
    have resb : ResB ra := ⟨oka.bd.1, oka.bd.2, by rw [oka.norm]; simp, oka.lens.1, oka.lens.2⟩
    refine ⟨ra, ea, ?_, resb, fun h => absurd hd h⟩
    show (hzt s p q d).run NN = _
    simp only [hzt, T.run]
    rw [show (⟨s.Robot, s.Shapes, s.Skips⟩ : aza) = s from rfl, er, Option.bind_some, decide_eq_false (p := d < 0) (by omega), decide_eq_false (p := d > 20) (by omega)]
    cases hb : Cz6 s p q with
    | true =>
      obtain ⟨ok, ps, W, e1, -⟩ := Szj s p q hp hq hd.2 d.toNat 0 0 nl nl W0 NN (by omega) (by omega) (by omega) (by decide) (by show _ ≤ 4294967296; omega) (by simp [nl]) nb
      have e2 := zzr s p q d ok ps W hd.1 hd.2 e1
      rw [hb, ea] at e2
      simp only [cond_true, Option.some.injEq] at e2
      rw [e2]; rfl
    | false =>
      simp only [Bool.not_false, Bool.not_true, cond_false, az7]
      generalize hf : (fun x227 : List azh × List azg => (bif decide (((x227.2.length : Nat) : Int) > 0) then _ else _ : Option (Step3 PlS (List azh) azk))) = f
      have hstep : ∀ ps tk k i h, ps.length ≤ 4096 → tk.length ≤ 1000000 → 0 ≤ k → k ≤ d → h.length ≤ 576 → f (ps, tk ++ [⟨k, i, h⟩]) = Qzb s p q d ps tk k i h := by
        intro ps tk k i h h1 h2 h3 h4 h5
        subst hf
        have hl : (tk ++ [(⟨k, i, h⟩ : azg)]).length = tk.length + 1 := by simp
        have hw : IntKind.i64.wrap ((((tk ++ [(⟨k, i, h⟩ : azg)]).length : Nat) : Int) - 1) = (tk.length : Int) := by rw [hl, w64 (by omega) (by omega)]; omega
        have hg : (tk ++ [(⟨k, i, h⟩ : azg)]).getD tk.length default = ⟨k, i, h⟩ := by simp [List.getD_eq_getElem?_getD]
        have ht : (tk ++ [(⟨k, i, h⟩ : azg)]).take tk.length = tk := by simp
        have g1 : 0 ≤ (tk.length : Int) ∧ (tk.length : Int) < (((tk ++ [(⟨k, i, h⟩ : azg)]).length : Nat) : Int) := by rw [hl]; omega
        have g2 : tk.length < (tk ++ [(⟨k, i, h⟩ : azg)]).length := by rw [hl]; omega
        have g3 : 0 ≤ (tk.length : Int) ∧ (tk.length : Int) ≤ (((tk ++ [(⟨k, i, h⟩ : azg)]).length : Nat) : Int) ∧ 0 ≤ tk.length := by rw [hl]; omega
        have pl := uzo p q k i
        simp only [hw, Int.toNat_natCast, hg, ht, az8 g1, az8 g2, az8 g3]
        rw [az6 (by rw [hl]; omega)]
        unfold Qzb
        by_cases c0 : 4096 ≤ ps.length
        · rw [if_pos c0, az6 (by omega)]
        · rw [if_neg c0, az5 (by omega), Hzc p q k i hp hq]
          simp only [Option.bind_some]
          rw [Nz1 s (dza p q k i).1 h (by omega) (by omega)]
          simp only [Option.bind_some]
          generalize clsV s (dza p q k i).1 h = v
          by_cases c1 : v.Kind = 1
          · rw [if_pos c1, dzm c1, az8 ⟨by simp only [List.length_cons, List.length_nil]; omega, by simp only [List.length_cons, List.length_nil, bz1]; omega⟩]
          · rw [if_neg c1, dzn c1]
            by_cases c2 : v.Kind = 2
            · rw [if_pos c2, dzm c2]
            · rw [if_neg c2, dzn c2]
              by_cases c3 : k = d
              · rw [if_pos c3, dzm c3]
              · rw [if_neg c3, dzn c3, az8 ⟨by simp only [List.length_cons, List.length_nil]; omega, by simp only [List.length_cons, List.length_nil, bz1]; omega⟩]
      obtain ⟨ok, ps, W, e1, b1, b2, b3⟩ := Qzy s p q hp hq hd.2 hstep d.toNat 0 0 nl nl W0 NN [] (by omega) (by omega) (by show _ ≤ 4294967296; omega) (by simp [nl]) nb (by simp; omega)
      have e2 := zzr s p q d ok ps W hd.1 hd.2 e1
      rw [hb, ea] at e2
      simp only [cond_false, Option.some.injEq] at e2
      have p21 : 2 ^ (d.toNat + 1) ≤ 2097152 := by
        have : 2 ^ (d.toNat + 1) ≤ 2 ^ 21 := Nat.pow_le_pow_right (by decide) (by omega)
        have e : 2 ^ 21 = 2097152 := by decide
        omega
      cases ok with
      | true =>
        obtain ⟨c, hc, hN⟩ := b2 rfl
        have k1 := hN (4294967295 - c + 1)
        rw [show 4294967295 - c + 1 + c = NN by show _ = 4294967296; omega, List.nil_append] at k1
        rw [k1]
        have out : f (ps, []) = some (.out ps) := by subst hf; rfl
        rw [Vzi out, e2]; rfl
      | false =>
        obtain ⟨c, hc, hN⟩ := b3 rfl
        have k1 := hN (4294967296 - c)
        rw [show 4294967296 - c + c = NN by show _ = 4294967296; omega, List.nil_append] at k1
        rw [k1, e2]; rfl
  · refine ⟨rzy, ?_, ?_, rn, fun _ => rfl⟩
    · show (jzi s p q d).run NN = _
      have e0 : (ezj ⟨s.Robot, s.Shapes, s.Skips⟩).o = some (czp s) := iz0 s
      simp only [jzi, T.run, e0, szl, Option.bind_some, azw, czr, az7]
      have : (decide (d < 0) || decide (d > 20)) = true := by simp only [Bool.or_eq_true, decide_eq_true_eq]; omega
      rw [this]
      cases ((czp s != 0) || (!fzo s.Robot p || !fzo s.Robot q)) <;> rfl
    · show (hzt s p q d).run NN = _
      simp only [hzt, T.run]
      rw [show (⟨s.Robot, s.Shapes, s.Skips⟩ : aza) = s from rfl, er, Option.bind_some]
      simp only [azw, az7, czr]
      have : (decide (d < 0) || decide (d > 20)) = true := by simp only [Bool.or_eq_true, decide_eq_true_eq]; omega
      rw [this, Bool.or_true]; rfl
theorem Cze (raw : aza) (x y l m n : List Int) (depth : Int) (hx : x.length < 4294967296) (hy : y.length < 4294967296) (hl : l.length < 4294967296) (hm : m.length < 4294967296) (hn : n.length < 4294967296) : (czg raw x y l m n depth).o = some true := by
  suffices h : ∃ r, (czg raw x y l m n depth).o = some r ∧ r = true by
    obtain ⟨r, h1, rfl⟩ := h; exact h1
  show ∃ r, (gzz raw x y l m n depth).run NN = some r ∧ r = true
  obtain ⟨⟨s, p, q, d⟩, e1, ⟨d0, d1⟩, lp, lq⟩ := Ezb l m n depth hl hm hn
  simp only at d0 d1 lp lq
  have es : ∀ s : aza, (⟨s.Robot, s.Shapes, s.Skips⟩ : aza) = s := fun _ => rfl
  have ee : ∀ r : azk, (⟨r.Kind, r.Pieces, r.At, r.Witness⟩ : azk) = r := fun _ => rfl
  have en : (⟨0, nl, (⟨0, 0, nl⟩ : azh), (⟨0, nl, nl⟩ : bz6)⟩ : azk) = rzy := rfl
  obtain ⟨r1, a1, b1, c1, -⟩ := ozy raw x y (IntKind.i64.wrap (d - 1)) hx hy
  obtain ⟨r2, a2, b2, c2, -⟩ := ozy s p q d (by omega) (by omega)
  obtain ⟨r3, a3, b3, c3, -⟩ := ozy s p y d (by omega) hy
  obtain ⟨r4, a4, -, c4, n4⟩ := ozy s p q (IntKind.i64.wrap (-1 - d)) (by omega) (by omega)
  obtain ⟨r5, a5, -, c5, n5⟩ := ozy s p q (IntKind.i64.wrap (21 + d)) (by omega) (by omega)
  have n4 := n4 (by rw [w64 (by omega) (by omega)]; omega)
  have n5 := n5 (by rw [w64 (by omega) (by omega)]; omega)
  subst n4 n5
  simp only [gzz, T.run, e1, Tz6, Option.bind_some, cond_true, es, a1, b1, a2, b2, a3, b3, a4, a5, ee, en, yzh c1, yzh c2, yzh c3, yzh c4]
  exact ⟨_, rfl, rfl⟩
end Go.Abs
