/-
  DM (a part of a claim: our own text).
-/
import Derived.Test.YtomogglfhepnmaaGreatXEDL2
namespace Go.Abs
def d1 (x : Nat) : Nat := x * 6746518852 / 65536
def d2 (x : Nat) : Nat := d1 x * d1 x / 1073741824
def d3 (x : Nat) : Nat := d2 x * d1 x / 1073741824
def d4 (x : Nat) : Nat := d3 x * d1 x / 1073741824
def d5 (x : Nat) : Nat := d4 x * d1 x / 1073741824
def d6 (x : Nat) : Nat := d5 x * d1 x / 1073741824
def d7 (x : Nat) : Nat := d6 x * d1 x / 1073741824
def d8 (x : Nat) : Nat := d7 x * d1 x / 1073741824
def u1 (x : Nat) : Nat := (x * 6746518853 + 65535) / 65536
def u2 (x : Nat) : Nat := (u1 x * u1 x + 1073741823) / 1073741824
def u3 (x : Nat) : Nat := (u2 x * u1 x + 1073741823) / 1073741824
def u4 (x : Nat) : Nat := (u3 x * u1 x + 1073741823) / 1073741824
def u5 (x : Nat) : Nat := (u4 x * u1 x + 1073741823) / 1073741824
def u6 (x : Nat) : Nat := (u5 x * u1 x + 1073741823) / 1073741824
def u7 (x : Nat) : Nat := (u6 x * u1 x + 1073741823) / 1073741824
def u8 (x : Nat) : Nat := (u7 x * u1 x + 1073741823) / 1073741824
def u9 (x : Nat) : Nat := (u8 x * u1 x + 1073741823) / 1073741824
def u10 (x : Nat) : Nat := (u9 x * u1 x + 1073741823) / 1073741824
def sA (x : Nat) : Nat := d1 x + d5 x / 120
def sB (x : Nat) : Nat := (u3 x + 5) / 6 + (u7 x + 5039) / 5040
def sC (x : Nat) : Nat := u1 x + (u5 x + 119) / 120 + (u9 x + 362879) / 362880
def sD (x : Nat) : Nat := d3 x / 6 + d7 x / 5040
def cA (x : Nat) : Nat := 1073741824 + d4 x / 24 + d8 x / 40320
def cB (x : Nat) : Nat := (u2 x + 1) / 2 + (u6 x + 719) / 720 + (u10 x + 3628799) / 3628800
def cC (x : Nat) : Nat := 1073741824 + (u4 x + 23) / 24 + (u8 x + 40319) / 40320
def cD (x : Nat) : Nat := d2 x / 2 + d6 x / 720
def loS (x : Nat) : Nat := (sA x - sB x) / 16384
def hiS (x : Nat) : Nat := Nat.min 65536 ((sC x - sD x + 16383) / 16384)
def loC (x : Nat) : Nat := (cA x - cB x) / 16384
def hiC (x : Nat) : Nat := Nat.min 65536 ((cC x - cD x + 16383) / 16384)
def ckQ (x : Nat) : Bool := (Nat.ble (loS x) (hiS x) && Nat.ble (loC x) (hiC x)) && (Nat.ble (sD x) (sC x) && (Nat.ble (cD x) (cC x) && (Nat.ble (loS x) (loS (x + 1)) && (Nat.ble (hiS x) (hiS (x + 1)) && (Nat.ble (loC (x + 1)) (loC x) && Nat.ble (hiC (x + 1)) (hiC x))))))
def allB (f : Nat → Bool) (lo : Nat) : Nat → Bool
  | 0 => f lo
  | k + 1 => allB f lo k && allB f (lo + 2 ^ k) k
theorem allB_get {f : Nat → Bool} : ∀ (k lo : Nat), allB f lo k = true → ∀ n, lo ≤ n → n < lo + 2 ^ k → f n = true
  | 0, lo, h, n, h0, h1 => by have : n = lo := by simp at h1; omega
                              subst this; exact h
  | k + 1, lo, h, n, h0, h1 => by
    simp only [allB, Bool.and_eq_true] at h
    rw [Nat.pow_succ] at h1
    by_cases c : n < lo + 2 ^ k
    · exact allB_get k lo h.1 n h0 c
    · exact allB_get k _ h.2 n (by omega) (by omega)
theorem allQ : allB ckQ 0 13 = true := by kernel_rfl
theorem ckQ_at {x : Nat} (h : x < 8192) : sD x ≤ sC x ∧ cD x ≤ cC x ∧ loS x ≤ loS (x + 1) ∧ hiS x ≤ hiS (x + 1) ∧ loC (x + 1) ≤ loC x ∧ hiC (x + 1) ≤ hiC x := by
  have := allB_get 13 0 allQ x (by omega) (by omega)
  simp only [ckQ, Bool.and_eq_true, Nat.ble_eq] at this
  exact this.2
theorem ckQ_v {x : Nat} (h : x < 8192) : loS x ≤ hiS x ∧ loC x ≤ hiC x := by
  have := allB_get 13 0 allQ x (by omega) (by omega)
  simp only [ckQ, Bool.and_eq_true, Nat.ble_eq] at this
  exact this.1
theorem ckQ_w : loS 8192 ≤ hiS 8192 := by
  have h : Nat.ble (loS 8192) (hiS 8192) = true := by kernel_rfl
  simpa only [Nat.ble_eq] using h
theorem ckQ_end : (sD 8192 ≤ sC 8192 ∧ cD 8192 ≤ cC 8192) ∧ (loS 8192 ≤ loC 8191 ∧ hiS 8192 ≤ hiC 8191) := by
  have h : ((Nat.ble (sD 8192) (sC 8192) && Nat.ble (cD 8192) (cC 8192)) && (Nat.ble (loS 8192) (loC 8191) && Nat.ble (hiS 8192) (hiC 8191))) = true := by kernel_rfl
  simp only [Bool.and_eq_true, Nat.ble_eq] at h
  exact ⟨⟨h.1.1, h.1.2⟩, h.2.1, h.2.2⟩
theorem sQ_num (a1 a3 a5 a7 b1 b3 b5 b7 b9 : Nat) (hb : a3 / 6 + a7 / 5040 ≤ b1 + (b5 + 119) / 120 + (b9 + 362879) / 362880) :
    max (0 : Int) (((a1 : Int) - cdiv (b3 : Int) 6 + (a5 : Int) / 120 - cdiv (b7 : Int) 5040) / 16384) = (((a1 + a5 / 120 - ((b3 + 5) / 6 + (b7 + 5039) / 5040)) / 16384 : Nat) : Int) ∧
    min (65536 : Int) (cdiv ((b1 : Int) - (a3 : Int) / 6 + cdiv (b5 : Int) 120 - (a7 : Int) / 5040 + cdiv (b9 : Int) 362880) 16384) = ((Nat.min 65536 ((b1 + (b5 + 119) / 120 + (b9 + 362879) / 362880 - (a3 / 6 + a7 / 5040) + 16383) / 16384) : Nat) : Int) := by
  rw [show ∀ a b, Nat.min a b = min a b from fun _ _ => rfl]
  have e1 : cdiv (b3 : Int) 6 = (((b3 + 5) / 6 : Nat) : Int) := by unfold cdiv; omega
  have e2 : cdiv (b7 : Int) 5040 = (((b7 + 5039) / 5040 : Nat) : Int) := by unfold cdiv; omega
  have e3 : cdiv (b5 : Int) 120 = (((b5 + 119) / 120 : Nat) : Int) := by unfold cdiv; omega
  have e4 : cdiv (b9 : Int) 362880 = (((b9 + 362879) / 362880 : Nat) : Int) := by unfold cdiv; omega
  have e5 : (a5 : Int) / 120 = ((a5 / 120 : Nat) : Int) := by omega
  have e6 : (a3 : Int) / 6 = ((a3 / 6 : Nat) : Int) := by omega
  have e7 : (a7 : Int) / 5040 = ((a7 / 5040 : Nat) : Int) := by omega
  rw [e1, e2, e3, e4, e5, e6, e7]
  generalize (b3 + 5) / 6 = x1 at *
  generalize (b7 + 5039) / 5040 = x2 at *
  generalize (b5 + 119) / 120 = x3 at *
  generalize (b9 + 362879) / 362880 = x4 at *
  generalize a5 / 120 = x5 at *
  generalize a3 / 6 = x6 at *
  generalize a7 / 5040 = x7 at *
  unfold cdiv
  constructor <;> omega
theorem cQ_num (a2 a4 a6 a8 b2 b4 b6 b8 b10 : Nat) (hb : a2 / 2 + a6 / 720 ≤ 1073741824 + (b4 + 23) / 24 + (b8 + 40319) / 40320) :
    max (0 : Int) ((1073741824 - cdiv (b2 : Int) 2 + (a4 : Int) / 24 - cdiv (b6 : Int) 720 + (a8 : Int) / 40320 - cdiv (b10 : Int) 3628800) / 16384) = (((1073741824 + a4 / 24 + a8 / 40320 - ((b2 + 1) / 2 + (b6 + 719) / 720 + (b10 + 3628799) / 3628800)) / 16384 : Nat) : Int) ∧
    min (65536 : Int) (cdiv (1073741824 - (a2 : Int) / 2 + cdiv (b4 : Int) 24 - (a6 : Int) / 720 + cdiv (b8 : Int) 40320) 16384) = ((Nat.min 65536 ((1073741824 + (b4 + 23) / 24 + (b8 + 40319) / 40320 - (a2 / 2 + a6 / 720) + 16383) / 16384) : Nat) : Int) := by
  rw [show ∀ a b, Nat.min a b = min a b from fun _ _ => rfl]
  have e1 : cdiv (b2 : Int) 2 = (((b2 + 1) / 2 : Nat) : Int) := by unfold cdiv; omega
  have e2 : cdiv (b6 : Int) 720 = (((b6 + 719) / 720 : Nat) : Int) := by unfold cdiv; omega
  have e3 : cdiv (b10 : Int) 3628800 = (((b10 + 3628799) / 3628800 : Nat) : Int) := by unfold cdiv; omega
  have e4 : cdiv (b4 : Int) 24 = (((b4 + 23) / 24 : Nat) : Int) := by unfold cdiv; omega
  have e5 : cdiv (b8 : Int) 40320 = (((b8 + 40319) / 40320 : Nat) : Int) := by unfold cdiv; omega
  have e6 : (a4 : Int) / 24 = ((a4 / 24 : Nat) : Int) := by omega
  have e7 : (a8 : Int) / 40320 = ((a8 / 40320 : Nat) : Int) := by omega
  have e8 : (a2 : Int) / 2 = ((a2 / 2 : Nat) : Int) := by omega
  have e9 : (a6 : Int) / 720 = ((a6 / 720 : Nat) : Int) := by omega
  rw [e1, e2, e3, e4, e5, e6, e7, e8, e9]
  generalize (b2 + 1) / 2 = x1 at *
  generalize (b6 + 719) / 720 = x2 at *
  generalize (b10 + 3628799) / 3628800 = x3 at *
  generalize (b4 + 23) / 24 = x4 at *
  generalize (b8 + 40319) / 40320 = x5 at *
  generalize a4 / 24 = x6 at *
  generalize a8 / 40320 = x7 at *
  generalize a2 / 2 = x8 at *
  generalize a6 / 720 = x9 at *
  unfold cdiv
  constructor <;> omega
section
variable {x : Nat} (h : x ≤ 8192)
include h
theorem pdZ : pd1 (x : Int) = (d1 x : Int) := by
  unfold pd1 d1; rw [w64 (by omega) (by omega)]; omega
theorem puZ : pu1 (x : Int) = (u1 x : Int) := by
  unfold pu1 cdiv u1; rw [w64 (by omega) (by omega)]; omega
theorem pdS {k a : Nat} (ha : pd (x : Int) k = (a : Int)) : pd (x : Int) (k + 1) = ((a * d1 x / 1073741824 : Nat) : Int) := by
  have b := prod_bd (pd_bd (x := (x : Int)) (by omega) (by omega) k) (pd1_bd (x := (x : Int)) (by omega) (by omega))
  rw [ha, pdZ h] at b
  simp only [pd]
  rw [ha, pdZ h, w64 (by omega) (by omega), ← Int.natCast_mul]
  omega
theorem puS {k a : Nat} (ha : pu (x : Int) k = (a : Int)) : pu (x : Int) (k + 1) = (((a * u1 x + 1073741823) / 1073741824 : Nat) : Int) := by
  have b := prod_bd (pu_bd (x := (x : Int)) (by omega) (by omega) k) (pu1_bd (x := (x : Int)) (by omega) (by omega))
  rw [ha, puZ h] at b
  simp only [pu]
  rw [ha, puZ h, w64 (by omega) (by omega), ← Int.natCast_mul]
  unfold cdiv
  omega
theorem sQ_eq (hb : sD x ≤ sC x) : encV (sLo (x : Int)) (sHi (x : Int)) = ⟨(loS x : Int), (hiS x : Int)⟩ := by
  have p1 : pd (x : Int) 0 = (d1 x : Int) := pdZ h
  have p2 : pd (x : Int) 1 = (d2 x : Int) := pdS h p1
  have p3 : pd (x : Int) 2 = (d3 x : Int) := pdS h p2
  have p4 : pd (x : Int) 3 = (d4 x : Int) := pdS h p3
  have p5 : pd (x : Int) 4 = (d5 x : Int) := pdS h p4
  have p6 : pd (x : Int) 5 = (d6 x : Int) := pdS h p5
  have p7 : pd (x : Int) 6 = (d7 x : Int) := pdS h p6
  have q1 : pu (x : Int) 0 = (u1 x : Int) := puZ h
  have q2 : pu (x : Int) 1 = (u2 x : Int) := puS h q1
  have q3 : pu (x : Int) 2 = (u3 x : Int) := puS h q2
  have q4 : pu (x : Int) 3 = (u4 x : Int) := puS h q3
  have q5 : pu (x : Int) 4 = (u5 x : Int) := puS h q4
  have q6 : pu (x : Int) 5 = (u6 x : Int) := puS h q5
  have q7 : pu (x : Int) 6 = (u7 x : Int) := puS h q6
  have q8 : pu (x : Int) 7 = (u8 x : Int) := puS h q7
  have q9 : pu (x : Int) 8 = (u9 x : Int) := puS h q8
  obtain ⟨k1, k2⟩ := sQ_num (d1 x) (d3 x) (d5 x) (d7 x) (u1 x) (u3 x) (u5 x) (u7 x) (u9 x) hb
  unfold encV sLo sHi
  rw [p1, p3, p5, p7, q1, q3, q5, q7, q9, k1, k2]
  rfl
theorem cQ_eq (hb : cD x ≤ cC x) : encV (cLo (x : Int)) (cHi (x : Int)) = ⟨(loC x : Int), (hiC x : Int)⟩ := by
  have p1 : pd (x : Int) 0 = (d1 x : Int) := pdZ h
  have p2 : pd (x : Int) 1 = (d2 x : Int) := pdS h p1
  have p3 : pd (x : Int) 2 = (d3 x : Int) := pdS h p2
  have p4 : pd (x : Int) 3 = (d4 x : Int) := pdS h p3
  have p5 : pd (x : Int) 4 = (d5 x : Int) := pdS h p4
  have p6 : pd (x : Int) 5 = (d6 x : Int) := pdS h p5
  have p7 : pd (x : Int) 6 = (d7 x : Int) := pdS h p6
  have p8 : pd (x : Int) 7 = (d8 x : Int) := pdS h p7
  have q1 : pu (x : Int) 0 = (u1 x : Int) := puZ h
  have q2 : pu (x : Int) 1 = (u2 x : Int) := puS h q1
  have q3 : pu (x : Int) 2 = (u3 x : Int) := puS h q2
  have q4 : pu (x : Int) 3 = (u4 x : Int) := puS h q3
  have q5 : pu (x : Int) 4 = (u5 x : Int) := puS h q4
  have q6 : pu (x : Int) 5 = (u6 x : Int) := puS h q5
  have q7 : pu (x : Int) 6 = (u7 x : Int) := puS h q6
  have q8 : pu (x : Int) 7 = (u8 x : Int) := puS h q7
  have q9 : pu (x : Int) 8 = (u9 x : Int) := puS h q8
  have q10 : pu (x : Int) 9 = (u10 x : Int) := puS h q9
  obtain ⟨k1, k2⟩ := cQ_num (d2 x) (d4 x) (d6 x) (d8 x) (u2 x) (u4 x) (u6 x) (u8 x) (u10 x) hb
  unfold encV cLo cHi
  rw [p2, p4, p6, p8, q2, q4, q6, q8, q10, k1, k2]
  rfl
end
def leI (a b : S_Interval) : Prop := a.Lo ≤ b.Lo ∧ a.Hi ≤ b.Hi
theorem leI.refl (a : S_Interval) : leI a a := ⟨Int.le_refl _, Int.le_refl _⟩
theorem leI.trans {a b c : S_Interval} (h : leI a b) (k : leI b c) : leI a c := ⟨Int.le_trans h.1 k.1, Int.le_trans h.2 k.2⟩
theorem q_step {n : Nat} (h : n < 16384) : leI (qV (n : Int)) (qV ((n + 1 : Nat) : Int)) := by
  by_cases c : n + 1 ≤ 8192
  · unfold qV
    have k := ckQ_at (x := n) (by omega)
    rw [if_pos (by omega), if_pos (by omega), sQ_eq (by omega) k.1, sQ_eq c]
    · exact ⟨by simp only; omega, by simp only; omega⟩
    · by_cases e : n + 1 = 8192
      · rw [e]; exact ckQ_end.1.1
      · exact (ckQ_at (x := n + 1) (by omega)).1
  · unfold qV
    by_cases e : n = 8192
    · subst e
      rw [if_pos (by omega), if_neg (by omega)]
      have := sQ_eq (x := 8192) (by omega) ckQ_end.1.1
      rw [this, show (16384 : Int) - ((8192 + 1 : Nat) : Int) = ((8191 : Nat) : Int) by omega, cQ_eq (x := 8191) (by omega) (ckQ_at (by omega)).2.1]
      have := ckQ_end.2
      exact ⟨by simp only; omega, by simp only; omega⟩
    · rw [if_neg (by omega), if_neg (by omega)]
      obtain ⟨m, hm⟩ : ∃ m : Nat, m = 16384 - (n + 1) := ⟨_, rfl⟩
      rw [show (16384 : Int) - ((n + 1 : Nat) : Int) = ((m : Nat) : Int) by omega, show (16384 : Int) - (n : Int) = ((m + 1 : Nat) : Int) by omega]
      have k := ckQ_at (x := m) (by omega)
      rw [cQ_eq (x := m) (by omega) k.2.1, cQ_eq (x := m + 1) (by omega) (ckQ_at (x := m + 1) (by omega)).2.1]
      exact ⟨by simp only; omega, by simp only; omega⟩
theorem q_monoN {n : Nat} : ∀ (k : Nat), n + k ≤ 16384 → leI (qV (n : Int)) (qV ((n + k : Nat) : Int))
  | 0, _ => leI.refl _
  | k + 1, h => (q_monoN k (by omega)).trans (q_step (n := n + k) (by omega))
theorem q_mono {a b : Int} (h0 : 0 ≤ a) (h : a ≤ b) (h1 : b ≤ 16384) : leI (qV a) (qV b) := by
  have := q_monoN (n := a.toNat) (b - a).toNat (by omega)
  rw [show ((a.toNat : Nat) : Int) = a by omega, show ((a.toNat + (b - a).toNat : Nat) : Int) = b by omega] at this
  exact this
theorem q_zero : qV 0 = ⟨0, 0⟩ := by kernel_rfl
theorem q_end : qV 16384 = ⟨65536, 65536⟩ := by kernel_rfl
structure Sb (a b : S_Interval) : Prop where
  va : vV a = true
  vb : vV b = true
  lo : b.Lo ≤ a.Lo
  hi : a.Hi ≤ b.Hi
theorem Sb.refl {a : S_Interval} (h : vV a = true) : Sb a a := ⟨h, h, Int.le_refl _, Int.le_refl _⟩
theorem Sb.trans {a b c : S_Interval} (h : Sb a b) (k : Sb b c) : Sb a c := ⟨h.va, k.vb, Int.le_trans k.lo h.lo, Int.le_trans h.hi k.hi⟩
theorem Sb.ofV (x : Int) : Sb (ofV x) (ofV x) := Sb.refl (ofV_v x)
theorem Sb.iz : Sb iz iz := Sb.refl iz_v
theorem Sb.lim {a b c d : Int} (h1 : c ≤ a) (h2 : b ≤ d) (h : a ≤ b) : Sb (limV a b) (limV c d) :=
  ⟨limV_v h, limV_v (by omega), clV_mono h1, clV_mono h2⟩
theorem Sb.add {a a' b b' : S_Interval} (h : Sb a a') (k : Sb b b') : Sb (addV a b) (addV a' b') := by
  unfold addV
  rw [h.va, h.vb, k.va, k.vb]
  have h1 := vV_iff.1 h.va
  have k1 := vV_iff.1 k.va
  have := h.lo; have := h.hi; have := k.lo; have := k.hi
  exact Sb.lim (by omega) (by omega) (by omega)
theorem negV_v {a : S_Interval} (h : vV a = true) : vV (negV a) = true := by
  have h1 := vV_iff.1 h
  unfold negV; rw [h]; exact vV_iff.2 (by simp only [if_true]; omega)
theorem Sb.neg {a a' : S_Interval} (h : Sb a a') : Sb (negV a) (negV a') := by
  refine ⟨negV_v h.va, negV_v h.vb, ?_, ?_⟩
  · unfold negV; rw [h.va, h.vb]; have := h.hi; simp only [if_true]; omega
  · unfold negV; rw [h.va, h.vb]; have := h.lo; simp only [if_true]; omega
theorem hullV_v {a b : S_Interval} (h : vV a = true) (k : vV b = true) : vV (hullV a b) = true := by
  have h1 := vV_iff.1 h
  have k1 := vV_iff.1 k
  unfold hullV; rw [h, k]; exact vV_iff.2 (by simp only [Bool.and_self, if_true]; omega)
theorem Sb.left {a b : S_Interval} (h : vV a = true) (k : vV b = true) : Sb a (hullV a b) :=
  ⟨h, hullV_v h k, by unfold hullV; rw [h, k]; simp only [Bool.and_self, if_true]; omega, by unfold hullV; rw [h, k]; simp only [Bool.and_self, if_true]; omega⟩
theorem Sb.right {a b : S_Interval} (h : vV a = true) (k : vV b = true) : Sb b (hullV a b) :=
  ⟨k, hullV_v h k, by unfold hullV; rw [h, k]; simp only [Bool.and_self, if_true]; omega, by unfold hullV; rw [h, k]; simp only [Bool.and_self, if_true]; omega⟩
theorem Sb.hull {a b c : S_Interval} (h : Sb a c) (k : Sb b c) : Sb (hullV a b) c := by
  have := h.lo; have := h.hi; have := k.lo; have := k.hi
  exact ⟨hullV_v h.va k.va, h.vb, by unfold hullV; rw [h.va, k.va]; simp only [Bool.and_self, if_true]; omega, by unfold hullV; rw [h.va, k.va]; simp only [Bool.and_self, if_true]; omega⟩
theorem lin_bd {a b x y : Int} (h1 : a ≤ x) (h2 : x ≤ b) : min (a * y) (b * y) ≤ x * y ∧ x * y ≤ max (a * y) (b * y) := by
  rcases Int.le_total 0 y with h | h
  · have := Int.mul_le_mul_of_nonneg_right h1 h
    have := Int.mul_le_mul_of_nonneg_right h2 h
    omega
  · have := Int.mul_le_mul_of_nonpos_right h1 h
    have := Int.mul_le_mul_of_nonpos_right h2 h
    omega
theorem mul_in {a b : S_Interval} {x y : Int} (h1 : a.Lo ≤ x) (h2 : x ≤ a.Hi) (k1 : b.Lo ≤ y) (k2 : y ≤ b.Hi) : mulLo a b ≤ x * y ∧ x * y ≤ mulHi a b := by
  have p := lin_bd (y := y) h1 h2
  have q1 := lin_bd (y := a.Lo) k1 k2
  have q2 := lin_bd (y := a.Hi) k1 k2
  rw [Int.mul_comm y, Int.mul_comm b.Lo, Int.mul_comm b.Hi] at q1 q2
  unfold mulLo mulHi
  omega
theorem div_mono {a b c : Int} (h : a ≤ b) (hc : 0 < c) : a / c ≤ b / c := Int.ediv_le_ediv hc h
theorem cdiv_mono {a b c : Int} (h : a ≤ b) (hc : 0 < c) : cdiv a c ≤ cdiv b c := by
  have := div_mono (a := -b) (b := -a) (by omega) hc
  unfold cdiv; omega
theorem Sb.mul {a a' b b' : S_Interval} (h : Sb a a') (k : Sb b b') : Sb (mulV a b) (mulV a' b') := by
  have h1 := vV_iff.1 h.va
  have k1 := vV_iff.1 k.va
  have hl := h.lo; have hh := h.hi; have kl := k.lo; have kh := k.hi
  have p1 := mul_in (a := a') (b := b') (x := a.Lo) (y := b.Lo) (by omega) (by omega) (by omega) (by omega)
  have p2 := mul_in (a := a') (b := b') (x := a.Lo) (y := b.Hi) (by omega) (by omega) (by omega) (by omega)
  have p3 := mul_in (a := a') (b := b') (x := a.Hi) (y := b.Lo) (by omega) (by omega) (by omega) (by omega)
  have p4 := mul_in (a := a') (b := b') (x := a.Hi) (y := b.Hi) (by omega) (by omega) (by omega) (by omega)
  have e1 : mulLo a' b' ≤ mulLo a b := by
    generalize mulLo a' b' = z at *
    unfold mulLo; omega
  have e2 : mulHi a b ≤ mulHi a' b' := by
    generalize mulHi a' b' = z at *
    unfold mulHi; omega
  unfold mulV
  rw [h.va, h.vb, k.va, k.vb]
  exact Sb.lim (div_mono e1 (by decide)) (cdiv_mono e2 (by decide)) (floor_le_ceil (mul_bd h.va k.va).2.2 (by decide))
theorem qV_bd {x : Int} (h0 : 0 ≤ x) (h1 : x ≤ 16384) : 0 ≤ (qV x).Lo ∧ (qV x).Hi ≤ 65536 ∧ (qV x).Lo ≤ (qV x).Hi := by
  have a := q_mono (Int.le_refl 0) h0 h1
  have b := q_mono h0 h1 (Int.le_refl _)
  rw [q_zero] at a
  rw [q_end] at b
  obtain ⟨a1, a2⟩ := a
  obtain ⟨b1, b2⟩ := b
  simp only at a1 a2 b1 b2
  refine ⟨a1, b2, ?_⟩
  by_cases c : x ≤ 8192
  · have := sQ_eq (x := x.toNat) (by omega) (by
      by_cases e : x.toNat = 8192
      · rw [e]; exact ckQ_end.1.1
      · exact (ckQ_at (by omega)).1)
    rw [show ((x.toNat : Nat) : Int) = x by omega] at this
    have k : loS x.toNat ≤ hiS x.toNat := by
      by_cases e : x.toNat = 8192
      · rw [e]; exact ckQ_w
      · exact (ckQ_v (by omega)).1
    unfold qV
    rw [if_pos c, this]; simp only; omega
  · have := cQ_eq (x := (16384 - x).toNat) (by omega) (ckQ_at (by omega)).2.1
    rw [show (((16384 - x).toNat : Nat) : Int) = 16384 - x by omega] at this
    have k := (ckQ_v (x := (16384 - x).toNat) (by omega)).2
    unfold qV
    rw [if_neg c, this]; simp only; omega
theorem qV_v {x : Int} (h0 : 0 ≤ x) (h1 : x ≤ 16384) : vV (qV x) = true := by
  have := qV_bd h0 h1
  exact vV_iff.2 (by omega)
def sT (y : Int) : S_Interval := if y ≤ 16384 then negV (qV (16384 - y)) else qV (y - 16384)
theorem sT_bd {y : Int} (h0 : 0 ≤ y) (h1 : y ≤ 32768) : vV (sT y) = true ∧ -65536 ≤ (sT y).Lo ∧ (sT y).Hi ≤ 65536 := by
  unfold sT
  split
  · have b := qV_bd (x := 16384 - y) (by omega) (by omega)
    have v := qV_v (x := 16384 - y) (by omega) (by omega)
    refine ⟨negV_v v, ?_⟩
    unfold negV; rw [v]; simp only [if_true]; omega
  · have b := qV_bd (x := y - 16384) (by omega) (by omega)
    exact ⟨qV_v (by omega) (by omega), by omega⟩
theorem sT_mono {y z : Int} (h0 : 0 ≤ y) (h : y ≤ z) (h1 : z ≤ 32768) : leI (sT y) (sT z) := by
  unfold sT
  split
  · split
    · have m := q_mono (a := 16384 - z) (b := 16384 - y) (by omega) (by omega) (by omega)
      unfold negV
      rw [qV_v (x := 16384 - y) (by omega) (by omega), qV_v (x := 16384 - z) (by omega) (by omega)]
      have := m.1; have := m.2
      exact ⟨by simp only [if_true]; omega, by simp only [if_true]; omega⟩
    · have b := qV_bd (x := 16384 - y) (by omega) (by omega)
      have b' := qV_bd (x := z - 16384) (by omega) (by omega)
      unfold negV
      rw [qV_v (x := 16384 - y) (by omega) (by omega)]
      exact ⟨by simp only [if_true]; omega, by simp only [if_true]; omega⟩
  · rw [if_neg (by omega)]
    exact q_mono (by omega) (by omega) (by omega)
def yT (b x : Int) : Int := if (x - b) % 65536 ≤ 32768 then (x - b) % 65536 else 65536 - (x - b) % 65536
theorem yT_bd (b x : Int) : 0 ≤ yT b x ∧ yT b x ≤ 32768 := by unfold yT; split <;> omega
theorem neg_zero_q : negV (qV 0) = qV 0 := by rw [q_zero]; rfl
theorem sinV_T (x : Int) : sinV x = sT (yT 49152 x) := by
  unfold sinV sT yT
  by_cases h0 : x % 65536 / 16384 = 0
  · rw [if_pos h0, if_pos (show (x - 49152) % 65536 ≤ 32768 by omega)]
    by_cases e : (x - 49152) % 65536 ≤ 16384
    · rw [if_pos e, show x % 65536 % 16384 = 0 by omega, show 16384 - (x - 49152) % 65536 = 0 by omega, neg_zero_q]
    · rw [if_neg e, show x % 65536 % 16384 = (x - 49152) % 65536 - 16384 by omega]
  · rw [if_neg h0]
    by_cases h1 : x % 65536 / 16384 = 1
    · rw [if_pos h1]
      by_cases c : (x - 49152) % 65536 ≤ 32768
      · rw [if_pos c, if_neg (by omega)]; congr 1; omega
      · rw [if_neg c, if_neg (by omega)]; congr 1; omega
    · rw [if_neg h1]
      by_cases h2 : x % 65536 / 16384 = 2
      · rw [if_pos h2, if_neg (show ¬ (x - 49152) % 65536 ≤ 32768 by omega), if_pos (by omega)]; congr 2; omega
      · rw [if_neg h2, if_pos (show (x - 49152) % 65536 ≤ 32768 by omega), if_pos (by omega)]; congr 2; omega
theorem cosV_T (x : Int) : cosV x = sT (yT 32768 x) := by
  unfold cosV; rw [sinV_T]; unfold yT
  rw [show (x % 65536 + 16384 - 49152) % 65536 = (x - 32768) % 65536 by omega]
theorem hull1_v {c : Bool} {x y : S_Interval} (h : vV x = true) (k : vV y = true) : vV (hull1 c x y) = true := by
  unfold hull1; split
  · exact hullV_v h k
  · exact h
theorem hull1_sb {c : Bool} {x y : S_Interval} (h : vV x = true) (k : vV y = true) : Sb x (hull1 c x y) := by
  unfold hull1; split
  · exact Sb.left h k
  · exact Sb.refl h
theorem over_in {f : Int → S_Interval} {t b : Int} (hf : ∀ x, f x = sT (yT b x)) (ht : t = b - 32768 ∨ t = b + 32768) {B : S_Interval} (hB : vV B = true) {x : Int} (h1 : B.Lo ≤ x) (h2 : x ≤ B.Hi) : Sb (f x) (overV B (f B.Lo) (f B.Hi) t b) := by
  have hv := vV_iff.1 hB
  have vf : ∀ x, vV (f x) = true ∧ -65536 ≤ (f x).Lo ∧ (f x).Hi ≤ 65536 := fun x => by rw [hf]; exact sT_bd (yT_bd b x).1 (yT_bd b x).2
  have gx := vf x; have gl := vf B.Lo; have gh := vf B.Hi
  have v0 := hullV_v gl.1 gh.1
  unfold overV
  rw [hB, if_pos rfl]
  by_cases w : B.Hi - B.Lo ≥ 65536
  · rw [if_pos w]
    exact ⟨gx.1, by decide, gx.2.1, gx.2.2⟩
  · rw [if_neg w]
    have v1 : vV (hull1 (meetV B t) (hullV (f B.Lo) (f B.Hi)) (ofV 65536)) = true := hull1_v v0 (ofV_v _)
    have s1 : Sb (hullV (f B.Lo) (f B.Hi)) (hull1 (meetV B t) (hullV (f B.Lo) (f B.Hi)) (ofV 65536)) := hull1_sb v0 (ofV_v _)
    have s2 := hull1_sb (c := meetV B b) v1 (ofV_v (-65536))
    refine ⟨gx.1, hull1_v v1 (ofV_v _), ?_, ?_⟩
    ·
      by_cases m : meetV B b = true
      · have e : (hull1 (meetV B b) (hull1 (meetV B t) (hullV (f B.Lo) (f B.Hi)) (ofV 65536)) (ofV (-65536))).Lo ≤ -65536 := by
          rw [m]
          exact (Sb.right v1 (ofV_v (-65536))).lo
        omega
      · have m' : ¬ (B.Lo + (b - B.Lo) % 65536 ≤ B.Hi) := by simpa [meetV] using m
        have l1 := (Sb.left gl.1 gh.1).lo
        have l2 := (Sb.right gl.1 gh.1).lo
        have l3 := s1.lo
        have l4 := s2.lo
        by_cases c : (x - b) % 65536 ≤ 32768
        · have : leI (f B.Lo) (f x) := by
            rw [hf, hf x]
            refine sT_mono (yT_bd _ _).1 ?_ (yT_bd _ _).2
            unfold yT; rw [if_pos c, if_pos (by omega)]; omega
          have := this.1; omega
        · have : leI (f B.Hi) (f x) := by
            rw [hf, hf x]
            refine sT_mono (yT_bd _ _).1 ?_ (yT_bd _ _).2
            unfold yT; rw [if_neg c, if_neg (by omega)]; omega
          have := this.1; omega
    · by_cases m : meetV B t = true
      · have e : 65536 ≤ (hull1 (meetV B t) (hullV (f B.Lo) (f B.Hi)) (ofV 65536)).Hi := by
          rw [m]
          exact (Sb.right v0 (ofV_v 65536)).hi
        have := s2.hi
        omega
      · have m' : ¬ (B.Lo + (t - B.Lo) % 65536 ≤ B.Hi) := by simpa [meetV] using m
        have l1 := (Sb.left gl.1 gh.1).hi
        have l2 := (Sb.right gl.1 gh.1).hi
        have l3 := s1.hi
        have l4 := s2.hi
        by_cases c : (x - t) % 65536 ≤ 32768
        · have : leI (f x) (f B.Lo) := by
            rw [hf, hf B.Lo]
            refine sT_mono (yT_bd _ _).1 ?_ (yT_bd _ _).2
            unfold yT; split <;> split <;> omega
          have := this.2; omega
        · have : leI (f x) (f B.Hi) := by
            rw [hf, hf B.Hi]
            refine sT_mono (yT_bd _ _).1 ?_ (yT_bd _ _).2
            unfold yT; split <;> split <;> omega
          have := this.2; omega
theorem over_mono {f : Int → S_Interval} {t b : Int} (hf : ∀ x, f x = sT (yT b x)) (ht : t = b - 32768 ∨ t = b + 32768) {A B : S_Interval} (h : Sb A B) : Sb (overV A (f A.Lo) (f A.Hi) t b) (overV B (f B.Lo) (f B.Hi) t b) := by
  have hA := vV_iff.1 h.va
  have hB := vV_iff.1 h.vb
  have := h.lo; have := h.hi
  have i1 := over_in hf ht h.vb (x := A.Lo) (by omega) (by omega)
  have i2 := over_in hf ht h.vb (x := A.Hi) (by omega) (by omega)
  have wide : B.Hi - B.Lo ≥ 65536 → overV B (f B.Lo) (f B.Hi) t b = ⟨-65536, 65536⟩ := fun w => by
    unfold overV; rw [h.vb, if_pos rfl, if_pos w]
  have low : meetV A b = true → Sb (ofV (-65536)) (overV B (f B.Lo) (f B.Hi) t b) := fun m => by
    by_cases w : B.Hi - B.Lo ≥ 65536
    · rw [wide w]; exact ⟨ofV_v _, by decide, by decide, by decide⟩
    · have m1 : A.Lo + (b - A.Lo) % 65536 ≤ A.Hi := by simpa [meetV] using m
      have mB : meetV B b = true := by simp only [meetV, decide_eq_true_eq]; omega
      have v := hull1_v (c := meetV B t) (hullV_v (a := f B.Lo) (b := f B.Hi) (by rw [hf]; exact (sT_bd (yT_bd _ _).1 (yT_bd _ _).2).1) (by rw [hf]; exact (sT_bd (yT_bd _ _).1 (yT_bd _ _).2).1)) (ofV_v 65536)
      unfold overV; rw [h.vb, if_pos rfl, if_neg w, mB]
      exact Sb.right v (ofV_v _)
  have top : meetV A t = true → Sb (ofV 65536) (overV B (f B.Lo) (f B.Hi) t b) := fun m => by
    by_cases w : B.Hi - B.Lo ≥ 65536
    · rw [wide w]; exact ⟨ofV_v _, by decide, by decide, by decide⟩
    · have m1 : A.Lo + (t - A.Lo) % 65536 ≤ A.Hi := by simpa [meetV] using m
      have mB : meetV B t = true := by simp only [meetV, decide_eq_true_eq]; omega
      have v0 := hullV_v (a := f B.Lo) (b := f B.Hi) (by rw [hf]; exact (sT_bd (yT_bd _ _).1 (yT_bd _ _).2).1) (by rw [hf]; exact (sT_bd (yT_bd _ _).1 (yT_bd _ _).2).1)
      unfold overV; rw [h.vb, if_pos rfl, if_neg w, mB]
      exact (Sb.right v0 (ofV_v _)).trans (hull1_sb (hullV_v v0 (ofV_v _)) (ofV_v _))
  by_cases w : A.Hi - A.Lo ≥ 65536
  · have e : overV A (f A.Lo) (f A.Hi) t b = ⟨-65536, 65536⟩ := by unfold overV; rw [h.va, if_pos rfl, if_pos w]
    rw [e, wide (by omega)]; exact Sb.refl (by decide)
  · have e : overV A (f A.Lo) (f A.Hi) t b = hull1 (meetV A b) (hull1 (meetV A t) (hullV (f A.Lo) (f A.Hi)) (ofV 65536)) (ofV (-65536)) := by unfold overV; rw [h.va, if_pos rfl, if_neg w]
    rw [e]
    have j1 := i1.hull i2
    have j2 : Sb (hull1 (meetV A t) (hullV (f A.Lo) (f A.Hi)) (ofV 65536)) (overV B (f B.Lo) (f B.Hi) t b) := by
      unfold hull1; split
      · rename_i m; exact j1.hull (top m)
      · exact j1
    unfold hull1 at j2 ⊢
    split
    · rename_i m; exact j2.hull (low m)
    · exact j2
theorem Sb.sin {a b : S_Interval} (h : Sb a b) : Sb (sinO a) (sinO b) := over_mono (f := sinV) sinV_T (.inl rfl) h
theorem Sb.cos {a b : S_Interval} (h : Sb a b) : Sb (cosO a) (cosO b) := over_mono (f := cosV) cosV_T (.inl rfl) h
structure Sv (a b : IV3) : Prop where
  x : Sb a.1 b.1
  y : Sb a.2.1 b.2.1
  z : Sb a.2.2 b.2.2
structure SM (a b : IM3) : Prop where
  x : Sv a.1 b.1
  y : Sv a.2.1 b.2.1
  z : Sv a.2.2 b.2.2
structure SP (a b : S_Pose) : Prop where
  r : SM a.R b.R
  t : Sv a.T b.T
theorem Sv.zero : Sv izv izv := ⟨Sb.iz, Sb.iz, Sb.iz⟩
theorem Sv.point (v : Int × Int × Int) : Sv (pointV v) (pointV v) := ⟨Sb.ofV _, Sb.ofV _, Sb.ofV _⟩
theorem SM.unit : SM unitV unitV := ⟨⟨Sb.ofV _, Sb.iz, Sb.iz⟩, ⟨Sb.iz, Sb.ofV _, Sb.iz⟩, ⟨Sb.iz, Sb.iz, Sb.ofV _⟩⟩
theorem SP.rest : SP restV restV := ⟨SM.unit, Sv.zero⟩
theorem Sv.add {a a' b b' : IV3} (h : Sv a a') (k : Sv b b') : Sv (addVV a b) (addVV a' b') := ⟨h.x.add k.x, h.y.add k.y, h.z.add k.z⟩
theorem Sv.dot {a a' b b' : IV3} (h : Sv a a') (k : Sv b b') : Sb (dotV a b) (dotV a' b') := ((h.x.mul k.x).add (h.y.mul k.y)).add (h.z.mul k.z)
theorem SM.apply {m m' : IM3} {v v' : IV3} (h : SM m m') (k : Sv v v') : Sv (applyV m v) (applyV m' v') := ⟨h.x.dot k, h.y.dot k, h.z.dot k⟩
theorem Sb.lim1 {a b : S_Interval} (h : Sb a b) : Sb (lim1 a) (lim1 b) := by
  have h1 := vV_iff.1 h.va
  have h2 := vV_iff.1 h.vb
  have := h.lo; have := h.hi
  exact ⟨vV_iff.2 (by unfold Go.Abs.lim1; simp only; omega), vV_iff.2 (by unfold Go.Abs.lim1; simp only; omega), by unfold Go.Abs.lim1; simp only; omega, by unfold Go.Abs.lim1; simp only; omega⟩
theorem SM.row {r r' : IV3} {b b' : IM3} (h : Sv r r') (k : SM b b') : Sv (rowV r b) (rowV r' b') :=
  ⟨(h.dot (b := (b.1.1, b.2.1.1, b.2.2.1)) (b' := (b'.1.1, b'.2.1.1, b'.2.2.1)) ⟨k.x.x, k.y.x, k.z.x⟩).lim1,
   (h.dot (b := (b.1.2.1, b.2.1.2.1, b.2.2.2.1)) (b' := (b'.1.2.1, b'.2.1.2.1, b'.2.2.2.1)) ⟨k.x.y, k.y.y, k.z.y⟩).lim1,
   (h.dot (b := (b.1.2.2, b.2.1.2.2, b.2.2.2.2)) (b' := (b'.1.2.2, b'.2.1.2.2, b'.2.2.2.2)) ⟨k.x.z, k.y.z, k.z.z⟩).lim1⟩
theorem SM.comp {a a' b b' : IM3} (h : SM a a') (k : SM b b') : SM (compM a b) (compM a' b') := ⟨SM.row h.x k, SM.row h.y k, SM.row h.z k⟩
theorem SM.turn {a b : S_Interval} (k : Int) (h : Sb a b) : SM (turnV k a) (turnV k b) := by
  unfold turnV
  rw [h.va, h.vb]
  simp only [if_true]
  split
  · exact ⟨⟨Sb.ofV _, Sb.iz, Sb.iz⟩, ⟨Sb.iz, h.cos, h.sin.neg⟩, ⟨Sb.iz, h.sin, h.cos⟩⟩
  · split
    · exact ⟨⟨h.cos, Sb.iz, h.sin⟩, ⟨Sb.iz, Sb.ofV _, Sb.iz⟩, ⟨h.sin.neg, Sb.iz, h.cos⟩⟩
    · split
      · exact ⟨⟨h.cos, h.sin.neg, Sb.iz⟩, ⟨h.sin, h.cos, Sb.iz⟩, ⟨Sb.iz, Sb.iz, Sb.ofV _⟩⟩
      · exact ⟨Sv.zero, Sv.zero, Sv.zero⟩
theorem SP.comp {a a' b b' : S_Pose} (h : SP a a') (k : SP b b') : SP (compV a b) (compV a' b') := ⟨h.r.comp k.r, h.t.add (h.r.apply k.t)⟩
theorem SP.move {p p' : S_Pose} {v v' : IV3} (h : SP p p') (k : Sv v v') : Sv (moveV p v) (moveV p' v') := h.t.add (h.r.apply k)
theorem Sv.slide {a b : S_Interval} (k : Int) (h : Sb a b) : Sv (slideV k a) (slideV k b) := by
  unfold slideV
  split
  · exact ⟨h, Sb.iz, Sb.iz⟩
  · split
    · exact ⟨Sb.iz, h, Sb.iz⟩
    · exact ⟨Sb.iz, Sb.iz, h⟩
theorem SP.joint {a b : S_Interval} (j : S_Joint) (h : Sb a b) : SP (jointV j a) (jointV j b) := by
  unfold jointV
  refine SP.comp ⟨SM.unit, Sv.point _⟩ ?_
  split
  · exact ⟨SM.turn _ h, Sv.zero⟩
  · split
    · exact ⟨SM.unit, Sv.slide _ h⟩
    · exact SP.rest
def SBx (n : Nat) (b b' : List S_Interval) : Prop := ∀ i, i < n → Sb (b.getD i default) (b'.getD i default)
theorem SP.link {r : S_Robot} (hr : robotV r = 0) {b b' : List S_Interval} (h : SBx r.Joints.length b b') : ∀ i, i < r.Joints.length → SP (lkP r b i) (lkP r b' i) := by
  intro i
  induction i using Nat.strongRecOn with
  | _ i ih =>
    intro hi
    have jo := (robot_joint hr hi).parent
    unfold lkP lk1
    split
    · exact SP.joint _ (h i hi)
    · rename_i hp
      have hq : ((r.Joints.getD i default).Parent).toNat < i := by omega
      rw [lk_tab, lk_tab, tab_get hq, tab_get hq]
      exact (ih _ hq (by omega)).comp (SP.joint _ (h i hi))
theorem SP.linkP {r : S_Robot} (hr : robotV r = 0) {b b' : List S_Interval} (h : SBx r.Joints.length b b') {k : Int} (h0 : -1 ≤ k) (h1 : k < (r.Joints.length : Int)) : SP (linkP r b k) (linkP r b' k) := by
  unfold Go.Abs.linkP
  split
  · exact SP.rest
  · exact SP.link hr h _ (by omega)
def SL (a b : List IV3) : Prop := a.length = b.length ∧ ∀ i, i < a.length → Sv (a.getD i default) (b.getD i default)
theorem SL.points {s : S_Scene} (hs : sceneV s = 0) {b b' : List S_Interval} (h : SBx s.Robot.Joints.length b b') {i : Nat} (hi : i < s.Shapes.length) : SL (pointsF s b i) (pointsF s b' i) := by
  have so := sceneV_ok hs
  have sh := shapeV_ok (so.shape i hi)
  have lk := SP.linkP so.robot h sh.2.1 sh.2.2
  unfold pointsF placeV
  rw [if_pos sh.1, if_pos sh.1]
  refine ⟨by rw [tab_len, tab_len], fun j hj => ?_⟩
  rw [tab_len] at hj
  rw [tab_get hj, tab_get hj]
  exact lk.move (Sv.point _)
theorem Sv.reached {a b : IV3} (h : Sv a b) (k : reachedV b = true) : reachedV a = true := by
  simp only [reachedV, Bool.and_eq_true, rng_iff] at k ⊢
  have h1 := vV_iff.1 h.x.va; have h2 := vV_iff.1 h.y.va; have h3 := vV_iff.1 h.z.va
  have := h.x.lo; have := h.x.hi; have := h.y.lo; have := h.y.hi; have := h.z.lo; have := h.z.hi
  omega
theorem SL.placed {a b : List IV3} (h : SL a b) (k : placedV b = true) : placedV a = true := by
  have kl := placed_len k
  simp only [placedV, Bool.and_eq_true, decide_eq_true_eq]
  refine ⟨by rw [h.1]; exact kl, noneB_iff.2 fun i hi => ?_⟩
  unfold farL
  rw [(h.2 i hi).reached (placed_get k (by rw [← h.1]; exact hi))]; rfl
theorem dLo_mono {n : V3} {a b : IV3} (h : Sv a b) : dLo n b ≤ dLo n a := by
  have h1 := vV_iff.1 h.x.va; have h2 := vV_iff.1 h.y.va; have h3 := vV_iff.1 h.z.va
  have := h.x.lo; have := h.x.hi; have := h.y.lo; have := h.y.hi; have := h.z.lo; have := h.z.hi
  have p1 := lin_bd (a := b.1.Lo) (b := b.1.Hi) (x := a.1.Lo) (y := n.1) (by omega) (by omega)
  have p2 := lin_bd (a := b.1.Lo) (b := b.1.Hi) (x := a.1.Hi) (y := n.1) (by omega) (by omega)
  have q1 := lin_bd (a := b.2.1.Lo) (b := b.2.1.Hi) (x := a.2.1.Lo) (y := n.2.1) (by omega) (by omega)
  have q2 := lin_bd (a := b.2.1.Lo) (b := b.2.1.Hi) (x := a.2.1.Hi) (y := n.2.1) (by omega) (by omega)
  have r1 := lin_bd (a := b.2.2.Lo) (b := b.2.2.Hi) (x := a.2.2.Lo) (y := n.2.2) (by omega) (by omega)
  have r2 := lin_bd (a := b.2.2.Lo) (b := b.2.2.Hi) (x := a.2.2.Hi) (y := n.2.2) (by omega) (by omega)
  unfold dLo
  rw [Int.mul_comm n.1, Int.mul_comm n.1, Int.mul_comm n.1, Int.mul_comm n.1, Int.mul_comm n.2.1, Int.mul_comm n.2.1, Int.mul_comm n.2.1, Int.mul_comm n.2.1, Int.mul_comm n.2.2, Int.mul_comm n.2.2, Int.mul_comm n.2.2, Int.mul_comm n.2.2]
  omega
theorem dHi_mono {n : V3} {a b : IV3} (h : Sv a b) : dHi n a ≤ dHi n b := by
  have h1 := vV_iff.1 h.x.va; have h2 := vV_iff.1 h.y.va; have h3 := vV_iff.1 h.z.va
  have := h.x.lo; have := h.x.hi; have := h.y.lo; have := h.y.hi; have := h.z.lo; have := h.z.hi
  have p1 := lin_bd (a := b.1.Lo) (b := b.1.Hi) (x := a.1.Lo) (y := n.1) (by omega) (by omega)
  have p2 := lin_bd (a := b.1.Lo) (b := b.1.Hi) (x := a.1.Hi) (y := n.1) (by omega) (by omega)
  have q1 := lin_bd (a := b.2.1.Lo) (b := b.2.1.Hi) (x := a.2.1.Lo) (y := n.2.1) (by omega) (by omega)
  have q2 := lin_bd (a := b.2.1.Lo) (b := b.2.1.Hi) (x := a.2.1.Hi) (y := n.2.1) (by omega) (by omega)
  have r1 := lin_bd (a := b.2.2.Lo) (b := b.2.2.Hi) (x := a.2.2.Lo) (y := n.2.2) (by omega) (by omega)
  have r2 := lin_bd (a := b.2.2.Lo) (b := b.2.2.Hi) (x := a.2.2.Hi) (y := n.2.2) (by omega) (by omega)
  unfold dHi
  rw [Int.mul_comm n.1, Int.mul_comm n.1, Int.mul_comm n.1, Int.mul_comm n.1, Int.mul_comm n.2.1, Int.mul_comm n.2.1, Int.mul_comm n.2.1, Int.mul_comm n.2.1, Int.mul_comm n.2.2, Int.mul_comm n.2.2, Int.mul_comm n.2.2, Int.mul_comm n.2.2]
  omega
theorem bst_lt (f : Nat → Int) : ∀ n, 1 ≤ n → (∃ i, i < n ∧ (bst ltB f n).1 = f i) ∧ ∀ i, i < n → (bst ltB f n).1 ≤ f i
  | 0, h => by omega
  | n + 1, _ => by
    simp only [bst]
    by_cases h0 : n = 0
    · subst h0
      exact ⟨⟨0, by omega, rfl⟩, fun i hi => by obtain rfl : i = 0 := by omega
                                                exact Int.le_refl _⟩
    · obtain ⟨⟨i, hi, e⟩, hm⟩ := bst_lt f n (by omega)
      rw [decide_eq_false h0, Bool.false_or]
      by_cases c : f n < (bst ltB f n).1
      · rw [show ltB (f n) (bst ltB f n).1 = true from decide_eq_true c, if_pos rfl]
        refine ⟨⟨n, by omega, rfl⟩, fun j hj => ?_⟩
        by_cases ej : j = n
        · rw [ej]; exact Int.le_refl _
        · have := hm j (by omega); simp only; omega
      · rw [show ltB (f n) (bst ltB f n).1 = false from decide_eq_false c, if_neg (by decide)]
        refine ⟨⟨i, by omega, e⟩, fun j hj => ?_⟩
        by_cases ej : j = n
        · rw [ej]; omega
        · exact hm j (by omega)
theorem bst_gt (f : Nat → Int) : ∀ n, 1 ≤ n → (∃ i, i < n ∧ (bst gtB f n).1 = f i) ∧ ∀ i, i < n → f i ≤ (bst gtB f n).1
  | 0, h => by omega
  | n + 1, _ => by
    simp only [bst]
    by_cases h0 : n = 0
    · subst h0
      exact ⟨⟨0, by omega, rfl⟩, fun i hi => by obtain rfl : i = 0 := by omega
                                                exact Int.le_refl _⟩
    · obtain ⟨⟨i, hi, e⟩, hm⟩ := bst_gt f n (by omega)
      rw [decide_eq_false h0, Bool.false_or]
      by_cases c : f n > (bst gtB f n).1
      · rw [show gtB (f n) (bst gtB f n).1 = true from decide_eq_true c, if_pos rfl]
        refine ⟨⟨n, by omega, rfl⟩, fun j hj => ?_⟩
        by_cases ej : j = n
        · rw [ej]; exact Int.le_refl _
        · have := hm j (by omega); simp only; omega
      · rw [show gtB (f n) (bst gtB f n).1 = false from decide_eq_false c, if_neg (by decide)]
        refine ⟨⟨i, by omega, e⟩, fun j hj => ?_⟩
        by_cases ej : j = n
        · rw [ej]; omega
        · exact hm j (by omega)
theorem norm_mul {n : V3} {r : Int} (h0 : 0 ≤ r) (h1 : r ≤ 2097152) : 0 ≤ normV n * r ∧ normV n * r ≤ 137438953472 := by
  have b := normV_bd n
  refine ⟨Int.mul_nonneg b.1 h0, ?_⟩
  have := Int.mul_le_mul b.2 h1 h0 (by omega : (0 : Int) ≤ 65536)
  omega
theorem sep_iff {n : V3} {a b : List IV3} {ra rb : Int} : sepV n a ra b rb = true ↔ sepOk n a ra b rb = true ∧ ∀ i, i < a.length → ∀ j, j < b.length → normV n * (ra + rb) < dLo n (a.getD i default) - dHi n (b.getD j default) := by
  unfold sepV
  rw [Bool.and_eq_true]
  refine and_congr_right fun hs => ?_
  have hs' := hs
  simp only [sepOk, Bool.and_eq_true, radV, decide_eq_true_eq] at hs'
  obtain ⟨hn, ha, hb, hra, hrb⟩ := hs'
  have la := placed_len ha
  have lb := placed_len hb
  obtain ⟨⟨i, hi, ei⟩, mi⟩ := bst_lt (fun i => dLo n (a.getD i default)) a.length (by omega)
  obtain ⟨⟨j, hj, ej⟩, mj⟩ := bst_gt (fun i => dHi n (b.getD i default)) b.length (by omega)
  have di := dot_in hn (placed_get ha hi)
  have dj := dot_in hn (placed_get hb hj)
  have nm := norm_mul (n := n) (r := ra + rb) (by omega) (by omega)
  have e : marginV n a ra b rb = dLo n (a.getD i default) - dHi n (b.getD j default) - normV n * (ra + rb) := by
    unfold marginV leastV greatV
    rw [ei, ej]
    have d1 := di.2.2.1; have d2 := dj.2.2.2
    rw [w64 (x := ra + rb) (by omega) (by omega), w64 (x := normV n * (ra + rb)) (by omega) (by omega), w64 (x := dLo n (a.getD i default) - dHi n (b.getD j default)) (by omega) (by omega), w64 (by omega) (by omega)]
  rw [decide_eq_true_eq, e]
  constructor
  · intro h i' hi' j' hj'
    have q1 := mi i' hi'
    have q2 := mj j' hj'
    rw [ei] at q1
    rw [ej] at q2
    omega
  · intro h
    have := h i hi j hj
    omega
theorem sep_mono {n : V3} {a a' b b' : List IV3} {ra rb : Int} (h : SL a a') (k : SL b b') (hs : sepV n a' ra b' rb = true) : sepV n a ra b rb = true := by
  rw [sep_iff] at hs ⊢
  obtain ⟨h1, h2⟩ := hs
  simp only [sepOk, Bool.and_eq_true] at h1 ⊢
  refine ⟨⟨h1.1, h.placed h1.2.1, k.placed h1.2.2.1, h1.2.2.2⟩, fun i hi j hj => ?_⟩
  have q := h2 i (by rw [← h.1]; exact hi) j (by rw [← k.1]; exact hj)
  have q1 := dLo_mono (n := n) (h.2 i hi)
  have q2 := dHi_mono (n := n) (k.2 j hj)
  omega
theorem box_get {r : S_Robot} {b : List S_Interval} (h : boxV r b = true) {i : Nat} (hi : i < r.Joints.length) : vV (b.getD i default) = true := by
  simp only [boxV, Bool.and_eq_true, decide_eq_true_eq] at h
  have := noneB_iff.1 h.2 i (by omega)
  simpa [notV] using this
theorem SBx.of {r : S_Robot} {b b' : List S_Interval} (h : boxV r b = true) (k : boxV r b' = true) (hh : ∀ i, i < r.Joints.length → (b'.getD i default).Lo ≤ (b.getD i default).Lo ∧ (b.getD i default).Hi ≤ (b'.getD i default).Hi) : SBx r.Joints.length b b' :=
  fun i hi => ⟨box_get h hi, box_get k hi, (hh i hi).1, (hh i hi).2⟩
theorem SL.pair {s : S_Scene} (hs : sceneV s = 0) {b b' : List S_Interval} (h : SBx s.Robot.Joints.length b b') {k : Nat} (hk : k < (pairsV s).length) : SL (pointsF s b (pA s k)) (pointsF s b' (pA s k)) ∧ SL (pointsF s b (pB s k)) (pointsF s b' (pB s k)) := by
  have := pairs_in hs hk
  exact ⟨SL.points hs h (by unfold pA; omega), SL.points hs h (by unfold pB; omega)⟩
theorem free_iff {s : S_Scene} {b : List S_Interval} {ns : List V3} : freeV s b ns = true ↔ sceneV s = 0 ∧ boxV s.Robot b = true ∧ ns.length = (pairsV s).length ∧ ∀ k, k < (pairsV s).length → sepV (ns.getD k default) (pointsF s b (pA s k)) (radOf s (pA s k)) (pointsF s b (pB s k)) (radOf s (pB s k)) = true := by
  simp only [freeV, Bool.and_eq_true, decide_eq_true_eq, noneB_iff, sepK, Bool.not_eq_false']
theorem free_mono {s : S_Scene} {b b' : List S_Interval} {ns : List V3} (hb : boxV s.Robot b = true) (h : SBx s.Robot.Joints.length b b') (hf : freeV s b' ns = true) : freeV s b ns = true := by
  rw [free_iff] at hf ⊢
  obtain ⟨h1, -, h3, h4⟩ := hf
  exact ⟨h1, hb, h3, fun k hk => sep_mono (SL.pair h1 h hk).1 (SL.pair h1 h hk).2 (h4 k hk)⟩
theorem floor_cross {a b E F : Int} (hE : 0 < E) (hF : 0 < F) (h : a * E ≤ b * F) : a / F ≤ b / E := by
  refine Int.le_ediv_of_mul_le hE ?_
  have h1 := Int.ediv_mul_le a (show F ≠ 0 by omega)
  have h2 := Int.mul_le_mul_of_nonneg_right h1 (Int.le_of_lt hE)
  refine Int.le_of_mul_le_mul_right (a := F) ?_ hF
  have e : a / F * E * F = a / F * F * E := by rw [Int.mul_assoc, Int.mul_comm E F, ← Int.mul_assoc]
  rw [e]; omega
end Go.Abs
