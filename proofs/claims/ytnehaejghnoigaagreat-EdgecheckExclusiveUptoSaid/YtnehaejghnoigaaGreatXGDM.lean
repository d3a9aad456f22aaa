/-
  DM (a part of a claim: our own text).
-/
import Derived.Test.YtnehaejghnoigaaGreatXGDL2
namespace Go.Abs
def d1 (x : Nat) : Nat := x * 6746518852 / 65536
def d2 (x : Nat) : Nat := d1 x * d1 x / 1073741824
def d3 (x : Nat) : Nat := d2 x * d1 x / 1073741824
def d4 (x : Nat) : Nat := d3 x * d1 x / 1073741824
def d5 (x : Nat) : Nat := d4 x * d1 x / 1073741824
def d6 (x : Nat) : Nat := d5 x * d1 x / 1073741824
def d7 (x : Nat) : Nat := d6 x * d1 x / 1073741824
def d8 (x : Nat) : Nat := d7 x * d1 x / 1073741824
def u1 (x : Nat) : Nat := (x * 6746518853 + 65535) / 65536
def u2 (x : Nat) : Nat := (u1 x * u1 x + 1073741823) / 1073741824
def u3 (x : Nat) : Nat := (u2 x * u1 x + 1073741823) / 1073741824
def u4 (x : Nat) : Nat := (u3 x * u1 x + 1073741823) / 1073741824
def u5 (x : Nat) : Nat := (u4 x * u1 x + 1073741823) / 1073741824
def u6 (x : Nat) : Nat := (u5 x * u1 x + 1073741823) / 1073741824
def u7 (x : Nat) : Nat := (u6 x * u1 x + 1073741823) / 1073741824
def u8 (x : Nat) : Nat := (u7 x * u1 x + 1073741823) / 1073741824
def u9 (x : Nat) : Nat := (u8 x * u1 x + 1073741823) / 1073741824
def u10 (x : Nat) : Nat := (u9 x * u1 x + 1073741823) / 1073741824
def sA (x : Nat) : Nat := d1 x + d5 x / 120
def sB (x : Nat) : Nat := (u3 x + 5) / 6 + (u7 x + 5039) / 5040
def sC (x : Nat) : Nat := u1 x + (u5 x + 119) / 120 + (u9 x + 362879) / 362880
def sD (x : Nat) : Nat := d3 x / 6 + d7 x / 5040
def cA (x : Nat) : Nat := 1073741824 + d4 x / 24 + d8 x / 40320
def cB (x : Nat) : Nat := (u2 x + 1) / 2 + (u6 x + 719) / 720 + (u10 x + 3628799) / 3628800
def cC (x : Nat) : Nat := 1073741824 + (u4 x + 23) / 24 + (u8 x + 40319) / 40320
def cD (x : Nat) : Nat := d2 x / 2 + d6 x / 720
def loS (x : Nat) : Nat := (sA x - sB x) / 16384
def hiS (x : Nat) : Nat := Nat.min 65536 ((sC x - sD x + 16383) / 16384)
def loC (x : Nat) : Nat := (cA x - cB x) / 16384
def hiC (x : Nat) : Nat := Nat.min 65536 ((cC x - cD x + 16383) / 16384)
def ckQ (x : Nat) : Bool := (Nat.ble (loS x) (hiS x) && Nat.ble (loC x) (hiC x)) && (Nat.ble (sD x) (sC x) && (Nat.ble (cD x) (cC x) && (Nat.ble (loS x) (loS (x + 1)) && (Nat.ble (hiS x) (hiS (x + 1)) && (Nat.ble (loC (x + 1)) (loC x) && Nat.ble (hiC (x + 1)) (hiC x))))))
def allB (f : Nat → Bool) (lo : Nat) : Nat → Bool
  | 0 => f lo
  | k + 1 => allB f lo k && allB f (lo + 2 ^ k) k
theorem allB_get {f : Nat → Bool} : ∀ (k lo : Nat), allB f lo k = true → ∀ n, lo ≤ n → n < lo + 2 ^ k → f n = true
  | 0, lo, h, n, h0, h1 => by have : n = lo := by simp at h1; omega
                              subst this; exact h
  | k + 1, lo, h, n, h0, h1 => by
    simp only [allB, Bool.and_eq_true] at h
    rw [Nat.pow_succ] at h1
    by_cases c : n < lo + 2 ^ k
    · exact allB_get k lo h.1 n h0 c
    · exact allB_get k _ h.2 n (by omega) (by omega)
theorem allQ : allB ckQ 0 13 = true := by kernel_rfl
theorem ckQ_at {x : Nat} (h : x < 8192) : sD x ≤ sC x ∧ cD x ≤ cC x ∧ loS x ≤ loS (x + 1) ∧ hiS x ≤ hiS (x + 1) ∧ loC (x + 1) ≤ loC x ∧ hiC (x + 1) ≤ hiC x := by
  have := allB_get 13 0 allQ x (by omega) (by omega)
  simp only [ckQ, Bool.and_eq_true, Nat.ble_eq] at this
  exact this.2
theorem ckQ_v {x : Nat} (h : x < 8192) : loS x ≤ hiS x ∧ loC x ≤ hiC x := by
  have := allB_get 13 0 allQ x (by omega) (by omega)
  simp only [ckQ, Bool.and_eq_true, Nat.ble_eq] at this
  exact this.1
theorem ckQ_w : loS 8192 ≤ hiS 8192 := by
  have h : Nat.ble (loS 8192) (hiS 8192) = true := by kernel_rfl
  simpa only [Nat.ble_eq] using h
theorem ckQ_end : (sD 8192 ≤ sC 8192 ∧ cD 8192 ≤ cC 8192) ∧ (loS 8192 ≤ loC 8191 ∧ hiS 8192 ≤ hiC 8191) := by
  have h : ((Nat.ble (sD 8192) (sC 8192) && Nat.ble (cD 8192) (cC 8192)) && (Nat.ble (loS 8192) (loC 8191) && Nat.ble (hiS 8192) (hiC 8191))) = true := by kernel_rfl
  simp only [Bool.and_eq_true, Nat.ble_eq] at h
  exact ⟨⟨h.1.1, h.1.2⟩, h.2.1, h.2.2⟩
theorem sQ_num (a1 a3 a5 a7 b1 b3 b5 b7 b9 : Nat) (hb : a3 / 6 + a7 / 5040 ≤ b1 + (b5 + 119) / 120 + (b9 + 362879) / 362880) :
    max (0 : Int) (((a1 : Int) - cdiv (b3 : Int) 6 + (a5 : Int) / 120 - cdiv (b7 : Int) 5040) / 16384) = (((a1 + a5 / 120 - ((b3 + 5) / 6 + (b7 + 5039) / 5040)) / 16384 : Nat) : Int) ∧
    min (65536 : Int) (cdiv ((b1 : Int) - (a3 : Int) / 6 + cdiv (b5 : Int) 120 - (a7 : Int) / 5040 + cdiv (b9 : Int) 362880) 16384) = ((Nat.min 65536 ((b1 + (b5 + 119) / 120 + (b9 + 362879) / 362880 - (a3 / 6 + a7 / 5040) + 16383) / 16384) : Nat) : Int) := by
  rw [show ∀ a b, Nat.min a b = min a b from fun _ _ => rfl]
  have e1 : cdiv (b3 : Int) 6 = (((b3 + 5) / 6 : Nat) : Int) := by unfold cdiv; omega
  have e2 : cdiv (b7 : Int) 5040 = (((b7 + 5039) / 5040 : Nat) : Int) := by unfold cdiv; omega
  have e3 : cdiv (b5 : Int) 120 = (((b5 + 119) / 120 : Nat) : Int) := by unfold cdiv; omega
  have e4 : cdiv (b9 : Int) 362880 = (((b9 + 362879) / 362880 : Nat) : Int) := by unfold cdiv; omega
  have e5 : (a5 : Int) / 120 = ((a5 / 120 : Nat) : Int) := by omega
  have e6 : (a3 : Int) / 6 = ((a3 / 6 : Nat) : Int) := by omega
  have e7 : (a7 : Int) / 5040 = ((a7 / 5040 : Nat) : Int) := by omega
  rw [e1, e2, e3, e4, e5, e6, e7]
  generalize (b3 + 5) / 6 = x1 at *
  generalize (b7 + 5039) / 5040 = x2 at *
  generalize (b5 + 119) / 120 = x3 at *
  generalize (b9 + 362879) / 362880 = x4 at *
  generalize a5 / 120 = x5 at *
  generalize a3 / 6 = x6 at *
  generalize a7 / 5040 = x7 at *
  unfold cdiv
  constructor <;> omega
theorem cQ_num (a2 a4 a6 a8 b2 b4 b6 b8 b10 : Nat) (hb : a2 / 2 + a6 / 720 ≤ 1073741824 + (b4 + 23) / 24 + (b8 + 40319) / 40320) :
    max (0 : Int) ((1073741824 - cdiv (b2 : Int) 2 + (a4 : Int) / 24 - cdiv (b6 : Int) 720 + (a8 : Int) / 40320 - cdiv (b10 : Int) 3628800) / 16384) = (((1073741824 + a4 / 24 + a8 / 40320 - ((b2 + 1) / 2 + (b6 + 719) / 720 + (b10 + 3628799) / 3628800)) / 16384 : Nat) : Int) ∧
    min (65536 : Int) (cdiv (1073741824 - (a2 : Int) / 2 + cdiv (b4 : Int) 24 - (a6 : Int) / 720 + cdiv (b8 : Int) 40320) 16384) = ((Nat.min 65536 ((1073741824 + (b4 + 23) / 24 + (b8 + 40319) / 40320 - (a2 / 2 + a6 / 720) + 16383) / 16384) : Nat) : Int) := by
  rw [show ∀ a b, Nat.min a b = min a b from fun _ _ => rfl]
  have e1 : cdiv (b2 : Int) 2 = (((b2 + 1) / 2 : Nat) : Int) := by unfold cdiv; omega
  have e2 : cdiv (b6 : Int) 720 = (((b6 + 719) / 720 : Nat) : Int) := by unfold cdiv; omega
  have e3 : cdiv (b10 : Int) 3628800 = (((b10 + 3628799) / 3628800 : Nat) : Int) := by unfold cdiv; omega
  have e4 : cdiv (b4 : Int) 24 = (((b4 + 23) / 24 : Nat) : Int) := by unfold cdiv; omega
  have e5 : cdiv (b8 : Int) 40320 = (((b8 + 40319) / 40320 : Nat) : Int) := by unfold cdiv; omega
  have e6 : (a4 : Int) / 24 = ((a4 / 24 : Nat) : Int) := by omega
  have e7 : (a8 : Int) / 40320 = ((a8 / 40320 : Nat) : Int) := by omega
  have e8 : (a2 : Int) / 2 = ((a2 / 2 : Nat) : Int) := by omega
  have e9 : (a6 : Int) / 720 = ((a6 / 720 : Nat) : Int) := by omega
  rw [e1, e2, e3, e4, e5, e6, e7, e8, e9]
  generalize (b2 + 1) / 2 = x1 at *
  generalize (b6 + 719) / 720 = x2 at *
  generalize (b10 + 3628799) / 3628800 = x3 at *
  generalize (b4 + 23) / 24 = x4 at *
  generalize (b8 + 40319) / 40320 = x5 at *
  generalize a4 / 24 = x6 at *
  generalize a8 / 40320 = x7 at *
  generalize a2 / 2 = x8 at *
  generalize a6 / 720 = x9 at *
  unfold cdiv
  constructor <;> omega
section
variable {x : Nat} (h : x ≤ 8192)
include h
theorem pdZ : pd1 (x : Int) = (d1 x : Int) := by
  unfold pd1 d1; rw [w64 (by omega) (by omega)]; omega
theorem puZ : pu1 (x : Int) = (u1 x : Int) := by
  unfold pu1 cdiv u1; rw [w64 (by omega) (by omega)]; omega
theorem pdS {k a : Nat} (ha : pd (x : Int) k = (a : Int)) : pd (x : Int) (k + 1) = ((a * d1 x / 1073741824 : Nat) : Int) := by
  have b := prod_bd (pd_bd (x := (x : Int)) (by omega) (by omega) k) (pd1_bd (x := (x : Int)) (by omega) (by omega))
  rw [ha, pdZ h] at b
  simp only [pd]
  rw [ha, pdZ h, w64 (by omega) (by omega), ← Int.natCast_mul]
  omega
theorem puS {k a : Nat} (ha : pu (x : Int) k = (a : Int)) : pu (x : Int) (k + 1) = (((a * u1 x + 1073741823) / 1073741824 : Nat) : Int) := by
  have b := prod_bd (pu_bd (x := (x : Int)) (by omega) (by omega) k) (pu1_bd (x := (x : Int)) (by omega) (by omega))
  rw [ha, puZ h] at b
  simp only [pu]
  rw [ha, puZ h, w64 (by omega) (by omega), ← Int.natCast_mul]
  unfold cdiv
  omega
theorem sQ_eq (hb : sD x ≤ sC x) : encV (sLo (x : Int)) (sHi (x : Int)) = ⟨(loS x : Int), (hiS x : Int)⟩ := by
  have p1 : pd (x : Int) 0 = (d1 x : Int) := pdZ h
  have p2 : pd (x : Int) 1 = (d2 x : Int) := pdS h p1
  have p3 : pd (x : Int) 2 = (d3 x : Int) := pdS h p2
  have p4 : pd (x : Int) 3 = (d4 x : Int) := pdS h p3
  have p5 : pd (x : Int) 4 = (d5 x : Int) := pdS h p4
  have p6 : pd (x : Int) 5 = (d6 x : Int) := pdS h p5
  have p7 : pd (x : Int) 6 = (d7 x : Int) := pdS h p6
  have q1 : pu (x : Int) 0 = (u1 x : Int) := puZ h
  have q2 : pu (x : Int) 1 = (u2 x : Int) := puS h q1
  have q3 : pu (x : Int) 2 = (u3 x : Int) := puS h q2
  have q4 : pu (x : Int) 3 = (u4 x : Int) := puS h q3
  have q5 : pu (x : Int) 4 = (u5 x : Int) := puS h q4
  have q6 : pu (x : Int) 5 = (u6 x : Int) := puS h q5
  have q7 : pu (x : Int) 6 = (u7 x : Int) := puS h q6
  have q8 : pu (x : Int) 7 = (u8 x : Int) := puS h q7
  have q9 : pu (x : Int) 8 = (u9 x : Int) := puS h q8
  obtain ⟨k1, k2⟩ := sQ_num (d1 x) (d3 x) (d5 x) (d7 x) (u1 x) (u3 x) (u5 x) (u7 x) (u9 x) hb
  unfold encV sLo sHi
  rw [p1, p3, p5, p7, q1, q3, q5, q7, q9, k1, k2]
  rfl
theorem cQ_eq (hb : cD x ≤ cC x) : encV (cLo (x : Int)) (cHi (x : Int)) = ⟨(loC x : Int), (hiC x : Int)⟩ := by
  have p1 : pd (x : Int) 0 = (d1 x : Int) := pdZ h
  have p2 : pd (x : Int) 1 = (d2 x : Int) := pdS h p1
  have p3 : pd (x : Int) 2 = (d3 x : Int) := pdS h p2
  have p4 : pd (x : Int) 3 = (d4 x : Int) := pdS h p3
  have p5 : pd (x : Int) 4 = (d5 x : Int) := pdS h p4
  have p6 : pd (x : Int) 5 = (d6 x : Int) := pdS h p5
  have p7 : pd (x : Int) 6 = (d7 x : Int) := pdS h p6
  have p8 : pd (x : Int) 7 = (d8 x : Int) := pdS h p7
  have q1 : pu (x : Int) 0 = (u1 x : Int) := puZ h
  have q2 : pu (x : Int) 1 = (u2 x : Int) := puS h q1
  have q3 : pu (x : Int) 2 = (u3 x : Int) := puS h q2
  have q4 : pu (x : Int) 3 = (u4 x : Int) := puS h q3
  have q5 : pu (x : Int) 4 = (u5 x : Int) := puS h q4
  have q6 : pu (x : Int) 5 = (u6 x : Int) := puS h q5
  have q7 : pu (x : Int) 6 = (u7 x : Int) := puS h q6
  have q8 : pu (x : Int) 7 = (u8 x : Int) := puS h q7
  have q9 : pu (x : Int) 8 = (u9 x : Int) := puS h q8
  have q10 : pu (x : Int) 9 = (u10 x : Int) := puS h q9
  obtain ⟨k1, k2⟩ := cQ_num (d2 x) (d4 x) (d6 x) (d8 x) (u2 x) (u4 x) (u6 x) (u8 x) (u10 x) hb
  unfold encV cLo cHi
  rw [p2, p4, p6, p8, q2, q4, q6, q8, q10, k1, k2]
  rfl
end
def leI (a b : S_Interval) : Prop := a.Lo ≤ b.Lo ∧ a.Hi ≤ b.Hi
theorem leI.refl (a : S_Interval) : leI a a := ⟨Int.le_refl _, Int.le_refl _⟩
theorem leI.trans {a b c : S_Interval} (h : leI a b) (k : leI b c) : leI a c := ⟨Int.le_trans h.1 k.1, Int.le_trans h.2 k.2⟩
theorem q_step {n : Nat} (h : n < 16384) : leI (qV (n : Int)) (qV ((n + 1 : Nat) : Int)) := by
  by_cases c : n + 1 ≤ 8192
  · unfold qV
    have k := ckQ_at (x := n) (by omega)
    rw [if_pos (by omega), if_pos (by omega), sQ_eq (by omega) k.1, sQ_eq c]
    · exact ⟨by simp only; omega, by simp only; omega⟩
    · by_cases e : n + 1 = 8192
      · rw [e]; exact ckQ_end.1.1
      · exact (ckQ_at (x := n + 1) (by omega)).1
  · unfold qV
    by_cases e : n = 8192
    · subst e
      rw [if_pos (by omega), if_neg (by omega)]
      have := sQ_eq (x := 8192) (by omega) ckQ_end.1.1
      rw [this, show (16384 : Int) - ((8192 + 1 : Nat) : Int) = ((8191 : Nat) : Int) by omega, cQ_eq (x := 8191) (by omega) (ckQ_at (by omega)).2.1]
      have := ckQ_end.2
      exact ⟨by simp only; omega, by simp only; omega⟩
    · rw [if_neg (by omega), if_neg (by omega)]
      obtain ⟨m, hm⟩ : ∃ m : Nat, m = 16384 - (n + 1) := ⟨_, rfl⟩
      rw [show (16384 : Int) - ((n + 1 : Nat) : Int) = ((m : Nat) : Int) by omega, show (16384 : Int) - (n : Int) = ((m + 1 : Nat) : Int) by omega]
      have k := ckQ_at (x := m) (by omega)
      rw [cQ_eq (x := m) (by omega) k.2.1, cQ_eq (x := m + 1) (by omega) (ckQ_at (x := m + 1) (by omega)).2.1]
      exact ⟨by simp only; omega, by simp only; omega⟩
theorem q_monoN {n : Nat} : ∀ (k : Nat), n + k ≤ 16384 → leI (qV (n : Int)) (qV ((n + k : Nat) : Int))
  | 0, _ => leI.refl _
  | k + 1, h => (q_monoN k (by omega)).trans (q_step (n := n + k) (by omega))
theorem q_mono {a b : Int} (h0 : 0 ≤ a) (h : a ≤ b) (h1 : b ≤ 16384) : leI (qV a) (qV b) := by
  have := q_monoN (n := a.toNat) (b - a).toNat (by omega)
  rw [show ((a.toNat : Nat) : Int) = a by omega, show ((a.toNat + (b - a).toNat : Nat) : Int) = b by omega] at this
  exact this
theorem q_zero : qV 0 = ⟨0, 0⟩ := by kernel_rfl
theorem q_end : qV 16384 = ⟨65536, 65536⟩ := by kernel_rfl
structure Sb (a b : S_Interval) : Prop where
  va : vV a = true
  vb : vV b = true
  lo : b.Lo ≤ a.Lo
  hi : a.Hi ≤ b.Hi
theorem Sb.refl {a : S_Interval} (h : vV a = true) : Sb a a := ⟨h, h, Int.le_refl _, Int.le_refl _⟩
theorem Sb.trans {a b c : S_Interval} (h : Sb a b) (k : Sb b c) : Sb a c := ⟨h.va, k.vb, Int.le_trans k.lo h.lo, Int.le_trans h.hi k.hi⟩
theorem Sb.ofV (x : Int) : Sb (ofV x) (ofV x) := Sb.refl (ofV_v x)
theorem Sb.iz : Sb iz iz := Sb.refl iz_v
theorem Sb.lim {a b c d : Int} (h1 : c ≤ a) (h2 : b ≤ d) (h : a ≤ b) : Sb (limV a b) (limV c d) :=
  ⟨limV_v h, limV_v (by omega), clV_mono h1, clV_mono h2⟩
theorem Sb.add {a a' b b' : S_Interval} (h : Sb a a') (k : Sb b b') : Sb (addV a b) (addV a' b') := by
  unfold addV
  rw [h.va, h.vb, k.va, k.vb]
  have h1 := vV_iff.1 h.va
  have k1 := vV_iff.1 k.va
  have := h.lo; have := h.hi; have := k.lo; have := k.hi
  exact Sb.lim (by omega) (by omega) (by omega)
theorem negV_v {a : S_Interval} (h : vV a = true) : vV (negV a) = true := by
  have h1 := vV_iff.1 h
  unfold negV; rw [h]; exact vV_iff.2 (by simp only [if_true]; omega)
theorem Sb.neg {a a' : S_Interval} (h : Sb a a') : Sb (negV a) (negV a') := by
  refine ⟨negV_v h.va, negV_v h.vb, ?_, ?_⟩
  · unfold negV; rw [h.va, h.vb]; have := h.hi; simp only [if_true]; omega
  · unfold negV; rw [h.va, h.vb]; have := h.lo; simp only [if_true]; omega
theorem hullV_v {a b : S_Interval} (h : vV a = true) (k : vV b = true) : vV (hullV a b) = true := by
  have h1 := vV_iff.1 h
  have k1 := vV_iff.1 k
  unfold hullV; rw [h, k]; exact vV_iff.2 (by simp only [Bool.and_self, if_true]; omega)
theorem Sb.left {a b : S_Interval} (h : vV a = true) (k : vV b = true) : Sb a (hullV a b) :=
  ⟨h, hullV_v h k, by unfold hullV; rw [h, k]; simp only [Bool.and_self, if_true]; omega, by unfold hullV; rw [h, k]; simp only [Bool.and_self, if_true]; omega⟩
theorem Sb.right {a b : S_Interval} (h : vV a = true) (k : vV b = true) : Sb b (hullV a b) :=
  ⟨k, hullV_v h k, by unfold hullV; rw [h, k]; simp only [Bool.and_self, if_true]; omega, by unfold hullV; rw [h, k]; simp only [Bool.and_self, if_true]; omega⟩
theorem Sb.hull {a b c : S_Interval} (h : Sb a c) (k : Sb b c) : Sb (hullV a b) c := by
  have := h.lo; have := h.hi; have := k.lo; have := k.hi
  exact ⟨hullV_v h.va k.va, h.vb, by unfold hullV; rw [h.va, k.va]; simp only [Bool.and_self, if_true]; omega, by unfold hullV; rw [h.va, k.va]; simp only [Bool.and_self, if_true]; omega⟩
theorem lin_bd {a b x y : Int} (h1 : a ≤ x) (h2 : x ≤ b) : min (a * y) (b * y) ≤ x * y ∧ x * y ≤ max (a * y) (b * y) := by
  rcases Int.le_total 0 y with h | h
  · have := Int.mul_le_mul_of_nonneg_right h1 h
    have := Int.mul_le_mul_of_nonneg_right h2 h
    omega
  · have := Int.mul_le_mul_of_nonpos_right h1 h
    have := Int.mul_le_mul_of_nonpos_right h2 h
    omega
theorem mul_in {a b : S_Interval} {x y : Int} (h1 : a.Lo ≤ x) (h2 : x ≤ a.Hi) (k1 : b.Lo ≤ y) (k2 : y ≤ b.Hi) : mulLo a b ≤ x * y ∧ x * y ≤ mulHi a b := by
  have p := lin_bd (y := y) h1 h2
  have q1 := lin_bd (y := a.Lo) k1 k2
  have q2 := lin_bd (y := a.Hi) k1 k2
  rw [Int.mul_comm y, Int.mul_comm b.Lo, Int.mul_comm b.Hi] at q1 q2
  unfold mulLo mulHi
  omega
theorem div_mono {a b c : Int} (h : a ≤ b) (hc : 0 < c) : a / c ≤ b / c := Int.ediv_le_ediv hc h
theorem cdiv_mono {a b c : Int} (h : a ≤ b) (hc : 0 < c) : cdiv a c ≤ cdiv b c := by
  have := div_mono (a := -b) (b := -a) (by omega) hc
  unfold cdiv; omega
theorem Sb.mul {a a' b b' : S_Interval} (h : Sb a a') (k : Sb b b') : Sb (mulV a b) (mulV a' b') := by
  have h1 := vV_iff.1 h.va
  have k1 := vV_iff.1 k.va
  have hl := h.lo; have hh := h.hi; have kl := k.lo; have kh := k.hi
  have p1 := mul_in (a := a') (b := b') (x := a.Lo) (y := b.Lo) (by omega) (by omega) (by omega) (by omega)
  have p2 := mul_in (a := a') (b := b') (x := a.Lo) (y := b.Hi) (by omega) (by omega) (by omega) (by omega)
  have p3 := mul_in (a := a') (b := b') (x := a.Hi) (y := b.Lo) (by omega) (by omega) (by omega) (by omega)
  have p4 := mul_in (a := a') (b := b') (x := a.Hi) (y := b.Hi) (by omega) (by omega) (by omega) (by omega)
  have e1 : mulLo a' b' ≤ mulLo a b := by
    generalize mulLo a' b' = z at *
    unfold mulLo; omega
  have e2 : mulHi a b ≤ mulHi a' b' := by
    generalize mulHi a' b' = z at *
    unfold mulHi; omega
  unfold mulV
  rw [h.va, h.vb, k.va, k.vb]
  exact Sb.lim (div_mono e1 (by decide)) (cdiv_mono e2 (by decide)) (floor_le_ceil (mul_bd h.va k.va).2.2 (by decide))
theorem qV_bd {x : Int} (h0 : 0 ≤ x) (h1 : x ≤ 16384) : 0 ≤ (qV x).Lo ∧ (qV x).Hi ≤ 65536 ∧ (qV x).Lo ≤ (qV x).Hi := by
  have a := q_mono (Int.le_refl 0) h0 h1
  have b := q_mono h0 h1 (Int.le_refl _)
  rw [q_zero] at a
  rw [q_end] at b
  obtain ⟨a1, a2⟩ := a
  obtain ⟨b1, b2⟩ := b
  simp only at a1 a2 b1 b2
  refine ⟨a1, b2, ?_⟩
  by_cases c : x ≤ 8192
  · have := sQ_eq (x := x.toNat) (by omega) (by
      by_cases e : x.toNat = 8192
      · rw [e]; exact ckQ_end.1.1
      · exact (ckQ_at (by omega)).1)
    rw [show ((x.toNat : Nat) : Int) = x by omega] at this
    have k : loS x.toNat ≤ hiS x.toNat := by
      by_cases e : x.toNat = 8192
      · rw [e]; exact ckQ_w
      · exact (ckQ_v (by omega)).1
    unfold qV
    rw [if_pos c, this]; simp only; omega
  · have := cQ_eq (x := (16384 - x).toNat) (by omega) (ckQ_at (by omega)).2.1
    rw [show (((16384 - x).toNat : Nat) : Int) = 16384 - x by omega] at this
    have k := (ckQ_v (x := (16384 - x).toNat) (by omega)).2
    unfold qV
    rw [if_neg c, this]; simp only; omega
theorem qV_v {x : Int} (h0 : 0 ≤ x) (h1 : x ≤ 16384) : vV (qV x) = true := by
  have := qV_bd h0 h1
  exact vV_iff.2 (by omega)
def sT (y : Int) : S_Interval := if y ≤ 16384 then negV (qV (16384 - y)) else qV (y - 16384)
theorem sT_bd {y : Int} (h0 : 0 ≤ y) (h1 : y ≤ 32768) : vV (sT y) = true ∧ -65536 ≤ (sT y).Lo ∧ (sT y).Hi ≤ 65536 := by
  unfold sT
  split
  · have b := qV_bd (x := 16384 - y) (by omega) (by omega)
    have v := qV_v (x := 16384 - y) (by omega) (by omega)
    refine ⟨negV_v v, ?_⟩
    unfold negV; rw [v]; simp only [if_true]; omega
  · have b := qV_bd (x := y - 16384) (by omega) (by omega)
    exact ⟨qV_v (by omega) (by omega), by omega⟩
theorem sT_mono {y z : Int} (h0 : 0 ≤ y) (h : y ≤ z) (h1 : z ≤ 32768) : leI (sT y) (sT z) := by
  unfold sT
  split
  · split
    · have m := q_mono (a := 16384 - z) (b := 16384 - y) (by omega) (by omega) (by omega)
      unfold negV
      rw [qV_v (x := 16384 - y) (by omega) (by omega), qV_v (x := 16384 - z) (by omega) (by omega)]
      have := m.1; have := m.2
      exact ⟨by simp only [if_true]; omega, by simp only [if_true]; omega⟩
    · have b := qV_bd (x := 16384 - y) (by omega) (by omega)
      have b' := qV_bd (x := z - 16384) (by omega) (by omega)
      unfold negV
      rw [qV_v (x := 16384 - y) (by omega) (by omega)]
      exact ⟨by simp only [if_true]; omega, by simp only [if_true]; omega⟩
  · rw [if_neg (by omega)]
    exact q_mono (by omega) (by omega) (by omega)
def yT (b x : Int) : Int := if (x - b) % 65536 ≤ 32768 then (x - b) % 65536 else 65536 - (x - b) % 65536
theorem yT_bd (b x : Int) : 0 ≤ yT b x ∧ yT b x ≤ 32768 := by unfold yT; split <;> omega
theorem neg_zero_q : negV (qV 0) = qV 0 := by rw [q_zero]; rfl
theorem sinV_T (x : Int) : sinV x = sT (yT 49152 x) := by
  unfold sinV sT yT
  by_cases h0 : x % 65536 / 16384 = 0
  · rw [if_pos h0, if_pos (show (x - 49152) % 65536 ≤ 32768 by omega)]
    by_cases e : (x - 49152) % 65536 ≤ 16384
    · rw [if_pos e, show x % 65536 % 16384 = 0 by omega, show 16384 - (x - 49152) % 65536 = 0 by omega, neg_zero_q]
    · rw [if_neg e, show x % 65536 % 16384 = (x - 49152) % 65536 - 16384 by omega]
  · rw [if_neg h0]
    by_cases h1 : x % 65536 / 16384 = 1
    · rw [if_pos h1]
      by_cases c : (x - 49152) % 65536 ≤ 32768
      · rw [if_pos c, if_neg (by omega)]; congr 1; omega
      · rw [if_neg c, if_neg (by omega)]; congr 1; omega
    · rw [if_neg h1]
      by_cases h2 : x % 65536 / 16384 = 2
      · rw [if_pos h2, if_neg (show ¬ (x - 49152) % 65536 ≤ 32768 by omega), if_pos (by omega)]; congr 2; omega
      · rw [if_neg h2, if_pos (show (x - 49152) % 65536 ≤ 32768 by omega), if_pos (by omega)]; congr 2; omega
theorem cosV_T (x : Int) : cosV x = sT (yT 32768 x) := by
  unfold cosV; rw [sinV_T]; unfold yT
  rw [show (x % 65536 + 16384 - 49152) % 65536 = (x - 32768) % 65536 by omega]
theorem hull1_v {c : Bool} {x y : S_Interval} (h : vV x = true) (k : vV y = true) : vV (hull1 c x y) = true := by
  unfold hull1; split
  · exact hullV_v h k
  · exact h
theorem hull1_sb {c : Bool} {x y : S_Interval} (h : vV x = true) (k : vV y = true) : Sb x (hull1 c x y) := by
  unfold hull1; split
  · exact Sb.left h k
  · exact Sb.refl h
theorem over_in {f : Int → S_Interval} {t b : Int} (hf : ∀ x, f x = sT (yT b x)) (ht : t = b - 32768 ∨ t = b + 32768) {B : S_Interval} (hB : vV B = true) {x : Int} (h1 : B.Lo ≤ x) (h2 : x ≤ B.Hi) : Sb (f x) (overV B (f B.Lo) (f B.Hi) t b) := by
  have hv := vV_iff.1 hB
  have vf : ∀ x, vV (f x) = true ∧ -65536 ≤ (f x).Lo ∧ (f x).Hi ≤ 65536 := fun x => by rw [hf]; exact sT_bd (yT_bd b x).1 (yT_bd b x).2
  have gx := vf x; have gl := vf B.Lo; have gh := vf B.Hi
  have v0 := hullV_v gl.1 gh.1
  unfold overV
  rw [hB, if_pos rfl]
  by_cases w : B.Hi - B.Lo ≥ 65536
  · rw [if_pos w]
    exact ⟨gx.1, by decide, gx.2.1, gx.2.2⟩
  · rw [if_neg w]
    have v1 : vV (hull1 (meetV B t) (hullV (f B.Lo) (f B.Hi)) (ofV 65536)) = true := hull1_v v0 (ofV_v _)
    have s1 : Sb (hullV (f B.Lo) (f B.Hi)) (hull1 (meetV B t) (hullV (f B.Lo) (f B.Hi)) (ofV 65536)) := hull1_sb v0 (ofV_v _)
    have s2 := hull1_sb (c := meetV B b) v1 (ofV_v (-65536))
    refine ⟨gx.1, hull1_v v1 (ofV_v _), ?_, ?_⟩
    ·
      by_cases m : meetV B b = true
      · have e : (hull1 (meetV B b) (hull1 (meetV B t) (hullV (f B.Lo) (f B.Hi)) (ofV 65536)) (ofV (-65536))).Lo ≤ -65536 := by
          rw [m]
          exact (Sb.right v1 (ofV_v (-65536))).lo
        omega
      · have m' : ¬ (B.Lo + (b - B.Lo) % 65536 ≤ B.Hi) := by simpa [meetV] using m
        have l1 := (Sb.left gl.1 gh.1).lo
        have l2 := (Sb.right gl.1 gh.1).lo
        have l3 := s1.lo
        have l4 := s2.lo
        by_cases c : (x - b) % 65536 ≤ 32768
        · have : leI (f B.Lo) (f x) := by
            rw [hf, hf x]
            refine sT_mono (yT_bd _ _).1 ?_ (yT_bd _ _).2
            unfold yT; rw [if_pos c, if_pos (by omega)]; omega
          have := this.1; omega
        · have : leI (f B.Hi) (f x) := by
            rw [hf, hf x]
            refine sT_mono (yT_bd _ _).1 ?_ (yT_bd _ _).2
            unfold yT; rw [if_neg c, if_neg (by omega)]; omega
          have := this.1; omega
    · by_cases m : meetV B t = true
      · have e : 65536 ≤ (hull1 (meetV B t) (hullV (f B.Lo) (f B.Hi)) (ofV 65536)).Hi := by
          rw [m]
          exact (Sb.right v0 (ofV_v 65536)).hi
        have := s2.hi
        omega
      · have m' : ¬ (B.Lo + (t - B.Lo) % 65536 ≤ B.Hi) := by simpa [meetV] using m
        have l1 := (Sb.left gl.1 gh.1).hi
        have l2 := (Sb.right gl.1 gh.1).hi
        have l3 := s1.hi
        have l4 := s2.hi
        by_cases c : (x - t) % 65536 ≤ 32768
        · have : leI (f x) (f B.Lo) := by
            rw [hf, hf B.Lo]
            refine sT_mono (yT_bd _ _).1 ?_ (yT_bd _ _).2
            unfold yT; split <;> split <;> omega
          have := this.2; omega
        · have : leI (f x) (f B.Hi) := by
            rw [hf, hf B.Hi]
            refine sT_mono (yT_bd _ _).1 ?_ (yT_bd _ _).2
            unfold yT; split <;> split <;> omega
          have := this.2; omega
theorem over_mono {f : Int → S_Interval} {t b : Int} (hf : ∀ x, f x = sT (yT b x)) (ht : t = b - 32768 ∨ t = b + 32768) {A B : S_Interval} (h : Sb A B) : Sb (overV A (f A.Lo) (f A.Hi) t b) (overV B (f B.Lo) (f B.Hi) t b) := by
  have hA := vV_iff.1 h.va
  have hB := vV_iff.1 h.vb
  have := h.lo; have := h.hi
  have i1 := over_in hf ht h.vb (x := A.Lo) (by omega) (by omega)
  have i2 := over_in hf ht h.vb (x := A.Hi) (by omega) (by omega)
  have wide : B.Hi - B.Lo ≥ 65536 → overV B (f B.Lo) (f B.Hi) t b = ⟨-65536, 65536⟩ := fun w => by
    unfold overV; rw [h.vb, if_pos rfl, if_pos w]
  have low : meetV A b = true → Sb (ofV (-65536)) (overV B (f B.Lo) (f B.Hi) t b) := fun m => by
    by_cases w : B.Hi - B.Lo ≥ 65536
    · rw [wide w]; exact ⟨ofV_v _, by decide, by decide, by decide⟩
    · have m1 : A.Lo + (b - A.Lo) % 65536 ≤ A.Hi := by simpa [meetV] using m
      have mB : meetV B b = true := by simp only [meetV, decide_eq_true_eq]; omega
      have v := hull1_v (c := meetV B t) (hullV_v (a := f B.Lo) (b := f B.Hi) (by rw [hf]; exact (sT_bd (yT_bd _ _).1 (yT_bd _ _).2).1) (by rw [hf]; exact (sT_bd (yT_bd _ _).1 (yT_bd _ _).2).1)) (ofV_v 65536)
      unfold overV; rw [h.vb, if_pos rfl, if_neg w, mB]
      exact Sb.right v (ofV_v _)
  have top : meetV A t = true → Sb (ofV 65536) (overV B (f B.Lo) (f B.Hi) t b) := fun m => by
    by_cases w : B.Hi - B.Lo ≥ 65536
    · rw [wide w]; exact ⟨ofV_v _, by decide, by decide, by decide⟩
    · have m1 : A.Lo + (t - A.Lo) % 65536 ≤ A.Hi := by simpa [meetV] using m
      have mB : meetV B t = true := by simp only [meetV, decide_eq_true_eq]; omega
      have v0 := hullV_v (a := f B.Lo) (b := f B.Hi) (by rw [hf]; exact (sT_bd (yT_bd _ _).1 (yT_bd _ _).2).1) (by rw [hf]; exact (sT_bd (yT_bd _ _).1 (yT_bd _ _).2).1)
      unfold overV; rw [h.vb, if_pos rfl, if_neg w, mB]
      exact (Sb.right v0 (ofV_v _)).trans (hull1_sb (hullV_v v0 (ofV_v _)) (ofV_v _))
  by_cases w : A.Hi - A.Lo ≥ 65536
  · have e : overV A (f A.Lo) (f A.Hi) t b = ⟨-65536, 65536⟩ := by unfold overV; rw [h.va, if_pos rfl, if_pos w]
    rw [e, wide (by omega)]; exact Sb.refl (by decide)
  · have e : overV A (f A.Lo) (f A.Hi) t b = hull1 (meetV A b) (hull1 (meetV A t) (hullV (f A.Lo) (f A.Hi)) (ofV 65536)) (ofV (-65536)) := by unfold overV; rw [h.va, if_pos rfl, if_neg w]
    rw [e]
    have j1 := i1.hull i2
    have j2 : Sb (hull1 (meetV A t) (hullV (f A.Lo) (f A.Hi)) (ofV 65536)) (overV B (f B.Lo) (f B.Hi) t b) := by
      unfold hull1; split
      · rename_i m; exact j1.hull (top m)
      · exact j1
    unfold hull1 at j2 ⊢
    split
    · rename_i m; exact j2.hull (low m)
    · exact j2
theorem Sb.sin {a b : S_Interval} (h : Sb a b) : Sb (sinO a) (sinO b) := over_mono (f := sinV) sinV_T (.inl rfl) h
theorem Sb.cos {a b : S_Interval} (h : Sb a b) : Sb (cosO a) (cosO b) := over_mono (f := cosV) cosV_T (.inl rfl) h
structure Sv (a b : IV3) : Prop where
  x : Sb a.1 b.1
  y : Sb a.2.1 b.2.1
  z : Sb a.2.2 b.2.2
structure SM (a b : IM3) : Prop where
  x : Sv a.1 b.1
  y : Sv a.2.1 b.2.1
  z : Sv a.2.2 b.2.2
structure SP (a b : S_Pose) : Prop where
  r : SM a.R b.R
  t : Sv a.T b.T
theorem Sv.zero : Sv izv izv := ⟨Sb.iz, Sb.iz, Sb.iz⟩
theorem Sv.point (v : Int × Int × Int) : Sv (pointV v) (pointV v) := ⟨Sb.ofV _, Sb.ofV _, Sb.ofV _⟩
theorem SM.unit : SM unitV unitV := ⟨⟨Sb.ofV _, Sb.iz, Sb.iz⟩, ⟨Sb.iz, Sb.ofV _, Sb.iz⟩, ⟨Sb.iz, Sb.iz, Sb.ofV _⟩⟩
theorem SP.rest : SP restV restV := ⟨SM.unit, Sv.zero⟩
theorem Sv.add {a a' b b' : IV3} (h : Sv a a') (k : Sv b b') : Sv (addVV a b) (addVV a' b') := ⟨h.x.add k.x, h.y.add k.y, h.z.add k.z⟩
theorem Sv.dot {a a' b b' : IV3} (h : Sv a a') (k : Sv b b') : Sb (dotV a b) (dotV a' b') := ((h.x.mul k.x).add (h.y.mul k.y)).add (h.z.mul k.z)
theorem SM.apply {m m' : IM3} {v v' : IV3} (h : SM m m') (k : Sv v v') : Sv (applyV m v) (applyV m' v') := ⟨h.x.dot k, h.y.dot k, h.z.dot k⟩
theorem Sb.lim1 {a b : S_Interval} (h : Sb a b) : Sb (lim1 a) (lim1 b) := by
  have h1 := vV_iff.1 h.va
  have h2 := vV_iff.1 h.vb
  have := h.lo; have := h.hi
  exact ⟨vV_iff.2 (by unfold Go.Abs.lim1; simp only; omega), vV_iff.2 (by unfold Go.Abs.lim1; simp only; omega), by unfold Go.Abs.lim1; simp only; omega, by unfold Go.Abs.lim1; simp only; omega⟩
theorem SM.row {r r' : IV3} {b b' : IM3} (h : Sv r r') (k : SM b b') : Sv (rowV r b) (rowV r' b') :=
  ⟨(h.dot (b := (b.1.1, b.2.1.1, b.2.2.1)) (b' := (b'.1.1, b'.2.1.1, b'.2.2.1)) ⟨k.x.x, k.y.x, k.z.x⟩).lim1,
   (h.dot (b := (b.1.2.1, b.2.1.2.1, b.2.2.2.1)) (b' := (b'.1.2.1, b'.2.1.2.1, b'.2.2.2.1)) ⟨k.x.y, k.y.y, k.z.y⟩).lim1,
   (h.dot (b := (b.1.2.2, b.2.1.2.2, b.2.2.2.2)) (b' := (b'.1.2.2, b'.2.1.2.2, b'.2.2.2.2)) ⟨k.x.z, k.y.z, k.z.z⟩).lim1⟩
theorem SM.comp {a a' b b' : IM3} (h : SM a a') (k : SM b b') : SM (compM a b) (compM a' b') := ⟨SM.row h.x k, SM.row h.y k, SM.row h.z k⟩
theorem SM.turn {a b : S_Interval} (k : Int) (h : Sb a b) : SM (turnV k a) (turnV k b) := by
  unfold turnV
  rw [h.va, h.vb]
  simp only [if_true]
  split
  · exact ⟨⟨Sb.ofV _, Sb.iz, Sb.iz⟩, ⟨Sb.iz, h.cos, h.sin.neg⟩, ⟨Sb.iz, h.sin, h.cos⟩⟩
  · split
    · exact ⟨⟨h.cos, Sb.iz, h.sin⟩, ⟨Sb.iz, Sb.ofV _, Sb.iz⟩, ⟨h.sin.neg, Sb.iz, h.cos⟩⟩
    · split
      · exact ⟨⟨h.cos, h.sin.neg, Sb.iz⟩, ⟨h.sin, h.cos, Sb.iz⟩, ⟨Sb.iz, Sb.iz, Sb.ofV _⟩⟩
      · exact ⟨Sv.zero, Sv.zero, Sv.zero⟩
theorem SP.comp {a a' b b' : S_Pose} (h : SP a a') (k : SP b b') : SP (compV a b) (compV a' b') := ⟨h.r.comp k.r, h.t.add (h.r.apply k.t)⟩
theorem SP.move {p p' : S_Pose} {v v' : IV3} (h : SP p p') (k : Sv v v') : Sv (moveV p v) (moveV p' v') := h.t.add (h.r.apply k)
theorem Sv.slide {a b : S_Interval} (k : Int) (h : Sb a b) : Sv (slideV k a) (slideV k b) := by
  unfold slideV
  split
  · exact ⟨h, Sb.iz, Sb.iz⟩
  · split
    · exact ⟨Sb.iz, h, Sb.iz⟩
    · exact ⟨Sb.iz, Sb.iz, h⟩
theorem SP.joint {a b : S_Interval} (j : S_Joint) (h : Sb a b) : SP (jointV j a) (jointV j b) := by
  unfold jointV
  refine SP.comp ⟨SM.unit, Sv.point _⟩ ?_
  split
  · exact ⟨SM.turn _ h, Sv.zero⟩
  · split
    · exact ⟨SM.unit, Sv.slide _ h⟩
    · exact SP.rest
def SBx (n : Nat) (b b' : List S_Interval) : Prop := ∀ i, i < n → Sb (b.getD i default) (b'.getD i default)
theorem SP.link {r : S_Robot} (hr : robotV r = 0) {b b' : List S_Interval} (h : SBx r.Joints.length b b') : ∀ i, i < r.Joints.length → SP (lkP r b i) (lkP r b' i) := by
  intro i
  induction i using Nat.strongRecOn with
  | _ i ih =>
    intro hi
    have jo := (robot_joint hr hi).parent
    unfold lkP lk1
    split
    · exact SP.joint _ (h i hi)
    · rename_i hp
      have hq : ((r.Joints.getD i default).Parent).toNat < i := by omega
      rw [lk_tab, lk_tab, tab_get hq, tab_get hq]
      exact (ih _ hq (by omega)).comp (SP.joint _ (h i hi))
theorem SP.linkP {r : S_Robot} (hr : robotV r = 0) {b b' : List S_Interval} (h : SBx r.Joints.length b b') {k : Int} (h0 : -1 ≤ k) (h1 : k < (r.Joints.length : Int)) : SP (linkP r b k) (linkP r b' k) := by
  unfold Go.Abs.linkP
  split
  · exact SP.rest
  · exact SP.link hr h _ (by omega)
def SL (a b : List IV3) : Prop := a.length = b.length ∧ ∀ i, i < a.length → Sv (a.getD i default) (b.getD i default)
theorem SL.points {s : S_Scene} (hs : sceneV s = 0) {b b' : List S_Interval} (h : SBx s.Robot.Joints.length b b') {i : Nat} (hi : i < s.Shapes.length) : SL (pointsF s b i) (pointsF s b' i) := by
  have so := sceneV_ok hs
  have sh := shapeV_ok (so.shape i hi)
  have lk := SP.linkP so.robot h sh.2.1 sh.2.2
  unfold pointsF placeV
  rw [if_pos sh.1, if_pos sh.1]
  refine ⟨by rw [tab_len, tab_len], fun j hj => ?_⟩
  rw [tab_len] at hj
  rw [tab_get hj, tab_get hj]
  exact lk.move (Sv.point _)
theorem Sv.reached {a b : IV3} (h : Sv a b) (k : reachedV b = true) : reachedV a = true := by
  simp only [reachedV, Bool.and_eq_true, rng_iff] at k ⊢
  have h1 := vV_iff.1 h.x.va; have h2 := vV_iff.1 h.y.va; have h3 := vV_iff.1 h.z.va
  have := h.x.lo; have := h.x.hi; have := h.y.lo; have := h.y.hi; have := h.z.lo; have := h.z.hi
  omega
theorem SL.placed {a b : List IV3} (h : SL a b) (k : placedV b = true) : placedV a = true := by
  have kl := placed_len k
  simp only [placedV, Bool.and_eq_true, decide_eq_true_eq]
  refine ⟨by rw [h.1]; exact kl, noneB_iff.2 fun i hi => ?_⟩
  unfold farL
  rw [(h.2 i hi).reached (placed_get k (by rw [← h.1]; exact hi))]; rfl
theorem dLo_mono {n : V3} {a b : IV3} (h : Sv a b) : dLo n b ≤ dLo n a := by
  have h1 := vV_iff.1 h.x.va; have h2 := vV_iff.1 h.y.va; have h3 := vV_iff.1 h.z.va
  have := h.x.lo; have := h.x.hi; have := h.y.lo; have := h.y.hi; have := h.z.lo; have := h.z.hi
  have p1 := lin_bd (a := b.1.Lo) (b := b.1.Hi) (x := a.1.Lo) (y := n.1) (by omega) (by omega)
  have p2 := lin_bd (a := b.1.Lo) (b := b.1.Hi) (x := a.1.Hi) (y := n.1) (by omega) (by omega)
  have q1 := lin_bd (a := b.2.1.Lo) (b := b.2.1.Hi) (x := a.2.1.Lo) (y := n.2.1) (by omega) (by omega)
  have q2 := lin_bd (a := b.2.1.Lo) (b := b.2.1.Hi) (x := a.2.1.Hi) (y := n.2.1) (by omega) (by omega)
  have r1 := lin_bd (a := b.2.2.Lo) (b := b.2.2.Hi) (x := a.2.2.Lo) (y := n.2.2) (by omega) (by omega)
  have r2 := lin_bd (a := b.2.2.Lo) (b := b.2.2.Hi) (x := a.2.2.Hi) (y := n.2.2) (by omega) (by omega)
  unfold dLo
  rw [Int.mul_comm n.1, Int.mul_comm n.1, Int.mul_comm n.1, Int.mul_comm n.1, Int.mul_comm n.2.1, Int.mul_comm n.2.1, Int.mul_comm n.2.1, Int.mul_comm n.2.1, Int.mul_comm n.2.2, Int.mul_comm n.2.2, Int.mul_comm n.2.2, Int.mul_comm n.2.2]
  omega
theorem dHi_mono {n : V3} {a b : IV3} (h : Sv a b) : dHi n a ≤ dHi n b := by
  have h1 := vV_iff.1 h.x.va; have h2 := vV_iff.1 h.y.va; have h3 := vV_iff.1 h.z.va
  have := h.x.lo; have := h.x.hi; have := h.y.lo; have := h.y.hi; have := h.z.lo; have := h.z.hi
  have p1 := lin_bd (a := b.1.Lo) (b := b.1.Hi) (x := a.1.Lo) (y := n.1) (by omega) (by omega)
  have p2 := lin_bd (a := b.1.Lo) (b := b.1.Hi) (x := a.1.Hi) (y := n.1) (by omega) (by omega)
  have q1 := lin_bd (a := b.2.1.Lo) (b := b.2.1.Hi) (x := a.2.1.Lo) (y := n.2.1) (by omega) (by omega)
  have q2 := lin_bd (a := b.2.1.Lo) (b := b.2.1.Hi) (x := a.2.1.Hi) (y := n.2.1) (by omega) (by omega)
  have r1 := lin_bd (a := b.2.2.Lo) (b := b.2.2.Hi) (x := a.2.2.Lo) (y := n.2.2) (by omega) (by omega)
  have r2 := lin_bd (a := b.2.2.Lo) (b := b.2.2.Hi) (x := a.2.2.Hi) (y := n.2.2) (by omega) (by omega)
  unfold dHi
  rw [Int.mul_comm n.1, Int.mul_comm n.1, Int.mul_comm n.1, Int.mul_comm n.1, Int.mul_comm n.2.1, Int.mul_comm n.2.1, Int.mul_comm n.2.1, Int.mul_comm n.2.1, Int.mul_comm n.2.2, Int.mul_comm n.2.2, Int.mul_comm n.2.2, Int.mul_comm n.2.2]
  omega
theorem bst_lt (f : Nat → Int) : ∀ n, 1 ≤ n → (∃ i, i < n ∧ (bst ltB f n).1 = f i) ∧ ∀ i, i < n → (bst ltB f n).1 ≤ f i
  | 0, h => by omega
  | n + 1, _ => by
    simp only [bst]
    by_cases h0 : n = 0
    · subst h0
      exact ⟨⟨0, by omega, rfl⟩, fun i hi => by obtain rfl : i = 0 := by omega
                                                exact Int.le_refl _⟩
    · obtain ⟨⟨i, hi, e⟩, hm⟩ := bst_lt f n (by omega)
      rw [decide_eq_false h0, Bool.false_or]
      by_cases c : f n < (bst ltB f n).1
      · rw [show ltB (f n) (bst ltB f n).1 = true from decide_eq_true c, if_pos rfl]
        refine ⟨⟨n, by omega, rfl⟩, fun j hj => ?_⟩
        by_cases ej : j = n
        · rw [ej]; exact Int.le_refl _
        · have := hm j (by omega); simp only; omega
      · rw [show ltB (f n) (bst ltB f n).1 = false from decide_eq_false c, if_neg (by decide)]
        refine ⟨⟨i, by omega, e⟩, fun j hj => ?_⟩
        by_cases ej : j = n
        · rw [ej]; omega
        · exact hm j (by omega)
theorem bst_gt (f : Nat → Int) : ∀ n, 1 ≤ n → (∃ i, i < n ∧ (bst gtB f n).1 = f i) ∧ ∀ i, i < n → f i ≤ (bst gtB f n).1
  | 0, h => by omega
  | n + 1, _ => by
    simp only [bst]
    by_cases h0 : n = 0
    · subst h0
      exact ⟨⟨0, by omega, rfl⟩, fun i hi => by obtain rfl : i = 0 := by omega
                                                exact Int.le_refl _⟩
    · obtain ⟨⟨i, hi, e⟩, hm⟩ := bst_gt f n (by omega)
      rw [decide_eq_false h0, Bool.false_or]
      by_cases c : f n > (bst gtB f n).1
      · rw [show gtB (f n) (bst gtB f n).1 = true from decide_eq_true c, if_pos rfl]
        refine ⟨⟨n, by omega, rfl⟩, fun j hj => ?_⟩
        by_cases ej : j = n
        · rw [ej]; exact Int.le_refl _
        · have := hm j (by omega); simp only; omega
      · rw [show gtB (f n) (bst gtB f n).1 = false from decide_eq_false c, if_neg (by decide)]
        refine ⟨⟨i, by omega, e⟩, fun j hj => ?_⟩
        by_cases ej : j = n
        · rw [ej]; omega
        · exact hm j (by omega)
theorem norm_mul {n : V3} {r : Int} (h0 : 0 ≤ r) (h1 : r ≤ 2097152) : 0 ≤ normV n * r ∧ normV n * r ≤ 137438953472 := by
  have b := normV_bd n
  refine ⟨Int.mul_nonneg b.1 h0, ?_⟩
  have := Int.mul_le_mul b.2 h1 h0 (by omega : (0 : Int) ≤ 65536)
  omega
theorem sep_iff {n : V3} {a b : List IV3} {ra rb : Int} : sepV n a ra b rb = true ↔ sepOk n a ra b rb = true ∧ ∀ i, i < a.length → ∀ j, j < b.length → normV n * (ra + rb) < dLo n (a.getD i default) - dHi n (b.getD j default) := by
  unfold sepV
  rw [Bool.and_eq_true]
  refine and_congr_right fun hs => ?_
  have hs' := hs
  simp only [sepOk, Bool.and_eq_true, radV, decide_eq_true_eq] at hs'
  obtain ⟨hn, ha, hb, hra, hrb⟩ := hs'
  have la := placed_len ha
  have lb := placed_len hb
  obtain ⟨⟨i, hi, ei⟩, mi⟩ := bst_lt (fun i => dLo n (a.getD i default)) a.length (by omega)
  obtain ⟨⟨j, hj, ej⟩, mj⟩ := bst_gt (fun i => dHi n (b.getD i default)) b.length (by omega)
  have di := dot_in hn (placed_get ha hi)
  have dj := dot_in hn (placed_get hb hj)
  have nm := norm_mul (n := n) (r := ra + rb) (by omega) (by omega)
  have e : marginV n a ra b rb = dLo n (a.getD i default) - dHi n (b.getD j default) - normV n * (ra + rb) := by
    unfold marginV leastV greatV
    rw [ei, ej]
    have d1 := di.2.2.1; have d2 := dj.2.2.2
    rw [w64 (x := ra + rb) (by omega) (by omega), w64 (x := normV n * (ra + rb)) (by omega) (by omega), w64 (x := dLo n (a.getD i default) - dHi n (b.getD j default)) (by omega) (by omega), w64 (by omega) (by omega)]
  rw [decide_eq_true_eq, e]
  constructor
  · intro h i' hi' j' hj'
    have q1 := mi i' hi'
    have q2 := mj j' hj'
    rw [ei] at q1
    rw [ej] at q2
    omega
  · intro h
    have := h i hi j hj
    omega
theorem sep_mono {n : V3} {a a' b b' : List IV3} {ra rb : Int} (h : SL a a') (k : SL b b') (hs : sepV n a' ra b' rb = true) : sepV n a ra b rb = true := by
  rw [sep_iff] at hs ⊢
  obtain ⟨h1, h2⟩ := hs
  simp only [sepOk, Bool.and_eq_true] at h1 ⊢
  refine ⟨⟨h1.1, h.placed h1.2.1, k.placed h1.2.2.1, h1.2.2.2⟩, fun i hi j hj => ?_⟩
  have q := h2 i (by rw [← h.1]; exact hi) j (by rw [← k.1]; exact hj)
  have q1 := dLo_mono (n := n) (h.2 i hi)
  have q2 := dHi_mono (n := n) (k.2 j hj)
  omega
def mK (x y : S_Interval) (t : Int) : Int := cdiv (mxV (x.Lo - y.Hi) (x.Hi - y.Lo)) t
def ovOk (u v : List Int) (a : List IV3) (ra : Int) (b : List IV3) (rb : Int) : Bool := (combV a u).2.2 && ((combV b v).2.2 && (decide ((combV a u).2.1 = (combV b v).2.1) && (radV ra && radV rb)))
def ovP (u v : List Int) (a : List IV3) (ra : Int) (b : List IV3) (rb : Int) : Prop := ovOk u v a ra b rb = true ∧
  ((mK (combV a u).1.1 (combV b v).1.1 (combV a u).2.1 ≤ ra + rb ∧ mK (combV a u).1.2.1 (combV b v).1.2.1 (combV a u).2.1 ≤ ra + rb) ∧ mK (combV a u).1.2.2 (combV b v).1.2.2 (combV a u).2.1 ≤ ra + rb) ∧
  mK (combV a u).1.1 (combV b v).1.1 (combV a u).2.1 * mK (combV a u).1.1 (combV b v).1.1 (combV a u).2.1 + mK (combV a u).1.2.1 (combV b v).1.2.1 (combV a u).2.1 * mK (combV a u).1.2.1 (combV b v).1.2.1 (combV a u).2.1 + mK (combV a u).1.2.2 (combV b v).1.2.2 (combV a u).2.1 * mK (combV a u).1.2.2 (combV b v).1.2.2 (combV a u).2.1 ≤ (ra + rb) * (ra + rb)
theorem cW_eq {w : List Int} {g : Nat → Int} {n : Nat} (h : ∀ j, j < n → 0 ≤ w.getD j default ∧ w.getD j default ≤ 65536) (hg : ∀ j, j < n → -268435456 ≤ g j ∧ g j ≤ 268435456) (hn : n ≤ 8) {j : Nat} (hj : j < n) : cW w g (j + 1) = cW w g j + w.getD j default * g j := by
  have b := cW_bd h hg hn j (by omega)
  have hm := mul44 (h j hj) (hg j hj)
  simp only [cW]
  rw [w64 (x := w.getD j default * g j) (by omega) (by omega), w64 (by omega) (by omega)]
theorem cW_mono {w : List Int} {g g' : Nat → Int} {n : Nat} (h : ∀ j, j < n → 0 ≤ w.getD j default ∧ w.getD j default ≤ 65536) (hg : ∀ j, j < n → -268435456 ≤ g j ∧ g j ≤ 268435456) (hg' : ∀ j, j < n → -268435456 ≤ g' j ∧ g' j ≤ 268435456) (hn : n ≤ 8) (hh : ∀ j, j < n → g j ≤ g' j) : ∀ j, j ≤ n → cW w g j ≤ cW w g' j
  | 0, _ => by simp [cW]
  | j + 1, hj => by
    have := cW_mono h hg hg' hn hh j (by omega)
    have m := Int.mul_le_mul_of_nonneg_left (hh j (by omega)) (h j (by omega)).1
    rw [cW_eq h hg hn (by omega), cW_eq h hg' hn (by omega)]
    omega
theorem rr_iff {v : IV3} (hv : reachedV v = true) : (-268435456 ≤ v.1.Lo ∧ v.1.Lo ≤ v.1.Hi ∧ v.1.Hi ≤ 268435456) ∧ (-268435456 ≤ v.2.1.Lo ∧ v.2.1.Lo ≤ v.2.1.Hi ∧ v.2.1.Hi ≤ 268435456) ∧ (-268435456 ≤ v.2.2.Lo ∧ v.2.2.Lo ≤ v.2.2.Hi ∧ v.2.2.Hi ≤ 268435456) := by
  simp only [reachedV, Bool.and_eq_true, rng_iff] at hv; exact hv
def inS (a b : S_Interval) : Prop := b.Lo ≤ a.Lo ∧ a.Lo ≤ a.Hi ∧ a.Hi ≤ b.Hi
theorem comb_mono {a a' : List IV3} {u : List Int} (h : SL a a') (k : (combV a' u).2.2 = true) : (combV a u).2.2 = true ∧ (combV a u).2.1 = (combV a' u).2.1 ∧ inS (combV a u).1.1 (combV a' u).1.1 ∧ inS (combV a u).1.2.1 (combV a' u).1.2.1 ∧ inS (combV a u).1.2.2 (combV a' u).1.2.2 := by
  have hk' : okC a' u := by
    unfold combV at k
    by_cases c : okC a' u
    · exact c
    · rw [if_neg c] at k; cases k
  obtain ⟨h1, h2, h3, h4, h5⟩ := hk'
  have p := h.placed h1
  have hk : okC a u := ⟨p, by rw [h2, h.1], h3, h4, h5⟩
  have hk' : okC a' u := ⟨h1, h2, h3, h4, h5⟩
  have h8 := placed_len h1
  have hb := badW_iff.1 h3
  have r : ∀ j, j < u.length → reachedV (a.getD j default) = true := fun j hj => placed_get p (by rw [h.1]; omega)
  have r' : ∀ j, j < u.length → reachedV (a'.getD j default) = true := fun j hj => placed_get h1 (by omega)
  have key : ∀ (g g' : IV3 → Int) (l l' : List IV3), (∀ j, j < u.length → -268435456 ≤ g (l.getD j default) ∧ g (l.getD j default) ≤ g' (l'.getD j default) ∧ g' (l'.getD j default) ≤ 268435456) → cW u (fun i => g (l.getD i default)) u.length ≤ cW u (fun i => g' (l'.getD i default)) u.length := fun g g' l l' hg =>
    cW_mono hb (fun j hj => by have := hg j hj; omega) (fun j hj => by have := hg j hj; omega) (by omega) (fun j hj => by have := hg j hj; omega) u.length (Nat.le_refl _)
  have sv : ∀ j, j < u.length → Sv (a.getD j default) (a'.getD j default) := fun j hj => h.2 j (by rw [h.1]; omega)
  unfold combV
  rw [if_pos hk, if_pos hk']
  refine ⟨rfl, rfl, ⟨?_, ?_, ?_⟩, ⟨?_, ?_, ?_⟩, ⟨?_, ?_, ?_⟩⟩
  · exact key (fun v => v.1.Lo) (fun v => v.1.Lo) a' a fun j hj => by have := rr_iff (r j hj); have := rr_iff (r' j hj); have := (sv j hj).x.lo; omega
  · exact key (fun v => v.1.Lo) (fun v => v.1.Hi) a a fun j hj => by have := rr_iff (r j hj); omega
  · exact key (fun v => v.1.Hi) (fun v => v.1.Hi) a a' fun j hj => by have := rr_iff (r j hj); have := rr_iff (r' j hj); have := (sv j hj).x.hi; omega
  · exact key (fun v => v.2.1.Lo) (fun v => v.2.1.Lo) a' a fun j hj => by have := rr_iff (r j hj); have := rr_iff (r' j hj); have := (sv j hj).y.lo; omega
  · exact key (fun v => v.2.1.Lo) (fun v => v.2.1.Hi) a a fun j hj => by have := rr_iff (r j hj); omega
  · exact key (fun v => v.2.1.Hi) (fun v => v.2.1.Hi) a a' fun j hj => by have := rr_iff (r j hj); have := rr_iff (r' j hj); have := (sv j hj).y.hi; omega
  · exact key (fun v => v.2.2.Lo) (fun v => v.2.2.Lo) a' a fun j hj => by have := rr_iff (r j hj); have := rr_iff (r' j hj); have := (sv j hj).z.lo; omega
  · exact key (fun v => v.2.2.Lo) (fun v => v.2.2.Hi) a a fun j hj => by have := rr_iff (r j hj); omega
  · exact key (fun v => v.2.2.Hi) (fun v => v.2.2.Hi) a a' fun j hj => by have := rr_iff (r j hj); have := rr_iff (r' j hj); have := (sv j hj).z.hi; omega
theorem mx_eq {p q : Int} (hp : -281474976710656 ≤ p ∧ p ≤ 281474976710656) (hq : -281474976710656 ≤ q ∧ q ≤ 281474976710656) : mxV p q = max (max p (-p)) (max q (-q)) := by
  unfold mxV
  rw [w64 (x := p) (by omega) (by omega), w64 (x := q) (by omega) (by omega), w64 (x := 0 - p) (by omega) (by omega), w64 (x := 0 - q) (by omega) (by omega)]
  omega
theorem mK_mono {x y x' y' : S_Interval} {t : Int} (ht : 0 < t) (h : inS x x') (k : inS y y') (hx : sm x'.Lo ∧ sm x'.Hi) (hy : sm y'.Lo ∧ sm y'.Hi) : 0 ≤ mK x y t ∧ mK x y t ≤ mK x' y' t := by
  unfold sm at hx hy
  unfold inS at h k
  have e : mxV (x.Lo - y.Hi) (x.Hi - y.Lo) ≤ mxV (x'.Lo - y'.Hi) (x'.Hi - y'.Lo) ∧ 0 ≤ mxV (x.Lo - y.Hi) (x.Hi - y.Lo) := by
    rw [mx_eq (by omega) (by omega), mx_eq (by omega) (by omega)]
    omega
  refine ⟨?_, cdiv_mono e.1 ht⟩
  unfold mK
  have := (cdiv_bd (a := mxV (x.Lo - y.Hi) (x.Hi - y.Lo)) ht).1
  have := (cdiv_bd (a := mxV (x.Lo - y.Hi) (x.Hi - y.Lo)) ht).2
  omega
theorem sq_mono {a b : Int} (h0 : 0 ≤ a) (h : a ≤ b) : a * a ≤ b * b := Int.mul_le_mul h h h0 (by omega)
theorem ov_mono {u v : List Int} {a a' b b' : List IV3} {ra rb : Int} (h : SL a a') (k : SL b b') (ho : ovP u v a' ra b' rb) : ovP u v a ra b rb := by
  obtain ⟨h1, ⟨⟨m1, m2⟩, m3⟩, hs⟩ := ho
  simp only [ovOk, Bool.and_eq_true, decide_eq_true_eq] at h1
  obtain ⟨c1, c2, ct, cr⟩ := h1
  obtain ⟨a1, a2, a3, a4, a5⟩ := comb_mono h c1
  obtain ⟨b1, b2, b3, b4, b5⟩ := comb_mono k c2
  obtain ⟨t1, t2, s1, s2, s3⟩ := combV_ok c1
  obtain ⟨_, _, r1, r2, r3⟩ := combV_ok c2
  have n1 := mK_mono (t := (combV a u).2.1) (by omega) a3 b3 s1 r1
  have n2 := mK_mono (t := (combV a u).2.1) (by omega) a4 b4 s2 r2
  have n3 := mK_mono (t := (combV a u).2.1) (by omega) a5 b5 s3 r3
  rw [← a2] at m1 m2 m3 hs
  refine ⟨?_, ⟨⟨Int.le_trans n1.2 m1, Int.le_trans n2.2 m2⟩, Int.le_trans n3.2 m3⟩, ?_⟩
  · simp only [ovOk, Bool.and_eq_true, decide_eq_true_eq]
    exact ⟨a1, b1, by rw [a2, b2]; exact ct, cr⟩
  · have := sq_mono n1.1 n1.2
    have := sq_mono n2.1 n2.2
    have := sq_mono n3.1 n3.2
    omega
theorem dot_pt {n : V3} {v : IV3} (hv : reachedV v = true) : dLo n v ≤ n.1 * v.1.Lo + n.2.1 * v.2.1.Lo + n.2.2 * v.2.2.Lo ∧ n.1 * v.1.Lo + n.2.1 * v.2.1.Lo + n.2.2 * v.2.2.Lo ≤ dHi n v := by
  unfold dLo dHi; omega
theorem cW_dot {w : List Int} {l : List IV3} {n : V3} {c : Int} {m : Nat} (hm : m ≤ 8) (h : ∀ j, j < m → 0 ≤ w.getD j default ∧ w.getD j default ≤ 65536) (hl : ∀ j, j < m → reachedV (l.getD j default) = true) :
    ∀ j, j ≤ m →
      ((∀ i, i < j → c ≤ n.1 * (l.getD i default).1.Lo + n.2.1 * (l.getD i default).2.1.Lo + n.2.2 * (l.getD i default).2.2.Lo) → tW w j * c ≤ n.1 * cW w (fun i => (l.getD i default).1.Lo) j + n.2.1 * cW w (fun i => (l.getD i default).2.1.Lo) j + n.2.2 * cW w (fun i => (l.getD i default).2.2.Lo) j) ∧
      ((∀ i, i < j → n.1 * (l.getD i default).1.Lo + n.2.1 * (l.getD i default).2.1.Lo + n.2.2 * (l.getD i default).2.2.Lo ≤ c) → n.1 * cW w (fun i => (l.getD i default).1.Lo) j + n.2.1 * cW w (fun i => (l.getD i default).2.1.Lo) j + n.2.2 * cW w (fun i => (l.getD i default).2.2.Lo) j ≤ tW w j * c)
  | 0, _ => by simp [cW, tW]
  | j + 1, hj => by
    obtain ⟨i1, i2⟩ := cW_dot (c := c) (n := n) hm h hl j (by omega)
    have hw := h j (by omega)
    have et : tW w (j + 1) = tW w j + w.getD j default := by
      have := tW_ok h hm j (by omega)
      simp only [tW]; exact w64 (by omega) (by omega)
    have e1 := cW_eq (g := fun i => (l.getD i default).1.Lo) h (fun i hi => by have := rr_iff (hl i hi); omega) hm (show j < m by omega)
    have e2 := cW_eq (g := fun i => (l.getD i default).2.1.Lo) h (fun i hi => by have := rr_iff (hl i hi); omega) hm (show j < m by omega)
    have e3 := cW_eq (g := fun i => (l.getD i default).2.2.Lo) h (fun i hi => by have := rr_iff (hl i hi); omega) hm (show j < m by omega)
    rw [e1, e2, e3, et]
    simp only [Int.mul_add, Int.add_mul]
    have x1 : n.1 * (w.getD j default * (l.getD j default).1.Lo) = w.getD j default * (n.1 * (l.getD j default).1.Lo) := by rw [← Int.mul_assoc, Int.mul_comm n.1, Int.mul_assoc]
    have x2 : n.2.1 * (w.getD j default * (l.getD j default).2.1.Lo) = w.getD j default * (n.2.1 * (l.getD j default).2.1.Lo) := by rw [← Int.mul_assoc, Int.mul_comm n.2.1, Int.mul_assoc]
    have x3 : n.2.2 * (w.getD j default * (l.getD j default).2.2.Lo) = w.getD j default * (n.2.2 * (l.getD j default).2.2.Lo) := by rw [← Int.mul_assoc, Int.mul_comm n.2.2, Int.mul_assoc]
    rw [x1, x2, x3]
    constructor
    · intro hc
      have y := i1 fun i hi => hc i (by omega)
      have z := Int.mul_le_mul_of_nonneg_left (hc j (by omega)) hw.1
      simp only [Int.mul_add] at z
      omega
    · intro hc
      have y := i2 fun i hi => hc i (by omega)
      have z := Int.mul_le_mul_of_nonneg_left (hc j (by omega)) hw.1
      simp only [Int.mul_add] at z
      omega
theorem abs_mul_le {n d m t : Int} (h : -(t * m) ≤ d ∧ d ≤ t * m) : n * d ≤ t * (max n (-n) * m) := by
  rcases Int.le_total 0 n with c | c
  · have := Int.mul_le_mul_of_nonneg_left h.2 c
    rw [show max n (-n) = n by omega, ← Int.mul_assoc, Int.mul_comm t n, Int.mul_assoc]; exact this
  · have := Int.mul_le_mul_of_nonpos_left c h.1
    rw [show max n (-n) = -n by omega]
    have e : t * (-n * m) = n * (-(t * m)) := by rw [Int.neg_mul, Int.mul_neg, Int.mul_neg, ← Int.mul_assoc, Int.mul_comm t n, Int.mul_assoc]
    rw [e]; exact this
theorem sq_nn (a : Int) : 0 ≤ a * a := by
  rcases Int.le_total 0 a with h | h
  · exact Int.mul_nonneg h h
  · exact Int.mul_nonneg_of_nonpos_of_nonpos h h
theorem cauchy {p q s a b c : Int} : (p * a + q * b + s * c) * (p * a + q * b + s * c) ≤ (p * p + q * q + s * s) * (a * a + b * b + c * c) := by
  have h1 : 0 ≤ (p * b - q * a) * (p * b - q * a) := sq_nn _
  have h2 : 0 ≤ (p * c - s * a) * (p * c - s * a) := sq_nn _
  have h3 : 0 ≤ (q * c - s * b) * (q * c - s * b) := sq_nn _
  have e : (p * p + q * q + s * s) * (a * a + b * b + c * c) = (p * a + q * b + s * c) * (p * a + q * b + s * c) + ((p * b - q * a) * (p * b - q * a) + (p * c - s * a) * (p * c - s * a) + (q * c - s * b) * (q * c - s * b)) := by grind
  omega
theorem of_sq {a b : Int} (h : a * a ≤ b * b) (hb : 0 ≤ b) : a ≤ b := by
  by_cases c : a ≤ b
  · exact c
  · have : b * b < a * a := Int.mul_lt_mul' (by omega) (by omega) hb (by omega)
    omega
theorem norm_sq {n : V3} (h : usableV n = true) : sqV n ≤ normV n * normV n := by
  have b := sqV_bd h
  have r := (rootV_is b.1 b.2.1).1
  obtain ⟨r0, r1, r2⟩ := r
  unfold normV rupV
  rw [if_pos h]
  split
  · omega
  · omega
theorem abs_sq (a : Int) : max a (-a) * max a (-a) = a * a := by
  rcases Int.le_total 0 a with h | h
  · rw [show max a (-a) = a by omega]
  · rw [show max a (-a) = -a by omega, Int.neg_mul_neg]
theorem mx_ge {x y : S_Interval} {t : Int} (ht : 0 < t) (h : x.Lo ≤ x.Hi) (k : y.Lo ≤ y.Hi) (hx : sm x.Lo ∧ sm x.Hi) (hy : sm y.Lo ∧ sm y.Hi) : 0 ≤ mK x y t ∧ -(t * mK x y t) ≤ x.Lo - y.Lo ∧ x.Lo - y.Lo ≤ t * mK x y t := by
  have p := (mK_mono ht ⟨Int.le_refl _, h, Int.le_refl _⟩ ⟨Int.le_refl _, k, Int.le_refl _⟩ hx hy).1
  have q := ((cdiv_spec (a := mxV (x.Lo - y.Hi) (x.Hi - y.Lo)) (q := mK x y t) ht).1 rfl).1
  unfold sm at hx hy
  rw [mx_eq (by omega) (by omega)] at q
  exact ⟨p, by omega, by omega⟩
theorem comb_vals {a : List IV3} {u : List Int} (k : (combV a u).2.2 = true) : okC a u ∧ combV a u = (cV a u u.length, tW u u.length, true) := by
  unfold combV at k ⊢
  by_cases c : okC a u
  · exact ⟨c, by rw [if_pos c]⟩
  · rw [if_neg c] at k; cases k
theorem SL.refl {a : List IV3} (h : placedV a = true) : SL a a := by
  refine ⟨rfl, fun i hi => ?_⟩
  have := rr_iff (placed_get h hi)
  exact ⟨Sb.refl (vV_iff.2 (by omega)), Sb.refl (vV_iff.2 (by omega)), Sb.refl (vV_iff.2 (by omega))⟩
theorem sep_no_ov {n : V3} {u v : List Int} {a b : List IV3} {ra rb : Int} (hs : sepV n a ra b rb = true) : ¬ ovP u v a ra b rb := by
  rintro ⟨h1, -, hq⟩
  rw [sep_iff] at hs
  obtain ⟨s1, s2⟩ := hs
  simp only [sepOk, Bool.and_eq_true, radV, decide_eq_true_eq] at s1
  obtain ⟨hn, ha, hb, hra, hrb⟩ := s1
  simp only [ovOk, Bool.and_eq_true, decide_eq_true_eq] at h1
  obtain ⟨c1, c2, ct, -⟩ := h1
  obtain ⟨-, -, a3, a4, a5⟩ := comb_mono (SL.refl ha) c1
  obtain ⟨-, -, b3, b4, b5⟩ := comb_mono (SL.refl hb) c2
  obtain ⟨t1, t2, w1, w2, w3⟩ := combV_ok c1
  obtain ⟨_, _, r1, r2, r3⟩ := combV_ok c2
  have k1 := mx_ge (t := (combV a u).2.1) (by omega) a3.2.1 b3.2.1 w1 r1
  have k2 := mx_ge (t := (combV a u).2.1) (by omega) a4.2.1 b4.2.1 w2 r2
  have k3 := mx_ge (t := (combV a u).2.1) (by omega) a5.2.1 b5.2.1 w3 r3
  generalize mK (combV a u).1.1 (combV b v).1.1 (combV a u).2.1 = m1 at *
  generalize mK (combV a u).1.2.1 (combV b v).1.2.1 (combV a u).2.1 = m2 at *
  generalize mK (combV a u).1.2.2 (combV b v).1.2.2 (combV a u).2.1 = m3 at *
  obtain ⟨⟨-, ul, ub, -, -⟩, ue⟩ := comb_vals c1
  obtain ⟨⟨-, vl, vb, -, -⟩, ve⟩ := comb_vals c2
  rw [ue] at k1 k2 k3 t1 t2 ct
  rw [ve] at k1 k2 k3 ct
  simp only at k1 k2 k3 t1 t2 ct
  have la := placed_len ha
  have lb := placed_len hb
  obtain ⟨⟨j0, hj0, e0⟩, mj⟩ := bst_gt (fun i => dHi n (b.getD i default)) b.length (by omega)
  generalize hC : (bst gtB (fun i => dHi n (b.getD i default)) b.length).1 = C at *
  have dx := (cW_dot (n := n) (c := normV n * (ra + rb) + C + 1) (m := u.length) (by omega) (badW_iff.1 ub) (fun j hj => placed_get ha (by omega)) u.length (Nat.le_refl _)).1 (fun i hi => by
    have q := s2 i (by omega) j0 hj0
    have p := (dot_pt (n := n) (placed_get ha (show i < a.length by omega))).1
    rw [← e0] at q
    omega)
  have dy := (cW_dot (n := n) (c := C) (m := v.length) (by omega) (badW_iff.1 vb) (fun j hj => placed_get hb (by omega)) v.length (Nat.le_refl _)).2 (fun i hi => by
    have q := mj i (by omega)
    have p := (dot_pt (n := n) (placed_get hb (show i < b.length by omega))).2
    omega)
  have f1 := abs_mul_le (n := n.1) k1.2
  have f2 := abs_mul_le (n := n.2.1) k2.2
  have f3 := abs_mul_le (n := n.2.2) k3.2
  have cs := cauchy (p := max n.1 (-n.1)) (q := max n.2.1 (-n.2.1)) (s := max n.2.2 (-n.2.2)) (a := m1) (b := m2) (c := m3)
  rw [abs_sq, abs_sq, abs_sq] at cs
  have ns := norm_sq hn
  have nb := normV_bd n
  have hm : m1 * m1 + m2 * m2 + m3 * m3 ≤ (ra + rb) * (ra + rb) := hq
  have st : (n.1 * n.1 + n.2.1 * n.2.1 + n.2.2 * n.2.2) * (m1 * m1 + m2 * m2 + m3 * m3) ≤ (normV n * normV n) * ((ra + rb) * (ra + rb)) :=
    Int.mul_le_mul ns hm (by have := sq_nn m1; have := sq_nn m2; have := sq_nn m3; omega) (Int.mul_nonneg nb.1 nb.1)
  have ee : (normV n * normV n) * ((ra + rb) * (ra + rb)) = (normV n * (ra + rb)) * (normV n * (ra + rb)) := by grind
  rw [ee] at st
  have A := of_sq (Int.le_trans cs st) (Int.mul_nonneg nb.1 (by omega))
  generalize max n.1 (-n.1) * m1 = y1 at *
  generalize max n.2.1 (-n.2.1) * m2 = y2 at *
  generalize max n.2.2 (-n.2.2) * m3 = y3 at *
  generalize normV n * (ra + rb) = R at *
  rw [ct] at dx f1 f2 f3 t1
  generalize tW v v.length = t at *
  simp only [cV, Int.mul_sub] at f1 f2 f3
  have hA := Int.mul_le_mul_of_nonneg_left A (show 0 ≤ t by omega)
  simp only [Int.mul_add] at dx hA
  omega
theorem box_get {r : S_Robot} {b : List S_Interval} (h : boxV r b = true) {i : Nat} (hi : i < r.Joints.length) : vV (b.getD i default) = true := by
  simp only [boxV, Bool.and_eq_true, decide_eq_true_eq] at h
  have := noneB_iff.1 h.2 i (by omega)
  simpa [notV] using this
theorem SBx.of {r : S_Robot} {b b' : List S_Interval} (h : boxV r b = true) (k : boxV r b' = true) (hh : ∀ i, i < r.Joints.length → (b'.getD i default).Lo ≤ (b.getD i default).Lo ∧ (b.getD i default).Hi ≤ (b'.getD i default).Hi) : SBx r.Joints.length b b' :=
  fun i hi => ⟨box_get h hi, box_get k hi, (hh i hi).1, (hh i hi).2⟩
theorem SL.pair {s : S_Scene} (hs : sceneV s = 0) {b b' : List S_Interval} (h : SBx s.Robot.Joints.length b b') {k : Nat} (hk : k < (pairsV s).length) : SL (pointsF s b (pA s k)) (pointsF s b' (pA s k)) ∧ SL (pointsF s b (pB s k)) (pointsF s b' (pB s k)) := by
  have := pairs_in hs hk
  exact ⟨SL.points hs h (by unfold pA; omega), SL.points hs h (by unfold pB; omega)⟩
theorem free_iff {s : S_Scene} {b : List S_Interval} {ns : List V3} : freeV s b ns = true ↔ sceneV s = 0 ∧ boxV s.Robot b = true ∧ ns.length = (pairsV s).length ∧ ∀ k, k < (pairsV s).length → sepV (ns.getD k default) (pointsF s b (pA s k)) (radOf s (pA s k)) (pointsF s b (pB s k)) (radOf s (pB s k)) = true := by
  simp only [freeV, Bool.and_eq_true, decide_eq_true_eq, noneB_iff, sepK, Bool.not_eq_false']
theorem free_mono {s : S_Scene} {b b' : List S_Interval} {ns : List V3} (hb : boxV s.Robot b = true) (h : SBx s.Robot.Joints.length b b') (hf : freeV s b' ns = true) : freeV s b ns = true := by
  rw [free_iff] at hf ⊢
  obtain ⟨h1, -, h3, h4⟩ := hf
  exact ⟨h1, hb, h3, fun k hk => sep_mono (SL.pair h1 h hk).1 (SL.pair h1 h hk).2 (h4 k hk)⟩
theorem floor_cross {a b E F : Int} (hE : 0 < E) (hF : 0 < F) (h : a * E ≤ b * F) : a / F ≤ b / E := by
  refine Int.le_ediv_of_mul_le hE ?_
  have h1 := Int.ediv_mul_le a (show F ≠ 0 by omega)
  have h2 := Int.mul_le_mul_of_nonneg_right h1 (Int.le_of_lt hE)
  refine Int.le_of_mul_le_mul_right (a := F) ?_ hF
  have e : a / F * E * F = a / F * F * E := by rw [Int.mul_assoc, Int.mul_comm E F, ← Int.mul_assoc]
  rw [e]; omega
theorem ceil_cross {a b E F : Int} (hE : 0 < E) (hF : 0 < F) (h : b * F ≤ a * E) : b / E ≤ cdiv a F := by
  have h1 := floor_cross (a := -a) (b := -b) hE hF (by rw [Int.neg_mul, Int.neg_mul]; omega)
  have h2 := floor_le_ceil (Int.le_refl b) hE
  unfold cdiv at h2 ⊢
  omega
def atI (p q : List Int) (e : Nat) (j : Int) (k : Nat) : Int := p.getD k default + (j * (q.getD k default - p.getD k default)) / 2 ^ e
theorem at_in {p q : List Int} {d e : Nat} {i j : Int} {k : Nat} (h1 : i * 2 ^ e ≤ j * 2 ^ d) (h2 : j * 2 ^ d ≤ (i + 1) * 2 ^ e) : (pieceI p q d i k).Lo ≤ atI p q e j k ∧ atI p q e j k ≤ (pieceI p q d i k).Hi := by
  unfold pieceI atI
  generalize q.getD k default - p.getD k default = D
  have hE := two_pow_pos e
  have hF := two_pow_pos d
  have l := lin_bd (y := D) h1 h2
  simp only
  have a1 : i * 2 ^ e * D = i * D * 2 ^ e := by rw [Int.mul_assoc, Int.mul_comm _ D, ← Int.mul_assoc]
  have a2 : (i + 1) * 2 ^ e * D = (i + 1) * D * 2 ^ e := by rw [Int.mul_assoc, Int.mul_comm _ D, ← Int.mul_assoc]
  have a3 : j * 2 ^ d * D = j * D * 2 ^ d := by rw [Int.mul_assoc, Int.mul_comm _ D, ← Int.mul_assoc]
  rw [a1, a2, a3] at l
  have m1 : min (i * D) ((i + 1) * D) * 2 ^ e ≤ j * D * 2 ^ d := by
    rcases Int.le_total (i * D) ((i + 1) * D) with c | c
    · rw [Int.min_eq_left c]
      have := Int.mul_le_mul_of_nonneg_right c (Int.le_of_lt hE); omega
    · rw [Int.min_eq_right c]
      have := Int.mul_le_mul_of_nonneg_right c (Int.le_of_lt hE); omega
  have m2 : j * D * 2 ^ d ≤ max (i * D) ((i + 1) * D) * 2 ^ e := by
    rcases Int.le_total (i * D) ((i + 1) * D) with c | c
    · rw [Int.max_eq_right c]
      have := Int.mul_le_mul_of_nonneg_right c (Int.le_of_lt hE); omega
    · rw [Int.max_eq_left c]
      have := Int.mul_le_mul_of_nonneg_right c (Int.le_of_lt hE); omega
  have := floor_cross hE hF m1
  have := ceil_cross hE hF m2
  omega
theorem at_bd {p q : List Int} {e : Nat} {j : Int} {k : Nat} (h0 : 0 ≤ j) (h1 : j ≤ 2 ^ e) : min (p.getD k default) (q.getD k default) ≤ atI p q e j k ∧ atI p q e j k ≤ max (p.getD k default) (q.getD k default) := by
  unfold atI
  generalize p.getD k default = P
  generalize q.getD k default = Q
  obtain ⟨D, hD⟩ : ∃ D, Q - P = D := ⟨_, rfl⟩
  rw [hD]
  have hE := two_pow_pos e
  have l := lin_bd (y := D) h0 h1
  rw [Int.zero_mul] at l
  have e1 : 2 ^ e * D / 2 ^ e = D := Int.mul_ediv_cancel_left D (show (2 : Int) ^ e ≠ 0 by omega)
  rcases Int.le_total 0 D with c | c
  · have p1 : 0 ≤ 2 ^ e * D := Int.mul_nonneg (Int.le_of_lt hE) c
    have a := div_mono (a := 0) (b := j * D) (c := 2 ^ e) (by omega) hE
    have b := div_mono (a := j * D) (b := 2 ^ e * D) (c := 2 ^ e) (by omega) hE
    rw [e1] at b
    rw [Int.zero_ediv] at a
    omega
  · have p1 : 2 ^ e * D ≤ 0 := Int.mul_nonpos_of_nonneg_of_nonpos (Int.le_of_lt hE) c
    have a := div_mono (a := j * D) (b := 0) (c := 2 ^ e) (by omega) hE
    have b := div_mono (a := 2 ^ e * D) (b := j * D) (c := 2 ^ e) (by omega) hE
    rw [e1] at b
    rw [Int.zero_ediv] at a
    omega
theorem ovOk_cond (u v : List Int) (a : List IV3) (ra : Int) (b : List IV3) (rb : Int) : (bif !(combV a u).2.2 then true else bif !(combV b v).2.2 then true else bif (combV a u).2.1 != (combV b v).2.1 then true else bif !radV ra then true else !radV rb) = !ovOk u v a ra b rb := by
  unfold ovOk
  by_cases h : (combV a u).2.1 = (combV b v).2.1
  · rw [show ((combV a u).2.1 != (combV b v).2.1) = false by simp [h], decide_eq_true h]
    cases (combV a u).2.2 <;> cases (combV b v).2.2 <;> cases radV ra <;> cases radV rb <;> rfl
  · rw [show ((combV a u).2.1 != (combV b v).2.1) = true by simp [h], decide_eq_false h]
    cases (combV a u).2.2 <;> cases (combV b v).2.2 <;> cases radV ra <;> cases radV rb <;> rfl
theorem excess_e (u v : List Int) (a : List IV3) (ra : Int) (b : List IV3) (rb : Int) : ∃ y : Int × Bool, (ref14_Excess_C u v a ra b rb).o = some y ∧ ((y.2 = true ∧ y.1 ≥ 0) ↔ ovP u v a ra b rb) := by
  show ∃ y, (ref14_Excess_T u v a ra b rb).run NN = some y ∧ _
  simp only [ref14_Excess_T, T.run, T.ix, ref10_Combine_e, ref14_radius_e, Option.bind_some, bif_out, andC_out, ref14_size_e, ovOk_cond]
  cases hk : ovOk u v a ra b rb with
  | false => exact ⟨_, rfl, (fun h => by cases h.1), (fun h => by have := h.1; rw [hk] at this; cases this)⟩
  | true =>
    have hk' := hk
    simp only [ovOk, Bool.and_eq_true, decide_eq_true_eq, radV] at hk'
    obtain ⟨c1, c2, ct, hra, hrb⟩ := hk'
    obtain ⟨t1, t2, s1, s2, s3⟩ := combV_ok c1
    obtain ⟨_, _, r1, r2, r3⟩ := combV_ok c2
    have hc : ∀ x y : S_Interval, (ref1_Ceil_C (max (max (IntKind.i64.wrap (x.Lo - y.Hi)) (IntKind.i64.wrap (0 - IntKind.i64.wrap (x.Lo - y.Hi)))) (max (IntKind.i64.wrap (x.Hi - y.Lo)) (IntKind.i64.wrap (0 - IntKind.i64.wrap (x.Hi - y.Lo))))) (combV a u).2.1).o = some (mK x y (combV a u).2.1) :=
      fun x y => ref1_Ceil_e (((InR.wr _).max (InR.wr _)).max ((InR.wr _).max (InR.wr _))) (by omega)
    have nn : ∀ x y : S_Interval, sm x.Lo ∧ sm x.Hi → sm y.Lo ∧ sm y.Hi → 0 ≤ mK x y (combV a u).2.1 := fun x y hx hy => by
      unfold mK
      have := (cdiv_bd (a := mxV (x.Lo - y.Hi) (x.Hi - y.Lo)) (b := (combV a u).2.1) (by omega)).1
      have := (cdiv_bd (a := mxV (x.Lo - y.Hi) (x.Hi - y.Lo)) (b := (combV a u).2.1) (by omega)).2
      unfold sm at hx hy
      have e := mx_eq (p := x.Lo - y.Hi) (q := x.Hi - y.Lo) (by omega) (by omega)
      omega
    have n1 := nn _ _ s1 r1
    have n2 := nn _ _ s2 r2
    have n3 := nn _ _ s3 r3
    simp only [hc, Option.bind_some, Bool.not_true, cond_false]
    unfold ovP
    rw [hk]
    generalize mK (combV a u).1.1 (combV b v).1.1 (combV a u).2.1 = m1 at *
    generalize mK (combV a u).1.2.1 (combV b v).1.2.1 (combV a u).2.1 = m2 at *
    generalize mK (combV a u).1.2.2 (combV b v).1.2.2 (combV a u).2.1 = m3 at *
    rw [w64 (x := ra + rb) (by omega) (by omega)]
    obtain ⟨R, hR⟩ : ∃ R, R = ra + rb := ⟨_, rfl⟩
    rw [← hR]
    have sqb : ∀ x : Int, 0 ≤ x → x ≤ 2097152 → 0 ≤ x * x ∧ x * x ≤ 4398046511104 := fun x h0 h1 => ⟨sq_nn x, by have := sq_mono h0 h1; omega⟩
    have bR := sqb R (by omega) (by omega)
    by_cases g1 : m1 > R
    · rw [bif_dpos g1]; exact ⟨_, rfl, fun h => by have := h.2; simp at this, fun h => by omega⟩
    · rw [bif_dneg g1]
      by_cases g2 : m2 > R
      · rw [bif_dpos g2]; exact ⟨_, rfl, fun h => by have := h.2; simp at this, fun h => by omega⟩
      · rw [bif_dneg g2]
        by_cases g3 : m3 > R
        · rw [bif_dpos g3]; exact ⟨_, rfl, fun h => by have := h.2; simp at this, fun h => by omega⟩
        · rw [bif_dneg g3]
          have b1 := sqb m1 (by omega) (by omega)
          have b2 := sqb m2 (by omega) (by omega)
          have b3 := sqb m3 (by omega) (by omega)
          rw [w64 (x := R * R) (by omega) (by omega), w64 (x := m1 * m1) (by omega) (by omega), w64 (x := m2 * m2) (by omega) (by omega), w64 (x := m3 * m3) (by omega) (by omega), w64 (x := R * R - m1 * m1) (by omega) (by omega), w64 (x := R * R - m1 * m1 - m2 * m2) (by omega) (by omega), w64 (x := R * R - m1 * m1 - m2 * m2 - m3 * m3) (by omega) (by omega)]
          exact ⟨_, rfl, fun h => by have := h.2; simp only at this; exact ⟨rfl, by omega, by omega⟩, fun h => ⟨rfl, by have := h.2.2; simp only; omega⟩⟩
theorem ov_iff {u v : List Int} {a : List IV3} {ra : Int} {b : List IV3} {rb : Int} : ovV u v a ra b rb = true ↔ ovP u v a ra b rb := by
  obtain ⟨y, hy, h⟩ := excess_e u v a ra b rb
  rw [← h]
  have e0 : (ref14_Overlaps_C u v a ra b rb).o = (ref14_Overlaps_T u v a ra b rb).run NN := rfl
  unfold ovV
  rw [e0]
  simp only [ref14_Overlaps_T, T.run]
  rw [hy, Option.bind_some]
  cases y.2 <;> simp
theorem coll_iff {s : S_Scene} {b : List S_Interval} {w : S_Witness} : collV s b w = true ↔ ((sceneV s = 0 ∧ boxV s.Robot b = true) ∧ 0 ≤ w.Pair ∧ w.Pair < ((pairsV s).length : Int)) ∧
    ovP w.Left w.Right (pointsF s b (pA s w.Pair.toNat)) (radOf s (pA s w.Pair.toNat)) (pointsF s b (pB s w.Pair.toNat)) (radOf s (pB s w.Pair.toNat)) := by
  unfold collV
  split
  · rename_i h; rw [ov_iff]; exact ⟨fun h' => ⟨h, h'⟩, fun h' => h'.2⟩
  · rename_i h; exact ⟨(fun h' => by cases h'), fun h' => absurd h'.1 h⟩
theorem coll_mono {s : S_Scene} {b b' : List S_Interval} {w : S_Witness} (hb : boxV s.Robot b = true) (h : SBx s.Robot.Joints.length b b') (hc : collV s b' w = true) : collV s b w = true := by
  rw [coll_iff] at hc ⊢
  obtain ⟨⟨⟨h1, -⟩, h2⟩, h3⟩ := hc
  have l := SL.pair h1 h (k := w.Pair.toNat) (by omega)
  exact ⟨⟨⟨h1, hb⟩, h2⟩, ov_mono l.1 l.2 h3⟩
theorem free_no_coll {s : S_Scene} {b : List S_Interval} {ns : List V3} {w : S_Witness} (hf : freeV s b ns = true) : collV s b w = false := by
  cases hc : collV s b w with
  | false => rfl
  | true =>
    rw [coll_iff] at hc
    rw [free_iff] at hf
    exact absurd hc.2 (sep_no_ov (hf.2.2.2 w.Pair.toNat (by omega)))
end Go.Abs
