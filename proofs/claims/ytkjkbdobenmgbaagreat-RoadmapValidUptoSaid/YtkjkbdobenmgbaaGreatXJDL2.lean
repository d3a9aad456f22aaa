/-
  DL2 (a part of a claim: our own text).
-/
import Derived.Test.YtkjkbdobenmgbaaGreatXJDL1
import Derived.Test.YtkjkbdobenmgbaaGreatXJPLib
import Derived.Test.YtkjkbdobenmgbaaGreatXJD3
namespace Go.Abs
theorem loop_mf {σ τ R : Type} {f : σ → Option (Step3 σ τ R)} {k : τ → Option R} {P : R → Prop} {x : σ} (I : Nat → σ → Prop) (Q : τ → Prop) (m : Nat) (h0 : I m x) (hN : m < 4294967296)
    (hr : ∀ m x, I m x → (∃ x' m', f x = some (.next x') ∧ m' < m ∧ I m' x') ∨ (∃ y, f x = some (.out y) ∧ Q y) ∨ ∃ r, f x = some (.fin r) ∧ P r) (hk : ∀ y, Q y → ∃ r, k y = some r ∧ P r) : ∃ r, andK (iter f NN x) k = some r ∧ P r := by
  have go : ∀ (N m : Nat) (x : σ), I m x → m < N → (∃ y, iter f N x = some (.inl y) ∧ Q y) ∨ ∃ r, iter f N x = some (.inr r) ∧ P r := by
    intro N
    induction N with
    | zero => intro m x _ h; omega
    | succ N ih =>
      intro m x hi h
      rcases hr m x hi with ⟨x', m', h1, h2, h3⟩ | ⟨y, h1, h2⟩ | ⟨r, h1, h2⟩
      · simp only [iter, h1]; exact ih m' x' h3 (by omega)
      · exact .inl ⟨y, by simp [iter, h1], h2⟩
      · exact .inr ⟨r, by simp [iter, h1], h2⟩
  rcases go NN m x h0 hN with ⟨y, e1, e2⟩ | ⟨r, e1, e2⟩
  · rw [andK_inl e1]; exact hk y e2
  · rw [andK_inr e1]; exact ⟨r, rfl, e2⟩
theorem loop_cnt {σ τ R β : Type} {f : σ → Option (Step3 σ τ R)} {k : τ → Option R} {g : β → R} {P : β → Prop} {x : σ} (n : Nat) (hn : n < 4294967296) (I : Nat → σ → Prop) (Q : τ → Prop) (h0 : I 0 x)
    (hs : ∀ j y, j < n → I j y → ∃ y', f y = some (.next y') ∧ I (j + 1) y') (he : ∀ y, I n y → ∃ z, f y = some (.out z) ∧ Q z) (hk : ∀ z, Q z → ∃ b, k z = some (g b) ∧ P b) : ∃ b, andK (iter f NN x) k = some (g b) ∧ P b := by
  have key : ∀ (m j N : Nat) (y : σ), j + m = n → m < N → I j y → ∃ z, iter f N y = some (.inl z) ∧ Q z := by
    intro m
    induction m with
    | zero =>
      intro j N y hj hN hI
      obtain ⟨M, rfl⟩ : ∃ M, N = M + 1 := ⟨N - 1, by omega⟩
      obtain rfl : j = n := by omega
      obtain ⟨z, h1, h2⟩ := he y hI
      exact ⟨z, by simp [iter, h1], h2⟩
    | succ m ih =>
      intro j N y hj hN hI
      obtain ⟨M, rfl⟩ : ∃ M, N = M + 1 := ⟨N - 1, by omega⟩
      obtain ⟨y', h1, h2⟩ := hs j y (by omega) hI
      simp only [iter, h1]
      exact ih (j + 1) M y' (by omega) (by omega) h2
  obtain ⟨z, h1, h2⟩ := key n 0 NN x (by omega) hn h0
  obtain ⟨b, h3, h4⟩ := hk z h2
  exact ⟨b, by rw [h1]; exact h3, h4⟩
theorem make_Round_e {x k : Int} (hk : 0 < k) (hk2 : k ≤ 4611686018427387904) : (make_Round_C x k).o = some (x % k) := by
  show (make_Round_T x k).run NN = _
  have h2 := Int.tmod_lt_of_pos x hk
  have h3 := Int.lt_tmod_of_pos x hk
  have h1 := Int.mul_tdiv_add_tmod x k
  have e := Int.emod_add_mul_ediv x k
  have e2 := Int.emod_nonneg x (show k ≠ 0 by omega)
  have e3 := Int.emod_lt_of_pos x hk
  simp only [make_Round_T, T.run]
  rw [grd_p (by omega)]
  by_cases h : x.tmod k < 0
  · rw [bif_dpos h, andC_out, w64 (by omega) (by omega)]
    congr 1
    have : x % k = x.tmod k + k := by
      have := div_unique (a := x) (b := k) (q := x.tdiv k - 1) (r := x.tmod k + k) (by omega) (by omega) (by rw [Int.mul_sub]; omega)
      rw [this, Int.mul_sub] at e; omega
    omega
  · rw [bif_dneg h, andC_out]
    congr 1
    have := div_unique (a := x) (b := k) (q := x.tdiv k) (r := x.tmod k) (by omega) (by omega) (by omega)
    rw [this] at e; omega
section
variable {l : List Int} (hl : l.length < 4294967296) {n : Int} (h0 : 0 ≤ n) (h1 : n ≤ (l.length : Int))
include hl h0 h1
theorem Source_Next_x {k : Int} (hk : 0 < k) (hk2 : k ≤ 4611686018427387904) : ∃ r n', (Source_Next_C l n k).o = some (r, l, n') ∧ 0 ≤ r ∧ r < k ∧ 0 ≤ n' ∧ n' ≤ (l.length : Int) := by
  have e0 : (Source_Next_C l n k).o = (Source_Next_T l n k).run NN := rfl
  rw [e0]
  simp only [Source_Next_T, T.run]
  by_cases h : n ≥ (l.length : Int)
  · rw [bif_dpos h]; exact ⟨_, _, rfl, by omega, by omega, h0, h1⟩
  · rw [bif_dneg h, w64 (x := n + 1) (by omega) (by omega), w64 (by omega) (by omega), grd_p ⟨by omega, by omega⟩, make_Round_e hk hk2, Option.bind_some]
    exact ⟨_, _, rfl, Int.emod_nonneg _ (by omega), Int.emod_lt_of_pos _ hk, by omega, by omega⟩
theorem Source_Signed_x {k : Int} (hk : 0 ≤ k) (hk2 : k ≤ 1000000) : ∃ r n', (Source_Signed_C l n k).o = some (r, l, n') ∧ -k ≤ r ∧ r ≤ k ∧ 0 ≤ n' ∧ n' ≤ (l.length : Int) := by
  have e0 : (Source_Signed_C l n k).o = (Source_Signed_T l n k).run NN := rfl
  rw [e0]
  simp only [Source_Signed_T, T.run]
  rw [w64 (x := 2 * k) (by omega) (by omega), w64 (x := 2 * k + 1) (by omega) (by omega)]
  obtain ⟨r, n', e1, e2, e3, e4, e5⟩ := Source_Next_x hl h0 h1 (k := 2 * k + 1) (by omega) (by omega)
  rw [e1, Option.bind_some, w64 (by omega) (by omega)]
  exact ⟨_, _, rfl, by omega, by omega, e4, e5⟩
def JB (j : S_Joint) : Prop := -1048576 ≤ j.Lo ∧ j.Lo ≤ j.Hi ∧ j.Hi ≤ 1048576
theorem make_joint_x {i : Int} (i0 : 0 ≤ i) (i1 : i ≤ 2) : ∃ j n', (make_joint_C l n i).o = some (j, l, n') ∧ JB j ∧ 0 ≤ n' ∧ n' ≤ (l.length : Int) := by
  have e0 : (make_joint_C l n i).o = (make_joint_T l n i).run NN := rfl
  rw [e0]
  simp only [make_joint_T, T.run]
  have el : ∃ b, (make_letter_C i).o = some b := by
    have e1 : (make_letter_C i).o = (make_letter_T i).run NN := rfl
    rw [e1]
    simp only [make_letter_T, T.run]
    rw [w64 (x := i + 1) (by omega) (by omega), grd_p ⟨by omega, by omega, by rw [show ((⟨#[97, 98, 99, 100, 101, 102, 103, 104, 105, 106]⟩ : ByteArray).size) = 10 from rfl]; omega⟩]
    exact ⟨_, rfl⟩
  obtain ⟨nm, el⟩ := el
  obtain ⟨r1, n1, e1, a1, b1, c1, d1⟩ := Source_Next_x hl h0 h1 (k := 4) (by decide) (by decide)
  obtain ⟨r2, n2, e2, a2, b2, c2, d2⟩ := Source_Next_x hl c1 d1 (k := 3) (by decide) (by decide)
  obtain ⟨r3, n3, e3, a3, b3, c3, d3⟩ := Source_Next_x hl c2 d2 (k := 8) (by decide) (by decide)
  obtain ⟨r4, n4, e4, a4, b4, c4, d4⟩ := Source_Next_x hl c3 d3 (k := 4) (by decide) (by decide)
  rw [el, Option.bind_some, e1, Option.bind_some, e2, Option.bind_some, e3, Option.bind_some, grd_p ⟨by simp only; omega, by simp only; omega⟩, e4, Option.bind_some]
  generalize hK : ([3, 3, 1, 2, 4, 5, 3, 0] : List Int).getD r3.toNat 0 = K
  have rest : ∀ (m pr : Int), 0 ≤ m → m ≤ (l.length : Int) → ∃ j n', (andC (bif decide (i > 0) then (Source_Signed_C l m 2).o.bind fun y21 => (Source_Signed_C y21.2.1 y21.2.2 1).o.bind fun y22 => some (.out (y22.2.1, y22.2.2, 131072, IntKind.i64.wrap (y21.1 * 32768), IntKind.i64.wrap (y22.1 * 32768))) else some (.out (l, m, 0, 0, 0)) : Option (Step3 Unit (List Int × Int × Int × Int × Int) (S_Joint × List Int × Int))) fun y20 =>
      andC (bif K == 0 then some (.out (y20.1, y20.2.1, 0, 0)) else andC (bif K == 4 then some (.out (K == 4)) else some (.out (K == 5)) : Option (Step3 Unit Bool (Step3 Unit (List Int × Int × Int × Int) (S_Joint × List Int × Int)))) fun y36 =>
        bif y36 then (Source_Next_C y20.1 y20.2.1 3).o.bind fun y37 => (Source_Next_C y37.2.1 y37.2.2 4).o.bind fun y38 => some (.out (y38.2.1, y38.2.2, IntKind.i64.wrap (IntKind.i64.wrap (0 - y37.1) * 65536), IntKind.i64.wrap (y38.1 * 32768)))
        else (Source_Next_C y20.1 y20.2.1 5).o.bind fun y39 => (Source_Next_C y39.2.1 y39.2.2 4).o.bind fun y40 => (Source_Next_C y40.2.1 y40.2.2 3).o.bind fun y41 =>
          some (.out (y41.2.1, y41.2.2, IntKind.i64.wrap ((IntKind.i64.wrap (IntKind.i64.wrap (0 - y39.1) * 65536)).tdiv 8), IntKind.i64.wrap (IntKind.i64.wrap ((IntKind.i64.wrap (IntKind.i64.wrap (1 + y40.1) * 65536)).tdiv 8) + y41.1))) : Option (Step3 Unit (List Int × Int × Int × Int) (S_Joint × List Int × Int))) fun y35 =>
      some ((⟨nm, K, pr, (y20.2.2.1, y20.2.2.2.1, y20.2.2.2.2), y35.2.2.1, y35.2.2.2, IntKind.i64.wrap (1 + r1), 65536, IntKind.i64.wrap (65536 + r2), 327680⟩ : S_Joint), y35.1, y35.2.1)) = some (j, l, n') ∧ JB j ∧ 0 ≤ n' ∧ n' ≤ (l.length : Int) := by
    intro m pr m0 m1
    have lim : ∀ (m : Int) (o1 o2 o3 : Int), 0 ≤ m → m ≤ (l.length : Int) → ∃ j n', (andC (bif K == 0 then some (.out (l, m, 0, 0)) else andC (bif K == 4 then some (.out (K == 4)) else some (.out (K == 5)) : Option (Step3 Unit Bool (Step3 Unit (List Int × Int × Int × Int) (S_Joint × List Int × Int)))) fun y36 =>
        bif y36 then (Source_Next_C l m 3).o.bind fun y37 => (Source_Next_C y37.2.1 y37.2.2 4).o.bind fun y38 => some (.out (y38.2.1, y38.2.2, IntKind.i64.wrap (IntKind.i64.wrap (0 - y37.1) * 65536), IntKind.i64.wrap (y38.1 * 32768)))
        else (Source_Next_C l m 5).o.bind fun y39 => (Source_Next_C y39.2.1 y39.2.2 4).o.bind fun y40 => (Source_Next_C y40.2.1 y40.2.2 3).o.bind fun y41 =>
          some (.out (y41.2.1, y41.2.2, IntKind.i64.wrap ((IntKind.i64.wrap (IntKind.i64.wrap (0 - y39.1) * 65536)).tdiv 8), IntKind.i64.wrap (IntKind.i64.wrap ((IntKind.i64.wrap (IntKind.i64.wrap (1 + y40.1) * 65536)).tdiv 8) + y41.1))) : Option (Step3 Unit (List Int × Int × Int × Int) (S_Joint × List Int × Int))) fun y35 =>
      some ((⟨nm, K, pr, (o1, o2, o3), y35.2.2.1, y35.2.2.2, IntKind.i64.wrap (1 + r1), 65536, IntKind.i64.wrap (65536 + r2), 327680⟩ : S_Joint), y35.1, y35.2.1)) = some (j, l, n') ∧ JB j ∧ 0 ≤ n' ∧ n' ≤ (l.length : Int) := by
      intro m o1 o2 o3 m0 m1
      cases K == 0
      · simp only [cond_false, bif_out, andC_out]
        cases (bif K == 4 then K == 4 else K == 5)
        · obtain ⟨s1, n1, e1, a1, b1, c1, d1⟩ := Source_Next_x hl m0 m1 (k := 5) (by decide) (by decide)
          obtain ⟨s2, n2, e2, a2, b2, c2, d2⟩ := Source_Next_x hl c1 d1 (k := 4) (by decide) (by decide)
          obtain ⟨s3, n3, e3, a3, b3, c3, d3⟩ := Source_Next_x hl c2 d2 (k := 3) (by decide) (by decide)
          simp only [cond_false]
          rw [e1, Option.bind_some, e2, Option.bind_some, e3, Option.bind_some, andC_out]
          refine ⟨_, _, rfl, ?_, c3, d3⟩
          simp only [JB]
          rw [w64 (x := 0 - s1) (by omega) (by omega), w64 (x := (0 - s1) * 65536) (by omega) (by omega), w64 (x := 1 + s2) (by omega) (by omega), w64 (x := (1 + s2) * 65536) (by omega) (by omega), tdiv_pos (a := (1 + s2) * 65536) (by omega),
            show (0 - s1) * 65536 = -(s1 * 65536) by omega, tdiv_negl, tdiv_pos (by omega), w64 (x := -(s1 * 65536 / 8)) (by omega) (by omega), w64 (x := (1 + s2) * 65536 / 8) (by omega) (by omega), w64 (x := (1 + s2) * 65536 / 8 + s3) (by omega) (by omega)]
          omega
        · obtain ⟨s1, n1, e1, a1, b1, c1, d1⟩ := Source_Next_x hl m0 m1 (k := 3) (by decide) (by decide)
          obtain ⟨s2, n2, e2, a2, b2, c2, d2⟩ := Source_Next_x hl c1 d1 (k := 4) (by decide) (by decide)
          simp only [cond_true]
          rw [e1, Option.bind_some, e2, Option.bind_some, andC_out]
          refine ⟨_, _, rfl, ?_, c2, d2⟩
          simp only [JB]
          rw [w64 (x := 0 - s1) (by omega) (by omega), w64 (x := (0 - s1) * 65536) (by omega) (by omega), w64 (x := s2 * 32768) (by omega) (by omega)]
          omega
      · exact ⟨_, _, rfl, by simp only [JB]; omega, m0, m1⟩
    cases decide (i > 0)
    · simp only [cond_false, andC_out]; exact lim m 0 0 0 m0 m1
    · obtain ⟨s1, n1, e1, a1, b1, c1, d1⟩ := Source_Signed_x hl m0 m1 (k := 2) (by decide) (by decide)
      obtain ⟨s2, n2, e2, a2, b2, c2, d2⟩ := Source_Signed_x hl c1 d1 (k := 1) (by decide) (by decide)
      simp only [cond_true]
      rw [e1, Option.bind_some, e2, Option.bind_some, andC_out]
      exact lim n2 _ _ _ c2 d2
  cases r4 == 1
  · exact rest n4 _ c4 d4
  · exact rest n4 _ c4 d4
theorem make_robot_y : ∃ b : S_Robot × List Int × Int, (make_robot_C l n).o = some b ∧ b.2.1 = l ∧ (1 ≤ b.1.Joints.length ∧ b.1.Joints.length ≤ 3 ∧ ∀ j ∈ b.1.Joints, JB j) ∧ 0 ≤ b.2.2 ∧ b.2.2 ≤ (l.length : Int) := by
  have e0 : (make_robot_C l n).o = (make_robot_T l n).run NN := rfl
  rw [e0]
  simp only [make_robot_T, T.run]
  obtain ⟨r1, n1, e1, a1, b1, c1, d1⟩ := Source_Next_x hl h0 h1 (k := 3) (by decide) (by decide)
  rw [e1, Option.bind_some]
  simp only
  rw [w64 (x := 1 + r1) (by omega) (by omega)]
  obtain ⟨R, hR⟩ : ∃ R : Nat, 1 + r1 = (R : Int) := ⟨(1 + r1).toNat, by omega⟩
  rw [hR]
  refine loop_cnt (g := fun b => b) R (by omega) (fun j (y : List Int × Int × List S_Joint × Int) => y.1 = l ∧ 0 ≤ y.2.1 ∧ y.2.1 ≤ (l.length : Int) ∧ y.2.2.1.length = j ∧ (∀ x ∈ y.2.2.1, JB x) ∧ y.2.2.2 = (j : Int))
    (fun (z : List Int × Int × List S_Joint) => z.1 = l ∧ 0 ≤ z.2.1 ∧ z.2.1 ≤ (l.length : Int) ∧ z.2.2.length = R ∧ ∀ x ∈ z.2.2, JB x) ⟨rfl, c1, d1, rfl, by simp [nl], rfl⟩ (fun j y hj hy => ?_) (fun y hy => ?_) (fun z hz => ?_)
  · obtain ⟨f1, f2, f3, f4, f5, f6⟩ := hy
    obtain ⟨jt, n', ej, hj1, hj2, hj3⟩ := make_joint_x hl f2 f3 (i := (j : Int)) (by omega) (by omega)
    rw [f6, f1, bif_dpos (by omega), ej, Option.bind_some]
    simp only
    rw [grd_p ⟨by simp; omega, by simp [maxLen_eq]; omega⟩, wn (by omega)]
    refine ⟨_, rfl, rfl, hj2, hj3, by simp; omega, fun x hx => ?_, rfl⟩
    rcases List.mem_append.1 hx with hx | hx
    · exact f5 x hx
    · rw [List.mem_singleton.1 hx]; exact hj1
  · obtain ⟨f1, f2, f3, f4, f5, f6⟩ := hy
    rw [f6, bif_dneg (by omega)]; exact ⟨_, rfl, f1, f2, f3, f4, f5⟩
  · obtain ⟨f1, f2, f3, f4, f5⟩ := hz
    obtain ⟨r2, n2, e2, a2, b2, c2, d2⟩ := Source_Next_x hl f2 f3 (k := 3) (by decide) (by decide)
    rw [f1, e2, Option.bind_some]
    simp only
    obtain ⟨M, hM⟩ : ∃ M : Nat, r2 = (M : Int) := ⟨r2.toNat, by omega⟩
    rw [hM]
    refine loop_cnt (g := fun b => b) M (by omega) (fun j (y : List Int × Int × List S_Mass × Int) => y.1 = l ∧ 0 ≤ y.2.1 ∧ y.2.1 ≤ (l.length : Int) ∧ y.2.2.1.length = j ∧ y.2.2.2 = (M : Int) - (j : Int))
      (fun (w : List Int × Int × List S_Mass) => w.1 = l ∧ 0 ≤ w.2.1 ∧ w.2.1 ≤ (l.length : Int)) ⟨rfl, c2, d2, rfl, by simp⟩ (fun j y hj hy => ?_) (fun y hy => ?_) (fun w hw => ?_)
    · obtain ⟨g1, g2, g3, g4, g5⟩ := hy
      obtain ⟨s1, m1, q1, u1, v1, w1, x1⟩ := Source_Next_x hl g2 g3 (k := (R : Int)) (by omega) (by omega)
      obtain ⟨s2, m2, q2, u2, v2, w2, x2⟩ := Source_Next_x hl w1 x1 (k := 9000) (by decide) (by decide)
      obtain ⟨s3, m3, q3, u3, v3, w3, x3⟩ := Source_Signed_x hl w2 x2 (k := 3) (by decide) (by decide)
      obtain ⟨s4, m4, q4, u4, v4, w4, x4⟩ := Source_Signed_x hl w3 x3 (k := 2) (by decide) (by decide)
      rw [g5, g1, bif_dpos (by omega), q1, Option.bind_some, q2, Option.bind_some, q3, Option.bind_some, q4, Option.bind_some]
      simp only
      rw [grd_p ⟨by simp; omega, by simp [maxLen_eq]; omega⟩, w64 (x := (M : Int) - (j : Int) - 1) (by omega) (by omega)]
      exact ⟨_, rfl, rfl, w4, x4, by simp; omega, by simp only; omega⟩
    · obtain ⟨g1, g2, g3, g4, g5⟩ := hy
      rw [g5, bif_dneg (by omega)]; exact ⟨_, rfl, g1, g2, g3⟩
    · exact ⟨_, rfl, hw.1, ⟨by simp only; omega, by simp only; omega, f5⟩, hw.2.1, hw.2.2⟩
theorem make_robot_x : ∃ r n', (make_robot_C l n).o = some (r, l, n') ∧ (1 ≤ r.Joints.length ∧ r.Joints.length ≤ 3 ∧ ∀ j ∈ r.Joints, JB j) ∧ 0 ≤ n' ∧ n' ≤ (l.length : Int) := by
  obtain ⟨⟨r, l', n'⟩, g1, g2, g3, g4, g5⟩ := make_robot_y hl h0 h1
  simp only at g2; subst g2
  exact ⟨r, n', g1, g3, g4, g5⟩
end
theorem getD_set {α : Type} [Inhabited α] {l : List α} {i j : Nat} {v : α} (h : i < l.length) : (l.set i v).getD j default = if i = j then v else l.getD j default := by
  simp only [List.getD_eq_getElem?_getD, List.getElem?_set, h, if_true]
  split <;> rfl
open Go.Proofs
theorem getD_mem {α : Type} [Inhabited α] {l : List α} {i : Nat} (h : i < l.length) : l.getD i default ∈ l := by
  rw [List.getD_eq_getElem?_getD, List.getElem?_eq_getElem h, Option.getD_some]; exact List.getElem_mem h
theorem getD_ext {α : Type} [Inhabited α] {a b : List α} (hl : a.length = b.length) (h : ∀ i, i < a.length → a.getD i default = b.getD i default) : a = b := by
  refine List.ext_getElem hl (fun i h1 h2 => ?_)
  have := h i h1
  simpa only [List.getD_eq_getElem?_getD, List.getElem?_eq_getElem h1, List.getElem?_eq_getElem h2, Option.getD_some] using this
def endsV (m : S_Roadmap) (e : S_RoadmapEdge) : Bool := decide (0 ≤ e.U ∧ e.U < (m.Points.length : Int) ∧ 0 ≤ e.V ∧ e.V < (m.Points.length : Int))
theorem hasEnds_e (m : S_Roadmap) (e : S_RoadmapEdge) : (roadmap_hasEnds_C m e).o = some (endsV m e) := by
  show (roadmap_hasEnds_T m e).run NN = _
  simp only [roadmap_hasEnds_T, T.run, bif_some, bif_bf]
  unfold endsV
  congr 1
  rw [Bool.eq_iff_iff]
  simp only [Bool.and_eq_true, decide_eq_true_eq, ge_iff_le]
open Go.Proofs
theorem make_Claim_x (k : Int) : ∃ x, (make_Claim_C k).o = some x := by
  show ∃ x, (make_Claim_T k).run NN = some x
  simp only [make_Claim_T, T.run]
  cases (k == 1) with
  | true => exact ⟨_, rfl⟩
  | false =>
    cases (k == 2) with
    | true => exact ⟨_, rfl⟩
    | false => cases (k == 3) <;> exact ⟨_, rfl⟩
theorem awake25 : law25_awake_C.o = some true := by kernel_rfl
end Go.Abs
