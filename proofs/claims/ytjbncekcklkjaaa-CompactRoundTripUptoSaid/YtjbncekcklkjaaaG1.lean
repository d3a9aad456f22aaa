/-
  G1: what functions of the program compute, and their specifications (printed by a program of ours).
-/
import Derived.Test.YtjbncekcklkjaaaTBase
import Derived.Test.YtjbncekcklkjaaaChecked
namespace Go.Abs
open Go.Proofs
structure S_Piece where
  Depth : Int
  Index : Int
  Normals : (List (Int × Int × Int))
instance : Inhabited S_Piece := ⟨⟨default, default, default⟩⟩
structure S_Use where
  Depth : Int
  Index : Int
  Numbers : (List Int)
instance : Inhabited S_Use := ⟨⟨default, default, default⟩⟩
structure S_Packed where
  Table : (List (Int × Int × Int))
  Uses : (List S_Use)
instance : Inhabited S_Packed := ⟨⟨default, default⟩⟩
structure S_make_Source where
  list : (List Int)
  next : Int
instance : Inhabited S_make_Source := ⟨⟨default, default⟩⟩
def enc_arr_3_int64 (v : (Int × Int × Int)) : PVal := .agg [.int .i64 v.1, .int .i64 v.2.1, .int .i64 v.2.2]
def enc_Piece (v : S_Piece) : PVal := .agg [.int .i64 v.Depth, .int .i64 v.Index, encL 3 enc_arr_3_int64 v.Normals]
def enc_Use (v : S_Use) : PVal := .agg [.int .i64 v.Depth, .int .i64 v.Index, encL 1 encI_i64 v.Numbers]
def enc_Packed (v : S_Packed) : PVal := .agg [encL 3 enc_arr_3_int64 v.Table, encL 3 enc_Use v.Uses]
def enc_make_Source (v : S_make_Source) : PVal := .agg [encL 1 encI_i64 v.list, .int .i64 v.next]
def cells_arr_3_int64 (v : (Int × Int × Int)) : List PVal := [.int .i64 v.1, .int .i64 v.2.1, .int .i64 v.2.2]

theorem guard34 : GuardFn Try.prog 34 :=
  guardFn_of (fn := Try.f34) Try.func34 (by kernel_rfl) ⟨0, (gOps Try.f34).getD 0 default, (gOps Try.f34).getD 1 default, 1, 2, gX Try.f34, gC ((gOps Try.f34).getD 0 default), 20, 20, by kernel_rfl, by kernel_rfl, by kernel_rfl, by kernel_rfl, by kernel_rfl, by kernel_rfl, by kernel_rfl, by kernel_rfl, ⟨gMs (Try.prog.underlying 20), by kernel_rfl⟩, by decide, by decide, by kernel_rfl⟩

theorem guard35 : GuardFn Try.prog 35 :=
  guardFn_of (fn := Try.f35) Try.func35 (by kernel_rfl) ⟨0, (gOps Try.f35).getD 0 default, (gOps Try.f35).getD 1 default, 2, 3, gX Try.f35, gC ((gOps Try.f35).getD 0 default), 20, 20, by kernel_rfl, by kernel_rfl, by kernel_rfl, by kernel_rfl, by kernel_rfl, by kernel_rfl, by kernel_rfl, by kernel_rfl, ⟨gMs (Try.prog.underlying 20), by kernel_rfl⟩, by decide, by decide, by kernel_rfl⟩

theorem guard37 : GuardFn Try.prog 37 :=
  guardFn_of (fn := Try.f37) Try.func37 (by kernel_rfl) ⟨0, (gOps Try.f37).getD 0 default, (gOps Try.f37).getD 1 default, 1, 2, gX Try.f37, gC ((gOps Try.f37).getD 0 default), 20, 20, by kernel_rfl, by kernel_rfl, by kernel_rfl, by kernel_rfl, by kernel_rfl, by kernel_rfl, by kernel_rfl, by kernel_rfl, ⟨gMs (Try.prog.underlying 20), by kernel_rfl⟩, by decide, by decide, by kernel_rfl⟩

noncomputable def make_From_F (_N : Nat) (a0 : (List Int)) : Option ((List Int) × Int) :=
  some (a0, 0)

noncomputable def make_From_T (_N : Nat) (a0 : (List Int)) : T ((List Int) × Int) :=
  .ret (a0, 0)

theorem make_From_run (N : Nat) (a0 : (List Int)) : (make_From_T N a0).run N = make_From_F N a0 := by kernel_rfl

theorem make_From_vc (N : Nat) (a0 : (List Int)) : (vcFuncT Try.prog drawB Try.f17 (Try.f17.body.getD .skip) 0 0 (make_From_T N a0) [.pure (encL 1 encI_i64 a0)] [] (fun _ => .ptr 0 0) (fun r => [(0, .box [.pure (encL 1 encI_i64 r.1), .pure (.int .i64 r.2)])])) =
    ((aS (AVal.ptr 192 0) ∧ True) ∧ (rS (Res.box [AVal.pure (encL 1 encI_i64 a0), aI 0]) ∧ True) ∧ True) := by kernel_rfl


set_option maxHeartbeats 4000000 in
theorem make_From_spec (hd : DrawSound Try.prog drawB) {N : Nat} {a0 : (List Int)} {r : ((List Int) × Int)} (h : make_From_F N a0 = some r) : Spec Try.prog 17 0 [.pure (encL 1 encI_i64 a0)] [] (.ptr 0 0) ([(0, .box [.pure (encL 1 encI_i64 r.1), .pure (.int .i64 r.2)])]) := by
  refine spec_ofT (n0 := 0) (res := fun _ => .ptr 0 0) (m' := fun r => [(0, .box [.pure (encL 1 encI_i64 r.1), .pure (.int .i64 r.2)])]) (make_From_T N a0) ((make_From_run N a0).trans h) hd Try.func17 (by kernel_rfl) (by kernel_rfl) ?_
  rw [make_From_vc]
  repeat' (first | exact trivial | exact ASub.refl _ | exact RSub.refl _ | assumption | rfl | (apply And.intro) | (intro _) | exact nl_a | exact ASub.tt rfl | exact ASub.ff rfl | exact mapR_upE rfl | exact RSub.nilv rfl rfl | exact IsL.el | exact IsL.nl | exact IsL.lit (CSubs.of_eq rfl) rfl | refine IsL.lit ?_ rfl | exact IsL.rep (CSub.of_eq rfl) | refine IsL.a ?_ | refine IsL.r0 ?_ | refine IsL.r ?_ ?_ | refine IsL.app ?_ ?_ | refine IsL.set ?_ (CSub.of_eq rfl) | refine IsL.set ?_ ?_ | refine IsL.slice ?_ ?_ ?_ | refine IsL.take ?_ ?_ | exact CSubs.nil' | refine CSubs.cons' ?_ ?_ | exact CSub.refl _ | exact nl_c | refine CSub.agg ?_ | refine IsL.c ?_ | exact PSubs.nil' | refine PSubs.cons' ?_ ?_ | exact PSub.refl _ | exact nl_p | refine IsL.p ?_ | refine (PSub.agg ?_).a | refine PSub.agg ?_ | refine ASub.agg ?_ | refine RSub.box ?_ | refine tup_a ?_ | refine ASub.p ?_ | omega)

noncomputable def make_Round_F (_N : Nat) (a0 : Int) (a1 : Int) : Option Int :=
  grd (a1 ≠ 0) <|
  andC (
   bif (decide ((a0.tmod a1) < 0)) then
    some (.out (IntKind.i64.wrap ((a0.tmod a1) + a1)))
   else
    some (.out (a0.tmod a1)) : Option (Step3 Unit Int _)) fun y1 =>
  some y1

noncomputable def make_Round_T (_N : Nat) (a0 : Int) (a1 : Int) : T Int :=
  .grd (a1 ≠ 0) <|
  .cut 0 (fun (y1 : Int) => ⟨[(5, .pure (.int .i64 y1))], [], [], 0⟩)
   (.br (decide ((a0.tmod a1) < 0))
    (.ret (.out (IntKind.i64.wrap ((a0.tmod a1) + a1))))
    (.ret (.out (a0.tmod a1)))) fun y1 =>
  .ret y1

theorem make_Round_run (N : Nat) (a0 : Int) (a1 : Int) : (make_Round_T N a0 a1).run N = make_Round_F N a0 a1 := by kernel_rfl

theorem make_Round_vc (N : Nat) (a0 : Int) (a1 : Int) : (vcFuncT Try.prog drawB Try.f23 (Try.f23.body.getD .skip) 0 0 (make_Round_T N a0 a1) [.pure (.int .i64 a0), .pure (.int .i64 a1)] [] (fun r => .pure (.int .i64 r)) (fun _ => [])) =
    (a1 ≠ 0 → a1 ≠ 0 ∧ (∀ (_y : Int), true = true ∧ 0 ≤ 0) ∧ (decide (a0.tmod a1 < 0) = decide (a0.tmod a1 < 0) ∧ (decide (a0.tmod a1 < 0) = true → (aS (aI (IntKind.i64.wrap (a0.tmod a1 + a1))) ∧ True) ∧ True ∧ True) ∧ (decide (a0.tmod a1 < 0) = false → (aS (aI (a0.tmod a1)) ∧ True) ∧ True ∧ True)) ∧ ∀ (y : Int), (aS (aI y) ∧ True) ∧ True ∧ True) := by kernel_rfl


set_option maxHeartbeats 4000000 in
theorem make_Round_spec (hd : DrawSound Try.prog drawB) {N : Nat} {a0 : Int} {a1 : Int} {r : Int} (h : make_Round_F N a0 a1 = some r) : Spec Try.prog 23 0 [.pure (.int .i64 a0), .pure (.int .i64 a1)] [] (.pure (.int .i64 r)) ([]) := by
  refine spec_ofT (n0 := 0) (res := fun r => .pure (.int .i64 r)) (m' := fun _ => []) (make_Round_T N a0 a1) ((make_Round_run N a0 a1).trans h) hd Try.func23 (by kernel_rfl) (by kernel_rfl) ?_
  rw [make_Round_vc]
  repeat' (first | exact trivial | exact ASub.refl _ | exact RSub.refl _ | assumption | rfl | (apply And.intro) | (intro _) | exact nl_a | exact ASub.tt rfl | exact ASub.ff rfl | exact mapR_upE rfl | exact RSub.nilv rfl rfl | exact IsL.el | exact IsL.nl | exact IsL.lit (CSubs.of_eq rfl) rfl | refine IsL.lit ?_ rfl | exact IsL.rep (CSub.of_eq rfl) | refine IsL.a ?_ | refine IsL.r0 ?_ | refine IsL.r ?_ ?_ | refine IsL.app ?_ ?_ | refine IsL.set ?_ (CSub.of_eq rfl) | refine IsL.set ?_ ?_ | refine IsL.slice ?_ ?_ ?_ | refine IsL.take ?_ ?_ | exact CSubs.nil' | refine CSubs.cons' ?_ ?_ | exact CSub.refl _ | exact nl_c | refine CSub.agg ?_ | refine IsL.c ?_ | exact PSubs.nil' | refine PSubs.cons' ?_ ?_ | exact PSub.refl _ | exact nl_p | refine IsL.p ?_ | refine (PSub.agg ?_).a | refine PSub.agg ?_ | refine ASub.agg ?_ | refine RSub.box ?_ | refine tup_a ?_ | refine ASub.p ?_ | omega)

noncomputable def Source_Next_F (N : Nat) (a0 : (List Int)) (a1 : Int) (a2 : Int) : Option (Int × (List Int) × Int) :=
  bif (decide (a1 ≥ ((a0.length : Nat) : Int))) then
   some (0, a0, a1)
  else
   grd (0 ≤ (IntKind.i64.wrap ((IntKind.i64.wrap (a1 + 1)) - 1)) ∧ (IntKind.i64.wrap ((IntKind.i64.wrap (a1 + 1)) - 1)) < ((a0.length : Nat) : Int)) <|
   (make_Round_F N (a0.getD (((IntKind.i64.wrap ((IntKind.i64.wrap (a1 + 1)) - 1))).toNat) default) a2).bind fun y1 =>
   some (y1, a0, (IntKind.i64.wrap (a1 + 1)))

noncomputable def Source_Next_T (N : Nat) (a0 : (List Int)) (a1 : Int) (a2 : Int) : T (Int × (List Int) × Int) :=
  .br (decide (a1 ≥ ((a0.length : Nat) : Int)))
   (.ret (0, a0, a1))
   (.grd (0 ≤ (IntKind.i64.wrap ((IntKind.i64.wrap (a1 + 1)) - 1)) ∧ (IntKind.i64.wrap ((IntKind.i64.wrap (a1 + 1)) - 1)) < ((a0.length : Nat) : Int)) <|
   .call (make_Round_F N (a0.getD (((IntKind.i64.wrap ((IntKind.i64.wrap (a1 + 1)) - 1))).toNat) default) a2) (fun y1 => ⟨[], 0, [.pure (.int .i64 (a0.getD (((IntKind.i64.wrap ((IntKind.i64.wrap (a1 + 1)) - 1))).toNat) default)), .pure (.int .i64 a2)], [], .pure (.int .i64 y1), []⟩) fun y1 =>
   .ret (y1, a0, (IntKind.i64.wrap (a1 + 1))))

theorem Source_Next_run (N : Nat) (a0 : (List Int)) (a1 : Int) (a2 : Int) : (Source_Next_T N a0 a1 a2).run N = Source_Next_F N a0 a1 a2 := by kernel_rfl

theorem Source_Next_vc (N : Nat) (a0 : (List Int)) (a1 : Int) (a2 : Int) : (vcFuncT Try.prog drawB Try.f18 (Try.f18.body.getD .skip) 1 1 (Source_Next_T N a0 a1 a2) [.ptr 0 0, .pure (.int .i64 a2)] [(0, .box [.pure (encL 1 encI_i64 a0), .pure (.int .i64 a1)])] (fun r => .pure (.int .i64 r.1)) (fun r => [(0, .box [.pure (encL 1 encI_i64 r.2.1), .pure (.int .i64 r.2.2)])])) =
    (decide (a1 ≥ (↑a0.length : Int)) = decide (a1 ≥ (↑a0.length : Int)) ∧ (decide (a1 ≥ (↑a0.length : Int)) = true → (aS (aI 0) ∧ True) ∧ (rS (Res.box [AVal.pure (encL 1 encI_i64 a0), aI a1]) ∧ True) ∧ True) ∧ (decide (a1 ≥ (↑a0.length : Int)) = false → 0 ≤ IntKind.i64.wrap (IntKind.i64.wrap (a1 + 1) - 1) ∧ IntKind.i64.wrap (IntKind.i64.wrap (a1 + 1) - 1) < (↑a0.length : Int) → (0 ≤ IntKind.i64.wrap (IntKind.i64.wrap (a1 + 1) - 1) ∧ IntKind.i64.wrap (IntKind.i64.wrap (a1 + 1) - 1) < (↑a0.length : Int)) ∧ ∀ (y : Int), make_Round_F N (a0.getD (IntKind.i64.wrap (IntKind.i64.wrap (a1 + 1) - 1)).toNat default) a2 = some y → ((aS (aI (a0.getD (IntKind.i64.wrap (IntKind.i64.wrap (a1 + 1) - 1)).toNat default)) ∧ aS (aI a2) ∧ True) ∧ True ∧ Spec Try.prog 23 0 [aI (a0.getD (IntKind.i64.wrap (IntKind.i64.wrap (a1 + 1) - 1)).toNat default), aI a2] [] (aI y) []) ∧ (aS (aI y) ∧ True) ∧ (rS (Res.box [AVal.pure (encL 1 encI_i64 a0), aI (IntKind.i64.wrap (a1 + 1))]) ∧ True) ∧ True)) := by kernel_rfl


set_option maxHeartbeats 4000000 in
theorem Source_Next_spec (hd : DrawSound Try.prog drawB) {N : Nat} {a0 : (List Int)} {a1 : Int} {a2 : Int} {r : (Int × (List Int) × Int)} (h : Source_Next_F N a0 a1 a2 = some r) : Spec Try.prog 18 1 [.ptr 0 0, .pure (.int .i64 a2)] [(0, .box [.pure (encL 1 encI_i64 a0), .pure (.int .i64 a1)])] (.pure (.int .i64 r.1)) ([(0, .box [.pure (encL 1 encI_i64 r.2.1), .pure (.int .i64 r.2.2)])]) := by
  refine spec_ofT (n0 := 1) (res := fun r => .pure (.int .i64 r.1)) (m' := fun r => [(0, .box [.pure (encL 1 encI_i64 r.2.1), .pure (.int .i64 r.2.2)])]) (Source_Next_T N a0 a1 a2) ((Source_Next_run N a0 a1 a2).trans h) hd Try.func18 (by kernel_rfl) (by kernel_rfl) ?_
  rw [Source_Next_vc]
  repeat' (first | exact trivial | exact ASub.refl _ | exact RSub.refl _ | exact make_Round_spec hd (by assumption) | assumption | rfl | (apply And.intro) | (intro _) | exact nl_a | exact ASub.tt rfl | exact ASub.ff rfl | exact mapR_upE rfl | exact RSub.nilv rfl rfl | exact IsL.el | exact IsL.nl | exact IsL.lit (CSubs.of_eq rfl) rfl | refine IsL.lit ?_ rfl | exact IsL.rep (CSub.of_eq rfl) | refine IsL.a ?_ | refine IsL.r0 ?_ | refine IsL.r ?_ ?_ | refine IsL.app ?_ ?_ | refine IsL.set ?_ (CSub.of_eq rfl) | refine IsL.set ?_ ?_ | refine IsL.slice ?_ ?_ ?_ | refine IsL.take ?_ ?_ | exact CSubs.nil' | refine CSubs.cons' ?_ ?_ | exact CSub.refl _ | exact nl_c | refine CSub.agg ?_ | refine IsL.c ?_ | exact PSubs.nil' | refine PSubs.cons' ?_ ?_ | exact PSub.refl _ | exact nl_p | refine IsL.p ?_ | refine (PSub.agg ?_).a | refine PSub.agg ?_ | refine ASub.agg ?_ | refine RSub.box ?_ | refine tup_a ?_ | refine ASub.p ?_ | omega)

noncomputable def law21_some_F (N : Nat) (a0 : (List Int)) : Option (List S_Piece) :=
  (make_From_F N a0).bind fun y2 =>
  (Source_Next_F N y2.1 y2.2 7).bind fun y237 =>
  andK (iter (fun (x315 : ((List Int) × Int × (List S_Piece) × Int)) => (
   bif (decide (x315.2.2.2 > 0)) then
    (Source_Next_F N x315.1 x315.2.1 4).bind fun y433 =>
    (Source_Next_F N y433.2.1 y433.2.2 9).bind fun y434 =>
    (Source_Next_F N y434.2.1 y434.2.2 4).bind fun y453 =>
    andK (iter (fun (x459 : ((List Int) × Int × (List (Int × Int × Int)) × Int)) => (
     bif (decide (x459.2.2.2 > 0)) then
      (Source_Next_F N x459.1 x459.2.1 3).bind fun y467 =>
      (Source_Next_F N y467.2.1 y467.2.2 2).bind fun y468 =>
      grd ((x459.2.2.1.length + 1) * 24 ≤ 140737488355328 ∧ (x459.2.2.1.length + 1) ≤ maxLen) <|
      some (.next (y468.2.1, y468.2.2, (x459.2.2.1 ++ ([(y467.1, y468.1, 1)] : (List (Int × Int × Int)))), (IntKind.i64.wrap (x459.2.2.2 - 1))))
     else
      some (.out (x459.1, x459.2.1, x459.2.2.1)) : Option (Step3 ((List Int) × Int × (List (Int × Int × Int)) × Int) ((List Int) × Int × (List (Int × Int × Int))) _))) N (y453.2.1, y453.2.2, nl, y453.1)) fun y464 =>
    grd ((x315.2.2.1.length + 1) * 40 ≤ 140737488355328 ∧ (x315.2.2.1.length + 1) ≤ maxLen) <|
    some (.next (y464.1, y464.2.1, (x315.2.2.1 ++ ([(⟨y433.1, y434.1, y464.2.2⟩ : S_Piece)] : (List S_Piece))), (IntKind.i64.wrap (x315.2.2.2 - 1))))
   else
    some (.out x315.2.2.1) : Option (Step3 ((List Int) × Int × (List S_Piece) × Int) (List S_Piece) _))) N (y237.2.1, y237.2.2, nl, y237.1)) fun y392 =>
  some y392

noncomputable def law21_some_T (N : Nat) (a0 : (List Int)) : T (List S_Piece) :=
  .call (make_From_F N a0) (fun y2 => ⟨[], 0, [.pure (encL 1 encI_i64 a0)], [], .ptr 0 0, [(0, .box [.pure (encL 1 encI_i64 y2.1), .pure (.int .i64 y2.2)])]⟩) fun y2 =>
  .call (Source_Next_F N y2.1 y2.2 7) (fun y237 => ⟨[(0, 128)], 1, [.ptr 0 0, .pure (.int .i64 7)], [(0, .box [.pure (encL 1 encI_i64 y2.1), .pure (.int .i64 y2.2)])], .pure (.int .i64 y237.1), [(0, .box [.pure (encL 1 encI_i64 y237.2.1), .pure (.int .i64 y237.2.2)])]⟩) fun y237 =>
  .loop (fun (x315 : ((List Int) × Int × (List S_Piece) × Int)) => ⟨[(3, .ptr 0 0), (4, .vec 1), (5, .pure (.int .i64 x315.2.2.2))], [(0, .box [.pure (encL 1 encI_i64 x315.1), .pure (.int .i64 x315.2.1)]), (1, vecO 3 enc_Piece x315.2.2.1 45)], [], 2⟩)
   (.exit 0) (fun (y392 : (List S_Piece)) => ⟨[(4, .vec 0)], [(0, vecO 3 enc_Piece y392 45)], [], 1⟩)
   (fun x315 => .br (decide (x315.2.2.2 > 0))
     (.call (Source_Next_F N x315.1 x315.2.1 4) (fun y433 => ⟨[(0, 0)], 1, [.ptr 0 0, .pure (.int .i64 4)], [(0, .box [.pure (encL 1 encI_i64 x315.1), .pure (.int .i64 x315.2.1)])], .pure (.int .i64 y433.1), [(0, .box [.pure (encL 1 encI_i64 y433.2.1), .pure (.int .i64 y433.2.2)])]⟩) fun y433 =>
     .call (Source_Next_F N y433.2.1 y433.2.2 9) (fun y434 => ⟨[(0, 0)], 1, [.ptr 0 0, .pure (.int .i64 9)], [(0, .box [.pure (encL 1 encI_i64 y433.2.1), .pure (.int .i64 y433.2.2)])], .pure (.int .i64 y434.1), [(0, .box [.pure (encL 1 encI_i64 y434.2.1), .pure (.int .i64 y434.2.2)])]⟩) fun y434 =>
     .call (Source_Next_F N y434.2.1 y434.2.2 4) (fun y453 => ⟨[(0, 0)], 1, [.ptr 0 0, .pure (.int .i64 4)], [(0, .box [.pure (encL 1 encI_i64 y434.2.1), .pure (.int .i64 y434.2.2)])], .pure (.int .i64 y453.1), [(0, .box [.pure (encL 1 encI_i64 y453.2.1), .pure (.int .i64 y453.2.2)])]⟩) fun y453 =>
     .loop (fun (x459 : ((List Int) × Int × (List (Int × Int × Int)) × Int)) => ⟨[(3, .ptr 0 0), (4, .vec 1), (5, .pure (.int .i64 x315.2.2.2)), (6, .ptr 2 0), (7, .pure (.int .i64 x459.2.2.2))], [(0, .box [.pure (encL 1 encI_i64 x459.1), .pure (.int .i64 x459.2.1)]), (1, vecO 3 enc_Piece x315.2.2.1 45), (2, .box [.pure (.int .i64 y433.1), .pure (.int .i64 y434.1), .vec 3]), (3, vecO 3 enc_arr_3_int64 x459.2.2.1 39)], [], 4⟩)
      (.exit 2) (fun (y464 : ((List Int) × Int × (List (Int × Int × Int)))) => ⟨[(3, .ptr 0 0), (4, .vec 1), (5, .pure (.int .i64 x315.2.2.2)), (6, .ptr 2 0)], [(0, .box [.pure (encL 1 encI_i64 y464.1), .pure (.int .i64 y464.2.1)]), (1, vecO 3 enc_Piece x315.2.2.1 45), (2, .box [.pure (.int .i64 y433.1), .pure (.int .i64 y434.1), .vec 3]), (3, vecO 3 enc_arr_3_int64 y464.2.2 39)], [], 4⟩)
      (fun x459 => .br (decide (x459.2.2.2 > 0))
        (.call (Source_Next_F N x459.1 x459.2.1 3) (fun y467 => ⟨[(0, 0)], 1, [.ptr 0 0, .pure (.int .i64 3)], [(0, .box [.pure (encL 1 encI_i64 x459.1), .pure (.int .i64 x459.2.1)])], .pure (.int .i64 y467.1), [(0, .box [.pure (encL 1 encI_i64 y467.2.1), .pure (.int .i64 y467.2.2)])]⟩) fun y467 =>
        .call (Source_Next_F N y467.2.1 y467.2.2 2) (fun y468 => ⟨[(0, 0)], 1, [.ptr 0 0, .pure (.int .i64 2)], [(0, .box [.pure (encL 1 encI_i64 y467.2.1), .pure (.int .i64 y467.2.2)])], .pure (.int .i64 y468.1), [(0, .box [.pure (encL 1 encI_i64 y468.2.1), .pure (.int .i64 y468.2.2)])]⟩) fun y468 =>
        .grd ((x459.2.2.1.length + 1) * 24 ≤ 140737488355328 ∧ (x459.2.2.1.length + 1) ≤ maxLen) <|
        .ret (.next (y468.2.1, y468.2.2, (x459.2.2.1 ++ ([(y467.1, y468.1, 1)] : (List (Int × Int × Int)))), (IntKind.i64.wrap (x459.2.2.2 - 1)))))
        (.ret (.out (x459.1, x459.2.1, x459.2.2.1))))
      (y453.2.1, y453.2.2, nl, y453.1) fun y464 =>
     .grd ((x315.2.2.1.length + 1) * 40 ≤ 140737488355328 ∧ (x315.2.2.1.length + 1) ≤ maxLen) <|
     .ret (.next (y464.1, y464.2.1, (x315.2.2.1 ++ ([(⟨y433.1, y434.1, y464.2.2⟩ : S_Piece)] : (List S_Piece))), (IntKind.i64.wrap (x315.2.2.2 - 1)))))
     (.ret (.out x315.2.2.1)))
   (y237.2.1, y237.2.2, nl, y237.1) fun y392 =>
  .ret y392

theorem law21_some_run (N : Nat) (a0 : (List Int)) : (law21_some_T N a0).run N = law21_some_F N a0 := by kernel_rfl

theorem law21_some_vc (N : Nat) (a0 : (List Int)) : (vcFuncT Try.prog drawB Try.f10 (Try.f10.body.getD .skip) 0 0 (law21_some_T N a0) [.pure (encL 1 encI_i64 a0)] [] (fun _ => .vec 0) (fun r => [(0, vecO 3 enc_Piece r 45)])) =
    (∀ (y : List Int × Int), make_From_F N a0 = some y → ((aS (AVal.pure (encL 1 encI_i64 a0)) ∧ True) ∧ True ∧ Spec Try.prog 17 0 [AVal.pure (encL 1 encI_i64 a0)] [] (AVal.ptr 0 0) [(0, Res.box [AVal.pure (encL 1 encI_i64 y.fst), aI y.snd])]) ∧ ∀ (y_1 : Int × List Int × Int), Source_Next_F N y.fst y.snd 7 = some y_1 → ((aS (AVal.ptr 128 0) ∧ aS (aI 7) ∧ True) ∧ (rS (Res.box [AVal.pure (encL 1 encI_i64 y.fst), aI y.snd]) ∧ True) ∧ Spec Try.prog 18 1 [AVal.ptr 0 0, aI 7] [(0, Res.box [AVal.pure (encL 1 encI_i64 y.fst), aI y.snd])] (aI y_1.fst) [(0, Res.box [AVal.pure (encL 1 encI_i64 y_1.snd.fst), aI y_1.snd.snd])]) ∧ (∀ (_x : List Int × Int × List S_Piece × Int), true = true ∧ 0 ≤ 2) ∧ (∀ (_y : List S_Piece), true = true ∧ 0 ≤ 1) ∧ ((aS (AVal.ptr 128 0) ∧ aS (AVal.vec 256) ∧ aS (aI y_1.fst) ∧ True) ∧ (rS (Res.box [AVal.pure (encL 1 encI_i64 y_1.snd.fst), aI y_1.snd.snd]) ∧ RSub Res.nilv (vecO 3 enc_Piece nl 45) ∧ True) ∧ True) ∧ (∀ (x : List Int × Int × List S_Piece × Int), decide (x.snd.snd.snd > 0) = decide (x.snd.snd.snd > 0) ∧ (decide (x.snd.snd.snd > 0) = true → ∀ (y : Int × List Int × Int), Source_Next_F N x.fst x.snd.fst 4 = some y → ((aS (AVal.ptr 0 0) ∧ aS (aI 4) ∧ True) ∧ (rS (Res.box [AVal.pure (encL 1 encI_i64 x.fst), aI x.snd.fst]) ∧ True) ∧ Spec Try.prog 18 1 [AVal.ptr 0 0, aI 4] [(0, Res.box [AVal.pure (encL 1 encI_i64 x.fst), aI x.snd.fst])] (aI y.fst) [(0, Res.box [AVal.pure (encL 1 encI_i64 y.snd.fst), aI y.snd.snd])]) ∧ ∀ (y_2 : Int × List Int × Int), Source_Next_F N y.snd.fst y.snd.snd 9 = some y_2 → ((aS (AVal.ptr 0 0) ∧ aS (aI 9) ∧ True) ∧ (rS (Res.box [AVal.pure (encL 1 encI_i64 y.snd.fst), aI y.snd.snd]) ∧ True) ∧ Spec Try.prog 18 1 [AVal.ptr 0 0, aI 9] [(0, Res.box [AVal.pure (encL 1 encI_i64 y.snd.fst), aI y.snd.snd])] (aI y_2.fst) [(0, Res.box [AVal.pure (encL 1 encI_i64 y_2.snd.fst), aI y_2.snd.snd])]) ∧ ∀ (y_3 : Int × List Int × Int), Source_Next_F N y_2.snd.fst y_2.snd.snd 4 = some y_3 → ((aS (AVal.ptr 0 0) ∧ aS (aI 4) ∧ True) ∧ (rS (Res.box [AVal.pure (encL 1 encI_i64 y_2.snd.fst), aI y_2.snd.snd]) ∧ True) ∧ Spec Try.prog 18 1 [AVal.ptr 0 0, aI 4] [(0, Res.box [AVal.pure (encL 1 encI_i64 y_2.snd.fst), aI y_2.snd.snd])] (aI y_3.fst) [(0, Res.box [AVal.pure (encL 1 encI_i64 y_3.snd.fst), aI y_3.snd.snd])]) ∧ (∀ (_x : List Int × Int × List (Int × Int × Int) × Int), true = true ∧ 0 ≤ 4) ∧ (∀ (_y : List Int × Int × List (Int × Int × Int)), true = true ∧ 0 ≤ 4) ∧ ((aS (AVal.ptr 0 0) ∧ aS (AVal.vec 1) ∧ aS (aI x.snd.snd.snd) ∧ aS (AVal.ptr 450 0) ∧ aS (aI y_3.fst) ∧ True) ∧ (rS (Res.box [AVal.pure (encL 1 encI_i64 y_3.snd.fst), aI y_3.snd.snd]) ∧ rS (vecO 3 enc_Piece x.snd.snd.fst 45) ∧ rS (Res.box [aI y.fst, aI y_2.fst, AVal.vec 388]) ∧ RSub Res.nilv (vecO 3 enc_arr_3_int64 nl 39) ∧ True) ∧ True) ∧ (∀ (x_1 : List Int × Int × List (Int × Int × Int) × Int), decide (x_1.snd.snd.snd > 0) = decide (x_1.snd.snd.snd > 0) ∧ (decide (x_1.snd.snd.snd > 0) = true → ∀ (y_4 : Int × List Int × Int), Source_Next_F N x_1.fst x_1.snd.fst 3 = some y_4 → ((aS (AVal.ptr 0 0) ∧ aS (aI 3) ∧ True) ∧ (rS (Res.box [AVal.pure (encL 1 encI_i64 x_1.fst), aI x_1.snd.fst]) ∧ True) ∧ Spec Try.prog 18 1 [AVal.ptr 0 0, aI 3] [(0, Res.box [AVal.pure (encL 1 encI_i64 x_1.fst), aI x_1.snd.fst])] (aI y_4.fst) [(0, Res.box [AVal.pure (encL 1 encI_i64 y_4.snd.fst), aI y_4.snd.snd])]) ∧ ∀ (y_5 : Int × List Int × Int), Source_Next_F N y_4.snd.fst y_4.snd.snd 2 = some y_5 → ((aS (AVal.ptr 0 0) ∧ aS (aI 2) ∧ True) ∧ (rS (Res.box [AVal.pure (encL 1 encI_i64 y_4.snd.fst), aI y_4.snd.snd]) ∧ True) ∧ Spec Try.prog 18 1 [AVal.ptr 0 0, aI 2] [(0, Res.box [AVal.pure (encL 1 encI_i64 y_4.snd.fst), aI y_4.snd.snd])] (aI y_5.fst) [(0, Res.box [AVal.pure (encL 1 encI_i64 y_5.snd.fst), aI y_5.snd.snd])]) ∧ ((x_1.snd.snd.fst.length + 1) * 24 ≤ 140737488355328 ∧ x_1.snd.snd.fst.length + 1 ≤ 9223372036854775807 → ((x_1.snd.snd.fst.length + 1) * 24 ≤ 140737488355328 ∧ x_1.snd.snd.fst.length + 1 ≤ 9223372036854775807) ∧ (aS (AVal.ptr 0 0) ∧ aS (AVal.vec 1) ∧ aS (aI x.snd.snd.snd) ∧ aS (AVal.ptr 2 0) ∧ aS (aI (IntKind.i64.wrap (x_1.snd.snd.snd - 1))) ∧ True) ∧ (rS (Res.box [AVal.pure (encL 1 encI_i64 y_5.snd.fst), aI y_5.snd.snd]) ∧ rS (vecO 3 enc_Piece x.snd.snd.fst 45) ∧ rS (Res.box [aI y.fst, aI y_2.fst, AVal.vec 644]) ∧ RSub (Res.vec 3 (x_1.snd.snd.fst.length + 1) (fun (a : Nat) => appF x_1.snd.snd.fst.length (el enc_arr_3_int64 x_1.snd.snd.fst) (lget [PVal.agg [PVal.int IntKind.i64 y_4.fst, PVal.int IntKind.i64 y_5.fst, PVal.int IntKind.i64 1]]) a) 0 39) (vecO 3 enc_arr_3_int64 (x_1.snd.snd.fst ++ [(y_4.fst, y_5.fst, 1)]) 39) ∧ True) ∧ True)) ∧ (decide (x_1.snd.snd.snd > 0) = false → (aS (AVal.ptr 0 0) ∧ aS (AVal.vec 1) ∧ aS (aI x.snd.snd.snd) ∧ aS (AVal.ptr 2 0) ∧ True) ∧ (rS (Res.box [AVal.pure (encL 1 encI_i64 x_1.fst), aI x_1.snd.fst]) ∧ rS (vecO 3 enc_Piece x.snd.snd.fst 45) ∧ rS (Res.box [aI y.fst, aI y_2.fst, AVal.vec 3]) ∧ rS (vecO 3 enc_arr_3_int64 x_1.snd.snd.fst 39) ∧ True) ∧ True)) ∧ ∀ (y_4 : List Int × Int × List (Int × Int × Int)), (x.snd.snd.fst.length + 1) * 40 ≤ 140737488355328 ∧ x.snd.snd.fst.length + 1 ≤ 9223372036854775807 → ((x.snd.snd.fst.length + 1) * 40 ≤ 140737488355328 ∧ x.snd.snd.fst.length + 1 ≤ 9223372036854775807) ∧ (aS (AVal.ptr 0 0) ∧ aS (AVal.vec 196) ∧ aS (aI (IntKind.i64.wrap (x.snd.snd.snd - 1))) ∧ True) ∧ (rS (Res.box [AVal.pure (encL 1 encI_i64 y_4.fst), aI y_4.snd.fst]) ∧ RSub (Res.vec 3 (x.snd.snd.fst.length + 1) (fun (a : Nat) => appF x.snd.snd.fst.length (el enc_Piece x.snd.snd.fst) (lget [PVal.agg [PVal.int IntKind.i64 y.fst, PVal.int IntKind.i64 y_2.fst, PVal.lst 3 y_4.snd.snd.length (el enc_arr_3_int64 y_4.snd.snd)]]) a) 0 45) (vecO 3 enc_Piece (x.snd.snd.fst ++ [S_Piece.mk y.fst y_2.fst y_4.snd.snd]) 45) ∧ True) ∧ True) ∧ (decide (x.snd.snd.snd > 0) = false → (aS (AVal.vec 1) ∧ True) ∧ (rS (vecO 3 enc_Piece x.snd.snd.fst 45) ∧ True) ∧ True)) ∧ ∀ (y : List S_Piece), (aS (AVal.vec 0) ∧ True) ∧ (rS (vecO 3 enc_Piece y 45) ∧ True) ∧ True) := by kernel_rfl


set_option maxHeartbeats 4000000 in
theorem law21_some_spec (hd : DrawSound Try.prog drawB) {N : Nat} {a0 : (List Int)} {r : (List S_Piece)} (h : law21_some_F N a0 = some r) : Spec Try.prog 10 0 [.pure (encL 1 encI_i64 a0)] [] (.vec 0) ([(0, vecO 3 enc_Piece r 45)]) := by
  refine spec_ofT (n0 := 0) (res := fun _ => .vec 0) (m' := fun r => [(0, vecO 3 enc_Piece r 45)]) (law21_some_T N a0) ((law21_some_run N a0).trans h) hd Try.func10 (by kernel_rfl) (by kernel_rfl) ?_
  rw [law21_some_vc]
  repeat' (first | exact trivial | exact ASub.refl _ | exact RSub.refl _ | exact make_From_spec hd (by assumption) | exact Source_Next_spec hd (by assumption) | assumption | rfl | (apply And.intro) | (intro _) | exact nl_a | exact ASub.tt rfl | exact ASub.ff rfl | exact mapR_upE rfl | exact RSub.nilv rfl rfl | exact IsL.el | exact IsL.nl | exact IsL.lit (CSubs.of_eq rfl) rfl | refine IsL.lit ?_ rfl | exact IsL.rep (CSub.of_eq rfl) | refine IsL.a ?_ | refine IsL.r0 ?_ | refine IsL.r ?_ ?_ | refine IsL.app ?_ ?_ | refine IsL.set ?_ (CSub.of_eq rfl) | refine IsL.set ?_ ?_ | refine IsL.slice ?_ ?_ ?_ | refine IsL.take ?_ ?_ | exact CSubs.nil' | refine CSubs.cons' ?_ ?_ | exact CSub.refl _ | exact nl_c | refine CSub.agg ?_ | refine IsL.c ?_ | exact PSubs.nil' | refine PSubs.cons' ?_ ?_ | exact PSub.refl _ | exact nl_p | refine IsL.p ?_ | refine (PSub.agg ?_).a | refine PSub.agg ?_ | refine ASub.agg ?_ | refine RSub.box ?_ | refine tup_a ?_ | refine ASub.p ?_ | omega)

noncomputable def compact_Pack_F (N : Nat) (a0 : (List S_Piece)) : Option S_Packed :=
  andK (iter (fun (x341 : ((List (Int × Int × Int)) × (List S_Use) × (List ((Int × Int × Int) × Int)) × Int)) => (
   bif (decide (x341.2.2.2 < ((a0.length : Nat) : Int))) then
    grd (0 ≤ x341.2.2.2 ∧ x341.2.2.2 < ((a0.length : Nat) : Int)) <|
    andK (iter (fun (x497 : ((List (Int × Int × Int)) × (List ((Int × Int × Int) × Int)) × (List Int) × Int)) => (
     bif (decide (x497.2.2.2 < (((a0.getD ((x341.2.2.2).toNat) default).Normals.length : Nat) : Int))) then
      grd (0 ≤ x497.2.2.2 ∧ x497.2.2.2 < (((a0.getD ((x341.2.2.2).toNat) default).Normals.length : Nat) : Int)) <|
      grd ((mdom cells_arr_3_int64 x497.2.1 (cells_arr_3_int64 (((a0.getD ((x341.2.2.2).toNat) default).Normals).getD ((x497.2.2.2).toNat) default))) = false → PVal.int .i64 (mget cells_arr_3_int64 x497.2.1 (cells_arr_3_int64 (((a0.getD ((x341.2.2.2).toNat) default).Normals).getD ((x497.2.2.2).toNat) default))) = .int .i64 0) <|
      (fun z509 =>
      andC (
        bif (!(mdom cells_arr_3_int64 x497.2.1 (cells_arr_3_int64 (((a0.getD ((x341.2.2.2).toNat) default).Normals).getD ((x497.2.2.2).toNat) default)))) then
         grd ((x497.1.length + 1) * 24 ≤ 140737488355328 ∧ (x497.1.length + 1) ≤ maxLen) <|
         some (.out ((x497.1 ++ ([(((a0.getD ((x341.2.2.2).toNat) default).Normals).getD ((x497.2.2.2).toNat) default)] : (List (Int × Int × Int)))), (((((a0.getD ((x341.2.2.2).toNat) default).Normals).getD ((x497.2.2.2).toNat) default), ((x497.1.length : Nat) : Int)) :: x497.2.1), ((x497.1.length : Nat) : Int)))
        else
         some (.out (x497.1, x497.2.1, z509)) : Option (Step3 Unit ((List (Int × Int × Int)) × (List ((Int × Int × Int) × Int)) × Int) _)) fun y510 =>
       grd ((x497.2.2.1.length + 1) * 8 ≤ 140737488355328 ∧ (x497.2.2.1.length + 1) ≤ maxLen) <|
       some (.next (y510.1, y510.2.1, (x497.2.2.1 ++ ([y510.2.2] : (List Int))), (IntKind.i64.wrap (x497.2.2.2 + 1))))) ((mget cells_arr_3_int64 x497.2.1 (cells_arr_3_int64 (((a0.getD ((x341.2.2.2).toNat) default).Normals).getD ((x497.2.2.2).toNat) default))))
     else
      some (.out (x497.1, x497.2.1, x497.2.2.1)) : Option (Step3 ((List (Int × Int × Int)) × (List ((Int × Int × Int) × Int)) × (List Int) × Int) ((List (Int × Int × Int)) × (List ((Int × Int × Int) × Int)) × (List Int)) _))) N (x341.1, x341.2.2.1, nl, 0)) fun y504 =>
    grd ((x341.2.1.length + 1) * 40 ≤ 140737488355328 ∧ (x341.2.1.length + 1) ≤ maxLen) <|
    some (.next (y504.1, (x341.2.1 ++ ([(⟨(a0.getD ((x341.2.2.2).toNat) default).Depth, (a0.getD ((x341.2.2.2).toNat) default).Index, y504.2.2⟩ : S_Use)] : (List S_Use))), y504.2.1, (IntKind.i64.wrap (x341.2.2.2 + 1))))
   else
    some (.out (x341.1, x341.2.1)) : Option (Step3 ((List (Int × Int × Int)) × (List S_Use) × (List ((Int × Int × Int) × Int)) × Int) ((List (Int × Int × Int)) × (List S_Use)) _))) N (nl, nl, (nl : List ((Int × Int × Int) × Int)), 0)) fun y426 =>
  some (⟨y426.1, y426.2⟩ : S_Packed)

noncomputable def compact_Pack_T (_N : Nat) (a0 : (List S_Piece)) : T S_Packed :=
  .loop (fun (x341 : ((List (Int × Int × Int)) × (List S_Use) × (List ((Int × Int × Int) × Int)) × Int)) => ⟨[(2, .ptr 0 0), (3, .map 3), (13, .pure (encL 3 enc_Piece a0)), (14, .pure (.int .i64 ((a0.length : Nat) : Int))), (15, .pure (.int .i64 x341.2.2.2))], [(0, .box [.vec 1, .vec 2]), (1, vecO 3 enc_arr_3_int64 x341.1 39), (2, vecO 3 enc_Use x341.2.1 37), (3, mapR_i64 [.int .i64 0, .int .i64 0, .int .i64 0] cells_arr_3_int64 x341.2.2.1)], [.func 34 [] [.ptr 0 0]], 4⟩)
   (.exit 0) (fun (y426 : ((List (Int × Int × Int)) × (List S_Use))) => ⟨[(2, .ptr 0 0)], [(0, .box [.vec 1, .vec 2]), (1, vecO 3 enc_arr_3_int64 y426.1 39), (2, vecO 3 enc_Use y426.2 37)], [.func 34 [] [.ptr 0 0]], 3⟩)
   (fun x341 => .br (decide (x341.2.2.2 < ((a0.length : Nat) : Int)))
     (.grd (0 ≤ x341.2.2.2 ∧ x341.2.2.2 < ((a0.length : Nat) : Int)) <|
     .loop (fun (x497 : ((List (Int × Int × Int)) × (List ((Int × Int × Int) × Int)) × (List Int) × Int)) => ⟨[(2, .ptr 0 0), (3, .map 3), (6, .ptr 4 0), (13, .pure (encL 3 enc_Piece a0)), (14, .pure (.int .i64 ((a0.length : Nat) : Int))), (15, .pure (.int .i64 x341.2.2.2)), (25, .pure (encL 3 enc_arr_3_int64 ((a0.getD ((x341.2.2.2).toNat) default).Normals))), (26, .pure (.int .i64 (((a0.getD ((x341.2.2.2).toNat) default).Normals.length : Nat) : Int))), (27, .pure (.int .i64 x497.2.2.2))], [(0, .box [.vec 1, .vec 2]), (1, vecO 3 enc_arr_3_int64 x497.1 39), (2, vecO 3 enc_Use x341.2.1 37), (3, mapR_i64 [.int .i64 0, .int .i64 0, .int .i64 0] cells_arr_3_int64 x497.2.1), (4, .box [.pure (.int .i64 ((a0.getD ((x341.2.2.2).toNat) default).Depth)), .pure (.int .i64 ((a0.getD ((x341.2.2.2).toNat) default).Index)), .vec 5]), (5, vecO 1 encI_i64 x497.2.2.1 3)], [.func 34 [] [.ptr 0 0]], 6⟩)
      (.exit 2) (fun (y504 : ((List (Int × Int × Int)) × (List ((Int × Int × Int) × Int)) × (List Int))) => ⟨[(2, .ptr 0 0), (3, .map 3), (6, .ptr 4 0), (13, .pure (encL 3 enc_Piece a0)), (14, .pure (.int .i64 ((a0.length : Nat) : Int))), (15, .pure (.int .i64 x341.2.2.2))], [(0, .box [.vec 1, .vec 2]), (1, vecO 3 enc_arr_3_int64 y504.1 39), (2, vecO 3 enc_Use x341.2.1 37), (3, mapR_i64 [.int .i64 0, .int .i64 0, .int .i64 0] cells_arr_3_int64 y504.2.1), (4, .box [.pure (.int .i64 ((a0.getD ((x341.2.2.2).toNat) default).Depth)), .pure (.int .i64 ((a0.getD ((x341.2.2.2).toNat) default).Index)), .vec 5]), (5, vecO 1 encI_i64 y504.2.2 3)], [.func 34 [] [.ptr 0 0]], 6⟩)
      (fun x497 => .br (decide (x497.2.2.2 < (((a0.getD ((x341.2.2.2).toNat) default).Normals.length : Nat) : Int)))
        (.grd (0 ≤ x497.2.2.2 ∧ x497.2.2.2 < (((a0.getD ((x341.2.2.2).toNat) default).Normals.length : Nat) : Int)) <|
        .grd ((mdom cells_arr_3_int64 x497.2.1 (cells_arr_3_int64 (((a0.getD ((x341.2.2.2).toNat) default).Normals).getD ((x497.2.2.2).toNat) default))) = false → PVal.int .i64 (mget cells_arr_3_int64 x497.2.1 (cells_arr_3_int64 (((a0.getD ((x341.2.2.2).toNat) default).Normals).getD ((x497.2.2.2).toNat) default))) = .int .i64 0) <|
        .name 4 ((mget cells_arr_3_int64 x497.2.1 (cells_arr_3_int64 (((a0.getD ((x341.2.2.2).toNat) default).Normals).getD ((x497.2.2.2).toNat) default)))) fun z509 =>
        .cut 0 (fun (y510 : ((List (Int × Int × Int)) × (List ((Int × Int × Int) × Int)) × Int)) => ⟨[(2, .ptr 0 0), (3, .map 3), (6, .ptr 4 0), (9, .pure (.int .i64 y510.2.2)), (13, .pure (encL 3 enc_Piece a0)), (14, .pure (.int .i64 ((a0.length : Nat) : Int))), (15, .pure (.int .i64 x341.2.2.2)), (25, .pure (encL 3 enc_arr_3_int64 ((a0.getD ((x341.2.2.2).toNat) default).Normals))), (26, .pure (.int .i64 (((a0.getD ((x341.2.2.2).toNat) default).Normals.length : Nat) : Int))), (27, .pure (.int .i64 x497.2.2.2))], [(0, .box [.vec 1, .vec 2]), (1, vecO 3 enc_arr_3_int64 y510.1 39), (2, vecO 3 enc_Use x341.2.1 37), (3, mapR_i64 [.int .i64 0, .int .i64 0, .int .i64 0] cells_arr_3_int64 y510.2.1), (4, .box [.pure (.int .i64 ((a0.getD ((x341.2.2.2).toNat) default).Depth)), .pure (.int .i64 ((a0.getD ((x341.2.2.2).toNat) default).Index)), .vec 5]), (5, vecO 1 encI_i64 x497.2.2.1 3)], [.func 34 [] [.ptr 0 0]], 6⟩)
         (.br (!(mdom cells_arr_3_int64 x497.2.1 (cells_arr_3_int64 (((a0.getD ((x341.2.2.2).toNat) default).Normals).getD ((x497.2.2.2).toNat) default))))
          (.grd ((x497.1.length + 1) * 24 ≤ 140737488355328 ∧ (x497.1.length + 1) ≤ maxLen) <|
          .ret (.out ((x497.1 ++ ([(((a0.getD ((x341.2.2.2).toNat) default).Normals).getD ((x497.2.2.2).toNat) default)] : (List (Int × Int × Int)))), (((((a0.getD ((x341.2.2.2).toNat) default).Normals).getD ((x497.2.2.2).toNat) default), ((x497.1.length : Nat) : Int)) :: x497.2.1), ((x497.1.length : Nat) : Int))))
          (.ret (.out (x497.1, x497.2.1, z509)))) fun y510 =>
        .grd ((x497.2.2.1.length + 1) * 8 ≤ 140737488355328 ∧ (x497.2.2.1.length + 1) ≤ maxLen) <|
        .ret (.next (y510.1, y510.2.1, (x497.2.2.1 ++ ([y510.2.2] : (List Int))), (IntKind.i64.wrap (x497.2.2.2 + 1)))))
        (.ret (.out (x497.1, x497.2.1, x497.2.2.1))))
      (x341.1, x341.2.2.1, nl, 0) fun y504 =>
     .grd ((x341.2.1.length + 1) * 40 ≤ 140737488355328 ∧ (x341.2.1.length + 1) ≤ maxLen) <|
     .ret (.next (y504.1, (x341.2.1 ++ ([(⟨(a0.getD ((x341.2.2.2).toNat) default).Depth, (a0.getD ((x341.2.2.2).toNat) default).Index, y504.2.2⟩ : S_Use)] : (List S_Use))), y504.2.1, (IntKind.i64.wrap (x341.2.2.2 + 1)))))
     (.ret (.out (x341.1, x341.2.1))))
   (nl, nl, (nl : List ((Int × Int × Int) × Int)), 0) fun y426 =>
  .ret (⟨y426.1, y426.2⟩ : S_Packed)

theorem compact_Pack_run (N : Nat) (a0 : (List S_Piece)) : (compact_Pack_T N a0).run N = compact_Pack_F N a0 := by kernel_rfl

theorem compact_Pack_vc (N : Nat) (a0 : (List S_Piece)) : (vcFuncT Try.prog drawB Try.f14 (Try.f14.body.getD .skip) 0 0 (compact_Pack_T N a0) [.pure (encL 3 enc_Piece a0)] [] (fun r => .pure (.agg [encL 3 enc_arr_3_int64 r.Table, encL 3 enc_Use r.Uses])) (fun _ => [])) =
    ((∀ (_x : List (Int × Int × Int) × List S_Use × List ((Int × Int × Int) × Int) × Int), true = true ∧ 0 ≤ 4) ∧ (∀ (_y : List (Int × Int × Int) × List S_Use), true = true ∧ 0 ≤ 3) ∧ ((aS (AVal.ptr 0 0) ∧ aS (AVal.map 192) ∧ aS (AVal.pure (encL 3 enc_Piece a0)) ∧ aS (aI (↑a0.length : Int)) ∧ aS (aI 0) ∧ True) ∧ (rS (Res.box [AVal.vec 1, AVal.vec 2]) ∧ RSub Res.nilv (vecO 3 enc_arr_3_int64 nl 39) ∧ RSub Res.nilv (vecO 3 enc_Use nl 37) ∧ rS (Res.map [PVal.int IntKind.i64 0, PVal.int IntKind.i64 0, PVal.int IntKind.i64 0] (fun (_x : List PVal) => false) fun (_x : List PVal) => PVal.int IntKind.i64 0) ∧ True) ∧ aS (AVal.func 34 [] [AVal.ptr 0 0]) ∧ True) ∧ (∀ (x : List (Int × Int × Int) × List S_Use × List ((Int × Int × Int) × Int) × Int), decide (x.snd.snd.snd < (↑a0.length : Int)) = decide (x.snd.snd.snd < (↑a0.length : Int)) ∧ (decide (x.snd.snd.snd < (↑a0.length : Int)) = true → 0 ≤ x.snd.snd.snd ∧ x.snd.snd.snd < (↑a0.length : Int) → (0 ≤ x.snd.snd.snd ∧ x.snd.snd.snd < (↑a0.length : Int)) ∧ (∀ (_x : List (Int × Int × Int) × List ((Int × Int × Int) × Int) × List Int × Int), true = true ∧ 0 ≤ 6) ∧ (∀ (_y : List (Int × Int × Int) × List ((Int × Int × Int) × Int) × List Int), true = true ∧ 0 ≤ 6) ∧ ((aS (AVal.ptr 0 0) ∧ aS (AVal.map 3) ∧ aS (AVal.ptr 644 0) ∧ aS (AVal.pure (encL 3 enc_Piece a0)) ∧ aS (aI (↑a0.length : Int)) ∧ aS (aI x.snd.snd.snd) ∧ aS (AVal.pure (encL 3 enc_arr_3_int64 (a0.getD x.snd.snd.snd.toNat default).Normals)) ∧ aS (aI (↑(a0.getD x.snd.snd.snd.toNat default).Normals.length : Int)) ∧ aS (aI 0) ∧ True) ∧ (rS (Res.box [AVal.vec 1, AVal.vec 2]) ∧ rS (vecO 3 enc_arr_3_int64 x.fst 39) ∧ rS (vecO 3 enc_Use x.snd.fst 37) ∧ rS (Res.map [PVal.int IntKind.i64 0, PVal.int IntKind.i64 0, PVal.int IntKind.i64 0] (fun (a : List PVal) => mdom cells_arr_3_int64 x.snd.snd.fst a) fun (q : List PVal) => PVal.int IntKind.i64 (mget cells_arr_3_int64 x.snd.snd.fst q)) ∧ rS (Res.box [aI (a0.getD x.snd.snd.snd.toNat default).Depth, aI (a0.getD x.snd.snd.snd.toNat default).Index, AVal.vec 582]) ∧ RSub Res.nilv (vecO 1 encI_i64 nl 3) ∧ True) ∧ aS (AVal.func 34 [] [AVal.ptr 0 0]) ∧ True) ∧ (∀ (x_1 : List (Int × Int × Int) × List ((Int × Int × Int) × Int) × List Int × Int), decide (x_1.snd.snd.snd < (↑(a0.getD x.snd.snd.snd.toNat default).Normals.length : Int)) = decide (x_1.snd.snd.snd < (↑(a0.getD x.snd.snd.snd.toNat default).Normals.length : Int)) ∧ (decide (x_1.snd.snd.snd < (↑(a0.getD x.snd.snd.snd.toNat default).Normals.length : Int)) = true → 0 ≤ x_1.snd.snd.snd ∧ x_1.snd.snd.snd < (↑(a0.getD x.snd.snd.snd.toNat default).Normals.length : Int) → (0 ≤ x_1.snd.snd.snd ∧ x_1.snd.snd.snd < (↑(a0.getD x.snd.snd.snd.toNat default).Normals.length : Int)) ∧ ((mdom cells_arr_3_int64 x_1.snd.fst (cells_arr_3_int64 ((a0.getD x.snd.snd.snd.toNat default).Normals.getD x_1.snd.snd.snd.toNat default)) = false → PVal.int IntKind.i64 (mget cells_arr_3_int64 x_1.snd.fst (cells_arr_3_int64 ((a0.getD x.snd.snd.snd.toNat default).Normals.getD x_1.snd.snd.snd.toNat default))) = PVal.int IntKind.i64 0) → (mdom cells_arr_3_int64 x_1.snd.fst [PVal.int IntKind.i64 ((a0.getD x.snd.snd.snd.toNat default).Normals.getD x_1.snd.snd.snd.toNat default).fst, PVal.int IntKind.i64 ((a0.getD x.snd.snd.snd.toNat default).Normals.getD x_1.snd.snd.snd.toNat default).snd.fst, PVal.int IntKind.i64 ((a0.getD x.snd.snd.snd.toNat default).Normals.getD x_1.snd.snd.snd.toNat default).snd.snd] = false → PVal.int IntKind.i64 (mget cells_arr_3_int64 x_1.snd.fst [PVal.int IntKind.i64 ((a0.getD x.snd.snd.snd.toNat default).Normals.getD x_1.snd.snd.snd.toNat default).fst, PVal.int IntKind.i64 ((a0.getD x.snd.snd.snd.toNat default).Normals.getD x_1.snd.snd.snd.toNat default).snd.fst, PVal.int IntKind.i64 ((a0.getD x.snd.snd.snd.toNat default).Normals.getD x_1.snd.snd.snd.toNat default).snd.snd]) = PVal.int IntKind.i64 0) ∧ mget cells_arr_3_int64 x_1.snd.fst [PVal.int IntKind.i64 ((a0.getD x.snd.snd.snd.toNat default).Normals.getD x_1.snd.snd.snd.toNat default).fst, PVal.int IntKind.i64 ((a0.getD x.snd.snd.snd.toNat default).Normals.getD x_1.snd.snd.snd.toNat default).snd.fst, PVal.int IntKind.i64 ((a0.getD x.snd.snd.snd.toNat default).Normals.getD x_1.snd.snd.snd.toNat default).snd.snd] = mget cells_arr_3_int64 x_1.snd.fst (cells_arr_3_int64 ((a0.getD x.snd.snd.snd.toNat default).Normals.getD x_1.snd.snd.snd.toNat default)) ∧ ∀ (z : Int), (∀ (_y : List (Int × Int × Int) × List ((Int × Int × Int) × Int) × Int), true = true ∧ 0 ≤ 6) ∧ ((!mdom cells_arr_3_int64 x_1.snd.fst [PVal.int IntKind.i64 ((a0.getD x.snd.snd.snd.toNat default).Normals.getD x_1.snd.snd.snd.toNat default).fst, PVal.int IntKind.i64 ((a0.getD x.snd.snd.snd.toNat default).Normals.getD x_1.snd.snd.snd.toNat default).snd.fst, PVal.int IntKind.i64 ((a0.getD x.snd.snd.snd.toNat default).Normals.getD x_1.snd.snd.snd.toNat default).snd.snd]) = !mdom cells_arr_3_int64 x_1.snd.fst (cells_arr_3_int64 ((a0.getD x.snd.snd.snd.toNat default).Normals.getD x_1.snd.snd.snd.toNat default)) ∧ ((!mdom cells_arr_3_int64 x_1.snd.fst (cells_arr_3_int64 ((a0.getD x.snd.snd.snd.toNat default).Normals.getD x_1.snd.snd.snd.toNat default))) = true → (x_1.fst.length + 1) * 24 ≤ 140737488355328 ∧ x_1.fst.length + 1 ≤ 9223372036854775807 → ((x_1.fst.length + 1) * 24 ≤ 140737488355328 ∧ x_1.fst.length + 1 ≤ 9223372036854775807) ∧ (aS (AVal.ptr 0 0) ∧ aS (AVal.map 3) ∧ aS (AVal.ptr 4 0) ∧ aS (aI (↑x_1.fst.length : Int)) ∧ aS (AVal.pure (encL 3 enc_Piece a0)) ∧ aS (aI (↑a0.length : Int)) ∧ aS (aI x.snd.snd.snd) ∧ aS (AVal.pure (encL 3 enc_arr_3_int64 (a0.getD x.snd.snd.snd.toNat default).Normals)) ∧ aS (aI (↑(a0.getD x.snd.snd.snd.toNat default).Normals.length : Int)) ∧ aS (aI x_1.snd.snd.snd) ∧ True) ∧ (rS (Res.box [AVal.vec 1734, AVal.vec 2]) ∧ RSub (Res.vec 3 (x_1.fst.length + 1) (fun (a : Nat) => appF x_1.fst.length (el enc_arr_3_int64 x_1.fst) (lget [PVal.agg [PVal.int IntKind.i64 ((a0.getD x.snd.snd.snd.toNat default).Normals.getD x_1.snd.snd.snd.toNat default).fst, PVal.int IntKind.i64 ((a0.getD x.snd.snd.snd.toNat default).Normals.getD x_1.snd.snd.snd.toNat default).snd.fst, PVal.int IntKind.i64 ((a0.getD x.snd.snd.snd.toNat default).Normals.getD x_1.snd.snd.snd.toNat default).snd.snd]]) a) 0 39) (vecO 3 enc_arr_3_int64 (x_1.fst ++ [(a0.getD x.snd.snd.snd.toNat default).Normals.getD x_1.snd.snd.snd.toNat default]) 39) ∧ rS (vecO 3 enc_Use x.snd.fst 37) ∧ RSub (Res.map [PVal.int IntKind.i64 0, PVal.int IntKind.i64 0, PVal.int IntKind.i64 0] (fun (q : List PVal) => keyEq q [PVal.int IntKind.i64 ((a0.getD x.snd.snd.snd.toNat default).Normals.getD x_1.snd.snd.snd.toNat default).fst, PVal.int IntKind.i64 ((a0.getD x.snd.snd.snd.toNat default).Normals.getD x_1.snd.snd.snd.toNat default).snd.fst, PVal.int IntKind.i64 ((a0.getD x.snd.snd.snd.toNat default).Normals.getD x_1.snd.snd.snd.toNat default).snd.snd] || mdom cells_arr_3_int64 x_1.snd.fst q) fun (q : List PVal) => if keyEq q [PVal.int IntKind.i64 ((a0.getD x.snd.snd.snd.toNat default).Normals.getD x_1.snd.snd.snd.toNat default).fst, PVal.int IntKind.i64 ((a0.getD x.snd.snd.snd.toNat default).Normals.getD x_1.snd.snd.snd.toNat default).snd.fst, PVal.int IntKind.i64 ((a0.getD x.snd.snd.snd.toNat default).Normals.getD x_1.snd.snd.snd.toNat default).snd.snd] = true then PVal.int IntKind.i64 (↑x_1.fst.length : Int) else PVal.int IntKind.i64 (mget cells_arr_3_int64 x_1.snd.fst q)) (Res.map [PVal.int IntKind.i64 0, PVal.int IntKind.i64 0, PVal.int IntKind.i64 0] (fun (a : List PVal) => mdom cells_arr_3_int64 (((a0.getD x.snd.snd.snd.toNat default).Normals.getD x_1.snd.snd.snd.toNat default, (↑x_1.fst.length : Int)) :: x_1.snd.fst) a) fun (q : List PVal) => PVal.int IntKind.i64 (mget cells_arr_3_int64 (((a0.getD x.snd.snd.snd.toNat default).Normals.getD x_1.snd.snd.snd.toNat default, (↑x_1.fst.length : Int)) :: x_1.snd.fst) q)) ∧ rS (Res.box [aI (a0.getD x.snd.snd.snd.toNat default).Depth, aI (a0.getD x.snd.snd.snd.toNat default).Index, AVal.vec 5]) ∧ rS (vecO 1 encI_i64 x_1.snd.snd.fst 3) ∧ True) ∧ aS (AVal.func 34 [] [AVal.ptr 0 0]) ∧ True) ∧ ((!mdom cells_arr_3_int64 x_1.snd.fst (cells_arr_3_int64 ((a0.getD x.snd.snd.snd.toNat default).Normals.getD x_1.snd.snd.snd.toNat default))) = false → (aS (AVal.ptr 0 0) ∧ aS (AVal.map 3) ∧ aS (AVal.ptr 4 0) ∧ aS (aI z) ∧ aS (AVal.pure (encL 3 enc_Piece a0)) ∧ aS (aI (↑a0.length : Int)) ∧ aS (aI x.snd.snd.snd) ∧ aS (AVal.pure (encL 3 enc_arr_3_int64 (a0.getD x.snd.snd.snd.toNat default).Normals)) ∧ aS (aI (↑(a0.getD x.snd.snd.snd.toNat default).Normals.length : Int)) ∧ aS (aI x_1.snd.snd.snd) ∧ True) ∧ (rS (Res.box [AVal.vec 1, AVal.vec 2]) ∧ rS (vecO 3 enc_arr_3_int64 x_1.fst 39) ∧ rS (vecO 3 enc_Use x.snd.fst 37) ∧ rS (Res.map [PVal.int IntKind.i64 0, PVal.int IntKind.i64 0, PVal.int IntKind.i64 0] (fun (a : List PVal) => mdom cells_arr_3_int64 x_1.snd.fst a) fun (q : List PVal) => PVal.int IntKind.i64 (mget cells_arr_3_int64 x_1.snd.fst q)) ∧ rS (Res.box [aI (a0.getD x.snd.snd.snd.toNat default).Depth, aI (a0.getD x.snd.snd.snd.toNat default).Index, AVal.vec 5]) ∧ rS (vecO 1 encI_i64 x_1.snd.snd.fst 3) ∧ True) ∧ aS (AVal.func 34 [] [AVal.ptr 0 0]) ∧ True)) ∧ ∀ (y : List (Int × Int × Int) × List ((Int × Int × Int) × Int) × Int), (x_1.snd.snd.fst.length + 1) * 8 ≤ 140737488355328 ∧ x_1.snd.snd.fst.length + 1 ≤ 9223372036854775807 → ((x_1.snd.snd.fst.length + 1) * 8 ≤ 140737488355328 ∧ x_1.snd.snd.fst.length + 1 ≤ 9223372036854775807) ∧ (aS (AVal.ptr 0 0) ∧ aS (AVal.map 3) ∧ aS (AVal.ptr 4 0) ∧ aS (AVal.pure (encL 3 enc_Piece a0)) ∧ aS (aI (↑a0.length : Int)) ∧ aS (aI x.snd.snd.snd) ∧ aS (AVal.pure (encL 3 enc_arr_3_int64 (a0.getD x.snd.snd.snd.toNat default).Normals)) ∧ aS (aI (↑(a0.getD x.snd.snd.snd.toNat default).Normals.length : Int)) ∧ aS (aI (IntKind.i64.wrap (x_1.snd.snd.snd + 1))) ∧ True) ∧ (rS (Res.box [AVal.vec 1, AVal.vec 2]) ∧ rS (vecO 3 enc_arr_3_int64 y.fst 39) ∧ rS (vecO 3 enc_Use x.snd.fst 37) ∧ rS (Res.map [PVal.int IntKind.i64 0, PVal.int IntKind.i64 0, PVal.int IntKind.i64 0] (fun (a : List PVal) => mdom cells_arr_3_int64 y.snd.fst a) fun (q : List PVal) => PVal.int IntKind.i64 (mget cells_arr_3_int64 y.snd.fst q)) ∧ rS (Res.box [aI (a0.getD x.snd.snd.snd.toNat default).Depth, aI (a0.getD x.snd.snd.snd.toNat default).Index, AVal.vec 262]) ∧ RSub (Res.vec 1 (x_1.snd.snd.fst.length + 1) (fun (a : Nat) => appF x_1.snd.snd.fst.length (el encI_i64 x_1.snd.snd.fst) (lget [PVal.int IntKind.i64 y.snd.snd]) a) 0 3) (vecO 1 encI_i64 (x_1.snd.snd.fst ++ [y.snd.snd]) 3) ∧ True) ∧ aS (AVal.func 34 [] [AVal.ptr 0 0]) ∧ True)) ∧ (decide (x_1.snd.snd.snd < (↑(a0.getD x.snd.snd.snd.toNat default).Normals.length : Int)) = false → (aS (AVal.ptr 0 0) ∧ aS (AVal.map 3) ∧ aS (AVal.ptr 4 0) ∧ aS (AVal.pure (encL 3 enc_Piece a0)) ∧ aS (aI (↑a0.length : Int)) ∧ aS (aI x.snd.snd.snd) ∧ True) ∧ (rS (Res.box [AVal.vec 1, AVal.vec 2]) ∧ rS (vecO 3 enc_arr_3_int64 x_1.fst 39) ∧ rS (vecO 3 enc_Use x.snd.fst 37) ∧ rS (Res.map [PVal.int IntKind.i64 0, PVal.int IntKind.i64 0, PVal.int IntKind.i64 0] (fun (a : List PVal) => mdom cells_arr_3_int64 x_1.snd.fst a) fun (q : List PVal) => PVal.int IntKind.i64 (mget cells_arr_3_int64 x_1.snd.fst q)) ∧ rS (Res.box [aI (a0.getD x.snd.snd.snd.toNat default).Depth, aI (a0.getD x.snd.snd.snd.toNat default).Index, AVal.vec 5]) ∧ rS (vecO 1 encI_i64 x_1.snd.snd.fst 3) ∧ True) ∧ aS (AVal.func 34 [] [AVal.ptr 0 0]) ∧ True)) ∧ ∀ (y : List (Int × Int × Int) × List ((Int × Int × Int) × Int) × List Int), (x.snd.fst.length + 1) * 40 ≤ 140737488355328 ∧ x.snd.fst.length + 1 ≤ 9223372036854775807 → ((x.snd.fst.length + 1) * 40 ≤ 140737488355328 ∧ x.snd.fst.length + 1 ≤ 9223372036854775807) ∧ (aS (AVal.ptr 0 0) ∧ aS (AVal.map 3) ∧ aS (AVal.pure (encL 3 enc_Piece a0)) ∧ aS (aI (↑a0.length : Int)) ∧ aS (aI (IntKind.i64.wrap (x.snd.snd.snd + 1))) ∧ True) ∧ (rS (Res.box [AVal.vec 1, AVal.vec 262]) ∧ rS (vecO 3 enc_arr_3_int64 y.fst 39) ∧ RSub (Res.vec 3 (x.snd.fst.length + 1) (fun (a : Nat) => appF x.snd.fst.length (el enc_Use x.snd.fst) (lget [PVal.agg [PVal.int IntKind.i64 (a0.getD x.snd.snd.snd.toNat default).Depth, PVal.int IntKind.i64 (a0.getD x.snd.snd.snd.toNat default).Index, PVal.lst 1 y.snd.snd.length (el encI_i64 y.snd.snd)]]) a) 0 37) (vecO 3 enc_Use (x.snd.fst ++ [S_Use.mk (a0.getD x.snd.snd.snd.toNat default).Depth (a0.getD x.snd.snd.snd.toNat default).Index y.snd.snd]) 37) ∧ rS (Res.map [PVal.int IntKind.i64 0, PVal.int IntKind.i64 0, PVal.int IntKind.i64 0] (fun (a : List PVal) => mdom cells_arr_3_int64 y.snd.fst a) fun (q : List PVal) => PVal.int IntKind.i64 (mget cells_arr_3_int64 y.snd.fst q)) ∧ True) ∧ aS (AVal.func 34 [] [AVal.ptr 0 0]) ∧ True) ∧ (decide (x.snd.snd.snd < (↑a0.length : Int)) = false → (aS (AVal.ptr 0 0) ∧ True) ∧ (rS (Res.box [AVal.vec 1, AVal.vec 2]) ∧ rS (vecO 3 enc_arr_3_int64 x.fst 39) ∧ rS (vecO 3 enc_Use x.snd.fst 37) ∧ True) ∧ aS (AVal.func 34 [] [AVal.ptr 0 0]) ∧ True)) ∧ ∀ (y : List (Int × Int × Int) × List S_Use), (aS (AVal.pure (PVal.agg [encL 3 enc_arr_3_int64 y.fst, encL 3 enc_Use y.snd])) ∧ True) ∧ True ∧ GuardFn Try.prog 34 ∧ True) := by kernel_rfl


set_option maxHeartbeats 4000000 in
theorem compact_Pack_spec (hd : DrawSound Try.prog drawB) {N : Nat} {a0 : (List S_Piece)} {r : S_Packed} (h : compact_Pack_F N a0 = some r) : Spec Try.prog 14 0 [.pure (encL 3 enc_Piece a0)] [] (.pure (.agg [encL 3 enc_arr_3_int64 r.Table, encL 3 enc_Use r.Uses])) ([]) := by
  refine spec_ofT (n0 := 0) (res := fun r => .pure (.agg [encL 3 enc_arr_3_int64 r.Table, encL 3 enc_Use r.Uses])) (m' := fun _ => []) (compact_Pack_T N a0) ((compact_Pack_run N a0).trans h) hd Try.func14 (by kernel_rfl) (by kernel_rfl) ?_
  rw [compact_Pack_vc]
  repeat' (first | exact trivial | exact ASub.refl _ | exact RSub.refl _ | exact guard34 | assumption | rfl | (apply And.intro) | (intro _) | exact nl_a | exact ASub.tt rfl | exact ASub.ff rfl | exact mapR_upE rfl | exact RSub.nilv rfl rfl | exact IsL.el | exact IsL.nl | exact IsL.lit (CSubs.of_eq rfl) rfl | refine IsL.lit ?_ rfl | exact IsL.rep (CSub.of_eq rfl) | refine IsL.a ?_ | refine IsL.r0 ?_ | refine IsL.r ?_ ?_ | refine IsL.app ?_ ?_ | refine IsL.set ?_ (CSub.of_eq rfl) | refine IsL.set ?_ ?_ | refine IsL.slice ?_ ?_ ?_ | refine IsL.take ?_ ?_ | exact CSubs.nil' | refine CSubs.cons' ?_ ?_ | exact CSub.refl _ | exact nl_c | refine CSub.agg ?_ | refine IsL.c ?_ | exact PSubs.nil' | refine PSubs.cons' ?_ ?_ | exact PSub.refl _ | exact nl_p | refine IsL.p ?_ | refine (PSub.agg ?_).a | refine PSub.agg ?_ | refine ASub.agg ?_ | refine RSub.box ?_ | refine tup_a ?_ | refine ASub.p ?_ | omega)

noncomputable def compact_Unpack_F (N : Nat) (a0 : S_Packed) : Option ((List S_Piece) × Bool) :=
  andK (iter (fun (x245 : ((List S_Piece) × Int)) => (
   bif (decide (x245.2 < ((a0.Uses.length : Nat) : Int))) then
    grd (0 ≤ x245.2 ∧ x245.2 < ((a0.Uses.length : Nat) : Int)) <|
    andK (iter (fun (x357 : ((List (Int × Int × Int)) × Int)) => (
     bif (decide (x357.2 < (((a0.Uses.getD ((x245.2).toNat) default).Numbers.length : Nat) : Int))) then
      grd (0 ≤ x357.2 ∧ x357.2 < (((a0.Uses.getD ((x245.2).toNat) default).Numbers.length : Nat) : Int)) <|
      andC (
       bif (decide ((((a0.Uses.getD ((x245.2).toNat) default).Numbers).getD ((x357.2).toNat) default) < 0)) then
        some (.out true)
       else
        some (.out (decide ((((a0.Uses.getD ((x245.2).toNat) default).Numbers).getD ((x357.2).toNat) default) ≥ ((a0.Table.length : Nat) : Int)))) : Option (Step3 Unit Bool _)) fun y366 =>
      bif y366 then
       some (.fin (.fin (nl, false)))
      else
       grd (0 ≤ (((a0.Uses.getD ((x245.2).toNat) default).Numbers).getD ((x357.2).toNat) default) ∧ (((a0.Uses.getD ((x245.2).toNat) default).Numbers).getD ((x357.2).toNat) default) < ((a0.Table.length : Nat) : Int)) <|
       grd ((x357.1.length + 1) * 24 ≤ 140737488355328 ∧ (x357.1.length + 1) ≤ maxLen) <|
       some (.next ((x357.1 ++ ([(a0.Table.getD (((((a0.Uses.getD ((x245.2).toNat) default).Numbers).getD ((x357.2).toNat) default)).toNat) default)] : (List (Int × Int × Int)))), (IntKind.i64.wrap (x357.2 + 1))))
     else
      some (.out x357.1) : Option (Step3 ((List (Int × Int × Int)) × Int) (List (Int × Int × Int)) _))) N (nl, 0)) fun y362 =>
    grd ((x245.1.length + 1) * 40 ≤ 140737488355328 ∧ (x245.1.length + 1) ≤ maxLen) <|
    some (.next ((x245.1 ++ ([(⟨(a0.Uses.getD ((x245.2).toNat) default).Depth, (a0.Uses.getD ((x245.2).toNat) default).Index, y362⟩ : S_Piece)] : (List S_Piece))), (IntKind.i64.wrap (x245.2 + 1))))
   else
    some (.out x245.1) : Option (Step3 ((List S_Piece) × Int) (List S_Piece) _))) N (nl, 0)) fun y306 =>
  some (y306, true)

noncomputable def compact_Unpack_T (_N : Nat) (a0 : S_Packed) : T ((List S_Piece) × Bool) :=
  .loop (fun (x245 : ((List S_Piece) × Int)) => ⟨[(1, .ptr 0 0), (2, .ptr 1 0), (3, .ptr 3 0), (11, .pure (encL 3 enc_Use a0.Uses)), (12, .pure (.int .i64 ((a0.Uses.length : Nat) : Int))), (13, .pure (.int .i64 x245.2))], [(0, .box [.pure (encL 3 enc_arr_3_int64 a0.Table), .pure (encL 3 enc_Use a0.Uses)]), (1, .box [.vec 2]), (2, vecO 3 enc_Piece x245.1 45), (3, .box [.ff])], [.func 35 [] [.ptr 1 0, .ptr 3 0]], 4⟩)
   (.exit 0) (fun (y306 : (List S_Piece)) => ⟨[(2, .ptr 0 0), (3, .ptr 2 0)], [(0, .box [.vec 1]), (1, vecO 3 enc_Piece y306 45), (2, .box [.ff])], [.func 35 [] [.ptr 0 0, .ptr 2 0]], 3⟩)
   (fun x245 => .br (decide (x245.2 < ((a0.Uses.length : Nat) : Int)))
     (.grd (0 ≤ x245.2 ∧ x245.2 < ((a0.Uses.length : Nat) : Int)) <|
     .loop (fun (x357 : ((List (Int × Int × Int)) × Int)) => ⟨[(1, .ptr 0 0), (2, .ptr 1 0), (3, .ptr 3 0), (6, .ptr 4 0), (11, .pure (encL 3 enc_Use a0.Uses)), (12, .pure (.int .i64 ((a0.Uses.length : Nat) : Int))), (13, .pure (.int .i64 x245.2)), (23, .pure (encL 1 encI_i64 ((a0.Uses.getD ((x245.2).toNat) default).Numbers))), (24, .pure (.int .i64 (((a0.Uses.getD ((x245.2).toNat) default).Numbers.length : Nat) : Int))), (25, .pure (.int .i64 x357.2))], [(0, .box [.pure (encL 3 enc_arr_3_int64 a0.Table), .pure (encL 3 enc_Use a0.Uses)]), (1, .box [.vec 2]), (2, vecO 3 enc_Piece x245.1 45), (3, .box [.ff]), (4, .box [.pure (.int .i64 ((a0.Uses.getD ((x245.2).toNat) default).Depth)), .pure (.int .i64 ((a0.Uses.getD ((x245.2).toNat) default).Index)), .vec 5]), (5, vecO 3 enc_arr_3_int64 x357.1 39)], [.func 35 [] [.ptr 1 0, .ptr 3 0]], 6⟩)
      (.exit 2) (fun (y362 : (List (Int × Int × Int))) => ⟨[(1, .ptr 0 0), (2, .ptr 1 0), (3, .ptr 3 0), (6, .ptr 4 0), (11, .pure (encL 3 enc_Use a0.Uses)), (12, .pure (.int .i64 ((a0.Uses.length : Nat) : Int))), (13, .pure (.int .i64 x245.2))], [(0, .box [.pure (encL 3 enc_arr_3_int64 a0.Table), .pure (encL 3 enc_Use a0.Uses)]), (1, .box [.vec 2]), (2, vecO 3 enc_Piece x245.1 45), (3, .box [.ff]), (4, .box [.pure (.int .i64 ((a0.Uses.getD ((x245.2).toNat) default).Depth)), .pure (.int .i64 ((a0.Uses.getD ((x245.2).toNat) default).Index)), .vec 5]), (5, vecO 3 enc_arr_3_int64 y362 39)], [.func 35 [] [.ptr 1 0, .ptr 3 0]], 6⟩)
      (fun x357 => .br (decide (x357.2 < (((a0.Uses.getD ((x245.2).toNat) default).Numbers.length : Nat) : Int)))
        (.grd (0 ≤ x357.2 ∧ x357.2 < (((a0.Uses.getD ((x245.2).toNat) default).Numbers.length : Nat) : Int)) <|
        .cut 1 (fun (y366 : Bool) => ⟨[(1, .ptr 0 0), (2, .ptr 1 0), (3, .ptr 3 0), (6, .ptr 4 0), (8, .pure (.int .i64 (((a0.Uses.getD ((x245.2).toNat) default).Numbers).getD ((x357.2).toNat) default))), (11, .pure (encL 3 enc_Use a0.Uses)), (12, .pure (.int .i64 ((a0.Uses.length : Nat) : Int))), (13, .pure (.int .i64 x245.2)), (23, .pure (encL 1 encI_i64 ((a0.Uses.getD ((x245.2).toNat) default).Numbers))), (24, .pure (.int .i64 (((a0.Uses.getD ((x245.2).toNat) default).Numbers.length : Nat) : Int))), (25, .pure (.int .i64 x357.2)), (37, .pure (.bool y366))], [(0, .box [.pure (encL 3 enc_arr_3_int64 a0.Table), .pure (encL 3 enc_Use a0.Uses)]), (1, .box [.vec 2]), (2, vecO 3 enc_Piece x245.1 45), (3, .box [.ff]), (4, .box [.pure (.int .i64 ((a0.Uses.getD ((x245.2).toNat) default).Depth)), .pure (.int .i64 ((a0.Uses.getD ((x245.2).toNat) default).Index)), .vec 5]), (5, vecO 3 enc_arr_3_int64 x357.1 39)], [.func 35 [] [.ptr 1 0, .ptr 3 0]], 6⟩)
         (.br (decide ((((a0.Uses.getD ((x245.2).toNat) default).Numbers).getD ((x357.2).toNat) default) < 0))
          (.ret (.out true))
          (.ret (.out (decide ((((a0.Uses.getD ((x245.2).toNat) default).Numbers).getD ((x357.2).toNat) default) ≥ ((a0.Table.length : Nat) : Int)))))) fun y366 =>
        .br y366
         (.ret (.fin (.fin (nl, false))))
         (.grd (0 ≤ (((a0.Uses.getD ((x245.2).toNat) default).Numbers).getD ((x357.2).toNat) default) ∧ (((a0.Uses.getD ((x245.2).toNat) default).Numbers).getD ((x357.2).toNat) default) < ((a0.Table.length : Nat) : Int)) <|
         .grd ((x357.1.length + 1) * 24 ≤ 140737488355328 ∧ (x357.1.length + 1) ≤ maxLen) <|
         .ret (.next ((x357.1 ++ ([(a0.Table.getD (((((a0.Uses.getD ((x245.2).toNat) default).Numbers).getD ((x357.2).toNat) default)).toNat) default)] : (List (Int × Int × Int)))), (IntKind.i64.wrap (x357.2 + 1))))))
        (.ret (.out x357.1)))
      (nl, 0) fun y362 =>
     .grd ((x245.1.length + 1) * 40 ≤ 140737488355328 ∧ (x245.1.length + 1) ≤ maxLen) <|
     .ret (.next ((x245.1 ++ ([(⟨(a0.Uses.getD ((x245.2).toNat) default).Depth, (a0.Uses.getD ((x245.2).toNat) default).Index, y362⟩ : S_Piece)] : (List S_Piece))), (IntKind.i64.wrap (x245.2 + 1)))))
     (.ret (.out x245.1)))
   (nl, 0) fun y306 =>
  .ret (y306, true)

theorem compact_Unpack_run (N : Nat) (a0 : S_Packed) : (compact_Unpack_T N a0).run N = compact_Unpack_F N a0 := by kernel_rfl

theorem compact_Unpack_vc (N : Nat) (a0 : S_Packed) : (vcFuncT Try.prog drawB Try.f15 (Try.f15.body.getD .skip) 0 0 (compact_Unpack_T N a0) [.pure (.agg [encL 3 enc_arr_3_int64 a0.Table, encL 3 enc_Use a0.Uses])] [] (fun r => .tup [.pure (encL 3 enc_Piece r.1), .pure (.bool r.2)]) (fun _ => [])) =
    ((∀ (_x : List S_Piece × Int), true = true ∧ 0 ≤ 4) ∧ (∀ (_y : List S_Piece), true = true ∧ 0 ≤ 3) ∧ ((aS (AVal.ptr 0 0) ∧ aS (AVal.ptr 64 0) ∧ aS (AVal.ptr 128 0) ∧ aS (AVal.pure (encL 3 enc_Use a0.Uses)) ∧ aS (aI (↑a0.Uses.length : Int)) ∧ aS (aI 0) ∧ True) ∧ (rS (Res.box [AVal.pure (encL 3 enc_arr_3_int64 a0.Table), AVal.pure (encL 3 enc_Use a0.Uses)]) ∧ rS (Res.box [AVal.vec 65]) ∧ RSub Res.nilv (vecO 3 enc_Piece nl 45) ∧ rS (Res.box [AVal.ff]) ∧ True) ∧ aS (AVal.func 35 [] [AVal.ptr 64 0, AVal.ptr 128 0]) ∧ True) ∧ (∀ (x : List S_Piece × Int), decide (x.snd < (↑a0.Uses.length : Int)) = decide (x.snd < (↑a0.Uses.length : Int)) ∧ (decide (x.snd < (↑a0.Uses.length : Int)) = true → 0 ≤ x.snd ∧ x.snd < (↑a0.Uses.length : Int) → (0 ≤ x.snd ∧ x.snd < (↑a0.Uses.length : Int)) ∧ (∀ (_x : List (Int × Int × Int) × Int), true = true ∧ 0 ≤ 6) ∧ (∀ (_y : List (Int × Int × Int)), true = true ∧ 0 ≤ 6) ∧ ((aS (AVal.ptr 0 0) ∧ aS (AVal.ptr 1 0) ∧ aS (AVal.ptr 3 0) ∧ aS (AVal.ptr 644 0) ∧ aS (AVal.pure (encL 3 enc_Use a0.Uses)) ∧ aS (aI (↑a0.Uses.length : Int)) ∧ aS (aI x.snd) ∧ aS (AVal.pure (encL 1 encI_i64 (a0.Uses.getD x.snd.toNat default).Numbers)) ∧ aS (aI (↑(a0.Uses.getD x.snd.toNat default).Numbers.length : Int)) ∧ aS (aI 0) ∧ True) ∧ (rS (Res.box [AVal.pure (encL 3 enc_arr_3_int64 a0.Table), AVal.pure (encL 3 enc_Use a0.Uses)]) ∧ rS (Res.box [AVal.vec 2]) ∧ rS (vecO 3 enc_Piece x.fst 45) ∧ rS (Res.box [AVal.ff]) ∧ rS (Res.box [aI (a0.Uses.getD x.snd.toNat default).Depth, aI (a0.Uses.getD x.snd.toNat default).Index, AVal.vec 582]) ∧ RSub Res.nilv (vecO 3 enc_arr_3_int64 nl 39) ∧ True) ∧ aS (AVal.func 35 [] [AVal.ptr 1 0, AVal.ptr 3 0]) ∧ True) ∧ (∀ (x_1 : List (Int × Int × Int) × Int), decide (x_1.snd < (↑(a0.Uses.getD x.snd.toNat default).Numbers.length : Int)) = decide (x_1.snd < (↑(a0.Uses.getD x.snd.toNat default).Numbers.length : Int)) ∧ (decide (x_1.snd < (↑(a0.Uses.getD x.snd.toNat default).Numbers.length : Int)) = true → 0 ≤ x_1.snd ∧ x_1.snd < (↑(a0.Uses.getD x.snd.toNat default).Numbers.length : Int) → (0 ≤ x_1.snd ∧ x_1.snd < (↑(a0.Uses.getD x.snd.toNat default).Numbers.length : Int)) ∧ (∀ (_y : Bool), true = true ∧ 0 ≤ 6) ∧ (decide ((a0.Uses.getD x.snd.toNat default).Numbers.getD x_1.snd.toNat default < 0) = decide ((a0.Uses.getD x.snd.toNat default).Numbers.getD x_1.snd.toNat default < 0) ∧ (decide ((a0.Uses.getD x.snd.toNat default).Numbers.getD x_1.snd.toNat default < 0) = true → (aS (AVal.ptr 0 0) ∧ aS (AVal.ptr 1 0) ∧ aS (AVal.ptr 3 0) ∧ aS (AVal.ptr 4 0) ∧ aS (aI ((a0.Uses.getD x.snd.toNat default).Numbers.getD x_1.snd.toNat default)) ∧ aS (AVal.pure (encL 3 enc_Use a0.Uses)) ∧ aS (aI (↑a0.Uses.length : Int)) ∧ aS (aI x.snd) ∧ aS (AVal.pure (encL 1 encI_i64 (a0.Uses.getD x.snd.toNat default).Numbers)) ∧ aS (aI (↑(a0.Uses.getD x.snd.toNat default).Numbers.length : Int)) ∧ aS (aI x_1.snd) ∧ ASub AVal.tt (AVal.pure (PVal.bool true)) ∧ True) ∧ (rS (Res.box [AVal.pure (encL 3 enc_arr_3_int64 a0.Table), AVal.pure (encL 3 enc_Use a0.Uses)]) ∧ rS (Res.box [AVal.vec 2]) ∧ rS (vecO 3 enc_Piece x.fst 45) ∧ rS (Res.box [AVal.ff]) ∧ rS (Res.box [aI (a0.Uses.getD x.snd.toNat default).Depth, aI (a0.Uses.getD x.snd.toNat default).Index, AVal.vec 5]) ∧ rS (vecO 3 enc_arr_3_int64 x_1.fst 39) ∧ True) ∧ aS (AVal.func 35 [] [AVal.ptr 1 0, AVal.ptr 3 0]) ∧ True) ∧ (decide ((a0.Uses.getD x.snd.toNat default).Numbers.getD x_1.snd.toNat default < 0) = false → (aS (AVal.ptr 0 0) ∧ aS (AVal.ptr 1 0) ∧ aS (AVal.ptr 3 0) ∧ aS (AVal.ptr 4 0) ∧ aS (aI ((a0.Uses.getD x.snd.toNat default).Numbers.getD x_1.snd.toNat default)) ∧ aS (AVal.pure (encL 3 enc_Use a0.Uses)) ∧ aS (aI (↑a0.Uses.length : Int)) ∧ aS (aI x.snd) ∧ aS (AVal.pure (encL 1 encI_i64 (a0.Uses.getD x.snd.toNat default).Numbers)) ∧ aS (aI (↑(a0.Uses.getD x.snd.toNat default).Numbers.length : Int)) ∧ aS (aI x_1.snd) ∧ aS (AVal.pure (PVal.bool (decide ((a0.Uses.getD x.snd.toNat default).Numbers.getD x_1.snd.toNat default ≥ (↑a0.Table.length : Int))))) ∧ True) ∧ (rS (Res.box [AVal.pure (encL 3 enc_arr_3_int64 a0.Table), AVal.pure (encL 3 enc_Use a0.Uses)]) ∧ rS (Res.box [AVal.vec 2]) ∧ rS (vecO 3 enc_Piece x.fst 45) ∧ rS (Res.box [AVal.ff]) ∧ rS (Res.box [aI (a0.Uses.getD x.snd.toNat default).Depth, aI (a0.Uses.getD x.snd.toNat default).Index, AVal.vec 5]) ∧ rS (vecO 3 enc_arr_3_int64 x_1.fst 39) ∧ True) ∧ aS (AVal.func 35 [] [AVal.ptr 1 0, AVal.ptr 3 0]) ∧ True)) ∧ ∀ (y : Bool), y = y ∧ (y = true → (ASub (AVal.pure (PVal.lst 0 0 fun (_x : Nat) => PVal.unk)) (AVal.pure (encL 3 enc_Piece nl)) ∧ aS (AVal.pure (PVal.bool false)) ∧ True) ∧ True ∧ GuardFn Try.prog 35 ∧ True) ∧ (y = false → 0 ≤ (a0.Uses.getD x.snd.toNat default).Numbers.getD x_1.snd.toNat default ∧ (a0.Uses.getD x.snd.toNat default).Numbers.getD x_1.snd.toNat default < (↑a0.Table.length : Int) → (0 ≤ (a0.Uses.getD x.snd.toNat default).Numbers.getD x_1.snd.toNat default ∧ (a0.Uses.getD x.snd.toNat default).Numbers.getD x_1.snd.toNat default < (↑a0.Table.length : Int)) ∧ ((x_1.fst.length + 1) * 24 ≤ 140737488355328 ∧ x_1.fst.length + 1 ≤ 9223372036854775807 → ((x_1.fst.length + 1) * 24 ≤ 140737488355328 ∧ x_1.fst.length + 1 ≤ 9223372036854775807) ∧ (aS (AVal.ptr 0 0) ∧ aS (AVal.ptr 1 0) ∧ aS (AVal.ptr 3 0) ∧ aS (AVal.ptr 4 0) ∧ aS (AVal.pure (encL 3 enc_Use a0.Uses)) ∧ aS (aI (↑a0.Uses.length : Int)) ∧ aS (aI x.snd) ∧ aS (AVal.pure (encL 1 encI_i64 (a0.Uses.getD x.snd.toNat default).Numbers)) ∧ aS (aI (↑(a0.Uses.getD x.snd.toNat default).Numbers.length : Int)) ∧ aS (aI (IntKind.i64.wrap (x_1.snd + 1))) ∧ True) ∧ (rS (Res.box [AVal.pure (encL 3 enc_arr_3_int64 a0.Table), AVal.pure (encL 3 enc_Use a0.Uses)]) ∧ rS (Res.box [AVal.vec 2]) ∧ rS (vecO 3 enc_Piece x.fst 45) ∧ rS (Res.box [AVal.ff]) ∧ rS (Res.box [aI (a0.Uses.getD x.snd.toNat default).Depth, aI (a0.Uses.getD x.snd.toNat default).Index, AVal.vec 518]) ∧ RSub (Res.vec 3 (x_1.fst.length + 1) (fun (a : Nat) => appF x_1.fst.length (el enc_arr_3_int64 x_1.fst) (lget [PVal.agg [PVal.int IntKind.i64 (a0.Table.getD ((a0.Uses.getD x.snd.toNat default).Numbers.getD x_1.snd.toNat default).toNat default).fst, PVal.int IntKind.i64 (a0.Table.getD ((a0.Uses.getD x.snd.toNat default).Numbers.getD x_1.snd.toNat default).toNat default).snd.fst, PVal.int IntKind.i64 (a0.Table.getD ((a0.Uses.getD x.snd.toNat default).Numbers.getD x_1.snd.toNat default).toNat default).snd.snd]]) a) 0 39) (vecO 3 enc_arr_3_int64 (x_1.fst ++ [a0.Table.getD ((a0.Uses.getD x.snd.toNat default).Numbers.getD x_1.snd.toNat default).toNat default]) 39) ∧ True) ∧ aS (AVal.func 35 [] [AVal.ptr 1 0, AVal.ptr 3 0]) ∧ True))) ∧ (decide (x_1.snd < (↑(a0.Uses.getD x.snd.toNat default).Numbers.length : Int)) = false → (aS (AVal.ptr 0 0) ∧ aS (AVal.ptr 1 0) ∧ aS (AVal.ptr 3 0) ∧ aS (AVal.ptr 4 0) ∧ aS (AVal.pure (encL 3 enc_Use a0.Uses)) ∧ aS (aI (↑a0.Uses.length : Int)) ∧ aS (aI x.snd) ∧ True) ∧ (rS (Res.box [AVal.pure (encL 3 enc_arr_3_int64 a0.Table), AVal.pure (encL 3 enc_Use a0.Uses)]) ∧ rS (Res.box [AVal.vec 2]) ∧ rS (vecO 3 enc_Piece x.fst 45) ∧ rS (Res.box [AVal.ff]) ∧ rS (Res.box [aI (a0.Uses.getD x.snd.toNat default).Depth, aI (a0.Uses.getD x.snd.toNat default).Index, AVal.vec 5]) ∧ rS (vecO 3 enc_arr_3_int64 x_1.fst 39) ∧ True) ∧ aS (AVal.func 35 [] [AVal.ptr 1 0, AVal.ptr 3 0]) ∧ True)) ∧ ∀ (y : List (Int × Int × Int)), (x.fst.length + 1) * 40 ≤ 140737488355328 ∧ x.fst.length + 1 ≤ 9223372036854775807 → ((x.fst.length + 1) * 40 ≤ 140737488355328 ∧ x.fst.length + 1 ≤ 9223372036854775807) ∧ (aS (AVal.ptr 0 0) ∧ aS (AVal.ptr 1 0) ∧ aS (AVal.ptr 3 0) ∧ aS (AVal.pure (encL 3 enc_Use a0.Uses)) ∧ aS (aI (↑a0.Uses.length : Int)) ∧ aS (aI (IntKind.i64.wrap (x.snd + 1))) ∧ True) ∧ (rS (Res.box [AVal.pure (encL 3 enc_arr_3_int64 a0.Table), AVal.pure (encL 3 enc_Use a0.Uses)]) ∧ rS (Res.box [AVal.vec 198]) ∧ RSub (Res.vec 3 (x.fst.length + 1) (fun (a : Nat) => appF x.fst.length (el enc_Piece x.fst) (lget [PVal.agg [PVal.int IntKind.i64 (a0.Uses.getD x.snd.toNat default).Depth, PVal.int IntKind.i64 (a0.Uses.getD x.snd.toNat default).Index, PVal.lst 3 y.length (el enc_arr_3_int64 y)]]) a) 0 45) (vecO 3 enc_Piece (x.fst ++ [S_Piece.mk (a0.Uses.getD x.snd.toNat default).Depth (a0.Uses.getD x.snd.toNat default).Index y]) 45) ∧ rS (Res.box [AVal.ff]) ∧ True) ∧ aS (AVal.func 35 [] [AVal.ptr 1 0, AVal.ptr 3 0]) ∧ True) ∧ (decide (x.snd < (↑a0.Uses.length : Int)) = false → (aS (AVal.ptr 1 0) ∧ aS (AVal.ptr 3 0) ∧ True) ∧ (rS (Res.box [AVal.vec 2]) ∧ rS (vecO 3 enc_Piece x.fst 45) ∧ rS (Res.box [AVal.ff]) ∧ True) ∧ aS (AVal.func 35 [] [AVal.ptr 1 0, AVal.ptr 3 0]) ∧ True)) ∧ ∀ (y : List S_Piece), (aS (AVal.pure (encL 3 enc_Piece y)) ∧ aS (AVal.pure (PVal.bool true)) ∧ True) ∧ True ∧ GuardFn Try.prog 35 ∧ True) := by kernel_rfl


set_option maxHeartbeats 4000000 in
theorem compact_Unpack_spec (hd : DrawSound Try.prog drawB) {N : Nat} {a0 : S_Packed} {r : ((List S_Piece) × Bool)} (h : compact_Unpack_F N a0 = some r) : Spec Try.prog 15 0 [.pure (.agg [encL 3 enc_arr_3_int64 a0.Table, encL 3 enc_Use a0.Uses])] [] (.tup [.pure (encL 3 enc_Piece r.1), .pure (.bool r.2)]) ([]) := by
  refine spec_ofT (n0 := 0) (res := fun r => .tup [.pure (encL 3 enc_Piece r.1), .pure (.bool r.2)]) (m' := fun _ => []) (compact_Unpack_T N a0) ((compact_Unpack_run N a0).trans h) hd Try.func15 (by kernel_rfl) (by kernel_rfl) ?_
  rw [compact_Unpack_vc]
  repeat' (first | exact trivial | exact ASub.refl _ | exact RSub.refl _ | exact guard35 | assumption | rfl | (apply And.intro) | (intro _) | exact nl_a | exact ASub.tt rfl | exact ASub.ff rfl | exact mapR_upE rfl | exact RSub.nilv rfl rfl | exact IsL.el | exact IsL.nl | exact IsL.lit (CSubs.of_eq rfl) rfl | refine IsL.lit ?_ rfl | exact IsL.rep (CSub.of_eq rfl) | refine IsL.a ?_ | refine IsL.r0 ?_ | refine IsL.r ?_ ?_ | refine IsL.app ?_ ?_ | refine IsL.set ?_ (CSub.of_eq rfl) | refine IsL.set ?_ ?_ | refine IsL.slice ?_ ?_ ?_ | refine IsL.take ?_ ?_ | exact CSubs.nil' | refine CSubs.cons' ?_ ?_ | exact CSub.refl _ | exact nl_c | refine CSub.agg ?_ | refine IsL.c ?_ | exact PSubs.nil' | refine PSubs.cons' ?_ ?_ | exact PSub.refl _ | exact nl_p | refine IsL.p ?_ | refine (PSub.agg ?_).a | refine PSub.agg ?_ | refine ASub.agg ?_ | refine RSub.box ?_ | refine tup_a ?_ | refine ASub.p ?_ | omega)

noncomputable def make_Same_api_Vec_F (N : Nat) (a0 : (List (Int × Int × Int))) (a1 : (List (Int × Int × Int))) : Option Bool :=
  bif (((a0.length : Nat) : Int) != ((a1.length : Nat) : Int)) then
   some false
  else
   andK (iter (fun (x5 : Int) => (
    bif (decide (x5 < ((a0.length : Nat) : Int))) then
     grd (0 ≤ x5 ∧ x5 < ((a0.length : Nat) : Int)) <|
     grd (0 ≤ x5 ∧ x5 < ((a1.length : Nat) : Int)) <|
     bif (!((((a0.getD ((x5).toNat) default).1) == ((a1.getD ((x5).toNat) default).1)) && ((((a0.getD ((x5).toNat) default).2.1) == ((a1.getD ((x5).toNat) default).2.1)) && ((((a0.getD ((x5).toNat) default).2.2) == ((a1.getD ((x5).toNat) default).2.2)) && true)))) then
      some (.fin false)
     else
      some (.next (IntKind.i64.wrap (x5 + 1)))
    else
     some (.out .u) : Option (Step3 Int U0 _))) N 0) fun _ =>
   some true

noncomputable def make_Same_api_Vec_T (_N : Nat) (a0 : (List (Int × Int × Int))) (a1 : (List (Int × Int × Int))) : T Bool :=
  .br (((a0.length : Nat) : Int) != ((a1.length : Nat) : Int))
   (.ret false)
   (.loop (fun (x5 : Int) => ⟨[(0, .pure (encL 3 enc_arr_3_int64 a0)), (1, .pure (encL 3 enc_arr_3_int64 a1)), (5, .pure (.int .i64 x5))], [], [], 0⟩)
    (.exit 0) (fun (_ : U0) => ⟨[], [], [], 0⟩)
    (fun x5 => .br (decide (x5 < ((a0.length : Nat) : Int)))
      (.grd (0 ≤ x5 ∧ x5 < ((a0.length : Nat) : Int)) <|
      .grd (0 ≤ x5 ∧ x5 < ((a1.length : Nat) : Int)) <|
      .br (!((((a0.getD ((x5).toNat) default).1) == ((a1.getD ((x5).toNat) default).1)) && ((((a0.getD ((x5).toNat) default).2.1) == ((a1.getD ((x5).toNat) default).2.1)) && ((((a0.getD ((x5).toNat) default).2.2) == ((a1.getD ((x5).toNat) default).2.2)) && true))))
       (.ret (.fin false))
       (.ret (.next (IntKind.i64.wrap (x5 + 1)))))
      (.ret (.out .u)))
    0 fun _ =>
   .ret true)

theorem make_Same_api_Vec_run (N : Nat) (a0 : (List (Int × Int × Int))) (a1 : (List (Int × Int × Int))) : (make_Same_api_Vec_T N a0 a1).run N = make_Same_api_Vec_F N a0 a1 := by kernel_rfl

theorem make_Same_api_Vec_vc (N : Nat) (a0 : (List (Int × Int × Int))) (a1 : (List (Int × Int × Int))) : (vcFuncT Try.prog drawB Try.f50 (Try.f50.body.getD .skip) 0 0 (make_Same_api_Vec_T N a0 a1) [.pure (encL 3 enc_arr_3_int64 a0), .pure (encL 3 enc_arr_3_int64 a1)] [] (fun r => .pure (.bool r)) (fun _ => [])) =
    (((↑a0.length : Int) != (↑a1.length : Int)) = ((↑a0.length : Int) != (↑a1.length : Int)) ∧ (((↑a0.length : Int) != (↑a1.length : Int)) = true → (aS (AVal.pure (PVal.bool false)) ∧ True) ∧ True ∧ True) ∧ (((↑a0.length : Int) != (↑a1.length : Int)) = false → (∀ (_x : Int), true = true ∧ 0 ≤ 0) ∧ (∀ (_y : U0), true = true ∧ 0 ≤ 0) ∧ ((aS (AVal.pure (encL 3 enc_arr_3_int64 a0)) ∧ aS (AVal.pure (encL 3 enc_arr_3_int64 a1)) ∧ aS (aI 0) ∧ True) ∧ True ∧ True) ∧ (∀ (x : Int), decide (x < (↑a0.length : Int)) = decide (x < (↑a0.length : Int)) ∧ (decide (x < (↑a0.length : Int)) = true → 0 ≤ x ∧ x < (↑a0.length : Int) → (0 ≤ x ∧ x < (↑a0.length : Int)) ∧ (0 ≤ x ∧ x < (↑a1.length : Int) → (0 ≤ x ∧ x < (↑a1.length : Int)) ∧ (!((a0.getD x.toNat default).fst == (a1.getD x.toNat default).fst && ((a0.getD x.toNat default).snd.fst == (a1.getD x.toNat default).snd.fst && ((a0.getD x.toNat default).snd.snd == (a1.getD x.toNat default).snd.snd && true)))) = !((a0.getD x.toNat default).fst == (a1.getD x.toNat default).fst && ((a0.getD x.toNat default).snd.fst == (a1.getD x.toNat default).snd.fst && ((a0.getD x.toNat default).snd.snd == (a1.getD x.toNat default).snd.snd && true))) ∧ ((!((a0.getD x.toNat default).fst == (a1.getD x.toNat default).fst && ((a0.getD x.toNat default).snd.fst == (a1.getD x.toNat default).snd.fst && ((a0.getD x.toNat default).snd.snd == (a1.getD x.toNat default).snd.snd && true)))) = true → (aS (AVal.pure (PVal.bool false)) ∧ True) ∧ True ∧ True) ∧ ((!((a0.getD x.toNat default).fst == (a1.getD x.toNat default).fst && ((a0.getD x.toNat default).snd.fst == (a1.getD x.toNat default).snd.fst && ((a0.getD x.toNat default).snd.snd == (a1.getD x.toNat default).snd.snd && true)))) = false → (aS (AVal.pure (encL 3 enc_arr_3_int64 a0)) ∧ aS (AVal.pure (encL 3 enc_arr_3_int64 a1)) ∧ aS (aI (IntKind.i64.wrap (x + 1))) ∧ True) ∧ True ∧ True))) ∧ (decide (x < (↑a0.length : Int)) = false → True ∧ True ∧ True)) ∧ ∀ (_y : U0), (aS (AVal.pure (PVal.bool true)) ∧ True) ∧ True ∧ True)) := by kernel_rfl


set_option maxHeartbeats 4000000 in
theorem make_Same_api_Vec_spec (hd : DrawSound Try.prog drawB) {N : Nat} {a0 : (List (Int × Int × Int))} {a1 : (List (Int × Int × Int))} {r : Bool} (h : make_Same_api_Vec_F N a0 a1 = some r) : Spec Try.prog 50 0 [.pure (encL 3 enc_arr_3_int64 a0), .pure (encL 3 enc_arr_3_int64 a1)] [] (.pure (.bool r)) ([]) := by
  refine spec_ofT (n0 := 0) (res := fun r => .pure (.bool r)) (m' := fun _ => []) (make_Same_api_Vec_T N a0 a1) ((make_Same_api_Vec_run N a0 a1).trans h) hd Try.func50 (by kernel_rfl) (by kernel_rfl) ?_
  rw [make_Same_api_Vec_vc]
  repeat' (first | exact trivial | exact ASub.refl _ | exact RSub.refl _ | assumption | rfl | (apply And.intro) | (intro _) | exact nl_a | exact ASub.tt rfl | exact ASub.ff rfl | exact mapR_upE rfl | exact RSub.nilv rfl rfl | exact IsL.el | exact IsL.nl | exact IsL.lit (CSubs.of_eq rfl) rfl | refine IsL.lit ?_ rfl | exact IsL.rep (CSub.of_eq rfl) | refine IsL.a ?_ | refine IsL.r0 ?_ | refine IsL.r ?_ ?_ | refine IsL.app ?_ ?_ | refine IsL.set ?_ (CSub.of_eq rfl) | refine IsL.set ?_ ?_ | refine IsL.slice ?_ ?_ ?_ | refine IsL.take ?_ ?_ | exact CSubs.nil' | refine CSubs.cons' ?_ ?_ | exact CSub.refl _ | exact nl_c | refine CSub.agg ?_ | refine IsL.c ?_ | exact PSubs.nil' | refine PSubs.cons' ?_ ?_ | exact PSub.refl _ | exact nl_p | refine IsL.p ?_ | refine (PSub.agg ?_).a | refine PSub.agg ?_ | refine ASub.agg ?_ | refine RSub.box ?_ | refine tup_a ?_ | refine ASub.p ?_ | omega)

noncomputable def make_SamePiece_F (N : Nat) (a0 : S_Piece) (a1 : S_Piece) : Option Bool :=
  bif (a0.Depth == a1.Depth) then
   bif (a0.Index == a1.Index) then
    (make_Same_api_Vec_F N a0.Normals a1.Normals).bind fun y1 =>
    some y1
   else
    some false
  else
   some false

noncomputable def make_SamePiece_T (N : Nat) (a0 : S_Piece) (a1 : S_Piece) : T Bool :=
  .br (a0.Depth == a1.Depth)
   (.br (a0.Index == a1.Index)
    (.call (make_Same_api_Vec_F N a0.Normals a1.Normals) (fun y1 => ⟨[], 0, [.pure (encL 3 enc_arr_3_int64 a0.Normals), .pure (encL 3 enc_arr_3_int64 a1.Normals)], [], .pure (.bool y1), []⟩) fun y1 =>
    .ret y1)
    (.ret false))
   (.ret false)

theorem make_SamePiece_run (N : Nat) (a0 : S_Piece) (a1 : S_Piece) : (make_SamePiece_T N a0 a1).run N = make_SamePiece_F N a0 a1 := by kernel_rfl

theorem make_SamePiece_vc (N : Nat) (a0 : S_Piece) (a1 : S_Piece) : (vcFuncT Try.prog drawB Try.f36 (Try.f36.body.getD .skip) 0 0 (make_SamePiece_T N a0 a1) [.pure (.agg [.int .i64 a0.Depth, .int .i64 a0.Index, encL 3 enc_arr_3_int64 a0.Normals]), .pure (.agg [.int .i64 a1.Depth, .int .i64 a1.Index, encL 3 enc_arr_3_int64 a1.Normals])] [] (fun r => .pure (.bool r)) (fun _ => [])) =
    ((a0.Depth == a1.Depth) = (a0.Depth == a1.Depth) ∧ ((a0.Depth == a1.Depth) = true → (a0.Index == a1.Index) = (a0.Index == a1.Index) ∧ ((a0.Index == a1.Index) = true → ∀ (y : Bool), make_Same_api_Vec_F N a0.Normals a1.Normals = some y → ((aS (AVal.pure (encL 3 enc_arr_3_int64 a0.Normals)) ∧ aS (AVal.pure (encL 3 enc_arr_3_int64 a1.Normals)) ∧ True) ∧ True ∧ Spec Try.prog 50 0 [AVal.pure (encL 3 enc_arr_3_int64 a0.Normals), AVal.pure (encL 3 enc_arr_3_int64 a1.Normals)] [] (AVal.pure (PVal.bool y)) []) ∧ (aS (AVal.pure (PVal.bool y)) ∧ True) ∧ True ∧ True) ∧ ((a0.Index == a1.Index) = false → (aS (AVal.pure (PVal.bool false)) ∧ True) ∧ True ∧ True)) ∧ ((a0.Depth == a1.Depth) = false → (aS (AVal.pure (PVal.bool false)) ∧ True) ∧ True ∧ True)) := by kernel_rfl


set_option maxHeartbeats 4000000 in
theorem make_SamePiece_spec (hd : DrawSound Try.prog drawB) {N : Nat} {a0 : S_Piece} {a1 : S_Piece} {r : Bool} (h : make_SamePiece_F N a0 a1 = some r) : Spec Try.prog 36 0 [.pure (.agg [.int .i64 a0.Depth, .int .i64 a0.Index, encL 3 enc_arr_3_int64 a0.Normals]), .pure (.agg [.int .i64 a1.Depth, .int .i64 a1.Index, encL 3 enc_arr_3_int64 a1.Normals])] [] (.pure (.bool r)) ([]) := by
  refine spec_ofT (n0 := 0) (res := fun r => .pure (.bool r)) (m' := fun _ => []) (make_SamePiece_T N a0 a1) ((make_SamePiece_run N a0 a1).trans h) hd Try.func36 (by kernel_rfl) (by kernel_rfl) ?_
  rw [make_SamePiece_vc]
  repeat' (first | exact trivial | exact ASub.refl _ | exact RSub.refl _ | exact make_Same_api_Vec_spec hd (by assumption) | assumption | rfl | (apply And.intro) | (intro _) | exact nl_a | exact ASub.tt rfl | exact ASub.ff rfl | exact mapR_upE rfl | exact RSub.nilv rfl rfl | exact IsL.el | exact IsL.nl | exact IsL.lit (CSubs.of_eq rfl) rfl | refine IsL.lit ?_ rfl | exact IsL.rep (CSub.of_eq rfl) | refine IsL.a ?_ | refine IsL.r0 ?_ | refine IsL.r ?_ ?_ | refine IsL.app ?_ ?_ | refine IsL.set ?_ (CSub.of_eq rfl) | refine IsL.set ?_ ?_ | refine IsL.slice ?_ ?_ ?_ | refine IsL.take ?_ ?_ | exact CSubs.nil' | refine CSubs.cons' ?_ ?_ | exact CSub.refl _ | exact nl_c | refine CSub.agg ?_ | refine IsL.c ?_ | exact PSubs.nil' | refine PSubs.cons' ?_ ?_ | exact PSub.refl _ | exact nl_p | refine IsL.p ?_ | refine (PSub.agg ?_).a | refine PSub.agg ?_ | refine ASub.agg ?_ | refine RSub.box ?_ | refine tup_a ?_ | refine ASub.p ?_ | omega)

noncomputable def make_SamePieces_F (N : Nat) (a0 : (List S_Piece)) (a1 : (List S_Piece)) : Option Bool :=
  bif (((a0.length : Nat) : Int) != ((a1.length : Nat) : Int)) then
   some false
  else
   andK (iter (fun (x21 : Int) => (
    bif (decide (x21 < ((a0.length : Nat) : Int))) then
     grd (0 ≤ x21 ∧ x21 < ((a0.length : Nat) : Int)) <|
     grd (0 ≤ x21 ∧ x21 < ((a1.length : Nat) : Int)) <|
     (make_SamePiece_F N (a0.getD ((x21).toNat) default) (a1.getD ((x21).toNat) default)).bind fun y30 =>
     bif (!y30) then
      some (.fin false)
     else
      some (.next (IntKind.i64.wrap (x21 + 1)))
    else
     some (.out .u) : Option (Step3 Int U0 _))) N 0) fun _ =>
   some true

noncomputable def make_SamePieces_T (N : Nat) (a0 : (List S_Piece)) (a1 : (List S_Piece)) : T Bool :=
  .br (((a0.length : Nat) : Int) != ((a1.length : Nat) : Int))
   (.ret false)
   (.loop (fun (x21 : Int) => ⟨[(0, .pure (encL 3 enc_Piece a0)), (1, .pure (encL 3 enc_Piece a1)), (5, .pure (.int .i64 x21))], [], [], 0⟩)
    (.exit 0) (fun (_ : U0) => ⟨[], [], [], 0⟩)
    (fun x21 => .br (decide (x21 < ((a0.length : Nat) : Int)))
      (.grd (0 ≤ x21 ∧ x21 < ((a0.length : Nat) : Int)) <|
      .grd (0 ≤ x21 ∧ x21 < ((a1.length : Nat) : Int)) <|
      .call (make_SamePiece_F N (a0.getD ((x21).toNat) default) (a1.getD ((x21).toNat) default)) (fun y30 => ⟨[], 0, [.pure (.agg [.int .i64 ((a0.getD ((x21).toNat) default).Depth), .int .i64 ((a0.getD ((x21).toNat) default).Index), encL 3 enc_arr_3_int64 ((a0.getD ((x21).toNat) default).Normals)]), .pure (.agg [.int .i64 ((a1.getD ((x21).toNat) default).Depth), .int .i64 ((a1.getD ((x21).toNat) default).Index), encL 3 enc_arr_3_int64 ((a1.getD ((x21).toNat) default).Normals)])], [], .pure (.bool y30), []⟩) fun y30 =>
      .br (!y30)
       (.ret (.fin false))
       (.ret (.next (IntKind.i64.wrap (x21 + 1)))))
      (.ret (.out .u)))
    0 fun _ =>
   .ret true)

theorem make_SamePieces_run (N : Nat) (a0 : (List S_Piece)) (a1 : (List S_Piece)) : (make_SamePieces_T N a0 a1).run N = make_SamePieces_F N a0 a1 := by kernel_rfl

theorem make_SamePieces_vc (N : Nat) (a0 : (List S_Piece)) (a1 : (List S_Piece)) : (vcFuncT Try.prog drawB Try.f16 (Try.f16.body.getD .skip) 0 0 (make_SamePieces_T N a0 a1) [.pure (encL 3 enc_Piece a0), .pure (encL 3 enc_Piece a1)] [] (fun r => .pure (.bool r)) (fun _ => [])) =
    (((↑a0.length : Int) != (↑a1.length : Int)) = ((↑a0.length : Int) != (↑a1.length : Int)) ∧ (((↑a0.length : Int) != (↑a1.length : Int)) = true → (aS (AVal.pure (PVal.bool false)) ∧ True) ∧ True ∧ True) ∧ (((↑a0.length : Int) != (↑a1.length : Int)) = false → (∀ (_x : Int), true = true ∧ 0 ≤ 0) ∧ (∀ (_y : U0), true = true ∧ 0 ≤ 0) ∧ ((aS (AVal.pure (encL 3 enc_Piece a0)) ∧ aS (AVal.pure (encL 3 enc_Piece a1)) ∧ aS (aI 0) ∧ True) ∧ True ∧ True) ∧ (∀ (x : Int), decide (x < (↑a0.length : Int)) = decide (x < (↑a0.length : Int)) ∧ (decide (x < (↑a0.length : Int)) = true → 0 ≤ x ∧ x < (↑a0.length : Int) → (0 ≤ x ∧ x < (↑a0.length : Int)) ∧ (0 ≤ x ∧ x < (↑a1.length : Int) → (0 ≤ x ∧ x < (↑a1.length : Int)) ∧ ∀ (y : Bool), make_SamePiece_F N (a0.getD x.toNat default) (a1.getD x.toNat default) = some y → ((aS (AVal.pure (PVal.agg [PVal.int IntKind.i64 (a0.getD x.toNat default).Depth, PVal.int IntKind.i64 (a0.getD x.toNat default).Index, encL 3 enc_arr_3_int64 (a0.getD x.toNat default).Normals])) ∧ aS (AVal.pure (PVal.agg [PVal.int IntKind.i64 (a1.getD x.toNat default).Depth, PVal.int IntKind.i64 (a1.getD x.toNat default).Index, encL 3 enc_arr_3_int64 (a1.getD x.toNat default).Normals])) ∧ True) ∧ True ∧ Spec Try.prog 36 0 [AVal.pure (PVal.agg [PVal.int IntKind.i64 (a0.getD x.toNat default).Depth, PVal.int IntKind.i64 (a0.getD x.toNat default).Index, encL 3 enc_arr_3_int64 (a0.getD x.toNat default).Normals]), AVal.pure (PVal.agg [PVal.int IntKind.i64 (a1.getD x.toNat default).Depth, PVal.int IntKind.i64 (a1.getD x.toNat default).Index, encL 3 enc_arr_3_int64 (a1.getD x.toNat default).Normals])] [] (AVal.pure (PVal.bool y)) []) ∧ (!y) = !y ∧ ((!y) = true → (aS (AVal.pure (PVal.bool false)) ∧ True) ∧ True ∧ True) ∧ ((!y) = false → (aS (AVal.pure (encL 3 enc_Piece a0)) ∧ aS (AVal.pure (encL 3 enc_Piece a1)) ∧ aS (aI (IntKind.i64.wrap (x + 1))) ∧ True) ∧ True ∧ True))) ∧ (decide (x < (↑a0.length : Int)) = false → True ∧ True ∧ True)) ∧ ∀ (_y : U0), (aS (AVal.pure (PVal.bool true)) ∧ True) ∧ True ∧ True)) := by kernel_rfl


set_option maxHeartbeats 4000000 in
theorem make_SamePieces_spec (hd : DrawSound Try.prog drawB) {N : Nat} {a0 : (List S_Piece)} {a1 : (List S_Piece)} {r : Bool} (h : make_SamePieces_F N a0 a1 = some r) : Spec Try.prog 16 0 [.pure (encL 3 enc_Piece a0), .pure (encL 3 enc_Piece a1)] [] (.pure (.bool r)) ([]) := by
  refine spec_ofT (n0 := 0) (res := fun r => .pure (.bool r)) (m' := fun _ => []) (make_SamePieces_T N a0 a1) ((make_SamePieces_run N a0 a1).trans h) hd Try.func16 (by kernel_rfl) (by kernel_rfl) ?_
  rw [make_SamePieces_vc]
  repeat' (first | exact trivial | exact ASub.refl _ | exact RSub.refl _ | exact make_SamePiece_spec hd (by assumption) | assumption | rfl | (apply And.intro) | (intro _) | exact nl_a | exact ASub.tt rfl | exact ASub.ff rfl | exact mapR_upE rfl | exact RSub.nilv rfl rfl | exact IsL.el | exact IsL.nl | exact IsL.lit (CSubs.of_eq rfl) rfl | refine IsL.lit ?_ rfl | exact IsL.rep (CSub.of_eq rfl) | refine IsL.a ?_ | refine IsL.r0 ?_ | refine IsL.r ?_ ?_ | refine IsL.app ?_ ?_ | refine IsL.set ?_ (CSub.of_eq rfl) | refine IsL.set ?_ ?_ | refine IsL.slice ?_ ?_ ?_ | refine IsL.take ?_ ?_ | exact CSubs.nil' | refine CSubs.cons' ?_ ?_ | exact CSub.refl _ | exact nl_c | refine CSub.agg ?_ | refine IsL.c ?_ | exact PSubs.nil' | refine PSubs.cons' ?_ ?_ | exact PSub.refl _ | exact nl_p | refine IsL.p ?_ | refine (PSub.agg ?_).a | refine PSub.agg ?_ | refine ASub.agg ?_ | refine RSub.box ?_ | refine tup_a ?_ | refine ASub.p ?_ | omega)

noncomputable def compact_Size_F (N : Nat) (a0 : S_Packed) : Option Int :=
  (fun z2 =>
  andK (iter (fun (x7 : (Int × Int)) => (
    bif (decide (x7.2 < ((a0.Uses.length : Nat) : Int))) then
     grd (0 ≤ x7.2 ∧ x7.2 < ((a0.Uses.length : Nat) : Int)) <|
     some (.next ((IntKind.i64.wrap (x7.1 + (((a0.Uses.getD ((x7.2).toNat) default).Numbers.length : Nat) : Int))), (IntKind.i64.wrap (x7.2 + 1))))
    else
     some (.out x7.1) : Option (Step3 (Int × Int) Int _))) N (z2, 0)) fun y8 =>
   some y8) ((IntKind.i64.wrap ((IntKind.i64.wrap (3 * ((a0.Table.length : Nat) : Int))) + (IntKind.i64.wrap (2 * ((a0.Uses.length : Nat) : Int))))))

noncomputable def compact_Size_T (_N : Nat) (a0 : S_Packed) : T Int :=
  .name 8 ((IntKind.i64.wrap ((IntKind.i64.wrap (3 * ((a0.Table.length : Nat) : Int))) + (IntKind.i64.wrap (2 * ((a0.Uses.length : Nat) : Int)))))) fun z2 =>
  .loop (fun (x7 : (Int × Int)) => ⟨[(2, .ptr 0 0), (16, .pure (encL 3 enc_Use a0.Uses)), (17, .pure (.int .i64 ((a0.Uses.length : Nat) : Int))), (18, .pure (.int .i64 x7.2))], [(0, .box [.pure (.int .i64 x7.1)])], [.func 37 [] [.ptr 0 0]], 1⟩)
   (.exit 0) (fun (y8 : Int) => ⟨[(2, .ptr 0 0)], [(0, .box [.pure (.int .i64 y8)])], [.func 37 [] [.ptr 0 0]], 1⟩)
   (fun x7 => .br (decide (x7.2 < ((a0.Uses.length : Nat) : Int)))
     (.grd (0 ≤ x7.2 ∧ x7.2 < ((a0.Uses.length : Nat) : Int)) <|
     .ret (.next ((IntKind.i64.wrap (x7.1 + (((a0.Uses.getD ((x7.2).toNat) default).Numbers.length : Nat) : Int))), (IntKind.i64.wrap (x7.2 + 1)))))
     (.ret (.out x7.1)))
   (z2, 0) fun y8 =>
  .ret y8

theorem compact_Size_run (N : Nat) (a0 : S_Packed) : (compact_Size_T N a0).run N = compact_Size_F N a0 := by kernel_rfl

theorem compact_Size_vc (N : Nat) (a0 : S_Packed) : (vcFuncT Try.prog drawB Try.f19 (Try.f19.body.getD .skip) 0 0 (compact_Size_T N a0) [.pure (.agg [encL 3 enc_arr_3_int64 a0.Table, encL 3 enc_Use a0.Uses])] [] (fun r => .pure (.int .i64 r)) (fun _ => [])) =
    (IntKind.i64.wrap (IntKind.i64.wrap (3 * (↑a0.Table.length : Int)) + IntKind.i64.wrap (2 * (↑a0.Uses.length : Int))) = IntKind.i64.wrap (IntKind.i64.wrap (3 * (↑a0.Table.length : Int)) + IntKind.i64.wrap (2 * (↑a0.Uses.length : Int))) ∧ ∀ (z : Int), (∀ (_x : Int × Int), true = true ∧ 0 ≤ 1) ∧ (∀ (_y : Int), true = true ∧ 0 ≤ 1) ∧ ((aS (AVal.ptr 64 0) ∧ aS (AVal.pure (encL 3 enc_Use a0.Uses)) ∧ aS (aI (↑a0.Uses.length : Int)) ∧ aS (aI 0) ∧ True) ∧ (rS (Res.box [aI z]) ∧ True) ∧ aS (AVal.func 37 [] [AVal.ptr 64 0]) ∧ True) ∧ (∀ (x : Int × Int), decide (x.snd < (↑a0.Uses.length : Int)) = decide (x.snd < (↑a0.Uses.length : Int)) ∧ (decide (x.snd < (↑a0.Uses.length : Int)) = true → 0 ≤ x.snd ∧ x.snd < (↑a0.Uses.length : Int) → (0 ≤ x.snd ∧ x.snd < (↑a0.Uses.length : Int)) ∧ (aS (AVal.ptr 0 0) ∧ aS (AVal.pure (encL 3 enc_Use a0.Uses)) ∧ aS (aI (↑a0.Uses.length : Int)) ∧ aS (aI (IntKind.i64.wrap (x.snd + 1))) ∧ True) ∧ (rS (Res.box [aI (IntKind.i64.wrap (x.fst + (↑(a0.Uses.getD x.snd.toNat default).Numbers.length : Int)))]) ∧ True) ∧ aS (AVal.func 37 [] [AVal.ptr 0 0]) ∧ True) ∧ (decide (x.snd < (↑a0.Uses.length : Int)) = false → (aS (AVal.ptr 0 0) ∧ True) ∧ (rS (Res.box [aI x.fst]) ∧ True) ∧ aS (AVal.func 37 [] [AVal.ptr 0 0]) ∧ True)) ∧ ∀ (y : Int), (aS (aI y) ∧ True) ∧ True ∧ GuardFn Try.prog 37 ∧ True) := by kernel_rfl


set_option maxHeartbeats 4000000 in
theorem compact_Size_spec (hd : DrawSound Try.prog drawB) {N : Nat} {a0 : S_Packed} {r : Int} (h : compact_Size_F N a0 = some r) : Spec Try.prog 19 0 [.pure (.agg [encL 3 enc_arr_3_int64 a0.Table, encL 3 enc_Use a0.Uses])] [] (.pure (.int .i64 r)) ([]) := by
  refine spec_ofT (n0 := 0) (res := fun r => .pure (.int .i64 r)) (m' := fun _ => []) (compact_Size_T N a0) ((compact_Size_run N a0).trans h) hd Try.func19 (by kernel_rfl) (by kernel_rfl) ?_
  rw [compact_Size_vc]
  repeat' (first | exact trivial | exact ASub.refl _ | exact RSub.refl _ | exact guard37 | assumption | rfl | (apply And.intro) | (intro _) | exact nl_a | exact ASub.tt rfl | exact ASub.ff rfl | exact mapR_upE rfl | exact RSub.nilv rfl rfl | exact IsL.el | exact IsL.nl | exact IsL.lit (CSubs.of_eq rfl) rfl | refine IsL.lit ?_ rfl | exact IsL.rep (CSub.of_eq rfl) | refine IsL.a ?_ | refine IsL.r0 ?_ | refine IsL.r ?_ ?_ | refine IsL.app ?_ ?_ | refine IsL.set ?_ (CSub.of_eq rfl) | refine IsL.set ?_ ?_ | refine IsL.slice ?_ ?_ ?_ | refine IsL.take ?_ ?_ | exact CSubs.nil' | refine CSubs.cons' ?_ ?_ | exact CSub.refl _ | exact nl_c | refine CSub.agg ?_ | refine IsL.c ?_ | exact PSubs.nil' | refine PSubs.cons' ?_ ?_ | exact PSub.refl _ | exact nl_p | refine IsL.p ?_ | refine (PSub.agg ?_).a | refine PSub.agg ?_ | refine ASub.agg ?_ | refine RSub.box ?_ | refine tup_a ?_ | refine ASub.p ?_ | omega)

noncomputable def law21_awake_F (N : Nat) : Option Bool :=
  (compact_Pack_F N ([(⟨1, 0, ([(7, 0, 0)] : (List (Int × Int × Int)))⟩ : S_Piece), (⟨1, 1, ([(7, 0, 0)] : (List (Int × Int × Int)))⟩ : S_Piece)] : (List S_Piece))).bind fun y2 =>
  (compact_Unpack_F N y2).bind fun y4 =>
  bif (((y2.Table.length : Nat) : Int) == 1) then
   bif (((y2.Uses.length : Nat) : Int) == 2) then
    bif y4.2 then
     (make_SamePieces_F N y4.1 ([(⟨1, 0, ([(7, 0, 0)] : (List (Int × Int × Int)))⟩ : S_Piece), (⟨1, 1, ([(7, 0, 0)] : (List (Int × Int × Int)))⟩ : S_Piece)] : (List S_Piece))).bind fun y5 =>
     bif y5 then
      (compact_Size_F N (⟨y2.Table, y2.Uses⟩ : S_Packed)).bind fun y6 =>
      some (y6 == 9)
     else
      some false
    else
     some false
   else
    some false
  else
   some false

noncomputable def law21_awake_T (N : Nat) : T Bool :=
  .call (compact_Pack_F N ([(⟨1, 0, ([(7, 0, 0)] : (List (Int × Int × Int)))⟩ : S_Piece), (⟨1, 1, ([(7, 0, 0)] : (List (Int × Int × Int)))⟩ : S_Piece)] : (List S_Piece))) (fun y2 => ⟨[], 0, [.pure (encL 3 enc_Piece ([(⟨1, 0, ([(7, 0, 0)] : (List (Int × Int × Int)))⟩ : S_Piece), (⟨1, 1, ([(7, 0, 0)] : (List (Int × Int × Int)))⟩ : S_Piece)] : (List S_Piece)))], [], .pure (.agg [encL 3 enc_arr_3_int64 y2.Table, encL 3 enc_Use y2.Uses]), []⟩) fun y2 =>
  .call (compact_Unpack_F N y2) (fun y4 => ⟨[], 0, [.pure (.agg [encL 3 enc_arr_3_int64 y2.Table, encL 3 enc_Use y2.Uses])], [], .tup [.pure (encL 3 enc_Piece y4.1), .pure (.bool y4.2)], []⟩) fun y4 =>
  .br (((y2.Table.length : Nat) : Int) == 1)
   (.br (((y2.Uses.length : Nat) : Int) == 2)
    (.br y4.2
     (.call (make_SamePieces_F N y4.1 ([(⟨1, 0, ([(7, 0, 0)] : (List (Int × Int × Int)))⟩ : S_Piece), (⟨1, 1, ([(7, 0, 0)] : (List (Int × Int × Int)))⟩ : S_Piece)] : (List S_Piece))) (fun y5 => ⟨[], 0, [.pure (encL 3 enc_Piece y4.1), .pure (encL 3 enc_Piece ([(⟨1, 0, ([(7, 0, 0)] : (List (Int × Int × Int)))⟩ : S_Piece), (⟨1, 1, ([(7, 0, 0)] : (List (Int × Int × Int)))⟩ : S_Piece)] : (List S_Piece)))], [], .pure (.bool y5), []⟩) fun y5 =>
     .br y5
      (.call (compact_Size_F N (⟨y2.Table, y2.Uses⟩ : S_Packed)) (fun y6 => ⟨[], 0, [.pure (.agg [encL 3 enc_arr_3_int64 ((⟨y2.Table, y2.Uses⟩ : S_Packed).Table), encL 3 enc_Use ((⟨y2.Table, y2.Uses⟩ : S_Packed).Uses)])], [], .pure (.int .i64 y6), []⟩) fun y6 =>
      .ret (y6 == 9))
      (.ret false))
     (.ret false))
    (.ret false))
   (.ret false)

theorem law21_awake_run (N : Nat) : (law21_awake_T N).run N = law21_awake_F N := by kernel_rfl

theorem law21_awake_vc (N : Nat) : (vcFuncT Try.prog drawB Try.f11 (Try.f11.body.getD .skip) 0 0 (law21_awake_T N) [] [] (fun r => .pure (.bool r)) (fun _ => [])) =
    (∀ (y : S_Packed), compact_Pack_F N [S_Piece.mk 1 0 [(7, 0, 0)], S_Piece.mk 1 1 [(7, 0, 0)]] = some y → ((ASub (AVal.pure (PVal.lst 3 2 fun (i : Nat) => lget [PVal.agg [PVal.int IntKind.i64 1, PVal.int IntKind.i64 0, PVal.lst 3 1 (lget [PVal.agg [PVal.int IntKind.i64 7, PVal.int IntKind.i64 0, PVal.int IntKind.i64 0]])], PVal.agg [PVal.int IntKind.i64 1, PVal.int IntKind.i64 1, PVal.lst 3 1 (lget [PVal.agg [PVal.int IntKind.i64 7, PVal.int IntKind.i64 0, PVal.int IntKind.i64 0]])]] i)) (AVal.pure (encL 3 enc_Piece [S_Piece.mk 1 0 [(7, 0, 0)], S_Piece.mk 1 1 [(7, 0, 0)]])) ∧ True) ∧ True ∧ Spec Try.prog 14 0 [AVal.pure (encL 3 enc_Piece [S_Piece.mk 1 0 [(7, 0, 0)], S_Piece.mk 1 1 [(7, 0, 0)]])] [] (AVal.pure (PVal.agg [encL 3 enc_arr_3_int64 y.Table, encL 3 enc_Use y.Uses])) []) ∧ ∀ (y_1 : List S_Piece × Bool), compact_Unpack_F N y = some y_1 → ((aS (AVal.pure (PVal.agg [encL 3 enc_arr_3_int64 y.Table, encL 3 enc_Use y.Uses])) ∧ True) ∧ True ∧ Spec Try.prog 15 0 [AVal.pure (PVal.agg [encL 3 enc_arr_3_int64 y.Table, encL 3 enc_Use y.Uses])] [] (AVal.tup [AVal.pure (encL 3 enc_Piece y_1.fst), AVal.pure (PVal.bool y_1.snd)]) []) ∧ ((↑y.Table.length : Int) == 1) = ((↑y.Table.length : Int) == 1) ∧ (((↑y.Table.length : Int) == 1) = true → ((↑y.Uses.length : Int) == 2) = ((↑y.Uses.length : Int) == 2) ∧ (((↑y.Uses.length : Int) == 2) = true → y_1.snd = y_1.snd ∧ (y_1.snd = true → ∀ (y_2 : Bool), make_SamePieces_F N y_1.fst [S_Piece.mk 1 0 [(7, 0, 0)], S_Piece.mk 1 1 [(7, 0, 0)]] = some y_2 → ((aS (AVal.pure (encL 3 enc_Piece y_1.fst)) ∧ ASub (AVal.pure (PVal.lst 3 2 fun (i : Nat) => lget [PVal.agg [PVal.int IntKind.i64 1, PVal.int IntKind.i64 0, PVal.lst 3 1 (lget [PVal.agg [PVal.int IntKind.i64 7, PVal.int IntKind.i64 0, PVal.int IntKind.i64 0]])], PVal.agg [PVal.int IntKind.i64 1, PVal.int IntKind.i64 1, PVal.lst 3 1 (lget [PVal.agg [PVal.int IntKind.i64 7, PVal.int IntKind.i64 0, PVal.int IntKind.i64 0]])]] i)) (AVal.pure (encL 3 enc_Piece [S_Piece.mk 1 0 [(7, 0, 0)], S_Piece.mk 1 1 [(7, 0, 0)]])) ∧ True) ∧ True ∧ Spec Try.prog 16 0 [AVal.pure (encL 3 enc_Piece y_1.fst), AVal.pure (encL 3 enc_Piece [S_Piece.mk 1 0 [(7, 0, 0)], S_Piece.mk 1 1 [(7, 0, 0)]])] [] (AVal.pure (PVal.bool y_2)) []) ∧ y_2 = y_2 ∧ (y_2 = true → ∀ (y_3 : Int), compact_Size_F N (S_Packed.mk y.Table y.Uses) = some y_3 → ((aS (AVal.pure (PVal.agg [encL 3 enc_arr_3_int64 y.Table, encL 3 enc_Use y.Uses])) ∧ True) ∧ True ∧ Spec Try.prog 19 0 [AVal.pure (PVal.agg [encL 3 enc_arr_3_int64 y.Table, encL 3 enc_Use y.Uses])] [] (aI y_3) []) ∧ (aS (AVal.pure (PVal.bool (y_3 == 9))) ∧ True) ∧ True ∧ True) ∧ (y_2 = false → (aS (AVal.pure (PVal.bool false)) ∧ True) ∧ True ∧ True)) ∧ (y_1.snd = false → (aS (AVal.pure (PVal.bool false)) ∧ True) ∧ True ∧ True)) ∧ (((↑y.Uses.length : Int) == 2) = false → (aS (AVal.pure (PVal.bool false)) ∧ True) ∧ True ∧ True)) ∧ (((↑y.Table.length : Int) == 1) = false → (aS (AVal.pure (PVal.bool false)) ∧ True) ∧ True ∧ True)) := by kernel_rfl


set_option maxHeartbeats 4000000 in
theorem law21_awake_spec (hd : DrawSound Try.prog drawB) {N : Nat} {r : Bool} (h : law21_awake_F N = some r) : Spec Try.prog 11 0 [] [] (.pure (.bool r)) ([]) := by
  refine spec_ofT (n0 := 0) (res := fun r => .pure (.bool r)) (m' := fun _ => []) (law21_awake_T N) ((law21_awake_run N).trans h) hd Try.func11 (by kernel_rfl) (by kernel_rfl) ?_
  rw [law21_awake_vc]
  repeat' (first | exact trivial | exact ASub.refl _ | exact RSub.refl _ | exact compact_Pack_spec hd (by assumption) | exact compact_Unpack_spec hd (by assumption) | exact make_SamePieces_spec hd (by assumption) | exact compact_Size_spec hd (by assumption) | assumption | rfl | (apply And.intro) | (intro _) | exact nl_a | exact ASub.tt rfl | exact ASub.ff rfl | exact mapR_upE rfl | exact RSub.nilv rfl rfl | exact IsL.el | exact IsL.nl | exact IsL.lit (CSubs.of_eq rfl) rfl | refine IsL.lit ?_ rfl | exact IsL.rep (CSub.of_eq rfl) | refine IsL.a ?_ | refine IsL.r0 ?_ | refine IsL.r ?_ ?_ | refine IsL.app ?_ ?_ | refine IsL.set ?_ (CSub.of_eq rfl) | refine IsL.set ?_ ?_ | refine IsL.slice ?_ ?_ ?_ | refine IsL.take ?_ ?_ | exact CSubs.nil' | refine CSubs.cons' ?_ ?_ | exact CSub.refl _ | exact nl_c | refine CSub.agg ?_ | refine IsL.c ?_ | exact PSubs.nil' | refine PSubs.cons' ?_ ?_ | exact PSub.refl _ | exact nl_p | refine IsL.p ?_ | refine (PSub.agg ?_).a | refine PSub.agg ?_ | refine ASub.agg ?_ | refine RSub.box ?_ | refine tup_a ?_ | refine ASub.p ?_ | omega)

noncomputable def ref19_Unpack_F (N : Nat) (a0 : S_Packed) : Option ((List S_Piece) × Bool) :=
  andK (iter (fun (x245 : ((List S_Piece) × Int)) => (
   bif (decide (x245.2 < ((a0.Uses.length : Nat) : Int))) then
    grd (0 ≤ x245.2 ∧ x245.2 < ((a0.Uses.length : Nat) : Int)) <|
    andK (iter (fun (x357 : ((List (Int × Int × Int)) × Int)) => (
     bif (decide (x357.2 < (((a0.Uses.getD ((x245.2).toNat) default).Numbers.length : Nat) : Int))) then
      andC (
       grd (0 ≤ x357.2 ∧ x357.2 < (((a0.Uses.getD ((x245.2).toNat) default).Numbers.length : Nat) : Int)) <|
       bif (decide ((((a0.Uses.getD ((x245.2).toNat) default).Numbers).getD ((x357.2).toNat) default) < 0)) then
        some (.out true)
       else
        grd (0 ≤ x357.2 ∧ x357.2 < (((a0.Uses.getD ((x245.2).toNat) default).Numbers.length : Nat) : Int)) <|
        some (.out (decide ((((a0.Uses.getD ((x245.2).toNat) default).Numbers).getD ((x357.2).toNat) default) ≥ ((a0.Table.length : Nat) : Int)))) : Option (Step3 Unit Bool _)) fun y366 =>
      bif y366 then
       some (.fin (.fin (nl, false)))
      else
       grd (0 ≤ x357.2 ∧ x357.2 < (((a0.Uses.getD ((x245.2).toNat) default).Numbers.length : Nat) : Int)) <|
       grd (0 ≤ (((a0.Uses.getD ((x245.2).toNat) default).Numbers).getD ((x357.2).toNat) default) ∧ (((a0.Uses.getD ((x245.2).toNat) default).Numbers).getD ((x357.2).toNat) default) < ((a0.Table.length : Nat) : Int)) <|
       grd ((x357.1.length + 1) * 24 ≤ 140737488355328 ∧ (x357.1.length + 1) ≤ maxLen) <|
       some (.next ((x357.1 ++ ([(a0.Table.getD (((((a0.Uses.getD ((x245.2).toNat) default).Numbers).getD ((x357.2).toNat) default)).toNat) default)] : (List (Int × Int × Int)))), (IntKind.i64.wrap (x357.2 + 1))))
     else
      some (.out x357.1) : Option (Step3 ((List (Int × Int × Int)) × Int) (List (Int × Int × Int)) _))) N (nl, 0)) fun y362 =>
    grd ((x245.1.length + 1) * 40 ≤ 140737488355328 ∧ (x245.1.length + 1) ≤ maxLen) <|
    some (.next ((x245.1 ++ ([(⟨(a0.Uses.getD ((x245.2).toNat) default).Depth, (a0.Uses.getD ((x245.2).toNat) default).Index, y362⟩ : S_Piece)] : (List S_Piece))), (IntKind.i64.wrap (x245.2 + 1))))
   else
    some (.out x245.1) : Option (Step3 ((List S_Piece) × Int) (List S_Piece) _))) N (nl, 0)) fun y306 =>
  some (y306, true)

noncomputable def ref19_Unpack_T (_N : Nat) (a0 : S_Packed) : T ((List S_Piece) × Bool) :=
  .loop (fun (x245 : ((List S_Piece) × Int)) => ⟨[(1, .ptr 0 0), (4, .vec 1), (5, .pure (.int .i64 x245.2))], [(0, .box [.pure (encL 3 enc_arr_3_int64 a0.Table), .pure (encL 3 enc_Use a0.Uses)]), (1, vecO 3 enc_Piece x245.1 45)], [], 2⟩)
   (.exit 0) (fun (y306 : (List S_Piece)) => ⟨[(4, .vec 0)], [(0, vecO 3 enc_Piece y306 45)], [], 1⟩)
   (fun x245 => .br (decide (x245.2 < ((a0.Uses.length : Nat) : Int)))
     (.grd (0 ≤ x245.2 ∧ x245.2 < ((a0.Uses.length : Nat) : Int)) <|
     .loop (fun (x357 : ((List (Int × Int × Int)) × Int)) => ⟨[(1, .ptr 0 0), (4, .vec 1), (5, .pure (.int .i64 x245.2)), (6, .ptr 2 0), (7, .ptr 3 0), (8, .pure (.int .i64 x357.2))], [(0, .box [.pure (encL 3 enc_arr_3_int64 a0.Table), .pure (encL 3 enc_Use a0.Uses)]), (1, vecO 3 enc_Piece x245.1 45), (2, .box [.pure (.int .i64 ((a0.Uses.getD ((x245.2).toNat) default).Depth)), .pure (.int .i64 ((a0.Uses.getD ((x245.2).toNat) default).Index)), .pure (encL 1 encI_i64 ((a0.Uses.getD ((x245.2).toNat) default).Numbers))]), (3, .box [.pure (.int .i64 ((a0.Uses.getD ((x245.2).toNat) default).Depth)), .pure (.int .i64 ((a0.Uses.getD ((x245.2).toNat) default).Index)), .vec 4]), (4, vecO 3 enc_arr_3_int64 x357.1 39)], [], 5⟩)
      (.exit 2) (fun (y362 : (List (Int × Int × Int))) => ⟨[(1, .ptr 0 0), (4, .vec 1), (5, .pure (.int .i64 x245.2)), (7, .ptr 2 0)], [(0, .box [.pure (encL 3 enc_arr_3_int64 a0.Table), .pure (encL 3 enc_Use a0.Uses)]), (1, vecO 3 enc_Piece x245.1 45), (2, .box [.pure (.int .i64 ((a0.Uses.getD ((x245.2).toNat) default).Depth)), .pure (.int .i64 ((a0.Uses.getD ((x245.2).toNat) default).Index)), .vec 3]), (3, vecO 3 enc_arr_3_int64 y362 39)], [], 4⟩)
      (fun x357 => .br (decide (x357.2 < (((a0.Uses.getD ((x245.2).toNat) default).Numbers.length : Nat) : Int)))
        (.cut 2 (fun (y366 : Bool) => ⟨[(1, .ptr 0 0), (4, .vec 1), (5, .pure (.int .i64 x245.2)), (6, .ptr 2 0), (7, .ptr 3 0), (8, .pure (.int .i64 x357.2)), (49, .pure (.bool y366))], [(0, .box [.pure (encL 3 enc_arr_3_int64 a0.Table), .pure (encL 3 enc_Use a0.Uses)]), (1, vecO 3 enc_Piece x245.1 45), (2, .box [.pure (.int .i64 ((a0.Uses.getD ((x245.2).toNat) default).Depth)), .pure (.int .i64 ((a0.Uses.getD ((x245.2).toNat) default).Index)), .pure (encL 1 encI_i64 ((a0.Uses.getD ((x245.2).toNat) default).Numbers))]), (3, .box [.pure (.int .i64 ((a0.Uses.getD ((x245.2).toNat) default).Depth)), .pure (.int .i64 ((a0.Uses.getD ((x245.2).toNat) default).Index)), .vec 4]), (4, vecO 3 enc_arr_3_int64 x357.1 39)], [], 5⟩)
         (.grd (0 ≤ x357.2 ∧ x357.2 < (((a0.Uses.getD ((x245.2).toNat) default).Numbers.length : Nat) : Int)) <|
         .br (decide ((((a0.Uses.getD ((x245.2).toNat) default).Numbers).getD ((x357.2).toNat) default) < 0))
          (.ret (.out true))
          (.grd (0 ≤ x357.2 ∧ x357.2 < (((a0.Uses.getD ((x245.2).toNat) default).Numbers.length : Nat) : Int)) <|
          .ret (.out (decide ((((a0.Uses.getD ((x245.2).toNat) default).Numbers).getD ((x357.2).toNat) default) ≥ ((a0.Table.length : Nat) : Int)))))) fun y366 =>
        .br y366
         (.ret (.fin (.fin (nl, false))))
         (.grd (0 ≤ x357.2 ∧ x357.2 < (((a0.Uses.getD ((x245.2).toNat) default).Numbers.length : Nat) : Int)) <|
         .grd (0 ≤ (((a0.Uses.getD ((x245.2).toNat) default).Numbers).getD ((x357.2).toNat) default) ∧ (((a0.Uses.getD ((x245.2).toNat) default).Numbers).getD ((x357.2).toNat) default) < ((a0.Table.length : Nat) : Int)) <|
         .grd ((x357.1.length + 1) * 24 ≤ 140737488355328 ∧ (x357.1.length + 1) ≤ maxLen) <|
         .ret (.next ((x357.1 ++ ([(a0.Table.getD (((((a0.Uses.getD ((x245.2).toNat) default).Numbers).getD ((x357.2).toNat) default)).toNat) default)] : (List (Int × Int × Int)))), (IntKind.i64.wrap (x357.2 + 1))))))
        (.ret (.out x357.1)))
      (nl, 0) fun y362 =>
     .grd ((x245.1.length + 1) * 40 ≤ 140737488355328 ∧ (x245.1.length + 1) ≤ maxLen) <|
     .ret (.next ((x245.1 ++ ([(⟨(a0.Uses.getD ((x245.2).toNat) default).Depth, (a0.Uses.getD ((x245.2).toNat) default).Index, y362⟩ : S_Piece)] : (List S_Piece))), (IntKind.i64.wrap (x245.2 + 1)))))
     (.ret (.out x245.1)))
   (nl, 0) fun y306 =>
  .ret (y306, true)

theorem ref19_Unpack_run (N : Nat) (a0 : S_Packed) : (ref19_Unpack_T N a0).run N = ref19_Unpack_F N a0 := by kernel_rfl

theorem ref19_Unpack_vc (N : Nat) (a0 : S_Packed) : (vcFuncT Try.prog drawB Try.f30 (Try.f30.body.getD .skip) 0 0 (ref19_Unpack_T N a0) [.pure (.agg [encL 3 enc_arr_3_int64 a0.Table, encL 3 enc_Use a0.Uses])] [] (fun r => .tup [.pure (encL 3 enc_Piece r.1), .pure (.bool r.2)]) (fun _ => [])) =
    ((∀ (_x : List S_Piece × Int), true = true ∧ 0 ≤ 2) ∧ (∀ (_y : List S_Piece), true = true ∧ 0 ≤ 1) ∧ ((aS (AVal.ptr 0 0) ∧ aS (AVal.vec 192) ∧ aS (aI 0) ∧ True) ∧ (rS (Res.box [AVal.pure (encL 3 enc_arr_3_int64 a0.Table), AVal.pure (encL 3 enc_Use a0.Uses)]) ∧ RSub Res.nilv (vecO 3 enc_Piece nl 45) ∧ True) ∧ True) ∧ (∀ (x : List S_Piece × Int), decide (x.snd < (↑a0.Uses.length : Int)) = decide (x.snd < (↑a0.Uses.length : Int)) ∧ (decide (x.snd < (↑a0.Uses.length : Int)) = true → 0 ≤ x.snd ∧ x.snd < (↑a0.Uses.length : Int) → (0 ≤ x.snd ∧ x.snd < (↑a0.Uses.length : Int)) ∧ (∀ (_x : List (Int × Int × Int) × Int), true = true ∧ 0 ≤ 5) ∧ (∀ (_y : List (Int × Int × Int)), true = true ∧ 0 ≤ 4) ∧ ((aS (AVal.ptr 0 0) ∧ aS (AVal.vec 1) ∧ aS (aI x.snd) ∧ aS (AVal.ptr 642 0) ∧ aS (AVal.ptr 1090 0) ∧ aS (aI 0) ∧ True) ∧ (rS (Res.box [AVal.pure (encL 3 enc_arr_3_int64 a0.Table), AVal.pure (encL 3 enc_Use a0.Uses)]) ∧ rS (vecO 3 enc_Piece x.fst 45) ∧ rS (Res.box [aI (a0.Uses.getD x.snd.toNat default).Depth, aI (a0.Uses.getD x.snd.toNat default).Index, AVal.pure (encL 1 encI_i64 (a0.Uses.getD x.snd.toNat default).Numbers)]) ∧ rS (Res.box [aI (a0.Uses.getD x.snd.toNat default).Depth, aI (a0.Uses.getD x.snd.toNat default).Index, AVal.vec 1028]) ∧ RSub Res.nilv (vecO 3 enc_arr_3_int64 nl 39) ∧ True) ∧ True) ∧ (∀ (x_1 : List (Int × Int × Int) × Int), decide (x_1.snd < (↑(a0.Uses.getD x.snd.toNat default).Numbers.length : Int)) = decide (x_1.snd < (↑(a0.Uses.getD x.snd.toNat default).Numbers.length : Int)) ∧ (decide (x_1.snd < (↑(a0.Uses.getD x.snd.toNat default).Numbers.length : Int)) = true → (∀ (_y : Bool), true = true ∧ 0 ≤ 5) ∧ (0 ≤ x_1.snd ∧ x_1.snd < (↑(a0.Uses.getD x.snd.toNat default).Numbers.length : Int) → (0 ≤ x_1.snd ∧ x_1.snd < (↑(a0.Uses.getD x.snd.toNat default).Numbers.length : Int)) ∧ decide ((a0.Uses.getD x.snd.toNat default).Numbers.getD x_1.snd.toNat default < 0) = decide ((a0.Uses.getD x.snd.toNat default).Numbers.getD x_1.snd.toNat default < 0) ∧ (decide ((a0.Uses.getD x.snd.toNat default).Numbers.getD x_1.snd.toNat default < 0) = true → (aS (AVal.ptr 0 0) ∧ aS (AVal.vec 1) ∧ aS (aI x.snd) ∧ aS (AVal.ptr 2 0) ∧ aS (AVal.ptr 3 0) ∧ aS (aI x_1.snd) ∧ ASub AVal.tt (AVal.pure (PVal.bool true)) ∧ True) ∧ (rS (Res.box [AVal.pure (encL 3 enc_arr_3_int64 a0.Table), AVal.pure (encL 3 enc_Use a0.Uses)]) ∧ rS (vecO 3 enc_Piece x.fst 45) ∧ rS (Res.box [aI (a0.Uses.getD x.snd.toNat default).Depth, aI (a0.Uses.getD x.snd.toNat default).Index, AVal.pure (encL 1 encI_i64 (a0.Uses.getD x.snd.toNat default).Numbers)]) ∧ rS (Res.box [aI (a0.Uses.getD x.snd.toNat default).Depth, aI (a0.Uses.getD x.snd.toNat default).Index, AVal.vec 4]) ∧ rS (vecO 3 enc_arr_3_int64 x_1.fst 39) ∧ True) ∧ True) ∧ (decide ((a0.Uses.getD x.snd.toNat default).Numbers.getD x_1.snd.toNat default < 0) = false → 0 ≤ x_1.snd ∧ x_1.snd < (↑(a0.Uses.getD x.snd.toNat default).Numbers.length : Int) → (0 ≤ x_1.snd ∧ x_1.snd < (↑(a0.Uses.getD x.snd.toNat default).Numbers.length : Int)) ∧ (aS (AVal.ptr 0 0) ∧ aS (AVal.vec 1) ∧ aS (aI x.snd) ∧ aS (AVal.ptr 2 0) ∧ aS (AVal.ptr 3 0) ∧ aS (aI x_1.snd) ∧ aS (AVal.pure (PVal.bool (decide ((a0.Uses.getD x.snd.toNat default).Numbers.getD x_1.snd.toNat default ≥ (↑a0.Table.length : Int))))) ∧ True) ∧ (rS (Res.box [AVal.pure (encL 3 enc_arr_3_int64 a0.Table), AVal.pure (encL 3 enc_Use a0.Uses)]) ∧ rS (vecO 3 enc_Piece x.fst 45) ∧ rS (Res.box [aI (a0.Uses.getD x.snd.toNat default).Depth, aI (a0.Uses.getD x.snd.toNat default).Index, AVal.pure (encL 1 encI_i64 (a0.Uses.getD x.snd.toNat default).Numbers)]) ∧ rS (Res.box [aI (a0.Uses.getD x.snd.toNat default).Depth, aI (a0.Uses.getD x.snd.toNat default).Index, AVal.vec 4]) ∧ rS (vecO 3 enc_arr_3_int64 x_1.fst 39) ∧ True) ∧ True)) ∧ ∀ (y : Bool), y = y ∧ (y = true → (ASub (AVal.pure (PVal.lst 0 0 fun (_x : Nat) => PVal.unk)) (AVal.pure (encL 3 enc_Piece nl)) ∧ aS (AVal.pure (PVal.bool false)) ∧ True) ∧ True ∧ True) ∧ (y = false → 0 ≤ x_1.snd ∧ x_1.snd < (↑(a0.Uses.getD x.snd.toNat default).Numbers.length : Int) → (0 ≤ x_1.snd ∧ x_1.snd < (↑(a0.Uses.getD x.snd.toNat default).Numbers.length : Int)) ∧ (0 ≤ (a0.Uses.getD x.snd.toNat default).Numbers.getD x_1.snd.toNat default ∧ (a0.Uses.getD x.snd.toNat default).Numbers.getD x_1.snd.toNat default < (↑a0.Table.length : Int) → (0 ≤ (a0.Uses.getD x.snd.toNat default).Numbers.getD x_1.snd.toNat default ∧ (a0.Uses.getD x.snd.toNat default).Numbers.getD x_1.snd.toNat default < (↑a0.Table.length : Int)) ∧ ((x_1.fst.length + 1) * 24 ≤ 140737488355328 ∧ x_1.fst.length + 1 ≤ 9223372036854775807 → ((x_1.fst.length + 1) * 24 ≤ 140737488355328 ∧ x_1.fst.length + 1 ≤ 9223372036854775807) ∧ (aS (AVal.ptr 0 0) ∧ aS (AVal.vec 1) ∧ aS (aI x.snd) ∧ aS (AVal.ptr 2 0) ∧ aS (AVal.ptr 3 0) ∧ aS (aI (IntKind.i64.wrap (x_1.snd + 1))) ∧ True) ∧ (rS (Res.box [AVal.pure (encL 3 enc_arr_3_int64 a0.Table), AVal.pure (encL 3 enc_Use a0.Uses)]) ∧ rS (vecO 3 enc_Piece x.fst 45) ∧ rS (Res.box [aI (a0.Uses.getD x.snd.toNat default).Depth, aI (a0.Uses.getD x.snd.toNat default).Index, AVal.pure (encL 1 encI_i64 (a0.Uses.getD x.snd.toNat default).Numbers)]) ∧ rS (Res.box [aI (a0.Uses.getD x.snd.toNat default).Depth, aI (a0.Uses.getD x.snd.toNat default).Index, AVal.vec 773]) ∧ RSub (Res.vec 3 (x_1.fst.length + 1) (fun (a : Nat) => appF x_1.fst.length (el enc_arr_3_int64 x_1.fst) (lget [PVal.agg [PVal.int IntKind.i64 (a0.Table.getD ((a0.Uses.getD x.snd.toNat default).Numbers.getD x_1.snd.toNat default).toNat default).fst, PVal.int IntKind.i64 (a0.Table.getD ((a0.Uses.getD x.snd.toNat default).Numbers.getD x_1.snd.toNat default).toNat default).snd.fst, PVal.int IntKind.i64 (a0.Table.getD ((a0.Uses.getD x.snd.toNat default).Numbers.getD x_1.snd.toNat default).toNat default).snd.snd]]) a) 0 39) (vecO 3 enc_arr_3_int64 (x_1.fst ++ [a0.Table.getD ((a0.Uses.getD x.snd.toNat default).Numbers.getD x_1.snd.toNat default).toNat default]) 39) ∧ True) ∧ True)))) ∧ (decide (x_1.snd < (↑(a0.Uses.getD x.snd.toNat default).Numbers.length : Int)) = false → (aS (AVal.ptr 0 0) ∧ aS (AVal.vec 1) ∧ aS (aI x.snd) ∧ aS (AVal.ptr 3 0) ∧ True) ∧ (rS (Res.box [AVal.pure (encL 3 enc_arr_3_int64 a0.Table), AVal.pure (encL 3 enc_Use a0.Uses)]) ∧ rS (vecO 3 enc_Piece x.fst 45) ∧ rS (Res.box [aI (a0.Uses.getD x.snd.toNat default).Depth, aI (a0.Uses.getD x.snd.toNat default).Index, AVal.vec 4]) ∧ rS (vecO 3 enc_arr_3_int64 x_1.fst 39) ∧ True) ∧ True)) ∧ ∀ (y : List (Int × Int × Int)), (x.fst.length + 1) * 40 ≤ 140737488355328 ∧ x.fst.length + 1 ≤ 9223372036854775807 → ((x.fst.length + 1) * 40 ≤ 140737488355328 ∧ x.fst.length + 1 ≤ 9223372036854775807) ∧ (aS (AVal.ptr 0 0) ∧ aS (AVal.vec 196) ∧ aS (aI (IntKind.i64.wrap (x.snd + 1))) ∧ True) ∧ (rS (Res.box [AVal.pure (encL 3 enc_arr_3_int64 a0.Table), AVal.pure (encL 3 enc_Use a0.Uses)]) ∧ RSub (Res.vec 3 (x.fst.length + 1) (fun (a : Nat) => appF x.fst.length (el enc_Piece x.fst) (lget [PVal.agg [PVal.int IntKind.i64 (a0.Uses.getD x.snd.toNat default).Depth, PVal.int IntKind.i64 (a0.Uses.getD x.snd.toNat default).Index, PVal.lst 3 y.length (el enc_arr_3_int64 y)]]) a) 0 45) (vecO 3 enc_Piece (x.fst ++ [S_Piece.mk (a0.Uses.getD x.snd.toNat default).Depth (a0.Uses.getD x.snd.toNat default).Index y]) 45) ∧ True) ∧ True) ∧ (decide (x.snd < (↑a0.Uses.length : Int)) = false → (aS (AVal.vec 1) ∧ True) ∧ (rS (vecO 3 enc_Piece x.fst 45) ∧ True) ∧ True)) ∧ ∀ (y : List S_Piece), (aS (AVal.pure (encL 3 enc_Piece y)) ∧ aS (AVal.pure (PVal.bool true)) ∧ True) ∧ True ∧ True) := by kernel_rfl


set_option maxHeartbeats 4000000 in
theorem ref19_Unpack_spec (hd : DrawSound Try.prog drawB) {N : Nat} {a0 : S_Packed} {r : ((List S_Piece) × Bool)} (h : ref19_Unpack_F N a0 = some r) : Spec Try.prog 30 0 [.pure (.agg [encL 3 enc_arr_3_int64 a0.Table, encL 3 enc_Use a0.Uses])] [] (.tup [.pure (encL 3 enc_Piece r.1), .pure (.bool r.2)]) ([]) := by
  refine spec_ofT (n0 := 0) (res := fun r => .tup [.pure (encL 3 enc_Piece r.1), .pure (.bool r.2)]) (m' := fun _ => []) (ref19_Unpack_T N a0) ((ref19_Unpack_run N a0).trans h) hd Try.func30 (by kernel_rfl) (by kernel_rfl) ?_
  rw [ref19_Unpack_vc]
  repeat' (first | exact trivial | exact ASub.refl _ | exact RSub.refl _ | assumption | rfl | (apply And.intro) | (intro _) | exact nl_a | exact ASub.tt rfl | exact ASub.ff rfl | exact mapR_upE rfl | exact RSub.nilv rfl rfl | exact IsL.el | exact IsL.nl | exact IsL.lit (CSubs.of_eq rfl) rfl | refine IsL.lit ?_ rfl | exact IsL.rep (CSub.of_eq rfl) | refine IsL.a ?_ | refine IsL.r0 ?_ | refine IsL.r ?_ ?_ | refine IsL.app ?_ ?_ | refine IsL.set ?_ (CSub.of_eq rfl) | refine IsL.set ?_ ?_ | refine IsL.slice ?_ ?_ ?_ | refine IsL.take ?_ ?_ | exact CSubs.nil' | refine CSubs.cons' ?_ ?_ | exact CSub.refl _ | exact nl_c | refine CSub.agg ?_ | refine IsL.c ?_ | exact PSubs.nil' | refine PSubs.cons' ?_ ?_ | exact PSub.refl _ | exact nl_p | refine IsL.p ?_ | refine (PSub.agg ?_).a | refine PSub.agg ?_ | refine ASub.agg ?_ | refine RSub.box ?_ | refine tup_a ?_ | refine ASub.p ?_ | omega)

noncomputable def ref19_number_F (N : Nat) (a0 : (List (Int × Int × Int))) (a1 : (Int × Int × Int)) : Option Int :=
  andK (iter (fun (x5 : Int) => (
   bif (decide (x5 < ((a0.length : Nat) : Int))) then
    grd (0 ≤ x5 ∧ x5 < ((a0.length : Nat) : Int)) <|
    bif ((((a0.getD ((x5).toNat) default).1) == a1.1) && ((((a0.getD ((x5).toNat) default).2.1) == a1.2.1) && ((((a0.getD ((x5).toNat) default).2.2) == a1.2.2) && true))) then
     some (.fin x5)
    else
     some (.next (IntKind.i64.wrap (x5 + 1)))
   else
    some (.out .u) : Option (Step3 Int U0 _))) N 0) fun _ =>
  some (-1)

noncomputable def ref19_number_T (_N : Nat) (a0 : (List (Int × Int × Int))) (a1 : (Int × Int × Int)) : T Int :=
  .loop (fun (x5 : Int) => ⟨[(0, .pure (encL 3 enc_arr_3_int64 a0)), (3, .ptr 0 0), (5, .pure (.int .i64 x5))], [(0, .box [.pure (.int .i64 a1.1), .pure (.int .i64 a1.2.1), .pure (.int .i64 a1.2.2)])], [], 1⟩)
   (.exit 0) (fun (_ : U0) => ⟨[], [], [], 0⟩)
   (fun x5 => .br (decide (x5 < ((a0.length : Nat) : Int)))
     (.grd (0 ≤ x5 ∧ x5 < ((a0.length : Nat) : Int)) <|
     .br ((((a0.getD ((x5).toNat) default).1) == a1.1) && ((((a0.getD ((x5).toNat) default).2.1) == a1.2.1) && ((((a0.getD ((x5).toNat) default).2.2) == a1.2.2) && true)))
      (.ret (.fin x5))
      (.ret (.next (IntKind.i64.wrap (x5 + 1)))))
     (.ret (.out .u)))
   0 fun _ =>
  .ret (-1)

theorem ref19_number_run (N : Nat) (a0 : (List (Int × Int × Int))) (a1 : (Int × Int × Int)) : (ref19_number_T N a0 a1).run N = ref19_number_F N a0 a1 := by kernel_rfl

theorem ref19_number_vc (N : Nat) (a0 : (List (Int × Int × Int))) (a1 : (Int × Int × Int)) : (vcFuncT Try.prog drawB Try.f33 (Try.f33.body.getD .skip) 0 0 (ref19_number_T N a0 a1) [.pure (encL 3 enc_arr_3_int64 a0), .pure (.agg [.int .i64 a1.1, .int .i64 a1.2.1, .int .i64 a1.2.2])] [] (fun r => .pure (.int .i64 r)) (fun _ => [])) =
    ((∀ (_x : Int), true = true ∧ 0 ≤ 1) ∧ (∀ (_y : U0), true = true ∧ 0 ≤ 0) ∧ ((aS (AVal.pure (encL 3 enc_arr_3_int64 a0)) ∧ aS (AVal.ptr 0 0) ∧ aS (aI 0) ∧ True) ∧ (rS (Res.box [aI a1.fst, aI a1.snd.fst, aI a1.snd.snd]) ∧ True) ∧ True) ∧ (∀ (x : Int), decide (x < (↑a0.length : Int)) = decide (x < (↑a0.length : Int)) ∧ (decide (x < (↑a0.length : Int)) = true → 0 ≤ x ∧ x < (↑a0.length : Int) → (0 ≤ x ∧ x < (↑a0.length : Int)) ∧ ((a0.getD x.toNat default).fst == a1.fst && ((a0.getD x.toNat default).snd.fst == a1.snd.fst && ((a0.getD x.toNat default).snd.snd == a1.snd.snd && true))) = ((a0.getD x.toNat default).fst == a1.fst && ((a0.getD x.toNat default).snd.fst == a1.snd.fst && ((a0.getD x.toNat default).snd.snd == a1.snd.snd && true))) ∧ (((a0.getD x.toNat default).fst == a1.fst && ((a0.getD x.toNat default).snd.fst == a1.snd.fst && ((a0.getD x.toNat default).snd.snd == a1.snd.snd && true))) = true → (aS (aI x) ∧ True) ∧ True ∧ True) ∧ (((a0.getD x.toNat default).fst == a1.fst && ((a0.getD x.toNat default).snd.fst == a1.snd.fst && ((a0.getD x.toNat default).snd.snd == a1.snd.snd && true))) = false → (aS (AVal.pure (encL 3 enc_arr_3_int64 a0)) ∧ aS (AVal.ptr 0 0) ∧ aS (aI (IntKind.i64.wrap (x + 1))) ∧ True) ∧ (rS (Res.box [aI a1.fst, aI a1.snd.fst, aI a1.snd.snd]) ∧ True) ∧ True)) ∧ (decide (x < (↑a0.length : Int)) = false → True ∧ True ∧ True)) ∧ ∀ (_y : U0), (aS (aI (-1)) ∧ True) ∧ True ∧ True) := by kernel_rfl


set_option maxHeartbeats 4000000 in
theorem ref19_number_spec (hd : DrawSound Try.prog drawB) {N : Nat} {a0 : (List (Int × Int × Int))} {a1 : (Int × Int × Int)} {r : Int} (h : ref19_number_F N a0 a1 = some r) : Spec Try.prog 33 0 [.pure (encL 3 enc_arr_3_int64 a0), .pure (.agg [.int .i64 a1.1, .int .i64 a1.2.1, .int .i64 a1.2.2])] [] (.pure (.int .i64 r)) ([]) := by
  refine spec_ofT (n0 := 0) (res := fun r => .pure (.int .i64 r)) (m' := fun _ => []) (ref19_number_T N a0 a1) ((ref19_number_run N a0 a1).trans h) hd Try.func33 (by kernel_rfl) (by kernel_rfl) ?_
  rw [ref19_number_vc]
  repeat' (first | exact trivial | exact ASub.refl _ | exact RSub.refl _ | assumption | rfl | (apply And.intro) | (intro _) | exact nl_a | exact ASub.tt rfl | exact ASub.ff rfl | exact mapR_upE rfl | exact RSub.nilv rfl rfl | exact IsL.el | exact IsL.nl | exact IsL.lit (CSubs.of_eq rfl) rfl | refine IsL.lit ?_ rfl | exact IsL.rep (CSub.of_eq rfl) | refine IsL.a ?_ | refine IsL.r0 ?_ | refine IsL.r ?_ ?_ | refine IsL.app ?_ ?_ | refine IsL.set ?_ (CSub.of_eq rfl) | refine IsL.set ?_ ?_ | refine IsL.slice ?_ ?_ ?_ | refine IsL.take ?_ ?_ | exact CSubs.nil' | refine CSubs.cons' ?_ ?_ | exact CSub.refl _ | exact nl_c | refine CSub.agg ?_ | refine IsL.c ?_ | exact PSubs.nil' | refine PSubs.cons' ?_ ?_ | exact PSub.refl _ | exact nl_p | refine IsL.p ?_ | refine (PSub.agg ?_).a | refine PSub.agg ?_ | refine ASub.agg ?_ | refine RSub.box ?_ | refine tup_a ?_ | refine ASub.p ?_ | omega)

noncomputable def ref19_Pack_F (N : Nat) (a0 : (List S_Piece)) : Option S_Packed :=
  andK (iter (fun (x397 : ((List (Int × Int × Int)) × (List S_Use) × Int)) => (
   bif (decide (x397.2.2 < ((a0.length : Nat) : Int))) then
    grd (0 ≤ x397.2.2 ∧ x397.2.2 < ((a0.length : Nat) : Int)) <|
    grd (0 ≤ x397.2.2 ∧ x397.2.2 < ((a0.length : Nat) : Int)) <|
    andK (iter (fun (x553 : ((List (Int × Int × Int)) × (List Int) × Int)) => (
     grd (0 ≤ x397.2.2 ∧ x397.2.2 < ((a0.length : Nat) : Int)) <|
     bif (decide (x553.2.2 < (((a0.getD ((x397.2.2).toNat) default).Normals.length : Nat) : Int))) then
      grd (0 ≤ x397.2.2 ∧ x397.2.2 < ((a0.length : Nat) : Int)) <|
      grd (0 ≤ x553.2.2 ∧ x553.2.2 < (((a0.getD ((x397.2.2).toNat) default).Normals.length : Nat) : Int)) <|
      (ref19_number_F N x553.1 (((a0.getD ((x397.2.2).toNat) default).Normals).getD ((x553.2.2).toNat) default)).bind fun y565 =>
      andC (
       bif (decide (y565 < 0)) then
        grd (0 ≤ x397.2.2 ∧ x397.2.2 < ((a0.length : Nat) : Int)) <|
        grd (0 ≤ x553.2.2 ∧ x553.2.2 < (((a0.getD ((x397.2.2).toNat) default).Normals.length : Nat) : Int)) <|
        grd ((x553.1.length + 1) * 24 ≤ 140737488355328 ∧ (x553.1.length + 1) ≤ maxLen) <|
        some (.out ((x553.1 ++ ([(((a0.getD ((x397.2.2).toNat) default).Normals).getD ((x553.2.2).toNat) default)] : (List (Int × Int × Int)))), ((x553.1.length : Nat) : Int)))
       else
        some (.out (x553.1, y565)) : Option (Step3 Unit ((List (Int × Int × Int)) × Int) _)) fun y566 =>
      grd ((x553.2.1.length + 1) * 8 ≤ 140737488355328 ∧ (x553.2.1.length + 1) ≤ maxLen) <|
      some (.next (y566.1, (x553.2.1 ++ ([y566.2] : (List Int))), (IntKind.i64.wrap (x553.2.2 + 1))))
     else
      some (.out (x553.1, x553.2.1)) : Option (Step3 ((List (Int × Int × Int)) × (List Int) × Int) ((List (Int × Int × Int)) × (List Int)) _))) N (x397.1, nl, 0)) fun y560 =>
    grd ((x397.2.1.length + 1) * 40 ≤ 140737488355328 ∧ (x397.2.1.length + 1) ≤ maxLen) <|
    some (.next (y560.1, (x397.2.1 ++ ([(⟨(a0.getD ((x397.2.2).toNat) default).Depth, (a0.getD ((x397.2.2).toNat) default).Index, y560.2⟩ : S_Use)] : (List S_Use))), (IntKind.i64.wrap (x397.2.2 + 1))))
   else
    some (.out (x397.1, x397.2.1)) : Option (Step3 ((List (Int × Int × Int)) × (List S_Use) × Int) ((List (Int × Int × Int)) × (List S_Use)) _))) N (nl, nl, 0)) fun y482 =>
  some (⟨y482.1, y482.2⟩ : S_Packed)

noncomputable def ref19_Pack_T (N : Nat) (a0 : (List S_Piece)) : T S_Packed :=
  .loop (fun (x397 : ((List (Int × Int × Int)) × (List S_Use) × Int)) => ⟨[(0, .pure (encL 3 enc_Piece a0)), (2, .ptr 0 0), (3, .ptr 3 0), (4, .pure (.int .i64 x397.2.2))], [(0, .box [.vec 1, .vec 2]), (1, .nilv), (2, .nilv), (3, .box [.vec 4, .vec 5]), (4, vecS 3 enc_arr_3_int64 x397.1 39), (5, vecO 3 enc_Use x397.2.1 37)], [], 6⟩)
   (.exit 0) (fun (y482 : ((List (Int × Int × Int)) × (List S_Use))) => ⟨[(2, .ptr 0 0), (3, .ptr 3 0)], [(0, .box [.vec 1, .vec 2]), (1, .nilv), (2, .nilv), (3, .box [.vec 4, .vec 5]), (4, vecS 3 enc_arr_3_int64 y482.1 39), (5, vecO 3 enc_Use y482.2 37)], [], 6⟩)
   (fun x397 => .br (decide (x397.2.2 < ((a0.length : Nat) : Int)))
     (.grd (0 ≤ x397.2.2 ∧ x397.2.2 < ((a0.length : Nat) : Int)) <|
     .grd (0 ≤ x397.2.2 ∧ x397.2.2 < ((a0.length : Nat) : Int)) <|
     .loop (fun (x553 : ((List (Int × Int × Int)) × (List Int) × Int)) => ⟨[(0, .pure (encL 3 enc_Piece a0)), (2, .ptr 0 0), (3, .ptr 3 0), (4, .pure (.int .i64 x397.2.2)), (5, .ptr 6 0), (6, .pure (.int .i64 x553.2.2))], [(0, .box [.vec 1, .vec 2]), (1, .nilv), (2, .nilv), (3, .box [.vec 4, .vec 5]), (4, vecS 3 enc_arr_3_int64 x553.1 39), (5, vecO 3 enc_Use x397.2.1 37), (6, .box [.pure (.int .i64 ((a0.getD ((x397.2.2).toNat) default).Depth)), .pure (.int .i64 ((a0.getD ((x397.2.2).toNat) default).Index)), .vec 7]), (7, vecO 1 encI_i64 x553.2.1 3)], [], 8⟩)
      (.exit 2) (fun (y560 : ((List (Int × Int × Int)) × (List Int))) => ⟨[(0, .pure (encL 3 enc_Piece a0)), (2, .ptr 0 0), (3, .ptr 3 0), (4, .pure (.int .i64 x397.2.2)), (5, .ptr 6 0)], [(0, .box [.vec 1, .vec 2]), (1, .nilv), (2, .nilv), (3, .box [.vec 4, .vec 5]), (4, vecS 3 enc_arr_3_int64 y560.1 39), (5, vecO 3 enc_Use x397.2.1 37), (6, .box [.pure (.int .i64 ((a0.getD ((x397.2.2).toNat) default).Depth)), .pure (.int .i64 ((a0.getD ((x397.2.2).toNat) default).Index)), .vec 7]), (7, vecO 1 encI_i64 y560.2 3)], [], 8⟩)
      (fun x553 => .grd (0 ≤ x397.2.2 ∧ x397.2.2 < ((a0.length : Nat) : Int)) <|
       .br (decide (x553.2.2 < (((a0.getD ((x397.2.2).toNat) default).Normals.length : Nat) : Int)))
        (.grd (0 ≤ x397.2.2 ∧ x397.2.2 < ((a0.length : Nat) : Int)) <|
        .grd (0 ≤ x553.2.2 ∧ x553.2.2 < (((a0.getD ((x397.2.2).toNat) default).Normals.length : Nat) : Int)) <|
        .call (ref19_number_F N x553.1 (((a0.getD ((x397.2.2).toNat) default).Normals).getD ((x553.2.2).toNat) default)) (fun y565 => ⟨[], 0, [.pure (encL 3 enc_arr_3_int64 x553.1), .pure (.agg [.int .i64 ((((a0.getD ((x397.2.2).toNat) default).Normals).getD ((x553.2.2).toNat) default).1), .int .i64 ((((a0.getD ((x397.2.2).toNat) default).Normals).getD ((x553.2.2).toNat) default).2.1), .int .i64 ((((a0.getD ((x397.2.2).toNat) default).Normals).getD ((x553.2.2).toNat) default).2.2)])], [], .pure (.int .i64 y565), []⟩) fun y565 =>
        .cut 0 (fun (y566 : ((List (Int × Int × Int)) × Int)) => ⟨[(0, .pure (encL 3 enc_Piece a0)), (2, .ptr 0 0), (3, .ptr 3 0), (4, .pure (.int .i64 x397.2.2)), (5, .ptr 6 0), (6, .pure (.int .i64 x553.2.2)), (7, .pure (.int .i64 y566.2))], [(0, .box [.vec 1, .vec 2]), (1, .nilv), (2, .nilv), (3, .box [.vec 4, .vec 5]), (4, vecS 3 enc_arr_3_int64 y566.1 39), (5, vecO 3 enc_Use x397.2.1 37), (6, .box [.pure (.int .i64 ((a0.getD ((x397.2.2).toNat) default).Depth)), .pure (.int .i64 ((a0.getD ((x397.2.2).toNat) default).Index)), .vec 7]), (7, vecO 1 encI_i64 x553.2.1 3)], [], 8⟩)
         (.br (decide (y565 < 0))
          (.grd (0 ≤ x397.2.2 ∧ x397.2.2 < ((a0.length : Nat) : Int)) <|
          .grd (0 ≤ x553.2.2 ∧ x553.2.2 < (((a0.getD ((x397.2.2).toNat) default).Normals.length : Nat) : Int)) <|
          .grd ((x553.1.length + 1) * 24 ≤ 140737488355328 ∧ (x553.1.length + 1) ≤ maxLen) <|
          .ret (.out ((x553.1 ++ ([(((a0.getD ((x397.2.2).toNat) default).Normals).getD ((x553.2.2).toNat) default)] : (List (Int × Int × Int)))), ((x553.1.length : Nat) : Int))))
          (.ret (.out (x553.1, y565)))) fun y566 =>
        .grd ((x553.2.1.length + 1) * 8 ≤ 140737488355328 ∧ (x553.2.1.length + 1) ≤ maxLen) <|
        .ret (.next (y566.1, (x553.2.1 ++ ([y566.2] : (List Int))), (IntKind.i64.wrap (x553.2.2 + 1)))))
        (.ret (.out (x553.1, x553.2.1))))
      (x397.1, nl, 0) fun y560 =>
     .grd ((x397.2.1.length + 1) * 40 ≤ 140737488355328 ∧ (x397.2.1.length + 1) ≤ maxLen) <|
     .ret (.next (y560.1, (x397.2.1 ++ ([(⟨(a0.getD ((x397.2.2).toNat) default).Depth, (a0.getD ((x397.2.2).toNat) default).Index, y560.2⟩ : S_Use)] : (List S_Use))), (IntKind.i64.wrap (x397.2.2 + 1)))))
     (.ret (.out (x397.1, x397.2.1))))
   (nl, nl, 0) fun y482 =>
  .ret (⟨y482.1, y482.2⟩ : S_Packed)

theorem ref19_Pack_run (N : Nat) (a0 : (List S_Piece)) : (ref19_Pack_T N a0).run N = ref19_Pack_F N a0 := by kernel_rfl

theorem ref19_Pack_vc (N : Nat) (a0 : (List S_Piece)) : (vcFuncT Try.prog drawB Try.f13 (Try.f13.body.getD .skip) 0 0 (ref19_Pack_T N a0) [.pure (encL 3 enc_Piece a0)] [] (fun r => .pure (.agg [encL 3 enc_arr_3_int64 r.Table, encL 3 enc_Use r.Uses])) (fun _ => [])) =
    ((∀ (_x : List (Int × Int × Int) × List S_Use × Int), true = true ∧ 0 ≤ 6) ∧ (∀ (_y : List (Int × Int × Int) × List S_Use), true = true ∧ 0 ≤ 6) ∧ ((aS (AVal.pure (encL 3 enc_Piece a0)) ∧ aS (AVal.ptr 0 0) ∧ aS (AVal.ptr 64 0) ∧ aS (aI 0) ∧ True) ∧ (rS (Res.box [AVal.vec 1, AVal.vec 2]) ∧ rS Res.nilv ∧ rS Res.nilv ∧ rS (Res.box [AVal.vec 65, AVal.vec 66]) ∧ RSub Res.nilv (vecO 3 enc_arr_3_int64 nl 39) ∧ RSub Res.nilv (vecO 3 enc_Use nl 37) ∧ True) ∧ True) ∧ (∀ (x : List (Int × Int × Int) × List S_Use × Int), decide (x.snd.snd < (↑a0.length : Int)) = decide (x.snd.snd < (↑a0.length : Int)) ∧ (decide (x.snd.snd < (↑a0.length : Int)) = true → 0 ≤ x.snd.snd ∧ x.snd.snd < (↑a0.length : Int) → (0 ≤ x.snd.snd ∧ x.snd.snd < (↑a0.length : Int)) ∧ (0 ≤ x.snd.snd ∧ x.snd.snd < (↑a0.length : Int) → (0 ≤ x.snd.snd ∧ x.snd.snd < (↑a0.length : Int)) ∧ (∀ (_x : List (Int × Int × Int) × List Int × Int), true = true ∧ 0 ≤ 8) ∧ (∀ (_y : List (Int × Int × Int) × List Int), true = true ∧ 0 ≤ 8) ∧ ((aS (AVal.pure (encL 3 enc_Piece a0)) ∧ aS (AVal.ptr 0 0) ∧ aS (AVal.ptr 3 0) ∧ aS (aI x.snd.snd) ∧ aS (AVal.ptr 966 0) ∧ aS (aI 0) ∧ True) ∧ (rS (Res.box [AVal.vec 1, AVal.vec 2]) ∧ rS Res.nilv ∧ rS Res.nilv ∧ rS (Res.box [AVal.vec 4, AVal.vec 5]) ∧ rS (vecS 3 enc_arr_3_int64 x.fst 39) ∧ rS (vecO 3 enc_Use x.snd.fst 37) ∧ rS (Res.box [aI (a0.getD x.snd.snd.toNat default).Depth, aI (a0.getD x.snd.snd.toNat default).Index, AVal.vec 904]) ∧ RSub Res.nilv (vecO 1 encI_i64 nl 3) ∧ True) ∧ True) ∧ (∀ (x_1 : List (Int × Int × Int) × List Int × Int), 0 ≤ x.snd.snd ∧ x.snd.snd < (↑a0.length : Int) → (0 ≤ x.snd.snd ∧ x.snd.snd < (↑a0.length : Int)) ∧ decide (x_1.snd.snd < (↑(a0.getD x.snd.snd.toNat default).Normals.length : Int)) = decide (x_1.snd.snd < (↑(a0.getD x.snd.snd.toNat default).Normals.length : Int)) ∧ (decide (x_1.snd.snd < (↑(a0.getD x.snd.snd.toNat default).Normals.length : Int)) = true → 0 ≤ x.snd.snd ∧ x.snd.snd < (↑a0.length : Int) → (0 ≤ x.snd.snd ∧ x.snd.snd < (↑a0.length : Int)) ∧ (0 ≤ x_1.snd.snd ∧ x_1.snd.snd < (↑(a0.getD x.snd.snd.toNat default).Normals.length : Int) → (0 ≤ x_1.snd.snd ∧ x_1.snd.snd < (↑(a0.getD x.snd.snd.toNat default).Normals.length : Int)) ∧ ∀ (y : Int), ref19_number_F N x_1.fst ((a0.getD x.snd.snd.toNat default).Normals.getD x_1.snd.snd.toNat default) = some y → ((aS (AVal.pure (encL 3 enc_arr_3_int64 x_1.fst)) ∧ aS (AVal.pure (PVal.agg [PVal.int IntKind.i64 ((a0.getD x.snd.snd.toNat default).Normals.getD x_1.snd.snd.toNat default).fst, PVal.int IntKind.i64 ((a0.getD x.snd.snd.toNat default).Normals.getD x_1.snd.snd.toNat default).snd.fst, PVal.int IntKind.i64 ((a0.getD x.snd.snd.toNat default).Normals.getD x_1.snd.snd.toNat default).snd.snd])) ∧ True) ∧ True ∧ Spec Try.prog 33 0 [AVal.pure (encL 3 enc_arr_3_int64 x_1.fst), AVal.pure (PVal.agg [PVal.int IntKind.i64 ((a0.getD x.snd.snd.toNat default).Normals.getD x_1.snd.snd.toNat default).fst, PVal.int IntKind.i64 ((a0.getD x.snd.snd.toNat default).Normals.getD x_1.snd.snd.toNat default).snd.fst, PVal.int IntKind.i64 ((a0.getD x.snd.snd.toNat default).Normals.getD x_1.snd.snd.toNat default).snd.snd])] [] (aI y) []) ∧ (∀ (_y : List (Int × Int × Int) × Int), true = true ∧ 0 ≤ 8) ∧ (decide (y < 0) = decide (y < 0) ∧ (decide (y < 0) = true → 0 ≤ x.snd.snd ∧ x.snd.snd < (↑a0.length : Int) → (0 ≤ x.snd.snd ∧ x.snd.snd < (↑a0.length : Int)) ∧ (0 ≤ x_1.snd.snd ∧ x_1.snd.snd < (↑(a0.getD x.snd.snd.toNat default).Normals.length : Int) → (0 ≤ x_1.snd.snd ∧ x_1.snd.snd < (↑(a0.getD x.snd.snd.toNat default).Normals.length : Int)) ∧ ((x_1.fst.length + 1) * 24 ≤ 140737488355328 ∧ x_1.fst.length + 1 ≤ 9223372036854775807 → ((x_1.fst.length + 1) * 24 ≤ 140737488355328 ∧ x_1.fst.length + 1 ≤ 9223372036854775807) ∧ (aS (AVal.pure (encL 3 enc_Piece a0)) ∧ aS (AVal.ptr 0 0) ∧ aS (AVal.ptr 3 0) ∧ aS (aI x.snd.snd) ∧ aS (AVal.ptr 6 0) ∧ aS (aI x_1.snd.snd) ∧ aS (aI (↑x_1.fst.length : Int)) ∧ True) ∧ (rS (Res.box [AVal.vec 1, AVal.vec 2]) ∧ rS Res.nilv ∧ rS Res.nilv ∧ rS (Res.box [AVal.vec 2376, AVal.vec 5]) ∧ RSub (Res.vec 3 (x_1.fst.length + 1) (fun (a : Nat) => appF x_1.fst.length (el enc_arr_3_int64 x_1.fst) (lget [PVal.agg [PVal.int IntKind.i64 ((a0.getD x.snd.snd.toNat default).Normals.getD x_1.snd.snd.toNat default).fst, PVal.int IntKind.i64 ((a0.getD x.snd.snd.toNat default).Normals.getD x_1.snd.snd.toNat default).snd.fst, PVal.int IntKind.i64 ((a0.getD x.snd.snd.toNat default).Normals.getD x_1.snd.snd.toNat default).snd.snd]]) a) x_1.fst.length 39) (vecS 3 enc_arr_3_int64 (x_1.fst ++ [(a0.getD x.snd.snd.toNat default).Normals.getD x_1.snd.snd.toNat default]) 39) ∧ rS (vecO 3 enc_Use x.snd.fst 37) ∧ rS (Res.box [aI (a0.getD x.snd.snd.toNat default).Depth, aI (a0.getD x.snd.snd.toNat default).Index, AVal.vec 7]) ∧ rS (vecO 1 encI_i64 x_1.snd.fst 3) ∧ True) ∧ True))) ∧ (decide (y < 0) = false → (aS (AVal.pure (encL 3 enc_Piece a0)) ∧ aS (AVal.ptr 0 0) ∧ aS (AVal.ptr 3 0) ∧ aS (aI x.snd.snd) ∧ aS (AVal.ptr 6 0) ∧ aS (aI x_1.snd.snd) ∧ aS (aI y) ∧ True) ∧ (rS (Res.box [AVal.vec 1, AVal.vec 2]) ∧ rS Res.nilv ∧ rS Res.nilv ∧ rS (Res.box [AVal.vec 4, AVal.vec 5]) ∧ rS (vecS 3 enc_arr_3_int64 x_1.fst 39) ∧ rS (vecO 3 enc_Use x.snd.fst 37) ∧ rS (Res.box [aI (a0.getD x.snd.snd.toNat default).Depth, aI (a0.getD x.snd.snd.toNat default).Index, AVal.vec 7]) ∧ rS (vecO 1 encI_i64 x_1.snd.fst 3) ∧ True) ∧ True)) ∧ ∀ (y : List (Int × Int × Int) × Int), (x_1.snd.fst.length + 1) * 8 ≤ 140737488355328 ∧ x_1.snd.fst.length + 1 ≤ 9223372036854775807 → ((x_1.snd.fst.length + 1) * 8 ≤ 140737488355328 ∧ x_1.snd.fst.length + 1 ≤ 9223372036854775807) ∧ (aS (AVal.pure (encL 3 enc_Piece a0)) ∧ aS (AVal.ptr 0 0) ∧ aS (AVal.ptr 3 0) ∧ aS (aI x.snd.snd) ∧ aS (AVal.ptr 6 0) ∧ aS (aI (IntKind.i64.wrap (x_1.snd.snd + 1))) ∧ True) ∧ (rS (Res.box [AVal.vec 1, AVal.vec 2]) ∧ rS Res.nilv ∧ rS Res.nilv ∧ rS (Res.box [AVal.vec 4, AVal.vec 5]) ∧ rS (vecS 3 enc_arr_3_int64 y.fst 39) ∧ rS (vecO 3 enc_Use x.snd.fst 37) ∧ rS (Res.box [aI (a0.getD x.snd.snd.toNat default).Depth, aI (a0.getD x.snd.snd.toNat default).Index, AVal.vec 264]) ∧ RSub (Res.vec 1 (x_1.snd.fst.length + 1) (fun (a : Nat) => appF x_1.snd.fst.length (el encI_i64 x_1.snd.fst) (lget [PVal.int IntKind.i64 y.snd]) a) 0 3) (vecO 1 encI_i64 (x_1.snd.fst ++ [y.snd]) 3) ∧ True) ∧ True)) ∧ (decide (x_1.snd.snd < (↑(a0.getD x.snd.snd.toNat default).Normals.length : Int)) = false → (aS (AVal.pure (encL 3 enc_Piece a0)) ∧ aS (AVal.ptr 0 0) ∧ aS (AVal.ptr 3 0) ∧ aS (aI x.snd.snd) ∧ aS (AVal.ptr 6 0) ∧ True) ∧ (rS (Res.box [AVal.vec 1, AVal.vec 2]) ∧ rS Res.nilv ∧ rS Res.nilv ∧ rS (Res.box [AVal.vec 4, AVal.vec 5]) ∧ rS (vecS 3 enc_arr_3_int64 x_1.fst 39) ∧ rS (vecO 3 enc_Use x.snd.fst 37) ∧ rS (Res.box [aI (a0.getD x.snd.snd.toNat default).Depth, aI (a0.getD x.snd.snd.toNat default).Index, AVal.vec 7]) ∧ rS (vecO 1 encI_i64 x_1.snd.fst 3) ∧ True) ∧ True)) ∧ ∀ (y : List (Int × Int × Int) × List Int), (x.snd.fst.length + 1) * 40 ≤ 140737488355328 ∧ x.snd.fst.length + 1 ≤ 9223372036854775807 → ((x.snd.fst.length + 1) * 40 ≤ 140737488355328 ∧ x.snd.fst.length + 1 ≤ 9223372036854775807) ∧ (aS (AVal.pure (encL 3 enc_Piece a0)) ∧ aS (AVal.ptr 0 0) ∧ aS (AVal.ptr 3 0) ∧ aS (aI (IntKind.i64.wrap (x.snd.snd + 1))) ∧ True) ∧ (rS (Res.box [AVal.vec 1, AVal.vec 2]) ∧ rS Res.nilv ∧ rS Res.nilv ∧ rS (Res.box [AVal.vec 4, AVal.vec 264]) ∧ rS (vecS 3 enc_arr_3_int64 y.fst 39) ∧ RSub (Res.vec 3 (x.snd.fst.length + 1) (fun (a : Nat) => appF x.snd.fst.length (el enc_Use x.snd.fst) (lget [PVal.agg [PVal.int IntKind.i64 (a0.getD x.snd.snd.toNat default).Depth, PVal.int IntKind.i64 (a0.getD x.snd.snd.toNat default).Index, PVal.lst 1 y.snd.length (el encI_i64 y.snd)]]) a) 0 37) (vecO 3 enc_Use (x.snd.fst ++ [S_Use.mk (a0.getD x.snd.snd.toNat default).Depth (a0.getD x.snd.snd.toNat default).Index y.snd]) 37) ∧ True) ∧ True)) ∧ (decide (x.snd.snd < (↑a0.length : Int)) = false → (aS (AVal.ptr 0 0) ∧ aS (AVal.ptr 3 0) ∧ True) ∧ (rS (Res.box [AVal.vec 1, AVal.vec 2]) ∧ rS Res.nilv ∧ rS Res.nilv ∧ rS (Res.box [AVal.vec 4, AVal.vec 5]) ∧ rS (vecS 3 enc_arr_3_int64 x.fst 39) ∧ rS (vecO 3 enc_Use x.snd.fst 37) ∧ True) ∧ True)) ∧ ∀ (y : List (Int × Int × Int) × List S_Use), (aS (AVal.pure (PVal.agg [encL 3 enc_arr_3_int64 y.fst, encL 3 enc_Use y.snd])) ∧ True) ∧ True ∧ True) := by kernel_rfl


set_option maxHeartbeats 4000000 in
theorem ref19_Pack_spec (hd : DrawSound Try.prog drawB) {N : Nat} {a0 : (List S_Piece)} {r : S_Packed} (h : ref19_Pack_F N a0 = some r) : Spec Try.prog 13 0 [.pure (encL 3 enc_Piece a0)] [] (.pure (.agg [encL 3 enc_arr_3_int64 r.Table, encL 3 enc_Use r.Uses])) ([]) := by
  refine spec_ofT (n0 := 0) (res := fun r => .pure (.agg [encL 3 enc_arr_3_int64 r.Table, encL 3 enc_Use r.Uses])) (m' := fun _ => []) (ref19_Pack_T N a0) ((ref19_Pack_run N a0).trans h) hd Try.func13 (by kernel_rfl) (by kernel_rfl) ?_
  rw [ref19_Pack_vc]
  repeat' (first | exact trivial | exact ASub.refl _ | exact RSub.refl _ | exact ref19_number_spec hd (by assumption) | assumption | rfl | (apply And.intro) | (intro _) | exact nl_a | exact ASub.tt rfl | exact ASub.ff rfl | exact mapR_upE rfl | exact RSub.nilv rfl rfl | exact IsL.el | exact IsL.nl | exact IsL.lit (CSubs.of_eq rfl) rfl | refine IsL.lit ?_ rfl | exact IsL.rep (CSub.of_eq rfl) | refine IsL.a ?_ | refine IsL.r0 ?_ | refine IsL.r ?_ ?_ | refine IsL.app ?_ ?_ | refine IsL.set ?_ (CSub.of_eq rfl) | refine IsL.set ?_ ?_ | refine IsL.slice ?_ ?_ ?_ | refine IsL.take ?_ ?_ | exact CSubs.nil' | refine CSubs.cons' ?_ ?_ | exact CSub.refl _ | exact nl_c | refine CSub.agg ?_ | refine IsL.c ?_ | exact PSubs.nil' | refine PSubs.cons' ?_ ?_ | exact PSub.refl _ | exact nl_p | refine IsL.p ?_ | refine (PSub.agg ?_).a | refine PSub.agg ?_ | refine ASub.agg ?_ | refine RSub.box ?_ | refine tup_a ?_ | refine ASub.p ?_ | omega)

noncomputable def make_Same_int_F (N : Nat) (a0 : (List Int)) (a1 : (List Int)) : Option Bool :=
  bif (((a0.length : Nat) : Int) != ((a1.length : Nat) : Int)) then
   some false
  else
   andK (iter (fun (x5 : Int) => (
    bif (decide (x5 < ((a0.length : Nat) : Int))) then
     grd (0 ≤ x5 ∧ x5 < ((a0.length : Nat) : Int)) <|
     grd (0 ≤ x5 ∧ x5 < ((a1.length : Nat) : Int)) <|
     bif ((a0.getD ((x5).toNat) default) != (a1.getD ((x5).toNat) default)) then
      some (.fin false)
     else
      some (.next (IntKind.i64.wrap (x5 + 1)))
    else
     some (.out .u) : Option (Step3 Int U0 _))) N 0) fun _ =>
   some true

noncomputable def make_Same_int_T (_N : Nat) (a0 : (List Int)) (a1 : (List Int)) : T Bool :=
  .br (((a0.length : Nat) : Int) != ((a1.length : Nat) : Int))
   (.ret false)
   (.loop (fun (x5 : Int) => ⟨[(0, .pure (encL 1 encI_i64 a0)), (1, .pure (encL 1 encI_i64 a1)), (5, .pure (.int .i64 x5))], [], [], 0⟩)
    (.exit 0) (fun (_ : U0) => ⟨[], [], [], 0⟩)
    (fun x5 => .br (decide (x5 < ((a0.length : Nat) : Int)))
      (.grd (0 ≤ x5 ∧ x5 < ((a0.length : Nat) : Int)) <|
      .grd (0 ≤ x5 ∧ x5 < ((a1.length : Nat) : Int)) <|
      .br ((a0.getD ((x5).toNat) default) != (a1.getD ((x5).toNat) default))
       (.ret (.fin false))
       (.ret (.next (IntKind.i64.wrap (x5 + 1)))))
      (.ret (.out .u)))
    0 fun _ =>
   .ret true)

theorem make_Same_int_run (N : Nat) (a0 : (List Int)) (a1 : (List Int)) : (make_Same_int_T N a0 a1).run N = make_Same_int_F N a0 a1 := by kernel_rfl

theorem make_Same_int_vc (N : Nat) (a0 : (List Int)) (a1 : (List Int)) : (vcFuncT Try.prog drawB Try.f51 (Try.f51.body.getD .skip) 0 0 (make_Same_int_T N a0 a1) [.pure (encL 1 encI_i64 a0), .pure (encL 1 encI_i64 a1)] [] (fun r => .pure (.bool r)) (fun _ => [])) =
    (((↑a0.length : Int) != (↑a1.length : Int)) = ((↑a0.length : Int) != (↑a1.length : Int)) ∧ (((↑a0.length : Int) != (↑a1.length : Int)) = true → (aS (AVal.pure (PVal.bool false)) ∧ True) ∧ True ∧ True) ∧ (((↑a0.length : Int) != (↑a1.length : Int)) = false → (∀ (_x : Int), true = true ∧ 0 ≤ 0) ∧ (∀ (_y : U0), true = true ∧ 0 ≤ 0) ∧ ((aS (AVal.pure (encL 1 encI_i64 a0)) ∧ aS (AVal.pure (encL 1 encI_i64 a1)) ∧ aS (aI 0) ∧ True) ∧ True ∧ True) ∧ (∀ (x : Int), decide (x < (↑a0.length : Int)) = decide (x < (↑a0.length : Int)) ∧ (decide (x < (↑a0.length : Int)) = true → 0 ≤ x ∧ x < (↑a0.length : Int) → (0 ≤ x ∧ x < (↑a0.length : Int)) ∧ (0 ≤ x ∧ x < (↑a1.length : Int) → (0 ≤ x ∧ x < (↑a1.length : Int)) ∧ (a0.getD x.toNat default != a1.getD x.toNat default) = (a0.getD x.toNat default != a1.getD x.toNat default) ∧ ((a0.getD x.toNat default != a1.getD x.toNat default) = true → (aS (AVal.pure (PVal.bool false)) ∧ True) ∧ True ∧ True) ∧ ((a0.getD x.toNat default != a1.getD x.toNat default) = false → (aS (AVal.pure (encL 1 encI_i64 a0)) ∧ aS (AVal.pure (encL 1 encI_i64 a1)) ∧ aS (aI (IntKind.i64.wrap (x + 1))) ∧ True) ∧ True ∧ True))) ∧ (decide (x < (↑a0.length : Int)) = false → True ∧ True ∧ True)) ∧ ∀ (_y : U0), (aS (AVal.pure (PVal.bool true)) ∧ True) ∧ True ∧ True)) := by kernel_rfl


set_option maxHeartbeats 4000000 in
theorem make_Same_int_spec (hd : DrawSound Try.prog drawB) {N : Nat} {a0 : (List Int)} {a1 : (List Int)} {r : Bool} (h : make_Same_int_F N a0 a1 = some r) : Spec Try.prog 51 0 [.pure (encL 1 encI_i64 a0), .pure (encL 1 encI_i64 a1)] [] (.pure (.bool r)) ([]) := by
  refine spec_ofT (n0 := 0) (res := fun r => .pure (.bool r)) (m' := fun _ => []) (make_Same_int_T N a0 a1) ((make_Same_int_run N a0 a1).trans h) hd Try.func51 (by kernel_rfl) (by kernel_rfl) ?_
  rw [make_Same_int_vc]
  repeat' (first | exact trivial | exact ASub.refl _ | exact RSub.refl _ | assumption | rfl | (apply And.intro) | (intro _) | exact nl_a | exact ASub.tt rfl | exact ASub.ff rfl | exact mapR_upE rfl | exact RSub.nilv rfl rfl | exact IsL.el | exact IsL.nl | exact IsL.lit (CSubs.of_eq rfl) rfl | refine IsL.lit ?_ rfl | exact IsL.rep (CSub.of_eq rfl) | refine IsL.a ?_ | refine IsL.r0 ?_ | refine IsL.r ?_ ?_ | refine IsL.app ?_ ?_ | refine IsL.set ?_ (CSub.of_eq rfl) | refine IsL.set ?_ ?_ | refine IsL.slice ?_ ?_ ?_ | refine IsL.take ?_ ?_ | exact CSubs.nil' | refine CSubs.cons' ?_ ?_ | exact CSub.refl _ | exact nl_c | refine CSub.agg ?_ | refine IsL.c ?_ | exact PSubs.nil' | refine PSubs.cons' ?_ ?_ | exact PSub.refl _ | exact nl_p | refine IsL.p ?_ | refine (PSub.agg ?_).a | refine PSub.agg ?_ | refine ASub.agg ?_ | refine RSub.box ?_ | refine tup_a ?_ | refine ASub.p ?_ | omega)

noncomputable def make_SamePacked_F (N : Nat) (a0 : S_Packed) (a1 : S_Packed) : Option Bool :=
  andC (
   (make_Same_api_Vec_F N a0.Table a1.Table).bind fun y8 =>
   bif (!y8) then
    some (.out true)
   else
    some (.out (((a0.Uses.length : Nat) : Int) != ((a1.Uses.length : Nat) : Int))) : Option (Step3 Unit Bool _)) fun y7 =>
  bif y7 then
   some false
  else
   andK (iter (fun (x45 : Int) => (
    bif (decide (x45 < ((a0.Uses.length : Nat) : Int))) then
     grd (0 ≤ x45 ∧ x45 < ((a0.Uses.length : Nat) : Int)) <|
     grd (0 ≤ x45 ∧ x45 < ((a1.Uses.length : Nat) : Int)) <|
     andC (
      bif (((a0.Uses.getD ((x45).toNat) default).Depth) != ((a1.Uses.getD ((x45).toNat) default).Depth)) then
       some (.out true)
      else
       bif (((a0.Uses.getD ((x45).toNat) default).Index) != ((a1.Uses.getD ((x45).toNat) default).Index)) then
        some (.out true)
       else
        (make_Same_int_F N ((a0.Uses.getD ((x45).toNat) default).Numbers) ((a1.Uses.getD ((x45).toNat) default).Numbers)).bind fun y62 =>
        some (.out (!y62)) : Option (Step3 Unit Bool _)) fun y61 =>
     bif y61 then
      some (.fin false)
     else
      some (.next (IntKind.i64.wrap (x45 + 1)))
    else
     some (.out .u) : Option (Step3 Int U0 _))) N 0) fun _ =>
   some true

noncomputable def make_SamePacked_T (N : Nat) (a0 : S_Packed) (a1 : S_Packed) : T Bool :=
  .cut 2 (fun (y7 : Bool) => ⟨[(2, .ptr 0 0), (3, .ptr 1 0), (22, .pure (.bool y7))], [(0, .box [.pure (encL 3 enc_arr_3_int64 a0.Table), .pure (encL 3 enc_Use a0.Uses)]), (1, .box [.pure (encL 3 enc_arr_3_int64 a1.Table), .pure (encL 3 enc_Use a1.Uses)])], [], 2⟩)
   (.call (make_Same_api_Vec_F N a0.Table a1.Table) (fun y8 => ⟨[], 0, [.pure (encL 3 enc_arr_3_int64 a0.Table), .pure (encL 3 enc_arr_3_int64 a1.Table)], [], .pure (.bool y8), []⟩) fun y8 =>
   .br (!y8)
    (.ret (.out true))
    (.ret (.out (((a0.Uses.length : Nat) : Int) != ((a1.Uses.length : Nat) : Int))))) fun y7 =>
  .br y7
   (.ret false)
   (.loop (fun (x45 : Int) => ⟨[(2, .ptr 0 0), (3, .ptr 1 0), (5, .pure (.int .i64 x45))], [(0, .box [.pure (encL 3 enc_arr_3_int64 a0.Table), .pure (encL 3 enc_Use a0.Uses)]), (1, .box [.pure (encL 3 enc_arr_3_int64 a1.Table), .pure (encL 3 enc_Use a1.Uses)])], [], 2⟩)
    (.exit 0) (fun (_ : U0) => ⟨[], [], [], 0⟩)
    (fun x45 => .br (decide (x45 < ((a0.Uses.length : Nat) : Int)))
      (.grd (0 ≤ x45 ∧ x45 < ((a0.Uses.length : Nat) : Int)) <|
      .grd (0 ≤ x45 ∧ x45 < ((a1.Uses.length : Nat) : Int)) <|
      .cut 0 (fun (y61 : Bool) => ⟨[(2, .ptr 0 0), (3, .ptr 1 0), (5, .pure (.int .i64 x45)), (59, .pure (.bool y61))], [(0, .box [.pure (encL 3 enc_arr_3_int64 a0.Table), .pure (encL 3 enc_Use a0.Uses)]), (1, .box [.pure (encL 3 enc_arr_3_int64 a1.Table), .pure (encL 3 enc_Use a1.Uses)])], [], 2⟩)
       (.br (((a0.Uses.getD ((x45).toNat) default).Depth) != ((a1.Uses.getD ((x45).toNat) default).Depth))
        (.ret (.out true))
        (.br (((a0.Uses.getD ((x45).toNat) default).Index) != ((a1.Uses.getD ((x45).toNat) default).Index))
         (.ret (.out true))
         (.call (make_Same_int_F N ((a0.Uses.getD ((x45).toNat) default).Numbers) ((a1.Uses.getD ((x45).toNat) default).Numbers)) (fun y62 => ⟨[], 0, [.pure (encL 1 encI_i64 ((a0.Uses.getD ((x45).toNat) default).Numbers)), .pure (encL 1 encI_i64 ((a1.Uses.getD ((x45).toNat) default).Numbers))], [], .pure (.bool y62), []⟩) fun y62 =>
         .ret (.out (!y62))))) fun y61 =>
      .br y61
       (.ret (.fin false))
       (.ret (.next (IntKind.i64.wrap (x45 + 1)))))
      (.ret (.out .u)))
    0 fun _ =>
   .ret true)

theorem make_SamePacked_run (N : Nat) (a0 : S_Packed) (a1 : S_Packed) : (make_SamePacked_T N a0 a1).run N = make_SamePacked_F N a0 a1 := by kernel_rfl

theorem make_SamePacked_vc (N : Nat) (a0 : S_Packed) (a1 : S_Packed) : (vcFuncT Try.prog drawB Try.f31 (Try.f31.body.getD .skip) 0 0 (make_SamePacked_T N a0 a1) [.pure (.agg [encL 3 enc_arr_3_int64 a0.Table, encL 3 enc_Use a0.Uses]), .pure (.agg [encL 3 enc_arr_3_int64 a1.Table, encL 3 enc_Use a1.Uses])] [] (fun r => .pure (.bool r)) (fun _ => [])) =
    ((∀ (_y : Bool), true = true ∧ 0 ≤ 2) ∧ (∀ (y : Bool), make_Same_api_Vec_F N a0.Table a1.Table = some y → ((aS (AVal.pure (encL 3 enc_arr_3_int64 a0.Table)) ∧ aS (AVal.pure (encL 3 enc_arr_3_int64 a1.Table)) ∧ True) ∧ True ∧ Spec Try.prog 50 0 [AVal.pure (encL 3 enc_arr_3_int64 a0.Table), AVal.pure (encL 3 enc_arr_3_int64 a1.Table)] [] (AVal.pure (PVal.bool y)) []) ∧ (!y) = !y ∧ ((!y) = true → (aS (AVal.ptr 0 0) ∧ aS (AVal.ptr 64 0) ∧ ASub AVal.tt (AVal.pure (PVal.bool true)) ∧ True) ∧ (rS (Res.box [AVal.pure (encL 3 enc_arr_3_int64 a0.Table), AVal.pure (encL 3 enc_Use a0.Uses)]) ∧ rS (Res.box [AVal.pure (encL 3 enc_arr_3_int64 a1.Table), AVal.pure (encL 3 enc_Use a1.Uses)]) ∧ True) ∧ True) ∧ ((!y) = false → (aS (AVal.ptr 0 0) ∧ aS (AVal.ptr 64 0) ∧ aS (AVal.pure (PVal.bool ((↑a0.Uses.length : Int) != (↑a1.Uses.length : Int)))) ∧ True) ∧ (rS (Res.box [AVal.pure (encL 3 enc_arr_3_int64 a0.Table), AVal.pure (encL 3 enc_Use a0.Uses)]) ∧ rS (Res.box [AVal.pure (encL 3 enc_arr_3_int64 a1.Table), AVal.pure (encL 3 enc_Use a1.Uses)]) ∧ True) ∧ True)) ∧ ∀ (y : Bool), y = y ∧ (y = true → (aS (AVal.pure (PVal.bool false)) ∧ True) ∧ True ∧ True) ∧ (y = false → (∀ (_x : Int), true = true ∧ 0 ≤ 2) ∧ (∀ (_y : U0), true = true ∧ 0 ≤ 0) ∧ ((aS (AVal.ptr 0 0) ∧ aS (AVal.ptr 1 0) ∧ aS (aI 0) ∧ True) ∧ (rS (Res.box [AVal.pure (encL 3 enc_arr_3_int64 a0.Table), AVal.pure (encL 3 enc_Use a0.Uses)]) ∧ rS (Res.box [AVal.pure (encL 3 enc_arr_3_int64 a1.Table), AVal.pure (encL 3 enc_Use a1.Uses)]) ∧ True) ∧ True) ∧ (∀ (x : Int), decide (x < (↑a0.Uses.length : Int)) = decide (x < (↑a0.Uses.length : Int)) ∧ (decide (x < (↑a0.Uses.length : Int)) = true → 0 ≤ x ∧ x < (↑a0.Uses.length : Int) → (0 ≤ x ∧ x < (↑a0.Uses.length : Int)) ∧ (0 ≤ x ∧ x < (↑a1.Uses.length : Int) → (0 ≤ x ∧ x < (↑a1.Uses.length : Int)) ∧ (∀ (_y : Bool), true = true ∧ 0 ≤ 2) ∧ (((a0.Uses.getD x.toNat default).Depth != (a1.Uses.getD x.toNat default).Depth) = ((a0.Uses.getD x.toNat default).Depth != (a1.Uses.getD x.toNat default).Depth) ∧ (((a0.Uses.getD x.toNat default).Depth != (a1.Uses.getD x.toNat default).Depth) = true → (aS (AVal.ptr 0 0) ∧ aS (AVal.ptr 1 0) ∧ aS (aI x) ∧ ASub AVal.tt (AVal.pure (PVal.bool true)) ∧ True) ∧ (rS (Res.box [AVal.pure (encL 3 enc_arr_3_int64 a0.Table), AVal.pure (encL 3 enc_Use a0.Uses)]) ∧ rS (Res.box [AVal.pure (encL 3 enc_arr_3_int64 a1.Table), AVal.pure (encL 3 enc_Use a1.Uses)]) ∧ True) ∧ True) ∧ (((a0.Uses.getD x.toNat default).Depth != (a1.Uses.getD x.toNat default).Depth) = false → ((a0.Uses.getD x.toNat default).Index != (a1.Uses.getD x.toNat default).Index) = ((a0.Uses.getD x.toNat default).Index != (a1.Uses.getD x.toNat default).Index) ∧ (((a0.Uses.getD x.toNat default).Index != (a1.Uses.getD x.toNat default).Index) = true → (aS (AVal.ptr 0 0) ∧ aS (AVal.ptr 1 0) ∧ aS (aI x) ∧ ASub AVal.tt (AVal.pure (PVal.bool true)) ∧ True) ∧ (rS (Res.box [AVal.pure (encL 3 enc_arr_3_int64 a0.Table), AVal.pure (encL 3 enc_Use a0.Uses)]) ∧ rS (Res.box [AVal.pure (encL 3 enc_arr_3_int64 a1.Table), AVal.pure (encL 3 enc_Use a1.Uses)]) ∧ True) ∧ True) ∧ (((a0.Uses.getD x.toNat default).Index != (a1.Uses.getD x.toNat default).Index) = false → ∀ (y : Bool), make_Same_int_F N (a0.Uses.getD x.toNat default).Numbers (a1.Uses.getD x.toNat default).Numbers = some y → ((aS (AVal.pure (encL 1 encI_i64 (a0.Uses.getD x.toNat default).Numbers)) ∧ aS (AVal.pure (encL 1 encI_i64 (a1.Uses.getD x.toNat default).Numbers)) ∧ True) ∧ True ∧ Spec Try.prog 51 0 [AVal.pure (encL 1 encI_i64 (a0.Uses.getD x.toNat default).Numbers), AVal.pure (encL 1 encI_i64 (a1.Uses.getD x.toNat default).Numbers)] [] (AVal.pure (PVal.bool y)) []) ∧ (aS (AVal.ptr 0 0) ∧ aS (AVal.ptr 1 0) ∧ aS (aI x) ∧ aS (AVal.pure (PVal.bool !y)) ∧ True) ∧ (rS (Res.box [AVal.pure (encL 3 enc_arr_3_int64 a0.Table), AVal.pure (encL 3 enc_Use a0.Uses)]) ∧ rS (Res.box [AVal.pure (encL 3 enc_arr_3_int64 a1.Table), AVal.pure (encL 3 enc_Use a1.Uses)]) ∧ True) ∧ True))) ∧ ∀ (y : Bool), y = y ∧ (y = true → (aS (AVal.pure (PVal.bool false)) ∧ True) ∧ True ∧ True) ∧ (y = false → (aS (AVal.ptr 0 0) ∧ aS (AVal.ptr 1 0) ∧ aS (aI (IntKind.i64.wrap (x + 1))) ∧ True) ∧ (rS (Res.box [AVal.pure (encL 3 enc_arr_3_int64 a0.Table), AVal.pure (encL 3 enc_Use a0.Uses)]) ∧ rS (Res.box [AVal.pure (encL 3 enc_arr_3_int64 a1.Table), AVal.pure (encL 3 enc_Use a1.Uses)]) ∧ True) ∧ True))) ∧ (decide (x < (↑a0.Uses.length : Int)) = false → True ∧ True ∧ True)) ∧ ∀ (_y : U0), (aS (AVal.pure (PVal.bool true)) ∧ True) ∧ True ∧ True)) := by kernel_rfl


set_option maxHeartbeats 4000000 in
theorem make_SamePacked_spec (hd : DrawSound Try.prog drawB) {N : Nat} {a0 : S_Packed} {a1 : S_Packed} {r : Bool} (h : make_SamePacked_F N a0 a1 = some r) : Spec Try.prog 31 0 [.pure (.agg [encL 3 enc_arr_3_int64 a0.Table, encL 3 enc_Use a0.Uses]), .pure (.agg [encL 3 enc_arr_3_int64 a1.Table, encL 3 enc_Use a1.Uses])] [] (.pure (.bool r)) ([]) := by
  refine spec_ofT (n0 := 0) (res := fun r => .pure (.bool r)) (m' := fun _ => []) (make_SamePacked_T N a0 a1) ((make_SamePacked_run N a0 a1).trans h) hd Try.func31 (by kernel_rfl) (by kernel_rfl) ?_
  rw [make_SamePacked_vc]
  repeat' (first | exact trivial | exact ASub.refl _ | exact RSub.refl _ | exact make_Same_api_Vec_spec hd (by assumption) | exact make_Same_int_spec hd (by assumption) | assumption | rfl | (apply And.intro) | (intro _) | exact nl_a | exact ASub.tt rfl | exact ASub.ff rfl | exact mapR_upE rfl | exact RSub.nilv rfl rfl | exact IsL.el | exact IsL.nl | exact IsL.lit (CSubs.of_eq rfl) rfl | refine IsL.lit ?_ rfl | exact IsL.rep (CSub.of_eq rfl) | refine IsL.a ?_ | refine IsL.r0 ?_ | refine IsL.r ?_ ?_ | refine IsL.app ?_ ?_ | refine IsL.set ?_ (CSub.of_eq rfl) | refine IsL.set ?_ ?_ | refine IsL.slice ?_ ?_ ?_ | refine IsL.take ?_ ?_ | exact CSubs.nil' | refine CSubs.cons' ?_ ?_ | exact CSub.refl _ | exact nl_c | refine CSub.agg ?_ | refine IsL.c ?_ | exact PSubs.nil' | refine PSubs.cons' ?_ ?_ | exact PSub.refl _ | exact nl_p | refine IsL.p ?_ | refine (PSub.agg ?_).a | refine PSub.agg ?_ | refine ASub.agg ?_ | refine RSub.box ?_ | refine tup_a ?_ | refine ASub.p ?_ | omega)

noncomputable def ref19_Size_F (N : Nat) (a0 : S_Packed) : Option Int :=
  andK (iter (fun (x13 : (Int × Int)) => (
   bif (decide (x13.2 < ((a0.Uses.length : Nat) : Int))) then
    grd (0 ≤ x13.2 ∧ x13.2 < ((a0.Uses.length : Nat) : Int)) <|
    (fun z18 =>
    some (.next (z18, (IntKind.i64.wrap (x13.2 + 1))))) ((IntKind.i64.wrap (x13.1 + (IntKind.i64.wrap (2 + (((a0.Uses.getD ((x13.2).toNat) default).Numbers.length : Nat) : Int))))))
   else
    some (.out x13.1) : Option (Step3 (Int × Int) Int _))) N ((IntKind.i64.wrap (3 * ((a0.Table.length : Nat) : Int))), 0)) fun y16 =>
  some y16

noncomputable def ref19_Size_T (_N : Nat) (a0 : S_Packed) : T Int :=
  .loop (fun (x13 : (Int × Int)) => ⟨[(1, .ptr 0 0), (3, .pure (.int .i64 x13.1)), (4, .pure (.int .i64 x13.2))], [(0, .box [.pure (encL 3 enc_arr_3_int64 a0.Table), .pure (encL 3 enc_Use a0.Uses)])], [], 1⟩)
   (.exit 0) (fun (y16 : Int) => ⟨[(3, .pure (.int .i64 y16))], [], [], 0⟩)
   (fun x13 => .br (decide (x13.2 < ((a0.Uses.length : Nat) : Int)))
     (.grd (0 ≤ x13.2 ∧ x13.2 < ((a0.Uses.length : Nat) : Int)) <|
     .name 9 ((IntKind.i64.wrap (x13.1 + (IntKind.i64.wrap (2 + (((a0.Uses.getD ((x13.2).toNat) default).Numbers.length : Nat) : Int)))))) fun z18 =>
     .ret (.next (z18, (IntKind.i64.wrap (x13.2 + 1)))))
     (.ret (.out x13.1)))
   ((IntKind.i64.wrap (3 * ((a0.Table.length : Nat) : Int))), 0) fun y16 =>
  .ret y16

theorem ref19_Size_run (N : Nat) (a0 : S_Packed) : (ref19_Size_T N a0).run N = ref19_Size_F N a0 := by kernel_rfl

theorem ref19_Size_vc (N : Nat) (a0 : S_Packed) : (vcFuncT Try.prog drawB Try.f32 (Try.f32.body.getD .skip) 0 0 (ref19_Size_T N a0) [.pure (.agg [encL 3 enc_arr_3_int64 a0.Table, encL 3 enc_Use a0.Uses])] [] (fun r => .pure (.int .i64 r)) (fun _ => [])) =
    ((∀ (_x : Int × Int), true = true ∧ 0 ≤ 1) ∧ (∀ (_y : Int), true = true ∧ 0 ≤ 0) ∧ ((aS (AVal.ptr 0 0) ∧ aS (aI (IntKind.i64.wrap (3 * (↑a0.Table.length : Int)))) ∧ aS (aI 0) ∧ True) ∧ (rS (Res.box [AVal.pure (encL 3 enc_arr_3_int64 a0.Table), AVal.pure (encL 3 enc_Use a0.Uses)]) ∧ True) ∧ True) ∧ (∀ (x : Int × Int), decide (x.snd < (↑a0.Uses.length : Int)) = decide (x.snd < (↑a0.Uses.length : Int)) ∧ (decide (x.snd < (↑a0.Uses.length : Int)) = true → 0 ≤ x.snd ∧ x.snd < (↑a0.Uses.length : Int) → (0 ≤ x.snd ∧ x.snd < (↑a0.Uses.length : Int)) ∧ IntKind.i64.wrap (x.fst + IntKind.i64.wrap (2 + (↑(a0.Uses.getD x.snd.toNat default).Numbers.length : Int))) = IntKind.i64.wrap (x.fst + IntKind.i64.wrap (2 + (↑(a0.Uses.getD x.snd.toNat default).Numbers.length : Int))) ∧ ∀ (z : Int), (aS (AVal.ptr 0 0) ∧ aS (aI z) ∧ aS (aI (IntKind.i64.wrap (x.snd + 1))) ∧ True) ∧ (rS (Res.box [AVal.pure (encL 3 enc_arr_3_int64 a0.Table), AVal.pure (encL 3 enc_Use a0.Uses)]) ∧ True) ∧ True) ∧ (decide (x.snd < (↑a0.Uses.length : Int)) = false → (aS (aI x.fst) ∧ True) ∧ True ∧ True)) ∧ ∀ (y : Int), (aS (aI y) ∧ True) ∧ True ∧ True) := by kernel_rfl


set_option maxHeartbeats 4000000 in
theorem ref19_Size_spec (hd : DrawSound Try.prog drawB) {N : Nat} {a0 : S_Packed} {r : Int} (h : ref19_Size_F N a0 = some r) : Spec Try.prog 32 0 [.pure (.agg [encL 3 enc_arr_3_int64 a0.Table, encL 3 enc_Use a0.Uses])] [] (.pure (.int .i64 r)) ([]) := by
  refine spec_ofT (n0 := 0) (res := fun r => .pure (.int .i64 r)) (m' := fun _ => []) (ref19_Size_T N a0) ((ref19_Size_run N a0).trans h) hd Try.func32 (by kernel_rfl) (by kernel_rfl) ?_
  rw [ref19_Size_vc]
  repeat' (first | exact trivial | exact ASub.refl _ | exact RSub.refl _ | assumption | rfl | (apply And.intro) | (intro _) | exact nl_a | exact ASub.tt rfl | exact ASub.ff rfl | exact mapR_upE rfl | exact RSub.nilv rfl rfl | exact IsL.el | exact IsL.nl | exact IsL.lit (CSubs.of_eq rfl) rfl | refine IsL.lit ?_ rfl | exact IsL.rep (CSub.of_eq rfl) | refine IsL.a ?_ | refine IsL.r0 ?_ | refine IsL.r ?_ ?_ | refine IsL.app ?_ ?_ | refine IsL.set ?_ (CSub.of_eq rfl) | refine IsL.set ?_ ?_ | refine IsL.slice ?_ ?_ ?_ | refine IsL.take ?_ ?_ | exact CSubs.nil' | refine CSubs.cons' ?_ ?_ | exact CSub.refl _ | exact nl_c | refine CSub.agg ?_ | refine IsL.c ?_ | exact PSubs.nil' | refine PSubs.cons' ?_ ?_ | exact PSub.refl _ | exact nl_p | refine IsL.p ?_ | refine (PSub.agg ?_).a | refine PSub.agg ?_ | refine ASub.agg ?_ | refine RSub.box ?_ | refine tup_a ?_ | refine ASub.p ?_ | omega)

noncomputable def law21_packs_F (N : Nat) (a0 : (List S_Piece)) (a1 : S_Packed) : Option Bool :=
  (compact_Unpack_F N a1).bind fun y2 =>
  (ref19_Unpack_F N a1).bind fun y4 =>
  (compact_Pack_F N a0).bind fun y5 =>
  (ref19_Pack_F N a0).bind fun y6 =>
  (make_SamePacked_F N (⟨y5.Table, y5.Uses⟩ : S_Packed) (⟨y6.Table, y6.Uses⟩ : S_Packed)).bind fun y7 =>
  bif y7 then
   (make_SamePieces_F N y2.1 y4.1).bind fun y8 =>
   bif y8 then
    bif (y2.2 == y4.2) then
     (compact_Size_F N (⟨a1.Table, a1.Uses⟩ : S_Packed)).bind fun y9 =>
     (ref19_Size_F N (⟨a1.Table, a1.Uses⟩ : S_Packed)).bind fun y10 =>
     some (y9 == y10)
    else
     some false
   else
    some false
  else
   some false

noncomputable def law21_packs_T (N : Nat) (a0 : (List S_Piece)) (a1 : S_Packed) : T Bool :=
  .call (compact_Unpack_F N a1) (fun y2 => ⟨[], 0, [.pure (.agg [encL 3 enc_arr_3_int64 a1.Table, encL 3 enc_Use a1.Uses])], [], .tup [.pure (encL 3 enc_Piece y2.1), .pure (.bool y2.2)], []⟩) fun y2 =>
  .call (ref19_Unpack_F N a1) (fun y4 => ⟨[], 0, [.pure (.agg [encL 3 enc_arr_3_int64 a1.Table, encL 3 enc_Use a1.Uses])], [], .tup [.pure (encL 3 enc_Piece y4.1), .pure (.bool y4.2)], []⟩) fun y4 =>
  .call (compact_Pack_F N a0) (fun y5 => ⟨[], 0, [.pure (encL 3 enc_Piece a0)], [], .pure (.agg [encL 3 enc_arr_3_int64 y5.Table, encL 3 enc_Use y5.Uses]), []⟩) fun y5 =>
  .call (ref19_Pack_F N a0) (fun y6 => ⟨[], 0, [.pure (encL 3 enc_Piece a0)], [], .pure (.agg [encL 3 enc_arr_3_int64 y6.Table, encL 3 enc_Use y6.Uses]), []⟩) fun y6 =>
  .call (make_SamePacked_F N (⟨y5.Table, y5.Uses⟩ : S_Packed) (⟨y6.Table, y6.Uses⟩ : S_Packed)) (fun y7 => ⟨[], 0, [.pure (.agg [encL 3 enc_arr_3_int64 ((⟨y5.Table, y5.Uses⟩ : S_Packed).Table), encL 3 enc_Use ((⟨y5.Table, y5.Uses⟩ : S_Packed).Uses)]), .pure (.agg [encL 3 enc_arr_3_int64 ((⟨y6.Table, y6.Uses⟩ : S_Packed).Table), encL 3 enc_Use ((⟨y6.Table, y6.Uses⟩ : S_Packed).Uses)])], [], .pure (.bool y7), []⟩) fun y7 =>
  .br y7
   (.call (make_SamePieces_F N y2.1 y4.1) (fun y8 => ⟨[], 0, [.pure (encL 3 enc_Piece y2.1), .pure (encL 3 enc_Piece y4.1)], [], .pure (.bool y8), []⟩) fun y8 =>
   .br y8
    (.br (y2.2 == y4.2)
     (.call (compact_Size_F N (⟨a1.Table, a1.Uses⟩ : S_Packed)) (fun y9 => ⟨[], 0, [.pure (.agg [encL 3 enc_arr_3_int64 ((⟨a1.Table, a1.Uses⟩ : S_Packed).Table), encL 3 enc_Use ((⟨a1.Table, a1.Uses⟩ : S_Packed).Uses)])], [], .pure (.int .i64 y9), []⟩) fun y9 =>
     .call (ref19_Size_F N (⟨a1.Table, a1.Uses⟩ : S_Packed)) (fun y10 => ⟨[], 0, [.pure (.agg [encL 3 enc_arr_3_int64 ((⟨a1.Table, a1.Uses⟩ : S_Packed).Table), encL 3 enc_Use ((⟨a1.Table, a1.Uses⟩ : S_Packed).Uses)])], [], .pure (.int .i64 y10), []⟩) fun y10 =>
     .ret (y9 == y10))
     (.ret false))
    (.ret false))
   (.ret false)

theorem law21_packs_run (N : Nat) (a0 : (List S_Piece)) (a1 : S_Packed) : (law21_packs_T N a0 a1).run N = law21_packs_F N a0 a1 := by kernel_rfl

theorem law21_packs_vc (N : Nat) (a0 : (List S_Piece)) (a1 : S_Packed) : (vcFuncT Try.prog drawB Try.f12 (Try.f12.body.getD .skip) 0 0 (law21_packs_T N a0 a1) [.pure (encL 3 enc_Piece a0), .pure (.agg [encL 3 enc_arr_3_int64 a1.Table, encL 3 enc_Use a1.Uses])] [] (fun r => .pure (.bool r)) (fun _ => [])) =
    (∀ (y : List S_Piece × Bool), compact_Unpack_F N a1 = some y → ((aS (AVal.pure (PVal.agg [encL 3 enc_arr_3_int64 a1.Table, encL 3 enc_Use a1.Uses])) ∧ True) ∧ True ∧ Spec Try.prog 15 0 [AVal.pure (PVal.agg [encL 3 enc_arr_3_int64 a1.Table, encL 3 enc_Use a1.Uses])] [] (AVal.tup [AVal.pure (encL 3 enc_Piece y.fst), AVal.pure (PVal.bool y.snd)]) []) ∧ ∀ (y_1 : List S_Piece × Bool), ref19_Unpack_F N a1 = some y_1 → ((aS (AVal.pure (PVal.agg [encL 3 enc_arr_3_int64 a1.Table, encL 3 enc_Use a1.Uses])) ∧ True) ∧ True ∧ Spec Try.prog 30 0 [AVal.pure (PVal.agg [encL 3 enc_arr_3_int64 a1.Table, encL 3 enc_Use a1.Uses])] [] (AVal.tup [AVal.pure (encL 3 enc_Piece y_1.fst), AVal.pure (PVal.bool y_1.snd)]) []) ∧ ∀ (y_2 : S_Packed), compact_Pack_F N a0 = some y_2 → ((aS (AVal.pure (encL 3 enc_Piece a0)) ∧ True) ∧ True ∧ Spec Try.prog 14 0 [AVal.pure (encL 3 enc_Piece a0)] [] (AVal.pure (PVal.agg [encL 3 enc_arr_3_int64 y_2.Table, encL 3 enc_Use y_2.Uses])) []) ∧ ∀ (y_3 : S_Packed), ref19_Pack_F N a0 = some y_3 → ((aS (AVal.pure (encL 3 enc_Piece a0)) ∧ True) ∧ True ∧ Spec Try.prog 13 0 [AVal.pure (encL 3 enc_Piece a0)] [] (AVal.pure (PVal.agg [encL 3 enc_arr_3_int64 y_3.Table, encL 3 enc_Use y_3.Uses])) []) ∧ ∀ (y_4 : Bool), make_SamePacked_F N (S_Packed.mk y_2.Table y_2.Uses) (S_Packed.mk y_3.Table y_3.Uses) = some y_4 → ((aS (AVal.pure (PVal.agg [encL 3 enc_arr_3_int64 y_2.Table, encL 3 enc_Use y_2.Uses])) ∧ aS (AVal.pure (PVal.agg [encL 3 enc_arr_3_int64 y_3.Table, encL 3 enc_Use y_3.Uses])) ∧ True) ∧ True ∧ Spec Try.prog 31 0 [AVal.pure (PVal.agg [encL 3 enc_arr_3_int64 y_2.Table, encL 3 enc_Use y_2.Uses]), AVal.pure (PVal.agg [encL 3 enc_arr_3_int64 y_3.Table, encL 3 enc_Use y_3.Uses])] [] (AVal.pure (PVal.bool y_4)) []) ∧ y_4 = y_4 ∧ (y_4 = true → ∀ (y_5 : Bool), make_SamePieces_F N y.fst y_1.fst = some y_5 → ((aS (AVal.pure (encL 3 enc_Piece y.fst)) ∧ aS (AVal.pure (encL 3 enc_Piece y_1.fst)) ∧ True) ∧ True ∧ Spec Try.prog 16 0 [AVal.pure (encL 3 enc_Piece y.fst), AVal.pure (encL 3 enc_Piece y_1.fst)] [] (AVal.pure (PVal.bool y_5)) []) ∧ y_5 = y_5 ∧ (y_5 = true → (y.snd == y_1.snd) = (y.snd == y_1.snd) ∧ ((y.snd == y_1.snd) = true → ∀ (y : Int), compact_Size_F N (S_Packed.mk a1.Table a1.Uses) = some y → ((aS (AVal.pure (PVal.agg [encL 3 enc_arr_3_int64 a1.Table, encL 3 enc_Use a1.Uses])) ∧ True) ∧ True ∧ Spec Try.prog 19 0 [AVal.pure (PVal.agg [encL 3 enc_arr_3_int64 a1.Table, encL 3 enc_Use a1.Uses])] [] (aI y) []) ∧ ∀ (y_6 : Int), ref19_Size_F N (S_Packed.mk a1.Table a1.Uses) = some y_6 → ((aS (AVal.pure (PVal.agg [encL 3 enc_arr_3_int64 a1.Table, encL 3 enc_Use a1.Uses])) ∧ True) ∧ True ∧ Spec Try.prog 32 0 [AVal.pure (PVal.agg [encL 3 enc_arr_3_int64 a1.Table, encL 3 enc_Use a1.Uses])] [] (aI y_6) []) ∧ (aS (AVal.pure (PVal.bool (y == y_6))) ∧ True) ∧ True ∧ True) ∧ ((y.snd == y_1.snd) = false → (aS (AVal.pure (PVal.bool false)) ∧ True) ∧ True ∧ True)) ∧ (y_5 = false → (aS (AVal.pure (PVal.bool false)) ∧ True) ∧ True ∧ True)) ∧ (y_4 = false → (aS (AVal.pure (PVal.bool false)) ∧ True) ∧ True ∧ True)) := by kernel_rfl


set_option maxHeartbeats 4000000 in
theorem law21_packs_spec (hd : DrawSound Try.prog drawB) {N : Nat} {a0 : (List S_Piece)} {a1 : S_Packed} {r : Bool} (h : law21_packs_F N a0 a1 = some r) : Spec Try.prog 12 0 [.pure (encL 3 enc_Piece a0), .pure (.agg [encL 3 enc_arr_3_int64 a1.Table, encL 3 enc_Use a1.Uses])] [] (.pure (.bool r)) ([]) := by
  refine spec_ofT (n0 := 0) (res := fun r => .pure (.bool r)) (m' := fun _ => []) (law21_packs_T N a0 a1) ((law21_packs_run N a0 a1).trans h) hd Try.func12 (by kernel_rfl) (by kernel_rfl) ?_
  rw [law21_packs_vc]
  repeat' (first | exact trivial | exact ASub.refl _ | exact RSub.refl _ | exact compact_Unpack_spec hd (by assumption) | exact ref19_Unpack_spec hd (by assumption) | exact compact_Pack_spec hd (by assumption) | exact ref19_Pack_spec hd (by assumption) | exact make_SamePacked_spec hd (by assumption) | exact make_SamePieces_spec hd (by assumption) | exact compact_Size_spec hd (by assumption) | exact ref19_Size_spec hd (by assumption) | assumption | rfl | (apply And.intro) | (intro _) | exact nl_a | exact ASub.tt rfl | exact ASub.ff rfl | exact mapR_upE rfl | exact RSub.nilv rfl rfl | exact IsL.el | exact IsL.nl | exact IsL.lit (CSubs.of_eq rfl) rfl | refine IsL.lit ?_ rfl | exact IsL.rep (CSub.of_eq rfl) | refine IsL.a ?_ | refine IsL.r0 ?_ | refine IsL.r ?_ ?_ | refine IsL.app ?_ ?_ | refine IsL.set ?_ (CSub.of_eq rfl) | refine IsL.set ?_ ?_ | refine IsL.slice ?_ ?_ ?_ | refine IsL.take ?_ ?_ | exact CSubs.nil' | refine CSubs.cons' ?_ ?_ | exact CSub.refl _ | exact nl_c | refine CSub.agg ?_ | refine IsL.c ?_ | exact PSubs.nil' | refine PSubs.cons' ?_ ?_ | exact PSub.refl _ | exact nl_p | refine IsL.p ?_ | refine (PSub.agg ?_).a | refine PSub.agg ?_ | refine ASub.agg ?_ | refine RSub.box ?_ | refine tup_a ?_ | refine ASub.p ?_ | omega)

noncomputable def law21_CompactPacks_F (N : Nat) (a0 : (List S_Piece)) (a1 : S_Packed) (a2 : (List Int)) : Option Bool :=
  (law21_some_F N a2).bind fun y2 =>
  (law21_awake_F N).bind fun y3 =>
  bif y3 then
   (law21_packs_F N a0 (⟨a1.Table, a1.Uses⟩ : S_Packed)).bind fun y4 =>
   bif y4 then
    (ref19_Pack_F N y2).bind fun y5 =>
    (law21_packs_F N y2 y5).bind fun y6 =>
    some y6
   else
    some false
  else
   some false

noncomputable def law21_CompactPacks_T (N : Nat) (a0 : (List S_Piece)) (a1 : S_Packed) (a2 : (List Int)) : T Bool :=
  .call (law21_some_F N a2) (fun y2 => ⟨[], 0, [.pure (encL 1 encI_i64 a2)], [], .vec 0, [(0, vecO 3 enc_Piece y2 45)]⟩) fun y2 =>
  .call (law21_awake_F N) (fun y3 => ⟨[], 0, [], [], .pure (.bool y3), []⟩) fun y3 =>
  .br y3
   (.call (law21_packs_F N a0 (⟨a1.Table, a1.Uses⟩ : S_Packed)) (fun y4 => ⟨[], 0, [.pure (encL 3 enc_Piece a0), .pure (.agg [encL 3 enc_arr_3_int64 ((⟨a1.Table, a1.Uses⟩ : S_Packed).Table), encL 3 enc_Use ((⟨a1.Table, a1.Uses⟩ : S_Packed).Uses)])], [], .pure (.bool y4), []⟩) fun y4 =>
   .br y4
    (.call (ref19_Pack_F N y2) (fun y5 => ⟨[], 0, [.pure (encL 3 enc_Piece y2)], [], .pure (.agg [encL 3 enc_arr_3_int64 y5.Table, encL 3 enc_Use y5.Uses]), []⟩) fun y5 =>
    .call (law21_packs_F N y2 y5) (fun y6 => ⟨[], 0, [.pure (encL 3 enc_Piece y2), .pure (.agg [encL 3 enc_arr_3_int64 y5.Table, encL 3 enc_Use y5.Uses])], [], .pure (.bool y6), []⟩) fun y6 =>
    .ret y6)
    (.ret false))
   (.ret false)

theorem law21_CompactPacks_run (N : Nat) (a0 : (List S_Piece)) (a1 : S_Packed) (a2 : (List Int)) : (law21_CompactPacks_T N a0 a1 a2).run N = law21_CompactPacks_F N a0 a1 a2 := by kernel_rfl

theorem law21_CompactPacks_vc (N : Nat) (a0 : (List S_Piece)) (a1 : S_Packed) (a2 : (List Int)) : (vcFuncT Try.prog drawB Try.f3 (Try.f3.body.getD .skip) 0 0 (law21_CompactPacks_T N a0 a1 a2) [.pure (encL 3 enc_Piece a0), .pure (.agg [encL 3 enc_arr_3_int64 a1.Table, encL 3 enc_Use a1.Uses]), .pure (encL 1 encI_i64 a2)] [] (fun r => .pure (.bool r)) (fun _ => [])) =
    (∀ (y : List S_Piece), law21_some_F N a2 = some y → ((aS (AVal.pure (encL 1 encI_i64 a2)) ∧ True) ∧ True ∧ Spec Try.prog 10 0 [AVal.pure (encL 1 encI_i64 a2)] [] (AVal.vec 0) [(0, vecO 3 enc_Piece y 45)]) ∧ ∀ (y_1 : Bool), law21_awake_F N = some y_1 → (True ∧ True ∧ Spec Try.prog 11 0 [] [] (AVal.pure (PVal.bool y_1)) []) ∧ y_1 = y_1 ∧ (y_1 = true → ∀ (y_2 : Bool), law21_packs_F N a0 (S_Packed.mk a1.Table a1.Uses) = some y_2 → ((aS (AVal.pure (encL 3 enc_Piece a0)) ∧ aS (AVal.pure (PVal.agg [encL 3 enc_arr_3_int64 a1.Table, encL 3 enc_Use a1.Uses])) ∧ True) ∧ True ∧ Spec Try.prog 12 0 [AVal.pure (encL 3 enc_Piece a0), AVal.pure (PVal.agg [encL 3 enc_arr_3_int64 a1.Table, encL 3 enc_Use a1.Uses])] [] (AVal.pure (PVal.bool y_2)) []) ∧ y_2 = y_2 ∧ (y_2 = true → ∀ (y_3 : S_Packed), ref19_Pack_F N y = some y_3 → ((aS (AVal.pure (encL 3 enc_Piece y)) ∧ True) ∧ True ∧ Spec Try.prog 13 0 [AVal.pure (encL 3 enc_Piece y)] [] (AVal.pure (PVal.agg [encL 3 enc_arr_3_int64 y_3.Table, encL 3 enc_Use y_3.Uses])) []) ∧ ∀ (y_4 : Bool), law21_packs_F N y y_3 = some y_4 → ((aS (AVal.pure (encL 3 enc_Piece y)) ∧ aS (AVal.pure (PVal.agg [encL 3 enc_arr_3_int64 y_3.Table, encL 3 enc_Use y_3.Uses])) ∧ True) ∧ True ∧ Spec Try.prog 12 0 [AVal.pure (encL 3 enc_Piece y), AVal.pure (PVal.agg [encL 3 enc_arr_3_int64 y_3.Table, encL 3 enc_Use y_3.Uses])] [] (AVal.pure (PVal.bool y_4)) []) ∧ (aS (AVal.pure (PVal.bool y_4)) ∧ True) ∧ True ∧ True) ∧ (y_2 = false → (aS (AVal.pure (PVal.bool false)) ∧ True) ∧ True ∧ True)) ∧ (y_1 = false → (aS (AVal.pure (PVal.bool false)) ∧ True) ∧ True ∧ True)) := by kernel_rfl


set_option maxHeartbeats 4000000 in
theorem law21_CompactPacks_spec (hd : DrawSound Try.prog drawB) {N : Nat} {a0 : (List S_Piece)} {a1 : S_Packed} {a2 : (List Int)} {r : Bool} (h : law21_CompactPacks_F N a0 a1 a2 = some r) : Spec Try.prog 3 0 [.pure (encL 3 enc_Piece a0), .pure (.agg [encL 3 enc_arr_3_int64 a1.Table, encL 3 enc_Use a1.Uses]), .pure (encL 1 encI_i64 a2)] [] (.pure (.bool r)) ([]) := by
  refine spec_ofT (n0 := 0) (res := fun r => .pure (.bool r)) (m' := fun _ => []) (law21_CompactPacks_T N a0 a1 a2) ((law21_CompactPacks_run N a0 a1 a2).trans h) hd Try.func3 (by kernel_rfl) (by kernel_rfl) ?_
  rw [law21_CompactPacks_vc]
  repeat' (first | exact trivial | exact ASub.refl _ | exact RSub.refl _ | exact law21_some_spec hd (by assumption) | exact law21_awake_spec hd (by assumption) | exact law21_packs_spec hd (by assumption) | exact ref19_Pack_spec hd (by assumption) | assumption | rfl | (apply And.intro) | (intro _) | exact nl_a | exact ASub.tt rfl | exact ASub.ff rfl | exact mapR_upE rfl | exact RSub.nilv rfl rfl | exact IsL.el | exact IsL.nl | exact IsL.lit (CSubs.of_eq rfl) rfl | refine IsL.lit ?_ rfl | exact IsL.rep (CSub.of_eq rfl) | refine IsL.a ?_ | refine IsL.r0 ?_ | refine IsL.r ?_ ?_ | refine IsL.app ?_ ?_ | refine IsL.set ?_ (CSub.of_eq rfl) | refine IsL.set ?_ ?_ | refine IsL.slice ?_ ?_ ?_ | refine IsL.take ?_ ?_ | exact CSubs.nil' | refine CSubs.cons' ?_ ?_ | exact CSub.refl _ | exact nl_c | refine CSub.agg ?_ | refine IsL.c ?_ | exact PSubs.nil' | refine PSubs.cons' ?_ ?_ | exact PSub.refl _ | exact nl_p | refine IsL.p ?_ | refine (PSub.agg ?_).a | refine PSub.agg ?_ | refine ASub.agg ?_ | refine RSub.box ?_ | refine tup_a ?_ | refine ASub.p ?_ | omega)

noncomputable def law21_CompactRoundTrip_F (N : Nat) (a0 : (List S_Piece)) (a1 : (List Int)) : Option Bool :=
  (law21_some_F N a1).bind fun y2 =>
  grd ((y2.length + a0.length) * 40 ≤ 140737488355328 ∧ (y2.length + a0.length) ≤ maxLen) <|
  (compact_Pack_F N (y2 ++ a0)).bind fun y4 =>
  (compact_Unpack_F N y4).bind fun y6 =>
  grd (0 ≤ ((y4.Table.length : Nat) : Int) ∧ ((y4.Table.length : Nat) : Int) ≤ ((y4.Table.length : Nat) : Int) ∧ ((y4.Table.length : Nat) : Int) ≤ 9223372036854775807 ∧ ((y4.Table.length : Nat) : Int) * 1 ≤ 140737488355328) <|
  andK (iter (fun (x131 : ((List S_Piece) × (List Bool) × Int)) => (
   bif (decide (x131.2.2 < ((y4.Uses.length : Nat) : Int))) then
    andK (iter (fun (x183 : ((List Bool) × Int)) => (
     grd (0 ≤ x131.2.2 ∧ x131.2.2 < ((y4.Uses.length : Nat) : Int)) <|
     bif (decide (x183.2 < (((y4.Uses.getD ((x131.2.2).toNat) default).Numbers.length : Nat) : Int))) then
      grd (0 ≤ x131.2.2 ∧ x131.2.2 < ((y4.Uses.length : Nat) : Int)) <|
      grd (0 ≤ x183.2 ∧ x183.2 < (((y4.Uses.getD ((x131.2.2).toNat) default).Numbers.length : Nat) : Int)) <|
      andC (
       bif (decide ((((y4.Uses.getD ((x131.2.2).toNat) default).Numbers).getD ((x183.2).toNat) default) < 0)) then
        some (.out true)
       else
        some (.out (decide ((((y4.Uses.getD ((x131.2.2).toNat) default).Numbers).getD ((x183.2).toNat) default) ≥ ((x183.1.length : Nat) : Int)))) : Option (Step3 Unit Bool _)) fun y192 =>
      bif y192 then
       some (.fin (.fin false))
      else
       grd (0 ≤ (((y4.Uses.getD ((x131.2.2).toNat) default).Numbers).getD ((x183.2).toNat) default) ∧ (((y4.Uses.getD ((x131.2.2).toNat) default).Numbers).getD ((x183.2).toNat) default) < ((x183.1.length : Nat) : Int)) <|
       grd (((((y4.Uses.getD ((x131.2.2).toNat) default).Numbers).getD ((x183.2).toNat) default)).toNat < x183.1.length ∧ 0 ≤ ((((y4.Uses.getD ((x131.2.2).toNat) default).Numbers).getD ((x183.2).toNat) default)).toNat) <|
       some (.next ((x183.1.set (((((y4.Uses.getD ((x131.2.2).toNat) default).Numbers).getD ((x183.2).toNat) default)).toNat) true), (IntKind.i64.wrap (x183.2 + 1))))
     else
      some (.out x183.1) : Option (Step3 ((List Bool) × Int) (List Bool) _))) N (x131.2.1, 0)) fun y188 =>
    some (.next (x131.1, y188, (IntKind.i64.wrap (x131.2.2 + 1))))
   else
    some (.out (x131.1, x131.2.1)) : Option (Step3 ((List S_Piece) × (List Bool) × Int) ((List S_Piece) × (List Bool)) _))) N ((y2 ++ a0), (List.replicate (((y4.Table.length : Nat) : Int)).toNat false), 0)) fun y162 =>
  andK (iter (fun (x245 : Int) => (
   bif (decide (x245 < ((y162.2.length : Nat) : Int))) then
    andK (iter (fun (x269 : Int) => (
     bif (decide (x269 < x245)) then
      grd (0 ≤ x245 ∧ x245 < ((y4.Table.length : Nat) : Int)) <|
      grd (0 ≤ x269 ∧ x269 < ((y4.Table.length : Nat) : Int)) <|
      bif ((((y4.Table.getD ((x245).toNat) default).1) == ((y4.Table.getD ((x269).toNat) default).1)) && ((((y4.Table.getD ((x245).toNat) default).2.1) == ((y4.Table.getD ((x269).toNat) default).2.1)) && ((((y4.Table.getD ((x245).toNat) default).2.2) == ((y4.Table.getD ((x269).toNat) default).2.2)) && true))) then
       some (.fin (.fin false))
      else
       some (.next (IntKind.i64.wrap (x269 + 1)))
     else
      some (.out .u) : Option (Step3 Int U0 _))) N 0) fun _ =>
    grd (0 ≤ x245 ∧ x245 < ((y162.2.length : Nat) : Int)) <|
    grd ((x245).toNat < y162.2.length) <|
    bif (!(y162.2.getD ((x245).toNat) default)) then
     some (.fin false)
    else
     some (.next (IntKind.i64.wrap (x245 + 1)))
   else
    some (.out .u) : Option (Step3 Int U0 _))) N 0) fun _ =>
  (law21_awake_F N).bind fun y271 =>
  bif y271 then
   bif y6.2 then
    (make_SamePieces_F N y162.1 y6.1).bind fun y272 =>
    some y272
   else
    some false
  else
   some false

noncomputable def law21_CompactRoundTrip_T (N : Nat) (a0 : (List S_Piece)) (a1 : (List Int)) : T Bool :=
  .call (law21_some_F N a1) (fun y2 => ⟨[], 0, [.pure (encL 1 encI_i64 a1)], [], .vec 0, [(0, vecO 3 enc_Piece y2 45)]⟩) fun y2 =>
  .grd ((y2.length + a0.length) * 40 ≤ 140737488355328 ∧ (y2.length + a0.length) ≤ maxLen) <|
  .call (compact_Pack_F N (y2 ++ a0)) (fun y4 => ⟨[], 0, [.pure (encL 3 enc_Piece (y2 ++ a0))], [], .pure (.agg [encL 3 enc_arr_3_int64 y4.Table, encL 3 enc_Use y4.Uses]), []⟩) fun y4 =>
  .call (compact_Unpack_F N y4) (fun y6 => ⟨[], 0, [.pure (.agg [encL 3 enc_arr_3_int64 y4.Table, encL 3 enc_Use y4.Uses])], [], .tup [.pure (encL 3 enc_Piece y6.1), .pure (.bool y6.2)], []⟩) fun y6 =>
  .grd (0 ≤ ((y4.Table.length : Nat) : Int) ∧ ((y4.Table.length : Nat) : Int) ≤ ((y4.Table.length : Nat) : Int) ∧ ((y4.Table.length : Nat) : Int) ≤ 9223372036854775807 ∧ ((y4.Table.length : Nat) : Int) * 1 ≤ 140737488355328) <|
  .loop (fun (x131 : ((List S_Piece) × (List Bool) × Int)) => ⟨[(5, .vec 0), (6, .ptr 1 0), (7, .pure (encL 3 enc_Piece y6.1)), (8, .pure (.bool y6.2)), (9, .vec 2), (10, .pure (.int .i64 x131.2.2))], [(0, vecS 3 enc_Piece x131.1 45), (1, .box [.pure (encL 3 enc_arr_3_int64 y4.Table), .pure (encL 3 enc_Use y4.Uses)]), (2, vecO 1 encB x131.2.1 4)], [], 3⟩)
   (.exit 0) (fun (y162 : ((List S_Piece) × (List Bool))) => ⟨[(5, .vec 0), (6, .ptr 1 0), (7, .pure (encL 3 enc_Piece y6.1)), (8, .pure (.bool y6.2)), (9, .vec 2)], [(0, vecS 3 enc_Piece y162.1 45), (1, .box [.pure (encL 3 enc_arr_3_int64 y4.Table), .pure (encL 3 enc_Use y4.Uses)]), (2, vecO 1 encB y162.2 4)], [], 3⟩)
   (fun x131 => .br (decide (x131.2.2 < ((y4.Uses.length : Nat) : Int)))
     (.loop (fun (x183 : ((List Bool) × Int)) => ⟨[(5, .vec 0), (6, .ptr 1 0), (7, .pure (encL 3 enc_Piece y6.1)), (8, .pure (.bool y6.2)), (9, .vec 2), (10, .pure (.int .i64 x131.2.2)), (11, .pure (.int .i64 x183.2))], [(0, vecS 3 enc_Piece x131.1 45), (1, .box [.pure (encL 3 enc_arr_3_int64 y4.Table), .pure (encL 3 enc_Use y4.Uses)]), (2, vecO 1 encB x183.1 4)], [], 3⟩)
      (.exit 2) (fun (y188 : (List Bool)) => ⟨[(5, .vec 0), (6, .ptr 1 0), (7, .pure (encL 3 enc_Piece y6.1)), (8, .pure (.bool y6.2)), (9, .vec 2), (10, .pure (.int .i64 x131.2.2))], [(0, vecS 3 enc_Piece x131.1 45), (1, .box [.pure (encL 3 enc_arr_3_int64 y4.Table), .pure (encL 3 enc_Use y4.Uses)]), (2, vecO 1 encB y188 4)], [], 3⟩)
      (fun x183 => .grd (0 ≤ x131.2.2 ∧ x131.2.2 < ((y4.Uses.length : Nat) : Int)) <|
       .br (decide (x183.2 < (((y4.Uses.getD ((x131.2.2).toNat) default).Numbers.length : Nat) : Int)))
        (.grd (0 ≤ x131.2.2 ∧ x131.2.2 < ((y4.Uses.length : Nat) : Int)) <|
        .grd (0 ≤ x183.2 ∧ x183.2 < (((y4.Uses.getD ((x131.2.2).toNat) default).Numbers.length : Nat) : Int)) <|
        .cut 1 (fun (y192 : Bool) => ⟨[(5, .vec 0), (6, .ptr 1 0), (7, .pure (encL 3 enc_Piece y6.1)), (8, .pure (.bool y6.2)), (9, .vec 2), (10, .pure (.int .i64 x131.2.2)), (11, .pure (.int .i64 x183.2)), (12, .pure (.int .i64 (((y4.Uses.getD ((x131.2.2).toNat) default).Numbers).getD ((x183.2).toNat) default))), (64, .pure (.bool y192))], [(0, vecS 3 enc_Piece x131.1 45), (1, .box [.pure (encL 3 enc_arr_3_int64 y4.Table), .pure (encL 3 enc_Use y4.Uses)]), (2, vecO 1 encB x183.1 4)], [], 3⟩)
         (.br (decide ((((y4.Uses.getD ((x131.2.2).toNat) default).Numbers).getD ((x183.2).toNat) default) < 0))
          (.ret (.out true))
          (.ret (.out (decide ((((y4.Uses.getD ((x131.2.2).toNat) default).Numbers).getD ((x183.2).toNat) default) ≥ ((x183.1.length : Nat) : Int)))))) fun y192 =>
        .br y192
         (.ret (.fin (.fin false)))
         (.grd (0 ≤ (((y4.Uses.getD ((x131.2.2).toNat) default).Numbers).getD ((x183.2).toNat) default) ∧ (((y4.Uses.getD ((x131.2.2).toNat) default).Numbers).getD ((x183.2).toNat) default) < ((x183.1.length : Nat) : Int)) <|
         .grd (((((y4.Uses.getD ((x131.2.2).toNat) default).Numbers).getD ((x183.2).toNat) default)).toNat < x183.1.length ∧ 0 ≤ ((((y4.Uses.getD ((x131.2.2).toNat) default).Numbers).getD ((x183.2).toNat) default)).toNat) <|
         .ret (.next ((x183.1.set (((((y4.Uses.getD ((x131.2.2).toNat) default).Numbers).getD ((x183.2).toNat) default)).toNat) true), (IntKind.i64.wrap (x183.2 + 1))))))
        (.ret (.out x183.1)))
      (x131.2.1, 0) fun y188 =>
     .ret (.next (x131.1, y188, (IntKind.i64.wrap (x131.2.2 + 1)))))
     (.ret (.out (x131.1, x131.2.1))))
   ((y2 ++ a0), (List.replicate (((y4.Table.length : Nat) : Int)).toNat false), 0) fun y162 =>
  .loop (fun (x245 : Int) => ⟨[(5, .vec 0), (6, .ptr 1 0), (7, .pure (encL 3 enc_Piece y6.1)), (8, .pure (.bool y6.2)), (9, .vec 2), (13, .pure (.int .i64 x245))], [(0, vecS 3 enc_Piece y162.1 45), (1, .box [.pure (encL 3 enc_arr_3_int64 y4.Table), .pure (encL 3 enc_Use y4.Uses)]), (2, vecO 1 encB y162.2 4)], [], 3⟩)
   (.exit 4) (fun (_ : U0) => ⟨[(5, .vec 0), (7, .pure (encL 3 enc_Piece y6.1)), (8, .pure (.bool y6.2))], [(0, vecS 3 enc_Piece y162.1 45)], [], 1⟩)
   (fun x245 => .br (decide (x245 < ((y162.2.length : Nat) : Int)))
     (.loop (fun (x269 : Int) => ⟨[(5, .vec 0), (6, .ptr 1 0), (7, .pure (encL 3 enc_Piece y6.1)), (8, .pure (.bool y6.2)), (9, .vec 2), (13, .pure (.int .i64 x245)), (14, .pure (.int .i64 x269))], [(0, vecS 3 enc_Piece y162.1 45), (1, .box [.pure (encL 3 enc_arr_3_int64 y4.Table), .pure (encL 3 enc_Use y4.Uses)]), (2, vecO 1 encB y162.2 4)], [], 3⟩)
      (.exit 6) (fun (_ : U0) => ⟨[(5, .vec 0), (6, .ptr 1 0), (7, .pure (encL 3 enc_Piece y6.1)), (8, .pure (.bool y6.2)), (9, .vec 2), (13, .pure (.int .i64 x245))], [(0, vecS 3 enc_Piece y162.1 45), (1, .box [.pure (encL 3 enc_arr_3_int64 y4.Table), .pure (encL 3 enc_Use y4.Uses)]), (2, vecO 1 encB y162.2 4)], [], 3⟩)
      (fun x269 => .br (decide (x269 < x245))
        (.grd (0 ≤ x245 ∧ x245 < ((y4.Table.length : Nat) : Int)) <|
        .grd (0 ≤ x269 ∧ x269 < ((y4.Table.length : Nat) : Int)) <|
        .br ((((y4.Table.getD ((x245).toNat) default).1) == ((y4.Table.getD ((x269).toNat) default).1)) && ((((y4.Table.getD ((x245).toNat) default).2.1) == ((y4.Table.getD ((x269).toNat) default).2.1)) && ((((y4.Table.getD ((x245).toNat) default).2.2) == ((y4.Table.getD ((x269).toNat) default).2.2)) && true)))
         (.ret (.fin (.fin false)))
         (.ret (.next (IntKind.i64.wrap (x269 + 1)))))
        (.ret (.out .u)))
      0 fun _ =>
     .grd (0 ≤ x245 ∧ x245 < ((y162.2.length : Nat) : Int)) <|
     .grd ((x245).toNat < y162.2.length) <|
     .br (!(y162.2.getD ((x245).toNat) default))
      (.ret (.fin false))
      (.ret (.next (IntKind.i64.wrap (x245 + 1)))))
     (.ret (.out .u)))
   0 fun _ =>
  .call (law21_awake_F N) (fun y271 => ⟨[], 0, [], [], .pure (.bool y271), []⟩) fun y271 =>
  .br y271
   (.br y6.2
    (.call (make_SamePieces_F N y162.1 y6.1) (fun y272 => ⟨[], 0, [.pure (encL 3 enc_Piece y162.1), .pure (encL 3 enc_Piece y6.1)], [], .pure (.bool y272), []⟩) fun y272 =>
    .ret y272)
    (.ret false))
   (.ret false)

theorem law21_CompactRoundTrip_run (N : Nat) (a0 : (List S_Piece)) (a1 : (List Int)) : (law21_CompactRoundTrip_T N a0 a1).run N = law21_CompactRoundTrip_F N a0 a1 := by kernel_rfl

theorem law21_CompactRoundTrip_vc (N : Nat) (a0 : (List S_Piece)) (a1 : (List Int)) : (vcFuncT Try.prog drawB Try.f4 (Try.f4.body.getD .skip) 0 0 (law21_CompactRoundTrip_T N a0 a1) [.pure (encL 3 enc_Piece a0), .pure (encL 1 encI_i64 a1)] [] (fun r => .pure (.bool r)) (fun _ => [])) =
    (∀ (y : List S_Piece), law21_some_F N a1 = some y → ((aS (AVal.pure (encL 1 encI_i64 a1)) ∧ True) ∧ True ∧ Spec Try.prog 10 0 [AVal.pure (encL 1 encI_i64 a1)] [] (AVal.vec 0) [(0, vecO 3 enc_Piece y 45)]) ∧ ((y.length + a0.length) * 40 ≤ 140737488355328 ∧ y.length + a0.length ≤ 9223372036854775807 → ((y.length + a0.length) * 40 ≤ 140737488355328 ∧ y.length + a0.length ≤ 9223372036854775807) ∧ ∀ (y_1 : S_Packed), compact_Pack_F N (y ++ a0) = some y_1 → ((ASub (AVal.pure (PVal.lst 3 (y.length + a0.length) fun (a : Nat) => appF y.length (el enc_Piece y) (el enc_Piece a0) a)) (AVal.pure (encL 3 enc_Piece (y ++ a0))) ∧ True) ∧ True ∧ Spec Try.prog 14 0 [AVal.pure (encL 3 enc_Piece (y ++ a0))] [] (AVal.pure (PVal.agg [encL 3 enc_arr_3_int64 y_1.Table, encL 3 enc_Use y_1.Uses])) []) ∧ ∀ (y_2 : List S_Piece × Bool), compact_Unpack_F N y_1 = some y_2 → ((aS (AVal.pure (PVal.agg [encL 3 enc_arr_3_int64 y_1.Table, encL 3 enc_Use y_1.Uses])) ∧ True) ∧ True ∧ Spec Try.prog 15 0 [AVal.pure (PVal.agg [encL 3 enc_arr_3_int64 y_1.Table, encL 3 enc_Use y_1.Uses])] [] (AVal.tup [AVal.pure (encL 3 enc_Piece y_2.fst), AVal.pure (PVal.bool y_2.snd)]) []) ∧ (0 ≤ (↑y_1.Table.length : Int) ∧ (↑y_1.Table.length : Int) ≤ (↑y_1.Table.length : Int) ∧ (↑y_1.Table.length : Int) ≤ 9223372036854775807 ∧ (↑y_1.Table.length : Int) * 1 ≤ 140737488355328 → (0 ≤ (↑y_1.Table.length : Int) ∧ (↑y_1.Table.length : Int) ≤ (↑y_1.Table.length : Int) ∧ (↑y_1.Table.length : Int) ≤ 9223372036854775807 ∧ (↑y_1.Table.length : Int) * (↑1 : Int) ≤ 140737488355328) ∧ (∀ (_x : List S_Piece × List Bool × Int), true = true ∧ 0 ≤ 3) ∧ (∀ (_y : List S_Piece × List Bool), true = true ∧ 0 ≤ 3) ∧ ((aS (AVal.vec 256) ∧ aS (AVal.ptr 512 0) ∧ aS (AVal.pure (encL 3 enc_Piece y_2.fst)) ∧ aS (AVal.pure (PVal.bool y_2.snd)) ∧ aS (AVal.vec 1280) ∧ aS (aI 0) ∧ True) ∧ (RSub (Res.vec 3 (y.length + a0.length) (fun (a : Nat) => appF y.length (el enc_Piece y) (el enc_Piece a0) a) (y.length + a0.length) 45) (vecS 3 enc_Piece (y ++ a0) 45) ∧ rS (Res.box [AVal.pure (encL 3 enc_arr_3_int64 y_1.Table), AVal.pure (encL 3 enc_Use y_1.Uses)]) ∧ RSub (Res.vec 1 (↑y_1.Table.length : Int).toNat (fun (_x : Nat) => PVal.bool false) 0 4) (vecO 1 encB (List.replicate (↑y_1.Table.length : Int).toNat false) 4) ∧ True) ∧ True) ∧ (∀ (x : List S_Piece × List Bool × Int), decide (x.snd.snd < (↑y_1.Uses.length : Int)) = decide (x.snd.snd < (↑y_1.Uses.length : Int)) ∧ (decide (x.snd.snd < (↑y_1.Uses.length : Int)) = true → (∀ (_x : List Bool × Int), true = true ∧ 0 ≤ 3) ∧ (∀ (_y : List Bool), true = true ∧ 0 ≤ 3) ∧ ((aS (AVal.vec 0) ∧ aS (AVal.ptr 1 0) ∧ aS (AVal.pure (encL 3 enc_Piece y_2.fst)) ∧ aS (AVal.pure (PVal.bool y_2.snd)) ∧ aS (AVal.vec 2) ∧ aS (aI x.snd.snd) ∧ aS (aI 0) ∧ True) ∧ (rS (vecS 3 enc_Piece x.fst 45) ∧ rS (Res.box [AVal.pure (encL 3 enc_arr_3_int64 y_1.Table), AVal.pure (encL 3 enc_Use y_1.Uses)]) ∧ rS (vecO 1 encB x.snd.fst 4) ∧ True) ∧ True) ∧ (∀ (x_1 : List Bool × Int), 0 ≤ x.snd.snd ∧ x.snd.snd < (↑y_1.Uses.length : Int) → (0 ≤ x.snd.snd ∧ x.snd.snd < (↑y_1.Uses.length : Int)) ∧ decide (x_1.snd < (↑(y_1.Uses.getD x.snd.snd.toNat default).Numbers.length : Int)) = decide (x_1.snd < (↑(y_1.Uses.getD x.snd.snd.toNat default).Numbers.length : Int)) ∧ (decide (x_1.snd < (↑(y_1.Uses.getD x.snd.snd.toNat default).Numbers.length : Int)) = true → 0 ≤ x.snd.snd ∧ x.snd.snd < (↑y_1.Uses.length : Int) → (0 ≤ x.snd.snd ∧ x.snd.snd < (↑y_1.Uses.length : Int)) ∧ (0 ≤ x_1.snd ∧ x_1.snd < (↑(y_1.Uses.getD x.snd.snd.toNat default).Numbers.length : Int) → (0 ≤ x_1.snd ∧ x_1.snd < (↑(y_1.Uses.getD x.snd.snd.toNat default).Numbers.length : Int)) ∧ (∀ (_y : Bool), true = true ∧ 0 ≤ 3) ∧ (decide ((y_1.Uses.getD x.snd.snd.toNat default).Numbers.getD x_1.snd.toNat default < 0) = decide ((y_1.Uses.getD x.snd.snd.toNat default).Numbers.getD x_1.snd.toNat default < 0) ∧ (decide ((y_1.Uses.getD x.snd.snd.toNat default).Numbers.getD x_1.snd.toNat default < 0) = true → (aS (AVal.vec 0) ∧ aS (AVal.ptr 1 0) ∧ aS (AVal.pure (encL 3 enc_Piece y_2.fst)) ∧ aS (AVal.pure (PVal.bool y_2.snd)) ∧ aS (AVal.vec 2) ∧ aS (aI x.snd.snd) ∧ aS (aI x_1.snd) ∧ aS (aI ((y_1.Uses.getD x.snd.snd.toNat default).Numbers.getD x_1.snd.toNat default)) ∧ ASub AVal.tt (AVal.pure (PVal.bool true)) ∧ True) ∧ (rS (vecS 3 enc_Piece x.fst 45) ∧ rS (Res.box [AVal.pure (encL 3 enc_arr_3_int64 y_1.Table), AVal.pure (encL 3 enc_Use y_1.Uses)]) ∧ rS (vecO 1 encB x_1.fst 4) ∧ True) ∧ True) ∧ (decide ((y_1.Uses.getD x.snd.snd.toNat default).Numbers.getD x_1.snd.toNat default < 0) = false → (aS (AVal.vec 0) ∧ aS (AVal.ptr 1 0) ∧ aS (AVal.pure (encL 3 enc_Piece y_2.fst)) ∧ aS (AVal.pure (PVal.bool y_2.snd)) ∧ aS (AVal.vec 2) ∧ aS (aI x.snd.snd) ∧ aS (aI x_1.snd) ∧ aS (aI ((y_1.Uses.getD x.snd.snd.toNat default).Numbers.getD x_1.snd.toNat default)) ∧ aS (AVal.pure (PVal.bool (decide ((y_1.Uses.getD x.snd.snd.toNat default).Numbers.getD x_1.snd.toNat default ≥ (↑x_1.fst.length : Int))))) ∧ True) ∧ (rS (vecS 3 enc_Piece x.fst 45) ∧ rS (Res.box [AVal.pure (encL 3 enc_arr_3_int64 y_1.Table), AVal.pure (encL 3 enc_Use y_1.Uses)]) ∧ rS (vecO 1 encB x_1.fst 4) ∧ True) ∧ True)) ∧ ∀ (y : Bool), y = y ∧ (y = true → (aS (AVal.pure (PVal.bool false)) ∧ True) ∧ True ∧ True) ∧ (y = false → 0 ≤ (y_1.Uses.getD x.snd.snd.toNat default).Numbers.getD x_1.snd.toNat default ∧ (y_1.Uses.getD x.snd.snd.toNat default).Numbers.getD x_1.snd.toNat default < (↑x_1.fst.length : Int) → (0 ≤ (y_1.Uses.getD x.snd.snd.toNat default).Numbers.getD x_1.snd.toNat default ∧ (y_1.Uses.getD x.snd.snd.toNat default).Numbers.getD x_1.snd.toNat default < (↑x_1.fst.length : Int)) ∧ (((y_1.Uses.getD x.snd.snd.toNat default).Numbers.getD x_1.snd.toNat default).toNat < x_1.fst.length ∧ 0 ≤ ((y_1.Uses.getD x.snd.snd.toNat default).Numbers.getD x_1.snd.toNat default).toNat → (((y_1.Uses.getD x.snd.snd.toNat default).Numbers.getD x_1.snd.toNat default).toNat < x_1.fst.length ∧ 0 ≤ ((y_1.Uses.getD x.snd.snd.toNat default).Numbers.getD x_1.snd.toNat default).toNat) ∧ (aS (AVal.vec 0) ∧ aS (AVal.ptr 1 0) ∧ aS (AVal.pure (encL 3 enc_Piece y_2.fst)) ∧ aS (AVal.pure (PVal.bool y_2.snd)) ∧ aS (AVal.vec 2) ∧ aS (aI x.snd.snd) ∧ aS (aI (IntKind.i64.wrap (x_1.snd + 1))) ∧ True) ∧ (rS (vecS 3 enc_Piece x.fst 45) ∧ rS (Res.box [AVal.pure (encL 3 enc_arr_3_int64 y_1.Table), AVal.pure (encL 3 enc_Use y_1.Uses)]) ∧ RSub (Res.vec 1 x_1.fst.length (fun (j : Nat) => if j = ((y_1.Uses.getD x.snd.snd.toNat default).Numbers.getD x_1.snd.toNat default).toNat then mkElem (el encB x_1.fst ((y_1.Uses.getD x.snd.snd.toNat default).Numbers.getD x_1.snd.toNat default).toNat) (List.take 0 (el encB x_1.fst ((y_1.Uses.getD x.snd.snd.toNat default).Numbers.getD x_1.snd.toNat default).toNat).cells ++ [PVal.bool true] ++ List.drop 1 (el encB x_1.fst ((y_1.Uses.getD x.snd.snd.toNat default).Numbers.getD x_1.snd.toNat default).toNat).cells) else el encB x_1.fst j) 0 4) (vecO 1 encB (x_1.fst.set ((y_1.Uses.getD x.snd.snd.toNat default).Numbers.getD x_1.snd.toNat default).toNat true) 4) ∧ True) ∧ True)))) ∧ (decide (x_1.snd < (↑(y_1.Uses.getD x.snd.snd.toNat default).Numbers.length : Int)) = false → (aS (AVal.vec 0) ∧ aS (AVal.ptr 1 0) ∧ aS (AVal.pure (encL 3 enc_Piece y_2.fst)) ∧ aS (AVal.pure (PVal.bool y_2.snd)) ∧ aS (AVal.vec 2) ∧ aS (aI x.snd.snd) ∧ True) ∧ (rS (vecS 3 enc_Piece x.fst 45) ∧ rS (Res.box [AVal.pure (encL 3 enc_arr_3_int64 y_1.Table), AVal.pure (encL 3 enc_Use y_1.Uses)]) ∧ rS (vecO 1 encB x_1.fst 4) ∧ True) ∧ True)) ∧ ∀ (y : List Bool), (aS (AVal.vec 0) ∧ aS (AVal.ptr 1 0) ∧ aS (AVal.pure (encL 3 enc_Piece y_2.fst)) ∧ aS (AVal.pure (PVal.bool y_2.snd)) ∧ aS (AVal.vec 2) ∧ aS (aI (IntKind.i64.wrap (x.snd.snd + 1))) ∧ True) ∧ (rS (vecS 3 enc_Piece x.fst 45) ∧ rS (Res.box [AVal.pure (encL 3 enc_arr_3_int64 y_1.Table), AVal.pure (encL 3 enc_Use y_1.Uses)]) ∧ rS (vecO 1 encB y 4) ∧ True) ∧ True) ∧ (decide (x.snd.snd < (↑y_1.Uses.length : Int)) = false → (aS (AVal.vec 0) ∧ aS (AVal.ptr 1 0) ∧ aS (AVal.pure (encL 3 enc_Piece y_2.fst)) ∧ aS (AVal.pure (PVal.bool y_2.snd)) ∧ aS (AVal.vec 2) ∧ True) ∧ (rS (vecS 3 enc_Piece x.fst 45) ∧ rS (Res.box [AVal.pure (encL 3 enc_arr_3_int64 y_1.Table), AVal.pure (encL 3 enc_Use y_1.Uses)]) ∧ rS (vecO 1 encB x.snd.fst 4) ∧ True) ∧ True)) ∧ ∀ (y : List S_Piece × List Bool), (∀ (_x : Int), true = true ∧ 0 ≤ 3) ∧ (∀ (_y : U0), true = true ∧ 0 ≤ 1) ∧ ((aS (AVal.vec 0) ∧ aS (AVal.ptr 1 0) ∧ aS (AVal.pure (encL 3 enc_Piece y_2.fst)) ∧ aS (AVal.pure (PVal.bool y_2.snd)) ∧ aS (AVal.vec 2) ∧ aS (aI 0) ∧ True) ∧ (rS (vecS 3 enc_Piece y.fst 45) ∧ rS (Res.box [AVal.pure (encL 3 enc_arr_3_int64 y_1.Table), AVal.pure (encL 3 enc_Use y_1.Uses)]) ∧ rS (vecO 1 encB y.snd 4) ∧ True) ∧ True) ∧ (∀ (x : Int), decide (x < (↑y.snd.length : Int)) = decide (x < (↑y.snd.length : Int)) ∧ (decide (x < (↑y.snd.length : Int)) = true → (∀ (_x : Int), true = true ∧ 0 ≤ 3) ∧ (∀ (_y : U0), true = true ∧ 0 ≤ 3) ∧ ((aS (AVal.vec 0) ∧ aS (AVal.ptr 1 0) ∧ aS (AVal.pure (encL 3 enc_Piece y_2.fst)) ∧ aS (AVal.pure (PVal.bool y_2.snd)) ∧ aS (AVal.vec 2) ∧ aS (aI x) ∧ aS (aI 0) ∧ True) ∧ (rS (vecS 3 enc_Piece y.fst 45) ∧ rS (Res.box [AVal.pure (encL 3 enc_arr_3_int64 y_1.Table), AVal.pure (encL 3 enc_Use y_1.Uses)]) ∧ rS (vecO 1 encB y.snd 4) ∧ True) ∧ True) ∧ (∀ (x_1 : Int), decide (x_1 < x) = decide (x_1 < x) ∧ (decide (x_1 < x) = true → 0 ≤ x ∧ x < (↑y_1.Table.length : Int) → (0 ≤ x ∧ x < (↑y_1.Table.length : Int)) ∧ (0 ≤ x_1 ∧ x_1 < (↑y_1.Table.length : Int) → (0 ≤ x_1 ∧ x_1 < (↑y_1.Table.length : Int)) ∧ ((y_1.Table.getD x.toNat default).fst == (y_1.Table.getD x_1.toNat default).fst && ((y_1.Table.getD x.toNat default).snd.fst == (y_1.Table.getD x_1.toNat default).snd.fst && ((y_1.Table.getD x.toNat default).snd.snd == (y_1.Table.getD x_1.toNat default).snd.snd && true))) = ((y_1.Table.getD x.toNat default).fst == (y_1.Table.getD x_1.toNat default).fst && ((y_1.Table.getD x.toNat default).snd.fst == (y_1.Table.getD x_1.toNat default).snd.fst && ((y_1.Table.getD x.toNat default).snd.snd == (y_1.Table.getD x_1.toNat default).snd.snd && true))) ∧ (((y_1.Table.getD x.toNat default).fst == (y_1.Table.getD x_1.toNat default).fst && ((y_1.Table.getD x.toNat default).snd.fst == (y_1.Table.getD x_1.toNat default).snd.fst && ((y_1.Table.getD x.toNat default).snd.snd == (y_1.Table.getD x_1.toNat default).snd.snd && true))) = true → (aS (AVal.pure (PVal.bool false)) ∧ True) ∧ True ∧ True) ∧ (((y_1.Table.getD x.toNat default).fst == (y_1.Table.getD x_1.toNat default).fst && ((y_1.Table.getD x.toNat default).snd.fst == (y_1.Table.getD x_1.toNat default).snd.fst && ((y_1.Table.getD x.toNat default).snd.snd == (y_1.Table.getD x_1.toNat default).snd.snd && true))) = false → (aS (AVal.vec 0) ∧ aS (AVal.ptr 1 0) ∧ aS (AVal.pure (encL 3 enc_Piece y_2.fst)) ∧ aS (AVal.pure (PVal.bool y_2.snd)) ∧ aS (AVal.vec 2) ∧ aS (aI x) ∧ aS (aI (IntKind.i64.wrap (x_1 + 1))) ∧ True) ∧ (rS (vecS 3 enc_Piece y.fst 45) ∧ rS (Res.box [AVal.pure (encL 3 enc_arr_3_int64 y_1.Table), AVal.pure (encL 3 enc_Use y_1.Uses)]) ∧ rS (vecO 1 encB y.snd 4) ∧ True) ∧ True))) ∧ (decide (x_1 < x) = false → (aS (AVal.vec 0) ∧ aS (AVal.ptr 1 0) ∧ aS (AVal.pure (encL 3 enc_Piece y_2.fst)) ∧ aS (AVal.pure (PVal.bool y_2.snd)) ∧ aS (AVal.vec 2) ∧ aS (aI x) ∧ True) ∧ (rS (vecS 3 enc_Piece y.fst 45) ∧ rS (Res.box [AVal.pure (encL 3 enc_arr_3_int64 y_1.Table), AVal.pure (encL 3 enc_Use y_1.Uses)]) ∧ rS (vecO 1 encB y.snd 4) ∧ True) ∧ True)) ∧ ∀ (_y : U0), 0 ≤ x ∧ x < (↑y.snd.length : Int) → (0 ≤ x ∧ x < (↑y.snd.length : Int)) ∧ (x.toNat < y.snd.length → x.toNat < y.snd.length ∧ (!y.snd.getD x.toNat default) = !y.snd.getD x.toNat default ∧ ((!y.snd.getD x.toNat default) = true → (aS (AVal.pure (PVal.bool false)) ∧ True) ∧ True ∧ True) ∧ ((!y.snd.getD x.toNat default) = false → (aS (AVal.vec 0) ∧ aS (AVal.ptr 1 0) ∧ aS (AVal.pure (encL 3 enc_Piece y_2.fst)) ∧ aS (AVal.pure (PVal.bool y_2.snd)) ∧ aS (AVal.vec 2) ∧ aS (aI (IntKind.i64.wrap (x + 1))) ∧ True) ∧ (rS (vecS 3 enc_Piece y.fst 45) ∧ rS (Res.box [AVal.pure (encL 3 enc_arr_3_int64 y_1.Table), AVal.pure (encL 3 enc_Use y_1.Uses)]) ∧ rS (vecO 1 encB y.snd 4) ∧ True) ∧ True))) ∧ (decide (x < (↑y.snd.length : Int)) = false → (aS (AVal.vec 0) ∧ aS (AVal.pure (encL 3 enc_Piece y_2.fst)) ∧ aS (AVal.pure (PVal.bool y_2.snd)) ∧ True) ∧ (rS (vecS 3 enc_Piece y.fst 45) ∧ True) ∧ True)) ∧ ∀ (_y : U0) (y_3 : Bool), law21_awake_F N = some y_3 → (True ∧ True ∧ Spec Try.prog 11 0 [] [] (AVal.pure (PVal.bool y_3)) []) ∧ y_3 = y_3 ∧ (y_3 = true → y_2.snd = y_2.snd ∧ (y_2.snd = true → ∀ (y_4 : Bool), make_SamePieces_F N y.fst y_2.fst = some y_4 → ((aS (AVal.pure (encL 3 enc_Piece y.fst)) ∧ aS (AVal.pure (encL 3 enc_Piece y_2.fst)) ∧ True) ∧ True ∧ Spec Try.prog 16 0 [AVal.pure (encL 3 enc_Piece y.fst), AVal.pure (encL 3 enc_Piece y_2.fst)] [] (AVal.pure (PVal.bool y_4)) []) ∧ (aS (AVal.pure (PVal.bool y_4)) ∧ True) ∧ True ∧ True) ∧ (y_2.snd = false → (aS (AVal.pure (PVal.bool false)) ∧ True) ∧ True ∧ True)) ∧ (y_3 = false → (aS (AVal.pure (PVal.bool false)) ∧ True) ∧ True ∧ True)))) := by kernel_rfl


set_option maxHeartbeats 4000000 in
theorem law21_CompactRoundTrip_spec (hd : DrawSound Try.prog drawB) {N : Nat} {a0 : (List S_Piece)} {a1 : (List Int)} {r : Bool} (h : law21_CompactRoundTrip_F N a0 a1 = some r) : Spec Try.prog 4 0 [.pure (encL 3 enc_Piece a0), .pure (encL 1 encI_i64 a1)] [] (.pure (.bool r)) ([]) := by
  refine spec_ofT (n0 := 0) (res := fun r => .pure (.bool r)) (m' := fun _ => []) (law21_CompactRoundTrip_T N a0 a1) ((law21_CompactRoundTrip_run N a0 a1).trans h) hd Try.func4 (by kernel_rfl) (by kernel_rfl) ?_
  rw [law21_CompactRoundTrip_vc]
  repeat' (first | exact trivial | exact ASub.refl _ | exact RSub.refl _ | exact law21_some_spec hd (by assumption) | exact compact_Pack_spec hd (by assumption) | exact compact_Unpack_spec hd (by assumption) | exact law21_awake_spec hd (by assumption) | exact make_SamePieces_spec hd (by assumption) | assumption | rfl | (apply And.intro) | (intro _) | exact nl_a | exact ASub.tt rfl | exact ASub.ff rfl | exact mapR_upE rfl | exact RSub.nilv rfl rfl | exact IsL.el | exact IsL.nl | exact IsL.lit (CSubs.of_eq rfl) rfl | refine IsL.lit ?_ rfl | exact IsL.rep (CSub.of_eq rfl) | refine IsL.a ?_ | refine IsL.r0 ?_ | refine IsL.r ?_ ?_ | refine IsL.app ?_ ?_ | refine IsL.set ?_ (CSub.of_eq rfl) | refine IsL.set ?_ ?_ | refine IsL.slice ?_ ?_ ?_ | refine IsL.take ?_ ?_ | exact CSubs.nil' | refine CSubs.cons' ?_ ?_ | exact CSub.refl _ | exact nl_c | refine CSub.agg ?_ | refine IsL.c ?_ | exact PSubs.nil' | refine PSubs.cons' ?_ ?_ | exact PSub.refl _ | exact nl_p | refine IsL.p ?_ | refine (PSub.agg ?_).a | refine PSub.agg ?_ | refine ASub.agg ?_ | refine RSub.box ?_ | refine tup_a ?_ | refine ASub.p ?_ | omega)

noncomputable def law21_CompactLeast_F (N : Nat) (a0 : (List Int)) (a1 : (List Int)) : Option Bool :=
  (law21_some_F N a0).bind fun y2 =>
  (make_From_F N a1).bind fun y4 =>
  andK (iter (fun (x8249 : ((List Int) × Int × (List (Int × Int × Int)) × (List S_Use) × Int)) => (
   bif (decide (x8249.2.2.2.2 < ((y2.length : Nat) : Int))) then
    grd (0 ≤ x8249.2.2.2.2 ∧ x8249.2.2.2.2 < ((y2.length : Nat) : Int)) <|
    grd ((x8249.2.2.2.2).toNat < y2.length) <|
    grd (0 ≤ x8249.2.2.2.2 ∧ x8249.2.2.2.2 < ((y2.length : Nat) : Int)) <|
    grd ((x8249.2.2.2.2).toNat < y2.length) <|
    andK (iter (fun (x12013 : ((List Int) × Int × (List (Int × Int × Int)) × (List Int) × Int)) => (
     grd (0 ≤ x8249.2.2.2.2 ∧ x8249.2.2.2.2 < ((y2.length : Nat) : Int)) <|
     grd ((x8249.2.2.2.2).toNat < y2.length) <|
     bif (decide (x12013.2.2.2.2 < (((y2.getD ((x8249.2.2.2.2).toNat) default).Normals.length : Nat) : Int))) then
      andK (iter (fun (x12326 : ((List Int) × Int × Int × Int)) => (
       bif (decide (x12326.2.2.2 < ((x12013.2.2.1.length : Nat) : Int))) then
        andC (
         andC (
          grd (0 ≤ x12326.2.2.2 ∧ x12326.2.2.2 < ((x12013.2.2.1.length : Nat) : Int)) <|
          grd ((x12326.2.2.2).toNat < x12013.2.2.1.length) <|
          grd (0 ≤ x8249.2.2.2.2 ∧ x8249.2.2.2.2 < ((y2.length : Nat) : Int)) <|
          grd ((x8249.2.2.2.2).toNat < y2.length) <|
          grd (0 ≤ x12013.2.2.2.2 ∧ x12013.2.2.2.2 < (((y2.getD ((x8249.2.2.2.2).toNat) default).Normals.length : Nat) : Int)) <|
          bif ((((x12013.2.2.1.getD ((x12326.2.2.2).toNat) default).1) == ((((y2.getD ((x8249.2.2.2.2).toNat) default).Normals).getD ((x12013.2.2.2.2).toNat) default).1)) && ((((x12013.2.2.1.getD ((x12326.2.2.2).toNat) default).2.1) == ((((y2.getD ((x8249.2.2.2.2).toNat) default).Normals).getD ((x12013.2.2.2.2).toNat) default).2.1)) && ((((x12013.2.2.1.getD ((x12326.2.2.2).toNat) default).2.2) == ((((y2.getD ((x8249.2.2.2.2).toNat) default).Normals).getD ((x12013.2.2.2.2).toNat) default).2.2)) && true))) then
           (Source_Next_F N x12326.1 x12326.2.1 4).bind fun y12353 =>
           some (.out (y12353.2.1, y12353.2.2, (decide (y12353.1 > 0))))
          else
           some (.out (x12326.1, x12326.2.1, false)) : Option (Step3 Unit ((List Int) × Int × Bool) _)) fun y12352 =>
         bif y12352.2.2 then
          some (.out (y12352.1, y12352.2.1, x12326.2.2.2))
         else
          some (.out (y12352.1, y12352.2.1, x12326.2.2.1)) : Option (Step3 Unit ((List Int) × Int × Int) _)) fun y12349 =>
        some (.next (y12349.1, y12349.2.1, y12349.2.2, (IntKind.i64.wrap (x12326.2.2.2 + 1))))
       else
        some (.out (x12326.1, x12326.2.1, x12326.2.2.1)) : Option (Step3 ((List Int) × Int × Int × Int) ((List Int) × Int × Int) _))) N (x12013.1, x12013.2.1, (-1), 0)) fun y12340 =>
      andC (
       bif (decide (y12340.2.2 < 0)) then
        grd (0 ≤ x8249.2.2.2.2 ∧ x8249.2.2.2.2 < ((y2.length : Nat) : Int)) <|
        grd ((x8249.2.2.2.2).toNat < y2.length) <|
        grd (0 ≤ x12013.2.2.2.2 ∧ x12013.2.2.2.2 < (((y2.getD ((x8249.2.2.2.2).toNat) default).Normals.length : Nat) : Int)) <|
        grd ((x12013.2.2.1.length + 1) * 24 ≤ 140737488355328 ∧ (x12013.2.2.1.length + 1) ≤ maxLen) <|
        some (.out ((x12013.2.2.1 ++ ([(((y2.getD ((x8249.2.2.2.2).toNat) default).Normals).getD ((x12013.2.2.2.2).toNat) default)] : (List (Int × Int × Int)))), ((x12013.2.2.1.length : Nat) : Int)))
       else
        some (.out (x12013.2.2.1, y12340.2.2)) : Option (Step3 Unit ((List (Int × Int × Int)) × Int) _)) fun y12354 =>
      grd ((x12013.2.2.2.1.length + 1) * 8 ≤ 140737488355328 ∧ (x12013.2.2.2.1.length + 1) ≤ maxLen) <|
      some (.next (y12340.1, y12340.2.1, y12354.1, (x12013.2.2.2.1 ++ ([y12354.2] : (List Int))), (IntKind.i64.wrap (x12013.2.2.2.2 + 1))))
     else
      some (.out (x12013.1, x12013.2.1, x12013.2.2.1, x12013.2.2.2.1)) : Option (Step3 ((List Int) × Int × (List (Int × Int × Int)) × (List Int) × Int) ((List Int) × Int × (List (Int × Int × Int)) × (List Int)) _))) N (x8249.1, x8249.2.1, x8249.2.2.1, nl, 0)) fun y12184 =>
    grd ((x8249.2.2.2.1.length + 1) * 40 ≤ 140737488355328 ∧ (x8249.2.2.2.1.length + 1) ≤ maxLen) <|
    some (.next (y12184.1, y12184.2.1, y12184.2.2.1, (x8249.2.2.2.1 ++ ([(⟨(y2.getD ((x8249.2.2.2.2).toNat) default).Depth, (y2.getD ((x8249.2.2.2.2).toNat) default).Index, y12184.2.2.2⟩ : S_Use)] : (List S_Use))), (IntKind.i64.wrap (x8249.2.2.2.2 + 1))))
   else
    some (.out (x8249.2.2.1, x8249.2.2.2.1)) : Option (Step3 ((List Int) × Int × (List (Int × Int × Int)) × (List S_Use) × Int) ((List (Int × Int × Int)) × (List S_Use)) _))) N (y4.1, y4.2, nl, nl, 0)) fun y10302 =>
  (compact_Unpack_F N (⟨y10302.1, y10302.2⟩ : S_Packed)).bind fun y12356 =>
  (law21_awake_F N).bind fun y12357 =>
  bif y12357 then
   bif y12356.2 then
    (make_SamePieces_F N y2 y12356.1).bind fun y12358 =>
    bif y12358 then
     (compact_Pack_F N y2).bind fun y12359 =>
     (compact_Size_F N y12359).bind fun y12360 =>
     (compact_Size_F N (⟨y10302.1, y10302.2⟩ : S_Packed)).bind fun y12361 =>
     some (decide (y12360 ≤ y12361))
    else
     some false
   else
    some false
  else
   some false

noncomputable def law21_CompactLeast_T (N : Nat) (a0 : (List Int)) (a1 : (List Int)) : T Bool :=
  .call (law21_some_F N a0) (fun y2 => ⟨[], 0, [.pure (encL 1 encI_i64 a0)], [], .vec 0, [(0, vecO 3 enc_Piece y2 45)]⟩) fun y2 =>
  .call (make_From_F N a1) (fun y4 => ⟨[], 0, [.pure (encL 1 encI_i64 a1)], [], .ptr 0 0, [(0, .box [.pure (encL 1 encI_i64 y4.1), .pure (.int .i64 y4.2)])]⟩) fun y4 =>
  .loop (fun (x8249 : ((List Int) × Int × (List (Int × Int × Int)) × (List S_Use) × Int)) => ⟨[(5, .vec 0), (6, .ptr 1 0), (7, .ptr 2 0), (8, .pure (.int .i64 x8249.2.2.2.2))], [(0, vecO 3 enc_Piece y2 45), (1, .box [.pure (encL 1 encI_i64 x8249.1), .pure (.int .i64 x8249.2.1)]), (2, .box [.vec 3, .vec 4]), (3, vecO 3 enc_arr_3_int64 x8249.2.2.1 39), (4, vecO 3 enc_Use x8249.2.2.2.1 37)], [], 5⟩)
   (.exit 0) (fun (y10302 : ((List (Int × Int × Int)) × (List S_Use))) => ⟨[(5, .vec 0), (7, .ptr 1 0)], [(0, vecO 3 enc_Piece y2 45), (1, .box [.vec 2, .vec 3]), (2, vecO 3 enc_arr_3_int64 y10302.1 39), (3, vecO 3 enc_Use y10302.2 37)], [], 4⟩)
   (fun x8249 => .br (decide (x8249.2.2.2.2 < ((y2.length : Nat) : Int)))
     (.grd (0 ≤ x8249.2.2.2.2 ∧ x8249.2.2.2.2 < ((y2.length : Nat) : Int)) <|
     .grd ((x8249.2.2.2.2).toNat < y2.length) <|
     .grd (0 ≤ x8249.2.2.2.2 ∧ x8249.2.2.2.2 < ((y2.length : Nat) : Int)) <|
     .grd ((x8249.2.2.2.2).toNat < y2.length) <|
     .loop (fun (x12013 : ((List Int) × Int × (List (Int × Int × Int)) × (List Int) × Int)) => ⟨[(5, .vec 0), (6, .ptr 1 0), (7, .ptr 2 0), (8, .pure (.int .i64 x8249.2.2.2.2)), (9, .ptr 5 0), (10, .pure (.int .i64 x12013.2.2.2.2))], [(0, vecO 3 enc_Piece y2 45), (1, .box [.pure (encL 1 encI_i64 x12013.1), .pure (.int .i64 x12013.2.1)]), (2, .box [.vec 3, .vec 4]), (3, vecO 3 enc_arr_3_int64 x12013.2.2.1 39), (4, vecO 3 enc_Use x8249.2.2.2.1 37), (5, .box [.pure (.int .i64 ((y2.getD ((x8249.2.2.2.2).toNat) default).Depth)), .pure (.int .i64 ((y2.getD ((x8249.2.2.2.2).toNat) default).Index)), .vec 6]), (6, vecO 1 encI_i64 x12013.2.2.2.1 3)], [], 7⟩)
      (.exit 2) (fun (y12184 : ((List Int) × Int × (List (Int × Int × Int)) × (List Int))) => ⟨[(5, .vec 0), (6, .ptr 1 0), (7, .ptr 2 0), (8, .pure (.int .i64 x8249.2.2.2.2)), (9, .ptr 5 0)], [(0, vecO 3 enc_Piece y2 45), (1, .box [.pure (encL 1 encI_i64 y12184.1), .pure (.int .i64 y12184.2.1)]), (2, .box [.vec 3, .vec 4]), (3, vecO 3 enc_arr_3_int64 y12184.2.2.1 39), (4, vecO 3 enc_Use x8249.2.2.2.1 37), (5, .box [.pure (.int .i64 ((y2.getD ((x8249.2.2.2.2).toNat) default).Depth)), .pure (.int .i64 ((y2.getD ((x8249.2.2.2.2).toNat) default).Index)), .vec 6]), (6, vecO 1 encI_i64 y12184.2.2.2 3)], [], 7⟩)
      (fun x12013 => .grd (0 ≤ x8249.2.2.2.2 ∧ x8249.2.2.2.2 < ((y2.length : Nat) : Int)) <|
       .grd ((x8249.2.2.2.2).toNat < y2.length) <|
       .br (decide (x12013.2.2.2.2 < (((y2.getD ((x8249.2.2.2.2).toNat) default).Normals.length : Nat) : Int)))
        (.loop (fun (x12326 : ((List Int) × Int × Int × Int)) => ⟨[(5, .vec 0), (6, .ptr 1 0), (7, .ptr 2 0), (8, .pure (.int .i64 x8249.2.2.2.2)), (9, .ptr 5 0), (10, .pure (.int .i64 x12013.2.2.2.2)), (11, .pure (.int .i64 x12326.2.2.1)), (12, .pure (.int .i64 x12326.2.2.2))], [(0, vecO 3 enc_Piece y2 45), (1, .box [.pure (encL 1 encI_i64 x12326.1), .pure (.int .i64 x12326.2.1)]), (2, .box [.vec 3, .vec 4]), (3, vecO 3 enc_arr_3_int64 x12013.2.2.1 39), (4, vecO 3 enc_Use x8249.2.2.2.1 37), (5, .box [.pure (.int .i64 ((y2.getD ((x8249.2.2.2.2).toNat) default).Depth)), .pure (.int .i64 ((y2.getD ((x8249.2.2.2.2).toNat) default).Index)), .vec 6]), (6, vecO 1 encI_i64 x12013.2.2.2.1 3)], [], 7⟩)
         (.exit 4) (fun (y12340 : ((List Int) × Int × Int)) => ⟨[(5, .vec 0), (6, .ptr 1 0), (7, .ptr 2 0), (8, .pure (.int .i64 x8249.2.2.2.2)), (9, .ptr 5 0), (10, .pure (.int .i64 x12013.2.2.2.2)), (11, .pure (.int .i64 y12340.2.2))], [(0, vecO 3 enc_Piece y2 45), (1, .box [.pure (encL 1 encI_i64 y12340.1), .pure (.int .i64 y12340.2.1)]), (2, .box [.vec 3, .vec 4]), (3, vecO 3 enc_arr_3_int64 x12013.2.2.1 39), (4, vecO 3 enc_Use x8249.2.2.2.1 37), (5, .box [.pure (.int .i64 ((y2.getD ((x8249.2.2.2.2).toNat) default).Depth)), .pure (.int .i64 ((y2.getD ((x8249.2.2.2.2).toNat) default).Index)), .vec 6]), (6, vecO 1 encI_i64 x12013.2.2.2.1 3)], [], 7⟩)
         (fun x12326 => .br (decide (x12326.2.2.2 < ((x12013.2.2.1.length : Nat) : Int)))
           (.cut 0 (fun (y12349 : ((List Int) × Int × Int)) => ⟨[(5, .vec 0), (6, .ptr 1 0), (7, .ptr 2 0), (8, .pure (.int .i64 x8249.2.2.2.2)), (9, .ptr 5 0), (10, .pure (.int .i64 x12013.2.2.2.2)), (11, .pure (.int .i64 y12349.2.2)), (12, .pure (.int .i64 x12326.2.2.2))], [(0, vecO 3 enc_Piece y2 45), (1, .box [.pure (encL 1 encI_i64 y12349.1), .pure (.int .i64 y12349.2.1)]), (2, .box [.vec 3, .vec 4]), (3, vecO 3 enc_arr_3_int64 x12013.2.2.1 39), (4, vecO 3 enc_Use x8249.2.2.2.1 37), (5, .box [.pure (.int .i64 ((y2.getD ((x8249.2.2.2.2).toNat) default).Depth)), .pure (.int .i64 ((y2.getD ((x8249.2.2.2.2).toNat) default).Index)), .vec 6]), (6, vecO 1 encI_i64 x12013.2.2.2.1 3)], [], 7⟩)
            (.cut 0 (fun (y12352 : ((List Int) × Int × Bool)) => ⟨[(5, .vec 0), (6, .ptr 1 0), (7, .ptr 2 0), (8, .pure (.int .i64 x8249.2.2.2.2)), (9, .ptr 5 0), (10, .pure (.int .i64 x12013.2.2.2.2)), (11, .pure (.int .i64 x12326.2.2.1)), (12, .pure (.int .i64 x12326.2.2.2)), (71, .pure (.bool y12352.2.2))], [(0, vecO 3 enc_Piece y2 45), (1, .box [.pure (encL 1 encI_i64 y12352.1), .pure (.int .i64 y12352.2.1)]), (2, .box [.vec 3, .vec 4]), (3, vecO 3 enc_arr_3_int64 x12013.2.2.1 39), (4, vecO 3 enc_Use x8249.2.2.2.1 37), (5, .box [.pure (.int .i64 ((y2.getD ((x8249.2.2.2.2).toNat) default).Depth)), .pure (.int .i64 ((y2.getD ((x8249.2.2.2.2).toNat) default).Index)), .vec 6]), (6, vecO 1 encI_i64 x12013.2.2.2.1 3)], [], 7⟩)
             (.grd (0 ≤ x12326.2.2.2 ∧ x12326.2.2.2 < ((x12013.2.2.1.length : Nat) : Int)) <|
             .grd ((x12326.2.2.2).toNat < x12013.2.2.1.length) <|
             .grd (0 ≤ x8249.2.2.2.2 ∧ x8249.2.2.2.2 < ((y2.length : Nat) : Int)) <|
             .grd ((x8249.2.2.2.2).toNat < y2.length) <|
             .grd (0 ≤ x12013.2.2.2.2 ∧ x12013.2.2.2.2 < (((y2.getD ((x8249.2.2.2.2).toNat) default).Normals.length : Nat) : Int)) <|
             .br ((((x12013.2.2.1.getD ((x12326.2.2.2).toNat) default).1) == ((((y2.getD ((x8249.2.2.2.2).toNat) default).Normals).getD ((x12013.2.2.2.2).toNat) default).1)) && ((((x12013.2.2.1.getD ((x12326.2.2.2).toNat) default).2.1) == ((((y2.getD ((x8249.2.2.2.2).toNat) default).Normals).getD ((x12013.2.2.2.2).toNat) default).2.1)) && ((((x12013.2.2.1.getD ((x12326.2.2.2).toNat) default).2.2) == ((((y2.getD ((x8249.2.2.2.2).toNat) default).Normals).getD ((x12013.2.2.2.2).toNat) default).2.2)) && true)))
              (.call (Source_Next_F N x12326.1 x12326.2.1 4) (fun y12353 => ⟨[(0, 1)], 1, [.ptr 0 0, .pure (.int .i64 4)], [(0, .box [.pure (encL 1 encI_i64 x12326.1), .pure (.int .i64 x12326.2.1)])], .pure (.int .i64 y12353.1), [(0, .box [.pure (encL 1 encI_i64 y12353.2.1), .pure (.int .i64 y12353.2.2)])]⟩) fun y12353 =>
              .ret (.out (y12353.2.1, y12353.2.2, (decide (y12353.1 > 0)))))
              (.ret (.out (x12326.1, x12326.2.1, false)))) fun y12352 =>
            .br y12352.2.2
             (.ret (.out (y12352.1, y12352.2.1, x12326.2.2.2)))
             (.ret (.out (y12352.1, y12352.2.1, x12326.2.2.1)))) fun y12349 =>
           .ret (.next (y12349.1, y12349.2.1, y12349.2.2, (IntKind.i64.wrap (x12326.2.2.2 + 1)))))
           (.ret (.out (x12326.1, x12326.2.1, x12326.2.2.1))))
         (x12013.1, x12013.2.1, (-1), 0) fun y12340 =>
        .cut 0 (fun (y12354 : ((List (Int × Int × Int)) × Int)) => ⟨[(5, .vec 0), (6, .ptr 1 0), (7, .ptr 2 0), (8, .pure (.int .i64 x8249.2.2.2.2)), (9, .ptr 5 0), (10, .pure (.int .i64 x12013.2.2.2.2)), (11, .pure (.int .i64 y12354.2))], [(0, vecO 3 enc_Piece y2 45), (1, .box [.pure (encL 1 encI_i64 y12340.1), .pure (.int .i64 y12340.2.1)]), (2, .box [.vec 3, .vec 4]), (3, vecO 3 enc_arr_3_int64 y12354.1 39), (4, vecO 3 enc_Use x8249.2.2.2.1 37), (5, .box [.pure (.int .i64 ((y2.getD ((x8249.2.2.2.2).toNat) default).Depth)), .pure (.int .i64 ((y2.getD ((x8249.2.2.2.2).toNat) default).Index)), .vec 6]), (6, vecO 1 encI_i64 x12013.2.2.2.1 3)], [], 7⟩)
         (.br (decide (y12340.2.2 < 0))
          (.grd (0 ≤ x8249.2.2.2.2 ∧ x8249.2.2.2.2 < ((y2.length : Nat) : Int)) <|
          .grd ((x8249.2.2.2.2).toNat < y2.length) <|
          .grd (0 ≤ x12013.2.2.2.2 ∧ x12013.2.2.2.2 < (((y2.getD ((x8249.2.2.2.2).toNat) default).Normals.length : Nat) : Int)) <|
          .grd ((x12013.2.2.1.length + 1) * 24 ≤ 140737488355328 ∧ (x12013.2.2.1.length + 1) ≤ maxLen) <|
          .ret (.out ((x12013.2.2.1 ++ ([(((y2.getD ((x8249.2.2.2.2).toNat) default).Normals).getD ((x12013.2.2.2.2).toNat) default)] : (List (Int × Int × Int)))), ((x12013.2.2.1.length : Nat) : Int))))
          (.ret (.out (x12013.2.2.1, y12340.2.2)))) fun y12354 =>
        .grd ((x12013.2.2.2.1.length + 1) * 8 ≤ 140737488355328 ∧ (x12013.2.2.2.1.length + 1) ≤ maxLen) <|
        .ret (.next (y12340.1, y12340.2.1, y12354.1, (x12013.2.2.2.1 ++ ([y12354.2] : (List Int))), (IntKind.i64.wrap (x12013.2.2.2.2 + 1)))))
        (.ret (.out (x12013.1, x12013.2.1, x12013.2.2.1, x12013.2.2.2.1))))
      (x8249.1, x8249.2.1, x8249.2.2.1, nl, 0) fun y12184 =>
     .grd ((x8249.2.2.2.1.length + 1) * 40 ≤ 140737488355328 ∧ (x8249.2.2.2.1.length + 1) ≤ maxLen) <|
     .ret (.next (y12184.1, y12184.2.1, y12184.2.2.1, (x8249.2.2.2.1 ++ ([(⟨(y2.getD ((x8249.2.2.2.2).toNat) default).Depth, (y2.getD ((x8249.2.2.2.2).toNat) default).Index, y12184.2.2.2⟩ : S_Use)] : (List S_Use))), (IntKind.i64.wrap (x8249.2.2.2.2 + 1)))))
     (.ret (.out (x8249.2.2.1, x8249.2.2.2.1))))
   (y4.1, y4.2, nl, nl, 0) fun y10302 =>
  .call (compact_Unpack_F N (⟨y10302.1, y10302.2⟩ : S_Packed)) (fun y12356 => ⟨[], 0, [.pure (.agg [encL 3 enc_arr_3_int64 ((⟨y10302.1, y10302.2⟩ : S_Packed).Table), encL 3 enc_Use ((⟨y10302.1, y10302.2⟩ : S_Packed).Uses)])], [], .tup [.pure (encL 3 enc_Piece y12356.1), .pure (.bool y12356.2)], []⟩) fun y12356 =>
  .call (law21_awake_F N) (fun y12357 => ⟨[], 0, [], [], .pure (.bool y12357), []⟩) fun y12357 =>
  .br y12357
   (.br y12356.2
    (.call (make_SamePieces_F N y2 y12356.1) (fun y12358 => ⟨[], 0, [.pure (encL 3 enc_Piece y2), .pure (encL 3 enc_Piece y12356.1)], [], .pure (.bool y12358), []⟩) fun y12358 =>
    .br y12358
     (.call (compact_Pack_F N y2) (fun y12359 => ⟨[], 0, [.pure (encL 3 enc_Piece y2)], [], .pure (.agg [encL 3 enc_arr_3_int64 y12359.Table, encL 3 enc_Use y12359.Uses]), []⟩) fun y12359 =>
     .call (compact_Size_F N y12359) (fun y12360 => ⟨[], 0, [.pure (.agg [encL 3 enc_arr_3_int64 y12359.Table, encL 3 enc_Use y12359.Uses])], [], .pure (.int .i64 y12360), []⟩) fun y12360 =>
     .call (compact_Size_F N (⟨y10302.1, y10302.2⟩ : S_Packed)) (fun y12361 => ⟨[], 0, [.pure (.agg [encL 3 enc_arr_3_int64 ((⟨y10302.1, y10302.2⟩ : S_Packed).Table), encL 3 enc_Use ((⟨y10302.1, y10302.2⟩ : S_Packed).Uses)])], [], .pure (.int .i64 y12361), []⟩) fun y12361 =>
     .ret (decide (y12360 ≤ y12361)))
     (.ret false))
    (.ret false))
   (.ret false)

theorem law21_CompactLeast_run (N : Nat) (a0 : (List Int)) (a1 : (List Int)) : (law21_CompactLeast_T N a0 a1).run N = law21_CompactLeast_F N a0 a1 := by kernel_rfl

theorem law21_CompactLeast_vc (N : Nat) (a0 : (List Int)) (a1 : (List Int)) : (vcFuncT Try.prog drawB Try.f5 (Try.f5.body.getD .skip) 0 0 (law21_CompactLeast_T N a0 a1) [.pure (encL 1 encI_i64 a0), .pure (encL 1 encI_i64 a1)] [] (fun r => .pure (.bool r)) (fun _ => [])) =
    (∀ (y : List S_Piece), law21_some_F N a0 = some y → ((aS (AVal.pure (encL 1 encI_i64 a0)) ∧ True) ∧ True ∧ Spec Try.prog 10 0 [AVal.pure (encL 1 encI_i64 a0)] [] (AVal.vec 0) [(0, vecO 3 enc_Piece y 45)]) ∧ ∀ (y_1 : List Int × Int), make_From_F N a1 = some y_1 → ((aS (AVal.pure (encL 1 encI_i64 a1)) ∧ True) ∧ True ∧ Spec Try.prog 17 0 [AVal.pure (encL 1 encI_i64 a1)] [] (AVal.ptr 0 0) [(0, Res.box [AVal.pure (encL 1 encI_i64 y_1.fst), aI y_1.snd])]) ∧ (∀ (_x : List Int × Int × List (Int × Int × Int) × List S_Use × Int), true = true ∧ 0 ≤ 5) ∧ (∀ (_y : List (Int × Int × Int) × List S_Use), true = true ∧ 0 ≤ 4) ∧ ((aS (AVal.vec 128) ∧ aS (AVal.ptr 320 0) ∧ aS (AVal.ptr 448 0) ∧ aS (aI 0) ∧ True) ∧ (rS (vecO 3 enc_Piece y 45) ∧ rS (Res.box [AVal.pure (encL 1 encI_i64 y_1.fst), aI y_1.snd]) ∧ rS (Res.box [AVal.vec 449, AVal.vec 450]) ∧ RSub Res.nilv (vecO 3 enc_arr_3_int64 nl 39) ∧ RSub Res.nilv (vecO 3 enc_Use nl 37) ∧ True) ∧ True) ∧ (∀ (x : List Int × Int × List (Int × Int × Int) × List S_Use × Int), decide (x.snd.snd.snd.snd < (↑y.length : Int)) = decide (x.snd.snd.snd.snd < (↑y.length : Int)) ∧ (decide (x.snd.snd.snd.snd < (↑y.length : Int)) = true → 0 ≤ x.snd.snd.snd.snd ∧ x.snd.snd.snd.snd < (↑y.length : Int) → (0 ≤ x.snd.snd.snd.snd ∧ x.snd.snd.snd.snd < (↑y.length : Int)) ∧ (x.snd.snd.snd.snd.toNat < y.length → x.snd.snd.snd.snd.toNat < y.length ∧ (0 ≤ x.snd.snd.snd.snd ∧ x.snd.snd.snd.snd < (↑y.length : Int) → (0 ≤ x.snd.snd.snd.snd ∧ x.snd.snd.snd.snd < (↑y.length : Int)) ∧ (x.snd.snd.snd.snd.toNat < y.length → x.snd.snd.snd.snd.toNat < y.length ∧ (∀ (_x : List Int × Int × List (Int × Int × Int) × List Int × Int), true = true ∧ 0 ≤ 7) ∧ (∀ (_y : List Int × Int × List (Int × Int × Int) × List Int), true = true ∧ 0 ≤ 7) ∧ ((aS (AVal.vec 0) ∧ aS (AVal.ptr 1 0) ∧ aS (AVal.ptr 2 0) ∧ aS (aI x.snd.snd.snd.snd) ∧ aS (AVal.ptr 965 0) ∧ aS (aI 0) ∧ True) ∧ (rS (vecO 3 enc_Piece y 45) ∧ rS (Res.box [AVal.pure (encL 1 encI_i64 x.fst), aI x.snd.fst]) ∧ rS (Res.box [AVal.vec 3, AVal.vec 4]) ∧ rS (vecO 3 enc_arr_3_int64 x.snd.snd.fst 39) ∧ rS (vecO 3 enc_Use x.snd.snd.snd.fst 37) ∧ rS (Res.box [aI (y.getD x.snd.snd.snd.snd.toNat default).Depth, aI (y.getD x.snd.snd.snd.snd.toNat default).Index, AVal.vec 903]) ∧ RSub Res.nilv (vecO 1 encI_i64 nl 3) ∧ True) ∧ True) ∧ (∀ (x_1 : List Int × Int × List (Int × Int × Int) × List Int × Int), 0 ≤ x.snd.snd.snd.snd ∧ x.snd.snd.snd.snd < (↑y.length : Int) → (0 ≤ x.snd.snd.snd.snd ∧ x.snd.snd.snd.snd < (↑y.length : Int)) ∧ (x.snd.snd.snd.snd.toNat < y.length → x.snd.snd.snd.snd.toNat < y.length ∧ decide (x_1.snd.snd.snd.snd < (↑(y.getD x.snd.snd.snd.snd.toNat default).Normals.length : Int)) = decide (x_1.snd.snd.snd.snd < (↑(y.getD x.snd.snd.snd.snd.toNat default).Normals.length : Int)) ∧ (decide (x_1.snd.snd.snd.snd < (↑(y.getD x.snd.snd.snd.snd.toNat default).Normals.length : Int)) = true → (∀ (_x : List Int × Int × Int × Int), true = true ∧ 0 ≤ 7) ∧ (∀ (_y : List Int × Int × Int), true = true ∧ 0 ≤ 7) ∧ ((aS (AVal.vec 0) ∧ aS (AVal.ptr 1 0) ∧ aS (AVal.ptr 2 0) ∧ aS (aI x.snd.snd.snd.snd) ∧ aS (AVal.ptr 5 0) ∧ aS (aI x_1.snd.snd.snd.snd) ∧ aS (aI (-1)) ∧ aS (aI 0) ∧ True) ∧ (rS (vecO 3 enc_Piece y 45) ∧ rS (Res.box [AVal.pure (encL 1 encI_i64 x_1.fst), aI x_1.snd.fst]) ∧ rS (Res.box [AVal.vec 3, AVal.vec 4]) ∧ rS (vecO 3 enc_arr_3_int64 x_1.snd.snd.fst 39) ∧ rS (vecO 3 enc_Use x.snd.snd.snd.fst 37) ∧ rS (Res.box [aI (y.getD x.snd.snd.snd.snd.toNat default).Depth, aI (y.getD x.snd.snd.snd.snd.toNat default).Index, AVal.vec 6]) ∧ rS (vecO 1 encI_i64 x_1.snd.snd.snd.fst 3) ∧ True) ∧ True) ∧ (∀ (x_2 : List Int × Int × Int × Int), decide (x_2.snd.snd.snd < (↑x_1.snd.snd.fst.length : Int)) = decide (x_2.snd.snd.snd < (↑x_1.snd.snd.fst.length : Int)) ∧ (decide (x_2.snd.snd.snd < (↑x_1.snd.snd.fst.length : Int)) = true → (∀ (_y : List Int × Int × Int), true = true ∧ 0 ≤ 7) ∧ ((∀ (_y : List Int × Int × Bool), true = true ∧ 0 ≤ 7) ∧ (0 ≤ x_2.snd.snd.snd ∧ x_2.snd.snd.snd < (↑x_1.snd.snd.fst.length : Int) → (0 ≤ x_2.snd.snd.snd ∧ x_2.snd.snd.snd < (↑x_1.snd.snd.fst.length : Int)) ∧ (x_2.snd.snd.snd.toNat < x_1.snd.snd.fst.length → x_2.snd.snd.snd.toNat < x_1.snd.snd.fst.length ∧ (0 ≤ x.snd.snd.snd.snd ∧ x.snd.snd.snd.snd < (↑y.length : Int) → (0 ≤ x.snd.snd.snd.snd ∧ x.snd.snd.snd.snd < (↑y.length : Int)) ∧ (x.snd.snd.snd.snd.toNat < y.length → x.snd.snd.snd.snd.toNat < y.length ∧ (0 ≤ x_1.snd.snd.snd.snd ∧ x_1.snd.snd.snd.snd < (↑(y.getD x.snd.snd.snd.snd.toNat default).Normals.length : Int) → (0 ≤ x_1.snd.snd.snd.snd ∧ x_1.snd.snd.snd.snd < (↑(y.getD x.snd.snd.snd.snd.toNat default).Normals.length : Int)) ∧ ((x_1.snd.snd.fst.getD x_2.snd.snd.snd.toNat default).fst == ((y.getD x.snd.snd.snd.snd.toNat default).Normals.getD x_1.snd.snd.snd.snd.toNat default).fst && ((x_1.snd.snd.fst.getD x_2.snd.snd.snd.toNat default).snd.fst == ((y.getD x.snd.snd.snd.snd.toNat default).Normals.getD x_1.snd.snd.snd.snd.toNat default).snd.fst && ((x_1.snd.snd.fst.getD x_2.snd.snd.snd.toNat default).snd.snd == ((y.getD x.snd.snd.snd.snd.toNat default).Normals.getD x_1.snd.snd.snd.snd.toNat default).snd.snd && true))) = ((x_1.snd.snd.fst.getD x_2.snd.snd.snd.toNat default).fst == ((y.getD x.snd.snd.snd.snd.toNat default).Normals.getD x_1.snd.snd.snd.snd.toNat default).fst && ((x_1.snd.snd.fst.getD x_2.snd.snd.snd.toNat default).snd.fst == ((y.getD x.snd.snd.snd.snd.toNat default).Normals.getD x_1.snd.snd.snd.snd.toNat default).snd.fst && ((x_1.snd.snd.fst.getD x_2.snd.snd.snd.toNat default).snd.snd == ((y.getD x.snd.snd.snd.snd.toNat default).Normals.getD x_1.snd.snd.snd.snd.toNat default).snd.snd && true))) ∧ (((x_1.snd.snd.fst.getD x_2.snd.snd.snd.toNat default).fst == ((y.getD x.snd.snd.snd.snd.toNat default).Normals.getD x_1.snd.snd.snd.snd.toNat default).fst && ((x_1.snd.snd.fst.getD x_2.snd.snd.snd.toNat default).snd.fst == ((y.getD x.snd.snd.snd.snd.toNat default).Normals.getD x_1.snd.snd.snd.snd.toNat default).snd.fst && ((x_1.snd.snd.fst.getD x_2.snd.snd.snd.toNat default).snd.snd == ((y.getD x.snd.snd.snd.snd.toNat default).Normals.getD x_1.snd.snd.snd.snd.toNat default).snd.snd && true))) = true → ∀ (y_2 : Int × List Int × Int), Source_Next_F N x_2.fst x_2.snd.fst 4 = some y_2 → ((aS (AVal.ptr 1 0) ∧ aS (aI 4) ∧ True) ∧ (rS (Res.box [AVal.pure (encL 1 encI_i64 x_2.fst), aI x_2.snd.fst]) ∧ True) ∧ Spec Try.prog 18 1 [AVal.ptr 0 0, aI 4] [(0, Res.box [AVal.pure (encL 1 encI_i64 x_2.fst), aI x_2.snd.fst])] (aI y_2.fst) [(0, Res.box [AVal.pure (encL 1 encI_i64 y_2.snd.fst), aI y_2.snd.snd])]) ∧ (aS (AVal.vec 0) ∧ aS (AVal.ptr 1 0) ∧ aS (AVal.ptr 2 0) ∧ aS (aI x.snd.snd.snd.snd) ∧ aS (AVal.ptr 5 0) ∧ aS (aI x_1.snd.snd.snd.snd) ∧ aS (aI x_2.snd.snd.fst) ∧ aS (aI x_2.snd.snd.snd) ∧ aS (AVal.pure (PVal.bool (decide (y_2.fst > 0)))) ∧ True) ∧ (rS (vecO 3 enc_Piece y 45) ∧ rS (Res.box [AVal.pure (encL 1 encI_i64 y_2.snd.fst), aI y_2.snd.snd]) ∧ rS (Res.box [AVal.vec 3, AVal.vec 4]) ∧ rS (vecO 3 enc_arr_3_int64 x_1.snd.snd.fst 39) ∧ rS (vecO 3 enc_Use x.snd.snd.snd.fst 37) ∧ rS (Res.box [aI (y.getD x.snd.snd.snd.snd.toNat default).Depth, aI (y.getD x.snd.snd.snd.snd.toNat default).Index, AVal.vec 6]) ∧ rS (vecO 1 encI_i64 x_1.snd.snd.snd.fst 3) ∧ True) ∧ True) ∧ (((x_1.snd.snd.fst.getD x_2.snd.snd.snd.toNat default).fst == ((y.getD x.snd.snd.snd.snd.toNat default).Normals.getD x_1.snd.snd.snd.snd.toNat default).fst && ((x_1.snd.snd.fst.getD x_2.snd.snd.snd.toNat default).snd.fst == ((y.getD x.snd.snd.snd.snd.toNat default).Normals.getD x_1.snd.snd.snd.snd.toNat default).snd.fst && ((x_1.snd.snd.fst.getD x_2.snd.snd.snd.toNat default).snd.snd == ((y.getD x.snd.snd.snd.snd.toNat default).Normals.getD x_1.snd.snd.snd.snd.toNat default).snd.snd && true))) = false → (aS (AVal.vec 0) ∧ aS (AVal.ptr 1 0) ∧ aS (AVal.ptr 2 0) ∧ aS (aI x.snd.snd.snd.snd) ∧ aS (AVal.ptr 5 0) ∧ aS (aI x_1.snd.snd.snd.snd) ∧ aS (aI x_2.snd.snd.fst) ∧ aS (aI x_2.snd.snd.snd) ∧ ASub AVal.ff (AVal.pure (PVal.bool false)) ∧ True) ∧ (rS (vecO 3 enc_Piece y 45) ∧ rS (Res.box [AVal.pure (encL 1 encI_i64 x_2.fst), aI x_2.snd.fst]) ∧ rS (Res.box [AVal.vec 3, AVal.vec 4]) ∧ rS (vecO 3 enc_arr_3_int64 x_1.snd.snd.fst 39) ∧ rS (vecO 3 enc_Use x.snd.snd.snd.fst 37) ∧ rS (Res.box [aI (y.getD x.snd.snd.snd.snd.toNat default).Depth, aI (y.getD x.snd.snd.snd.snd.toNat default).Index, AVal.vec 6]) ∧ rS (vecO 1 encI_i64 x_1.snd.snd.snd.fst 3) ∧ True) ∧ True)))))) ∧ ∀ (y_2 : List Int × Int × Bool), y_2.snd.snd = y_2.snd.snd ∧ (y_2.snd.snd = true → (aS (AVal.vec 0) ∧ aS (AVal.ptr 1 0) ∧ aS (AVal.ptr 2 0) ∧ aS (aI x.snd.snd.snd.snd) ∧ aS (AVal.ptr 5 0) ∧ aS (aI x_1.snd.snd.snd.snd) ∧ aS (aI x_2.snd.snd.snd) ∧ aS (aI x_2.snd.snd.snd) ∧ True) ∧ (rS (vecO 3 enc_Piece y 45) ∧ rS (Res.box [AVal.pure (encL 1 encI_i64 y_2.fst), aI y_2.snd.fst]) ∧ rS (Res.box [AVal.vec 3, AVal.vec 4]) ∧ rS (vecO 3 enc_arr_3_int64 x_1.snd.snd.fst 39) ∧ rS (vecO 3 enc_Use x.snd.snd.snd.fst 37) ∧ rS (Res.box [aI (y.getD x.snd.snd.snd.snd.toNat default).Depth, aI (y.getD x.snd.snd.snd.snd.toNat default).Index, AVal.vec 6]) ∧ rS (vecO 1 encI_i64 x_1.snd.snd.snd.fst 3) ∧ True) ∧ True) ∧ (y_2.snd.snd = false → (aS (AVal.vec 0) ∧ aS (AVal.ptr 1 0) ∧ aS (AVal.ptr 2 0) ∧ aS (aI x.snd.snd.snd.snd) ∧ aS (AVal.ptr 5 0) ∧ aS (aI x_1.snd.snd.snd.snd) ∧ aS (aI x_2.snd.snd.fst) ∧ aS (aI x_2.snd.snd.snd) ∧ True) ∧ (rS (vecO 3 enc_Piece y 45) ∧ rS (Res.box [AVal.pure (encL 1 encI_i64 y_2.fst), aI y_2.snd.fst]) ∧ rS (Res.box [AVal.vec 3, AVal.vec 4]) ∧ rS (vecO 3 enc_arr_3_int64 x_1.snd.snd.fst 39) ∧ rS (vecO 3 enc_Use x.snd.snd.snd.fst 37) ∧ rS (Res.box [aI (y.getD x.snd.snd.snd.snd.toNat default).Depth, aI (y.getD x.snd.snd.snd.snd.toNat default).Index, AVal.vec 6]) ∧ rS (vecO 1 encI_i64 x_1.snd.snd.snd.fst 3) ∧ True) ∧ True)) ∧ ∀ (y_2 : List Int × Int × Int), (aS (AVal.vec 0) ∧ aS (AVal.ptr 1 0) ∧ aS (AVal.ptr 2 0) ∧ aS (aI x.snd.snd.snd.snd) ∧ aS (AVal.ptr 5 0) ∧ aS (aI x_1.snd.snd.snd.snd) ∧ aS (aI y_2.snd.snd) ∧ aS (aI (IntKind.i64.wrap (x_2.snd.snd.snd + 1))) ∧ True) ∧ (rS (vecO 3 enc_Piece y 45) ∧ rS (Res.box [AVal.pure (encL 1 encI_i64 y_2.fst), aI y_2.snd.fst]) ∧ rS (Res.box [AVal.vec 3, AVal.vec 4]) ∧ rS (vecO 3 enc_arr_3_int64 x_1.snd.snd.fst 39) ∧ rS (vecO 3 enc_Use x.snd.snd.snd.fst 37) ∧ rS (Res.box [aI (y.getD x.snd.snd.snd.snd.toNat default).Depth, aI (y.getD x.snd.snd.snd.snd.toNat default).Index, AVal.vec 6]) ∧ rS (vecO 1 encI_i64 x_1.snd.snd.snd.fst 3) ∧ True) ∧ True) ∧ (decide (x_2.snd.snd.snd < (↑x_1.snd.snd.fst.length : Int)) = false → (aS (AVal.vec 0) ∧ aS (AVal.ptr 1 0) ∧ aS (AVal.ptr 2 0) ∧ aS (aI x.snd.snd.snd.snd) ∧ aS (AVal.ptr 5 0) ∧ aS (aI x_1.snd.snd.snd.snd) ∧ aS (aI x_2.snd.snd.fst) ∧ True) ∧ (rS (vecO 3 enc_Piece y 45) ∧ rS (Res.box [AVal.pure (encL 1 encI_i64 x_2.fst), aI x_2.snd.fst]) ∧ rS (Res.box [AVal.vec 3, AVal.vec 4]) ∧ rS (vecO 3 enc_arr_3_int64 x_1.snd.snd.fst 39) ∧ rS (vecO 3 enc_Use x.snd.snd.snd.fst 37) ∧ rS (Res.box [aI (y.getD x.snd.snd.snd.snd.toNat default).Depth, aI (y.getD x.snd.snd.snd.snd.toNat default).Index, AVal.vec 6]) ∧ rS (vecO 1 encI_i64 x_1.snd.snd.snd.fst 3) ∧ True) ∧ True)) ∧ ∀ (y_2 : List Int × Int × Int), (∀ (_y : List (Int × Int × Int) × Int), true = true ∧ 0 ≤ 7) ∧ (decide (y_2.snd.snd < 0) = decide (y_2.snd.snd < 0) ∧ (decide (y_2.snd.snd < 0) = true → 0 ≤ x.snd.snd.snd.snd ∧ x.snd.snd.snd.snd < (↑y.length : Int) → (0 ≤ x.snd.snd.snd.snd ∧ x.snd.snd.snd.snd < (↑y.length : Int)) ∧ (x.snd.snd.snd.snd.toNat < y.length → x.snd.snd.snd.snd.toNat < y.length ∧ (0 ≤ x_1.snd.snd.snd.snd ∧ x_1.snd.snd.snd.snd < (↑(y.getD x.snd.snd.snd.snd.toNat default).Normals.length : Int) → (0 ≤ x_1.snd.snd.snd.snd ∧ x_1.snd.snd.snd.snd < (↑(y.getD x.snd.snd.snd.snd.toNat default).Normals.length : Int)) ∧ ((x_1.snd.snd.fst.length + 1) * 24 ≤ 140737488355328 ∧ x_1.snd.snd.fst.length + 1 ≤ 9223372036854775807 → ((x_1.snd.snd.fst.length + 1) * 24 ≤ 140737488355328 ∧ x_1.snd.snd.fst.length + 1 ≤ 9223372036854775807) ∧ (aS (AVal.vec 0) ∧ aS (AVal.ptr 1 0) ∧ aS (AVal.ptr 2 0) ∧ aS (aI x.snd.snd.snd.snd) ∧ aS (AVal.ptr 5 0) ∧ aS (aI x_1.snd.snd.snd.snd) ∧ aS (aI (↑x_1.snd.snd.fst.length : Int)) ∧ True) ∧ (rS (vecO 3 enc_Piece y 45) ∧ rS (Res.box [AVal.pure (encL 1 encI_i64 y_2.fst), aI y_2.snd.fst]) ∧ rS (Res.box [AVal.vec 1095, AVal.vec 4]) ∧ RSub (Res.vec 3 (x_1.snd.snd.fst.length + 1) (fun (a : Nat) => appF x_1.snd.snd.fst.length (el enc_arr_3_int64 x_1.snd.snd.fst) (lget [PVal.agg [PVal.int IntKind.i64 ((y.getD x.snd.snd.snd.snd.toNat default).Normals.getD x_1.snd.snd.snd.snd.toNat default).fst, PVal.int IntKind.i64 ((y.getD x.snd.snd.snd.snd.toNat default).Normals.getD x_1.snd.snd.snd.snd.toNat default).snd.fst, PVal.int IntKind.i64 ((y.getD x.snd.snd.snd.snd.toNat default).Normals.getD x_1.snd.snd.snd.snd.toNat default).snd.snd]]) a) 0 39) (vecO 3 enc_arr_3_int64 (x_1.snd.snd.fst ++ [(y.getD x.snd.snd.snd.snd.toNat default).Normals.getD x_1.snd.snd.snd.snd.toNat default]) 39) ∧ rS (vecO 3 enc_Use x.snd.snd.snd.fst 37) ∧ rS (Res.box [aI (y.getD x.snd.snd.snd.snd.toNat default).Depth, aI (y.getD x.snd.snd.snd.snd.toNat default).Index, AVal.vec 6]) ∧ rS (vecO 1 encI_i64 x_1.snd.snd.snd.fst 3) ∧ True) ∧ True)))) ∧ (decide (y_2.snd.snd < 0) = false → (aS (AVal.vec 0) ∧ aS (AVal.ptr 1 0) ∧ aS (AVal.ptr 2 0) ∧ aS (aI x.snd.snd.snd.snd) ∧ aS (AVal.ptr 5 0) ∧ aS (aI x_1.snd.snd.snd.snd) ∧ aS (aI y_2.snd.snd) ∧ True) ∧ (rS (vecO 3 enc_Piece y 45) ∧ rS (Res.box [AVal.pure (encL 1 encI_i64 y_2.fst), aI y_2.snd.fst]) ∧ rS (Res.box [AVal.vec 3, AVal.vec 4]) ∧ rS (vecO 3 enc_arr_3_int64 x_1.snd.snd.fst 39) ∧ rS (vecO 3 enc_Use x.snd.snd.snd.fst 37) ∧ rS (Res.box [aI (y.getD x.snd.snd.snd.snd.toNat default).Depth, aI (y.getD x.snd.snd.snd.snd.toNat default).Index, AVal.vec 6]) ∧ rS (vecO 1 encI_i64 x_1.snd.snd.snd.fst 3) ∧ True) ∧ True)) ∧ ∀ (y_3 : List (Int × Int × Int) × Int), (x_1.snd.snd.snd.fst.length + 1) * 8 ≤ 140737488355328 ∧ x_1.snd.snd.snd.fst.length + 1 ≤ 9223372036854775807 → ((x_1.snd.snd.snd.fst.length + 1) * 8 ≤ 140737488355328 ∧ x_1.snd.snd.snd.fst.length + 1 ≤ 9223372036854775807) ∧ (aS (AVal.vec 0) ∧ aS (AVal.ptr 1 0) ∧ aS (AVal.ptr 2 0) ∧ aS (aI x.snd.snd.snd.snd) ∧ aS (AVal.ptr 5 0) ∧ aS (aI (IntKind.i64.wrap (x_1.snd.snd.snd.snd + 1))) ∧ True) ∧ (rS (vecO 3 enc_Piece y 45) ∧ rS (Res.box [AVal.pure (encL 1 encI_i64 y_2.fst), aI y_2.snd.fst]) ∧ rS (Res.box [AVal.vec 3, AVal.vec 4]) ∧ rS (vecO 3 enc_arr_3_int64 y_3.fst 39) ∧ rS (vecO 3 enc_Use x.snd.snd.snd.fst 37) ∧ rS (Res.box [aI (y.getD x.snd.snd.snd.snd.toNat default).Depth, aI (y.getD x.snd.snd.snd.snd.toNat default).Index, AVal.vec 263]) ∧ RSub (Res.vec 1 (x_1.snd.snd.snd.fst.length + 1) (fun (a : Nat) => appF x_1.snd.snd.snd.fst.length (el encI_i64 x_1.snd.snd.snd.fst) (lget [PVal.int IntKind.i64 y_3.snd]) a) 0 3) (vecO 1 encI_i64 (x_1.snd.snd.snd.fst ++ [y_3.snd]) 3) ∧ True) ∧ True) ∧ (decide (x_1.snd.snd.snd.snd < (↑(y.getD x.snd.snd.snd.snd.toNat default).Normals.length : Int)) = false → (aS (AVal.vec 0) ∧ aS (AVal.ptr 1 0) ∧ aS (AVal.ptr 2 0) ∧ aS (aI x.snd.snd.snd.snd) ∧ aS (AVal.ptr 5 0) ∧ True) ∧ (rS (vecO 3 enc_Piece y 45) ∧ rS (Res.box [AVal.pure (encL 1 encI_i64 x_1.fst), aI x_1.snd.fst]) ∧ rS (Res.box [AVal.vec 3, AVal.vec 4]) ∧ rS (vecO 3 enc_arr_3_int64 x_1.snd.snd.fst 39) ∧ rS (vecO 3 enc_Use x.snd.snd.snd.fst 37) ∧ rS (Res.box [aI (y.getD x.snd.snd.snd.snd.toNat default).Depth, aI (y.getD x.snd.snd.snd.snd.toNat default).Index, AVal.vec 6]) ∧ rS (vecO 1 encI_i64 x_1.snd.snd.snd.fst 3) ∧ True) ∧ True))) ∧ ∀ (y_2 : List Int × Int × List (Int × Int × Int) × List Int), (x.snd.snd.snd.fst.length + 1) * 40 ≤ 140737488355328 ∧ x.snd.snd.snd.fst.length + 1 ≤ 9223372036854775807 → ((x.snd.snd.snd.fst.length + 1) * 40 ≤ 140737488355328 ∧ x.snd.snd.snd.fst.length + 1 ≤ 9223372036854775807) ∧ (aS (AVal.vec 0) ∧ aS (AVal.ptr 1 0) ∧ aS (AVal.ptr 2 0) ∧ aS (aI (IntKind.i64.wrap (x.snd.snd.snd.snd + 1))) ∧ True) ∧ (rS (vecO 3 enc_Piece y 45) ∧ rS (Res.box [AVal.pure (encL 1 encI_i64 y_2.fst), aI y_2.snd.fst]) ∧ rS (Res.box [AVal.vec 3, AVal.vec 263]) ∧ rS (vecO 3 enc_arr_3_int64 y_2.snd.snd.fst 39) ∧ RSub (Res.vec 3 (x.snd.snd.snd.fst.length + 1) (fun (a : Nat) => appF x.snd.snd.snd.fst.length (el enc_Use x.snd.snd.snd.fst) (lget [PVal.agg [PVal.int IntKind.i64 (y.getD x.snd.snd.snd.snd.toNat default).Depth, PVal.int IntKind.i64 (y.getD x.snd.snd.snd.snd.toNat default).Index, PVal.lst 1 y_2.snd.snd.snd.length (el encI_i64 y_2.snd.snd.snd)]]) a) 0 37) (vecO 3 enc_Use (x.snd.snd.snd.fst ++ [S_Use.mk (y.getD x.snd.snd.snd.snd.toNat default).Depth (y.getD x.snd.snd.snd.snd.toNat default).Index y_2.snd.snd.snd]) 37) ∧ True) ∧ True)))) ∧ (decide (x.snd.snd.snd.snd < (↑y.length : Int)) = false → (aS (AVal.vec 0) ∧ aS (AVal.ptr 2 0) ∧ True) ∧ (rS (vecO 3 enc_Piece y 45) ∧ rS (Res.box [AVal.vec 3, AVal.vec 4]) ∧ rS (vecO 3 enc_arr_3_int64 x.snd.snd.fst 39) ∧ rS (vecO 3 enc_Use x.snd.snd.snd.fst 37) ∧ True) ∧ True)) ∧ ∀ (y_2 : List (Int × Int × Int) × List S_Use) (y_3 : List S_Piece × Bool), compact_Unpack_F N (S_Packed.mk y_2.fst y_2.snd) = some y_3 → ((aS (AVal.pure (PVal.agg [encL 3 enc_arr_3_int64 y_2.fst, encL 3 enc_Use y_2.snd])) ∧ True) ∧ True ∧ Spec Try.prog 15 0 [AVal.pure (PVal.agg [encL 3 enc_arr_3_int64 y_2.fst, encL 3 enc_Use y_2.snd])] [] (AVal.tup [AVal.pure (encL 3 enc_Piece y_3.fst), AVal.pure (PVal.bool y_3.snd)]) []) ∧ ∀ (y_4 : Bool), law21_awake_F N = some y_4 → (True ∧ True ∧ Spec Try.prog 11 0 [] [] (AVal.pure (PVal.bool y_4)) []) ∧ y_4 = y_4 ∧ (y_4 = true → y_3.snd = y_3.snd ∧ (y_3.snd = true → ∀ (y_5 : Bool), make_SamePieces_F N y y_3.fst = some y_5 → ((aS (AVal.pure (encL 3 enc_Piece y)) ∧ aS (AVal.pure (encL 3 enc_Piece y_3.fst)) ∧ True) ∧ True ∧ Spec Try.prog 16 0 [AVal.pure (encL 3 enc_Piece y), AVal.pure (encL 3 enc_Piece y_3.fst)] [] (AVal.pure (PVal.bool y_5)) []) ∧ y_5 = y_5 ∧ (y_5 = true → ∀ (y_6 : S_Packed), compact_Pack_F N y = some y_6 → ((aS (AVal.pure (encL 3 enc_Piece y)) ∧ True) ∧ True ∧ Spec Try.prog 14 0 [AVal.pure (encL 3 enc_Piece y)] [] (AVal.pure (PVal.agg [encL 3 enc_arr_3_int64 y_6.Table, encL 3 enc_Use y_6.Uses])) []) ∧ ∀ (y : Int), compact_Size_F N y_6 = some y → ((aS (AVal.pure (PVal.agg [encL 3 enc_arr_3_int64 y_6.Table, encL 3 enc_Use y_6.Uses])) ∧ True) ∧ True ∧ Spec Try.prog 19 0 [AVal.pure (PVal.agg [encL 3 enc_arr_3_int64 y_6.Table, encL 3 enc_Use y_6.Uses])] [] (aI y) []) ∧ ∀ (y_7 : Int), compact_Size_F N (S_Packed.mk y_2.fst y_2.snd) = some y_7 → ((aS (AVal.pure (PVal.agg [encL 3 enc_arr_3_int64 y_2.fst, encL 3 enc_Use y_2.snd])) ∧ True) ∧ True ∧ Spec Try.prog 19 0 [AVal.pure (PVal.agg [encL 3 enc_arr_3_int64 y_2.fst, encL 3 enc_Use y_2.snd])] [] (aI y_7) []) ∧ (aS (AVal.pure (PVal.bool (decide (y ≤ y_7)))) ∧ True) ∧ True ∧ True) ∧ (y_5 = false → (aS (AVal.pure (PVal.bool false)) ∧ True) ∧ True ∧ True)) ∧ (y_3.snd = false → (aS (AVal.pure (PVal.bool false)) ∧ True) ∧ True ∧ True)) ∧ (y_4 = false → (aS (AVal.pure (PVal.bool false)) ∧ True) ∧ True ∧ True)) := by kernel_rfl


set_option maxHeartbeats 4000000 in
theorem law21_CompactLeast_spec (hd : DrawSound Try.prog drawB) {N : Nat} {a0 : (List Int)} {a1 : (List Int)} {r : Bool} (h : law21_CompactLeast_F N a0 a1 = some r) : Spec Try.prog 5 0 [.pure (encL 1 encI_i64 a0), .pure (encL 1 encI_i64 a1)] [] (.pure (.bool r)) ([]) := by
  refine spec_ofT (n0 := 0) (res := fun r => .pure (.bool r)) (m' := fun _ => []) (law21_CompactLeast_T N a0 a1) ((law21_CompactLeast_run N a0 a1).trans h) hd Try.func5 (by kernel_rfl) (by kernel_rfl) ?_
  rw [law21_CompactLeast_vc]
  repeat' (first | exact trivial | exact ASub.refl _ | exact RSub.refl _ | exact law21_some_spec hd (by assumption) | exact make_From_spec hd (by assumption) | exact Source_Next_spec hd (by assumption) | exact compact_Unpack_spec hd (by assumption) | exact law21_awake_spec hd (by assumption) | exact make_SamePieces_spec hd (by assumption) | exact compact_Pack_spec hd (by assumption) | exact compact_Size_spec hd (by assumption) | assumption | rfl | (apply And.intro) | (intro _) | exact nl_a | exact ASub.tt rfl | exact ASub.ff rfl | exact mapR_upE rfl | exact RSub.nilv rfl rfl | exact IsL.el | exact IsL.nl | exact IsL.lit (CSubs.of_eq rfl) rfl | refine IsL.lit ?_ rfl | exact IsL.rep (CSub.of_eq rfl) | refine IsL.a ?_ | refine IsL.r0 ?_ | refine IsL.r ?_ ?_ | refine IsL.app ?_ ?_ | refine IsL.set ?_ (CSub.of_eq rfl) | refine IsL.set ?_ ?_ | refine IsL.slice ?_ ?_ ?_ | refine IsL.take ?_ ?_ | exact CSubs.nil' | refine CSubs.cons' ?_ ?_ | exact CSub.refl _ | exact nl_c | refine CSub.agg ?_ | refine IsL.c ?_ | exact PSubs.nil' | refine PSubs.cons' ?_ ?_ | exact PSub.refl _ | exact nl_p | refine IsL.p ?_ | refine (PSub.agg ?_).a | refine PSub.agg ?_ | refine ASub.agg ?_ | refine RSub.box ?_ | refine tup_a ?_ | refine ASub.p ?_ | omega)
end Go.Abs
