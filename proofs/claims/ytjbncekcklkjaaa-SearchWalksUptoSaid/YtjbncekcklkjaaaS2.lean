/-
  S2: what functions of the program compute, and their specifications (printed by a program of ours).
-/
import Derived.Test.YtjbncekcklkjaaaTBase
import Derived.Test.YtjbncekcklkjaaaChecked
import Derived.Test.YtjbncekcklkjaaaS1
namespace Go.Abs
open Go.Proofs
structure S_Piece where
  Depth : Int
  Index : Int
  Normals : (List (Int × Int × Int))
instance : Inhabited S_Piece := ⟨⟨default, default, default⟩⟩
structure S_Witness where
  Pair : Int
  Left : (List Int)
  Right : (List Int)
instance : Inhabited S_Witness := ⟨⟨default, default, default⟩⟩
structure S_EdgeResult where
  Kind : Int
  Pieces : (List S_Piece)
  At : S_Piece
  Witness : S_Witness
instance : Inhabited S_EdgeResult := ⟨⟨default, default, default, default⟩⟩
structure S_RoadmapEdge where
  U : Int
  V : Int
  Cost : Int
  State : Int
  Proof : S_EdgeResult
instance : Inhabited S_RoadmapEdge := ⟨⟨default, default, default, default, default⟩⟩
structure S_Roadmap where
  Points : (List (List Int))
  Edges : (List S_RoadmapEdge)
instance : Inhabited S_Roadmap := ⟨⟨default, default⟩⟩
def enc_arr_3_int64 (v : (Int × Int × Int)) : PVal := .agg [.int .i64 v.1, .int .i64 v.2.1, .int .i64 v.2.2]
def enc_Piece (v : S_Piece) : PVal := .agg [.int .i64 v.Depth, .int .i64 v.Index, encL 3 enc_arr_3_int64 v.Normals]
def enc_Witness (v : S_Witness) : PVal := .agg [.int .i64 v.Pair, encL 1 encI_i64 v.Left, encL 1 encI_i64 v.Right]
def enc_EdgeResult (v : S_EdgeResult) : PVal := .agg [.int .i64 v.Kind, encL 3 enc_Piece v.Pieces, .int .i64 v.At.Depth, .int .i64 v.At.Index, encL 3 enc_arr_3_int64 v.At.Normals, .int .i64 v.Witness.Pair, encL 1 encI_i64 v.Witness.Left, encL 1 encI_i64 v.Witness.Right]
def enc_RoadmapEdge (v : S_RoadmapEdge) : PVal := .agg [.int .i64 v.U, .int .i64 v.V, .int .i64 v.Cost, .int .i64 v.State, .int .i64 v.Proof.Kind, encL 3 enc_Piece v.Proof.Pieces, .int .i64 v.Proof.At.Depth, .int .i64 v.Proof.At.Index, encL 3 enc_arr_3_int64 v.Proof.At.Normals, .int .i64 v.Proof.Witness.Pair, encL 1 encI_i64 v.Proof.Witness.Left, encL 1 encI_i64 v.Proof.Witness.Right]
def enc_Roadmap (v : S_Roadmap) : PVal := .agg [encL 1 (encL 1 encI_i64) v.Points, encL 12 enc_RoadmapEdge v.Edges]

theorem guard44 : GuardFn Try.prog 44 :=
  guardFn_of (fn := Try.f44) Try.func44 (by kernel_rfl) ⟨0, (gOps Try.f44).getD 0 default, (gOps Try.f44).getD 1 default, 2, 3, gX Try.f44, gC ((gOps Try.f44).getD 0 default), 20, 20, by kernel_rfl, by kernel_rfl, by kernel_rfl, by kernel_rfl, by kernel_rfl, by kernel_rfl, by kernel_rfl, by kernel_rfl, ⟨gMs (Try.prog.underlying 20), by kernel_rfl⟩, by decide, by decide, by kernel_rfl⟩

theorem guard52 : GuardFn Try.prog 52 :=
  guardFn_of (fn := Try.f52) Try.func52 (by kernel_rfl) ⟨0, (gOps Try.f52).getD 0 default, (gOps Try.f52).getD 1 default, 3, 4, gX Try.f52, gC ((gOps Try.f52).getD 0 default), 20, 20, by kernel_rfl, by kernel_rfl, by kernel_rfl, by kernel_rfl, by kernel_rfl, by kernel_rfl, by kernel_rfl, by kernel_rfl, ⟨gMs (Try.prog.underlying 20), by kernel_rfl⟩, by decide, by decide, by kernel_rfl⟩

def search_isPoint_F (_N : Nat) (a0 : S_Roadmap) (a1 : Int) : Option Bool :=
  bif (decide (a1 ≥ 0)) then
   some (decide (a1 < ((a0.Points.length : Nat) : Int)))
  else
   some false

def search_isPoint_T (_N : Nat) (a0 : S_Roadmap) (a1 : Int) : T Bool :=
  .br (decide (a1 ≥ 0))
   (.ret (decide (a1 < ((a0.Points.length : Nat) : Int))))
   (.ret false)

theorem search_isPoint_run (N : Nat) (a0 : S_Roadmap) (a1 : Int) : (search_isPoint_T N a0 a1).run N = search_isPoint_F N a0 a1 := by kernel_rfl

theorem search_isPoint_vc (N : Nat) (a0 : S_Roadmap) (a1 : Int) : (vcFuncT Try.prog drawB Try.f46 (Try.f46.body.getD .skip) 0 0 (search_isPoint_T N a0 a1) [.pure (.agg [encL 1 (encL 1 encI_i64) a0.Points, encL 12 enc_RoadmapEdge a0.Edges]), .pure (.int .i64 a1)] [] (fun r => .pure (.bool r)) (fun _ => [])) =
    (decide (a1 ≥ (0 : Int)) = decide (a1 ≥ (0 : Int)) ∧ (decide (a1 ≥ (0 : Int)) = true → (aS (AVal.pure (PVal.bool (decide (a1 < (↑a0.Points.length : Int))))) ∧ True) ∧ True ∧ True) ∧ (decide (a1 ≥ (0 : Int)) = false → (aS (AVal.pure (PVal.bool false)) ∧ True) ∧ True ∧ True)) := by kernel_rfl


set_option maxHeartbeats 4000000 in
theorem search_isPoint_spec (hd : DrawSound Try.prog drawB) {N : Nat} {a0 : S_Roadmap} {a1 : Int} {r : Bool} (h : search_isPoint_F N a0 a1 = some r) : Spec Try.prog 46 0 [.pure (.agg [encL 1 (encL 1 encI_i64) a0.Points, encL 12 enc_RoadmapEdge a0.Edges]), .pure (.int .i64 a1)] [] (.pure (.bool r)) ([]) := by
  refine spec_ofT (n0 := 0) (res := fun r => .pure (.bool r)) (m' := fun _ => []) (search_isPoint_T N a0 a1) ((search_isPoint_run N a0 a1).trans h) hd Try.func46 (by kernel_rfl) (by kernel_rfl) ?_
  rw [search_isPoint_vc]
  repeat' (first | exact trivial | exact ASub.refl _ | exact RSub.refl _ | assumption | exact int_eq0 (by assumption) | exact of_decide_eq_true (by assumption) | exact of_decide_eq_false (by assumption) | rfl | (apply And.intro) | (intro _) | exact nl_a | exact ASub.tt rfl | exact ASub.ff rfl | exact mapR_upE rfl | exact RSub.nilv rfl rfl | exact RSub.gone | exact IsL.el | exact IsL.nl | exact IsL.lit (CSubs.of_eq rfl) rfl | refine IsL.lit ?_ rfl | exact IsL.rep (CSub.of_eq rfl) | refine IsL.a ?_ | refine IsL.r0 ?_ | refine IsLL.r ?_ | exact IsLL.el | exact IsLL.rep | refine IsLL.set ?_ ?_ | refine IsL.r ?_ ?_ | refine IsL.app ?_ ?_ | refine IsL.set ?_ (CSub.of_eq rfl) | refine IsL.set ?_ ?_ | exact IsL.sliceE (by omega) (by omega) | refine IsL.slice ?_ ?_ ?_ | exact IsL.take (by first | exact IsL.el | exact IsL.set IsL.el (CSub.of_eq rfl)) (by omega) | refine IsL.take ?_ ?_ | exact CSubs.nil' | refine CSubs.cons' ?_ ?_ | exact CSub.refl _ | exact nl_c | refine CSub.agg ?_ | refine IsL.c ?_ | exact PSubs.nil' | refine PSubs.cons' ?_ ?_ | exact PSub.refl _ | exact nl_p | refine IsL.p ?_ | refine (PSub.agg ?_).a | refine PSub.agg ?_ | refine ASub.agg ?_ | refine RSub.box ?_ | refine tup_a ?_ | refine ASub.p ?_ | omega)

def cmp_isNaN_int_F (_N : Nat) (a0 : Int) : Option Bool :=
  some (a0 != a0)

def cmp_isNaN_int_T (_N : Nat) (a0 : Int) : T Bool :=
  .ret (a0 != a0)

theorem cmp_isNaN_int_run (N : Nat) (a0 : Int) : (cmp_isNaN_int_T N a0).run N = cmp_isNaN_int_F N a0 := by kernel_rfl

theorem cmp_isNaN_int_vc (N : Nat) (a0 : Int) : (vcFuncT Try.prog drawB Try.f69 (Try.f69.body.getD .skip) 0 0 (cmp_isNaN_int_T N a0) [.pure (.int .i64 a0)] [] (fun r => .pure (.bool r)) (fun _ => [])) =
    ((aS (AVal.pure (PVal.bool (a0 != a0))) ∧ True) ∧ True ∧ True) := by kernel_rfl


set_option maxHeartbeats 4000000 in
theorem cmp_isNaN_int_spec (hd : DrawSound Try.prog drawB) {N : Nat} {a0 : Int} {r : Bool} (h : cmp_isNaN_int_F N a0 = some r) : Spec Try.prog 69 0 [.pure (.int .i64 a0)] [] (.pure (.bool r)) ([]) := by
  refine spec_ofT (n0 := 0) (res := fun r => .pure (.bool r)) (m' := fun _ => []) (cmp_isNaN_int_T N a0) ((cmp_isNaN_int_run N a0).trans h) hd Try.func69 (by kernel_rfl) (by kernel_rfl) ?_
  rw [cmp_isNaN_int_vc]
  repeat' (first | exact trivial | exact ASub.refl _ | exact RSub.refl _ | assumption | exact int_eq0 (by assumption) | exact of_decide_eq_true (by assumption) | exact of_decide_eq_false (by assumption) | rfl | (apply And.intro) | (intro _) | exact nl_a | exact ASub.tt rfl | exact ASub.ff rfl | exact mapR_upE rfl | exact RSub.nilv rfl rfl | exact RSub.gone | exact IsL.el | exact IsL.nl | exact IsL.lit (CSubs.of_eq rfl) rfl | refine IsL.lit ?_ rfl | exact IsL.rep (CSub.of_eq rfl) | refine IsL.a ?_ | refine IsL.r0 ?_ | refine IsLL.r ?_ | exact IsLL.el | exact IsLL.rep | refine IsLL.set ?_ ?_ | refine IsL.r ?_ ?_ | refine IsL.app ?_ ?_ | refine IsL.set ?_ (CSub.of_eq rfl) | refine IsL.set ?_ ?_ | exact IsL.sliceE (by omega) (by omega) | refine IsL.slice ?_ ?_ ?_ | exact IsL.take (by first | exact IsL.el | exact IsL.set IsL.el (CSub.of_eq rfl)) (by omega) | refine IsL.take ?_ ?_ | exact CSubs.nil' | refine CSubs.cons' ?_ ?_ | exact CSub.refl _ | exact nl_c | refine CSub.agg ?_ | refine IsL.c ?_ | exact PSubs.nil' | refine PSubs.cons' ?_ ?_ | exact PSub.refl _ | exact nl_p | refine IsL.p ?_ | refine (PSub.agg ?_).a | refine PSub.agg ?_ | refine ASub.agg ?_ | refine RSub.box ?_ | refine tup_a ?_ | refine ASub.p ?_ | omega)

def cmp_Compare_int_F (N : Nat) (a0 : Int) (a1 : Int) : Option Int :=
  (cmp_isNaN_int_F N a0).bind fun y2 =>
  (cmp_isNaN_int_F N a1).bind fun y4 =>
  bif y2 then
   bif y4 then
    some 0
   else
    some (-1)
  else
   bif y4 then
    some 1
   else
    bif (decide (a0 < a1)) then
     some (-1)
    else
     bif (decide (a0 > a1)) then
      some 1
     else
      some 0

def cmp_Compare_int_T (N : Nat) (a0 : Int) (a1 : Int) : T Int :=
  .call (cmp_isNaN_int_F N a0) (fun y2 => ⟨[], 0, [.pure (.int .i64 a0)], [], .pure (.bool y2), []⟩) fun y2 =>
  .call (cmp_isNaN_int_F N a1) (fun y4 => ⟨[], 0, [.pure (.int .i64 a1)], [], .pure (.bool y4), []⟩) fun y4 =>
  .br y2
   (.br y4
    (.ret 0)
    (.ret (-1)))
   (.br y4
    (.ret 1)
    (.br (decide (a0 < a1))
     (.ret (-1))
     (.br (decide (a0 > a1))
      (.ret 1)
      (.ret 0))))

theorem cmp_Compare_int_run (N : Nat) (a0 : Int) (a1 : Int) : (cmp_Compare_int_T N a0 a1).run N = cmp_Compare_int_F N a0 a1 := by kernel_rfl

theorem cmp_Compare_int_vc (N : Nat) (a0 : Int) (a1 : Int) : (vcFuncT Try.prog drawB Try.f67 (Try.f67.body.getD .skip) 0 0 (cmp_Compare_int_T N a0 a1) [.pure (.int .i64 a0), .pure (.int .i64 a1)] [] (fun r => .pure (.int .i64 r)) (fun _ => [])) =
    (∀ (y : Bool), cmp_isNaN_int_F N a0 = some y → ((aS (aI a0) ∧ True) ∧ True ∧ Spec Try.prog 69 0 [aI a0] [] (AVal.pure (PVal.bool y)) []) ∧ ∀ (y_1 : Bool), cmp_isNaN_int_F N a1 = some y_1 → ((aS (aI a1) ∧ True) ∧ True ∧ Spec Try.prog 69 0 [aI a1] [] (AVal.pure (PVal.bool y_1)) []) ∧ y = y ∧ (y = true → y_1 = y_1 ∧ (y_1 = true → (aS (aI 0) ∧ True) ∧ True ∧ True) ∧ (y_1 = false → (aS (aI (-1 : Int)) ∧ True) ∧ True ∧ True)) ∧ (y = false → y_1 = y_1 ∧ (y_1 = true → (aS (aI 1) ∧ True) ∧ True ∧ True) ∧ (y_1 = false → decide (a0 < a1) = decide (a0 < a1) ∧ (decide (a0 < a1) = true → (aS (aI (-1 : Int)) ∧ True) ∧ True ∧ True) ∧ (decide (a0 < a1) = false → decide (a0 > a1) = decide (a0 > a1) ∧ (decide (a0 > a1) = true → (aS (aI 1) ∧ True) ∧ True ∧ True) ∧ (decide (a0 > a1) = false → (aS (aI 0) ∧ True) ∧ True ∧ True))))) := by kernel_rfl


set_option maxHeartbeats 4000000 in
theorem cmp_Compare_int_spec (hd : DrawSound Try.prog drawB) {N : Nat} {a0 : Int} {a1 : Int} {r : Int} (h : cmp_Compare_int_F N a0 a1 = some r) : Spec Try.prog 67 0 [.pure (.int .i64 a0), .pure (.int .i64 a1)] [] (.pure (.int .i64 r)) ([]) := by
  refine spec_ofT (n0 := 0) (res := fun r => .pure (.int .i64 r)) (m' := fun _ => []) (cmp_Compare_int_T N a0 a1) ((cmp_Compare_int_run N a0 a1).trans h) hd Try.func67 (by kernel_rfl) (by kernel_rfl) ?_
  rw [cmp_Compare_int_vc]
  repeat' (first | exact trivial | exact ASub.refl _ | exact RSub.refl _ | exact cmp_isNaN_int_spec hd (by assumption) | assumption | exact int_eq0 (by assumption) | exact of_decide_eq_true (by assumption) | exact of_decide_eq_false (by assumption) | rfl | (apply And.intro) | (intro _) | exact nl_a | exact ASub.tt rfl | exact ASub.ff rfl | exact mapR_upE rfl | exact RSub.nilv rfl rfl | exact RSub.gone | exact IsL.el | exact IsL.nl | exact IsL.lit (CSubs.of_eq rfl) rfl | refine IsL.lit ?_ rfl | exact IsL.rep (CSub.of_eq rfl) | refine IsL.a ?_ | refine IsL.r0 ?_ | refine IsLL.r ?_ | exact IsLL.el | exact IsLL.rep | refine IsLL.set ?_ ?_ | refine IsL.r ?_ ?_ | refine IsL.app ?_ ?_ | refine IsL.set ?_ (CSub.of_eq rfl) | refine IsL.set ?_ ?_ | exact IsL.sliceE (by omega) (by omega) | refine IsL.slice ?_ ?_ ?_ | exact IsL.take (by first | exact IsL.el | exact IsL.set IsL.el (CSub.of_eq rfl)) (by omega) | refine IsL.take ?_ ?_ | exact CSubs.nil' | refine CSubs.cons' ?_ ?_ | exact CSub.refl _ | exact nl_c | refine CSub.agg ?_ | refine IsL.c ?_ | exact PSubs.nil' | refine PSubs.cons' ?_ ?_ | exact PSub.refl _ | exact nl_p | refine IsL.p ?_ | refine (PSub.agg ?_).a | refine PSub.agg ?_ | refine ASub.agg ?_ | refine RSub.box ?_ | refine tup_a ?_ | refine ASub.p ?_ | omega)

def cmp_Or_int_F (N : Nat) (a0 : (List Int)) : Option Int :=
  andK (iter (fun (x5 : Int) => (
   bif (decide (x5 < ((a0.length : Nat) : Int))) then
    grd (0 ≤ x5 ∧ x5 < ((a0.length : Nat) : Int)) <|
    bif ((a0.getD ((x5).toNat) default) != 0) then
     some (.fin (a0.getD ((x5).toNat) default))
    else
     some (.next (IntKind.i64.wrap (x5 + 1)))
   else
    some (.out .u) : Option (Step3 Int U0 _))) N 0) fun _ =>
  some 0

def cmp_Or_int_T (_N : Nat) (a0 : (List Int)) : T Int :=
  .loop (fun (x5 : Int) => ⟨[(3, .pure (.int .i64 0)), (6, .pure (encL 1 encI_i64 a0)), (7, .pure (.int .i64 ((a0.length : Nat) : Int))), (8, .pure (.int .i64 x5))], [], [], 0⟩)
   (.exit 0) (fun (_ : U0) => ⟨[(3, .pure (.int .i64 0))], [], [], 0⟩)
   (fun x5 => .br (decide (x5 < ((a0.length : Nat) : Int)))
     (.grd (0 ≤ x5 ∧ x5 < ((a0.length : Nat) : Int)) <|
     .br ((a0.getD ((x5).toNat) default) != 0)
      (.ret (.fin (a0.getD ((x5).toNat) default)))
      (.ret (.next (IntKind.i64.wrap (x5 + 1)))))
     (.ret (.out .u)))
   0 fun _ =>
  .ret 0

theorem cmp_Or_int_run (N : Nat) (a0 : (List Int)) : (cmp_Or_int_T N a0).run N = cmp_Or_int_F N a0 := by kernel_rfl

theorem cmp_Or_int_vc (N : Nat) (a0 : (List Int)) : (vcFuncT Try.prog drawB Try.f66 (Try.f66.body.getD .skip) 0 0 (cmp_Or_int_T N a0) [.pure (encL 1 encI_i64 a0)] [] (fun r => .pure (.int .i64 r)) (fun _ => [])) =
    ((∀ (_x : Int), true = true ∧ 0 ≤ 0) ∧ (∀ (_y : U0), true = true ∧ 0 ≤ 0) ∧ ((aS (aI 0) ∧ aS (AVal.pure (encL 1 encI_i64 a0)) ∧ aS (aI (↑a0.length : Int)) ∧ aS (aI 0) ∧ True) ∧ True ∧ True) ∧ (∀ (x : Int), decide (x < (↑a0.length : Int)) = decide (x < (↑a0.length : Int)) ∧ (decide (x < (↑a0.length : Int)) = true → (0 : Int) ≤ x ∧ x < (↑a0.length : Int) → ((0 : Int) ≤ x ∧ x < (↑a0.length : Int)) ∧ (a0.getD x.toNat default != (0 : Int)) = (a0.getD x.toNat default != (0 : Int)) ∧ ((a0.getD x.toNat default != (0 : Int)) = true → (aS (aI (a0.getD x.toNat default)) ∧ True) ∧ True ∧ True) ∧ ((a0.getD x.toNat default != (0 : Int)) = false → (aS (aI 0) ∧ aS (AVal.pure (encL 1 encI_i64 a0)) ∧ aS (aI (↑a0.length : Int)) ∧ aS (aI (IntKind.i64.wrap (x + (1 : Int)))) ∧ True) ∧ True ∧ True)) ∧ (decide (x < (↑a0.length : Int)) = false → (aS (aI 0) ∧ True) ∧ True ∧ True)) ∧ ∀ (_y : U0), (aS (aI 0) ∧ True) ∧ True ∧ True) := by kernel_rfl


set_option maxHeartbeats 4000000 in
theorem cmp_Or_int_spec (hd : DrawSound Try.prog drawB) {N : Nat} {a0 : (List Int)} {r : Int} (h : cmp_Or_int_F N a0 = some r) : Spec Try.prog 66 0 [.pure (encL 1 encI_i64 a0)] [] (.pure (.int .i64 r)) ([]) := by
  refine spec_ofT (n0 := 0) (res := fun r => .pure (.int .i64 r)) (m' := fun _ => []) (cmp_Or_int_T N a0) ((cmp_Or_int_run N a0).trans h) hd Try.func66 (by kernel_rfl) (by kernel_rfl) ?_
  rw [cmp_Or_int_vc]
  repeat' (first | exact trivial | exact ASub.refl _ | exact RSub.refl _ | assumption | exact int_eq0 (by assumption) | exact of_decide_eq_true (by assumption) | exact of_decide_eq_false (by assumption) | rfl | (apply And.intro) | (intro _) | exact nl_a | exact ASub.tt rfl | exact ASub.ff rfl | exact mapR_upE rfl | exact RSub.nilv rfl rfl | exact RSub.gone | exact IsL.el | exact IsL.nl | exact IsL.lit (CSubs.of_eq rfl) rfl | refine IsL.lit ?_ rfl | exact IsL.rep (CSub.of_eq rfl) | refine IsL.a ?_ | refine IsL.r0 ?_ | refine IsLL.r ?_ | exact IsLL.el | exact IsLL.rep | refine IsLL.set ?_ ?_ | refine IsL.r ?_ ?_ | refine IsL.app ?_ ?_ | refine IsL.set ?_ (CSub.of_eq rfl) | refine IsL.set ?_ ?_ | exact IsL.sliceE (by omega) (by omega) | refine IsL.slice ?_ ?_ ?_ | exact IsL.take (by first | exact IsL.el | exact IsL.set IsL.el (CSub.of_eq rfl)) (by omega) | refine IsL.take ?_ ?_ | exact CSubs.nil' | refine CSubs.cons' ?_ ?_ | exact CSub.refl _ | exact nl_c | refine CSub.agg ?_ | refine IsL.c ?_ | exact PSubs.nil' | refine PSubs.cons' ?_ ?_ | exact PSub.refl _ | exact nl_p | refine IsL.p ?_ | refine (PSub.agg ?_).a | refine PSub.agg ?_ | refine ASub.agg ?_ | refine RSub.box ?_ | refine tup_a ?_ | refine ASub.p ?_ | omega)

def search_comparePair_F (N : Nat) (a0 : S_RoadmapEdge) (a1 : (Int × Int)) : Option Int :=
  grd (0 ≤ 0 ∧ 0 < ((2 : Nat) : Int)) <|
  (cmp_Compare_int_F N a0.U a1.1).bind fun y1 =>
  grd (0 ≤ 1 ∧ 1 < ((2 : Nat) : Int)) <|
  (cmp_Compare_int_F N a0.V a1.2).bind fun y2 =>
  (cmp_Or_int_F N ([y1, y2] : (List Int))).bind fun y3 =>
  some y3

def search_comparePair_T (N : Nat) (a0 : S_RoadmapEdge) (a1 : (Int × Int)) : T Int :=
  .grd (0 ≤ 0 ∧ 0 < ((2 : Nat) : Int)) <|
  .call (cmp_Compare_int_F N a0.U a1.1) (fun y1 => ⟨[], 0, [.pure (.int .i64 a0.U), .pure (.int .i64 a1.1)], [], .pure (.int .i64 y1), []⟩) fun y1 =>
  .grd (0 ≤ 1 ∧ 1 < ((2 : Nat) : Int)) <|
  .call (cmp_Compare_int_F N a0.V a1.2) (fun y2 => ⟨[], 0, [.pure (.int .i64 a0.V), .pure (.int .i64 a1.2)], [], .pure (.int .i64 y2), []⟩) fun y2 =>
  .call (cmp_Or_int_F N ([y1, y2] : (List Int))) (fun y3 => ⟨[], 0, [.pure (encL 1 encI_i64 ([y1, y2] : (List Int)))], [], .pure (.int .i64 y3), []⟩) fun y3 =>
  .ret y3

theorem search_comparePair_run (N : Nat) (a0 : S_RoadmapEdge) (a1 : (Int × Int)) : (search_comparePair_T N a0 a1).run N = search_comparePair_F N a0 a1 := by kernel_rfl

theorem search_comparePair_vc (N : Nat) (a0 : S_RoadmapEdge) (a1 : (Int × Int)) : (vcFuncT Try.prog drawB Try.f56 (Try.f56.body.getD .skip) 0 0 (search_comparePair_T N a0 a1) [.pure (.agg [.int .i64 a0.U, .int .i64 a0.V, .int .i64 a0.Cost, .int .i64 a0.State, .int .i64 a0.Proof.Kind, encL 3 enc_Piece a0.Proof.Pieces, .int .i64 a0.Proof.At.Depth, .int .i64 a0.Proof.At.Index, encL 3 enc_arr_3_int64 a0.Proof.At.Normals, .int .i64 a0.Proof.Witness.Pair, encL 1 encI_i64 a0.Proof.Witness.Left, encL 1 encI_i64 a0.Proof.Witness.Right]), .pure (.agg [.int .i64 a1.1, .int .i64 a1.2])] [] (fun r => .pure (.int .i64 r)) (fun _ => [])) =
    (0 ≤ 0 ∧ (0 : Int) < (↑2 : Int) → ((0 : Int) ≤ (0 : Int) ∧ (0 : Int) < (↑2 : Int)) ∧ ∀ (y : Int), cmp_Compare_int_F N a0.U a1.fst = some y → ((aS (aI a0.U) ∧ aS (aI a1.fst) ∧ True) ∧ True ∧ Spec Try.prog 67 0 [aI a0.U, aI a1.fst] [] (aI y) []) ∧ (0 ≤ 1 ∧ (1 : Int) < (↑2 : Int) → ((0 : Int) ≤ (1 : Int) ∧ (1 : Int) < (↑2 : Int)) ∧ ∀ (y_1 : Int), cmp_Compare_int_F N a0.V a1.snd = some y_1 → ((aS (aI a0.V) ∧ aS (aI a1.snd) ∧ True) ∧ True ∧ Spec Try.prog 67 0 [aI a0.V, aI a1.snd] [] (aI y_1) []) ∧ ∀ (y_2 : Int), cmp_Or_int_F N [y, y_1] = some y_2 → ((ASub (AVal.pure (PVal.lst 1 2 fun (i : Nat) => lget [PVal.int IntKind.i64 y, PVal.int IntKind.i64 y_1] i)) (AVal.pure (encL 1 encI_i64 [y, y_1])) ∧ True) ∧ True ∧ Spec Try.prog 66 0 [AVal.pure (encL 1 encI_i64 [y, y_1])] [] (aI y_2) []) ∧ (aS (aI y_2) ∧ True) ∧ True ∧ True)) := by kernel_rfl


set_option maxHeartbeats 4000000 in
theorem search_comparePair_spec (hd : DrawSound Try.prog drawB) {N : Nat} {a0 : S_RoadmapEdge} {a1 : (Int × Int)} {r : Int} (h : search_comparePair_F N a0 a1 = some r) : Spec Try.prog 56 0 [.pure (.agg [.int .i64 a0.U, .int .i64 a0.V, .int .i64 a0.Cost, .int .i64 a0.State, .int .i64 a0.Proof.Kind, encL 3 enc_Piece a0.Proof.Pieces, .int .i64 a0.Proof.At.Depth, .int .i64 a0.Proof.At.Index, encL 3 enc_arr_3_int64 a0.Proof.At.Normals, .int .i64 a0.Proof.Witness.Pair, encL 1 encI_i64 a0.Proof.Witness.Left, encL 1 encI_i64 a0.Proof.Witness.Right]), .pure (.agg [.int .i64 a1.1, .int .i64 a1.2])] [] (.pure (.int .i64 r)) ([]) := by
  refine spec_ofT (n0 := 0) (res := fun r => .pure (.int .i64 r)) (m' := fun _ => []) (search_comparePair_T N a0 a1) ((search_comparePair_run N a0 a1).trans h) hd Try.func56 (by kernel_rfl) (by kernel_rfl) ?_
  rw [search_comparePair_vc]
  repeat' (first | exact trivial | exact ASub.refl _ | exact RSub.refl _ | exact cmp_Compare_int_spec hd (by assumption) | exact cmp_Or_int_spec hd (by assumption) | assumption | exact int_eq0 (by assumption) | exact of_decide_eq_true (by assumption) | exact of_decide_eq_false (by assumption) | rfl | (apply And.intro) | (intro _) | exact nl_a | exact ASub.tt rfl | exact ASub.ff rfl | exact mapR_upE rfl | exact RSub.nilv rfl rfl | exact RSub.gone | exact IsL.el | exact IsL.nl | exact IsL.lit (CSubs.of_eq rfl) rfl | refine IsL.lit ?_ rfl | exact IsL.rep (CSub.of_eq rfl) | refine IsL.a ?_ | refine IsL.r0 ?_ | refine IsLL.r ?_ | exact IsLL.el | exact IsLL.rep | refine IsLL.set ?_ ?_ | refine IsL.r ?_ ?_ | refine IsL.app ?_ ?_ | refine IsL.set ?_ (CSub.of_eq rfl) | refine IsL.set ?_ ?_ | exact IsL.sliceE (by omega) (by omega) | refine IsL.slice ?_ ?_ ?_ | exact IsL.take (by first | exact IsL.el | exact IsL.set IsL.el (CSub.of_eq rfl)) (by omega) | refine IsL.take ?_ ?_ | exact CSubs.nil' | refine CSubs.cons' ?_ ?_ | exact CSub.refl _ | exact nl_c | refine CSub.agg ?_ | refine IsL.c ?_ | exact PSubs.nil' | refine PSubs.cons' ?_ ?_ | exact PSub.refl _ | exact nl_p | refine IsL.p ?_ | refine (PSub.agg ?_).a | refine PSub.agg ?_ | refine ASub.agg ?_ | refine RSub.box ?_ | refine tup_a ?_ | refine ASub.p ?_ | omega)

def search_wellFormed_F (N : Nat) (a0 : S_Roadmap) : Option Bool :=
  andC (
   bif (decide (((a0.Points.length : Nat) : Int) > 1024)) then
    some (.out true)
   else
    some (.out (decide (((a0.Edges.length : Nat) : Int) > 8192))) : Option (Step3 Unit Bool _)) fun y2 =>
  bif y2 then
   some false
  else
   andK (iter (fun (x135 : Int) => (
    bif (decide (x135 < ((a0.Edges.length : Nat) : Int))) then
     grd (0 ≤ x135 ∧ x135 < ((a0.Edges.length : Nat) : Int)) <|
     andC (
      (search_isPoint_F N (⟨a0.Points, a0.Edges⟩ : S_Roadmap) ((a0.Edges.getD ((x135).toNat) default).U)).bind fun y203 =>
      bif (!y203) then
       some (.out true)
      else
       (search_isPoint_F N (⟨a0.Points, a0.Edges⟩ : S_Roadmap) ((a0.Edges.getD ((x135).toNat) default).V)).bind fun y204 =>
       bif (!y204) then
        some (.out true)
       else
        bif (decide (((a0.Edges.getD ((x135).toNat) default).U) ≥ ((a0.Edges.getD ((x135).toNat) default).V))) then
         some (.out true)
        else
         bif (decide (((a0.Edges.getD ((x135).toNat) default).Cost) < 0)) then
          some (.out true)
         else
          some (.out (decide (((a0.Edges.getD ((x135).toNat) default).Cost) > 1099511627776))) : Option (Step3 Unit Bool _)) fun y202 =>
     bif y202 then
      some (.fin false)
     else
      andC (
       bif (decide (x135 > 0)) then
        grd (0 ≤ (IntKind.i64.wrap (x135 - 1)) ∧ (IntKind.i64.wrap (x135 - 1)) < ((a0.Edges.length : Nat) : Int)) <|
        (search_comparePair_F N (a0.Edges.getD (((IntKind.i64.wrap (x135 - 1))).toNat) default) ((a0.Edges.getD ((x135).toNat) default).U, (a0.Edges.getD ((x135).toNat) default).V)).bind fun y208 =>
        some (.out (decide (y208 ≥ 0)))
       else
        some (.out false) : Option (Step3 Unit Bool _)) fun y207 =>
      bif y207 then
       some (.fin false)
      else
       some (.next (IntKind.i64.wrap (x135 + 1)))
    else
     some (.out .u) : Option (Step3 Int U0 _))) N 0) fun _ =>
   some true

def search_wellFormed_T (N : Nat) (a0 : S_Roadmap) : T Bool :=
  .cut 2 (fun (y2 : Bool) => ⟨[(1, .ptr 0 0), (14, .pure (.bool y2))], [(0, .box [.pure (encL 1 (encL 1 encI_i64) a0.Points), .pure (encL 12 enc_RoadmapEdge a0.Edges)])], [], 1⟩)
   (.br (decide (((a0.Points.length : Nat) : Int) > 1024))
    (.ret (.out true))
    (.ret (.out (decide (((a0.Edges.length : Nat) : Int) > 8192))))) fun y2 =>
  .br y2
   (.ret false)
   (.loop (fun (x135 : Int) => ⟨[(1, .ptr 0 0), (17, .pure (.int .i64 ((a0.Edges.length : Nat) : Int))), (18, .pure (.int .i64 x135))], [(0, .box [.pure (encL 1 (encL 1 encI_i64) a0.Points), .pure (encL 12 enc_RoadmapEdge a0.Edges)])], [], 1⟩)
    (.exit 0) (fun (_ : U0) => ⟨[], [], [], 0⟩)
    (fun x135 => .br (decide (x135 < ((a0.Edges.length : Nat) : Int)))
      (.grd (0 ≤ x135 ∧ x135 < ((a0.Edges.length : Nat) : Int)) <|
      .cut 1 (fun (y202 : Bool) => ⟨[(1, .ptr 0 0), (3, .pure (.int .i64 x135)), (4, .ref (.agg [.int .i64 ((a0.Edges.getD ((x135).toNat) default).U), .int .i64 ((a0.Edges.getD ((x135).toNat) default).V), .int .i64 ((a0.Edges.getD ((x135).toNat) default).Cost), .int .i64 ((a0.Edges.getD ((x135).toNat) default).State), .int .i64 ((a0.Edges.getD ((x135).toNat) default).Proof.Kind), encL 3 enc_Piece ((a0.Edges.getD ((x135).toNat) default).Proof.Pieces), .int .i64 ((a0.Edges.getD ((x135).toNat) default).Proof.At.Depth), .int .i64 ((a0.Edges.getD ((x135).toNat) default).Proof.At.Index), encL 3 enc_arr_3_int64 ((a0.Edges.getD ((x135).toNat) default).Proof.At.Normals), .int .i64 ((a0.Edges.getD ((x135).toNat) default).Proof.Witness.Pair), encL 1 encI_i64 ((a0.Edges.getD ((x135).toNat) default).Proof.Witness.Left), encL 1 encI_i64 ((a0.Edges.getD ((x135).toNat) default).Proof.Witness.Right)])), (17, .pure (.int .i64 ((a0.Edges.length : Nat) : Int))), (18, .pure (.int .i64 x135)), (65, .pure (.bool y202))], [(0, .box [.pure (encL 1 (encL 1 encI_i64) a0.Points), .pure (encL 12 enc_RoadmapEdge a0.Edges)])], [], 1⟩)
       (.call (search_isPoint_F N (⟨a0.Points, a0.Edges⟩ : S_Roadmap) ((a0.Edges.getD ((x135).toNat) default).U)) (fun y203 => ⟨[], 0, [.pure (.agg [encL 1 (encL 1 encI_i64) ((⟨a0.Points, a0.Edges⟩ : S_Roadmap).Points), encL 12 enc_RoadmapEdge ((⟨a0.Points, a0.Edges⟩ : S_Roadmap).Edges)]), .pure (.int .i64 ((a0.Edges.getD ((x135).toNat) default).U))], [], .pure (.bool y203), []⟩) fun y203 =>
       .br (!y203)
        (.ret (.out true))
        (.call (search_isPoint_F N (⟨a0.Points, a0.Edges⟩ : S_Roadmap) ((a0.Edges.getD ((x135).toNat) default).V)) (fun y204 => ⟨[], 0, [.pure (.agg [encL 1 (encL 1 encI_i64) ((⟨a0.Points, a0.Edges⟩ : S_Roadmap).Points), encL 12 enc_RoadmapEdge ((⟨a0.Points, a0.Edges⟩ : S_Roadmap).Edges)]), .pure (.int .i64 ((a0.Edges.getD ((x135).toNat) default).V))], [], .pure (.bool y204), []⟩) fun y204 =>
        .br (!y204)
         (.ret (.out true))
         (.br (decide (((a0.Edges.getD ((x135).toNat) default).U) ≥ ((a0.Edges.getD ((x135).toNat) default).V)))
          (.ret (.out true))
          (.br (decide (((a0.Edges.getD ((x135).toNat) default).Cost) < 0))
           (.ret (.out true))
           (.ret (.out (decide (((a0.Edges.getD ((x135).toNat) default).Cost) > 1099511627776)))))))) fun y202 =>
      .br y202
       (.ret (.fin false))
       (.cut 0 (fun (y207 : Bool) => ⟨[(1, .ptr 0 0), (17, .pure (.int .i64 ((a0.Edges.length : Nat) : Int))), (18, .pure (.int .i64 x135)), (86, .pure (.bool y207))], [(0, .box [.pure (encL 1 (encL 1 encI_i64) a0.Points), .pure (encL 12 enc_RoadmapEdge a0.Edges)])], [], 1⟩)
        (.br (decide (x135 > 0))
         (.grd (0 ≤ (IntKind.i64.wrap (x135 - 1)) ∧ (IntKind.i64.wrap (x135 - 1)) < ((a0.Edges.length : Nat) : Int)) <|
         .call (search_comparePair_F N (a0.Edges.getD (((IntKind.i64.wrap (x135 - 1))).toNat) default) ((a0.Edges.getD ((x135).toNat) default).U, (a0.Edges.getD ((x135).toNat) default).V)) (fun y208 => ⟨[], 0, [.pure (.agg [.int .i64 ((a0.Edges.getD (((IntKind.i64.wrap (x135 - 1))).toNat) default).U), .int .i64 ((a0.Edges.getD (((IntKind.i64.wrap (x135 - 1))).toNat) default).V), .int .i64 ((a0.Edges.getD (((IntKind.i64.wrap (x135 - 1))).toNat) default).Cost), .int .i64 ((a0.Edges.getD (((IntKind.i64.wrap (x135 - 1))).toNat) default).State), .int .i64 ((a0.Edges.getD (((IntKind.i64.wrap (x135 - 1))).toNat) default).Proof.Kind), encL 3 enc_Piece ((a0.Edges.getD (((IntKind.i64.wrap (x135 - 1))).toNat) default).Proof.Pieces), .int .i64 ((a0.Edges.getD (((IntKind.i64.wrap (x135 - 1))).toNat) default).Proof.At.Depth), .int .i64 ((a0.Edges.getD (((IntKind.i64.wrap (x135 - 1))).toNat) default).Proof.At.Index), encL 3 enc_arr_3_int64 ((a0.Edges.getD (((IntKind.i64.wrap (x135 - 1))).toNat) default).Proof.At.Normals), .int .i64 ((a0.Edges.getD (((IntKind.i64.wrap (x135 - 1))).toNat) default).Proof.Witness.Pair), encL 1 encI_i64 ((a0.Edges.getD (((IntKind.i64.wrap (x135 - 1))).toNat) default).Proof.Witness.Left), encL 1 encI_i64 ((a0.Edges.getD (((IntKind.i64.wrap (x135 - 1))).toNat) default).Proof.Witness.Right)]), .pure (.agg [.int .i64 (((a0.Edges.getD ((x135).toNat) default).U, (a0.Edges.getD ((x135).toNat) default).V).1), .int .i64 (((a0.Edges.getD ((x135).toNat) default).U, (a0.Edges.getD ((x135).toNat) default).V).2)])], [], .pure (.int .i64 y208), []⟩) fun y208 =>
         .ret (.out (decide (y208 ≥ 0))))
         (.ret (.out false))) fun y207 =>
       .br y207
        (.ret (.fin false))
        (.ret (.next (IntKind.i64.wrap (x135 + 1))))))
      (.ret (.out .u)))
    0 fun _ =>
   .ret true)

theorem search_wellFormed_run (N : Nat) (a0 : S_Roadmap) : (search_wellFormed_T N a0).run N = search_wellFormed_F N a0 := by kernel_rfl

theorem search_wellFormed_vc (N : Nat) (a0 : S_Roadmap) : (vcFuncT Try.prog drawB Try.f45 (Try.f45.body.getD .skip) 0 0 (search_wellFormed_T N a0) [.pure (.agg [encL 1 (encL 1 encI_i64) a0.Points, encL 12 enc_RoadmapEdge a0.Edges])] [] (fun r => .pure (.bool r)) (fun _ => [])) =
    ((∀ (_y : Bool), true = true ∧ 0 ≤ 1) ∧ (decide ((↑a0.Points.length : Int) > (1024 : Int)) = decide ((↑a0.Points.length : Int) > (1024 : Int)) ∧ (decide ((↑a0.Points.length : Int) > (1024 : Int)) = true → (aS (AVal.ptr 0 0) ∧ ASub AVal.tt (AVal.pure (PVal.bool true)) ∧ True) ∧ (rS (Res.box [AVal.pure (PVal.lst 1 a0.Points.length fun (a : Nat) => encL 1 encI_i64 (a0.Points.getD a default)), AVal.pure (encL 12 enc_RoadmapEdge a0.Edges)]) ∧ True) ∧ True) ∧ (decide ((↑a0.Points.length : Int) > (1024 : Int)) = false → (aS (AVal.ptr 0 0) ∧ aS (AVal.pure (PVal.bool (decide ((↑a0.Edges.length : Int) > (8192 : Int))))) ∧ True) ∧ (rS (Res.box [AVal.pure (PVal.lst 1 a0.Points.length fun (a : Nat) => encL 1 encI_i64 (a0.Points.getD a default)), AVal.pure (encL 12 enc_RoadmapEdge a0.Edges)]) ∧ True) ∧ True)) ∧ ∀ (y : Bool), y = y ∧ (y = true → (aS (AVal.pure (PVal.bool false)) ∧ True) ∧ True ∧ True) ∧ (y = false → (∀ (_x : Int), true = true ∧ 0 ≤ 1) ∧ (∀ (_y : U0), true = true ∧ 0 ≤ 0) ∧ ((aS (AVal.ptr 0 0) ∧ aS (aI (↑a0.Edges.length : Int)) ∧ aS (aI 0) ∧ True) ∧ (rS (Res.box [AVal.pure (PVal.lst 1 a0.Points.length fun (a : Nat) => encL 1 encI_i64 (a0.Points.getD a default)), AVal.pure (encL 12 enc_RoadmapEdge a0.Edges)]) ∧ True) ∧ True) ∧ (∀ (x : Int), decide (x < (↑a0.Edges.length : Int)) = decide (x < (↑a0.Edges.length : Int)) ∧ (decide (x < (↑a0.Edges.length : Int)) = true → (0 : Int) ≤ x ∧ x < (↑a0.Edges.length : Int) → ((0 : Int) ≤ x ∧ x < (↑a0.Edges.length : Int)) ∧ (∀ (_y : Bool), true = true ∧ 0 ≤ 1) ∧ (∀ (y : Bool), search_isPoint_F N (S_Roadmap.mk a0.Points a0.Edges) (a0.Edges.getD x.toNat default).U = some y → ((aS (AVal.pure (PVal.agg [PVal.lst 1 a0.Points.length fun (a : Nat) => encL 1 encI_i64 (a0.Points.getD a default), encL 12 enc_RoadmapEdge a0.Edges])) ∧ aS (aI (a0.Edges.getD x.toNat default).U) ∧ True) ∧ True ∧ Spec Try.prog 46 0 [AVal.pure (PVal.agg [PVal.lst 1 a0.Points.length fun (a : Nat) => encL 1 encI_i64 (a0.Points.getD a default), encL 12 enc_RoadmapEdge a0.Edges]), aI (a0.Edges.getD x.toNat default).U] [] (AVal.pure (PVal.bool y)) []) ∧ (!y) = !y ∧ ((!y) = true → (aS (AVal.ptr 0 0) ∧ aS (aI x) ∧ aS (AVal.ref (PVal.agg [PVal.int IntKind.i64 (a0.Edges.getD x.toNat default).U, PVal.int IntKind.i64 (a0.Edges.getD x.toNat default).V, PVal.int IntKind.i64 (a0.Edges.getD x.toNat default).Cost, PVal.int IntKind.i64 (a0.Edges.getD x.toNat default).State, PVal.int IntKind.i64 (a0.Edges.getD x.toNat default).Proof.Kind, encL 3 enc_Piece (a0.Edges.getD x.toNat default).Proof.Pieces, PVal.int IntKind.i64 (a0.Edges.getD x.toNat default).Proof.At.Depth, PVal.int IntKind.i64 (a0.Edges.getD x.toNat default).Proof.At.Index, encL 3 enc_arr_3_int64 (a0.Edges.getD x.toNat default).Proof.At.Normals, PVal.int IntKind.i64 (a0.Edges.getD x.toNat default).Proof.Witness.Pair, encL 1 encI_i64 (a0.Edges.getD x.toNat default).Proof.Witness.Left, encL 1 encI_i64 (a0.Edges.getD x.toNat default).Proof.Witness.Right])) ∧ aS (aI (↑a0.Edges.length : Int)) ∧ aS (aI x) ∧ ASub AVal.tt (AVal.pure (PVal.bool true)) ∧ True) ∧ (rS (Res.box [AVal.pure (PVal.lst 1 a0.Points.length fun (a : Nat) => encL 1 encI_i64 (a0.Points.getD a default)), AVal.pure (encL 12 enc_RoadmapEdge a0.Edges)]) ∧ True) ∧ True) ∧ ((!y) = false → ∀ (y : Bool), search_isPoint_F N (S_Roadmap.mk a0.Points a0.Edges) (a0.Edges.getD x.toNat default).V = some y → ((aS (AVal.pure (PVal.agg [PVal.lst 1 a0.Points.length fun (a : Nat) => encL 1 encI_i64 (a0.Points.getD a default), encL 12 enc_RoadmapEdge a0.Edges])) ∧ aS (aI (a0.Edges.getD x.toNat default).V) ∧ True) ∧ True ∧ Spec Try.prog 46 0 [AVal.pure (PVal.agg [PVal.lst 1 a0.Points.length fun (a : Nat) => encL 1 encI_i64 (a0.Points.getD a default), encL 12 enc_RoadmapEdge a0.Edges]), aI (a0.Edges.getD x.toNat default).V] [] (AVal.pure (PVal.bool y)) []) ∧ (!y) = !y ∧ ((!y) = true → (aS (AVal.ptr 0 0) ∧ aS (aI x) ∧ aS (AVal.ref (PVal.agg [PVal.int IntKind.i64 (a0.Edges.getD x.toNat default).U, PVal.int IntKind.i64 (a0.Edges.getD x.toNat default).V, PVal.int IntKind.i64 (a0.Edges.getD x.toNat default).Cost, PVal.int IntKind.i64 (a0.Edges.getD x.toNat default).State, PVal.int IntKind.i64 (a0.Edges.getD x.toNat default).Proof.Kind, encL 3 enc_Piece (a0.Edges.getD x.toNat default).Proof.Pieces, PVal.int IntKind.i64 (a0.Edges.getD x.toNat default).Proof.At.Depth, PVal.int IntKind.i64 (a0.Edges.getD x.toNat default).Proof.At.Index, encL 3 enc_arr_3_int64 (a0.Edges.getD x.toNat default).Proof.At.Normals, PVal.int IntKind.i64 (a0.Edges.getD x.toNat default).Proof.Witness.Pair, encL 1 encI_i64 (a0.Edges.getD x.toNat default).Proof.Witness.Left, encL 1 encI_i64 (a0.Edges.getD x.toNat default).Proof.Witness.Right])) ∧ aS (aI (↑a0.Edges.length : Int)) ∧ aS (aI x) ∧ ASub AVal.tt (AVal.pure (PVal.bool true)) ∧ True) ∧ (rS (Res.box [AVal.pure (PVal.lst 1 a0.Points.length fun (a : Nat) => encL 1 encI_i64 (a0.Points.getD a default)), AVal.pure (encL 12 enc_RoadmapEdge a0.Edges)]) ∧ True) ∧ True) ∧ ((!y) = false → decide ((a0.Edges.getD x.toNat default).U ≥ (a0.Edges.getD x.toNat default).V) = decide ((a0.Edges.getD x.toNat default).U ≥ (a0.Edges.getD x.toNat default).V) ∧ (decide ((a0.Edges.getD x.toNat default).U ≥ (a0.Edges.getD x.toNat default).V) = true → (aS (AVal.ptr 0 0) ∧ aS (aI x) ∧ aS (AVal.ref (PVal.agg [PVal.int IntKind.i64 (a0.Edges.getD x.toNat default).U, PVal.int IntKind.i64 (a0.Edges.getD x.toNat default).V, PVal.int IntKind.i64 (a0.Edges.getD x.toNat default).Cost, PVal.int IntKind.i64 (a0.Edges.getD x.toNat default).State, PVal.int IntKind.i64 (a0.Edges.getD x.toNat default).Proof.Kind, encL 3 enc_Piece (a0.Edges.getD x.toNat default).Proof.Pieces, PVal.int IntKind.i64 (a0.Edges.getD x.toNat default).Proof.At.Depth, PVal.int IntKind.i64 (a0.Edges.getD x.toNat default).Proof.At.Index, encL 3 enc_arr_3_int64 (a0.Edges.getD x.toNat default).Proof.At.Normals, PVal.int IntKind.i64 (a0.Edges.getD x.toNat default).Proof.Witness.Pair, encL 1 encI_i64 (a0.Edges.getD x.toNat default).Proof.Witness.Left, encL 1 encI_i64 (a0.Edges.getD x.toNat default).Proof.Witness.Right])) ∧ aS (aI (↑a0.Edges.length : Int)) ∧ aS (aI x) ∧ ASub AVal.tt (AVal.pure (PVal.bool true)) ∧ True) ∧ (rS (Res.box [AVal.pure (PVal.lst 1 a0.Points.length fun (a : Nat) => encL 1 encI_i64 (a0.Points.getD a default)), AVal.pure (encL 12 enc_RoadmapEdge a0.Edges)]) ∧ True) ∧ True) ∧ (decide ((a0.Edges.getD x.toNat default).U ≥ (a0.Edges.getD x.toNat default).V) = false → decide ((a0.Edges.getD x.toNat default).Cost < (0 : Int)) = decide ((a0.Edges.getD x.toNat default).Cost < (0 : Int)) ∧ (decide ((a0.Edges.getD x.toNat default).Cost < (0 : Int)) = true → (aS (AVal.ptr 0 0) ∧ aS (aI x) ∧ aS (AVal.ref (PVal.agg [PVal.int IntKind.i64 (a0.Edges.getD x.toNat default).U, PVal.int IntKind.i64 (a0.Edges.getD x.toNat default).V, PVal.int IntKind.i64 (a0.Edges.getD x.toNat default).Cost, PVal.int IntKind.i64 (a0.Edges.getD x.toNat default).State, PVal.int IntKind.i64 (a0.Edges.getD x.toNat default).Proof.Kind, encL 3 enc_Piece (a0.Edges.getD x.toNat default).Proof.Pieces, PVal.int IntKind.i64 (a0.Edges.getD x.toNat default).Proof.At.Depth, PVal.int IntKind.i64 (a0.Edges.getD x.toNat default).Proof.At.Index, encL 3 enc_arr_3_int64 (a0.Edges.getD x.toNat default).Proof.At.Normals, PVal.int IntKind.i64 (a0.Edges.getD x.toNat default).Proof.Witness.Pair, encL 1 encI_i64 (a0.Edges.getD x.toNat default).Proof.Witness.Left, encL 1 encI_i64 (a0.Edges.getD x.toNat default).Proof.Witness.Right])) ∧ aS (aI (↑a0.Edges.length : Int)) ∧ aS (aI x) ∧ ASub AVal.tt (AVal.pure (PVal.bool true)) ∧ True) ∧ (rS (Res.box [AVal.pure (PVal.lst 1 a0.Points.length fun (a : Nat) => encL 1 encI_i64 (a0.Points.getD a default)), AVal.pure (encL 12 enc_RoadmapEdge a0.Edges)]) ∧ True) ∧ True) ∧ (decide ((a0.Edges.getD x.toNat default).Cost < (0 : Int)) = false → (aS (AVal.ptr 0 0) ∧ aS (aI x) ∧ aS (AVal.ref (PVal.agg [PVal.int IntKind.i64 (a0.Edges.getD x.toNat default).U, PVal.int IntKind.i64 (a0.Edges.getD x.toNat default).V, PVal.int IntKind.i64 (a0.Edges.getD x.toNat default).Cost, PVal.int IntKind.i64 (a0.Edges.getD x.toNat default).State, PVal.int IntKind.i64 (a0.Edges.getD x.toNat default).Proof.Kind, encL 3 enc_Piece (a0.Edges.getD x.toNat default).Proof.Pieces, PVal.int IntKind.i64 (a0.Edges.getD x.toNat default).Proof.At.Depth, PVal.int IntKind.i64 (a0.Edges.getD x.toNat default).Proof.At.Index, encL 3 enc_arr_3_int64 (a0.Edges.getD x.toNat default).Proof.At.Normals, PVal.int IntKind.i64 (a0.Edges.getD x.toNat default).Proof.Witness.Pair, encL 1 encI_i64 (a0.Edges.getD x.toNat default).Proof.Witness.Left, encL 1 encI_i64 (a0.Edges.getD x.toNat default).Proof.Witness.Right])) ∧ aS (aI (↑a0.Edges.length : Int)) ∧ aS (aI x) ∧ aS (AVal.pure (PVal.bool (decide ((a0.Edges.getD x.toNat default).Cost > (1099511627776 : Int))))) ∧ True) ∧ (rS (Res.box [AVal.pure (PVal.lst 1 a0.Points.length fun (a : Nat) => encL 1 encI_i64 (a0.Points.getD a default)), AVal.pure (encL 12 enc_RoadmapEdge a0.Edges)]) ∧ True) ∧ True))))) ∧ ∀ (y : Bool), y = y ∧ (y = true → (aS (AVal.pure (PVal.bool false)) ∧ True) ∧ True ∧ True) ∧ (y = false → (∀ (_y : Bool), true = true ∧ 0 ≤ 1) ∧ (decide (x > (0 : Int)) = decide (x > (0 : Int)) ∧ (decide (x > (0 : Int)) = true → (0 : Int) ≤ IntKind.i64.wrap (x - (1 : Int)) ∧ IntKind.i64.wrap (x - (1 : Int)) < (↑a0.Edges.length : Int) → ((0 : Int) ≤ IntKind.i64.wrap (x - (1 : Int)) ∧ IntKind.i64.wrap (x - (1 : Int)) < (↑a0.Edges.length : Int)) ∧ ∀ (y : Int), search_comparePair_F N (a0.Edges.getD (IntKind.i64.wrap (x - (1 : Int))).toNat default) ((a0.Edges.getD x.toNat default).U, (a0.Edges.getD x.toNat default).V) = some y → ((aS (AVal.pure (PVal.agg [PVal.int IntKind.i64 (a0.Edges.getD (IntKind.i64.wrap (x - (1 : Int))).toNat default).U, PVal.int IntKind.i64 (a0.Edges.getD (IntKind.i64.wrap (x - (1 : Int))).toNat default).V, PVal.int IntKind.i64 (a0.Edges.getD (IntKind.i64.wrap (x - (1 : Int))).toNat default).Cost, PVal.int IntKind.i64 (a0.Edges.getD (IntKind.i64.wrap (x - (1 : Int))).toNat default).State, PVal.int IntKind.i64 (a0.Edges.getD (IntKind.i64.wrap (x - (1 : Int))).toNat default).Proof.Kind, encL 3 enc_Piece (a0.Edges.getD (IntKind.i64.wrap (x - (1 : Int))).toNat default).Proof.Pieces, PVal.int IntKind.i64 (a0.Edges.getD (IntKind.i64.wrap (x - (1 : Int))).toNat default).Proof.At.Depth, PVal.int IntKind.i64 (a0.Edges.getD (IntKind.i64.wrap (x - (1 : Int))).toNat default).Proof.At.Index, encL 3 enc_arr_3_int64 (a0.Edges.getD (IntKind.i64.wrap (x - (1 : Int))).toNat default).Proof.At.Normals, PVal.int IntKind.i64 (a0.Edges.getD (IntKind.i64.wrap (x - (1 : Int))).toNat default).Proof.Witness.Pair, encL 1 encI_i64 (a0.Edges.getD (IntKind.i64.wrap (x - (1 : Int))).toNat default).Proof.Witness.Left, encL 1 encI_i64 (a0.Edges.getD (IntKind.i64.wrap (x - (1 : Int))).toNat default).Proof.Witness.Right])) ∧ aS (AVal.pure (PVal.agg [PVal.int IntKind.i64 (a0.Edges.getD x.toNat default).U, PVal.int IntKind.i64 (a0.Edges.getD x.toNat default).V])) ∧ True) ∧ True ∧ Spec Try.prog 56 0 [AVal.pure (PVal.agg [PVal.int IntKind.i64 (a0.Edges.getD (IntKind.i64.wrap (x - (1 : Int))).toNat default).U, PVal.int IntKind.i64 (a0.Edges.getD (IntKind.i64.wrap (x - (1 : Int))).toNat default).V, PVal.int IntKind.i64 (a0.Edges.getD (IntKind.i64.wrap (x - (1 : Int))).toNat default).Cost, PVal.int IntKind.i64 (a0.Edges.getD (IntKind.i64.wrap (x - (1 : Int))).toNat default).State, PVal.int IntKind.i64 (a0.Edges.getD (IntKind.i64.wrap (x - (1 : Int))).toNat default).Proof.Kind, encL 3 enc_Piece (a0.Edges.getD (IntKind.i64.wrap (x - (1 : Int))).toNat default).Proof.Pieces, PVal.int IntKind.i64 (a0.Edges.getD (IntKind.i64.wrap (x - (1 : Int))).toNat default).Proof.At.Depth, PVal.int IntKind.i64 (a0.Edges.getD (IntKind.i64.wrap (x - (1 : Int))).toNat default).Proof.At.Index, encL 3 enc_arr_3_int64 (a0.Edges.getD (IntKind.i64.wrap (x - (1 : Int))).toNat default).Proof.At.Normals, PVal.int IntKind.i64 (a0.Edges.getD (IntKind.i64.wrap (x - (1 : Int))).toNat default).Proof.Witness.Pair, encL 1 encI_i64 (a0.Edges.getD (IntKind.i64.wrap (x - (1 : Int))).toNat default).Proof.Witness.Left, encL 1 encI_i64 (a0.Edges.getD (IntKind.i64.wrap (x - (1 : Int))).toNat default).Proof.Witness.Right]), AVal.pure (PVal.agg [PVal.int IntKind.i64 (a0.Edges.getD x.toNat default).U, PVal.int IntKind.i64 (a0.Edges.getD x.toNat default).V])] [] (aI y) []) ∧ (aS (AVal.ptr 0 0) ∧ aS (aI (↑a0.Edges.length : Int)) ∧ aS (aI x) ∧ aS (AVal.pure (PVal.bool (decide (y ≥ (0 : Int))))) ∧ True) ∧ (rS (Res.box [AVal.pure (PVal.lst 1 a0.Points.length fun (a : Nat) => encL 1 encI_i64 (a0.Points.getD a default)), AVal.pure (encL 12 enc_RoadmapEdge a0.Edges)]) ∧ True) ∧ True) ∧ (decide (x > (0 : Int)) = false → (aS (AVal.ptr 0 0) ∧ aS (aI (↑a0.Edges.length : Int)) ∧ aS (aI x) ∧ ASub AVal.ff (AVal.pure (PVal.bool false)) ∧ True) ∧ (rS (Res.box [AVal.pure (PVal.lst 1 a0.Points.length fun (a : Nat) => encL 1 encI_i64 (a0.Points.getD a default)), AVal.pure (encL 12 enc_RoadmapEdge a0.Edges)]) ∧ True) ∧ True)) ∧ ∀ (y : Bool), y = y ∧ (y = true → (aS (AVal.pure (PVal.bool false)) ∧ True) ∧ True ∧ True) ∧ (y = false → (aS (AVal.ptr 0 0) ∧ aS (aI (↑a0.Edges.length : Int)) ∧ aS (aI (IntKind.i64.wrap (x + (1 : Int)))) ∧ True) ∧ (rS (Res.box [AVal.pure (PVal.lst 1 a0.Points.length fun (a : Nat) => encL 1 encI_i64 (a0.Points.getD a default)), AVal.pure (encL 12 enc_RoadmapEdge a0.Edges)]) ∧ True) ∧ True))) ∧ (decide (x < (↑a0.Edges.length : Int)) = false → True ∧ True ∧ True)) ∧ ∀ (_y : U0), (aS (AVal.pure (PVal.bool true)) ∧ True) ∧ True ∧ True)) := by kernel_rfl


set_option maxHeartbeats 4000000 in
theorem search_wellFormed_spec (hd : DrawSound Try.prog drawB) {N : Nat} {a0 : S_Roadmap} {r : Bool} (h : search_wellFormed_F N a0 = some r) : Spec Try.prog 45 0 [.pure (.agg [encL 1 (encL 1 encI_i64) a0.Points, encL 12 enc_RoadmapEdge a0.Edges])] [] (.pure (.bool r)) ([]) := by
  refine spec_ofT (n0 := 0) (res := fun r => .pure (.bool r)) (m' := fun _ => []) (search_wellFormed_T N a0) ((search_wellFormed_run N a0).trans h) hd Try.func45 (by kernel_rfl) (by kernel_rfl) ?_
  rw [search_wellFormed_vc]
  repeat' (first | exact trivial | exact ASub.refl _ | exact RSub.refl _ | exact search_isPoint_spec hd (by assumption) | exact search_comparePair_spec hd (by assumption) | assumption | exact int_eq0 (by assumption) | exact of_decide_eq_true (by assumption) | exact of_decide_eq_false (by assumption) | rfl | (apply And.intro) | (intro _) | exact nl_a | exact ASub.tt rfl | exact ASub.ff rfl | exact mapR_upE rfl | exact RSub.nilv rfl rfl | exact RSub.gone | exact IsL.el | exact IsL.nl | exact IsL.lit (CSubs.of_eq rfl) rfl | refine IsL.lit ?_ rfl | exact IsL.rep (CSub.of_eq rfl) | refine IsL.a ?_ | refine IsL.r0 ?_ | refine IsLL.r ?_ | exact IsLL.el | exact IsLL.rep | refine IsLL.set ?_ ?_ | refine IsL.r ?_ ?_ | refine IsL.app ?_ ?_ | refine IsL.set ?_ (CSub.of_eq rfl) | refine IsL.set ?_ ?_ | exact IsL.sliceE (by omega) (by omega) | refine IsL.slice ?_ ?_ ?_ | exact IsL.take (by first | exact IsL.el | exact IsL.set IsL.el (CSub.of_eq rfl)) (by omega) | refine IsL.take ?_ ?_ | exact CSubs.nil' | refine CSubs.cons' ?_ ?_ | exact CSub.refl _ | exact nl_c | refine CSub.agg ?_ | refine IsL.c ?_ | exact PSubs.nil' | refine PSubs.cons' ?_ ?_ | exact PSub.refl _ | exact nl_p | refine IsL.p ?_ | refine (PSub.agg ?_).a | refine PSub.agg ?_ | refine ASub.agg ?_ | refine RSub.box ?_ | refine tup_a ?_ | refine ASub.p ?_ | omega)

def search_usable_F (_N : Nat) (a0 : Int) (a1 : Int) : Option Bool :=
  bif (a1 == 0) then
   some (a0 == 1)
  else
   bif (a1 == 1) then
    bif (a0 == 1) then
     some true
    else
     some (a0 == 0)
   else
    bif (a1 == 2) then
     some (a0 != 2)
    else
     some false

def search_usable_T (_N : Nat) (a0 : Int) (a1 : Int) : T Bool :=
  .br (a1 == 0)
   (.ret (a0 == 1))
   (.br (a1 == 1)
    (.br (a0 == 1)
     (.ret true)
     (.ret (a0 == 0)))
    (.br (a1 == 2)
     (.ret (a0 != 2))
     (.ret false)))

theorem search_usable_run (N : Nat) (a0 : Int) (a1 : Int) : (search_usable_T N a0 a1).run N = search_usable_F N a0 a1 := by kernel_rfl

theorem search_usable_vc (N : Nat) (a0 : Int) (a1 : Int) : (vcFuncT Try.prog drawB Try.f62 (Try.f62.body.getD .skip) 0 0 (search_usable_T N a0 a1) [.pure (.int .i64 a0), .pure (.int .i64 a1)] [] (fun r => .pure (.bool r)) (fun _ => [])) =
    ((a1 == (0 : Int)) = (a1 == (0 : Int)) ∧ ((a1 == (0 : Int)) = true → (aS (AVal.pure (PVal.bool (a0 == (1 : Int)))) ∧ True) ∧ True ∧ True) ∧ ((a1 == (0 : Int)) = false → (a1 == (1 : Int)) = (a1 == (1 : Int)) ∧ ((a1 == (1 : Int)) = true → (a0 == (1 : Int)) = (a0 == (1 : Int)) ∧ ((a0 == (1 : Int)) = true → (aS (AVal.pure (PVal.bool true)) ∧ True) ∧ True ∧ True) ∧ ((a0 == (1 : Int)) = false → (aS (AVal.pure (PVal.bool (a0 == (0 : Int)))) ∧ True) ∧ True ∧ True)) ∧ ((a1 == (1 : Int)) = false → (a1 == (2 : Int)) = (a1 == (2 : Int)) ∧ ((a1 == (2 : Int)) = true → (aS (AVal.pure (PVal.bool (a0 != (2 : Int)))) ∧ True) ∧ True ∧ True) ∧ ((a1 == (2 : Int)) = false → (aS (AVal.pure (PVal.bool false)) ∧ True) ∧ True ∧ True)))) := by kernel_rfl


set_option maxHeartbeats 4000000 in
theorem search_usable_spec (hd : DrawSound Try.prog drawB) {N : Nat} {a0 : Int} {a1 : Int} {r : Bool} (h : search_usable_F N a0 a1 = some r) : Spec Try.prog 62 0 [.pure (.int .i64 a0), .pure (.int .i64 a1)] [] (.pure (.bool r)) ([]) := by
  refine spec_ofT (n0 := 0) (res := fun r => .pure (.bool r)) (m' := fun _ => []) (search_usable_T N a0 a1) ((search_usable_run N a0 a1).trans h) hd Try.func62 (by kernel_rfl) (by kernel_rfl) ?_
  rw [search_usable_vc]
  repeat' (first | exact trivial | exact ASub.refl _ | exact RSub.refl _ | assumption | exact int_eq0 (by assumption) | exact of_decide_eq_true (by assumption) | exact of_decide_eq_false (by assumption) | rfl | (apply And.intro) | (intro _) | exact nl_a | exact ASub.tt rfl | exact ASub.ff rfl | exact mapR_upE rfl | exact RSub.nilv rfl rfl | exact RSub.gone | exact IsL.el | exact IsL.nl | exact IsL.lit (CSubs.of_eq rfl) rfl | refine IsL.lit ?_ rfl | exact IsL.rep (CSub.of_eq rfl) | refine IsL.a ?_ | refine IsL.r0 ?_ | refine IsLL.r ?_ | exact IsLL.el | exact IsLL.rep | refine IsLL.set ?_ ?_ | refine IsL.r ?_ ?_ | refine IsL.app ?_ ?_ | refine IsL.set ?_ (CSub.of_eq rfl) | refine IsL.set ?_ ?_ | exact IsL.sliceE (by omega) (by omega) | refine IsL.slice ?_ ?_ ?_ | exact IsL.take (by first | exact IsL.el | exact IsL.set IsL.el (CSub.of_eq rfl)) (by omega) | refine IsL.take ?_ ?_ | exact CSubs.nil' | refine CSubs.cons' ?_ ?_ | exact CSub.refl _ | exact nl_c | refine CSub.agg ?_ | refine IsL.c ?_ | exact PSubs.nil' | refine PSubs.cons' ?_ ?_ | exact PSub.refl _ | exact nl_p | refine IsL.p ?_ | refine (PSub.agg ?_).a | refine PSub.agg ?_ | refine ASub.agg ?_ | refine RSub.box ?_ | refine tup_a ?_ | refine ASub.p ?_ | omega)

def search_links_F (N : Nat) (a0 : S_Roadmap) (a1 : Int) : Option (List (List S_search_link)) :=
  grd (0 ≤ ((a0.Points.length : Nat) : Int) ∧ ((a0.Points.length : Nat) : Int) ≤ ((a0.Points.length : Nat) : Int) ∧ ((a0.Points.length : Nat) : Int) ≤ 9223372036854775807 ∧ ((a0.Points.length : Nat) : Int) * 24 ≤ 140737488355328) <|
  andK (iter (fun (x45 : ((List (List S_search_link)) × Int)) => (
   bif (decide (x45.2 < ((a0.Edges.length : Nat) : Int))) then
    andC (
     grd (0 ≤ x45.2 ∧ x45.2 < ((a0.Edges.length : Nat) : Int)) <|
     (search_usable_F N ((a0.Edges.getD ((x45.2).toNat) default).State) a1).bind fun y65 =>
     bif y65 then
      andC (
       grd (0 ≤ ((a0.Edges.getD ((x45.2).toNat) default).U) ∧ ((a0.Edges.getD ((x45.2).toNat) default).U) < ((x45.1.length : Nat) : Int)) <|
       grd (((a0.Edges.getD ((x45.2).toNat) default).U).toNat < x45.1.length) <|
       grd (((x45.1.getD (((a0.Edges.getD ((x45.2).toNat) default).U).toNat) default).length + 1) * 16 ≤ 140737488355328 ∧ ((x45.1.getD (((a0.Edges.getD ((x45.2).toNat) default).U).toNat) default).length + 1) ≤ maxLen) <|
       grd (0 ≤ ((a0.Edges.getD ((x45.2).toNat) default).U) ∧ ((a0.Edges.getD ((x45.2).toNat) default).U) < ((x45.1.length : Nat) : Int)) <|
       grd (((a0.Edges.getD ((x45.2).toNat) default).U).toNat < x45.1.length ∧ ((a0.Edges.getD ((x45.2).toNat) default).U).toNat = ((a0.Edges.getD ((x45.2).toNat) default).U).toNat) <|
       some (.out (x45.1.set (((a0.Edges.getD ((x45.2).toNat) default).U).toNat) ((x45.1.getD (((a0.Edges.getD ((x45.2).toNat) default).U).toNat) default) ++ ([(⟨(a0.Edges.getD ((x45.2).toNat) default).V, (a0.Edges.getD ((x45.2).toNat) default).Cost⟩ : S_search_link)] : (List S_search_link))))) : Option (Step3 Unit (List (List S_search_link)) _)) fun y66 =>
      grd (0 ≤ ((a0.Edges.getD ((x45.2).toNat) default).V) ∧ ((a0.Edges.getD ((x45.2).toNat) default).V) < ((y66.length : Nat) : Int)) <|
      grd (((a0.Edges.getD ((x45.2).toNat) default).V).toNat < y66.length) <|
      grd (((y66.getD (((a0.Edges.getD ((x45.2).toNat) default).V).toNat) default).length + 1) * 16 ≤ 140737488355328 ∧ ((y66.getD (((a0.Edges.getD ((x45.2).toNat) default).V).toNat) default).length + 1) ≤ maxLen) <|
      grd (0 ≤ ((a0.Edges.getD ((x45.2).toNat) default).V) ∧ ((a0.Edges.getD ((x45.2).toNat) default).V) < ((y66.length : Nat) : Int)) <|
      grd (((a0.Edges.getD ((x45.2).toNat) default).V).toNat < y66.length ∧ ((a0.Edges.getD ((x45.2).toNat) default).V).toNat = ((a0.Edges.getD ((x45.2).toNat) default).V).toNat) <|
      some (.out (y66.set (((a0.Edges.getD ((x45.2).toNat) default).V).toNat) ((y66.getD (((a0.Edges.getD ((x45.2).toNat) default).V).toNat) default) ++ ([(⟨(a0.Edges.getD ((x45.2).toNat) default).U, (a0.Edges.getD ((x45.2).toNat) default).Cost⟩ : S_search_link)] : (List S_search_link)))))
     else
      some (.out x45.1) : Option (Step3 Unit (List (List S_search_link)) _)) fun y63 =>
    some (.next (y63, (IntKind.i64.wrap (x45.2 + 1))))
   else
    some (.out x45.1) : Option (Step3 ((List (List S_search_link)) × Int) (List (List S_search_link)) _))) N ((List.replicate (((a0.Points.length : Nat) : Int)).toNat (nl : (List S_search_link))), 0)) fun y56 =>
  some y56

def search_links_T (N : Nat) (a0 : S_Roadmap) (a1 : Int) : T (List (List S_search_link)) :=
  .unroll 1 <|
  .grd (0 ≤ ((a0.Points.length : Nat) : Int) ∧ ((a0.Points.length : Nat) : Int) ≤ ((a0.Points.length : Nat) : Int) ∧ ((a0.Points.length : Nat) : Int) ≤ 9223372036854775807 ∧ ((a0.Points.length : Nat) : Int) * 24 ≤ 140737488355328) <|
  .loop (fun (x45 : ((List (List S_search_link)) × Int)) => ⟨[(1, .pure (.int .i64 a1)), (2, .ptr 0 0), (5, .vec 1), (14, .pure (.int .i64 ((a0.Edges.length : Nat) : Int))), (15, .pure (.int .i64 x45.2))], [(0, .box [.pure (encL 1 (encL 1 encI_i64) a0.Points), .pure (encL 12 enc_RoadmapEdge a0.Edges)]), (1, vecTO 2 enc_search_link x45.1 111 113)], [], 2⟩)
   (.exit 0) (fun (y56 : (List (List S_search_link))) => ⟨[(5, .vec 0)], [(0, vecTO 2 enc_search_link y56 111 113)], [], 1⟩)
   (fun x45 => .br (decide (x45.2 < ((a0.Edges.length : Nat) : Int)))
     (.cut 0 (fun (y63 : (List (List S_search_link))) => ⟨[(1, .pure (.int .i64 a1)), (2, .ptr 0 0), (5, .vec 1), (14, .pure (.int .i64 ((a0.Edges.length : Nat) : Int))), (15, .pure (.int .i64 x45.2))], [(0, .box [.pure (encL 1 (encL 1 encI_i64) a0.Points), .pure (encL 12 enc_RoadmapEdge a0.Edges)]), (1, vecTO 2 enc_search_link y63 111 113)], [], 2⟩)
      (.grd (0 ≤ x45.2 ∧ x45.2 < ((a0.Edges.length : Nat) : Int)) <|
      .call (search_usable_F N ((a0.Edges.getD ((x45.2).toNat) default).State) a1) (fun y65 => ⟨[], 0, [.pure (.int .i64 ((a0.Edges.getD ((x45.2).toNat) default).State)), .pure (.int .i64 a1)], [], .pure (.bool y65), []⟩) fun y65 =>
      .br y65
       (.cut 0 (fun (y66 : (List (List S_search_link))) => ⟨[(1, .pure (.int .i64 a1)), (2, .ptr 0 0), (5, .vec 1), (7, .ref (.agg [.int .i64 ((a0.Edges.getD ((x45.2).toNat) default).U), .int .i64 ((a0.Edges.getD ((x45.2).toNat) default).V), .int .i64 ((a0.Edges.getD ((x45.2).toNat) default).Cost), .int .i64 ((a0.Edges.getD ((x45.2).toNat) default).State), .int .i64 ((a0.Edges.getD ((x45.2).toNat) default).Proof.Kind), encL 3 enc_Piece ((a0.Edges.getD ((x45.2).toNat) default).Proof.Pieces), .int .i64 ((a0.Edges.getD ((x45.2).toNat) default).Proof.At.Depth), .int .i64 ((a0.Edges.getD ((x45.2).toNat) default).Proof.At.Index), encL 3 enc_arr_3_int64 ((a0.Edges.getD ((x45.2).toNat) default).Proof.At.Normals), .int .i64 ((a0.Edges.getD ((x45.2).toNat) default).Proof.Witness.Pair), encL 1 encI_i64 ((a0.Edges.getD ((x45.2).toNat) default).Proof.Witness.Left), encL 1 encI_i64 ((a0.Edges.getD ((x45.2).toNat) default).Proof.Witness.Right)])), (14, .pure (.int .i64 ((a0.Edges.length : Nat) : Int))), (15, .pure (.int .i64 x45.2))], [(0, .box [.pure (encL 1 (encL 1 encI_i64) a0.Points), .pure (encL 12 enc_RoadmapEdge a0.Edges)]), (1, vecTO 2 enc_search_link y66 111 113)], [], 2⟩)
        (.grd (0 ≤ ((a0.Edges.getD ((x45.2).toNat) default).U) ∧ ((a0.Edges.getD ((x45.2).toNat) default).U) < ((x45.1.length : Nat) : Int)) <|
        .grd (((a0.Edges.getD ((x45.2).toNat) default).U).toNat < x45.1.length) <|
        .grd (((x45.1.getD (((a0.Edges.getD ((x45.2).toNat) default).U).toNat) default).length + 1) * 16 ≤ 140737488355328 ∧ ((x45.1.getD (((a0.Edges.getD ((x45.2).toNat) default).U).toNat) default).length + 1) ≤ maxLen) <|
        .grd (0 ≤ ((a0.Edges.getD ((x45.2).toNat) default).U) ∧ ((a0.Edges.getD ((x45.2).toNat) default).U) < ((x45.1.length : Nat) : Int)) <|
        .grd (((a0.Edges.getD ((x45.2).toNat) default).U).toNat < x45.1.length ∧ ((a0.Edges.getD ((x45.2).toNat) default).U).toNat = ((a0.Edges.getD ((x45.2).toNat) default).U).toNat) <|
        .ret (.out (x45.1.set (((a0.Edges.getD ((x45.2).toNat) default).U).toNat) ((x45.1.getD (((a0.Edges.getD ((x45.2).toNat) default).U).toNat) default) ++ ([(⟨(a0.Edges.getD ((x45.2).toNat) default).V, (a0.Edges.getD ((x45.2).toNat) default).Cost⟩ : S_search_link)] : (List S_search_link)))))) fun y66 =>
       .grd (0 ≤ ((a0.Edges.getD ((x45.2).toNat) default).V) ∧ ((a0.Edges.getD ((x45.2).toNat) default).V) < ((y66.length : Nat) : Int)) <|
       .grd (((a0.Edges.getD ((x45.2).toNat) default).V).toNat < y66.length) <|
       .grd (((y66.getD (((a0.Edges.getD ((x45.2).toNat) default).V).toNat) default).length + 1) * 16 ≤ 140737488355328 ∧ ((y66.getD (((a0.Edges.getD ((x45.2).toNat) default).V).toNat) default).length + 1) ≤ maxLen) <|
       .grd (0 ≤ ((a0.Edges.getD ((x45.2).toNat) default).V) ∧ ((a0.Edges.getD ((x45.2).toNat) default).V) < ((y66.length : Nat) : Int)) <|
       .grd (((a0.Edges.getD ((x45.2).toNat) default).V).toNat < y66.length ∧ ((a0.Edges.getD ((x45.2).toNat) default).V).toNat = ((a0.Edges.getD ((x45.2).toNat) default).V).toNat) <|
       .ret (.out (y66.set (((a0.Edges.getD ((x45.2).toNat) default).V).toNat) ((y66.getD (((a0.Edges.getD ((x45.2).toNat) default).V).toNat) default) ++ ([(⟨(a0.Edges.getD ((x45.2).toNat) default).U, (a0.Edges.getD ((x45.2).toNat) default).Cost⟩ : S_search_link)] : (List S_search_link))))))
       (.ret (.out x45.1))) fun y63 =>
     .ret (.next (y63, (IntKind.i64.wrap (x45.2 + 1)))))
     (.ret (.out x45.1)))
   ((List.replicate (((a0.Points.length : Nat) : Int)).toNat (nl : (List S_search_link))), 0) fun y56 =>
  .ret y56

theorem search_links_run (N : Nat) (a0 : S_Roadmap) (a1 : Int) : (search_links_T N a0 a1).run N = search_links_F N a0 a1 := by kernel_rfl

theorem search_links_vc (N : Nat) (a0 : S_Roadmap) (a1 : Int) : (vcFuncT Try.prog drawB Try.f48 (Try.f48.body.getD .skip) 0 0 (search_links_T N a0 a1) [.pure (.agg [encL 1 (encL 1 encI_i64) a0.Points, encL 12 enc_RoadmapEdge a0.Edges]), .pure (.int .i64 a1)] [] (fun r => .pure (encL 1 (encL 2 enc_search_link) r)) (fun _ => [])) =
    ((0 : Int) ≤ (↑a0.Points.length : Int) ∧ (↑a0.Points.length : Int) ≤ (↑a0.Points.length : Int) ∧ (↑a0.Points.length : Int) ≤ (9223372036854775807 : Int) ∧ (↑a0.Points.length : Int) * (24 : Int) ≤ (140737488355328 : Int) → ((0 : Int) ≤ (↑a0.Points.length : Int) ∧ (↑a0.Points.length : Int) ≤ (↑a0.Points.length : Int) ∧ (↑a0.Points.length : Int) ≤ (9223372036854775807 : Int) ∧ (↑a0.Points.length : Int) * (↑24 : Int) ≤ (140737488355328 : Int)) ∧ (∀ (_x : List (List S_search_link) × Int), true = true ∧ 0 ≤ 2) ∧ (∀ (_y : List (List S_search_link)), true = true ∧ 0 ≤ 1) ∧ ((aS (aI a1) ∧ aS (AVal.ptr 0 0) ∧ aS (AVal.vec 320) ∧ aS (aI (↑a0.Edges.length : Int)) ∧ aS (aI 0) ∧ True) ∧ (rS (Res.box [AVal.pure (PVal.lst 1 a0.Points.length fun (a : Nat) => encL 1 encI_i64 (a0.Points.getD a default)), AVal.pure (encL 12 enc_RoadmapEdge a0.Edges)]) ∧ RSub (Res.vecT 2 (↑a0.Points.length : Int).toNat (fun (_x : Nat) => PVal.lst 2 0 fun (_x : Nat) => PVal.unk) 111 113 Option.none) (vecTO 2 enc_search_link (List.replicate (↑a0.Points.length : Int).toNat nl) 111 113) ∧ True) ∧ True) ∧ (∀ (x : List (List S_search_link) × Int), decide (x.snd < (↑a0.Edges.length : Int)) = decide (x.snd < (↑a0.Edges.length : Int)) ∧ (decide (x.snd < (↑a0.Edges.length : Int)) = true → (∀ (_y : List (List S_search_link)), true = true ∧ 0 ≤ 2) ∧ ((0 : Int) ≤ x.snd ∧ x.snd < (↑a0.Edges.length : Int) → ((0 : Int) ≤ x.snd ∧ x.snd < (↑a0.Edges.length : Int)) ∧ ∀ (y : Bool), search_usable_F N (a0.Edges.getD x.snd.toNat default).State a1 = some y → ((aS (aI (a0.Edges.getD x.snd.toNat default).State) ∧ aS (aI a1) ∧ True) ∧ True ∧ Spec Try.prog 62 0 [aI (a0.Edges.getD x.snd.toNat default).State, aI a1] [] (AVal.pure (PVal.bool y)) []) ∧ y = y ∧ (y = true → (∀ (_y : List (List S_search_link)), true = true ∧ 0 ≤ 2) ∧ ((0 : Int) ≤ (a0.Edges.getD x.snd.toNat default).U ∧ (a0.Edges.getD x.snd.toNat default).U < (↑x.fst.length : Int) → ((0 : Int) ≤ (a0.Edges.getD x.snd.toNat default).U ∧ (a0.Edges.getD x.snd.toNat default).U < (↑x.fst.length : Int)) ∧ ((a0.Edges.getD x.snd.toNat default).U.toNat < x.fst.length → (a0.Edges.getD x.snd.toNat default).U.toNat < x.fst.length ∧ (((x.fst.getD (a0.Edges.getD x.snd.toNat default).U.toNat default).length + 1) * 16 ≤ 140737488355328 ∧ (x.fst.getD (a0.Edges.getD x.snd.toNat default).U.toNat default).length + 1 ≤ 9223372036854775807 → (((x.fst.getD (a0.Edges.getD x.snd.toNat default).U.toNat default).length + 1) * 16 ≤ 140737488355328 ∧ (x.fst.getD (a0.Edges.getD x.snd.toNat default).U.toNat default).length + 1 ≤ 9223372036854775807) ∧ ((0 : Int) ≤ (a0.Edges.getD x.snd.toNat default).U ∧ (a0.Edges.getD x.snd.toNat default).U < (↑x.fst.length : Int) → ((0 : Int) ≤ (a0.Edges.getD x.snd.toNat default).U ∧ (a0.Edges.getD x.snd.toNat default).U < (↑x.fst.length : Int)) ∧ ((a0.Edges.getD x.snd.toNat default).U.toNat < x.fst.length ∧ (a0.Edges.getD x.snd.toNat default).U.toNat = (a0.Edges.getD x.snd.toNat default).U.toNat → ((a0.Edges.getD x.snd.toNat default).U.toNat < x.fst.length ∧ (a0.Edges.getD x.snd.toNat default).U.toNat = (a0.Edges.getD x.snd.toNat default).U.toNat) ∧ (aS (aI a1) ∧ aS (AVal.ptr 0 0) ∧ aS (AVal.vec 1) ∧ aS (AVal.ref (PVal.agg [PVal.int IntKind.i64 (a0.Edges.getD x.snd.toNat default).U, PVal.int IntKind.i64 (a0.Edges.getD x.snd.toNat default).V, PVal.int IntKind.i64 (a0.Edges.getD x.snd.toNat default).Cost, PVal.int IntKind.i64 (a0.Edges.getD x.snd.toNat default).State, PVal.int IntKind.i64 (a0.Edges.getD x.snd.toNat default).Proof.Kind, encL 3 enc_Piece (a0.Edges.getD x.snd.toNat default).Proof.Pieces, PVal.int IntKind.i64 (a0.Edges.getD x.snd.toNat default).Proof.At.Depth, PVal.int IntKind.i64 (a0.Edges.getD x.snd.toNat default).Proof.At.Index, encL 3 enc_arr_3_int64 (a0.Edges.getD x.snd.toNat default).Proof.At.Normals, PVal.int IntKind.i64 (a0.Edges.getD x.snd.toNat default).Proof.Witness.Pair, encL 1 encI_i64 (a0.Edges.getD x.snd.toNat default).Proof.Witness.Left, encL 1 encI_i64 (a0.Edges.getD x.snd.toNat default).Proof.Witness.Right])) ∧ aS (aI (↑a0.Edges.length : Int)) ∧ aS (aI x.snd) ∧ True) ∧ (rS (Res.box [AVal.pure (PVal.lst 1 a0.Points.length fun (a : Nat) => encL 1 encI_i64 (a0.Points.getD a default)), AVal.pure (encL 12 enc_RoadmapEdge a0.Edges)]) ∧ RSub (Res.vecT 2 x.fst.length (fun (q : Nat) => if q = (a0.Edges.getD x.snd.toNat default).U.toNat then PVal.lst 2 ((x.fst.getD (a0.Edges.getD x.snd.toNat default).U.toNat default).length + 1) (appF (x.fst.getD (a0.Edges.getD x.snd.toNat default).U.toNat default).length (el enc_search_link (x.fst.getD (a0.Edges.getD x.snd.toNat default).U.toNat default)) (lget [PVal.agg [PVal.int IntKind.i64 (a0.Edges.getD x.snd.toNat default).V, PVal.int IntKind.i64 (a0.Edges.getD x.snd.toNat default).Cost]])) else el (encL 2 enc_search_link) x.fst q) 111 113 Option.none) (vecTO 2 enc_search_link (x.fst.set (a0.Edges.getD x.snd.toNat default).U.toNat (x.fst.getD (a0.Edges.getD x.snd.toNat default).U.toNat default ++ [S_search_link.mk (a0.Edges.getD x.snd.toNat default).V (a0.Edges.getD x.snd.toNat default).Cost])) 111 113) ∧ True) ∧ True))))) ∧ ∀ (y : List (List S_search_link)), (0 : Int) ≤ (a0.Edges.getD x.snd.toNat default).V ∧ (a0.Edges.getD x.snd.toNat default).V < (↑y.length : Int) → ((0 : Int) ≤ (a0.Edges.getD x.snd.toNat default).V ∧ (a0.Edges.getD x.snd.toNat default).V < (↑y.length : Int)) ∧ ((a0.Edges.getD x.snd.toNat default).V.toNat < y.length → (a0.Edges.getD x.snd.toNat default).V.toNat < y.length ∧ (((y.getD (a0.Edges.getD x.snd.toNat default).V.toNat default).length + 1) * 16 ≤ 140737488355328 ∧ (y.getD (a0.Edges.getD x.snd.toNat default).V.toNat default).length + 1 ≤ 9223372036854775807 → (((y.getD (a0.Edges.getD x.snd.toNat default).V.toNat default).length + 1) * 16 ≤ 140737488355328 ∧ (y.getD (a0.Edges.getD x.snd.toNat default).V.toNat default).length + 1 ≤ 9223372036854775807) ∧ ((0 : Int) ≤ (a0.Edges.getD x.snd.toNat default).V ∧ (a0.Edges.getD x.snd.toNat default).V < (↑y.length : Int) → ((0 : Int) ≤ (a0.Edges.getD x.snd.toNat default).V ∧ (a0.Edges.getD x.snd.toNat default).V < (↑y.length : Int)) ∧ ((a0.Edges.getD x.snd.toNat default).V.toNat < y.length ∧ (a0.Edges.getD x.snd.toNat default).V.toNat = (a0.Edges.getD x.snd.toNat default).V.toNat → ((a0.Edges.getD x.snd.toNat default).V.toNat < y.length ∧ (a0.Edges.getD x.snd.toNat default).V.toNat = (a0.Edges.getD x.snd.toNat default).V.toNat) ∧ (aS (aI a1) ∧ aS (AVal.ptr 0 0) ∧ aS (AVal.vec 1) ∧ aS (aI (↑a0.Edges.length : Int)) ∧ aS (aI x.snd) ∧ True) ∧ (rS (Res.box [AVal.pure (PVal.lst 1 a0.Points.length fun (a : Nat) => encL 1 encI_i64 (a0.Points.getD a default)), AVal.pure (encL 12 enc_RoadmapEdge a0.Edges)]) ∧ RSub (Res.vecT 2 y.length (fun (q : Nat) => if q = (a0.Edges.getD x.snd.toNat default).V.toNat then PVal.lst 2 ((y.getD (a0.Edges.getD x.snd.toNat default).V.toNat default).length + 1) (appF (y.getD (a0.Edges.getD x.snd.toNat default).V.toNat default).length (el enc_search_link (y.getD (a0.Edges.getD x.snd.toNat default).V.toNat default)) (lget [PVal.agg [PVal.int IntKind.i64 (a0.Edges.getD x.snd.toNat default).U, PVal.int IntKind.i64 (a0.Edges.getD x.snd.toNat default).Cost]])) else el (encL 2 enc_search_link) y q) 111 113 Option.none) (vecTO 2 enc_search_link (y.set (a0.Edges.getD x.snd.toNat default).V.toNat (y.getD (a0.Edges.getD x.snd.toNat default).V.toNat default ++ [S_search_link.mk (a0.Edges.getD x.snd.toNat default).U (a0.Edges.getD x.snd.toNat default).Cost])) 111 113) ∧ True) ∧ True))))) ∧ (y = false → (aS (aI a1) ∧ aS (AVal.ptr 0 0) ∧ aS (AVal.vec 1) ∧ aS (aI (↑a0.Edges.length : Int)) ∧ aS (aI x.snd) ∧ True) ∧ (rS (Res.box [AVal.pure (PVal.lst 1 a0.Points.length fun (a : Nat) => encL 1 encI_i64 (a0.Points.getD a default)), AVal.pure (encL 12 enc_RoadmapEdge a0.Edges)]) ∧ rS (vecTO 2 enc_search_link x.fst 111 113) ∧ True) ∧ True)) ∧ ∀ (y : List (List S_search_link)), (aS (aI a1) ∧ aS (AVal.ptr 0 0) ∧ aS (AVal.vec 1) ∧ aS (aI (↑a0.Edges.length : Int)) ∧ aS (aI (IntKind.i64.wrap (x.snd + (1 : Int)))) ∧ True) ∧ (rS (Res.box [AVal.pure (PVal.lst 1 a0.Points.length fun (a : Nat) => encL 1 encI_i64 (a0.Points.getD a default)), AVal.pure (encL 12 enc_RoadmapEdge a0.Edges)]) ∧ rS (vecTO 2 enc_search_link y 111 113) ∧ True) ∧ True) ∧ (decide (x.snd < (↑a0.Edges.length : Int)) = false → (aS (AVal.vec 1) ∧ True) ∧ (rS (vecTO 2 enc_search_link x.fst 111 113) ∧ True) ∧ True)) ∧ ∀ (y : List (List S_search_link)), (aS (AVal.pure (PVal.lst 1 y.length fun (a : Nat) => encL 2 enc_search_link (y.getD a default))) ∧ True) ∧ True ∧ True) := by kernel_rfl


set_option maxHeartbeats 4000000 in
theorem search_links_spec (hd : DrawSound Try.prog drawB) {N : Nat} {a0 : S_Roadmap} {a1 : Int} {r : (List (List S_search_link))} (h : search_links_F N a0 a1 = some r) : Spec Try.prog 48 0 [.pure (.agg [encL 1 (encL 1 encI_i64) a0.Points, encL 12 enc_RoadmapEdge a0.Edges]), .pure (.int .i64 a1)] [] (.pure (encL 1 (encL 2 enc_search_link) r)) ([]) := by
  refine spec_ofT (n0 := 0) (res := fun r => .pure (encL 1 (encL 2 enc_search_link) r)) (m' := fun _ => []) (search_links_T N a0 a1) ((search_links_run N a0 a1).trans h) hd Try.func48 (by kernel_rfl) (by kernel_rfl) ?_
  rw [search_links_vc]
  repeat' (first | exact trivial | exact ASub.refl _ | exact RSub.refl _ | exact search_usable_spec hd (by assumption) | assumption | exact int_eq0 (by assumption) | exact of_decide_eq_true (by assumption) | exact of_decide_eq_false (by assumption) | rfl | (apply And.intro) | (intro _) | exact nl_a | exact ASub.tt rfl | exact ASub.ff rfl | exact mapR_upE rfl | exact RSub.nilv rfl rfl | exact RSub.gone | exact IsL.el | exact IsL.nl | exact IsL.lit (CSubs.of_eq rfl) rfl | refine IsL.lit ?_ rfl | exact IsL.rep (CSub.of_eq rfl) | refine IsL.a ?_ | refine IsL.r0 ?_ | refine IsLL.r ?_ | exact IsLL.el | exact IsLL.rep | refine IsLL.set ?_ ?_ | refine IsL.r ?_ ?_ | refine IsL.app ?_ ?_ | refine IsL.set ?_ (CSub.of_eq rfl) | refine IsL.set ?_ ?_ | exact IsL.sliceE (by omega) (by omega) | refine IsL.slice ?_ ?_ ?_ | exact IsL.take (by first | exact IsL.el | exact IsL.set IsL.el (CSub.of_eq rfl)) (by omega) | refine IsL.take ?_ ?_ | exact CSubs.nil' | refine CSubs.cons' ?_ ?_ | exact CSub.refl _ | exact nl_c | refine CSub.agg ?_ | refine IsL.c ?_ | exact PSubs.nil' | refine PSubs.cons' ?_ ?_ | exact PSub.refl _ | exact nl_p | refine IsL.p ?_ | refine (PSub.agg ?_).a | refine PSub.agg ?_ | refine ASub.agg ?_ | refine RSub.box ?_ | refine tup_a ?_ | refine ASub.p ?_ | omega)

def search_Shortest_F (N : Nat) (a0 : S_Roadmap) (a1 : Int) (a2 : Int) (a3 : Int) : Option (S_Route × Bool) :=
  andC (
   (search_wellFormed_F N (⟨a0.Points, a0.Edges⟩ : S_Roadmap)).bind fun y18 =>
   bif (!y18) then
    some (.out true)
   else
    (search_isPoint_F N (⟨a0.Points, a0.Edges⟩ : S_Roadmap) a1).bind fun y19 =>
    bif (!y19) then
     some (.out true)
    else
     (search_isPoint_F N (⟨a0.Points, a0.Edges⟩ : S_Roadmap) a2).bind fun y20 =>
     bif (!y20) then
      some (.out true)
     else
      bif (decide (a3 < 0)) then
       some (.out true)
      else
       some (.out (decide (a3 > 2))) : Option (Step3 Unit Bool _)) fun y17 =>
  bif y17 then
   some ((⟨nl, 0⟩ : S_Route), false)
  else
   (search_links_F N (⟨a0.Points, a0.Edges⟩ : S_Roadmap) a3).bind fun y21 =>
   (search_shortest_F N y21 a1 a2).bind fun y22 =>
   some (y22.1, y22.2)

def search_Shortest_T (N : Nat) (a0 : S_Roadmap) (a1 : Int) (a2 : Int) (a3 : Int) : T (S_Route × Bool) :=
  .cut 3 (fun (y17 : Bool) => ⟨[(1, .pure (.int .i64 a1)), (2, .pure (.int .i64 a2)), (3, .pure (.int .i64 a3)), (4, .ptr 0 0), (8, .ptr 1 0), (9, .ptr 3 0), (33, .pure (.bool y17))], [(0, .box [.pure (encL 1 (encL 1 encI_i64) a0.Points), .pure (encL 12 enc_RoadmapEdge a0.Edges)]), (1, .box [.vec 2, .pure (.int .i64 0)]), (2, .nilv), (3, .box [.ff])], [.func 44 [] [.ptr 1 0, .ptr 3 0]], 4⟩)
   (.call (search_wellFormed_F N (⟨a0.Points, a0.Edges⟩ : S_Roadmap)) (fun y18 => ⟨[], 0, [.pure (.agg [encL 1 (encL 1 encI_i64) ((⟨a0.Points, a0.Edges⟩ : S_Roadmap).Points), encL 12 enc_RoadmapEdge ((⟨a0.Points, a0.Edges⟩ : S_Roadmap).Edges)])], [], .pure (.bool y18), []⟩) fun y18 =>
   .br (!y18)
    (.ret (.out true))
    (.call (search_isPoint_F N (⟨a0.Points, a0.Edges⟩ : S_Roadmap) a1) (fun y19 => ⟨[], 0, [.pure (.agg [encL 1 (encL 1 encI_i64) ((⟨a0.Points, a0.Edges⟩ : S_Roadmap).Points), encL 12 enc_RoadmapEdge ((⟨a0.Points, a0.Edges⟩ : S_Roadmap).Edges)]), .pure (.int .i64 a1)], [], .pure (.bool y19), []⟩) fun y19 =>
    .br (!y19)
     (.ret (.out true))
     (.call (search_isPoint_F N (⟨a0.Points, a0.Edges⟩ : S_Roadmap) a2) (fun y20 => ⟨[], 0, [.pure (.agg [encL 1 (encL 1 encI_i64) ((⟨a0.Points, a0.Edges⟩ : S_Roadmap).Points), encL 12 enc_RoadmapEdge ((⟨a0.Points, a0.Edges⟩ : S_Roadmap).Edges)]), .pure (.int .i64 a2)], [], .pure (.bool y20), []⟩) fun y20 =>
     .br (!y20)
      (.ret (.out true))
      (.br (decide (a3 < 0))
       (.ret (.out true))
       (.ret (.out (decide (a3 > 2)))))))) fun y17 =>
  .br y17
   (.ret ((⟨nl, 0⟩ : S_Route), false))
   (.call (search_links_F N (⟨a0.Points, a0.Edges⟩ : S_Roadmap) a3) (fun y21 => ⟨[], 0, [.pure (.agg [encL 1 (encL 1 encI_i64) ((⟨a0.Points, a0.Edges⟩ : S_Roadmap).Points), encL 12 enc_RoadmapEdge ((⟨a0.Points, a0.Edges⟩ : S_Roadmap).Edges)]), .pure (.int .i64 a3)], [], .pure (encL 1 (encL 2 enc_search_link) y21), []⟩) fun y21 =>
   .call (search_shortest_F N y21 a1 a2) (fun y22 => ⟨[], 0, [.pure (encL 1 (encL 2 enc_search_link) y21), .pure (.int .i64 a1), .pure (.int .i64 a2)], [], .tup [.pure (.agg [encL 1 encI_i64 y22.1.Vertices, .int .i64 y22.1.Cost]), .pure (.bool y22.2)], []⟩) fun y22 =>
   .ret (y22.1, y22.2))

theorem search_Shortest_run (N : Nat) (a0 : S_Roadmap) (a1 : Int) (a2 : Int) (a3 : Int) : (search_Shortest_T N a0 a1 a2 a3).run N = search_Shortest_F N a0 a1 a2 a3 := by kernel_rfl

theorem search_Shortest_vc (N : Nat) (a0 : S_Roadmap) (a1 : Int) (a2 : Int) (a3 : Int) : (vcFuncT Try.prog drawB Try.f26 (Try.f26.body.getD .skip) 0 0 (search_Shortest_T N a0 a1 a2 a3) [.pure (.agg [encL 1 (encL 1 encI_i64) a0.Points, encL 12 enc_RoadmapEdge a0.Edges]), .pure (.int .i64 a1), .pure (.int .i64 a2), .pure (.int .i64 a3)] [] (fun r => .tup [.pure (.agg [encL 1 encI_i64 r.1.Vertices, .int .i64 r.1.Cost]), .pure (.bool r.2)]) (fun _ => [])) =
    ((∀ (_y : Bool), true = true ∧ 0 ≤ 4) ∧ (∀ (y : Bool), search_wellFormed_F N (S_Roadmap.mk a0.Points a0.Edges) = some y → ((aS (AVal.pure (PVal.agg [PVal.lst 1 a0.Points.length fun (a : Nat) => encL 1 encI_i64 (a0.Points.getD a default), encL 12 enc_RoadmapEdge a0.Edges])) ∧ True) ∧ True ∧ Spec Try.prog 45 0 [AVal.pure (PVal.agg [PVal.lst 1 a0.Points.length fun (a : Nat) => encL 1 encI_i64 (a0.Points.getD a default), encL 12 enc_RoadmapEdge a0.Edges])] [] (AVal.pure (PVal.bool y)) []) ∧ (!y) = !y ∧ ((!y) = true → (aS (aI a1) ∧ aS (aI a2) ∧ aS (aI a3) ∧ aS (AVal.ptr 0 0) ∧ aS (AVal.ptr 64 0) ∧ aS (AVal.ptr 128 0) ∧ ASub AVal.tt (AVal.pure (PVal.bool true)) ∧ True) ∧ (rS (Res.box [AVal.pure (PVal.lst 1 a0.Points.length fun (a : Nat) => encL 1 encI_i64 (a0.Points.getD a default)), AVal.pure (encL 12 enc_RoadmapEdge a0.Edges)]) ∧ rS (Res.box [AVal.vec 65, aI 0]) ∧ rS Res.nilv ∧ rS (Res.box [AVal.ff]) ∧ True) ∧ aS (AVal.func 44 [] [AVal.ptr 64 0, AVal.ptr 128 0]) ∧ True) ∧ ((!y) = false → ∀ (y : Bool), search_isPoint_F N (S_Roadmap.mk a0.Points a0.Edges) a1 = some y → ((aS (AVal.pure (PVal.agg [PVal.lst 1 a0.Points.length fun (a : Nat) => encL 1 encI_i64 (a0.Points.getD a default), encL 12 enc_RoadmapEdge a0.Edges])) ∧ aS (aI a1) ∧ True) ∧ True ∧ Spec Try.prog 46 0 [AVal.pure (PVal.agg [PVal.lst 1 a0.Points.length fun (a : Nat) => encL 1 encI_i64 (a0.Points.getD a default), encL 12 enc_RoadmapEdge a0.Edges]), aI a1] [] (AVal.pure (PVal.bool y)) []) ∧ (!y) = !y ∧ ((!y) = true → (aS (aI a1) ∧ aS (aI a2) ∧ aS (aI a3) ∧ aS (AVal.ptr 0 0) ∧ aS (AVal.ptr 64 0) ∧ aS (AVal.ptr 128 0) ∧ ASub AVal.tt (AVal.pure (PVal.bool true)) ∧ True) ∧ (rS (Res.box [AVal.pure (PVal.lst 1 a0.Points.length fun (a : Nat) => encL 1 encI_i64 (a0.Points.getD a default)), AVal.pure (encL 12 enc_RoadmapEdge a0.Edges)]) ∧ rS (Res.box [AVal.vec 65, aI 0]) ∧ rS Res.nilv ∧ rS (Res.box [AVal.ff]) ∧ True) ∧ aS (AVal.func 44 [] [AVal.ptr 64 0, AVal.ptr 128 0]) ∧ True) ∧ ((!y) = false → ∀ (y : Bool), search_isPoint_F N (S_Roadmap.mk a0.Points a0.Edges) a2 = some y → ((aS (AVal.pure (PVal.agg [PVal.lst 1 a0.Points.length fun (a : Nat) => encL 1 encI_i64 (a0.Points.getD a default), encL 12 enc_RoadmapEdge a0.Edges])) ∧ aS (aI a2) ∧ True) ∧ True ∧ Spec Try.prog 46 0 [AVal.pure (PVal.agg [PVal.lst 1 a0.Points.length fun (a : Nat) => encL 1 encI_i64 (a0.Points.getD a default), encL 12 enc_RoadmapEdge a0.Edges]), aI a2] [] (AVal.pure (PVal.bool y)) []) ∧ (!y) = !y ∧ ((!y) = true → (aS (aI a1) ∧ aS (aI a2) ∧ aS (aI a3) ∧ aS (AVal.ptr 0 0) ∧ aS (AVal.ptr 64 0) ∧ aS (AVal.ptr 128 0) ∧ ASub AVal.tt (AVal.pure (PVal.bool true)) ∧ True) ∧ (rS (Res.box [AVal.pure (PVal.lst 1 a0.Points.length fun (a : Nat) => encL 1 encI_i64 (a0.Points.getD a default)), AVal.pure (encL 12 enc_RoadmapEdge a0.Edges)]) ∧ rS (Res.box [AVal.vec 65, aI 0]) ∧ rS Res.nilv ∧ rS (Res.box [AVal.ff]) ∧ True) ∧ aS (AVal.func 44 [] [AVal.ptr 64 0, AVal.ptr 128 0]) ∧ True) ∧ ((!y) = false → decide (a3 < (0 : Int)) = decide (a3 < (0 : Int)) ∧ (decide (a3 < (0 : Int)) = true → (aS (aI a1) ∧ aS (aI a2) ∧ aS (aI a3) ∧ aS (AVal.ptr 0 0) ∧ aS (AVal.ptr 64 0) ∧ aS (AVal.ptr 128 0) ∧ ASub AVal.tt (AVal.pure (PVal.bool true)) ∧ True) ∧ (rS (Res.box [AVal.pure (PVal.lst 1 a0.Points.length fun (a : Nat) => encL 1 encI_i64 (a0.Points.getD a default)), AVal.pure (encL 12 enc_RoadmapEdge a0.Edges)]) ∧ rS (Res.box [AVal.vec 65, aI 0]) ∧ rS Res.nilv ∧ rS (Res.box [AVal.ff]) ∧ True) ∧ aS (AVal.func 44 [] [AVal.ptr 64 0, AVal.ptr 128 0]) ∧ True) ∧ (decide (a3 < (0 : Int)) = false → (aS (aI a1) ∧ aS (aI a2) ∧ aS (aI a3) ∧ aS (AVal.ptr 0 0) ∧ aS (AVal.ptr 64 0) ∧ aS (AVal.ptr 128 0) ∧ aS (AVal.pure (PVal.bool (decide (a3 > (2 : Int))))) ∧ True) ∧ (rS (Res.box [AVal.pure (PVal.lst 1 a0.Points.length fun (a : Nat) => encL 1 encI_i64 (a0.Points.getD a default)), AVal.pure (encL 12 enc_RoadmapEdge a0.Edges)]) ∧ rS (Res.box [AVal.vec 65, aI 0]) ∧ rS Res.nilv ∧ rS (Res.box [AVal.ff]) ∧ True) ∧ aS (AVal.func 44 [] [AVal.ptr 64 0, AVal.ptr 128 0]) ∧ True))))) ∧ ∀ (y : Bool), y = y ∧ (y = true → (ASub (AVal.pure (PVal.agg [PVal.lst 0 0 fun (_x : Nat) => PVal.unk, PVal.int IntKind.i64 0])) (AVal.pure (PVal.agg [encL 1 encI_i64 nl, PVal.int IntKind.i64 0])) ∧ aS (AVal.pure (PVal.bool false)) ∧ True) ∧ True ∧ GuardFn Try.prog 44 ∧ True) ∧ (y = false → ∀ (y : List (List S_search_link)), search_links_F N (S_Roadmap.mk a0.Points a0.Edges) a3 = some y → ((aS (AVal.pure (PVal.agg [PVal.lst 1 a0.Points.length fun (a : Nat) => encL 1 encI_i64 (a0.Points.getD a default), encL 12 enc_RoadmapEdge a0.Edges])) ∧ aS (aI a3) ∧ True) ∧ True ∧ Spec Try.prog 48 0 [AVal.pure (PVal.agg [PVal.lst 1 a0.Points.length fun (a : Nat) => encL 1 encI_i64 (a0.Points.getD a default), encL 12 enc_RoadmapEdge a0.Edges]), aI a3] [] (AVal.pure (PVal.lst 1 y.length fun (a : Nat) => encL 2 enc_search_link (y.getD a default))) []) ∧ ∀ (y_1 : S_Route × Bool), search_shortest_F N y a1 a2 = some y_1 → ((aS (AVal.pure (PVal.lst 1 y.length fun (a : Nat) => encL 2 enc_search_link (y.getD a default))) ∧ aS (aI a1) ∧ aS (aI a2) ∧ True) ∧ True ∧ Spec Try.prog 47 0 [AVal.pure (PVal.lst 1 y.length fun (a : Nat) => encL 2 enc_search_link (y.getD a default)), aI a1, aI a2] [] (AVal.tup [AVal.pure (PVal.agg [encL 1 encI_i64 y_1.fst.Vertices, PVal.int IntKind.i64 y_1.fst.Cost]), AVal.pure (PVal.bool y_1.snd)]) []) ∧ (aS (AVal.pure (PVal.agg [encL 1 encI_i64 y_1.fst.Vertices, PVal.int IntKind.i64 y_1.fst.Cost])) ∧ aS (AVal.pure (PVal.bool y_1.snd)) ∧ True) ∧ True ∧ GuardFn Try.prog 44 ∧ True)) := by kernel_rfl


set_option maxHeartbeats 4000000 in
theorem search_Shortest_spec (hd : DrawSound Try.prog drawB) {N : Nat} {a0 : S_Roadmap} {a1 : Int} {a2 : Int} {a3 : Int} {r : (S_Route × Bool)} (h : search_Shortest_F N a0 a1 a2 a3 = some r) : Spec Try.prog 26 0 [.pure (.agg [encL 1 (encL 1 encI_i64) a0.Points, encL 12 enc_RoadmapEdge a0.Edges]), .pure (.int .i64 a1), .pure (.int .i64 a2), .pure (.int .i64 a3)] [] (.tup [.pure (.agg [encL 1 encI_i64 r.1.Vertices, .int .i64 r.1.Cost]), .pure (.bool r.2)]) ([]) := by
  refine spec_ofT (n0 := 0) (res := fun r => .tup [.pure (.agg [encL 1 encI_i64 r.1.Vertices, .int .i64 r.1.Cost]), .pure (.bool r.2)]) (m' := fun _ => []) (search_Shortest_T N a0 a1 a2 a3) ((search_Shortest_run N a0 a1 a2 a3).trans h) hd Try.func26 (by kernel_rfl) (by kernel_rfl) ?_
  rw [search_Shortest_vc]
  repeat' (first | exact trivial | exact ASub.refl _ | exact RSub.refl _ | exact search_wellFormed_spec hd (by assumption) | exact search_isPoint_spec hd (by assumption) | exact search_links_spec hd (by assumption) | exact search_shortest_spec hd (by assumption) | exact guard44 | assumption | exact int_eq0 (by assumption) | exact of_decide_eq_true (by assumption) | exact of_decide_eq_false (by assumption) | rfl | (apply And.intro) | (intro _) | exact nl_a | exact ASub.tt rfl | exact ASub.ff rfl | exact mapR_upE rfl | exact RSub.nilv rfl rfl | exact RSub.gone | exact IsL.el | exact IsL.nl | exact IsL.lit (CSubs.of_eq rfl) rfl | refine IsL.lit ?_ rfl | exact IsL.rep (CSub.of_eq rfl) | refine IsL.a ?_ | refine IsL.r0 ?_ | refine IsLL.r ?_ | exact IsLL.el | exact IsLL.rep | refine IsLL.set ?_ ?_ | refine IsL.r ?_ ?_ | refine IsL.app ?_ ?_ | refine IsL.set ?_ (CSub.of_eq rfl) | refine IsL.set ?_ ?_ | exact IsL.sliceE (by omega) (by omega) | refine IsL.slice ?_ ?_ ?_ | exact IsL.take (by first | exact IsL.el | exact IsL.set IsL.el (CSub.of_eq rfl)) (by omega) | refine IsL.take ?_ ?_ | exact CSubs.nil' | refine CSubs.cons' ?_ ?_ | exact CSub.refl _ | exact nl_c | refine CSub.agg ?_ | refine IsL.c ?_ | exact PSubs.nil' | refine PSubs.cons' ?_ ?_ | exact PSub.refl _ | exact nl_p | refine IsL.p ?_ | refine (PSub.agg ?_).a | refine PSub.agg ?_ | refine ASub.agg ?_ | refine RSub.box ?_ | refine tup_a ?_ | refine ASub.p ?_ | omega)

def slices_BinarySearchFunc_api_RoadmapEdge_api_RoadmapEdge_2_int_F (N : Nat) (a0 : (List S_RoadmapEdge)) (a1 : (Int × Int)) : Option (Int × Bool) :=
  andK (iter (fun (x52 : (Int × Int)) => (
   bif (decide (x52.1 < x52.2)) then
    grd (0 ≤ (1 : Int)) <|
    (fun z59 =>
    grd (0 ≤ z59 ∧ z59 < ((a0.length : Nat) : Int)) <|
     (search_comparePair_F N (a0.getD ((z59).toNat) default) a1).bind fun y61 =>
     bif (decide (y61 < 0)) then
      some (.next ((IntKind.i64.wrap (z59 + 1)), x52.2))
     else
      some (.next (x52.1, z59))) ((IntKind.i64.wrap ((IntKind.u64.wrap (IntKind.i64.wrap (x52.1 + x52.2))).fdiv (2 ^ (min (1 : Int).toNat 64)))))
   else
    some (.out x52.1) : Option (Step3 (Int × Int) Int _))) N (0, ((a0.length : Nat) : Int))) fun y57 =>
  bif (decide (y57 < ((a0.length : Nat) : Int))) then
   grd (0 ≤ y57 ∧ y57 < ((a0.length : Nat) : Int)) <|
   (search_comparePair_F N (a0.getD ((y57).toNat) default) a1).bind fun y62 =>
   some (y57, (y62 == 0))
  else
   some (y57, false)

def slices_BinarySearchFunc_api_RoadmapEdge_api_RoadmapEdge_2_int_T (N : Nat) (a0 : (List S_RoadmapEdge)) (a1 : (Int × Int)) : T (Int × Bool) :=
  .loop (fun (x52 : (Int × Int)) => ⟨[(0, .pure (encL 12 enc_RoadmapEdge a0)), (2, .func 56 [] []), (4, .ptr 0 0), (8, .pure (.int .i64 ((a0.length : Nat) : Int))), (9, .pure (.int .i64 x52.1)), (10, .pure (.int .i64 x52.2))], [(0, .box [.pure (.int .i64 a1.1), .pure (.int .i64 a1.2)])], [], 1⟩)
   (.exit 0) (fun (y57 : Int) => ⟨[(0, .pure (encL 12 enc_RoadmapEdge a0)), (2, .func 56 [] []), (4, .ptr 0 0), (8, .pure (.int .i64 ((a0.length : Nat) : Int))), (9, .pure (.int .i64 y57))], [(0, .box [.pure (.int .i64 a1.1), .pure (.int .i64 a1.2)])], [], 1⟩)
   (fun x52 => .br (decide (x52.1 < x52.2))
     (.grd (0 ≤ (1 : Int)) <|
     .name 4005 ((IntKind.i64.wrap ((IntKind.u64.wrap (IntKind.i64.wrap (x52.1 + x52.2))).fdiv (2 ^ (min (1 : Int).toNat 64))))) fun z59 =>
     .grd (0 ≤ z59 ∧ z59 < ((a0.length : Nat) : Int)) <|
     .call (search_comparePair_F N (a0.getD ((z59).toNat) default) a1) (fun y61 => ⟨[], 0, [.pure (.agg [.int .i64 ((a0.getD ((z59).toNat) default).U), .int .i64 ((a0.getD ((z59).toNat) default).V), .int .i64 ((a0.getD ((z59).toNat) default).Cost), .int .i64 ((a0.getD ((z59).toNat) default).State), .int .i64 ((a0.getD ((z59).toNat) default).Proof.Kind), encL 3 enc_Piece ((a0.getD ((z59).toNat) default).Proof.Pieces), .int .i64 ((a0.getD ((z59).toNat) default).Proof.At.Depth), .int .i64 ((a0.getD ((z59).toNat) default).Proof.At.Index), encL 3 enc_arr_3_int64 ((a0.getD ((z59).toNat) default).Proof.At.Normals), .int .i64 ((a0.getD ((z59).toNat) default).Proof.Witness.Pair), encL 1 encI_i64 ((a0.getD ((z59).toNat) default).Proof.Witness.Left), encL 1 encI_i64 ((a0.getD ((z59).toNat) default).Proof.Witness.Right)]), .pure (.agg [.int .i64 a1.1, .int .i64 a1.2])], [], .pure (.int .i64 y61), []⟩) fun y61 =>
     .br (decide (y61 < 0))
      (.ret (.next ((IntKind.i64.wrap (z59 + 1)), x52.2)))
      (.ret (.next (x52.1, z59))))
     (.ret (.out x52.1)))
   (0, ((a0.length : Nat) : Int)) fun y57 =>
  .br (decide (y57 < ((a0.length : Nat) : Int)))
   (.grd (0 ≤ y57 ∧ y57 < ((a0.length : Nat) : Int)) <|
   .call (search_comparePair_F N (a0.getD ((y57).toNat) default) a1) (fun y62 => ⟨[], 0, [.pure (.agg [.int .i64 ((a0.getD ((y57).toNat) default).U), .int .i64 ((a0.getD ((y57).toNat) default).V), .int .i64 ((a0.getD ((y57).toNat) default).Cost), .int .i64 ((a0.getD ((y57).toNat) default).State), .int .i64 ((a0.getD ((y57).toNat) default).Proof.Kind), encL 3 enc_Piece ((a0.getD ((y57).toNat) default).Proof.Pieces), .int .i64 ((a0.getD ((y57).toNat) default).Proof.At.Depth), .int .i64 ((a0.getD ((y57).toNat) default).Proof.At.Index), encL 3 enc_arr_3_int64 ((a0.getD ((y57).toNat) default).Proof.At.Normals), .int .i64 ((a0.getD ((y57).toNat) default).Proof.Witness.Pair), encL 1 encI_i64 ((a0.getD ((y57).toNat) default).Proof.Witness.Left), encL 1 encI_i64 ((a0.getD ((y57).toNat) default).Proof.Witness.Right)]), .pure (.agg [.int .i64 a1.1, .int .i64 a1.2])], [], .pure (.int .i64 y62), []⟩) fun y62 =>
   .ret (y57, (y62 == 0)))
   (.ret (y57, false))

theorem slices_BinarySearchFunc_api_RoadmapEdge_api_RoadmapEdge_2_int_run (N : Nat) (a0 : (List S_RoadmapEdge)) (a1 : (Int × Int)) : (slices_BinarySearchFunc_api_RoadmapEdge_api_RoadmapEdge_2_int_T N a0 a1).run N = slices_BinarySearchFunc_api_RoadmapEdge_api_RoadmapEdge_2_int_F N a0 a1 := by kernel_rfl

theorem slices_BinarySearchFunc_api_RoadmapEdge_api_RoadmapEdge_2_int_vc (N : Nat) (a0 : (List S_RoadmapEdge)) (a1 : (Int × Int)) : (vcFuncT Try.prog drawB Try.f63 (Try.f63.body.getD .skip) 0 0 (slices_BinarySearchFunc_api_RoadmapEdge_api_RoadmapEdge_2_int_T N a0 a1) [.pure (encL 12 enc_RoadmapEdge a0), .pure (.agg [.int .i64 a1.1, .int .i64 a1.2]), .func 56 [] []] [] (fun r => .tup [.pure (.int .i64 r.1), .pure (.bool r.2)]) (fun _ => [])) =
    ((∀ (_x : Int × Int), true = true ∧ 0 ≤ 1) ∧ (∀ (_y : Int), true = true ∧ 0 ≤ 1) ∧ ((aS (AVal.pure (encL 12 enc_RoadmapEdge a0)) ∧ aS (AVal.func 56 [] []) ∧ aS (AVal.ptr 0 0) ∧ aS (aI (↑a0.length : Int)) ∧ aS (aI 0) ∧ aS (aI (↑a0.length : Int)) ∧ True) ∧ (rS (Res.box [aI a1.fst, aI a1.snd]) ∧ True) ∧ True) ∧ (∀ (x : Int × Int), decide (x.fst < x.snd) = decide (x.fst < x.snd) ∧ (decide (x.fst < x.snd) = true → (0 : Int) ≤ (1 : Int) → (0 : Int) ≤ (1 : Int) ∧ IntKind.i64.wrap ((IntKind.u64.wrap (IntKind.i64.wrap (x.fst + x.snd))).fdiv ((2 : Int) ^ 1)) = IntKind.i64.wrap ((IntKind.u64.wrap (IntKind.i64.wrap (x.fst + x.snd))).fdiv ((2 : Int) ^ 1)) ∧ ∀ (z : Int), (0 : Int) ≤ z ∧ z < (↑a0.length : Int) → ((0 : Int) ≤ z ∧ z < (↑a0.length : Int)) ∧ ∀ (y : Int), search_comparePair_F N (a0.getD z.toNat default) a1 = some y → ((aS (AVal.pure (PVal.agg [PVal.int IntKind.i64 (a0.getD z.toNat default).U, PVal.int IntKind.i64 (a0.getD z.toNat default).V, PVal.int IntKind.i64 (a0.getD z.toNat default).Cost, PVal.int IntKind.i64 (a0.getD z.toNat default).State, PVal.int IntKind.i64 (a0.getD z.toNat default).Proof.Kind, encL 3 enc_Piece (a0.getD z.toNat default).Proof.Pieces, PVal.int IntKind.i64 (a0.getD z.toNat default).Proof.At.Depth, PVal.int IntKind.i64 (a0.getD z.toNat default).Proof.At.Index, encL 3 enc_arr_3_int64 (a0.getD z.toNat default).Proof.At.Normals, PVal.int IntKind.i64 (a0.getD z.toNat default).Proof.Witness.Pair, encL 1 encI_i64 (a0.getD z.toNat default).Proof.Witness.Left, encL 1 encI_i64 (a0.getD z.toNat default).Proof.Witness.Right])) ∧ aS (AVal.pure (PVal.agg [PVal.int IntKind.i64 a1.fst, PVal.int IntKind.i64 a1.snd])) ∧ True) ∧ True ∧ Spec Try.prog 56 0 [AVal.pure (PVal.agg [PVal.int IntKind.i64 (a0.getD z.toNat default).U, PVal.int IntKind.i64 (a0.getD z.toNat default).V, PVal.int IntKind.i64 (a0.getD z.toNat default).Cost, PVal.int IntKind.i64 (a0.getD z.toNat default).State, PVal.int IntKind.i64 (a0.getD z.toNat default).Proof.Kind, encL 3 enc_Piece (a0.getD z.toNat default).Proof.Pieces, PVal.int IntKind.i64 (a0.getD z.toNat default).Proof.At.Depth, PVal.int IntKind.i64 (a0.getD z.toNat default).Proof.At.Index, encL 3 enc_arr_3_int64 (a0.getD z.toNat default).Proof.At.Normals, PVal.int IntKind.i64 (a0.getD z.toNat default).Proof.Witness.Pair, encL 1 encI_i64 (a0.getD z.toNat default).Proof.Witness.Left, encL 1 encI_i64 (a0.getD z.toNat default).Proof.Witness.Right]), AVal.pure (PVal.agg [PVal.int IntKind.i64 a1.fst, PVal.int IntKind.i64 a1.snd])] [] (aI y) []) ∧ decide (y < (0 : Int)) = decide (y < (0 : Int)) ∧ (decide (y < (0 : Int)) = true → (aS (AVal.pure (encL 12 enc_RoadmapEdge a0)) ∧ aS (AVal.func 56 [] []) ∧ aS (AVal.ptr 0 0) ∧ aS (aI (↑a0.length : Int)) ∧ aS (aI (IntKind.i64.wrap (z + (1 : Int)))) ∧ aS (aI x.snd) ∧ True) ∧ (rS (Res.box [aI a1.fst, aI a1.snd]) ∧ True) ∧ True) ∧ (decide (y < (0 : Int)) = false → (aS (AVal.pure (encL 12 enc_RoadmapEdge a0)) ∧ aS (AVal.func 56 [] []) ∧ aS (AVal.ptr 0 0) ∧ aS (aI (↑a0.length : Int)) ∧ aS (aI x.fst) ∧ aS (aI z) ∧ True) ∧ (rS (Res.box [aI a1.fst, aI a1.snd]) ∧ True) ∧ True)) ∧ (decide (x.fst < x.snd) = false → (aS (AVal.pure (encL 12 enc_RoadmapEdge a0)) ∧ aS (AVal.func 56 [] []) ∧ aS (AVal.ptr 0 0) ∧ aS (aI (↑a0.length : Int)) ∧ aS (aI x.fst) ∧ True) ∧ (rS (Res.box [aI a1.fst, aI a1.snd]) ∧ True) ∧ True)) ∧ ∀ (y : Int), decide (y < (↑a0.length : Int)) = decide (y < (↑a0.length : Int)) ∧ (decide (y < (↑a0.length : Int)) = true → (0 : Int) ≤ y ∧ y < (↑a0.length : Int) → ((0 : Int) ≤ y ∧ y < (↑a0.length : Int)) ∧ ∀ (y_1 : Int), search_comparePair_F N (a0.getD y.toNat default) a1 = some y_1 → ((aS (AVal.pure (PVal.agg [PVal.int IntKind.i64 (a0.getD y.toNat default).U, PVal.int IntKind.i64 (a0.getD y.toNat default).V, PVal.int IntKind.i64 (a0.getD y.toNat default).Cost, PVal.int IntKind.i64 (a0.getD y.toNat default).State, PVal.int IntKind.i64 (a0.getD y.toNat default).Proof.Kind, encL 3 enc_Piece (a0.getD y.toNat default).Proof.Pieces, PVal.int IntKind.i64 (a0.getD y.toNat default).Proof.At.Depth, PVal.int IntKind.i64 (a0.getD y.toNat default).Proof.At.Index, encL 3 enc_arr_3_int64 (a0.getD y.toNat default).Proof.At.Normals, PVal.int IntKind.i64 (a0.getD y.toNat default).Proof.Witness.Pair, encL 1 encI_i64 (a0.getD y.toNat default).Proof.Witness.Left, encL 1 encI_i64 (a0.getD y.toNat default).Proof.Witness.Right])) ∧ aS (AVal.pure (PVal.agg [PVal.int IntKind.i64 a1.fst, PVal.int IntKind.i64 a1.snd])) ∧ True) ∧ True ∧ Spec Try.prog 56 0 [AVal.pure (PVal.agg [PVal.int IntKind.i64 (a0.getD y.toNat default).U, PVal.int IntKind.i64 (a0.getD y.toNat default).V, PVal.int IntKind.i64 (a0.getD y.toNat default).Cost, PVal.int IntKind.i64 (a0.getD y.toNat default).State, PVal.int IntKind.i64 (a0.getD y.toNat default).Proof.Kind, encL 3 enc_Piece (a0.getD y.toNat default).Proof.Pieces, PVal.int IntKind.i64 (a0.getD y.toNat default).Proof.At.Depth, PVal.int IntKind.i64 (a0.getD y.toNat default).Proof.At.Index, encL 3 enc_arr_3_int64 (a0.getD y.toNat default).Proof.At.Normals, PVal.int IntKind.i64 (a0.getD y.toNat default).Proof.Witness.Pair, encL 1 encI_i64 (a0.getD y.toNat default).Proof.Witness.Left, encL 1 encI_i64 (a0.getD y.toNat default).Proof.Witness.Right]), AVal.pure (PVal.agg [PVal.int IntKind.i64 a1.fst, PVal.int IntKind.i64 a1.snd])] [] (aI y_1) []) ∧ (aS (aI y) ∧ aS (AVal.pure (PVal.bool (y_1 == (0 : Int)))) ∧ True) ∧ True ∧ True) ∧ (decide (y < (↑a0.length : Int)) = false → (aS (aI y) ∧ aS (AVal.pure (PVal.bool false)) ∧ True) ∧ True ∧ True)) := by kernel_rfl


set_option maxHeartbeats 4000000 in
theorem slices_BinarySearchFunc_api_RoadmapEdge_api_RoadmapEdge_2_int_spec (hd : DrawSound Try.prog drawB) {N : Nat} {a0 : (List S_RoadmapEdge)} {a1 : (Int × Int)} {r : (Int × Bool)} (h : slices_BinarySearchFunc_api_RoadmapEdge_api_RoadmapEdge_2_int_F N a0 a1 = some r) : Spec Try.prog 63 0 [.pure (encL 12 enc_RoadmapEdge a0), .pure (.agg [.int .i64 a1.1, .int .i64 a1.2]), .func 56 [] []] [] (.tup [.pure (.int .i64 r.1), .pure (.bool r.2)]) ([]) := by
  refine spec_ofT (n0 := 0) (res := fun r => .tup [.pure (.int .i64 r.1), .pure (.bool r.2)]) (m' := fun _ => []) (slices_BinarySearchFunc_api_RoadmapEdge_api_RoadmapEdge_2_int_T N a0 a1) ((slices_BinarySearchFunc_api_RoadmapEdge_api_RoadmapEdge_2_int_run N a0 a1).trans h) hd Try.func63 (by kernel_rfl) (by kernel_rfl) ?_
  rw [slices_BinarySearchFunc_api_RoadmapEdge_api_RoadmapEdge_2_int_vc]
  repeat' (first | exact trivial | exact ASub.refl _ | exact RSub.refl _ | exact search_comparePair_spec hd (by assumption) | assumption | exact int_eq0 (by assumption) | exact of_decide_eq_true (by assumption) | exact of_decide_eq_false (by assumption) | rfl | (apply And.intro) | (intro _) | exact nl_a | exact ASub.tt rfl | exact ASub.ff rfl | exact mapR_upE rfl | exact RSub.nilv rfl rfl | exact RSub.gone | exact IsL.el | exact IsL.nl | exact IsL.lit (CSubs.of_eq rfl) rfl | refine IsL.lit ?_ rfl | exact IsL.rep (CSub.of_eq rfl) | refine IsL.a ?_ | refine IsL.r0 ?_ | refine IsLL.r ?_ | exact IsLL.el | exact IsLL.rep | refine IsLL.set ?_ ?_ | refine IsL.r ?_ ?_ | refine IsL.app ?_ ?_ | refine IsL.set ?_ (CSub.of_eq rfl) | refine IsL.set ?_ ?_ | exact IsL.sliceE (by omega) (by omega) | refine IsL.slice ?_ ?_ ?_ | exact IsL.take (by first | exact IsL.el | exact IsL.set IsL.el (CSub.of_eq rfl)) (by omega) | refine IsL.take ?_ ?_ | exact CSubs.nil' | refine CSubs.cons' ?_ ?_ | exact CSub.refl _ | exact nl_c | refine CSub.agg ?_ | refine IsL.c ?_ | exact PSubs.nil' | refine PSubs.cons' ?_ ?_ | exact PSub.refl _ | exact nl_p | refine IsL.p ?_ | refine (PSub.agg ?_).a | refine PSub.agg ?_ | refine ASub.agg ?_ | refine RSub.box ?_ | refine tup_a ?_ | refine ASub.p ?_ | omega)

def search_between_F (N : Nat) (a0 : S_Roadmap) (a1 : Int) (a2 : Int) : Option (Int × Bool) :=
  (slices_BinarySearchFunc_api_RoadmapEdge_api_RoadmapEdge_2_int_F N a0.Edges ((min a1 a2), (max a1 a2))).bind fun y1 =>
  some (y1.1, y1.2)

def search_between_T (N : Nat) (a0 : S_Roadmap) (a1 : Int) (a2 : Int) : T (Int × Bool) :=
  .call (slices_BinarySearchFunc_api_RoadmapEdge_api_RoadmapEdge_2_int_F N a0.Edges ((min a1 a2), (max a1 a2))) (fun y1 => ⟨[], 0, [.pure (encL 12 enc_RoadmapEdge a0.Edges), .pure (.agg [.int .i64 (((min a1 a2), (max a1 a2)).1), .int .i64 (((min a1 a2), (max a1 a2)).2)]), .func 56 [] []], [], .tup [.pure (.int .i64 y1.1), .pure (.bool y1.2)], []⟩) fun y1 =>
  .ret (y1.1, y1.2)

theorem search_between_run (N : Nat) (a0 : S_Roadmap) (a1 : Int) (a2 : Int) : (search_between_T N a0 a1 a2).run N = search_between_F N a0 a1 a2 := by kernel_rfl

theorem search_between_vc (N : Nat) (a0 : S_Roadmap) (a1 : Int) (a2 : Int) : (vcFuncT Try.prog drawB Try.f53 (Try.f53.body.getD .skip) 0 0 (search_between_T N a0 a1 a2) [.pure (.agg [encL 1 (encL 1 encI_i64) a0.Points, encL 12 enc_RoadmapEdge a0.Edges]), .pure (.int .i64 a1), .pure (.int .i64 a2)] [] (fun r => .tup [.pure (.int .i64 r.1), .pure (.bool r.2)]) (fun _ => [])) =
    (∀ (y : Int × Bool), slices_BinarySearchFunc_api_RoadmapEdge_api_RoadmapEdge_2_int_F N a0.Edges (Min.min a1 a2, Max.max a1 a2) = some y → ((aS (AVal.pure (encL 12 enc_RoadmapEdge a0.Edges)) ∧ aS (AVal.pure (PVal.agg [PVal.int IntKind.i64 (Min.min a1 a2), PVal.int IntKind.i64 (Max.max a1 a2)])) ∧ aS (AVal.func 56 [] []) ∧ True) ∧ True ∧ Spec Try.prog 63 0 [AVal.pure (encL 12 enc_RoadmapEdge a0.Edges), AVal.pure (PVal.agg [PVal.int IntKind.i64 (Min.min a1 a2), PVal.int IntKind.i64 (Max.max a1 a2)]), AVal.func 56 [] []] [] (AVal.tup [aI y.fst, AVal.pure (PVal.bool y.snd)]) []) ∧ (aS (aI y.fst) ∧ aS (AVal.pure (PVal.bool y.snd)) ∧ True) ∧ True ∧ True) := by kernel_rfl


set_option maxHeartbeats 4000000 in
theorem search_between_spec (hd : DrawSound Try.prog drawB) {N : Nat} {a0 : S_Roadmap} {a1 : Int} {a2 : Int} {r : (Int × Bool)} (h : search_between_F N a0 a1 a2 = some r) : Spec Try.prog 53 0 [.pure (.agg [encL 1 (encL 1 encI_i64) a0.Points, encL 12 enc_RoadmapEdge a0.Edges]), .pure (.int .i64 a1), .pure (.int .i64 a2)] [] (.tup [.pure (.int .i64 r.1), .pure (.bool r.2)]) ([]) := by
  refine spec_ofT (n0 := 0) (res := fun r => .tup [.pure (.int .i64 r.1), .pure (.bool r.2)]) (m' := fun _ => []) (search_between_T N a0 a1 a2) ((search_between_run N a0 a1 a2).trans h) hd Try.func53 (by kernel_rfl) (by kernel_rfl) ?_
  rw [search_between_vc]
  repeat' (first | exact trivial | exact ASub.refl _ | exact RSub.refl _ | exact slices_BinarySearchFunc_api_RoadmapEdge_api_RoadmapEdge_2_int_spec hd (by assumption) | assumption | exact int_eq0 (by assumption) | exact of_decide_eq_true (by assumption) | exact of_decide_eq_false (by assumption) | rfl | (apply And.intro) | (intro _) | exact nl_a | exact ASub.tt rfl | exact ASub.ff rfl | exact mapR_upE rfl | exact RSub.nilv rfl rfl | exact RSub.gone | exact IsL.el | exact IsL.nl | exact IsL.lit (CSubs.of_eq rfl) rfl | refine IsL.lit ?_ rfl | exact IsL.rep (CSub.of_eq rfl) | refine IsL.a ?_ | refine IsL.r0 ?_ | refine IsLL.r ?_ | exact IsLL.el | exact IsLL.rep | refine IsLL.set ?_ ?_ | refine IsL.r ?_ ?_ | refine IsL.app ?_ ?_ | refine IsL.set ?_ (CSub.of_eq rfl) | refine IsL.set ?_ ?_ | exact IsL.sliceE (by omega) (by omega) | refine IsL.slice ?_ ?_ ?_ | exact IsL.take (by first | exact IsL.el | exact IsL.set IsL.el (CSub.of_eq rfl)) (by omega) | refine IsL.take ?_ ?_ | exact CSubs.nil' | refine CSubs.cons' ?_ ?_ | exact CSub.refl _ | exact nl_c | refine CSub.agg ?_ | refine IsL.c ?_ | exact PSubs.nil' | refine PSubs.cons' ?_ ?_ | exact PSub.refl _ | exact nl_p | refine IsL.p ?_ | refine (PSub.agg ?_).a | refine PSub.agg ?_ | refine ASub.agg ?_ | refine RSub.box ?_ | refine tup_a ?_ | refine ASub.p ?_ | omega)

def search_Next_F (N : Nat) (a0 : S_Roadmap) (a1 : Int) (a2 : Int) : Option (Int × S_Route × Int) :=
  andC (
   (search_wellFormed_F N a0).bind fun y18 =>
   bif (!y18) then
    some (.out true)
   else
    (search_isPoint_F N a0 a1).bind fun y19 =>
    bif (!y19) then
     some (.out true)
    else
     (search_isPoint_F N a0 a2).bind fun y20 =>
     some (.out (!y20)) : Option (Step3 Unit Bool _)) fun y17 =>
  bif y17 then
   some ((-1), (⟨nl, 0⟩ : S_Route), 0)
  else
   (search_links_F N a0 1).bind fun y23 =>
   (search_shortest_F N y23 a1 a2).bind fun y24 =>
   bif (!y24.2) then
    some ((-1), (⟨nl, 0⟩ : S_Route), 2)
   else
    grd (0 ≤ (1 : Int) ∧ (1 : Int) ≤ ((y24.1.Vertices.length : Nat) : Int) ∧ ((y24.1.Vertices.length : Nat) : Int) ≤ ((y24.1.Vertices.length : Nat) : Int)) <|
    andK (iter (fun (x45 : ((List Int) × Int)) => (
     bif (decide (x45.2 < ((((((y24.1.Vertices.length : Nat) : Int)).toNat - (1 : Int).toNat) : Nat) : Int))) then
      grd (0 ≤ x45.2 ∧ x45.2 < ((x45.1.length : Nat) : Int)) <|
      grd (0 ≤ x45.2 ∧ x45.2 < ((y24.1.Vertices.length : Nat) : Int)) <|
      (search_between_F N (⟨a0.Points, a0.Edges⟩ : S_Roadmap) (y24.1.Vertices.getD ((x45.2).toNat) default) (x45.1.getD ((x45.2).toNat) default)).bind fun y54 =>
      grd (0 ≤ y54.1 ∧ y54.1 < ((a0.Edges.length : Nat) : Int)) <|
      bif (((a0.Edges.getD ((y54.1).toNat) default).State) == 0) then
       some (.fin (y54.1, y24.1, 3))
      else
       some (.next (x45.1, (IntKind.i64.wrap (x45.2 + 1))))
     else
      some (.out .u) : Option (Step3 ((List Int) × Int) U0 _))) N (((y24.1.Vertices.drop ((1 : Int).toNat)).take ((((y24.1.Vertices.length : Nat) : Int)).toNat - (1 : Int).toNat)), 0)) fun _ =>
    some ((-1), y24.1, 1)

def search_Next_T (N : Nat) (a0 : S_Roadmap) (a1 : Int) (a2 : Int) : T (Int × S_Route × Int) :=
  .cut 3 (fun (y17 : Bool) => ⟨[(1, .pure (.int .i64 a1)), (2, .pure (.int .i64 a2)), (3, .ptr 0 0), (6, .ptr 1 0), (7, .ptr 2 0), (8, .ptr 4 0), (29, .pure (.bool y17))], [(0, .box [.pure (encL 1 (encL 1 encI_i64) a0.Points), .pure (encL 12 enc_RoadmapEdge a0.Edges)]), (1, .box [.pure (.int .i64 0)]), (2, .box [.vec 3, .pure (.int .i64 0)]), (3, .nilv), (4, .box [.pure (.int .i64 0)])], [.func 52 [] [.ptr 1 0, .ptr 2 0, .ptr 4 0]], 5⟩)
   (.call (search_wellFormed_F N a0) (fun y18 => ⟨[], 0, [.pure (.agg [encL 1 (encL 1 encI_i64) a0.Points, encL 12 enc_RoadmapEdge a0.Edges])], [], .pure (.bool y18), []⟩) fun y18 =>
   .br (!y18)
    (.ret (.out true))
    (.call (search_isPoint_F N a0 a1) (fun y19 => ⟨[], 0, [.pure (.agg [encL 1 (encL 1 encI_i64) a0.Points, encL 12 enc_RoadmapEdge a0.Edges]), .pure (.int .i64 a1)], [], .pure (.bool y19), []⟩) fun y19 =>
    .br (!y19)
     (.ret (.out true))
     (.call (search_isPoint_F N a0 a2) (fun y20 => ⟨[], 0, [.pure (.agg [encL 1 (encL 1 encI_i64) a0.Points, encL 12 enc_RoadmapEdge a0.Edges]), .pure (.int .i64 a2)], [], .pure (.bool y20), []⟩) fun y20 =>
     .ret (.out (!y20))))) fun y17 =>
  .br y17
   (.ret ((-1), (⟨nl, 0⟩ : S_Route), 0))
   (.call (search_links_F N a0 1) (fun y23 => ⟨[], 0, [.pure (.agg [encL 1 (encL 1 encI_i64) a0.Points, encL 12 enc_RoadmapEdge a0.Edges]), .pure (.int .i64 1)], [], .pure (encL 1 (encL 2 enc_search_link) y23), []⟩) fun y23 =>
   .call (search_shortest_F N y23 a1 a2) (fun y24 => ⟨[], 0, [.pure (encL 1 (encL 2 enc_search_link) y23), .pure (.int .i64 a1), .pure (.int .i64 a2)], [], .tup [.pure (.agg [encL 1 encI_i64 y24.1.Vertices, .int .i64 y24.1.Cost]), .pure (.bool y24.2)], []⟩) fun y24 =>
   .br (!y24.2)
    (.ret ((-1), (⟨nl, 0⟩ : S_Route), 2))
    (.grd (0 ≤ (1 : Int) ∧ (1 : Int) ≤ ((y24.1.Vertices.length : Nat) : Int) ∧ ((y24.1.Vertices.length : Nat) : Int) ≤ ((y24.1.Vertices.length : Nat) : Int)) <|
    .loop (fun (x45 : ((List Int) × Int)) => ⟨[(3, .ptr 0 0), (6, .ptr 1 0), (7, .ptr 2 0), (8, .ptr 3 0), (44, .pure (encL 1 encI_i64 x45.1)), (45, .pure (.int .i64 ((((((y24.1.Vertices.length : Nat) : Int)).toNat - (1 : Int).toNat) : Nat) : Int))), (46, .pure (.int .i64 x45.2))], [(0, .box [.pure (encL 1 (encL 1 encI_i64) a0.Points), .pure (encL 12 enc_RoadmapEdge a0.Edges)]), (1, .box [.pure (.int .i64 0)]), (2, .box [.pure (encL 1 encI_i64 y24.1.Vertices), .pure (.int .i64 y24.1.Cost)]), (3, .box [.pure (.int .i64 0)])], [.func 52 [] [.ptr 1 0, .ptr 2 0, .ptr 3 0]], 4⟩)
     (.exit 0) (fun (_ : U0) => ⟨[(6, .ptr 0 0), (7, .ptr 1 0), (8, .ptr 2 0)], [(0, .box [.pure (.int .i64 0)]), (1, .box [.pure (encL 1 encI_i64 y24.1.Vertices), .pure (.int .i64 y24.1.Cost)]), (2, .box [.pure (.int .i64 0)])], [.func 52 [] [.ptr 0 0, .ptr 1 0, .ptr 2 0]], 3⟩)
     (fun x45 => .br (decide (x45.2 < ((((((y24.1.Vertices.length : Nat) : Int)).toNat - (1 : Int).toNat) : Nat) : Int)))
       (.grd (0 ≤ x45.2 ∧ x45.2 < ((x45.1.length : Nat) : Int)) <|
       .grd (0 ≤ x45.2 ∧ x45.2 < ((y24.1.Vertices.length : Nat) : Int)) <|
       .call (search_between_F N (⟨a0.Points, a0.Edges⟩ : S_Roadmap) (y24.1.Vertices.getD ((x45.2).toNat) default) (x45.1.getD ((x45.2).toNat) default)) (fun y54 => ⟨[], 0, [.pure (.agg [encL 1 (encL 1 encI_i64) ((⟨a0.Points, a0.Edges⟩ : S_Roadmap).Points), encL 12 enc_RoadmapEdge ((⟨a0.Points, a0.Edges⟩ : S_Roadmap).Edges)]), .pure (.int .i64 (y24.1.Vertices.getD ((x45.2).toNat) default)), .pure (.int .i64 (x45.1.getD ((x45.2).toNat) default))], [], .tup [.pure (.int .i64 y54.1), .pure (.bool y54.2)], []⟩) fun y54 =>
       .grd (0 ≤ y54.1 ∧ y54.1 < ((a0.Edges.length : Nat) : Int)) <|
       .br (((a0.Edges.getD ((y54.1).toNat) default).State) == 0)
        (.ret (.fin (y54.1, y24.1, 3)))
        (.ret (.next (x45.1, (IntKind.i64.wrap (x45.2 + 1))))))
       (.ret (.out .u)))
     (((y24.1.Vertices.drop ((1 : Int).toNat)).take ((((y24.1.Vertices.length : Nat) : Int)).toNat - (1 : Int).toNat)), 0) fun _ =>
    .ret ((-1), y24.1, 1)))

theorem search_Next_run (N : Nat) (a0 : S_Roadmap) (a1 : Int) (a2 : Int) : (search_Next_T N a0 a1 a2).run N = search_Next_F N a0 a1 a2 := by kernel_rfl

theorem search_Next_vc (N : Nat) (a0 : S_Roadmap) (a1 : Int) (a2 : Int) : (vcFuncT Try.prog drawB Try.f38 (Try.f38.body.getD .skip) 0 0 (search_Next_T N a0 a1 a2) [.pure (.agg [encL 1 (encL 1 encI_i64) a0.Points, encL 12 enc_RoadmapEdge a0.Edges]), .pure (.int .i64 a1), .pure (.int .i64 a2)] [] (fun r => .tup [.pure (.int .i64 r.1), .pure (.agg [encL 1 encI_i64 r.2.1.Vertices, .int .i64 r.2.1.Cost]), .pure (.int .i64 r.2.2)]) (fun _ => [])) =
    ((∀ (_y : Bool), true = true ∧ 0 ≤ 5) ∧ (∀ (y : Bool), search_wellFormed_F N a0 = some y → ((aS (AVal.pure (PVal.agg [PVal.lst 1 a0.Points.length fun (a : Nat) => encL 1 encI_i64 (a0.Points.getD a default), encL 12 enc_RoadmapEdge a0.Edges])) ∧ True) ∧ True ∧ Spec Try.prog 45 0 [AVal.pure (PVal.agg [PVal.lst 1 a0.Points.length fun (a : Nat) => encL 1 encI_i64 (a0.Points.getD a default), encL 12 enc_RoadmapEdge a0.Edges])] [] (AVal.pure (PVal.bool y)) []) ∧ (!y) = !y ∧ ((!y) = true → (aS (aI a1) ∧ aS (aI a2) ∧ aS (AVal.ptr 0 0) ∧ aS (AVal.ptr 64 0) ∧ aS (AVal.ptr 128 0) ∧ aS (AVal.ptr 192 0) ∧ ASub AVal.tt (AVal.pure (PVal.bool true)) ∧ True) ∧ (rS (Res.box [AVal.pure (PVal.lst 1 a0.Points.length fun (a : Nat) => encL 1 encI_i64 (a0.Points.getD a default)), AVal.pure (encL 12 enc_RoadmapEdge a0.Edges)]) ∧ rS (Res.box [aI 0]) ∧ rS (Res.box [AVal.vec 129, aI 0]) ∧ rS Res.nilv ∧ rS (Res.box [aI 0]) ∧ True) ∧ aS (AVal.func 52 [] [AVal.ptr 64 0, AVal.ptr 128 0, AVal.ptr 192 0]) ∧ True) ∧ ((!y) = false → ∀ (y : Bool), search_isPoint_F N a0 a1 = some y → ((aS (AVal.pure (PVal.agg [PVal.lst 1 a0.Points.length fun (a : Nat) => encL 1 encI_i64 (a0.Points.getD a default), encL 12 enc_RoadmapEdge a0.Edges])) ∧ aS (aI a1) ∧ True) ∧ True ∧ Spec Try.prog 46 0 [AVal.pure (PVal.agg [PVal.lst 1 a0.Points.length fun (a : Nat) => encL 1 encI_i64 (a0.Points.getD a default), encL 12 enc_RoadmapEdge a0.Edges]), aI a1] [] (AVal.pure (PVal.bool y)) []) ∧ (!y) = !y ∧ ((!y) = true → (aS (aI a1) ∧ aS (aI a2) ∧ aS (AVal.ptr 0 0) ∧ aS (AVal.ptr 64 0) ∧ aS (AVal.ptr 128 0) ∧ aS (AVal.ptr 192 0) ∧ ASub AVal.tt (AVal.pure (PVal.bool true)) ∧ True) ∧ (rS (Res.box [AVal.pure (PVal.lst 1 a0.Points.length fun (a : Nat) => encL 1 encI_i64 (a0.Points.getD a default)), AVal.pure (encL 12 enc_RoadmapEdge a0.Edges)]) ∧ rS (Res.box [aI 0]) ∧ rS (Res.box [AVal.vec 129, aI 0]) ∧ rS Res.nilv ∧ rS (Res.box [aI 0]) ∧ True) ∧ aS (AVal.func 52 [] [AVal.ptr 64 0, AVal.ptr 128 0, AVal.ptr 192 0]) ∧ True) ∧ ((!y) = false → ∀ (y : Bool), search_isPoint_F N a0 a2 = some y → ((aS (AVal.pure (PVal.agg [PVal.lst 1 a0.Points.length fun (a : Nat) => encL 1 encI_i64 (a0.Points.getD a default), encL 12 enc_RoadmapEdge a0.Edges])) ∧ aS (aI a2) ∧ True) ∧ True ∧ Spec Try.prog 46 0 [AVal.pure (PVal.agg [PVal.lst 1 a0.Points.length fun (a : Nat) => encL 1 encI_i64 (a0.Points.getD a default), encL 12 enc_RoadmapEdge a0.Edges]), aI a2] [] (AVal.pure (PVal.bool y)) []) ∧ (aS (aI a1) ∧ aS (aI a2) ∧ aS (AVal.ptr 0 0) ∧ aS (AVal.ptr 64 0) ∧ aS (AVal.ptr 128 0) ∧ aS (AVal.ptr 192 0) ∧ aS (AVal.pure (PVal.bool !y)) ∧ True) ∧ (rS (Res.box [AVal.pure (PVal.lst 1 a0.Points.length fun (a : Nat) => encL 1 encI_i64 (a0.Points.getD a default)), AVal.pure (encL 12 enc_RoadmapEdge a0.Edges)]) ∧ rS (Res.box [aI 0]) ∧ rS (Res.box [AVal.vec 129, aI 0]) ∧ rS Res.nilv ∧ rS (Res.box [aI 0]) ∧ True) ∧ aS (AVal.func 52 [] [AVal.ptr 64 0, AVal.ptr 128 0, AVal.ptr 192 0]) ∧ True))) ∧ ∀ (y : Bool), y = y ∧ (y = true → (aS (aI (-1 : Int)) ∧ ASub (AVal.pure (PVal.agg [PVal.lst 0 0 fun (_x : Nat) => PVal.unk, PVal.int IntKind.i64 0])) (AVal.pure (PVal.agg [encL 1 encI_i64 nl, PVal.int IntKind.i64 0])) ∧ aS (aI 0) ∧ True) ∧ True ∧ GuardFn Try.prog 52 ∧ True) ∧ (y = false → ∀ (y : List (List S_search_link)), search_links_F N a0 (1 : Int) = some y → ((aS (AVal.pure (PVal.agg [PVal.lst 1 a0.Points.length fun (a : Nat) => encL 1 encI_i64 (a0.Points.getD a default), encL 12 enc_RoadmapEdge a0.Edges])) ∧ aS (aI 1) ∧ True) ∧ True ∧ Spec Try.prog 48 0 [AVal.pure (PVal.agg [PVal.lst 1 a0.Points.length fun (a : Nat) => encL 1 encI_i64 (a0.Points.getD a default), encL 12 enc_RoadmapEdge a0.Edges]), aI 1] [] (AVal.pure (PVal.lst 1 y.length fun (a : Nat) => encL 2 enc_search_link (y.getD a default))) []) ∧ ∀ (y_1 : S_Route × Bool), search_shortest_F N y a1 a2 = some y_1 → ((aS (AVal.pure (PVal.lst 1 y.length fun (a : Nat) => encL 2 enc_search_link (y.getD a default))) ∧ aS (aI a1) ∧ aS (aI a2) ∧ True) ∧ True ∧ Spec Try.prog 47 0 [AVal.pure (PVal.lst 1 y.length fun (a : Nat) => encL 2 enc_search_link (y.getD a default)), aI a1, aI a2] [] (AVal.tup [AVal.pure (PVal.agg [encL 1 encI_i64 y_1.fst.Vertices, PVal.int IntKind.i64 y_1.fst.Cost]), AVal.pure (PVal.bool y_1.snd)]) []) ∧ (!y_1.snd) = !y_1.snd ∧ ((!y_1.snd) = true → (aS (aI (-1 : Int)) ∧ ASub (AVal.pure (PVal.agg [PVal.lst 0 0 fun (_x : Nat) => PVal.unk, PVal.int IntKind.i64 0])) (AVal.pure (PVal.agg [encL 1 encI_i64 nl, PVal.int IntKind.i64 0])) ∧ aS (aI 2) ∧ True) ∧ True ∧ GuardFn Try.prog 52 ∧ True) ∧ ((!y_1.snd) = false → (0 : Int) ≤ (1 : Int) ∧ (1 : Int) ≤ (↑y_1.fst.Vertices.length : Int) ∧ (↑y_1.fst.Vertices.length : Int) ≤ (↑y_1.fst.Vertices.length : Int) → ((0 : Int) ≤ (1 : Int) ∧ (1 : Int) ≤ (↑y_1.fst.Vertices.length : Int) ∧ (↑y_1.fst.Vertices.length : Int) ≤ (↑y_1.fst.Vertices.length : Int)) ∧ (∀ (_x : List Int × Int), true = true ∧ 0 ≤ 4) ∧ (∀ (_y : U0), true = true ∧ 0 ≤ 3) ∧ ((aS (AVal.ptr 0 0) ∧ aS (AVal.ptr 1 0) ∧ aS (AVal.ptr 2 0) ∧ aS (AVal.ptr 4 0) ∧ ASub (AVal.pure (PVal.lst 1 ((↑y_1.fst.Vertices.length : Int).toNat - 1) fun (i : Nat) => PVal.int IntKind.i64 (y_1.fst.Vertices.getD (1 + i) default))) (AVal.pure (encL 1 encI_i64 (List.take ((↑y_1.fst.Vertices.length : Int).toNat - 1) (List.drop 1 y_1.fst.Vertices)))) ∧ aS (aI (↑((↑y_1.fst.Vertices.length : Int).toNat - 1) : Int)) ∧ aS (aI 0) ∧ True) ∧ (rS (Res.box [AVal.pure (PVal.lst 1 a0.Points.length fun (a : Nat) => encL 1 encI_i64 (a0.Points.getD a default)), AVal.pure (encL 12 enc_RoadmapEdge a0.Edges)]) ∧ rS (Res.box [aI 0]) ∧ rS (Res.box [AVal.pure (encL 1 encI_i64 y_1.fst.Vertices), aI y_1.fst.Cost]) ∧ rS (Res.box [aI 0]) ∧ True) ∧ aS (AVal.func 52 [] [AVal.ptr 1 0, AVal.ptr 2 0, AVal.ptr 4 0]) ∧ True) ∧ (∀ (x : List Int × Int), decide (x.snd < (↑((↑y_1.fst.Vertices.length : Int).toNat - 1) : Int)) = decide (x.snd < (↑((↑y_1.fst.Vertices.length : Int).toNat - 1) : Int)) ∧ (decide (x.snd < (↑((↑y_1.fst.Vertices.length : Int).toNat - 1) : Int)) = true → (0 : Int) ≤ x.snd ∧ x.snd < (↑x.fst.length : Int) → ((0 : Int) ≤ x.snd ∧ x.snd < (↑x.fst.length : Int)) ∧ ((0 : Int) ≤ x.snd ∧ x.snd < (↑y_1.fst.Vertices.length : Int) → ((0 : Int) ≤ x.snd ∧ x.snd < (↑y_1.fst.Vertices.length : Int)) ∧ ∀ (y : Int × Bool), search_between_F N (S_Roadmap.mk a0.Points a0.Edges) (y_1.fst.Vertices.getD x.snd.toNat default) (x.fst.getD x.snd.toNat default) = some y → ((aS (AVal.pure (PVal.agg [PVal.lst 1 a0.Points.length fun (a : Nat) => encL 1 encI_i64 (a0.Points.getD a default), encL 12 enc_RoadmapEdge a0.Edges])) ∧ aS (aI (y_1.fst.Vertices.getD x.snd.toNat default)) ∧ aS (aI (x.fst.getD x.snd.toNat default)) ∧ True) ∧ True ∧ Spec Try.prog 53 0 [AVal.pure (PVal.agg [PVal.lst 1 a0.Points.length fun (a : Nat) => encL 1 encI_i64 (a0.Points.getD a default), encL 12 enc_RoadmapEdge a0.Edges]), aI (y_1.fst.Vertices.getD x.snd.toNat default), aI (x.fst.getD x.snd.toNat default)] [] (AVal.tup [aI y.fst, AVal.pure (PVal.bool y.snd)]) []) ∧ ((0 : Int) ≤ y.fst ∧ y.fst < (↑a0.Edges.length : Int) → ((0 : Int) ≤ y.fst ∧ y.fst < (↑a0.Edges.length : Int)) ∧ ((a0.Edges.getD y.fst.toNat default).State == (0 : Int)) = ((a0.Edges.getD y.fst.toNat default).State == (0 : Int)) ∧ (((a0.Edges.getD y.fst.toNat default).State == (0 : Int)) = true → (aS (aI y.fst) ∧ aS (AVal.pure (PVal.agg [encL 1 encI_i64 y_1.fst.Vertices, PVal.int IntKind.i64 y_1.fst.Cost])) ∧ aS (aI 3) ∧ True) ∧ True ∧ GuardFn Try.prog 52 ∧ True) ∧ (((a0.Edges.getD y.fst.toNat default).State == (0 : Int)) = false → (aS (AVal.ptr 0 0) ∧ aS (AVal.ptr 1 0) ∧ aS (AVal.ptr 2 0) ∧ aS (AVal.ptr 3 0) ∧ aS (AVal.pure (encL 1 encI_i64 x.fst)) ∧ aS (aI (↑((↑y_1.fst.Vertices.length : Int).toNat - 1) : Int)) ∧ aS (aI (IntKind.i64.wrap (x.snd + (1 : Int)))) ∧ True) ∧ (rS (Res.box [AVal.pure (PVal.lst 1 a0.Points.length fun (a : Nat) => encL 1 encI_i64 (a0.Points.getD a default)), AVal.pure (encL 12 enc_RoadmapEdge a0.Edges)]) ∧ rS (Res.box [aI 0]) ∧ rS (Res.box [AVal.pure (encL 1 encI_i64 y_1.fst.Vertices), aI y_1.fst.Cost]) ∧ rS (Res.box [aI 0]) ∧ True) ∧ aS (AVal.func 52 [] [AVal.ptr 1 0, AVal.ptr 2 0, AVal.ptr 3 0]) ∧ True)))) ∧ (decide (x.snd < (↑((↑y_1.fst.Vertices.length : Int).toNat - 1) : Int)) = false → (aS (AVal.ptr 1 0) ∧ aS (AVal.ptr 2 0) ∧ aS (AVal.ptr 3 0) ∧ True) ∧ (rS (Res.box [aI 0]) ∧ rS (Res.box [AVal.pure (encL 1 encI_i64 y_1.fst.Vertices), aI y_1.fst.Cost]) ∧ rS (Res.box [aI 0]) ∧ True) ∧ aS (AVal.func 52 [] [AVal.ptr 1 0, AVal.ptr 2 0, AVal.ptr 3 0]) ∧ True)) ∧ ∀ (_y : U0), (aS (aI (-1 : Int)) ∧ aS (AVal.pure (PVal.agg [encL 1 encI_i64 y_1.fst.Vertices, PVal.int IntKind.i64 y_1.fst.Cost])) ∧ aS (aI 1) ∧ True) ∧ True ∧ GuardFn Try.prog 52 ∧ True))) := by kernel_rfl


set_option maxHeartbeats 4000000 in
theorem search_Next_spec (hd : DrawSound Try.prog drawB) {N : Nat} {a0 : S_Roadmap} {a1 : Int} {a2 : Int} {r : (Int × S_Route × Int)} (h : search_Next_F N a0 a1 a2 = some r) : Spec Try.prog 38 0 [.pure (.agg [encL 1 (encL 1 encI_i64) a0.Points, encL 12 enc_RoadmapEdge a0.Edges]), .pure (.int .i64 a1), .pure (.int .i64 a2)] [] (.tup [.pure (.int .i64 r.1), .pure (.agg [encL 1 encI_i64 r.2.1.Vertices, .int .i64 r.2.1.Cost]), .pure (.int .i64 r.2.2)]) ([]) := by
  refine spec_ofT (n0 := 0) (res := fun r => .tup [.pure (.int .i64 r.1), .pure (.agg [encL 1 encI_i64 r.2.1.Vertices, .int .i64 r.2.1.Cost]), .pure (.int .i64 r.2.2)]) (m' := fun _ => []) (search_Next_T N a0 a1 a2) ((search_Next_run N a0 a1 a2).trans h) hd Try.func38 (by kernel_rfl) (by kernel_rfl) ?_
  rw [search_Next_vc]
  repeat' (first | exact trivial | exact ASub.refl _ | exact RSub.refl _ | exact search_wellFormed_spec hd (by assumption) | exact search_isPoint_spec hd (by assumption) | exact search_links_spec hd (by assumption) | exact search_shortest_spec hd (by assumption) | exact search_between_spec hd (by assumption) | exact guard52 | assumption | exact int_eq0 (by assumption) | exact of_decide_eq_true (by assumption) | exact of_decide_eq_false (by assumption) | rfl | (apply And.intro) | (intro _) | exact nl_a | exact ASub.tt rfl | exact ASub.ff rfl | exact mapR_upE rfl | exact RSub.nilv rfl rfl | exact RSub.gone | exact IsL.el | exact IsL.nl | exact IsL.lit (CSubs.of_eq rfl) rfl | refine IsL.lit ?_ rfl | exact IsL.rep (CSub.of_eq rfl) | refine IsL.a ?_ | refine IsL.r0 ?_ | refine IsLL.r ?_ | exact IsLL.el | exact IsLL.rep | refine IsLL.set ?_ ?_ | refine IsL.r ?_ ?_ | refine IsL.app ?_ ?_ | refine IsL.set ?_ (CSub.of_eq rfl) | refine IsL.set ?_ ?_ | exact IsL.sliceE (by omega) (by omega) | refine IsL.slice ?_ ?_ ?_ | exact IsL.take (by first | exact IsL.el | exact IsL.set IsL.el (CSub.of_eq rfl)) (by omega) | refine IsL.take ?_ ?_ | exact CSubs.nil' | refine CSubs.cons' ?_ ?_ | exact CSub.refl _ | exact nl_c | refine CSub.agg ?_ | refine IsL.c ?_ | exact PSubs.nil' | refine PSubs.cons' ?_ ?_ | exact PSub.refl _ | exact nl_p | refine IsL.p ?_ | refine (PSub.agg ?_).a | refine PSub.agg ?_ | refine ASub.agg ?_ | refine RSub.box ?_ | refine tup_a ?_ | refine ASub.p ?_ | omega)
end Go.Abs
