/-
  S4: what functions of the program compute, and their specifications (printed by a program of ours).
-/
import Derived.Test.YtjbncekcklkjaaaTBase
import Derived.Test.YtjbncekcklkjaaaChecked
import Derived.Test.YtjbncekcklkjaaaS1
import Derived.Test.YtjbncekcklkjaaaS2
import Derived.Test.YtjbncekcklkjaaaS3
namespace Go.Abs
open Go.Proofs


def law26_triangle_F (N : Nat) (a0 : Int) : Option S_Roadmap :=
  (make_Claim_F N a0).bind fun y4 =>
  (make_Claim_F N a0).bind fun y5 =>
  (make_Claim_F N a0).bind fun y6 =>
  some (⟨([([0] : (List Int)), ([1] : (List Int)), ([2] : (List Int))] : (List (List Int))), ([(⟨0, 1, 1, a0, y4⟩ : S_RoadmapEdge), (⟨0, 2, 3, a0, y5⟩ : S_RoadmapEdge), (⟨1, 2, 1, a0, y6⟩ : S_RoadmapEdge)] : (List S_RoadmapEdge))⟩ : S_Roadmap)

def law26_triangle_T (N : Nat) (a0 : Int) : T S_Roadmap :=
  .call (make_Claim_F N a0) (fun y4 => ⟨[], 0, [.pure (.int .i64 a0)], [], .pure (.agg [.int .i64 y4.Kind, encL 3 enc_Piece y4.Pieces, .int .i64 y4.At.Depth, .int .i64 y4.At.Index, encL 3 enc_arr_3_int64 y4.At.Normals, .int .i64 y4.Witness.Pair, encL 1 encI_i64 y4.Witness.Left, encL 1 encI_i64 y4.Witness.Right]), []⟩) fun y4 =>
  .call (make_Claim_F N a0) (fun y5 => ⟨[], 0, [.pure (.int .i64 a0)], [], .pure (.agg [.int .i64 y5.Kind, encL 3 enc_Piece y5.Pieces, .int .i64 y5.At.Depth, .int .i64 y5.At.Index, encL 3 enc_arr_3_int64 y5.At.Normals, .int .i64 y5.Witness.Pair, encL 1 encI_i64 y5.Witness.Left, encL 1 encI_i64 y5.Witness.Right]), []⟩) fun y5 =>
  .call (make_Claim_F N a0) (fun y6 => ⟨[], 0, [.pure (.int .i64 a0)], [], .pure (.agg [.int .i64 y6.Kind, encL 3 enc_Piece y6.Pieces, .int .i64 y6.At.Depth, .int .i64 y6.At.Index, encL 3 enc_arr_3_int64 y6.At.Normals, .int .i64 y6.Witness.Pair, encL 1 encI_i64 y6.Witness.Left, encL 1 encI_i64 y6.Witness.Right]), []⟩) fun y6 =>
  .ret (⟨([([0] : (List Int)), ([1] : (List Int)), ([2] : (List Int))] : (List (List Int))), ([(⟨0, 1, 1, a0, y4⟩ : S_RoadmapEdge), (⟨0, 2, 3, a0, y5⟩ : S_RoadmapEdge), (⟨1, 2, 1, a0, y6⟩ : S_RoadmapEdge)] : (List S_RoadmapEdge))⟩ : S_Roadmap)

theorem law26_triangle_run (N : Nat) (a0 : Int) : (law26_triangle_T N a0).run N = law26_triangle_F N a0 := by kernel_rfl

theorem law26_triangle_vc (N : Nat) (a0 : Int) : (vcFuncT Try.prog drawB Try.f39 (Try.f39.body.getD .skip) 0 0 (law26_triangle_T N a0) [.pure (.int .i64 a0)] [] (fun r => .pure (.agg [encL 1 (encL 1 encI_i64) r.Points, encL 12 enc_RoadmapEdge r.Edges])) (fun _ => [])) =
    (∀ (y : S_EdgeResult), make_Claim_F N a0 = some y → ((aS (aI a0) ∧ True) ∧ True ∧ Spec Try.prog 41 0 [aI a0] [] (AVal.pure (PVal.agg [PVal.int IntKind.i64 y.Kind, encL 3 enc_Piece y.Pieces, PVal.int IntKind.i64 y.At.Depth, PVal.int IntKind.i64 y.At.Index, encL 3 enc_arr_3_int64 y.At.Normals, PVal.int IntKind.i64 y.Witness.Pair, encL 1 encI_i64 y.Witness.Left, encL 1 encI_i64 y.Witness.Right])) []) ∧ ∀ (y_1 : S_EdgeResult), make_Claim_F N a0 = some y_1 → ((aS (aI a0) ∧ True) ∧ True ∧ Spec Try.prog 41 0 [aI a0] [] (AVal.pure (PVal.agg [PVal.int IntKind.i64 y_1.Kind, encL 3 enc_Piece y_1.Pieces, PVal.int IntKind.i64 y_1.At.Depth, PVal.int IntKind.i64 y_1.At.Index, encL 3 enc_arr_3_int64 y_1.At.Normals, PVal.int IntKind.i64 y_1.Witness.Pair, encL 1 encI_i64 y_1.Witness.Left, encL 1 encI_i64 y_1.Witness.Right])) []) ∧ ∀ (y_2 : S_EdgeResult), make_Claim_F N a0 = some y_2 → ((aS (aI a0) ∧ True) ∧ True ∧ Spec Try.prog 41 0 [aI a0] [] (AVal.pure (PVal.agg [PVal.int IntKind.i64 y_2.Kind, encL 3 enc_Piece y_2.Pieces, PVal.int IntKind.i64 y_2.At.Depth, PVal.int IntKind.i64 y_2.At.Index, encL 3 enc_arr_3_int64 y_2.At.Normals, PVal.int IntKind.i64 y_2.Witness.Pair, encL 1 encI_i64 y_2.Witness.Left, encL 1 encI_i64 y_2.Witness.Right])) []) ∧ (ASub (AVal.pure (PVal.agg [PVal.lst 1 3 fun (i : Nat) => lget [PVal.lst 1 1 (lget [PVal.int IntKind.i64 0]), PVal.lst 1 1 (lget [PVal.int IntKind.i64 1]), PVal.lst 1 1 (lget [PVal.int IntKind.i64 2])] i, PVal.lst 12 3 fun (i : Nat) => lget [PVal.agg [PVal.int IntKind.i64 0, PVal.int IntKind.i64 1, PVal.int IntKind.i64 1, PVal.int IntKind.i64 a0, PVal.int IntKind.i64 y.Kind, encL 3 enc_Piece y.Pieces, PVal.int IntKind.i64 y.At.Depth, PVal.int IntKind.i64 y.At.Index, encL 3 enc_arr_3_int64 y.At.Normals, PVal.int IntKind.i64 y.Witness.Pair, encL 1 encI_i64 y.Witness.Left, encL 1 encI_i64 y.Witness.Right], PVal.agg [PVal.int IntKind.i64 0, PVal.int IntKind.i64 2, PVal.int IntKind.i64 3, PVal.int IntKind.i64 a0, PVal.int IntKind.i64 y_1.Kind, encL 3 enc_Piece y_1.Pieces, PVal.int IntKind.i64 y_1.At.Depth, PVal.int IntKind.i64 y_1.At.Index, encL 3 enc_arr_3_int64 y_1.At.Normals, PVal.int IntKind.i64 y_1.Witness.Pair, encL 1 encI_i64 y_1.Witness.Left, encL 1 encI_i64 y_1.Witness.Right], PVal.agg [PVal.int IntKind.i64 1, PVal.int IntKind.i64 2, PVal.int IntKind.i64 1, PVal.int IntKind.i64 a0, PVal.int IntKind.i64 y_2.Kind, encL 3 enc_Piece y_2.Pieces, PVal.int IntKind.i64 y_2.At.Depth, PVal.int IntKind.i64 y_2.At.Index, encL 3 enc_arr_3_int64 y_2.At.Normals, PVal.int IntKind.i64 y_2.Witness.Pair, encL 1 encI_i64 y_2.Witness.Left, encL 1 encI_i64 y_2.Witness.Right]] i])) (AVal.pure (PVal.agg [encL 1 (encL 1 encI_i64) [[(0 : Int)], [(1 : Int)], [(2 : Int)]], encL 12 enc_RoadmapEdge [S_RoadmapEdge.mk (0 : Int) (1 : Int) (1 : Int) a0 y, S_RoadmapEdge.mk (0 : Int) (2 : Int) (3 : Int) a0 y_1, S_RoadmapEdge.mk (1 : Int) (2 : Int) (1 : Int) a0 y_2]])) ∧ True) ∧ True ∧ True) := by kernel_rfl


set_option maxHeartbeats 4000000 in
theorem law26_triangle_spec (hd : DrawSound Try.prog drawB) {N : Nat} {a0 : Int} {r : S_Roadmap} (h : law26_triangle_F N a0 = some r) : Spec Try.prog 39 0 [.pure (.int .i64 a0)] [] (.pure (.agg [encL 1 (encL 1 encI_i64) r.Points, encL 12 enc_RoadmapEdge r.Edges])) ([]) := by
  refine spec_ofT (n0 := 0) (res := fun r => .pure (.agg [encL 1 (encL 1 encI_i64) r.Points, encL 12 enc_RoadmapEdge r.Edges])) (m' := fun _ => []) (law26_triangle_T N a0) ((law26_triangle_run N a0).trans h) hd Try.func39 (by kernel_rfl) (by kernel_rfl) ?_
  rw [law26_triangle_vc]
  repeat' (first | exact trivial | exact ASub.refl _ | exact RSub.refl _ | exact make_Claim_spec hd (by assumption) | assumption | exact int_eq0 (by assumption) | exact of_decide_eq_true (by assumption) | exact of_decide_eq_false (by assumption) | rfl | (apply And.intro) | (intro _) | exact nl_a | exact ASub.tt rfl | exact ASub.ff rfl | exact mapR_upE rfl | exact RSub.nilv rfl rfl | exact RSub.gone | exact IsL.el | exact IsL.nl | exact IsL.lit (CSubs.of_eq rfl) rfl | refine IsL.lit ?_ rfl | exact IsL.rep (CSub.of_eq rfl) | refine IsL.a ?_ | refine IsL.r0 ?_ | refine IsLL.r ?_ | exact IsLL.el | exact IsLL.rep | refine IsLL.set ?_ ?_ | refine IsL.r ?_ ?_ | refine IsL.app ?_ ?_ | refine IsL.set ?_ (CSub.of_eq rfl) | refine IsL.set ?_ ?_ | exact IsL.sliceE (by omega) (by omega) | refine IsL.slice ?_ ?_ ?_ | exact IsL.take (by first | exact IsL.el | exact IsL.set IsL.el (CSub.of_eq rfl)) (by omega) | refine IsL.take ?_ ?_ | exact CSubs.nil' | refine CSubs.cons' ?_ ?_ | exact CSub.refl _ | exact nl_c | refine CSub.agg ?_ | refine IsL.c ?_ | exact PSubs.nil' | refine PSubs.cons' ?_ ?_ | exact PSub.refl _ | exact nl_p | refine IsL.p ?_ | refine (PSub.agg ?_).a | refine PSub.agg ?_ | refine ASub.agg ?_ | refine RSub.box ?_ | refine tup_a ?_ | refine ASub.p ?_ | omega)

def law26_awake_F (N : Nat) : Option Bool :=
  (law26_triangle_F N 0).bind fun y3 =>
  (search_Next_F N y3 0 2).bind fun y4 =>
  (law26_triangle_F N 1).bind fun y7 =>
  (search_Shortest_F N y7 0 2 0).bind fun y8 =>
  bif (y4.1 == 0) then
   bif (y4.2.2 == 3) then
    bif y8.2 then
     (make_SameRoute_F N y8.1 (⟨([0, 1, 2] : (List Int)), 2⟩ : S_Route)).bind fun y9 =>
     some y9
    else
     some false
   else
    some false
  else
   some false

def law26_awake_T (N : Nat) : T Bool :=
  .call (law26_triangle_F N 0) (fun y3 => ⟨[], 0, [.pure (.int .i64 0)], [], .pure (.agg [encL 1 (encL 1 encI_i64) y3.Points, encL 12 enc_RoadmapEdge y3.Edges]), []⟩) fun y3 =>
  .call (search_Next_F N y3 0 2) (fun y4 => ⟨[], 0, [.pure (.agg [encL 1 (encL 1 encI_i64) y3.Points, encL 12 enc_RoadmapEdge y3.Edges]), .pure (.int .i64 0), .pure (.int .i64 2)], [], .tup [.pure (.int .i64 y4.1), .pure (.agg [encL 1 encI_i64 y4.2.1.Vertices, .int .i64 y4.2.1.Cost]), .pure (.int .i64 y4.2.2)], []⟩) fun y4 =>
  .call (law26_triangle_F N 1) (fun y7 => ⟨[], 0, [.pure (.int .i64 1)], [], .pure (.agg [encL 1 (encL 1 encI_i64) y7.Points, encL 12 enc_RoadmapEdge y7.Edges]), []⟩) fun y7 =>
  .call (search_Shortest_F N y7 0 2 0) (fun y8 => ⟨[], 0, [.pure (.agg [encL 1 (encL 1 encI_i64) y7.Points, encL 12 enc_RoadmapEdge y7.Edges]), .pure (.int .i64 0), .pure (.int .i64 2), .pure (.int .i64 0)], [], .tup [.pure (.agg [encL 1 encI_i64 y8.1.Vertices, .int .i64 y8.1.Cost]), .pure (.bool y8.2)], []⟩) fun y8 =>
  .br (y4.1 == 0)
   (.br (y4.2.2 == 3)
    (.br y8.2
     (.call (make_SameRoute_F N y8.1 (⟨([0, 1, 2] : (List Int)), 2⟩ : S_Route)) (fun y9 => ⟨[], 0, [.pure (.agg [encL 1 encI_i64 y8.1.Vertices, .int .i64 y8.1.Cost]), .pure (.agg [encL 1 encI_i64 ((⟨([0, 1, 2] : (List Int)), 2⟩ : S_Route).Vertices), .int .i64 ((⟨([0, 1, 2] : (List Int)), 2⟩ : S_Route).Cost)])], [], .pure (.bool y9), []⟩) fun y9 =>
     .ret y9)
     (.ret false))
    (.ret false))
   (.ret false)

theorem law26_awake_run (N : Nat) : (law26_awake_T N).run N = law26_awake_F N := by kernel_rfl

theorem law26_awake_vc (N : Nat) : (vcFuncT Try.prog drawB Try.f21 (Try.f21.body.getD .skip) 0 0 (law26_awake_T N) [] [] (fun r => .pure (.bool r)) (fun _ => [])) =
    (∀ (y : S_Roadmap), law26_triangle_F N (0 : Int) = some y → ((aS (aI 0) ∧ True) ∧ True ∧ Spec Try.prog 39 0 [aI 0] [] (AVal.pure (PVal.agg [encL 1 (encL 1 encI_i64) y.Points, encL 12 enc_RoadmapEdge y.Edges])) []) ∧ ∀ (y_1 : Int × S_Route × Int), search_Next_F N y (0 : Int) (2 : Int) = some y_1 → ((aS (AVal.pure (PVal.agg [encL 1 (encL 1 encI_i64) y.Points, encL 12 enc_RoadmapEdge y.Edges])) ∧ aS (aI 0) ∧ aS (aI 2) ∧ True) ∧ True ∧ Spec Try.prog 38 0 [AVal.pure (PVal.agg [encL 1 (encL 1 encI_i64) y.Points, encL 12 enc_RoadmapEdge y.Edges]), aI 0, aI 2] [] (AVal.tup [aI y_1.fst, AVal.pure (PVal.agg [encL 1 encI_i64 y_1.snd.fst.Vertices, PVal.int IntKind.i64 y_1.snd.fst.Cost]), aI y_1.snd.snd]) []) ∧ ∀ (y : S_Roadmap), law26_triangle_F N (1 : Int) = some y → ((aS (aI 1) ∧ True) ∧ True ∧ Spec Try.prog 39 0 [aI 1] [] (AVal.pure (PVal.agg [encL 1 (encL 1 encI_i64) y.Points, encL 12 enc_RoadmapEdge y.Edges])) []) ∧ ∀ (y_2 : S_Route × Bool), search_Shortest_F N y (0 : Int) (2 : Int) (0 : Int) = some y_2 → ((aS (AVal.pure (PVal.agg [encL 1 (encL 1 encI_i64) y.Points, encL 12 enc_RoadmapEdge y.Edges])) ∧ aS (aI 0) ∧ aS (aI 2) ∧ aS (aI 0) ∧ True) ∧ True ∧ Spec Try.prog 26 0 [AVal.pure (PVal.agg [encL 1 (encL 1 encI_i64) y.Points, encL 12 enc_RoadmapEdge y.Edges]), aI 0, aI 2, aI 0] [] (AVal.tup [AVal.pure (PVal.agg [encL 1 encI_i64 y_2.fst.Vertices, PVal.int IntKind.i64 y_2.fst.Cost]), AVal.pure (PVal.bool y_2.snd)]) []) ∧ (y_1.fst == (0 : Int)) = (y_1.fst == (0 : Int)) ∧ ((y_1.fst == (0 : Int)) = true → (y_1.snd.snd == (3 : Int)) = (y_1.snd.snd == (3 : Int)) ∧ ((y_1.snd.snd == (3 : Int)) = true → y_2.snd = y_2.snd ∧ (y_2.snd = true → ∀ (y : Bool), make_SameRoute_F N y_2.fst (S_Route.mk [(0 : Int), (1 : Int), (2 : Int)] (2 : Int)) = some y → ((aS (AVal.pure (PVal.agg [encL 1 encI_i64 y_2.fst.Vertices, PVal.int IntKind.i64 y_2.fst.Cost])) ∧ ASub (AVal.pure (PVal.agg [PVal.lst 1 3 fun (i : Nat) => lget [PVal.int IntKind.i64 0, PVal.int IntKind.i64 1, PVal.int IntKind.i64 2] i, PVal.int IntKind.i64 2])) (AVal.pure (PVal.agg [encL 1 encI_i64 [(0 : Int), (1 : Int), (2 : Int)], PVal.int IntKind.i64 2])) ∧ True) ∧ True ∧ Spec Try.prog 40 0 [AVal.pure (PVal.agg [encL 1 encI_i64 y_2.fst.Vertices, PVal.int IntKind.i64 y_2.fst.Cost]), AVal.pure (PVal.agg [encL 1 encI_i64 [(0 : Int), (1 : Int), (2 : Int)], PVal.int IntKind.i64 2])] [] (AVal.pure (PVal.bool y)) []) ∧ (aS (AVal.pure (PVal.bool y)) ∧ True) ∧ True ∧ True) ∧ (y_2.snd = false → (aS (AVal.pure (PVal.bool false)) ∧ True) ∧ True ∧ True)) ∧ ((y_1.snd.snd == (3 : Int)) = false → (aS (AVal.pure (PVal.bool false)) ∧ True) ∧ True ∧ True)) ∧ ((y_1.fst == (0 : Int)) = false → (aS (AVal.pure (PVal.bool false)) ∧ True) ∧ True ∧ True)) := by kernel_rfl


set_option maxHeartbeats 4000000 in
theorem law26_awake_spec (hd : DrawSound Try.prog drawB) {N : Nat} {r : Bool} (h : law26_awake_F N = some r) : Spec Try.prog 21 0 [] [] (.pure (.bool r)) ([]) := by
  refine spec_ofT (n0 := 0) (res := fun r => .pure (.bool r)) (m' := fun _ => []) (law26_awake_T N) ((law26_awake_run N).trans h) hd Try.func21 (by kernel_rfl) (by kernel_rfl) ?_
  rw [law26_awake_vc]
  repeat' (first | exact trivial | exact ASub.refl _ | exact RSub.refl _ | exact law26_triangle_spec hd (by assumption) | exact search_Next_spec hd (by assumption) | exact search_Shortest_spec hd (by assumption) | exact make_SameRoute_spec hd (by assumption) | assumption | exact int_eq0 (by assumption) | exact of_decide_eq_true (by assumption) | exact of_decide_eq_false (by assumption) | rfl | (apply And.intro) | (intro _) | exact nl_a | exact ASub.tt rfl | exact ASub.ff rfl | exact mapR_upE rfl | exact RSub.nilv rfl rfl | exact RSub.gone | exact IsL.el | exact IsL.nl | exact IsL.lit (CSubs.of_eq rfl) rfl | refine IsL.lit ?_ rfl | exact IsL.rep (CSub.of_eq rfl) | refine IsL.a ?_ | refine IsL.r0 ?_ | refine IsLL.r ?_ | exact IsLL.el | exact IsLL.rep | refine IsLL.set ?_ ?_ | refine IsL.r ?_ ?_ | refine IsL.app ?_ ?_ | refine IsL.set ?_ (CSub.of_eq rfl) | refine IsL.set ?_ ?_ | exact IsL.sliceE (by omega) (by omega) | refine IsL.slice ?_ ?_ ?_ | exact IsL.take (by first | exact IsL.el | exact IsL.set IsL.el (CSub.of_eq rfl)) (by omega) | refine IsL.take ?_ ?_ | exact CSubs.nil' | refine CSubs.cons' ?_ ?_ | exact CSub.refl _ | exact nl_c | refine CSub.agg ?_ | refine IsL.c ?_ | exact PSubs.nil' | refine PSubs.cons' ?_ ?_ | exact PSub.refl _ | exact nl_p | refine IsL.p ?_ | refine (PSub.agg ?_).a | refine PSub.agg ?_ | refine ASub.agg ?_ | refine RSub.box ?_ | refine tup_a ?_ | refine ASub.p ?_ | omega)

def law26_shortest_F (N : Nat) (a0 : S_Roadmap) (a1 : Int) (a2 : Int) (a3 : Int) : Option Bool :=
  (search_Shortest_F N a0 a1 a2 a3).bind fun y2 =>
  (ref23_Shortest_F N a0 a1 a2 a3).bind fun y4 =>
  bif (y2.2 == y4.2) then
   (make_SameRoute_F N y2.1 y4.1).bind fun y5 =>
   some y5
  else
   some false

def law26_shortest_T (N : Nat) (a0 : S_Roadmap) (a1 : Int) (a2 : Int) (a3 : Int) : T Bool :=
  .call (search_Shortest_F N a0 a1 a2 a3) (fun y2 => ⟨[], 0, [.pure (.agg [encL 1 (encL 1 encI_i64) a0.Points, encL 12 enc_RoadmapEdge a0.Edges]), .pure (.int .i64 a1), .pure (.int .i64 a2), .pure (.int .i64 a3)], [], .tup [.pure (.agg [encL 1 encI_i64 y2.1.Vertices, .int .i64 y2.1.Cost]), .pure (.bool y2.2)], []⟩) fun y2 =>
  .call (ref23_Shortest_F N a0 a1 a2 a3) (fun y4 => ⟨[], 0, [.pure (.agg [encL 1 (encL 1 encI_i64) a0.Points, encL 12 enc_RoadmapEdge a0.Edges]), .pure (.int .i64 a1), .pure (.int .i64 a2), .pure (.int .i64 a3)], [], .tup [.pure (.agg [encL 1 encI_i64 y4.1.Vertices, .int .i64 y4.1.Cost]), .pure (.bool y4.2)], []⟩) fun y4 =>
  .br (y2.2 == y4.2)
   (.call (make_SameRoute_F N y2.1 y4.1) (fun y5 => ⟨[], 0, [.pure (.agg [encL 1 encI_i64 y2.1.Vertices, .int .i64 y2.1.Cost]), .pure (.agg [encL 1 encI_i64 y4.1.Vertices, .int .i64 y4.1.Cost])], [], .pure (.bool y5), []⟩) fun y5 =>
   .ret y5)
   (.ret false)

theorem law26_shortest_run (N : Nat) (a0 : S_Roadmap) (a1 : Int) (a2 : Int) (a3 : Int) : (law26_shortest_T N a0 a1 a2 a3).run N = law26_shortest_F N a0 a1 a2 a3 := by kernel_rfl

theorem law26_shortest_vc (N : Nat) (a0 : S_Roadmap) (a1 : Int) (a2 : Int) (a3 : Int) : (vcFuncT Try.prog drawB Try.f24 (Try.f24.body.getD .skip) 0 0 (law26_shortest_T N a0 a1 a2 a3) [.pure (.agg [encL 1 (encL 1 encI_i64) a0.Points, encL 12 enc_RoadmapEdge a0.Edges]), .pure (.int .i64 a1), .pure (.int .i64 a2), .pure (.int .i64 a3)] [] (fun r => .pure (.bool r)) (fun _ => [])) =
    (∀ (y : S_Route × Bool), search_Shortest_F N a0 a1 a2 a3 = some y → ((aS (AVal.pure (PVal.agg [encL 1 (encL 1 encI_i64) a0.Points, encL 12 enc_RoadmapEdge a0.Edges])) ∧ aS (aI a1) ∧ aS (aI a2) ∧ aS (aI a3) ∧ True) ∧ True ∧ Spec Try.prog 26 0 [AVal.pure (PVal.agg [encL 1 (encL 1 encI_i64) a0.Points, encL 12 enc_RoadmapEdge a0.Edges]), aI a1, aI a2, aI a3] [] (AVal.tup [AVal.pure (PVal.agg [encL 1 encI_i64 y.fst.Vertices, PVal.int IntKind.i64 y.fst.Cost]), AVal.pure (PVal.bool y.snd)]) []) ∧ ∀ (y_1 : S_Route × Bool), ref23_Shortest_F N a0 a1 a2 a3 = some y_1 → ((aS (AVal.pure (PVal.agg [encL 1 (encL 1 encI_i64) a0.Points, encL 12 enc_RoadmapEdge a0.Edges])) ∧ aS (aI a1) ∧ aS (aI a2) ∧ aS (aI a3) ∧ True) ∧ True ∧ Spec Try.prog 42 0 [AVal.pure (PVal.agg [encL 1 (encL 1 encI_i64) a0.Points, encL 12 enc_RoadmapEdge a0.Edges]), aI a1, aI a2, aI a3] [] (AVal.tup [AVal.pure (PVal.agg [encL 1 encI_i64 y_1.fst.Vertices, PVal.int IntKind.i64 y_1.fst.Cost]), AVal.pure (PVal.bool y_1.snd)]) []) ∧ (y.snd == y_1.snd) = (y.snd == y_1.snd) ∧ ((y.snd == y_1.snd) = true → ∀ (y_2 : Bool), make_SameRoute_F N y.fst y_1.fst = some y_2 → ((aS (AVal.pure (PVal.agg [encL 1 encI_i64 y.fst.Vertices, PVal.int IntKind.i64 y.fst.Cost])) ∧ aS (AVal.pure (PVal.agg [encL 1 encI_i64 y_1.fst.Vertices, PVal.int IntKind.i64 y_1.fst.Cost])) ∧ True) ∧ True ∧ Spec Try.prog 40 0 [AVal.pure (PVal.agg [encL 1 encI_i64 y.fst.Vertices, PVal.int IntKind.i64 y.fst.Cost]), AVal.pure (PVal.agg [encL 1 encI_i64 y_1.fst.Vertices, PVal.int IntKind.i64 y_1.fst.Cost])] [] (AVal.pure (PVal.bool y_2)) []) ∧ (aS (AVal.pure (PVal.bool y_2)) ∧ True) ∧ True ∧ True) ∧ ((y.snd == y_1.snd) = false → (aS (AVal.pure (PVal.bool false)) ∧ True) ∧ True ∧ True)) := by kernel_rfl


set_option maxHeartbeats 4000000 in
theorem law26_shortest_spec (hd : DrawSound Try.prog drawB) {N : Nat} {a0 : S_Roadmap} {a1 : Int} {a2 : Int} {a3 : Int} {r : Bool} (h : law26_shortest_F N a0 a1 a2 a3 = some r) : Spec Try.prog 24 0 [.pure (.agg [encL 1 (encL 1 encI_i64) a0.Points, encL 12 enc_RoadmapEdge a0.Edges]), .pure (.int .i64 a1), .pure (.int .i64 a2), .pure (.int .i64 a3)] [] (.pure (.bool r)) ([]) := by
  refine spec_ofT (n0 := 0) (res := fun r => .pure (.bool r)) (m' := fun _ => []) (law26_shortest_T N a0 a1 a2 a3) ((law26_shortest_run N a0 a1 a2 a3).trans h) hd Try.func24 (by kernel_rfl) (by kernel_rfl) ?_
  rw [law26_shortest_vc]
  repeat' (first | exact trivial | exact ASub.refl _ | exact RSub.refl _ | exact search_Shortest_spec hd (by assumption) | exact ref23_Shortest_spec hd (by assumption) | exact make_SameRoute_spec hd (by assumption) | assumption | exact int_eq0 (by assumption) | exact of_decide_eq_true (by assumption) | exact of_decide_eq_false (by assumption) | rfl | (apply And.intro) | (intro _) | exact nl_a | exact ASub.tt rfl | exact ASub.ff rfl | exact mapR_upE rfl | exact RSub.nilv rfl rfl | exact RSub.gone | exact IsL.el | exact IsL.nl | exact IsL.lit (CSubs.of_eq rfl) rfl | refine IsL.lit ?_ rfl | exact IsL.rep (CSub.of_eq rfl) | refine IsL.a ?_ | refine IsL.r0 ?_ | refine IsLL.r ?_ | exact IsLL.el | exact IsLL.rep | refine IsLL.set ?_ ?_ | refine IsL.r ?_ ?_ | refine IsL.app ?_ ?_ | refine IsL.set ?_ (CSub.of_eq rfl) | refine IsL.set ?_ ?_ | exact IsL.sliceE (by omega) (by omega) | refine IsL.slice ?_ ?_ ?_ | exact IsL.take (by first | exact IsL.el | exact IsL.set IsL.el (CSub.of_eq rfl)) (by omega) | refine IsL.take ?_ ?_ | exact CSubs.nil' | refine CSubs.cons' ?_ ?_ | exact CSub.refl _ | exact nl_c | refine CSub.agg ?_ | refine IsL.c ?_ | exact PSubs.nil' | refine PSubs.cons' ?_ ?_ | exact PSub.refl _ | exact nl_p | refine IsL.p ?_ | refine (PSub.agg ?_).a | refine PSub.agg ?_ | refine ASub.agg ?_ | refine RSub.box ?_ | refine tup_a ?_ | refine ASub.p ?_ | omega)

def law26_SearchShortest_F (N : Nat) (a0 : S_Roadmap) (a1 : Int) (a2 : Int) (a3 : Int) (a4 : (List Int)) : Option Bool :=
  (make_SmallMap_F N (⟨a0.Points, a0.Edges⟩ : S_Roadmap)).bind fun y5 =>
  bif (!y5) then
   (law26_awake_F N).bind fun y6 =>
   some y6
  else
   (make_Graph_F N a4).bind fun y8 =>
   (make_Round_F N a1 (IntKind.i64.wrap (((y8.Points.length : Nat) : Int) + 2))).bind fun y12 =>
   (make_Round_F N a2 ((y8.Points.length : Nat) : Int)).bind fun y13 =>
   (make_Round_F N a3 5).bind fun y14 =>
   (law26_awake_F N).bind fun y15 =>
   bif y15 then
    (law26_shortest_F N a0 a1 a2 a3).bind fun y16 =>
    bif y16 then
     (make_Round_F N a1 5).bind fun y17 =>
     (make_Round_F N a2 5).bind fun y18 =>
     (law26_shortest_F N a0 y17 y18 (IntKind.i64.wrap (y14 - 1))).bind fun y19 =>
     bif y19 then
      (law26_shortest_F N y8 (IntKind.i64.wrap (y12 - 1)) y13 (IntKind.i64.wrap (y14 - 1))).bind fun y20 =>
      some y20
     else
      some false
    else
     some false
   else
    some false

def law26_SearchShortest_T (N : Nat) (a0 : S_Roadmap) (a1 : Int) (a2 : Int) (a3 : Int) (a4 : (List Int)) : T Bool :=
  .call (make_SmallMap_F N (⟨a0.Points, a0.Edges⟩ : S_Roadmap)) (fun y5 => ⟨[], 0, [.pure (.agg [encL 1 (encL 1 encI_i64) ((⟨a0.Points, a0.Edges⟩ : S_Roadmap).Points), encL 12 enc_RoadmapEdge ((⟨a0.Points, a0.Edges⟩ : S_Roadmap).Edges)])], [], .pure (.bool y5), []⟩) fun y5 =>
  .br (!y5)
   (.call (law26_awake_F N) (fun y6 => ⟨[], 0, [], [], .pure (.bool y6), []⟩) fun y6 =>
   .ret y6)
   (.call (make_Graph_F N a4) (fun y8 => ⟨[], 0, [.pure (encL 1 encI_i64 a4)], [], .pure (.agg [encL 1 (encL 1 encI_i64) y8.Points, encL 12 enc_RoadmapEdge y8.Edges]), []⟩) fun y8 =>
   .call (make_Round_F N a1 (IntKind.i64.wrap (((y8.Points.length : Nat) : Int) + 2))) (fun y12 => ⟨[], 0, [.pure (.int .i64 a1), .pure (.int .i64 (IntKind.i64.wrap (((y8.Points.length : Nat) : Int) + 2)))], [], .pure (.int .i64 y12), []⟩) fun y12 =>
   .call (make_Round_F N a2 ((y8.Points.length : Nat) : Int)) (fun y13 => ⟨[], 0, [.pure (.int .i64 a2), .pure (.int .i64 ((y8.Points.length : Nat) : Int))], [], .pure (.int .i64 y13), []⟩) fun y13 =>
   .call (make_Round_F N a3 5) (fun y14 => ⟨[], 0, [.pure (.int .i64 a3), .pure (.int .i64 5)], [], .pure (.int .i64 y14), []⟩) fun y14 =>
   .call (law26_awake_F N) (fun y15 => ⟨[], 0, [], [], .pure (.bool y15), []⟩) fun y15 =>
   .br y15
    (.call (law26_shortest_F N a0 a1 a2 a3) (fun y16 => ⟨[], 0, [.pure (.agg [encL 1 (encL 1 encI_i64) a0.Points, encL 12 enc_RoadmapEdge a0.Edges]), .pure (.int .i64 a1), .pure (.int .i64 a2), .pure (.int .i64 a3)], [], .pure (.bool y16), []⟩) fun y16 =>
    .br y16
     (.call (make_Round_F N a1 5) (fun y17 => ⟨[], 0, [.pure (.int .i64 a1), .pure (.int .i64 5)], [], .pure (.int .i64 y17), []⟩) fun y17 =>
     .call (make_Round_F N a2 5) (fun y18 => ⟨[], 0, [.pure (.int .i64 a2), .pure (.int .i64 5)], [], .pure (.int .i64 y18), []⟩) fun y18 =>
     .call (law26_shortest_F N a0 y17 y18 (IntKind.i64.wrap (y14 - 1))) (fun y19 => ⟨[], 0, [.pure (.agg [encL 1 (encL 1 encI_i64) a0.Points, encL 12 enc_RoadmapEdge a0.Edges]), .pure (.int .i64 y17), .pure (.int .i64 y18), .pure (.int .i64 (IntKind.i64.wrap (y14 - 1)))], [], .pure (.bool y19), []⟩) fun y19 =>
     .br y19
      (.call (law26_shortest_F N y8 (IntKind.i64.wrap (y12 - 1)) y13 (IntKind.i64.wrap (y14 - 1))) (fun y20 => ⟨[], 0, [.pure (.agg [encL 1 (encL 1 encI_i64) y8.Points, encL 12 enc_RoadmapEdge y8.Edges]), .pure (.int .i64 (IntKind.i64.wrap (y12 - 1))), .pure (.int .i64 y13), .pure (.int .i64 (IntKind.i64.wrap (y14 - 1)))], [], .pure (.bool y20), []⟩) fun y20 =>
      .ret y20)
      (.ret false))
     (.ret false))
    (.ret false))

theorem law26_SearchShortest_run (N : Nat) (a0 : S_Roadmap) (a1 : Int) (a2 : Int) (a3 : Int) (a4 : (List Int)) : (law26_SearchShortest_T N a0 a1 a2 a3 a4).run N = law26_SearchShortest_F N a0 a1 a2 a3 a4 := by kernel_rfl

theorem law26_SearchShortest_vc (N : Nat) (a0 : S_Roadmap) (a1 : Int) (a2 : Int) (a3 : Int) (a4 : (List Int)) : (vcFuncT Try.prog drawB Try.f6 (Try.f6.body.getD .skip) 0 0 (law26_SearchShortest_T N a0 a1 a2 a3 a4) [.pure (.agg [encL 1 (encL 1 encI_i64) a0.Points, encL 12 enc_RoadmapEdge a0.Edges]), .pure (.int .i64 a1), .pure (.int .i64 a2), .pure (.int .i64 a3), .pure (encL 1 encI_i64 a4)] [] (fun r => .pure (.bool r)) (fun _ => [])) =
    (∀ (y : Bool), make_SmallMap_F N (S_Roadmap.mk a0.Points a0.Edges) = some y → ((aS (AVal.pure (PVal.agg [encL 1 (encL 1 encI_i64) a0.Points, encL 12 enc_RoadmapEdge a0.Edges])) ∧ True) ∧ True ∧ Spec Try.prog 20 0 [AVal.pure (PVal.agg [encL 1 (encL 1 encI_i64) a0.Points, encL 12 enc_RoadmapEdge a0.Edges])] [] (AVal.pure (PVal.bool y)) []) ∧ (!y) = !y ∧ ((!y) = true → ∀ (y : Bool), law26_awake_F N = some y → (True ∧ True ∧ Spec Try.prog 21 0 [] [] (AVal.pure (PVal.bool y)) []) ∧ (aS (AVal.pure (PVal.bool y)) ∧ True) ∧ True ∧ True) ∧ ((!y) = false → ∀ (y : S_Roadmap), make_Graph_F N a4 = some y → ((aS (AVal.pure (encL 1 encI_i64 a4)) ∧ True) ∧ True ∧ Spec Try.prog 22 0 [AVal.pure (encL 1 encI_i64 a4)] [] (AVal.pure (PVal.agg [encL 1 (encL 1 encI_i64) y.Points, encL 12 enc_RoadmapEdge y.Edges])) []) ∧ ∀ (y_1 : Int), make_Round_F N a1 (IntKind.i64.wrap ((↑y.Points.length : Int) + (2 : Int))) = some y_1 → ((aS (aI a1) ∧ aS (aI (IntKind.i64.wrap ((↑y.Points.length : Int) + (2 : Int)))) ∧ True) ∧ True ∧ Spec Try.prog 23 0 [aI a1, aI (IntKind.i64.wrap ((↑y.Points.length : Int) + (2 : Int)))] [] (aI y_1) []) ∧ ∀ (y_2 : Int), make_Round_F N a2 (↑y.Points.length : Int) = some y_2 → ((aS (aI a2) ∧ aS (aI (↑y.Points.length : Int)) ∧ True) ∧ True ∧ Spec Try.prog 23 0 [aI a2, aI (↑y.Points.length : Int)] [] (aI y_2) []) ∧ ∀ (y_3 : Int), make_Round_F N a3 (5 : Int) = some y_3 → ((aS (aI a3) ∧ aS (aI 5) ∧ True) ∧ True ∧ Spec Try.prog 23 0 [aI a3, aI 5] [] (aI y_3) []) ∧ ∀ (y_4 : Bool), law26_awake_F N = some y_4 → (True ∧ True ∧ Spec Try.prog 21 0 [] [] (AVal.pure (PVal.bool y_4)) []) ∧ y_4 = y_4 ∧ (y_4 = true → ∀ (y_5 : Bool), law26_shortest_F N a0 a1 a2 a3 = some y_5 → ((aS (AVal.pure (PVal.agg [encL 1 (encL 1 encI_i64) a0.Points, encL 12 enc_RoadmapEdge a0.Edges])) ∧ aS (aI a1) ∧ aS (aI a2) ∧ aS (aI a3) ∧ True) ∧ True ∧ Spec Try.prog 24 0 [AVal.pure (PVal.agg [encL 1 (encL 1 encI_i64) a0.Points, encL 12 enc_RoadmapEdge a0.Edges]), aI a1, aI a2, aI a3] [] (AVal.pure (PVal.bool y_5)) []) ∧ y_5 = y_5 ∧ (y_5 = true → ∀ (y_6 : Int), make_Round_F N a1 (5 : Int) = some y_6 → ((aS (aI a1) ∧ aS (aI 5) ∧ True) ∧ True ∧ Spec Try.prog 23 0 [aI a1, aI 5] [] (aI y_6) []) ∧ ∀ (y_7 : Int), make_Round_F N a2 (5 : Int) = some y_7 → ((aS (aI a2) ∧ aS (aI 5) ∧ True) ∧ True ∧ Spec Try.prog 23 0 [aI a2, aI 5] [] (aI y_7) []) ∧ ∀ (y_8 : Bool), law26_shortest_F N a0 y_6 y_7 (IntKind.i64.wrap (y_3 - (1 : Int))) = some y_8 → ((aS (AVal.pure (PVal.agg [encL 1 (encL 1 encI_i64) a0.Points, encL 12 enc_RoadmapEdge a0.Edges])) ∧ aS (aI y_6) ∧ aS (aI y_7) ∧ aS (aI (IntKind.i64.wrap (y_3 - (1 : Int)))) ∧ True) ∧ True ∧ Spec Try.prog 24 0 [AVal.pure (PVal.agg [encL 1 (encL 1 encI_i64) a0.Points, encL 12 enc_RoadmapEdge a0.Edges]), aI y_6, aI y_7, aI (IntKind.i64.wrap (y_3 - (1 : Int)))] [] (AVal.pure (PVal.bool y_8)) []) ∧ y_8 = y_8 ∧ (y_8 = true → ∀ (y_9 : Bool), law26_shortest_F N y (IntKind.i64.wrap (y_1 - (1 : Int))) y_2 (IntKind.i64.wrap (y_3 - (1 : Int))) = some y_9 → ((aS (AVal.pure (PVal.agg [encL 1 (encL 1 encI_i64) y.Points, encL 12 enc_RoadmapEdge y.Edges])) ∧ aS (aI (IntKind.i64.wrap (y_1 - (1 : Int)))) ∧ aS (aI y_2) ∧ aS (aI (IntKind.i64.wrap (y_3 - (1 : Int)))) ∧ True) ∧ True ∧ Spec Try.prog 24 0 [AVal.pure (PVal.agg [encL 1 (encL 1 encI_i64) y.Points, encL 12 enc_RoadmapEdge y.Edges]), aI (IntKind.i64.wrap (y_1 - (1 : Int))), aI y_2, aI (IntKind.i64.wrap (y_3 - (1 : Int)))] [] (AVal.pure (PVal.bool y_9)) []) ∧ (aS (AVal.pure (PVal.bool y_9)) ∧ True) ∧ True ∧ True) ∧ (y_8 = false → (aS (AVal.pure (PVal.bool false)) ∧ True) ∧ True ∧ True)) ∧ (y_5 = false → (aS (AVal.pure (PVal.bool false)) ∧ True) ∧ True ∧ True)) ∧ (y_4 = false → (aS (AVal.pure (PVal.bool false)) ∧ True) ∧ True ∧ True))) := by kernel_rfl


set_option maxHeartbeats 4000000 in
theorem law26_SearchShortest_spec (hd : DrawSound Try.prog drawB) {N : Nat} {a0 : S_Roadmap} {a1 : Int} {a2 : Int} {a3 : Int} {a4 : (List Int)} {r : Bool} (h : law26_SearchShortest_F N a0 a1 a2 a3 a4 = some r) : Spec Try.prog 6 0 [.pure (.agg [encL 1 (encL 1 encI_i64) a0.Points, encL 12 enc_RoadmapEdge a0.Edges]), .pure (.int .i64 a1), .pure (.int .i64 a2), .pure (.int .i64 a3), .pure (encL 1 encI_i64 a4)] [] (.pure (.bool r)) ([]) := by
  refine spec_ofT (n0 := 0) (res := fun r => .pure (.bool r)) (m' := fun _ => []) (law26_SearchShortest_T N a0 a1 a2 a3 a4) ((law26_SearchShortest_run N a0 a1 a2 a3 a4).trans h) hd Try.func6 (by kernel_rfl) (by kernel_rfl) ?_
  rw [law26_SearchShortest_vc]
  repeat' (first | exact trivial | exact ASub.refl _ | exact RSub.refl _ | exact make_SmallMap_spec hd (by assumption) | exact law26_awake_spec hd (by assumption) | exact make_Graph_spec hd (by assumption) | exact make_Round_spec hd (by assumption) | exact law26_shortest_spec hd (by assumption) | assumption | exact int_eq0 (by assumption) | exact of_decide_eq_true (by assumption) | exact of_decide_eq_false (by assumption) | rfl | (apply And.intro) | (intro _) | exact nl_a | exact ASub.tt rfl | exact ASub.ff rfl | exact mapR_upE rfl | exact RSub.nilv rfl rfl | exact RSub.gone | exact IsL.el | exact IsL.nl | exact IsL.lit (CSubs.of_eq rfl) rfl | refine IsL.lit ?_ rfl | exact IsL.rep (CSub.of_eq rfl) | refine IsL.a ?_ | refine IsL.r0 ?_ | refine IsLL.r ?_ | exact IsLL.el | exact IsLL.rep | refine IsLL.set ?_ ?_ | refine IsL.r ?_ ?_ | refine IsL.app ?_ ?_ | refine IsL.set ?_ (CSub.of_eq rfl) | refine IsL.set ?_ ?_ | exact IsL.sliceE (by omega) (by omega) | refine IsL.slice ?_ ?_ ?_ | exact IsL.take (by first | exact IsL.el | exact IsL.set IsL.el (CSub.of_eq rfl)) (by omega) | refine IsL.take ?_ ?_ | exact CSubs.nil' | refine CSubs.cons' ?_ ?_ | exact CSub.refl _ | exact nl_c | refine CSub.agg ?_ | refine IsL.c ?_ | exact PSubs.nil' | refine PSubs.cons' ?_ ?_ | exact PSub.refl _ | exact nl_p | refine IsL.p ?_ | refine (PSub.agg ?_).a | refine PSub.agg ?_ | refine ASub.agg ?_ | refine RSub.box ?_ | refine tup_a ?_ | refine ASub.p ?_ | omega)

def law26_next_F (N : Nat) (a0 : S_Roadmap) (a1 : Int) (a2 : Int) : Option Bool :=
  (search_Next_F N a0 a1 a2).bind fun y2 =>
  (ref23_Next_F N a0 a1 a2).bind fun y4 =>
  bif (y2.1 == y4.1) then
   bif (y2.2.2 == y4.2.2) then
    (make_SameRoute_F N y2.2.1 y4.2.1).bind fun y5 =>
    some y5
   else
    some false
  else
   some false

def law26_next_T (N : Nat) (a0 : S_Roadmap) (a1 : Int) (a2 : Int) : T Bool :=
  .call (search_Next_F N a0 a1 a2) (fun y2 => ⟨[], 0, [.pure (.agg [encL 1 (encL 1 encI_i64) a0.Points, encL 12 enc_RoadmapEdge a0.Edges]), .pure (.int .i64 a1), .pure (.int .i64 a2)], [], .tup [.pure (.int .i64 y2.1), .pure (.agg [encL 1 encI_i64 y2.2.1.Vertices, .int .i64 y2.2.1.Cost]), .pure (.int .i64 y2.2.2)], []⟩) fun y2 =>
  .call (ref23_Next_F N a0 a1 a2) (fun y4 => ⟨[], 0, [.pure (.agg [encL 1 (encL 1 encI_i64) a0.Points, encL 12 enc_RoadmapEdge a0.Edges]), .pure (.int .i64 a1), .pure (.int .i64 a2)], [], .tup [.pure (.int .i64 y4.1), .pure (.agg [encL 1 encI_i64 y4.2.1.Vertices, .int .i64 y4.2.1.Cost]), .pure (.int .i64 y4.2.2)], []⟩) fun y4 =>
  .br (y2.1 == y4.1)
   (.br (y2.2.2 == y4.2.2)
    (.call (make_SameRoute_F N y2.2.1 y4.2.1) (fun y5 => ⟨[], 0, [.pure (.agg [encL 1 encI_i64 y2.2.1.Vertices, .int .i64 y2.2.1.Cost]), .pure (.agg [encL 1 encI_i64 y4.2.1.Vertices, .int .i64 y4.2.1.Cost])], [], .pure (.bool y5), []⟩) fun y5 =>
    .ret y5)
    (.ret false))
   (.ret false)

theorem law26_next_run (N : Nat) (a0 : S_Roadmap) (a1 : Int) (a2 : Int) : (law26_next_T N a0 a1 a2).run N = law26_next_F N a0 a1 a2 := by kernel_rfl

theorem law26_next_vc (N : Nat) (a0 : S_Roadmap) (a1 : Int) (a2 : Int) : (vcFuncT Try.prog drawB Try.f25 (Try.f25.body.getD .skip) 0 0 (law26_next_T N a0 a1 a2) [.pure (.agg [encL 1 (encL 1 encI_i64) a0.Points, encL 12 enc_RoadmapEdge a0.Edges]), .pure (.int .i64 a1), .pure (.int .i64 a2)] [] (fun r => .pure (.bool r)) (fun _ => [])) =
    (∀ (y : Int × S_Route × Int), search_Next_F N a0 a1 a2 = some y → ((aS (AVal.pure (PVal.agg [encL 1 (encL 1 encI_i64) a0.Points, encL 12 enc_RoadmapEdge a0.Edges])) ∧ aS (aI a1) ∧ aS (aI a2) ∧ True) ∧ True ∧ Spec Try.prog 38 0 [AVal.pure (PVal.agg [encL 1 (encL 1 encI_i64) a0.Points, encL 12 enc_RoadmapEdge a0.Edges]), aI a1, aI a2] [] (AVal.tup [aI y.fst, AVal.pure (PVal.agg [encL 1 encI_i64 y.snd.fst.Vertices, PVal.int IntKind.i64 y.snd.fst.Cost]), aI y.snd.snd]) []) ∧ ∀ (y_1 : Int × S_Route × Int), ref23_Next_F N a0 a1 a2 = some y_1 → ((aS (AVal.pure (PVal.agg [encL 1 (encL 1 encI_i64) a0.Points, encL 12 enc_RoadmapEdge a0.Edges])) ∧ aS (aI a1) ∧ aS (aI a2) ∧ True) ∧ True ∧ Spec Try.prog 43 0 [AVal.pure (PVal.agg [encL 1 (encL 1 encI_i64) a0.Points, encL 12 enc_RoadmapEdge a0.Edges]), aI a1, aI a2] [] (AVal.tup [aI y_1.fst, AVal.pure (PVal.agg [encL 1 encI_i64 y_1.snd.fst.Vertices, PVal.int IntKind.i64 y_1.snd.fst.Cost]), aI y_1.snd.snd]) []) ∧ (y.fst == y_1.fst) = (y.fst == y_1.fst) ∧ ((y.fst == y_1.fst) = true → (y.snd.snd == y_1.snd.snd) = (y.snd.snd == y_1.snd.snd) ∧ ((y.snd.snd == y_1.snd.snd) = true → ∀ (y_2 : Bool), make_SameRoute_F N y.snd.fst y_1.snd.fst = some y_2 → ((aS (AVal.pure (PVal.agg [encL 1 encI_i64 y.snd.fst.Vertices, PVal.int IntKind.i64 y.snd.fst.Cost])) ∧ aS (AVal.pure (PVal.agg [encL 1 encI_i64 y_1.snd.fst.Vertices, PVal.int IntKind.i64 y_1.snd.fst.Cost])) ∧ True) ∧ True ∧ Spec Try.prog 40 0 [AVal.pure (PVal.agg [encL 1 encI_i64 y.snd.fst.Vertices, PVal.int IntKind.i64 y.snd.fst.Cost]), AVal.pure (PVal.agg [encL 1 encI_i64 y_1.snd.fst.Vertices, PVal.int IntKind.i64 y_1.snd.fst.Cost])] [] (AVal.pure (PVal.bool y_2)) []) ∧ (aS (AVal.pure (PVal.bool y_2)) ∧ True) ∧ True ∧ True) ∧ ((y.snd.snd == y_1.snd.snd) = false → (aS (AVal.pure (PVal.bool false)) ∧ True) ∧ True ∧ True)) ∧ ((y.fst == y_1.fst) = false → (aS (AVal.pure (PVal.bool false)) ∧ True) ∧ True ∧ True)) := by kernel_rfl


set_option maxHeartbeats 4000000 in
theorem law26_next_spec (hd : DrawSound Try.prog drawB) {N : Nat} {a0 : S_Roadmap} {a1 : Int} {a2 : Int} {r : Bool} (h : law26_next_F N a0 a1 a2 = some r) : Spec Try.prog 25 0 [.pure (.agg [encL 1 (encL 1 encI_i64) a0.Points, encL 12 enc_RoadmapEdge a0.Edges]), .pure (.int .i64 a1), .pure (.int .i64 a2)] [] (.pure (.bool r)) ([]) := by
  refine spec_ofT (n0 := 0) (res := fun r => .pure (.bool r)) (m' := fun _ => []) (law26_next_T N a0 a1 a2) ((law26_next_run N a0 a1 a2).trans h) hd Try.func25 (by kernel_rfl) (by kernel_rfl) ?_
  rw [law26_next_vc]
  repeat' (first | exact trivial | exact ASub.refl _ | exact RSub.refl _ | exact search_Next_spec hd (by assumption) | exact ref23_Next_spec hd (by assumption) | exact make_SameRoute_spec hd (by assumption) | assumption | exact int_eq0 (by assumption) | exact of_decide_eq_true (by assumption) | exact of_decide_eq_false (by assumption) | rfl | (apply And.intro) | (intro _) | exact nl_a | exact ASub.tt rfl | exact ASub.ff rfl | exact mapR_upE rfl | exact RSub.nilv rfl rfl | exact RSub.gone | exact IsL.el | exact IsL.nl | exact IsL.lit (CSubs.of_eq rfl) rfl | refine IsL.lit ?_ rfl | exact IsL.rep (CSub.of_eq rfl) | refine IsL.a ?_ | refine IsL.r0 ?_ | refine IsLL.r ?_ | exact IsLL.el | exact IsLL.rep | refine IsLL.set ?_ ?_ | refine IsL.r ?_ ?_ | refine IsL.app ?_ ?_ | refine IsL.set ?_ (CSub.of_eq rfl) | refine IsL.set ?_ ?_ | exact IsL.sliceE (by omega) (by omega) | refine IsL.slice ?_ ?_ ?_ | exact IsL.take (by first | exact IsL.el | exact IsL.set IsL.el (CSub.of_eq rfl)) (by omega) | refine IsL.take ?_ ?_ | exact CSubs.nil' | refine CSubs.cons' ?_ ?_ | exact CSub.refl _ | exact nl_c | refine CSub.agg ?_ | refine IsL.c ?_ | exact PSubs.nil' | refine PSubs.cons' ?_ ?_ | exact PSub.refl _ | exact nl_p | refine IsL.p ?_ | refine (PSub.agg ?_).a | refine PSub.agg ?_ | refine ASub.agg ?_ | refine RSub.box ?_ | refine tup_a ?_ | refine ASub.p ?_ | omega)

def law26_SearchNext_F (N : Nat) (a0 : S_Roadmap) (a1 : Int) (a2 : Int) (a3 : (List Int)) : Option Bool :=
  (make_SmallMap_F N a0).bind fun y5 =>
  bif (!y5) then
   (law26_awake_F N).bind fun y6 =>
   some y6
  else
   (make_Graph_F N a3).bind fun y8 =>
   (law26_awake_F N).bind fun y9 =>
   bif y9 then
    (law26_next_F N a0 a1 a2).bind fun y10 =>
    bif y10 then
     (make_Round_F N a1 5).bind fun y11 =>
     (make_Round_F N a2 5).bind fun y12 =>
     (law26_next_F N a0 y11 y12).bind fun y13 =>
     bif y13 then
      (make_Round_F N a1 ((y8.Points.length : Nat) : Int)).bind fun y14 =>
      (make_Round_F N a2 ((y8.Points.length : Nat) : Int)).bind fun y15 =>
      (law26_next_F N y8 y14 y15).bind fun y16 =>
      some y16
     else
      some false
    else
     some false
   else
    some false

def law26_SearchNext_T (N : Nat) (a0 : S_Roadmap) (a1 : Int) (a2 : Int) (a3 : (List Int)) : T Bool :=
  .call (make_SmallMap_F N a0) (fun y5 => ⟨[], 0, [.pure (.agg [encL 1 (encL 1 encI_i64) a0.Points, encL 12 enc_RoadmapEdge a0.Edges])], [], .pure (.bool y5), []⟩) fun y5 =>
  .br (!y5)
   (.call (law26_awake_F N) (fun y6 => ⟨[], 0, [], [], .pure (.bool y6), []⟩) fun y6 =>
   .ret y6)
   (.call (make_Graph_F N a3) (fun y8 => ⟨[], 0, [.pure (encL 1 encI_i64 a3)], [], .pure (.agg [encL 1 (encL 1 encI_i64) y8.Points, encL 12 enc_RoadmapEdge y8.Edges]), []⟩) fun y8 =>
   .call (law26_awake_F N) (fun y9 => ⟨[], 0, [], [], .pure (.bool y9), []⟩) fun y9 =>
   .br y9
    (.call (law26_next_F N a0 a1 a2) (fun y10 => ⟨[], 0, [.pure (.agg [encL 1 (encL 1 encI_i64) a0.Points, encL 12 enc_RoadmapEdge a0.Edges]), .pure (.int .i64 a1), .pure (.int .i64 a2)], [], .pure (.bool y10), []⟩) fun y10 =>
    .br y10
     (.call (make_Round_F N a1 5) (fun y11 => ⟨[], 0, [.pure (.int .i64 a1), .pure (.int .i64 5)], [], .pure (.int .i64 y11), []⟩) fun y11 =>
     .call (make_Round_F N a2 5) (fun y12 => ⟨[], 0, [.pure (.int .i64 a2), .pure (.int .i64 5)], [], .pure (.int .i64 y12), []⟩) fun y12 =>
     .call (law26_next_F N a0 y11 y12) (fun y13 => ⟨[], 0, [.pure (.agg [encL 1 (encL 1 encI_i64) a0.Points, encL 12 enc_RoadmapEdge a0.Edges]), .pure (.int .i64 y11), .pure (.int .i64 y12)], [], .pure (.bool y13), []⟩) fun y13 =>
     .br y13
      (.call (make_Round_F N a1 ((y8.Points.length : Nat) : Int)) (fun y14 => ⟨[], 0, [.pure (.int .i64 a1), .pure (.int .i64 ((y8.Points.length : Nat) : Int))], [], .pure (.int .i64 y14), []⟩) fun y14 =>
      .call (make_Round_F N a2 ((y8.Points.length : Nat) : Int)) (fun y15 => ⟨[], 0, [.pure (.int .i64 a2), .pure (.int .i64 ((y8.Points.length : Nat) : Int))], [], .pure (.int .i64 y15), []⟩) fun y15 =>
      .call (law26_next_F N y8 y14 y15) (fun y16 => ⟨[], 0, [.pure (.agg [encL 1 (encL 1 encI_i64) y8.Points, encL 12 enc_RoadmapEdge y8.Edges]), .pure (.int .i64 y14), .pure (.int .i64 y15)], [], .pure (.bool y16), []⟩) fun y16 =>
      .ret y16)
      (.ret false))
     (.ret false))
    (.ret false))

theorem law26_SearchNext_run (N : Nat) (a0 : S_Roadmap) (a1 : Int) (a2 : Int) (a3 : (List Int)) : (law26_SearchNext_T N a0 a1 a2 a3).run N = law26_SearchNext_F N a0 a1 a2 a3 := by kernel_rfl

theorem law26_SearchNext_vc (N : Nat) (a0 : S_Roadmap) (a1 : Int) (a2 : Int) (a3 : (List Int)) : (vcFuncT Try.prog drawB Try.f7 (Try.f7.body.getD .skip) 0 0 (law26_SearchNext_T N a0 a1 a2 a3) [.pure (.agg [encL 1 (encL 1 encI_i64) a0.Points, encL 12 enc_RoadmapEdge a0.Edges]), .pure (.int .i64 a1), .pure (.int .i64 a2), .pure (encL 1 encI_i64 a3)] [] (fun r => .pure (.bool r)) (fun _ => [])) =
    (∀ (y : Bool), make_SmallMap_F N a0 = some y → ((aS (AVal.pure (PVal.agg [encL 1 (encL 1 encI_i64) a0.Points, encL 12 enc_RoadmapEdge a0.Edges])) ∧ True) ∧ True ∧ Spec Try.prog 20 0 [AVal.pure (PVal.agg [encL 1 (encL 1 encI_i64) a0.Points, encL 12 enc_RoadmapEdge a0.Edges])] [] (AVal.pure (PVal.bool y)) []) ∧ (!y) = !y ∧ ((!y) = true → ∀ (y : Bool), law26_awake_F N = some y → (True ∧ True ∧ Spec Try.prog 21 0 [] [] (AVal.pure (PVal.bool y)) []) ∧ (aS (AVal.pure (PVal.bool y)) ∧ True) ∧ True ∧ True) ∧ ((!y) = false → ∀ (y : S_Roadmap), make_Graph_F N a3 = some y → ((aS (AVal.pure (encL 1 encI_i64 a3)) ∧ True) ∧ True ∧ Spec Try.prog 22 0 [AVal.pure (encL 1 encI_i64 a3)] [] (AVal.pure (PVal.agg [encL 1 (encL 1 encI_i64) y.Points, encL 12 enc_RoadmapEdge y.Edges])) []) ∧ ∀ (y_1 : Bool), law26_awake_F N = some y_1 → (True ∧ True ∧ Spec Try.prog 21 0 [] [] (AVal.pure (PVal.bool y_1)) []) ∧ y_1 = y_1 ∧ (y_1 = true → ∀ (y_2 : Bool), law26_next_F N a0 a1 a2 = some y_2 → ((aS (AVal.pure (PVal.agg [encL 1 (encL 1 encI_i64) a0.Points, encL 12 enc_RoadmapEdge a0.Edges])) ∧ aS (aI a1) ∧ aS (aI a2) ∧ True) ∧ True ∧ Spec Try.prog 25 0 [AVal.pure (PVal.agg [encL 1 (encL 1 encI_i64) a0.Points, encL 12 enc_RoadmapEdge a0.Edges]), aI a1, aI a2] [] (AVal.pure (PVal.bool y_2)) []) ∧ y_2 = y_2 ∧ (y_2 = true → ∀ (y_3 : Int), make_Round_F N a1 (5 : Int) = some y_3 → ((aS (aI a1) ∧ aS (aI 5) ∧ True) ∧ True ∧ Spec Try.prog 23 0 [aI a1, aI 5] [] (aI y_3) []) ∧ ∀ (y_4 : Int), make_Round_F N a2 (5 : Int) = some y_4 → ((aS (aI a2) ∧ aS (aI 5) ∧ True) ∧ True ∧ Spec Try.prog 23 0 [aI a2, aI 5] [] (aI y_4) []) ∧ ∀ (y_5 : Bool), law26_next_F N a0 y_3 y_4 = some y_5 → ((aS (AVal.pure (PVal.agg [encL 1 (encL 1 encI_i64) a0.Points, encL 12 enc_RoadmapEdge a0.Edges])) ∧ aS (aI y_3) ∧ aS (aI y_4) ∧ True) ∧ True ∧ Spec Try.prog 25 0 [AVal.pure (PVal.agg [encL 1 (encL 1 encI_i64) a0.Points, encL 12 enc_RoadmapEdge a0.Edges]), aI y_3, aI y_4] [] (AVal.pure (PVal.bool y_5)) []) ∧ y_5 = y_5 ∧ (y_5 = true → ∀ (y_6 : Int), make_Round_F N a1 (↑y.Points.length : Int) = some y_6 → ((aS (aI a1) ∧ aS (aI (↑y.Points.length : Int)) ∧ True) ∧ True ∧ Spec Try.prog 23 0 [aI a1, aI (↑y.Points.length : Int)] [] (aI y_6) []) ∧ ∀ (y_7 : Int), make_Round_F N a2 (↑y.Points.length : Int) = some y_7 → ((aS (aI a2) ∧ aS (aI (↑y.Points.length : Int)) ∧ True) ∧ True ∧ Spec Try.prog 23 0 [aI a2, aI (↑y.Points.length : Int)] [] (aI y_7) []) ∧ ∀ (y_8 : Bool), law26_next_F N y y_6 y_7 = some y_8 → ((aS (AVal.pure (PVal.agg [encL 1 (encL 1 encI_i64) y.Points, encL 12 enc_RoadmapEdge y.Edges])) ∧ aS (aI y_6) ∧ aS (aI y_7) ∧ True) ∧ True ∧ Spec Try.prog 25 0 [AVal.pure (PVal.agg [encL 1 (encL 1 encI_i64) y.Points, encL 12 enc_RoadmapEdge y.Edges]), aI y_6, aI y_7] [] (AVal.pure (PVal.bool y_8)) []) ∧ (aS (AVal.pure (PVal.bool y_8)) ∧ True) ∧ True ∧ True) ∧ (y_5 = false → (aS (AVal.pure (PVal.bool false)) ∧ True) ∧ True ∧ True)) ∧ (y_2 = false → (aS (AVal.pure (PVal.bool false)) ∧ True) ∧ True ∧ True)) ∧ (y_1 = false → (aS (AVal.pure (PVal.bool false)) ∧ True) ∧ True ∧ True))) := by kernel_rfl


set_option maxHeartbeats 4000000 in
theorem law26_SearchNext_spec (hd : DrawSound Try.prog drawB) {N : Nat} {a0 : S_Roadmap} {a1 : Int} {a2 : Int} {a3 : (List Int)} {r : Bool} (h : law26_SearchNext_F N a0 a1 a2 a3 = some r) : Spec Try.prog 7 0 [.pure (.agg [encL 1 (encL 1 encI_i64) a0.Points, encL 12 enc_RoadmapEdge a0.Edges]), .pure (.int .i64 a1), .pure (.int .i64 a2), .pure (encL 1 encI_i64 a3)] [] (.pure (.bool r)) ([]) := by
  refine spec_ofT (n0 := 0) (res := fun r => .pure (.bool r)) (m' := fun _ => []) (law26_SearchNext_T N a0 a1 a2 a3) ((law26_SearchNext_run N a0 a1 a2 a3).trans h) hd Try.func7 (by kernel_rfl) (by kernel_rfl) ?_
  rw [law26_SearchNext_vc]
  repeat' (first | exact trivial | exact ASub.refl _ | exact RSub.refl _ | exact make_SmallMap_spec hd (by assumption) | exact law26_awake_spec hd (by assumption) | exact make_Graph_spec hd (by assumption) | exact law26_next_spec hd (by assumption) | exact make_Round_spec hd (by assumption) | assumption | exact int_eq0 (by assumption) | exact of_decide_eq_true (by assumption) | exact of_decide_eq_false (by assumption) | rfl | (apply And.intro) | (intro _) | exact nl_a | exact ASub.tt rfl | exact ASub.ff rfl | exact mapR_upE rfl | exact RSub.nilv rfl rfl | exact RSub.gone | exact IsL.el | exact IsL.nl | exact IsL.lit (CSubs.of_eq rfl) rfl | refine IsL.lit ?_ rfl | exact IsL.rep (CSub.of_eq rfl) | refine IsL.a ?_ | refine IsL.r0 ?_ | refine IsLL.r ?_ | exact IsLL.el | exact IsLL.rep | refine IsLL.set ?_ ?_ | refine IsL.r ?_ ?_ | refine IsL.app ?_ ?_ | refine IsL.set ?_ (CSub.of_eq rfl) | refine IsL.set ?_ ?_ | exact IsL.sliceE (by omega) (by omega) | refine IsL.slice ?_ ?_ ?_ | exact IsL.take (by first | exact IsL.el | exact IsL.set IsL.el (CSub.of_eq rfl)) (by omega) | refine IsL.take ?_ ?_ | exact CSubs.nil' | refine CSubs.cons' ?_ ?_ | exact CSub.refl _ | exact nl_c | refine CSub.agg ?_ | refine IsL.c ?_ | exact PSubs.nil' | refine PSubs.cons' ?_ ?_ | exact PSub.refl _ | exact nl_p | refine IsL.p ?_ | refine (PSub.agg ?_).a | refine PSub.agg ?_ | refine ASub.agg ?_ | refine RSub.box ?_ | refine tup_a ?_ | refine ASub.p ?_ | omega)

def law26_SearchWalks_F (N : Nat) (a0 : (List Int)) (a1 : (List Int)) (a2 : Int) (a3 : Int) (a4 : Int) : Option Bool :=
  (make_Graph_F N a0).bind fun y377 =>
  (make_Round_F N a2 ((y377.Points.length : Nat) : Int)).bind fun y381 =>
  (make_Round_F N a3 ((y377.Points.length : Nat) : Int)).bind fun y382 =>
  (make_Round_F N a4 3).bind fun y383 =>
  (search_Shortest_F N y377 y381 y382 y383).bind fun y385 =>
  andK (iter (fun (x518 : (Int × Int × Int)) => (
   andC (
    bif (decide (x518.2.2 < ((a1.length : Nat) : Int))) then
     some (.out (decide (x518.2.2 < 40)))
    else
     some (.out false) : Option (Step3 Unit Bool _)) fun y553 =>
   bif y553 then
    (ref23_Incident_F N y377 x518.1).bind fun y570 =>
    bif (((y570.length : Nat) : Int) == 0) then
     some (.out .u)
    else
     grd (0 ≤ x518.2.2 ∧ x518.2.2 < ((a1.length : Nat) : Int)) <|
     (make_Round_F N (a1.getD ((x518.2.2).toNat) default) ((y570.length : Nat) : Int)).bind fun y572 =>
     grd (0 ≤ y572 ∧ y572 < ((y570.length : Nat) : Int)) <|
     grd (0 ≤ (y570.getD ((y572).toNat) default) ∧ (y570.getD ((y572).toNat) default) < ((y377.Edges.length : Nat) : Int)) <|
     andC (
      (ref23_UsableIn_F N (y377.Edges.getD (((y570.getD ((y572).toNat) default)).toNat) default) y383).bind fun y581 =>
      bif y581 then
       (fun z582 =>
       some (.out ((IntKind.i64.wrap (z582 - x518.1)), (IntKind.i64.wrap (x518.2.1 + ((y377.Edges.getD (((y570.getD ((y572).toNat) default)).toNat) default).Cost)))))) ((IntKind.i64.wrap (((y377.Edges.getD (((y570.getD ((y572).toNat) default)).toNat) default).U) + ((y377.Edges.getD (((y570.getD ((y572).toNat) default)).toNat) default).V))))
      else
       some (.out (x518.1, x518.2.1)) : Option (Step3 Unit (Int × Int) _)) fun y579 =>
     andC (
      bif (y579.1 == y382) then
       bif (!y385.2) then
        some (.out true)
       else
        some (.out (decide (y579.2 < y385.1.Cost)))
      else
       some (.out false) : Option (Step3 Unit Bool _)) fun y583 =>
     bif y583 then
      some (.fin false)
     else
      some (.next (y579.1, y579.2, (IntKind.i64.wrap (x518.2.2 + 1))))
   else
    some (.out .u) : Option (Step3 (Int × Int × Int) U0 _))) N (y381, 0, 0)) fun _ =>
  bif (!y385.2) then
   (law26_awake_F N).bind fun y585 =>
   bif y585 then
    some (((y385.1.Vertices.length : Nat) : Int) == 0)
   else
    some false
  else
   andC (
    bif (((y385.1.Vertices.length : Nat) : Int) == 0) then
     some (.out true)
    else
     grd (0 ≤ (0 : Int) ∧ (0 : Int) < ((y385.1.Vertices.length : Nat) : Int)) <|
     bif ((y385.1.Vertices.getD ((0 : Int).toNat) default) != y381) then
      some (.out true)
     else
      grd (0 ≤ (IntKind.i64.wrap (((y385.1.Vertices.length : Nat) : Int) - 1)) ∧ (IntKind.i64.wrap (((y385.1.Vertices.length : Nat) : Int) - 1)) < ((y385.1.Vertices.length : Nat) : Int)) <|
      some (.out ((y385.1.Vertices.getD (((IntKind.i64.wrap (((y385.1.Vertices.length : Nat) : Int) - 1))).toNat) default) != y382)) : Option (Step3 Unit Bool _)) fun y587 =>
   bif y587 then
    some false
   else
    andK (iter (fun (x696 : (Int × Int)) => (
     bif (decide (x696.2 < ((y385.1.Vertices.length : Nat) : Int))) then
      grd (0 ≤ (IntKind.i64.wrap (x696.2 - 1)) ∧ (IntKind.i64.wrap (x696.2 - 1)) < ((y385.1.Vertices.length : Nat) : Int)) <|
      grd (0 ≤ x696.2 ∧ x696.2 < ((y385.1.Vertices.length : Nat) : Int)) <|
      (ref23_EdgeOf_F N y377 (y385.1.Vertices.getD (((IntKind.i64.wrap (x696.2 - 1))).toNat) default) (y385.1.Vertices.getD ((x696.2).toNat) default)).bind fun y738 =>
      andC (
       bif (decide (y738 < 0)) then
        some (.out true)
       else
        grd (0 ≤ y738 ∧ y738 < ((y377.Edges.length : Nat) : Int)) <|
        (ref23_UsableIn_F N (y377.Edges.getD ((y738).toNat) default) y383).bind fun y746 =>
        some (.out (!y746)) : Option (Step3 Unit Bool _)) fun y745 =>
      bif y745 then
       some (.fin false)
      else
       grd (0 ≤ y738 ∧ y738 < ((y377.Edges.length : Nat) : Int)) <|
       andK (iter (fun (x748 : Int) => (
        bif (decide (x748 < x696.2)) then
         grd (0 ≤ x748 ∧ x748 < ((y385.1.Vertices.length : Nat) : Int)) <|
         grd (0 ≤ x696.2 ∧ x696.2 < ((y385.1.Vertices.length : Nat) : Int)) <|
         bif ((y385.1.Vertices.getD ((x748).toNat) default) == (y385.1.Vertices.getD ((x696.2).toNat) default)) then
          some (.fin (.fin false))
         else
          some (.next (IntKind.i64.wrap (x748 + 1)))
        else
         some (.out .u) : Option (Step3 Int U0 _))) N 0) fun _ =>
       some (.next ((IntKind.i64.wrap (x696.1 + ((y377.Edges.getD ((y738).toNat) default).Cost))), (IntKind.i64.wrap (x696.2 + 1))))
     else
      some (.out x696.1) : Option (Step3 (Int × Int) Int _))) N (0, 1)) fun y723 =>
    (law26_awake_F N).bind fun y750 =>
    bif y750 then
     some (y723 == y385.1.Cost)
    else
     some false

def law26_SearchWalks_T (N : Nat) (a0 : (List Int)) (a1 : (List Int)) (a2 : Int) (a3 : Int) (a4 : Int) : T Bool :=
  .call (make_Graph_F N a0) (fun y377 => ⟨[], 0, [.pure (encL 1 encI_i64 a0)], [], .pure (.agg [encL 1 (encL 1 encI_i64) y377.Points, encL 12 enc_RoadmapEdge y377.Edges]), []⟩) fun y377 =>
  .call (make_Round_F N a2 ((y377.Points.length : Nat) : Int)) (fun y381 => ⟨[], 0, [.pure (.int .i64 a2), .pure (.int .i64 ((y377.Points.length : Nat) : Int))], [], .pure (.int .i64 y381), []⟩) fun y381 =>
  .call (make_Round_F N a3 ((y377.Points.length : Nat) : Int)) (fun y382 => ⟨[], 0, [.pure (.int .i64 a3), .pure (.int .i64 ((y377.Points.length : Nat) : Int))], [], .pure (.int .i64 y382), []⟩) fun y382 =>
  .call (make_Round_F N a4 3) (fun y383 => ⟨[], 0, [.pure (.int .i64 a4), .pure (.int .i64 3)], [], .pure (.int .i64 y383), []⟩) fun y383 =>
  .call (search_Shortest_F N y377 y381 y382 y383) (fun y385 => ⟨[], 0, [.pure (.agg [encL 1 (encL 1 encI_i64) y377.Points, encL 12 enc_RoadmapEdge y377.Edges]), .pure (.int .i64 y381), .pure (.int .i64 y382), .pure (.int .i64 y383)], [], .tup [.pure (.agg [encL 1 encI_i64 y385.1.Vertices, .int .i64 y385.1.Cost]), .pure (.bool y385.2)], []⟩) fun y385 =>
  .loop (fun (x518 : (Int × Int × Int)) => ⟨[(1, .pure (encL 1 encI_i64 a1)), (11, .ptr 0 0), (13, .pure (.int .i64 y381)), (14, .pure (.int .i64 y382)), (15, .pure (.int .i64 y383)), (16, .ptr 1 0), (17, .pure (.bool y385.2)), (18, .pure (.int .i64 x518.1)), (19, .pure (.int .i64 x518.2.1)), (20, .pure (.int .i64 x518.2.2))], [(0, .box [.pure (encL 1 (encL 1 encI_i64) y377.Points), .pure (encL 12 enc_RoadmapEdge y377.Edges)]), (1, .box [.pure (encL 1 encI_i64 y385.1.Vertices), .pure (.int .i64 y385.1.Cost)])], [], 2⟩)
   (.exit 0) (fun (_ : U0) => ⟨[(11, .ptr 0 0), (13, .pure (.int .i64 y381)), (14, .pure (.int .i64 y382)), (15, .pure (.int .i64 y383)), (16, .ptr 1 0), (17, .pure (.bool y385.2))], [(0, .box [.pure (encL 1 (encL 1 encI_i64) y377.Points), .pure (encL 12 enc_RoadmapEdge y377.Edges)]), (1, .box [.pure (encL 1 encI_i64 y385.1.Vertices), .pure (.int .i64 y385.1.Cost)])], [], 2⟩)
   (fun x518 => .cut 1 (fun (y553 : Bool) => ⟨[(1, .pure (encL 1 encI_i64 a1)), (11, .ptr 0 0), (13, .pure (.int .i64 y381)), (14, .pure (.int .i64 y382)), (15, .pure (.int .i64 y383)), (16, .ptr 1 0), (17, .pure (.bool y385.2)), (18, .pure (.int .i64 x518.1)), (19, .pure (.int .i64 x518.2.1)), (20, .pure (.int .i64 x518.2.2)), (56, .pure (.bool y553))], [(0, .box [.pure (encL 1 (encL 1 encI_i64) y377.Points), .pure (encL 12 enc_RoadmapEdge y377.Edges)]), (1, .box [.pure (encL 1 encI_i64 y385.1.Vertices), .pure (.int .i64 y385.1.Cost)])], [], 2⟩)
     (.br (decide (x518.2.2 < ((a1.length : Nat) : Int)))
      (.ret (.out (decide (x518.2.2 < 40))))
      (.ret (.out false))) fun y553 =>
    .br y553
     (.call (ref23_Incident_F N y377 x518.1) (fun y570 => ⟨[], 0, [.pure (.agg [encL 1 (encL 1 encI_i64) y377.Points, encL 12 enc_RoadmapEdge y377.Edges]), .pure (.int .i64 x518.1)], [], .pure (encL 1 encI_i64 y570), []⟩) fun y570 =>
     .br (((y570.length : Nat) : Int) == 0)
      (.ret (.out .u))
      (.grd (0 ≤ x518.2.2 ∧ x518.2.2 < ((a1.length : Nat) : Int)) <|
      .call (make_Round_F N (a1.getD ((x518.2.2).toNat) default) ((y570.length : Nat) : Int)) (fun y572 => ⟨[], 0, [.pure (.int .i64 (a1.getD ((x518.2.2).toNat) default)), .pure (.int .i64 ((y570.length : Nat) : Int))], [], .pure (.int .i64 y572), []⟩) fun y572 =>
      .grd (0 ≤ y572 ∧ y572 < ((y570.length : Nat) : Int)) <|
      .grd (0 ≤ (y570.getD ((y572).toNat) default) ∧ (y570.getD ((y572).toNat) default) < ((y377.Edges.length : Nat) : Int)) <|
      .cut 0 (fun (y579 : (Int × Int)) => ⟨[(1, .pure (encL 1 encI_i64 a1)), (11, .ptr 0 0), (13, .pure (.int .i64 y381)), (14, .pure (.int .i64 y382)), (15, .pure (.int .i64 y383)), (16, .ptr 1 0), (17, .pure (.bool y385.2)), (18, .pure (.int .i64 y579.1)), (19, .pure (.int .i64 y579.2)), (20, .pure (.int .i64 x518.2.2))], [(0, .box [.pure (encL 1 (encL 1 encI_i64) y377.Points), .pure (encL 12 enc_RoadmapEdge y377.Edges)]), (1, .box [.pure (encL 1 encI_i64 y385.1.Vertices), .pure (.int .i64 y385.1.Cost)])], [], 2⟩)
       (.call (ref23_UsableIn_F N (y377.Edges.getD (((y570.getD ((y572).toNat) default)).toNat) default) y383) (fun y581 => ⟨[], 0, [.pure (.agg [.int .i64 ((y377.Edges.getD (((y570.getD ((y572).toNat) default)).toNat) default).U), .int .i64 ((y377.Edges.getD (((y570.getD ((y572).toNat) default)).toNat) default).V), .int .i64 ((y377.Edges.getD (((y570.getD ((y572).toNat) default)).toNat) default).Cost), .int .i64 ((y377.Edges.getD (((y570.getD ((y572).toNat) default)).toNat) default).State), .int .i64 ((y377.Edges.getD (((y570.getD ((y572).toNat) default)).toNat) default).Proof.Kind), encL 3 enc_Piece ((y377.Edges.getD (((y570.getD ((y572).toNat) default)).toNat) default).Proof.Pieces), .int .i64 ((y377.Edges.getD (((y570.getD ((y572).toNat) default)).toNat) default).Proof.At.Depth), .int .i64 ((y377.Edges.getD (((y570.getD ((y572).toNat) default)).toNat) default).Proof.At.Index), encL 3 enc_arr_3_int64 ((y377.Edges.getD (((y570.getD ((y572).toNat) default)).toNat) default).Proof.At.Normals), .int .i64 ((y377.Edges.getD (((y570.getD ((y572).toNat) default)).toNat) default).Proof.Witness.Pair), encL 1 encI_i64 ((y377.Edges.getD (((y570.getD ((y572).toNat) default)).toNat) default).Proof.Witness.Left), encL 1 encI_i64 ((y377.Edges.getD (((y570.getD ((y572).toNat) default)).toNat) default).Proof.Witness.Right)]), .pure (.int .i64 y383)], [], .pure (.bool y581), []⟩) fun y581 =>
       .br y581
        (.name 13004 ((IntKind.i64.wrap (((y377.Edges.getD (((y570.getD ((y572).toNat) default)).toNat) default).U) + ((y377.Edges.getD (((y570.getD ((y572).toNat) default)).toNat) default).V)))) fun z582 =>
        .ret (.out ((IntKind.i64.wrap (z582 - x518.1)), (IntKind.i64.wrap (x518.2.1 + ((y377.Edges.getD (((y570.getD ((y572).toNat) default)).toNat) default).Cost))))))
        (.ret (.out (x518.1, x518.2.1)))) fun y579 =>
      .cut 0 (fun (y583 : Bool) => ⟨[(1, .pure (encL 1 encI_i64 a1)), (11, .ptr 0 0), (13, .pure (.int .i64 y381)), (14, .pure (.int .i64 y382)), (15, .pure (.int .i64 y383)), (16, .ptr 1 0), (17, .pure (.bool y385.2)), (18, .pure (.int .i64 y579.1)), (19, .pure (.int .i64 y579.2)), (20, .pure (.int .i64 x518.2.2)), (105, .pure (.bool y583))], [(0, .box [.pure (encL 1 (encL 1 encI_i64) y377.Points), .pure (encL 12 enc_RoadmapEdge y377.Edges)]), (1, .box [.pure (encL 1 encI_i64 y385.1.Vertices), .pure (.int .i64 y385.1.Cost)])], [], 2⟩)
       (.br (y579.1 == y382)
        (.br (!y385.2)
         (.ret (.out true))
         (.ret (.out (decide (y579.2 < y385.1.Cost)))))
        (.ret (.out false))) fun y583 =>
      .br y583
       (.ret (.fin false))
       (.ret (.next (y579.1, y579.2, (IntKind.i64.wrap (x518.2.2 + 1)))))))
     (.ret (.out .u)))
   (y381, 0, 0) fun _ =>
  .br (!y385.2)
   (.call (law26_awake_F N) (fun y585 => ⟨[], 0, [], [], .pure (.bool y585), []⟩) fun y585 =>
   .br y585
    (.ret (((y385.1.Vertices.length : Nat) : Int) == 0))
    (.ret false))
   (.cut 1 (fun (y587 : Bool) => ⟨[(11, .ptr 0 0), (15, .pure (.int .i64 y383)), (16, .ptr 1 0), (138, .pure (.bool y587))], [(0, .box [.pure (encL 1 (encL 1 encI_i64) y377.Points), .pure (encL 12 enc_RoadmapEdge y377.Edges)]), (1, .box [.pure (encL 1 encI_i64 y385.1.Vertices), .pure (.int .i64 y385.1.Cost)])], [], 2⟩)
    (.br (((y385.1.Vertices.length : Nat) : Int) == 0)
     (.ret (.out true))
     (.grd (0 ≤ (0 : Int) ∧ (0 : Int) < ((y385.1.Vertices.length : Nat) : Int)) <|
     .br ((y385.1.Vertices.getD ((0 : Int).toNat) default) != y381)
      (.ret (.out true))
      (.grd (0 ≤ (IntKind.i64.wrap (((y385.1.Vertices.length : Nat) : Int) - 1)) ∧ (IntKind.i64.wrap (((y385.1.Vertices.length : Nat) : Int) - 1)) < ((y385.1.Vertices.length : Nat) : Int)) <|
      .ret (.out ((y385.1.Vertices.getD (((IntKind.i64.wrap (((y385.1.Vertices.length : Nat) : Int) - 1))).toNat) default) != y382))))) fun y587 =>
   .br y587
    (.ret false)
    (.loop (fun (x696 : (Int × Int)) => ⟨[(11, .ptr 0 0), (15, .pure (.int .i64 y383)), (16, .ptr 1 0), (23, .pure (.int .i64 x696.1)), (24, .pure (.int .i64 x696.2))], [(0, .box [.pure (encL 1 (encL 1 encI_i64) y377.Points), .pure (encL 12 enc_RoadmapEdge y377.Edges)]), (1, .box [.pure (encL 1 encI_i64 y385.1.Vertices), .pure (.int .i64 y385.1.Cost)])], [], 2⟩)
     (.exit 2) (fun (y723 : Int) => ⟨[(16, .ptr 0 0), (23, .pure (.int .i64 y723))], [(0, .box [.pure (encL 1 encI_i64 y385.1.Vertices), .pure (.int .i64 y385.1.Cost)])], [], 1⟩)
     (fun x696 => .br (decide (x696.2 < ((y385.1.Vertices.length : Nat) : Int)))
       (.grd (0 ≤ (IntKind.i64.wrap (x696.2 - 1)) ∧ (IntKind.i64.wrap (x696.2 - 1)) < ((y385.1.Vertices.length : Nat) : Int)) <|
       .grd (0 ≤ x696.2 ∧ x696.2 < ((y385.1.Vertices.length : Nat) : Int)) <|
       .call (ref23_EdgeOf_F N y377 (y385.1.Vertices.getD (((IntKind.i64.wrap (x696.2 - 1))).toNat) default) (y385.1.Vertices.getD ((x696.2).toNat) default)) (fun y738 => ⟨[], 0, [.pure (.agg [encL 1 (encL 1 encI_i64) y377.Points, encL 12 enc_RoadmapEdge y377.Edges]), .pure (.int .i64 (y385.1.Vertices.getD (((IntKind.i64.wrap (x696.2 - 1))).toNat) default)), .pure (.int .i64 (y385.1.Vertices.getD ((x696.2).toNat) default))], [], .pure (.int .i64 y738), []⟩) fun y738 =>
       .cut 1 (fun (y745 : Bool) => ⟨[(11, .ptr 0 0), (15, .pure (.int .i64 y383)), (16, .ptr 1 0), (23, .pure (.int .i64 x696.1)), (24, .pure (.int .i64 x696.2)), (25, .pure (.int .i64 y738)), (170, .pure (.bool y745))], [(0, .box [.pure (encL 1 (encL 1 encI_i64) y377.Points), .pure (encL 12 enc_RoadmapEdge y377.Edges)]), (1, .box [.pure (encL 1 encI_i64 y385.1.Vertices), .pure (.int .i64 y385.1.Cost)])], [], 2⟩)
        (.br (decide (y738 < 0))
         (.ret (.out true))
         (.grd (0 ≤ y738 ∧ y738 < ((y377.Edges.length : Nat) : Int)) <|
         .call (ref23_UsableIn_F N (y377.Edges.getD ((y738).toNat) default) y383) (fun y746 => ⟨[], 0, [.pure (.agg [.int .i64 ((y377.Edges.getD ((y738).toNat) default).U), .int .i64 ((y377.Edges.getD ((y738).toNat) default).V), .int .i64 ((y377.Edges.getD ((y738).toNat) default).Cost), .int .i64 ((y377.Edges.getD ((y738).toNat) default).State), .int .i64 ((y377.Edges.getD ((y738).toNat) default).Proof.Kind), encL 3 enc_Piece ((y377.Edges.getD ((y738).toNat) default).Proof.Pieces), .int .i64 ((y377.Edges.getD ((y738).toNat) default).Proof.At.Depth), .int .i64 ((y377.Edges.getD ((y738).toNat) default).Proof.At.Index), encL 3 enc_arr_3_int64 ((y377.Edges.getD ((y738).toNat) default).Proof.At.Normals), .int .i64 ((y377.Edges.getD ((y738).toNat) default).Proof.Witness.Pair), encL 1 encI_i64 ((y377.Edges.getD ((y738).toNat) default).Proof.Witness.Left), encL 1 encI_i64 ((y377.Edges.getD ((y738).toNat) default).Proof.Witness.Right)]), .pure (.int .i64 y383)], [], .pure (.bool y746), []⟩) fun y746 =>
         .ret (.out (!y746)))) fun y745 =>
       .br y745
        (.ret (.fin false))
        (.grd (0 ≤ y738 ∧ y738 < ((y377.Edges.length : Nat) : Int)) <|
        .loop (fun (x748 : Int) => ⟨[(11, .ptr 0 0), (15, .pure (.int .i64 y383)), (16, .ptr 1 0), (23, .pure (.int .i64 (IntKind.i64.wrap (x696.1 + ((y377.Edges.getD ((y738).toNat) default).Cost))))), (24, .pure (.int .i64 x696.2)), (26, .pure (.int .i64 x748))], [(0, .box [.pure (encL 1 (encL 1 encI_i64) y377.Points), .pure (encL 12 enc_RoadmapEdge y377.Edges)]), (1, .box [.pure (encL 1 encI_i64 y385.1.Vertices), .pure (.int .i64 y385.1.Cost)])], [], 2⟩)
         (.exit 4) (fun (_ : U0) => ⟨[(11, .ptr 0 0), (15, .pure (.int .i64 y383)), (16, .ptr 1 0), (23, .pure (.int .i64 (IntKind.i64.wrap (x696.1 + ((y377.Edges.getD ((y738).toNat) default).Cost))))), (24, .pure (.int .i64 x696.2))], [(0, .box [.pure (encL 1 (encL 1 encI_i64) y377.Points), .pure (encL 12 enc_RoadmapEdge y377.Edges)]), (1, .box [.pure (encL 1 encI_i64 y385.1.Vertices), .pure (.int .i64 y385.1.Cost)])], [], 2⟩)
         (fun x748 => .br (decide (x748 < x696.2))
           (.grd (0 ≤ x748 ∧ x748 < ((y385.1.Vertices.length : Nat) : Int)) <|
           .grd (0 ≤ x696.2 ∧ x696.2 < ((y385.1.Vertices.length : Nat) : Int)) <|
           .br ((y385.1.Vertices.getD ((x748).toNat) default) == (y385.1.Vertices.getD ((x696.2).toNat) default))
            (.ret (.fin (.fin false)))
            (.ret (.next (IntKind.i64.wrap (x748 + 1)))))
           (.ret (.out .u)))
         0 fun _ =>
        .ret (.next ((IntKind.i64.wrap (x696.1 + ((y377.Edges.getD ((y738).toNat) default).Cost))), (IntKind.i64.wrap (x696.2 + 1))))))
       (.ret (.out x696.1)))
     (0, 1) fun y723 =>
    .call (law26_awake_F N) (fun y750 => ⟨[], 0, [], [], .pure (.bool y750), []⟩) fun y750 =>
    .br y750
     (.ret (y723 == y385.1.Cost))
     (.ret false)))

theorem law26_SearchWalks_run (N : Nat) (a0 : (List Int)) (a1 : (List Int)) (a2 : Int) (a3 : Int) (a4 : Int) : (law26_SearchWalks_T N a0 a1 a2 a3 a4).run N = law26_SearchWalks_F N a0 a1 a2 a3 a4 := by kernel_rfl

theorem law26_SearchWalks_vc (N : Nat) (a0 : (List Int)) (a1 : (List Int)) (a2 : Int) (a3 : Int) (a4 : Int) : (vcFuncT Try.prog drawB Try.f8 (Try.f8.body.getD .skip) 0 0 (law26_SearchWalks_T N a0 a1 a2 a3 a4) [.pure (encL 1 encI_i64 a0), .pure (encL 1 encI_i64 a1), .pure (.int .i64 a2), .pure (.int .i64 a3), .pure (.int .i64 a4)] [] (fun r => .pure (.bool r)) (fun _ => [])) =
    (∀ (y : S_Roadmap), make_Graph_F N a0 = some y → ((aS (AVal.pure (encL 1 encI_i64 a0)) ∧ True) ∧ True ∧ Spec Try.prog 22 0 [AVal.pure (encL 1 encI_i64 a0)] [] (AVal.pure (PVal.agg [encL 1 (encL 1 encI_i64) y.Points, encL 12 enc_RoadmapEdge y.Edges])) []) ∧ ∀ (y_1 : Int), make_Round_F N a2 (↑y.Points.length : Int) = some y_1 → ((aS (aI a2) ∧ aS (aI (↑y.Points.length : Int)) ∧ True) ∧ True ∧ Spec Try.prog 23 0 [aI a2, aI (↑y.Points.length : Int)] [] (aI y_1) []) ∧ ∀ (y_2 : Int), make_Round_F N a3 (↑y.Points.length : Int) = some y_2 → ((aS (aI a3) ∧ aS (aI (↑y.Points.length : Int)) ∧ True) ∧ True ∧ Spec Try.prog 23 0 [aI a3, aI (↑y.Points.length : Int)] [] (aI y_2) []) ∧ ∀ (y_3 : Int), make_Round_F N a4 (3 : Int) = some y_3 → ((aS (aI a4) ∧ aS (aI 3) ∧ True) ∧ True ∧ Spec Try.prog 23 0 [aI a4, aI 3] [] (aI y_3) []) ∧ ∀ (y_4 : S_Route × Bool), search_Shortest_F N y y_1 y_2 y_3 = some y_4 → ((aS (AVal.pure (PVal.agg [encL 1 (encL 1 encI_i64) y.Points, encL 12 enc_RoadmapEdge y.Edges])) ∧ aS (aI y_1) ∧ aS (aI y_2) ∧ aS (aI y_3) ∧ True) ∧ True ∧ Spec Try.prog 26 0 [AVal.pure (PVal.agg [encL 1 (encL 1 encI_i64) y.Points, encL 12 enc_RoadmapEdge y.Edges]), aI y_1, aI y_2, aI y_3] [] (AVal.tup [AVal.pure (PVal.agg [encL 1 encI_i64 y_4.fst.Vertices, PVal.int IntKind.i64 y_4.fst.Cost]), AVal.pure (PVal.bool y_4.snd)]) []) ∧ (∀ (_x : Int × Int × Int), true = true ∧ 0 ≤ 2) ∧ (∀ (_y : U0), true = true ∧ 0 ≤ 2) ∧ ((aS (AVal.pure (encL 1 encI_i64 a1)) ∧ aS (AVal.ptr 192 0) ∧ aS (aI y_1) ∧ aS (aI y_2) ∧ aS (aI y_3) ∧ aS (AVal.ptr 1792 0) ∧ aS (AVal.pure (PVal.bool y_4.snd)) ∧ aS (aI y_1) ∧ aS (aI 0) ∧ aS (aI 0) ∧ True) ∧ (rS (Res.box [AVal.pure (encL 1 (encL 1 encI_i64) y.Points), AVal.pure (encL 12 enc_RoadmapEdge y.Edges)]) ∧ rS (Res.box [AVal.pure (encL 1 encI_i64 y_4.fst.Vertices), aI y_4.fst.Cost]) ∧ True) ∧ True) ∧ (∀ (x : Int × Int × Int), (∀ (_y : Bool), true = true ∧ 0 ≤ 2) ∧ (decide (x.snd.snd < (↑a1.length : Int)) = decide (x.snd.snd < (↑a1.length : Int)) ∧ (decide (x.snd.snd < (↑a1.length : Int)) = true → (aS (AVal.pure (encL 1 encI_i64 a1)) ∧ aS (AVal.ptr 0 0) ∧ aS (aI y_1) ∧ aS (aI y_2) ∧ aS (aI y_3) ∧ aS (AVal.ptr 1 0) ∧ aS (AVal.pure (PVal.bool y_4.snd)) ∧ aS (aI x.fst) ∧ aS (aI x.snd.fst) ∧ aS (aI x.snd.snd) ∧ aS (AVal.pure (PVal.bool (decide (x.snd.snd < (40 : Int))))) ∧ True) ∧ (rS (Res.box [AVal.pure (encL 1 (encL 1 encI_i64) y.Points), AVal.pure (encL 12 enc_RoadmapEdge y.Edges)]) ∧ rS (Res.box [AVal.pure (encL 1 encI_i64 y_4.fst.Vertices), aI y_4.fst.Cost]) ∧ True) ∧ True) ∧ (decide (x.snd.snd < (↑a1.length : Int)) = false → (aS (AVal.pure (encL 1 encI_i64 a1)) ∧ aS (AVal.ptr 0 0) ∧ aS (aI y_1) ∧ aS (aI y_2) ∧ aS (aI y_3) ∧ aS (AVal.ptr 1 0) ∧ aS (AVal.pure (PVal.bool y_4.snd)) ∧ aS (aI x.fst) ∧ aS (aI x.snd.fst) ∧ aS (aI x.snd.snd) ∧ ASub AVal.ff (AVal.pure (PVal.bool false)) ∧ True) ∧ (rS (Res.box [AVal.pure (encL 1 (encL 1 encI_i64) y.Points), AVal.pure (encL 12 enc_RoadmapEdge y.Edges)]) ∧ rS (Res.box [AVal.pure (encL 1 encI_i64 y_4.fst.Vertices), aI y_4.fst.Cost]) ∧ True) ∧ True)) ∧ ∀ (y_5 : Bool), y_5 = y_5 ∧ (y_5 = true → ∀ (y_6 : List Int), ref23_Incident_F N y x.fst = some y_6 → ((aS (AVal.pure (PVal.agg [encL 1 (encL 1 encI_i64) y.Points, encL 12 enc_RoadmapEdge y.Edges])) ∧ aS (aI x.fst) ∧ True) ∧ True ∧ Spec Try.prog 27 0 [AVal.pure (PVal.agg [encL 1 (encL 1 encI_i64) y.Points, encL 12 enc_RoadmapEdge y.Edges]), aI x.fst] [] (AVal.pure (encL 1 encI_i64 y_6)) []) ∧ ((↑y_6.length : Int) == (0 : Int)) = ((↑y_6.length : Int) == (0 : Int)) ∧ (((↑y_6.length : Int) == (0 : Int)) = true → (aS (AVal.ptr 0 0) ∧ aS (aI y_1) ∧ aS (aI y_2) ∧ aS (aI y_3) ∧ aS (AVal.ptr 1 0) ∧ aS (AVal.pure (PVal.bool y_4.snd)) ∧ True) ∧ (rS (Res.box [AVal.pure (encL 1 (encL 1 encI_i64) y.Points), AVal.pure (encL 12 enc_RoadmapEdge y.Edges)]) ∧ rS (Res.box [AVal.pure (encL 1 encI_i64 y_4.fst.Vertices), aI y_4.fst.Cost]) ∧ True) ∧ True) ∧ (((↑y_6.length : Int) == (0 : Int)) = false → (0 : Int) ≤ x.snd.snd ∧ x.snd.snd < (↑a1.length : Int) → ((0 : Int) ≤ x.snd.snd ∧ x.snd.snd < (↑a1.length : Int)) ∧ ∀ (y_7 : Int), make_Round_F N (a1.getD x.snd.snd.toNat default) (↑y_6.length : Int) = some y_7 → ((aS (aI (a1.getD x.snd.snd.toNat default)) ∧ aS (aI (↑y_6.length : Int)) ∧ True) ∧ True ∧ Spec Try.prog 23 0 [aI (a1.getD x.snd.snd.toNat default), aI (↑y_6.length : Int)] [] (aI y_7) []) ∧ ((0 : Int) ≤ y_7 ∧ y_7 < (↑y_6.length : Int) → ((0 : Int) ≤ y_7 ∧ y_7 < (↑y_6.length : Int)) ∧ ((0 : Int) ≤ y_6.getD y_7.toNat default ∧ y_6.getD y_7.toNat default < (↑y.Edges.length : Int) → ((0 : Int) ≤ y_6.getD y_7.toNat default ∧ y_6.getD y_7.toNat default < (↑y.Edges.length : Int)) ∧ (∀ (_y : Int × Int), true = true ∧ 0 ≤ 2) ∧ (∀ (y_8 : Bool), ref23_UsableIn_F N (y.Edges.getD (y_6.getD y_7.toNat default).toNat default) y_3 = some y_8 → ((aS (AVal.pure (PVal.agg [PVal.int IntKind.i64 (y.Edges.getD (y_6.getD y_7.toNat default).toNat default).U, PVal.int IntKind.i64 (y.Edges.getD (y_6.getD y_7.toNat default).toNat default).V, PVal.int IntKind.i64 (y.Edges.getD (y_6.getD y_7.toNat default).toNat default).Cost, PVal.int IntKind.i64 (y.Edges.getD (y_6.getD y_7.toNat default).toNat default).State, PVal.int IntKind.i64 (y.Edges.getD (y_6.getD y_7.toNat default).toNat default).Proof.Kind, encL 3 enc_Piece (y.Edges.getD (y_6.getD y_7.toNat default).toNat default).Proof.Pieces, PVal.int IntKind.i64 (y.Edges.getD (y_6.getD y_7.toNat default).toNat default).Proof.At.Depth, PVal.int IntKind.i64 (y.Edges.getD (y_6.getD y_7.toNat default).toNat default).Proof.At.Index, encL 3 enc_arr_3_int64 (y.Edges.getD (y_6.getD y_7.toNat default).toNat default).Proof.At.Normals, PVal.int IntKind.i64 (y.Edges.getD (y_6.getD y_7.toNat default).toNat default).Proof.Witness.Pair, encL 1 encI_i64 (y.Edges.getD (y_6.getD y_7.toNat default).toNat default).Proof.Witness.Left, encL 1 encI_i64 (y.Edges.getD (y_6.getD y_7.toNat default).toNat default).Proof.Witness.Right])) ∧ aS (aI y_3) ∧ True) ∧ True ∧ Spec Try.prog 28 0 [AVal.pure (PVal.agg [PVal.int IntKind.i64 (y.Edges.getD (y_6.getD y_7.toNat default).toNat default).U, PVal.int IntKind.i64 (y.Edges.getD (y_6.getD y_7.toNat default).toNat default).V, PVal.int IntKind.i64 (y.Edges.getD (y_6.getD y_7.toNat default).toNat default).Cost, PVal.int IntKind.i64 (y.Edges.getD (y_6.getD y_7.toNat default).toNat default).State, PVal.int IntKind.i64 (y.Edges.getD (y_6.getD y_7.toNat default).toNat default).Proof.Kind, encL 3 enc_Piece (y.Edges.getD (y_6.getD y_7.toNat default).toNat default).Proof.Pieces, PVal.int IntKind.i64 (y.Edges.getD (y_6.getD y_7.toNat default).toNat default).Proof.At.Depth, PVal.int IntKind.i64 (y.Edges.getD (y_6.getD y_7.toNat default).toNat default).Proof.At.Index, encL 3 enc_arr_3_int64 (y.Edges.getD (y_6.getD y_7.toNat default).toNat default).Proof.At.Normals, PVal.int IntKind.i64 (y.Edges.getD (y_6.getD y_7.toNat default).toNat default).Proof.Witness.Pair, encL 1 encI_i64 (y.Edges.getD (y_6.getD y_7.toNat default).toNat default).Proof.Witness.Left, encL 1 encI_i64 (y.Edges.getD (y_6.getD y_7.toNat default).toNat default).Proof.Witness.Right]), aI y_3] [] (AVal.pure (PVal.bool y_8)) []) ∧ y_8 = y_8 ∧ (y_8 = true → IntKind.i64.wrap ((y.Edges.getD (y_6.getD y_7.toNat default).toNat default).U + (y.Edges.getD (y_6.getD y_7.toNat default).toNat default).V) = IntKind.i64.wrap ((y.Edges.getD (y_6.getD y_7.toNat default).toNat default).U + (y.Edges.getD (y_6.getD y_7.toNat default).toNat default).V) ∧ ∀ (z : Int), (aS (AVal.pure (encL 1 encI_i64 a1)) ∧ aS (AVal.ptr 0 0) ∧ aS (aI y_1) ∧ aS (aI y_2) ∧ aS (aI y_3) ∧ aS (AVal.ptr 1 0) ∧ aS (AVal.pure (PVal.bool y_4.snd)) ∧ aS (aI (IntKind.i64.wrap (z - x.fst))) ∧ aS (aI (IntKind.i64.wrap (x.snd.fst + (y.Edges.getD (y_6.getD y_7.toNat default).toNat default).Cost))) ∧ aS (aI x.snd.snd) ∧ True) ∧ (rS (Res.box [AVal.pure (encL 1 (encL 1 encI_i64) y.Points), AVal.pure (encL 12 enc_RoadmapEdge y.Edges)]) ∧ rS (Res.box [AVal.pure (encL 1 encI_i64 y_4.fst.Vertices), aI y_4.fst.Cost]) ∧ True) ∧ True) ∧ (y_8 = false → (aS (AVal.pure (encL 1 encI_i64 a1)) ∧ aS (AVal.ptr 0 0) ∧ aS (aI y_1) ∧ aS (aI y_2) ∧ aS (aI y_3) ∧ aS (AVal.ptr 1 0) ∧ aS (AVal.pure (PVal.bool y_4.snd)) ∧ aS (aI x.fst) ∧ aS (aI x.snd.fst) ∧ aS (aI x.snd.snd) ∧ True) ∧ (rS (Res.box [AVal.pure (encL 1 (encL 1 encI_i64) y.Points), AVal.pure (encL 12 enc_RoadmapEdge y.Edges)]) ∧ rS (Res.box [AVal.pure (encL 1 encI_i64 y_4.fst.Vertices), aI y_4.fst.Cost]) ∧ True) ∧ True)) ∧ ∀ (y_8 : Int × Int), (∀ (_y : Bool), true = true ∧ 0 ≤ 2) ∧ ((y_8.fst == y_2) = (y_8.fst == y_2) ∧ ((y_8.fst == y_2) = true → (!y_4.snd) = !y_4.snd ∧ ((!y_4.snd) = true → (aS (AVal.pure (encL 1 encI_i64 a1)) ∧ aS (AVal.ptr 0 0) ∧ aS (aI y_1) ∧ aS (aI y_2) ∧ aS (aI y_3) ∧ aS (AVal.ptr 1 0) ∧ aS (AVal.pure (PVal.bool y_4.snd)) ∧ aS (aI y_8.fst) ∧ aS (aI y_8.snd) ∧ aS (aI x.snd.snd) ∧ ASub AVal.tt (AVal.pure (PVal.bool true)) ∧ True) ∧ (rS (Res.box [AVal.pure (encL 1 (encL 1 encI_i64) y.Points), AVal.pure (encL 12 enc_RoadmapEdge y.Edges)]) ∧ rS (Res.box [AVal.pure (encL 1 encI_i64 y_4.fst.Vertices), aI y_4.fst.Cost]) ∧ True) ∧ True) ∧ ((!y_4.snd) = false → (aS (AVal.pure (encL 1 encI_i64 a1)) ∧ aS (AVal.ptr 0 0) ∧ aS (aI y_1) ∧ aS (aI y_2) ∧ aS (aI y_3) ∧ aS (AVal.ptr 1 0) ∧ aS (AVal.pure (PVal.bool y_4.snd)) ∧ aS (aI y_8.fst) ∧ aS (aI y_8.snd) ∧ aS (aI x.snd.snd) ∧ aS (AVal.pure (PVal.bool (decide (y_8.snd < y_4.fst.Cost)))) ∧ True) ∧ (rS (Res.box [AVal.pure (encL 1 (encL 1 encI_i64) y.Points), AVal.pure (encL 12 enc_RoadmapEdge y.Edges)]) ∧ rS (Res.box [AVal.pure (encL 1 encI_i64 y_4.fst.Vertices), aI y_4.fst.Cost]) ∧ True) ∧ True)) ∧ ((y_8.fst == y_2) = false → (aS (AVal.pure (encL 1 encI_i64 a1)) ∧ aS (AVal.ptr 0 0) ∧ aS (aI y_1) ∧ aS (aI y_2) ∧ aS (aI y_3) ∧ aS (AVal.ptr 1 0) ∧ aS (AVal.pure (PVal.bool y_4.snd)) ∧ aS (aI y_8.fst) ∧ aS (aI y_8.snd) ∧ aS (aI x.snd.snd) ∧ ASub AVal.ff (AVal.pure (PVal.bool false)) ∧ True) ∧ (rS (Res.box [AVal.pure (encL 1 (encL 1 encI_i64) y.Points), AVal.pure (encL 12 enc_RoadmapEdge y.Edges)]) ∧ rS (Res.box [AVal.pure (encL 1 encI_i64 y_4.fst.Vertices), aI y_4.fst.Cost]) ∧ True) ∧ True)) ∧ ∀ (y_9 : Bool), y_9 = y_9 ∧ (y_9 = true → (aS (AVal.pure (PVal.bool false)) ∧ True) ∧ True ∧ True) ∧ (y_9 = false → (aS (AVal.pure (encL 1 encI_i64 a1)) ∧ aS (AVal.ptr 0 0) ∧ aS (aI y_1) ∧ aS (aI y_2) ∧ aS (aI y_3) ∧ aS (AVal.ptr 1 0) ∧ aS (AVal.pure (PVal.bool y_4.snd)) ∧ aS (aI y_8.fst) ∧ aS (aI y_8.snd) ∧ aS (aI (IntKind.i64.wrap (x.snd.snd + (1 : Int)))) ∧ True) ∧ (rS (Res.box [AVal.pure (encL 1 (encL 1 encI_i64) y.Points), AVal.pure (encL 12 enc_RoadmapEdge y.Edges)]) ∧ rS (Res.box [AVal.pure (encL 1 encI_i64 y_4.fst.Vertices), aI y_4.fst.Cost]) ∧ True) ∧ True))))) ∧ (y_5 = false → (aS (AVal.ptr 0 0) ∧ aS (aI y_1) ∧ aS (aI y_2) ∧ aS (aI y_3) ∧ aS (AVal.ptr 1 0) ∧ aS (AVal.pure (PVal.bool y_4.snd)) ∧ True) ∧ (rS (Res.box [AVal.pure (encL 1 (encL 1 encI_i64) y.Points), AVal.pure (encL 12 enc_RoadmapEdge y.Edges)]) ∧ rS (Res.box [AVal.pure (encL 1 encI_i64 y_4.fst.Vertices), aI y_4.fst.Cost]) ∧ True) ∧ True)) ∧ ∀ (_y : U0), (!y_4.snd) = !y_4.snd ∧ ((!y_4.snd) = true → ∀ (y : Bool), law26_awake_F N = some y → (True ∧ True ∧ Spec Try.prog 21 0 [] [] (AVal.pure (PVal.bool y)) []) ∧ y = y ∧ (y = true → (aS (AVal.pure (PVal.bool ((↑y_4.fst.Vertices.length : Int) == (0 : Int)))) ∧ True) ∧ True ∧ True) ∧ (y = false → (aS (AVal.pure (PVal.bool false)) ∧ True) ∧ True ∧ True)) ∧ ((!y_4.snd) = false → (∀ (_y : Bool), true = true ∧ 0 ≤ 2) ∧ (((↑y_4.fst.Vertices.length : Int) == (0 : Int)) = ((↑y_4.fst.Vertices.length : Int) == (0 : Int)) ∧ (((↑y_4.fst.Vertices.length : Int) == (0 : Int)) = true → (aS (AVal.ptr 0 0) ∧ aS (aI y_3) ∧ aS (AVal.ptr 1 0) ∧ ASub AVal.tt (AVal.pure (PVal.bool true)) ∧ True) ∧ (rS (Res.box [AVal.pure (encL 1 (encL 1 encI_i64) y.Points), AVal.pure (encL 12 enc_RoadmapEdge y.Edges)]) ∧ rS (Res.box [AVal.pure (encL 1 encI_i64 y_4.fst.Vertices), aI y_4.fst.Cost]) ∧ True) ∧ True) ∧ (((↑y_4.fst.Vertices.length : Int) == (0 : Int)) = false → (0 : Int) ≤ (0 : Int) ∧ (0 : Int) < (↑y_4.fst.Vertices.length : Int) → ((0 : Int) ≤ (0 : Int) ∧ (0 : Int) < (↑y_4.fst.Vertices.length : Int)) ∧ (y_4.fst.Vertices.getD 0 default != y_1) = (y_4.fst.Vertices.getD 0 default != y_1) ∧ ((y_4.fst.Vertices.getD 0 default != y_1) = true → (aS (AVal.ptr 0 0) ∧ aS (aI y_3) ∧ aS (AVal.ptr 1 0) ∧ ASub AVal.tt (AVal.pure (PVal.bool true)) ∧ True) ∧ (rS (Res.box [AVal.pure (encL 1 (encL 1 encI_i64) y.Points), AVal.pure (encL 12 enc_RoadmapEdge y.Edges)]) ∧ rS (Res.box [AVal.pure (encL 1 encI_i64 y_4.fst.Vertices), aI y_4.fst.Cost]) ∧ True) ∧ True) ∧ ((y_4.fst.Vertices.getD 0 default != y_1) = false → (0 : Int) ≤ IntKind.i64.wrap ((↑y_4.fst.Vertices.length : Int) - (1 : Int)) ∧ IntKind.i64.wrap ((↑y_4.fst.Vertices.length : Int) - (1 : Int)) < (↑y_4.fst.Vertices.length : Int) → ((0 : Int) ≤ IntKind.i64.wrap ((↑y_4.fst.Vertices.length : Int) - (1 : Int)) ∧ IntKind.i64.wrap ((↑y_4.fst.Vertices.length : Int) - (1 : Int)) < (↑y_4.fst.Vertices.length : Int)) ∧ (aS (AVal.ptr 0 0) ∧ aS (aI y_3) ∧ aS (AVal.ptr 1 0) ∧ aS (AVal.pure (PVal.bool (y_4.fst.Vertices.getD (IntKind.i64.wrap ((↑y_4.fst.Vertices.length : Int) - (1 : Int))).toNat default != y_2))) ∧ True) ∧ (rS (Res.box [AVal.pure (encL 1 (encL 1 encI_i64) y.Points), AVal.pure (encL 12 enc_RoadmapEdge y.Edges)]) ∧ rS (Res.box [AVal.pure (encL 1 encI_i64 y_4.fst.Vertices), aI y_4.fst.Cost]) ∧ True) ∧ True))) ∧ ∀ (y_5 : Bool), y_5 = y_5 ∧ (y_5 = true → (aS (AVal.pure (PVal.bool false)) ∧ True) ∧ True ∧ True) ∧ (y_5 = false → (∀ (_x : Int × Int), true = true ∧ 0 ≤ 2) ∧ (∀ (_y : Int), true = true ∧ 0 ≤ 1) ∧ ((aS (AVal.ptr 0 0) ∧ aS (aI y_3) ∧ aS (AVal.ptr 1 0) ∧ aS (aI 0) ∧ aS (aI 1) ∧ True) ∧ (rS (Res.box [AVal.pure (encL 1 (encL 1 encI_i64) y.Points), AVal.pure (encL 12 enc_RoadmapEdge y.Edges)]) ∧ rS (Res.box [AVal.pure (encL 1 encI_i64 y_4.fst.Vertices), aI y_4.fst.Cost]) ∧ True) ∧ True) ∧ (∀ (x : Int × Int), decide (x.snd < (↑y_4.fst.Vertices.length : Int)) = decide (x.snd < (↑y_4.fst.Vertices.length : Int)) ∧ (decide (x.snd < (↑y_4.fst.Vertices.length : Int)) = true → (0 : Int) ≤ IntKind.i64.wrap (x.snd - (1 : Int)) ∧ IntKind.i64.wrap (x.snd - (1 : Int)) < (↑y_4.fst.Vertices.length : Int) → ((0 : Int) ≤ IntKind.i64.wrap (x.snd - (1 : Int)) ∧ IntKind.i64.wrap (x.snd - (1 : Int)) < (↑y_4.fst.Vertices.length : Int)) ∧ ((0 : Int) ≤ x.snd ∧ x.snd < (↑y_4.fst.Vertices.length : Int) → ((0 : Int) ≤ x.snd ∧ x.snd < (↑y_4.fst.Vertices.length : Int)) ∧ ∀ (y_6 : Int), ref23_EdgeOf_F N y (y_4.fst.Vertices.getD (IntKind.i64.wrap (x.snd - (1 : Int))).toNat default) (y_4.fst.Vertices.getD x.snd.toNat default) = some y_6 → ((aS (AVal.pure (PVal.agg [encL 1 (encL 1 encI_i64) y.Points, encL 12 enc_RoadmapEdge y.Edges])) ∧ aS (aI (y_4.fst.Vertices.getD (IntKind.i64.wrap (x.snd - (1 : Int))).toNat default)) ∧ aS (aI (y_4.fst.Vertices.getD x.snd.toNat default)) ∧ True) ∧ True ∧ Spec Try.prog 29 0 [AVal.pure (PVal.agg [encL 1 (encL 1 encI_i64) y.Points, encL 12 enc_RoadmapEdge y.Edges]), aI (y_4.fst.Vertices.getD (IntKind.i64.wrap (x.snd - (1 : Int))).toNat default), aI (y_4.fst.Vertices.getD x.snd.toNat default)] [] (aI y_6) []) ∧ (∀ (_y : Bool), true = true ∧ 0 ≤ 2) ∧ (decide (y_6 < (0 : Int)) = decide (y_6 < (0 : Int)) ∧ (decide (y_6 < (0 : Int)) = true → (aS (AVal.ptr 0 0) ∧ aS (aI y_3) ∧ aS (AVal.ptr 1 0) ∧ aS (aI x.fst) ∧ aS (aI x.snd) ∧ aS (aI y_6) ∧ ASub AVal.tt (AVal.pure (PVal.bool true)) ∧ True) ∧ (rS (Res.box [AVal.pure (encL 1 (encL 1 encI_i64) y.Points), AVal.pure (encL 12 enc_RoadmapEdge y.Edges)]) ∧ rS (Res.box [AVal.pure (encL 1 encI_i64 y_4.fst.Vertices), aI y_4.fst.Cost]) ∧ True) ∧ True) ∧ (decide (y_6 < (0 : Int)) = false → (0 : Int) ≤ y_6 ∧ y_6 < (↑y.Edges.length : Int) → ((0 : Int) ≤ y_6 ∧ y_6 < (↑y.Edges.length : Int)) ∧ ∀ (y_7 : Bool), ref23_UsableIn_F N (y.Edges.getD y_6.toNat default) y_3 = some y_7 → ((aS (AVal.pure (PVal.agg [PVal.int IntKind.i64 (y.Edges.getD y_6.toNat default).U, PVal.int IntKind.i64 (y.Edges.getD y_6.toNat default).V, PVal.int IntKind.i64 (y.Edges.getD y_6.toNat default).Cost, PVal.int IntKind.i64 (y.Edges.getD y_6.toNat default).State, PVal.int IntKind.i64 (y.Edges.getD y_6.toNat default).Proof.Kind, encL 3 enc_Piece (y.Edges.getD y_6.toNat default).Proof.Pieces, PVal.int IntKind.i64 (y.Edges.getD y_6.toNat default).Proof.At.Depth, PVal.int IntKind.i64 (y.Edges.getD y_6.toNat default).Proof.At.Index, encL 3 enc_arr_3_int64 (y.Edges.getD y_6.toNat default).Proof.At.Normals, PVal.int IntKind.i64 (y.Edges.getD y_6.toNat default).Proof.Witness.Pair, encL 1 encI_i64 (y.Edges.getD y_6.toNat default).Proof.Witness.Left, encL 1 encI_i64 (y.Edges.getD y_6.toNat default).Proof.Witness.Right])) ∧ aS (aI y_3) ∧ True) ∧ True ∧ Spec Try.prog 28 0 [AVal.pure (PVal.agg [PVal.int IntKind.i64 (y.Edges.getD y_6.toNat default).U, PVal.int IntKind.i64 (y.Edges.getD y_6.toNat default).V, PVal.int IntKind.i64 (y.Edges.getD y_6.toNat default).Cost, PVal.int IntKind.i64 (y.Edges.getD y_6.toNat default).State, PVal.int IntKind.i64 (y.Edges.getD y_6.toNat default).Proof.Kind, encL 3 enc_Piece (y.Edges.getD y_6.toNat default).Proof.Pieces, PVal.int IntKind.i64 (y.Edges.getD y_6.toNat default).Proof.At.Depth, PVal.int IntKind.i64 (y.Edges.getD y_6.toNat default).Proof.At.Index, encL 3 enc_arr_3_int64 (y.Edges.getD y_6.toNat default).Proof.At.Normals, PVal.int IntKind.i64 (y.Edges.getD y_6.toNat default).Proof.Witness.Pair, encL 1 encI_i64 (y.Edges.getD y_6.toNat default).Proof.Witness.Left, encL 1 encI_i64 (y.Edges.getD y_6.toNat default).Proof.Witness.Right]), aI y_3] [] (AVal.pure (PVal.bool y_7)) []) ∧ (aS (AVal.ptr 0 0) ∧ aS (aI y_3) ∧ aS (AVal.ptr 1 0) ∧ aS (aI x.fst) ∧ aS (aI x.snd) ∧ aS (aI y_6) ∧ aS (AVal.pure (PVal.bool !y_7)) ∧ True) ∧ (rS (Res.box [AVal.pure (encL 1 (encL 1 encI_i64) y.Points), AVal.pure (encL 12 enc_RoadmapEdge y.Edges)]) ∧ rS (Res.box [AVal.pure (encL 1 encI_i64 y_4.fst.Vertices), aI y_4.fst.Cost]) ∧ True) ∧ True)) ∧ ∀ (y_7 : Bool), y_7 = y_7 ∧ (y_7 = true → (aS (AVal.pure (PVal.bool false)) ∧ True) ∧ True ∧ True) ∧ (y_7 = false → (0 : Int) ≤ y_6 ∧ y_6 < (↑y.Edges.length : Int) → ((0 : Int) ≤ y_6 ∧ y_6 < (↑y.Edges.length : Int)) ∧ (∀ (_x : Int), true = true ∧ 0 ≤ 2) ∧ (∀ (_y : U0), true = true ∧ 0 ≤ 2) ∧ ((aS (AVal.ptr 0 0) ∧ aS (aI y_3) ∧ aS (AVal.ptr 1 0) ∧ aS (aI (IntKind.i64.wrap (x.fst + (y.Edges.getD y_6.toNat default).Cost))) ∧ aS (aI x.snd) ∧ aS (aI 0) ∧ True) ∧ (rS (Res.box [AVal.pure (encL 1 (encL 1 encI_i64) y.Points), AVal.pure (encL 12 enc_RoadmapEdge y.Edges)]) ∧ rS (Res.box [AVal.pure (encL 1 encI_i64 y_4.fst.Vertices), aI y_4.fst.Cost]) ∧ True) ∧ True) ∧ (∀ (x_1 : Int), decide (x_1 < x.snd) = decide (x_1 < x.snd) ∧ (decide (x_1 < x.snd) = true → (0 : Int) ≤ x_1 ∧ x_1 < (↑y_4.fst.Vertices.length : Int) → ((0 : Int) ≤ x_1 ∧ x_1 < (↑y_4.fst.Vertices.length : Int)) ∧ ((0 : Int) ≤ x.snd ∧ x.snd < (↑y_4.fst.Vertices.length : Int) → ((0 : Int) ≤ x.snd ∧ x.snd < (↑y_4.fst.Vertices.length : Int)) ∧ (y_4.fst.Vertices.getD x_1.toNat default == y_4.fst.Vertices.getD x.snd.toNat default) = (y_4.fst.Vertices.getD x_1.toNat default == y_4.fst.Vertices.getD x.snd.toNat default) ∧ ((y_4.fst.Vertices.getD x_1.toNat default == y_4.fst.Vertices.getD x.snd.toNat default) = true → (aS (AVal.pure (PVal.bool false)) ∧ True) ∧ True ∧ True) ∧ ((y_4.fst.Vertices.getD x_1.toNat default == y_4.fst.Vertices.getD x.snd.toNat default) = false → (aS (AVal.ptr 0 0) ∧ aS (aI y_3) ∧ aS (AVal.ptr 1 0) ∧ aS (aI (IntKind.i64.wrap (x.fst + (y.Edges.getD y_6.toNat default).Cost))) ∧ aS (aI x.snd) ∧ aS (aI (IntKind.i64.wrap (x_1 + (1 : Int)))) ∧ True) ∧ (rS (Res.box [AVal.pure (encL 1 (encL 1 encI_i64) y.Points), AVal.pure (encL 12 enc_RoadmapEdge y.Edges)]) ∧ rS (Res.box [AVal.pure (encL 1 encI_i64 y_4.fst.Vertices), aI y_4.fst.Cost]) ∧ True) ∧ True))) ∧ (decide (x_1 < x.snd) = false → (aS (AVal.ptr 0 0) ∧ aS (aI y_3) ∧ aS (AVal.ptr 1 0) ∧ aS (aI (IntKind.i64.wrap (x.fst + (y.Edges.getD y_6.toNat default).Cost))) ∧ aS (aI x.snd) ∧ True) ∧ (rS (Res.box [AVal.pure (encL 1 (encL 1 encI_i64) y.Points), AVal.pure (encL 12 enc_RoadmapEdge y.Edges)]) ∧ rS (Res.box [AVal.pure (encL 1 encI_i64 y_4.fst.Vertices), aI y_4.fst.Cost]) ∧ True) ∧ True)) ∧ ∀ (_y : U0), (aS (AVal.ptr 0 0) ∧ aS (aI y_3) ∧ aS (AVal.ptr 1 0) ∧ aS (aI (IntKind.i64.wrap (x.fst + (y.Edges.getD y_6.toNat default).Cost))) ∧ aS (aI (IntKind.i64.wrap (x.snd + (1 : Int)))) ∧ True) ∧ (rS (Res.box [AVal.pure (encL 1 (encL 1 encI_i64) y.Points), AVal.pure (encL 12 enc_RoadmapEdge y.Edges)]) ∧ rS (Res.box [AVal.pure (encL 1 encI_i64 y_4.fst.Vertices), aI y_4.fst.Cost]) ∧ True) ∧ True))) ∧ (decide (x.snd < (↑y_4.fst.Vertices.length : Int)) = false → (aS (AVal.ptr 1 0) ∧ aS (aI x.fst) ∧ True) ∧ (rS (Res.box [AVal.pure (encL 1 encI_i64 y_4.fst.Vertices), aI y_4.fst.Cost]) ∧ True) ∧ True)) ∧ ∀ (y : Int) (y_6 : Bool), law26_awake_F N = some y_6 → (True ∧ True ∧ Spec Try.prog 21 0 [] [] (AVal.pure (PVal.bool y_6)) []) ∧ y_6 = y_6 ∧ (y_6 = true → (aS (AVal.pure (PVal.bool (y == y_4.fst.Cost))) ∧ True) ∧ True ∧ True) ∧ (y_6 = false → (aS (AVal.pure (PVal.bool false)) ∧ True) ∧ True ∧ True)))) := by kernel_rfl


set_option maxHeartbeats 4000000 in
theorem law26_SearchWalks_spec (hd : DrawSound Try.prog drawB) {N : Nat} {a0 : (List Int)} {a1 : (List Int)} {a2 : Int} {a3 : Int} {a4 : Int} {r : Bool} (h : law26_SearchWalks_F N a0 a1 a2 a3 a4 = some r) : Spec Try.prog 8 0 [.pure (encL 1 encI_i64 a0), .pure (encL 1 encI_i64 a1), .pure (.int .i64 a2), .pure (.int .i64 a3), .pure (.int .i64 a4)] [] (.pure (.bool r)) ([]) := by
  refine spec_ofT (n0 := 0) (res := fun r => .pure (.bool r)) (m' := fun _ => []) (law26_SearchWalks_T N a0 a1 a2 a3 a4) ((law26_SearchWalks_run N a0 a1 a2 a3 a4).trans h) hd Try.func8 (by kernel_rfl) (by kernel_rfl) ?_
  rw [law26_SearchWalks_vc]
  repeat' (first | exact trivial | exact ASub.refl _ | exact RSub.refl _ | exact make_Graph_spec hd (by assumption) | exact make_Round_spec hd (by assumption) | exact search_Shortest_spec hd (by assumption) | exact ref23_Incident_spec hd (by assumption) | exact ref23_UsableIn_spec hd (by assumption) | exact law26_awake_spec hd (by assumption) | exact ref23_EdgeOf_spec hd (by assumption) | assumption | exact int_eq0 (by assumption) | exact of_decide_eq_true (by assumption) | exact of_decide_eq_false (by assumption) | rfl | (apply And.intro) | (intro _) | exact nl_a | exact ASub.tt rfl | exact ASub.ff rfl | exact mapR_upE rfl | exact RSub.nilv rfl rfl | exact RSub.gone | exact IsL.el | exact IsL.nl | exact IsL.lit (CSubs.of_eq rfl) rfl | refine IsL.lit ?_ rfl | exact IsL.rep (CSub.of_eq rfl) | refine IsL.a ?_ | refine IsL.r0 ?_ | refine IsLL.r ?_ | exact IsLL.el | exact IsLL.rep | refine IsLL.set ?_ ?_ | refine IsL.r ?_ ?_ | refine IsL.app ?_ ?_ | refine IsL.set ?_ (CSub.of_eq rfl) | refine IsL.set ?_ ?_ | exact IsL.sliceE (by omega) (by omega) | refine IsL.slice ?_ ?_ ?_ | exact IsL.take (by first | exact IsL.el | exact IsL.set IsL.el (CSub.of_eq rfl)) (by omega) | refine IsL.take ?_ ?_ | exact CSubs.nil' | refine CSubs.cons' ?_ ?_ | exact CSub.refl _ | exact nl_c | refine CSub.agg ?_ | refine IsL.c ?_ | exact PSubs.nil' | refine PSubs.cons' ?_ ?_ | exact PSub.refl _ | exact nl_p | refine IsL.p ?_ | refine (PSub.agg ?_).a | refine PSub.agg ?_ | refine ASub.agg ?_ | refine RSub.box ?_ | refine tup_a ?_ | refine ASub.p ?_ | omega)

def law26_SearchModes_F (N : Nat) (a0 : (List Int)) (a1 : Int) (a2 : Int) : Option Bool :=
  (make_Graph_F N a0).bind fun y2 =>
  (make_Round_F N a1 ((y2.Points.length : Nat) : Int)).bind fun y5 =>
  (make_Round_F N a2 ((y2.Points.length : Nat) : Int)).bind fun y6 =>
  andK (iter (fun (x59 : (Int × Bool × Int)) => (
   bif (decide (x59.2.2 ≤ 2)) then
    (search_Shortest_F N y2 y5 y6 x59.2.2).bind fun y80 =>
    (search_Shortest_F N y2 y6 y5 x59.2.2).bind fun y82 =>
    andC (
     bif (!(y80.2 == y82.2)) then
      some (.out true)
     else
      bif (y80.1.Cost != y82.1.Cost) then
       some (.out true)
      else
       bif (((y80.1.Vertices.length : Nat) : Int) != ((y82.1.Vertices.length : Nat) : Int)) then
        some (.out true)
       else
        bif x59.2.1 then
         bif (!y80.2) then
          some (.out true)
         else
          some (.out (decide (y80.1.Cost > x59.1)))
        else
         some (.out false) : Option (Step3 Unit Bool _)) fun y84 =>
    bif y84 then
     some (.fin false)
    else
     some (.next (y80.1.Cost, y80.2, (IntKind.i64.wrap (x59.2.2 + 1))))
   else
    some (.out .u) : Option (Step3 (Int × Bool × Int) U0 _))) N (0, false, 0)) fun _ =>
  (law26_awake_F N).bind fun y85 =>
  some y85

def law26_SearchModes_T (N : Nat) (a0 : (List Int)) (a1 : Int) (a2 : Int) : T Bool :=
  .call (make_Graph_F N a0) (fun y2 => ⟨[], 0, [.pure (encL 1 encI_i64 a0)], [], .pure (.agg [encL 1 (encL 1 encI_i64) y2.Points, encL 12 enc_RoadmapEdge y2.Edges]), []⟩) fun y2 =>
  .call (make_Round_F N a1 ((y2.Points.length : Nat) : Int)) (fun y5 => ⟨[], 0, [.pure (.int .i64 a1), .pure (.int .i64 ((y2.Points.length : Nat) : Int))], [], .pure (.int .i64 y5), []⟩) fun y5 =>
  .call (make_Round_F N a2 ((y2.Points.length : Nat) : Int)) (fun y6 => ⟨[], 0, [.pure (.int .i64 a2), .pure (.int .i64 ((y2.Points.length : Nat) : Int))], [], .pure (.int .i64 y6), []⟩) fun y6 =>
  .loop (fun (x59 : (Int × Bool × Int)) => ⟨[(7, .ptr 0 0), (9, .pure (.int .i64 y5)), (10, .pure (.int .i64 y6)), (11, .pure (.int .i64 x59.1)), (12, .pure (.bool x59.2.1)), (13, .pure (.int .i64 x59.2.2))], [(0, .box [.pure (encL 1 (encL 1 encI_i64) y2.Points), .pure (encL 12 enc_RoadmapEdge y2.Edges)])], [], 1⟩)
   (.exit 0) (fun (_ : U0) => ⟨[], [], [], 0⟩)
   (fun x59 => .br (decide (x59.2.2 ≤ 2))
     (.call (search_Shortest_F N y2 y5 y6 x59.2.2) (fun y80 => ⟨[], 0, [.pure (.agg [encL 1 (encL 1 encI_i64) y2.Points, encL 12 enc_RoadmapEdge y2.Edges]), .pure (.int .i64 y5), .pure (.int .i64 y6), .pure (.int .i64 x59.2.2)], [], .tup [.pure (.agg [encL 1 encI_i64 y80.1.Vertices, .int .i64 y80.1.Cost]), .pure (.bool y80.2)], []⟩) fun y80 =>
     .call (search_Shortest_F N y2 y6 y5 x59.2.2) (fun y82 => ⟨[], 0, [.pure (.agg [encL 1 (encL 1 encI_i64) y2.Points, encL 12 enc_RoadmapEdge y2.Edges]), .pure (.int .i64 y6), .pure (.int .i64 y5), .pure (.int .i64 x59.2.2)], [], .tup [.pure (.agg [encL 1 encI_i64 y82.1.Vertices, .int .i64 y82.1.Cost]), .pure (.bool y82.2)], []⟩) fun y82 =>
     .cut 1 (fun (y84 : Bool) => ⟨[(7, .ptr 0 0), (9, .pure (.int .i64 y5)), (10, .pure (.int .i64 y6)), (13, .pure (.int .i64 x59.2.2)), (14, .ptr 1 0), (15, .pure (.bool y80.2)), (80, .pure (.bool y84))], [(0, .box [.pure (encL 1 (encL 1 encI_i64) y2.Points), .pure (encL 12 enc_RoadmapEdge y2.Edges)]), (1, .box [.pure (encL 1 encI_i64 y80.1.Vertices), .pure (.int .i64 y80.1.Cost)])], [], 2⟩)
      (.br (!(y80.2 == y82.2))
       (.ret (.out true))
       (.br (y80.1.Cost != y82.1.Cost)
        (.ret (.out true))
        (.br (((y80.1.Vertices.length : Nat) : Int) != ((y82.1.Vertices.length : Nat) : Int))
         (.ret (.out true))
         (.br x59.2.1
          (.br (!y80.2)
           (.ret (.out true))
           (.ret (.out (decide (y80.1.Cost > x59.1)))))
          (.ret (.out false)))))) fun y84 =>
     .br y84
      (.ret (.fin false))
      (.ret (.next (y80.1.Cost, y80.2, (IntKind.i64.wrap (x59.2.2 + 1))))))
     (.ret (.out .u)))
   (0, false, 0) fun _ =>
  .call (law26_awake_F N) (fun y85 => ⟨[], 0, [], [], .pure (.bool y85), []⟩) fun y85 =>
  .ret y85

theorem law26_SearchModes_run (N : Nat) (a0 : (List Int)) (a1 : Int) (a2 : Int) : (law26_SearchModes_T N a0 a1 a2).run N = law26_SearchModes_F N a0 a1 a2 := by kernel_rfl

theorem law26_SearchModes_vc (N : Nat) (a0 : (List Int)) (a1 : Int) (a2 : Int) : (vcFuncT Try.prog drawB Try.f9 (Try.f9.body.getD .skip) 0 0 (law26_SearchModes_T N a0 a1 a2) [.pure (encL 1 encI_i64 a0), .pure (.int .i64 a1), .pure (.int .i64 a2)] [] (fun r => .pure (.bool r)) (fun _ => [])) =
    (∀ (y : S_Roadmap), make_Graph_F N a0 = some y → ((aS (AVal.pure (encL 1 encI_i64 a0)) ∧ True) ∧ True ∧ Spec Try.prog 22 0 [AVal.pure (encL 1 encI_i64 a0)] [] (AVal.pure (PVal.agg [encL 1 (encL 1 encI_i64) y.Points, encL 12 enc_RoadmapEdge y.Edges])) []) ∧ ∀ (y_1 : Int), make_Round_F N a1 (↑y.Points.length : Int) = some y_1 → ((aS (aI a1) ∧ aS (aI (↑y.Points.length : Int)) ∧ True) ∧ True ∧ Spec Try.prog 23 0 [aI a1, aI (↑y.Points.length : Int)] [] (aI y_1) []) ∧ ∀ (y_2 : Int), make_Round_F N a2 (↑y.Points.length : Int) = some y_2 → ((aS (aI a2) ∧ aS (aI (↑y.Points.length : Int)) ∧ True) ∧ True ∧ Spec Try.prog 23 0 [aI a2, aI (↑y.Points.length : Int)] [] (aI y_2) []) ∧ (∀ (_x : Int × Bool × Int), true = true ∧ 0 ≤ 1) ∧ (∀ (_y : U0), true = true ∧ 0 ≤ 0) ∧ ((aS (AVal.ptr 192 0) ∧ aS (aI y_1) ∧ aS (aI y_2) ∧ aS (aI 0) ∧ ASub AVal.ff (AVal.pure (PVal.bool false)) ∧ aS (aI 0) ∧ True) ∧ (rS (Res.box [AVal.pure (encL 1 (encL 1 encI_i64) y.Points), AVal.pure (encL 12 enc_RoadmapEdge y.Edges)]) ∧ True) ∧ True) ∧ (∀ (x : Int × Bool × Int), decide (x.snd.snd ≤ (2 : Int)) = decide (x.snd.snd ≤ (2 : Int)) ∧ (decide (x.snd.snd ≤ (2 : Int)) = true → ∀ (y_3 : S_Route × Bool), search_Shortest_F N y y_1 y_2 x.snd.snd = some y_3 → ((aS (AVal.pure (PVal.agg [encL 1 (encL 1 encI_i64) y.Points, encL 12 enc_RoadmapEdge y.Edges])) ∧ aS (aI y_1) ∧ aS (aI y_2) ∧ aS (aI x.snd.snd) ∧ True) ∧ True ∧ Spec Try.prog 26 0 [AVal.pure (PVal.agg [encL 1 (encL 1 encI_i64) y.Points, encL 12 enc_RoadmapEdge y.Edges]), aI y_1, aI y_2, aI x.snd.snd] [] (AVal.tup [AVal.pure (PVal.agg [encL 1 encI_i64 y_3.fst.Vertices, PVal.int IntKind.i64 y_3.fst.Cost]), AVal.pure (PVal.bool y_3.snd)]) []) ∧ ∀ (y_4 : S_Route × Bool), search_Shortest_F N y y_2 y_1 x.snd.snd = some y_4 → ((aS (AVal.pure (PVal.agg [encL 1 (encL 1 encI_i64) y.Points, encL 12 enc_RoadmapEdge y.Edges])) ∧ aS (aI y_2) ∧ aS (aI y_1) ∧ aS (aI x.snd.snd) ∧ True) ∧ True ∧ Spec Try.prog 26 0 [AVal.pure (PVal.agg [encL 1 (encL 1 encI_i64) y.Points, encL 12 enc_RoadmapEdge y.Edges]), aI y_2, aI y_1, aI x.snd.snd] [] (AVal.tup [AVal.pure (PVal.agg [encL 1 encI_i64 y_4.fst.Vertices, PVal.int IntKind.i64 y_4.fst.Cost]), AVal.pure (PVal.bool y_4.snd)]) []) ∧ (∀ (_y : Bool), true = true ∧ 0 ≤ 2) ∧ ((!y_3.snd == y_4.snd) = !y_3.snd == y_4.snd ∧ ((!y_3.snd == y_4.snd) = true → (aS (AVal.ptr 0 0) ∧ aS (aI y_1) ∧ aS (aI y_2) ∧ aS (aI x.snd.snd) ∧ aS (AVal.ptr 641 0) ∧ aS (AVal.pure (PVal.bool y_3.snd)) ∧ ASub AVal.tt (AVal.pure (PVal.bool true)) ∧ True) ∧ (rS (Res.box [AVal.pure (encL 1 (encL 1 encI_i64) y.Points), AVal.pure (encL 12 enc_RoadmapEdge y.Edges)]) ∧ rS (Res.box [AVal.pure (encL 1 encI_i64 y_3.fst.Vertices), aI y_3.fst.Cost]) ∧ True) ∧ True) ∧ ((!y_3.snd == y_4.snd) = false → (y_3.fst.Cost != y_4.fst.Cost) = (y_3.fst.Cost != y_4.fst.Cost) ∧ ((y_3.fst.Cost != y_4.fst.Cost) = true → (aS (AVal.ptr 0 0) ∧ aS (aI y_1) ∧ aS (aI y_2) ∧ aS (aI x.snd.snd) ∧ aS (AVal.ptr 641 0) ∧ aS (AVal.pure (PVal.bool y_3.snd)) ∧ ASub AVal.tt (AVal.pure (PVal.bool true)) ∧ True) ∧ (rS (Res.box [AVal.pure (encL 1 (encL 1 encI_i64) y.Points), AVal.pure (encL 12 enc_RoadmapEdge y.Edges)]) ∧ rS (Res.box [AVal.pure (encL 1 encI_i64 y_3.fst.Vertices), aI y_3.fst.Cost]) ∧ True) ∧ True) ∧ ((y_3.fst.Cost != y_4.fst.Cost) = false → ((↑y_3.fst.Vertices.length : Int) != (↑y_4.fst.Vertices.length : Int)) = ((↑y_3.fst.Vertices.length : Int) != (↑y_4.fst.Vertices.length : Int)) ∧ (((↑y_3.fst.Vertices.length : Int) != (↑y_4.fst.Vertices.length : Int)) = true → (aS (AVal.ptr 0 0) ∧ aS (aI y_1) ∧ aS (aI y_2) ∧ aS (aI x.snd.snd) ∧ aS (AVal.ptr 641 0) ∧ aS (AVal.pure (PVal.bool y_3.snd)) ∧ ASub AVal.tt (AVal.pure (PVal.bool true)) ∧ True) ∧ (rS (Res.box [AVal.pure (encL 1 (encL 1 encI_i64) y.Points), AVal.pure (encL 12 enc_RoadmapEdge y.Edges)]) ∧ rS (Res.box [AVal.pure (encL 1 encI_i64 y_3.fst.Vertices), aI y_3.fst.Cost]) ∧ True) ∧ True) ∧ (((↑y_3.fst.Vertices.length : Int) != (↑y_4.fst.Vertices.length : Int)) = false → x.snd.fst = x.snd.fst ∧ (x.snd.fst = true → (!y_3.snd) = !y_3.snd ∧ ((!y_3.snd) = true → (aS (AVal.ptr 0 0) ∧ aS (aI y_1) ∧ aS (aI y_2) ∧ aS (aI x.snd.snd) ∧ aS (AVal.ptr 641 0) ∧ aS (AVal.pure (PVal.bool y_3.snd)) ∧ ASub AVal.tt (AVal.pure (PVal.bool true)) ∧ True) ∧ (rS (Res.box [AVal.pure (encL 1 (encL 1 encI_i64) y.Points), AVal.pure (encL 12 enc_RoadmapEdge y.Edges)]) ∧ rS (Res.box [AVal.pure (encL 1 encI_i64 y_3.fst.Vertices), aI y_3.fst.Cost]) ∧ True) ∧ True) ∧ ((!y_3.snd) = false → (aS (AVal.ptr 0 0) ∧ aS (aI y_1) ∧ aS (aI y_2) ∧ aS (aI x.snd.snd) ∧ aS (AVal.ptr 641 0) ∧ aS (AVal.pure (PVal.bool y_3.snd)) ∧ aS (AVal.pure (PVal.bool (decide (y_3.fst.Cost > x.fst)))) ∧ True) ∧ (rS (Res.box [AVal.pure (encL 1 (encL 1 encI_i64) y.Points), AVal.pure (encL 12 enc_RoadmapEdge y.Edges)]) ∧ rS (Res.box [AVal.pure (encL 1 encI_i64 y_3.fst.Vertices), aI y_3.fst.Cost]) ∧ True) ∧ True)) ∧ (x.snd.fst = false → (aS (AVal.ptr 0 0) ∧ aS (aI y_1) ∧ aS (aI y_2) ∧ aS (aI x.snd.snd) ∧ aS (AVal.ptr 641 0) ∧ aS (AVal.pure (PVal.bool y_3.snd)) ∧ ASub AVal.ff (AVal.pure (PVal.bool false)) ∧ True) ∧ (rS (Res.box [AVal.pure (encL 1 (encL 1 encI_i64) y.Points), AVal.pure (encL 12 enc_RoadmapEdge y.Edges)]) ∧ rS (Res.box [AVal.pure (encL 1 encI_i64 y_3.fst.Vertices), aI y_3.fst.Cost]) ∧ True) ∧ True))))) ∧ ∀ (y_5 : Bool), y_5 = y_5 ∧ (y_5 = true → (aS (AVal.pure (PVal.bool false)) ∧ True) ∧ True ∧ True) ∧ (y_5 = false → (aS (AVal.ptr 0 0) ∧ aS (aI y_1) ∧ aS (aI y_2) ∧ aS (aI y_3.fst.Cost) ∧ aS (AVal.pure (PVal.bool y_3.snd)) ∧ aS (aI (IntKind.i64.wrap (x.snd.snd + (1 : Int)))) ∧ True) ∧ (rS (Res.box [AVal.pure (encL 1 (encL 1 encI_i64) y.Points), AVal.pure (encL 12 enc_RoadmapEdge y.Edges)]) ∧ True) ∧ True)) ∧ (decide (x.snd.snd ≤ (2 : Int)) = false → True ∧ True ∧ True)) ∧ ∀ (_y : U0) (y : Bool), law26_awake_F N = some y → (True ∧ True ∧ Spec Try.prog 21 0 [] [] (AVal.pure (PVal.bool y)) []) ∧ (aS (AVal.pure (PVal.bool y)) ∧ True) ∧ True ∧ True) := by kernel_rfl


set_option maxHeartbeats 4000000 in
theorem law26_SearchModes_spec (hd : DrawSound Try.prog drawB) {N : Nat} {a0 : (List Int)} {a1 : Int} {a2 : Int} {r : Bool} (h : law26_SearchModes_F N a0 a1 a2 = some r) : Spec Try.prog 9 0 [.pure (encL 1 encI_i64 a0), .pure (.int .i64 a1), .pure (.int .i64 a2)] [] (.pure (.bool r)) ([]) := by
  refine spec_ofT (n0 := 0) (res := fun r => .pure (.bool r)) (m' := fun _ => []) (law26_SearchModes_T N a0 a1 a2) ((law26_SearchModes_run N a0 a1 a2).trans h) hd Try.func9 (by kernel_rfl) (by kernel_rfl) ?_
  rw [law26_SearchModes_vc]
  repeat' (first | exact trivial | exact ASub.refl _ | exact RSub.refl _ | exact make_Graph_spec hd (by assumption) | exact make_Round_spec hd (by assumption) | exact search_Shortest_spec hd (by assumption) | exact law26_awake_spec hd (by assumption) | assumption | exact int_eq0 (by assumption) | exact of_decide_eq_true (by assumption) | exact of_decide_eq_false (by assumption) | rfl | (apply And.intro) | (intro _) | exact nl_a | exact ASub.tt rfl | exact ASub.ff rfl | exact mapR_upE rfl | exact RSub.nilv rfl rfl | exact RSub.gone | exact IsL.el | exact IsL.nl | exact IsL.lit (CSubs.of_eq rfl) rfl | refine IsL.lit ?_ rfl | exact IsL.rep (CSub.of_eq rfl) | refine IsL.a ?_ | refine IsL.r0 ?_ | refine IsLL.r ?_ | exact IsLL.el | exact IsLL.rep | refine IsLL.set ?_ ?_ | refine IsL.r ?_ ?_ | refine IsL.app ?_ ?_ | refine IsL.set ?_ (CSub.of_eq rfl) | refine IsL.set ?_ ?_ | exact IsL.sliceE (by omega) (by omega) | refine IsL.slice ?_ ?_ ?_ | exact IsL.take (by first | exact IsL.el | exact IsL.set IsL.el (CSub.of_eq rfl)) (by omega) | refine IsL.take ?_ ?_ | exact CSubs.nil' | refine CSubs.cons' ?_ ?_ | exact CSub.refl _ | exact nl_c | refine CSub.agg ?_ | refine IsL.c ?_ | exact PSubs.nil' | refine PSubs.cons' ?_ ?_ | exact PSub.refl _ | exact nl_p | refine IsL.p ?_ | refine (PSub.agg ?_).a | refine PSub.agg ?_ | refine ASub.agg ?_ | refine RSub.box ?_ | refine tup_a ?_ | refine ASub.p ?_ | omega)
end Go.Abs
