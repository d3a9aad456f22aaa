/-
  S3: what functions of the program compute, and their specifications (printed by a program of ours).
-/
import Derived.Test.YtjbncekcklkjaaaTBase
import Derived.Test.YtjbncekcklkjaaaChecked
import Derived.Test.YtjbncekcklkjaaaS1
import Derived.Test.YtjbncekcklkjaaaS2
namespace Go.Abs
open Go.Proofs
structure S_ref23_label where
  Cost : Int
  Edges : Int
instance : Inhabited S_ref23_label := ⟨⟨default, default⟩⟩
structure S_make_Source where
  list : (List Int)
  next : Int
instance : Inhabited S_make_Source := ⟨⟨default, default⟩⟩
def enc_ref23_label (v : S_ref23_label) : PVal := .agg [.int .i64 v.Cost, .int .i64 v.Edges]
def enc_arr_2_int (v : (Int × Int)) : PVal := .agg [.int .i64 v.1, .int .i64 v.2]
def enc_make_Source (v : S_make_Source) : PVal := .agg [encL 1 encI_i64 v.list, .int .i64 v.next]

def ref23_ordered_F (N : Nat) (a0 : S_Roadmap) : Option Bool :=
  andK (iter (fun (x25 : Int) => (
   bif (decide (x25 < ((a0.Edges.length : Nat) : Int))) then
    grd (0 ≤ x25 ∧ x25 < ((a0.Edges.length : Nat) : Int)) <|
    andC (
     bif (decide (((a0.Edges.getD ((x25).toNat) default).U) < 0)) then
      some (.out true)
     else
      bif (decide (((a0.Edges.getD ((x25).toNat) default).U) ≥ ((a0.Edges.getD ((x25).toNat) default).V))) then
       some (.out true)
      else
       some (.out (decide (((a0.Edges.getD ((x25).toNat) default).V) ≥ ((a0.Points.length : Nat) : Int)))) : Option (Step3 Unit Bool _)) fun y37 =>
    bif y37 then
     some (.fin false)
    else
     andC (
      bif (decide (x25 > 0)) then
       grd (0 ≤ (IntKind.i64.wrap (x25 - 1)) ∧ (IntKind.i64.wrap (x25 - 1)) < ((a0.Edges.length : Nat) : Int)) <|
       bif (decide (((a0.Edges.getD (((IntKind.i64.wrap (x25 - 1))).toNat) default).U) > ((a0.Edges.getD ((x25).toNat) default).U))) then
        some (.out true)
       else
        grd (0 ≤ (IntKind.i64.wrap (x25 - 1)) ∧ (IntKind.i64.wrap (x25 - 1)) < ((a0.Edges.length : Nat) : Int)) <|
        bif (((a0.Edges.getD (((IntKind.i64.wrap (x25 - 1))).toNat) default).U) == ((a0.Edges.getD ((x25).toNat) default).U)) then
         grd (0 ≤ (IntKind.i64.wrap (x25 - 1)) ∧ (IntKind.i64.wrap (x25 - 1)) < ((a0.Edges.length : Nat) : Int)) <|
         some (.out (decide (((a0.Edges.getD (((IntKind.i64.wrap (x25 - 1))).toNat) default).V) ≥ ((a0.Edges.getD ((x25).toNat) default).V))))
        else
         some (.out false)
      else
       some (.out false) : Option (Step3 Unit Bool _)) fun y38 =>
     bif y38 then
      some (.fin false)
     else
      some (.next (IntKind.i64.wrap (x25 + 1)))
   else
    some (.out .u) : Option (Step3 Int U0 _))) N 0) fun _ =>
  bif (decide (((a0.Points.length : Nat) : Int) ≤ 1024)) then
   some (decide (((a0.Edges.length : Nat) : Int) ≤ 8192))
  else
   some false

def ref23_ordered_T (_N : Nat) (a0 : S_Roadmap) : T Bool :=
  .loop (fun (x25 : Int) => ⟨[(1, .ptr 0 0), (3, .pure (.int .i64 x25))], [(0, .box [.pure (encL 1 (encL 1 encI_i64) a0.Points), .pure (encL 12 enc_RoadmapEdge a0.Edges)])], [], 1⟩)
   (.exit 0) (fun (_ : U0) => ⟨[(1, .ptr 0 0)], [(0, .box [.pure (encL 1 (encL 1 encI_i64) a0.Points), .pure (encL 12 enc_RoadmapEdge a0.Edges)])], [], 1⟩)
   (fun x25 => .br (decide (x25 < ((a0.Edges.length : Nat) : Int)))
     (.grd (0 ≤ x25 ∧ x25 < ((a0.Edges.length : Nat) : Int)) <|
     .cut 1 (fun (y37 : Bool) => ⟨[(1, .ptr 0 0), (3, .pure (.int .i64 x25)), (4, .ptr 1 0), (34, .pure (.bool y37))], [(0, .box [.pure (encL 1 (encL 1 encI_i64) a0.Points), .pure (encL 12 enc_RoadmapEdge a0.Edges)]), (1, .box [.pure (.int .i64 ((a0.Edges.getD ((x25).toNat) default).U)), .pure (.int .i64 ((a0.Edges.getD ((x25).toNat) default).V)), .pure (.int .i64 ((a0.Edges.getD ((x25).toNat) default).Cost)), .pure (.int .i64 ((a0.Edges.getD ((x25).toNat) default).State)), .pure (.int .i64 ((a0.Edges.getD ((x25).toNat) default).Proof.Kind)), .pure (encL 3 enc_Piece ((a0.Edges.getD ((x25).toNat) default).Proof.Pieces)), .pure (.int .i64 ((a0.Edges.getD ((x25).toNat) default).Proof.At.Depth)), .pure (.int .i64 ((a0.Edges.getD ((x25).toNat) default).Proof.At.Index)), .pure (encL 3 enc_arr_3_int64 ((a0.Edges.getD ((x25).toNat) default).Proof.At.Normals)), .pure (.int .i64 ((a0.Edges.getD ((x25).toNat) default).Proof.Witness.Pair)), .pure (encL 1 encI_i64 ((a0.Edges.getD ((x25).toNat) default).Proof.Witness.Left)), .pure (encL 1 encI_i64 ((a0.Edges.getD ((x25).toNat) default).Proof.Witness.Right))])], [], 2⟩)
      (.br (decide (((a0.Edges.getD ((x25).toNat) default).U) < 0))
       (.ret (.out true))
       (.br (decide (((a0.Edges.getD ((x25).toNat) default).U) ≥ ((a0.Edges.getD ((x25).toNat) default).V)))
        (.ret (.out true))
        (.ret (.out (decide (((a0.Edges.getD ((x25).toNat) default).V) ≥ ((a0.Points.length : Nat) : Int))))))) fun y37 =>
     .br y37
      (.ret (.fin false))
      (.cut 0 (fun (y38 : Bool) => ⟨[(1, .ptr 0 0), (3, .pure (.int .i64 x25)), (72, .pure (.bool y38))], [(0, .box [.pure (encL 1 (encL 1 encI_i64) a0.Points), .pure (encL 12 enc_RoadmapEdge a0.Edges)])], [], 1⟩)
       (.br (decide (x25 > 0))
        (.grd (0 ≤ (IntKind.i64.wrap (x25 - 1)) ∧ (IntKind.i64.wrap (x25 - 1)) < ((a0.Edges.length : Nat) : Int)) <|
        .br (decide (((a0.Edges.getD (((IntKind.i64.wrap (x25 - 1))).toNat) default).U) > ((a0.Edges.getD ((x25).toNat) default).U)))
         (.ret (.out true))
         (.grd (0 ≤ (IntKind.i64.wrap (x25 - 1)) ∧ (IntKind.i64.wrap (x25 - 1)) < ((a0.Edges.length : Nat) : Int)) <|
         .br (((a0.Edges.getD (((IntKind.i64.wrap (x25 - 1))).toNat) default).U) == ((a0.Edges.getD ((x25).toNat) default).U))
          (.grd (0 ≤ (IntKind.i64.wrap (x25 - 1)) ∧ (IntKind.i64.wrap (x25 - 1)) < ((a0.Edges.length : Nat) : Int)) <|
          .ret (.out (decide (((a0.Edges.getD (((IntKind.i64.wrap (x25 - 1))).toNat) default).V) ≥ ((a0.Edges.getD ((x25).toNat) default).V)))))
          (.ret (.out false))))
        (.ret (.out false))) fun y38 =>
      .br y38
       (.ret (.fin false))
       (.ret (.next (IntKind.i64.wrap (x25 + 1))))))
     (.ret (.out .u)))
   0 fun _ =>
  .br (decide (((a0.Points.length : Nat) : Int) ≤ 1024))
   (.ret (decide (((a0.Edges.length : Nat) : Int) ≤ 8192)))
   (.ret false)

theorem ref23_ordered_run (N : Nat) (a0 : S_Roadmap) : (ref23_ordered_T N a0).run N = ref23_ordered_F N a0 := by kernel_rfl

theorem ref23_ordered_vc (N : Nat) (a0 : S_Roadmap) : (vcFuncT Try.prog drawB Try.f68 (Try.f68.body.getD .skip) 0 0 (ref23_ordered_T N a0) [.pure (.agg [encL 1 (encL 1 encI_i64) a0.Points, encL 12 enc_RoadmapEdge a0.Edges])] [] (fun r => .pure (.bool r)) (fun _ => [])) =
    ((∀ (_x : Int), true = true ∧ 0 ≤ 1) ∧ (∀ (_y : U0), true = true ∧ 0 ≤ 1) ∧ ((aS (AVal.ptr 0 0) ∧ aS (aI 0) ∧ True) ∧ (rS (Res.box [AVal.pure (encL 1 (encL 1 encI_i64) a0.Points), AVal.pure (encL 12 enc_RoadmapEdge a0.Edges)]) ∧ True) ∧ True) ∧ (∀ (x : Int), decide (x < (↑a0.Edges.length : Int)) = decide (x < (↑a0.Edges.length : Int)) ∧ (decide (x < (↑a0.Edges.length : Int)) = true → (0 : Int) ≤ x ∧ x < (↑a0.Edges.length : Int) → ((0 : Int) ≤ x ∧ x < (↑a0.Edges.length : Int)) ∧ (∀ (_y : Bool), true = true ∧ 0 ≤ 2) ∧ (decide ((a0.Edges.getD x.toNat default).U < (0 : Int)) = decide ((a0.Edges.getD x.toNat default).U < (0 : Int)) ∧ (decide ((a0.Edges.getD x.toNat default).U < (0 : Int)) = true → (aS (AVal.ptr 0 0) ∧ aS (aI x) ∧ aS (AVal.ptr 641 0) ∧ ASub AVal.tt (AVal.pure (PVal.bool true)) ∧ True) ∧ (rS (Res.box [AVal.pure (encL 1 (encL 1 encI_i64) a0.Points), AVal.pure (encL 12 enc_RoadmapEdge a0.Edges)]) ∧ rS (Res.box [aI (a0.Edges.getD x.toNat default).U, aI (a0.Edges.getD x.toNat default).V, aI (a0.Edges.getD x.toNat default).Cost, aI (a0.Edges.getD x.toNat default).State, aI (a0.Edges.getD x.toNat default).Proof.Kind, AVal.pure (encL 3 enc_Piece (a0.Edges.getD x.toNat default).Proof.Pieces), aI (a0.Edges.getD x.toNat default).Proof.At.Depth, aI (a0.Edges.getD x.toNat default).Proof.At.Index, AVal.pure (encL 3 enc_arr_3_int64 (a0.Edges.getD x.toNat default).Proof.At.Normals), aI (a0.Edges.getD x.toNat default).Proof.Witness.Pair, AVal.pure (encL 1 encI_i64 (a0.Edges.getD x.toNat default).Proof.Witness.Left), AVal.pure (encL 1 encI_i64 (a0.Edges.getD x.toNat default).Proof.Witness.Right)]) ∧ True) ∧ True) ∧ (decide ((a0.Edges.getD x.toNat default).U < (0 : Int)) = false → decide ((a0.Edges.getD x.toNat default).U ≥ (a0.Edges.getD x.toNat default).V) = decide ((a0.Edges.getD x.toNat default).U ≥ (a0.Edges.getD x.toNat default).V) ∧ (decide ((a0.Edges.getD x.toNat default).U ≥ (a0.Edges.getD x.toNat default).V) = true → (aS (AVal.ptr 0 0) ∧ aS (aI x) ∧ aS (AVal.ptr 641 0) ∧ ASub AVal.tt (AVal.pure (PVal.bool true)) ∧ True) ∧ (rS (Res.box [AVal.pure (encL 1 (encL 1 encI_i64) a0.Points), AVal.pure (encL 12 enc_RoadmapEdge a0.Edges)]) ∧ rS (Res.box [aI (a0.Edges.getD x.toNat default).U, aI (a0.Edges.getD x.toNat default).V, aI (a0.Edges.getD x.toNat default).Cost, aI (a0.Edges.getD x.toNat default).State, aI (a0.Edges.getD x.toNat default).Proof.Kind, AVal.pure (encL 3 enc_Piece (a0.Edges.getD x.toNat default).Proof.Pieces), aI (a0.Edges.getD x.toNat default).Proof.At.Depth, aI (a0.Edges.getD x.toNat default).Proof.At.Index, AVal.pure (encL 3 enc_arr_3_int64 (a0.Edges.getD x.toNat default).Proof.At.Normals), aI (a0.Edges.getD x.toNat default).Proof.Witness.Pair, AVal.pure (encL 1 encI_i64 (a0.Edges.getD x.toNat default).Proof.Witness.Left), AVal.pure (encL 1 encI_i64 (a0.Edges.getD x.toNat default).Proof.Witness.Right)]) ∧ True) ∧ True) ∧ (decide ((a0.Edges.getD x.toNat default).U ≥ (a0.Edges.getD x.toNat default).V) = false → (aS (AVal.ptr 0 0) ∧ aS (aI x) ∧ aS (AVal.ptr 641 0) ∧ aS (AVal.pure (PVal.bool (decide ((a0.Edges.getD x.toNat default).V ≥ (↑a0.Points.length : Int))))) ∧ True) ∧ (rS (Res.box [AVal.pure (encL 1 (encL 1 encI_i64) a0.Points), AVal.pure (encL 12 enc_RoadmapEdge a0.Edges)]) ∧ rS (Res.box [aI (a0.Edges.getD x.toNat default).U, aI (a0.Edges.getD x.toNat default).V, aI (a0.Edges.getD x.toNat default).Cost, aI (a0.Edges.getD x.toNat default).State, aI (a0.Edges.getD x.toNat default).Proof.Kind, AVal.pure (encL 3 enc_Piece (a0.Edges.getD x.toNat default).Proof.Pieces), aI (a0.Edges.getD x.toNat default).Proof.At.Depth, aI (a0.Edges.getD x.toNat default).Proof.At.Index, AVal.pure (encL 3 enc_arr_3_int64 (a0.Edges.getD x.toNat default).Proof.At.Normals), aI (a0.Edges.getD x.toNat default).Proof.Witness.Pair, AVal.pure (encL 1 encI_i64 (a0.Edges.getD x.toNat default).Proof.Witness.Left), AVal.pure (encL 1 encI_i64 (a0.Edges.getD x.toNat default).Proof.Witness.Right)]) ∧ True) ∧ True))) ∧ ∀ (y : Bool), y = y ∧ (y = true → (aS (AVal.pure (PVal.bool false)) ∧ True) ∧ True ∧ True) ∧ (y = false → (∀ (_y : Bool), true = true ∧ 0 ≤ 1) ∧ (decide (x > (0 : Int)) = decide (x > (0 : Int)) ∧ (decide (x > (0 : Int)) = true → (0 : Int) ≤ IntKind.i64.wrap (x - (1 : Int)) ∧ IntKind.i64.wrap (x - (1 : Int)) < (↑a0.Edges.length : Int) → ((0 : Int) ≤ IntKind.i64.wrap (x - (1 : Int)) ∧ IntKind.i64.wrap (x - (1 : Int)) < (↑a0.Edges.length : Int)) ∧ decide ((a0.Edges.getD (IntKind.i64.wrap (x - (1 : Int))).toNat default).U > (a0.Edges.getD x.toNat default).U) = decide ((a0.Edges.getD (IntKind.i64.wrap (x - (1 : Int))).toNat default).U > (a0.Edges.getD x.toNat default).U) ∧ (decide ((a0.Edges.getD (IntKind.i64.wrap (x - (1 : Int))).toNat default).U > (a0.Edges.getD x.toNat default).U) = true → (aS (AVal.ptr 0 0) ∧ aS (aI x) ∧ ASub AVal.tt (AVal.pure (PVal.bool true)) ∧ True) ∧ (rS (Res.box [AVal.pure (encL 1 (encL 1 encI_i64) a0.Points), AVal.pure (encL 12 enc_RoadmapEdge a0.Edges)]) ∧ True) ∧ True) ∧ (decide ((a0.Edges.getD (IntKind.i64.wrap (x - (1 : Int))).toNat default).U > (a0.Edges.getD x.toNat default).U) = false → (0 : Int) ≤ IntKind.i64.wrap (x - (1 : Int)) ∧ IntKind.i64.wrap (x - (1 : Int)) < (↑a0.Edges.length : Int) → ((0 : Int) ≤ IntKind.i64.wrap (x - (1 : Int)) ∧ IntKind.i64.wrap (x - (1 : Int)) < (↑a0.Edges.length : Int)) ∧ ((a0.Edges.getD (IntKind.i64.wrap (x - (1 : Int))).toNat default).U == (a0.Edges.getD x.toNat default).U) = ((a0.Edges.getD (IntKind.i64.wrap (x - (1 : Int))).toNat default).U == (a0.Edges.getD x.toNat default).U) ∧ (((a0.Edges.getD (IntKind.i64.wrap (x - (1 : Int))).toNat default).U == (a0.Edges.getD x.toNat default).U) = true → (0 : Int) ≤ IntKind.i64.wrap (x - (1 : Int)) ∧ IntKind.i64.wrap (x - (1 : Int)) < (↑a0.Edges.length : Int) → ((0 : Int) ≤ IntKind.i64.wrap (x - (1 : Int)) ∧ IntKind.i64.wrap (x - (1 : Int)) < (↑a0.Edges.length : Int)) ∧ (aS (AVal.ptr 0 0) ∧ aS (aI x) ∧ aS (AVal.pure (PVal.bool (decide ((a0.Edges.getD (IntKind.i64.wrap (x - (1 : Int))).toNat default).V ≥ (a0.Edges.getD x.toNat default).V)))) ∧ True) ∧ (rS (Res.box [AVal.pure (encL 1 (encL 1 encI_i64) a0.Points), AVal.pure (encL 12 enc_RoadmapEdge a0.Edges)]) ∧ True) ∧ True) ∧ (((a0.Edges.getD (IntKind.i64.wrap (x - (1 : Int))).toNat default).U == (a0.Edges.getD x.toNat default).U) = false → (aS (AVal.ptr 0 0) ∧ aS (aI x) ∧ ASub AVal.ff (AVal.pure (PVal.bool false)) ∧ True) ∧ (rS (Res.box [AVal.pure (encL 1 (encL 1 encI_i64) a0.Points), AVal.pure (encL 12 enc_RoadmapEdge a0.Edges)]) ∧ True) ∧ True))) ∧ (decide (x > (0 : Int)) = false → (aS (AVal.ptr 0 0) ∧ aS (aI x) ∧ ASub AVal.ff (AVal.pure (PVal.bool false)) ∧ True) ∧ (rS (Res.box [AVal.pure (encL 1 (encL 1 encI_i64) a0.Points), AVal.pure (encL 12 enc_RoadmapEdge a0.Edges)]) ∧ True) ∧ True)) ∧ ∀ (y : Bool), y = y ∧ (y = true → (aS (AVal.pure (PVal.bool false)) ∧ True) ∧ True ∧ True) ∧ (y = false → (aS (AVal.ptr 0 0) ∧ aS (aI (IntKind.i64.wrap (x + (1 : Int)))) ∧ True) ∧ (rS (Res.box [AVal.pure (encL 1 (encL 1 encI_i64) a0.Points), AVal.pure (encL 12 enc_RoadmapEdge a0.Edges)]) ∧ True) ∧ True))) ∧ (decide (x < (↑a0.Edges.length : Int)) = false → (aS (AVal.ptr 0 0) ∧ True) ∧ (rS (Res.box [AVal.pure (encL 1 (encL 1 encI_i64) a0.Points), AVal.pure (encL 12 enc_RoadmapEdge a0.Edges)]) ∧ True) ∧ True)) ∧ ∀ (_y : U0), decide ((↑a0.Points.length : Int) ≤ (1024 : Int)) = decide ((↑a0.Points.length : Int) ≤ (1024 : Int)) ∧ (decide ((↑a0.Points.length : Int) ≤ (1024 : Int)) = true → (aS (AVal.pure (PVal.bool (decide ((↑a0.Edges.length : Int) ≤ (8192 : Int))))) ∧ True) ∧ True ∧ True) ∧ (decide ((↑a0.Points.length : Int) ≤ (1024 : Int)) = false → (aS (AVal.pure (PVal.bool false)) ∧ True) ∧ True ∧ True)) := by kernel_rfl


set_option maxHeartbeats 4000000 in
theorem ref23_ordered_spec (hd : DrawSound Try.prog drawB) {N : Nat} {a0 : S_Roadmap} {r : Bool} (h : ref23_ordered_F N a0 = some r) : Spec Try.prog 68 0 [.pure (.agg [encL 1 (encL 1 encI_i64) a0.Points, encL 12 enc_RoadmapEdge a0.Edges])] [] (.pure (.bool r)) ([]) := by
  refine spec_ofT (n0 := 0) (res := fun r => .pure (.bool r)) (m' := fun _ => []) (ref23_ordered_T N a0) ((ref23_ordered_run N a0).trans h) hd Try.func68 (by kernel_rfl) (by kernel_rfl) ?_
  rw [ref23_ordered_vc]
  repeat' (first | exact trivial | exact ASub.refl _ | exact RSub.refl _ | assumption | exact int_eq0 (by assumption) | exact of_decide_eq_true (by assumption) | exact of_decide_eq_false (by assumption) | rfl | (apply And.intro) | (intro _) | exact nl_a | exact ASub.tt rfl | exact ASub.ff rfl | exact mapR_upE rfl | exact RSub.nilv rfl rfl | exact RSub.gone | exact IsL.el | exact IsL.nl | exact IsL.lit (CSubs.of_eq rfl) rfl | refine IsL.lit ?_ rfl | exact IsL.rep (CSub.of_eq rfl) | refine IsL.a ?_ | refine IsL.r0 ?_ | refine IsLL.r ?_ | exact IsLL.el | exact IsLL.rep | refine IsLL.set ?_ ?_ | refine IsL.r ?_ ?_ | refine IsL.app ?_ ?_ | refine IsL.set ?_ (CSub.of_eq rfl) | refine IsL.set ?_ ?_ | exact IsL.sliceE (by omega) (by omega) | refine IsL.slice ?_ ?_ ?_ | exact IsL.take (by first | exact IsL.el | exact IsL.set IsL.el (CSub.of_eq rfl)) (by omega) | refine IsL.take ?_ ?_ | exact CSubs.nil' | refine CSubs.cons' ?_ ?_ | exact CSub.refl _ | exact nl_c | refine CSub.agg ?_ | refine IsL.c ?_ | exact PSubs.nil' | refine PSubs.cons' ?_ ?_ | exact PSub.refl _ | exact nl_p | refine IsL.p ?_ | refine (PSub.agg ?_).a | refine PSub.agg ?_ | refine ASub.agg ?_ | refine RSub.box ?_ | refine tup_a ?_ | refine ASub.p ?_ | omega)

def ref23_Formed_F (N : Nat) (a0 : S_Roadmap) : Option Bool :=
  andK (iter (fun (x13 : Int) => (
   bif (decide (x13 < ((a0.Edges.length : Nat) : Int))) then
    andC (
     grd (0 ≤ x13 ∧ x13 < ((a0.Edges.length : Nat) : Int)) <|
     bif (decide (((a0.Edges.getD ((x13).toNat) default).Cost) < 0)) then
      some (.out true)
     else
      grd (0 ≤ x13 ∧ x13 < ((a0.Edges.length : Nat) : Int)) <|
      some (.out (decide (((a0.Edges.getD ((x13).toNat) default).Cost) > 1099511627776))) : Option (Step3 Unit Bool _)) fun y18 =>
    bif y18 then
     some (.fin false)
    else
     some (.next (IntKind.i64.wrap (x13 + 1)))
   else
    some (.out .u) : Option (Step3 Int U0 _))) N 0) fun _ =>
  (ref23_ordered_F N a0).bind fun y19 =>
  some y19

def ref23_Formed_T (N : Nat) (a0 : S_Roadmap) : T Bool :=
  .loop (fun (x13 : Int) => ⟨[(1, .ptr 0 0), (3, .pure (.int .i64 x13))], [(0, .box [.pure (encL 1 (encL 1 encI_i64) a0.Points), .pure (encL 12 enc_RoadmapEdge a0.Edges)])], [], 1⟩)
   (.exit 0) (fun (_ : U0) => ⟨[(1, .ptr 0 0)], [(0, .box [.pure (encL 1 (encL 1 encI_i64) a0.Points), .pure (encL 12 enc_RoadmapEdge a0.Edges)])], [], 1⟩)
   (fun x13 => .br (decide (x13 < ((a0.Edges.length : Nat) : Int)))
     (.cut 1 (fun (y18 : Bool) => ⟨[(1, .ptr 0 0), (3, .pure (.int .i64 x13)), (26, .pure (.bool y18))], [(0, .box [.pure (encL 1 (encL 1 encI_i64) a0.Points), .pure (encL 12 enc_RoadmapEdge a0.Edges)])], [], 1⟩)
      (.grd (0 ≤ x13 ∧ x13 < ((a0.Edges.length : Nat) : Int)) <|
      .br (decide (((a0.Edges.getD ((x13).toNat) default).Cost) < 0))
       (.ret (.out true))
       (.grd (0 ≤ x13 ∧ x13 < ((a0.Edges.length : Nat) : Int)) <|
       .ret (.out (decide (((a0.Edges.getD ((x13).toNat) default).Cost) > 1099511627776))))) fun y18 =>
     .br y18
      (.ret (.fin false))
      (.ret (.next (IntKind.i64.wrap (x13 + 1)))))
     (.ret (.out .u)))
   0 fun _ =>
  .call (ref23_ordered_F N a0) (fun y19 => ⟨[], 0, [.pure (.agg [encL 1 (encL 1 encI_i64) a0.Points, encL 12 enc_RoadmapEdge a0.Edges])], [], .pure (.bool y19), []⟩) fun y19 =>
  .ret y19

theorem ref23_Formed_run (N : Nat) (a0 : S_Roadmap) : (ref23_Formed_T N a0).run N = ref23_Formed_F N a0 := by kernel_rfl

theorem ref23_Formed_vc (N : Nat) (a0 : S_Roadmap) : (vcFuncT Try.prog drawB Try.f64 (Try.f64.body.getD .skip) 0 0 (ref23_Formed_T N a0) [.pure (.agg [encL 1 (encL 1 encI_i64) a0.Points, encL 12 enc_RoadmapEdge a0.Edges])] [] (fun r => .pure (.bool r)) (fun _ => [])) =
    ((∀ (_x : Int), true = true ∧ 0 ≤ 1) ∧ (∀ (_y : U0), true = true ∧ 0 ≤ 1) ∧ ((aS (AVal.ptr 0 0) ∧ aS (aI 0) ∧ True) ∧ (rS (Res.box [AVal.pure (encL 1 (encL 1 encI_i64) a0.Points), AVal.pure (encL 12 enc_RoadmapEdge a0.Edges)]) ∧ True) ∧ True) ∧ (∀ (x : Int), decide (x < (↑a0.Edges.length : Int)) = decide (x < (↑a0.Edges.length : Int)) ∧ (decide (x < (↑a0.Edges.length : Int)) = true → (∀ (_y : Bool), true = true ∧ 0 ≤ 1) ∧ ((0 : Int) ≤ x ∧ x < (↑a0.Edges.length : Int) → ((0 : Int) ≤ x ∧ x < (↑a0.Edges.length : Int)) ∧ decide ((a0.Edges.getD x.toNat default).Cost < (0 : Int)) = decide ((a0.Edges.getD x.toNat default).Cost < (0 : Int)) ∧ (decide ((a0.Edges.getD x.toNat default).Cost < (0 : Int)) = true → (aS (AVal.ptr 0 0) ∧ aS (aI x) ∧ ASub AVal.tt (AVal.pure (PVal.bool true)) ∧ True) ∧ (rS (Res.box [AVal.pure (encL 1 (encL 1 encI_i64) a0.Points), AVal.pure (encL 12 enc_RoadmapEdge a0.Edges)]) ∧ True) ∧ True) ∧ (decide ((a0.Edges.getD x.toNat default).Cost < (0 : Int)) = false → (0 : Int) ≤ x ∧ x < (↑a0.Edges.length : Int) → ((0 : Int) ≤ x ∧ x < (↑a0.Edges.length : Int)) ∧ (aS (AVal.ptr 0 0) ∧ aS (aI x) ∧ aS (AVal.pure (PVal.bool (decide ((a0.Edges.getD x.toNat default).Cost > (1099511627776 : Int))))) ∧ True) ∧ (rS (Res.box [AVal.pure (encL 1 (encL 1 encI_i64) a0.Points), AVal.pure (encL 12 enc_RoadmapEdge a0.Edges)]) ∧ True) ∧ True)) ∧ ∀ (y : Bool), y = y ∧ (y = true → (aS (AVal.pure (PVal.bool false)) ∧ True) ∧ True ∧ True) ∧ (y = false → (aS (AVal.ptr 0 0) ∧ aS (aI (IntKind.i64.wrap (x + (1 : Int)))) ∧ True) ∧ (rS (Res.box [AVal.pure (encL 1 (encL 1 encI_i64) a0.Points), AVal.pure (encL 12 enc_RoadmapEdge a0.Edges)]) ∧ True) ∧ True)) ∧ (decide (x < (↑a0.Edges.length : Int)) = false → (aS (AVal.ptr 0 0) ∧ True) ∧ (rS (Res.box [AVal.pure (encL 1 (encL 1 encI_i64) a0.Points), AVal.pure (encL 12 enc_RoadmapEdge a0.Edges)]) ∧ True) ∧ True)) ∧ ∀ (_y : U0) (y : Bool), ref23_ordered_F N a0 = some y → ((aS (AVal.pure (PVal.agg [encL 1 (encL 1 encI_i64) a0.Points, encL 12 enc_RoadmapEdge a0.Edges])) ∧ True) ∧ True ∧ Spec Try.prog 68 0 [AVal.pure (PVal.agg [encL 1 (encL 1 encI_i64) a0.Points, encL 12 enc_RoadmapEdge a0.Edges])] [] (AVal.pure (PVal.bool y)) []) ∧ (aS (AVal.pure (PVal.bool y)) ∧ True) ∧ True ∧ True) := by kernel_rfl


set_option maxHeartbeats 4000000 in
theorem ref23_Formed_spec (hd : DrawSound Try.prog drawB) {N : Nat} {a0 : S_Roadmap} {r : Bool} (h : ref23_Formed_F N a0 = some r) : Spec Try.prog 64 0 [.pure (.agg [encL 1 (encL 1 encI_i64) a0.Points, encL 12 enc_RoadmapEdge a0.Edges])] [] (.pure (.bool r)) ([]) := by
  refine spec_ofT (n0 := 0) (res := fun r => .pure (.bool r)) (m' := fun _ => []) (ref23_Formed_T N a0) ((ref23_Formed_run N a0).trans h) hd Try.func64 (by kernel_rfl) (by kernel_rfl) ?_
  rw [ref23_Formed_vc]
  repeat' (first | exact trivial | exact ASub.refl _ | exact RSub.refl _ | exact ref23_ordered_spec hd (by assumption) | assumption | exact int_eq0 (by assumption) | exact of_decide_eq_true (by assumption) | exact of_decide_eq_false (by assumption) | rfl | (apply And.intro) | (intro _) | exact nl_a | exact ASub.tt rfl | exact ASub.ff rfl | exact mapR_upE rfl | exact RSub.nilv rfl rfl | exact RSub.gone | exact IsL.el | exact IsL.nl | exact IsL.lit (CSubs.of_eq rfl) rfl | refine IsL.lit ?_ rfl | exact IsL.rep (CSub.of_eq rfl) | refine IsL.a ?_ | refine IsL.r0 ?_ | refine IsLL.r ?_ | exact IsLL.el | exact IsLL.rep | refine IsLL.set ?_ ?_ | refine IsL.r ?_ ?_ | refine IsL.app ?_ ?_ | refine IsL.set ?_ (CSub.of_eq rfl) | refine IsL.set ?_ ?_ | exact IsL.sliceE (by omega) (by omega) | refine IsL.slice ?_ ?_ ?_ | exact IsL.take (by first | exact IsL.el | exact IsL.set IsL.el (CSub.of_eq rfl)) (by omega) | refine IsL.take ?_ ?_ | exact CSubs.nil' | refine CSubs.cons' ?_ ?_ | exact CSub.refl _ | exact nl_c | refine CSub.agg ?_ | refine IsL.c ?_ | exact PSubs.nil' | refine PSubs.cons' ?_ ?_ | exact PSub.refl _ | exact nl_p | refine IsL.p ?_ | refine (PSub.agg ?_).a | refine PSub.agg ?_ | refine ASub.agg ?_ | refine RSub.box ?_ | refine tup_a ?_ | refine ASub.p ?_ | omega)

def ref23_asked_F (N : Nat) (a0 : S_Roadmap) (a1 : Int) (a2 : Int) : Option Bool :=
  (ref23_Formed_F N a0).bind fun y1 =>
  bif y1 then
   bif (decide (a1 ≥ 0)) then
    bif (decide (a1 < ((a0.Points.length : Nat) : Int))) then
     bif (decide (a2 ≥ 0)) then
      some (decide (a2 < ((a0.Points.length : Nat) : Int)))
     else
      some false
    else
     some false
   else
    some false
  else
   some false

def ref23_asked_T (N : Nat) (a0 : S_Roadmap) (a1 : Int) (a2 : Int) : T Bool :=
  .call (ref23_Formed_F N a0) (fun y1 => ⟨[], 0, [.pure (.agg [encL 1 (encL 1 encI_i64) a0.Points, encL 12 enc_RoadmapEdge a0.Edges])], [], .pure (.bool y1), []⟩) fun y1 =>
  .br y1
   (.br (decide (a1 ≥ 0))
    (.br (decide (a1 < ((a0.Points.length : Nat) : Int)))
     (.br (decide (a2 ≥ 0))
      (.ret (decide (a2 < ((a0.Points.length : Nat) : Int))))
      (.ret false))
     (.ret false))
    (.ret false))
   (.ret false)

theorem ref23_asked_run (N : Nat) (a0 : S_Roadmap) (a1 : Int) (a2 : Int) : (ref23_asked_T N a0 a1 a2).run N = ref23_asked_F N a0 a1 a2 := by kernel_rfl

theorem ref23_asked_vc (N : Nat) (a0 : S_Roadmap) (a1 : Int) (a2 : Int) : (vcFuncT Try.prog drawB Try.f54 (Try.f54.body.getD .skip) 0 0 (ref23_asked_T N a0 a1 a2) [.pure (.agg [encL 1 (encL 1 encI_i64) a0.Points, encL 12 enc_RoadmapEdge a0.Edges]), .pure (.int .i64 a1), .pure (.int .i64 a2)] [] (fun r => .pure (.bool r)) (fun _ => [])) =
    (∀ (y : Bool), ref23_Formed_F N a0 = some y → ((aS (AVal.pure (PVal.agg [encL 1 (encL 1 encI_i64) a0.Points, encL 12 enc_RoadmapEdge a0.Edges])) ∧ True) ∧ True ∧ Spec Try.prog 64 0 [AVal.pure (PVal.agg [encL 1 (encL 1 encI_i64) a0.Points, encL 12 enc_RoadmapEdge a0.Edges])] [] (AVal.pure (PVal.bool y)) []) ∧ y = y ∧ (y = true → decide (a1 ≥ (0 : Int)) = decide (a1 ≥ (0 : Int)) ∧ (decide (a1 ≥ (0 : Int)) = true → decide (a1 < (↑a0.Points.length : Int)) = decide (a1 < (↑a0.Points.length : Int)) ∧ (decide (a1 < (↑a0.Points.length : Int)) = true → decide (a2 ≥ (0 : Int)) = decide (a2 ≥ (0 : Int)) ∧ (decide (a2 ≥ (0 : Int)) = true → (aS (AVal.pure (PVal.bool (decide (a2 < (↑a0.Points.length : Int))))) ∧ True) ∧ True ∧ True) ∧ (decide (a2 ≥ (0 : Int)) = false → (aS (AVal.pure (PVal.bool false)) ∧ True) ∧ True ∧ True)) ∧ (decide (a1 < (↑a0.Points.length : Int)) = false → (aS (AVal.pure (PVal.bool false)) ∧ True) ∧ True ∧ True)) ∧ (decide (a1 ≥ (0 : Int)) = false → (aS (AVal.pure (PVal.bool false)) ∧ True) ∧ True ∧ True)) ∧ (y = false → (aS (AVal.pure (PVal.bool false)) ∧ True) ∧ True ∧ True)) := by kernel_rfl


set_option maxHeartbeats 4000000 in
theorem ref23_asked_spec (hd : DrawSound Try.prog drawB) {N : Nat} {a0 : S_Roadmap} {a1 : Int} {a2 : Int} {r : Bool} (h : ref23_asked_F N a0 a1 a2 = some r) : Spec Try.prog 54 0 [.pure (.agg [encL 1 (encL 1 encI_i64) a0.Points, encL 12 enc_RoadmapEdge a0.Edges]), .pure (.int .i64 a1), .pure (.int .i64 a2)] [] (.pure (.bool r)) ([]) := by
  refine spec_ofT (n0 := 0) (res := fun r => .pure (.bool r)) (m' := fun _ => []) (ref23_asked_T N a0 a1 a2) ((ref23_asked_run N a0 a1 a2).trans h) hd Try.func54 (by kernel_rfl) (by kernel_rfl) ?_
  rw [ref23_asked_vc]
  repeat' (first | exact trivial | exact ASub.refl _ | exact RSub.refl _ | exact ref23_Formed_spec hd (by assumption) | assumption | exact int_eq0 (by assumption) | exact of_decide_eq_true (by assumption) | exact of_decide_eq_false (by assumption) | rfl | (apply And.intro) | (intro _) | exact nl_a | exact ASub.tt rfl | exact ASub.ff rfl | exact mapR_upE rfl | exact RSub.nilv rfl rfl | exact RSub.gone | exact IsL.el | exact IsL.nl | exact IsL.lit (CSubs.of_eq rfl) rfl | refine IsL.lit ?_ rfl | exact IsL.rep (CSub.of_eq rfl) | refine IsL.a ?_ | refine IsL.r0 ?_ | refine IsLL.r ?_ | exact IsLL.el | exact IsLL.rep | refine IsLL.set ?_ ?_ | refine IsL.r ?_ ?_ | refine IsL.app ?_ ?_ | refine IsL.set ?_ (CSub.of_eq rfl) | refine IsL.set ?_ ?_ | exact IsL.sliceE (by omega) (by omega) | refine IsL.slice ?_ ?_ ?_ | exact IsL.take (by first | exact IsL.el | exact IsL.set IsL.el (CSub.of_eq rfl)) (by omega) | refine IsL.take ?_ ?_ | exact CSubs.nil' | refine CSubs.cons' ?_ ?_ | exact CSub.refl _ | exact nl_c | refine CSub.agg ?_ | refine IsL.c ?_ | exact PSubs.nil' | refine PSubs.cons' ?_ ?_ | exact PSub.refl _ | exact nl_p | refine IsL.p ?_ | refine (PSub.agg ?_).a | refine PSub.agg ?_ | refine ASub.agg ?_ | refine RSub.box ?_ | refine tup_a ?_ | refine ASub.p ?_ | omega)

def ref23_UsableIn_F (_N : Nat) (a0 : S_RoadmapEdge) (a1 : Int) : Option Bool :=
  bif (a1 == 0) then
   some (a0.State == 1)
  else
   bif (a1 == 1) then
    bif (a0.State == 1) then
     some true
    else
     some (a0.State == 0)
   else
    bif (a1 == 2) then
     some (a0.State != 2)
    else
     some false

def ref23_UsableIn_T (_N : Nat) (a0 : S_RoadmapEdge) (a1 : Int) : T Bool :=
  .br (a1 == 0)
   (.ret (a0.State == 1))
   (.br (a1 == 1)
    (.br (a0.State == 1)
     (.ret true)
     (.ret (a0.State == 0)))
    (.br (a1 == 2)
     (.ret (a0.State != 2))
     (.ret false)))

theorem ref23_UsableIn_run (N : Nat) (a0 : S_RoadmapEdge) (a1 : Int) : (ref23_UsableIn_T N a0 a1).run N = ref23_UsableIn_F N a0 a1 := by kernel_rfl

theorem ref23_UsableIn_vc (N : Nat) (a0 : S_RoadmapEdge) (a1 : Int) : (vcFuncT Try.prog drawB Try.f28 (Try.f28.body.getD .skip) 0 0 (ref23_UsableIn_T N a0 a1) [.pure (.agg [.int .i64 a0.U, .int .i64 a0.V, .int .i64 a0.Cost, .int .i64 a0.State, .int .i64 a0.Proof.Kind, encL 3 enc_Piece a0.Proof.Pieces, .int .i64 a0.Proof.At.Depth, .int .i64 a0.Proof.At.Index, encL 3 enc_arr_3_int64 a0.Proof.At.Normals, .int .i64 a0.Proof.Witness.Pair, encL 1 encI_i64 a0.Proof.Witness.Left, encL 1 encI_i64 a0.Proof.Witness.Right]), .pure (.int .i64 a1)] [] (fun r => .pure (.bool r)) (fun _ => [])) =
    ((a1 == (0 : Int)) = (a1 == (0 : Int)) ∧ ((a1 == (0 : Int)) = true → (aS (AVal.pure (PVal.bool (a0.State == (1 : Int)))) ∧ True) ∧ True ∧ True) ∧ ((a1 == (0 : Int)) = false → (a1 == (1 : Int)) = (a1 == (1 : Int)) ∧ ((a1 == (1 : Int)) = true → (a0.State == (1 : Int)) = (a0.State == (1 : Int)) ∧ ((a0.State == (1 : Int)) = true → (aS (AVal.pure (PVal.bool true)) ∧ True) ∧ True ∧ True) ∧ ((a0.State == (1 : Int)) = false → (aS (AVal.pure (PVal.bool (a0.State == (0 : Int)))) ∧ True) ∧ True ∧ True)) ∧ ((a1 == (1 : Int)) = false → (a1 == (2 : Int)) = (a1 == (2 : Int)) ∧ ((a1 == (2 : Int)) = true → (aS (AVal.pure (PVal.bool (a0.State != (2 : Int)))) ∧ True) ∧ True ∧ True) ∧ ((a1 == (2 : Int)) = false → (aS (AVal.pure (PVal.bool false)) ∧ True) ∧ True ∧ True)))) := by kernel_rfl


set_option maxHeartbeats 4000000 in
theorem ref23_UsableIn_spec (hd : DrawSound Try.prog drawB) {N : Nat} {a0 : S_RoadmapEdge} {a1 : Int} {r : Bool} (h : ref23_UsableIn_F N a0 a1 = some r) : Spec Try.prog 28 0 [.pure (.agg [.int .i64 a0.U, .int .i64 a0.V, .int .i64 a0.Cost, .int .i64 a0.State, .int .i64 a0.Proof.Kind, encL 3 enc_Piece a0.Proof.Pieces, .int .i64 a0.Proof.At.Depth, .int .i64 a0.Proof.At.Index, encL 3 enc_arr_3_int64 a0.Proof.At.Normals, .int .i64 a0.Proof.Witness.Pair, encL 1 encI_i64 a0.Proof.Witness.Left, encL 1 encI_i64 a0.Proof.Witness.Right]), .pure (.int .i64 a1)] [] (.pure (.bool r)) ([]) := by
  refine spec_ofT (n0 := 0) (res := fun r => .pure (.bool r)) (m' := fun _ => []) (ref23_UsableIn_T N a0 a1) ((ref23_UsableIn_run N a0 a1).trans h) hd Try.func28 (by kernel_rfl) (by kernel_rfl) ?_
  rw [ref23_UsableIn_vc]
  repeat' (first | exact trivial | exact ASub.refl _ | exact RSub.refl _ | assumption | exact int_eq0 (by assumption) | exact of_decide_eq_true (by assumption) | exact of_decide_eq_false (by assumption) | rfl | (apply And.intro) | (intro _) | exact nl_a | exact ASub.tt rfl | exact ASub.ff rfl | exact mapR_upE rfl | exact RSub.nilv rfl rfl | exact RSub.gone | exact IsL.el | exact IsL.nl | exact IsL.lit (CSubs.of_eq rfl) rfl | refine IsL.lit ?_ rfl | exact IsL.rep (CSub.of_eq rfl) | refine IsL.a ?_ | refine IsL.r0 ?_ | refine IsLL.r ?_ | exact IsLL.el | exact IsLL.rep | refine IsLL.set ?_ ?_ | refine IsL.r ?_ ?_ | refine IsL.app ?_ ?_ | refine IsL.set ?_ (CSub.of_eq rfl) | refine IsL.set ?_ ?_ | exact IsL.sliceE (by omega) (by omega) | refine IsL.slice ?_ ?_ ?_ | exact IsL.take (by first | exact IsL.el | exact IsL.set IsL.el (CSub.of_eq rfl)) (by omega) | refine IsL.take ?_ ?_ | exact CSubs.nil' | refine CSubs.cons' ?_ ?_ | exact CSub.refl _ | exact nl_c | refine CSub.agg ?_ | refine IsL.c ?_ | exact PSubs.nil' | refine PSubs.cons' ?_ ?_ | exact PSub.refl _ | exact nl_p | refine IsL.p ?_ | refine (PSub.agg ?_).a | refine PSub.agg ?_ | refine ASub.agg ?_ | refine RSub.box ?_ | refine tup_a ?_ | refine ASub.p ?_ | omega)

def ref23_less_F (_N : Nat) (a0 : S_ref23_label) (a1 : S_ref23_label) : Option Bool :=
  andC (
   bif (decide (a1.Cost < 0)) then
    some (.out true)
   else
    some (.out (decide (a0.Cost < 0))) : Option (Step3 Unit Bool _)) fun y2 =>
  bif y2 then
   bif (decide (a0.Cost ≥ 0)) then
    some (decide (a1.Cost < 0))
   else
    some false
  else
   bif (decide (a0.Cost < a1.Cost)) then
    some true
   else
    bif (a0.Cost == a1.Cost) then
     some (decide (a0.Edges < a1.Edges))
    else
     some false

def ref23_less_T (_N : Nat) (a0 : S_ref23_label) (a1 : S_ref23_label) : T Bool :=
  .cut 2 (fun (y2 : Bool) => ⟨[(2, .ptr 0 0), (3, .ptr 1 0), (12, .pure (.bool y2))], [(0, .box [.pure (.int .i64 a0.Cost), .pure (.int .i64 a0.Edges)]), (1, .box [.pure (.int .i64 a1.Cost), .pure (.int .i64 a1.Edges)])], [], 2⟩)
   (.br (decide (a1.Cost < 0))
    (.ret (.out true))
    (.ret (.out (decide (a0.Cost < 0))))) fun y2 =>
  .br y2
   (.br (decide (a0.Cost ≥ 0))
    (.ret (decide (a1.Cost < 0)))
    (.ret false))
   (.br (decide (a0.Cost < a1.Cost))
    (.ret true)
    (.br (a0.Cost == a1.Cost)
     (.ret (decide (a0.Edges < a1.Edges)))
     (.ret false)))

theorem ref23_less_run (N : Nat) (a0 : S_ref23_label) (a1 : S_ref23_label) : (ref23_less_T N a0 a1).run N = ref23_less_F N a0 a1 := by kernel_rfl

theorem ref23_less_vc (N : Nat) (a0 : S_ref23_label) (a1 : S_ref23_label) : (vcFuncT Try.prog drawB Try.f65 (Try.f65.body.getD .skip) 0 0 (ref23_less_T N a0 a1) [.pure (.agg [.int .i64 a0.Cost, .int .i64 a0.Edges]), .pure (.agg [.int .i64 a1.Cost, .int .i64 a1.Edges])] [] (fun r => .pure (.bool r)) (fun _ => [])) =
    ((∀ (_y : Bool), true = true ∧ 0 ≤ 2) ∧ (decide (a1.Cost < (0 : Int)) = decide (a1.Cost < (0 : Int)) ∧ (decide (a1.Cost < (0 : Int)) = true → (aS (AVal.ptr 0 0) ∧ aS (AVal.ptr 64 0) ∧ ASub AVal.tt (AVal.pure (PVal.bool true)) ∧ True) ∧ (rS (Res.box [aI a0.Cost, aI a0.Edges]) ∧ rS (Res.box [aI a1.Cost, aI a1.Edges]) ∧ True) ∧ True) ∧ (decide (a1.Cost < (0 : Int)) = false → (aS (AVal.ptr 0 0) ∧ aS (AVal.ptr 64 0) ∧ aS (AVal.pure (PVal.bool (decide (a0.Cost < (0 : Int))))) ∧ True) ∧ (rS (Res.box [aI a0.Cost, aI a0.Edges]) ∧ rS (Res.box [aI a1.Cost, aI a1.Edges]) ∧ True) ∧ True)) ∧ ∀ (y : Bool), y = y ∧ (y = true → decide (a0.Cost ≥ (0 : Int)) = decide (a0.Cost ≥ (0 : Int)) ∧ (decide (a0.Cost ≥ (0 : Int)) = true → (aS (AVal.pure (PVal.bool (decide (a1.Cost < (0 : Int))))) ∧ True) ∧ True ∧ True) ∧ (decide (a0.Cost ≥ (0 : Int)) = false → (aS (AVal.pure (PVal.bool false)) ∧ True) ∧ True ∧ True)) ∧ (y = false → decide (a0.Cost < a1.Cost) = decide (a0.Cost < a1.Cost) ∧ (decide (a0.Cost < a1.Cost) = true → (aS (AVal.pure (PVal.bool true)) ∧ True) ∧ True ∧ True) ∧ (decide (a0.Cost < a1.Cost) = false → (a0.Cost == a1.Cost) = (a0.Cost == a1.Cost) ∧ ((a0.Cost == a1.Cost) = true → (aS (AVal.pure (PVal.bool (decide (a0.Edges < a1.Edges)))) ∧ True) ∧ True ∧ True) ∧ ((a0.Cost == a1.Cost) = false → (aS (AVal.pure (PVal.bool false)) ∧ True) ∧ True ∧ True)))) := by kernel_rfl


set_option maxHeartbeats 4000000 in
theorem ref23_less_spec (hd : DrawSound Try.prog drawB) {N : Nat} {a0 : S_ref23_label} {a1 : S_ref23_label} {r : Bool} (h : ref23_less_F N a0 a1 = some r) : Spec Try.prog 65 0 [.pure (.agg [.int .i64 a0.Cost, .int .i64 a0.Edges]), .pure (.agg [.int .i64 a1.Cost, .int .i64 a1.Edges])] [] (.pure (.bool r)) ([]) := by
  refine spec_ofT (n0 := 0) (res := fun r => .pure (.bool r)) (m' := fun _ => []) (ref23_less_T N a0 a1) ((ref23_less_run N a0 a1).trans h) hd Try.func65 (by kernel_rfl) (by kernel_rfl) ?_
  rw [ref23_less_vc]
  repeat' (first | exact trivial | exact ASub.refl _ | exact RSub.refl _ | assumption | exact int_eq0 (by assumption) | exact of_decide_eq_true (by assumption) | exact of_decide_eq_false (by assumption) | rfl | (apply And.intro) | (intro _) | exact nl_a | exact ASub.tt rfl | exact ASub.ff rfl | exact mapR_upE rfl | exact RSub.nilv rfl rfl | exact RSub.gone | exact IsL.el | exact IsL.nl | exact IsL.lit (CSubs.of_eq rfl) rfl | refine IsL.lit ?_ rfl | exact IsL.rep (CSub.of_eq rfl) | refine IsL.a ?_ | refine IsL.r0 ?_ | refine IsLL.r ?_ | exact IsLL.el | exact IsLL.rep | refine IsLL.set ?_ ?_ | refine IsL.r ?_ ?_ | refine IsL.app ?_ ?_ | refine IsL.set ?_ (CSub.of_eq rfl) | refine IsL.set ?_ ?_ | exact IsL.sliceE (by omega) (by omega) | refine IsL.slice ?_ ?_ ?_ | exact IsL.take (by first | exact IsL.el | exact IsL.set IsL.el (CSub.of_eq rfl)) (by omega) | refine IsL.take ?_ ?_ | exact CSubs.nil' | refine CSubs.cons' ?_ ?_ | exact CSub.refl _ | exact nl_c | refine CSub.agg ?_ | refine IsL.c ?_ | exact PSubs.nil' | refine PSubs.cons' ?_ ?_ | exact PSub.refl _ | exact nl_p | refine IsL.p ?_ | refine (PSub.agg ?_).a | refine PSub.agg ?_ | refine ASub.agg ?_ | refine RSub.box ?_ | refine tup_a ?_ | refine ASub.p ?_ | omega)

def ref23_labels_F (N : Nat) (a0 : S_Roadmap) (a1 : Int) (a2 : Int) : Option (List S_ref23_label) :=
  grd (0 ≤ ((a0.Points.length : Nat) : Int) ∧ ((a0.Points.length : Nat) : Int) ≤ ((a0.Points.length : Nat) : Int) ∧ ((a0.Points.length : Nat) : Int) ≤ 9223372036854775807 ∧ ((a0.Points.length : Nat) : Int) * 16 ≤ 140737488355328) <|
  andK (iter (fun (x2537 : ((List S_ref23_label) × Int)) => (
   bif (decide (x2537.2 < ((x2537.1.length : Nat) : Int))) then
    grd (0 ≤ x2537.2 ∧ x2537.2 < ((x2537.1.length : Nat) : Int)) <|
    grd ((x2537.2).toNat < x2537.1.length ∧ 0 ≤ (x2537.2).toNat) <|
    some (.next ((x2537.1.set ((x2537.2).toNat) (⟨(-1), (x2537.1.getD ((x2537.2).toNat) default).Edges⟩ : S_ref23_label)), (IntKind.i64.wrap (x2537.2 + 1))))
   else
    some (.out x2537.1) : Option (Step3 ((List S_ref23_label) × Int) (List S_ref23_label) _))) N ((List.replicate (((a0.Points.length : Nat) : Int)).toNat (⟨0, 0⟩ : S_ref23_label)), 0)) fun y2538 =>
  grd (0 ≤ a1 ∧ a1 < ((y2538.length : Nat) : Int)) <|
  grd ((a1).toNat < y2538.length ∧ 0 ≤ (a1).toNat) <|
  andK (iter (fun (x4223 : ((List S_ref23_label) × Bool)) => (
   bif x4223.2 then
    andK (iter (fun (x4785 : ((List S_ref23_label) × Bool × Int)) => (
     bif (decide (x4785.2.2 < ((a0.Edges.length : Nat) : Int))) then
      andC (
       grd (0 ≤ x4785.2.2 ∧ x4785.2.2 < ((a0.Edges.length : Nat) : Int)) <|
       (ref23_UsableIn_F N (a0.Edges.getD ((x4785.2.2).toNat) default) a2).bind fun y5022 =>
       bif (!y5022) then
        some (.out (x4785.1, x4785.2.1))
       else
        andK (iter (fun (x5037 : ((List S_ref23_label) × Bool × (List (Int × Int)) × Int)) => (
         bif (decide (x5037.2.2.2 < ((2 : Nat) : Int))) then
          andC (
           grd (0 ≤ x5037.2.2.2 ∧ x5037.2.2.2 < ((x5037.2.2.1.length : Nat) : Int)) <|
           grd ((x5037.2.2.2).toNat < x5037.2.2.1.length) <|
           grd (0 ≤ 0 ∧ 0 < ((2 : Nat) : Int)) <|
           grd (0 ≤ ((x5037.2.2.1.getD ((x5037.2.2.2).toNat) default).1) ∧ ((x5037.2.2.1.getD ((x5037.2.2.2).toNat) default).1) < ((x5037.1.length : Nat) : Int)) <|
           grd (((x5037.2.2.1.getD ((x5037.2.2.2).toNat) default).1).toNat < x5037.1.length) <|
           bif (decide (((x5037.1.getD (((x5037.2.2.1.getD ((x5037.2.2.2).toNat) default).1).toNat) default).Cost) < 0)) then
            some (.out (x5037.1, x5037.2.1))
           else
            (fun z5062 =>
            grd (0 ≤ 1 ∧ 1 < ((2 : Nat) : Int)) <|
             grd (0 ≤ ((x5037.2.2.1.getD ((x5037.2.2.2).toNat) default).2) ∧ ((x5037.2.2.1.getD ((x5037.2.2.2).toNat) default).2) < ((x5037.1.length : Nat) : Int)) <|
             grd (((x5037.2.2.1.getD ((x5037.2.2.2).toNat) default).2).toNat < x5037.1.length) <|
             (ref23_less_F N (⟨z5062, (IntKind.i64.wrap (((x5037.1.getD (((x5037.2.2.1.getD ((x5037.2.2.2).toNat) default).1).toNat) default).Edges) + 1))⟩ : S_ref23_label) (x5037.1.getD (((x5037.2.2.1.getD ((x5037.2.2.2).toNat) default).2).toNat) default)).bind fun y5064 =>
             bif y5064 then
              grd (0 ≤ 1 ∧ 1 < ((2 : Nat) : Int)) <|
              grd (0 ≤ ((x5037.2.2.1.getD ((x5037.2.2.2).toNat) default).2) ∧ ((x5037.2.2.1.getD ((x5037.2.2.2).toNat) default).2) < ((x5037.1.length : Nat) : Int)) <|
              grd (((x5037.2.2.1.getD ((x5037.2.2.2).toNat) default).2).toNat < x5037.1.length ∧ 0 ≤ ((x5037.2.2.1.getD ((x5037.2.2.2).toNat) default).2).toNat) <|
              some (.out ((x5037.1.set (((x5037.2.2.1.getD ((x5037.2.2.2).toNat) default).2).toNat) (⟨z5062, (IntKind.i64.wrap (((x5037.1.getD (((x5037.2.2.1.getD ((x5037.2.2.2).toNat) default).1).toNat) default).Edges) + 1))⟩ : S_ref23_label)), true))
             else
              some (.out (x5037.1, x5037.2.1))) ((IntKind.i64.wrap (((x5037.1.getD (((x5037.2.2.1.getD ((x5037.2.2.2).toNat) default).1).toNat) default).Cost) + ((a0.Edges.getD ((x4785.2.2).toNat) default).Cost)))) : Option (Step3 Unit ((List S_ref23_label) × Bool) _)) fun y5060 =>
          some (.next (y5060.1, y5060.2, x5037.2.2.1, (IntKind.i64.wrap (x5037.2.2.2 + 1))))
         else
          some (.out (x5037.1, x5037.2.1)) : Option (Step3 ((List S_ref23_label) × Bool × (List (Int × Int)) × Int) ((List S_ref23_label) × Bool) _))) N (x4785.1, x4785.2.1, ([((a0.Edges.getD ((x4785.2.2).toNat) default).U, (a0.Edges.getD ((x4785.2.2).toNat) default).V), ((a0.Edges.getD ((x4785.2.2).toNat) default).V, (a0.Edges.getD ((x4785.2.2).toNat) default).U)] : (List (Int × Int))), 0)) fun y5051 =>
        some (.out (y5051.1, y5051.2)) : Option (Step3 Unit ((List S_ref23_label) × Bool) _)) fun y5018 =>
      some (.next (y5018.1, y5018.2, (IntKind.i64.wrap (x4785.2.2 + 1))))
     else
      some (.out (x4785.1, x4785.2.1)) : Option (Step3 ((List S_ref23_label) × Bool × Int) ((List S_ref23_label) × Bool) _))) N (x4223.1, false, 0)) fun y4925 =>
    some (.next (y4925.1, y4925.2))
   else
    some (.out x4223.1) : Option (Step3 ((List S_ref23_label) × Bool) (List S_ref23_label) _))) N ((y2538.set ((a1).toNat) (⟨0, 0⟩ : S_ref23_label)), true)) fun y4644 =>
  some y4644

def ref23_labels_T (N : Nat) (a0 : S_Roadmap) (a1 : Int) (a2 : Int) : T (List S_ref23_label) :=
  .grd (0 ≤ ((a0.Points.length : Nat) : Int) ∧ ((a0.Points.length : Nat) : Int) ≤ ((a0.Points.length : Nat) : Int) ∧ ((a0.Points.length : Nat) : Int) ≤ 9223372036854775807 ∧ ((a0.Points.length : Nat) : Int) * 16 ≤ 140737488355328) <|
  .loop (fun (x2537 : ((List S_ref23_label) × Int)) => ⟨[(1, .pure (.int .i64 a1)), (2, .pure (.int .i64 a2)), (3, .ptr 0 0), (7, .vec 1), (8, .pure (.int .i64 x2537.2))], [(0, .box [.pure (encL 1 (encL 1 encI_i64) a0.Points), .pure (encL 12 enc_RoadmapEdge a0.Edges)]), (1, vecO 2 enc_ref23_label x2537.1 99)], [], 2⟩)
   (.exit 0) (fun (y2538 : (List S_ref23_label)) => ⟨[(1, .pure (.int .i64 a1)), (2, .pure (.int .i64 a2)), (3, .ptr 0 0), (7, .vec 1)], [(0, .box [.pure (encL 1 (encL 1 encI_i64) a0.Points), .pure (encL 12 enc_RoadmapEdge a0.Edges)]), (1, vecO 2 enc_ref23_label y2538 99)], [], 2⟩)
   (fun x2537 => .br (decide (x2537.2 < ((x2537.1.length : Nat) : Int)))
     (.grd (0 ≤ x2537.2 ∧ x2537.2 < ((x2537.1.length : Nat) : Int)) <|
     .grd ((x2537.2).toNat < x2537.1.length ∧ 0 ≤ (x2537.2).toNat) <|
     .ret (.next ((x2537.1.set ((x2537.2).toNat) (⟨(-1), (x2537.1.getD ((x2537.2).toNat) default).Edges⟩ : S_ref23_label)), (IntKind.i64.wrap (x2537.2 + 1)))))
     (.ret (.out x2537.1)))
   ((List.replicate (((a0.Points.length : Nat) : Int)).toNat (⟨0, 0⟩ : S_ref23_label)), 0) fun y2538 =>
  .grd (0 ≤ a1 ∧ a1 < ((y2538.length : Nat) : Int)) <|
  .grd ((a1).toNat < y2538.length ∧ 0 ≤ (a1).toNat) <|
  .loop (fun (x4223 : ((List S_ref23_label) × Bool)) => ⟨[(2, .pure (.int .i64 a2)), (3, .ptr 0 0), (7, .vec 1), (9, .pure (.bool x4223.2))], [(0, .box [.pure (encL 1 (encL 1 encI_i64) a0.Points), .pure (encL 12 enc_RoadmapEdge a0.Edges)]), (1, vecO 2 enc_ref23_label x4223.1 99)], [], 2⟩)
   (.exit 2) (fun (y4644 : (List S_ref23_label)) => ⟨[(7, .vec 0)], [(0, vecO 2 enc_ref23_label y4644 99)], [], 1⟩)
   (fun x4223 => .br x4223.2
     (.loop (fun (x4785 : ((List S_ref23_label) × Bool × Int)) => ⟨[(2, .pure (.int .i64 a2)), (3, .ptr 0 0), (7, .vec 1), (9, .pure (.bool x4785.2.1)), (10, .pure (.int .i64 x4785.2.2))], [(0, .box [.pure (encL 1 (encL 1 encI_i64) a0.Points), .pure (encL 12 enc_RoadmapEdge a0.Edges)]), (1, vecO 2 enc_ref23_label x4785.1 99)], [], 2⟩)
      (.exit 4) (fun (y4925 : ((List S_ref23_label) × Bool)) => ⟨[(2, .pure (.int .i64 a2)), (3, .ptr 0 0), (7, .vec 1), (9, .pure (.bool y4925.2))], [(0, .box [.pure (encL 1 (encL 1 encI_i64) a0.Points), .pure (encL 12 enc_RoadmapEdge a0.Edges)]), (1, vecO 2 enc_ref23_label y4925.1 99)], [], 2⟩)
      (fun x4785 => .br (decide (x4785.2.2 < ((a0.Edges.length : Nat) : Int)))
        (.cut 0 (fun (y5018 : ((List S_ref23_label) × Bool)) => ⟨[(2, .pure (.int .i64 a2)), (3, .ptr 0 0), (7, .vec 1), (9, .pure (.bool y5018.2)), (10, .pure (.int .i64 x4785.2.2))], [(0, .box [.pure (encL 1 (encL 1 encI_i64) a0.Points), .pure (encL 12 enc_RoadmapEdge a0.Edges)]), (1, vecO 2 enc_ref23_label y5018.1 99)], [], 2⟩)
         (.grd (0 ≤ x4785.2.2 ∧ x4785.2.2 < ((a0.Edges.length : Nat) : Int)) <|
         .call (ref23_UsableIn_F N (a0.Edges.getD ((x4785.2.2).toNat) default) a2) (fun y5022 => ⟨[], 0, [.pure (.agg [.int .i64 ((a0.Edges.getD ((x4785.2.2).toNat) default).U), .int .i64 ((a0.Edges.getD ((x4785.2.2).toNat) default).V), .int .i64 ((a0.Edges.getD ((x4785.2.2).toNat) default).Cost), .int .i64 ((a0.Edges.getD ((x4785.2.2).toNat) default).State), .int .i64 ((a0.Edges.getD ((x4785.2.2).toNat) default).Proof.Kind), encL 3 enc_Piece ((a0.Edges.getD ((x4785.2.2).toNat) default).Proof.Pieces), .int .i64 ((a0.Edges.getD ((x4785.2.2).toNat) default).Proof.At.Depth), .int .i64 ((a0.Edges.getD ((x4785.2.2).toNat) default).Proof.At.Index), encL 3 enc_arr_3_int64 ((a0.Edges.getD ((x4785.2.2).toNat) default).Proof.At.Normals), .int .i64 ((a0.Edges.getD ((x4785.2.2).toNat) default).Proof.Witness.Pair), encL 1 encI_i64 ((a0.Edges.getD ((x4785.2.2).toNat) default).Proof.Witness.Left), encL 1 encI_i64 ((a0.Edges.getD ((x4785.2.2).toNat) default).Proof.Witness.Right)]), .pure (.int .i64 a2)], [], .pure (.bool y5022), []⟩) fun y5022 =>
         .br (!y5022)
          (.ret (.out (x4785.1, x4785.2.1)))
          (.loop (fun (x5037 : ((List S_ref23_label) × Bool × (List (Int × Int)) × Int)) => ⟨[(2, .pure (.int .i64 a2)), (3, .ptr 0 0), (7, .vec 1), (9, .pure (.bool x5037.2.1)), (10, .pure (.int .i64 x4785.2.2)), (11, .ptr 2 0), (60, .vec 3), (61, .pure (.int .i64 ((2 : Nat) : Int))), (62, .pure (.int .i64 x5037.2.2.2))], [(0, .box [.pure (encL 1 (encL 1 encI_i64) a0.Points), .pure (encL 12 enc_RoadmapEdge a0.Edges)]), (1, vecO 2 enc_ref23_label x5037.1 99), (2, .box [.pure (.int .i64 ((a0.Edges.getD ((x4785.2.2).toNat) default).U)), .pure (.int .i64 ((a0.Edges.getD ((x4785.2.2).toNat) default).V)), .pure (.int .i64 ((a0.Edges.getD ((x4785.2.2).toNat) default).Cost)), .pure (.int .i64 ((a0.Edges.getD ((x4785.2.2).toNat) default).State)), .pure (.int .i64 ((a0.Edges.getD ((x4785.2.2).toNat) default).Proof.Kind)), .pure (encL 3 enc_Piece ((a0.Edges.getD ((x4785.2.2).toNat) default).Proof.Pieces)), .pure (.int .i64 ((a0.Edges.getD ((x4785.2.2).toNat) default).Proof.At.Depth)), .pure (.int .i64 ((a0.Edges.getD ((x4785.2.2).toNat) default).Proof.At.Index)), .pure (encL 3 enc_arr_3_int64 ((a0.Edges.getD ((x4785.2.2).toNat) default).Proof.At.Normals)), .pure (.int .i64 ((a0.Edges.getD ((x4785.2.2).toNat) default).Proof.Witness.Pair)), .pure (encL 1 encI_i64 ((a0.Edges.getD ((x4785.2.2).toNat) default).Proof.Witness.Left)), .pure (encL 1 encI_i64 ((a0.Edges.getD ((x4785.2.2).toNat) default).Proof.Witness.Right))]), (3, vecO 2 enc_arr_2_int x5037.2.2.1 102)], [], 4⟩)
           (.exit 6) (fun (y5051 : ((List S_ref23_label) × Bool)) => ⟨[(2, .pure (.int .i64 a2)), (3, .ptr 0 0), (7, .vec 1), (9, .pure (.bool y5051.2)), (10, .pure (.int .i64 x4785.2.2))], [(0, .box [.pure (encL 1 (encL 1 encI_i64) a0.Points), .pure (encL 12 enc_RoadmapEdge a0.Edges)]), (1, vecO 2 enc_ref23_label y5051.1 99)], [], 2⟩)
           (fun x5037 => .br (decide (x5037.2.2.2 < ((2 : Nat) : Int)))
             (.cut 0 (fun (y5060 : ((List S_ref23_label) × Bool)) => ⟨[(2, .pure (.int .i64 a2)), (3, .ptr 0 0), (7, .vec 1), (9, .pure (.bool y5060.2)), (10, .pure (.int .i64 x4785.2.2)), (11, .ptr 2 0), (60, .vec 3), (61, .pure (.int .i64 ((2 : Nat) : Int))), (62, .pure (.int .i64 x5037.2.2.2))], [(0, .box [.pure (encL 1 (encL 1 encI_i64) a0.Points), .pure (encL 12 enc_RoadmapEdge a0.Edges)]), (1, vecO 2 enc_ref23_label y5060.1 99), (2, .box [.pure (.int .i64 ((a0.Edges.getD ((x4785.2.2).toNat) default).U)), .pure (.int .i64 ((a0.Edges.getD ((x4785.2.2).toNat) default).V)), .pure (.int .i64 ((a0.Edges.getD ((x4785.2.2).toNat) default).Cost)), .pure (.int .i64 ((a0.Edges.getD ((x4785.2.2).toNat) default).State)), .pure (.int .i64 ((a0.Edges.getD ((x4785.2.2).toNat) default).Proof.Kind)), .pure (encL 3 enc_Piece ((a0.Edges.getD ((x4785.2.2).toNat) default).Proof.Pieces)), .pure (.int .i64 ((a0.Edges.getD ((x4785.2.2).toNat) default).Proof.At.Depth)), .pure (.int .i64 ((a0.Edges.getD ((x4785.2.2).toNat) default).Proof.At.Index)), .pure (encL 3 enc_arr_3_int64 ((a0.Edges.getD ((x4785.2.2).toNat) default).Proof.At.Normals)), .pure (.int .i64 ((a0.Edges.getD ((x4785.2.2).toNat) default).Proof.Witness.Pair)), .pure (encL 1 encI_i64 ((a0.Edges.getD ((x4785.2.2).toNat) default).Proof.Witness.Left)), .pure (encL 1 encI_i64 ((a0.Edges.getD ((x4785.2.2).toNat) default).Proof.Witness.Right))]), (3, vecO 2 enc_arr_2_int x5037.2.2.1 102)], [], 4⟩)
              (.grd (0 ≤ x5037.2.2.2 ∧ x5037.2.2.2 < ((x5037.2.2.1.length : Nat) : Int)) <|
              .grd ((x5037.2.2.2).toNat < x5037.2.2.1.length) <|
              .grd (0 ≤ 0 ∧ 0 < ((2 : Nat) : Int)) <|
              .grd (0 ≤ ((x5037.2.2.1.getD ((x5037.2.2.2).toNat) default).1) ∧ ((x5037.2.2.1.getD ((x5037.2.2.2).toNat) default).1) < ((x5037.1.length : Nat) : Int)) <|
              .grd (((x5037.2.2.1.getD ((x5037.2.2.2).toNat) default).1).toNat < x5037.1.length) <|
              .br (decide (((x5037.1.getD (((x5037.2.2.1.getD ((x5037.2.2.2).toNat) default).1).toNat) default).Cost) < 0))
               (.ret (.out (x5037.1, x5037.2.1)))
               (.name 20004 ((IntKind.i64.wrap (((x5037.1.getD (((x5037.2.2.1.getD ((x5037.2.2.2).toNat) default).1).toNat) default).Cost) + ((a0.Edges.getD ((x4785.2.2).toNat) default).Cost)))) fun z5062 =>
               .grd (0 ≤ 1 ∧ 1 < ((2 : Nat) : Int)) <|
               .grd (0 ≤ ((x5037.2.2.1.getD ((x5037.2.2.2).toNat) default).2) ∧ ((x5037.2.2.1.getD ((x5037.2.2.2).toNat) default).2) < ((x5037.1.length : Nat) : Int)) <|
               .grd (((x5037.2.2.1.getD ((x5037.2.2.2).toNat) default).2).toNat < x5037.1.length) <|
               .call (ref23_less_F N (⟨z5062, (IntKind.i64.wrap (((x5037.1.getD (((x5037.2.2.1.getD ((x5037.2.2.2).toNat) default).1).toNat) default).Edges) + 1))⟩ : S_ref23_label) (x5037.1.getD (((x5037.2.2.1.getD ((x5037.2.2.2).toNat) default).2).toNat) default)) (fun y5064 => ⟨[], 0, [.pure (.agg [.int .i64 ((⟨z5062, (IntKind.i64.wrap (((x5037.1.getD (((x5037.2.2.1.getD ((x5037.2.2.2).toNat) default).1).toNat) default).Edges) + 1))⟩ : S_ref23_label).Cost), .int .i64 ((⟨z5062, (IntKind.i64.wrap (((x5037.1.getD (((x5037.2.2.1.getD ((x5037.2.2.2).toNat) default).1).toNat) default).Edges) + 1))⟩ : S_ref23_label).Edges)]), .pure (.agg [.int .i64 ((x5037.1.getD (((x5037.2.2.1.getD ((x5037.2.2.2).toNat) default).2).toNat) default).Cost), .int .i64 ((x5037.1.getD (((x5037.2.2.1.getD ((x5037.2.2.2).toNat) default).2).toNat) default).Edges)])], [], .pure (.bool y5064), []⟩) fun y5064 =>
               .br y5064
                (.grd (0 ≤ 1 ∧ 1 < ((2 : Nat) : Int)) <|
                .grd (0 ≤ ((x5037.2.2.1.getD ((x5037.2.2.2).toNat) default).2) ∧ ((x5037.2.2.1.getD ((x5037.2.2.2).toNat) default).2) < ((x5037.1.length : Nat) : Int)) <|
                .grd (((x5037.2.2.1.getD ((x5037.2.2.2).toNat) default).2).toNat < x5037.1.length ∧ 0 ≤ ((x5037.2.2.1.getD ((x5037.2.2.2).toNat) default).2).toNat) <|
                .ret (.out ((x5037.1.set (((x5037.2.2.1.getD ((x5037.2.2.2).toNat) default).2).toNat) (⟨z5062, (IntKind.i64.wrap (((x5037.1.getD (((x5037.2.2.1.getD ((x5037.2.2.2).toNat) default).1).toNat) default).Edges) + 1))⟩ : S_ref23_label)), true)))
                (.ret (.out (x5037.1, x5037.2.1))))) fun y5060 =>
             .ret (.next (y5060.1, y5060.2, x5037.2.2.1, (IntKind.i64.wrap (x5037.2.2.2 + 1)))))
             (.ret (.out (x5037.1, x5037.2.1))))
           (x4785.1, x4785.2.1, ([((a0.Edges.getD ((x4785.2.2).toNat) default).U, (a0.Edges.getD ((x4785.2.2).toNat) default).V), ((a0.Edges.getD ((x4785.2.2).toNat) default).V, (a0.Edges.getD ((x4785.2.2).toNat) default).U)] : (List (Int × Int))), 0) fun y5051 =>
          .ret (.out (y5051.1, y5051.2)))) fun y5018 =>
        .ret (.next (y5018.1, y5018.2, (IntKind.i64.wrap (x4785.2.2 + 1)))))
        (.ret (.out (x4785.1, x4785.2.1))))
      (x4223.1, false, 0) fun y4925 =>
     .ret (.next (y4925.1, y4925.2)))
     (.ret (.out x4223.1)))
   ((y2538.set ((a1).toNat) (⟨0, 0⟩ : S_ref23_label)), true) fun y4644 =>
  .ret y4644

theorem ref23_labels_run (N : Nat) (a0 : S_Roadmap) (a1 : Int) (a2 : Int) : (ref23_labels_T N a0 a1 a2).run N = ref23_labels_F N a0 a1 a2 := by kernel_rfl

theorem ref23_labels_vc (N : Nat) (a0 : S_Roadmap) (a1 : Int) (a2 : Int) : (vcFuncT Try.prog drawB Try.f55 (Try.f55.body.getD .skip) 0 0 (ref23_labels_T N a0 a1 a2) [.pure (.agg [encL 1 (encL 1 encI_i64) a0.Points, encL 12 enc_RoadmapEdge a0.Edges]), .pure (.int .i64 a1), .pure (.int .i64 a2)] [] (fun r => .pure (encL 2 enc_ref23_label r)) (fun _ => [])) =
    ((0 : Int) ≤ (↑a0.Points.length : Int) ∧ (↑a0.Points.length : Int) ≤ (↑a0.Points.length : Int) ∧ (↑a0.Points.length : Int) ≤ (9223372036854775807 : Int) ∧ (↑a0.Points.length : Int) * (16 : Int) ≤ (140737488355328 : Int) → ((0 : Int) ≤ (↑a0.Points.length : Int) ∧ (↑a0.Points.length : Int) ≤ (↑a0.Points.length : Int) ∧ (↑a0.Points.length : Int) ≤ (9223372036854775807 : Int) ∧ (↑a0.Points.length : Int) * (↑16 : Int) ≤ (140737488355328 : Int)) ∧ (∀ (_x : List S_ref23_label × Int), true = true ∧ 0 ≤ 2) ∧ (∀ (_y : List S_ref23_label), true = true ∧ 0 ≤ 2) ∧ ((aS (aI a1) ∧ aS (aI a2) ∧ aS (AVal.ptr 0 0) ∧ aS (AVal.vec 320) ∧ aS (aI 0) ∧ True) ∧ (rS (Res.box [AVal.pure (encL 1 (encL 1 encI_i64) a0.Points), AVal.pure (encL 12 enc_RoadmapEdge a0.Edges)]) ∧ RSub (Res.vec 2 (↑a0.Points.length : Int).toNat (fun (_x : Nat) => PVal.agg [PVal.int IntKind.i64 0, PVal.int IntKind.i64 0]) 0 99) (vecO 2 enc_ref23_label (List.replicate (↑a0.Points.length : Int).toNat (S_ref23_label.mk (0 : Int) (0 : Int))) 99) ∧ True) ∧ True) ∧ (∀ (x : List S_ref23_label × Int), decide (x.snd < (↑x.fst.length : Int)) = decide (x.snd < (↑x.fst.length : Int)) ∧ (decide (x.snd < (↑x.fst.length : Int)) = true → (0 : Int) ≤ x.snd ∧ x.snd < (↑x.fst.length : Int) → ((0 : Int) ≤ x.snd ∧ x.snd < (↑x.fst.length : Int)) ∧ (x.snd.toNat < x.fst.length ∧ 0 ≤ x.snd.toNat → (x.snd.toNat < x.fst.length ∧ 0 ≤ x.snd.toNat) ∧ (aS (aI a1) ∧ aS (aI a2) ∧ aS (AVal.ptr 0 0) ∧ aS (AVal.vec 1) ∧ aS (aI (IntKind.i64.wrap (x.snd + (1 : Int)))) ∧ True) ∧ (rS (Res.box [AVal.pure (encL 1 (encL 1 encI_i64) a0.Points), AVal.pure (encL 12 enc_RoadmapEdge a0.Edges)]) ∧ RSub (Res.vec 2 x.fst.length (fun (j : Nat) => if j = x.snd.toNat then mkElem (el enc_ref23_label x.fst x.snd.toNat) (List.take 0 (el enc_ref23_label x.fst x.snd.toNat).cells ++ [PVal.int IntKind.i64 (-1 : Int)] ++ List.drop 1 (el enc_ref23_label x.fst x.snd.toNat).cells) else el enc_ref23_label x.fst j) 0 99) (vecO 2 enc_ref23_label (x.fst.set x.snd.toNat (S_ref23_label.mk (-1 : Int) (x.fst.getD x.snd.toNat default).Edges)) 99) ∧ True) ∧ True)) ∧ (decide (x.snd < (↑x.fst.length : Int)) = false → (aS (aI a1) ∧ aS (aI a2) ∧ aS (AVal.ptr 0 0) ∧ aS (AVal.vec 1) ∧ True) ∧ (rS (Res.box [AVal.pure (encL 1 (encL 1 encI_i64) a0.Points), AVal.pure (encL 12 enc_RoadmapEdge a0.Edges)]) ∧ rS (vecO 2 enc_ref23_label x.fst 99) ∧ True) ∧ True)) ∧ ∀ (y : List S_ref23_label), (0 : Int) ≤ a1 ∧ a1 < (↑y.length : Int) → ((0 : Int) ≤ a1 ∧ a1 < (↑y.length : Int)) ∧ (a1.toNat < y.length ∧ 0 ≤ a1.toNat → (a1.toNat < y.length ∧ 0 ≤ a1.toNat) ∧ (∀ (_x : List S_ref23_label × Bool), true = true ∧ 0 ≤ 2) ∧ (∀ (_y : List S_ref23_label), true = true ∧ 0 ≤ 1) ∧ ((aS (aI a2) ∧ aS (AVal.ptr 0 0) ∧ aS (AVal.vec 1) ∧ ASub AVal.tt (AVal.pure (PVal.bool true)) ∧ True) ∧ (rS (Res.box [AVal.pure (encL 1 (encL 1 encI_i64) a0.Points), AVal.pure (encL 12 enc_RoadmapEdge a0.Edges)]) ∧ RSub (Res.vec 2 y.length (fun (j : Nat) => if j = a1.toNat then PVal.agg [PVal.int IntKind.i64 0, PVal.int IntKind.i64 0] else el enc_ref23_label y j) 0 99) (vecO 2 enc_ref23_label (y.set a1.toNat (S_ref23_label.mk (0 : Int) (0 : Int))) 99) ∧ True) ∧ True) ∧ (∀ (x : List S_ref23_label × Bool), x.snd = x.snd ∧ (x.snd = true → (∀ (_x : List S_ref23_label × Bool × Int), true = true ∧ 0 ≤ 2) ∧ (∀ (_y : List S_ref23_label × Bool), true = true ∧ 0 ≤ 2) ∧ ((aS (aI a2) ∧ aS (AVal.ptr 0 0) ∧ aS (AVal.vec 1) ∧ ASub AVal.ff (AVal.pure (PVal.bool false)) ∧ aS (aI 0) ∧ True) ∧ (rS (Res.box [AVal.pure (encL 1 (encL 1 encI_i64) a0.Points), AVal.pure (encL 12 enc_RoadmapEdge a0.Edges)]) ∧ rS (vecO 2 enc_ref23_label x.fst 99) ∧ True) ∧ True) ∧ (∀ (x : List S_ref23_label × Bool × Int), decide (x.snd.snd < (↑a0.Edges.length : Int)) = decide (x.snd.snd < (↑a0.Edges.length : Int)) ∧ (decide (x.snd.snd < (↑a0.Edges.length : Int)) = true → (∀ (_y : List S_ref23_label × Bool), true = true ∧ 0 ≤ 2) ∧ ((0 : Int) ≤ x.snd.snd ∧ x.snd.snd < (↑a0.Edges.length : Int) → ((0 : Int) ≤ x.snd.snd ∧ x.snd.snd < (↑a0.Edges.length : Int)) ∧ ∀ (y : Bool), ref23_UsableIn_F N (a0.Edges.getD x.snd.snd.toNat default) a2 = some y → ((aS (AVal.pure (PVal.agg [PVal.int IntKind.i64 (a0.Edges.getD x.snd.snd.toNat default).U, PVal.int IntKind.i64 (a0.Edges.getD x.snd.snd.toNat default).V, PVal.int IntKind.i64 (a0.Edges.getD x.snd.snd.toNat default).Cost, PVal.int IntKind.i64 (a0.Edges.getD x.snd.snd.toNat default).State, PVal.int IntKind.i64 (a0.Edges.getD x.snd.snd.toNat default).Proof.Kind, encL 3 enc_Piece (a0.Edges.getD x.snd.snd.toNat default).Proof.Pieces, PVal.int IntKind.i64 (a0.Edges.getD x.snd.snd.toNat default).Proof.At.Depth, PVal.int IntKind.i64 (a0.Edges.getD x.snd.snd.toNat default).Proof.At.Index, encL 3 enc_arr_3_int64 (a0.Edges.getD x.snd.snd.toNat default).Proof.At.Normals, PVal.int IntKind.i64 (a0.Edges.getD x.snd.snd.toNat default).Proof.Witness.Pair, encL 1 encI_i64 (a0.Edges.getD x.snd.snd.toNat default).Proof.Witness.Left, encL 1 encI_i64 (a0.Edges.getD x.snd.snd.toNat default).Proof.Witness.Right])) ∧ aS (aI a2) ∧ True) ∧ True ∧ Spec Try.prog 28 0 [AVal.pure (PVal.agg [PVal.int IntKind.i64 (a0.Edges.getD x.snd.snd.toNat default).U, PVal.int IntKind.i64 (a0.Edges.getD x.snd.snd.toNat default).V, PVal.int IntKind.i64 (a0.Edges.getD x.snd.snd.toNat default).Cost, PVal.int IntKind.i64 (a0.Edges.getD x.snd.snd.toNat default).State, PVal.int IntKind.i64 (a0.Edges.getD x.snd.snd.toNat default).Proof.Kind, encL 3 enc_Piece (a0.Edges.getD x.snd.snd.toNat default).Proof.Pieces, PVal.int IntKind.i64 (a0.Edges.getD x.snd.snd.toNat default).Proof.At.Depth, PVal.int IntKind.i64 (a0.Edges.getD x.snd.snd.toNat default).Proof.At.Index, encL 3 enc_arr_3_int64 (a0.Edges.getD x.snd.snd.toNat default).Proof.At.Normals, PVal.int IntKind.i64 (a0.Edges.getD x.snd.snd.toNat default).Proof.Witness.Pair, encL 1 encI_i64 (a0.Edges.getD x.snd.snd.toNat default).Proof.Witness.Left, encL 1 encI_i64 (a0.Edges.getD x.snd.snd.toNat default).Proof.Witness.Right]), aI a2] [] (AVal.pure (PVal.bool y)) []) ∧ (!y) = !y ∧ ((!y) = true → (aS (aI a2) ∧ aS (AVal.ptr 0 0) ∧ aS (AVal.vec 1) ∧ aS (AVal.pure (PVal.bool x.snd.fst)) ∧ aS (aI x.snd.snd) ∧ True) ∧ (rS (Res.box [AVal.pure (encL 1 (encL 1 encI_i64) a0.Points), AVal.pure (encL 12 enc_RoadmapEdge a0.Edges)]) ∧ rS (vecO 2 enc_ref23_label x.fst 99) ∧ True) ∧ True) ∧ ((!y) = false → (∀ (_x : List S_ref23_label × Bool × List (Int × Int) × Int), true = true ∧ 0 ≤ 4) ∧ (∀ (_y : List S_ref23_label × Bool), true = true ∧ 0 ≤ 2) ∧ ((aS (aI a2) ∧ aS (AVal.ptr 0 0) ∧ aS (AVal.vec 1) ∧ aS (AVal.pure (PVal.bool x.snd.fst)) ∧ aS (aI x.snd.snd) ∧ aS (AVal.ptr 642 0) ∧ aS (AVal.vec 1666) ∧ aS (aI (↑2 : Int)) ∧ aS (aI 0) ∧ True) ∧ (rS (Res.box [AVal.pure (encL 1 (encL 1 encI_i64) a0.Points), AVal.pure (encL 12 enc_RoadmapEdge a0.Edges)]) ∧ rS (vecO 2 enc_ref23_label x.fst 99) ∧ rS (Res.box [aI (a0.Edges.getD x.snd.snd.toNat default).U, aI (a0.Edges.getD x.snd.snd.toNat default).V, aI (a0.Edges.getD x.snd.snd.toNat default).Cost, aI (a0.Edges.getD x.snd.snd.toNat default).State, aI (a0.Edges.getD x.snd.snd.toNat default).Proof.Kind, AVal.pure (encL 3 enc_Piece (a0.Edges.getD x.snd.snd.toNat default).Proof.Pieces), aI (a0.Edges.getD x.snd.snd.toNat default).Proof.At.Depth, aI (a0.Edges.getD x.snd.snd.toNat default).Proof.At.Index, AVal.pure (encL 3 enc_arr_3_int64 (a0.Edges.getD x.snd.snd.toNat default).Proof.At.Normals), aI (a0.Edges.getD x.snd.snd.toNat default).Proof.Witness.Pair, AVal.pure (encL 1 encI_i64 (a0.Edges.getD x.snd.snd.toNat default).Proof.Witness.Left), AVal.pure (encL 1 encI_i64 (a0.Edges.getD x.snd.snd.toNat default).Proof.Witness.Right)]) ∧ RSub (Res.vec 2 2 (fun (i : Nat) => lget [PVal.agg [PVal.int IntKind.i64 (a0.Edges.getD x.snd.snd.toNat default).U, PVal.int IntKind.i64 (a0.Edges.getD x.snd.snd.toNat default).V], PVal.agg [PVal.int IntKind.i64 (a0.Edges.getD x.snd.snd.toNat default).V, PVal.int IntKind.i64 (a0.Edges.getD x.snd.snd.toNat default).U]] i) 0 102) (vecO 2 enc_arr_2_int [((a0.Edges.getD x.snd.snd.toNat default).U, (a0.Edges.getD x.snd.snd.toNat default).V), ((a0.Edges.getD x.snd.snd.toNat default).V, (a0.Edges.getD x.snd.snd.toNat default).U)] 102) ∧ True) ∧ True) ∧ (∀ (x_1 : List S_ref23_label × Bool × List (Int × Int) × Int), decide (x_1.snd.snd.snd < (↑2 : Int)) = decide (x_1.snd.snd.snd < (↑2 : Int)) ∧ (decide (x_1.snd.snd.snd < (↑2 : Int)) = true → (∀ (_y : List S_ref23_label × Bool), true = true ∧ 0 ≤ 4) ∧ ((0 : Int) ≤ x_1.snd.snd.snd ∧ x_1.snd.snd.snd < (↑x_1.snd.snd.fst.length : Int) → ((0 : Int) ≤ x_1.snd.snd.snd ∧ x_1.snd.snd.snd < (↑x_1.snd.snd.fst.length : Int)) ∧ (x_1.snd.snd.snd.toNat < x_1.snd.snd.fst.length → x_1.snd.snd.snd.toNat < x_1.snd.snd.fst.length ∧ (0 ≤ 0 ∧ (0 : Int) < (↑2 : Int) → ((0 : Int) ≤ (0 : Int) ∧ (0 : Int) < (↑2 : Int)) ∧ ((0 : Int) ≤ (x_1.snd.snd.fst.getD x_1.snd.snd.snd.toNat default).fst ∧ (x_1.snd.snd.fst.getD x_1.snd.snd.snd.toNat default).fst < (↑x_1.fst.length : Int) → ((0 : Int) ≤ (x_1.snd.snd.fst.getD x_1.snd.snd.snd.toNat default).fst ∧ (x_1.snd.snd.fst.getD x_1.snd.snd.snd.toNat default).fst < (↑x_1.fst.length : Int)) ∧ ((x_1.snd.snd.fst.getD x_1.snd.snd.snd.toNat default).fst.toNat < x_1.fst.length → (x_1.snd.snd.fst.getD x_1.snd.snd.snd.toNat default).fst.toNat < x_1.fst.length ∧ decide ((x_1.fst.getD (x_1.snd.snd.fst.getD x_1.snd.snd.snd.toNat default).fst.toNat default).Cost < (0 : Int)) = decide ((x_1.fst.getD (x_1.snd.snd.fst.getD x_1.snd.snd.snd.toNat default).fst.toNat default).Cost < (0 : Int)) ∧ (decide ((x_1.fst.getD (x_1.snd.snd.fst.getD x_1.snd.snd.snd.toNat default).fst.toNat default).Cost < (0 : Int)) = true → (aS (aI a2) ∧ aS (AVal.ptr 0 0) ∧ aS (AVal.vec 1) ∧ aS (AVal.pure (PVal.bool x_1.snd.fst)) ∧ aS (aI x.snd.snd) ∧ aS (AVal.ptr 2 0) ∧ aS (AVal.vec 3) ∧ aS (aI (↑2 : Int)) ∧ aS (aI x_1.snd.snd.snd) ∧ True) ∧ (rS (Res.box [AVal.pure (encL 1 (encL 1 encI_i64) a0.Points), AVal.pure (encL 12 enc_RoadmapEdge a0.Edges)]) ∧ rS (vecO 2 enc_ref23_label x_1.fst 99) ∧ rS (Res.box [aI (a0.Edges.getD x.snd.snd.toNat default).U, aI (a0.Edges.getD x.snd.snd.toNat default).V, aI (a0.Edges.getD x.snd.snd.toNat default).Cost, aI (a0.Edges.getD x.snd.snd.toNat default).State, aI (a0.Edges.getD x.snd.snd.toNat default).Proof.Kind, AVal.pure (encL 3 enc_Piece (a0.Edges.getD x.snd.snd.toNat default).Proof.Pieces), aI (a0.Edges.getD x.snd.snd.toNat default).Proof.At.Depth, aI (a0.Edges.getD x.snd.snd.toNat default).Proof.At.Index, AVal.pure (encL 3 enc_arr_3_int64 (a0.Edges.getD x.snd.snd.toNat default).Proof.At.Normals), aI (a0.Edges.getD x.snd.snd.toNat default).Proof.Witness.Pair, AVal.pure (encL 1 encI_i64 (a0.Edges.getD x.snd.snd.toNat default).Proof.Witness.Left), AVal.pure (encL 1 encI_i64 (a0.Edges.getD x.snd.snd.toNat default).Proof.Witness.Right)]) ∧ rS (vecO 2 enc_arr_2_int x_1.snd.snd.fst 102) ∧ True) ∧ True) ∧ (decide ((x_1.fst.getD (x_1.snd.snd.fst.getD x_1.snd.snd.snd.toNat default).fst.toNat default).Cost < (0 : Int)) = false → IntKind.i64.wrap ((x_1.fst.getD (x_1.snd.snd.fst.getD x_1.snd.snd.snd.toNat default).fst.toNat default).Cost + (a0.Edges.getD x.snd.snd.toNat default).Cost) = IntKind.i64.wrap ((x_1.fst.getD (x_1.snd.snd.fst.getD x_1.snd.snd.snd.toNat default).fst.toNat default).Cost + (a0.Edges.getD x.snd.snd.toNat default).Cost) ∧ ∀ (z : Int), 0 ≤ 1 ∧ (1 : Int) < (↑2 : Int) → ((0 : Int) ≤ (1 : Int) ∧ (1 : Int) < (↑2 : Int)) ∧ ((0 : Int) ≤ (x_1.snd.snd.fst.getD x_1.snd.snd.snd.toNat default).snd ∧ (x_1.snd.snd.fst.getD x_1.snd.snd.snd.toNat default).snd < (↑x_1.fst.length : Int) → ((0 : Int) ≤ (x_1.snd.snd.fst.getD x_1.snd.snd.snd.toNat default).snd ∧ (x_1.snd.snd.fst.getD x_1.snd.snd.snd.toNat default).snd < (↑x_1.fst.length : Int)) ∧ ((x_1.snd.snd.fst.getD x_1.snd.snd.snd.toNat default).snd.toNat < x_1.fst.length → (x_1.snd.snd.fst.getD x_1.snd.snd.snd.toNat default).snd.toNat < x_1.fst.length ∧ ∀ (y : Bool), ref23_less_F N (S_ref23_label.mk z (IntKind.i64.wrap ((x_1.fst.getD (x_1.snd.snd.fst.getD x_1.snd.snd.snd.toNat default).fst.toNat default).Edges + (1 : Int)))) (x_1.fst.getD (x_1.snd.snd.fst.getD x_1.snd.snd.snd.toNat default).snd.toNat default) = some y → ((aS (AVal.pure (PVal.agg [PVal.int IntKind.i64 z, PVal.int IntKind.i64 (IntKind.i64.wrap ((x_1.fst.getD (x_1.snd.snd.fst.getD x_1.snd.snd.snd.toNat default).fst.toNat default).Edges + (1 : Int)))])) ∧ aS (AVal.pure (PVal.agg [PVal.int IntKind.i64 (x_1.fst.getD (x_1.snd.snd.fst.getD x_1.snd.snd.snd.toNat default).snd.toNat default).Cost, PVal.int IntKind.i64 (x_1.fst.getD (x_1.snd.snd.fst.getD x_1.snd.snd.snd.toNat default).snd.toNat default).Edges])) ∧ True) ∧ True ∧ Spec Try.prog 65 0 [AVal.pure (PVal.agg [PVal.int IntKind.i64 z, PVal.int IntKind.i64 (IntKind.i64.wrap ((x_1.fst.getD (x_1.snd.snd.fst.getD x_1.snd.snd.snd.toNat default).fst.toNat default).Edges + (1 : Int)))]), AVal.pure (PVal.agg [PVal.int IntKind.i64 (x_1.fst.getD (x_1.snd.snd.fst.getD x_1.snd.snd.snd.toNat default).snd.toNat default).Cost, PVal.int IntKind.i64 (x_1.fst.getD (x_1.snd.snd.fst.getD x_1.snd.snd.snd.toNat default).snd.toNat default).Edges])] [] (AVal.pure (PVal.bool y)) []) ∧ y = y ∧ (y = true → 0 ≤ 1 ∧ (1 : Int) < (↑2 : Int) → ((0 : Int) ≤ (1 : Int) ∧ (1 : Int) < (↑2 : Int)) ∧ ((0 : Int) ≤ (x_1.snd.snd.fst.getD x_1.snd.snd.snd.toNat default).snd ∧ (x_1.snd.snd.fst.getD x_1.snd.snd.snd.toNat default).snd < (↑x_1.fst.length : Int) → ((0 : Int) ≤ (x_1.snd.snd.fst.getD x_1.snd.snd.snd.toNat default).snd ∧ (x_1.snd.snd.fst.getD x_1.snd.snd.snd.toNat default).snd < (↑x_1.fst.length : Int)) ∧ ((x_1.snd.snd.fst.getD x_1.snd.snd.snd.toNat default).snd.toNat < x_1.fst.length ∧ 0 ≤ (x_1.snd.snd.fst.getD x_1.snd.snd.snd.toNat default).snd.toNat → ((x_1.snd.snd.fst.getD x_1.snd.snd.snd.toNat default).snd.toNat < x_1.fst.length ∧ 0 ≤ (x_1.snd.snd.fst.getD x_1.snd.snd.snd.toNat default).snd.toNat) ∧ (aS (aI a2) ∧ aS (AVal.ptr 0 0) ∧ aS (AVal.vec 1) ∧ ASub AVal.tt (AVal.pure (PVal.bool true)) ∧ aS (aI x.snd.snd) ∧ aS (AVal.ptr 2 0) ∧ aS (AVal.vec 3) ∧ aS (aI (↑2 : Int)) ∧ aS (aI x_1.snd.snd.snd) ∧ True) ∧ (rS (Res.box [AVal.pure (encL 1 (encL 1 encI_i64) a0.Points), AVal.pure (encL 12 enc_RoadmapEdge a0.Edges)]) ∧ RSub (Res.vec 2 x_1.fst.length (fun (j : Nat) => if j = (x_1.snd.snd.fst.getD x_1.snd.snd.snd.toNat default).snd.toNat then PVal.agg [PVal.int IntKind.i64 z, PVal.int IntKind.i64 (IntKind.i64.wrap ((x_1.fst.getD (x_1.snd.snd.fst.getD x_1.snd.snd.snd.toNat default).fst.toNat default).Edges + (1 : Int)))] else el enc_ref23_label x_1.fst j) 0 99) (vecO 2 enc_ref23_label (x_1.fst.set (x_1.snd.snd.fst.getD x_1.snd.snd.snd.toNat default).snd.toNat (S_ref23_label.mk z (IntKind.i64.wrap ((x_1.fst.getD (x_1.snd.snd.fst.getD x_1.snd.snd.snd.toNat default).fst.toNat default).Edges + (1 : Int))))) 99) ∧ rS (Res.box [aI (a0.Edges.getD x.snd.snd.toNat default).U, aI (a0.Edges.getD x.snd.snd.toNat default).V, aI (a0.Edges.getD x.snd.snd.toNat default).Cost, aI (a0.Edges.getD x.snd.snd.toNat default).State, aI (a0.Edges.getD x.snd.snd.toNat default).Proof.Kind, AVal.pure (encL 3 enc_Piece (a0.Edges.getD x.snd.snd.toNat default).Proof.Pieces), aI (a0.Edges.getD x.snd.snd.toNat default).Proof.At.Depth, aI (a0.Edges.getD x.snd.snd.toNat default).Proof.At.Index, AVal.pure (encL 3 enc_arr_3_int64 (a0.Edges.getD x.snd.snd.toNat default).Proof.At.Normals), aI (a0.Edges.getD x.snd.snd.toNat default).Proof.Witness.Pair, AVal.pure (encL 1 encI_i64 (a0.Edges.getD x.snd.snd.toNat default).Proof.Witness.Left), AVal.pure (encL 1 encI_i64 (a0.Edges.getD x.snd.snd.toNat default).Proof.Witness.Right)]) ∧ rS (vecO 2 enc_arr_2_int x_1.snd.snd.fst 102) ∧ True) ∧ True))) ∧ (y = false → (aS (aI a2) ∧ aS (AVal.ptr 0 0) ∧ aS (AVal.vec 1) ∧ aS (AVal.pure (PVal.bool x_1.snd.fst)) ∧ aS (aI x.snd.snd) ∧ aS (AVal.ptr 2 0) ∧ aS (AVal.vec 3) ∧ aS (aI (↑2 : Int)) ∧ aS (aI x_1.snd.snd.snd) ∧ True) ∧ (rS (Res.box [AVal.pure (encL 1 (encL 1 encI_i64) a0.Points), AVal.pure (encL 12 enc_RoadmapEdge a0.Edges)]) ∧ rS (vecO 2 enc_ref23_label x_1.fst 99) ∧ rS (Res.box [aI (a0.Edges.getD x.snd.snd.toNat default).U, aI (a0.Edges.getD x.snd.snd.toNat default).V, aI (a0.Edges.getD x.snd.snd.toNat default).Cost, aI (a0.Edges.getD x.snd.snd.toNat default).State, aI (a0.Edges.getD x.snd.snd.toNat default).Proof.Kind, AVal.pure (encL 3 enc_Piece (a0.Edges.getD x.snd.snd.toNat default).Proof.Pieces), aI (a0.Edges.getD x.snd.snd.toNat default).Proof.At.Depth, aI (a0.Edges.getD x.snd.snd.toNat default).Proof.At.Index, AVal.pure (encL 3 enc_arr_3_int64 (a0.Edges.getD x.snd.snd.toNat default).Proof.At.Normals), aI (a0.Edges.getD x.snd.snd.toNat default).Proof.Witness.Pair, AVal.pure (encL 1 encI_i64 (a0.Edges.getD x.snd.snd.toNat default).Proof.Witness.Left), AVal.pure (encL 1 encI_i64 (a0.Edges.getD x.snd.snd.toNat default).Proof.Witness.Right)]) ∧ rS (vecO 2 enc_arr_2_int x_1.snd.snd.fst 102) ∧ True) ∧ True))))))))) ∧ ∀ (y : List S_ref23_label × Bool), (aS (aI a2) ∧ aS (AVal.ptr 0 0) ∧ aS (AVal.vec 1) ∧ aS (AVal.pure (PVal.bool y.snd)) ∧ aS (aI x.snd.snd) ∧ aS (AVal.ptr 2 0) ∧ aS (AVal.vec 3) ∧ aS (aI (↑2 : Int)) ∧ aS (aI (IntKind.i64.wrap (x_1.snd.snd.snd + (1 : Int)))) ∧ True) ∧ (rS (Res.box [AVal.pure (encL 1 (encL 1 encI_i64) a0.Points), AVal.pure (encL 12 enc_RoadmapEdge a0.Edges)]) ∧ rS (vecO 2 enc_ref23_label y.fst 99) ∧ rS (Res.box [aI (a0.Edges.getD x.snd.snd.toNat default).U, aI (a0.Edges.getD x.snd.snd.toNat default).V, aI (a0.Edges.getD x.snd.snd.toNat default).Cost, aI (a0.Edges.getD x.snd.snd.toNat default).State, aI (a0.Edges.getD x.snd.snd.toNat default).Proof.Kind, AVal.pure (encL 3 enc_Piece (a0.Edges.getD x.snd.snd.toNat default).Proof.Pieces), aI (a0.Edges.getD x.snd.snd.toNat default).Proof.At.Depth, aI (a0.Edges.getD x.snd.snd.toNat default).Proof.At.Index, AVal.pure (encL 3 enc_arr_3_int64 (a0.Edges.getD x.snd.snd.toNat default).Proof.At.Normals), aI (a0.Edges.getD x.snd.snd.toNat default).Proof.Witness.Pair, AVal.pure (encL 1 encI_i64 (a0.Edges.getD x.snd.snd.toNat default).Proof.Witness.Left), AVal.pure (encL 1 encI_i64 (a0.Edges.getD x.snd.snd.toNat default).Proof.Witness.Right)]) ∧ rS (vecO 2 enc_arr_2_int x_1.snd.snd.fst 102) ∧ True) ∧ True) ∧ (decide (x_1.snd.snd.snd < (↑2 : Int)) = false → (aS (aI a2) ∧ aS (AVal.ptr 0 0) ∧ aS (AVal.vec 1) ∧ aS (AVal.pure (PVal.bool x_1.snd.fst)) ∧ aS (aI x.snd.snd) ∧ True) ∧ (rS (Res.box [AVal.pure (encL 1 (encL 1 encI_i64) a0.Points), AVal.pure (encL 12 enc_RoadmapEdge a0.Edges)]) ∧ rS (vecO 2 enc_ref23_label x_1.fst 99) ∧ True) ∧ True)) ∧ ∀ (y : List S_ref23_label × Bool), (aS (aI a2) ∧ aS (AVal.ptr 0 0) ∧ aS (AVal.vec 1) ∧ aS (AVal.pure (PVal.bool y.snd)) ∧ aS (aI x.snd.snd) ∧ True) ∧ (rS (Res.box [AVal.pure (encL 1 (encL 1 encI_i64) a0.Points), AVal.pure (encL 12 enc_RoadmapEdge a0.Edges)]) ∧ rS (vecO 2 enc_ref23_label y.fst 99) ∧ True) ∧ True)) ∧ ∀ (y : List S_ref23_label × Bool), (aS (aI a2) ∧ aS (AVal.ptr 0 0) ∧ aS (AVal.vec 1) ∧ aS (AVal.pure (PVal.bool y.snd)) ∧ aS (aI (IntKind.i64.wrap (x.snd.snd + (1 : Int)))) ∧ True) ∧ (rS (Res.box [AVal.pure (encL 1 (encL 1 encI_i64) a0.Points), AVal.pure (encL 12 enc_RoadmapEdge a0.Edges)]) ∧ rS (vecO 2 enc_ref23_label y.fst 99) ∧ True) ∧ True) ∧ (decide (x.snd.snd < (↑a0.Edges.length : Int)) = false → (aS (aI a2) ∧ aS (AVal.ptr 0 0) ∧ aS (AVal.vec 1) ∧ aS (AVal.pure (PVal.bool x.snd.fst)) ∧ True) ∧ (rS (Res.box [AVal.pure (encL 1 (encL 1 encI_i64) a0.Points), AVal.pure (encL 12 enc_RoadmapEdge a0.Edges)]) ∧ rS (vecO 2 enc_ref23_label x.fst 99) ∧ True) ∧ True)) ∧ ∀ (y : List S_ref23_label × Bool), (aS (aI a2) ∧ aS (AVal.ptr 0 0) ∧ aS (AVal.vec 1) ∧ aS (AVal.pure (PVal.bool y.snd)) ∧ True) ∧ (rS (Res.box [AVal.pure (encL 1 (encL 1 encI_i64) a0.Points), AVal.pure (encL 12 enc_RoadmapEdge a0.Edges)]) ∧ rS (vecO 2 enc_ref23_label y.fst 99) ∧ True) ∧ True) ∧ (x.snd = false → (aS (AVal.vec 1) ∧ True) ∧ (rS (vecO 2 enc_ref23_label x.fst 99) ∧ True) ∧ True)) ∧ ∀ (y : List S_ref23_label), (aS (AVal.pure (encL 2 enc_ref23_label y)) ∧ True) ∧ True ∧ True)) := by kernel_rfl


set_option maxHeartbeats 4000000 in
theorem ref23_labels_spec (hd : DrawSound Try.prog drawB) {N : Nat} {a0 : S_Roadmap} {a1 : Int} {a2 : Int} {r : (List S_ref23_label)} (h : ref23_labels_F N a0 a1 a2 = some r) : Spec Try.prog 55 0 [.pure (.agg [encL 1 (encL 1 encI_i64) a0.Points, encL 12 enc_RoadmapEdge a0.Edges]), .pure (.int .i64 a1), .pure (.int .i64 a2)] [] (.pure (encL 2 enc_ref23_label r)) ([]) := by
  refine spec_ofT (n0 := 0) (res := fun r => .pure (encL 2 enc_ref23_label r)) (m' := fun _ => []) (ref23_labels_T N a0 a1 a2) ((ref23_labels_run N a0 a1 a2).trans h) hd Try.func55 (by kernel_rfl) (by kernel_rfl) ?_
  rw [ref23_labels_vc]
  repeat' (first | exact trivial | exact ASub.refl _ | exact RSub.refl _ | exact ref23_UsableIn_spec hd (by assumption) | exact ref23_less_spec hd (by assumption) | assumption | exact int_eq0 (by assumption) | exact of_decide_eq_true (by assumption) | exact of_decide_eq_false (by assumption) | rfl | (apply And.intro) | (intro _) | exact nl_a | exact ASub.tt rfl | exact ASub.ff rfl | exact mapR_upE rfl | exact RSub.nilv rfl rfl | exact RSub.gone | exact IsL.el | exact IsL.nl | exact IsL.lit (CSubs.of_eq rfl) rfl | refine IsL.lit ?_ rfl | exact IsL.rep (CSub.of_eq rfl) | refine IsL.a ?_ | refine IsL.r0 ?_ | refine IsLL.r ?_ | exact IsLL.el | exact IsLL.rep | refine IsLL.set ?_ ?_ | refine IsL.r ?_ ?_ | refine IsL.app ?_ ?_ | refine IsL.set ?_ (CSub.of_eq rfl) | refine IsL.set ?_ ?_ | exact IsL.sliceE (by omega) (by omega) | refine IsL.slice ?_ ?_ ?_ | exact IsL.take (by first | exact IsL.el | exact IsL.set IsL.el (CSub.of_eq rfl)) (by omega) | refine IsL.take ?_ ?_ | exact CSubs.nil' | refine CSubs.cons' ?_ ?_ | exact CSub.refl _ | exact nl_c | refine CSub.agg ?_ | refine IsL.c ?_ | exact PSubs.nil' | refine PSubs.cons' ?_ ?_ | exact PSub.refl _ | exact nl_p | refine IsL.p ?_ | refine (PSub.agg ?_).a | refine PSub.agg ?_ | refine ASub.agg ?_ | refine RSub.box ?_ | refine tup_a ?_ | refine ASub.p ?_ | omega)

def ref23_Shortest_F (N : Nat) (a0 : S_Roadmap) (a1 : Int) (a2 : Int) (a3 : Int) : Option (S_Route × Bool) :=
  andC (
   (ref23_asked_F N (⟨a0.Points, a0.Edges⟩ : S_Roadmap) a1 a2).bind fun y1284 =>
   bif (!y1284) then
    some (.out true)
   else
    bif (decide (a3 < 0)) then
     some (.out true)
    else
     some (.out (decide (a3 > 2))) : Option (Step3 Unit Bool _)) fun y1283 =>
  bif y1283 then
   some ((⟨nl, 0⟩ : S_Route), false)
  else
   (ref23_labels_F N (⟨a0.Points, a0.Edges⟩ : S_Roadmap) a2 a3).bind fun y1286 =>
   grd (0 ≤ a1 ∧ a1 < ((y1286.length : Nat) : Int)) <|
   bif (decide (((y1286.getD ((a1).toNat) default).Cost) < 0)) then
    some ((⟨nl, 0⟩ : S_Route), false)
   else
    grd (0 ≤ a1 ∧ a1 < ((y1286.length : Nat) : Int)) <|
    andK (iter (fun (x2131 : ((List Int) × Int)) => (
     bif (x2131.2 != a2) then
      andK (iter (fun (x2483 : (Int × Int)) => (
       bif (decide (x2483.2 < ((a0.Edges.length : Nat) : Int))) then
        andC (
         grd (0 ≤ x2483.2 ∧ x2483.2 < ((a0.Edges.length : Nat) : Int)) <|
         andC (
          (ref23_UsableIn_F N (a0.Edges.getD ((x2483.2).toNat) default) a3).bind fun y2549 =>
          bif (!y2549) then
           some (.out true)
          else
           bif (((a0.Edges.getD ((x2483.2).toNat) default).U) != x2131.2) then
            some (.out (((a0.Edges.getD ((x2483.2).toNat) default).V) != x2131.2))
           else
            some (.out false) : Option (Step3 Unit Bool _)) fun y2548 =>
         bif y2548 then
          some (.out x2483.1)
         else
          (fun z2551 =>
          andC (
            grd (0 ≤ z2551 ∧ z2551 < ((y1286.length : Nat) : Int)) <|
            bif (decide (((y1286.getD ((z2551).toNat) default).Cost) ≥ 0)) then
             grd (0 ≤ z2551 ∧ z2551 < ((y1286.length : Nat) : Int)) <|
             grd (0 ≤ x2131.2 ∧ x2131.2 < ((y1286.length : Nat) : Int)) <|
             bif ((IntKind.i64.wrap (((y1286.getD ((z2551).toNat) default).Cost) + ((a0.Edges.getD ((x2483.2).toNat) default).Cost))) == ((y1286.getD ((x2131.2).toNat) default).Cost)) then
              grd (0 ≤ z2551 ∧ z2551 < ((y1286.length : Nat) : Int)) <|
              grd (0 ≤ x2131.2 ∧ x2131.2 < ((y1286.length : Nat) : Int)) <|
              bif ((IntKind.i64.wrap (((y1286.getD ((z2551).toNat) default).Edges) + 1)) == ((y1286.getD ((x2131.2).toNat) default).Edges)) then
               bif (decide (x2483.1 < 0)) then
                some (.out true)
               else
                some (.out (decide (z2551 < x2483.1)))
              else
               some (.out false)
             else
              some (.out false)
            else
             some (.out false) : Option (Step3 Unit Bool _)) fun y2552 =>
           bif y2552 then
            some (.out z2551)
           else
            some (.out x2483.1)) ((IntKind.i64.wrap ((IntKind.i64.wrap (((a0.Edges.getD ((x2483.2).toNat) default).U) + ((a0.Edges.getD ((x2483.2).toNat) default).V))) - x2131.2))) : Option (Step3 Unit Int _)) fun y2541 =>
        some (.next (y2541, (IntKind.i64.wrap (x2483.2 + 1))))
       else
        some (.out x2483.1) : Option (Step3 (Int × Int) Int _))) N ((-1), 0)) fun y2518 =>
      grd ((x2131.1.length + 1) * 8 ≤ 140737488355328 ∧ (x2131.1.length + 1) ≤ maxLen) <|
      some (.next ((x2131.1 ++ ([y2518] : (List Int))), y2518))
     else
      some (.out x2131.1) : Option (Step3 ((List Int) × Int) (List Int) _))) N (([a1] : (List Int)), a1)) fun y2342 =>
    some ((⟨y2342, (y1286.getD ((a1).toNat) default).Cost⟩ : S_Route), true)

def ref23_Shortest_T (N : Nat) (a0 : S_Roadmap) (a1 : Int) (a2 : Int) (a3 : Int) : T (S_Route × Bool) :=
  .cut 2 (fun (y1283 : Bool) => ⟨[(1, .pure (.int .i64 a1)), (2, .pure (.int .i64 a2)), (3, .pure (.int .i64 a3)), (4, .ptr 0 0), (8, .ptr 1 0), (29, .pure (.bool y1283))], [(0, .box [.pure (encL 1 (encL 1 encI_i64) a0.Points), .pure (encL 12 enc_RoadmapEdge a0.Edges)]), (1, .box [.vec 2, .pure (.int .i64 0)]), (2, .nilv)], [], 3⟩)
   (.call (ref23_asked_F N (⟨a0.Points, a0.Edges⟩ : S_Roadmap) a1 a2) (fun y1284 => ⟨[], 0, [.pure (.agg [encL 1 (encL 1 encI_i64) ((⟨a0.Points, a0.Edges⟩ : S_Roadmap).Points), encL 12 enc_RoadmapEdge ((⟨a0.Points, a0.Edges⟩ : S_Roadmap).Edges)]), .pure (.int .i64 a1), .pure (.int .i64 a2)], [], .pure (.bool y1284), []⟩) fun y1284 =>
   .br (!y1284)
    (.ret (.out true))
    (.br (decide (a3 < 0))
     (.ret (.out true))
     (.ret (.out (decide (a3 > 2)))))) fun y1283 =>
  .br y1283
   (.ret ((⟨nl, 0⟩ : S_Route), false))
   (.call (ref23_labels_F N (⟨a0.Points, a0.Edges⟩ : S_Roadmap) a2 a3) (fun y1286 => ⟨[], 0, [.pure (.agg [encL 1 (encL 1 encI_i64) ((⟨a0.Points, a0.Edges⟩ : S_Roadmap).Points), encL 12 enc_RoadmapEdge ((⟨a0.Points, a0.Edges⟩ : S_Roadmap).Edges)]), .pure (.int .i64 a2), .pure (.int .i64 a3)], [], .pure (encL 2 enc_ref23_label y1286), []⟩) fun y1286 =>
   .grd (0 ≤ a1 ∧ a1 < ((y1286.length : Nat) : Int)) <|
   .br (decide (((y1286.getD ((a1).toNat) default).Cost) < 0))
    (.ret ((⟨nl, 0⟩ : S_Route), false))
    (.grd (0 ≤ a1 ∧ a1 < ((y1286.length : Nat) : Int)) <|
    .loop (fun (x2131 : ((List Int) × Int)) => ⟨[(2, .pure (.int .i64 a2)), (3, .pure (.int .i64 a3)), (4, .ptr 0 0), (8, .ptr 1 0), (10, .pure (encL 2 enc_ref23_label y1286)), (11, .ptr 3 0), (12, .pure (.int .i64 x2131.2))], [(0, .box [.pure (encL 1 (encL 1 encI_i64) a0.Points), .pure (encL 12 enc_RoadmapEdge a0.Edges)]), (1, .box [.vec 2, .pure (.int .i64 0)]), (2, .nilv), (3, .box [.vec 4, .pure (.int .i64 ((y1286.getD ((a1).toNat) default).Cost))]), (4, vecO 1 encI_i64 x2131.1 3)], [], 5⟩)
     (.exit 0) (fun (y2342 : (List Int)) => ⟨[(8, .ptr 0 0), (11, .ptr 2 0)], [(0, .box [.vec 1, .pure (.int .i64 0)]), (1, .nilv), (2, .box [.vec 3, .pure (.int .i64 ((y1286.getD ((a1).toNat) default).Cost))]), (3, vecO 1 encI_i64 y2342 3)], [], 4⟩)
     (fun x2131 => .br (x2131.2 != a2)
       (.loop (fun (x2483 : (Int × Int)) => ⟨[(2, .pure (.int .i64 a2)), (3, .pure (.int .i64 a3)), (4, .ptr 0 0), (8, .ptr 1 0), (10, .pure (encL 2 enc_ref23_label y1286)), (11, .ptr 3 0), (12, .pure (.int .i64 x2131.2)), (13, .pure (.int .i64 x2483.1)), (14, .pure (.int .i64 x2483.2))], [(0, .box [.pure (encL 1 (encL 1 encI_i64) a0.Points), .pure (encL 12 enc_RoadmapEdge a0.Edges)]), (1, .box [.vec 2, .pure (.int .i64 0)]), (2, .nilv), (3, .box [.vec 4, .pure (.int .i64 ((y1286.getD ((a1).toNat) default).Cost))]), (4, vecO 1 encI_i64 x2131.1 3)], [], 5⟩)
        (.exit 2) (fun (y2518 : Int) => ⟨[(2, .pure (.int .i64 a2)), (3, .pure (.int .i64 a3)), (4, .ptr 0 0), (8, .ptr 1 0), (10, .pure (encL 2 enc_ref23_label y1286)), (11, .ptr 3 0), (13, .pure (.int .i64 y2518))], [(0, .box [.pure (encL 1 (encL 1 encI_i64) a0.Points), .pure (encL 12 enc_RoadmapEdge a0.Edges)]), (1, .box [.vec 2, .pure (.int .i64 0)]), (2, .nilv), (3, .box [.vec 4, .pure (.int .i64 ((y1286.getD ((a1).toNat) default).Cost))]), (4, vecO 1 encI_i64 x2131.1 3)], [], 5⟩)
        (fun x2483 => .br (decide (x2483.2 < ((a0.Edges.length : Nat) : Int)))
          (.cut 0 (fun (y2541 : Int) => ⟨[(2, .pure (.int .i64 a2)), (3, .pure (.int .i64 a3)), (4, .ptr 0 0), (8, .ptr 1 0), (10, .pure (encL 2 enc_ref23_label y1286)), (11, .ptr 3 0), (12, .pure (.int .i64 x2131.2)), (13, .pure (.int .i64 y2541)), (14, .pure (.int .i64 x2483.2))], [(0, .box [.pure (encL 1 (encL 1 encI_i64) a0.Points), .pure (encL 12 enc_RoadmapEdge a0.Edges)]), (1, .box [.vec 2, .pure (.int .i64 0)]), (2, .nilv), (3, .box [.vec 4, .pure (.int .i64 ((y1286.getD ((a1).toNat) default).Cost))]), (4, vecO 1 encI_i64 x2131.1 3)], [], 5⟩)
           (.grd (0 ≤ x2483.2 ∧ x2483.2 < ((a0.Edges.length : Nat) : Int)) <|
           .cut 1 (fun (y2548 : Bool) => ⟨[(2, .pure (.int .i64 a2)), (3, .pure (.int .i64 a3)), (4, .ptr 0 0), (8, .ptr 1 0), (10, .pure (encL 2 enc_ref23_label y1286)), (11, .ptr 3 0), (12, .pure (.int .i64 x2131.2)), (13, .pure (.int .i64 x2483.1)), (14, .pure (.int .i64 x2483.2)), (15, .ptr 5 0), (81, .pure (.bool y2548))], [(0, .box [.pure (encL 1 (encL 1 encI_i64) a0.Points), .pure (encL 12 enc_RoadmapEdge a0.Edges)]), (1, .box [.vec 2, .pure (.int .i64 0)]), (2, .nilv), (3, .box [.vec 4, .pure (.int .i64 ((y1286.getD ((a1).toNat) default).Cost))]), (4, vecO 1 encI_i64 x2131.1 3), (5, .box [.pure (.int .i64 ((a0.Edges.getD ((x2483.2).toNat) default).U)), .pure (.int .i64 ((a0.Edges.getD ((x2483.2).toNat) default).V)), .pure (.int .i64 ((a0.Edges.getD ((x2483.2).toNat) default).Cost)), .pure (.int .i64 ((a0.Edges.getD ((x2483.2).toNat) default).State)), .pure (.int .i64 ((a0.Edges.getD ((x2483.2).toNat) default).Proof.Kind)), .pure (encL 3 enc_Piece ((a0.Edges.getD ((x2483.2).toNat) default).Proof.Pieces)), .pure (.int .i64 ((a0.Edges.getD ((x2483.2).toNat) default).Proof.At.Depth)), .pure (.int .i64 ((a0.Edges.getD ((x2483.2).toNat) default).Proof.At.Index)), .pure (encL 3 enc_arr_3_int64 ((a0.Edges.getD ((x2483.2).toNat) default).Proof.At.Normals)), .pure (.int .i64 ((a0.Edges.getD ((x2483.2).toNat) default).Proof.Witness.Pair)), .pure (encL 1 encI_i64 ((a0.Edges.getD ((x2483.2).toNat) default).Proof.Witness.Left)), .pure (encL 1 encI_i64 ((a0.Edges.getD ((x2483.2).toNat) default).Proof.Witness.Right))])], [], 6⟩)
            (.call (ref23_UsableIn_F N (a0.Edges.getD ((x2483.2).toNat) default) a3) (fun y2549 => ⟨[], 0, [.pure (.agg [.int .i64 ((a0.Edges.getD ((x2483.2).toNat) default).U), .int .i64 ((a0.Edges.getD ((x2483.2).toNat) default).V), .int .i64 ((a0.Edges.getD ((x2483.2).toNat) default).Cost), .int .i64 ((a0.Edges.getD ((x2483.2).toNat) default).State), .int .i64 ((a0.Edges.getD ((x2483.2).toNat) default).Proof.Kind), encL 3 enc_Piece ((a0.Edges.getD ((x2483.2).toNat) default).Proof.Pieces), .int .i64 ((a0.Edges.getD ((x2483.2).toNat) default).Proof.At.Depth), .int .i64 ((a0.Edges.getD ((x2483.2).toNat) default).Proof.At.Index), encL 3 enc_arr_3_int64 ((a0.Edges.getD ((x2483.2).toNat) default).Proof.At.Normals), .int .i64 ((a0.Edges.getD ((x2483.2).toNat) default).Proof.Witness.Pair), encL 1 encI_i64 ((a0.Edges.getD ((x2483.2).toNat) default).Proof.Witness.Left), encL 1 encI_i64 ((a0.Edges.getD ((x2483.2).toNat) default).Proof.Witness.Right)]), .pure (.int .i64 a3)], [], .pure (.bool y2549), []⟩) fun y2549 =>
            .br (!y2549)
             (.ret (.out true))
             (.br (((a0.Edges.getD ((x2483.2).toNat) default).U) != x2131.2)
              (.ret (.out (((a0.Edges.getD ((x2483.2).toNat) default).V) != x2131.2)))
              (.ret (.out false)))) fun y2548 =>
           .br y2548
            (.ret (.out x2483.1))
            (.name 15006 ((IntKind.i64.wrap ((IntKind.i64.wrap (((a0.Edges.getD ((x2483.2).toNat) default).U) + ((a0.Edges.getD ((x2483.2).toNat) default).V))) - x2131.2))) fun z2551 =>
            .cut 0 (fun (y2552 : Bool) => ⟨[(2, .pure (.int .i64 a2)), (3, .pure (.int .i64 a3)), (4, .ptr 0 0), (8, .ptr 1 0), (10, .pure (encL 2 enc_ref23_label y1286)), (11, .ptr 3 0), (12, .pure (.int .i64 x2131.2)), (13, .pure (.int .i64 x2483.1)), (14, .pure (.int .i64 x2483.2)), (16, .pure (.int .i64 z2551)), (133, .pure (.bool y2552))], [(0, .box [.pure (encL 1 (encL 1 encI_i64) a0.Points), .pure (encL 12 enc_RoadmapEdge a0.Edges)]), (1, .box [.vec 2, .pure (.int .i64 0)]), (2, .nilv), (3, .box [.vec 4, .pure (.int .i64 ((y1286.getD ((a1).toNat) default).Cost))]), (4, vecO 1 encI_i64 x2131.1 3)], [], 5⟩)
             (.grd (0 ≤ z2551 ∧ z2551 < ((y1286.length : Nat) : Int)) <|
             .br (decide (((y1286.getD ((z2551).toNat) default).Cost) ≥ 0))
              (.grd (0 ≤ z2551 ∧ z2551 < ((y1286.length : Nat) : Int)) <|
              .grd (0 ≤ x2131.2 ∧ x2131.2 < ((y1286.length : Nat) : Int)) <|
              .br ((IntKind.i64.wrap (((y1286.getD ((z2551).toNat) default).Cost) + ((a0.Edges.getD ((x2483.2).toNat) default).Cost))) == ((y1286.getD ((x2131.2).toNat) default).Cost))
               (.grd (0 ≤ z2551 ∧ z2551 < ((y1286.length : Nat) : Int)) <|
               .grd (0 ≤ x2131.2 ∧ x2131.2 < ((y1286.length : Nat) : Int)) <|
               .br ((IntKind.i64.wrap (((y1286.getD ((z2551).toNat) default).Edges) + 1)) == ((y1286.getD ((x2131.2).toNat) default).Edges))
                (.br (decide (x2483.1 < 0))
                 (.ret (.out true))
                 (.ret (.out (decide (z2551 < x2483.1)))))
                (.ret (.out false)))
               (.ret (.out false)))
              (.ret (.out false))) fun y2552 =>
            .br y2552
             (.ret (.out z2551))
             (.ret (.out x2483.1)))) fun y2541 =>
          .ret (.next (y2541, (IntKind.i64.wrap (x2483.2 + 1)))))
          (.ret (.out x2483.1)))
        ((-1), 0) fun y2518 =>
       .grd ((x2131.1.length + 1) * 8 ≤ 140737488355328 ∧ (x2131.1.length + 1) ≤ maxLen) <|
       .ret (.next ((x2131.1 ++ ([y2518] : (List Int))), y2518)))
       (.ret (.out x2131.1)))
     (([a1] : (List Int)), a1) fun y2342 =>
    .ret ((⟨y2342, (y1286.getD ((a1).toNat) default).Cost⟩ : S_Route), true)))

theorem ref23_Shortest_run (N : Nat) (a0 : S_Roadmap) (a1 : Int) (a2 : Int) (a3 : Int) : (ref23_Shortest_T N a0 a1 a2 a3).run N = ref23_Shortest_F N a0 a1 a2 a3 := by kernel_rfl

theorem ref23_Shortest_vc (N : Nat) (a0 : S_Roadmap) (a1 : Int) (a2 : Int) (a3 : Int) : (vcFuncT Try.prog drawB Try.f42 (Try.f42.body.getD .skip) 0 0 (ref23_Shortest_T N a0 a1 a2 a3) [.pure (.agg [encL 1 (encL 1 encI_i64) a0.Points, encL 12 enc_RoadmapEdge a0.Edges]), .pure (.int .i64 a1), .pure (.int .i64 a2), .pure (.int .i64 a3)] [] (fun r => .tup [.pure (.agg [encL 1 encI_i64 r.1.Vertices, .int .i64 r.1.Cost]), .pure (.bool r.2)]) (fun _ => [])) =
    ((∀ (_y : Bool), true = true ∧ 0 ≤ 3) ∧ (∀ (y : Bool), ref23_asked_F N (S_Roadmap.mk a0.Points a0.Edges) a1 a2 = some y → ((aS (AVal.pure (PVal.agg [encL 1 (encL 1 encI_i64) a0.Points, encL 12 enc_RoadmapEdge a0.Edges])) ∧ aS (aI a1) ∧ aS (aI a2) ∧ True) ∧ True ∧ Spec Try.prog 54 0 [AVal.pure (PVal.agg [encL 1 (encL 1 encI_i64) a0.Points, encL 12 enc_RoadmapEdge a0.Edges]), aI a1, aI a2] [] (AVal.pure (PVal.bool y)) []) ∧ (!y) = !y ∧ ((!y) = true → (aS (aI a1) ∧ aS (aI a2) ∧ aS (aI a3) ∧ aS (AVal.ptr 0 0) ∧ aS (AVal.ptr 64 0) ∧ ASub AVal.tt (AVal.pure (PVal.bool true)) ∧ True) ∧ (rS (Res.box [AVal.pure (encL 1 (encL 1 encI_i64) a0.Points), AVal.pure (encL 12 enc_RoadmapEdge a0.Edges)]) ∧ rS (Res.box [AVal.vec 65, aI 0]) ∧ rS Res.nilv ∧ True) ∧ True) ∧ ((!y) = false → decide (a3 < (0 : Int)) = decide (a3 < (0 : Int)) ∧ (decide (a3 < (0 : Int)) = true → (aS (aI a1) ∧ aS (aI a2) ∧ aS (aI a3) ∧ aS (AVal.ptr 0 0) ∧ aS (AVal.ptr 64 0) ∧ ASub AVal.tt (AVal.pure (PVal.bool true)) ∧ True) ∧ (rS (Res.box [AVal.pure (encL 1 (encL 1 encI_i64) a0.Points), AVal.pure (encL 12 enc_RoadmapEdge a0.Edges)]) ∧ rS (Res.box [AVal.vec 65, aI 0]) ∧ rS Res.nilv ∧ True) ∧ True) ∧ (decide (a3 < (0 : Int)) = false → (aS (aI a1) ∧ aS (aI a2) ∧ aS (aI a3) ∧ aS (AVal.ptr 0 0) ∧ aS (AVal.ptr 64 0) ∧ aS (AVal.pure (PVal.bool (decide (a3 > (2 : Int))))) ∧ True) ∧ (rS (Res.box [AVal.pure (encL 1 (encL 1 encI_i64) a0.Points), AVal.pure (encL 12 enc_RoadmapEdge a0.Edges)]) ∧ rS (Res.box [AVal.vec 65, aI 0]) ∧ rS Res.nilv ∧ True) ∧ True))) ∧ ∀ (y : Bool), y = y ∧ (y = true → (ASub (AVal.pure (PVal.agg [PVal.lst 0 0 fun (_x : Nat) => PVal.unk, PVal.int IntKind.i64 0])) (AVal.pure (PVal.agg [encL 1 encI_i64 nl, PVal.int IntKind.i64 0])) ∧ aS (AVal.pure (PVal.bool false)) ∧ True) ∧ True ∧ True) ∧ (y = false → ∀ (y : List S_ref23_label), ref23_labels_F N (S_Roadmap.mk a0.Points a0.Edges) a2 a3 = some y → ((aS (AVal.pure (PVal.agg [encL 1 (encL 1 encI_i64) a0.Points, encL 12 enc_RoadmapEdge a0.Edges])) ∧ aS (aI a2) ∧ aS (aI a3) ∧ True) ∧ True ∧ Spec Try.prog 55 0 [AVal.pure (PVal.agg [encL 1 (encL 1 encI_i64) a0.Points, encL 12 enc_RoadmapEdge a0.Edges]), aI a2, aI a3] [] (AVal.pure (encL 2 enc_ref23_label y)) []) ∧ ((0 : Int) ≤ a1 ∧ a1 < (↑y.length : Int) → ((0 : Int) ≤ a1 ∧ a1 < (↑y.length : Int)) ∧ decide ((y.getD a1.toNat default).Cost < (0 : Int)) = decide ((y.getD a1.toNat default).Cost < (0 : Int)) ∧ (decide ((y.getD a1.toNat default).Cost < (0 : Int)) = true → (ASub (AVal.pure (PVal.agg [PVal.lst 0 0 fun (_x : Nat) => PVal.unk, PVal.int IntKind.i64 0])) (AVal.pure (PVal.agg [encL 1 encI_i64 nl, PVal.int IntKind.i64 0])) ∧ aS (AVal.pure (PVal.bool false)) ∧ True) ∧ True ∧ True) ∧ (decide ((y.getD a1.toNat default).Cost < (0 : Int)) = false → (0 : Int) ≤ a1 ∧ a1 < (↑y.length : Int) → ((0 : Int) ≤ a1 ∧ a1 < (↑y.length : Int)) ∧ (∀ (_x : List Int × Int), true = true ∧ 0 ≤ 5) ∧ (∀ (_y : List Int), true = true ∧ 0 ≤ 4) ∧ ((aS (aI a2) ∧ aS (aI a3) ∧ aS (AVal.ptr 0 0) ∧ aS (AVal.ptr 1 0) ∧ aS (AVal.pure (encL 2 enc_ref23_label y)) ∧ aS (AVal.ptr 1219 0) ∧ aS (aI a1) ∧ True) ∧ (rS (Res.box [AVal.pure (encL 1 (encL 1 encI_i64) a0.Points), AVal.pure (encL 12 enc_RoadmapEdge a0.Edges)]) ∧ rS (Res.box [AVal.vec 2, aI 0]) ∧ rS Res.nilv ∧ rS (Res.box [AVal.vec 771, aI (y.getD a1.toNat default).Cost]) ∧ RSub (Res.vec 1 1 (fun (i : Nat) => lget [PVal.int IntKind.i64 a1] i) 0 3) (vecO 1 encI_i64 [a1] 3) ∧ True) ∧ True) ∧ (∀ (x : List Int × Int), (x.snd != a2) = (x.snd != a2) ∧ ((x.snd != a2) = true → (∀ (_x : Int × Int), true = true ∧ 0 ≤ 5) ∧ (∀ (_y : Int), true = true ∧ 0 ≤ 5) ∧ ((aS (aI a2) ∧ aS (aI a3) ∧ aS (AVal.ptr 0 0) ∧ aS (AVal.ptr 1 0) ∧ aS (AVal.pure (encL 2 enc_ref23_label y)) ∧ aS (AVal.ptr 3 0) ∧ aS (aI x.snd) ∧ aS (aI (-1 : Int)) ∧ aS (aI 0) ∧ True) ∧ (rS (Res.box [AVal.pure (encL 1 (encL 1 encI_i64) a0.Points), AVal.pure (encL 12 enc_RoadmapEdge a0.Edges)]) ∧ rS (Res.box [AVal.vec 2, aI 0]) ∧ rS Res.nilv ∧ rS (Res.box [AVal.vec 4, aI (y.getD a1.toNat default).Cost]) ∧ rS (vecO 1 encI_i64 x.fst 3) ∧ True) ∧ True) ∧ (∀ (x_1 : Int × Int), decide (x_1.snd < (↑a0.Edges.length : Int)) = decide (x_1.snd < (↑a0.Edges.length : Int)) ∧ (decide (x_1.snd < (↑a0.Edges.length : Int)) = true → (∀ (_y : Int), true = true ∧ 0 ≤ 5) ∧ ((0 : Int) ≤ x_1.snd ∧ x_1.snd < (↑a0.Edges.length : Int) → ((0 : Int) ≤ x_1.snd ∧ x_1.snd < (↑a0.Edges.length : Int)) ∧ (∀ (_y : Bool), true = true ∧ 0 ≤ 6) ∧ (∀ (y_1 : Bool), ref23_UsableIn_F N (a0.Edges.getD x_1.snd.toNat default) a3 = some y_1 → ((aS (AVal.pure (PVal.agg [PVal.int IntKind.i64 (a0.Edges.getD x_1.snd.toNat default).U, PVal.int IntKind.i64 (a0.Edges.getD x_1.snd.toNat default).V, PVal.int IntKind.i64 (a0.Edges.getD x_1.snd.toNat default).Cost, PVal.int IntKind.i64 (a0.Edges.getD x_1.snd.toNat default).State, PVal.int IntKind.i64 (a0.Edges.getD x_1.snd.toNat default).Proof.Kind, encL 3 enc_Piece (a0.Edges.getD x_1.snd.toNat default).Proof.Pieces, PVal.int IntKind.i64 (a0.Edges.getD x_1.snd.toNat default).Proof.At.Depth, PVal.int IntKind.i64 (a0.Edges.getD x_1.snd.toNat default).Proof.At.Index, encL 3 enc_arr_3_int64 (a0.Edges.getD x_1.snd.toNat default).Proof.At.Normals, PVal.int IntKind.i64 (a0.Edges.getD x_1.snd.toNat default).Proof.Witness.Pair, encL 1 encI_i64 (a0.Edges.getD x_1.snd.toNat default).Proof.Witness.Left, encL 1 encI_i64 (a0.Edges.getD x_1.snd.toNat default).Proof.Witness.Right])) ∧ aS (aI a3) ∧ True) ∧ True ∧ Spec Try.prog 28 0 [AVal.pure (PVal.agg [PVal.int IntKind.i64 (a0.Edges.getD x_1.snd.toNat default).U, PVal.int IntKind.i64 (a0.Edges.getD x_1.snd.toNat default).V, PVal.int IntKind.i64 (a0.Edges.getD x_1.snd.toNat default).Cost, PVal.int IntKind.i64 (a0.Edges.getD x_1.snd.toNat default).State, PVal.int IntKind.i64 (a0.Edges.getD x_1.snd.toNat default).Proof.Kind, encL 3 enc_Piece (a0.Edges.getD x_1.snd.toNat default).Proof.Pieces, PVal.int IntKind.i64 (a0.Edges.getD x_1.snd.toNat default).Proof.At.Depth, PVal.int IntKind.i64 (a0.Edges.getD x_1.snd.toNat default).Proof.At.Index, encL 3 enc_arr_3_int64 (a0.Edges.getD x_1.snd.toNat default).Proof.At.Normals, PVal.int IntKind.i64 (a0.Edges.getD x_1.snd.toNat default).Proof.Witness.Pair, encL 1 encI_i64 (a0.Edges.getD x_1.snd.toNat default).Proof.Witness.Left, encL 1 encI_i64 (a0.Edges.getD x_1.snd.toNat default).Proof.Witness.Right]), aI a3] [] (AVal.pure (PVal.bool y_1)) []) ∧ (!y_1) = !y_1 ∧ ((!y_1) = true → (aS (aI a2) ∧ aS (aI a3) ∧ aS (AVal.ptr 0 0) ∧ aS (AVal.ptr 1 0) ∧ aS (AVal.pure (encL 2 enc_ref23_label y)) ∧ aS (AVal.ptr 3 0) ∧ aS (aI x.snd) ∧ aS (aI x_1.fst) ∧ aS (aI x_1.snd) ∧ aS (AVal.ptr 645 0) ∧ ASub AVal.tt (AVal.pure (PVal.bool true)) ∧ True) ∧ (rS (Res.box [AVal.pure (encL 1 (encL 1 encI_i64) a0.Points), AVal.pure (encL 12 enc_RoadmapEdge a0.Edges)]) ∧ rS (Res.box [AVal.vec 2, aI 0]) ∧ rS Res.nilv ∧ rS (Res.box [AVal.vec 4, aI (y.getD a1.toNat default).Cost]) ∧ rS (vecO 1 encI_i64 x.fst 3) ∧ rS (Res.box [aI (a0.Edges.getD x_1.snd.toNat default).U, aI (a0.Edges.getD x_1.snd.toNat default).V, aI (a0.Edges.getD x_1.snd.toNat default).Cost, aI (a0.Edges.getD x_1.snd.toNat default).State, aI (a0.Edges.getD x_1.snd.toNat default).Proof.Kind, AVal.pure (encL 3 enc_Piece (a0.Edges.getD x_1.snd.toNat default).Proof.Pieces), aI (a0.Edges.getD x_1.snd.toNat default).Proof.At.Depth, aI (a0.Edges.getD x_1.snd.toNat default).Proof.At.Index, AVal.pure (encL 3 enc_arr_3_int64 (a0.Edges.getD x_1.snd.toNat default).Proof.At.Normals), aI (a0.Edges.getD x_1.snd.toNat default).Proof.Witness.Pair, AVal.pure (encL 1 encI_i64 (a0.Edges.getD x_1.snd.toNat default).Proof.Witness.Left), AVal.pure (encL 1 encI_i64 (a0.Edges.getD x_1.snd.toNat default).Proof.Witness.Right)]) ∧ True) ∧ True) ∧ ((!y_1) = false → ((a0.Edges.getD x_1.snd.toNat default).U != x.snd) = ((a0.Edges.getD x_1.snd.toNat default).U != x.snd) ∧ (((a0.Edges.getD x_1.snd.toNat default).U != x.snd) = true → (aS (aI a2) ∧ aS (aI a3) ∧ aS (AVal.ptr 0 0) ∧ aS (AVal.ptr 1 0) ∧ aS (AVal.pure (encL 2 enc_ref23_label y)) ∧ aS (AVal.ptr 3 0) ∧ aS (aI x.snd) ∧ aS (aI x_1.fst) ∧ aS (aI x_1.snd) ∧ aS (AVal.ptr 645 0) ∧ aS (AVal.pure (PVal.bool ((a0.Edges.getD x_1.snd.toNat default).V != x.snd))) ∧ True) ∧ (rS (Res.box [AVal.pure (encL 1 (encL 1 encI_i64) a0.Points), AVal.pure (encL 12 enc_RoadmapEdge a0.Edges)]) ∧ rS (Res.box [AVal.vec 2, aI 0]) ∧ rS Res.nilv ∧ rS (Res.box [AVal.vec 4, aI (y.getD a1.toNat default).Cost]) ∧ rS (vecO 1 encI_i64 x.fst 3) ∧ rS (Res.box [aI (a0.Edges.getD x_1.snd.toNat default).U, aI (a0.Edges.getD x_1.snd.toNat default).V, aI (a0.Edges.getD x_1.snd.toNat default).Cost, aI (a0.Edges.getD x_1.snd.toNat default).State, aI (a0.Edges.getD x_1.snd.toNat default).Proof.Kind, AVal.pure (encL 3 enc_Piece (a0.Edges.getD x_1.snd.toNat default).Proof.Pieces), aI (a0.Edges.getD x_1.snd.toNat default).Proof.At.Depth, aI (a0.Edges.getD x_1.snd.toNat default).Proof.At.Index, AVal.pure (encL 3 enc_arr_3_int64 (a0.Edges.getD x_1.snd.toNat default).Proof.At.Normals), aI (a0.Edges.getD x_1.snd.toNat default).Proof.Witness.Pair, AVal.pure (encL 1 encI_i64 (a0.Edges.getD x_1.snd.toNat default).Proof.Witness.Left), AVal.pure (encL 1 encI_i64 (a0.Edges.getD x_1.snd.toNat default).Proof.Witness.Right)]) ∧ True) ∧ True) ∧ (((a0.Edges.getD x_1.snd.toNat default).U != x.snd) = false → (aS (aI a2) ∧ aS (aI a3) ∧ aS (AVal.ptr 0 0) ∧ aS (AVal.ptr 1 0) ∧ aS (AVal.pure (encL 2 enc_ref23_label y)) ∧ aS (AVal.ptr 3 0) ∧ aS (aI x.snd) ∧ aS (aI x_1.fst) ∧ aS (aI x_1.snd) ∧ aS (AVal.ptr 645 0) ∧ ASub AVal.ff (AVal.pure (PVal.bool false)) ∧ True) ∧ (rS (Res.box [AVal.pure (encL 1 (encL 1 encI_i64) a0.Points), AVal.pure (encL 12 enc_RoadmapEdge a0.Edges)]) ∧ rS (Res.box [AVal.vec 2, aI 0]) ∧ rS Res.nilv ∧ rS (Res.box [AVal.vec 4, aI (y.getD a1.toNat default).Cost]) ∧ rS (vecO 1 encI_i64 x.fst 3) ∧ rS (Res.box [aI (a0.Edges.getD x_1.snd.toNat default).U, aI (a0.Edges.getD x_1.snd.toNat default).V, aI (a0.Edges.getD x_1.snd.toNat default).Cost, aI (a0.Edges.getD x_1.snd.toNat default).State, aI (a0.Edges.getD x_1.snd.toNat default).Proof.Kind, AVal.pure (encL 3 enc_Piece (a0.Edges.getD x_1.snd.toNat default).Proof.Pieces), aI (a0.Edges.getD x_1.snd.toNat default).Proof.At.Depth, aI (a0.Edges.getD x_1.snd.toNat default).Proof.At.Index, AVal.pure (encL 3 enc_arr_3_int64 (a0.Edges.getD x_1.snd.toNat default).Proof.At.Normals), aI (a0.Edges.getD x_1.snd.toNat default).Proof.Witness.Pair, AVal.pure (encL 1 encI_i64 (a0.Edges.getD x_1.snd.toNat default).Proof.Witness.Left), AVal.pure (encL 1 encI_i64 (a0.Edges.getD x_1.snd.toNat default).Proof.Witness.Right)]) ∧ True) ∧ True))) ∧ ∀ (y_1 : Bool), y_1 = y_1 ∧ (y_1 = true → (aS (aI a2) ∧ aS (aI a3) ∧ aS (AVal.ptr 0 0) ∧ aS (AVal.ptr 1 0) ∧ aS (AVal.pure (encL 2 enc_ref23_label y)) ∧ aS (AVal.ptr 3 0) ∧ aS (aI x.snd) ∧ aS (aI x_1.fst) ∧ aS (aI x_1.snd) ∧ True) ∧ (rS (Res.box [AVal.pure (encL 1 (encL 1 encI_i64) a0.Points), AVal.pure (encL 12 enc_RoadmapEdge a0.Edges)]) ∧ rS (Res.box [AVal.vec 2, aI 0]) ∧ rS Res.nilv ∧ rS (Res.box [AVal.vec 4, aI (y.getD a1.toNat default).Cost]) ∧ rS (vecO 1 encI_i64 x.fst 3) ∧ True) ∧ True) ∧ (y_1 = false → IntKind.i64.wrap (IntKind.i64.wrap ((a0.Edges.getD x_1.snd.toNat default).U + (a0.Edges.getD x_1.snd.toNat default).V) - x.snd) = IntKind.i64.wrap (IntKind.i64.wrap ((a0.Edges.getD x_1.snd.toNat default).U + (a0.Edges.getD x_1.snd.toNat default).V) - x.snd) ∧ ∀ (z : Int), (∀ (_y : Bool), true = true ∧ 0 ≤ 5) ∧ ((0 : Int) ≤ z ∧ z < (↑y.length : Int) → ((0 : Int) ≤ z ∧ z < (↑y.length : Int)) ∧ decide ((y.getD z.toNat default).Cost ≥ (0 : Int)) = decide ((y.getD z.toNat default).Cost ≥ (0 : Int)) ∧ (decide ((y.getD z.toNat default).Cost ≥ (0 : Int)) = true → (0 : Int) ≤ z ∧ z < (↑y.length : Int) → ((0 : Int) ≤ z ∧ z < (↑y.length : Int)) ∧ ((0 : Int) ≤ x.snd ∧ x.snd < (↑y.length : Int) → ((0 : Int) ≤ x.snd ∧ x.snd < (↑y.length : Int)) ∧ (IntKind.i64.wrap ((y.getD z.toNat default).Cost + (a0.Edges.getD x_1.snd.toNat default).Cost) == (y.getD x.snd.toNat default).Cost) = (IntKind.i64.wrap ((y.getD z.toNat default).Cost + (a0.Edges.getD x_1.snd.toNat default).Cost) == (y.getD x.snd.toNat default).Cost) ∧ ((IntKind.i64.wrap ((y.getD z.toNat default).Cost + (a0.Edges.getD x_1.snd.toNat default).Cost) == (y.getD x.snd.toNat default).Cost) = true → (0 : Int) ≤ z ∧ z < (↑y.length : Int) → ((0 : Int) ≤ z ∧ z < (↑y.length : Int)) ∧ ((0 : Int) ≤ x.snd ∧ x.snd < (↑y.length : Int) → ((0 : Int) ≤ x.snd ∧ x.snd < (↑y.length : Int)) ∧ (IntKind.i64.wrap ((y.getD z.toNat default).Edges + (1 : Int)) == (y.getD x.snd.toNat default).Edges) = (IntKind.i64.wrap ((y.getD z.toNat default).Edges + (1 : Int)) == (y.getD x.snd.toNat default).Edges) ∧ ((IntKind.i64.wrap ((y.getD z.toNat default).Edges + (1 : Int)) == (y.getD x.snd.toNat default).Edges) = true → decide (x_1.fst < (0 : Int)) = decide (x_1.fst < (0 : Int)) ∧ (decide (x_1.fst < (0 : Int)) = true → (aS (aI a2) ∧ aS (aI a3) ∧ aS (AVal.ptr 0 0) ∧ aS (AVal.ptr 1 0) ∧ aS (AVal.pure (encL 2 enc_ref23_label y)) ∧ aS (AVal.ptr 3 0) ∧ aS (aI x.snd) ∧ aS (aI x_1.fst) ∧ aS (aI x_1.snd) ∧ aS (aI z) ∧ ASub AVal.tt (AVal.pure (PVal.bool true)) ∧ True) ∧ (rS (Res.box [AVal.pure (encL 1 (encL 1 encI_i64) a0.Points), AVal.pure (encL 12 enc_RoadmapEdge a0.Edges)]) ∧ rS (Res.box [AVal.vec 2, aI 0]) ∧ rS Res.nilv ∧ rS (Res.box [AVal.vec 4, aI (y.getD a1.toNat default).Cost]) ∧ rS (vecO 1 encI_i64 x.fst 3) ∧ True) ∧ True) ∧ (decide (x_1.fst < (0 : Int)) = false → (aS (aI a2) ∧ aS (aI a3) ∧ aS (AVal.ptr 0 0) ∧ aS (AVal.ptr 1 0) ∧ aS (AVal.pure (encL 2 enc_ref23_label y)) ∧ aS (AVal.ptr 3 0) ∧ aS (aI x.snd) ∧ aS (aI x_1.fst) ∧ aS (aI x_1.snd) ∧ aS (aI z) ∧ aS (AVal.pure (PVal.bool (decide (z < x_1.fst)))) ∧ True) ∧ (rS (Res.box [AVal.pure (encL 1 (encL 1 encI_i64) a0.Points), AVal.pure (encL 12 enc_RoadmapEdge a0.Edges)]) ∧ rS (Res.box [AVal.vec 2, aI 0]) ∧ rS Res.nilv ∧ rS (Res.box [AVal.vec 4, aI (y.getD a1.toNat default).Cost]) ∧ rS (vecO 1 encI_i64 x.fst 3) ∧ True) ∧ True)) ∧ ((IntKind.i64.wrap ((y.getD z.toNat default).Edges + (1 : Int)) == (y.getD x.snd.toNat default).Edges) = false → (aS (aI a2) ∧ aS (aI a3) ∧ aS (AVal.ptr 0 0) ∧ aS (AVal.ptr 1 0) ∧ aS (AVal.pure (encL 2 enc_ref23_label y)) ∧ aS (AVal.ptr 3 0) ∧ aS (aI x.snd) ∧ aS (aI x_1.fst) ∧ aS (aI x_1.snd) ∧ aS (aI z) ∧ ASub AVal.ff (AVal.pure (PVal.bool false)) ∧ True) ∧ (rS (Res.box [AVal.pure (encL 1 (encL 1 encI_i64) a0.Points), AVal.pure (encL 12 enc_RoadmapEdge a0.Edges)]) ∧ rS (Res.box [AVal.vec 2, aI 0]) ∧ rS Res.nilv ∧ rS (Res.box [AVal.vec 4, aI (y.getD a1.toNat default).Cost]) ∧ rS (vecO 1 encI_i64 x.fst 3) ∧ True) ∧ True))) ∧ ((IntKind.i64.wrap ((y.getD z.toNat default).Cost + (a0.Edges.getD x_1.snd.toNat default).Cost) == (y.getD x.snd.toNat default).Cost) = false → (aS (aI a2) ∧ aS (aI a3) ∧ aS (AVal.ptr 0 0) ∧ aS (AVal.ptr 1 0) ∧ aS (AVal.pure (encL 2 enc_ref23_label y)) ∧ aS (AVal.ptr 3 0) ∧ aS (aI x.snd) ∧ aS (aI x_1.fst) ∧ aS (aI x_1.snd) ∧ aS (aI z) ∧ ASub AVal.ff (AVal.pure (PVal.bool false)) ∧ True) ∧ (rS (Res.box [AVal.pure (encL 1 (encL 1 encI_i64) a0.Points), AVal.pure (encL 12 enc_RoadmapEdge a0.Edges)]) ∧ rS (Res.box [AVal.vec 2, aI 0]) ∧ rS Res.nilv ∧ rS (Res.box [AVal.vec 4, aI (y.getD a1.toNat default).Cost]) ∧ rS (vecO 1 encI_i64 x.fst 3) ∧ True) ∧ True))) ∧ (decide ((y.getD z.toNat default).Cost ≥ (0 : Int)) = false → (aS (aI a2) ∧ aS (aI a3) ∧ aS (AVal.ptr 0 0) ∧ aS (AVal.ptr 1 0) ∧ aS (AVal.pure (encL 2 enc_ref23_label y)) ∧ aS (AVal.ptr 3 0) ∧ aS (aI x.snd) ∧ aS (aI x_1.fst) ∧ aS (aI x_1.snd) ∧ aS (aI z) ∧ ASub AVal.ff (AVal.pure (PVal.bool false)) ∧ True) ∧ (rS (Res.box [AVal.pure (encL 1 (encL 1 encI_i64) a0.Points), AVal.pure (encL 12 enc_RoadmapEdge a0.Edges)]) ∧ rS (Res.box [AVal.vec 2, aI 0]) ∧ rS Res.nilv ∧ rS (Res.box [AVal.vec 4, aI (y.getD a1.toNat default).Cost]) ∧ rS (vecO 1 encI_i64 x.fst 3) ∧ True) ∧ True)) ∧ ∀ (y_2 : Bool), y_2 = y_2 ∧ (y_2 = true → (aS (aI a2) ∧ aS (aI a3) ∧ aS (AVal.ptr 0 0) ∧ aS (AVal.ptr 1 0) ∧ aS (AVal.pure (encL 2 enc_ref23_label y)) ∧ aS (AVal.ptr 3 0) ∧ aS (aI x.snd) ∧ aS (aI z) ∧ aS (aI x_1.snd) ∧ True) ∧ (rS (Res.box [AVal.pure (encL 1 (encL 1 encI_i64) a0.Points), AVal.pure (encL 12 enc_RoadmapEdge a0.Edges)]) ∧ rS (Res.box [AVal.vec 2, aI 0]) ∧ rS Res.nilv ∧ rS (Res.box [AVal.vec 4, aI (y.getD a1.toNat default).Cost]) ∧ rS (vecO 1 encI_i64 x.fst 3) ∧ True) ∧ True) ∧ (y_2 = false → (aS (aI a2) ∧ aS (aI a3) ∧ aS (AVal.ptr 0 0) ∧ aS (AVal.ptr 1 0) ∧ aS (AVal.pure (encL 2 enc_ref23_label y)) ∧ aS (AVal.ptr 3 0) ∧ aS (aI x.snd) ∧ aS (aI x_1.fst) ∧ aS (aI x_1.snd) ∧ True) ∧ (rS (Res.box [AVal.pure (encL 1 (encL 1 encI_i64) a0.Points), AVal.pure (encL 12 enc_RoadmapEdge a0.Edges)]) ∧ rS (Res.box [AVal.vec 2, aI 0]) ∧ rS Res.nilv ∧ rS (Res.box [AVal.vec 4, aI (y.getD a1.toNat default).Cost]) ∧ rS (vecO 1 encI_i64 x.fst 3) ∧ True) ∧ True))) ∧ ∀ (y_1 : Int), (aS (aI a2) ∧ aS (aI a3) ∧ aS (AVal.ptr 0 0) ∧ aS (AVal.ptr 1 0) ∧ aS (AVal.pure (encL 2 enc_ref23_label y)) ∧ aS (AVal.ptr 3 0) ∧ aS (aI x.snd) ∧ aS (aI y_1) ∧ aS (aI (IntKind.i64.wrap (x_1.snd + (1 : Int)))) ∧ True) ∧ (rS (Res.box [AVal.pure (encL 1 (encL 1 encI_i64) a0.Points), AVal.pure (encL 12 enc_RoadmapEdge a0.Edges)]) ∧ rS (Res.box [AVal.vec 2, aI 0]) ∧ rS Res.nilv ∧ rS (Res.box [AVal.vec 4, aI (y.getD a1.toNat default).Cost]) ∧ rS (vecO 1 encI_i64 x.fst 3) ∧ True) ∧ True) ∧ (decide (x_1.snd < (↑a0.Edges.length : Int)) = false → (aS (aI a2) ∧ aS (aI a3) ∧ aS (AVal.ptr 0 0) ∧ aS (AVal.ptr 1 0) ∧ aS (AVal.pure (encL 2 enc_ref23_label y)) ∧ aS (AVal.ptr 3 0) ∧ aS (aI x_1.fst) ∧ True) ∧ (rS (Res.box [AVal.pure (encL 1 (encL 1 encI_i64) a0.Points), AVal.pure (encL 12 enc_RoadmapEdge a0.Edges)]) ∧ rS (Res.box [AVal.vec 2, aI 0]) ∧ rS Res.nilv ∧ rS (Res.box [AVal.vec 4, aI (y.getD a1.toNat default).Cost]) ∧ rS (vecO 1 encI_i64 x.fst 3) ∧ True) ∧ True)) ∧ ∀ (y_1 : Int), (x.fst.length + 1) * 8 ≤ 140737488355328 ∧ x.fst.length + 1 ≤ 9223372036854775807 → ((x.fst.length + 1) * 8 ≤ 140737488355328 ∧ x.fst.length + 1 ≤ 9223372036854775807) ∧ (aS (aI a2) ∧ aS (aI a3) ∧ aS (AVal.ptr 0 0) ∧ aS (AVal.ptr 1 0) ∧ aS (AVal.pure (encL 2 enc_ref23_label y)) ∧ aS (AVal.ptr 3 0) ∧ aS (aI y_1) ∧ True) ∧ (rS (Res.box [AVal.pure (encL 1 (encL 1 encI_i64) a0.Points), AVal.pure (encL 12 enc_RoadmapEdge a0.Edges)]) ∧ rS (Res.box [AVal.vec 2, aI 0]) ∧ rS Res.nilv ∧ rS (Res.box [AVal.vec 389, aI (y.getD a1.toNat default).Cost]) ∧ RSub (Res.vec 1 (x.fst.length + 1) (fun (a : Nat) => appF x.fst.length (el encI_i64 x.fst) (lget [PVal.int IntKind.i64 y_1]) a) 0 3) (vecO 1 encI_i64 (x.fst ++ [y_1]) 3) ∧ True) ∧ True) ∧ ((x.snd != a2) = false → (aS (AVal.ptr 1 0) ∧ aS (AVal.ptr 3 0) ∧ True) ∧ (rS (Res.box [AVal.vec 2, aI 0]) ∧ rS Res.nilv ∧ rS (Res.box [AVal.vec 4, aI (y.getD a1.toNat default).Cost]) ∧ rS (vecO 1 encI_i64 x.fst 3) ∧ True) ∧ True)) ∧ ∀ (y_1 : List Int), (aS (AVal.pure (PVal.agg [encL 1 encI_i64 y_1, PVal.int IntKind.i64 (y.getD a1.toNat default).Cost])) ∧ aS (AVal.pure (PVal.bool true)) ∧ True) ∧ True ∧ True)))) := by kernel_rfl


set_option maxHeartbeats 4000000 in
theorem ref23_Shortest_spec (hd : DrawSound Try.prog drawB) {N : Nat} {a0 : S_Roadmap} {a1 : Int} {a2 : Int} {a3 : Int} {r : (S_Route × Bool)} (h : ref23_Shortest_F N a0 a1 a2 a3 = some r) : Spec Try.prog 42 0 [.pure (.agg [encL 1 (encL 1 encI_i64) a0.Points, encL 12 enc_RoadmapEdge a0.Edges]), .pure (.int .i64 a1), .pure (.int .i64 a2), .pure (.int .i64 a3)] [] (.tup [.pure (.agg [encL 1 encI_i64 r.1.Vertices, .int .i64 r.1.Cost]), .pure (.bool r.2)]) ([]) := by
  refine spec_ofT (n0 := 0) (res := fun r => .tup [.pure (.agg [encL 1 encI_i64 r.1.Vertices, .int .i64 r.1.Cost]), .pure (.bool r.2)]) (m' := fun _ => []) (ref23_Shortest_T N a0 a1 a2 a3) ((ref23_Shortest_run N a0 a1 a2 a3).trans h) hd Try.func42 (by kernel_rfl) (by kernel_rfl) ?_
  rw [ref23_Shortest_vc]
  repeat' (first | exact trivial | exact ASub.refl _ | exact RSub.refl _ | exact ref23_asked_spec hd (by assumption) | exact ref23_labels_spec hd (by assumption) | exact ref23_UsableIn_spec hd (by assumption) | assumption | exact int_eq0 (by assumption) | exact of_decide_eq_true (by assumption) | exact of_decide_eq_false (by assumption) | rfl | (apply And.intro) | (intro _) | exact nl_a | exact ASub.tt rfl | exact ASub.ff rfl | exact mapR_upE rfl | exact RSub.nilv rfl rfl | exact RSub.gone | exact IsL.el | exact IsL.nl | exact IsL.lit (CSubs.of_eq rfl) rfl | refine IsL.lit ?_ rfl | exact IsL.rep (CSub.of_eq rfl) | refine IsL.a ?_ | refine IsL.r0 ?_ | refine IsLL.r ?_ | exact IsLL.el | exact IsLL.rep | refine IsLL.set ?_ ?_ | refine IsL.r ?_ ?_ | refine IsL.app ?_ ?_ | refine IsL.set ?_ (CSub.of_eq rfl) | refine IsL.set ?_ ?_ | exact IsL.sliceE (by omega) (by omega) | refine IsL.slice ?_ ?_ ?_ | exact IsL.take (by first | exact IsL.el | exact IsL.set IsL.el (CSub.of_eq rfl)) (by omega) | refine IsL.take ?_ ?_ | exact CSubs.nil' | refine CSubs.cons' ?_ ?_ | exact CSub.refl _ | exact nl_c | refine CSub.agg ?_ | refine IsL.c ?_ | exact PSubs.nil' | refine PSubs.cons' ?_ ?_ | exact PSub.refl _ | exact nl_p | refine IsL.p ?_ | refine (PSub.agg ?_).a | refine PSub.agg ?_ | refine ASub.agg ?_ | refine RSub.box ?_ | refine tup_a ?_ | refine ASub.p ?_ | omega)

def ref23_EdgeOf_F (N : Nat) (a0 : S_Roadmap) (a1 : Int) (a2 : Int) : Option Int :=
  andK (iter (fun (x13 : Int) => (
   bif (decide (x13 < ((a0.Edges.length : Nat) : Int))) then
    andC (
     grd (0 ≤ x13 ∧ x13 < ((a0.Edges.length : Nat) : Int)) <|
     bif (((a0.Edges.getD ((x13).toNat) default).U) == (min a1 a2)) then
      grd (0 ≤ x13 ∧ x13 < ((a0.Edges.length : Nat) : Int)) <|
      some (.out (((a0.Edges.getD ((x13).toNat) default).V) == (max a1 a2)))
     else
      some (.out false) : Option (Step3 Unit Bool _)) fun y18 =>
    bif y18 then
     some (.fin x13)
    else
     some (.next (IntKind.i64.wrap (x13 + 1)))
   else
    some (.out .u) : Option (Step3 Int U0 _))) N 0) fun _ =>
  some (-1)

def ref23_EdgeOf_T (_N : Nat) (a0 : S_Roadmap) (a1 : Int) (a2 : Int) : T Int :=
  .loop (fun (x13 : Int) => ⟨[(1, .pure (.int .i64 a1)), (2, .pure (.int .i64 a2)), (3, .ptr 0 0), (7, .pure (.int .i64 x13))], [(0, .box [.pure (encL 1 (encL 1 encI_i64) a0.Points), .pure (encL 12 enc_RoadmapEdge a0.Edges)])], [], 1⟩)
   (.exit 0) (fun (_ : U0) => ⟨[], [], [], 0⟩)
   (fun x13 => .br (decide (x13 < ((a0.Edges.length : Nat) : Int)))
     (.cut 1 (fun (y18 : Bool) => ⟨[(1, .pure (.int .i64 a1)), (2, .pure (.int .i64 a2)), (3, .ptr 0 0), (7, .pure (.int .i64 x13)), (36, .pure (.bool y18))], [(0, .box [.pure (encL 1 (encL 1 encI_i64) a0.Points), .pure (encL 12 enc_RoadmapEdge a0.Edges)])], [], 1⟩)
      (.grd (0 ≤ x13 ∧ x13 < ((a0.Edges.length : Nat) : Int)) <|
      .br (((a0.Edges.getD ((x13).toNat) default).U) == (min a1 a2))
       (.grd (0 ≤ x13 ∧ x13 < ((a0.Edges.length : Nat) : Int)) <|
       .ret (.out (((a0.Edges.getD ((x13).toNat) default).V) == (max a1 a2))))
       (.ret (.out false))) fun y18 =>
     .br y18
      (.ret (.fin x13))
      (.ret (.next (IntKind.i64.wrap (x13 + 1)))))
     (.ret (.out .u)))
   0 fun _ =>
  .ret (-1)

theorem ref23_EdgeOf_run (N : Nat) (a0 : S_Roadmap) (a1 : Int) (a2 : Int) : (ref23_EdgeOf_T N a0 a1 a2).run N = ref23_EdgeOf_F N a0 a1 a2 := by kernel_rfl

theorem ref23_EdgeOf_vc (N : Nat) (a0 : S_Roadmap) (a1 : Int) (a2 : Int) : (vcFuncT Try.prog drawB Try.f29 (Try.f29.body.getD .skip) 0 0 (ref23_EdgeOf_T N a0 a1 a2) [.pure (.agg [encL 1 (encL 1 encI_i64) a0.Points, encL 12 enc_RoadmapEdge a0.Edges]), .pure (.int .i64 a1), .pure (.int .i64 a2)] [] (fun r => .pure (.int .i64 r)) (fun _ => [])) =
    ((∀ (_x : Int), true = true ∧ 0 ≤ 1) ∧ (∀ (_y : U0), true = true ∧ 0 ≤ 0) ∧ ((aS (aI a1) ∧ aS (aI a2) ∧ aS (AVal.ptr 0 0) ∧ aS (aI 0) ∧ True) ∧ (rS (Res.box [AVal.pure (encL 1 (encL 1 encI_i64) a0.Points), AVal.pure (encL 12 enc_RoadmapEdge a0.Edges)]) ∧ True) ∧ True) ∧ (∀ (x : Int), decide (x < (↑a0.Edges.length : Int)) = decide (x < (↑a0.Edges.length : Int)) ∧ (decide (x < (↑a0.Edges.length : Int)) = true → (∀ (_y : Bool), true = true ∧ 0 ≤ 1) ∧ ((0 : Int) ≤ x ∧ x < (↑a0.Edges.length : Int) → ((0 : Int) ≤ x ∧ x < (↑a0.Edges.length : Int)) ∧ ((a0.Edges.getD x.toNat default).U == Min.min a1 a2) = ((a0.Edges.getD x.toNat default).U == Min.min a1 a2) ∧ (((a0.Edges.getD x.toNat default).U == Min.min a1 a2) = true → (0 : Int) ≤ x ∧ x < (↑a0.Edges.length : Int) → ((0 : Int) ≤ x ∧ x < (↑a0.Edges.length : Int)) ∧ (aS (aI a1) ∧ aS (aI a2) ∧ aS (AVal.ptr 0 0) ∧ aS (aI x) ∧ aS (AVal.pure (PVal.bool ((a0.Edges.getD x.toNat default).V == Max.max a1 a2))) ∧ True) ∧ (rS (Res.box [AVal.pure (encL 1 (encL 1 encI_i64) a0.Points), AVal.pure (encL 12 enc_RoadmapEdge a0.Edges)]) ∧ True) ∧ True) ∧ (((a0.Edges.getD x.toNat default).U == Min.min a1 a2) = false → (aS (aI a1) ∧ aS (aI a2) ∧ aS (AVal.ptr 0 0) ∧ aS (aI x) ∧ ASub AVal.ff (AVal.pure (PVal.bool false)) ∧ True) ∧ (rS (Res.box [AVal.pure (encL 1 (encL 1 encI_i64) a0.Points), AVal.pure (encL 12 enc_RoadmapEdge a0.Edges)]) ∧ True) ∧ True)) ∧ ∀ (y : Bool), y = y ∧ (y = true → (aS (aI x) ∧ True) ∧ True ∧ True) ∧ (y = false → (aS (aI a1) ∧ aS (aI a2) ∧ aS (AVal.ptr 0 0) ∧ aS (aI (IntKind.i64.wrap (x + (1 : Int)))) ∧ True) ∧ (rS (Res.box [AVal.pure (encL 1 (encL 1 encI_i64) a0.Points), AVal.pure (encL 12 enc_RoadmapEdge a0.Edges)]) ∧ True) ∧ True)) ∧ (decide (x < (↑a0.Edges.length : Int)) = false → True ∧ True ∧ True)) ∧ ∀ (_y : U0), (aS (aI (-1 : Int)) ∧ True) ∧ True ∧ True) := by kernel_rfl


set_option maxHeartbeats 4000000 in
theorem ref23_EdgeOf_spec (hd : DrawSound Try.prog drawB) {N : Nat} {a0 : S_Roadmap} {a1 : Int} {a2 : Int} {r : Int} (h : ref23_EdgeOf_F N a0 a1 a2 = some r) : Spec Try.prog 29 0 [.pure (.agg [encL 1 (encL 1 encI_i64) a0.Points, encL 12 enc_RoadmapEdge a0.Edges]), .pure (.int .i64 a1), .pure (.int .i64 a2)] [] (.pure (.int .i64 r)) ([]) := by
  refine spec_ofT (n0 := 0) (res := fun r => .pure (.int .i64 r)) (m' := fun _ => []) (ref23_EdgeOf_T N a0 a1 a2) ((ref23_EdgeOf_run N a0 a1 a2).trans h) hd Try.func29 (by kernel_rfl) (by kernel_rfl) ?_
  rw [ref23_EdgeOf_vc]
  repeat' (first | exact trivial | exact ASub.refl _ | exact RSub.refl _ | assumption | exact int_eq0 (by assumption) | exact of_decide_eq_true (by assumption) | exact of_decide_eq_false (by assumption) | rfl | (apply And.intro) | (intro _) | exact nl_a | exact ASub.tt rfl | exact ASub.ff rfl | exact mapR_upE rfl | exact RSub.nilv rfl rfl | exact RSub.gone | exact IsL.el | exact IsL.nl | exact IsL.lit (CSubs.of_eq rfl) rfl | refine IsL.lit ?_ rfl | exact IsL.rep (CSub.of_eq rfl) | refine IsL.a ?_ | refine IsL.r0 ?_ | refine IsLL.r ?_ | exact IsLL.el | exact IsLL.rep | refine IsLL.set ?_ ?_ | refine IsL.r ?_ ?_ | refine IsL.app ?_ ?_ | refine IsL.set ?_ (CSub.of_eq rfl) | refine IsL.set ?_ ?_ | exact IsL.sliceE (by omega) (by omega) | refine IsL.slice ?_ ?_ ?_ | exact IsL.take (by first | exact IsL.el | exact IsL.set IsL.el (CSub.of_eq rfl)) (by omega) | refine IsL.take ?_ ?_ | exact CSubs.nil' | refine CSubs.cons' ?_ ?_ | exact CSub.refl _ | exact nl_c | refine CSub.agg ?_ | refine IsL.c ?_ | exact PSubs.nil' | refine PSubs.cons' ?_ ?_ | exact PSub.refl _ | exact nl_p | refine IsL.p ?_ | refine (PSub.agg ?_).a | refine PSub.agg ?_ | refine ASub.agg ?_ | refine RSub.box ?_ | refine tup_a ?_ | refine ASub.p ?_ | omega)

def ref23_Next_F (N : Nat) (a0 : S_Roadmap) (a1 : Int) (a2 : Int) : Option (Int × S_Route × Int) :=
  (ref23_asked_F N a0 a1 a2).bind fun y4 =>
  bif (!y4) then
   some ((-1), (⟨nl, 0⟩ : S_Route), 0)
  else
   (ref23_Shortest_F N a0 a1 a2 1).bind fun y6 =>
   bif (!y6.2) then
    some ((-1), (⟨nl, 0⟩ : S_Route), 2)
   else
    andK (iter (fun (x27 : Int) => (
     bif (decide (x27 < ((y6.1.Vertices.length : Nat) : Int))) then
      grd (0 ≤ (IntKind.i64.wrap (x27 - 1)) ∧ (IntKind.i64.wrap (x27 - 1)) < ((y6.1.Vertices.length : Nat) : Int)) <|
      grd (0 ≤ x27 ∧ x27 < ((y6.1.Vertices.length : Nat) : Int)) <|
      (ref23_EdgeOf_F N a0 (y6.1.Vertices.getD (((IntKind.i64.wrap (x27 - 1))).toNat) default) (y6.1.Vertices.getD ((x27).toNat) default)).bind fun y36 =>
      grd (0 ≤ y36 ∧ y36 < ((a0.Edges.length : Nat) : Int)) <|
      bif (((a0.Edges.getD ((y36).toNat) default).State) == 0) then
       some (.fin (y36, y6.1, 3))
      else
       some (.next (IntKind.i64.wrap (x27 + 1)))
     else
      some (.out .u) : Option (Step3 Int U0 _))) N 1) fun _ =>
    some ((-1), y6.1, 1)

def ref23_Next_T (N : Nat) (a0 : S_Roadmap) (a1 : Int) (a2 : Int) : T (Int × S_Route × Int) :=
  .call (ref23_asked_F N a0 a1 a2) (fun y4 => ⟨[], 0, [.pure (.agg [encL 1 (encL 1 encI_i64) a0.Points, encL 12 enc_RoadmapEdge a0.Edges]), .pure (.int .i64 a1), .pure (.int .i64 a2)], [], .pure (.bool y4), []⟩) fun y4 =>
  .br (!y4)
   (.ret ((-1), (⟨nl, 0⟩ : S_Route), 0))
   (.call (ref23_Shortest_F N a0 a1 a2 1) (fun y6 => ⟨[], 0, [.pure (.agg [encL 1 (encL 1 encI_i64) a0.Points, encL 12 enc_RoadmapEdge a0.Edges]), .pure (.int .i64 a1), .pure (.int .i64 a2), .pure (.int .i64 1)], [], .tup [.pure (.agg [encL 1 encI_i64 y6.1.Vertices, .int .i64 y6.1.Cost]), .pure (.bool y6.2)], []⟩) fun y6 =>
   .br (!y6.2)
    (.ret ((-1), (⟨nl, 0⟩ : S_Route), 2))
    (.loop (fun (x27 : Int) => ⟨[(3, .ptr 0 0), (7, .ptr 1 0), (9, .ptr 3 0), (11, .pure (.int .i64 x27))], [(0, .box [.pure (encL 1 (encL 1 encI_i64) a0.Points), .pure (encL 12 enc_RoadmapEdge a0.Edges)]), (1, .box [.vec 2, .pure (.int .i64 0)]), (2, .nilv), (3, .box [.pure (encL 1 encI_i64 y6.1.Vertices), .pure (.int .i64 y6.1.Cost)])], [], 4⟩)
     (.exit 0) (fun (_ : U0) => ⟨[(7, .ptr 0 0), (9, .ptr 2 0)], [(0, .box [.vec 1, .pure (.int .i64 0)]), (1, .nilv), (2, .box [.pure (encL 1 encI_i64 y6.1.Vertices), .pure (.int .i64 y6.1.Cost)])], [], 3⟩)
     (fun x27 => .br (decide (x27 < ((y6.1.Vertices.length : Nat) : Int)))
       (.grd (0 ≤ (IntKind.i64.wrap (x27 - 1)) ∧ (IntKind.i64.wrap (x27 - 1)) < ((y6.1.Vertices.length : Nat) : Int)) <|
       .grd (0 ≤ x27 ∧ x27 < ((y6.1.Vertices.length : Nat) : Int)) <|
       .call (ref23_EdgeOf_F N a0 (y6.1.Vertices.getD (((IntKind.i64.wrap (x27 - 1))).toNat) default) (y6.1.Vertices.getD ((x27).toNat) default)) (fun y36 => ⟨[], 0, [.pure (.agg [encL 1 (encL 1 encI_i64) a0.Points, encL 12 enc_RoadmapEdge a0.Edges]), .pure (.int .i64 (y6.1.Vertices.getD (((IntKind.i64.wrap (x27 - 1))).toNat) default)), .pure (.int .i64 (y6.1.Vertices.getD ((x27).toNat) default))], [], .pure (.int .i64 y36), []⟩) fun y36 =>
       .grd (0 ≤ y36 ∧ y36 < ((a0.Edges.length : Nat) : Int)) <|
       .br (((a0.Edges.getD ((y36).toNat) default).State) == 0)
        (.ret (.fin (y36, y6.1, 3)))
        (.ret (.next (IntKind.i64.wrap (x27 + 1)))))
       (.ret (.out .u)))
     1 fun _ =>
    .ret ((-1), y6.1, 1)))

theorem ref23_Next_run (N : Nat) (a0 : S_Roadmap) (a1 : Int) (a2 : Int) : (ref23_Next_T N a0 a1 a2).run N = ref23_Next_F N a0 a1 a2 := by kernel_rfl

theorem ref23_Next_vc (N : Nat) (a0 : S_Roadmap) (a1 : Int) (a2 : Int) : (vcFuncT Try.prog drawB Try.f43 (Try.f43.body.getD .skip) 0 0 (ref23_Next_T N a0 a1 a2) [.pure (.agg [encL 1 (encL 1 encI_i64) a0.Points, encL 12 enc_RoadmapEdge a0.Edges]), .pure (.int .i64 a1), .pure (.int .i64 a2)] [] (fun r => .tup [.pure (.int .i64 r.1), .pure (.agg [encL 1 encI_i64 r.2.1.Vertices, .int .i64 r.2.1.Cost]), .pure (.int .i64 r.2.2)]) (fun _ => [])) =
    (∀ (y : Bool), ref23_asked_F N a0 a1 a2 = some y → ((aS (AVal.pure (PVal.agg [encL 1 (encL 1 encI_i64) a0.Points, encL 12 enc_RoadmapEdge a0.Edges])) ∧ aS (aI a1) ∧ aS (aI a2) ∧ True) ∧ True ∧ Spec Try.prog 54 0 [AVal.pure (PVal.agg [encL 1 (encL 1 encI_i64) a0.Points, encL 12 enc_RoadmapEdge a0.Edges]), aI a1, aI a2] [] (AVal.pure (PVal.bool y)) []) ∧ (!y) = !y ∧ ((!y) = true → (aS (aI (-1 : Int)) ∧ ASub (AVal.pure (PVal.agg [PVal.lst 0 0 fun (_x : Nat) => PVal.unk, PVal.int IntKind.i64 0])) (AVal.pure (PVal.agg [encL 1 encI_i64 nl, PVal.int IntKind.i64 0])) ∧ aS (aI 0) ∧ True) ∧ True ∧ True) ∧ ((!y) = false → ∀ (y : S_Route × Bool), ref23_Shortest_F N a0 a1 a2 (1 : Int) = some y → ((aS (AVal.pure (PVal.agg [encL 1 (encL 1 encI_i64) a0.Points, encL 12 enc_RoadmapEdge a0.Edges])) ∧ aS (aI a1) ∧ aS (aI a2) ∧ aS (aI 1) ∧ True) ∧ True ∧ Spec Try.prog 42 0 [AVal.pure (PVal.agg [encL 1 (encL 1 encI_i64) a0.Points, encL 12 enc_RoadmapEdge a0.Edges]), aI a1, aI a2, aI 1] [] (AVal.tup [AVal.pure (PVal.agg [encL 1 encI_i64 y.fst.Vertices, PVal.int IntKind.i64 y.fst.Cost]), AVal.pure (PVal.bool y.snd)]) []) ∧ (!y.snd) = !y.snd ∧ ((!y.snd) = true → (aS (aI (-1 : Int)) ∧ ASub (AVal.pure (PVal.agg [PVal.lst 0 0 fun (_x : Nat) => PVal.unk, PVal.int IntKind.i64 0])) (AVal.pure (PVal.agg [encL 1 encI_i64 nl, PVal.int IntKind.i64 0])) ∧ aS (aI 2) ∧ True) ∧ True ∧ True) ∧ ((!y.snd) = false → (∀ (_x : Int), true = true ∧ 0 ≤ 4) ∧ (∀ (_y : U0), true = true ∧ 0 ≤ 3) ∧ ((aS (AVal.ptr 0 0) ∧ aS (AVal.ptr 128 0) ∧ aS (AVal.ptr 1024 0) ∧ aS (aI 1) ∧ True) ∧ (rS (Res.box [AVal.pure (encL 1 (encL 1 encI_i64) a0.Points), AVal.pure (encL 12 enc_RoadmapEdge a0.Edges)]) ∧ rS (Res.box [AVal.vec 129, aI 0]) ∧ rS Res.nilv ∧ rS (Res.box [AVal.pure (encL 1 encI_i64 y.fst.Vertices), aI y.fst.Cost]) ∧ True) ∧ True) ∧ (∀ (x : Int), decide (x < (↑y.fst.Vertices.length : Int)) = decide (x < (↑y.fst.Vertices.length : Int)) ∧ (decide (x < (↑y.fst.Vertices.length : Int)) = true → (0 : Int) ≤ IntKind.i64.wrap (x - (1 : Int)) ∧ IntKind.i64.wrap (x - (1 : Int)) < (↑y.fst.Vertices.length : Int) → ((0 : Int) ≤ IntKind.i64.wrap (x - (1 : Int)) ∧ IntKind.i64.wrap (x - (1 : Int)) < (↑y.fst.Vertices.length : Int)) ∧ ((0 : Int) ≤ x ∧ x < (↑y.fst.Vertices.length : Int) → ((0 : Int) ≤ x ∧ x < (↑y.fst.Vertices.length : Int)) ∧ ∀ (y_1 : Int), ref23_EdgeOf_F N a0 (y.fst.Vertices.getD (IntKind.i64.wrap (x - (1 : Int))).toNat default) (y.fst.Vertices.getD x.toNat default) = some y_1 → ((aS (AVal.pure (PVal.agg [encL 1 (encL 1 encI_i64) a0.Points, encL 12 enc_RoadmapEdge a0.Edges])) ∧ aS (aI (y.fst.Vertices.getD (IntKind.i64.wrap (x - (1 : Int))).toNat default)) ∧ aS (aI (y.fst.Vertices.getD x.toNat default)) ∧ True) ∧ True ∧ Spec Try.prog 29 0 [AVal.pure (PVal.agg [encL 1 (encL 1 encI_i64) a0.Points, encL 12 enc_RoadmapEdge a0.Edges]), aI (y.fst.Vertices.getD (IntKind.i64.wrap (x - (1 : Int))).toNat default), aI (y.fst.Vertices.getD x.toNat default)] [] (aI y_1) []) ∧ ((0 : Int) ≤ y_1 ∧ y_1 < (↑a0.Edges.length : Int) → ((0 : Int) ≤ y_1 ∧ y_1 < (↑a0.Edges.length : Int)) ∧ ((a0.Edges.getD y_1.toNat default).State == (0 : Int)) = ((a0.Edges.getD y_1.toNat default).State == (0 : Int)) ∧ (((a0.Edges.getD y_1.toNat default).State == (0 : Int)) = true → (aS (aI y_1) ∧ aS (AVal.pure (PVal.agg [encL 1 encI_i64 y.fst.Vertices, PVal.int IntKind.i64 y.fst.Cost])) ∧ aS (aI 3) ∧ True) ∧ True ∧ True) ∧ (((a0.Edges.getD y_1.toNat default).State == (0 : Int)) = false → (aS (AVal.ptr 0 0) ∧ aS (AVal.ptr 1 0) ∧ aS (AVal.ptr 3 0) ∧ aS (aI (IntKind.i64.wrap (x + (1 : Int)))) ∧ True) ∧ (rS (Res.box [AVal.pure (encL 1 (encL 1 encI_i64) a0.Points), AVal.pure (encL 12 enc_RoadmapEdge a0.Edges)]) ∧ rS (Res.box [AVal.vec 2, aI 0]) ∧ rS Res.nilv ∧ rS (Res.box [AVal.pure (encL 1 encI_i64 y.fst.Vertices), aI y.fst.Cost]) ∧ True) ∧ True)))) ∧ (decide (x < (↑y.fst.Vertices.length : Int)) = false → (aS (AVal.ptr 1 0) ∧ aS (AVal.ptr 3 0) ∧ True) ∧ (rS (Res.box [AVal.vec 2, aI 0]) ∧ rS Res.nilv ∧ rS (Res.box [AVal.pure (encL 1 encI_i64 y.fst.Vertices), aI y.fst.Cost]) ∧ True) ∧ True)) ∧ ∀ (_y : U0), (aS (aI (-1 : Int)) ∧ aS (AVal.pure (PVal.agg [encL 1 encI_i64 y.fst.Vertices, PVal.int IntKind.i64 y.fst.Cost])) ∧ aS (aI 1) ∧ True) ∧ True ∧ True))) := by kernel_rfl


set_option maxHeartbeats 4000000 in
theorem ref23_Next_spec (hd : DrawSound Try.prog drawB) {N : Nat} {a0 : S_Roadmap} {a1 : Int} {a2 : Int} {r : (Int × S_Route × Int)} (h : ref23_Next_F N a0 a1 a2 = some r) : Spec Try.prog 43 0 [.pure (.agg [encL 1 (encL 1 encI_i64) a0.Points, encL 12 enc_RoadmapEdge a0.Edges]), .pure (.int .i64 a1), .pure (.int .i64 a2)] [] (.tup [.pure (.int .i64 r.1), .pure (.agg [encL 1 encI_i64 r.2.1.Vertices, .int .i64 r.2.1.Cost]), .pure (.int .i64 r.2.2)]) ([]) := by
  refine spec_ofT (n0 := 0) (res := fun r => .tup [.pure (.int .i64 r.1), .pure (.agg [encL 1 encI_i64 r.2.1.Vertices, .int .i64 r.2.1.Cost]), .pure (.int .i64 r.2.2)]) (m' := fun _ => []) (ref23_Next_T N a0 a1 a2) ((ref23_Next_run N a0 a1 a2).trans h) hd Try.func43 (by kernel_rfl) (by kernel_rfl) ?_
  rw [ref23_Next_vc]
  repeat' (first | exact trivial | exact ASub.refl _ | exact RSub.refl _ | exact ref23_asked_spec hd (by assumption) | exact ref23_Shortest_spec hd (by assumption) | exact ref23_EdgeOf_spec hd (by assumption) | assumption | exact int_eq0 (by assumption) | exact of_decide_eq_true (by assumption) | exact of_decide_eq_false (by assumption) | rfl | (apply And.intro) | (intro _) | exact nl_a | exact ASub.tt rfl | exact ASub.ff rfl | exact mapR_upE rfl | exact RSub.nilv rfl rfl | exact RSub.gone | exact IsL.el | exact IsL.nl | exact IsL.lit (CSubs.of_eq rfl) rfl | refine IsL.lit ?_ rfl | exact IsL.rep (CSub.of_eq rfl) | refine IsL.a ?_ | refine IsL.r0 ?_ | refine IsLL.r ?_ | exact IsLL.el | exact IsLL.rep | refine IsLL.set ?_ ?_ | refine IsL.r ?_ ?_ | refine IsL.app ?_ ?_ | refine IsL.set ?_ (CSub.of_eq rfl) | refine IsL.set ?_ ?_ | exact IsL.sliceE (by omega) (by omega) | refine IsL.slice ?_ ?_ ?_ | exact IsL.take (by first | exact IsL.el | exact IsL.set IsL.el (CSub.of_eq rfl)) (by omega) | refine IsL.take ?_ ?_ | exact CSubs.nil' | refine CSubs.cons' ?_ ?_ | exact CSub.refl _ | exact nl_c | refine CSub.agg ?_ | refine IsL.c ?_ | exact PSubs.nil' | refine PSubs.cons' ?_ ?_ | exact PSub.refl _ | exact nl_p | refine IsL.p ?_ | refine (PSub.agg ?_).a | refine PSub.agg ?_ | refine ASub.agg ?_ | refine RSub.box ?_ | refine tup_a ?_ | refine ASub.p ?_ | omega)

def ref23_joins_F (_N : Nat) (a0 : S_Roadmap) (a1 : S_RoadmapEdge) : Option Bool :=
  bif (decide (a1.U ≥ 0)) then
   bif (decide (a1.U < ((a0.Points.length : Nat) : Int))) then
    bif (decide (a1.V ≥ 0)) then
     some (decide (a1.V < ((a0.Points.length : Nat) : Int)))
    else
     some false
   else
    some false
  else
   some false

def ref23_joins_T (_N : Nat) (a0 : S_Roadmap) (a1 : S_RoadmapEdge) : T Bool :=
  .br (decide (a1.U ≥ 0))
   (.br (decide (a1.U < ((a0.Points.length : Nat) : Int)))
    (.br (decide (a1.V ≥ 0))
     (.ret (decide (a1.V < ((a0.Points.length : Nat) : Int))))
     (.ret false))
    (.ret false))
   (.ret false)

theorem ref23_joins_run (N : Nat) (a0 : S_Roadmap) (a1 : S_RoadmapEdge) : (ref23_joins_T N a0 a1).run N = ref23_joins_F N a0 a1 := by kernel_rfl

theorem ref23_joins_vc (N : Nat) (a0 : S_Roadmap) (a1 : S_RoadmapEdge) : (vcFuncT Try.prog drawB Try.f49 (Try.f49.body.getD .skip) 0 0 (ref23_joins_T N a0 a1) [.pure (.agg [encL 1 (encL 1 encI_i64) a0.Points, encL 12 enc_RoadmapEdge a0.Edges]), .pure (.agg [.int .i64 a1.U, .int .i64 a1.V, .int .i64 a1.Cost, .int .i64 a1.State, .int .i64 a1.Proof.Kind, encL 3 enc_Piece a1.Proof.Pieces, .int .i64 a1.Proof.At.Depth, .int .i64 a1.Proof.At.Index, encL 3 enc_arr_3_int64 a1.Proof.At.Normals, .int .i64 a1.Proof.Witness.Pair, encL 1 encI_i64 a1.Proof.Witness.Left, encL 1 encI_i64 a1.Proof.Witness.Right])] [] (fun r => .pure (.bool r)) (fun _ => [])) =
    (decide (a1.U ≥ (0 : Int)) = decide (a1.U ≥ (0 : Int)) ∧ (decide (a1.U ≥ (0 : Int)) = true → decide (a1.U < (↑a0.Points.length : Int)) = decide (a1.U < (↑a0.Points.length : Int)) ∧ (decide (a1.U < (↑a0.Points.length : Int)) = true → decide (a1.V ≥ (0 : Int)) = decide (a1.V ≥ (0 : Int)) ∧ (decide (a1.V ≥ (0 : Int)) = true → (aS (AVal.pure (PVal.bool (decide (a1.V < (↑a0.Points.length : Int))))) ∧ True) ∧ True ∧ True) ∧ (decide (a1.V ≥ (0 : Int)) = false → (aS (AVal.pure (PVal.bool false)) ∧ True) ∧ True ∧ True)) ∧ (decide (a1.U < (↑a0.Points.length : Int)) = false → (aS (AVal.pure (PVal.bool false)) ∧ True) ∧ True ∧ True)) ∧ (decide (a1.U ≥ (0 : Int)) = false → (aS (AVal.pure (PVal.bool false)) ∧ True) ∧ True ∧ True)) := by kernel_rfl


set_option maxHeartbeats 4000000 in
theorem ref23_joins_spec (hd : DrawSound Try.prog drawB) {N : Nat} {a0 : S_Roadmap} {a1 : S_RoadmapEdge} {r : Bool} (h : ref23_joins_F N a0 a1 = some r) : Spec Try.prog 49 0 [.pure (.agg [encL 1 (encL 1 encI_i64) a0.Points, encL 12 enc_RoadmapEdge a0.Edges]), .pure (.agg [.int .i64 a1.U, .int .i64 a1.V, .int .i64 a1.Cost, .int .i64 a1.State, .int .i64 a1.Proof.Kind, encL 3 enc_Piece a1.Proof.Pieces, .int .i64 a1.Proof.At.Depth, .int .i64 a1.Proof.At.Index, encL 3 enc_arr_3_int64 a1.Proof.At.Normals, .int .i64 a1.Proof.Witness.Pair, encL 1 encI_i64 a1.Proof.Witness.Left, encL 1 encI_i64 a1.Proof.Witness.Right])] [] (.pure (.bool r)) ([]) := by
  refine spec_ofT (n0 := 0) (res := fun r => .pure (.bool r)) (m' := fun _ => []) (ref23_joins_T N a0 a1) ((ref23_joins_run N a0 a1).trans h) hd Try.func49 (by kernel_rfl) (by kernel_rfl) ?_
  rw [ref23_joins_vc]
  repeat' (first | exact trivial | exact ASub.refl _ | exact RSub.refl _ | assumption | exact int_eq0 (by assumption) | exact of_decide_eq_true (by assumption) | exact of_decide_eq_false (by assumption) | rfl | (apply And.intro) | (intro _) | exact nl_a | exact ASub.tt rfl | exact ASub.ff rfl | exact mapR_upE rfl | exact RSub.nilv rfl rfl | exact RSub.gone | exact IsL.el | exact IsL.nl | exact IsL.lit (CSubs.of_eq rfl) rfl | refine IsL.lit ?_ rfl | exact IsL.rep (CSub.of_eq rfl) | refine IsL.a ?_ | refine IsL.r0 ?_ | refine IsLL.r ?_ | exact IsLL.el | exact IsLL.rep | refine IsLL.set ?_ ?_ | refine IsL.r ?_ ?_ | refine IsL.app ?_ ?_ | refine IsL.set ?_ (CSub.of_eq rfl) | refine IsL.set ?_ ?_ | exact IsL.sliceE (by omega) (by omega) | refine IsL.slice ?_ ?_ ?_ | exact IsL.take (by first | exact IsL.el | exact IsL.set IsL.el (CSub.of_eq rfl)) (by omega) | refine IsL.take ?_ ?_ | exact CSubs.nil' | refine CSubs.cons' ?_ ?_ | exact CSub.refl _ | exact nl_c | refine CSub.agg ?_ | refine IsL.c ?_ | exact PSubs.nil' | refine PSubs.cons' ?_ ?_ | exact PSub.refl _ | exact nl_p | refine IsL.p ?_ | refine (PSub.agg ?_).a | refine PSub.agg ?_ | refine ASub.agg ?_ | refine RSub.box ?_ | refine tup_a ?_ | refine ASub.p ?_ | omega)

def ref23_Incident_F (N : Nat) (a0 : S_Roadmap) (a1 : Int) : Option (List Int) :=
  andK (iter (fun (x57 : ((List Int) × Int)) => (
   bif (decide (x57.2 < ((a0.Edges.length : Nat) : Int))) then
    andC (
     grd (0 ≤ x57.2 ∧ x57.2 < ((a0.Edges.length : Nat) : Int)) <|
     andC (
      (ref23_joins_F N a0 (a0.Edges.getD ((x57.2).toNat) default)).bind fun y84 =>
      bif y84 then
       bif (((a0.Edges.getD ((x57.2).toNat) default).U) == a1) then
        some (.out true)
       else
        some (.out (((a0.Edges.getD ((x57.2).toNat) default).V) == a1))
      else
       some (.out false) : Option (Step3 Unit Bool _)) fun y83 =>
     bif y83 then
      grd ((x57.1.length + 1) * 8 ≤ 140737488355328 ∧ (x57.1.length + 1) ≤ maxLen) <|
      some (.out (x57.1 ++ ([x57.2] : (List Int))))
     else
      some (.out x57.1) : Option (Step3 Unit (List Int) _)) fun y80 =>
    some (.next (y80, (IntKind.i64.wrap (x57.2 + 1))))
   else
    some (.out x57.1) : Option (Step3 ((List Int) × Int) (List Int) _))) N (nl, 0)) fun y71 =>
  some y71

def ref23_Incident_T (N : Nat) (a0 : S_Roadmap) (a1 : Int) : T (List Int) :=
  .loop (fun (x57 : ((List Int) × Int)) => ⟨[(1, .pure (.int .i64 a1)), (2, .ptr 0 0), (5, .vec 1), (6, .pure (.int .i64 x57.2))], [(0, .box [.pure (encL 1 (encL 1 encI_i64) a0.Points), .pure (encL 12 enc_RoadmapEdge a0.Edges)]), (1, vecO 1 encI_i64 x57.1 3)], [], 2⟩)
   (.exit 0) (fun (y71 : (List Int)) => ⟨[(5, .vec 0)], [(0, vecO 1 encI_i64 y71 3)], [], 1⟩)
   (fun x57 => .br (decide (x57.2 < ((a0.Edges.length : Nat) : Int)))
     (.cut 0 (fun (y80 : (List Int)) => ⟨[(1, .pure (.int .i64 a1)), (2, .ptr 0 0), (5, .vec 1), (6, .pure (.int .i64 x57.2))], [(0, .box [.pure (encL 1 (encL 1 encI_i64) a0.Points), .pure (encL 12 enc_RoadmapEdge a0.Edges)]), (1, vecO 1 encI_i64 y80 3)], [], 2⟩)
      (.grd (0 ≤ x57.2 ∧ x57.2 < ((a0.Edges.length : Nat) : Int)) <|
      .cut 0 (fun (y83 : Bool) => ⟨[(1, .pure (.int .i64 a1)), (2, .ptr 0 0), (5, .vec 1), (6, .pure (.int .i64 x57.2)), (34, .pure (.bool y83))], [(0, .box [.pure (encL 1 (encL 1 encI_i64) a0.Points), .pure (encL 12 enc_RoadmapEdge a0.Edges)]), (1, vecO 1 encI_i64 x57.1 3)], [], 2⟩)
       (.call (ref23_joins_F N a0 (a0.Edges.getD ((x57.2).toNat) default)) (fun y84 => ⟨[], 0, [.pure (.agg [encL 1 (encL 1 encI_i64) a0.Points, encL 12 enc_RoadmapEdge a0.Edges]), .pure (.agg [.int .i64 ((a0.Edges.getD ((x57.2).toNat) default).U), .int .i64 ((a0.Edges.getD ((x57.2).toNat) default).V), .int .i64 ((a0.Edges.getD ((x57.2).toNat) default).Cost), .int .i64 ((a0.Edges.getD ((x57.2).toNat) default).State), .int .i64 ((a0.Edges.getD ((x57.2).toNat) default).Proof.Kind), encL 3 enc_Piece ((a0.Edges.getD ((x57.2).toNat) default).Proof.Pieces), .int .i64 ((a0.Edges.getD ((x57.2).toNat) default).Proof.At.Depth), .int .i64 ((a0.Edges.getD ((x57.2).toNat) default).Proof.At.Index), encL 3 enc_arr_3_int64 ((a0.Edges.getD ((x57.2).toNat) default).Proof.At.Normals), .int .i64 ((a0.Edges.getD ((x57.2).toNat) default).Proof.Witness.Pair), encL 1 encI_i64 ((a0.Edges.getD ((x57.2).toNat) default).Proof.Witness.Left), encL 1 encI_i64 ((a0.Edges.getD ((x57.2).toNat) default).Proof.Witness.Right)])], [], .pure (.bool y84), []⟩) fun y84 =>
       .br y84
        (.br (((a0.Edges.getD ((x57.2).toNat) default).U) == a1)
         (.ret (.out true))
         (.ret (.out (((a0.Edges.getD ((x57.2).toNat) default).V) == a1))))
        (.ret (.out false))) fun y83 =>
      .br y83
       (.grd ((x57.1.length + 1) * 8 ≤ 140737488355328 ∧ (x57.1.length + 1) ≤ maxLen) <|
       .ret (.out (x57.1 ++ ([x57.2] : (List Int)))))
       (.ret (.out x57.1))) fun y80 =>
     .ret (.next (y80, (IntKind.i64.wrap (x57.2 + 1)))))
     (.ret (.out x57.1)))
   (nl, 0) fun y71 =>
  .ret y71

theorem ref23_Incident_run (N : Nat) (a0 : S_Roadmap) (a1 : Int) : (ref23_Incident_T N a0 a1).run N = ref23_Incident_F N a0 a1 := by kernel_rfl

theorem ref23_Incident_vc (N : Nat) (a0 : S_Roadmap) (a1 : Int) : (vcFuncT Try.prog drawB Try.f27 (Try.f27.body.getD .skip) 0 0 (ref23_Incident_T N a0 a1) [.pure (.agg [encL 1 (encL 1 encI_i64) a0.Points, encL 12 enc_RoadmapEdge a0.Edges]), .pure (.int .i64 a1)] [] (fun r => .pure (encL 1 encI_i64 r)) (fun _ => [])) =
    ((∀ (_x : List Int × Int), true = true ∧ 0 ≤ 2) ∧ (∀ (_y : List Int), true = true ∧ 0 ≤ 1) ∧ ((aS (aI a1) ∧ aS (AVal.ptr 0 0) ∧ aS (AVal.vec 128) ∧ aS (aI 0) ∧ True) ∧ (rS (Res.box [AVal.pure (encL 1 (encL 1 encI_i64) a0.Points), AVal.pure (encL 12 enc_RoadmapEdge a0.Edges)]) ∧ RSub Res.nilv (vecO 1 encI_i64 nl 3) ∧ True) ∧ True) ∧ (∀ (x : List Int × Int), decide (x.snd < (↑a0.Edges.length : Int)) = decide (x.snd < (↑a0.Edges.length : Int)) ∧ (decide (x.snd < (↑a0.Edges.length : Int)) = true → (∀ (_y : List Int), true = true ∧ 0 ≤ 2) ∧ ((0 : Int) ≤ x.snd ∧ x.snd < (↑a0.Edges.length : Int) → ((0 : Int) ≤ x.snd ∧ x.snd < (↑a0.Edges.length : Int)) ∧ (∀ (_y : Bool), true = true ∧ 0 ≤ 2) ∧ (∀ (y : Bool), ref23_joins_F N a0 (a0.Edges.getD x.snd.toNat default) = some y → ((aS (AVal.pure (PVal.agg [encL 1 (encL 1 encI_i64) a0.Points, encL 12 enc_RoadmapEdge a0.Edges])) ∧ aS (AVal.pure (PVal.agg [PVal.int IntKind.i64 (a0.Edges.getD x.snd.toNat default).U, PVal.int IntKind.i64 (a0.Edges.getD x.snd.toNat default).V, PVal.int IntKind.i64 (a0.Edges.getD x.snd.toNat default).Cost, PVal.int IntKind.i64 (a0.Edges.getD x.snd.toNat default).State, PVal.int IntKind.i64 (a0.Edges.getD x.snd.toNat default).Proof.Kind, encL 3 enc_Piece (a0.Edges.getD x.snd.toNat default).Proof.Pieces, PVal.int IntKind.i64 (a0.Edges.getD x.snd.toNat default).Proof.At.Depth, PVal.int IntKind.i64 (a0.Edges.getD x.snd.toNat default).Proof.At.Index, encL 3 enc_arr_3_int64 (a0.Edges.getD x.snd.toNat default).Proof.At.Normals, PVal.int IntKind.i64 (a0.Edges.getD x.snd.toNat default).Proof.Witness.Pair, encL 1 encI_i64 (a0.Edges.getD x.snd.toNat default).Proof.Witness.Left, encL 1 encI_i64 (a0.Edges.getD x.snd.toNat default).Proof.Witness.Right])) ∧ True) ∧ True ∧ Spec Try.prog 49 0 [AVal.pure (PVal.agg [encL 1 (encL 1 encI_i64) a0.Points, encL 12 enc_RoadmapEdge a0.Edges]), AVal.pure (PVal.agg [PVal.int IntKind.i64 (a0.Edges.getD x.snd.toNat default).U, PVal.int IntKind.i64 (a0.Edges.getD x.snd.toNat default).V, PVal.int IntKind.i64 (a0.Edges.getD x.snd.toNat default).Cost, PVal.int IntKind.i64 (a0.Edges.getD x.snd.toNat default).State, PVal.int IntKind.i64 (a0.Edges.getD x.snd.toNat default).Proof.Kind, encL 3 enc_Piece (a0.Edges.getD x.snd.toNat default).Proof.Pieces, PVal.int IntKind.i64 (a0.Edges.getD x.snd.toNat default).Proof.At.Depth, PVal.int IntKind.i64 (a0.Edges.getD x.snd.toNat default).Proof.At.Index, encL 3 enc_arr_3_int64 (a0.Edges.getD x.snd.toNat default).Proof.At.Normals, PVal.int IntKind.i64 (a0.Edges.getD x.snd.toNat default).Proof.Witness.Pair, encL 1 encI_i64 (a0.Edges.getD x.snd.toNat default).Proof.Witness.Left, encL 1 encI_i64 (a0.Edges.getD x.snd.toNat default).Proof.Witness.Right])] [] (AVal.pure (PVal.bool y)) []) ∧ y = y ∧ (y = true → ((a0.Edges.getD x.snd.toNat default).U == a1) = ((a0.Edges.getD x.snd.toNat default).U == a1) ∧ (((a0.Edges.getD x.snd.toNat default).U == a1) = true → (aS (aI a1) ∧ aS (AVal.ptr 0 0) ∧ aS (AVal.vec 1) ∧ aS (aI x.snd) ∧ ASub AVal.tt (AVal.pure (PVal.bool true)) ∧ True) ∧ (rS (Res.box [AVal.pure (encL 1 (encL 1 encI_i64) a0.Points), AVal.pure (encL 12 enc_RoadmapEdge a0.Edges)]) ∧ rS (vecO 1 encI_i64 x.fst 3) ∧ True) ∧ True) ∧ (((a0.Edges.getD x.snd.toNat default).U == a1) = false → (aS (aI a1) ∧ aS (AVal.ptr 0 0) ∧ aS (AVal.vec 1) ∧ aS (aI x.snd) ∧ aS (AVal.pure (PVal.bool ((a0.Edges.getD x.snd.toNat default).V == a1))) ∧ True) ∧ (rS (Res.box [AVal.pure (encL 1 (encL 1 encI_i64) a0.Points), AVal.pure (encL 12 enc_RoadmapEdge a0.Edges)]) ∧ rS (vecO 1 encI_i64 x.fst 3) ∧ True) ∧ True)) ∧ (y = false → (aS (aI a1) ∧ aS (AVal.ptr 0 0) ∧ aS (AVal.vec 1) ∧ aS (aI x.snd) ∧ ASub AVal.ff (AVal.pure (PVal.bool false)) ∧ True) ∧ (rS (Res.box [AVal.pure (encL 1 (encL 1 encI_i64) a0.Points), AVal.pure (encL 12 enc_RoadmapEdge a0.Edges)]) ∧ rS (vecO 1 encI_i64 x.fst 3) ∧ True) ∧ True)) ∧ ∀ (y : Bool), y = y ∧ (y = true → (x.fst.length + 1) * 8 ≤ 140737488355328 ∧ x.fst.length + 1 ≤ 9223372036854775807 → ((x.fst.length + 1) * 8 ≤ 140737488355328 ∧ x.fst.length + 1 ≤ 9223372036854775807) ∧ (aS (aI a1) ∧ aS (AVal.ptr 0 0) ∧ aS (AVal.vec 194) ∧ aS (aI x.snd) ∧ True) ∧ (rS (Res.box [AVal.pure (encL 1 (encL 1 encI_i64) a0.Points), AVal.pure (encL 12 enc_RoadmapEdge a0.Edges)]) ∧ RSub (Res.vec 1 (x.fst.length + 1) (fun (a : Nat) => appF x.fst.length (el encI_i64 x.fst) (lget [PVal.int IntKind.i64 x.snd]) a) 0 3) (vecO 1 encI_i64 (x.fst ++ [x.snd]) 3) ∧ True) ∧ True) ∧ (y = false → (aS (aI a1) ∧ aS (AVal.ptr 0 0) ∧ aS (AVal.vec 1) ∧ aS (aI x.snd) ∧ True) ∧ (rS (Res.box [AVal.pure (encL 1 (encL 1 encI_i64) a0.Points), AVal.pure (encL 12 enc_RoadmapEdge a0.Edges)]) ∧ rS (vecO 1 encI_i64 x.fst 3) ∧ True) ∧ True)) ∧ ∀ (y : List Int), (aS (aI a1) ∧ aS (AVal.ptr 0 0) ∧ aS (AVal.vec 1) ∧ aS (aI (IntKind.i64.wrap (x.snd + (1 : Int)))) ∧ True) ∧ (rS (Res.box [AVal.pure (encL 1 (encL 1 encI_i64) a0.Points), AVal.pure (encL 12 enc_RoadmapEdge a0.Edges)]) ∧ rS (vecO 1 encI_i64 y 3) ∧ True) ∧ True) ∧ (decide (x.snd < (↑a0.Edges.length : Int)) = false → (aS (AVal.vec 1) ∧ True) ∧ (rS (vecO 1 encI_i64 x.fst 3) ∧ True) ∧ True)) ∧ ∀ (y : List Int), (aS (AVal.pure (encL 1 encI_i64 y)) ∧ True) ∧ True ∧ True) := by kernel_rfl


set_option maxHeartbeats 4000000 in
theorem ref23_Incident_spec (hd : DrawSound Try.prog drawB) {N : Nat} {a0 : S_Roadmap} {a1 : Int} {r : (List Int)} (h : ref23_Incident_F N a0 a1 = some r) : Spec Try.prog 27 0 [.pure (.agg [encL 1 (encL 1 encI_i64) a0.Points, encL 12 enc_RoadmapEdge a0.Edges]), .pure (.int .i64 a1)] [] (.pure (encL 1 encI_i64 r)) ([]) := by
  refine spec_ofT (n0 := 0) (res := fun r => .pure (encL 1 encI_i64 r)) (m' := fun _ => []) (ref23_Incident_T N a0 a1) ((ref23_Incident_run N a0 a1).trans h) hd Try.func27 (by kernel_rfl) (by kernel_rfl) ?_
  rw [ref23_Incident_vc]
  repeat' (first | exact trivial | exact ASub.refl _ | exact RSub.refl _ | exact ref23_joins_spec hd (by assumption) | assumption | exact int_eq0 (by assumption) | exact of_decide_eq_true (by assumption) | exact of_decide_eq_false (by assumption) | rfl | (apply And.intro) | (intro _) | exact nl_a | exact ASub.tt rfl | exact ASub.ff rfl | exact mapR_upE rfl | exact RSub.nilv rfl rfl | exact RSub.gone | exact IsL.el | exact IsL.nl | exact IsL.lit (CSubs.of_eq rfl) rfl | refine IsL.lit ?_ rfl | exact IsL.rep (CSub.of_eq rfl) | refine IsL.a ?_ | refine IsL.r0 ?_ | refine IsLL.r ?_ | exact IsLL.el | exact IsLL.rep | refine IsLL.set ?_ ?_ | refine IsL.r ?_ ?_ | refine IsL.app ?_ ?_ | refine IsL.set ?_ (CSub.of_eq rfl) | refine IsL.set ?_ ?_ | exact IsL.sliceE (by omega) (by omega) | refine IsL.slice ?_ ?_ ?_ | exact IsL.take (by first | exact IsL.el | exact IsL.set IsL.el (CSub.of_eq rfl)) (by omega) | refine IsL.take ?_ ?_ | exact CSubs.nil' | refine CSubs.cons' ?_ ?_ | exact CSub.refl _ | exact nl_c | refine CSub.agg ?_ | refine IsL.c ?_ | exact PSubs.nil' | refine PSubs.cons' ?_ ?_ | exact PSub.refl _ | exact nl_p | refine IsL.p ?_ | refine (PSub.agg ?_).a | refine PSub.agg ?_ | refine ASub.agg ?_ | refine RSub.box ?_ | refine tup_a ?_ | refine ASub.p ?_ | omega)

def make_From_F (_N : Nat) (a0 : (List Int)) : Option ((List Int) × Int) :=
  some (a0, 0)

def make_From_T (_N : Nat) (a0 : (List Int)) : T ((List Int) × Int) :=
  .ret (a0, 0)

theorem make_From_run (N : Nat) (a0 : (List Int)) : (make_From_T N a0).run N = make_From_F N a0 := by kernel_rfl

theorem make_From_vc (N : Nat) (a0 : (List Int)) : (vcFuncT Try.prog drawB Try.f17 (Try.f17.body.getD .skip) 0 0 (make_From_T N a0) [.pure (encL 1 encI_i64 a0)] [] (fun _ => .ptr 0 0) (fun r => [(0, .box [.pure (encL 1 encI_i64 r.1), .pure (.int .i64 r.2)])])) =
    ((aS (AVal.ptr 192 0) ∧ True) ∧ (rS (Res.box [AVal.pure (encL 1 encI_i64 a0), aI 0]) ∧ True) ∧ True) := by kernel_rfl


set_option maxHeartbeats 4000000 in
theorem make_From_spec (hd : DrawSound Try.prog drawB) {N : Nat} {a0 : (List Int)} {r : ((List Int) × Int)} (h : make_From_F N a0 = some r) : Spec Try.prog 17 0 [.pure (encL 1 encI_i64 a0)] [] (.ptr 0 0) ([(0, .box [.pure (encL 1 encI_i64 r.1), .pure (.int .i64 r.2)])]) := by
  refine spec_ofT (n0 := 0) (res := fun _ => .ptr 0 0) (m' := fun r => [(0, .box [.pure (encL 1 encI_i64 r.1), .pure (.int .i64 r.2)])]) (make_From_T N a0) ((make_From_run N a0).trans h) hd Try.func17 (by kernel_rfl) (by kernel_rfl) ?_
  rw [make_From_vc]
  repeat' (first | exact trivial | exact ASub.refl _ | exact RSub.refl _ | assumption | exact int_eq0 (by assumption) | exact of_decide_eq_true (by assumption) | exact of_decide_eq_false (by assumption) | rfl | (apply And.intro) | (intro _) | exact nl_a | exact ASub.tt rfl | exact ASub.ff rfl | exact mapR_upE rfl | exact RSub.nilv rfl rfl | exact RSub.gone | exact IsL.el | exact IsL.nl | exact IsL.lit (CSubs.of_eq rfl) rfl | refine IsL.lit ?_ rfl | exact IsL.rep (CSub.of_eq rfl) | refine IsL.a ?_ | refine IsL.r0 ?_ | refine IsLL.r ?_ | exact IsLL.el | exact IsLL.rep | refine IsLL.set ?_ ?_ | refine IsL.r ?_ ?_ | refine IsL.app ?_ ?_ | refine IsL.set ?_ (CSub.of_eq rfl) | refine IsL.set ?_ ?_ | exact IsL.sliceE (by omega) (by omega) | refine IsL.slice ?_ ?_ ?_ | exact IsL.take (by first | exact IsL.el | exact IsL.set IsL.el (CSub.of_eq rfl)) (by omega) | refine IsL.take ?_ ?_ | exact CSubs.nil' | refine CSubs.cons' ?_ ?_ | exact CSub.refl _ | exact nl_c | refine CSub.agg ?_ | refine IsL.c ?_ | exact PSubs.nil' | refine PSubs.cons' ?_ ?_ | exact PSub.refl _ | exact nl_p | refine IsL.p ?_ | refine (PSub.agg ?_).a | refine PSub.agg ?_ | refine ASub.agg ?_ | refine RSub.box ?_ | refine tup_a ?_ | refine ASub.p ?_ | omega)

def make_Round_F (_N : Nat) (a0 : Int) (a1 : Int) : Option Int :=
  grd (a1 ≠ 0) <|
  andC (
   bif (decide ((a0.tmod a1) < 0)) then
    some (.out (IntKind.i64.wrap ((a0.tmod a1) + a1)))
   else
    some (.out (a0.tmod a1)) : Option (Step3 Unit Int _)) fun y1 =>
  some y1

def make_Round_T (_N : Nat) (a0 : Int) (a1 : Int) : T Int :=
  .grd (a1 ≠ 0) <|
  .cut 0 (fun (y1 : Int) => ⟨[(5, .pure (.int .i64 y1))], [], [], 0⟩)
   (.br (decide ((a0.tmod a1) < 0))
    (.ret (.out (IntKind.i64.wrap ((a0.tmod a1) + a1))))
    (.ret (.out (a0.tmod a1)))) fun y1 =>
  .ret y1

theorem make_Round_run (N : Nat) (a0 : Int) (a1 : Int) : (make_Round_T N a0 a1).run N = make_Round_F N a0 a1 := by kernel_rfl

theorem make_Round_vc (N : Nat) (a0 : Int) (a1 : Int) : (vcFuncT Try.prog drawB Try.f23 (Try.f23.body.getD .skip) 0 0 (make_Round_T N a0 a1) [.pure (.int .i64 a0), .pure (.int .i64 a1)] [] (fun r => .pure (.int .i64 r)) (fun _ => [])) =
    (a1 ≠ (0 : Int) → a1 ≠ (0 : Int) ∧ (∀ (_y : Int), true = true ∧ 0 ≤ 0) ∧ (decide (a0.tmod a1 < (0 : Int)) = decide (a0.tmod a1 < (0 : Int)) ∧ (decide (a0.tmod a1 < (0 : Int)) = true → (aS (aI (IntKind.i64.wrap (a0.tmod a1 + a1))) ∧ True) ∧ True ∧ True) ∧ (decide (a0.tmod a1 < (0 : Int)) = false → (aS (aI (a0.tmod a1)) ∧ True) ∧ True ∧ True)) ∧ ∀ (y : Int), (aS (aI y) ∧ True) ∧ True ∧ True) := by kernel_rfl


set_option maxHeartbeats 4000000 in
theorem make_Round_spec (hd : DrawSound Try.prog drawB) {N : Nat} {a0 : Int} {a1 : Int} {r : Int} (h : make_Round_F N a0 a1 = some r) : Spec Try.prog 23 0 [.pure (.int .i64 a0), .pure (.int .i64 a1)] [] (.pure (.int .i64 r)) ([]) := by
  refine spec_ofT (n0 := 0) (res := fun r => .pure (.int .i64 r)) (m' := fun _ => []) (make_Round_T N a0 a1) ((make_Round_run N a0 a1).trans h) hd Try.func23 (by kernel_rfl) (by kernel_rfl) ?_
  rw [make_Round_vc]
  repeat' (first | exact trivial | exact ASub.refl _ | exact RSub.refl _ | assumption | exact int_eq0 (by assumption) | exact of_decide_eq_true (by assumption) | exact of_decide_eq_false (by assumption) | rfl | (apply And.intro) | (intro _) | exact nl_a | exact ASub.tt rfl | exact ASub.ff rfl | exact mapR_upE rfl | exact RSub.nilv rfl rfl | exact RSub.gone | exact IsL.el | exact IsL.nl | exact IsL.lit (CSubs.of_eq rfl) rfl | refine IsL.lit ?_ rfl | exact IsL.rep (CSub.of_eq rfl) | refine IsL.a ?_ | refine IsL.r0 ?_ | refine IsLL.r ?_ | exact IsLL.el | exact IsLL.rep | refine IsLL.set ?_ ?_ | refine IsL.r ?_ ?_ | refine IsL.app ?_ ?_ | refine IsL.set ?_ (CSub.of_eq rfl) | refine IsL.set ?_ ?_ | exact IsL.sliceE (by omega) (by omega) | refine IsL.slice ?_ ?_ ?_ | exact IsL.take (by first | exact IsL.el | exact IsL.set IsL.el (CSub.of_eq rfl)) (by omega) | refine IsL.take ?_ ?_ | exact CSubs.nil' | refine CSubs.cons' ?_ ?_ | exact CSub.refl _ | exact nl_c | refine CSub.agg ?_ | refine IsL.c ?_ | exact PSubs.nil' | refine PSubs.cons' ?_ ?_ | exact PSub.refl _ | exact nl_p | refine IsL.p ?_ | refine (PSub.agg ?_).a | refine PSub.agg ?_ | refine ASub.agg ?_ | refine RSub.box ?_ | refine tup_a ?_ | refine ASub.p ?_ | omega)

def Source_Next_F (N : Nat) (a0 : (List Int)) (a1 : Int) (a2 : Int) : Option (Int × (List Int) × Int) :=
  bif (decide (a1 ≥ ((a0.length : Nat) : Int))) then
   some (0, a0, a1)
  else
   grd (0 ≤ (IntKind.i64.wrap ((IntKind.i64.wrap (a1 + 1)) - 1)) ∧ (IntKind.i64.wrap ((IntKind.i64.wrap (a1 + 1)) - 1)) < ((a0.length : Nat) : Int)) <|
   (make_Round_F N (a0.getD (((IntKind.i64.wrap ((IntKind.i64.wrap (a1 + 1)) - 1))).toNat) default) a2).bind fun y1 =>
   some (y1, a0, (IntKind.i64.wrap (a1 + 1)))

def Source_Next_T (N : Nat) (a0 : (List Int)) (a1 : Int) (a2 : Int) : T (Int × (List Int) × Int) :=
  .br (decide (a1 ≥ ((a0.length : Nat) : Int)))
   (.ret (0, a0, a1))
   (.grd (0 ≤ (IntKind.i64.wrap ((IntKind.i64.wrap (a1 + 1)) - 1)) ∧ (IntKind.i64.wrap ((IntKind.i64.wrap (a1 + 1)) - 1)) < ((a0.length : Nat) : Int)) <|
   .call (make_Round_F N (a0.getD (((IntKind.i64.wrap ((IntKind.i64.wrap (a1 + 1)) - 1))).toNat) default) a2) (fun y1 => ⟨[], 0, [.pure (.int .i64 (a0.getD (((IntKind.i64.wrap ((IntKind.i64.wrap (a1 + 1)) - 1))).toNat) default)), .pure (.int .i64 a2)], [], .pure (.int .i64 y1), []⟩) fun y1 =>
   .ret (y1, a0, (IntKind.i64.wrap (a1 + 1))))

theorem Source_Next_run (N : Nat) (a0 : (List Int)) (a1 : Int) (a2 : Int) : (Source_Next_T N a0 a1 a2).run N = Source_Next_F N a0 a1 a2 := by kernel_rfl

theorem Source_Next_vc (N : Nat) (a0 : (List Int)) (a1 : Int) (a2 : Int) : (vcFuncT Try.prog drawB Try.f18 (Try.f18.body.getD .skip) 1 1 (Source_Next_T N a0 a1 a2) [.ptr 0 0, .pure (.int .i64 a2)] [(0, .box [.pure (encL 1 encI_i64 a0), .pure (.int .i64 a1)])] (fun r => .pure (.int .i64 r.1)) (fun r => [(0, .box [.pure (encL 1 encI_i64 r.2.1), .pure (.int .i64 r.2.2)])])) =
    (decide (a1 ≥ (↑a0.length : Int)) = decide (a1 ≥ (↑a0.length : Int)) ∧ (decide (a1 ≥ (↑a0.length : Int)) = true → (aS (aI 0) ∧ True) ∧ (rS (Res.box [AVal.pure (encL 1 encI_i64 a0), aI a1]) ∧ True) ∧ True) ∧ (decide (a1 ≥ (↑a0.length : Int)) = false → (0 : Int) ≤ IntKind.i64.wrap (IntKind.i64.wrap (a1 + (1 : Int)) - (1 : Int)) ∧ IntKind.i64.wrap (IntKind.i64.wrap (a1 + (1 : Int)) - (1 : Int)) < (↑a0.length : Int) → ((0 : Int) ≤ IntKind.i64.wrap (IntKind.i64.wrap (a1 + (1 : Int)) - (1 : Int)) ∧ IntKind.i64.wrap (IntKind.i64.wrap (a1 + (1 : Int)) - (1 : Int)) < (↑a0.length : Int)) ∧ ∀ (y : Int), make_Round_F N (a0.getD (IntKind.i64.wrap (IntKind.i64.wrap (a1 + (1 : Int)) - (1 : Int))).toNat default) a2 = some y → ((aS (aI (a0.getD (IntKind.i64.wrap (IntKind.i64.wrap (a1 + (1 : Int)) - (1 : Int))).toNat default)) ∧ aS (aI a2) ∧ True) ∧ True ∧ Spec Try.prog 23 0 [aI (a0.getD (IntKind.i64.wrap (IntKind.i64.wrap (a1 + (1 : Int)) - (1 : Int))).toNat default), aI a2] [] (aI y) []) ∧ (aS (aI y) ∧ True) ∧ (rS (Res.box [AVal.pure (encL 1 encI_i64 a0), aI (IntKind.i64.wrap (a1 + (1 : Int)))]) ∧ True) ∧ True)) := by kernel_rfl


set_option maxHeartbeats 4000000 in
theorem Source_Next_spec (hd : DrawSound Try.prog drawB) {N : Nat} {a0 : (List Int)} {a1 : Int} {a2 : Int} {r : (Int × (List Int) × Int)} (h : Source_Next_F N a0 a1 a2 = some r) : Spec Try.prog 18 1 [.ptr 0 0, .pure (.int .i64 a2)] [(0, .box [.pure (encL 1 encI_i64 a0), .pure (.int .i64 a1)])] (.pure (.int .i64 r.1)) ([(0, .box [.pure (encL 1 encI_i64 r.2.1), .pure (.int .i64 r.2.2)])]) := by
  refine spec_ofT (n0 := 1) (res := fun r => .pure (.int .i64 r.1)) (m' := fun r => [(0, .box [.pure (encL 1 encI_i64 r.2.1), .pure (.int .i64 r.2.2)])]) (Source_Next_T N a0 a1 a2) ((Source_Next_run N a0 a1 a2).trans h) hd Try.func18 (by kernel_rfl) (by kernel_rfl) ?_
  rw [Source_Next_vc]
  repeat' (first | exact trivial | exact ASub.refl _ | exact RSub.refl _ | exact make_Round_spec hd (by assumption) | assumption | exact int_eq0 (by assumption) | exact of_decide_eq_true (by assumption) | exact of_decide_eq_false (by assumption) | rfl | (apply And.intro) | (intro _) | exact nl_a | exact ASub.tt rfl | exact ASub.ff rfl | exact mapR_upE rfl | exact RSub.nilv rfl rfl | exact RSub.gone | exact IsL.el | exact IsL.nl | exact IsL.lit (CSubs.of_eq rfl) rfl | refine IsL.lit ?_ rfl | exact IsL.rep (CSub.of_eq rfl) | refine IsL.a ?_ | refine IsL.r0 ?_ | refine IsLL.r ?_ | exact IsLL.el | exact IsLL.rep | refine IsLL.set ?_ ?_ | refine IsL.r ?_ ?_ | refine IsL.app ?_ ?_ | refine IsL.set ?_ (CSub.of_eq rfl) | refine IsL.set ?_ ?_ | exact IsL.sliceE (by omega) (by omega) | refine IsL.slice ?_ ?_ ?_ | exact IsL.take (by first | exact IsL.el | exact IsL.set IsL.el (CSub.of_eq rfl)) (by omega) | refine IsL.take ?_ ?_ | exact CSubs.nil' | refine CSubs.cons' ?_ ?_ | exact CSub.refl _ | exact nl_c | refine CSub.agg ?_ | refine IsL.c ?_ | exact PSubs.nil' | refine PSubs.cons' ?_ ?_ | exact PSub.refl _ | exact nl_p | refine IsL.p ?_ | refine (PSub.agg ?_).a | refine PSub.agg ?_ | refine ASub.agg ?_ | refine RSub.box ?_ | refine tup_a ?_ | refine ASub.p ?_ | omega)

def make_Claim_F (_N : Nat) (a0 : Int) : Option S_EdgeResult :=
  bif (a0 == 1) then
   some (⟨1, ([(⟨0, 0, nl⟩ : S_Piece)] : (List S_Piece)), (⟨0, 0, nl⟩ : S_Piece), (⟨0, nl, nl⟩ : S_Witness)⟩ : S_EdgeResult)
  else
   bif (a0 == 2) then
    some (⟨2, nl, (⟨0, 0, nl⟩ : S_Piece), (⟨0, ([1] : (List Int)), ([1] : (List Int))⟩ : S_Witness)⟩ : S_EdgeResult)
   else
    bif (a0 == 3) then
     some (⟨0, nl, (⟨1, 0, nl⟩ : S_Piece), (⟨0, nl, nl⟩ : S_Witness)⟩ : S_EdgeResult)
    else
     some (⟨0, nl, (⟨0, 0, nl⟩ : S_Piece), (⟨0, nl, nl⟩ : S_Witness)⟩ : S_EdgeResult)

def make_Claim_T (_N : Nat) (a0 : Int) : T S_EdgeResult :=
  .br (a0 == 1)
   (.ret (⟨1, ([(⟨0, 0, nl⟩ : S_Piece)] : (List S_Piece)), (⟨0, 0, nl⟩ : S_Piece), (⟨0, nl, nl⟩ : S_Witness)⟩ : S_EdgeResult))
   (.br (a0 == 2)
    (.ret (⟨2, nl, (⟨0, 0, nl⟩ : S_Piece), (⟨0, ([1] : (List Int)), ([1] : (List Int))⟩ : S_Witness)⟩ : S_EdgeResult))
    (.br (a0 == 3)
     (.ret (⟨0, nl, (⟨1, 0, nl⟩ : S_Piece), (⟨0, nl, nl⟩ : S_Witness)⟩ : S_EdgeResult))
     (.ret (⟨0, nl, (⟨0, 0, nl⟩ : S_Piece), (⟨0, nl, nl⟩ : S_Witness)⟩ : S_EdgeResult))))

theorem make_Claim_run (N : Nat) (a0 : Int) : (make_Claim_T N a0).run N = make_Claim_F N a0 := by kernel_rfl

theorem make_Claim_vc (N : Nat) (a0 : Int) : (vcFuncT Try.prog drawB Try.f41 (Try.f41.body.getD .skip) 0 0 (make_Claim_T N a0) [.pure (.int .i64 a0)] [] (fun r => .pure (.agg [.int .i64 r.Kind, encL 3 enc_Piece r.Pieces, .int .i64 r.At.Depth, .int .i64 r.At.Index, encL 3 enc_arr_3_int64 r.At.Normals, .int .i64 r.Witness.Pair, encL 1 encI_i64 r.Witness.Left, encL 1 encI_i64 r.Witness.Right])) (fun _ => [])) =
    ((a0 == (1 : Int)) = (a0 == (1 : Int)) ∧ ((a0 == (1 : Int)) = true → (ASub (AVal.pure (PVal.agg [PVal.int IntKind.i64 1, PVal.lst 3 1 fun (i : Nat) => lget [PVal.agg [PVal.int IntKind.i64 0, PVal.int IntKind.i64 0, PVal.lst 0 0 fun (_x : Nat) => PVal.unk]] i, PVal.int IntKind.i64 0, PVal.int IntKind.i64 0, PVal.lst 0 0 fun (_x : Nat) => PVal.unk, PVal.int IntKind.i64 0, PVal.lst 0 0 fun (_x : Nat) => PVal.unk, PVal.lst 0 0 fun (_x : Nat) => PVal.unk])) (AVal.pure (PVal.agg [PVal.int IntKind.i64 1, encL 3 enc_Piece [S_Piece.mk (0 : Int) (0 : Int) nl], PVal.int IntKind.i64 0, PVal.int IntKind.i64 0, encL 3 enc_arr_3_int64 nl, PVal.int IntKind.i64 0, encL 1 encI_i64 nl, encL 1 encI_i64 nl])) ∧ True) ∧ True ∧ True) ∧ ((a0 == (1 : Int)) = false → (a0 == (2 : Int)) = (a0 == (2 : Int)) ∧ ((a0 == (2 : Int)) = true → (ASub (AVal.pure (PVal.agg [PVal.int IntKind.i64 2, PVal.lst 0 0 fun (_x : Nat) => PVal.unk, PVal.int IntKind.i64 0, PVal.int IntKind.i64 0, PVal.lst 0 0 fun (_x : Nat) => PVal.unk, PVal.int IntKind.i64 0, PVal.lst 1 1 fun (i : Nat) => lget [PVal.int IntKind.i64 1] i, PVal.lst 1 1 fun (i : Nat) => lget [PVal.int IntKind.i64 1] i])) (AVal.pure (PVal.agg [PVal.int IntKind.i64 2, encL 3 enc_Piece nl, PVal.int IntKind.i64 0, PVal.int IntKind.i64 0, encL 3 enc_arr_3_int64 nl, PVal.int IntKind.i64 0, encL 1 encI_i64 [(1 : Int)], encL 1 encI_i64 [(1 : Int)]])) ∧ True) ∧ True ∧ True) ∧ ((a0 == (2 : Int)) = false → (a0 == (3 : Int)) = (a0 == (3 : Int)) ∧ ((a0 == (3 : Int)) = true → (ASub (AVal.pure (PVal.agg [PVal.int IntKind.i64 0, PVal.lst 0 0 fun (_x : Nat) => PVal.unk, PVal.int IntKind.i64 1, PVal.int IntKind.i64 0, PVal.lst 0 0 fun (_x : Nat) => PVal.unk, PVal.int IntKind.i64 0, PVal.lst 0 0 fun (_x : Nat) => PVal.unk, PVal.lst 0 0 fun (_x : Nat) => PVal.unk])) (AVal.pure (PVal.agg [PVal.int IntKind.i64 0, encL 3 enc_Piece nl, PVal.int IntKind.i64 1, PVal.int IntKind.i64 0, encL 3 enc_arr_3_int64 nl, PVal.int IntKind.i64 0, encL 1 encI_i64 nl, encL 1 encI_i64 nl])) ∧ True) ∧ True ∧ True) ∧ ((a0 == (3 : Int)) = false → (ASub (AVal.pure (PVal.agg [PVal.int IntKind.i64 0, PVal.lst 0 0 fun (_x : Nat) => PVal.unk, PVal.int IntKind.i64 0, PVal.int IntKind.i64 0, PVal.lst 0 0 fun (_x : Nat) => PVal.unk, PVal.int IntKind.i64 0, PVal.lst 0 0 fun (_x : Nat) => PVal.unk, PVal.lst 0 0 fun (_x : Nat) => PVal.unk])) (AVal.pure (PVal.agg [PVal.int IntKind.i64 0, encL 3 enc_Piece nl, PVal.int IntKind.i64 0, PVal.int IntKind.i64 0, encL 3 enc_arr_3_int64 nl, PVal.int IntKind.i64 0, encL 1 encI_i64 nl, encL 1 encI_i64 nl])) ∧ True) ∧ True ∧ True)))) := by kernel_rfl


set_option maxHeartbeats 4000000 in
theorem make_Claim_spec (hd : DrawSound Try.prog drawB) {N : Nat} {a0 : Int} {r : S_EdgeResult} (h : make_Claim_F N a0 = some r) : Spec Try.prog 41 0 [.pure (.int .i64 a0)] [] (.pure (.agg [.int .i64 r.Kind, encL 3 enc_Piece r.Pieces, .int .i64 r.At.Depth, .int .i64 r.At.Index, encL 3 enc_arr_3_int64 r.At.Normals, .int .i64 r.Witness.Pair, encL 1 encI_i64 r.Witness.Left, encL 1 encI_i64 r.Witness.Right])) ([]) := by
  refine spec_ofT (n0 := 0) (res := fun r => .pure (.agg [.int .i64 r.Kind, encL 3 enc_Piece r.Pieces, .int .i64 r.At.Depth, .int .i64 r.At.Index, encL 3 enc_arr_3_int64 r.At.Normals, .int .i64 r.Witness.Pair, encL 1 encI_i64 r.Witness.Left, encL 1 encI_i64 r.Witness.Right])) (m' := fun _ => []) (make_Claim_T N a0) ((make_Claim_run N a0).trans h) hd Try.func41 (by kernel_rfl) (by kernel_rfl) ?_
  rw [make_Claim_vc]
  repeat' (first | exact trivial | exact ASub.refl _ | exact RSub.refl _ | assumption | exact int_eq0 (by assumption) | exact of_decide_eq_true (by assumption) | exact of_decide_eq_false (by assumption) | rfl | (apply And.intro) | (intro _) | exact nl_a | exact ASub.tt rfl | exact ASub.ff rfl | exact mapR_upE rfl | exact RSub.nilv rfl rfl | exact RSub.gone | exact IsL.el | exact IsL.nl | exact IsL.lit (CSubs.of_eq rfl) rfl | refine IsL.lit ?_ rfl | exact IsL.rep (CSub.of_eq rfl) | refine IsL.a ?_ | refine IsL.r0 ?_ | refine IsLL.r ?_ | exact IsLL.el | exact IsLL.rep | refine IsLL.set ?_ ?_ | refine IsL.r ?_ ?_ | refine IsL.app ?_ ?_ | refine IsL.set ?_ (CSub.of_eq rfl) | refine IsL.set ?_ ?_ | exact IsL.sliceE (by omega) (by omega) | refine IsL.slice ?_ ?_ ?_ | exact IsL.take (by first | exact IsL.el | exact IsL.set IsL.el (CSub.of_eq rfl)) (by omega) | refine IsL.take ?_ ?_ | exact CSubs.nil' | refine CSubs.cons' ?_ ?_ | exact CSub.refl _ | exact nl_c | refine CSub.agg ?_ | refine IsL.c ?_ | exact PSubs.nil' | refine PSubs.cons' ?_ ?_ | exact PSub.refl _ | exact nl_p | refine IsL.p ?_ | refine (PSub.agg ?_).a | refine PSub.agg ?_ | refine ASub.agg ?_ | refine RSub.box ?_ | refine tup_a ?_ | refine ASub.p ?_ | omega)

def make_Graph_F (N : Nat) (a0 : (List Int)) : Option S_Roadmap :=
  (make_From_F N a0).bind fun y2 =>
  (Source_Next_F N y2.1 y2.2 8).bind fun y4 =>
  andK (iter (fun (x9 : ((List (List Int)) × Int)) => (
   bif (decide (x9.2 < (IntKind.i64.wrap (2 + y4.1)))) then
    grd ((x9.1.length + 1) * 24 ≤ 140737488355328 ∧ (x9.1.length + 1) ≤ maxLen) <|
    some (.next ((x9.1 ++ ([([x9.2] : (List Int))] : (List (List Int)))), (IntKind.i64.wrap (x9.2 + 1))))
   else
    some (.out x9.1) : Option (Step3 ((List (List Int)) × Int) (List (List Int)) _))) N (nl, 0)) fun y10 =>
  andK (iter (fun (x639 : ((List Int) × Int × (List S_RoadmapEdge) × Int)) => (
   bif (decide (x639.2.2.2 < (IntKind.i64.wrap (2 + y4.1)))) then
    andK (iter (fun (x901 : ((List Int) × Int × (List S_RoadmapEdge) × Int)) => (
     bif (decide (x901.2.2.2 < (IntKind.i64.wrap (2 + y4.1)))) then
      andC (
       (Source_Next_F N x901.1 x901.2.1 5).bind fun y946 =>
       bif (decide (y946.1 < 2)) then
        (Source_Next_F N y946.2.1 y946.2.2 7).bind fun y949 =>
        (Source_Next_F N y949.2.1 y949.2.2 8).bind fun y950 =>
        grd (0 ≤ y950.1 ∧ y950.1 < ((8 : Nat) : Int)) <|
        (make_Claim_F N (([0, 0, 1, 1, 1, 2, 3, 1] : List Int).getD (y950.1).toNat 0)).bind fun y952 =>
        grd ((x901.2.2.1.length + 1) * 160 ≤ 140737488355328 ∧ (x901.2.2.1.length + 1) ≤ maxLen) <|
        some (.out (y950.2.1, y950.2.2, (x901.2.2.1 ++ ([(⟨x639.2.2.2, x901.2.2.2, y949.1, (([0, 0, 1, 1, 1, 2, 3, 1] : List Int).getD (y950.1).toNat 0), y952⟩ : S_RoadmapEdge)] : (List S_RoadmapEdge)))))
       else
        some (.out (y946.2.1, y946.2.2, x901.2.2.1)) : Option (Step3 Unit ((List Int) × Int × (List S_RoadmapEdge)) _)) fun y944 =>
      some (.next (y944.1, y944.2.1, y944.2.2, (IntKind.i64.wrap (x901.2.2.2 + 1))))
     else
      some (.out (x901.1, x901.2.1, x901.2.2.1)) : Option (Step3 ((List Int) × Int × (List S_RoadmapEdge) × Int) ((List Int) × Int × (List S_RoadmapEdge)) _))) N (x639.1, x639.2.1, x639.2.2.1, (IntKind.i64.wrap (x639.2.2.2 + 1)))) fun y927 =>
    some (.next (y927.1, y927.2.1, y927.2.2, (IntKind.i64.wrap (x639.2.2.2 + 1))))
   else
    some (.out x639.2.2.1) : Option (Step3 ((List Int) × Int × (List S_RoadmapEdge) × Int) (List S_RoadmapEdge) _))) N (y4.2.1, y4.2.2, nl, 0)) fun y796 =>
  some (⟨y10, y796⟩ : S_Roadmap)

def make_Graph_T (N : Nat) (a0 : (List Int)) : T S_Roadmap :=
  .call (make_From_F N a0) (fun y2 => ⟨[], 0, [.pure (encL 1 encI_i64 a0)], [], .ptr 0 0, [(0, .box [.pure (encL 1 encI_i64 y2.1), .pure (.int .i64 y2.2)])]⟩) fun y2 =>
  .call (Source_Next_F N y2.1 y2.2 8) (fun y4 => ⟨[(0, 128)], 1, [.ptr 0 0, .pure (.int .i64 8)], [(0, .box [.pure (encL 1 encI_i64 y2.1), .pure (.int .i64 y2.2)])], .pure (.int .i64 y4.1), [(0, .box [.pure (encL 1 encI_i64 y4.2.1), .pure (.int .i64 y4.2.2)])]⟩) fun y4 =>
  .loop (fun (x9 : ((List (List Int)) × Int)) => ⟨[(2, .ptr 0 0), (3, .ptr 3 0), (4, .ptr 4 0), (5, .pure (.int .i64 (IntKind.i64.wrap (2 + y4.1)))), (6, .pure (.int .i64 x9.2))], [(0, .box [.vec 1, .vec 2]), (1, .nilv), (2, .nilv), (3, .box [.pure (encL 1 encI_i64 y4.2.1), .pure (.int .i64 y4.2.2)]), (4, .box [.vec 5, .vec 6]), (5, vecO 1 (encL 1 encI_i64) x9.1 65), (6, .nilv)], [], 7⟩)
   (.exit 0) (fun (y10 : (List (List Int))) => ⟨[(2, .ptr 0 0), (3, .ptr 3 0), (4, .ptr 4 0), (5, .pure (.int .i64 (IntKind.i64.wrap (2 + y4.1))))], [(0, .box [.vec 1, .vec 2]), (1, .nilv), (2, .nilv), (3, .box [.pure (encL 1 encI_i64 y4.2.1), .pure (.int .i64 y4.2.2)]), (4, .box [.vec 5, .vec 6]), (5, vecO 1 (encL 1 encI_i64) y10 65), (6, .nilv)], [], 7⟩)
   (fun x9 => .br (decide (x9.2 < (IntKind.i64.wrap (2 + y4.1))))
     (.grd ((x9.1.length + 1) * 24 ≤ 140737488355328 ∧ (x9.1.length + 1) ≤ maxLen) <|
     .ret (.next ((x9.1 ++ ([([x9.2] : (List Int))] : (List (List Int)))), (IntKind.i64.wrap (x9.2 + 1)))))
     (.ret (.out x9.1)))
   (nl, 0) fun y10 =>
  .loop (fun (x639 : ((List Int) × Int × (List S_RoadmapEdge) × Int)) => ⟨[(2, .ptr 0 0), (3, .ptr 3 0), (4, .ptr 4 0), (5, .pure (.int .i64 (IntKind.i64.wrap (2 + y4.1)))), (7, .pure (.int .i64 x639.2.2.2))], [(0, .box [.vec 1, .vec 2]), (1, .nilv), (2, .nilv), (3, .box [.pure (encL 1 encI_i64 x639.1), .pure (.int .i64 x639.2.1)]), (4, .box [.vec 5, .vec 6]), (5, vecO 1 (encL 1 encI_i64) y10 65), (6, vecO 12 enc_RoadmapEdge x639.2.2.1 71)], [], 7⟩)
   (.exit 2) (fun (y796 : (List S_RoadmapEdge)) => ⟨[(2, .ptr 0 0), (4, .ptr 3 0)], [(0, .box [.vec 1, .vec 2]), (1, .nilv), (2, .nilv), (3, .box [.vec 4, .vec 5]), (4, vecO 1 (encL 1 encI_i64) y10 65), (5, vecO 12 enc_RoadmapEdge y796 71)], [], 6⟩)
   (fun x639 => .br (decide (x639.2.2.2 < (IntKind.i64.wrap (2 + y4.1))))
     (.loop (fun (x901 : ((List Int) × Int × (List S_RoadmapEdge) × Int)) => ⟨[(2, .ptr 0 0), (3, .ptr 3 0), (4, .ptr 4 0), (5, .pure (.int .i64 (IntKind.i64.wrap (2 + y4.1)))), (7, .pure (.int .i64 x639.2.2.2)), (8, .pure (.int .i64 x901.2.2.2))], [(0, .box [.vec 1, .vec 2]), (1, .nilv), (2, .nilv), (3, .box [.pure (encL 1 encI_i64 x901.1), .pure (.int .i64 x901.2.1)]), (4, .box [.vec 5, .vec 6]), (5, vecO 1 (encL 1 encI_i64) y10 65), (6, vecO 12 enc_RoadmapEdge x901.2.2.1 71)], [], 7⟩)
      (.exit 4) (fun (y927 : ((List Int) × Int × (List S_RoadmapEdge))) => ⟨[(2, .ptr 0 0), (3, .ptr 3 0), (4, .ptr 4 0), (5, .pure (.int .i64 (IntKind.i64.wrap (2 + y4.1)))), (7, .pure (.int .i64 x639.2.2.2))], [(0, .box [.vec 1, .vec 2]), (1, .nilv), (2, .nilv), (3, .box [.pure (encL 1 encI_i64 y927.1), .pure (.int .i64 y927.2.1)]), (4, .box [.vec 5, .vec 6]), (5, vecO 1 (encL 1 encI_i64) y10 65), (6, vecO 12 enc_RoadmapEdge y927.2.2 71)], [], 7⟩)
      (fun x901 => .br (decide (x901.2.2.2 < (IntKind.i64.wrap (2 + y4.1))))
        (.cut 0 (fun (y944 : ((List Int) × Int × (List S_RoadmapEdge))) => ⟨[(2, .ptr 0 0), (3, .ptr 3 0), (4, .ptr 4 0), (5, .pure (.int .i64 (IntKind.i64.wrap (2 + y4.1)))), (7, .pure (.int .i64 x639.2.2.2)), (8, .pure (.int .i64 x901.2.2.2))], [(0, .box [.vec 1, .vec 2]), (1, .nilv), (2, .nilv), (3, .box [.pure (encL 1 encI_i64 y944.1), .pure (.int .i64 y944.2.1)]), (4, .box [.vec 5, .vec 6]), (5, vecO 1 (encL 1 encI_i64) y10 65), (6, vecO 12 enc_RoadmapEdge y944.2.2 71)], [], 7⟩)
         (.call (Source_Next_F N x901.1 x901.2.1 5) (fun y946 => ⟨[(0, 3)], 1, [.ptr 0 0, .pure (.int .i64 5)], [(0, .box [.pure (encL 1 encI_i64 x901.1), .pure (.int .i64 x901.2.1)])], .pure (.int .i64 y946.1), [(0, .box [.pure (encL 1 encI_i64 y946.2.1), .pure (.int .i64 y946.2.2)])]⟩) fun y946 =>
         .br (decide (y946.1 < 2))
          (.call (Source_Next_F N y946.2.1 y946.2.2 7) (fun y949 => ⟨[(0, 3)], 1, [.ptr 0 0, .pure (.int .i64 7)], [(0, .box [.pure (encL 1 encI_i64 y946.2.1), .pure (.int .i64 y946.2.2)])], .pure (.int .i64 y949.1), [(0, .box [.pure (encL 1 encI_i64 y949.2.1), .pure (.int .i64 y949.2.2)])]⟩) fun y949 =>
          .call (Source_Next_F N y949.2.1 y949.2.2 8) (fun y950 => ⟨[(0, 3)], 1, [.ptr 0 0, .pure (.int .i64 8)], [(0, .box [.pure (encL 1 encI_i64 y949.2.1), .pure (.int .i64 y949.2.2)])], .pure (.int .i64 y950.1), [(0, .box [.pure (encL 1 encI_i64 y950.2.1), .pure (.int .i64 y950.2.2)])]⟩) fun y950 =>
          .grd (0 ≤ y950.1 ∧ y950.1 < ((8 : Nat) : Int)) <|
          .call (make_Claim_F N (([0, 0, 1, 1, 1, 2, 3, 1] : List Int).getD (y950.1).toNat 0)) (fun y952 => ⟨[], 0, [.pure (.int .i64 (([0, 0, 1, 1, 1, 2, 3, 1] : List Int).getD (y950.1).toNat 0))], [], .pure (.agg [.int .i64 y952.Kind, encL 3 enc_Piece y952.Pieces, .int .i64 y952.At.Depth, .int .i64 y952.At.Index, encL 3 enc_arr_3_int64 y952.At.Normals, .int .i64 y952.Witness.Pair, encL 1 encI_i64 y952.Witness.Left, encL 1 encI_i64 y952.Witness.Right]), []⟩) fun y952 =>
          .grd ((x901.2.2.1.length + 1) * 160 ≤ 140737488355328 ∧ (x901.2.2.1.length + 1) ≤ maxLen) <|
          .ret (.out (y950.2.1, y950.2.2, (x901.2.2.1 ++ ([(⟨x639.2.2.2, x901.2.2.2, y949.1, (([0, 0, 1, 1, 1, 2, 3, 1] : List Int).getD (y950.1).toNat 0), y952⟩ : S_RoadmapEdge)] : (List S_RoadmapEdge))))))
          (.ret (.out (y946.2.1, y946.2.2, x901.2.2.1)))) fun y944 =>
        .ret (.next (y944.1, y944.2.1, y944.2.2, (IntKind.i64.wrap (x901.2.2.2 + 1)))))
        (.ret (.out (x901.1, x901.2.1, x901.2.2.1))))
      (x639.1, x639.2.1, x639.2.2.1, (IntKind.i64.wrap (x639.2.2.2 + 1))) fun y927 =>
     .ret (.next (y927.1, y927.2.1, y927.2.2, (IntKind.i64.wrap (x639.2.2.2 + 1)))))
     (.ret (.out x639.2.2.1)))
   (y4.2.1, y4.2.2, nl, 0) fun y796 =>
  .ret (⟨y10, y796⟩ : S_Roadmap)

theorem make_Graph_run (N : Nat) (a0 : (List Int)) : (make_Graph_T N a0).run N = make_Graph_F N a0 := by kernel_rfl

theorem make_Graph_vc (N : Nat) (a0 : (List Int)) : (vcFuncT Try.prog drawB Try.f22 (Try.f22.body.getD .skip) 0 0 (make_Graph_T N a0) [.pure (encL 1 encI_i64 a0)] [] (fun r => .pure (.agg [encL 1 (encL 1 encI_i64) r.Points, encL 12 enc_RoadmapEdge r.Edges])) (fun _ => [])) =
    (∀ (y : List Int × Int), make_From_F N a0 = some y → ((aS (AVal.pure (encL 1 encI_i64 a0)) ∧ True) ∧ True ∧ Spec Try.prog 17 0 [AVal.pure (encL 1 encI_i64 a0)] [] (AVal.ptr 0 0) [(0, Res.box [AVal.pure (encL 1 encI_i64 y.fst), aI y.snd])]) ∧ ∀ (y_1 : Int × List Int × Int), Source_Next_F N y.fst y.snd (8 : Int) = some y_1 → ((aS (AVal.ptr 128 0) ∧ aS (aI 8) ∧ True) ∧ (rS (Res.box [AVal.pure (encL 1 encI_i64 y.fst), aI y.snd]) ∧ True) ∧ Spec Try.prog 18 1 [AVal.ptr 0 0, aI 8] [(0, Res.box [AVal.pure (encL 1 encI_i64 y.fst), aI y.snd])] (aI y_1.fst) [(0, Res.box [AVal.pure (encL 1 encI_i64 y_1.snd.fst), aI y_1.snd.snd])]) ∧ (∀ (_x : List (List Int) × Int), true = true ∧ 0 ≤ 7) ∧ (∀ (_y : List (List Int)), true = true ∧ 0 ≤ 7) ∧ ((aS (AVal.ptr 0 0) ∧ aS (AVal.ptr 128 0) ∧ aS (AVal.ptr 256 0) ∧ aS (aI (IntKind.i64.wrap ((2 : Int) + y_1.fst))) ∧ aS (aI 0) ∧ True) ∧ (rS (Res.box [AVal.vec 1, AVal.vec 2]) ∧ rS Res.nilv ∧ rS Res.nilv ∧ rS (Res.box [AVal.pure (encL 1 encI_i64 y_1.snd.fst), aI y_1.snd.snd]) ∧ rS (Res.box [AVal.vec 257, AVal.vec 258]) ∧ RSub Res.nilv (vecO 1 (encL 1 encI_i64) nl 65) ∧ rS Res.nilv ∧ True) ∧ True) ∧ (∀ (x : List (List Int) × Int), decide (x.snd < IntKind.i64.wrap ((2 : Int) + y_1.fst)) = decide (x.snd < IntKind.i64.wrap ((2 : Int) + y_1.fst)) ∧ (decide (x.snd < IntKind.i64.wrap ((2 : Int) + y_1.fst)) = true → (x.fst.length + 1) * 24 ≤ 140737488355328 ∧ x.fst.length + 1 ≤ 9223372036854775807 → ((x.fst.length + 1) * 24 ≤ 140737488355328 ∧ x.fst.length + 1 ≤ 9223372036854775807) ∧ (aS (AVal.ptr 0 0) ∧ aS (AVal.ptr 3 0) ∧ aS (AVal.ptr 4 0) ∧ aS (aI (IntKind.i64.wrap ((2 : Int) + y_1.fst))) ∧ aS (aI (IntKind.i64.wrap (x.snd + (1 : Int)))) ∧ True) ∧ (rS (Res.box [AVal.vec 1, AVal.vec 2]) ∧ rS Res.nilv ∧ rS Res.nilv ∧ rS (Res.box [AVal.pure (encL 1 encI_i64 y_1.snd.fst), aI y_1.snd.snd]) ∧ rS (Res.box [AVal.vec 519, AVal.vec 6]) ∧ RSub (Res.vec 1 (x.fst.length + 1) (fun (a : Nat) => appF x.fst.length (el (encL 1 encI_i64) x.fst) (lget [PVal.lst 1 1 (lget [PVal.int IntKind.i64 x.snd])]) a) 0 65) (vecO 1 (encL 1 encI_i64) (x.fst ++ [[x.snd]]) 65) ∧ rS Res.nilv ∧ True) ∧ True) ∧ (decide (x.snd < IntKind.i64.wrap ((2 : Int) + y_1.fst)) = false → (aS (AVal.ptr 0 0) ∧ aS (AVal.ptr 3 0) ∧ aS (AVal.ptr 4 0) ∧ aS (aI (IntKind.i64.wrap ((2 : Int) + y_1.fst))) ∧ True) ∧ (rS (Res.box [AVal.vec 1, AVal.vec 2]) ∧ rS Res.nilv ∧ rS Res.nilv ∧ rS (Res.box [AVal.pure (encL 1 encI_i64 y_1.snd.fst), aI y_1.snd.snd]) ∧ rS (Res.box [AVal.vec 5, AVal.vec 6]) ∧ rS (vecO 1 (encL 1 encI_i64) x.fst 65) ∧ rS Res.nilv ∧ True) ∧ True)) ∧ ∀ (y : List (List Int)), (∀ (_x : List Int × Int × List S_RoadmapEdge × Int), true = true ∧ 0 ≤ 7) ∧ (∀ (_y : List S_RoadmapEdge), true = true ∧ 0 ≤ 6) ∧ ((aS (AVal.ptr 0 0) ∧ aS (AVal.ptr 3 0) ∧ aS (AVal.ptr 4 0) ∧ aS (aI (IntKind.i64.wrap ((2 : Int) + y_1.fst))) ∧ aS (aI 0) ∧ True) ∧ (rS (Res.box [AVal.vec 1, AVal.vec 2]) ∧ rS Res.nilv ∧ rS Res.nilv ∧ rS (Res.box [AVal.pure (encL 1 encI_i64 y_1.snd.fst), aI y_1.snd.snd]) ∧ rS (Res.box [AVal.vec 5, AVal.vec 6]) ∧ rS (vecO 1 (encL 1 encI_i64) y 65) ∧ RSub Res.nilv (vecO 12 enc_RoadmapEdge nl 71) ∧ True) ∧ True) ∧ (∀ (x : List Int × Int × List S_RoadmapEdge × Int), decide (x.snd.snd.snd < IntKind.i64.wrap ((2 : Int) + y_1.fst)) = decide (x.snd.snd.snd < IntKind.i64.wrap ((2 : Int) + y_1.fst)) ∧ (decide (x.snd.snd.snd < IntKind.i64.wrap ((2 : Int) + y_1.fst)) = true → (∀ (_x : List Int × Int × List S_RoadmapEdge × Int), true = true ∧ 0 ≤ 7) ∧ (∀ (_y : List Int × Int × List S_RoadmapEdge), true = true ∧ 0 ≤ 7) ∧ ((aS (AVal.ptr 0 0) ∧ aS (AVal.ptr 3 0) ∧ aS (AVal.ptr 4 0) ∧ aS (aI (IntKind.i64.wrap ((2 : Int) + y_1.fst))) ∧ aS (aI x.snd.snd.snd) ∧ aS (aI (IntKind.i64.wrap (x.snd.snd.snd + (1 : Int)))) ∧ True) ∧ (rS (Res.box [AVal.vec 1, AVal.vec 2]) ∧ rS Res.nilv ∧ rS Res.nilv ∧ rS (Res.box [AVal.pure (encL 1 encI_i64 x.fst), aI x.snd.fst]) ∧ rS (Res.box [AVal.vec 5, AVal.vec 6]) ∧ rS (vecO 1 (encL 1 encI_i64) y 65) ∧ rS (vecO 12 enc_RoadmapEdge x.snd.snd.fst 71) ∧ True) ∧ True) ∧ (∀ (x_1 : List Int × Int × List S_RoadmapEdge × Int), decide (x_1.snd.snd.snd < IntKind.i64.wrap ((2 : Int) + y_1.fst)) = decide (x_1.snd.snd.snd < IntKind.i64.wrap ((2 : Int) + y_1.fst)) ∧ (decide (x_1.snd.snd.snd < IntKind.i64.wrap ((2 : Int) + y_1.fst)) = true → (∀ (_y : List Int × Int × List S_RoadmapEdge), true = true ∧ 0 ≤ 7) ∧ (∀ (y_2 : Int × List Int × Int), Source_Next_F N x_1.fst x_1.snd.fst (5 : Int) = some y_2 → ((aS (AVal.ptr 3 0) ∧ aS (aI 5) ∧ True) ∧ (rS (Res.box [AVal.pure (encL 1 encI_i64 x_1.fst), aI x_1.snd.fst]) ∧ True) ∧ Spec Try.prog 18 1 [AVal.ptr 0 0, aI 5] [(0, Res.box [AVal.pure (encL 1 encI_i64 x_1.fst), aI x_1.snd.fst])] (aI y_2.fst) [(0, Res.box [AVal.pure (encL 1 encI_i64 y_2.snd.fst), aI y_2.snd.snd])]) ∧ decide (y_2.fst < (2 : Int)) = decide (y_2.fst < (2 : Int)) ∧ (decide (y_2.fst < (2 : Int)) = true → ∀ (y_3 : Int × List Int × Int), Source_Next_F N y_2.snd.fst y_2.snd.snd (7 : Int) = some y_3 → ((aS (AVal.ptr 3 0) ∧ aS (aI 7) ∧ True) ∧ (rS (Res.box [AVal.pure (encL 1 encI_i64 y_2.snd.fst), aI y_2.snd.snd]) ∧ True) ∧ Spec Try.prog 18 1 [AVal.ptr 0 0, aI 7] [(0, Res.box [AVal.pure (encL 1 encI_i64 y_2.snd.fst), aI y_2.snd.snd])] (aI y_3.fst) [(0, Res.box [AVal.pure (encL 1 encI_i64 y_3.snd.fst), aI y_3.snd.snd])]) ∧ ∀ (y_4 : Int × List Int × Int), Source_Next_F N y_3.snd.fst y_3.snd.snd (8 : Int) = some y_4 → ((aS (AVal.ptr 3 0) ∧ aS (aI 8) ∧ True) ∧ (rS (Res.box [AVal.pure (encL 1 encI_i64 y_3.snd.fst), aI y_3.snd.snd]) ∧ True) ∧ Spec Try.prog 18 1 [AVal.ptr 0 0, aI 8] [(0, Res.box [AVal.pure (encL 1 encI_i64 y_3.snd.fst), aI y_3.snd.snd])] (aI y_4.fst) [(0, Res.box [AVal.pure (encL 1 encI_i64 y_4.snd.fst), aI y_4.snd.snd])]) ∧ ((0 : Int) ≤ y_4.fst ∧ y_4.fst < (↑8 : Int) → ((0 : Int) ≤ y_4.fst ∧ y_4.fst < (↑8 : Int)) ∧ ∀ (y_5 : S_EdgeResult), make_Claim_F N ([(0 : Int), (0 : Int), (1 : Int), (1 : Int), (1 : Int), (2 : Int), (3 : Int), (1 : Int)].getD y_4.fst.toNat (0 : Int)) = some y_5 → ((aS (aI ([(0 : Int), (0 : Int), (1 : Int), (1 : Int), (1 : Int), (2 : Int), (3 : Int), (1 : Int)].getD y_4.fst.toNat (0 : Int))) ∧ True) ∧ True ∧ Spec Try.prog 41 0 [aI ([(0 : Int), (0 : Int), (1 : Int), (1 : Int), (1 : Int), (2 : Int), (3 : Int), (1 : Int)].getD y_4.fst.toNat (0 : Int))] [] (AVal.pure (PVal.agg [PVal.int IntKind.i64 y_5.Kind, encL 3 enc_Piece y_5.Pieces, PVal.int IntKind.i64 y_5.At.Depth, PVal.int IntKind.i64 y_5.At.Index, encL 3 enc_arr_3_int64 y_5.At.Normals, PVal.int IntKind.i64 y_5.Witness.Pair, encL 1 encI_i64 y_5.Witness.Left, encL 1 encI_i64 y_5.Witness.Right])) []) ∧ ((x_1.snd.snd.fst.length + 1) * 160 ≤ 140737488355328 ∧ x_1.snd.snd.fst.length + 1 ≤ 9223372036854775807 → ((x_1.snd.snd.fst.length + 1) * 160 ≤ 140737488355328 ∧ x_1.snd.snd.fst.length + 1 ≤ 9223372036854775807) ∧ (aS (AVal.ptr 0 0) ∧ aS (AVal.ptr 3 0) ∧ aS (AVal.ptr 4 0) ∧ aS (aI (IntKind.i64.wrap ((2 : Int) + y_1.fst))) ∧ aS (aI x.snd.snd.snd) ∧ aS (aI x_1.snd.snd.snd) ∧ True) ∧ (rS (Res.box [AVal.vec 1, AVal.vec 2]) ∧ rS Res.nilv ∧ rS Res.nilv ∧ rS (Res.box [AVal.pure (encL 1 encI_i64 y_4.snd.fst), aI y_4.snd.snd]) ∧ rS (Res.box [AVal.vec 5, AVal.vec 1671]) ∧ rS (vecO 1 (encL 1 encI_i64) y 65) ∧ RSub (Res.vec 12 (x_1.snd.snd.fst.length + 1) (fun (a : Nat) => appF x_1.snd.snd.fst.length (el enc_RoadmapEdge x_1.snd.snd.fst) (lget [PVal.agg [PVal.int IntKind.i64 x.snd.snd.snd, PVal.int IntKind.i64 x_1.snd.snd.snd, PVal.int IntKind.i64 y_3.fst, PVal.int IntKind.i64 ([(0 : Int), (0 : Int), (1 : Int), (1 : Int), (1 : Int), (2 : Int), (3 : Int), (1 : Int)].getD y_4.fst.toNat (0 : Int)), PVal.int IntKind.i64 y_5.Kind, encL 3 enc_Piece y_5.Pieces, PVal.int IntKind.i64 y_5.At.Depth, PVal.int IntKind.i64 y_5.At.Index, encL 3 enc_arr_3_int64 y_5.At.Normals, PVal.int IntKind.i64 y_5.Witness.Pair, encL 1 encI_i64 y_5.Witness.Left, encL 1 encI_i64 y_5.Witness.Right]]) a) 0 71) (vecO 12 enc_RoadmapEdge (x_1.snd.snd.fst ++ [S_RoadmapEdge.mk x.snd.snd.snd x_1.snd.snd.snd y_3.fst ([(0 : Int), (0 : Int), (1 : Int), (1 : Int), (1 : Int), (2 : Int), (3 : Int), (1 : Int)].getD y_4.fst.toNat (0 : Int)) y_5]) 71) ∧ True) ∧ True))) ∧ (decide (y_2.fst < (2 : Int)) = false → (aS (AVal.ptr 0 0) ∧ aS (AVal.ptr 3 0) ∧ aS (AVal.ptr 4 0) ∧ aS (aI (IntKind.i64.wrap ((2 : Int) + y_1.fst))) ∧ aS (aI x.snd.snd.snd) ∧ aS (aI x_1.snd.snd.snd) ∧ True) ∧ (rS (Res.box [AVal.vec 1, AVal.vec 2]) ∧ rS Res.nilv ∧ rS Res.nilv ∧ rS (Res.box [AVal.pure (encL 1 encI_i64 y_2.snd.fst), aI y_2.snd.snd]) ∧ rS (Res.box [AVal.vec 5, AVal.vec 6]) ∧ rS (vecO 1 (encL 1 encI_i64) y 65) ∧ rS (vecO 12 enc_RoadmapEdge x_1.snd.snd.fst 71) ∧ True) ∧ True)) ∧ ∀ (y_2 : List Int × Int × List S_RoadmapEdge), (aS (AVal.ptr 0 0) ∧ aS (AVal.ptr 3 0) ∧ aS (AVal.ptr 4 0) ∧ aS (aI (IntKind.i64.wrap ((2 : Int) + y_1.fst))) ∧ aS (aI x.snd.snd.snd) ∧ aS (aI (IntKind.i64.wrap (x_1.snd.snd.snd + (1 : Int)))) ∧ True) ∧ (rS (Res.box [AVal.vec 1, AVal.vec 2]) ∧ rS Res.nilv ∧ rS Res.nilv ∧ rS (Res.box [AVal.pure (encL 1 encI_i64 y_2.fst), aI y_2.snd.fst]) ∧ rS (Res.box [AVal.vec 5, AVal.vec 6]) ∧ rS (vecO 1 (encL 1 encI_i64) y 65) ∧ rS (vecO 12 enc_RoadmapEdge y_2.snd.snd 71) ∧ True) ∧ True) ∧ (decide (x_1.snd.snd.snd < IntKind.i64.wrap ((2 : Int) + y_1.fst)) = false → (aS (AVal.ptr 0 0) ∧ aS (AVal.ptr 3 0) ∧ aS (AVal.ptr 4 0) ∧ aS (aI (IntKind.i64.wrap ((2 : Int) + y_1.fst))) ∧ aS (aI x.snd.snd.snd) ∧ True) ∧ (rS (Res.box [AVal.vec 1, AVal.vec 2]) ∧ rS Res.nilv ∧ rS Res.nilv ∧ rS (Res.box [AVal.pure (encL 1 encI_i64 x_1.fst), aI x_1.snd.fst]) ∧ rS (Res.box [AVal.vec 5, AVal.vec 6]) ∧ rS (vecO 1 (encL 1 encI_i64) y 65) ∧ rS (vecO 12 enc_RoadmapEdge x_1.snd.snd.fst 71) ∧ True) ∧ True)) ∧ ∀ (y_2 : List Int × Int × List S_RoadmapEdge), (aS (AVal.ptr 0 0) ∧ aS (AVal.ptr 3 0) ∧ aS (AVal.ptr 4 0) ∧ aS (aI (IntKind.i64.wrap ((2 : Int) + y_1.fst))) ∧ aS (aI (IntKind.i64.wrap (x.snd.snd.snd + (1 : Int)))) ∧ True) ∧ (rS (Res.box [AVal.vec 1, AVal.vec 2]) ∧ rS Res.nilv ∧ rS Res.nilv ∧ rS (Res.box [AVal.pure (encL 1 encI_i64 y_2.fst), aI y_2.snd.fst]) ∧ rS (Res.box [AVal.vec 5, AVal.vec 6]) ∧ rS (vecO 1 (encL 1 encI_i64) y 65) ∧ rS (vecO 12 enc_RoadmapEdge y_2.snd.snd 71) ∧ True) ∧ True) ∧ (decide (x.snd.snd.snd < IntKind.i64.wrap ((2 : Int) + y_1.fst)) = false → (aS (AVal.ptr 0 0) ∧ aS (AVal.ptr 4 0) ∧ True) ∧ (rS (Res.box [AVal.vec 1, AVal.vec 2]) ∧ rS Res.nilv ∧ rS Res.nilv ∧ rS (Res.box [AVal.vec 5, AVal.vec 6]) ∧ rS (vecO 1 (encL 1 encI_i64) y 65) ∧ rS (vecO 12 enc_RoadmapEdge x.snd.snd.fst 71) ∧ True) ∧ True)) ∧ ∀ (y_2 : List S_RoadmapEdge), (aS (AVal.pure (PVal.agg [encL 1 (encL 1 encI_i64) y, encL 12 enc_RoadmapEdge y_2])) ∧ True) ∧ True ∧ True) := by kernel_rfl


set_option maxHeartbeats 4000000 in
theorem make_Graph_spec (hd : DrawSound Try.prog drawB) {N : Nat} {a0 : (List Int)} {r : S_Roadmap} (h : make_Graph_F N a0 = some r) : Spec Try.prog 22 0 [.pure (encL 1 encI_i64 a0)] [] (.pure (.agg [encL 1 (encL 1 encI_i64) r.Points, encL 12 enc_RoadmapEdge r.Edges])) ([]) := by
  refine spec_ofT (n0 := 0) (res := fun r => .pure (.agg [encL 1 (encL 1 encI_i64) r.Points, encL 12 enc_RoadmapEdge r.Edges])) (m' := fun _ => []) (make_Graph_T N a0) ((make_Graph_run N a0).trans h) hd Try.func22 (by kernel_rfl) (by kernel_rfl) ?_
  rw [make_Graph_vc]
  repeat' (first | exact trivial | exact ASub.refl _ | exact RSub.refl _ | exact make_From_spec hd (by assumption) | exact Source_Next_spec hd (by assumption) | exact make_Claim_spec hd (by assumption) | assumption | exact int_eq0 (by assumption) | exact of_decide_eq_true (by assumption) | exact of_decide_eq_false (by assumption) | rfl | (apply And.intro) | (intro _) | exact nl_a | exact ASub.tt rfl | exact ASub.ff rfl | exact mapR_upE rfl | exact RSub.nilv rfl rfl | exact RSub.gone | exact IsL.el | exact IsL.nl | exact IsL.lit (CSubs.of_eq rfl) rfl | refine IsL.lit ?_ rfl | exact IsL.rep (CSub.of_eq rfl) | refine IsL.a ?_ | refine IsL.r0 ?_ | refine IsLL.r ?_ | exact IsLL.el | exact IsLL.rep | refine IsLL.set ?_ ?_ | refine IsL.r ?_ ?_ | refine IsL.app ?_ ?_ | refine IsL.set ?_ (CSub.of_eq rfl) | refine IsL.set ?_ ?_ | exact IsL.sliceE (by omega) (by omega) | refine IsL.slice ?_ ?_ ?_ | exact IsL.take (by first | exact IsL.el | exact IsL.set IsL.el (CSub.of_eq rfl)) (by omega) | refine IsL.take ?_ ?_ | exact CSubs.nil' | refine CSubs.cons' ?_ ?_ | exact CSub.refl _ | exact nl_c | refine CSub.agg ?_ | refine IsL.c ?_ | exact PSubs.nil' | refine PSubs.cons' ?_ ?_ | exact PSub.refl _ | exact nl_p | refine IsL.p ?_ | refine (PSub.agg ?_).a | refine PSub.agg ?_ | refine ASub.agg ?_ | refine RSub.box ?_ | refine tup_a ?_ | refine ASub.p ?_ | omega)

def make_SmallMap_F (_N : Nat) (a0 : S_Roadmap) : Option Bool :=
  bif (decide (((a0.Points.length : Nat) : Int) ≤ 30)) then
   some (decide (((a0.Edges.length : Nat) : Int) ≤ 60))
  else
   some false

def make_SmallMap_T (_N : Nat) (a0 : S_Roadmap) : T Bool :=
  .br (decide (((a0.Points.length : Nat) : Int) ≤ 30))
   (.ret (decide (((a0.Edges.length : Nat) : Int) ≤ 60)))
   (.ret false)

theorem make_SmallMap_run (N : Nat) (a0 : S_Roadmap) : (make_SmallMap_T N a0).run N = make_SmallMap_F N a0 := by kernel_rfl

theorem make_SmallMap_vc (N : Nat) (a0 : S_Roadmap) : (vcFuncT Try.prog drawB Try.f20 (Try.f20.body.getD .skip) 0 0 (make_SmallMap_T N a0) [.pure (.agg [encL 1 (encL 1 encI_i64) a0.Points, encL 12 enc_RoadmapEdge a0.Edges])] [] (fun r => .pure (.bool r)) (fun _ => [])) =
    (decide ((↑a0.Points.length : Int) ≤ (30 : Int)) = decide ((↑a0.Points.length : Int) ≤ (30 : Int)) ∧ (decide ((↑a0.Points.length : Int) ≤ (30 : Int)) = true → (aS (AVal.pure (PVal.bool (decide ((↑a0.Edges.length : Int) ≤ (60 : Int))))) ∧ True) ∧ True ∧ True) ∧ (decide ((↑a0.Points.length : Int) ≤ (30 : Int)) = false → (aS (AVal.pure (PVal.bool false)) ∧ True) ∧ True ∧ True)) := by kernel_rfl


set_option maxHeartbeats 4000000 in
theorem make_SmallMap_spec (hd : DrawSound Try.prog drawB) {N : Nat} {a0 : S_Roadmap} {r : Bool} (h : make_SmallMap_F N a0 = some r) : Spec Try.prog 20 0 [.pure (.agg [encL 1 (encL 1 encI_i64) a0.Points, encL 12 enc_RoadmapEdge a0.Edges])] [] (.pure (.bool r)) ([]) := by
  refine spec_ofT (n0 := 0) (res := fun r => .pure (.bool r)) (m' := fun _ => []) (make_SmallMap_T N a0) ((make_SmallMap_run N a0).trans h) hd Try.func20 (by kernel_rfl) (by kernel_rfl) ?_
  rw [make_SmallMap_vc]
  repeat' (first | exact trivial | exact ASub.refl _ | exact RSub.refl _ | assumption | exact int_eq0 (by assumption) | exact of_decide_eq_true (by assumption) | exact of_decide_eq_false (by assumption) | rfl | (apply And.intro) | (intro _) | exact nl_a | exact ASub.tt rfl | exact ASub.ff rfl | exact mapR_upE rfl | exact RSub.nilv rfl rfl | exact RSub.gone | exact IsL.el | exact IsL.nl | exact IsL.lit (CSubs.of_eq rfl) rfl | refine IsL.lit ?_ rfl | exact IsL.rep (CSub.of_eq rfl) | refine IsL.a ?_ | refine IsL.r0 ?_ | refine IsLL.r ?_ | exact IsLL.el | exact IsLL.rep | refine IsLL.set ?_ ?_ | refine IsL.r ?_ ?_ | refine IsL.app ?_ ?_ | refine IsL.set ?_ (CSub.of_eq rfl) | refine IsL.set ?_ ?_ | exact IsL.sliceE (by omega) (by omega) | refine IsL.slice ?_ ?_ ?_ | exact IsL.take (by first | exact IsL.el | exact IsL.set IsL.el (CSub.of_eq rfl)) (by omega) | refine IsL.take ?_ ?_ | exact CSubs.nil' | refine CSubs.cons' ?_ ?_ | exact CSub.refl _ | exact nl_c | refine CSub.agg ?_ | refine IsL.c ?_ | exact PSubs.nil' | refine PSubs.cons' ?_ ?_ | exact PSub.refl _ | exact nl_p | refine IsL.p ?_ | refine (PSub.agg ?_).a | refine PSub.agg ?_ | refine ASub.agg ?_ | refine RSub.box ?_ | refine tup_a ?_ | refine ASub.p ?_ | omega)

def make_Same_int_F (N : Nat) (a0 : (List Int)) (a1 : (List Int)) : Option Bool :=
  bif (((a0.length : Nat) : Int) != ((a1.length : Nat) : Int)) then
   some false
  else
   andK (iter (fun (x5 : Int) => (
    bif (decide (x5 < ((a0.length : Nat) : Int))) then
     grd (0 ≤ x5 ∧ x5 < ((a0.length : Nat) : Int)) <|
     grd (0 ≤ x5 ∧ x5 < ((a1.length : Nat) : Int)) <|
     bif ((a0.getD ((x5).toNat) default) != (a1.getD ((x5).toNat) default)) then
      some (.fin false)
     else
      some (.next (IntKind.i64.wrap (x5 + 1)))
    else
     some (.out .u) : Option (Step3 Int U0 _))) N 0) fun _ =>
   some true

def make_Same_int_T (_N : Nat) (a0 : (List Int)) (a1 : (List Int)) : T Bool :=
  .br (((a0.length : Nat) : Int) != ((a1.length : Nat) : Int))
   (.ret false)
   (.loop (fun (x5 : Int) => ⟨[(0, .pure (encL 1 encI_i64 a0)), (1, .pure (encL 1 encI_i64 a1)), (5, .pure (.int .i64 x5))], [], [], 0⟩)
    (.exit 0) (fun (_ : U0) => ⟨[], [], [], 0⟩)
    (fun x5 => .br (decide (x5 < ((a0.length : Nat) : Int)))
      (.grd (0 ≤ x5 ∧ x5 < ((a0.length : Nat) : Int)) <|
      .grd (0 ≤ x5 ∧ x5 < ((a1.length : Nat) : Int)) <|
      .br ((a0.getD ((x5).toNat) default) != (a1.getD ((x5).toNat) default))
       (.ret (.fin false))
       (.ret (.next (IntKind.i64.wrap (x5 + 1)))))
      (.ret (.out .u)))
    0 fun _ =>
   .ret true)

theorem make_Same_int_run (N : Nat) (a0 : (List Int)) (a1 : (List Int)) : (make_Same_int_T N a0 a1).run N = make_Same_int_F N a0 a1 := by kernel_rfl

theorem make_Same_int_vc (N : Nat) (a0 : (List Int)) (a1 : (List Int)) : (vcFuncT Try.prog drawB Try.f51 (Try.f51.body.getD .skip) 0 0 (make_Same_int_T N a0 a1) [.pure (encL 1 encI_i64 a0), .pure (encL 1 encI_i64 a1)] [] (fun r => .pure (.bool r)) (fun _ => [])) =
    (((↑a0.length : Int) != (↑a1.length : Int)) = ((↑a0.length : Int) != (↑a1.length : Int)) ∧ (((↑a0.length : Int) != (↑a1.length : Int)) = true → (aS (AVal.pure (PVal.bool false)) ∧ True) ∧ True ∧ True) ∧ (((↑a0.length : Int) != (↑a1.length : Int)) = false → (∀ (_x : Int), true = true ∧ 0 ≤ 0) ∧ (∀ (_y : U0), true = true ∧ 0 ≤ 0) ∧ ((aS (AVal.pure (encL 1 encI_i64 a0)) ∧ aS (AVal.pure (encL 1 encI_i64 a1)) ∧ aS (aI 0) ∧ True) ∧ True ∧ True) ∧ (∀ (x : Int), decide (x < (↑a0.length : Int)) = decide (x < (↑a0.length : Int)) ∧ (decide (x < (↑a0.length : Int)) = true → (0 : Int) ≤ x ∧ x < (↑a0.length : Int) → ((0 : Int) ≤ x ∧ x < (↑a0.length : Int)) ∧ ((0 : Int) ≤ x ∧ x < (↑a1.length : Int) → ((0 : Int) ≤ x ∧ x < (↑a1.length : Int)) ∧ (a0.getD x.toNat default != a1.getD x.toNat default) = (a0.getD x.toNat default != a1.getD x.toNat default) ∧ ((a0.getD x.toNat default != a1.getD x.toNat default) = true → (aS (AVal.pure (PVal.bool false)) ∧ True) ∧ True ∧ True) ∧ ((a0.getD x.toNat default != a1.getD x.toNat default) = false → (aS (AVal.pure (encL 1 encI_i64 a0)) ∧ aS (AVal.pure (encL 1 encI_i64 a1)) ∧ aS (aI (IntKind.i64.wrap (x + (1 : Int)))) ∧ True) ∧ True ∧ True))) ∧ (decide (x < (↑a0.length : Int)) = false → True ∧ True ∧ True)) ∧ ∀ (_y : U0), (aS (AVal.pure (PVal.bool true)) ∧ True) ∧ True ∧ True)) := by kernel_rfl


set_option maxHeartbeats 4000000 in
theorem make_Same_int_spec (hd : DrawSound Try.prog drawB) {N : Nat} {a0 : (List Int)} {a1 : (List Int)} {r : Bool} (h : make_Same_int_F N a0 a1 = some r) : Spec Try.prog 51 0 [.pure (encL 1 encI_i64 a0), .pure (encL 1 encI_i64 a1)] [] (.pure (.bool r)) ([]) := by
  refine spec_ofT (n0 := 0) (res := fun r => .pure (.bool r)) (m' := fun _ => []) (make_Same_int_T N a0 a1) ((make_Same_int_run N a0 a1).trans h) hd Try.func51 (by kernel_rfl) (by kernel_rfl) ?_
  rw [make_Same_int_vc]
  repeat' (first | exact trivial | exact ASub.refl _ | exact RSub.refl _ | assumption | exact int_eq0 (by assumption) | exact of_decide_eq_true (by assumption) | exact of_decide_eq_false (by assumption) | rfl | (apply And.intro) | (intro _) | exact nl_a | exact ASub.tt rfl | exact ASub.ff rfl | exact mapR_upE rfl | exact RSub.nilv rfl rfl | exact RSub.gone | exact IsL.el | exact IsL.nl | exact IsL.lit (CSubs.of_eq rfl) rfl | refine IsL.lit ?_ rfl | exact IsL.rep (CSub.of_eq rfl) | refine IsL.a ?_ | refine IsL.r0 ?_ | refine IsLL.r ?_ | exact IsLL.el | exact IsLL.rep | refine IsLL.set ?_ ?_ | refine IsL.r ?_ ?_ | refine IsL.app ?_ ?_ | refine IsL.set ?_ (CSub.of_eq rfl) | refine IsL.set ?_ ?_ | exact IsL.sliceE (by omega) (by omega) | refine IsL.slice ?_ ?_ ?_ | exact IsL.take (by first | exact IsL.el | exact IsL.set IsL.el (CSub.of_eq rfl)) (by omega) | refine IsL.take ?_ ?_ | exact CSubs.nil' | refine CSubs.cons' ?_ ?_ | exact CSub.refl _ | exact nl_c | refine CSub.agg ?_ | refine IsL.c ?_ | exact PSubs.nil' | refine PSubs.cons' ?_ ?_ | exact PSub.refl _ | exact nl_p | refine IsL.p ?_ | refine (PSub.agg ?_).a | refine PSub.agg ?_ | refine ASub.agg ?_ | refine RSub.box ?_ | refine tup_a ?_ | refine ASub.p ?_ | omega)

def make_SameRoute_F (N : Nat) (a0 : S_Route) (a1 : S_Route) : Option Bool :=
  bif (a0.Cost == a1.Cost) then
   (make_Same_int_F N a0.Vertices a1.Vertices).bind fun y1 =>
   some y1
  else
   some false

def make_SameRoute_T (N : Nat) (a0 : S_Route) (a1 : S_Route) : T Bool :=
  .br (a0.Cost == a1.Cost)
   (.call (make_Same_int_F N a0.Vertices a1.Vertices) (fun y1 => ⟨[], 0, [.pure (encL 1 encI_i64 a0.Vertices), .pure (encL 1 encI_i64 a1.Vertices)], [], .pure (.bool y1), []⟩) fun y1 =>
   .ret y1)
   (.ret false)

theorem make_SameRoute_run (N : Nat) (a0 : S_Route) (a1 : S_Route) : (make_SameRoute_T N a0 a1).run N = make_SameRoute_F N a0 a1 := by kernel_rfl

theorem make_SameRoute_vc (N : Nat) (a0 : S_Route) (a1 : S_Route) : (vcFuncT Try.prog drawB Try.f40 (Try.f40.body.getD .skip) 0 0 (make_SameRoute_T N a0 a1) [.pure (.agg [encL 1 encI_i64 a0.Vertices, .int .i64 a0.Cost]), .pure (.agg [encL 1 encI_i64 a1.Vertices, .int .i64 a1.Cost])] [] (fun r => .pure (.bool r)) (fun _ => [])) =
    ((a0.Cost == a1.Cost) = (a0.Cost == a1.Cost) ∧ ((a0.Cost == a1.Cost) = true → ∀ (y : Bool), make_Same_int_F N a0.Vertices a1.Vertices = some y → ((aS (AVal.pure (encL 1 encI_i64 a0.Vertices)) ∧ aS (AVal.pure (encL 1 encI_i64 a1.Vertices)) ∧ True) ∧ True ∧ Spec Try.prog 51 0 [AVal.pure (encL 1 encI_i64 a0.Vertices), AVal.pure (encL 1 encI_i64 a1.Vertices)] [] (AVal.pure (PVal.bool y)) []) ∧ (aS (AVal.pure (PVal.bool y)) ∧ True) ∧ True ∧ True) ∧ ((a0.Cost == a1.Cost) = false → (aS (AVal.pure (PVal.bool false)) ∧ True) ∧ True ∧ True)) := by kernel_rfl


set_option maxHeartbeats 4000000 in
theorem make_SameRoute_spec (hd : DrawSound Try.prog drawB) {N : Nat} {a0 : S_Route} {a1 : S_Route} {r : Bool} (h : make_SameRoute_F N a0 a1 = some r) : Spec Try.prog 40 0 [.pure (.agg [encL 1 encI_i64 a0.Vertices, .int .i64 a0.Cost]), .pure (.agg [encL 1 encI_i64 a1.Vertices, .int .i64 a1.Cost])] [] (.pure (.bool r)) ([]) := by
  refine spec_ofT (n0 := 0) (res := fun r => .pure (.bool r)) (m' := fun _ => []) (make_SameRoute_T N a0 a1) ((make_SameRoute_run N a0 a1).trans h) hd Try.func40 (by kernel_rfl) (by kernel_rfl) ?_
  rw [make_SameRoute_vc]
  repeat' (first | exact trivial | exact ASub.refl _ | exact RSub.refl _ | exact make_Same_int_spec hd (by assumption) | assumption | exact int_eq0 (by assumption) | exact of_decide_eq_true (by assumption) | exact of_decide_eq_false (by assumption) | rfl | (apply And.intro) | (intro _) | exact nl_a | exact ASub.tt rfl | exact ASub.ff rfl | exact mapR_upE rfl | exact RSub.nilv rfl rfl | exact RSub.gone | exact IsL.el | exact IsL.nl | exact IsL.lit (CSubs.of_eq rfl) rfl | refine IsL.lit ?_ rfl | exact IsL.rep (CSub.of_eq rfl) | refine IsL.a ?_ | refine IsL.r0 ?_ | refine IsLL.r ?_ | exact IsLL.el | exact IsLL.rep | refine IsLL.set ?_ ?_ | refine IsL.r ?_ ?_ | refine IsL.app ?_ ?_ | refine IsL.set ?_ (CSub.of_eq rfl) | refine IsL.set ?_ ?_ | exact IsL.sliceE (by omega) (by omega) | refine IsL.slice ?_ ?_ ?_ | exact IsL.take (by first | exact IsL.el | exact IsL.set IsL.el (CSub.of_eq rfl)) (by omega) | refine IsL.take ?_ ?_ | exact CSubs.nil' | refine CSubs.cons' ?_ ?_ | exact CSub.refl _ | exact nl_c | refine CSub.agg ?_ | refine IsL.c ?_ | exact PSubs.nil' | refine PSubs.cons' ?_ ?_ | exact PSub.refl _ | exact nl_p | refine IsL.p ?_ | refine (PSub.agg ?_).a | refine PSub.agg ?_ | refine ASub.agg ?_ | refine RSub.box ?_ | refine tup_a ?_ | refine ASub.p ?_ | omega)
end Go.Abs
