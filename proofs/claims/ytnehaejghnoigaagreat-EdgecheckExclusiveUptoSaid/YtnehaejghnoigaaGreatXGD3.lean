/-
  D3 (a part of a claim: our own text).
-/
import Derived.Test.YtnehaejghnoigaaGreatXGM2
namespace Go.Abs
open Go.Proofs
noncomputable def state_run_T (a0 : (List (Int × Int × Int))) (a1 : (List Int)) (a2 : (List (Int × Int × Int))) (a3 : (List Int)) (a4 : Int) (a5 : Int) (a6 : Int) (a7 : Int) (a8 : Int) (a9 : Int) : T (Int × (List (Int × Int × Int)) × (List Int) × (List (Int × Int × Int)) × (List Int) × Int × Int × Int × Int) :=
  .loop (fun (x30 : ((List Int) × (List Int) × Int × Int × Int × Int)) => ⟨[(0, .ptr 0 0), (1, .pure (.int .i64 a8)), (2, .pure (.int .i64 a9))], [(0, .box [.pure (encL 3 enc_arr_3_int64 a0), .vec 1, .pure (encL 3 enc_arr_3_int64 a2), .vec 2, .pure (.int .i64 x30.2.2.1), .pure (.int .i64 x30.2.2.2.1), .pure (.int .i64 x30.2.2.2.2.1), .pure (.int .i64 x30.2.2.2.2.2)]), (1, vecO 1 encI_i64 x30.1 2), (2, vecO 1 encI_i64 x30.2.1 2)], [], 3⟩)
   .ret (fun (_ : U0) => ⟨[], [], [], 3⟩)
   (fun x30 => .call (list_sum_C a0 x30.1) [(0, 1)] fun y63 =>
    .call (list_sum_C a2 x30.2.1) [(0, 2)] fun y64 =>
    .call (nearest_minus_C y63 y64) [] fun y65 =>
    .call (nearest_isClose_C y65 a8) [] fun y69 =>
    .br y69
     (.ret (.fin (2, a0, x30.1, a2, x30.2.1, x30.2.2.1, x30.2.2.2.1, x30.2.2.2.2.1, x30.2.2.2.2.2)))
     (.ix 0 3 rfl <|
     .ok ((65536 : Int) ≠ 0) (by decide) <|
     .ix 1 3 rfl <|
     .ok ((65536 : Int) ≠ 0) (by decide) <|
     .ix 2 3 rfl <|
     .ok ((65536 : Int) ≠ 0) (by decide) <|
     .call (support_Normal_C ((IntKind.i64.wrap (y65.1.tdiv 65536)), (IntKind.i64.wrap (y65.2.1.tdiv 65536)), (IntKind.i64.wrap (y65.2.2.tdiv 65536)))) [] fun y71 =>
     .br (!y71.2)
      (.ret (.fin (0, a0, x30.1, a2, x30.2.1, y71.1.1, y71.1.2.1, y71.1.2.2, x30.2.2.2.2.2)))
      (.call (left_least_C a0 x30.1 y71.1) [(0, 1)] fun y73 =>
      .call (right_greatest_C a2 x30.2.1 y71.1) [(0, 2)] fun y75 =>
      .call (support_Norm_C y71.1) [] fun y79 =>
      .br (decide ((IntKind.i64.wrap (y73.1 - y75.1)) > (IntKind.i64.wrap (y79 * a8))))
       (.ret (.fin (1, a0, x30.1, a2, x30.2.1, y71.1.1, y71.1.2.1, y71.1.2.2, x30.2.2.2.2.2)))
       (.br (x30.2.2.2.2.2 == a9)
        (.ret (.fin (0, a0, x30.1, a2, x30.2.1, y71.1.1, y71.1.2.1, y71.1.2.2, x30.2.2.2.2.2)))
        (.grd (0 ≤ y73.2 ∧ y73.2 < ((a0.length : Nat) : Int)) <|
        .grd (0 ≤ y75.2 ∧ y75.2 < ((a2.length : Nat) : Int)) <|
        .call (nearest_minus_C (a0.getD ((y73.2).toNat) default) (a2.getD ((y75.2).toNat) default)) [] fun y82 =>
        .call (nearest_part_C ((IntKind.i64.wrap (y65.1.tdiv 65536)), (IntKind.i64.wrap (y65.2.1.tdiv 65536)), (IntKind.i64.wrap (y65.2.2.tdiv 65536))) y82) [] fun y83 =>
        .br (y83 == 0)
         (.ret (.fin (0, a0, x30.1, a2, x30.2.1, y71.1.1, y71.1.2.1, y71.1.2.2, x30.2.2.2.2.2)))
         (.call (list_gather_C a0 x30.1 y73.2 y83) [(0, 1)] fun y85 =>
         .call (list_gather_C a2 x30.2.1 y75.2 y83) [(0, 2)] fun y87 =>
         .ret (.next (y85, y87, y71.1.1, y71.1.2.1, y71.1.2.2, (IntKind.i64.wrap (x30.2.2.2.2.2 + 1))))))))))
   (a1, a3, a4, a5, a6, a7) [] fun _ =>
  .stop
noncomputable def state_run_C (a0 : (List (Int × Int × Int))) (a1 : (List Int)) (a2 : (List (Int × Int × Int))) (a3 : (List Int)) (a4 : Int) (a5 : Int) (a6 : Int) (a7 : Int) (a8 : Int) (a9 : Int) : CallS (Int × (List (Int × Int × Int)) × (List Int) × (List (Int × Int × Int)) × (List Int) × Int × Int × Int × Int) :=
  mkC [] hd Tryz.func140 (by kernel_rfl) (state_run_T a0 a1 a2 a3 a4 a5 a6 a7 a8 a9) 3 [.ptr 0 0, .pure (.int .i64 a8), .pure (.int .i64 a9)] [(0, .box [.pure (encL 3 enc_arr_3_int64 a0), .vec 1, .pure (encL 3 enc_arr_3_int64 a2), .vec 2, .pure (.int .i64 a4), .pure (.int .i64 a5), .pure (.int .i64 a6), .pure (.int .i64 a7)]), (1, vecO 1 encI_i64 a1 2), (2, vecO 1 encI_i64 a3 2)] (fun r => .pure (.int .i64 r.1)) (fun r => [(0, .box [.pure (encL 3 enc_arr_3_int64 r.2.1), .vec 1, .pure (encL 3 enc_arr_3_int64 r.2.2.2.1), .vec 2, .pure (.int .i64 r.2.2.2.2.2.1), .pure (.int .i64 r.2.2.2.2.2.2.1), .pure (.int .i64 r.2.2.2.2.2.2.2.1), .pure (.int .i64 r.2.2.2.2.2.2.2.2)]), (1, vecO 1 encI_i64 r.2.2.1 2), (2, vecO 1 encI_i64 r.2.2.2.2.1 2)]) (by kernel_rfl)
noncomputable def nearest_Search_T (a0 : (List (Int × Int × Int))) (a1 : (List (Int × Int × Int))) (a2 : Int) (a3 : Int) : T S_Nearest :=
  .cut 2 (fun (y12 : Bool) => ⟨[(0, .pure (encL 3 enc_arr_3_int64 a0)), (1, .pure (encL 3 enc_arr_3_int64 a1)), (2, .pure (.int .i64 a2)), (3, .pure (.int .i64 a3)), (8, .ptr 0 0), (34, .pure (.bool y12))], [(0, .box [.pure (.int .i64 0), .pure (.int .i64 0), .pure (.int .i64 0), .pure (.int .i64 0), .vec 1, .vec 2, .pure (.int .i64 0)]), (1, .nilv), (2, .nilv)], [], 3⟩)
   (.call (nearest_usable_C a0) [] fun y13 =>
   .br (!y13)
    (.ret (.out true))
    (.call (nearest_usable_C a1) [] fun y14 =>
    .br (!y14)
     (.ret (.out true))
     (.br (decide (a2 < 0))
      (.ret (.out true))
      (.br (decide (a2 > 2097152))
       (.ret (.out true))
       (.br (decide (a3 < 0))
        (.ret (.out true))
        (.ret (.out (decide (a3 > 64))))))))) fun y12 =>
  .br y12
   (.ret (⟨0, (0, 0, 0), nl, nl, 0⟩ : S_Nearest))
   (.call (nearest_newList_C a0) [] fun y17 =>
   .call (nearest_newList_C a1) [] fun y18 =>
   .call (state_run_C y17.1 y17.2 y18.1 y18.2 0 0 0 0 a2 a3) [(0, 451), (1, 67), (2, 259)] fun y20 =>
   .ret (⟨y20.1, (y20.2.2.2.2.2.1, y20.2.2.2.2.2.2.1, y20.2.2.2.2.2.2.2.1), y20.2.2.1, y20.2.2.2.2.1, y20.2.2.2.2.2.2.2.2⟩ : S_Nearest))
noncomputable def nearest_Search_C (a0 : (List (Int × Int × Int))) (a1 : (List (Int × Int × Int))) (a2 : Int) (a3 : Int) : CallS S_Nearest :=
  mkC [] hd Tryz.func77 (by kernel_rfl) (nearest_Search_T a0 a1 a2 a3) 0 [.pure (encL 3 enc_arr_3_int64 a0), .pure (encL 3 enc_arr_3_int64 a1), .pure (.int .i64 a2), .pure (.int .i64 a3)] [] (fun r => .pure (enc_Nearest r)) (fun _ => []) (by kernel_rfl)
noncomputable def normals_candidates_1_T {o : (Int × Int × Int) → Option Bool} (Y : YldS Tryz.prog enc_arr_3_int64 o) (a0 : (List (S_Interval × S_Interval × S_Interval))) (a1 : (List (S_Interval × S_Interval × S_Interval))) (a2 : Int) (a3 : Int) (a4 : (List (Int × Int × Int))) : T (Bool × (Int × Int × Int) × (List (S_Interval × S_Interval × S_Interval)) × (List (S_Interval × S_Interval × S_Interval)) × Int × Int × (List (Int × Int × Int))) :=
  .cut 1 (fun (y22 : Bool) => ⟨[(0, .yld Y.l), (1, .ptr 1 0), (2, .ptr 2 0), (3, .ptr 3 0), (4, .ptr 4 0), (5, .ptr 5 0), (31, .pure (.bool y22))], [(0, .tok Y.τ (tokP false (enc_arr_3_int64 default))), (1, .box [.pure (encL 6 enc_arr_3_Interval a0)]), (2, .box [.pure (encL 6 enc_arr_3_Interval a1)]), (3, .box [.pure (.int .i64 a2)]), (4, .box [.pure (.int .i64 a3)]), (5, .box [.pure (encL 3 enc_arr_3_int64 a4)])], [], 6⟩)
   (.call (shape_Placed_C a0) [] fun y23 =>
   .br (!y23)
    (.ret (.out true))
    (.call (shape_Placed_C a1) [] fun y24 =>
    .br (!y24)
     (.ret (.out true))
     (.call (normals_isRadius_C a2) [] fun y25 =>
     .br (!y25)
      (.ret (.out true))
      (.call (normals_isRadius_C a3) [] fun y26 =>
      .ret (.out (!y26)))))) fun y22 =>
  .br y22
   (.ret (false, default, a0, a1, a2, a3, a4))
   (.loop (fun (x87 : (Int × Bool × (Int × Int × Int))) => ⟨[(0, .yld Y.l), (1, .ptr 1 0), (2, .ptr 2 0), (3, .ptr 3 0), (4, .ptr 4 0), (32, .pure (encL 3 enc_arr_3_int64 a4)), (33, .pure (.int .i64 ((a4.length : Nat) : Int))), (34, .pure (.int .i64 x87.1))], [(0, .tok Y.τ (tokP x87.2.1 (enc_arr_3_int64 x87.2.2))), (1, .box [.pure (encL 6 enc_arr_3_Interval a0)]), (2, .box [.pure (encL 6 enc_arr_3_Interval a1)]), (3, .box [.pure (.int .i64 a2)]), (4, .box [.pure (.int .i64 a3)]), (5, .box [.pure (encL 3 enc_arr_3_int64 a4)])], [], 6⟩)
    (.exit 0) (fun (y102 : (Bool × (Int × Int × Int))) => ⟨[(0, .yld Y.l), (1, .ptr 1 0), (2, .ptr 2 0), (3, .ptr 3 0), (4, .ptr 4 0)], [(0, .tok Y.τ (tokP y102.1 (enc_arr_3_int64 y102.2))), (1, .box [.pure (encL 6 enc_arr_3_Interval a0)]), (2, .box [.pure (encL 6 enc_arr_3_Interval a1)]), (3, .box [.pure (.int .i64 a2)]), (4, .box [.pure (.int .i64 a3)]), (5, .box [.pure (encL 3 enc_arr_3_int64 a4)])], [], 6⟩)
    (fun x87 => .br (decide (x87.1 < ((a4.length : Nat) : Int)))
      (.grd (0 ≤ x87.1 ∧ x87.1 < ((a4.length : Nat) : Int)) <|
      .cut 0 (fun (y114 : (Bool × Bool × (Int × Int × Int))) => ⟨[(0, .yld Y.l), (1, .ptr 1 0), (2, .ptr 2 0), (3, .ptr 3 0), (4, .ptr 4 0), (32, .pure (encL 3 enc_arr_3_int64 a4)), (33, .pure (.int .i64 ((a4.length : Nat) : Int))), (34, .pure (.int .i64 x87.1)), (45, .pure (.bool y114.1))], [(0, .tok Y.τ (tokP y114.2.1 (enc_arr_3_int64 y114.2.2))), (1, .box [.pure (encL 6 enc_arr_3_Interval a0)]), (2, .box [.pure (encL 6 enc_arr_3_Interval a1)]), (3, .box [.pure (.int .i64 a2)]), (4, .box [.pure (.int .i64 a3)]), (5, .box [.pure (encL 3 enc_arr_3_int64 a4)])], [], 6⟩)
       (.call (support_Usable_C (a4.getD ((x87.1).toNat) default)) [] fun y115 =>
       .br y115
        (.call (Y.C x87.2.1 x87.2.2 (a4.getD ((x87.1).toNat) default)) [(0, 0)] fun y116 =>
        .ret (.out ((!(!y116)), y116, (a4.getD ((x87.1).toNat) default))))
        (.ret (.out (false, x87.2.1, x87.2.2)))) fun y114 =>
      .br y114.1
       (.ret (.fin (y114.2.1, y114.2.2, a0, a1, a2, a3, a4)))
       (.ret (.next ((IntKind.i64.wrap (x87.1 + 1)), y114.2.1, y114.2.2))))
      (.ret (.out (x87.2.1, x87.2.2))))
    (0, false, default) [] fun y102 =>
   .call (normals_Mean_C a0 a1) [] fun y124 =>
   .cut 0 (fun (y127 : (Bool × Bool × (Int × Int × Int))) => ⟨[(0, .yld Y.l), (1, .ptr 1 0), (2, .ptr 2 0), (3, .ptr 3 0), (4, .ptr 4 0), (59, .pure (.bool y127.1))], [(0, .tok Y.τ (tokP y127.2.1 (enc_arr_3_int64 y127.2.2))), (1, .box [.pure (encL 6 enc_arr_3_Interval a0)]), (2, .box [.pure (encL 6 enc_arr_3_Interval a1)]), (3, .box [.pure (.int .i64 a2)]), (4, .box [.pure (.int .i64 a3)]), (5, .box [.pure (encL 3 enc_arr_3_int64 a4)])], [], 6⟩)
    (.br y124.2
     (.call (Y.C y102.1 y102.2 y124.1) [(0, 0)] fun y128 =>
     .ret (.out ((!(!y128)), y128, y124.1)))
     (.ret (.out (false, y102.1, y102.2)))) fun y127 =>
   .br y127.1
    (.ret (y127.2.1, y127.2.2, a0, a1, a2, a3, a4))
    (.call (normals_Axes_C) [] fun y147 =>
    .loop (fun (x153 : (Int × Bool × (Int × Int × Int))) => ⟨[(0, .yld Y.l), (1, .ptr 1 0), (2, .ptr 2 0), (3, .ptr 3 0), (4, .ptr 4 0), (60, .pure (encL 3 enc_arr_3_int64 y147)), (61, .pure (.int .i64 ((y147.length : Nat) : Int))), (62, .pure (.int .i64 x153.1))], [(0, .tok Y.τ (tokP x153.2.1 (enc_arr_3_int64 x153.2.2))), (1, .box [.pure (encL 6 enc_arr_3_Interval a0)]), (2, .box [.pure (encL 6 enc_arr_3_Interval a1)]), (3, .box [.pure (.int .i64 a2)]), (4, .box [.pure (.int .i64 a3)]), (5, .box [.pure (encL 3 enc_arr_3_int64 a4)])], [], 6⟩)
     (.exit 2) (fun (y158 : (Bool × (Int × Int × Int))) => ⟨[(0, .yld Y.l), (1, .ptr 1 0), (2, .ptr 2 0), (3, .ptr 3 0), (4, .ptr 4 0)], [(0, .tok Y.τ (tokP y158.1 (enc_arr_3_int64 y158.2))), (1, .box [.pure (encL 6 enc_arr_3_Interval a0)]), (2, .box [.pure (encL 6 enc_arr_3_Interval a1)]), (3, .box [.pure (.int .i64 a2)]), (4, .box [.pure (.int .i64 a3)]), (5, .box [.pure (encL 3 enc_arr_3_int64 a4)])], [], 6⟩)
     (fun x153 => .br (decide (x153.1 < ((y147.length : Nat) : Int)))
       (.grd (0 ≤ x153.1 ∧ x153.1 < ((y147.length : Nat) : Int)) <|
       .call (Y.C x153.2.1 x153.2.2 (y147.getD ((x153.1).toNat) default)) [(0, 0)] fun y162 =>
       .br (!(!y162))
        (.ret (.fin (y162, (y147.getD ((x153.1).toNat) default), a0, a1, a2, a3, a4)))
        (.ret (.next ((IntKind.i64.wrap (x153.1 + 1)), y162, (y147.getD ((x153.1).toNat) default)))))
       (.ret (.out (x153.2.1, x153.2.2))))
     (0, y127.2.1, y127.2.2) [] fun y158 =>
    .call (shape_Centers_C a0) [] fun y166 =>
    .call (shape_Centers_C a1) [] fun y167 =>
    .call (nearest_Search_C y166 y167 (IntKind.i64.wrap (a2 + a3)) 64) [] fun y168 =>
    .call (support_Usable_C y168.Normal) [] fun y170 =>
    .br y170
     (.call (Y.C y158.1 y158.2 y168.Normal) [(0, 0)] fun y171 =>
     .ret (y171, y168.Normal, a0, a1, a2, a3, a4))
     (.ret (y158.1, y158.2, a0, a1, a2, a3, a4))))
noncomputable def normals_candidates_1_C {o : (Int × Int × Int) → Option Bool} (Y : YldS Tryz.prog enc_arr_3_int64 o) (a0 : (List (S_Interval × S_Interval × S_Interval))) (a1 : (List (S_Interval × S_Interval × S_Interval))) (a2 : Int) (a3 : Int) (a4 : (List (Int × Int × Int))) : CallS (Bool × (Int × Int × Int) × (List (S_Interval × S_Interval × S_Interval)) × (List (S_Interval × S_Interval × S_Interval)) × Int × Int × (List (Int × Int × Int))) :=
  mkC [] hd Tryz.func178 (by kernel_rfl) (normals_candidates_1_T Y a0 a1 a2 a3 a4) 6 [.yld Y.l, .ptr 1 0, .ptr 2 0, .ptr 3 0, .ptr 4 0, .ptr 5 0] [(0, .tok Y.τ (tokP false (enc_arr_3_int64 default))), (1, .box [.pure (encL 6 enc_arr_3_Interval a0)]), (2, .box [.pure (encL 6 enc_arr_3_Interval a1)]), (3, .box [.pure (.int .i64 a2)]), (4, .box [.pure (.int .i64 a3)]), (5, .box [.pure (encL 3 enc_arr_3_int64 a4)])] (fun _ => .tup []) (fun r => [(0, .tok Y.τ (tokP r.1 (enc_arr_3_int64 r.2.1))), (1, .box [.pure (encL 6 enc_arr_3_Interval r.2.2.1)]), (2, .box [.pure (encL 6 enc_arr_3_Interval r.2.2.2.1)]), (3, .box [.pure (.int .i64 r.2.2.2.2.1)]), (4, .box [.pure (.int .i64 r.2.2.2.2.2.1)]), (5, .box [.pure (encL 3 enc_arr_3_int64 r.2.2.2.2.2.2)])]) (by kernel_rfl)
noncomputable def normals_Find_B (a0 : (List (S_Interval × S_Interval × S_Interval))) (a1 : Int) (a2 : (List (S_Interval × S_Interval × S_Interval))) (a3 : Int) (_a4 : (List (Int × Int × Int))) (x : (Int × Int × Int)) : T Bool :=
  .call (plane_Separates_C x a0 a1 a2 a3) [] fun y3 =>
  .br y3
   (.ret true)
   (.ret false)
noncomputable def normals_Find_C (a0 : (List (S_Interval × S_Interval × S_Interval))) (a1 : Int) (a2 : (List (S_Interval × S_Interval × S_Interval))) (a3 : Int) (a4 : (List (Int × Int × Int))) : CallS ((Int × Int × Int) × Bool) :=
  mkR (encX := enc_arr_3_int64) [⟨135, guard135⟩] hd Tryz.func76 (by kernel_rfl) (.call (normals_candidates_C a0 a1 a2 a3 a4) [] fun y1 =>
  .ret y1)
  (normals_Find_B a0 a1 a2 a3 a4) [(0, .box [.pure (encL 6 enc_arr_3_Interval a0)]), (64, .box [.pure (.int .i64 a1)]), (128, .box [.pure (encL 6 enc_arr_3_Interval a2)]), (192, .box [.pure (.int .i64 a3)]), (256, .box [.pure (.int .i64 0), .pure (.int .i64 0), .pure (.int .i64 0)]), (320, .box [.ff])]
  (fun p => [(0, .box [.pure (encL 6 enc_arr_3_Interval a0)]), (64, .box [.pure (.int .i64 a1)]), (128, .box [.pure (encL 6 enc_arr_3_Interval a2)]), (192, .box [.pure (.int .i64 a3)]), (256, .box (p.cells.map .pure)), (320, .box [.tt])]) [(0, 960), (1, 832), (2, 833), (3, 834), (4, 835), (5, 836)] (fun r => r.1) (fun r => r.2.1)
  (fun y1 Y => normals_candidates_1_C Y y1.1 y1.2.1 y1.2.2.1 y1.2.2.2.1 y1.2.2.2.2)
  (.ret ((0, 0, 0), false)) (fun x => (x, true)) (fun _ _ => rfl) 0 [.pure (encL 6 enc_arr_3_Interval a0), .pure (.int .i64 a1), .pure (encL 6 enc_arr_3_Interval a2), .pure (.int .i64 a3), .pure (encL 3 enc_arr_3_int64 a4)] [] (fun r => .tup [.pure (enc_arr_3_int64 r.1), .pure (.bool r.2)]) (fun _ => []) (by kernel_rfl)
set_option maxHeartbeats 8000000 in
set_option maxRecDepth 20000 in
noncomputable def shape_Combine_T (a0 : (List (S_Interval × S_Interval × S_Interval))) (a1 : (List Int)) : T ((S_Interval × S_Interval × S_Interval) × Int × Bool) :=
  .cut 2 (fun (y599 : Bool) => ⟨[(0, .pure (encL 6 enc_arr_3_Interval a0)), (1, .pure (encL 1 encI_i64 a1)), (4, .ptr 0 0), (22, .pure (.bool y599))], [(0, .box [.pure (.int .i64 0), .pure (.int .i64 0), .pure (.int .i64 0), .pure (.int .i64 0), .pure (.int .i64 0), .pure (.int .i64 0)])], [], 1⟩)
   (.call (shape_Placed_C a0) [] fun y600 =>
   .br (!y600)
    (.ret (.out true))
    (.ret (.out (((a1.length : Nat) : Int) != ((a0.length : Nat) : Int))))) fun y599 =>
  .br y599
   (.ret (((⟨0, 0⟩ : S_Interval), (⟨0, 0⟩ : S_Interval), (⟨0, 0⟩ : S_Interval)), 0, false))
   (.loop (fun (x1021 : (Int × Int × Int × Int × Int × Int × Int × Int)) => ⟨[(0, .pure (encL 6 enc_arr_3_Interval a0)), (4, .ptr 0 0), (7, .ptr 1 0), (8, .pure (.int .i64 x1021.2.2.2.2.2.2.1)), (24, .pure (encL 1 encI_i64 a1)), (25, .pure (.int .i64 ((a1.length : Nat) : Int))), (26, .pure (.int .i64 x1021.2.2.2.2.2.2.2))], [(0, .box [.pure (.int .i64 0), .pure (.int .i64 0), .pure (.int .i64 0), .pure (.int .i64 0), .pure (.int .i64 0), .pure (.int .i64 0)]), (1, .box [.pure (.int .i64 x1021.1), .pure (.int .i64 x1021.2.1), .pure (.int .i64 x1021.2.2.1), .pure (.int .i64 x1021.2.2.2.1), .pure (.int .i64 x1021.2.2.2.2.1), .pure (.int .i64 x1021.2.2.2.2.2.1)])], [], 2⟩)
    (.exit 0) (fun (y1126 : (Int × Int × Int × Int × Int × Int × Int)) => ⟨[(4, .ptr 0 0), (7, .ptr 1 0), (8, .pure (.int .i64 y1126.2.2.2.2.2.2))], [(0, .box [.pure (.int .i64 0), .pure (.int .i64 0), .pure (.int .i64 0), .pure (.int .i64 0), .pure (.int .i64 0), .pure (.int .i64 0)]), (1, .box [.pure (.int .i64 y1126.1), .pure (.int .i64 y1126.2.1), .pure (.int .i64 y1126.2.2.1), .pure (.int .i64 y1126.2.2.2.1), .pure (.int .i64 y1126.2.2.2.2.1), .pure (.int .i64 y1126.2.2.2.2.2.1)])], [], 2⟩)
    (fun x1021 => .br (decide (x1021.2.2.2.2.2.2.2 < ((a1.length : Nat) : Int)))
      (.grd (0 ≤ x1021.2.2.2.2.2.2.2 ∧ x1021.2.2.2.2.2.2.2 < ((a1.length : Nat) : Int)) <|
      .cut 1 (fun (y1180 : Bool) => ⟨[(0, .pure (encL 6 enc_arr_3_Interval a0)), (4, .ptr 0 0), (7, .ptr 1 0), (8, .pure (.int .i64 x1021.2.2.2.2.2.2.1)), (9, .pure (.int .i64 x1021.2.2.2.2.2.2.2)), (10, .pure (.int .i64 (a1.getD ((x1021.2.2.2.2.2.2.2).toNat) default))), (24, .pure (encL 1 encI_i64 a1)), (25, .pure (.int .i64 ((a1.length : Nat) : Int))), (26, .pure (.int .i64 x1021.2.2.2.2.2.2.2)), (36, .pure (.bool y1180))], [(0, .box [.pure (.int .i64 0), .pure (.int .i64 0), .pure (.int .i64 0), .pure (.int .i64 0), .pure (.int .i64 0), .pure (.int .i64 0)]), (1, .box [.pure (.int .i64 x1021.1), .pure (.int .i64 x1021.2.1), .pure (.int .i64 x1021.2.2.1), .pure (.int .i64 x1021.2.2.2.1), .pure (.int .i64 x1021.2.2.2.2.1), .pure (.int .i64 x1021.2.2.2.2.2.1)])], [], 2⟩)
       (.br (decide ((a1.getD ((x1021.2.2.2.2.2.2.2).toNat) default) < 0))
        (.ret (.out true))
        (.ret (.out (decide ((a1.getD ((x1021.2.2.2.2.2.2.2).toNat) default) > 65536))))) fun y1180 =>
      .br y1180
       (.ret (.fin (((⟨0, 0⟩ : S_Interval), (⟨0, 0⟩ : S_Interval), (⟨0, 0⟩ : S_Interval)), 0, false)))
       (.grd (0 ≤ x1021.2.2.2.2.2.2.2 ∧ x1021.2.2.2.2.2.2.2 < ((a0.length : Nat) : Int)) <|
       .unroll 4 <|
       .known true <|
       .ix 0 3 rfl <|
       .ix 0 3 rfl <|
       .name 14007 ((IntKind.i64.wrap ((a1.getD ((x1021.2.2.2.2.2.2.2).toNat) default) * ((a0.getD ((x1021.2.2.2.2.2.2.2).toNat) default).1.Lo)))) fun z1203 =>
       .name 14008 ((IntKind.i64.wrap (x1021.1 + z1203))) fun z1204 =>
       .ix 0 3 rfl <|
       .ix 0 3 rfl <|
       .name 15007 ((IntKind.i64.wrap ((a1.getD ((x1021.2.2.2.2.2.2.2).toNat) default) * ((a0.getD ((x1021.2.2.2.2.2.2.2).toNat) default).1.Hi)))) fun z1205 =>
       .name 15008 ((IntKind.i64.wrap (x1021.2.1 + z1205))) fun z1206 =>
       .ix 0 3 rfl <|
       .lit 16000 (1) <|
       .known true <|
       .ix 1 3 rfl <|
       .ix 1 3 rfl <|
       .name 14007 ((IntKind.i64.wrap ((a1.getD ((x1021.2.2.2.2.2.2.2).toNat) default) * ((a0.getD ((x1021.2.2.2.2.2.2.2).toNat) default).2.1.Lo)))) fun z1215 =>
       .name 14008 ((IntKind.i64.wrap (x1021.2.2.1 + z1215))) fun z1216 =>
       .ix 1 3 rfl <|
       .ix 1 3 rfl <|
       .name 15007 ((IntKind.i64.wrap ((a1.getD ((x1021.2.2.2.2.2.2.2).toNat) default) * ((a0.getD ((x1021.2.2.2.2.2.2.2).toNat) default).2.1.Hi)))) fun z1217 =>
       .name 15008 ((IntKind.i64.wrap (x1021.2.2.2.1 + z1217))) fun z1218 =>
       .ix 1 3 rfl <|
       .lit 16000 (2) <|
       .known true <|
       .ix 2 3 rfl <|
       .ix 2 3 rfl <|
       .name 14007 ((IntKind.i64.wrap ((a1.getD ((x1021.2.2.2.2.2.2.2).toNat) default) * ((a0.getD ((x1021.2.2.2.2.2.2.2).toNat) default).2.2.Lo)))) fun z1227 =>
       .name 14008 ((IntKind.i64.wrap (x1021.2.2.2.2.1 + z1227))) fun z1228 =>
       .ix 2 3 rfl <|
       .ix 2 3 rfl <|
       .name 15007 ((IntKind.i64.wrap ((a1.getD ((x1021.2.2.2.2.2.2.2).toNat) default) * ((a0.getD ((x1021.2.2.2.2.2.2.2).toNat) default).2.2.Hi)))) fun z1229 =>
       .name 15008 ((IntKind.i64.wrap (x1021.2.2.2.2.2.1 + z1229))) fun z1230 =>
       .ix 2 3 rfl <|
       .lit 16000 (3) <|
       .known false <|
       .ret (.next (z1204, z1206, z1216, z1218, z1228, z1230, (IntKind.i64.wrap (x1021.2.2.2.2.2.2.1 + (a1.getD ((x1021.2.2.2.2.2.2.2).toNat) default))), (IntKind.i64.wrap (x1021.2.2.2.2.2.2.2 + 1))))))
      (.ret (.out (x1021.1, x1021.2.1, x1021.2.2.1, x1021.2.2.2.1, x1021.2.2.2.2.1, x1021.2.2.2.2.2.1, x1021.2.2.2.2.2.2.1))))
    (0, 0, 0, 0, 0, 0, 0, 0) [] fun y1126 =>
   .cut 1 (fun (y1232 : Bool) => ⟨[(4, .ptr 0 0), (7, .ptr 1 0), (8, .pure (.int .i64 y1126.2.2.2.2.2.2)), (78, .pure (.bool y1232))], [(0, .box [.pure (.int .i64 0), .pure (.int .i64 0), .pure (.int .i64 0), .pure (.int .i64 0), .pure (.int .i64 0), .pure (.int .i64 0)]), (1, .box [.pure (.int .i64 y1126.1), .pure (.int .i64 y1126.2.1), .pure (.int .i64 y1126.2.2.1), .pure (.int .i64 y1126.2.2.2.1), .pure (.int .i64 y1126.2.2.2.2.1), .pure (.int .i64 y1126.2.2.2.2.2.1)])], [], 2⟩)
    (.br (decide (y1126.2.2.2.2.2.2 < 1))
     (.ret (.out true))
     (.ret (.out (decide (y1126.2.2.2.2.2.2 > 65536))))) fun y1232 =>
   .br y1232
    (.ret (((⟨0, 0⟩ : S_Interval), (⟨0, 0⟩ : S_Interval), (⟨0, 0⟩ : S_Interval)), 0, false))
    (.ret (((⟨y1126.1, y1126.2.1⟩ : S_Interval), (⟨y1126.2.2.1, y1126.2.2.2.1⟩ : S_Interval), (⟨y1126.2.2.2.2.1, y1126.2.2.2.2.2.1⟩ : S_Interval)), y1126.2.2.2.2.2.2, true)))
noncomputable def shape_Combine_C (a0 : (List (S_Interval × S_Interval × S_Interval))) (a1 : (List Int)) : CallS ((S_Interval × S_Interval × S_Interval) × Int × Bool) :=
  mkC [] hd Tryz.func196 (by kernel_rfl) (shape_Combine_T a0 a1) 0 [.pure (encL 6 enc_arr_3_Interval a0), .pure (encL 1 encI_i64 a1)] [] (fun r => .tup [.pure (enc_arr_3_Interval r.1), .pure (.int .i64 r.2.1), .pure (.bool r.2.2)]) (fun _ => []) (by kernel_rfl)
noncomputable def overlap_isRadius_T (a0 : Int) : T Bool :=
  .br (decide (a0 ≥ 0))
   (.ret (decide (a0 ≤ 1048576)))
   (.ret false)
noncomputable def overlap_isRadius_C (a0 : Int) : CallS Bool :=
  mkC [] hd Tryz.func197 (by kernel_rfl) (overlap_isRadius_T a0) 0 [.pure (.int .i64 a0)] [] (fun r => .pure (.bool r)) (fun _ => []) (by kernel_rfl)
noncomputable def overlap_farthest_T (a0 : (List Int)) : T Int :=
  .loop (fun (x5 : (Int × Int)) => ⟨[(3, .pure (.int .i64 x5.1)), (6, .pure (encL 1 encI_i64 a0)), (7, .pure (.int .i64 ((a0.length : Nat) : Int))), (8, .pure (.int .i64 x5.2))], [], [], 0⟩)
   (.exit 0) (fun (y6 : Int) => ⟨[(3, .pure (.int .i64 y6))], [], [], 0⟩)
   (fun x5 => .br (decide (x5.2 < ((a0.length : Nat) : Int)))
     (.grd (0 ≤ x5.2 ∧ x5.2 < ((a0.length : Nat) : Int)) <|
     .ret (.next ((max (max x5.1 (a0.getD ((x5.2).toNat) default)) (IntKind.i64.wrap (0 - (a0.getD ((x5.2).toNat) default)))), (IntKind.i64.wrap (x5.2 + 1)))))
     (.ret (.out x5.1)))
   (0, 0) [] fun y6 =>
  .ret y6
noncomputable def overlap_farthest_C (a0 : (List Int)) : CallS Int :=
  mkC [] hd Tryz.func198 (by kernel_rfl) (overlap_farthest_T a0) 0 [.pure (encL 1 encI_i64 a0)] [] (fun r => .pure (.int .i64 r)) (fun _ => []) (by kernel_rfl)
noncomputable def overlap_Excess_T (a0 : (List Int)) (a1 : (List Int)) (a2 : (List (S_Interval × S_Interval × S_Interval))) (a3 : Int) (a4 : (List (S_Interval × S_Interval × S_Interval))) (a5 : Int) : T (Int × Bool) :=
  .call (shape_Combine_C a2 a0) [] fun y84 =>
  .call (shape_Combine_C a4 a1) [] fun y86 =>
  .cut 1 (fun (y98 : Bool) => ⟨[(3, .pure (.int .i64 a3)), (5, .pure (.int .i64 a5)), (12, .ptr 0 0), (13, .ptr 1 0), (14, .ptr 2 0), (15, .pure (.int .i64 y84.2.1)), (17, .ptr 3 0), (59, .pure (.bool y98))], [(0, .box [.pure (.int .i64 0)]), (1, .box [.ff]), (2, .box [.pure (.int .i64 y84.1.1.Lo), .pure (.int .i64 y84.1.1.Hi), .pure (.int .i64 y84.1.2.1.Lo), .pure (.int .i64 y84.1.2.1.Hi), .pure (.int .i64 y84.1.2.2.Lo), .pure (.int .i64 y84.1.2.2.Hi)]), (3, .box [.pure (.int .i64 y86.1.1.Lo), .pure (.int .i64 y86.1.1.Hi), .pure (.int .i64 y86.1.2.1.Lo), .pure (.int .i64 y86.1.2.1.Hi), .pure (.int .i64 y86.1.2.2.Lo), .pure (.int .i64 y86.1.2.2.Hi)])], [.func 195 [] [.ptr 0 0, .ptr 1 0]], 4⟩)
   (.br (!y84.2.2)
    (.ret (.out true))
    (.br (!y86.2.2)
     (.ret (.out true))
     (.br (y84.2.1 != y86.2.1)
      (.ret (.out true))
      (.call (overlap_isRadius_C a3) [] fun y99 =>
      .br (!y99)
       (.ret (.out true))
       (.call (overlap_isRadius_C a5) [] fun y100 =>
       .ret (.out (!y100))))))) fun y98 =>
  .br y98
   (.ret (0, false))
   (.unroll 4 <|
   .known true <|
   .ix 0 3 rfl <|
   .ix 0 3 rfl <|
   .ix 0 3 rfl <|
   .ix 0 3 rfl <|
   .conv 11018 (cvLit 1 encI_i64 ([(IntKind.i64.wrap (y84.1.1.Lo - y86.1.1.Hi)), (IntKind.i64.wrap (y84.1.1.Hi - y86.1.1.Lo))] : (List Int)) 2) <|
   .call (overlap_farthest_C ([(IntKind.i64.wrap (y84.1.1.Lo - y86.1.1.Hi)), (IntKind.i64.wrap (y84.1.1.Hi - y86.1.1.Lo))] : (List Int))) [] fun y150 =>
   .grd (y84.2.1 ≠ 0) <|
   .br (decide ((IntKind.i64.wrap ((IntKind.i64.wrap ((IntKind.i64.wrap (y150 + y84.2.1)) - 1)).tdiv y84.2.1)) > (IntKind.i64.wrap (a3 + a5))))
    (.ret ((-1), true))
    (.name 15003 ((IntKind.i64.wrap ((IntKind.i64.wrap ((IntKind.i64.wrap ((IntKind.i64.wrap (y150 + y84.2.1)) - 1)).tdiv y84.2.1)) * (IntKind.i64.wrap ((IntKind.i64.wrap ((IntKind.i64.wrap (y150 + y84.2.1)) - 1)).tdiv y84.2.1))))) fun z151 =>
    .name 15004 ((IntKind.i64.wrap ((IntKind.i64.wrap ((IntKind.i64.wrap (a3 + a5)) * (IntKind.i64.wrap (a3 + a5)))) - z151))) fun z152 =>
    .lit 16000 (1) <|
    .known true <|
    .ix 1 3 rfl <|
    .ix 1 3 rfl <|
    .ix 1 3 rfl <|
    .ix 1 3 rfl <|
    .conv 11018 (cvLit 1 encI_i64 ([(IntKind.i64.wrap (y84.1.2.1.Lo - y86.1.2.1.Hi)), (IntKind.i64.wrap (y84.1.2.1.Hi - y86.1.2.1.Lo))] : (List Int)) 2) <|
    .call (overlap_farthest_C ([(IntKind.i64.wrap (y84.1.2.1.Lo - y86.1.2.1.Hi)), (IntKind.i64.wrap (y84.1.2.1.Hi - y86.1.2.1.Lo))] : (List Int))) [] fun y158 =>
    .grd (y84.2.1 ≠ 0) <|
    .br (decide ((IntKind.i64.wrap ((IntKind.i64.wrap ((IntKind.i64.wrap (y158 + y84.2.1)) - 1)).tdiv y84.2.1)) > (IntKind.i64.wrap (a3 + a5))))
     (.ret ((-1), true))
     (.name 15003 ((IntKind.i64.wrap ((IntKind.i64.wrap ((IntKind.i64.wrap ((IntKind.i64.wrap (y158 + y84.2.1)) - 1)).tdiv y84.2.1)) * (IntKind.i64.wrap ((IntKind.i64.wrap ((IntKind.i64.wrap (y158 + y84.2.1)) - 1)).tdiv y84.2.1))))) fun z159 =>
     .name 15004 ((IntKind.i64.wrap (z152 - z159))) fun z160 =>
     .lit 16000 (2) <|
     .known true <|
     .ix 2 3 rfl <|
     .ix 2 3 rfl <|
     .ix 2 3 rfl <|
     .ix 2 3 rfl <|
     .conv 11018 (cvLit 1 encI_i64 ([(IntKind.i64.wrap (y84.1.2.2.Lo - y86.1.2.2.Hi)), (IntKind.i64.wrap (y84.1.2.2.Hi - y86.1.2.2.Lo))] : (List Int)) 2) <|
     .call (overlap_farthest_C ([(IntKind.i64.wrap (y84.1.2.2.Lo - y86.1.2.2.Hi)), (IntKind.i64.wrap (y84.1.2.2.Hi - y86.1.2.2.Lo))] : (List Int))) [] fun y166 =>
     .grd (y84.2.1 ≠ 0) <|
     .br (decide ((IntKind.i64.wrap ((IntKind.i64.wrap ((IntKind.i64.wrap (y166 + y84.2.1)) - 1)).tdiv y84.2.1)) > (IntKind.i64.wrap (a3 + a5))))
      (.ret ((-1), true))
      (.name 15003 ((IntKind.i64.wrap ((IntKind.i64.wrap ((IntKind.i64.wrap ((IntKind.i64.wrap (y166 + y84.2.1)) - 1)).tdiv y84.2.1)) * (IntKind.i64.wrap ((IntKind.i64.wrap ((IntKind.i64.wrap (y166 + y84.2.1)) - 1)).tdiv y84.2.1))))) fun z167 =>
      .name 15004 ((IntKind.i64.wrap (z160 - z167))) fun z168 =>
      .lit 16000 (3) <|
      .known false <|
      .ret (z168, true)))))
noncomputable def overlap_Excess_C (a0 : (List Int)) (a1 : (List Int)) (a2 : (List (S_Interval × S_Interval × S_Interval))) (a3 : Int) (a4 : (List (S_Interval × S_Interval × S_Interval))) (a5 : Int) : CallS (Int × Bool) :=
  mkC [⟨195, guard195⟩] hd Tryz.func144 (by kernel_rfl) (overlap_Excess_T a0 a1 a2 a3 a4 a5) 0 [.pure (encL 1 encI_i64 a0), .pure (encL 1 encI_i64 a1), .pure (encL 6 enc_arr_3_Interval a2), .pure (.int .i64 a3), .pure (encL 6 enc_arr_3_Interval a4), .pure (.int .i64 a5)] [] (fun r => .tup [.pure (.int .i64 r.1), .pure (.bool r.2)]) (fun _ => []) (by kernel_rfl)
noncomputable def overlap_Overlaps_T (a0 : (List Int)) (a1 : (List Int)) (a2 : (List (S_Interval × S_Interval × S_Interval))) (a3 : Int) (a4 : (List (S_Interval × S_Interval × S_Interval))) (a5 : Int) : T Bool :=
  .call (overlap_Excess_C a0 a1 a2 a3 a4 a5) [] fun y2 =>
  .br y2.2
   (.ret (decide (y2.1 ≥ 0)))
   (.ret false)
noncomputable def overlap_Overlaps_C (a0 : (List Int)) (a1 : (List Int)) (a2 : (List (S_Interval × S_Interval × S_Interval))) (a3 : Int) (a4 : (List (S_Interval × S_Interval × S_Interval))) (a5 : Int) : CallS Bool :=
  mkC [⟨143, guard143⟩] hd Tryz.func79 (by kernel_rfl) (overlap_Overlaps_T a0 a1 a2 a3 a4 a5) 0 [.pure (encL 1 encI_i64 a0), .pure (encL 1 encI_i64 a1), .pure (encL 6 enc_arr_3_Interval a2), .pure (.int .i64 a3), .pure (encL 6 enc_arr_3_Interval a4), .pure (.int .i64 a5)] [] (fun r => .pure (.bool r)) (fun _ => []) (by kernel_rfl)
noncomputable def classify_verdict_T (a0 : S_classify_collision) : T S_Verdict :=
  .ret (⟨2, nl, a0.witness⟩ : S_Verdict)
noncomputable def classify_verdict_C (a0 : S_classify_collision) : CallS S_Verdict :=
  mkC [] hd Tryz.func80 (by kernel_rfl) (classify_verdict_T a0) 0 [.iface 131 (.pure (enc_classify_collision a0))] [] (fun r => .pure (enc_Verdict r)) (fun _ => []) (by kernel_rfl)
noncomputable def classify_verdict_1_T (a0 : S_classify_separation) : T S_Verdict :=
  .ret (⟨1, a0.normals, (⟨0, nl, nl⟩ : S_Witness)⟩ : S_Verdict)
noncomputable def classify_verdict_1_C (a0 : S_classify_separation) : CallS S_Verdict :=
  mkC [] hd Tryz.func80 (by kernel_rfl) (classify_verdict_1_T a0) 0 [.iface 133 (.pure (enc_classify_separation a0))] [] (fun r => .pure (enc_Verdict r)) (fun _ => []) (by kernel_rfl)
noncomputable def classify_Box_T (a0 : S_Scene) (a1 : (List S_Interval)) (a2 : (List (Int × Int × Int))) : T S_Verdict :=
  .call (classify_place_C (⟨a0.Robot, a0.Shapes, a0.Skips⟩ : S_Scene) a1) [] fun y2 =>
  .br (!y2.2)
   (.ret (⟨0, nl, (⟨0, nl, nl⟩ : S_Witness)⟩ : S_Verdict))
   (.conv 5003 (cvRep 3 enc_arr_3_int64 49 (((y2.1.pairs.length : Nat) : Int)).toNat (0, 0, 0)) <|
   .grd (0 ≤ ((y2.1.pairs.length : Nat) : Int) ∧ ((y2.1.pairs.length : Nat) : Int) ≤ ((y2.1.pairs.length : Nat) : Int) ∧ ((y2.1.pairs.length : Nat) : Int) ≤ 9223372036854775807 ∧ ((y2.1.pairs.length : Nat) : Int) * 24 ≤ 140737488355328) <|
   .loop (fun (x191 : ((List (Int × Int × Int)) × Bool × Int)) => ⟨[(2, .pure (encL 3 enc_arr_3_int64 a2)), (6, .ptr 0 0), (7, .ptr 4 0), (9, .vec 5), (10, .pure (.bool x191.2.1)), (33, .pure (.int .i64 ((y2.1.pairs.length : Nat) : Int))), (34, .pure (.int .i64 x191.2.2))], [(0, .box [.pure (.int .i64 0), .vec 1, .pure (.int .i64 0), .vec 2, .vec 3]), (1, .nilv), (2, .nilv), (3, .nilv), (4, .box [.pure (encL 3 enc_Shape y2.1.shapes), .pure (encL 2 enc_Pair y2.1.pairs), .pure (encL 1 (encL 6 enc_arr_3_Interval) y2.1.points)]), (5, vecO 3 enc_arr_3_int64 x191.1 49)], [.func 73 [] [.ptr 0 0]], 6⟩)
    (.exit 0) (fun (y238 : ((List (Int × Int × Int)) × Bool)) => ⟨[(6, .ptr 0 0), (9, .vec 4), (10, .pure (.bool y238.2))], [(0, .box [.pure (.int .i64 0), .vec 1, .pure (.int .i64 0), .vec 2, .vec 3]), (1, .nilv), (2, .nilv), (3, .nilv), (4, vecO 3 enc_arr_3_int64 y238.1 49)], [.func 73 [] [.ptr 0 0]], 5⟩)
    (fun x191 => .br (decide (x191.2.2 < ((y2.1.pairs.length : Nat) : Int)))
      (.cut 0 (fun (y269 : ((List (Int × Int × Int)) × Bool)) => ⟨[(2, .pure (encL 3 enc_arr_3_int64 a2)), (6, .ptr 0 0), (7, .ptr 4 0), (9, .vec 5), (10, .pure (.bool y269.2)), (33, .pure (.int .i64 ((y2.1.pairs.length : Nat) : Int))), (34, .pure (.int .i64 x191.2.2))], [(0, .box [.pure (.int .i64 0), .vec 1, .pure (.int .i64 0), .vec 2, .vec 3]), (1, .nilv), (2, .nilv), (3, .nilv), (4, .box [.pure (encL 3 enc_Shape y2.1.shapes), .pure (encL 2 enc_Pair y2.1.pairs), .pure (encL 1 (encL 6 enc_arr_3_Interval) y2.1.points)]), (5, vecO 3 enc_arr_3_int64 y269.1 49)], [.func 73 [] [.ptr 0 0]], 6⟩)
       (.call (body_couple_C (⟨y2.1.shapes, y2.1.pairs, y2.1.points⟩ : S_classify_body) x191.2.2) [] fun y271 =>
       .conv 11010 (cvSlice 3 enc_arr_3_int64 a2 (min x191.2.2 ((a2.length : Nat) : Int)) (min (IntKind.i64.wrap (x191.2.2 + 1)) ((a2.length : Nat) : Int))) <|
       .grd (0 ≤ (min x191.2.2 ((a2.length : Nat) : Int)) ∧ (min x191.2.2 ((a2.length : Nat) : Int)) ≤ (min (IntKind.i64.wrap (x191.2.2 + 1)) ((a2.length : Nat) : Int)) ∧ (min (IntKind.i64.wrap (x191.2.2 + 1)) ((a2.length : Nat) : Int)) ≤ ((a2.length : Nat) : Int)) <|
       .call (normals_Find_C y271.a y271.ra y271.b y271.rb ((a2.drop (((min x191.2.2 ((a2.length : Nat) : Int))).toNat)).take (((min (IntKind.i64.wrap (x191.2.2 + 1)) ((a2.length : Nat) : Int))).toNat - ((min x191.2.2 ((a2.length : Nat) : Int))).toNat))) [] fun y275 =>
       .br y275.2
        (.grd (0 ≤ x191.2.2 ∧ x191.2.2 < ((x191.1.length : Nat) : Int)) <|
        .conv 14004 (cvSet 3 enc_arr_3_int64 x191.1 49 ((x191.2.2).toNat) y275.1) <|
        .grd ((x191.2.2).toNat < x191.1.length ∧ 0 ≤ (x191.2.2).toNat) <|
        .ret (.out ((x191.1.set ((x191.2.2).toNat) y275.1), x191.2.1)))
        (.call (shape_Centers_C y271.a) [] fun y279 =>
        .call (shape_Centers_C y271.b) [] fun y280 =>
        .call (nearest_Search_C y279 y280 (IntKind.i64.wrap (y271.ra + y271.rb)) 64) [] fun y281 =>
        .call (overlap_Overlaps_C y281.Left y281.Right y271.a y271.ra y271.b y271.rb) [] fun y283 =>
        .br y283
         (.call (classify_verdict_C (⟨(⟨x191.2.2, y281.Left, y281.Right⟩ : S_Witness)⟩ : S_classify_collision)) [] fun y284 =>
         .ret (.fin (.fin y284)))
         (.ret (.out (x191.1, false))))) fun y269 =>
      .ret (.next (y269.1, y269.2, (IntKind.i64.wrap (x191.2.2 + 1)))))
      (.ret (.out (x191.1, x191.2.1))))
    ((List.replicate (((y2.1.pairs.length : Nat) : Int)).toNat ((0, 0, 0) : (Int × Int × Int))), true, 0) [] fun y238 =>
   .br (!y238.2)
    (.ret (⟨0, y238.1, (⟨0, nl, nl⟩ : S_Witness)⟩ : S_Verdict))
    (.call (classify_verdict_1_C (⟨y238.1⟩ : S_classify_separation)) [] fun y285 =>
    .ret y285))
noncomputable def classify_Box_C (a0 : S_Scene) (a1 : (List S_Interval)) (a2 : (List (Int × Int × Int))) : CallS S_Verdict :=
  mkC [⟨73, guard73⟩] hd Tryz.func33 (by kernel_rfl) (classify_Box_T a0 a1 a2) 0 [.pure (enc_Scene a0), .pure (encL 2 enc_Interval a1), .pure (encL 3 enc_arr_3_int64 a2)] [] (fun r => .pure (enc_Verdict r)) (fun _ => []) (by kernel_rfl)
abbrev edge_Prove_2_R := RecS Tryz.prog 68 8 (Int × Int × (List (Int × Int × Int)) × (List S_Piece) × Int × (List S_Piece) × Int × Int × (List (Int × Int × Int)) × Int × (List Int) × (List Int) × (List Int) × (List Int) × (List S_Joint) × (List S_Mass) × (List S_Shape) × (List S_Skip) × Int) (Bool × (List S_Piece) × Int × (List S_Piece) × Int × Int × (List (Int × Int × Int)) × Int × (List Int) × (List Int) × (List Int) × (List Int) × (List S_Joint) × (List S_Mass) × (List S_Shape) × (List S_Skip) × Int) (fun a => [.pure (.int .i64 a.1), .pure (.int .i64 a.2.1), .pure (encL 3 enc_arr_3_int64 a.2.2.1), .ptr 0 0, .ptr 2 0, .ptr 3 0, .ptr 4 0, .ptr 5 0, .ptr 6 0, .ptr 7 0]) (fun a => [(0, .box [.vec 1]), (1, vecO 3 enc_Piece a.2.2.2.1 37), (2, .box [.pure (.int .i64 a.2.2.2.2.1), .pure (encL 3 enc_Piece a.2.2.2.2.2.1), .pure (.int .i64 a.2.2.2.2.2.2.1), .pure (.int .i64 a.2.2.2.2.2.2.2.1), .pure (encL 3 enc_arr_3_int64 a.2.2.2.2.2.2.2.2.1), .pure (.int .i64 a.2.2.2.2.2.2.2.2.2.1), .pure (encL 1 encI_i64 a.2.2.2.2.2.2.2.2.2.2.1), .pure (encL 1 encI_i64 a.2.2.2.2.2.2.2.2.2.2.2.1)]), (3, .box [.pure (encL 1 encI_i64 a.2.2.2.2.2.2.2.2.2.2.2.2.1)]), (4, .box [.pure (encL 1 encI_i64 a.2.2.2.2.2.2.2.2.2.2.2.2.2.1)]), (5, .box [.pure (encL 12 enc_Joint a.2.2.2.2.2.2.2.2.2.2.2.2.2.2.1), .pure (encL 5 enc_Mass a.2.2.2.2.2.2.2.2.2.2.2.2.2.2.2.1), .pure (encL 3 enc_Shape a.2.2.2.2.2.2.2.2.2.2.2.2.2.2.2.2.1), .pure (encL 2 enc_Skip a.2.2.2.2.2.2.2.2.2.2.2.2.2.2.2.2.2.1)]), (6, .box [.pure (.int .i64 a.2.2.2.2.2.2.2.2.2.2.2.2.2.2.2.2.2.2)]), (7, .box [.func 68 [] [.ptr 0 0, .ptr 2 0, .ptr 3 0, .ptr 4 0, .ptr 5 0, .ptr 6 0, .ptr 7 0]])]) (fun _ r => .pure (.bool r.1)) (fun _ r => [(0, .box [.vec 8]), (1, .gone), (2, .box [.pure (.int .i64 r.2.2.1), .pure (encL 3 enc_Piece r.2.2.2.1), .pure (.int .i64 r.2.2.2.2.1), .pure (.int .i64 r.2.2.2.2.2.1), .pure (encL 3 enc_arr_3_int64 r.2.2.2.2.2.2.1), .pure (.int .i64 r.2.2.2.2.2.2.2.1), .pure (encL 1 encI_i64 r.2.2.2.2.2.2.2.2.1), .pure (encL 1 encI_i64 r.2.2.2.2.2.2.2.2.2.1)]), (3, .box [.pure (encL 1 encI_i64 r.2.2.2.2.2.2.2.2.2.2.1)]), (4, .box [.pure (encL 1 encI_i64 r.2.2.2.2.2.2.2.2.2.2.2.1)]), (5, .box [.pure (encL 12 enc_Joint r.2.2.2.2.2.2.2.2.2.2.2.2.1), .pure (encL 5 enc_Mass r.2.2.2.2.2.2.2.2.2.2.2.2.2.1), .pure (encL 3 enc_Shape r.2.2.2.2.2.2.2.2.2.2.2.2.2.2.1), .pure (encL 2 enc_Skip r.2.2.2.2.2.2.2.2.2.2.2.2.2.2.2.1)]), (6, .box [.pure (.int .i64 r.2.2.2.2.2.2.2.2.2.2.2.2.2.2.2.2)]), (7, .box [.func 68 [] [.ptr 0 0, .ptr 2 0, .ptr 3 0, .ptr 4 0, .ptr 5 0, .ptr 6 0, .ptr 7 0]]), (8, vecO 3 enc_Piece r.2.1 37)])
noncomputable def edge_Prove_2_T (rec : edge_Prove_2_R) (a0 : Int) (a1 : Int) (a2 : (List (Int × Int × Int))) (a3 : (List S_Piece)) (a4 : Int) (a5 : (List S_Piece)) (a6 : Int) (a7 : Int) (a8 : (List (Int × Int × Int))) (a9 : Int) (a10 : (List Int)) (a11 : (List Int)) (a12 : (List Int)) (a13 : (List Int)) (a14 : (List S_Joint)) (a15 : (List S_Mass)) (a16 : (List S_Shape)) (a17 : (List S_Skip)) (a18 : Int) : T (Bool × (List S_Piece) × Int × (List S_Piece) × Int × Int × (List (Int × Int × Int)) × Int × (List Int) × (List Int) × (List Int) × (List Int) × (List S_Joint) × (List S_Mass) × (List S_Shape) × (List S_Skip) × Int) :=
  .br (decide (((a3.length : Nat) : Int) ≥ 4096))
   (.ret (false, a3, 0, nl, a0, a1, nl, 0, nl, nl, a12, a13, a14, a15, a16, a17, a18))
   (.call (config_Piece_C a12 a13 a0 a1) [] fun y6 =>
   .call (classify_Box_C (⟨(⟨a14, a15⟩ : S_Robot), a16, a17⟩ : S_Scene) y6.1 a2) [] fun y8 =>
   .br (y8.Kind == 1)
    (.conv 8006 (cvLit 3 enc_Piece ([(⟨a0, a1, y8.Normals⟩ : S_Piece)] : (List S_Piece)) 37) <|
    .conv 8007 (cvApp 3 enc_Piece a3 ([(⟨a0, a1, y8.Normals⟩ : S_Piece)] : (List S_Piece)) 37) <|
    .grd ((a3.length + ([(⟨a0, a1, y8.Normals⟩ : S_Piece)] : (List S_Piece)).length) * 40 ≤ 140737488355328 ∧ (a3.length + ([(⟨a0, a1, y8.Normals⟩ : S_Piece)] : (List S_Piece)).length) ≤ maxLen) <|
    .ret (true, (a3 ++ ([(⟨a0, a1, y8.Normals⟩ : S_Piece)] : (List S_Piece))), a4, a5, a6, a7, a8, a9, a10, a11, a12, a13, a14, a15, a16, a17, a18))
    (.br (y8.Kind == 2)
     (.ret (false, a3, 2, nl, a0, a1, nl, y8.Witness.Pair, y8.Witness.Left, y8.Witness.Right, a12, a13, a14, a15, a16, a17, a18))
     (.br (decide (a0 < a18))
      (.call (rec.C ((IntKind.i64.wrap (a0 + 1)), (IntKind.i64.wrap (2 * a1)), y8.Normals, a3, a4, a5, a6, a7, a8, a9, a10, a11, a12, a13, a14, a15, a16, a17, a18)) [(0, 0), (1, 1), (2, 2), (3, 3), (4, 4), (5, 5), (6, 6), (7, 7)] fun y11 =>
      .br y11.1
       (.call (rec.C ((IntKind.i64.wrap (a0 + 1)), (IntKind.i64.wrap ((IntKind.i64.wrap (2 * a1)) + 1)), y8.Normals, y11.2.1, y11.2.2.1, y11.2.2.2.1, y11.2.2.2.2.1, y11.2.2.2.2.2.1, y11.2.2.2.2.2.2.1, y11.2.2.2.2.2.2.2.1, y11.2.2.2.2.2.2.2.2.1, y11.2.2.2.2.2.2.2.2.2.1, y11.2.2.2.2.2.2.2.2.2.2.1, y11.2.2.2.2.2.2.2.2.2.2.2.1, y11.2.2.2.2.2.2.2.2.2.2.2.2.1, y11.2.2.2.2.2.2.2.2.2.2.2.2.2.1, y11.2.2.2.2.2.2.2.2.2.2.2.2.2.2.1, y11.2.2.2.2.2.2.2.2.2.2.2.2.2.2.2.1, y11.2.2.2.2.2.2.2.2.2.2.2.2.2.2.2.2)) [(0, 0), (1, 2824), (2, 2), (3, 3), (4, 4), (5, 5), (6, 6), (7, 7)] fun y12 =>
       .ret (y12.1, y12.2.1, y12.2.2.1, y12.2.2.2.1, y12.2.2.2.2.1, y12.2.2.2.2.2.1, y12.2.2.2.2.2.2.1, y12.2.2.2.2.2.2.2.1, y12.2.2.2.2.2.2.2.2.1, y12.2.2.2.2.2.2.2.2.2.1, y12.2.2.2.2.2.2.2.2.2.2.1, y12.2.2.2.2.2.2.2.2.2.2.2.1, y12.2.2.2.2.2.2.2.2.2.2.2.2.1, y12.2.2.2.2.2.2.2.2.2.2.2.2.2.1, y12.2.2.2.2.2.2.2.2.2.2.2.2.2.2.1, y12.2.2.2.2.2.2.2.2.2.2.2.2.2.2.2.1, y12.2.2.2.2.2.2.2.2.2.2.2.2.2.2.2.2))
       (.ret (false, y11.2.1, y11.2.2.1, y11.2.2.2.1, y11.2.2.2.2.1, y11.2.2.2.2.2.1, y11.2.2.2.2.2.2.1, y11.2.2.2.2.2.2.2.1, y11.2.2.2.2.2.2.2.2.1, y11.2.2.2.2.2.2.2.2.2.1, y11.2.2.2.2.2.2.2.2.2.2.1, y11.2.2.2.2.2.2.2.2.2.2.2.1, y11.2.2.2.2.2.2.2.2.2.2.2.2.1, y11.2.2.2.2.2.2.2.2.2.2.2.2.2.1, y11.2.2.2.2.2.2.2.2.2.2.2.2.2.2.1, y11.2.2.2.2.2.2.2.2.2.2.2.2.2.2.2.1, y11.2.2.2.2.2.2.2.2.2.2.2.2.2.2.2.2)))
      (.ret (false, a3, 0, nl, a0, a1, nl, 0, nl, nl, a12, a13, a14, a15, a16, a17, a18)))))
noncomputable def edge_Prove_2_S : edge_Prove_2_R → edge_Prove_2_R := RecS.next [] hd Tryz.func68 (by kernel_rfl) (fun rec a => edge_Prove_2_T rec a.1 a.2.1 a.2.2.1 a.2.2.2.1 a.2.2.2.2.1 a.2.2.2.2.2.1 a.2.2.2.2.2.2.1 a.2.2.2.2.2.2.2.1 a.2.2.2.2.2.2.2.2.1 a.2.2.2.2.2.2.2.2.2.1 a.2.2.2.2.2.2.2.2.2.2.1 a.2.2.2.2.2.2.2.2.2.2.2.1 a.2.2.2.2.2.2.2.2.2.2.2.2.1 a.2.2.2.2.2.2.2.2.2.2.2.2.2.1 a.2.2.2.2.2.2.2.2.2.2.2.2.2.2.1 a.2.2.2.2.2.2.2.2.2.2.2.2.2.2.2.1 a.2.2.2.2.2.2.2.2.2.2.2.2.2.2.2.2.1 a.2.2.2.2.2.2.2.2.2.2.2.2.2.2.2.2.2.1 a.2.2.2.2.2.2.2.2.2.2.2.2.2.2.2.2.2.2) (fun rec a => by kernel_rfl)
noncomputable def edge_Prove_2_C (a0 : Int) (a1 : Int) (a2 : (List (Int × Int × Int))) (a3 : (List S_Piece)) (a4 : Int) (a5 : (List S_Piece)) (a6 : Int) (a7 : Int) (a8 : (List (Int × Int × Int))) (a9 : Int) (a10 : (List Int)) (a11 : (List Int)) (a12 : (List Int)) (a13 : (List Int)) (a14 : (List S_Joint)) (a15 : (List S_Mass)) (a16 : (List S_Shape)) (a17 : (List S_Skip)) (a18 : Int) : CallS (Bool × (List S_Piece) × Int × (List S_Piece) × Int × Int × (List (Int × Int × Int)) × Int × (List Int) × (List Int) × (List Int) × (List Int) × (List S_Joint) × (List S_Mass) × (List S_Shape) × (List S_Skip) × Int) := (RecS.fix edge_Prove_2_S NN).C (a0, a1, a2, a3, a4, a5, a6, a7, a8, a9, a10, a11, a12, a13, a14, a15, a16, a17, a18)
noncomputable def edge_Prove_T (a0 : S_Scene) (a1 : (List Int)) (a2 : (List Int)) (a3 : Int) : T S_EdgeResult :=
  .unroll 1000 <|
  .cut 2 (fun (y17 : Bool) => ⟨[(4, .ptr 0 0), (5, .ptr 1 0), (6, .ptr 2 0), (7, .ptr 3 0), (8, .ptr 4 0), (28, .pure (.bool y17))], [(0, .box [.pure (encL 12 enc_Joint a0.Robot.Joints), .pure (encL 5 enc_Mass a0.Robot.Masses), .pure (encL 3 enc_Shape a0.Shapes), .pure (encL 2 enc_Skip a0.Skips)]), (1, .box [.pure (encL 1 encI_i64 a1)]), (2, .box [.pure (encL 1 encI_i64 a2)]), (3, .box [.pure (.int .i64 a3)]), (4, .box [.pure (.int .i64 0), .pure (.lst 0 0 fun _ => .unk), .pure (.int .i64 0), .pure (.int .i64 0), .pure (.lst 0 0 fun _ => .unk), .pure (.int .i64 0), .pure (.lst 0 0 fun _ => .unk), .pure (.lst 0 0 fun _ => .unk)])], [.func 65 [] [.ptr 4 0]], 5⟩)
   (.call (scene_Check_C (⟨a0.Robot, a0.Shapes, a0.Skips⟩ : S_Scene)) [] fun y18 =>
   .br (y18 != 0)
    (.ret (.out true))
    (.call (config_Inside_C a0.Robot a1) [] fun y19 =>
    .br (!y19)
     (.ret (.out true))
     (.call (config_Inside_C a0.Robot a2) [] fun y20 =>
     .ret (.out (!y20))))) fun y17 =>
  .br y17
   (.ret (⟨0, nl, (⟨0, 0, nl⟩ : S_Piece), (⟨0, nl, nl⟩ : S_Witness)⟩ : S_EdgeResult))
   (.cut 1 (fun (y22 : Bool) => ⟨[(4, .ptr 0 0), (5, .ptr 1 0), (6, .ptr 2 0), (7, .ptr 3 0), (8, .ptr 4 0), (35, .pure (.bool y22))], [(0, .box [.pure (encL 12 enc_Joint a0.Robot.Joints), .pure (encL 5 enc_Mass a0.Robot.Masses), .pure (encL 3 enc_Shape a0.Shapes), .pure (encL 2 enc_Skip a0.Skips)]), (1, .box [.pure (encL 1 encI_i64 a1)]), (2, .box [.pure (encL 1 encI_i64 a2)]), (3, .box [.pure (.int .i64 a3)]), (4, .box [.pure (.int .i64 0), .pure (.lst 0 0 fun _ => .unk), .pure (.int .i64 0), .pure (.int .i64 0), .pure (.lst 0 0 fun _ => .unk), .pure (.int .i64 0), .pure (.lst 0 0 fun _ => .unk), .pure (.lst 0 0 fun _ => .unk)])], [.func 65 [] [.ptr 4 0]], 5⟩)
    (.br (decide (a3 < 0))
     (.ret (.out true))
     (.ret (.out (decide (a3 > 20))))) fun y22 =>
   .br y22
    (.ret (⟨0, nl, (⟨0, 0, nl⟩ : S_Piece), (⟨0, nl, nl⟩ : S_Witness)⟩ : S_EdgeResult))
    (.cut 3 (fun (y27 : (Int × (List S_Piece) × Int × Int × (List (Int × Int × Int)) × Int × (List Int) × (List Int))) => ⟨[(8, .ptr 0 0)], [(0, .box [.pure (.int .i64 y27.1), .pure (encL 3 enc_Piece y27.2.1), .pure (.int .i64 y27.2.2.1), .pure (.int .i64 y27.2.2.2.1), .pure (encL 3 enc_arr_3_int64 y27.2.2.2.2.1), .pure (.int .i64 y27.2.2.2.2.2.1), .pure (encL 1 encI_i64 y27.2.2.2.2.2.2.1), .pure (encL 1 encI_i64 y27.2.2.2.2.2.2.2)])], [.func 65 [] [.ptr 0 0]], 1⟩)
     (.call (edge_Prove_2_C 0 0 nl nl 0 nl 0 0 nl 0 nl nl a1 a2 a0.Robot.Joints a0.Robot.Masses a0.Shapes a0.Skips a3) [(0, 5), (1, 6), (2, 4), (3, 1), (4, 2), (5, 0), (6, 3), (7, 69)] fun y29 =>
     .br y29.1
      (.ret (.out (1, y29.2.1, 0, 0, nl, 0, nl, nl)))
      (.ret (.out (y29.2.2.1, y29.2.2.2.1, y29.2.2.2.2.1, y29.2.2.2.2.2.1, y29.2.2.2.2.2.2.1, y29.2.2.2.2.2.2.2.1, y29.2.2.2.2.2.2.2.2.1, y29.2.2.2.2.2.2.2.2.2.1)))) fun y27 =>
    .ret (⟨y27.1, y27.2.1, (⟨y27.2.2.1, y27.2.2.2.1, y27.2.2.2.2.1⟩ : S_Piece), (⟨y27.2.2.2.2.2.1, y27.2.2.2.2.2.2.1, y27.2.2.2.2.2.2.2⟩ : S_Witness)⟩ : S_EdgeResult)))
noncomputable def edge_Prove_C (a0 : S_Scene) (a1 : (List Int)) (a2 : (List Int)) (a3 : Int) : CallS S_EdgeResult :=
  mkC [⟨65, guard65⟩] hd Tryz.func31 (by kernel_rfl) (edge_Prove_T a0 a1 a2 a3) 0 [.pure (enc_Scene a0), .pure (encL 1 encI_i64 a1), .pure (encL 1 encI_i64 a2), .pure (.int .i64 a3)] [] (fun r => .pure (enc_EdgeResult r)) (fun _ => []) (by kernel_rfl)
noncomputable def ref6_Near_T (a0 : (Int × Int × Int)) (a1 : Int) : T Bool :=
  .unroll 4 <|
  .known true <|
  .cut 1 (fun (y16 : Bool) => ⟨[(1, .pure (.int .i64 a1)), (2, .ptr 0 0), (5, .pure (.int .i64 0)), (22, .pure (.bool y16))], [(0, .box [.pure (.int .i64 a0.1), .pure (.int .i64 a0.2.1), .pure (.int .i64 a0.2.2)])], [], 1⟩)
   (.ix 0 3 rfl <|
   .br (decide (a0.1 < (IntKind.i64.wrap (0 - a1))))
    (.ret (.out true))
    (.ix 0 3 rfl <|
    .ret (.out (decide (a0.1 > a1))))) fun y16 =>
  .br y16
   (.ret false)
   (.lit 3001 (1) <|
   .known true <|
   .cut 1 (fun (y18 : Bool) => ⟨[(1, .pure (.int .i64 a1)), (2, .ptr 0 0), (5, .pure (.int .i64 1)), (22, .pure (.bool y18))], [(0, .box [.pure (.int .i64 a0.1), .pure (.int .i64 a0.2.1), .pure (.int .i64 a0.2.2)])], [], 1⟩)
    (.ix 1 3 rfl <|
    .br (decide (a0.2.1 < (IntKind.i64.wrap (0 - a1))))
     (.ret (.out true))
     (.ix 1 3 rfl <|
     .ret (.out (decide (a0.2.1 > a1))))) fun y18 =>
   .br y18
    (.ret false)
    (.lit 3001 (2) <|
    .known true <|
    .cut 1 (fun (y20 : Bool) => ⟨[(1, .pure (.int .i64 a1)), (2, .ptr 0 0), (5, .pure (.int .i64 2)), (22, .pure (.bool y20))], [(0, .box [.pure (.int .i64 a0.1), .pure (.int .i64 a0.2.1), .pure (.int .i64 a0.2.2)])], [], 1⟩)
     (.ix 2 3 rfl <|
     .br (decide (a0.2.2 < (IntKind.i64.wrap (0 - a1))))
      (.ret (.out true))
      (.ix 2 3 rfl <|
      .ret (.out (decide (a0.2.2 > a1))))) fun y20 =>
    .br y20
     (.ret false)
     (.lit 3001 (3) <|
     .known false <|
     .ret true)))
noncomputable def ref6_Near_C (a0 : (Int × Int × Int)) (a1 : Int) : CallS Bool :=
  mkC [] hd Tryz.func130 (by kernel_rfl) (ref6_Near_T a0 a1) 0 [.pure (enc_arr_3_int64 a0), .pure (.int .i64 a1)] [] (fun r => .pure (.bool r)) (fun _ => []) (by kernel_rfl)
noncomputable def ref10_small_T (a0 : (List Int)) : T Bool :=
  .loop (fun (x13 : Int) => ⟨[(0, .pure (encL 1 encI_i64 a0)), (3, .pure (.int .i64 x13))], [], [], 0⟩)
   (.exit 0) (fun (_ : U0) => ⟨[], [], [], 0⟩)
   (fun x13 => .br (decide (x13 < ((a0.length : Nat) : Int)))
     (.cut 1 (fun (y18 : Bool) => ⟨[(0, .pure (encL 1 encI_i64 a0)), (3, .pure (.int .i64 x13)), (21, .pure (.bool y18))], [], [], 0⟩)
      (.grd (0 ≤ x13 ∧ x13 < ((a0.length : Nat) : Int)) <|
      .br (decide ((a0.getD ((x13).toNat) default) < (-2147483648)))
       (.ret (.out true))
       (.grd (0 ≤ x13 ∧ x13 < ((a0.length : Nat) : Int)) <|
       .ret (.out (decide ((a0.getD ((x13).toNat) default) > 2147483648))))) fun y18 =>
     .br y18
      (.ret (.fin false))
      (.ret (.next (IntKind.i64.wrap (x13 + 1)))))
     (.ret (.out .u)))
   0 [] fun _ =>
  .ret true
noncomputable def ref10_small_C (a0 : (List Int)) : CallS Bool :=
  mkC [] hd Tryz.func81 (by kernel_rfl) (ref10_small_T a0) 0 [.pure (encL 1 encI_i64 a0)] [] (fun r => .pure (.bool r)) (fun _ => []) (by kernel_rfl)
noncomputable def ref1_Ceil_T (a0 : Int) (a1 : Int) : T Int :=
  .grd (a1 ≠ 0) <|
  .cut 0 (fun (y1 : Int) => ⟨[(5, .pure (.int .i64 y1))], [], [], 0⟩)
   (.grd (a1 ≠ 0) <|
   .br (decide ((a0.tmod a1) > 0))
    (.ret (.out (IntKind.i64.wrap ((IntKind.i64.wrap (a0.tdiv a1)) + 1))))
    (.ret (.out (IntKind.i64.wrap (a0.tdiv a1))))) fun y1 =>
  .ret y1
noncomputable def ref1_Ceil_C (a0 : Int) (a1 : Int) : CallS Int :=
  mkC [] hd Tryz.func100 (by kernel_rfl) (ref1_Ceil_T a0 a1) 0 [.pure (.int .i64 a0), .pure (.int .i64 a1)] [] (fun r => .pure (.int .i64 r)) (fun _ => []) (by kernel_rfl)
open Go.Proofs
noncomputable def ref10_reached_T (a0 : (S_Interval × S_Interval × S_Interval)) : T Bool :=
  .unroll 4 <|
  .known true <|
  .cut 1 (fun (y16 : Bool) => ⟨[(1, .ptr 0 0), (3, .pure (.int .i64 0)), (30, .pure (.bool y16))], [(0, .box [.pure (.int .i64 a0.1.Lo), .pure (.int .i64 a0.1.Hi), .pure (.int .i64 a0.2.1.Lo), .pure (.int .i64 a0.2.1.Hi), .pure (.int .i64 a0.2.2.Lo), .pure (.int .i64 a0.2.2.Hi)])], [], 1⟩)
   (.ix 0 3 rfl <|
   .br (decide (a0.1.Lo < (-268435456)))
    (.ret (.out true))
    (.ix 0 3 rfl <|
    .ix 0 3 rfl <|
    .br (decide (a0.1.Lo > a0.1.Hi))
     (.ret (.out true))
     (.ix 0 3 rfl <|
     .ret (.out (decide (a0.1.Hi > 268435456)))))) fun y16 =>
  .br y16
   (.ret false)
   (.lit 3001 (1) <|
   .known true <|
   .cut 1 (fun (y18 : Bool) => ⟨[(1, .ptr 0 0), (3, .pure (.int .i64 1)), (30, .pure (.bool y18))], [(0, .box [.pure (.int .i64 a0.1.Lo), .pure (.int .i64 a0.1.Hi), .pure (.int .i64 a0.2.1.Lo), .pure (.int .i64 a0.2.1.Hi), .pure (.int .i64 a0.2.2.Lo), .pure (.int .i64 a0.2.2.Hi)])], [], 1⟩)
    (.ix 1 3 rfl <|
    .br (decide (a0.2.1.Lo < (-268435456)))
     (.ret (.out true))
     (.ix 1 3 rfl <|
     .ix 1 3 rfl <|
     .br (decide (a0.2.1.Lo > a0.2.1.Hi))
      (.ret (.out true))
      (.ix 1 3 rfl <|
      .ret (.out (decide (a0.2.1.Hi > 268435456)))))) fun y18 =>
   .br y18
    (.ret false)
    (.lit 3001 (2) <|
    .known true <|
    .cut 1 (fun (y20 : Bool) => ⟨[(1, .ptr 0 0), (3, .pure (.int .i64 2)), (30, .pure (.bool y20))], [(0, .box [.pure (.int .i64 a0.1.Lo), .pure (.int .i64 a0.1.Hi), .pure (.int .i64 a0.2.1.Lo), .pure (.int .i64 a0.2.1.Hi), .pure (.int .i64 a0.2.2.Lo), .pure (.int .i64 a0.2.2.Hi)])], [], 1⟩)
     (.ix 2 3 rfl <|
     .br (decide (a0.2.2.Lo < (-268435456)))
      (.ret (.out true))
      (.ix 2 3 rfl <|
      .ix 2 3 rfl <|
      .br (decide (a0.2.2.Lo > a0.2.2.Hi))
       (.ret (.out true))
       (.ix 2 3 rfl <|
       .ret (.out (decide (a0.2.2.Hi > 268435456)))))) fun y20 =>
    .br y20
     (.ret false)
     (.lit 3001 (3) <|
     .known false <|
     .ret true)))
noncomputable def ref10_reached_C (a0 : (S_Interval × S_Interval × S_Interval)) : CallS Bool :=
  mkC [] hd Tryz.func210 (by kernel_rfl) (ref10_reached_T a0) 0 [.pure (enc_arr_3_Interval a0)] [] (fun r => .pure (.bool r)) (fun _ => []) (by kernel_rfl)
noncomputable def ref10_Placed_T (a0 : (List (S_Interval × S_Interval × S_Interval))) : T Bool :=
  .loop (fun (x29 : Int) => ⟨[(0, .pure (encL 6 enc_arr_3_Interval a0)), (3, .pure (.int .i64 x29))], [], [], 0⟩)
   (.exit 0) (fun (_ : U0) => ⟨[(0, .pure (encL 6 enc_arr_3_Interval a0))], [], [], 0⟩)
   (fun x29 => .cut 1 (fun (y38 : Bool) => ⟨[(0, .pure (encL 6 enc_arr_3_Interval a0)), (3, .pure (.int .i64 x29)), (11, .pure (.bool y38))], [], [], 0⟩)
     (.br (decide (x29 < ((a0.length : Nat) : Int)))
      (.ret (.out (decide (x29 ≤ 8))))
      (.ret (.out false))) fun y38 =>
    .br y38
     (.grd (0 ≤ x29 ∧ x29 < ((a0.length : Nat) : Int)) <|
     .call (ref10_reached_C (a0.getD ((x29).toNat) default)) [] fun y42 =>
     .br (!y42)
      (.ret (.fin false))
      (.ret (.next (IntKind.i64.wrap (x29 + 1)))))
     (.ret (.out .u)))
   0 [] fun _ =>
  .br (decide (((a0.length : Nat) : Int) ≥ 1))
   (.ret (decide (((a0.length : Nat) : Int) ≤ 8)))
   (.ret false)
noncomputable def ref10_Placed_C (a0 : (List (S_Interval × S_Interval × S_Interval))) : CallS Bool :=
  mkC [] hd Tryz.func160 (by kernel_rfl) (ref10_Placed_T a0) 0 [.pure (encL 6 enc_arr_3_Interval a0)] [] (fun r => .pure (.bool r)) (fun _ => []) (by kernel_rfl)
noncomputable def ref14_radius_T (a0 : Int) : T Bool :=
  .br (decide (a0 ≥ 0))
   (.ret (decide (a0 ≤ 1048576)))
   (.ret false)
noncomputable def ref14_radius_C (a0 : Int) : CallS Bool :=
  mkC [] hd Tryz.func206 (by kernel_rfl) (ref14_radius_T a0) 0 [.pure (.int .i64 a0)] [] (fun r => .pure (.bool r)) (fun _ => []) (by kernel_rfl)
noncomputable def ref10_Usable_T (a0 : (Int × Int × Int)) : T Bool :=
  .br (!((a0.1 == 0) && ((a0.2.1 == 0) && ((a0.2.2 == 0) && true))))
   (.call (ref6_Near_C a0 16384) [] fun y1 =>
   .ret y1)
   (.ret false)
noncomputable def ref10_Usable_C (a0 : (Int × Int × Int)) : CallS Bool :=
  mkC [] hd Tryz.func106 (by kernel_rfl) (ref10_Usable_T a0) 0 [.pure (enc_arr_3_int64 a0)] [] (fun r => .pure (.bool r)) (fun _ => []) (by kernel_rfl)
noncomputable def ref1_Root_T (a0 : Int) : T Int :=
  .br (decide (a0 < 1))
   (.ret 0)
   (.loop (fun (x5 : (Int × Int)) => ⟨[(0, .pure (.int .i64 a0)), (3, .pure (.int .i64 x5.1)), (4, .pure (.int .i64 x5.2))], [], [], 0⟩)
    (.exit 0) (fun (y6 : Int) => ⟨[(3, .pure (.int .i64 y6))], [], [], 0⟩)
    (fun x5 => .br (decide ((IntKind.i64.wrap (x5.2 - x5.1)) > 1))
      (.ok ((2 : Int) ≠ 0) (by decide) <|
      .grd ((IntKind.i64.wrap (x5.1 + (IntKind.i64.wrap ((IntKind.i64.wrap (x5.2 - x5.1)).tdiv 2)))) ≠ 0) <|
      .br (decide ((IntKind.i64.wrap (x5.1 + (IntKind.i64.wrap ((IntKind.i64.wrap (x5.2 - x5.1)).tdiv 2)))) ≤ (IntKind.i64.wrap (a0.tdiv (IntKind.i64.wrap (x5.1 + (IntKind.i64.wrap ((IntKind.i64.wrap (x5.2 - x5.1)).tdiv 2))))))))
       (.ret (.next ((IntKind.i64.wrap (x5.1 + (IntKind.i64.wrap ((IntKind.i64.wrap (x5.2 - x5.1)).tdiv 2)))), x5.2)))
       (.ret (.next (x5.1, (IntKind.i64.wrap (x5.1 + (IntKind.i64.wrap ((IntKind.i64.wrap (x5.2 - x5.1)).tdiv 2))))))))
      (.ret (.out x5.1)))
    (1, 4294967296) [] fun y6 =>
   .ret y6)
noncomputable def ref1_Root_C (a0 : Int) : CallS Int :=
  mkC [] hd Tryz.func245 (by kernel_rfl) (ref1_Root_T a0) 0 [.pure (.int .i64 a0)] [] (fun r => .pure (.int .i64 r)) (fun _ => []) (by kernel_rfl)
set_option maxHeartbeats 8000000 in
set_option maxRecDepth 20000 in
noncomputable def ref10_Combine_T (a0 : (List (S_Interval × S_Interval × S_Interval))) (a1 : (List Int)) : T ((S_Interval × S_Interval × S_Interval) × Int × Bool) :=
  .cut 2 (fun (y447 : Bool) => ⟨[(0, .pure (encL 6 enc_arr_3_Interval a0)), (1, .pure (encL 1 encI_i64 a1)), (4, .ptr 0 0), (21, .pure (.bool y447))], [(0, .box [.pure (.int .i64 0), .pure (.int .i64 0), .pure (.int .i64 0), .pure (.int .i64 0), .pure (.int .i64 0), .pure (.int .i64 0)])], [], 1⟩)
   (.call (ref10_Placed_C a0) [] fun y448 =>
   .br (!y448)
    (.ret (.out true))
    (.ret (.out (((a1.length : Nat) : Int) != ((a0.length : Nat) : Int))))) fun y447 =>
  .br y447
   (.ret (((⟨0, 0⟩ : S_Interval), (⟨0, 0⟩ : S_Interval), (⟨0, 0⟩ : S_Interval)), 0, false))
   (.loop (fun (x469 : (Int × Int)) => ⟨[(0, .pure (encL 6 enc_arr_3_Interval a0)), (1, .pure (encL 1 encI_i64 a1)), (4, .ptr 0 0), (7, .pure (.int .i64 x469.1)), (8, .pure (.int .i64 x469.2))], [(0, .box [.pure (.int .i64 0), .pure (.int .i64 0), .pure (.int .i64 0), .pure (.int .i64 0), .pure (.int .i64 0), .pure (.int .i64 0)])], [], 1⟩)
    (.exit 0) (fun (y474 : Int) => ⟨[(0, .pure (encL 6 enc_arr_3_Interval a0)), (1, .pure (encL 1 encI_i64 a1)), (4, .ptr 0 0), (7, .pure (.int .i64 y474))], [(0, .box [.pure (.int .i64 0), .pure (.int .i64 0), .pure (.int .i64 0), .pure (.int .i64 0), .pure (.int .i64 0), .pure (.int .i64 0)])], [], 1⟩)
    (fun x469 => .br (decide (x469.2 < ((a1.length : Nat) : Int)))
      (.cut 2 (fun (y478 : Bool) => ⟨[(0, .pure (encL 6 enc_arr_3_Interval a0)), (1, .pure (encL 1 encI_i64 a1)), (4, .ptr 0 0), (7, .pure (.int .i64 x469.1)), (8, .pure (.int .i64 x469.2)), (42, .pure (.bool y478))], [(0, .box [.pure (.int .i64 0), .pure (.int .i64 0), .pure (.int .i64 0), .pure (.int .i64 0), .pure (.int .i64 0), .pure (.int .i64 0)])], [], 1⟩)
       (.grd (0 ≤ x469.2 ∧ x469.2 < ((a1.length : Nat) : Int)) <|
       .br (decide ((a1.getD ((x469.2).toNat) default) < 0))
        (.ret (.out true))
        (.grd (0 ≤ x469.2 ∧ x469.2 < ((a1.length : Nat) : Int)) <|
        .ret (.out (decide ((a1.getD ((x469.2).toNat) default) > (IntKind.i64.wrap (65536 - x469.1))))))) fun y478 =>
      .br y478
       (.ret (.fin (((⟨0, 0⟩ : S_Interval), (⟨0, 0⟩ : S_Interval), (⟨0, 0⟩ : S_Interval)), 0, false)))
       (.grd (0 ≤ x469.2 ∧ x469.2 < ((a1.length : Nat) : Int)) <|
       .ret (.next ((IntKind.i64.wrap (x469.1 + (a1.getD ((x469.2).toNat) default))), (IntKind.i64.wrap (x469.2 + 1))))))
      (.ret (.out x469.1)))
    (0, 0) [] fun y474 =>
   .br (decide (y474 < 1))
    (.ret (((⟨0, 0⟩ : S_Interval), (⟨0, 0⟩ : S_Interval), (⟨0, 0⟩ : S_Interval)), 0, false))
    (.loop (fun (x883 : (Int × Int × Int × Int × Int × Int × Int)) => ⟨[(0, .pure (encL 6 enc_arr_3_Interval a0)), (1, .pure (encL 1 encI_i64 a1)), (4, .ptr 0 0), (7, .pure (.int .i64 y474)), (9, .ptr 1 0), (10, .pure (.int .i64 x883.2.2.2.2.2.2))], [(0, .box [.pure (.int .i64 0), .pure (.int .i64 0), .pure (.int .i64 0), .pure (.int .i64 0), .pure (.int .i64 0), .pure (.int .i64 0)]), (1, .box [.pure (.int .i64 x883.1), .pure (.int .i64 x883.2.1), .pure (.int .i64 x883.2.2.1), .pure (.int .i64 x883.2.2.2.1), .pure (.int .i64 x883.2.2.2.2.1), .pure (.int .i64 x883.2.2.2.2.2.1)])], [], 2⟩)
     (.exit 2) (fun (y984 : (Int × Int × Int × Int × Int × Int)) => ⟨[(4, .ptr 0 0), (7, .pure (.int .i64 y474)), (9, .ptr 1 0)], [(0, .box [.pure (.int .i64 0), .pure (.int .i64 0), .pure (.int .i64 0), .pure (.int .i64 0), .pure (.int .i64 0), .pure (.int .i64 0)]), (1, .box [.pure (.int .i64 y984.1), .pure (.int .i64 y984.2.1), .pure (.int .i64 y984.2.2.1), .pure (.int .i64 y984.2.2.2.1), .pure (.int .i64 y984.2.2.2.2.1), .pure (.int .i64 y984.2.2.2.2.2)])], [], 2⟩)
     (fun x883 => .br (decide (x883.2.2.2.2.2.2 < ((a0.length : Nat) : Int)))
       (.unroll 4 <|
       .known true <|
       .ix 0 3 rfl <|
       .grd (0 ≤ x883.2.2.2.2.2.2 ∧ x883.2.2.2.2.2.2 < ((a1.length : Nat) : Int)) <|
       .grd (0 ≤ x883.2.2.2.2.2.2 ∧ x883.2.2.2.2.2.2 < ((a0.length : Nat) : Int)) <|
       .ix 0 3 rfl <|
       .name 19015 ((IntKind.i64.wrap ((a1.getD ((x883.2.2.2.2.2.2).toNat) default) * ((a0.getD ((x883.2.2.2.2.2.2).toNat) default).1.Lo)))) fun z1057 =>
       .name 19016 ((IntKind.i64.wrap (x883.1 + z1057))) fun z1058 =>
       .ix 0 3 rfl <|
       .ix 0 3 rfl <|
       .grd (0 ≤ x883.2.2.2.2.2.2 ∧ x883.2.2.2.2.2.2 < ((a1.length : Nat) : Int)) <|
       .grd (0 ≤ x883.2.2.2.2.2.2 ∧ x883.2.2.2.2.2.2 < ((a0.length : Nat) : Int)) <|
       .ix 0 3 rfl <|
       .name 20015 ((IntKind.i64.wrap ((a1.getD ((x883.2.2.2.2.2.2).toNat) default) * ((a0.getD ((x883.2.2.2.2.2.2).toNat) default).1.Hi)))) fun z1059 =>
       .name 20016 ((IntKind.i64.wrap (x883.2.1 + z1059))) fun z1060 =>
       .ix 0 3 rfl <|
       .lit 18001 (1) <|
       .known true <|
       .ix 1 3 rfl <|
       .grd (0 ≤ x883.2.2.2.2.2.2 ∧ x883.2.2.2.2.2.2 < ((a1.length : Nat) : Int)) <|
       .grd (0 ≤ x883.2.2.2.2.2.2 ∧ x883.2.2.2.2.2.2 < ((a0.length : Nat) : Int)) <|
       .ix 1 3 rfl <|
       .name 19015 ((IntKind.i64.wrap ((a1.getD ((x883.2.2.2.2.2.2).toNat) default) * ((a0.getD ((x883.2.2.2.2.2.2).toNat) default).2.1.Lo)))) fun z1069 =>
       .name 19016 ((IntKind.i64.wrap (x883.2.2.1 + z1069))) fun z1070 =>
       .ix 1 3 rfl <|
       .ix 1 3 rfl <|
       .grd (0 ≤ x883.2.2.2.2.2.2 ∧ x883.2.2.2.2.2.2 < ((a1.length : Nat) : Int)) <|
       .grd (0 ≤ x883.2.2.2.2.2.2 ∧ x883.2.2.2.2.2.2 < ((a0.length : Nat) : Int)) <|
       .ix 1 3 rfl <|
       .name 20015 ((IntKind.i64.wrap ((a1.getD ((x883.2.2.2.2.2.2).toNat) default) * ((a0.getD ((x883.2.2.2.2.2.2).toNat) default).2.1.Hi)))) fun z1071 =>
       .name 20016 ((IntKind.i64.wrap (x883.2.2.2.1 + z1071))) fun z1072 =>
       .ix 1 3 rfl <|
       .lit 18001 (2) <|
       .known true <|
       .ix 2 3 rfl <|
       .grd (0 ≤ x883.2.2.2.2.2.2 ∧ x883.2.2.2.2.2.2 < ((a1.length : Nat) : Int)) <|
       .grd (0 ≤ x883.2.2.2.2.2.2 ∧ x883.2.2.2.2.2.2 < ((a0.length : Nat) : Int)) <|
       .ix 2 3 rfl <|
       .name 19015 ((IntKind.i64.wrap ((a1.getD ((x883.2.2.2.2.2.2).toNat) default) * ((a0.getD ((x883.2.2.2.2.2.2).toNat) default).2.2.Lo)))) fun z1081 =>
       .name 19016 ((IntKind.i64.wrap (x883.2.2.2.2.1 + z1081))) fun z1082 =>
       .ix 2 3 rfl <|
       .ix 2 3 rfl <|
       .grd (0 ≤ x883.2.2.2.2.2.2 ∧ x883.2.2.2.2.2.2 < ((a1.length : Nat) : Int)) <|
       .grd (0 ≤ x883.2.2.2.2.2.2 ∧ x883.2.2.2.2.2.2 < ((a0.length : Nat) : Int)) <|
       .ix 2 3 rfl <|
       .name 20015 ((IntKind.i64.wrap ((a1.getD ((x883.2.2.2.2.2.2).toNat) default) * ((a0.getD ((x883.2.2.2.2.2.2).toNat) default).2.2.Hi)))) fun z1083 =>
       .name 20016 ((IntKind.i64.wrap (x883.2.2.2.2.2.1 + z1083))) fun z1084 =>
       .ix 2 3 rfl <|
       .lit 18001 (3) <|
       .known false <|
       .ret (.next (z1058, z1060, z1070, z1072, z1082, z1084, (IntKind.i64.wrap (x883.2.2.2.2.2.2 + 1)))))
       (.ret (.out (x883.1, x883.2.1, x883.2.2.1, x883.2.2.2.1, x883.2.2.2.2.1, x883.2.2.2.2.2.1))))
     (0, 0, 0, 0, 0, 0, 0) [] fun y984 =>
    .ret (((⟨y984.1, y984.2.1⟩ : S_Interval), (⟨y984.2.2.1, y984.2.2.2.1⟩ : S_Interval), (⟨y984.2.2.2.2.1, y984.2.2.2.2.2⟩ : S_Interval)), y474, true)))
noncomputable def ref10_Combine_C (a0 : (List (S_Interval × S_Interval × S_Interval))) (a1 : (List Int)) : CallS ((S_Interval × S_Interval × S_Interval) × Int × Bool) :=
  mkC [] hd Tryz.func212 (by kernel_rfl) (ref10_Combine_T a0 a1) 0 [.pure (encL 6 enc_arr_3_Interval a0), .pure (encL 1 encI_i64 a1)] [] (fun r => .tup [.pure (enc_arr_3_Interval r.1), .pure (.int .i64 r.2.1), .pure (.bool r.2.2)]) (fun _ => []) (by kernel_rfl)
noncomputable def ref14_size_T (a0 : Int) : T Int :=
  .ret (max a0 (IntKind.i64.wrap (0 - a0)))
noncomputable def ref14_size_C (a0 : Int) : CallS Int :=
  mkC [] hd Tryz.func213 (by kernel_rfl) (ref14_size_T a0) 0 [.pure (.int .i64 a0)] [] (fun r => .pure (.int .i64 r)) (fun _ => []) (by kernel_rfl)
noncomputable def ref14_Excess_T (a0 : (List Int)) (a1 : (List Int)) (a2 : (List (S_Interval × S_Interval × S_Interval))) (a3 : Int) (a4 : (List (S_Interval × S_Interval × S_Interval))) (a5 : Int) : T (Int × Bool) :=
  .call (ref10_Combine_C a2 a0) [] fun y136 =>
  .call (ref10_Combine_C a4 a1) [] fun y138 =>
  .cut 1 (fun (y150 : Bool) => ⟨[(3, .pure (.int .i64 a3)), (5, .pure (.int .i64 a5)), (14, .ptr 0 0), (15, .pure (.int .i64 y136.2.1)), (17, .ptr 1 0), (57, .pure (.bool y150))], [(0, .box [.pure (.int .i64 y136.1.1.Lo), .pure (.int .i64 y136.1.1.Hi), .pure (.int .i64 y136.1.2.1.Lo), .pure (.int .i64 y136.1.2.1.Hi), .pure (.int .i64 y136.1.2.2.Lo), .pure (.int .i64 y136.1.2.2.Hi)]), (1, .box [.pure (.int .i64 y138.1.1.Lo), .pure (.int .i64 y138.1.1.Hi), .pure (.int .i64 y138.1.2.1.Lo), .pure (.int .i64 y138.1.2.1.Hi), .pure (.int .i64 y138.1.2.2.Lo), .pure (.int .i64 y138.1.2.2.Hi)])], [], 2⟩)
   (.br (!y136.2.2)
    (.ret (.out true))
    (.br (!y138.2.2)
     (.ret (.out true))
     (.br (y136.2.1 != y138.2.1)
      (.ret (.out true))
      (.call (ref14_radius_C a3) [] fun y151 =>
      .br (!y151)
       (.ret (.out true))
       (.call (ref14_radius_C a5) [] fun y152 =>
       .ret (.out (!y152))))))) fun y150 =>
  .br y150
   (.ret (0, false))
   (.unroll 4 <|
   .known true <|
   .ix 0 3 rfl <|
   .ix 0 3 rfl <|
   .call (ref14_size_C (IntKind.i64.wrap (y136.1.1.Lo - y138.1.1.Hi))) [] fun y237 =>
   .ix 0 3 rfl <|
   .ix 0 3 rfl <|
   .call (ref14_size_C (IntKind.i64.wrap (y136.1.1.Hi - y138.1.1.Lo))) [] fun y238 =>
   .call (ref1_Ceil_C (max y237 y238) y136.2.1) [] fun y239 =>
   .br (decide (y239 > (IntKind.i64.wrap (a3 + a5))))
    (.ret ((-1), true))
    (.name 12004 ((IntKind.i64.wrap ((IntKind.i64.wrap ((IntKind.i64.wrap (a3 + a5)) * (IntKind.i64.wrap (a3 + a5)))) - (IntKind.i64.wrap (y239 * y239))))) fun z240 =>
    .lit 8001 (1) <|
    .known true <|
    .ix 1 3 rfl <|
    .ix 1 3 rfl <|
    .call (ref14_size_C (IntKind.i64.wrap (y136.1.2.1.Lo - y138.1.2.1.Hi))) [] fun y251 =>
    .ix 1 3 rfl <|
    .ix 1 3 rfl <|
    .call (ref14_size_C (IntKind.i64.wrap (y136.1.2.1.Hi - y138.1.2.1.Lo))) [] fun y252 =>
    .call (ref1_Ceil_C (max y251 y252) y136.2.1) [] fun y253 =>
    .br (decide (y253 > (IntKind.i64.wrap (a3 + a5))))
     (.ret ((-1), true))
     (.name 12004 ((IntKind.i64.wrap (z240 - (IntKind.i64.wrap (y253 * y253))))) fun z254 =>
     .lit 8001 (2) <|
     .known true <|
     .ix 2 3 rfl <|
     .ix 2 3 rfl <|
     .call (ref14_size_C (IntKind.i64.wrap (y136.1.2.2.Lo - y138.1.2.2.Hi))) [] fun y265 =>
     .ix 2 3 rfl <|
     .ix 2 3 rfl <|
     .call (ref14_size_C (IntKind.i64.wrap (y136.1.2.2.Hi - y138.1.2.2.Lo))) [] fun y266 =>
     .call (ref1_Ceil_C (max y265 y266) y136.2.1) [] fun y267 =>
     .br (decide (y267 > (IntKind.i64.wrap (a3 + a5))))
      (.ret ((-1), true))
      (.name 12004 ((IntKind.i64.wrap (z254 - (IntKind.i64.wrap (y267 * y267))))) fun z268 =>
      .lit 8001 (3) <|
      .known false <|
      .ret (z268, true)))))
noncomputable def ref14_Excess_C (a0 : (List Int)) (a1 : (List Int)) (a2 : (List (S_Interval × S_Interval × S_Interval))) (a3 : Int) (a4 : (List (S_Interval × S_Interval × S_Interval))) (a5 : Int) : CallS (Int × Bool) :=
  mkC [] hd Tryz.func162 (by kernel_rfl) (ref14_Excess_T a0 a1 a2 a3 a4 a5) 0 [.pure (encL 1 encI_i64 a0), .pure (encL 1 encI_i64 a1), .pure (encL 6 enc_arr_3_Interval a2), .pure (.int .i64 a3), .pure (encL 6 enc_arr_3_Interval a4), .pure (.int .i64 a5)] [] (fun r => .tup [.pure (.int .i64 r.1), .pure (.bool r.2)]) (fun _ => []) (by kernel_rfl)
open Go.Proofs
noncomputable def ref14_Overlaps_T (a0 : (List Int)) (a1 : (List Int)) (a2 : (List (S_Interval × S_Interval × S_Interval))) (a3 : Int) (a4 : (List (S_Interval × S_Interval × S_Interval))) (a5 : Int) : T Bool :=
  .call (ref14_Excess_C a0 a1 a2 a3 a4 a5) [] fun y2 =>
  .br y2.2
   (.ret (decide (y2.1 ≥ 0)))
   (.ret false)
noncomputable def ref14_Overlaps_C (a0 : (List Int)) (a1 : (List Int)) (a2 : (List (S_Interval × S_Interval × S_Interval))) (a3 : Int) (a4 : (List (S_Interval × S_Interval × S_Interval))) (a5 : Int) : CallS Bool :=
  mkC [] hd Tryz.func105 (by kernel_rfl) (ref14_Overlaps_T a0 a1 a2 a3 a4 a5) 0 [.pure (encL 1 encI_i64 a0), .pure (encL 1 encI_i64 a1), .pure (encL 6 enc_arr_3_Interval a2), .pure (.int .i64 a3), .pure (encL 6 enc_arr_3_Interval a4), .pure (.int .i64 a5)] [] (fun r => .pure (.bool r)) (fun _ => []) (by kernel_rfl)
noncomputable def ref10_Box_T (a0 : (List Int)) : T (List S_Interval) :=
  .call (ref10_small_C a0) [] fun y4 =>
  .br (!y4)
   (.ret nl)
   (.loop (fun (x9 : ((List S_Interval) × Int)) => ⟨[(0, .pure (encL 1 encI_i64 a0)), (3, .vec 0), (4, .pure (.int .i64 x9.2))], [(0, vecO 2 enc_Interval x9.1 136)], [], 1⟩)
    (.exit 0) (fun (y10 : (List S_Interval)) => ⟨[(3, .vec 0)], [(0, vecO 2 enc_Interval y10 136)], [], 1⟩)
    (fun x9 => .br (decide (x9.2 < ((a0.length : Nat) : Int)))
      (.grd (0 ≤ x9.2 ∧ x9.2 < ((a0.length : Nat) : Int)) <|
      .grd (0 ≤ x9.2 ∧ x9.2 < ((a0.length : Nat) : Int)) <|
      .conv 7010 (cvLit 2 enc_Interval ([(⟨(a0.getD ((x9.2).toNat) default), (a0.getD ((x9.2).toNat) default)⟩ : S_Interval)] : (List S_Interval)) 136) <|
      .conv 7011 (cvApp 2 enc_Interval x9.1 ([(⟨(a0.getD ((x9.2).toNat) default), (a0.getD ((x9.2).toNat) default)⟩ : S_Interval)] : (List S_Interval)) 136) <|
      .grd ((x9.1.length + ([(⟨(a0.getD ((x9.2).toNat) default), (a0.getD ((x9.2).toNat) default)⟩ : S_Interval)] : (List S_Interval)).length) * 16 ≤ 140737488355328 ∧ (x9.1.length + ([(⟨(a0.getD ((x9.2).toNat) default), (a0.getD ((x9.2).toNat) default)⟩ : S_Interval)] : (List S_Interval)).length) ≤ maxLen) <|
      .ret (.next ((x9.1 ++ ([(⟨(a0.getD ((x9.2).toNat) default), (a0.getD ((x9.2).toNat) default)⟩ : S_Interval)] : (List S_Interval))), (IntKind.i64.wrap (x9.2 + 1)))))
      (.ret (.out x9.1)))
    (nl, 0) [] fun y10 =>
   .ret y10)
noncomputable def ref10_Box_C (a0 : (List Int)) : CallS (List S_Interval) :=
  mkC [] hd Tryz.func34 (by kernel_rfl) (ref10_Box_T a0) 0 [.pure (encL 1 encI_i64 a0)] [] (fun r => .pure (encL 2 enc_Interval r)) (fun _ => []) (by kernel_rfl)
noncomputable def separation_holds_T (a0 : S_classify_separation) (a1 : S_classify_body) : T Bool :=
  .br (((a0.normals.length : Nat) : Int) != ((a1.pairs.length : Nat) : Int))
   (.ret false)
   (.loop (fun (x37 : Int) => ⟨[(3, .ptr 0 0), (16, .pure (encL 3 enc_arr_3_int64 a0.normals)), (17, .pure (.int .i64 ((a0.normals.length : Nat) : Int))), (18, .pure (.int .i64 x37))], [(0, .box [.pure (encL 3 enc_Shape a1.shapes), .pure (encL 2 enc_Pair a1.pairs), .pure (encL 1 (encL 6 enc_arr_3_Interval) a1.points)])], [], 1⟩)
    (.exit 0) (fun (_ : U0) => ⟨[], [], [], 0⟩)
    (fun x37 => .br (decide (x37 < ((a0.normals.length : Nat) : Int)))
      (.grd (0 ≤ x37 ∧ x37 < ((a0.normals.length : Nat) : Int)) <|
      .call (body_couple_C a1 x37) [] fun y52 =>
      .call (plane_Separates_C (a0.normals.getD ((x37).toNat) default) y52.a y52.ra y52.b y52.rb) [] fun y54 =>
      .br (!y54)
       (.ret (.fin false))
       (.ret (.next (IntKind.i64.wrap (x37 + 1)))))
      (.ret (.out .u)))
    0 [] fun _ =>
   .ret true)
noncomputable def separation_holds_C (a0 : S_classify_separation) (a1 : S_classify_body) : CallS Bool :=
  mkC [] hd Tryz.func345 (by kernel_rfl) (separation_holds_T a0 a1) 0 [.pure (enc_classify_separation a0), .pure (enc_classify_body a1)] [] (fun r => .pure (.bool r)) (fun _ => []) (by kernel_rfl)
noncomputable def classify_holds_T (a0 : S_Scene) (a1 : (List S_Interval)) (a2 : S_classify_separation) : T Bool :=
  .call (classify_place_C a0 a1) [] fun y2 =>
  .br y2.2
   (.call (separation_holds_C a2 y2.1) [] fun y3 =>
   .ret y3)
   (.ret false)
noncomputable def classify_holds_C (a0 : S_Scene) (a1 : (List S_Interval)) (a2 : S_classify_separation) : CallS Bool :=
  mkC [] hd Tryz.func86 (by kernel_rfl) (classify_holds_T a0 a1 a2) 0 [.pure (enc_Scene a0), .pure (encL 2 enc_Interval a1), .iface 133 (.pure (enc_classify_separation a2))] [] (fun r => .pure (.bool r)) (fun _ => []) (by kernel_rfl)
noncomputable def classify_CheckFree_T (a0 : S_Scene) (a1 : (List S_Interval)) (a2 : (List (Int × Int × Int))) : T Bool :=
  .call (classify_holds_C (⟨a0.Robot, a0.Shapes, a0.Skips⟩ : S_Scene) a1 (⟨a2⟩ : S_classify_separation)) [] fun y1 =>
  .ret y1
noncomputable def classify_CheckFree_C (a0 : S_Scene) (a1 : (List S_Interval)) (a2 : (List (Int × Int × Int))) : CallS Bool :=
  mkC [⟨85, guard85⟩] hd Tryz.func38 (by kernel_rfl) (classify_CheckFree_T a0 a1 a2) 0 [.pure (enc_Scene a0), .pure (encL 2 enc_Interval a1), .pure (encL 3 enc_arr_3_int64 a2)] [] (fun r => .pure (.bool r)) (fun _ => []) (by kernel_rfl)
noncomputable def collision_holds_T (a0 : S_classify_collision) (a1 : S_classify_body) : T Bool :=
  .cut 3 (fun (y2 : Bool) => ⟨[(3, .ptr 0 0), (5, .ptr 1 0), (19, .pure (.bool y2))], [(0, .box [.pure (encL 3 enc_Shape a1.shapes), .pure (encL 2 enc_Pair a1.pairs), .pure (encL 1 (encL 6 enc_arr_3_Interval) a1.points)]), (1, .box [.pure (.int .i64 a0.witness.Pair), .pure (encL 1 encI_i64 a0.witness.Left), .pure (encL 1 encI_i64 a0.witness.Right)])], [], 2⟩)
   (.br (decide (a0.witness.Pair < 0))
    (.ret (.out true))
    (.ret (.out (decide (a0.witness.Pair ≥ ((a1.pairs.length : Nat) : Int)))))) fun y2 =>
  .br y2
   (.ret false)
   (.call (body_couple_C a1 a0.witness.Pair) [] fun y4 =>
   .call (overlap_Overlaps_C a0.witness.Left a0.witness.Right y4.a y4.ra y4.b y4.rb) [] fun y5 =>
   .ret y5)
noncomputable def collision_holds_C (a0 : S_classify_collision) (a1 : S_classify_body) : CallS Bool :=
  mkC [] hd Tryz.func344 (by kernel_rfl) (collision_holds_T a0 a1) 0 [.pure (enc_classify_collision a0), .pure (enc_classify_body a1)] [] (fun r => .pure (.bool r)) (fun _ => []) (by kernel_rfl)
noncomputable def classify_holds_1_T (a0 : S_Scene) (a1 : (List S_Interval)) (a2 : S_classify_collision) : T Bool :=
  .call (classify_place_C a0 a1) [] fun y2 =>
  .br y2.2
   (.call (collision_holds_C a2 y2.1) [] fun y3 =>
   .ret y3)
   (.ret false)
noncomputable def classify_holds_1_C (a0 : S_Scene) (a1 : (List S_Interval)) (a2 : S_classify_collision) : CallS Bool :=
  mkC [] hd Tryz.func86 (by kernel_rfl) (classify_holds_1_T a0 a1 a2) 0 [.pure (enc_Scene a0), .pure (encL 2 enc_Interval a1), .iface 131 (.pure (enc_classify_collision a2))] [] (fun r => .pure (.bool r)) (fun _ => []) (by kernel_rfl)
noncomputable def classify_CheckColliding_T (a0 : S_Scene) (a1 : (List S_Interval)) (a2 : S_Witness) : T Bool :=
  .call (classify_holds_1_C (⟨a0.Robot, a0.Shapes, a0.Skips⟩ : S_Scene) a1 (⟨(⟨a2.Pair, a2.Left, a2.Right⟩ : S_Witness)⟩ : S_classify_collision)) [] fun y1 =>
  .ret y1
noncomputable def classify_CheckColliding_C (a0 : S_Scene) (a1 : (List S_Interval)) (a2 : S_Witness) : CallS Bool :=
  mkC [⟨87, guard87⟩] hd Tryz.func39 (by kernel_rfl) (classify_CheckColliding_T a0 a1 a2) 0 [.pure (enc_Scene a0), .pure (encL 2 enc_Interval a1), .pure (enc_Witness a2)] [] (fun r => .pure (.bool r)) (fun _ => []) (by kernel_rfl)
noncomputable def law20_motion_T (a0 : (List Int)) (a1 : (List Int)) (a2 : (List Int)) (a3 : Int) : T (S_Scene × (List Int) × (List Int) × Int) :=
  .call (make_Scene_C a0) [] fun y37 =>
  .call (make_Config_C y37.Robot a1) [] fun y40 =>
  .call (make_Config_C y37.Robot a2) [] fun y41 =>
  .cut 0 (fun (y60 : (List Int)) => ⟨[(3, .pure (.int .i64 a3)), (8, .ptr 0 0), (12, .ptr 5 0), (13, .vec 6), (14, .vec 7)], [(0, .box [.vec 1, .vec 2, .vec 3, .vec 4]), (1, .nilv), (2, .nilv), (3, .nilv), (4, .nilv), (5, .box [.pure (encL 12 enc_Joint y37.Robot.Joints), .pure (encL 5 enc_Mass y37.Robot.Masses), .pure (encL 3 enc_Shape y37.Shapes), .pure (encL 2 enc_Skip y37.Skips)]), (6, vecO 1 encI_i64 y40 2), (7, vecO 1 encI_i64 y60 2)], [], 8⟩)
   (.br ((IntKind.i64.wrap (((BitVec.ofInt 64 a3 &&& BitVec.ofInt 64 8).toNat : Int))) == 8)
    (.loop (fun (x64 : ((List Int) × Int)) => ⟨[(3, .pure (.int .i64 a3)), (8, .ptr 0 0), (12, .ptr 5 0), (13, .vec 6), (14, .vec 7), (15, .pure (.int .i64 x64.2))], [(0, .box [.vec 1, .vec 2, .vec 3, .vec 4]), (1, .nilv), (2, .nilv), (3, .nilv), (4, .nilv), (5, .box [.pure (encL 12 enc_Joint y37.Robot.Joints), .pure (encL 5 enc_Mass y37.Robot.Masses), .pure (encL 3 enc_Shape y37.Shapes), .pure (encL 2 enc_Skip y37.Skips)]), (6, vecO 1 encI_i64 y40 2), (7, vecO 1 encI_i64 x64.1 2)], [], 8⟩)
     (.exit 0) (fun (y67 : (List Int)) => ⟨[(3, .pure (.int .i64 a3)), (8, .ptr 0 0), (12, .ptr 5 0), (13, .vec 6), (14, .vec 7)], [(0, .box [.vec 1, .vec 2, .vec 3, .vec 4]), (1, .nilv), (2, .nilv), (3, .nilv), (4, .nilv), (5, .box [.pure (encL 12 enc_Joint y37.Robot.Joints), .pure (encL 5 enc_Mass y37.Robot.Masses), .pure (encL 3 enc_Shape y37.Shapes), .pure (encL 2 enc_Skip y37.Skips)]), (6, vecO 1 encI_i64 y40 2), (7, vecO 1 encI_i64 y67 2)], [], 8⟩)
     (fun x64 => .br (decide (x64.2 < ((x64.1.length : Nat) : Int)))
       (.grd (0 ≤ x64.2 ∧ x64.2 < ((y40.length : Nat) : Int)) <|
       .grd ((x64.2).toNat < y40.length) <|
       .grd (0 ≤ x64.2 ∧ x64.2 < ((x64.1.length : Nat) : Int)) <|
       .grd ((x64.2).toNat < x64.1.length) <|
       .grd (0 ≤ x64.2 ∧ x64.2 < ((y40.length : Nat) : Int)) <|
       .grd ((x64.2).toNat < y40.length) <|
       .ok ((16 : Int) ≠ 0) (by decide) <|
       .name 7015 ((IntKind.i64.wrap ((IntKind.i64.wrap ((x64.1.getD ((x64.2).toNat) default) - (y40.getD ((x64.2).toNat) default))).tdiv 16))) fun z69 =>
       .grd (0 ≤ x64.2 ∧ x64.2 < ((x64.1.length : Nat) : Int)) <|
       .conv 7018 (cvSet 1 encI_i64 x64.1 2 ((x64.2).toNat) (IntKind.i64.wrap ((y40.getD ((x64.2).toNat) default) + z69))) <|
       .grd ((x64.2).toNat < x64.1.length ∧ 0 ≤ (x64.2).toNat) <|
       .ret (.next ((x64.1.set ((x64.2).toNat) (IntKind.i64.wrap ((y40.getD ((x64.2).toNat) default) + z69))), (IntKind.i64.wrap (x64.2 + 1)))))
       (.ret (.out x64.1)))
     (y41, 0) [] fun y67 =>
    .ret (.out y67))
    (.ret (.out y41))) fun y60 =>
  .ok (0 ≤ (4 : Int)) (by decide) <|
  .call (make_Round_C (a3.fdiv (2 ^ (min (4 : Int).toNat 64))) 6) [] fun y70 =>
  .ret (y37, y40, y60, y70)
noncomputable def law20_motion_C (a0 : (List Int)) (a1 : (List Int)) (a2 : (List Int)) (a3 : Int) : CallS (S_Scene × (List Int) × (List Int) × Int) :=
  mkC [] hd Tryz.func15 (by kernel_rfl) (law20_motion_T a0 a1 a2 a3) 0 [.pure (encL 1 encI_i64 a0), .pure (encL 1 encI_i64 a1), .pure (encL 1 encI_i64 a2), .pure (.int .i64 a3)] [] (fun r => .tup [.pure (enc_Scene r.1), .pure (encL 1 encI_i64 r.2.1), .pure (encL 1 encI_i64 r.2.2.1), .pure (.int .i64 r.2.2.2)]) (fun _ => []) (by kernel_rfl)
noncomputable def make_Normal_T (a0 : Int) (a1 : Int) (a2 : Int) : T (Int × Int × Int) :=
  .call (make_Round_C a0 41) [] fun y4 =>
  .call (make_Round_C a1 41) [] fun y5 =>
  .call (make_Round_C a2 41) [] fun y6 =>
  .cut 0 (fun (y13 : (Int × Int × Int)) => ⟨[(6, .ptr 0 0), (7, .ptr 1 0)], [(0, .box [.pure (.int .i64 0), .pure (.int .i64 0), .pure (.int .i64 0)]), (1, .box [.pure (.int .i64 y13.1), .pure (.int .i64 y13.2.1), .pure (.int .i64 y13.2.2)])], [], 2⟩)
   (.br ((IntKind.i64.wrap (((BitVec.ofInt 64 a0 &&& BitVec.ofInt 64 8).toNat : Int))) == 8)
    (.call (make_Round_C a0 32769) [] fun y14 =>
    .call (make_Round_C a1 32769) [] fun y15 =>
    .call (make_Round_C a2 32769) [] fun y16 =>
    .ret (.out ((IntKind.i64.wrap (y14 - 16384)), (IntKind.i64.wrap (y15 - 16384)), (IntKind.i64.wrap (y16 - 16384)))))
    (.ret (.out ((IntKind.i64.wrap (y4 - 20)), (IntKind.i64.wrap (y5 - 20)), (IntKind.i64.wrap (y6 - 20)))))) fun y13 =>
  .call (ref10_Usable_C (y13.1, y13.2.1, y13.2.2)) [] fun y20 =>
  .br (!y20)
   (.ret (1, 0, 0))
   (.ret (y13.1, y13.2.1, y13.2.2))
noncomputable def make_Normal_C (a0 : Int) (a1 : Int) (a2 : Int) : CallS (Int × Int × Int) :=
  mkC [] hd Tryz.func48 (by kernel_rfl) (make_Normal_T a0 a1 a2) 0 [.pure (.int .i64 a0), .pure (.int .i64 a1), .pure (.int .i64 a2)] [] (fun r => .pure (enc_arr_3_int64 r)) (fun _ => []) (by kernel_rfl)
set_option maxHeartbeats 8000000 in
set_option maxRecDepth 20000 in
noncomputable def law20_pieces_T (a0 : (List S_Piece)) (a1 : Int) (a2 : Int) (a3 : Int) : T (List S_Piece) :=
  .grd (a0.length * 40 ≤ 140737488355328 ∧ a0.length ≤ maxLen) <|
  .br (((a0.length : Nat) : Int) == 0)
   (.call (make_Round_C a3 3) [] fun y3 =>
   .call (make_Round_C a2 3) [] fun y4 =>
   .conv 3005 (cvLitP 3 enc_Piece ([(⟨y3, y4, nl⟩ : S_Piece)] : (List S_Piece)) 37 [.agg [.int .i64 y3, .int .i64 y4, .lst 0 0 fun _ => .unk]] (by kernel_rfl)) <|
   .ret ([(⟨y3, y4, nl⟩ : S_Piece)] : (List S_Piece)))
   (.call (make_Round_C a2 ((a0.length : Nat) : Int)) [] fun y6 =>
   .cut 0 (fun (y21 : (List S_Piece)) => ⟨[(9, .vec 0)], [(0, vecO 3 enc_Piece y21 37)], [], 1⟩)
    (.call (make_Round_C a1 7) [] fun y23 =>
    .br (y23 == 0)
     (.grd (0 ≤ y6 ∧ y6 < ((a0.length : Nat) : Int)) <|
     .grd ((y6).toNat < a0.length) <|
     .call (make_Round_C a3 5) [] fun y24 =>
     .grd (0 ≤ y6 ∧ y6 < ((a0.length : Nat) : Int)) <|
     .conv 9011 (cvSet 3 enc_Piece a0 37 ((y6).toNat) (⟨(IntKind.i64.wrap (((a0.getD ((y6).toNat) default).Depth) + (IntKind.i64.wrap (y24 - 2)))), (a0.getD ((y6).toNat) default).Index, (a0.getD ((y6).toNat) default).Normals⟩ : S_Piece)) <|
     .grd ((y6).toNat < a0.length ∧ 0 ≤ (y6).toNat) <|
     .ret (.out (a0.set ((y6).toNat) (⟨(IntKind.i64.wrap (((a0.getD ((y6).toNat) default).Depth) + (IntKind.i64.wrap (y24 - 2)))), (a0.getD ((y6).toNat) default).Index, (a0.getD ((y6).toNat) default).Normals⟩ : S_Piece))))
     (.br (y23 == 1)
      (.grd (0 ≤ y6 ∧ y6 < ((a0.length : Nat) : Int)) <|
      .grd ((y6).toNat < a0.length) <|
      .call (make_Round_C a3 5) [] fun y25 =>
      .grd (0 ≤ y6 ∧ y6 < ((a0.length : Nat) : Int)) <|
      .conv 11011 (cvSet 3 enc_Piece a0 37 ((y6).toNat) (⟨(a0.getD ((y6).toNat) default).Depth, (IntKind.i64.wrap (((a0.getD ((y6).toNat) default).Index) + (IntKind.i64.wrap (y25 - 2)))), (a0.getD ((y6).toNat) default).Normals⟩ : S_Piece)) <|
      .grd ((y6).toNat < a0.length ∧ 0 ≤ (y6).toNat) <|
      .ret (.out (a0.set ((y6).toNat) (⟨(a0.getD ((y6).toNat) default).Depth, (IntKind.i64.wrap (((a0.getD ((y6).toNat) default).Index) + (IntKind.i64.wrap (y25 - 2)))), (a0.getD ((y6).toNat) default).Normals⟩ : S_Piece))))
      (.br (y23 == 2)
       (.unroll 2 <|
       .grd (0 ≤ (0 : Int) ∧ (0 : Int) ≤ y6 ∧ y6 ≤ ((a0.length : Nat) : Int)) <|
       .unroll 2 <|
       .grd (0 ≤ (IntKind.i64.wrap (y6 + 1)) ∧ (IntKind.i64.wrap (y6 + 1)) ≤ ((a0.length : Nat) : Int) ∧ ((a0.length : Nat) : Int) ≤ ((a0.length : Nat) : Int)) <|
       .conv 13007 (cvCut 3 enc_Piece a0 37 ((y6).toNat - (0 : Int).toNat) ((((a0.length : Nat) : Int)).toNat - ((IntKind.i64.wrap (y6 + 1))).toNat) ((IntKind.i64.wrap (y6 + 1))).toNat 40) <|
       .grd ((((y6).toNat - (0 : Int).toNat) + ((((a0.length : Nat) : Int)).toNat - ((IntKind.i64.wrap (y6 + 1))).toNat)) * 40 ≤ 140737488355328 ∧ (((y6).toNat - (0 : Int).toNat) + ((((a0.length : Nat) : Int)).toNat - ((IntKind.i64.wrap (y6 + 1))).toNat)) ≤ maxLen ∧ ((y6).toNat - (0 : Int).toNat) ≤ a0.length ∧ ((IntKind.i64.wrap (y6 + 1))).toNat + ((((a0.length : Nat) : Int)).toNat - ((IntKind.i64.wrap (y6 + 1))).toNat) ≤ a0.length) <|
       .ret (.out (a0.take ((y6).toNat - (0 : Int).toNat) ++ ((a0.drop ((IntKind.i64.wrap (y6 + 1))).toNat).take ((((a0.length : Nat) : Int)).toNat - ((IntKind.i64.wrap (y6 + 1))).toNat)))))
       (.br (y23 == 3)
        (.grd (0 ≤ y6 ∧ y6 < ((a0.length : Nat) : Int)) <|
        .grd ((y6).toNat < a0.length) <|
        .conv 15005 (cvLit 3 enc_Piece ([(a0.getD ((y6).toNat) default)] : (List S_Piece)) 37) <|
        .conv 15006 (cvApp 3 enc_Piece a0 ([(a0.getD ((y6).toNat) default)] : (List S_Piece)) 37) <|
        .grd ((a0.length + ([(a0.getD ((y6).toNat) default)] : (List S_Piece)).length) * 40 ≤ 140737488355328 ∧ (a0.length + ([(a0.getD ((y6).toNat) default)] : (List S_Piece)).length) ≤ maxLen) <|
        .ret (.out (a0 ++ ([(a0.getD ((y6).toNat) default)] : (List S_Piece)))))
        (.br (y23 == 4)
         (.grd (0 ≤ y6 ∧ y6 < ((a0.length : Nat) : Int)) <|
         .grd ((y6).toNat < a0.length) <|
         .grd ((a0.getD ((y6).toNat) default).Normals.length * 24 ≤ 140737488355328 ∧ (a0.getD ((y6).toNat) default).Normals.length ≤ maxLen) <|
         .grd (0 ≤ y6 ∧ y6 < ((a0.length : Nat) : Int)) <|
         .grd ((y6).toNat < a0.length) <|
         .grd (0 ≤ y6 ∧ y6 < ((a0.length : Nat) : Int)) <|
         .grd ((y6).toNat = (y6).toNat) <|
         .br (decide ((((a0.getD ((y6).toNat) default).Normals.length : Nat) : Int) > 0))
          (.grd (0 ≤ y6 ∧ y6 < ((a0.length : Nat) : Int)) <|
          .grd ((y6).toNat = (y6).toNat) <|
          .call (make_Round_C a3 (((a0.getD ((y6).toNat) default).Normals.length : Nat) : Int)) [] fun y26 =>
          .call (make_Normal_C a3 a2 a1) [] fun y27 =>
          .grd (0 ≤ y26 ∧ y26 < (((a0.getD ((y6).toNat) default).Normals.length : Nat) : Int)) <|
          .conv 20013 (cvSet 3 enc_arr_3_int64 ((a0.getD ((y6).toNat) default).Normals) 49 ((y26).toNat) y27) <|
          .grd ((y26).toNat < (a0.getD ((y6).toNat) default).Normals.length ∧ 0 ≤ (y26).toNat) <|
          .clo 128 (cvSet 3 enc_Piece a0 37 ((y6).toNat) (⟨(a0.getD ((y6).toNat) default).Depth, (a0.getD ((y6).toNat) default).Index, (((a0.getD ((y6).toNat) default).Normals).set ((y26).toNat) y27)⟩ : S_Piece)) <|
          .ret (.out (a0.set ((y6).toNat) (⟨(a0.getD ((y6).toNat) default).Depth, (a0.getD ((y6).toNat) default).Index, (((a0.getD ((y6).toNat) default).Normals).set ((y26).toNat) y27)⟩ : S_Piece))))
          (.clo 128 (cvSet 3 enc_Piece a0 37 ((y6).toNat) (a0.getD ((y6).toNat) default)) <|
          .ret (.out (a0.set ((y6).toNat) (a0.getD ((y6).toNat) default)))))
         (.br (y23 == 5)
          (.conv 22002 (cvLit 1 encI_i64 ([(-1), 20, 21] : (List Int)) 3) <|
          .call (make_Round_C a3 3) [] fun y28 =>
          .grd (0 ≤ y28 ∧ y28 < ((([(-1), 20, 21] : (List Int)).length : Nat) : Int)) <|
          .grd ((y28).toNat < ([(-1), 20, 21] : (List Int)).length) <|
          .grd (0 ≤ y6 ∧ y6 < ((a0.length : Nat) : Int)) <|
          .conv 22009 (cvSet 3 enc_Piece a0 37 ((y6).toNat) (⟨(([(-1), 20, 21] : (List Int)).getD ((y28).toNat) default), (a0.getD ((y6).toNat) default).Index, (a0.getD ((y6).toNat) default).Normals⟩ : S_Piece)) <|
          .grd ((y6).toNat < a0.length ∧ 0 ≤ (y6).toNat) <|
          .ret (.out (a0.set ((y6).toNat) (⟨(([(-1), 20, 21] : (List Int)).getD ((y28).toNat) default), (a0.getD ((y6).toNat) default).Index, (a0.getD ((y6).toNat) default).Normals⟩ : S_Piece))))
          (.grd (0 ≤ y6 ∧ y6 < ((a0.length : Nat) : Int)) <|
          .grd ((y6).toNat < a0.length) <|
          .unroll 2 <|
          .grd (0 ≤ (0 : Int) ∧ (0 : Int) ≤ y6 ∧ y6 ≤ ((a0.length : Nat) : Int)) <|
          .conv 7003 (cvSubN 3 enc_Piece a0 37 ((y6).toNat - (0 : Int).toNat) (0 : Int).toNat 40) <|
          .grd (((y6).toNat - (0 : Int).toNat) * 40 ≤ 140737488355328 ∧ ((y6).toNat - (0 : Int).toNat) ≤ maxLen ∧ (0 : Int).toNat + ((y6).toNat - (0 : Int).toNat) ≤ a0.length) <|
          .conv 7023 (cvLit 3 enc_Piece ([(⟨(IntKind.i64.wrap (((a0.getD ((y6).toNat) default).Depth) + 1)), (IntKind.i64.wrap (2 * ((a0.getD ((y6).toNat) default).Index))), (a0.getD ((y6).toNat) default).Normals⟩ : S_Piece), (⟨(IntKind.i64.wrap (((a0.getD ((y6).toNat) default).Depth) + 1)), (IntKind.i64.wrap ((IntKind.i64.wrap (2 * ((a0.getD ((y6).toNat) default).Index))) + 1)), (a0.getD ((y6).toNat) default).Normals⟩ : S_Piece)] : (List S_Piece)) 37) <|
          .conv 7024 (cvApp 3 enc_Piece ((a0.drop (0 : Int).toNat).take ((y6).toNat - (0 : Int).toNat)) ([(⟨(IntKind.i64.wrap (((a0.getD ((y6).toNat) default).Depth) + 1)), (IntKind.i64.wrap (2 * ((a0.getD ((y6).toNat) default).Index))), (a0.getD ((y6).toNat) default).Normals⟩ : S_Piece), (⟨(IntKind.i64.wrap (((a0.getD ((y6).toNat) default).Depth) + 1)), (IntKind.i64.wrap ((IntKind.i64.wrap (2 * ((a0.getD ((y6).toNat) default).Index))) + 1)), (a0.getD ((y6).toNat) default).Normals⟩ : S_Piece)] : (List S_Piece)) 37) <|
          .grd ((((a0.drop (0 : Int).toNat).take ((y6).toNat - (0 : Int).toNat)).length + ([(⟨(IntKind.i64.wrap (((a0.getD ((y6).toNat) default).Depth) + 1)), (IntKind.i64.wrap (2 * ((a0.getD ((y6).toNat) default).Index))), (a0.getD ((y6).toNat) default).Normals⟩ : S_Piece), (⟨(IntKind.i64.wrap (((a0.getD ((y6).toNat) default).Depth) + 1)), (IntKind.i64.wrap ((IntKind.i64.wrap (2 * ((a0.getD ((y6).toNat) default).Index))) + 1)), (a0.getD ((y6).toNat) default).Normals⟩ : S_Piece)] : (List S_Piece)).length) * 40 ≤ 140737488355328 ∧ (((a0.drop (0 : Int).toNat).take ((y6).toNat - (0 : Int).toNat)).length + ([(⟨(IntKind.i64.wrap (((a0.getD ((y6).toNat) default).Depth) + 1)), (IntKind.i64.wrap (2 * ((a0.getD ((y6).toNat) default).Index))), (a0.getD ((y6).toNat) default).Normals⟩ : S_Piece), (⟨(IntKind.i64.wrap (((a0.getD ((y6).toNat) default).Depth) + 1)), (IntKind.i64.wrap ((IntKind.i64.wrap (2 * ((a0.getD ((y6).toNat) default).Index))) + 1)), (a0.getD ((y6).toNat) default).Normals⟩ : S_Piece)] : (List S_Piece)).length) ≤ maxLen) <|
          .unroll 2 <|
          .grd (0 ≤ (IntKind.i64.wrap (y6 + 1)) ∧ (IntKind.i64.wrap (y6 + 1)) ≤ ((a0.length : Nat) : Int) ∧ ((a0.length : Nat) : Int) ≤ ((a0.length : Nat) : Int)) <|
          .conv 7029 (cvAppVw 3 enc_Piece a0 (((a0.drop (0 : Int).toNat).take ((y6).toNat - (0 : Int).toNat)) ++ ([(⟨(IntKind.i64.wrap (((a0.getD ((y6).toNat) default).Depth) + 1)), (IntKind.i64.wrap (2 * ((a0.getD ((y6).toNat) default).Index))), (a0.getD ((y6).toNat) default).Normals⟩ : S_Piece), (⟨(IntKind.i64.wrap (((a0.getD ((y6).toNat) default).Depth) + 1)), (IntKind.i64.wrap ((IntKind.i64.wrap (2 * ((a0.getD ((y6).toNat) default).Index))) + 1)), (a0.getD ((y6).toNat) default).Normals⟩ : S_Piece)] : (List S_Piece))) 37 ((((a0.length : Nat) : Int)).toNat - ((IntKind.i64.wrap (y6 + 1))).toNat) ((IntKind.i64.wrap (y6 + 1))).toNat 40) <|
          .grd (((((a0.drop (0 : Int).toNat).take ((y6).toNat - (0 : Int).toNat)) ++ ([(⟨(IntKind.i64.wrap (((a0.getD ((y6).toNat) default).Depth) + 1)), (IntKind.i64.wrap (2 * ((a0.getD ((y6).toNat) default).Index))), (a0.getD ((y6).toNat) default).Normals⟩ : S_Piece), (⟨(IntKind.i64.wrap (((a0.getD ((y6).toNat) default).Depth) + 1)), (IntKind.i64.wrap ((IntKind.i64.wrap (2 * ((a0.getD ((y6).toNat) default).Index))) + 1)), (a0.getD ((y6).toNat) default).Normals⟩ : S_Piece)] : (List S_Piece))).length + ((((a0.length : Nat) : Int)).toNat - ((IntKind.i64.wrap (y6 + 1))).toNat)) * 40 ≤ 140737488355328 ∧ ((((a0.drop (0 : Int).toNat).take ((y6).toNat - (0 : Int).toNat)) ++ ([(⟨(IntKind.i64.wrap (((a0.getD ((y6).toNat) default).Depth) + 1)), (IntKind.i64.wrap (2 * ((a0.getD ((y6).toNat) default).Index))), (a0.getD ((y6).toNat) default).Normals⟩ : S_Piece), (⟨(IntKind.i64.wrap (((a0.getD ((y6).toNat) default).Depth) + 1)), (IntKind.i64.wrap ((IntKind.i64.wrap (2 * ((a0.getD ((y6).toNat) default).Index))) + 1)), (a0.getD ((y6).toNat) default).Normals⟩ : S_Piece)] : (List S_Piece))).length + ((((a0.length : Nat) : Int)).toNat - ((IntKind.i64.wrap (y6 + 1))).toNat)) ≤ maxLen ∧ ((IntKind.i64.wrap (y6 + 1))).toNat + ((((a0.length : Nat) : Int)).toNat - ((IntKind.i64.wrap (y6 + 1))).toNat) ≤ a0.length) <|
          .ret (.out ((((a0.drop (0 : Int).toNat).take ((y6).toNat - (0 : Int).toNat)) ++ ([(⟨(IntKind.i64.wrap (((a0.getD ((y6).toNat) default).Depth) + 1)), (IntKind.i64.wrap (2 * ((a0.getD ((y6).toNat) default).Index))), (a0.getD ((y6).toNat) default).Normals⟩ : S_Piece), (⟨(IntKind.i64.wrap (((a0.getD ((y6).toNat) default).Depth) + 1)), (IntKind.i64.wrap ((IntKind.i64.wrap (2 * ((a0.getD ((y6).toNat) default).Index))) + 1)), (a0.getD ((y6).toNat) default).Normals⟩ : S_Piece)] : (List S_Piece))) ++ ((a0.drop ((IntKind.i64.wrap (y6 + 1))).toNat).take ((((a0.length : Nat) : Int)).toNat - ((IntKind.i64.wrap (y6 + 1))).toNat))))))))))) fun y21 =>
   .ret y21)
noncomputable def law20_pieces_C (a0 : (List S_Piece)) (a1 : Int) (a2 : Int) (a3 : Int) : CallS (List S_Piece) :=
  mkC [] hd Tryz.func17 (by kernel_rfl) (law20_pieces_T a0 a1 a2 a3) 0 [.pure (encL 3 enc_Piece a0), .pure (.int .i64 a1), .pure (.int .i64 a2), .pure (.int .i64 a3)] [] (fun r => .pure (encL 3 enc_Piece r)) (fun _ => []) (by kernel_rfl)
noncomputable def law20_one_T : T S_Scene :=
  .conv 1001 (cvLit 12 enc_Joint ([(⟨(⟨#[97]⟩ : ByteArray), 4, (-1), (0, 0, 0), 0, 90000, 1, 1, 1, 1⟩ : S_Joint)] : (List S_Joint)) 147) <|
  .conv 2002 (cvLit 3 enc_arr_3_int64 ([(0, 0, 0)] : (List (Int × Int × Int))) 49) <|
  .conv 2005 (cvLit 3 enc_arr_3_int64 ([(50000, 0, 0)] : (List (Int × Int × Int))) 49) <|
  .conv 2007 (cvLit 3 enc_Shape ([(⟨0, 9, ([(0, 0, 0)] : (List (Int × Int × Int)))⟩ : S_Shape), (⟨(-1), 9, ([(50000, 0, 0)] : (List (Int × Int × Int)))⟩ : S_Shape)] : (List S_Shape)) 108) <|
  .ret (⟨(⟨([(⟨(⟨#[97]⟩ : ByteArray), 4, (-1), (0, 0, 0), 0, 90000, 1, 1, 1, 1⟩ : S_Joint)] : (List S_Joint)), nl⟩ : S_Robot), ([(⟨0, 9, ([(0, 0, 0)] : (List (Int × Int × Int)))⟩ : S_Shape), (⟨(-1), 9, ([(50000, 0, 0)] : (List (Int × Int × Int)))⟩ : S_Shape)] : (List S_Shape)), nl⟩ : S_Scene)
noncomputable def law20_one_C : CallS S_Scene :=
  mkC [] hd Tryz.func49 (by kernel_rfl) (law20_one_T) 0 [] [] (fun r => .pure (enc_Scene r)) (fun _ => []) (by kernel_rfl)
noncomputable def replay_valid_T (a0 : S_edgecheck_replay) : T (Int × Int) :=
  .call (scene_Check_C a0.scene) [] fun y4 =>
  .br (y4 != 0)
   (.ret (0, 904))
   (.ret (0, 0))
noncomputable def replay_valid_C (a0 : S_edgecheck_replay) : CallS (Int × Int) :=
  mkC [] hd Tryz.func89 (by kernel_rfl) (replay_valid_T a0) 0 [.pure (enc_edgecheck_replay a0)] [] (fun r => .tup [.pure (.int .i64 r.1), .pure (.int .i64 r.2)]) (fun _ => []) (by kernel_rfl)
noncomputable def replay_inside_T (a0 : S_edgecheck_replay) : T (Int × Int) :=
  .cut 2 (fun (y12 : Bool) => ⟨[(19, .pure (.bool y12))], [], [], 0⟩)
   (.call (config_Inside_C a0.scene.Robot a0.p) [] fun y13 =>
   .br (!y13)
    (.ret (.out true))
    (.call (config_Inside_C a0.scene.Robot a0.q) [] fun y14 =>
    .ret (.out (!y14)))) fun y12 =>
  .br y12
   (.ret (0, 1201))
   (.ret (0, 0))
noncomputable def replay_inside_C (a0 : S_edgecheck_replay) : CallS (Int × Int) :=
  mkC [] hd Tryz.func90 (by kernel_rfl) (replay_inside_T a0) 0 [.pure (enc_edgecheck_replay a0)] [] (fun r => .tup [.pure (.int .i64 r.1), .pure (.int .i64 r.2)]) (fun _ => []) (by kernel_rfl)
noncomputable def replay_tiling_T (a0 : S_edgecheck_replay) : T (Int × Int) :=
  .loop (fun (x189 : (Int × Int)) => ⟨[(1, .ptr 0 0), (4, .pure (.int .i64 x189.1)), (9, .pure (encL 3 enc_Piece a0.pieces)), (10, .pure (.int .i64 ((a0.pieces.length : Nat) : Int))), (11, .pure (.int .i64 x189.2))], [(0, .box [.pure (encL 12 enc_Joint a0.scene.Robot.Joints), .pure (encL 5 enc_Mass a0.scene.Robot.Masses), .pure (encL 3 enc_Shape a0.scene.Shapes), .pure (encL 2 enc_Skip a0.scene.Skips), .pure (encL 1 encI_i64 a0.p), .pure (encL 1 encI_i64 a0.q), .pure (encL 3 enc_Piece a0.pieces)])], [], 1⟩)
   (.exit 0) (fun (y208 : Int) => ⟨[(1, .ptr 0 0), (4, .pure (.int .i64 y208))], [(0, .box [.pure (encL 12 enc_Joint a0.scene.Robot.Joints), .pure (encL 5 enc_Mass a0.scene.Robot.Masses), .pure (encL 3 enc_Shape a0.scene.Shapes), .pure (encL 2 enc_Skip a0.scene.Skips), .pure (encL 1 encI_i64 a0.p), .pure (encL 1 encI_i64 a0.q), .pure (encL 3 enc_Piece a0.pieces)])], [], 1⟩)
   (fun x189 => .br (decide (x189.2 < ((a0.pieces.length : Nat) : Int)))
     (.grd (0 ≤ x189.2 ∧ x189.2 < ((a0.pieces.length : Nat) : Int)) <|
     .cut 1 (fun (y219 : Bool) => ⟨[(1, .ptr 0 0), (4, .pure (.int .i64 x189.1)), (5, .pure (.int .i64 x189.2)), (6, .ptr 1 0), (9, .pure (encL 3 enc_Piece a0.pieces)), (10, .pure (.int .i64 ((a0.pieces.length : Nat) : Int))), (11, .pure (.int .i64 x189.2)), (27, .pure (.bool y219))], [(0, .box [.pure (encL 12 enc_Joint a0.scene.Robot.Joints), .pure (encL 5 enc_Mass a0.scene.Robot.Masses), .pure (encL 3 enc_Shape a0.scene.Shapes), .pure (encL 2 enc_Skip a0.scene.Skips), .pure (encL 1 encI_i64 a0.p), .pure (encL 1 encI_i64 a0.q), .pure (encL 3 enc_Piece a0.pieces)]), (1, .box [.pure (.int .i64 ((a0.pieces.getD ((x189.2).toNat) default).Depth)), .pure (.int .i64 ((a0.pieces.getD ((x189.2).toNat) default).Index)), .pure (encL 3 enc_arr_3_int64 ((a0.pieces.getD ((x189.2).toNat) default).Normals))])], [], 2⟩)
      (.br (x189.2 == 4096)
       (.ret (.out true))
       (.br (decide (((a0.pieces.getD ((x189.2).toNat) default).Depth) < 0))
        (.ret (.out true))
        (.ret (.out (decide (((a0.pieces.getD ((x189.2).toNat) default).Depth) > 20)))))) fun y219 =>
     .br y219
      (.ret (.fin (x189.2, 2001)))
      (.cut 1 (fun (y221 : Bool) => ⟨[(1, .ptr 0 0), (4, .pure (.int .i64 x189.1)), (5, .pure (.int .i64 x189.2)), (6, .ptr 1 0), (9, .pure (encL 3 enc_Piece a0.pieces)), (10, .pure (.int .i64 ((a0.pieces.length : Nat) : Int))), (11, .pure (.int .i64 x189.2)), (39, .pure (.bool y221))], [(0, .box [.pure (encL 12 enc_Joint a0.scene.Robot.Joints), .pure (encL 5 enc_Mass a0.scene.Robot.Masses), .pure (encL 3 enc_Shape a0.scene.Shapes), .pure (encL 2 enc_Skip a0.scene.Skips), .pure (encL 1 encI_i64 a0.p), .pure (encL 1 encI_i64 a0.q), .pure (encL 3 enc_Piece a0.pieces)]), (1, .box [.pure (.int .i64 ((a0.pieces.getD ((x189.2).toNat) default).Depth)), .pure (.int .i64 ((a0.pieces.getD ((x189.2).toNat) default).Index)), .pure (encL 3 enc_arr_3_int64 ((a0.pieces.getD ((x189.2).toNat) default).Normals))])], [], 2⟩)
       (.br (decide (((a0.pieces.getD ((x189.2).toNat) default).Index) < 0))
        (.ret (.out true))
        (.grd (0 ≤ ((a0.pieces.getD ((x189.2).toNat) default).Depth)) <|
        .ret (.out (decide (((a0.pieces.getD ((x189.2).toNat) default).Index) ≥ (IntKind.i64.wrap (1 * 2 ^ (min ((a0.pieces.getD ((x189.2).toNat) default).Depth).toNat 64)))))))) fun y221 =>
      .br y221
       (.ret (.fin (x189.2, 2001)))
       (.grd (0 ≤ ((a0.pieces.getD ((x189.2).toNat) default).Depth)) <|
       .name 10003 ((IntKind.i64.wrap (((a0.pieces.getD ((x189.2).toNat) default).Index) * ((1048576 : Int).fdiv (2 ^ (min ((a0.pieces.getD ((x189.2).toNat) default).Depth).toNat 64)))))) fun z225 =>
       .br (z225 != x189.1)
        (.ret (.fin (x189.2, 2001)))
        (.name 12002 ((IntKind.i64.wrap (x189.1 + ((1048576 : Int).fdiv (2 ^ (min ((a0.pieces.getD ((x189.2).toNat) default).Depth).toNat 64)))))) fun z226 =>
        .ret (.next (z226, (IntKind.i64.wrap (x189.2 + 1))))))))
     (.ret (.out x189.1)))
   (0, 0) [] fun y208 =>
  .br (y208 != 1048576)
   (.ret (((a0.pieces.length : Nat) : Int), 2001))
   (.ret (0, 0))
noncomputable def replay_tiling_C (a0 : S_edgecheck_replay) : CallS (Int × Int) :=
  mkC [] hd Tryz.func91 (by kernel_rfl) (replay_tiling_T a0) 0 [.pure (enc_edgecheck_replay a0)] [] (fun r => .tup [.pure (.int .i64 r.1), .pure (.int .i64 r.2)]) (fun _ => []) (by kernel_rfl)
noncomputable def replay_separated_T (a0 : S_edgecheck_replay) : T (Int × Int) :=
  .loop (fun (x53 : Int) => ⟨[(1, .ptr 0 0), (9, .pure (encL 3 enc_Piece a0.pieces)), (10, .pure (.int .i64 ((a0.pieces.length : Nat) : Int))), (11, .pure (.int .i64 x53))], [(0, .box [.pure (encL 12 enc_Joint a0.scene.Robot.Joints), .pure (encL 5 enc_Mass a0.scene.Robot.Masses), .pure (encL 3 enc_Shape a0.scene.Shapes), .pure (encL 2 enc_Skip a0.scene.Skips), .pure (encL 1 encI_i64 a0.p), .pure (encL 1 encI_i64 a0.q), .pure (encL 3 enc_Piece a0.pieces)])], [], 1⟩)
   (.exit 0) (fun (_ : U0) => ⟨[], [], [], 0⟩)
   (fun x53 => .br (decide (x53 < ((a0.pieces.length : Nat) : Int)))
     (.grd (0 ≤ x53 ∧ x53 < ((a0.pieces.length : Nat) : Int)) <|
     .call (config_Piece_C a0.p a0.q ((a0.pieces.getD ((x53).toNat) default).Depth) ((a0.pieces.getD ((x53).toNat) default).Index)) [] fun y74 =>
     .cut 0 (fun (y77 : Bool) => ⟨[(1, .ptr 0 0), (4, .pure (.int .i64 x53)), (9, .pure (encL 3 enc_Piece a0.pieces)), (10, .pure (.int .i64 ((a0.pieces.length : Nat) : Int))), (11, .pure (.int .i64 x53)), (38, .pure (.bool y77))], [(0, .box [.pure (encL 12 enc_Joint a0.scene.Robot.Joints), .pure (encL 5 enc_Mass a0.scene.Robot.Masses), .pure (encL 3 enc_Shape a0.scene.Shapes), .pure (encL 2 enc_Skip a0.scene.Skips), .pure (encL 1 encI_i64 a0.p), .pure (encL 1 encI_i64 a0.q), .pure (encL 3 enc_Piece a0.pieces)])], [], 1⟩)
      (.br (!y74.2)
       (.ret (.out true))
       (.call (classify_CheckFree_C a0.scene y74.1 ((a0.pieces.getD ((x53).toNat) default).Normals)) [] fun y78 =>
       .ret (.out (!y78)))) fun y77 =>
     .br y77
      (.ret (.fin (x53, 2002)))
      (.ret (.next (IntKind.i64.wrap (x53 + 1)))))
     (.ret (.out .u)))
   0 [] fun _ =>
  .ret (0, 0)
noncomputable def replay_separated_C (a0 : S_edgecheck_replay) : CallS (Int × Int) :=
  mkC [] hd Tryz.func92 (by kernel_rfl) (replay_separated_T a0) 0 [.pure (enc_edgecheck_replay a0)] [] (fun r => .tup [.pure (.int .i64 r.1), .pure (.int .i64 r.2)]) (fun _ => []) (by kernel_rfl)
noncomputable def edgecheck_Check_T (a0 : S_Scene) (a1 : (List Int)) (a2 : (List Int)) (a3 : (List S_Piece)) : T (Int × Int) :=
  .unroll 5 <|
  .known true <|
  .grd (0 ≤ (0 : Int) ∧ (0 : Int) < ((4 : Nat) : Int)) <|
  .call (replay_valid_C (⟨(⟨a0.Robot, a0.Shapes, a0.Skips⟩ : S_Scene), a1, a2, a3⟩ : S_edgecheck_replay)) [] fun y32 =>
  .br (y32.2 != 0)
   (.ret (y32.1, y32.2))
   (.lit 9000 (1) <|
   .known true <|
   .grd (0 ≤ (1 : Int) ∧ (1 : Int) < ((4 : Nat) : Int)) <|
   .call (replay_inside_C (⟨(⟨a0.Robot, a0.Shapes, a0.Skips⟩ : S_Scene), a1, a2, a3⟩ : S_edgecheck_replay)) [] fun y36 =>
   .br (y36.2 != 0)
    (.ret (y36.1, y36.2))
    (.lit 9000 (2) <|
    .known true <|
    .grd (0 ≤ (2 : Int) ∧ (2 : Int) < ((4 : Nat) : Int)) <|
    .call (replay_tiling_C (⟨(⟨a0.Robot, a0.Shapes, a0.Skips⟩ : S_Scene), a1, a2, a3⟩ : S_edgecheck_replay)) [] fun y40 =>
    .br (y40.2 != 0)
     (.ret (y40.1, y40.2))
     (.lit 9000 (3) <|
     .known true <|
     .grd (0 ≤ (3 : Int) ∧ (3 : Int) < ((4 : Nat) : Int)) <|
     .call (replay_separated_C (⟨(⟨a0.Robot, a0.Shapes, a0.Skips⟩ : S_Scene), a1, a2, a3⟩ : S_edgecheck_replay)) [] fun y44 =>
     .br (y44.2 != 0)
      (.ret (y44.1, y44.2))
      (.lit 9000 (4) <|
      .known false <|
      .ret (0, 0)))))
noncomputable def edgecheck_Check_C (a0 : S_Scene) (a1 : (List Int)) (a2 : (List Int)) (a3 : (List S_Piece)) : CallS (Int × Int) :=
  mkC [⟨88, guard88⟩] hd Tryz.func40 (by kernel_rfl) (edgecheck_Check_T a0 a1 a2 a3) 0 [.pure (enc_Scene a0), .pure (encL 1 encI_i64 a1), .pure (encL 1 encI_i64 a2), .pure (encL 3 enc_Piece a3)] [] (fun r => .tup [.pure (.int .i64 r.1), .pure (.int .i64 r.2)]) (fun _ => []) (by kernel_rfl)
noncomputable def edgecheck_Tiles_T (a0 : (List S_Piece)) : T Bool :=
  .call (replay_tiling_C (⟨(⟨(⟨nl, nl⟩ : S_Robot), nl, nl⟩ : S_Scene), nl, nl, a0⟩ : S_edgecheck_replay)) [] fun y2 =>
  .ret (y2.2 == 0)
noncomputable def edgecheck_Tiles_C (a0 : (List S_Piece)) : CallS Bool :=
  mkC [⟨107, guard107⟩] hd Tryz.func50 (by kernel_rfl) (edgecheck_Tiles_T a0) 0 [.pure (encL 3 enc_Piece a0)] [] (fun r => .pure (.bool r)) (fun _ => []) (by kernel_rfl)
noncomputable def law20_awake_T : T Bool :=
  .conv 1001 (cvLit 3 enc_arr_3_int64 ([((-1), 0, 0)] : (List (Int × Int × Int))) 49) <|
  .conv 1003 (cvLit 3 enc_Piece ([(⟨0, 0, ([((-1), 0, 0)] : (List (Int × Int × Int)))⟩ : S_Piece)] : (List S_Piece)) 37) <|
  .call (law20_one_C) [] fun y3 =>
  .conv 2001 (cvLit 1 encI_i64 ([0] : (List Int)) 2) <|
  .conv 2002 (cvLit 1 encI_i64 ([40000] : (List Int)) 2) <|
  .call (edgecheck_Check_C y3 ([0] : (List Int)) ([40000] : (List Int)) ([(⟨0, 0, ([((-1), 0, 0)] : (List (Int × Int × Int)))⟩ : S_Piece)] : (List S_Piece))) [] fun y4 =>
  .call (law20_one_C) [] fun y7 =>
  .conv 3001 (cvLit 1 encI_i64 ([0] : (List Int)) 2) <|
  .conv 3002 (cvLit 1 encI_i64 ([50000] : (List Int)) 2) <|
  .call (edgecheck_Check_C y7 ([0] : (List Int)) ([50000] : (List Int)) ([(⟨0, 0, ([((-1), 0, 0)] : (List (Int × Int × Int)))⟩ : S_Piece)] : (List S_Piece))) [] fun y8 =>
  .call (edgecheck_Tiles_C ([(⟨0, 0, ([((-1), 0, 0)] : (List (Int × Int × Int)))⟩ : S_Piece)] : (List S_Piece))) [] fun y9 =>
  .br y9
   (.br (y4.2 == 0)
    (.ret (y8.2 == 2002))
    (.ret false))
   (.ret false)
noncomputable def law20_awake_C : CallS Bool :=
  mkC [] hd Tryz.func18 (by kernel_rfl) (law20_awake_T) 0 [] [] (fun r => .pure (.bool r)) (fun _ => []) (by kernel_rfl)
noncomputable def edgecheck_Refutes_T (a0 : S_Scene) (a1 : (List Int)) (a2 : (List Int)) (a3 : S_Piece) (a4 : S_Witness) : T Bool :=
  .unroll 3 <|
  .known true <|
  .grd (0 ≤ (0 : Int) ∧ (0 : Int) < ((2 : Nat) : Int)) <|
  .call (replay_valid_C (⟨a0, a1, a2, nl⟩ : S_edgecheck_replay)) [] fun y24 =>
  .br (y24.2 != 0)
   (.ret false)
   (.lit 9000 (1) <|
   .known true <|
   .grd (0 ≤ (1 : Int) ∧ (1 : Int) < ((2 : Nat) : Int)) <|
   .call (replay_inside_C (⟨a0, a1, a2, nl⟩ : S_edgecheck_replay)) [] fun y28 =>
   .br (y28.2 != 0)
    (.ret false)
    (.lit 9000 (2) <|
    .known false <|
    .call (config_Piece_C a1 a2 a3.Depth a3.Index) [] fun y30 =>
    .br y30.2
     (.br (((a3.Normals.length : Nat) : Int) == 0)
      (.call (classify_CheckColliding_C a0 y30.1 a4) [] fun y31 =>
      .ret y31)
      (.ret false))
     (.ret false)))
noncomputable def edgecheck_Refutes_C (a0 : S_Scene) (a1 : (List Int)) (a2 : (List Int)) (a3 : S_Piece) (a4 : S_Witness) : CallS Bool :=
  mkC [⟨96, guard96⟩] hd Tryz.func43 (by kernel_rfl) (edgecheck_Refutes_T a0 a1 a2 a3 a4) 0 [.pure (enc_Scene a0), .pure (encL 1 encI_i64 a1), .pure (encL 1 encI_i64 a2), .pure (enc_Piece a3), .pure (enc_Witness a4)] [] (fun r => .pure (.bool r)) (fun _ => []) (by kernel_rfl)
open Go.Proofs
noncomputable def law20_EdgecheckExclusive_T (a0 : (List Int)) (a1 : (List Int)) (a2 : (List Int)) (a3 : (List Int)) (a4 : Int) (a5 : S_Piece) (a6 : S_Witness) (a7 : Int) (a8 : Int) (a9 : Int) : T Bool :=
  .call (law20_motion_C a0 a1 a2 a4) [] fun y2 =>
  .call (edge_Prove_C (⟨y2.1.Robot, y2.1.Shapes, y2.1.Skips⟩ : S_Scene) y2.2.1 y2.2.2.1 y2.2.2.2) [] fun y4 =>
  .call (make_Round_C a5.Depth 7) [] fun y7 =>
  .call (make_Round_C a5.Index 64) [] fun y8 =>
  .call (make_Config_C y2.1.Robot a3) [] fun y12 =>
  .call (ref10_Box_C y12) [] fun y13 =>
  .call (classify_Box_C (⟨y2.1.Robot, y2.1.Shapes, y2.1.Skips⟩ : S_Scene) y13 nl) [] fun y14 =>
  .cut 0 (fun (_ : U0) => ⟨[], [], [], 0⟩)
   (.br (y4.Kind == 1)
    (.cut 0 (fun (y58 : Bool) => ⟨[(87, .pure (.bool y58))], [], [], 0⟩)
     (.call (edgecheck_Refutes_C (⟨y2.1.Robot, y2.1.Shapes, y2.1.Skips⟩ : S_Scene) y2.2.1 y2.2.2.1 (⟨y7, y8, nl⟩ : S_Piece) (⟨a6.Pair, a6.Left, a6.Right⟩ : S_Witness)) [] fun y59 =>
     .br y59
      (.ret (.out true))
      (.call (edgecheck_Refutes_C (⟨y2.1.Robot, y2.1.Shapes, y2.1.Skips⟩ : S_Scene) y2.2.1 y2.2.2.1 (⟨y7, y8, nl⟩ : S_Piece) y14.Witness) [] fun y60 =>
      .ret (.out y60))) fun y58 =>
    .br y58
     (.ret (.fin false))
     (.ret (.out .u)))
    (.br (y4.Kind == 2)
     (.unroll 1000 <|
     .loop (fun (x67 : ((List (Int × Int × Int)) × Int)) => ⟨[(7, .pure (.int .i64 a7)), (8, .pure (.int .i64 a8)), (9, .pure (.int .i64 a9)), (21, .ptr 0 0), (22, .pure (encL 1 encI_i64 y2.2.1)), (23, .pure (encL 1 encI_i64 y2.2.2.1)), (26, .ptr 1 0), (27, .vec 2), (28, .pure (.int .i64 x67.2))], [(0, .box [.pure (encL 12 enc_Joint y2.1.Robot.Joints), .pure (encL 5 enc_Mass y2.1.Robot.Masses), .pure (encL 3 enc_Shape y2.1.Shapes), .pure (encL 2 enc_Skip y2.1.Skips)]), (1, .box [.pure (.int .i64 y14.Kind), .pure (encL 3 enc_arr_3_int64 y14.Normals), .pure (.int .i64 y14.Witness.Pair), .pure (encL 1 encI_i64 y14.Witness.Left), .pure (encL 1 encI_i64 y14.Witness.Right)]), (2, .vecX 3 1 (lget [.agg [.int .i64 0, .int .i64 0, .unk]]) 37 0 2 3), (3, vecO 3 enc_arr_3_int64 x67.1 49)], [], 4⟩)
      (.exit 1) (fun (y68 : (List S_Piece)) => ⟨[(7, .pure (.int .i64 a7)), (8, .pure (.int .i64 a8)), (9, .pure (.int .i64 a9)), (21, .ptr 0 0), (22, .pure (encL 1 encI_i64 y2.2.1)), (23, .pure (encL 1 encI_i64 y2.2.2.1)), (27, .vec 1)], [(0, .box [.pure (encL 12 enc_Joint y2.1.Robot.Joints), .pure (encL 5 enc_Mass y2.1.Robot.Masses), .pure (encL 3 enc_Shape y2.1.Shapes), .pure (encL 2 enc_Skip y2.1.Skips)]), (1, vecO 3 enc_Piece y68 37)], [], 2⟩)
      (fun x67 => .br (decide (x67.2 < ((y14.Normals.length : Nat) : Int)))
        (.grd (0 ≤ (0 : Int) ∧ (0 : Int) < ((1 : Nat) : Int)) <|
        .ok ((0 : Int).toNat = 0) (by decide) <|
        .grd (0 ≤ x67.2 ∧ x67.2 < ((y14.Normals.length : Nat) : Int)) <|
        .conv 14010 (cvLit 3 enc_arr_3_int64 ([(y14.Normals.getD ((x67.2).toNat) default)] : (List (Int × Int × Int))) 49) <|
        .conv 14011 (cvApp 3 enc_arr_3_int64 x67.1 ([(y14.Normals.getD ((x67.2).toNat) default)] : (List (Int × Int × Int))) 49) <|
        .grd ((x67.1.length + ([(y14.Normals.getD ((x67.2).toNat) default)] : (List (Int × Int × Int))).length) * 24 ≤ 140737488355328 ∧ (x67.1.length + ([(y14.Normals.getD ((x67.2).toNat) default)] : (List (Int × Int × Int))).length) ≤ maxLen) <|
        .grd (0 ≤ (0 : Int) ∧ (0 : Int) < ((1 : Nat) : Int)) <|
        .ok ((0 : Int).toNat = 0) (by decide) <|
        .ret (.next ((x67.1 ++ ([(y14.Normals.getD ((x67.2).toNat) default)] : (List (Int × Int × Int)))), (IntKind.i64.wrap (x67.2 + 1)))))
        (.clo 2 (cvHole 3 enc_Piece 37 (⟨0, 0, x67.1⟩ : S_Piece) [.int .i64 0, .int .i64 0, .unk] 2 (encL 3 enc_arr_3_int64 x67.1) (by kernel_rfl)) <|
        .ret (.out ([(⟨0, 0, x67.1⟩ : S_Piece)] : List S_Piece))))
      (nl, 0) [] fun y68 =>
     .call (law20_pieces_C y68 a7 a8 a9) [] fun y71 =>
     .call (edgecheck_Check_C (⟨y2.1.Robot, y2.1.Shapes, y2.1.Skips⟩ : S_Scene) y2.2.1 y2.2.2.1 y71) [] fun y72 =>
     .br (y72.2 == 0)
      (.ret (.fin false))
      (.ret (.out .u)))
     (.ret (.out .u)))) fun _ =>
  .call (law20_awake_C) [] fun y73 =>
  .ret y73
noncomputable def law20_EdgecheckExclusive_C (a0 : (List Int)) (a1 : (List Int)) (a2 : (List Int)) (a3 : (List Int)) (a4 : Int) (a5 : S_Piece) (a6 : S_Witness) (a7 : Int) (a8 : Int) (a9 : Int) : CallS Bool :=
  mkC [] hd Tryz.func14 (by kernel_rfl) (law20_EdgecheckExclusive_T a0 a1 a2 a3 a4 a5 a6 a7 a8 a9) 0 [.pure (encL 1 encI_i64 a0), .pure (encL 1 encI_i64 a1), .pure (encL 1 encI_i64 a2), .pure (encL 1 encI_i64 a3), .pure (.int .i64 a4), .pure (enc_Piece a5), .pure (enc_Witness a6), .pure (.int .i64 a7), .pure (.int .i64 a8), .pure (.int .i64 a9)] [] (fun r => .pure (.bool r)) (fun _ => []) (by kernel_rfl)
end Go.Abs
