/-
  F4: what functions of the program compute, as trees, with their specifications (printed by a program of ours).
-/
import Derived.Test.YtnehaejghnoigaaGreatF3
namespace Go.Abs
open Go.Proofs
noncomputable def kinematics_links_T (a0 : S_Robot) (a1 : (List S_Interval)) : T (List S_Pose) :=
  .conv 1003 (cvRep 24 enc_Pose 236 (((a0.Joints.length : Nat) : Int)).toNat (⟨(((⟨0, 0⟩ : S_Interval), (⟨0, 0⟩ : S_Interval), (⟨0, 0⟩ : S_Interval)), ((⟨0, 0⟩ : S_Interval), (⟨0, 0⟩ : S_Interval), (⟨0, 0⟩ : S_Interval)), ((⟨0, 0⟩ : S_Interval), (⟨0, 0⟩ : S_Interval), (⟨0, 0⟩ : S_Interval))), ((⟨0, 0⟩ : S_Interval), (⟨0, 0⟩ : S_Interval), (⟨0, 0⟩ : S_Interval))⟩ : S_Pose)) <|
  .grd (0 ≤ ((a0.Joints.length : Nat) : Int) ∧ ((a0.Joints.length : Nat) : Int) ≤ ((a0.Joints.length : Nat) : Int) ∧ ((a0.Joints.length : Nat) : Int) ≤ 9223372036854775807 ∧ ((a0.Joints.length : Nat) : Int) * 192 ≤ 140737488355328) <|
  .loop (fun (x45 : ((List S_Pose) × Int)) => ⟨[(1, .pure (encL 2 enc_Interval a1)), (5, .vec 0), (13, .pure (encL 12 enc_Joint a0.Joints)), (14, .pure (.int .i64 ((a0.Joints.length : Nat) : Int))), (15, .pure (.int .i64 x45.2))], [(0, vecO 24 enc_Pose x45.1 236)], [], 1⟩)
   (.exit 0) (fun (y56 : (List S_Pose)) => ⟨[(5, .vec 0)], [(0, vecO 24 enc_Pose y56 236)], [], 1⟩)
   (fun x45 => .br (decide (x45.2 < ((a0.Joints.length : Nat) : Int)))
     (.cut 0 (fun (y63 : (List S_Pose)) => ⟨[(1, .pure (encL 2 enc_Interval a1)), (5, .vec 0), (13, .pure (encL 12 enc_Joint a0.Joints)), (14, .pure (.int .i64 ((a0.Joints.length : Nat) : Int))), (15, .pure (.int .i64 x45.2))], [(0, vecO 24 enc_Pose y63 236)], [], 1⟩)
      (.grd (0 ≤ x45.2 ∧ x45.2 < ((a0.Joints.length : Nat) : Int)) <|
      .grd (0 ≤ x45.2 ∧ x45.2 < ((a1.length : Nat) : Int)) <|
      .call (kinematics_Joint_C (a0.Joints.getD ((x45.2).toNat) default) (a1.getD ((x45.2).toNat) default)) [] fun y65 =>
      .grd (0 ≤ x45.2 ∧ x45.2 < ((x45.1.length : Nat) : Int)) <|
      .conv 5009 (cvSet 24 enc_Pose x45.1 236 ((x45.2).toNat) y65) <|
      .grd ((x45.2).toNat < x45.1.length ∧ 0 ≤ (x45.2).toNat) <|
      .br (((a0.Joints.getD ((x45.2).toNat) default).Parent) != (-1))
       (.grd (0 ≤ ((a0.Joints.getD ((x45.2).toNat) default).Parent) ∧ ((a0.Joints.getD ((x45.2).toNat) default).Parent) < (((x45.1.set ((x45.2).toNat) y65).length : Nat) : Int)) <|
       .grd (((a0.Joints.getD ((x45.2).toNat) default).Parent).toNat < (x45.1.set ((x45.2).toNat) y65).length) <|
       .grd (0 ≤ x45.2 ∧ x45.2 < (((x45.1.set ((x45.2).toNat) y65).length : Nat) : Int)) <|
       .grd ((x45.2).toNat < (x45.1.set ((x45.2).toNat) y65).length) <|
       .call (pose_Compose_C ((x45.1.set ((x45.2).toNat) y65).getD (((a0.Joints.getD ((x45.2).toNat) default).Parent).toNat) default) ((x45.1.set ((x45.2).toNat) y65).getD ((x45.2).toNat) default)) [] fun y66 =>
       .grd (0 ≤ x45.2 ∧ x45.2 < (((x45.1.set ((x45.2).toNat) y65).length : Nat) : Int)) <|
       .conv 7013 (cvSet 24 enc_Pose (x45.1.set ((x45.2).toNat) y65) 236 ((x45.2).toNat) y66) <|
       .grd ((x45.2).toNat < (x45.1.set ((x45.2).toNat) y65).length ∧ 0 ≤ (x45.2).toNat) <|
       .ret (.out ((x45.1.set ((x45.2).toNat) y65).set ((x45.2).toNat) y66)))
       (.ret (.out (x45.1.set ((x45.2).toNat) y65)))) fun y63 =>
     .ret (.next (y63, (IntKind.i64.wrap (x45.2 + 1)))))
     (.ret (.out x45.1)))
   ((List.replicate (((a0.Joints.length : Nat) : Int)).toNat ((⟨(((⟨0, 0⟩ : S_Interval), (⟨0, 0⟩ : S_Interval), (⟨0, 0⟩ : S_Interval)), ((⟨0, 0⟩ : S_Interval), (⟨0, 0⟩ : S_Interval), (⟨0, 0⟩ : S_Interval)), ((⟨0, 0⟩ : S_Interval), (⟨0, 0⟩ : S_Interval), (⟨0, 0⟩ : S_Interval))), ((⟨0, 0⟩ : S_Interval), (⟨0, 0⟩ : S_Interval), (⟨0, 0⟩ : S_Interval))⟩ : S_Pose) : S_Pose)), 0) [] fun y56 =>
  .ret y56
noncomputable def kinematics_links_C (a0 : S_Robot) (a1 : (List S_Interval)) : CallS (List S_Pose) :=
  mkC [] hd Tryz.func175 (by kernel_rfl) (kinematics_links_T a0 a1) 0 [.pure (enc_Robot a0), .pure (encL 2 enc_Interval a1)] [] (fun r => .pure (encL 24 enc_Pose r)) (fun _ => []) (by kernel_rfl)

noncomputable def shape_Check_T (a0 : S_Shape) : T Bool :=
  .cut 2 (fun (y258 : Bool) => ⟨[(1, .ptr 0 0), (26, .pure (.bool y258))], [(0, .box [.pure (.int .i64 a0.Link), .pure (.int .i64 a0.Radius), .pure (encL 3 enc_arr_3_int64 a0.Points)])], [], 1⟩)
   (.br (decide (a0.Radius < 1))
    (.ret (.out true))
    (.br (decide (a0.Radius > 1048576))
     (.ret (.out true))
     (.br (decide (((a0.Points.length : Nat) : Int) < 1))
      (.ret (.out true))
      (.ret (.out (decide (((a0.Points.length : Nat) : Int) > 8))))))) fun y258 =>
  .br y258
   (.ret false)
   (.loop (fun (x431 : Int) => ⟨[(28, .pure (encL 3 enc_arr_3_int64 a0.Points)), (29, .pure (.int .i64 ((a0.Points.length : Nat) : Int))), (30, .pure (.int .i64 x431))], [], [], 0⟩)
    (.exit 0) (fun (_ : U0) => ⟨[], [], [], 0⟩)
    (fun x431 => .br (decide (x431 < ((a0.Points.length : Nat) : Int)))
      (.grd (0 ≤ x431 ∧ x431 < ((a0.Points.length : Nat) : Int)) <|
      .loop (fun (x503 : Int) => ⟨[(28, .pure (encL 3 enc_arr_3_int64 a0.Points)), (29, .pure (.int .i64 ((a0.Points.length : Nat) : Int))), (30, .pure (.int .i64 x431)), (34, .pure (enc_arr_3_int64 (a0.Points.getD ((x431).toNat) default))), (35, .pure (.int .i64 x503))], [], [], 0⟩)
       (.exit 2) (fun (_ : U0) => ⟨[(28, .pure (encL 3 enc_arr_3_int64 a0.Points)), (29, .pure (.int .i64 ((a0.Points.length : Nat) : Int))), (30, .pure (.int .i64 x431))], [], [], 0⟩)
       (fun x503 => .br (decide (x503 < 3))
         (.grd (0 ≤ x503 ∧ x503 < ((3 : Nat) : Int)) <|
         .name 8000 ((([(a0.Points.getD ((x431).toNat) default).1, (a0.Points.getD ((x431).toNat) default).2.1, (a0.Points.getD ((x431).toNat) default).2.2] : List Int).getD (x503).toNat 0)) fun z515 =>
         .cut 0 (fun (y516 : Bool) => ⟨[(28, .pure (encL 3 enc_arr_3_int64 a0.Points)), (29, .pure (.int .i64 ((a0.Points.length : Nat) : Int))), (30, .pure (.int .i64 x431)), (34, .pure (enc_arr_3_int64 (a0.Points.getD ((x431).toNat) default))), (35, .pure (.int .i64 x503)), (43, .pure (.bool y516))], [], [], 0⟩)
          (.br (decide (z515 < (-4194304)))
           (.ret (.out true))
           (.ret (.out (decide (z515 > 4194304))))) fun y516 =>
         .br y516
          (.ret (.fin (.fin false)))
          (.ret (.next (IntKind.i64.wrap (x503 + 1)))))
         (.ret (.out .u)))
       0 [] fun _ =>
      .ret (.next (IntKind.i64.wrap (x431 + 1))))
      (.ret (.out .u)))
    0 [] fun _ =>
   .ret true)
noncomputable def shape_Check_C (a0 : S_Shape) : CallS Bool :=
  mkC [] hd Tryz.func229 (by kernel_rfl) (shape_Check_T a0) 0 [.pure (enc_Shape a0)] [] (fun r => .pure (.bool r)) (fun _ => []) (by kernel_rfl)

noncomputable def pose_Apply_T (a0 : S_Pose) (a1 : (S_Interval × S_Interval × S_Interval)) : T (S_Interval × S_Interval × S_Interval) :=
  .call (pose_mover_C a0) [] fun y1 =>
  .call (pose_mover_1_C a1 y1.1 y1.2.1 y1.2.2.1 y1.2.2.2.1 y1.2.2.2.2.1 y1.2.2.2.2.2.1 y1.2.2.2.2.2.2.1 y1.2.2.2.2.2.2.2.1 y1.2.2.2.2.2.2.2.2.1 y1.2.2.2.2.2.2.2.2.2.1 y1.2.2.2.2.2.2.2.2.2.2.1 y1.2.2.2.2.2.2.2.2.2.2.2.1 y1.2.2.2.2.2.2.2.2.2.2.2.2.1 y1.2.2.2.2.2.2.2.2.2.2.2.2.2.1 y1.2.2.2.2.2.2.2.2.2.2.2.2.2.2.1 y1.2.2.2.2.2.2.2.2.2.2.2.2.2.2.2.1 y1.2.2.2.2.2.2.2.2.2.2.2.2.2.2.2.2.1 y1.2.2.2.2.2.2.2.2.2.2.2.2.2.2.2.2.2.1 y1.2.2.2.2.2.2.2.2.2.2.2.2.2.2.2.2.2.2.1 y1.2.2.2.2.2.2.2.2.2.2.2.2.2.2.2.2.2.2.2.1 y1.2.2.2.2.2.2.2.2.2.2.2.2.2.2.2.2.2.2.2.2.1 y1.2.2.2.2.2.2.2.2.2.2.2.2.2.2.2.2.2.2.2.2.2.1 y1.2.2.2.2.2.2.2.2.2.2.2.2.2.2.2.2.2.2.2.2.2.2.1 y1.2.2.2.2.2.2.2.2.2.2.2.2.2.2.2.2.2.2.2.2.2.2.2) [(0, 256)] fun y2 =>
  .ret y2.1
noncomputable def pose_Apply_C (a0 : S_Pose) (a1 : (S_Interval × S_Interval × S_Interval)) : CallS (S_Interval × S_Interval × S_Interval) :=
  mkC [] hd Tryz.func230 (by kernel_rfl) (pose_Apply_T a0 a1) 0 [.pure (enc_Pose a0), .pure (enc_arr_3_Interval a1)] [] (fun r => .pure (enc_arr_3_Interval r)) (fun _ => []) (by kernel_rfl)

noncomputable def shape_Place_T (a0 : S_Shape) (a1 : S_Pose) : T (List (S_Interval × S_Interval × S_Interval)) :=
  .call (shape_Check_C a0) [] fun y4 =>
  .br (!y4)
   (.ret nl)
   (.conv 3003 (cvRep 6 enc_arr_3_Interval 199 (((a0.Points.length : Nat) : Int)).toNat ((⟨0, 0⟩ : S_Interval), (⟨0, 0⟩ : S_Interval), (⟨0, 0⟩ : S_Interval))) <|
   .grd (0 ≤ ((a0.Points.length : Nat) : Int) ∧ ((a0.Points.length : Nat) : Int) ≤ ((a0.Points.length : Nat) : Int) ∧ ((a0.Points.length : Nat) : Int) ≤ 9223372036854775807 ∧ ((a0.Points.length : Nat) : Int) * 48 ≤ 140737488355328) <|
   .loop (fun (x25 : ((List (S_Interval × S_Interval × S_Interval)) × Int)) => ⟨[(3, .ptr 0 0), (5, .vec 1), (16, .pure (encL 3 enc_arr_3_int64 a0.Points)), (17, .pure (.int .i64 ((a0.Points.length : Nat) : Int))), (18, .pure (.int .i64 x25.2))], [(0, .box [.pure (.int .i64 a1.R.1.1.Lo), .pure (.int .i64 a1.R.1.1.Hi), .pure (.int .i64 a1.R.1.2.1.Lo), .pure (.int .i64 a1.R.1.2.1.Hi), .pure (.int .i64 a1.R.1.2.2.Lo), .pure (.int .i64 a1.R.1.2.2.Hi), .pure (.int .i64 a1.R.2.1.1.Lo), .pure (.int .i64 a1.R.2.1.1.Hi), .pure (.int .i64 a1.R.2.1.2.1.Lo), .pure (.int .i64 a1.R.2.1.2.1.Hi), .pure (.int .i64 a1.R.2.1.2.2.Lo), .pure (.int .i64 a1.R.2.1.2.2.Hi), .pure (.int .i64 a1.R.2.2.1.Lo), .pure (.int .i64 a1.R.2.2.1.Hi), .pure (.int .i64 a1.R.2.2.2.1.Lo), .pure (.int .i64 a1.R.2.2.2.1.Hi), .pure (.int .i64 a1.R.2.2.2.2.Lo), .pure (.int .i64 a1.R.2.2.2.2.Hi), .pure (.int .i64 a1.T.1.Lo), .pure (.int .i64 a1.T.1.Hi), .pure (.int .i64 a1.T.2.1.Lo), .pure (.int .i64 a1.T.2.1.Hi), .pure (.int .i64 a1.T.2.2.Lo), .pure (.int .i64 a1.T.2.2.Hi)]), (1, vecO 6 enc_arr_3_Interval x25.1 199)], [], 2⟩)
    (.exit 0) (fun (y30 : (List (S_Interval × S_Interval × S_Interval))) => ⟨[(5, .vec 0)], [(0, vecO 6 enc_arr_3_Interval y30 199)], [], 1⟩)
    (fun x25 => .br (decide (x25.2 < ((a0.Points.length : Nat) : Int)))
      (.grd (0 ≤ x25.2 ∧ x25.2 < ((a0.Points.length : Nat) : Int)) <|
      .call (matrix_Point_C (a0.Points.getD ((x25.2).toNat) default)) [] fun y33 =>
      .call (pose_Apply_C (⟨a1.R, a1.T⟩ : S_Pose) y33) [] fun y34 =>
      .grd (0 ≤ x25.2 ∧ x25.2 < ((x25.1.length : Nat) : Int)) <|
      .conv 7007 (cvSet 6 enc_arr_3_Interval x25.1 199 ((x25.2).toNat) y34) <|
      .grd ((x25.2).toNat < x25.1.length ∧ 0 ≤ (x25.2).toNat) <|
      .ret (.next ((x25.1.set ((x25.2).toNat) y34), (IntKind.i64.wrap (x25.2 + 1)))))
      (.ret (.out x25.1)))
    ((List.replicate (((a0.Points.length : Nat) : Int)).toNat (((⟨0, 0⟩ : S_Interval), (⟨0, 0⟩ : S_Interval), (⟨0, 0⟩ : S_Interval)) : (S_Interval × S_Interval × S_Interval))), 0) [] fun y30 =>
   .ret y30)
noncomputable def shape_Place_C (a0 : S_Shape) (a1 : S_Pose) : CallS (List (S_Interval × S_Interval × S_Interval)) :=
  mkC [] hd Tryz.func177 (by kernel_rfl) (shape_Place_T a0 a1) 0 [.pure (enc_Shape a0), .pure (enc_Pose a1)] [] (fun r => .pure (encL 6 enc_arr_3_Interval r)) (fun _ => []) (by kernel_rfl)

set_option maxHeartbeats 8000000 in
set_option maxRecDepth 20000 in
noncomputable def kinematics_Points_T (a0 : S_Scene) (a1 : (List S_Interval)) : T (List (List (S_Interval × S_Interval × S_Interval))) :=
  .cut 2 (fun (y12 : Bool) => ⟨[(1, .pure (encL 2 enc_Interval a1)), (2, .ptr 0 0), (19, .pure (.bool y12))], [(0, .box [.pure (encL 12 enc_Joint a0.Robot.Joints), .pure (encL 5 enc_Mass a0.Robot.Masses), .pure (encL 3 enc_Shape a0.Shapes), .pure (encL 2 enc_Skip a0.Skips)])], [], 1⟩)
   (.call (kinematics_isBox_C a0.Robot a1) [] fun y13 =>
   .br (!y13)
    (.ret (.out true))
    (.call (scene_Check_C (⟨a0.Robot, a0.Shapes, a0.Skips⟩ : S_Scene)) [] fun y14 =>
    .ret (.out (y14 != 0)))) fun y12 =>
  .br y12
   (.ret nl)
   (.call (kinematics_links_C a0.Robot a1) [] fun y16 =>
   .conv 4003 (cvRepP 1 (encL 6 enc_arr_3_Interval) 118 (((a0.Shapes.length : Nat) : Int)).toNat nl (.lst 0 0 fun _ => .unk) (by kernel_rfl)) <|
   .grd (0 ≤ ((a0.Shapes.length : Nat) : Int) ∧ ((a0.Shapes.length : Nat) : Int) ≤ ((a0.Shapes.length : Nat) : Int) ∧ ((a0.Shapes.length : Nat) : Int) ≤ 9223372036854775807 ∧ ((a0.Shapes.length : Nat) : Int) * 24 ≤ 140737488355328) <|
   .loop (fun (x53 : ((List (List (S_Interval × S_Interval × S_Interval))) × Int)) => ⟨[(5, .pure (encL 24 enc_Pose y16)), (6, .vec 0), (29, .pure (encL 3 enc_Shape a0.Shapes)), (30, .pure (.int .i64 ((a0.Shapes.length : Nat) : Int))), (31, .pure (.int .i64 x53.2))], [(0, vecO 1 (encL 6 enc_arr_3_Interval) x53.1 118)], [], 1⟩)
    (.exit 0) (fun (y62 : (List (List (S_Interval × S_Interval × S_Interval)))) => ⟨[(6, .vec 0)], [(0, vecO 1 (encL 6 enc_arr_3_Interval) y62 118)], [], 1⟩)
    (fun x53 => .br (decide (x53.2 < ((a0.Shapes.length : Nat) : Int)))
      (.grd (0 ≤ x53.2 ∧ x53.2 < ((a0.Shapes.length : Nat) : Int)) <|
      .call (pose_Identity_C) [] fun y68 =>
      .cut 0 (fun (y69 : (Int × Int × Int × Int × Int × Int × Int × Int × Int × Int × Int × Int × Int × Int × Int × Int × Int × Int × Int × Int × Int × Int × Int × Int)) => ⟨[(5, .pure (encL 24 enc_Pose y16)), (6, .vec 0), (7, .pure (.int .i64 x53.2)), (8, .ptr 1 0), (9, .ptr 2 0), (29, .pure (encL 3 enc_Shape a0.Shapes)), (30, .pure (.int .i64 ((a0.Shapes.length : Nat) : Int))), (31, .pure (.int .i64 x53.2))], [(0, vecO 1 (encL 6 enc_arr_3_Interval) x53.1 118), (1, .box [.pure (.int .i64 ((a0.Shapes.getD ((x53.2).toNat) default).Link)), .pure (.int .i64 ((a0.Shapes.getD ((x53.2).toNat) default).Radius)), .pure (encL 3 enc_arr_3_int64 ((a0.Shapes.getD ((x53.2).toNat) default).Points))]), (2, .box [.pure (.int .i64 y69.1), .pure (.int .i64 y69.2.1), .pure (.int .i64 y69.2.2.1), .pure (.int .i64 y69.2.2.2.1), .pure (.int .i64 y69.2.2.2.2.1), .pure (.int .i64 y69.2.2.2.2.2.1), .pure (.int .i64 y69.2.2.2.2.2.2.1), .pure (.int .i64 y69.2.2.2.2.2.2.2.1), .pure (.int .i64 y69.2.2.2.2.2.2.2.2.1), .pure (.int .i64 y69.2.2.2.2.2.2.2.2.2.1), .pure (.int .i64 y69.2.2.2.2.2.2.2.2.2.2.1), .pure (.int .i64 y69.2.2.2.2.2.2.2.2.2.2.2.1), .pure (.int .i64 y69.2.2.2.2.2.2.2.2.2.2.2.2.1), .pure (.int .i64 y69.2.2.2.2.2.2.2.2.2.2.2.2.2.1), .pure (.int .i64 y69.2.2.2.2.2.2.2.2.2.2.2.2.2.2.1), .pure (.int .i64 y69.2.2.2.2.2.2.2.2.2.2.2.2.2.2.2.1), .pure (.int .i64 y69.2.2.2.2.2.2.2.2.2.2.2.2.2.2.2.2.1), .pure (.int .i64 y69.2.2.2.2.2.2.2.2.2.2.2.2.2.2.2.2.2.1), .pure (.int .i64 y69.2.2.2.2.2.2.2.2.2.2.2.2.2.2.2.2.2.2.1), .pure (.int .i64 y69.2.2.2.2.2.2.2.2.2.2.2.2.2.2.2.2.2.2.2.1), .pure (.int .i64 y69.2.2.2.2.2.2.2.2.2.2.2.2.2.2.2.2.2.2.2.2.1), .pure (.int .i64 y69.2.2.2.2.2.2.2.2.2.2.2.2.2.2.2.2.2.2.2.2.2.1), .pure (.int .i64 y69.2.2.2.2.2.2.2.2.2.2.2.2.2.2.2.2.2.2.2.2.2.2.1), .pure (.int .i64 y69.2.2.2.2.2.2.2.2.2.2.2.2.2.2.2.2.2.2.2.2.2.2.2)])], [], 3⟩)
       (.br (((a0.Shapes.getD ((x53.2).toNat) default).Link) != (-1))
        (.grd (0 ≤ ((a0.Shapes.getD ((x53.2).toNat) default).Link) ∧ ((a0.Shapes.getD ((x53.2).toNat) default).Link) < ((y16.length : Nat) : Int)) <|
        .ret (.out ((y16.getD (((a0.Shapes.getD ((x53.2).toNat) default).Link).toNat) default).R.1.1.Lo, (y16.getD (((a0.Shapes.getD ((x53.2).toNat) default).Link).toNat) default).R.1.1.Hi, (y16.getD (((a0.Shapes.getD ((x53.2).toNat) default).Link).toNat) default).R.1.2.1.Lo, (y16.getD (((a0.Shapes.getD ((x53.2).toNat) default).Link).toNat) default).R.1.2.1.Hi, (y16.getD (((a0.Shapes.getD ((x53.2).toNat) default).Link).toNat) default).R.1.2.2.Lo, (y16.getD (((a0.Shapes.getD ((x53.2).toNat) default).Link).toNat) default).R.1.2.2.Hi, (y16.getD (((a0.Shapes.getD ((x53.2).toNat) default).Link).toNat) default).R.2.1.1.Lo, (y16.getD (((a0.Shapes.getD ((x53.2).toNat) default).Link).toNat) default).R.2.1.1.Hi, (y16.getD (((a0.Shapes.getD ((x53.2).toNat) default).Link).toNat) default).R.2.1.2.1.Lo, (y16.getD (((a0.Shapes.getD ((x53.2).toNat) default).Link).toNat) default).R.2.1.2.1.Hi, (y16.getD (((a0.Shapes.getD ((x53.2).toNat) default).Link).toNat) default).R.2.1.2.2.Lo, (y16.getD (((a0.Shapes.getD ((x53.2).toNat) default).Link).toNat) default).R.2.1.2.2.Hi, (y16.getD (((a0.Shapes.getD ((x53.2).toNat) default).Link).toNat) default).R.2.2.1.Lo, (y16.getD (((a0.Shapes.getD ((x53.2).toNat) default).Link).toNat) default).R.2.2.1.Hi, (y16.getD (((a0.Shapes.getD ((x53.2).toNat) default).Link).toNat) default).R.2.2.2.1.Lo, (y16.getD (((a0.Shapes.getD ((x53.2).toNat) default).Link).toNat) default).R.2.2.2.1.Hi, (y16.getD (((a0.Shapes.getD ((x53.2).toNat) default).Link).toNat) default).R.2.2.2.2.Lo, (y16.getD (((a0.Shapes.getD ((x53.2).toNat) default).Link).toNat) default).R.2.2.2.2.Hi, (y16.getD (((a0.Shapes.getD ((x53.2).toNat) default).Link).toNat) default).T.1.Lo, (y16.getD (((a0.Shapes.getD ((x53.2).toNat) default).Link).toNat) default).T.1.Hi, (y16.getD (((a0.Shapes.getD ((x53.2).toNat) default).Link).toNat) default).T.2.1.Lo, (y16.getD (((a0.Shapes.getD ((x53.2).toNat) default).Link).toNat) default).T.2.1.Hi, (y16.getD (((a0.Shapes.getD ((x53.2).toNat) default).Link).toNat) default).T.2.2.Lo, (y16.getD (((a0.Shapes.getD ((x53.2).toNat) default).Link).toNat) default).T.2.2.Hi)))
        (.ret (.out (y68.R.1.1.Lo, y68.R.1.1.Hi, y68.R.1.2.1.Lo, y68.R.1.2.1.Hi, y68.R.1.2.2.Lo, y68.R.1.2.2.Hi, y68.R.2.1.1.Lo, y68.R.2.1.1.Hi, y68.R.2.1.2.1.Lo, y68.R.2.1.2.1.Hi, y68.R.2.1.2.2.Lo, y68.R.2.1.2.2.Hi, y68.R.2.2.1.Lo, y68.R.2.2.1.Hi, y68.R.2.2.2.1.Lo, y68.R.2.2.2.1.Hi, y68.R.2.2.2.2.Lo, y68.R.2.2.2.2.Hi, y68.T.1.Lo, y68.T.1.Hi, y68.T.2.1.Lo, y68.T.2.1.Hi, y68.T.2.2.Lo, y68.T.2.2.Hi)))) fun y69 =>
      .call (shape_Place_C (a0.Shapes.getD ((x53.2).toNat) default) (⟨(((⟨y69.1, y69.2.1⟩ : S_Interval), (⟨y69.2.2.1, y69.2.2.2.1⟩ : S_Interval), (⟨y69.2.2.2.2.1, y69.2.2.2.2.2.1⟩ : S_Interval)), ((⟨y69.2.2.2.2.2.2.1, y69.2.2.2.2.2.2.2.1⟩ : S_Interval), (⟨y69.2.2.2.2.2.2.2.2.1, y69.2.2.2.2.2.2.2.2.2.1⟩ : S_Interval), (⟨y69.2.2.2.2.2.2.2.2.2.2.1, y69.2.2.2.2.2.2.2.2.2.2.2.1⟩ : S_Interval)), ((⟨y69.2.2.2.2.2.2.2.2.2.2.2.2.1, y69.2.2.2.2.2.2.2.2.2.2.2.2.2.1⟩ : S_Interval), (⟨y69.2.2.2.2.2.2.2.2.2.2.2.2.2.2.1, y69.2.2.2.2.2.2.2.2.2.2.2.2.2.2.2.1⟩ : S_Interval), (⟨y69.2.2.2.2.2.2.2.2.2.2.2.2.2.2.2.2.1, y69.2.2.2.2.2.2.2.2.2.2.2.2.2.2.2.2.2.1⟩ : S_Interval))), ((⟨y69.2.2.2.2.2.2.2.2.2.2.2.2.2.2.2.2.2.2.1, y69.2.2.2.2.2.2.2.2.2.2.2.2.2.2.2.2.2.2.2.1⟩ : S_Interval), (⟨y69.2.2.2.2.2.2.2.2.2.2.2.2.2.2.2.2.2.2.2.2.1, y69.2.2.2.2.2.2.2.2.2.2.2.2.2.2.2.2.2.2.2.2.2.1⟩ : S_Interval), (⟨y69.2.2.2.2.2.2.2.2.2.2.2.2.2.2.2.2.2.2.2.2.2.2.1, y69.2.2.2.2.2.2.2.2.2.2.2.2.2.2.2.2.2.2.2.2.2.2.2⟩ : S_Interval))⟩ : S_Pose)) [] fun y70 =>
      .grd (0 ≤ x53.2 ∧ x53.2 < ((x53.1.length : Nat) : Int)) <|
      .conv 11006 (cvSet 1 (encL 6 enc_arr_3_Interval) x53.1 118 ((x53.2).toNat) y70) <|
      .grd ((x53.2).toNat < x53.1.length ∧ 0 ≤ (x53.2).toNat) <|
      .ret (.next ((x53.1.set ((x53.2).toNat) y70), (IntKind.i64.wrap (x53.2 + 1)))))
      (.ret (.out x53.1)))
    ((List.replicate (((a0.Shapes.length : Nat) : Int)).toNat (nl : (List (S_Interval × S_Interval × S_Interval)))), 0) [] fun y62 =>
   .ret y62)
noncomputable def kinematics_Points_C (a0 : S_Scene) (a1 : (List S_Interval)) : CallS (List (List (S_Interval × S_Interval × S_Interval))) :=
  mkC [] hd Tryz.func134 (by kernel_rfl) (kinematics_Points_T a0 a1) 0 [.pure (enc_Scene a0), .pure (encL 2 enc_Interval a1)] [] (fun r => .pure (encL 1 (encL 6 enc_arr_3_Interval) r)) (fun _ => []) (by kernel_rfl)

noncomputable def classify_place_T (a0 : S_Scene) (a1 : (List S_Interval)) : T (S_classify_body × Bool) :=
  .cut 2 (fun (y7 : Bool) => ⟨[(1, .pure (encL 2 enc_Interval a1)), (2, .ptr 0 0), (4, .ptr 1 0), (19, .pure (.bool y7))], [(0, .box [.pure (encL 12 enc_Joint a0.Robot.Joints), .pure (encL 5 enc_Mass a0.Robot.Masses), .pure (encL 3 enc_Shape a0.Shapes), .pure (encL 2 enc_Skip a0.Skips)]), (1, .box [.vec 2, .vec 3, .vec 4]), (2, .nilv), (3, .nilv), (4, .nilv)], [], 5⟩)
   (.call (scene_Check_C a0) [] fun y8 =>
   .br (y8 != 0)
    (.ret (.out true))
    (.ret (.out (((a1.length : Nat) : Int) != ((a0.Robot.Joints.length : Nat) : Int))))) fun y7 =>
  .br y7
   (.ret ((⟨nl, nl, nl⟩ : S_classify_body), false))
   (.loop (fun (x29 : Int) => ⟨[(1, .pure (encL 2 enc_Interval a1)), (2, .ptr 0 0), (4, .ptr 1 0), (21, .pure (encL 2 enc_Interval a1)), (22, .pure (.int .i64 ((a1.length : Nat) : Int))), (23, .pure (.int .i64 x29))], [(0, .box [.pure (encL 12 enc_Joint a0.Robot.Joints), .pure (encL 5 enc_Mass a0.Robot.Masses), .pure (encL 3 enc_Shape a0.Shapes), .pure (encL 2 enc_Skip a0.Skips)]), (1, .box [.vec 2, .vec 3, .vec 4]), (2, .nilv), (3, .nilv), (4, .nilv)], [], 5⟩)
    (.exit 0) (fun (_ : U0) => ⟨[(1, .pure (encL 2 enc_Interval a1)), (2, .ptr 0 0), (4, .ptr 1 0)], [(0, .box [.pure (encL 12 enc_Joint a0.Robot.Joints), .pure (encL 5 enc_Mass a0.Robot.Masses), .pure (encL 3 enc_Shape a0.Shapes), .pure (encL 2 enc_Skip a0.Skips)]), (1, .box [.vec 2, .vec 3, .vec 4]), (2, .nilv), (3, .nilv), (4, .nilv)], [], 5⟩)
    (fun x29 => .br (decide (x29 < ((a1.length : Nat) : Int)))
      (.grd (0 ≤ x29 ∧ x29 < ((a1.length : Nat) : Int)) <|
      .call (interval_Valid_C (a1.getD ((x29).toNat) default)) [] fun y38 =>
      .br (!y38)
       (.ret (.fin ((⟨nl, nl, nl⟩ : S_classify_body), false)))
       (.ret (.next (IntKind.i64.wrap (x29 + 1)))))
      (.ret (.out .u)))
    0 [] fun _ =>
   .call (scene_Pairs_C a0) [] fun y39 =>
   .call (kinematics_Points_C (⟨a0.Robot, a0.Shapes, a0.Skips⟩ : S_Scene) a1) [] fun y40 =>
   .ret ((⟨a0.Shapes, y39, y40⟩ : S_classify_body), true))
noncomputable def classify_place_C (a0 : S_Scene) (a1 : (List S_Interval)) : CallS (S_classify_body × Bool) :=
  mkC [] hd Tryz.func74 (by kernel_rfl) (classify_place_T a0 a1) 0 [.pure (enc_Scene a0), .pure (encL 2 enc_Interval a1)] [] (fun r => .tup [.pure (enc_classify_body r.1), .pure (.bool r.2)]) (fun _ => []) (by kernel_rfl)

noncomputable def body_couple_T (a0 : S_classify_body) (a1 : Int) : T S_classify_couple :=
  .grd (0 ≤ a1 ∧ a1 < ((a0.pairs.length : Nat) : Int)) <|
  .grd (0 ≤ ((a0.pairs.getD ((a1).toNat) default).A) ∧ ((a0.pairs.getD ((a1).toNat) default).A) < ((a0.points.length : Nat) : Int)) <|
  .grd (0 ≤ ((a0.pairs.getD ((a1).toNat) default).A) ∧ ((a0.pairs.getD ((a1).toNat) default).A) < ((a0.shapes.length : Nat) : Int)) <|
  .grd (0 ≤ ((a0.pairs.getD ((a1).toNat) default).B) ∧ ((a0.pairs.getD ((a1).toNat) default).B) < ((a0.points.length : Nat) : Int)) <|
  .grd (0 ≤ ((a0.pairs.getD ((a1).toNat) default).B) ∧ ((a0.pairs.getD ((a1).toNat) default).B) < ((a0.shapes.length : Nat) : Int)) <|
  .ret (⟨(a0.points.getD (((a0.pairs.getD ((a1).toNat) default).A).toNat) default), (a0.points.getD (((a0.pairs.getD ((a1).toNat) default).B).toNat) default), (a0.shapes.getD (((a0.pairs.getD ((a1).toNat) default).A).toNat) default).Radius, (a0.shapes.getD (((a0.pairs.getD ((a1).toNat) default).B).toNat) default).Radius⟩ : S_classify_couple)
noncomputable def body_couple_C (a0 : S_classify_body) (a1 : Int) : CallS S_classify_couple :=
  mkC [] hd Tryz.func75 (by kernel_rfl) (body_couple_T a0 a1) 0 [.pure (enc_classify_body a0), .pure (.int .i64 a1)] [] (fun r => .pure (enc_classify_couple r)) (fun _ => []) (by kernel_rfl)

noncomputable def plane_both_T (a0 : (List (S_Interval × S_Interval × S_Interval))) (a1 : Int) (a2 : (List (S_Interval × S_Interval × S_Interval))) (a3 : Int) : T S_plane_sides :=
  .ret (⟨(⟨a0, a1⟩ : S_plane_side), (⟨a2, a3⟩ : S_plane_side)⟩ : S_plane_sides)
noncomputable def plane_both_C (a0 : (List (S_Interval × S_Interval × S_Interval))) (a1 : Int) (a2 : (List (S_Interval × S_Interval × S_Interval))) (a3 : Int) : CallS S_plane_sides :=
  mkC [] hd Tryz.func184 (by kernel_rfl) (plane_both_T a0 a1 a2 a3) 0 [.pure (encL 6 enc_arr_3_Interval a0), .pure (.int .i64 a1), .pure (encL 6 enc_arr_3_Interval a2), .pure (.int .i64 a3)] [] (fun r => .pure (enc_plane_sides r)) (fun _ => []) (by kernel_rfl)

noncomputable def shape_Placed_T (a0 : (List (S_Interval × S_Interval × S_Interval))) : T Bool :=
  .cut 2 (fun (y2 : Bool) => ⟨[(0, .pure (encL 6 enc_arr_3_Interval a0)), (14, .pure (.bool y2))], [], [], 0⟩)
   (.br (decide (((a0.length : Nat) : Int) < 1))
    (.ret (.out true))
    (.ret (.out (decide (((a0.length : Nat) : Int) > 8))))) fun y2 =>
  .br y2
   (.ret false)
   (.loop (fun (x87 : Int) => ⟨[(15, .pure (encL 6 enc_arr_3_Interval a0)), (16, .pure (.int .i64 ((a0.length : Nat) : Int))), (17, .pure (.int .i64 x87))], [], [], 0⟩)
    (.exit 0) (fun (_ : U0) => ⟨[], [], [], 0⟩)
    (fun x87 => .br (decide (x87 < ((a0.length : Nat) : Int)))
      (.grd (0 ≤ x87 ∧ x87 < ((a0.length : Nat) : Int)) <|
      .unroll 4 <|
      .known true <|
      .ix 0 3 rfl <|
      .cut 0 (fun (y124 : Bool) => ⟨[(15, .pure (encL 6 enc_arr_3_Interval a0)), (16, .pure (.int .i64 ((a0.length : Nat) : Int))), (17, .pure (.int .i64 x87)), (21, .pure (enc_arr_3_Interval (a0.getD ((x87).toNat) default))), (22, .pure (.int .i64 0)), (39, .pure (.bool y124))], [], [], 0⟩)
       (.br (decide (((a0.getD ((x87).toNat) default).1.Lo) < (-268435456)))
        (.ret (.out true))
        (.br (decide (((a0.getD ((x87).toNat) default).1.Lo) > ((a0.getD ((x87).toNat) default).1.Hi)))
         (.ret (.out true))
         (.ret (.out (decide (((a0.getD ((x87).toNat) default).1.Hi) > 268435456)))))) fun y124 =>
      .br y124
       (.ret (.fin false))
       (.lit 11000 (1) <|
       .known true <|
       .ix 1 3 rfl <|
       .cut 0 (fun (y126 : Bool) => ⟨[(15, .pure (encL 6 enc_arr_3_Interval a0)), (16, .pure (.int .i64 ((a0.length : Nat) : Int))), (17, .pure (.int .i64 x87)), (21, .pure (enc_arr_3_Interval (a0.getD ((x87).toNat) default))), (22, .pure (.int .i64 1)), (39, .pure (.bool y126))], [], [], 0⟩)
        (.br (decide (((a0.getD ((x87).toNat) default).2.1.Lo) < (-268435456)))
         (.ret (.out true))
         (.br (decide (((a0.getD ((x87).toNat) default).2.1.Lo) > ((a0.getD ((x87).toNat) default).2.1.Hi)))
          (.ret (.out true))
          (.ret (.out (decide (((a0.getD ((x87).toNat) default).2.1.Hi) > 268435456)))))) fun y126 =>
       .br y126
        (.ret (.fin false))
        (.lit 11000 (2) <|
        .known true <|
        .ix 2 3 rfl <|
        .cut 0 (fun (y128 : Bool) => ⟨[(15, .pure (encL 6 enc_arr_3_Interval a0)), (16, .pure (.int .i64 ((a0.length : Nat) : Int))), (17, .pure (.int .i64 x87)), (21, .pure (enc_arr_3_Interval (a0.getD ((x87).toNat) default))), (22, .pure (.int .i64 2)), (39, .pure (.bool y128))], [], [], 0⟩)
         (.br (decide (((a0.getD ((x87).toNat) default).2.2.Lo) < (-268435456)))
          (.ret (.out true))
          (.br (decide (((a0.getD ((x87).toNat) default).2.2.Lo) > ((a0.getD ((x87).toNat) default).2.2.Hi)))
           (.ret (.out true))
           (.ret (.out (decide (((a0.getD ((x87).toNat) default).2.2.Hi) > 268435456)))))) fun y128 =>
        .br y128
         (.ret (.fin false))
         (.lit 11000 (3) <|
         .known false <|
         .ret (.next (IntKind.i64.wrap (x87 + 1)))))))
      (.ret (.out .u)))
    0 [] fun _ =>
   .ret true)
noncomputable def shape_Placed_C (a0 : (List (S_Interval × S_Interval × S_Interval))) : CallS Bool :=
  mkC [] hd Tryz.func141 (by kernel_rfl) (shape_Placed_T a0) 0 [.pure (encL 6 enc_arr_3_Interval a0)] [] (fun r => .pure (.bool r)) (fun _ => []) (by kernel_rfl)

noncomputable def side_valid_T (a0 : S_plane_side) : T Bool :=
  .call (shape_Placed_C a0.points) [] fun y1 =>
  .br y1
   (.br (decide (0 ≤ a0.radius))
    (.ret (decide (a0.radius ≤ 1048576)))
    (.ret false))
   (.ret false)
noncomputable def side_valid_C (a0 : S_plane_side) : CallS Bool :=
  mkC [] hd Tryz.func257 (by kernel_rfl) (side_valid_T a0) 0 [.pure (enc_plane_side a0)] [] (fun r => .pure (.bool r)) (fun _ => []) (by kernel_rfl)

noncomputable def support_inRange_T (a0 : (Int × Int × Int)) : T Bool :=
  .loop (fun (x13 : Int) => ⟨[(5, .pure (enc_arr_3_int64 a0)), (6, .pure (.int .i64 x13))], [], [], 0⟩)
   (.exit 0) (fun (_ : U0) => ⟨[], [], [], 0⟩)
   (fun x13 => .br (decide (x13 < 3))
     (.grd (0 ≤ x13 ∧ x13 < ((3 : Nat) : Int)) <|
     .cut 0 (fun (y18 : Bool) => ⟨[(5, .pure (enc_arr_3_int64 a0)), (6, .pure (.int .i64 x13)), (14, .pure (.bool y18))], [], [], 0⟩)
      (.br (decide ((([a0.1, a0.2.1, a0.2.2] : List Int).getD (x13).toNat 0) < (-16384)))
       (.ret (.out true))
       (.ret (.out (decide ((([a0.1, a0.2.1, a0.2.2] : List Int).getD (x13).toNat 0) > 16384))))) fun y18 =>
     .br y18
      (.ret (.fin false))
      (.ret (.next (IntKind.i64.wrap (x13 + 1)))))
     (.ret (.out .u)))
   0 [] fun _ =>
  .ret true
noncomputable def support_inRange_C (a0 : (Int × Int × Int)) : CallS Bool :=
  mkC [] hd Tryz.func232 (by kernel_rfl) (support_inRange_T a0) 0 [.pure (enc_arr_3_int64 a0)] [] (fun r => .pure (.bool r)) (fun _ => []) (by kernel_rfl)

noncomputable def support_Usable_T (a0 : (Int × Int × Int)) : T Bool :=
  .call (support_inRange_C a0) [] fun y1 =>
  .br y1
   (.ret (!((a0.1 == 0) && ((a0.2.1 == 0) && ((a0.2.2 == 0) && true)))))
   (.ret false)
noncomputable def support_Usable_C (a0 : (Int × Int × Int)) : CallS Bool :=
  mkC [] hd Tryz.func180 (by kernel_rfl) (support_Usable_T a0) 0 [.pure (enc_arr_3_int64 a0)] [] (fun r => .pure (.bool r)) (fun _ => []) (by kernel_rfl)

noncomputable def support_downward_T (a0 : (Int × Int × Int)) : T (Int × Int × Int) :=
  .ret (a0.1, a0.2.1, a0.2.2)
noncomputable def support_downward_C (a0 : (Int × Int × Int)) : CallS (Int × Int × Int) :=
  mkC [] hd Tryz.func278 (by kernel_rfl) (support_downward_T a0) 0 [.pure (enc_arr_3_int64 a0)] [] (fun _ => .agg [.func 290 [] [.ptr 0 0], .func 292 [] []]) (fun r => [(0, .box [.pure (.int .i64 r.1), .pure (.int .i64 r.2.1), .pure (.int .i64 r.2.2)])]) (by kernel_rfl)

noncomputable def support_dot_T (a0 : (Int × Int × Int)) (a1 : (S_Interval × S_Interval × S_Interval)) : T (Int × Int) :=
  .unroll 4 <|
  .known true <|
  .ix 0 3 rfl <|
  .ix 0 3 rfl <|
  .ix 0 3 rfl <|
  .name 6004 ((IntKind.i64.wrap (0 + (min (IntKind.i64.wrap (a0.1 * a1.1.Lo)) (IntKind.i64.wrap (a0.1 * a1.1.Hi)))))) fun z79 =>
  .name 7004 ((IntKind.i64.wrap (0 + (max (IntKind.i64.wrap (a0.1 * a1.1.Lo)) (IntKind.i64.wrap (a0.1 * a1.1.Hi)))))) fun z80 =>
  .lit 8000 (1) <|
  .known true <|
  .ix 1 3 rfl <|
  .ix 1 3 rfl <|
  .ix 1 3 rfl <|
  .name 6004 ((IntKind.i64.wrap (z79 + (min (IntKind.i64.wrap (a0.2.1 * a1.2.1.Lo)) (IntKind.i64.wrap (a0.2.1 * a1.2.1.Hi)))))) fun z85 =>
  .name 7004 ((IntKind.i64.wrap (z80 + (max (IntKind.i64.wrap (a0.2.1 * a1.2.1.Lo)) (IntKind.i64.wrap (a0.2.1 * a1.2.1.Hi)))))) fun z86 =>
  .lit 8000 (2) <|
  .known true <|
  .ix 2 3 rfl <|
  .ix 2 3 rfl <|
  .ix 2 3 rfl <|
  .name 6004 ((IntKind.i64.wrap (z85 + (min (IntKind.i64.wrap (a0.2.2 * a1.2.2.Lo)) (IntKind.i64.wrap (a0.2.2 * a1.2.2.Hi)))))) fun z91 =>
  .name 7004 ((IntKind.i64.wrap (z86 + (max (IntKind.i64.wrap (a0.2.2 * a1.2.2.Lo)) (IntKind.i64.wrap (a0.2.2 * a1.2.2.Hi)))))) fun z92 =>
  .lit 8000 (3) <|
  .known false <|
  .ret (z91, z92)
noncomputable def support_dot_C (a0 : (Int × Int × Int)) (a1 : (S_Interval × S_Interval × S_Interval)) : CallS (Int × Int) :=
  mkC [] hd Tryz.func291 (by kernel_rfl) (support_dot_T a0 a1) 0 [.pure (enc_arr_3_int64 a0), .pure (enc_arr_3_Interval a1)] [] (fun r => .tup [.pure (.int .i64 r.1), .pure (.int .i64 r.2)]) (fun _ => []) (by kernel_rfl)

noncomputable def support_downward_1_T (a0 : (S_Interval × S_Interval × S_Interval)) (a1 : Int) (a2 : Int) (a3 : Int) : T (Int × Int × Int × Int) :=
  .call (support_dot_C (a1, a2, a3) ((⟨a0.1.Lo, a0.1.Hi⟩ : S_Interval), (⟨a0.2.1.Lo, a0.2.1.Hi⟩ : S_Interval), (⟨a0.2.2.Lo, a0.2.2.Hi⟩ : S_Interval))) [] fun y2 =>
  .ret (y2.1, a1, a2, a3)
noncomputable def support_downward_1_C (a0 : (S_Interval × S_Interval × S_Interval)) (a1 : Int) (a2 : Int) (a3 : Int) : CallS (Int × Int × Int × Int) :=
  mkC [] hd Tryz.func290 (by kernel_rfl) (support_downward_1_T a0 a1 a2 a3) 1 [.pure (enc_arr_3_Interval a0), .ptr 0 0] [(0, .box [.pure (.int .i64 a1), .pure (.int .i64 a2), .pure (.int .i64 a3)])] (fun r => .pure (.int .i64 r.1)) (fun r => [(0, .box [.pure (.int .i64 r.2.1), .pure (.int .i64 r.2.2.1), .pure (.int .i64 r.2.2.2)])]) (by kernel_rfl)

noncomputable def support_downward_2_T (a0 : Int) (a1 : Int) : T Bool :=
  .ret (decide (a0 < a1))
noncomputable def support_downward_2_C (a0 : Int) (a1 : Int) : CallS Bool :=
  mkC [] hd Tryz.func292 (by kernel_rfl) (support_downward_2_T a0 a1) 0 [.pure (.int .i64 a0), .pure (.int .i64 a1)] [] (fun r => .pure (.bool r)) (fun _ => []) (by kernel_rfl)

noncomputable def direction_best_T (a0 : Int) (a1 : Int) (a2 : Int) (a3 : (List (S_Interval × S_Interval × S_Interval))) : T (Int × Int × Int × Int × Int) :=
  .loop (fun (x91 : (Int × Int × Int × Int × Int × Int)) => ⟨[(2, .ptr 1 0), (6, .pure (.int .i64 x91.2.2.2.1)), (7, .pure (.int .i64 x91.2.2.2.2.1)), (11, .pure (encL 6 enc_arr_3_Interval a3)), (12, .pure (.int .i64 ((a3.length : Nat) : Int))), (13, .pure (.int .i64 x91.2.2.2.2.2))], [(0, .box [.pure (.int .i64 x91.1), .pure (.int .i64 x91.2.1), .pure (.int .i64 x91.2.2.1)]), (1, .box [.func 290 [] [.ptr 0 0], .func 292 [] []])], [], 2⟩)
   (.exit 0) (fun (y111 : (Int × Int × Int × Int × Int)) => ⟨[(6, .pure (.int .i64 y111.2.2.2.1)), (7, .pure (.int .i64 y111.2.2.2.2))], [(0, .box [.pure (.int .i64 y111.1), .pure (.int .i64 y111.2.1), .pure (.int .i64 y111.2.2.1)])], [], 1⟩)
   (fun x91 => .br (decide (x91.2.2.2.2.2 < ((a3.length : Nat) : Int)))
     (.cut 0 (fun (y124 : (Int × Int × Int × Int × Int)) => ⟨[(2, .ptr 1 0), (6, .pure (.int .i64 y124.2.2.2.1)), (7, .pure (.int .i64 y124.2.2.2.2)), (11, .pure (encL 6 enc_arr_3_Interval a3)), (12, .pure (.int .i64 ((a3.length : Nat) : Int))), (13, .pure (.int .i64 x91.2.2.2.2.2))], [(0, .box [.pure (.int .i64 y124.1), .pure (.int .i64 y124.2.1), .pure (.int .i64 y124.2.2.1)]), (1, .box [.func 290 [] [.ptr 0 0], .func 292 [] []])], [], 2⟩)
      (.grd (0 ≤ x91.2.2.2.2.2 ∧ x91.2.2.2.2.2 < ((a3.length : Nat) : Int)) <|
      .call (support_downward_1_C (a3.getD ((x91.2.2.2.2.2).toNat) default) x91.1 x91.2.1 x91.2.2.1) [(0, 0)] fun y126 =>
      .cut 0 (fun (y129 : Bool) => ⟨[(2, .ptr 1 0), (6, .pure (.int .i64 x91.2.2.2.1)), (7, .pure (.int .i64 x91.2.2.2.2.1)), (8, .pure (.int .i64 x91.2.2.2.2.2)), (10, .pure (.int .i64 y126.1)), (11, .pure (encL 6 enc_arr_3_Interval a3)), (12, .pure (.int .i64 ((a3.length : Nat) : Int))), (13, .pure (.int .i64 x91.2.2.2.2.2)), (30, .pure (.bool y129))], [(0, .box [.pure (.int .i64 y126.2.1), .pure (.int .i64 y126.2.2.1), .pure (.int .i64 y126.2.2.2)]), (1, .box [.func 290 [] [.ptr 0 0], .func 292 [] []])], [], 2⟩)
       (.br (x91.2.2.2.2.2 == 0)
        (.ret (.out true))
        (.call (support_downward_2_C y126.1 x91.2.2.2.1) [] fun y130 =>
        .ret (.out y130))) fun y129 =>
      .br y129
       (.ret (.out (y126.2.1, y126.2.2.1, y126.2.2.2, y126.1, x91.2.2.2.2.2)))
       (.ret (.out (y126.2.1, y126.2.2.1, y126.2.2.2, x91.2.2.2.1, x91.2.2.2.2.1)))) fun y124 =>
     .ret (.next (y124.1, y124.2.1, y124.2.2.1, y124.2.2.2.1, y124.2.2.2.2, (IntKind.i64.wrap (x91.2.2.2.2.2 + 1)))))
     (.ret (.out (x91.1, x91.2.1, x91.2.2.1, x91.2.2.2.1, x91.2.2.2.2.1))))
   (a0, a1, a2, 0, 0, 0) [] fun y111 =>
  .ret (y111.2.2.2.1, y111.2.2.2.2, y111.1, y111.2.1, y111.2.2.1)
noncomputable def direction_best_C (a0 : Int) (a1 : Int) (a2 : Int) (a3 : (List (S_Interval × S_Interval × S_Interval))) : CallS (Int × Int × Int × Int × Int) :=
  mkC [] hd Tryz.func279 (by kernel_rfl) (direction_best_T a0 a1 a2 a3) 1 [.agg [.func 290 [] [.ptr 0 0], .func 292 [] []], .pure (encL 6 enc_arr_3_Interval a3)] [(0, .box [.pure (.int .i64 a0), .pure (.int .i64 a1), .pure (.int .i64 a2)])] (fun r => .tup [.pure (.int .i64 r.1), .pure (.int .i64 r.2.1)]) (fun r => [(0, .box [.pure (.int .i64 r.2.2.1), .pure (.int .i64 r.2.2.2.1), .pure (.int .i64 r.2.2.2.2)])]) (by kernel_rfl)

noncomputable def support_Least_T (a0 : (Int × Int × Int)) (a1 : (List (S_Interval × S_Interval × S_Interval))) : T (Int × Int × Bool) :=
  .cut 2 (fun (y12 : Bool) => ⟨[(1, .pure (encL 6 enc_arr_3_Interval a1)), (2, .ptr 0 0), (16, .pure (.bool y12))], [(0, .box [.pure (.int .i64 a0.1), .pure (.int .i64 a0.2.1), .pure (.int .i64 a0.2.2)])], [], 1⟩)
   (.call (support_Usable_C a0) [] fun y13 =>
   .br (!y13)
    (.ret (.out true))
    (.call (shape_Placed_C a1) [] fun y14 =>
    .ret (.out (!y14)))) fun y12 =>
  .br y12
   (.ret (0, 0, false))
   (.call (support_downward_C (a0.1, a0.2.1, a0.2.2)) [] fun y17 =>
   .call (direction_best_C y17.1 y17.2.1 y17.2.2 a1) [(0, 65)] fun y18 =>
   .ret (y18.1, y18.2.1, true))
noncomputable def support_Least_C (a0 : (Int × Int × Int)) (a1 : (List (S_Interval × S_Interval × S_Interval))) : CallS (Int × Int × Bool) :=
  mkC [] hd Tryz.func258 (by kernel_rfl) (support_Least_T a0 a1) 0 [.pure (enc_arr_3_int64 a0), .pure (encL 6 enc_arr_3_Interval a1)] [] (fun r => .tup [.pure (.int .i64 r.1), .pure (.int .i64 r.2.1), .pure (.bool r.2.2)]) (fun _ => []) (by kernel_rfl)

noncomputable def support_upward_T (a0 : (Int × Int × Int)) : T (Int × Int × Int) :=
  .ret (a0.1, a0.2.1, a0.2.2)
noncomputable def support_upward_C (a0 : (Int × Int × Int)) : CallS (Int × Int × Int) :=
  mkC [] hd Tryz.func280 (by kernel_rfl) (support_upward_T a0) 0 [.pure (enc_arr_3_int64 a0)] [] (fun _ => .agg [.func 293 [] [.ptr 0 0], .func 294 [] []]) (fun r => [(0, .box [.pure (.int .i64 r.1), .pure (.int .i64 r.2.1), .pure (.int .i64 r.2.2)])]) (by kernel_rfl)

noncomputable def support_upward_1_T (a0 : (S_Interval × S_Interval × S_Interval)) (a1 : Int) (a2 : Int) (a3 : Int) : T (Int × Int × Int × Int) :=
  .call (support_dot_C (a1, a2, a3) a0) [] fun y2 =>
  .ret (y2.2, a1, a2, a3)
noncomputable def support_upward_1_C (a0 : (S_Interval × S_Interval × S_Interval)) (a1 : Int) (a2 : Int) (a3 : Int) : CallS (Int × Int × Int × Int) :=
  mkC [] hd Tryz.func293 (by kernel_rfl) (support_upward_1_T a0 a1 a2 a3) 1 [.pure (enc_arr_3_Interval a0), .ptr 0 0] [(0, .box [.pure (.int .i64 a1), .pure (.int .i64 a2), .pure (.int .i64 a3)])] (fun r => .pure (.int .i64 r.1)) (fun r => [(0, .box [.pure (.int .i64 r.2.1), .pure (.int .i64 r.2.2.1), .pure (.int .i64 r.2.2.2)])]) (by kernel_rfl)

noncomputable def support_upward_2_T (a0 : Int) (a1 : Int) : T Bool :=
  .ret (decide (a0 > a1))
noncomputable def support_upward_2_C (a0 : Int) (a1 : Int) : CallS Bool :=
  mkC [] hd Tryz.func294 (by kernel_rfl) (support_upward_2_T a0 a1) 0 [.pure (.int .i64 a0), .pure (.int .i64 a1)] [] (fun r => .pure (.bool r)) (fun _ => []) (by kernel_rfl)

noncomputable def direction_best_1_T (a0 : Int) (a1 : Int) (a2 : Int) (a3 : (List (S_Interval × S_Interval × S_Interval))) : T (Int × Int × Int × Int × Int) :=
  .loop (fun (x91 : (Int × Int × Int × Int × Int × Int)) => ⟨[(2, .ptr 1 0), (6, .pure (.int .i64 x91.2.2.2.1)), (7, .pure (.int .i64 x91.2.2.2.2.1)), (11, .pure (encL 6 enc_arr_3_Interval a3)), (12, .pure (.int .i64 ((a3.length : Nat) : Int))), (13, .pure (.int .i64 x91.2.2.2.2.2))], [(0, .box [.pure (.int .i64 x91.1), .pure (.int .i64 x91.2.1), .pure (.int .i64 x91.2.2.1)]), (1, .box [.func 293 [] [.ptr 0 0], .func 294 [] []])], [], 2⟩)
   (.exit 0) (fun (y111 : (Int × Int × Int × Int × Int)) => ⟨[(6, .pure (.int .i64 y111.2.2.2.1)), (7, .pure (.int .i64 y111.2.2.2.2))], [(0, .box [.pure (.int .i64 y111.1), .pure (.int .i64 y111.2.1), .pure (.int .i64 y111.2.2.1)])], [], 1⟩)
   (fun x91 => .br (decide (x91.2.2.2.2.2 < ((a3.length : Nat) : Int)))
     (.cut 0 (fun (y124 : (Int × Int × Int × Int × Int)) => ⟨[(2, .ptr 1 0), (6, .pure (.int .i64 y124.2.2.2.1)), (7, .pure (.int .i64 y124.2.2.2.2)), (11, .pure (encL 6 enc_arr_3_Interval a3)), (12, .pure (.int .i64 ((a3.length : Nat) : Int))), (13, .pure (.int .i64 x91.2.2.2.2.2))], [(0, .box [.pure (.int .i64 y124.1), .pure (.int .i64 y124.2.1), .pure (.int .i64 y124.2.2.1)]), (1, .box [.func 293 [] [.ptr 0 0], .func 294 [] []])], [], 2⟩)
      (.grd (0 ≤ x91.2.2.2.2.2 ∧ x91.2.2.2.2.2 < ((a3.length : Nat) : Int)) <|
      .call (support_upward_1_C (a3.getD ((x91.2.2.2.2.2).toNat) default) x91.1 x91.2.1 x91.2.2.1) [(0, 0)] fun y126 =>
      .cut 0 (fun (y129 : Bool) => ⟨[(2, .ptr 1 0), (6, .pure (.int .i64 x91.2.2.2.1)), (7, .pure (.int .i64 x91.2.2.2.2.1)), (8, .pure (.int .i64 x91.2.2.2.2.2)), (10, .pure (.int .i64 y126.1)), (11, .pure (encL 6 enc_arr_3_Interval a3)), (12, .pure (.int .i64 ((a3.length : Nat) : Int))), (13, .pure (.int .i64 x91.2.2.2.2.2)), (30, .pure (.bool y129))], [(0, .box [.pure (.int .i64 y126.2.1), .pure (.int .i64 y126.2.2.1), .pure (.int .i64 y126.2.2.2)]), (1, .box [.func 293 [] [.ptr 0 0], .func 294 [] []])], [], 2⟩)
       (.br (x91.2.2.2.2.2 == 0)
        (.ret (.out true))
        (.call (support_upward_2_C y126.1 x91.2.2.2.1) [] fun y130 =>
        .ret (.out y130))) fun y129 =>
      .br y129
       (.ret (.out (y126.2.1, y126.2.2.1, y126.2.2.2, y126.1, x91.2.2.2.2.2)))
       (.ret (.out (y126.2.1, y126.2.2.1, y126.2.2.2, x91.2.2.2.1, x91.2.2.2.2.1)))) fun y124 =>
     .ret (.next (y124.1, y124.2.1, y124.2.2.1, y124.2.2.2.1, y124.2.2.2.2, (IntKind.i64.wrap (x91.2.2.2.2.2 + 1)))))
     (.ret (.out (x91.1, x91.2.1, x91.2.2.1, x91.2.2.2.1, x91.2.2.2.2.1))))
   (a0, a1, a2, 0, 0, 0) [] fun y111 =>
  .ret (y111.2.2.2.1, y111.2.2.2.2, y111.1, y111.2.1, y111.2.2.1)
noncomputable def direction_best_1_C (a0 : Int) (a1 : Int) (a2 : Int) (a3 : (List (S_Interval × S_Interval × S_Interval))) : CallS (Int × Int × Int × Int × Int) :=
  mkC [] hd Tryz.func279 (by kernel_rfl) (direction_best_1_T a0 a1 a2 a3) 1 [.agg [.func 293 [] [.ptr 0 0], .func 294 [] []], .pure (encL 6 enc_arr_3_Interval a3)] [(0, .box [.pure (.int .i64 a0), .pure (.int .i64 a1), .pure (.int .i64 a2)])] (fun r => .tup [.pure (.int .i64 r.1), .pure (.int .i64 r.2.1)]) (fun r => [(0, .box [.pure (.int .i64 r.2.2.1), .pure (.int .i64 r.2.2.2.1), .pure (.int .i64 r.2.2.2.2)])]) (by kernel_rfl)

noncomputable def support_Greatest_T (a0 : (Int × Int × Int)) (a1 : (List (S_Interval × S_Interval × S_Interval))) : T (Int × Int × Bool) :=
  .cut 2 (fun (y12 : Bool) => ⟨[(1, .pure (encL 6 enc_arr_3_Interval a1)), (2, .ptr 0 0), (16, .pure (.bool y12))], [(0, .box [.pure (.int .i64 a0.1), .pure (.int .i64 a0.2.1), .pure (.int .i64 a0.2.2)])], [], 1⟩)
   (.call (support_Usable_C a0) [] fun y13 =>
   .br (!y13)
    (.ret (.out true))
    (.call (shape_Placed_C a1) [] fun y14 =>
    .ret (.out (!y14)))) fun y12 =>
  .br y12
   (.ret (0, 0, false))
   (.call (support_upward_C (a0.1, a0.2.1, a0.2.2)) [] fun y17 =>
   .call (direction_best_1_C y17.1 y17.2.1 y17.2.2 a1) [(0, 65)] fun y18 =>
   .ret (y18.1, y18.2.1, true))
noncomputable def support_Greatest_C (a0 : (Int × Int × Int)) (a1 : (List (S_Interval × S_Interval × S_Interval))) : CallS (Int × Int × Bool) :=
  mkC [] hd Tryz.func259 (by kernel_rfl) (support_Greatest_T a0 a1) 0 [.pure (enc_arr_3_int64 a0), .pure (encL 6 enc_arr_3_Interval a1)] [] (fun r => .tup [.pure (.int .i64 r.1), .pure (.int .i64 r.2.1), .pure (.bool r.2.2)]) (fun _ => []) (by kernel_rfl)

noncomputable def math_bits_Len64_T (a0 : Int) : T Int :=
  .cut 1 (fun (y5 : (Int × Int)) => ⟨[(0, .pure (.int .u64 y5.1)), (2, .pure (.int .i64 y5.2))], [], [], 0⟩)
   (.br (decide (a0 ≥ 4294967296))
    (.ok (0 ≤ (32 : Int)) (by decide) <|
    .ret (.out ((a0.fdiv (2 ^ (min (32 : Int).toNat 64))), 32)))
    (.ret (.out (a0, 0)))) fun y5 =>
  .cut 0 (fun (y6 : (Int × Int)) => ⟨[(0, .pure (.int .u64 y6.1)), (2, .pure (.int .i64 y6.2))], [], [], 0⟩)
   (.br (decide (y5.1 ≥ 65536))
    (.ok (0 ≤ (16 : Int)) (by decide) <|
    .ret (.out ((y5.1.fdiv (2 ^ (min (16 : Int).toNat 64))), (IntKind.i64.wrap (y5.2 + 16)))))
    (.ret (.out (y5.1, y5.2)))) fun y6 =>
  .cut 0 (fun (y7 : (Int × Int)) => ⟨[(0, .pure (.int .u64 y7.1)), (2, .pure (.int .i64 y7.2))], [], [], 0⟩)
   (.br (decide (y6.1 ≥ 256))
    (.ok (0 ≤ (8 : Int)) (by decide) <|
    .ret (.out ((y6.1.fdiv (2 ^ (min (8 : Int).toNat 64))), (IntKind.i64.wrap (y6.2 + 8)))))
    (.ret (.out (y6.1, y6.2)))) fun y7 =>
  .grd (0 ≤ (IntKind.u8.wrap y7.1) ∧ (IntKind.u8.wrap y7.1) < (((⟨#[0, 1, 2, 2, 3, 3, 3, 3, 4, 4, 4, 4, 4, 4, 4, 4, 5, 5, 5, 5, 5, 5, 5, 5, 5, 5, 5, 5, 5, 5, 5, 5, 6, 6, 6, 6, 6, 6, 6, 6, 6, 6, 6, 6, 6, 6, 6, 6, 6, 6, 6, 6, 6, 6, 6, 6, 6, 6, 6, 6, 6, 6, 6, 6, 7, 7, 7, 7, 7, 7, 7, 7, 7, 7, 7, 7, 7, 7, 7, 7, 7, 7, 7, 7, 7, 7, 7, 7, 7, 7, 7, 7, 7, 7, 7, 7, 7, 7, 7, 7, 7, 7, 7, 7, 7, 7, 7, 7, 7, 7, 7, 7, 7, 7, 7, 7, 7, 7, 7, 7, 7, 7, 7, 7, 7, 7, 7, 7, 8, 8, 8, 8, 8, 8, 8, 8, 8, 8, 8, 8, 8, 8, 8, 8, 8, 8, 8, 8, 8, 8, 8, 8, 8, 8, 8, 8, 8, 8, 8, 8, 8, 8, 8, 8, 8, 8, 8, 8, 8, 8, 8, 8, 8, 8, 8, 8, 8, 8, 8, 8, 8, 8, 8, 8, 8, 8, 8, 8, 8, 8, 8, 8, 8, 8, 8, 8, 8, 8, 8, 8, 8, 8, 8, 8, 8, 8, 8, 8, 8, 8, 8, 8, 8, 8, 8, 8, 8, 8, 8, 8, 8, 8, 8, 8, 8, 8, 8, 8, 8, 8, 8, 8, 8, 8, 8, 8, 8, 8, 8, 8, 8, 8, 8, 8, 8, 8, 8, 8, 8, 8, 8, 8, 8, 8, 8, 8]⟩ : ByteArray).size : Nat) : Int)) <|
  .name 10003 ((((⟨#[0, 1, 2, 2, 3, 3, 3, 3, 4, 4, 4, 4, 4, 4, 4, 4, 5, 5, 5, 5, 5, 5, 5, 5, 5, 5, 5, 5, 5, 5, 5, 5, 6, 6, 6, 6, 6, 6, 6, 6, 6, 6, 6, 6, 6, 6, 6, 6, 6, 6, 6, 6, 6, 6, 6, 6, 6, 6, 6, 6, 6, 6, 6, 6, 7, 7, 7, 7, 7, 7, 7, 7, 7, 7, 7, 7, 7, 7, 7, 7, 7, 7, 7, 7, 7, 7, 7, 7, 7, 7, 7, 7, 7, 7, 7, 7, 7, 7, 7, 7, 7, 7, 7, 7, 7, 7, 7, 7, 7, 7, 7, 7, 7, 7, 7, 7, 7, 7, 7, 7, 7, 7, 7, 7, 7, 7, 7, 7, 8, 8, 8, 8, 8, 8, 8, 8, 8, 8, 8, 8, 8, 8, 8, 8, 8, 8, 8, 8, 8, 8, 8, 8, 8, 8, 8, 8, 8, 8, 8, 8, 8, 8, 8, 8, 8, 8, 8, 8, 8, 8, 8, 8, 8, 8, 8, 8, 8, 8, 8, 8, 8, 8, 8, 8, 8, 8, 8, 8, 8, 8, 8, 8, 8, 8, 8, 8, 8, 8, 8, 8, 8, 8, 8, 8, 8, 8, 8, 8, 8, 8, 8, 8, 8, 8, 8, 8, 8, 8, 8, 8, 8, 8, 8, 8, 8, 8, 8, 8, 8, 8, 8, 8, 8, 8, 8, 8, 8, 8, 8, 8, 8, 8, 8, 8, 8, 8, 8, 8, 8, 8, 8, 8, 8, 8, 8, 8]⟩ : ByteArray).data.getD ((IntKind.u8.wrap y7.1)).toNat 0).toNat : Int)) fun z8 =>
  .ret (IntKind.i64.wrap (y7.2 + (IntKind.i64.wrap z8)))
noncomputable def math_bits_Len64_C (a0 : Int) : CallS Int :=
  mkC [] hd Tryz.func281 (by kernel_rfl) (math_bits_Len64_T a0) 0 [.pure (.int .u64 a0)] [] (fun r => .pure (.int .i64 r)) (fun _ => []) (by kernel_rfl)

noncomputable def fixed_Root_T (a0 : Int) : T Int :=
  .br (decide (a0 ≤ 0))
   (.ret 0)
   (.call (math_bits_Len64_C (IntKind.u64.wrap a0)) [] fun y52 =>
   .ok ((2 : Int) ≠ 0) (by decide) <|
   .grd (0 ≤ (IntKind.i64.wrap ((IntKind.i64.wrap (y52 + 1)).tdiv 2))) <|
   .loop (fun (x85 : (Int × Int × Int)) => ⟨[(0, .pure (.int .i64 a0)), (4, .pure (.int .u64 x85.1)), (5, .pure (.int .u64 x85.2.1)), (16, .pure (.int .i64 (IntKind.i64.wrap ((IntKind.i64.wrap (y52 + 1)).tdiv 2)))), (17, .pure (.int .i64 x85.2.2))], [], [], 0⟩)
    (.exit 0) (fun (y93 : Int) => ⟨[(4, .pure (.int .u64 y93))], [], [], 0⟩)
    (fun x85 => .br (decide (x85.2.2 < (IntKind.i64.wrap ((IntKind.i64.wrap (y52 + 1)).tdiv 2))))
      (.cut 0 (fun (y98 : (Int × Int)) => ⟨[(0, .pure (.int .i64 a0)), (4, .pure (.int .u64 y98.1)), (5, .pure (.int .u64 y98.2)), (16, .pure (.int .i64 (IntKind.i64.wrap ((IntKind.i64.wrap (y52 + 1)).tdiv 2)))), (17, .pure (.int .i64 x85.2.2))], [], [], 0⟩)
       (.ok ((2 : Int) ≠ 0) (by decide) <|
       .name 7001 ((IntKind.u64.wrap (x85.2.1.tdiv 2))) fun z100 =>
       .br (decide ((IntKind.u64.wrap ((IntKind.u64.wrap (x85.1 + z100)) * (IntKind.u64.wrap (x85.1 + z100)))) ≤ (IntKind.u64.wrap a0)))
        (.ret (.out ((IntKind.u64.wrap (x85.1 + z100)), z100)))
        (.ret (.out (x85.1, z100)))) fun y98 =>
      .ret (.next (y98.1, y98.2, (IntKind.i64.wrap (x85.2.2 + 1)))))
      (.ret (.out x85.1)))
    (0, (IntKind.u64.wrap (1 * 2 ^ (min ((IntKind.i64.wrap ((IntKind.i64.wrap (y52 + 1)).tdiv 2))).toNat 64))), 0) [] fun y93 =>
   .ret (IntKind.i64.wrap y93))
noncomputable def fixed_Root_C (a0 : Int) : CallS Int :=
  mkC [] hd Tryz.func260 (by kernel_rfl) (fixed_Root_T a0) 0 [.pure (.int .i64 a0)] [] (fun r => .pure (.int .i64 r)) (fun _ => []) (by kernel_rfl)

noncomputable def fixed_RootUp_T (a0 : Int) : T Int :=
  .call (fixed_Root_C a0) [] fun y2 =>
  .cut 0 (fun (y3 : Int) => ⟨[(3, .pure (.int .i64 y3))], [], [], 0⟩)
   (.br (decide ((IntKind.i64.wrap (y2 * y2)) < a0))
    (.ret (.out (IntKind.i64.wrap (y2 + 1))))
    (.ret (.out y2))) fun y3 =>
  .ret y3
noncomputable def fixed_RootUp_C (a0 : Int) : CallS Int :=
  mkC [] hd Tryz.func238 (by kernel_rfl) (fixed_RootUp_T a0) 0 [.pure (.int .i64 a0)] [] (fun r => .pure (.int .i64 r)) (fun _ => []) (by kernel_rfl)

noncomputable def support_Norm_T (a0 : (Int × Int × Int)) : T Int :=
  .call (support_Usable_C (a0.1, a0.2.1, a0.2.2)) [] fun y10 =>
  .br (!y10)
   (.ret 0)
   (.ix 0 3 rfl <|
   .ix 0 3 rfl <|
   .ix 1 3 rfl <|
   .ix 1 3 rfl <|
   .ix 2 3 rfl <|
   .ix 2 3 rfl <|
   .name 3016 ((IntKind.i64.wrap ((IntKind.i64.wrap ((IntKind.i64.wrap (a0.1 * a0.1)) + (IntKind.i64.wrap (a0.2.1 * a0.2.1)))) + (IntKind.i64.wrap (a0.2.2 * a0.2.2))))) fun z11 =>
   .call (fixed_RootUp_C z11) [] fun y12 =>
   .ret y12)
noncomputable def support_Norm_C (a0 : (Int × Int × Int)) : CallS Int :=
  mkC [] hd Tryz.func191 (by kernel_rfl) (support_Norm_T a0) 0 [.pure (enc_arr_3_int64 a0)] [] (fun r => .pure (.int .i64 r)) (fun _ => []) (by kernel_rfl)

noncomputable def sides_margin_T (a0 : S_plane_sides) (a1 : (Int × Int × Int)) : T (Int × Bool) :=
  .cut 2 (fun (y32 : Bool) => ⟨[(2, .ptr 0 0), (3, .ptr 1 0), (20, .pure (.bool y32))], [(0, .box [.pure (encL 6 enc_arr_3_Interval a0.a.points), .pure (.int .i64 a0.a.radius), .pure (encL 6 enc_arr_3_Interval a0.b.points), .pure (.int .i64 a0.b.radius)]), (1, .box [.pure (.int .i64 a1.1), .pure (.int .i64 a1.2.1), .pure (.int .i64 a1.2.2)])], [], 2⟩)
   (.call (side_valid_C a0.a) [] fun y33 =>
   .br (!y33)
    (.ret (.out true))
    (.call (side_valid_C a0.b) [] fun y34 =>
    .ret (.out (!y34)))) fun y32 =>
  .br y32
   (.ret (0, false))
   (.call (support_Least_C (a1.1, a1.2.1, a1.2.2) a0.a.points) [] fun y36 =>
   .br (!y36.2.2)
    (.ret (0, false))
    (.call (support_Greatest_C (a1.1, a1.2.1, a1.2.2) a0.b.points) [] fun y38 =>
    .br (!y38.2.2)
     (.ret (0, false))
     (.call (support_Norm_C (a1.1, a1.2.1, a1.2.2)) [] fun y39 =>
     .name 9013 ((IntKind.i64.wrap ((IntKind.i64.wrap (y36.1 - y38.1)) - (IntKind.i64.wrap (y39 * (IntKind.i64.wrap (a0.a.radius + a0.b.radius))))))) fun z40 =>
     .ret (z40, true))))
noncomputable def sides_margin_C (a0 : S_plane_sides) (a1 : (Int × Int × Int)) : CallS (Int × Bool) :=
  mkC [] hd Tryz.func235 (by kernel_rfl) (sides_margin_T a0 a1) 0 [.pure (enc_plane_sides a0), .pure (enc_arr_3_int64 a1)] [] (fun r => .tup [.pure (.int .i64 r.1), .pure (.bool r.2)]) (fun _ => []) (by kernel_rfl)

noncomputable def sides_separates_T (a0 : S_plane_sides) (a1 : (Int × Int × Int)) : T Bool :=
  .call (sides_margin_C (⟨a0.a, a0.b⟩ : S_plane_sides) (a1.1, a1.2.1, a1.2.2)) [] fun y2 =>
  .br y2.2
   (.ret (decide (y2.1 > 0)))
   (.ret false)
noncomputable def sides_separates_C (a0 : S_plane_sides) (a1 : (Int × Int × Int)) : CallS Bool :=
  mkC [] hd Tryz.func183 (by kernel_rfl) (sides_separates_T a0 a1) 0 [.pure (enc_plane_sides a0), .pure (enc_arr_3_int64 a1)] [] (fun r => .pure (.bool r)) (fun _ => []) (by kernel_rfl)

noncomputable def plane_Separates_T (a0 : (Int × Int × Int)) (a1 : (List (S_Interval × S_Interval × S_Interval))) (a2 : Int) (a3 : (List (S_Interval × S_Interval × S_Interval))) (a4 : Int) : T Bool :=
  .call (plane_both_C a1 a2 a3 a4) [] fun y1 =>
  .call (sides_separates_C (⟨y1.a, y1.b⟩ : S_plane_sides) (a0.1, a0.2.1, a0.2.2)) [] fun y2 =>
  .ret y2
noncomputable def plane_Separates_C (a0 : (Int × Int × Int)) (a1 : (List (S_Interval × S_Interval × S_Interval))) (a2 : Int) (a3 : (List (S_Interval × S_Interval × S_Interval))) (a4 : Int) : CallS Bool :=
  mkC [] hd Tryz.func137 (by kernel_rfl) (plane_Separates_T a0 a1 a2 a3 a4) 0 [.pure (enc_arr_3_int64 a0), .pure (encL 6 enc_arr_3_Interval a1), .pure (.int .i64 a2), .pure (encL 6 enc_arr_3_Interval a3), .pure (.int .i64 a4)] [] (fun r => .pure (.bool r)) (fun _ => []) (by kernel_rfl)

noncomputable def separation_holds_T (a0 : S_classify_separation) (a1 : S_classify_body) : T Bool :=
  .br (((a0.normals.length : Nat) : Int) != ((a1.pairs.length : Nat) : Int))
   (.ret false)
   (.loop (fun (x37 : Int) => ⟨[(3, .ptr 0 0), (16, .pure (encL 3 enc_arr_3_int64 a0.normals)), (17, .pure (.int .i64 ((a0.normals.length : Nat) : Int))), (18, .pure (.int .i64 x37))], [(0, .box [.pure (encL 3 enc_Shape a1.shapes), .pure (encL 2 enc_Pair a1.pairs), .pure (encL 1 (encL 6 enc_arr_3_Interval) a1.points)])], [], 1⟩)
    (.exit 0) (fun (_ : U0) => ⟨[], [], [], 0⟩)
    (fun x37 => .br (decide (x37 < ((a0.normals.length : Nat) : Int)))
      (.grd (0 ≤ x37 ∧ x37 < ((a0.normals.length : Nat) : Int)) <|
      .call (body_couple_C (⟨a1.shapes, a1.pairs, a1.points⟩ : S_classify_body) x37) [] fun y52 =>
      .call (plane_Separates_C (a0.normals.getD ((x37).toNat) default) y52.a y52.ra y52.b y52.rb) [] fun y54 =>
      .br (!y54)
       (.ret (.fin false))
       (.ret (.next (IntKind.i64.wrap (x37 + 1)))))
      (.ret (.out .u)))
    0 [] fun _ =>
   .ret true)
noncomputable def separation_holds_C (a0 : S_classify_separation) (a1 : S_classify_body) : CallS Bool :=
  mkC [] hd Tryz.func345 (by kernel_rfl) (separation_holds_T a0 a1) 0 [.pure (enc_classify_separation a0), .pure (enc_classify_body a1)] [] (fun r => .pure (.bool r)) (fun _ => []) (by kernel_rfl)

noncomputable def classify_holds_T (a0 : S_Scene) (a1 : (List S_Interval)) (a2 : S_classify_separation) : T Bool :=
  .call (classify_place_C (⟨a0.Robot, a0.Shapes, a0.Skips⟩ : S_Scene) a1) [] fun y2 =>
  .br y2.2
   (.call (separation_holds_C (⟨a2.normals⟩ : S_classify_separation) (⟨y2.1.shapes, y2.1.pairs, y2.1.points⟩ : S_classify_body)) [] fun y3 =>
   .ret y3)
   (.ret false)
noncomputable def classify_holds_C (a0 : S_Scene) (a1 : (List S_Interval)) (a2 : S_classify_separation) : CallS Bool :=
  mkC [] hd Tryz.func86 (by kernel_rfl) (classify_holds_T a0 a1 a2) 0 [.pure (enc_Scene a0), .pure (encL 2 enc_Interval a1), .iface 133 (.pure (enc_classify_separation a2))] [] (fun r => .pure (.bool r)) (fun _ => []) (by kernel_rfl)

noncomputable def classify_CheckFree_T (a0 : S_Scene) (a1 : (List S_Interval)) (a2 : (List (Int × Int × Int))) : T Bool :=
  .call (classify_holds_C (⟨a0.Robot, a0.Shapes, a0.Skips⟩ : S_Scene) a1 (⟨a2⟩ : S_classify_separation)) [] fun y1 =>
  .ret y1
noncomputable def classify_CheckFree_C (a0 : S_Scene) (a1 : (List S_Interval)) (a2 : (List (Int × Int × Int))) : CallS Bool :=
  mkC [⟨85, guard85⟩] hd Tryz.func38 (by kernel_rfl) (classify_CheckFree_T a0 a1 a2) 0 [.pure (enc_Scene a0), .pure (encL 2 enc_Interval a1), .pure (encL 3 enc_arr_3_int64 a2)] [] (fun r => .pure (.bool r)) (fun _ => []) (by kernel_rfl)

noncomputable def replay_separated_T (a0 : S_edgecheck_replay) : T (Int × Int) :=
  .loop (fun (x53 : Int) => ⟨[(1, .ptr 0 0), (9, .pure (encL 3 enc_Piece a0.pieces)), (10, .pure (.int .i64 ((a0.pieces.length : Nat) : Int))), (11, .pure (.int .i64 x53))], [(0, .box [.pure (encL 12 enc_Joint a0.scene.Robot.Joints), .pure (encL 5 enc_Mass a0.scene.Robot.Masses), .pure (encL 3 enc_Shape a0.scene.Shapes), .pure (encL 2 enc_Skip a0.scene.Skips), .pure (encL 1 encI_i64 a0.p), .pure (encL 1 encI_i64 a0.q), .pure (encL 3 enc_Piece a0.pieces)])], [], 1⟩)
   (.exit 0) (fun (_ : U0) => ⟨[], [], [], 0⟩)
   (fun x53 => .br (decide (x53 < ((a0.pieces.length : Nat) : Int)))
     (.grd (0 ≤ x53 ∧ x53 < ((a0.pieces.length : Nat) : Int)) <|
     .call (config_Piece_C a0.p a0.q ((a0.pieces.getD ((x53).toNat) default).Depth) ((a0.pieces.getD ((x53).toNat) default).Index)) [] fun y74 =>
     .cut 0 (fun (y77 : Bool) => ⟨[(1, .ptr 0 0), (4, .pure (.int .i64 x53)), (9, .pure (encL 3 enc_Piece a0.pieces)), (10, .pure (.int .i64 ((a0.pieces.length : Nat) : Int))), (11, .pure (.int .i64 x53)), (38, .pure (.bool y77))], [(0, .box [.pure (encL 12 enc_Joint a0.scene.Robot.Joints), .pure (encL 5 enc_Mass a0.scene.Robot.Masses), .pure (encL 3 enc_Shape a0.scene.Shapes), .pure (encL 2 enc_Skip a0.scene.Skips), .pure (encL 1 encI_i64 a0.p), .pure (encL 1 encI_i64 a0.q), .pure (encL 3 enc_Piece a0.pieces)])], [], 1⟩)
      (.br (!y74.2)
       (.ret (.out true))
       (.call (classify_CheckFree_C a0.scene y74.1 ((a0.pieces.getD ((x53).toNat) default).Normals)) [] fun y78 =>
       .ret (.out (!y78)))) fun y77 =>
     .br y77
      (.ret (.fin (x53, 2002)))
      (.ret (.next (IntKind.i64.wrap (x53 + 1)))))
     (.ret (.out .u)))
   0 [] fun _ =>
  .ret (0, 0)
noncomputable def replay_separated_C (a0 : S_edgecheck_replay) : CallS (Int × Int) :=
  mkC [] hd Tryz.func92 (by kernel_rfl) (replay_separated_T a0) 0 [.pure (enc_edgecheck_replay a0)] [] (fun r => .tup [.pure (.int .i64 r.1), .pure (.int .i64 r.2)]) (fun _ => []) (by kernel_rfl)

noncomputable def edgecheck_Check_T (a0 : S_Scene) (a1 : (List Int)) (a2 : (List Int)) (a3 : (List S_Piece)) : T (Int × Int) :=
  .unroll 5 <|
  .known true <|
  .grd (0 ≤ (0 : Int) ∧ (0 : Int) < ((4 : Nat) : Int)) <|
  .call (replay_valid_C (⟨(⟨a0.Robot, a0.Shapes, a0.Skips⟩ : S_Scene), a1, a2, a3⟩ : S_edgecheck_replay)) [] fun y32 =>
  .br (y32.2 != 0)
   (.ret (y32.1, y32.2))
   (.lit 9000 (1) <|
   .known true <|
   .grd (0 ≤ (1 : Int) ∧ (1 : Int) < ((4 : Nat) : Int)) <|
   .call (replay_inside_C (⟨(⟨a0.Robot, a0.Shapes, a0.Skips⟩ : S_Scene), a1, a2, a3⟩ : S_edgecheck_replay)) [] fun y36 =>
   .br (y36.2 != 0)
    (.ret (y36.1, y36.2))
    (.lit 9000 (2) <|
    .known true <|
    .grd (0 ≤ (2 : Int) ∧ (2 : Int) < ((4 : Nat) : Int)) <|
    .call (replay_tiling_C (⟨(⟨a0.Robot, a0.Shapes, a0.Skips⟩ : S_Scene), a1, a2, a3⟩ : S_edgecheck_replay)) [] fun y40 =>
    .br (y40.2 != 0)
     (.ret (y40.1, y40.2))
     (.lit 9000 (3) <|
     .known true <|
     .grd (0 ≤ (3 : Int) ∧ (3 : Int) < ((4 : Nat) : Int)) <|
     .call (replay_separated_C (⟨(⟨a0.Robot, a0.Shapes, a0.Skips⟩ : S_Scene), a1, a2, a3⟩ : S_edgecheck_replay)) [] fun y44 =>
     .br (y44.2 != 0)
      (.ret (y44.1, y44.2))
      (.lit 9000 (4) <|
      .known false <|
      .ret (0, 0)))))
noncomputable def edgecheck_Check_C (a0 : S_Scene) (a1 : (List Int)) (a2 : (List Int)) (a3 : (List S_Piece)) : CallS (Int × Int) :=
  mkC [⟨88, guard88⟩] hd Tryz.func40 (by kernel_rfl) (edgecheck_Check_T a0 a1 a2 a3) 0 [.pure (enc_Scene a0), .pure (encL 1 encI_i64 a1), .pure (encL 1 encI_i64 a2), .pure (encL 3 enc_Piece a3)] [] (fun r => .tup [.pure (.int .i64 r.1), .pure (.int .i64 r.2)]) (fun _ => []) (by kernel_rfl)

noncomputable def edgecheck_Tiles_T (a0 : (List S_Piece)) : T Bool :=
  .call (replay_tiling_C (⟨(⟨(⟨nl, nl⟩ : S_Robot), nl, nl⟩ : S_Scene), nl, nl, a0⟩ : S_edgecheck_replay)) [] fun y2 =>
  .ret (y2.2 == 0)
noncomputable def edgecheck_Tiles_C (a0 : (List S_Piece)) : CallS Bool :=
  mkC [⟨107, guard107⟩] hd Tryz.func50 (by kernel_rfl) (edgecheck_Tiles_T a0) 0 [.pure (encL 3 enc_Piece a0)] [] (fun r => .pure (.bool r)) (fun _ => []) (by kernel_rfl)

noncomputable def law20_awake_T : T Bool :=
  .conv 1001 (cvLit 3 enc_arr_3_int64 ([((-1), 0, 0)] : (List (Int × Int × Int))) 49) <|
  .conv 1003 (cvLit 3 enc_Piece ([(⟨0, 0, ([((-1), 0, 0)] : (List (Int × Int × Int)))⟩ : S_Piece)] : (List S_Piece)) 37) <|
  .call (law20_one_C) [] fun y3 =>
  .conv 2001 (cvLit 1 encI_i64 ([0] : (List Int)) 2) <|
  .conv 2002 (cvLit 1 encI_i64 ([40000] : (List Int)) 2) <|
  .call (edgecheck_Check_C y3 ([0] : (List Int)) ([40000] : (List Int)) ([(⟨0, 0, ([((-1), 0, 0)] : (List (Int × Int × Int)))⟩ : S_Piece)] : (List S_Piece))) [] fun y4 =>
  .call (law20_one_C) [] fun y7 =>
  .conv 3001 (cvLit 1 encI_i64 ([0] : (List Int)) 2) <|
  .conv 3002 (cvLit 1 encI_i64 ([50000] : (List Int)) 2) <|
  .call (edgecheck_Check_C y7 ([0] : (List Int)) ([50000] : (List Int)) ([(⟨0, 0, ([((-1), 0, 0)] : (List (Int × Int × Int)))⟩ : S_Piece)] : (List S_Piece))) [] fun y8 =>
  .call (edgecheck_Tiles_C ([(⟨0, 0, ([((-1), 0, 0)] : (List (Int × Int × Int)))⟩ : S_Piece)] : (List S_Piece))) [] fun y9 =>
  .br y9
   (.br (y4.2 == 0)
    (.ret (y8.2 == 2002))
    (.ret false))
   (.ret false)
noncomputable def law20_awake_C : CallS Bool :=
  mkC [] hd Tryz.func18 (by kernel_rfl) (law20_awake_T) 0 [] [] (fun r => .pure (.bool r)) (fun _ => []) (by kernel_rfl)

set_option maxHeartbeats 8000000 in
set_option maxRecDepth 20000 in
noncomputable def shape_Combine_T (a0 : (List (S_Interval × S_Interval × S_Interval))) (a1 : (List Int)) : T ((S_Interval × S_Interval × S_Interval) × Int × Bool) :=
  .cut 2 (fun (y599 : Bool) => ⟨[(0, .pure (encL 6 enc_arr_3_Interval a0)), (1, .pure (encL 1 encI_i64 a1)), (4, .ptr 0 0), (22, .pure (.bool y599))], [(0, .box [.pure (.int .i64 0), .pure (.int .i64 0), .pure (.int .i64 0), .pure (.int .i64 0), .pure (.int .i64 0), .pure (.int .i64 0)])], [], 1⟩)
   (.call (shape_Placed_C a0) [] fun y600 =>
   .br (!y600)
    (.ret (.out true))
    (.ret (.out (((a1.length : Nat) : Int) != ((a0.length : Nat) : Int))))) fun y599 =>
  .br y599
   (.ret (((⟨0, 0⟩ : S_Interval), (⟨0, 0⟩ : S_Interval), (⟨0, 0⟩ : S_Interval)), 0, false))
   (.loop (fun (x1021 : (Int × Int × Int × Int × Int × Int × Int × Int)) => ⟨[(0, .pure (encL 6 enc_arr_3_Interval a0)), (4, .ptr 0 0), (7, .ptr 1 0), (8, .pure (.int .i64 x1021.2.2.2.2.2.2.1)), (24, .pure (encL 1 encI_i64 a1)), (25, .pure (.int .i64 ((a1.length : Nat) : Int))), (26, .pure (.int .i64 x1021.2.2.2.2.2.2.2))], [(0, .box [.pure (.int .i64 0), .pure (.int .i64 0), .pure (.int .i64 0), .pure (.int .i64 0), .pure (.int .i64 0), .pure (.int .i64 0)]), (1, .box [.pure (.int .i64 x1021.1), .pure (.int .i64 x1021.2.1), .pure (.int .i64 x1021.2.2.1), .pure (.int .i64 x1021.2.2.2.1), .pure (.int .i64 x1021.2.2.2.2.1), .pure (.int .i64 x1021.2.2.2.2.2.1)])], [], 2⟩)
    (.exit 0) (fun (y1126 : (Int × Int × Int × Int × Int × Int × Int)) => ⟨[(4, .ptr 0 0), (7, .ptr 1 0), (8, .pure (.int .i64 y1126.2.2.2.2.2.2))], [(0, .box [.pure (.int .i64 0), .pure (.int .i64 0), .pure (.int .i64 0), .pure (.int .i64 0), .pure (.int .i64 0), .pure (.int .i64 0)]), (1, .box [.pure (.int .i64 y1126.1), .pure (.int .i64 y1126.2.1), .pure (.int .i64 y1126.2.2.1), .pure (.int .i64 y1126.2.2.2.1), .pure (.int .i64 y1126.2.2.2.2.1), .pure (.int .i64 y1126.2.2.2.2.2.1)])], [], 2⟩)
    (fun x1021 => .br (decide (x1021.2.2.2.2.2.2.2 < ((a1.length : Nat) : Int)))
      (.grd (0 ≤ x1021.2.2.2.2.2.2.2 ∧ x1021.2.2.2.2.2.2.2 < ((a1.length : Nat) : Int)) <|
      .cut 1 (fun (y1180 : Bool) => ⟨[(0, .pure (encL 6 enc_arr_3_Interval a0)), (4, .ptr 0 0), (7, .ptr 1 0), (8, .pure (.int .i64 x1021.2.2.2.2.2.2.1)), (9, .pure (.int .i64 x1021.2.2.2.2.2.2.2)), (10, .pure (.int .i64 (a1.getD ((x1021.2.2.2.2.2.2.2).toNat) default))), (24, .pure (encL 1 encI_i64 a1)), (25, .pure (.int .i64 ((a1.length : Nat) : Int))), (26, .pure (.int .i64 x1021.2.2.2.2.2.2.2)), (36, .pure (.bool y1180))], [(0, .box [.pure (.int .i64 0), .pure (.int .i64 0), .pure (.int .i64 0), .pure (.int .i64 0), .pure (.int .i64 0), .pure (.int .i64 0)]), (1, .box [.pure (.int .i64 x1021.1), .pure (.int .i64 x1021.2.1), .pure (.int .i64 x1021.2.2.1), .pure (.int .i64 x1021.2.2.2.1), .pure (.int .i64 x1021.2.2.2.2.1), .pure (.int .i64 x1021.2.2.2.2.2.1)])], [], 2⟩)
       (.br (decide ((a1.getD ((x1021.2.2.2.2.2.2.2).toNat) default) < 0))
        (.ret (.out true))
        (.ret (.out (decide ((a1.getD ((x1021.2.2.2.2.2.2.2).toNat) default) > 65536))))) fun y1180 =>
      .br y1180
       (.ret (.fin (((⟨0, 0⟩ : S_Interval), (⟨0, 0⟩ : S_Interval), (⟨0, 0⟩ : S_Interval)), 0, false)))
       (.grd (0 ≤ x1021.2.2.2.2.2.2.2 ∧ x1021.2.2.2.2.2.2.2 < ((a0.length : Nat) : Int)) <|
       .unroll 4 <|
       .known true <|
       .ix 0 3 rfl <|
       .ix 0 3 rfl <|
       .name 14007 ((IntKind.i64.wrap ((a1.getD ((x1021.2.2.2.2.2.2.2).toNat) default) * ((a0.getD ((x1021.2.2.2.2.2.2.2).toNat) default).1.Lo)))) fun z1203 =>
       .name 14008 ((IntKind.i64.wrap (x1021.1 + z1203))) fun z1204 =>
       .ix 0 3 rfl <|
       .ix 0 3 rfl <|
       .name 15007 ((IntKind.i64.wrap ((a1.getD ((x1021.2.2.2.2.2.2.2).toNat) default) * ((a0.getD ((x1021.2.2.2.2.2.2.2).toNat) default).1.Hi)))) fun z1205 =>
       .name 15008 ((IntKind.i64.wrap (x1021.2.1 + z1205))) fun z1206 =>
       .ix 0 3 rfl <|
       .lit 16000 (1) <|
       .known true <|
       .ix 1 3 rfl <|
       .ix 1 3 rfl <|
       .name 14007 ((IntKind.i64.wrap ((a1.getD ((x1021.2.2.2.2.2.2.2).toNat) default) * ((a0.getD ((x1021.2.2.2.2.2.2.2).toNat) default).2.1.Lo)))) fun z1215 =>
       .name 14008 ((IntKind.i64.wrap (x1021.2.2.1 + z1215))) fun z1216 =>
       .ix 1 3 rfl <|
       .ix 1 3 rfl <|
       .name 15007 ((IntKind.i64.wrap ((a1.getD ((x1021.2.2.2.2.2.2.2).toNat) default) * ((a0.getD ((x1021.2.2.2.2.2.2.2).toNat) default).2.1.Hi)))) fun z1217 =>
       .name 15008 ((IntKind.i64.wrap (x1021.2.2.2.1 + z1217))) fun z1218 =>
       .ix 1 3 rfl <|
       .lit 16000 (2) <|
       .known true <|
       .ix 2 3 rfl <|
       .ix 2 3 rfl <|
       .name 14007 ((IntKind.i64.wrap ((a1.getD ((x1021.2.2.2.2.2.2.2).toNat) default) * ((a0.getD ((x1021.2.2.2.2.2.2.2).toNat) default).2.2.Lo)))) fun z1227 =>
       .name 14008 ((IntKind.i64.wrap (x1021.2.2.2.2.1 + z1227))) fun z1228 =>
       .ix 2 3 rfl <|
       .ix 2 3 rfl <|
       .name 15007 ((IntKind.i64.wrap ((a1.getD ((x1021.2.2.2.2.2.2.2).toNat) default) * ((a0.getD ((x1021.2.2.2.2.2.2.2).toNat) default).2.2.Hi)))) fun z1229 =>
       .name 15008 ((IntKind.i64.wrap (x1021.2.2.2.2.2.1 + z1229))) fun z1230 =>
       .ix 2 3 rfl <|
       .lit 16000 (3) <|
       .known false <|
       .ret (.next (z1204, z1206, z1216, z1218, z1228, z1230, (IntKind.i64.wrap (x1021.2.2.2.2.2.2.1 + (a1.getD ((x1021.2.2.2.2.2.2.2).toNat) default))), (IntKind.i64.wrap (x1021.2.2.2.2.2.2.2 + 1))))))
      (.ret (.out (x1021.1, x1021.2.1, x1021.2.2.1, x1021.2.2.2.1, x1021.2.2.2.2.1, x1021.2.2.2.2.2.1, x1021.2.2.2.2.2.2.1))))
    (0, 0, 0, 0, 0, 0, 0, 0) [] fun y1126 =>
   .cut 1 (fun (y1232 : Bool) => ⟨[(4, .ptr 0 0), (7, .ptr 1 0), (8, .pure (.int .i64 y1126.2.2.2.2.2.2)), (78, .pure (.bool y1232))], [(0, .box [.pure (.int .i64 0), .pure (.int .i64 0), .pure (.int .i64 0), .pure (.int .i64 0), .pure (.int .i64 0), .pure (.int .i64 0)]), (1, .box [.pure (.int .i64 y1126.1), .pure (.int .i64 y1126.2.1), .pure (.int .i64 y1126.2.2.1), .pure (.int .i64 y1126.2.2.2.1), .pure (.int .i64 y1126.2.2.2.2.1), .pure (.int .i64 y1126.2.2.2.2.2.1)])], [], 2⟩)
    (.br (decide (y1126.2.2.2.2.2.2 < 1))
     (.ret (.out true))
     (.ret (.out (decide (y1126.2.2.2.2.2.2 > 65536))))) fun y1232 =>
   .br y1232
    (.ret (((⟨0, 0⟩ : S_Interval), (⟨0, 0⟩ : S_Interval), (⟨0, 0⟩ : S_Interval)), 0, false))
    (.ret (((⟨y1126.1, y1126.2.1⟩ : S_Interval), (⟨y1126.2.2.1, y1126.2.2.2.1⟩ : S_Interval), (⟨y1126.2.2.2.2.1, y1126.2.2.2.2.2.1⟩ : S_Interval)), y1126.2.2.2.2.2.2, true)))
noncomputable def shape_Combine_C (a0 : (List (S_Interval × S_Interval × S_Interval))) (a1 : (List Int)) : CallS ((S_Interval × S_Interval × S_Interval) × Int × Bool) :=
  mkC [] hd Tryz.func196 (by kernel_rfl) (shape_Combine_T a0 a1) 0 [.pure (encL 6 enc_arr_3_Interval a0), .pure (encL 1 encI_i64 a1)] [] (fun r => .tup [.pure (enc_arr_3_Interval r.1), .pure (.int .i64 r.2.1), .pure (.bool r.2.2)]) (fun _ => []) (by kernel_rfl)

noncomputable def overlap_isRadius_T (a0 : Int) : T Bool :=
  .br (decide (a0 ≥ 0))
   (.ret (decide (a0 ≤ 1048576)))
   (.ret false)
noncomputable def overlap_isRadius_C (a0 : Int) : CallS Bool :=
  mkC [] hd Tryz.func197 (by kernel_rfl) (overlap_isRadius_T a0) 0 [.pure (.int .i64 a0)] [] (fun r => .pure (.bool r)) (fun _ => []) (by kernel_rfl)

noncomputable def overlap_farthest_T (a0 : (List Int)) : T Int :=
  .loop (fun (x5 : (Int × Int)) => ⟨[(3, .pure (.int .i64 x5.1)), (6, .pure (encL 1 encI_i64 a0)), (7, .pure (.int .i64 ((a0.length : Nat) : Int))), (8, .pure (.int .i64 x5.2))], [], [], 0⟩)
   (.exit 0) (fun (y6 : Int) => ⟨[(3, .pure (.int .i64 y6))], [], [], 0⟩)
   (fun x5 => .br (decide (x5.2 < ((a0.length : Nat) : Int)))
     (.grd (0 ≤ x5.2 ∧ x5.2 < ((a0.length : Nat) : Int)) <|
     .ret (.next ((max (max x5.1 (a0.getD ((x5.2).toNat) default)) (IntKind.i64.wrap (0 - (a0.getD ((x5.2).toNat) default)))), (IntKind.i64.wrap (x5.2 + 1)))))
     (.ret (.out x5.1)))
   (0, 0) [] fun y6 =>
  .ret y6
noncomputable def overlap_farthest_C (a0 : (List Int)) : CallS Int :=
  mkC [] hd Tryz.func198 (by kernel_rfl) (overlap_farthest_T a0) 0 [.pure (encL 1 encI_i64 a0)] [] (fun r => .pure (.int .i64 r)) (fun _ => []) (by kernel_rfl)

noncomputable def overlap_Excess_T (a0 : (List Int)) (a1 : (List Int)) (a2 : (List (S_Interval × S_Interval × S_Interval))) (a3 : Int) (a4 : (List (S_Interval × S_Interval × S_Interval))) (a5 : Int) : T (Int × Bool) :=
  .call (shape_Combine_C a2 a0) [] fun y84 =>
  .call (shape_Combine_C a4 a1) [] fun y86 =>
  .cut 1 (fun (y98 : Bool) => ⟨[(3, .pure (.int .i64 a3)), (5, .pure (.int .i64 a5)), (12, .ptr 0 0), (13, .ptr 1 0), (14, .ptr 2 0), (15, .pure (.int .i64 y84.2.1)), (17, .ptr 3 0), (59, .pure (.bool y98))], [(0, .box [.pure (.int .i64 0)]), (1, .box [.ff]), (2, .box [.pure (.int .i64 y84.1.1.Lo), .pure (.int .i64 y84.1.1.Hi), .pure (.int .i64 y84.1.2.1.Lo), .pure (.int .i64 y84.1.2.1.Hi), .pure (.int .i64 y84.1.2.2.Lo), .pure (.int .i64 y84.1.2.2.Hi)]), (3, .box [.pure (.int .i64 y86.1.1.Lo), .pure (.int .i64 y86.1.1.Hi), .pure (.int .i64 y86.1.2.1.Lo), .pure (.int .i64 y86.1.2.1.Hi), .pure (.int .i64 y86.1.2.2.Lo), .pure (.int .i64 y86.1.2.2.Hi)])], [.func 195 [] [.ptr 0 0, .ptr 1 0]], 4⟩)
   (.br (!y84.2.2)
    (.ret (.out true))
    (.br (!y86.2.2)
     (.ret (.out true))
     (.br (y84.2.1 != y86.2.1)
      (.ret (.out true))
      (.call (overlap_isRadius_C a3) [] fun y99 =>
      .br (!y99)
       (.ret (.out true))
       (.call (overlap_isRadius_C a5) [] fun y100 =>
       .ret (.out (!y100))))))) fun y98 =>
  .br y98
   (.ret (0, false))
   (.unroll 4 <|
   .known true <|
   .ix 0 3 rfl <|
   .ix 0 3 rfl <|
   .ix 0 3 rfl <|
   .ix 0 3 rfl <|
   .conv 11018 (cvLit 1 encI_i64 ([(IntKind.i64.wrap (y84.1.1.Lo - y86.1.1.Hi)), (IntKind.i64.wrap (y84.1.1.Hi - y86.1.1.Lo))] : (List Int)) 2) <|
   .call (overlap_farthest_C ([(IntKind.i64.wrap (y84.1.1.Lo - y86.1.1.Hi)), (IntKind.i64.wrap (y84.1.1.Hi - y86.1.1.Lo))] : (List Int))) [] fun y150 =>
   .grd (y84.2.1 ≠ 0) <|
   .br (decide ((IntKind.i64.wrap ((IntKind.i64.wrap ((IntKind.i64.wrap (y150 + y84.2.1)) - 1)).tdiv y84.2.1)) > (IntKind.i64.wrap (a3 + a5))))
    (.ret ((-1), true))
    (.name 15003 ((IntKind.i64.wrap ((IntKind.i64.wrap ((IntKind.i64.wrap ((IntKind.i64.wrap (y150 + y84.2.1)) - 1)).tdiv y84.2.1)) * (IntKind.i64.wrap ((IntKind.i64.wrap ((IntKind.i64.wrap (y150 + y84.2.1)) - 1)).tdiv y84.2.1))))) fun z151 =>
    .name 15004 ((IntKind.i64.wrap ((IntKind.i64.wrap ((IntKind.i64.wrap (a3 + a5)) * (IntKind.i64.wrap (a3 + a5)))) - z151))) fun z152 =>
    .lit 16000 (1) <|
    .known true <|
    .ix 1 3 rfl <|
    .ix 1 3 rfl <|
    .ix 1 3 rfl <|
    .ix 1 3 rfl <|
    .conv 11018 (cvLit 1 encI_i64 ([(IntKind.i64.wrap (y84.1.2.1.Lo - y86.1.2.1.Hi)), (IntKind.i64.wrap (y84.1.2.1.Hi - y86.1.2.1.Lo))] : (List Int)) 2) <|
    .call (overlap_farthest_C ([(IntKind.i64.wrap (y84.1.2.1.Lo - y86.1.2.1.Hi)), (IntKind.i64.wrap (y84.1.2.1.Hi - y86.1.2.1.Lo))] : (List Int))) [] fun y158 =>
    .grd (y84.2.1 ≠ 0) <|
    .br (decide ((IntKind.i64.wrap ((IntKind.i64.wrap ((IntKind.i64.wrap (y158 + y84.2.1)) - 1)).tdiv y84.2.1)) > (IntKind.i64.wrap (a3 + a5))))
     (.ret ((-1), true))
     (.name 15003 ((IntKind.i64.wrap ((IntKind.i64.wrap ((IntKind.i64.wrap ((IntKind.i64.wrap (y158 + y84.2.1)) - 1)).tdiv y84.2.1)) * (IntKind.i64.wrap ((IntKind.i64.wrap ((IntKind.i64.wrap (y158 + y84.2.1)) - 1)).tdiv y84.2.1))))) fun z159 =>
     .name 15004 ((IntKind.i64.wrap (z152 - z159))) fun z160 =>
     .lit 16000 (2) <|
     .known true <|
     .ix 2 3 rfl <|
     .ix 2 3 rfl <|
     .ix 2 3 rfl <|
     .ix 2 3 rfl <|
     .conv 11018 (cvLit 1 encI_i64 ([(IntKind.i64.wrap (y84.1.2.2.Lo - y86.1.2.2.Hi)), (IntKind.i64.wrap (y84.1.2.2.Hi - y86.1.2.2.Lo))] : (List Int)) 2) <|
     .call (overlap_farthest_C ([(IntKind.i64.wrap (y84.1.2.2.Lo - y86.1.2.2.Hi)), (IntKind.i64.wrap (y84.1.2.2.Hi - y86.1.2.2.Lo))] : (List Int))) [] fun y166 =>
     .grd (y84.2.1 ≠ 0) <|
     .br (decide ((IntKind.i64.wrap ((IntKind.i64.wrap ((IntKind.i64.wrap (y166 + y84.2.1)) - 1)).tdiv y84.2.1)) > (IntKind.i64.wrap (a3 + a5))))
      (.ret ((-1), true))
      (.name 15003 ((IntKind.i64.wrap ((IntKind.i64.wrap ((IntKind.i64.wrap ((IntKind.i64.wrap (y166 + y84.2.1)) - 1)).tdiv y84.2.1)) * (IntKind.i64.wrap ((IntKind.i64.wrap ((IntKind.i64.wrap (y166 + y84.2.1)) - 1)).tdiv y84.2.1))))) fun z167 =>
      .name 15004 ((IntKind.i64.wrap (z160 - z167))) fun z168 =>
      .lit 16000 (3) <|
      .known false <|
      .ret (z168, true)))))
noncomputable def overlap_Excess_C (a0 : (List Int)) (a1 : (List Int)) (a2 : (List (S_Interval × S_Interval × S_Interval))) (a3 : Int) (a4 : (List (S_Interval × S_Interval × S_Interval))) (a5 : Int) : CallS (Int × Bool) :=
  mkC [⟨195, guard195⟩] hd Tryz.func144 (by kernel_rfl) (overlap_Excess_T a0 a1 a2 a3 a4 a5) 0 [.pure (encL 1 encI_i64 a0), .pure (encL 1 encI_i64 a1), .pure (encL 6 enc_arr_3_Interval a2), .pure (.int .i64 a3), .pure (encL 6 enc_arr_3_Interval a4), .pure (.int .i64 a5)] [] (fun r => .tup [.pure (.int .i64 r.1), .pure (.bool r.2)]) (fun _ => []) (by kernel_rfl)

noncomputable def overlap_Overlaps_T (a0 : (List Int)) (a1 : (List Int)) (a2 : (List (S_Interval × S_Interval × S_Interval))) (a3 : Int) (a4 : (List (S_Interval × S_Interval × S_Interval))) (a5 : Int) : T Bool :=
  .call (overlap_Excess_C a0 a1 a2 a3 a4 a5) [] fun y2 =>
  .br y2.2
   (.ret (decide (y2.1 ≥ 0)))
   (.ret false)
noncomputable def overlap_Overlaps_C (a0 : (List Int)) (a1 : (List Int)) (a2 : (List (S_Interval × S_Interval × S_Interval))) (a3 : Int) (a4 : (List (S_Interval × S_Interval × S_Interval))) (a5 : Int) : CallS Bool :=
  mkC [⟨143, guard143⟩] hd Tryz.func79 (by kernel_rfl) (overlap_Overlaps_T a0 a1 a2 a3 a4 a5) 0 [.pure (encL 1 encI_i64 a0), .pure (encL 1 encI_i64 a1), .pure (encL 6 enc_arr_3_Interval a2), .pure (.int .i64 a3), .pure (encL 6 enc_arr_3_Interval a4), .pure (.int .i64 a5)] [] (fun r => .pure (.bool r)) (fun _ => []) (by kernel_rfl)

noncomputable def collision_holds_T (a0 : S_classify_collision) (a1 : S_classify_body) : T Bool :=
  .cut 3 (fun (y2 : Bool) => ⟨[(3, .ptr 0 0), (5, .ptr 1 0), (19, .pure (.bool y2))], [(0, .box [.pure (encL 3 enc_Shape a1.shapes), .pure (encL 2 enc_Pair a1.pairs), .pure (encL 1 (encL 6 enc_arr_3_Interval) a1.points)]), (1, .box [.pure (.int .i64 a0.witness.Pair), .pure (encL 1 encI_i64 a0.witness.Left), .pure (encL 1 encI_i64 a0.witness.Right)])], [], 2⟩)
   (.br (decide (a0.witness.Pair < 0))
    (.ret (.out true))
    (.ret (.out (decide (a0.witness.Pair ≥ ((a1.pairs.length : Nat) : Int)))))) fun y2 =>
  .br y2
   (.ret false)
   (.call (body_couple_C a1 a0.witness.Pair) [] fun y4 =>
   .call (overlap_Overlaps_C a0.witness.Left a0.witness.Right y4.a y4.ra y4.b y4.rb) [] fun y5 =>
   .ret y5)
noncomputable def collision_holds_C (a0 : S_classify_collision) (a1 : S_classify_body) : CallS Bool :=
  mkC [] hd Tryz.func344 (by kernel_rfl) (collision_holds_T a0 a1) 0 [.pure (enc_classify_collision a0), .pure (enc_classify_body a1)] [] (fun r => .pure (.bool r)) (fun _ => []) (by kernel_rfl)

noncomputable def classify_holds_1_T (a0 : S_Scene) (a1 : (List S_Interval)) (a2 : S_classify_collision) : T Bool :=
  .call (classify_place_C a0 a1) [] fun y2 =>
  .br y2.2
   (.call (collision_holds_C (⟨a2.witness⟩ : S_classify_collision) (⟨y2.1.shapes, y2.1.pairs, y2.1.points⟩ : S_classify_body)) [] fun y3 =>
   .ret y3)
   (.ret false)
noncomputable def classify_holds_1_C (a0 : S_Scene) (a1 : (List S_Interval)) (a2 : S_classify_collision) : CallS Bool :=
  mkC [] hd Tryz.func86 (by kernel_rfl) (classify_holds_1_T a0 a1 a2) 0 [.pure (enc_Scene a0), .pure (encL 2 enc_Interval a1), .iface 131 (.pure (enc_classify_collision a2))] [] (fun r => .pure (.bool r)) (fun _ => []) (by kernel_rfl)

noncomputable def classify_CheckColliding_T (a0 : S_Scene) (a1 : (List S_Interval)) (a2 : S_Witness) : T Bool :=
  .call (classify_holds_1_C (⟨a0.Robot, a0.Shapes, a0.Skips⟩ : S_Scene) a1 (⟨(⟨a2.Pair, a2.Left, a2.Right⟩ : S_Witness)⟩ : S_classify_collision)) [] fun y1 =>
  .ret y1
noncomputable def classify_CheckColliding_C (a0 : S_Scene) (a1 : (List S_Interval)) (a2 : S_Witness) : CallS Bool :=
  mkC [⟨87, guard87⟩] hd Tryz.func39 (by kernel_rfl) (classify_CheckColliding_T a0 a1 a2) 0 [.pure (enc_Scene a0), .pure (encL 2 enc_Interval a1), .pure (enc_Witness a2)] [] (fun r => .pure (.bool r)) (fun _ => []) (by kernel_rfl)

noncomputable def edgecheck_Refutes_T (a0 : S_Scene) (a1 : (List Int)) (a2 : (List Int)) (a3 : S_Piece) (a4 : S_Witness) : T Bool :=
  .unroll 3 <|
  .known true <|
  .grd (0 ≤ (0 : Int) ∧ (0 : Int) < ((2 : Nat) : Int)) <|
  .call (replay_valid_C (⟨a0, a1, a2, nl⟩ : S_edgecheck_replay)) [] fun y24 =>
  .br (y24.2 != 0)
   (.ret false)
   (.lit 9000 (1) <|
   .known true <|
   .grd (0 ≤ (1 : Int) ∧ (1 : Int) < ((2 : Nat) : Int)) <|
   .call (replay_inside_C (⟨a0, a1, a2, nl⟩ : S_edgecheck_replay)) [] fun y28 =>
   .br (y28.2 != 0)
    (.ret false)
    (.lit 9000 (2) <|
    .known false <|
    .call (config_Piece_C a1 a2 a3.Depth a3.Index) [] fun y30 =>
    .br y30.2
     (.br (((a3.Normals.length : Nat) : Int) == 0)
      (.call (classify_CheckColliding_C (⟨a0.Robot, a0.Shapes, a0.Skips⟩ : S_Scene) y30.1 (⟨a4.Pair, a4.Left, a4.Right⟩ : S_Witness)) [] fun y31 =>
      .ret y31)
      (.ret false))
     (.ret false)))
noncomputable def edgecheck_Refutes_C (a0 : S_Scene) (a1 : (List Int)) (a2 : (List Int)) (a3 : S_Piece) (a4 : S_Witness) : CallS Bool :=
  mkC [⟨96, guard96⟩] hd Tryz.func43 (by kernel_rfl) (edgecheck_Refutes_T a0 a1 a2 a3 a4) 0 [.pure (enc_Scene a0), .pure (encL 1 encI_i64 a1), .pure (encL 1 encI_i64 a2), .pure (enc_Piece a3), .pure (enc_Witness a4)] [] (fun r => .pure (.bool r)) (fun _ => []) (by kernel_rfl)

noncomputable def ref14_CheckColliding_T (a0 : S_Scene) (a1 : (List S_Interval)) (a2 : S_Witness) : T Bool :=
  .call (ref14_sides_C a0 a1) [] fun y2 =>
  .cut 1 (fun (y4 : Bool) => ⟨[(5, .ptr 0 0), (7, .pure (encL 2 enc_ref14_side y2.1)), (8, .pure (encL 2 enc_ref14_side y2.2.1)), (31, .pure (.bool y4))], [(0, .box [.pure (.int .i64 a2.Pair), .pure (encL 1 encI_i64 a2.Left), .pure (encL 1 encI_i64 a2.Right)])], [], 1⟩)
   (.br (!y2.2.2)
    (.ret (.out true))
    (.br (decide (a2.Pair < 0))
     (.ret (.out true))
     (.ret (.out (decide (a2.Pair ≥ ((y2.1.length : Nat) : Int))))))) fun y4 =>
  .br y4
   (.ret false)
   (.grd (0 ≤ a2.Pair ∧ a2.Pair < ((y2.1.length : Nat) : Int)) <|
   .grd (0 ≤ a2.Pair ∧ a2.Pair < ((y2.1.length : Nat) : Int)) <|
   .grd (0 ≤ a2.Pair ∧ a2.Pair < ((y2.2.1.length : Nat) : Int)) <|
   .grd (0 ≤ a2.Pair ∧ a2.Pair < ((y2.2.1.length : Nat) : Int)) <|
   .call (ref14_Overlaps_C a2.Left a2.Right ((y2.1.getD ((a2.Pair).toNat) default).points) ((y2.1.getD ((a2.Pair).toNat) default).radius) ((y2.2.1.getD ((a2.Pair).toNat) default).points) ((y2.2.1.getD ((a2.Pair).toNat) default).radius)) [] fun y5 =>
   .ret y5)
noncomputable def ref14_CheckColliding_C (a0 : S_Scene) (a1 : (List S_Interval)) (a2 : S_Witness) : CallS Bool :=
  mkC [] hd Tryz.func110 (by kernel_rfl) (ref14_CheckColliding_T a0 a1 a2) 0 [.pure (enc_Scene a0), .pure (encL 2 enc_Interval a1), .pure (enc_Witness a2)] [] (fun r => .pure (.bool r)) (fun _ => []) (by kernel_rfl)

noncomputable def ref19_Refutes_T (a0 : S_Scene) (a1 : (List Int)) (a2 : (List Int)) (a3 : S_Piece) (a4 : S_Witness) : T Bool :=
  .cut 2 (fun (y7 : Bool) => ⟨[(1, .pure (encL 1 encI_i64 a1)), (2, .pure (encL 1 encI_i64 a2)), (5, .ptr 0 0), (8, .ptr 1 0), (9, .ptr 2 0), (23, .pure (.bool y7))], [(0, .box [.pure (encL 12 enc_Joint a0.Robot.Joints), .pure (encL 5 enc_Mass a0.Robot.Masses), .pure (encL 3 enc_Shape a0.Shapes), .pure (encL 2 enc_Skip a0.Skips)]), (1, .box [.pure (.int .i64 a3.Depth), .pure (.int .i64 a3.Index), .pure (encL 3 enc_arr_3_int64 a3.Normals)]), (2, .box [.pure (.int .i64 a4.Pair), .pure (encL 1 encI_i64 a4.Left), .pure (encL 1 encI_i64 a4.Right)])], [], 3⟩)
   (.call (ref19_ready_C a0 a1 a2) [] fun y8 =>
   .br (!y8)
    (.ret (.out true))
    (.ret (.out (decide (((a3.Normals.length : Nat) : Int) > 0))))) fun y7 =>
  .br y7
   (.ret false)
   (.call (ref10_Piece_C a1 a2 a3.Depth a3.Index) [] fun y10 =>
   .br y10.2
    (.call (ref14_CheckColliding_C a0 y10.1 a4) [] fun y11 =>
    .ret y11)
    (.ret false))
noncomputable def ref19_Refutes_C (a0 : S_Scene) (a1 : (List Int)) (a2 : (List Int)) (a3 : S_Piece) (a4 : S_Witness) : CallS Bool :=
  mkC [] hd Tryz.func53 (by kernel_rfl) (ref19_Refutes_T a0 a1 a2 a3 a4) 0 [.pure (enc_Scene a0), .pure (encL 1 encI_i64 a1), .pure (encL 1 encI_i64 a2), .pure (enc_Piece a3), .pure (enc_Witness a4)] [] (fun r => .pure (.bool r)) (fun _ => []) (by kernel_rfl)

noncomputable def edgecheck_isEmpty_T (a0 : S_Piece) (a1 : S_Witness) : T Bool :=
  .br (a0.Depth == 0)
   (.br (a0.Index == 0)
    (.br (((a0.Normals.length : Nat) : Int) == 0)
     (.br (a1.Pair == 0)
      (.br (((a1.Left.length : Nat) : Int) == 0)
       (.ret (((a1.Right.length : Nat) : Int) == 0))
       (.ret false))
      (.ret false))
     (.ret false))
    (.ret false))
   (.ret false)
noncomputable def edgecheck_isEmpty_C (a0 : S_Piece) (a1 : S_Witness) : CallS Bool :=
  mkC [] hd Tryz.func112 (by kernel_rfl) (edgecheck_isEmpty_T a0 a1) 0 [.pure (enc_Piece a0), .pure (enc_Witness a1)] [] (fun r => .pure (.bool r)) (fun _ => []) (by kernel_rfl)

noncomputable def edgecheck_Accepts_T (a0 : S_Scene) (a1 : (List Int)) (a2 : (List Int)) (a3 : S_EdgeResult) : T Bool :=
  .br (a3.Kind == 1)
   (.call (edgecheck_isEmpty_C a3.At a3.Witness) [] fun y11 =>
   .br (!y11)
    (.ret false)
    (.call (edgecheck_Check_C (⟨a0.Robot, a0.Shapes, a0.Skips⟩ : S_Scene) a1 a2 a3.Pieces) [] fun y13 =>
    .ret (y13.2 == 0)))
   (.br (a3.Kind == 2)
    (.br (((a3.Pieces.length : Nat) : Int) == 0)
     (.call (edgecheck_Refutes_C (⟨a0.Robot, a0.Shapes, a0.Skips⟩ : S_Scene) a1 a2 a3.At a3.Witness) [] fun y14 =>
     .ret y14)
     (.ret false))
    (.ret false))
noncomputable def edgecheck_Accepts_C (a0 : S_Scene) (a1 : (List Int)) (a2 : (List Int)) (a3 : S_EdgeResult) : CallS Bool :=
  mkC [⟨111, guard111⟩] hd Tryz.func54 (by kernel_rfl) (edgecheck_Accepts_T a0 a1 a2 a3) 0 [.pure (enc_Scene a0), .pure (encL 1 encI_i64 a1), .pure (encL 1 encI_i64 a2), .pure (enc_EdgeResult a3)] [] (fun r => .pure (.bool r)) (fun _ => []) (by kernel_rfl)

noncomputable def ref14_Empty_T (a0 : S_Witness) : T Bool :=
  .br (a0.Pair == 0)
   (.br (((a0.Left.length : Nat) : Int) == 0)
    (.ret (((a0.Right.length : Nat) : Int) == 0))
    (.ret false))
   (.ret false)
noncomputable def ref14_Empty_C (a0 : S_Witness) : CallS Bool :=
  mkC [] hd Tryz.func113 (by kernel_rfl) (ref14_Empty_T a0) 0 [.pure (enc_Witness a0)] [] (fun r => .pure (.bool r)) (fun _ => []) (by kernel_rfl)

noncomputable def ref19_begin_T (a0 : S_Piece) : T (Int × Int × Bool) :=
  .cut 2 (fun (y5 : Bool) => ⟨[(1, .ptr 0 0), (27, .pure (.bool y5))], [(0, .box [.pure (.int .i64 a0.Depth), .pure (.int .i64 a0.Index), .pure (encL 3 enc_arr_3_int64 a0.Normals)])], [], 1⟩)
   (.br (decide (a0.Depth < 0))
    (.ret (.out true))
    (.br (decide (a0.Depth > 20))
     (.ret (.out true))
     (.br (decide (a0.Index < 0))
      (.ret (.out true))
      (.grd (0 ≤ (IntKind.u64.wrap a0.Depth)) <|
      .ret (.out (decide (a0.Index ≥ (IntKind.i64.wrap (1 * 2 ^ (min ((IntKind.u64.wrap a0.Depth)).toNat 64)))))))))) fun y5 =>
  .br y5
   (.ret (0, 0, false))
   (.grd (0 ≤ (IntKind.u64.wrap (IntKind.i64.wrap (20 - a0.Depth)))) <|
   .name 4003 ((IntKind.i64.wrap (a0.Index * (IntKind.i64.wrap (1 * 2 ^ (min ((IntKind.u64.wrap (IntKind.i64.wrap (20 - a0.Depth)))).toNat 64)))))) fun z6 =>
   .ret (z6, (IntKind.i64.wrap (1 * 2 ^ (min ((IntKind.u64.wrap (IntKind.i64.wrap (20 - a0.Depth)))).toNat 64))), true))
noncomputable def ref19_begin_C (a0 : S_Piece) : CallS (Int × Int × Bool) :=
  mkC [] hd Tryz.func163 (by kernel_rfl) (ref19_begin_T a0) 0 [.pure (enc_Piece a0)] [] (fun r => .tup [.pure (.int .i64 r.1), .pure (.int .i64 r.2.1), .pure (.bool r.2.2)]) (fun _ => []) (by kernel_rfl)

noncomputable def ref19_cover_T (a0 : (List S_Piece)) : T (Int × Bool) :=
  .loop (fun (x37 : (Int × Int)) => ⟨[(0, .pure (encL 3 enc_Piece a0)), (4, .pure (.int .i64 x37.1)), (5, .pure (.int .i64 x37.2))], [], [], 0⟩)
   (.exit 0) (fun (y46 : Int) => ⟨[(0, .pure (encL 3 enc_Piece a0)), (4, .pure (.int .i64 y46))], [], [], 0⟩)
   (fun x37 => .br (decide (x37.2 < ((a0.length : Nat) : Int)))
     (.grd (0 ≤ x37.2 ∧ x37.2 < ((a0.length : Nat) : Int)) <|
     .call (ref19_begin_C (a0.getD ((x37.2).toNat) default)) [] fun y52 =>
     .cut 1 (fun (y54 : Bool) => ⟨[(0, .pure (encL 3 enc_Piece a0)), (5, .pure (.int .i64 x37.2)), (6, .pure (.int .i64 y52.1)), (7, .pure (.int .i64 y52.2.1)), (34, .pure (.bool y54))], [], [], 0⟩)
      (.br (!y52.2.2)
       (.ret (.out true))
       (.br (y52.1 != x37.1)
        (.ret (.out true))
        (.ret (.out (decide (x37.2 ≥ 4096)))))) fun y54 =>
     .br y54
      (.ret (.fin (x37.2, false)))
      (.ret (.next ((IntKind.i64.wrap (y52.1 + y52.2.1)), (IntKind.i64.wrap (x37.2 + 1))))))
     (.ret (.out x37.1)))
   (0, 0) [] fun y46 =>
  .ret (((a0.length : Nat) : Int), (y46 == 1048576))
noncomputable def ref19_cover_C (a0 : (List S_Piece)) : CallS (Int × Bool) :=
  mkC [] hd Tryz.func108 (by kernel_rfl) (ref19_cover_T a0) 0 [.pure (encL 3 enc_Piece a0)] [] (fun r => .tup [.pure (.int .i64 r.1), .pure (.bool r.2)]) (fun _ => []) (by kernel_rfl)

noncomputable def ref14_CheckFree_T (a0 : S_Scene) (a1 : (List S_Interval)) (a2 : (List (Int × Int × Int))) : T Bool :=
  .call (ref14_sides_C a0 a1) [] fun y2 =>
  .cut 1 (fun (y4 : Bool) => ⟨[(2, .pure (encL 3 enc_arr_3_int64 a2)), (7, .pure (encL 2 enc_ref14_side y2.1)), (8, .pure (encL 2 enc_ref14_side y2.2.1)), (26, .pure (.bool y4))], [], [], 0⟩)
   (.br (!y2.2.2)
    (.ret (.out true))
    (.ret (.out (((a2.length : Nat) : Int) != ((y2.1.length : Nat) : Int))))) fun y4 =>
  .br y4
   (.ret false)
   (.loop (fun (x25 : Int) => ⟨[(2, .pure (encL 3 enc_arr_3_int64 a2)), (7, .pure (encL 2 enc_ref14_side y2.1)), (8, .pure (encL 2 enc_ref14_side y2.2.1)), (10, .pure (.int .i64 x25))], [], [], 0⟩)
    (.exit 0) (fun (_ : U0) => ⟨[], [], [], 0⟩)
    (fun x25 => .br (decide (x25 < ((y2.1.length : Nat) : Int)))
      (.grd (0 ≤ x25 ∧ x25 < ((a2.length : Nat) : Int)) <|
      .grd (0 ≤ x25 ∧ x25 < ((y2.1.length : Nat) : Int)) <|
      .grd (0 ≤ x25 ∧ x25 < ((y2.1.length : Nat) : Int)) <|
      .grd (0 ≤ x25 ∧ x25 < ((y2.2.1.length : Nat) : Int)) <|
      .grd (0 ≤ x25 ∧ x25 < ((y2.2.1.length : Nat) : Int)) <|
      .call (ref14_Separates_C (a2.getD ((x25).toNat) default) ((y2.1.getD ((x25).toNat) default).points) ((y2.1.getD ((x25).toNat) default).radius) ((y2.2.1.getD ((x25).toNat) default).points) ((y2.2.1.getD ((x25).toNat) default).radius)) [] fun y34 =>
      .br (!y34)
       (.ret (.fin false))
       (.ret (.next (IntKind.i64.wrap (x25 + 1)))))
      (.ret (.out .u)))
    0 [] fun _ =>
   .ret true)
noncomputable def ref14_CheckFree_C (a0 : S_Scene) (a1 : (List S_Interval)) (a2 : (List (Int × Int × Int))) : CallS Bool :=
  mkC [] hd Tryz.func109 (by kernel_rfl) (ref14_CheckFree_T a0 a1 a2) 0 [.pure (enc_Scene a0), .pure (encL 2 enc_Interval a1), .pure (encL 3 enc_arr_3_int64 a2)] [] (fun r => .pure (.bool r)) (fun _ => []) (by kernel_rfl)

noncomputable def ref19_CheckEdge_T (a0 : S_Scene) (a1 : (List Int)) (a2 : (List Int)) (a3 : (List S_Piece)) : T (Int × Int) :=
  .call (ref6_CheckScene_C a0) [] fun y4 =>
  .br (y4 != 0)
   (.ret (0, 904))
   (.call (ref19_ready_C a0 a1 a2) [] fun y8 =>
   .br (!y8)
    (.ret (0, 1201))
    (.call (ref19_cover_C a3) [] fun y12 =>
    .br (!y12.2)
     (.ret (y12.1, 2001))
     (.loop (fun (x49 : Int) => ⟨[(1, .pure (encL 1 encI_i64 a1)), (2, .pure (encL 1 encI_i64 a2)), (3, .pure (encL 3 enc_Piece a3)), (4, .ptr 0 0), (12, .pure (.int .i64 x49))], [(0, .box [.pure (encL 12 enc_Joint a0.Robot.Joints), .pure (encL 5 enc_Mass a0.Robot.Masses), .pure (encL 3 enc_Shape a0.Shapes), .pure (encL 2 enc_Skip a0.Skips)])], [], 1⟩)
      (.exit 0) (fun (_ : U0) => ⟨[], [], [], 0⟩)
      (fun x49 => .br (decide (x49 < ((a3.length : Nat) : Int)))
        (.grd (0 ≤ x49 ∧ x49 < ((a3.length : Nat) : Int)) <|
        .grd (0 ≤ x49 ∧ x49 < ((a3.length : Nat) : Int)) <|
        .call (ref10_Piece_C a1 a2 ((a3.getD ((x49).toNat) default).Depth) ((a3.getD ((x49).toNat) default).Index)) [] fun y64 =>
        .grd (0 ≤ x49 ∧ x49 < ((a3.length : Nat) : Int)) <|
        .call (ref14_CheckFree_C a0 y64.1 ((a3.getD ((x49).toNat) default).Normals)) [] fun y66 =>
        .br (!y66)
         (.ret (.fin (x49, 2002)))
         (.ret (.next (IntKind.i64.wrap (x49 + 1)))))
        (.ret (.out .u)))
      0 [] fun _ =>
     .ret (0, 0))))
noncomputable def ref19_CheckEdge_C (a0 : S_Scene) (a1 : (List Int)) (a2 : (List Int)) (a3 : (List S_Piece)) : CallS (Int × Int) :=
  mkC [] hd Tryz.func51 (by kernel_rfl) (ref19_CheckEdge_T a0 a1 a2 a3) 0 [.pure (enc_Scene a0), .pure (encL 1 encI_i64 a1), .pure (encL 1 encI_i64 a2), .pure (encL 3 enc_Piece a3)] [] (fun r => .tup [.pure (.int .i64 r.1), .pure (.int .i64 r.2)]) (fun _ => []) (by kernel_rfl)

noncomputable def ref19_Accepts_T (a0 : S_Scene) (a1 : (List Int)) (a2 : (List Int)) (a3 : S_EdgeResult) : T Bool :=
  .br (a3.Kind == 1)
   (.cut 1 (fun (y18 : Bool) => ⟨[(1, .pure (encL 1 encI_i64 a1)), (2, .pure (encL 1 encI_i64 a2)), (4, .ptr 0 0), (7, .ptr 1 0), (37, .pure (.bool y18))], [(0, .box [.pure (encL 12 enc_Joint a0.Robot.Joints), .pure (encL 5 enc_Mass a0.Robot.Masses), .pure (encL 3 enc_Shape a0.Shapes), .pure (encL 2 enc_Skip a0.Skips)]), (1, .box [.pure (.int .i64 a3.Kind), .pure (encL 3 enc_Piece a3.Pieces), .pure (.int .i64 a3.At.Depth), .pure (.int .i64 a3.At.Index), .pure (encL 3 enc_arr_3_int64 a3.At.Normals), .pure (.int .i64 a3.Witness.Pair), .pure (encL 1 encI_i64 a3.Witness.Left), .pure (encL 1 encI_i64 a3.Witness.Right)])], [], 2⟩)
    (.br (a3.At.Depth != 0)
     (.ret (.out true))
     (.br (a3.At.Index != 0)
      (.ret (.out true))
      (.br (decide (((a3.At.Normals.length : Nat) : Int) > 0))
       (.ret (.out true))
       (.call (ref14_Empty_C a3.Witness) [] fun y19 =>
       .ret (.out (!y19)))))) fun y18 =>
   .br y18
    (.ret false)
    (.call (ref19_CheckEdge_C a0 a1 a2 a3.Pieces) [] fun y21 =>
    .ret (y21.2 == 0)))
   (.br (a3.Kind == 2)
    (.br (((a3.Pieces.length : Nat) : Int) == 0)
     (.call (ref19_Refutes_C a0 a1 a2 a3.At a3.Witness) [] fun y22 =>
     .ret y22)
     (.ret false))
    (.ret false))
noncomputable def ref19_Accepts_C (a0 : S_Scene) (a1 : (List Int)) (a2 : (List Int)) (a3 : S_EdgeResult) : CallS Bool :=
  mkC [] hd Tryz.func55 (by kernel_rfl) (ref19_Accepts_T a0 a1 a2 a3) 0 [.pure (enc_Scene a0), .pure (encL 1 encI_i64 a1), .pure (encL 1 encI_i64 a2), .pure (enc_EdgeResult a3)] [] (fun r => .pure (.bool r)) (fun _ => []) (by kernel_rfl)

noncomputable def law20_accepts_T (a0 : S_Scene) (a1 : (List Int)) (a2 : (List Int)) (a3 : S_EdgeResult) : T Bool :=
  .call (edgecheck_Refutes_C (⟨a0.Robot, a0.Shapes, a0.Skips⟩ : S_Scene) a1 a2 a3.At a3.Witness) [] fun y1 =>
  .call (ref19_Refutes_C a0 a1 a2 a3.At a3.Witness) [] fun y2 =>
  .br (y1 == y2)
   (.call (edgecheck_Accepts_C (⟨a0.Robot, a0.Shapes, a0.Skips⟩ : S_Scene) a1 a2 a3) [] fun y3 =>
   .call (ref19_Accepts_C a0 a1 a2 (⟨a3.Kind, a3.Pieces, a3.At, a3.Witness⟩ : S_EdgeResult)) [] fun y4 =>
   .ret (y3 == y4))
   (.ret false)
noncomputable def law20_accepts_C (a0 : S_Scene) (a1 : (List Int)) (a2 : (List Int)) (a3 : S_EdgeResult) : CallS Bool :=
  mkC [] hd Tryz.func21 (by kernel_rfl) (law20_accepts_T a0 a1 a2 a3) 0 [.pure (enc_Scene a0), .pure (encL 1 encI_i64 a1), .pure (encL 1 encI_i64 a2), .pure (enc_EdgeResult a3)] [] (fun r => .pure (.bool r)) (fun _ => []) (by kernel_rfl)

noncomputable def law20_EdgecheckAccepts_T (a0 : S_Scene) (a1 : (List Int)) (a2 : (List Int)) (a3 : S_EdgeResult) (a4 : (List Int)) (a5 : (List Int)) (a6 : (List Int)) (a7 : Int) (a8 : Int) (a9 : Int) (a10 : Int) : T Bool :=
  .call (law20_motion_C a4 a5 a6 a7) [] fun y2 =>
  .call (ref19_Prove_C (⟨y2.1.Robot, y2.1.Shapes, y2.1.Skips⟩ : S_Scene) y2.2.1 y2.2.2.1 y2.2.2.2) [] fun y4 =>
  .cut 1 (fun (y19 : (Int × (List S_Piece) × Int × Int × (List (Int × Int × Int)) × Int)) => ⟨[(1, .pure (encL 1 encI_i64 a1)), (2, .pure (encL 1 encI_i64 a2)), (11, .ptr 0 0), (14, .ptr 1 0), (23, .ptr 2 0), (24, .pure (encL 1 encI_i64 y2.2.1)), (25, .pure (encL 1 encI_i64 y2.2.2.1)), (27, .ptr 3 0), (28, .ptr 4 0)], [(0, .box [.pure (encL 12 enc_Joint a0.Robot.Joints), .pure (encL 5 enc_Mass a0.Robot.Masses), .pure (encL 3 enc_Shape a0.Shapes), .pure (encL 2 enc_Skip a0.Skips)]), (1, .box [.pure (.int .i64 a3.Kind), .pure (encL 3 enc_Piece a3.Pieces), .pure (.int .i64 a3.At.Depth), .pure (.int .i64 a3.At.Index), .pure (encL 3 enc_arr_3_int64 a3.At.Normals), .pure (.int .i64 a3.Witness.Pair), .pure (encL 1 encI_i64 a3.Witness.Left), .pure (encL 1 encI_i64 a3.Witness.Right)]), (2, .box [.pure (encL 12 enc_Joint y2.1.Robot.Joints), .pure (encL 5 enc_Mass y2.1.Robot.Masses), .pure (encL 3 enc_Shape y2.1.Shapes), .pure (encL 2 enc_Skip y2.1.Skips)]), (3, .box [.pure (.int .i64 y4.Kind), .pure (encL 3 enc_Piece y4.Pieces), .pure (.int .i64 y4.At.Depth), .pure (.int .i64 y4.At.Index), .pure (encL 3 enc_arr_3_int64 y4.At.Normals), .pure (.int .i64 y4.Witness.Pair), .pure (encL 1 encI_i64 y4.Witness.Left), .pure (encL 1 encI_i64 y4.Witness.Right)]), (4, .box [.pure (.int .i64 y19.1), .pure (encL 3 enc_Piece y19.2.1), .pure (.int .i64 y19.2.2.1), .pure (.int .i64 y19.2.2.2.1), .pure (encL 3 enc_arr_3_int64 y19.2.2.2.2.1), .pure (.int .i64 y19.2.2.2.2.2), .pure (encL 1 encI_i64 y4.Witness.Left), .pure (encL 1 encI_i64 y4.Witness.Right)])], [], 5⟩)
   (.call (make_Round_C a8 6) [] fun y21 =>
   .br (y21 == 0)
    (.call (make_Round_C a10 4) [] fun y22 =>
    .ret (.out (y22, y4.Pieces, y4.At.Depth, y4.At.Index, y4.At.Normals, y4.Witness.Pair)))
    (.br (y21 == 1)
     (.call (make_Round_C a10 3) [] fun y23 =>
     .ret (.out (y4.Kind, y4.Pieces, (IntKind.i64.wrap (y4.At.Depth + (IntKind.i64.wrap (y23 - 1)))), y4.At.Index, y4.At.Normals, y4.Witness.Pair)))
     (.br (y21 == 2)
      (.call (make_Round_C a10 3) [] fun y24 =>
      .ret (.out (y4.Kind, y4.Pieces, y4.At.Depth, (IntKind.i64.wrap (y4.At.Index + (IntKind.i64.wrap (y24 - 1)))), y4.At.Normals, y4.Witness.Pair)))
      (.br (y21 == 3)
       (.conv 13001 (cvLit 3 enc_arr_3_int64 ([(1, 0, 0)] : (List (Int × Int × Int))) 49) <|
       .ret (.out (y4.Kind, y4.Pieces, y4.At.Depth, y4.At.Index, ([(1, 0, 0)] : (List (Int × Int × Int))), y4.Witness.Pair)))
       (.br (y21 == 4)
        (.call (make_Round_C a10 3) [] fun y25 =>
        .ret (.out (y4.Kind, y4.Pieces, y4.At.Depth, y4.At.Index, y4.At.Normals, (IntKind.i64.wrap (y4.Witness.Pair + (IntKind.i64.wrap (y25 - 1)))))))
        (.ok ((6 : Int) ≠ 0) (by decide) <|
        .call (law20_pieces_C y4.Pieces (IntKind.i64.wrap (a8.tdiv 6)) a9 a10) [] fun y26 =>
        .ret (.out (y4.Kind, y26, y4.At.Depth, y4.At.Index, y4.At.Normals, y4.Witness.Pair)))))))) fun y19 =>
  .call (law20_awake_C) [] fun y27 =>
  .br y27
   (.call (law20_accepts_C a0 a1 a2 (⟨a3.Kind, a3.Pieces, a3.At, a3.Witness⟩ : S_EdgeResult)) [] fun y28 =>
   .br y28
    (.call (law20_accepts_C (⟨y2.1.Robot, y2.1.Shapes, y2.1.Skips⟩ : S_Scene) y2.2.1 y2.2.2.1 (⟨a3.Kind, a3.Pieces, a3.At, a3.Witness⟩ : S_EdgeResult)) [] fun y29 =>
    .br y29
     (.call (law20_accepts_C (⟨y2.1.Robot, y2.1.Shapes, y2.1.Skips⟩ : S_Scene) y2.2.1 y2.2.2.1 (⟨y4.Kind, y4.Pieces, y4.At, y4.Witness⟩ : S_EdgeResult)) [] fun y30 =>
     .br y30
      (.call (law20_accepts_C (⟨y2.1.Robot, y2.1.Shapes, y2.1.Skips⟩ : S_Scene) y2.2.1 y2.2.2.1 (⟨y19.1, y19.2.1, (⟨y19.2.2.1, y19.2.2.2.1, y19.2.2.2.2.1⟩ : S_Piece), (⟨y19.2.2.2.2.2, y4.Witness.Left, y4.Witness.Right⟩ : S_Witness)⟩ : S_EdgeResult)) [] fun y31 =>
      .ret y31)
      (.ret false))
     (.ret false))
    (.ret false))
   (.ret false)
noncomputable def law20_EdgecheckAccepts_C (a0 : S_Scene) (a1 : (List Int)) (a2 : (List Int)) (a3 : S_EdgeResult) (a4 : (List Int)) (a5 : (List Int)) (a6 : (List Int)) (a7 : Int) (a8 : Int) (a9 : Int) (a10 : Int) : CallS Bool :=
  mkC [] hd Tryz.func4 (by kernel_rfl) (law20_EdgecheckAccepts_T a0 a1 a2 a3 a4 a5 a6 a7 a8 a9 a10) 0 [.pure (enc_Scene a0), .pure (encL 1 encI_i64 a1), .pure (encL 1 encI_i64 a2), .pure (enc_EdgeResult a3), .pure (encL 1 encI_i64 a4), .pure (encL 1 encI_i64 a5), .pure (encL 1 encI_i64 a6), .pure (.int .i64 a7), .pure (.int .i64 a8), .pure (.int .i64 a9), .pure (.int .i64 a10)] [] (fun r => .pure (.bool r)) (fun _ => []) (by kernel_rfl)

end Go.Abs
