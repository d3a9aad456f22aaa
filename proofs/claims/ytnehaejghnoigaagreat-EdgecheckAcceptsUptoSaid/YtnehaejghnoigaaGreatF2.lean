/-
  F2: what functions of the program compute, as trees, with their specifications (printed by a program of ours).
-/
import Derived.Test.YtnehaejghnoigaaGreatF1
namespace Go.Abs
open Go.Proofs
set_option maxHeartbeats 8000000 in
set_option maxRecDepth 20000 in
noncomputable def ref10_Links_T (a0 : S_Robot) (a1 : (List S_Interval)) : T (List S_Pose) :=
  .cut 2 (fun (y12 : Bool) => ⟨[(1, .pure (encL 2 enc_Interval a1)), (2, .ptr 0 0), (16, .pure (.bool y12))], [(0, .box [.pure (encL 12 enc_Joint a0.Joints), .pure (encL 5 enc_Mass a0.Masses)])], [], 1⟩)
   (.call (ref6_CheckRobot_C a0) [] fun y13 =>
   .br (y13 != 0)
    (.ret (.out true))
    (.call (ref10_IsBox_C a0 a1) [] fun y14 =>
    .ret (.out (!y14)))) fun y12 =>
  .br y12
   (.ret nl)
   (.loop (fun (x73 : ((List S_Pose) × Int)) => ⟨[(1, .pure (encL 2 enc_Interval a1)), (2, .ptr 0 0), (5, .vec 1), (6, .pure (.int .i64 x73.2))], [(0, .box [.pure (encL 12 enc_Joint a0.Joints), .pure (encL 5 enc_Mass a0.Masses)]), (1, vecO 24 enc_Pose x73.1 236)], [], 2⟩)
    (.exit 0) (fun (y86 : (List S_Pose)) => ⟨[(5, .vec 0)], [(0, vecO 24 enc_Pose y86 236)], [], 1⟩)
    (fun x73 => .br (decide (x73.2 < ((a1.length : Nat) : Int)))
      (.grd (0 ≤ x73.2 ∧ x73.2 < ((a0.Joints.length : Nat) : Int)) <|
      .grd (0 ≤ x73.2 ∧ x73.2 < ((a1.length : Nat) : Int)) <|
      .call (ref10_Joint_C (a0.Joints.getD ((x73.2).toNat) default) (a1.getD ((x73.2).toNat) default)) [] fun y94 =>
      .cut 0 (fun (y97 : (Int × Int × Int × Int × Int × Int × Int × Int × Int × Int × Int × Int × Int × Int × Int × Int × Int × Int × Int × Int × Int × Int × Int × Int)) => ⟨[(1, .pure (encL 2 enc_Interval a1)), (2, .ptr 0 0), (5, .vec 1), (6, .pure (.int .i64 x73.2)), (7, .ptr 2 0)], [(0, .box [.pure (encL 12 enc_Joint a0.Joints), .pure (encL 5 enc_Mass a0.Masses)]), (1, vecO 24 enc_Pose x73.1 236), (2, .box [.pure (.int .i64 y97.1), .pure (.int .i64 y97.2.1), .pure (.int .i64 y97.2.2.1), .pure (.int .i64 y97.2.2.2.1), .pure (.int .i64 y97.2.2.2.2.1), .pure (.int .i64 y97.2.2.2.2.2.1), .pure (.int .i64 y97.2.2.2.2.2.2.1), .pure (.int .i64 y97.2.2.2.2.2.2.2.1), .pure (.int .i64 y97.2.2.2.2.2.2.2.2.1), .pure (.int .i64 y97.2.2.2.2.2.2.2.2.2.1), .pure (.int .i64 y97.2.2.2.2.2.2.2.2.2.2.1), .pure (.int .i64 y97.2.2.2.2.2.2.2.2.2.2.2.1), .pure (.int .i64 y97.2.2.2.2.2.2.2.2.2.2.2.2.1), .pure (.int .i64 y97.2.2.2.2.2.2.2.2.2.2.2.2.2.1), .pure (.int .i64 y97.2.2.2.2.2.2.2.2.2.2.2.2.2.2.1), .pure (.int .i64 y97.2.2.2.2.2.2.2.2.2.2.2.2.2.2.2.1), .pure (.int .i64 y97.2.2.2.2.2.2.2.2.2.2.2.2.2.2.2.2.1), .pure (.int .i64 y97.2.2.2.2.2.2.2.2.2.2.2.2.2.2.2.2.2.1), .pure (.int .i64 y97.2.2.2.2.2.2.2.2.2.2.2.2.2.2.2.2.2.2.1), .pure (.int .i64 y97.2.2.2.2.2.2.2.2.2.2.2.2.2.2.2.2.2.2.2.1), .pure (.int .i64 y97.2.2.2.2.2.2.2.2.2.2.2.2.2.2.2.2.2.2.2.2.1), .pure (.int .i64 y97.2.2.2.2.2.2.2.2.2.2.2.2.2.2.2.2.2.2.2.2.2.1), .pure (.int .i64 y97.2.2.2.2.2.2.2.2.2.2.2.2.2.2.2.2.2.2.2.2.2.2.1), .pure (.int .i64 y97.2.2.2.2.2.2.2.2.2.2.2.2.2.2.2.2.2.2.2.2.2.2.2)])], [], 3⟩)
       (.grd (0 ≤ x73.2 ∧ x73.2 < ((a0.Joints.length : Nat) : Int)) <|
       .br (((a0.Joints.getD ((x73.2).toNat) default).Parent) != (-1))
        (.grd (0 ≤ x73.2 ∧ x73.2 < ((a0.Joints.length : Nat) : Int)) <|
        .grd (0 ≤ ((a0.Joints.getD ((x73.2).toNat) default).Parent) ∧ ((a0.Joints.getD ((x73.2).toNat) default).Parent) < ((x73.1.length : Nat) : Int)) <|
        .grd (((a0.Joints.getD ((x73.2).toNat) default).Parent).toNat < x73.1.length) <|
        .call (ref1_Compose_C (x73.1.getD (((a0.Joints.getD ((x73.2).toNat) default).Parent).toNat) default) y94) [] fun y98 =>
        .ret (.out (y98.R.1.1.Lo, y98.R.1.1.Hi, y98.R.1.2.1.Lo, y98.R.1.2.1.Hi, y98.R.1.2.2.Lo, y98.R.1.2.2.Hi, y98.R.2.1.1.Lo, y98.R.2.1.1.Hi, y98.R.2.1.2.1.Lo, y98.R.2.1.2.1.Hi, y98.R.2.1.2.2.Lo, y98.R.2.1.2.2.Hi, y98.R.2.2.1.Lo, y98.R.2.2.1.Hi, y98.R.2.2.2.1.Lo, y98.R.2.2.2.1.Hi, y98.R.2.2.2.2.Lo, y98.R.2.2.2.2.Hi, y98.T.1.Lo, y98.T.1.Hi, y98.T.2.1.Lo, y98.T.2.1.Hi, y98.T.2.2.Lo, y98.T.2.2.Hi)))
        (.ret (.out (y94.R.1.1.Lo, y94.R.1.1.Hi, y94.R.1.2.1.Lo, y94.R.1.2.1.Hi, y94.R.1.2.2.Lo, y94.R.1.2.2.Hi, y94.R.2.1.1.Lo, y94.R.2.1.1.Hi, y94.R.2.1.2.1.Lo, y94.R.2.1.2.1.Hi, y94.R.2.1.2.2.Lo, y94.R.2.1.2.2.Hi, y94.R.2.2.1.Lo, y94.R.2.2.1.Hi, y94.R.2.2.2.1.Lo, y94.R.2.2.2.1.Hi, y94.R.2.2.2.2.Lo, y94.R.2.2.2.2.Hi, y94.T.1.Lo, y94.T.1.Hi, y94.T.2.1.Lo, y94.T.2.1.Hi, y94.T.2.2.Lo, y94.T.2.2.Hi)))) fun y97 =>
      .conv 10002 (cvLit 24 enc_Pose ([(⟨(((⟨y97.1, y97.2.1⟩ : S_Interval), (⟨y97.2.2.1, y97.2.2.2.1⟩ : S_Interval), (⟨y97.2.2.2.2.1, y97.2.2.2.2.2.1⟩ : S_Interval)), ((⟨y97.2.2.2.2.2.2.1, y97.2.2.2.2.2.2.2.1⟩ : S_Interval), (⟨y97.2.2.2.2.2.2.2.2.1, y97.2.2.2.2.2.2.2.2.2.1⟩ : S_Interval), (⟨y97.2.2.2.2.2.2.2.2.2.2.1, y97.2.2.2.2.2.2.2.2.2.2.2.1⟩ : S_Interval)), ((⟨y97.2.2.2.2.2.2.2.2.2.2.2.2.1, y97.2.2.2.2.2.2.2.2.2.2.2.2.2.1⟩ : S_Interval), (⟨y97.2.2.2.2.2.2.2.2.2.2.2.2.2.2.1, y97.2.2.2.2.2.2.2.2.2.2.2.2.2.2.2.1⟩ : S_Interval), (⟨y97.2.2.2.2.2.2.2.2.2.2.2.2.2.2.2.2.1, y97.2.2.2.2.2.2.2.2.2.2.2.2.2.2.2.2.2.1⟩ : S_Interval))), ((⟨y97.2.2.2.2.2.2.2.2.2.2.2.2.2.2.2.2.2.2.1, y97.2.2.2.2.2.2.2.2.2.2.2.2.2.2.2.2.2.2.2.1⟩ : S_Interval), (⟨y97.2.2.2.2.2.2.2.2.2.2.2.2.2.2.2.2.2.2.2.2.1, y97.2.2.2.2.2.2.2.2.2.2.2.2.2.2.2.2.2.2.2.2.2.1⟩ : S_Interval), (⟨y97.2.2.2.2.2.2.2.2.2.2.2.2.2.2.2.2.2.2.2.2.2.2.1, y97.2.2.2.2.2.2.2.2.2.2.2.2.2.2.2.2.2.2.2.2.2.2.2⟩ : S_Interval))⟩ : S_Pose)] : (List S_Pose)) 236) <|
      .conv 10003 (cvApp 24 enc_Pose x73.1 ([(⟨(((⟨y97.1, y97.2.1⟩ : S_Interval), (⟨y97.2.2.1, y97.2.2.2.1⟩ : S_Interval), (⟨y97.2.2.2.2.1, y97.2.2.2.2.2.1⟩ : S_Interval)), ((⟨y97.2.2.2.2.2.2.1, y97.2.2.2.2.2.2.2.1⟩ : S_Interval), (⟨y97.2.2.2.2.2.2.2.2.1, y97.2.2.2.2.2.2.2.2.2.1⟩ : S_Interval), (⟨y97.2.2.2.2.2.2.2.2.2.2.1, y97.2.2.2.2.2.2.2.2.2.2.2.1⟩ : S_Interval)), ((⟨y97.2.2.2.2.2.2.2.2.2.2.2.2.1, y97.2.2.2.2.2.2.2.2.2.2.2.2.2.1⟩ : S_Interval), (⟨y97.2.2.2.2.2.2.2.2.2.2.2.2.2.2.1, y97.2.2.2.2.2.2.2.2.2.2.2.2.2.2.2.1⟩ : S_Interval), (⟨y97.2.2.2.2.2.2.2.2.2.2.2.2.2.2.2.2.1, y97.2.2.2.2.2.2.2.2.2.2.2.2.2.2.2.2.2.1⟩ : S_Interval))), ((⟨y97.2.2.2.2.2.2.2.2.2.2.2.2.2.2.2.2.2.2.1, y97.2.2.2.2.2.2.2.2.2.2.2.2.2.2.2.2.2.2.2.1⟩ : S_Interval), (⟨y97.2.2.2.2.2.2.2.2.2.2.2.2.2.2.2.2.2.2.2.2.1, y97.2.2.2.2.2.2.2.2.2.2.2.2.2.2.2.2.2.2.2.2.2.1⟩ : S_Interval), (⟨y97.2.2.2.2.2.2.2.2.2.2.2.2.2.2.2.2.2.2.2.2.2.2.1, y97.2.2.2.2.2.2.2.2.2.2.2.2.2.2.2.2.2.2.2.2.2.2.2⟩ : S_Interval))⟩ : S_Pose)] : (List S_Pose)) 236) <|
      .grd ((x73.1.length + ([(⟨(((⟨y97.1, y97.2.1⟩ : S_Interval), (⟨y97.2.2.1, y97.2.2.2.1⟩ : S_Interval), (⟨y97.2.2.2.2.1, y97.2.2.2.2.2.1⟩ : S_Interval)), ((⟨y97.2.2.2.2.2.2.1, y97.2.2.2.2.2.2.2.1⟩ : S_Interval), (⟨y97.2.2.2.2.2.2.2.2.1, y97.2.2.2.2.2.2.2.2.2.1⟩ : S_Interval), (⟨y97.2.2.2.2.2.2.2.2.2.2.1, y97.2.2.2.2.2.2.2.2.2.2.2.1⟩ : S_Interval)), ((⟨y97.2.2.2.2.2.2.2.2.2.2.2.2.1, y97.2.2.2.2.2.2.2.2.2.2.2.2.2.1⟩ : S_Interval), (⟨y97.2.2.2.2.2.2.2.2.2.2.2.2.2.2.1, y97.2.2.2.2.2.2.2.2.2.2.2.2.2.2.2.1⟩ : S_Interval), (⟨y97.2.2.2.2.2.2.2.2.2.2.2.2.2.2.2.2.1, y97.2.2.2.2.2.2.2.2.2.2.2.2.2.2.2.2.2.1⟩ : S_Interval))), ((⟨y97.2.2.2.2.2.2.2.2.2.2.2.2.2.2.2.2.2.2.1, y97.2.2.2.2.2.2.2.2.2.2.2.2.2.2.2.2.2.2.2.1⟩ : S_Interval), (⟨y97.2.2.2.2.2.2.2.2.2.2.2.2.2.2.2.2.2.2.2.2.1, y97.2.2.2.2.2.2.2.2.2.2.2.2.2.2.2.2.2.2.2.2.2.1⟩ : S_Interval), (⟨y97.2.2.2.2.2.2.2.2.2.2.2.2.2.2.2.2.2.2.2.2.2.2.1, y97.2.2.2.2.2.2.2.2.2.2.2.2.2.2.2.2.2.2.2.2.2.2.2⟩ : S_Interval))⟩ : S_Pose)] : (List S_Pose)).length) * 192 ≤ 140737488355328 ∧ (x73.1.length + ([(⟨(((⟨y97.1, y97.2.1⟩ : S_Interval), (⟨y97.2.2.1, y97.2.2.2.1⟩ : S_Interval), (⟨y97.2.2.2.2.1, y97.2.2.2.2.2.1⟩ : S_Interval)), ((⟨y97.2.2.2.2.2.2.1, y97.2.2.2.2.2.2.2.1⟩ : S_Interval), (⟨y97.2.2.2.2.2.2.2.2.1, y97.2.2.2.2.2.2.2.2.2.1⟩ : S_Interval), (⟨y97.2.2.2.2.2.2.2.2.2.2.1, y97.2.2.2.2.2.2.2.2.2.2.2.1⟩ : S_Interval)), ((⟨y97.2.2.2.2.2.2.2.2.2.2.2.2.1, y97.2.2.2.2.2.2.2.2.2.2.2.2.2.1⟩ : S_Interval), (⟨y97.2.2.2.2.2.2.2.2.2.2.2.2.2.2.1, y97.2.2.2.2.2.2.2.2.2.2.2.2.2.2.2.1⟩ : S_Interval), (⟨y97.2.2.2.2.2.2.2.2.2.2.2.2.2.2.2.2.1, y97.2.2.2.2.2.2.2.2.2.2.2.2.2.2.2.2.2.1⟩ : S_Interval))), ((⟨y97.2.2.2.2.2.2.2.2.2.2.2.2.2.2.2.2.2.2.1, y97.2.2.2.2.2.2.2.2.2.2.2.2.2.2.2.2.2.2.2.1⟩ : S_Interval), (⟨y97.2.2.2.2.2.2.2.2.2.2.2.2.2.2.2.2.2.2.2.2.1, y97.2.2.2.2.2.2.2.2.2.2.2.2.2.2.2.2.2.2.2.2.2.1⟩ : S_Interval), (⟨y97.2.2.2.2.2.2.2.2.2.2.2.2.2.2.2.2.2.2.2.2.2.2.1, y97.2.2.2.2.2.2.2.2.2.2.2.2.2.2.2.2.2.2.2.2.2.2.2⟩ : S_Interval))⟩ : S_Pose)] : (List S_Pose)).length) ≤ maxLen) <|
      .ret (.next ((x73.1 ++ ([(⟨(((⟨y97.1, y97.2.1⟩ : S_Interval), (⟨y97.2.2.1, y97.2.2.2.1⟩ : S_Interval), (⟨y97.2.2.2.2.1, y97.2.2.2.2.2.1⟩ : S_Interval)), ((⟨y97.2.2.2.2.2.2.1, y97.2.2.2.2.2.2.2.1⟩ : S_Interval), (⟨y97.2.2.2.2.2.2.2.2.1, y97.2.2.2.2.2.2.2.2.2.1⟩ : S_Interval), (⟨y97.2.2.2.2.2.2.2.2.2.2.1, y97.2.2.2.2.2.2.2.2.2.2.2.1⟩ : S_Interval)), ((⟨y97.2.2.2.2.2.2.2.2.2.2.2.2.1, y97.2.2.2.2.2.2.2.2.2.2.2.2.2.1⟩ : S_Interval), (⟨y97.2.2.2.2.2.2.2.2.2.2.2.2.2.2.1, y97.2.2.2.2.2.2.2.2.2.2.2.2.2.2.2.1⟩ : S_Interval), (⟨y97.2.2.2.2.2.2.2.2.2.2.2.2.2.2.2.2.1, y97.2.2.2.2.2.2.2.2.2.2.2.2.2.2.2.2.2.1⟩ : S_Interval))), ((⟨y97.2.2.2.2.2.2.2.2.2.2.2.2.2.2.2.2.2.2.1, y97.2.2.2.2.2.2.2.2.2.2.2.2.2.2.2.2.2.2.2.1⟩ : S_Interval), (⟨y97.2.2.2.2.2.2.2.2.2.2.2.2.2.2.2.2.2.2.2.2.1, y97.2.2.2.2.2.2.2.2.2.2.2.2.2.2.2.2.2.2.2.2.2.1⟩ : S_Interval), (⟨y97.2.2.2.2.2.2.2.2.2.2.2.2.2.2.2.2.2.2.2.2.2.2.1, y97.2.2.2.2.2.2.2.2.2.2.2.2.2.2.2.2.2.2.2.2.2.2.2⟩ : S_Interval))⟩ : S_Pose)] : (List S_Pose))), (IntKind.i64.wrap (x73.2 + 1)))))
      (.ret (.out x73.1)))
    (nl, 0) [] fun y86 =>
   .ret y86)
noncomputable def ref10_Links_C (a0 : S_Robot) (a1 : (List S_Interval)) : CallS (List S_Pose) :=
  mkC [] hd Tryz.func203 (by kernel_rfl) (ref10_Links_T a0 a1) 0 [.pure (enc_Robot a0), .pure (encL 2 enc_Interval a1)] [] (fun r => .pure (encL 24 enc_Pose r)) (fun _ => []) (by kernel_rfl)

noncomputable def ref10_CheckShape_T (a0 : S_Shape) : T Bool :=
  .cut 2 (fun (y2 : Bool) => ⟨[(1, .ptr 0 0), (23, .pure (.bool y2))], [(0, .box [.pure (.int .i64 a0.Link), .pure (.int .i64 a0.Radius), .pure (encL 3 enc_arr_3_int64 a0.Points)])], [], 1⟩)
   (.br (decide (a0.Radius < 1))
    (.ret (.out true))
    (.br (decide (a0.Radius > 1048576))
     (.ret (.out true))
     (.br (decide (((a0.Points.length : Nat) : Int) < 1))
      (.ret (.out true))
      (.ret (.out (decide (((a0.Points.length : Nat) : Int) > 8))))))) fun y2 =>
  .br y2
   (.ret false)
   (.loop (fun (x23 : Int) => ⟨[(1, .ptr 0 0), (3, .pure (.int .i64 x23))], [(0, .box [.pure (.int .i64 a0.Link), .pure (.int .i64 a0.Radius), .pure (encL 3 enc_arr_3_int64 a0.Points)])], [], 1⟩)
    (.exit 0) (fun (_ : U0) => ⟨[], [], [], 0⟩)
    (fun x23 => .br (decide (x23 < ((a0.Points.length : Nat) : Int)))
      (.grd (0 ≤ x23 ∧ x23 < ((a0.Points.length : Nat) : Int)) <|
      .call (ref6_Near_C (a0.Points.getD ((x23).toNat) default) 4194304) [] fun y32 =>
      .br (!y32)
       (.ret (.fin false))
       (.ret (.next (IntKind.i64.wrap (x23 + 1)))))
      (.ret (.out .u)))
    0 [] fun _ =>
   .ret true)
noncomputable def ref10_CheckShape_C (a0 : S_Shape) : CallS Bool :=
  mkC [] hd Tryz.func242 (by kernel_rfl) (ref10_CheckShape_T a0) 0 [.pure (enc_Shape a0)] [] (fun r => .pure (.bool r)) (fun _ => []) (by kernel_rfl)

noncomputable def ref1_Apply_T (a0 : S_Pose) (a1 : (S_Interval × S_Interval × S_Interval)) : T (S_Interval × S_Interval × S_Interval) :=
  .call (ref1_ApplyMat_C a0.R a1) [] fun y1 =>
  .call (ref1_AddVec_C a0.T y1) [] fun y2 =>
  .ret y2
noncomputable def ref1_Apply_C (a0 : S_Pose) (a1 : (S_Interval × S_Interval × S_Interval)) : CallS (S_Interval × S_Interval × S_Interval) :=
  mkC [] hd Tryz.func243 (by kernel_rfl) (ref1_Apply_T a0 a1) 0 [.pure (enc_Pose a0), .pure (enc_arr_3_Interval a1)] [] (fun r => .pure (enc_arr_3_Interval r)) (fun _ => []) (by kernel_rfl)

noncomputable def ref10_Place_T (a0 : S_Shape) (a1 : S_Pose) : T (List (S_Interval × S_Interval × S_Interval)) :=
  .call (ref10_CheckShape_C a0) [] fun y4 =>
  .br (!y4)
   (.ret nl)
   (.loop (fun (x25 : ((List (S_Interval × S_Interval × S_Interval)) × Int)) => ⟨[(2, .ptr 0 0), (3, .ptr 1 0), (5, .vec 2), (6, .pure (.int .i64 x25.2))], [(0, .box [.pure (.int .i64 a0.Link), .pure (.int .i64 a0.Radius), .pure (encL 3 enc_arr_3_int64 a0.Points)]), (1, .box [.pure (.int .i64 a1.R.1.1.Lo), .pure (.int .i64 a1.R.1.1.Hi), .pure (.int .i64 a1.R.1.2.1.Lo), .pure (.int .i64 a1.R.1.2.1.Hi), .pure (.int .i64 a1.R.1.2.2.Lo), .pure (.int .i64 a1.R.1.2.2.Hi), .pure (.int .i64 a1.R.2.1.1.Lo), .pure (.int .i64 a1.R.2.1.1.Hi), .pure (.int .i64 a1.R.2.1.2.1.Lo), .pure (.int .i64 a1.R.2.1.2.1.Hi), .pure (.int .i64 a1.R.2.1.2.2.Lo), .pure (.int .i64 a1.R.2.1.2.2.Hi), .pure (.int .i64 a1.R.2.2.1.Lo), .pure (.int .i64 a1.R.2.2.1.Hi), .pure (.int .i64 a1.R.2.2.2.1.Lo), .pure (.int .i64 a1.R.2.2.2.1.Hi), .pure (.int .i64 a1.R.2.2.2.2.Lo), .pure (.int .i64 a1.R.2.2.2.2.Hi), .pure (.int .i64 a1.T.1.Lo), .pure (.int .i64 a1.T.1.Hi), .pure (.int .i64 a1.T.2.1.Lo), .pure (.int .i64 a1.T.2.1.Hi), .pure (.int .i64 a1.T.2.2.Lo), .pure (.int .i64 a1.T.2.2.Hi)]), (2, vecO 6 enc_arr_3_Interval x25.1 199)], [], 3⟩)
    (.exit 0) (fun (y30 : (List (S_Interval × S_Interval × S_Interval))) => ⟨[(5, .vec 0)], [(0, vecO 6 enc_arr_3_Interval y30 199)], [], 1⟩)
    (fun x25 => .br (decide (x25.2 < ((a0.Points.length : Nat) : Int)))
      (.grd (0 ≤ x25.2 ∧ x25.2 < ((a0.Points.length : Nat) : Int)) <|
      .call (ref1_Point_C (a0.Points.getD ((x25.2).toNat) default)) [] fun y33 =>
      .call (ref1_Apply_C (⟨a1.R, a1.T⟩ : S_Pose) y33) [] fun y34 =>
      .conv 7009 (cvLit 6 enc_arr_3_Interval ([y34] : (List (S_Interval × S_Interval × S_Interval))) 199) <|
      .conv 7010 (cvApp 6 enc_arr_3_Interval x25.1 ([y34] : (List (S_Interval × S_Interval × S_Interval))) 199) <|
      .grd ((x25.1.length + ([y34] : (List (S_Interval × S_Interval × S_Interval))).length) * 48 ≤ 140737488355328 ∧ (x25.1.length + ([y34] : (List (S_Interval × S_Interval × S_Interval))).length) ≤ maxLen) <|
      .ret (.next ((x25.1 ++ ([y34] : (List (S_Interval × S_Interval × S_Interval)))), (IntKind.i64.wrap (x25.2 + 1)))))
      (.ret (.out x25.1)))
    (nl, 0) [] fun y30 =>
   .ret y30)
noncomputable def ref10_Place_C (a0 : S_Shape) (a1 : S_Pose) : CallS (List (S_Interval × S_Interval × S_Interval)) :=
  mkC [] hd Tryz.func205 (by kernel_rfl) (ref10_Place_T a0 a1) 0 [.pure (enc_Shape a0), .pure (enc_Pose a1)] [] (fun r => .pure (encL 6 enc_arr_3_Interval r)) (fun _ => []) (by kernel_rfl)

set_option maxHeartbeats 8000000 in
set_option maxRecDepth 20000 in
noncomputable def ref10_Points_T (a0 : S_Scene) (a1 : (List S_Interval)) : T (List (List (S_Interval × S_Interval × S_Interval))) :=
  .cut 2 (fun (y12 : Bool) => ⟨[(1, .pure (encL 2 enc_Interval a1)), (2, .ptr 0 0), (18, .pure (.bool y12))], [(0, .box [.pure (encL 12 enc_Joint a0.Robot.Joints), .pure (encL 5 enc_Mass a0.Robot.Masses), .pure (encL 3 enc_Shape a0.Shapes), .pure (encL 2 enc_Skip a0.Skips)])], [], 1⟩)
   (.call (ref6_CheckScene_C a0) [] fun y13 =>
   .br (y13 != 0)
    (.ret (.out true))
    (.call (ref10_IsBox_C a0.Robot a1) [] fun y14 =>
    .ret (.out (!y14)))) fun y12 =>
  .br y12
   (.ret nl)
   (.call (ref10_Links_C a0.Robot a1) [] fun y16 =>
   .loop (fun (x53 : ((List (List (S_Interval × S_Interval × S_Interval))) × Int)) => ⟨[(2, .ptr 0 0), (5, .pure (encL 24 enc_Pose y16)), (6, .vec 1), (7, .pure (.int .i64 x53.2))], [(0, .box [.pure (encL 12 enc_Joint a0.Robot.Joints), .pure (encL 5 enc_Mass a0.Robot.Masses), .pure (encL 3 enc_Shape a0.Shapes), .pure (encL 2 enc_Skip a0.Skips)]), (1, vecO 1 (encL 6 enc_arr_3_Interval) x53.1 118)], [], 2⟩)
    (.exit 0) (fun (y62 : (List (List (S_Interval × S_Interval × S_Interval)))) => ⟨[(6, .vec 0)], [(0, vecO 1 (encL 6 enc_arr_3_Interval) y62 118)], [], 1⟩)
    (fun x53 => .br (decide (x53.2 < ((a0.Shapes.length : Nat) : Int)))
      (.call (ref1_Rest_C) [] fun y68 =>
      .cut 0 (fun (y69 : (Int × Int × Int × Int × Int × Int × Int × Int × Int × Int × Int × Int × Int × Int × Int × Int × Int × Int × Int × Int × Int × Int × Int × Int)) => ⟨[(2, .ptr 0 0), (5, .pure (encL 24 enc_Pose y16)), (6, .vec 1), (7, .pure (.int .i64 x53.2)), (8, .ptr 2 0)], [(0, .box [.pure (encL 12 enc_Joint a0.Robot.Joints), .pure (encL 5 enc_Mass a0.Robot.Masses), .pure (encL 3 enc_Shape a0.Shapes), .pure (encL 2 enc_Skip a0.Skips)]), (1, vecO 1 (encL 6 enc_arr_3_Interval) x53.1 118), (2, .box [.pure (.int .i64 y69.1), .pure (.int .i64 y69.2.1), .pure (.int .i64 y69.2.2.1), .pure (.int .i64 y69.2.2.2.1), .pure (.int .i64 y69.2.2.2.2.1), .pure (.int .i64 y69.2.2.2.2.2.1), .pure (.int .i64 y69.2.2.2.2.2.2.1), .pure (.int .i64 y69.2.2.2.2.2.2.2.1), .pure (.int .i64 y69.2.2.2.2.2.2.2.2.1), .pure (.int .i64 y69.2.2.2.2.2.2.2.2.2.1), .pure (.int .i64 y69.2.2.2.2.2.2.2.2.2.2.1), .pure (.int .i64 y69.2.2.2.2.2.2.2.2.2.2.2.1), .pure (.int .i64 y69.2.2.2.2.2.2.2.2.2.2.2.2.1), .pure (.int .i64 y69.2.2.2.2.2.2.2.2.2.2.2.2.2.1), .pure (.int .i64 y69.2.2.2.2.2.2.2.2.2.2.2.2.2.2.1), .pure (.int .i64 y69.2.2.2.2.2.2.2.2.2.2.2.2.2.2.2.1), .pure (.int .i64 y69.2.2.2.2.2.2.2.2.2.2.2.2.2.2.2.2.1), .pure (.int .i64 y69.2.2.2.2.2.2.2.2.2.2.2.2.2.2.2.2.2.1), .pure (.int .i64 y69.2.2.2.2.2.2.2.2.2.2.2.2.2.2.2.2.2.2.1), .pure (.int .i64 y69.2.2.2.2.2.2.2.2.2.2.2.2.2.2.2.2.2.2.2.1), .pure (.int .i64 y69.2.2.2.2.2.2.2.2.2.2.2.2.2.2.2.2.2.2.2.2.1), .pure (.int .i64 y69.2.2.2.2.2.2.2.2.2.2.2.2.2.2.2.2.2.2.2.2.2.1), .pure (.int .i64 y69.2.2.2.2.2.2.2.2.2.2.2.2.2.2.2.2.2.2.2.2.2.2.1), .pure (.int .i64 y69.2.2.2.2.2.2.2.2.2.2.2.2.2.2.2.2.2.2.2.2.2.2.2)])], [], 3⟩)
       (.grd (0 ≤ x53.2 ∧ x53.2 < ((a0.Shapes.length : Nat) : Int)) <|
       .br (((a0.Shapes.getD ((x53.2).toNat) default).Link) != (-1))
        (.grd (0 ≤ x53.2 ∧ x53.2 < ((a0.Shapes.length : Nat) : Int)) <|
        .grd (0 ≤ ((a0.Shapes.getD ((x53.2).toNat) default).Link) ∧ ((a0.Shapes.getD ((x53.2).toNat) default).Link) < ((y16.length : Nat) : Int)) <|
        .ret (.out ((y16.getD (((a0.Shapes.getD ((x53.2).toNat) default).Link).toNat) default).R.1.1.Lo, (y16.getD (((a0.Shapes.getD ((x53.2).toNat) default).Link).toNat) default).R.1.1.Hi, (y16.getD (((a0.Shapes.getD ((x53.2).toNat) default).Link).toNat) default).R.1.2.1.Lo, (y16.getD (((a0.Shapes.getD ((x53.2).toNat) default).Link).toNat) default).R.1.2.1.Hi, (y16.getD (((a0.Shapes.getD ((x53.2).toNat) default).Link).toNat) default).R.1.2.2.Lo, (y16.getD (((a0.Shapes.getD ((x53.2).toNat) default).Link).toNat) default).R.1.2.2.Hi, (y16.getD (((a0.Shapes.getD ((x53.2).toNat) default).Link).toNat) default).R.2.1.1.Lo, (y16.getD (((a0.Shapes.getD ((x53.2).toNat) default).Link).toNat) default).R.2.1.1.Hi, (y16.getD (((a0.Shapes.getD ((x53.2).toNat) default).Link).toNat) default).R.2.1.2.1.Lo, (y16.getD (((a0.Shapes.getD ((x53.2).toNat) default).Link).toNat) default).R.2.1.2.1.Hi, (y16.getD (((a0.Shapes.getD ((x53.2).toNat) default).Link).toNat) default).R.2.1.2.2.Lo, (y16.getD (((a0.Shapes.getD ((x53.2).toNat) default).Link).toNat) default).R.2.1.2.2.Hi, (y16.getD (((a0.Shapes.getD ((x53.2).toNat) default).Link).toNat) default).R.2.2.1.Lo, (y16.getD (((a0.Shapes.getD ((x53.2).toNat) default).Link).toNat) default).R.2.2.1.Hi, (y16.getD (((a0.Shapes.getD ((x53.2).toNat) default).Link).toNat) default).R.2.2.2.1.Lo, (y16.getD (((a0.Shapes.getD ((x53.2).toNat) default).Link).toNat) default).R.2.2.2.1.Hi, (y16.getD (((a0.Shapes.getD ((x53.2).toNat) default).Link).toNat) default).R.2.2.2.2.Lo, (y16.getD (((a0.Shapes.getD ((x53.2).toNat) default).Link).toNat) default).R.2.2.2.2.Hi, (y16.getD (((a0.Shapes.getD ((x53.2).toNat) default).Link).toNat) default).T.1.Lo, (y16.getD (((a0.Shapes.getD ((x53.2).toNat) default).Link).toNat) default).T.1.Hi, (y16.getD (((a0.Shapes.getD ((x53.2).toNat) default).Link).toNat) default).T.2.1.Lo, (y16.getD (((a0.Shapes.getD ((x53.2).toNat) default).Link).toNat) default).T.2.1.Hi, (y16.getD (((a0.Shapes.getD ((x53.2).toNat) default).Link).toNat) default).T.2.2.Lo, (y16.getD (((a0.Shapes.getD ((x53.2).toNat) default).Link).toNat) default).T.2.2.Hi)))
        (.ret (.out (y68.R.1.1.Lo, y68.R.1.1.Hi, y68.R.1.2.1.Lo, y68.R.1.2.1.Hi, y68.R.1.2.2.Lo, y68.R.1.2.2.Hi, y68.R.2.1.1.Lo, y68.R.2.1.1.Hi, y68.R.2.1.2.1.Lo, y68.R.2.1.2.1.Hi, y68.R.2.1.2.2.Lo, y68.R.2.1.2.2.Hi, y68.R.2.2.1.Lo, y68.R.2.2.1.Hi, y68.R.2.2.2.1.Lo, y68.R.2.2.2.1.Hi, y68.R.2.2.2.2.Lo, y68.R.2.2.2.2.Hi, y68.T.1.Lo, y68.T.1.Hi, y68.T.2.1.Lo, y68.T.2.1.Hi, y68.T.2.2.Lo, y68.T.2.2.Hi)))) fun y69 =>
      .grd (0 ≤ x53.2 ∧ x53.2 < ((a0.Shapes.length : Nat) : Int)) <|
      .call (ref10_Place_C (a0.Shapes.getD ((x53.2).toNat) default) (⟨(((⟨y69.1, y69.2.1⟩ : S_Interval), (⟨y69.2.2.1, y69.2.2.2.1⟩ : S_Interval), (⟨y69.2.2.2.2.1, y69.2.2.2.2.2.1⟩ : S_Interval)), ((⟨y69.2.2.2.2.2.2.1, y69.2.2.2.2.2.2.2.1⟩ : S_Interval), (⟨y69.2.2.2.2.2.2.2.2.1, y69.2.2.2.2.2.2.2.2.2.1⟩ : S_Interval), (⟨y69.2.2.2.2.2.2.2.2.2.2.1, y69.2.2.2.2.2.2.2.2.2.2.2.1⟩ : S_Interval)), ((⟨y69.2.2.2.2.2.2.2.2.2.2.2.2.1, y69.2.2.2.2.2.2.2.2.2.2.2.2.2.1⟩ : S_Interval), (⟨y69.2.2.2.2.2.2.2.2.2.2.2.2.2.2.1, y69.2.2.2.2.2.2.2.2.2.2.2.2.2.2.2.1⟩ : S_Interval), (⟨y69.2.2.2.2.2.2.2.2.2.2.2.2.2.2.2.2.1, y69.2.2.2.2.2.2.2.2.2.2.2.2.2.2.2.2.2.1⟩ : S_Interval))), ((⟨y69.2.2.2.2.2.2.2.2.2.2.2.2.2.2.2.2.2.2.1, y69.2.2.2.2.2.2.2.2.2.2.2.2.2.2.2.2.2.2.2.1⟩ : S_Interval), (⟨y69.2.2.2.2.2.2.2.2.2.2.2.2.2.2.2.2.2.2.2.2.1, y69.2.2.2.2.2.2.2.2.2.2.2.2.2.2.2.2.2.2.2.2.2.1⟩ : S_Interval), (⟨y69.2.2.2.2.2.2.2.2.2.2.2.2.2.2.2.2.2.2.2.2.2.2.1, y69.2.2.2.2.2.2.2.2.2.2.2.2.2.2.2.2.2.2.2.2.2.2.2⟩ : S_Interval))⟩ : S_Pose)) [] fun y70 =>
      .conv 11008 (cvLit 1 (encL 6 enc_arr_3_Interval) ([y70] : (List (List (S_Interval × S_Interval × S_Interval)))) 118) <|
      .conv 11009 (cvApp 1 (encL 6 enc_arr_3_Interval) x53.1 ([y70] : (List (List (S_Interval × S_Interval × S_Interval)))) 118) <|
      .grd ((x53.1.length + ([y70] : (List (List (S_Interval × S_Interval × S_Interval)))).length) * 24 ≤ 140737488355328 ∧ (x53.1.length + ([y70] : (List (List (S_Interval × S_Interval × S_Interval)))).length) ≤ maxLen) <|
      .ret (.next ((x53.1 ++ ([y70] : (List (List (S_Interval × S_Interval × S_Interval))))), (IntKind.i64.wrap (x53.2 + 1)))))
      (.ret (.out x53.1)))
    (nl, 0) [] fun y62 =>
   .ret y62)
noncomputable def ref10_Points_C (a0 : S_Scene) (a1 : (List S_Interval)) : CallS (List (List (S_Interval × S_Interval × S_Interval))) :=
  mkC [] hd Tryz.func148 (by kernel_rfl) (ref10_Points_T a0 a1) 0 [.pure (enc_Scene a0), .pure (encL 2 enc_Interval a1)] [] (fun r => .pure (encL 1 (encL 6 enc_arr_3_Interval) r)) (fun _ => []) (by kernel_rfl)

noncomputable def ref6_Chain_T (a0 : S_Robot) (a1 : Int) : T (List Int) :=
  .cut 2 (fun (y12 : Bool) => ⟨[(1, .pure (.int .i64 a1)), (2, .ptr 0 0), (15, .pure (.bool y12))], [(0, .box [.pure (encL 12 enc_Joint a0.Joints), .pure (encL 5 enc_Mass a0.Masses)])], [], 1⟩)
   (.call (ref6_CheckRobot_C a0) [] fun y13 =>
   .br (y13 != 0)
    (.ret (.out true))
    (.call (ref6_isLink_C a0 a1) [] fun y14 =>
    .ret (.out (!y14)))) fun y12 =>
  .br y12
   (.ret nl)
   (.loop (fun (x19 : ((List Int) × Int)) => ⟨[(2, .ptr 0 0), (5, .vec 1), (6, .pure (.int .i64 x19.2))], [(0, .box [.pure (encL 12 enc_Joint a0.Joints), .pure (encL 5 enc_Mass a0.Masses)]), (1, vecO 1 encI_i64 x19.1 3)], [], 2⟩)
    (.exit 0) (fun (y20 : (List Int)) => ⟨[(5, .vec 0)], [(0, vecO 1 encI_i64 y20 3)], [], 1⟩)
    (fun x19 => .br (x19.2 != (-1))
      (.conv 7001 (cvLit 1 encI_i64 ([x19.2] : (List Int)) 3) <|
      .conv 7003 (cvApp 1 encI_i64 ([x19.2] : (List Int)) x19.1 3) <|
      .grd ((([x19.2] : (List Int)).length + x19.1.length) * 8 ≤ 140737488355328 ∧ (([x19.2] : (List Int)).length + x19.1.length) ≤ maxLen) <|
      .grd (0 ≤ x19.2 ∧ x19.2 < ((a0.Joints.length : Nat) : Int)) <|
      .ret (.next ((([x19.2] : (List Int)) ++ x19.1), (a0.Joints.getD ((x19.2).toNat) default).Parent)))
      (.ret (.out x19.1)))
    (nl, a1) [] fun y20 =>
   .ret y20)
noncomputable def ref6_Chain_C (a0 : S_Robot) (a1 : Int) : CallS (List Int) :=
  mkC [] hd Tryz.func170 (by kernel_rfl) (ref6_Chain_T a0 a1) 0 [.pure (enc_Robot a0), .pure (.int .i64 a1)] [] (fun r => .pure (encL 1 encI_i64 r)) (fun _ => []) (by kernel_rfl)

noncomputable def ref6_member_T (a0 : (List Int)) (a1 : Int) : T Bool :=
  .loop (fun (x5 : Int) => ⟨[(0, .pure (encL 1 encI_i64 a0)), (1, .pure (.int .i64 a1)), (5, .pure (.int .i64 x5))], [], [], 0⟩)
   (.exit 0) (fun (_ : U0) => ⟨[], [], [], 0⟩)
   (fun x5 => .br (decide (x5 < ((a0.length : Nat) : Int)))
     (.grd (0 ≤ x5 ∧ x5 < ((a0.length : Nat) : Int)) <|
     .br ((a0.getD ((x5).toNat) default) == a1)
      (.ret (.fin true))
      (.ret (.next (IntKind.i64.wrap (x5 + 1)))))
     (.ret (.out .u)))
   0 [] fun _ =>
  .ret false
noncomputable def ref6_member_C (a0 : (List Int)) (a1 : Int) : CallS Bool :=
  mkC [] hd Tryz.func171 (by kernel_rfl) (ref6_member_T a0 a1) 0 [.pure (encL 1 encI_i64 a0), .pure (.int .i64 a1)] [] (fun r => .pure (.bool r)) (fun _ => []) (by kernel_rfl)

noncomputable def ref6_Between_T (a0 : S_Robot) (a1 : Int) (a2 : Int) : T (List Int) :=
  .cut 2 (fun (y17 : Bool) => ⟨[(1, .pure (.int .i64 a1)), (2, .pure (.int .i64 a2)), (3, .ptr 0 0), (25, .pure (.bool y17))], [(0, .box [.pure (encL 12 enc_Joint a0.Joints), .pure (encL 5 enc_Mass a0.Masses)])], [], 1⟩)
   (.call (ref6_CheckRobot_C a0) [] fun y18 =>
   .br (y18 != 0)
    (.ret (.out true))
    (.call (ref6_isLink_C a0 a1) [] fun y19 =>
    .br (!y19)
     (.ret (.out true))
     (.call (ref6_isLink_C a0 a2) [] fun y20 =>
     .ret (.out (!y20))))) fun y17 =>
  .br y17
   (.ret nl)
   (.call (ref6_Chain_C a0 a1) [] fun y23 =>
   .call (ref6_Chain_C a0 a2) [] fun y24 =>
   .loop (fun (x81 : ((List Int) × Int)) => ⟨[(3, .ptr 0 0), (7, .pure (encL 1 encI_i64 y23)), (8, .pure (encL 1 encI_i64 y24)), (9, .vec 1), (10, .pure (.int .i64 x81.2))], [(0, .box [.pure (encL 12 enc_Joint a0.Joints), .pure (encL 5 enc_Mass a0.Masses)]), (1, vecO 1 encI_i64 x81.1 3)], [], 2⟩)
    (.exit 0) (fun (y95 : (List Int)) => ⟨[(9, .vec 0)], [(0, vecO 1 encI_i64 y95 3)], [], 1⟩)
    (fun x81 => .br (decide (x81.2 < ((a0.Joints.length : Nat) : Int)))
      (.cut 0 (fun (y104 : (List Int)) => ⟨[(3, .ptr 0 0), (7, .pure (encL 1 encI_i64 y23)), (8, .pure (encL 1 encI_i64 y24)), (9, .vec 1), (10, .pure (.int .i64 x81.2))], [(0, .box [.pure (encL 12 enc_Joint a0.Joints), .pure (encL 5 enc_Mass a0.Masses)]), (1, vecO 1 encI_i64 y104 3)], [], 2⟩)
       (.call (ref6_member_C y23 x81.2) [] fun y107 =>
       .call (ref6_member_C y24 x81.2) [] fun y108 =>
       .br (!(y107 == y108))
        (.conv 9002 (cvLit 1 encI_i64 ([x81.2] : (List Int)) 3) <|
        .conv 9003 (cvApp 1 encI_i64 x81.1 ([x81.2] : (List Int)) 3) <|
        .grd ((x81.1.length + ([x81.2] : (List Int)).length) * 8 ≤ 140737488355328 ∧ (x81.1.length + ([x81.2] : (List Int)).length) ≤ maxLen) <|
        .ret (.out (x81.1 ++ ([x81.2] : (List Int)))))
        (.ret (.out x81.1))) fun y104 =>
      .ret (.next (y104, (IntKind.i64.wrap (x81.2 + 1)))))
      (.ret (.out x81.1)))
    (nl, 0) [] fun y95 =>
   .ret y95)
noncomputable def ref6_Between_C (a0 : S_Robot) (a1 : Int) (a2 : Int) : CallS (List Int) :=
  mkC [] hd Tryz.func131 (by kernel_rfl) (ref6_Between_T a0 a1 a2) 0 [.pure (enc_Robot a0), .pure (.int .i64 a1), .pure (.int .i64 a2)] [] (fun r => .pure (encL 1 encI_i64 r)) (fun _ => []) (by kernel_rfl)

noncomputable def ref6_Rigid_T (a0 : S_Robot) (a1 : Int) (a2 : Int) : T Bool :=
  .cut 2 (fun (y17 : Bool) => ⟨[(1, .pure (.int .i64 a1)), (2, .pure (.int .i64 a2)), (3, .ptr 0 0), (23, .pure (.bool y17))], [(0, .box [.pure (encL 12 enc_Joint a0.Joints), .pure (encL 5 enc_Mass a0.Masses)])], [], 1⟩)
   (.call (ref6_CheckRobot_C a0) [] fun y18 =>
   .br (y18 != 0)
    (.ret (.out true))
    (.call (ref6_isLink_C a0 a1) [] fun y19 =>
    .br (!y19)
     (.ret (.out true))
     (.call (ref6_isLink_C a0 a2) [] fun y20 =>
     .ret (.out (!y20))))) fun y17 =>
  .br y17
   (.ret false)
   (.call (ref6_Between_C (⟨a0.Joints, a0.Masses⟩ : S_Robot) a1 a2) [] fun y22 =>
   .loop (fun (x27 : Int) => ⟨[(3, .ptr 0 0), (7, .pure (encL 1 encI_i64 y22)), (8, .pure (.int .i64 x27))], [(0, .box [.pure (encL 12 enc_Joint a0.Joints), .pure (encL 5 enc_Mass a0.Masses)])], [], 1⟩)
    (.exit 0) (fun (_ : U0) => ⟨[], [], [], 0⟩)
    (fun x27 => .br (decide (x27 < ((y22.length : Nat) : Int)))
      (.grd (0 ≤ x27 ∧ x27 < ((y22.length : Nat) : Int)) <|
      .grd (0 ≤ (y22.getD ((x27).toNat) default) ∧ (y22.getD ((x27).toNat) default) < ((a0.Joints.length : Nat) : Int)) <|
      .grd (0 ≤ x27 ∧ x27 < ((y22.length : Nat) : Int)) <|
      .grd (0 ≤ (y22.getD ((x27).toNat) default) ∧ (y22.getD ((x27).toNat) default) < ((a0.Joints.length : Nat) : Int)) <|
      .br (decide (((a0.Joints.getD (((y22.getD ((x27).toNat) default)).toNat) default).Lo) < ((a0.Joints.getD (((y22.getD ((x27).toNat) default)).toNat) default).Hi)))
       (.ret (.fin false))
       (.ret (.next (IntKind.i64.wrap (x27 + 1)))))
      (.ret (.out .u)))
    0 [] fun _ =>
   .ret true)
noncomputable def ref6_Rigid_C (a0 : S_Robot) (a1 : Int) (a2 : Int) : CallS Bool :=
  mkC [] hd Tryz.func71 (by kernel_rfl) (ref6_Rigid_T a0 a1 a2) 0 [.pure (enc_Robot a0), .pure (.int .i64 a1), .pure (.int .i64 a2)] [] (fun r => .pure (.bool r)) (fun _ => []) (by kernel_rfl)

noncomputable def ref6_Skipped_T (a0 : S_Scene) (a1 : Int) (a2 : Int) : T Bool :=
  .loop (fun (x13 : Int) => ⟨[(1, .pure (.int .i64 a1)), (2, .pure (.int .i64 a2)), (3, .ptr 0 0), (7, .pure (.int .i64 x13))], [(0, .box [.pure (encL 12 enc_Joint a0.Robot.Joints), .pure (encL 5 enc_Mass a0.Robot.Masses), .pure (encL 3 enc_Shape a0.Shapes), .pure (encL 2 enc_Skip a0.Skips)])], [], 1⟩)
   (.exit 0) (fun (_ : U0) => ⟨[], [], [], 0⟩)
   (fun x13 => .br (decide (x13 < ((a0.Skips.length : Nat) : Int)))
     (.grd (0 ≤ x13 ∧ x13 < ((a0.Skips.length : Nat) : Int)) <|
     .cut 0 (fun (y18 : Bool) => ⟨[(1, .pure (.int .i64 a1)), (2, .pure (.int .i64 a2)), (3, .ptr 0 0), (7, .pure (.int .i64 x13)), (42, .pure (.bool y18))], [(0, .box [.pure (encL 12 enc_Joint a0.Robot.Joints), .pure (encL 5 enc_Mass a0.Robot.Masses), .pure (encL 3 enc_Shape a0.Shapes), .pure (encL 2 enc_Skip a0.Skips)])], [], 1⟩)
      (.br (((a0.Skips.getD ((x13).toNat) default).A) == a1)
       (.br (((a0.Skips.getD ((x13).toNat) default).B) == a2)
        (.ret (.out true))
        (.br (((a0.Skips.getD ((x13).toNat) default).A) == a2)
         (.ret (.out (((a0.Skips.getD ((x13).toNat) default).B) == a1)))
         (.ret (.out false))))
       (.br (((a0.Skips.getD ((x13).toNat) default).A) == a2)
        (.ret (.out (((a0.Skips.getD ((x13).toNat) default).B) == a1)))
        (.ret (.out false)))) fun y18 =>
     .br y18
      (.ret (.fin true))
      (.ret (.next (IntKind.i64.wrap (x13 + 1)))))
     (.ret (.out .u)))
   0 [] fun _ =>
  .ret false
noncomputable def ref6_Skipped_C (a0 : S_Scene) (a1 : Int) (a2 : Int) : CallS Bool :=
  mkC [] hd Tryz.func72 (by kernel_rfl) (ref6_Skipped_T a0 a1 a2) 0 [.pure (enc_Scene a0), .pure (.int .i64 a1), .pure (.int .i64 a2)] [] (fun r => .pure (.bool r)) (fun _ => []) (by kernel_rfl)

noncomputable def ref6_Pairs_T (a0 : S_Scene) : T (List S_Pair) :=
  .call (ref6_CheckScene_C a0) [] fun y4 =>
  .br (y4 != 0)
   (.ret nl)
   (.loop (fun (x561 : ((List S_Pair) × Int)) => ⟨[(1, .ptr 0 0), (3, .vec 1), (4, .pure (.int .i64 x561.2))], [(0, .box [.pure (encL 12 enc_Joint a0.Robot.Joints), .pure (encL 5 enc_Mass a0.Robot.Masses), .pure (encL 3 enc_Shape a0.Shapes), .pure (encL 2 enc_Skip a0.Skips)]), (1, vecO 2 enc_Pair x561.1 112)], [], 2⟩)
    (.exit 0) (fun (y700 : (List S_Pair)) => ⟨[(3, .vec 0)], [(0, vecO 2 enc_Pair y700 112)], [], 1⟩)
    (fun x561 => .br (decide (x561.2 < ((a0.Shapes.length : Nat) : Int)))
      (.loop (fun (x793 : ((List S_Pair) × Int)) => ⟨[(1, .ptr 0 0), (3, .vec 1), (4, .pure (.int .i64 x561.2)), (5, .pure (.int .i64 x793.2))], [(0, .box [.pure (encL 12 enc_Joint a0.Robot.Joints), .pure (encL 5 enc_Mass a0.Robot.Masses), .pure (encL 3 enc_Shape a0.Shapes), .pure (encL 2 enc_Skip a0.Skips)]), (1, vecO 2 enc_Pair x793.1 112)], [], 2⟩)
       (.exit 2) (fun (y816 : (List S_Pair)) => ⟨[(1, .ptr 0 0), (3, .vec 1), (4, .pure (.int .i64 x561.2))], [(0, .box [.pure (encL 12 enc_Joint a0.Robot.Joints), .pure (encL 5 enc_Mass a0.Robot.Masses), .pure (encL 3 enc_Shape a0.Shapes), .pure (encL 2 enc_Skip a0.Skips)]), (1, vecO 2 enc_Pair y816 112)], [], 2⟩)
       (fun x793 => .br (decide (x793.2 < ((a0.Shapes.length : Nat) : Int)))
         (.cut 0 (fun (y831 : (List S_Pair)) => ⟨[(1, .ptr 0 0), (3, .vec 1), (4, .pure (.int .i64 x561.2)), (5, .pure (.int .i64 x793.2))], [(0, .box [.pure (encL 12 enc_Joint a0.Robot.Joints), .pure (encL 5 enc_Mass a0.Robot.Masses), .pure (encL 3 enc_Shape a0.Shapes), .pure (encL 2 enc_Skip a0.Skips)]), (1, vecO 2 enc_Pair y831 112)], [], 2⟩)
          (.grd (0 ≤ x561.2 ∧ x561.2 < ((a0.Shapes.length : Nat) : Int)) <|
          .grd (0 ≤ x793.2 ∧ x793.2 < ((a0.Shapes.length : Nat) : Int)) <|
          .cut 0 (fun (y836 : Bool) => ⟨[(1, .ptr 0 0), (3, .vec 1), (4, .pure (.int .i64 x561.2)), (5, .pure (.int .i64 x793.2)), (56, .pure (.bool y836))], [(0, .box [.pure (encL 12 enc_Joint a0.Robot.Joints), .pure (encL 5 enc_Mass a0.Robot.Masses), .pure (encL 3 enc_Shape a0.Shapes), .pure (encL 2 enc_Skip a0.Skips)]), (1, vecO 2 enc_Pair x793.1 112)], [], 2⟩)
           (.br (((a0.Shapes.getD ((x561.2).toNat) default).Link) != ((a0.Shapes.getD ((x793.2).toNat) default).Link))
            (.call (ref6_Rigid_C a0.Robot ((a0.Shapes.getD ((x561.2).toNat) default).Link) ((a0.Shapes.getD ((x793.2).toNat) default).Link)) [] fun y837 =>
            .br (!y837)
             (.call (ref6_Skipped_C a0 ((a0.Shapes.getD ((x561.2).toNat) default).Link) ((a0.Shapes.getD ((x793.2).toNat) default).Link)) [] fun y838 =>
             .ret (.out (!y838)))
             (.ret (.out false)))
            (.ret (.out false))) fun y836 =>
          .br y836
           (.conv 12004 (cvLit 2 enc_Pair ([(⟨x561.2, x793.2⟩ : S_Pair)] : (List S_Pair)) 112) <|
           .conv 12005 (cvApp 2 enc_Pair x793.1 ([(⟨x561.2, x793.2⟩ : S_Pair)] : (List S_Pair)) 112) <|
           .grd ((x793.1.length + ([(⟨x561.2, x793.2⟩ : S_Pair)] : (List S_Pair)).length) * 16 ≤ 140737488355328 ∧ (x793.1.length + ([(⟨x561.2, x793.2⟩ : S_Pair)] : (List S_Pair)).length) ≤ maxLen) <|
           .ret (.out (x793.1 ++ ([(⟨x561.2, x793.2⟩ : S_Pair)] : (List S_Pair)))))
           (.ret (.out x793.1))) fun y831 =>
         .ret (.next (y831, (IntKind.i64.wrap (x793.2 + 1)))))
         (.ret (.out x793.1)))
       (x561.1, (IntKind.i64.wrap (x561.2 + 1))) [] fun y816 =>
      .ret (.next (y816, (IntKind.i64.wrap (x561.2 + 1)))))
      (.ret (.out x561.1)))
    (nl, 0) [] fun y700 =>
   .ret y700)
noncomputable def ref6_Pairs_C (a0 : S_Scene) : CallS (List S_Pair) :=
  mkC [] hd Tryz.func32 (by kernel_rfl) (ref6_Pairs_T a0) 0 [.pure (enc_Scene a0)] [] (fun r => .pure (encL 2 enc_Pair r)) (fun _ => []) (by kernel_rfl)

noncomputable def ref14_sides_T (a0 : S_Scene) (a1 : (List S_Interval)) : T ((List S_ref14_side) × (List S_ref14_side) × Bool) :=
  .cut 2 (fun (y12 : Bool) => ⟨[(1, .pure (encL 2 enc_Interval a1)), (2, .ptr 0 0), (23, .pure (.bool y12))], [(0, .box [.pure (encL 12 enc_Joint a0.Robot.Joints), .pure (encL 5 enc_Mass a0.Robot.Masses), .pure (encL 3 enc_Shape a0.Shapes), .pure (encL 2 enc_Skip a0.Skips)])], [], 1⟩)
   (.call (ref6_CheckScene_C (⟨a0.Robot, a0.Shapes, a0.Skips⟩ : S_Scene)) [] fun y13 =>
   .br (y13 != 0)
    (.ret (.out true))
    (.call (ref10_IsBox_C a0.Robot a1) [] fun y14 =>
    .ret (.out (!y14)))) fun y12 =>
  .br y12
   (.ret (nl, nl, false))
   (.call (ref10_Points_C (⟨a0.Robot, a0.Shapes, a0.Skips⟩ : S_Scene) a1) [] fun y16 =>
   .call (ref6_Pairs_C a0) [] fun y18 =>
   .loop (fun (x23 : ((List S_ref14_side) × (List S_ref14_side) × Int)) => ⟨[(2, .ptr 0 0), (7, .pure (encL 1 (encL 6 enc_arr_3_Interval) y16)), (8, .vec 1), (9, .vec 2), (10, .pure (encL 2 enc_Pair y18)), (11, .pure (.int .i64 x23.2.2))], [(0, .box [.pure (encL 12 enc_Joint a0.Robot.Joints), .pure (encL 5 enc_Mass a0.Robot.Masses), .pure (encL 3 enc_Shape a0.Shapes), .pure (encL 2 enc_Skip a0.Skips)]), (1, vecO 2 enc_ref14_side x23.1 160), (2, vecO 2 enc_ref14_side x23.2.1 160)], [], 3⟩)
    (.exit 0) (fun (y24 : ((List S_ref14_side) × (List S_ref14_side))) => ⟨[(8, .vec 0), (9, .vec 1)], [(0, vecO 2 enc_ref14_side y24.1 160), (1, vecO 2 enc_ref14_side y24.2 160)], [], 2⟩)
    (fun x23 => .br (decide (x23.2.2 < ((y18.length : Nat) : Int)))
      (.grd (0 ≤ x23.2.2 ∧ x23.2.2 < ((y18.length : Nat) : Int)) <|
      .grd (0 ≤ x23.2.2 ∧ x23.2.2 < ((y18.length : Nat) : Int)) <|
      .grd (0 ≤ ((y18.getD ((x23.2.2).toNat) default).A) ∧ ((y18.getD ((x23.2.2).toNat) default).A) < ((y16.length : Nat) : Int)) <|
      .grd (0 ≤ ((y18.getD ((x23.2.2).toNat) default).A) ∧ ((y18.getD ((x23.2.2).toNat) default).A) < ((a0.Shapes.length : Nat) : Int)) <|
      .conv 10012 (cvLit 2 enc_ref14_side ([(⟨(y16.getD (((y18.getD ((x23.2.2).toNat) default).A).toNat) default), (a0.Shapes.getD (((y18.getD ((x23.2.2).toNat) default).A).toNat) default).Radius⟩ : S_ref14_side)] : (List S_ref14_side)) 160) <|
      .conv 10013 (cvApp 2 enc_ref14_side x23.1 ([(⟨(y16.getD (((y18.getD ((x23.2.2).toNat) default).A).toNat) default), (a0.Shapes.getD (((y18.getD ((x23.2.2).toNat) default).A).toNat) default).Radius⟩ : S_ref14_side)] : (List S_ref14_side)) 160) <|
      .grd ((x23.1.length + ([(⟨(y16.getD (((y18.getD ((x23.2.2).toNat) default).A).toNat) default), (a0.Shapes.getD (((y18.getD ((x23.2.2).toNat) default).A).toNat) default).Radius⟩ : S_ref14_side)] : (List S_ref14_side)).length) * 32 ≤ 140737488355328 ∧ (x23.1.length + ([(⟨(y16.getD (((y18.getD ((x23.2.2).toNat) default).A).toNat) default), (a0.Shapes.getD (((y18.getD ((x23.2.2).toNat) default).A).toNat) default).Radius⟩ : S_ref14_side)] : (List S_ref14_side)).length) ≤ maxLen) <|
      .grd (0 ≤ ((y18.getD ((x23.2.2).toNat) default).B) ∧ ((y18.getD ((x23.2.2).toNat) default).B) < ((y16.length : Nat) : Int)) <|
      .grd (0 ≤ ((y18.getD ((x23.2.2).toNat) default).B) ∧ ((y18.getD ((x23.2.2).toNat) default).B) < ((a0.Shapes.length : Nat) : Int)) <|
      .conv 11012 (cvLit 2 enc_ref14_side ([(⟨(y16.getD (((y18.getD ((x23.2.2).toNat) default).B).toNat) default), (a0.Shapes.getD (((y18.getD ((x23.2.2).toNat) default).B).toNat) default).Radius⟩ : S_ref14_side)] : (List S_ref14_side)) 160) <|
      .conv 11013 (cvApp 2 enc_ref14_side x23.2.1 ([(⟨(y16.getD (((y18.getD ((x23.2.2).toNat) default).B).toNat) default), (a0.Shapes.getD (((y18.getD ((x23.2.2).toNat) default).B).toNat) default).Radius⟩ : S_ref14_side)] : (List S_ref14_side)) 160) <|
      .grd ((x23.2.1.length + ([(⟨(y16.getD (((y18.getD ((x23.2.2).toNat) default).B).toNat) default), (a0.Shapes.getD (((y18.getD ((x23.2.2).toNat) default).B).toNat) default).Radius⟩ : S_ref14_side)] : (List S_ref14_side)).length) * 32 ≤ 140737488355328 ∧ (x23.2.1.length + ([(⟨(y16.getD (((y18.getD ((x23.2.2).toNat) default).B).toNat) default), (a0.Shapes.getD (((y18.getD ((x23.2.2).toNat) default).B).toNat) default).Radius⟩ : S_ref14_side)] : (List S_ref14_side)).length) ≤ maxLen) <|
      .ret (.next ((x23.1 ++ ([(⟨(y16.getD (((y18.getD ((x23.2.2).toNat) default).A).toNat) default), (a0.Shapes.getD (((y18.getD ((x23.2.2).toNat) default).A).toNat) default).Radius⟩ : S_ref14_side)] : (List S_ref14_side))), (x23.2.1 ++ ([(⟨(y16.getD (((y18.getD ((x23.2.2).toNat) default).B).toNat) default), (a0.Shapes.getD (((y18.getD ((x23.2.2).toNat) default).B).toNat) default).Radius⟩ : S_ref14_side)] : (List S_ref14_side))), (IntKind.i64.wrap (x23.2.2 + 1)))))
      (.ret (.out (x23.1, x23.2.1))))
    (nl, nl, 0) [] fun y24 =>
   .ret (y24.1, y24.2, true))
noncomputable def ref14_sides_C (a0 : S_Scene) (a1 : (List S_Interval)) : CallS ((List S_ref14_side) × (List S_ref14_side) × Bool) :=
  mkC [] hd Tryz.func101 (by kernel_rfl) (ref14_sides_T a0 a1) 0 [.pure (enc_Scene a0), .pure (encL 2 enc_Interval a1)] [] (fun r => .tup [.pure (encL 2 enc_ref14_side r.1), .pure (encL 2 enc_ref14_side r.2.1), .pure (.bool r.2.2)]) (fun _ => []) (by kernel_rfl)

noncomputable def ref10_reached_T (a0 : (S_Interval × S_Interval × S_Interval)) : T Bool :=
  .unroll 4 <|
  .known true <|
  .cut 1 (fun (y16 : Bool) => ⟨[(1, .ptr 0 0), (3, .pure (.int .i64 0)), (30, .pure (.bool y16))], [(0, .box [.pure (.int .i64 a0.1.Lo), .pure (.int .i64 a0.1.Hi), .pure (.int .i64 a0.2.1.Lo), .pure (.int .i64 a0.2.1.Hi), .pure (.int .i64 a0.2.2.Lo), .pure (.int .i64 a0.2.2.Hi)])], [], 1⟩)
   (.ix 0 3 rfl <|
   .br (decide (a0.1.Lo < (-268435456)))
    (.ret (.out true))
    (.ix 0 3 rfl <|
    .ix 0 3 rfl <|
    .br (decide (a0.1.Lo > a0.1.Hi))
     (.ret (.out true))
     (.ix 0 3 rfl <|
     .ret (.out (decide (a0.1.Hi > 268435456)))))) fun y16 =>
  .br y16
   (.ret false)
   (.lit 3001 (1) <|
   .known true <|
   .cut 1 (fun (y18 : Bool) => ⟨[(1, .ptr 0 0), (3, .pure (.int .i64 1)), (30, .pure (.bool y18))], [(0, .box [.pure (.int .i64 a0.1.Lo), .pure (.int .i64 a0.1.Hi), .pure (.int .i64 a0.2.1.Lo), .pure (.int .i64 a0.2.1.Hi), .pure (.int .i64 a0.2.2.Lo), .pure (.int .i64 a0.2.2.Hi)])], [], 1⟩)
    (.ix 1 3 rfl <|
    .br (decide (a0.2.1.Lo < (-268435456)))
     (.ret (.out true))
     (.ix 1 3 rfl <|
     .ix 1 3 rfl <|
     .br (decide (a0.2.1.Lo > a0.2.1.Hi))
      (.ret (.out true))
      (.ix 1 3 rfl <|
      .ret (.out (decide (a0.2.1.Hi > 268435456)))))) fun y18 =>
   .br y18
    (.ret false)
    (.lit 3001 (2) <|
    .known true <|
    .cut 1 (fun (y20 : Bool) => ⟨[(1, .ptr 0 0), (3, .pure (.int .i64 2)), (30, .pure (.bool y20))], [(0, .box [.pure (.int .i64 a0.1.Lo), .pure (.int .i64 a0.1.Hi), .pure (.int .i64 a0.2.1.Lo), .pure (.int .i64 a0.2.1.Hi), .pure (.int .i64 a0.2.2.Lo), .pure (.int .i64 a0.2.2.Hi)])], [], 1⟩)
     (.ix 2 3 rfl <|
     .br (decide (a0.2.2.Lo < (-268435456)))
      (.ret (.out true))
      (.ix 2 3 rfl <|
      .ix 2 3 rfl <|
      .br (decide (a0.2.2.Lo > a0.2.2.Hi))
       (.ret (.out true))
       (.ix 2 3 rfl <|
       .ret (.out (decide (a0.2.2.Hi > 268435456)))))) fun y20 =>
    .br y20
     (.ret false)
     (.lit 3001 (3) <|
     .known false <|
     .ret true)))
noncomputable def ref10_reached_C (a0 : (S_Interval × S_Interval × S_Interval)) : CallS Bool :=
  mkC [] hd Tryz.func210 (by kernel_rfl) (ref10_reached_T a0) 0 [.pure (enc_arr_3_Interval a0)] [] (fun r => .pure (.bool r)) (fun _ => []) (by kernel_rfl)

noncomputable def ref10_Placed_T (a0 : (List (S_Interval × S_Interval × S_Interval))) : T Bool :=
  .loop (fun (x29 : Int) => ⟨[(0, .pure (encL 6 enc_arr_3_Interval a0)), (3, .pure (.int .i64 x29))], [], [], 0⟩)
   (.exit 0) (fun (_ : U0) => ⟨[(0, .pure (encL 6 enc_arr_3_Interval a0))], [], [], 0⟩)
   (fun x29 => .cut 1 (fun (y38 : Bool) => ⟨[(0, .pure (encL 6 enc_arr_3_Interval a0)), (3, .pure (.int .i64 x29)), (11, .pure (.bool y38))], [], [], 0⟩)
     (.br (decide (x29 < ((a0.length : Nat) : Int)))
      (.ret (.out (decide (x29 ≤ 8))))
      (.ret (.out false))) fun y38 =>
    .br y38
     (.grd (0 ≤ x29 ∧ x29 < ((a0.length : Nat) : Int)) <|
     .call (ref10_reached_C (a0.getD ((x29).toNat) default)) [] fun y42 =>
     .br (!y42)
      (.ret (.fin false))
      (.ret (.next (IntKind.i64.wrap (x29 + 1)))))
     (.ret (.out .u)))
   0 [] fun _ =>
  .br (decide (((a0.length : Nat) : Int) ≥ 1))
   (.ret (decide (((a0.length : Nat) : Int) ≤ 8)))
   (.ret false)
noncomputable def ref10_Placed_C (a0 : (List (S_Interval × S_Interval × S_Interval))) : CallS Bool :=
  mkC [] hd Tryz.func160 (by kernel_rfl) (ref10_Placed_T a0) 0 [.pure (encL 6 enc_arr_3_Interval a0)] [] (fun r => .pure (.bool r)) (fun _ => []) (by kernel_rfl)

noncomputable def ref14_radius_T (a0 : Int) : T Bool :=
  .br (decide (a0 ≥ 0))
   (.ret (decide (a0 ≤ 1048576)))
   (.ret false)
noncomputable def ref14_radius_C (a0 : Int) : CallS Bool :=
  mkC [] hd Tryz.func206 (by kernel_rfl) (ref14_radius_T a0) 0 [.pure (.int .i64 a0)] [] (fun r => .pure (.bool r)) (fun _ => []) (by kernel_rfl)

noncomputable def ref10_Usable_T (a0 : (Int × Int × Int)) : T Bool :=
  .br (!((a0.1 == 0) && ((a0.2.1 == 0) && ((a0.2.2 == 0) && true))))
   (.call (ref6_Near_C a0 16384) [] fun y1 =>
   .ret y1)
   (.ret false)
noncomputable def ref10_Usable_C (a0 : (Int × Int × Int)) : CallS Bool :=
  mkC [] hd Tryz.func106 (by kernel_rfl) (ref10_Usable_T a0) 0 [.pure (enc_arr_3_int64 a0)] [] (fun r => .pure (.bool r)) (fun _ => []) (by kernel_rfl)

noncomputable def ref1_Mid_T (a0 : S_Interval) : T Int :=
  .call (ref1_Valid_C a0) [] fun y4 =>
  .br (!y4)
   (.ret 0)
   (.call (ref1_Floor_C (IntKind.i64.wrap (a0.Lo + a0.Hi)) 2) [] fun y5 =>
   .ret y5)
noncomputable def ref1_Mid_C (a0 : S_Interval) : CallS Int :=
  mkC [] hd Tryz.func161 (by kernel_rfl) (ref1_Mid_T a0) 0 [.pure (enc_Interval a0)] [] (fun r => .pure (.int .i64 r)) (fun _ => []) (by kernel_rfl)

noncomputable def ref10_Centers_T (a0 : (List (S_Interval × S_Interval × S_Interval))) : T (List (Int × Int × Int)) :=
  .call (ref10_Placed_C a0) [] fun y4 =>
  .br (!y4)
   (.ret nl)
   (.loop (fun (x33 : ((List (Int × Int × Int)) × Int)) => ⟨[(0, .pure (encL 6 enc_arr_3_Interval a0)), (3, .vec 0), (4, .pure (.int .i64 x33.2))], [(0, vecO 3 enc_arr_3_int64 x33.1 49)], [], 1⟩)
    (.exit 0) (fun (y40 : (List (Int × Int × Int))) => ⟨[(3, .vec 0)], [(0, vecO 3 enc_arr_3_int64 y40 49)], [], 1⟩)
    (fun x33 => .br (decide (x33.2 < ((a0.length : Nat) : Int)))
      (.grd (0 ≤ x33.2 ∧ x33.2 < ((a0.length : Nat) : Int)) <|
      .ix 0 3 rfl <|
      .call (ref1_Mid_C ((a0.getD ((x33.2).toNat) default).1)) [] fun y44 =>
      .grd (0 ≤ x33.2 ∧ x33.2 < ((a0.length : Nat) : Int)) <|
      .ix 1 3 rfl <|
      .call (ref1_Mid_C ((a0.getD ((x33.2).toNat) default).2.1)) [] fun y45 =>
      .grd (0 ≤ x33.2 ∧ x33.2 < ((a0.length : Nat) : Int)) <|
      .ix 2 3 rfl <|
      .call (ref1_Mid_C ((a0.getD ((x33.2).toNat) default).2.2)) [] fun y46 =>
      .conv 7020 (cvLit 3 enc_arr_3_int64 ([(y44, y45, y46)] : (List (Int × Int × Int))) 49) <|
      .conv 7021 (cvApp 3 enc_arr_3_int64 x33.1 ([(y44, y45, y46)] : (List (Int × Int × Int))) 49) <|
      .grd ((x33.1.length + ([(y44, y45, y46)] : (List (Int × Int × Int))).length) * 24 ≤ 140737488355328 ∧ (x33.1.length + ([(y44, y45, y46)] : (List (Int × Int × Int))).length) ≤ maxLen) <|
      .ret (.next ((x33.1 ++ ([(y44, y45, y46)] : (List (Int × Int × Int)))), (IntKind.i64.wrap (x33.2 + 1)))))
      (.ret (.out x33.1)))
    (nl, 0) [] fun y40 =>
   .ret y40)
noncomputable def ref10_Centers_C (a0 : (List (S_Interval × S_Interval × S_Interval))) : CallS (List (Int × Int × Int)) :=
  mkC [] hd Tryz.func104 (by kernel_rfl) (ref10_Centers_T a0) 0 [.pure (encL 6 enc_arr_3_Interval a0)] [] (fun r => .pure (encL 3 enc_arr_3_int64 r)) (fun _ => []) (by kernel_rfl)

noncomputable def ref10_Normal_T (a0 : (Int × Int × Int)) : T ((Int × Int × Int) × Bool) :=
  .br ((a0.1 == 0) && ((a0.2.1 == 0) && ((a0.2.2 == 0) && true)))
   (.ret (a0, false))
   (.loop (fun (x6 : Int) => ⟨[(1, .ptr 0 0), (2, .ptr 1 0), (4, .pure (.int .i64 x6))], [(0, .box [.pure (.int .i64 a0.1), .pure (.int .i64 a0.2.1), .pure (.int .i64 a0.2.2)]), (1, .box [.pure (.int .i64 0), .pure (.int .i64 0), .pure (.int .i64 0)])], [], 2⟩)
    .ret (fun (_ : U0) => ⟨[], [], [], 0⟩)
    (fun x6 => .ix 0 3 rfl <|
     .grd (x6 ≠ 0) <|
     .ix 1 3 rfl <|
     .grd (x6 ≠ 0) <|
     .ix 2 3 rfl <|
     .grd (x6 ≠ 0) <|
     .call (ref6_Near_C ((IntKind.i64.wrap (a0.1.tdiv x6)), (IntKind.i64.wrap (a0.2.1.tdiv x6)), (IntKind.i64.wrap (a0.2.2.tdiv x6))) 16384) [] fun y15 =>
     .br y15
      (.ret (.fin (((IntKind.i64.wrap (a0.1.tdiv x6)), (IntKind.i64.wrap (a0.2.1.tdiv x6)), (IntKind.i64.wrap (a0.2.2.tdiv x6))), true)))
      (.ret (.next (IntKind.i64.wrap (x6 * 2)))))
    1 [] fun _ =>
   .stop)
noncomputable def ref10_Normal_C (a0 : (Int × Int × Int)) : CallS ((Int × Int × Int) × Bool) :=
  mkC [] hd Tryz.func155 (by kernel_rfl) (ref10_Normal_T a0) 0 [.pure (enc_arr_3_int64 a0)] [] (fun r => .tup [.pure (enc_arr_3_int64 r.1), .pure (.bool r.2)]) (fun _ => []) (by kernel_rfl)

set_option maxHeartbeats 8000000 in
set_option maxRecDepth 20000 in
noncomputable def ref14_Mean_T (a0 : (List (S_Interval × S_Interval × S_Interval))) (a1 : (List (S_Interval × S_Interval × S_Interval))) : T ((Int × Int × Int) × Bool) :=
  .cut 2 (fun (y249 : Bool) => ⟨[(0, .pure (encL 6 enc_arr_3_Interval a0)), (1, .pure (encL 6 enc_arr_3_Interval a1)), (4, .ptr 0 0), (19, .pure (.bool y249))], [(0, .box [.pure (.int .i64 0), .pure (.int .i64 0), .pure (.int .i64 0)])], [], 1⟩)
   (.call (ref10_Placed_C a0) [] fun y250 =>
   .br (!y250)
    (.ret (.out true))
    (.call (ref10_Placed_C a1) [] fun y251 =>
    .ret (.out (!y251)))) fun y249 =>
  .br y249
   (.ret ((0, 0, 0), false))
   (.call (ref10_Centers_C a0) [] fun y254 =>
   .call (ref10_Centers_C a1) [] fun y255 =>
   .unroll 4 <|
   .known true <|
   .loop (fun (x571 : (Int × Int)) => ⟨[(4, .ptr 0 0), (6, .ptr 1 0), (7, .pure (encL 3 enc_arr_3_int64 y254)), (8, .pure (encL 3 enc_arr_3_int64 y255)), (9, .pure (.int .i64 0)), (10, .pure (.int .i64 x571.2))], [(0, .box [.pure (.int .i64 0), .pure (.int .i64 0), .pure (.int .i64 0)]), (1, .box [.pure (.int .i64 x571.1), .pure (.int .i64 0), .pure (.int .i64 0)])], [], 2⟩)
    (.exit 2) (fun (y574 : Int) => ⟨[(4, .ptr 0 0), (6, .ptr 1 0), (7, .pure (encL 3 enc_arr_3_int64 y254)), (8, .pure (encL 3 enc_arr_3_int64 y255)), (9, .pure (.int .i64 0))], [(0, .box [.pure (.int .i64 0), .pure (.int .i64 0), .pure (.int .i64 0)]), (1, .box [.pure (.int .i64 y574), .pure (.int .i64 0), .pure (.int .i64 0)])], [], 2⟩)
    (fun x571 => .br (decide (x571.2 < ((y254.length : Nat) : Int)))
      (.ix 0 3 rfl <|
      .grd (0 ≤ x571.2 ∧ x571.2 < ((y254.length : Nat) : Int)) <|
      .ix 0 3 rfl <|
      .name 11012 ((IntKind.i64.wrap (x571.1 + (IntKind.i64.wrap (((y254.getD ((x571.2).toNat) default).1) * ((y255.length : Nat) : Int)))))) fun z576 =>
      .ix 0 3 rfl <|
      .ret (.next (z576, (IntKind.i64.wrap (x571.2 + 1)))))
      (.ret (.out x571.1)))
    (0, 0) [] fun y574 =>
   .loop (fun (x580 : (Int × Int)) => ⟨[(4, .ptr 0 0), (6, .ptr 1 0), (7, .pure (encL 3 enc_arr_3_int64 y254)), (8, .pure (encL 3 enc_arr_3_int64 y255)), (9, .pure (.int .i64 0)), (11, .pure (.int .i64 x580.2))], [(0, .box [.pure (.int .i64 0), .pure (.int .i64 0), .pure (.int .i64 0)]), (1, .box [.pure (.int .i64 x580.1), .pure (.int .i64 0), .pure (.int .i64 0)])], [], 2⟩)
    (.exit 4) (fun (y583 : Int) => ⟨[(4, .ptr 0 0), (6, .ptr 1 0), (7, .pure (encL 3 enc_arr_3_int64 y254)), (8, .pure (encL 3 enc_arr_3_int64 y255)), (9, .pure (.int .i64 0))], [(0, .box [.pure (.int .i64 0), .pure (.int .i64 0), .pure (.int .i64 0)]), (1, .box [.pure (.int .i64 y583), .pure (.int .i64 0), .pure (.int .i64 0)])], [], 2⟩)
    (fun x580 => .br (decide (x580.2 < ((y255.length : Nat) : Int)))
      (.ix 0 3 rfl <|
      .grd (0 ≤ x580.2 ∧ x580.2 < ((y255.length : Nat) : Int)) <|
      .ix 0 3 rfl <|
      .name 15012 ((IntKind.i64.wrap (x580.1 - (IntKind.i64.wrap (((y255.getD ((x580.2).toNat) default).1) * ((y254.length : Nat) : Int)))))) fun z585 =>
      .ix 0 3 rfl <|
      .ret (.next (z585, (IntKind.i64.wrap (x580.2 + 1)))))
      (.ret (.out x580.1)))
    (y574, 0) [] fun y583 =>
   .lit 7001 (1) <|
   .known true <|
   .loop (fun (x625 : (Int × Int)) => ⟨[(4, .ptr 0 0), (6, .ptr 1 0), (7, .pure (encL 3 enc_arr_3_int64 y254)), (8, .pure (encL 3 enc_arr_3_int64 y255)), (9, .pure (.int .i64 1)), (10, .pure (.int .i64 x625.2))], [(0, .box [.pure (.int .i64 0), .pure (.int .i64 0), .pure (.int .i64 0)]), (1, .box [.pure (.int .i64 y583), .pure (.int .i64 x625.1), .pure (.int .i64 0)])], [], 2⟩)
    (.exit 2) (fun (y628 : Int) => ⟨[(4, .ptr 0 0), (6, .ptr 1 0), (7, .pure (encL 3 enc_arr_3_int64 y254)), (8, .pure (encL 3 enc_arr_3_int64 y255)), (9, .pure (.int .i64 1))], [(0, .box [.pure (.int .i64 0), .pure (.int .i64 0), .pure (.int .i64 0)]), (1, .box [.pure (.int .i64 y583), .pure (.int .i64 y628), .pure (.int .i64 0)])], [], 2⟩)
    (fun x625 => .br (decide (x625.2 < ((y254.length : Nat) : Int)))
      (.ix 1 3 rfl <|
      .grd (0 ≤ x625.2 ∧ x625.2 < ((y254.length : Nat) : Int)) <|
      .ix 1 3 rfl <|
      .name 11012 ((IntKind.i64.wrap (x625.1 + (IntKind.i64.wrap (((y254.getD ((x625.2).toNat) default).2.1) * ((y255.length : Nat) : Int)))))) fun z630 =>
      .ix 1 3 rfl <|
      .ret (.next (z630, (IntKind.i64.wrap (x625.2 + 1)))))
      (.ret (.out x625.1)))
    (0, 0) [] fun y628 =>
   .loop (fun (x634 : (Int × Int)) => ⟨[(4, .ptr 0 0), (6, .ptr 1 0), (7, .pure (encL 3 enc_arr_3_int64 y254)), (8, .pure (encL 3 enc_arr_3_int64 y255)), (9, .pure (.int .i64 1)), (11, .pure (.int .i64 x634.2))], [(0, .box [.pure (.int .i64 0), .pure (.int .i64 0), .pure (.int .i64 0)]), (1, .box [.pure (.int .i64 y583), .pure (.int .i64 x634.1), .pure (.int .i64 0)])], [], 2⟩)
    (.exit 4) (fun (y637 : Int) => ⟨[(4, .ptr 0 0), (6, .ptr 1 0), (7, .pure (encL 3 enc_arr_3_int64 y254)), (8, .pure (encL 3 enc_arr_3_int64 y255)), (9, .pure (.int .i64 1))], [(0, .box [.pure (.int .i64 0), .pure (.int .i64 0), .pure (.int .i64 0)]), (1, .box [.pure (.int .i64 y583), .pure (.int .i64 y637), .pure (.int .i64 0)])], [], 2⟩)
    (fun x634 => .br (decide (x634.2 < ((y255.length : Nat) : Int)))
      (.ix 1 3 rfl <|
      .grd (0 ≤ x634.2 ∧ x634.2 < ((y255.length : Nat) : Int)) <|
      .ix 1 3 rfl <|
      .name 15012 ((IntKind.i64.wrap (x634.1 - (IntKind.i64.wrap (((y255.getD ((x634.2).toNat) default).2.1) * ((y254.length : Nat) : Int)))))) fun z639 =>
      .ix 1 3 rfl <|
      .ret (.next (z639, (IntKind.i64.wrap (x634.2 + 1)))))
      (.ret (.out x634.1)))
    (y628, 0) [] fun y637 =>
   .lit 7001 (2) <|
   .known true <|
   .loop (fun (x679 : (Int × Int)) => ⟨[(4, .ptr 0 0), (6, .ptr 1 0), (7, .pure (encL 3 enc_arr_3_int64 y254)), (8, .pure (encL 3 enc_arr_3_int64 y255)), (9, .pure (.int .i64 2)), (10, .pure (.int .i64 x679.2))], [(0, .box [.pure (.int .i64 0), .pure (.int .i64 0), .pure (.int .i64 0)]), (1, .box [.pure (.int .i64 y583), .pure (.int .i64 y637), .pure (.int .i64 x679.1)])], [], 2⟩)
    (.exit 2) (fun (y682 : Int) => ⟨[(4, .ptr 0 0), (6, .ptr 1 0), (7, .pure (encL 3 enc_arr_3_int64 y254)), (8, .pure (encL 3 enc_arr_3_int64 y255)), (9, .pure (.int .i64 2))], [(0, .box [.pure (.int .i64 0), .pure (.int .i64 0), .pure (.int .i64 0)]), (1, .box [.pure (.int .i64 y583), .pure (.int .i64 y637), .pure (.int .i64 y682)])], [], 2⟩)
    (fun x679 => .br (decide (x679.2 < ((y254.length : Nat) : Int)))
      (.ix 2 3 rfl <|
      .grd (0 ≤ x679.2 ∧ x679.2 < ((y254.length : Nat) : Int)) <|
      .ix 2 3 rfl <|
      .name 11012 ((IntKind.i64.wrap (x679.1 + (IntKind.i64.wrap (((y254.getD ((x679.2).toNat) default).2.2) * ((y255.length : Nat) : Int)))))) fun z684 =>
      .ix 2 3 rfl <|
      .ret (.next (z684, (IntKind.i64.wrap (x679.2 + 1)))))
      (.ret (.out x679.1)))
    (0, 0) [] fun y682 =>
   .loop (fun (x688 : (Int × Int)) => ⟨[(4, .ptr 0 0), (6, .ptr 1 0), (7, .pure (encL 3 enc_arr_3_int64 y254)), (8, .pure (encL 3 enc_arr_3_int64 y255)), (9, .pure (.int .i64 2)), (11, .pure (.int .i64 x688.2))], [(0, .box [.pure (.int .i64 0), .pure (.int .i64 0), .pure (.int .i64 0)]), (1, .box [.pure (.int .i64 y583), .pure (.int .i64 y637), .pure (.int .i64 x688.1)])], [], 2⟩)
    (.exit 4) (fun (y691 : Int) => ⟨[(4, .ptr 0 0), (6, .ptr 1 0), (7, .pure (encL 3 enc_arr_3_int64 y254)), (8, .pure (encL 3 enc_arr_3_int64 y255)), (9, .pure (.int .i64 2))], [(0, .box [.pure (.int .i64 0), .pure (.int .i64 0), .pure (.int .i64 0)]), (1, .box [.pure (.int .i64 y583), .pure (.int .i64 y637), .pure (.int .i64 y691)])], [], 2⟩)
    (fun x688 => .br (decide (x688.2 < ((y255.length : Nat) : Int)))
      (.ix 2 3 rfl <|
      .grd (0 ≤ x688.2 ∧ x688.2 < ((y255.length : Nat) : Int)) <|
      .ix 2 3 rfl <|
      .name 15012 ((IntKind.i64.wrap (x688.1 - (IntKind.i64.wrap (((y255.getD ((x688.2).toNat) default).2.2) * ((y254.length : Nat) : Int)))))) fun z693 =>
      .ix 2 3 rfl <|
      .ret (.next (z693, (IntKind.i64.wrap (x688.2 + 1)))))
      (.ret (.out x688.1)))
    (y682, 0) [] fun y691 =>
   .lit 7001 (3) <|
   .known false <|
   .call (ref10_Normal_C (y583, y637, y691)) [] fun y694 =>
   .ret (y694.1, y694.2))
noncomputable def ref14_Mean_C (a0 : (List (S_Interval × S_Interval × S_Interval))) (a1 : (List (S_Interval × S_Interval × S_Interval))) : CallS ((Int × Int × Int) × Bool) :=
  mkC [] hd Tryz.func207 (by kernel_rfl) (ref14_Mean_T a0 a1) 0 [.pure (encL 6 enc_arr_3_Interval a0), .pure (encL 6 enc_arr_3_Interval a1)] [] (fun r => .tup [.pure (enc_arr_3_int64 r.1), .pure (.bool r.2)]) (fun _ => []) (by kernel_rfl)

noncomputable def ref14_Axes_T : T (List (Int × Int × Int)) :=
  .conv 1006 (cvLit 3 enc_arr_3_int64 ([(1, 0, 0), ((-1), 0, 0), (0, 1, 0), (0, (-1), 0), (0, 0, 1), (0, 0, (-1))] : (List (Int × Int × Int))) 49) <|
  .ret ([(1, 0, 0), ((-1), 0, 0), (0, 1, 0), (0, (-1), 0), (0, 0, 1), (0, 0, (-1))] : (List (Int × Int × Int)))
noncomputable def ref14_Axes_C : CallS (List (Int × Int × Int)) :=
  mkC [] hd Tryz.func208 (by kernel_rfl) (ref14_Axes_T) 0 [] [] (fun r => .pure (encL 3 enc_arr_3_int64 r)) (fun _ => []) (by kernel_rfl)

noncomputable def ref14_few_T (a0 : (List (Int × Int × Int))) : T Bool :=
  .loop (fun (x29 : Int) => ⟨[(0, .pure (encL 3 enc_arr_3_int64 a0)), (3, .pure (.int .i64 x29))], [], [], 0⟩)
   (.exit 0) (fun (_ : U0) => ⟨[(0, .pure (encL 3 enc_arr_3_int64 a0))], [], [], 0⟩)
   (fun x29 => .cut 1 (fun (y38 : Bool) => ⟨[(0, .pure (encL 3 enc_arr_3_int64 a0)), (3, .pure (.int .i64 x29)), (11, .pure (.bool y38))], [], [], 0⟩)
     (.br (decide (x29 < ((a0.length : Nat) : Int)))
      (.ret (.out (decide (x29 ≤ 8))))
      (.ret (.out false))) fun y38 =>
    .br y38
     (.grd (0 ≤ x29 ∧ x29 < ((a0.length : Nat) : Int)) <|
     .call (ref6_Near_C (a0.getD ((x29).toNat) default) 268435456) [] fun y42 =>
     .br (!y42)
      (.ret (.fin false))
      (.ret (.next (IntKind.i64.wrap (x29 + 1)))))
     (.ret (.out .u)))
   0 [] fun _ =>
  .br (decide (((a0.length : Nat) : Int) ≥ 1))
   (.ret (decide (((a0.length : Nat) : Int) ≤ 8)))
   (.ret false)
noncomputable def ref14_few_C (a0 : (List (Int × Int × Int))) : CallS Bool :=
  mkC [] hd Tryz.func151 (by kernel_rfl) (ref14_few_T a0) 0 [.pure (encL 3 enc_arr_3_int64 a0)] [] (fun r => .pure (.bool r)) (fun _ => []) (by kernel_rfl)

noncomputable def ref14_Sum_T (a0 : (List (Int × Int × Int))) (a1 : (List Int)) : T (Int × Int × Int) :=
  .loop (fun (x211 : (Int × Int × Int × Int)) => ⟨[(0, .pure (encL 3 enc_arr_3_int64 a0)), (1, .pure (encL 1 encI_i64 a1)), (4, .ptr 0 0), (5, .ptr 1 0), (6, .pure (.int .i64 x211.2.2.2))], [(0, .box [.pure (.int .i64 0), .pure (.int .i64 0), .pure (.int .i64 0)]), (1, .box [.pure (.int .i64 x211.1), .pure (.int .i64 x211.2.1), .pure (.int .i64 x211.2.2.1)])], [], 2⟩)
   (.exit 0) (fun (y232 : (Int × Int × Int)) => ⟨[(4, .ptr 0 0), (5, .ptr 1 0)], [(0, .box [.pure (.int .i64 0), .pure (.int .i64 0), .pure (.int .i64 0)]), (1, .box [.pure (.int .i64 y232.1), .pure (.int .i64 y232.2.1), .pure (.int .i64 y232.2.2)])], [], 2⟩)
   (fun x211 => .br (decide (x211.2.2.2 < ((a0.length : Nat) : Int)))
     (.unroll 4 <|
     .known true <|
     .ix 0 3 rfl <|
     .grd (0 ≤ x211.2.2.2 ∧ x211.2.2.2 < ((a1.length : Nat) : Int)) <|
     .grd (0 ≤ x211.2.2.2 ∧ x211.2.2.2 < ((a0.length : Nat) : Int)) <|
     .ix 0 3 rfl <|
     .name 8014 ((IntKind.i64.wrap (x211.1 + (IntKind.i64.wrap ((a1.getD ((x211.2.2.2).toNat) default) * ((a0.getD ((x211.2.2.2).toNat) default).1)))))) fun z248 =>
     .ix 0 3 rfl <|
     .lit 7001 (1) <|
     .known true <|
     .ix 1 3 rfl <|
     .grd (0 ≤ x211.2.2.2 ∧ x211.2.2.2 < ((a1.length : Nat) : Int)) <|
     .grd (0 ≤ x211.2.2.2 ∧ x211.2.2.2 < ((a0.length : Nat) : Int)) <|
     .ix 1 3 rfl <|
     .name 8014 ((IntKind.i64.wrap (x211.2.1 + (IntKind.i64.wrap ((a1.getD ((x211.2.2.2).toNat) default) * ((a0.getD ((x211.2.2.2).toNat) default).2.1)))))) fun z250 =>
     .ix 1 3 rfl <|
     .lit 7001 (2) <|
     .known true <|
     .ix 2 3 rfl <|
     .grd (0 ≤ x211.2.2.2 ∧ x211.2.2.2 < ((a1.length : Nat) : Int)) <|
     .grd (0 ≤ x211.2.2.2 ∧ x211.2.2.2 < ((a0.length : Nat) : Int)) <|
     .ix 2 3 rfl <|
     .name 8014 ((IntKind.i64.wrap (x211.2.2.1 + (IntKind.i64.wrap ((a1.getD ((x211.2.2.2).toNat) default) * ((a0.getD ((x211.2.2.2).toNat) default).2.2)))))) fun z252 =>
     .ix 2 3 rfl <|
     .lit 7001 (3) <|
     .known false <|
     .ret (.next (z248, z250, z252, (IntKind.i64.wrap (x211.2.2.2 + 1)))))
     (.ret (.out (x211.1, x211.2.1, x211.2.2.1))))
   (0, 0, 0, 0) [] fun y232 =>
  .ret (y232.1, y232.2.1, y232.2.2)
noncomputable def ref14_Sum_C (a0 : (List (Int × Int × Int))) (a1 : (List Int)) : CallS (Int × Int × Int) :=
  mkC [] hd Tryz.func153 (by kernel_rfl) (ref14_Sum_T a0 a1) 0 [.pure (encL 3 enc_arr_3_int64 a0), .pure (encL 1 encI_i64 a1)] [] (fun r => .pure (enc_arr_3_int64 r)) (fun _ => []) (by kernel_rfl)

noncomputable def ref14_minus_T (a0 : (Int × Int × Int)) (a1 : (Int × Int × Int)) : T (Int × Int × Int) :=
  .ix 0 3 rfl <|
  .ix 0 3 rfl <|
  .ix 1 3 rfl <|
  .ix 1 3 rfl <|
  .ix 2 3 rfl <|
  .ix 2 3 rfl <|
  .ret ((IntKind.i64.wrap (a0.1 - a1.1)), (IntKind.i64.wrap (a0.2.1 - a1.2.1)), (IntKind.i64.wrap (a0.2.2 - a1.2.2)))
noncomputable def ref14_minus_C (a0 : (Int × Int × Int)) (a1 : (Int × Int × Int)) : CallS (Int × Int × Int) :=
  mkC [] hd Tryz.func152 (by kernel_rfl) (ref14_minus_T a0 a1) 0 [.pure (enc_arr_3_int64 a0), .pure (enc_arr_3_int64 a1)] [] (fun r => .pure (enc_arr_3_int64 r)) (fun _ => []) (by kernel_rfl)

noncomputable def ref14_near_T (a0 : (Int × Int × Int)) (a1 : Int) : T Bool :=
  .unroll 4 <|
  .known true <|
  .ix 0 3 rfl <|
  .ix 0 3 rfl <|
  .call (ref1_Ceil_C (max a0.1 (IntKind.i64.wrap (0 - a0.1))) 65536) [] fun y85 =>
  .name 6004 ((IntKind.i64.wrap (0 + (IntKind.i64.wrap (y85 * y85))))) fun z86 =>
  .lit 4001 (1) <|
  .known true <|
  .ix 1 3 rfl <|
  .ix 1 3 rfl <|
  .call (ref1_Ceil_C (max a0.2.1 (IntKind.i64.wrap (0 - a0.2.1))) 65536) [] fun y91 =>
  .name 6004 ((IntKind.i64.wrap (z86 + (IntKind.i64.wrap (y91 * y91))))) fun z92 =>
  .lit 4001 (2) <|
  .known true <|
  .ix 2 3 rfl <|
  .ix 2 3 rfl <|
  .call (ref1_Ceil_C (max a0.2.2 (IntKind.i64.wrap (0 - a0.2.2))) 65536) [] fun y97 =>
  .name 6004 ((IntKind.i64.wrap (z92 + (IntKind.i64.wrap (y97 * y97))))) fun z98 =>
  .lit 4001 (3) <|
  .known false <|
  .ret (decide (z98 ≤ (IntKind.i64.wrap (a1 * a1))))
noncomputable def ref14_near_C (a0 : (Int × Int × Int)) (a1 : Int) : CallS Bool :=
  mkC [] hd Tryz.func154 (by kernel_rfl) (ref14_near_T a0 a1) 0 [.pure (enc_arr_3_int64 a0), .pure (.int .i64 a1)] [] (fun r => .pure (.bool r)) (fun _ => []) (by kernel_rfl)

noncomputable def ref14_dot_T (a0 : (Int × Int × Int)) (a1 : (Int × Int × Int)) : T Int :=
  .ix 0 3 rfl <|
  .ix 0 3 rfl <|
  .ix 1 3 rfl <|
  .ix 1 3 rfl <|
  .ix 2 3 rfl <|
  .ix 2 3 rfl <|
  .name 1016 ((IntKind.i64.wrap ((IntKind.i64.wrap ((IntKind.i64.wrap (a0.1 * a1.1)) + (IntKind.i64.wrap (a0.2.1 * a1.2.1)))) + (IntKind.i64.wrap (a0.2.2 * a1.2.2))))) fun z2 =>
  .ret z2
noncomputable def ref14_dot_C (a0 : (Int × Int × Int)) (a1 : (Int × Int × Int)) : CallS Int :=
  mkC [] hd Tryz.func157 (by kernel_rfl) (ref14_dot_T a0 a1) 0 [.pure (enc_arr_3_int64 a0), .pure (enc_arr_3_int64 a1)] [] (fun r => .pure (.int .i64 r)) (fun _ => []) (by kernel_rfl)

noncomputable def ref14_Extreme_T (a0 : (Int × Int × Int)) (a1 : (List (Int × Int × Int))) (a2 : Int) : T Int :=
  .loop (fun (x57 : (Int × Int)) => ⟨[(1, .pure (encL 3 enc_arr_3_int64 a1)), (2, .pure (.int .i64 a2)), (3, .ptr 0 0), (7, .pure (.int .i64 x57.1)), (8, .pure (.int .i64 x57.2))], [(0, .box [.pure (.int .i64 a0.1), .pure (.int .i64 a0.2.1), .pure (.int .i64 a0.2.2)])], [], 1⟩)
   (.exit 0) (fun (y71 : Int) => ⟨[(7, .pure (.int .i64 y71))], [], [], 0⟩)
   (fun x57 => .br (decide (x57.2 < ((a1.length : Nat) : Int)))
     (.cut 0 (fun (y80 : Int) => ⟨[(1, .pure (encL 3 enc_arr_3_int64 a1)), (2, .pure (.int .i64 a2)), (3, .ptr 0 0), (7, .pure (.int .i64 y80)), (8, .pure (.int .i64 x57.2))], [(0, .box [.pure (.int .i64 a0.1), .pure (.int .i64 a0.2.1), .pure (.int .i64 a0.2.2)])], [], 1⟩)
      (.grd (0 ≤ x57.2 ∧ x57.2 < ((a1.length : Nat) : Int)) <|
      .call (ref14_dot_C a0 (a1.getD ((x57.2).toNat) default)) [] fun y83 =>
      .grd (0 ≤ x57.1 ∧ x57.1 < ((a1.length : Nat) : Int)) <|
      .call (ref14_dot_C a0 (a1.getD ((x57.1).toNat) default)) [] fun y84 =>
      .br (decide ((IntKind.i64.wrap (a2 * y83)) < (IntKind.i64.wrap (a2 * y84))))
       (.ret (.out x57.2))
       (.ret (.out x57.1))) fun y80 =>
     .ret (.next (y80, (IntKind.i64.wrap (x57.2 + 1)))))
     (.ret (.out x57.1)))
   (0, 1) [] fun y71 =>
  .ret y71
noncomputable def ref14_Extreme_C (a0 : (Int × Int × Int)) (a1 : (List (Int × Int × Int))) (a2 : Int) : CallS Int :=
  mkC [] hd Tryz.func156 (by kernel_rfl) (ref14_Extreme_T a0 a1 a2) 0 [.pure (enc_arr_3_int64 a0), .pure (encL 3 enc_arr_3_int64 a1), .pure (.int .i64 a2)] [] (fun r => .pure (.int .i64 r)) (fun _ => []) (by kernel_rfl)

noncomputable def ref1_Root_T (a0 : Int) : T Int :=
  .br (decide (a0 < 1))
   (.ret 0)
   (.loop (fun (x5 : (Int × Int)) => ⟨[(0, .pure (.int .i64 a0)), (3, .pure (.int .i64 x5.1)), (4, .pure (.int .i64 x5.2))], [], [], 0⟩)
    (.exit 0) (fun (y6 : Int) => ⟨[(3, .pure (.int .i64 y6))], [], [], 0⟩)
    (fun x5 => .br (decide ((IntKind.i64.wrap (x5.2 - x5.1)) > 1))
      (.ok ((2 : Int) ≠ 0) (by decide) <|
      .grd ((IntKind.i64.wrap (x5.1 + (IntKind.i64.wrap ((IntKind.i64.wrap (x5.2 - x5.1)).tdiv 2)))) ≠ 0) <|
      .br (decide ((IntKind.i64.wrap (x5.1 + (IntKind.i64.wrap ((IntKind.i64.wrap (x5.2 - x5.1)).tdiv 2)))) ≤ (IntKind.i64.wrap (a0.tdiv (IntKind.i64.wrap (x5.1 + (IntKind.i64.wrap ((IntKind.i64.wrap (x5.2 - x5.1)).tdiv 2))))))))
       (.ret (.next ((IntKind.i64.wrap (x5.1 + (IntKind.i64.wrap ((IntKind.i64.wrap (x5.2 - x5.1)).tdiv 2)))), x5.2)))
       (.ret (.next (x5.1, (IntKind.i64.wrap (x5.1 + (IntKind.i64.wrap ((IntKind.i64.wrap (x5.2 - x5.1)).tdiv 2))))))))
      (.ret (.out x5.1)))
    (1, 4294967296) [] fun y6 =>
   .ret y6)
noncomputable def ref1_Root_C (a0 : Int) : CallS Int :=
  mkC [] hd Tryz.func245 (by kernel_rfl) (ref1_Root_T a0) 0 [.pure (.int .i64 a0)] [] (fun r => .pure (.int .i64 r)) (fun _ => []) (by kernel_rfl)

noncomputable def ref1_RootUp_T (a0 : Int) : T Int :=
  .call (ref1_Root_C a0) [] fun y2 =>
  .cut 0 (fun (y5 : Int) => ⟨[(3, .pure (.int .i64 y5))], [], [], 0⟩)
   (.cut 0 (fun (y6 : Bool) => ⟨[(3, .pure (.int .i64 y2)), (14, .pure (.bool y6))], [], [], 0⟩)
    (.br (decide (a0 > 0))
     (.ret (.out (decide ((IntKind.i64.wrap (y2 * y2)) < a0))))
     (.ret (.out false))) fun y6 =>
   .br y6
    (.ret (.out (IntKind.i64.wrap (y2 + 1))))
    (.ret (.out y2))) fun y5 =>
  .ret y5
noncomputable def ref1_RootUp_C (a0 : Int) : CallS Int :=
  mkC [] hd Tryz.func209 (by kernel_rfl) (ref1_RootUp_T a0) 0 [.pure (.int .i64 a0)] [] (fun r => .pure (.int .i64 r)) (fun _ => []) (by kernel_rfl)

noncomputable def ref10_Norm_T (a0 : (Int × Int × Int)) : T Int :=
  .call (ref10_Usable_C (a0.1, a0.2.1, a0.2.2)) [] fun y10 =>
  .br (!y10)
   (.ret 0)
   (.ix 0 3 rfl <|
   .ix 0 3 rfl <|
   .ix 1 3 rfl <|
   .ix 1 3 rfl <|
   .ix 2 3 rfl <|
   .ix 2 3 rfl <|
   .name 3016 ((IntKind.i64.wrap ((IntKind.i64.wrap ((IntKind.i64.wrap (a0.1 * a0.1)) + (IntKind.i64.wrap (a0.2.1 * a0.2.1)))) + (IntKind.i64.wrap (a0.2.2 * a0.2.2))))) fun z11 =>
   .call (ref1_RootUp_C z11) [] fun y12 =>
   .ret y12)
noncomputable def ref10_Norm_C (a0 : (Int × Int × Int)) : CallS Int :=
  mkC [] hd Tryz.func158 (by kernel_rfl) (ref10_Norm_T a0) 0 [.pure (enc_arr_3_int64 a0)] [] (fun r => .pure (.int .i64 r)) (fun _ => []) (by kernel_rfl)

noncomputable def ref14_Moved_T (a0 : (List Int)) (a1 : Int) (a2 : Int) : T (List Int) :=
  .grd (a0.length * 8 ≤ 140737488355328 ∧ a0.length ≤ maxLen) <|
  .loop (fun (x69 : ((List Int) × Int × Int)) => ⟨[(1, .pure (.int .i64 a1)), (2, .pure (.int .i64 a2)), (7, .vec 0), (8, .pure (.int .i64 x69.2.1)), (9, .pure (.int .i64 x69.2.2))], [(0, vecO 1 encI_i64 x69.1 2)], [], 1⟩)
   (.exit 0) (fun (y76 : ((List Int) × Int)) => ⟨[(2, .pure (.int .i64 a2)), (7, .vec 0), (8, .pure (.int .i64 y76.2))], [(0, vecO 1 encI_i64 y76.1 2)], [], 1⟩)
   (fun x69 => .br (decide (x69.2.2 < ((x69.1.length : Nat) : Int)))
     (.grd (0 ≤ x69.2.2 ∧ x69.2.2 < ((x69.1.length : Nat) : Int)) <|
     .grd ((x69.2.2).toNat < x69.1.length) <|
     .ok ((256 : Int) ≠ 0) (by decide) <|
     .grd (0 ≤ x69.2.2 ∧ x69.2.2 < ((x69.1.length : Nat) : Int)) <|
     .grd ((x69.2.2).toNat < x69.1.length) <|
     .name 7005 ((IntKind.i64.wrap ((x69.1.getD ((x69.2.2).toNat) default) - (IntKind.i64.wrap ((IntKind.i64.wrap ((x69.1.getD ((x69.2.2).toNat) default) * a1)).tdiv 256))))) fun z81 =>
     .grd (0 ≤ x69.2.2 ∧ x69.2.2 < ((x69.1.length : Nat) : Int)) <|
     .conv 7007 (cvSet 1 encI_i64 x69.1 2 ((x69.2.2).toNat) z81) <|
     .grd ((x69.2.2).toNat < x69.1.length ∧ 0 ≤ (x69.2.2).toNat) <|
     .name 8002 ((IntKind.i64.wrap (x69.2.1 + (IntKind.i64.wrap ((IntKind.i64.wrap ((x69.1.getD ((x69.2.2).toNat) default) * a1)).tdiv 256))))) fun z82 =>
     .ret (.next ((x69.1.set ((x69.2.2).toNat) z81), z82, (IntKind.i64.wrap (x69.2.2 + 1)))))
     (.ret (.out (x69.1, x69.2.1))))
   (a0, 0, 0) [] fun y76 =>
  .grd (0 ≤ a2 ∧ a2 < ((y76.1.length : Nat) : Int)) <|
  .grd ((a2).toNat < y76.1.length) <|
  .grd (0 ≤ a2 ∧ a2 < ((y76.1.length : Nat) : Int)) <|
  .conv 9007 (cvSet 1 encI_i64 y76.1 2 ((a2).toNat) (IntKind.i64.wrap ((y76.1.getD ((a2).toNat) default) + y76.2))) <|
  .grd ((a2).toNat < y76.1.length ∧ 0 ≤ (a2).toNat) <|
  .ret (y76.1.set ((a2).toNat) (IntKind.i64.wrap ((y76.1.getD ((a2).toNat) default) + y76.2)))
noncomputable def ref14_Moved_C (a0 : (List Int)) (a1 : Int) (a2 : Int) : CallS (List Int) :=
  mkC [] hd Tryz.func159 (by kernel_rfl) (ref14_Moved_T a0 a1 a2) 0 [.pure (encL 1 encI_i64 a0), .pure (.int .i64 a1), .pure (.int .i64 a2)] [] (fun _ => .vec 0) (fun r => [(0, vecO 1 encI_i64 r 2)]) (by kernel_rfl)

set_option maxHeartbeats 8000000 in
set_option maxRecDepth 20000 in
noncomputable def ref14_Search_T (a0 : (List (Int × Int × Int))) (a1 : (List (Int × Int × Int))) (a2 : Int) (a3 : Int) : T S_Nearest :=
  .cut 2 (fun (y12 : Bool) => ⟨[(0, .pure (encL 3 enc_arr_3_int64 a0)), (1, .pure (encL 3 enc_arr_3_int64 a1)), (2, .pure (.int .i64 a2)), (3, .pure (.int .i64 a3)), (8, .ptr 0 0), (43, .pure (.bool y12))], [(0, .box [.pure (.int .i64 0), .pure (.int .i64 0), .pure (.int .i64 0), .pure (.int .i64 0), .vec 1, .vec 2, .pure (.int .i64 0)]), (1, .nilv), (2, .nilv)], [], 3⟩)
   (.call (ref14_few_C a0) [] fun y13 =>
   .br (!y13)
    (.ret (.out true))
    (.call (ref14_few_C a1) [] fun y14 =>
    .br (!y14)
     (.ret (.out true))
     (.br (decide (a2 < 0))
      (.ret (.out true))
      (.br (decide (a2 > 2097152))
       (.ret (.out true))
       (.br (decide (a3 < 0))
        (.ret (.out true))
        (.ret (.out (decide (a3 > 64))))))))) fun y12 =>
  .br y12
   (.ret (⟨0, (0, 0, 0), nl, nl, 0⟩ : S_Nearest))
   (.conv 3002 (cvRep 1 encI_i64 2 (((a0.length : Nat) : Int)).toNat 0) <|
   .grd (0 ≤ ((a0.length : Nat) : Int) ∧ ((a0.length : Nat) : Int) ≤ ((a0.length : Nat) : Int) ∧ ((a0.length : Nat) : Int) ≤ 9223372036854775807 ∧ ((a0.length : Nat) : Int) * 8 ≤ 140737488355328) <|
   .conv 3005 (cvRep 1 encI_i64 2 (((a1.length : Nat) : Int)).toNat 0) <|
   .grd (0 ≤ ((a1.length : Nat) : Int) ∧ ((a1.length : Nat) : Int) ≤ ((a1.length : Nat) : Int) ∧ ((a1.length : Nat) : Int) ≤ 9223372036854775807 ∧ ((a1.length : Nat) : Int) * 8 ≤ 140737488355328) <|
   .grd (0 ≤ (0 : Int) ∧ (0 : Int) < (((List.replicate (((a0.length : Nat) : Int)).toNat (0 : Int)).length : Nat) : Int)) <|
   .conv 4005 (cvSet 1 encI_i64 (List.replicate (((a0.length : Nat) : Int)).toNat (0 : Int)) 2 ((0 : Int).toNat) 65536) <|
   .grd ((0 : Int).toNat < (List.replicate (((a0.length : Nat) : Int)).toNat (0 : Int)).length ∧ 0 ≤ (0 : Int).toNat) <|
   .grd (0 ≤ (0 : Int) ∧ (0 : Int) < (((List.replicate (((a1.length : Nat) : Int)).toNat (0 : Int)).length : Nat) : Int)) <|
   .conv 4007 (cvSet 1 encI_i64 (List.replicate (((a1.length : Nat) : Int)).toNat (0 : Int)) 2 ((0 : Int).toNat) 65536) <|
   .grd ((0 : Int).toNat < (List.replicate (((a1.length : Nat) : Int)).toNat (0 : Int)).length ∧ 0 ≤ (0 : Int).toNat) <|
   .loop (fun (x58 : (Int × Int × Int × (List Int) × (List Int) × Int)) => ⟨[(0, .pure (encL 3 enc_arr_3_int64 a0)), (1, .pure (encL 3 enc_arr_3_int64 a1)), (2, .pure (.int .i64 a2)), (3, .pure (.int .i64 a3)), (8, .ptr 0 0), (9, .ptr 3 0)], [(0, .box [.pure (.int .i64 0), .pure (.int .i64 0), .pure (.int .i64 0), .pure (.int .i64 0), .vec 1, .vec 2, .pure (.int .i64 0)]), (1, .nilv), (2, .nilv), (3, .box [.pure (.int .i64 0), .pure (.int .i64 x58.1), .pure (.int .i64 x58.2.1), .pure (.int .i64 x58.2.2.1), .vec 4, .vec 5, .pure (.int .i64 x58.2.2.2.2.2)]), (4, vecO 1 encI_i64 x58.2.2.2.1 2), (5, vecO 1 encI_i64 x58.2.2.2.2.1 2)], [], 6⟩)
    .ret (fun (_ : U0) => ⟨[], [], [], 0⟩)
    (fun x58 => .call (ref14_Sum_C a0 x58.2.2.2.1) [] fun y105 =>
     .call (ref14_Sum_C a1 x58.2.2.2.2.1) [] fun y106 =>
     .call (ref14_minus_C y105 y106) [] fun y107 =>
     .call (ref14_near_C y107 a2) [] fun y111 =>
     .br y111
      (.ret (.fin (⟨2, (x58.1, x58.2.1, x58.2.2.1), x58.2.2.2.1, x58.2.2.2.2.1, x58.2.2.2.2.2⟩ : S_Nearest)))
      (.ix 0 3 rfl <|
      .ok ((65536 : Int) ≠ 0) (by decide) <|
      .ix 1 3 rfl <|
      .ok ((65536 : Int) ≠ 0) (by decide) <|
      .ix 2 3 rfl <|
      .ok ((65536 : Int) ≠ 0) (by decide) <|
      .call (ref10_Normal_C ((IntKind.i64.wrap (y107.1.tdiv 65536)), (IntKind.i64.wrap (y107.2.1.tdiv 65536)), (IntKind.i64.wrap (y107.2.2.tdiv 65536)))) [] fun y113 =>
      .br (!y113.2)
       (.ret (.fin (⟨0, y113.1, x58.2.2.2.1, x58.2.2.2.2.1, x58.2.2.2.2.2⟩ : S_Nearest)))
       (.call (ref14_Extreme_C y113.1 a0 1) [] fun y116 =>
       .call (ref14_Extreme_C y113.1 a1 (-1)) [] fun y117 =>
       .grd (0 ≤ y116 ∧ y116 < ((a0.length : Nat) : Int)) <|
       .call (ref14_dot_C y113.1 (a0.getD ((y116).toNat) default)) [] fun y127 =>
       .grd (0 ≤ y117 ∧ y117 < ((a1.length : Nat) : Int)) <|
       .call (ref14_dot_C y113.1 (a1.getD ((y117).toNat) default)) [] fun y128 =>
       .call (ref10_Norm_C y113.1) [] fun y129 =>
       .br (decide ((IntKind.i64.wrap (y127 - y128)) > (IntKind.i64.wrap (y129 * a2))))
        (.ret (.fin (⟨1, y113.1, x58.2.2.2.1, x58.2.2.2.2.1, x58.2.2.2.2.2⟩ : S_Nearest)))
        (.grd (0 ≤ y116 ∧ y116 < ((a0.length : Nat) : Int)) <|
        .grd (0 ≤ y117 ∧ y117 < ((a1.length : Nat) : Int)) <|
        .call (ref14_minus_C (a0.getD ((y116).toNat) default) (a1.getD ((y117).toNat) default)) [] fun y132 =>
        .call (ref14_minus_C ((IntKind.i64.wrap (y107.1.tdiv 65536)), (IntKind.i64.wrap (y107.2.1.tdiv 65536)), (IntKind.i64.wrap (y107.2.2.tdiv 65536))) y132) [] fun y133 =>
        .call (ref14_dot_C ((IntKind.i64.wrap (y107.1.tdiv 65536)), (IntKind.i64.wrap (y107.2.1.tdiv 65536)), (IntKind.i64.wrap (y107.2.2.tdiv 65536))) y133) [] fun y136 =>
        .call (ref14_dot_C y133 y133) [] fun y137 =>
        .cut 1 (fun (y139 : Bool) => ⟨[(0, .pure (encL 3 enc_arr_3_int64 a0)), (1, .pure (encL 3 enc_arr_3_int64 a1)), (2, .pure (.int .i64 a2)), (3, .pure (.int .i64 a3)), (8, .ptr 0 0), (9, .ptr 3 0), (14, .pure (.int .i64 y116)), (15, .pure (.int .i64 y117)), (17, .pure (.int .i64 y136)), (18, .pure (.int .i64 y137)), (142, .pure (.bool y139))], [(0, .box [.pure (.int .i64 0), .pure (.int .i64 0), .pure (.int .i64 0), .pure (.int .i64 0), .vec 1, .vec 2, .pure (.int .i64 0)]), (1, .nilv), (2, .nilv), (3, .box [.pure (.int .i64 0), .pure (.int .i64 y113.1.1), .pure (.int .i64 y113.1.2.1), .pure (.int .i64 y113.1.2.2), .vec 4, .vec 5, .pure (.int .i64 x58.2.2.2.2.2)]), (4, vecS 1 encI_i64 x58.2.2.2.1 2), (5, vecS 1 encI_i64 x58.2.2.2.2.1 2)], [], 6⟩)
         (.br (decide (x58.2.2.2.2.2 ≥ a3))
          (.ret (.out true))
          (.ret (.out (decide (y136 ≤ 0))))) fun y139 =>
        .br y139
         (.ret (.fin (⟨0, y113.1, x58.2.2.2.1, x58.2.2.2.2.1, x58.2.2.2.2.2⟩ : S_Nearest)))
         (.ok ((256 : Int) ≠ 0) (by decide) <|
         .grd ((max 1 (IntKind.i64.wrap (y137.tdiv 256))) ≠ 0) <|
         .br ((min 256 (IntKind.i64.wrap (y136.tdiv (max 1 (IntKind.i64.wrap (y137.tdiv 256)))))) == 0)
          (.ret (.fin (⟨0, y113.1, x58.2.2.2.1, x58.2.2.2.2.1, x58.2.2.2.2.2⟩ : S_Nearest)))
          (.call (ref14_Moved_C x58.2.2.2.1 (min 256 (IntKind.i64.wrap (y136.tdiv (max 1 (IntKind.i64.wrap (y137.tdiv 256)))))) y116) [] fun y142 =>
          .call (ref14_Moved_C x58.2.2.2.2.1 (min 256 (IntKind.i64.wrap (y136.tdiv (max 1 (IntKind.i64.wrap (y137.tdiv 256)))))) y117) [] fun y143 =>
          .ret (.next (y113.1.1, y113.1.2.1, y113.1.2.2, y142, y143, (IntKind.i64.wrap (x58.2.2.2.2.2 + 1))))))))))
    (0, 0, 0, ((List.replicate (((a0.length : Nat) : Int)).toNat (0 : Int)).set ((0 : Int).toNat) 65536), ((List.replicate (((a1.length : Nat) : Int)).toNat (0 : Int)).set ((0 : Int).toNat) 65536), 0) [] fun _ =>
   .stop)
noncomputable def ref14_Search_C (a0 : (List (Int × Int × Int))) (a1 : (List (Int × Int × Int))) (a2 : Int) (a3 : Int) : CallS S_Nearest :=
  mkC [] hd Tryz.func103 (by kernel_rfl) (ref14_Search_T a0 a1 a2 a3) 0 [.pure (encL 3 enc_arr_3_int64 a0), .pure (encL 3 enc_arr_3_int64 a1), .pure (.int .i64 a2), .pure (.int .i64 a3)] [] (fun r => .pure (enc_Nearest r)) (fun _ => []) (by kernel_rfl)

noncomputable def ref14_Candidates_T (a0 : (List (S_Interval × S_Interval × S_Interval))) (a1 : Int) (a2 : (List (S_Interval × S_Interval × S_Interval))) (a3 : Int) (a4 : (List (Int × Int × Int))) : T (List (Int × Int × Int)) :=
  .cut 2 (fun (y22 : Bool) => ⟨[(0, .pure (encL 6 enc_arr_3_Interval a0)), (1, .pure (.int .i64 a1)), (2, .pure (encL 6 enc_arr_3_Interval a2)), (3, .pure (.int .i64 a3)), (4, .pure (encL 3 enc_arr_3_int64 a4)), (33, .pure (.bool y22))], [], [], 0⟩)
   (.call (ref10_Placed_C a0) [] fun y23 =>
   .br (!y23)
    (.ret (.out true))
    (.call (ref10_Placed_C a2) [] fun y24 =>
    .br (!y24)
     (.ret (.out true))
     (.call (ref14_radius_C a1) [] fun y25 =>
     .br (!y25)
      (.ret (.out true))
      (.call (ref14_radius_C a3) [] fun y26 =>
      .ret (.out (!y26)))))) fun y22 =>
  .br y22
   (.ret nl)
   (.loop (fun (x59 : ((List (Int × Int × Int)) × Int)) => ⟨[(0, .pure (encL 6 enc_arr_3_Interval a0)), (1, .pure (.int .i64 a1)), (2, .pure (encL 6 enc_arr_3_Interval a2)), (3, .pure (.int .i64 a3)), (4, .pure (encL 3 enc_arr_3_int64 a4)), (11, .vec 0), (12, .pure (.int .i64 x59.2))], [(0, vecO 3 enc_arr_3_int64 x59.1 49)], [], 1⟩)
    (.exit 0) (fun (y67 : (List (Int × Int × Int))) => ⟨[(0, .pure (encL 6 enc_arr_3_Interval a0)), (1, .pure (.int .i64 a1)), (2, .pure (encL 6 enc_arr_3_Interval a2)), (3, .pure (.int .i64 a3)), (11, .vec 0)], [(0, vecO 3 enc_arr_3_int64 y67 49)], [], 1⟩)
    (fun x59 => .br (decide (x59.2 < ((a4.length : Nat) : Int)))
      (.cut 0 (fun (y72 : (List (Int × Int × Int))) => ⟨[(0, .pure (encL 6 enc_arr_3_Interval a0)), (1, .pure (.int .i64 a1)), (2, .pure (encL 6 enc_arr_3_Interval a2)), (3, .pure (.int .i64 a3)), (4, .pure (encL 3 enc_arr_3_int64 a4)), (11, .vec 0), (12, .pure (.int .i64 x59.2))], [(0, vecO 3 enc_arr_3_int64 y72 49)], [], 1⟩)
       (.grd (0 ≤ x59.2 ∧ x59.2 < ((a4.length : Nat) : Int)) <|
       .call (ref10_Usable_C (a4.getD ((x59.2).toNat) default)) [] fun y74 =>
       .br y74
        (.grd (0 ≤ x59.2 ∧ x59.2 < ((a4.length : Nat) : Int)) <|
        .conv 8005 (cvLit 3 enc_arr_3_int64 ([(a4.getD ((x59.2).toNat) default)] : (List (Int × Int × Int))) 49) <|
        .conv 8006 (cvApp 3 enc_arr_3_int64 x59.1 ([(a4.getD ((x59.2).toNat) default)] : (List (Int × Int × Int))) 49) <|
        .grd ((x59.1.length + ([(a4.getD ((x59.2).toNat) default)] : (List (Int × Int × Int))).length) * 24 ≤ 140737488355328 ∧ (x59.1.length + ([(a4.getD ((x59.2).toNat) default)] : (List (Int × Int × Int))).length) ≤ maxLen) <|
        .ret (.out (x59.1 ++ ([(a4.getD ((x59.2).toNat) default)] : (List (Int × Int × Int))))))
        (.ret (.out x59.1))) fun y72 =>
      .ret (.next (y72, (IntKind.i64.wrap (x59.2 + 1)))))
      (.ret (.out x59.1)))
    (nl, 0) [] fun y67 =>
   .cut 0 (fun (y79 : (List (Int × Int × Int))) => ⟨[(0, .pure (encL 6 enc_arr_3_Interval a0)), (1, .pure (.int .i64 a1)), (2, .pure (encL 6 enc_arr_3_Interval a2)), (3, .pure (.int .i64 a3)), (11, .vec 0)], [(0, vecO 3 enc_arr_3_int64 y79 49)], [], 1⟩)
    (.call (ref14_Mean_C a0 a2) [] fun y81 =>
    .br y81.2
     (.conv 11002 (cvLit 3 enc_arr_3_int64 ([y81.1] : (List (Int × Int × Int))) 49) <|
     .conv 11003 (cvApp 3 enc_arr_3_int64 y67 ([y81.1] : (List (Int × Int × Int))) 49) <|
     .grd ((y67.length + ([y81.1] : (List (Int × Int × Int))).length) * 24 ≤ 140737488355328 ∧ (y67.length + ([y81.1] : (List (Int × Int × Int))).length) ≤ maxLen) <|
     .ret (.out (y67 ++ ([y81.1] : (List (Int × Int × Int))))))
     (.ret (.out y67))) fun y79 =>
   .call (ref14_Axes_C) [] fun y83 =>
   .conv 12002 (cvApp 3 enc_arr_3_int64 y79 y83 49) <|
   .grd ((y79.length + y83.length) * 24 ≤ 140737488355328 ∧ (y79.length + y83.length) ≤ maxLen) <|
   .call (ref10_Centers_C a0) [] fun y87 =>
   .call (ref10_Centers_C a2) [] fun y88 =>
   .call (ref14_Search_C y87 y88 (IntKind.i64.wrap (a1 + a3)) 64) [] fun y89 =>
   .cut 0 (fun (y94 : (List (Int × Int × Int))) => ⟨[(11, .vec 0)], [(0, vecO 3 enc_arr_3_int64 y94 49)], [], 1⟩)
    (.call (ref10_Usable_C y89.Normal) [] fun y96 =>
    .br y96
     (.conv 15003 (cvLit 3 enc_arr_3_int64 ([y89.Normal] : (List (Int × Int × Int))) 49) <|
     .conv 15004 (cvApp 3 enc_arr_3_int64 (y79 ++ y83) ([y89.Normal] : (List (Int × Int × Int))) 49) <|
     .grd (((y79 ++ y83).length + ([y89.Normal] : (List (Int × Int × Int))).length) * 24 ≤ 140737488355328 ∧ ((y79 ++ y83).length + ([y89.Normal] : (List (Int × Int × Int))).length) ≤ maxLen) <|
     .ret (.out ((y79 ++ y83) ++ ([y89.Normal] : (List (Int × Int × Int))))))
     (.ret (.out (y79 ++ y83)))) fun y94 =>
   .ret y94)
noncomputable def ref14_Candidates_C (a0 : (List (S_Interval × S_Interval × S_Interval))) (a1 : Int) (a2 : (List (S_Interval × S_Interval × S_Interval))) (a3 : Int) (a4 : (List (Int × Int × Int))) : CallS (List (Int × Int × Int)) :=
  mkC [] hd Tryz.func149 (by kernel_rfl) (ref14_Candidates_T a0 a1 a2 a3 a4) 0 [.pure (encL 6 enc_arr_3_Interval a0), .pure (.int .i64 a1), .pure (encL 6 enc_arr_3_Interval a2), .pure (.int .i64 a3), .pure (encL 3 enc_arr_3_int64 a4)] [] (fun r => .pure (encL 3 enc_arr_3_int64 r)) (fun _ => []) (by kernel_rfl)

noncomputable def ref10_Dot_T (a0 : (Int × Int × Int)) (a1 : (S_Interval × S_Interval × S_Interval)) : T (Int × Int) :=
  .cut 2 (fun (y66 : Bool) => ⟨[(2, .ptr 0 0), (3, .ptr 1 0), (18, .pure (.bool y66))], [(0, .box [.pure (.int .i64 a0.1), .pure (.int .i64 a0.2.1), .pure (.int .i64 a0.2.2)]), (1, .box [.pure (.int .i64 a1.1.Lo), .pure (.int .i64 a1.1.Hi), .pure (.int .i64 a1.2.1.Lo), .pure (.int .i64 a1.2.1.Hi), .pure (.int .i64 a1.2.2.Lo), .pure (.int .i64 a1.2.2.Hi)])], [], 2⟩)
   (.call (ref10_Usable_C a0) [] fun y67 =>
   .br (!y67)
    (.ret (.out true))
    (.call (ref10_reached_C a1) [] fun y68 =>
    .ret (.out (!y68)))) fun y66 =>
  .br y66
   (.ret (0, 0))
   (.unroll 4 <|
   .known true <|
   .ix 0 3 rfl <|
   .ix 0 3 rfl <|
   .ix 0 3 rfl <|
   .ix 0 3 rfl <|
   .name 8004 ((IntKind.i64.wrap (0 + (min (IntKind.i64.wrap (a0.1 * a1.1.Lo)) (IntKind.i64.wrap (a0.1 * a1.1.Hi)))))) fun z107 =>
   .name 9004 ((IntKind.i64.wrap (0 + (max (IntKind.i64.wrap (a0.1 * a1.1.Lo)) (IntKind.i64.wrap (a0.1 * a1.1.Hi)))))) fun z108 =>
   .lit 6001 (1) <|
   .known true <|
   .ix 1 3 rfl <|
   .ix 1 3 rfl <|
   .ix 1 3 rfl <|
   .ix 1 3 rfl <|
   .name 8004 ((IntKind.i64.wrap (z107 + (min (IntKind.i64.wrap (a0.2.1 * a1.2.1.Lo)) (IntKind.i64.wrap (a0.2.1 * a1.2.1.Hi)))))) fun z113 =>
   .name 9004 ((IntKind.i64.wrap (z108 + (max (IntKind.i64.wrap (a0.2.1 * a1.2.1.Lo)) (IntKind.i64.wrap (a0.2.1 * a1.2.1.Hi)))))) fun z114 =>
   .lit 6001 (2) <|
   .known true <|
   .ix 2 3 rfl <|
   .ix 2 3 rfl <|
   .ix 2 3 rfl <|
   .ix 2 3 rfl <|
   .name 8004 ((IntKind.i64.wrap (z113 + (min (IntKind.i64.wrap (a0.2.2 * a1.2.2.Lo)) (IntKind.i64.wrap (a0.2.2 * a1.2.2.Hi)))))) fun z119 =>
   .name 9004 ((IntKind.i64.wrap (z114 + (max (IntKind.i64.wrap (a0.2.2 * a1.2.2.Lo)) (IntKind.i64.wrap (a0.2.2 * a1.2.2.Hi)))))) fun z120 =>
   .lit 6001 (3) <|
   .known false <|
   .ret (z119, z120))
noncomputable def ref10_Dot_C (a0 : (Int × Int × Int)) (a1 : (S_Interval × S_Interval × S_Interval)) : CallS (Int × Int) :=
  mkC [] hd Tryz.func267 (by kernel_rfl) (ref10_Dot_T a0 a1) 0 [.pure (enc_arr_3_int64 a0), .pure (enc_arr_3_Interval a1)] [] (fun r => .tup [.pure (.int .i64 r.1), .pure (.int .i64 r.2)]) (fun _ => []) (by kernel_rfl)

noncomputable def ref10_Least_T (a0 : (Int × Int × Int)) (a1 : (List (S_Interval × S_Interval × S_Interval))) : T (Int × Int × Bool) :=
  .cut 2 (fun (y12 : Bool) => ⟨[(1, .pure (encL 6 enc_arr_3_Interval a1)), (2, .ptr 0 0), (19, .pure (.bool y12))], [(0, .box [.pure (.int .i64 a0.1), .pure (.int .i64 a0.2.1), .pure (.int .i64 a0.2.2)])], [], 1⟩)
   (.call (ref10_Usable_C a0) [] fun y13 =>
   .br (!y13)
    (.ret (.out true))
    (.call (ref10_Placed_C a1) [] fun y14 =>
    .ret (.out (!y14)))) fun y12 =>
  .br y12
   (.ret (0, 0, false))
   (.loop (fun (x69 : (Int × Int × Int)) => ⟨[(1, .pure (encL 6 enc_arr_3_Interval a1)), (2, .ptr 0 0), (7, .pure (.int .i64 x69.1)), (8, .pure (.int .i64 x69.2.1)), (9, .pure (.int .i64 x69.2.2))], [(0, .box [.pure (.int .i64 a0.1), .pure (.int .i64 a0.2.1), .pure (.int .i64 a0.2.2)])], [], 1⟩)
    (.exit 0) (fun (y80 : (Int × Int)) => ⟨[(7, .pure (.int .i64 y80.1)), (8, .pure (.int .i64 y80.2))], [], [], 0⟩)
    (fun x69 => .br (decide (x69.2.2 < ((a1.length : Nat) : Int)))
      (.cut 0 (fun (y87 : (Int × Int)) => ⟨[(1, .pure (encL 6 enc_arr_3_Interval a1)), (2, .ptr 0 0), (7, .pure (.int .i64 y87.1)), (8, .pure (.int .i64 y87.2)), (9, .pure (.int .i64 x69.2.2))], [(0, .box [.pure (.int .i64 a0.1), .pure (.int .i64 a0.2.1), .pure (.int .i64 a0.2.2)])], [], 1⟩)
       (.grd (0 ≤ x69.2.2 ∧ x69.2.2 < ((a1.length : Nat) : Int)) <|
       .call (ref10_Dot_C a0 (a1.getD ((x69.2.2).toNat) default)) [] fun y89 =>
       .cut 0 (fun (y90 : Bool) => ⟨[(1, .pure (encL 6 enc_arr_3_Interval a1)), (2, .ptr 0 0), (7, .pure (.int .i64 x69.1)), (8, .pure (.int .i64 x69.2.1)), (9, .pure (.int .i64 x69.2.2)), (10, .pure (.int .i64 y89.1)), (41, .pure (.bool y90))], [(0, .box [.pure (.int .i64 a0.1), .pure (.int .i64 a0.2.1), .pure (.int .i64 a0.2.2)])], [], 1⟩)
        (.br (x69.2.2 == 0)
         (.ret (.out true))
         (.ret (.out (decide (y89.1 < x69.1))))) fun y90 =>
       .br y90
        (.ret (.out (y89.1, x69.2.2)))
        (.ret (.out (x69.1, x69.2.1)))) fun y87 =>
      .ret (.next (y87.1, y87.2, (IntKind.i64.wrap (x69.2.2 + 1)))))
      (.ret (.out (x69.1, x69.2.1))))
    (0, 0, 0) [] fun y80 =>
   .ret (y80.1, y80.2, true))
noncomputable def ref10_Least_C (a0 : (Int × Int × Int)) (a1 : (List (S_Interval × S_Interval × S_Interval))) : CallS (Int × Int × Bool) :=
  mkC [] hd Tryz.func246 (by kernel_rfl) (ref10_Least_T a0 a1) 0 [.pure (enc_arr_3_int64 a0), .pure (encL 6 enc_arr_3_Interval a1)] [] (fun r => .tup [.pure (.int .i64 r.1), .pure (.int .i64 r.2.1), .pure (.bool r.2.2)]) (fun _ => []) (by kernel_rfl)

noncomputable def ref10_Greatest_T (a0 : (Int × Int × Int)) (a1 : (List (S_Interval × S_Interval × S_Interval))) : T (Int × Int × Bool) :=
  .cut 2 (fun (y12 : Bool) => ⟨[(1, .pure (encL 6 enc_arr_3_Interval a1)), (2, .ptr 0 0), (19, .pure (.bool y12))], [(0, .box [.pure (.int .i64 a0.1), .pure (.int .i64 a0.2.1), .pure (.int .i64 a0.2.2)])], [], 1⟩)
   (.call (ref10_Usable_C a0) [] fun y13 =>
   .br (!y13)
    (.ret (.out true))
    (.call (ref10_Placed_C a1) [] fun y14 =>
    .ret (.out (!y14)))) fun y12 =>
  .br y12
   (.ret (0, 0, false))
   (.loop (fun (x69 : (Int × Int × Int)) => ⟨[(1, .pure (encL 6 enc_arr_3_Interval a1)), (2, .ptr 0 0), (7, .pure (.int .i64 x69.1)), (8, .pure (.int .i64 x69.2.1)), (9, .pure (.int .i64 x69.2.2))], [(0, .box [.pure (.int .i64 a0.1), .pure (.int .i64 a0.2.1), .pure (.int .i64 a0.2.2)])], [], 1⟩)
    (.exit 0) (fun (y80 : (Int × Int)) => ⟨[(7, .pure (.int .i64 y80.1)), (8, .pure (.int .i64 y80.2))], [], [], 0⟩)
    (fun x69 => .br (decide (x69.2.2 < ((a1.length : Nat) : Int)))
      (.cut 0 (fun (y87 : (Int × Int)) => ⟨[(1, .pure (encL 6 enc_arr_3_Interval a1)), (2, .ptr 0 0), (7, .pure (.int .i64 y87.1)), (8, .pure (.int .i64 y87.2)), (9, .pure (.int .i64 x69.2.2))], [(0, .box [.pure (.int .i64 a0.1), .pure (.int .i64 a0.2.1), .pure (.int .i64 a0.2.2)])], [], 1⟩)
       (.grd (0 ≤ x69.2.2 ∧ x69.2.2 < ((a1.length : Nat) : Int)) <|
       .call (ref10_Dot_C a0 (a1.getD ((x69.2.2).toNat) default)) [] fun y89 =>
       .cut 0 (fun (y90 : Bool) => ⟨[(1, .pure (encL 6 enc_arr_3_Interval a1)), (2, .ptr 0 0), (7, .pure (.int .i64 x69.1)), (8, .pure (.int .i64 x69.2.1)), (9, .pure (.int .i64 x69.2.2)), (11, .pure (.int .i64 y89.2)), (41, .pure (.bool y90))], [(0, .box [.pure (.int .i64 a0.1), .pure (.int .i64 a0.2.1), .pure (.int .i64 a0.2.2)])], [], 1⟩)
        (.br (x69.2.2 == 0)
         (.ret (.out true))
         (.ret (.out (decide (y89.2 > x69.1))))) fun y90 =>
       .br y90
        (.ret (.out (y89.2, x69.2.2)))
        (.ret (.out (x69.1, x69.2.1)))) fun y87 =>
      .ret (.next (y87.1, y87.2, (IntKind.i64.wrap (x69.2.2 + 1)))))
      (.ret (.out (x69.1, x69.2.1))))
    (0, 0, 0) [] fun y80 =>
   .ret (y80.1, y80.2, true))
noncomputable def ref10_Greatest_C (a0 : (Int × Int × Int)) (a1 : (List (S_Interval × S_Interval × S_Interval))) : CallS (Int × Int × Bool) :=
  mkC [] hd Tryz.func247 (by kernel_rfl) (ref10_Greatest_T a0 a1) 0 [.pure (enc_arr_3_int64 a0), .pure (encL 6 enc_arr_3_Interval a1)] [] (fun r => .tup [.pure (.int .i64 r.1), .pure (.int .i64 r.2.1), .pure (.bool r.2.2)]) (fun _ => []) (by kernel_rfl)

noncomputable def ref14_Margin_T (a0 : (Int × Int × Int)) (a1 : (List (S_Interval × S_Interval × S_Interval))) (a2 : Int) (a3 : (List (S_Interval × S_Interval × S_Interval))) (a4 : Int) : T (Int × Bool) :=
  .call (ref10_Least_C a0 a1) [] fun y2 =>
  .call (ref10_Greatest_C a0 a3) [] fun y4 =>
  .cut 1 (fun (y16 : Bool) => ⟨[(2, .pure (.int .i64 a2)), (4, .pure (.int .i64 a4)), (5, .ptr 0 0), (12, .pure (.int .i64 y2.1)), (15, .pure (.int .i64 y4.1)), (47, .pure (.bool y16))], [(0, .box [.pure (.int .i64 a0.1), .pure (.int .i64 a0.2.1), .pure (.int .i64 a0.2.2)])], [], 1⟩)
   (.br (!y2.2.2)
    (.ret (.out true))
    (.br (!y4.2.2)
     (.ret (.out true))
     (.call (ref14_radius_C a2) [] fun y17 =>
     .br (!y17)
      (.ret (.out true))
      (.call (ref14_radius_C a4) [] fun y18 =>
      .ret (.out (!y18)))))) fun y16 =>
  .br y16
   (.ret (0, false))
   (.call (ref10_Norm_C a0) [] fun y19 =>
   .ret ((IntKind.i64.wrap ((IntKind.i64.wrap (y2.1 - y4.1)) - (IntKind.i64.wrap (y19 * (IntKind.i64.wrap (a2 + a4)))))), true))
noncomputable def ref14_Margin_C (a0 : (Int × Int × Int)) (a1 : (List (S_Interval × S_Interval × S_Interval))) (a2 : Int) (a3 : (List (S_Interval × S_Interval × S_Interval))) (a4 : Int) : CallS (Int × Bool) :=
  mkC [] hd Tryz.func214 (by kernel_rfl) (ref14_Margin_T a0 a1 a2 a3 a4) 0 [.pure (enc_arr_3_int64 a0), .pure (encL 6 enc_arr_3_Interval a1), .pure (.int .i64 a2), .pure (encL 6 enc_arr_3_Interval a3), .pure (.int .i64 a4)] [] (fun r => .tup [.pure (.int .i64 r.1), .pure (.bool r.2)]) (fun _ => []) (by kernel_rfl)

noncomputable def ref14_Separates_T (a0 : (Int × Int × Int)) (a1 : (List (S_Interval × S_Interval × S_Interval))) (a2 : Int) (a3 : (List (S_Interval × S_Interval × S_Interval))) (a4 : Int) : T Bool :=
  .call (ref14_Margin_C a0 a1 a2 a3 a4) [] fun y2 =>
  .br y2.2
   (.ret (decide (y2.1 > 0)))
   (.ret false)
noncomputable def ref14_Separates_C (a0 : (Int × Int × Int)) (a1 : (List (S_Interval × S_Interval × S_Interval))) (a2 : Int) (a3 : (List (S_Interval × S_Interval × S_Interval))) (a4 : Int) : CallS Bool :=
  mkC [] hd Tryz.func164 (by kernel_rfl) (ref14_Separates_T a0 a1 a2 a3 a4) 0 [.pure (enc_arr_3_int64 a0), .pure (encL 6 enc_arr_3_Interval a1), .pure (.int .i64 a2), .pure (encL 6 enc_arr_3_Interval a3), .pure (.int .i64 a4)] [] (fun r => .pure (.bool r)) (fun _ => []) (by kernel_rfl)

noncomputable def ref14_First_T (a0 : (List (Int × Int × Int))) (a1 : (List (S_Interval × S_Interval × S_Interval))) (a2 : Int) (a3 : (List (S_Interval × S_Interval × S_Interval))) (a4 : Int) : T (Int × Bool) :=
  .loop (fun (x21 : Int) => ⟨[(0, .pure (encL 3 enc_arr_3_int64 a0)), (1, .pure (encL 6 enc_arr_3_Interval a1)), (2, .pure (.int .i64 a2)), (3, .pure (encL 6 enc_arr_3_Interval a3)), (4, .pure (.int .i64 a4)), (12, .pure (.int .i64 x21))], [], [], 0⟩)
   (.exit 0) (fun (_ : U0) => ⟨[], [], [], 0⟩)
   (fun x21 => .br (decide (x21 < ((a0.length : Nat) : Int)))
     (.grd (0 ≤ x21 ∧ x21 < ((a0.length : Nat) : Int)) <|
     .call (ref14_Separates_C (a0.getD ((x21).toNat) default) a1 a2 a3 a4) [] fun y30 =>
     .br y30
      (.ret (.fin (x21, true)))
      (.ret (.next (IntKind.i64.wrap (x21 + 1)))))
     (.ret (.out .u)))
   0 [] fun _ =>
  .ret (0, false)
noncomputable def ref14_First_C (a0 : (List (Int × Int × Int))) (a1 : (List (S_Interval × S_Interval × S_Interval))) (a2 : Int) (a3 : (List (S_Interval × S_Interval × S_Interval))) (a4 : Int) : CallS (Int × Bool) :=
  mkC [] hd Tryz.func150 (by kernel_rfl) (ref14_First_T a0 a1 a2 a3 a4) 0 [.pure (encL 3 enc_arr_3_int64 a0), .pure (encL 6 enc_arr_3_Interval a1), .pure (.int .i64 a2), .pure (encL 6 enc_arr_3_Interval a3), .pure (.int .i64 a4)] [] (fun r => .tup [.pure (.int .i64 r.1), .pure (.bool r.2)]) (fun _ => []) (by kernel_rfl)

noncomputable def ref14_FindNormal_T (a0 : (List (S_Interval × S_Interval × S_Interval))) (a1 : Int) (a2 : (List (S_Interval × S_Interval × S_Interval))) (a3 : Int) (a4 : (List (Int × Int × Int))) : T ((Int × Int × Int) × Bool) :=
  .call (ref14_Candidates_C a0 a1 a2 a3 a4) [] fun y2 =>
  .call (ref14_First_C y2 a0 a1 a2 a3) [] fun y4 =>
  .br (!y4.2)
   (.ret ((0, 0, 0), false))
   (.grd (0 ≤ y4.1 ∧ y4.1 < ((y2.length : Nat) : Int)) <|
   .ret ((y2.getD ((y4.1).toNat) default), true))
noncomputable def ref14_FindNormal_C (a0 : (List (S_Interval × S_Interval × S_Interval))) (a1 : Int) (a2 : (List (S_Interval × S_Interval × S_Interval))) (a3 : Int) (a4 : (List (Int × Int × Int))) : CallS ((Int × Int × Int) × Bool) :=
  mkC [] hd Tryz.func102 (by kernel_rfl) (ref14_FindNormal_T a0 a1 a2 a3 a4) 0 [.pure (encL 6 enc_arr_3_Interval a0), .pure (.int .i64 a1), .pure (encL 6 enc_arr_3_Interval a2), .pure (.int .i64 a3), .pure (encL 3 enc_arr_3_int64 a4)] [] (fun r => .tup [.pure (enc_arr_3_int64 r.1), .pure (.bool r.2)]) (fun _ => []) (by kernel_rfl)

set_option maxHeartbeats 8000000 in
set_option maxRecDepth 20000 in
noncomputable def ref10_Combine_T (a0 : (List (S_Interval × S_Interval × S_Interval))) (a1 : (List Int)) : T ((S_Interval × S_Interval × S_Interval) × Int × Bool) :=
  .cut 2 (fun (y447 : Bool) => ⟨[(0, .pure (encL 6 enc_arr_3_Interval a0)), (1, .pure (encL 1 encI_i64 a1)), (4, .ptr 0 0), (21, .pure (.bool y447))], [(0, .box [.pure (.int .i64 0), .pure (.int .i64 0), .pure (.int .i64 0), .pure (.int .i64 0), .pure (.int .i64 0), .pure (.int .i64 0)])], [], 1⟩)
   (.call (ref10_Placed_C a0) [] fun y448 =>
   .br (!y448)
    (.ret (.out true))
    (.ret (.out (((a1.length : Nat) : Int) != ((a0.length : Nat) : Int))))) fun y447 =>
  .br y447
   (.ret (((⟨0, 0⟩ : S_Interval), (⟨0, 0⟩ : S_Interval), (⟨0, 0⟩ : S_Interval)), 0, false))
   (.loop (fun (x469 : (Int × Int)) => ⟨[(0, .pure (encL 6 enc_arr_3_Interval a0)), (1, .pure (encL 1 encI_i64 a1)), (4, .ptr 0 0), (7, .pure (.int .i64 x469.1)), (8, .pure (.int .i64 x469.2))], [(0, .box [.pure (.int .i64 0), .pure (.int .i64 0), .pure (.int .i64 0), .pure (.int .i64 0), .pure (.int .i64 0), .pure (.int .i64 0)])], [], 1⟩)
    (.exit 0) (fun (y474 : Int) => ⟨[(0, .pure (encL 6 enc_arr_3_Interval a0)), (1, .pure (encL 1 encI_i64 a1)), (4, .ptr 0 0), (7, .pure (.int .i64 y474))], [(0, .box [.pure (.int .i64 0), .pure (.int .i64 0), .pure (.int .i64 0), .pure (.int .i64 0), .pure (.int .i64 0), .pure (.int .i64 0)])], [], 1⟩)
    (fun x469 => .br (decide (x469.2 < ((a1.length : Nat) : Int)))
      (.cut 2 (fun (y478 : Bool) => ⟨[(0, .pure (encL 6 enc_arr_3_Interval a0)), (1, .pure (encL 1 encI_i64 a1)), (4, .ptr 0 0), (7, .pure (.int .i64 x469.1)), (8, .pure (.int .i64 x469.2)), (42, .pure (.bool y478))], [(0, .box [.pure (.int .i64 0), .pure (.int .i64 0), .pure (.int .i64 0), .pure (.int .i64 0), .pure (.int .i64 0), .pure (.int .i64 0)])], [], 1⟩)
       (.grd (0 ≤ x469.2 ∧ x469.2 < ((a1.length : Nat) : Int)) <|
       .br (decide ((a1.getD ((x469.2).toNat) default) < 0))
        (.ret (.out true))
        (.grd (0 ≤ x469.2 ∧ x469.2 < ((a1.length : Nat) : Int)) <|
        .ret (.out (decide ((a1.getD ((x469.2).toNat) default) > (IntKind.i64.wrap (65536 - x469.1))))))) fun y478 =>
      .br y478
       (.ret (.fin (((⟨0, 0⟩ : S_Interval), (⟨0, 0⟩ : S_Interval), (⟨0, 0⟩ : S_Interval)), 0, false)))
       (.grd (0 ≤ x469.2 ∧ x469.2 < ((a1.length : Nat) : Int)) <|
       .ret (.next ((IntKind.i64.wrap (x469.1 + (a1.getD ((x469.2).toNat) default))), (IntKind.i64.wrap (x469.2 + 1))))))
      (.ret (.out x469.1)))
    (0, 0) [] fun y474 =>
   .br (decide (y474 < 1))
    (.ret (((⟨0, 0⟩ : S_Interval), (⟨0, 0⟩ : S_Interval), (⟨0, 0⟩ : S_Interval)), 0, false))
    (.loop (fun (x883 : (Int × Int × Int × Int × Int × Int × Int)) => ⟨[(0, .pure (encL 6 enc_arr_3_Interval a0)), (1, .pure (encL 1 encI_i64 a1)), (4, .ptr 0 0), (7, .pure (.int .i64 y474)), (9, .ptr 1 0), (10, .pure (.int .i64 x883.2.2.2.2.2.2))], [(0, .box [.pure (.int .i64 0), .pure (.int .i64 0), .pure (.int .i64 0), .pure (.int .i64 0), .pure (.int .i64 0), .pure (.int .i64 0)]), (1, .box [.pure (.int .i64 x883.1), .pure (.int .i64 x883.2.1), .pure (.int .i64 x883.2.2.1), .pure (.int .i64 x883.2.2.2.1), .pure (.int .i64 x883.2.2.2.2.1), .pure (.int .i64 x883.2.2.2.2.2.1)])], [], 2⟩)
     (.exit 2) (fun (y984 : (Int × Int × Int × Int × Int × Int)) => ⟨[(4, .ptr 0 0), (7, .pure (.int .i64 y474)), (9, .ptr 1 0)], [(0, .box [.pure (.int .i64 0), .pure (.int .i64 0), .pure (.int .i64 0), .pure (.int .i64 0), .pure (.int .i64 0), .pure (.int .i64 0)]), (1, .box [.pure (.int .i64 y984.1), .pure (.int .i64 y984.2.1), .pure (.int .i64 y984.2.2.1), .pure (.int .i64 y984.2.2.2.1), .pure (.int .i64 y984.2.2.2.2.1), .pure (.int .i64 y984.2.2.2.2.2)])], [], 2⟩)
     (fun x883 => .br (decide (x883.2.2.2.2.2.2 < ((a0.length : Nat) : Int)))
       (.unroll 4 <|
       .known true <|
       .ix 0 3 rfl <|
       .grd (0 ≤ x883.2.2.2.2.2.2 ∧ x883.2.2.2.2.2.2 < ((a1.length : Nat) : Int)) <|
       .grd (0 ≤ x883.2.2.2.2.2.2 ∧ x883.2.2.2.2.2.2 < ((a0.length : Nat) : Int)) <|
       .ix 0 3 rfl <|
       .name 19015 ((IntKind.i64.wrap ((a1.getD ((x883.2.2.2.2.2.2).toNat) default) * ((a0.getD ((x883.2.2.2.2.2.2).toNat) default).1.Lo)))) fun z1057 =>
       .name 19016 ((IntKind.i64.wrap (x883.1 + z1057))) fun z1058 =>
       .ix 0 3 rfl <|
       .ix 0 3 rfl <|
       .grd (0 ≤ x883.2.2.2.2.2.2 ∧ x883.2.2.2.2.2.2 < ((a1.length : Nat) : Int)) <|
       .grd (0 ≤ x883.2.2.2.2.2.2 ∧ x883.2.2.2.2.2.2 < ((a0.length : Nat) : Int)) <|
       .ix 0 3 rfl <|
       .name 20015 ((IntKind.i64.wrap ((a1.getD ((x883.2.2.2.2.2.2).toNat) default) * ((a0.getD ((x883.2.2.2.2.2.2).toNat) default).1.Hi)))) fun z1059 =>
       .name 20016 ((IntKind.i64.wrap (x883.2.1 + z1059))) fun z1060 =>
       .ix 0 3 rfl <|
       .lit 18001 (1) <|
       .known true <|
       .ix 1 3 rfl <|
       .grd (0 ≤ x883.2.2.2.2.2.2 ∧ x883.2.2.2.2.2.2 < ((a1.length : Nat) : Int)) <|
       .grd (0 ≤ x883.2.2.2.2.2.2 ∧ x883.2.2.2.2.2.2 < ((a0.length : Nat) : Int)) <|
       .ix 1 3 rfl <|
       .name 19015 ((IntKind.i64.wrap ((a1.getD ((x883.2.2.2.2.2.2).toNat) default) * ((a0.getD ((x883.2.2.2.2.2.2).toNat) default).2.1.Lo)))) fun z1069 =>
       .name 19016 ((IntKind.i64.wrap (x883.2.2.1 + z1069))) fun z1070 =>
       .ix 1 3 rfl <|
       .ix 1 3 rfl <|
       .grd (0 ≤ x883.2.2.2.2.2.2 ∧ x883.2.2.2.2.2.2 < ((a1.length : Nat) : Int)) <|
       .grd (0 ≤ x883.2.2.2.2.2.2 ∧ x883.2.2.2.2.2.2 < ((a0.length : Nat) : Int)) <|
       .ix 1 3 rfl <|
       .name 20015 ((IntKind.i64.wrap ((a1.getD ((x883.2.2.2.2.2.2).toNat) default) * ((a0.getD ((x883.2.2.2.2.2.2).toNat) default).2.1.Hi)))) fun z1071 =>
       .name 20016 ((IntKind.i64.wrap (x883.2.2.2.1 + z1071))) fun z1072 =>
       .ix 1 3 rfl <|
       .lit 18001 (2) <|
       .known true <|
       .ix 2 3 rfl <|
       .grd (0 ≤ x883.2.2.2.2.2.2 ∧ x883.2.2.2.2.2.2 < ((a1.length : Nat) : Int)) <|
       .grd (0 ≤ x883.2.2.2.2.2.2 ∧ x883.2.2.2.2.2.2 < ((a0.length : Nat) : Int)) <|
       .ix 2 3 rfl <|
       .name 19015 ((IntKind.i64.wrap ((a1.getD ((x883.2.2.2.2.2.2).toNat) default) * ((a0.getD ((x883.2.2.2.2.2.2).toNat) default).2.2.Lo)))) fun z1081 =>
       .name 19016 ((IntKind.i64.wrap (x883.2.2.2.2.1 + z1081))) fun z1082 =>
       .ix 2 3 rfl <|
       .ix 2 3 rfl <|
       .grd (0 ≤ x883.2.2.2.2.2.2 ∧ x883.2.2.2.2.2.2 < ((a1.length : Nat) : Int)) <|
       .grd (0 ≤ x883.2.2.2.2.2.2 ∧ x883.2.2.2.2.2.2 < ((a0.length : Nat) : Int)) <|
       .ix 2 3 rfl <|
       .name 20015 ((IntKind.i64.wrap ((a1.getD ((x883.2.2.2.2.2.2).toNat) default) * ((a0.getD ((x883.2.2.2.2.2.2).toNat) default).2.2.Hi)))) fun z1083 =>
       .name 20016 ((IntKind.i64.wrap (x883.2.2.2.2.2.1 + z1083))) fun z1084 =>
       .ix 2 3 rfl <|
       .lit 18001 (3) <|
       .known false <|
       .ret (.next (z1058, z1060, z1070, z1072, z1082, z1084, (IntKind.i64.wrap (x883.2.2.2.2.2.2 + 1)))))
       (.ret (.out (x883.1, x883.2.1, x883.2.2.1, x883.2.2.2.1, x883.2.2.2.2.1, x883.2.2.2.2.2.1))))
     (0, 0, 0, 0, 0, 0, 0) [] fun y984 =>
    .ret (((⟨y984.1, y984.2.1⟩ : S_Interval), (⟨y984.2.2.1, y984.2.2.2.1⟩ : S_Interval), (⟨y984.2.2.2.2.1, y984.2.2.2.2.2⟩ : S_Interval)), y474, true)))
noncomputable def ref10_Combine_C (a0 : (List (S_Interval × S_Interval × S_Interval))) (a1 : (List Int)) : CallS ((S_Interval × S_Interval × S_Interval) × Int × Bool) :=
  mkC [] hd Tryz.func212 (by kernel_rfl) (ref10_Combine_T a0 a1) 0 [.pure (encL 6 enc_arr_3_Interval a0), .pure (encL 1 encI_i64 a1)] [] (fun r => .tup [.pure (enc_arr_3_Interval r.1), .pure (.int .i64 r.2.1), .pure (.bool r.2.2)]) (fun _ => []) (by kernel_rfl)

noncomputable def ref14_size_T (a0 : Int) : T Int :=
  .ret (max a0 (IntKind.i64.wrap (0 - a0)))
noncomputable def ref14_size_C (a0 : Int) : CallS Int :=
  mkC [] hd Tryz.func213 (by kernel_rfl) (ref14_size_T a0) 0 [.pure (.int .i64 a0)] [] (fun r => .pure (.int .i64 r)) (fun _ => []) (by kernel_rfl)

noncomputable def ref14_Excess_T (a0 : (List Int)) (a1 : (List Int)) (a2 : (List (S_Interval × S_Interval × S_Interval))) (a3 : Int) (a4 : (List (S_Interval × S_Interval × S_Interval))) (a5 : Int) : T (Int × Bool) :=
  .call (ref10_Combine_C a2 a0) [] fun y136 =>
  .call (ref10_Combine_C a4 a1) [] fun y138 =>
  .cut 1 (fun (y150 : Bool) => ⟨[(3, .pure (.int .i64 a3)), (5, .pure (.int .i64 a5)), (14, .ptr 0 0), (15, .pure (.int .i64 y136.2.1)), (17, .ptr 1 0), (57, .pure (.bool y150))], [(0, .box [.pure (.int .i64 y136.1.1.Lo), .pure (.int .i64 y136.1.1.Hi), .pure (.int .i64 y136.1.2.1.Lo), .pure (.int .i64 y136.1.2.1.Hi), .pure (.int .i64 y136.1.2.2.Lo), .pure (.int .i64 y136.1.2.2.Hi)]), (1, .box [.pure (.int .i64 y138.1.1.Lo), .pure (.int .i64 y138.1.1.Hi), .pure (.int .i64 y138.1.2.1.Lo), .pure (.int .i64 y138.1.2.1.Hi), .pure (.int .i64 y138.1.2.2.Lo), .pure (.int .i64 y138.1.2.2.Hi)])], [], 2⟩)
   (.br (!y136.2.2)
    (.ret (.out true))
    (.br (!y138.2.2)
     (.ret (.out true))
     (.br (y136.2.1 != y138.2.1)
      (.ret (.out true))
      (.call (ref14_radius_C a3) [] fun y151 =>
      .br (!y151)
       (.ret (.out true))
       (.call (ref14_radius_C a5) [] fun y152 =>
       .ret (.out (!y152))))))) fun y150 =>
  .br y150
   (.ret (0, false))
   (.unroll 4 <|
   .known true <|
   .ix 0 3 rfl <|
   .ix 0 3 rfl <|
   .call (ref14_size_C (IntKind.i64.wrap (y136.1.1.Lo - y138.1.1.Hi))) [] fun y237 =>
   .ix 0 3 rfl <|
   .ix 0 3 rfl <|
   .call (ref14_size_C (IntKind.i64.wrap (y136.1.1.Hi - y138.1.1.Lo))) [] fun y238 =>
   .call (ref1_Ceil_C (max y237 y238) y136.2.1) [] fun y239 =>
   .br (decide (y239 > (IntKind.i64.wrap (a3 + a5))))
    (.ret ((-1), true))
    (.name 12004 ((IntKind.i64.wrap ((IntKind.i64.wrap ((IntKind.i64.wrap (a3 + a5)) * (IntKind.i64.wrap (a3 + a5)))) - (IntKind.i64.wrap (y239 * y239))))) fun z240 =>
    .lit 8001 (1) <|
    .known true <|
    .ix 1 3 rfl <|
    .ix 1 3 rfl <|
    .call (ref14_size_C (IntKind.i64.wrap (y136.1.2.1.Lo - y138.1.2.1.Hi))) [] fun y251 =>
    .ix 1 3 rfl <|
    .ix 1 3 rfl <|
    .call (ref14_size_C (IntKind.i64.wrap (y136.1.2.1.Hi - y138.1.2.1.Lo))) [] fun y252 =>
    .call (ref1_Ceil_C (max y251 y252) y136.2.1) [] fun y253 =>
    .br (decide (y253 > (IntKind.i64.wrap (a3 + a5))))
     (.ret ((-1), true))
     (.name 12004 ((IntKind.i64.wrap (z240 - (IntKind.i64.wrap (y253 * y253))))) fun z254 =>
     .lit 8001 (2) <|
     .known true <|
     .ix 2 3 rfl <|
     .ix 2 3 rfl <|
     .call (ref14_size_C (IntKind.i64.wrap (y136.1.2.2.Lo - y138.1.2.2.Hi))) [] fun y265 =>
     .ix 2 3 rfl <|
     .ix 2 3 rfl <|
     .call (ref14_size_C (IntKind.i64.wrap (y136.1.2.2.Hi - y138.1.2.2.Lo))) [] fun y266 =>
     .call (ref1_Ceil_C (max y265 y266) y136.2.1) [] fun y267 =>
     .br (decide (y267 > (IntKind.i64.wrap (a3 + a5))))
      (.ret ((-1), true))
      (.name 12004 ((IntKind.i64.wrap (z254 - (IntKind.i64.wrap (y267 * y267))))) fun z268 =>
      .lit 8001 (3) <|
      .known false <|
      .ret (z268, true)))))
noncomputable def ref14_Excess_C (a0 : (List Int)) (a1 : (List Int)) (a2 : (List (S_Interval × S_Interval × S_Interval))) (a3 : Int) (a4 : (List (S_Interval × S_Interval × S_Interval))) (a5 : Int) : CallS (Int × Bool) :=
  mkC [] hd Tryz.func162 (by kernel_rfl) (ref14_Excess_T a0 a1 a2 a3 a4 a5) 0 [.pure (encL 1 encI_i64 a0), .pure (encL 1 encI_i64 a1), .pure (encL 6 enc_arr_3_Interval a2), .pure (.int .i64 a3), .pure (encL 6 enc_arr_3_Interval a4), .pure (.int .i64 a5)] [] (fun r => .tup [.pure (.int .i64 r.1), .pure (.bool r.2)]) (fun _ => []) (by kernel_rfl)

noncomputable def ref14_Overlaps_T (a0 : (List Int)) (a1 : (List Int)) (a2 : (List (S_Interval × S_Interval × S_Interval))) (a3 : Int) (a4 : (List (S_Interval × S_Interval × S_Interval))) (a5 : Int) : T Bool :=
  .call (ref14_Excess_C a0 a1 a2 a3 a4 a5) [] fun y2 =>
  .br y2.2
   (.ret (decide (y2.1 ≥ 0)))
   (.ret false)
noncomputable def ref14_Overlaps_C (a0 : (List Int)) (a1 : (List Int)) (a2 : (List (S_Interval × S_Interval × S_Interval))) (a3 : Int) (a4 : (List (S_Interval × S_Interval × S_Interval))) (a5 : Int) : CallS Bool :=
  mkC [] hd Tryz.func105 (by kernel_rfl) (ref14_Overlaps_T a0 a1 a2 a3 a4 a5) 0 [.pure (encL 1 encI_i64 a0), .pure (encL 1 encI_i64 a1), .pure (encL 6 enc_arr_3_Interval a2), .pure (.int .i64 a3), .pure (encL 6 enc_arr_3_Interval a4), .pure (.int .i64 a5)] [] (fun r => .pure (.bool r)) (fun _ => []) (by kernel_rfl)

noncomputable def ref14_Classify_T (a0 : S_Scene) (a1 : (List S_Interval)) (a2 : (List (Int × Int × Int))) : T S_Verdict :=
  .call (ref14_sides_C a0 a1) [] fun y2 =>
  .br (!y2.2.2)
   (.ret (⟨0, nl, (⟨0, nl, nl⟩ : S_Witness)⟩ : S_Verdict))
   (.loop (fun (x143 : (Int × (List (Int × Int × Int)) × Int)) => ⟨[(2, .pure (encL 3 enc_arr_3_int64 a2)), (6, .ptr 0 0), (7, .pure (encL 2 enc_ref14_side y2.1)), (8, .pure (encL 2 enc_ref14_side y2.2.1)), (10, .ptr 4 0), (11, .pure (.int .i64 x143.2.2))], [(0, .box [.pure (.int .i64 0), .vec 1, .pure (.int .i64 0), .vec 2, .vec 3]), (1, .nilv), (2, .nilv), (3, .nilv), (4, .box [.pure (.int .i64 x143.1), .vec 5, .pure (.int .i64 0), .vec 6, .vec 7]), (5, vecO 3 enc_arr_3_int64 x143.2.1 49), (6, .nilv), (7, .nilv)], [], 8⟩)
    (.exit 0) (fun (y178 : (Int × (List (Int × Int × Int)))) => ⟨[(6, .ptr 0 0), (10, .ptr 4 0)], [(0, .box [.pure (.int .i64 0), .vec 1, .pure (.int .i64 0), .vec 2, .vec 3]), (1, .nilv), (2, .nilv), (3, .nilv), (4, .box [.pure (.int .i64 y178.1), .vec 5, .pure (.int .i64 0), .vec 6, .vec 7]), (5, vecO 3 enc_arr_3_int64 y178.2 49), (6, .nilv), (7, .nilv)], [], 8⟩)
    (fun x143 => .br (decide (x143.2.2 < ((y2.1.length : Nat) : Int)))
      (.cut 0 (fun (y201 : (Int × (List (Int × Int × Int)))) => ⟨[(2, .pure (encL 3 enc_arr_3_int64 a2)), (6, .ptr 0 0), (7, .pure (encL 2 enc_ref14_side y2.1)), (8, .pure (encL 2 enc_ref14_side y2.2.1)), (10, .ptr 4 0), (11, .pure (.int .i64 x143.2.2))], [(0, .box [.pure (.int .i64 0), .vec 1, .pure (.int .i64 0), .vec 2, .vec 3]), (1, .nilv), (2, .nilv), (3, .nilv), (4, .box [.pure (.int .i64 y201.1), .vec 5, .pure (.int .i64 0), .vec 6, .vec 7]), (5, vecO 3 enc_arr_3_int64 y201.2 49), (6, .nilv), (7, .nilv)], [], 8⟩)
       (.cut 1 (fun (y202 : (List (Int × Int × Int))) => ⟨[(2, .pure (encL 3 enc_arr_3_int64 a2)), (6, .ptr 0 0), (7, .pure (encL 2 enc_ref14_side y2.1)), (8, .pure (encL 2 enc_ref14_side y2.2.1)), (10, .ptr 4 0), (11, .pure (.int .i64 x143.2.2)), (12, .pure (encL 3 enc_arr_3_int64 y202))], [(0, .box [.pure (.int .i64 0), .vec 1, .pure (.int .i64 0), .vec 2, .vec 3]), (1, .nilv), (2, .nilv), (3, .nilv), (4, .box [.pure (.int .i64 x143.1), .vec 5, .pure (.int .i64 0), .vec 6, .vec 7]), (5, vecO 3 enc_arr_3_int64 x143.2.1 49), (6, .nilv), (7, .nilv)], [], 8⟩)
        (.br (decide (x143.2.2 < ((a2.length : Nat) : Int)))
         (.conv 10004 (cvSlice 3 enc_arr_3_int64 a2 x143.2.2 (IntKind.i64.wrap (x143.2.2 + 1))) <|
         .grd (0 ≤ x143.2.2 ∧ x143.2.2 ≤ (IntKind.i64.wrap (x143.2.2 + 1)) ∧ (IntKind.i64.wrap (x143.2.2 + 1)) ≤ ((a2.length : Nat) : Int)) <|
         .ret (.out ((a2.drop ((x143.2.2).toNat)).take (((IntKind.i64.wrap (x143.2.2 + 1))).toNat - (x143.2.2).toNat))))
         (.ret (.out nl))) fun y202 =>
       .grd (0 ≤ x143.2.2 ∧ x143.2.2 < ((y2.1.length : Nat) : Int)) <|
       .grd (0 ≤ x143.2.2 ∧ x143.2.2 < ((y2.1.length : Nat) : Int)) <|
       .grd (0 ≤ x143.2.2 ∧ x143.2.2 < ((y2.2.1.length : Nat) : Int)) <|
       .grd (0 ≤ x143.2.2 ∧ x143.2.2 < ((y2.2.1.length : Nat) : Int)) <|
       .call (ref14_FindNormal_C ((y2.1.getD ((x143.2.2).toNat) default).points) ((y2.1.getD ((x143.2.2).toNat) default).radius) ((y2.2.1.getD ((x143.2.2).toNat) default).points) ((y2.2.1.getD ((x143.2.2).toNat) default).radius) y202) [] fun y204 =>
       .conv 12003 (cvLit 3 enc_arr_3_int64 ([y204.1] : (List (Int × Int × Int))) 49) <|
       .conv 12004 (cvApp 3 enc_arr_3_int64 x143.2.1 ([y204.1] : (List (Int × Int × Int))) 49) <|
       .grd ((x143.2.1.length + ([y204.1] : (List (Int × Int × Int))).length) * 24 ≤ 140737488355328 ∧ (x143.2.1.length + ([y204.1] : (List (Int × Int × Int))).length) ≤ maxLen) <|
       .br y204.2
        (.ret (.out (x143.1, (x143.2.1 ++ ([y204.1] : (List (Int × Int × Int)))))))
        (.grd (0 ≤ x143.2.2 ∧ x143.2.2 < ((y2.1.length : Nat) : Int)) <|
        .call (ref10_Centers_C ((y2.1.getD ((x143.2.2).toNat) default).points)) [] fun y208 =>
        .grd (0 ≤ x143.2.2 ∧ x143.2.2 < ((y2.2.1.length : Nat) : Int)) <|
        .call (ref10_Centers_C ((y2.2.1.getD ((x143.2.2).toNat) default).points)) [] fun y209 =>
        .grd (0 ≤ x143.2.2 ∧ x143.2.2 < ((y2.1.length : Nat) : Int)) <|
        .grd (0 ≤ x143.2.2 ∧ x143.2.2 < ((y2.2.1.length : Nat) : Int)) <|
        .call (ref14_Search_C y208 y209 (IntKind.i64.wrap (((y2.1.getD ((x143.2.2).toNat) default).radius) + ((y2.2.1.getD ((x143.2.2).toNat) default).radius))) 64) [] fun y210 =>
        .grd (0 ≤ x143.2.2 ∧ x143.2.2 < ((y2.1.length : Nat) : Int)) <|
        .grd (0 ≤ x143.2.2 ∧ x143.2.2 < ((y2.1.length : Nat) : Int)) <|
        .grd (0 ≤ x143.2.2 ∧ x143.2.2 < ((y2.2.1.length : Nat) : Int)) <|
        .grd (0 ≤ x143.2.2 ∧ x143.2.2 < ((y2.2.1.length : Nat) : Int)) <|
        .call (ref14_Overlaps_C y210.Left y210.Right ((y2.1.getD ((x143.2.2).toNat) default).points) ((y2.1.getD ((x143.2.2).toNat) default).radius) ((y2.2.1.getD ((x143.2.2).toNat) default).points) ((y2.2.1.getD ((x143.2.2).toNat) default).radius)) [] fun y212 =>
        .br y212
         (.ret (.fin (.fin (⟨2, nl, (⟨x143.2.2, y210.Left, y210.Right⟩ : S_Witness)⟩ : S_Verdict))))
         (.ret (.out (0, (x143.2.1 ++ ([y204.1] : (List (Int × Int × Int))))))))) fun y201 =>
      .ret (.next (y201.1, y201.2, (IntKind.i64.wrap (x143.2.2 + 1)))))
      (.ret (.out (x143.1, x143.2.1))))
    (1, nl, 0) [] fun y178 =>
   .ret (⟨y178.1, y178.2, (⟨0, nl, nl⟩ : S_Witness)⟩ : S_Verdict))
noncomputable def ref14_Classify_C (a0 : S_Scene) (a1 : (List S_Interval)) (a2 : (List (Int × Int × Int))) : CallS S_Verdict :=
  mkC [] hd Tryz.func47 (by kernel_rfl) (ref14_Classify_T a0 a1 a2) 0 [.pure (enc_Scene a0), .pure (encL 2 enc_Interval a1), .pure (encL 3 enc_arr_3_int64 a2)] [] (fun r => .pure (enc_Verdict r)) (fun _ => []) (by kernel_rfl)

set_option maxHeartbeats 8000000 in
set_option maxRecDepth 20000 in
noncomputable def ref19_Prove_T (a0 : S_Scene) (a1 : (List Int)) (a2 : (List Int)) (a3 : Int) : T S_EdgeResult :=
  .cut 2 (fun (y141 : Bool) => ⟨[(1, .pure (encL 1 encI_i64 a1)), (2, .pure (encL 1 encI_i64 a2)), (3, .pure (.int .i64 a3)), (4, .ptr 0 0), (8, .ptr 1 0), (28, .pure (.bool y141))], [(0, .box [.pure (encL 12 enc_Joint a0.Robot.Joints), .pure (encL 5 enc_Mass a0.Robot.Masses), .pure (encL 3 enc_Shape a0.Shapes), .pure (encL 2 enc_Skip a0.Skips)]), (1, .box [.pure (.int .i64 0), .vec 2, .pure (.int .i64 0), .pure (.int .i64 0), .vec 3, .pure (.int .i64 0), .vec 4, .vec 5]), (2, .nilv), (3, .nilv), (4, .nilv), (5, .nilv)], [], 6⟩)
   (.call (ref19_ready_C (⟨a0.Robot, a0.Shapes, a0.Skips⟩ : S_Scene) a1 a2) [] fun y142 =>
   .br (!y142)
    (.ret (.out true))
    (.br (decide (a3 < 0))
     (.ret (.out true))
     (.ret (.out (decide (a3 > 20)))))) fun y141 =>
  .br y141
   (.ret (⟨0, nl, (⟨0, 0, nl⟩ : S_Piece), (⟨0, nl, nl⟩ : S_Witness)⟩ : S_EdgeResult))
   (.conv 4001 (cvLitP 3 enc_ref19_place ([(⟨0, 0, nl⟩ : S_ref19_place)] : (List S_ref19_place)) 88 [.agg [.int .i64 0, .int .i64 0, .lst 0 0 fun _ => .unk]] (by kernel_rfl)) <|
   .loop (fun (x227 : ((List S_Piece) × (List S_ref19_place))) => ⟨[(1, .pure (encL 1 encI_i64 a1)), (2, .pure (encL 1 encI_i64 a2)), (3, .pure (.int .i64 a3)), (4, .ptr 0 0), (8, .ptr 1 0), (9, .vec 6), (10, .vec 7)], [(0, .box [.pure (encL 12 enc_Joint a0.Robot.Joints), .pure (encL 5 enc_Mass a0.Robot.Masses), .pure (encL 3 enc_Shape a0.Shapes), .pure (encL 2 enc_Skip a0.Skips)]), (1, .box [.pure (.int .i64 0), .vec 2, .pure (.int .i64 0), .pure (.int .i64 0), .vec 3, .pure (.int .i64 0), .vec 4, .vec 5]), (2, .nilv), (3, .nilv), (4, .nilv), (5, .nilv), (6, vecO 3 enc_Piece x227.1 37), (7, vecO 3 enc_ref19_place x227.2 88)], [], 8⟩)
    (.exit 0) (fun (y248 : (List S_Piece)) => ⟨[(8, .ptr 0 0), (9, .vec 5)], [(0, .box [.pure (.int .i64 0), .vec 1, .pure (.int .i64 0), .pure (.int .i64 0), .vec 2, .pure (.int .i64 0), .vec 3, .vec 4]), (1, .nilv), (2, .nilv), (3, .nilv), (4, .nilv), (5, vecO 3 enc_Piece y248 37)], [], 6⟩)
    (fun x227 => .br (decide (((x227.2.length : Nat) : Int) > 0))
      (.grd (0 ≤ (IntKind.i64.wrap (((x227.2.length : Nat) : Int) - 1)) ∧ (IntKind.i64.wrap (((x227.2.length : Nat) : Int) - 1)) < ((x227.2.length : Nat) : Int)) <|
      .grd (((IntKind.i64.wrap (((x227.2.length : Nat) : Int) - 1))).toNat < x227.2.length) <|
      .conv 7004 (cvTake 3 enc_ref19_place x227.2 88 (IntKind.i64.wrap (((x227.2.length : Nat) : Int) - 1))) <|
      .grd (0 ≤ (IntKind.i64.wrap (((x227.2.length : Nat) : Int) - 1)) ∧ (IntKind.i64.wrap (((x227.2.length : Nat) : Int) - 1)) ≤ ((x227.2.length : Nat) : Int) ∧ 0 ≤ ((IntKind.i64.wrap (((x227.2.length : Nat) : Int) - 1))).toNat) <|
      .name 8001 ((x227.2.getD (((IntKind.i64.wrap (((x227.2.length : Nat) : Int) - 1))).toNat) default).depth) fun z251 =>
      .name 8003 ((x227.2.getD (((IntKind.i64.wrap (((x227.2.length : Nat) : Int) - 1))).toNat) default).index) fun z252 =>
      .br (decide (((x227.1.length : Nat) : Int) ≥ 4096))
       (.ret (.fin (⟨0, nl, (⟨z251, z252, nl⟩ : S_Piece), (⟨0, nl, nl⟩ : S_Witness)⟩ : S_EdgeResult)))
       (.name 11003 ((x227.2.getD (((IntKind.i64.wrap (((x227.2.length : Nat) : Int) - 1))).toNat) default).depth) fun z256 =>
       .name 11005 ((x227.2.getD (((IntKind.i64.wrap (((x227.2.length : Nat) : Int) - 1))).toNat) default).index) fun z257 =>
       .call (ref10_Piece_C a1 a2 z256 z257) [] fun y258 =>
       .call (ref14_Classify_C (⟨a0.Robot, a0.Shapes, a0.Skips⟩ : S_Scene) y258.1 ((x227.2.getD (((IntKind.i64.wrap (((x227.2.length : Nat) : Int) - 1))).toNat) default).hints)) [] fun y260 =>
       .br (y260.Kind == 1)
        (.name 15002 ((x227.2.getD (((IntKind.i64.wrap (((x227.2.length : Nat) : Int) - 1))).toNat) default).depth) fun z261 =>
        .name 15004 ((x227.2.getD (((IntKind.i64.wrap (((x227.2.length : Nat) : Int) - 1))).toNat) default).index) fun z262 =>
        .conv 15008 (cvLit 3 enc_Piece ([(⟨z261, z262, y260.Normals⟩ : S_Piece)] : (List S_Piece)) 37) <|
        .conv 15009 (cvApp 3 enc_Piece x227.1 ([(⟨z261, z262, y260.Normals⟩ : S_Piece)] : (List S_Piece)) 37) <|
        .grd ((x227.1.length + ([(⟨z261, z262, y260.Normals⟩ : S_Piece)] : (List S_Piece)).length) * 40 ≤ 140737488355328 ∧ (x227.1.length + ([(⟨z261, z262, y260.Normals⟩ : S_Piece)] : (List S_Piece)).length) ≤ maxLen) <|
        .ret (.next ((x227.1 ++ ([(⟨z261, z262, y260.Normals⟩ : S_Piece)] : (List S_Piece))), (x227.2.take (((IntKind.i64.wrap (((x227.2.length : Nat) : Int) - 1))).toNat)))))
        (.br (y260.Kind == 2)
         (.ret (.fin (⟨2, nl, (⟨z251, z252, nl⟩ : S_Piece), y260.Witness⟩ : S_EdgeResult)))
         (.name 18001 ((x227.2.getD (((IntKind.i64.wrap (((x227.2.length : Nat) : Int) - 1))).toNat) default).depth) fun z264 =>
         .br (z264 == a3)
          (.ret (.fin (⟨0, nl, (⟨z251, z252, nl⟩ : S_Piece), (⟨0, nl, nl⟩ : S_Witness)⟩ : S_EdgeResult)))
          (.name 13002 ((x227.2.getD (((IntKind.i64.wrap (((x227.2.length : Nat) : Int) - 1))).toNat) default).depth) fun z265 =>
          .name 13005 ((x227.2.getD (((IntKind.i64.wrap (((x227.2.length : Nat) : Int) - 1))).toNat) default).index) fun z266 =>
          .name 13012 ((x227.2.getD (((IntKind.i64.wrap (((x227.2.length : Nat) : Int) - 1))).toNat) default).depth) fun z267 =>
          .name 13015 ((x227.2.getD (((IntKind.i64.wrap (((x227.2.length : Nat) : Int) - 1))).toNat) default).index) fun z268 =>
          .conv 13020 (cvLit 3 enc_ref19_place ([(⟨(IntKind.i64.wrap (z265 + 1)), (IntKind.i64.wrap ((IntKind.i64.wrap (2 * z266)) + 1)), y260.Normals⟩ : S_ref19_place), (⟨(IntKind.i64.wrap (z267 + 1)), (IntKind.i64.wrap (2 * z268)), y260.Normals⟩ : S_ref19_place)] : (List S_ref19_place)) 88) <|
          .conv 13021 (cvApp 3 enc_ref19_place (x227.2.take (((IntKind.i64.wrap (((x227.2.length : Nat) : Int) - 1))).toNat)) ([(⟨(IntKind.i64.wrap (z265 + 1)), (IntKind.i64.wrap ((IntKind.i64.wrap (2 * z266)) + 1)), y260.Normals⟩ : S_ref19_place), (⟨(IntKind.i64.wrap (z267 + 1)), (IntKind.i64.wrap (2 * z268)), y260.Normals⟩ : S_ref19_place)] : (List S_ref19_place)) 88) <|
          .grd (((x227.2.take (((IntKind.i64.wrap (((x227.2.length : Nat) : Int) - 1))).toNat)).length + ([(⟨(IntKind.i64.wrap (z265 + 1)), (IntKind.i64.wrap ((IntKind.i64.wrap (2 * z266)) + 1)), y260.Normals⟩ : S_ref19_place), (⟨(IntKind.i64.wrap (z267 + 1)), (IntKind.i64.wrap (2 * z268)), y260.Normals⟩ : S_ref19_place)] : (List S_ref19_place)).length) * 40 ≤ 140737488355328 ∧ ((x227.2.take (((IntKind.i64.wrap (((x227.2.length : Nat) : Int) - 1))).toNat)).length + ([(⟨(IntKind.i64.wrap (z265 + 1)), (IntKind.i64.wrap ((IntKind.i64.wrap (2 * z266)) + 1)), y260.Normals⟩ : S_ref19_place), (⟨(IntKind.i64.wrap (z267 + 1)), (IntKind.i64.wrap (2 * z268)), y260.Normals⟩ : S_ref19_place)] : (List S_ref19_place)).length) ≤ maxLen) <|
          .ret (.next (x227.1, ((x227.2.take (((IntKind.i64.wrap (((x227.2.length : Nat) : Int) - 1))).toNat)) ++ ([(⟨(IntKind.i64.wrap (z265 + 1)), (IntKind.i64.wrap ((IntKind.i64.wrap (2 * z266)) + 1)), y260.Normals⟩ : S_ref19_place), (⟨(IntKind.i64.wrap (z267 + 1)), (IntKind.i64.wrap (2 * z268)), y260.Normals⟩ : S_ref19_place)] : (List S_ref19_place))))))))))
      (.ret (.out x227.1)))
    (nl, ([(⟨0, 0, nl⟩ : S_ref19_place)] : (List S_ref19_place))) [] fun y248 =>
   .ret (⟨1, y248, (⟨0, 0, nl⟩ : S_Piece), (⟨0, nl, nl⟩ : S_Witness)⟩ : S_EdgeResult))
noncomputable def ref19_Prove_C (a0 : S_Scene) (a1 : (List Int)) (a2 : (List Int)) (a3 : Int) : CallS S_EdgeResult :=
  mkC [] hd Tryz.func16 (by kernel_rfl) (ref19_Prove_T a0 a1 a2 a3) 0 [.pure (enc_Scene a0), .pure (encL 1 encI_i64 a1), .pure (encL 1 encI_i64 a2), .pure (.int .i64 a3)] [] (fun r => .pure (enc_EdgeResult r)) (fun _ => []) (by kernel_rfl)

noncomputable def make_Normal_T (a0 : Int) (a1 : Int) (a2 : Int) : T (Int × Int × Int) :=
  .call (make_Round_C a0 41) [] fun y4 =>
  .call (make_Round_C a1 41) [] fun y5 =>
  .call (make_Round_C a2 41) [] fun y6 =>
  .cut 0 (fun (y13 : (Int × Int × Int)) => ⟨[(6, .ptr 0 0), (7, .ptr 1 0)], [(0, .box [.pure (.int .i64 0), .pure (.int .i64 0), .pure (.int .i64 0)]), (1, .box [.pure (.int .i64 y13.1), .pure (.int .i64 y13.2.1), .pure (.int .i64 y13.2.2)])], [], 2⟩)
   (.br ((IntKind.i64.wrap (((BitVec.ofInt 64 a0 &&& BitVec.ofInt 64 8).toNat : Int))) == 8)
    (.call (make_Round_C a0 32769) [] fun y14 =>
    .call (make_Round_C a1 32769) [] fun y15 =>
    .call (make_Round_C a2 32769) [] fun y16 =>
    .ret (.out ((IntKind.i64.wrap (y14 - 16384)), (IntKind.i64.wrap (y15 - 16384)), (IntKind.i64.wrap (y16 - 16384)))))
    (.ret (.out ((IntKind.i64.wrap (y4 - 20)), (IntKind.i64.wrap (y5 - 20)), (IntKind.i64.wrap (y6 - 20)))))) fun y13 =>
  .call (ref10_Usable_C (y13.1, y13.2.1, y13.2.2)) [] fun y20 =>
  .br (!y20)
   (.ret (1, 0, 0))
   (.ret (y13.1, y13.2.1, y13.2.2))
noncomputable def make_Normal_C (a0 : Int) (a1 : Int) (a2 : Int) : CallS (Int × Int × Int) :=
  mkC [] hd Tryz.func48 (by kernel_rfl) (make_Normal_T a0 a1 a2) 0 [.pure (.int .i64 a0), .pure (.int .i64 a1), .pure (.int .i64 a2)] [] (fun r => .pure (enc_arr_3_int64 r)) (fun _ => []) (by kernel_rfl)
end Go.Abs
