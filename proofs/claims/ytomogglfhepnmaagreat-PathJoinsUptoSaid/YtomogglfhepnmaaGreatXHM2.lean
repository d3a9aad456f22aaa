/-
  M2 (a part of a claim: our own text).
-/
import Derived.Test.YtomogglfhepnmaaGreatXHM1
namespace Go.Abs
open Go.Proofs
noncomputable def matrix_Add_T (a0 : (S_Interval × S_Interval × S_Interval)) (a1 : (S_Interval × S_Interval × S_Interval)) : T (S_Interval × S_Interval × S_Interval) :=
 .unroll 4 <|
 .known true <|
 .ix 0 3 rfl <|
 .ix 0 3 rfl <|
 .call (interval_Add_C a0.1 a1.1) [] fun y16 =>
 .ix 0 3 rfl <|
 .lit 6000 (1) <|
 .known true <|
 .ix 1 3 rfl <|
 .ix 1 3 rfl <|
 .call (interval_Add_C a0.2.1 a1.2.1) [] fun y18 =>
 .ix 1 3 rfl <|
 .lit 6000 (2) <|
 .known true <|
 .ix 2 3 rfl <|
 .ix 2 3 rfl <|
 .call (interval_Add_C a0.2.2 a1.2.2) [] fun y20 =>
 .ix 2 3 rfl <|
 .lit 6000 (3) <|
 .known false <|
 .ret (y16, y18, y20)
noncomputable def matrix_Add_C (a0 : (S_Interval × S_Interval × S_Interval)) (a1 : (S_Interval × S_Interval × S_Interval)) : CallS (S_Interval × S_Interval × S_Interval) :=
  mkC [] hd Tryz.func273 (by kernel_rfl) (matrix_Add_T a0 a1) 0 [.pure (enc_arr_3_Interval a0), .pure (enc_arr_3_Interval a1)] [] (fun r => .pure (enc_arr_3_Interval r)) (fun _ => []) (by kernel_rfl)
noncomputable def pose_mover_1_T (a0 : (S_Interval × S_Interval × S_Interval)) (a1 : Int) (a2 : Int) (a3 : Int) (a4 : Int) (a5 : Int) (a6 : Int) (a7 : Int) (a8 : Int) (a9 : Int) (a10 : Int) (a11 : Int) (a12 : Int) (a13 : Int) (a14 : Int) (a15 : Int) (a16 : Int) (a17 : Int) (a18 : Int) (a19 : Int) (a20 : Int) (a21 : Int) (a22 : Int) (a23 : Int) (a24 : Int) : T ((S_Interval × S_Interval × S_Interval) × Int × Int × Int × Int × Int × Int × Int × Int × Int × Int × Int × Int × Int × Int × Int × Int × Int × Int × Int × Int × Int × Int × Int × Int) :=
 .call (matrix_Apply_C (((⟨a1, a2⟩ : S_Interval), (⟨a3, a4⟩ : S_Interval), (⟨a5, a6⟩ : S_Interval)), ((⟨a7, a8⟩ : S_Interval), (⟨a9, a10⟩ : S_Interval), (⟨a11, a12⟩ : S_Interval)), ((⟨a13, a14⟩ : S_Interval), (⟨a15, a16⟩ : S_Interval), (⟨a17, a18⟩ : S_Interval))) ((⟨a0.1.Lo, a0.1.Hi⟩ : S_Interval), (⟨a0.2.1.Lo, a0.2.1.Hi⟩ : S_Interval), (⟨a0.2.2.Lo, a0.2.2.Hi⟩ : S_Interval))) [] fun y1 =>
 .call (matrix_Add_C ((⟨a19, a20⟩ : S_Interval), (⟨a21, a22⟩ : S_Interval), (⟨a23, a24⟩ : S_Interval)) y1) [] fun y2 =>
 .ret (y2, a1, a2, a3, a4, a5, a6, a7, a8, a9, a10, a11, a12, a13, a14, a15, a16, a17, a18, a19, a20, a21, a22, a23, a24)
noncomputable def pose_mover_1_C (a0 : (S_Interval × S_Interval × S_Interval)) (a1 : Int) (a2 : Int) (a3 : Int) (a4 : Int) (a5 : Int) (a6 : Int) (a7 : Int) (a8 : Int) (a9 : Int) (a10 : Int) (a11 : Int) (a12 : Int) (a13 : Int) (a14 : Int) (a15 : Int) (a16 : Int) (a17 : Int) (a18 : Int) (a19 : Int) (a20 : Int) (a21 : Int) (a22 : Int) (a23 : Int) (a24 : Int) : CallS ((S_Interval × S_Interval × S_Interval) × Int × Int × Int × Int × Int × Int × Int × Int × Int × Int × Int × Int × Int × Int × Int × Int × Int × Int × Int × Int × Int × Int × Int × Int) :=
  mkC [] hd Tryz.func272 (by kernel_rfl) (pose_mover_1_T a0 a1 a2 a3 a4 a5 a6 a7 a8 a9 a10 a11 a12 a13 a14 a15 a16 a17 a18 a19 a20 a21 a22 a23 a24) 1 [.pure (enc_arr_3_Interval a0), .ptr 0 0] [(0, .box [pz a1, pz a2, pz a3, pz a4, pz a5, pz a6, pz a7, pz a8, pz a9, pz a10, pz a11, pz a12, pz a13, pz a14, pz a15, pz a16, pz a17, pz a18, pz a19, pz a20, pz a21, pz a22, pz a23, pz a24])] (fun r => .pure (enc_arr_3_Interval r.1)) (fun r => [(0, .box [pz r.2.1, pz r.2.2.1, pz r.2.2.2.1, pz r.2.2.2.2.1, pz r.2.2.2.2.2.1, pz r.2.2.2.2.2.2.1, pz r.2.2.2.2.2.2.2.1, pz r.2.2.2.2.2.2.2.2.1, pz r.2.2.2.2.2.2.2.2.2.1, pz r.2.2.2.2.2.2.2.2.2.2.1, pz r.2.2.2.2.2.2.2.2.2.2.2.1, pz r.2.2.2.2.2.2.2.2.2.2.2.2.1, pz r.2.2.2.2.2.2.2.2.2.2.2.2.2.1, pz r.2.2.2.2.2.2.2.2.2.2.2.2.2.2.1, pz r.2.2.2.2.2.2.2.2.2.2.2.2.2.2.2.1, pz r.2.2.2.2.2.2.2.2.2.2.2.2.2.2.2.2.1, pz r.2.2.2.2.2.2.2.2.2.2.2.2.2.2.2.2.2.1, pz r.2.2.2.2.2.2.2.2.2.2.2.2.2.2.2.2.2.2.1, pz r.2.2.2.2.2.2.2.2.2.2.2.2.2.2.2.2.2.2.2.1, pz r.2.2.2.2.2.2.2.2.2.2.2.2.2.2.2.2.2.2.2.2.1, pz r.2.2.2.2.2.2.2.2.2.2.2.2.2.2.2.2.2.2.2.2.2.1, pz r.2.2.2.2.2.2.2.2.2.2.2.2.2.2.2.2.2.2.2.2.2.2.1, pz r.2.2.2.2.2.2.2.2.2.2.2.2.2.2.2.2.2.2.2.2.2.2.2.1, pz r.2.2.2.2.2.2.2.2.2.2.2.2.2.2.2.2.2.2.2.2.2.2.2.2])]) (by kernel_rfl)
noncomputable def pose_Compose_T (a0 : S_Pose) (a1 : S_Pose) : T S_Pose :=
 .call (pose_mover_C a0) [] fun y2 =>
 .call (matrix_Compose_C a0.R a1.R) [] fun y3 =>
 .call (pose_mover_1_C a1.T y2.1 y2.2.1 y2.2.2.1 y2.2.2.2.1 y2.2.2.2.2.1 y2.2.2.2.2.2.1 y2.2.2.2.2.2.2.1 y2.2.2.2.2.2.2.2.1 y2.2.2.2.2.2.2.2.2.1 y2.2.2.2.2.2.2.2.2.2.1 y2.2.2.2.2.2.2.2.2.2.2.1 y2.2.2.2.2.2.2.2.2.2.2.2.1 y2.2.2.2.2.2.2.2.2.2.2.2.2.1 y2.2.2.2.2.2.2.2.2.2.2.2.2.2.1 y2.2.2.2.2.2.2.2.2.2.2.2.2.2.2.1 y2.2.2.2.2.2.2.2.2.2.2.2.2.2.2.2.1 y2.2.2.2.2.2.2.2.2.2.2.2.2.2.2.2.2.1 y2.2.2.2.2.2.2.2.2.2.2.2.2.2.2.2.2.2.1 y2.2.2.2.2.2.2.2.2.2.2.2.2.2.2.2.2.2.2.1 y2.2.2.2.2.2.2.2.2.2.2.2.2.2.2.2.2.2.2.2.1 y2.2.2.2.2.2.2.2.2.2.2.2.2.2.2.2.2.2.2.2.2.1 y2.2.2.2.2.2.2.2.2.2.2.2.2.2.2.2.2.2.2.2.2.2.1 y2.2.2.2.2.2.2.2.2.2.2.2.2.2.2.2.2.2.2.2.2.2.2.1 y2.2.2.2.2.2.2.2.2.2.2.2.2.2.2.2.2.2.2.2.2.2.2.2) [(0, 256)] fun y4 =>
 .ret (⟨(y3.1, y3.2.1, y3.2.2), y4.1⟩ : S_Pose)
noncomputable def pose_Compose_C (a0 : S_Pose) (a1 : S_Pose) : CallS S_Pose :=
  mkC [] hd Tryz.func217 (by kernel_rfl) (pose_Compose_T a0 a1) 0 [.pure (enc_Pose a0), .pure (enc_Pose a1)] [] (fun r => .pure (enc_Pose r)) (fun _ => []) (by kernel_rfl)
noncomputable def axis_slide_T (a0 : Int) (a1 : S_Interval) : T S_Pose :=
 .cut 2 (fun (y1 : (Int × Int × Int × Int × Int × Int)) => ⟨[(4, .ptr 0 0), (5, .ptr 1 0)], [(0, .box [pz 0, pz 0, pz 0, pz 0, pz 0, pz 0, pz 0, pz 0, pz 0, pz 0, pz 0, pz 0, pz 0, pz 0, pz 0, pz 0, pz 0, pz 0, pz 0, pz 0, pz 0, pz 0, pz 0, pz 0]), (1, .box [pz y1.1, pz y1.2.1, pz y1.2.2.1, pz y1.2.2.2.1, pz y1.2.2.2.2.1, pz y1.2.2.2.2.2])], [], 2⟩)
 (.cas 2000 a0 0
 (.ix 0 3 rfl <|
 .ret (.out (a1.Lo, a1.Hi, 0, 0, 0, 0)))
 (.cas 2000 a0 1
 (.ix 1 3 rfl <|
 .ret (.out (0, 0, a1.Lo, a1.Hi, 0, 0)))
 (.cas 2000 a0 2
 (.ix 2 3 rfl <|
 .ret (.out (0, 0, 0, 0, a1.Lo, a1.Hi)))
 (.stop)))) fun y1 =>
 .call (pose_Shift_C ((⟨y1.1, y1.2.1⟩ : S_Interval), (⟨y1.2.2.1, y1.2.2.2.1⟩ : S_Interval), (⟨y1.2.2.2.2.1, y1.2.2.2.2.2⟩ : S_Interval))) [] fun y2 =>
 .ret y2
noncomputable def axis_slide_C (a0 : Int) (a1 : S_Interval) : CallS S_Pose :=
  mkC [] hd Tryz.func270 (by kernel_rfl) (axis_slide_T a0 a1) 0 [pz a0, .pure (enc_Interval a1)] [] (fun r => .pure (enc_Pose r)) (fun _ => []) (by kernel_rfl)
noncomputable def interval_Width_T (a0 : S_Interval) : T Int :=
 .call (interval_Valid_C a0) [] fun y4 =>
 .br (!y4)
 (.ret 0)
 (.ret (IntKind.i64.wrap (a0.Hi - a0.Lo)))
noncomputable def interval_Width_C (a0 : S_Interval) : CallS Int :=
  mkC [] hd Tryz.func340 (by kernel_rfl) (interval_Width_T a0) 0 [.pure (enc_Interval a0)] [] (fun r => pz r) (fun _ => []) (by kernel_rfl)
noncomputable def angle_modTurn_T (a0 : Int) : T Int :=
 .ret (IntKind.i64.wrap (((BitVec.ofInt 64 a0 &&& BitVec.ofInt 64 65535).toNat : Int)))
noncomputable def angle_modTurn_C (a0 : Int) : CallS Int :=
  mkC [] hd Tryz.func343 (by kernel_rfl) (angle_modTurn_T a0) 0 [pz a0] [] (fun r => pz r) (fun _ => []) (by kernel_rfl)
noncomputable def angle_powersOf_T (a0 : Int) : T ((Int × Int × Int × Int × Int × Int × Int × Int × Int × Int × Int) × (Int × Int × Int × Int × Int × Int × Int × Int × Int × Int × Int)) :=
 .ix 0 11 rfl <|
 .ix 0 11 rfl <|
 .call (fixed_ShiftDown_C (IntKind.i64.wrap (a0 * 6746518852)) 16) [] fun y2 =>
 .ix 1 11 rfl <|
 .call (fixed_ShiftUp_C (IntKind.i64.wrap (a0 * 6746518853)) 16) [] fun y4 =>
 .ix 1 11 rfl <|
 .unroll 10 <|
 .known true <|
 .lit 8002 (1) <|
 .ix 1 11 rfl <|
 .ix 1 11 rfl <|
 .call (fixed_ShiftDown_C (IntKind.i64.wrap (y2 * y2)) 30) [] fun y79 =>
 .ix 2 11 rfl <|
 .lit 9002 (1) <|
 .ix 1 11 rfl <|
 .ix 1 11 rfl <|
 .call (fixed_ShiftUp_C (IntKind.i64.wrap (y4 * y4)) 30) [] fun y80 =>
 .ix 2 11 rfl <|
 .lit 7001 (3) <|
 .known true <|
 .lit 8002 (2) <|
 .ix 2 11 rfl <|
 .ix 1 11 rfl <|
 .call (fixed_ShiftDown_C (IntKind.i64.wrap (y79 * y2)) 30) [] fun y85 =>
 .ix 3 11 rfl <|
 .lit 9002 (2) <|
 .ix 2 11 rfl <|
 .ix 1 11 rfl <|
 .call (fixed_ShiftUp_C (IntKind.i64.wrap (y80 * y4)) 30) [] fun y86 =>
 .ix 3 11 rfl <|
 .lit 7001 (4) <|
 .known true <|
 .lit 8002 (3) <|
 .ix 3 11 rfl <|
 .ix 1 11 rfl <|
 .call (fixed_ShiftDown_C (IntKind.i64.wrap (y85 * y2)) 30) [] fun y91 =>
 .ix 4 11 rfl <|
 .lit 9002 (3) <|
 .ix 3 11 rfl <|
 .ix 1 11 rfl <|
 .call (fixed_ShiftUp_C (IntKind.i64.wrap (y86 * y4)) 30) [] fun y92 =>
 .ix 4 11 rfl <|
 .lit 7001 (5) <|
 .known true <|
 .lit 8002 (4) <|
 .ix 4 11 rfl <|
 .ix 1 11 rfl <|
 .call (fixed_ShiftDown_C (IntKind.i64.wrap (y91 * y2)) 30) [] fun y97 =>
 .ix 5 11 rfl <|
 .lit 9002 (4) <|
 .ix 4 11 rfl <|
 .ix 1 11 rfl <|
 .call (fixed_ShiftUp_C (IntKind.i64.wrap (y92 * y4)) 30) [] fun y98 =>
 .ix 5 11 rfl <|
 .lit 7001 (6) <|
 .known true <|
 .lit 8002 (5) <|
 .ix 5 11 rfl <|
 .ix 1 11 rfl <|
 .call (fixed_ShiftDown_C (IntKind.i64.wrap (y97 * y2)) 30) [] fun y103 =>
 .ix 6 11 rfl <|
 .lit 9002 (5) <|
 .ix 5 11 rfl <|
 .ix 1 11 rfl <|
 .call (fixed_ShiftUp_C (IntKind.i64.wrap (y98 * y4)) 30) [] fun y104 =>
 .ix 6 11 rfl <|
 .lit 7001 (7) <|
 .known true <|
 .lit 8002 (6) <|
 .ix 6 11 rfl <|
 .ix 1 11 rfl <|
 .call (fixed_ShiftDown_C (IntKind.i64.wrap (y103 * y2)) 30) [] fun y109 =>
 .ix 7 11 rfl <|
 .lit 9002 (6) <|
 .ix 6 11 rfl <|
 .ix 1 11 rfl <|
 .call (fixed_ShiftUp_C (IntKind.i64.wrap (y104 * y4)) 30) [] fun y110 =>
 .ix 7 11 rfl <|
 .lit 7001 (8) <|
 .known true <|
 .lit 8002 (7) <|
 .ix 7 11 rfl <|
 .ix 1 11 rfl <|
 .call (fixed_ShiftDown_C (IntKind.i64.wrap (y109 * y2)) 30) [] fun y115 =>
 .ix 8 11 rfl <|
 .lit 9002 (7) <|
 .ix 7 11 rfl <|
 .ix 1 11 rfl <|
 .call (fixed_ShiftUp_C (IntKind.i64.wrap (y110 * y4)) 30) [] fun y116 =>
 .ix 8 11 rfl <|
 .lit 7001 (9) <|
 .known true <|
 .lit 8002 (8) <|
 .ix 8 11 rfl <|
 .ix 1 11 rfl <|
 .call (fixed_ShiftDown_C (IntKind.i64.wrap (y115 * y2)) 30) [] fun y121 =>
 .ix 9 11 rfl <|
 .lit 9002 (8) <|
 .ix 8 11 rfl <|
 .ix 1 11 rfl <|
 .call (fixed_ShiftUp_C (IntKind.i64.wrap (y116 * y4)) 30) [] fun y122 =>
 .ix 9 11 rfl <|
 .lit 7001 (10) <|
 .known true <|
 .lit 8002 (9) <|
 .ix 9 11 rfl <|
 .ix 1 11 rfl <|
 .call (fixed_ShiftDown_C (IntKind.i64.wrap (y121 * y2)) 30) [] fun y127 =>
 .ix 10 11 rfl <|
 .lit 9002 (9) <|
 .ix 9 11 rfl <|
 .ix 1 11 rfl <|
 .call (fixed_ShiftUp_C (IntKind.i64.wrap (y122 * y4)) 30) [] fun y128 =>
 .ix 10 11 rfl <|
 .lit 7001 (11) <|
 .known false <|
 .ret ((1073741824, y2, y79, y85, y91, y97, y103, y109, y115, y121, y127), (1073741824, y4, y80, y86, y92, y98, y104, y110, y116, y122, y128))
noncomputable def angle_powersOf_C (a0 : Int) : CallS ((Int × Int × Int × Int × Int × Int × Int × Int × Int × Int × Int) × (Int × Int × Int × Int × Int × Int × Int × Int × Int × Int × Int)) :=
  mkC [] hd Tryz.func355 (by kernel_rfl) (angle_powersOf_T a0) 0 [pz a0] [] (fun r => .tup [.pure (enc_arr_11_int64 r.1), .pure (enc_arr_11_int64 r.2)]) (fun _ => []) (by kernel_rfl)
noncomputable def angle_ceiling_T (a0 : Int) (a1 : Int) : T Int :=
 .grd (a1 ≠ 0) <|
 .ret (IntKind.i64.wrap ((IntKind.i64.wrap ((IntKind.i64.wrap (a0 + a1)) - 1)).tdiv a1))
noncomputable def angle_ceiling_C (a0 : Int) (a1 : Int) : CallS Int :=
  mkC [] hd Tryz.func357 (by kernel_rfl) (angle_ceiling_T a0 a1) 0 [pz a0, pz a1] [] (fun r => pz r) (fun _ => []) (by kernel_rfl)
noncomputable def angle_alternating_T (a0 : (List Int)) : T Int :=
 .loop (fun (x5 : (Int × Int × Int)) => ⟨[(3, pz x5.1), (4, pz x5.2.1), (7, .pure (encL 1 encI_i64 a0)), (8, pz ((a0.length : Nat) : Int)), (9, pz x5.2.2)], [], [], 0⟩)
 (.exit 0) (fun (y6 : Int) => ⟨[(3, pz y6)], [], [], 0⟩)
 (fun x5 => .br (decide (x5.2.2 < ((a0.length : Nat) : Int)))
 (.grd (0 ≤ x5.2.2 ∧ x5.2.2 < ((a0.length : Nat) : Int)) <|
 .ret (.next ((IntKind.i64.wrap (x5.1 + (IntKind.i64.wrap (x5.2.1 * (a0.getD ((x5.2.2).toNat) default))))), (IntKind.i64.wrap (0 - x5.2.1)), (IntKind.i64.wrap (x5.2.2 + 1)))))
 (.ret (.out x5.1)))
 (0, 1, 0) [] fun y6 =>
 .ret y6
noncomputable def angle_alternating_C (a0 : (List Int)) : CallS Int :=
  mkC [] hd Tryz.func356 (by kernel_rfl) (angle_alternating_T a0) 0 [.pure (encL 1 encI_i64 a0)] [] (fun r => pz r) (fun _ => []) (by kernel_rfl)
noncomputable def angle_enclosure_T (a0 : Int) (a1 : Int) : T S_Interval :=
 .call (fixed_ShiftDown_C a0 14) [] fun y1 =>
 .call (fixed_ShiftUp_C a1 14) [] fun y2 =>
 .ret (⟨(max 0 y1), (min 65536 y2)⟩ : S_Interval)
noncomputable def angle_enclosure_C (a0 : Int) (a1 : Int) : CallS S_Interval :=
  mkC [] hd Tryz.func358 (by kernel_rfl) (angle_enclosure_T a0 a1) 0 [pz a0, pz a1] [] (fun r => .pure (enc_Interval r)) (fun _ => []) (by kernel_rfl)
noncomputable def angle_sine_T (a0 : Int) : T S_Interval :=
 .call (angle_powersOf_C a0) [] fun y2 =>
 .ix 1 11 rfl <|
 .ix 3 11 rfl <|
 .call (angle_ceiling_C y2.2.2.2.2.1 6) [] fun y6 =>
 .ix 5 11 rfl <|
 .ok ((120 : Int) ≠ 0) (by decide) <|
 .ix 7 11 rfl <|
 .call (angle_ceiling_C y2.2.2.2.2.2.2.2.2.1 5040) [] fun y7 =>
 .conv 2011 (cvLit 1 encI_i64 ([y2.1.2.1, y6, (IntKind.i64.wrap (y2.1.2.2.2.2.2.1.tdiv 120)), y7] : (List Int)) 2) <|
 .call (angle_alternating_C ([y2.1.2.1, y6, (IntKind.i64.wrap (y2.1.2.2.2.2.2.1.tdiv 120)), y7] : (List Int))) [] fun y8 =>
 .ix 1 11 rfl <|
 .ix 3 11 rfl <|
 .ok ((6 : Int) ≠ 0) (by decide) <|
 .ix 5 11 rfl <|
 .call (angle_ceiling_C y2.2.2.2.2.2.2.1 120) [] fun y12 =>
 .ix 7 11 rfl <|
 .ok ((5040 : Int) ≠ 0) (by decide) <|
 .ix 9 11 rfl <|
 .call (angle_ceiling_C y2.2.2.2.2.2.2.2.2.2.2.1 362880) [] fun y13 =>
 .conv 3014 (cvLit 1 encI_i64 ([y2.2.2.1, (IntKind.i64.wrap (y2.1.2.2.2.1.tdiv 6)), y12, (IntKind.i64.wrap (y2.1.2.2.2.2.2.2.2.1.tdiv 5040)), y13] : (List Int)) 2) <|
 .call (angle_alternating_C ([y2.2.2.1, (IntKind.i64.wrap (y2.1.2.2.2.1.tdiv 6)), y12, (IntKind.i64.wrap (y2.1.2.2.2.2.2.2.2.1.tdiv 5040)), y13] : (List Int))) [] fun y14 =>
 .call (angle_enclosure_C y8 y14) [] fun y15 =>
 .ret y15
noncomputable def angle_sine_C (a0 : Int) : CallS S_Interval :=
  mkC [] hd Tryz.func349 (by kernel_rfl) (angle_sine_T a0) 0 [pz a0] [] (fun r => .pure (enc_Interval r)) (fun _ => []) (by kernel_rfl)
noncomputable def angle_cosine_T (a0 : Int) : T S_Interval :=
 .call (angle_powersOf_C a0) [] fun y2 =>
 .ix 2 11 rfl <|
 .call (angle_ceiling_C y2.2.2.2.1 2) [] fun y7 =>
 .ix 4 11 rfl <|
 .ok ((24 : Int) ≠ 0) (by decide) <|
 .ix 6 11 rfl <|
 .call (angle_ceiling_C y2.2.2.2.2.2.2.2.1 720) [] fun y8 =>
 .ix 8 11 rfl <|
 .ok ((40320 : Int) ≠ 0) (by decide) <|
 .ix 10 11 rfl <|
 .call (angle_ceiling_C y2.2.2.2.2.2.2.2.2.2.2.2 3628800) [] fun y9 =>
 .conv 2015 (cvLit 1 encI_i64 ([1073741824, y7, (IntKind.i64.wrap (y2.1.2.2.2.2.1.tdiv 24)), y8, (IntKind.i64.wrap (y2.1.2.2.2.2.2.2.2.2.1.tdiv 40320)), y9] : (List Int)) 2) <|
 .call (angle_alternating_C ([1073741824, y7, (IntKind.i64.wrap (y2.1.2.2.2.2.1.tdiv 24)), y8, (IntKind.i64.wrap (y2.1.2.2.2.2.2.2.2.2.1.tdiv 40320)), y9] : (List Int))) [] fun y10 =>
 .ix 2 11 rfl <|
 .ok ((2 : Int) ≠ 0) (by decide) <|
 .ix 4 11 rfl <|
 .call (angle_ceiling_C y2.2.2.2.2.2.1 24) [] fun y14 =>
 .ix 6 11 rfl <|
 .ok ((720 : Int) ≠ 0) (by decide) <|
 .ix 8 11 rfl <|
 .call (angle_ceiling_C y2.2.2.2.2.2.2.2.2.2.1 40320) [] fun y15 =>
 .conv 3012 (cvLit 1 encI_i64 ([1073741824, (IntKind.i64.wrap (y2.1.2.2.1.tdiv 2)), y14, (IntKind.i64.wrap (y2.1.2.2.2.2.2.2.1.tdiv 720)), y15] : (List Int)) 2) <|
 .call (angle_alternating_C ([1073741824, (IntKind.i64.wrap (y2.1.2.2.1.tdiv 2)), y14, (IntKind.i64.wrap (y2.1.2.2.2.2.2.2.1.tdiv 720)), y15] : (List Int))) [] fun y16 =>
 .call (angle_enclosure_C y10 y16) [] fun y17 =>
 .ret y17
noncomputable def angle_cosine_C (a0 : Int) : CallS S_Interval :=
  mkC [] hd Tryz.func350 (by kernel_rfl) (angle_cosine_T a0) 0 [pz a0] [] (fun r => .pure (enc_Interval r)) (fun _ => []) (by kernel_rfl)
noncomputable def angle_first_T (a0 : Int) : T S_Interval :=
 .br (decide (a0 ≤ 8192))
 (.call (angle_sine_C a0) [] fun y2 =>
 .ret y2)
 (.call (angle_cosine_C (IntKind.i64.wrap (16384 - a0))) [] fun y3 =>
 .ret y3)
noncomputable def angle_first_C (a0 : Int) : CallS S_Interval :=
  mkC [] hd Tryz.func344 (by kernel_rfl) (angle_first_T a0) 0 [pz a0] [] (fun r => .pure (enc_Interval r)) (fun _ => []) (by kernel_rfl)
noncomputable def interval_Neg_T (a0 : S_Interval) : T S_Interval :=
 .call (interval_Valid_C a0) [] fun y4 =>
 .br (!y4)
 (.ret (⟨0, 0⟩ : S_Interval))
 (.ret (⟨(IntKind.i64.wrap (0 - a0.Hi)), (IntKind.i64.wrap (0 - a0.Lo))⟩ : S_Interval))
noncomputable def interval_Neg_C (a0 : S_Interval) : CallS S_Interval :=
  mkC [] hd Tryz.func328 (by kernel_rfl) (interval_Neg_T a0) 0 [.pure (enc_Interval a0)] [] (fun r => .pure (enc_Interval r)) (fun _ => []) (by kernel_rfl)
noncomputable def angle_Sin_T (a0 : Int) : T S_Interval :=
 .call (angle_modTurn_C a0) [] fun y2 =>
 .ok ((16384 : Int) ≠ 0) (by decide) <|
 .ok ((16384 : Int) ≠ 0) (by decide) <|
 .br ((IntKind.i64.wrap (y2.tdiv 16384)) == 0)
 (.call (angle_first_C (y2.tmod 16384)) [] fun y3 =>
 .ret y3)
 (.br ((IntKind.i64.wrap (y2.tdiv 16384)) == 1)
 (.call (angle_first_C (IntKind.i64.wrap (16384 - (y2.tmod 16384)))) [] fun y4 =>
 .ret y4)
 (.br ((IntKind.i64.wrap (y2.tdiv 16384)) == 2)
 (.call (angle_first_C (y2.tmod 16384)) [] fun y5 =>
 .call (interval_Neg_C y5) [] fun y6 =>
 .ret y6)
 (.call (angle_first_C (IntKind.i64.wrap (16384 - (y2.tmod 16384)))) [] fun y7 =>
 .call (interval_Neg_C y7) [] fun y8 =>
 .ret y8)))
noncomputable def angle_Sin_C (a0 : Int) : CallS S_Interval :=
  mkC [] hd Tryz.func335 (by kernel_rfl) (angle_Sin_T a0) 0 [pz a0] [] (fun r => .pure (enc_Interval r)) (fun _ => []) (by kernel_rfl)
noncomputable def angle_Cos_T (a0 : Int) : T S_Interval :=
 .call (angle_modTurn_C a0) [] fun y1 =>
 .call (angle_Sin_C (IntKind.i64.wrap (y1 + 16384))) [] fun y2 =>
 .ret y2
noncomputable def angle_Cos_C (a0 : Int) : CallS S_Interval :=
  mkC [] hd Tryz.func334 (by kernel_rfl) (angle_Cos_T a0) 0 [pz a0] [] (fun r => .pure (enc_Interval r)) (fun _ => []) (by kernel_rfl)
noncomputable def interval_Hull_T (a0 : S_Interval) (a1 : S_Interval) : T S_Interval :=
 .call (interval_valid_C a0 a1) [] fun y4 =>
 .br (!y4)
 (.ret (⟨0, 0⟩ : S_Interval))
 (.ret (⟨(min a0.Lo a1.Lo), (max a0.Hi a1.Hi)⟩ : S_Interval))
noncomputable def interval_Hull_C (a0 : S_Interval) (a1 : S_Interval) : CallS S_Interval :=
  mkC [] hd Tryz.func341 (by kernel_rfl) (interval_Hull_T a0 a1) 0 [.pure (enc_Interval a0), .pure (enc_Interval a1)] [] (fun r => .pure (enc_Interval r)) (fun _ => []) (by kernel_rfl)
noncomputable def interval_Has_T (a0 : S_Interval) (a1 : Int) : T Bool :=
 .call (interval_Valid_C a0) [] fun y1 =>
 .br y1
 (.br (decide (a0.Lo ≤ a1))
 (.ret (decide (a1 ≤ a0.Hi)))
 (.ret false))
 (.ret false)
noncomputable def interval_Has_C (a0 : S_Interval) (a1 : Int) : CallS Bool :=
  mkC [] hd Tryz.func348 (by kernel_rfl) (interval_Has_T a0 a1) 0 [.pure (enc_Interval a0), pz a1] [] (fun r => .pure (.bool r)) (fun _ => []) (by kernel_rfl)
noncomputable def angle_meets_T (a0 : S_Interval) (a1 : Int) : T Bool :=
 .call (angle_modTurn_C (IntKind.i64.wrap (a1 - a0.Lo))) [] fun y1 =>
 .call (interval_Has_C a0 (IntKind.i64.wrap (a0.Lo + y1))) [] fun y2 =>
 .ret y2
noncomputable def angle_meets_C (a0 : S_Interval) (a1 : Int) : CallS Bool :=
  mkC [] hd Tryz.func342 (by kernel_rfl) (angle_meets_T a0 a1) 0 [.pure (enc_Interval a0), pz a1] [] (fun r => .pure (.bool r)) (fun _ => []) (by kernel_rfl)
noncomputable def angle_over_T (a0 : S_Interval) (a1 : Int) (a2 : Int) : T S_Interval :=
 .call (interval_Valid_C a0) [] fun y4 =>
 .br (!y4)
 (.ret (⟨0, 0⟩ : S_Interval))
 (.call (interval_Width_C a0) [] fun y8 =>
 .br (decide (y8 ≥ 65536))
 (.ret (⟨(-65536), 65536⟩ : S_Interval))
 (.call (angle_Cos_C a0.Lo) [] fun y12 =>
 .call (angle_Cos_C a0.Hi) [] fun y13 =>
 .call (interval_Hull_C y12 y13) [] fun y14 =>
 .cut 0 (fun (y23 : (Int × Int)) => ⟨[(3, pz a2), (4, .ptr 0 0), (8, .ptr 1 0), (9, .ptr 2 0)], [(0, .box [pz a0.Lo, pz a0.Hi]), (1, .box [pz 0, pz 0]), (2, .box [pz y23.1, pz y23.2])], [], 3⟩)
 (.call (angle_meets_C a0 a1) [] fun y25 =>
 .br y25
 (.call (interval_Of_C 65536) [] fun y26 =>
 .call (interval_Hull_C y14 y26) [] fun y27 =>
 .ret (.out (y27.Lo, y27.Hi)))
 (.ret (.out (y14.Lo, y14.Hi)))) fun y23 =>
 .cut 0 (fun (y36 : (Int × Int)) => ⟨[(8, .ptr 0 0), (9, .ptr 1 0)], [(0, .box [pz 0, pz 0]), (1, .box [pz y36.1, pz y36.2])], [], 2⟩)
 (.call (angle_meets_C a0 a2) [] fun y38 =>
 .br y38
 (.call (interval_Of_C (-65536)) [] fun y39 =>
 .call (interval_Hull_C (⟨y23.1, y23.2⟩ : S_Interval) y39) [] fun y40 =>
 .ret (.out (y40.Lo, y40.Hi)))
 (.ret (.out (y23.1, y23.2)))) fun y36 =>
 .ret (⟨y36.1, y36.2⟩ : S_Interval)))
noncomputable def angle_over_C (a0 : S_Interval) (a1 : Int) (a2 : Int) : CallS S_Interval :=
  mkC [] hd Tryz.func333 (by kernel_rfl) (angle_over_T a0 a1 a2) 0 [.pure (enc_Interval a0), .func 334 [] [], pz a1, pz a2] [] (fun r => .pure (enc_Interval r)) (fun _ => []) (by kernel_rfl)
noncomputable def angle_CosOver_T (a0 : S_Interval) : T S_Interval :=
 .call (angle_over_C a0 0 32768) [] fun y1 =>
 .ret y1
noncomputable def angle_CosOver_C (a0 : S_Interval) : CallS S_Interval :=
  mkC [] hd Tryz.func326 (by kernel_rfl) (angle_CosOver_T a0) 0 [.pure (enc_Interval a0)] [] (fun r => .pure (enc_Interval r)) (fun _ => []) (by kernel_rfl)
noncomputable def angle_over_1_T (a0 : S_Interval) (a1 : Int) (a2 : Int) : T S_Interval :=
 .call (interval_Valid_C a0) [] fun y4 =>
 .br (!y4)
 (.ret (⟨0, 0⟩ : S_Interval))
 (.call (interval_Width_C a0) [] fun y8 =>
 .br (decide (y8 ≥ 65536))
 (.ret (⟨(-65536), 65536⟩ : S_Interval))
 (.call (angle_Sin_C a0.Lo) [] fun y12 =>
 .call (angle_Sin_C a0.Hi) [] fun y13 =>
 .call (interval_Hull_C y12 y13) [] fun y14 =>
 .cut 0 (fun (y23 : (Int × Int)) => ⟨[(3, pz a2), (4, .ptr 0 0), (8, .ptr 1 0), (9, .ptr 2 0)], [(0, .box [pz a0.Lo, pz a0.Hi]), (1, .box [pz 0, pz 0]), (2, .box [pz y23.1, pz y23.2])], [], 3⟩)
 (.call (angle_meets_C a0 a1) [] fun y25 =>
 .br y25
 (.call (interval_Of_C 65536) [] fun y26 =>
 .call (interval_Hull_C y14 y26) [] fun y27 =>
 .ret (.out (y27.Lo, y27.Hi)))
 (.ret (.out (y14.Lo, y14.Hi)))) fun y23 =>
 .cut 0 (fun (y36 : (Int × Int)) => ⟨[(8, .ptr 0 0), (9, .ptr 1 0)], [(0, .box [pz 0, pz 0]), (1, .box [pz y36.1, pz y36.2])], [], 2⟩)
 (.call (angle_meets_C a0 a2) [] fun y38 =>
 .br y38
 (.call (interval_Of_C (-65536)) [] fun y39 =>
 .call (interval_Hull_C (⟨y23.1, y23.2⟩ : S_Interval) y39) [] fun y40 =>
 .ret (.out (y40.Lo, y40.Hi)))
 (.ret (.out (y23.1, y23.2)))) fun y36 =>
 .ret (⟨y36.1, y36.2⟩ : S_Interval)))
noncomputable def angle_over_1_C (a0 : S_Interval) (a1 : Int) (a2 : Int) : CallS S_Interval :=
  mkC [] hd Tryz.func333 (by kernel_rfl) (angle_over_1_T a0 a1 a2) 0 [.pure (enc_Interval a0), .func 335 [] [], pz a1, pz a2] [] (fun r => .pure (enc_Interval r)) (fun _ => []) (by kernel_rfl)
noncomputable def angle_SinOver_T (a0 : S_Interval) : T S_Interval :=
 .call (angle_over_1_C a0 16384 49152) [] fun y1 =>
 .ret y1
noncomputable def angle_SinOver_C (a0 : S_Interval) : CallS S_Interval :=
  mkC [] hd Tryz.func327 (by kernel_rfl) (angle_SinOver_T a0) 0 [.pure (enc_Interval a0)] [] (fun r => .pure (enc_Interval r)) (fun _ => []) (by kernel_rfl)
noncomputable def matrix_Turn_T (a0 : Int) (a1 : S_Interval) : T ((S_Interval × S_Interval × S_Interval) × (S_Interval × S_Interval × S_Interval) × (S_Interval × S_Interval × S_Interval)) :=
 .call (interval_Valid_C a1) [] fun y4 =>
 .br (!y4)
 (.ret (((⟨0, 0⟩ : S_Interval), (⟨0, 0⟩ : S_Interval), (⟨0, 0⟩ : S_Interval)), ((⟨0, 0⟩ : S_Interval), (⟨0, 0⟩ : S_Interval), (⟨0, 0⟩ : S_Interval)), ((⟨0, 0⟩ : S_Interval), (⟨0, 0⟩ : S_Interval), (⟨0, 0⟩ : S_Interval))))
 (.call (angle_CosOver_C (⟨a1.Lo, a1.Hi⟩ : S_Interval)) [] fun y7 =>
 .call (angle_SinOver_C (⟨a1.Lo, a1.Hi⟩ : S_Interval)) [] fun y8 =>
 .call (interval_Neg_C y8) [] fun y12 =>
 .call (interval_Of_C 65536) [] fun y13 =>
 .call (interval_Of_C 0) [] fun y14 =>
 .br (a0 == 0)
 (.ret ((y13, y14, y14), (y14, y7, y12), (y14, y8, y7)))
 (.br (a0 == 1)
 (.ret ((y7, y14, y8), (y14, y13, y14), (y12, y14, y7)))
 (.br (a0 == 2)
 (.ret ((y7, y12, y14), (y8, y7, y14), (y14, y14, y13)))
 (.ret (((⟨0, 0⟩ : S_Interval), (⟨0, 0⟩ : S_Interval), (⟨0, 0⟩ : S_Interval)), ((⟨0, 0⟩ : S_Interval), (⟨0, 0⟩ : S_Interval), (⟨0, 0⟩ : S_Interval)), ((⟨0, 0⟩ : S_Interval), (⟨0, 0⟩ : S_Interval), (⟨0, 0⟩ : S_Interval)))))))
noncomputable def matrix_Turn_C (a0 : Int) (a1 : S_Interval) : CallS ((S_Interval × S_Interval × S_Interval) × (S_Interval × S_Interval × S_Interval) × (S_Interval × S_Interval × S_Interval)) :=
  mkC [] hd Tryz.func317 (by kernel_rfl) (matrix_Turn_T a0 a1) 0 [pz a0, .pure (enc_Interval a1)] [] (fun r => .pure (enc_arr_3_3_Interval r)) (fun _ => []) (by kernel_rfl)
noncomputable def pose_Turn_T (a0 : Int) (a1 : S_Interval) : T S_Pose :=
 .call (matrix_Turn_C a0 (⟨a1.Lo, a1.Hi⟩ : S_Interval)) [] fun y1 =>
 .call (pose_still_C) [] fun y2 =>
 .ret (⟨y1, y2⟩ : S_Pose)
noncomputable def pose_Turn_C (a0 : Int) (a1 : S_Interval) : CallS S_Pose :=
  mkC [] hd Tryz.func299 (by kernel_rfl) (pose_Turn_T a0 a1) 0 [pz a0, .pure (enc_Interval a1)] [] (fun r => .pure (enc_Pose r)) (fun _ => []) (by kernel_rfl)
noncomputable def axis_turn_T (a0 : Int) (a1 : S_Interval) : T S_Pose :=
 .call (pose_Turn_C a0 (⟨a1.Lo, a1.Hi⟩ : S_Interval)) [] fun y1 =>
 .ret y1
noncomputable def axis_turn_C (a0 : Int) (a1 : S_Interval) : CallS S_Pose :=
  mkC [] hd Tryz.func269 (by kernel_rfl) (axis_turn_T a0 a1) 0 [pz a0, .pure (enc_Interval a1)] [] (fun r => .pure (enc_Pose r)) (fun _ => []) (by kernel_rfl)
noncomputable def kinematics_Joint_T (a0 : S_Joint) (a1 : S_Interval) : T S_Pose :=
 .call (matrix_Point_C a0.Offset) [] fun y1 =>
 .call (pose_Shift_C ((⟨y1.1.Lo, y1.1.Hi⟩ : S_Interval), (⟨y1.2.1.Lo, y1.2.1.Hi⟩ : S_Interval), (⟨y1.2.2.Lo, y1.2.2.Hi⟩ : S_Interval))) [] fun y2 =>
 .split (((kinematics_motionOf_v0_C a0.Kind).o).isSome)
 (.call (kinematics_motionOf_v0_C a0.Kind) [] fun y9 =>
 .call (axis_turn_C y9 (⟨a1.Lo, a1.Hi⟩ : S_Interval)) [] fun y10 =>
 .call (pose_Compose_C (⟨y2.R, y2.T⟩ : S_Pose) y10) [] fun y11 =>
 .ret y11)
 (.split (((kinematics_motionOf_v1_C a0.Kind).o).isSome)
 (.call (kinematics_motionOf_v1_C a0.Kind) [] fun y6 =>
 .call (axis_slide_C y6 a1) [] fun y7 =>
 .call (pose_Compose_C y2 y7) [] fun y8 =>
 .ret y8)
 (.call (kinematics_motionOf_v2_C a0.Kind) [] fun y3 =>
 .call (axis_rest_C y3 a1) [] fun y4 =>
 .call (pose_Compose_C (⟨y2.R, y2.T⟩ : S_Pose) (⟨y4.R, y4.T⟩ : S_Pose)) [] fun y5 =>
 .ret y5))
noncomputable def kinematics_Joint_C (a0 : S_Joint) (a1 : S_Interval) : CallS S_Pose :=
  mkC [] hd Tryz.func216 (by kernel_rfl) (kinematics_Joint_T a0 a1) 0 [.pure (enc_Joint a0), .pure (enc_Interval a1)] [] (fun r => .pure (enc_Pose r)) (fun _ => []) (by kernel_rfl)
noncomputable def kinematics_links_T (a0 : S_Robot) (a1 : (List S_Interval)) : T (List S_Pose) :=
 .conv 1003 (cvRep 24 enc_Pose 239 (((a0.Joints.length : Nat) : Int)).toNat (⟨(((⟨0, 0⟩ : S_Interval), (⟨0, 0⟩ : S_Interval), (⟨0, 0⟩ : S_Interval)), ((⟨0, 0⟩ : S_Interval), (⟨0, 0⟩ : S_Interval), (⟨0, 0⟩ : S_Interval)), ((⟨0, 0⟩ : S_Interval), (⟨0, 0⟩ : S_Interval), (⟨0, 0⟩ : S_Interval))), ((⟨0, 0⟩ : S_Interval), (⟨0, 0⟩ : S_Interval), (⟨0, 0⟩ : S_Interval))⟩ : S_Pose)) <|
 .grd (0 ≤ ((a0.Joints.length : Nat) : Int) ∧ ((a0.Joints.length : Nat) : Int) ≤ ((a0.Joints.length : Nat) : Int) ∧ ((a0.Joints.length : Nat) : Int) ≤ 9223372036854775807 ∧ ((a0.Joints.length : Nat) : Int) * 192 ≤ 140737488355328) <|
 .loop (fun (x45 : ((List S_Pose) × Int)) => ⟨[(1, .pure (encL 2 enc_Interval a1)), (5, .vec 0), (13, .pure (encL 12 enc_Joint a0.Joints)), (14, pz ((a0.Joints.length : Nat) : Int)), (15, pz x45.2)], [(0, vecO 24 enc_Pose x45.1 239)], [], 1⟩)
 (.exit 0) (fun (y56 : (List S_Pose)) => ⟨[(5, .vec 0)], [(0, vecO 24 enc_Pose y56 239)], [], 1⟩)
 (fun x45 => .br (decide (x45.2 < ((a0.Joints.length : Nat) : Int)))
 (.cut 0 (fun (y63 : (List S_Pose)) => ⟨[(1, .pure (encL 2 enc_Interval a1)), (5, .vec 0), (13, .pure (encL 12 enc_Joint a0.Joints)), (14, pz ((a0.Joints.length : Nat) : Int)), (15, pz x45.2)], [(0, vecO 24 enc_Pose y63 239)], [], 1⟩)
 (.grd (0 ≤ x45.2 ∧ x45.2 < ((a0.Joints.length : Nat) : Int)) <|
 .grd (0 ≤ x45.2 ∧ x45.2 < ((a1.length : Nat) : Int)) <|
 .call (kinematics_Joint_C (a0.Joints.getD ((x45.2).toNat) default) (a1.getD ((x45.2).toNat) default)) [] fun y65 =>
 .grd (0 ≤ x45.2 ∧ x45.2 < ((x45.1.length : Nat) : Int)) <|
 .conv 5009 (cvSet 24 enc_Pose x45.1 239 ((x45.2).toNat) y65) <|
 .grd ((x45.2).toNat < x45.1.length ∧ 0 ≤ (x45.2).toNat) <|
 .br (((a0.Joints.getD ((x45.2).toNat) default).Parent) != (-1))
 (.grd (0 ≤ ((a0.Joints.getD ((x45.2).toNat) default).Parent) ∧ ((a0.Joints.getD ((x45.2).toNat) default).Parent) < (((x45.1.set ((x45.2).toNat) y65).length : Nat) : Int)) <|
 .grd (((a0.Joints.getD ((x45.2).toNat) default).Parent).toNat < (x45.1.set ((x45.2).toNat) y65).length) <|
 .grd (0 ≤ x45.2 ∧ x45.2 < (((x45.1.set ((x45.2).toNat) y65).length : Nat) : Int)) <|
 .grd ((x45.2).toNat < (x45.1.set ((x45.2).toNat) y65).length) <|
 .call (pose_Compose_C ((x45.1.set ((x45.2).toNat) y65).getD (((a0.Joints.getD ((x45.2).toNat) default).Parent).toNat) default) ((x45.1.set ((x45.2).toNat) y65).getD ((x45.2).toNat) default)) [] fun y66 =>
 .grd (0 ≤ x45.2 ∧ x45.2 < (((x45.1.set ((x45.2).toNat) y65).length : Nat) : Int)) <|
 .conv 7013 (cvSet 24 enc_Pose (x45.1.set ((x45.2).toNat) y65) 239 ((x45.2).toNat) y66) <|
 .grd ((x45.2).toNat < (x45.1.set ((x45.2).toNat) y65).length ∧ 0 ≤ (x45.2).toNat) <|
 .ret (.out ((x45.1.set ((x45.2).toNat) y65).set ((x45.2).toNat) y66)))
 (.ret (.out (x45.1.set ((x45.2).toNat) y65)))) fun y63 =>
 .ret (.next (y63, (IntKind.i64.wrap (x45.2 + 1)))))
 (.ret (.out x45.1)))
 ((List.replicate (((a0.Joints.length : Nat) : Int)).toNat ((⟨(((⟨0, 0⟩ : S_Interval), (⟨0, 0⟩ : S_Interval), (⟨0, 0⟩ : S_Interval)), ((⟨0, 0⟩ : S_Interval), (⟨0, 0⟩ : S_Interval), (⟨0, 0⟩ : S_Interval)), ((⟨0, 0⟩ : S_Interval), (⟨0, 0⟩ : S_Interval), (⟨0, 0⟩ : S_Interval))), ((⟨0, 0⟩ : S_Interval), (⟨0, 0⟩ : S_Interval), (⟨0, 0⟩ : S_Interval))⟩ : S_Pose) : S_Pose)), 0) [] fun y56 =>
 .ret y56
noncomputable def kinematics_links_C (a0 : S_Robot) (a1 : (List S_Interval)) : CallS (List S_Pose) :=
  mkC [] hd Tryz.func169 (by kernel_rfl) (kinematics_links_T a0 a1) 0 [.pure (enc_Robot a0), .pure (encL 2 enc_Interval a1)] [] (fun r => .pure (encL 24 enc_Pose r)) (fun _ => []) (by kernel_rfl)
noncomputable def shape_Check_T (a0 : S_Shape) : T Bool :=
 .cut 2 (fun (y258 : Bool) => ⟨[(1, .ptr 0 0), (26, .pure (.bool y258))], [(0, .box [pz a0.Link, pz a0.Radius, .pure (encL 3 enc_arr_3_int64 a0.Points)])], [], 1⟩)
 (.br (decide (a0.Radius < 1))
 (.ret (.out true))
 (.br (decide (a0.Radius > 1048576))
 (.ret (.out true))
 (.br (decide (((a0.Points.length : Nat) : Int) < 1))
 (.ret (.out true))
 (.ret (.out (decide (((a0.Points.length : Nat) : Int) > 8))))))) fun y258 =>
 .br y258
 (.ret false)
 (.loop (fun (x431 : Int) => ⟨[(28, .pure (encL 3 enc_arr_3_int64 a0.Points)), (29, pz ((a0.Points.length : Nat) : Int)), (30, pz x431)], [], [], 0⟩)
 (.exit 0) (fun (_ : U0) => ⟨[], [], [], 0⟩)
 (fun x431 => .br (decide (x431 < ((a0.Points.length : Nat) : Int)))
 (.grd (0 ≤ x431 ∧ x431 < ((a0.Points.length : Nat) : Int)) <|
 .loop (fun (x503 : Int) => ⟨[(28, .pure (encL 3 enc_arr_3_int64 a0.Points)), (29, pz ((a0.Points.length : Nat) : Int)), (30, pz x431), (34, .pure (enc_arr_3_int64 (a0.Points.getD ((x431).toNat) default))), (35, pz x503)], [], [], 0⟩)
 (.exit 2) (fun (_ : U0) => ⟨[(28, .pure (encL 3 enc_arr_3_int64 a0.Points)), (29, pz ((a0.Points.length : Nat) : Int)), (30, pz x431)], [], [], 0⟩)
 (fun x503 => .br (decide (x503 < 3))
 (.grd (0 ≤ x503 ∧ x503 < ((3 : Nat) : Int)) <|
 .name 8000 ((([(a0.Points.getD ((x431).toNat) default).1, (a0.Points.getD ((x431).toNat) default).2.1, (a0.Points.getD ((x431).toNat) default).2.2] : List Int).getD (x503).toNat 0)) fun z515 =>
 .cut 0 (fun (y516 : Bool) => ⟨[(28, .pure (encL 3 enc_arr_3_int64 a0.Points)), (29, pz ((a0.Points.length : Nat) : Int)), (30, pz x431), (34, .pure (enc_arr_3_int64 (a0.Points.getD ((x431).toNat) default))), (35, pz x503), (43, .pure (.bool y516))], [], [], 0⟩)
 (.br (decide (z515 < (-4194304)))
 (.ret (.out true))
 (.ret (.out (decide (z515 > 4194304))))) fun y516 =>
 .br y516
 (.ret (.fin (.fin false)))
 (.ret (.next (IntKind.i64.wrap (x503 + 1)))))
 (.ret (.out .u)))
 0 [] fun _ =>
 .ret (.next (IntKind.i64.wrap (x431 + 1))))
 (.ret (.out .u)))
 0 [] fun _ =>
 .ret true)
noncomputable def shape_Check_C (a0 : S_Shape) : CallS Bool :=
  mkC [] hd Tryz.func220 (by kernel_rfl) (shape_Check_T a0) 0 [.pure (enc_Shape a0)] [] (fun r => .pure (.bool r)) (fun _ => []) (by kernel_rfl)
noncomputable def pose_Apply_T (a0 : S_Pose) (a1 : (S_Interval × S_Interval × S_Interval)) : T (S_Interval × S_Interval × S_Interval) :=
 .call (pose_mover_C a0) [] fun y1 =>
 .call (pose_mover_1_C a1 y1.1 y1.2.1 y1.2.2.1 y1.2.2.2.1 y1.2.2.2.2.1 y1.2.2.2.2.2.1 y1.2.2.2.2.2.2.1 y1.2.2.2.2.2.2.2.1 y1.2.2.2.2.2.2.2.2.1 y1.2.2.2.2.2.2.2.2.2.1 y1.2.2.2.2.2.2.2.2.2.2.1 y1.2.2.2.2.2.2.2.2.2.2.2.1 y1.2.2.2.2.2.2.2.2.2.2.2.2.1 y1.2.2.2.2.2.2.2.2.2.2.2.2.2.1 y1.2.2.2.2.2.2.2.2.2.2.2.2.2.2.1 y1.2.2.2.2.2.2.2.2.2.2.2.2.2.2.2.1 y1.2.2.2.2.2.2.2.2.2.2.2.2.2.2.2.2.1 y1.2.2.2.2.2.2.2.2.2.2.2.2.2.2.2.2.2.1 y1.2.2.2.2.2.2.2.2.2.2.2.2.2.2.2.2.2.2.1 y1.2.2.2.2.2.2.2.2.2.2.2.2.2.2.2.2.2.2.2.1 y1.2.2.2.2.2.2.2.2.2.2.2.2.2.2.2.2.2.2.2.2.1 y1.2.2.2.2.2.2.2.2.2.2.2.2.2.2.2.2.2.2.2.2.2.1 y1.2.2.2.2.2.2.2.2.2.2.2.2.2.2.2.2.2.2.2.2.2.2.1 y1.2.2.2.2.2.2.2.2.2.2.2.2.2.2.2.2.2.2.2.2.2.2.2) [(0, 256)] fun y2 =>
 .ret y2.1
noncomputable def pose_Apply_C (a0 : S_Pose) (a1 : (S_Interval × S_Interval × S_Interval)) : CallS (S_Interval × S_Interval × S_Interval) :=
  mkC [] hd Tryz.func221 (by kernel_rfl) (pose_Apply_T a0 a1) 0 [.pure (enc_Pose a0), .pure (enc_arr_3_Interval a1)] [] (fun r => .pure (enc_arr_3_Interval r)) (fun _ => []) (by kernel_rfl)
noncomputable def shape_Place_T (a0 : S_Shape) (a1 : S_Pose) : T (List (S_Interval × S_Interval × S_Interval)) :=
 .call (shape_Check_C a0) [] fun y4 =>
 .br (!y4)
 (.ret nl)
 (.conv 3003 (cvRep 6 enc_arr_3_Interval 209 (((a0.Points.length : Nat) : Int)).toNat ((⟨0, 0⟩ : S_Interval), (⟨0, 0⟩ : S_Interval), (⟨0, 0⟩ : S_Interval))) <|
 .grd (0 ≤ ((a0.Points.length : Nat) : Int) ∧ ((a0.Points.length : Nat) : Int) ≤ ((a0.Points.length : Nat) : Int) ∧ ((a0.Points.length : Nat) : Int) ≤ 9223372036854775807 ∧ ((a0.Points.length : Nat) : Int) * 48 ≤ 140737488355328) <|
 .loop (fun (x25 : ((List (S_Interval × S_Interval × S_Interval)) × Int)) => ⟨[(3, .ptr 0 0), (5, .vec 1), (16, .pure (encL 3 enc_arr_3_int64 a0.Points)), (17, pz ((a0.Points.length : Nat) : Int)), (18, pz x25.2)], [(0, .box [pz a1.R.1.1.Lo, pz a1.R.1.1.Hi, pz a1.R.1.2.1.Lo, pz a1.R.1.2.1.Hi, pz a1.R.1.2.2.Lo, pz a1.R.1.2.2.Hi, pz a1.R.2.1.1.Lo, pz a1.R.2.1.1.Hi, pz a1.R.2.1.2.1.Lo, pz a1.R.2.1.2.1.Hi, pz a1.R.2.1.2.2.Lo, pz a1.R.2.1.2.2.Hi, pz a1.R.2.2.1.Lo, pz a1.R.2.2.1.Hi, pz a1.R.2.2.2.1.Lo, pz a1.R.2.2.2.1.Hi, pz a1.R.2.2.2.2.Lo, pz a1.R.2.2.2.2.Hi, pz a1.T.1.Lo, pz a1.T.1.Hi, pz a1.T.2.1.Lo, pz a1.T.2.1.Hi, pz a1.T.2.2.Lo, pz a1.T.2.2.Hi]), (1, vecO 6 enc_arr_3_Interval x25.1 209)], [], 2⟩)
 (.exit 0) (fun (y30 : (List (S_Interval × S_Interval × S_Interval))) => ⟨[(5, .vec 0)], [(0, vecO 6 enc_arr_3_Interval y30 209)], [], 1⟩)
 (fun x25 => .br (decide (x25.2 < ((a0.Points.length : Nat) : Int)))
 (.grd (0 ≤ x25.2 ∧ x25.2 < ((a0.Points.length : Nat) : Int)) <|
 .call (matrix_Point_C (a0.Points.getD ((x25.2).toNat) default)) [] fun y33 =>
 .call (pose_Apply_C (⟨a1.R, a1.T⟩ : S_Pose) y33) [] fun y34 =>
 .grd (0 ≤ x25.2 ∧ x25.2 < ((x25.1.length : Nat) : Int)) <|
 .conv 7007 (cvSet 6 enc_arr_3_Interval x25.1 209 ((x25.2).toNat) y34) <|
 .grd ((x25.2).toNat < x25.1.length ∧ 0 ≤ (x25.2).toNat) <|
 .ret (.next ((x25.1.set ((x25.2).toNat) y34), (IntKind.i64.wrap (x25.2 + 1)))))
 (.ret (.out x25.1)))
 ((List.replicate (((a0.Points.length : Nat) : Int)).toNat (((⟨0, 0⟩ : S_Interval), (⟨0, 0⟩ : S_Interval), (⟨0, 0⟩ : S_Interval)) : (S_Interval × S_Interval × S_Interval))), 0) [] fun y30 =>
 .ret y30)
noncomputable def shape_Place_C (a0 : S_Shape) (a1 : S_Pose) : CallS (List (S_Interval × S_Interval × S_Interval)) :=
  mkC [] hd Tryz.func171 (by kernel_rfl) (shape_Place_T a0 a1) 0 [.pure (enc_Shape a0), .pure (enc_Pose a1)] [] (fun r => .pure (encL 6 enc_arr_3_Interval r)) (fun _ => []) (by kernel_rfl)
set_option maxHeartbeats 8000000 in
set_option maxRecDepth 20000 in
noncomputable def kinematics_Points_T (a0 : S_Scene) (a1 : (List S_Interval)) : T (List (List (S_Interval × S_Interval × S_Interval))) :=
 .cut 2 (fun (y12 : Bool) => ⟨[(1, .pure (encL 2 enc_Interval a1)), (2, .ptr 0 0), (19, .pure (.bool y12))], [(0, .box [.pure (encL 12 enc_Joint a0.Robot.Joints), .pure (encL 5 enc_Mass a0.Robot.Masses), .pure (encL 3 enc_Shape a0.Shapes), .pure (encL 2 enc_Skip a0.Skips)])], [], 1⟩)
 (.call (kinematics_isBox_C a0.Robot a1) [] fun y13 =>
 .br (!y13)
 (.ret (.out true))
 (.call (scene_Check_C (⟨a0.Robot, a0.Shapes, a0.Skips⟩ : S_Scene)) [] fun y14 =>
 .ret (.out (y14 != 0)))) fun y12 =>
 .br y12
 (.ret nl)
 (.call (kinematics_links_C a0.Robot a1) [] fun y16 =>
 .conv 4003 (cvRepP 1 (encL 6 enc_arr_3_Interval) 131 (((a0.Shapes.length : Nat) : Int)).toNat nl (.lst 0 0 fun _ => .unk) (by kernel_rfl)) <|
 .grd (0 ≤ ((a0.Shapes.length : Nat) : Int) ∧ ((a0.Shapes.length : Nat) : Int) ≤ ((a0.Shapes.length : Nat) : Int) ∧ ((a0.Shapes.length : Nat) : Int) ≤ 9223372036854775807 ∧ ((a0.Shapes.length : Nat) : Int) * 24 ≤ 140737488355328) <|
 .loop (fun (x53 : ((List (List (S_Interval × S_Interval × S_Interval))) × Int)) => ⟨[(5, .pure (encL 24 enc_Pose y16)), (6, .vec 0), (29, .pure (encL 3 enc_Shape a0.Shapes)), (30, pz ((a0.Shapes.length : Nat) : Int)), (31, pz x53.2)], [(0, vecO 1 (encL 6 enc_arr_3_Interval) x53.1 131)], [], 1⟩)
 (.exit 0) (fun (y62 : (List (List (S_Interval × S_Interval × S_Interval)))) => ⟨[(6, .vec 0)], [(0, vecO 1 (encL 6 enc_arr_3_Interval) y62 131)], [], 1⟩)
 (fun x53 => .br (decide (x53.2 < ((a0.Shapes.length : Nat) : Int)))
 (.grd (0 ≤ x53.2 ∧ x53.2 < ((a0.Shapes.length : Nat) : Int)) <|
 .call (pose_Identity_C) [] fun y68 =>
 .cut 0 (fun (y69 : (Int × Int × Int × Int × Int × Int × Int × Int × Int × Int × Int × Int × Int × Int × Int × Int × Int × Int × Int × Int × Int × Int × Int × Int)) => ⟨[(5, .pure (encL 24 enc_Pose y16)), (6, .vec 0), (7, pz x53.2), (8, .ptr 1 0), (9, .ptr 2 0), (29, .pure (encL 3 enc_Shape a0.Shapes)), (30, pz ((a0.Shapes.length : Nat) : Int)), (31, pz x53.2)], [(0, vecO 1 (encL 6 enc_arr_3_Interval) x53.1 131), (1, .box [pz ((a0.Shapes.getD ((x53.2).toNat) default).Link), pz ((a0.Shapes.getD ((x53.2).toNat) default).Radius), .pure (encL 3 enc_arr_3_int64 ((a0.Shapes.getD ((x53.2).toNat) default).Points))]), (2, .box [pz y69.1, pz y69.2.1, pz y69.2.2.1, pz y69.2.2.2.1, pz y69.2.2.2.2.1, pz y69.2.2.2.2.2.1, pz y69.2.2.2.2.2.2.1, pz y69.2.2.2.2.2.2.2.1, pz y69.2.2.2.2.2.2.2.2.1, pz y69.2.2.2.2.2.2.2.2.2.1, pz y69.2.2.2.2.2.2.2.2.2.2.1, pz y69.2.2.2.2.2.2.2.2.2.2.2.1, pz y69.2.2.2.2.2.2.2.2.2.2.2.2.1, pz y69.2.2.2.2.2.2.2.2.2.2.2.2.2.1, pz y69.2.2.2.2.2.2.2.2.2.2.2.2.2.2.1, pz y69.2.2.2.2.2.2.2.2.2.2.2.2.2.2.2.1, pz y69.2.2.2.2.2.2.2.2.2.2.2.2.2.2.2.2.1, pz y69.2.2.2.2.2.2.2.2.2.2.2.2.2.2.2.2.2.1, pz y69.2.2.2.2.2.2.2.2.2.2.2.2.2.2.2.2.2.2.1, pz y69.2.2.2.2.2.2.2.2.2.2.2.2.2.2.2.2.2.2.2.1, pz y69.2.2.2.2.2.2.2.2.2.2.2.2.2.2.2.2.2.2.2.2.1, pz y69.2.2.2.2.2.2.2.2.2.2.2.2.2.2.2.2.2.2.2.2.2.1, pz y69.2.2.2.2.2.2.2.2.2.2.2.2.2.2.2.2.2.2.2.2.2.2.1, pz y69.2.2.2.2.2.2.2.2.2.2.2.2.2.2.2.2.2.2.2.2.2.2.2])], [], 3⟩)
 (.br (((a0.Shapes.getD ((x53.2).toNat) default).Link) != (-1))
 (.grd (0 ≤ ((a0.Shapes.getD ((x53.2).toNat) default).Link) ∧ ((a0.Shapes.getD ((x53.2).toNat) default).Link) < ((y16.length : Nat) : Int)) <|
 .ret (.out ((y16.getD (((a0.Shapes.getD ((x53.2).toNat) default).Link).toNat) default).R.1.1.Lo, (y16.getD (((a0.Shapes.getD ((x53.2).toNat) default).Link).toNat) default).R.1.1.Hi, (y16.getD (((a0.Shapes.getD ((x53.2).toNat) default).Link).toNat) default).R.1.2.1.Lo, (y16.getD (((a0.Shapes.getD ((x53.2).toNat) default).Link).toNat) default).R.1.2.1.Hi, (y16.getD (((a0.Shapes.getD ((x53.2).toNat) default).Link).toNat) default).R.1.2.2.Lo, (y16.getD (((a0.Shapes.getD ((x53.2).toNat) default).Link).toNat) default).R.1.2.2.Hi, (y16.getD (((a0.Shapes.getD ((x53.2).toNat) default).Link).toNat) default).R.2.1.1.Lo, (y16.getD (((a0.Shapes.getD ((x53.2).toNat) default).Link).toNat) default).R.2.1.1.Hi, (y16.getD (((a0.Shapes.getD ((x53.2).toNat) default).Link).toNat) default).R.2.1.2.1.Lo, (y16.getD (((a0.Shapes.getD ((x53.2).toNat) default).Link).toNat) default).R.2.1.2.1.Hi, (y16.getD (((a0.Shapes.getD ((x53.2).toNat) default).Link).toNat) default).R.2.1.2.2.Lo, (y16.getD (((a0.Shapes.getD ((x53.2).toNat) default).Link).toNat) default).R.2.1.2.2.Hi, (y16.getD (((a0.Shapes.getD ((x53.2).toNat) default).Link).toNat) default).R.2.2.1.Lo, (y16.getD (((a0.Shapes.getD ((x53.2).toNat) default).Link).toNat) default).R.2.2.1.Hi, (y16.getD (((a0.Shapes.getD ((x53.2).toNat) default).Link).toNat) default).R.2.2.2.1.Lo, (y16.getD (((a0.Shapes.getD ((x53.2).toNat) default).Link).toNat) default).R.2.2.2.1.Hi, (y16.getD (((a0.Shapes.getD ((x53.2).toNat) default).Link).toNat) default).R.2.2.2.2.Lo, (y16.getD (((a0.Shapes.getD ((x53.2).toNat) default).Link).toNat) default).R.2.2.2.2.Hi, (y16.getD (((a0.Shapes.getD ((x53.2).toNat) default).Link).toNat) default).T.1.Lo, (y16.getD (((a0.Shapes.getD ((x53.2).toNat) default).Link).toNat) default).T.1.Hi, (y16.getD (((a0.Shapes.getD ((x53.2).toNat) default).Link).toNat) default).T.2.1.Lo, (y16.getD (((a0.Shapes.getD ((x53.2).toNat) default).Link).toNat) default).T.2.1.Hi, (y16.getD (((a0.Shapes.getD ((x53.2).toNat) default).Link).toNat) default).T.2.2.Lo, (y16.getD (((a0.Shapes.getD ((x53.2).toNat) default).Link).toNat) default).T.2.2.Hi)))
 (.ret (.out (y68.R.1.1.Lo, y68.R.1.1.Hi, y68.R.1.2.1.Lo, y68.R.1.2.1.Hi, y68.R.1.2.2.Lo, y68.R.1.2.2.Hi, y68.R.2.1.1.Lo, y68.R.2.1.1.Hi, y68.R.2.1.2.1.Lo, y68.R.2.1.2.1.Hi, y68.R.2.1.2.2.Lo, y68.R.2.1.2.2.Hi, y68.R.2.2.1.Lo, y68.R.2.2.1.Hi, y68.R.2.2.2.1.Lo, y68.R.2.2.2.1.Hi, y68.R.2.2.2.2.Lo, y68.R.2.2.2.2.Hi, y68.T.1.Lo, y68.T.1.Hi, y68.T.2.1.Lo, y68.T.2.1.Hi, y68.T.2.2.Lo, y68.T.2.2.Hi)))) fun y69 =>
 .call (shape_Place_C (a0.Shapes.getD ((x53.2).toNat) default) (⟨(((⟨y69.1, y69.2.1⟩ : S_Interval), (⟨y69.2.2.1, y69.2.2.2.1⟩ : S_Interval), (⟨y69.2.2.2.2.1, y69.2.2.2.2.2.1⟩ : S_Interval)), ((⟨y69.2.2.2.2.2.2.1, y69.2.2.2.2.2.2.2.1⟩ : S_Interval), (⟨y69.2.2.2.2.2.2.2.2.1, y69.2.2.2.2.2.2.2.2.2.1⟩ : S_Interval), (⟨y69.2.2.2.2.2.2.2.2.2.2.1, y69.2.2.2.2.2.2.2.2.2.2.2.1⟩ : S_Interval)), ((⟨y69.2.2.2.2.2.2.2.2.2.2.2.2.1, y69.2.2.2.2.2.2.2.2.2.2.2.2.2.1⟩ : S_Interval), (⟨y69.2.2.2.2.2.2.2.2.2.2.2.2.2.2.1, y69.2.2.2.2.2.2.2.2.2.2.2.2.2.2.2.1⟩ : S_Interval), (⟨y69.2.2.2.2.2.2.2.2.2.2.2.2.2.2.2.2.1, y69.2.2.2.2.2.2.2.2.2.2.2.2.2.2.2.2.2.1⟩ : S_Interval))), ((⟨y69.2.2.2.2.2.2.2.2.2.2.2.2.2.2.2.2.2.2.1, y69.2.2.2.2.2.2.2.2.2.2.2.2.2.2.2.2.2.2.2.1⟩ : S_Interval), (⟨y69.2.2.2.2.2.2.2.2.2.2.2.2.2.2.2.2.2.2.2.2.1, y69.2.2.2.2.2.2.2.2.2.2.2.2.2.2.2.2.2.2.2.2.2.1⟩ : S_Interval), (⟨y69.2.2.2.2.2.2.2.2.2.2.2.2.2.2.2.2.2.2.2.2.2.2.1, y69.2.2.2.2.2.2.2.2.2.2.2.2.2.2.2.2.2.2.2.2.2.2.2⟩ : S_Interval))⟩ : S_Pose)) [] fun y70 =>
 .grd (0 ≤ x53.2 ∧ x53.2 < ((x53.1.length : Nat) : Int)) <|
 .conv 11006 (cvSet 1 (encL 6 enc_arr_3_Interval) x53.1 131 ((x53.2).toNat) y70) <|
 .grd ((x53.2).toNat < x53.1.length ∧ 0 ≤ (x53.2).toNat) <|
 .ret (.next ((x53.1.set ((x53.2).toNat) y70), (IntKind.i64.wrap (x53.2 + 1)))))
 (.ret (.out x53.1)))
 ((List.replicate (((a0.Shapes.length : Nat) : Int)).toNat (nl : (List (S_Interval × S_Interval × S_Interval)))), 0) [] fun y62 =>
 .ret y62)
noncomputable def kinematics_Points_C (a0 : S_Scene) (a1 : (List S_Interval)) : CallS (List (List (S_Interval × S_Interval × S_Interval))) :=
  mkC [] hd Tryz.func134 (by kernel_rfl) (kinematics_Points_T a0 a1) 0 [.pure (enc_Scene a0), .pure (encL 2 enc_Interval a1)] [] (fun r => .pure (encL 1 (encL 6 enc_arr_3_Interval) r)) (fun _ => []) (by kernel_rfl)
noncomputable def classify_place_T (a0 : S_Scene) (a1 : (List S_Interval)) : T (S_classify_body × Bool) :=
 .cut 2 (fun (y7 : Bool) => ⟨[(1, .pure (encL 2 enc_Interval a1)), (2, .ptr 0 0), (4, .ptr 1 0), (19, .pure (.bool y7))], [(0, .box [.pure (encL 12 enc_Joint a0.Robot.Joints), .pure (encL 5 enc_Mass a0.Robot.Masses), .pure (encL 3 enc_Shape a0.Shapes), .pure (encL 2 enc_Skip a0.Skips)]), (1, .box [.vec 2, .vec 3, .vec 4]), (2, .nilv), (3, .nilv), (4, .nilv)], [], 5⟩)
 (.call (scene_Check_C a0) [] fun y8 =>
 .br (y8 != 0)
 (.ret (.out true))
 (.ret (.out (((a1.length : Nat) : Int) != ((a0.Robot.Joints.length : Nat) : Int))))) fun y7 =>
 .br y7
 (.ret ((⟨nl, nl, nl⟩ : S_classify_body), false))
 (.loop (fun (x29 : Int) => ⟨[(1, .pure (encL 2 enc_Interval a1)), (2, .ptr 0 0), (4, .ptr 1 0), (21, .pure (encL 2 enc_Interval a1)), (22, pz ((a1.length : Nat) : Int)), (23, pz x29)], [(0, .box [.pure (encL 12 enc_Joint a0.Robot.Joints), .pure (encL 5 enc_Mass a0.Robot.Masses), .pure (encL 3 enc_Shape a0.Shapes), .pure (encL 2 enc_Skip a0.Skips)]), (1, .box [.vec 2, .vec 3, .vec 4]), (2, .nilv), (3, .nilv), (4, .nilv)], [], 5⟩)
 (.exit 0) (fun (_ : U0) => ⟨[(1, .pure (encL 2 enc_Interval a1)), (2, .ptr 0 0), (4, .ptr 1 0)], [(0, .box [.pure (encL 12 enc_Joint a0.Robot.Joints), .pure (encL 5 enc_Mass a0.Robot.Masses), .pure (encL 3 enc_Shape a0.Shapes), .pure (encL 2 enc_Skip a0.Skips)]), (1, .box [.vec 2, .vec 3, .vec 4]), (2, .nilv), (3, .nilv), (4, .nilv)], [], 5⟩)
 (fun x29 => .br (decide (x29 < ((a1.length : Nat) : Int)))
 (.grd (0 ≤ x29 ∧ x29 < ((a1.length : Nat) : Int)) <|
 .call (interval_Valid_C (a1.getD ((x29).toNat) default)) [] fun y38 =>
 .br (!y38)
 (.ret (.fin ((⟨nl, nl, nl⟩ : S_classify_body), false)))
 (.ret (.next (IntKind.i64.wrap (x29 + 1)))))
 (.ret (.out .u)))
 0 [] fun _ =>
 .call (scene_Pairs_C a0) [] fun y39 =>
 .call (kinematics_Points_C (⟨a0.Robot, a0.Shapes, a0.Skips⟩ : S_Scene) a1) [] fun y40 =>
 .ret ((⟨a0.Shapes, y39, y40⟩ : S_classify_body), true))
noncomputable def classify_place_C (a0 : S_Scene) (a1 : (List S_Interval)) : CallS (S_classify_body × Bool) :=
  mkC [] hd Tryz.func80 (by kernel_rfl) (classify_place_T a0 a1) 0 [.pure (enc_Scene a0), .pure (encL 2 enc_Interval a1)] [] (fun r => .tup [.pure (enc_classify_body r.1), .pure (.bool r.2)]) (fun _ => []) (by kernel_rfl)
noncomputable def body_couple_T (a0 : S_classify_body) (a1 : Int) : T S_classify_couple :=
 .grd (0 ≤ a1 ∧ a1 < ((a0.pairs.length : Nat) : Int)) <|
 .grd (0 ≤ ((a0.pairs.getD ((a1).toNat) default).A) ∧ ((a0.pairs.getD ((a1).toNat) default).A) < ((a0.points.length : Nat) : Int)) <|
 .grd (0 ≤ ((a0.pairs.getD ((a1).toNat) default).A) ∧ ((a0.pairs.getD ((a1).toNat) default).A) < ((a0.shapes.length : Nat) : Int)) <|
 .grd (0 ≤ ((a0.pairs.getD ((a1).toNat) default).B) ∧ ((a0.pairs.getD ((a1).toNat) default).B) < ((a0.points.length : Nat) : Int)) <|
 .grd (0 ≤ ((a0.pairs.getD ((a1).toNat) default).B) ∧ ((a0.pairs.getD ((a1).toNat) default).B) < ((a0.shapes.length : Nat) : Int)) <|
 .ret (⟨(a0.points.getD (((a0.pairs.getD ((a1).toNat) default).A).toNat) default), (a0.points.getD (((a0.pairs.getD ((a1).toNat) default).B).toNat) default), (a0.shapes.getD (((a0.pairs.getD ((a1).toNat) default).A).toNat) default).Radius, (a0.shapes.getD (((a0.pairs.getD ((a1).toNat) default).B).toNat) default).Radius⟩ : S_classify_couple)
noncomputable def body_couple_C (a0 : S_classify_body) (a1 : Int) : CallS S_classify_couple :=
  mkC [] hd Tryz.func81 (by kernel_rfl) (body_couple_T a0 a1) 0 [.pure (enc_classify_body a0), pz a1] [] (fun r => .pure (enc_classify_couple r)) (fun _ => []) (by kernel_rfl)
noncomputable def normals_candidates_T (a0 : (List (S_Interval × S_Interval × S_Interval))) (a1 : Int) (a2 : (List (S_Interval × S_Interval × S_Interval))) (a3 : Int) (a4 : (List (Int × Int × Int))) : T ((List (S_Interval × S_Interval × S_Interval)) × (List (S_Interval × S_Interval × S_Interval)) × Int × Int × (List (Int × Int × Int))) :=
 .ret (a0, a2, a1, a3, a4)
noncomputable def normals_candidates_C (a0 : (List (S_Interval × S_Interval × S_Interval))) (a1 : Int) (a2 : (List (S_Interval × S_Interval × S_Interval))) (a3 : Int) (a4 : (List (Int × Int × Int))) : CallS ((List (S_Interval × S_Interval × S_Interval)) × (List (S_Interval × S_Interval × S_Interval)) × Int × Int × (List (Int × Int × Int))) :=
  mkC [] hd Tryz.func136 (by kernel_rfl) (normals_candidates_T a0 a1 a2 a3 a4) 0 [.pure (encL 6 enc_arr_3_Interval a0), pz a1, .pure (encL 6 enc_arr_3_Interval a2), pz a3, .pure (encL 3 enc_arr_3_int64 a4)] [] (fun _ => .func 172 [] [.ptr 0 0, .ptr 1 0, .ptr 2 0, .ptr 3 0, .ptr 4 0]) (fun r => [(0, .box [.pure (encL 6 enc_arr_3_Interval r.1)]), (1, .box [.pure (encL 6 enc_arr_3_Interval r.2.1)]), (2, .box [pz r.2.2.1]), (3, .box [pz r.2.2.2.1]), (4, .box [.pure (encL 3 enc_arr_3_int64 r.2.2.2.2)])]) (by kernel_rfl)
noncomputable def plane_both_T (a0 : (List (S_Interval × S_Interval × S_Interval))) (a1 : Int) (a2 : (List (S_Interval × S_Interval × S_Interval))) (a3 : Int) : T S_plane_sides :=
 .ret (⟨(⟨a0, a1⟩ : S_plane_side), (⟨a2, a3⟩ : S_plane_side)⟩ : S_plane_sides)
noncomputable def plane_both_C (a0 : (List (S_Interval × S_Interval × S_Interval))) (a1 : Int) (a2 : (List (S_Interval × S_Interval × S_Interval))) (a3 : Int) : CallS S_plane_sides :=
  mkC [] hd Tryz.func178 (by kernel_rfl) (plane_both_T a0 a1 a2 a3) 0 [.pure (encL 6 enc_arr_3_Interval a0), pz a1, .pure (encL 6 enc_arr_3_Interval a2), pz a3] [] (fun r => .pure (enc_plane_sides r)) (fun _ => []) (by kernel_rfl)
noncomputable def shape_Placed_T (a0 : (List (S_Interval × S_Interval × S_Interval))) : T Bool :=
 .cut 2 (fun (y2 : Bool) => ⟨[(0, .pure (encL 6 enc_arr_3_Interval a0)), (14, .pure (.bool y2))], [], [], 0⟩)
 (.br (decide (((a0.length : Nat) : Int) < 1))
 (.ret (.out true))
 (.ret (.out (decide (((a0.length : Nat) : Int) > 8))))) fun y2 =>
 .br y2
 (.ret false)
 (.loop (fun (x87 : Int) => ⟨[(15, .pure (encL 6 enc_arr_3_Interval a0)), (16, pz ((a0.length : Nat) : Int)), (17, pz x87)], [], [], 0⟩)
 (.exit 0) (fun (_ : U0) => ⟨[], [], [], 0⟩)
 (fun x87 => .br (decide (x87 < ((a0.length : Nat) : Int)))
 (.grd (0 ≤ x87 ∧ x87 < ((a0.length : Nat) : Int)) <|
 .unroll 4 <|
 .known true <|
 .ix 0 3 rfl <|
 .cut 0 (fun (y124 : Bool) => ⟨[(15, .pure (encL 6 enc_arr_3_Interval a0)), (16, pz ((a0.length : Nat) : Int)), (17, pz x87), (21, .pure (enc_arr_3_Interval (a0.getD ((x87).toNat) default))), (22, pz 0), (39, .pure (.bool y124))], [], [], 0⟩)
 (.br (decide (((a0.getD ((x87).toNat) default).1.Lo) < (-268435456)))
 (.ret (.out true))
 (.br (decide (((a0.getD ((x87).toNat) default).1.Lo) > ((a0.getD ((x87).toNat) default).1.Hi)))
 (.ret (.out true))
 (.ret (.out (decide (((a0.getD ((x87).toNat) default).1.Hi) > 268435456)))))) fun y124 =>
 .br y124
 (.ret (.fin false))
 (.lit 11000 (1) <|
 .known true <|
 .ix 1 3 rfl <|
 .cut 0 (fun (y126 : Bool) => ⟨[(15, .pure (encL 6 enc_arr_3_Interval a0)), (16, pz ((a0.length : Nat) : Int)), (17, pz x87), (21, .pure (enc_arr_3_Interval (a0.getD ((x87).toNat) default))), (22, pz 1), (39, .pure (.bool y126))], [], [], 0⟩)
 (.br (decide (((a0.getD ((x87).toNat) default).2.1.Lo) < (-268435456)))
 (.ret (.out true))
 (.br (decide (((a0.getD ((x87).toNat) default).2.1.Lo) > ((a0.getD ((x87).toNat) default).2.1.Hi)))
 (.ret (.out true))
 (.ret (.out (decide (((a0.getD ((x87).toNat) default).2.1.Hi) > 268435456)))))) fun y126 =>
 .br y126
 (.ret (.fin false))
 (.lit 11000 (2) <|
 .known true <|
 .ix 2 3 rfl <|
 .cut 0 (fun (y128 : Bool) => ⟨[(15, .pure (encL 6 enc_arr_3_Interval a0)), (16, pz ((a0.length : Nat) : Int)), (17, pz x87), (21, .pure (enc_arr_3_Interval (a0.getD ((x87).toNat) default))), (22, pz 2), (39, .pure (.bool y128))], [], [], 0⟩)
 (.br (decide (((a0.getD ((x87).toNat) default).2.2.Lo) < (-268435456)))
 (.ret (.out true))
 (.br (decide (((a0.getD ((x87).toNat) default).2.2.Lo) > ((a0.getD ((x87).toNat) default).2.2.Hi)))
 (.ret (.out true))
 (.ret (.out (decide (((a0.getD ((x87).toNat) default).2.2.Hi) > 268435456)))))) fun y128 =>
 .br y128
 (.ret (.fin false))
 (.lit 11000 (3) <|
 .known false <|
 .ret (.next (IntKind.i64.wrap (x87 + 1)))))))
 (.ret (.out .u)))
 0 [] fun _ =>
 .ret true)
noncomputable def shape_Placed_C (a0 : (List (S_Interval × S_Interval × S_Interval))) : CallS Bool :=
  mkC [] hd Tryz.func141 (by kernel_rfl) (shape_Placed_T a0) 0 [.pure (encL 6 enc_arr_3_Interval a0)] [] (fun r => .pure (.bool r)) (fun _ => []) (by kernel_rfl)
noncomputable def side_valid_T (a0 : S_plane_side) : T Bool :=
 .call (shape_Placed_C a0.points) [] fun y1 =>
 .br y1
 (.br (decide (0 ≤ a0.radius))
 (.ret (decide (a0.radius ≤ 1048576)))
 (.ret false))
 (.ret false)
noncomputable def side_valid_C (a0 : S_plane_side) : CallS Bool :=
  mkC [] hd Tryz.func247 (by kernel_rfl) (side_valid_T a0) 0 [.pure (enc_plane_side a0)] [] (fun r => .pure (.bool r)) (fun _ => []) (by kernel_rfl)
noncomputable def support_inRange_T (a0 : (Int × Int × Int)) : T Bool :=
 .loop (fun (x13 : Int) => ⟨[(5, .pure (enc_arr_3_int64 a0)), (6, pz x13)], [], [], 0⟩)
 (.exit 0) (fun (_ : U0) => ⟨[], [], [], 0⟩)
 (fun x13 => .br (decide (x13 < 3))
 (.grd (0 ≤ x13 ∧ x13 < ((3 : Nat) : Int)) <|
 .cut 0 (fun (y18 : Bool) => ⟨[(5, .pure (enc_arr_3_int64 a0)), (6, pz x13), (14, .pure (.bool y18))], [], [], 0⟩)
 (.br (decide ((([a0.1, a0.2.1, a0.2.2] : List Int).getD (x13).toNat 0) < (-16384)))
 (.ret (.out true))
 (.ret (.out (decide ((([a0.1, a0.2.1, a0.2.2] : List Int).getD (x13).toNat 0) > 16384))))) fun y18 =>
 .br y18
 (.ret (.fin false))
 (.ret (.next (IntKind.i64.wrap (x13 + 1)))))
 (.ret (.out .u)))
 0 [] fun _ =>
 .ret true
noncomputable def support_inRange_C (a0 : (Int × Int × Int)) : CallS Bool :=
  mkC [] hd Tryz.func223 (by kernel_rfl) (support_inRange_T a0) 0 [.pure (enc_arr_3_int64 a0)] [] (fun r => .pure (.bool r)) (fun _ => []) (by kernel_rfl)
noncomputable def support_Usable_T (a0 : (Int × Int × Int)) : T Bool :=
 .call (support_inRange_C a0) [] fun y1 =>
 .br y1
 (.ret (!((a0.1 == 0) && ((a0.2.1 == 0) && ((a0.2.2 == 0) && true)))))
 (.ret false)
noncomputable def support_Usable_C (a0 : (Int × Int × Int)) : CallS Bool :=
  mkC [] hd Tryz.func174 (by kernel_rfl) (support_Usable_T a0) 0 [.pure (enc_arr_3_int64 a0)] [] (fun r => .pure (.bool r)) (fun _ => []) (by kernel_rfl)
noncomputable def support_downward_T (a0 : (Int × Int × Int)) : T (Int × Int × Int) :=
 .ret (a0.1, a0.2.1, a0.2.2)
noncomputable def support_downward_C (a0 : (Int × Int × Int)) : CallS (Int × Int × Int) :=
  mkC [] hd Tryz.func279 (by kernel_rfl) (support_downward_T a0) 0 [.pure (enc_arr_3_int64 a0)] [] (fun _ => .agg [.func 303 [] [.ptr 0 0], .func 305 [] []]) (fun r => [(0, .box [pz r.1, pz r.2.1, pz r.2.2])]) (by kernel_rfl)
noncomputable def support_dot_T (a0 : (Int × Int × Int)) (a1 : (S_Interval × S_Interval × S_Interval)) : T (Int × Int) :=
 .unroll 4 <|
 .known true <|
 .ix 0 3 rfl <|
 .ix 0 3 rfl <|
 .ix 0 3 rfl <|
 .name 6004 ((IntKind.i64.wrap (0 + (min (IntKind.i64.wrap (a0.1 * a1.1.Lo)) (IntKind.i64.wrap (a0.1 * a1.1.Hi)))))) fun z79 =>
 .name 7004 ((IntKind.i64.wrap (0 + (max (IntKind.i64.wrap (a0.1 * a1.1.Lo)) (IntKind.i64.wrap (a0.1 * a1.1.Hi)))))) fun z80 =>
 .lit 8000 (1) <|
 .known true <|
 .ix 1 3 rfl <|
 .ix 1 3 rfl <|
 .ix 1 3 rfl <|
 .name 6004 ((IntKind.i64.wrap (z79 + (min (IntKind.i64.wrap (a0.2.1 * a1.2.1.Lo)) (IntKind.i64.wrap (a0.2.1 * a1.2.1.Hi)))))) fun z85 =>
 .name 7004 ((IntKind.i64.wrap (z80 + (max (IntKind.i64.wrap (a0.2.1 * a1.2.1.Lo)) (IntKind.i64.wrap (a0.2.1 * a1.2.1.Hi)))))) fun z86 =>
 .lit 8000 (2) <|
 .known true <|
 .ix 2 3 rfl <|
 .ix 2 3 rfl <|
 .ix 2 3 rfl <|
 .name 6004 ((IntKind.i64.wrap (z85 + (min (IntKind.i64.wrap (a0.2.2 * a1.2.2.Lo)) (IntKind.i64.wrap (a0.2.2 * a1.2.2.Hi)))))) fun z91 =>
 .name 7004 ((IntKind.i64.wrap (z86 + (max (IntKind.i64.wrap (a0.2.2 * a1.2.2.Lo)) (IntKind.i64.wrap (a0.2.2 * a1.2.2.Hi)))))) fun z92 =>
 .lit 8000 (3) <|
 .known false <|
 .ret (z91, z92)
noncomputable def support_dot_C (a0 : (Int × Int × Int)) (a1 : (S_Interval × S_Interval × S_Interval)) : CallS (Int × Int) :=
  mkC [] hd Tryz.func304 (by kernel_rfl) (support_dot_T a0 a1) 0 [.pure (enc_arr_3_int64 a0), .pure (enc_arr_3_Interval a1)] [] (fun r => .tup [pz r.1, pz r.2]) (fun _ => []) (by kernel_rfl)
noncomputable def support_downward_1_T (a0 : (S_Interval × S_Interval × S_Interval)) (a1 : Int) (a2 : Int) (a3 : Int) : T (Int × Int × Int × Int) :=
 .call (support_dot_C (a1, a2, a3) ((⟨a0.1.Lo, a0.1.Hi⟩ : S_Interval), (⟨a0.2.1.Lo, a0.2.1.Hi⟩ : S_Interval), (⟨a0.2.2.Lo, a0.2.2.Hi⟩ : S_Interval))) [] fun y2 =>
 .ret (y2.1, a1, a2, a3)
noncomputable def support_downward_1_C (a0 : (S_Interval × S_Interval × S_Interval)) (a1 : Int) (a2 : Int) (a3 : Int) : CallS (Int × Int × Int × Int) :=
  mkC [] hd Tryz.func303 (by kernel_rfl) (support_downward_1_T a0 a1 a2 a3) 1 [.pure (enc_arr_3_Interval a0), .ptr 0 0] [(0, .box [pz a1, pz a2, pz a3])] (fun r => pz r.1) (fun r => [(0, .box [pz r.2.1, pz r.2.2.1, pz r.2.2.2])]) (by kernel_rfl)
noncomputable def support_downward_2_T (a0 : Int) (a1 : Int) : T Bool :=
 .ret (decide (a0 < a1))
noncomputable def support_downward_2_C (a0 : Int) (a1 : Int) : CallS Bool :=
  mkC [] hd Tryz.func305 (by kernel_rfl) (support_downward_2_T a0 a1) 0 [pz a0, pz a1] [] (fun r => .pure (.bool r)) (fun _ => []) (by kernel_rfl)
noncomputable def direction_best_T (a0 : Int) (a1 : Int) (a2 : Int) (a3 : (List (S_Interval × S_Interval × S_Interval))) : T (Int × Int × Int × Int × Int) :=
 .loop (fun (x91 : (Int × Int × Int × Int × Int × Int)) => ⟨[(2, .ptr 1 0), (6, pz x91.2.2.2.1), (7, pz x91.2.2.2.2.1), (11, .pure (encL 6 enc_arr_3_Interval a3)), (12, pz ((a3.length : Nat) : Int)), (13, pz x91.2.2.2.2.2)], [(0, .box [pz x91.1, pz x91.2.1, pz x91.2.2.1]), (1, .box [.func 303 [] [.ptr 0 0], .func 305 [] []])], [], 2⟩)
 (.exit 0) (fun (y111 : (Int × Int × Int × Int × Int)) => ⟨[(6, pz y111.2.2.2.1), (7, pz y111.2.2.2.2)], [(0, .box [pz y111.1, pz y111.2.1, pz y111.2.2.1])], [], 1⟩)
 (fun x91 => .br (decide (x91.2.2.2.2.2 < ((a3.length : Nat) : Int)))
 (.cut 0 (fun (y124 : (Int × Int × Int × Int × Int)) => ⟨[(2, .ptr 1 0), (6, pz y124.2.2.2.1), (7, pz y124.2.2.2.2), (11, .pure (encL 6 enc_arr_3_Interval a3)), (12, pz ((a3.length : Nat) : Int)), (13, pz x91.2.2.2.2.2)], [(0, .box [pz y124.1, pz y124.2.1, pz y124.2.2.1]), (1, .box [.func 303 [] [.ptr 0 0], .func 305 [] []])], [], 2⟩)
 (.grd (0 ≤ x91.2.2.2.2.2 ∧ x91.2.2.2.2.2 < ((a3.length : Nat) : Int)) <|
 .call (support_downward_1_C (a3.getD ((x91.2.2.2.2.2).toNat) default) x91.1 x91.2.1 x91.2.2.1) [(0, 0)] fun y126 =>
 .cut 0 (fun (y129 : Bool) => ⟨[(2, .ptr 1 0), (6, pz x91.2.2.2.1), (7, pz x91.2.2.2.2.1), (8, pz x91.2.2.2.2.2), (10, pz y126.1), (11, .pure (encL 6 enc_arr_3_Interval a3)), (12, pz ((a3.length : Nat) : Int)), (13, pz x91.2.2.2.2.2), (30, .pure (.bool y129))], [(0, .box [pz y126.2.1, pz y126.2.2.1, pz y126.2.2.2]), (1, .box [.func 303 [] [.ptr 0 0], .func 305 [] []])], [], 2⟩)
 (.br (x91.2.2.2.2.2 == 0)
 (.ret (.out true))
 (.call (support_downward_2_C y126.1 x91.2.2.2.1) [] fun y130 =>
 .ret (.out y130))) fun y129 =>
 .br y129
 (.ret (.out (y126.2.1, y126.2.2.1, y126.2.2.2, y126.1, x91.2.2.2.2.2)))
 (.ret (.out (y126.2.1, y126.2.2.1, y126.2.2.2, x91.2.2.2.1, x91.2.2.2.2.1)))) fun y124 =>
 .ret (.next (y124.1, y124.2.1, y124.2.2.1, y124.2.2.2.1, y124.2.2.2.2, (IntKind.i64.wrap (x91.2.2.2.2.2 + 1)))))
 (.ret (.out (x91.1, x91.2.1, x91.2.2.1, x91.2.2.2.1, x91.2.2.2.2.1))))
 (a0, a1, a2, 0, 0, 0) [] fun y111 =>
 .ret (y111.2.2.2.1, y111.2.2.2.2, y111.1, y111.2.1, y111.2.2.1)
noncomputable def direction_best_C (a0 : Int) (a1 : Int) (a2 : Int) (a3 : (List (S_Interval × S_Interval × S_Interval))) : CallS (Int × Int × Int × Int × Int) :=
  mkC [] hd Tryz.func280 (by kernel_rfl) (direction_best_T a0 a1 a2 a3) 1 [.agg [.func 303 [] [.ptr 0 0], .func 305 [] []], .pure (encL 6 enc_arr_3_Interval a3)] [(0, .box [pz a0, pz a1, pz a2])] (fun r => .tup [pz r.1, pz r.2.1]) (fun r => [(0, .box [pz r.2.2.1, pz r.2.2.2.1, pz r.2.2.2.2])]) (by kernel_rfl)
noncomputable def support_Least_T (a0 : (Int × Int × Int)) (a1 : (List (S_Interval × S_Interval × S_Interval))) : T (Int × Int × Bool) :=
 .cut 2 (fun (y12 : Bool) => ⟨[(1, .pure (encL 6 enc_arr_3_Interval a1)), (2, .ptr 0 0), (16, .pure (.bool y12))], [(0, .box [pz a0.1, pz a0.2.1, pz a0.2.2])], [], 1⟩)
 (.call (support_Usable_C a0) [] fun y13 =>
 .br (!y13)
 (.ret (.out true))
 (.call (shape_Placed_C a1) [] fun y14 =>
 .ret (.out (!y14)))) fun y12 =>
 .br y12
 (.ret (0, 0, false))
 (.call (support_downward_C (a0.1, a0.2.1, a0.2.2)) [] fun y17 =>
 .call (direction_best_C y17.1 y17.2.1 y17.2.2 a1) [(0, 65)] fun y18 =>
 .ret (y18.1, y18.2.1, true))
noncomputable def support_Least_C (a0 : (Int × Int × Int)) (a1 : (List (S_Interval × S_Interval × S_Interval))) : CallS (Int × Int × Bool) :=
  mkC [] hd Tryz.func248 (by kernel_rfl) (support_Least_T a0 a1) 0 [.pure (enc_arr_3_int64 a0), .pure (encL 6 enc_arr_3_Interval a1)] [] (fun r => .tup [pz r.1, pz r.2.1, .pure (.bool r.2.2)]) (fun _ => []) (by kernel_rfl)
noncomputable def support_upward_T (a0 : (Int × Int × Int)) : T (Int × Int × Int) :=
 .ret (a0.1, a0.2.1, a0.2.2)
noncomputable def support_upward_C (a0 : (Int × Int × Int)) : CallS (Int × Int × Int) :=
  mkC [] hd Tryz.func281 (by kernel_rfl) (support_upward_T a0) 0 [.pure (enc_arr_3_int64 a0)] [] (fun _ => .agg [.func 306 [] [.ptr 0 0], .func 307 [] []]) (fun r => [(0, .box [pz r.1, pz r.2.1, pz r.2.2])]) (by kernel_rfl)
noncomputable def support_upward_1_T (a0 : (S_Interval × S_Interval × S_Interval)) (a1 : Int) (a2 : Int) (a3 : Int) : T (Int × Int × Int × Int) :=
 .call (support_dot_C (a1, a2, a3) a0) [] fun y2 =>
 .ret (y2.2, a1, a2, a3)
noncomputable def support_upward_1_C (a0 : (S_Interval × S_Interval × S_Interval)) (a1 : Int) (a2 : Int) (a3 : Int) : CallS (Int × Int × Int × Int) :=
  mkC [] hd Tryz.func306 (by kernel_rfl) (support_upward_1_T a0 a1 a2 a3) 1 [.pure (enc_arr_3_Interval a0), .ptr 0 0] [(0, .box [pz a1, pz a2, pz a3])] (fun r => pz r.1) (fun r => [(0, .box [pz r.2.1, pz r.2.2.1, pz r.2.2.2])]) (by kernel_rfl)
noncomputable def support_upward_2_T (a0 : Int) (a1 : Int) : T Bool :=
 .ret (decide (a0 > a1))
noncomputable def support_upward_2_C (a0 : Int) (a1 : Int) : CallS Bool :=
  mkC [] hd Tryz.func307 (by kernel_rfl) (support_upward_2_T a0 a1) 0 [pz a0, pz a1] [] (fun r => .pure (.bool r)) (fun _ => []) (by kernel_rfl)
noncomputable def direction_best_1_T (a0 : Int) (a1 : Int) (a2 : Int) (a3 : (List (S_Interval × S_Interval × S_Interval))) : T (Int × Int × Int × Int × Int) :=
 .loop (fun (x91 : (Int × Int × Int × Int × Int × Int)) => ⟨[(2, .ptr 1 0), (6, pz x91.2.2.2.1), (7, pz x91.2.2.2.2.1), (11, .pure (encL 6 enc_arr_3_Interval a3)), (12, pz ((a3.length : Nat) : Int)), (13, pz x91.2.2.2.2.2)], [(0, .box [pz x91.1, pz x91.2.1, pz x91.2.2.1]), (1, .box [.func 306 [] [.ptr 0 0], .func 307 [] []])], [], 2⟩)
 (.exit 0) (fun (y111 : (Int × Int × Int × Int × Int)) => ⟨[(6, pz y111.2.2.2.1), (7, pz y111.2.2.2.2)], [(0, .box [pz y111.1, pz y111.2.1, pz y111.2.2.1])], [], 1⟩)
 (fun x91 => .br (decide (x91.2.2.2.2.2 < ((a3.length : Nat) : Int)))
 (.cut 0 (fun (y124 : (Int × Int × Int × Int × Int)) => ⟨[(2, .ptr 1 0), (6, pz y124.2.2.2.1), (7, pz y124.2.2.2.2), (11, .pure (encL 6 enc_arr_3_Interval a3)), (12, pz ((a3.length : Nat) : Int)), (13, pz x91.2.2.2.2.2)], [(0, .box [pz y124.1, pz y124.2.1, pz y124.2.2.1]), (1, .box [.func 306 [] [.ptr 0 0], .func 307 [] []])], [], 2⟩)
 (.grd (0 ≤ x91.2.2.2.2.2 ∧ x91.2.2.2.2.2 < ((a3.length : Nat) : Int)) <|
 .call (support_upward_1_C (a3.getD ((x91.2.2.2.2.2).toNat) default) x91.1 x91.2.1 x91.2.2.1) [(0, 0)] fun y126 =>
 .cut 0 (fun (y129 : Bool) => ⟨[(2, .ptr 1 0), (6, pz x91.2.2.2.1), (7, pz x91.2.2.2.2.1), (8, pz x91.2.2.2.2.2), (10, pz y126.1), (11, .pure (encL 6 enc_arr_3_Interval a3)), (12, pz ((a3.length : Nat) : Int)), (13, pz x91.2.2.2.2.2), (30, .pure (.bool y129))], [(0, .box [pz y126.2.1, pz y126.2.2.1, pz y126.2.2.2]), (1, .box [.func 306 [] [.ptr 0 0], .func 307 [] []])], [], 2⟩)
 (.br (x91.2.2.2.2.2 == 0)
 (.ret (.out true))
 (.call (support_upward_2_C y126.1 x91.2.2.2.1) [] fun y130 =>
 .ret (.out y130))) fun y129 =>
 .br y129
 (.ret (.out (y126.2.1, y126.2.2.1, y126.2.2.2, y126.1, x91.2.2.2.2.2)))
 (.ret (.out (y126.2.1, y126.2.2.1, y126.2.2.2, x91.2.2.2.1, x91.2.2.2.2.1)))) fun y124 =>
 .ret (.next (y124.1, y124.2.1, y124.2.2.1, y124.2.2.2.1, y124.2.2.2.2, (IntKind.i64.wrap (x91.2.2.2.2.2 + 1)))))
 (.ret (.out (x91.1, x91.2.1, x91.2.2.1, x91.2.2.2.1, x91.2.2.2.2.1))))
 (a0, a1, a2, 0, 0, 0) [] fun y111 =>
 .ret (y111.2.2.2.1, y111.2.2.2.2, y111.1, y111.2.1, y111.2.2.1)
noncomputable def direction_best_1_C (a0 : Int) (a1 : Int) (a2 : Int) (a3 : (List (S_Interval × S_Interval × S_Interval))) : CallS (Int × Int × Int × Int × Int) :=
  mkC [] hd Tryz.func280 (by kernel_rfl) (direction_best_1_T a0 a1 a2 a3) 1 [.agg [.func 306 [] [.ptr 0 0], .func 307 [] []], .pure (encL 6 enc_arr_3_Interval a3)] [(0, .box [pz a0, pz a1, pz a2])] (fun r => .tup [pz r.1, pz r.2.1]) (fun r => [(0, .box [pz r.2.2.1, pz r.2.2.2.1, pz r.2.2.2.2])]) (by kernel_rfl)
noncomputable def support_Greatest_T (a0 : (Int × Int × Int)) (a1 : (List (S_Interval × S_Interval × S_Interval))) : T (Int × Int × Bool) :=
 .cut 2 (fun (y12 : Bool) => ⟨[(1, .pure (encL 6 enc_arr_3_Interval a1)), (2, .ptr 0 0), (16, .pure (.bool y12))], [(0, .box [pz a0.1, pz a0.2.1, pz a0.2.2])], [], 1⟩)
 (.call (support_Usable_C a0) [] fun y13 =>
 .br (!y13)
 (.ret (.out true))
 (.call (shape_Placed_C a1) [] fun y14 =>
 .ret (.out (!y14)))) fun y12 =>
 .br y12
 (.ret (0, 0, false))
 (.call (support_upward_C (a0.1, a0.2.1, a0.2.2)) [] fun y17 =>
 .call (direction_best_1_C y17.1 y17.2.1 y17.2.2 a1) [(0, 65)] fun y18 =>
 .ret (y18.1, y18.2.1, true))
noncomputable def support_Greatest_C (a0 : (Int × Int × Int)) (a1 : (List (S_Interval × S_Interval × S_Interval))) : CallS (Int × Int × Bool) :=
  mkC [] hd Tryz.func249 (by kernel_rfl) (support_Greatest_T a0 a1) 0 [.pure (enc_arr_3_int64 a0), .pure (encL 6 enc_arr_3_Interval a1)] [] (fun r => .tup [pz r.1, pz r.2.1, .pure (.bool r.2.2)]) (fun _ => []) (by kernel_rfl)
noncomputable def math_bits_Len64_T (a0 : Int) : T Int :=
 .cut 1 (fun (y5 : (Int × Int)) => ⟨[(0, .pure (.int .u64 y5.1)), (2, pz y5.2)], [], [], 0⟩)
 (.br (decide (a0 ≥ 4294967296))
 (.ok (0 ≤ (32 : Int)) (by decide) <|
 .ret (.out ((a0.fdiv (2 ^ (min (32 : Int).toNat 64))), 32)))
 (.ret (.out (a0, 0)))) fun y5 =>
 .cut 0 (fun (y6 : (Int × Int)) => ⟨[(0, .pure (.int .u64 y6.1)), (2, pz y6.2)], [], [], 0⟩)
 (.br (decide (y5.1 ≥ 65536))
 (.ok (0 ≤ (16 : Int)) (by decide) <|
 .ret (.out ((y5.1.fdiv (2 ^ (min (16 : Int).toNat 64))), (IntKind.i64.wrap (y5.2 + 16)))))
 (.ret (.out (y5.1, y5.2)))) fun y6 =>
 .cut 0 (fun (y7 : (Int × Int)) => ⟨[(0, .pure (.int .u64 y7.1)), (2, pz y7.2)], [], [], 0⟩)
 (.br (decide (y6.1 ≥ 256))
 (.ok (0 ≤ (8 : Int)) (by decide) <|
 .ret (.out ((y6.1.fdiv (2 ^ (min (8 : Int).toNat 64))), (IntKind.i64.wrap (y6.2 + 8)))))
 (.ret (.out (y6.1, y6.2)))) fun y7 =>
 .grd (0 ≤ (IntKind.u8.wrap y7.1) ∧ (IntKind.u8.wrap y7.1) < (((⟨#[0, 1, 2, 2, 3, 3, 3, 3, 4, 4, 4, 4, 4, 4, 4, 4, 5, 5, 5, 5, 5, 5, 5, 5, 5, 5, 5, 5, 5, 5, 5, 5, 6, 6, 6, 6, 6, 6, 6, 6, 6, 6, 6, 6, 6, 6, 6, 6, 6, 6, 6, 6, 6, 6, 6, 6, 6, 6, 6, 6, 6, 6, 6, 6, 7, 7, 7, 7, 7, 7, 7, 7, 7, 7, 7, 7, 7, 7, 7, 7, 7, 7, 7, 7, 7, 7, 7, 7, 7, 7, 7, 7, 7, 7, 7, 7, 7, 7, 7, 7, 7, 7, 7, 7, 7, 7, 7, 7, 7, 7, 7, 7, 7, 7, 7, 7, 7, 7, 7, 7, 7, 7, 7, 7, 7, 7, 7, 7, 8, 8, 8, 8, 8, 8, 8, 8, 8, 8, 8, 8, 8, 8, 8, 8, 8, 8, 8, 8, 8, 8, 8, 8, 8, 8, 8, 8, 8, 8, 8, 8, 8, 8, 8, 8, 8, 8, 8, 8, 8, 8, 8, 8, 8, 8, 8, 8, 8, 8, 8, 8, 8, 8, 8, 8, 8, 8, 8, 8, 8, 8, 8, 8, 8, 8, 8, 8, 8, 8, 8, 8, 8, 8, 8, 8, 8, 8, 8, 8, 8, 8, 8, 8, 8, 8, 8, 8, 8, 8, 8, 8, 8, 8, 8, 8, 8, 8, 8, 8, 8, 8, 8, 8, 8, 8, 8, 8, 8, 8, 8, 8, 8, 8, 8, 8, 8, 8, 8, 8, 8, 8, 8, 8, 8, 8, 8, 8]⟩ : ByteArray).size : Nat) : Int)) <|
 .name 10003 ((((⟨#[0, 1, 2, 2, 3, 3, 3, 3, 4, 4, 4, 4, 4, 4, 4, 4, 5, 5, 5, 5, 5, 5, 5, 5, 5, 5, 5, 5, 5, 5, 5, 5, 6, 6, 6, 6, 6, 6, 6, 6, 6, 6, 6, 6, 6, 6, 6, 6, 6, 6, 6, 6, 6, 6, 6, 6, 6, 6, 6, 6, 6, 6, 6, 6, 7, 7, 7, 7, 7, 7, 7, 7, 7, 7, 7, 7, 7, 7, 7, 7, 7, 7, 7, 7, 7, 7, 7, 7, 7, 7, 7, 7, 7, 7, 7, 7, 7, 7, 7, 7, 7, 7, 7, 7, 7, 7, 7, 7, 7, 7, 7, 7, 7, 7, 7, 7, 7, 7, 7, 7, 7, 7, 7, 7, 7, 7, 7, 7, 8, 8, 8, 8, 8, 8, 8, 8, 8, 8, 8, 8, 8, 8, 8, 8, 8, 8, 8, 8, 8, 8, 8, 8, 8, 8, 8, 8, 8, 8, 8, 8, 8, 8, 8, 8, 8, 8, 8, 8, 8, 8, 8, 8, 8, 8, 8, 8, 8, 8, 8, 8, 8, 8, 8, 8, 8, 8, 8, 8, 8, 8, 8, 8, 8, 8, 8, 8, 8, 8, 8, 8, 8, 8, 8, 8, 8, 8, 8, 8, 8, 8, 8, 8, 8, 8, 8, 8, 8, 8, 8, 8, 8, 8, 8, 8, 8, 8, 8, 8, 8, 8, 8, 8, 8, 8, 8, 8, 8, 8, 8, 8, 8, 8, 8, 8, 8, 8, 8, 8, 8, 8, 8, 8, 8, 8, 8, 8]⟩ : ByteArray).data.getD ((IntKind.u8.wrap y7.1)).toNat 0).toNat : Int)) fun z8 =>
 .ret (IntKind.i64.wrap (y7.2 + (IntKind.i64.wrap z8)))
noncomputable def math_bits_Len64_C (a0 : Int) : CallS Int :=
  mkC [] hd Tryz.func282 (by kernel_rfl) (math_bits_Len64_T a0) 0 [.pure (.int .u64 a0)] [] (fun r => pz r) (fun _ => []) (by kernel_rfl)
noncomputable def fixed_Root_T (a0 : Int) : T Int :=
 .br (decide (a0 ≤ 0))
 (.ret 0)
 (.call (math_bits_Len64_C (IntKind.u64.wrap a0)) [] fun y52 =>
 .ok ((2 : Int) ≠ 0) (by decide) <|
 .grd (0 ≤ (IntKind.i64.wrap ((IntKind.i64.wrap (y52 + 1)).tdiv 2))) <|
 .loop (fun (x85 : (Int × Int × Int)) => ⟨[(0, pz a0), (4, .pure (.int .u64 x85.1)), (5, .pure (.int .u64 x85.2.1)), (16, pz (IntKind.i64.wrap ((IntKind.i64.wrap (y52 + 1)).tdiv 2))), (17, pz x85.2.2)], [], [], 0⟩)
 (.exit 0) (fun (y93 : Int) => ⟨[(4, .pure (.int .u64 y93))], [], [], 0⟩)
 (fun x85 => .br (decide (x85.2.2 < (IntKind.i64.wrap ((IntKind.i64.wrap (y52 + 1)).tdiv 2))))
 (.cut 0 (fun (y98 : (Int × Int)) => ⟨[(0, pz a0), (4, .pure (.int .u64 y98.1)), (5, .pure (.int .u64 y98.2)), (16, pz (IntKind.i64.wrap ((IntKind.i64.wrap (y52 + 1)).tdiv 2))), (17, pz x85.2.2)], [], [], 0⟩)
 (.ok ((2 : Int) ≠ 0) (by decide) <|
 .name 7001 ((IntKind.u64.wrap (x85.2.1.tdiv 2))) fun z100 =>
 .br (decide ((IntKind.u64.wrap ((IntKind.u64.wrap (x85.1 + z100)) * (IntKind.u64.wrap (x85.1 + z100)))) ≤ (IntKind.u64.wrap a0)))
 (.ret (.out ((IntKind.u64.wrap (x85.1 + z100)), z100)))
 (.ret (.out (x85.1, z100)))) fun y98 =>
 .ret (.next (y98.1, y98.2, (IntKind.i64.wrap (x85.2.2 + 1)))))
 (.ret (.out x85.1)))
 (0, (IntKind.u64.wrap (1 * 2 ^ (min ((IntKind.i64.wrap ((IntKind.i64.wrap (y52 + 1)).tdiv 2))).toNat 64))), 0) [] fun y93 =>
 .ret (IntKind.i64.wrap y93))
noncomputable def fixed_Root_C (a0 : Int) : CallS Int :=
  mkC [] hd Tryz.func250 (by kernel_rfl) (fixed_Root_T a0) 0 [pz a0] [] (fun r => pz r) (fun _ => []) (by kernel_rfl)
noncomputable def fixed_RootUp_T (a0 : Int) : T Int :=
 .call (fixed_Root_C a0) [] fun y2 =>
 .cut 0 (fun (y3 : Int) => ⟨[(3, pz y3)], [], [], 0⟩)
 (.br (decide ((IntKind.i64.wrap (y2 * y2)) < a0))
 (.ret (.out (IntKind.i64.wrap (y2 + 1))))
 (.ret (.out y2))) fun y3 =>
 .ret y3
noncomputable def fixed_RootUp_C (a0 : Int) : CallS Int :=
  mkC [] hd Tryz.func229 (by kernel_rfl) (fixed_RootUp_T a0) 0 [pz a0] [] (fun r => pz r) (fun _ => []) (by kernel_rfl)
noncomputable def support_Norm_T (a0 : (Int × Int × Int)) : T Int :=
 .call (support_Usable_C (a0.1, a0.2.1, a0.2.2)) [] fun y10 =>
 .br (!y10)
 (.ret 0)
 (.ix 0 3 rfl <|
 .ix 0 3 rfl <|
 .ix 1 3 rfl <|
 .ix 1 3 rfl <|
 .ix 2 3 rfl <|
 .ix 2 3 rfl <|
 .name 3016 ((IntKind.i64.wrap ((IntKind.i64.wrap ((IntKind.i64.wrap (a0.1 * a0.1)) + (IntKind.i64.wrap (a0.2.1 * a0.2.1)))) + (IntKind.i64.wrap (a0.2.2 * a0.2.2))))) fun z11 =>
 .call (fixed_RootUp_C z11) [] fun y12 =>
 .ret y12)
noncomputable def support_Norm_C (a0 : (Int × Int × Int)) : CallS Int :=
  mkC [] hd Tryz.func185 (by kernel_rfl) (support_Norm_T a0) 0 [.pure (enc_arr_3_int64 a0)] [] (fun r => pz r) (fun _ => []) (by kernel_rfl)
noncomputable def sides_margin_T (a0 : S_plane_sides) (a1 : (Int × Int × Int)) : T (Int × Bool) :=
 .cut 2 (fun (y32 : Bool) => ⟨[(2, .ptr 0 0), (3, .ptr 1 0), (20, .pure (.bool y32))], [(0, .box [.pure (encL 6 enc_arr_3_Interval a0.a.points), pz a0.a.radius, .pure (encL 6 enc_arr_3_Interval a0.b.points), pz a0.b.radius]), (1, .box [pz a1.1, pz a1.2.1, pz a1.2.2])], [], 2⟩)
 (.call (side_valid_C a0.a) [] fun y33 =>
 .br (!y33)
 (.ret (.out true))
 (.call (side_valid_C a0.b) [] fun y34 =>
 .ret (.out (!y34)))) fun y32 =>
 .br y32
 (.ret (0, false))
 (.call (support_Least_C (a1.1, a1.2.1, a1.2.2) a0.a.points) [] fun y36 =>
 .br (!y36.2.2)
 (.ret (0, false))
 (.call (support_Greatest_C (a1.1, a1.2.1, a1.2.2) a0.b.points) [] fun y38 =>
 .br (!y38.2.2)
 (.ret (0, false))
 (.call (support_Norm_C (a1.1, a1.2.1, a1.2.2)) [] fun y39 =>
 .name 9013 ((IntKind.i64.wrap ((IntKind.i64.wrap (y36.1 - y38.1)) - (IntKind.i64.wrap (y39 * (IntKind.i64.wrap (a0.a.radius + a0.b.radius))))))) fun z40 =>
 .ret (z40, true))))
noncomputable def sides_margin_C (a0 : S_plane_sides) (a1 : (Int × Int × Int)) : CallS (Int × Bool) :=
  mkC [] hd Tryz.func226 (by kernel_rfl) (sides_margin_T a0 a1) 0 [.pure (enc_plane_sides a0), .pure (enc_arr_3_int64 a1)] [] (fun r => .tup [pz r.1, .pure (.bool r.2)]) (fun _ => []) (by kernel_rfl)
noncomputable def sides_separates_T (a0 : S_plane_sides) (a1 : (Int × Int × Int)) : T Bool :=
 .call (sides_margin_C (⟨a0.a, a0.b⟩ : S_plane_sides) (a1.1, a1.2.1, a1.2.2)) [] fun y2 =>
 .br y2.2
 (.ret (decide (y2.1 > 0)))
 (.ret false)
noncomputable def sides_separates_C (a0 : S_plane_sides) (a1 : (Int × Int × Int)) : CallS Bool :=
  mkC [] hd Tryz.func177 (by kernel_rfl) (sides_separates_T a0 a1) 0 [.pure (enc_plane_sides a0), .pure (enc_arr_3_int64 a1)] [] (fun r => .pure (.bool r)) (fun _ => []) (by kernel_rfl)
noncomputable def plane_Separates_T (a0 : (Int × Int × Int)) (a1 : (List (S_Interval × S_Interval × S_Interval))) (a2 : Int) (a3 : (List (S_Interval × S_Interval × S_Interval))) (a4 : Int) : T Bool :=
 .call (plane_both_C a1 a2 a3 a4) [] fun y1 =>
 .call (sides_separates_C (⟨y1.a, y1.b⟩ : S_plane_sides) (a0.1, a0.2.1, a0.2.2)) [] fun y2 =>
 .ret y2
noncomputable def plane_Separates_C (a0 : (Int × Int × Int)) (a1 : (List (S_Interval × S_Interval × S_Interval))) (a2 : Int) (a3 : (List (S_Interval × S_Interval × S_Interval))) (a4 : Int) : CallS Bool :=
  mkC [] hd Tryz.func137 (by kernel_rfl) (plane_Separates_T a0 a1 a2 a3 a4) 0 [.pure (enc_arr_3_int64 a0), .pure (encL 6 enc_arr_3_Interval a1), pz a2, .pure (encL 6 enc_arr_3_Interval a3), pz a4] [] (fun r => .pure (.bool r)) (fun _ => []) (by kernel_rfl)
noncomputable def normals_isRadius_T (a0 : Int) : T Bool :=
 .br (decide (a0 ≥ 0))
 (.ret (decide (a0 ≤ 1048576)))
 (.ret false)
noncomputable def normals_isRadius_C (a0 : Int) : CallS Bool :=
  mkC [] hd Tryz.func173 (by kernel_rfl) (normals_isRadius_T a0) 0 [pz a0] [] (fun r => .pure (.bool r)) (fun _ => []) (by kernel_rfl)
noncomputable def interval_Mid_T (a0 : S_Interval) : T Int :=
 .call (interval_Valid_C a0) [] fun y4 =>
 .br (!y4)
 (.ret 0)
 (.call (fixed_ShiftDown_C (IntKind.i64.wrap (a0.Lo + a0.Hi)) 1) [] fun y5 =>
 .ret y5)
noncomputable def interval_Mid_C (a0 : S_Interval) : CallS Int :=
  mkC [] hd Tryz.func142 (by kernel_rfl) (interval_Mid_T a0) 0 [.pure (enc_Interval a0)] [] (fun r => pz r) (fun _ => []) (by kernel_rfl)
set_option maxHeartbeats 8000000 in
set_option maxRecDepth 20000 in
noncomputable def shape_Centers_T (a0 : (List (S_Interval × S_Interval × S_Interval))) : T (List (Int × Int × Int)) :=
 .call (shape_Placed_C a0) [] fun y4 =>
 .br (!y4)
 (.ret nl)
 (.conv 3002 (cvRep 3 enc_arr_3_int64 102 (((a0.length : Nat) : Int)).toNat (0, 0, 0)) <|
 .grd (0 ≤ ((a0.length : Nat) : Int) ∧ ((a0.length : Nat) : Int) ≤ ((a0.length : Nat) : Int) ∧ ((a0.length : Nat) : Int) ≤ 9223372036854775807 ∧ ((a0.length : Nat) : Int) * 24 ≤ 140737488355328) <|
 .loop (fun (x89 : ((List (Int × Int × Int)) × Int)) => ⟨[(3, .vec 0), (14, .pure (encL 6 enc_arr_3_Interval a0)), (15, pz ((a0.length : Nat) : Int)), (16, pz x89.2)], [(0, vecO 3 enc_arr_3_int64 x89.1 102)], [], 1⟩)
 (.exit 0) (fun (y110 : (List (Int × Int × Int))) => ⟨[(3, .vec 0)], [(0, vecO 3 enc_arr_3_int64 y110 102)], [], 1⟩)
 (fun x89 => .br (decide (x89.2 < ((a0.length : Nat) : Int)))
 (.grd (0 ≤ x89.2 ∧ x89.2 < ((a0.length : Nat) : Int)) <|
 .unroll 4 <|
 .known true <|
 .ix 0 3 rfl <|
 .call (interval_Mid_C ((a0.getD ((x89.2).toNat) default).1)) [] fun y126 =>
 .grd (0 ≤ x89.2 ∧ x89.2 < ((x89.1.length : Nat) : Int)) <|
 .ix 0 3 rfl <|
 .conv 10007 (cvSet 3 enc_arr_3_int64 x89.1 102 ((x89.2).toNat) (y126, (x89.1.getD ((x89.2).toNat) default).2.1, (x89.1.getD ((x89.2).toNat) default).2.2)) <|
 .grd ((x89.2).toNat < x89.1.length ∧ 0 ≤ (x89.2).toNat) <|
 .lit 11000 (1) <|
 .known true <|
 .ix 1 3 rfl <|
 .call (interval_Mid_C ((a0.getD ((x89.2).toNat) default).2.1)) [] fun y128 =>
 .grd (0 ≤ x89.2 ∧ x89.2 < (((x89.1.set ((x89.2).toNat) (y126, (x89.1.getD ((x89.2).toNat) default).2.1, (x89.1.getD ((x89.2).toNat) default).2.2)).length : Nat) : Int)) <|
 .ix 1 3 rfl <|
 .conv 10007 (cvSet 3 enc_arr_3_int64 (x89.1.set ((x89.2).toNat) (y126, (x89.1.getD ((x89.2).toNat) default).2.1, (x89.1.getD ((x89.2).toNat) default).2.2)) 102 ((x89.2).toNat) (((x89.1.set ((x89.2).toNat) (y126, (x89.1.getD ((x89.2).toNat) default).2.1, (x89.1.getD ((x89.2).toNat) default).2.2)).getD ((x89.2).toNat) default).1, y128, ((x89.1.set ((x89.2).toNat) (y126, (x89.1.getD ((x89.2).toNat) default).2.1, (x89.1.getD ((x89.2).toNat) default).2.2)).getD ((x89.2).toNat) default).2.2)) <|
 .grd ((x89.2).toNat < (x89.1.set ((x89.2).toNat) (y126, (x89.1.getD ((x89.2).toNat) default).2.1, (x89.1.getD ((x89.2).toNat) default).2.2)).length ∧ 0 ≤ (x89.2).toNat) <|
 .lit 11000 (2) <|
 .known true <|
 .ix 2 3 rfl <|
 .call (interval_Mid_C ((a0.getD ((x89.2).toNat) default).2.2)) [] fun y130 =>
 .grd (0 ≤ x89.2 ∧ x89.2 < ((((x89.1.set ((x89.2).toNat) (y126, (x89.1.getD ((x89.2).toNat) default).2.1, (x89.1.getD ((x89.2).toNat) default).2.2)).set ((x89.2).toNat) (((x89.1.set ((x89.2).toNat) (y126, (x89.1.getD ((x89.2).toNat) default).2.1, (x89.1.getD ((x89.2).toNat) default).2.2)).getD ((x89.2).toNat) default).1, y128, ((x89.1.set ((x89.2).toNat) (y126, (x89.1.getD ((x89.2).toNat) default).2.1, (x89.1.getD ((x89.2).toNat) default).2.2)).getD ((x89.2).toNat) default).2.2)).length : Nat) : Int)) <|
 .ix 2 3 rfl <|
 .conv 10007 (cvSet 3 enc_arr_3_int64 ((x89.1.set ((x89.2).toNat) (y126, (x89.1.getD ((x89.2).toNat) default).2.1, (x89.1.getD ((x89.2).toNat) default).2.2)).set ((x89.2).toNat) (((x89.1.set ((x89.2).toNat) (y126, (x89.1.getD ((x89.2).toNat) default).2.1, (x89.1.getD ((x89.2).toNat) default).2.2)).getD ((x89.2).toNat) default).1, y128, ((x89.1.set ((x89.2).toNat) (y126, (x89.1.getD ((x89.2).toNat) default).2.1, (x89.1.getD ((x89.2).toNat) default).2.2)).getD ((x89.2).toNat) default).2.2)) 102 ((x89.2).toNat) ((((x89.1.set ((x89.2).toNat) (y126, (x89.1.getD ((x89.2).toNat) default).2.1, (x89.1.getD ((x89.2).toNat) default).2.2)).set ((x89.2).toNat) (((x89.1.set ((x89.2).toNat) (y126, (x89.1.getD ((x89.2).toNat) default).2.1, (x89.1.getD ((x89.2).toNat) default).2.2)).getD ((x89.2).toNat) default).1, y128, ((x89.1.set ((x89.2).toNat) (y126, (x89.1.getD ((x89.2).toNat) default).2.1, (x89.1.getD ((x89.2).toNat) default).2.2)).getD ((x89.2).toNat) default).2.2)).getD ((x89.2).toNat) default).1, (((x89.1.set ((x89.2).toNat) (y126, (x89.1.getD ((x89.2).toNat) default).2.1, (x89.1.getD ((x89.2).toNat) default).2.2)).set ((x89.2).toNat) (((x89.1.set ((x89.2).toNat) (y126, (x89.1.getD ((x89.2).toNat) default).2.1, (x89.1.getD ((x89.2).toNat) default).2.2)).getD ((x89.2).toNat) default).1, y128, ((x89.1.set ((x89.2).toNat) (y126, (x89.1.getD ((x89.2).toNat) default).2.1, (x89.1.getD ((x89.2).toNat) default).2.2)).getD ((x89.2).toNat) default).2.2)).getD ((x89.2).toNat) default).2.1, y130)) <|
 .grd ((x89.2).toNat < ((x89.1.set ((x89.2).toNat) (y126, (x89.1.getD ((x89.2).toNat) default).2.1, (x89.1.getD ((x89.2).toNat) default).2.2)).set ((x89.2).toNat) (((x89.1.set ((x89.2).toNat) (y126, (x89.1.getD ((x89.2).toNat) default).2.1, (x89.1.getD ((x89.2).toNat) default).2.2)).getD ((x89.2).toNat) default).1, y128, ((x89.1.set ((x89.2).toNat) (y126, (x89.1.getD ((x89.2).toNat) default).2.1, (x89.1.getD ((x89.2).toNat) default).2.2)).getD ((x89.2).toNat) default).2.2)).length ∧ 0 ≤ (x89.2).toNat) <|
 .lit 11000 (3) <|
 .known false <|
 .ret (.next ((((x89.1.set ((x89.2).toNat) (y126, (x89.1.getD ((x89.2).toNat) default).2.1, (x89.1.getD ((x89.2).toNat) default).2.2)).set ((x89.2).toNat) (((x89.1.set ((x89.2).toNat) (y126, (x89.1.getD ((x89.2).toNat) default).2.1, (x89.1.getD ((x89.2).toNat) default).2.2)).getD ((x89.2).toNat) default).1, y128, ((x89.1.set ((x89.2).toNat) (y126, (x89.1.getD ((x89.2).toNat) default).2.1, (x89.1.getD ((x89.2).toNat) default).2.2)).getD ((x89.2).toNat) default).2.2)).set ((x89.2).toNat) ((((x89.1.set ((x89.2).toNat) (y126, (x89.1.getD ((x89.2).toNat) default).2.1, (x89.1.getD ((x89.2).toNat) default).2.2)).set ((x89.2).toNat) (((x89.1.set ((x89.2).toNat) (y126, (x89.1.getD ((x89.2).toNat) default).2.1, (x89.1.getD ((x89.2).toNat) default).2.2)).getD ((x89.2).toNat) default).1, y128, ((x89.1.set ((x89.2).toNat) (y126, (x89.1.getD ((x89.2).toNat) default).2.1, (x89.1.getD ((x89.2).toNat) default).2.2)).getD ((x89.2).toNat) default).2.2)).getD ((x89.2).toNat) default).1, (((x89.1.set ((x89.2).toNat) (y126, (x89.1.getD ((x89.2).toNat) default).2.1, (x89.1.getD ((x89.2).toNat) default).2.2)).set ((x89.2).toNat) (((x89.1.set ((x89.2).toNat) (y126, (x89.1.getD ((x89.2).toNat) default).2.1, (x89.1.getD ((x89.2).toNat) default).2.2)).getD ((x89.2).toNat) default).1, y128, ((x89.1.set ((x89.2).toNat) (y126, (x89.1.getD ((x89.2).toNat) default).2.1, (x89.1.getD ((x89.2).toNat) default).2.2)).getD ((x89.2).toNat) default).2.2)).getD ((x89.2).toNat) default).2.1, y130)), (IntKind.i64.wrap (x89.2 + 1)))))
 (.ret (.out x89.1)))
 ((List.replicate (((a0.length : Nat) : Int)).toNat ((0, 0, 0) : (Int × Int × Int))), 0) [] fun y110 =>
 .ret y110)
noncomputable def shape_Centers_C (a0 : (List (S_Interval × S_Interval × S_Interval))) : CallS (List (Int × Int × Int)) :=
  mkC [] hd Tryz.func84 (by kernel_rfl) (shape_Centers_T a0) 0 [.pure (encL 6 enc_arr_3_Interval a0)] [] (fun r => .pure (encL 3 enc_arr_3_int64 r)) (fun _ => []) (by kernel_rfl)
noncomputable def normals_sum_T (a0 : (List (Int × Int × Int))) : T (Int × Int × Int) :=
 .loop (fun (x21 : (Int × Int × Int × Int)) => ⟨[(2, .ptr 0 0), (3, .ptr 1 0), (7, .pure (encL 3 enc_arr_3_int64 a0)), (8, pz ((a0.length : Nat) : Int)), (9, pz x21.2.2.2)], [(0, .box [pz 0, pz 0, pz 0]), (1, .box [pz x21.1, pz x21.2.1, pz x21.2.2.1])], [], 2⟩)
 (.exit 0) (fun (y26 : (Int × Int × Int)) => ⟨[(2, .ptr 0 0), (3, .ptr 1 0)], [(0, .box [pz 0, pz 0, pz 0]), (1, .box [pz y26.1, pz y26.2.1, pz y26.2.2])], [], 2⟩)
 (fun x21 => .br (decide (x21.2.2.2 < ((a0.length : Nat) : Int)))
 (.grd (0 ≤ x21.2.2.2 ∧ x21.2.2.2 < ((a0.length : Nat) : Int)) <|
 .unroll 4 <|
 .known true <|
 .ix 0 3 rfl <|
 .ix 0 3 rfl <|
 .ix 0 3 rfl <|
 .lit 9000 (1) <|
 .known true <|
 .ix 1 3 rfl <|
 .ix 1 3 rfl <|
 .ix 1 3 rfl <|
 .lit 9000 (2) <|
 .known true <|
 .ix 2 3 rfl <|
 .ix 2 3 rfl <|
 .ix 2 3 rfl <|
 .lit 9000 (3) <|
 .known false <|
 .ret (.next ((IntKind.i64.wrap (x21.1 + ((a0.getD ((x21.2.2.2).toNat) default).1))), (IntKind.i64.wrap (x21.2.1 + ((a0.getD ((x21.2.2.2).toNat) default).2.1))), (IntKind.i64.wrap (x21.2.2.1 + ((a0.getD ((x21.2.2.2).toNat) default).2.2))), (IntKind.i64.wrap (x21.2.2.2 + 1)))))
 (.ret (.out (x21.1, x21.2.1, x21.2.2.1))))
 (0, 0, 0, 0) [] fun y26 =>
 .ret (y26.1, y26.2.1, y26.2.2)
noncomputable def normals_sum_C (a0 : (List (Int × Int × Int))) : CallS (Int × Int × Int) :=
  mkC [] hd Tryz.func225 (by kernel_rfl) (normals_sum_T a0) 0 [.pure (encL 3 enc_arr_3_int64 a0)] [] (fun r => .pure (enc_arr_3_int64 r)) (fun _ => []) (by kernel_rfl)
noncomputable def support_Normal_T (a0 : (Int × Int × Int)) : T ((Int × Int × Int) × Bool) :=
 .loop (fun (x29 : (Int × Int × Int)) => ⟨[(1, .ptr 0 0), (2, .ptr 1 0)], [(0, .box [pz x29.1, pz x29.2.1, pz x29.2.2]), (1, .box [pz 0, pz 0, pz 0])], [], 2⟩)
 (.exit 0) (fun (y36 : (Int × Int × Int)) => ⟨[(1, .ptr 0 0), (2, .ptr 1 0)], [(0, .box [pz y36.1, pz y36.2.1, pz y36.2.2]), (1, .box [pz 0, pz 0, pz 0])], [], 2⟩)
 (fun x29 => .call (support_inRange_C (x29.1, x29.2.1, x29.2.2)) [] fun y40 =>
 .br (!y40)
 (.unroll 4 <|
 .known true <|
 .ix 0 3 rfl <|
 .ok ((2 : Int) ≠ 0) (by decide) <|
 .ix 0 3 rfl <|
 .lit 6000 (1) <|
 .known true <|
 .ix 1 3 rfl <|
 .ok ((2 : Int) ≠ 0) (by decide) <|
 .ix 1 3 rfl <|
 .lit 6000 (2) <|
 .known true <|
 .ix 2 3 rfl <|
 .ok ((2 : Int) ≠ 0) (by decide) <|
 .ix 2 3 rfl <|
 .lit 6000 (3) <|
 .known false <|
 .ret (.next ((IntKind.i64.wrap (x29.1.tdiv 2)), (IntKind.i64.wrap (x29.2.1.tdiv 2)), (IntKind.i64.wrap (x29.2.2.tdiv 2)))))
 (.ret (.out (x29.1, x29.2.1, x29.2.2))))
 (a0.1, a0.2.1, a0.2.2) [] fun y36 =>
 .ret ((y36.1, y36.2.1, y36.2.2), (!((y36.1 == 0) && ((y36.2.1 == 0) && ((y36.2.2 == 0) && true)))))
noncomputable def support_Normal_C (a0 : (Int × Int × Int)) : CallS ((Int × Int × Int) × Bool) :=
  mkC [] hd Tryz.func182 (by kernel_rfl) (support_Normal_T a0) 0 [.pure (enc_arr_3_int64 a0)] [] (fun r => .tup [.pure (enc_arr_3_int64 r.1), .pure (.bool r.2)]) (fun _ => []) (by kernel_rfl)
noncomputable def normals_Mean_T (a0 : (List (S_Interval × S_Interval × S_Interval))) (a1 : (List (S_Interval × S_Interval × S_Interval))) : T ((Int × Int × Int) × Bool) :=
 .cut 3 (fun (y55 : Bool) => ⟨[(0, .pure (encL 6 enc_arr_3_Interval a0)), (1, .pure (encL 6 enc_arr_3_Interval a1)), (4, .ptr 0 0), (5, .ptr 1 0), (18, .pure (.bool y55))], [(0, .box [pz 0, pz 0, pz 0]), (1, .box [.ff])], [.func 224 [] [.ptr 0 0, .ptr 1 0]], 2⟩)
 (.call (shape_Placed_C a0) [] fun y56 =>
 .br (!y56)
 (.ret (.out true))
 (.call (shape_Placed_C a1) [] fun y57 =>
 .ret (.out (!y57)))) fun y55 =>
 .br y55
 (.ret ((0, 0, 0), false))
 (.call (shape_Centers_C a0) [] fun y62 =>
 .call (normals_sum_C y62) [] fun y63 =>
 .call (shape_Centers_C a1) [] fun y64 =>
 .call (normals_sum_C y64) [] fun y65 =>
 .unroll 4 <|
 .known true <|
 .ix 0 3 rfl <|
 .ix 0 3 rfl <|
 .name 9013 ((IntKind.i64.wrap ((IntKind.i64.wrap (y63.1 * ((a1.length : Nat) : Int))) - (IntKind.i64.wrap (y65.1 * ((a0.length : Nat) : Int)))))) fun z81 =>
 .ix 0 3 rfl <|
 .lit 10000 (1) <|
 .known true <|
 .ix 1 3 rfl <|
 .ix 1 3 rfl <|
 .name 9013 ((IntKind.i64.wrap ((IntKind.i64.wrap (y63.2.1 * ((a1.length : Nat) : Int))) - (IntKind.i64.wrap (y65.2.1 * ((a0.length : Nat) : Int)))))) fun z83 =>
 .ix 1 3 rfl <|
 .lit 10000 (2) <|
 .known true <|
 .ix 2 3 rfl <|
 .ix 2 3 rfl <|
 .name 9013 ((IntKind.i64.wrap ((IntKind.i64.wrap (y63.2.2 * ((a1.length : Nat) : Int))) - (IntKind.i64.wrap (y65.2.2 * ((a0.length : Nat) : Int)))))) fun z85 =>
 .ix 2 3 rfl <|
 .lit 10000 (3) <|
 .known false <|
 .call (support_Normal_C (z81, z83, z85)) [] fun y86 =>
 .ret (y86.1, y86.2))
noncomputable def normals_Mean_C (a0 : (List (S_Interval × S_Interval × S_Interval))) (a1 : (List (S_Interval × S_Interval × S_Interval))) : CallS ((Int × Int × Int) × Bool) :=
  mkC [⟨224, guard224⟩] hd Tryz.func175 (by kernel_rfl) (normals_Mean_T a0 a1) 0 [.pure (encL 6 enc_arr_3_Interval a0), .pure (encL 6 enc_arr_3_Interval a1)] [] (fun r => .tup [.pure (enc_arr_3_int64 r.1), .pure (.bool r.2)]) (fun _ => []) (by kernel_rfl)
noncomputable def normals_Axes_T : T (List (Int × Int × Int)) :=
 .conv 1006 (cvLit 3 enc_arr_3_int64 ([(1, 0, 0), ((-1), 0, 0), (0, 1, 0), (0, (-1), 0), (0, 0, 1), (0, 0, (-1))] : (List (Int × Int × Int))) 102) <|
 .ret ([(1, 0, 0), ((-1), 0, 0), (0, 1, 0), (0, (-1), 0), (0, 0, 1), (0, 0, (-1))] : (List (Int × Int × Int)))
noncomputable def normals_Axes_C : CallS (List (Int × Int × Int)) :=
  mkC [] hd Tryz.func176 (by kernel_rfl) (normals_Axes_T) 0 [] [] (fun r => .pure (encL 3 enc_arr_3_int64 r)) (fun _ => []) (by kernel_rfl)
noncomputable def nearest_usable_T (a0 : (List (Int × Int × Int))) : T Bool :=
 .cut 2 (fun (y258 : Bool) => ⟨[(0, .pure (encL 3 enc_arr_3_int64 a0)), (14, .pure (.bool y258))], [], [], 0⟩)
 (.br (decide (((a0.length : Nat) : Int) < 1))
 (.ret (.out true))
 (.ret (.out (decide (((a0.length : Nat) : Int) > 8))))) fun y258 =>
 .br y258
 (.ret false)
 (.loop (fun (x431 : Int) => ⟨[(15, .pure (encL 3 enc_arr_3_int64 a0)), (16, pz ((a0.length : Nat) : Int)), (17, pz x431)], [], [], 0⟩)
 (.exit 0) (fun (_ : U0) => ⟨[], [], [], 0⟩)
 (fun x431 => .br (decide (x431 < ((a0.length : Nat) : Int)))
 (.grd (0 ≤ x431 ∧ x431 < ((a0.length : Nat) : Int)) <|
 .loop (fun (x503 : Int) => ⟨[(15, .pure (encL 3 enc_arr_3_int64 a0)), (16, pz ((a0.length : Nat) : Int)), (17, pz x431), (21, .pure (enc_arr_3_int64 (a0.getD ((x431).toNat) default))), (22, pz x503)], [], [], 0⟩)
 (.exit 2) (fun (_ : U0) => ⟨[(15, .pure (encL 3 enc_arr_3_int64 a0)), (16, pz ((a0.length : Nat) : Int)), (17, pz x431)], [], [], 0⟩)
 (fun x503 => .br (decide (x503 < 3))
 (.grd (0 ≤ x503 ∧ x503 < ((3 : Nat) : Int)) <|
 .name 8000 ((([(a0.getD ((x431).toNat) default).1, (a0.getD ((x431).toNat) default).2.1, (a0.getD ((x431).toNat) default).2.2] : List Int).getD (x503).toNat 0)) fun z515 =>
 .cut 0 (fun (y516 : Bool) => ⟨[(15, .pure (encL 3 enc_arr_3_int64 a0)), (16, pz ((a0.length : Nat) : Int)), (17, pz x431), (21, .pure (enc_arr_3_int64 (a0.getD ((x431).toNat) default))), (22, pz x503), (30, .pure (.bool y516))], [], [], 0⟩)
 (.br (decide (z515 < (-268435456)))
 (.ret (.out true))
 (.ret (.out (decide (z515 > 268435456))))) fun y516 =>
 .br y516
 (.ret (.fin (.fin false)))
 (.ret (.next (IntKind.i64.wrap (x503 + 1)))))
 (.ret (.out .u)))
 0 [] fun _ =>
 .ret (.next (IntKind.i64.wrap (x431 + 1))))
 (.ret (.out .u)))
 0 [] fun _ =>
 .ret true)
noncomputable def nearest_usable_C (a0 : (List (Int × Int × Int))) : CallS Bool :=
  mkC [] hd Tryz.func138 (by kernel_rfl) (nearest_usable_T a0) 0 [.pure (encL 3 enc_arr_3_int64 a0)] [] (fun r => .pure (.bool r)) (fun _ => []) (by kernel_rfl)
noncomputable def nearest_newList_T (a0 : (List (Int × Int × Int))) : T ((List (Int × Int × Int)) × (List Int)) :=
 .conv 1002 (cvRep 1 encI_i64 2 (((a0.length : Nat) : Int)).toNat 0) <|
 .grd (0 ≤ ((a0.length : Nat) : Int) ∧ ((a0.length : Nat) : Int) ≤ ((a0.length : Nat) : Int) ∧ ((a0.length : Nat) : Int) ≤ 9223372036854775807 ∧ ((a0.length : Nat) : Int) * 8 ≤ 140737488355328) <|
 .grd (0 ≤ (0 : Int) ∧ (0 : Int) < (((List.replicate (((a0.length : Nat) : Int)).toNat (0 : Int)).length : Nat) : Int)) <|
 .conv 2002 (cvSet 1 encI_i64 (List.replicate (((a0.length : Nat) : Int)).toNat (0 : Int)) 2 ((0 : Int).toNat) 65536) <|
 .grd ((0 : Int).toNat < (List.replicate (((a0.length : Nat) : Int)).toNat (0 : Int)).length ∧ 0 ≤ (0 : Int).toNat) <|
 .ret (a0, ((List.replicate (((a0.length : Nat) : Int)).toNat (0 : Int)).set ((0 : Int).toNat) 65536))
noncomputable def nearest_newList_C (a0 : (List (Int × Int × Int))) : CallS ((List (Int × Int × Int)) × (List Int)) :=
  mkC [] hd Tryz.func139 (by kernel_rfl) (nearest_newList_T a0) 0 [.pure (encL 3 enc_arr_3_int64 a0)] [] (fun r => .agg [.pure (encL 3 enc_arr_3_int64 r.1), .vec 0]) (fun r => [(0, vecO 1 encI_i64 r.2 2)]) (by kernel_rfl)
noncomputable def list_sum_T (a0 : (List (Int × Int × Int))) (a1 : (List Int)) : T (Int × Int × Int) :=
 .loop (fun (x567 : (Int × Int × Int × Int)) => ⟨[(1, .ptr 1 0), (2, .ptr 2 0), (3, .ptr 3 0), (9, .pure (encL 3 enc_arr_3_int64 a0)), (10, pz ((a0.length : Nat) : Int)), (11, pz x567.2.2.2)], [(0, vecO 1 encI_i64 a1 2), (1, .box [.pure (encL 3 enc_arr_3_int64 a0), .vec 0]), (2, .box [pz 0, pz 0, pz 0]), (3, .box [pz x567.1, pz x567.2.1, pz x567.2.2.1])], [], 4⟩)
 (.exit 0) (fun (y624 : (Int × Int × Int)) => ⟨[(2, .ptr 1 0), (3, .ptr 2 0)], [(0, vecO 1 encI_i64 a1 2), (1, .box [pz 0, pz 0, pz 0]), (2, .box [pz y624.1, pz y624.2.1, pz y624.2.2])], [], 3⟩)
 (fun x567 => .br (decide (x567.2.2.2 < ((a0.length : Nat) : Int)))
 (.grd (0 ≤ x567.2.2.2 ∧ x567.2.2.2 < ((a0.length : Nat) : Int)) <|
 .unroll 4 <|
 .known true <|
 .ix 0 3 rfl <|
 .name 7001 ((a0.getD ((x567.2.2.2).toNat) default).1) fun z667 =>
 .ix 0 3 rfl <|
 .grd (0 ≤ x567.2.2.2 ∧ x567.2.2.2 < ((a1.length : Nat) : Int)) <|
 .grd ((x567.2.2.2).toNat < a1.length) <|
 .name 8010 ((IntKind.i64.wrap (x567.1 + (IntKind.i64.wrap ((a1.getD ((x567.2.2.2).toNat) default) * z667))))) fun z668 =>
 .ix 0 3 rfl <|
 .lit 9000 (1) <|
 .known true <|
 .ix 1 3 rfl <|
 .name 7001 ((a0.getD ((x567.2.2.2).toNat) default).2.1) fun z673 =>
 .ix 1 3 rfl <|
 .grd (0 ≤ x567.2.2.2 ∧ x567.2.2.2 < ((a1.length : Nat) : Int)) <|
 .grd ((x567.2.2.2).toNat < a1.length) <|
 .name 8010 ((IntKind.i64.wrap (x567.2.1 + (IntKind.i64.wrap ((a1.getD ((x567.2.2.2).toNat) default) * z673))))) fun z674 =>
 .ix 1 3 rfl <|
 .lit 9000 (2) <|
 .known true <|
 .ix 2 3 rfl <|
 .name 7001 ((a0.getD ((x567.2.2.2).toNat) default).2.2) fun z679 =>
 .ix 2 3 rfl <|
 .grd (0 ≤ x567.2.2.2 ∧ x567.2.2.2 < ((a1.length : Nat) : Int)) <|
 .grd ((x567.2.2.2).toNat < a1.length) <|
 .name 8010 ((IntKind.i64.wrap (x567.2.2.1 + (IntKind.i64.wrap ((a1.getD ((x567.2.2.2).toNat) default) * z679))))) fun z680 =>
 .ix 2 3 rfl <|
 .lit 9000 (3) <|
 .known false <|
 .ret (.next (z668, z674, z680, (IntKind.i64.wrap (x567.2.2.2 + 1)))))
 (.ret (.out (x567.1, x567.2.1, x567.2.2.1))))
 (0, 0, 0, 0) [] fun y624 =>
 .ret (y624.1, y624.2.1, y624.2.2)
noncomputable def list_sum_C (a0 : (List (Int × Int × Int))) (a1 : (List Int)) : CallS (Int × Int × Int) :=
  mkC [] hd Tryz.func180 (by kernel_rfl) (list_sum_T a0 a1) 1 [.agg [.pure (encL 3 enc_arr_3_int64 a0), .vec 0]] [(0, vecO 1 encI_i64 a1 2)] (fun r => .pure (enc_arr_3_int64 r)) (fun _ => [(0, vecO 1 encI_i64 a1 2)]) (by kernel_rfl)
noncomputable def nearest_minus_T (a0 : (Int × Int × Int)) (a1 : (Int × Int × Int)) : T (Int × Int × Int) :=
 .ix 0 3 rfl <|
 .ix 0 3 rfl <|
 .ix 1 3 rfl <|
 .ix 1 3 rfl <|
 .ix 2 3 rfl <|
 .ix 2 3 rfl <|
 .ret ((IntKind.i64.wrap (a0.1 - a1.1)), (IntKind.i64.wrap (a0.2.1 - a1.2.1)), (IntKind.i64.wrap (a0.2.2 - a1.2.2)))
noncomputable def nearest_minus_C (a0 : (Int × Int × Int)) (a1 : (Int × Int × Int)) : CallS (Int × Int × Int) :=
  mkC [] hd Tryz.func179 (by kernel_rfl) (nearest_minus_T a0 a1) 0 [.pure (enc_arr_3_int64 a0), .pure (enc_arr_3_int64 a1)] [] (fun r => .pure (enc_arr_3_int64 r)) (fun _ => []) (by kernel_rfl)
noncomputable def nearest_isClose_T (a0 : (Int × Int × Int)) (a1 : Int) : T Bool :=
 .loop (fun (x87 : (Int × Int)) => ⟨[(1, pz a1), (5, pz x87.1), (9, .pure (enc_arr_3_int64 a0)), (10, pz x87.2)], [], [], 0⟩)
 (.exit 0) (fun (y96 : Int) => ⟨[(1, pz a1), (5, pz y96)], [], [], 0⟩)
 (fun x87 => .br (decide (x87.2 < 3))
 (.grd (0 ≤ x87.2 ∧ x87.2 < ((3 : Nat) : Int)) <|
 .name 5003 ((max (([a0.1, a0.2.1, a0.2.2] : List Int).getD (x87.2).toNat 0) (IntKind.i64.wrap (0 - (([a0.1, a0.2.1, a0.2.2] : List Int).getD (x87.2).toNat 0))))) fun z103 =>
 .call (fixed_ShiftUp_C z103 16) [] fun y104 =>
 .ret (.next ((IntKind.i64.wrap (x87.1 + (IntKind.i64.wrap (y104 * y104)))), (IntKind.i64.wrap (x87.2 + 1)))))
 (.ret (.out x87.1)))
 (0, 0) [] fun y96 =>
 .ret (decide (y96 ≤ (IntKind.i64.wrap (a1 * a1))))
noncomputable def nearest_isClose_C (a0 : (Int × Int × Int)) (a1 : Int) : CallS Bool :=
  mkC [] hd Tryz.func181 (by kernel_rfl) (nearest_isClose_T a0 a1) 0 [.pure (enc_arr_3_int64 a0), pz a1] [] (fun r => .pure (.bool r)) (fun _ => []) (by kernel_rfl)
noncomputable def nearest_dot_T (a0 : (Int × Int × Int)) (a1 : (Int × Int × Int)) : T Int :=
 .ix 0 3 rfl <|
 .ix 0 3 rfl <|
 .ix 1 3 rfl <|
 .ix 1 3 rfl <|
 .ix 2 3 rfl <|
 .ix 2 3 rfl <|
 .name 1016 ((IntKind.i64.wrap ((IntKind.i64.wrap ((IntKind.i64.wrap (a0.1 * a1.1)) + (IntKind.i64.wrap (a0.2.1 * a1.2.1)))) + (IntKind.i64.wrap (a0.2.2 * a1.2.2))))) fun z2 =>
 .ret z2
noncomputable def nearest_dot_C (a0 : (Int × Int × Int)) (a1 : (Int × Int × Int)) : CallS Int :=
  mkC [] hd Tryz.func228 (by kernel_rfl) (nearest_dot_T a0 a1) 0 [.pure (enc_arr_3_int64 a0), .pure (enc_arr_3_int64 a1)] [] (fun r => pz r) (fun _ => []) (by kernel_rfl)
noncomputable def left_least_T (a0 : (List (Int × Int × Int))) (a1 : (List Int)) (a2 : (Int × Int × Int)) : T (Int × Int) :=
 .grd (0 ≤ (0 : Int) ∧ (0 : Int) < ((a0.length : Nat) : Int)) <|
 .call (nearest_dot_C a2 (a0.getD ((0 : Int).toNat) default)) [] fun y2 =>
 .loop (fun (x51 : (Int × Int × Int)) => ⟨[(3, .ptr 1 0), (6, pz x51.1), (7, pz x51.2.1), (20, .pure (encL 3 enc_arr_3_int64 a0)), (21, pz ((a0.length : Nat) : Int)), (22, pz x51.2.2)], [(0, vecO 1 encI_i64 a1 2), (1, .box [pz a2.1, pz a2.2.1, pz a2.2.2])], [], 2⟩)
 (.exit 0) (fun (y59 : (Int × Int)) => ⟨[(6, pz y59.1), (7, pz y59.2)], [(0, vecO 1 encI_i64 a1 2)], [], 1⟩)
 (fun x51 => .br (decide (x51.2.2 < ((a0.length : Nat) : Int)))
 (.cut 0 (fun (y64 : (Int × Int)) => ⟨[(3, .ptr 1 0), (6, pz y64.1), (7, pz y64.2), (20, .pure (encL 3 enc_arr_3_int64 a0)), (21, pz ((a0.length : Nat) : Int)), (22, pz x51.2.2)], [(0, vecO 1 encI_i64 a1 2), (1, .box [pz a2.1, pz a2.2.1, pz a2.2.2])], [], 2⟩)
 (.grd (0 ≤ x51.2.2 ∧ x51.2.2 < ((a0.length : Nat) : Int)) <|
 .call (nearest_dot_C a2 (a0.getD ((x51.2.2).toNat) default)) [] fun y66 =>
 .br (decide (y66 < x51.1))
 (.ret (.out (y66, x51.2.2)))
 (.ret (.out (x51.1, x51.2.1)))) fun y64 =>
 .ret (.next (y64.1, y64.2, (IntKind.i64.wrap (x51.2.2 + 1)))))
 (.ret (.out (x51.1, x51.2.1))))
 (y2, 0, 0) [] fun y59 =>
 .ret (y59.1, y59.2)
noncomputable def left_least_C (a0 : (List (Int × Int × Int))) (a1 : (List Int)) (a2 : (Int × Int × Int)) : CallS (Int × Int) :=
  mkC [] hd Tryz.func183 (by kernel_rfl) (left_least_T a0 a1 a2) 1 [.agg [.pure (encL 3 enc_arr_3_int64 a0), .vec 0], .pure (enc_arr_3_int64 a2)] [(0, vecO 1 encI_i64 a1 2)] (fun r => .tup [pz r.1, pz r.2]) (fun _ => [(0, vecO 1 encI_i64 a1 2)]) (by kernel_rfl)
noncomputable def right_greatest_T (a0 : (List (Int × Int × Int))) (a1 : (List Int)) (a2 : (Int × Int × Int)) : T (Int × Int) :=
 .grd (0 ≤ (0 : Int) ∧ (0 : Int) < ((a0.length : Nat) : Int)) <|
 .call (nearest_dot_C a2 (a0.getD ((0 : Int).toNat) default)) [] fun y2 =>
 .loop (fun (x51 : (Int × Int × Int)) => ⟨[(3, .ptr 1 0), (6, pz x51.1), (7, pz x51.2.1), (20, .pure (encL 3 enc_arr_3_int64 a0)), (21, pz ((a0.length : Nat) : Int)), (22, pz x51.2.2)], [(0, vecO 1 encI_i64 a1 2), (1, .box [pz a2.1, pz a2.2.1, pz a2.2.2])], [], 2⟩)
 (.exit 0) (fun (y59 : (Int × Int)) => ⟨[(6, pz y59.1), (7, pz y59.2)], [(0, vecO 1 encI_i64 a1 2)], [], 1⟩)
 (fun x51 => .br (decide (x51.2.2 < ((a0.length : Nat) : Int)))
 (.cut 0 (fun (y64 : (Int × Int)) => ⟨[(3, .ptr 1 0), (6, pz y64.1), (7, pz y64.2), (20, .pure (encL 3 enc_arr_3_int64 a0)), (21, pz ((a0.length : Nat) : Int)), (22, pz x51.2.2)], [(0, vecO 1 encI_i64 a1 2), (1, .box [pz a2.1, pz a2.2.1, pz a2.2.2])], [], 2⟩)
 (.grd (0 ≤ x51.2.2 ∧ x51.2.2 < ((a0.length : Nat) : Int)) <|
 .call (nearest_dot_C a2 (a0.getD ((x51.2.2).toNat) default)) [] fun y66 =>
 .br (decide (y66 > x51.1))
 (.ret (.out (y66, x51.2.2)))
 (.ret (.out (x51.1, x51.2.1)))) fun y64 =>
 .ret (.next (y64.1, y64.2, (IntKind.i64.wrap (x51.2.2 + 1)))))
 (.ret (.out (x51.1, x51.2.1))))
 (y2, 0, 0) [] fun y59 =>
 .ret (y59.1, y59.2)
noncomputable def right_greatest_C (a0 : (List (Int × Int × Int))) (a1 : (List Int)) (a2 : (Int × Int × Int)) : CallS (Int × Int) :=
  mkC [] hd Tryz.func184 (by kernel_rfl) (right_greatest_T a0 a1 a2) 1 [.agg [.pure (encL 3 enc_arr_3_int64 a0), .vec 0], .pure (enc_arr_3_int64 a2)] [(0, vecO 1 encI_i64 a1 2)] (fun r => .tup [pz r.1, pz r.2]) (fun _ => [(0, vecO 1 encI_i64 a1 2)]) (by kernel_rfl)
noncomputable def nearest_part_T (a0 : (Int × Int × Int)) (a1 : (Int × Int × Int)) : T Int :=
 .call (nearest_minus_C a0 a1) [] fun y2 =>
 .call (nearest_dot_C a0 y2) [] fun y5 =>
 .call (nearest_dot_C y2 y2) [] fun y6 =>
 .br (decide (y5 ≤ 0))
 (.ret 0)
 (.ok ((256 : Int) ≠ 0) (by decide) <|
 .grd ((max 1 (IntKind.i64.wrap (y6.tdiv 256))) ≠ 0) <|
 .ret (min 256 (IntKind.i64.wrap (y5.tdiv (max 1 (IntKind.i64.wrap (y6.tdiv 256)))))))
noncomputable def nearest_part_C (a0 : (Int × Int × Int)) (a1 : (Int × Int × Int)) : CallS Int :=
  mkC [] hd Tryz.func186 (by kernel_rfl) (nearest_part_T a0 a1) 0 [.pure (enc_arr_3_int64 a0), .pure (enc_arr_3_int64 a1)] [] (fun r => pz r) (fun _ => []) (by kernel_rfl)
noncomputable def list_gather_T (a0 : (List (Int × Int × Int))) (a1 : (List Int)) (a2 : Int) (a3 : Int) : T (List Int) :=
 .loop (fun (x69 : ((List Int) × Int × Int)) => ⟨[(1, pz a2), (2, pz a3), (3, .ptr 1 0), (6, pz x69.2.1), (11, .vec 0), (12, pz ((a1.length : Nat) : Int)), (13, pz x69.2.2)], [(0, vecO 1 encI_i64 x69.1 2), (1, .box [.pure (encL 3 enc_arr_3_int64 a0), .vec 0])], [], 2⟩)
 (.exit 0) (fun (y76 : ((List Int) × Int)) => ⟨[(1, pz a2), (3, .ptr 1 0), (6, pz y76.2)], [(0, vecO 1 encI_i64 y76.1 2), (1, .box [.pure (encL 3 enc_arr_3_int64 a0), .vec 0])], [], 2⟩)
 (fun x69 => .br (decide (x69.2.2 < ((a1.length : Nat) : Int)))
 (.grd (0 ≤ x69.2.2 ∧ x69.2.2 < ((x69.1.length : Nat) : Int)) <|
 .grd ((x69.2.2).toNat < x69.1.length) <|
 .ok ((256 : Int) ≠ 0) (by decide) <|
 .grd (0 ≤ x69.2.2 ∧ x69.2.2 < ((x69.1.length : Nat) : Int)) <|
 .grd ((x69.2.2).toNat < x69.1.length) <|
 .name 6006 ((IntKind.i64.wrap ((x69.1.getD ((x69.2.2).toNat) default) - (IntKind.i64.wrap ((IntKind.i64.wrap ((x69.1.getD ((x69.2.2).toNat) default) * a3)).tdiv 256))))) fun z81 =>
 .grd (0 ≤ x69.2.2 ∧ x69.2.2 < ((x69.1.length : Nat) : Int)) <|
 .conv 6008 (cvSet 1 encI_i64 x69.1 2 ((x69.2.2).toNat) z81) <|
 .grd ((x69.2.2).toNat < x69.1.length ∧ 0 ≤ (x69.2.2).toNat) <|
 .name 7002 ((IntKind.i64.wrap (x69.2.1 + (IntKind.i64.wrap ((IntKind.i64.wrap ((x69.1.getD ((x69.2.2).toNat) default) * a3)).tdiv 256))))) fun z82 =>
 .ret (.next ((x69.1.set ((x69.2.2).toNat) z81), z82, (IntKind.i64.wrap (x69.2.2 + 1)))))
 (.ret (.out (x69.1, x69.2.1))))
 (a1, 0, 0) [] fun y76 =>
 .grd (0 ≤ a2 ∧ a2 < ((y76.1.length : Nat) : Int)) <|
 .grd ((a2).toNat < y76.1.length) <|
 .grd (0 ≤ a2 ∧ a2 < ((y76.1.length : Nat) : Int)) <|
 .conv 9008 (cvSet 1 encI_i64 y76.1 2 ((a2).toNat) (IntKind.i64.wrap ((y76.1.getD ((a2).toNat) default) + y76.2))) <|
 .grd ((a2).toNat < y76.1.length ∧ 0 ≤ (a2).toNat) <|
 .ret (y76.1.set ((a2).toNat) (IntKind.i64.wrap ((y76.1.getD ((a2).toNat) default) + y76.2)))
noncomputable def list_gather_C (a0 : (List (Int × Int × Int))) (a1 : (List Int)) (a2 : Int) (a3 : Int) : CallS (List Int) :=
  mkC [] hd Tryz.func187 (by kernel_rfl) (list_gather_T a0 a1 a2 a3) 1 [.agg [.pure (encL 3 enc_arr_3_int64 a0), .vec 0], pz a2, pz a3] [(0, vecO 1 encI_i64 a1 2)] (fun _ => .tup []) (fun r => [(0, vecO 1 encI_i64 r 2)]) (by kernel_rfl)
noncomputable def state_run_T (a0 : (List (Int × Int × Int))) (a1 : (List Int)) (a2 : (List (Int × Int × Int))) (a3 : (List Int)) (a4 : Int) (a5 : Int) (a6 : Int) (a7 : Int) (a8 : Int) (a9 : Int) : T (Int × (List (Int × Int × Int)) × (List Int) × (List (Int × Int × Int)) × (List Int) × Int × Int × Int × Int) :=
 .loop (fun (x30 : ((List Int) × (List Int) × Int × Int × Int × Int)) => ⟨[(0, .ptr 0 0), (1, pz a8), (2, pz a9)], [(0, .box [.pure (encL 3 enc_arr_3_int64 a0), .vec 1, .pure (encL 3 enc_arr_3_int64 a2), .vec 2, pz x30.2.2.1, pz x30.2.2.2.1, pz x30.2.2.2.2.1, pz x30.2.2.2.2.2]), (1, vecO 1 encI_i64 x30.1 2), (2, vecO 1 encI_i64 x30.2.1 2)], [], 3⟩)
 .ret (fun (_ : U0) => ⟨[], [], [], 3⟩)
 (fun x30 => .call (list_sum_C a0 x30.1) [(0, 1)] fun y63 =>
 .call (list_sum_C a2 x30.2.1) [(0, 2)] fun y64 =>
 .call (nearest_minus_C y63 y64) [] fun y65 =>
 .call (nearest_isClose_C y65 a8) [] fun y69 =>
 .br y69
 (.ret (.fin (2, a0, x30.1, a2, x30.2.1, x30.2.2.1, x30.2.2.2.1, x30.2.2.2.2.1, x30.2.2.2.2.2)))
 (.ix 0 3 rfl <|
 .ok ((65536 : Int) ≠ 0) (by decide) <|
 .ix 1 3 rfl <|
 .ok ((65536 : Int) ≠ 0) (by decide) <|
 .ix 2 3 rfl <|
 .ok ((65536 : Int) ≠ 0) (by decide) <|
 .call (support_Normal_C ((IntKind.i64.wrap (y65.1.tdiv 65536)), (IntKind.i64.wrap (y65.2.1.tdiv 65536)), (IntKind.i64.wrap (y65.2.2.tdiv 65536)))) [] fun y71 =>
 .br (!y71.2)
 (.ret (.fin (0, a0, x30.1, a2, x30.2.1, y71.1.1, y71.1.2.1, y71.1.2.2, x30.2.2.2.2.2)))
 (.call (left_least_C a0 x30.1 y71.1) [(0, 1)] fun y73 =>
 .call (right_greatest_C a2 x30.2.1 y71.1) [(0, 2)] fun y75 =>
 .call (support_Norm_C y71.1) [] fun y79 =>
 .br (decide ((IntKind.i64.wrap (y73.1 - y75.1)) > (IntKind.i64.wrap (y79 * a8))))
 (.ret (.fin (1, a0, x30.1, a2, x30.2.1, y71.1.1, y71.1.2.1, y71.1.2.2, x30.2.2.2.2.2)))
 (.br (x30.2.2.2.2.2 == a9)
 (.ret (.fin (0, a0, x30.1, a2, x30.2.1, y71.1.1, y71.1.2.1, y71.1.2.2, x30.2.2.2.2.2)))
 (.grd (0 ≤ y73.2 ∧ y73.2 < ((a0.length : Nat) : Int)) <|
 .grd (0 ≤ y75.2 ∧ y75.2 < ((a2.length : Nat) : Int)) <|
 .call (nearest_minus_C (a0.getD ((y73.2).toNat) default) (a2.getD ((y75.2).toNat) default)) [] fun y82 =>
 .call (nearest_part_C ((IntKind.i64.wrap (y65.1.tdiv 65536)), (IntKind.i64.wrap (y65.2.1.tdiv 65536)), (IntKind.i64.wrap (y65.2.2.tdiv 65536))) y82) [] fun y83 =>
 .br (y83 == 0)
 (.ret (.fin (0, a0, x30.1, a2, x30.2.1, y71.1.1, y71.1.2.1, y71.1.2.2, x30.2.2.2.2.2)))
 (.call (list_gather_C a0 x30.1 y73.2 y83) [(0, 1)] fun y85 =>
 .call (list_gather_C a2 x30.2.1 y75.2 y83) [(0, 2)] fun y87 =>
 .ret (.next (y85, y87, y71.1.1, y71.1.2.1, y71.1.2.2, (IntKind.i64.wrap (x30.2.2.2.2.2 + 1))))))))))
 (a1, a3, a4, a5, a6, a7) [] fun _ =>
 .stop
noncomputable def state_run_C (a0 : (List (Int × Int × Int))) (a1 : (List Int)) (a2 : (List (Int × Int × Int))) (a3 : (List Int)) (a4 : Int) (a5 : Int) (a6 : Int) (a7 : Int) (a8 : Int) (a9 : Int) : CallS (Int × (List (Int × Int × Int)) × (List Int) × (List (Int × Int × Int)) × (List Int) × Int × Int × Int × Int) :=
  mkC [] hd Tryz.func140 (by kernel_rfl) (state_run_T a0 a1 a2 a3 a4 a5 a6 a7 a8 a9) 3 [.ptr 0 0, pz a8, pz a9] [(0, .box [.pure (encL 3 enc_arr_3_int64 a0), .vec 1, .pure (encL 3 enc_arr_3_int64 a2), .vec 2, pz a4, pz a5, pz a6, pz a7]), (1, vecO 1 encI_i64 a1 2), (2, vecO 1 encI_i64 a3 2)] (fun r => pz r.1) (fun r => [(0, .box [.pure (encL 3 enc_arr_3_int64 r.2.1), .vec 1, .pure (encL 3 enc_arr_3_int64 r.2.2.2.1), .vec 2, pz r.2.2.2.2.2.1, pz r.2.2.2.2.2.2.1, pz r.2.2.2.2.2.2.2.1, pz r.2.2.2.2.2.2.2.2]), (1, vecO 1 encI_i64 r.2.2.1 2), (2, vecO 1 encI_i64 r.2.2.2.2.1 2)]) (by kernel_rfl)
noncomputable def nearest_Search_T (a0 : (List (Int × Int × Int))) (a1 : (List (Int × Int × Int))) (a2 : Int) (a3 : Int) : T S_Nearest :=
 .cut 2 (fun (y12 : Bool) => ⟨[(0, .pure (encL 3 enc_arr_3_int64 a0)), (1, .pure (encL 3 enc_arr_3_int64 a1)), (2, pz a2), (3, pz a3), (8, .ptr 0 0), (34, .pure (.bool y12))], [(0, .box [pz 0, pz 0, pz 0, pz 0, .vec 1, .vec 2, pz 0]), (1, .nilv), (2, .nilv)], [], 3⟩)
 (.call (nearest_usable_C a0) [] fun y13 =>
 .br (!y13)
 (.ret (.out true))
 (.call (nearest_usable_C a1) [] fun y14 =>
 .br (!y14)
 (.ret (.out true))
 (.br (decide (a2 < 0))
 (.ret (.out true))
 (.br (decide (a2 > 2097152))
 (.ret (.out true))
 (.br (decide (a3 < 0))
 (.ret (.out true))
 (.ret (.out (decide (a3 > 64))))))))) fun y12 =>
 .br y12
 (.ret (⟨0, (0, 0, 0), nl, nl, 0⟩ : S_Nearest))
 (.call (nearest_newList_C a0) [] fun y17 =>
 .call (nearest_newList_C a1) [] fun y18 =>
 .call (state_run_C y17.1 y17.2 y18.1 y18.2 0 0 0 0 a2 a3) [(0, 451), (1, 67), (2, 259)] fun y20 =>
 .ret (⟨y20.1, (y20.2.2.2.2.2.1, y20.2.2.2.2.2.2.1, y20.2.2.2.2.2.2.2.1), y20.2.2.1, y20.2.2.2.2.1, y20.2.2.2.2.2.2.2.2⟩ : S_Nearest))
noncomputable def nearest_Search_C (a0 : (List (Int × Int × Int))) (a1 : (List (Int × Int × Int))) (a2 : Int) (a3 : Int) : CallS S_Nearest :=
  mkC [] hd Tryz.func83 (by kernel_rfl) (nearest_Search_T a0 a1 a2 a3) 0 [.pure (encL 3 enc_arr_3_int64 a0), .pure (encL 3 enc_arr_3_int64 a1), pz a2, pz a3] [] (fun r => .pure (enc_Nearest r)) (fun _ => []) (by kernel_rfl)
end Go.Abs
