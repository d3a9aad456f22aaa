/-
  D3 (a part of a claim: our own text).
-/
import Derived.Test.YtomogglfhepnmaaGreatXHM2
namespace Go.Abs
open Go.Proofs
noncomputable def normals_candidates_1_T {o : (Int × Int × Int) → Option Bool} (Y : YldS Tryz.prog enc_arr_3_int64 o) (a0 : (List (S_Interval × S_Interval × S_Interval))) (a1 : (List (S_Interval × S_Interval × S_Interval))) (a2 : Int) (a3 : Int) (a4 : (List (Int × Int × Int))) : T (Bool × (Int × Int × Int) × (List (S_Interval × S_Interval × S_Interval)) × (List (S_Interval × S_Interval × S_Interval)) × Int × Int × (List (Int × Int × Int))) :=
 .cut 1 (fun (y22 : Bool) => ⟨[(0, .yld Y.l), (1, .ptr 1 0), (2, .ptr 2 0), (3, .ptr 3 0), (4, .ptr 4 0), (5, .ptr 5 0), (31, .pure (.bool y22))], [(0, .tok Y.τ (tokP false (enc_arr_3_int64 default))), (1, .box [.pure (encL 6 enc_arr_3_Interval a0)]), (2, .box [.pure (encL 6 enc_arr_3_Interval a1)]), (3, .box [pz a2]), (4, .box [pz a3]), (5, .box [.pure (encL 3 enc_arr_3_int64 a4)])], [], 6⟩)
 (.call (shape_Placed_C a0) [] fun y23 =>
 .br (!y23)
 (.ret (.out true))
 (.call (shape_Placed_C a1) [] fun y24 =>
 .br (!y24)
 (.ret (.out true))
 (.call (normals_isRadius_C a2) [] fun y25 =>
 .br (!y25)
 (.ret (.out true))
 (.call (normals_isRadius_C a3) [] fun y26 =>
 .ret (.out (!y26)))))) fun y22 =>
 .br y22
 (.ret (false, default, a0, a1, a2, a3, a4))
 (.loop (fun (x87 : (Int × Bool × (Int × Int × Int))) => ⟨[(0, .yld Y.l), (1, .ptr 1 0), (2, .ptr 2 0), (3, .ptr 3 0), (4, .ptr 4 0), (32, .pure (encL 3 enc_arr_3_int64 a4)), (33, pz ((a4.length : Nat) : Int)), (34, pz x87.1)], [(0, .tok Y.τ (tokP x87.2.1 (enc_arr_3_int64 x87.2.2))), (1, .box [.pure (encL 6 enc_arr_3_Interval a0)]), (2, .box [.pure (encL 6 enc_arr_3_Interval a1)]), (3, .box [pz a2]), (4, .box [pz a3]), (5, .box [.pure (encL 3 enc_arr_3_int64 a4)])], [], 6⟩)
 (.exit 0) (fun (y102 : (Bool × (Int × Int × Int))) => ⟨[(0, .yld Y.l), (1, .ptr 1 0), (2, .ptr 2 0), (3, .ptr 3 0), (4, .ptr 4 0)], [(0, .tok Y.τ (tokP y102.1 (enc_arr_3_int64 y102.2))), (1, .box [.pure (encL 6 enc_arr_3_Interval a0)]), (2, .box [.pure (encL 6 enc_arr_3_Interval a1)]), (3, .box [pz a2]), (4, .box [pz a3]), (5, .box [.pure (encL 3 enc_arr_3_int64 a4)])], [], 6⟩)
 (fun x87 => .br (decide (x87.1 < ((a4.length : Nat) : Int)))
 (.grd (0 ≤ x87.1 ∧ x87.1 < ((a4.length : Nat) : Int)) <|
 .cut 0 (fun (y114 : (Bool × Bool × (Int × Int × Int))) => ⟨[(0, .yld Y.l), (1, .ptr 1 0), (2, .ptr 2 0), (3, .ptr 3 0), (4, .ptr 4 0), (32, .pure (encL 3 enc_arr_3_int64 a4)), (33, pz ((a4.length : Nat) : Int)), (34, pz x87.1), (45, .pure (.bool y114.1))], [(0, .tok Y.τ (tokP y114.2.1 (enc_arr_3_int64 y114.2.2))), (1, .box [.pure (encL 6 enc_arr_3_Interval a0)]), (2, .box [.pure (encL 6 enc_arr_3_Interval a1)]), (3, .box [pz a2]), (4, .box [pz a3]), (5, .box [.pure (encL 3 enc_arr_3_int64 a4)])], [], 6⟩)
 (.call (support_Usable_C (a4.getD ((x87.1).toNat) default)) [] fun y115 =>
 .br y115
 (.call (Y.C x87.2.1 x87.2.2 (a4.getD ((x87.1).toNat) default)) [(0, 0)] fun y116 =>
 .ret (.out ((!(!y116)), y116, (a4.getD ((x87.1).toNat) default))))
 (.ret (.out (false, x87.2.1, x87.2.2)))) fun y114 =>
 .br y114.1
 (.ret (.fin (y114.2.1, y114.2.2, a0, a1, a2, a3, a4)))
 (.ret (.next ((IntKind.i64.wrap (x87.1 + 1)), y114.2.1, y114.2.2))))
 (.ret (.out (x87.2.1, x87.2.2))))
 (0, false, default) [] fun y102 =>
 .call (normals_Mean_C a0 a1) [] fun y124 =>
 .cut 0 (fun (y127 : (Bool × Bool × (Int × Int × Int))) => ⟨[(0, .yld Y.l), (1, .ptr 1 0), (2, .ptr 2 0), (3, .ptr 3 0), (4, .ptr 4 0), (59, .pure (.bool y127.1))], [(0, .tok Y.τ (tokP y127.2.1 (enc_arr_3_int64 y127.2.2))), (1, .box [.pure (encL 6 enc_arr_3_Interval a0)]), (2, .box [.pure (encL 6 enc_arr_3_Interval a1)]), (3, .box [pz a2]), (4, .box [pz a3]), (5, .box [.pure (encL 3 enc_arr_3_int64 a4)])], [], 6⟩)
 (.br y124.2
 (.call (Y.C y102.1 y102.2 y124.1) [(0, 0)] fun y128 =>
 .ret (.out ((!(!y128)), y128, y124.1)))
 (.ret (.out (false, y102.1, y102.2)))) fun y127 =>
 .br y127.1
 (.ret (y127.2.1, y127.2.2, a0, a1, a2, a3, a4))
 (.call (normals_Axes_C) [] fun y147 =>
 .loop (fun (x153 : (Int × Bool × (Int × Int × Int))) => ⟨[(0, .yld Y.l), (1, .ptr 1 0), (2, .ptr 2 0), (3, .ptr 3 0), (4, .ptr 4 0), (60, .pure (encL 3 enc_arr_3_int64 y147)), (61, pz ((y147.length : Nat) : Int)), (62, pz x153.1)], [(0, .tok Y.τ (tokP x153.2.1 (enc_arr_3_int64 x153.2.2))), (1, .box [.pure (encL 6 enc_arr_3_Interval a0)]), (2, .box [.pure (encL 6 enc_arr_3_Interval a1)]), (3, .box [pz a2]), (4, .box [pz a3]), (5, .box [.pure (encL 3 enc_arr_3_int64 a4)])], [], 6⟩)
 (.exit 2) (fun (y158 : (Bool × (Int × Int × Int))) => ⟨[(0, .yld Y.l), (1, .ptr 1 0), (2, .ptr 2 0), (3, .ptr 3 0), (4, .ptr 4 0)], [(0, .tok Y.τ (tokP y158.1 (enc_arr_3_int64 y158.2))), (1, .box [.pure (encL 6 enc_arr_3_Interval a0)]), (2, .box [.pure (encL 6 enc_arr_3_Interval a1)]), (3, .box [pz a2]), (4, .box [pz a3]), (5, .box [.pure (encL 3 enc_arr_3_int64 a4)])], [], 6⟩)
 (fun x153 => .br (decide (x153.1 < ((y147.length : Nat) : Int)))
 (.grd (0 ≤ x153.1 ∧ x153.1 < ((y147.length : Nat) : Int)) <|
 .call (Y.C x153.2.1 x153.2.2 (y147.getD ((x153.1).toNat) default)) [(0, 0)] fun y162 =>
 .br (!(!y162))
 (.ret (.fin (y162, (y147.getD ((x153.1).toNat) default), a0, a1, a2, a3, a4)))
 (.ret (.next ((IntKind.i64.wrap (x153.1 + 1)), y162, (y147.getD ((x153.1).toNat) default)))))
 (.ret (.out (x153.2.1, x153.2.2))))
 (0, y127.2.1, y127.2.2) [] fun y158 =>
 .call (shape_Centers_C a0) [] fun y166 =>
 .call (shape_Centers_C a1) [] fun y167 =>
 .call (nearest_Search_C y166 y167 (IntKind.i64.wrap (a2 + a3)) 64) [] fun y168 =>
 .call (support_Usable_C y168.Normal) [] fun y170 =>
 .br y170
 (.call (Y.C y158.1 y158.2 y168.Normal) [(0, 0)] fun y171 =>
 .ret (y171, y168.Normal, a0, a1, a2, a3, a4))
 (.ret (y158.1, y158.2, a0, a1, a2, a3, a4))))
noncomputable def normals_candidates_1_C {o : (Int × Int × Int) → Option Bool} (Y : YldS Tryz.prog enc_arr_3_int64 o) (a0 : (List (S_Interval × S_Interval × S_Interval))) (a1 : (List (S_Interval × S_Interval × S_Interval))) (a2 : Int) (a3 : Int) (a4 : (List (Int × Int × Int))) : CallS (Bool × (Int × Int × Int) × (List (S_Interval × S_Interval × S_Interval)) × (List (S_Interval × S_Interval × S_Interval)) × Int × Int × (List (Int × Int × Int))) :=
  mkC [] hd Tryz.func172 (by kernel_rfl) (normals_candidates_1_T Y a0 a1 a2 a3 a4) 6 [.yld Y.l, .ptr 1 0, .ptr 2 0, .ptr 3 0, .ptr 4 0, .ptr 5 0] [(0, .tok Y.τ (tokP false (enc_arr_3_int64 default))), (1, .box [.pure (encL 6 enc_arr_3_Interval a0)]), (2, .box [.pure (encL 6 enc_arr_3_Interval a1)]), (3, .box [pz a2]), (4, .box [pz a3]), (5, .box [.pure (encL 3 enc_arr_3_int64 a4)])] (fun _ => .tup []) (fun r => [(0, .tok Y.τ (tokP r.1 (enc_arr_3_int64 r.2.1))), (1, .box [.pure (encL 6 enc_arr_3_Interval r.2.2.1)]), (2, .box [.pure (encL 6 enc_arr_3_Interval r.2.2.2.1)]), (3, .box [pz r.2.2.2.2.1]), (4, .box [pz r.2.2.2.2.2.1]), (5, .box [.pure (encL 3 enc_arr_3_int64 r.2.2.2.2.2.2)])]) (by kernel_rfl)
noncomputable def normals_Find_B (a0 : (List (S_Interval × S_Interval × S_Interval))) (a1 : Int) (a2 : (List (S_Interval × S_Interval × S_Interval))) (a3 : Int) (_a4 : (List (Int × Int × Int))) (x : (Int × Int × Int)) : T Bool :=
 .call (plane_Separates_C x a0 a1 a2 a3) [] fun y3 =>
 .br y3
 (.ret true)
 (.ret false)
noncomputable def normals_Find_C (a0 : (List (S_Interval × S_Interval × S_Interval))) (a1 : Int) (a2 : (List (S_Interval × S_Interval × S_Interval))) (a3 : Int) (a4 : (List (Int × Int × Int))) : CallS ((Int × Int × Int) × Bool) :=
  mkR (encX := enc_arr_3_int64) [⟨135, guard135⟩] hd Tryz.func82 (by kernel_rfl) (.call (normals_candidates_C a0 a1 a2 a3 a4) [] fun y1 =>
  .ret y1)
  (normals_Find_B a0 a1 a2 a3 a4) [(0, .box [.pure (encL 6 enc_arr_3_Interval a0)]), (64, .box [pz a1]), (128, .box [.pure (encL 6 enc_arr_3_Interval a2)]), (192, .box [pz a3]), (256, .box [pz 0, pz 0, pz 0]), (320, .box [.ff])]
  (fun p => [(0, .box [.pure (encL 6 enc_arr_3_Interval a0)]), (64, .box [pz a1]), (128, .box [.pure (encL 6 enc_arr_3_Interval a2)]), (192, .box [pz a3]), (256, .box (p.cells.map .pure)), (320, .box [.tt])]) [(0, 960), (1, 832), (2, 833), (3, 834), (4, 835), (5, 836)] (fun r => r.1) (fun r => r.2.1)
  (fun y1 Y => normals_candidates_1_C Y y1.1 y1.2.1 y1.2.2.1 y1.2.2.2.1 y1.2.2.2.2)
  (.ret ((0, 0, 0), false)) (fun x => (x, true)) (fun _ _ => rfl) 0 [.pure (encL 6 enc_arr_3_Interval a0), pz a1, .pure (encL 6 enc_arr_3_Interval a2), pz a3, .pure (encL 3 enc_arr_3_int64 a4)] [] (fun r => .tup [.pure (enc_arr_3_int64 r.1), .pure (.bool r.2)]) (fun _ => []) (by kernel_rfl)
set_option maxHeartbeats 8000000 in
set_option maxRecDepth 20000 in
noncomputable def shape_Combine_T (a0 : (List (S_Interval × S_Interval × S_Interval))) (a1 : (List Int)) : T ((S_Interval × S_Interval × S_Interval) × Int × Bool) :=
 .cut 2 (fun (y599 : Bool) => ⟨[(0, .pure (encL 6 enc_arr_3_Interval a0)), (1, .pure (encL 1 encI_i64 a1)), (4, .ptr 0 0), (22, .pure (.bool y599))], [(0, .box [pz 0, pz 0, pz 0, pz 0, pz 0, pz 0])], [], 1⟩)
 (.call (shape_Placed_C a0) [] fun y600 =>
 .br (!y600)
 (.ret (.out true))
 (.ret (.out (((a1.length : Nat) : Int) != ((a0.length : Nat) : Int))))) fun y599 =>
 .br y599
 (.ret (((⟨0, 0⟩ : S_Interval), (⟨0, 0⟩ : S_Interval), (⟨0, 0⟩ : S_Interval)), 0, false))
 (.loop (fun (x1021 : (Int × Int × Int × Int × Int × Int × Int × Int)) => ⟨[(0, .pure (encL 6 enc_arr_3_Interval a0)), (4, .ptr 0 0), (7, .ptr 1 0), (8, pz x1021.2.2.2.2.2.2.1), (24, .pure (encL 1 encI_i64 a1)), (25, pz ((a1.length : Nat) : Int)), (26, pz x1021.2.2.2.2.2.2.2)], [(0, .box [pz 0, pz 0, pz 0, pz 0, pz 0, pz 0]), (1, .box [pz x1021.1, pz x1021.2.1, pz x1021.2.2.1, pz x1021.2.2.2.1, pz x1021.2.2.2.2.1, pz x1021.2.2.2.2.2.1])], [], 2⟩)
 (.exit 0) (fun (y1126 : (Int × Int × Int × Int × Int × Int × Int)) => ⟨[(4, .ptr 0 0), (7, .ptr 1 0), (8, pz y1126.2.2.2.2.2.2)], [(0, .box [pz 0, pz 0, pz 0, pz 0, pz 0, pz 0]), (1, .box [pz y1126.1, pz y1126.2.1, pz y1126.2.2.1, pz y1126.2.2.2.1, pz y1126.2.2.2.2.1, pz y1126.2.2.2.2.2.1])], [], 2⟩)
 (fun x1021 => .br (decide (x1021.2.2.2.2.2.2.2 < ((a1.length : Nat) : Int)))
 (.grd (0 ≤ x1021.2.2.2.2.2.2.2 ∧ x1021.2.2.2.2.2.2.2 < ((a1.length : Nat) : Int)) <|
 .cut 1 (fun (y1180 : Bool) => ⟨[(0, .pure (encL 6 enc_arr_3_Interval a0)), (4, .ptr 0 0), (7, .ptr 1 0), (8, pz x1021.2.2.2.2.2.2.1), (9, pz x1021.2.2.2.2.2.2.2), (10, pz (a1.getD ((x1021.2.2.2.2.2.2.2).toNat) default)), (24, .pure (encL 1 encI_i64 a1)), (25, pz ((a1.length : Nat) : Int)), (26, pz x1021.2.2.2.2.2.2.2), (36, .pure (.bool y1180))], [(0, .box [pz 0, pz 0, pz 0, pz 0, pz 0, pz 0]), (1, .box [pz x1021.1, pz x1021.2.1, pz x1021.2.2.1, pz x1021.2.2.2.1, pz x1021.2.2.2.2.1, pz x1021.2.2.2.2.2.1])], [], 2⟩)
 (.br (decide ((a1.getD ((x1021.2.2.2.2.2.2.2).toNat) default) < 0))
 (.ret (.out true))
 (.ret (.out (decide ((a1.getD ((x1021.2.2.2.2.2.2.2).toNat) default) > 65536))))) fun y1180 =>
 .br y1180
 (.ret (.fin (((⟨0, 0⟩ : S_Interval), (⟨0, 0⟩ : S_Interval), (⟨0, 0⟩ : S_Interval)), 0, false)))
 (.grd (0 ≤ x1021.2.2.2.2.2.2.2 ∧ x1021.2.2.2.2.2.2.2 < ((a0.length : Nat) : Int)) <|
 .unroll 4 <|
 .known true <|
 .ix 0 3 rfl <|
 .ix 0 3 rfl <|
 .name 14007 ((IntKind.i64.wrap ((a1.getD ((x1021.2.2.2.2.2.2.2).toNat) default) * ((a0.getD ((x1021.2.2.2.2.2.2.2).toNat) default).1.Lo)))) fun z1203 =>
 .name 14008 ((IntKind.i64.wrap (x1021.1 + z1203))) fun z1204 =>
 .ix 0 3 rfl <|
 .ix 0 3 rfl <|
 .name 15007 ((IntKind.i64.wrap ((a1.getD ((x1021.2.2.2.2.2.2.2).toNat) default) * ((a0.getD ((x1021.2.2.2.2.2.2.2).toNat) default).1.Hi)))) fun z1205 =>
 .name 15008 ((IntKind.i64.wrap (x1021.2.1 + z1205))) fun z1206 =>
 .ix 0 3 rfl <|
 .lit 16000 (1) <|
 .known true <|
 .ix 1 3 rfl <|
 .ix 1 3 rfl <|
 .name 14007 ((IntKind.i64.wrap ((a1.getD ((x1021.2.2.2.2.2.2.2).toNat) default) * ((a0.getD ((x1021.2.2.2.2.2.2.2).toNat) default).2.1.Lo)))) fun z1215 =>
 .name 14008 ((IntKind.i64.wrap (x1021.2.2.1 + z1215))) fun z1216 =>
 .ix 1 3 rfl <|
 .ix 1 3 rfl <|
 .name 15007 ((IntKind.i64.wrap ((a1.getD ((x1021.2.2.2.2.2.2.2).toNat) default) * ((a0.getD ((x1021.2.2.2.2.2.2.2).toNat) default).2.1.Hi)))) fun z1217 =>
 .name 15008 ((IntKind.i64.wrap (x1021.2.2.2.1 + z1217))) fun z1218 =>
 .ix 1 3 rfl <|
 .lit 16000 (2) <|
 .known true <|
 .ix 2 3 rfl <|
 .ix 2 3 rfl <|
 .name 14007 ((IntKind.i64.wrap ((a1.getD ((x1021.2.2.2.2.2.2.2).toNat) default) * ((a0.getD ((x1021.2.2.2.2.2.2.2).toNat) default).2.2.Lo)))) fun z1227 =>
 .name 14008 ((IntKind.i64.wrap (x1021.2.2.2.2.1 + z1227))) fun z1228 =>
 .ix 2 3 rfl <|
 .ix 2 3 rfl <|
 .name 15007 ((IntKind.i64.wrap ((a1.getD ((x1021.2.2.2.2.2.2.2).toNat) default) * ((a0.getD ((x1021.2.2.2.2.2.2.2).toNat) default).2.2.Hi)))) fun z1229 =>
 .name 15008 ((IntKind.i64.wrap (x1021.2.2.2.2.2.1 + z1229))) fun z1230 =>
 .ix 2 3 rfl <|
 .lit 16000 (3) <|
 .known false <|
 .ret (.next (z1204, z1206, z1216, z1218, z1228, z1230, (IntKind.i64.wrap (x1021.2.2.2.2.2.2.1 + (a1.getD ((x1021.2.2.2.2.2.2.2).toNat) default))), (IntKind.i64.wrap (x1021.2.2.2.2.2.2.2 + 1))))))
 (.ret (.out (x1021.1, x1021.2.1, x1021.2.2.1, x1021.2.2.2.1, x1021.2.2.2.2.1, x1021.2.2.2.2.2.1, x1021.2.2.2.2.2.2.1))))
 (0, 0, 0, 0, 0, 0, 0, 0) [] fun y1126 =>
 .cut 1 (fun (y1232 : Bool) => ⟨[(4, .ptr 0 0), (7, .ptr 1 0), (8, pz y1126.2.2.2.2.2.2), (78, .pure (.bool y1232))], [(0, .box [pz 0, pz 0, pz 0, pz 0, pz 0, pz 0]), (1, .box [pz y1126.1, pz y1126.2.1, pz y1126.2.2.1, pz y1126.2.2.2.1, pz y1126.2.2.2.2.1, pz y1126.2.2.2.2.2.1])], [], 2⟩)
 (.br (decide (y1126.2.2.2.2.2.2 < 1))
 (.ret (.out true))
 (.ret (.out (decide (y1126.2.2.2.2.2.2 > 65536))))) fun y1232 =>
 .br y1232
 (.ret (((⟨0, 0⟩ : S_Interval), (⟨0, 0⟩ : S_Interval), (⟨0, 0⟩ : S_Interval)), 0, false))
 (.ret (((⟨y1126.1, y1126.2.1⟩ : S_Interval), (⟨y1126.2.2.1, y1126.2.2.2.1⟩ : S_Interval), (⟨y1126.2.2.2.2.1, y1126.2.2.2.2.2.1⟩ : S_Interval)), y1126.2.2.2.2.2.2, true)))
noncomputable def shape_Combine_C (a0 : (List (S_Interval × S_Interval × S_Interval))) (a1 : (List Int)) : CallS ((S_Interval × S_Interval × S_Interval) × Int × Bool) :=
  mkC [] hd Tryz.func190 (by kernel_rfl) (shape_Combine_T a0 a1) 0 [.pure (encL 6 enc_arr_3_Interval a0), .pure (encL 1 encI_i64 a1)] [] (fun r => .tup [.pure (enc_arr_3_Interval r.1), pz r.2.1, .pure (.bool r.2.2)]) (fun _ => []) (by kernel_rfl)
noncomputable def overlap_isRadius_T (a0 : Int) : T Bool :=
 .br (decide (a0 ≥ 0))
 (.ret (decide (a0 ≤ 1048576)))
 (.ret false)
noncomputable def overlap_isRadius_C (a0 : Int) : CallS Bool :=
  mkC [] hd Tryz.func191 (by kernel_rfl) (overlap_isRadius_T a0) 0 [pz a0] [] (fun r => .pure (.bool r)) (fun _ => []) (by kernel_rfl)
noncomputable def overlap_farthest_T (a0 : (List Int)) : T Int :=
 .loop (fun (x5 : (Int × Int)) => ⟨[(3, pz x5.1), (6, .pure (encL 1 encI_i64 a0)), (7, pz ((a0.length : Nat) : Int)), (8, pz x5.2)], [], [], 0⟩)
 (.exit 0) (fun (y6 : Int) => ⟨[(3, pz y6)], [], [], 0⟩)
 (fun x5 => .br (decide (x5.2 < ((a0.length : Nat) : Int)))
 (.grd (0 ≤ x5.2 ∧ x5.2 < ((a0.length : Nat) : Int)) <|
 .ret (.next ((max (max x5.1 (a0.getD ((x5.2).toNat) default)) (IntKind.i64.wrap (0 - (a0.getD ((x5.2).toNat) default)))), (IntKind.i64.wrap (x5.2 + 1)))))
 (.ret (.out x5.1)))
 (0, 0) [] fun y6 =>
 .ret y6
noncomputable def overlap_farthest_C (a0 : (List Int)) : CallS Int :=
  mkC [] hd Tryz.func192 (by kernel_rfl) (overlap_farthest_T a0) 0 [.pure (encL 1 encI_i64 a0)] [] (fun r => pz r) (fun _ => []) (by kernel_rfl)
noncomputable def overlap_Excess_T (a0 : (List Int)) (a1 : (List Int)) (a2 : (List (S_Interval × S_Interval × S_Interval))) (a3 : Int) (a4 : (List (S_Interval × S_Interval × S_Interval))) (a5 : Int) : T (Int × Bool) :=
 .call (shape_Combine_C a2 a0) [] fun y84 =>
 .call (shape_Combine_C a4 a1) [] fun y86 =>
 .cut 1 (fun (y98 : Bool) => ⟨[(3, pz a3), (5, pz a5), (12, .ptr 0 0), (13, .ptr 1 0), (14, .ptr 2 0), (15, pz y84.2.1), (17, .ptr 3 0), (59, .pure (.bool y98))], [(0, .box [pz 0]), (1, .box [.ff]), (2, .box [pz y84.1.1.Lo, pz y84.1.1.Hi, pz y84.1.2.1.Lo, pz y84.1.2.1.Hi, pz y84.1.2.2.Lo, pz y84.1.2.2.Hi]), (3, .box [pz y86.1.1.Lo, pz y86.1.1.Hi, pz y86.1.2.1.Lo, pz y86.1.2.1.Hi, pz y86.1.2.2.Lo, pz y86.1.2.2.Hi])], [.func 189 [] [.ptr 0 0, .ptr 1 0]], 4⟩)
 (.br (!y84.2.2)
 (.ret (.out true))
 (.br (!y86.2.2)
 (.ret (.out true))
 (.br (y84.2.1 != y86.2.1)
 (.ret (.out true))
 (.call (overlap_isRadius_C a3) [] fun y99 =>
 .br (!y99)
 (.ret (.out true))
 (.call (overlap_isRadius_C a5) [] fun y100 =>
 .ret (.out (!y100))))))) fun y98 =>
 .br y98
 (.ret (0, false))
 (.unroll 4 <|
 .known true <|
 .ix 0 3 rfl <|
 .ix 0 3 rfl <|
 .ix 0 3 rfl <|
 .ix 0 3 rfl <|
 .conv 11018 (cvLit 1 encI_i64 ([(IntKind.i64.wrap (y84.1.1.Lo - y86.1.1.Hi)), (IntKind.i64.wrap (y84.1.1.Hi - y86.1.1.Lo))] : (List Int)) 2) <|
 .call (overlap_farthest_C ([(IntKind.i64.wrap (y84.1.1.Lo - y86.1.1.Hi)), (IntKind.i64.wrap (y84.1.1.Hi - y86.1.1.Lo))] : (List Int))) [] fun y150 =>
 .grd (y84.2.1 ≠ 0) <|
 .br (decide ((IntKind.i64.wrap ((IntKind.i64.wrap ((IntKind.i64.wrap (y150 + y84.2.1)) - 1)).tdiv y84.2.1)) > (IntKind.i64.wrap (a3 + a5))))
 (.ret ((-1), true))
 (.name 15003 ((IntKind.i64.wrap ((IntKind.i64.wrap ((IntKind.i64.wrap ((IntKind.i64.wrap (y150 + y84.2.1)) - 1)).tdiv y84.2.1)) * (IntKind.i64.wrap ((IntKind.i64.wrap ((IntKind.i64.wrap (y150 + y84.2.1)) - 1)).tdiv y84.2.1))))) fun z151 =>
 .name 15004 ((IntKind.i64.wrap ((IntKind.i64.wrap ((IntKind.i64.wrap (a3 + a5)) * (IntKind.i64.wrap (a3 + a5)))) - z151))) fun z152 =>
 .lit 16000 (1) <|
 .known true <|
 .ix 1 3 rfl <|
 .ix 1 3 rfl <|
 .ix 1 3 rfl <|
 .ix 1 3 rfl <|
 .conv 11018 (cvLit 1 encI_i64 ([(IntKind.i64.wrap (y84.1.2.1.Lo - y86.1.2.1.Hi)), (IntKind.i64.wrap (y84.1.2.1.Hi - y86.1.2.1.Lo))] : (List Int)) 2) <|
 .call (overlap_farthest_C ([(IntKind.i64.wrap (y84.1.2.1.Lo - y86.1.2.1.Hi)), (IntKind.i64.wrap (y84.1.2.1.Hi - y86.1.2.1.Lo))] : (List Int))) [] fun y158 =>
 .grd (y84.2.1 ≠ 0) <|
 .br (decide ((IntKind.i64.wrap ((IntKind.i64.wrap ((IntKind.i64.wrap (y158 + y84.2.1)) - 1)).tdiv y84.2.1)) > (IntKind.i64.wrap (a3 + a5))))
 (.ret ((-1), true))
 (.name 15003 ((IntKind.i64.wrap ((IntKind.i64.wrap ((IntKind.i64.wrap ((IntKind.i64.wrap (y158 + y84.2.1)) - 1)).tdiv y84.2.1)) * (IntKind.i64.wrap ((IntKind.i64.wrap ((IntKind.i64.wrap (y158 + y84.2.1)) - 1)).tdiv y84.2.1))))) fun z159 =>
 .name 15004 ((IntKind.i64.wrap (z152 - z159))) fun z160 =>
 .lit 16000 (2) <|
 .known true <|
 .ix 2 3 rfl <|
 .ix 2 3 rfl <|
 .ix 2 3 rfl <|
 .ix 2 3 rfl <|
 .conv 11018 (cvLit 1 encI_i64 ([(IntKind.i64.wrap (y84.1.2.2.Lo - y86.1.2.2.Hi)), (IntKind.i64.wrap (y84.1.2.2.Hi - y86.1.2.2.Lo))] : (List Int)) 2) <|
 .call (overlap_farthest_C ([(IntKind.i64.wrap (y84.1.2.2.Lo - y86.1.2.2.Hi)), (IntKind.i64.wrap (y84.1.2.2.Hi - y86.1.2.2.Lo))] : (List Int))) [] fun y166 =>
 .grd (y84.2.1 ≠ 0) <|
 .br (decide ((IntKind.i64.wrap ((IntKind.i64.wrap ((IntKind.i64.wrap (y166 + y84.2.1)) - 1)).tdiv y84.2.1)) > (IntKind.i64.wrap (a3 + a5))))
 (.ret ((-1), true))
 (.name 15003 ((IntKind.i64.wrap ((IntKind.i64.wrap ((IntKind.i64.wrap ((IntKind.i64.wrap (y166 + y84.2.1)) - 1)).tdiv y84.2.1)) * (IntKind.i64.wrap ((IntKind.i64.wrap ((IntKind.i64.wrap (y166 + y84.2.1)) - 1)).tdiv y84.2.1))))) fun z167 =>
 .name 15004 ((IntKind.i64.wrap (z160 - z167))) fun z168 =>
 .lit 16000 (3) <|
 .known false <|
 .ret (z168, true)))))
noncomputable def overlap_Excess_C (a0 : (List Int)) (a1 : (List Int)) (a2 : (List (S_Interval × S_Interval × S_Interval))) (a3 : Int) (a4 : (List (S_Interval × S_Interval × S_Interval))) (a5 : Int) : CallS (Int × Bool) :=
  mkC [⟨189, guard189⟩] hd Tryz.func144 (by kernel_rfl) (overlap_Excess_T a0 a1 a2 a3 a4 a5) 0 [.pure (encL 1 encI_i64 a0), .pure (encL 1 encI_i64 a1), .pure (encL 6 enc_arr_3_Interval a2), pz a3, .pure (encL 6 enc_arr_3_Interval a4), pz a5] [] (fun r => .tup [pz r.1, .pure (.bool r.2)]) (fun _ => []) (by kernel_rfl)
noncomputable def overlap_Overlaps_T (a0 : (List Int)) (a1 : (List Int)) (a2 : (List (S_Interval × S_Interval × S_Interval))) (a3 : Int) (a4 : (List (S_Interval × S_Interval × S_Interval))) (a5 : Int) : T Bool :=
 .call (overlap_Excess_C a0 a1 a2 a3 a4 a5) [] fun y2 =>
 .br y2.2
 (.ret (decide (y2.1 ≥ 0)))
 (.ret false)
noncomputable def overlap_Overlaps_C (a0 : (List Int)) (a1 : (List Int)) (a2 : (List (S_Interval × S_Interval × S_Interval))) (a3 : Int) (a4 : (List (S_Interval × S_Interval × S_Interval))) (a5 : Int) : CallS Bool :=
  mkC [⟨143, guard143⟩] hd Tryz.func85 (by kernel_rfl) (overlap_Overlaps_T a0 a1 a2 a3 a4 a5) 0 [.pure (encL 1 encI_i64 a0), .pure (encL 1 encI_i64 a1), .pure (encL 6 enc_arr_3_Interval a2), pz a3, .pure (encL 6 enc_arr_3_Interval a4), pz a5] [] (fun r => .pure (.bool r)) (fun _ => []) (by kernel_rfl)
noncomputable def classify_verdict_T (a0 : S_classify_collision) : T S_Verdict :=
 .ret (⟨2, nl, a0.witness⟩ : S_Verdict)
noncomputable def classify_verdict_C (a0 : S_classify_collision) : CallS S_Verdict :=
  mkC [] hd Tryz.func86 (by kernel_rfl) (classify_verdict_T a0) 0 [.iface 144 (.pure (enc_classify_collision a0))] [] (fun r => .pure (enc_Verdict r)) (fun _ => []) (by kernel_rfl)
noncomputable def classify_verdict_1_T (a0 : S_classify_separation) : T S_Verdict :=
 .ret (⟨1, a0.normals, (⟨0, nl, nl⟩ : S_Witness)⟩ : S_Verdict)
noncomputable def classify_verdict_1_C (a0 : S_classify_separation) : CallS S_Verdict :=
  mkC [] hd Tryz.func86 (by kernel_rfl) (classify_verdict_1_T a0) 0 [.iface 146 (.pure (enc_classify_separation a0))] [] (fun r => .pure (enc_Verdict r)) (fun _ => []) (by kernel_rfl)
noncomputable def classify_Box_T (a0 : S_Scene) (a1 : (List S_Interval)) (a2 : (List (Int × Int × Int))) : T S_Verdict :=
 .call (classify_place_C (⟨a0.Robot, a0.Shapes, a0.Skips⟩ : S_Scene) a1) [] fun y2 =>
 .br (!y2.2)
 (.ret (⟨0, nl, (⟨0, nl, nl⟩ : S_Witness)⟩ : S_Verdict))
 (.conv 5003 (cvRep 3 enc_arr_3_int64 102 (((y2.1.pairs.length : Nat) : Int)).toNat (0, 0, 0)) <|
 .grd (0 ≤ ((y2.1.pairs.length : Nat) : Int) ∧ ((y2.1.pairs.length : Nat) : Int) ≤ ((y2.1.pairs.length : Nat) : Int) ∧ ((y2.1.pairs.length : Nat) : Int) ≤ 9223372036854775807 ∧ ((y2.1.pairs.length : Nat) : Int) * 24 ≤ 140737488355328) <|
 .loop (fun (x191 : ((List (Int × Int × Int)) × Bool × Int)) => ⟨[(2, .pure (encL 3 enc_arr_3_int64 a2)), (6, .ptr 0 0), (7, .ptr 4 0), (9, .vec 5), (10, .pure (.bool x191.2.1)), (33, pz ((y2.1.pairs.length : Nat) : Int)), (34, pz x191.2.2)], [(0, .box [pz 0, .vec 1, pz 0, .vec 2, .vec 3]), (1, .nilv), (2, .nilv), (3, .nilv), (4, .box [.pure (encL 3 enc_Shape y2.1.shapes), .pure (encL 2 enc_Pair y2.1.pairs), .pure (encL 1 (encL 6 enc_arr_3_Interval) y2.1.points)]), (5, vecO 3 enc_arr_3_int64 x191.1 102)], [.func 79 [] [.ptr 0 0]], 6⟩)
 (.exit 0) (fun (y238 : ((List (Int × Int × Int)) × Bool)) => ⟨[(6, .ptr 0 0), (9, .vec 4), (10, .pure (.bool y238.2))], [(0, .box [pz 0, .vec 1, pz 0, .vec 2, .vec 3]), (1, .nilv), (2, .nilv), (3, .nilv), (4, vecO 3 enc_arr_3_int64 y238.1 102)], [.func 79 [] [.ptr 0 0]], 5⟩)
 (fun x191 => .br (decide (x191.2.2 < ((y2.1.pairs.length : Nat) : Int)))
 (.cut 0 (fun (y269 : ((List (Int × Int × Int)) × Bool)) => ⟨[(2, .pure (encL 3 enc_arr_3_int64 a2)), (6, .ptr 0 0), (7, .ptr 4 0), (9, .vec 5), (10, .pure (.bool y269.2)), (33, pz ((y2.1.pairs.length : Nat) : Int)), (34, pz x191.2.2)], [(0, .box [pz 0, .vec 1, pz 0, .vec 2, .vec 3]), (1, .nilv), (2, .nilv), (3, .nilv), (4, .box [.pure (encL 3 enc_Shape y2.1.shapes), .pure (encL 2 enc_Pair y2.1.pairs), .pure (encL 1 (encL 6 enc_arr_3_Interval) y2.1.points)]), (5, vecO 3 enc_arr_3_int64 y269.1 102)], [.func 79 [] [.ptr 0 0]], 6⟩)
 (.call (body_couple_C (⟨y2.1.shapes, y2.1.pairs, y2.1.points⟩ : S_classify_body) x191.2.2) [] fun y271 =>
 .conv 11010 (cvSlice 3 enc_arr_3_int64 a2 (min x191.2.2 ((a2.length : Nat) : Int)) (min (IntKind.i64.wrap (x191.2.2 + 1)) ((a2.length : Nat) : Int))) <|
 .grd (0 ≤ (min x191.2.2 ((a2.length : Nat) : Int)) ∧ (min x191.2.2 ((a2.length : Nat) : Int)) ≤ (min (IntKind.i64.wrap (x191.2.2 + 1)) ((a2.length : Nat) : Int)) ∧ (min (IntKind.i64.wrap (x191.2.2 + 1)) ((a2.length : Nat) : Int)) ≤ ((a2.length : Nat) : Int)) <|
 .call (normals_Find_C y271.a y271.ra y271.b y271.rb ((a2.drop (((min x191.2.2 ((a2.length : Nat) : Int))).toNat)).take (((min (IntKind.i64.wrap (x191.2.2 + 1)) ((a2.length : Nat) : Int))).toNat - ((min x191.2.2 ((a2.length : Nat) : Int))).toNat))) [] fun y275 =>
 .br y275.2
 (.grd (0 ≤ x191.2.2 ∧ x191.2.2 < ((x191.1.length : Nat) : Int)) <|
 .conv 14004 (cvSet 3 enc_arr_3_int64 x191.1 102 ((x191.2.2).toNat) y275.1) <|
 .grd ((x191.2.2).toNat < x191.1.length ∧ 0 ≤ (x191.2.2).toNat) <|
 .ret (.out ((x191.1.set ((x191.2.2).toNat) y275.1), x191.2.1)))
 (.call (shape_Centers_C y271.a) [] fun y279 =>
 .call (shape_Centers_C y271.b) [] fun y280 =>
 .call (nearest_Search_C y279 y280 (IntKind.i64.wrap (y271.ra + y271.rb)) 64) [] fun y281 =>
 .call (overlap_Overlaps_C y281.Left y281.Right y271.a y271.ra y271.b y271.rb) [] fun y283 =>
 .br y283
 (.call (classify_verdict_C (⟨(⟨x191.2.2, y281.Left, y281.Right⟩ : S_Witness)⟩ : S_classify_collision)) [] fun y284 =>
 .ret (.fin (.fin y284)))
 (.ret (.out (x191.1, false))))) fun y269 =>
 .ret (.next (y269.1, y269.2, (IntKind.i64.wrap (x191.2.2 + 1)))))
 (.ret (.out (x191.1, x191.2.1))))
 ((List.replicate (((y2.1.pairs.length : Nat) : Int)).toNat ((0, 0, 0) : (Int × Int × Int))), true, 0) [] fun y238 =>
 .br (!y238.2)
 (.ret (⟨0, y238.1, (⟨0, nl, nl⟩ : S_Witness)⟩ : S_Verdict))
 (.call (classify_verdict_1_C (⟨y238.1⟩ : S_classify_separation)) [] fun y285 =>
 .ret y285))
noncomputable def classify_Box_C (a0 : S_Scene) (a1 : (List S_Interval)) (a2 : (List (Int × Int × Int))) : CallS S_Verdict :=
  mkC [⟨79, guard79⟩] hd Tryz.func28 (by kernel_rfl) (classify_Box_T a0 a1 a2) 0 [.pure (enc_Scene a0), .pure (encL 2 enc_Interval a1), .pure (encL 3 enc_arr_3_int64 a2)] [] (fun r => .pure (enc_Verdict r)) (fun _ => []) (by kernel_rfl)
abbrev edge_Prove_2_R := RecS Tryz.prog 51 8 (Int × Int × (List (Int × Int × Int)) × (List S_Piece) × Int × (List S_Piece) × Int × Int × (List (Int × Int × Int)) × Int × (List Int) × (List Int) × (List Int) × (List Int) × (List S_Joint) × (List S_Mass) × (List S_Shape) × (List S_Skip) × Int) (Bool × (List S_Piece) × Int × (List S_Piece) × Int × Int × (List (Int × Int × Int)) × Int × (List Int) × (List Int) × (List Int) × (List Int) × (List S_Joint) × (List S_Mass) × (List S_Shape) × (List S_Skip) × Int) (fun a => [pz a.1, pz a.2.1, .pure (encL 3 enc_arr_3_int64 a.2.2.1), .ptr 0 0, .ptr 2 0, .ptr 3 0, .ptr 4 0, .ptr 5 0, .ptr 6 0, .ptr 7 0]) (fun a => [(0, .box [.vec 1]), (1, vecO 3 enc_Piece a.2.2.2.1 37), (2, .box [pz a.2.2.2.2.1, .pure (encL 3 enc_Piece a.2.2.2.2.2.1), pz a.2.2.2.2.2.2.1, pz a.2.2.2.2.2.2.2.1, .pure (encL 3 enc_arr_3_int64 a.2.2.2.2.2.2.2.2.1), pz a.2.2.2.2.2.2.2.2.2.1, .pure (encL 1 encI_i64 a.2.2.2.2.2.2.2.2.2.2.1), .pure (encL 1 encI_i64 a.2.2.2.2.2.2.2.2.2.2.2.1)]), (3, .box [.pure (encL 1 encI_i64 a.2.2.2.2.2.2.2.2.2.2.2.2.1)]), (4, .box [.pure (encL 1 encI_i64 a.2.2.2.2.2.2.2.2.2.2.2.2.2.1)]), (5, .box [.pure (encL 12 enc_Joint a.2.2.2.2.2.2.2.2.2.2.2.2.2.2.1), .pure (encL 5 enc_Mass a.2.2.2.2.2.2.2.2.2.2.2.2.2.2.2.1), .pure (encL 3 enc_Shape a.2.2.2.2.2.2.2.2.2.2.2.2.2.2.2.2.1), .pure (encL 2 enc_Skip a.2.2.2.2.2.2.2.2.2.2.2.2.2.2.2.2.2.1)]), (6, .box [pz a.2.2.2.2.2.2.2.2.2.2.2.2.2.2.2.2.2.2]), (7, .box [.func 51 [] [.ptr 0 0, .ptr 2 0, .ptr 3 0, .ptr 4 0, .ptr 5 0, .ptr 6 0, .ptr 7 0]])]) (fun _ r => .pure (.bool r.1)) (fun _ r => [(0, .box [.vec 8]), (1, .gone), (2, .box [pz r.2.2.1, .pure (encL 3 enc_Piece r.2.2.2.1), pz r.2.2.2.2.1, pz r.2.2.2.2.2.1, .pure (encL 3 enc_arr_3_int64 r.2.2.2.2.2.2.1), pz r.2.2.2.2.2.2.2.1, .pure (encL 1 encI_i64 r.2.2.2.2.2.2.2.2.1), .pure (encL 1 encI_i64 r.2.2.2.2.2.2.2.2.2.1)]), (3, .box [.pure (encL 1 encI_i64 r.2.2.2.2.2.2.2.2.2.2.1)]), (4, .box [.pure (encL 1 encI_i64 r.2.2.2.2.2.2.2.2.2.2.2.1)]), (5, .box [.pure (encL 12 enc_Joint r.2.2.2.2.2.2.2.2.2.2.2.2.1), .pure (encL 5 enc_Mass r.2.2.2.2.2.2.2.2.2.2.2.2.2.1), .pure (encL 3 enc_Shape r.2.2.2.2.2.2.2.2.2.2.2.2.2.2.1), .pure (encL 2 enc_Skip r.2.2.2.2.2.2.2.2.2.2.2.2.2.2.2.1)]), (6, .box [pz r.2.2.2.2.2.2.2.2.2.2.2.2.2.2.2.2]), (7, .box [.func 51 [] [.ptr 0 0, .ptr 2 0, .ptr 3 0, .ptr 4 0, .ptr 5 0, .ptr 6 0, .ptr 7 0]]), (8, vecO 3 enc_Piece r.2.1 37)])
noncomputable def edge_Prove_2_T (rec : edge_Prove_2_R) (a0 : Int) (a1 : Int) (a2 : (List (Int × Int × Int))) (a3 : (List S_Piece)) (a4 : Int) (a5 : (List S_Piece)) (a6 : Int) (a7 : Int) (a8 : (List (Int × Int × Int))) (a9 : Int) (a10 : (List Int)) (a11 : (List Int)) (a12 : (List Int)) (a13 : (List Int)) (a14 : (List S_Joint)) (a15 : (List S_Mass)) (a16 : (List S_Shape)) (a17 : (List S_Skip)) (a18 : Int) : T (Bool × (List S_Piece) × Int × (List S_Piece) × Int × Int × (List (Int × Int × Int)) × Int × (List Int) × (List Int) × (List Int) × (List Int) × (List S_Joint) × (List S_Mass) × (List S_Shape) × (List S_Skip) × Int) :=
 .br (decide (((a3.length : Nat) : Int) ≥ 4096))
 (.ret (false, a3, 0, nl, a0, a1, nl, 0, nl, nl, a12, a13, a14, a15, a16, a17, a18))
 (.call (config_Piece_C a12 a13 a0 a1) [] fun y6 =>
 .call (classify_Box_C (⟨(⟨a14, a15⟩ : S_Robot), a16, a17⟩ : S_Scene) y6.1 a2) [] fun y8 =>
 .br (y8.Kind == 1)
 (.conv 8006 (cvLit 3 enc_Piece ([(⟨a0, a1, y8.Normals⟩ : S_Piece)] : (List S_Piece)) 37) <|
 .conv 8007 (cvApp 3 enc_Piece a3 ([(⟨a0, a1, y8.Normals⟩ : S_Piece)] : (List S_Piece)) 37) <|
 .grd ((a3.length + ([(⟨a0, a1, y8.Normals⟩ : S_Piece)] : (List S_Piece)).length) * 40 ≤ 140737488355328 ∧ (a3.length + ([(⟨a0, a1, y8.Normals⟩ : S_Piece)] : (List S_Piece)).length) ≤ maxLen) <|
 .ret (true, (a3 ++ ([(⟨a0, a1, y8.Normals⟩ : S_Piece)] : (List S_Piece))), a4, a5, a6, a7, a8, a9, a10, a11, a12, a13, a14, a15, a16, a17, a18))
 (.br (y8.Kind == 2)
 (.ret (false, a3, 2, nl, a0, a1, nl, y8.Witness.Pair, y8.Witness.Left, y8.Witness.Right, a12, a13, a14, a15, a16, a17, a18))
 (.br (decide (a0 < a18))
 (.call (rec.C ((IntKind.i64.wrap (a0 + 1)), (IntKind.i64.wrap (2 * a1)), y8.Normals, a3, a4, a5, a6, a7, a8, a9, a10, a11, a12, a13, a14, a15, a16, a17, a18)) [(0, 0), (1, 1), (2, 2), (3, 3), (4, 4), (5, 5), (6, 6), (7, 7)] fun y11 =>
 .br y11.1
 (.call (rec.C ((IntKind.i64.wrap (a0 + 1)), (IntKind.i64.wrap ((IntKind.i64.wrap (2 * a1)) + 1)), y8.Normals, y11.2.1, y11.2.2.1, y11.2.2.2.1, y11.2.2.2.2.1, y11.2.2.2.2.2.1, y11.2.2.2.2.2.2.1, y11.2.2.2.2.2.2.2.1, y11.2.2.2.2.2.2.2.2.1, y11.2.2.2.2.2.2.2.2.2.1, y11.2.2.2.2.2.2.2.2.2.2.1, y11.2.2.2.2.2.2.2.2.2.2.2.1, y11.2.2.2.2.2.2.2.2.2.2.2.2.1, y11.2.2.2.2.2.2.2.2.2.2.2.2.2.1, y11.2.2.2.2.2.2.2.2.2.2.2.2.2.2.1, y11.2.2.2.2.2.2.2.2.2.2.2.2.2.2.2.1, y11.2.2.2.2.2.2.2.2.2.2.2.2.2.2.2.2)) [(0, 0), (1, 2824), (2, 2), (3, 3), (4, 4), (5, 5), (6, 6), (7, 7)] fun y12 =>
 .ret (y12.1, y12.2.1, y12.2.2.1, y12.2.2.2.1, y12.2.2.2.2.1, y12.2.2.2.2.2.1, y12.2.2.2.2.2.2.1, y12.2.2.2.2.2.2.2.1, y12.2.2.2.2.2.2.2.2.1, y12.2.2.2.2.2.2.2.2.2.1, y12.2.2.2.2.2.2.2.2.2.2.1, y12.2.2.2.2.2.2.2.2.2.2.2.1, y12.2.2.2.2.2.2.2.2.2.2.2.2.1, y12.2.2.2.2.2.2.2.2.2.2.2.2.2.1, y12.2.2.2.2.2.2.2.2.2.2.2.2.2.2.1, y12.2.2.2.2.2.2.2.2.2.2.2.2.2.2.2.1, y12.2.2.2.2.2.2.2.2.2.2.2.2.2.2.2.2))
 (.ret (false, y11.2.1, y11.2.2.1, y11.2.2.2.1, y11.2.2.2.2.1, y11.2.2.2.2.2.1, y11.2.2.2.2.2.2.1, y11.2.2.2.2.2.2.2.1, y11.2.2.2.2.2.2.2.2.1, y11.2.2.2.2.2.2.2.2.2.1, y11.2.2.2.2.2.2.2.2.2.2.1, y11.2.2.2.2.2.2.2.2.2.2.2.1, y11.2.2.2.2.2.2.2.2.2.2.2.2.1, y11.2.2.2.2.2.2.2.2.2.2.2.2.2.1, y11.2.2.2.2.2.2.2.2.2.2.2.2.2.2.1, y11.2.2.2.2.2.2.2.2.2.2.2.2.2.2.2.1, y11.2.2.2.2.2.2.2.2.2.2.2.2.2.2.2.2)))
 (.ret (false, a3, 0, nl, a0, a1, nl, 0, nl, nl, a12, a13, a14, a15, a16, a17, a18)))))
noncomputable def edge_Prove_2_S : edge_Prove_2_R → edge_Prove_2_R := RecS.next [] hd Tryz.func51 (by kernel_rfl) (fun rec a => edge_Prove_2_T rec a.1 a.2.1 a.2.2.1 a.2.2.2.1 a.2.2.2.2.1 a.2.2.2.2.2.1 a.2.2.2.2.2.2.1 a.2.2.2.2.2.2.2.1 a.2.2.2.2.2.2.2.2.1 a.2.2.2.2.2.2.2.2.2.1 a.2.2.2.2.2.2.2.2.2.2.1 a.2.2.2.2.2.2.2.2.2.2.2.1 a.2.2.2.2.2.2.2.2.2.2.2.2.1 a.2.2.2.2.2.2.2.2.2.2.2.2.2.1 a.2.2.2.2.2.2.2.2.2.2.2.2.2.2.1 a.2.2.2.2.2.2.2.2.2.2.2.2.2.2.2.1 a.2.2.2.2.2.2.2.2.2.2.2.2.2.2.2.2.1 a.2.2.2.2.2.2.2.2.2.2.2.2.2.2.2.2.2.1 a.2.2.2.2.2.2.2.2.2.2.2.2.2.2.2.2.2.2) (fun rec a => by kernel_rfl)
noncomputable def edge_Prove_2_C (a0 : Int) (a1 : Int) (a2 : (List (Int × Int × Int))) (a3 : (List S_Piece)) (a4 : Int) (a5 : (List S_Piece)) (a6 : Int) (a7 : Int) (a8 : (List (Int × Int × Int))) (a9 : Int) (a10 : (List Int)) (a11 : (List Int)) (a12 : (List Int)) (a13 : (List Int)) (a14 : (List S_Joint)) (a15 : (List S_Mass)) (a16 : (List S_Shape)) (a17 : (List S_Skip)) (a18 : Int) : CallS (Bool × (List S_Piece) × Int × (List S_Piece) × Int × Int × (List (Int × Int × Int)) × Int × (List Int) × (List Int) × (List Int) × (List Int) × (List S_Joint) × (List S_Mass) × (List S_Shape) × (List S_Skip) × Int) := (RecS.fix edge_Prove_2_S NN).C (a0, a1, a2, a3, a4, a5, a6, a7, a8, a9, a10, a11, a12, a13, a14, a15, a16, a17, a18)
noncomputable def edge_Prove_T (a0 : S_Scene) (a1 : (List Int)) (a2 : (List Int)) (a3 : Int) : T S_EdgeResult :=
 .unroll 1000 <|
 .cut 2 (fun (y17 : Bool) => ⟨[(4, .ptr 0 0), (5, .ptr 1 0), (6, .ptr 2 0), (7, .ptr 3 0), (8, .ptr 4 0), (28, .pure (.bool y17))], [(0, .box [.pure (encL 12 enc_Joint a0.Robot.Joints), .pure (encL 5 enc_Mass a0.Robot.Masses), .pure (encL 3 enc_Shape a0.Shapes), .pure (encL 2 enc_Skip a0.Skips)]), (1, .box [.pure (encL 1 encI_i64 a1)]), (2, .box [.pure (encL 1 encI_i64 a2)]), (3, .box [pz a3]), (4, .box [pz 0, .pure (.lst 0 0 fun _ => .unk), pz 0, pz 0, .pure (.lst 0 0 fun _ => .unk), pz 0, .pure (.lst 0 0 fun _ => .unk), .pure (.lst 0 0 fun _ => .unk)])], [.func 48 [] [.ptr 4 0]], 5⟩)
 (.call (scene_Check_C (⟨a0.Robot, a0.Shapes, a0.Skips⟩ : S_Scene)) [] fun y18 =>
 .br (y18 != 0)
 (.ret (.out true))
 (.call (config_Inside_C a0.Robot a1) [] fun y19 =>
 .br (!y19)
 (.ret (.out true))
 (.call (config_Inside_C a0.Robot a2) [] fun y20 =>
 .ret (.out (!y20))))) fun y17 =>
 .br y17
 (.ret (⟨0, nl, (⟨0, 0, nl⟩ : S_Piece), (⟨0, nl, nl⟩ : S_Witness)⟩ : S_EdgeResult))
 (.cut 1 (fun (y22 : Bool) => ⟨[(4, .ptr 0 0), (5, .ptr 1 0), (6, .ptr 2 0), (7, .ptr 3 0), (8, .ptr 4 0), (35, .pure (.bool y22))], [(0, .box [.pure (encL 12 enc_Joint a0.Robot.Joints), .pure (encL 5 enc_Mass a0.Robot.Masses), .pure (encL 3 enc_Shape a0.Shapes), .pure (encL 2 enc_Skip a0.Skips)]), (1, .box [.pure (encL 1 encI_i64 a1)]), (2, .box [.pure (encL 1 encI_i64 a2)]), (3, .box [pz a3]), (4, .box [pz 0, .pure (.lst 0 0 fun _ => .unk), pz 0, pz 0, .pure (.lst 0 0 fun _ => .unk), pz 0, .pure (.lst 0 0 fun _ => .unk), .pure (.lst 0 0 fun _ => .unk)])], [.func 48 [] [.ptr 4 0]], 5⟩)
 (.br (decide (a3 < 0))
 (.ret (.out true))
 (.ret (.out (decide (a3 > 20))))) fun y22 =>
 .br y22
 (.ret (⟨0, nl, (⟨0, 0, nl⟩ : S_Piece), (⟨0, nl, nl⟩ : S_Witness)⟩ : S_EdgeResult))
 (.cut 3 (fun (y27 : (Int × (List S_Piece) × Int × Int × (List (Int × Int × Int)) × Int × (List Int) × (List Int))) => ⟨[(8, .ptr 0 0)], [(0, .box [pz y27.1, .pure (encL 3 enc_Piece y27.2.1), pz y27.2.2.1, pz y27.2.2.2.1, .pure (encL 3 enc_arr_3_int64 y27.2.2.2.2.1), pz y27.2.2.2.2.2.1, .pure (encL 1 encI_i64 y27.2.2.2.2.2.2.1), .pure (encL 1 encI_i64 y27.2.2.2.2.2.2.2)])], [.func 48 [] [.ptr 0 0]], 1⟩)
 (.call (edge_Prove_2_C 0 0 nl nl 0 nl 0 0 nl 0 nl nl a1 a2 a0.Robot.Joints a0.Robot.Masses a0.Shapes a0.Skips a3) [(0, 5), (1, 6), (2, 4), (3, 1), (4, 2), (5, 0), (6, 3), (7, 69)] fun y29 =>
 .br y29.1
 (.ret (.out (1, y29.2.1, 0, 0, nl, 0, nl, nl)))
 (.ret (.out (y29.2.2.1, y29.2.2.2.1, y29.2.2.2.2.1, y29.2.2.2.2.2.1, y29.2.2.2.2.2.2.1, y29.2.2.2.2.2.2.2.1, y29.2.2.2.2.2.2.2.2.1, y29.2.2.2.2.2.2.2.2.2.1)))) fun y27 =>
 .ret (⟨y27.1, y27.2.1, (⟨y27.2.2.1, y27.2.2.2.1, y27.2.2.2.2.1⟩ : S_Piece), (⟨y27.2.2.2.2.2.1, y27.2.2.2.2.2.2.1, y27.2.2.2.2.2.2.2⟩ : S_Witness)⟩ : S_EdgeResult)))
noncomputable def edge_Prove_C (a0 : S_Scene) (a1 : (List Int)) (a2 : (List Int)) (a3 : Int) : CallS S_EdgeResult :=
  mkC [⟨48, guard48⟩] hd Tryz.func13 (by kernel_rfl) (edge_Prove_T a0 a1 a2 a3) 0 [.pure (enc_Scene a0), .pure (encL 1 encI_i64 a1), .pure (encL 1 encI_i64 a2), pz a3] [] (fun r => .pure (enc_EdgeResult r)) (fun _ => []) (by kernel_rfl)
noncomputable def replay_valid_T (a0 : S_edgecheck_replay) : T (Int × Int) :=
 .call (scene_Check_C a0.scene) [] fun y4 =>
 .br (y4 != 0)
 (.ret (0, 904))
 (.ret (0, 0))
noncomputable def replay_valid_C (a0 : S_edgecheck_replay) : CallS (Int × Int) :=
  mkC [] hd Tryz.func60 (by kernel_rfl) (replay_valid_T a0) 0 [.pure (enc_edgecheck_replay a0)] [] (fun r => .tup [pz r.1, pz r.2]) (fun _ => []) (by kernel_rfl)
noncomputable def replay_inside_T (a0 : S_edgecheck_replay) : T (Int × Int) :=
 .cut 2 (fun (y12 : Bool) => ⟨[(19, .pure (.bool y12))], [], [], 0⟩)
 (.call (config_Inside_C a0.scene.Robot a0.p) [] fun y13 =>
 .br (!y13)
 (.ret (.out true))
 (.call (config_Inside_C a0.scene.Robot a0.q) [] fun y14 =>
 .ret (.out (!y14)))) fun y12 =>
 .br y12
 (.ret (0, 1201))
 (.ret (0, 0))
noncomputable def replay_inside_C (a0 : S_edgecheck_replay) : CallS (Int × Int) :=
  mkC [] hd Tryz.func61 (by kernel_rfl) (replay_inside_T a0) 0 [.pure (enc_edgecheck_replay a0)] [] (fun r => .tup [pz r.1, pz r.2]) (fun _ => []) (by kernel_rfl)
noncomputable def replay_tiling_T (a0 : S_edgecheck_replay) : T (Int × Int) :=
 .loop (fun (x189 : (Int × Int)) => ⟨[(1, .ptr 0 0), (4, pz x189.1), (9, .pure (encL 3 enc_Piece a0.pieces)), (10, pz ((a0.pieces.length : Nat) : Int)), (11, pz x189.2)], [(0, .box [.pure (encL 12 enc_Joint a0.scene.Robot.Joints), .pure (encL 5 enc_Mass a0.scene.Robot.Masses), .pure (encL 3 enc_Shape a0.scene.Shapes), .pure (encL 2 enc_Skip a0.scene.Skips), .pure (encL 1 encI_i64 a0.p), .pure (encL 1 encI_i64 a0.q), .pure (encL 3 enc_Piece a0.pieces)])], [], 1⟩)
 (.exit 0) (fun (y208 : Int) => ⟨[(1, .ptr 0 0), (4, pz y208)], [(0, .box [.pure (encL 12 enc_Joint a0.scene.Robot.Joints), .pure (encL 5 enc_Mass a0.scene.Robot.Masses), .pure (encL 3 enc_Shape a0.scene.Shapes), .pure (encL 2 enc_Skip a0.scene.Skips), .pure (encL 1 encI_i64 a0.p), .pure (encL 1 encI_i64 a0.q), .pure (encL 3 enc_Piece a0.pieces)])], [], 1⟩)
 (fun x189 => .br (decide (x189.2 < ((a0.pieces.length : Nat) : Int)))
 (.grd (0 ≤ x189.2 ∧ x189.2 < ((a0.pieces.length : Nat) : Int)) <|
 .cut 1 (fun (y219 : Bool) => ⟨[(1, .ptr 0 0), (4, pz x189.1), (5, pz x189.2), (6, .ptr 1 0), (9, .pure (encL 3 enc_Piece a0.pieces)), (10, pz ((a0.pieces.length : Nat) : Int)), (11, pz x189.2), (27, .pure (.bool y219))], [(0, .box [.pure (encL 12 enc_Joint a0.scene.Robot.Joints), .pure (encL 5 enc_Mass a0.scene.Robot.Masses), .pure (encL 3 enc_Shape a0.scene.Shapes), .pure (encL 2 enc_Skip a0.scene.Skips), .pure (encL 1 encI_i64 a0.p), .pure (encL 1 encI_i64 a0.q), .pure (encL 3 enc_Piece a0.pieces)]), (1, .box [pz ((a0.pieces.getD ((x189.2).toNat) default).Depth), pz ((a0.pieces.getD ((x189.2).toNat) default).Index), .pure (encL 3 enc_arr_3_int64 ((a0.pieces.getD ((x189.2).toNat) default).Normals))])], [], 2⟩)
 (.br (x189.2 == 4096)
 (.ret (.out true))
 (.br (decide (((a0.pieces.getD ((x189.2).toNat) default).Depth) < 0))
 (.ret (.out true))
 (.ret (.out (decide (((a0.pieces.getD ((x189.2).toNat) default).Depth) > 20)))))) fun y219 =>
 .br y219
 (.ret (.fin (x189.2, 2001)))
 (.cut 1 (fun (y221 : Bool) => ⟨[(1, .ptr 0 0), (4, pz x189.1), (5, pz x189.2), (6, .ptr 1 0), (9, .pure (encL 3 enc_Piece a0.pieces)), (10, pz ((a0.pieces.length : Nat) : Int)), (11, pz x189.2), (39, .pure (.bool y221))], [(0, .box [.pure (encL 12 enc_Joint a0.scene.Robot.Joints), .pure (encL 5 enc_Mass a0.scene.Robot.Masses), .pure (encL 3 enc_Shape a0.scene.Shapes), .pure (encL 2 enc_Skip a0.scene.Skips), .pure (encL 1 encI_i64 a0.p), .pure (encL 1 encI_i64 a0.q), .pure (encL 3 enc_Piece a0.pieces)]), (1, .box [pz ((a0.pieces.getD ((x189.2).toNat) default).Depth), pz ((a0.pieces.getD ((x189.2).toNat) default).Index), .pure (encL 3 enc_arr_3_int64 ((a0.pieces.getD ((x189.2).toNat) default).Normals))])], [], 2⟩)
 (.br (decide (((a0.pieces.getD ((x189.2).toNat) default).Index) < 0))
 (.ret (.out true))
 (.grd (0 ≤ ((a0.pieces.getD ((x189.2).toNat) default).Depth)) <|
 .ret (.out (decide (((a0.pieces.getD ((x189.2).toNat) default).Index) ≥ (IntKind.i64.wrap (1 * 2 ^ (min ((a0.pieces.getD ((x189.2).toNat) default).Depth).toNat 64)))))))) fun y221 =>
 .br y221
 (.ret (.fin (x189.2, 2001)))
 (.grd (0 ≤ ((a0.pieces.getD ((x189.2).toNat) default).Depth)) <|
 .name 10003 ((IntKind.i64.wrap (((a0.pieces.getD ((x189.2).toNat) default).Index) * ((1048576 : Int).fdiv (2 ^ (min ((a0.pieces.getD ((x189.2).toNat) default).Depth).toNat 64)))))) fun z225 =>
 .br (z225 != x189.1)
 (.ret (.fin (x189.2, 2001)))
 (.name 12002 ((IntKind.i64.wrap (x189.1 + ((1048576 : Int).fdiv (2 ^ (min ((a0.pieces.getD ((x189.2).toNat) default).Depth).toNat 64)))))) fun z226 =>
 .ret (.next (z226, (IntKind.i64.wrap (x189.2 + 1))))))))
 (.ret (.out x189.1)))
 (0, 0) [] fun y208 =>
 .br (y208 != 1048576)
 (.ret (((a0.pieces.length : Nat) : Int), 2001))
 (.ret (0, 0))
noncomputable def replay_tiling_C (a0 : S_edgecheck_replay) : CallS (Int × Int) :=
  mkC [] hd Tryz.func58 (by kernel_rfl) (replay_tiling_T a0) 0 [.pure (enc_edgecheck_replay a0)] [] (fun r => .tup [pz r.1, pz r.2]) (fun _ => []) (by kernel_rfl)
noncomputable def separation_holds_T (a0 : S_classify_separation) (a1 : S_classify_body) : T Bool :=
 .br (((a0.normals.length : Nat) : Int) != ((a1.pairs.length : Nat) : Int))
 (.ret false)
 (.loop (fun (x37 : Int) => ⟨[(3, .ptr 0 0), (16, .pure (encL 3 enc_arr_3_int64 a0.normals)), (17, pz ((a0.normals.length : Nat) : Int)), (18, pz x37)], [(0, .box [.pure (encL 3 enc_Shape a1.shapes), .pure (encL 2 enc_Pair a1.pairs), .pure (encL 1 (encL 6 enc_arr_3_Interval) a1.points)])], [], 1⟩)
 (.exit 0) (fun (_ : U0) => ⟨[], [], [], 0⟩)
 (fun x37 => .br (decide (x37 < ((a0.normals.length : Nat) : Int)))
 (.grd (0 ≤ x37 ∧ x37 < ((a0.normals.length : Nat) : Int)) <|
 .call (body_couple_C a1 x37) [] fun y52 =>
 .call (plane_Separates_C (a0.normals.getD ((x37).toNat) default) y52.a y52.ra y52.b y52.rb) [] fun y54 =>
 .br (!y54)
 (.ret (.fin false))
 (.ret (.next (IntKind.i64.wrap (x37 + 1)))))
 (.ret (.out .u)))
 0 [] fun _ =>
 .ret true)
noncomputable def separation_holds_C (a0 : S_classify_separation) (a1 : S_classify_body) : CallS Bool :=
  mkC [] hd Tryz.func379 (by kernel_rfl) (separation_holds_T a0 a1) 0 [.pure (enc_classify_separation a0), .pure (enc_classify_body a1)] [] (fun r => .pure (.bool r)) (fun _ => []) (by kernel_rfl)
noncomputable def classify_holds_T (a0 : S_Scene) (a1 : (List S_Interval)) (a2 : S_classify_separation) : T Bool :=
 .call (classify_place_C a0 a1) [] fun y2 =>
 .br y2.2
 (.call (separation_holds_C a2 y2.1) [] fun y3 =>
 .ret y3)
 (.ret false)
noncomputable def classify_holds_C (a0 : S_Scene) (a1 : (List S_Interval)) (a2 : S_classify_separation) : CallS Bool :=
  mkC [] hd Tryz.func94 (by kernel_rfl) (classify_holds_T a0 a1 a2) 0 [.pure (enc_Scene a0), .pure (encL 2 enc_Interval a1), .iface 146 (.pure (enc_classify_separation a2))] [] (fun r => .pure (.bool r)) (fun _ => []) (by kernel_rfl)
noncomputable def classify_CheckFree_T (a0 : S_Scene) (a1 : (List S_Interval)) (a2 : (List (Int × Int × Int))) : T Bool :=
 .call (classify_holds_C (⟨a0.Robot, a0.Shapes, a0.Skips⟩ : S_Scene) a1 (⟨a2⟩ : S_classify_separation)) [] fun y1 =>
 .ret y1
noncomputable def classify_CheckFree_C (a0 : S_Scene) (a1 : (List S_Interval)) (a2 : (List (Int × Int × Int))) : CallS Bool :=
  mkC [⟨93, guard93⟩] hd Tryz.func34 (by kernel_rfl) (classify_CheckFree_T a0 a1 a2) 0 [.pure (enc_Scene a0), .pure (encL 2 enc_Interval a1), .pure (encL 3 enc_arr_3_int64 a2)] [] (fun r => .pure (.bool r)) (fun _ => []) (by kernel_rfl)
noncomputable def replay_separated_T (a0 : S_edgecheck_replay) : T (Int × Int) :=
 .loop (fun (x53 : Int) => ⟨[(1, .ptr 0 0), (9, .pure (encL 3 enc_Piece a0.pieces)), (10, pz ((a0.pieces.length : Nat) : Int)), (11, pz x53)], [(0, .box [.pure (encL 12 enc_Joint a0.scene.Robot.Joints), .pure (encL 5 enc_Mass a0.scene.Robot.Masses), .pure (encL 3 enc_Shape a0.scene.Shapes), .pure (encL 2 enc_Skip a0.scene.Skips), .pure (encL 1 encI_i64 a0.p), .pure (encL 1 encI_i64 a0.q), .pure (encL 3 enc_Piece a0.pieces)])], [], 1⟩)
 (.exit 0) (fun (_ : U0) => ⟨[], [], [], 0⟩)
 (fun x53 => .br (decide (x53 < ((a0.pieces.length : Nat) : Int)))
 (.grd (0 ≤ x53 ∧ x53 < ((a0.pieces.length : Nat) : Int)) <|
 .call (config_Piece_C a0.p a0.q ((a0.pieces.getD ((x53).toNat) default).Depth) ((a0.pieces.getD ((x53).toNat) default).Index)) [] fun y74 =>
 .cut 0 (fun (y77 : Bool) => ⟨[(1, .ptr 0 0), (4, pz x53), (9, .pure (encL 3 enc_Piece a0.pieces)), (10, pz ((a0.pieces.length : Nat) : Int)), (11, pz x53), (38, .pure (.bool y77))], [(0, .box [.pure (encL 12 enc_Joint a0.scene.Robot.Joints), .pure (encL 5 enc_Mass a0.scene.Robot.Masses), .pure (encL 3 enc_Shape a0.scene.Shapes), .pure (encL 2 enc_Skip a0.scene.Skips), .pure (encL 1 encI_i64 a0.p), .pure (encL 1 encI_i64 a0.q), .pure (encL 3 enc_Piece a0.pieces)])], [], 1⟩)
 (.br (!y74.2)
 (.ret (.out true))
 (.call (classify_CheckFree_C a0.scene y74.1 ((a0.pieces.getD ((x53).toNat) default).Normals)) [] fun y78 =>
 .ret (.out (!y78)))) fun y77 =>
 .br y77
 (.ret (.fin (x53, 2002)))
 (.ret (.next (IntKind.i64.wrap (x53 + 1)))))
 (.ret (.out .u)))
 0 [] fun _ =>
 .ret (0, 0)
noncomputable def replay_separated_C (a0 : S_edgecheck_replay) : CallS (Int × Int) :=
  mkC [] hd Tryz.func62 (by kernel_rfl) (replay_separated_T a0) 0 [.pure (enc_edgecheck_replay a0)] [] (fun r => .tup [pz r.1, pz r.2]) (fun _ => []) (by kernel_rfl)
noncomputable def edgecheck_Check_T (a0 : S_Scene) (a1 : (List Int)) (a2 : (List Int)) (a3 : (List S_Piece)) : T (Int × Int) :=
 .unroll 5 <|
 .known true <|
 .grd (0 ≤ (0 : Int) ∧ (0 : Int) < ((4 : Nat) : Int)) <|
 .call (replay_valid_C (⟨(⟨a0.Robot, a0.Shapes, a0.Skips⟩ : S_Scene), a1, a2, a3⟩ : S_edgecheck_replay)) [] fun y32 =>
 .br (y32.2 != 0)
 (.ret (y32.1, y32.2))
 (.lit 9000 (1) <|
 .known true <|
 .grd (0 ≤ (1 : Int) ∧ (1 : Int) < ((4 : Nat) : Int)) <|
 .call (replay_inside_C (⟨(⟨a0.Robot, a0.Shapes, a0.Skips⟩ : S_Scene), a1, a2, a3⟩ : S_edgecheck_replay)) [] fun y36 =>
 .br (y36.2 != 0)
 (.ret (y36.1, y36.2))
 (.lit 9000 (2) <|
 .known true <|
 .grd (0 ≤ (2 : Int) ∧ (2 : Int) < ((4 : Nat) : Int)) <|
 .call (replay_tiling_C (⟨(⟨a0.Robot, a0.Shapes, a0.Skips⟩ : S_Scene), a1, a2, a3⟩ : S_edgecheck_replay)) [] fun y40 =>
 .br (y40.2 != 0)
 (.ret (y40.1, y40.2))
 (.lit 9000 (3) <|
 .known true <|
 .grd (0 ≤ (3 : Int) ∧ (3 : Int) < ((4 : Nat) : Int)) <|
 .call (replay_separated_C (⟨(⟨a0.Robot, a0.Shapes, a0.Skips⟩ : S_Scene), a1, a2, a3⟩ : S_edgecheck_replay)) [] fun y44 =>
 .br (y44.2 != 0)
 (.ret (y44.1, y44.2))
 (.lit 9000 (4) <|
 .known false <|
 .ret (0, 0)))))
noncomputable def edgecheck_Check_C (a0 : S_Scene) (a1 : (List Int)) (a2 : (List Int)) (a3 : (List S_Piece)) : CallS (Int × Int) :=
  mkC [⟨59, guard59⟩] hd Tryz.func19 (by kernel_rfl) (edgecheck_Check_T a0 a1 a2 a3) 0 [.pure (enc_Scene a0), .pure (encL 1 encI_i64 a1), .pure (encL 1 encI_i64 a2), .pure (encL 3 enc_Piece a3)] [] (fun r => .tup [pz r.1, pz r.2]) (fun _ => []) (by kernel_rfl)
set_option maxHeartbeats 8000000 in
set_option maxRecDepth 20000 in
noncomputable def compact_Pack_T (a0 : (List S_Piece)) : T S_Packed :=
 .loop (fun (x851 : ((List (Int × Int × Int)) × (List S_Use) × (List ((Int × Int × Int) × Int)) × Int)) => ⟨[(2, .ptr 0 0), (3, .map 3), (13, .pure (encL 3 enc_Piece a0)), (14, pz ((a0.length : Nat) : Int)), (15, pz x851.2.2.2)], [(0, .box [.vec 1, .vec 2]), (1, vecO 3 enc_arr_3_int64 x851.1 102), (2, vecO 3 enc_Use x851.2.1 154), (3, mapR_i64 [.int .i64 0, .int .i64 0, .int .i64 0] cells_arr_3_int64 x851.2.2.1)], [.func 124 [] [.ptr 0 0]], 4⟩)
 (.exit 0) (fun (y936 : ((List (Int × Int × Int)) × (List S_Use))) => ⟨[(2, .ptr 0 0)], [(0, .box [.vec 1, .vec 2]), (1, vecO 3 enc_arr_3_int64 y936.1 102), (2, vecO 3 enc_Use y936.2 154)], [.func 124 [] [.ptr 0 0]], 3⟩)
 (fun x851 => .br (decide (x851.2.2.2 < ((a0.length : Nat) : Int)))
 (.grd (0 ≤ x851.2.2.2 ∧ x851.2.2.2 < ((a0.length : Nat) : Int)) <|
 .loop (fun (x1007 : ((List (Int × Int × Int)) × (List ((Int × Int × Int) × Int)) × (List Int) × Int)) => ⟨[(2, .ptr 0 0), (3, .map 3), (6, .ptr 4 0), (13, .pure (encL 3 enc_Piece a0)), (14, pz ((a0.length : Nat) : Int)), (15, pz x851.2.2.2), (25, .pure (encL 3 enc_arr_3_int64 ((a0.getD ((x851.2.2.2).toNat) default).Normals))), (26, pz (((a0.getD ((x851.2.2.2).toNat) default).Normals.length : Nat) : Int)), (27, pz x1007.2.2.2)], [(0, .box [.vec 1, .vec 2]), (1, vecO 3 enc_arr_3_int64 x1007.1 102), (2, vecO 3 enc_Use x851.2.1 154), (3, mapR_i64 [.int .i64 0, .int .i64 0, .int .i64 0] cells_arr_3_int64 x1007.2.1), (4, .box [pz ((a0.getD ((x851.2.2.2).toNat) default).Depth), pz ((a0.getD ((x851.2.2.2).toNat) default).Index), .vec 5]), (5, vecO 1 encI_i64 x1007.2.2.1 3)], [.func 124 [] [.ptr 0 0]], 6⟩)
 (.exit 2) (fun (y1014 : ((List (Int × Int × Int)) × (List ((Int × Int × Int) × Int)) × (List Int))) => ⟨[(2, .ptr 0 0), (3, .map 3), (6, .ptr 4 0), (13, .pure (encL 3 enc_Piece a0)), (14, pz ((a0.length : Nat) : Int)), (15, pz x851.2.2.2)], [(0, .box [.vec 1, .vec 2]), (1, vecO 3 enc_arr_3_int64 y1014.1 102), (2, vecO 3 enc_Use x851.2.1 154), (3, mapR_i64 [.int .i64 0, .int .i64 0, .int .i64 0] cells_arr_3_int64 y1014.2.1), (4, .box [pz ((a0.getD ((x851.2.2.2).toNat) default).Depth), pz ((a0.getD ((x851.2.2.2).toNat) default).Index), .vec 5]), (5, vecO 1 encI_i64 y1014.2.2 3)], [.func 124 [] [.ptr 0 0]], 6⟩)
 (fun x1007 => .br (decide (x1007.2.2.2 < (((a0.getD ((x851.2.2.2).toNat) default).Normals.length : Nat) : Int)))
 (.grd (0 ≤ x1007.2.2.2 ∧ x1007.2.2.2 < (((a0.getD ((x851.2.2.2).toNat) default).Normals.length : Nat) : Int)) <|
 .ok ((mdom cells_arr_3_int64 x1007.2.1 (cells_arr_3_int64 (((a0.getD ((x851.2.2.2).toNat) default).Normals).getD ((x1007.2.2.2).toNat) default))) = false → PVal.int .i64 (mget cells_arr_3_int64 x1007.2.1 (cells_arr_3_int64 (((a0.getD ((x851.2.2.2).toNat) default).Normals).getD ((x1007.2.2.2).toNat) default))) = .int .i64 0) mget0 <|
 .name 10004 ((mget cells_arr_3_int64 x1007.2.1 (cells_arr_3_int64 (((a0.getD ((x851.2.2.2).toNat) default).Normals).getD ((x1007.2.2.2).toNat) default)))) fun z1019 =>
 .cut 0 (fun (y1020 : ((List (Int × Int × Int)) × (List ((Int × Int × Int) × Int)) × Int)) => ⟨[(2, .ptr 0 0), (3, .map 3), (6, .ptr 4 0), (9, pz y1020.2.2), (13, .pure (encL 3 enc_Piece a0)), (14, pz ((a0.length : Nat) : Int)), (15, pz x851.2.2.2), (25, .pure (encL 3 enc_arr_3_int64 ((a0.getD ((x851.2.2.2).toNat) default).Normals))), (26, pz (((a0.getD ((x851.2.2.2).toNat) default).Normals.length : Nat) : Int)), (27, pz x1007.2.2.2)], [(0, .box [.vec 1, .vec 2]), (1, vecO 3 enc_arr_3_int64 y1020.1 102), (2, vecO 3 enc_Use x851.2.1 154), (3, mapR_i64 [.int .i64 0, .int .i64 0, .int .i64 0] cells_arr_3_int64 y1020.2.1), (4, .box [pz ((a0.getD ((x851.2.2.2).toNat) default).Depth), pz ((a0.getD ((x851.2.2.2).toNat) default).Index), .vec 5]), (5, vecO 1 encI_i64 x1007.2.2.1 3)], [.func 124 [] [.ptr 0 0]], 6⟩)
 (.br (!(mdom cells_arr_3_int64 x1007.2.1 (cells_arr_3_int64 (((a0.getD ((x851.2.2.2).toNat) default).Normals).getD ((x1007.2.2.2).toNat) default))))
 (.conv 13003 (cvMap [.int .i64 0, .int .i64 0, .int .i64 0] cells_arr_3_int64 x1007.2.1 (((a0.getD ((x851.2.2.2).toNat) default).Normals).getD ((x1007.2.2.2).toNat) default) ((x1007.1.length : Nat) : Int)) <|
 .conv 14003 (cvLit 3 enc_arr_3_int64 ([(((a0.getD ((x851.2.2.2).toNat) default).Normals).getD ((x1007.2.2.2).toNat) default)] : (List (Int × Int × Int))) 102) <|
 .conv 14004 (cvApp 3 enc_arr_3_int64 x1007.1 ([(((a0.getD ((x851.2.2.2).toNat) default).Normals).getD ((x1007.2.2.2).toNat) default)] : (List (Int × Int × Int))) 102) <|
 .grd ((x1007.1.length + ([(((a0.getD ((x851.2.2.2).toNat) default).Normals).getD ((x1007.2.2.2).toNat) default)] : (List (Int × Int × Int))).length) * 24 ≤ 140737488355328 ∧ (x1007.1.length + ([(((a0.getD ((x851.2.2.2).toNat) default).Normals).getD ((x1007.2.2.2).toNat) default)] : (List (Int × Int × Int))).length) ≤ maxLen) <|
 .ret (.out ((x1007.1 ++ ([(((a0.getD ((x851.2.2.2).toNat) default).Normals).getD ((x1007.2.2.2).toNat) default)] : (List (Int × Int × Int)))), (((((a0.getD ((x851.2.2.2).toNat) default).Normals).getD ((x1007.2.2.2).toNat) default), ((x1007.1.length : Nat) : Int)) :: x1007.2.1), ((x1007.1.length : Nat) : Int))))
 (.ret (.out (x1007.1, x1007.2.1, z1019)))) fun y1020 =>
 .conv 15003 (cvLit 1 encI_i64 ([y1020.2.2] : (List Int)) 3) <|
 .conv 15004 (cvApp 1 encI_i64 x1007.2.2.1 ([y1020.2.2] : (List Int)) 3) <|
 .grd ((x1007.2.2.1.length + ([y1020.2.2] : (List Int)).length) * 8 ≤ 140737488355328 ∧ (x1007.2.2.1.length + ([y1020.2.2] : (List Int)).length) ≤ maxLen) <|
 .ret (.next (y1020.1, y1020.2.1, (x1007.2.2.1 ++ ([y1020.2.2] : (List Int))), (IntKind.i64.wrap (x1007.2.2.2 + 1)))))
 (.ret (.out (x1007.1, x1007.2.1, x1007.2.2.1))))
 (x851.1, x851.2.2.1, nl, 0) [] fun y1014 =>
 .conv 17003 (cvLit 3 enc_Use ([(⟨(a0.getD ((x851.2.2.2).toNat) default).Depth, (a0.getD ((x851.2.2.2).toNat) default).Index, y1014.2.2⟩ : S_Use)] : (List S_Use)) 154) <|
 .conv 17004 (cvApp 3 enc_Use x851.2.1 ([(⟨(a0.getD ((x851.2.2.2).toNat) default).Depth, (a0.getD ((x851.2.2.2).toNat) default).Index, y1014.2.2⟩ : S_Use)] : (List S_Use)) 154) <|
 .grd ((x851.2.1.length + ([(⟨(a0.getD ((x851.2.2.2).toNat) default).Depth, (a0.getD ((x851.2.2.2).toNat) default).Index, y1014.2.2⟩ : S_Use)] : (List S_Use)).length) * 40 ≤ 140737488355328 ∧ (x851.2.1.length + ([(⟨(a0.getD ((x851.2.2.2).toNat) default).Depth, (a0.getD ((x851.2.2.2).toNat) default).Index, y1014.2.2⟩ : S_Use)] : (List S_Use)).length) ≤ maxLen) <|
 .ret (.next (y1014.1, (x851.2.1 ++ ([(⟨(a0.getD ((x851.2.2.2).toNat) default).Depth, (a0.getD ((x851.2.2.2).toNat) default).Index, y1014.2.2⟩ : S_Use)] : (List S_Use))), y1014.2.1, (IntKind.i64.wrap (x851.2.2.2 + 1)))))
 (.ret (.out (x851.1, x851.2.1))))
 (nl, nl, (nl : List ((Int × Int × Int) × Int)), 0) [] fun y936 =>
 .ret (⟨y936.1, y936.2⟩ : S_Packed)
noncomputable def compact_Pack_C (a0 : (List S_Piece)) : CallS S_Packed :=
  mkC [⟨124, guard124⟩] hd Tryz.func63 (by kernel_rfl) (compact_Pack_T a0) 0 [.pure (encL 3 enc_Piece a0)] [] (fun r => .pure (enc_Packed r)) (fun _ => []) (by kernel_rfl)
set_option maxHeartbeats 8000000 in
set_option maxRecDepth 20000 in
noncomputable def compact_Unpack_T (a0 : S_Packed) : T ((List S_Piece) × Bool) :=
 .loop (fun (x245 : ((List S_Piece) × Int)) => ⟨[(1, .ptr 0 0), (2, .ptr 1 0), (3, .ptr 3 0), (11, .pure (encL 3 enc_Use a0.Uses)), (12, pz ((a0.Uses.length : Nat) : Int)), (13, pz x245.2)], [(0, .box [.pure (encL 3 enc_arr_3_int64 a0.Table), .pure (encL 3 enc_Use a0.Uses)]), (1, .box [.vec 2]), (2, vecO 3 enc_Piece x245.1 37), (3, .box [.ff])], [.func 92 [] [.ptr 1 0, .ptr 3 0]], 4⟩)
 (.exit 0) (fun (y306 : (List S_Piece)) => ⟨[(2, .ptr 0 0), (3, .ptr 2 0)], [(0, .box [.vec 1]), (1, vecO 3 enc_Piece y306 37), (2, .box [.ff])], [.func 92 [] [.ptr 0 0, .ptr 2 0]], 3⟩)
 (fun x245 => .br (decide (x245.2 < ((a0.Uses.length : Nat) : Int)))
 (.grd (0 ≤ x245.2 ∧ x245.2 < ((a0.Uses.length : Nat) : Int)) <|
 .loop (fun (x357 : ((List (Int × Int × Int)) × Int)) => ⟨[(1, .ptr 0 0), (2, .ptr 1 0), (3, .ptr 3 0), (6, .ptr 4 0), (11, .pure (encL 3 enc_Use a0.Uses)), (12, pz ((a0.Uses.length : Nat) : Int)), (13, pz x245.2), (23, .pure (encL 1 encI_i64 ((a0.Uses.getD ((x245.2).toNat) default).Numbers))), (24, pz (((a0.Uses.getD ((x245.2).toNat) default).Numbers.length : Nat) : Int)), (25, pz x357.2)], [(0, .box [.pure (encL 3 enc_arr_3_int64 a0.Table), .pure (encL 3 enc_Use a0.Uses)]), (1, .box [.vec 2]), (2, vecO 3 enc_Piece x245.1 37), (3, .box [.ff]), (4, .box [pz ((a0.Uses.getD ((x245.2).toNat) default).Depth), pz ((a0.Uses.getD ((x245.2).toNat) default).Index), .vec 5]), (5, vecO 3 enc_arr_3_int64 x357.1 102)], [.func 92 [] [.ptr 1 0, .ptr 3 0]], 6⟩)
 (.exit 2) (fun (y362 : (List (Int × Int × Int))) => ⟨[(1, .ptr 0 0), (2, .ptr 1 0), (3, .ptr 3 0), (6, .ptr 4 0), (11, .pure (encL 3 enc_Use a0.Uses)), (12, pz ((a0.Uses.length : Nat) : Int)), (13, pz x245.2)], [(0, .box [.pure (encL 3 enc_arr_3_int64 a0.Table), .pure (encL 3 enc_Use a0.Uses)]), (1, .box [.vec 2]), (2, vecO 3 enc_Piece x245.1 37), (3, .box [.ff]), (4, .box [pz ((a0.Uses.getD ((x245.2).toNat) default).Depth), pz ((a0.Uses.getD ((x245.2).toNat) default).Index), .vec 5]), (5, vecO 3 enc_arr_3_int64 y362 102)], [.func 92 [] [.ptr 1 0, .ptr 3 0]], 6⟩)
 (fun x357 => .br (decide (x357.2 < (((a0.Uses.getD ((x245.2).toNat) default).Numbers.length : Nat) : Int)))
 (.grd (0 ≤ x357.2 ∧ x357.2 < (((a0.Uses.getD ((x245.2).toNat) default).Numbers.length : Nat) : Int)) <|
 .cut 1 (fun (y366 : Bool) => ⟨[(1, .ptr 0 0), (2, .ptr 1 0), (3, .ptr 3 0), (6, .ptr 4 0), (8, pz (((a0.Uses.getD ((x245.2).toNat) default).Numbers).getD ((x357.2).toNat) default)), (11, .pure (encL 3 enc_Use a0.Uses)), (12, pz ((a0.Uses.length : Nat) : Int)), (13, pz x245.2), (23, .pure (encL 1 encI_i64 ((a0.Uses.getD ((x245.2).toNat) default).Numbers))), (24, pz (((a0.Uses.getD ((x245.2).toNat) default).Numbers.length : Nat) : Int)), (25, pz x357.2), (37, .pure (.bool y366))], [(0, .box [.pure (encL 3 enc_arr_3_int64 a0.Table), .pure (encL 3 enc_Use a0.Uses)]), (1, .box [.vec 2]), (2, vecO 3 enc_Piece x245.1 37), (3, .box [.ff]), (4, .box [pz ((a0.Uses.getD ((x245.2).toNat) default).Depth), pz ((a0.Uses.getD ((x245.2).toNat) default).Index), .vec 5]), (5, vecO 3 enc_arr_3_int64 x357.1 102)], [.func 92 [] [.ptr 1 0, .ptr 3 0]], 6⟩)
 (.br (decide ((((a0.Uses.getD ((x245.2).toNat) default).Numbers).getD ((x357.2).toNat) default) < 0))
 (.ret (.out true))
 (.ret (.out (decide ((((a0.Uses.getD ((x245.2).toNat) default).Numbers).getD ((x357.2).toNat) default) ≥ ((a0.Table.length : Nat) : Int)))))) fun y366 =>
 .br y366
 (.ret (.fin (.fin (nl, false))))
 (.grd (0 ≤ (((a0.Uses.getD ((x245.2).toNat) default).Numbers).getD ((x357.2).toNat) default) ∧ (((a0.Uses.getD ((x245.2).toNat) default).Numbers).getD ((x357.2).toNat) default) < ((a0.Table.length : Nat) : Int)) <|
 .conv 11007 (cvLit 3 enc_arr_3_int64 ([(a0.Table.getD (((((a0.Uses.getD ((x245.2).toNat) default).Numbers).getD ((x357.2).toNat) default)).toNat) default)] : (List (Int × Int × Int))) 102) <|
 .conv 11008 (cvApp 3 enc_arr_3_int64 x357.1 ([(a0.Table.getD (((((a0.Uses.getD ((x245.2).toNat) default).Numbers).getD ((x357.2).toNat) default)).toNat) default)] : (List (Int × Int × Int))) 102) <|
 .grd ((x357.1.length + ([(a0.Table.getD (((((a0.Uses.getD ((x245.2).toNat) default).Numbers).getD ((x357.2).toNat) default)).toNat) default)] : (List (Int × Int × Int))).length) * 24 ≤ 140737488355328 ∧ (x357.1.length + ([(a0.Table.getD (((((a0.Uses.getD ((x245.2).toNat) default).Numbers).getD ((x357.2).toNat) default)).toNat) default)] : (List (Int × Int × Int))).length) ≤ maxLen) <|
 .ret (.next ((x357.1 ++ ([(a0.Table.getD (((((a0.Uses.getD ((x245.2).toNat) default).Numbers).getD ((x357.2).toNat) default)).toNat) default)] : (List (Int × Int × Int)))), (IntKind.i64.wrap (x357.2 + 1))))))
 (.ret (.out x357.1)))
 (nl, 0) [] fun y362 =>
 .conv 13002 (cvLit 3 enc_Piece ([(⟨(a0.Uses.getD ((x245.2).toNat) default).Depth, (a0.Uses.getD ((x245.2).toNat) default).Index, y362⟩ : S_Piece)] : (List S_Piece)) 37) <|
 .conv 13003 (cvApp 3 enc_Piece x245.1 ([(⟨(a0.Uses.getD ((x245.2).toNat) default).Depth, (a0.Uses.getD ((x245.2).toNat) default).Index, y362⟩ : S_Piece)] : (List S_Piece)) 37) <|
 .grd ((x245.1.length + ([(⟨(a0.Uses.getD ((x245.2).toNat) default).Depth, (a0.Uses.getD ((x245.2).toNat) default).Index, y362⟩ : S_Piece)] : (List S_Piece)).length) * 40 ≤ 140737488355328 ∧ (x245.1.length + ([(⟨(a0.Uses.getD ((x245.2).toNat) default).Depth, (a0.Uses.getD ((x245.2).toNat) default).Index, y362⟩ : S_Piece)] : (List S_Piece)).length) ≤ maxLen) <|
 .ret (.next ((x245.1 ++ ([(⟨(a0.Uses.getD ((x245.2).toNat) default).Depth, (a0.Uses.getD ((x245.2).toNat) default).Index, y362⟩ : S_Piece)] : (List S_Piece))), (IntKind.i64.wrap (x245.2 + 1)))))
 (.ret (.out x245.1)))
 (nl, 0) [] fun y306 =>
 .ret (y306, true)
noncomputable def compact_Unpack_C (a0 : S_Packed) : CallS ((List S_Piece) × Bool) :=
  mkC [⟨92, guard92⟩] hd Tryz.func33 (by kernel_rfl) (compact_Unpack_T a0) 0 [.pure (enc_Packed a0)] [] (fun r => .tup [.pure (encL 3 enc_Piece r.1), .pure (.bool r.2)]) (fun _ => []) (by kernel_rfl)
noncomputable def make_Same_api_Vec_T (a0 : (List (Int × Int × Int))) (a1 : (List (Int × Int × Int))) : T Bool :=
 .br (((a0.length : Nat) : Int) != ((a1.length : Nat) : Int))
 (.ret false)
 (.loop (fun (x5 : Int) => ⟨[(0, .pure (encL 3 enc_arr_3_int64 a0)), (1, .pure (encL 3 enc_arr_3_int64 a1)), (5, pz x5)], [], [], 0⟩)
 (.exit 0) (fun (_ : U0) => ⟨[], [], [], 0⟩)
 (fun x5 => .br (decide (x5 < ((a0.length : Nat) : Int)))
 (.grd (0 ≤ x5 ∧ x5 < ((a0.length : Nat) : Int)) <|
 .grd (0 ≤ x5 ∧ x5 < ((a1.length : Nat) : Int)) <|
 .br (!((((a0.getD ((x5).toNat) default).1) == ((a1.getD ((x5).toNat) default).1)) && ((((a0.getD ((x5).toNat) default).2.1) == ((a1.getD ((x5).toNat) default).2.1)) && ((((a0.getD ((x5).toNat) default).2.2) == ((a1.getD ((x5).toNat) default).2.2)) && true))))
 (.ret (.fin false))
 (.ret (.next (IntKind.i64.wrap (x5 + 1)))))
 (.ret (.out .u)))
 0 [] fun _ =>
 .ret true)
noncomputable def make_Same_api_Vec_C (a0 : (List (Int × Int × Int))) (a1 : (List (Int × Int × Int))) : CallS Bool :=
  mkC [] hd Tryz.func126 (by kernel_rfl) (make_Same_api_Vec_T a0 a1) 0 [.pure (encL 3 enc_arr_3_int64 a0), .pure (encL 3 enc_arr_3_int64 a1)] [] (fun r => .pure (.bool r)) (fun _ => []) (by kernel_rfl)
noncomputable def slices_Clone_api_Piece_api_Piece_T (a0 : (List S_Piece)) : T (List S_Piece) :=
  (match a0 with
   | [] => .unroll 1 <|
   .grd (a0.length = 0) <|
   .both
    (.ret nl)
    (.conv 3000 (cvLit 3 enc_Piece ([] : (List S_Piece)) 37) <|
    .conv 3002 (cvApp 3 enc_Piece ([] : (List S_Piece)) a0 37) <|
    .grd ((([] : (List S_Piece)).length + a0.length) * 40 ≤ 140737488355328 ∧ (([] : (List S_Piece)).length + a0.length) ≤ maxLen) <|
    .ret (([] : (List S_Piece)) ++ a0))
   | _ :: _ => .grd (0 < a0.length) <|
   .conv 3000 (cvLit 3 enc_Piece ([] : (List S_Piece)) 37) <|
   .conv 3002 (cvApp 3 enc_Piece ([] : (List S_Piece)) a0 37) <|
   .grd ((([] : (List S_Piece)).length + a0.length) * 40 ≤ 140737488355328 ∧ (([] : (List S_Piece)).length + a0.length) ≤ maxLen) <|
   .ret (([] : (List S_Piece)) ++ a0))
noncomputable def slices_Clone_api_Piece_api_Piece_C (a0 : (List S_Piece)) : CallS (List S_Piece) :=
  mkH [] hd Tryz.func127 (by kernel_rfl) (slices_Clone_api_Piece_api_Piece_T a0) 0 [.pure (encL 3 enc_Piece a0)] [] (fun _ => .vec 0) (fun r => [(0, vecO 3 enc_Piece r 37)]) (by cases a0 <;> exact Ob.of_side (by kernel_rfl))
noncomputable def slices_Clone_api_Vec_api_Vec_T (a0 : (List (Int × Int × Int))) : T (List (Int × Int × Int)) :=
  (match a0 with
   | [] => .unroll 1 <|
   .grd (a0.length = 0) <|
   .both
    (.ret nl)
    (.conv 3000 (cvLit 3 enc_arr_3_int64 ([] : (List (Int × Int × Int))) 102) <|
    .conv 3002 (cvApp 3 enc_arr_3_int64 ([] : (List (Int × Int × Int))) a0 102) <|
    .grd ((([] : (List (Int × Int × Int))).length + a0.length) * 24 ≤ 140737488355328 ∧ (([] : (List (Int × Int × Int))).length + a0.length) ≤ maxLen) <|
    .ret (([] : (List (Int × Int × Int))) ++ a0))
   | _ :: _ => .grd (0 < a0.length) <|
   .conv 3000 (cvLit 3 enc_arr_3_int64 ([] : (List (Int × Int × Int))) 102) <|
   .conv 3002 (cvApp 3 enc_arr_3_int64 ([] : (List (Int × Int × Int))) a0 102) <|
   .grd ((([] : (List (Int × Int × Int))).length + a0.length) * 24 ≤ 140737488355328 ∧ (([] : (List (Int × Int × Int))).length + a0.length) ≤ maxLen) <|
   .ret (([] : (List (Int × Int × Int))) ++ a0))
noncomputable def slices_Clone_api_Vec_api_Vec_C (a0 : (List (Int × Int × Int))) : CallS (List (Int × Int × Int)) :=
  mkH [] hd Tryz.func128 (by kernel_rfl) (slices_Clone_api_Vec_api_Vec_T a0) 0 [.pure (encL 3 enc_arr_3_int64 a0)] [] (fun r => .pure (encL 3 enc_arr_3_int64 r)) (fun _ => []) (by cases a0 <;> exact Ob.of_side (by kernel_rfl))
noncomputable def compact_clone_T (a0 : (List S_Piece)) : T (List S_Piece) :=
 .call (slices_Clone_api_Piece_api_Piece_C a0) [] fun y2 =>
 .loop (fun (x15 : ((List S_Piece) × Int)) => ⟨[(0, .vec 0), (7, pz ((y2.length : Nat) : Int)), (8, pz x15.2)], [(0, vecO 3 enc_Piece x15.1 37)], [], 1⟩)
 (.exit 0) (fun (y18 : (List S_Piece)) => ⟨[(0, .vec 0)], [(0, vecO 3 enc_Piece y18 37)], [], 1⟩)
 (fun x15 => .br (decide (x15.2 < ((y2.length : Nat) : Int)))
 (.grd (0 ≤ x15.2 ∧ x15.2 < ((x15.1.length : Nat) : Int)) <|
 .grd ((x15.2).toNat < x15.1.length) <|
 .call (slices_Clone_api_Vec_api_Vec_C ((x15.1.getD ((x15.2).toNat) default).Normals)) [] fun y20 =>
 .grd (0 ≤ x15.2 ∧ x15.2 < ((x15.1.length : Nat) : Int)) <|
 .conv 5010 (cvSet 3 enc_Piece x15.1 37 ((x15.2).toNat) (⟨(x15.1.getD ((x15.2).toNat) default).Depth, (x15.1.getD ((x15.2).toNat) default).Index, y20⟩ : S_Piece)) <|
 .grd ((x15.2).toNat < x15.1.length ∧ 0 ≤ (x15.2).toNat) <|
 .ret (.next ((x15.1.set ((x15.2).toNat) (⟨(x15.1.getD ((x15.2).toNat) default).Depth, (x15.1.getD ((x15.2).toNat) default).Index, y20⟩ : S_Piece)), (IntKind.i64.wrap (x15.2 + 1)))))
 (.ret (.out x15.1)))
 (y2, 0) [] fun y18 =>
 .ret y18
noncomputable def compact_clone_C (a0 : (List S_Piece)) : CallS (List S_Piece) :=
  mkC [] hd Tryz.func67 (by kernel_rfl) (compact_clone_T a0) 0 [.pure (encL 3 enc_Piece a0)] [] (fun r => .pure (encL 3 enc_Piece r)) (fun _ => []) (by kernel_rfl)
noncomputable def compact_join_T (a0 : S_Scene) (a1 : (List Int)) (a2 : (List Int)) (a3 : S_Piece) (a4 : S_Piece) : T (S_Piece × Bool) :=
 .cut 2 (fun (y2 : Bool) => ⟨[(1, .pure (encL 1 encI_i64 a1)), (2, .pure (encL 1 encI_i64 a2)), (5, .ptr 0 0), (8, .ptr 1 0), (9, .ptr 2 0), (10, .ptr 3 0), (40, .pure (.bool y2))], [(0, .box [.pure (encL 12 enc_Joint a0.Robot.Joints), .pure (encL 5 enc_Mass a0.Robot.Masses), .pure (encL 3 enc_Shape a0.Shapes), .pure (encL 2 enc_Skip a0.Skips)]), (1, .box [pz a3.Depth, pz a3.Index, .pure (encL 3 enc_arr_3_int64 a3.Normals)]), (2, .box [pz a4.Depth, pz a4.Index, .pure (encL 3 enc_arr_3_int64 a4.Normals)]), (3, .box [pz 0, pz 0, .vec 4]), (4, .nilv)], [], 5⟩)
 (.br (a3.Depth != a4.Depth)
 (.ret (.out true))
 (.br (decide (a3.Depth ≤ 0))
 (.ret (.out true))
 (.ok ((2 : Int) ≠ 0) (by decide) <|
 .br ((a3.Index.tmod 2) != 0)
 (.ret (.out true))
 (.ret (.out (a4.Index != (IntKind.i64.wrap (a3.Index + 1)))))))) fun y2 =>
 .br y2
 (.ret ((⟨0, 0, nl⟩ : S_Piece), false))
 (.ok ((2 : Int) ≠ 0) (by decide) <|
 .call (config_Piece_C a1 a2 (IntKind.i64.wrap (a3.Depth - 1)) (IntKind.i64.wrap (a3.Index.tdiv 2))) [] fun y4 =>
 .br (!y4.2)
 (.ret ((⟨0, 0, nl⟩ : S_Piece), false))
 (.conv 7002 (cvLit 3 enc_Piece ([a3, a4] : (List S_Piece)) 37) <|
 .loop (fun (x25 : Int) => ⟨[(5, .ptr 0 0), (10, .ptr 1 0), (12, .ptr 3 0), (13, .pure (encL 2 enc_Interval y4.1)), (64, .vec 5), (65, pz ((([a3, a4] : (List S_Piece)).length : Nat) : Int)), (66, pz x25)], [(0, .box [.pure (encL 12 enc_Joint a0.Robot.Joints), .pure (encL 5 enc_Mass a0.Robot.Masses), .pure (encL 3 enc_Shape a0.Shapes), .pure (encL 2 enc_Skip a0.Skips)]), (1, .box [pz 0, pz 0, .vec 2]), (2, .nilv), (3, .box [pz (IntKind.i64.wrap (a3.Depth - 1)), pz (IntKind.i64.wrap (a3.Index.tdiv 2)), .vec 4]), (4, .nilv), (5, vecO 3 enc_Piece ([a3, a4] : (List S_Piece)) 37)], [], 6⟩)
 (.exit 0) (fun (_ : U0) => ⟨[(10, .ptr 0 0)], [(0, .box [pz 0, pz 0, .vec 1]), (1, .nilv)], [], 2⟩)
 (fun x25 => .br (decide (x25 < ((([a3, a4] : (List S_Piece)).length : Nat) : Int)))
 (.grd (0 ≤ x25 ∧ x25 < ((([a3, a4] : (List S_Piece)).length : Nat) : Int)) <|
 .grd ((x25).toNat < ([a3, a4] : (List S_Piece)).length) <|
 .call (classify_CheckFree_C a0 y4.1 ((([a3, a4] : (List S_Piece)).getD ((x25).toNat) default).Normals)) [] fun y34 =>
 .br y34
 (.ret (.fin ((⟨(IntKind.i64.wrap (a3.Depth - 1)), (IntKind.i64.wrap (a3.Index.tdiv 2)), (([a3, a4] : (List S_Piece)).getD ((x25).toNat) default).Normals⟩ : S_Piece), true)))
 (.ret (.next (IntKind.i64.wrap (x25 + 1)))))
 (.ret (.out .u)))
 0 [] fun _ =>
 .ret ((⟨0, 0, nl⟩ : S_Piece), false)))
noncomputable def compact_join_C (a0 : S_Scene) (a1 : (List Int)) (a2 : (List Int)) (a3 : S_Piece) (a4 : S_Piece) : CallS (S_Piece × Bool) :=
  mkC [] hd Tryz.func68 (by kernel_rfl) (compact_join_T a0 a1 a2 a3 a4) 0 [.pure (enc_Scene a0), .pure (encL 1 encI_i64 a1), .pure (encL 1 encI_i64 a2), .pure (enc_Piece a3), .pure (enc_Piece a4)] [] (fun r => .tup [.pure (enc_Piece r.1), .pure (.bool r.2)]) (fun _ => []) (by kernel_rfl)
noncomputable def compact_Merge_T (a0 : S_Scene) (a1 : (List Int)) (a2 : (List Int)) (a3 : (List S_Piece)) : T (List S_Piece) :=
 .call (edgecheck_Check_C (⟨a0.Robot, a0.Shapes, a0.Skips⟩ : S_Scene) a1 a2 a3) [] fun y5 =>
 .br (y5.2 != 0)
 (.call (compact_clone_C a3) [] fun y6 =>
 .ret y6)
 (.loop (fun (x163 : ((List S_Piece) × Int)) => ⟨[(1, .pure (encL 1 encI_i64 a1)), (2, .pure (encL 1 encI_i64 a2)), (4, .ptr 0 0), (8, .ptr 1 0), (29, .pure (encL 3 enc_Piece a3)), (30, pz ((a3.length : Nat) : Int)), (31, pz x163.2)], [(0, .box [.pure (encL 12 enc_Joint a0.Robot.Joints), .pure (encL 5 enc_Mass a0.Robot.Masses), .pure (encL 3 enc_Shape a0.Shapes), .pure (encL 2 enc_Skip a0.Skips)]), (1, .box [.vec 2]), (2, vecO 3 enc_Piece x163.1 37)], [.func 66 [] [.ptr 1 0]], 3⟩)
 (.exit 0) (fun (y200 : (List S_Piece)) => ⟨[(8, .ptr 0 0)], [(0, .box [.vec 1]), (1, vecO 3 enc_Piece y200 37)], [.func 66 [] [.ptr 0 0]], 2⟩)
 (fun x163 => .br (decide (x163.2 < ((a3.length : Nat) : Int)))
 (.grd (0 ≤ x163.2 ∧ x163.2 < ((a3.length : Nat) : Int)) <|
 .loop (fun (x231 : ((List S_Piece) × Int × Int × (List (Int × Int × Int)))) => ⟨[(1, .pure (encL 1 encI_i64 a1)), (2, .pure (encL 1 encI_i64 a2)), (4, .ptr 0 0), (8, .ptr 1 0), (12, .ptr 3 0), (29, .pure (encL 3 enc_Piece a3)), (30, pz ((a3.length : Nat) : Int)), (31, pz x163.2)], [(0, .box [.pure (encL 12 enc_Joint a0.Robot.Joints), .pure (encL 5 enc_Mass a0.Robot.Masses), .pure (encL 3 enc_Shape a0.Shapes), .pure (encL 2 enc_Skip a0.Skips)]), (1, .box [.vec 2]), (2, vecO 3 enc_Piece x231.1 37), (3, .box [pz x231.2.1, pz x231.2.2.1, .pure (encL 3 enc_arr_3_int64 x231.2.2.2)])], [.func 66 [] [.ptr 1 0]], 4⟩)
 (.exit 2) (fun (y234 : ((List S_Piece) × Int × Int × (List (Int × Int × Int)))) => ⟨[(1, .pure (encL 1 encI_i64 a1)), (2, .pure (encL 1 encI_i64 a2)), (4, .ptr 0 0), (8, .ptr 1 0), (12, .ptr 3 0), (29, .pure (encL 3 enc_Piece a3)), (30, pz ((a3.length : Nat) : Int)), (31, pz x163.2)], [(0, .box [.pure (encL 12 enc_Joint a0.Robot.Joints), .pure (encL 5 enc_Mass a0.Robot.Masses), .pure (encL 3 enc_Shape a0.Shapes), .pure (encL 2 enc_Skip a0.Skips)]), (1, .box [.vec 2]), (2, vecO 3 enc_Piece y234.1 37), (3, .box [pz y234.2.1, pz y234.2.2.1, .pure (encL 3 enc_arr_3_int64 y234.2.2.2)])], [.func 66 [] [.ptr 1 0]], 4⟩)
 (fun x231 => .br (decide (((x231.1.length : Nat) : Int) > 0))
 (.grd (0 ≤ (IntKind.i64.wrap (((x231.1.length : Nat) : Int) - 1)) ∧ (IntKind.i64.wrap (((x231.1.length : Nat) : Int) - 1)) < ((x231.1.length : Nat) : Int)) <|
 .grd (((IntKind.i64.wrap (((x231.1.length : Nat) : Int) - 1))).toNat < x231.1.length) <|
 .call (compact_join_C a0 a1 a2 (x231.1.getD (((IntKind.i64.wrap (((x231.1.length : Nat) : Int) - 1))).toNat) default) (⟨x231.2.1, x231.2.2.1, x231.2.2.2⟩ : S_Piece)) [] fun y236 =>
 .br (!y236.2)
 (.ret (.out (x231.1, x231.2.1, x231.2.2.1, x231.2.2.2)))
 (.conv 12002 (cvTake 3 enc_Piece x231.1 37 (IntKind.i64.wrap (((x231.1.length : Nat) : Int) - 1))) <|
 .grd (0 ≤ (IntKind.i64.wrap (((x231.1.length : Nat) : Int) - 1)) ∧ (IntKind.i64.wrap (((x231.1.length : Nat) : Int) - 1)) ≤ ((x231.1.length : Nat) : Int) ∧ 0 ≤ ((IntKind.i64.wrap (((x231.1.length : Nat) : Int) - 1))).toNat) <|
 .ret (.next ((x231.1.take (((IntKind.i64.wrap (((x231.1.length : Nat) : Int) - 1))).toNat)), y236.1.Depth, y236.1.Index, y236.1.Normals))))
 (.ret (.out (x231.1, x231.2.1, x231.2.2.1, x231.2.2.2))))
 (x163.1, (a3.getD ((x163.2).toNat) default).Depth, (a3.getD ((x163.2).toNat) default).Index, (a3.getD ((x163.2).toNat) default).Normals) [] fun y234 =>
 .conv 13002 (cvLit 3 enc_Piece ([(⟨y234.2.1, y234.2.2.1, y234.2.2.2⟩ : S_Piece)] : (List S_Piece)) 37) <|
 .conv 13003 (cvApp 3 enc_Piece y234.1 ([(⟨y234.2.1, y234.2.2.1, y234.2.2.2⟩ : S_Piece)] : (List S_Piece)) 37) <|
 .grd ((y234.1.length + ([(⟨y234.2.1, y234.2.2.1, y234.2.2.2⟩ : S_Piece)] : (List S_Piece)).length) * 40 ≤ 140737488355328 ∧ (y234.1.length + ([(⟨y234.2.1, y234.2.2.1, y234.2.2.2⟩ : S_Piece)] : (List S_Piece)).length) ≤ maxLen) <|
 .ret (.next ((y234.1 ++ ([(⟨y234.2.1, y234.2.2.1, y234.2.2.2⟩ : S_Piece)] : (List S_Piece))), (IntKind.i64.wrap (x163.2 + 1)))))
 (.ret (.out x163.1)))
 (nl, 0) [] fun y200 =>
 .call (compact_clone_C y200) [] fun y237 =>
 .ret y237)
noncomputable def compact_Merge_C (a0 : S_Scene) (a1 : (List Int)) (a2 : (List Int)) (a3 : (List S_Piece)) : CallS (List S_Piece) :=
  mkC [⟨66, guard66⟩] hd Tryz.func22 (by kernel_rfl) (compact_Merge_T a0 a1 a2 a3) 0 [.pure (enc_Scene a0), .pure (encL 1 encI_i64 a1), .pure (encL 1 encI_i64 a2), .pure (encL 3 enc_Piece a3)] [] (fun r => .pure (encL 3 enc_Piece r)) (fun _ => []) (by kernel_rfl)
noncomputable def law22_corners_T (a0 : (List Int)) (a1 : (List Int)) (a2 : Int) : T (S_Scene × (List (List Int)) × Int) :=
 .call (make_Scene_C a0) [] fun y571 =>
 .call (make_From_C a1) [] fun y573 =>
 .call (make_Config_C y571.Robot a1) [] fun y575 =>
 .conv 3004 (cvLit 1 (encL 1 encI_i64) ([y575] : (List (List Int))) 31) <|
 .call (Source_Next_C y573.1 y573.2 4) [(0, 512)] fun y858 =>
 .loop (fun (x952 : ((List Int) × Int × (List (List Int)) × Int)) => ⟨[(2, pz a2), (6, .ptr 0 0), (9, .ptr 5 0), (10, .ptr 6 0), (11, .vec 7), (12, pz x952.2.2.2)], [(0, .box [.vec 1, .vec 2, .vec 3, .vec 4]), (1, .nilv), (2, .nilv), (3, .nilv), (4, .nilv), (5, .box [.pure (encL 12 enc_Joint y571.Robot.Joints), .pure (encL 5 enc_Mass y571.Robot.Masses), .pure (encL 3 enc_Shape y571.Shapes), .pure (encL 2 enc_Skip y571.Skips)]), (6, .box [.pure (encL 1 encI_i64 x952.1), pz x952.2.1]), (7, vecO 1 (encL 1 encI_i64) x952.2.2.1 31)], [], 8⟩)
 (.exit 0) (fun (y1045 : (List (List Int))) => ⟨[(2, pz a2), (6, .ptr 0 0), (9, .ptr 5 0), (11, .vec 6)], [(0, .box [.vec 1, .vec 2, .vec 3, .vec 4]), (1, .nilv), (2, .nilv), (3, .nilv), (4, .nilv), (5, .box [.pure (encL 12 enc_Joint y571.Robot.Joints), .pure (encL 5 enc_Mass y571.Robot.Masses), .pure (encL 3 enc_Shape y571.Shapes), .pure (encL 2 enc_Skip y571.Skips)]), (6, vecO 1 (encL 1 encI_i64) y1045 31)], [], 7⟩)
 (fun x952 => .br (decide (x952.2.2.2 > 0))
 (.call (Source_Next_C x952.1 x952.2.1 99) [(0, 6)] fun y1099 =>
 .call (Source_Next_C y1099.2.1 y1099.2.2 1073741824) [(0, 6)] fun y1100 =>
 .call (Source_Next_C y1100.2.1 y1100.2.2 99) [(0, 6)] fun y1101 =>
 .call (Source_Next_C y1101.2.1 y1101.2.2 1073741824) [(0, 6)] fun y1102 =>
 .call (Source_Next_C y1102.2.1 y1102.2.2 99) [(0, 6)] fun y1103 =>
 .call (Source_Next_C y1103.2.1 y1103.2.2 1073741824) [(0, 6)] fun y1104 =>
 .conv 7014 (cvLit 1 encI_i64 ([y1099.1, y1100.1, y1101.1, y1102.1, y1103.1, y1104.1] : (List Int)) 3) <|
 .call (make_Config_C y571.Robot ([y1099.1, y1100.1, y1101.1, y1102.1, y1103.1, y1104.1] : (List Int))) [] fun y1105 =>
 .conv 8000 (cvLit 1 encI_i64 ([1, 16, 64] : (List Int)) 2) <|
 .call (Source_Next_C y1104.2.1 y1104.2.2 3) [(0, 6)] fun y1107 =>
 .grd (0 ≤ y1107.1 ∧ y1107.1 < ((([1, 16, 64] : (List Int)).length : Nat) : Int)) <|
 .grd ((y1107.1).toNat < ([1, 16, 64] : (List Int)).length) <|
 .loop (fun (x1128 : ((List Int) × Int)) => ⟨[(2, pz a2), (6, .ptr 0 0), (9, .ptr 5 0), (10, .ptr 6 0), (11, .vec 7), (12, pz x952.2.2.2), (13, .vec 8), (14, pz (([1, 16, 64] : (List Int)).getD ((y1107.1).toNat) default)), (15, pz x1128.2)], [(0, .box [.vec 1, .vec 2, .vec 3, .vec 4]), (1, .nilv), (2, .nilv), (3, .nilv), (4, .nilv), (5, .box [.pure (encL 12 enc_Joint y571.Robot.Joints), .pure (encL 5 enc_Mass y571.Robot.Masses), .pure (encL 3 enc_Shape y571.Shapes), .pure (encL 2 enc_Skip y571.Skips)]), (6, .box [.pure (encL 1 encI_i64 y1107.2.1), pz y1107.2.2]), (7, vecO 1 (encL 1 encI_i64) x952.2.2.1 31), (8, vecO 1 encI_i64 x1128.1 2)], [], 9⟩)
 (.exit 2) (fun (y1133 : (List Int)) => ⟨[(2, pz a2), (6, .ptr 0 0), (9, .ptr 5 0), (10, .ptr 6 0), (11, .vec 7), (12, pz x952.2.2.2), (13, .vec 8)], [(0, .box [.vec 1, .vec 2, .vec 3, .vec 4]), (1, .nilv), (2, .nilv), (3, .nilv), (4, .nilv), (5, .box [.pure (encL 12 enc_Joint y571.Robot.Joints), .pure (encL 5 enc_Mass y571.Robot.Masses), .pure (encL 3 enc_Shape y571.Shapes), .pure (encL 2 enc_Skip y571.Skips)]), (6, .box [.pure (encL 1 encI_i64 y1107.2.1), pz y1107.2.2]), (7, vecO 1 (encL 1 encI_i64) x952.2.2.1 31), (8, vecO 1 encI_i64 y1133 2)], [], 9⟩)
 (fun x1128 => .br (decide (x1128.2 < ((x1128.1.length : Nat) : Int)))
 (.grd (0 ≤ (0 : Int) ∧ (0 : Int) < ((x952.2.2.1.length : Nat) : Int)) <|
 .grd ((0 : Int).toNat < x952.2.2.1.length) <|
 .grd (0 ≤ x1128.2 ∧ x1128.2 < (((x952.2.2.1.getD ((0 : Int).toNat) default).length : Nat) : Int)) <|
 .grd (0 ≤ x1128.2 ∧ x1128.2 < ((x1128.1.length : Nat) : Int)) <|
 .grd ((x1128.2).toNat < x1128.1.length) <|
 .grd (0 ≤ (0 : Int) ∧ (0 : Int) < ((x952.2.2.1.length : Nat) : Int)) <|
 .grd ((0 : Int).toNat < x952.2.2.1.length) <|
 .grd (0 ≤ x1128.2 ∧ x1128.2 < (((x952.2.2.1.getD ((0 : Int).toNat) default).length : Nat) : Int)) <|
 .name 12018 ((IntKind.i64.wrap ((x1128.1.getD ((x1128.2).toNat) default) - ((x952.2.2.1.getD ((0 : Int).toNat) default).getD ((x1128.2).toNat) default)))) fun z1136 =>
 .grd ((([1, 16, 64] : (List Int)).getD ((y1107.1).toNat) default) ≠ 0) <|
 .name 12021 ((IntKind.i64.wrap (((x952.2.2.1.getD ((0 : Int).toNat) default).getD ((x1128.2).toNat) default) + (IntKind.i64.wrap (z1136.tdiv (([1, 16, 64] : (List Int)).getD ((y1107.1).toNat) default)))))) fun z1137 =>
 .grd (0 ≤ x1128.2 ∧ x1128.2 < ((x1128.1.length : Nat) : Int)) <|
 .conv 12023 (cvSet 1 encI_i64 x1128.1 2 ((x1128.2).toNat) z1137) <|
 .grd ((x1128.2).toNat < x1128.1.length ∧ 0 ≤ (x1128.2).toNat) <|
 .ret (.next ((x1128.1.set ((x1128.2).toNat) z1137), (IntKind.i64.wrap (x1128.2 + 1)))))
 (.ret (.out x1128.1)))
 (y1105, 0) [] fun y1133 =>
 .conv 13002 (cvLit 1 (encL 1 encI_i64) ([y1133] : (List (List Int))) 31) <|
 .conv 13003 (cvApp 1 (encL 1 encI_i64) x952.2.2.1 ([y1133] : (List (List Int))) 31) <|
 .grd ((x952.2.2.1.length + ([y1133] : (List (List Int))).length) * 24 ≤ 140737488355328 ∧ (x952.2.2.1.length + ([y1133] : (List (List Int))).length) ≤ maxLen) <|
 .ret (.next (y1107.2.1, y1107.2.2, (x952.2.2.1 ++ ([y1133] : (List (List Int)))), (IntKind.i64.wrap (x952.2.2.2 - 1)))))
 (.ret (.out x952.2.2.1)))
 (y858.2.1, y858.2.2, ([y575] : (List (List Int))), (IntKind.i64.wrap (1 + y858.1))) [] fun y1045 =>
 .call (make_Round_C a2 5) [] fun y1138 =>
 .ret (y571, y1045, y1138)
noncomputable def law22_corners_C (a0 : (List Int)) (a1 : (List Int)) (a2 : Int) : CallS (S_Scene × (List (List Int)) × Int) :=
  mkC [] hd Tryz.func23 (by kernel_rfl) (law22_corners_T a0 a1 a2) 0 [.pure (encL 1 encI_i64 a0), .pure (encL 1 encI_i64 a1), pz a2] [] (fun r => .tup [.pure (enc_Scene r.1), .pure (encL 1 (encL 1 encI_i64) r.2.1), pz r.2.2]) (fun _ => []) (by kernel_rfl)
noncomputable def path_checkPoints_T (a0 : S_Scene) (a1 : (List (List Int))) : T (Int × Int) :=
 .call (scene_Check_C a0) [] fun y4 =>
 .br (y4 != 0)
 (.ret (0, 904))
 (.cut 1 (fun (y6 : Bool) => ⟨[(1, .pure (encL 1 (encL 1 encI_i64) a1)), (2, .ptr 0 0), (18, .pure (.bool y6))], [(0, .box [.pure (encL 12 enc_Joint a0.Robot.Joints), .pure (encL 5 enc_Mass a0.Robot.Masses), .pure (encL 3 enc_Shape a0.Shapes), .pure (encL 2 enc_Skip a0.Skips)])], [], 1⟩)
 (.br (decide (((a1.length : Nat) : Int) < 2))
 (.ret (.out true))
 (.ret (.out (decide (((a1.length : Nat) : Int) > 256))))) fun y6 =>
 .br y6
 (.ret (0, 2201))
 (.loop (fun (x27 : Int) => ⟨[(2, .ptr 0 0), (19, .pure (encL 1 (encL 1 encI_i64) a1)), (20, pz ((a1.length : Nat) : Int)), (21, pz x27)], [(0, .box [.pure (encL 12 enc_Joint a0.Robot.Joints), .pure (encL 5 enc_Mass a0.Robot.Masses), .pure (encL 3 enc_Shape a0.Shapes), .pure (encL 2 enc_Skip a0.Skips)])], [], 1⟩)
 (.exit 0) (fun (_ : U0) => ⟨[], [], [], 0⟩)
 (fun x27 => .br (decide (x27 < ((a1.length : Nat) : Int)))
 (.grd (0 ≤ x27 ∧ x27 < ((a1.length : Nat) : Int)) <|
 .call (config_Inside_C a0.Robot (a1.getD ((x27).toNat) default)) [] fun y36 =>
 .br (!y36)
 (.ret (.fin (x27, 1201)))
 (.ret (.next (IntKind.i64.wrap (x27 + 1)))))
 (.ret (.out .u)))
 0 [] fun _ =>
 .ret (0, 0)))
noncomputable def path_checkPoints_C (a0 : S_Scene) (a1 : (List (List Int))) : CallS (Int × Int) :=
  mkC [] hd Tryz.func72 (by kernel_rfl) (path_checkPoints_T a0 a1) 0 [.pure (enc_Scene a0), .pure (encL 1 (encL 1 encI_i64) a1)] [] (fun r => .tup [pz r.1, pz r.2]) (fun _ => []) (by kernel_rfl)
noncomputable def prover_prove_T (a0 : S_path_prover) (a1 : (List Int)) (a2 : (List Int)) : T (S_Packed × Bool) :=
 .call (edge_Prove_C a0.scene a1 a2 a0.depth) [] fun y2 =>
 .br (y2.Kind != 1)
 (.ret ((⟨nl, nl⟩ : S_Packed), false))
 (.call (compact_Merge_C a0.scene a1 a2 y2.Pieces) [] fun y3 =>
 .call (compact_Pack_C y3) [] fun y4 =>
 .ret (y4, true))
noncomputable def prover_prove_C (a0 : S_path_prover) (a1 : (List Int)) (a2 : (List Int)) : CallS (S_Packed × Bool) :=
  mkC [] hd Tryz.func74 (by kernel_rfl) (prover_prove_T a0 a1 a2) 0 [.pure (enc_path_prover a0), .pure (encL 1 encI_i64 a1), .pure (encL 1 encI_i64 a2)] [] (fun r => .tup [.pure (enc_Packed r.1), .pure (.bool r.2)]) (fun _ => []) (by kernel_rfl)
noncomputable def path_connect_T (a0 : (List (List Int))) (a1 : S_path_prover) : T ((List S_Packed) × Int × Int) :=
 .conv 2001 (cvSlice 1 (encL 1 encI_i64) a0 (1 : Int) ((a0.length : Nat) : Int)) <|
 .grd (0 ≤ (1 : Int) ∧ (1 : Int) ≤ ((a0.length : Nat) : Int) ∧ ((a0.length : Nat) : Int) ≤ ((a0.length : Nat) : Int)) <|
 .loop (fun (x21 : ((List S_Packed) × Int)) => ⟨[(0, .pure (encL 1 (encL 1 encI_i64) a0)), (1, .func 74 [.pure (enc_path_prover (⟨a1.scene, a1.depth⟩ : S_path_prover))] []), (7, .vec 0), (13, .pure (encL 1 (encL 1 encI_i64) ((a0.drop ((1 : Int).toNat)).take ((((a0.length : Nat) : Int)).toNat - (1 : Int).toNat)))), (14, pz ((((a0.drop ((1 : Int).toNat)).take ((((a0.length : Nat) : Int)).toNat - (1 : Int).toNat)).length : Nat) : Int)), (15, pz x21.2)], [(0, vecO 2 enc_Packed x21.1 79)], [], 1⟩)
 (.exit 0) (fun (y26 : (List S_Packed)) => ⟨[(7, .vec 0)], [(0, vecO 2 enc_Packed y26 79)], [], 1⟩)
 (fun x21 => .br (decide (x21.2 < ((((a0.drop ((1 : Int).toNat)).take ((((a0.length : Nat) : Int)).toNat - (1 : Int).toNat)).length : Nat) : Int)))
 (.grd (0 ≤ x21.2 ∧ x21.2 < ((((a0.drop ((1 : Int).toNat)).take ((((a0.length : Nat) : Int)).toNat - (1 : Int).toNat)).length : Nat) : Int)) <|
 .grd (0 ≤ x21.2 ∧ x21.2 < ((a0.length : Nat) : Int)) <|
 .call (prover_prove_C (⟨a1.scene, a1.depth⟩ : S_path_prover) (a0.getD ((x21.2).toNat) default) (((a0.drop ((1 : Int).toNat)).take ((((a0.length : Nat) : Int)).toNat - (1 : Int).toNat)).getD ((x21.2).toNat) default)) [] fun y30 =>
 .br (!y30.2)
 (.ret (.fin (nl, x21.2, 2204)))
 (.conv 8002 (cvLit 2 enc_Packed ([y30.1] : (List S_Packed)) 79) <|
 .conv 8003 (cvApp 2 enc_Packed x21.1 ([y30.1] : (List S_Packed)) 79) <|
 .grd ((x21.1.length + ([y30.1] : (List S_Packed)).length) * 48 ≤ 140737488355328 ∧ (x21.1.length + ([y30.1] : (List S_Packed)).length) ≤ maxLen) <|
 .ret (.next ((x21.1 ++ ([y30.1] : (List S_Packed))), (IntKind.i64.wrap (x21.2 + 1))))))
 (.ret (.out x21.1)))
 (nl, 0) [] fun y26 =>
 .ret (y26, 0, 0)
noncomputable def path_connect_C (a0 : (List (List Int))) (a1 : S_path_prover) : CallS ((List S_Packed) × Int × Int) :=
  mkC [] hd Tryz.func73 (by kernel_rfl) (path_connect_T a0 a1) 0 [.pure (encL 1 (encL 1 encI_i64) a0), .func 74 [.pure (enc_path_prover a1)] []] [] (fun r => .tup [.pure (encL 2 enc_Packed r.1), pz r.2.1, pz r.2.2]) (fun _ => []) (by kernel_rfl)
noncomputable def slices_Clone_int64_int64_T (a0 : (List (List Int))) : T (List (List Int)) :=
  (match a0 with
   | [] => .unroll 1 <|
   .grd (a0.length = 0) <|
   .both
    (.ret nl)
    (.conv 3000 (cvLit 1 (encL 1 encI_i64) ([] : (List (List Int))) 31) <|
    .conv 3002 (cvApp 1 (encL 1 encI_i64) ([] : (List (List Int))) a0 31) <|
    .grd ((([] : (List (List Int))).length + a0.length) * 24 ≤ 140737488355328 ∧ (([] : (List (List Int))).length + a0.length) ≤ maxLen) <|
    .ret (([] : (List (List Int))) ++ a0))
   | _ :: _ => .grd (0 < a0.length) <|
   .conv 3000 (cvLit 1 (encL 1 encI_i64) ([] : (List (List Int))) 31) <|
   .conv 3002 (cvApp 1 (encL 1 encI_i64) ([] : (List (List Int))) a0 31) <|
   .grd ((([] : (List (List Int))).length + a0.length) * 24 ≤ 140737488355328 ∧ (([] : (List (List Int))).length + a0.length) ≤ maxLen) <|
   .ret (([] : (List (List Int))) ++ a0))
noncomputable def slices_Clone_int64_int64_C (a0 : (List (List Int))) : CallS (List (List Int)) :=
  mkH [] hd Tryz.func129 (by kernel_rfl) (slices_Clone_int64_int64_T a0) 0 [.pure (encL 1 (encL 1 encI_i64) a0)] [] (fun _ => .vec 0) (fun r => [(0, vecO 1 (encL 1 encI_i64) r 31)]) (by cases a0 <;> exact Ob.of_side (by kernel_rfl))
noncomputable def slices_Clone_int64_int64_1_T (a0 : (List Int)) : T (List Int) :=
  (match a0 with
   | [] => .unroll 1 <|
   .grd (a0.length = 0) <|
   .both
    (.ret nl)
    (.conv 3000 (cvLit 1 encI_i64 ([] : (List Int)) 2) <|
    .conv 3002 (cvApp 1 encI_i64 ([] : (List Int)) a0 2) <|
    .grd ((([] : (List Int)).length + a0.length) * 8 ≤ 140737488355328 ∧ (([] : (List Int)).length + a0.length) ≤ maxLen) <|
    .ret (([] : (List Int)) ++ a0))
   | _ :: _ => .grd (0 < a0.length) <|
   .conv 3000 (cvLit 1 encI_i64 ([] : (List Int)) 2) <|
   .conv 3002 (cvApp 1 encI_i64 ([] : (List Int)) a0 2) <|
   .grd ((([] : (List Int)).length + a0.length) * 8 ≤ 140737488355328 ∧ (([] : (List Int)).length + a0.length) ≤ maxLen) <|
   .ret (([] : (List Int)) ++ a0))
noncomputable def slices_Clone_int64_int64_1_C (a0 : (List Int)) : CallS (List Int) :=
  mkH [] hd Tryz.func130 (by kernel_rfl) (slices_Clone_int64_int64_1_T a0) 0 [.pure (encL 1 encI_i64 a0)] [] (fun r => .pure (encL 1 encI_i64 r)) (fun _ => []) (by cases a0 <;> exact Ob.of_side (by kernel_rfl))
noncomputable def path_clonePoints_T (a0 : (List (List Int))) : T (List (List Int)) :=
 .call (slices_Clone_int64_int64_C a0) [] fun y2 =>
 .loop (fun (x15 : ((List (List Int)) × Int)) => ⟨[(0, .vec 0), (7, .vec 0), (8, pz ((y2.length : Nat) : Int)), (9, pz x15.2)], [(0, vecO 1 (encL 1 encI_i64) x15.1 31)], [], 1⟩)
 (.exit 0) (fun (y18 : (List (List Int))) => ⟨[(0, .vec 0)], [(0, vecO 1 (encL 1 encI_i64) y18 31)], [], 1⟩)
 (fun x15 => .br (decide (x15.2 < ((y2.length : Nat) : Int)))
 (.grd (0 ≤ x15.2 ∧ x15.2 < ((x15.1.length : Nat) : Int)) <|
 .grd ((x15.2).toNat < x15.1.length) <|
 .call (slices_Clone_int64_int64_1_C (x15.1.getD ((x15.2).toNat) default)) [] fun y20 =>
 .grd (0 ≤ x15.2 ∧ x15.2 < ((x15.1.length : Nat) : Int)) <|
 .conv 5005 (cvSet 1 (encL 1 encI_i64) x15.1 31 ((x15.2).toNat) y20) <|
 .grd ((x15.2).toNat < x15.1.length ∧ 0 ≤ (x15.2).toNat) <|
 .ret (.next ((x15.1.set ((x15.2).toNat) y20), (IntKind.i64.wrap (x15.2 + 1)))))
 (.ret (.out x15.1)))
 (y2, 0) [] fun y18 =>
 .ret y18
noncomputable def path_clonePoints_C (a0 : (List (List Int))) : CallS (List (List Int)) :=
  mkC [] hd Tryz.func75 (by kernel_rfl) (path_clonePoints_T a0) 0 [.pure (encL 1 (encL 1 encI_i64) a0)] [] (fun r => .pure (encL 1 (encL 1 encI_i64) r)) (fun _ => []) (by kernel_rfl)
noncomputable def path_Build_T (a0 : S_Scene) (a1 : (List (List Int))) (a2 : Int) : T (S_Path × Int × Int) :=
 .call (path_checkPoints_C a0 a1) [] fun y4 =>
 .br (y4.2 != 0)
 (.ret ((⟨nl, nl⟩ : S_Path), y4.1, y4.2))
 (.call (path_connect_C a1 (⟨(⟨a0.Robot, a0.Shapes, a0.Skips⟩ : S_Scene), a2⟩ : S_path_prover)) [] fun y6 =>
 .br (y6.2.2 != 0)
 (.ret ((⟨nl, nl⟩ : S_Path), y6.2.1, y6.2.2))
 (.call (path_clonePoints_C a1) [] fun y7 =>
 .ret ((⟨y7, y6.1⟩ : S_Path), 0, 0)))
noncomputable def path_Build_C (a0 : S_Scene) (a1 : (List (List Int))) (a2 : Int) : CallS (S_Path × Int × Int) :=
  mkC [⟨71, guard71⟩] hd Tryz.func24 (by kernel_rfl) (path_Build_T a0 a1 a2) 0 [.pure (enc_Scene a0), .pure (encL 1 (encL 1 encI_i64) a1), pz a2] [] (fun r => .tup [.pure (enc_Path r.1), pz r.2.1, pz r.2.2]) (fun _ => []) (by kernel_rfl)
noncomputable def law22_one_T : T S_Scene :=
 .conv 1001 (cvLit 12 enc_Joint ([(⟨(⟨#[97]⟩ : ByteArray), 4, (-1), (0, 0, 0), 0, 90000, 2, 1, 1, 1⟩ : S_Joint)] : (List S_Joint)) 158) <|
 .conv 2002 (cvLit 3 enc_arr_3_int64 ([(0, 0, 0)] : (List (Int × Int × Int))) 102) <|
 .conv 2005 (cvLit 3 enc_arr_3_int64 ([(50000, 0, 0)] : (List (Int × Int × Int))) 102) <|
 .conv 2007 (cvLit 3 enc_Shape ([(⟨0, 9, ([(0, 0, 0)] : (List (Int × Int × Int)))⟩ : S_Shape), (⟨(-1), 9, ([(50000, 0, 0)] : (List (Int × Int × Int)))⟩ : S_Shape)] : (List S_Shape)) 170) <|
 .ret (⟨(⟨([(⟨(⟨#[97]⟩ : ByteArray), 4, (-1), (0, 0, 0), 0, 90000, 2, 1, 1, 1⟩ : S_Joint)] : (List S_Joint)), nl⟩ : S_Robot), ([(⟨0, 9, ([(0, 0, 0)] : (List (Int × Int × Int)))⟩ : S_Shape), (⟨(-1), 9, ([(50000, 0, 0)] : (List (Int × Int × Int)))⟩ : S_Shape)] : (List S_Shape)), nl⟩ : S_Scene)
noncomputable def law22_one_C : CallS S_Scene :=
  mkC [] hd Tryz.func77 (by kernel_rfl) (law22_one_T) 0 [] [] (fun r => .pure (enc_Scene r)) (fun _ => []) (by kernel_rfl)
open Go.Proofs
noncomputable def path_Check_T (a0 : S_Scene) (a1 : S_Path) : T (Int × Int) :=
 .call (path_checkPoints_C a0 a1.Points) [] fun y4 =>
 .br (y4.2 != 0)
 (.ret (y4.1, y4.2))
 (.br (((a1.Edges.length : Nat) : Int) != (IntKind.i64.wrap (((a1.Points.length : Nat) : Int) - 1)))
 (.ret (0, 2202))
 (.loop (fun (x41 : Int) => ⟨[(2, .ptr 0 0), (3, .ptr 1 0), (4, .ptr 2 0), (5, .ptr 3 0), (35, .pure (encL 2 enc_Packed a1.Edges)), (36, pz ((a1.Edges.length : Nat) : Int)), (37, pz x41)], [(0, .box [.pure (encL 12 enc_Joint a0.Robot.Joints), .pure (encL 5 enc_Mass a0.Robot.Masses), .pure (encL 3 enc_Shape a0.Shapes), .pure (encL 2 enc_Skip a0.Skips)]), (1, .box [.pure (encL 1 (encL 1 encI_i64) a1.Points), .pure (encL 2 enc_Packed a1.Edges)]), (2, .box [pz 0]), (3, .box [pz 0])], [.func 76 [] [.ptr 2 0, .ptr 3 0]], 4⟩)
 (.exit 0) (fun (_ : U0) => ⟨[(4, .ptr 0 0), (5, .ptr 1 0)], [(0, .box [pz 0]), (1, .box [pz 0])], [.func 76 [] [.ptr 0 0, .ptr 1 0]], 2⟩)
 (fun x41 => .br (decide (x41 < ((a1.Edges.length : Nat) : Int)))
 (.grd (0 ≤ x41 ∧ x41 < ((a1.Edges.length : Nat) : Int)) <|
 .call (compact_Unpack_C (a1.Edges.getD ((x41).toNat) default)) [] fun y56 =>
 .br (!y56.2)
 (.ret (.fin (x41, 2203)))
 (.grd (0 ≤ x41 ∧ x41 < ((a1.Points.length : Nat) : Int)) <|
 .grd (0 ≤ (IntKind.i64.wrap (x41 + 1)) ∧ (IntKind.i64.wrap (x41 + 1)) < ((a1.Points.length : Nat) : Int)) <|
 .call (edgecheck_Check_C a0 (a1.Points.getD ((x41).toNat) default) (a1.Points.getD (((IntKind.i64.wrap (x41 + 1))).toNat) default) y56.1) [] fun y58 =>
 .br (y58.2 != 0)
 (.ret (.fin (x41, y58.2)))
 (.ret (.next (IntKind.i64.wrap (x41 + 1))))))
 (.ret (.out .u)))
 0 [] fun _ =>
 .ret (0, 0)))
noncomputable def path_Check_C (a0 : S_Scene) (a1 : S_Path) : CallS (Int × Int) :=
  mkC [⟨76, guard76⟩] hd Tryz.func25 (by kernel_rfl) (path_Check_T a0 a1) 0 [.pure (enc_Scene a0), .pure (enc_Path a1)] [] (fun r => .tup [pz r.1, pz r.2]) (fun _ => []) (by kernel_rfl)
noncomputable def config_Distance_T (a0 : S_Robot) (a1 : (List Int)) (a2 : (List Int)) : T Int :=
 .cut 3 (fun (y55 : Bool) => ⟨[(1, .pure (encL 1 encI_i64 a1)), (2, .pure (encL 1 encI_i64 a2)), (3, .ptr 0 0), (38, .pure (.bool y55))], [(0, .box [.pure (encL 12 enc_Joint a0.Joints), .pure (encL 5 enc_Mass a0.Masses)])], [], 1⟩)
 (.br (((a1.length : Nat) : Int) != ((a0.Joints.length : Nat) : Int))
 (.ret (.out true))
 (.br (((a2.length : Nat) : Int) != ((a0.Joints.length : Nat) : Int))
 (.ret (.out true))
 (.call (config_small_C a1) [] fun y56 =>
 .br (!y56)
 (.ret (.out true))
 (.call (config_small_C a2) [] fun y57 =>
 .br (!y57)
 (.ret (.out true))
 (.call (robot_Check_C a0) [] fun y58 =>
 .ret (.out (y58 != 0))))))) fun y55 =>
 .br y55
 (.ret 0)
 (.loop (fun (x71 : (Int × Int)) => ⟨[(1, .pure (encL 1 encI_i64 a1)), (2, .pure (encL 1 encI_i64 a2)), (8, pz x71.1), (40, .pure (encL 12 enc_Joint a0.Joints)), (41, pz ((a0.Joints.length : Nat) : Int)), (42, pz x71.2)], [], [], 0⟩)
 (.exit 0) (fun (y74 : Int) => ⟨[(8, pz y74)], [], [], 0⟩)
 (fun x71 => .br (decide (x71.2 < ((a0.Joints.length : Nat) : Int)))
 (.grd (0 ≤ x71.2 ∧ x71.2 < ((a0.Joints.length : Nat) : Int)) <|
 .grd (0 ≤ x71.2 ∧ x71.2 < ((a2.length : Nat) : Int)) <|
 .grd (0 ≤ x71.2 ∧ x71.2 < ((a1.length : Nat) : Int)) <|
 .grd (0 ≤ x71.2 ∧ x71.2 < ((a1.length : Nat) : Int)) <|
 .grd (0 ≤ x71.2 ∧ x71.2 < ((a2.length : Nat) : Int)) <|
 .name 8021 ((max (IntKind.i64.wrap ((a2.getD ((x71.2).toNat) default) - (a1.getD ((x71.2).toNat) default))) (IntKind.i64.wrap ((a1.getD ((x71.2).toNat) default) - (a2.getD ((x71.2).toNat) default))))) fun z76 =>
 .ret (.next ((IntKind.i64.wrap (x71.1 + (IntKind.i64.wrap (((a0.Joints.getD ((x71.2).toNat) default).Weight) * z76)))), (IntKind.i64.wrap (x71.2 + 1)))))
 (.ret (.out x71.1)))
 (0, 0) [] fun y74 =>
 .ret y74)
noncomputable def config_Distance_C (a0 : S_Robot) (a1 : (List Int)) (a2 : (List Int)) : CallS Int :=
  mkC [] hd Tryz.func89 (by kernel_rfl) (config_Distance_T a0 a1 a2) 0 [.pure (enc_Robot a0), .pure (encL 1 encI_i64 a1), .pure (encL 1 encI_i64 a2)] [] (fun r => pz r) (fun _ => []) (by kernel_rfl)
noncomputable def path_Length_T (a0 : S_Scene) (a1 : S_Path) : T Int :=
 .call (path_Check_C a0 a1) [] fun y4 =>
 .br (y4.2 != 0)
 (.ret 0)
 (.loop (fun (x17 : (Int × Int)) => ⟨[(2, .ptr 0 0), (3, .ptr 1 0), (4, .ptr 2 0), (19, pz ((a1.Edges.length : Nat) : Int)), (20, pz x17.2)], [(0, .box [.pure (encL 12 enc_Joint a0.Robot.Joints), .pure (encL 5 enc_Mass a0.Robot.Masses), .pure (encL 3 enc_Shape a0.Shapes), .pure (encL 2 enc_Skip a0.Skips)]), (1, .box [.pure (encL 1 (encL 1 encI_i64) a1.Points), .pure (encL 2 enc_Packed a1.Edges)]), (2, .box [pz x17.1])], [.func 88 [] [.ptr 2 0]], 3⟩)
 (.exit 0) (fun (y20 : Int) => ⟨[(4, .ptr 0 0)], [(0, .box [pz y20])], [.func 88 [] [.ptr 0 0]], 1⟩)
 (fun x17 => .br (decide (x17.2 < ((a1.Edges.length : Nat) : Int)))
 (.grd (0 ≤ x17.2 ∧ x17.2 < ((a1.Points.length : Nat) : Int)) <|
 .grd (0 ≤ (IntKind.i64.wrap (x17.2 + 1)) ∧ (IntKind.i64.wrap (x17.2 + 1)) < ((a1.Points.length : Nat) : Int)) <|
 .call (config_Distance_C a0.Robot (a1.Points.getD ((x17.2).toNat) default) (a1.Points.getD (((IntKind.i64.wrap (x17.2 + 1))).toNat) default)) [] fun y22 =>
 .ret (.next ((IntKind.i64.wrap (x17.1 + y22)), (IntKind.i64.wrap (x17.2 + 1)))))
 (.ret (.out x17.1)))
 (0, 0) [] fun y20 =>
 .ret y20)
noncomputable def path_Length_C (a0 : S_Scene) (a1 : S_Path) : CallS Int :=
  mkC [⟨88, guard88⟩] hd Tryz.func30 (by kernel_rfl) (path_Length_T a0 a1) 0 [.pure (enc_Scene a0), .pure (enc_Path a1)] [] (fun r => pz r) (fun _ => []) (by kernel_rfl)
noncomputable def law22_awake_T : T Bool :=
 .call (law22_one_C) [] fun y3 =>
 .conv 1001 (cvLit 1 encI_i64 ([0] : (List Int)) 2) <|
 .conv 1002 (cvLit 1 encI_i64 ([40000] : (List Int)) 2) <|
 .conv 1003 (cvLit 1 encI_i64 ([30000] : (List Int)) 2) <|
 .conv 1004 (cvLit 1 (encL 1 encI_i64) ([([0] : (List Int)), ([40000] : (List Int)), ([30000] : (List Int))] : (List (List Int))) 31) <|
 .call (path_Build_C y3 ([([0] : (List Int)), ([40000] : (List Int)), ([30000] : (List Int))] : (List (List Int))) 3) [] fun y4 =>
 .call (law22_one_C) [] fun y7 =>
 .call (path_Check_C y7 (⟨y4.1.Points, y4.1.Edges⟩ : S_Path)) [] fun y8 =>
 .br (y4.2.2 == 0)
 (.br (y8.2 == 0)
 (.br (((y4.1.Edges.length : Nat) : Int) == 2)
 (.call (law22_one_C) [] fun y9 =>
 .call (path_Length_C (⟨y9.Robot, y9.Shapes, y9.Skips⟩ : S_Scene) (⟨y4.1.Points, y4.1.Edges⟩ : S_Path)) [] fun y10 =>
 .ret (y10 == 100000))
 (.ret false))
 (.ret false))
 (.ret false)
noncomputable def law22_awake_C : CallS Bool :=
  mkC [] hd Tryz.func26 (by kernel_rfl) (law22_awake_T) 0 [] [] (fun r => .pure (.bool r)) (fun _ => []) (by kernel_rfl)
noncomputable def ref1_Ceil_T (a0 : Int) (a1 : Int) : T Int :=
 .grd (a1 ≠ 0) <|
 .cut 0 (fun (y1 : Int) => ⟨[(5, pz y1)], [], [], 0⟩)
 (.grd (a1 ≠ 0) <|
 .br (decide ((a0.tmod a1) > 0))
 (.ret (.out (IntKind.i64.wrap ((IntKind.i64.wrap (a0.tdiv a1)) + 1))))
 (.ret (.out (IntKind.i64.wrap (a0.tdiv a1))))) fun y1 =>
 .ret y1
noncomputable def ref1_Ceil_C (a0 : Int) (a1 : Int) : CallS Int :=
  mkC [] hd Tryz.func232 (by kernel_rfl) (ref1_Ceil_T a0 a1) 0 [pz a0, pz a1] [] (fun r => pz r) (fun _ => []) (by kernel_rfl)
open Go.Proofs
noncomputable def ref10_reached_T (a0 : (S_Interval × S_Interval × S_Interval)) : T Bool :=
 .unroll 4 <|
 .known true <|
 .cut 1 (fun (y16 : Bool) => ⟨[(1, .ptr 0 0), (3, pz 0), (30, .pure (.bool y16))], [(0, .box [pz a0.1.Lo, pz a0.1.Hi, pz a0.2.1.Lo, pz a0.2.1.Hi, pz a0.2.2.Lo, pz a0.2.2.Hi])], [], 1⟩)
 (.ix 0 3 rfl <|
 .br (decide (a0.1.Lo < (-268435456)))
 (.ret (.out true))
 (.ix 0 3 rfl <|
 .ix 0 3 rfl <|
 .br (decide (a0.1.Lo > a0.1.Hi))
 (.ret (.out true))
 (.ix 0 3 rfl <|
 .ret (.out (decide (a0.1.Hi > 268435456)))))) fun y16 =>
 .br y16
 (.ret false)
 (.lit 3001 (1) <|
 .known true <|
 .cut 1 (fun (y18 : Bool) => ⟨[(1, .ptr 0 0), (3, pz 1), (30, .pure (.bool y18))], [(0, .box [pz a0.1.Lo, pz a0.1.Hi, pz a0.2.1.Lo, pz a0.2.1.Hi, pz a0.2.2.Lo, pz a0.2.2.Hi])], [], 1⟩)
 (.ix 1 3 rfl <|
 .br (decide (a0.2.1.Lo < (-268435456)))
 (.ret (.out true))
 (.ix 1 3 rfl <|
 .ix 1 3 rfl <|
 .br (decide (a0.2.1.Lo > a0.2.1.Hi))
 (.ret (.out true))
 (.ix 1 3 rfl <|
 .ret (.out (decide (a0.2.1.Hi > 268435456)))))) fun y18 =>
 .br y18
 (.ret false)
 (.lit 3001 (2) <|
 .known true <|
 .cut 1 (fun (y20 : Bool) => ⟨[(1, .ptr 0 0), (3, pz 2), (30, .pure (.bool y20))], [(0, .box [pz a0.1.Lo, pz a0.1.Hi, pz a0.2.1.Lo, pz a0.2.1.Hi, pz a0.2.2.Lo, pz a0.2.2.Hi])], [], 1⟩)
 (.ix 2 3 rfl <|
 .br (decide (a0.2.2.Lo < (-268435456)))
 (.ret (.out true))
 (.ix 2 3 rfl <|
 .ix 2 3 rfl <|
 .br (decide (a0.2.2.Lo > a0.2.2.Hi))
 (.ret (.out true))
 (.ix 2 3 rfl <|
 .ret (.out (decide (a0.2.2.Hi > 268435456)))))) fun y20 =>
 .br y20
 (.ret false)
 (.lit 3001 (3) <|
 .known false <|
 .ret true)))
noncomputable def ref10_reached_C (a0 : (S_Interval × S_Interval × S_Interval)) : CallS Bool :=
  mkC [] hd Tryz.func295 (by kernel_rfl) (ref10_reached_T a0) 0 [.pure (enc_arr_3_Interval a0)] [] (fun r => .pure (.bool r)) (fun _ => []) (by kernel_rfl)
noncomputable def ref10_Placed_T (a0 : (List (S_Interval × S_Interval × S_Interval))) : T Bool :=
 .loop (fun (x29 : Int) => ⟨[(0, .pure (encL 6 enc_arr_3_Interval a0)), (3, pz x29)], [], [], 0⟩)
 (.exit 0) (fun (_ : U0) => ⟨[(0, .pure (encL 6 enc_arr_3_Interval a0))], [], [], 0⟩)
 (fun x29 => .cut 1 (fun (y38 : Bool) => ⟨[(0, .pure (encL 6 enc_arr_3_Interval a0)), (3, pz x29), (11, .pure (.bool y38))], [], [], 0⟩)
 (.br (decide (x29 < ((a0.length : Nat) : Int)))
 (.ret (.out (decide (x29 ≤ 8))))
 (.ret (.out false))) fun y38 =>
 .br y38
 (.grd (0 ≤ x29 ∧ x29 < ((a0.length : Nat) : Int)) <|
 .call (ref10_reached_C (a0.getD ((x29).toNat) default)) [] fun y42 =>
 .br (!y42)
 (.ret (.fin false))
 (.ret (.next (IntKind.i64.wrap (x29 + 1)))))
 (.ret (.out .u)))
 0 [] fun _ =>
 .br (decide (((a0.length : Nat) : Int) ≥ 1))
 (.ret (decide (((a0.length : Nat) : Int) ≤ 8)))
 (.ret false)
noncomputable def ref10_Placed_C (a0 : (List (S_Interval × S_Interval × S_Interval))) : CallS Bool :=
  mkC [] hd Tryz.func266 (by kernel_rfl) (ref10_Placed_T a0) 0 [.pure (encL 6 enc_arr_3_Interval a0)] [] (fun r => .pure (.bool r)) (fun _ => []) (by kernel_rfl)
noncomputable def ref14_radius_T (a0 : Int) : T Bool :=
 .br (decide (a0 ≥ 0))
 (.ret (decide (a0 ≤ 1048576)))
 (.ret false)
noncomputable def ref14_radius_C (a0 : Int) : CallS Bool :=
  mkC [] hd Tryz.func291 (by kernel_rfl) (ref14_radius_T a0) 0 [pz a0] [] (fun r => .pure (.bool r)) (fun _ => []) (by kernel_rfl)
noncomputable def ref1_Root_T (a0 : Int) : T Int :=
 .br (decide (a0 < 1))
 (.ret 0)
 (.loop (fun (x5 : (Int × Int)) => ⟨[(0, pz a0), (3, pz x5.1), (4, pz x5.2)], [], [], 0⟩)
 (.exit 0) (fun (y6 : Int) => ⟨[(3, pz y6)], [], [], 0⟩)
 (fun x5 => .br (decide ((IntKind.i64.wrap (x5.2 - x5.1)) > 1))
 (.ok ((2 : Int) ≠ 0) (by decide) <|
 .grd ((IntKind.i64.wrap (x5.1 + (IntKind.i64.wrap ((IntKind.i64.wrap (x5.2 - x5.1)).tdiv 2)))) ≠ 0) <|
 .br (decide ((IntKind.i64.wrap (x5.1 + (IntKind.i64.wrap ((IntKind.i64.wrap (x5.2 - x5.1)).tdiv 2)))) ≤ (IntKind.i64.wrap (a0.tdiv (IntKind.i64.wrap (x5.1 + (IntKind.i64.wrap ((IntKind.i64.wrap (x5.2 - x5.1)).tdiv 2))))))))
 (.ret (.next ((IntKind.i64.wrap (x5.1 + (IntKind.i64.wrap ((IntKind.i64.wrap (x5.2 - x5.1)).tdiv 2)))), x5.2)))
 (.ret (.next (x5.1, (IntKind.i64.wrap (x5.1 + (IntKind.i64.wrap ((IntKind.i64.wrap (x5.2 - x5.1)).tdiv 2))))))))
 (.ret (.out x5.1)))
 (1, 4294967296) [] fun y6 =>
 .ret y6)
noncomputable def ref1_Root_C (a0 : Int) : CallS Int :=
  mkC [] hd Tryz.func316 (by kernel_rfl) (ref1_Root_T a0) 0 [pz a0] [] (fun r => pz r) (fun _ => []) (by kernel_rfl)
set_option maxHeartbeats 8000000 in
set_option maxRecDepth 20000 in
noncomputable def ref10_Combine_T (a0 : (List (S_Interval × S_Interval × S_Interval))) (a1 : (List Int)) : T ((S_Interval × S_Interval × S_Interval) × Int × Bool) :=
 .cut 2 (fun (y447 : Bool) => ⟨[(0, .pure (encL 6 enc_arr_3_Interval a0)), (1, .pure (encL 1 encI_i64 a1)), (4, .ptr 0 0), (21, .pure (.bool y447))], [(0, .box [pz 0, pz 0, pz 0, pz 0, pz 0, pz 0])], [], 1⟩)
 (.call (ref10_Placed_C a0) [] fun y448 =>
 .br (!y448)
 (.ret (.out true))
 (.ret (.out (((a1.length : Nat) : Int) != ((a0.length : Nat) : Int))))) fun y447 =>
 .br y447
 (.ret (((⟨0, 0⟩ : S_Interval), (⟨0, 0⟩ : S_Interval), (⟨0, 0⟩ : S_Interval)), 0, false))
 (.loop (fun (x469 : (Int × Int)) => ⟨[(0, .pure (encL 6 enc_arr_3_Interval a0)), (1, .pure (encL 1 encI_i64 a1)), (4, .ptr 0 0), (7, pz x469.1), (8, pz x469.2)], [(0, .box [pz 0, pz 0, pz 0, pz 0, pz 0, pz 0])], [], 1⟩)
 (.exit 0) (fun (y474 : Int) => ⟨[(0, .pure (encL 6 enc_arr_3_Interval a0)), (1, .pure (encL 1 encI_i64 a1)), (4, .ptr 0 0), (7, pz y474)], [(0, .box [pz 0, pz 0, pz 0, pz 0, pz 0, pz 0])], [], 1⟩)
 (fun x469 => .br (decide (x469.2 < ((a1.length : Nat) : Int)))
 (.cut 2 (fun (y478 : Bool) => ⟨[(0, .pure (encL 6 enc_arr_3_Interval a0)), (1, .pure (encL 1 encI_i64 a1)), (4, .ptr 0 0), (7, pz x469.1), (8, pz x469.2), (42, .pure (.bool y478))], [(0, .box [pz 0, pz 0, pz 0, pz 0, pz 0, pz 0])], [], 1⟩)
 (.grd (0 ≤ x469.2 ∧ x469.2 < ((a1.length : Nat) : Int)) <|
 .br (decide ((a1.getD ((x469.2).toNat) default) < 0))
 (.ret (.out true))
 (.grd (0 ≤ x469.2 ∧ x469.2 < ((a1.length : Nat) : Int)) <|
 .ret (.out (decide ((a1.getD ((x469.2).toNat) default) > (IntKind.i64.wrap (65536 - x469.1))))))) fun y478 =>
 .br y478
 (.ret (.fin (((⟨0, 0⟩ : S_Interval), (⟨0, 0⟩ : S_Interval), (⟨0, 0⟩ : S_Interval)), 0, false)))
 (.grd (0 ≤ x469.2 ∧ x469.2 < ((a1.length : Nat) : Int)) <|
 .ret (.next ((IntKind.i64.wrap (x469.1 + (a1.getD ((x469.2).toNat) default))), (IntKind.i64.wrap (x469.2 + 1))))))
 (.ret (.out x469.1)))
 (0, 0) [] fun y474 =>
 .br (decide (y474 < 1))
 (.ret (((⟨0, 0⟩ : S_Interval), (⟨0, 0⟩ : S_Interval), (⟨0, 0⟩ : S_Interval)), 0, false))
 (.loop (fun (x883 : (Int × Int × Int × Int × Int × Int × Int)) => ⟨[(0, .pure (encL 6 enc_arr_3_Interval a0)), (1, .pure (encL 1 encI_i64 a1)), (4, .ptr 0 0), (7, pz y474), (9, .ptr 1 0), (10, pz x883.2.2.2.2.2.2)], [(0, .box [pz 0, pz 0, pz 0, pz 0, pz 0, pz 0]), (1, .box [pz x883.1, pz x883.2.1, pz x883.2.2.1, pz x883.2.2.2.1, pz x883.2.2.2.2.1, pz x883.2.2.2.2.2.1])], [], 2⟩)
 (.exit 2) (fun (y984 : (Int × Int × Int × Int × Int × Int)) => ⟨[(4, .ptr 0 0), (7, pz y474), (9, .ptr 1 0)], [(0, .box [pz 0, pz 0, pz 0, pz 0, pz 0, pz 0]), (1, .box [pz y984.1, pz y984.2.1, pz y984.2.2.1, pz y984.2.2.2.1, pz y984.2.2.2.2.1, pz y984.2.2.2.2.2])], [], 2⟩)
 (fun x883 => .br (decide (x883.2.2.2.2.2.2 < ((a0.length : Nat) : Int)))
 (.unroll 4 <|
 .known true <|
 .ix 0 3 rfl <|
 .grd (0 ≤ x883.2.2.2.2.2.2 ∧ x883.2.2.2.2.2.2 < ((a1.length : Nat) : Int)) <|
 .grd (0 ≤ x883.2.2.2.2.2.2 ∧ x883.2.2.2.2.2.2 < ((a0.length : Nat) : Int)) <|
 .ix 0 3 rfl <|
 .name 19015 ((IntKind.i64.wrap ((a1.getD ((x883.2.2.2.2.2.2).toNat) default) * ((a0.getD ((x883.2.2.2.2.2.2).toNat) default).1.Lo)))) fun z1057 =>
 .name 19016 ((IntKind.i64.wrap (x883.1 + z1057))) fun z1058 =>
 .ix 0 3 rfl <|
 .ix 0 3 rfl <|
 .grd (0 ≤ x883.2.2.2.2.2.2 ∧ x883.2.2.2.2.2.2 < ((a1.length : Nat) : Int)) <|
 .grd (0 ≤ x883.2.2.2.2.2.2 ∧ x883.2.2.2.2.2.2 < ((a0.length : Nat) : Int)) <|
 .ix 0 3 rfl <|
 .name 20015 ((IntKind.i64.wrap ((a1.getD ((x883.2.2.2.2.2.2).toNat) default) * ((a0.getD ((x883.2.2.2.2.2.2).toNat) default).1.Hi)))) fun z1059 =>
 .name 20016 ((IntKind.i64.wrap (x883.2.1 + z1059))) fun z1060 =>
 .ix 0 3 rfl <|
 .lit 18001 (1) <|
 .known true <|
 .ix 1 3 rfl <|
 .grd (0 ≤ x883.2.2.2.2.2.2 ∧ x883.2.2.2.2.2.2 < ((a1.length : Nat) : Int)) <|
 .grd (0 ≤ x883.2.2.2.2.2.2 ∧ x883.2.2.2.2.2.2 < ((a0.length : Nat) : Int)) <|
 .ix 1 3 rfl <|
 .name 19015 ((IntKind.i64.wrap ((a1.getD ((x883.2.2.2.2.2.2).toNat) default) * ((a0.getD ((x883.2.2.2.2.2.2).toNat) default).2.1.Lo)))) fun z1069 =>
 .name 19016 ((IntKind.i64.wrap (x883.2.2.1 + z1069))) fun z1070 =>
 .ix 1 3 rfl <|
 .ix 1 3 rfl <|
 .grd (0 ≤ x883.2.2.2.2.2.2 ∧ x883.2.2.2.2.2.2 < ((a1.length : Nat) : Int)) <|
 .grd (0 ≤ x883.2.2.2.2.2.2 ∧ x883.2.2.2.2.2.2 < ((a0.length : Nat) : Int)) <|
 .ix 1 3 rfl <|
 .name 20015 ((IntKind.i64.wrap ((a1.getD ((x883.2.2.2.2.2.2).toNat) default) * ((a0.getD ((x883.2.2.2.2.2.2).toNat) default).2.1.Hi)))) fun z1071 =>
 .name 20016 ((IntKind.i64.wrap (x883.2.2.2.1 + z1071))) fun z1072 =>
 .ix 1 3 rfl <|
 .lit 18001 (2) <|
 .known true <|
 .ix 2 3 rfl <|
 .grd (0 ≤ x883.2.2.2.2.2.2 ∧ x883.2.2.2.2.2.2 < ((a1.length : Nat) : Int)) <|
 .grd (0 ≤ x883.2.2.2.2.2.2 ∧ x883.2.2.2.2.2.2 < ((a0.length : Nat) : Int)) <|
 .ix 2 3 rfl <|
 .name 19015 ((IntKind.i64.wrap ((a1.getD ((x883.2.2.2.2.2.2).toNat) default) * ((a0.getD ((x883.2.2.2.2.2.2).toNat) default).2.2.Lo)))) fun z1081 =>
 .name 19016 ((IntKind.i64.wrap (x883.2.2.2.2.1 + z1081))) fun z1082 =>
 .ix 2 3 rfl <|
 .ix 2 3 rfl <|
 .grd (0 ≤ x883.2.2.2.2.2.2 ∧ x883.2.2.2.2.2.2 < ((a1.length : Nat) : Int)) <|
 .grd (0 ≤ x883.2.2.2.2.2.2 ∧ x883.2.2.2.2.2.2 < ((a0.length : Nat) : Int)) <|
 .ix 2 3 rfl <|
 .name 20015 ((IntKind.i64.wrap ((a1.getD ((x883.2.2.2.2.2.2).toNat) default) * ((a0.getD ((x883.2.2.2.2.2.2).toNat) default).2.2.Hi)))) fun z1083 =>
 .name 20016 ((IntKind.i64.wrap (x883.2.2.2.2.2.1 + z1083))) fun z1084 =>
 .ix 2 3 rfl <|
 .lit 18001 (3) <|
 .known false <|
 .ret (.next (z1058, z1060, z1070, z1072, z1082, z1084, (IntKind.i64.wrap (x883.2.2.2.2.2.2 + 1)))))
 (.ret (.out (x883.1, x883.2.1, x883.2.2.1, x883.2.2.2.1, x883.2.2.2.2.1, x883.2.2.2.2.2.1))))
 (0, 0, 0, 0, 0, 0, 0) [] fun y984 =>
 .ret (((⟨y984.1, y984.2.1⟩ : S_Interval), (⟨y984.2.2.1, y984.2.2.2.1⟩ : S_Interval), (⟨y984.2.2.2.2.1, y984.2.2.2.2.2⟩ : S_Interval)), y474, true)))
noncomputable def ref10_Combine_C (a0 : (List (S_Interval × S_Interval × S_Interval))) (a1 : (List Int)) : CallS ((S_Interval × S_Interval × S_Interval) × Int × Bool) :=
  mkC [] hd Tryz.func297 (by kernel_rfl) (ref10_Combine_T a0 a1) 0 [.pure (encL 6 enc_arr_3_Interval a0), .pure (encL 1 encI_i64 a1)] [] (fun r => .tup [.pure (enc_arr_3_Interval r.1), pz r.2.1, .pure (.bool r.2.2)]) (fun _ => []) (by kernel_rfl)
noncomputable def ref14_size_T (a0 : Int) : T Int :=
 .ret (max a0 (IntKind.i64.wrap (0 - a0)))
noncomputable def ref14_size_C (a0 : Int) : CallS Int :=
  mkC [] hd Tryz.func298 (by kernel_rfl) (ref14_size_T a0) 0 [pz a0] [] (fun r => pz r) (fun _ => []) (by kernel_rfl)
noncomputable def ref14_Excess_T (a0 : (List Int)) (a1 : (List Int)) (a2 : (List (S_Interval × S_Interval × S_Interval))) (a3 : Int) (a4 : (List (S_Interval × S_Interval × S_Interval))) (a5 : Int) : T (Int × Bool) :=
 .call (ref10_Combine_C a2 a0) [] fun y136 =>
 .call (ref10_Combine_C a4 a1) [] fun y138 =>
 .cut 1 (fun (y150 : Bool) => ⟨[(3, pz a3), (5, pz a5), (14, .ptr 0 0), (15, pz y136.2.1), (17, .ptr 1 0), (57, .pure (.bool y150))], [(0, .box [pz y136.1.1.Lo, pz y136.1.1.Hi, pz y136.1.2.1.Lo, pz y136.1.2.1.Hi, pz y136.1.2.2.Lo, pz y136.1.2.2.Hi]), (1, .box [pz y138.1.1.Lo, pz y138.1.1.Hi, pz y138.1.2.1.Lo, pz y138.1.2.1.Hi, pz y138.1.2.2.Lo, pz y138.1.2.2.Hi])], [], 2⟩)
 (.br (!y136.2.2)
 (.ret (.out true))
 (.br (!y138.2.2)
 (.ret (.out true))
 (.br (y136.2.1 != y138.2.1)
 (.ret (.out true))
 (.call (ref14_radius_C a3) [] fun y151 =>
 .br (!y151)
 (.ret (.out true))
 (.call (ref14_radius_C a5) [] fun y152 =>
 .ret (.out (!y152))))))) fun y150 =>
 .br y150
 (.ret (0, false))
 (.unroll 4 <|
 .known true <|
 .ix 0 3 rfl <|
 .ix 0 3 rfl <|
 .call (ref14_size_C (IntKind.i64.wrap (y136.1.1.Lo - y138.1.1.Hi))) [] fun y237 =>
 .ix 0 3 rfl <|
 .ix 0 3 rfl <|
 .call (ref14_size_C (IntKind.i64.wrap (y136.1.1.Hi - y138.1.1.Lo))) [] fun y238 =>
 .call (ref1_Ceil_C (max y237 y238) y136.2.1) [] fun y239 =>
 .br (decide (y239 > (IntKind.i64.wrap (a3 + a5))))
 (.ret ((-1), true))
 (.name 12004 ((IntKind.i64.wrap ((IntKind.i64.wrap ((IntKind.i64.wrap (a3 + a5)) * (IntKind.i64.wrap (a3 + a5)))) - (IntKind.i64.wrap (y239 * y239))))) fun z240 =>
 .lit 8001 (1) <|
 .known true <|
 .ix 1 3 rfl <|
 .ix 1 3 rfl <|
 .call (ref14_size_C (IntKind.i64.wrap (y136.1.2.1.Lo - y138.1.2.1.Hi))) [] fun y251 =>
 .ix 1 3 rfl <|
 .ix 1 3 rfl <|
 .call (ref14_size_C (IntKind.i64.wrap (y136.1.2.1.Hi - y138.1.2.1.Lo))) [] fun y252 =>
 .call (ref1_Ceil_C (max y251 y252) y136.2.1) [] fun y253 =>
 .br (decide (y253 > (IntKind.i64.wrap (a3 + a5))))
 (.ret ((-1), true))
 (.name 12004 ((IntKind.i64.wrap (z240 - (IntKind.i64.wrap (y253 * y253))))) fun z254 =>
 .lit 8001 (2) <|
 .known true <|
 .ix 2 3 rfl <|
 .ix 2 3 rfl <|
 .call (ref14_size_C (IntKind.i64.wrap (y136.1.2.2.Lo - y138.1.2.2.Hi))) [] fun y265 =>
 .ix 2 3 rfl <|
 .ix 2 3 rfl <|
 .call (ref14_size_C (IntKind.i64.wrap (y136.1.2.2.Hi - y138.1.2.2.Lo))) [] fun y266 =>
 .call (ref1_Ceil_C (max y265 y266) y136.2.1) [] fun y267 =>
 .br (decide (y267 > (IntKind.i64.wrap (a3 + a5))))
 (.ret ((-1), true))
 (.name 12004 ((IntKind.i64.wrap (z254 - (IntKind.i64.wrap (y267 * y267))))) fun z268 =>
 .lit 8001 (3) <|
 .known false <|
 .ret (z268, true)))))
noncomputable def ref14_Excess_C (a0 : (List Int)) (a1 : (List Int)) (a2 : (List (S_Interval × S_Interval × S_Interval))) (a3 : Int) (a4 : (List (S_Interval × S_Interval × S_Interval))) (a5 : Int) : CallS (Int × Bool) :=
  mkC [] hd Tryz.func268 (by kernel_rfl) (ref14_Excess_T a0 a1 a2 a3 a4 a5) 0 [.pure (encL 1 encI_i64 a0), .pure (encL 1 encI_i64 a1), .pure (encL 6 enc_arr_3_Interval a2), pz a3, .pure (encL 6 enc_arr_3_Interval a4), pz a5] [] (fun r => .tup [pz r.1, .pure (.bool r.2)]) (fun _ => []) (by kernel_rfl)
noncomputable def ref14_Overlaps_T (a0 : (List Int)) (a1 : (List Int)) (a2 : (List (S_Interval × S_Interval × S_Interval))) (a3 : Int) (a4 : (List (S_Interval × S_Interval × S_Interval))) (a5 : Int) : T Bool :=
 .call (ref14_Excess_C a0 a1 a2 a3 a4 a5) [] fun y2 =>
 .br y2.2
 (.ret (decide (y2.1 ≥ 0)))
 (.ret false)
noncomputable def ref14_Overlaps_C (a0 : (List Int)) (a1 : (List Int)) (a2 : (List (S_Interval × S_Interval × S_Interval))) (a3 : Int) (a4 : (List (S_Interval × S_Interval × S_Interval))) (a5 : Int) : CallS Bool :=
  mkC [] hd Tryz.func238 (by kernel_rfl) (ref14_Overlaps_T a0 a1 a2 a3 a4 a5) 0 [.pure (encL 1 encI_i64 a0), .pure (encL 1 encI_i64 a1), .pure (encL 6 enc_arr_3_Interval a2), pz a3, .pure (encL 6 enc_arr_3_Interval a4), pz a5] [] (fun r => .pure (.bool r)) (fun _ => []) (by kernel_rfl)
open Go.Proofs
theorem guard105 : GuardFn Tryz.prog 105 :=
  guardFn_of (fn := Tryz.f105) Tryz.func105 (by kernel_rfl) ⟨0, (gOps Tryz.f105).getD 0 default, (gOps Tryz.f105).getD 1 default, 2, 3, gX Tryz.f105, gC ((gOps Tryz.f105).getD 0 default), 20, 20, by kernel_rfl, by kernel_rfl, by kernel_rfl, by kernel_rfl, by kernel_rfl, by kernel_rfl, by kernel_rfl, by kernel_rfl, ⟨gMs (Tryz.prog.underlying 20), by kernel_rfl⟩, by decide, by decide, by kernel_rfl⟩
noncomputable def slices_Equal_int64_int64_T (a0 : (List Int)) (a1 : (List Int)) : T Bool :=
 .br (((a0.length : Nat) : Int) != ((a1.length : Nat) : Int))
 (.ret false)
 (.loop (fun (x5 : Int) => ⟨[(0, .pure (encL 1 encI_i64 a0)), (1, .pure (encL 1 encI_i64 a1)), (12, pz ((a0.length : Nat) : Int)), (13, pz x5)], [], [], 0⟩)
 (.exit 0) (fun (_ : U0) => ⟨[], [], [], 0⟩)
 (fun x5 => .br (decide (x5 < ((a0.length : Nat) : Int)))
 (.grd (0 ≤ x5 ∧ x5 < ((a0.length : Nat) : Int)) <|
 .grd (0 ≤ x5 ∧ x5 < ((a1.length : Nat) : Int)) <|
 .br ((a0.getD ((x5).toNat) default) != (a1.getD ((x5).toNat) default))
 (.ret (.fin false))
 (.ret (.next (IntKind.i64.wrap (x5 + 1)))))
 (.ret (.out .u)))
 0 [] fun _ =>
 .ret true)
noncomputable def slices_Equal_int64_int64_C (a0 : (List Int)) (a1 : (List Int)) : CallS Bool :=
  mkC [] hd Tryz.func106 (by kernel_rfl) (slices_Equal_int64_int64_T a0 a1) 0 [.pure (encL 1 encI_i64 a0), .pure (encL 1 encI_i64 a1)] [] (fun r => .pure (.bool r)) (fun _ => []) (by kernel_rfl)
noncomputable def slices_Clone_api_Packed_api_Packed_T (a0 : (List S_Packed)) : T (List S_Packed) :=
  (match a0 with
   | [] => .unroll 1 <|
   .grd (a0.length = 0) <|
   .both
    (.ret nl)
    (.conv 3000 (cvLit 2 enc_Packed ([] : (List S_Packed)) 79) <|
    .conv 3002 (cvApp 2 enc_Packed ([] : (List S_Packed)) a0 79) <|
    .grd ((([] : (List S_Packed)).length + a0.length) * 48 ≤ 140737488355328 ∧ (([] : (List S_Packed)).length + a0.length) ≤ maxLen) <|
    .ret (([] : (List S_Packed)) ++ a0))
   | _ :: _ => .grd (0 < a0.length) <|
   .conv 3000 (cvLit 2 enc_Packed ([] : (List S_Packed)) 79) <|
   .conv 3002 (cvApp 2 enc_Packed ([] : (List S_Packed)) a0 79) <|
   .grd ((([] : (List S_Packed)).length + a0.length) * 48 ≤ 140737488355328 ∧ (([] : (List S_Packed)).length + a0.length) ≤ maxLen) <|
   .ret (([] : (List S_Packed)) ++ a0))
noncomputable def slices_Clone_api_Packed_api_Packed_C (a0 : (List S_Packed)) : CallS (List S_Packed) :=
  mkH [] hd Tryz.func150 (by kernel_rfl) (slices_Clone_api_Packed_api_Packed_T a0) 0 [.pure (encL 2 enc_Packed a0)] [] (fun _ => .vec 0) (fun r => [(0, vecO 2 enc_Packed r 79)]) (by cases a0 <;> exact Ob.of_side (by kernel_rfl))
noncomputable def slices_Clone_api_Use_api_Use_T (a0 : (List S_Use)) : T (List S_Use) :=
  (match a0 with
   | [] => .unroll 1 <|
   .grd (a0.length = 0) <|
   .both
    (.ret nl)
    (.conv 3000 (cvLit 3 enc_Use ([] : (List S_Use)) 154) <|
    .conv 3002 (cvApp 3 enc_Use ([] : (List S_Use)) a0 154) <|
    .grd ((([] : (List S_Use)).length + a0.length) * 40 ≤ 140737488355328 ∧ (([] : (List S_Use)).length + a0.length) ≤ maxLen) <|
    .ret (([] : (List S_Use)) ++ a0))
   | _ :: _ => .grd (0 < a0.length) <|
   .conv 3000 (cvLit 3 enc_Use ([] : (List S_Use)) 154) <|
   .conv 3002 (cvApp 3 enc_Use ([] : (List S_Use)) a0 154) <|
   .grd ((([] : (List S_Use)).length + a0.length) * 40 ≤ 140737488355328 ∧ (([] : (List S_Use)).length + a0.length) ≤ maxLen) <|
   .ret (([] : (List S_Use)) ++ a0))
noncomputable def slices_Clone_api_Use_api_Use_C (a0 : (List S_Use)) : CallS (List S_Use) :=
  mkH [] hd Tryz.func197 (by kernel_rfl) (slices_Clone_api_Use_api_Use_T a0) 0 [.pure (encL 3 enc_Use a0)] [] (fun _ => .vec 0) (fun r => [(0, vecO 3 enc_Use r 154)]) (by cases a0 <;> exact Ob.of_side (by kernel_rfl))
noncomputable def slices_Clone_int_int_T (a0 : (List Int)) : T (List Int) :=
  (match a0 with
   | [] => .unroll 1 <|
   .grd (a0.length = 0) <|
   .both
    (.ret nl)
    (.conv 3000 (cvLit 1 encI_i64 ([] : (List Int)) 3) <|
    .conv 3002 (cvApp 1 encI_i64 ([] : (List Int)) a0 3) <|
    .grd ((([] : (List Int)).length + a0.length) * 8 ≤ 140737488355328 ∧ (([] : (List Int)).length + a0.length) ≤ maxLen) <|
    .ret (([] : (List Int)) ++ a0))
   | _ :: _ => .grd (0 < a0.length) <|
   .conv 3000 (cvLit 1 encI_i64 ([] : (List Int)) 3) <|
   .conv 3002 (cvApp 1 encI_i64 ([] : (List Int)) a0 3) <|
   .grd ((([] : (List Int)).length + a0.length) * 8 ≤ 140737488355328 ∧ (([] : (List Int)).length + a0.length) ≤ maxLen) <|
   .ret (([] : (List Int)) ++ a0))
noncomputable def slices_Clone_int_int_C (a0 : (List Int)) : CallS (List Int) :=
  mkH [] hd Tryz.func198 (by kernel_rfl) (slices_Clone_int_int_T a0) 0 [.pure (encL 1 encI_i64 a0)] [] (fun r => .pure (encL 1 encI_i64 r)) (fun _ => []) (by cases a0 <;> exact Ob.of_side (by kernel_rfl))
noncomputable def path_clonePacked_T (a0 : S_Packed) : T S_Packed :=
 .call (slices_Clone_api_Use_api_Use_C a0.Uses) [] fun y2 =>
 .loop (fun (x15 : ((List S_Use) × Int)) => ⟨[(1, .ptr 0 0), (2, .ptr 1 0), (3, .vec 4), (9, .vec 4), (10, pz ((y2.length : Nat) : Int)), (11, pz x15.2)], [(0, .box [.pure (encL 3 enc_arr_3_int64 a0.Table), .pure (encL 3 enc_Use a0.Uses)]), (1, .box [.vec 2, .vec 3]), (2, .nilv), (3, .nilv), (4, vecO 3 enc_Use x15.1 154)], [], 5⟩)
 (.exit 0) (fun (y18 : (List S_Use)) => ⟨[(1, .ptr 0 0), (2, .ptr 1 0), (3, .vec 4)], [(0, .box [.pure (encL 3 enc_arr_3_int64 a0.Table), .pure (encL 3 enc_Use a0.Uses)]), (1, .box [.vec 2, .vec 3]), (2, .nilv), (3, .nilv), (4, vecO 3 enc_Use y18 154)], [], 5⟩)
 (fun x15 => .br (decide (x15.2 < ((y2.length : Nat) : Int)))
 (.grd (0 ≤ x15.2 ∧ x15.2 < ((x15.1.length : Nat) : Int)) <|
 .grd ((x15.2).toNat < x15.1.length) <|
 .call (slices_Clone_int_int_C ((x15.1.getD ((x15.2).toNat) default).Numbers)) [] fun y20 =>
 .grd (0 ≤ x15.2 ∧ x15.2 < ((x15.1.length : Nat) : Int)) <|
 .conv 5007 (cvSet 3 enc_Use x15.1 154 ((x15.2).toNat) (⟨(x15.1.getD ((x15.2).toNat) default).Depth, (x15.1.getD ((x15.2).toNat) default).Index, y20⟩ : S_Use)) <|
 .grd ((x15.2).toNat < x15.1.length ∧ 0 ≤ (x15.2).toNat) <|
 .ret (.next ((x15.1.set ((x15.2).toNat) (⟨(x15.1.getD ((x15.2).toNat) default).Depth, (x15.1.getD ((x15.2).toNat) default).Index, y20⟩ : S_Use)), (IntKind.i64.wrap (x15.2 + 1)))))
 (.ret (.out x15.1)))
 (y2, 0) [] fun y18 =>
 .call (slices_Clone_api_Vec_api_Vec_C a0.Table) [] fun y21 =>
 .ret (⟨y21, y18⟩ : S_Packed)
noncomputable def path_clonePacked_C (a0 : S_Packed) : CallS S_Packed :=
  mkC [] hd Tryz.func151 (by kernel_rfl) (path_clonePacked_T a0) 0 [.pure (enc_Packed a0)] [] (fun r => .pure (enc_Packed r)) (fun _ => []) (by kernel_rfl)
noncomputable def path_clone_T (a0 : S_Path) : T S_Path :=
 .call (slices_Clone_api_Packed_api_Packed_C a0.Edges) [] fun y2 =>
 .loop (fun (x15 : ((List S_Packed) × Int)) => ⟨[(1, .ptr 0 0), (2, .ptr 1 0), (3, .vec 4), (9, .vec 4), (10, pz ((y2.length : Nat) : Int)), (11, pz x15.2)], [(0, .box [.pure (encL 1 (encL 1 encI_i64) a0.Points), .pure (encL 2 enc_Packed a0.Edges)]), (1, .box [.vec 2, .vec 3]), (2, .nilv), (3, .nilv), (4, vecO 2 enc_Packed x15.1 79)], [], 5⟩)
 (.exit 0) (fun (y18 : (List S_Packed)) => ⟨[(1, .ptr 0 0), (2, .ptr 1 0), (3, .vec 4)], [(0, .box [.pure (encL 1 (encL 1 encI_i64) a0.Points), .pure (encL 2 enc_Packed a0.Edges)]), (1, .box [.vec 2, .vec 3]), (2, .nilv), (3, .nilv), (4, vecO 2 enc_Packed y18 79)], [], 5⟩)
 (fun x15 => .br (decide (x15.2 < ((y2.length : Nat) : Int)))
 (.grd (0 ≤ x15.2 ∧ x15.2 < ((x15.1.length : Nat) : Int)) <|
 .grd ((x15.2).toNat < x15.1.length) <|
 .call (path_clonePacked_C (x15.1.getD ((x15.2).toNat) default)) [] fun y20 =>
 .grd (0 ≤ x15.2 ∧ x15.2 < ((x15.1.length : Nat) : Int)) <|
 .conv 5005 (cvSet 2 enc_Packed x15.1 79 ((x15.2).toNat) y20) <|
 .grd ((x15.2).toNat < x15.1.length ∧ 0 ≤ (x15.2).toNat) <|
 .ret (.next ((x15.1.set ((x15.2).toNat) y20), (IntKind.i64.wrap (x15.2 + 1)))))
 (.ret (.out x15.1)))
 (y2, 0) [] fun y18 =>
 .call (path_clonePoints_C a0.Points) [] fun y21 =>
 .ret (⟨y21, y18⟩ : S_Path)
noncomputable def path_clone_C (a0 : S_Path) : CallS S_Path :=
  mkC [] hd Tryz.func99 (by kernel_rfl) (path_clone_T a0) 0 [.pure (enc_Path a0)] [] (fun r => .pure (enc_Path r)) (fun _ => []) (by kernel_rfl)
noncomputable def path_Join_T (a0 : S_Path) (a1 : S_Path) : T (S_Path × Bool) :=
 .cut 4 (fun (y2 : Bool) => ⟨[(2, .ptr 0 0), (3, .ptr 1 0), (4, .ptr 2 0), (5, .ptr 5 0), (6, pz ((a0.Points.length : Nat) : Int)), (7, pz ((a1.Points.length : Nat) : Int)), (38, .pure (.bool y2))], [(0, .box [.pure (encL 1 (encL 1 encI_i64) a0.Points), .pure (encL 2 enc_Packed a0.Edges)]), (1, .box [.pure (encL 1 (encL 1 encI_i64) a1.Points), .pure (encL 2 enc_Packed a1.Edges)]), (2, .box [.vec 3, .vec 4]), (3, .nilv), (4, .nilv), (5, .box [.ff])], [.func 105 [] [.ptr 2 0, .ptr 5 0]], 6⟩)
 (.br (decide (((a0.Points.length : Nat) : Int) < 2))
 (.ret (.out true))
 (.br (((a0.Edges.length : Nat) : Int) != (IntKind.i64.wrap (((a0.Points.length : Nat) : Int) - 1)))
 (.ret (.out true))
 (.br (decide (((a1.Points.length : Nat) : Int) < 2))
 (.ret (.out true))
 (.ret (.out (((a1.Edges.length : Nat) : Int) != (IntKind.i64.wrap (((a1.Points.length : Nat) : Int) - 1)))))))) fun y2 =>
 .br y2
 (.ret ((⟨nl, nl⟩ : S_Path), false))
 (.cut 1 (fun (y9 : Bool) => ⟨[(2, .ptr 0 0), (3, .ptr 1 0), (4, .ptr 2 0), (5, .ptr 5 0), (6, pz ((a0.Points.length : Nat) : Int)), (58, .pure (.bool y9))], [(0, .box [.pure (encL 1 (encL 1 encI_i64) a0.Points), .pure (encL 2 enc_Packed a0.Edges)]), (1, .box [.pure (encL 1 (encL 1 encI_i64) a1.Points), .pure (encL 2 enc_Packed a1.Edges)]), (2, .box [.vec 3, .vec 4]), (3, .nilv), (4, .nilv), (5, .box [.ff])], [.func 105 [] [.ptr 2 0, .ptr 5 0]], 6⟩)
 (.grd (0 ≤ (IntKind.i64.wrap (((a0.Points.length : Nat) : Int) - 1)) ∧ (IntKind.i64.wrap (((a0.Points.length : Nat) : Int) - 1)) < ((a0.Points.length : Nat) : Int)) <|
 .grd (0 ≤ (0 : Int) ∧ (0 : Int) < ((a1.Points.length : Nat) : Int)) <|
 .call (slices_Equal_int64_int64_C (a0.Points.getD (((IntKind.i64.wrap (((a0.Points.length : Nat) : Int) - 1))).toNat) default) (a1.Points.getD ((0 : Int).toNat) default)) [] fun y10 =>
 .br (!y10)
 (.ret (.out true))
 (.ret (.out (decide ((IntKind.i64.wrap ((IntKind.i64.wrap (((a0.Points.length : Nat) : Int) + ((a1.Points.length : Nat) : Int))) - 1)) > 256))))) fun y9 =>
 .br y9
 (.ret ((⟨nl, nl⟩ : S_Path), false))
 (.conv 7004 (cvClip 1 (encL 1 encI_i64) a0.Points ((a0.Points.length : Nat) : Int) ((a0.Points.length : Nat) : Int)) <|
 .grd (0 ≤ ((a0.Points.length : Nat) : Int) ∧ ((a0.Points.length : Nat) : Int) ≤ ((a0.Points.length : Nat) : Int) ∧ ((a0.Points.length : Nat) : Int) = ((a0.Points.length : Nat) : Int)) <|
 .conv 7007 (cvSlice 1 (encL 1 encI_i64) a1.Points (1 : Int) ((a1.Points.length : Nat) : Int)) <|
 .grd (0 ≤ (1 : Int) ∧ (1 : Int) ≤ ((a1.Points.length : Nat) : Int) ∧ ((a1.Points.length : Nat) : Int) ≤ ((a1.Points.length : Nat) : Int)) <|
 .conv 7008 (cvApp 1 (encL 1 encI_i64) (a0.Points.take ((((a0.Points.length : Nat) : Int)).toNat)) ((a1.Points.drop ((1 : Int).toNat)).take ((((a1.Points.length : Nat) : Int)).toNat - (1 : Int).toNat)) 31) <|
 .grd (((a0.Points.take ((((a0.Points.length : Nat) : Int)).toNat)).length + ((a1.Points.drop ((1 : Int).toNat)).take ((((a1.Points.length : Nat) : Int)).toNat - (1 : Int).toNat)).length) * 24 ≤ 140737488355328 ∧ ((a0.Points.take ((((a0.Points.length : Nat) : Int)).toNat)).length + ((a1.Points.drop ((1 : Int).toNat)).take ((((a1.Points.length : Nat) : Int)).toNat - (1 : Int).toNat)).length) ≤ maxLen ∧ 0 < ((a1.Points.drop ((1 : Int).toNat)).take ((((a1.Points.length : Nat) : Int)).toNat - (1 : Int).toNat)).length) <|
 .conv 8006 (cvClip 2 enc_Packed a0.Edges (IntKind.i64.wrap (((a0.Points.length : Nat) : Int) - 1)) (IntKind.i64.wrap (((a0.Points.length : Nat) : Int) - 1))) <|
 .grd (0 ≤ (IntKind.i64.wrap (((a0.Points.length : Nat) : Int) - 1)) ∧ (IntKind.i64.wrap (((a0.Points.length : Nat) : Int) - 1)) ≤ ((a0.Edges.length : Nat) : Int) ∧ (IntKind.i64.wrap (((a0.Points.length : Nat) : Int) - 1)) = (IntKind.i64.wrap (((a0.Points.length : Nat) : Int) - 1))) <|
 .conv 8009 (cvApp 2 enc_Packed (a0.Edges.take (((IntKind.i64.wrap (((a0.Points.length : Nat) : Int) - 1))).toNat)) a1.Edges 79) <|
 .grd (((a0.Edges.take (((IntKind.i64.wrap (((a0.Points.length : Nat) : Int) - 1))).toNat)).length + a1.Edges.length) * 48 ≤ 140737488355328 ∧ ((a0.Edges.take (((IntKind.i64.wrap (((a0.Points.length : Nat) : Int) - 1))).toNat)).length + a1.Edges.length) ≤ maxLen ∧ 0 < a1.Edges.length) <|
 .call (path_clone_C (⟨((a0.Points.take ((((a0.Points.length : Nat) : Int)).toNat)) ++ ((a1.Points.drop ((1 : Int).toNat)).take ((((a1.Points.length : Nat) : Int)).toNat - (1 : Int).toNat))), ((a0.Edges.take (((IntKind.i64.wrap (((a0.Points.length : Nat) : Int) - 1))).toNat)) ++ a1.Edges)⟩ : S_Path)) [] fun y11 =>
 .ret (y11, true)))
noncomputable def path_Join_C (a0 : S_Path) (a1 : S_Path) : CallS (S_Path × Bool) :=
  mkC [⟨105, guard105⟩] hd Tryz.func41 (by kernel_rfl) (path_Join_T a0 a1) 0 [.pure (enc_Path a0), .pure (enc_Path a1)] [] (fun r => .tup [.pure (enc_Path r.1), .pure (.bool r.2)]) (fun _ => []) (by kernel_rfl)
noncomputable def ref19_formed_T (a0 : S_Path) : T Bool :=
 .br (decide (((a0.Points.length : Nat) : Int) ≥ 2))
 (.ret (((a0.Edges.length : Nat) : Int) == (IntKind.i64.wrap (((a0.Points.length : Nat) : Int) - 1))))
 (.ret false)
noncomputable def ref19_formed_C (a0 : S_Path) : CallS Bool :=
  mkC [] hd Tryz.func153 (by kernel_rfl) (ref19_formed_T a0) 0 [.pure (enc_Path a0)] [] (fun r => .pure (.bool r)) (fun _ => []) (by kernel_rfl)
noncomputable def ref19_SameNumbers_T (a0 : (List Int)) (a1 : (List Int)) : T Bool :=
 .br (((a0.length : Nat) : Int) != ((a1.length : Nat) : Int))
 (.ret false)
 (.loop (fun (x5 : Int) => ⟨[(0, .pure (encL 1 encI_i64 a0)), (1, .pure (encL 1 encI_i64 a1)), (5, pz x5)], [], [], 0⟩)
 (.exit 0) (fun (_ : U0) => ⟨[], [], [], 0⟩)
 (fun x5 => .br (decide (x5 < ((a0.length : Nat) : Int)))
 (.grd (0 ≤ x5 ∧ x5 < ((a0.length : Nat) : Int)) <|
 .grd (0 ≤ x5 ∧ x5 < ((a1.length : Nat) : Int)) <|
 .br ((a0.getD ((x5).toNat) default) != (a1.getD ((x5).toNat) default))
 (.ret (.fin false))
 (.ret (.next (IntKind.i64.wrap (x5 + 1)))))
 (.ret (.out .u)))
 0 [] fun _ =>
 .ret true)
noncomputable def ref19_SameNumbers_C (a0 : (List Int)) (a1 : (List Int)) : CallS Bool :=
  mkC [] hd Tryz.func154 (by kernel_rfl) (ref19_SameNumbers_T a0 a1) 0 [.pure (encL 1 encI_i64 a0), .pure (encL 1 encI_i64 a1)] [] (fun r => .pure (.bool r)) (fun _ => []) (by kernel_rfl)
noncomputable def ref19_Join_T (a0 : S_Path) (a1 : S_Path) : T (S_Path × Bool) :=
 .cut 2 (fun (y17 : Bool) => ⟨[(2, .ptr 0 0), (3, .ptr 1 0), (4, .ptr 2 0), (41, .pure (.bool y17))], [(0, .box [.pure (encL 1 (encL 1 encI_i64) a0.Points), .pure (encL 2 enc_Packed a0.Edges)]), (1, .box [.pure (encL 1 (encL 1 encI_i64) a1.Points), .pure (encL 2 enc_Packed a1.Edges)]), (2, .box [.vec 3, .vec 4]), (3, .nilv), (4, .nilv)], [], 5⟩)
 (.call (ref19_formed_C (⟨a0.Points, a0.Edges⟩ : S_Path)) [] fun y18 =>
 .br (!y18)
 (.ret (.out true))
 (.call (ref19_formed_C (⟨a1.Points, a1.Edges⟩ : S_Path)) [] fun y19 =>
 .br (!y19)
 (.ret (.out true))
 (.grd (0 ≤ (IntKind.i64.wrap (((a0.Points.length : Nat) : Int) - 1)) ∧ (IntKind.i64.wrap (((a0.Points.length : Nat) : Int) - 1)) < ((a0.Points.length : Nat) : Int)) <|
 .grd (0 ≤ (0 : Int) ∧ (0 : Int) < ((a1.Points.length : Nat) : Int)) <|
 .call (ref19_SameNumbers_C (a0.Points.getD (((IntKind.i64.wrap (((a0.Points.length : Nat) : Int) - 1))).toNat) default) (a1.Points.getD ((0 : Int).toNat) default)) [] fun y20 =>
 .br (!y20)
 (.ret (.out true))
 (.ret (.out (decide ((IntKind.i64.wrap ((IntKind.i64.wrap (((a0.Points.length : Nat) : Int) + ((a1.Points.length : Nat) : Int))) - 1)) > 256))))))) fun y17 =>
 .br y17
 (.ret ((⟨nl, nl⟩ : S_Path), false))
 (.grd (a0.Points.length * 24 ≤ 140737488355328 ∧ a0.Points.length ≤ maxLen) <|
 .grd (a0.Edges.length * 48 ≤ 140737488355328 ∧ a0.Edges.length ≤ maxLen) <|
 .conv 4004 (cvSlice 1 (encL 1 encI_i64) a1.Points (1 : Int) ((a1.Points.length : Nat) : Int)) <|
 .grd (0 ≤ (1 : Int) ∧ (1 : Int) ≤ ((a1.Points.length : Nat) : Int) ∧ ((a1.Points.length : Nat) : Int) ≤ ((a1.Points.length : Nat) : Int)) <|
 .conv 4005 (cvApp 1 (encL 1 encI_i64) a0.Points ((a1.Points.drop ((1 : Int).toNat)).take ((((a1.Points.length : Nat) : Int)).toNat - (1 : Int).toNat)) 31) <|
 .grd ((a0.Points.length + ((a1.Points.drop ((1 : Int).toNat)).take ((((a1.Points.length : Nat) : Int)).toNat - (1 : Int).toNat)).length) * 24 ≤ 140737488355328 ∧ (a0.Points.length + ((a1.Points.drop ((1 : Int).toNat)).take ((((a1.Points.length : Nat) : Int)).toNat - (1 : Int).toNat)).length) ≤ maxLen) <|
 .conv 5004 (cvApp 2 enc_Packed a0.Edges a1.Edges 79) <|
 .grd ((a0.Edges.length + a1.Edges.length) * 48 ≤ 140737488355328 ∧ (a0.Edges.length + a1.Edges.length) ≤ maxLen) <|
 .ret ((⟨(a0.Points ++ ((a1.Points.drop ((1 : Int).toNat)).take ((((a1.Points.length : Nat) : Int)).toNat - (1 : Int).toNat))), (a0.Edges ++ a1.Edges)⟩ : S_Path), true))
noncomputable def ref19_Join_C (a0 : S_Path) (a1 : S_Path) : CallS (S_Path × Bool) :=
  mkC [] hd Tryz.func104 (by kernel_rfl) (ref19_Join_T a0 a1) 0 [.pure (enc_Path a0), .pure (enc_Path a1)] [] (fun r => .tup [.pure (enc_Path r.1), .pure (.bool r.2)]) (fun _ => []) (by kernel_rfl)
noncomputable def make_Same_int64_T (a0 : (List Int)) (a1 : (List Int)) : T Bool :=
 .br (((a0.length : Nat) : Int) != ((a1.length : Nat) : Int))
 (.ret false)
 (.loop (fun (x5 : Int) => ⟨[(0, .pure (encL 1 encI_i64 a0)), (1, .pure (encL 1 encI_i64 a1)), (5, pz x5)], [], [], 0⟩)
 (.exit 0) (fun (_ : U0) => ⟨[], [], [], 0⟩)
 (fun x5 => .br (decide (x5 < ((a0.length : Nat) : Int)))
 (.grd (0 ≤ x5 ∧ x5 < ((a0.length : Nat) : Int)) <|
 .grd (0 ≤ x5 ∧ x5 < ((a1.length : Nat) : Int)) <|
 .br ((a0.getD ((x5).toNat) default) != (a1.getD ((x5).toNat) default))
 (.ret (.fin false))
 (.ret (.next (IntKind.i64.wrap (x5 + 1)))))
 (.ret (.out .u)))
 0 [] fun _ =>
 .ret true)
noncomputable def make_Same_int64_C (a0 : (List Int)) (a1 : (List Int)) : CallS Bool :=
  mkC [] hd Tryz.func45 (by kernel_rfl) (make_Same_int64_T a0 a1) 0 [.pure (encL 1 encI_i64 a0), .pure (encL 1 encI_i64 a1)] [] (fun r => .pure (.bool r)) (fun _ => []) (by kernel_rfl)
noncomputable def make_SameLists_int64_T (a0 : (List (List Int))) (a1 : (List (List Int))) : T Bool :=
 .br (((a0.length : Nat) : Int) != ((a1.length : Nat) : Int))
 (.ret false)
 (.loop (fun (x21 : Int) => ⟨[(0, .pure (encL 1 (encL 1 encI_i64) a0)), (1, .pure (encL 1 (encL 1 encI_i64) a1)), (5, pz x21)], [], [], 0⟩)
 (.exit 0) (fun (_ : U0) => ⟨[], [], [], 0⟩)
 (fun x21 => .br (decide (x21 < ((a0.length : Nat) : Int)))
 (.grd (0 ≤ x21 ∧ x21 < ((a0.length : Nat) : Int)) <|
 .grd (0 ≤ x21 ∧ x21 < ((a1.length : Nat) : Int)) <|
 .call (make_Same_int64_C (a0.getD ((x21).toNat) default) (a1.getD ((x21).toNat) default)) [] fun y30 =>
 .br (!y30)
 (.ret (.fin false))
 (.ret (.next (IntKind.i64.wrap (x21 + 1)))))
 (.ret (.out .u)))
 0 [] fun _ =>
 .ret true)
noncomputable def make_SameLists_int64_C (a0 : (List (List Int))) (a1 : (List (List Int))) : CallS Bool :=
  mkC [] hd Tryz.func42 (by kernel_rfl) (make_SameLists_int64_T a0 a1) 0 [.pure (encL 1 (encL 1 encI_i64) a0), .pure (encL 1 (encL 1 encI_i64) a1)] [] (fun r => .pure (.bool r)) (fun _ => []) (by kernel_rfl)
noncomputable def make_Same_int_T (a0 : (List Int)) (a1 : (List Int)) : T Bool :=
 .br (((a0.length : Nat) : Int) != ((a1.length : Nat) : Int))
 (.ret false)
 (.loop (fun (x5 : Int) => ⟨[(0, .pure (encL 1 encI_i64 a0)), (1, .pure (encL 1 encI_i64 a1)), (5, pz x5)], [], [], 0⟩)
 (.exit 0) (fun (_ : U0) => ⟨[], [], [], 0⟩)
 (fun x5 => .br (decide (x5 < ((a0.length : Nat) : Int)))
 (.grd (0 ≤ x5 ∧ x5 < ((a0.length : Nat) : Int)) <|
 .grd (0 ≤ x5 ∧ x5 < ((a1.length : Nat) : Int)) <|
 .br ((a0.getD ((x5).toNat) default) != (a1.getD ((x5).toNat) default))
 (.ret (.fin false))
 (.ret (.next (IntKind.i64.wrap (x5 + 1)))))
 (.ret (.out .u)))
 0 [] fun _ =>
 .ret true)
noncomputable def make_Same_int_C (a0 : (List Int)) (a1 : (List Int)) : CallS Bool :=
  mkC [] hd Tryz.func152 (by kernel_rfl) (make_Same_int_T a0 a1) 0 [.pure (encL 1 encI_i64 a0), .pure (encL 1 encI_i64 a1)] [] (fun r => .pure (.bool r)) (fun _ => []) (by kernel_rfl)
noncomputable def make_SamePacked_T (a0 : S_Packed) (a1 : S_Packed) : T Bool :=
 .cut 2 (fun (y7 : Bool) => ⟨[(2, .ptr 0 0), (3, .ptr 1 0), (22, .pure (.bool y7))], [(0, .box [.pure (encL 3 enc_arr_3_int64 a0.Table), .pure (encL 3 enc_Use a0.Uses)]), (1, .box [.pure (encL 3 enc_arr_3_int64 a1.Table), .pure (encL 3 enc_Use a1.Uses)])], [], 2⟩)
 (.call (make_Same_api_Vec_C a0.Table a1.Table) [] fun y8 =>
 .br (!y8)
 (.ret (.out true))
 (.ret (.out (((a0.Uses.length : Nat) : Int) != ((a1.Uses.length : Nat) : Int))))) fun y7 =>
 .br y7
 (.ret false)
 (.loop (fun (x45 : Int) => ⟨[(2, .ptr 0 0), (3, .ptr 1 0), (5, pz x45)], [(0, .box [.pure (encL 3 enc_arr_3_int64 a0.Table), .pure (encL 3 enc_Use a0.Uses)]), (1, .box [.pure (encL 3 enc_arr_3_int64 a1.Table), .pure (encL 3 enc_Use a1.Uses)])], [], 2⟩)
 (.exit 0) (fun (_ : U0) => ⟨[], [], [], 0⟩)
 (fun x45 => .br (decide (x45 < ((a0.Uses.length : Nat) : Int)))
 (.grd (0 ≤ x45 ∧ x45 < ((a0.Uses.length : Nat) : Int)) <|
 .grd (0 ≤ x45 ∧ x45 < ((a1.Uses.length : Nat) : Int)) <|
 .cut 0 (fun (y61 : Bool) => ⟨[(2, .ptr 0 0), (3, .ptr 1 0), (5, pz x45), (59, .pure (.bool y61))], [(0, .box [.pure (encL 3 enc_arr_3_int64 a0.Table), .pure (encL 3 enc_Use a0.Uses)]), (1, .box [.pure (encL 3 enc_arr_3_int64 a1.Table), .pure (encL 3 enc_Use a1.Uses)])], [], 2⟩)
 (.br (((a0.Uses.getD ((x45).toNat) default).Depth) != ((a1.Uses.getD ((x45).toNat) default).Depth))
 (.ret (.out true))
 (.br (((a0.Uses.getD ((x45).toNat) default).Index) != ((a1.Uses.getD ((x45).toNat) default).Index))
 (.ret (.out true))
 (.call (make_Same_int_C ((a0.Uses.getD ((x45).toNat) default).Numbers) ((a1.Uses.getD ((x45).toNat) default).Numbers)) [] fun y62 =>
 .ret (.out (!y62))))) fun y61 =>
 .br y61
 (.ret (.fin false))
 (.ret (.next (IntKind.i64.wrap (x45 + 1)))))
 (.ret (.out .u)))
 0 [] fun _ =>
 .ret true)
noncomputable def make_SamePacked_C (a0 : S_Packed) (a1 : S_Packed) : CallS Bool :=
  mkC [] hd Tryz.func103 (by kernel_rfl) (make_SamePacked_T a0 a1) 0 [.pure (enc_Packed a0), .pure (enc_Packed a1)] [] (fun r => .pure (.bool r)) (fun _ => []) (by kernel_rfl)
noncomputable def make_SamePath_T (a0 : S_Path) (a1 : S_Path) : T Bool :=
 .cut 2 (fun (y7 : Bool) => ⟨[(2, .ptr 0 0), (3, .ptr 1 0), (20, .pure (.bool y7))], [(0, .box [.pure (encL 1 (encL 1 encI_i64) a0.Points), .pure (encL 2 enc_Packed a0.Edges)]), (1, .box [.pure (encL 1 (encL 1 encI_i64) a1.Points), .pure (encL 2 enc_Packed a1.Edges)])], [], 2⟩)
 (.call (make_SameLists_int64_C a0.Points a1.Points) [] fun y8 =>
 .br (!y8)
 (.ret (.out true))
 (.ret (.out (((a0.Edges.length : Nat) : Int) != ((a1.Edges.length : Nat) : Int))))) fun y7 =>
 .br y7
 (.ret false)
 (.loop (fun (x29 : Int) => ⟨[(2, .ptr 0 0), (3, .ptr 1 0), (5, pz x29)], [(0, .box [.pure (encL 1 (encL 1 encI_i64) a0.Points), .pure (encL 2 enc_Packed a0.Edges)]), (1, .box [.pure (encL 1 (encL 1 encI_i64) a1.Points), .pure (encL 2 enc_Packed a1.Edges)])], [], 2⟩)
 (.exit 0) (fun (_ : U0) => ⟨[], [], [], 0⟩)
 (fun x29 => .br (decide (x29 < ((a0.Edges.length : Nat) : Int)))
 (.grd (0 ≤ x29 ∧ x29 < ((a0.Edges.length : Nat) : Int)) <|
 .grd (0 ≤ x29 ∧ x29 < ((a1.Edges.length : Nat) : Int)) <|
 .call (make_SamePacked_C (a0.Edges.getD ((x29).toNat) default) (a1.Edges.getD ((x29).toNat) default)) [] fun y38 =>
 .br (!y38)
 (.ret (.fin false))
 (.ret (.next (IntKind.i64.wrap (x29 + 1)))))
 (.ret (.out .u)))
 0 [] fun _ =>
 .ret true)
noncomputable def make_SamePath_C (a0 : S_Path) (a1 : S_Path) : CallS Bool :=
  mkC [] hd Tryz.func39 (by kernel_rfl) (make_SamePath_T a0 a1) 0 [.pure (enc_Path a0), .pure (enc_Path a1)] [] (fun r => .pure (.bool r)) (fun _ => []) (by kernel_rfl)
noncomputable def law22_joins_T (a0 : S_Path) (a1 : S_Path) : T Bool :=
 .call (path_Join_C (⟨a0.Points, a0.Edges⟩ : S_Path) (⟨a1.Points, a1.Edges⟩ : S_Path)) [] fun y2 =>
 .call (ref19_Join_C (⟨a0.Points, a0.Edges⟩ : S_Path) (⟨a1.Points, a1.Edges⟩ : S_Path)) [] fun y4 =>
 .call (make_SamePath_C y2.1 y4.1) [] fun y5 =>
 .br y5
 (.ret (y2.2 == y4.2))
 (.ret false)
noncomputable def law22_joins_C (a0 : S_Path) (a1 : S_Path) : CallS Bool :=
  mkC [] hd Tryz.func40 (by kernel_rfl) (law22_joins_T a0 a1) 0 [.pure (enc_Path a0), .pure (enc_Path a1)] [] (fun r => .pure (.bool r)) (fun _ => []) (by kernel_rfl)
noncomputable def law22_PathJoins_T (a0 : S_Path) (a1 : S_Path) (a2 : (List Int)) (a3 : (List Int)) (a4 : Int) (a5 : Int) : T Bool :=
 .call (law22_corners_C a2 a3 a4) [] fun y2 =>
 .call (make_Round_C a5 ((y2.2.1.length : Nat) : Int)) [] fun y4 =>
 .conv 3004 (cvSlice 1 (encL 1 encI_i64) y2.2.1 (0 : Int) (IntKind.i64.wrap (y4 + 1))) <|
 .grd (0 ≤ (0 : Int) ∧ (0 : Int) ≤ (IntKind.i64.wrap (y4 + 1)) ∧ (IntKind.i64.wrap (y4 + 1)) ≤ ((y2.2.1.length : Nat) : Int)) <|
 .call (path_Build_C (⟨y2.1.Robot, y2.1.Shapes, y2.1.Skips⟩ : S_Scene) ((y2.2.1.drop ((0 : Int).toNat)).take (((IntKind.i64.wrap (y4 + 1))).toNat - (0 : Int).toNat)) y2.2.2) [] fun y6 =>
 .conv 4003 (cvSlice 1 (encL 1 encI_i64) y2.2.1 y4 ((y2.2.1.length : Nat) : Int)) <|
 .grd (0 ≤ y4 ∧ y4 ≤ ((y2.2.1.length : Nat) : Int) ∧ ((y2.2.1.length : Nat) : Int) ≤ ((y2.2.1.length : Nat) : Int)) <|
 .call (path_Build_C (⟨y2.1.Robot, y2.1.Shapes, y2.1.Skips⟩ : S_Scene) ((y2.2.1.drop ((y4).toNat)).take ((((y2.2.1.length : Nat) : Int)).toNat - (y4).toNat)) y2.2.2) [] fun y8 =>
 .cut 1 (fun (y30 : Bool) => ⟨[(13, .ptr 0 0), (14, .pure (encL 1 (encL 1 encI_i64) y2.2.1)), (17, .ptr 1 0), (19, pz y6.2.2), (20, .ptr 2 0), (22, pz y8.2.2), (81, .pure (.bool y30))], [(0, .box [.pure (encL 12 enc_Joint y2.1.Robot.Joints), .pure (encL 5 enc_Mass y2.1.Robot.Masses), .pure (encL 3 enc_Shape y2.1.Shapes), .pure (encL 2 enc_Skip y2.1.Skips)]), (1, .box [.pure (encL 1 (encL 1 encI_i64) y6.1.Points), .pure (encL 2 enc_Packed y6.1.Edges)]), (2, .box [.pure (encL 1 (encL 1 encI_i64) y8.1.Points), .pure (encL 2 enc_Packed y8.1.Edges)])], [], 3⟩)
 (.call (law22_joins_C (⟨a0.Points, a0.Edges⟩ : S_Path) (⟨a1.Points, a1.Edges⟩ : S_Path)) [] fun y31 =>
 .br (!y31)
 (.ret (.out true))
 (.call (law22_joins_C y6.1 y8.1) [] fun y32 =>
 .br (!y32)
 (.ret (.out true))
 (.call (law22_joins_C (⟨a0.Points, a0.Edges⟩ : S_Path) y6.1) [] fun y33 =>
 .br (!y33)
 (.ret (.out true))
 (.call (law22_joins_C y6.1 y6.1) [] fun y34 =>
 .ret (.out (!y34)))))) fun y30 =>
 .br y30
 (.ret false)
 (.cut 1 (fun (y37 : Bool) => ⟨[(13, .ptr 0 0), (14, .pure (encL 1 (encL 1 encI_i64) y2.2.1)), (17, .ptr 1 0), (20, .ptr 2 0), (87, .pure (.bool y37))], [(0, .box [.pure (encL 12 enc_Joint y2.1.Robot.Joints), .pure (encL 5 enc_Mass y2.1.Robot.Masses), .pure (encL 3 enc_Shape y2.1.Shapes), .pure (encL 2 enc_Skip y2.1.Skips)]), (1, .box [.pure (encL 1 (encL 1 encI_i64) y6.1.Points), .pure (encL 2 enc_Packed y6.1.Edges)]), (2, .box [.pure (encL 1 (encL 1 encI_i64) y8.1.Points), .pure (encL 2 enc_Packed y8.1.Edges)])], [], 3⟩)
 (.br (y6.2.2 != 0)
 (.ret (.out true))
 (.ret (.out (y8.2.2 != 0)))) fun y37 =>
 .br y37
 (.call (law22_awake_C) [] fun y38 =>
 .ret y38)
 (.call (path_Join_C (⟨y6.1.Points, y6.1.Edges⟩ : S_Path) (⟨y8.1.Points, y8.1.Edges⟩ : S_Path)) [] fun y40 =>
 .call (path_Check_C (⟨y2.1.Robot, y2.1.Shapes, y2.1.Skips⟩ : S_Scene) y40.1) [] fun y42 =>
 .call (law22_awake_C) [] fun y43 =>
 .br y43
 (.br y40.2
 (.br (y42.2 == 0)
 (.call (path_Length_C (⟨y2.1.Robot, y2.1.Shapes, y2.1.Skips⟩ : S_Scene) y40.1) [] fun y44 =>
 .call (path_Length_C (⟨y2.1.Robot, y2.1.Shapes, y2.1.Skips⟩ : S_Scene) (⟨y6.1.Points, y6.1.Edges⟩ : S_Path)) [] fun y45 =>
 .call (path_Length_C (⟨y2.1.Robot, y2.1.Shapes, y2.1.Skips⟩ : S_Scene) (⟨y8.1.Points, y8.1.Edges⟩ : S_Path)) [] fun y46 =>
 .br (y44 == (IntKind.i64.wrap (y45 + y46)))
 (.call (make_SameLists_int64_C y40.1.Points y2.2.1) [] fun y47 =>
 .ret y47)
 (.ret false))
 (.ret false))
 (.ret false))
 (.ret false)))
noncomputable def law22_PathJoins_C (a0 : S_Path) (a1 : S_Path) (a2 : (List Int)) (a3 : (List Int)) (a4 : Int) (a5 : Int) : CallS Bool :=
  mkC [] hd Tryz.func10 (by kernel_rfl) (law22_PathJoins_T a0 a1 a2 a3 a4 a5) 0 [.pure (enc_Path a0), .pure (enc_Path a1), .pure (encL 1 encI_i64 a2), .pure (encL 1 encI_i64 a3), pz a4, pz a5] [] (fun r => .pure (.bool r)) (fun _ => []) (by kernel_rfl)
end Go.Abs
