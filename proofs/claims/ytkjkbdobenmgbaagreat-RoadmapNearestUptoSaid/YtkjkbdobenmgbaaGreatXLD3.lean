/-
  D3 (a part of a claim: our own text).
-/
import Derived.Test.YtkjkbdobenmgbaaGreatXLM2
namespace Go.Abs
open Go.Proofs
noncomputable def slices_partitionEqualCmpFunc_2_int_T (a0 : (List (Int × Int))) (a1 : Nat) (a2 : Nat) (a3 : Int) (a4 : Int) (a5 : Int) : T (Int × (List (Int × Int))) :=
 .grd (0 ≤ a5 ∧ a5 < ((a2 : Nat) : Int)) <|
 .grd ((a1 + ((a5).toNat)) < a0.length) <|
 .grd (0 ≤ a3 ∧ a3 < ((a2 : Nat) : Int)) <|
 .grd ((a1 + ((a3).toNat)) < a0.length) <|
 .grd (0 ≤ a3 ∧ a3 < ((a2 : Nat) : Int)) <|
 .conv 1013 (cvSet 2 enc_arr_2_int a0 90 (a1 + ((a3).toNat)) (a0.getD (a1 + ((a5).toNat)) default)) <|
 .grd ((a1 + ((a3).toNat)) < a0.length ∧ 0 ≤ (a1 + ((a3).toNat))) <|
 .grd (0 ≤ a5 ∧ a5 < ((a2 : Nat) : Int)) <|
 .conv 1015 (cvSet 2 enc_arr_2_int (a0.set (a1 + ((a3).toNat)) (a0.getD (a1 + ((a5).toNat)) default)) 90 (a1 + ((a5).toNat)) (a0.getD (a1 + ((a3).toNat)) default)) <|
 .grd ((a1 + ((a5).toNat)) < (a0.set (a1 + ((a3).toNat)) (a0.getD (a1 + ((a5).toNat)) default)).length ∧ 0 ≤ (a1 + ((a5).toNat))) <|
 .loop (fun (x1091 : ((List (Int × Int)) × Int × Int)) => ⟨[(0, .view 0 2 a1 a2), (1, pz a3), (4, .func 99 [] []), (11, pz x1091.2.1), (12, pz x1091.2.2)], [(0, vecO 2 enc_arr_2_int x1091.1 90)], [], 1⟩)
 (.exit 0) (fun (y1200 : (Int × (List (Int × Int)))) => ⟨[(11, pz y1200.1)], [(0, vecO 2 enc_arr_2_int y1200.2 90)], [], 1⟩)
 (fun x1091 => .loop (fun (x1237 : Int) => ⟨[(0, .view 0 2 a1 a2), (1, pz a3), (4, .func 99 [] []), (11, pz x1237), (12, pz x1091.2.2)], [(0, vecO 2 enc_arr_2_int x1091.1 90)], [], 1⟩)
 (.exit 2) (fun (y1246 : Int) => ⟨[(0, .view 0 2 a1 a2), (1, pz a3), (4, .func 99 [] []), (11, pz y1246), (12, pz x1091.2.2)], [(0, vecO 2 enc_arr_2_int x1091.1 90)], [], 1⟩)
 (fun x1237 => .cut 1 (fun (y1253 : Bool) => ⟨[(0, .view 0 2 a1 a2), (1, pz a3), (4, .func 99 [] []), (11, pz x1237), (12, pz x1091.2.2), (47, .pure (.bool y1253))], [(0, vecO 2 enc_arr_2_int x1091.1 90)], [], 1⟩)
 (.br (decide (x1237 ≤ x1091.2.2))
 (.grd (0 ≤ a3 ∧ a3 < ((a2 : Nat) : Int)) <|
 .grd ((a1 + ((a3).toNat)) < x1091.1.length) <|
 .grd (0 ≤ x1237 ∧ x1237 < ((a2 : Nat) : Int)) <|
 .grd ((a1 + ((x1237).toNat)) < x1091.1.length) <|
 .call (roadmap_nearPairs_1_C (x1091.1.getD (a1 + ((a3).toNat)) default) (x1091.1.getD (a1 + ((x1237).toNat)) default)) [] fun y1254 =>
 .ret (.out (!(decide (y1254 < 0)))))
 (.ret (.out false))) fun y1253 =>
 .br y1253
 (.ret (.next (IntKind.i64.wrap (x1237 + 1))))
 (.ret (.out x1237)))
 x1091.2.1 [] fun y1246 =>
 .loop (fun (x1291 : Int) => ⟨[(0, .view 0 2 a1 a2), (1, pz a3), (4, .func 99 [] []), (11, pz y1246), (12, pz x1291)], [(0, vecO 2 enc_arr_2_int x1091.1 90)], [], 1⟩)
 (.exit 4) (fun (y1300 : Int) => ⟨[(0, .view 0 2 a1 a2), (1, pz a3), (4, .func 99 [] []), (11, pz y1246), (12, pz y1300)], [(0, vecO 2 enc_arr_2_int x1091.1 90)], [], 1⟩)
 (fun x1291 => .cut 1 (fun (y1307 : Bool) => ⟨[(0, .view 0 2 a1 a2), (1, pz a3), (4, .func 99 [] []), (11, pz y1246), (12, pz x1291), (65, .pure (.bool y1307))], [(0, vecO 2 enc_arr_2_int x1091.1 90)], [], 1⟩)
 (.br (decide (y1246 ≤ x1291))
 (.grd (0 ≤ a3 ∧ a3 < ((a2 : Nat) : Int)) <|
 .grd ((a1 + ((a3).toNat)) < x1091.1.length) <|
 .grd (0 ≤ x1291 ∧ x1291 < ((a2 : Nat) : Int)) <|
 .grd ((a1 + ((x1291).toNat)) < x1091.1.length) <|
 .call (roadmap_nearPairs_1_C (x1091.1.getD (a1 + ((a3).toNat)) default) (x1091.1.getD (a1 + ((x1291).toNat)) default)) [] fun y1308 =>
 .ret (.out (decide (y1308 < 0))))
 (.ret (.out false))) fun y1307 =>
 .br y1307
 (.ret (.next (IntKind.i64.wrap (x1291 - 1))))
 (.ret (.out x1291)))
 x1091.2.2 [] fun y1300 =>
 .br (decide (y1246 > y1300))
 (.ret (.out (y1246, x1091.1)))
 (.grd (0 ≤ y1300 ∧ y1300 < ((a2 : Nat) : Int)) <|
 .grd ((a1 + ((y1300).toNat)) < x1091.1.length) <|
 .grd (0 ≤ y1246 ∧ y1246 < ((a2 : Nat) : Int)) <|
 .grd ((a1 + ((y1246).toNat)) < x1091.1.length) <|
 .grd (0 ≤ y1246 ∧ y1246 < ((a2 : Nat) : Int)) <|
 .conv 8013 (cvSet 2 enc_arr_2_int x1091.1 90 (a1 + ((y1246).toNat)) (x1091.1.getD (a1 + ((y1300).toNat)) default)) <|
 .grd ((a1 + ((y1246).toNat)) < x1091.1.length ∧ 0 ≤ (a1 + ((y1246).toNat))) <|
 .grd (0 ≤ y1300 ∧ y1300 < ((a2 : Nat) : Int)) <|
 .conv 8015 (cvSet 2 enc_arr_2_int (x1091.1.set (a1 + ((y1246).toNat)) (x1091.1.getD (a1 + ((y1300).toNat)) default)) 90 (a1 + ((y1300).toNat)) (x1091.1.getD (a1 + ((y1246).toNat)) default)) <|
 .grd ((a1 + ((y1300).toNat)) < (x1091.1.set (a1 + ((y1246).toNat)) (x1091.1.getD (a1 + ((y1300).toNat)) default)).length ∧ 0 ≤ (a1 + ((y1300).toNat))) <|
 .ret (.next (((x1091.1.set (a1 + ((y1246).toNat)) (x1091.1.getD (a1 + ((y1300).toNat)) default)).set (a1 + ((y1300).toNat)) (x1091.1.getD (a1 + ((y1246).toNat)) default)), (IntKind.i64.wrap (y1246 + 1)), (IntKind.i64.wrap (y1300 - 1))))))
 (((a0.set (a1 + ((a3).toNat)) (a0.getD (a1 + ((a5).toNat)) default)).set (a1 + ((a5).toNat)) (a0.getD (a1 + ((a3).toNat)) default)), (IntKind.i64.wrap (a3 + 1)), (IntKind.i64.wrap (a4 - 1))) [] fun y1200 =>
 .ret (y1200.1, y1200.2)
noncomputable def slices_partitionEqualCmpFunc_2_int_C (a0 : (List (Int × Int))) (a1 : Nat) (a2 : Nat) (a3 : Int) (a4 : Int) (a5 : Int) : CallS (Int × (List (Int × Int))) :=
  mkC [] hd Tryz.func167 (by kernel_rfl) (slices_partitionEqualCmpFunc_2_int_T a0 a1 a2 a3 a4 a5) 1 [.view 0 2 a1 a2, pz a3, pz a4, pz a5, .func 99 [] []] [(0, vecO 2 enc_arr_2_int a0 90)] (fun r => pz r.1) (fun r => [(0, vecO 2 enc_arr_2_int r.2 90)]) (by kernel_rfl)
set_option maxHeartbeats 8000000 in
set_option maxRecDepth 20000 in
noncomputable def slices_partitionCmpFunc_2_int_T (a0 : (List (Int × Int))) (a1 : Nat) (a2 : Nat) (a3 : Int) (a4 : Int) (a5 : Int) : T (Int × Bool × (List (Int × Int))) :=
 .grd (0 ≤ a5 ∧ a5 < ((a2 : Nat) : Int)) <|
 .grd ((a1 + ((a5).toNat)) < a0.length) <|
 .grd (0 ≤ a3 ∧ a3 < ((a2 : Nat) : Int)) <|
 .grd ((a1 + ((a3).toNat)) < a0.length) <|
 .grd (0 ≤ a3 ∧ a3 < ((a2 : Nat) : Int)) <|
 .conv 1013 (cvSet 2 enc_arr_2_int a0 90 (a1 + ((a3).toNat)) (a0.getD (a1 + ((a5).toNat)) default)) <|
 .grd ((a1 + ((a3).toNat)) < a0.length ∧ 0 ≤ (a1 + ((a3).toNat))) <|
 .grd (0 ≤ a5 ∧ a5 < ((a2 : Nat) : Int)) <|
 .conv 1015 (cvSet 2 enc_arr_2_int (a0.set (a1 + ((a3).toNat)) (a0.getD (a1 + ((a5).toNat)) default)) 90 (a1 + ((a5).toNat)) (a0.getD (a1 + ((a3).toNat)) default)) <|
 .grd ((a1 + ((a5).toNat)) < (a0.set (a1 + ((a3).toNat)) (a0.getD (a1 + ((a5).toNat)) default)).length ∧ 0 ≤ (a1 + ((a5).toNat))) <|
 .loop (fun (x799 : Int) => ⟨[(0, .view 0 2 a1 a2), (1, pz a3), (4, .func 99 [] []), (12, pz x799), (13, pz (IntKind.i64.wrap (a4 - 1)))], [(0, vecO 2 enc_arr_2_int ((a0.set (a1 + ((a3).toNat)) (a0.getD (a1 + ((a5).toNat)) default)).set (a1 + ((a5).toNat)) (a0.getD (a1 + ((a3).toNat)) default)) 90)], [], 1⟩)
 (.exit 0) (fun (y808 : Int) => ⟨[(0, .view 0 2 a1 a2), (1, pz a3), (4, .func 99 [] []), (12, pz y808), (13, pz (IntKind.i64.wrap (a4 - 1)))], [(0, vecO 2 enc_arr_2_int ((a0.set (a1 + ((a3).toNat)) (a0.getD (a1 + ((a5).toNat)) default)).set (a1 + ((a5).toNat)) (a0.getD (a1 + ((a3).toNat)) default)) 90)], [], 1⟩)
 (fun x799 => .cut 1 (fun (y815 : Bool) => ⟨[(0, .view 0 2 a1 a2), (1, pz a3), (4, .func 99 [] []), (12, pz x799), (13, pz (IntKind.i64.wrap (a4 - 1))), (47, .pure (.bool y815))], [(0, vecO 2 enc_arr_2_int ((a0.set (a1 + ((a3).toNat)) (a0.getD (a1 + ((a5).toNat)) default)).set (a1 + ((a5).toNat)) (a0.getD (a1 + ((a3).toNat)) default)) 90)], [], 1⟩)
 (.br (decide (x799 ≤ (IntKind.i64.wrap (a4 - 1))))
 (.grd (0 ≤ x799 ∧ x799 < ((a2 : Nat) : Int)) <|
 .grd ((a1 + ((x799).toNat)) < ((a0.set (a1 + ((a3).toNat)) (a0.getD (a1 + ((a5).toNat)) default)).set (a1 + ((a5).toNat)) (a0.getD (a1 + ((a3).toNat)) default)).length) <|
 .grd (0 ≤ a3 ∧ a3 < ((a2 : Nat) : Int)) <|
 .grd ((a1 + ((a3).toNat)) < ((a0.set (a1 + ((a3).toNat)) (a0.getD (a1 + ((a5).toNat)) default)).set (a1 + ((a5).toNat)) (a0.getD (a1 + ((a3).toNat)) default)).length) <|
 .call (roadmap_nearPairs_1_C (((a0.set (a1 + ((a3).toNat)) (a0.getD (a1 + ((a5).toNat)) default)).set (a1 + ((a5).toNat)) (a0.getD (a1 + ((a3).toNat)) default)).getD (a1 + ((x799).toNat)) default) (((a0.set (a1 + ((a3).toNat)) (a0.getD (a1 + ((a5).toNat)) default)).set (a1 + ((a5).toNat)) (a0.getD (a1 + ((a3).toNat)) default)).getD (a1 + ((a3).toNat)) default)) [] fun y816 =>
 .ret (.out (decide (y816 < 0))))
 (.ret (.out false))) fun y815 =>
 .br y815
 (.ret (.next (IntKind.i64.wrap (x799 + 1))))
 (.ret (.out x799)))
 (IntKind.i64.wrap (a3 + 1)) [] fun y808 =>
 .loop (fun (x853 : Int) => ⟨[(0, .view 0 2 a1 a2), (1, pz a3), (4, .func 99 [] []), (12, pz y808), (13, pz x853)], [(0, vecO 2 enc_arr_2_int ((a0.set (a1 + ((a3).toNat)) (a0.getD (a1 + ((a5).toNat)) default)).set (a1 + ((a5).toNat)) (a0.getD (a1 + ((a3).toNat)) default)) 90)], [], 1⟩)
 (.exit 2) (fun (y862 : Int) => ⟨[(0, .view 0 2 a1 a2), (1, pz a3), (4, .func 99 [] []), (12, pz y808), (13, pz y862)], [(0, vecO 2 enc_arr_2_int ((a0.set (a1 + ((a3).toNat)) (a0.getD (a1 + ((a5).toNat)) default)).set (a1 + ((a5).toNat)) (a0.getD (a1 + ((a3).toNat)) default)) 90)], [], 1⟩)
 (fun x853 => .cut 1 (fun (y869 : Bool) => ⟨[(0, .view 0 2 a1 a2), (1, pz a3), (4, .func 99 [] []), (12, pz y808), (13, pz x853), (66, .pure (.bool y869))], [(0, vecO 2 enc_arr_2_int ((a0.set (a1 + ((a3).toNat)) (a0.getD (a1 + ((a5).toNat)) default)).set (a1 + ((a5).toNat)) (a0.getD (a1 + ((a3).toNat)) default)) 90)], [], 1⟩)
 (.br (decide (y808 ≤ x853))
 (.grd (0 ≤ x853 ∧ x853 < ((a2 : Nat) : Int)) <|
 .grd ((a1 + ((x853).toNat)) < ((a0.set (a1 + ((a3).toNat)) (a0.getD (a1 + ((a5).toNat)) default)).set (a1 + ((a5).toNat)) (a0.getD (a1 + ((a3).toNat)) default)).length) <|
 .grd (0 ≤ a3 ∧ a3 < ((a2 : Nat) : Int)) <|
 .grd ((a1 + ((a3).toNat)) < ((a0.set (a1 + ((a3).toNat)) (a0.getD (a1 + ((a5).toNat)) default)).set (a1 + ((a5).toNat)) (a0.getD (a1 + ((a3).toNat)) default)).length) <|
 .call (roadmap_nearPairs_1_C (((a0.set (a1 + ((a3).toNat)) (a0.getD (a1 + ((a5).toNat)) default)).set (a1 + ((a5).toNat)) (a0.getD (a1 + ((a3).toNat)) default)).getD (a1 + ((x853).toNat)) default) (((a0.set (a1 + ((a3).toNat)) (a0.getD (a1 + ((a5).toNat)) default)).set (a1 + ((a5).toNat)) (a0.getD (a1 + ((a3).toNat)) default)).getD (a1 + ((a3).toNat)) default)) [] fun y870 =>
 .ret (.out (!(decide (y870 < 0)))))
 (.ret (.out false))) fun y869 =>
 .br y869
 (.ret (.next (IntKind.i64.wrap (x853 - 1))))
 (.ret (.out x853)))
 (IntKind.i64.wrap (a4 - 1)) [] fun y862 =>
 .br (decide (y808 > y862))
 (.grd (0 ≤ a3 ∧ a3 < ((a2 : Nat) : Int)) <|
 .grd ((a1 + ((a3).toNat)) < ((a0.set (a1 + ((a3).toNat)) (a0.getD (a1 + ((a5).toNat)) default)).set (a1 + ((a5).toNat)) (a0.getD (a1 + ((a3).toNat)) default)).length) <|
 .grd (0 ≤ y862 ∧ y862 < ((a2 : Nat) : Int)) <|
 .grd ((a1 + ((y862).toNat)) < ((a0.set (a1 + ((a3).toNat)) (a0.getD (a1 + ((a5).toNat)) default)).set (a1 + ((a5).toNat)) (a0.getD (a1 + ((a3).toNat)) default)).length) <|
 .grd (0 ≤ y862 ∧ y862 < ((a2 : Nat) : Int)) <|
 .conv 8013 (cvSet 2 enc_arr_2_int ((a0.set (a1 + ((a3).toNat)) (a0.getD (a1 + ((a5).toNat)) default)).set (a1 + ((a5).toNat)) (a0.getD (a1 + ((a3).toNat)) default)) 90 (a1 + ((y862).toNat)) (((a0.set (a1 + ((a3).toNat)) (a0.getD (a1 + ((a5).toNat)) default)).set (a1 + ((a5).toNat)) (a0.getD (a1 + ((a3).toNat)) default)).getD (a1 + ((a3).toNat)) default)) <|
 .grd ((a1 + ((y862).toNat)) < ((a0.set (a1 + ((a3).toNat)) (a0.getD (a1 + ((a5).toNat)) default)).set (a1 + ((a5).toNat)) (a0.getD (a1 + ((a3).toNat)) default)).length ∧ 0 ≤ (a1 + ((y862).toNat))) <|
 .grd (0 ≤ a3 ∧ a3 < ((a2 : Nat) : Int)) <|
 .conv 8015 (cvSet 2 enc_arr_2_int (((a0.set (a1 + ((a3).toNat)) (a0.getD (a1 + ((a5).toNat)) default)).set (a1 + ((a5).toNat)) (a0.getD (a1 + ((a3).toNat)) default)).set (a1 + ((y862).toNat)) (((a0.set (a1 + ((a3).toNat)) (a0.getD (a1 + ((a5).toNat)) default)).set (a1 + ((a5).toNat)) (a0.getD (a1 + ((a3).toNat)) default)).getD (a1 + ((a3).toNat)) default)) 90 (a1 + ((a3).toNat)) (((a0.set (a1 + ((a3).toNat)) (a0.getD (a1 + ((a5).toNat)) default)).set (a1 + ((a5).toNat)) (a0.getD (a1 + ((a3).toNat)) default)).getD (a1 + ((y862).toNat)) default)) <|
 .grd ((a1 + ((a3).toNat)) < (((a0.set (a1 + ((a3).toNat)) (a0.getD (a1 + ((a5).toNat)) default)).set (a1 + ((a5).toNat)) (a0.getD (a1 + ((a3).toNat)) default)).set (a1 + ((y862).toNat)) (((a0.set (a1 + ((a3).toNat)) (a0.getD (a1 + ((a5).toNat)) default)).set (a1 + ((a5).toNat)) (a0.getD (a1 + ((a3).toNat)) default)).getD (a1 + ((a3).toNat)) default)).length ∧ 0 ≤ (a1 + ((a3).toNat))) <|
 .ret (y862, true, ((((a0.set (a1 + ((a3).toNat)) (a0.getD (a1 + ((a5).toNat)) default)).set (a1 + ((a5).toNat)) (a0.getD (a1 + ((a3).toNat)) default)).set (a1 + ((y862).toNat)) (((a0.set (a1 + ((a3).toNat)) (a0.getD (a1 + ((a5).toNat)) default)).set (a1 + ((a5).toNat)) (a0.getD (a1 + ((a3).toNat)) default)).getD (a1 + ((a3).toNat)) default)).set (a1 + ((a3).toNat)) (((a0.set (a1 + ((a3).toNat)) (a0.getD (a1 + ((a5).toNat)) default)).set (a1 + ((a5).toNat)) (a0.getD (a1 + ((a3).toNat)) default)).getD (a1 + ((y862).toNat)) default))))
 (.grd (0 ≤ y862 ∧ y862 < ((a2 : Nat) : Int)) <|
 .grd ((a1 + ((y862).toNat)) < ((a0.set (a1 + ((a3).toNat)) (a0.getD (a1 + ((a5).toNat)) default)).set (a1 + ((a5).toNat)) (a0.getD (a1 + ((a3).toNat)) default)).length) <|
 .grd (0 ≤ y808 ∧ y808 < ((a2 : Nat) : Int)) <|
 .grd ((a1 + ((y808).toNat)) < ((a0.set (a1 + ((a3).toNat)) (a0.getD (a1 + ((a5).toNat)) default)).set (a1 + ((a5).toNat)) (a0.getD (a1 + ((a3).toNat)) default)).length) <|
 .grd (0 ≤ y808 ∧ y808 < ((a2 : Nat) : Int)) <|
 .conv 10013 (cvSet 2 enc_arr_2_int ((a0.set (a1 + ((a3).toNat)) (a0.getD (a1 + ((a5).toNat)) default)).set (a1 + ((a5).toNat)) (a0.getD (a1 + ((a3).toNat)) default)) 90 (a1 + ((y808).toNat)) (((a0.set (a1 + ((a3).toNat)) (a0.getD (a1 + ((a5).toNat)) default)).set (a1 + ((a5).toNat)) (a0.getD (a1 + ((a3).toNat)) default)).getD (a1 + ((y862).toNat)) default)) <|
 .grd ((a1 + ((y808).toNat)) < ((a0.set (a1 + ((a3).toNat)) (a0.getD (a1 + ((a5).toNat)) default)).set (a1 + ((a5).toNat)) (a0.getD (a1 + ((a3).toNat)) default)).length ∧ 0 ≤ (a1 + ((y808).toNat))) <|
 .grd (0 ≤ y862 ∧ y862 < ((a2 : Nat) : Int)) <|
 .conv 10015 (cvSet 2 enc_arr_2_int (((a0.set (a1 + ((a3).toNat)) (a0.getD (a1 + ((a5).toNat)) default)).set (a1 + ((a5).toNat)) (a0.getD (a1 + ((a3).toNat)) default)).set (a1 + ((y808).toNat)) (((a0.set (a1 + ((a3).toNat)) (a0.getD (a1 + ((a5).toNat)) default)).set (a1 + ((a5).toNat)) (a0.getD (a1 + ((a3).toNat)) default)).getD (a1 + ((y862).toNat)) default)) 90 (a1 + ((y862).toNat)) (((a0.set (a1 + ((a3).toNat)) (a0.getD (a1 + ((a5).toNat)) default)).set (a1 + ((a5).toNat)) (a0.getD (a1 + ((a3).toNat)) default)).getD (a1 + ((y808).toNat)) default)) <|
 .grd ((a1 + ((y862).toNat)) < (((a0.set (a1 + ((a3).toNat)) (a0.getD (a1 + ((a5).toNat)) default)).set (a1 + ((a5).toNat)) (a0.getD (a1 + ((a3).toNat)) default)).set (a1 + ((y808).toNat)) (((a0.set (a1 + ((a3).toNat)) (a0.getD (a1 + ((a5).toNat)) default)).set (a1 + ((a5).toNat)) (a0.getD (a1 + ((a3).toNat)) default)).getD (a1 + ((y862).toNat)) default)).length ∧ 0 ≤ (a1 + ((y862).toNat))) <|
 .loop (fun (x1307 : ((List (Int × Int)) × Int × Int)) => ⟨[(0, .view 0 2 a1 a2), (1, pz a3), (4, .func 99 [] []), (12, pz x1307.2.1), (13, pz x1307.2.2)], [(0, vecO 2 enc_arr_2_int x1307.1 90)], [], 1⟩)
 (.exit 4) (fun (y1416 : ((List (Int × Int)) × Int)) => ⟨[(0, .view 0 2 a1 a2), (1, pz a3), (13, pz y1416.2)], [(0, vecO 2 enc_arr_2_int y1416.1 90)], [], 1⟩)
 (fun x1307 => .loop (fun (x1453 : Int) => ⟨[(0, .view 0 2 a1 a2), (1, pz a3), (4, .func 99 [] []), (12, pz x1453), (13, pz x1307.2.2)], [(0, vecO 2 enc_arr_2_int x1307.1 90)], [], 1⟩)
 (.exit 6) (fun (y1462 : Int) => ⟨[(0, .view 0 2 a1 a2), (1, pz a3), (4, .func 99 [] []), (12, pz y1462), (13, pz x1307.2.2)], [(0, vecO 2 enc_arr_2_int x1307.1 90)], [], 1⟩)
 (fun x1453 => .cut 1 (fun (y1469 : Bool) => ⟨[(0, .view 0 2 a1 a2), (1, pz a3), (4, .func 99 [] []), (12, pz x1453), (13, pz x1307.2.2), (120, .pure (.bool y1469))], [(0, vecO 2 enc_arr_2_int x1307.1 90)], [], 1⟩)
 (.br (decide (x1453 ≤ x1307.2.2))
 (.grd (0 ≤ x1453 ∧ x1453 < ((a2 : Nat) : Int)) <|
 .grd ((a1 + ((x1453).toNat)) < x1307.1.length) <|
 .grd (0 ≤ a3 ∧ a3 < ((a2 : Nat) : Int)) <|
 .grd ((a1 + ((a3).toNat)) < x1307.1.length) <|
 .call (roadmap_nearPairs_1_C (x1307.1.getD (a1 + ((x1453).toNat)) default) (x1307.1.getD (a1 + ((a3).toNat)) default)) [] fun y1470 =>
 .ret (.out (decide (y1470 < 0))))
 (.ret (.out false))) fun y1469 =>
 .br y1469
 (.ret (.next (IntKind.i64.wrap (x1453 + 1))))
 (.ret (.out x1453)))
 x1307.2.1 [] fun y1462 =>
 .loop (fun (x1507 : Int) => ⟨[(0, .view 0 2 a1 a2), (1, pz a3), (4, .func 99 [] []), (12, pz y1462), (13, pz x1507)], [(0, vecO 2 enc_arr_2_int x1307.1 90)], [], 1⟩)
 (.exit 8) (fun (y1516 : Int) => ⟨[(0, .view 0 2 a1 a2), (1, pz a3), (4, .func 99 [] []), (12, pz y1462), (13, pz y1516)], [(0, vecO 2 enc_arr_2_int x1307.1 90)], [], 1⟩)
 (fun x1507 => .cut 1 (fun (y1523 : Bool) => ⟨[(0, .view 0 2 a1 a2), (1, pz a3), (4, .func 99 [] []), (12, pz y1462), (13, pz x1507), (139, .pure (.bool y1523))], [(0, vecO 2 enc_arr_2_int x1307.1 90)], [], 1⟩)
 (.br (decide (y1462 ≤ x1507))
 (.grd (0 ≤ x1507 ∧ x1507 < ((a2 : Nat) : Int)) <|
 .grd ((a1 + ((x1507).toNat)) < x1307.1.length) <|
 .grd (0 ≤ a3 ∧ a3 < ((a2 : Nat) : Int)) <|
 .grd ((a1 + ((a3).toNat)) < x1307.1.length) <|
 .call (roadmap_nearPairs_1_C (x1307.1.getD (a1 + ((x1507).toNat)) default) (x1307.1.getD (a1 + ((a3).toNat)) default)) [] fun y1524 =>
 .ret (.out (!(decide (y1524 < 0)))))
 (.ret (.out false))) fun y1523 =>
 .br y1523
 (.ret (.next (IntKind.i64.wrap (x1507 - 1))))
 (.ret (.out x1507)))
 x1307.2.2 [] fun y1516 =>
 .br (decide (y1462 > y1516))
 (.ret (.out (x1307.1, y1516)))
 (.grd (0 ≤ y1516 ∧ y1516 < ((a2 : Nat) : Int)) <|
 .grd ((a1 + ((y1516).toNat)) < x1307.1.length) <|
 .grd (0 ≤ y1462 ∧ y1462 < ((a2 : Nat) : Int)) <|
 .grd ((a1 + ((y1462).toNat)) < x1307.1.length) <|
 .grd (0 ≤ y1462 ∧ y1462 < ((a2 : Nat) : Int)) <|
 .conv 18013 (cvSet 2 enc_arr_2_int x1307.1 90 (a1 + ((y1462).toNat)) (x1307.1.getD (a1 + ((y1516).toNat)) default)) <|
 .grd ((a1 + ((y1462).toNat)) < x1307.1.length ∧ 0 ≤ (a1 + ((y1462).toNat))) <|
 .grd (0 ≤ y1516 ∧ y1516 < ((a2 : Nat) : Int)) <|
 .conv 18015 (cvSet 2 enc_arr_2_int (x1307.1.set (a1 + ((y1462).toNat)) (x1307.1.getD (a1 + ((y1516).toNat)) default)) 90 (a1 + ((y1516).toNat)) (x1307.1.getD (a1 + ((y1462).toNat)) default)) <|
 .grd ((a1 + ((y1516).toNat)) < (x1307.1.set (a1 + ((y1462).toNat)) (x1307.1.getD (a1 + ((y1516).toNat)) default)).length ∧ 0 ≤ (a1 + ((y1516).toNat))) <|
 .ret (.next (((x1307.1.set (a1 + ((y1462).toNat)) (x1307.1.getD (a1 + ((y1516).toNat)) default)).set (a1 + ((y1516).toNat)) (x1307.1.getD (a1 + ((y1462).toNat)) default)), (IntKind.i64.wrap (y1462 + 1)), (IntKind.i64.wrap (y1516 - 1))))))
 (((((a0.set (a1 + ((a3).toNat)) (a0.getD (a1 + ((a5).toNat)) default)).set (a1 + ((a5).toNat)) (a0.getD (a1 + ((a3).toNat)) default)).set (a1 + ((y808).toNat)) (((a0.set (a1 + ((a3).toNat)) (a0.getD (a1 + ((a5).toNat)) default)).set (a1 + ((a5).toNat)) (a0.getD (a1 + ((a3).toNat)) default)).getD (a1 + ((y862).toNat)) default)).set (a1 + ((y862).toNat)) (((a0.set (a1 + ((a3).toNat)) (a0.getD (a1 + ((a5).toNat)) default)).set (a1 + ((a5).toNat)) (a0.getD (a1 + ((a3).toNat)) default)).getD (a1 + ((y808).toNat)) default)), (IntKind.i64.wrap (y808 + 1)), (IntKind.i64.wrap (y862 - 1))) [] fun y1416 =>
 .grd (0 ≤ a3 ∧ a3 < ((a2 : Nat) : Int)) <|
 .grd ((a1 + ((a3).toNat)) < y1416.1.length) <|
 .grd (0 ≤ y1416.2 ∧ y1416.2 < ((a2 : Nat) : Int)) <|
 .grd ((a1 + ((y1416.2).toNat)) < y1416.1.length) <|
 .grd (0 ≤ y1416.2 ∧ y1416.2 < ((a2 : Nat) : Int)) <|
 .conv 21013 (cvSet 2 enc_arr_2_int y1416.1 90 (a1 + ((y1416.2).toNat)) (y1416.1.getD (a1 + ((a3).toNat)) default)) <|
 .grd ((a1 + ((y1416.2).toNat)) < y1416.1.length ∧ 0 ≤ (a1 + ((y1416.2).toNat))) <|
 .grd (0 ≤ a3 ∧ a3 < ((a2 : Nat) : Int)) <|
 .conv 21015 (cvSet 2 enc_arr_2_int (y1416.1.set (a1 + ((y1416.2).toNat)) (y1416.1.getD (a1 + ((a3).toNat)) default)) 90 (a1 + ((a3).toNat)) (y1416.1.getD (a1 + ((y1416.2).toNat)) default)) <|
 .grd ((a1 + ((a3).toNat)) < (y1416.1.set (a1 + ((y1416.2).toNat)) (y1416.1.getD (a1 + ((a3).toNat)) default)).length ∧ 0 ≤ (a1 + ((a3).toNat))) <|
 .ret (y1416.2, false, ((y1416.1.set (a1 + ((y1416.2).toNat)) (y1416.1.getD (a1 + ((a3).toNat)) default)).set (a1 + ((a3).toNat)) (y1416.1.getD (a1 + ((y1416.2).toNat)) default))))
noncomputable def slices_partitionCmpFunc_2_int_C (a0 : (List (Int × Int))) (a1 : Nat) (a2 : Nat) (a3 : Int) (a4 : Int) (a5 : Int) : CallS (Int × Bool × (List (Int × Int))) :=
  mkC [] hd Tryz.func168 (by kernel_rfl) (slices_partitionCmpFunc_2_int_T a0 a1 a2 a3 a4 a5) 1 [.view 0 2 a1 a2, pz a3, pz a4, pz a5, .func 99 [] []] [(0, vecO 2 enc_arr_2_int a0 90)] (fun r => .tup [pz r.1, .pure (.bool r.2.1)]) (fun r => [(0, vecO 2 enc_arr_2_int r.2.2 90)]) (by kernel_rfl)
noncomputable def slices_breakPatternsCmpFunc_2_int_T (a0 : (List (Int × Int))) (a1 : Nat) (a2 : Nat) (a3 : Int) (a4 : Int) : T (List (Int × Int)) :=
 .br (decide ((IntKind.i64.wrap (a4 - a3)) ≥ 8))
 (.call (slices_nextPowerOfTwo_C (IntKind.i64.wrap (a4 - a3))) [] fun y51 =>
 .ok ((4 : Int) ≠ 0) (by decide) <|
 .name 4005 ((IntKind.i64.wrap ((IntKind.i64.wrap (a3 + (IntKind.i64.wrap ((IntKind.i64.wrap ((IntKind.i64.wrap (a4 - a3)).tdiv 4)) * 2)))) - 1))) fun z53 =>
 .loop (fun (x69 : ((List (Int × Int)) × Int × Int)) => ⟨[(0, .view 0 2 a1 a2), (1, pz a3), (8, pz (IntKind.i64.wrap (a4 - a3))), (9, .ptr 1 0), (10, .pure (.int .u64 y51)), (11, pz x69.2.2)], [(0, vecO 2 enc_arr_2_int x69.1 90), (1, .box [.pure (.int .u64 x69.2.1)])], [], 2⟩)
 (.exit 0) (fun (y84 : (List (Int × Int))) => ⟨[], [(0, vecO 2 enc_arr_2_int y84 90)], [], 1⟩)
 (fun x69 => .ok ((4 : Int) ≠ 0) (by decide) <|
 .name 5006 ((IntKind.i64.wrap ((IntKind.i64.wrap (a3 + (IntKind.i64.wrap ((IntKind.i64.wrap ((IntKind.i64.wrap (a4 - a3)).tdiv 4)) * 2)))) + 1))) fun z88 =>
 .br (decide (x69.2.2 ≤ z88))
 (.call (xorshift_Next_C x69.2.1) [(0, 1)] fun y96 =>
 .name 7004 ((IntKind.i64.wrap (IntKind.u64.wrap (((BitVec.ofInt 64 y96.1 &&& BitVec.ofInt 64 (IntKind.u64.wrap (y51 - 1))).toNat : Int))))) fun z97 =>
 .cut 0 (fun (y98 : Int) => ⟨[(0, .view 0 2 a1 a2), (1, pz a3), (8, pz (IntKind.i64.wrap (a4 - a3))), (9, .ptr 1 0), (10, .pure (.int .u64 y51)), (11, pz x69.2.2), (12, pz y98)], [(0, vecO 2 enc_arr_2_int x69.1 90), (1, .box [.pure (.int .u64 y96.2)])], [], 2⟩)
 (.br (decide (z97 ≥ (IntKind.i64.wrap (a4 - a3))))
 (.ret (.out (IntKind.i64.wrap (z97 - (IntKind.i64.wrap (a4 - a3))))))
 (.ret (.out z97))) fun y98 =>
 .grd (0 ≤ (IntKind.i64.wrap (a3 + y98)) ∧ (IntKind.i64.wrap (a3 + y98)) < ((a2 : Nat) : Int)) <|
 .grd ((a1 + (((IntKind.i64.wrap (a3 + y98))).toNat)) < x69.1.length) <|
 .grd (0 ≤ x69.2.2 ∧ x69.2.2 < ((a2 : Nat) : Int)) <|
 .grd ((a1 + ((x69.2.2).toNat)) < x69.1.length) <|
 .grd (0 ≤ x69.2.2 ∧ x69.2.2 < ((a2 : Nat) : Int)) <|
 .conv 10017 (cvSet 2 enc_arr_2_int x69.1 90 (a1 + ((x69.2.2).toNat)) (x69.1.getD (a1 + (((IntKind.i64.wrap (a3 + y98))).toNat)) default)) <|
 .grd ((a1 + ((x69.2.2).toNat)) < x69.1.length ∧ 0 ≤ (a1 + ((x69.2.2).toNat))) <|
 .grd (0 ≤ (IntKind.i64.wrap (a3 + y98)) ∧ (IntKind.i64.wrap (a3 + y98)) < ((a2 : Nat) : Int)) <|
 .conv 10019 (cvSet 2 enc_arr_2_int (x69.1.set (a1 + ((x69.2.2).toNat)) (x69.1.getD (a1 + (((IntKind.i64.wrap (a3 + y98))).toNat)) default)) 90 (a1 + (((IntKind.i64.wrap (a3 + y98))).toNat)) (x69.1.getD (a1 + ((x69.2.2).toNat)) default)) <|
 .grd ((a1 + (((IntKind.i64.wrap (a3 + y98))).toNat)) < (x69.1.set (a1 + ((x69.2.2).toNat)) (x69.1.getD (a1 + (((IntKind.i64.wrap (a3 + y98))).toNat)) default)).length ∧ 0 ≤ (a1 + (((IntKind.i64.wrap (a3 + y98))).toNat))) <|
 .ret (.next (((x69.1.set (a1 + ((x69.2.2).toNat)) (x69.1.getD (a1 + (((IntKind.i64.wrap (a3 + y98))).toNat)) default)).set (a1 + (((IntKind.i64.wrap (a3 + y98))).toNat)) (x69.1.getD (a1 + ((x69.2.2).toNat)) default)), y96.2, (IntKind.i64.wrap (x69.2.2 + 1)))))
 (.ret (.out x69.1)))
 (a0, (IntKind.u64.wrap (IntKind.i64.wrap (a4 - a3))), z53) [] fun y84 =>
 .ret y84)
 (.ret a0)
noncomputable def slices_breakPatternsCmpFunc_2_int_C (a0 : (List (Int × Int))) (a1 : Nat) (a2 : Nat) (a3 : Int) (a4 : Int) : CallS (List (Int × Int)) :=
  mkC [] hd Tryz.func163 (by kernel_rfl) (slices_breakPatternsCmpFunc_2_int_T a0 a1 a2 a3 a4) 1 [.view 0 2 a1 a2, pz a3, pz a4, .func 99 [] []] [(0, vecO 2 enc_arr_2_int a0 90)] (fun _ => .tup []) (fun r => [(0, vecO 2 enc_arr_2_int r 90)]) (by kernel_rfl)
abbrev slices_pdqsortCmpFunc_2_int_R := RecS Tryz.prog 138 1 ((List (Int × Int)) × Nat × Nat × Int × Int × Int) (List (Int × Int)) (fun a => [.view 0 2 a.2.1 a.2.2.1, pz a.2.2.2.1, pz a.2.2.2.2.1, pz a.2.2.2.2.2, .func 99 [] []]) (fun a => [(0, vecO 2 enc_arr_2_int a.1 90)]) (fun _ _ => .tup []) (fun _ r => [(0, vecO 2 enc_arr_2_int r 90)])
noncomputable def slices_pdqsortCmpFunc_2_int_T (rec : slices_pdqsortCmpFunc_2_int_R) (a0 : (List (Int × Int))) (a1 : Nat) (a2 : Nat) (a3 : Int) (a4 : Int) (a5 : Int) : T (List (Int × Int)) :=
 .loop (fun (x194 : ((List (Int × Int)) × Int × Int × Int × Bool × Bool)) => ⟨[(0, .view 0 2 a1 a2), (1, pz x194.2.1), (2, pz x194.2.2.1), (3, pz x194.2.2.2.1), (4, .func 99 [] []), (10, .pure (.bool x194.2.2.2.2.1)), (11, .pure (.bool x194.2.2.2.2.2))], [(0, vecO 2 enc_arr_2_int x194.1 90)], [], 1⟩)
 .ret (fun (_ : U0) => ⟨[], [], [], 1⟩)
 (fun x194 => .br (decide ((IntKind.i64.wrap (x194.2.2.1 - x194.2.1)) ≤ 12))
 (.call (slices_insertionSortCmpFunc_2_int_C x194.1 a1 a2 x194.2.1 x194.2.2.1) [(0, 0)] fun y245 =>
 .ret (.fin y245))
 (.br (x194.2.2.2.1 == 0)
 (.call (slices_heapSortCmpFunc_2_int_C x194.1 a1 a2 x194.2.1 x194.2.2.1) [(0, 0)] fun y247 =>
 .ret (.fin y247))
 (.cut 0 (fun (y252 : ((List (Int × Int)) × Int)) => ⟨[(0, .view 0 2 a1 a2), (1, pz x194.2.1), (2, pz x194.2.2.1), (3, pz y252.2), (4, .func 99 [] []), (10, .pure (.bool x194.2.2.2.2.1)), (11, .pure (.bool x194.2.2.2.2.2)), (12, pz (IntKind.i64.wrap (x194.2.2.1 - x194.2.1)))], [(0, vecO 2 enc_arr_2_int y252.1 90)], [], 1⟩)
 (.br (!x194.2.2.2.2.1)
 (.call (slices_breakPatternsCmpFunc_2_int_C x194.1 a1 a2 x194.2.1 x194.2.2.1) [(0, 0)] fun y254 =>
 .ret (.out (y254, (IntKind.i64.wrap (x194.2.2.2.1 - 1)))))
 (.ret (.out (x194.1, x194.2.2.2.1)))) fun y252 =>
 .call (slices_choosePivotCmpFunc_2_int_C y252.1 a1 a2 x194.2.1 x194.2.2.1) [(0, 0)] fun y256 =>
 .cut 0 (fun (y261 : ((List (Int × Int)) × Int × Int)) => ⟨[(0, .view 0 2 a1 a2), (1, pz x194.2.1), (2, pz x194.2.2.1), (3, pz y252.2), (4, .func 99 [] []), (10, .pure (.bool x194.2.2.2.2.1)), (11, .pure (.bool x194.2.2.2.2.2)), (12, pz (IntKind.i64.wrap (x194.2.2.1 - x194.2.1))), (13, pz y261.2.1), (14, pz y261.2.2)], [(0, vecO 2 enc_arr_2_int y261.1 90)], [], 1⟩)
 (.br (y256.2 == 2)
 (.call (slices_reverseRangeCmpFunc_2_int_C y252.1 a1 a2 x194.2.1 x194.2.2.1) [(0, 0)] fun y263 =>
 .ret (.out (y263, (IntKind.i64.wrap ((IntKind.i64.wrap (x194.2.2.1 - 1)) - (IntKind.i64.wrap (y256.1 - x194.2.1)))), 1)))
 (.ret (.out (y252.1, y256.1, y256.2)))) fun y261 =>
 .cut 0 (fun (y270 : (List (Int × Int))) => ⟨[(0, .view 0 2 a1 a2), (1, pz x194.2.1), (2, pz x194.2.2.1), (3, pz y252.2), (4, .func 99 [] []), (10, .pure (.bool x194.2.2.2.2.1)), (11, .pure (.bool x194.2.2.2.2.2)), (12, pz (IntKind.i64.wrap (x194.2.2.1 - x194.2.1))), (13, pz y261.2.1)], [(0, vecO 2 enc_arr_2_int y270 90)], [], 1⟩)
 (.cut 0 (fun (y271 : Bool) => ⟨[(0, .view 0 2 a1 a2), (1, pz x194.2.1), (2, pz x194.2.2.1), (3, pz y252.2), (4, .func 99 [] []), (10, .pure (.bool x194.2.2.2.2.1)), (11, .pure (.bool x194.2.2.2.2.2)), (12, pz (IntKind.i64.wrap (x194.2.2.1 - x194.2.1))), (13, pz y261.2.1), (75, .pure (.bool y271))], [(0, vecO 2 enc_arr_2_int y261.1 90)], [], 1⟩)
 (.br x194.2.2.2.2.1
 (.br x194.2.2.2.2.2
 (.ret (.out (y261.2.2 == 1)))
 (.ret (.out false)))
 (.ret (.out false))) fun y271 =>
 .br y271
 (.call (slices_partialInsertionSortCmpFunc_2_int_C y261.1 a1 a2 x194.2.1 x194.2.2.1) [(0, 0)] fun y273 =>
 .br y273.1
 (.ret (.fin (.fin y273.2)))
 (.ret (.out y273.2)))
 (.ret (.out y261.1))) fun y270 =>
 .cut 1 (fun (y282 : Bool) => ⟨[(0, .view 0 2 a1 a2), (1, pz x194.2.1), (2, pz x194.2.2.1), (3, pz y252.2), (4, .func 99 [] []), (10, .pure (.bool x194.2.2.2.2.1)), (11, .pure (.bool x194.2.2.2.2.2)), (12, pz (IntKind.i64.wrap (x194.2.2.1 - x194.2.1))), (13, pz y261.2.1), (97, .pure (.bool y282))], [(0, vecO 2 enc_arr_2_int y270 90)], [], 1⟩)
 (.br (decide (x194.2.1 > 0))
 (.grd (0 ≤ (IntKind.i64.wrap (x194.2.1 - 1)) ∧ (IntKind.i64.wrap (x194.2.1 - 1)) < ((a2 : Nat) : Int)) <|
 .grd ((a1 + (((IntKind.i64.wrap (x194.2.1 - 1))).toNat)) < y270.length) <|
 .grd (0 ≤ y261.2.1 ∧ y261.2.1 < ((a2 : Nat) : Int)) <|
 .grd ((a1 + ((y261.2.1).toNat)) < y270.length) <|
 .call (roadmap_nearPairs_1_C (y270.getD (a1 + (((IntKind.i64.wrap (x194.2.1 - 1))).toNat)) default) (y270.getD (a1 + ((y261.2.1).toNat)) default)) [] fun y283 =>
 .ret (.out (!(decide (y283 < 0)))))
 (.ret (.out false))) fun y282 =>
 .br y282
 (.call (slices_partitionEqualCmpFunc_2_int_C y270 a1 a2 x194.2.1 x194.2.2.1 y261.2.1) [(0, 0)] fun y285 =>
 .ret (.next (y285.2, y285.1, x194.2.2.1, y252.2, x194.2.2.2.2.1, x194.2.2.2.2.2)))
 (.call (slices_partitionCmpFunc_2_int_C y270 a1 a2 x194.2.1 x194.2.2.1 y261.2.1) [(0, 0)] fun y287 =>
 .ok ((8 : Int) ≠ 0) (by decide) <|
 .br (decide ((IntKind.i64.wrap (y287.1 - x194.2.1)) < (IntKind.i64.wrap (x194.2.2.1 - y287.1))))
 (.call (rec.C (y287.2.2, a1, a2, x194.2.1, y287.1, y252.2)) [(0, 0)] fun y289 =>
 .ret (.next (y289, (IntKind.i64.wrap (y287.1 + 1)), x194.2.2.1, y252.2, (decide ((IntKind.i64.wrap (y287.1 - x194.2.1)) ≥ (IntKind.i64.wrap ((IntKind.i64.wrap (x194.2.2.1 - x194.2.1)).tdiv 8)))), y287.2.1)))
 (.call (rec.C (y287.2.2, a1, a2, (IntKind.i64.wrap (y287.1 + 1)), x194.2.2.1, y252.2)) [(0, 0)] fun y291 =>
 .ret (.next (y291, x194.2.1, y287.1, y252.2, (decide ((IntKind.i64.wrap (x194.2.2.1 - y287.1)) ≥ (IntKind.i64.wrap ((IntKind.i64.wrap (x194.2.2.1 - x194.2.1)).tdiv 8)))), y287.2.1)))))))
 (a0, a3, a4, a5, true, true) [] fun _ =>
 .stop
noncomputable def slices_pdqsortCmpFunc_2_int_S : slices_pdqsortCmpFunc_2_int_R → slices_pdqsortCmpFunc_2_int_R := RecS.next [] hd Tryz.func138 (by kernel_rfl) (fun rec a => slices_pdqsortCmpFunc_2_int_T rec a.1 a.2.1 a.2.2.1 a.2.2.2.1 a.2.2.2.2.1 a.2.2.2.2.2) (fun rec a => by kernel_rfl)
noncomputable def slices_pdqsortCmpFunc_2_int_C (a0 : (List (Int × Int))) (a1 : Nat) (a2 : Nat) (a3 : Int) (a4 : Int) (a5 : Int) : CallS (List (Int × Int)) := (RecS.fix slices_pdqsortCmpFunc_2_int_S NN).C (a0, a1, a2, a3, a4, a5)
noncomputable def slices_SortFunc_2_int_2_int_T (a0 : (List (Int × Int))) (a1 : Nat) (a2 : Nat) : T (List (Int × Int)) :=
 .call (math_bits_Len_C (IntKind.u64.wrap ((a2 : Nat) : Int))) [] fun y3 =>
 .call (slices_pdqsortCmpFunc_2_int_C a0 a1 a2 0 ((a2 : Nat) : Int) y3) [(0, 0)] fun y4 =>
 .ret y4
noncomputable def slices_SortFunc_2_int_2_int_C (a0 : (List (Int × Int))) (a1 : Nat) (a2 : Nat) : CallS (List (Int × Int)) :=
  mkC [] hd Tryz.func98 (by kernel_rfl) (slices_SortFunc_2_int_2_int_T a0 a1 a2) 1 [.view 0 2 a1 a2, .func 99 [] []] [(0, vecO 2 enc_arr_2_int a0 90)] (fun _ => .tup []) (fun r => [(0, vecO 2 enc_arr_2_int r 90)]) (by kernel_rfl)
set_option maxHeartbeats 8000000 in
set_option maxRecDepth 20000 in
noncomputable def roadmap_nearPairs_T (a0 : S_Robot) (a1 : (List (List Int))) (a2 : Int) : T (List (Int × Int)) :=
 .call (neighbor_Build_C a1) [] fun y2 =>
 .loop (fun (x143 : ((List (Int × Int)) × (List ((Int × Int) × Bool)) × Int)) => ⟨[(1, .pure (encL 1 (encL 1 encI_i64) a1)), (2, pz a2), (3, .ptr 0 0), (7, .vec 1), (8, .map 2), (9, .pure (encL 4 enc_KdNode y2)), (18, .pure (encL 1 (encL 1 encI_i64) a1)), (19, pz ((a1.length : Nat) : Int)), (20, pz x143.2.2)], [(0, .box [.pure (encL 12 enc_Joint a0.Joints), .pure (encL 5 enc_Mass a0.Masses)]), (1, vecO 2 enc_arr_2_int x143.1 90), (2, mapR_b [.int .i64 0, .int .i64 0] cells_arr_2_int x143.2.1)], [], 3⟩)
 (.exit 0) (fun (y178 : (List (Int × Int))) => ⟨[(7, .vec 0)], [(0, vecO 2 enc_arr_2_int y178 90)], [], 1⟩)
 (fun x143 => .br (decide (x143.2.2 < ((a1.length : Nat) : Int)))
 (.grd (0 ≤ x143.2.2 ∧ x143.2.2 < ((a1.length : Nat) : Int)) <|
 .call (neighbor_Nearest_C (⟨a0.Joints, a0.Masses⟩ : S_Robot) a1 y2 (a1.getD ((x143.2.2).toNat) default) (IntKind.i64.wrap ((min a2 ((a1.length : Nat) : Int)) + 1))) [] fun y197 =>
 .loop (fun (x203 : ((List (Int × Int)) × (List ((Int × Int) × Bool)) × Int)) => ⟨[(1, .pure (encL 1 (encL 1 encI_i64) a1)), (2, pz a2), (3, .ptr 0 0), (7, .vec 1), (8, .map 2), (9, .pure (encL 4 enc_KdNode y2)), (10, pz x143.2.2), (18, .pure (encL 1 (encL 1 encI_i64) a1)), (19, pz ((a1.length : Nat) : Int)), (20, pz x143.2.2), (34, .pure (encL 1 encI_i64 y197)), (35, pz ((y197.length : Nat) : Int)), (36, pz x203.2.2)], [(0, .box [.pure (encL 12 enc_Joint a0.Joints), .pure (encL 5 enc_Mass a0.Masses)]), (1, vecO 2 enc_arr_2_int x203.1 90), (2, mapR_b [.int .i64 0, .int .i64 0] cells_arr_2_int x203.2.1)], [], 3⟩)
 (.exit 2) (fun (y208 : ((List (Int × Int)) × (List ((Int × Int) × Bool)))) => ⟨[(1, .pure (encL 1 (encL 1 encI_i64) a1)), (2, pz a2), (3, .ptr 0 0), (7, .vec 1), (8, .map 2), (9, .pure (encL 4 enc_KdNode y2)), (18, .pure (encL 1 (encL 1 encI_i64) a1)), (19, pz ((a1.length : Nat) : Int)), (20, pz x143.2.2)], [(0, .box [.pure (encL 12 enc_Joint a0.Joints), .pure (encL 5 enc_Mass a0.Masses)]), (1, vecO 2 enc_arr_2_int y208.1 90), (2, mapR_b [.int .i64 0, .int .i64 0] cells_arr_2_int y208.2)], [], 3⟩)
 (fun x203 => .br (decide (x203.2.2 < ((y197.length : Nat) : Int)))
 (.cut 0 (fun (y211 : ((List (Int × Int)) × (List ((Int × Int) × Bool)))) => ⟨[(1, .pure (encL 1 (encL 1 encI_i64) a1)), (2, pz a2), (3, .ptr 0 0), (7, .vec 1), (8, .map 2), (9, .pure (encL 4 enc_KdNode y2)), (10, pz x143.2.2), (18, .pure (encL 1 (encL 1 encI_i64) a1)), (19, pz ((a1.length : Nat) : Int)), (20, pz x143.2.2), (34, .pure (encL 1 encI_i64 y197)), (35, pz ((y197.length : Nat) : Int)), (36, pz x203.2.2)], [(0, .box [.pure (encL 12 enc_Joint a0.Joints), .pure (encL 5 enc_Mass a0.Masses)]), (1, vecO 2 enc_arr_2_int y211.1 90), (2, mapR_b [.int .i64 0, .int .i64 0] cells_arr_2_int y211.2)], [], 3⟩)
 (.grd (0 ≤ x203.2.2 ∧ x203.2.2 < ((y197.length : Nat) : Int)) <|
 .cut 1 (fun (y212 : Bool) => ⟨[(1, .pure (encL 1 (encL 1 encI_i64) a1)), (2, pz a2), (3, .ptr 0 0), (7, .vec 1), (8, .map 2), (9, .pure (encL 4 enc_KdNode y2)), (10, pz x143.2.2), (14, .ptr 3 0), (18, .pure (encL 1 (encL 1 encI_i64) a1)), (19, pz ((a1.length : Nat) : Int)), (20, pz x143.2.2), (34, .pure (encL 1 encI_i64 y197)), (35, pz ((y197.length : Nat) : Int)), (36, pz x203.2.2), (55, .pure (.bool y212))], [(0, .box [.pure (encL 12 enc_Joint a0.Joints), .pure (encL 5 enc_Mass a0.Masses)]), (1, vecO 2 enc_arr_2_int x203.1 90), (2, mapR_b [.int .i64 0, .int .i64 0] cells_arr_2_int x203.2.1), (3, .box [pz (min x143.2.2 (y197.getD ((x203.2.2).toNat) default)), pz (max x143.2.2 (y197.getD ((x203.2.2).toNat) default))])], [], 4⟩)
 (.br (x143.2.2 != (y197.getD ((x203.2.2).toNat) default))
 (.ok ((mdom cells_arr_2_int x203.2.1 (cells_arr_2_int ((min x143.2.2 (y197.getD ((x203.2.2).toNat) default)), (max x143.2.2 (y197.getD ((x203.2.2).toNat) default))))) = false → PVal.bool (mgetB cells_arr_2_int x203.2.1 (cells_arr_2_int ((min x143.2.2 (y197.getD ((x203.2.2).toNat) default)), (max x143.2.2 (y197.getD ((x203.2.2).toNat) default))))) = .bool false) mgetB0 <|
 .ret (.out (!(mgetB cells_arr_2_int x203.2.1 (cells_arr_2_int ((min x143.2.2 (y197.getD ((x203.2.2).toNat) default)), (max x143.2.2 (y197.getD ((x203.2.2).toNat) default))))))))
 (.ret (.out false))) fun y212 =>
 .br y212
 (.conv 12002 (cvMapB [.int .i64 0, .int .i64 0] cells_arr_2_int x203.2.1 ((min x143.2.2 (y197.getD ((x203.2.2).toNat) default)), (max x143.2.2 (y197.getD ((x203.2.2).toNat) default))) true) <|
 .conv 13002 (cvLit 2 enc_arr_2_int ([((min x143.2.2 (y197.getD ((x203.2.2).toNat) default)), (max x143.2.2 (y197.getD ((x203.2.2).toNat) default)))] : (List (Int × Int))) 90) <|
 .conv 13003 (cvApp 2 enc_arr_2_int x203.1 ([((min x143.2.2 (y197.getD ((x203.2.2).toNat) default)), (max x143.2.2 (y197.getD ((x203.2.2).toNat) default)))] : (List (Int × Int))) 90) <|
 .grd ((x203.1.length + ([((min x143.2.2 (y197.getD ((x203.2.2).toNat) default)), (max x143.2.2 (y197.getD ((x203.2.2).toNat) default)))] : (List (Int × Int))).length) * 16 ≤ 140737488355328 ∧ (x203.1.length + ([((min x143.2.2 (y197.getD ((x203.2.2).toNat) default)), (max x143.2.2 (y197.getD ((x203.2.2).toNat) default)))] : (List (Int × Int))).length) ≤ maxLen) <|
 .ret (.out ((x203.1 ++ ([((min x143.2.2 (y197.getD ((x203.2.2).toNat) default)), (max x143.2.2 (y197.getD ((x203.2.2).toNat) default)))] : (List (Int × Int)))), ((((min x143.2.2 (y197.getD ((x203.2.2).toNat) default)), (max x143.2.2 (y197.getD ((x203.2.2).toNat) default))), true) :: x203.2.1))))
 (.ret (.out (x203.1, x203.2.1)))) fun y211 =>
 .ret (.next (y211.1, y211.2, (IntKind.i64.wrap (x203.2.2 + 1)))))
 (.ret (.out (x203.1, x203.2.1))))
 (x143.1, x143.2.1, 0) [] fun y208 =>
 .ret (.next (y208.1, y208.2, (IntKind.i64.wrap (x143.2.2 + 1)))))
 (.ret (.out x143.1)))
 (nl, (nl : List ((Int × Int) × Bool)), 0) [] fun y178 =>
 .call (slices_SortFunc_2_int_2_int_C y178 0 y178.length) [(0, 0)] fun y214 =>
 .ret y214
noncomputable def roadmap_nearPairs_C (a0 : S_Robot) (a1 : (List (List Int))) (a2 : Int) : CallS (List (Int × Int)) :=
  mkC [] hd Tryz.func53 (by kernel_rfl) (roadmap_nearPairs_T a0 a1 a2) 0 [.pure (enc_Robot a0), .pure (encL 1 (encL 1 encI_i64) a1), pz a2] [] (fun r => .pure (encL 2 enc_arr_2_int r)) (fun _ => []) (by kernel_rfl)
noncomputable def config_small_1_T (a0 : Int) : T Bool :=
 .br (decide (a0 < (-2147483648)))
 (.ret true)
 (.ret (decide (a0 > 2147483648)))
noncomputable def config_small_1_C (a0 : Int) : CallS Bool :=
  mkC [] hd Tryz.func160 (by kernel_rfl) (config_small_1_T a0) 0 [pz a0] [] (fun r => .pure (.bool r)) (fun _ => []) (by kernel_rfl)
noncomputable def slices_IndexFunc_int64_int64_T (a0 : (List Int)) : T Int :=
 .loop (fun (x21 : Int) => ⟨[(0, .pure (encL 1 encI_i64 a0)), (1, .func 160 [] []), (7, pz ((a0.length : Nat) : Int)), (8, pz x21)], [], [], 0⟩)
 (.exit 0) (fun (_ : U0) => ⟨[], [], [], 0⟩)
 (fun x21 => .br (decide (x21 < ((a0.length : Nat) : Int)))
 (.grd (0 ≤ x21 ∧ x21 < ((a0.length : Nat) : Int)) <|
 .call (config_small_1_C (a0.getD ((x21).toNat) default)) [] fun y30 =>
 .br y30
 (.ret (.fin x21))
 (.ret (.next (IntKind.i64.wrap (x21 + 1)))))
 (.ret (.out .u)))
 0 [] fun _ =>
 .ret (-1)
noncomputable def slices_IndexFunc_int64_int64_C (a0 : (List Int)) : CallS Int :=
  mkC [] hd Tryz.func187 (by kernel_rfl) (slices_IndexFunc_int64_int64_T a0) 0 [.pure (encL 1 encI_i64 a0), .func 160 [] []] [] (fun r => pz r) (fun _ => []) (by kernel_rfl)
noncomputable def slices_ContainsFunc_int64_int64_T (a0 : (List Int)) : T Bool :=
 .call (slices_IndexFunc_int64_int64_C a0) [] fun y1 =>
 .ret (decide (y1 ≥ 0))
noncomputable def slices_ContainsFunc_int64_int64_C (a0 : (List Int)) : CallS Bool :=
  mkC [] hd Tryz.func159 (by kernel_rfl) (slices_ContainsFunc_int64_int64_T a0) 0 [.pure (encL 1 encI_i64 a0), .func 160 [] []] [] (fun r => .pure (.bool r)) (fun _ => []) (by kernel_rfl)
noncomputable def config_small_T (a0 : (List Int)) : T Bool :=
 .call (slices_ContainsFunc_int64_int64_C a0) [] fun y1 =>
 .ret (!y1)
noncomputable def config_small_C (a0 : (List Int)) : CallS Bool :=
  mkC [] hd Tryz.func133 (by kernel_rfl) (config_small_T a0) 0 [.pure (encL 1 encI_i64 a0)] [] (fun r => .pure (.bool r)) (fun _ => []) (by kernel_rfl)
noncomputable def config_Distance_T (a0 : S_Robot) (a1 : (List Int)) (a2 : (List Int)) : T Int :=
 .cut 3 (fun (y55 : Bool) => ⟨[(1, .pure (encL 1 encI_i64 a1)), (2, .pure (encL 1 encI_i64 a2)), (3, .ptr 0 0), (38, .pure (.bool y55))], [(0, .box [.pure (encL 12 enc_Joint a0.Joints), .pure (encL 5 enc_Mass a0.Masses)])], [], 1⟩)
 (.br (((a1.length : Nat) : Int) != ((a0.Joints.length : Nat) : Int))
 (.ret (.out true))
 (.br (((a2.length : Nat) : Int) != ((a0.Joints.length : Nat) : Int))
 (.ret (.out true))
 (.call (config_small_C a1) [] fun y56 =>
 .br (!y56)
 (.ret (.out true))
 (.call (config_small_C a2) [] fun y57 =>
 .br (!y57)
 (.ret (.out true))
 (.call (robot_Check_C (⟨a0.Joints, a0.Masses⟩ : S_Robot)) [] fun y58 =>
 .ret (.out (y58 != 0))))))) fun y55 =>
 .br y55
 (.ret 0)
 (.loop (fun (x71 : (Int × Int)) => ⟨[(1, .pure (encL 1 encI_i64 a1)), (2, .pure (encL 1 encI_i64 a2)), (8, pz x71.1), (40, .pure (encL 12 enc_Joint a0.Joints)), (41, pz ((a0.Joints.length : Nat) : Int)), (42, pz x71.2)], [], [], 0⟩)
 (.exit 0) (fun (y74 : Int) => ⟨[(8, pz y74)], [], [], 0⟩)
 (fun x71 => .br (decide (x71.2 < ((a0.Joints.length : Nat) : Int)))
 (.grd (0 ≤ x71.2 ∧ x71.2 < ((a0.Joints.length : Nat) : Int)) <|
 .grd (0 ≤ x71.2 ∧ x71.2 < ((a2.length : Nat) : Int)) <|
 .grd (0 ≤ x71.2 ∧ x71.2 < ((a1.length : Nat) : Int)) <|
 .grd (0 ≤ x71.2 ∧ x71.2 < ((a1.length : Nat) : Int)) <|
 .grd (0 ≤ x71.2 ∧ x71.2 < ((a2.length : Nat) : Int)) <|
 .name 8021 ((max (IntKind.i64.wrap ((a2.getD ((x71.2).toNat) default) - (a1.getD ((x71.2).toNat) default))) (IntKind.i64.wrap ((a1.getD ((x71.2).toNat) default) - (a2.getD ((x71.2).toNat) default))))) fun z76 =>
 .ret (.next ((IntKind.i64.wrap (x71.1 + (IntKind.i64.wrap (((a0.Joints.getD ((x71.2).toNat) default).Weight) * z76)))), (IntKind.i64.wrap (x71.2 + 1)))))
 (.ret (.out x71.1)))
 (0, 0) [] fun y74 =>
 .ret y74)
noncomputable def config_Distance_C (a0 : S_Robot) (a1 : (List Int)) (a2 : (List Int)) : CallS Int :=
  mkC [] hd Tryz.func86 (by kernel_rfl) (config_Distance_T a0 a1 a2) 0 [.pure (enc_Robot a0), .pure (encL 1 encI_i64 a1), .pure (encL 1 encI_i64 a2)] [] (fun r => pz r) (fun _ => []) (by kernel_rfl)
noncomputable def roadmap_untested_T (a0 : S_Robot) (a1 : (List (List Int))) (a2 : Int) (a3 : Int) : T S_RoadmapEdge :=
 .grd (0 ≤ a2 ∧ a2 < ((a1.length : Nat) : Int)) <|
 .grd (0 ≤ a3 ∧ a3 < ((a1.length : Nat) : Int)) <|
 .call (config_Distance_C (⟨a0.Joints, a0.Masses⟩ : S_Robot) (a1.getD ((a2).toNat) default) (a1.getD ((a3).toNat) default)) [] fun y1 =>
 .ret (⟨a2, a3, y1, 0, (⟨0, nl, (⟨0, 0, nl⟩ : S_Piece), (⟨0, nl, nl⟩ : S_Witness)⟩ : S_EdgeResult)⟩ : S_RoadmapEdge)
noncomputable def roadmap_untested_C (a0 : S_Robot) (a1 : (List (List Int))) (a2 : Int) (a3 : Int) : CallS S_RoadmapEdge :=
  mkC [] hd Tryz.func54 (by kernel_rfl) (roadmap_untested_T a0 a1 a2 a3) 0 [.pure (enc_Robot a0), .pure (encL 1 (encL 1 encI_i64) a1), pz a2, pz a3] [] (fun r => .pure (enc_RoadmapEdge r)) (fun _ => []) (by kernel_rfl)
noncomputable def roadmap_New_T (a0 : S_Robot) (a1 : (List (List Int))) (a2 : Int) : T S_Roadmap :=
 .call (robot_Check_C (⟨a0.Joints, a0.Masses⟩ : S_Robot)) [] fun y58 =>
 .br (y58 != 0)
 (.ret (⟨nl, nl⟩ : S_Roadmap))
 (.call (roadmap_distinct_C (⟨a0.Joints, a0.Masses⟩ : S_Robot) a1) [] fun y60 =>
 .br (decide (a2 < 1))
 (.ret (⟨y60, nl⟩ : S_Roadmap))
 (.call (roadmap_nearPairs_C (⟨a0.Joints, a0.Masses⟩ : S_Robot) y60 a2) [] fun y62 =>
 .conv 8004 (cvSlice 2 enc_arr_2_int y62 (0 : Int) (min ((y62.length : Nat) : Int) 8192)) <|
 .grd (0 ≤ (0 : Int) ∧ (0 : Int) ≤ (min ((y62.length : Nat) : Int) 8192) ∧ (min ((y62.length : Nat) : Int) 8192) ≤ ((y62.length : Nat) : Int)) <|
 .name 8005 (((((y62.drop ((0 : Int).toNat)).take (((min ((y62.length : Nat) : Int) 8192)).toNat - (0 : Int).toNat)).length : Nat) : Int)) fun z87 =>
 .loop (fun (x95 : ((List S_RoadmapEdge) × Int)) => ⟨[(3, .ptr 0 0), (6, .ptr 1 0), (31, .pure (encL 2 enc_arr_2_int ((y62.drop ((0 : Int).toNat)).take (((min ((y62.length : Nat) : Int) 8192)).toNat - (0 : Int).toNat)))), (32, pz z87), (33, pz x95.2)], [(0, .box [.pure (encL 12 enc_Joint a0.Joints), .pure (encL 5 enc_Mass a0.Masses)]), (1, .box [.pure (encL 1 (encL 1 encI_i64) y60), .vec 2]), (2, vecO 12 enc_RoadmapEdge x95.1 57)], [.func 52 [] [.ptr 1 0]], 3⟩)
 (.exit 0) (fun (y102 : (List S_RoadmapEdge)) => ⟨[(6, .ptr 0 0)], [(0, .box [.pure (encL 1 (encL 1 encI_i64) y60), .vec 1]), (1, vecO 12 enc_RoadmapEdge y102 57)], [.func 52 [] [.ptr 0 0]], 2⟩)
 (fun x95 => .br (decide (x95.2 < z87))
 (.grd (0 ≤ x95.2 ∧ x95.2 < ((((y62.drop ((0 : Int).toNat)).take (((min ((y62.length : Nat) : Int) 8192)).toNat - (0 : Int).toNat)).length : Nat) : Int)) <|
 .ix 0 2 rfl <|
 .name 11006 ((((y62.drop ((0 : Int).toNat)).take (((min ((y62.length : Nat) : Int) 8192)).toNat - (0 : Int).toNat)).getD ((x95.2).toNat) default).1) fun z106 =>
 .ix 1 2 rfl <|
 .name 11008 ((((y62.drop ((0 : Int).toNat)).take (((min ((y62.length : Nat) : Int) 8192)).toNat - (0 : Int).toNat)).getD ((x95.2).toNat) default).2) fun z107 =>
 .call (roadmap_untested_C (⟨a0.Joints, a0.Masses⟩ : S_Robot) y60 z106 z107) [] fun y108 =>
 .conv 11010 (cvLit 12 enc_RoadmapEdge ([y108] : (List S_RoadmapEdge)) 57) <|
 .conv 11011 (cvApp 12 enc_RoadmapEdge x95.1 ([y108] : (List S_RoadmapEdge)) 57) <|
 .grd ((x95.1.length + ([y108] : (List S_RoadmapEdge)).length) * 160 ≤ 140737488355328 ∧ (x95.1.length + ([y108] : (List S_RoadmapEdge)).length) ≤ maxLen) <|
 .ret (.next ((x95.1 ++ ([y108] : (List S_RoadmapEdge))), (IntKind.i64.wrap (x95.2 + 1)))))
 (.ret (.out x95.1)))
 (nl, 0) [] fun y102 =>
 .ret (⟨y60, y102⟩ : S_Roadmap)))
noncomputable def roadmap_New_C (a0 : S_Robot) (a1 : (List (List Int))) (a2 : Int) : CallS S_Roadmap :=
  mkC [⟨52, guard52⟩] hd Tryz.func20 (by kernel_rfl) (roadmap_New_T a0 a1 a2) 0 [.pure (enc_Robot a0), .pure (encL 1 (encL 1 encI_i64) a1), pz a2] [] (fun r => .pure (enc_Roadmap r)) (fun _ => []) (by kernel_rfl)
noncomputable def slices_Clone_int64_int64_1_T (a0 : (List (List Int))) : T (List (List Int)) :=
  (match a0 with
   | [] => .unroll 1 <|
   .grd (a0.length = 0) <|
   .both
    (.ret nl)
    (.conv 3000 (cvLit 1 (encL 1 encI_i64) ([] : (List (List Int))) 40) <|
    .conv 3002 (cvApp 1 (encL 1 encI_i64) ([] : (List (List Int))) a0 40) <|
    .grd ((([] : (List (List Int))).length + a0.length) * 24 ≤ 140737488355328 ∧ (([] : (List (List Int))).length + a0.length) ≤ maxLen) <|
    .ret (([] : (List (List Int))) ++ a0))
   | _ :: _ => .grd (0 < a0.length) <|
   .conv 3000 (cvLit 1 (encL 1 encI_i64) ([] : (List (List Int))) 40) <|
   .conv 3002 (cvApp 1 (encL 1 encI_i64) ([] : (List (List Int))) a0 40) <|
   .grd ((([] : (List (List Int))).length + a0.length) * 24 ≤ 140737488355328 ∧ (([] : (List (List Int))).length + a0.length) ≤ maxLen) <|
   .ret (([] : (List (List Int))) ++ a0))
noncomputable def slices_Clone_int64_int64_1_C (a0 : (List (List Int))) : CallS (List (List Int)) :=
  mkH [] hd Tryz.func103 (by kernel_rfl) (slices_Clone_int64_int64_1_T a0) 0 [.pure (encL 1 (encL 1 encI_i64) a0)] [] (fun _ => .vec 0) (fun r => [(0, vecO 1 (encL 1 encI_i64) r 40)]) (by cases a0 <;> exact Ob.of_side (by kernel_rfl))
noncomputable def slices_Clone_api_RoadmapEdge_api_RoadmapEdge_T (a0 : (List S_RoadmapEdge)) : T (List S_RoadmapEdge) :=
  (match a0 with
   | [] => .unroll 1 <|
   .grd (a0.length = 0) <|
   .both
    (.ret nl)
    (.conv 3000 (cvLit 12 enc_RoadmapEdge ([] : (List S_RoadmapEdge)) 57) <|
    .conv 3002 (cvApp 12 enc_RoadmapEdge ([] : (List S_RoadmapEdge)) a0 57) <|
    .grd ((([] : (List S_RoadmapEdge)).length + a0.length) * 160 ≤ 140737488355328 ∧ (([] : (List S_RoadmapEdge)).length + a0.length) ≤ maxLen) <|
    .ret (([] : (List S_RoadmapEdge)) ++ a0))
   | _ :: _ => .grd (0 < a0.length) <|
   .conv 3000 (cvLit 12 enc_RoadmapEdge ([] : (List S_RoadmapEdge)) 57) <|
   .conv 3002 (cvApp 12 enc_RoadmapEdge ([] : (List S_RoadmapEdge)) a0 57) <|
   .grd ((([] : (List S_RoadmapEdge)).length + a0.length) * 160 ≤ 140737488355328 ∧ (([] : (List S_RoadmapEdge)).length + a0.length) ≤ maxLen) <|
   .ret (([] : (List S_RoadmapEdge)) ++ a0))
noncomputable def slices_Clone_api_RoadmapEdge_api_RoadmapEdge_C (a0 : (List S_RoadmapEdge)) : CallS (List S_RoadmapEdge) :=
  mkH [] hd Tryz.func104 (by kernel_rfl) (slices_Clone_api_RoadmapEdge_api_RoadmapEdge_T a0) 0 [.pure (encL 12 enc_RoadmapEdge a0)] [] (fun _ => .vec 0) (fun r => [(0, vecO 12 enc_RoadmapEdge r 57)]) (by cases a0 <;> exact Ob.of_side (by kernel_rfl))
noncomputable def slices_Clone_api_Piece_api_Piece_T (a0 : (List S_Piece)) : T (List S_Piece) :=
  (match a0 with
   | [] => .unroll 1 <|
   .grd (a0.length = 0) <|
   .both
    (.ret nl)
    (.conv 3000 (cvLit 3 enc_Piece ([] : (List S_Piece)) 51) <|
    .conv 3002 (cvApp 3 enc_Piece ([] : (List S_Piece)) a0 51) <|
    .grd ((([] : (List S_Piece)).length + a0.length) * 40 ≤ 140737488355328 ∧ (([] : (List S_Piece)).length + a0.length) ≤ maxLen) <|
    .ret (([] : (List S_Piece)) ++ a0))
   | _ :: _ => .grd (0 < a0.length) <|
   .conv 3000 (cvLit 3 enc_Piece ([] : (List S_Piece)) 51) <|
   .conv 3002 (cvApp 3 enc_Piece ([] : (List S_Piece)) a0 51) <|
   .grd ((([] : (List S_Piece)).length + a0.length) * 40 ≤ 140737488355328 ∧ (([] : (List S_Piece)).length + a0.length) ≤ maxLen) <|
   .ret (([] : (List S_Piece)) ++ a0))
noncomputable def slices_Clone_api_Piece_api_Piece_C (a0 : (List S_Piece)) : CallS (List S_Piece) :=
  mkH [] hd Tryz.func125 (by kernel_rfl) (slices_Clone_api_Piece_api_Piece_T a0) 0 [.pure (encL 3 enc_Piece a0)] [] (fun _ => .vec 0) (fun r => [(0, vecO 3 enc_Piece r 51)]) (by cases a0 <;> exact Ob.of_side (by kernel_rfl))
noncomputable def slices_Clone_api_Vec_api_Vec_T (a0 : (List (Int × Int × Int))) : T (List (Int × Int × Int)) :=
  (match a0 with
   | [] => .unroll 1 <|
   .grd (a0.length = 0) <|
   .both
    (.ret nl)
    (.conv 3000 (cvLit 3 enc_arr_3_int64 ([] : (List (Int × Int × Int))) 98) <|
    .conv 3002 (cvApp 3 enc_arr_3_int64 ([] : (List (Int × Int × Int))) a0 98) <|
    .grd ((([] : (List (Int × Int × Int))).length + a0.length) * 24 ≤ 140737488355328 ∧ (([] : (List (Int × Int × Int))).length + a0.length) ≤ maxLen) <|
    .ret (([] : (List (Int × Int × Int))) ++ a0))
   | _ :: _ => .grd (0 < a0.length) <|
   .conv 3000 (cvLit 3 enc_arr_3_int64 ([] : (List (Int × Int × Int))) 98) <|
   .conv 3002 (cvApp 3 enc_arr_3_int64 ([] : (List (Int × Int × Int))) a0 98) <|
   .grd ((([] : (List (Int × Int × Int))).length + a0.length) * 24 ≤ 140737488355328 ∧ (([] : (List (Int × Int × Int))).length + a0.length) ≤ maxLen) <|
   .ret (([] : (List (Int × Int × Int))) ++ a0))
noncomputable def slices_Clone_api_Vec_api_Vec_C (a0 : (List (Int × Int × Int))) : CallS (List (Int × Int × Int)) :=
  mkH [] hd Tryz.func126 (by kernel_rfl) (slices_Clone_api_Vec_api_Vec_T a0) 0 [.pure (encL 3 enc_arr_3_int64 a0)] [] (fun r => .pure (encL 3 enc_arr_3_int64 r)) (fun _ => []) (by cases a0 <;> exact Ob.of_side (by kernel_rfl))
noncomputable def roadmap_cloneResult_T (a0 : S_EdgeResult) : T S_EdgeResult :=
 .call (slices_Clone_api_Piece_api_Piece_C a0.Pieces) [] fun y2 =>
 .unroll 998 <|
 .loop (fun (x15 : ((List S_Piece) × Int)) => ⟨[(1, .ptr 0 0), (2, .ptr 2 0), (10, .vec 1), (11, pz ((y2.length : Nat) : Int)), (12, pz x15.2)], [(0, .box [pz a0.Kind, .vec 1, pz a0.At.Depth, pz a0.At.Index, .pure (encL 3 enc_arr_3_int64 a0.At.Normals), pz a0.Witness.Pair, .pure (encL 1 encI_i64 a0.Witness.Left), .pure (encL 1 encI_i64 a0.Witness.Right)]), (1, vecO 3 enc_Piece x15.1 51), (2, .box [pz 0, .vec 3, pz 0, pz 0, .vec 4, pz 0, .vec 5, .vec 6]), (3, .nilv), (4, .nilv), (5, .nilv), (6, .nilv)], [], 7⟩)
 (.exit 0) (fun (y18 : (List S_Piece)) => ⟨[(1, .ptr 0 0), (2, .ptr 2 0)], [(0, .box [pz a0.Kind, .vec 1, pz a0.At.Depth, pz a0.At.Index, .pure (encL 3 enc_arr_3_int64 a0.At.Normals), pz a0.Witness.Pair, .pure (encL 1 encI_i64 a0.Witness.Left), .pure (encL 1 encI_i64 a0.Witness.Right)]), (1, vecO 3 enc_Piece y18 51), (2, .box [pz 0, .vec 3, pz 0, pz 0, .vec 4, pz 0, .vec 5, .vec 6]), (3, .nilv), (4, .nilv), (5, .nilv), (6, .nilv)], [], 7⟩)
 (fun x15 => .br (decide (x15.2 < ((y2.length : Nat) : Int)))
 (.grd (0 ≤ x15.2 ∧ x15.2 < ((x15.1.length : Nat) : Int)) <|
 .grd ((x15.2).toNat < x15.1.length) <|
 .call (slices_Clone_api_Vec_api_Vec_C ((x15.1.getD ((x15.2).toNat) default).Normals)) [] fun y20 =>
 .grd (0 ≤ x15.2 ∧ x15.2 < ((x15.1.length : Nat) : Int)) <|
 .conv 5008 (cvSet 3 enc_Piece x15.1 51 ((x15.2).toNat) (⟨(x15.1.getD ((x15.2).toNat) default).Depth, (x15.1.getD ((x15.2).toNat) default).Index, y20⟩ : S_Piece)) <|
 .grd ((x15.2).toNat < x15.1.length ∧ 0 ≤ (x15.2).toNat) <|
 .ret (.next ((x15.1.set ((x15.2).toNat) (⟨(x15.1.getD ((x15.2).toNat) default).Depth, (x15.1.getD ((x15.2).toNat) default).Index, y20⟩ : S_Piece)), (IntKind.i64.wrap (x15.2 + 1)))))
 (.ret (.out x15.1)))
 (y2, 0) [] fun y18 =>
 .call (slices_Clone_api_Vec_api_Vec_C a0.At.Normals) [] fun y22 =>
 .call (slices_Clone_int64_int64_C a0.Witness.Left) [] fun y24 =>
 .call (slices_Clone_int64_int64_C a0.Witness.Right) [] fun y26 =>
 .ret (⟨a0.Kind, y18, (⟨a0.At.Depth, a0.At.Index, y22⟩ : S_Piece), (⟨a0.Witness.Pair, y24, y26⟩ : S_Witness)⟩ : S_EdgeResult)
noncomputable def roadmap_cloneResult_C (a0 : S_EdgeResult) : CallS S_EdgeResult :=
  mkC [] hd Tryz.func76 (by kernel_rfl) (roadmap_cloneResult_T a0) 0 [.pure (enc_EdgeResult a0)] [] (fun r => .pure (enc_EdgeResult r)) (fun _ => []) (by kernel_rfl)
noncomputable def roadmap_clone_T (a0 : S_Roadmap) : T ((List (List Int)) × (List S_RoadmapEdge)) :=
 .call (slices_Clone_int64_int64_1_C a0.Points) [] fun y3 =>
 .call (slices_Clone_api_RoadmapEdge_api_RoadmapEdge_C a0.Edges) [] fun y4 =>
 .loop (fun (x17 : ((List (List Int)) × Int)) => ⟨[(2, .ptr 0 0), (3, .vec 3), (4, .vec 4), (15, .vec 3), (16, pz ((y3.length : Nat) : Int)), (17, pz x17.2)], [(0, .box [.vec 1, .vec 2]), (1, .nilv), (2, .nilv), (3, vecO 1 (encL 1 encI_i64) x17.1 40), (4, vecO 12 enc_RoadmapEdge y4 57)], [], 5⟩)
 (.exit 0) (fun (y20 : (List (List Int))) => ⟨[(2, .ptr 0 0), (3, .vec 3), (4, .vec 4)], [(0, .box [.vec 1, .vec 2]), (1, .nilv), (2, .nilv), (3, vecO 1 (encL 1 encI_i64) y20 40), (4, vecO 12 enc_RoadmapEdge y4 57)], [], 5⟩)
 (fun x17 => .br (decide (x17.2 < ((y3.length : Nat) : Int)))
 (.grd (0 ≤ x17.2 ∧ x17.2 < ((x17.1.length : Nat) : Int)) <|
 .grd ((x17.2).toNat < x17.1.length) <|
 .call (slices_Clone_int64_int64_C (x17.1.getD ((x17.2).toNat) default)) [] fun y22 =>
 .grd (0 ≤ x17.2 ∧ x17.2 < ((x17.1.length : Nat) : Int)) <|
 .conv 5005 (cvSet 1 (encL 1 encI_i64) x17.1 40 ((x17.2).toNat) y22) <|
 .grd ((x17.2).toNat < x17.1.length ∧ 0 ≤ (x17.2).toNat) <|
 .ret (.next ((x17.1.set ((x17.2).toNat) y22), (IntKind.i64.wrap (x17.2 + 1)))))
 (.ret (.out x17.1)))
 (y3, 0) [] fun y20 =>
 .loop (fun (x35 : ((List S_RoadmapEdge) × Int)) => ⟨[(2, .ptr 0 0), (3, .vec 3), (4, .vec 4), (28, .vec 4), (29, pz ((y4.length : Nat) : Int)), (30, pz x35.2)], [(0, .box [.vec 1, .vec 2]), (1, .nilv), (2, .nilv), (3, vecO 1 (encL 1 encI_i64) y20 40), (4, vecO 12 enc_RoadmapEdge x35.1 57)], [], 5⟩)
 (.exit 2) (fun (y38 : (List S_RoadmapEdge)) => ⟨[(2, .ptr 0 0), (3, .vec 3), (4, .vec 4)], [(0, .box [.vec 1, .vec 2]), (1, .nilv), (2, .nilv), (3, vecO 1 (encL 1 encI_i64) y20 40), (4, vecO 12 enc_RoadmapEdge y38 57)], [], 5⟩)
 (fun x35 => .br (decide (x35.2 < ((y4.length : Nat) : Int)))
 (.grd (0 ≤ x35.2 ∧ x35.2 < ((x35.1.length : Nat) : Int)) <|
 .grd ((x35.2).toNat < x35.1.length) <|
 .call (roadmap_cloneResult_C ((x35.1.getD ((x35.2).toNat) default).Proof)) [] fun y40 =>
 .grd (0 ≤ x35.2 ∧ x35.2 < ((x35.1.length : Nat) : Int)) <|
 .conv 10007 (cvSet 12 enc_RoadmapEdge x35.1 57 ((x35.2).toNat) (⟨(x35.1.getD ((x35.2).toNat) default).U, (x35.1.getD ((x35.2).toNat) default).V, (x35.1.getD ((x35.2).toNat) default).Cost, (x35.1.getD ((x35.2).toNat) default).State, y40⟩ : S_RoadmapEdge)) <|
 .grd ((x35.2).toNat < x35.1.length ∧ 0 ≤ (x35.2).toNat) <|
 .ret (.next ((x35.1.set ((x35.2).toNat) (⟨(x35.1.getD ((x35.2).toNat) default).U, (x35.1.getD ((x35.2).toNat) default).V, (x35.1.getD ((x35.2).toNat) default).Cost, (x35.1.getD ((x35.2).toNat) default).State, y40⟩ : S_RoadmapEdge)), (IntKind.i64.wrap (x35.2 + 1)))))
 (.ret (.out x35.1)))
 (y4, 0) [] fun y38 =>
 .ret (y20, y38)
noncomputable def roadmap_clone_C (a0 : S_Roadmap) : CallS ((List (List Int)) × (List S_RoadmapEdge)) :=
  mkC [] hd Tryz.func65 (by kernel_rfl) (roadmap_clone_T a0) 0 [.pure (enc_Roadmap a0)] [] (fun _ => .agg [.vec 0, .vec 1]) (fun r => [(0, vecO 1 (encL 1 encI_i64) r.1 40), (1, vecO 12 enc_RoadmapEdge r.2 57)]) (by kernel_rfl)
noncomputable def roadmap_kind_T (a0 : Int) : T Int :=
 .br (a0 == 1)
 (.ret 1)
 (.br (a0 == 2)
 (.ret 2)
 (.ret 0))
noncomputable def roadmap_kind_C (a0 : Int) : CallS Int :=
  mkC [] hd Tryz.func75 (by kernel_rfl) (roadmap_kind_T a0) 0 [pz a0] [] (fun r => pz r) (fun _ => []) (by kernel_rfl)
set_option maxHeartbeats 8000000 in
set_option maxRecDepth 20000 in
noncomputable def roadmap_Mark_T (a0 : S_Roadmap) (a1 : Int) (a2 : S_EdgeResult) : T (S_Roadmap × Bool) :=
 .call (roadmap_clone_C (⟨a0.Points, a0.Edges⟩ : S_Roadmap)) [] fun y2 =>
 .cut 1 (fun (y4 : Bool) => ⟨[(1, pz a1), (3, .ptr 0 0), (5, .ptr 1 0), (6, .ptr 2 0), (7, .ptr 5 0), (22, .pure (.bool y4))], [(0, .box [.pure (encL 1 (encL 1 encI_i64) a0.Points), .pure (encL 12 enc_RoadmapEdge a0.Edges)]), (1, .box [pz a2.Kind, .pure (encL 3 enc_Piece a2.Pieces), pz a2.At.Depth, pz a2.At.Index, .pure (encL 3 enc_arr_3_int64 a2.At.Normals), pz a2.Witness.Pair, .pure (encL 1 encI_i64 a2.Witness.Left), .pure (encL 1 encI_i64 a2.Witness.Right)]), (2, .box [.vec 3, .vec 4]), (3, vecO 1 (encL 1 encI_i64) y2.1 40), (4, vecO 12 enc_RoadmapEdge y2.2 57), (5, .box [.ff])], [.func 74 [] [.ptr 2 0, .ptr 5 0]], 6⟩)
 (.br (decide (a1 < 0))
 (.ret (.out true))
 (.ret (.out (decide (a1 ≥ ((a0.Edges.length : Nat) : Int)))))) fun y4 =>
 .br y4
 (.ret ((⟨y2.1, y2.2⟩ : S_Roadmap), false))
 (.grd (0 ≤ a1 ∧ a1 < ((a0.Edges.length : Nat) : Int)) <|
 .cut 0 (fun (y6 : Bool) => ⟨[(1, pz a1), (5, .ptr 0 0), (6, .ptr 1 0), (7, .ptr 4 0), (35, .pure (.bool y6))], [(0, .box [pz a2.Kind, .pure (encL 3 enc_Piece a2.Pieces), pz a2.At.Depth, pz a2.At.Index, .pure (encL 3 enc_arr_3_int64 a2.At.Normals), pz a2.Witness.Pair, .pure (encL 1 encI_i64 a2.Witness.Left), .pure (encL 1 encI_i64 a2.Witness.Right)]), (1, .box [.vec 2, .vec 3]), (2, vecO 1 (encL 1 encI_i64) y2.1 40), (3, vecO 12 enc_RoadmapEdge y2.2 57), (4, .box [.ff])], [.func 74 [] [.ptr 1 0, .ptr 4 0]], 5⟩)
 (.br (((a0.Edges.getD ((a1).toNat) default).State) == 1)
 (.ret (.out true))
 (.ret (.out (((a0.Edges.getD ((a1).toNat) default).State) == 2)))) fun y6 =>
 .br y6
 (.ret ((⟨y2.1, y2.2⟩ : S_Roadmap), false))
 (.conv 8000 (cvLit 1 encI_i64 ([1, 2, 3] : (List Int)) 3) <|
 .loop (fun (x43 : Int) => ⟨[(1, pz a1), (5, .ptr 0 0), (6, .ptr 1 0), (7, .ptr 4 0), (37, .vec 5), (38, pz ((([1, 2, 3] : (List Int)).length : Nat) : Int)), (39, pz x43)], [(0, .box [pz a2.Kind, .pure (encL 3 enc_Piece a2.Pieces), pz a2.At.Depth, pz a2.At.Index, .pure (encL 3 enc_arr_3_int64 a2.At.Normals), pz a2.Witness.Pair, .pure (encL 1 encI_i64 a2.Witness.Left), .pure (encL 1 encI_i64 a2.Witness.Right)]), (1, .box [.vec 2, .vec 3]), (2, vecO 1 (encL 1 encI_i64) y2.1 40), (3, vecO 12 enc_RoadmapEdge y2.2 57), (4, .box [.ff]), (5, vecO 1 encI_i64 ([1, 2, 3] : (List Int)) 3)], [.func 74 [] [.ptr 1 0, .ptr 4 0]], 6⟩)
 (.exit 0) (fun (_ : U0) => ⟨[(6, .ptr 0 0), (7, .ptr 3 0)], [(0, .box [.vec 1, .vec 2]), (1, vecO 1 (encL 1 encI_i64) y2.1 40), (2, vecO 12 enc_RoadmapEdge y2.2 57), (3, .box [.ff])], [.func 74 [] [.ptr 0 0, .ptr 3 0]], 4⟩)
 (fun x43 => .br (decide (x43 < ((([1, 2, 3] : (List Int)).length : Nat) : Int)))
 (.grd (0 ≤ x43 ∧ x43 < ((([1, 2, 3] : (List Int)).length : Nat) : Int)) <|
 .grd ((x43).toNat < ([1, 2, 3] : (List Int)).length) <|
 .call (roadmap_kind_C (([1, 2, 3] : (List Int)).getD ((x43).toNat) default)) [] fun y58 =>
 .br (y58 == a2.Kind)
 (.grd (0 ≤ a1 ∧ a1 < ((y2.2.length : Nat) : Int)) <|
 .conv 12006 (cvSet 12 enc_RoadmapEdge y2.2 57 ((a1).toNat) (⟨(y2.2.getD ((a1).toNat) default).U, (y2.2.getD ((a1).toNat) default).V, (y2.2.getD ((a1).toNat) default).Cost, (([1, 2, 3] : (List Int)).getD ((x43).toNat) default), (y2.2.getD ((a1).toNat) default).Proof⟩ : S_RoadmapEdge)) <|
 .grd ((a1).toNat < y2.2.length ∧ 0 ≤ (a1).toNat) <|
 .call (roadmap_cloneResult_C a2) [] fun y60 =>
 .grd (0 ≤ a1 ∧ a1 < (((y2.2.set ((a1).toNat) (⟨(y2.2.getD ((a1).toNat) default).U, (y2.2.getD ((a1).toNat) default).V, (y2.2.getD ((a1).toNat) default).Cost, (([1, 2, 3] : (List Int)).getD ((x43).toNat) default), (y2.2.getD ((a1).toNat) default).Proof⟩ : S_RoadmapEdge)).length : Nat) : Int)) <|
 .conv 13007 (cvSet 12 enc_RoadmapEdge (y2.2.set ((a1).toNat) (⟨(y2.2.getD ((a1).toNat) default).U, (y2.2.getD ((a1).toNat) default).V, (y2.2.getD ((a1).toNat) default).Cost, (([1, 2, 3] : (List Int)).getD ((x43).toNat) default), (y2.2.getD ((a1).toNat) default).Proof⟩ : S_RoadmapEdge)) 57 ((a1).toNat) (⟨((y2.2.set ((a1).toNat) (⟨(y2.2.getD ((a1).toNat) default).U, (y2.2.getD ((a1).toNat) default).V, (y2.2.getD ((a1).toNat) default).Cost, (([1, 2, 3] : (List Int)).getD ((x43).toNat) default), (y2.2.getD ((a1).toNat) default).Proof⟩ : S_RoadmapEdge)).getD ((a1).toNat) default).U, ((y2.2.set ((a1).toNat) (⟨(y2.2.getD ((a1).toNat) default).U, (y2.2.getD ((a1).toNat) default).V, (y2.2.getD ((a1).toNat) default).Cost, (([1, 2, 3] : (List Int)).getD ((x43).toNat) default), (y2.2.getD ((a1).toNat) default).Proof⟩ : S_RoadmapEdge)).getD ((a1).toNat) default).V, ((y2.2.set ((a1).toNat) (⟨(y2.2.getD ((a1).toNat) default).U, (y2.2.getD ((a1).toNat) default).V, (y2.2.getD ((a1).toNat) default).Cost, (([1, 2, 3] : (List Int)).getD ((x43).toNat) default), (y2.2.getD ((a1).toNat) default).Proof⟩ : S_RoadmapEdge)).getD ((a1).toNat) default).Cost, ((y2.2.set ((a1).toNat) (⟨(y2.2.getD ((a1).toNat) default).U, (y2.2.getD ((a1).toNat) default).V, (y2.2.getD ((a1).toNat) default).Cost, (([1, 2, 3] : (List Int)).getD ((x43).toNat) default), (y2.2.getD ((a1).toNat) default).Proof⟩ : S_RoadmapEdge)).getD ((a1).toNat) default).State, y60⟩ : S_RoadmapEdge)) <|
 .grd ((a1).toNat < (y2.2.set ((a1).toNat) (⟨(y2.2.getD ((a1).toNat) default).U, (y2.2.getD ((a1).toNat) default).V, (y2.2.getD ((a1).toNat) default).Cost, (([1, 2, 3] : (List Int)).getD ((x43).toNat) default), (y2.2.getD ((a1).toNat) default).Proof⟩ : S_RoadmapEdge)).length ∧ 0 ≤ (a1).toNat) <|
 .ret (.fin ((⟨y2.1, ((y2.2.set ((a1).toNat) (⟨(y2.2.getD ((a1).toNat) default).U, (y2.2.getD ((a1).toNat) default).V, (y2.2.getD ((a1).toNat) default).Cost, (([1, 2, 3] : (List Int)).getD ((x43).toNat) default), (y2.2.getD ((a1).toNat) default).Proof⟩ : S_RoadmapEdge)).set ((a1).toNat) (⟨((y2.2.set ((a1).toNat) (⟨(y2.2.getD ((a1).toNat) default).U, (y2.2.getD ((a1).toNat) default).V, (y2.2.getD ((a1).toNat) default).Cost, (([1, 2, 3] : (List Int)).getD ((x43).toNat) default), (y2.2.getD ((a1).toNat) default).Proof⟩ : S_RoadmapEdge)).getD ((a1).toNat) default).U, ((y2.2.set ((a1).toNat) (⟨(y2.2.getD ((a1).toNat) default).U, (y2.2.getD ((a1).toNat) default).V, (y2.2.getD ((a1).toNat) default).Cost, (([1, 2, 3] : (List Int)).getD ((x43).toNat) default), (y2.2.getD ((a1).toNat) default).Proof⟩ : S_RoadmapEdge)).getD ((a1).toNat) default).V, ((y2.2.set ((a1).toNat) (⟨(y2.2.getD ((a1).toNat) default).U, (y2.2.getD ((a1).toNat) default).V, (y2.2.getD ((a1).toNat) default).Cost, (([1, 2, 3] : (List Int)).getD ((x43).toNat) default), (y2.2.getD ((a1).toNat) default).Proof⟩ : S_RoadmapEdge)).getD ((a1).toNat) default).Cost, ((y2.2.set ((a1).toNat) (⟨(y2.2.getD ((a1).toNat) default).U, (y2.2.getD ((a1).toNat) default).V, (y2.2.getD ((a1).toNat) default).Cost, (([1, 2, 3] : (List Int)).getD ((x43).toNat) default), (y2.2.getD ((a1).toNat) default).Proof⟩ : S_RoadmapEdge)).getD ((a1).toNat) default).State, y60⟩ : S_RoadmapEdge))⟩ : S_Roadmap), true)))
 (.ret (.next (IntKind.i64.wrap (x43 + 1)))))
 (.ret (.out .u)))
 0 [] fun _ =>
 .ret ((⟨y2.1, y2.2⟩ : S_Roadmap), false)))
noncomputable def roadmap_Mark_C (a0 : S_Roadmap) (a1 : Int) (a2 : S_EdgeResult) : CallS (S_Roadmap × Bool) :=
  mkC [⟨74, guard74⟩] hd Tryz.func30 (by kernel_rfl) (roadmap_Mark_T a0 a1 a2) 0 [.pure (enc_Roadmap a0), pz a1, .pure (enc_EdgeResult a2)] [] (fun r => .tup [.pure (enc_Roadmap r.1), .pure (.bool r.2)]) (fun _ => []) (by kernel_rfl)
noncomputable def roadmap_isEmpty_T (a0 : S_EdgeResult) : T Bool :=
 .br (a0.Kind == 0)
 (.br (((a0.Pieces.length : Nat) : Int) == 0)
 (.br (a0.At.Depth == 0)
 (.br (a0.At.Index == 0)
 (.br (((a0.At.Normals.length : Nat) : Int) == 0)
 (.br (a0.Witness.Pair == 0)
 (.br (((a0.Witness.Left.length : Nat) : Int) == 0)
 (.ret (((a0.Witness.Right.length : Nat) : Int) == 0))
 (.ret false))
 (.ret false))
 (.ret false))
 (.ret false))
 (.ret false))
 (.ret false))
 (.ret false)
noncomputable def roadmap_isEmpty_C (a0 : S_EdgeResult) : CallS Bool :=
  mkC [] hd Tryz.func87 (by kernel_rfl) (roadmap_isEmpty_T a0) 0 [.pure (enc_EdgeResult a0)] [] (fun r => .pure (.bool r)) (fun _ => []) (by kernel_rfl)
noncomputable def roadmap_validEdge_T (a0 : S_Robot) (a1 : S_Roadmap) (a2 : S_RoadmapEdge) : T Bool :=
 .cut 2 (fun (y12 : Bool) => ⟨[(5, .ptr 0 0), (36, .pure (.bool y12))], [(0, .box [pz a2.U, pz a2.V, pz a2.Cost, pz a2.State, pz a2.Proof.Kind, .pure (encL 3 enc_Piece a2.Proof.Pieces), pz a2.Proof.At.Depth, pz a2.Proof.At.Index, .pure (encL 3 enc_arr_3_int64 a2.Proof.At.Normals), pz a2.Proof.Witness.Pair, .pure (encL 1 encI_i64 a2.Proof.Witness.Left), .pure (encL 1 encI_i64 a2.Proof.Witness.Right)])], [], 1⟩)
 (.call (roadmap_hasEnds_C a1 a2) [] fun y13 =>
 .br (!y13)
 (.ret (.out true))
 (.br (decide (a2.U ≥ a2.V))
 (.ret (.out true))
 (.grd (0 ≤ a2.U ∧ a2.U < ((a1.Points.length : Nat) : Int)) <|
 .grd (0 ≤ a2.V ∧ a2.V < ((a1.Points.length : Nat) : Int)) <|
 .call (config_Distance_C a0 (a1.Points.getD ((a2.U).toNat) default) (a1.Points.getD ((a2.V).toNat) default)) [] fun y14 =>
 .ret (.out (a2.Cost != y14))))) fun y12 =>
 .br y12
 (.ret false)
 (.cut 1 (fun (y21 : Bool) => ⟨[(5, .ptr 0 0), (53, .pure (.bool y21))], [(0, .box [pz a2.U, pz a2.V, pz a2.Cost, pz a2.State, pz a2.Proof.Kind, .pure (encL 3 enc_Piece a2.Proof.Pieces), pz a2.Proof.At.Depth, pz a2.Proof.At.Index, .pure (encL 3 enc_arr_3_int64 a2.Proof.At.Normals), pz a2.Proof.Witness.Pair, .pure (encL 1 encI_i64 a2.Proof.Witness.Left), .pure (encL 1 encI_i64 a2.Proof.Witness.Right)])], [], 1⟩)
 (.br (decide (a2.State < 0))
 (.ret (.out true))
 (.br (decide (a2.State > 3))
 (.ret (.out true))
 (.call (roadmap_kind_C a2.State) [] fun y22 =>
 .ret (.out (a2.Proof.Kind != y22))))) fun y21 =>
 .br y21
 (.ret false)
 (.br (a2.State != 0)
 (.ret true)
 (.call (roadmap_isEmpty_C a2.Proof) [] fun y23 =>
 .ret y23)))
noncomputable def roadmap_validEdge_C (a0 : S_Robot) (a1 : S_Roadmap) (a2 : S_RoadmapEdge) : CallS Bool :=
  mkC [] hd Tryz.func42 (by kernel_rfl) (roadmap_validEdge_T a0 a1 a2) 0 [.pure (enc_Robot a0), .pure (enc_Roadmap a1), .pure (enc_RoadmapEdge a2)] [] (fun r => .pure (.bool r)) (fun _ => []) (by kernel_rfl)
noncomputable def roadmap_compare_T (a0 : S_RoadmapEdge) (a1 : S_RoadmapEdge) : T Int :=
 .call (cmp_Compare_int_C a0.U a1.U) [] fun y1 =>
 .call (cmp_Compare_int_C a0.V a1.V) [] fun y2 =>
 .conv 1010 (cvLit 1 encI_i64 ([y1, y2] : (List Int)) 3) <|
 .call (cmp_Or_int_C ([y1, y2] : (List Int))) [] fun y3 =>
 .ret y3
noncomputable def roadmap_compare_C (a0 : S_RoadmapEdge) (a1 : S_RoadmapEdge) : CallS Int :=
  mkC [] hd Tryz.func43 (by kernel_rfl) (roadmap_compare_T a0 a1) 0 [.pure (enc_RoadmapEdge a0), .pure (enc_RoadmapEdge a1)] [] (fun r => pz r) (fun _ => []) (by kernel_rfl)
noncomputable def roadmap_Valid_T (a0 : S_Robot) (a1 : S_Roadmap) : T Bool :=
 .cut 3 (fun (y7 : Bool) => ⟨[(2, .ptr 0 0), (3, .ptr 1 0), (4, .ptr 2 0), (22, .pure (.bool y7))], [(0, .box [.pure (encL 12 enc_Joint a0.Joints), .pure (encL 5 enc_Mass a0.Masses)]), (1, .box [.pure (encL 1 (encL 1 encI_i64) a1.Points), .pure (encL 12 enc_RoadmapEdge a1.Edges)]), (2, .box [.ff])], [.func 39 [] [.ptr 2 0]], 3⟩)
 (.call (robot_Check_C a0) [] fun y8 =>
 .br (y8 != 0)
 (.ret (.out true))
 (.br (decide (((a1.Points.length : Nat) : Int) > 1024))
 (.ret (.out true))
 (.ret (.out (decide (((a1.Edges.length : Nat) : Int) > 8192)))))) fun y7 =>
 .br y7
 (.ret false)
 (.call (roadmap_distinct_C a0 a1.Points) [] fun y12 =>
 .br (((y12.length : Nat) : Int) != ((a1.Points.length : Nat) : Int))
 (.ret false)
 (.loop (fun (x61 : Int) => ⟨[(2, .ptr 0 0), (3, .ptr 1 0), (4, .ptr 2 0), (33, .pure (encL 12 enc_RoadmapEdge a1.Edges)), (34, pz ((a1.Edges.length : Nat) : Int)), (35, pz x61)], [(0, .box [.pure (encL 12 enc_Joint a0.Joints), .pure (encL 5 enc_Mass a0.Masses)]), (1, .box [.pure (encL 1 (encL 1 encI_i64) a1.Points), .pure (encL 12 enc_RoadmapEdge a1.Edges)]), (2, .box [.ff])], [.func 39 [] [.ptr 2 0]], 3⟩)
 (.exit 0) (fun (_ : U0) => ⟨[(4, .ptr 0 0)], [(0, .box [.ff])], [.func 39 [] [.ptr 0 0]], 1⟩)
 (fun x61 => .br (decide (x61 < ((a1.Edges.length : Nat) : Int)))
 (.grd (0 ≤ x61 ∧ x61 < ((a1.Edges.length : Nat) : Int)) <|
 .cut 0 (fun (y88 : Bool) => ⟨[(2, .ptr 0 0), (3, .ptr 1 0), (4, .ptr 2 0), (33, .pure (encL 12 enc_RoadmapEdge a1.Edges)), (34, pz ((a1.Edges.length : Nat) : Int)), (35, pz x61), (59, .pure (.bool y88))], [(0, .box [.pure (encL 12 enc_Joint a0.Joints), .pure (encL 5 enc_Mass a0.Masses)]), (1, .box [.pure (encL 1 (encL 1 encI_i64) a1.Points), .pure (encL 12 enc_RoadmapEdge a1.Edges)]), (2, .box [.ff])], [.func 39 [] [.ptr 2 0]], 3⟩)
 (.call (roadmap_validEdge_C (⟨a0.Joints, a0.Masses⟩ : S_Robot) (⟨a1.Points, a1.Edges⟩ : S_Roadmap) (a1.Edges.getD ((x61).toNat) default)) [] fun y89 =>
 .br (!y89)
 (.ret (.out true))
 (.br (decide (x61 > 0))
 (.grd (0 ≤ (IntKind.i64.wrap (x61 - 1)) ∧ (IntKind.i64.wrap (x61 - 1)) < ((a1.Edges.length : Nat) : Int)) <|
 .call (roadmap_compare_C (a1.Edges.getD (((IntKind.i64.wrap (x61 - 1))).toNat) default) (a1.Edges.getD ((x61).toNat) default)) [] fun y90 =>
 .ret (.out (decide (y90 ≥ 0))))
 (.ret (.out false)))) fun y88 =>
 .br y88
 (.ret (.fin false))
 (.ret (.next (IntKind.i64.wrap (x61 + 1)))))
 (.ret (.out .u)))
 0 [] fun _ =>
 .ret true))
noncomputable def roadmap_Valid_C (a0 : S_Robot) (a1 : S_Roadmap) : CallS Bool :=
  mkC [⟨39, guard39⟩] hd Tryz.func15 (by kernel_rfl) (roadmap_Valid_T a0 a1) 0 [.pure (enc_Robot a0), .pure (enc_Roadmap a1)] [] (fun r => .pure (.bool r)) (fun _ => []) (by kernel_rfl)
noncomputable def make_Same_int_T (a0 : (List Int)) (a1 : (List Int)) : T Bool :=
 .br (((a0.length : Nat) : Int) != ((a1.length : Nat) : Int))
 (.ret false)
 (.loop (fun (x5 : Int) => ⟨[(0, .pure (encL 1 encI_i64 a0)), (1, .pure (encL 1 encI_i64 a1)), (5, pz x5)], [], [], 0⟩)
 (.exit 0) (fun (_ : U0) => ⟨[], [], [], 0⟩)
 (fun x5 => .br (decide (x5 < ((a0.length : Nat) : Int)))
 (.grd (0 ≤ x5 ∧ x5 < ((a0.length : Nat) : Int)) <|
 .grd (0 ≤ x5 ∧ x5 < ((a1.length : Nat) : Int)) <|
 .br ((a0.getD ((x5).toNat) default) != (a1.getD ((x5).toNat) default))
 (.ret (.fin false))
 (.ret (.next (IntKind.i64.wrap (x5 + 1)))))
 (.ret (.out .u)))
 0 [] fun _ =>
 .ret true)
noncomputable def make_Same_int_C (a0 : (List Int)) (a1 : (List Int)) : CallS Bool :=
  mkC [] hd Tryz.func34 (by kernel_rfl) (make_Same_int_T a0 a1) 0 [.pure (encL 1 encI_i64 a0), .pure (encL 1 encI_i64 a1)] [] (fun r => .pure (.bool r)) (fun _ => []) (by kernel_rfl)
noncomputable def roadmap_Incident_T (a0 : S_Roadmap) (a1 : Int) : T (List Int) :=
 .loop (fun (x57 : ((List Int) × Int)) => ⟨[(1, pz a1), (2, .ptr 0 0), (4, .ptr 1 0), (9, .pure (encL 12 enc_RoadmapEdge a0.Edges)), (10, pz ((a0.Edges.length : Nat) : Int)), (11, pz x57.2)], [(0, .box [.pure (encL 1 (encL 1 encI_i64) a0.Points), .pure (encL 12 enc_RoadmapEdge a0.Edges)]), (1, .box [.vec 2]), (2, vecO 1 encI_i64 x57.1 3)], [.func 79 [] [.ptr 1 0]], 3⟩)
 (.exit 0) (fun (y71 : (List Int)) => ⟨[(4, .ptr 0 0)], [(0, .box [.vec 1]), (1, vecO 1 encI_i64 y71 3)], [.func 79 [] [.ptr 0 0]], 2⟩)
 (fun x57 => .br (decide (x57.2 < ((a0.Edges.length : Nat) : Int)))
 (.cut 0 (fun (y80 : (List Int)) => ⟨[(1, pz a1), (2, .ptr 0 0), (4, .ptr 1 0), (9, .pure (encL 12 enc_RoadmapEdge a0.Edges)), (10, pz ((a0.Edges.length : Nat) : Int)), (11, pz x57.2)], [(0, .box [.pure (encL 1 (encL 1 encI_i64) a0.Points), .pure (encL 12 enc_RoadmapEdge a0.Edges)]), (1, .box [.vec 2]), (2, vecO 1 encI_i64 y80 3)], [.func 79 [] [.ptr 1 0]], 3⟩)
 (.grd (0 ≤ x57.2 ∧ x57.2 < ((a0.Edges.length : Nat) : Int)) <|
 .cut 0 (fun (y83 : Bool) => ⟨[(1, pz a1), (2, .ptr 0 0), (4, .ptr 1 0), (5, pz x57.2), (9, .pure (encL 12 enc_RoadmapEdge a0.Edges)), (10, pz ((a0.Edges.length : Nat) : Int)), (11, pz x57.2), (30, .pure (.bool y83))], [(0, .box [.pure (encL 1 (encL 1 encI_i64) a0.Points), .pure (encL 12 enc_RoadmapEdge a0.Edges)]), (1, .box [.vec 2]), (2, vecO 1 encI_i64 x57.1 3)], [.func 79 [] [.ptr 1 0]], 3⟩)
 (.call (roadmap_hasEnds_C a0 (a0.Edges.getD ((x57.2).toNat) default)) [] fun y84 =>
 .br y84
 (.br (((a0.Edges.getD ((x57.2).toNat) default).U) == a1)
 (.ret (.out true))
 (.ret (.out (((a0.Edges.getD ((x57.2).toNat) default).V) == a1))))
 (.ret (.out false))) fun y83 =>
 .br y83
 (.conv 6002 (cvLit 1 encI_i64 ([x57.2] : (List Int)) 3) <|
 .conv 6003 (cvApp 1 encI_i64 x57.1 ([x57.2] : (List Int)) 3) <|
 .grd ((x57.1.length + ([x57.2] : (List Int)).length) * 8 ≤ 140737488355328 ∧ (x57.1.length + ([x57.2] : (List Int)).length) ≤ maxLen) <|
 .ret (.out (x57.1 ++ ([x57.2] : (List Int)))))
 (.ret (.out x57.1))) fun y80 =>
 .ret (.next (y80, (IntKind.i64.wrap (x57.2 + 1)))))
 (.ret (.out x57.1)))
 (nl, 0) [] fun y71 =>
 .ret y71
noncomputable def roadmap_Incident_C (a0 : S_Roadmap) (a1 : Int) : CallS (List Int) :=
  mkC [⟨79, guard79⟩] hd Tryz.func35 (by kernel_rfl) (roadmap_Incident_T a0 a1) 0 [.pure (enc_Roadmap a0), pz a1] [] (fun r => .pure (encL 1 encI_i64 r)) (fun _ => []) (by kernel_rfl)
noncomputable def law25_awake_T : T Bool :=
 .call (make_Slider_C 1 9) [] fun y2 =>
 .conv 2001 (cvLit 1 encI_i64 ([0] : (List Int)) 2) <|
 .conv 2002 (cvLit 1 encI_i64 ([5] : (List Int)) 2) <|
 .conv 2003 (cvLit 1 encI_i64 ([9] : (List Int)) 2) <|
 .conv 2004 (cvLit 1 (encL 1 encI_i64) ([([0] : (List Int)), ([5] : (List Int)), ([9] : (List Int))] : (List (List Int))) 40) <|
 .call (roadmap_New_C (⟨y2.Joints, y2.Masses⟩ : S_Robot) ([([0] : (List Int)), ([5] : (List Int)), ([9] : (List Int))] : (List (List Int))) 1) [] fun y4 =>
 .cut 1 (fun (y6 : Bool) => ⟨[(1, .ptr 0 0), (2, .ptr 1 0), (22, .pure (.bool y6))], [(0, .box [.pure (encL 12 enc_Joint y2.Joints), .pure (encL 5 enc_Mass y2.Masses)]), (1, .box [.pure (encL 1 (encL 1 encI_i64) y4.Points), .pure (encL 12 enc_RoadmapEdge y4.Edges)])], [], 2⟩)
 (.br (((y4.Edges.length : Nat) : Int) != 2)
 (.ret (.out true))
 (.ret (.out (((y4.Points.length : Nat) : Int) != 3)))) fun y6 =>
 .br y6
 (.ret false)
 (.call (make_Claim_C 1) [] fun y9 =>
 .call (roadmap_Mark_C (⟨y4.Points, y4.Edges⟩ : S_Roadmap) 1 y9) [] fun y10 =>
 .call (roadmap_Components_C y10.1 0) [] fun y12 =>
 .br y10.2
 (.call (roadmap_Valid_C (⟨y2.Joints, y2.Masses⟩ : S_Robot) y10.1) [] fun y13 =>
 .br y13
 (.conv 7008 (cvLit 1 encI_i64 ([0, 1, 1] : (List Int)) 3) <|
 .call (make_Same_int_C y12 ([0, 1, 1] : (List Int))) [] fun y14 =>
 .br y14
 (.call (roadmap_Incident_C y10.1 1) [] fun y15 =>
 .conv 7014 (cvLit 1 encI_i64 ([0, 1] : (List Int)) 3) <|
 .call (make_Same_int_C y15 ([0, 1] : (List Int))) [] fun y16 =>
 .ret y16)
 (.ret false))
 (.ret false))
 (.ret false))
noncomputable def law25_awake_C : CallS Bool :=
  mkC [] hd Tryz.func11 (by kernel_rfl) (law25_awake_T) 0 [] [] (fun r => .pure (.bool r)) (fun _ => []) (by kernel_rfl)
noncomputable def Source_Signed_T (a0 : (List Int)) (a1 : Int) (a2 : Int) : T (Int × (List Int) × Int) :=
 .call (Source_Next_C a0 a1 (IntKind.i64.wrap ((IntKind.i64.wrap (2 * a2)) + 1))) [(0, 0)] fun y2 =>
 .ret ((IntKind.i64.wrap (y2.1 - a2)), y2.2.1, y2.2.2)
noncomputable def Source_Signed_C (a0 : (List Int)) (a1 : Int) (a2 : Int) : CallS (Int × (List Int) × Int) :=
  mkC [] hd Tryz.func81 (by kernel_rfl) (Source_Signed_T a0 a1 a2) 1 [.ptr 0 0, pz a2] [(0, .box [.pure (encL 1 encI_i64 a0), pz a1])] (fun r => pz r.1) (fun r => [(0, .box [.pure (encL 1 encI_i64 r.2.1), pz r.2.2])]) (by kernel_rfl)
noncomputable def make_joint_T (a0 : (List Int)) (a1 : Int) (a2 : Int) : T (S_Joint × (List Int) × Int) :=
 .call (make_letter_C a2) [] fun y45 =>
 .call (Source_Next_C a0 a1 4) [(0, 0)] fun y46 =>
 .call (Source_Next_C y46.2.1 y46.2.2 3) [(0, 0)] fun y47 =>
 .call (Source_Next_C y47.2.1 y47.2.2 8) [(0, 0)] fun y49 =>
 .grd (0 ≤ y49.1 ∧ y49.1 < ((8 : Nat) : Int)) <|
 .cut 0 (fun (y54 : ((List Int) × Int × Int)) => ⟨[(0, .ptr 0 0), (1, pz a2), (4, .ptr 1 0), (5, .ptr 2 0)], [(0, .box [.pure (encL 1 encI_i64 y54.1), pz y54.2.1]), (1, .box [.pure (.str (⟨#[]⟩ : ByteArray)), pz 0, pz 0, pz 0, pz 0, pz 0, pz 0, pz 0, pz 0, pz 0, pz 0, pz 0]), (2, .box [.pure (.str y45), pz (([3, 3, 1, 2, 4, 5, 3, 0] : List Int).getD (y49.1).toNat 0), pz y54.2.2, pz 0, pz 0, pz 0, pz 0, pz 0, pz (IntKind.i64.wrap (1 + y46.1)), pz 65536, pz (IntKind.i64.wrap (65536 + y47.1)), pz 327680])], [], 3⟩)
 (.call (Source_Next_C y49.2.1 y49.2.2 4) [(0, 0)] fun y56 =>
 .br (y56.1 == 1)
 (.ret (.out (y56.2.1, y56.2.2, (-1))))
 (.ret (.out (y56.2.1, y56.2.2, (IntKind.i64.wrap (a2 - 1)))))) fun y54 =>
 .cut 0 (fun (y61 : ((List Int) × Int × Int × Int × Int)) => ⟨[(0, .ptr 0 0), (4, .ptr 1 0), (5, .ptr 2 0)], [(0, .box [.pure (encL 1 encI_i64 y61.1), pz y61.2.1]), (1, .box [.pure (.str (⟨#[]⟩ : ByteArray)), pz 0, pz 0, pz 0, pz 0, pz 0, pz 0, pz 0, pz 0, pz 0, pz 0, pz 0]), (2, .box [.pure (.str y45), pz (([3, 3, 1, 2, 4, 5, 3, 0] : List Int).getD (y49.1).toNat 0), pz y54.2.2, pz y61.2.2.1, pz y61.2.2.2.1, pz y61.2.2.2.2, pz 0, pz 0, pz (IntKind.i64.wrap (1 + y46.1)), pz 65536, pz (IntKind.i64.wrap (65536 + y47.1)), pz 327680])], [], 3⟩)
 (.br (decide (a2 > 0))
 (.call (Source_Signed_C y54.1 y54.2.1 2) [(0, 0)] fun y62 =>
 .call (Source_Signed_C y62.2.1 y62.2.2 1) [(0, 0)] fun y63 =>
 .ret (.out (y63.2.1, y63.2.2, 131072, (IntKind.i64.wrap (y62.1 * 32768)), (IntKind.i64.wrap (y63.1 * 32768)))))
 (.ret (.out (y54.1, y54.2.1, 0, 0, 0)))) fun y61 =>
 .cut 0 (fun (y76 : ((List Int) × Int × Int × Int)) => ⟨[(4, .ptr 1 0), (5, .ptr 2 0)], [(0, .box [.pure (encL 1 encI_i64 y76.1), pz y76.2.1]), (1, .box [.pure (.str (⟨#[]⟩ : ByteArray)), pz 0, pz 0, pz 0, pz 0, pz 0, pz 0, pz 0, pz 0, pz 0, pz 0, pz 0]), (2, .box [.pure (.str y45), pz (([3, 3, 1, 2, 4, 5, 3, 0] : List Int).getD (y49.1).toNat 0), pz y54.2.2, pz y61.2.2.1, pz y61.2.2.2.1, pz y61.2.2.2.2, pz y76.2.2.1, pz y76.2.2.2, pz (IntKind.i64.wrap (1 + y46.1)), pz 65536, pz (IntKind.i64.wrap (65536 + y47.1)), pz 327680])], [], 3⟩)
 (.br ((([3, 3, 1, 2, 4, 5, 3, 0] : List Int).getD (y49.1).toNat 0) == 0)
 (.ret (.out (y61.1, y61.2.1, 0, 0)))
 (.cut 0 (fun (y77 : Bool) => ⟨[(0, .ptr 0 0), (4, .ptr 1 0), (5, .ptr 2 0), (55, .pure (.bool y77))], [(0, .box [.pure (encL 1 encI_i64 y61.1), pz y61.2.1]), (1, .box [.pure (.str (⟨#[]⟩ : ByteArray)), pz 0, pz 0, pz 0, pz 0, pz 0, pz 0, pz 0, pz 0, pz 0, pz 0, pz 0]), (2, .box [.pure (.str y45), pz (([3, 3, 1, 2, 4, 5, 3, 0] : List Int).getD (y49.1).toNat 0), pz y54.2.2, pz y61.2.2.1, pz y61.2.2.2.1, pz y61.2.2.2.2, pz 0, pz 0, pz (IntKind.i64.wrap (1 + y46.1)), pz 65536, pz (IntKind.i64.wrap (65536 + y47.1)), pz 327680])], [], 3⟩)
 (.br ((([3, 3, 1, 2, 4, 5, 3, 0] : List Int).getD (y49.1).toNat 0) == 4)
 (.ret (.out ((([3, 3, 1, 2, 4, 5, 3, 0] : List Int).getD (y49.1).toNat 0) == 4)))
 (.ret (.out ((([3, 3, 1, 2, 4, 5, 3, 0] : List Int).getD (y49.1).toNat 0) == 5)))) fun y77 =>
 .br y77
 (.call (Source_Next_C y61.1 y61.2.1 3) [(0, 0)] fun y78 =>
 .call (Source_Next_C y78.2.1 y78.2.2 4) [(0, 0)] fun y79 =>
 .ret (.out (y79.2.1, y79.2.2, (IntKind.i64.wrap ((IntKind.i64.wrap (0 - y78.1)) * 65536)), (IntKind.i64.wrap (y79.1 * 32768)))))
 (.call (Source_Next_C y61.1 y61.2.1 5) [(0, 0)] fun y80 =>
 .ok ((8 : Int) ≠ 0) (by decide) <|
 .call (Source_Next_C y80.2.1 y80.2.2 4) [(0, 0)] fun y81 =>
 .ok ((8 : Int) ≠ 0) (by decide) <|
 .call (Source_Next_C y81.2.1 y81.2.2 3) [(0, 0)] fun y82 =>
 .ret (.out (y82.2.1, y82.2.2, (IntKind.i64.wrap ((IntKind.i64.wrap ((IntKind.i64.wrap (0 - y80.1)) * 65536)).tdiv 8)), (IntKind.i64.wrap ((IntKind.i64.wrap ((IntKind.i64.wrap ((IntKind.i64.wrap (1 + y81.1)) * 65536)).tdiv 8)) + y82.1))))))) fun y76 =>
 .ret ((⟨y45, (([3, 3, 1, 2, 4, 5, 3, 0] : List Int).getD (y49.1).toNat 0), y54.2.2, (y61.2.2.1, y61.2.2.2.1, y61.2.2.2.2), y76.2.2.1, y76.2.2.2, (IntKind.i64.wrap (1 + y46.1)), 65536, (IntKind.i64.wrap (65536 + y47.1)), 327680⟩ : S_Joint), y76.1, y76.2.1)
noncomputable def make_joint_C (a0 : (List Int)) (a1 : Int) (a2 : Int) : CallS (S_Joint × (List Int) × Int) :=
  mkC [] hd Tryz.func80 (by kernel_rfl) (make_joint_T a0 a1 a2) 1 [.ptr 0 0, pz a2] [(0, .box [.pure (encL 1 encI_i64 a0), pz a1])] (fun r => .pure (enc_Joint r.1)) (fun r => [(0, .box [.pure (encL 1 encI_i64 r.2.1), pz r.2.2])]) (by kernel_rfl)
noncomputable def make_robot_T (a0 : (List Int)) (a1 : Int) : T (S_Robot × (List Int) × Int) :=
 .call (Source_Next_C a0 a1 3) [(0, 0)] fun y80 =>
 .loop (fun (x93 : ((List Int) × Int × (List S_Joint) × Int)) => ⟨[(0, .ptr 0 0), (2, .ptr 1 0), (3, .ptr 4 0), (4, pz (IntKind.i64.wrap (1 + y80.1))), (5, pz x93.2.2.2)], [(0, .box [.pure (encL 1 encI_i64 x93.1), pz x93.2.1]), (1, .box [.vec 2, .vec 3]), (2, .nilv), (3, .nilv), (4, .box [.vec 5, .vec 6]), (5, vecO 12 enc_Joint x93.2.2.1 100), (6, .nilv)], [], 7⟩)
 (.exit 0) (fun (y96 : ((List Int) × Int × (List S_Joint))) => ⟨[(0, .ptr 0 0), (2, .ptr 1 0), (3, .ptr 4 0), (4, pz (IntKind.i64.wrap (1 + y80.1)))], [(0, .box [.pure (encL 1 encI_i64 y96.1), pz y96.2.1]), (1, .box [.vec 2, .vec 3]), (2, .nilv), (3, .nilv), (4, .box [.vec 5, .vec 6]), (5, vecO 12 enc_Joint y96.2.2 100), (6, .nilv)], [], 7⟩)
 (fun x93 => .br (decide (x93.2.2.2 < (IntKind.i64.wrap (1 + y80.1))))
 (.call (make_joint_C x93.1 x93.2.1 x93.2.2.2) [(0, 0)] fun y98 =>
 .conv 6005 (cvLit 12 enc_Joint ([y98.1] : (List S_Joint)) 100) <|
 .conv 6006 (cvApp 12 enc_Joint x93.2.2.1 ([y98.1] : (List S_Joint)) 100) <|
 .grd ((x93.2.2.1.length + ([y98.1] : (List S_Joint)).length) * 104 ≤ 140737488355328 ∧ (x93.2.2.1.length + ([y98.1] : (List S_Joint)).length) ≤ maxLen) <|
 .ret (.next (y98.2.1, y98.2.2, (x93.2.2.1 ++ ([y98.1] : (List S_Joint))), (IntKind.i64.wrap (x93.2.2.2 + 1)))))
 (.ret (.out (x93.1, x93.2.1, x93.2.2.1))))
 (y80.2.1, y80.2.2, nl, 0) [] fun y96 =>
 .call (Source_Next_C y96.1 y96.2.1 3) [(0, 0)] fun y129 =>
 .loop (fun (x139 : ((List Int) × Int × (List S_Mass) × Int)) => ⟨[(0, .ptr 0 0), (2, .ptr 1 0), (3, .ptr 4 0), (4, pz (IntKind.i64.wrap (1 + y80.1))), (6, pz x139.2.2.2)], [(0, .box [.pure (encL 1 encI_i64 x139.1), pz x139.2.1]), (1, .box [.vec 2, .vec 3]), (2, .nilv), (3, .nilv), (4, .box [.vec 5, .vec 6]), (5, vecO 12 enc_Joint y96.2.2 100), (6, vecO 5 enc_Mass x139.2.2.1 115)], [], 7⟩)
 (.exit 2) (fun (y148 : ((List Int) × Int × (List S_Mass))) => ⟨[(2, .ptr 1 0), (3, .ptr 4 0)], [(0, .box [.pure (encL 1 encI_i64 y148.1), pz y148.2.1]), (1, .box [.vec 2, .vec 3]), (2, .nilv), (3, .nilv), (4, .box [.vec 5, .vec 6]), (5, vecO 12 enc_Joint y96.2.2 100), (6, vecO 5 enc_Mass y148.2.2 115)], [], 7⟩)
 (fun x139 => .br (decide (x139.2.2.2 > 0))
 (.call (Source_Next_C x139.1 x139.2.1 (IntKind.i64.wrap (1 + y80.1))) [(0, 0)] fun y153 =>
 .call (Source_Next_C y153.2.1 y153.2.2 9000) [(0, 0)] fun y154 =>
 .call (Source_Signed_C y154.2.1 y154.2.2 3) [(0, 0)] fun y155 =>
 .call (Source_Signed_C y155.2.1 y155.2.2 2) [(0, 0)] fun y156 =>
 .conv 10016 (cvLit 5 enc_Mass ([(⟨y153.1, (IntKind.i64.wrap (1 + y154.1)), ((IntKind.i64.wrap (y155.1 * 32768)), 0, (IntKind.i64.wrap (y156.1 * 32768)))⟩ : S_Mass)] : (List S_Mass)) 115) <|
 .conv 10017 (cvApp 5 enc_Mass x139.2.2.1 ([(⟨y153.1, (IntKind.i64.wrap (1 + y154.1)), ((IntKind.i64.wrap (y155.1 * 32768)), 0, (IntKind.i64.wrap (y156.1 * 32768)))⟩ : S_Mass)] : (List S_Mass)) 115) <|
 .grd ((x139.2.2.1.length + ([(⟨y153.1, (IntKind.i64.wrap (1 + y154.1)), ((IntKind.i64.wrap (y155.1 * 32768)), 0, (IntKind.i64.wrap (y156.1 * 32768)))⟩ : S_Mass)] : (List S_Mass)).length) * 40 ≤ 140737488355328 ∧ (x139.2.2.1.length + ([(⟨y153.1, (IntKind.i64.wrap (1 + y154.1)), ((IntKind.i64.wrap (y155.1 * 32768)), 0, (IntKind.i64.wrap (y156.1 * 32768)))⟩ : S_Mass)] : (List S_Mass)).length) ≤ maxLen) <|
 .ret (.next (y156.2.1, y156.2.2, (x139.2.2.1 ++ ([(⟨y153.1, (IntKind.i64.wrap (1 + y154.1)), ((IntKind.i64.wrap (y155.1 * 32768)), 0, (IntKind.i64.wrap (y156.1 * 32768)))⟩ : S_Mass)] : (List S_Mass))), (IntKind.i64.wrap (x139.2.2.2 - 1)))))
 (.ret (.out (x139.1, x139.2.1, x139.2.2.1))))
 (y129.2.1, y129.2.2, nl, y129.1) [] fun y148 =>
 .ret ((⟨y96.2.2, y148.2.2⟩ : S_Robot), y148.1, y148.2.1)
noncomputable def make_robot_C (a0 : (List Int)) (a1 : Int) : CallS (S_Robot × (List Int) × Int) :=
  mkC [] hd Tryz.func36 (by kernel_rfl) (make_robot_T a0 a1) 1 [.ptr 0 0] [(0, .box [.pure (encL 1 encI_i64 a0), pz a1])] (fun r => .pure (enc_Robot r.1)) (fun r => [(0, .box [.pure (encL 1 encI_i64 r.2.1), pz r.2.2])]) (by kernel_rfl)
noncomputable def make_Robot_T (a0 : (List Int)) : T S_Robot :=
 .call (make_From_C a0) [] fun y1 =>
 .call (make_robot_C y1.1 y1.2) [(0, 128)] fun y2 =>
 .ret y2.1
noncomputable def make_Robot_C (a0 : (List Int)) : CallS S_Robot :=
  mkC [] hd Tryz.func12 (by kernel_rfl) (make_Robot_T a0) 0 [.pure (encL 1 encI_i64 a0)] [] (fun r => .pure (enc_Robot r)) (fun _ => []) (by kernel_rfl)
noncomputable def make_Config_T (a0 : S_Robot) (a1 : (List Int)) : T (List Int) :=
 .call (make_From_C a1) [] fun y103 =>
 .loop (fun (x172 : ((List Int) × Int × (List Int) × Int)) => ⟨[(2, .ptr 0 0), (5, .ptr 1 0), (6, .vec 2), (7, pz x172.2.2.2)], [(0, .box [.pure (encL 12 enc_Joint a0.Joints), .pure (encL 5 enc_Mass a0.Masses)]), (1, .box [.pure (encL 1 encI_i64 x172.1), pz x172.2.1]), (2, vecO 1 encI_i64 x172.2.2.1 2)], [], 3⟩)
 (.exit 0) (fun (y189 : (List Int)) => ⟨[(6, .vec 0)], [(0, vecO 1 encI_i64 y189 2)], [], 1⟩)
 (fun x172 => .br (decide (x172.2.2.2 < ((a0.Joints.length : Nat) : Int)))
 (.cut 0 (fun (y200 : ((List Int) × Int × (List Int))) => ⟨[(2, .ptr 0 0), (5, .ptr 1 0), (6, .vec 2), (7, pz x172.2.2.2)], [(0, .box [.pure (encL 12 enc_Joint a0.Joints), .pure (encL 5 enc_Mass a0.Masses)]), (1, .box [.pure (encL 1 encI_i64 y200.1), pz y200.2.1]), (2, vecO 1 encI_i64 y200.2.2 2)], [], 3⟩)
 (.grd (0 ≤ x172.2.2.2 ∧ x172.2.2.2 < ((a0.Joints.length : Nat) : Int)) <|
 .grd (0 ≤ x172.2.2.2 ∧ x172.2.2.2 < ((a0.Joints.length : Nat) : Int)) <|
 .call (Source_Next_C x172.1 x172.2.1 6) [(0, 1)] fun y202 =>
 .br (y202.1 == 0)
 (.conv 10002 (cvLit 1 encI_i64 ([(a0.Joints.getD ((x172.2.2.2).toNat) default).Lo] : (List Int)) 2) <|
 .conv 10003 (cvApp 1 encI_i64 x172.2.2.1 ([(a0.Joints.getD ((x172.2.2.2).toNat) default).Lo] : (List Int)) 2) <|
 .grd ((x172.2.2.1.length + ([(a0.Joints.getD ((x172.2.2.2).toNat) default).Lo] : (List Int)).length) * 8 ≤ 140737488355328 ∧ (x172.2.2.1.length + ([(a0.Joints.getD ((x172.2.2.2).toNat) default).Lo] : (List Int)).length) ≤ maxLen) <|
 .ret (.out (y202.2.1, y202.2.2, (x172.2.2.1 ++ ([(a0.Joints.getD ((x172.2.2.2).toNat) default).Lo] : (List Int))))))
 (.br (y202.1 == 1)
 (.conv 12002 (cvLit 1 encI_i64 ([(a0.Joints.getD ((x172.2.2.2).toNat) default).Hi] : (List Int)) 2) <|
 .conv 12003 (cvApp 1 encI_i64 x172.2.2.1 ([(a0.Joints.getD ((x172.2.2.2).toNat) default).Hi] : (List Int)) 2) <|
 .grd ((x172.2.2.1.length + ([(a0.Joints.getD ((x172.2.2.2).toNat) default).Hi] : (List Int)).length) * 8 ≤ 140737488355328 ∧ (x172.2.2.1.length + ([(a0.Joints.getD ((x172.2.2.2).toNat) default).Hi] : (List Int)).length) ≤ maxLen) <|
 .ret (.out (y202.2.1, y202.2.2, (x172.2.2.1 ++ ([(a0.Joints.getD ((x172.2.2.2).toNat) default).Hi] : (List Int))))))
 (.name 8005 ((IntKind.i64.wrap (((a0.Joints.getD ((x172.2.2.2).toNat) default).Hi) - ((a0.Joints.getD ((x172.2.2.2).toNat) default).Lo)))) fun z203 =>
 .name 8006 ((IntKind.i64.wrap (z203 + 1))) fun z204 =>
 .call (Source_Next_C y202.2.1 y202.2.2 z204) [(0, 1)] fun y205 =>
 .conv 8009 (cvLit 1 encI_i64 ([(IntKind.i64.wrap (((a0.Joints.getD ((x172.2.2.2).toNat) default).Lo) + y205.1))] : (List Int)) 2) <|
 .conv 8010 (cvApp 1 encI_i64 x172.2.2.1 ([(IntKind.i64.wrap (((a0.Joints.getD ((x172.2.2.2).toNat) default).Lo) + y205.1))] : (List Int)) 2) <|
 .grd ((x172.2.2.1.length + ([(IntKind.i64.wrap (((a0.Joints.getD ((x172.2.2.2).toNat) default).Lo) + y205.1))] : (List Int)).length) * 8 ≤ 140737488355328 ∧ (x172.2.2.1.length + ([(IntKind.i64.wrap (((a0.Joints.getD ((x172.2.2.2).toNat) default).Lo) + y205.1))] : (List Int)).length) ≤ maxLen) <|
 .ret (.out (y205.2.1, y205.2.2, (x172.2.2.1 ++ ([(IntKind.i64.wrap (((a0.Joints.getD ((x172.2.2.2).toNat) default).Lo) + y205.1))] : (List Int)))))))) fun y200 =>
 .ret (.next (y200.1, y200.2.1, y200.2.2, (IntKind.i64.wrap (x172.2.2.2 + 1)))))
 (.ret (.out x172.2.2.1)))
 (y103.1, y103.2, nl, 0) [] fun y189 =>
 .ret y189
noncomputable def make_Config_C (a0 : S_Robot) (a1 : (List Int)) : CallS (List Int) :=
  mkC [] hd Tryz.func28 (by kernel_rfl) (make_Config_T a0 a1) 0 [.pure (enc_Robot a0), .pure (encL 1 encI_i64 a1)] [] (fun _ => .vec 0) (fun r => [(0, vecO 1 encI_i64 r 2)]) (by kernel_rfl)
noncomputable def make_Configs_T (a0 : S_Robot) (a1 : Int) (a2 : (List Int)) : T (List (List Int)) :=
 .call (make_From_C a2) [] fun y2 =>
 .loop (fun (x159 : ((List Int) × Int × (List (List Int)) × Int)) => ⟨[(1, pz a1), (3, .ptr 0 0), (7, .ptr 1 0), (8, .vec 2), (9, pz x159.2.2.2)], [(0, .box [.pure (encL 12 enc_Joint a0.Joints), .pure (encL 5 enc_Mass a0.Masses)]), (1, .box [.pure (encL 1 encI_i64 x159.1), pz x159.2.1]), (2, vecO 1 (encL 1 encI_i64) x159.2.2.1 40)], [], 3⟩)
 (.exit 0) (fun (y198 : (List (List Int))) => ⟨[(8, .vec 0)], [(0, vecO 1 (encL 1 encI_i64) y198 40)], [], 1⟩)
 (fun x159 => .br (decide (x159.2.2.2 < a1))
 (.loop (fun (x230 : ((List Int) × Int × (List Int) × Int)) => ⟨[(1, pz a1), (3, .ptr 0 0), (7, .ptr 1 0), (8, .vec 2), (9, pz x159.2.2.2), (10, .vec 3), (11, pz x230.2.2.2)], [(0, .box [.pure (encL 12 enc_Joint a0.Joints), .pure (encL 5 enc_Mass a0.Masses)]), (1, .box [.pure (encL 1 encI_i64 x230.1), pz x230.2.1]), (2, vecO 1 (encL 1 encI_i64) x159.2.2.1 40), (3, vecO 1 encI_i64 x230.2.2.1 3)], [], 4⟩)
 (.exit 2) (fun (y233 : ((List Int) × Int × (List Int))) => ⟨[(1, pz a1), (3, .ptr 0 0), (7, .ptr 1 0), (8, .vec 2), (9, pz x159.2.2.2), (10, .vec 3)], [(0, .box [.pure (encL 12 enc_Joint a0.Joints), .pure (encL 5 enc_Mass a0.Masses)]), (1, .box [.pure (encL 1 encI_i64 y233.1), pz y233.2.1]), (2, vecO 1 (encL 1 encI_i64) x159.2.2.1 40), (3, vecO 1 encI_i64 y233.2.2 3)], [], 4⟩)
 (fun x230 => .br (decide (x230.2.2.2 < (IntKind.i64.wrap (2 * ((a0.Joints.length : Nat) : Int)))))
 (.call (Source_Next_C x230.1 x230.2.1 1048576) [(0, 1)] fun y235 =>
 .conv 10003 (cvLit 1 encI_i64 ([y235.1] : (List Int)) 3) <|
 .conv 10004 (cvApp 1 encI_i64 x230.2.2.1 ([y235.1] : (List Int)) 3) <|
 .grd ((x230.2.2.1.length + ([y235.1] : (List Int)).length) * 8 ≤ 140737488355328 ∧ (x230.2.2.1.length + ([y235.1] : (List Int)).length) ≤ maxLen) <|
 .ret (.next (y235.2.1, y235.2.2, (x230.2.2.1 ++ ([y235.1] : (List Int))), (IntKind.i64.wrap (x230.2.2.2 + 1)))))
 (.ret (.out (x230.1, x230.2.1, x230.2.2.1))))
 (x159.1, x159.2.1, nl, 0) [] fun y233 =>
 .call (make_Config_C a0 y233.2.2) [] fun y236 =>
 .conv 11004 (cvLit 1 (encL 1 encI_i64) ([y236] : (List (List Int))) 40) <|
 .conv 11005 (cvApp 1 (encL 1 encI_i64) x159.2.2.1 ([y236] : (List (List Int))) 40) <|
 .grd ((x159.2.2.1.length + ([y236] : (List (List Int))).length) * 24 ≤ 140737488355328 ∧ (x159.2.2.1.length + ([y236] : (List (List Int))).length) ≤ maxLen) <|
 .ret (.next (y233.1, y233.2.1, (x159.2.2.1 ++ ([y236] : (List (List Int)))), (IntKind.i64.wrap (x159.2.2.2 + 1)))))
 (.ret (.out x159.2.2.1)))
 (y2.1, y2.2, nl, 0) [] fun y198 =>
 .ret y198
noncomputable def make_Configs_C (a0 : S_Robot) (a1 : Int) (a2 : (List Int)) : CallS (List (List Int)) :=
  mkC [] hd Tryz.func17 (by kernel_rfl) (make_Configs_T a0 a1 a2) 0 [.pure (enc_Robot a0), pz a1, .pure (encL 1 encI_i64 a2)] [] (fun _ => .vec 0) (fun r => [(0, vecO 1 (encL 1 encI_i64) r 40)]) (by kernel_rfl)
noncomputable def ref6_Name_T (a0 : ByteArray) : T Bool :=
 .cut 2 (fun (y2 : Bool) => ⟨[(0, .pure (.str a0)), (16, .pure (.bool y2))], [], [], 0⟩)
 (.br (decide (((a0.size : Nat) : Int) < 1))
 (.ret (.out true))
 (.br (decide (((a0.size : Nat) : Int) > 16))
 (.ret (.out true))
 (.ret (.out (a0 == (⟨#[119, 111, 114, 108, 100]⟩ : ByteArray)))))) fun y2 =>
 .br y2
 (.ret false)
 (.loop (fun (x23 : Int) => ⟨[(0, .pure (.str a0)), (3, pz x23)], [], [], 0⟩)
 (.exit 0) (fun (_ : U0) => ⟨[], [], [], 0⟩)
 (fun x23 => .br (decide (x23 < ((a0.size : Nat) : Int)))
 (.cut 1 (fun (y31 : Bool) => ⟨[(0, .pure (.str a0)), (3, pz x23), (4, .pure (.bool y31))], [], [], 0⟩)
 (.grd (0 ≤ x23 ∧ x23 < ((a0.size : Nat) : Int)) <|
 .br (decide (((a0.data.getD (x23).toNat 0).toNat : Int) ≥ 97))
 (.grd (0 ≤ x23 ∧ x23 < ((a0.size : Nat) : Int)) <|
 .ret (.out (decide (((a0.data.getD (x23).toNat 0).toNat : Int) ≤ 122))))
 (.ret (.out false))) fun y31 =>
 .cut 0 (fun (y32 : Bool) => ⟨[(0, .pure (.str a0)), (3, pz x23), (56, .pure (.bool y32))], [], [], 0⟩)
 (.br (!y31)
 (.br (x23 == 0)
 (.ret (.out true))
 (.grd (0 ≤ x23 ∧ x23 < ((a0.size : Nat) : Int)) <|
 .br (((a0.data.getD (x23).toNat 0).toNat : Int) != 95)
 (.grd (0 ≤ x23 ∧ x23 < ((a0.size : Nat) : Int)) <|
 .br (decide (((a0.data.getD (x23).toNat 0).toNat : Int) < 48))
 (.ret (.out true))
 (.grd (0 ≤ x23 ∧ x23 < ((a0.size : Nat) : Int)) <|
 .ret (.out (decide (((a0.data.getD (x23).toNat 0).toNat : Int) > 57)))))
 (.ret (.out false))))
 (.ret (.out false))) fun y32 =>
 .br y32
 (.ret (.fin false))
 (.ret (.next (IntKind.i64.wrap (x23 + 1)))))
 (.ret (.out .u)))
 0 [] fun _ =>
 .ret true)
noncomputable def ref6_Name_C (a0 : ByteArray) : CallS Bool :=
  mkC [] hd Tryz.func135 (by kernel_rfl) (ref6_Name_T a0) 0 [.pure (.str a0)] [] (fun r => .pure (.bool r)) (fun _ => []) (by kernel_rfl)
open Go.Proofs
noncomputable def ref6_Near_T (a0 : (Int × Int × Int)) (a1 : Int) : T Bool :=
 .unroll 4 <|
 .known true <|
 .cut 1 (fun (y16 : Bool) => ⟨[(1, pz a1), (2, .ptr 0 0), (5, pz 0), (22, .pure (.bool y16))], [(0, .box [pz a0.1, pz a0.2.1, pz a0.2.2])], [], 1⟩)
 (.ix 0 3 rfl <|
 .br (decide (a0.1 < (IntKind.i64.wrap (0 - a1))))
 (.ret (.out true))
 (.ix 0 3 rfl <|
 .ret (.out (decide (a0.1 > a1))))) fun y16 =>
 .br y16
 (.ret false)
 (.lit 3001 (1) <|
 .known true <|
 .cut 1 (fun (y18 : Bool) => ⟨[(1, pz a1), (2, .ptr 0 0), (5, pz 1), (22, .pure (.bool y18))], [(0, .box [pz a0.1, pz a0.2.1, pz a0.2.2])], [], 1⟩)
 (.ix 1 3 rfl <|
 .br (decide (a0.2.1 < (IntKind.i64.wrap (0 - a1))))
 (.ret (.out true))
 (.ix 1 3 rfl <|
 .ret (.out (decide (a0.2.1 > a1))))) fun y18 =>
 .br y18
 (.ret false)
 (.lit 3001 (2) <|
 .known true <|
 .cut 1 (fun (y20 : Bool) => ⟨[(1, pz a1), (2, .ptr 0 0), (5, pz 2), (22, .pure (.bool y20))], [(0, .box [pz a0.1, pz a0.2.1, pz a0.2.2])], [], 1⟩)
 (.ix 2 3 rfl <|
 .br (decide (a0.2.2 < (IntKind.i64.wrap (0 - a1))))
 (.ret (.out true))
 (.ix 2 3 rfl <|
 .ret (.out (decide (a0.2.2 > a1))))) fun y20 =>
 .br y20
 (.ret false)
 (.lit 3001 (3) <|
 .known false <|
 .ret true)))
noncomputable def ref6_Near_C (a0 : (Int × Int × Int)) (a1 : Int) : CallS Bool :=
  mkC [] hd Tryz.func92 (by kernel_rfl) (ref6_Near_T a0 a1) 0 [.pure (enc_arr_3_int64 a0), pz a1] [] (fun r => .pure (.bool r)) (fun _ => []) (by kernel_rfl)
noncomputable def ref6_reach_T (a0 : Int) : T Int :=
 .br (a0 == 0)
 (.ret 0)
 (.cut 0 (fun (y2 : Bool) => ⟨[(6, .pure (.bool y2))], [], [], 0⟩)
 (.br (a0 == 1)
 (.ret (.out (a0 == 1)))
 (.br (a0 == 2)
 (.ret (.out (a0 == 2)))
 (.ret (.out (a0 == 3))))) fun y2 =>
 .br y2
 (.ret 524288)
 (.ret 4194304))
noncomputable def ref6_reach_C (a0 : Int) : CallS Int :=
  mkC [] hd Tryz.func136 (by kernel_rfl) (ref6_reach_T a0) 0 [pz a0] [] (fun r => pz r) (fun _ => []) (by kernel_rfl)
noncomputable def ref6_between_T (a0 : Int) (a1 : Int) (a2 : Int) : T Bool :=
 .br (decide (a1 ≤ a0))
 (.ret (decide (a0 ≤ a2)))
 (.ret false)
noncomputable def ref6_between_C (a0 : Int) (a1 : Int) (a2 : Int) : CallS Bool :=
  mkC [] hd Tryz.func91 (by kernel_rfl) (ref6_between_T a0 a1 a2) 0 [pz a0, pz a1, pz a2] [] (fun r => .pure (.bool r)) (fun _ => []) (by kernel_rfl)
set_option maxHeartbeats 8000000 in
set_option maxRecDepth 20000 in
noncomputable def ref6_checkJoint_T (a0 : (List S_Joint)) (a1 : Int) : T Int :=
 .grd (0 ≤ a1 ∧ a1 < ((a0.length : Nat) : Int)) <|
 .call (ref6_Name_C ((a0.getD ((a1).toNat) default).Name)) [] fun y4 =>
 .br (!y4)
 (.ret 802)
 (.loop (fun (x9 : Int) => ⟨[(0, .pure (encL 12 enc_Joint a0)), (1, pz a1), (5, .ptr 0 0), (6, pz x9)], [(0, .box [.pure (.str ((a0.getD ((a1).toNat) default).Name)), pz ((a0.getD ((a1).toNat) default).Kind), pz ((a0.getD ((a1).toNat) default).Parent), pz ((a0.getD ((a1).toNat) default).Offset.1), pz ((a0.getD ((a1).toNat) default).Offset.2.1), pz ((a0.getD ((a1).toNat) default).Offset.2.2), pz ((a0.getD ((a1).toNat) default).Lo), pz ((a0.getD ((a1).toNat) default).Hi), pz ((a0.getD ((a1).toNat) default).Weight), pz ((a0.getD ((a1).toNat) default).Speed), pz ((a0.getD ((a1).toNat) default).Accel), pz ((a0.getD ((a1).toNat) default).Torque)])], [], 1⟩)
 (.exit 0) (fun (_ : U0) => ⟨[(1, pz a1), (5, .ptr 0 0)], [(0, .box [.pure (.str ((a0.getD ((a1).toNat) default).Name)), pz ((a0.getD ((a1).toNat) default).Kind), pz ((a0.getD ((a1).toNat) default).Parent), pz ((a0.getD ((a1).toNat) default).Offset.1), pz ((a0.getD ((a1).toNat) default).Offset.2.1), pz ((a0.getD ((a1).toNat) default).Offset.2.2), pz ((a0.getD ((a1).toNat) default).Lo), pz ((a0.getD ((a1).toNat) default).Hi), pz ((a0.getD ((a1).toNat) default).Weight), pz ((a0.getD ((a1).toNat) default).Speed), pz ((a0.getD ((a1).toNat) default).Accel), pz ((a0.getD ((a1).toNat) default).Torque)])], [], 1⟩)
 (fun x9 => .br (decide (x9 < a1))
 (.grd (0 ≤ x9 ∧ x9 < ((a0.length : Nat) : Int)) <|
 .br (((a0.getD ((x9).toNat) default).Name) == ((a0.getD ((a1).toNat) default).Name))
 (.ret (.fin 802))
 (.ret (.next (IntKind.i64.wrap (x9 + 1)))))
 (.ret (.out .u)))
 0 [] fun _ =>
 .cut 1 (fun (y12 : Bool) => ⟨[(1, pz a1), (5, .ptr 0 0), (36, .pure (.bool y12))], [(0, .box [.pure (.str ((a0.getD ((a1).toNat) default).Name)), pz ((a0.getD ((a1).toNat) default).Kind), pz ((a0.getD ((a1).toNat) default).Parent), pz ((a0.getD ((a1).toNat) default).Offset.1), pz ((a0.getD ((a1).toNat) default).Offset.2.1), pz ((a0.getD ((a1).toNat) default).Offset.2.2), pz ((a0.getD ((a1).toNat) default).Lo), pz ((a0.getD ((a1).toNat) default).Hi), pz ((a0.getD ((a1).toNat) default).Weight), pz ((a0.getD ((a1).toNat) default).Speed), pz ((a0.getD ((a1).toNat) default).Accel), pz ((a0.getD ((a1).toNat) default).Torque)])], [], 1⟩)
 (.br (decide (((a0.getD ((a1).toNat) default).Kind) < 0))
 (.ret (.out true))
 (.ret (.out (decide (((a0.getD ((a1).toNat) default).Kind) > 6))))) fun y12 =>
 .br y12
 (.ret 803)
 (.cut 1 (fun (y14 : Bool) => ⟨[(5, .ptr 0 0), (45, .pure (.bool y14))], [(0, .box [.pure (.str ((a0.getD ((a1).toNat) default).Name)), pz ((a0.getD ((a1).toNat) default).Kind), pz ((a0.getD ((a1).toNat) default).Parent), pz ((a0.getD ((a1).toNat) default).Offset.1), pz ((a0.getD ((a1).toNat) default).Offset.2.1), pz ((a0.getD ((a1).toNat) default).Offset.2.2), pz ((a0.getD ((a1).toNat) default).Lo), pz ((a0.getD ((a1).toNat) default).Hi), pz ((a0.getD ((a1).toNat) default).Weight), pz ((a0.getD ((a1).toNat) default).Speed), pz ((a0.getD ((a1).toNat) default).Accel), pz ((a0.getD ((a1).toNat) default).Torque)])], [], 1⟩)
 (.br (decide (((a0.getD ((a1).toNat) default).Parent) < (-1)))
 (.ret (.out true))
 (.ret (.out (decide (((a0.getD ((a1).toNat) default).Parent) ≥ a1))))) fun y14 =>
 .br y14
 (.ret 804)
 (.call (ref6_Near_C ((a0.getD ((a1).toNat) default).Offset) 4194304) [] fun y18 =>
 .br (!y18)
 (.ret 805)
 (.call (ref6_reach_C ((a0.getD ((a1).toNat) default).Kind)) [] fun y23 =>
 .cut 0 (fun (y24 : Bool) => ⟨[(5, .ptr 0 0), (70, .pure (.bool y24))], [(0, .box [.pure (.str ((a0.getD ((a1).toNat) default).Name)), pz ((a0.getD ((a1).toNat) default).Kind), pz ((a0.getD ((a1).toNat) default).Parent), pz ((a0.getD ((a1).toNat) default).Offset.1), pz ((a0.getD ((a1).toNat) default).Offset.2.1), pz ((a0.getD ((a1).toNat) default).Offset.2.2), pz ((a0.getD ((a1).toNat) default).Lo), pz ((a0.getD ((a1).toNat) default).Hi), pz ((a0.getD ((a1).toNat) default).Weight), pz ((a0.getD ((a1).toNat) default).Speed), pz ((a0.getD ((a1).toNat) default).Accel), pz ((a0.getD ((a1).toNat) default).Torque)])], [], 1⟩)
 (.br (decide (((a0.getD ((a1).toNat) default).Lo) > ((a0.getD ((a1).toNat) default).Hi)))
 (.ret (.out true))
 (.br (decide (((a0.getD ((a1).toNat) default).Lo) < (IntKind.i64.wrap (0 - y23))))
 (.ret (.out true))
 (.ret (.out (decide (((a0.getD ((a1).toNat) default).Hi) > y23)))))) fun y24 =>
 .br y24
 (.ret 806)
 (.cut 1 (fun (y46 : Bool) => ⟨[(92, .pure (.bool y46))], [], [], 0⟩)
 (.call (ref6_between_C ((a0.getD ((a1).toNat) default).Weight) 1 1024) [] fun y47 =>
 .br (!y47)
 (.ret (.out true))
 (.call (ref6_between_C ((a0.getD ((a1).toNat) default).Speed) 1 1048576) [] fun y48 =>
 .br (!y48)
 (.ret (.out true))
 (.call (ref6_between_C ((a0.getD ((a1).toNat) default).Accel) 1 1048576) [] fun y49 =>
 .br (!y49)
 (.ret (.out true))
 (.call (ref6_between_C ((a0.getD ((a1).toNat) default).Torque) 1 1099511627776) [] fun y50 =>
 .ret (.out (!y50)))))) fun y46 =>
 .br y46
 (.ret 807)
 (.ret 0))))))
noncomputable def ref6_checkJoint_C (a0 : (List S_Joint)) (a1 : Int) : CallS Int :=
  mkC [] hd Tryz.func90 (by kernel_rfl) (ref6_checkJoint_T a0 a1) 0 [.pure (encL 12 enc_Joint a0), pz a1] [] (fun r => pz r) (fun _ => []) (by kernel_rfl)
noncomputable def ref6_CheckRobot_T (a0 : S_Robot) : T Int :=
 .cut 2 (fun (y2 : Bool) => ⟨[(1, .ptr 0 0), (16, .pure (.bool y2))], [(0, .box [.pure (encL 12 enc_Joint a0.Joints), .pure (encL 5 enc_Mass a0.Masses)])], [], 1⟩)
 (.br (decide (((a0.Joints.length : Nat) : Int) < 1))
 (.ret (.out true))
 (.ret (.out (decide (((a0.Joints.length : Nat) : Int) > 10))))) fun y2 =>
 .br y2
 (.ret 801)
 (.loop (fun (x23 : Int) => ⟨[(1, .ptr 0 0), (3, pz x23)], [(0, .box [.pure (encL 12 enc_Joint a0.Joints), .pure (encL 5 enc_Mass a0.Masses)])], [], 1⟩)
 (.exit 0) (fun (_ : U0) => ⟨[(1, .ptr 0 0)], [(0, .box [.pure (encL 12 enc_Joint a0.Joints), .pure (encL 5 enc_Mass a0.Masses)])], [], 1⟩)
 (fun x23 => .br (decide (x23 < ((a0.Joints.length : Nat) : Int)))
 (.call (ref6_checkJoint_C a0.Joints x23) [] fun y32 =>
 .br (y32 != 0)
 (.ret (.fin y32))
 (.ret (.next (IntKind.i64.wrap (x23 + 1)))))
 (.ret (.out .u)))
 0 [] fun _ =>
 .br (decide (((a0.Masses.length : Nat) : Int) > 32))
 (.ret 808)
 (.loop (fun (x93 : Int) => ⟨[(1, .ptr 0 0), (5, pz x93)], [(0, .box [.pure (encL 12 enc_Joint a0.Joints), .pure (encL 5 enc_Mass a0.Masses)])], [], 1⟩)
 (.exit 2) (fun (_ : U0) => ⟨[], [], [], 0⟩)
 (fun x93 => .br (decide (x93 < ((a0.Masses.length : Nat) : Int)))
 (.grd (0 ≤ x93 ∧ x93 < ((a0.Masses.length : Nat) : Int)) <|
 .cut 0 (fun (y120 : Bool) => ⟨[(1, .ptr 0 0), (5, pz x93), (69, .pure (.bool y120))], [(0, .box [.pure (encL 12 enc_Joint a0.Joints), .pure (encL 5 enc_Mass a0.Masses)])], [], 1⟩)
 (.br (decide (((a0.Masses.getD ((x93).toNat) default).Link) < 0))
 (.ret (.out true))
 (.br (decide (((a0.Masses.getD ((x93).toNat) default).Link) ≥ ((a0.Joints.length : Nat) : Int)))
 (.ret (.out true))
 (.call (ref6_between_C ((a0.Masses.getD ((x93).toNat) default).Mass) 1 65536) [] fun y121 =>
 .br (!y121)
 (.ret (.out true))
 (.call (ref6_Near_C ((a0.Masses.getD ((x93).toNat) default).Point) 4194304) [] fun y122 =>
 .ret (.out (!y122)))))) fun y120 =>
 .br y120
 (.ret (.fin 808))
 (.ret (.next (IntKind.i64.wrap (x93 + 1)))))
 (.ret (.out .u)))
 0 [] fun _ =>
 .ret 0))
noncomputable def ref6_CheckRobot_C (a0 : S_Robot) : CallS Int :=
  mkC [] hd Tryz.func44 (by kernel_rfl) (ref6_CheckRobot_T a0) 0 [.pure (enc_Robot a0)] [] (fun r => pz r) (fun _ => []) (by kernel_rfl)
noncomputable def ref10_small_T (a0 : (List Int)) : T Bool :=
 .loop (fun (x13 : Int) => ⟨[(0, .pure (encL 1 encI_i64 a0)), (3, pz x13)], [], [], 0⟩)
 (.exit 0) (fun (_ : U0) => ⟨[], [], [], 0⟩)
 (fun x13 => .br (decide (x13 < ((a0.length : Nat) : Int)))
 (.cut 1 (fun (y18 : Bool) => ⟨[(0, .pure (encL 1 encI_i64 a0)), (3, pz x13), (21, .pure (.bool y18))], [], [], 0⟩)
 (.grd (0 ≤ x13 ∧ x13 < ((a0.length : Nat) : Int)) <|
 .br (decide ((a0.getD ((x13).toNat) default) < (-2147483648)))
 (.ret (.out true))
 (.grd (0 ≤ x13 ∧ x13 < ((a0.length : Nat) : Int)) <|
 .ret (.out (decide ((a0.getD ((x13).toNat) default) > 2147483648))))) fun y18 =>
 .br y18
 (.ret (.fin false))
 (.ret (.next (IntKind.i64.wrap (x13 + 1)))))
 (.ret (.out .u)))
 0 [] fun _ =>
 .ret true
noncomputable def ref10_small_C (a0 : (List Int)) : CallS Bool :=
  mkC [] hd Tryz.func94 (by kernel_rfl) (ref10_small_T a0) 0 [.pure (encL 1 encI_i64 a0)] [] (fun r => .pure (.bool r)) (fun _ => []) (by kernel_rfl)
noncomputable def ref10_Distance_T (a0 : S_Robot) (a1 : (List Int)) (a2 : (List Int)) : T Int :=
 .cut 2 (fun (y55 : Bool) => ⟨[(1, .pure (encL 1 encI_i64 a1)), (2, .pure (encL 1 encI_i64 a2)), (3, .ptr 0 0), (36, .pure (.bool y55))], [(0, .box [.pure (encL 12 enc_Joint a0.Joints), .pure (encL 5 enc_Mass a0.Masses)])], [], 1⟩)
 (.call (ref6_CheckRobot_C (⟨a0.Joints, a0.Masses⟩ : S_Robot)) [] fun y56 =>
 .br (y56 != 0)
 (.ret (.out true))
 (.call (ref10_small_C a1) [] fun y57 =>
 .br (!y57)
 (.ret (.out true))
 (.call (ref10_small_C a2) [] fun y58 =>
 .br (!y58)
 (.ret (.out true))
 (.br (((a1.length : Nat) : Int) != ((a0.Joints.length : Nat) : Int))
 (.ret (.out true))
 (.ret (.out (((a2.length : Nat) : Int) != ((a1.length : Nat) : Int)))))))) fun y55 =>
 .br y55
 (.ret 0)
 (.loop (fun (x71 : (Int × Int)) => ⟨[(1, .pure (encL 1 encI_i64 a1)), (2, .pure (encL 1 encI_i64 a2)), (3, .ptr 0 0), (7, pz x71.1), (8, pz x71.2)], [(0, .box [.pure (encL 12 enc_Joint a0.Joints), .pure (encL 5 enc_Mass a0.Masses)])], [], 1⟩)
 (.exit 0) (fun (y74 : Int) => ⟨[(7, pz y74)], [], [], 0⟩)
 (fun x71 => .br (decide (x71.2 < ((a1.length : Nat) : Int)))
 (.grd (0 ≤ x71.2 ∧ x71.2 < ((a0.Joints.length : Nat) : Int)) <|
 .grd (0 ≤ x71.2 ∧ x71.2 < ((a1.length : Nat) : Int)) <|
 .grd (0 ≤ x71.2 ∧ x71.2 < ((a2.length : Nat) : Int)) <|
 .grd (0 ≤ x71.2 ∧ x71.2 < ((a2.length : Nat) : Int)) <|
 .grd (0 ≤ x71.2 ∧ x71.2 < ((a1.length : Nat) : Int)) <|
 .name 7025 ((max (IntKind.i64.wrap ((a1.getD ((x71.2).toNat) default) - (a2.getD ((x71.2).toNat) default))) (IntKind.i64.wrap ((a2.getD ((x71.2).toNat) default) - (a1.getD ((x71.2).toNat) default))))) fun z76 =>
 .ret (.next ((IntKind.i64.wrap (x71.1 + (IntKind.i64.wrap (((a0.Joints.getD ((x71.2).toNat) default).Weight) * z76)))), (IntKind.i64.wrap (x71.2 + 1)))))
 (.ret (.out x71.1)))
 (0, 0) [] fun y74 =>
 .ret y74)
noncomputable def ref10_Distance_C (a0 : S_Robot) (a1 : (List Int)) (a2 : (List Int)) : CallS Int :=
  mkC [] hd Tryz.func48 (by kernel_rfl) (ref10_Distance_T a0 a1 a2) 0 [.pure (enc_Robot a0), .pure (encL 1 encI_i64 a1), .pure (encL 1 encI_i64 a2)] [] (fun r => pz r) (fun _ => []) (by kernel_rfl)
noncomputable def law25_nearer_T (a0 : S_Robot) (a1 : (List (List Int))) (a2 : Int) (a3 : Int) : T Int :=
 .grd (0 ≤ a2 ∧ a2 < ((a1.length : Nat) : Int)) <|
 .grd (0 ≤ a3 ∧ a3 < ((a1.length : Nat) : Int)) <|
 .call (ref10_Distance_C (⟨a0.Joints, a0.Masses⟩ : S_Robot) (a1.getD ((a2).toNat) default) (a1.getD ((a3).toNat) default)) [] fun y2 =>
 .loop (fun (x47 : (Int × Int)) => ⟨[(1, .pure (encL 1 (encL 1 encI_i64) a1)), (2, pz a2), (3, pz a3), (4, .ptr 0 0), (9, pz x47.1), (10, pz y2), (11, pz x47.2)], [(0, .box [.pure (encL 12 enc_Joint a0.Joints), .pure (encL 5 enc_Mass a0.Masses)])], [], 1⟩)
 (.exit 0) (fun (y58 : Int) => ⟨[(9, pz y58)], [], [], 0⟩)
 (fun x47 => .br (decide (x47.2 < ((a1.length : Nat) : Int)))
 (.cut 0 (fun (y65 : Int) => ⟨[(1, .pure (encL 1 (encL 1 encI_i64) a1)), (2, pz a2), (3, pz a3), (4, .ptr 0 0), (9, pz y65), (10, pz y2), (11, pz x47.2)], [(0, .box [.pure (encL 12 enc_Joint a0.Joints), .pure (encL 5 enc_Mass a0.Masses)])], [], 1⟩)
 (.grd (0 ≤ a2 ∧ a2 < ((a1.length : Nat) : Int)) <|
 .grd (0 ≤ x47.2 ∧ x47.2 < ((a1.length : Nat) : Int)) <|
 .call (ref10_Distance_C (⟨a0.Joints, a0.Masses⟩ : S_Robot) (a1.getD ((a2).toNat) default) (a1.getD ((x47.2).toNat) default)) [] fun y67 =>
 .cut 0 (fun (y68 : Bool) => ⟨[(1, .pure (encL 1 (encL 1 encI_i64) a1)), (2, pz a2), (3, pz a3), (4, .ptr 0 0), (9, pz x47.1), (10, pz y2), (11, pz x47.2), (61, .pure (.bool y68))], [(0, .box [.pure (encL 12 enc_Joint a0.Joints), .pure (encL 5 enc_Mass a0.Masses)])], [], 1⟩)
 (.br (x47.2 != a2)
 (.br (x47.2 != a3)
 (.br (decide (y67 < y2))
 (.ret (.out true))
 (.br (y67 == y2)
 (.ret (.out (decide (x47.2 < a3))))
 (.ret (.out false))))
 (.ret (.out false)))
 (.ret (.out false))) fun y68 =>
 .br y68
 (.ret (.out (IntKind.i64.wrap (x47.1 + 1))))
 (.ret (.out x47.1))) fun y65 =>
 .ret (.next (y65, (IntKind.i64.wrap (x47.2 + 1)))))
 (.ret (.out x47.1)))
 (0, 0) [] fun y58 =>
 .ret y58
noncomputable def law25_nearer_C (a0 : S_Robot) (a1 : (List (List Int))) (a2 : Int) (a3 : Int) : CallS Int :=
  mkC [] hd Tryz.func25 (by kernel_rfl) (law25_nearer_T a0 a1 a2 a3) 0 [.pure (enc_Robot a0), .pure (encL 1 (encL 1 encI_i64) a1), pz a2, pz a3] [] (fun r => pz r) (fun _ => []) (by kernel_rfl)
noncomputable def ref23_EdgeOf_T (a0 : S_Roadmap) (a1 : Int) (a2 : Int) : T Int :=
 .loop (fun (x13 : Int) => ⟨[(1, pz a1), (2, pz a2), (3, .ptr 0 0), (7, pz x13)], [(0, .box [.pure (encL 1 (encL 1 encI_i64) a0.Points), .pure (encL 12 enc_RoadmapEdge a0.Edges)])], [], 1⟩)
 (.exit 0) (fun (_ : U0) => ⟨[], [], [], 0⟩)
 (fun x13 => .br (decide (x13 < ((a0.Edges.length : Nat) : Int)))
 (.cut 1 (fun (y18 : Bool) => ⟨[(1, pz a1), (2, pz a2), (3, .ptr 0 0), (7, pz x13), (36, .pure (.bool y18))], [(0, .box [.pure (encL 1 (encL 1 encI_i64) a0.Points), .pure (encL 12 enc_RoadmapEdge a0.Edges)])], [], 1⟩)
 (.grd (0 ≤ x13 ∧ x13 < ((a0.Edges.length : Nat) : Int)) <|
 .br (((a0.Edges.getD ((x13).toNat) default).U) == (min a1 a2))
 (.grd (0 ≤ x13 ∧ x13 < ((a0.Edges.length : Nat) : Int)) <|
 .ret (.out (((a0.Edges.getD ((x13).toNat) default).V) == (max a1 a2))))
 (.ret (.out false))) fun y18 =>
 .br y18
 (.ret (.fin x13))
 (.ret (.next (IntKind.i64.wrap (x13 + 1)))))
 (.ret (.out .u)))
 0 [] fun _ =>
 .ret (-1)
noncomputable def ref23_EdgeOf_C (a0 : S_Roadmap) (a1 : Int) (a2 : Int) : CallS Int :=
  mkC [] hd Tryz.func26 (by kernel_rfl) (ref23_EdgeOf_T a0 a1 a2) 0 [.pure (enc_Roadmap a0), pz a1, pz a2] [] (fun r => pz r) (fun _ => []) (by kernel_rfl)
noncomputable def law25_RoadmapNearest_T (a0 : (List Int)) (a1 : (List Int)) (a2 : Int) (a3 : Int) : T Bool :=
 .call (make_Robot_C a0) [] fun y2 =>
 .call (make_Round_C a3 3) [] fun y4 =>
 .call (make_Round_C a2 7) [] fun y8 =>
 .call (make_Configs_C (⟨y2.Joints, y2.Masses⟩ : S_Robot) (IntKind.i64.wrap (1 + y8)) a1) [] fun y9 =>
 .call (roadmap_New_C (⟨y2.Joints, y2.Masses⟩ : S_Robot) y9 (IntKind.i64.wrap (1 + y4))) [] fun y10 =>
 .loop (fun (x471 : Int) => ⟨[(9, .ptr 0 0), (10, pz (IntKind.i64.wrap (1 + y4))), (11, .ptr 1 0), (12, pz x471)], [(0, .box [.pure (encL 12 enc_Joint y2.Joints), .pure (encL 5 enc_Mass y2.Masses)]), (1, .box [.pure (encL 1 (encL 1 encI_i64) y10.Points), .pure (encL 12 enc_RoadmapEdge y10.Edges)])], [], 2⟩)
 (.exit 0) (fun (_ : U0) => ⟨[], [], [], 0⟩)
 (fun x471 => .br (decide (x471 < ((y10.Points.length : Nat) : Int)))
 (.loop (fun (x663 : Int) => ⟨[(9, .ptr 0 0), (10, pz (IntKind.i64.wrap (1 + y4))), (11, .ptr 1 0), (12, pz x471), (13, pz x663)], [(0, .box [.pure (encL 12 enc_Joint y2.Joints), .pure (encL 5 enc_Mass y2.Masses)]), (1, .box [.pure (encL 1 (encL 1 encI_i64) y10.Points), .pure (encL 12 enc_RoadmapEdge y10.Edges)])], [], 2⟩)
 (.exit 2) (fun (_ : U0) => ⟨[(9, .ptr 0 0), (10, pz (IntKind.i64.wrap (1 + y4))), (11, .ptr 1 0), (12, pz x471)], [(0, .box [.pure (encL 12 enc_Joint y2.Joints), .pure (encL 5 enc_Mass y2.Masses)]), (1, .box [.pure (encL 1 (encL 1 encI_i64) y10.Points), .pure (encL 12 enc_RoadmapEdge y10.Edges)])], [], 2⟩)
 (fun x663 => .br (decide (x663 < ((y10.Points.length : Nat) : Int)))
 (.cut 1 (fun (y696 : Bool) => ⟨[(9, .ptr 0 0), (10, pz (IntKind.i64.wrap (1 + y4))), (11, .ptr 1 0), (12, pz x471), (13, pz x663), (14, .pure (.bool y696))], [(0, .box [.pure (encL 12 enc_Joint y2.Joints), .pure (encL 5 enc_Mass y2.Masses)]), (1, .box [.pure (encL 1 (encL 1 encI_i64) y10.Points), .pure (encL 12 enc_RoadmapEdge y10.Edges)])], [], 2⟩)
 (.call (law25_nearer_C (⟨y2.Joints, y2.Masses⟩ : S_Robot) y10.Points x471 x663) [] fun y697 =>
 .br (decide (y697 < (IntKind.i64.wrap (1 + y4))))
 (.ret (.out true))
 (.call (law25_nearer_C (⟨y2.Joints, y2.Masses⟩ : S_Robot) y10.Points x663 x471) [] fun y698 =>
 .ret (.out (decide (y698 < (IntKind.i64.wrap (1 + y4))))))) fun y696 =>
 .call (ref23_EdgeOf_C (⟨y10.Points, y10.Edges⟩ : S_Roadmap) x471 x663) [] fun y700 =>
 .br (!((decide (y700 ≥ 0)) == y696))
 (.ret (.fin (.fin false)))
 (.ret (.next (IntKind.i64.wrap (x663 + 1)))))
 (.ret (.out .u)))
 (IntKind.i64.wrap (x471 + 1)) [] fun _ =>
 .ret (.next (IntKind.i64.wrap (x471 + 1))))
 (.ret (.out .u)))
 0 [] fun _ =>
 .call (law25_awake_C) [] fun y701 =>
 .ret y701
noncomputable def law25_RoadmapNearest_C (a0 : (List Int)) (a1 : (List Int)) (a2 : Int) (a3 : Int) : CallS Bool :=
  mkC [] hd Tryz.func7 (by kernel_rfl) (law25_RoadmapNearest_T a0 a1 a2 a3) 0 [.pure (encL 1 encI_i64 a0), .pure (encL 1 encI_i64 a1), pz a2, pz a3] [] (fun r => .pure (.bool r)) (fun _ => []) (by kernel_rfl)
noncomputable def ref10_Inside_T (a0 : S_Robot) (a1 : (List Int)) : T Bool :=
 .cut 2 (fun (y7 : Bool) => ⟨[(1, .pure (encL 1 encI_i64 a1)), (2, .ptr 0 0), (16, .pure (.bool y7))], [(0, .box [.pure (encL 12 enc_Joint a0.Joints), .pure (encL 5 enc_Mass a0.Masses)])], [], 1⟩)
 (.call (ref6_CheckRobot_C a0) [] fun y8 =>
 .br (y8 != 0)
 (.ret (.out true))
 (.ret (.out (((a1.length : Nat) : Int) != ((a0.Joints.length : Nat) : Int))))) fun y7 =>
 .br y7
 (.ret false)
 (.loop (fun (x21 : Int) => ⟨[(1, .pure (encL 1 encI_i64 a1)), (2, .ptr 0 0), (5, pz x21)], [(0, .box [.pure (encL 12 enc_Joint a0.Joints), .pure (encL 5 enc_Mass a0.Masses)])], [], 1⟩)
 (.exit 0) (fun (_ : U0) => ⟨[], [], [], 0⟩)
 (fun x21 => .br (decide (x21 < ((a1.length : Nat) : Int)))
 (.cut 1 (fun (y26 : Bool) => ⟨[(1, .pure (encL 1 encI_i64 a1)), (2, .ptr 0 0), (5, pz x21), (46, .pure (.bool y26))], [(0, .box [.pure (encL 12 enc_Joint a0.Joints), .pure (encL 5 enc_Mass a0.Masses)])], [], 1⟩)
 (.grd (0 ≤ x21 ∧ x21 < ((a1.length : Nat) : Int)) <|
 .grd (0 ≤ x21 ∧ x21 < ((a0.Joints.length : Nat) : Int)) <|
 .br (decide ((a1.getD ((x21).toNat) default) < ((a0.Joints.getD ((x21).toNat) default).Lo)))
 (.ret (.out true))
 (.grd (0 ≤ x21 ∧ x21 < ((a1.length : Nat) : Int)) <|
 .grd (0 ≤ x21 ∧ x21 < ((a0.Joints.length : Nat) : Int)) <|
 .ret (.out (decide ((a1.getD ((x21).toNat) default) > ((a0.Joints.getD ((x21).toNat) default).Hi)))))) fun y26 =>
 .br y26
 (.ret (.fin false))
 (.ret (.next (IntKind.i64.wrap (x21 + 1)))))
 (.ret (.out .u)))
 0 [] fun _ =>
 .ret true)
noncomputable def ref10_Inside_C (a0 : S_Robot) (a1 : (List Int)) : CallS Bool :=
  mkC [] hd Tryz.func46 (by kernel_rfl) (ref10_Inside_T a0 a1) 0 [.pure (enc_Robot a0), .pure (encL 1 encI_i64 a1)] [] (fun r => .pure (.bool r)) (fun _ => []) (by kernel_rfl)
noncomputable def ref19_SameNumbers_T (a0 : (List Int)) (a1 : (List Int)) : T Bool :=
 .br (((a0.length : Nat) : Int) != ((a1.length : Nat) : Int))
 (.ret false)
 (.loop (fun (x5 : Int) => ⟨[(0, .pure (encL 1 encI_i64 a0)), (1, .pure (encL 1 encI_i64 a1)), (5, pz x5)], [], [], 0⟩)
 (.exit 0) (fun (_ : U0) => ⟨[], [], [], 0⟩)
 (fun x5 => .br (decide (x5 < ((a0.length : Nat) : Int)))
 (.grd (0 ≤ x5 ∧ x5 < ((a0.length : Nat) : Int)) <|
 .grd (0 ≤ x5 ∧ x5 < ((a1.length : Nat) : Int)) <|
 .br ((a0.getD ((x5).toNat) default) != (a1.getD ((x5).toNat) default))
 (.ret (.fin false))
 (.ret (.next (IntKind.i64.wrap (x5 + 1)))))
 (.ret (.out .u)))
 0 [] fun _ =>
 .ret true)
noncomputable def ref19_SameNumbers_C (a0 : (List Int)) (a1 : (List Int)) : CallS Bool :=
  mkC [] hd Tryz.func93 (by kernel_rfl) (ref19_SameNumbers_T a0 a1) 0 [.pure (encL 1 encI_i64 a0), .pure (encL 1 encI_i64 a1)] [] (fun r => .pure (.bool r)) (fun _ => []) (by kernel_rfl)
noncomputable def ref23_PointOf_T (a0 : (List (List Int))) (a1 : (List Int)) : T Int :=
 .loop (fun (x21 : Int) => ⟨[(0, .vec 0), (1, .pure (encL 1 encI_i64 a1)), (5, pz x21)], [(0, vecO 1 (encL 1 encI_i64) a0 40)], [], 1⟩)
 (.exit 0) (fun (_ : U0) => ⟨[], [(0, vecO 1 (encL 1 encI_i64) a0 40)], [], 1⟩)
 (fun x21 => .br (decide (x21 < ((a0.length : Nat) : Int)))
 (.grd (0 ≤ x21 ∧ x21 < ((a0.length : Nat) : Int)) <|
 .grd ((x21).toNat < a0.length) <|
 .call (ref19_SameNumbers_C (a0.getD ((x21).toNat) default) a1) [] fun y30 =>
 .br y30
 (.ret (.fin x21))
 (.ret (.next (IntKind.i64.wrap (x21 + 1)))))
 (.ret (.out .u)))
 0 [] fun _ =>
 .ret (-1)
noncomputable def ref23_PointOf_C (a0 : (List (List Int))) (a1 : (List Int)) : CallS Int :=
  mkC [] hd Tryz.func47 (by kernel_rfl) (ref23_PointOf_T a0 a1) 1 [.vec 0, .pure (encL 1 encI_i64 a1)] [(0, vecO 1 (encL 1 encI_i64) a0 40)] (fun r => pz r) (fun _ => [(0, vecO 1 (encL 1 encI_i64) a0 40)]) (by kernel_rfl)
noncomputable def ref23_byDistance_T (a0 : S_Robot) (a1 : (List (List Int))) (a2 : (List Int)) (a3 : Int) : T (List Int) :=
 .loop (fun (x357 : ((List Int) × Int)) => ⟨[(1, .vec 0), (2, .pure (encL 1 encI_i64 a2)), (3, pz a3), (4, .ptr 1 0), (9, .vec 2), (10, pz x357.2)], [(0, vecO 1 (encL 1 encI_i64) a1 40), (1, .box [.pure (encL 12 enc_Joint a0.Joints), .pure (encL 5 enc_Mass a0.Masses)]), (2, vecO 1 encI_i64 x357.1 3)], [], 3⟩)
 (.exit 0) (fun (y446 : (List Int)) => ⟨[(9, .vec 1)], [(0, vecO 1 (encL 1 encI_i64) a1 40), (1, vecO 1 encI_i64 y446 3)], [], 2⟩)
 (fun x357 => .br (decide (x357.2 < ((a1.length : Nat) : Int)))
 (.cut 0 (fun (y505 : (List Int)) => ⟨[(1, .vec 0), (2, .pure (encL 1 encI_i64 a2)), (3, pz a3), (4, .ptr 1 0), (9, .vec 2), (10, pz x357.2)], [(0, vecO 1 (encL 1 encI_i64) a1 40), (1, .box [.pure (encL 12 enc_Joint a0.Joints), .pure (encL 5 enc_Mass a0.Masses)]), (2, vecO 1 encI_i64 y505 3)], [], 3⟩)
 (.br (x357.2 == a3)
 (.ret (.out x357.1))
 (.conv 7002 (cvLit 1 encI_i64 ([x357.2] : (List Int)) 3) <|
 .conv 7003 (cvApp 1 encI_i64 x357.1 ([x357.2] : (List Int)) 3) <|
 .grd ((x357.1.length + ([x357.2] : (List Int)).length) * 8 ≤ 140737488355328 ∧ (x357.1.length + ([x357.2] : (List Int)).length) ≤ maxLen) <|
 .grd (0 ≤ x357.2 ∧ x357.2 < ((a1.length : Nat) : Int)) <|
 .grd ((x357.2).toNat < a1.length) <|
 .call (ref10_Distance_C a0 (a1.getD ((x357.2).toNat) default) a2) [] fun y507 =>
 .loop (fun (x517 : ((List Int) × Int)) => ⟨[(1, .vec 0), (2, .pure (encL 1 encI_i64 a2)), (3, pz a3), (4, .ptr 1 0), (9, .vec 2), (10, pz x357.2), (11, pz x517.2), (12, pz y507)], [(0, vecO 1 (encL 1 encI_i64) a1 40), (1, .box [.pure (encL 12 enc_Joint a0.Joints), .pure (encL 5 enc_Mass a0.Masses)]), (2, vecO 1 encI_i64 x517.1 3)], [], 3⟩)
 (.exit 2) (fun (y526 : (List Int)) => ⟨[(1, .vec 0), (2, .pure (encL 1 encI_i64 a2)), (3, pz a3), (4, .ptr 1 0), (9, .vec 2), (10, pz x357.2)], [(0, vecO 1 (encL 1 encI_i64) a1 40), (1, .box [.pure (encL 12 enc_Joint a0.Joints), .pure (encL 5 enc_Mass a0.Masses)]), (2, vecO 1 encI_i64 y526 3)], [], 3⟩)
 (fun x517 => .cut 1 (fun (y533 : Bool) => ⟨[(1, .vec 0), (2, .pure (encL 1 encI_i64 a2)), (3, pz a3), (4, .ptr 1 0), (9, .vec 2), (10, pz x357.2), (11, pz x517.2), (12, pz y507), (51, .pure (.bool y533))], [(0, vecO 1 (encL 1 encI_i64) a1 40), (1, .box [.pure (encL 12 enc_Joint a0.Joints), .pure (encL 5 enc_Mass a0.Masses)]), (2, vecO 1 encI_i64 x517.1 3)], [], 3⟩)
 (.br (decide (x517.2 > 0))
 (.grd (0 ≤ (IntKind.i64.wrap (x517.2 - 1)) ∧ (IntKind.i64.wrap (x517.2 - 1)) < ((x517.1.length : Nat) : Int)) <|
 .grd (((IntKind.i64.wrap (x517.2 - 1))).toNat < x517.1.length) <|
 .grd (0 ≤ (x517.1.getD (((IntKind.i64.wrap (x517.2 - 1))).toNat) default) ∧ (x517.1.getD (((IntKind.i64.wrap (x517.2 - 1))).toNat) default) < ((a1.length : Nat) : Int)) <|
 .grd (((x517.1.getD (((IntKind.i64.wrap (x517.2 - 1))).toNat) default)).toNat < a1.length) <|
 .call (ref10_Distance_C a0 (a1.getD (((x517.1.getD (((IntKind.i64.wrap (x517.2 - 1))).toNat) default)).toNat) default) a2) [] fun y534 =>
 .ret (.out (decide (y507 < y534))))
 (.ret (.out false))) fun y533 =>
 .br y533
 (.grd (0 ≤ (IntKind.i64.wrap (x517.2 - 1)) ∧ (IntKind.i64.wrap (x517.2 - 1)) < ((x517.1.length : Nat) : Int)) <|
 .grd (((IntKind.i64.wrap (x517.2 - 1))).toNat < x517.1.length) <|
 .grd (0 ≤ x517.2 ∧ x517.2 < ((x517.1.length : Nat) : Int)) <|
 .grd ((x517.2).toNat < x517.1.length) <|
 .grd (0 ≤ x517.2 ∧ x517.2 < ((x517.1.length : Nat) : Int)) <|
 .conv 10015 (cvSet 1 encI_i64 x517.1 3 ((x517.2).toNat) (x517.1.getD (((IntKind.i64.wrap (x517.2 - 1))).toNat) default)) <|
 .grd ((x517.2).toNat < x517.1.length ∧ 0 ≤ (x517.2).toNat) <|
 .grd (0 ≤ (IntKind.i64.wrap (x517.2 - 1)) ∧ (IntKind.i64.wrap (x517.2 - 1)) < (((x517.1.set ((x517.2).toNat) (x517.1.getD (((IntKind.i64.wrap (x517.2 - 1))).toNat) default)).length : Nat) : Int)) <|
 .conv 10017 (cvSet 1 encI_i64 (x517.1.set ((x517.2).toNat) (x517.1.getD (((IntKind.i64.wrap (x517.2 - 1))).toNat) default)) 3 (((IntKind.i64.wrap (x517.2 - 1))).toNat) (x517.1.getD ((x517.2).toNat) default)) <|
 .grd (((IntKind.i64.wrap (x517.2 - 1))).toNat < (x517.1.set ((x517.2).toNat) (x517.1.getD (((IntKind.i64.wrap (x517.2 - 1))).toNat) default)).length ∧ 0 ≤ ((IntKind.i64.wrap (x517.2 - 1))).toNat) <|
 .ret (.next (((x517.1.set ((x517.2).toNat) (x517.1.getD (((IntKind.i64.wrap (x517.2 - 1))).toNat) default)).set (((IntKind.i64.wrap (x517.2 - 1))).toNat) (x517.1.getD ((x517.2).toNat) default)), (IntKind.i64.wrap (x517.2 - 1)))))
 (.ret (.out x517.1)))
 ((x357.1 ++ ([x357.2] : (List Int))), ((x357.1.length : Nat) : Int)) [] fun y526 =>
 .ret (.out y526))) fun y505 =>
 .ret (.next (y505, (IntKind.i64.wrap (x357.2 + 1)))))
 (.ret (.out x357.1)))
 (nl, 0) [] fun y446 =>
 .ret y446
noncomputable def ref23_byDistance_C (a0 : S_Robot) (a1 : (List (List Int))) (a2 : (List Int)) (a3 : Int) : CallS (List Int) :=
  mkC [] hd Tryz.func55 (by kernel_rfl) (ref23_byDistance_T a0 a1 a2 a3) 1 [.pure (enc_Robot a0), .vec 0, .pure (encL 1 encI_i64 a2), pz a3] [(0, vecO 1 (encL 1 encI_i64) a1 40)] (fun r => .pure (encL 1 encI_i64 r)) (fun _ => [(0, vecO 1 (encL 1 encI_i64) a1 40)]) (by kernel_rfl)
set_option maxHeartbeats 8000000 in
set_option maxRecDepth 20000 in
noncomputable def ref23_insert_T (a0 : S_Robot) (a1 : (List (List Int))) (a2 : (List S_RoadmapEdge)) (a3 : Int) (a4 : Int) : T (List S_RoadmapEdge) :=
 .loop (fun (x85 : ((List S_RoadmapEdge) × Bool × Int)) => ⟨[(2, pz (min a3 a4)), (3, pz (max a3 a4)), (4, .ptr 2 0), (5, .ptr 3 0), (9, .vec 4), (10, .pure (.bool x85.2.1)), (11, pz x85.2.2)], [(0, vecO 1 (encL 1 encI_i64) a1 40), (1, vecO 12 enc_RoadmapEdge a2 57), (2, .box [.pure (encL 12 enc_Joint a0.Joints), .pure (encL 5 enc_Mass a0.Masses)]), (3, .box [.vec 0, .vec 1]), (4, vecO 12 enc_RoadmapEdge x85.1 57)], [], 5⟩)
 (.exit 0) (fun (y106 : ((List S_RoadmapEdge) × Bool)) => ⟨[(2, pz (min a3 a4)), (3, pz (max a3 a4)), (4, .ptr 2 0), (5, .ptr 3 0), (9, .vec 4), (10, .pure (.bool y106.2))], [(0, vecO 1 (encL 1 encI_i64) a1 40), (1, vecO 12 enc_RoadmapEdge a2 57), (2, .box [.pure (encL 12 enc_Joint a0.Joints), .pure (encL 5 enc_Mass a0.Masses)]), (3, .box [.vec 0, .vec 1]), (4, vecO 12 enc_RoadmapEdge y106.1 57)], [], 5⟩)
 (fun x85 => .br (decide (x85.2.2 < ((a2.length : Nat) : Int)))
 (.grd (0 ≤ x85.2.2 ∧ x85.2.2 < ((a2.length : Nat) : Int)) <|
 .grd ((x85.2.2).toNat < a2.length) <|
 .cut 0 (fun (y123 : ((List S_RoadmapEdge) × Bool)) => ⟨[(2, pz (min a3 a4)), (3, pz (max a3 a4)), (4, .ptr 2 0), (5, .ptr 3 0), (9, .vec 4), (10, .pure (.bool y123.2)), (11, pz x85.2.2), (12, .ptr 5 0)], [(0, vecO 1 (encL 1 encI_i64) a1 40), (1, vecO 12 enc_RoadmapEdge a2 57), (2, .box [.pure (encL 12 enc_Joint a0.Joints), .pure (encL 5 enc_Mass a0.Masses)]), (3, .box [.vec 0, .vec 1]), (4, vecO 12 enc_RoadmapEdge y123.1 57), (5, .box [pz ((a2.getD ((x85.2.2).toNat) default).U), pz ((a2.getD ((x85.2.2).toNat) default).V), pz ((a2.getD ((x85.2.2).toNat) default).Cost), pz ((a2.getD ((x85.2.2).toNat) default).State), pz ((a2.getD ((x85.2.2).toNat) default).Proof.Kind), .pure (encL 3 enc_Piece ((a2.getD ((x85.2.2).toNat) default).Proof.Pieces)), pz ((a2.getD ((x85.2.2).toNat) default).Proof.At.Depth), pz ((a2.getD ((x85.2.2).toNat) default).Proof.At.Index), .pure (encL 3 enc_arr_3_int64 ((a2.getD ((x85.2.2).toNat) default).Proof.At.Normals)), pz ((a2.getD ((x85.2.2).toNat) default).Proof.Witness.Pair), .pure (encL 1 encI_i64 ((a2.getD ((x85.2.2).toNat) default).Proof.Witness.Left)), .pure (encL 1 encI_i64 ((a2.getD ((x85.2.2).toNat) default).Proof.Witness.Right))])], [], 6⟩)
 (.cut 0 (fun (y124 : Bool) => ⟨[(2, pz (min a3 a4)), (3, pz (max a3 a4)), (4, .ptr 2 0), (5, .ptr 3 0), (9, .vec 4), (10, .pure (.bool x85.2.1)), (11, pz x85.2.2), (12, .ptr 5 0), (50, .pure (.bool y124))], [(0, vecO 1 (encL 1 encI_i64) a1 40), (1, vecO 12 enc_RoadmapEdge a2 57), (2, .box [.pure (encL 12 enc_Joint a0.Joints), .pure (encL 5 enc_Mass a0.Masses)]), (3, .box [.vec 0, .vec 1]), (4, vecO 12 enc_RoadmapEdge x85.1 57), (5, .box [pz ((a2.getD ((x85.2.2).toNat) default).U), pz ((a2.getD ((x85.2.2).toNat) default).V), pz ((a2.getD ((x85.2.2).toNat) default).Cost), pz ((a2.getD ((x85.2.2).toNat) default).State), pz ((a2.getD ((x85.2.2).toNat) default).Proof.Kind), .pure (encL 3 enc_Piece ((a2.getD ((x85.2.2).toNat) default).Proof.Pieces)), pz ((a2.getD ((x85.2.2).toNat) default).Proof.At.Depth), pz ((a2.getD ((x85.2.2).toNat) default).Proof.At.Index), .pure (encL 3 enc_arr_3_int64 ((a2.getD ((x85.2.2).toNat) default).Proof.At.Normals)), pz ((a2.getD ((x85.2.2).toNat) default).Proof.Witness.Pair), .pure (encL 1 encI_i64 ((a2.getD ((x85.2.2).toNat) default).Proof.Witness.Left)), .pure (encL 1 encI_i64 ((a2.getD ((x85.2.2).toNat) default).Proof.Witness.Right))])], [], 6⟩)
 (.br (!x85.2.1)
 (.br (decide (((a2.getD ((x85.2.2).toNat) default).U) > (min a3 a4)))
 (.ret (.out true))
 (.br (((a2.getD ((x85.2.2).toNat) default).U) == (min a3 a4))
 (.ret (.out (decide (((a2.getD ((x85.2.2).toNat) default).V) ≥ (max a3 a4)))))
 (.ret (.out false))))
 (.ret (.out false))) fun y124 =>
 .br y124
 (.cut 1 (fun (y125 : Bool) => ⟨[(2, pz (min a3 a4)), (3, pz (max a3 a4)), (4, .ptr 2 0), (5, .ptr 3 0), (9, .vec 4), (10, .tt), (11, pz x85.2.2), (12, .ptr 5 0), (60, .pure (.bool y125))], [(0, vecO 1 (encL 1 encI_i64) a1 40), (1, vecO 12 enc_RoadmapEdge a2 57), (2, .box [.pure (encL 12 enc_Joint a0.Joints), .pure (encL 5 enc_Mass a0.Masses)]), (3, .box [.vec 0, .vec 1]), (4, vecO 12 enc_RoadmapEdge x85.1 57), (5, .box [pz ((a2.getD ((x85.2.2).toNat) default).U), pz ((a2.getD ((x85.2.2).toNat) default).V), pz ((a2.getD ((x85.2.2).toNat) default).Cost), pz ((a2.getD ((x85.2.2).toNat) default).State), pz ((a2.getD ((x85.2.2).toNat) default).Proof.Kind), .pure (encL 3 enc_Piece ((a2.getD ((x85.2.2).toNat) default).Proof.Pieces)), pz ((a2.getD ((x85.2.2).toNat) default).Proof.At.Depth), pz ((a2.getD ((x85.2.2).toNat) default).Proof.At.Index), .pure (encL 3 enc_arr_3_int64 ((a2.getD ((x85.2.2).toNat) default).Proof.At.Normals)), pz ((a2.getD ((x85.2.2).toNat) default).Proof.Witness.Pair), .pure (encL 1 encI_i64 ((a2.getD ((x85.2.2).toNat) default).Proof.Witness.Left)), .pure (encL 1 encI_i64 ((a2.getD ((x85.2.2).toNat) default).Proof.Witness.Right))])], [], 6⟩)
 (.br (((a2.getD ((x85.2.2).toNat) default).U) != (min a3 a4))
 (.ret (.out true))
 (.ret (.out (((a2.getD ((x85.2.2).toNat) default).V) != (max a3 a4))))) fun y125 =>
 .br y125
 (.grd (0 ≤ (min a3 a4) ∧ (min a3 a4) < ((a1.length : Nat) : Int)) <|
 .grd (((min a3 a4)).toNat < a1.length) <|
 .grd (0 ≤ (max a3 a4) ∧ (max a3 a4) < ((a1.length : Nat) : Int)) <|
 .grd (((max a3 a4)).toNat < a1.length) <|
 .call (ref10_Distance_C a0 (a1.getD (((min a3 a4)).toNat) default) (a1.getD (((max a3 a4)).toNat) default)) [] fun y126 =>
 .conv 11016 (cvLitP 12 enc_RoadmapEdge ([(⟨(min a3 a4), (max a3 a4), y126, 0, (⟨0, nl, (⟨0, 0, nl⟩ : S_Piece), (⟨0, nl, nl⟩ : S_Witness)⟩ : S_EdgeResult)⟩ : S_RoadmapEdge)] : (List S_RoadmapEdge)) 57 [.agg [.int .i64 (min a3 a4), .int .i64 (max a3 a4), .int .i64 y126, .int .i64 0, .int .i64 0, .lst 0 0 fun _ => .unk, .int .i64 0, .int .i64 0, .lst 0 0 fun _ => .unk, .int .i64 0, .lst 0 0 fun _ => .unk, .lst 0 0 fun _ => .unk]] (by kernel_rfl)) <|
 .conv 11017 (cvApp 12 enc_RoadmapEdge x85.1 ([(⟨(min a3 a4), (max a3 a4), y126, 0, (⟨0, nl, (⟨0, 0, nl⟩ : S_Piece), (⟨0, nl, nl⟩ : S_Witness)⟩ : S_EdgeResult)⟩ : S_RoadmapEdge)] : (List S_RoadmapEdge)) 57) <|
 .grd ((x85.1.length + ([(⟨(min a3 a4), (max a3 a4), y126, 0, (⟨0, nl, (⟨0, 0, nl⟩ : S_Piece), (⟨0, nl, nl⟩ : S_Witness)⟩ : S_EdgeResult)⟩ : S_RoadmapEdge)] : (List S_RoadmapEdge)).length) * 160 ≤ 140737488355328 ∧ (x85.1.length + ([(⟨(min a3 a4), (max a3 a4), y126, 0, (⟨0, nl, (⟨0, 0, nl⟩ : S_Piece), (⟨0, nl, nl⟩ : S_Witness)⟩ : S_EdgeResult)⟩ : S_RoadmapEdge)] : (List S_RoadmapEdge)).length) ≤ maxLen) <|
 .ret (.out ((x85.1 ++ ([(⟨(min a3 a4), (max a3 a4), y126, 0, (⟨0, nl, (⟨0, 0, nl⟩ : S_Piece), (⟨0, nl, nl⟩ : S_Witness)⟩ : S_EdgeResult)⟩ : S_RoadmapEdge)] : (List S_RoadmapEdge))), true)))
 (.ret (.out (x85.1, true))))
 (.ret (.out (x85.1, x85.2.1)))) fun y123 =>
 .conv 12002 (cvLit 12 enc_RoadmapEdge ([(a2.getD ((x85.2.2).toNat) default)] : (List S_RoadmapEdge)) 57) <|
 .conv 12003 (cvApp 12 enc_RoadmapEdge y123.1 ([(a2.getD ((x85.2.2).toNat) default)] : (List S_RoadmapEdge)) 57) <|
 .grd ((y123.1.length + ([(a2.getD ((x85.2.2).toNat) default)] : (List S_RoadmapEdge)).length) * 160 ≤ 140737488355328 ∧ (y123.1.length + ([(a2.getD ((x85.2.2).toNat) default)] : (List S_RoadmapEdge)).length) ≤ maxLen) <|
 .ret (.next ((y123.1 ++ ([(a2.getD ((x85.2.2).toNat) default)] : (List S_RoadmapEdge))), y123.2, (IntKind.i64.wrap (x85.2.2 + 1)))))
 (.ret (.out (x85.1, x85.2.1))))
 (nl, false, 0) [] fun y106 =>
 .cut 0 (fun (y129 : (List S_RoadmapEdge)) => ⟨[(9, .vec 2)], [(0, vecO 1 (encL 1 encI_i64) a1 40), (1, vecO 12 enc_RoadmapEdge a2 57), (2, vecO 12 enc_RoadmapEdge y129 57)], [], 3⟩)
 (.br (!y106.2)
 (.grd (0 ≤ (min a3 a4) ∧ (min a3 a4) < ((a1.length : Nat) : Int)) <|
 .grd (((min a3 a4)).toNat < a1.length) <|
 .grd (0 ≤ (max a3 a4) ∧ (max a3 a4) < ((a1.length : Nat) : Int)) <|
 .grd (((max a3 a4)).toNat < a1.length) <|
 .call (ref10_Distance_C a0 (a1.getD (((min a3 a4)).toNat) default) (a1.getD (((max a3 a4)).toNat) default)) [] fun y130 =>
 .conv 14016 (cvLitP 12 enc_RoadmapEdge ([(⟨(min a3 a4), (max a3 a4), y130, 0, (⟨0, nl, (⟨0, 0, nl⟩ : S_Piece), (⟨0, nl, nl⟩ : S_Witness)⟩ : S_EdgeResult)⟩ : S_RoadmapEdge)] : (List S_RoadmapEdge)) 57 [.agg [.int .i64 (min a3 a4), .int .i64 (max a3 a4), .int .i64 y130, .int .i64 0, .int .i64 0, .lst 0 0 fun _ => .unk, .int .i64 0, .int .i64 0, .lst 0 0 fun _ => .unk, .int .i64 0, .lst 0 0 fun _ => .unk, .lst 0 0 fun _ => .unk]] (by kernel_rfl)) <|
 .conv 14017 (cvApp 12 enc_RoadmapEdge y106.1 ([(⟨(min a3 a4), (max a3 a4), y130, 0, (⟨0, nl, (⟨0, 0, nl⟩ : S_Piece), (⟨0, nl, nl⟩ : S_Witness)⟩ : S_EdgeResult)⟩ : S_RoadmapEdge)] : (List S_RoadmapEdge)) 57) <|
 .grd ((y106.1.length + ([(⟨(min a3 a4), (max a3 a4), y130, 0, (⟨0, nl, (⟨0, 0, nl⟩ : S_Piece), (⟨0, nl, nl⟩ : S_Witness)⟩ : S_EdgeResult)⟩ : S_RoadmapEdge)] : (List S_RoadmapEdge)).length) * 160 ≤ 140737488355328 ∧ (y106.1.length + ([(⟨(min a3 a4), (max a3 a4), y130, 0, (⟨0, nl, (⟨0, 0, nl⟩ : S_Piece), (⟨0, nl, nl⟩ : S_Witness)⟩ : S_EdgeResult)⟩ : S_RoadmapEdge)] : (List S_RoadmapEdge)).length) ≤ maxLen) <|
 .ret (.out (y106.1 ++ ([(⟨(min a3 a4), (max a3 a4), y130, 0, (⟨0, nl, (⟨0, 0, nl⟩ : S_Piece), (⟨0, nl, nl⟩ : S_Witness)⟩ : S_EdgeResult)⟩ : S_RoadmapEdge)] : (List S_RoadmapEdge)))))
 (.ret (.out y106.1))) fun y129 =>
 .ret y129
noncomputable def ref23_insert_C (a0 : S_Robot) (a1 : (List (List Int))) (a2 : (List S_RoadmapEdge)) (a3 : Int) (a4 : Int) : CallS (List S_RoadmapEdge) :=
  mkC [] hd Tryz.func56 (by kernel_rfl) (ref23_insert_T a0 a1 a2 a3 a4) 2 [.pure (enc_Robot a0), .agg [.vec 0, .vec 1], pz a3, pz a4] [(0, vecO 1 (encL 1 encI_i64) a1 40), (1, vecO 12 enc_RoadmapEdge a2 57)] (fun _ => .vec 2) (fun r => [(0, vecO 1 (encL 1 encI_i64) a1 40), (1, vecO 12 enc_RoadmapEdge a2 57), (2, vecO 12 enc_RoadmapEdge r 57)]) (by kernel_rfl)
set_option maxHeartbeats 8000000 in
set_option maxRecDepth 20000 in
noncomputable def ref23_NewMap_T (a0 : S_Robot) (a1 : (List (List Int))) (a2 : Int) : T ((List (List Int)) × (List S_RoadmapEdge)) :=
 .call (ref6_CheckRobot_C a0) [] fun y4 =>
 .br (y4 != 0)
 (.ret (nl, nl))
 (.loop (fun (x105 : ((List (List Int)) × Int)) => ⟨[(1, .pure (encL 1 (encL 1 encI_i64) a1)), (2, pz a2), (3, .ptr 0 0), (6, .ptr 1 0), (7, .ptr 4 0), (8, pz x105.2)], [(0, .box [.pure (encL 12 enc_Joint a0.Joints), .pure (encL 5 enc_Mass a0.Masses)]), (1, .box [.vec 2, .vec 3]), (2, .nilv), (3, .nilv), (4, .box [.vec 5, .vec 6]), (5, vecO 1 (encL 1 encI_i64) x105.1 40), (6, .nilv)], [], 7⟩)
 (.exit 0) (fun (y130 : (List (List Int))) => ⟨[(2, pz a2), (3, .ptr 0 0), (6, .ptr 1 0), (7, .ptr 4 0)], [(0, .box [.pure (encL 12 enc_Joint a0.Joints), .pure (encL 5 enc_Mass a0.Masses)]), (1, .box [.vec 2, .vec 3]), (2, .nilv), (3, .nilv), (4, .box [.vec 5, .vec 6]), (5, vecO 1 (encL 1 encI_i64) y130 40), (6, .nilv)], [], 7⟩)
 (fun x105 => .cut 1 (fun (y132 : Bool) => ⟨[(1, .pure (encL 1 (encL 1 encI_i64) a1)), (2, pz a2), (3, .ptr 0 0), (6, .ptr 1 0), (7, .ptr 4 0), (8, pz x105.2), (25, .pure (.bool y132))], [(0, .box [.pure (encL 12 enc_Joint a0.Joints), .pure (encL 5 enc_Mass a0.Masses)]), (1, .box [.vec 2, .vec 3]), (2, .nilv), (3, .nilv), (4, .box [.vec 5, .vec 6]), (5, vecO 1 (encL 1 encI_i64) x105.1 40), (6, .nilv)], [], 7⟩)
 (.br (decide (x105.2 < ((a1.length : Nat) : Int)))
 (.ret (.out (decide (((x105.1.length : Nat) : Int) < 1024))))
 (.ret (.out false))) fun y132 =>
 .br y132
 (.cut 0 (fun (y147 : (List (List Int))) => ⟨[(1, .pure (encL 1 (encL 1 encI_i64) a1)), (2, pz a2), (3, .ptr 0 0), (6, .ptr 1 0), (7, .ptr 4 0), (8, pz x105.2)], [(0, .box [.pure (encL 12 enc_Joint a0.Joints), .pure (encL 5 enc_Mass a0.Masses)]), (1, .box [.vec 2, .vec 3]), (2, .nilv), (3, .nilv), (4, .box [.vec 5, .vec 6]), (5, vecO 1 (encL 1 encI_i64) y147 40), (6, .nilv)], [], 7⟩)
 (.cut 0 (fun (y152 : Bool) => ⟨[(1, .pure (encL 1 (encL 1 encI_i64) a1)), (2, pz a2), (3, .ptr 0 0), (6, .ptr 1 0), (7, .ptr 4 0), (8, pz x105.2), (43, .pure (.bool y152))], [(0, .box [.pure (encL 12 enc_Joint a0.Joints), .pure (encL 5 enc_Mass a0.Masses)]), (1, .box [.vec 2, .vec 3]), (2, .nilv), (3, .nilv), (4, .box [.vec 5, .vec 6]), (5, vecO 1 (encL 1 encI_i64) x105.1 40), (6, .nilv)], [], 7⟩)
 (.grd (0 ≤ x105.2 ∧ x105.2 < ((a1.length : Nat) : Int)) <|
 .call (ref10_Inside_C (⟨a0.Joints, a0.Masses⟩ : S_Robot) (a1.getD ((x105.2).toNat) default)) [] fun y153 =>
 .br y153
 (.grd (0 ≤ x105.2 ∧ x105.2 < ((a1.length : Nat) : Int)) <|
 .call (ref23_PointOf_C x105.1 (a1.getD ((x105.2).toNat) default)) [(0, 5)] fun y154 =>
 .ret (.out (decide (y154 < 0))))
 (.ret (.out false))) fun y152 =>
 .br y152
 (.grd (0 ≤ x105.2 ∧ x105.2 < ((a1.length : Nat) : Int)) <|
 .grd ((a1.getD ((x105.2).toNat) default).length * 8 ≤ 140737488355328 ∧ (a1.getD ((x105.2).toNat) default).length ≤ maxLen) <|
 .conv 8007 (cvLit 1 (encL 1 encI_i64) ([(a1.getD ((x105.2).toNat) default)] : (List (List Int))) 40) <|
 .conv 8008 (cvApp 1 (encL 1 encI_i64) x105.1 ([(a1.getD ((x105.2).toNat) default)] : (List (List Int))) 40) <|
 .grd ((x105.1.length + ([(a1.getD ((x105.2).toNat) default)] : (List (List Int))).length) * 24 ≤ 140737488355328 ∧ (x105.1.length + ([(a1.getD ((x105.2).toNat) default)] : (List (List Int))).length) ≤ maxLen) <|
 .ret (.out (x105.1 ++ ([(a1.getD ((x105.2).toNat) default)] : (List (List Int))))))
 (.ret (.out x105.1))) fun y147 =>
 .ret (.next (y147, (IntKind.i64.wrap (x105.2 + 1)))))
 (.ret (.out x105.1)))
 (nl, 0) [] fun y130 =>
 .loop (fun (x295 : ((List S_RoadmapEdge) × Int)) => ⟨[(2, pz a2), (3, .ptr 0 0), (6, .ptr 1 0), (7, .ptr 4 0), (9, pz x295.2)], [(0, .box [.pure (encL 12 enc_Joint a0.Joints), .pure (encL 5 enc_Mass a0.Masses)]), (1, .box [.vec 2, .vec 3]), (2, .nilv), (3, .nilv), (4, .box [.vec 5, .vec 6]), (5, vecO 1 (encL 1 encI_i64) y130 40), (6, vecO 12 enc_RoadmapEdge x295.1 57)], [], 7⟩)
 (.exit 2) (fun (y330 : (List S_RoadmapEdge)) => ⟨[(6, .ptr 0 0), (7, .ptr 3 0)], [(0, .box [.vec 1, .vec 2]), (1, .nilv), (2, .nilv), (3, .box [.vec 4, .vec 5]), (4, vecO 1 (encL 1 encI_i64) y130 40), (5, vecO 12 enc_RoadmapEdge y330 57)], [], 6⟩)
 (fun x295 => .br (decide (x295.2 < ((y130.length : Nat) : Int)))
 (.grd (0 ≤ x295.2 ∧ x295.2 < ((y130.length : Nat) : Int)) <|
 .grd ((x295.2).toNat < y130.length) <|
 .call (ref23_byDistance_C a0 y130 (y130.getD ((x295.2).toNat) default) x295.2) [(0, 5)] fun y349 =>
 .loop (fun (x355 : ((List S_RoadmapEdge) × Int)) => ⟨[(2, pz a2), (3, .ptr 0 0), (6, .ptr 1 0), (7, .ptr 4 0), (9, pz x295.2), (10, .pure (encL 1 encI_i64 y349)), (11, pz x355.2)], [(0, .box [.pure (encL 12 enc_Joint a0.Joints), .pure (encL 5 enc_Mass a0.Masses)]), (1, .box [.vec 2, .vec 3]), (2, .nilv), (3, .nilv), (4, .box [.vec 5, .vec 6]), (5, vecO 1 (encL 1 encI_i64) y130 40), (6, vecO 12 enc_RoadmapEdge x355.1 57)], [], 7⟩)
 (.exit 4) (fun (y360 : (List S_RoadmapEdge)) => ⟨[(2, pz a2), (3, .ptr 0 0), (6, .ptr 1 0), (7, .ptr 4 0), (9, pz x295.2)], [(0, .box [.pure (encL 12 enc_Joint a0.Joints), .pure (encL 5 enc_Mass a0.Masses)]), (1, .box [.vec 2, .vec 3]), (2, .nilv), (3, .nilv), (4, .box [.vec 5, .vec 6]), (5, vecO 1 (encL 1 encI_i64) y130 40), (6, vecO 12 enc_RoadmapEdge y360 57)], [], 7⟩)
 (fun x355 => .cut 1 (fun (y362 : Bool) => ⟨[(2, pz a2), (3, .ptr 0 0), (6, .ptr 1 0), (7, .ptr 4 0), (9, pz x295.2), (10, .pure (encL 1 encI_i64 y349)), (11, pz x355.2), (79, .pure (.bool y362))], [(0, .box [.pure (encL 12 enc_Joint a0.Joints), .pure (encL 5 enc_Mass a0.Masses)]), (1, .box [.vec 2, .vec 3]), (2, .nilv), (3, .nilv), (4, .box [.vec 5, .vec 6]), (5, vecO 1 (encL 1 encI_i64) y130 40), (6, vecO 12 enc_RoadmapEdge x355.1 57)], [], 7⟩)
 (.br (decide (x355.2 < ((y349.length : Nat) : Int)))
 (.ret (.out (decide (x355.2 < a2))))
 (.ret (.out false))) fun y362 =>
 .br y362
 (.grd (0 ≤ x355.2 ∧ x355.2 < ((y349.length : Nat) : Int)) <|
 .call (ref23_insert_C a0 y130 x355.1 x295.2 (y349.getD ((x355.2).toNat) default)) [(0, 5), (1, 6)] fun y364 =>
 .ret (.next (y364, (IntKind.i64.wrap (x355.2 + 1)))))
 (.ret (.out x355.1)))
 (x295.1, 0) [] fun y360 =>
 .ret (.next (y360, (IntKind.i64.wrap (x295.2 + 1)))))
 (.ret (.out x295.1)))
 (nl, 0) [] fun y330 =>
 .cut 0 (fun (y365 : (List S_RoadmapEdge)) => ⟨[(6, .ptr 0 0), (7, .ptr 3 0)], [(0, .box [.vec 1, .vec 2]), (1, .nilv), (2, .nilv), (3, .box [.vec 4, .vec 5]), (4, vecO 1 (encL 1 encI_i64) y130 40), (5, vecO 12 enc_RoadmapEdge y365 57)], [], 6⟩)
 (.br (decide (((y330.length : Nat) : Int) > 8192))
 (.conv 18002 (cvTake 12 enc_RoadmapEdge y330 57 (8192 : Int)) <|
 .grd (0 ≤ (8192 : Int) ∧ (8192 : Int) ≤ ((y330.length : Nat) : Int) ∧ 0 ≤ (8192 : Int).toNat) <|
 .ret (.out (y330.take ((8192 : Int).toNat))))
 (.ret (.out y330))) fun y365 =>
 .ret (y130, y365))
noncomputable def ref23_NewMap_C (a0 : S_Robot) (a1 : (List (List Int))) (a2 : Int) : CallS ((List (List Int)) × (List S_RoadmapEdge)) :=
  mkC [] hd Tryz.func21 (by kernel_rfl) (ref23_NewMap_T a0 a1 a2) 0 [.pure (enc_Robot a0), .pure (encL 1 (encL 1 encI_i64) a1), pz a2] [] (fun _ => .agg [.vec 0, .vec 1]) (fun r => [(0, vecO 1 (encL 1 encI_i64) r.1 40), (1, vecO 12 enc_RoadmapEdge r.2 57)]) (by kernel_rfl)
noncomputable def ref23_PointOf_1_T (a0 : (List (List Int))) (a1 : (List Int)) : T Int :=
 .loop (fun (x21 : Int) => ⟨[(0, .pure (encL 1 (encL 1 encI_i64) a0)), (1, .pure (encL 1 encI_i64 a1)), (5, pz x21)], [], [], 0⟩)
 (.exit 0) (fun (_ : U0) => ⟨[], [], [], 0⟩)
 (fun x21 => .br (decide (x21 < ((a0.length : Nat) : Int)))
 (.grd (0 ≤ x21 ∧ x21 < ((a0.length : Nat) : Int)) <|
 .call (ref19_SameNumbers_C (a0.getD ((x21).toNat) default) a1) [] fun y30 =>
 .br y30
 (.ret (.fin x21))
 (.ret (.next (IntKind.i64.wrap (x21 + 1)))))
 (.ret (.out .u)))
 0 [] fun _ =>
 .ret (-1)
noncomputable def ref23_PointOf_1_C (a0 : (List (List Int))) (a1 : (List Int)) : CallS Int :=
  mkC [] hd Tryz.func47 (by kernel_rfl) (ref23_PointOf_1_T a0 a1) 0 [.pure (encL 1 (encL 1 encI_i64) a0), .pure (encL 1 encI_i64 a1)] [] (fun r => pz r) (fun _ => []) (by kernel_rfl)
open Go.Proofs
end Go.Abs
