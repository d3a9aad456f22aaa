/-
  D3 (a part of a claim: our own text).
-/
import Derived.Test.YtkjkbdobenmgbaaGreatXIM2
namespace Go.Abs
open Go.Proofs
noncomputable def slices_partitionEqualCmpFunc_2_int_T (a0 : (List (Int × Int))) (a1 : Nat) (a2 : Nat) (a3 : Int) (a4 : Int) (a5 : Int) : T (Int × (List (Int × Int))) :=
  .grd (0 ≤ a5 ∧ a5 < ((a2 : Nat) : Int)) <|
  .grd ((a1 + ((a5).toNat)) < a0.length) <|
  .grd (0 ≤ a3 ∧ a3 < ((a2 : Nat) : Int)) <|
  .grd ((a1 + ((a3).toNat)) < a0.length) <|
  .grd (0 ≤ a3 ∧ a3 < ((a2 : Nat) : Int)) <|
  .conv 1013 (cvSet 2 enc_arr_2_int a0 90 (a1 + ((a3).toNat)) (a0.getD (a1 + ((a5).toNat)) default)) <|
  .grd ((a1 + ((a3).toNat)) < a0.length ∧ 0 ≤ (a1 + ((a3).toNat))) <|
  .grd (0 ≤ a5 ∧ a5 < ((a2 : Nat) : Int)) <|
  .conv 1015 (cvSet 2 enc_arr_2_int (a0.set (a1 + ((a3).toNat)) (a0.getD (a1 + ((a5).toNat)) default)) 90 (a1 + ((a5).toNat)) (a0.getD (a1 + ((a3).toNat)) default)) <|
  .grd ((a1 + ((a5).toNat)) < (a0.set (a1 + ((a3).toNat)) (a0.getD (a1 + ((a5).toNat)) default)).length ∧ 0 ≤ (a1 + ((a5).toNat))) <|
  .loop (fun (x1091 : ((List (Int × Int)) × Int × Int)) => ⟨[(0, .view 0 2 a1 a2), (1, .pure (.int .i64 a3)), (4, .func 99 [] []), (11, .pure (.int .i64 x1091.2.1)), (12, .pure (.int .i64 x1091.2.2))], [(0, vecO 2 enc_arr_2_int x1091.1 90)], [], 1⟩)
   (.exit 0) (fun (y1200 : (Int × (List (Int × Int)))) => ⟨[(11, .pure (.int .i64 y1200.1))], [(0, vecO 2 enc_arr_2_int y1200.2 90)], [], 1⟩)
   (fun x1091 => .loop (fun (x1237 : Int) => ⟨[(0, .view 0 2 a1 a2), (1, .pure (.int .i64 a3)), (4, .func 99 [] []), (11, .pure (.int .i64 x1237)), (12, .pure (.int .i64 x1091.2.2))], [(0, vecO 2 enc_arr_2_int x1091.1 90)], [], 1⟩)
     (.exit 2) (fun (y1246 : Int) => ⟨[(0, .view 0 2 a1 a2), (1, .pure (.int .i64 a3)), (4, .func 99 [] []), (11, .pure (.int .i64 y1246)), (12, .pure (.int .i64 x1091.2.2))], [(0, vecO 2 enc_arr_2_int x1091.1 90)], [], 1⟩)
     (fun x1237 => .cut 1 (fun (y1253 : Bool) => ⟨[(0, .view 0 2 a1 a2), (1, .pure (.int .i64 a3)), (4, .func 99 [] []), (11, .pure (.int .i64 x1237)), (12, .pure (.int .i64 x1091.2.2)), (47, .pure (.bool y1253))], [(0, vecO 2 enc_arr_2_int x1091.1 90)], [], 1⟩)
       (.br (decide (x1237 ≤ x1091.2.2))
        (.grd (0 ≤ a3 ∧ a3 < ((a2 : Nat) : Int)) <|
        .grd ((a1 + ((a3).toNat)) < x1091.1.length) <|
        .grd (0 ≤ x1237 ∧ x1237 < ((a2 : Nat) : Int)) <|
        .grd ((a1 + ((x1237).toNat)) < x1091.1.length) <|
        .call (roadmap_nearPairs_1_C (x1091.1.getD (a1 + ((a3).toNat)) default) (x1091.1.getD (a1 + ((x1237).toNat)) default)) [] fun y1254 =>
        .ret (.out (!(decide (y1254 < 0)))))
        (.ret (.out false))) fun y1253 =>
      .br y1253
       (.ret (.next (IntKind.i64.wrap (x1237 + 1))))
       (.ret (.out x1237)))
     x1091.2.1 [] fun y1246 =>
    .loop (fun (x1291 : Int) => ⟨[(0, .view 0 2 a1 a2), (1, .pure (.int .i64 a3)), (4, .func 99 [] []), (11, .pure (.int .i64 y1246)), (12, .pure (.int .i64 x1291))], [(0, vecO 2 enc_arr_2_int x1091.1 90)], [], 1⟩)
     (.exit 4) (fun (y1300 : Int) => ⟨[(0, .view 0 2 a1 a2), (1, .pure (.int .i64 a3)), (4, .func 99 [] []), (11, .pure (.int .i64 y1246)), (12, .pure (.int .i64 y1300))], [(0, vecO 2 enc_arr_2_int x1091.1 90)], [], 1⟩)
     (fun x1291 => .cut 1 (fun (y1307 : Bool) => ⟨[(0, .view 0 2 a1 a2), (1, .pure (.int .i64 a3)), (4, .func 99 [] []), (11, .pure (.int .i64 y1246)), (12, .pure (.int .i64 x1291)), (65, .pure (.bool y1307))], [(0, vecO 2 enc_arr_2_int x1091.1 90)], [], 1⟩)
       (.br (decide (y1246 ≤ x1291))
        (.grd (0 ≤ a3 ∧ a3 < ((a2 : Nat) : Int)) <|
        .grd ((a1 + ((a3).toNat)) < x1091.1.length) <|
        .grd (0 ≤ x1291 ∧ x1291 < ((a2 : Nat) : Int)) <|
        .grd ((a1 + ((x1291).toNat)) < x1091.1.length) <|
        .call (roadmap_nearPairs_1_C (x1091.1.getD (a1 + ((a3).toNat)) default) (x1091.1.getD (a1 + ((x1291).toNat)) default)) [] fun y1308 =>
        .ret (.out (decide (y1308 < 0))))
        (.ret (.out false))) fun y1307 =>
      .br y1307
       (.ret (.next (IntKind.i64.wrap (x1291 - 1))))
       (.ret (.out x1291)))
     x1091.2.2 [] fun y1300 =>
    .br (decide (y1246 > y1300))
     (.ret (.out (y1246, x1091.1)))
     (.grd (0 ≤ y1300 ∧ y1300 < ((a2 : Nat) : Int)) <|
     .grd ((a1 + ((y1300).toNat)) < x1091.1.length) <|
     .grd (0 ≤ y1246 ∧ y1246 < ((a2 : Nat) : Int)) <|
     .grd ((a1 + ((y1246).toNat)) < x1091.1.length) <|
     .grd (0 ≤ y1246 ∧ y1246 < ((a2 : Nat) : Int)) <|
     .conv 8013 (cvSet 2 enc_arr_2_int x1091.1 90 (a1 + ((y1246).toNat)) (x1091.1.getD (a1 + ((y1300).toNat)) default)) <|
     .grd ((a1 + ((y1246).toNat)) < x1091.1.length ∧ 0 ≤ (a1 + ((y1246).toNat))) <|
     .grd (0 ≤ y1300 ∧ y1300 < ((a2 : Nat) : Int)) <|
     .conv 8015 (cvSet 2 enc_arr_2_int (x1091.1.set (a1 + ((y1246).toNat)) (x1091.1.getD (a1 + ((y1300).toNat)) default)) 90 (a1 + ((y1300).toNat)) (x1091.1.getD (a1 + ((y1246).toNat)) default)) <|
     .grd ((a1 + ((y1300).toNat)) < (x1091.1.set (a1 + ((y1246).toNat)) (x1091.1.getD (a1 + ((y1300).toNat)) default)).length ∧ 0 ≤ (a1 + ((y1300).toNat))) <|
     .ret (.next (((x1091.1.set (a1 + ((y1246).toNat)) (x1091.1.getD (a1 + ((y1300).toNat)) default)).set (a1 + ((y1300).toNat)) (x1091.1.getD (a1 + ((y1246).toNat)) default)), (IntKind.i64.wrap (y1246 + 1)), (IntKind.i64.wrap (y1300 - 1))))))
   (((a0.set (a1 + ((a3).toNat)) (a0.getD (a1 + ((a5).toNat)) default)).set (a1 + ((a5).toNat)) (a0.getD (a1 + ((a3).toNat)) default)), (IntKind.i64.wrap (a3 + 1)), (IntKind.i64.wrap (a4 - 1))) [] fun y1200 =>
  .ret (y1200.1, y1200.2)
noncomputable def slices_partitionEqualCmpFunc_2_int_C (a0 : (List (Int × Int))) (a1 : Nat) (a2 : Nat) (a3 : Int) (a4 : Int) (a5 : Int) : CallS (Int × (List (Int × Int))) :=
  mkC [] hd Tryz.func167 (by kernel_rfl) (slices_partitionEqualCmpFunc_2_int_T a0 a1 a2 a3 a4 a5) 1 [.view 0 2 a1 a2, .pure (.int .i64 a3), .pure (.int .i64 a4), .pure (.int .i64 a5), .func 99 [] []] [(0, vecO 2 enc_arr_2_int a0 90)] (fun r => .pure (.int .i64 r.1)) (fun r => [(0, vecO 2 enc_arr_2_int r.2 90)]) (by kernel_rfl)
set_option maxHeartbeats 8000000 in
set_option maxRecDepth 20000 in
noncomputable def slices_partitionCmpFunc_2_int_T (a0 : (List (Int × Int))) (a1 : Nat) (a2 : Nat) (a3 : Int) (a4 : Int) (a5 : Int) : T (Int × Bool × (List (Int × Int))) :=
  .grd (0 ≤ a5 ∧ a5 < ((a2 : Nat) : Int)) <|
  .grd ((a1 + ((a5).toNat)) < a0.length) <|
  .grd (0 ≤ a3 ∧ a3 < ((a2 : Nat) : Int)) <|
  .grd ((a1 + ((a3).toNat)) < a0.length) <|
  .grd (0 ≤ a3 ∧ a3 < ((a2 : Nat) : Int)) <|
  .conv 1013 (cvSet 2 enc_arr_2_int a0 90 (a1 + ((a3).toNat)) (a0.getD (a1 + ((a5).toNat)) default)) <|
  .grd ((a1 + ((a3).toNat)) < a0.length ∧ 0 ≤ (a1 + ((a3).toNat))) <|
  .grd (0 ≤ a5 ∧ a5 < ((a2 : Nat) : Int)) <|
  .conv 1015 (cvSet 2 enc_arr_2_int (a0.set (a1 + ((a3).toNat)) (a0.getD (a1 + ((a5).toNat)) default)) 90 (a1 + ((a5).toNat)) (a0.getD (a1 + ((a3).toNat)) default)) <|
  .grd ((a1 + ((a5).toNat)) < (a0.set (a1 + ((a3).toNat)) (a0.getD (a1 + ((a5).toNat)) default)).length ∧ 0 ≤ (a1 + ((a5).toNat))) <|
  .loop (fun (x799 : Int) => ⟨[(0, .view 0 2 a1 a2), (1, .pure (.int .i64 a3)), (4, .func 99 [] []), (12, .pure (.int .i64 x799)), (13, .pure (.int .i64 (IntKind.i64.wrap (a4 - 1))))], [(0, vecO 2 enc_arr_2_int ((a0.set (a1 + ((a3).toNat)) (a0.getD (a1 + ((a5).toNat)) default)).set (a1 + ((a5).toNat)) (a0.getD (a1 + ((a3).toNat)) default)) 90)], [], 1⟩)
   (.exit 0) (fun (y808 : Int) => ⟨[(0, .view 0 2 a1 a2), (1, .pure (.int .i64 a3)), (4, .func 99 [] []), (12, .pure (.int .i64 y808)), (13, .pure (.int .i64 (IntKind.i64.wrap (a4 - 1))))], [(0, vecO 2 enc_arr_2_int ((a0.set (a1 + ((a3).toNat)) (a0.getD (a1 + ((a5).toNat)) default)).set (a1 + ((a5).toNat)) (a0.getD (a1 + ((a3).toNat)) default)) 90)], [], 1⟩)
   (fun x799 => .cut 1 (fun (y815 : Bool) => ⟨[(0, .view 0 2 a1 a2), (1, .pure (.int .i64 a3)), (4, .func 99 [] []), (12, .pure (.int .i64 x799)), (13, .pure (.int .i64 (IntKind.i64.wrap (a4 - 1)))), (47, .pure (.bool y815))], [(0, vecO 2 enc_arr_2_int ((a0.set (a1 + ((a3).toNat)) (a0.getD (a1 + ((a5).toNat)) default)).set (a1 + ((a5).toNat)) (a0.getD (a1 + ((a3).toNat)) default)) 90)], [], 1⟩)
     (.br (decide (x799 ≤ (IntKind.i64.wrap (a4 - 1))))
      (.grd (0 ≤ x799 ∧ x799 < ((a2 : Nat) : Int)) <|
      .grd ((a1 + ((x799).toNat)) < ((a0.set (a1 + ((a3).toNat)) (a0.getD (a1 + ((a5).toNat)) default)).set (a1 + ((a5).toNat)) (a0.getD (a1 + ((a3).toNat)) default)).length) <|
      .grd (0 ≤ a3 ∧ a3 < ((a2 : Nat) : Int)) <|
      .grd ((a1 + ((a3).toNat)) < ((a0.set (a1 + ((a3).toNat)) (a0.getD (a1 + ((a5).toNat)) default)).set (a1 + ((a5).toNat)) (a0.getD (a1 + ((a3).toNat)) default)).length) <|
      .call (roadmap_nearPairs_1_C (((a0.set (a1 + ((a3).toNat)) (a0.getD (a1 + ((a5).toNat)) default)).set (a1 + ((a5).toNat)) (a0.getD (a1 + ((a3).toNat)) default)).getD (a1 + ((x799).toNat)) default) (((a0.set (a1 + ((a3).toNat)) (a0.getD (a1 + ((a5).toNat)) default)).set (a1 + ((a5).toNat)) (a0.getD (a1 + ((a3).toNat)) default)).getD (a1 + ((a3).toNat)) default)) [] fun y816 =>
      .ret (.out (decide (y816 < 0))))
      (.ret (.out false))) fun y815 =>
    .br y815
     (.ret (.next (IntKind.i64.wrap (x799 + 1))))
     (.ret (.out x799)))
   (IntKind.i64.wrap (a3 + 1)) [] fun y808 =>
  .loop (fun (x853 : Int) => ⟨[(0, .view 0 2 a1 a2), (1, .pure (.int .i64 a3)), (4, .func 99 [] []), (12, .pure (.int .i64 y808)), (13, .pure (.int .i64 x853))], [(0, vecO 2 enc_arr_2_int ((a0.set (a1 + ((a3).toNat)) (a0.getD (a1 + ((a5).toNat)) default)).set (a1 + ((a5).toNat)) (a0.getD (a1 + ((a3).toNat)) default)) 90)], [], 1⟩)
   (.exit 2) (fun (y862 : Int) => ⟨[(0, .view 0 2 a1 a2), (1, .pure (.int .i64 a3)), (4, .func 99 [] []), (12, .pure (.int .i64 y808)), (13, .pure (.int .i64 y862))], [(0, vecO 2 enc_arr_2_int ((a0.set (a1 + ((a3).toNat)) (a0.getD (a1 + ((a5).toNat)) default)).set (a1 + ((a5).toNat)) (a0.getD (a1 + ((a3).toNat)) default)) 90)], [], 1⟩)
   (fun x853 => .cut 1 (fun (y869 : Bool) => ⟨[(0, .view 0 2 a1 a2), (1, .pure (.int .i64 a3)), (4, .func 99 [] []), (12, .pure (.int .i64 y808)), (13, .pure (.int .i64 x853)), (66, .pure (.bool y869))], [(0, vecO 2 enc_arr_2_int ((a0.set (a1 + ((a3).toNat)) (a0.getD (a1 + ((a5).toNat)) default)).set (a1 + ((a5).toNat)) (a0.getD (a1 + ((a3).toNat)) default)) 90)], [], 1⟩)
     (.br (decide (y808 ≤ x853))
      (.grd (0 ≤ x853 ∧ x853 < ((a2 : Nat) : Int)) <|
      .grd ((a1 + ((x853).toNat)) < ((a0.set (a1 + ((a3).toNat)) (a0.getD (a1 + ((a5).toNat)) default)).set (a1 + ((a5).toNat)) (a0.getD (a1 + ((a3).toNat)) default)).length) <|
      .grd (0 ≤ a3 ∧ a3 < ((a2 : Nat) : Int)) <|
      .grd ((a1 + ((a3).toNat)) < ((a0.set (a1 + ((a3).toNat)) (a0.getD (a1 + ((a5).toNat)) default)).set (a1 + ((a5).toNat)) (a0.getD (a1 + ((a3).toNat)) default)).length) <|
      .call (roadmap_nearPairs_1_C (((a0.set (a1 + ((a3).toNat)) (a0.getD (a1 + ((a5).toNat)) default)).set (a1 + ((a5).toNat)) (a0.getD (a1 + ((a3).toNat)) default)).getD (a1 + ((x853).toNat)) default) (((a0.set (a1 + ((a3).toNat)) (a0.getD (a1 + ((a5).toNat)) default)).set (a1 + ((a5).toNat)) (a0.getD (a1 + ((a3).toNat)) default)).getD (a1 + ((a3).toNat)) default)) [] fun y870 =>
      .ret (.out (!(decide (y870 < 0)))))
      (.ret (.out false))) fun y869 =>
    .br y869
     (.ret (.next (IntKind.i64.wrap (x853 - 1))))
     (.ret (.out x853)))
   (IntKind.i64.wrap (a4 - 1)) [] fun y862 =>
  .br (decide (y808 > y862))
   (.grd (0 ≤ a3 ∧ a3 < ((a2 : Nat) : Int)) <|
   .grd ((a1 + ((a3).toNat)) < ((a0.set (a1 + ((a3).toNat)) (a0.getD (a1 + ((a5).toNat)) default)).set (a1 + ((a5).toNat)) (a0.getD (a1 + ((a3).toNat)) default)).length) <|
   .grd (0 ≤ y862 ∧ y862 < ((a2 : Nat) : Int)) <|
   .grd ((a1 + ((y862).toNat)) < ((a0.set (a1 + ((a3).toNat)) (a0.getD (a1 + ((a5).toNat)) default)).set (a1 + ((a5).toNat)) (a0.getD (a1 + ((a3).toNat)) default)).length) <|
   .grd (0 ≤ y862 ∧ y862 < ((a2 : Nat) : Int)) <|
   .conv 8013 (cvSet 2 enc_arr_2_int ((a0.set (a1 + ((a3).toNat)) (a0.getD (a1 + ((a5).toNat)) default)).set (a1 + ((a5).toNat)) (a0.getD (a1 + ((a3).toNat)) default)) 90 (a1 + ((y862).toNat)) (((a0.set (a1 + ((a3).toNat)) (a0.getD (a1 + ((a5).toNat)) default)).set (a1 + ((a5).toNat)) (a0.getD (a1 + ((a3).toNat)) default)).getD (a1 + ((a3).toNat)) default)) <|
   .grd ((a1 + ((y862).toNat)) < ((a0.set (a1 + ((a3).toNat)) (a0.getD (a1 + ((a5).toNat)) default)).set (a1 + ((a5).toNat)) (a0.getD (a1 + ((a3).toNat)) default)).length ∧ 0 ≤ (a1 + ((y862).toNat))) <|
   .grd (0 ≤ a3 ∧ a3 < ((a2 : Nat) : Int)) <|
   .conv 8015 (cvSet 2 enc_arr_2_int (((a0.set (a1 + ((a3).toNat)) (a0.getD (a1 + ((a5).toNat)) default)).set (a1 + ((a5).toNat)) (a0.getD (a1 + ((a3).toNat)) default)).set (a1 + ((y862).toNat)) (((a0.set (a1 + ((a3).toNat)) (a0.getD (a1 + ((a5).toNat)) default)).set (a1 + ((a5).toNat)) (a0.getD (a1 + ((a3).toNat)) default)).getD (a1 + ((a3).toNat)) default)) 90 (a1 + ((a3).toNat)) (((a0.set (a1 + ((a3).toNat)) (a0.getD (a1 + ((a5).toNat)) default)).set (a1 + ((a5).toNat)) (a0.getD (a1 + ((a3).toNat)) default)).getD (a1 + ((y862).toNat)) default)) <|
   .grd ((a1 + ((a3).toNat)) < (((a0.set (a1 + ((a3).toNat)) (a0.getD (a1 + ((a5).toNat)) default)).set (a1 + ((a5).toNat)) (a0.getD (a1 + ((a3).toNat)) default)).set (a1 + ((y862).toNat)) (((a0.set (a1 + ((a3).toNat)) (a0.getD (a1 + ((a5).toNat)) default)).set (a1 + ((a5).toNat)) (a0.getD (a1 + ((a3).toNat)) default)).getD (a1 + ((a3).toNat)) default)).length ∧ 0 ≤ (a1 + ((a3).toNat))) <|
   .ret (y862, true, ((((a0.set (a1 + ((a3).toNat)) (a0.getD (a1 + ((a5).toNat)) default)).set (a1 + ((a5).toNat)) (a0.getD (a1 + ((a3).toNat)) default)).set (a1 + ((y862).toNat)) (((a0.set (a1 + ((a3).toNat)) (a0.getD (a1 + ((a5).toNat)) default)).set (a1 + ((a5).toNat)) (a0.getD (a1 + ((a3).toNat)) default)).getD (a1 + ((a3).toNat)) default)).set (a1 + ((a3).toNat)) (((a0.set (a1 + ((a3).toNat)) (a0.getD (a1 + ((a5).toNat)) default)).set (a1 + ((a5).toNat)) (a0.getD (a1 + ((a3).toNat)) default)).getD (a1 + ((y862).toNat)) default))))
   (.grd (0 ≤ y862 ∧ y862 < ((a2 : Nat) : Int)) <|
   .grd ((a1 + ((y862).toNat)) < ((a0.set (a1 + ((a3).toNat)) (a0.getD (a1 + ((a5).toNat)) default)).set (a1 + ((a5).toNat)) (a0.getD (a1 + ((a3).toNat)) default)).length) <|
   .grd (0 ≤ y808 ∧ y808 < ((a2 : Nat) : Int)) <|
   .grd ((a1 + ((y808).toNat)) < ((a0.set (a1 + ((a3).toNat)) (a0.getD (a1 + ((a5).toNat)) default)).set (a1 + ((a5).toNat)) (a0.getD (a1 + ((a3).toNat)) default)).length) <|
   .grd (0 ≤ y808 ∧ y808 < ((a2 : Nat) : Int)) <|
   .conv 10013 (cvSet 2 enc_arr_2_int ((a0.set (a1 + ((a3).toNat)) (a0.getD (a1 + ((a5).toNat)) default)).set (a1 + ((a5).toNat)) (a0.getD (a1 + ((a3).toNat)) default)) 90 (a1 + ((y808).toNat)) (((a0.set (a1 + ((a3).toNat)) (a0.getD (a1 + ((a5).toNat)) default)).set (a1 + ((a5).toNat)) (a0.getD (a1 + ((a3).toNat)) default)).getD (a1 + ((y862).toNat)) default)) <|
   .grd ((a1 + ((y808).toNat)) < ((a0.set (a1 + ((a3).toNat)) (a0.getD (a1 + ((a5).toNat)) default)).set (a1 + ((a5).toNat)) (a0.getD (a1 + ((a3).toNat)) default)).length ∧ 0 ≤ (a1 + ((y808).toNat))) <|
   .grd (0 ≤ y862 ∧ y862 < ((a2 : Nat) : Int)) <|
   .conv 10015 (cvSet 2 enc_arr_2_int (((a0.set (a1 + ((a3).toNat)) (a0.getD (a1 + ((a5).toNat)) default)).set (a1 + ((a5).toNat)) (a0.getD (a1 + ((a3).toNat)) default)).set (a1 + ((y808).toNat)) (((a0.set (a1 + ((a3).toNat)) (a0.getD (a1 + ((a5).toNat)) default)).set (a1 + ((a5).toNat)) (a0.getD (a1 + ((a3).toNat)) default)).getD (a1 + ((y862).toNat)) default)) 90 (a1 + ((y862).toNat)) (((a0.set (a1 + ((a3).toNat)) (a0.getD (a1 + ((a5).toNat)) default)).set (a1 + ((a5).toNat)) (a0.getD (a1 + ((a3).toNat)) default)).getD (a1 + ((y808).toNat)) default)) <|
   .grd ((a1 + ((y862).toNat)) < (((a0.set (a1 + ((a3).toNat)) (a0.getD (a1 + ((a5).toNat)) default)).set (a1 + ((a5).toNat)) (a0.getD (a1 + ((a3).toNat)) default)).set (a1 + ((y808).toNat)) (((a0.set (a1 + ((a3).toNat)) (a0.getD (a1 + ((a5).toNat)) default)).set (a1 + ((a5).toNat)) (a0.getD (a1 + ((a3).toNat)) default)).getD (a1 + ((y862).toNat)) default)).length ∧ 0 ≤ (a1 + ((y862).toNat))) <|
   .loop (fun (x1307 : ((List (Int × Int)) × Int × Int)) => ⟨[(0, .view 0 2 a1 a2), (1, .pure (.int .i64 a3)), (4, .func 99 [] []), (12, .pure (.int .i64 x1307.2.1)), (13, .pure (.int .i64 x1307.2.2))], [(0, vecO 2 enc_arr_2_int x1307.1 90)], [], 1⟩)
    (.exit 4) (fun (y1416 : ((List (Int × Int)) × Int)) => ⟨[(0, .view 0 2 a1 a2), (1, .pure (.int .i64 a3)), (13, .pure (.int .i64 y1416.2))], [(0, vecO 2 enc_arr_2_int y1416.1 90)], [], 1⟩)
    (fun x1307 => .loop (fun (x1453 : Int) => ⟨[(0, .view 0 2 a1 a2), (1, .pure (.int .i64 a3)), (4, .func 99 [] []), (12, .pure (.int .i64 x1453)), (13, .pure (.int .i64 x1307.2.2))], [(0, vecO 2 enc_arr_2_int x1307.1 90)], [], 1⟩)
      (.exit 6) (fun (y1462 : Int) => ⟨[(0, .view 0 2 a1 a2), (1, .pure (.int .i64 a3)), (4, .func 99 [] []), (12, .pure (.int .i64 y1462)), (13, .pure (.int .i64 x1307.2.2))], [(0, vecO 2 enc_arr_2_int x1307.1 90)], [], 1⟩)
      (fun x1453 => .cut 1 (fun (y1469 : Bool) => ⟨[(0, .view 0 2 a1 a2), (1, .pure (.int .i64 a3)), (4, .func 99 [] []), (12, .pure (.int .i64 x1453)), (13, .pure (.int .i64 x1307.2.2)), (120, .pure (.bool y1469))], [(0, vecO 2 enc_arr_2_int x1307.1 90)], [], 1⟩)
        (.br (decide (x1453 ≤ x1307.2.2))
         (.grd (0 ≤ x1453 ∧ x1453 < ((a2 : Nat) : Int)) <|
         .grd ((a1 + ((x1453).toNat)) < x1307.1.length) <|
         .grd (0 ≤ a3 ∧ a3 < ((a2 : Nat) : Int)) <|
         .grd ((a1 + ((a3).toNat)) < x1307.1.length) <|
         .call (roadmap_nearPairs_1_C (x1307.1.getD (a1 + ((x1453).toNat)) default) (x1307.1.getD (a1 + ((a3).toNat)) default)) [] fun y1470 =>
         .ret (.out (decide (y1470 < 0))))
         (.ret (.out false))) fun y1469 =>
       .br y1469
        (.ret (.next (IntKind.i64.wrap (x1453 + 1))))
        (.ret (.out x1453)))
      x1307.2.1 [] fun y1462 =>
     .loop (fun (x1507 : Int) => ⟨[(0, .view 0 2 a1 a2), (1, .pure (.int .i64 a3)), (4, .func 99 [] []), (12, .pure (.int .i64 y1462)), (13, .pure (.int .i64 x1507))], [(0, vecO 2 enc_arr_2_int x1307.1 90)], [], 1⟩)
      (.exit 8) (fun (y1516 : Int) => ⟨[(0, .view 0 2 a1 a2), (1, .pure (.int .i64 a3)), (4, .func 99 [] []), (12, .pure (.int .i64 y1462)), (13, .pure (.int .i64 y1516))], [(0, vecO 2 enc_arr_2_int x1307.1 90)], [], 1⟩)
      (fun x1507 => .cut 1 (fun (y1523 : Bool) => ⟨[(0, .view 0 2 a1 a2), (1, .pure (.int .i64 a3)), (4, .func 99 [] []), (12, .pure (.int .i64 y1462)), (13, .pure (.int .i64 x1507)), (139, .pure (.bool y1523))], [(0, vecO 2 enc_arr_2_int x1307.1 90)], [], 1⟩)
        (.br (decide (y1462 ≤ x1507))
         (.grd (0 ≤ x1507 ∧ x1507 < ((a2 : Nat) : Int)) <|
         .grd ((a1 + ((x1507).toNat)) < x1307.1.length) <|
         .grd (0 ≤ a3 ∧ a3 < ((a2 : Nat) : Int)) <|
         .grd ((a1 + ((a3).toNat)) < x1307.1.length) <|
         .call (roadmap_nearPairs_1_C (x1307.1.getD (a1 + ((x1507).toNat)) default) (x1307.1.getD (a1 + ((a3).toNat)) default)) [] fun y1524 =>
         .ret (.out (!(decide (y1524 < 0)))))
         (.ret (.out false))) fun y1523 =>
       .br y1523
        (.ret (.next (IntKind.i64.wrap (x1507 - 1))))
        (.ret (.out x1507)))
      x1307.2.2 [] fun y1516 =>
     .br (decide (y1462 > y1516))
      (.ret (.out (x1307.1, y1516)))
      (.grd (0 ≤ y1516 ∧ y1516 < ((a2 : Nat) : Int)) <|
      .grd ((a1 + ((y1516).toNat)) < x1307.1.length) <|
      .grd (0 ≤ y1462 ∧ y1462 < ((a2 : Nat) : Int)) <|
      .grd ((a1 + ((y1462).toNat)) < x1307.1.length) <|
      .grd (0 ≤ y1462 ∧ y1462 < ((a2 : Nat) : Int)) <|
      .conv 18013 (cvSet 2 enc_arr_2_int x1307.1 90 (a1 + ((y1462).toNat)) (x1307.1.getD (a1 + ((y1516).toNat)) default)) <|
      .grd ((a1 + ((y1462).toNat)) < x1307.1.length ∧ 0 ≤ (a1 + ((y1462).toNat))) <|
      .grd (0 ≤ y1516 ∧ y1516 < ((a2 : Nat) : Int)) <|
      .conv 18015 (cvSet 2 enc_arr_2_int (x1307.1.set (a1 + ((y1462).toNat)) (x1307.1.getD (a1 + ((y1516).toNat)) default)) 90 (a1 + ((y1516).toNat)) (x1307.1.getD (a1 + ((y1462).toNat)) default)) <|
      .grd ((a1 + ((y1516).toNat)) < (x1307.1.set (a1 + ((y1462).toNat)) (x1307.1.getD (a1 + ((y1516).toNat)) default)).length ∧ 0 ≤ (a1 + ((y1516).toNat))) <|
      .ret (.next (((x1307.1.set (a1 + ((y1462).toNat)) (x1307.1.getD (a1 + ((y1516).toNat)) default)).set (a1 + ((y1516).toNat)) (x1307.1.getD (a1 + ((y1462).toNat)) default)), (IntKind.i64.wrap (y1462 + 1)), (IntKind.i64.wrap (y1516 - 1))))))
    (((((a0.set (a1 + ((a3).toNat)) (a0.getD (a1 + ((a5).toNat)) default)).set (a1 + ((a5).toNat)) (a0.getD (a1 + ((a3).toNat)) default)).set (a1 + ((y808).toNat)) (((a0.set (a1 + ((a3).toNat)) (a0.getD (a1 + ((a5).toNat)) default)).set (a1 + ((a5).toNat)) (a0.getD (a1 + ((a3).toNat)) default)).getD (a1 + ((y862).toNat)) default)).set (a1 + ((y862).toNat)) (((a0.set (a1 + ((a3).toNat)) (a0.getD (a1 + ((a5).toNat)) default)).set (a1 + ((a5).toNat)) (a0.getD (a1 + ((a3).toNat)) default)).getD (a1 + ((y808).toNat)) default)), (IntKind.i64.wrap (y808 + 1)), (IntKind.i64.wrap (y862 - 1))) [] fun y1416 =>
   .grd (0 ≤ a3 ∧ a3 < ((a2 : Nat) : Int)) <|
   .grd ((a1 + ((a3).toNat)) < y1416.1.length) <|
   .grd (0 ≤ y1416.2 ∧ y1416.2 < ((a2 : Nat) : Int)) <|
   .grd ((a1 + ((y1416.2).toNat)) < y1416.1.length) <|
   .grd (0 ≤ y1416.2 ∧ y1416.2 < ((a2 : Nat) : Int)) <|
   .conv 21013 (cvSet 2 enc_arr_2_int y1416.1 90 (a1 + ((y1416.2).toNat)) (y1416.1.getD (a1 + ((a3).toNat)) default)) <|
   .grd ((a1 + ((y1416.2).toNat)) < y1416.1.length ∧ 0 ≤ (a1 + ((y1416.2).toNat))) <|
   .grd (0 ≤ a3 ∧ a3 < ((a2 : Nat) : Int)) <|
   .conv 21015 (cvSet 2 enc_arr_2_int (y1416.1.set (a1 + ((y1416.2).toNat)) (y1416.1.getD (a1 + ((a3).toNat)) default)) 90 (a1 + ((a3).toNat)) (y1416.1.getD (a1 + ((y1416.2).toNat)) default)) <|
   .grd ((a1 + ((a3).toNat)) < (y1416.1.set (a1 + ((y1416.2).toNat)) (y1416.1.getD (a1 + ((a3).toNat)) default)).length ∧ 0 ≤ (a1 + ((a3).toNat))) <|
   .ret (y1416.2, false, ((y1416.1.set (a1 + ((y1416.2).toNat)) (y1416.1.getD (a1 + ((a3).toNat)) default)).set (a1 + ((a3).toNat)) (y1416.1.getD (a1 + ((y1416.2).toNat)) default))))
noncomputable def slices_partitionCmpFunc_2_int_C (a0 : (List (Int × Int))) (a1 : Nat) (a2 : Nat) (a3 : Int) (a4 : Int) (a5 : Int) : CallS (Int × Bool × (List (Int × Int))) :=
  mkC [] hd Tryz.func168 (by kernel_rfl) (slices_partitionCmpFunc_2_int_T a0 a1 a2 a3 a4 a5) 1 [.view 0 2 a1 a2, .pure (.int .i64 a3), .pure (.int .i64 a4), .pure (.int .i64 a5), .func 99 [] []] [(0, vecO 2 enc_arr_2_int a0 90)] (fun r => .tup [.pure (.int .i64 r.1), .pure (.bool r.2.1)]) (fun r => [(0, vecO 2 enc_arr_2_int r.2.2 90)]) (by kernel_rfl)
noncomputable def slices_breakPatternsCmpFunc_2_int_T (a0 : (List (Int × Int))) (a1 : Nat) (a2 : Nat) (a3 : Int) (a4 : Int) : T (List (Int × Int)) :=
  .br (decide ((IntKind.i64.wrap (a4 - a3)) ≥ 8))
   (.call (slices_nextPowerOfTwo_C (IntKind.i64.wrap (a4 - a3))) [] fun y51 =>
   .ok ((4 : Int) ≠ 0) (by decide) <|
   .name 4005 ((IntKind.i64.wrap ((IntKind.i64.wrap (a3 + (IntKind.i64.wrap ((IntKind.i64.wrap ((IntKind.i64.wrap (a4 - a3)).tdiv 4)) * 2)))) - 1))) fun z53 =>
   .loop (fun (x69 : ((List (Int × Int)) × Int × Int)) => ⟨[(0, .view 0 2 a1 a2), (1, .pure (.int .i64 a3)), (8, .pure (.int .i64 (IntKind.i64.wrap (a4 - a3)))), (9, .ptr 1 0), (10, .pure (.int .u64 y51)), (11, .pure (.int .i64 x69.2.2))], [(0, vecO 2 enc_arr_2_int x69.1 90), (1, .box [.pure (.int .u64 x69.2.1)])], [], 2⟩)
    (.exit 0) (fun (y84 : (List (Int × Int))) => ⟨[], [(0, vecO 2 enc_arr_2_int y84 90)], [], 1⟩)
    (fun x69 => .ok ((4 : Int) ≠ 0) (by decide) <|
     .name 5006 ((IntKind.i64.wrap ((IntKind.i64.wrap (a3 + (IntKind.i64.wrap ((IntKind.i64.wrap ((IntKind.i64.wrap (a4 - a3)).tdiv 4)) * 2)))) + 1))) fun z88 =>
     .br (decide (x69.2.2 ≤ z88))
      (.call (xorshift_Next_C x69.2.1) [(0, 1)] fun y96 =>
      .name 7004 ((IntKind.i64.wrap (IntKind.u64.wrap (((BitVec.ofInt 64 y96.1 &&& BitVec.ofInt 64 (IntKind.u64.wrap (y51 - 1))).toNat : Int))))) fun z97 =>
      .cut 0 (fun (y98 : Int) => ⟨[(0, .view 0 2 a1 a2), (1, .pure (.int .i64 a3)), (8, .pure (.int .i64 (IntKind.i64.wrap (a4 - a3)))), (9, .ptr 1 0), (10, .pure (.int .u64 y51)), (11, .pure (.int .i64 x69.2.2)), (12, .pure (.int .i64 y98))], [(0, vecO 2 enc_arr_2_int x69.1 90), (1, .box [.pure (.int .u64 y96.2)])], [], 2⟩)
       (.br (decide (z97 ≥ (IntKind.i64.wrap (a4 - a3))))
        (.ret (.out (IntKind.i64.wrap (z97 - (IntKind.i64.wrap (a4 - a3))))))
        (.ret (.out z97))) fun y98 =>
      .grd (0 ≤ (IntKind.i64.wrap (a3 + y98)) ∧ (IntKind.i64.wrap (a3 + y98)) < ((a2 : Nat) : Int)) <|
      .grd ((a1 + (((IntKind.i64.wrap (a3 + y98))).toNat)) < x69.1.length) <|
      .grd (0 ≤ x69.2.2 ∧ x69.2.2 < ((a2 : Nat) : Int)) <|
      .grd ((a1 + ((x69.2.2).toNat)) < x69.1.length) <|
      .grd (0 ≤ x69.2.2 ∧ x69.2.2 < ((a2 : Nat) : Int)) <|
      .conv 10017 (cvSet 2 enc_arr_2_int x69.1 90 (a1 + ((x69.2.2).toNat)) (x69.1.getD (a1 + (((IntKind.i64.wrap (a3 + y98))).toNat)) default)) <|
      .grd ((a1 + ((x69.2.2).toNat)) < x69.1.length ∧ 0 ≤ (a1 + ((x69.2.2).toNat))) <|
      .grd (0 ≤ (IntKind.i64.wrap (a3 + y98)) ∧ (IntKind.i64.wrap (a3 + y98)) < ((a2 : Nat) : Int)) <|
      .conv 10019 (cvSet 2 enc_arr_2_int (x69.1.set (a1 + ((x69.2.2).toNat)) (x69.1.getD (a1 + (((IntKind.i64.wrap (a3 + y98))).toNat)) default)) 90 (a1 + (((IntKind.i64.wrap (a3 + y98))).toNat)) (x69.1.getD (a1 + ((x69.2.2).toNat)) default)) <|
      .grd ((a1 + (((IntKind.i64.wrap (a3 + y98))).toNat)) < (x69.1.set (a1 + ((x69.2.2).toNat)) (x69.1.getD (a1 + (((IntKind.i64.wrap (a3 + y98))).toNat)) default)).length ∧ 0 ≤ (a1 + (((IntKind.i64.wrap (a3 + y98))).toNat))) <|
      .ret (.next (((x69.1.set (a1 + ((x69.2.2).toNat)) (x69.1.getD (a1 + (((IntKind.i64.wrap (a3 + y98))).toNat)) default)).set (a1 + (((IntKind.i64.wrap (a3 + y98))).toNat)) (x69.1.getD (a1 + ((x69.2.2).toNat)) default)), y96.2, (IntKind.i64.wrap (x69.2.2 + 1)))))
      (.ret (.out x69.1)))
    (a0, (IntKind.u64.wrap (IntKind.i64.wrap (a4 - a3))), z53) [] fun y84 =>
   .ret y84)
   (.ret a0)
noncomputable def slices_breakPatternsCmpFunc_2_int_C (a0 : (List (Int × Int))) (a1 : Nat) (a2 : Nat) (a3 : Int) (a4 : Int) : CallS (List (Int × Int)) :=
  mkC [] hd Tryz.func163 (by kernel_rfl) (slices_breakPatternsCmpFunc_2_int_T a0 a1 a2 a3 a4) 1 [.view 0 2 a1 a2, .pure (.int .i64 a3), .pure (.int .i64 a4), .func 99 [] []] [(0, vecO 2 enc_arr_2_int a0 90)] (fun _ => .tup []) (fun r => [(0, vecO 2 enc_arr_2_int r 90)]) (by kernel_rfl)
abbrev slices_pdqsortCmpFunc_2_int_R := RecS Tryz.prog 138 1 ((List (Int × Int)) × Nat × Nat × Int × Int × Int) (List (Int × Int)) (fun a => [.view 0 2 a.2.1 a.2.2.1, .pure (.int .i64 a.2.2.2.1), .pure (.int .i64 a.2.2.2.2.1), .pure (.int .i64 a.2.2.2.2.2), .func 99 [] []]) (fun a => [(0, vecO 2 enc_arr_2_int a.1 90)]) (fun _ _ => .tup []) (fun _ r => [(0, vecO 2 enc_arr_2_int r 90)])
noncomputable def slices_pdqsortCmpFunc_2_int_T (rec : slices_pdqsortCmpFunc_2_int_R) (a0 : (List (Int × Int))) (a1 : Nat) (a2 : Nat) (a3 : Int) (a4 : Int) (a5 : Int) : T (List (Int × Int)) :=
  .loop (fun (x194 : ((List (Int × Int)) × Int × Int × Int × Bool × Bool)) => ⟨[(0, .view 0 2 a1 a2), (1, .pure (.int .i64 x194.2.1)), (2, .pure (.int .i64 x194.2.2.1)), (3, .pure (.int .i64 x194.2.2.2.1)), (4, .func 99 [] []), (10, .pure (.bool x194.2.2.2.2.1)), (11, .pure (.bool x194.2.2.2.2.2))], [(0, vecO 2 enc_arr_2_int x194.1 90)], [], 1⟩)
   .ret (fun (_ : U0) => ⟨[], [], [], 1⟩)
   (fun x194 => .br (decide ((IntKind.i64.wrap (x194.2.2.1 - x194.2.1)) ≤ 12))
     (.call (slices_insertionSortCmpFunc_2_int_C x194.1 a1 a2 x194.2.1 x194.2.2.1) [(0, 0)] fun y245 =>
     .ret (.fin y245))
     (.br (x194.2.2.2.1 == 0)
      (.call (slices_heapSortCmpFunc_2_int_C x194.1 a1 a2 x194.2.1 x194.2.2.1) [(0, 0)] fun y247 =>
      .ret (.fin y247))
      (.cut 0 (fun (y252 : ((List (Int × Int)) × Int)) => ⟨[(0, .view 0 2 a1 a2), (1, .pure (.int .i64 x194.2.1)), (2, .pure (.int .i64 x194.2.2.1)), (3, .pure (.int .i64 y252.2)), (4, .func 99 [] []), (10, .pure (.bool x194.2.2.2.2.1)), (11, .pure (.bool x194.2.2.2.2.2)), (12, .pure (.int .i64 (IntKind.i64.wrap (x194.2.2.1 - x194.2.1))))], [(0, vecO 2 enc_arr_2_int y252.1 90)], [], 1⟩)
       (.br (!x194.2.2.2.2.1)
        (.call (slices_breakPatternsCmpFunc_2_int_C x194.1 a1 a2 x194.2.1 x194.2.2.1) [(0, 0)] fun y254 =>
        .ret (.out (y254, (IntKind.i64.wrap (x194.2.2.2.1 - 1)))))
        (.ret (.out (x194.1, x194.2.2.2.1)))) fun y252 =>
      .call (slices_choosePivotCmpFunc_2_int_C y252.1 a1 a2 x194.2.1 x194.2.2.1) [(0, 0)] fun y256 =>
      .cut 0 (fun (y261 : ((List (Int × Int)) × Int × Int)) => ⟨[(0, .view 0 2 a1 a2), (1, .pure (.int .i64 x194.2.1)), (2, .pure (.int .i64 x194.2.2.1)), (3, .pure (.int .i64 y252.2)), (4, .func 99 [] []), (10, .pure (.bool x194.2.2.2.2.1)), (11, .pure (.bool x194.2.2.2.2.2)), (12, .pure (.int .i64 (IntKind.i64.wrap (x194.2.2.1 - x194.2.1)))), (13, .pure (.int .i64 y261.2.1)), (14, .pure (.int .i64 y261.2.2))], [(0, vecO 2 enc_arr_2_int y261.1 90)], [], 1⟩)
       (.br (y256.2 == 2)
        (.call (slices_reverseRangeCmpFunc_2_int_C y252.1 a1 a2 x194.2.1 x194.2.2.1) [(0, 0)] fun y263 =>
        .ret (.out (y263, (IntKind.i64.wrap ((IntKind.i64.wrap (x194.2.2.1 - 1)) - (IntKind.i64.wrap (y256.1 - x194.2.1)))), 1)))
        (.ret (.out (y252.1, y256.1, y256.2)))) fun y261 =>
      .cut 0 (fun (y270 : (List (Int × Int))) => ⟨[(0, .view 0 2 a1 a2), (1, .pure (.int .i64 x194.2.1)), (2, .pure (.int .i64 x194.2.2.1)), (3, .pure (.int .i64 y252.2)), (4, .func 99 [] []), (10, .pure (.bool x194.2.2.2.2.1)), (11, .pure (.bool x194.2.2.2.2.2)), (12, .pure (.int .i64 (IntKind.i64.wrap (x194.2.2.1 - x194.2.1)))), (13, .pure (.int .i64 y261.2.1))], [(0, vecO 2 enc_arr_2_int y270 90)], [], 1⟩)
       (.cut 0 (fun (y271 : Bool) => ⟨[(0, .view 0 2 a1 a2), (1, .pure (.int .i64 x194.2.1)), (2, .pure (.int .i64 x194.2.2.1)), (3, .pure (.int .i64 y252.2)), (4, .func 99 [] []), (10, .pure (.bool x194.2.2.2.2.1)), (11, .pure (.bool x194.2.2.2.2.2)), (12, .pure (.int .i64 (IntKind.i64.wrap (x194.2.2.1 - x194.2.1)))), (13, .pure (.int .i64 y261.2.1)), (75, .pure (.bool y271))], [(0, vecO 2 enc_arr_2_int y261.1 90)], [], 1⟩)
        (.br x194.2.2.2.2.1
         (.br x194.2.2.2.2.2
          (.ret (.out (y261.2.2 == 1)))
          (.ret (.out false)))
         (.ret (.out false))) fun y271 =>
       .br y271
        (.call (slices_partialInsertionSortCmpFunc_2_int_C y261.1 a1 a2 x194.2.1 x194.2.2.1) [(0, 0)] fun y273 =>
        .br y273.1
         (.ret (.fin (.fin y273.2)))
         (.ret (.out y273.2)))
        (.ret (.out y261.1))) fun y270 =>
      .cut 1 (fun (y282 : Bool) => ⟨[(0, .view 0 2 a1 a2), (1, .pure (.int .i64 x194.2.1)), (2, .pure (.int .i64 x194.2.2.1)), (3, .pure (.int .i64 y252.2)), (4, .func 99 [] []), (10, .pure (.bool x194.2.2.2.2.1)), (11, .pure (.bool x194.2.2.2.2.2)), (12, .pure (.int .i64 (IntKind.i64.wrap (x194.2.2.1 - x194.2.1)))), (13, .pure (.int .i64 y261.2.1)), (97, .pure (.bool y282))], [(0, vecO 2 enc_arr_2_int y270 90)], [], 1⟩)
       (.br (decide (x194.2.1 > 0))
        (.grd (0 ≤ (IntKind.i64.wrap (x194.2.1 - 1)) ∧ (IntKind.i64.wrap (x194.2.1 - 1)) < ((a2 : Nat) : Int)) <|
        .grd ((a1 + (((IntKind.i64.wrap (x194.2.1 - 1))).toNat)) < y270.length) <|
        .grd (0 ≤ y261.2.1 ∧ y261.2.1 < ((a2 : Nat) : Int)) <|
        .grd ((a1 + ((y261.2.1).toNat)) < y270.length) <|
        .call (roadmap_nearPairs_1_C (y270.getD (a1 + (((IntKind.i64.wrap (x194.2.1 - 1))).toNat)) default) (y270.getD (a1 + ((y261.2.1).toNat)) default)) [] fun y283 =>
        .ret (.out (!(decide (y283 < 0)))))
        (.ret (.out false))) fun y282 =>
      .br y282
       (.call (slices_partitionEqualCmpFunc_2_int_C y270 a1 a2 x194.2.1 x194.2.2.1 y261.2.1) [(0, 0)] fun y285 =>
       .ret (.next (y285.2, y285.1, x194.2.2.1, y252.2, x194.2.2.2.2.1, x194.2.2.2.2.2)))
       (.call (slices_partitionCmpFunc_2_int_C y270 a1 a2 x194.2.1 x194.2.2.1 y261.2.1) [(0, 0)] fun y287 =>
       .ok ((8 : Int) ≠ 0) (by decide) <|
       .br (decide ((IntKind.i64.wrap (y287.1 - x194.2.1)) < (IntKind.i64.wrap (x194.2.2.1 - y287.1))))
        (.call (rec.C (y287.2.2, a1, a2, x194.2.1, y287.1, y252.2)) [(0, 0)] fun y289 =>
        .ret (.next (y289, (IntKind.i64.wrap (y287.1 + 1)), x194.2.2.1, y252.2, (decide ((IntKind.i64.wrap (y287.1 - x194.2.1)) ≥ (IntKind.i64.wrap ((IntKind.i64.wrap (x194.2.2.1 - x194.2.1)).tdiv 8)))), y287.2.1)))
        (.call (rec.C (y287.2.2, a1, a2, (IntKind.i64.wrap (y287.1 + 1)), x194.2.2.1, y252.2)) [(0, 0)] fun y291 =>
        .ret (.next (y291, x194.2.1, y287.1, y252.2, (decide ((IntKind.i64.wrap (x194.2.2.1 - y287.1)) ≥ (IntKind.i64.wrap ((IntKind.i64.wrap (x194.2.2.1 - x194.2.1)).tdiv 8)))), y287.2.1)))))))
   (a0, a3, a4, a5, true, true) [] fun _ =>
  .stop
noncomputable def slices_pdqsortCmpFunc_2_int_S : slices_pdqsortCmpFunc_2_int_R → slices_pdqsortCmpFunc_2_int_R := RecS.next [] hd Tryz.func138 (by kernel_rfl) (fun rec a => slices_pdqsortCmpFunc_2_int_T rec a.1 a.2.1 a.2.2.1 a.2.2.2.1 a.2.2.2.2.1 a.2.2.2.2.2) (fun rec a => by kernel_rfl)
noncomputable def slices_pdqsortCmpFunc_2_int_C (a0 : (List (Int × Int))) (a1 : Nat) (a2 : Nat) (a3 : Int) (a4 : Int) (a5 : Int) : CallS (List (Int × Int)) := (RecS.fix slices_pdqsortCmpFunc_2_int_S NN).C (a0, a1, a2, a3, a4, a5)
noncomputable def slices_SortFunc_2_int_2_int_T (a0 : (List (Int × Int))) (a1 : Nat) (a2 : Nat) : T (List (Int × Int)) :=
  .call (math_bits_Len_C (IntKind.u64.wrap ((a2 : Nat) : Int))) [] fun y3 =>
  .call (slices_pdqsortCmpFunc_2_int_C a0 a1 a2 0 ((a2 : Nat) : Int) y3) [(0, 0)] fun y4 =>
  .ret y4
noncomputable def slices_SortFunc_2_int_2_int_C (a0 : (List (Int × Int))) (a1 : Nat) (a2 : Nat) : CallS (List (Int × Int)) :=
  mkC [] hd Tryz.func98 (by kernel_rfl) (slices_SortFunc_2_int_2_int_T a0 a1 a2) 1 [.view 0 2 a1 a2, .func 99 [] []] [(0, vecO 2 enc_arr_2_int a0 90)] (fun _ => .tup []) (fun r => [(0, vecO 2 enc_arr_2_int r 90)]) (by kernel_rfl)
set_option maxHeartbeats 8000000 in
set_option maxRecDepth 20000 in
noncomputable def roadmap_nearPairs_T (a0 : S_Robot) (a1 : (List (List Int))) (a2 : Int) : T (List (Int × Int)) :=
  .call (neighbor_Build_C a1) [] fun y2 =>
  .loop (fun (x143 : ((List (Int × Int)) × (List ((Int × Int) × Bool)) × Int)) => ⟨[(1, .pure (encL 1 (encL 1 encI_i64) a1)), (2, .pure (.int .i64 a2)), (3, .ptr 0 0), (7, .vec 1), (8, .map 2), (9, .pure (encL 4 enc_KdNode y2)), (18, .pure (encL 1 (encL 1 encI_i64) a1)), (19, .pure (.int .i64 ((a1.length : Nat) : Int))), (20, .pure (.int .i64 x143.2.2))], [(0, .box [.pure (encL 12 enc_Joint a0.Joints), .pure (encL 5 enc_Mass a0.Masses)]), (1, vecO 2 enc_arr_2_int x143.1 90), (2, mapR_b [.int .i64 0, .int .i64 0] cells_arr_2_int x143.2.1)], [], 3⟩)
   (.exit 0) (fun (y178 : (List (Int × Int))) => ⟨[(7, .vec 0)], [(0, vecO 2 enc_arr_2_int y178 90)], [], 1⟩)
   (fun x143 => .br (decide (x143.2.2 < ((a1.length : Nat) : Int)))
     (.grd (0 ≤ x143.2.2 ∧ x143.2.2 < ((a1.length : Nat) : Int)) <|
     .call (neighbor_Nearest_C (⟨a0.Joints, a0.Masses⟩ : S_Robot) a1 y2 (a1.getD ((x143.2.2).toNat) default) (IntKind.i64.wrap ((min a2 ((a1.length : Nat) : Int)) + 1))) [] fun y197 =>
     .loop (fun (x203 : ((List (Int × Int)) × (List ((Int × Int) × Bool)) × Int)) => ⟨[(1, .pure (encL 1 (encL 1 encI_i64) a1)), (2, .pure (.int .i64 a2)), (3, .ptr 0 0), (7, .vec 1), (8, .map 2), (9, .pure (encL 4 enc_KdNode y2)), (10, .pure (.int .i64 x143.2.2)), (18, .pure (encL 1 (encL 1 encI_i64) a1)), (19, .pure (.int .i64 ((a1.length : Nat) : Int))), (20, .pure (.int .i64 x143.2.2)), (34, .pure (encL 1 encI_i64 y197)), (35, .pure (.int .i64 ((y197.length : Nat) : Int))), (36, .pure (.int .i64 x203.2.2))], [(0, .box [.pure (encL 12 enc_Joint a0.Joints), .pure (encL 5 enc_Mass a0.Masses)]), (1, vecO 2 enc_arr_2_int x203.1 90), (2, mapR_b [.int .i64 0, .int .i64 0] cells_arr_2_int x203.2.1)], [], 3⟩)
      (.exit 2) (fun (y208 : ((List (Int × Int)) × (List ((Int × Int) × Bool)))) => ⟨[(1, .pure (encL 1 (encL 1 encI_i64) a1)), (2, .pure (.int .i64 a2)), (3, .ptr 0 0), (7, .vec 1), (8, .map 2), (9, .pure (encL 4 enc_KdNode y2)), (18, .pure (encL 1 (encL 1 encI_i64) a1)), (19, .pure (.int .i64 ((a1.length : Nat) : Int))), (20, .pure (.int .i64 x143.2.2))], [(0, .box [.pure (encL 12 enc_Joint a0.Joints), .pure (encL 5 enc_Mass a0.Masses)]), (1, vecO 2 enc_arr_2_int y208.1 90), (2, mapR_b [.int .i64 0, .int .i64 0] cells_arr_2_int y208.2)], [], 3⟩)
      (fun x203 => .br (decide (x203.2.2 < ((y197.length : Nat) : Int)))
        (.cut 0 (fun (y211 : ((List (Int × Int)) × (List ((Int × Int) × Bool)))) => ⟨[(1, .pure (encL 1 (encL 1 encI_i64) a1)), (2, .pure (.int .i64 a2)), (3, .ptr 0 0), (7, .vec 1), (8, .map 2), (9, .pure (encL 4 enc_KdNode y2)), (10, .pure (.int .i64 x143.2.2)), (18, .pure (encL 1 (encL 1 encI_i64) a1)), (19, .pure (.int .i64 ((a1.length : Nat) : Int))), (20, .pure (.int .i64 x143.2.2)), (34, .pure (encL 1 encI_i64 y197)), (35, .pure (.int .i64 ((y197.length : Nat) : Int))), (36, .pure (.int .i64 x203.2.2))], [(0, .box [.pure (encL 12 enc_Joint a0.Joints), .pure (encL 5 enc_Mass a0.Masses)]), (1, vecO 2 enc_arr_2_int y211.1 90), (2, mapR_b [.int .i64 0, .int .i64 0] cells_arr_2_int y211.2)], [], 3⟩)
         (.grd (0 ≤ x203.2.2 ∧ x203.2.2 < ((y197.length : Nat) : Int)) <|
         .cut 1 (fun (y212 : Bool) => ⟨[(1, .pure (encL 1 (encL 1 encI_i64) a1)), (2, .pure (.int .i64 a2)), (3, .ptr 0 0), (7, .vec 1), (8, .map 2), (9, .pure (encL 4 enc_KdNode y2)), (10, .pure (.int .i64 x143.2.2)), (14, .ptr 3 0), (18, .pure (encL 1 (encL 1 encI_i64) a1)), (19, .pure (.int .i64 ((a1.length : Nat) : Int))), (20, .pure (.int .i64 x143.2.2)), (34, .pure (encL 1 encI_i64 y197)), (35, .pure (.int .i64 ((y197.length : Nat) : Int))), (36, .pure (.int .i64 x203.2.2)), (55, .pure (.bool y212))], [(0, .box [.pure (encL 12 enc_Joint a0.Joints), .pure (encL 5 enc_Mass a0.Masses)]), (1, vecO 2 enc_arr_2_int x203.1 90), (2, mapR_b [.int .i64 0, .int .i64 0] cells_arr_2_int x203.2.1), (3, .box [.pure (.int .i64 (min x143.2.2 (y197.getD ((x203.2.2).toNat) default))), .pure (.int .i64 (max x143.2.2 (y197.getD ((x203.2.2).toNat) default)))])], [], 4⟩)
          (.br (x143.2.2 != (y197.getD ((x203.2.2).toNat) default))
           (.ok ((mdom cells_arr_2_int x203.2.1 (cells_arr_2_int ((min x143.2.2 (y197.getD ((x203.2.2).toNat) default)), (max x143.2.2 (y197.getD ((x203.2.2).toNat) default))))) = false → PVal.bool (mgetB cells_arr_2_int x203.2.1 (cells_arr_2_int ((min x143.2.2 (y197.getD ((x203.2.2).toNat) default)), (max x143.2.2 (y197.getD ((x203.2.2).toNat) default))))) = .bool false) mgetB0 <|
           .ret (.out (!(mgetB cells_arr_2_int x203.2.1 (cells_arr_2_int ((min x143.2.2 (y197.getD ((x203.2.2).toNat) default)), (max x143.2.2 (y197.getD ((x203.2.2).toNat) default))))))))
           (.ret (.out false))) fun y212 =>
         .br y212
          (.conv 12002 (cvMapB [.int .i64 0, .int .i64 0] cells_arr_2_int x203.2.1 ((min x143.2.2 (y197.getD ((x203.2.2).toNat) default)), (max x143.2.2 (y197.getD ((x203.2.2).toNat) default))) true) <|
          .conv 13002 (cvLit 2 enc_arr_2_int ([((min x143.2.2 (y197.getD ((x203.2.2).toNat) default)), (max x143.2.2 (y197.getD ((x203.2.2).toNat) default)))] : (List (Int × Int))) 90) <|
          .conv 13003 (cvApp 2 enc_arr_2_int x203.1 ([((min x143.2.2 (y197.getD ((x203.2.2).toNat) default)), (max x143.2.2 (y197.getD ((x203.2.2).toNat) default)))] : (List (Int × Int))) 90) <|
          .grd ((x203.1.length + ([((min x143.2.2 (y197.getD ((x203.2.2).toNat) default)), (max x143.2.2 (y197.getD ((x203.2.2).toNat) default)))] : (List (Int × Int))).length) * 16 ≤ 140737488355328 ∧ (x203.1.length + ([((min x143.2.2 (y197.getD ((x203.2.2).toNat) default)), (max x143.2.2 (y197.getD ((x203.2.2).toNat) default)))] : (List (Int × Int))).length) ≤ maxLen) <|
          .ret (.out ((x203.1 ++ ([((min x143.2.2 (y197.getD ((x203.2.2).toNat) default)), (max x143.2.2 (y197.getD ((x203.2.2).toNat) default)))] : (List (Int × Int)))), ((((min x143.2.2 (y197.getD ((x203.2.2).toNat) default)), (max x143.2.2 (y197.getD ((x203.2.2).toNat) default))), true) :: x203.2.1))))
          (.ret (.out (x203.1, x203.2.1)))) fun y211 =>
        .ret (.next (y211.1, y211.2, (IntKind.i64.wrap (x203.2.2 + 1)))))
        (.ret (.out (x203.1, x203.2.1))))
      (x143.1, x143.2.1, 0) [] fun y208 =>
     .ret (.next (y208.1, y208.2, (IntKind.i64.wrap (x143.2.2 + 1)))))
     (.ret (.out x143.1)))
   (nl, (nl : List ((Int × Int) × Bool)), 0) [] fun y178 =>
  .call (slices_SortFunc_2_int_2_int_C y178 0 y178.length) [(0, 0)] fun y214 =>
  .ret y214
noncomputable def roadmap_nearPairs_C (a0 : S_Robot) (a1 : (List (List Int))) (a2 : Int) : CallS (List (Int × Int)) :=
  mkC [] hd Tryz.func53 (by kernel_rfl) (roadmap_nearPairs_T a0 a1 a2) 0 [.pure (enc_Robot a0), .pure (encL 1 (encL 1 encI_i64) a1), .pure (.int .i64 a2)] [] (fun r => .pure (encL 2 enc_arr_2_int r)) (fun _ => []) (by kernel_rfl)
noncomputable def config_small_1_T (a0 : Int) : T Bool :=
  .br (decide (a0 < (-2147483648)))
   (.ret true)
   (.ret (decide (a0 > 2147483648)))
noncomputable def config_small_1_C (a0 : Int) : CallS Bool :=
  mkC [] hd Tryz.func160 (by kernel_rfl) (config_small_1_T a0) 0 [.pure (.int .i64 a0)] [] (fun r => .pure (.bool r)) (fun _ => []) (by kernel_rfl)
noncomputable def slices_IndexFunc_int64_int64_T (a0 : (List Int)) : T Int :=
  .loop (fun (x21 : Int) => ⟨[(0, .pure (encL 1 encI_i64 a0)), (1, .func 160 [] []), (7, .pure (.int .i64 ((a0.length : Nat) : Int))), (8, .pure (.int .i64 x21))], [], [], 0⟩)
   (.exit 0) (fun (_ : U0) => ⟨[], [], [], 0⟩)
   (fun x21 => .br (decide (x21 < ((a0.length : Nat) : Int)))
     (.grd (0 ≤ x21 ∧ x21 < ((a0.length : Nat) : Int)) <|
     .call (config_small_1_C (a0.getD ((x21).toNat) default)) [] fun y30 =>
     .br y30
      (.ret (.fin x21))
      (.ret (.next (IntKind.i64.wrap (x21 + 1)))))
     (.ret (.out .u)))
   0 [] fun _ =>
  .ret (-1)
noncomputable def slices_IndexFunc_int64_int64_C (a0 : (List Int)) : CallS Int :=
  mkC [] hd Tryz.func187 (by kernel_rfl) (slices_IndexFunc_int64_int64_T a0) 0 [.pure (encL 1 encI_i64 a0), .func 160 [] []] [] (fun r => .pure (.int .i64 r)) (fun _ => []) (by kernel_rfl)
noncomputable def slices_ContainsFunc_int64_int64_T (a0 : (List Int)) : T Bool :=
  .call (slices_IndexFunc_int64_int64_C a0) [] fun y1 =>
  .ret (decide (y1 ≥ 0))
noncomputable def slices_ContainsFunc_int64_int64_C (a0 : (List Int)) : CallS Bool :=
  mkC [] hd Tryz.func159 (by kernel_rfl) (slices_ContainsFunc_int64_int64_T a0) 0 [.pure (encL 1 encI_i64 a0), .func 160 [] []] [] (fun r => .pure (.bool r)) (fun _ => []) (by kernel_rfl)
noncomputable def config_small_T (a0 : (List Int)) : T Bool :=
  .call (slices_ContainsFunc_int64_int64_C a0) [] fun y1 =>
  .ret (!y1)
noncomputable def config_small_C (a0 : (List Int)) : CallS Bool :=
  mkC [] hd Tryz.func133 (by kernel_rfl) (config_small_T a0) 0 [.pure (encL 1 encI_i64 a0)] [] (fun r => .pure (.bool r)) (fun _ => []) (by kernel_rfl)
noncomputable def config_Distance_T (a0 : S_Robot) (a1 : (List Int)) (a2 : (List Int)) : T Int :=
  .cut 3 (fun (y55 : Bool) => ⟨[(1, .pure (encL 1 encI_i64 a1)), (2, .pure (encL 1 encI_i64 a2)), (3, .ptr 0 0), (38, .pure (.bool y55))], [(0, .box [.pure (encL 12 enc_Joint a0.Joints), .pure (encL 5 enc_Mass a0.Masses)])], [], 1⟩)
   (.br (((a1.length : Nat) : Int) != ((a0.Joints.length : Nat) : Int))
    (.ret (.out true))
    (.br (((a2.length : Nat) : Int) != ((a0.Joints.length : Nat) : Int))
     (.ret (.out true))
     (.call (config_small_C a1) [] fun y56 =>
     .br (!y56)
      (.ret (.out true))
      (.call (config_small_C a2) [] fun y57 =>
      .br (!y57)
       (.ret (.out true))
       (.call (robot_Check_C (⟨a0.Joints, a0.Masses⟩ : S_Robot)) [] fun y58 =>
       .ret (.out (y58 != 0))))))) fun y55 =>
  .br y55
   (.ret 0)
   (.loop (fun (x71 : (Int × Int)) => ⟨[(1, .pure (encL 1 encI_i64 a1)), (2, .pure (encL 1 encI_i64 a2)), (8, .pure (.int .i64 x71.1)), (40, .pure (encL 12 enc_Joint a0.Joints)), (41, .pure (.int .i64 ((a0.Joints.length : Nat) : Int))), (42, .pure (.int .i64 x71.2))], [], [], 0⟩)
    (.exit 0) (fun (y74 : Int) => ⟨[(8, .pure (.int .i64 y74))], [], [], 0⟩)
    (fun x71 => .br (decide (x71.2 < ((a0.Joints.length : Nat) : Int)))
      (.grd (0 ≤ x71.2 ∧ x71.2 < ((a0.Joints.length : Nat) : Int)) <|
      .grd (0 ≤ x71.2 ∧ x71.2 < ((a2.length : Nat) : Int)) <|
      .grd (0 ≤ x71.2 ∧ x71.2 < ((a1.length : Nat) : Int)) <|
      .grd (0 ≤ x71.2 ∧ x71.2 < ((a1.length : Nat) : Int)) <|
      .grd (0 ≤ x71.2 ∧ x71.2 < ((a2.length : Nat) : Int)) <|
      .name 8021 ((max (IntKind.i64.wrap ((a2.getD ((x71.2).toNat) default) - (a1.getD ((x71.2).toNat) default))) (IntKind.i64.wrap ((a1.getD ((x71.2).toNat) default) - (a2.getD ((x71.2).toNat) default))))) fun z76 =>
      .ret (.next ((IntKind.i64.wrap (x71.1 + (IntKind.i64.wrap (((a0.Joints.getD ((x71.2).toNat) default).Weight) * z76)))), (IntKind.i64.wrap (x71.2 + 1)))))
      (.ret (.out x71.1)))
    (0, 0) [] fun y74 =>
   .ret y74)
noncomputable def config_Distance_C (a0 : S_Robot) (a1 : (List Int)) (a2 : (List Int)) : CallS Int :=
  mkC [] hd Tryz.func86 (by kernel_rfl) (config_Distance_T a0 a1 a2) 0 [.pure (enc_Robot a0), .pure (encL 1 encI_i64 a1), .pure (encL 1 encI_i64 a2)] [] (fun r => .pure (.int .i64 r)) (fun _ => []) (by kernel_rfl)
noncomputable def roadmap_untested_T (a0 : S_Robot) (a1 : (List (List Int))) (a2 : Int) (a3 : Int) : T S_RoadmapEdge :=
  .grd (0 ≤ a2 ∧ a2 < ((a1.length : Nat) : Int)) <|
  .grd (0 ≤ a3 ∧ a3 < ((a1.length : Nat) : Int)) <|
  .call (config_Distance_C (⟨a0.Joints, a0.Masses⟩ : S_Robot) (a1.getD ((a2).toNat) default) (a1.getD ((a3).toNat) default)) [] fun y1 =>
  .ret (⟨a2, a3, y1, 0, (⟨0, nl, (⟨0, 0, nl⟩ : S_Piece), (⟨0, nl, nl⟩ : S_Witness)⟩ : S_EdgeResult)⟩ : S_RoadmapEdge)
noncomputable def roadmap_untested_C (a0 : S_Robot) (a1 : (List (List Int))) (a2 : Int) (a3 : Int) : CallS S_RoadmapEdge :=
  mkC [] hd Tryz.func54 (by kernel_rfl) (roadmap_untested_T a0 a1 a2 a3) 0 [.pure (enc_Robot a0), .pure (encL 1 (encL 1 encI_i64) a1), .pure (.int .i64 a2), .pure (.int .i64 a3)] [] (fun r => .pure (enc_RoadmapEdge r)) (fun _ => []) (by kernel_rfl)
noncomputable def roadmap_New_T (a0 : S_Robot) (a1 : (List (List Int))) (a2 : Int) : T S_Roadmap :=
  .call (robot_Check_C (⟨a0.Joints, a0.Masses⟩ : S_Robot)) [] fun y58 =>
  .br (y58 != 0)
   (.ret (⟨nl, nl⟩ : S_Roadmap))
   (.call (roadmap_distinct_C (⟨a0.Joints, a0.Masses⟩ : S_Robot) a1) [] fun y60 =>
   .br (decide (a2 < 1))
    (.ret (⟨y60, nl⟩ : S_Roadmap))
    (.call (roadmap_nearPairs_C (⟨a0.Joints, a0.Masses⟩ : S_Robot) y60 a2) [] fun y62 =>
    .conv 8004 (cvSlice 2 enc_arr_2_int y62 (0 : Int) (min ((y62.length : Nat) : Int) 8192)) <|
    .grd (0 ≤ (0 : Int) ∧ (0 : Int) ≤ (min ((y62.length : Nat) : Int) 8192) ∧ (min ((y62.length : Nat) : Int) 8192) ≤ ((y62.length : Nat) : Int)) <|
    .name 8005 (((((y62.drop ((0 : Int).toNat)).take (((min ((y62.length : Nat) : Int) 8192)).toNat - (0 : Int).toNat)).length : Nat) : Int)) fun z87 =>
    .loop (fun (x95 : ((List S_RoadmapEdge) × Int)) => ⟨[(3, .ptr 0 0), (6, .ptr 1 0), (31, .pure (encL 2 enc_arr_2_int ((y62.drop ((0 : Int).toNat)).take (((min ((y62.length : Nat) : Int) 8192)).toNat - (0 : Int).toNat)))), (32, .pure (.int .i64 z87)), (33, .pure (.int .i64 x95.2))], [(0, .box [.pure (encL 12 enc_Joint a0.Joints), .pure (encL 5 enc_Mass a0.Masses)]), (1, .box [.pure (encL 1 (encL 1 encI_i64) y60), .vec 2]), (2, vecO 12 enc_RoadmapEdge x95.1 57)], [.func 52 [] [.ptr 1 0]], 3⟩)
     (.exit 0) (fun (y102 : (List S_RoadmapEdge)) => ⟨[(6, .ptr 0 0)], [(0, .box [.pure (encL 1 (encL 1 encI_i64) y60), .vec 1]), (1, vecO 12 enc_RoadmapEdge y102 57)], [.func 52 [] [.ptr 0 0]], 2⟩)
     (fun x95 => .br (decide (x95.2 < z87))
       (.grd (0 ≤ x95.2 ∧ x95.2 < ((((y62.drop ((0 : Int).toNat)).take (((min ((y62.length : Nat) : Int) 8192)).toNat - (0 : Int).toNat)).length : Nat) : Int)) <|
       .ix 0 2 rfl <|
       .name 11006 ((((y62.drop ((0 : Int).toNat)).take (((min ((y62.length : Nat) : Int) 8192)).toNat - (0 : Int).toNat)).getD ((x95.2).toNat) default).1) fun z106 =>
       .ix 1 2 rfl <|
       .name 11008 ((((y62.drop ((0 : Int).toNat)).take (((min ((y62.length : Nat) : Int) 8192)).toNat - (0 : Int).toNat)).getD ((x95.2).toNat) default).2) fun z107 =>
       .call (roadmap_untested_C (⟨a0.Joints, a0.Masses⟩ : S_Robot) y60 z106 z107) [] fun y108 =>
       .conv 11010 (cvLit 12 enc_RoadmapEdge ([y108] : (List S_RoadmapEdge)) 57) <|
       .conv 11011 (cvApp 12 enc_RoadmapEdge x95.1 ([y108] : (List S_RoadmapEdge)) 57) <|
       .grd ((x95.1.length + ([y108] : (List S_RoadmapEdge)).length) * 160 ≤ 140737488355328 ∧ (x95.1.length + ([y108] : (List S_RoadmapEdge)).length) ≤ maxLen) <|
       .ret (.next ((x95.1 ++ ([y108] : (List S_RoadmapEdge))), (IntKind.i64.wrap (x95.2 + 1)))))
       (.ret (.out x95.1)))
     (nl, 0) [] fun y102 =>
    .ret (⟨y60, y102⟩ : S_Roadmap)))
noncomputable def roadmap_New_C (a0 : S_Robot) (a1 : (List (List Int))) (a2 : Int) : CallS S_Roadmap :=
  mkC [⟨52, guard52⟩] hd Tryz.func20 (by kernel_rfl) (roadmap_New_T a0 a1 a2) 0 [.pure (enc_Robot a0), .pure (encL 1 (encL 1 encI_i64) a1), .pure (.int .i64 a2)] [] (fun r => .pure (enc_Roadmap r)) (fun _ => []) (by kernel_rfl)
noncomputable def slices_Clone_int64_int64_1_T (a0 : (List (List Int))) : T (List (List Int)) :=
  (match a0 with
   | [] => .unroll 1 <|
   .grd (a0.length = 0) <|
   .both
    (.ret nl)
    (.conv 3000 (cvLit 1 (encL 1 encI_i64) ([] : (List (List Int))) 40) <|
    .conv 3002 (cvApp 1 (encL 1 encI_i64) ([] : (List (List Int))) a0 40) <|
    .grd ((([] : (List (List Int))).length + a0.length) * 24 ≤ 140737488355328 ∧ (([] : (List (List Int))).length + a0.length) ≤ maxLen) <|
    .ret (([] : (List (List Int))) ++ a0))
   | _ :: _ => .grd (0 < a0.length) <|
   .conv 3000 (cvLit 1 (encL 1 encI_i64) ([] : (List (List Int))) 40) <|
   .conv 3002 (cvApp 1 (encL 1 encI_i64) ([] : (List (List Int))) a0 40) <|
   .grd ((([] : (List (List Int))).length + a0.length) * 24 ≤ 140737488355328 ∧ (([] : (List (List Int))).length + a0.length) ≤ maxLen) <|
   .ret (([] : (List (List Int))) ++ a0))
noncomputable def slices_Clone_int64_int64_1_C (a0 : (List (List Int))) : CallS (List (List Int)) :=
  mkH [] hd Tryz.func103 (by kernel_rfl) (slices_Clone_int64_int64_1_T a0) 0 [.pure (encL 1 (encL 1 encI_i64) a0)] [] (fun _ => .vec 0) (fun r => [(0, vecO 1 (encL 1 encI_i64) r 40)]) (by cases a0 <;> exact Ob.of_side (by kernel_rfl))
noncomputable def slices_Clone_api_RoadmapEdge_api_RoadmapEdge_T (a0 : (List S_RoadmapEdge)) : T (List S_RoadmapEdge) :=
  (match a0 with
   | [] => .unroll 1 <|
   .grd (a0.length = 0) <|
   .both
    (.ret nl)
    (.conv 3000 (cvLit 12 enc_RoadmapEdge ([] : (List S_RoadmapEdge)) 57) <|
    .conv 3002 (cvApp 12 enc_RoadmapEdge ([] : (List S_RoadmapEdge)) a0 57) <|
    .grd ((([] : (List S_RoadmapEdge)).length + a0.length) * 160 ≤ 140737488355328 ∧ (([] : (List S_RoadmapEdge)).length + a0.length) ≤ maxLen) <|
    .ret (([] : (List S_RoadmapEdge)) ++ a0))
   | _ :: _ => .grd (0 < a0.length) <|
   .conv 3000 (cvLit 12 enc_RoadmapEdge ([] : (List S_RoadmapEdge)) 57) <|
   .conv 3002 (cvApp 12 enc_RoadmapEdge ([] : (List S_RoadmapEdge)) a0 57) <|
   .grd ((([] : (List S_RoadmapEdge)).length + a0.length) * 160 ≤ 140737488355328 ∧ (([] : (List S_RoadmapEdge)).length + a0.length) ≤ maxLen) <|
   .ret (([] : (List S_RoadmapEdge)) ++ a0))
noncomputable def slices_Clone_api_RoadmapEdge_api_RoadmapEdge_C (a0 : (List S_RoadmapEdge)) : CallS (List S_RoadmapEdge) :=
  mkH [] hd Tryz.func104 (by kernel_rfl) (slices_Clone_api_RoadmapEdge_api_RoadmapEdge_T a0) 0 [.pure (encL 12 enc_RoadmapEdge a0)] [] (fun _ => .vec 0) (fun r => [(0, vecO 12 enc_RoadmapEdge r 57)]) (by cases a0 <;> exact Ob.of_side (by kernel_rfl))
noncomputable def slices_Clone_api_Piece_api_Piece_T (a0 : (List S_Piece)) : T (List S_Piece) :=
  (match a0 with
   | [] => .unroll 1 <|
   .grd (a0.length = 0) <|
   .both
    (.ret nl)
    (.conv 3000 (cvLit 3 enc_Piece ([] : (List S_Piece)) 51) <|
    .conv 3002 (cvApp 3 enc_Piece ([] : (List S_Piece)) a0 51) <|
    .grd ((([] : (List S_Piece)).length + a0.length) * 40 ≤ 140737488355328 ∧ (([] : (List S_Piece)).length + a0.length) ≤ maxLen) <|
    .ret (([] : (List S_Piece)) ++ a0))
   | _ :: _ => .grd (0 < a0.length) <|
   .conv 3000 (cvLit 3 enc_Piece ([] : (List S_Piece)) 51) <|
   .conv 3002 (cvApp 3 enc_Piece ([] : (List S_Piece)) a0 51) <|
   .grd ((([] : (List S_Piece)).length + a0.length) * 40 ≤ 140737488355328 ∧ (([] : (List S_Piece)).length + a0.length) ≤ maxLen) <|
   .ret (([] : (List S_Piece)) ++ a0))
noncomputable def slices_Clone_api_Piece_api_Piece_C (a0 : (List S_Piece)) : CallS (List S_Piece) :=
  mkH [] hd Tryz.func125 (by kernel_rfl) (slices_Clone_api_Piece_api_Piece_T a0) 0 [.pure (encL 3 enc_Piece a0)] [] (fun _ => .vec 0) (fun r => [(0, vecO 3 enc_Piece r 51)]) (by cases a0 <;> exact Ob.of_side (by kernel_rfl))
noncomputable def slices_Clone_api_Vec_api_Vec_T (a0 : (List (Int × Int × Int))) : T (List (Int × Int × Int)) :=
  (match a0 with
   | [] => .unroll 1 <|
   .grd (a0.length = 0) <|
   .both
    (.ret nl)
    (.conv 3000 (cvLit 3 enc_arr_3_int64 ([] : (List (Int × Int × Int))) 98) <|
    .conv 3002 (cvApp 3 enc_arr_3_int64 ([] : (List (Int × Int × Int))) a0 98) <|
    .grd ((([] : (List (Int × Int × Int))).length + a0.length) * 24 ≤ 140737488355328 ∧ (([] : (List (Int × Int × Int))).length + a0.length) ≤ maxLen) <|
    .ret (([] : (List (Int × Int × Int))) ++ a0))
   | _ :: _ => .grd (0 < a0.length) <|
   .conv 3000 (cvLit 3 enc_arr_3_int64 ([] : (List (Int × Int × Int))) 98) <|
   .conv 3002 (cvApp 3 enc_arr_3_int64 ([] : (List (Int × Int × Int))) a0 98) <|
   .grd ((([] : (List (Int × Int × Int))).length + a0.length) * 24 ≤ 140737488355328 ∧ (([] : (List (Int × Int × Int))).length + a0.length) ≤ maxLen) <|
   .ret (([] : (List (Int × Int × Int))) ++ a0))
noncomputable def slices_Clone_api_Vec_api_Vec_C (a0 : (List (Int × Int × Int))) : CallS (List (Int × Int × Int)) :=
  mkH [] hd Tryz.func126 (by kernel_rfl) (slices_Clone_api_Vec_api_Vec_T a0) 0 [.pure (encL 3 enc_arr_3_int64 a0)] [] (fun r => .pure (encL 3 enc_arr_3_int64 r)) (fun _ => []) (by cases a0 <;> exact Ob.of_side (by kernel_rfl))
noncomputable def roadmap_cloneResult_T (a0 : S_EdgeResult) : T S_EdgeResult :=
  .call (slices_Clone_api_Piece_api_Piece_C a0.Pieces) [] fun y2 =>
  .unroll 998 <|
  .loop (fun (x15 : ((List S_Piece) × Int)) => ⟨[(1, .ptr 0 0), (2, .ptr 2 0), (10, .vec 1), (11, .pure (.int .i64 ((y2.length : Nat) : Int))), (12, .pure (.int .i64 x15.2))], [(0, .box [.pure (.int .i64 a0.Kind), .vec 1, .pure (.int .i64 a0.At.Depth), .pure (.int .i64 a0.At.Index), .pure (encL 3 enc_arr_3_int64 a0.At.Normals), .pure (.int .i64 a0.Witness.Pair), .pure (encL 1 encI_i64 a0.Witness.Left), .pure (encL 1 encI_i64 a0.Witness.Right)]), (1, vecO 3 enc_Piece x15.1 51), (2, .box [.pure (.int .i64 0), .vec 3, .pure (.int .i64 0), .pure (.int .i64 0), .vec 4, .pure (.int .i64 0), .vec 5, .vec 6]), (3, .nilv), (4, .nilv), (5, .nilv), (6, .nilv)], [], 7⟩)
   (.exit 0) (fun (y18 : (List S_Piece)) => ⟨[(1, .ptr 0 0), (2, .ptr 2 0)], [(0, .box [.pure (.int .i64 a0.Kind), .vec 1, .pure (.int .i64 a0.At.Depth), .pure (.int .i64 a0.At.Index), .pure (encL 3 enc_arr_3_int64 a0.At.Normals), .pure (.int .i64 a0.Witness.Pair), .pure (encL 1 encI_i64 a0.Witness.Left), .pure (encL 1 encI_i64 a0.Witness.Right)]), (1, vecO 3 enc_Piece y18 51), (2, .box [.pure (.int .i64 0), .vec 3, .pure (.int .i64 0), .pure (.int .i64 0), .vec 4, .pure (.int .i64 0), .vec 5, .vec 6]), (3, .nilv), (4, .nilv), (5, .nilv), (6, .nilv)], [], 7⟩)
   (fun x15 => .br (decide (x15.2 < ((y2.length : Nat) : Int)))
     (.grd (0 ≤ x15.2 ∧ x15.2 < ((x15.1.length : Nat) : Int)) <|
     .grd ((x15.2).toNat < x15.1.length) <|
     .call (slices_Clone_api_Vec_api_Vec_C ((x15.1.getD ((x15.2).toNat) default).Normals)) [] fun y20 =>
     .grd (0 ≤ x15.2 ∧ x15.2 < ((x15.1.length : Nat) : Int)) <|
     .conv 5008 (cvSet 3 enc_Piece x15.1 51 ((x15.2).toNat) (⟨(x15.1.getD ((x15.2).toNat) default).Depth, (x15.1.getD ((x15.2).toNat) default).Index, y20⟩ : S_Piece)) <|
     .grd ((x15.2).toNat < x15.1.length ∧ 0 ≤ (x15.2).toNat) <|
     .ret (.next ((x15.1.set ((x15.2).toNat) (⟨(x15.1.getD ((x15.2).toNat) default).Depth, (x15.1.getD ((x15.2).toNat) default).Index, y20⟩ : S_Piece)), (IntKind.i64.wrap (x15.2 + 1)))))
     (.ret (.out x15.1)))
   (y2, 0) [] fun y18 =>
  .call (slices_Clone_api_Vec_api_Vec_C a0.At.Normals) [] fun y22 =>
  .call (slices_Clone_int64_int64_C a0.Witness.Left) [] fun y24 =>
  .call (slices_Clone_int64_int64_C a0.Witness.Right) [] fun y26 =>
  .ret (⟨a0.Kind, y18, (⟨a0.At.Depth, a0.At.Index, y22⟩ : S_Piece), (⟨a0.Witness.Pair, y24, y26⟩ : S_Witness)⟩ : S_EdgeResult)
noncomputable def roadmap_cloneResult_C (a0 : S_EdgeResult) : CallS S_EdgeResult :=
  mkC [] hd Tryz.func76 (by kernel_rfl) (roadmap_cloneResult_T a0) 0 [.pure (enc_EdgeResult a0)] [] (fun r => .pure (enc_EdgeResult r)) (fun _ => []) (by kernel_rfl)
noncomputable def roadmap_clone_T (a0 : S_Roadmap) : T ((List (List Int)) × (List S_RoadmapEdge)) :=
  .call (slices_Clone_int64_int64_1_C a0.Points) [] fun y3 =>
  .call (slices_Clone_api_RoadmapEdge_api_RoadmapEdge_C a0.Edges) [] fun y4 =>
  .loop (fun (x17 : ((List (List Int)) × Int)) => ⟨[(2, .ptr 0 0), (3, .vec 3), (4, .vec 4), (15, .vec 3), (16, .pure (.int .i64 ((y3.length : Nat) : Int))), (17, .pure (.int .i64 x17.2))], [(0, .box [.vec 1, .vec 2]), (1, .nilv), (2, .nilv), (3, vecO 1 (encL 1 encI_i64) x17.1 40), (4, vecO 12 enc_RoadmapEdge y4 57)], [], 5⟩)
   (.exit 0) (fun (y20 : (List (List Int))) => ⟨[(2, .ptr 0 0), (3, .vec 3), (4, .vec 4)], [(0, .box [.vec 1, .vec 2]), (1, .nilv), (2, .nilv), (3, vecO 1 (encL 1 encI_i64) y20 40), (4, vecO 12 enc_RoadmapEdge y4 57)], [], 5⟩)
   (fun x17 => .br (decide (x17.2 < ((y3.length : Nat) : Int)))
     (.grd (0 ≤ x17.2 ∧ x17.2 < ((x17.1.length : Nat) : Int)) <|
     .grd ((x17.2).toNat < x17.1.length) <|
     .call (slices_Clone_int64_int64_C (x17.1.getD ((x17.2).toNat) default)) [] fun y22 =>
     .grd (0 ≤ x17.2 ∧ x17.2 < ((x17.1.length : Nat) : Int)) <|
     .conv 5005 (cvSet 1 (encL 1 encI_i64) x17.1 40 ((x17.2).toNat) y22) <|
     .grd ((x17.2).toNat < x17.1.length ∧ 0 ≤ (x17.2).toNat) <|
     .ret (.next ((x17.1.set ((x17.2).toNat) y22), (IntKind.i64.wrap (x17.2 + 1)))))
     (.ret (.out x17.1)))
   (y3, 0) [] fun y20 =>
  .loop (fun (x35 : ((List S_RoadmapEdge) × Int)) => ⟨[(2, .ptr 0 0), (3, .vec 3), (4, .vec 4), (28, .vec 4), (29, .pure (.int .i64 ((y4.length : Nat) : Int))), (30, .pure (.int .i64 x35.2))], [(0, .box [.vec 1, .vec 2]), (1, .nilv), (2, .nilv), (3, vecO 1 (encL 1 encI_i64) y20 40), (4, vecO 12 enc_RoadmapEdge x35.1 57)], [], 5⟩)
   (.exit 2) (fun (y38 : (List S_RoadmapEdge)) => ⟨[(2, .ptr 0 0), (3, .vec 3), (4, .vec 4)], [(0, .box [.vec 1, .vec 2]), (1, .nilv), (2, .nilv), (3, vecO 1 (encL 1 encI_i64) y20 40), (4, vecO 12 enc_RoadmapEdge y38 57)], [], 5⟩)
   (fun x35 => .br (decide (x35.2 < ((y4.length : Nat) : Int)))
     (.grd (0 ≤ x35.2 ∧ x35.2 < ((x35.1.length : Nat) : Int)) <|
     .grd ((x35.2).toNat < x35.1.length) <|
     .call (roadmap_cloneResult_C ((x35.1.getD ((x35.2).toNat) default).Proof)) [] fun y40 =>
     .grd (0 ≤ x35.2 ∧ x35.2 < ((x35.1.length : Nat) : Int)) <|
     .conv 10007 (cvSet 12 enc_RoadmapEdge x35.1 57 ((x35.2).toNat) (⟨(x35.1.getD ((x35.2).toNat) default).U, (x35.1.getD ((x35.2).toNat) default).V, (x35.1.getD ((x35.2).toNat) default).Cost, (x35.1.getD ((x35.2).toNat) default).State, y40⟩ : S_RoadmapEdge)) <|
     .grd ((x35.2).toNat < x35.1.length ∧ 0 ≤ (x35.2).toNat) <|
     .ret (.next ((x35.1.set ((x35.2).toNat) (⟨(x35.1.getD ((x35.2).toNat) default).U, (x35.1.getD ((x35.2).toNat) default).V, (x35.1.getD ((x35.2).toNat) default).Cost, (x35.1.getD ((x35.2).toNat) default).State, y40⟩ : S_RoadmapEdge)), (IntKind.i64.wrap (x35.2 + 1)))))
     (.ret (.out x35.1)))
   (y4, 0) [] fun y38 =>
  .ret (y20, y38)
noncomputable def roadmap_clone_C (a0 : S_Roadmap) : CallS ((List (List Int)) × (List S_RoadmapEdge)) :=
  mkC [] hd Tryz.func65 (by kernel_rfl) (roadmap_clone_T a0) 0 [.pure (enc_Roadmap a0)] [] (fun _ => .agg [.vec 0, .vec 1]) (fun r => [(0, vecO 1 (encL 1 encI_i64) r.1 40), (1, vecO 12 enc_RoadmapEdge r.2 57)]) (by kernel_rfl)
noncomputable def roadmap_kind_T (a0 : Int) : T Int :=
  .br (a0 == 1)
   (.ret 1)
   (.br (a0 == 2)
    (.ret 2)
    (.ret 0))
noncomputable def roadmap_kind_C (a0 : Int) : CallS Int :=
  mkC [] hd Tryz.func75 (by kernel_rfl) (roadmap_kind_T a0) 0 [.pure (.int .i64 a0)] [] (fun r => .pure (.int .i64 r)) (fun _ => []) (by kernel_rfl)
set_option maxHeartbeats 8000000 in
set_option maxRecDepth 20000 in
noncomputable def roadmap_Mark_T (a0 : S_Roadmap) (a1 : Int) (a2 : S_EdgeResult) : T (S_Roadmap × Bool) :=
  .call (roadmap_clone_C (⟨a0.Points, a0.Edges⟩ : S_Roadmap)) [] fun y2 =>
  .cut 1 (fun (y4 : Bool) => ⟨[(1, .pure (.int .i64 a1)), (3, .ptr 0 0), (5, .ptr 1 0), (6, .ptr 2 0), (7, .ptr 5 0), (22, .pure (.bool y4))], [(0, .box [.pure (encL 1 (encL 1 encI_i64) a0.Points), .pure (encL 12 enc_RoadmapEdge a0.Edges)]), (1, .box [.pure (.int .i64 a2.Kind), .pure (encL 3 enc_Piece a2.Pieces), .pure (.int .i64 a2.At.Depth), .pure (.int .i64 a2.At.Index), .pure (encL 3 enc_arr_3_int64 a2.At.Normals), .pure (.int .i64 a2.Witness.Pair), .pure (encL 1 encI_i64 a2.Witness.Left), .pure (encL 1 encI_i64 a2.Witness.Right)]), (2, .box [.vec 3, .vec 4]), (3, vecO 1 (encL 1 encI_i64) y2.1 40), (4, vecO 12 enc_RoadmapEdge y2.2 57), (5, .box [.ff])], [.func 74 [] [.ptr 2 0, .ptr 5 0]], 6⟩)
   (.br (decide (a1 < 0))
    (.ret (.out true))
    (.ret (.out (decide (a1 ≥ ((a0.Edges.length : Nat) : Int)))))) fun y4 =>
  .br y4
   (.ret ((⟨y2.1, y2.2⟩ : S_Roadmap), false))
   (.grd (0 ≤ a1 ∧ a1 < ((a0.Edges.length : Nat) : Int)) <|
   .cut 0 (fun (y6 : Bool) => ⟨[(1, .pure (.int .i64 a1)), (5, .ptr 0 0), (6, .ptr 1 0), (7, .ptr 4 0), (35, .pure (.bool y6))], [(0, .box [.pure (.int .i64 a2.Kind), .pure (encL 3 enc_Piece a2.Pieces), .pure (.int .i64 a2.At.Depth), .pure (.int .i64 a2.At.Index), .pure (encL 3 enc_arr_3_int64 a2.At.Normals), .pure (.int .i64 a2.Witness.Pair), .pure (encL 1 encI_i64 a2.Witness.Left), .pure (encL 1 encI_i64 a2.Witness.Right)]), (1, .box [.vec 2, .vec 3]), (2, vecO 1 (encL 1 encI_i64) y2.1 40), (3, vecO 12 enc_RoadmapEdge y2.2 57), (4, .box [.ff])], [.func 74 [] [.ptr 1 0, .ptr 4 0]], 5⟩)
    (.br (((a0.Edges.getD ((a1).toNat) default).State) == 1)
     (.ret (.out true))
     (.ret (.out (((a0.Edges.getD ((a1).toNat) default).State) == 2)))) fun y6 =>
   .br y6
    (.ret ((⟨y2.1, y2.2⟩ : S_Roadmap), false))
    (.conv 8000 (cvLit 1 encI_i64 ([1, 2, 3] : (List Int)) 3) <|
    .loop (fun (x43 : Int) => ⟨[(1, .pure (.int .i64 a1)), (5, .ptr 0 0), (6, .ptr 1 0), (7, .ptr 4 0), (37, .vec 5), (38, .pure (.int .i64 ((([1, 2, 3] : (List Int)).length : Nat) : Int))), (39, .pure (.int .i64 x43))], [(0, .box [.pure (.int .i64 a2.Kind), .pure (encL 3 enc_Piece a2.Pieces), .pure (.int .i64 a2.At.Depth), .pure (.int .i64 a2.At.Index), .pure (encL 3 enc_arr_3_int64 a2.At.Normals), .pure (.int .i64 a2.Witness.Pair), .pure (encL 1 encI_i64 a2.Witness.Left), .pure (encL 1 encI_i64 a2.Witness.Right)]), (1, .box [.vec 2, .vec 3]), (2, vecO 1 (encL 1 encI_i64) y2.1 40), (3, vecO 12 enc_RoadmapEdge y2.2 57), (4, .box [.ff]), (5, vecO 1 encI_i64 ([1, 2, 3] : (List Int)) 3)], [.func 74 [] [.ptr 1 0, .ptr 4 0]], 6⟩)
     (.exit 0) (fun (_ : U0) => ⟨[(6, .ptr 0 0), (7, .ptr 3 0)], [(0, .box [.vec 1, .vec 2]), (1, vecO 1 (encL 1 encI_i64) y2.1 40), (2, vecO 12 enc_RoadmapEdge y2.2 57), (3, .box [.ff])], [.func 74 [] [.ptr 0 0, .ptr 3 0]], 4⟩)
     (fun x43 => .br (decide (x43 < ((([1, 2, 3] : (List Int)).length : Nat) : Int)))
       (.grd (0 ≤ x43 ∧ x43 < ((([1, 2, 3] : (List Int)).length : Nat) : Int)) <|
       .grd ((x43).toNat < ([1, 2, 3] : (List Int)).length) <|
       .call (roadmap_kind_C (([1, 2, 3] : (List Int)).getD ((x43).toNat) default)) [] fun y58 =>
       .br (y58 == a2.Kind)
        (.grd (0 ≤ a1 ∧ a1 < ((y2.2.length : Nat) : Int)) <|
        .conv 12006 (cvSet 12 enc_RoadmapEdge y2.2 57 ((a1).toNat) (⟨(y2.2.getD ((a1).toNat) default).U, (y2.2.getD ((a1).toNat) default).V, (y2.2.getD ((a1).toNat) default).Cost, (([1, 2, 3] : (List Int)).getD ((x43).toNat) default), (y2.2.getD ((a1).toNat) default).Proof⟩ : S_RoadmapEdge)) <|
        .grd ((a1).toNat < y2.2.length ∧ 0 ≤ (a1).toNat) <|
        .call (roadmap_cloneResult_C a2) [] fun y60 =>
        .grd (0 ≤ a1 ∧ a1 < (((y2.2.set ((a1).toNat) (⟨(y2.2.getD ((a1).toNat) default).U, (y2.2.getD ((a1).toNat) default).V, (y2.2.getD ((a1).toNat) default).Cost, (([1, 2, 3] : (List Int)).getD ((x43).toNat) default), (y2.2.getD ((a1).toNat) default).Proof⟩ : S_RoadmapEdge)).length : Nat) : Int)) <|
        .conv 13007 (cvSet 12 enc_RoadmapEdge (y2.2.set ((a1).toNat) (⟨(y2.2.getD ((a1).toNat) default).U, (y2.2.getD ((a1).toNat) default).V, (y2.2.getD ((a1).toNat) default).Cost, (([1, 2, 3] : (List Int)).getD ((x43).toNat) default), (y2.2.getD ((a1).toNat) default).Proof⟩ : S_RoadmapEdge)) 57 ((a1).toNat) (⟨((y2.2.set ((a1).toNat) (⟨(y2.2.getD ((a1).toNat) default).U, (y2.2.getD ((a1).toNat) default).V, (y2.2.getD ((a1).toNat) default).Cost, (([1, 2, 3] : (List Int)).getD ((x43).toNat) default), (y2.2.getD ((a1).toNat) default).Proof⟩ : S_RoadmapEdge)).getD ((a1).toNat) default).U, ((y2.2.set ((a1).toNat) (⟨(y2.2.getD ((a1).toNat) default).U, (y2.2.getD ((a1).toNat) default).V, (y2.2.getD ((a1).toNat) default).Cost, (([1, 2, 3] : (List Int)).getD ((x43).toNat) default), (y2.2.getD ((a1).toNat) default).Proof⟩ : S_RoadmapEdge)).getD ((a1).toNat) default).V, ((y2.2.set ((a1).toNat) (⟨(y2.2.getD ((a1).toNat) default).U, (y2.2.getD ((a1).toNat) default).V, (y2.2.getD ((a1).toNat) default).Cost, (([1, 2, 3] : (List Int)).getD ((x43).toNat) default), (y2.2.getD ((a1).toNat) default).Proof⟩ : S_RoadmapEdge)).getD ((a1).toNat) default).Cost, ((y2.2.set ((a1).toNat) (⟨(y2.2.getD ((a1).toNat) default).U, (y2.2.getD ((a1).toNat) default).V, (y2.2.getD ((a1).toNat) default).Cost, (([1, 2, 3] : (List Int)).getD ((x43).toNat) default), (y2.2.getD ((a1).toNat) default).Proof⟩ : S_RoadmapEdge)).getD ((a1).toNat) default).State, y60⟩ : S_RoadmapEdge)) <|
        .grd ((a1).toNat < (y2.2.set ((a1).toNat) (⟨(y2.2.getD ((a1).toNat) default).U, (y2.2.getD ((a1).toNat) default).V, (y2.2.getD ((a1).toNat) default).Cost, (([1, 2, 3] : (List Int)).getD ((x43).toNat) default), (y2.2.getD ((a1).toNat) default).Proof⟩ : S_RoadmapEdge)).length ∧ 0 ≤ (a1).toNat) <|
        .ret (.fin ((⟨y2.1, ((y2.2.set ((a1).toNat) (⟨(y2.2.getD ((a1).toNat) default).U, (y2.2.getD ((a1).toNat) default).V, (y2.2.getD ((a1).toNat) default).Cost, (([1, 2, 3] : (List Int)).getD ((x43).toNat) default), (y2.2.getD ((a1).toNat) default).Proof⟩ : S_RoadmapEdge)).set ((a1).toNat) (⟨((y2.2.set ((a1).toNat) (⟨(y2.2.getD ((a1).toNat) default).U, (y2.2.getD ((a1).toNat) default).V, (y2.2.getD ((a1).toNat) default).Cost, (([1, 2, 3] : (List Int)).getD ((x43).toNat) default), (y2.2.getD ((a1).toNat) default).Proof⟩ : S_RoadmapEdge)).getD ((a1).toNat) default).U, ((y2.2.set ((a1).toNat) (⟨(y2.2.getD ((a1).toNat) default).U, (y2.2.getD ((a1).toNat) default).V, (y2.2.getD ((a1).toNat) default).Cost, (([1, 2, 3] : (List Int)).getD ((x43).toNat) default), (y2.2.getD ((a1).toNat) default).Proof⟩ : S_RoadmapEdge)).getD ((a1).toNat) default).V, ((y2.2.set ((a1).toNat) (⟨(y2.2.getD ((a1).toNat) default).U, (y2.2.getD ((a1).toNat) default).V, (y2.2.getD ((a1).toNat) default).Cost, (([1, 2, 3] : (List Int)).getD ((x43).toNat) default), (y2.2.getD ((a1).toNat) default).Proof⟩ : S_RoadmapEdge)).getD ((a1).toNat) default).Cost, ((y2.2.set ((a1).toNat) (⟨(y2.2.getD ((a1).toNat) default).U, (y2.2.getD ((a1).toNat) default).V, (y2.2.getD ((a1).toNat) default).Cost, (([1, 2, 3] : (List Int)).getD ((x43).toNat) default), (y2.2.getD ((a1).toNat) default).Proof⟩ : S_RoadmapEdge)).getD ((a1).toNat) default).State, y60⟩ : S_RoadmapEdge))⟩ : S_Roadmap), true)))
        (.ret (.next (IntKind.i64.wrap (x43 + 1)))))
       (.ret (.out .u)))
     0 [] fun _ =>
    .ret ((⟨y2.1, y2.2⟩ : S_Roadmap), false)))
noncomputable def roadmap_Mark_C (a0 : S_Roadmap) (a1 : Int) (a2 : S_EdgeResult) : CallS (S_Roadmap × Bool) :=
  mkC [⟨74, guard74⟩] hd Tryz.func30 (by kernel_rfl) (roadmap_Mark_T a0 a1 a2) 0 [.pure (enc_Roadmap a0), .pure (.int .i64 a1), .pure (enc_EdgeResult a2)] [] (fun r => .tup [.pure (enc_Roadmap r.1), .pure (.bool r.2)]) (fun _ => []) (by kernel_rfl)
noncomputable def roadmap_isEmpty_T (a0 : S_EdgeResult) : T Bool :=
  .br (a0.Kind == 0)
   (.br (((a0.Pieces.length : Nat) : Int) == 0)
    (.br (a0.At.Depth == 0)
     (.br (a0.At.Index == 0)
      (.br (((a0.At.Normals.length : Nat) : Int) == 0)
       (.br (a0.Witness.Pair == 0)
        (.br (((a0.Witness.Left.length : Nat) : Int) == 0)
         (.ret (((a0.Witness.Right.length : Nat) : Int) == 0))
         (.ret false))
        (.ret false))
       (.ret false))
      (.ret false))
     (.ret false))
    (.ret false))
   (.ret false)
noncomputable def roadmap_isEmpty_C (a0 : S_EdgeResult) : CallS Bool :=
  mkC [] hd Tryz.func87 (by kernel_rfl) (roadmap_isEmpty_T a0) 0 [.pure (enc_EdgeResult a0)] [] (fun r => .pure (.bool r)) (fun _ => []) (by kernel_rfl)
noncomputable def roadmap_validEdge_T (a0 : S_Robot) (a1 : S_Roadmap) (a2 : S_RoadmapEdge) : T Bool :=
  .cut 2 (fun (y12 : Bool) => ⟨[(5, .ptr 0 0), (36, .pure (.bool y12))], [(0, .box [.pure (.int .i64 a2.U), .pure (.int .i64 a2.V), .pure (.int .i64 a2.Cost), .pure (.int .i64 a2.State), .pure (.int .i64 a2.Proof.Kind), .pure (encL 3 enc_Piece a2.Proof.Pieces), .pure (.int .i64 a2.Proof.At.Depth), .pure (.int .i64 a2.Proof.At.Index), .pure (encL 3 enc_arr_3_int64 a2.Proof.At.Normals), .pure (.int .i64 a2.Proof.Witness.Pair), .pure (encL 1 encI_i64 a2.Proof.Witness.Left), .pure (encL 1 encI_i64 a2.Proof.Witness.Right)])], [], 1⟩)
   (.call (roadmap_hasEnds_C a1 a2) [] fun y13 =>
   .br (!y13)
    (.ret (.out true))
    (.br (decide (a2.U ≥ a2.V))
     (.ret (.out true))
     (.grd (0 ≤ a2.U ∧ a2.U < ((a1.Points.length : Nat) : Int)) <|
     .grd (0 ≤ a2.V ∧ a2.V < ((a1.Points.length : Nat) : Int)) <|
     .call (config_Distance_C a0 (a1.Points.getD ((a2.U).toNat) default) (a1.Points.getD ((a2.V).toNat) default)) [] fun y14 =>
     .ret (.out (a2.Cost != y14))))) fun y12 =>
  .br y12
   (.ret false)
   (.cut 1 (fun (y21 : Bool) => ⟨[(5, .ptr 0 0), (53, .pure (.bool y21))], [(0, .box [.pure (.int .i64 a2.U), .pure (.int .i64 a2.V), .pure (.int .i64 a2.Cost), .pure (.int .i64 a2.State), .pure (.int .i64 a2.Proof.Kind), .pure (encL 3 enc_Piece a2.Proof.Pieces), .pure (.int .i64 a2.Proof.At.Depth), .pure (.int .i64 a2.Proof.At.Index), .pure (encL 3 enc_arr_3_int64 a2.Proof.At.Normals), .pure (.int .i64 a2.Proof.Witness.Pair), .pure (encL 1 encI_i64 a2.Proof.Witness.Left), .pure (encL 1 encI_i64 a2.Proof.Witness.Right)])], [], 1⟩)
    (.br (decide (a2.State < 0))
     (.ret (.out true))
     (.br (decide (a2.State > 3))
      (.ret (.out true))
      (.call (roadmap_kind_C a2.State) [] fun y22 =>
      .ret (.out (a2.Proof.Kind != y22))))) fun y21 =>
   .br y21
    (.ret false)
    (.br (a2.State != 0)
     (.ret true)
     (.call (roadmap_isEmpty_C a2.Proof) [] fun y23 =>
     .ret y23)))
noncomputable def roadmap_validEdge_C (a0 : S_Robot) (a1 : S_Roadmap) (a2 : S_RoadmapEdge) : CallS Bool :=
  mkC [] hd Tryz.func42 (by kernel_rfl) (roadmap_validEdge_T a0 a1 a2) 0 [.pure (enc_Robot a0), .pure (enc_Roadmap a1), .pure (enc_RoadmapEdge a2)] [] (fun r => .pure (.bool r)) (fun _ => []) (by kernel_rfl)
noncomputable def roadmap_compare_T (a0 : S_RoadmapEdge) (a1 : S_RoadmapEdge) : T Int :=
  .call (cmp_Compare_int_C a0.U a1.U) [] fun y1 =>
  .call (cmp_Compare_int_C a0.V a1.V) [] fun y2 =>
  .conv 1010 (cvLit 1 encI_i64 ([y1, y2] : (List Int)) 3) <|
  .call (cmp_Or_int_C ([y1, y2] : (List Int))) [] fun y3 =>
  .ret y3
noncomputable def roadmap_compare_C (a0 : S_RoadmapEdge) (a1 : S_RoadmapEdge) : CallS Int :=
  mkC [] hd Tryz.func43 (by kernel_rfl) (roadmap_compare_T a0 a1) 0 [.pure (enc_RoadmapEdge a0), .pure (enc_RoadmapEdge a1)] [] (fun r => .pure (.int .i64 r)) (fun _ => []) (by kernel_rfl)
noncomputable def roadmap_Valid_T (a0 : S_Robot) (a1 : S_Roadmap) : T Bool :=
  .cut 3 (fun (y7 : Bool) => ⟨[(2, .ptr 0 0), (3, .ptr 1 0), (4, .ptr 2 0), (22, .pure (.bool y7))], [(0, .box [.pure (encL 12 enc_Joint a0.Joints), .pure (encL 5 enc_Mass a0.Masses)]), (1, .box [.pure (encL 1 (encL 1 encI_i64) a1.Points), .pure (encL 12 enc_RoadmapEdge a1.Edges)]), (2, .box [.ff])], [.func 39 [] [.ptr 2 0]], 3⟩)
   (.call (robot_Check_C a0) [] fun y8 =>
   .br (y8 != 0)
    (.ret (.out true))
    (.br (decide (((a1.Points.length : Nat) : Int) > 1024))
     (.ret (.out true))
     (.ret (.out (decide (((a1.Edges.length : Nat) : Int) > 8192)))))) fun y7 =>
  .br y7
   (.ret false)
   (.call (roadmap_distinct_C a0 a1.Points) [] fun y12 =>
   .br (((y12.length : Nat) : Int) != ((a1.Points.length : Nat) : Int))
    (.ret false)
    (.loop (fun (x61 : Int) => ⟨[(2, .ptr 0 0), (3, .ptr 1 0), (4, .ptr 2 0), (33, .pure (encL 12 enc_RoadmapEdge a1.Edges)), (34, .pure (.int .i64 ((a1.Edges.length : Nat) : Int))), (35, .pure (.int .i64 x61))], [(0, .box [.pure (encL 12 enc_Joint a0.Joints), .pure (encL 5 enc_Mass a0.Masses)]), (1, .box [.pure (encL 1 (encL 1 encI_i64) a1.Points), .pure (encL 12 enc_RoadmapEdge a1.Edges)]), (2, .box [.ff])], [.func 39 [] [.ptr 2 0]], 3⟩)
     (.exit 0) (fun (_ : U0) => ⟨[(4, .ptr 0 0)], [(0, .box [.ff])], [.func 39 [] [.ptr 0 0]], 1⟩)
     (fun x61 => .br (decide (x61 < ((a1.Edges.length : Nat) : Int)))
       (.grd (0 ≤ x61 ∧ x61 < ((a1.Edges.length : Nat) : Int)) <|
       .cut 0 (fun (y88 : Bool) => ⟨[(2, .ptr 0 0), (3, .ptr 1 0), (4, .ptr 2 0), (33, .pure (encL 12 enc_RoadmapEdge a1.Edges)), (34, .pure (.int .i64 ((a1.Edges.length : Nat) : Int))), (35, .pure (.int .i64 x61)), (59, .pure (.bool y88))], [(0, .box [.pure (encL 12 enc_Joint a0.Joints), .pure (encL 5 enc_Mass a0.Masses)]), (1, .box [.pure (encL 1 (encL 1 encI_i64) a1.Points), .pure (encL 12 enc_RoadmapEdge a1.Edges)]), (2, .box [.ff])], [.func 39 [] [.ptr 2 0]], 3⟩)
        (.call (roadmap_validEdge_C (⟨a0.Joints, a0.Masses⟩ : S_Robot) (⟨a1.Points, a1.Edges⟩ : S_Roadmap) (a1.Edges.getD ((x61).toNat) default)) [] fun y89 =>
        .br (!y89)
         (.ret (.out true))
         (.br (decide (x61 > 0))
          (.grd (0 ≤ (IntKind.i64.wrap (x61 - 1)) ∧ (IntKind.i64.wrap (x61 - 1)) < ((a1.Edges.length : Nat) : Int)) <|
          .call (roadmap_compare_C (a1.Edges.getD (((IntKind.i64.wrap (x61 - 1))).toNat) default) (a1.Edges.getD ((x61).toNat) default)) [] fun y90 =>
          .ret (.out (decide (y90 ≥ 0))))
          (.ret (.out false)))) fun y88 =>
       .br y88
        (.ret (.fin false))
        (.ret (.next (IntKind.i64.wrap (x61 + 1)))))
       (.ret (.out .u)))
     0 [] fun _ =>
    .ret true))
noncomputable def roadmap_Valid_C (a0 : S_Robot) (a1 : S_Roadmap) : CallS Bool :=
  mkC [⟨39, guard39⟩] hd Tryz.func15 (by kernel_rfl) (roadmap_Valid_T a0 a1) 0 [.pure (enc_Robot a0), .pure (enc_Roadmap a1)] [] (fun r => .pure (.bool r)) (fun _ => []) (by kernel_rfl)
noncomputable def make_Same_int_T (a0 : (List Int)) (a1 : (List Int)) : T Bool :=
  .br (((a0.length : Nat) : Int) != ((a1.length : Nat) : Int))
   (.ret false)
   (.loop (fun (x5 : Int) => ⟨[(0, .pure (encL 1 encI_i64 a0)), (1, .pure (encL 1 encI_i64 a1)), (5, .pure (.int .i64 x5))], [], [], 0⟩)
    (.exit 0) (fun (_ : U0) => ⟨[], [], [], 0⟩)
    (fun x5 => .br (decide (x5 < ((a0.length : Nat) : Int)))
      (.grd (0 ≤ x5 ∧ x5 < ((a0.length : Nat) : Int)) <|
      .grd (0 ≤ x5 ∧ x5 < ((a1.length : Nat) : Int)) <|
      .br ((a0.getD ((x5).toNat) default) != (a1.getD ((x5).toNat) default))
       (.ret (.fin false))
       (.ret (.next (IntKind.i64.wrap (x5 + 1)))))
      (.ret (.out .u)))
    0 [] fun _ =>
   .ret true)
noncomputable def make_Same_int_C (a0 : (List Int)) (a1 : (List Int)) : CallS Bool :=
  mkC [] hd Tryz.func34 (by kernel_rfl) (make_Same_int_T a0 a1) 0 [.pure (encL 1 encI_i64 a0), .pure (encL 1 encI_i64 a1)] [] (fun r => .pure (.bool r)) (fun _ => []) (by kernel_rfl)
noncomputable def roadmap_Incident_T (a0 : S_Roadmap) (a1 : Int) : T (List Int) :=
  .loop (fun (x57 : ((List Int) × Int)) => ⟨[(1, .pure (.int .i64 a1)), (2, .ptr 0 0), (4, .ptr 1 0), (9, .pure (encL 12 enc_RoadmapEdge a0.Edges)), (10, .pure (.int .i64 ((a0.Edges.length : Nat) : Int))), (11, .pure (.int .i64 x57.2))], [(0, .box [.pure (encL 1 (encL 1 encI_i64) a0.Points), .pure (encL 12 enc_RoadmapEdge a0.Edges)]), (1, .box [.vec 2]), (2, vecO 1 encI_i64 x57.1 3)], [.func 79 [] [.ptr 1 0]], 3⟩)
   (.exit 0) (fun (y71 : (List Int)) => ⟨[(4, .ptr 0 0)], [(0, .box [.vec 1]), (1, vecO 1 encI_i64 y71 3)], [.func 79 [] [.ptr 0 0]], 2⟩)
   (fun x57 => .br (decide (x57.2 < ((a0.Edges.length : Nat) : Int)))
     (.cut 0 (fun (y80 : (List Int)) => ⟨[(1, .pure (.int .i64 a1)), (2, .ptr 0 0), (4, .ptr 1 0), (9, .pure (encL 12 enc_RoadmapEdge a0.Edges)), (10, .pure (.int .i64 ((a0.Edges.length : Nat) : Int))), (11, .pure (.int .i64 x57.2))], [(0, .box [.pure (encL 1 (encL 1 encI_i64) a0.Points), .pure (encL 12 enc_RoadmapEdge a0.Edges)]), (1, .box [.vec 2]), (2, vecO 1 encI_i64 y80 3)], [.func 79 [] [.ptr 1 0]], 3⟩)
      (.grd (0 ≤ x57.2 ∧ x57.2 < ((a0.Edges.length : Nat) : Int)) <|
      .cut 0 (fun (y83 : Bool) => ⟨[(1, .pure (.int .i64 a1)), (2, .ptr 0 0), (4, .ptr 1 0), (5, .pure (.int .i64 x57.2)), (9, .pure (encL 12 enc_RoadmapEdge a0.Edges)), (10, .pure (.int .i64 ((a0.Edges.length : Nat) : Int))), (11, .pure (.int .i64 x57.2)), (30, .pure (.bool y83))], [(0, .box [.pure (encL 1 (encL 1 encI_i64) a0.Points), .pure (encL 12 enc_RoadmapEdge a0.Edges)]), (1, .box [.vec 2]), (2, vecO 1 encI_i64 x57.1 3)], [.func 79 [] [.ptr 1 0]], 3⟩)
       (.call (roadmap_hasEnds_C a0 (a0.Edges.getD ((x57.2).toNat) default)) [] fun y84 =>
       .br y84
        (.br (((a0.Edges.getD ((x57.2).toNat) default).U) == a1)
         (.ret (.out true))
         (.ret (.out (((a0.Edges.getD ((x57.2).toNat) default).V) == a1))))
        (.ret (.out false))) fun y83 =>
      .br y83
       (.conv 6002 (cvLit 1 encI_i64 ([x57.2] : (List Int)) 3) <|
       .conv 6003 (cvApp 1 encI_i64 x57.1 ([x57.2] : (List Int)) 3) <|
       .grd ((x57.1.length + ([x57.2] : (List Int)).length) * 8 ≤ 140737488355328 ∧ (x57.1.length + ([x57.2] : (List Int)).length) ≤ maxLen) <|
       .ret (.out (x57.1 ++ ([x57.2] : (List Int)))))
       (.ret (.out x57.1))) fun y80 =>
     .ret (.next (y80, (IntKind.i64.wrap (x57.2 + 1)))))
     (.ret (.out x57.1)))
   (nl, 0) [] fun y71 =>
  .ret y71
noncomputable def roadmap_Incident_C (a0 : S_Roadmap) (a1 : Int) : CallS (List Int) :=
  mkC [⟨79, guard79⟩] hd Tryz.func35 (by kernel_rfl) (roadmap_Incident_T a0 a1) 0 [.pure (enc_Roadmap a0), .pure (.int .i64 a1)] [] (fun r => .pure (encL 1 encI_i64 r)) (fun _ => []) (by kernel_rfl)
noncomputable def law25_awake_T : T Bool :=
  .call (make_Slider_C 1 9) [] fun y2 =>
  .conv 2001 (cvLit 1 encI_i64 ([0] : (List Int)) 2) <|
  .conv 2002 (cvLit 1 encI_i64 ([5] : (List Int)) 2) <|
  .conv 2003 (cvLit 1 encI_i64 ([9] : (List Int)) 2) <|
  .conv 2004 (cvLit 1 (encL 1 encI_i64) ([([0] : (List Int)), ([5] : (List Int)), ([9] : (List Int))] : (List (List Int))) 40) <|
  .call (roadmap_New_C (⟨y2.Joints, y2.Masses⟩ : S_Robot) ([([0] : (List Int)), ([5] : (List Int)), ([9] : (List Int))] : (List (List Int))) 1) [] fun y4 =>
  .cut 1 (fun (y6 : Bool) => ⟨[(1, .ptr 0 0), (2, .ptr 1 0), (22, .pure (.bool y6))], [(0, .box [.pure (encL 12 enc_Joint y2.Joints), .pure (encL 5 enc_Mass y2.Masses)]), (1, .box [.pure (encL 1 (encL 1 encI_i64) y4.Points), .pure (encL 12 enc_RoadmapEdge y4.Edges)])], [], 2⟩)
   (.br (((y4.Edges.length : Nat) : Int) != 2)
    (.ret (.out true))
    (.ret (.out (((y4.Points.length : Nat) : Int) != 3)))) fun y6 =>
  .br y6
   (.ret false)
   (.call (make_Claim_C 1) [] fun y9 =>
   .call (roadmap_Mark_C (⟨y4.Points, y4.Edges⟩ : S_Roadmap) 1 y9) [] fun y10 =>
   .call (roadmap_Components_C y10.1 0) [] fun y12 =>
   .br y10.2
    (.call (roadmap_Valid_C (⟨y2.Joints, y2.Masses⟩ : S_Robot) y10.1) [] fun y13 =>
    .br y13
     (.conv 7008 (cvLit 1 encI_i64 ([0, 1, 1] : (List Int)) 3) <|
     .call (make_Same_int_C y12 ([0, 1, 1] : (List Int))) [] fun y14 =>
     .br y14
      (.call (roadmap_Incident_C y10.1 1) [] fun y15 =>
      .conv 7014 (cvLit 1 encI_i64 ([0, 1] : (List Int)) 3) <|
      .call (make_Same_int_C y15 ([0, 1] : (List Int))) [] fun y16 =>
      .ret y16)
      (.ret false))
     (.ret false))
    (.ret false))
noncomputable def law25_awake_C : CallS Bool :=
  mkC [] hd Tryz.func11 (by kernel_rfl) (law25_awake_T) 0 [] [] (fun r => .pure (.bool r)) (fun _ => []) (by kernel_rfl)
set_option maxHeartbeats 8000000 in
set_option maxRecDepth 20000 in
noncomputable def law25_RoadmapNested_T (a0 : (List Int)) : T Bool :=
  .call (make_Graph_C a0) [] fun y2 =>
  .call (roadmap_Components_C y2 0) [] fun y6 =>
  .call (roadmap_Components_C y2 1) [] fun y7 =>
  .call (roadmap_Components_C y2 2) [] fun y8 =>
  .cut 2 (fun (y10 : Bool) => ⟨[(3, .ptr 0 0), (4, .pure (encL 1 encI_i64 y6)), (5, .pure (encL 1 encI_i64 y7)), (6, .pure (encL 1 encI_i64 y8)), (7, .pure (.int .i64 ((y2.Points.length : Nat) : Int))), (38, .pure (.bool y10))], [(0, .box [.pure (encL 1 (encL 1 encI_i64) y2.Points), .pure (encL 12 enc_RoadmapEdge y2.Edges)])], [], 1⟩)
   (.br (((y6.length : Nat) : Int) != ((y2.Points.length : Nat) : Int))
    (.ret (.out true))
    (.br (((y7.length : Nat) : Int) != ((y2.Points.length : Nat) : Int))
     (.ret (.out true))
     (.ret (.out (((y8.length : Nat) : Int) != ((y2.Points.length : Nat) : Int)))))) fun y10 =>
  .br y10
   (.ret false)
   (.loop (fun (x87 : Int) => ⟨[(3, .ptr 0 0), (4, .pure (encL 1 encI_i64 y6)), (5, .pure (encL 1 encI_i64 y7)), (6, .pure (encL 1 encI_i64 y8)), (7, .pure (.int .i64 ((y2.Points.length : Nat) : Int))), (8, .pure (.int .i64 x87))], [(0, .box [.pure (encL 1 (encL 1 encI_i64) y2.Points), .pure (encL 12 enc_RoadmapEdge y2.Edges)])], [], 1⟩)
    (.exit 0) (fun (_ : U0) => ⟨[(3, .ptr 0 0), (4, .pure (encL 1 encI_i64 y6)), (6, .pure (encL 1 encI_i64 y8))], [(0, .box [.pure (encL 1 (encL 1 encI_i64) y2.Points), .pure (encL 12 enc_RoadmapEdge y2.Edges)])], [], 1⟩)
    (fun x87 => .br (decide (x87 < ((y2.Points.length : Nat) : Int)))
      (.loop (fun (x119 : Int) => ⟨[(3, .ptr 0 0), (4, .pure (encL 1 encI_i64 y6)), (5, .pure (encL 1 encI_i64 y7)), (6, .pure (encL 1 encI_i64 y8)), (7, .pure (.int .i64 ((y2.Points.length : Nat) : Int))), (8, .pure (.int .i64 x87)), (9, .pure (.int .i64 x119))], [(0, .box [.pure (encL 1 (encL 1 encI_i64) y2.Points), .pure (encL 12 enc_RoadmapEdge y2.Edges)])], [], 1⟩)
       (.exit 2) (fun (_ : U0) => ⟨[(3, .ptr 0 0), (4, .pure (encL 1 encI_i64 y6)), (5, .pure (encL 1 encI_i64 y7)), (6, .pure (encL 1 encI_i64 y8)), (7, .pure (.int .i64 ((y2.Points.length : Nat) : Int))), (8, .pure (.int .i64 x87))], [(0, .box [.pure (encL 1 (encL 1 encI_i64) y2.Points), .pure (encL 12 enc_RoadmapEdge y2.Edges)])], [], 1⟩)
       (fun x119 => .br (decide (x119 < ((y2.Points.length : Nat) : Int)))
         (.cut 1 (fun (y124 : Bool) => ⟨[(3, .ptr 0 0), (4, .pure (encL 1 encI_i64 y6)), (5, .pure (encL 1 encI_i64 y7)), (6, .pure (encL 1 encI_i64 y8)), (7, .pure (.int .i64 ((y2.Points.length : Nat) : Int))), (8, .pure (.int .i64 x87)), (9, .pure (.int .i64 x119)), (90, .pure (.bool y124))], [(0, .box [.pure (encL 1 (encL 1 encI_i64) y2.Points), .pure (encL 12 enc_RoadmapEdge y2.Edges)])], [], 1⟩)
          (.grd (0 ≤ x87 ∧ x87 < ((y6.length : Nat) : Int)) <|
          .grd (0 ≤ x119 ∧ x119 < ((y6.length : Nat) : Int)) <|
          .br ((y6.getD ((x87).toNat) default) == (y6.getD ((x119).toNat) default))
           (.grd (0 ≤ x87 ∧ x87 < ((y7.length : Nat) : Int)) <|
           .grd (0 ≤ x119 ∧ x119 < ((y7.length : Nat) : Int)) <|
           .br ((y7.getD ((x87).toNat) default) != (y7.getD ((x119).toNat) default))
            (.ret (.out true))
            (.grd (0 ≤ x87 ∧ x87 < ((y7.length : Nat) : Int)) <|
            .grd (0 ≤ x119 ∧ x119 < ((y7.length : Nat) : Int)) <|
            .br ((y7.getD ((x87).toNat) default) == (y7.getD ((x119).toNat) default))
             (.grd (0 ≤ x87 ∧ x87 < ((y8.length : Nat) : Int)) <|
             .grd (0 ≤ x119 ∧ x119 < ((y8.length : Nat) : Int)) <|
             .ret (.out ((y8.getD ((x87).toNat) default) != (y8.getD ((x119).toNat) default))))
             (.ret (.out false))))
           (.grd (0 ≤ x87 ∧ x87 < ((y7.length : Nat) : Int)) <|
           .grd (0 ≤ x119 ∧ x119 < ((y7.length : Nat) : Int)) <|
           .br ((y7.getD ((x87).toNat) default) == (y7.getD ((x119).toNat) default))
            (.grd (0 ≤ x87 ∧ x87 < ((y8.length : Nat) : Int)) <|
            .grd (0 ≤ x119 ∧ x119 < ((y8.length : Nat) : Int)) <|
            .ret (.out ((y8.getD ((x87).toNat) default) != (y8.getD ((x119).toNat) default))))
            (.ret (.out false)))) fun y124 =>
         .br y124
          (.ret (.fin (.fin false)))
          (.ret (.next (IntKind.i64.wrap (x119 + 1)))))
         (.ret (.out .u)))
       0 [] fun _ =>
      .ret (.next (IntKind.i64.wrap (x87 + 1))))
      (.ret (.out .u)))
    0 [] fun _ =>
   .loop (fun (x137 : Int) => ⟨[(3, .ptr 0 0), (4, .pure (encL 1 encI_i64 y6)), (6, .pure (encL 1 encI_i64 y8)), (10, .pure (.int .i64 x137))], [(0, .box [.pure (encL 1 (encL 1 encI_i64) y2.Points), .pure (encL 12 enc_RoadmapEdge y2.Edges)])], [], 1⟩)
    (.exit 4) (fun (_ : U0) => ⟨[], [], [], 0⟩)
    (fun x137 => .br (decide (x137 < ((y2.Edges.length : Nat) : Int)))
      (.grd (0 ≤ x137 ∧ x137 < ((y2.Edges.length : Nat) : Int)) <|
      .cut 0 (fun (y142 : Bool) => ⟨[(3, .ptr 0 0), (4, .pure (encL 1 encI_i64 y6)), (6, .pure (encL 1 encI_i64 y8)), (10, .pure (.int .i64 x137)), (136, .pure (.bool y142))], [(0, .box [.pure (encL 1 (encL 1 encI_i64) y2.Points), .pure (encL 12 enc_RoadmapEdge y2.Edges)])], [], 1⟩)
       (.br (((y2.Edges.getD ((x137).toNat) default).State) == 1)
        (.grd (0 ≤ ((y2.Edges.getD ((x137).toNat) default).U) ∧ ((y2.Edges.getD ((x137).toNat) default).U) < ((y6.length : Nat) : Int)) <|
        .grd (0 ≤ ((y2.Edges.getD ((x137).toNat) default).V) ∧ ((y2.Edges.getD ((x137).toNat) default).V) < ((y6.length : Nat) : Int)) <|
        .br ((y6.getD (((y2.Edges.getD ((x137).toNat) default).U).toNat) default) != (y6.getD (((y2.Edges.getD ((x137).toNat) default).V).toNat) default))
         (.ret (.out true))
         (.br (((y2.Edges.getD ((x137).toNat) default).State) != 2)
          (.grd (0 ≤ ((y2.Edges.getD ((x137).toNat) default).U) ∧ ((y2.Edges.getD ((x137).toNat) default).U) < ((y8.length : Nat) : Int)) <|
          .grd (0 ≤ ((y2.Edges.getD ((x137).toNat) default).V) ∧ ((y2.Edges.getD ((x137).toNat) default).V) < ((y8.length : Nat) : Int)) <|
          .ret (.out ((y8.getD (((y2.Edges.getD ((x137).toNat) default).U).toNat) default) != (y8.getD (((y2.Edges.getD ((x137).toNat) default).V).toNat) default))))
          (.ret (.out false))))
        (.br (((y2.Edges.getD ((x137).toNat) default).State) != 2)
         (.grd (0 ≤ ((y2.Edges.getD ((x137).toNat) default).U) ∧ ((y2.Edges.getD ((x137).toNat) default).U) < ((y8.length : Nat) : Int)) <|
         .grd (0 ≤ ((y2.Edges.getD ((x137).toNat) default).V) ∧ ((y2.Edges.getD ((x137).toNat) default).V) < ((y8.length : Nat) : Int)) <|
         .ret (.out ((y8.getD (((y2.Edges.getD ((x137).toNat) default).U).toNat) default) != (y8.getD (((y2.Edges.getD ((x137).toNat) default).V).toNat) default))))
         (.ret (.out false)))) fun y142 =>
      .br y142
       (.ret (.fin false))
       (.ret (.next (IntKind.i64.wrap (x137 + 1)))))
      (.ret (.out .u)))
    0 [] fun _ =>
   .call (law25_awake_C) [] fun y143 =>
   .ret y143)
noncomputable def law25_RoadmapNested_C (a0 : (List Int)) : CallS Bool :=
  mkC [] hd Tryz.func6 (by kernel_rfl) (law25_RoadmapNested_T a0) 0 [.pure (encL 1 encI_i64 a0)] [] (fun r => .pure (.bool r)) (fun _ => []) (by kernel_rfl)
noncomputable def make_SmallMap_T (a0 : S_Roadmap) : T Bool :=
  .br (decide (((a0.Points.length : Nat) : Int) ≤ 30))
   (.ret (decide (((a0.Edges.length : Nat) : Int) ≤ 60)))
   (.ret false)
noncomputable def make_SmallMap_C (a0 : S_Roadmap) : CallS Bool :=
  mkC [] hd Tryz.func10 (by kernel_rfl) (make_SmallMap_T a0) 0 [.pure (enc_Roadmap a0)] [] (fun r => .pure (.bool r)) (fun _ => []) (by kernel_rfl)
noncomputable def ref23_joins_T (a0 : S_Roadmap) (a1 : S_RoadmapEdge) : T Bool :=
  .br (decide (a1.U ≥ 0))
   (.br (decide (a1.U < ((a0.Points.length : Nat) : Int)))
    (.br (decide (a1.V ≥ 0))
     (.ret (decide (a1.V < ((a0.Points.length : Nat) : Int))))
     (.ret false))
    (.ret false))
   (.ret false)
noncomputable def ref23_joins_C (a0 : S_Roadmap) (a1 : S_RoadmapEdge) : CallS Bool :=
  mkC [] hd Tryz.func101 (by kernel_rfl) (ref23_joins_T a0 a1) 0 [.pure (enc_Roadmap a0), .pure (enc_RoadmapEdge a1)] [] (fun r => .pure (.bool r)) (fun _ => []) (by kernel_rfl)
noncomputable def ref23_Incident_T (a0 : S_Roadmap) (a1 : Int) : T (List Int) :=
  .loop (fun (x57 : ((List Int) × Int)) => ⟨[(1, .pure (.int .i64 a1)), (2, .ptr 0 0), (5, .vec 1), (6, .pure (.int .i64 x57.2))], [(0, .box [.pure (encL 1 (encL 1 encI_i64) a0.Points), .pure (encL 12 enc_RoadmapEdge a0.Edges)]), (1, vecO 1 encI_i64 x57.1 3)], [], 2⟩)
   (.exit 0) (fun (y71 : (List Int)) => ⟨[(5, .vec 0)], [(0, vecO 1 encI_i64 y71 3)], [], 1⟩)
   (fun x57 => .br (decide (x57.2 < ((a0.Edges.length : Nat) : Int)))
     (.cut 0 (fun (y80 : (List Int)) => ⟨[(1, .pure (.int .i64 a1)), (2, .ptr 0 0), (5, .vec 1), (6, .pure (.int .i64 x57.2))], [(0, .box [.pure (encL 1 (encL 1 encI_i64) a0.Points), .pure (encL 12 enc_RoadmapEdge a0.Edges)]), (1, vecO 1 encI_i64 y80 3)], [], 2⟩)
      (.grd (0 ≤ x57.2 ∧ x57.2 < ((a0.Edges.length : Nat) : Int)) <|
      .cut 0 (fun (y83 : Bool) => ⟨[(1, .pure (.int .i64 a1)), (2, .ptr 0 0), (5, .vec 1), (6, .pure (.int .i64 x57.2)), (34, .pure (.bool y83))], [(0, .box [.pure (encL 1 (encL 1 encI_i64) a0.Points), .pure (encL 12 enc_RoadmapEdge a0.Edges)]), (1, vecO 1 encI_i64 x57.1 3)], [], 2⟩)
       (.call (ref23_joins_C a0 (a0.Edges.getD ((x57.2).toNat) default)) [] fun y84 =>
       .br y84
        (.br (((a0.Edges.getD ((x57.2).toNat) default).U) == a1)
         (.ret (.out true))
         (.ret (.out (((a0.Edges.getD ((x57.2).toNat) default).V) == a1))))
        (.ret (.out false))) fun y83 =>
      .br y83
       (.conv 7002 (cvLit 1 encI_i64 ([x57.2] : (List Int)) 3) <|
       .conv 7003 (cvApp 1 encI_i64 x57.1 ([x57.2] : (List Int)) 3) <|
       .grd ((x57.1.length + ([x57.2] : (List Int)).length) * 8 ≤ 140737488355328 ∧ (x57.1.length + ([x57.2] : (List Int)).length) ≤ maxLen) <|
       .ret (.out (x57.1 ++ ([x57.2] : (List Int)))))
       (.ret (.out x57.1))) fun y80 =>
     .ret (.next (y80, (IntKind.i64.wrap (x57.2 + 1)))))
     (.ret (.out x57.1)))
   (nl, 0) [] fun y71 =>
  .ret y71
noncomputable def ref23_Incident_C (a0 : S_Roadmap) (a1 : Int) : CallS (List Int) :=
  mkC [] hd Tryz.func57 (by kernel_rfl) (ref23_Incident_T a0 a1) 0 [.pure (enc_Roadmap a0), .pure (.int .i64 a1)] [] (fun r => .pure (encL 1 encI_i64 r)) (fun _ => []) (by kernel_rfl)
noncomputable def ref23_UsableIn_T (a0 : S_RoadmapEdge) (a1 : Int) : T Bool :=
  .br (a1 == 0)
   (.ret (a0.State == 1))
   (.br (a1 == 1)
    (.br (a0.State == 1)
     (.ret true)
     (.ret (a0.State == 0)))
    (.br (a1 == 2)
     (.ret (a0.State != 2))
     (.ret false)))
noncomputable def ref23_UsableIn_C (a0 : S_RoadmapEdge) (a1 : Int) : CallS Bool :=
  mkC [] hd Tryz.func102 (by kernel_rfl) (ref23_UsableIn_T a0 a1) 0 [.pure (enc_RoadmapEdge a0), .pure (.int .i64 a1)] [] (fun r => .pure (.bool r)) (fun _ => []) (by kernel_rfl)
set_option maxHeartbeats 8000000 in
set_option maxRecDepth 20000 in
noncomputable def ref23_Components_T (a0 : S_Roadmap) (a1 : Int) : T (List Int) :=
  .loop (fun (x917 : ((List Int) × Int)) => ⟨[(1, .pure (.int .i64 a1)), (2, .ptr 0 0), (5, .vec 1), (6, .pure (.int .i64 x917.2))], [(0, .box [.pure (encL 1 (encL 1 encI_i64) a0.Points), .pure (encL 12 enc_RoadmapEdge a0.Edges)]), (1, vecO 1 encI_i64 x917.1 3)], [], 2⟩)
   (.exit 0) (fun (y918 : (List Int)) => ⟨[(1, .pure (.int .i64 a1)), (2, .ptr 0 0), (5, .vec 1)], [(0, .box [.pure (encL 1 (encL 1 encI_i64) a0.Points), .pure (encL 12 enc_RoadmapEdge a0.Edges)]), (1, vecO 1 encI_i64 y918 3)], [], 2⟩)
   (fun x917 => .br (decide (x917.2 < ((a0.Points.length : Nat) : Int)))
     (.conv 5002 (cvLit 1 encI_i64 ([x917.2] : (List Int)) 3) <|
     .conv 5003 (cvApp 1 encI_i64 x917.1 ([x917.2] : (List Int)) 3) <|
     .grd ((x917.1.length + ([x917.2] : (List Int)).length) * 8 ≤ 140737488355328 ∧ (x917.1.length + ([x917.2] : (List Int)).length) ≤ maxLen) <|
     .ret (.next ((x917.1 ++ ([x917.2] : (List Int))), (IntKind.i64.wrap (x917.2 + 1)))))
     (.ret (.out x917.1)))
   (nl, 0) [] fun y918 =>
  .loop (fun (x1523 : ((List Int) × Bool)) => ⟨[(1, .pure (.int .i64 a1)), (2, .ptr 0 0), (5, .vec 1), (7, .pure (.bool x1523.2))], [(0, .box [.pure (encL 1 (encL 1 encI_i64) a0.Points), .pure (encL 12 enc_RoadmapEdge a0.Edges)]), (1, vecO 1 encI_i64 x1523.1 3)], [], 2⟩)
   (.exit 2) (fun (y1674 : (List Int)) => ⟨[(5, .vec 0)], [(0, vecO 1 encI_i64 y1674 3)], [], 1⟩)
   (fun x1523 => .br x1523.2
     (.loop (fun (x1725 : ((List Int) × Bool × Int)) => ⟨[(1, .pure (.int .i64 a1)), (2, .ptr 0 0), (5, .vec 1), (7, .pure (.bool x1725.2.1)), (8, .pure (.int .i64 x1725.2.2))], [(0, .box [.pure (encL 1 (encL 1 encI_i64) a0.Points), .pure (encL 12 enc_RoadmapEdge a0.Edges)]), (1, vecO 1 encI_i64 x1725.1 3)], [], 2⟩)
      (.exit 4) (fun (y1775 : ((List Int) × Bool)) => ⟨[(1, .pure (.int .i64 a1)), (2, .ptr 0 0), (5, .vec 1), (7, .pure (.bool y1775.2))], [(0, .box [.pure (encL 1 (encL 1 encI_i64) a0.Points), .pure (encL 12 enc_RoadmapEdge a0.Edges)]), (1, vecO 1 encI_i64 y1775.1 3)], [], 2⟩)
      (fun x1725 => .br (decide (x1725.2.2 < ((a0.Edges.length : Nat) : Int)))
        (.cut 0 (fun (y1808 : ((List Int) × Bool)) => ⟨[(1, .pure (.int .i64 a1)), (2, .ptr 0 0), (5, .vec 1), (7, .pure (.bool y1808.2)), (8, .pure (.int .i64 x1725.2.2))], [(0, .box [.pure (encL 1 (encL 1 encI_i64) a0.Points), .pure (encL 12 enc_RoadmapEdge a0.Edges)]), (1, vecO 1 encI_i64 y1808.1 3)], [], 2⟩)
         (.grd (0 ≤ x1725.2.2 ∧ x1725.2.2 < ((a0.Edges.length : Nat) : Int)) <|
         .cut 1 (fun (y1820 : Bool) => ⟨[(1, .pure (.int .i64 a1)), (2, .ptr 0 0), (5, .vec 1), (7, .pure (.bool x1725.2.1)), (8, .pure (.int .i64 x1725.2.2)), (9, .ptr 2 0), (57, .pure (.bool y1820))], [(0, .box [.pure (encL 1 (encL 1 encI_i64) a0.Points), .pure (encL 12 enc_RoadmapEdge a0.Edges)]), (1, vecO 1 encI_i64 x1725.1 3), (2, .box [.pure (.int .i64 ((a0.Edges.getD ((x1725.2.2).toNat) default).U)), .pure (.int .i64 ((a0.Edges.getD ((x1725.2.2).toNat) default).V)), .pure (.int .i64 ((a0.Edges.getD ((x1725.2.2).toNat) default).Cost)), .pure (.int .i64 ((a0.Edges.getD ((x1725.2.2).toNat) default).State)), .pure (.int .i64 ((a0.Edges.getD ((x1725.2.2).toNat) default).Proof.Kind)), .pure (encL 3 enc_Piece ((a0.Edges.getD ((x1725.2.2).toNat) default).Proof.Pieces)), .pure (.int .i64 ((a0.Edges.getD ((x1725.2.2).toNat) default).Proof.At.Depth)), .pure (.int .i64 ((a0.Edges.getD ((x1725.2.2).toNat) default).Proof.At.Index)), .pure (encL 3 enc_arr_3_int64 ((a0.Edges.getD ((x1725.2.2).toNat) default).Proof.At.Normals)), .pure (.int .i64 ((a0.Edges.getD ((x1725.2.2).toNat) default).Proof.Witness.Pair)), .pure (encL 1 encI_i64 ((a0.Edges.getD ((x1725.2.2).toNat) default).Proof.Witness.Left)), .pure (encL 1 encI_i64 ((a0.Edges.getD ((x1725.2.2).toNat) default).Proof.Witness.Right))])], [], 3⟩)
          (.call (ref23_joins_C (⟨a0.Points, a0.Edges⟩ : S_Roadmap) (a0.Edges.getD ((x1725.2.2).toNat) default)) [] fun y1821 =>
          .br (!y1821)
           (.ret (.out true))
           (.call (ref23_UsableIn_C (a0.Edges.getD ((x1725.2.2).toNat) default) a1) [] fun y1822 =>
           .br (!y1822)
            (.ret (.out true))
            (.grd (0 ≤ ((a0.Edges.getD ((x1725.2.2).toNat) default).U) ∧ ((a0.Edges.getD ((x1725.2.2).toNat) default).U) < ((x1725.1.length : Nat) : Int)) <|
            .grd (((a0.Edges.getD ((x1725.2.2).toNat) default).U).toNat < x1725.1.length) <|
            .grd (0 ≤ ((a0.Edges.getD ((x1725.2.2).toNat) default).V) ∧ ((a0.Edges.getD ((x1725.2.2).toNat) default).V) < ((x1725.1.length : Nat) : Int)) <|
            .grd (((a0.Edges.getD ((x1725.2.2).toNat) default).V).toNat < x1725.1.length) <|
            .ret (.out ((x1725.1.getD (((a0.Edges.getD ((x1725.2.2).toNat) default).U).toNat) default) == (x1725.1.getD (((a0.Edges.getD ((x1725.2.2).toNat) default).V).toNat) default)))))) fun y1820 =>
         .br y1820
          (.ret (.out (x1725.1, x1725.2.1)))
          (.grd (0 ≤ ((a0.Edges.getD ((x1725.2.2).toNat) default).U) ∧ ((a0.Edges.getD ((x1725.2.2).toNat) default).U) < ((x1725.1.length : Nat) : Int)) <|
          .grd (((a0.Edges.getD ((x1725.2.2).toNat) default).U).toNat < x1725.1.length) <|
          .grd (0 ≤ ((a0.Edges.getD ((x1725.2.2).toNat) default).V) ∧ ((a0.Edges.getD ((x1725.2.2).toNat) default).V) < ((x1725.1.length : Nat) : Int)) <|
          .grd (((a0.Edges.getD ((x1725.2.2).toNat) default).V).toNat < x1725.1.length) <|
          .name 14010 ((min (x1725.1.getD (((a0.Edges.getD ((x1725.2.2).toNat) default).U).toNat) default) (x1725.1.getD (((a0.Edges.getD ((x1725.2.2).toNat) default).V).toNat) default))) fun z1824 =>
          .grd (0 ≤ ((a0.Edges.getD ((x1725.2.2).toNat) default).U) ∧ ((a0.Edges.getD ((x1725.2.2).toNat) default).U) < ((x1725.1.length : Nat) : Int)) <|
          .conv 15009 (cvSet 1 encI_i64 x1725.1 3 (((a0.Edges.getD ((x1725.2.2).toNat) default).U).toNat) z1824) <|
          .grd (((a0.Edges.getD ((x1725.2.2).toNat) default).U).toNat < x1725.1.length ∧ 0 ≤ ((a0.Edges.getD ((x1725.2.2).toNat) default).U).toNat) <|
          .grd (0 ≤ ((a0.Edges.getD ((x1725.2.2).toNat) default).V) ∧ ((a0.Edges.getD ((x1725.2.2).toNat) default).V) < (((x1725.1.set (((a0.Edges.getD ((x1725.2.2).toNat) default).U).toNat) z1824).length : Nat) : Int)) <|
          .conv 15011 (cvSet 1 encI_i64 (x1725.1.set (((a0.Edges.getD ((x1725.2.2).toNat) default).U).toNat) z1824) 3 (((a0.Edges.getD ((x1725.2.2).toNat) default).V).toNat) z1824) <|
          .grd (((a0.Edges.getD ((x1725.2.2).toNat) default).V).toNat < (x1725.1.set (((a0.Edges.getD ((x1725.2.2).toNat) default).U).toNat) z1824).length ∧ 0 ≤ ((a0.Edges.getD ((x1725.2.2).toNat) default).V).toNat) <|
          .ret (.out (((x1725.1.set (((a0.Edges.getD ((x1725.2.2).toNat) default).U).toNat) z1824).set (((a0.Edges.getD ((x1725.2.2).toNat) default).V).toNat) z1824), true)))) fun y1808 =>
        .ret (.next (y1808.1, y1808.2, (IntKind.i64.wrap (x1725.2.2 + 1)))))
        (.ret (.out (x1725.1, x1725.2.1))))
      (x1523.1, false, 0) [] fun y1775 =>
     .ret (.next (y1775.1, y1775.2)))
     (.ret (.out x1523.1)))
   (y918, true) [] fun y1674 =>
  .ret y1674
noncomputable def ref23_Components_C (a0 : S_Roadmap) (a1 : Int) : CallS (List Int) :=
  mkC [] hd Tryz.func58 (by kernel_rfl) (ref23_Components_T a0 a1) 0 [.pure (enc_Roadmap a0), .pure (.int .i64 a1)] [] (fun r => .pure (encL 1 encI_i64 r)) (fun _ => []) (by kernel_rfl)
noncomputable def law25_lists_T (a0 : S_Roadmap) (a1 : Int) (a2 : Int) : T Bool :=
  .call (roadmap_Incident_C a0 a1) [] fun y1 =>
  .call (ref23_Incident_C a0 a1) [] fun y2 =>
  .call (make_Same_int_C y1 y2) [] fun y3 =>
  .br y3
   (.call (roadmap_Components_C a0 a2) [] fun y4 =>
   .call (ref23_Components_C (⟨a0.Points, a0.Edges⟩ : S_Roadmap) a2) [] fun y5 =>
   .call (make_Same_int_C y4 y5) [] fun y6 =>
   .ret y6)
   (.ret false)
noncomputable def law25_lists_C (a0 : S_Roadmap) (a1 : Int) (a2 : Int) : CallS Bool :=
  mkC [] hd Tryz.func23 (by kernel_rfl) (law25_lists_T a0 a1 a2) 0 [.pure (enc_Roadmap a0), .pure (.int .i64 a1), .pure (.int .i64 a2)] [] (fun r => .pure (.bool r)) (fun _ => []) (by kernel_rfl)
noncomputable def law25_RoadmapLists_T (a0 : S_Roadmap) (a1 : Int) (a2 : Int) (a3 : (List Int)) : T Bool :=
  .call (make_SmallMap_C a0) [] fun y5 =>
  .br (!y5)
   (.call (law25_awake_C) [] fun y6 =>
   .ret y6)
   (.call (make_Graph_C a3) [] fun y8 =>
   .call (make_Round_C a2 5) [] fun y10 =>
   .call (law25_awake_C) [] fun y11 =>
   .br y11
    (.call (law25_lists_C (⟨a0.Points, a0.Edges⟩ : S_Roadmap) a1 a2) [] fun y12 =>
    .br y12
     (.call (make_Round_C a1 9) [] fun y13 =>
     .call (law25_lists_C (⟨a0.Points, a0.Edges⟩ : S_Roadmap) y13 (IntKind.i64.wrap (y10 - 1))) [] fun y14 =>
     .br y14
      (.call (make_Round_C a1 (IntKind.i64.wrap (((y8.Points.length : Nat) : Int) + 2))) [] fun y15 =>
      .call (law25_lists_C (⟨y8.Points, y8.Edges⟩ : S_Roadmap) (IntKind.i64.wrap (y15 - 1)) (IntKind.i64.wrap (y10 - 1))) [] fun y16 =>
      .ret y16)
      (.ret false))
     (.ret false))
    (.ret false))
noncomputable def law25_RoadmapLists_C (a0 : S_Roadmap) (a1 : Int) (a2 : Int) (a3 : (List Int)) : CallS Bool :=
  mkC [] hd Tryz.func5 (by kernel_rfl) (law25_RoadmapLists_T a0 a1 a2 a3) 0 [.pure (enc_Roadmap a0), .pure (.int .i64 a1), .pure (.int .i64 a2), .pure (encL 1 encI_i64 a3)] [] (fun r => .pure (.bool r)) (fun _ => []) (by kernel_rfl)
open Go.Proofs
open Go.Proofs
end Go.Abs
