/-
  D3 (a part of a claim: our own text).
-/
import Derived.Test.YtkjkbdobenmgbaaGreatXNM2
namespace Go.Abs
open Go.Proofs
noncomputable def cz4 (a0 : (List (Int × Int))) (a1 : Nat) (a2 : Nat) (a3 : Int) (a4 : Int) (a5 : Int) : T (Int × (List (Int × Int))) :=
 .grd (0 ≤ a5 ∧ a5 < ((a2 : Nat) : Int)) <|
 .grd ((a1 + ((a5).toNat)) < a0.length) <|
 .grd (0 ≤ a3 ∧ a3 < ((a2 : Nat) : Int)) <|
 .grd ((a1 + ((a3).toNat)) < a0.length) <|
 .grd (0 ≤ a3 ∧ a3 < ((a2 : Nat) : Int)) <|
 .conv 1013 (azq 2 az3 a0 90 (a1 + ((a3).toNat)) (a0.getD (a1 + ((a5).toNat)) default)) <|
 .grd ((a1 + ((a3).toNat)) < a0.length ∧ 0 ≤ (a1 + ((a3).toNat))) <|
 .grd (0 ≤ a5 ∧ a5 < ((a2 : Nat) : Int)) <|
 .conv 1015 (azq 2 az3 (a0.set (a1 + ((a3).toNat)) (a0.getD (a1 + ((a5).toNat)) default)) 90 (a1 + ((a5).toNat)) (a0.getD (a1 + ((a3).toNat)) default)) <|
 .grd ((a1 + ((a5).toNat)) < (a0.set (a1 + ((a3).toNat)) (a0.getD (a1 + ((a5).toNat)) default)).length ∧ 0 ≤ (a1 + ((a5).toNat))) <|
 .loop (fun (x1091 : ((List (Int × Int)) × Int × Int)) => ⟨[(0, .view 0 2 a1 a2), (1, pz a3), (4, .func 99 [] []), (11, pz x1091.2.1), (12, pz x1091.2.2)], [(0, vecO 2 az3 x1091.1 90)], [], 1⟩)
 (.exit 0) (fun (y1200 : (Int × (List (Int × Int)))) => ⟨[(11, pz y1200.1)], [(0, vecO 2 az3 y1200.2 90)], [], 1⟩)
 (fun x1091 => .loop (fun (x1237 : Int) => ⟨[(0, .view 0 2 a1 a2), (1, pz a3), (4, .func 99 [] []), (11, pz x1237), (12, pz x1091.2.2)], [(0, vecO 2 az3 x1091.1 90)], [], 1⟩)
 (.exit 2) (fun (y1246 : Int) => ⟨[(0, .view 0 2 a1 a2), (1, pz a3), (4, .func 99 [] []), (11, pz y1246), (12, pz x1091.2.2)], [(0, vecO 2 az3 x1091.1 90)], [], 1⟩)
 (fun x1237 => .cut 1 (fun (y1253 : Bool) => ⟨[(0, .view 0 2 a1 a2), (1, pz a3), (4, .func 99 [] []), (11, pz x1237), (12, pz x1091.2.2), (47, .pure (.bool y1253))], [(0, vecO 2 az3 x1091.1 90)], [], 1⟩)
 (.br (decide (x1237 ≤ x1091.2.2))
 (.grd (0 ≤ a3 ∧ a3 < ((a2 : Nat) : Int)) <|
 .grd ((a1 + ((a3).toNat)) < x1091.1.length) <|
 .grd (0 ≤ x1237 ∧ x1237 < ((a2 : Nat) : Int)) <|
 .grd ((a1 + ((x1237).toNat)) < x1091.1.length) <|
 .call (azk (x1091.1.getD (a1 + ((a3).toNat)) default) (x1091.1.getD (a1 + ((x1237).toNat)) default)) [] fun y1254 =>
 .ret (.out (!(decide (y1254 < 0)))))
 (.ret (.out false))) fun y1253 =>
 .br y1253
 (.ret (.next (IntKind.i64.wrap (x1237 + 1))))
 (.ret (.out x1237)))
 x1091.2.1 [] fun y1246 =>
 .loop (fun (x1291 : Int) => ⟨[(0, .view 0 2 a1 a2), (1, pz a3), (4, .func 99 [] []), (11, pz y1246), (12, pz x1291)], [(0, vecO 2 az3 x1091.1 90)], [], 1⟩)
 (.exit 4) (fun (y1300 : Int) => ⟨[(0, .view 0 2 a1 a2), (1, pz a3), (4, .func 99 [] []), (11, pz y1246), (12, pz y1300)], [(0, vecO 2 az3 x1091.1 90)], [], 1⟩)
 (fun x1291 => .cut 1 (fun (y1307 : Bool) => ⟨[(0, .view 0 2 a1 a2), (1, pz a3), (4, .func 99 [] []), (11, pz y1246), (12, pz x1291), (65, .pure (.bool y1307))], [(0, vecO 2 az3 x1091.1 90)], [], 1⟩)
 (.br (decide (y1246 ≤ x1291))
 (.grd (0 ≤ a3 ∧ a3 < ((a2 : Nat) : Int)) <|
 .grd ((a1 + ((a3).toNat)) < x1091.1.length) <|
 .grd (0 ≤ x1291 ∧ x1291 < ((a2 : Nat) : Int)) <|
 .grd ((a1 + ((x1291).toNat)) < x1091.1.length) <|
 .call (azk (x1091.1.getD (a1 + ((a3).toNat)) default) (x1091.1.getD (a1 + ((x1291).toNat)) default)) [] fun y1308 =>
 .ret (.out (decide (y1308 < 0))))
 (.ret (.out false))) fun y1307 =>
 .br y1307
 (.ret (.next (IntKind.i64.wrap (x1291 - 1))))
 (.ret (.out x1291)))
 x1091.2.2 [] fun y1300 =>
 .br (decide (y1246 > y1300))
 (.ret (.out (y1246, x1091.1)))
 (.grd (0 ≤ y1300 ∧ y1300 < ((a2 : Nat) : Int)) <|
 .grd ((a1 + ((y1300).toNat)) < x1091.1.length) <|
 .grd (0 ≤ y1246 ∧ y1246 < ((a2 : Nat) : Int)) <|
 .grd ((a1 + ((y1246).toNat)) < x1091.1.length) <|
 .grd (0 ≤ y1246 ∧ y1246 < ((a2 : Nat) : Int)) <|
 .conv 8013 (azq 2 az3 x1091.1 90 (a1 + ((y1246).toNat)) (x1091.1.getD (a1 + ((y1300).toNat)) default)) <|
 .grd ((a1 + ((y1246).toNat)) < x1091.1.length ∧ 0 ≤ (a1 + ((y1246).toNat))) <|
 .grd (0 ≤ y1300 ∧ y1300 < ((a2 : Nat) : Int)) <|
 .conv 8015 (azq 2 az3 (x1091.1.set (a1 + ((y1246).toNat)) (x1091.1.getD (a1 + ((y1300).toNat)) default)) 90 (a1 + ((y1300).toNat)) (x1091.1.getD (a1 + ((y1246).toNat)) default)) <|
 .grd ((a1 + ((y1300).toNat)) < (x1091.1.set (a1 + ((y1246).toNat)) (x1091.1.getD (a1 + ((y1300).toNat)) default)).length ∧ 0 ≤ (a1 + ((y1300).toNat))) <|
 .ret (.next (((x1091.1.set (a1 + ((y1246).toNat)) (x1091.1.getD (a1 + ((y1300).toNat)) default)).set (a1 + ((y1300).toNat)) (x1091.1.getD (a1 + ((y1246).toNat)) default)), (IntKind.i64.wrap (y1246 + 1)), (IntKind.i64.wrap (y1300 - 1))))))
 (((a0.set (a1 + ((a3).toNat)) (a0.getD (a1 + ((a5).toNat)) default)).set (a1 + ((a5).toNat)) (a0.getD (a1 + ((a3).toNat)) default)), (IntKind.i64.wrap (a3 + 1)), (IntKind.i64.wrap (a4 - 1))) [] fun y1200 =>
 .ret (y1200.1, y1200.2)
noncomputable def ez8 (a0 : (List (Int × Int))) (a1 : Nat) (a2 : Nat) (a3 : Int) (a4 : Int) (a5 : Int) : CallS (Int × (List (Int × Int))) :=
  mkC [] hd Tryz.func167 (by kernel_rfl) (cz4 a0 a1 a2 a3 a4 a5) 1 [.view 0 2 a1 a2, pz a3, pz a4, pz a5, .func 99 [] []] [(0, vecO 2 az3 a0 90)] (fun r => pz r.1) (fun r => [(0, vecO 2 az3 r.2 90)]) (by kernel_rfl)
set_option maxHeartbeats 8000000 in
set_option maxRecDepth 20000 in
noncomputable def dza (a0 : (List (Int × Int))) (a1 : Nat) (a2 : Nat) (a3 : Int) (a4 : Int) (a5 : Int) : T (Int × Bool × (List (Int × Int))) :=
 .grd (0 ≤ a5 ∧ a5 < ((a2 : Nat) : Int)) <|
 .grd ((a1 + ((a5).toNat)) < a0.length) <|
 .grd (0 ≤ a3 ∧ a3 < ((a2 : Nat) : Int)) <|
 .grd ((a1 + ((a3).toNat)) < a0.length) <|
 .grd (0 ≤ a3 ∧ a3 < ((a2 : Nat) : Int)) <|
 .conv 1013 (azq 2 az3 a0 90 (a1 + ((a3).toNat)) (a0.getD (a1 + ((a5).toNat)) default)) <|
 .grd ((a1 + ((a3).toNat)) < a0.length ∧ 0 ≤ (a1 + ((a3).toNat))) <|
 .grd (0 ≤ a5 ∧ a5 < ((a2 : Nat) : Int)) <|
 .conv 1015 (azq 2 az3 (a0.set (a1 + ((a3).toNat)) (a0.getD (a1 + ((a5).toNat)) default)) 90 (a1 + ((a5).toNat)) (a0.getD (a1 + ((a3).toNat)) default)) <|
 .grd ((a1 + ((a5).toNat)) < (a0.set (a1 + ((a3).toNat)) (a0.getD (a1 + ((a5).toNat)) default)).length ∧ 0 ≤ (a1 + ((a5).toNat))) <|
 .loop (fun (x799 : Int) => ⟨[(0, .view 0 2 a1 a2), (1, pz a3), (4, .func 99 [] []), (12, pz x799), (13, pz (IntKind.i64.wrap (a4 - 1)))], [(0, vecO 2 az3 ((a0.set (a1 + ((a3).toNat)) (a0.getD (a1 + ((a5).toNat)) default)).set (a1 + ((a5).toNat)) (a0.getD (a1 + ((a3).toNat)) default)) 90)], [], 1⟩)
 (.exit 0) (fun (y808 : Int) => ⟨[(0, .view 0 2 a1 a2), (1, pz a3), (4, .func 99 [] []), (12, pz y808), (13, pz (IntKind.i64.wrap (a4 - 1)))], [(0, vecO 2 az3 ((a0.set (a1 + ((a3).toNat)) (a0.getD (a1 + ((a5).toNat)) default)).set (a1 + ((a5).toNat)) (a0.getD (a1 + ((a3).toNat)) default)) 90)], [], 1⟩)
 (fun x799 => .cut 1 (fun (y815 : Bool) => ⟨[(0, .view 0 2 a1 a2), (1, pz a3), (4, .func 99 [] []), (12, pz x799), (13, pz (IntKind.i64.wrap (a4 - 1))), (47, .pure (.bool y815))], [(0, vecO 2 az3 ((a0.set (a1 + ((a3).toNat)) (a0.getD (a1 + ((a5).toNat)) default)).set (a1 + ((a5).toNat)) (a0.getD (a1 + ((a3).toNat)) default)) 90)], [], 1⟩)
 (.br (decide (x799 ≤ (IntKind.i64.wrap (a4 - 1))))
 (.grd (0 ≤ x799 ∧ x799 < ((a2 : Nat) : Int)) <|
 .grd ((a1 + ((x799).toNat)) < ((a0.set (a1 + ((a3).toNat)) (a0.getD (a1 + ((a5).toNat)) default)).set (a1 + ((a5).toNat)) (a0.getD (a1 + ((a3).toNat)) default)).length) <|
 .grd (0 ≤ a3 ∧ a3 < ((a2 : Nat) : Int)) <|
 .grd ((a1 + ((a3).toNat)) < ((a0.set (a1 + ((a3).toNat)) (a0.getD (a1 + ((a5).toNat)) default)).set (a1 + ((a5).toNat)) (a0.getD (a1 + ((a3).toNat)) default)).length) <|
 .call (azk (((a0.set (a1 + ((a3).toNat)) (a0.getD (a1 + ((a5).toNat)) default)).set (a1 + ((a5).toNat)) (a0.getD (a1 + ((a3).toNat)) default)).getD (a1 + ((x799).toNat)) default) (((a0.set (a1 + ((a3).toNat)) (a0.getD (a1 + ((a5).toNat)) default)).set (a1 + ((a5).toNat)) (a0.getD (a1 + ((a3).toNat)) default)).getD (a1 + ((a3).toNat)) default)) [] fun y816 =>
 .ret (.out (decide (y816 < 0))))
 (.ret (.out false))) fun y815 =>
 .br y815
 (.ret (.next (IntKind.i64.wrap (x799 + 1))))
 (.ret (.out x799)))
 (IntKind.i64.wrap (a3 + 1)) [] fun y808 =>
 .loop (fun (x853 : Int) => ⟨[(0, .view 0 2 a1 a2), (1, pz a3), (4, .func 99 [] []), (12, pz y808), (13, pz x853)], [(0, vecO 2 az3 ((a0.set (a1 + ((a3).toNat)) (a0.getD (a1 + ((a5).toNat)) default)).set (a1 + ((a5).toNat)) (a0.getD (a1 + ((a3).toNat)) default)) 90)], [], 1⟩)
 (.exit 2) (fun (y862 : Int) => ⟨[(0, .view 0 2 a1 a2), (1, pz a3), (4, .func 99 [] []), (12, pz y808), (13, pz y862)], [(0, vecO 2 az3 ((a0.set (a1 + ((a3).toNat)) (a0.getD (a1 + ((a5).toNat)) default)).set (a1 + ((a5).toNat)) (a0.getD (a1 + ((a3).toNat)) default)) 90)], [], 1⟩)
 (fun x853 => .cut 1 (fun (y869 : Bool) => ⟨[(0, .view 0 2 a1 a2), (1, pz a3), (4, .func 99 [] []), (12, pz y808), (13, pz x853), (66, .pure (.bool y869))], [(0, vecO 2 az3 ((a0.set (a1 + ((a3).toNat)) (a0.getD (a1 + ((a5).toNat)) default)).set (a1 + ((a5).toNat)) (a0.getD (a1 + ((a3).toNat)) default)) 90)], [], 1⟩)
 (.br (decide (y808 ≤ x853))
 (.grd (0 ≤ x853 ∧ x853 < ((a2 : Nat) : Int)) <|
 .grd ((a1 + ((x853).toNat)) < ((a0.set (a1 + ((a3).toNat)) (a0.getD (a1 + ((a5).toNat)) default)).set (a1 + ((a5).toNat)) (a0.getD (a1 + ((a3).toNat)) default)).length) <|
 .grd (0 ≤ a3 ∧ a3 < ((a2 : Nat) : Int)) <|
 .grd ((a1 + ((a3).toNat)) < ((a0.set (a1 + ((a3).toNat)) (a0.getD (a1 + ((a5).toNat)) default)).set (a1 + ((a5).toNat)) (a0.getD (a1 + ((a3).toNat)) default)).length) <|
 .call (azk (((a0.set (a1 + ((a3).toNat)) (a0.getD (a1 + ((a5).toNat)) default)).set (a1 + ((a5).toNat)) (a0.getD (a1 + ((a3).toNat)) default)).getD (a1 + ((x853).toNat)) default) (((a0.set (a1 + ((a3).toNat)) (a0.getD (a1 + ((a5).toNat)) default)).set (a1 + ((a5).toNat)) (a0.getD (a1 + ((a3).toNat)) default)).getD (a1 + ((a3).toNat)) default)) [] fun y870 =>
 .ret (.out (!(decide (y870 < 0)))))
 (.ret (.out false))) fun y869 =>
 .br y869
 (.ret (.next (IntKind.i64.wrap (x853 - 1))))
 (.ret (.out x853)))
 (IntKind.i64.wrap (a4 - 1)) [] fun y862 =>
 .br (decide (y808 > y862))
 (.grd (0 ≤ a3 ∧ a3 < ((a2 : Nat) : Int)) <|
 .grd ((a1 + ((a3).toNat)) < ((a0.set (a1 + ((a3).toNat)) (a0.getD (a1 + ((a5).toNat)) default)).set (a1 + ((a5).toNat)) (a0.getD (a1 + ((a3).toNat)) default)).length) <|
 .grd (0 ≤ y862 ∧ y862 < ((a2 : Nat) : Int)) <|
 .grd ((a1 + ((y862).toNat)) < ((a0.set (a1 + ((a3).toNat)) (a0.getD (a1 + ((a5).toNat)) default)).set (a1 + ((a5).toNat)) (a0.getD (a1 + ((a3).toNat)) default)).length) <|
 .grd (0 ≤ y862 ∧ y862 < ((a2 : Nat) : Int)) <|
 .conv 8013 (azq 2 az3 ((a0.set (a1 + ((a3).toNat)) (a0.getD (a1 + ((a5).toNat)) default)).set (a1 + ((a5).toNat)) (a0.getD (a1 + ((a3).toNat)) default)) 90 (a1 + ((y862).toNat)) (((a0.set (a1 + ((a3).toNat)) (a0.getD (a1 + ((a5).toNat)) default)).set (a1 + ((a5).toNat)) (a0.getD (a1 + ((a3).toNat)) default)).getD (a1 + ((a3).toNat)) default)) <|
 .grd ((a1 + ((y862).toNat)) < ((a0.set (a1 + ((a3).toNat)) (a0.getD (a1 + ((a5).toNat)) default)).set (a1 + ((a5).toNat)) (a0.getD (a1 + ((a3).toNat)) default)).length ∧ 0 ≤ (a1 + ((y862).toNat))) <|
 .grd (0 ≤ a3 ∧ a3 < ((a2 : Nat) : Int)) <|
 .conv 8015 (azq 2 az3 (((a0.set (a1 + ((a3).toNat)) (a0.getD (a1 + ((a5).toNat)) default)).set (a1 + ((a5).toNat)) (a0.getD (a1 + ((a3).toNat)) default)).set (a1 + ((y862).toNat)) (((a0.set (a1 + ((a3).toNat)) (a0.getD (a1 + ((a5).toNat)) default)).set (a1 + ((a5).toNat)) (a0.getD (a1 + ((a3).toNat)) default)).getD (a1 + ((a3).toNat)) default)) 90 (a1 + ((a3).toNat)) (((a0.set (a1 + ((a3).toNat)) (a0.getD (a1 + ((a5).toNat)) default)).set (a1 + ((a5).toNat)) (a0.getD (a1 + ((a3).toNat)) default)).getD (a1 + ((y862).toNat)) default)) <|
 .grd ((a1 + ((a3).toNat)) < (((a0.set (a1 + ((a3).toNat)) (a0.getD (a1 + ((a5).toNat)) default)).set (a1 + ((a5).toNat)) (a0.getD (a1 + ((a3).toNat)) default)).set (a1 + ((y862).toNat)) (((a0.set (a1 + ((a3).toNat)) (a0.getD (a1 + ((a5).toNat)) default)).set (a1 + ((a5).toNat)) (a0.getD (a1 + ((a3).toNat)) default)).getD (a1 + ((a3).toNat)) default)).length ∧ 0 ≤ (a1 + ((a3).toNat))) <|
 .ret (y862, true, ((((a0.set (a1 + ((a3).toNat)) (a0.getD (a1 + ((a5).toNat)) default)).set (a1 + ((a5).toNat)) (a0.getD (a1 + ((a3).toNat)) default)).set (a1 + ((y862).toNat)) (((a0.set (a1 + ((a3).toNat)) (a0.getD (a1 + ((a5).toNat)) default)).set (a1 + ((a5).toNat)) (a0.getD (a1 + ((a3).toNat)) default)).getD (a1 + ((a3).toNat)) default)).set (a1 + ((a3).toNat)) (((a0.set (a1 + ((a3).toNat)) (a0.getD (a1 + ((a5).toNat)) default)).set (a1 + ((a5).toNat)) (a0.getD (a1 + ((a3).toNat)) default)).getD (a1 + ((y862).toNat)) default))))
 (.grd (0 ≤ y862 ∧ y862 < ((a2 : Nat) : Int)) <|
 .grd ((a1 + ((y862).toNat)) < ((a0.set (a1 + ((a3).toNat)) (a0.getD (a1 + ((a5).toNat)) default)).set (a1 + ((a5).toNat)) (a0.getD (a1 + ((a3).toNat)) default)).length) <|
 .grd (0 ≤ y808 ∧ y808 < ((a2 : Nat) : Int)) <|
 .grd ((a1 + ((y808).toNat)) < ((a0.set (a1 + ((a3).toNat)) (a0.getD (a1 + ((a5).toNat)) default)).set (a1 + ((a5).toNat)) (a0.getD (a1 + ((a3).toNat)) default)).length) <|
 .grd (0 ≤ y808 ∧ y808 < ((a2 : Nat) : Int)) <|
 .conv 10013 (azq 2 az3 ((a0.set (a1 + ((a3).toNat)) (a0.getD (a1 + ((a5).toNat)) default)).set (a1 + ((a5).toNat)) (a0.getD (a1 + ((a3).toNat)) default)) 90 (a1 + ((y808).toNat)) (((a0.set (a1 + ((a3).toNat)) (a0.getD (a1 + ((a5).toNat)) default)).set (a1 + ((a5).toNat)) (a0.getD (a1 + ((a3).toNat)) default)).getD (a1 + ((y862).toNat)) default)) <|
 .grd ((a1 + ((y808).toNat)) < ((a0.set (a1 + ((a3).toNat)) (a0.getD (a1 + ((a5).toNat)) default)).set (a1 + ((a5).toNat)) (a0.getD (a1 + ((a3).toNat)) default)).length ∧ 0 ≤ (a1 + ((y808).toNat))) <|
 .grd (0 ≤ y862 ∧ y862 < ((a2 : Nat) : Int)) <|
 .conv 10015 (azq 2 az3 (((a0.set (a1 + ((a3).toNat)) (a0.getD (a1 + ((a5).toNat)) default)).set (a1 + ((a5).toNat)) (a0.getD (a1 + ((a3).toNat)) default)).set (a1 + ((y808).toNat)) (((a0.set (a1 + ((a3).toNat)) (a0.getD (a1 + ((a5).toNat)) default)).set (a1 + ((a5).toNat)) (a0.getD (a1 + ((a3).toNat)) default)).getD (a1 + ((y862).toNat)) default)) 90 (a1 + ((y862).toNat)) (((a0.set (a1 + ((a3).toNat)) (a0.getD (a1 + ((a5).toNat)) default)).set (a1 + ((a5).toNat)) (a0.getD (a1 + ((a3).toNat)) default)).getD (a1 + ((y808).toNat)) default)) <|
 .grd ((a1 + ((y862).toNat)) < (((a0.set (a1 + ((a3).toNat)) (a0.getD (a1 + ((a5).toNat)) default)).set (a1 + ((a5).toNat)) (a0.getD (a1 + ((a3).toNat)) default)).set (a1 + ((y808).toNat)) (((a0.set (a1 + ((a3).toNat)) (a0.getD (a1 + ((a5).toNat)) default)).set (a1 + ((a5).toNat)) (a0.getD (a1 + ((a3).toNat)) default)).getD (a1 + ((y862).toNat)) default)).length ∧ 0 ≤ (a1 + ((y862).toNat))) <|
 .loop (fun (x1307 : ((List (Int × Int)) × Int × Int)) => ⟨[(0, .view 0 2 a1 a2), (1, pz a3), (4, .func 99 [] []), (12, pz x1307.2.1), (13, pz x1307.2.2)], [(0, vecO 2 az3 x1307.1 90)], [], 1⟩)
 (.exit 4) (fun (y1416 : ((List (Int × Int)) × Int)) => ⟨[(0, .view 0 2 a1 a2), (1, pz a3), (13, pz y1416.2)], [(0, vecO 2 az3 y1416.1 90)], [], 1⟩)
 (fun x1307 => .loop (fun (x1453 : Int) => ⟨[(0, .view 0 2 a1 a2), (1, pz a3), (4, .func 99 [] []), (12, pz x1453), (13, pz x1307.2.2)], [(0, vecO 2 az3 x1307.1 90)], [], 1⟩)
 (.exit 6) (fun (y1462 : Int) => ⟨[(0, .view 0 2 a1 a2), (1, pz a3), (4, .func 99 [] []), (12, pz y1462), (13, pz x1307.2.2)], [(0, vecO 2 az3 x1307.1 90)], [], 1⟩)
 (fun x1453 => .cut 1 (fun (y1469 : Bool) => ⟨[(0, .view 0 2 a1 a2), (1, pz a3), (4, .func 99 [] []), (12, pz x1453), (13, pz x1307.2.2), (120, .pure (.bool y1469))], [(0, vecO 2 az3 x1307.1 90)], [], 1⟩)
 (.br (decide (x1453 ≤ x1307.2.2))
 (.grd (0 ≤ x1453 ∧ x1453 < ((a2 : Nat) : Int)) <|
 .grd ((a1 + ((x1453).toNat)) < x1307.1.length) <|
 .grd (0 ≤ a3 ∧ a3 < ((a2 : Nat) : Int)) <|
 .grd ((a1 + ((a3).toNat)) < x1307.1.length) <|
 .call (azk (x1307.1.getD (a1 + ((x1453).toNat)) default) (x1307.1.getD (a1 + ((a3).toNat)) default)) [] fun y1470 =>
 .ret (.out (decide (y1470 < 0))))
 (.ret (.out false))) fun y1469 =>
 .br y1469
 (.ret (.next (IntKind.i64.wrap (x1453 + 1))))
 (.ret (.out x1453)))
 x1307.2.1 [] fun y1462 =>
 .loop (fun (x1507 : Int) => ⟨[(0, .view 0 2 a1 a2), (1, pz a3), (4, .func 99 [] []), (12, pz y1462), (13, pz x1507)], [(0, vecO 2 az3 x1307.1 90)], [], 1⟩)
 (.exit 8) (fun (y1516 : Int) => ⟨[(0, .view 0 2 a1 a2), (1, pz a3), (4, .func 99 [] []), (12, pz y1462), (13, pz y1516)], [(0, vecO 2 az3 x1307.1 90)], [], 1⟩)
 (fun x1507 => .cut 1 (fun (y1523 : Bool) => ⟨[(0, .view 0 2 a1 a2), (1, pz a3), (4, .func 99 [] []), (12, pz y1462), (13, pz x1507), (139, .pure (.bool y1523))], [(0, vecO 2 az3 x1307.1 90)], [], 1⟩)
 (.br (decide (y1462 ≤ x1507))
 (.grd (0 ≤ x1507 ∧ x1507 < ((a2 : Nat) : Int)) <|
 .grd ((a1 + ((x1507).toNat)) < x1307.1.length) <|
 .grd (0 ≤ a3 ∧ a3 < ((a2 : Nat) : Int)) <|
 .grd ((a1 + ((a3).toNat)) < x1307.1.length) <|
 .call (azk (x1307.1.getD (a1 + ((x1507).toNat)) default) (x1307.1.getD (a1 + ((a3).toNat)) default)) [] fun y1524 =>
 .ret (.out (!(decide (y1524 < 0)))))
 (.ret (.out false))) fun y1523 =>
 .br y1523
 (.ret (.next (IntKind.i64.wrap (x1507 - 1))))
 (.ret (.out x1507)))
 x1307.2.2 [] fun y1516 =>
 .br (decide (y1462 > y1516))
 (.ret (.out (x1307.1, y1516)))
 (.grd (0 ≤ y1516 ∧ y1516 < ((a2 : Nat) : Int)) <|
 .grd ((a1 + ((y1516).toNat)) < x1307.1.length) <|
 .grd (0 ≤ y1462 ∧ y1462 < ((a2 : Nat) : Int)) <|
 .grd ((a1 + ((y1462).toNat)) < x1307.1.length) <|
 .grd (0 ≤ y1462 ∧ y1462 < ((a2 : Nat) : Int)) <|
 .conv 18013 (azq 2 az3 x1307.1 90 (a1 + ((y1462).toNat)) (x1307.1.getD (a1 + ((y1516).toNat)) default)) <|
 .grd ((a1 + ((y1462).toNat)) < x1307.1.length ∧ 0 ≤ (a1 + ((y1462).toNat))) <|
 .grd (0 ≤ y1516 ∧ y1516 < ((a2 : Nat) : Int)) <|
 .conv 18015 (azq 2 az3 (x1307.1.set (a1 + ((y1462).toNat)) (x1307.1.getD (a1 + ((y1516).toNat)) default)) 90 (a1 + ((y1516).toNat)) (x1307.1.getD (a1 + ((y1462).toNat)) default)) <|
 .grd ((a1 + ((y1516).toNat)) < (x1307.1.set (a1 + ((y1462).toNat)) (x1307.1.getD (a1 + ((y1516).toNat)) default)).length ∧ 0 ≤ (a1 + ((y1516).toNat))) <|
 .ret (.next (((x1307.1.set (a1 + ((y1462).toNat)) (x1307.1.getD (a1 + ((y1516).toNat)) default)).set (a1 + ((y1516).toNat)) (x1307.1.getD (a1 + ((y1462).toNat)) default)), (IntKind.i64.wrap (y1462 + 1)), (IntKind.i64.wrap (y1516 - 1))))))
 (((((a0.set (a1 + ((a3).toNat)) (a0.getD (a1 + ((a5).toNat)) default)).set (a1 + ((a5).toNat)) (a0.getD (a1 + ((a3).toNat)) default)).set (a1 + ((y808).toNat)) (((a0.set (a1 + ((a3).toNat)) (a0.getD (a1 + ((a5).toNat)) default)).set (a1 + ((a5).toNat)) (a0.getD (a1 + ((a3).toNat)) default)).getD (a1 + ((y862).toNat)) default)).set (a1 + ((y862).toNat)) (((a0.set (a1 + ((a3).toNat)) (a0.getD (a1 + ((a5).toNat)) default)).set (a1 + ((a5).toNat)) (a0.getD (a1 + ((a3).toNat)) default)).getD (a1 + ((y808).toNat)) default)), (IntKind.i64.wrap (y808 + 1)), (IntKind.i64.wrap (y862 - 1))) [] fun y1416 =>
 .grd (0 ≤ a3 ∧ a3 < ((a2 : Nat) : Int)) <|
 .grd ((a1 + ((a3).toNat)) < y1416.1.length) <|
 .grd (0 ≤ y1416.2 ∧ y1416.2 < ((a2 : Nat) : Int)) <|
 .grd ((a1 + ((y1416.2).toNat)) < y1416.1.length) <|
 .grd (0 ≤ y1416.2 ∧ y1416.2 < ((a2 : Nat) : Int)) <|
 .conv 21013 (azq 2 az3 y1416.1 90 (a1 + ((y1416.2).toNat)) (y1416.1.getD (a1 + ((a3).toNat)) default)) <|
 .grd ((a1 + ((y1416.2).toNat)) < y1416.1.length ∧ 0 ≤ (a1 + ((y1416.2).toNat))) <|
 .grd (0 ≤ a3 ∧ a3 < ((a2 : Nat) : Int)) <|
 .conv 21015 (azq 2 az3 (y1416.1.set (a1 + ((y1416.2).toNat)) (y1416.1.getD (a1 + ((a3).toNat)) default)) 90 (a1 + ((a3).toNat)) (y1416.1.getD (a1 + ((y1416.2).toNat)) default)) <|
 .grd ((a1 + ((a3).toNat)) < (y1416.1.set (a1 + ((y1416.2).toNat)) (y1416.1.getD (a1 + ((a3).toNat)) default)).length ∧ 0 ≤ (a1 + ((a3).toNat))) <|
 .ret (y1416.2, false, ((y1416.1.set (a1 + ((y1416.2).toNat)) (y1416.1.getD (a1 + ((a3).toNat)) default)).set (a1 + ((a3).toNat)) (y1416.1.getD (a1 + ((y1416.2).toNat)) default))))
noncomputable def fzg (a0 : (List (Int × Int))) (a1 : Nat) (a2 : Nat) (a3 : Int) (a4 : Int) (a5 : Int) : CallS (Int × Bool × (List (Int × Int))) :=
  mkC [] hd Tryz.func168 (by kernel_rfl) (dza a0 a1 a2 a3 a4 a5) 1 [.view 0 2 a1 a2, pz a3, pz a4, pz a5, .func 99 [] []] [(0, vecO 2 az3 a0 90)] (fun r => .tup [pz r.1, .pure (.bool r.2.1)]) (fun r => [(0, vecO 2 az3 r.2.2 90)]) (by kernel_rfl)
noncomputable def cza (a0 : (List (Int × Int))) (a1 : Nat) (a2 : Nat) (a3 : Int) (a4 : Int) : T (List (Int × Int)) :=
 .br (decide ((IntKind.i64.wrap (a4 - a3)) ≥ 8))
 (.call (ez2 (IntKind.i64.wrap (a4 - a3))) [] fun y51 =>
 .ok ((4 : Int) ≠ 0) (by decide) <|
 .name 4005 ((IntKind.i64.wrap ((IntKind.i64.wrap (a3 + (IntKind.i64.wrap ((IntKind.i64.wrap ((IntKind.i64.wrap (a4 - a3)).tdiv 4)) * 2)))) - 1))) fun z53 =>
 .loop (fun (x69 : ((List (Int × Int)) × Int × Int)) => ⟨[(0, .view 0 2 a1 a2), (1, pz a3), (8, pz (IntKind.i64.wrap (a4 - a3))), (9, .ptr 1 0), (10, .pure (.int .u64 y51)), (11, pz x69.2.2)], [(0, vecO 2 az3 x69.1 90), (1, .box [.pure (.int .u64 x69.2.1)])], [], 2⟩)
 (.exit 0) (fun (y84 : (List (Int × Int))) => ⟨[], [(0, vecO 2 az3 y84 90)], [], 1⟩)
 (fun x69 => .ok ((4 : Int) ≠ 0) (by decide) <|
 .name 5006 ((IntKind.i64.wrap ((IntKind.i64.wrap (a3 + (IntKind.i64.wrap ((IntKind.i64.wrap ((IntKind.i64.wrap (a4 - a3)).tdiv 4)) * 2)))) + 1))) fun z88 =>
 .br (decide (x69.2.2 ≤ z88))
 (.call (izt x69.2.1) [(0, 1)] fun y96 =>
 .name 7004 ((IntKind.i64.wrap (IntKind.u64.wrap (((BitVec.ofInt 64 y96.1 &&& BitVec.ofInt 64 (IntKind.u64.wrap (y51 - 1))).toNat : Int))))) fun z97 =>
 .cut 0 (fun (y98 : Int) => ⟨[(0, .view 0 2 a1 a2), (1, pz a3), (8, pz (IntKind.i64.wrap (a4 - a3))), (9, .ptr 1 0), (10, .pure (.int .u64 y51)), (11, pz x69.2.2), (12, pz y98)], [(0, vecO 2 az3 x69.1 90), (1, .box [.pure (.int .u64 y96.2)])], [], 2⟩)
 (.br (decide (z97 ≥ (IntKind.i64.wrap (a4 - a3))))
 (.ret (.out (IntKind.i64.wrap (z97 - (IntKind.i64.wrap (a4 - a3))))))
 (.ret (.out z97))) fun y98 =>
 .grd (0 ≤ (IntKind.i64.wrap (a3 + y98)) ∧ (IntKind.i64.wrap (a3 + y98)) < ((a2 : Nat) : Int)) <|
 .grd ((a1 + (((IntKind.i64.wrap (a3 + y98))).toNat)) < x69.1.length) <|
 .grd (0 ≤ x69.2.2 ∧ x69.2.2 < ((a2 : Nat) : Int)) <|
 .grd ((a1 + ((x69.2.2).toNat)) < x69.1.length) <|
 .grd (0 ≤ x69.2.2 ∧ x69.2.2 < ((a2 : Nat) : Int)) <|
 .conv 10017 (azq 2 az3 x69.1 90 (a1 + ((x69.2.2).toNat)) (x69.1.getD (a1 + (((IntKind.i64.wrap (a3 + y98))).toNat)) default)) <|
 .grd ((a1 + ((x69.2.2).toNat)) < x69.1.length ∧ 0 ≤ (a1 + ((x69.2.2).toNat))) <|
 .grd (0 ≤ (IntKind.i64.wrap (a3 + y98)) ∧ (IntKind.i64.wrap (a3 + y98)) < ((a2 : Nat) : Int)) <|
 .conv 10019 (azq 2 az3 (x69.1.set (a1 + ((x69.2.2).toNat)) (x69.1.getD (a1 + (((IntKind.i64.wrap (a3 + y98))).toNat)) default)) 90 (a1 + (((IntKind.i64.wrap (a3 + y98))).toNat)) (x69.1.getD (a1 + ((x69.2.2).toNat)) default)) <|
 .grd ((a1 + (((IntKind.i64.wrap (a3 + y98))).toNat)) < (x69.1.set (a1 + ((x69.2.2).toNat)) (x69.1.getD (a1 + (((IntKind.i64.wrap (a3 + y98))).toNat)) default)).length ∧ 0 ≤ (a1 + (((IntKind.i64.wrap (a3 + y98))).toNat))) <|
 .ret (.next (((x69.1.set (a1 + ((x69.2.2).toNat)) (x69.1.getD (a1 + (((IntKind.i64.wrap (a3 + y98))).toNat)) default)).set (a1 + (((IntKind.i64.wrap (a3 + y98))).toNat)) (x69.1.getD (a1 + ((x69.2.2).toNat)) default)), y96.2, (IntKind.i64.wrap (x69.2.2 + 1)))))
 (.ret (.out x69.1)))
 (a0, (IntKind.u64.wrap (IntKind.i64.wrap (a4 - a3))), z53) [] fun y84 =>
 .ret y84)
 (.ret a0)
noncomputable def ezf (a0 : (List (Int × Int))) (a1 : Nat) (a2 : Nat) (a3 : Int) (a4 : Int) : CallS (List (Int × Int)) :=
  mkC [] hd Tryz.func163 (by kernel_rfl) (cza a0 a1 a2 a3 a4) 1 [.view 0 2 a1 a2, pz a3, pz a4, .func 99 [] []] [(0, vecO 2 az3 a0 90)] (fun _ => .tup []) (fun r => [(0, vecO 2 az3 r 90)]) (by kernel_rfl)
abbrev dzt := RecS Tryz.prog 138 1 ((List (Int × Int)) × Nat × Nat × Int × Int × Int) (List (Int × Int)) (fun a => [.view 0 2 a.2.1 a.2.2.1, pz a.2.2.2.1, pz a.2.2.2.2.1, pz a.2.2.2.2.2, .func 99 [] []]) (fun a => [(0, vecO 2 az3 a.1 90)]) (fun _ _ => .tup []) (fun _ r => [(0, vecO 2 az3 r 90)])
noncomputable def dzu (rec : dzt) (a0 : (List (Int × Int))) (a1 : Nat) (a2 : Nat) (a3 : Int) (a4 : Int) (a5 : Int) : T (List (Int × Int)) :=
 .loop (fun (x194 : ((List (Int × Int)) × Int × Int × Int × Bool × Bool)) => ⟨[(0, .view 0 2 a1 a2), (1, pz x194.2.1), (2, pz x194.2.2.1), (3, pz x194.2.2.2.1), (4, .func 99 [] []), (10, .pure (.bool x194.2.2.2.2.1)), (11, .pure (.bool x194.2.2.2.2.2))], [(0, vecO 2 az3 x194.1 90)], [], 1⟩)
 .ret (fun (_ : U0) => ⟨[], [], [], 1⟩)
 (fun x194 => .br (decide ((IntKind.i64.wrap (x194.2.2.1 - x194.2.1)) ≤ 12))
 (.call (ezg x194.1 a1 a2 x194.2.1 x194.2.2.1) [(0, 0)] fun y245 =>
 .ret (.fin y245))
 (.br (x194.2.2.2.1 == 0)
 (.call (fzk x194.1 a1 a2 x194.2.1 x194.2.2.1) [(0, 0)] fun y247 =>
 .ret (.fin y247))
 (.cut 0 (fun (y252 : ((List (Int × Int)) × Int)) => ⟨[(0, .view 0 2 a1 a2), (1, pz x194.2.1), (2, pz x194.2.2.1), (3, pz y252.2), (4, .func 99 [] []), (10, .pure (.bool x194.2.2.2.2.1)), (11, .pure (.bool x194.2.2.2.2.2)), (12, pz (IntKind.i64.wrap (x194.2.2.1 - x194.2.1)))], [(0, vecO 2 az3 y252.1 90)], [], 1⟩)
 (.br (!x194.2.2.2.2.1)
 (.call (ezf x194.1 a1 a2 x194.2.1 x194.2.2.1) [(0, 0)] fun y254 =>
 .ret (.out (y254, (IntKind.i64.wrap (x194.2.2.2.1 - 1)))))
 (.ret (.out (x194.1, x194.2.2.2.1)))) fun y252 =>
 .call (ezy y252.1 a1 a2 x194.2.1 x194.2.2.1) [(0, 0)] fun y256 =>
 .cut 0 (fun (y261 : ((List (Int × Int)) × Int × Int)) => ⟨[(0, .view 0 2 a1 a2), (1, pz x194.2.1), (2, pz x194.2.2.1), (3, pz y252.2), (4, .func 99 [] []), (10, .pure (.bool x194.2.2.2.2.1)), (11, .pure (.bool x194.2.2.2.2.2)), (12, pz (IntKind.i64.wrap (x194.2.2.1 - x194.2.1))), (13, pz y261.2.1), (14, pz y261.2.2)], [(0, vecO 2 az3 y261.1 90)], [], 1⟩)
 (.br (y256.2 == 2)
 (.call (ezl y252.1 a1 a2 x194.2.1 x194.2.2.1) [(0, 0)] fun y263 =>
 .ret (.out (y263, (IntKind.i64.wrap ((IntKind.i64.wrap (x194.2.2.1 - 1)) - (IntKind.i64.wrap (y256.1 - x194.2.1)))), 1)))
 (.ret (.out (y252.1, y256.1, y256.2)))) fun y261 =>
 .cut 0 (fun (y270 : (List (Int × Int))) => ⟨[(0, .view 0 2 a1 a2), (1, pz x194.2.1), (2, pz x194.2.2.1), (3, pz y252.2), (4, .func 99 [] []), (10, .pure (.bool x194.2.2.2.2.1)), (11, .pure (.bool x194.2.2.2.2.2)), (12, pz (IntKind.i64.wrap (x194.2.2.1 - x194.2.1))), (13, pz y261.2.1)], [(0, vecO 2 az3 y270 90)], [], 1⟩)
 (.cut 0 (fun (y271 : Bool) => ⟨[(0, .view 0 2 a1 a2), (1, pz x194.2.1), (2, pz x194.2.2.1), (3, pz y252.2), (4, .func 99 [] []), (10, .pure (.bool x194.2.2.2.2.1)), (11, .pure (.bool x194.2.2.2.2.2)), (12, pz (IntKind.i64.wrap (x194.2.2.1 - x194.2.1))), (13, pz y261.2.1), (75, .pure (.bool y271))], [(0, vecO 2 az3 y261.1 90)], [], 1⟩)
 (.br x194.2.2.2.2.1
 (.br x194.2.2.2.2.2
 (.ret (.out (y261.2.2 == 1)))
 (.ret (.out false)))
 (.ret (.out false))) fun y271 =>
 .br y271
 (.call (czy y261.1 a1 a2 x194.2.1 x194.2.2.1) [(0, 0)] fun y273 =>
 .br y273.1
 (.ret (.fin (.fin y273.2)))
 (.ret (.out y273.2)))
 (.ret (.out y261.1))) fun y270 =>
 .cut 1 (fun (y282 : Bool) => ⟨[(0, .view 0 2 a1 a2), (1, pz x194.2.1), (2, pz x194.2.2.1), (3, pz y252.2), (4, .func 99 [] []), (10, .pure (.bool x194.2.2.2.2.1)), (11, .pure (.bool x194.2.2.2.2.2)), (12, pz (IntKind.i64.wrap (x194.2.2.1 - x194.2.1))), (13, pz y261.2.1), (97, .pure (.bool y282))], [(0, vecO 2 az3 y270 90)], [], 1⟩)
 (.br (decide (x194.2.1 > 0))
 (.grd (0 ≤ (IntKind.i64.wrap (x194.2.1 - 1)) ∧ (IntKind.i64.wrap (x194.2.1 - 1)) < ((a2 : Nat) : Int)) <|
 .grd ((a1 + (((IntKind.i64.wrap (x194.2.1 - 1))).toNat)) < y270.length) <|
 .grd (0 ≤ y261.2.1 ∧ y261.2.1 < ((a2 : Nat) : Int)) <|
 .grd ((a1 + ((y261.2.1).toNat)) < y270.length) <|
 .call (azk (y270.getD (a1 + (((IntKind.i64.wrap (x194.2.1 - 1))).toNat)) default) (y270.getD (a1 + ((y261.2.1).toNat)) default)) [] fun y283 =>
 .ret (.out (!(decide (y283 < 0)))))
 (.ret (.out false))) fun y282 =>
 .br y282
 (.call (ez8 y270 a1 a2 x194.2.1 x194.2.2.1 y261.2.1) [(0, 0)] fun y285 =>
 .ret (.next (y285.2, y285.1, x194.2.2.1, y252.2, x194.2.2.2.2.1, x194.2.2.2.2.2)))
 (.call (fzg y270 a1 a2 x194.2.1 x194.2.2.1 y261.2.1) [(0, 0)] fun y287 =>
 .ok ((8 : Int) ≠ 0) (by decide) <|
 .br (decide ((IntKind.i64.wrap (y287.1 - x194.2.1)) < (IntKind.i64.wrap (x194.2.2.1 - y287.1))))
 (.call (rec.C (y287.2.2, a1, a2, x194.2.1, y287.1, y252.2)) [(0, 0)] fun y289 =>
 .ret (.next (y289, (IntKind.i64.wrap (y287.1 + 1)), x194.2.2.1, y252.2, (decide ((IntKind.i64.wrap (y287.1 - x194.2.1)) ≥ (IntKind.i64.wrap ((IntKind.i64.wrap (x194.2.2.1 - x194.2.1)).tdiv 8)))), y287.2.1)))
 (.call (rec.C (y287.2.2, a1, a2, (IntKind.i64.wrap (y287.1 + 1)), x194.2.2.1, y252.2)) [(0, 0)] fun y291 =>
 .ret (.next (y291, x194.2.1, y287.1, y252.2, (decide ((IntKind.i64.wrap (x194.2.2.1 - y287.1)) ≥ (IntKind.i64.wrap ((IntKind.i64.wrap (x194.2.2.1 - x194.2.1)).tdiv 8)))), y287.2.1)))))))
 (a0, a3, a4, a5, true, true) [] fun _ =>
 .stop
noncomputable def cz6 : dzt → dzt := RecS.next [] hd Tryz.func138 (by kernel_rfl) (fun rec a => dzu rec a.1 a.2.1 a.2.2.1 a.2.2.2.1 a.2.2.2.2.1 a.2.2.2.2.2) (fun rec a => by kernel_rfl)
noncomputable def fzt (a0 : (List (Int × Int))) (a1 : Nat) (a2 : Nat) (a3 : Int) (a4 : Int) (a5 : Int) : CallS (List (Int × Int)) := (RecS.fix cz6 NN).C (a0, a1, a2, a3, a4, a5)
noncomputable def dzr (a0 : (List (Int × Int))) (a1 : Nat) (a2 : Nat) : T (List (Int × Int)) :=
 .call (fza (IntKind.u64.wrap ((a2 : Nat) : Int))) [] fun y3 =>
 .call (fzt a0 a1 a2 0 ((a2 : Nat) : Int) y3) [(0, 0)] fun y4 =>
 .ret y4
noncomputable def fzr (a0 : (List (Int × Int))) (a1 : Nat) (a2 : Nat) : CallS (List (Int × Int)) :=
  mkC [] hd Tryz.func98 (by kernel_rfl) (dzr a0 a1 a2) 1 [.view 0 2 a1 a2, .func 99 [] []] [(0, vecO 2 az3 a0 90)] (fun _ => .tup []) (fun r => [(0, vecO 2 az3 r 90)]) (by kernel_rfl)
set_option maxHeartbeats 8000000 in
set_option maxRecDepth 20000 in
noncomputable def iz6 (a0 : az8) (a1 : (List (List Int))) (a2 : Int) : T (List (Int × Int)) :=
 .call (hzm a1) [] fun y2 =>
 .loop (fun (x143 : ((List (Int × Int)) × (List ((Int × Int) × Bool)) × Int)) => ⟨[(1, .pure (encL 1 (encL 1 az0) a1)), (2, pz a2), (3, .ptr 0 0), (7, .vec 1), (8, .map 2), (9, .pure (encL 4 azf y2)), (18, .pure (encL 1 (encL 1 az0) a1)), (19, pz ((a1.length : Nat) : Int)), (20, pz x143.2.2)], [(0, .box [.pure (encL 12 az9 a0.Joints), .pure (encL 5 azb a0.Masses)]), (1, vecO 2 az3 x143.1 90), (2, szz [.int .i64 0, .int .i64 0] azn x143.2.1)], [], 3⟩)
 (.exit 0) (fun (y178 : (List (Int × Int))) => ⟨[(7, .vec 0)], [(0, vecO 2 az3 y178 90)], [], 1⟩)
 (fun x143 => .br (decide (x143.2.2 < ((a1.length : Nat) : Int)))
 (.grd (0 ≤ x143.2.2 ∧ x143.2.2 < ((a1.length : Nat) : Int)) <|
 .call (gz4 (⟨a0.Joints, a0.Masses⟩ : az8) a1 y2 (a1.getD ((x143.2.2).toNat) default) (IntKind.i64.wrap ((min a2 ((a1.length : Nat) : Int)) + 1))) [] fun y197 =>
 .loop (fun (x203 : ((List (Int × Int)) × (List ((Int × Int) × Bool)) × Int)) => ⟨[(1, .pure (encL 1 (encL 1 az0) a1)), (2, pz a2), (3, .ptr 0 0), (7, .vec 1), (8, .map 2), (9, .pure (encL 4 azf y2)), (10, pz x143.2.2), (18, .pure (encL 1 (encL 1 az0) a1)), (19, pz ((a1.length : Nat) : Int)), (20, pz x143.2.2), (34, .pure (encL 1 az0 y197)), (35, pz ((y197.length : Nat) : Int)), (36, pz x203.2.2)], [(0, .box [.pure (encL 12 az9 a0.Joints), .pure (encL 5 azb a0.Masses)]), (1, vecO 2 az3 x203.1 90), (2, szz [.int .i64 0, .int .i64 0] azn x203.2.1)], [], 3⟩)
 (.exit 2) (fun (y208 : ((List (Int × Int)) × (List ((Int × Int) × Bool)))) => ⟨[(1, .pure (encL 1 (encL 1 az0) a1)), (2, pz a2), (3, .ptr 0 0), (7, .vec 1), (8, .map 2), (9, .pure (encL 4 azf y2)), (18, .pure (encL 1 (encL 1 az0) a1)), (19, pz ((a1.length : Nat) : Int)), (20, pz x143.2.2)], [(0, .box [.pure (encL 12 az9 a0.Joints), .pure (encL 5 azb a0.Masses)]), (1, vecO 2 az3 y208.1 90), (2, szz [.int .i64 0, .int .i64 0] azn y208.2)], [], 3⟩)
 (fun x203 => .br (decide (x203.2.2 < ((y197.length : Nat) : Int)))
 (.cut 0 (fun (y211 : ((List (Int × Int)) × (List ((Int × Int) × Bool)))) => ⟨[(1, .pure (encL 1 (encL 1 az0) a1)), (2, pz a2), (3, .ptr 0 0), (7, .vec 1), (8, .map 2), (9, .pure (encL 4 azf y2)), (10, pz x143.2.2), (18, .pure (encL 1 (encL 1 az0) a1)), (19, pz ((a1.length : Nat) : Int)), (20, pz x143.2.2), (34, .pure (encL 1 az0 y197)), (35, pz ((y197.length : Nat) : Int)), (36, pz x203.2.2)], [(0, .box [.pure (encL 12 az9 a0.Joints), .pure (encL 5 azb a0.Masses)]), (1, vecO 2 az3 y211.1 90), (2, szz [.int .i64 0, .int .i64 0] azn y211.2)], [], 3⟩)
 (.grd (0 ≤ x203.2.2 ∧ x203.2.2 < ((y197.length : Nat) : Int)) <|
 .cut 1 (fun (y212 : Bool) => ⟨[(1, .pure (encL 1 (encL 1 az0) a1)), (2, pz a2), (3, .ptr 0 0), (7, .vec 1), (8, .map 2), (9, .pure (encL 4 azf y2)), (10, pz x143.2.2), (14, .ptr 3 0), (18, .pure (encL 1 (encL 1 az0) a1)), (19, pz ((a1.length : Nat) : Int)), (20, pz x143.2.2), (34, .pure (encL 1 az0 y197)), (35, pz ((y197.length : Nat) : Int)), (36, pz x203.2.2), (55, .pure (.bool y212))], [(0, .box [.pure (encL 12 az9 a0.Joints), .pure (encL 5 azb a0.Masses)]), (1, vecO 2 az3 x203.1 90), (2, szz [.int .i64 0, .int .i64 0] azn x203.2.1), (3, .box [pz (min x143.2.2 (y197.getD ((x203.2.2).toNat) default)), pz (max x143.2.2 (y197.getD ((x203.2.2).toNat) default))])], [], 4⟩)
 (.br (x143.2.2 != (y197.getD ((x203.2.2).toNat) default))
 (.ok ((mdom azn x203.2.1 (azn ((min x143.2.2 (y197.getD ((x203.2.2).toNat) default)), (max x143.2.2 (y197.getD ((x203.2.2).toNat) default))))) = false → PVal.bool (nzo azn x203.2.1 (azn ((min x143.2.2 (y197.getD ((x203.2.2).toNat) default)), (max x143.2.2 (y197.getD ((x203.2.2).toNat) default))))) = .bool false) Dzs <|
 .ret (.out (!(nzo azn x203.2.1 (azn ((min x143.2.2 (y197.getD ((x203.2.2).toNat) default)), (max x143.2.2 (y197.getD ((x203.2.2).toNat) default))))))))
 (.ret (.out false))) fun y212 =>
 .br y212
 (.conv 12002 (Hz0 [.int .i64 0, .int .i64 0] azn x203.2.1 ((min x143.2.2 (y197.getD ((x203.2.2).toNat) default)), (max x143.2.2 (y197.getD ((x203.2.2).toNat) default))) true) <|
 .conv 13002 (ezu 2 az3 ([((min x143.2.2 (y197.getD ((x203.2.2).toNat) default)), (max x143.2.2 (y197.getD ((x203.2.2).toNat) default)))] : (List (Int × Int))) 90) <|
 .conv 13003 (gzg 2 az3 x203.1 ([((min x143.2.2 (y197.getD ((x203.2.2).toNat) default)), (max x143.2.2 (y197.getD ((x203.2.2).toNat) default)))] : (List (Int × Int))) 90) <|
 .grd ((x203.1.length + ([((min x143.2.2 (y197.getD ((x203.2.2).toNat) default)), (max x143.2.2 (y197.getD ((x203.2.2).toNat) default)))] : (List (Int × Int))).length) * 16 ≤ 140737488355328 ∧ (x203.1.length + ([((min x143.2.2 (y197.getD ((x203.2.2).toNat) default)), (max x143.2.2 (y197.getD ((x203.2.2).toNat) default)))] : (List (Int × Int))).length) ≤ maxLen) <|
 .ret (.out ((x203.1 ++ ([((min x143.2.2 (y197.getD ((x203.2.2).toNat) default)), (max x143.2.2 (y197.getD ((x203.2.2).toNat) default)))] : (List (Int × Int)))), ((((min x143.2.2 (y197.getD ((x203.2.2).toNat) default)), (max x143.2.2 (y197.getD ((x203.2.2).toNat) default))), true) :: x203.2.1))))
 (.ret (.out (x203.1, x203.2.1)))) fun y211 =>
 .ret (.next (y211.1, y211.2, (IntKind.i64.wrap (x203.2.2 + 1)))))
 (.ret (.out (x203.1, x203.2.1))))
 (x143.1, x143.2.1, 0) [] fun y208 =>
 .ret (.next (y208.1, y208.2, (IntKind.i64.wrap (x143.2.2 + 1)))))
 (.ret (.out x143.1)))
 (nl, (nl : List ((Int × Int) × Bool)), 0) [] fun y178 =>
 .call (fzr y178 0 y178.length) [(0, 0)] fun y214 =>
 .ret y214
noncomputable def lzg (a0 : az8) (a1 : (List (List Int))) (a2 : Int) : CallS (List (Int × Int)) :=
  mkC [] hd Tryz.func53 (by kernel_rfl) (iz6 a0 a1 a2) 0 [.pure (azw a0), .pure (encL 1 (encL 1 az0) a1), pz a2] [] (fun r => .pure (encL 2 az3 r)) (fun _ => []) (by kernel_rfl)
noncomputable def jzu (a0 : Int) : T Bool :=
 .br (decide (a0 < (-2147483648)))
 (.ret true)
 (.ret (decide (a0 > 2147483648)))
noncomputable def oz4 (a0 : Int) : CallS Bool :=
  mkC [] hd Tryz.func160 (by kernel_rfl) (jzu a0) 0 [pz a0] [] (fun r => .pure (.bool r)) (fun _ => []) (by kernel_rfl)
noncomputable def dzk (a0 : (List Int)) : T Int :=
 .loop (fun (x21 : Int) => ⟨[(0, .pure (encL 1 az0 a0)), (1, .func 160 [] []), (7, pz ((a0.length : Nat) : Int)), (8, pz x21)], [], [], 0⟩)
 (.exit 0) (fun (_ : U0) => ⟨[], [], [], 0⟩)
 (fun x21 => .br (decide (x21 < ((a0.length : Nat) : Int)))
 (.grd (0 ≤ x21 ∧ x21 < ((a0.length : Nat) : Int)) <|
 .call (oz4 (a0.getD ((x21).toNat) default)) [] fun y30 =>
 .br y30
 (.ret (.fin x21))
 (.ret (.next (IntKind.i64.wrap (x21 + 1)))))
 (.ret (.out .u)))
 0 [] fun _ =>
 .ret (-1)
noncomputable def fzj (a0 : (List Int)) : CallS Int :=
  mkC [] hd Tryz.func187 (by kernel_rfl) (dzk a0) 0 [.pure (encL 1 az0 a0), .func 160 [] []] [] (fun r => pz r) (fun _ => []) (by kernel_rfl)
noncomputable def czq (a0 : (List Int)) : T Bool :=
 .call (fzj a0) [] fun y1 =>
 .ret (decide (y1 ≥ 0))
noncomputable def ezw (a0 : (List Int)) : CallS Bool :=
  mkC [] hd Tryz.func159 (by kernel_rfl) (czq a0) 0 [.pure (encL 1 az0 a0), .func 160 [] []] [] (fun r => .pure (.bool r)) (fun _ => []) (by kernel_rfl)
noncomputable def mz4 (a0 : (List Int)) : T Bool :=
 .call (ezw a0) [] fun y1 =>
 .ret (!y1)
noncomputable def mz3 (a0 : (List Int)) : CallS Bool :=
  mkC [] hd Tryz.func133 (by kernel_rfl) (mz4 a0) 0 [.pure (encL 1 az0 a0)] [] (fun r => .pure (.bool r)) (fun _ => []) (by kernel_rfl)
noncomputable def jz0 (a0 : az8) (a1 : (List Int)) (a2 : (List Int)) : T Int :=
 .cut 3 (fun (y55 : Bool) => ⟨[(1, .pure (encL 1 az0 a1)), (2, .pure (encL 1 az0 a2)), (3, .ptr 0 0), (38, .pure (.bool y55))], [(0, .box [.pure (encL 12 az9 a0.Joints), .pure (encL 5 azb a0.Masses)])], [], 1⟩)
 (.br (((a1.length : Nat) : Int) != ((a0.Joints.length : Nat) : Int))
 (.ret (.out true))
 (.br (((a2.length : Nat) : Int) != ((a0.Joints.length : Nat) : Int))
 (.ret (.out true))
 (.call (mz3 a1) [] fun y56 =>
 .br (!y56)
 (.ret (.out true))
 (.call (mz3 a2) [] fun y57 =>
 .br (!y57)
 (.ret (.out true))
 (.call (hz3 (⟨a0.Joints, a0.Masses⟩ : az8)) [] fun y58 =>
 .ret (.out (y58 != 0))))))) fun y55 =>
 .br y55
 (.ret 0)
 (.loop (fun (x71 : (Int × Int)) => ⟨[(1, .pure (encL 1 az0 a1)), (2, .pure (encL 1 az0 a2)), (8, pz x71.1), (40, .pure (encL 12 az9 a0.Joints)), (41, pz ((a0.Joints.length : Nat) : Int)), (42, pz x71.2)], [], [], 0⟩)
 (.exit 0) (fun (y74 : Int) => ⟨[(8, pz y74)], [], [], 0⟩)
 (fun x71 => .br (decide (x71.2 < ((a0.Joints.length : Nat) : Int)))
 (.grd (0 ≤ x71.2 ∧ x71.2 < ((a0.Joints.length : Nat) : Int)) <|
 .grd (0 ≤ x71.2 ∧ x71.2 < ((a2.length : Nat) : Int)) <|
 .grd (0 ≤ x71.2 ∧ x71.2 < ((a1.length : Nat) : Int)) <|
 .grd (0 ≤ x71.2 ∧ x71.2 < ((a1.length : Nat) : Int)) <|
 .grd (0 ≤ x71.2 ∧ x71.2 < ((a2.length : Nat) : Int)) <|
 .name 8021 ((max (IntKind.i64.wrap ((a2.getD ((x71.2).toNat) default) - (a1.getD ((x71.2).toNat) default))) (IntKind.i64.wrap ((a1.getD ((x71.2).toNat) default) - (a2.getD ((x71.2).toNat) default))))) fun z76 =>
 .ret (.next ((IntKind.i64.wrap (x71.1 + (IntKind.i64.wrap (((a0.Joints.getD ((x71.2).toNat) default).Weight) * z76)))), (IntKind.i64.wrap (x71.2 + 1)))))
 (.ret (.out x71.1)))
 (0, 0) [] fun y74 =>
 .ret y74)
noncomputable def izz (a0 : az8) (a1 : (List Int)) (a2 : (List Int)) : CallS Int :=
  mkC [] hd Tryz.func86 (by kernel_rfl) (jz0 a0 a1 a2) 0 [.pure (azw a0), .pure (encL 1 az0 a1), .pure (encL 1 az0 a2)] [] (fun r => pz r) (fun _ => []) (by kernel_rfl)
noncomputable def izq (a0 : az8) (a1 : (List (List Int))) (a2 : Int) (a3 : Int) : T az1 :=
 .grd (0 ≤ a2 ∧ a2 < ((a1.length : Nat) : Int)) <|
 .grd (0 ≤ a3 ∧ a3 < ((a1.length : Nat) : Int)) <|
 .call (izz (⟨a0.Joints, a0.Masses⟩ : az8) (a1.getD ((a2).toNat) default) (a1.getD ((a3).toNat) default)) [] fun y1 =>
 .ret (⟨a2, a3, y1, 0, (⟨0, nl, (⟨0, 0, nl⟩ : azr), (⟨0, nl, nl⟩ : bz2)⟩ : azc)⟩ : az1)
noncomputable def gz6 (a0 : az8) (a1 : (List (List Int))) (a2 : Int) (a3 : Int) : CallS az1 :=
  mkC [] hd Tryz.func54 (by kernel_rfl) (izq a0 a1 a2 a3) 0 [.pure (azw a0), .pure (encL 1 (encL 1 az0) a1), pz a2, pz a3] [] (fun r => .pure (az2 r)) (fun _ => []) (by kernel_rfl)
noncomputable def nzu (a0 : az8) (a1 : (List (List Int))) (a2 : Int) : T aza :=
 .call (hz3 (⟨a0.Joints, a0.Masses⟩ : az8)) [] fun y58 =>
 .br (y58 != 0)
 (.ret (⟨nl, nl⟩ : aza))
 (.call (izo (⟨a0.Joints, a0.Masses⟩ : az8) a1) [] fun y60 =>
 .br (decide (a2 < 1))
 (.ret (⟨y60, nl⟩ : aza))
 (.call (lzg (⟨a0.Joints, a0.Masses⟩ : az8) y60 a2) [] fun y62 =>
 .conv 8004 (zzu 2 az3 y62 (0 : Int) (min ((y62.length : Nat) : Int) 8192)) <|
 .grd (0 ≤ (0 : Int) ∧ (0 : Int) ≤ (min ((y62.length : Nat) : Int) 8192) ∧ (min ((y62.length : Nat) : Int) 8192) ≤ ((y62.length : Nat) : Int)) <|
 .name 8005 (((((y62.drop ((0 : Int).toNat)).take (((min ((y62.length : Nat) : Int) 8192)).toNat - (0 : Int).toNat)).length : Nat) : Int)) fun z87 =>
 .loop (fun (x95 : ((List az1) × Int)) => ⟨[(3, .ptr 0 0), (6, .ptr 1 0), (31, .pure (encL 2 az3 ((y62.drop ((0 : Int).toNat)).take (((min ((y62.length : Nat) : Int) 8192)).toNat - (0 : Int).toNat)))), (32, pz z87), (33, pz x95.2)], [(0, .box [.pure (encL 12 az9 a0.Joints), .pure (encL 5 azb a0.Masses)]), (1, .box [.pure (encL 1 (encL 1 az0) y60), .vec 2]), (2, vecO 12 az2 x95.1 57)], [.func 52 [] [.ptr 1 0]], 3⟩)
 (.exit 0) (fun (y102 : (List az1)) => ⟨[(6, .ptr 0 0)], [(0, .box [.pure (encL 1 (encL 1 az0) y60), .vec 1]), (1, vecO 12 az2 y102 57)], [.func 52 [] [.ptr 0 0]], 2⟩)
 (fun x95 => .br (decide (x95.2 < z87))
 (.grd (0 ≤ x95.2 ∧ x95.2 < ((((y62.drop ((0 : Int).toNat)).take (((min ((y62.length : Nat) : Int) 8192)).toNat - (0 : Int).toNat)).length : Nat) : Int)) <|
 .ix 0 2 rfl <|
 .name 11006 ((((y62.drop ((0 : Int).toNat)).take (((min ((y62.length : Nat) : Int) 8192)).toNat - (0 : Int).toNat)).getD ((x95.2).toNat) default).1) fun z106 =>
 .ix 1 2 rfl <|
 .name 11008 ((((y62.drop ((0 : Int).toNat)).take (((min ((y62.length : Nat) : Int) 8192)).toNat - (0 : Int).toNat)).getD ((x95.2).toNat) default).2) fun z107 =>
 .call (gz6 (⟨a0.Joints, a0.Masses⟩ : az8) y60 z106 z107) [] fun y108 =>
 .conv 11010 (ezu 12 az2 ([y108] : (List az1)) 57) <|
 .conv 11011 (gzg 12 az2 x95.1 ([y108] : (List az1)) 57) <|
 .grd ((x95.1.length + ([y108] : (List az1)).length) * 160 ≤ 140737488355328 ∧ (x95.1.length + ([y108] : (List az1)).length) ≤ maxLen) <|
 .ret (.next ((x95.1 ++ ([y108] : (List az1))), (IntKind.i64.wrap (x95.2 + 1)))))
 (.ret (.out x95.1)))
 (nl, 0) [] fun y102 =>
 .ret (⟨y60, y102⟩ : aza)))
noncomputable def nzt (a0 : az8) (a1 : (List (List Int))) (a2 : Int) : CallS aza :=
  mkC [⟨52, Iz4⟩] hd Tryz.func20 (by kernel_rfl) (nzu a0 a1 a2) 0 [.pure (azw a0), .pure (encL 1 (encL 1 az0) a1), pz a2] [] (fun r => .pure (bzr r)) (fun _ => []) (by kernel_rfl)
noncomputable def dzy (a0 : (List (List Int))) : T (List (List Int)) :=
  (match a0 with
   | [] => .unroll 1 <|
   .grd (a0.length = 0) <|
   .both
    (.ret nl)
    (.conv 3000 (ezu 1 (encL 1 az0) ([] : (List (List Int))) 40) <|
    .conv 3002 (gzg 1 (encL 1 az0) ([] : (List (List Int))) a0 40) <|
    .grd ((([] : (List (List Int))).length + a0.length) * 24 ≤ 140737488355328 ∧ (([] : (List (List Int))).length + a0.length) ≤ maxLen) <|
    .ret (([] : (List (List Int))) ++ a0))
   | _ :: _ => .grd (0 < a0.length) <|
   .conv 3000 (ezu 1 (encL 1 az0) ([] : (List (List Int))) 40) <|
   .conv 3002 (gzg 1 (encL 1 az0) ([] : (List (List Int))) a0 40) <|
   .grd ((([] : (List (List Int))).length + a0.length) * 24 ≤ 140737488355328 ∧ (([] : (List (List Int))).length + a0.length) ≤ maxLen) <|
   .ret (([] : (List (List Int))) ++ a0))
noncomputable def gz7 (a0 : (List (List Int))) : CallS (List (List Int)) :=
  mkH [] hd Tryz.func103 (by kernel_rfl) (dzy a0) 0 [.pure (encL 1 (encL 1 az0) a0)] [] (fun _ => .vec 0) (fun r => [(0, vecO 1 (encL 1 az0) r 40)]) (by cases a0 <;> exact Ob.of_side (by kernel_rfl))
noncomputable def bz3 (a0 : (List az1)) : T (List az1) :=
  (match a0 with
   | [] => .unroll 1 <|
   .grd (a0.length = 0) <|
   .both
    (.ret nl)
    (.conv 3000 (ezu 12 az2 ([] : (List az1)) 57) <|
    .conv 3002 (gzg 12 az2 ([] : (List az1)) a0 57) <|
    .grd ((([] : (List az1)).length + a0.length) * 160 ≤ 140737488355328 ∧ (([] : (List az1)).length + a0.length) ≤ maxLen) <|
    .ret (([] : (List az1)) ++ a0))
   | _ :: _ => .grd (0 < a0.length) <|
   .conv 3000 (ezu 12 az2 ([] : (List az1)) 57) <|
   .conv 3002 (gzg 12 az2 ([] : (List az1)) a0 57) <|
   .grd ((([] : (List az1)).length + a0.length) * 160 ≤ 140737488355328 ∧ (([] : (List az1)).length + a0.length) ≤ maxLen) <|
   .ret (([] : (List az1)) ++ a0))
noncomputable def cz7 (a0 : (List az1)) : CallS (List az1) :=
  mkH [] hd Tryz.func104 (by kernel_rfl) (bz3 a0) 0 [.pure (encL 12 az2 a0)] [] (fun _ => .vec 0) (fun r => [(0, vecO 12 az2 r 57)]) (by cases a0 <;> exact Ob.of_side (by kernel_rfl))
noncomputable def czj (a0 : (List azr)) : T (List azr) :=
  (match a0 with
   | [] => .unroll 1 <|
   .grd (a0.length = 0) <|
   .both
    (.ret nl)
    (.conv 3000 (ezu 3 bze ([] : (List azr)) 51) <|
    .conv 3002 (gzg 3 bze ([] : (List azr)) a0 51) <|
    .grd ((([] : (List azr)).length + a0.length) * 40 ≤ 140737488355328 ∧ (([] : (List azr)).length + a0.length) ≤ maxLen) <|
    .ret (([] : (List azr)) ++ a0))
   | _ :: _ => .grd (0 < a0.length) <|
   .conv 3000 (ezu 3 bze ([] : (List azr)) 51) <|
   .conv 3002 (gzg 3 bze ([] : (List azr)) a0 51) <|
   .grd ((([] : (List azr)).length + a0.length) * 40 ≤ 140737488355328 ∧ (([] : (List azr)).length + a0.length) ≤ maxLen) <|
   .ret (([] : (List azr)) ++ a0))
noncomputable def ezj (a0 : (List azr)) : CallS (List azr) :=
  mkH [] hd Tryz.func125 (by kernel_rfl) (czj a0) 0 [.pure (encL 3 bze a0)] [] (fun _ => .vec 0) (fun r => [(0, vecO 3 bze r 51)]) (by cases a0 <;> exact Ob.of_side (by kernel_rfl))
noncomputable def dzi (a0 : (List (Int × Int × Int))) : T (List (Int × Int × Int)) :=
  (match a0 with
   | [] => .unroll 1 <|
   .grd (a0.length = 0) <|
   .both
    (.ret nl)
    (.conv 3000 (ezu 3 azg ([] : (List (Int × Int × Int))) 98) <|
    .conv 3002 (gzg 3 azg ([] : (List (Int × Int × Int))) a0 98) <|
    .grd ((([] : (List (Int × Int × Int))).length + a0.length) * 24 ≤ 140737488355328 ∧ (([] : (List (Int × Int × Int))).length + a0.length) ≤ maxLen) <|
    .ret (([] : (List (Int × Int × Int))) ++ a0))
   | _ :: _ => .grd (0 < a0.length) <|
   .conv 3000 (ezu 3 azg ([] : (List (Int × Int × Int))) 98) <|
   .conv 3002 (gzg 3 azg ([] : (List (Int × Int × Int))) a0 98) <|
   .grd ((([] : (List (Int × Int × Int))).length + a0.length) * 24 ≤ 140737488355328 ∧ (([] : (List (Int × Int × Int))).length + a0.length) ≤ maxLen) <|
   .ret (([] : (List (Int × Int × Int))) ++ a0))
noncomputable def dzh (a0 : (List (Int × Int × Int))) : CallS (List (Int × Int × Int)) :=
  mkH [] hd Tryz.func126 (by kernel_rfl) (dzi a0) 0 [.pure (encL 3 azg a0)] [] (fun r => .pure (encL 3 azg r)) (fun _ => []) (by cases a0 <;> exact Ob.of_side (by kernel_rfl))
noncomputable def gzj (a0 : azc) : T azc :=
 .call (ezj a0.Pieces) [] fun y2 =>
 .unroll 998 <|
 .loop (fun (x15 : ((List azr) × Int)) => ⟨[(1, .ptr 0 0), (2, .ptr 2 0), (10, .vec 1), (11, pz ((y2.length : Nat) : Int)), (12, pz x15.2)], [(0, .box [pz a0.Kind, .vec 1, pz a0.At.Depth, pz a0.At.Index, .pure (encL 3 azg a0.At.Normals), pz a0.Witness.Pair, .pure (encL 1 az0 a0.Witness.Left), .pure (encL 1 az0 a0.Witness.Right)]), (1, vecO 3 bze x15.1 51), (2, .box [pz 0, .vec 3, pz 0, pz 0, .vec 4, pz 0, .vec 5, .vec 6]), (3, .nilv), (4, .nilv), (5, .nilv), (6, .nilv)], [], 7⟩)
 (.exit 0) (fun (y18 : (List azr)) => ⟨[(1, .ptr 0 0), (2, .ptr 2 0)], [(0, .box [pz a0.Kind, .vec 1, pz a0.At.Depth, pz a0.At.Index, .pure (encL 3 azg a0.At.Normals), pz a0.Witness.Pair, .pure (encL 1 az0 a0.Witness.Left), .pure (encL 1 az0 a0.Witness.Right)]), (1, vecO 3 bze y18 51), (2, .box [pz 0, .vec 3, pz 0, pz 0, .vec 4, pz 0, .vec 5, .vec 6]), (3, .nilv), (4, .nilv), (5, .nilv), (6, .nilv)], [], 7⟩)
 (fun x15 => .br (decide (x15.2 < ((y2.length : Nat) : Int)))
 (.grd (0 ≤ x15.2 ∧ x15.2 < ((x15.1.length : Nat) : Int)) <|
 .grd ((x15.2).toNat < x15.1.length) <|
 .call (dzh ((x15.1.getD ((x15.2).toNat) default).Normals)) [] fun y20 =>
 .grd (0 ≤ x15.2 ∧ x15.2 < ((x15.1.length : Nat) : Int)) <|
 .conv 5008 (azq 3 bze x15.1 51 ((x15.2).toNat) (⟨(x15.1.getD ((x15.2).toNat) default).Depth, (x15.1.getD ((x15.2).toNat) default).Index, y20⟩ : azr)) <|
 .grd ((x15.2).toNat < x15.1.length ∧ 0 ≤ (x15.2).toNat) <|
 .ret (.next ((x15.1.set ((x15.2).toNat) (⟨(x15.1.getD ((x15.2).toNat) default).Depth, (x15.1.getD ((x15.2).toNat) default).Index, y20⟩ : azr)), (IntKind.i64.wrap (x15.2 + 1)))))
 (.ret (.out x15.1)))
 (y2, 0) [] fun y18 =>
 .call (dzh a0.At.Normals) [] fun y22 =>
 .call (bzb a0.Witness.Left) [] fun y24 =>
 .call (bzb a0.Witness.Right) [] fun y26 =>
 .ret (⟨a0.Kind, y18, (⟨a0.At.Depth, a0.At.Index, y22⟩ : azr), (⟨a0.Witness.Pair, y24, y26⟩ : bz2)⟩ : azc)
noncomputable def gzi (a0 : azc) : CallS azc :=
  mkC [] hd Tryz.func76 (by kernel_rfl) (gzj a0) 0 [.pure (fzu a0)] [] (fun r => .pure (fzu r)) (fun _ => []) (by kernel_rfl)
noncomputable def lzf (a0 : aza) : T ((List (List Int)) × (List az1)) :=
 .call (gz7 a0.Points) [] fun y3 =>
 .call (cz7 a0.Edges) [] fun y4 =>
 .loop (fun (x17 : ((List (List Int)) × Int)) => ⟨[(2, .ptr 0 0), (3, .vec 3), (4, .vec 4), (15, .vec 3), (16, pz ((y3.length : Nat) : Int)), (17, pz x17.2)], [(0, .box [.vec 1, .vec 2]), (1, .nilv), (2, .nilv), (3, vecO 1 (encL 1 az0) x17.1 40), (4, vecO 12 az2 y4 57)], [], 5⟩)
 (.exit 0) (fun (y20 : (List (List Int))) => ⟨[(2, .ptr 0 0), (3, .vec 3), (4, .vec 4)], [(0, .box [.vec 1, .vec 2]), (1, .nilv), (2, .nilv), (3, vecO 1 (encL 1 az0) y20 40), (4, vecO 12 az2 y4 57)], [], 5⟩)
 (fun x17 => .br (decide (x17.2 < ((y3.length : Nat) : Int)))
 (.grd (0 ≤ x17.2 ∧ x17.2 < ((x17.1.length : Nat) : Int)) <|
 .grd ((x17.2).toNat < x17.1.length) <|
 .call (bzb (x17.1.getD ((x17.2).toNat) default)) [] fun y22 =>
 .grd (0 ≤ x17.2 ∧ x17.2 < ((x17.1.length : Nat) : Int)) <|
 .conv 5005 (azq 1 (encL 1 az0) x17.1 40 ((x17.2).toNat) y22) <|
 .grd ((x17.2).toNat < x17.1.length ∧ 0 ≤ (x17.2).toNat) <|
 .ret (.next ((x17.1.set ((x17.2).toNat) y22), (IntKind.i64.wrap (x17.2 + 1)))))
 (.ret (.out x17.1)))
 (y3, 0) [] fun y20 =>
 .loop (fun (x35 : ((List az1) × Int)) => ⟨[(2, .ptr 0 0), (3, .vec 3), (4, .vec 4), (28, .vec 4), (29, pz ((y4.length : Nat) : Int)), (30, pz x35.2)], [(0, .box [.vec 1, .vec 2]), (1, .nilv), (2, .nilv), (3, vecO 1 (encL 1 az0) y20 40), (4, vecO 12 az2 x35.1 57)], [], 5⟩)
 (.exit 2) (fun (y38 : (List az1)) => ⟨[(2, .ptr 0 0), (3, .vec 3), (4, .vec 4)], [(0, .box [.vec 1, .vec 2]), (1, .nilv), (2, .nilv), (3, vecO 1 (encL 1 az0) y20 40), (4, vecO 12 az2 y38 57)], [], 5⟩)
 (fun x35 => .br (decide (x35.2 < ((y4.length : Nat) : Int)))
 (.grd (0 ≤ x35.2 ∧ x35.2 < ((x35.1.length : Nat) : Int)) <|
 .grd ((x35.2).toNat < x35.1.length) <|
 .call (gzi ((x35.1.getD ((x35.2).toNat) default).Proof)) [] fun y40 =>
 .grd (0 ≤ x35.2 ∧ x35.2 < ((x35.1.length : Nat) : Int)) <|
 .conv 10007 (azq 12 az2 x35.1 57 ((x35.2).toNat) (⟨(x35.1.getD ((x35.2).toNat) default).U, (x35.1.getD ((x35.2).toNat) default).V, (x35.1.getD ((x35.2).toNat) default).Cost, (x35.1.getD ((x35.2).toNat) default).State, y40⟩ : az1)) <|
 .grd ((x35.2).toNat < x35.1.length ∧ 0 ≤ (x35.2).toNat) <|
 .ret (.next ((x35.1.set ((x35.2).toNat) (⟨(x35.1.getD ((x35.2).toNat) default).U, (x35.1.getD ((x35.2).toNat) default).V, (x35.1.getD ((x35.2).toNat) default).Cost, (x35.1.getD ((x35.2).toNat) default).State, y40⟩ : az1)), (IntKind.i64.wrap (x35.2 + 1)))))
 (.ret (.out x35.1)))
 (y4, 0) [] fun y38 =>
 .ret (y20, y38)
noncomputable def lze (a0 : aza) : CallS ((List (List Int)) × (List az1)) :=
  mkC [] hd Tryz.func65 (by kernel_rfl) (lzf a0) 0 [.pure (bzr a0)] [] (fun _ => .agg [.vec 0, .vec 1]) (fun r => [(0, vecO 1 (encL 1 az0) r.1 40), (1, vecO 12 az2 r.2 57)]) (by kernel_rfl)
noncomputable def mzi (a0 : Int) : T Int :=
 .br (a0 == 1)
 (.ret 1)
 (.br (a0 == 2)
 (.ret 2)
 (.ret 0))
noncomputable def mzh (a0 : Int) : CallS Int :=
  mkC [] hd Tryz.func75 (by kernel_rfl) (mzi a0) 0 [pz a0] [] (fun r => pz r) (fun _ => []) (by kernel_rfl)
set_option maxHeartbeats 8000000 in
set_option maxRecDepth 20000 in
noncomputable def mzg (a0 : aza) (a1 : Int) (a2 : azc) : T (aza × Bool) :=
 .call (lze (⟨a0.Points, a0.Edges⟩ : aza)) [] fun y2 =>
 .cut 1 (fun (y4 : Bool) => ⟨[(1, pz a1), (3, .ptr 0 0), (5, .ptr 1 0), (6, .ptr 2 0), (7, .ptr 5 0), (22, .pure (.bool y4))], [(0, .box [.pure (encL 1 (encL 1 az0) a0.Points), .pure (encL 12 az2 a0.Edges)]), (1, .box [pz a2.Kind, .pure (encL 3 bze a2.Pieces), pz a2.At.Depth, pz a2.At.Index, .pure (encL 3 azg a2.At.Normals), pz a2.Witness.Pair, .pure (encL 1 az0 a2.Witness.Left), .pure (encL 1 az0 a2.Witness.Right)]), (2, .box [.vec 3, .vec 4]), (3, vecO 1 (encL 1 az0) y2.1 40), (4, vecO 12 az2 y2.2 57), (5, .box [.ff])], [.func 74 [] [.ptr 2 0, .ptr 5 0]], 6⟩)
 (.br (decide (a1 < 0))
 (.ret (.out true))
 (.ret (.out (decide (a1 ≥ ((a0.Edges.length : Nat) : Int)))))) fun y4 =>
 .br y4
 (.ret ((⟨y2.1, y2.2⟩ : aza), false))
 (.grd (0 ≤ a1 ∧ a1 < ((a0.Edges.length : Nat) : Int)) <|
 .cut 0 (fun (y6 : Bool) => ⟨[(1, pz a1), (5, .ptr 0 0), (6, .ptr 1 0), (7, .ptr 4 0), (35, .pure (.bool y6))], [(0, .box [pz a2.Kind, .pure (encL 3 bze a2.Pieces), pz a2.At.Depth, pz a2.At.Index, .pure (encL 3 azg a2.At.Normals), pz a2.Witness.Pair, .pure (encL 1 az0 a2.Witness.Left), .pure (encL 1 az0 a2.Witness.Right)]), (1, .box [.vec 2, .vec 3]), (2, vecO 1 (encL 1 az0) y2.1 40), (3, vecO 12 az2 y2.2 57), (4, .box [.ff])], [.func 74 [] [.ptr 1 0, .ptr 4 0]], 5⟩)
 (.br (((a0.Edges.getD ((a1).toNat) default).State) == 1)
 (.ret (.out true))
 (.ret (.out (((a0.Edges.getD ((a1).toNat) default).State) == 2)))) fun y6 =>
 .br y6
 (.ret ((⟨y2.1, y2.2⟩ : aza), false))
 (.conv 8000 (ezu 1 az0 ([1, 2, 3] : (List Int)) 3) <|
 .loop (fun (x43 : Int) => ⟨[(1, pz a1), (5, .ptr 0 0), (6, .ptr 1 0), (7, .ptr 4 0), (37, .vec 5), (38, pz ((([1, 2, 3] : (List Int)).length : Nat) : Int)), (39, pz x43)], [(0, .box [pz a2.Kind, .pure (encL 3 bze a2.Pieces), pz a2.At.Depth, pz a2.At.Index, .pure (encL 3 azg a2.At.Normals), pz a2.Witness.Pair, .pure (encL 1 az0 a2.Witness.Left), .pure (encL 1 az0 a2.Witness.Right)]), (1, .box [.vec 2, .vec 3]), (2, vecO 1 (encL 1 az0) y2.1 40), (3, vecO 12 az2 y2.2 57), (4, .box [.ff]), (5, vecO 1 az0 ([1, 2, 3] : (List Int)) 3)], [.func 74 [] [.ptr 1 0, .ptr 4 0]], 6⟩)
 (.exit 0) (fun (_ : U0) => ⟨[(6, .ptr 0 0), (7, .ptr 3 0)], [(0, .box [.vec 1, .vec 2]), (1, vecO 1 (encL 1 az0) y2.1 40), (2, vecO 12 az2 y2.2 57), (3, .box [.ff])], [.func 74 [] [.ptr 0 0, .ptr 3 0]], 4⟩)
 (fun x43 => .br (decide (x43 < ((([1, 2, 3] : (List Int)).length : Nat) : Int)))
 (.grd (0 ≤ x43 ∧ x43 < ((([1, 2, 3] : (List Int)).length : Nat) : Int)) <|
 .grd ((x43).toNat < ([1, 2, 3] : (List Int)).length) <|
 .call (mzh (([1, 2, 3] : (List Int)).getD ((x43).toNat) default)) [] fun y58 =>
 .br (y58 == a2.Kind)
 (.grd (0 ≤ a1 ∧ a1 < ((y2.2.length : Nat) : Int)) <|
 .conv 12006 (azq 12 az2 y2.2 57 ((a1).toNat) (⟨(y2.2.getD ((a1).toNat) default).U, (y2.2.getD ((a1).toNat) default).V, (y2.2.getD ((a1).toNat) default).Cost, (([1, 2, 3] : (List Int)).getD ((x43).toNat) default), (y2.2.getD ((a1).toNat) default).Proof⟩ : az1)) <|
 .grd ((a1).toNat < y2.2.length ∧ 0 ≤ (a1).toNat) <|
 .call (gzi a2) [] fun y60 =>
 .grd (0 ≤ a1 ∧ a1 < (((y2.2.set ((a1).toNat) (⟨(y2.2.getD ((a1).toNat) default).U, (y2.2.getD ((a1).toNat) default).V, (y2.2.getD ((a1).toNat) default).Cost, (([1, 2, 3] : (List Int)).getD ((x43).toNat) default), (y2.2.getD ((a1).toNat) default).Proof⟩ : az1)).length : Nat) : Int)) <|
 .conv 13007 (azq 12 az2 (y2.2.set ((a1).toNat) (⟨(y2.2.getD ((a1).toNat) default).U, (y2.2.getD ((a1).toNat) default).V, (y2.2.getD ((a1).toNat) default).Cost, (([1, 2, 3] : (List Int)).getD ((x43).toNat) default), (y2.2.getD ((a1).toNat) default).Proof⟩ : az1)) 57 ((a1).toNat) (⟨((y2.2.set ((a1).toNat) (⟨(y2.2.getD ((a1).toNat) default).U, (y2.2.getD ((a1).toNat) default).V, (y2.2.getD ((a1).toNat) default).Cost, (([1, 2, 3] : (List Int)).getD ((x43).toNat) default), (y2.2.getD ((a1).toNat) default).Proof⟩ : az1)).getD ((a1).toNat) default).U, ((y2.2.set ((a1).toNat) (⟨(y2.2.getD ((a1).toNat) default).U, (y2.2.getD ((a1).toNat) default).V, (y2.2.getD ((a1).toNat) default).Cost, (([1, 2, 3] : (List Int)).getD ((x43).toNat) default), (y2.2.getD ((a1).toNat) default).Proof⟩ : az1)).getD ((a1).toNat) default).V, ((y2.2.set ((a1).toNat) (⟨(y2.2.getD ((a1).toNat) default).U, (y2.2.getD ((a1).toNat) default).V, (y2.2.getD ((a1).toNat) default).Cost, (([1, 2, 3] : (List Int)).getD ((x43).toNat) default), (y2.2.getD ((a1).toNat) default).Proof⟩ : az1)).getD ((a1).toNat) default).Cost, ((y2.2.set ((a1).toNat) (⟨(y2.2.getD ((a1).toNat) default).U, (y2.2.getD ((a1).toNat) default).V, (y2.2.getD ((a1).toNat) default).Cost, (([1, 2, 3] : (List Int)).getD ((x43).toNat) default), (y2.2.getD ((a1).toNat) default).Proof⟩ : az1)).getD ((a1).toNat) default).State, y60⟩ : az1)) <|
 .grd ((a1).toNat < (y2.2.set ((a1).toNat) (⟨(y2.2.getD ((a1).toNat) default).U, (y2.2.getD ((a1).toNat) default).V, (y2.2.getD ((a1).toNat) default).Cost, (([1, 2, 3] : (List Int)).getD ((x43).toNat) default), (y2.2.getD ((a1).toNat) default).Proof⟩ : az1)).length ∧ 0 ≤ (a1).toNat) <|
 .ret (.fin ((⟨y2.1, ((y2.2.set ((a1).toNat) (⟨(y2.2.getD ((a1).toNat) default).U, (y2.2.getD ((a1).toNat) default).V, (y2.2.getD ((a1).toNat) default).Cost, (([1, 2, 3] : (List Int)).getD ((x43).toNat) default), (y2.2.getD ((a1).toNat) default).Proof⟩ : az1)).set ((a1).toNat) (⟨((y2.2.set ((a1).toNat) (⟨(y2.2.getD ((a1).toNat) default).U, (y2.2.getD ((a1).toNat) default).V, (y2.2.getD ((a1).toNat) default).Cost, (([1, 2, 3] : (List Int)).getD ((x43).toNat) default), (y2.2.getD ((a1).toNat) default).Proof⟩ : az1)).getD ((a1).toNat) default).U, ((y2.2.set ((a1).toNat) (⟨(y2.2.getD ((a1).toNat) default).U, (y2.2.getD ((a1).toNat) default).V, (y2.2.getD ((a1).toNat) default).Cost, (([1, 2, 3] : (List Int)).getD ((x43).toNat) default), (y2.2.getD ((a1).toNat) default).Proof⟩ : az1)).getD ((a1).toNat) default).V, ((y2.2.set ((a1).toNat) (⟨(y2.2.getD ((a1).toNat) default).U, (y2.2.getD ((a1).toNat) default).V, (y2.2.getD ((a1).toNat) default).Cost, (([1, 2, 3] : (List Int)).getD ((x43).toNat) default), (y2.2.getD ((a1).toNat) default).Proof⟩ : az1)).getD ((a1).toNat) default).Cost, ((y2.2.set ((a1).toNat) (⟨(y2.2.getD ((a1).toNat) default).U, (y2.2.getD ((a1).toNat) default).V, (y2.2.getD ((a1).toNat) default).Cost, (([1, 2, 3] : (List Int)).getD ((x43).toNat) default), (y2.2.getD ((a1).toNat) default).Proof⟩ : az1)).getD ((a1).toNat) default).State, y60⟩ : az1))⟩ : aza), true)))
 (.ret (.next (IntKind.i64.wrap (x43 + 1)))))
 (.ret (.out .u)))
 0 [] fun _ =>
 .ret ((⟨y2.1, y2.2⟩ : aza), false)))
noncomputable def jze (a0 : aza) (a1 : Int) (a2 : azc) : CallS (aza × Bool) :=
  mkC [⟨74, Iz7⟩] hd Tryz.func30 (by kernel_rfl) (mzg a0 a1 a2) 0 [.pure (bzr a0), pz a1, .pure (fzu a2)] [] (fun r => .tup [.pure (bzr r.1), .pure (.bool r.2)]) (fun _ => []) (by kernel_rfl)
noncomputable def jz9 (a0 : azc) : T Bool :=
 .br (a0.Kind == 0)
 (.br (((a0.Pieces.length : Nat) : Int) == 0)
 (.br (a0.At.Depth == 0)
 (.br (a0.At.Index == 0)
 (.br (((a0.At.Normals.length : Nat) : Int) == 0)
 (.br (a0.Witness.Pair == 0)
 (.br (((a0.Witness.Left.length : Nat) : Int) == 0)
 (.ret (((a0.Witness.Right.length : Nat) : Int) == 0))
 (.ret false))
 (.ret false))
 (.ret false))
 (.ret false))
 (.ret false))
 (.ret false))
 (.ret false)
noncomputable def nz0 (a0 : azc) : CallS Bool :=
  mkC [] hd Tryz.func87 (by kernel_rfl) (jz9 a0) 0 [.pure (fzu a0)] [] (fun r => .pure (.bool r)) (fun _ => []) (by kernel_rfl)
noncomputable def iz7 (a0 : az8) (a1 : aza) (a2 : az1) : T Bool :=
 .cut 2 (fun (y12 : Bool) => ⟨[(5, .ptr 0 0), (36, .pure (.bool y12))], [(0, .box [pz a2.U, pz a2.V, pz a2.Cost, pz a2.State, pz a2.Proof.Kind, .pure (encL 3 bze a2.Proof.Pieces), pz a2.Proof.At.Depth, pz a2.Proof.At.Index, .pure (encL 3 azg a2.Proof.At.Normals), pz a2.Proof.Witness.Pair, .pure (encL 1 az0 a2.Proof.Witness.Left), .pure (encL 1 az0 a2.Proof.Witness.Right)])], [], 1⟩)
 (.call (hz2 a1 a2) [] fun y13 =>
 .br (!y13)
 (.ret (.out true))
 (.br (decide (a2.U ≥ a2.V))
 (.ret (.out true))
 (.grd (0 ≤ a2.U ∧ a2.U < ((a1.Points.length : Nat) : Int)) <|
 .grd (0 ≤ a2.V ∧ a2.V < ((a1.Points.length : Nat) : Int)) <|
 .call (izz a0 (a1.Points.getD ((a2.U).toNat) default) (a1.Points.getD ((a2.V).toNat) default)) [] fun y14 =>
 .ret (.out (a2.Cost != y14))))) fun y12 =>
 .br y12
 (.ret false)
 (.cut 1 (fun (y21 : Bool) => ⟨[(5, .ptr 0 0), (53, .pure (.bool y21))], [(0, .box [pz a2.U, pz a2.V, pz a2.Cost, pz a2.State, pz a2.Proof.Kind, .pure (encL 3 bze a2.Proof.Pieces), pz a2.Proof.At.Depth, pz a2.Proof.At.Index, .pure (encL 3 azg a2.Proof.At.Normals), pz a2.Proof.Witness.Pair, .pure (encL 1 az0 a2.Proof.Witness.Left), .pure (encL 1 az0 a2.Proof.Witness.Right)])], [], 1⟩)
 (.br (decide (a2.State < 0))
 (.ret (.out true))
 (.br (decide (a2.State > 3))
 (.ret (.out true))
 (.call (mzh a2.State) [] fun y22 =>
 .ret (.out (a2.Proof.Kind != y22))))) fun y21 =>
 .br y21
 (.ret false)
 (.br (a2.State != 0)
 (.ret true)
 (.call (nz0 a2.Proof) [] fun y23 =>
 .ret y23)))
noncomputable def lzh (a0 : az8) (a1 : aza) (a2 : az1) : CallS Bool :=
  mkC [] hd Tryz.func42 (by kernel_rfl) (iz7 a0 a1 a2) 0 [.pure (azw a0), .pure (bzr a1), .pure (az2 a2)] [] (fun r => .pure (.bool r)) (fun _ => []) (by kernel_rfl)
noncomputable def fzd (a0 : az1) (a1 : az1) : T Int :=
 .call (bz6 a0.U a1.U) [] fun y1 =>
 .call (bz6 a0.V a1.V) [] fun y2 =>
 .conv 1010 (ezu 1 az0 ([y1, y2] : (List Int)) 3) <|
 .call (lzp ([y1, y2] : (List Int))) [] fun y3 =>
 .ret y3
noncomputable def azp (a0 : az1) (a1 : az1) : CallS Int :=
  mkC [] hd Tryz.func43 (by kernel_rfl) (fzd a0 a1) 0 [.pure (az2 a0), .pure (az2 a1)] [] (fun r => pz r) (fun _ => []) (by kernel_rfl)
noncomputable def lzd (a0 : az8) (a1 : aza) : T Bool :=
 .cut 3 (fun (y7 : Bool) => ⟨[(2, .ptr 0 0), (3, .ptr 1 0), (4, .ptr 2 0), (22, .pure (.bool y7))], [(0, .box [.pure (encL 12 az9 a0.Joints), .pure (encL 5 azb a0.Masses)]), (1, .box [.pure (encL 1 (encL 1 az0) a1.Points), .pure (encL 12 az2 a1.Edges)]), (2, .box [.ff])], [.func 39 [] [.ptr 2 0]], 3⟩)
 (.call (hz3 a0) [] fun y8 =>
 .br (y8 != 0)
 (.ret (.out true))
 (.br (decide (((a1.Points.length : Nat) : Int) > 1024))
 (.ret (.out true))
 (.ret (.out (decide (((a1.Edges.length : Nat) : Int) > 8192)))))) fun y7 =>
 .br y7
 (.ret false)
 (.call (izo a0 a1.Points) [] fun y12 =>
 .br (((y12.length : Nat) : Int) != ((a1.Points.length : Nat) : Int))
 (.ret false)
 (.loop (fun (x61 : Int) => ⟨[(2, .ptr 0 0), (3, .ptr 1 0), (4, .ptr 2 0), (33, .pure (encL 12 az2 a1.Edges)), (34, pz ((a1.Edges.length : Nat) : Int)), (35, pz x61)], [(0, .box [.pure (encL 12 az9 a0.Joints), .pure (encL 5 azb a0.Masses)]), (1, .box [.pure (encL 1 (encL 1 az0) a1.Points), .pure (encL 12 az2 a1.Edges)]), (2, .box [.ff])], [.func 39 [] [.ptr 2 0]], 3⟩)
 (.exit 0) (fun (_ : U0) => ⟨[(4, .ptr 0 0)], [(0, .box [.ff])], [.func 39 [] [.ptr 0 0]], 1⟩)
 (fun x61 => .br (decide (x61 < ((a1.Edges.length : Nat) : Int)))
 (.grd (0 ≤ x61 ∧ x61 < ((a1.Edges.length : Nat) : Int)) <|
 .cut 0 (fun (y88 : Bool) => ⟨[(2, .ptr 0 0), (3, .ptr 1 0), (4, .ptr 2 0), (33, .pure (encL 12 az2 a1.Edges)), (34, pz ((a1.Edges.length : Nat) : Int)), (35, pz x61), (59, .pure (.bool y88))], [(0, .box [.pure (encL 12 az9 a0.Joints), .pure (encL 5 azb a0.Masses)]), (1, .box [.pure (encL 1 (encL 1 az0) a1.Points), .pure (encL 12 az2 a1.Edges)]), (2, .box [.ff])], [.func 39 [] [.ptr 2 0]], 3⟩)
 (.call (lzh (⟨a0.Joints, a0.Masses⟩ : az8) (⟨a1.Points, a1.Edges⟩ : aza) (a1.Edges.getD ((x61).toNat) default)) [] fun y89 =>
 .br (!y89)
 (.ret (.out true))
 (.br (decide (x61 > 0))
 (.grd (0 ≤ (IntKind.i64.wrap (x61 - 1)) ∧ (IntKind.i64.wrap (x61 - 1)) < ((a1.Edges.length : Nat) : Int)) <|
 .call (azp (a1.Edges.getD (((IntKind.i64.wrap (x61 - 1))).toNat) default) (a1.Edges.getD ((x61).toNat) default)) [] fun y90 =>
 .ret (.out (decide (y90 ≥ 0))))
 (.ret (.out false)))) fun y88 =>
 .br y88
 (.ret (.fin false))
 (.ret (.next (IntKind.i64.wrap (x61 + 1)))))
 (.ret (.out .u)))
 0 [] fun _ =>
 .ret true))
noncomputable def ezd (a0 : az8) (a1 : aza) : CallS Bool :=
  mkC [⟨39, Iz3⟩] hd Tryz.func15 (by kernel_rfl) (lzd a0 a1) 0 [.pure (azw a0), .pure (bzr a1)] [] (fun r => .pure (.bool r)) (fun _ => []) (by kernel_rfl)
noncomputable def uzf (a0 : (List Int)) (a1 : (List Int)) : T Bool :=
 .br (((a0.length : Nat) : Int) != ((a1.length : Nat) : Int))
 (.ret false)
 (.loop (fun (x5 : Int) => ⟨[(0, .pure (encL 1 az0 a0)), (1, .pure (encL 1 az0 a1)), (5, pz x5)], [], [], 0⟩)
 (.exit 0) (fun (_ : U0) => ⟨[], [], [], 0⟩)
 (fun x5 => .br (decide (x5 < ((a0.length : Nat) : Int)))
 (.grd (0 ≤ x5 ∧ x5 < ((a0.length : Nat) : Int)) <|
 .grd (0 ≤ x5 ∧ x5 < ((a1.length : Nat) : Int)) <|
 .br ((a0.getD ((x5).toNat) default) != (a1.getD ((x5).toNat) default))
 (.ret (.fin false))
 (.ret (.next (IntKind.i64.wrap (x5 + 1)))))
 (.ret (.out .u)))
 0 [] fun _ =>
 .ret true)
noncomputable def pz2 (a0 : (List Int)) (a1 : (List Int)) : CallS Bool :=
  mkC [] hd Tryz.func34 (by kernel_rfl) (uzf a0 a1) 0 [.pure (encL 1 az0 a0), .pure (encL 1 az0 a1)] [] (fun r => .pure (.bool r)) (fun _ => []) (by kernel_rfl)
noncomputable def rzq (a0 : aza) (a1 : Int) : T (List Int) :=
 .loop (fun (x57 : ((List Int) × Int)) => ⟨[(1, pz a1), (2, .ptr 0 0), (4, .ptr 1 0), (9, .pure (encL 12 az2 a0.Edges)), (10, pz ((a0.Edges.length : Nat) : Int)), (11, pz x57.2)], [(0, .box [.pure (encL 1 (encL 1 az0) a0.Points), .pure (encL 12 az2 a0.Edges)]), (1, .box [.vec 2]), (2, vecO 1 az0 x57.1 3)], [.func 79 [] [.ptr 1 0]], 3⟩)
 (.exit 0) (fun (y71 : (List Int)) => ⟨[(4, .ptr 0 0)], [(0, .box [.vec 1]), (1, vecO 1 az0 y71 3)], [.func 79 [] [.ptr 0 0]], 2⟩)
 (fun x57 => .br (decide (x57.2 < ((a0.Edges.length : Nat) : Int)))
 (.cut 0 (fun (y80 : (List Int)) => ⟨[(1, pz a1), (2, .ptr 0 0), (4, .ptr 1 0), (9, .pure (encL 12 az2 a0.Edges)), (10, pz ((a0.Edges.length : Nat) : Int)), (11, pz x57.2)], [(0, .box [.pure (encL 1 (encL 1 az0) a0.Points), .pure (encL 12 az2 a0.Edges)]), (1, .box [.vec 2]), (2, vecO 1 az0 y80 3)], [.func 79 [] [.ptr 1 0]], 3⟩)
 (.grd (0 ≤ x57.2 ∧ x57.2 < ((a0.Edges.length : Nat) : Int)) <|
 .cut 0 (fun (y83 : Bool) => ⟨[(1, pz a1), (2, .ptr 0 0), (4, .ptr 1 0), (5, pz x57.2), (9, .pure (encL 12 az2 a0.Edges)), (10, pz ((a0.Edges.length : Nat) : Int)), (11, pz x57.2), (30, .pure (.bool y83))], [(0, .box [.pure (encL 1 (encL 1 az0) a0.Points), .pure (encL 12 az2 a0.Edges)]), (1, .box [.vec 2]), (2, vecO 1 az0 x57.1 3)], [.func 79 [] [.ptr 1 0]], 3⟩)
 (.call (hz2 a0 (a0.Edges.getD ((x57.2).toNat) default)) [] fun y84 =>
 .br y84
 (.br (((a0.Edges.getD ((x57.2).toNat) default).U) == a1)
 (.ret (.out true))
 (.ret (.out (((a0.Edges.getD ((x57.2).toNat) default).V) == a1))))
 (.ret (.out false))) fun y83 =>
 .br y83
 (.conv 6002 (ezu 1 az0 ([x57.2] : (List Int)) 3) <|
 .conv 6003 (gzg 1 az0 x57.1 ([x57.2] : (List Int)) 3) <|
 .grd ((x57.1.length + ([x57.2] : (List Int)).length) * 8 ≤ 140737488355328 ∧ (x57.1.length + ([x57.2] : (List Int)).length) ≤ maxLen) <|
 .ret (.out (x57.1 ++ ([x57.2] : (List Int)))))
 (.ret (.out x57.1))) fun y80 =>
 .ret (.next (y80, (IntKind.i64.wrap (x57.2 + 1)))))
 (.ret (.out x57.1)))
 (nl, 0) [] fun y71 =>
 .ret y71
noncomputable def rzp (a0 : aza) (a1 : Int) : CallS (List Int) :=
  mkC [⟨79, Iz8⟩] hd Tryz.func35 (by kernel_rfl) (rzq a0 a1) 0 [.pure (bzr a0), pz a1] [] (fun r => .pure (encL 1 az0 r)) (fun _ => []) (by kernel_rfl)
noncomputable def xz1 : T Bool :=
 .call (xz3 1 9) [] fun y2 =>
 .conv 2001 (ezu 1 az0 ([0] : (List Int)) 2) <|
 .conv 2002 (ezu 1 az0 ([5] : (List Int)) 2) <|
 .conv 2003 (ezu 1 az0 ([9] : (List Int)) 2) <|
 .conv 2004 (ezu 1 (encL 1 az0) ([([0] : (List Int)), ([5] : (List Int)), ([9] : (List Int))] : (List (List Int))) 40) <|
 .call (nzt (⟨y2.Joints, y2.Masses⟩ : az8) ([([0] : (List Int)), ([5] : (List Int)), ([9] : (List Int))] : (List (List Int))) 1) [] fun y4 =>
 .cut 1 (fun (y6 : Bool) => ⟨[(1, .ptr 0 0), (2, .ptr 1 0), (22, .pure (.bool y6))], [(0, .box [.pure (encL 12 az9 y2.Joints), .pure (encL 5 azb y2.Masses)]), (1, .box [.pure (encL 1 (encL 1 az0) y4.Points), .pure (encL 12 az2 y4.Edges)])], [], 2⟩)
 (.br (((y4.Edges.length : Nat) : Int) != 2)
 (.ret (.out true))
 (.ret (.out (((y4.Points.length : Nat) : Int) != 3)))) fun y6 =>
 .br y6
 (.ret false)
 (.call (lzu 1) [] fun y9 =>
 .call (jze (⟨y4.Points, y4.Edges⟩ : aza) 1 y9) [] fun y10 =>
 .call (qz3 y10.1 0) [] fun y12 =>
 .br y10.2
 (.call (ezd (⟨y2.Joints, y2.Masses⟩ : az8) y10.1) [] fun y13 =>
 .br y13
 (.conv 7008 (ezu 1 az0 ([0, 1, 1] : (List Int)) 3) <|
 .call (pz2 y12 ([0, 1, 1] : (List Int))) [] fun y14 =>
 .br y14
 (.call (rzp y10.1 1) [] fun y15 =>
 .conv 7014 (ezu 1 az0 ([0, 1] : (List Int)) 3) <|
 .call (pz2 y15 ([0, 1] : (List Int))) [] fun y16 =>
 .ret y16)
 (.ret false))
 (.ret false))
 (.ret false))
noncomputable def law25_awake_C : CallS Bool :=
  mkC [] hd Tryz.func11 (by kernel_rfl) (xz1) 0 [] [] (fun r => .pure (.bool r)) (fun _ => []) (by kernel_rfl)
noncomputable def kzx (a0 : (List Int)) (a1 : Int) (a2 : Int) : T (Int × (List Int) × Int) :=
 .call (azd a0 a1 (IntKind.i64.wrap ((IntKind.i64.wrap (2 * a2)) + 1))) [(0, 0)] fun y2 =>
 .ret ((IntKind.i64.wrap (y2.1 - a2)), y2.2.1, y2.2.2)
noncomputable def cz1 (a0 : (List Int)) (a1 : Int) (a2 : Int) : CallS (Int × (List Int) × Int) :=
  mkC [] hd Tryz.func81 (by kernel_rfl) (kzx a0 a1 a2) 1 [.ptr 0 0, pz a2] [(0, .box [.pure (encL 1 az0 a0), pz a1])] (fun r => pz r.1) (fun r => [(0, .box [.pure (encL 1 az0 r.2.1), pz r.2.2])]) (by kernel_rfl)
noncomputable def jzk (a0 : (List Int)) (a1 : Int) (a2 : Int) : T (azj × (List Int) × Int) :=
 .call (gzw a2) [] fun y45 =>
 .call (azd a0 a1 4) [(0, 0)] fun y46 =>
 .call (azd y46.2.1 y46.2.2 3) [(0, 0)] fun y47 =>
 .call (azd y47.2.1 y47.2.2 8) [(0, 0)] fun y49 =>
 .grd (0 ≤ y49.1 ∧ y49.1 < ((8 : Nat) : Int)) <|
 .cut 0 (fun (y54 : ((List Int) × Int × Int)) => ⟨[(0, .ptr 0 0), (1, pz a2), (4, .ptr 1 0), (5, .ptr 2 0)], [(0, .box [.pure (encL 1 az0 y54.1), pz y54.2.1]), (1, .box [.pure (.str (⟨#[]⟩ : ByteArray)), pz 0, pz 0, pz 0, pz 0, pz 0, pz 0, pz 0, pz 0, pz 0, pz 0, pz 0]), (2, .box [.pure (.str y45), pz (([3, 3, 1, 2, 4, 5, 3, 0] : List Int).getD (y49.1).toNat 0), pz y54.2.2, pz 0, pz 0, pz 0, pz 0, pz 0, pz (IntKind.i64.wrap (1 + y46.1)), pz 65536, pz (IntKind.i64.wrap (65536 + y47.1)), pz 327680])], [], 3⟩)
 (.call (azd y49.2.1 y49.2.2 4) [(0, 0)] fun y56 =>
 .br (y56.1 == 1)
 (.ret (.out (y56.2.1, y56.2.2, (-1))))
 (.ret (.out (y56.2.1, y56.2.2, (IntKind.i64.wrap (a2 - 1)))))) fun y54 =>
 .cut 0 (fun (y61 : ((List Int) × Int × Int × Int × Int)) => ⟨[(0, .ptr 0 0), (4, .ptr 1 0), (5, .ptr 2 0)], [(0, .box [.pure (encL 1 az0 y61.1), pz y61.2.1]), (1, .box [.pure (.str (⟨#[]⟩ : ByteArray)), pz 0, pz 0, pz 0, pz 0, pz 0, pz 0, pz 0, pz 0, pz 0, pz 0, pz 0]), (2, .box [.pure (.str y45), pz (([3, 3, 1, 2, 4, 5, 3, 0] : List Int).getD (y49.1).toNat 0), pz y54.2.2, pz y61.2.2.1, pz y61.2.2.2.1, pz y61.2.2.2.2, pz 0, pz 0, pz (IntKind.i64.wrap (1 + y46.1)), pz 65536, pz (IntKind.i64.wrap (65536 + y47.1)), pz 327680])], [], 3⟩)
 (.br (decide (a2 > 0))
 (.call (cz1 y54.1 y54.2.1 2) [(0, 0)] fun y62 =>
 .call (cz1 y62.2.1 y62.2.2 1) [(0, 0)] fun y63 =>
 .ret (.out (y63.2.1, y63.2.2, 131072, (IntKind.i64.wrap (y62.1 * 32768)), (IntKind.i64.wrap (y63.1 * 32768)))))
 (.ret (.out (y54.1, y54.2.1, 0, 0, 0)))) fun y61 =>
 .cut 0 (fun (y76 : ((List Int) × Int × Int × Int)) => ⟨[(4, .ptr 1 0), (5, .ptr 2 0)], [(0, .box [.pure (encL 1 az0 y76.1), pz y76.2.1]), (1, .box [.pure (.str (⟨#[]⟩ : ByteArray)), pz 0, pz 0, pz 0, pz 0, pz 0, pz 0, pz 0, pz 0, pz 0, pz 0, pz 0]), (2, .box [.pure (.str y45), pz (([3, 3, 1, 2, 4, 5, 3, 0] : List Int).getD (y49.1).toNat 0), pz y54.2.2, pz y61.2.2.1, pz y61.2.2.2.1, pz y61.2.2.2.2, pz y76.2.2.1, pz y76.2.2.2, pz (IntKind.i64.wrap (1 + y46.1)), pz 65536, pz (IntKind.i64.wrap (65536 + y47.1)), pz 327680])], [], 3⟩)
 (.br ((([3, 3, 1, 2, 4, 5, 3, 0] : List Int).getD (y49.1).toNat 0) == 0)
 (.ret (.out (y61.1, y61.2.1, 0, 0)))
 (.cut 0 (fun (y77 : Bool) => ⟨[(0, .ptr 0 0), (4, .ptr 1 0), (5, .ptr 2 0), (55, .pure (.bool y77))], [(0, .box [.pure (encL 1 az0 y61.1), pz y61.2.1]), (1, .box [.pure (.str (⟨#[]⟩ : ByteArray)), pz 0, pz 0, pz 0, pz 0, pz 0, pz 0, pz 0, pz 0, pz 0, pz 0, pz 0]), (2, .box [.pure (.str y45), pz (([3, 3, 1, 2, 4, 5, 3, 0] : List Int).getD (y49.1).toNat 0), pz y54.2.2, pz y61.2.2.1, pz y61.2.2.2.1, pz y61.2.2.2.2, pz 0, pz 0, pz (IntKind.i64.wrap (1 + y46.1)), pz 65536, pz (IntKind.i64.wrap (65536 + y47.1)), pz 327680])], [], 3⟩)
 (.br ((([3, 3, 1, 2, 4, 5, 3, 0] : List Int).getD (y49.1).toNat 0) == 4)
 (.ret (.out ((([3, 3, 1, 2, 4, 5, 3, 0] : List Int).getD (y49.1).toNat 0) == 4)))
 (.ret (.out ((([3, 3, 1, 2, 4, 5, 3, 0] : List Int).getD (y49.1).toNat 0) == 5)))) fun y77 =>
 .br y77
 (.call (azd y61.1 y61.2.1 3) [(0, 0)] fun y78 =>
 .call (azd y78.2.1 y78.2.2 4) [(0, 0)] fun y79 =>
 .ret (.out (y79.2.1, y79.2.2, (IntKind.i64.wrap ((IntKind.i64.wrap (0 - y78.1)) * 65536)), (IntKind.i64.wrap (y79.1 * 32768)))))
 (.call (azd y61.1 y61.2.1 5) [(0, 0)] fun y80 =>
 .ok ((8 : Int) ≠ 0) (by decide) <|
 .call (azd y80.2.1 y80.2.2 4) [(0, 0)] fun y81 =>
 .ok ((8 : Int) ≠ 0) (by decide) <|
 .call (azd y81.2.1 y81.2.2 3) [(0, 0)] fun y82 =>
 .ret (.out (y82.2.1, y82.2.2, (IntKind.i64.wrap ((IntKind.i64.wrap ((IntKind.i64.wrap (0 - y80.1)) * 65536)).tdiv 8)), (IntKind.i64.wrap ((IntKind.i64.wrap ((IntKind.i64.wrap ((IntKind.i64.wrap (1 + y81.1)) * 65536)).tdiv 8)) + y82.1))))))) fun y76 =>
 .ret ((⟨y45, (([3, 3, 1, 2, 4, 5, 3, 0] : List Int).getD (y49.1).toNat 0), y54.2.2, (y61.2.2.1, y61.2.2.2.1, y61.2.2.2.2), y76.2.2.1, y76.2.2.2, (IntKind.i64.wrap (1 + y46.1)), 65536, (IntKind.i64.wrap (65536 + y47.1)), 327680⟩ : azj), y76.1, y76.2.1)
noncomputable def jzj (a0 : (List Int)) (a1 : Int) (a2 : Int) : CallS (azj × (List Int) × Int) :=
  mkC [] hd Tryz.func80 (by kernel_rfl) (jzk a0 a1 a2) 1 [.ptr 0 0, pz a2] [(0, .box [.pure (encL 1 az0 a0), pz a1])] (fun r => .pure (az9 r.1)) (fun r => [(0, .box [.pure (encL 1 az0 r.2.1), pz r.2.2])]) (by kernel_rfl)
noncomputable def jzl (a0 : (List Int)) (a1 : Int) : T (az8 × (List Int) × Int) :=
 .call (azd a0 a1 3) [(0, 0)] fun y80 =>
 .loop (fun (x93 : ((List Int) × Int × (List azj) × Int)) => ⟨[(0, .ptr 0 0), (2, .ptr 1 0), (3, .ptr 4 0), (4, pz (IntKind.i64.wrap (1 + y80.1))), (5, pz x93.2.2.2)], [(0, .box [.pure (encL 1 az0 x93.1), pz x93.2.1]), (1, .box [.vec 2, .vec 3]), (2, .nilv), (3, .nilv), (4, .box [.vec 5, .vec 6]), (5, vecO 12 az9 x93.2.2.1 100), (6, .nilv)], [], 7⟩)
 (.exit 0) (fun (y96 : ((List Int) × Int × (List azj))) => ⟨[(0, .ptr 0 0), (2, .ptr 1 0), (3, .ptr 4 0), (4, pz (IntKind.i64.wrap (1 + y80.1)))], [(0, .box [.pure (encL 1 az0 y96.1), pz y96.2.1]), (1, .box [.vec 2, .vec 3]), (2, .nilv), (3, .nilv), (4, .box [.vec 5, .vec 6]), (5, vecO 12 az9 y96.2.2 100), (6, .nilv)], [], 7⟩)
 (fun x93 => .br (decide (x93.2.2.2 < (IntKind.i64.wrap (1 + y80.1))))
 (.call (jzj x93.1 x93.2.1 x93.2.2.2) [(0, 0)] fun y98 =>
 .conv 6005 (ezu 12 az9 ([y98.1] : (List azj)) 100) <|
 .conv 6006 (gzg 12 az9 x93.2.2.1 ([y98.1] : (List azj)) 100) <|
 .grd ((x93.2.2.1.length + ([y98.1] : (List azj)).length) * 104 ≤ 140737488355328 ∧ (x93.2.2.1.length + ([y98.1] : (List azj)).length) ≤ maxLen) <|
 .ret (.next (y98.2.1, y98.2.2, (x93.2.2.1 ++ ([y98.1] : (List azj))), (IntKind.i64.wrap (x93.2.2.2 + 1)))))
 (.ret (.out (x93.1, x93.2.1, x93.2.2.1))))
 (y80.2.1, y80.2.2, nl, 0) [] fun y96 =>
 .call (azd y96.1 y96.2.1 3) [(0, 0)] fun y129 =>
 .loop (fun (x139 : ((List Int) × Int × (List czc) × Int)) => ⟨[(0, .ptr 0 0), (2, .ptr 1 0), (3, .ptr 4 0), (4, pz (IntKind.i64.wrap (1 + y80.1))), (6, pz x139.2.2.2)], [(0, .box [.pure (encL 1 az0 x139.1), pz x139.2.1]), (1, .box [.vec 2, .vec 3]), (2, .nilv), (3, .nilv), (4, .box [.vec 5, .vec 6]), (5, vecO 12 az9 y96.2.2 100), (6, vecO 5 azb x139.2.2.1 115)], [], 7⟩)
 (.exit 2) (fun (y148 : ((List Int) × Int × (List czc))) => ⟨[(2, .ptr 1 0), (3, .ptr 4 0)], [(0, .box [.pure (encL 1 az0 y148.1), pz y148.2.1]), (1, .box [.vec 2, .vec 3]), (2, .nilv), (3, .nilv), (4, .box [.vec 5, .vec 6]), (5, vecO 12 az9 y96.2.2 100), (6, vecO 5 azb y148.2.2 115)], [], 7⟩)
 (fun x139 => .br (decide (x139.2.2.2 > 0))
 (.call (azd x139.1 x139.2.1 (IntKind.i64.wrap (1 + y80.1))) [(0, 0)] fun y153 =>
 .call (azd y153.2.1 y153.2.2 9000) [(0, 0)] fun y154 =>
 .call (cz1 y154.2.1 y154.2.2 3) [(0, 0)] fun y155 =>
 .call (cz1 y155.2.1 y155.2.2 2) [(0, 0)] fun y156 =>
 .conv 10016 (ezu 5 azb ([(⟨y153.1, (IntKind.i64.wrap (1 + y154.1)), ((IntKind.i64.wrap (y155.1 * 32768)), 0, (IntKind.i64.wrap (y156.1 * 32768)))⟩ : czc)] : (List czc)) 115) <|
 .conv 10017 (gzg 5 azb x139.2.2.1 ([(⟨y153.1, (IntKind.i64.wrap (1 + y154.1)), ((IntKind.i64.wrap (y155.1 * 32768)), 0, (IntKind.i64.wrap (y156.1 * 32768)))⟩ : czc)] : (List czc)) 115) <|
 .grd ((x139.2.2.1.length + ([(⟨y153.1, (IntKind.i64.wrap (1 + y154.1)), ((IntKind.i64.wrap (y155.1 * 32768)), 0, (IntKind.i64.wrap (y156.1 * 32768)))⟩ : czc)] : (List czc)).length) * 40 ≤ 140737488355328 ∧ (x139.2.2.1.length + ([(⟨y153.1, (IntKind.i64.wrap (1 + y154.1)), ((IntKind.i64.wrap (y155.1 * 32768)), 0, (IntKind.i64.wrap (y156.1 * 32768)))⟩ : czc)] : (List czc)).length) ≤ maxLen) <|
 .ret (.next (y156.2.1, y156.2.2, (x139.2.2.1 ++ ([(⟨y153.1, (IntKind.i64.wrap (1 + y154.1)), ((IntKind.i64.wrap (y155.1 * 32768)), 0, (IntKind.i64.wrap (y156.1 * 32768)))⟩ : czc)] : (List czc))), (IntKind.i64.wrap (x139.2.2.2 - 1)))))
 (.ret (.out (x139.1, x139.2.1, x139.2.2.1))))
 (y129.2.1, y129.2.2, nl, y129.1) [] fun y148 =>
 .ret ((⟨y96.2.2, y148.2.2⟩ : az8), y148.1, y148.2.1)
noncomputable def iza (a0 : (List Int)) (a1 : Int) : CallS (az8 × (List Int) × Int) :=
  mkC [] hd Tryz.func36 (by kernel_rfl) (jzl a0 a1) 1 [.ptr 0 0] [(0, .box [.pure (encL 1 az0 a0), pz a1])] (fun r => .pure (azw r.1)) (fun r => [(0, .box [.pure (encL 1 az0 r.2.1), pz r.2.2])]) (by kernel_rfl)
noncomputable def jzh (a0 : (List Int)) : T az8 :=
 .call (fzn a0) [] fun y1 =>
 .call (iza y1.1 y1.2) [(0, 128)] fun y2 =>
 .ret y2.1
noncomputable def lzv (a0 : (List Int)) : CallS az8 :=
  mkC [] hd Tryz.func12 (by kernel_rfl) (jzh a0) 0 [.pure (encL 1 az0 a0)] [] (fun r => .pure (azw r)) (fun _ => []) (by kernel_rfl)
noncomputable def nzm (a0 : az8) (a1 : (List Int)) : T (List Int) :=
 .call (fzn a1) [] fun y103 =>
 .loop (fun (x172 : ((List Int) × Int × (List Int) × Int)) => ⟨[(2, .ptr 0 0), (5, .ptr 1 0), (6, .vec 2), (7, pz x172.2.2.2)], [(0, .box [.pure (encL 12 az9 a0.Joints), .pure (encL 5 azb a0.Masses)]), (1, .box [.pure (encL 1 az0 x172.1), pz x172.2.1]), (2, vecO 1 az0 x172.2.2.1 2)], [], 3⟩)
 (.exit 0) (fun (y189 : (List Int)) => ⟨[(6, .vec 0)], [(0, vecO 1 az0 y189 2)], [], 1⟩)
 (fun x172 => .br (decide (x172.2.2.2 < ((a0.Joints.length : Nat) : Int)))
 (.cut 0 (fun (y200 : ((List Int) × Int × (List Int))) => ⟨[(2, .ptr 0 0), (5, .ptr 1 0), (6, .vec 2), (7, pz x172.2.2.2)], [(0, .box [.pure (encL 12 az9 a0.Joints), .pure (encL 5 azb a0.Masses)]), (1, .box [.pure (encL 1 az0 y200.1), pz y200.2.1]), (2, vecO 1 az0 y200.2.2 2)], [], 3⟩)
 (.grd (0 ≤ x172.2.2.2 ∧ x172.2.2.2 < ((a0.Joints.length : Nat) : Int)) <|
 .grd (0 ≤ x172.2.2.2 ∧ x172.2.2.2 < ((a0.Joints.length : Nat) : Int)) <|
 .call (azd x172.1 x172.2.1 6) [(0, 1)] fun y202 =>
 .br (y202.1 == 0)
 (.conv 10002 (ezu 1 az0 ([(a0.Joints.getD ((x172.2.2.2).toNat) default).Lo] : (List Int)) 2) <|
 .conv 10003 (gzg 1 az0 x172.2.2.1 ([(a0.Joints.getD ((x172.2.2.2).toNat) default).Lo] : (List Int)) 2) <|
 .grd ((x172.2.2.1.length + ([(a0.Joints.getD ((x172.2.2.2).toNat) default).Lo] : (List Int)).length) * 8 ≤ 140737488355328 ∧ (x172.2.2.1.length + ([(a0.Joints.getD ((x172.2.2.2).toNat) default).Lo] : (List Int)).length) ≤ maxLen) <|
 .ret (.out (y202.2.1, y202.2.2, (x172.2.2.1 ++ ([(a0.Joints.getD ((x172.2.2.2).toNat) default).Lo] : (List Int))))))
 (.br (y202.1 == 1)
 (.conv 12002 (ezu 1 az0 ([(a0.Joints.getD ((x172.2.2.2).toNat) default).Hi] : (List Int)) 2) <|
 .conv 12003 (gzg 1 az0 x172.2.2.1 ([(a0.Joints.getD ((x172.2.2.2).toNat) default).Hi] : (List Int)) 2) <|
 .grd ((x172.2.2.1.length + ([(a0.Joints.getD ((x172.2.2.2).toNat) default).Hi] : (List Int)).length) * 8 ≤ 140737488355328 ∧ (x172.2.2.1.length + ([(a0.Joints.getD ((x172.2.2.2).toNat) default).Hi] : (List Int)).length) ≤ maxLen) <|
 .ret (.out (y202.2.1, y202.2.2, (x172.2.2.1 ++ ([(a0.Joints.getD ((x172.2.2.2).toNat) default).Hi] : (List Int))))))
 (.name 8005 ((IntKind.i64.wrap (((a0.Joints.getD ((x172.2.2.2).toNat) default).Hi) - ((a0.Joints.getD ((x172.2.2.2).toNat) default).Lo)))) fun z203 =>
 .name 8006 ((IntKind.i64.wrap (z203 + 1))) fun z204 =>
 .call (azd y202.2.1 y202.2.2 z204) [(0, 1)] fun y205 =>
 .conv 8009 (ezu 1 az0 ([(IntKind.i64.wrap (((a0.Joints.getD ((x172.2.2.2).toNat) default).Lo) + y205.1))] : (List Int)) 2) <|
 .conv 8010 (gzg 1 az0 x172.2.2.1 ([(IntKind.i64.wrap (((a0.Joints.getD ((x172.2.2.2).toNat) default).Lo) + y205.1))] : (List Int)) 2) <|
 .grd ((x172.2.2.1.length + ([(IntKind.i64.wrap (((a0.Joints.getD ((x172.2.2.2).toNat) default).Lo) + y205.1))] : (List Int)).length) * 8 ≤ 140737488355328 ∧ (x172.2.2.1.length + ([(IntKind.i64.wrap (((a0.Joints.getD ((x172.2.2.2).toNat) default).Lo) + y205.1))] : (List Int)).length) ≤ maxLen) <|
 .ret (.out (y205.2.1, y205.2.2, (x172.2.2.1 ++ ([(IntKind.i64.wrap (((a0.Joints.getD ((x172.2.2.2).toNat) default).Lo) + y205.1))] : (List Int)))))))) fun y200 =>
 .ret (.next (y200.1, y200.2.1, y200.2.2, (IntKind.i64.wrap (x172.2.2.2 + 1)))))
 (.ret (.out x172.2.2.1)))
 (y103.1, y103.2, nl, 0) [] fun y189 =>
 .ret y189
noncomputable def kzm (a0 : az8) (a1 : (List Int)) : CallS (List Int) :=
  mkC [] hd Tryz.func28 (by kernel_rfl) (nzm a0 a1) 0 [.pure (azw a0), .pure (encL 1 az0 a1)] [] (fun _ => .vec 0) (fun r => [(0, vecO 1 az0 r 2)]) (by kernel_rfl)
noncomputable def mz6 (a0 : az8) (a1 : Int) (a2 : (List Int)) : T (List (List Int)) :=
 .call (fzn a2) [] fun y2 =>
 .loop (fun (x159 : ((List Int) × Int × (List (List Int)) × Int)) => ⟨[(1, pz a1), (3, .ptr 0 0), (7, .ptr 1 0), (8, .vec 2), (9, pz x159.2.2.2)], [(0, .box [.pure (encL 12 az9 a0.Joints), .pure (encL 5 azb a0.Masses)]), (1, .box [.pure (encL 1 az0 x159.1), pz x159.2.1]), (2, vecO 1 (encL 1 az0) x159.2.2.1 40)], [], 3⟩)
 (.exit 0) (fun (y198 : (List (List Int))) => ⟨[(8, .vec 0)], [(0, vecO 1 (encL 1 az0) y198 40)], [], 1⟩)
 (fun x159 => .br (decide (x159.2.2.2 < a1))
 (.loop (fun (x230 : ((List Int) × Int × (List Int) × Int)) => ⟨[(1, pz a1), (3, .ptr 0 0), (7, .ptr 1 0), (8, .vec 2), (9, pz x159.2.2.2), (10, .vec 3), (11, pz x230.2.2.2)], [(0, .box [.pure (encL 12 az9 a0.Joints), .pure (encL 5 azb a0.Masses)]), (1, .box [.pure (encL 1 az0 x230.1), pz x230.2.1]), (2, vecO 1 (encL 1 az0) x159.2.2.1 40), (3, vecO 1 az0 x230.2.2.1 3)], [], 4⟩)
 (.exit 2) (fun (y233 : ((List Int) × Int × (List Int))) => ⟨[(1, pz a1), (3, .ptr 0 0), (7, .ptr 1 0), (8, .vec 2), (9, pz x159.2.2.2), (10, .vec 3)], [(0, .box [.pure (encL 12 az9 a0.Joints), .pure (encL 5 azb a0.Masses)]), (1, .box [.pure (encL 1 az0 y233.1), pz y233.2.1]), (2, vecO 1 (encL 1 az0) x159.2.2.1 40), (3, vecO 1 az0 y233.2.2 3)], [], 4⟩)
 (fun x230 => .br (decide (x230.2.2.2 < (IntKind.i64.wrap (2 * ((a0.Joints.length : Nat) : Int)))))
 (.call (azd x230.1 x230.2.1 1048576) [(0, 1)] fun y235 =>
 .conv 10003 (ezu 1 az0 ([y235.1] : (List Int)) 3) <|
 .conv 10004 (gzg 1 az0 x230.2.2.1 ([y235.1] : (List Int)) 3) <|
 .grd ((x230.2.2.1.length + ([y235.1] : (List Int)).length) * 8 ≤ 140737488355328 ∧ (x230.2.2.1.length + ([y235.1] : (List Int)).length) ≤ maxLen) <|
 .ret (.next (y235.2.1, y235.2.2, (x230.2.2.1 ++ ([y235.1] : (List Int))), (IntKind.i64.wrap (x230.2.2.2 + 1)))))
 (.ret (.out (x230.1, x230.2.1, x230.2.2.1))))
 (x159.1, x159.2.1, nl, 0) [] fun y233 =>
 .call (kzm a0 y233.2.2) [] fun y236 =>
 .conv 11004 (ezu 1 (encL 1 az0) ([y236] : (List (List Int))) 40) <|
 .conv 11005 (gzg 1 (encL 1 az0) x159.2.2.1 ([y236] : (List (List Int))) 40) <|
 .grd ((x159.2.2.1.length + ([y236] : (List (List Int))).length) * 24 ≤ 140737488355328 ∧ (x159.2.2.1.length + ([y236] : (List (List Int))).length) ≤ maxLen) <|
 .ret (.next (y233.1, y233.2.1, (x159.2.2.1 ++ ([y236] : (List (List Int)))), (IntKind.i64.wrap (x159.2.2.2 + 1)))))
 (.ret (.out x159.2.2.1)))
 (y2.1, y2.2, nl, 0) [] fun y198 =>
 .ret y198
noncomputable def qza (a0 : az8) (a1 : Int) (a2 : (List Int)) : CallS (List (List Int)) :=
  mkC [] hd Tryz.func17 (by kernel_rfl) (mz6 a0 a1 a2) 0 [.pure (azw a0), pz a1, .pure (encL 1 az0 a2)] [] (fun _ => .vec 0) (fun r => [(0, vecO 1 (encL 1 az0) r 40)]) (by kernel_rfl)
noncomputable def qzw (a0 : ByteArray) : T Bool :=
 .cut 2 (fun (y2 : Bool) => ⟨[(0, .pure (.str a0)), (16, .pure (.bool y2))], [], [], 0⟩)
 (.br (decide (((a0.size : Nat) : Int) < 1))
 (.ret (.out true))
 (.br (decide (((a0.size : Nat) : Int) > 16))
 (.ret (.out true))
 (.ret (.out (a0 == (⟨#[119, 111, 114, 108, 100]⟩ : ByteArray)))))) fun y2 =>
 .br y2
 (.ret false)
 (.loop (fun (x23 : Int) => ⟨[(0, .pure (.str a0)), (3, pz x23)], [], [], 0⟩)
 (.exit 0) (fun (_ : U0) => ⟨[], [], [], 0⟩)
 (fun x23 => .br (decide (x23 < ((a0.size : Nat) : Int)))
 (.cut 1 (fun (y31 : Bool) => ⟨[(0, .pure (.str a0)), (3, pz x23), (4, .pure (.bool y31))], [], [], 0⟩)
 (.grd (0 ≤ x23 ∧ x23 < ((a0.size : Nat) : Int)) <|
 .br (decide (((a0.data.getD (x23).toNat 0).toNat : Int) ≥ 97))
 (.grd (0 ≤ x23 ∧ x23 < ((a0.size : Nat) : Int)) <|
 .ret (.out (decide (((a0.data.getD (x23).toNat 0).toNat : Int) ≤ 122))))
 (.ret (.out false))) fun y31 =>
 .cut 0 (fun (y32 : Bool) => ⟨[(0, .pure (.str a0)), (3, pz x23), (56, .pure (.bool y32))], [], [], 0⟩)
 (.br (!y31)
 (.br (x23 == 0)
 (.ret (.out true))
 (.grd (0 ≤ x23 ∧ x23 < ((a0.size : Nat) : Int)) <|
 .br (((a0.data.getD (x23).toNat 0).toNat : Int) != 95)
 (.grd (0 ≤ x23 ∧ x23 < ((a0.size : Nat) : Int)) <|
 .br (decide (((a0.data.getD (x23).toNat 0).toNat : Int) < 48))
 (.ret (.out true))
 (.grd (0 ≤ x23 ∧ x23 < ((a0.size : Nat) : Int)) <|
 .ret (.out (decide (((a0.data.getD (x23).toNat 0).toNat : Int) > 57)))))
 (.ret (.out false))))
 (.ret (.out false))) fun y32 =>
 .br y32
 (.ret (.fin false))
 (.ret (.next (IntKind.i64.wrap (x23 + 1)))))
 (.ret (.out .u)))
 0 [] fun _ =>
 .ret true)
noncomputable def uzx (a0 : ByteArray) : CallS Bool :=
  mkC [] hd Tryz.func135 (by kernel_rfl) (qzw a0) 0 [.pure (.str a0)] [] (fun r => .pure (.bool r)) (fun _ => []) (by kernel_rfl)
open Go.Proofs
noncomputable def qzy (a0 : (Int × Int × Int)) (a1 : Int) : T Bool :=
 .unroll 4 <|
 .known true <|
 .cut 1 (fun (y16 : Bool) => ⟨[(1, pz a1), (2, .ptr 0 0), (5, pz 0), (22, .pure (.bool y16))], [(0, .box [pz a0.1, pz a0.2.1, pz a0.2.2])], [], 1⟩)
 (.ix 0 3 rfl <|
 .br (decide (a0.1 < (IntKind.i64.wrap (0 - a1))))
 (.ret (.out true))
 (.ix 0 3 rfl <|
 .ret (.out (decide (a0.1 > a1))))) fun y16 =>
 .br y16
 (.ret false)
 (.lit 3001 (1) <|
 .known true <|
 .cut 1 (fun (y18 : Bool) => ⟨[(1, pz a1), (2, .ptr 0 0), (5, pz 1), (22, .pure (.bool y18))], [(0, .box [pz a0.1, pz a0.2.1, pz a0.2.2])], [], 1⟩)
 (.ix 1 3 rfl <|
 .br (decide (a0.2.1 < (IntKind.i64.wrap (0 - a1))))
 (.ret (.out true))
 (.ix 1 3 rfl <|
 .ret (.out (decide (a0.2.1 > a1))))) fun y18 =>
 .br y18
 (.ret false)
 (.lit 3001 (2) <|
 .known true <|
 .cut 1 (fun (y20 : Bool) => ⟨[(1, pz a1), (2, .ptr 0 0), (5, pz 2), (22, .pure (.bool y20))], [(0, .box [pz a0.1, pz a0.2.1, pz a0.2.2])], [], 1⟩)
 (.ix 2 3 rfl <|
 .br (decide (a0.2.2 < (IntKind.i64.wrap (0 - a1))))
 (.ret (.out true))
 (.ix 2 3 rfl <|
 .ret (.out (decide (a0.2.2 > a1))))) fun y20 =>
 .br y20
 (.ret false)
 (.lit 3001 (3) <|
 .known false <|
 .ret true)))
noncomputable def qzx (a0 : (Int × Int × Int)) (a1 : Int) : CallS Bool :=
  mkC [] hd Tryz.func92 (by kernel_rfl) (qzy a0 a1) 0 [.pure (azg a0), pz a1] [] (fun r => .pure (.bool r)) (fun _ => []) (by kernel_rfl)
noncomputable def pzd (a0 : Int) : T Int :=
 .br (a0 == 0)
 (.ret 0)
 (.cut 0 (fun (y2 : Bool) => ⟨[(6, .pure (.bool y2))], [], [], 0⟩)
 (.br (a0 == 1)
 (.ret (.out (a0 == 1)))
 (.br (a0 == 2)
 (.ret (.out (a0 == 2)))
 (.ret (.out (a0 == 3))))) fun y2 =>
 .br y2
 (.ret 524288)
 (.ret 4194304))
noncomputable def tz3 (a0 : Int) : CallS Int :=
  mkC [] hd Tryz.func136 (by kernel_rfl) (pzd a0) 0 [pz a0] [] (fun r => pz r) (fun _ => []) (by kernel_rfl)
noncomputable def mzf (a0 : Int) (a1 : Int) (a2 : Int) : T Bool :=
 .br (decide (a1 ≤ a0))
 (.ret (decide (a0 ≤ a2)))
 (.ret false)
noncomputable def fzx (a0 : Int) (a1 : Int) (a2 : Int) : CallS Bool :=
  mkC [] hd Tryz.func91 (by kernel_rfl) (mzf a0 a1 a2) 0 [pz a0, pz a1, pz a2] [] (fun r => .pure (.bool r)) (fun _ => []) (by kernel_rfl)
set_option maxHeartbeats 8000000 in
set_option maxRecDepth 20000 in
noncomputable def jz6 (a0 : (List azj)) (a1 : Int) : T Int :=
 .grd (0 ≤ a1 ∧ a1 < ((a0.length : Nat) : Int)) <|
 .call (uzx ((a0.getD ((a1).toNat) default).Name)) [] fun y4 =>
 .br (!y4)
 (.ret 802)
 (.loop (fun (x9 : Int) => ⟨[(0, .pure (encL 12 az9 a0)), (1, pz a1), (5, .ptr 0 0), (6, pz x9)], [(0, .box [.pure (.str ((a0.getD ((a1).toNat) default).Name)), pz ((a0.getD ((a1).toNat) default).Kind), pz ((a0.getD ((a1).toNat) default).Parent), pz ((a0.getD ((a1).toNat) default).Offset.1), pz ((a0.getD ((a1).toNat) default).Offset.2.1), pz ((a0.getD ((a1).toNat) default).Offset.2.2), pz ((a0.getD ((a1).toNat) default).Lo), pz ((a0.getD ((a1).toNat) default).Hi), pz ((a0.getD ((a1).toNat) default).Weight), pz ((a0.getD ((a1).toNat) default).Speed), pz ((a0.getD ((a1).toNat) default).Accel), pz ((a0.getD ((a1).toNat) default).Torque)])], [], 1⟩)
 (.exit 0) (fun (_ : U0) => ⟨[(1, pz a1), (5, .ptr 0 0)], [(0, .box [.pure (.str ((a0.getD ((a1).toNat) default).Name)), pz ((a0.getD ((a1).toNat) default).Kind), pz ((a0.getD ((a1).toNat) default).Parent), pz ((a0.getD ((a1).toNat) default).Offset.1), pz ((a0.getD ((a1).toNat) default).Offset.2.1), pz ((a0.getD ((a1).toNat) default).Offset.2.2), pz ((a0.getD ((a1).toNat) default).Lo), pz ((a0.getD ((a1).toNat) default).Hi), pz ((a0.getD ((a1).toNat) default).Weight), pz ((a0.getD ((a1).toNat) default).Speed), pz ((a0.getD ((a1).toNat) default).Accel), pz ((a0.getD ((a1).toNat) default).Torque)])], [], 1⟩)
 (fun x9 => .br (decide (x9 < a1))
 (.grd (0 ≤ x9 ∧ x9 < ((a0.length : Nat) : Int)) <|
 .br (((a0.getD ((x9).toNat) default).Name) == ((a0.getD ((a1).toNat) default).Name))
 (.ret (.fin 802))
 (.ret (.next (IntKind.i64.wrap (x9 + 1)))))
 (.ret (.out .u)))
 0 [] fun _ =>
 .cut 1 (fun (y12 : Bool) => ⟨[(1, pz a1), (5, .ptr 0 0), (36, .pure (.bool y12))], [(0, .box [.pure (.str ((a0.getD ((a1).toNat) default).Name)), pz ((a0.getD ((a1).toNat) default).Kind), pz ((a0.getD ((a1).toNat) default).Parent), pz ((a0.getD ((a1).toNat) default).Offset.1), pz ((a0.getD ((a1).toNat) default).Offset.2.1), pz ((a0.getD ((a1).toNat) default).Offset.2.2), pz ((a0.getD ((a1).toNat) default).Lo), pz ((a0.getD ((a1).toNat) default).Hi), pz ((a0.getD ((a1).toNat) default).Weight), pz ((a0.getD ((a1).toNat) default).Speed), pz ((a0.getD ((a1).toNat) default).Accel), pz ((a0.getD ((a1).toNat) default).Torque)])], [], 1⟩)
 (.br (decide (((a0.getD ((a1).toNat) default).Kind) < 0))
 (.ret (.out true))
 (.ret (.out (decide (((a0.getD ((a1).toNat) default).Kind) > 6))))) fun y12 =>
 .br y12
 (.ret 803)
 (.cut 1 (fun (y14 : Bool) => ⟨[(5, .ptr 0 0), (45, .pure (.bool y14))], [(0, .box [.pure (.str ((a0.getD ((a1).toNat) default).Name)), pz ((a0.getD ((a1).toNat) default).Kind), pz ((a0.getD ((a1).toNat) default).Parent), pz ((a0.getD ((a1).toNat) default).Offset.1), pz ((a0.getD ((a1).toNat) default).Offset.2.1), pz ((a0.getD ((a1).toNat) default).Offset.2.2), pz ((a0.getD ((a1).toNat) default).Lo), pz ((a0.getD ((a1).toNat) default).Hi), pz ((a0.getD ((a1).toNat) default).Weight), pz ((a0.getD ((a1).toNat) default).Speed), pz ((a0.getD ((a1).toNat) default).Accel), pz ((a0.getD ((a1).toNat) default).Torque)])], [], 1⟩)
 (.br (decide (((a0.getD ((a1).toNat) default).Parent) < (-1)))
 (.ret (.out true))
 (.ret (.out (decide (((a0.getD ((a1).toNat) default).Parent) ≥ a1))))) fun y14 =>
 .br y14
 (.ret 804)
 (.call (qzx ((a0.getD ((a1).toNat) default).Offset) 4194304) [] fun y18 =>
 .br (!y18)
 (.ret 805)
 (.call (tz3 ((a0.getD ((a1).toNat) default).Kind)) [] fun y23 =>
 .cut 0 (fun (y24 : Bool) => ⟨[(5, .ptr 0 0), (70, .pure (.bool y24))], [(0, .box [.pure (.str ((a0.getD ((a1).toNat) default).Name)), pz ((a0.getD ((a1).toNat) default).Kind), pz ((a0.getD ((a1).toNat) default).Parent), pz ((a0.getD ((a1).toNat) default).Offset.1), pz ((a0.getD ((a1).toNat) default).Offset.2.1), pz ((a0.getD ((a1).toNat) default).Offset.2.2), pz ((a0.getD ((a1).toNat) default).Lo), pz ((a0.getD ((a1).toNat) default).Hi), pz ((a0.getD ((a1).toNat) default).Weight), pz ((a0.getD ((a1).toNat) default).Speed), pz ((a0.getD ((a1).toNat) default).Accel), pz ((a0.getD ((a1).toNat) default).Torque)])], [], 1⟩)
 (.br (decide (((a0.getD ((a1).toNat) default).Lo) > ((a0.getD ((a1).toNat) default).Hi)))
 (.ret (.out true))
 (.br (decide (((a0.getD ((a1).toNat) default).Lo) < (IntKind.i64.wrap (0 - y23))))
 (.ret (.out true))
 (.ret (.out (decide (((a0.getD ((a1).toNat) default).Hi) > y23)))))) fun y24 =>
 .br y24
 (.ret 806)
 (.cut 1 (fun (y46 : Bool) => ⟨[(92, .pure (.bool y46))], [], [], 0⟩)
 (.call (fzx ((a0.getD ((a1).toNat) default).Weight) 1 1024) [] fun y47 =>
 .br (!y47)
 (.ret (.out true))
 (.call (fzx ((a0.getD ((a1).toNat) default).Speed) 1 1048576) [] fun y48 =>
 .br (!y48)
 (.ret (.out true))
 (.call (fzx ((a0.getD ((a1).toNat) default).Accel) 1 1048576) [] fun y49 =>
 .br (!y49)
 (.ret (.out true))
 (.call (fzx ((a0.getD ((a1).toNat) default).Torque) 1 1099511627776) [] fun y50 =>
 .ret (.out (!y50)))))) fun y46 =>
 .br y46
 (.ret 807)
 (.ret 0))))))
noncomputable def mzz (a0 : (List azj)) (a1 : Int) : CallS Int :=
  mkC [] hd Tryz.func90 (by kernel_rfl) (jz6 a0 a1) 0 [.pure (encL 12 az9 a0), pz a1] [] (fun r => pz r) (fun _ => []) (by kernel_rfl)
noncomputable def jz5 (a0 : az8) : T Int :=
 .cut 2 (fun (y2 : Bool) => ⟨[(1, .ptr 0 0), (16, .pure (.bool y2))], [(0, .box [.pure (encL 12 az9 a0.Joints), .pure (encL 5 azb a0.Masses)])], [], 1⟩)
 (.br (decide (((a0.Joints.length : Nat) : Int) < 1))
 (.ret (.out true))
 (.ret (.out (decide (((a0.Joints.length : Nat) : Int) > 10))))) fun y2 =>
 .br y2
 (.ret 801)
 (.loop (fun (x23 : Int) => ⟨[(1, .ptr 0 0), (3, pz x23)], [(0, .box [.pure (encL 12 az9 a0.Joints), .pure (encL 5 azb a0.Masses)])], [], 1⟩)
 (.exit 0) (fun (_ : U0) => ⟨[(1, .ptr 0 0)], [(0, .box [.pure (encL 12 az9 a0.Joints), .pure (encL 5 azb a0.Masses)])], [], 1⟩)
 (fun x23 => .br (decide (x23 < ((a0.Joints.length : Nat) : Int)))
 (.call (mzz a0.Joints x23) [] fun y32 =>
 .br (y32 != 0)
 (.ret (.fin y32))
 (.ret (.next (IntKind.i64.wrap (x23 + 1)))))
 (.ret (.out .u)))
 0 [] fun _ =>
 .br (decide (((a0.Masses.length : Nat) : Int) > 32))
 (.ret 808)
 (.loop (fun (x93 : Int) => ⟨[(1, .ptr 0 0), (5, pz x93)], [(0, .box [.pure (encL 12 az9 a0.Joints), .pure (encL 5 azb a0.Masses)])], [], 1⟩)
 (.exit 2) (fun (_ : U0) => ⟨[], [], [], 0⟩)
 (fun x93 => .br (decide (x93 < ((a0.Masses.length : Nat) : Int)))
 (.grd (0 ≤ x93 ∧ x93 < ((a0.Masses.length : Nat) : Int)) <|
 .cut 0 (fun (y120 : Bool) => ⟨[(1, .ptr 0 0), (5, pz x93), (69, .pure (.bool y120))], [(0, .box [.pure (encL 12 az9 a0.Joints), .pure (encL 5 azb a0.Masses)])], [], 1⟩)
 (.br (decide (((a0.Masses.getD ((x93).toNat) default).Link) < 0))
 (.ret (.out true))
 (.br (decide (((a0.Masses.getD ((x93).toNat) default).Link) ≥ ((a0.Joints.length : Nat) : Int)))
 (.ret (.out true))
 (.call (fzx ((a0.Masses.getD ((x93).toNat) default).Mass) 1 65536) [] fun y121 =>
 .br (!y121)
 (.ret (.out true))
 (.call (qzx ((a0.Masses.getD ((x93).toNat) default).Point) 4194304) [] fun y122 =>
 .ret (.out (!y122)))))) fun y120 =>
 .br y120
 (.ret (.fin 808))
 (.ret (.next (IntKind.i64.wrap (x93 + 1)))))
 (.ret (.out .u)))
 0 [] fun _ =>
 .ret 0))
noncomputable def fzc (a0 : az8) : CallS Int :=
  mkC [] hd Tryz.func44 (by kernel_rfl) (jz5 a0) 0 [.pure (azw a0)] [] (fun r => pz r) (fun _ => []) (by kernel_rfl)
noncomputable def nzq (a0 : (List Int)) : T Bool :=
 .loop (fun (x13 : Int) => ⟨[(0, .pure (encL 1 az0 a0)), (3, pz x13)], [], [], 0⟩)
 (.exit 0) (fun (_ : U0) => ⟨[], [], [], 0⟩)
 (fun x13 => .br (decide (x13 < ((a0.length : Nat) : Int)))
 (.cut 1 (fun (y18 : Bool) => ⟨[(0, .pure (encL 1 az0 a0)), (3, pz x13), (21, .pure (.bool y18))], [], [], 0⟩)
 (.grd (0 ≤ x13 ∧ x13 < ((a0.length : Nat) : Int)) <|
 .br (decide ((a0.getD ((x13).toNat) default) < (-2147483648)))
 (.ret (.out true))
 (.grd (0 ≤ x13 ∧ x13 < ((a0.length : Nat) : Int)) <|
 .ret (.out (decide ((a0.getD ((x13).toNat) default) > 2147483648))))) fun y18 =>
 .br y18
 (.ret (.fin false))
 (.ret (.next (IntKind.i64.wrap (x13 + 1)))))
 (.ret (.out .u)))
 0 [] fun _ =>
 .ret true
noncomputable def nzp (a0 : (List Int)) : CallS Bool :=
  mkC [] hd Tryz.func94 (by kernel_rfl) (nzq a0) 0 [.pure (encL 1 az0 a0)] [] (fun r => .pure (.bool r)) (fun _ => []) (by kernel_rfl)
noncomputable def kz5 (a0 : az8) (a1 : (List Int)) (a2 : (List Int)) : T Int :=
 .cut 2 (fun (y55 : Bool) => ⟨[(1, .pure (encL 1 az0 a1)), (2, .pure (encL 1 az0 a2)), (3, .ptr 0 0), (36, .pure (.bool y55))], [(0, .box [.pure (encL 12 az9 a0.Joints), .pure (encL 5 azb a0.Masses)])], [], 1⟩)
 (.call (fzc (⟨a0.Joints, a0.Masses⟩ : az8)) [] fun y56 =>
 .br (y56 != 0)
 (.ret (.out true))
 (.call (nzp a1) [] fun y57 =>
 .br (!y57)
 (.ret (.out true))
 (.call (nzp a2) [] fun y58 =>
 .br (!y58)
 (.ret (.out true))
 (.br (((a1.length : Nat) : Int) != ((a0.Joints.length : Nat) : Int))
 (.ret (.out true))
 (.ret (.out (((a2.length : Nat) : Int) != ((a1.length : Nat) : Int)))))))) fun y55 =>
 .br y55
 (.ret 0)
 (.loop (fun (x71 : (Int × Int)) => ⟨[(1, .pure (encL 1 az0 a1)), (2, .pure (encL 1 az0 a2)), (3, .ptr 0 0), (7, pz x71.1), (8, pz x71.2)], [(0, .box [.pure (encL 12 az9 a0.Joints), .pure (encL 5 azb a0.Masses)])], [], 1⟩)
 (.exit 0) (fun (y74 : Int) => ⟨[(7, pz y74)], [], [], 0⟩)
 (fun x71 => .br (decide (x71.2 < ((a1.length : Nat) : Int)))
 (.grd (0 ≤ x71.2 ∧ x71.2 < ((a0.Joints.length : Nat) : Int)) <|
 .grd (0 ≤ x71.2 ∧ x71.2 < ((a1.length : Nat) : Int)) <|
 .grd (0 ≤ x71.2 ∧ x71.2 < ((a2.length : Nat) : Int)) <|
 .grd (0 ≤ x71.2 ∧ x71.2 < ((a2.length : Nat) : Int)) <|
 .grd (0 ≤ x71.2 ∧ x71.2 < ((a1.length : Nat) : Int)) <|
 .name 7025 ((max (IntKind.i64.wrap ((a1.getD ((x71.2).toNat) default) - (a2.getD ((x71.2).toNat) default))) (IntKind.i64.wrap ((a2.getD ((x71.2).toNat) default) - (a1.getD ((x71.2).toNat) default))))) fun z76 =>
 .ret (.next ((IntKind.i64.wrap (x71.1 + (IntKind.i64.wrap (((a0.Joints.getD ((x71.2).toNat) default).Weight) * z76)))), (IntKind.i64.wrap (x71.2 + 1)))))
 (.ret (.out x71.1)))
 (0, 0) [] fun y74 =>
 .ret y74)
noncomputable def czx (a0 : az8) (a1 : (List Int)) (a2 : (List Int)) : CallS Int :=
  mkC [] hd Tryz.func48 (by kernel_rfl) (kz5 a0 a1 a2) 0 [.pure (azw a0), .pure (encL 1 az0 a1), .pure (encL 1 az0 a2)] [] (fun r => pz r) (fun _ => []) (by kernel_rfl)
noncomputable def mzc (a0 : aza) (a1 : Int) (a2 : Int) : T Int :=
 .loop (fun (x13 : Int) => ⟨[(1, pz a1), (2, pz a2), (3, .ptr 0 0), (7, pz x13)], [(0, .box [.pure (encL 1 (encL 1 az0) a0.Points), .pure (encL 12 az2 a0.Edges)])], [], 1⟩)
 (.exit 0) (fun (_ : U0) => ⟨[], [], [], 0⟩)
 (fun x13 => .br (decide (x13 < ((a0.Edges.length : Nat) : Int)))
 (.cut 1 (fun (y18 : Bool) => ⟨[(1, pz a1), (2, pz a2), (3, .ptr 0 0), (7, pz x13), (36, .pure (.bool y18))], [(0, .box [.pure (encL 1 (encL 1 az0) a0.Points), .pure (encL 12 az2 a0.Edges)])], [], 1⟩)
 (.grd (0 ≤ x13 ∧ x13 < ((a0.Edges.length : Nat) : Int)) <|
 .br (((a0.Edges.getD ((x13).toNat) default).U) == (min a1 a2))
 (.grd (0 ≤ x13 ∧ x13 < ((a0.Edges.length : Nat) : Int)) <|
 .ret (.out (((a0.Edges.getD ((x13).toNat) default).V) == (max a1 a2))))
 (.ret (.out false))) fun y18 =>
 .br y18
 (.ret (.fin x13))
 (.ret (.next (IntKind.i64.wrap (x13 + 1)))))
 (.ret (.out .u)))
 0 [] fun _ =>
 .ret (-1)
noncomputable def mzb (a0 : aza) (a1 : Int) (a2 : Int) : CallS Int :=
  mkC [] hd Tryz.func26 (by kernel_rfl) (mzc a0 a1 a2) 0 [.pure (bzr a0), pz a1, pz a2] [] (fun r => pz r) (fun _ => []) (by kernel_rfl)
noncomputable def mz9 (a0 : az8) (a1 : (List Int)) : T Bool :=
 .cut 2 (fun (y7 : Bool) => ⟨[(1, .pure (encL 1 az0 a1)), (2, .ptr 0 0), (16, .pure (.bool y7))], [(0, .box [.pure (encL 12 az9 a0.Joints), .pure (encL 5 azb a0.Masses)])], [], 1⟩)
 (.call (fzc a0) [] fun y8 =>
 .br (y8 != 0)
 (.ret (.out true))
 (.ret (.out (((a1.length : Nat) : Int) != ((a0.Joints.length : Nat) : Int))))) fun y7 =>
 .br y7
 (.ret false)
 (.loop (fun (x21 : Int) => ⟨[(1, .pure (encL 1 az0 a1)), (2, .ptr 0 0), (5, pz x21)], [(0, .box [.pure (encL 12 az9 a0.Joints), .pure (encL 5 azb a0.Masses)])], [], 1⟩)
 (.exit 0) (fun (_ : U0) => ⟨[], [], [], 0⟩)
 (fun x21 => .br (decide (x21 < ((a1.length : Nat) : Int)))
 (.cut 1 (fun (y26 : Bool) => ⟨[(1, .pure (encL 1 az0 a1)), (2, .ptr 0 0), (5, pz x21), (46, .pure (.bool y26))], [(0, .box [.pure (encL 12 az9 a0.Joints), .pure (encL 5 azb a0.Masses)])], [], 1⟩)
 (.grd (0 ≤ x21 ∧ x21 < ((a1.length : Nat) : Int)) <|
 .grd (0 ≤ x21 ∧ x21 < ((a0.Joints.length : Nat) : Int)) <|
 .br (decide ((a1.getD ((x21).toNat) default) < ((a0.Joints.getD ((x21).toNat) default).Lo)))
 (.ret (.out true))
 (.grd (0 ≤ x21 ∧ x21 < ((a1.length : Nat) : Int)) <|
 .grd (0 ≤ x21 ∧ x21 < ((a0.Joints.length : Nat) : Int)) <|
 .ret (.out (decide ((a1.getD ((x21).toNat) default) > ((a0.Joints.getD ((x21).toNat) default).Hi)))))) fun y26 =>
 .br y26
 (.ret (.fin false))
 (.ret (.next (IntKind.i64.wrap (x21 + 1)))))
 (.ret (.out .u)))
 0 [] fun _ =>
 .ret true)
noncomputable def jzd (a0 : az8) (a1 : (List Int)) : CallS Bool :=
  mkC [] hd Tryz.func46 (by kernel_rfl) (mz9 a0 a1) 0 [.pure (azw a0), .pure (encL 1 az0 a1)] [] (fun r => .pure (.bool r)) (fun _ => []) (by kernel_rfl)
noncomputable def iz5 (a0 : (List Int)) (a1 : (List Int)) : T Bool :=
 .br (((a0.length : Nat) : Int) != ((a1.length : Nat) : Int))
 (.ret false)
 (.loop (fun (x5 : Int) => ⟨[(0, .pure (encL 1 az0 a0)), (1, .pure (encL 1 az0 a1)), (5, pz x5)], [], [], 0⟩)
 (.exit 0) (fun (_ : U0) => ⟨[], [], [], 0⟩)
 (fun x5 => .br (decide (x5 < ((a0.length : Nat) : Int)))
 (.grd (0 ≤ x5 ∧ x5 < ((a0.length : Nat) : Int)) <|
 .grd (0 ≤ x5 ∧ x5 < ((a1.length : Nat) : Int)) <|
 .br ((a0.getD ((x5).toNat) default) != (a1.getD ((x5).toNat) default))
 (.ret (.fin false))
 (.ret (.next (IntKind.i64.wrap (x5 + 1)))))
 (.ret (.out .u)))
 0 [] fun _ =>
 .ret true)
noncomputable def iz4 (a0 : (List Int)) (a1 : (List Int)) : CallS Bool :=
  mkC [] hd Tryz.func93 (by kernel_rfl) (iz5 a0 a1) 0 [.pure (encL 1 az0 a0), .pure (encL 1 az0 a1)] [] (fun r => .pure (.bool r)) (fun _ => []) (by kernel_rfl)
noncomputable def lza (a0 : (List (List Int))) (a1 : (List Int)) : T Int :=
 .loop (fun (x21 : Int) => ⟨[(0, .vec 0), (1, .pure (encL 1 az0 a1)), (5, pz x21)], [(0, vecO 1 (encL 1 az0) a0 40)], [], 1⟩)
 (.exit 0) (fun (_ : U0) => ⟨[], [(0, vecO 1 (encL 1 az0) a0 40)], [], 1⟩)
 (fun x21 => .br (decide (x21 < ((a0.length : Nat) : Int)))
 (.grd (0 ≤ x21 ∧ x21 < ((a0.length : Nat) : Int)) <|
 .grd ((x21).toNat < a0.length) <|
 .call (iz4 (a0.getD ((x21).toNat) default) a1) [] fun y30 =>
 .br y30
 (.ret (.fin x21))
 (.ret (.next (IntKind.i64.wrap (x21 + 1)))))
 (.ret (.out .u)))
 0 [] fun _ =>
 .ret (-1)
noncomputable def pzb (a0 : (List (List Int))) (a1 : (List Int)) : CallS Int :=
  mkC [] hd Tryz.func47 (by kernel_rfl) (lza a0 a1) 1 [.vec 0, .pure (encL 1 az0 a1)] [(0, vecO 1 (encL 1 az0) a0 40)] (fun r => pz r) (fun _ => [(0, vecO 1 (encL 1 az0) a0 40)]) (by kernel_rfl)
noncomputable def izm (a0 : az8) (a1 : (List (List Int))) (a2 : (List Int)) (a3 : Int) : T (List Int) :=
 .loop (fun (x357 : ((List Int) × Int)) => ⟨[(1, .vec 0), (2, .pure (encL 1 az0 a2)), (3, pz a3), (4, .ptr 1 0), (9, .vec 2), (10, pz x357.2)], [(0, vecO 1 (encL 1 az0) a1 40), (1, .box [.pure (encL 12 az9 a0.Joints), .pure (encL 5 azb a0.Masses)]), (2, vecO 1 az0 x357.1 3)], [], 3⟩)
 (.exit 0) (fun (y446 : (List Int)) => ⟨[(9, .vec 1)], [(0, vecO 1 (encL 1 az0) a1 40), (1, vecO 1 az0 y446 3)], [], 2⟩)
 (fun x357 => .br (decide (x357.2 < ((a1.length : Nat) : Int)))
 (.cut 0 (fun (y505 : (List Int)) => ⟨[(1, .vec 0), (2, .pure (encL 1 az0 a2)), (3, pz a3), (4, .ptr 1 0), (9, .vec 2), (10, pz x357.2)], [(0, vecO 1 (encL 1 az0) a1 40), (1, .box [.pure (encL 12 az9 a0.Joints), .pure (encL 5 azb a0.Masses)]), (2, vecO 1 az0 y505 3)], [], 3⟩)
 (.br (x357.2 == a3)
 (.ret (.out x357.1))
 (.conv 7002 (ezu 1 az0 ([x357.2] : (List Int)) 3) <|
 .conv 7003 (gzg 1 az0 x357.1 ([x357.2] : (List Int)) 3) <|
 .grd ((x357.1.length + ([x357.2] : (List Int)).length) * 8 ≤ 140737488355328 ∧ (x357.1.length + ([x357.2] : (List Int)).length) ≤ maxLen) <|
 .grd (0 ≤ x357.2 ∧ x357.2 < ((a1.length : Nat) : Int)) <|
 .grd ((x357.2).toNat < a1.length) <|
 .call (czx a0 (a1.getD ((x357.2).toNat) default) a2) [] fun y507 =>
 .loop (fun (x517 : ((List Int) × Int)) => ⟨[(1, .vec 0), (2, .pure (encL 1 az0 a2)), (3, pz a3), (4, .ptr 1 0), (9, .vec 2), (10, pz x357.2), (11, pz x517.2), (12, pz y507)], [(0, vecO 1 (encL 1 az0) a1 40), (1, .box [.pure (encL 12 az9 a0.Joints), .pure (encL 5 azb a0.Masses)]), (2, vecO 1 az0 x517.1 3)], [], 3⟩)
 (.exit 2) (fun (y526 : (List Int)) => ⟨[(1, .vec 0), (2, .pure (encL 1 az0 a2)), (3, pz a3), (4, .ptr 1 0), (9, .vec 2), (10, pz x357.2)], [(0, vecO 1 (encL 1 az0) a1 40), (1, .box [.pure (encL 12 az9 a0.Joints), .pure (encL 5 azb a0.Masses)]), (2, vecO 1 az0 y526 3)], [], 3⟩)
 (fun x517 => .cut 1 (fun (y533 : Bool) => ⟨[(1, .vec 0), (2, .pure (encL 1 az0 a2)), (3, pz a3), (4, .ptr 1 0), (9, .vec 2), (10, pz x357.2), (11, pz x517.2), (12, pz y507), (51, .pure (.bool y533))], [(0, vecO 1 (encL 1 az0) a1 40), (1, .box [.pure (encL 12 az9 a0.Joints), .pure (encL 5 azb a0.Masses)]), (2, vecO 1 az0 x517.1 3)], [], 3⟩)
 (.br (decide (x517.2 > 0))
 (.grd (0 ≤ (IntKind.i64.wrap (x517.2 - 1)) ∧ (IntKind.i64.wrap (x517.2 - 1)) < ((x517.1.length : Nat) : Int)) <|
 .grd (((IntKind.i64.wrap (x517.2 - 1))).toNat < x517.1.length) <|
 .grd (0 ≤ (x517.1.getD (((IntKind.i64.wrap (x517.2 - 1))).toNat) default) ∧ (x517.1.getD (((IntKind.i64.wrap (x517.2 - 1))).toNat) default) < ((a1.length : Nat) : Int)) <|
 .grd (((x517.1.getD (((IntKind.i64.wrap (x517.2 - 1))).toNat) default)).toNat < a1.length) <|
 .call (czx a0 (a1.getD (((x517.1.getD (((IntKind.i64.wrap (x517.2 - 1))).toNat) default)).toNat) default) a2) [] fun y534 =>
 .ret (.out (decide (y507 < y534))))
 (.ret (.out false))) fun y533 =>
 .br y533
 (.grd (0 ≤ (IntKind.i64.wrap (x517.2 - 1)) ∧ (IntKind.i64.wrap (x517.2 - 1)) < ((x517.1.length : Nat) : Int)) <|
 .grd (((IntKind.i64.wrap (x517.2 - 1))).toNat < x517.1.length) <|
 .grd (0 ≤ x517.2 ∧ x517.2 < ((x517.1.length : Nat) : Int)) <|
 .grd ((x517.2).toNat < x517.1.length) <|
 .grd (0 ≤ x517.2 ∧ x517.2 < ((x517.1.length : Nat) : Int)) <|
 .conv 10015 (azq 1 az0 x517.1 3 ((x517.2).toNat) (x517.1.getD (((IntKind.i64.wrap (x517.2 - 1))).toNat) default)) <|
 .grd ((x517.2).toNat < x517.1.length ∧ 0 ≤ (x517.2).toNat) <|
 .grd (0 ≤ (IntKind.i64.wrap (x517.2 - 1)) ∧ (IntKind.i64.wrap (x517.2 - 1)) < (((x517.1.set ((x517.2).toNat) (x517.1.getD (((IntKind.i64.wrap (x517.2 - 1))).toNat) default)).length : Nat) : Int)) <|
 .conv 10017 (azq 1 az0 (x517.1.set ((x517.2).toNat) (x517.1.getD (((IntKind.i64.wrap (x517.2 - 1))).toNat) default)) 3 (((IntKind.i64.wrap (x517.2 - 1))).toNat) (x517.1.getD ((x517.2).toNat) default)) <|
 .grd (((IntKind.i64.wrap (x517.2 - 1))).toNat < (x517.1.set ((x517.2).toNat) (x517.1.getD (((IntKind.i64.wrap (x517.2 - 1))).toNat) default)).length ∧ 0 ≤ ((IntKind.i64.wrap (x517.2 - 1))).toNat) <|
 .ret (.next (((x517.1.set ((x517.2).toNat) (x517.1.getD (((IntKind.i64.wrap (x517.2 - 1))).toNat) default)).set (((IntKind.i64.wrap (x517.2 - 1))).toNat) (x517.1.getD ((x517.2).toNat) default)), (IntKind.i64.wrap (x517.2 - 1)))))
 (.ret (.out x517.1)))
 ((x357.1 ++ ([x357.2] : (List Int))), ((x357.1.length : Nat) : Int)) [] fun y526 =>
 .ret (.out y526))) fun y505 =>
 .ret (.next (y505, (IntKind.i64.wrap (x357.2 + 1)))))
 (.ret (.out x357.1)))
 (nl, 0) [] fun y446 =>
 .ret y446
noncomputable def gz5 (a0 : az8) (a1 : (List (List Int))) (a2 : (List Int)) (a3 : Int) : CallS (List Int) :=
  mkC [] hd Tryz.func55 (by kernel_rfl) (izm a0 a1 a2 a3) 1 [.pure (azw a0), .vec 0, .pure (encL 1 az0 a2), pz a3] [(0, vecO 1 (encL 1 az0) a1 40)] (fun r => .pure (encL 1 az0 r)) (fun _ => [(0, vecO 1 (encL 1 az0) a1 40)]) (by kernel_rfl)
set_option maxHeartbeats 8000000 in
set_option maxRecDepth 20000 in
noncomputable def hzg (a0 : az8) (a1 : (List (List Int))) (a2 : (List az1)) (a3 : Int) (a4 : Int) : T (List az1) :=
 .loop (fun (x85 : ((List az1) × Bool × Int)) => ⟨[(2, pz (min a3 a4)), (3, pz (max a3 a4)), (4, .ptr 2 0), (5, .ptr 3 0), (9, .vec 4), (10, .pure (.bool x85.2.1)), (11, pz x85.2.2)], [(0, vecO 1 (encL 1 az0) a1 40), (1, vecO 12 az2 a2 57), (2, .box [.pure (encL 12 az9 a0.Joints), .pure (encL 5 azb a0.Masses)]), (3, .box [.vec 0, .vec 1]), (4, vecO 12 az2 x85.1 57)], [], 5⟩)
 (.exit 0) (fun (y106 : ((List az1) × Bool)) => ⟨[(2, pz (min a3 a4)), (3, pz (max a3 a4)), (4, .ptr 2 0), (5, .ptr 3 0), (9, .vec 4), (10, .pure (.bool y106.2))], [(0, vecO 1 (encL 1 az0) a1 40), (1, vecO 12 az2 a2 57), (2, .box [.pure (encL 12 az9 a0.Joints), .pure (encL 5 azb a0.Masses)]), (3, .box [.vec 0, .vec 1]), (4, vecO 12 az2 y106.1 57)], [], 5⟩)
 (fun x85 => .br (decide (x85.2.2 < ((a2.length : Nat) : Int)))
 (.grd (0 ≤ x85.2.2 ∧ x85.2.2 < ((a2.length : Nat) : Int)) <|
 .grd ((x85.2.2).toNat < a2.length) <|
 .cut 0 (fun (y123 : ((List az1) × Bool)) => ⟨[(2, pz (min a3 a4)), (3, pz (max a3 a4)), (4, .ptr 2 0), (5, .ptr 3 0), (9, .vec 4), (10, .pure (.bool y123.2)), (11, pz x85.2.2), (12, .ptr 5 0)], [(0, vecO 1 (encL 1 az0) a1 40), (1, vecO 12 az2 a2 57), (2, .box [.pure (encL 12 az9 a0.Joints), .pure (encL 5 azb a0.Masses)]), (3, .box [.vec 0, .vec 1]), (4, vecO 12 az2 y123.1 57), (5, .box [pz ((a2.getD ((x85.2.2).toNat) default).U), pz ((a2.getD ((x85.2.2).toNat) default).V), pz ((a2.getD ((x85.2.2).toNat) default).Cost), pz ((a2.getD ((x85.2.2).toNat) default).State), pz ((a2.getD ((x85.2.2).toNat) default).Proof.Kind), .pure (encL 3 bze ((a2.getD ((x85.2.2).toNat) default).Proof.Pieces)), pz ((a2.getD ((x85.2.2).toNat) default).Proof.At.Depth), pz ((a2.getD ((x85.2.2).toNat) default).Proof.At.Index), .pure (encL 3 azg ((a2.getD ((x85.2.2).toNat) default).Proof.At.Normals)), pz ((a2.getD ((x85.2.2).toNat) default).Proof.Witness.Pair), .pure (encL 1 az0 ((a2.getD ((x85.2.2).toNat) default).Proof.Witness.Left)), .pure (encL 1 az0 ((a2.getD ((x85.2.2).toNat) default).Proof.Witness.Right))])], [], 6⟩)
 (.cut 0 (fun (y124 : Bool) => ⟨[(2, pz (min a3 a4)), (3, pz (max a3 a4)), (4, .ptr 2 0), (5, .ptr 3 0), (9, .vec 4), (10, .pure (.bool x85.2.1)), (11, pz x85.2.2), (12, .ptr 5 0), (50, .pure (.bool y124))], [(0, vecO 1 (encL 1 az0) a1 40), (1, vecO 12 az2 a2 57), (2, .box [.pure (encL 12 az9 a0.Joints), .pure (encL 5 azb a0.Masses)]), (3, .box [.vec 0, .vec 1]), (4, vecO 12 az2 x85.1 57), (5, .box [pz ((a2.getD ((x85.2.2).toNat) default).U), pz ((a2.getD ((x85.2.2).toNat) default).V), pz ((a2.getD ((x85.2.2).toNat) default).Cost), pz ((a2.getD ((x85.2.2).toNat) default).State), pz ((a2.getD ((x85.2.2).toNat) default).Proof.Kind), .pure (encL 3 bze ((a2.getD ((x85.2.2).toNat) default).Proof.Pieces)), pz ((a2.getD ((x85.2.2).toNat) default).Proof.At.Depth), pz ((a2.getD ((x85.2.2).toNat) default).Proof.At.Index), .pure (encL 3 azg ((a2.getD ((x85.2.2).toNat) default).Proof.At.Normals)), pz ((a2.getD ((x85.2.2).toNat) default).Proof.Witness.Pair), .pure (encL 1 az0 ((a2.getD ((x85.2.2).toNat) default).Proof.Witness.Left)), .pure (encL 1 az0 ((a2.getD ((x85.2.2).toNat) default).Proof.Witness.Right))])], [], 6⟩)
 (.br (!x85.2.1)
 (.br (decide (((a2.getD ((x85.2.2).toNat) default).U) > (min a3 a4)))
 (.ret (.out true))
 (.br (((a2.getD ((x85.2.2).toNat) default).U) == (min a3 a4))
 (.ret (.out (decide (((a2.getD ((x85.2.2).toNat) default).V) ≥ (max a3 a4)))))
 (.ret (.out false))))
 (.ret (.out false))) fun y124 =>
 .br y124
 (.cut 1 (fun (y125 : Bool) => ⟨[(2, pz (min a3 a4)), (3, pz (max a3 a4)), (4, .ptr 2 0), (5, .ptr 3 0), (9, .vec 4), (10, .tt), (11, pz x85.2.2), (12, .ptr 5 0), (60, .pure (.bool y125))], [(0, vecO 1 (encL 1 az0) a1 40), (1, vecO 12 az2 a2 57), (2, .box [.pure (encL 12 az9 a0.Joints), .pure (encL 5 azb a0.Masses)]), (3, .box [.vec 0, .vec 1]), (4, vecO 12 az2 x85.1 57), (5, .box [pz ((a2.getD ((x85.2.2).toNat) default).U), pz ((a2.getD ((x85.2.2).toNat) default).V), pz ((a2.getD ((x85.2.2).toNat) default).Cost), pz ((a2.getD ((x85.2.2).toNat) default).State), pz ((a2.getD ((x85.2.2).toNat) default).Proof.Kind), .pure (encL 3 bze ((a2.getD ((x85.2.2).toNat) default).Proof.Pieces)), pz ((a2.getD ((x85.2.2).toNat) default).Proof.At.Depth), pz ((a2.getD ((x85.2.2).toNat) default).Proof.At.Index), .pure (encL 3 azg ((a2.getD ((x85.2.2).toNat) default).Proof.At.Normals)), pz ((a2.getD ((x85.2.2).toNat) default).Proof.Witness.Pair), .pure (encL 1 az0 ((a2.getD ((x85.2.2).toNat) default).Proof.Witness.Left)), .pure (encL 1 az0 ((a2.getD ((x85.2.2).toNat) default).Proof.Witness.Right))])], [], 6⟩)
 (.br (((a2.getD ((x85.2.2).toNat) default).U) != (min a3 a4))
 (.ret (.out true))
 (.ret (.out (((a2.getD ((x85.2.2).toNat) default).V) != (max a3 a4))))) fun y125 =>
 .br y125
 (.grd (0 ≤ (min a3 a4) ∧ (min a3 a4) < ((a1.length : Nat) : Int)) <|
 .grd (((min a3 a4)).toNat < a1.length) <|
 .grd (0 ≤ (max a3 a4) ∧ (max a3 a4) < ((a1.length : Nat) : Int)) <|
 .grd (((max a3 a4)).toNat < a1.length) <|
 .call (czx a0 (a1.getD (((min a3 a4)).toNat) default) (a1.getD (((max a3 a4)).toNat) default)) [] fun y126 =>
 .conv 11016 (xzx 12 az2 ([(⟨(min a3 a4), (max a3 a4), y126, 0, (⟨0, nl, (⟨0, 0, nl⟩ : azr), (⟨0, nl, nl⟩ : bz2)⟩ : azc)⟩ : az1)] : (List az1)) 57 [.agg [.int .i64 (min a3 a4), .int .i64 (max a3 a4), .int .i64 y126, .int .i64 0, .int .i64 0, .lst 0 0 fun _ => .unk, .int .i64 0, .int .i64 0, .lst 0 0 fun _ => .unk, .int .i64 0, .lst 0 0 fun _ => .unk, .lst 0 0 fun _ => .unk]] (by kernel_rfl)) <|
 .conv 11017 (gzg 12 az2 x85.1 ([(⟨(min a3 a4), (max a3 a4), y126, 0, (⟨0, nl, (⟨0, 0, nl⟩ : azr), (⟨0, nl, nl⟩ : bz2)⟩ : azc)⟩ : az1)] : (List az1)) 57) <|
 .grd ((x85.1.length + ([(⟨(min a3 a4), (max a3 a4), y126, 0, (⟨0, nl, (⟨0, 0, nl⟩ : azr), (⟨0, nl, nl⟩ : bz2)⟩ : azc)⟩ : az1)] : (List az1)).length) * 160 ≤ 140737488355328 ∧ (x85.1.length + ([(⟨(min a3 a4), (max a3 a4), y126, 0, (⟨0, nl, (⟨0, 0, nl⟩ : azr), (⟨0, nl, nl⟩ : bz2)⟩ : azc)⟩ : az1)] : (List az1)).length) ≤ maxLen) <|
 .ret (.out ((x85.1 ++ ([(⟨(min a3 a4), (max a3 a4), y126, 0, (⟨0, nl, (⟨0, 0, nl⟩ : azr), (⟨0, nl, nl⟩ : bz2)⟩ : azc)⟩ : az1)] : (List az1))), true)))
 (.ret (.out (x85.1, true))))
 (.ret (.out (x85.1, x85.2.1)))) fun y123 =>
 .conv 12002 (ezu 12 az2 ([(a2.getD ((x85.2.2).toNat) default)] : (List az1)) 57) <|
 .conv 12003 (gzg 12 az2 y123.1 ([(a2.getD ((x85.2.2).toNat) default)] : (List az1)) 57) <|
 .grd ((y123.1.length + ([(a2.getD ((x85.2.2).toNat) default)] : (List az1)).length) * 160 ≤ 140737488355328 ∧ (y123.1.length + ([(a2.getD ((x85.2.2).toNat) default)] : (List az1)).length) ≤ maxLen) <|
 .ret (.next ((y123.1 ++ ([(a2.getD ((x85.2.2).toNat) default)] : (List az1))), y123.2, (IntKind.i64.wrap (x85.2.2 + 1)))))
 (.ret (.out (x85.1, x85.2.1))))
 (nl, false, 0) [] fun y106 =>
 .cut 0 (fun (y129 : (List az1)) => ⟨[(9, .vec 2)], [(0, vecO 1 (encL 1 az0) a1 40), (1, vecO 12 az2 a2 57), (2, vecO 12 az2 y129 57)], [], 3⟩)
 (.br (!y106.2)
 (.grd (0 ≤ (min a3 a4) ∧ (min a3 a4) < ((a1.length : Nat) : Int)) <|
 .grd (((min a3 a4)).toNat < a1.length) <|
 .grd (0 ≤ (max a3 a4) ∧ (max a3 a4) < ((a1.length : Nat) : Int)) <|
 .grd (((max a3 a4)).toNat < a1.length) <|
 .call (czx a0 (a1.getD (((min a3 a4)).toNat) default) (a1.getD (((max a3 a4)).toNat) default)) [] fun y130 =>
 .conv 14016 (xzx 12 az2 ([(⟨(min a3 a4), (max a3 a4), y130, 0, (⟨0, nl, (⟨0, 0, nl⟩ : azr), (⟨0, nl, nl⟩ : bz2)⟩ : azc)⟩ : az1)] : (List az1)) 57 [.agg [.int .i64 (min a3 a4), .int .i64 (max a3 a4), .int .i64 y130, .int .i64 0, .int .i64 0, .lst 0 0 fun _ => .unk, .int .i64 0, .int .i64 0, .lst 0 0 fun _ => .unk, .int .i64 0, .lst 0 0 fun _ => .unk, .lst 0 0 fun _ => .unk]] (by kernel_rfl)) <|
 .conv 14017 (gzg 12 az2 y106.1 ([(⟨(min a3 a4), (max a3 a4), y130, 0, (⟨0, nl, (⟨0, 0, nl⟩ : azr), (⟨0, nl, nl⟩ : bz2)⟩ : azc)⟩ : az1)] : (List az1)) 57) <|
 .grd ((y106.1.length + ([(⟨(min a3 a4), (max a3 a4), y130, 0, (⟨0, nl, (⟨0, 0, nl⟩ : azr), (⟨0, nl, nl⟩ : bz2)⟩ : azc)⟩ : az1)] : (List az1)).length) * 160 ≤ 140737488355328 ∧ (y106.1.length + ([(⟨(min a3 a4), (max a3 a4), y130, 0, (⟨0, nl, (⟨0, 0, nl⟩ : azr), (⟨0, nl, nl⟩ : bz2)⟩ : azc)⟩ : az1)] : (List az1)).length) ≤ maxLen) <|
 .ret (.out (y106.1 ++ ([(⟨(min a3 a4), (max a3 a4), y130, 0, (⟨0, nl, (⟨0, 0, nl⟩ : azr), (⟨0, nl, nl⟩ : bz2)⟩ : azc)⟩ : az1)] : (List az1)))))
 (.ret (.out y106.1))) fun y129 =>
 .ret y129
noncomputable def qzg (a0 : az8) (a1 : (List (List Int))) (a2 : (List az1)) (a3 : Int) (a4 : Int) : CallS (List az1) :=
  mkC [] hd Tryz.func56 (by kernel_rfl) (hzg a0 a1 a2 a3 a4) 2 [.pure (azw a0), .agg [.vec 0, .vec 1], pz a3, pz a4] [(0, vecO 1 (encL 1 az0) a1 40), (1, vecO 12 az2 a2 57)] (fun _ => .vec 2) (fun r => [(0, vecO 1 (encL 1 az0) a1 40), (1, vecO 12 az2 a2 57), (2, vecO 12 az2 r 57)]) (by kernel_rfl)
set_option maxHeartbeats 8000000 in
set_option maxRecDepth 20000 in
noncomputable def mzd (a0 : az8) (a1 : (List (List Int))) (a2 : Int) : T ((List (List Int)) × (List az1)) :=
 .call (fzc a0) [] fun y4 =>
 .br (y4 != 0)
 (.ret (nl, nl))
 (.loop (fun (x105 : ((List (List Int)) × Int)) => ⟨[(1, .pure (encL 1 (encL 1 az0) a1)), (2, pz a2), (3, .ptr 0 0), (6, .ptr 1 0), (7, .ptr 4 0), (8, pz x105.2)], [(0, .box [.pure (encL 12 az9 a0.Joints), .pure (encL 5 azb a0.Masses)]), (1, .box [.vec 2, .vec 3]), (2, .nilv), (3, .nilv), (4, .box [.vec 5, .vec 6]), (5, vecO 1 (encL 1 az0) x105.1 40), (6, .nilv)], [], 7⟩)
 (.exit 0) (fun (y130 : (List (List Int))) => ⟨[(2, pz a2), (3, .ptr 0 0), (6, .ptr 1 0), (7, .ptr 4 0)], [(0, .box [.pure (encL 12 az9 a0.Joints), .pure (encL 5 azb a0.Masses)]), (1, .box [.vec 2, .vec 3]), (2, .nilv), (3, .nilv), (4, .box [.vec 5, .vec 6]), (5, vecO 1 (encL 1 az0) y130 40), (6, .nilv)], [], 7⟩)
 (fun x105 => .cut 1 (fun (y132 : Bool) => ⟨[(1, .pure (encL 1 (encL 1 az0) a1)), (2, pz a2), (3, .ptr 0 0), (6, .ptr 1 0), (7, .ptr 4 0), (8, pz x105.2), (25, .pure (.bool y132))], [(0, .box [.pure (encL 12 az9 a0.Joints), .pure (encL 5 azb a0.Masses)]), (1, .box [.vec 2, .vec 3]), (2, .nilv), (3, .nilv), (4, .box [.vec 5, .vec 6]), (5, vecO 1 (encL 1 az0) x105.1 40), (6, .nilv)], [], 7⟩)
 (.br (decide (x105.2 < ((a1.length : Nat) : Int)))
 (.ret (.out (decide (((x105.1.length : Nat) : Int) < 1024))))
 (.ret (.out false))) fun y132 =>
 .br y132
 (.cut 0 (fun (y147 : (List (List Int))) => ⟨[(1, .pure (encL 1 (encL 1 az0) a1)), (2, pz a2), (3, .ptr 0 0), (6, .ptr 1 0), (7, .ptr 4 0), (8, pz x105.2)], [(0, .box [.pure (encL 12 az9 a0.Joints), .pure (encL 5 azb a0.Masses)]), (1, .box [.vec 2, .vec 3]), (2, .nilv), (3, .nilv), (4, .box [.vec 5, .vec 6]), (5, vecO 1 (encL 1 az0) y147 40), (6, .nilv)], [], 7⟩)
 (.cut 0 (fun (y152 : Bool) => ⟨[(1, .pure (encL 1 (encL 1 az0) a1)), (2, pz a2), (3, .ptr 0 0), (6, .ptr 1 0), (7, .ptr 4 0), (8, pz x105.2), (43, .pure (.bool y152))], [(0, .box [.pure (encL 12 az9 a0.Joints), .pure (encL 5 azb a0.Masses)]), (1, .box [.vec 2, .vec 3]), (2, .nilv), (3, .nilv), (4, .box [.vec 5, .vec 6]), (5, vecO 1 (encL 1 az0) x105.1 40), (6, .nilv)], [], 7⟩)
 (.grd (0 ≤ x105.2 ∧ x105.2 < ((a1.length : Nat) : Int)) <|
 .call (jzd (⟨a0.Joints, a0.Masses⟩ : az8) (a1.getD ((x105.2).toNat) default)) [] fun y153 =>
 .br y153
 (.grd (0 ≤ x105.2 ∧ x105.2 < ((a1.length : Nat) : Int)) <|
 .call (pzb x105.1 (a1.getD ((x105.2).toNat) default)) [(0, 5)] fun y154 =>
 .ret (.out (decide (y154 < 0))))
 (.ret (.out false))) fun y152 =>
 .br y152
 (.grd (0 ≤ x105.2 ∧ x105.2 < ((a1.length : Nat) : Int)) <|
 .grd ((a1.getD ((x105.2).toNat) default).length * 8 ≤ 140737488355328 ∧ (a1.getD ((x105.2).toNat) default).length ≤ maxLen) <|
 .conv 8007 (ezu 1 (encL 1 az0) ([(a1.getD ((x105.2).toNat) default)] : (List (List Int))) 40) <|
 .conv 8008 (gzg 1 (encL 1 az0) x105.1 ([(a1.getD ((x105.2).toNat) default)] : (List (List Int))) 40) <|
 .grd ((x105.1.length + ([(a1.getD ((x105.2).toNat) default)] : (List (List Int))).length) * 24 ≤ 140737488355328 ∧ (x105.1.length + ([(a1.getD ((x105.2).toNat) default)] : (List (List Int))).length) ≤ maxLen) <|
 .ret (.out (x105.1 ++ ([(a1.getD ((x105.2).toNat) default)] : (List (List Int))))))
 (.ret (.out x105.1))) fun y147 =>
 .ret (.next (y147, (IntKind.i64.wrap (x105.2 + 1)))))
 (.ret (.out x105.1)))
 (nl, 0) [] fun y130 =>
 .loop (fun (x295 : ((List az1) × Int)) => ⟨[(2, pz a2), (3, .ptr 0 0), (6, .ptr 1 0), (7, .ptr 4 0), (9, pz x295.2)], [(0, .box [.pure (encL 12 az9 a0.Joints), .pure (encL 5 azb a0.Masses)]), (1, .box [.vec 2, .vec 3]), (2, .nilv), (3, .nilv), (4, .box [.vec 5, .vec 6]), (5, vecO 1 (encL 1 az0) y130 40), (6, vecO 12 az2 x295.1 57)], [], 7⟩)
 (.exit 2) (fun (y330 : (List az1)) => ⟨[(6, .ptr 0 0), (7, .ptr 3 0)], [(0, .box [.vec 1, .vec 2]), (1, .nilv), (2, .nilv), (3, .box [.vec 4, .vec 5]), (4, vecO 1 (encL 1 az0) y130 40), (5, vecO 12 az2 y330 57)], [], 6⟩)
 (fun x295 => .br (decide (x295.2 < ((y130.length : Nat) : Int)))
 (.grd (0 ≤ x295.2 ∧ x295.2 < ((y130.length : Nat) : Int)) <|
 .grd ((x295.2).toNat < y130.length) <|
 .call (gz5 a0 y130 (y130.getD ((x295.2).toNat) default) x295.2) [(0, 5)] fun y349 =>
 .loop (fun (x355 : ((List az1) × Int)) => ⟨[(2, pz a2), (3, .ptr 0 0), (6, .ptr 1 0), (7, .ptr 4 0), (9, pz x295.2), (10, .pure (encL 1 az0 y349)), (11, pz x355.2)], [(0, .box [.pure (encL 12 az9 a0.Joints), .pure (encL 5 azb a0.Masses)]), (1, .box [.vec 2, .vec 3]), (2, .nilv), (3, .nilv), (4, .box [.vec 5, .vec 6]), (5, vecO 1 (encL 1 az0) y130 40), (6, vecO 12 az2 x355.1 57)], [], 7⟩)
 (.exit 4) (fun (y360 : (List az1)) => ⟨[(2, pz a2), (3, .ptr 0 0), (6, .ptr 1 0), (7, .ptr 4 0), (9, pz x295.2)], [(0, .box [.pure (encL 12 az9 a0.Joints), .pure (encL 5 azb a0.Masses)]), (1, .box [.vec 2, .vec 3]), (2, .nilv), (3, .nilv), (4, .box [.vec 5, .vec 6]), (5, vecO 1 (encL 1 az0) y130 40), (6, vecO 12 az2 y360 57)], [], 7⟩)
 (fun x355 => .cut 1 (fun (y362 : Bool) => ⟨[(2, pz a2), (3, .ptr 0 0), (6, .ptr 1 0), (7, .ptr 4 0), (9, pz x295.2), (10, .pure (encL 1 az0 y349)), (11, pz x355.2), (79, .pure (.bool y362))], [(0, .box [.pure (encL 12 az9 a0.Joints), .pure (encL 5 azb a0.Masses)]), (1, .box [.vec 2, .vec 3]), (2, .nilv), (3, .nilv), (4, .box [.vec 5, .vec 6]), (5, vecO 1 (encL 1 az0) y130 40), (6, vecO 12 az2 x355.1 57)], [], 7⟩)
 (.br (decide (x355.2 < ((y349.length : Nat) : Int)))
 (.ret (.out (decide (x355.2 < a2))))
 (.ret (.out false))) fun y362 =>
 .br y362
 (.grd (0 ≤ x355.2 ∧ x355.2 < ((y349.length : Nat) : Int)) <|
 .call (qzg a0 y130 x355.1 x295.2 (y349.getD ((x355.2).toNat) default)) [(0, 5), (1, 6)] fun y364 =>
 .ret (.next (y364, (IntKind.i64.wrap (x355.2 + 1)))))
 (.ret (.out x355.1)))
 (x295.1, 0) [] fun y360 =>
 .ret (.next (y360, (IntKind.i64.wrap (x295.2 + 1)))))
 (.ret (.out x295.1)))
 (nl, 0) [] fun y330 =>
 .cut 0 (fun (y365 : (List az1)) => ⟨[(6, .ptr 0 0), (7, .ptr 3 0)], [(0, .box [.vec 1, .vec 2]), (1, .nilv), (2, .nilv), (3, .box [.vec 4, .vec 5]), (4, vecO 1 (encL 1 az0) y130 40), (5, vecO 12 az2 y365 57)], [], 6⟩)
 (.br (decide (((y330.length : Nat) : Int) > 8192))
 (.conv 18002 (Hz1 12 az2 y330 57 (8192 : Int)) <|
 .grd (0 ≤ (8192 : Int) ∧ (8192 : Int) ≤ ((y330.length : Nat) : Int) ∧ 0 ≤ (8192 : Int).toNat) <|
 .ret (.out (y330.take ((8192 : Int).toNat))))
 (.ret (.out y330))) fun y365 =>
 .ret (y130, y365))
noncomputable def qzf (a0 : az8) (a1 : (List (List Int))) (a2 : Int) : CallS ((List (List Int)) × (List az1)) :=
  mkC [] hd Tryz.func21 (by kernel_rfl) (mzd a0 a1 a2) 0 [.pure (azw a0), .pure (encL 1 (encL 1 az0) a1), pz a2] [] (fun _ => .agg [.vec 0, .vec 1]) (fun r => [(0, vecO 1 (encL 1 az0) r.1 40), (1, vecO 12 az2 r.2 57)]) (by kernel_rfl)
noncomputable def jz3 (a0 : (List Int)) (a1 : (List Int)) : T Bool :=
 .br (((a0.length : Nat) : Int) != ((a1.length : Nat) : Int))
 (.ret false)
 (.loop (fun (x5 : Int) => ⟨[(0, .pure (encL 1 az0 a0)), (1, .pure (encL 1 az0 a1)), (5, pz x5)], [], [], 0⟩)
 (.exit 0) (fun (_ : U0) => ⟨[], [], [], 0⟩)
 (fun x5 => .br (decide (x5 < ((a0.length : Nat) : Int)))
 (.grd (0 ≤ x5 ∧ x5 < ((a0.length : Nat) : Int)) <|
 .grd (0 ≤ x5 ∧ x5 < ((a1.length : Nat) : Int)) <|
 .br ((a0.getD ((x5).toNat) default) != (a1.getD ((x5).toNat) default))
 (.ret (.fin false))
 (.ret (.next (IntKind.i64.wrap (x5 + 1)))))
 (.ret (.out .u)))
 0 [] fun _ =>
 .ret true)
noncomputable def mzx (a0 : (List Int)) (a1 : (List Int)) : CallS Bool :=
  mkC [] hd Tryz.func77 (by kernel_rfl) (jz3 a0 a1) 0 [.pure (encL 1 az0 a0), .pure (encL 1 az0 a1)] [] (fun r => .pure (.bool r)) (fun _ => []) (by kernel_rfl)
noncomputable def fzz (a0 : (List (List Int))) (a1 : (List (List Int))) : T Bool :=
 .br (((a0.length : Nat) : Int) != ((a1.length : Nat) : Int))
 (.ret false)
 (.loop (fun (x21 : Int) => ⟨[(0, .pure (encL 1 (encL 1 az0) a0)), (1, .pure (encL 1 (encL 1 az0) a1)), (5, pz x21)], [], [], 0⟩)
 (.exit 0) (fun (_ : U0) => ⟨[], [], [], 0⟩)
 (fun x21 => .br (decide (x21 < ((a0.length : Nat) : Int)))
 (.grd (0 ≤ x21 ∧ x21 < ((a0.length : Nat) : Int)) <|
 .grd (0 ≤ x21 ∧ x21 < ((a1.length : Nat) : Int)) <|
 .call (mzx (a0.getD ((x21).toNat) default) (a1.getD ((x21).toNat) default)) [] fun y30 =>
 .br (!y30)
 (.ret (.fin false))
 (.ret (.next (IntKind.i64.wrap (x21 + 1)))))
 (.ret (.out .u)))
 0 [] fun _ =>
 .ret true)
noncomputable def izu (a0 : (List (List Int))) (a1 : (List (List Int))) : CallS Bool :=
  mkC [] hd Tryz.func32 (by kernel_rfl) (fzz a0 a1) 0 [.pure (encL 1 (encL 1 az0) a0), .pure (encL 1 (encL 1 az0) a1)] [] (fun r => .pure (.bool r)) (fun _ => []) (by kernel_rfl)
set_option maxHeartbeats 8000000 in
set_option maxRecDepth 20000 in
noncomputable def mz7 (a0 : az8) (a1 : (List Int)) : T aza :=
 .call (fzn a1) [] fun y66 =>
 .call (azd y66.1 y66.2 6) [(0, 192)] fun y69 =>
 .call (azd y69.2.1 y69.2.2 3) [(0, 192)] fun y70 =>
 .call (qza a0 (IntKind.i64.wrap (2 + y69.1)) a1) [] fun y73 =>
 .call (qzf a0 y73 (IntKind.i64.wrap (1 + y70.1))) [] fun y74 =>
 .loop (fun (x111 : ((List Int) × Int × (List az1) × Int)) => ⟨[(4, .ptr 0 0), (5, .ptr 3 0), (8, .ptr 4 0), (9, pz x111.2.2.2)], [(0, .box [.vec 1, .vec 2]), (1, .nilv), (2, .nilv), (3, .box [.pure (encL 1 az0 x111.1), pz x111.2.1]), (4, .box [.vec 5, .vec 6]), (5, vecO 1 (encL 1 az0) y74.1 40), (6, vecO 12 az2 x111.2.2.1 57)], [], 7⟩)
 (.exit 0) (fun (y120 : (List az1)) => ⟨[(4, .ptr 0 0), (8, .ptr 3 0)], [(0, .box [.vec 1, .vec 2]), (1, .nilv), (2, .nilv), (3, .box [.vec 4, .vec 5]), (4, vecO 1 (encL 1 az0) y74.1 40), (5, vecO 12 az2 y120 57)], [], 6⟩)
 (fun x111 => .br (decide (x111.2.2.2 < ((x111.2.2.1.length : Nat) : Int)))
 (.call (azd x111.1 x111.2.1 4) [(0, 3)] fun y126 =>
 .grd (0 ≤ x111.2.2.2 ∧ x111.2.2.2 < ((x111.2.2.1.length : Nat) : Int)) <|
 .conv 7007 (azq 12 az2 x111.2.2.1 57 ((x111.2.2.2).toNat) (⟨(x111.2.2.1.getD ((x111.2.2.2).toNat) default).U, (x111.2.2.1.getD ((x111.2.2.2).toNat) default).V, (x111.2.2.1.getD ((x111.2.2.2).toNat) default).Cost, y126.1, (x111.2.2.1.getD ((x111.2.2.2).toNat) default).Proof⟩ : az1)) <|
 .grd ((x111.2.2.2).toNat < x111.2.2.1.length ∧ 0 ≤ (x111.2.2.2).toNat) <|
 .grd (0 ≤ x111.2.2.2 ∧ x111.2.2.2 < (((x111.2.2.1.set ((x111.2.2.2).toNat) (⟨(x111.2.2.1.getD ((x111.2.2.2).toNat) default).U, (x111.2.2.1.getD ((x111.2.2.2).toNat) default).V, (x111.2.2.1.getD ((x111.2.2.2).toNat) default).Cost, y126.1, (x111.2.2.1.getD ((x111.2.2.2).toNat) default).Proof⟩ : az1)).length : Nat) : Int)) <|
 .grd ((x111.2.2.2).toNat < (x111.2.2.1.set ((x111.2.2.2).toNat) (⟨(x111.2.2.1.getD ((x111.2.2.2).toNat) default).U, (x111.2.2.1.getD ((x111.2.2.2).toNat) default).V, (x111.2.2.1.getD ((x111.2.2.2).toNat) default).Cost, y126.1, (x111.2.2.1.getD ((x111.2.2.2).toNat) default).Proof⟩ : az1)).length) <|
 .name 8008 (((x111.2.2.1.set ((x111.2.2.2).toNat) (⟨(x111.2.2.1.getD ((x111.2.2.2).toNat) default).U, (x111.2.2.1.getD ((x111.2.2.2).toNat) default).V, (x111.2.2.1.getD ((x111.2.2.2).toNat) default).Cost, y126.1, (x111.2.2.1.getD ((x111.2.2.2).toNat) default).Proof⟩ : az1)).getD ((x111.2.2.2).toNat) default).State) fun z127 =>
 .call (lzu z127) [] fun y128 =>
 .grd (0 ≤ x111.2.2.2 ∧ x111.2.2.2 < (((x111.2.2.1.set ((x111.2.2.2).toNat) (⟨(x111.2.2.1.getD ((x111.2.2.2).toNat) default).U, (x111.2.2.1.getD ((x111.2.2.2).toNat) default).V, (x111.2.2.1.getD ((x111.2.2.2).toNat) default).Cost, y126.1, (x111.2.2.1.getD ((x111.2.2.2).toNat) default).Proof⟩ : az1)).length : Nat) : Int)) <|
 .conv 8012 (azq 12 az2 (x111.2.2.1.set ((x111.2.2.2).toNat) (⟨(x111.2.2.1.getD ((x111.2.2.2).toNat) default).U, (x111.2.2.1.getD ((x111.2.2.2).toNat) default).V, (x111.2.2.1.getD ((x111.2.2.2).toNat) default).Cost, y126.1, (x111.2.2.1.getD ((x111.2.2.2).toNat) default).Proof⟩ : az1)) 57 ((x111.2.2.2).toNat) (⟨((x111.2.2.1.set ((x111.2.2.2).toNat) (⟨(x111.2.2.1.getD ((x111.2.2.2).toNat) default).U, (x111.2.2.1.getD ((x111.2.2.2).toNat) default).V, (x111.2.2.1.getD ((x111.2.2.2).toNat) default).Cost, y126.1, (x111.2.2.1.getD ((x111.2.2.2).toNat) default).Proof⟩ : az1)).getD ((x111.2.2.2).toNat) default).U, ((x111.2.2.1.set ((x111.2.2.2).toNat) (⟨(x111.2.2.1.getD ((x111.2.2.2).toNat) default).U, (x111.2.2.1.getD ((x111.2.2.2).toNat) default).V, (x111.2.2.1.getD ((x111.2.2.2).toNat) default).Cost, y126.1, (x111.2.2.1.getD ((x111.2.2.2).toNat) default).Proof⟩ : az1)).getD ((x111.2.2.2).toNat) default).V, ((x111.2.2.1.set ((x111.2.2.2).toNat) (⟨(x111.2.2.1.getD ((x111.2.2.2).toNat) default).U, (x111.2.2.1.getD ((x111.2.2.2).toNat) default).V, (x111.2.2.1.getD ((x111.2.2.2).toNat) default).Cost, y126.1, (x111.2.2.1.getD ((x111.2.2.2).toNat) default).Proof⟩ : az1)).getD ((x111.2.2.2).toNat) default).Cost, ((x111.2.2.1.set ((x111.2.2.2).toNat) (⟨(x111.2.2.1.getD ((x111.2.2.2).toNat) default).U, (x111.2.2.1.getD ((x111.2.2.2).toNat) default).V, (x111.2.2.1.getD ((x111.2.2.2).toNat) default).Cost, y126.1, (x111.2.2.1.getD ((x111.2.2.2).toNat) default).Proof⟩ : az1)).getD ((x111.2.2.2).toNat) default).State, y128⟩ : az1)) <|
 .grd ((x111.2.2.2).toNat < (x111.2.2.1.set ((x111.2.2.2).toNat) (⟨(x111.2.2.1.getD ((x111.2.2.2).toNat) default).U, (x111.2.2.1.getD ((x111.2.2.2).toNat) default).V, (x111.2.2.1.getD ((x111.2.2.2).toNat) default).Cost, y126.1, (x111.2.2.1.getD ((x111.2.2.2).toNat) default).Proof⟩ : az1)).length ∧ 0 ≤ (x111.2.2.2).toNat) <|
 .ret (.next (y126.2.1, y126.2.2, ((x111.2.2.1.set ((x111.2.2.2).toNat) (⟨(x111.2.2.1.getD ((x111.2.2.2).toNat) default).U, (x111.2.2.1.getD ((x111.2.2.2).toNat) default).V, (x111.2.2.1.getD ((x111.2.2.2).toNat) default).Cost, y126.1, (x111.2.2.1.getD ((x111.2.2.2).toNat) default).Proof⟩ : az1)).set ((x111.2.2.2).toNat) (⟨((x111.2.2.1.set ((x111.2.2.2).toNat) (⟨(x111.2.2.1.getD ((x111.2.2.2).toNat) default).U, (x111.2.2.1.getD ((x111.2.2.2).toNat) default).V, (x111.2.2.1.getD ((x111.2.2.2).toNat) default).Cost, y126.1, (x111.2.2.1.getD ((x111.2.2.2).toNat) default).Proof⟩ : az1)).getD ((x111.2.2.2).toNat) default).U, ((x111.2.2.1.set ((x111.2.2.2).toNat) (⟨(x111.2.2.1.getD ((x111.2.2.2).toNat) default).U, (x111.2.2.1.getD ((x111.2.2.2).toNat) default).V, (x111.2.2.1.getD ((x111.2.2.2).toNat) default).Cost, y126.1, (x111.2.2.1.getD ((x111.2.2.2).toNat) default).Proof⟩ : az1)).getD ((x111.2.2.2).toNat) default).V, ((x111.2.2.1.set ((x111.2.2.2).toNat) (⟨(x111.2.2.1.getD ((x111.2.2.2).toNat) default).U, (x111.2.2.1.getD ((x111.2.2.2).toNat) default).V, (x111.2.2.1.getD ((x111.2.2.2).toNat) default).Cost, y126.1, (x111.2.2.1.getD ((x111.2.2.2).toNat) default).Proof⟩ : az1)).getD ((x111.2.2.2).toNat) default).Cost, ((x111.2.2.1.set ((x111.2.2.2).toNat) (⟨(x111.2.2.1.getD ((x111.2.2.2).toNat) default).U, (x111.2.2.1.getD ((x111.2.2.2).toNat) default).V, (x111.2.2.1.getD ((x111.2.2.2).toNat) default).Cost, y126.1, (x111.2.2.1.getD ((x111.2.2.2).toNat) default).Proof⟩ : az1)).getD ((x111.2.2.2).toNat) default).State, y128⟩ : az1)), (IntKind.i64.wrap (x111.2.2.2 + 1)))))
 (.ret (.out x111.2.2.1)))
 (y70.2.1, y70.2.2, y74.2, 0) [] fun y120 =>
 .ret (⟨y74.1, y120⟩ : aza)
noncomputable def qzb (a0 : az8) (a1 : (List Int)) : CallS aza :=
  mkC [] hd Tryz.func13 (by kernel_rfl) (mz7 a0 a1) 0 [.pure (azw a0), .pure (encL 1 az0 a1)] [] (fun r => .pure (bzr r)) (fun _ => []) (by kernel_rfl)
noncomputable def lzb (a0 : aza) : T Bool :=
 .loop (fun (x25 : Int) => ⟨[(1, .ptr 0 0), (3, pz x25)], [(0, .box [.pure (encL 1 (encL 1 az0) a0.Points), .pure (encL 12 az2 a0.Edges)])], [], 1⟩)
 (.exit 0) (fun (_ : U0) => ⟨[(1, .ptr 0 0)], [(0, .box [.pure (encL 1 (encL 1 az0) a0.Points), .pure (encL 12 az2 a0.Edges)])], [], 1⟩)
 (fun x25 => .br (decide (x25 < ((a0.Edges.length : Nat) : Int)))
 (.grd (0 ≤ x25 ∧ x25 < ((a0.Edges.length : Nat) : Int)) <|
 .cut 1 (fun (y37 : Bool) => ⟨[(1, .ptr 0 0), (3, pz x25), (4, .ptr 1 0), (34, .pure (.bool y37))], [(0, .box [.pure (encL 1 (encL 1 az0) a0.Points), .pure (encL 12 az2 a0.Edges)]), (1, .box [pz ((a0.Edges.getD ((x25).toNat) default).U), pz ((a0.Edges.getD ((x25).toNat) default).V), pz ((a0.Edges.getD ((x25).toNat) default).Cost), pz ((a0.Edges.getD ((x25).toNat) default).State), pz ((a0.Edges.getD ((x25).toNat) default).Proof.Kind), .pure (encL 3 bze ((a0.Edges.getD ((x25).toNat) default).Proof.Pieces)), pz ((a0.Edges.getD ((x25).toNat) default).Proof.At.Depth), pz ((a0.Edges.getD ((x25).toNat) default).Proof.At.Index), .pure (encL 3 azg ((a0.Edges.getD ((x25).toNat) default).Proof.At.Normals)), pz ((a0.Edges.getD ((x25).toNat) default).Proof.Witness.Pair), .pure (encL 1 az0 ((a0.Edges.getD ((x25).toNat) default).Proof.Witness.Left)), .pure (encL 1 az0 ((a0.Edges.getD ((x25).toNat) default).Proof.Witness.Right))])], [], 2⟩)
 (.br (decide (((a0.Edges.getD ((x25).toNat) default).U) < 0))
 (.ret (.out true))
 (.br (decide (((a0.Edges.getD ((x25).toNat) default).U) ≥ ((a0.Edges.getD ((x25).toNat) default).V)))
 (.ret (.out true))
 (.ret (.out (decide (((a0.Edges.getD ((x25).toNat) default).V) ≥ ((a0.Points.length : Nat) : Int))))))) fun y37 =>
 .br y37
 (.ret (.fin false))
 (.cut 0 (fun (y38 : Bool) => ⟨[(1, .ptr 0 0), (3, pz x25), (72, .pure (.bool y38))], [(0, .box [.pure (encL 1 (encL 1 az0) a0.Points), .pure (encL 12 az2 a0.Edges)])], [], 1⟩)
 (.br (decide (x25 > 0))
 (.grd (0 ≤ (IntKind.i64.wrap (x25 - 1)) ∧ (IntKind.i64.wrap (x25 - 1)) < ((a0.Edges.length : Nat) : Int)) <|
 .br (decide (((a0.Edges.getD (((IntKind.i64.wrap (x25 - 1))).toNat) default).U) > ((a0.Edges.getD ((x25).toNat) default).U)))
 (.ret (.out true))
 (.grd (0 ≤ (IntKind.i64.wrap (x25 - 1)) ∧ (IntKind.i64.wrap (x25 - 1)) < ((a0.Edges.length : Nat) : Int)) <|
 .br (((a0.Edges.getD (((IntKind.i64.wrap (x25 - 1))).toNat) default).U) == ((a0.Edges.getD ((x25).toNat) default).U))
 (.grd (0 ≤ (IntKind.i64.wrap (x25 - 1)) ∧ (IntKind.i64.wrap (x25 - 1)) < ((a0.Edges.length : Nat) : Int)) <|
 .ret (.out (decide (((a0.Edges.getD (((IntKind.i64.wrap (x25 - 1))).toNat) default).V) ≥ ((a0.Edges.getD ((x25).toNat) default).V)))))
 (.ret (.out false))))
 (.ret (.out false))) fun y38 =>
 .br y38
 (.ret (.fin false))
 (.ret (.next (IntKind.i64.wrap (x25 + 1))))))
 (.ret (.out .u)))
 0 [] fun _ =>
 .br (decide (((a0.Points.length : Nat) : Int) ≤ 1024))
 (.ret (decide (((a0.Edges.length : Nat) : Int) ≤ 8192)))
 (.ret false)
noncomputable def pzc (a0 : aza) : CallS Bool :=
  mkC [] hd Tryz.func45 (by kernel_rfl) (lzb a0) 0 [.pure (bzr a0)] [] (fun r => .pure (.bool r)) (fun _ => []) (by kernel_rfl)
noncomputable def dz7 (a0 : (List (List Int))) (a1 : (List Int)) : T Int :=
 .loop (fun (x21 : Int) => ⟨[(0, .pure (encL 1 (encL 1 az0) a0)), (1, .pure (encL 1 az0 a1)), (5, pz x21)], [], [], 0⟩)
 (.exit 0) (fun (_ : U0) => ⟨[], [], [], 0⟩)
 (fun x21 => .br (decide (x21 < ((a0.length : Nat) : Int)))
 (.grd (0 ≤ x21 ∧ x21 < ((a0.length : Nat) : Int)) <|
 .call (iz4 (a0.getD ((x21).toNat) default) a1) [] fun y30 =>
 .br y30
 (.ret (.fin x21))
 (.ret (.next (IntKind.i64.wrap (x21 + 1)))))
 (.ret (.out .u)))
 0 [] fun _ =>
 .ret (-1)
noncomputable def gzy (a0 : (List (List Int))) (a1 : (List Int)) : CallS Int :=
  mkC [] hd Tryz.func47 (by kernel_rfl) (dz7 a0 a1) 0 [.pure (encL 1 (encL 1 az0) a0), .pure (encL 1 az0 a1)] [] (fun r => pz r) (fun _ => []) (by kernel_rfl)
noncomputable def mze (a0 : Int) : T Int :=
 .br (a0 == 1)
 (.ret 1)
 (.br (a0 == 2)
 (.ret 2)
 (.ret 0))
noncomputable def qzh (a0 : Int) : CallS Int :=
  mkC [] hd Tryz.func49 (by kernel_rfl) (mze a0) 0 [pz a0] [] (fun r => pz r) (fun _ => []) (by kernel_rfl)
noncomputable def kza (a0 : azc) : T Bool :=
 .br (a0.Kind == 0)
 (.br (((a0.Pieces.length : Nat) : Int) == 0)
 (.br (a0.At.Depth == 0)
 (.br (a0.At.Index == 0)
 (.br (((a0.At.Normals.length : Nat) : Int) == 0)
 (.br (a0.Witness.Pair == 0)
 (.br (((a0.Witness.Left.length : Nat) : Int) == 0)
 (.ret (((a0.Witness.Right.length : Nat) : Int) == 0))
 (.ret false))
 (.ret false))
 (.ret false))
 (.ret false))
 (.ret false))
 (.ret false))
 (.ret false)
noncomputable def ozc (a0 : azc) : CallS Bool :=
  mkC [] hd Tryz.func50 (by kernel_rfl) (kza a0) 0 [.pure (fzu a0)] [] (fun r => .pure (.bool r)) (fun _ => []) (by kernel_rfl)
noncomputable def kz8 (a0 : az8) (a1 : aza) : T Bool :=
 .cut 2 (fun (y12 : Bool) => ⟨[(2, .ptr 0 0), (3, .ptr 1 0), (15, .pure (.bool y12))], [(0, .box [.pure (encL 12 az9 a0.Joints), .pure (encL 5 azb a0.Masses)]), (1, .box [.pure (encL 1 (encL 1 az0) a1.Points), .pure (encL 12 az2 a1.Edges)])], [], 2⟩)
 (.call (fzc (⟨a0.Joints, a0.Masses⟩ : az8)) [] fun y13 =>
 .br (y13 != 0)
 (.ret (.out true))
 (.call (pzc a1) [] fun y14 =>
 .ret (.out (!y14)))) fun y12 =>
 .br y12
 (.ret false)
 (.loop (fun (x75 : Int) => ⟨[(2, .ptr 0 0), (3, .ptr 1 0), (5, pz x75)], [(0, .box [.pure (encL 12 az9 a0.Joints), .pure (encL 5 azb a0.Masses)]), (1, .box [.pure (encL 1 (encL 1 az0) a1.Points), .pure (encL 12 az2 a1.Edges)])], [], 2⟩)
 (.exit 0) (fun (_ : U0) => ⟨[(2, .ptr 0 0), (3, .ptr 1 0)], [(0, .box [.pure (encL 12 az9 a0.Joints), .pure (encL 5 azb a0.Masses)]), (1, .box [.pure (encL 1 (encL 1 az0) a1.Points), .pure (encL 12 az2 a1.Edges)])], [], 2⟩)
 (fun x75 => .br (decide (x75 < ((a1.Points.length : Nat) : Int)))
 (.cut 1 (fun (y102 : Bool) => ⟨[(2, .ptr 0 0), (3, .ptr 1 0), (5, pz x75), (43, .pure (.bool y102))], [(0, .box [.pure (encL 12 az9 a0.Joints), .pure (encL 5 azb a0.Masses)]), (1, .box [.pure (encL 1 (encL 1 az0) a1.Points), .pure (encL 12 az2 a1.Edges)])], [], 2⟩)
 (.grd (0 ≤ x75 ∧ x75 < ((a1.Points.length : Nat) : Int)) <|
 .call (jzd (⟨a0.Joints, a0.Masses⟩ : az8) (a1.Points.getD ((x75).toNat) default)) [] fun y103 =>
 .br (!y103)
 (.ret (.out true))
 (.conv 6012 (zzu 1 (encL 1 az0) a1.Points (0 : Int) x75) <|
 .grd (0 ≤ (0 : Int) ∧ (0 : Int) ≤ x75 ∧ x75 ≤ ((a1.Points.length : Nat) : Int)) <|
 .grd (0 ≤ x75 ∧ x75 < ((a1.Points.length : Nat) : Int)) <|
 .call (gzy ((a1.Points.drop ((0 : Int).toNat)).take ((x75).toNat - (0 : Int).toNat)) (a1.Points.getD ((x75).toNat) default)) [] fun y104 =>
 .ret (.out (decide (y104 ≥ 0))))) fun y102 =>
 .br y102
 (.ret (.fin false))
 (.ret (.next (IntKind.i64.wrap (x75 + 1)))))
 (.ret (.out .u)))
 0 [] fun _ =>
 .loop (fun (x189 : Int) => ⟨[(2, .ptr 0 0), (3, .ptr 1 0), (6, pz x189)], [(0, .box [.pure (encL 12 az9 a0.Joints), .pure (encL 5 azb a0.Masses)]), (1, .box [.pure (encL 1 (encL 1 az0) a1.Points), .pure (encL 12 az2 a1.Edges)])], [], 2⟩)
 (.exit 2) (fun (_ : U0) => ⟨[], [], [], 0⟩)
 (fun x189 => .br (decide (x189 < ((a1.Edges.length : Nat) : Int)))
 (.grd (0 ≤ x189 ∧ x189 < ((a1.Edges.length : Nat) : Int)) <|
 .cut 0 (fun (y227 : Bool) => ⟨[(2, .ptr 0 0), (3, .ptr 1 0), (6, pz x189), (102, .pure (.bool y227))], [(0, .box [.pure (encL 12 az9 a0.Joints), .pure (encL 5 azb a0.Masses)]), (1, .box [.pure (encL 1 (encL 1 az0) a1.Points), .pure (encL 12 az2 a1.Edges)])], [], 2⟩)
 (.grd (0 ≤ ((a1.Edges.getD ((x189).toNat) default).U) ∧ ((a1.Edges.getD ((x189).toNat) default).U) < ((a1.Points.length : Nat) : Int)) <|
 .grd (0 ≤ ((a1.Edges.getD ((x189).toNat) default).V) ∧ ((a1.Edges.getD ((x189).toNat) default).V) < ((a1.Points.length : Nat) : Int)) <|
 .call (czx (⟨a0.Joints, a0.Masses⟩ : az8) (a1.Points.getD (((a1.Edges.getD ((x189).toNat) default).U).toNat) default) (a1.Points.getD (((a1.Edges.getD ((x189).toNat) default).V).toNat) default)) [] fun y228 =>
 .br (((a1.Edges.getD ((x189).toNat) default).Cost) != y228)
 (.ret (.out true))
 (.br (decide (((a1.Edges.getD ((x189).toNat) default).State) < 0))
 (.ret (.out true))
 (.br (decide (((a1.Edges.getD ((x189).toNat) default).State) > 3))
 (.ret (.out true))
 (.call (qzh ((a1.Edges.getD ((x189).toNat) default).State)) [] fun y229 =>
 .br (((a1.Edges.getD ((x189).toNat) default).Proof.Kind) != y229)
 (.ret (.out true))
 (.br (((a1.Edges.getD ((x189).toNat) default).State) == 0)
 (.call (ozc ((a1.Edges.getD ((x189).toNat) default).Proof)) [] fun y230 =>
 .ret (.out (!y230)))
 (.ret (.out false))))))) fun y227 =>
 .br y227
 (.ret (.fin false))
 (.ret (.next (IntKind.i64.wrap (x189 + 1)))))
 (.ret (.out .u)))
 0 [] fun _ =>
 .ret true)
noncomputable def kz7 (a0 : az8) (a1 : aza) : CallS Bool :=
  mkC [] hd Tryz.func16 (by kernel_rfl) (kz8 a0 a1) 0 [.pure (azw a0), .pure (bzr a1)] [] (fun r => .pure (.bool r)) (fun _ => []) (by kernel_rfl)
noncomputable def ezo (a0 : (List Int)) (a1 : (List Int)) : T Bool :=
 .br (((a0.length : Nat) : Int) != ((a1.length : Nat) : Int))
 (.ret false)
 (.loop (fun (x5 : Int) => ⟨[(0, .pure (encL 1 az0 a0)), (1, .pure (encL 1 az0 a1)), (12, pz ((a0.length : Nat) : Int)), (13, pz x5)], [], [], 0⟩)
 (.exit 0) (fun (_ : U0) => ⟨[], [], [], 0⟩)
 (fun x5 => .br (decide (x5 < ((a0.length : Nat) : Int)))
 (.grd (0 ≤ x5 ∧ x5 < ((a0.length : Nat) : Int)) <|
 .grd (0 ≤ x5 ∧ x5 < ((a1.length : Nat) : Int)) <|
 .br ((a0.getD ((x5).toNat) default) != (a1.getD ((x5).toNat) default))
 (.ret (.fin false))
 (.ret (.next (IntKind.i64.wrap (x5 + 1)))))
 (.ret (.out .u)))
 0 [] fun _ =>
 .ret true)
noncomputable def hz5 (a0 : (List Int)) (a1 : (List Int)) : CallS Bool :=
  mkC [] hd Tryz.func69 (by kernel_rfl) (ezo a0 a1) 0 [.pure (encL 1 az0 a0), .pure (encL 1 az0 a1)] [] (fun r => .pure (.bool r)) (fun _ => []) (by kernel_rfl)
noncomputable def lzc (a0 : (List Int)) (a1 : (List Int)) : T Bool :=
 .call (hz5 a0 a1) [] fun y1 =>
 .ret y1
noncomputable def pzf (a0 : (List Int)) (a1 : (List Int)) : CallS Bool :=
  mkC [] hd Tryz.func68 (by kernel_rfl) (lzc a0 a1) 1 [.pure (encL 1 az0 a0), .ptr 0 0] [(0, .box [.pure (encL 1 az0 a1)])] (fun r => .pure (.bool r)) (fun _ => [(0, .box [.pure (encL 1 az0 a1)])]) (by kernel_rfl)
noncomputable def czz (a0 : (List (List Int))) (a1 : (List Int)) : T Int :=
 .loop (fun (x21 : Int) => ⟨[(0, .pure (encL 1 (encL 1 az0) a0)), (1, .func 68 [] [.ptr 0 0]), (7, pz ((a0.length : Nat) : Int)), (8, pz x21)], [(0, .box [.pure (encL 1 az0 a1)])], [], 1⟩)
 (.exit 0) (fun (_ : U0) => ⟨[], [(0, .box [.pure (encL 1 az0 a1)])], [], 1⟩)
 (fun x21 => .br (decide (x21 < ((a0.length : Nat) : Int)))
 (.grd (0 ≤ x21 ∧ x21 < ((a0.length : Nat) : Int)) <|
 .call (pzf (a0.getD ((x21).toNat) default) a1) [(0, 0)] fun y30 =>
 .br y30
 (.ret (.fin x21))
 (.ret (.next (IntKind.i64.wrap (x21 + 1)))))
 (.ret (.out .u)))
 0 [] fun _ =>
 .ret (-1)
noncomputable def fz4 (a0 : (List (List Int))) (a1 : (List Int)) : CallS Int :=
  mkC [] hd Tryz.func67 (by kernel_rfl) (czz a0 a1) 1 [.pure (encL 1 (encL 1 az0) a0), .func 68 [] [.ptr 0 0]] [(0, .box [.pure (encL 1 az0 a1)])] (fun r => pz r) (fun _ => [(0, .box [.pure (encL 1 az0 a1)])]) (by kernel_rfl)
noncomputable def bz8 (a0 : (List az1)) (a1 : Nat) (a2 : Nat) (a3 : Int) (a4 : Int) : T (List az1) :=
 .loop (fun (x221 : ((List az1) × Int)) => ⟨[(0, .view 0 12 a1 a2), (1, pz a3), (2, pz a4), (3, .func 43 [] []), (8, pz x221.2)], [(0, vecO 12 az2 x221.1 57)], [], 1⟩)
 (.exit 0) (fun (y276 : (List az1)) => ⟨[], [(0, vecO 12 az2 y276 57)], [], 1⟩)
 (fun x221 => .br (decide (x221.2 < a4))
 (.loop (fun (x313 : ((List az1) × Int)) => ⟨[(0, .view 0 12 a1 a2), (1, pz a3), (2, pz a4), (3, .func 43 [] []), (8, pz x221.2), (9, pz x313.2)], [(0, vecO 12 az2 x313.1 57)], [], 1⟩)
 (.exit 2) (fun (y322 : (List az1)) => ⟨[(0, .view 0 12 a1 a2), (1, pz a3), (2, pz a4), (3, .func 43 [] []), (8, pz x221.2)], [(0, vecO 12 az2 y322 57)], [], 1⟩)
 (fun x313 => .cut 1 (fun (y329 : Bool) => ⟨[(0, .view 0 12 a1 a2), (1, pz a3), (2, pz a4), (3, .func 43 [] []), (8, pz x221.2), (9, pz x313.2), (34, .pure (.bool y329))], [(0, vecO 12 az2 x313.1 57)], [], 1⟩)
 (.br (decide (x313.2 > a3))
 (.grd (0 ≤ x313.2 ∧ x313.2 < ((a2 : Nat) : Int)) <|
 .grd ((a1 + ((x313.2).toNat)) < x313.1.length) <|
 .grd (0 ≤ (IntKind.i64.wrap (x313.2 - 1)) ∧ (IntKind.i64.wrap (x313.2 - 1)) < ((a2 : Nat) : Int)) <|
 .grd ((a1 + (((IntKind.i64.wrap (x313.2 - 1))).toNat)) < x313.1.length) <|
 .call (azp (x313.1.getD (a1 + ((x313.2).toNat)) default) (x313.1.getD (a1 + (((IntKind.i64.wrap (x313.2 - 1))).toNat)) default)) [] fun y330 =>
 .ret (.out (decide (y330 < 0))))
 (.ret (.out false))) fun y329 =>
 .br y329
 (.grd (0 ≤ (IntKind.i64.wrap (x313.2 - 1)) ∧ (IntKind.i64.wrap (x313.2 - 1)) < ((a2 : Nat) : Int)) <|
 .grd ((a1 + (((IntKind.i64.wrap (x313.2 - 1))).toNat)) < x313.1.length) <|
 .grd (0 ≤ x313.2 ∧ x313.2 < ((a2 : Nat) : Int)) <|
 .grd ((a1 + ((x313.2).toNat)) < x313.1.length) <|
 .grd (0 ≤ x313.2 ∧ x313.2 < ((a2 : Nat) : Int)) <|
 .conv 6015 (azq 12 az2 x313.1 57 (a1 + ((x313.2).toNat)) (x313.1.getD (a1 + (((IntKind.i64.wrap (x313.2 - 1))).toNat)) default)) <|
 .grd ((a1 + ((x313.2).toNat)) < x313.1.length ∧ 0 ≤ (a1 + ((x313.2).toNat))) <|
 .grd (0 ≤ (IntKind.i64.wrap (x313.2 - 1)) ∧ (IntKind.i64.wrap (x313.2 - 1)) < ((a2 : Nat) : Int)) <|
 .conv 6017 (azq 12 az2 (x313.1.set (a1 + ((x313.2).toNat)) (x313.1.getD (a1 + (((IntKind.i64.wrap (x313.2 - 1))).toNat)) default)) 57 (a1 + (((IntKind.i64.wrap (x313.2 - 1))).toNat)) (x313.1.getD (a1 + ((x313.2).toNat)) default)) <|
 .grd ((a1 + (((IntKind.i64.wrap (x313.2 - 1))).toNat)) < (x313.1.set (a1 + ((x313.2).toNat)) (x313.1.getD (a1 + (((IntKind.i64.wrap (x313.2 - 1))).toNat)) default)).length ∧ 0 ≤ (a1 + (((IntKind.i64.wrap (x313.2 - 1))).toNat))) <|
 .ret (.next (((x313.1.set (a1 + ((x313.2).toNat)) (x313.1.getD (a1 + (((IntKind.i64.wrap (x313.2 - 1))).toNat)) default)).set (a1 + (((IntKind.i64.wrap (x313.2 - 1))).toNat)) (x313.1.getD (a1 + ((x313.2).toNat)) default)), (IntKind.i64.wrap (x313.2 - 1)))))
 (.ret (.out x313.1)))
 (x221.1, x221.2) [] fun y322 =>
 .ret (.next (y322, (IntKind.i64.wrap (x221.2 + 1)))))
 (.ret (.out x221.1)))
 (a0, (IntKind.i64.wrap (a3 + 1))) [] fun y276 =>
 .ret y276
noncomputable def czg (a0 : (List az1)) (a1 : Nat) (a2 : Nat) (a3 : Int) (a4 : Int) : CallS (List az1) :=
  mkC [] hd Tryz.func147 (by kernel_rfl) (bz8 a0 a1 a2 a3 a4) 1 [.view 0 12 a1 a2, pz a3, pz a4, .func 43 [] []] [(0, vecO 12 az2 a0 57)] (fun _ => .tup []) (fun r => [(0, vecO 12 az2 r 57)]) (by kernel_rfl)
noncomputable def bzo (a0 : (List az1)) (a1 : Nat) (a2 : Nat) (a3 : Int) (a4 : Int) (a5 : Int) : T (List az1) :=
 .loop (fun (x73 : ((List az1) × Int)) => ⟨[(0, .view 0 12 a1 a2), (2, pz a4), (3, pz a5), (4, .func 43 [] []), (10, pz x73.2)], [(0, vecO 12 az2 x73.1 57)], [], 1⟩)
 (.exit 0) (fun (y91 : (List az1)) => ⟨[], [(0, vecO 12 az2 y91 57)], [], 1⟩)
 (fun x73 => .br (decide ((IntKind.i64.wrap ((IntKind.i64.wrap (2 * x73.2)) + 1)) ≥ a4))
 (.ret (.out x73.1))
 (.cut 0 (fun (y100 : Int) => ⟨[(0, .view 0 12 a1 a2), (2, pz a4), (3, pz a5), (4, .func 43 [] []), (10, pz x73.2), (11, pz y100)], [(0, vecO 12 az2 x73.1 57)], [], 1⟩)
 (.cut 0 (fun (y103 : Bool) => ⟨[(0, .view 0 12 a1 a2), (2, pz a4), (3, pz a5), (4, .func 43 [] []), (10, pz x73.2), (11, pz (IntKind.i64.wrap ((IntKind.i64.wrap (2 * x73.2)) + 1))), (40, .pure (.bool y103))], [(0, vecO 12 az2 x73.1 57)], [], 1⟩)
 (.br (decide ((IntKind.i64.wrap ((IntKind.i64.wrap ((IntKind.i64.wrap (2 * x73.2)) + 1)) + 1)) < a4))
 (.grd (0 ≤ (IntKind.i64.wrap (a5 + (IntKind.i64.wrap ((IntKind.i64.wrap (2 * x73.2)) + 1)))) ∧ (IntKind.i64.wrap (a5 + (IntKind.i64.wrap ((IntKind.i64.wrap (2 * x73.2)) + 1)))) < ((a2 : Nat) : Int)) <|
 .grd ((a1 + (((IntKind.i64.wrap (a5 + (IntKind.i64.wrap ((IntKind.i64.wrap (2 * x73.2)) + 1))))).toNat)) < x73.1.length) <|
 .grd (0 ≤ (IntKind.i64.wrap ((IntKind.i64.wrap (a5 + (IntKind.i64.wrap ((IntKind.i64.wrap (2 * x73.2)) + 1)))) + 1)) ∧ (IntKind.i64.wrap ((IntKind.i64.wrap (a5 + (IntKind.i64.wrap ((IntKind.i64.wrap (2 * x73.2)) + 1)))) + 1)) < ((a2 : Nat) : Int)) <|
 .grd ((a1 + (((IntKind.i64.wrap ((IntKind.i64.wrap (a5 + (IntKind.i64.wrap ((IntKind.i64.wrap (2 * x73.2)) + 1)))) + 1))).toNat)) < x73.1.length) <|
 .call (azp (x73.1.getD (a1 + (((IntKind.i64.wrap (a5 + (IntKind.i64.wrap ((IntKind.i64.wrap (2 * x73.2)) + 1))))).toNat)) default) (x73.1.getD (a1 + (((IntKind.i64.wrap ((IntKind.i64.wrap (a5 + (IntKind.i64.wrap ((IntKind.i64.wrap (2 * x73.2)) + 1)))) + 1))).toNat)) default)) [] fun y104 =>
 .ret (.out (decide (y104 < 0))))
 (.ret (.out false))) fun y103 =>
 .br y103
 (.ret (.out (IntKind.i64.wrap ((IntKind.i64.wrap ((IntKind.i64.wrap (2 * x73.2)) + 1)) + 1))))
 (.ret (.out (IntKind.i64.wrap ((IntKind.i64.wrap (2 * x73.2)) + 1))))) fun y100 =>
 .grd (0 ≤ (IntKind.i64.wrap (a5 + x73.2)) ∧ (IntKind.i64.wrap (a5 + x73.2)) < ((a2 : Nat) : Int)) <|
 .grd ((a1 + (((IntKind.i64.wrap (a5 + x73.2))).toNat)) < x73.1.length) <|
 .grd (0 ≤ (IntKind.i64.wrap (a5 + y100)) ∧ (IntKind.i64.wrap (a5 + y100)) < ((a2 : Nat) : Int)) <|
 .grd ((a1 + (((IntKind.i64.wrap (a5 + y100))).toNat)) < x73.1.length) <|
 .call (azp (x73.1.getD (a1 + (((IntKind.i64.wrap (a5 + x73.2))).toNat)) default) (x73.1.getD (a1 + (((IntKind.i64.wrap (a5 + y100))).toNat)) default)) [] fun y108 =>
 .br (!(decide (y108 < 0)))
 (.ret (.fin x73.1))
 (.grd (0 ≤ (IntKind.i64.wrap (a5 + y100)) ∧ (IntKind.i64.wrap (a5 + y100)) < ((a2 : Nat) : Int)) <|
 .grd ((a1 + (((IntKind.i64.wrap (a5 + y100))).toNat)) < x73.1.length) <|
 .grd (0 ≤ (IntKind.i64.wrap (a5 + x73.2)) ∧ (IntKind.i64.wrap (a5 + x73.2)) < ((a2 : Nat) : Int)) <|
 .grd ((a1 + (((IntKind.i64.wrap (a5 + x73.2))).toNat)) < x73.1.length) <|
 .grd (0 ≤ (IntKind.i64.wrap (a5 + x73.2)) ∧ (IntKind.i64.wrap (a5 + x73.2)) < ((a2 : Nat) : Int)) <|
 .conv 6021 (azq 12 az2 x73.1 57 (a1 + (((IntKind.i64.wrap (a5 + x73.2))).toNat)) (x73.1.getD (a1 + (((IntKind.i64.wrap (a5 + y100))).toNat)) default)) <|
 .grd ((a1 + (((IntKind.i64.wrap (a5 + x73.2))).toNat)) < x73.1.length ∧ 0 ≤ (a1 + (((IntKind.i64.wrap (a5 + x73.2))).toNat))) <|
 .grd (0 ≤ (IntKind.i64.wrap (a5 + y100)) ∧ (IntKind.i64.wrap (a5 + y100)) < ((a2 : Nat) : Int)) <|
 .conv 6023 (azq 12 az2 (x73.1.set (a1 + (((IntKind.i64.wrap (a5 + x73.2))).toNat)) (x73.1.getD (a1 + (((IntKind.i64.wrap (a5 + y100))).toNat)) default)) 57 (a1 + (((IntKind.i64.wrap (a5 + y100))).toNat)) (x73.1.getD (a1 + (((IntKind.i64.wrap (a5 + x73.2))).toNat)) default)) <|
 .grd ((a1 + (((IntKind.i64.wrap (a5 + y100))).toNat)) < (x73.1.set (a1 + (((IntKind.i64.wrap (a5 + x73.2))).toNat)) (x73.1.getD (a1 + (((IntKind.i64.wrap (a5 + y100))).toNat)) default)).length ∧ 0 ≤ (a1 + (((IntKind.i64.wrap (a5 + y100))).toNat))) <|
 .ret (.next (((x73.1.set (a1 + (((IntKind.i64.wrap (a5 + x73.2))).toNat)) (x73.1.getD (a1 + (((IntKind.i64.wrap (a5 + y100))).toNat)) default)).set (a1 + (((IntKind.i64.wrap (a5 + y100))).toNat)) (x73.1.getD (a1 + (((IntKind.i64.wrap (a5 + x73.2))).toNat)) default)), y100)))))
 (a0, a3) [] fun y91 =>
 .ret y91
noncomputable def bzn (a0 : (List az1)) (a1 : Nat) (a2 : Nat) (a3 : Int) (a4 : Int) (a5 : Int) : CallS (List az1) :=
  mkC [] hd Tryz.func182 (by kernel_rfl) (bzo a0 a1 a2 a3 a4 a5) 1 [.view 0 12 a1 a2, pz a3, pz a4, pz a5, .func 43 [] []] [(0, vecO 12 az2 a0 57)] (fun _ => .tup []) (fun r => [(0, vecO 12 az2 r 57)]) (by kernel_rfl)
noncomputable def bzl (a0 : (List az1)) (a1 : Nat) (a2 : Nat) (a3 : Int) (a4 : Int) : T (List az1) :=
 .ok ((2 : Int) ≠ 0) (by decide) <|
 .loop (fun (x40 : ((List az1) × Int)) => ⟨[(0, .view 0 12 a1 a2), (3, .func 43 [] []), (8, pz a3), (9, pz 0), (10, pz (IntKind.i64.wrap (a4 - a3))), (11, pz x40.2)], [(0, vecO 12 az2 x40.1 57)], [], 1⟩)
 (.exit 0) (fun (y43 : (List az1)) => ⟨[(0, .view 0 12 a1 a2), (3, .func 43 [] []), (8, pz a3), (9, pz 0), (10, pz (IntKind.i64.wrap (a4 - a3)))], [(0, vecO 12 az2 y43 57)], [], 1⟩)
 (fun x40 => .br (decide (x40.2 ≥ 0))
 (.call (bzn x40.1 a1 a2 x40.2 (IntKind.i64.wrap (a4 - a3)) a3) [(0, 0)] fun y45 =>
 .ret (.next (y45, (IntKind.i64.wrap (x40.2 - 1)))))
 (.ret (.out x40.1)))
 (a0, (IntKind.i64.wrap ((IntKind.i64.wrap ((IntKind.i64.wrap (a4 - a3)) - 1)).tdiv 2))) [] fun y43 =>
 .loop (fun (x49 : ((List az1) × Int)) => ⟨[(0, .view 0 12 a1 a2), (3, .func 43 [] []), (8, pz a3), (9, pz 0), (12, pz x49.2)], [(0, vecO 12 az2 x49.1 57)], [], 1⟩)
 (.exit 2) (fun (y52 : (List az1)) => ⟨[], [(0, vecO 12 az2 y52 57)], [], 1⟩)
 (fun x49 => .br (decide (x49.2 ≥ 0))
 (.grd (0 ≤ (IntKind.i64.wrap (a3 + x49.2)) ∧ (IntKind.i64.wrap (a3 + x49.2)) < ((a2 : Nat) : Int)) <|
 .grd ((a1 + (((IntKind.i64.wrap (a3 + x49.2))).toNat)) < x49.1.length) <|
 .grd (0 ≤ a3 ∧ a3 < ((a2 : Nat) : Int)) <|
 .grd ((a1 + ((a3).toNat)) < x49.1.length) <|
 .grd (0 ≤ a3 ∧ a3 < ((a2 : Nat) : Int)) <|
 .conv 10017 (azq 12 az2 x49.1 57 (a1 + ((a3).toNat)) (x49.1.getD (a1 + (((IntKind.i64.wrap (a3 + x49.2))).toNat)) default)) <|
 .grd ((a1 + ((a3).toNat)) < x49.1.length ∧ 0 ≤ (a1 + ((a3).toNat))) <|
 .grd (0 ≤ (IntKind.i64.wrap (a3 + x49.2)) ∧ (IntKind.i64.wrap (a3 + x49.2)) < ((a2 : Nat) : Int)) <|
 .conv 10019 (azq 12 az2 (x49.1.set (a1 + ((a3).toNat)) (x49.1.getD (a1 + (((IntKind.i64.wrap (a3 + x49.2))).toNat)) default)) 57 (a1 + (((IntKind.i64.wrap (a3 + x49.2))).toNat)) (x49.1.getD (a1 + ((a3).toNat)) default)) <|
 .grd ((a1 + (((IntKind.i64.wrap (a3 + x49.2))).toNat)) < (x49.1.set (a1 + ((a3).toNat)) (x49.1.getD (a1 + (((IntKind.i64.wrap (a3 + x49.2))).toNat)) default)).length ∧ 0 ≤ (a1 + (((IntKind.i64.wrap (a3 + x49.2))).toNat))) <|
 .call (bzn ((x49.1.set (a1 + ((a3).toNat)) (x49.1.getD (a1 + (((IntKind.i64.wrap (a3 + x49.2))).toNat)) default)).set (a1 + (((IntKind.i64.wrap (a3 + x49.2))).toNat)) (x49.1.getD (a1 + ((a3).toNat)) default)) a1 a2 0 x49.2 a3) [(0, 0)] fun y54 =>
 .ret (.next (y54, (IntKind.i64.wrap (x49.2 - 1)))))
 (.ret (.out x49.1)))
 (y43, (IntKind.i64.wrap ((IntKind.i64.wrap (a4 - a3)) - 1))) [] fun y52 =>
 .ret y52
noncomputable def dzb (a0 : (List az1)) (a1 : Nat) (a2 : Nat) (a3 : Int) (a4 : Int) : CallS (List az1) :=
  mkC [] hd Tryz.func148 (by kernel_rfl) (bzl a0 a1 a2 a3 a4) 1 [.view 0 12 a1 a2, pz a3, pz a4, .func 43 [] []] [(0, vecO 12 az2 a0 57)] (fun _ => .tup []) (fun r => [(0, vecO 12 az2 r 57)]) (by kernel_rfl)
noncomputable def bzy (a0 : (List az1)) (a1 : Nat) (a2 : Nat) (a3 : Int) (a4 : Int) (a5 : Int) : T (Int × Int × Int) :=
 .grd (0 ≤ a4 ∧ a4 < ((a2 : Nat) : Int)) <|
 .grd ((a1 + ((a4).toNat)) < a0.length) <|
 .grd (0 ≤ a3 ∧ a3 < ((a2 : Nat) : Int)) <|
 .grd ((a1 + ((a3).toNat)) < a0.length) <|
 .call (azp (a0.getD (a1 + ((a4).toNat)) default) (a0.getD (a1 + ((a3).toNat)) default)) [] fun y8 =>
 .br (decide (y8 < 0))
 (.ret (a4, a3, (IntKind.i64.wrap (a5 + 1))))
 (.ret (a3, a4, a5))
noncomputable def bz1 (a0 : (List az1)) (a1 : Nat) (a2 : Nat) (a3 : Int) (a4 : Int) (a5 : Int) : CallS (Int × Int × Int) :=
  mkC [] hd Tryz.func194 (by kernel_rfl) (bzy a0 a1 a2 a3 a4 a5) 2 [.view 0 12 a1 a2, pz a3, pz a4, .ptr 1 0, .func 43 [] []] [(0, vecO 12 az2 a0 57), (1, .box [pz a5])] (fun r => .tup [pz r.1, pz r.2.1]) (fun r => [(0, vecO 12 az2 a0 57), (1, .box [pz r.2.2])]) (by kernel_rfl)
noncomputable def bzx (a0 : (List az1)) (a1 : Nat) (a2 : Nat) (a3 : Int) (a4 : Int) (a5 : Int) (a6 : Int) : T (Int × Int) :=
 .call (bz1 a0 a1 a2 a3 a4 a6) [(0, 0), (1, 1)] fun y8 =>
 .call (bz1 a0 a1 a2 y8.2.1 a5 y8.2.2) [(0, 0), (1, 1)] fun y10 =>
 .call (bz1 a0 a1 a2 y8.1 y10.1 y10.2.2) [(0, 0), (1, 1)] fun y12 =>
 .ret (y12.2.1, y12.2.2)
noncomputable def bzw (a0 : (List az1)) (a1 : Nat) (a2 : Nat) (a3 : Int) (a4 : Int) (a5 : Int) (a6 : Int) : CallS (Int × Int) :=
  mkC [] hd Tryz.func186 (by kernel_rfl) (bzx a0 a1 a2 a3 a4 a5 a6) 2 [.view 0 12 a1 a2, pz a3, pz a4, pz a5, .ptr 1 0, .func 43 [] []] [(0, vecO 12 az2 a0 57), (1, .box [pz a6])] (fun r => pz r.1) (fun r => [(0, vecO 12 az2 a0 57), (1, .box [pz r.2])]) (by kernel_rfl)
noncomputable def bz4 (a0 : (List az1)) (a1 : Nat) (a2 : Nat) (a3 : Int) (a4 : Int) : T (Int × Int) :=
 .call (bzw a0 a1 a2 (IntKind.i64.wrap (a3 - 1)) a3 (IntKind.i64.wrap (a3 + 1)) a4) [(0, 0), (1, 1)] fun y2 =>
 .ret (y2.1, y2.2)
noncomputable def azs (a0 : (List az1)) (a1 : Nat) (a2 : Nat) (a3 : Int) (a4 : Int) : CallS (Int × Int) :=
  mkC [] hd Tryz.func185 (by kernel_rfl) (bz4 a0 a1 a2 a3 a4) 2 [.view 0 12 a1 a2, pz a3, .ptr 1 0, .func 43 [] []] [(0, vecO 12 az2 a0 57), (1, .box [pz a4])] (fun r => pz r.1) (fun r => [(0, vecO 12 az2 a0 57), (1, .box [pz r.2])]) (by kernel_rfl)
noncomputable def bzc (a0 : (List az1)) (a1 : Nat) (a2 : Nat) (a3 : Int) (a4 : Int) : T (Int × Int) :=
 .ok ((4 : Int) ≠ 0) (by decide) <|
 .ok ((4 : Int) ≠ 0) (by decide) <|
 .ok ((4 : Int) ≠ 0) (by decide) <|
 .cut 0 (fun (y35 : (Int × Int)) => ⟨[(11, .ptr 1 0), (13, pz y35.2)], [(0, vecO 12 az2 a0 57), (1, .box [pz y35.1])], [], 2⟩)
 (.br (decide ((IntKind.i64.wrap (a4 - a3)) ≥ 8))
 (.cut 0 (fun (y46 : (Int × Int × Int × Int)) => ⟨[(0, .view 0 12 a1 a2), (3, .func 43 [] []), (11, .ptr 1 0), (12, pz y46.2.1), (13, pz y46.2.2.1), (14, pz y46.2.2.2)], [(0, vecO 12 az2 a0 57), (1, .box [pz y46.1])], [], 2⟩)
 (.br (decide ((IntKind.i64.wrap (a4 - a3)) ≥ 50))
 (.call (azs a0 a1 a2 (IntKind.i64.wrap (a3 + (IntKind.i64.wrap ((IntKind.i64.wrap ((IntKind.i64.wrap (a4 - a3)).tdiv 4)) * 1)))) 0) [(0, 0), (1, 385)] fun y48 =>
 .call (azs a0 a1 a2 (IntKind.i64.wrap (a3 + (IntKind.i64.wrap ((IntKind.i64.wrap ((IntKind.i64.wrap (a4 - a3)).tdiv 4)) * 2)))) y48.2) [(0, 0), (1, 385)] fun y50 =>
 .call (azs a0 a1 a2 (IntKind.i64.wrap (a3 + (IntKind.i64.wrap ((IntKind.i64.wrap ((IntKind.i64.wrap (a4 - a3)).tdiv 4)) * 3)))) y50.2) [(0, 0), (1, 385)] fun y51 =>
 .ret (.out (y51.2, y48.1, y50.1, y51.1)))
 (.ret (.out (0, (IntKind.i64.wrap (a3 + (IntKind.i64.wrap ((IntKind.i64.wrap ((IntKind.i64.wrap (a4 - a3)).tdiv 4)) * 1)))), (IntKind.i64.wrap (a3 + (IntKind.i64.wrap ((IntKind.i64.wrap ((IntKind.i64.wrap (a4 - a3)).tdiv 4)) * 2)))), (IntKind.i64.wrap (a3 + (IntKind.i64.wrap ((IntKind.i64.wrap ((IntKind.i64.wrap (a4 - a3)).tdiv 4)) * 3)))))))) fun y46 =>
 .call (bzw a0 a1 a2 y46.2.1 y46.2.2.1 y46.2.2.2 y46.1) [(0, 0), (1, 1)] fun y52 =>
 .ret (.out (y52.2, y52.1)))
 (.ret (.out (0, (IntKind.i64.wrap (a3 + (IntKind.i64.wrap ((IntKind.i64.wrap ((IntKind.i64.wrap (a4 - a3)).tdiv 4)) * 2)))))))) fun y35 =>
 .br (y35.1 == 0)
 (.ret (y35.2, 1))
 (.br (y35.1 == 12)
 (.ret (y35.2, 2))
 (.ret (y35.2, 0)))
noncomputable def czt (a0 : (List az1)) (a1 : Nat) (a2 : Nat) (a3 : Int) (a4 : Int) : CallS (Int × Int) :=
  mkC [] hd Tryz.func150 (by kernel_rfl) (bzc a0 a1 a2 a3 a4) 1 [.view 0 12 a1 a2, pz a3, pz a4, .func 43 [] []] [(0, vecO 12 az2 a0 57)] (fun r => .tup [pz r.1, pz r.2]) (fun _ => [(0, vecO 12 az2 a0 57)]) (by kernel_rfl)
noncomputable def bza (a0 : (List az1)) (a1 : Nat) (a2 : Nat) (a3 : Int) (a4 : Int) : T (List az1) :=
 .loop (fun (x5 : ((List az1) × Int × Int)) => ⟨[(0, .view 0 12 a1 a2), (8, pz x5.2.1), (9, pz x5.2.2)], [(0, vecO 12 az2 x5.1 57)], [], 1⟩)
 (.exit 0) (fun (y6 : (List az1)) => ⟨[], [(0, vecO 12 az2 y6 57)], [], 1⟩)
 (fun x5 => .br (decide (x5.2.1 < x5.2.2))
 (.grd (0 ≤ x5.2.2 ∧ x5.2.2 < ((a2 : Nat) : Int)) <|
 .grd ((a1 + ((x5.2.2).toNat)) < x5.1.length) <|
 .grd (0 ≤ x5.2.1 ∧ x5.2.1 < ((a2 : Nat) : Int)) <|
 .grd ((a1 + ((x5.2.1).toNat)) < x5.1.length) <|
 .grd (0 ≤ x5.2.1 ∧ x5.2.1 < ((a2 : Nat) : Int)) <|
 .conv 3013 (azq 12 az2 x5.1 57 (a1 + ((x5.2.1).toNat)) (x5.1.getD (a1 + ((x5.2.2).toNat)) default)) <|
 .grd ((a1 + ((x5.2.1).toNat)) < x5.1.length ∧ 0 ≤ (a1 + ((x5.2.1).toNat))) <|
 .grd (0 ≤ x5.2.2 ∧ x5.2.2 < ((a2 : Nat) : Int)) <|
 .conv 3015 (azq 12 az2 (x5.1.set (a1 + ((x5.2.1).toNat)) (x5.1.getD (a1 + ((x5.2.2).toNat)) default)) 57 (a1 + ((x5.2.2).toNat)) (x5.1.getD (a1 + ((x5.2.1).toNat)) default)) <|
 .grd ((a1 + ((x5.2.2).toNat)) < (x5.1.set (a1 + ((x5.2.1).toNat)) (x5.1.getD (a1 + ((x5.2.2).toNat)) default)).length ∧ 0 ≤ (a1 + ((x5.2.2).toNat))) <|
 .ret (.next (((x5.1.set (a1 + ((x5.2.1).toNat)) (x5.1.getD (a1 + ((x5.2.2).toNat)) default)).set (a1 + ((x5.2.2).toNat)) (x5.1.getD (a1 + ((x5.2.1).toNat)) default)), (IntKind.i64.wrap (x5.2.1 + 1)), (IntKind.i64.wrap (x5.2.2 - 1)))))
 (.ret (.out x5.1)))
 (a0, a3, (IntKind.i64.wrap (a4 - 1))) [] fun y6 =>
 .ret y6
noncomputable def czn (a0 : (List az1)) (a1 : Nat) (a2 : Nat) (a3 : Int) (a4 : Int) : CallS (List az1) :=
  mkC [] hd Tryz.func151 (by kernel_rfl) (bza a0 a1 a2 a3 a4) 1 [.view 0 12 a1 a2, pz a3, pz a4, .func 43 [] []] [(0, vecO 12 az2 a0 57)] (fun _ => .tup []) (fun r => [(0, vecO 12 az2 r 57)]) (by kernel_rfl)
open Go.Proofs
set_option maxHeartbeats 8000000 in
set_option maxRecDepth 20000 in
noncomputable def azu (a0 : (List az1)) (a1 : Nat) (a2 : Nat) (a3 : Int) (a4 : Int) : T (Bool × (List az1)) :=
 .loop (fun (x4911 : ((List az1) × Int × Int)) => ⟨[(0, .view 0 12 a1 a2), (1, pz a3), (2, pz a4), (3, .func 43 [] []), (9, pz x4911.2.1), (10, pz x4911.2.2)], [(0, vecO 12 az2 x4911.1 57)], [], 1⟩)
 (.exit 0) (fun (y5402 : (List az1)) => ⟨[], [(0, vecO 12 az2 y5402 57)], [], 1⟩)
 (fun x4911 => .br (decide (x4911.2.2 < 5))
 (.cut 0 (fun (y5729 : ((List az1) × Int)) => ⟨[(0, .view 0 12 a1 a2), (1, pz a3), (2, pz a4), (3, .func 43 [] []), (9, pz y5729.2), (10, pz x4911.2.2)], [(0, vecO 12 az2 y5729.1 57)], [], 1⟩)
 (.loop (fun (x5766 : Int) => ⟨[(0, .view 0 12 a1 a2), (1, pz a3), (2, pz a4), (3, .func 43 [] []), (9, pz x5766), (10, pz x4911.2.2)], [(0, vecO 12 az2 x4911.1 57)], [], 1⟩)
 (.exit 2) (fun (y5775 : Int) => ⟨[(0, .view 0 12 a1 a2), (1, pz a3), (2, pz a4), (3, .func 43 [] []), (9, pz y5775), (10, pz x4911.2.2)], [(0, vecO 12 az2 x4911.1 57)], [], 1⟩)
 (fun x5766 => .cut 1 (fun (y5782 : Bool) => ⟨[(0, .view 0 12 a1 a2), (1, pz a3), (2, pz a4), (3, .func 43 [] []), (9, pz x5766), (10, pz x4911.2.2), (36, .pure (.bool y5782))], [(0, vecO 12 az2 x4911.1 57)], [], 1⟩)
 (.br (decide (x5766 < a4))
 (.grd (0 ≤ x5766 ∧ x5766 < ((a2 : Nat) : Int)) <|
 .grd ((a1 + ((x5766).toNat)) < x4911.1.length) <|
 .grd (0 ≤ (IntKind.i64.wrap (x5766 - 1)) ∧ (IntKind.i64.wrap (x5766 - 1)) < ((a2 : Nat) : Int)) <|
 .grd ((a1 + (((IntKind.i64.wrap (x5766 - 1))).toNat)) < x4911.1.length) <|
 .call (azp (x4911.1.getD (a1 + ((x5766).toNat)) default) (x4911.1.getD (a1 + (((IntKind.i64.wrap (x5766 - 1))).toNat)) default)) [] fun y5783 =>
 .ret (.out (!(decide (y5783 < 0)))))
 (.ret (.out false))) fun y5782 =>
 .br y5782
 (.ret (.next (IntKind.i64.wrap (x5766 + 1))))
 (.ret (.out x5766)))
 x4911.2.1 [] fun y5775 =>
 .br (y5775 == a4)
 (.ret (.fin (.fin (true, x4911.1))))
 (.br (decide ((IntKind.i64.wrap (a4 - a3)) < 50))
 (.ret (.fin (.fin (false, x4911.1))))
 (.grd (0 ≤ (IntKind.i64.wrap (y5775 - 1)) ∧ (IntKind.i64.wrap (y5775 - 1)) < ((a2 : Nat) : Int)) <|
 .grd ((a1 + (((IntKind.i64.wrap (y5775 - 1))).toNat)) < x4911.1.length) <|
 .grd (0 ≤ y5775 ∧ y5775 < ((a2 : Nat) : Int)) <|
 .grd ((a1 + ((y5775).toNat)) < x4911.1.length) <|
 .grd (0 ≤ y5775 ∧ y5775 < ((a2 : Nat) : Int)) <|
 .conv 11015 (azq 12 az2 x4911.1 57 (a1 + ((y5775).toNat)) (x4911.1.getD (a1 + (((IntKind.i64.wrap (y5775 - 1))).toNat)) default)) <|
 .grd ((a1 + ((y5775).toNat)) < x4911.1.length ∧ 0 ≤ (a1 + ((y5775).toNat))) <|
 .grd (0 ≤ (IntKind.i64.wrap (y5775 - 1)) ∧ (IntKind.i64.wrap (y5775 - 1)) < ((a2 : Nat) : Int)) <|
 .conv 11017 (azq 12 az2 (x4911.1.set (a1 + ((y5775).toNat)) (x4911.1.getD (a1 + (((IntKind.i64.wrap (y5775 - 1))).toNat)) default)) 57 (a1 + (((IntKind.i64.wrap (y5775 - 1))).toNat)) (x4911.1.getD (a1 + ((y5775).toNat)) default)) <|
 .grd ((a1 + (((IntKind.i64.wrap (y5775 - 1))).toNat)) < (x4911.1.set (a1 + ((y5775).toNat)) (x4911.1.getD (a1 + (((IntKind.i64.wrap (y5775 - 1))).toNat)) default)).length ∧ 0 ≤ (a1 + (((IntKind.i64.wrap (y5775 - 1))).toNat))) <|
 .cut 0 (fun (y5838 : (List az1)) => ⟨[(0, .view 0 12 a1 a2), (1, pz a3), (2, pz a4), (3, .func 43 [] []), (9, pz y5775), (10, pz x4911.2.2)], [(0, vecO 12 az2 y5838 57)], [], 1⟩)
 (.br (decide ((IntKind.i64.wrap (y5775 - a3)) ≥ 2))
 (.loop (fun (x5848 : ((List az1) × Int)) => ⟨[(0, .view 0 12 a1 a2), (1, pz a3), (2, pz a4), (3, .func 43 [] []), (9, pz y5775), (10, pz x4911.2.2), (11, pz x5848.2)], [(0, vecO 12 az2 x5848.1 57)], [], 1⟩)
 (.exit 4) (fun (y5857 : (List az1)) => ⟨[(0, .view 0 12 a1 a2), (1, pz a3), (2, pz a4), (3, .func 43 [] []), (9, pz y5775), (10, pz x4911.2.2)], [(0, vecO 12 az2 y5857 57)], [], 1⟩)
 (fun x5848 => .br (decide (x5848.2 ≥ 1))
 (.grd (0 ≤ x5848.2 ∧ x5848.2 < ((a2 : Nat) : Int)) <|
 .grd ((a1 + ((x5848.2).toNat)) < x5848.1.length) <|
 .grd (0 ≤ (IntKind.i64.wrap (x5848.2 - 1)) ∧ (IntKind.i64.wrap (x5848.2 - 1)) < ((a2 : Nat) : Int)) <|
 .grd ((a1 + (((IntKind.i64.wrap (x5848.2 - 1))).toNat)) < x5848.1.length) <|
 .call (azp (x5848.1.getD (a1 + ((x5848.2).toNat)) default) (x5848.1.getD (a1 + (((IntKind.i64.wrap (x5848.2 - 1))).toNat)) default)) [] fun y5865 =>
 .br (!(decide (y5865 < 0)))
 (.ret (.out x5848.1))
 (.grd (0 ≤ (IntKind.i64.wrap (x5848.2 - 1)) ∧ (IntKind.i64.wrap (x5848.2 - 1)) < ((a2 : Nat) : Int)) <|
 .grd ((a1 + (((IntKind.i64.wrap (x5848.2 - 1))).toNat)) < x5848.1.length) <|
 .grd (0 ≤ x5848.2 ∧ x5848.2 < ((a2 : Nat) : Int)) <|
 .grd ((a1 + ((x5848.2).toNat)) < x5848.1.length) <|
 .grd (0 ≤ x5848.2 ∧ x5848.2 < ((a2 : Nat) : Int)) <|
 .conv 17015 (azq 12 az2 x5848.1 57 (a1 + ((x5848.2).toNat)) (x5848.1.getD (a1 + (((IntKind.i64.wrap (x5848.2 - 1))).toNat)) default)) <|
 .grd ((a1 + ((x5848.2).toNat)) < x5848.1.length ∧ 0 ≤ (a1 + ((x5848.2).toNat))) <|
 .grd (0 ≤ (IntKind.i64.wrap (x5848.2 - 1)) ∧ (IntKind.i64.wrap (x5848.2 - 1)) < ((a2 : Nat) : Int)) <|
 .conv 17017 (azq 12 az2 (x5848.1.set (a1 + ((x5848.2).toNat)) (x5848.1.getD (a1 + (((IntKind.i64.wrap (x5848.2 - 1))).toNat)) default)) 57 (a1 + (((IntKind.i64.wrap (x5848.2 - 1))).toNat)) (x5848.1.getD (a1 + ((x5848.2).toNat)) default)) <|
 .grd ((a1 + (((IntKind.i64.wrap (x5848.2 - 1))).toNat)) < (x5848.1.set (a1 + ((x5848.2).toNat)) (x5848.1.getD (a1 + (((IntKind.i64.wrap (x5848.2 - 1))).toNat)) default)).length ∧ 0 ≤ (a1 + (((IntKind.i64.wrap (x5848.2 - 1))).toNat))) <|
 .ret (.next (((x5848.1.set (a1 + ((x5848.2).toNat)) (x5848.1.getD (a1 + (((IntKind.i64.wrap (x5848.2 - 1))).toNat)) default)).set (a1 + (((IntKind.i64.wrap (x5848.2 - 1))).toNat)) (x5848.1.getD (a1 + ((x5848.2).toNat)) default)), (IntKind.i64.wrap (x5848.2 - 1))))))
 (.ret (.out x5848.1)))
 (((x4911.1.set (a1 + ((y5775).toNat)) (x4911.1.getD (a1 + (((IntKind.i64.wrap (y5775 - 1))).toNat)) default)).set (a1 + (((IntKind.i64.wrap (y5775 - 1))).toNat)) (x4911.1.getD (a1 + ((y5775).toNat)) default)), (IntKind.i64.wrap (y5775 - 1))) [] fun y5857 =>
 .ret (.out y5857))
 (.ret (.out ((x4911.1.set (a1 + ((y5775).toNat)) (x4911.1.getD (a1 + (((IntKind.i64.wrap (y5775 - 1))).toNat)) default)).set (a1 + (((IntKind.i64.wrap (y5775 - 1))).toNat)) (x4911.1.getD (a1 + ((y5775).toNat)) default))))) fun y5838 =>
 .br (decide ((IntKind.i64.wrap (a4 - y5775)) ≥ 2))
 (.loop (fun (x5875 : ((List az1) × Int)) => ⟨[(0, .view 0 12 a1 a2), (1, pz a3), (2, pz a4), (3, .func 43 [] []), (9, pz y5775), (10, pz x4911.2.2), (12, pz x5875.2)], [(0, vecO 12 az2 x5875.1 57)], [], 1⟩)
 (.exit 6) (fun (y5884 : (List az1)) => ⟨[(0, .view 0 12 a1 a2), (1, pz a3), (2, pz a4), (3, .func 43 [] []), (9, pz y5775), (10, pz x4911.2.2)], [(0, vecO 12 az2 y5884 57)], [], 1⟩)
 (fun x5875 => .br (decide (x5875.2 < a4))
 (.grd (0 ≤ x5875.2 ∧ x5875.2 < ((a2 : Nat) : Int)) <|
 .grd ((a1 + ((x5875.2).toNat)) < x5875.1.length) <|
 .grd (0 ≤ (IntKind.i64.wrap (x5875.2 - 1)) ∧ (IntKind.i64.wrap (x5875.2 - 1)) < ((a2 : Nat) : Int)) <|
 .grd ((a1 + (((IntKind.i64.wrap (x5875.2 - 1))).toNat)) < x5875.1.length) <|
 .call (azp (x5875.1.getD (a1 + ((x5875.2).toNat)) default) (x5875.1.getD (a1 + (((IntKind.i64.wrap (x5875.2 - 1))).toNat)) default)) [] fun y5892 =>
 .br (!(decide (y5892 < 0)))
 (.ret (.out x5875.1))
 (.grd (0 ≤ (IntKind.i64.wrap (x5875.2 - 1)) ∧ (IntKind.i64.wrap (x5875.2 - 1)) < ((a2 : Nat) : Int)) <|
 .grd ((a1 + (((IntKind.i64.wrap (x5875.2 - 1))).toNat)) < x5875.1.length) <|
 .grd (0 ≤ x5875.2 ∧ x5875.2 < ((a2 : Nat) : Int)) <|
 .grd ((a1 + ((x5875.2).toNat)) < x5875.1.length) <|
 .grd (0 ≤ x5875.2 ∧ x5875.2 < ((a2 : Nat) : Int)) <|
 .conv 23015 (azq 12 az2 x5875.1 57 (a1 + ((x5875.2).toNat)) (x5875.1.getD (a1 + (((IntKind.i64.wrap (x5875.2 - 1))).toNat)) default)) <|
 .grd ((a1 + ((x5875.2).toNat)) < x5875.1.length ∧ 0 ≤ (a1 + ((x5875.2).toNat))) <|
 .grd (0 ≤ (IntKind.i64.wrap (x5875.2 - 1)) ∧ (IntKind.i64.wrap (x5875.2 - 1)) < ((a2 : Nat) : Int)) <|
 .conv 23017 (azq 12 az2 (x5875.1.set (a1 + ((x5875.2).toNat)) (x5875.1.getD (a1 + (((IntKind.i64.wrap (x5875.2 - 1))).toNat)) default)) 57 (a1 + (((IntKind.i64.wrap (x5875.2 - 1))).toNat)) (x5875.1.getD (a1 + ((x5875.2).toNat)) default)) <|
 .grd ((a1 + (((IntKind.i64.wrap (x5875.2 - 1))).toNat)) < (x5875.1.set (a1 + ((x5875.2).toNat)) (x5875.1.getD (a1 + (((IntKind.i64.wrap (x5875.2 - 1))).toNat)) default)).length ∧ 0 ≤ (a1 + (((IntKind.i64.wrap (x5875.2 - 1))).toNat))) <|
 .ret (.next (((x5875.1.set (a1 + ((x5875.2).toNat)) (x5875.1.getD (a1 + (((IntKind.i64.wrap (x5875.2 - 1))).toNat)) default)).set (a1 + (((IntKind.i64.wrap (x5875.2 - 1))).toNat)) (x5875.1.getD (a1 + ((x5875.2).toNat)) default)), (IntKind.i64.wrap (x5875.2 + 1))))))
 (.ret (.out x5875.1)))
 (y5838, (IntKind.i64.wrap (y5775 + 1))) [] fun y5884 =>
 .ret (.out (y5884, y5775)))
 (.ret (.out (y5838, y5775)))))) fun y5729 =>
 .ret (.next (y5729.1, y5729.2, (IntKind.i64.wrap (x4911.2.2 + 1)))))
 (.ret (.out x4911.1)))
 (a0, (IntKind.i64.wrap (a3 + 1)), 0) [] fun y5402 =>
 .ret (false, y5402)
noncomputable def bzq (a0 : (List az1)) (a1 : Nat) (a2 : Nat) (a3 : Int) (a4 : Int) : CallS (Bool × (List az1)) :=
  mkC [] hd Tryz.func152 (by kernel_rfl) (azu a0 a1 a2 a3 a4) 1 [.view 0 12 a1 a2, pz a3, pz a4, .func 43 [] []] [(0, vecO 12 az2 a0 57)] (fun r => .pure (.bool r.1)) (fun r => [(0, vecO 12 az2 r.2 57)]) (by kernel_rfl)
noncomputable def bz5 (a0 : (List az1)) (a1 : Nat) (a2 : Nat) (a3 : Int) (a4 : Int) (a5 : Int) : T (Int × (List az1)) :=
 .grd (0 ≤ a5 ∧ a5 < ((a2 : Nat) : Int)) <|
 .grd ((a1 + ((a5).toNat)) < a0.length) <|
 .grd (0 ≤ a3 ∧ a3 < ((a2 : Nat) : Int)) <|
 .grd ((a1 + ((a3).toNat)) < a0.length) <|
 .grd (0 ≤ a3 ∧ a3 < ((a2 : Nat) : Int)) <|
 .conv 1013 (azq 12 az2 a0 57 (a1 + ((a3).toNat)) (a0.getD (a1 + ((a5).toNat)) default)) <|
 .grd ((a1 + ((a3).toNat)) < a0.length ∧ 0 ≤ (a1 + ((a3).toNat))) <|
 .grd (0 ≤ a5 ∧ a5 < ((a2 : Nat) : Int)) <|
 .conv 1015 (azq 12 az2 (a0.set (a1 + ((a3).toNat)) (a0.getD (a1 + ((a5).toNat)) default)) 57 (a1 + ((a5).toNat)) (a0.getD (a1 + ((a3).toNat)) default)) <|
 .grd ((a1 + ((a5).toNat)) < (a0.set (a1 + ((a3).toNat)) (a0.getD (a1 + ((a5).toNat)) default)).length ∧ 0 ≤ (a1 + ((a5).toNat))) <|
 .loop (fun (x1091 : ((List az1) × Int × Int)) => ⟨[(0, .view 0 12 a1 a2), (1, pz a3), (4, .func 43 [] []), (11, pz x1091.2.1), (12, pz x1091.2.2)], [(0, vecO 12 az2 x1091.1 57)], [], 1⟩)
 (.exit 0) (fun (y1200 : (Int × (List az1))) => ⟨[(11, pz y1200.1)], [(0, vecO 12 az2 y1200.2 57)], [], 1⟩)
 (fun x1091 => .loop (fun (x1237 : Int) => ⟨[(0, .view 0 12 a1 a2), (1, pz a3), (4, .func 43 [] []), (11, pz x1237), (12, pz x1091.2.2)], [(0, vecO 12 az2 x1091.1 57)], [], 1⟩)
 (.exit 2) (fun (y1246 : Int) => ⟨[(0, .view 0 12 a1 a2), (1, pz a3), (4, .func 43 [] []), (11, pz y1246), (12, pz x1091.2.2)], [(0, vecO 12 az2 x1091.1 57)], [], 1⟩)
 (fun x1237 => .cut 1 (fun (y1253 : Bool) => ⟨[(0, .view 0 12 a1 a2), (1, pz a3), (4, .func 43 [] []), (11, pz x1237), (12, pz x1091.2.2), (47, .pure (.bool y1253))], [(0, vecO 12 az2 x1091.1 57)], [], 1⟩)
 (.br (decide (x1237 ≤ x1091.2.2))
 (.grd (0 ≤ a3 ∧ a3 < ((a2 : Nat) : Int)) <|
 .grd ((a1 + ((a3).toNat)) < x1091.1.length) <|
 .grd (0 ≤ x1237 ∧ x1237 < ((a2 : Nat) : Int)) <|
 .grd ((a1 + ((x1237).toNat)) < x1091.1.length) <|
 .call (azp (x1091.1.getD (a1 + ((a3).toNat)) default) (x1091.1.getD (a1 + ((x1237).toNat)) default)) [] fun y1254 =>
 .ret (.out (!(decide (y1254 < 0)))))
 (.ret (.out false))) fun y1253 =>
 .br y1253
 (.ret (.next (IntKind.i64.wrap (x1237 + 1))))
 (.ret (.out x1237)))
 x1091.2.1 [] fun y1246 =>
 .loop (fun (x1291 : Int) => ⟨[(0, .view 0 12 a1 a2), (1, pz a3), (4, .func 43 [] []), (11, pz y1246), (12, pz x1291)], [(0, vecO 12 az2 x1091.1 57)], [], 1⟩)
 (.exit 4) (fun (y1300 : Int) => ⟨[(0, .view 0 12 a1 a2), (1, pz a3), (4, .func 43 [] []), (11, pz y1246), (12, pz y1300)], [(0, vecO 12 az2 x1091.1 57)], [], 1⟩)
 (fun x1291 => .cut 1 (fun (y1307 : Bool) => ⟨[(0, .view 0 12 a1 a2), (1, pz a3), (4, .func 43 [] []), (11, pz y1246), (12, pz x1291), (65, .pure (.bool y1307))], [(0, vecO 12 az2 x1091.1 57)], [], 1⟩)
 (.br (decide (y1246 ≤ x1291))
 (.grd (0 ≤ a3 ∧ a3 < ((a2 : Nat) : Int)) <|
 .grd ((a1 + ((a3).toNat)) < x1091.1.length) <|
 .grd (0 ≤ x1291 ∧ x1291 < ((a2 : Nat) : Int)) <|
 .grd ((a1 + ((x1291).toNat)) < x1091.1.length) <|
 .call (azp (x1091.1.getD (a1 + ((a3).toNat)) default) (x1091.1.getD (a1 + ((x1291).toNat)) default)) [] fun y1308 =>
 .ret (.out (decide (y1308 < 0))))
 (.ret (.out false))) fun y1307 =>
 .br y1307
 (.ret (.next (IntKind.i64.wrap (x1291 - 1))))
 (.ret (.out x1291)))
 x1091.2.2 [] fun y1300 =>
 .br (decide (y1246 > y1300))
 (.ret (.out (y1246, x1091.1)))
 (.grd (0 ≤ y1300 ∧ y1300 < ((a2 : Nat) : Int)) <|
 .grd ((a1 + ((y1300).toNat)) < x1091.1.length) <|
 .grd (0 ≤ y1246 ∧ y1246 < ((a2 : Nat) : Int)) <|
 .grd ((a1 + ((y1246).toNat)) < x1091.1.length) <|
 .grd (0 ≤ y1246 ∧ y1246 < ((a2 : Nat) : Int)) <|
 .conv 8013 (azq 12 az2 x1091.1 57 (a1 + ((y1246).toNat)) (x1091.1.getD (a1 + ((y1300).toNat)) default)) <|
 .grd ((a1 + ((y1246).toNat)) < x1091.1.length ∧ 0 ≤ (a1 + ((y1246).toNat))) <|
 .grd (0 ≤ y1300 ∧ y1300 < ((a2 : Nat) : Int)) <|
 .conv 8015 (azq 12 az2 (x1091.1.set (a1 + ((y1246).toNat)) (x1091.1.getD (a1 + ((y1300).toNat)) default)) 57 (a1 + ((y1300).toNat)) (x1091.1.getD (a1 + ((y1246).toNat)) default)) <|
 .grd ((a1 + ((y1300).toNat)) < (x1091.1.set (a1 + ((y1246).toNat)) (x1091.1.getD (a1 + ((y1300).toNat)) default)).length ∧ 0 ≤ (a1 + ((y1300).toNat))) <|
 .ret (.next (((x1091.1.set (a1 + ((y1246).toNat)) (x1091.1.getD (a1 + ((y1300).toNat)) default)).set (a1 + ((y1300).toNat)) (x1091.1.getD (a1 + ((y1246).toNat)) default)), (IntKind.i64.wrap (y1246 + 1)), (IntKind.i64.wrap (y1300 - 1))))))
 (((a0.set (a1 + ((a3).toNat)) (a0.getD (a1 + ((a5).toNat)) default)).set (a1 + ((a5).toNat)) (a0.getD (a1 + ((a3).toNat)) default)), (IntKind.i64.wrap (a3 + 1)), (IntKind.i64.wrap (a4 - 1))) [] fun y1200 =>
 .ret (y1200.1, y1200.2)
noncomputable def cz8 (a0 : (List az1)) (a1 : Nat) (a2 : Nat) (a3 : Int) (a4 : Int) (a5 : Int) : CallS (Int × (List az1)) :=
  mkC [] hd Tryz.func153 (by kernel_rfl) (bz5 a0 a1 a2 a3 a4 a5) 1 [.view 0 12 a1 a2, pz a3, pz a4, pz a5, .func 43 [] []] [(0, vecO 12 az2 a0 57)] (fun r => pz r.1) (fun r => [(0, vecO 12 az2 r.2 57)]) (by kernel_rfl)
set_option maxHeartbeats 8000000 in
set_option maxRecDepth 20000 in
noncomputable def bzj (a0 : (List az1)) (a1 : Nat) (a2 : Nat) (a3 : Int) (a4 : Int) (a5 : Int) : T (Int × Bool × (List az1)) :=
 .grd (0 ≤ a5 ∧ a5 < ((a2 : Nat) : Int)) <|
 .grd ((a1 + ((a5).toNat)) < a0.length) <|
 .grd (0 ≤ a3 ∧ a3 < ((a2 : Nat) : Int)) <|
 .grd ((a1 + ((a3).toNat)) < a0.length) <|
 .grd (0 ≤ a3 ∧ a3 < ((a2 : Nat) : Int)) <|
 .conv 1013 (azq 12 az2 a0 57 (a1 + ((a3).toNat)) (a0.getD (a1 + ((a5).toNat)) default)) <|
 .grd ((a1 + ((a3).toNat)) < a0.length ∧ 0 ≤ (a1 + ((a3).toNat))) <|
 .grd (0 ≤ a5 ∧ a5 < ((a2 : Nat) : Int)) <|
 .conv 1015 (azq 12 az2 (a0.set (a1 + ((a3).toNat)) (a0.getD (a1 + ((a5).toNat)) default)) 57 (a1 + ((a5).toNat)) (a0.getD (a1 + ((a3).toNat)) default)) <|
 .grd ((a1 + ((a5).toNat)) < (a0.set (a1 + ((a3).toNat)) (a0.getD (a1 + ((a5).toNat)) default)).length ∧ 0 ≤ (a1 + ((a5).toNat))) <|
 .loop (fun (x799 : Int) => ⟨[(0, .view 0 12 a1 a2), (1, pz a3), (4, .func 43 [] []), (12, pz x799), (13, pz (IntKind.i64.wrap (a4 - 1)))], [(0, vecO 12 az2 ((a0.set (a1 + ((a3).toNat)) (a0.getD (a1 + ((a5).toNat)) default)).set (a1 + ((a5).toNat)) (a0.getD (a1 + ((a3).toNat)) default)) 57)], [], 1⟩)
 (.exit 0) (fun (y808 : Int) => ⟨[(0, .view 0 12 a1 a2), (1, pz a3), (4, .func 43 [] []), (12, pz y808), (13, pz (IntKind.i64.wrap (a4 - 1)))], [(0, vecO 12 az2 ((a0.set (a1 + ((a3).toNat)) (a0.getD (a1 + ((a5).toNat)) default)).set (a1 + ((a5).toNat)) (a0.getD (a1 + ((a3).toNat)) default)) 57)], [], 1⟩)
 (fun x799 => .cut 1 (fun (y815 : Bool) => ⟨[(0, .view 0 12 a1 a2), (1, pz a3), (4, .func 43 [] []), (12, pz x799), (13, pz (IntKind.i64.wrap (a4 - 1))), (47, .pure (.bool y815))], [(0, vecO 12 az2 ((a0.set (a1 + ((a3).toNat)) (a0.getD (a1 + ((a5).toNat)) default)).set (a1 + ((a5).toNat)) (a0.getD (a1 + ((a3).toNat)) default)) 57)], [], 1⟩)
 (.br (decide (x799 ≤ (IntKind.i64.wrap (a4 - 1))))
 (.grd (0 ≤ x799 ∧ x799 < ((a2 : Nat) : Int)) <|
 .grd ((a1 + ((x799).toNat)) < ((a0.set (a1 + ((a3).toNat)) (a0.getD (a1 + ((a5).toNat)) default)).set (a1 + ((a5).toNat)) (a0.getD (a1 + ((a3).toNat)) default)).length) <|
 .grd (0 ≤ a3 ∧ a3 < ((a2 : Nat) : Int)) <|
 .grd ((a1 + ((a3).toNat)) < ((a0.set (a1 + ((a3).toNat)) (a0.getD (a1 + ((a5).toNat)) default)).set (a1 + ((a5).toNat)) (a0.getD (a1 + ((a3).toNat)) default)).length) <|
 .call (azp (((a0.set (a1 + ((a3).toNat)) (a0.getD (a1 + ((a5).toNat)) default)).set (a1 + ((a5).toNat)) (a0.getD (a1 + ((a3).toNat)) default)).getD (a1 + ((x799).toNat)) default) (((a0.set (a1 + ((a3).toNat)) (a0.getD (a1 + ((a5).toNat)) default)).set (a1 + ((a5).toNat)) (a0.getD (a1 + ((a3).toNat)) default)).getD (a1 + ((a3).toNat)) default)) [] fun y816 =>
 .ret (.out (decide (y816 < 0))))
 (.ret (.out false))) fun y815 =>
 .br y815
 (.ret (.next (IntKind.i64.wrap (x799 + 1))))
 (.ret (.out x799)))
 (IntKind.i64.wrap (a3 + 1)) [] fun y808 =>
 .loop (fun (x853 : Int) => ⟨[(0, .view 0 12 a1 a2), (1, pz a3), (4, .func 43 [] []), (12, pz y808), (13, pz x853)], [(0, vecO 12 az2 ((a0.set (a1 + ((a3).toNat)) (a0.getD (a1 + ((a5).toNat)) default)).set (a1 + ((a5).toNat)) (a0.getD (a1 + ((a3).toNat)) default)) 57)], [], 1⟩)
 (.exit 2) (fun (y862 : Int) => ⟨[(0, .view 0 12 a1 a2), (1, pz a3), (4, .func 43 [] []), (12, pz y808), (13, pz y862)], [(0, vecO 12 az2 ((a0.set (a1 + ((a3).toNat)) (a0.getD (a1 + ((a5).toNat)) default)).set (a1 + ((a5).toNat)) (a0.getD (a1 + ((a3).toNat)) default)) 57)], [], 1⟩)
 (fun x853 => .cut 1 (fun (y869 : Bool) => ⟨[(0, .view 0 12 a1 a2), (1, pz a3), (4, .func 43 [] []), (12, pz y808), (13, pz x853), (66, .pure (.bool y869))], [(0, vecO 12 az2 ((a0.set (a1 + ((a3).toNat)) (a0.getD (a1 + ((a5).toNat)) default)).set (a1 + ((a5).toNat)) (a0.getD (a1 + ((a3).toNat)) default)) 57)], [], 1⟩)
 (.br (decide (y808 ≤ x853))
 (.grd (0 ≤ x853 ∧ x853 < ((a2 : Nat) : Int)) <|
 .grd ((a1 + ((x853).toNat)) < ((a0.set (a1 + ((a3).toNat)) (a0.getD (a1 + ((a5).toNat)) default)).set (a1 + ((a5).toNat)) (a0.getD (a1 + ((a3).toNat)) default)).length) <|
 .grd (0 ≤ a3 ∧ a3 < ((a2 : Nat) : Int)) <|
 .grd ((a1 + ((a3).toNat)) < ((a0.set (a1 + ((a3).toNat)) (a0.getD (a1 + ((a5).toNat)) default)).set (a1 + ((a5).toNat)) (a0.getD (a1 + ((a3).toNat)) default)).length) <|
 .call (azp (((a0.set (a1 + ((a3).toNat)) (a0.getD (a1 + ((a5).toNat)) default)).set (a1 + ((a5).toNat)) (a0.getD (a1 + ((a3).toNat)) default)).getD (a1 + ((x853).toNat)) default) (((a0.set (a1 + ((a3).toNat)) (a0.getD (a1 + ((a5).toNat)) default)).set (a1 + ((a5).toNat)) (a0.getD (a1 + ((a3).toNat)) default)).getD (a1 + ((a3).toNat)) default)) [] fun y870 =>
 .ret (.out (!(decide (y870 < 0)))))
 (.ret (.out false))) fun y869 =>
 .br y869
 (.ret (.next (IntKind.i64.wrap (x853 - 1))))
 (.ret (.out x853)))
 (IntKind.i64.wrap (a4 - 1)) [] fun y862 =>
 .br (decide (y808 > y862))
 (.grd (0 ≤ a3 ∧ a3 < ((a2 : Nat) : Int)) <|
 .grd ((a1 + ((a3).toNat)) < ((a0.set (a1 + ((a3).toNat)) (a0.getD (a1 + ((a5).toNat)) default)).set (a1 + ((a5).toNat)) (a0.getD (a1 + ((a3).toNat)) default)).length) <|
 .grd (0 ≤ y862 ∧ y862 < ((a2 : Nat) : Int)) <|
 .grd ((a1 + ((y862).toNat)) < ((a0.set (a1 + ((a3).toNat)) (a0.getD (a1 + ((a5).toNat)) default)).set (a1 + ((a5).toNat)) (a0.getD (a1 + ((a3).toNat)) default)).length) <|
 .grd (0 ≤ y862 ∧ y862 < ((a2 : Nat) : Int)) <|
 .conv 8013 (azq 12 az2 ((a0.set (a1 + ((a3).toNat)) (a0.getD (a1 + ((a5).toNat)) default)).set (a1 + ((a5).toNat)) (a0.getD (a1 + ((a3).toNat)) default)) 57 (a1 + ((y862).toNat)) (((a0.set (a1 + ((a3).toNat)) (a0.getD (a1 + ((a5).toNat)) default)).set (a1 + ((a5).toNat)) (a0.getD (a1 + ((a3).toNat)) default)).getD (a1 + ((a3).toNat)) default)) <|
 .grd ((a1 + ((y862).toNat)) < ((a0.set (a1 + ((a3).toNat)) (a0.getD (a1 + ((a5).toNat)) default)).set (a1 + ((a5).toNat)) (a0.getD (a1 + ((a3).toNat)) default)).length ∧ 0 ≤ (a1 + ((y862).toNat))) <|
 .grd (0 ≤ a3 ∧ a3 < ((a2 : Nat) : Int)) <|
 .conv 8015 (azq 12 az2 (((a0.set (a1 + ((a3).toNat)) (a0.getD (a1 + ((a5).toNat)) default)).set (a1 + ((a5).toNat)) (a0.getD (a1 + ((a3).toNat)) default)).set (a1 + ((y862).toNat)) (((a0.set (a1 + ((a3).toNat)) (a0.getD (a1 + ((a5).toNat)) default)).set (a1 + ((a5).toNat)) (a0.getD (a1 + ((a3).toNat)) default)).getD (a1 + ((a3).toNat)) default)) 57 (a1 + ((a3).toNat)) (((a0.set (a1 + ((a3).toNat)) (a0.getD (a1 + ((a5).toNat)) default)).set (a1 + ((a5).toNat)) (a0.getD (a1 + ((a3).toNat)) default)).getD (a1 + ((y862).toNat)) default)) <|
 .grd ((a1 + ((a3).toNat)) < (((a0.set (a1 + ((a3).toNat)) (a0.getD (a1 + ((a5).toNat)) default)).set (a1 + ((a5).toNat)) (a0.getD (a1 + ((a3).toNat)) default)).set (a1 + ((y862).toNat)) (((a0.set (a1 + ((a3).toNat)) (a0.getD (a1 + ((a5).toNat)) default)).set (a1 + ((a5).toNat)) (a0.getD (a1 + ((a3).toNat)) default)).getD (a1 + ((a3).toNat)) default)).length ∧ 0 ≤ (a1 + ((a3).toNat))) <|
 .ret (y862, true, ((((a0.set (a1 + ((a3).toNat)) (a0.getD (a1 + ((a5).toNat)) default)).set (a1 + ((a5).toNat)) (a0.getD (a1 + ((a3).toNat)) default)).set (a1 + ((y862).toNat)) (((a0.set (a1 + ((a3).toNat)) (a0.getD (a1 + ((a5).toNat)) default)).set (a1 + ((a5).toNat)) (a0.getD (a1 + ((a3).toNat)) default)).getD (a1 + ((a3).toNat)) default)).set (a1 + ((a3).toNat)) (((a0.set (a1 + ((a3).toNat)) (a0.getD (a1 + ((a5).toNat)) default)).set (a1 + ((a5).toNat)) (a0.getD (a1 + ((a3).toNat)) default)).getD (a1 + ((y862).toNat)) default))))
 (.grd (0 ≤ y862 ∧ y862 < ((a2 : Nat) : Int)) <|
 .grd ((a1 + ((y862).toNat)) < ((a0.set (a1 + ((a3).toNat)) (a0.getD (a1 + ((a5).toNat)) default)).set (a1 + ((a5).toNat)) (a0.getD (a1 + ((a3).toNat)) default)).length) <|
 .grd (0 ≤ y808 ∧ y808 < ((a2 : Nat) : Int)) <|
 .grd ((a1 + ((y808).toNat)) < ((a0.set (a1 + ((a3).toNat)) (a0.getD (a1 + ((a5).toNat)) default)).set (a1 + ((a5).toNat)) (a0.getD (a1 + ((a3).toNat)) default)).length) <|
 .grd (0 ≤ y808 ∧ y808 < ((a2 : Nat) : Int)) <|
 .conv 10013 (azq 12 az2 ((a0.set (a1 + ((a3).toNat)) (a0.getD (a1 + ((a5).toNat)) default)).set (a1 + ((a5).toNat)) (a0.getD (a1 + ((a3).toNat)) default)) 57 (a1 + ((y808).toNat)) (((a0.set (a1 + ((a3).toNat)) (a0.getD (a1 + ((a5).toNat)) default)).set (a1 + ((a5).toNat)) (a0.getD (a1 + ((a3).toNat)) default)).getD (a1 + ((y862).toNat)) default)) <|
 .grd ((a1 + ((y808).toNat)) < ((a0.set (a1 + ((a3).toNat)) (a0.getD (a1 + ((a5).toNat)) default)).set (a1 + ((a5).toNat)) (a0.getD (a1 + ((a3).toNat)) default)).length ∧ 0 ≤ (a1 + ((y808).toNat))) <|
 .grd (0 ≤ y862 ∧ y862 < ((a2 : Nat) : Int)) <|
 .conv 10015 (azq 12 az2 (((a0.set (a1 + ((a3).toNat)) (a0.getD (a1 + ((a5).toNat)) default)).set (a1 + ((a5).toNat)) (a0.getD (a1 + ((a3).toNat)) default)).set (a1 + ((y808).toNat)) (((a0.set (a1 + ((a3).toNat)) (a0.getD (a1 + ((a5).toNat)) default)).set (a1 + ((a5).toNat)) (a0.getD (a1 + ((a3).toNat)) default)).getD (a1 + ((y862).toNat)) default)) 57 (a1 + ((y862).toNat)) (((a0.set (a1 + ((a3).toNat)) (a0.getD (a1 + ((a5).toNat)) default)).set (a1 + ((a5).toNat)) (a0.getD (a1 + ((a3).toNat)) default)).getD (a1 + ((y808).toNat)) default)) <|
 .grd ((a1 + ((y862).toNat)) < (((a0.set (a1 + ((a3).toNat)) (a0.getD (a1 + ((a5).toNat)) default)).set (a1 + ((a5).toNat)) (a0.getD (a1 + ((a3).toNat)) default)).set (a1 + ((y808).toNat)) (((a0.set (a1 + ((a3).toNat)) (a0.getD (a1 + ((a5).toNat)) default)).set (a1 + ((a5).toNat)) (a0.getD (a1 + ((a3).toNat)) default)).getD (a1 + ((y862).toNat)) default)).length ∧ 0 ≤ (a1 + ((y862).toNat))) <|
 .loop (fun (x1307 : ((List az1) × Int × Int)) => ⟨[(0, .view 0 12 a1 a2), (1, pz a3), (4, .func 43 [] []), (12, pz x1307.2.1), (13, pz x1307.2.2)], [(0, vecO 12 az2 x1307.1 57)], [], 1⟩)
 (.exit 4) (fun (y1416 : ((List az1) × Int)) => ⟨[(0, .view 0 12 a1 a2), (1, pz a3), (13, pz y1416.2)], [(0, vecO 12 az2 y1416.1 57)], [], 1⟩)
 (fun x1307 => .loop (fun (x1453 : Int) => ⟨[(0, .view 0 12 a1 a2), (1, pz a3), (4, .func 43 [] []), (12, pz x1453), (13, pz x1307.2.2)], [(0, vecO 12 az2 x1307.1 57)], [], 1⟩)
 (.exit 6) (fun (y1462 : Int) => ⟨[(0, .view 0 12 a1 a2), (1, pz a3), (4, .func 43 [] []), (12, pz y1462), (13, pz x1307.2.2)], [(0, vecO 12 az2 x1307.1 57)], [], 1⟩)
 (fun x1453 => .cut 1 (fun (y1469 : Bool) => ⟨[(0, .view 0 12 a1 a2), (1, pz a3), (4, .func 43 [] []), (12, pz x1453), (13, pz x1307.2.2), (120, .pure (.bool y1469))], [(0, vecO 12 az2 x1307.1 57)], [], 1⟩)
 (.br (decide (x1453 ≤ x1307.2.2))
 (.grd (0 ≤ x1453 ∧ x1453 < ((a2 : Nat) : Int)) <|
 .grd ((a1 + ((x1453).toNat)) < x1307.1.length) <|
 .grd (0 ≤ a3 ∧ a3 < ((a2 : Nat) : Int)) <|
 .grd ((a1 + ((a3).toNat)) < x1307.1.length) <|
 .call (azp (x1307.1.getD (a1 + ((x1453).toNat)) default) (x1307.1.getD (a1 + ((a3).toNat)) default)) [] fun y1470 =>
 .ret (.out (decide (y1470 < 0))))
 (.ret (.out false))) fun y1469 =>
 .br y1469
 (.ret (.next (IntKind.i64.wrap (x1453 + 1))))
 (.ret (.out x1453)))
 x1307.2.1 [] fun y1462 =>
 .loop (fun (x1507 : Int) => ⟨[(0, .view 0 12 a1 a2), (1, pz a3), (4, .func 43 [] []), (12, pz y1462), (13, pz x1507)], [(0, vecO 12 az2 x1307.1 57)], [], 1⟩)
 (.exit 8) (fun (y1516 : Int) => ⟨[(0, .view 0 12 a1 a2), (1, pz a3), (4, .func 43 [] []), (12, pz y1462), (13, pz y1516)], [(0, vecO 12 az2 x1307.1 57)], [], 1⟩)
 (fun x1507 => .cut 1 (fun (y1523 : Bool) => ⟨[(0, .view 0 12 a1 a2), (1, pz a3), (4, .func 43 [] []), (12, pz y1462), (13, pz x1507), (139, .pure (.bool y1523))], [(0, vecO 12 az2 x1307.1 57)], [], 1⟩)
 (.br (decide (y1462 ≤ x1507))
 (.grd (0 ≤ x1507 ∧ x1507 < ((a2 : Nat) : Int)) <|
 .grd ((a1 + ((x1507).toNat)) < x1307.1.length) <|
 .grd (0 ≤ a3 ∧ a3 < ((a2 : Nat) : Int)) <|
 .grd ((a1 + ((a3).toNat)) < x1307.1.length) <|
 .call (azp (x1307.1.getD (a1 + ((x1507).toNat)) default) (x1307.1.getD (a1 + ((a3).toNat)) default)) [] fun y1524 =>
 .ret (.out (!(decide (y1524 < 0)))))
 (.ret (.out false))) fun y1523 =>
 .br y1523
 (.ret (.next (IntKind.i64.wrap (x1507 - 1))))
 (.ret (.out x1507)))
 x1307.2.2 [] fun y1516 =>
 .br (decide (y1462 > y1516))
 (.ret (.out (x1307.1, y1516)))
 (.grd (0 ≤ y1516 ∧ y1516 < ((a2 : Nat) : Int)) <|
 .grd ((a1 + ((y1516).toNat)) < x1307.1.length) <|
 .grd (0 ≤ y1462 ∧ y1462 < ((a2 : Nat) : Int)) <|
 .grd ((a1 + ((y1462).toNat)) < x1307.1.length) <|
 .grd (0 ≤ y1462 ∧ y1462 < ((a2 : Nat) : Int)) <|
 .conv 18013 (azq 12 az2 x1307.1 57 (a1 + ((y1462).toNat)) (x1307.1.getD (a1 + ((y1516).toNat)) default)) <|
 .grd ((a1 + ((y1462).toNat)) < x1307.1.length ∧ 0 ≤ (a1 + ((y1462).toNat))) <|
 .grd (0 ≤ y1516 ∧ y1516 < ((a2 : Nat) : Int)) <|
 .conv 18015 (azq 12 az2 (x1307.1.set (a1 + ((y1462).toNat)) (x1307.1.getD (a1 + ((y1516).toNat)) default)) 57 (a1 + ((y1516).toNat)) (x1307.1.getD (a1 + ((y1462).toNat)) default)) <|
 .grd ((a1 + ((y1516).toNat)) < (x1307.1.set (a1 + ((y1462).toNat)) (x1307.1.getD (a1 + ((y1516).toNat)) default)).length ∧ 0 ≤ (a1 + ((y1516).toNat))) <|
 .ret (.next (((x1307.1.set (a1 + ((y1462).toNat)) (x1307.1.getD (a1 + ((y1516).toNat)) default)).set (a1 + ((y1516).toNat)) (x1307.1.getD (a1 + ((y1462).toNat)) default)), (IntKind.i64.wrap (y1462 + 1)), (IntKind.i64.wrap (y1516 - 1))))))
 (((((a0.set (a1 + ((a3).toNat)) (a0.getD (a1 + ((a5).toNat)) default)).set (a1 + ((a5).toNat)) (a0.getD (a1 + ((a3).toNat)) default)).set (a1 + ((y808).toNat)) (((a0.set (a1 + ((a3).toNat)) (a0.getD (a1 + ((a5).toNat)) default)).set (a1 + ((a5).toNat)) (a0.getD (a1 + ((a3).toNat)) default)).getD (a1 + ((y862).toNat)) default)).set (a1 + ((y862).toNat)) (((a0.set (a1 + ((a3).toNat)) (a0.getD (a1 + ((a5).toNat)) default)).set (a1 + ((a5).toNat)) (a0.getD (a1 + ((a3).toNat)) default)).getD (a1 + ((y808).toNat)) default)), (IntKind.i64.wrap (y808 + 1)), (IntKind.i64.wrap (y862 - 1))) [] fun y1416 =>
 .grd (0 ≤ a3 ∧ a3 < ((a2 : Nat) : Int)) <|
 .grd ((a1 + ((a3).toNat)) < y1416.1.length) <|
 .grd (0 ≤ y1416.2 ∧ y1416.2 < ((a2 : Nat) : Int)) <|
 .grd ((a1 + ((y1416.2).toNat)) < y1416.1.length) <|
 .grd (0 ≤ y1416.2 ∧ y1416.2 < ((a2 : Nat) : Int)) <|
 .conv 21013 (azq 12 az2 y1416.1 57 (a1 + ((y1416.2).toNat)) (y1416.1.getD (a1 + ((a3).toNat)) default)) <|
 .grd ((a1 + ((y1416.2).toNat)) < y1416.1.length ∧ 0 ≤ (a1 + ((y1416.2).toNat))) <|
 .grd (0 ≤ a3 ∧ a3 < ((a2 : Nat) : Int)) <|
 .conv 21015 (azq 12 az2 (y1416.1.set (a1 + ((y1416.2).toNat)) (y1416.1.getD (a1 + ((a3).toNat)) default)) 57 (a1 + ((a3).toNat)) (y1416.1.getD (a1 + ((y1416.2).toNat)) default)) <|
 .grd ((a1 + ((a3).toNat)) < (y1416.1.set (a1 + ((y1416.2).toNat)) (y1416.1.getD (a1 + ((a3).toNat)) default)).length ∧ 0 ≤ (a1 + ((a3).toNat))) <|
 .ret (y1416.2, false, ((y1416.1.set (a1 + ((y1416.2).toNat)) (y1416.1.getD (a1 + ((a3).toNat)) default)).set (a1 + ((a3).toNat)) (y1416.1.getD (a1 + ((y1416.2).toNat)) default))))
noncomputable def dz5 (a0 : (List az1)) (a1 : Nat) (a2 : Nat) (a3 : Int) (a4 : Int) (a5 : Int) : CallS (Int × Bool × (List az1)) :=
  mkC [] hd Tryz.func154 (by kernel_rfl) (bzj a0 a1 a2 a3 a4 a5) 1 [.view 0 12 a1 a2, pz a3, pz a4, pz a5, .func 43 [] []] [(0, vecO 12 az2 a0 57)] (fun r => .tup [pz r.1, .pure (.bool r.2.1)]) (fun r => [(0, vecO 12 az2 r.2.2 57)]) (by kernel_rfl)
noncomputable def bz7 (a0 : (List az1)) (a1 : Nat) (a2 : Nat) (a3 : Int) (a4 : Int) : T (List az1) :=
 .br (decide ((IntKind.i64.wrap (a4 - a3)) ≥ 8))
 (.call (ez2 (IntKind.i64.wrap (a4 - a3))) [] fun y51 =>
 .ok ((4 : Int) ≠ 0) (by decide) <|
 .name 4005 ((IntKind.i64.wrap ((IntKind.i64.wrap (a3 + (IntKind.i64.wrap ((IntKind.i64.wrap ((IntKind.i64.wrap (a4 - a3)).tdiv 4)) * 2)))) - 1))) fun z53 =>
 .loop (fun (x69 : ((List az1) × Int × Int)) => ⟨[(0, .view 0 12 a1 a2), (1, pz a3), (8, pz (IntKind.i64.wrap (a4 - a3))), (9, .ptr 1 0), (10, .pure (.int .u64 y51)), (11, pz x69.2.2)], [(0, vecO 12 az2 x69.1 57), (1, .box [.pure (.int .u64 x69.2.1)])], [], 2⟩)
 (.exit 0) (fun (y84 : (List az1)) => ⟨[], [(0, vecO 12 az2 y84 57)], [], 1⟩)
 (fun x69 => .ok ((4 : Int) ≠ 0) (by decide) <|
 .name 5006 ((IntKind.i64.wrap ((IntKind.i64.wrap (a3 + (IntKind.i64.wrap ((IntKind.i64.wrap ((IntKind.i64.wrap (a4 - a3)).tdiv 4)) * 2)))) + 1))) fun z88 =>
 .br (decide (x69.2.2 ≤ z88))
 (.call (izt x69.2.1) [(0, 1)] fun y96 =>
 .name 7004 ((IntKind.i64.wrap (IntKind.u64.wrap (((BitVec.ofInt 64 y96.1 &&& BitVec.ofInt 64 (IntKind.u64.wrap (y51 - 1))).toNat : Int))))) fun z97 =>
 .cut 0 (fun (y98 : Int) => ⟨[(0, .view 0 12 a1 a2), (1, pz a3), (8, pz (IntKind.i64.wrap (a4 - a3))), (9, .ptr 1 0), (10, .pure (.int .u64 y51)), (11, pz x69.2.2), (12, pz y98)], [(0, vecO 12 az2 x69.1 57), (1, .box [.pure (.int .u64 y96.2)])], [], 2⟩)
 (.br (decide (z97 ≥ (IntKind.i64.wrap (a4 - a3))))
 (.ret (.out (IntKind.i64.wrap (z97 - (IntKind.i64.wrap (a4 - a3))))))
 (.ret (.out z97))) fun y98 =>
 .grd (0 ≤ (IntKind.i64.wrap (a3 + y98)) ∧ (IntKind.i64.wrap (a3 + y98)) < ((a2 : Nat) : Int)) <|
 .grd ((a1 + (((IntKind.i64.wrap (a3 + y98))).toNat)) < x69.1.length) <|
 .grd (0 ≤ x69.2.2 ∧ x69.2.2 < ((a2 : Nat) : Int)) <|
 .grd ((a1 + ((x69.2.2).toNat)) < x69.1.length) <|
 .grd (0 ≤ x69.2.2 ∧ x69.2.2 < ((a2 : Nat) : Int)) <|
 .conv 10017 (azq 12 az2 x69.1 57 (a1 + ((x69.2.2).toNat)) (x69.1.getD (a1 + (((IntKind.i64.wrap (a3 + y98))).toNat)) default)) <|
 .grd ((a1 + ((x69.2.2).toNat)) < x69.1.length ∧ 0 ≤ (a1 + ((x69.2.2).toNat))) <|
 .grd (0 ≤ (IntKind.i64.wrap (a3 + y98)) ∧ (IntKind.i64.wrap (a3 + y98)) < ((a2 : Nat) : Int)) <|
 .conv 10019 (azq 12 az2 (x69.1.set (a1 + ((x69.2.2).toNat)) (x69.1.getD (a1 + (((IntKind.i64.wrap (a3 + y98))).toNat)) default)) 57 (a1 + (((IntKind.i64.wrap (a3 + y98))).toNat)) (x69.1.getD (a1 + ((x69.2.2).toNat)) default)) <|
 .grd ((a1 + (((IntKind.i64.wrap (a3 + y98))).toNat)) < (x69.1.set (a1 + ((x69.2.2).toNat)) (x69.1.getD (a1 + (((IntKind.i64.wrap (a3 + y98))).toNat)) default)).length ∧ 0 ≤ (a1 + (((IntKind.i64.wrap (a3 + y98))).toNat))) <|
 .ret (.next (((x69.1.set (a1 + ((x69.2.2).toNat)) (x69.1.getD (a1 + (((IntKind.i64.wrap (a3 + y98))).toNat)) default)).set (a1 + (((IntKind.i64.wrap (a3 + y98))).toNat)) (x69.1.getD (a1 + ((x69.2.2).toNat)) default)), y96.2, (IntKind.i64.wrap (x69.2.2 + 1)))))
 (.ret (.out x69.1)))
 (a0, (IntKind.u64.wrap (IntKind.i64.wrap (a4 - a3))), z53) [] fun y84 =>
 .ret y84)
 (.ret a0)
noncomputable def czf (a0 : (List az1)) (a1 : Nat) (a2 : Nat) (a3 : Int) (a4 : Int) : CallS (List az1) :=
  mkC [] hd Tryz.func149 (by kernel_rfl) (bz7 a0 a1 a2 a3 a4) 1 [.view 0 12 a1 a2, pz a3, pz a4, .func 43 [] []] [(0, vecO 12 az2 a0 57)] (fun _ => .tup []) (fun r => [(0, vecO 12 az2 r 57)]) (by kernel_rfl)
abbrev bzt := RecS Tryz.prog 123 1 ((List az1) × Nat × Nat × Int × Int × Int) (List az1) (fun a => [.view 0 12 a.2.1 a.2.2.1, pz a.2.2.2.1, pz a.2.2.2.2.1, pz a.2.2.2.2.2, .func 43 [] []]) (fun a => [(0, vecO 12 az2 a.1 57)]) (fun _ _ => .tup []) (fun _ r => [(0, vecO 12 az2 r 57)])
noncomputable def bzu (rec : bzt) (a0 : (List az1)) (a1 : Nat) (a2 : Nat) (a3 : Int) (a4 : Int) (a5 : Int) : T (List az1) :=
 .loop (fun (x194 : ((List az1) × Int × Int × Int × Bool × Bool)) => ⟨[(0, .view 0 12 a1 a2), (1, pz x194.2.1), (2, pz x194.2.2.1), (3, pz x194.2.2.2.1), (4, .func 43 [] []), (10, .pure (.bool x194.2.2.2.2.1)), (11, .pure (.bool x194.2.2.2.2.2))], [(0, vecO 12 az2 x194.1 57)], [], 1⟩)
 .ret (fun (_ : U0) => ⟨[], [], [], 1⟩)
 (fun x194 => .br (decide ((IntKind.i64.wrap (x194.2.2.1 - x194.2.1)) ≤ 12))
 (.call (czg x194.1 a1 a2 x194.2.1 x194.2.2.1) [(0, 0)] fun y245 =>
 .ret (.fin y245))
 (.br (x194.2.2.2.1 == 0)
 (.call (dzb x194.1 a1 a2 x194.2.1 x194.2.2.1) [(0, 0)] fun y247 =>
 .ret (.fin y247))
 (.cut 0 (fun (y252 : ((List az1) × Int)) => ⟨[(0, .view 0 12 a1 a2), (1, pz x194.2.1), (2, pz x194.2.2.1), (3, pz y252.2), (4, .func 43 [] []), (10, .pure (.bool x194.2.2.2.2.1)), (11, .pure (.bool x194.2.2.2.2.2)), (12, pz (IntKind.i64.wrap (x194.2.2.1 - x194.2.1)))], [(0, vecO 12 az2 y252.1 57)], [], 1⟩)
 (.br (!x194.2.2.2.2.1)
 (.call (czf x194.1 a1 a2 x194.2.1 x194.2.2.1) [(0, 0)] fun y254 =>
 .ret (.out (y254, (IntKind.i64.wrap (x194.2.2.2.1 - 1)))))
 (.ret (.out (x194.1, x194.2.2.2.1)))) fun y252 =>
 .call (czt y252.1 a1 a2 x194.2.1 x194.2.2.1) [(0, 0)] fun y256 =>
 .cut 0 (fun (y261 : ((List az1) × Int × Int)) => ⟨[(0, .view 0 12 a1 a2), (1, pz x194.2.1), (2, pz x194.2.2.1), (3, pz y252.2), (4, .func 43 [] []), (10, .pure (.bool x194.2.2.2.2.1)), (11, .pure (.bool x194.2.2.2.2.2)), (12, pz (IntKind.i64.wrap (x194.2.2.1 - x194.2.1))), (13, pz y261.2.1), (14, pz y261.2.2)], [(0, vecO 12 az2 y261.1 57)], [], 1⟩)
 (.br (y256.2 == 2)
 (.call (czn y252.1 a1 a2 x194.2.1 x194.2.2.1) [(0, 0)] fun y263 =>
 .ret (.out (y263, (IntKind.i64.wrap ((IntKind.i64.wrap (x194.2.2.1 - 1)) - (IntKind.i64.wrap (y256.1 - x194.2.1)))), 1)))
 (.ret (.out (y252.1, y256.1, y256.2)))) fun y261 =>
 .cut 0 (fun (y270 : (List az1)) => ⟨[(0, .view 0 12 a1 a2), (1, pz x194.2.1), (2, pz x194.2.2.1), (3, pz y252.2), (4, .func 43 [] []), (10, .pure (.bool x194.2.2.2.2.1)), (11, .pure (.bool x194.2.2.2.2.2)), (12, pz (IntKind.i64.wrap (x194.2.2.1 - x194.2.1))), (13, pz y261.2.1)], [(0, vecO 12 az2 y270 57)], [], 1⟩)
 (.cut 0 (fun (y271 : Bool) => ⟨[(0, .view 0 12 a1 a2), (1, pz x194.2.1), (2, pz x194.2.2.1), (3, pz y252.2), (4, .func 43 [] []), (10, .pure (.bool x194.2.2.2.2.1)), (11, .pure (.bool x194.2.2.2.2.2)), (12, pz (IntKind.i64.wrap (x194.2.2.1 - x194.2.1))), (13, pz y261.2.1), (75, .pure (.bool y271))], [(0, vecO 12 az2 y261.1 57)], [], 1⟩)
 (.br x194.2.2.2.2.1
 (.br x194.2.2.2.2.2
 (.ret (.out (y261.2.2 == 1)))
 (.ret (.out false)))
 (.ret (.out false))) fun y271 =>
 .br y271
 (.call (bzq y261.1 a1 a2 x194.2.1 x194.2.2.1) [(0, 0)] fun y273 =>
 .br y273.1
 (.ret (.fin (.fin y273.2)))
 (.ret (.out y273.2)))
 (.ret (.out y261.1))) fun y270 =>
 .cut 1 (fun (y282 : Bool) => ⟨[(0, .view 0 12 a1 a2), (1, pz x194.2.1), (2, pz x194.2.2.1), (3, pz y252.2), (4, .func 43 [] []), (10, .pure (.bool x194.2.2.2.2.1)), (11, .pure (.bool x194.2.2.2.2.2)), (12, pz (IntKind.i64.wrap (x194.2.2.1 - x194.2.1))), (13, pz y261.2.1), (97, .pure (.bool y282))], [(0, vecO 12 az2 y270 57)], [], 1⟩)
 (.br (decide (x194.2.1 > 0))
 (.grd (0 ≤ (IntKind.i64.wrap (x194.2.1 - 1)) ∧ (IntKind.i64.wrap (x194.2.1 - 1)) < ((a2 : Nat) : Int)) <|
 .grd ((a1 + (((IntKind.i64.wrap (x194.2.1 - 1))).toNat)) < y270.length) <|
 .grd (0 ≤ y261.2.1 ∧ y261.2.1 < ((a2 : Nat) : Int)) <|
 .grd ((a1 + ((y261.2.1).toNat)) < y270.length) <|
 .call (azp (y270.getD (a1 + (((IntKind.i64.wrap (x194.2.1 - 1))).toNat)) default) (y270.getD (a1 + ((y261.2.1).toNat)) default)) [] fun y283 =>
 .ret (.out (!(decide (y283 < 0)))))
 (.ret (.out false))) fun y282 =>
 .br y282
 (.call (cz8 y270 a1 a2 x194.2.1 x194.2.2.1 y261.2.1) [(0, 0)] fun y285 =>
 .ret (.next (y285.2, y285.1, x194.2.2.1, y252.2, x194.2.2.2.2.1, x194.2.2.2.2.2)))
 (.call (dz5 y270 a1 a2 x194.2.1 x194.2.2.1 y261.2.1) [(0, 0)] fun y287 =>
 .ok ((8 : Int) ≠ 0) (by decide) <|
 .br (decide ((IntKind.i64.wrap (y287.1 - x194.2.1)) < (IntKind.i64.wrap (x194.2.2.1 - y287.1))))
 (.call (rec.C (y287.2.2, a1, a2, x194.2.1, y287.1, y252.2)) [(0, 0)] fun y289 =>
 .ret (.next (y289, (IntKind.i64.wrap (y287.1 + 1)), x194.2.2.1, y252.2, (decide ((IntKind.i64.wrap (y287.1 - x194.2.1)) ≥ (IntKind.i64.wrap ((IntKind.i64.wrap (x194.2.2.1 - x194.2.1)).tdiv 8)))), y287.2.1)))
 (.call (rec.C (y287.2.2, a1, a2, (IntKind.i64.wrap (y287.1 + 1)), x194.2.2.1, y252.2)) [(0, 0)] fun y291 =>
 .ret (.next (y291, x194.2.1, y287.1, y252.2, (decide ((IntKind.i64.wrap (x194.2.2.1 - y287.1)) ≥ (IntKind.i64.wrap ((IntKind.i64.wrap (x194.2.2.1 - x194.2.1)).tdiv 8)))), y287.2.1)))))))
 (a0, a3, a4, a5, true, true) [] fun _ =>
 .stop
noncomputable def azz : bzt → bzt := RecS.next [] hd Tryz.func123 (by kernel_rfl) (fun rec a => bzu rec a.1 a.2.1 a.2.2.1 a.2.2.2.1 a.2.2.2.2.1 a.2.2.2.2.2) (fun rec a => by kernel_rfl)
noncomputable def dzm (a0 : (List az1)) (a1 : Nat) (a2 : Nat) (a3 : Int) (a4 : Int) (a5 : Int) : CallS (List az1) := (RecS.fix azz NN).C (a0, a1, a2, a3, a4, a5)
noncomputable def azy (a0 : (List az1)) (a1 : Nat) (a2 : Nat) : T (List az1) :=
 .call (fza (IntKind.u64.wrap ((a2 : Nat) : Int))) [] fun y3 =>
 .call (dzm a0 a1 a2 0 ((a2 : Nat) : Int) y3) [(0, 0)] fun y4 =>
 .ret y4
noncomputable def azx (a0 : (List az1)) (a1 : Nat) (a2 : Nat) : CallS (List az1) :=
  mkC [] hd Tryz.func73 (by kernel_rfl) (azy a0 a1 a2) 1 [.view 0 12 a1 a2, .func 43 [] []] [(0, vecO 12 az2 a0 57)] (fun _ => .tup []) (fun r => [(0, vecO 12 az2 r 57)]) (by kernel_rfl)
noncomputable def nzs (a0 : az8) (a1 : aza) (a2 : (List Int)) (a3 : Int) : T (aza × Int) :=
 .call (lze a1) [] fun y2 =>
 .cut 1 (fun (y14 : Bool) => ⟨[(3, pz a3), (4, .ptr 0 0), (5, .ptr 1 0), (6, .ptr 2 0), (8, .ptr 3 0), (9, .ptr 6 0), (26, .pure (.bool y14))], [(0, .box [.pure (encL 12 az9 a0.Joints), .pure (encL 5 azb a0.Masses)]), (1, .box [.pure (encL 1 (encL 1 az0) a1.Points), .pure (encL 12 az2 a1.Edges)]), (2, .box [.pure (encL 1 az0 a2)]), (3, .box [.vec 4, .vec 5]), (4, vecO 1 (encL 1 az0) y2.1 40), (5, vecO 12 az2 y2.2 57), (6, .box [pz 0])], [.func 64 [] [.ptr 3 0, .ptr 6 0]], 7⟩)
 (.call (ezd a0 a1) [] fun y15 =>
 .br (!y15)
 (.ret (.out true))
 (.call (lz0 a0 a2) [] fun y16 =>
 .ret (.out (!y16)))) fun y14 =>
 .br y14
 (.ret ((⟨y2.1, y2.2⟩ : aza), (-1)))
 (.call (fz4 a1.Points a2) [(0, 2)] fun y18 =>
 .br (decide (y18 ≥ 0))
 (.ret ((⟨y2.1, y2.2⟩ : aza), y18))
 (.cut 3 (fun (y20 : Bool) => ⟨[(4, .ptr 0 0), (5, .ptr 1 0), (6, .ptr 2 0), (8, .ptr 3 0), (9, .ptr 6 0), (11, pz (max 0 (min a3 ((a1.Points.length : Nat) : Int)))), (52, .pure (.bool y20))], [(0, .box [.pure (encL 12 az9 a0.Joints), .pure (encL 5 azb a0.Masses)]), (1, .box [.pure (encL 1 (encL 1 az0) a1.Points), .pure (encL 12 az2 a1.Edges)]), (2, .box [.pure (encL 1 az0 a2)]), (3, .box [.vec 4, .vec 5]), (4, vecO 1 (encL 1 az0) y2.1 40), (5, vecO 12 az2 y2.2 57), (6, .box [pz ((a1.Points.length : Nat) : Int)])], [.func 64 [] [.ptr 3 0, .ptr 6 0]], 7⟩)
 (.br (decide (((a1.Points.length : Nat) : Int) ≥ 1024))
 (.ret (.out true))
 (.ret (.out (decide ((IntKind.i64.wrap (((a1.Edges.length : Nat) : Int) + (max 0 (min a3 ((a1.Points.length : Nat) : Int))))) > 8192))))) fun y20 =>
 .br y20
 (.ret ((⟨y2.1, y2.2⟩ : aza), (-1)))
 (.call (bzb a2) [] fun y22 =>
 .conv 12004 (ezu 1 (encL 1 az0) ([y22] : (List (List Int))) 40) <|
 .conv 12005 (gzg 1 (encL 1 az0) y2.1 ([y22] : (List (List Int))) 40) <|
 .grd ((y2.1.length + ([y22] : (List (List Int))).length) * 24 ≤ 140737488355328 ∧ (y2.1.length + ([y22] : (List (List Int))).length) ≤ maxLen) <|
 .call (hzm a1.Points) [] fun y38 =>
 .call (gz4 (⟨a0.Joints, a0.Masses⟩ : az8) a1.Points y38 a2 (max 0 (min a3 ((a1.Points.length : Nat) : Int)))) [] fun y39 =>
 .loop (fun (x43 : ((List az1) × Int)) => ⟨[(4, .ptr 0 0), (8, .ptr 1 0), (9, .ptr 4 0), (69, .pure (encL 1 az0 y39)), (70, pz ((y39.length : Nat) : Int)), (71, pz x43.2)], [(0, .box [.pure (encL 12 az9 a0.Joints), .pure (encL 5 azb a0.Masses)]), (1, .box [.vec 2, .vec 3]), (2, vecS 1 (encL 1 az0) (y2.1 ++ ([y22] : (List (List Int)))) 40), (3, vecO 12 az2 x43.1 57), (4, .box [pz ((a1.Points.length : Nat) : Int)])], [.func 64 [] [.ptr 1 0, .ptr 4 0]], 5⟩)
 (.exit 0) (fun (y46 : (List az1)) => ⟨[(8, .ptr 0 0), (9, .ptr 3 0)], [(0, .box [.vec 1, .vec 2]), (1, vecS 1 (encL 1 az0) (y2.1 ++ ([y22] : (List (List Int)))) 40), (2, vecO 12 az2 y46 57), (3, .box [pz ((a1.Points.length : Nat) : Int)])], [.func 64 [] [.ptr 0 0, .ptr 3 0]], 4⟩)
 (fun x43 => .br (decide (x43.2 < ((y39.length : Nat) : Int)))
 (.grd (0 ≤ x43.2 ∧ x43.2 < ((y39.length : Nat) : Int)) <|
 .call (gz6 (⟨a0.Joints, a0.Masses⟩ : az8) (y2.1 ++ ([y22] : (List (List Int)))) (y39.getD ((x43.2).toNat) default) ((a1.Points.length : Nat) : Int)) [] fun y48 =>
 .conv 16008 (ezu 12 az2 ([y48] : (List az1)) 57) <|
 .conv 16009 (gzg 12 az2 x43.1 ([y48] : (List az1)) 57) <|
 .grd ((x43.1.length + ([y48] : (List az1)).length) * 160 ≤ 140737488355328 ∧ (x43.1.length + ([y48] : (List az1)).length) ≤ maxLen) <|
 .ret (.next ((x43.1 ++ ([y48] : (List az1))), (IntKind.i64.wrap (x43.2 + 1)))))
 (.ret (.out x43.1)))
 (y2.2, 0) [327] fun y46 =>
 .call (azx y46 0 y46.length) [(0, 2)] fun y50 =>
 .ret ((⟨(y2.1 ++ ([y22] : (List (List Int)))), y50⟩ : aza), ((a1.Points.length : Nat) : Int)))))
noncomputable def nzr (a0 : az8) (a1 : aza) (a2 : (List Int)) (a3 : Int) : CallS (aza × Int) :=
  mkC [⟨64, Iz6⟩] hd Tryz.func29 (by kernel_rfl) (nzs a0 a1 a2 a3) 0 [.pure (azw a0), .pure (bzr a1), .pure (encL 1 az0 a2), pz a3] [] (fun r => .tup [.pure (bzr r.1), pz r.2]) (fun _ => []) (by kernel_rfl)
set_option maxHeartbeats 8000000 in
set_option maxRecDepth 20000 in
noncomputable def kz9 (a0 : az8) (a1 : (List (List Int))) (a2 : (List az1)) (a3 : Int) (a4 : Int) : T (List az1) :=
 .loop (fun (x85 : ((List az1) × Bool × Int)) => ⟨[(2, pz (min a3 a4)), (3, pz (max a3 a4)), (4, .ptr 1 0), (5, .ptr 2 0), (9, .vec 3), (10, .pure (.bool x85.2.1)), (11, pz x85.2.2)], [(0, vecO 1 (encL 1 az0) a1 40), (1, .box [.pure (encL 12 az9 a0.Joints), .pure (encL 5 azb a0.Masses)]), (2, .box [.vec 0, .pure (encL 12 az2 a2)]), (3, vecO 12 az2 x85.1 57)], [], 4⟩)
 (.exit 0) (fun (y106 : ((List az1) × Bool)) => ⟨[(2, pz (min a3 a4)), (3, pz (max a3 a4)), (4, .ptr 1 0), (5, .ptr 2 0), (9, .vec 3), (10, .pure (.bool y106.2))], [(0, vecO 1 (encL 1 az0) a1 40), (1, .box [.pure (encL 12 az9 a0.Joints), .pure (encL 5 azb a0.Masses)]), (2, .box [.vec 0, .pure (encL 12 az2 a2)]), (3, vecO 12 az2 y106.1 57)], [], 4⟩)
 (fun x85 => .br (decide (x85.2.2 < ((a2.length : Nat) : Int)))
 (.grd (0 ≤ x85.2.2 ∧ x85.2.2 < ((a2.length : Nat) : Int)) <|
 .cut 0 (fun (y123 : ((List az1) × Bool)) => ⟨[(2, pz (min a3 a4)), (3, pz (max a3 a4)), (4, .ptr 1 0), (5, .ptr 2 0), (9, .vec 3), (10, .pure (.bool y123.2)), (11, pz x85.2.2), (12, .ptr 4 0)], [(0, vecO 1 (encL 1 az0) a1 40), (1, .box [.pure (encL 12 az9 a0.Joints), .pure (encL 5 azb a0.Masses)]), (2, .box [.vec 0, .pure (encL 12 az2 a2)]), (3, vecO 12 az2 y123.1 57), (4, .box [pz ((a2.getD ((x85.2.2).toNat) default).U), pz ((a2.getD ((x85.2.2).toNat) default).V), pz ((a2.getD ((x85.2.2).toNat) default).Cost), pz ((a2.getD ((x85.2.2).toNat) default).State), pz ((a2.getD ((x85.2.2).toNat) default).Proof.Kind), .pure (encL 3 bze ((a2.getD ((x85.2.2).toNat) default).Proof.Pieces)), pz ((a2.getD ((x85.2.2).toNat) default).Proof.At.Depth), pz ((a2.getD ((x85.2.2).toNat) default).Proof.At.Index), .pure (encL 3 azg ((a2.getD ((x85.2.2).toNat) default).Proof.At.Normals)), pz ((a2.getD ((x85.2.2).toNat) default).Proof.Witness.Pair), .pure (encL 1 az0 ((a2.getD ((x85.2.2).toNat) default).Proof.Witness.Left)), .pure (encL 1 az0 ((a2.getD ((x85.2.2).toNat) default).Proof.Witness.Right))])], [], 5⟩)
 (.cut 0 (fun (y124 : Bool) => ⟨[(2, pz (min a3 a4)), (3, pz (max a3 a4)), (4, .ptr 1 0), (5, .ptr 2 0), (9, .vec 3), (10, .pure (.bool x85.2.1)), (11, pz x85.2.2), (12, .ptr 4 0), (50, .pure (.bool y124))], [(0, vecO 1 (encL 1 az0) a1 40), (1, .box [.pure (encL 12 az9 a0.Joints), .pure (encL 5 azb a0.Masses)]), (2, .box [.vec 0, .pure (encL 12 az2 a2)]), (3, vecO 12 az2 x85.1 57), (4, .box [pz ((a2.getD ((x85.2.2).toNat) default).U), pz ((a2.getD ((x85.2.2).toNat) default).V), pz ((a2.getD ((x85.2.2).toNat) default).Cost), pz ((a2.getD ((x85.2.2).toNat) default).State), pz ((a2.getD ((x85.2.2).toNat) default).Proof.Kind), .pure (encL 3 bze ((a2.getD ((x85.2.2).toNat) default).Proof.Pieces)), pz ((a2.getD ((x85.2.2).toNat) default).Proof.At.Depth), pz ((a2.getD ((x85.2.2).toNat) default).Proof.At.Index), .pure (encL 3 azg ((a2.getD ((x85.2.2).toNat) default).Proof.At.Normals)), pz ((a2.getD ((x85.2.2).toNat) default).Proof.Witness.Pair), .pure (encL 1 az0 ((a2.getD ((x85.2.2).toNat) default).Proof.Witness.Left)), .pure (encL 1 az0 ((a2.getD ((x85.2.2).toNat) default).Proof.Witness.Right))])], [], 5⟩)
 (.br (!x85.2.1)
 (.br (decide (((a2.getD ((x85.2.2).toNat) default).U) > (min a3 a4)))
 (.ret (.out true))
 (.br (((a2.getD ((x85.2.2).toNat) default).U) == (min a3 a4))
 (.ret (.out (decide (((a2.getD ((x85.2.2).toNat) default).V) ≥ (max a3 a4)))))
 (.ret (.out false))))
 (.ret (.out false))) fun y124 =>
 .br y124
 (.cut 1 (fun (y125 : Bool) => ⟨[(2, pz (min a3 a4)), (3, pz (max a3 a4)), (4, .ptr 1 0), (5, .ptr 2 0), (9, .vec 3), (10, .tt), (11, pz x85.2.2), (12, .ptr 4 0), (60, .pure (.bool y125))], [(0, vecO 1 (encL 1 az0) a1 40), (1, .box [.pure (encL 12 az9 a0.Joints), .pure (encL 5 azb a0.Masses)]), (2, .box [.vec 0, .pure (encL 12 az2 a2)]), (3, vecO 12 az2 x85.1 57), (4, .box [pz ((a2.getD ((x85.2.2).toNat) default).U), pz ((a2.getD ((x85.2.2).toNat) default).V), pz ((a2.getD ((x85.2.2).toNat) default).Cost), pz ((a2.getD ((x85.2.2).toNat) default).State), pz ((a2.getD ((x85.2.2).toNat) default).Proof.Kind), .pure (encL 3 bze ((a2.getD ((x85.2.2).toNat) default).Proof.Pieces)), pz ((a2.getD ((x85.2.2).toNat) default).Proof.At.Depth), pz ((a2.getD ((x85.2.2).toNat) default).Proof.At.Index), .pure (encL 3 azg ((a2.getD ((x85.2.2).toNat) default).Proof.At.Normals)), pz ((a2.getD ((x85.2.2).toNat) default).Proof.Witness.Pair), .pure (encL 1 az0 ((a2.getD ((x85.2.2).toNat) default).Proof.Witness.Left)), .pure (encL 1 az0 ((a2.getD ((x85.2.2).toNat) default).Proof.Witness.Right))])], [], 5⟩)
 (.br (((a2.getD ((x85.2.2).toNat) default).U) != (min a3 a4))
 (.ret (.out true))
 (.ret (.out (((a2.getD ((x85.2.2).toNat) default).V) != (max a3 a4))))) fun y125 =>
 .br y125
 (.grd (0 ≤ (min a3 a4) ∧ (min a3 a4) < ((a1.length : Nat) : Int)) <|
 .grd (((min a3 a4)).toNat < a1.length) <|
 .grd (0 ≤ (max a3 a4) ∧ (max a3 a4) < ((a1.length : Nat) : Int)) <|
 .grd (((max a3 a4)).toNat < a1.length) <|
 .call (czx a0 (a1.getD (((min a3 a4)).toNat) default) (a1.getD (((max a3 a4)).toNat) default)) [] fun y126 =>
 .conv 11016 (xzx 12 az2 ([(⟨(min a3 a4), (max a3 a4), y126, 0, (⟨0, nl, (⟨0, 0, nl⟩ : azr), (⟨0, nl, nl⟩ : bz2)⟩ : azc)⟩ : az1)] : (List az1)) 57 [.agg [.int .i64 (min a3 a4), .int .i64 (max a3 a4), .int .i64 y126, .int .i64 0, .int .i64 0, .lst 0 0 fun _ => .unk, .int .i64 0, .int .i64 0, .lst 0 0 fun _ => .unk, .int .i64 0, .lst 0 0 fun _ => .unk, .lst 0 0 fun _ => .unk]] (by kernel_rfl)) <|
 .conv 11017 (gzg 12 az2 x85.1 ([(⟨(min a3 a4), (max a3 a4), y126, 0, (⟨0, nl, (⟨0, 0, nl⟩ : azr), (⟨0, nl, nl⟩ : bz2)⟩ : azc)⟩ : az1)] : (List az1)) 57) <|
 .grd ((x85.1.length + ([(⟨(min a3 a4), (max a3 a4), y126, 0, (⟨0, nl, (⟨0, 0, nl⟩ : azr), (⟨0, nl, nl⟩ : bz2)⟩ : azc)⟩ : az1)] : (List az1)).length) * 160 ≤ 140737488355328 ∧ (x85.1.length + ([(⟨(min a3 a4), (max a3 a4), y126, 0, (⟨0, nl, (⟨0, 0, nl⟩ : azr), (⟨0, nl, nl⟩ : bz2)⟩ : azc)⟩ : az1)] : (List az1)).length) ≤ maxLen) <|
 .ret (.out ((x85.1 ++ ([(⟨(min a3 a4), (max a3 a4), y126, 0, (⟨0, nl, (⟨0, 0, nl⟩ : azr), (⟨0, nl, nl⟩ : bz2)⟩ : azc)⟩ : az1)] : (List az1))), true)))
 (.ret (.out (x85.1, true))))
 (.ret (.out (x85.1, x85.2.1)))) fun y123 =>
 .conv 12002 (ezu 12 az2 ([(a2.getD ((x85.2.2).toNat) default)] : (List az1)) 57) <|
 .conv 12003 (gzg 12 az2 y123.1 ([(a2.getD ((x85.2.2).toNat) default)] : (List az1)) 57) <|
 .grd ((y123.1.length + ([(a2.getD ((x85.2.2).toNat) default)] : (List az1)).length) * 160 ≤ 140737488355328 ∧ (y123.1.length + ([(a2.getD ((x85.2.2).toNat) default)] : (List az1)).length) ≤ maxLen) <|
 .ret (.next ((y123.1 ++ ([(a2.getD ((x85.2.2).toNat) default)] : (List az1))), y123.2, (IntKind.i64.wrap (x85.2.2 + 1)))))
 (.ret (.out (x85.1, x85.2.1))))
 (nl, false, 0) [] fun y106 =>
 .cut 0 (fun (y129 : (List az1)) => ⟨[(9, .vec 1)], [(0, vecO 1 (encL 1 az0) a1 40), (1, vecO 12 az2 y129 57)], [], 2⟩)
 (.br (!y106.2)
 (.grd (0 ≤ (min a3 a4) ∧ (min a3 a4) < ((a1.length : Nat) : Int)) <|
 .grd (((min a3 a4)).toNat < a1.length) <|
 .grd (0 ≤ (max a3 a4) ∧ (max a3 a4) < ((a1.length : Nat) : Int)) <|
 .grd (((max a3 a4)).toNat < a1.length) <|
 .call (czx a0 (a1.getD (((min a3 a4)).toNat) default) (a1.getD (((max a3 a4)).toNat) default)) [] fun y130 =>
 .conv 14016 (xzx 12 az2 ([(⟨(min a3 a4), (max a3 a4), y130, 0, (⟨0, nl, (⟨0, 0, nl⟩ : azr), (⟨0, nl, nl⟩ : bz2)⟩ : azc)⟩ : az1)] : (List az1)) 57 [.agg [.int .i64 (min a3 a4), .int .i64 (max a3 a4), .int .i64 y130, .int .i64 0, .int .i64 0, .lst 0 0 fun _ => .unk, .int .i64 0, .int .i64 0, .lst 0 0 fun _ => .unk, .int .i64 0, .lst 0 0 fun _ => .unk, .lst 0 0 fun _ => .unk]] (by kernel_rfl)) <|
 .conv 14017 (gzg 12 az2 y106.1 ([(⟨(min a3 a4), (max a3 a4), y130, 0, (⟨0, nl, (⟨0, 0, nl⟩ : azr), (⟨0, nl, nl⟩ : bz2)⟩ : azc)⟩ : az1)] : (List az1)) 57) <|
 .grd ((y106.1.length + ([(⟨(min a3 a4), (max a3 a4), y130, 0, (⟨0, nl, (⟨0, 0, nl⟩ : azr), (⟨0, nl, nl⟩ : bz2)⟩ : azc)⟩ : az1)] : (List az1)).length) * 160 ≤ 140737488355328 ∧ (y106.1.length + ([(⟨(min a3 a4), (max a3 a4), y130, 0, (⟨0, nl, (⟨0, 0, nl⟩ : azr), (⟨0, nl, nl⟩ : bz2)⟩ : azc)⟩ : az1)] : (List az1)).length) ≤ maxLen) <|
 .ret (.out (y106.1 ++ ([(⟨(min a3 a4), (max a3 a4), y130, 0, (⟨0, nl, (⟨0, 0, nl⟩ : azr), (⟨0, nl, nl⟩ : bz2)⟩ : azc)⟩ : az1)] : (List az1)))))
 (.ret (.out y106.1))) fun y129 =>
 .ret y129
noncomputable def hzq (a0 : az8) (a1 : (List (List Int))) (a2 : (List az1)) (a3 : Int) (a4 : Int) : CallS (List az1) :=
  mkC [] hd Tryz.func56 (by kernel_rfl) (kz9 a0 a1 a2 a3 a4) 1 [.pure (azw a0), .agg [.vec 0, .pure (encL 12 az2 a2)], pz a3, pz a4] [(0, vecO 1 (encL 1 az0) a1 40)] (fun _ => .vec 1) (fun r => [(0, vecO 1 (encL 1 az0) a1 40), (1, vecO 12 az2 r 57)]) (by kernel_rfl)
noncomputable def kz6 (a0 : az8) (a1 : aza) (a2 : (List Int)) (a3 : Int) : T (aza × Int) :=
 .cut 2 (fun (y12 : Bool) => ⟨[(2, .pure (encL 1 az0 a2)), (3, pz a3), (4, .ptr 0 0), (5, .ptr 1 0), (8, .ptr 2 0), (24, .pure (.bool y12))], [(0, .box [.pure (encL 12 az9 a0.Joints), .pure (encL 5 azb a0.Masses)]), (1, .box [.pure (encL 1 (encL 1 az0) a1.Points), .pure (encL 12 az2 a1.Edges)]), (2, .box [.vec 3, .vec 4]), (3, .nilv), (4, .nilv)], [], 5⟩)
 (.call (kz7 a0 a1) [] fun y13 =>
 .br (!y13)
 (.ret (.out true))
 (.call (jzd a0 a2) [] fun y14 =>
 .ret (.out (!y14)))) fun y12 =>
 .br y12
 (.ret (a1, (-1)))
 (.call (gzy a1.Points a2) [] fun y18 =>
 .br (decide (y18 ≥ 0))
 (.ret (a1, y18))
 (.grd (a1.Points.length * 24 ≤ 140737488355328 ∧ a1.Points.length ≤ maxLen) <|
 .grd (a2.length * 8 ≤ 140737488355328 ∧ a2.length ≤ maxLen) <|
 .conv 6005 (ezu 1 (encL 1 az0) ([a2] : (List (List Int))) 40) <|
 .conv 6006 (gzg 1 (encL 1 az0) a1.Points ([a2] : (List (List Int))) 40) <|
 .grd ((a1.Points.length + ([a2] : (List (List Int))).length) * 24 ≤ 140737488355328 ∧ (a1.Points.length + ([a2] : (List (List Int))).length) ≤ maxLen) <|
 .call (gz5 a0 (a1.Points ++ ([a2] : (List (List Int)))) a2 ((a1.Points.length : Nat) : Int)) [(0, 837)] fun y20 =>
 .loop (fun (x41 : ((List az1) × Int)) => ⟨[(3, pz a3), (4, .ptr 0 0), (5, .ptr 1 0), (8, .ptr 2 0), (11, .ptr 5 0), (12, pz ((a1.Points.length : Nat) : Int)), (13, .pure (encL 1 az0 y20)), (14, pz x41.2)], [(0, .box [.pure (encL 12 az9 a0.Joints), .pure (encL 5 azb a0.Masses)]), (1, .box [.pure (encL 1 (encL 1 az0) a1.Points), .pure (encL 12 az2 a1.Edges)]), (2, .box [.vec 3, .vec 4]), (3, .nilv), (4, .nilv), (5, .box [.vec 6, .pure (encL 12 az2 x41.1)]), (6, vecO 1 (encL 1 az0) (a1.Points ++ ([a2] : (List (List Int)))) 40)], [], 7⟩)
 (.exit 0) (fun (y46 : (List az1)) => ⟨[(5, .ptr 0 0), (8, .ptr 1 0), (11, .ptr 4 0), (12, pz ((a1.Points.length : Nat) : Int))], [(0, .box [.pure (encL 1 (encL 1 az0) a1.Points), .pure (encL 12 az2 a1.Edges)]), (1, .box [.vec 2, .vec 3]), (2, .nilv), (3, .nilv), (4, .box [.vec 5, .pure (encL 12 az2 y46)]), (5, vecO 1 (encL 1 az0) (a1.Points ++ ([a2] : (List (List Int)))) 40)], [], 6⟩)
 (fun x41 => .cut 1 (fun (y48 : Bool) => ⟨[(3, pz a3), (4, .ptr 0 0), (5, .ptr 1 0), (8, .ptr 2 0), (11, .ptr 5 0), (12, pz ((a1.Points.length : Nat) : Int)), (13, .pure (encL 1 az0 y20)), (14, pz x41.2), (61, .pure (.bool y48))], [(0, .box [.pure (encL 12 az9 a0.Joints), .pure (encL 5 azb a0.Masses)]), (1, .box [.pure (encL 1 (encL 1 az0) a1.Points), .pure (encL 12 az2 a1.Edges)]), (2, .box [.vec 3, .vec 4]), (3, .nilv), (4, .nilv), (5, .box [.vec 6, .pure (encL 12 az2 x41.1)]), (6, vecO 1 (encL 1 az0) (a1.Points ++ ([a2] : (List (List Int)))) 40)], [], 7⟩)
 (.br (decide (x41.2 < ((y20.length : Nat) : Int)))
 (.ret (.out (decide (x41.2 < a3))))
 (.ret (.out false))) fun y48 =>
 .br y48
 (.grd (0 ≤ x41.2 ∧ x41.2 < ((y20.length : Nat) : Int)) <|
 .call (hzq a0 (a1.Points ++ ([a2] : (List (List Int)))) x41.1 ((a1.Points.length : Nat) : Int) (y20.getD ((x41.2).toNat) default)) [(0, 6)] fun y50 =>
 .ret (.next (y50, (IntKind.i64.wrap (x41.2 + 1)))))
 (.ret (.out x41.1)))
 (a1.Edges, 0) [] fun y46 =>
 .cut 1 (fun (y52 : Bool) => ⟨[(5, .ptr 0 0), (8, .ptr 1 0), (11, .ptr 4 0), (12, pz ((a1.Points.length : Nat) : Int)), (82, .pure (.bool y52))], [(0, .box [.pure (encL 1 (encL 1 az0) a1.Points), .pure (encL 12 az2 a1.Edges)]), (1, .box [.vec 2, .vec 3]), (2, .nilv), (3, .nilv), (4, .box [.vec 5, .pure (encL 12 az2 y46)]), (5, vecO 1 (encL 1 az0) (a1.Points ++ ([a2] : (List (List Int)))) 40)], [], 6⟩)
 (.br (decide ((((a1.Points ++ ([a2] : (List (List Int)))).length : Nat) : Int) > 1024))
 (.ret (.out true))
 (.ret (.out (decide (((y46.length : Nat) : Int) > 8192))))) fun y52 =>
 .br y52
 (.ret ((⟨a1.Points, a1.Edges⟩ : aza), (-1)))
 (.ret ((⟨(a1.Points ++ ([a2] : (List (List Int)))), y46⟩ : aza), ((a1.Points.length : Nat) : Int)))))
noncomputable def ozb (a0 : az8) (a1 : aza) (a2 : (List Int)) (a3 : Int) : CallS (aza × Int) :=
  mkC [] hd Tryz.func63 (by kernel_rfl) (kz6 a0 a1 a2 a3) 0 [.pure (azw a0), .pure (bzr a1), .pure (encL 1 az0 a2), pz a3] [] (fun r => .tup [.pure (bzr r.1), pz r.2]) (fun _ => []) (by kernel_rfl)
noncomputable def hz7 (a0 : (List Int)) (a1 : (List Int)) (a2 : (List Int)) (a3 : Int) (a4 : Int) (a5 : Int) : T Bool :=
 .call (lzv a0) [] fun y2 =>
 .call (qzb y2 a1) [] fun y4 =>
 .call (kzm y2 a2) [] fun y8 =>
 .call (jzi a3 4) [] fun y9 =>
 .call (nzr y2 y4 y8 (IntKind.i64.wrap (1 + y9))) [] fun y10 =>
 .call (jzi a4 (IntKind.i64.wrap (((y4.Edges.length : Nat) : Int) + 1))) [] fun y15 =>
 .call (jzi a5 4) [] fun y16 =>
 .call (lzu y16) [] fun y17 =>
 .call (jze y4 y15 y17) [] fun y18 =>
 .cut 1 (fun (y25 : Bool) => ⟨[(3, pz a3), (13, .ptr 0 0), (14, .ptr 1 0), (15, .ptr 2 0), (17, .ptr 3 0), (81, .pure (.bool y25))], [(0, .box [.pure (encL 12 az9 y2.Joints), .pure (encL 5 azb y2.Masses)]), (1, .box [.pure (encL 1 (encL 1 az0) y4.Points), .pure (encL 12 az2 y4.Edges)]), (2, .box [.pure (encL 1 (encL 1 az0) y10.1.Points), .pure (encL 12 az2 y10.1.Edges)]), (3, .box [.pure (encL 1 (encL 1 az0) y18.1.Points), .pure (encL 12 az2 y18.1.Edges)])], [], 4⟩)
 (.br (decide (y10.2 < 0))
 (.ret (.out true))
 (.br (decide (y10.2 ≥ ((y10.1.Points.length : Nat) : Int)))
 (.ret (.out true))
 (.br (decide (((y10.1.Points.length : Nat) : Int) < ((y4.Points.length : Nat) : Int)))
 (.ret (.out true))
 (.conv 5026 (zzu 1 (encL 1 az0) y10.1.Points (0 : Int) ((y4.Points.length : Nat) : Int)) <|
 .grd (0 ≤ (0 : Int) ∧ (0 : Int) ≤ ((y4.Points.length : Nat) : Int) ∧ ((y4.Points.length : Nat) : Int) ≤ ((y10.1.Points.length : Nat) : Int)) <|
 .call (izu y4.Points ((y10.1.Points.drop ((0 : Int).toNat)).take ((((y4.Points.length : Nat) : Int)).toNat - (0 : Int).toNat))) [] fun y26 =>
 .ret (.out (!y26)))))) fun y25 =>
 .br y25
 (.ret false)
 (.loop (fun (x55 : Int) => ⟨[(3, pz a3), (13, .ptr 0 0), (14, .ptr 1 0), (15, .ptr 2 0), (17, .ptr 3 0), (19, pz x55)], [(0, .box [.pure (encL 12 az9 y2.Joints), .pure (encL 5 azb y2.Masses)]), (1, .box [.pure (encL 1 (encL 1 az0) y4.Points), .pure (encL 12 az2 y4.Edges)]), (2, .box [.pure (encL 1 (encL 1 az0) y10.1.Points), .pure (encL 12 az2 y10.1.Edges)]), (3, .box [.pure (encL 1 (encL 1 az0) y18.1.Points), .pure (encL 12 az2 y18.1.Edges)])], [], 4⟩)
 (.exit 0) (fun (_ : U0) => ⟨[(3, pz a3), (13, .ptr 0 0), (14, .ptr 1 0), (15, .ptr 2 0), (17, .ptr 3 0)], [(0, .box [.pure (encL 12 az9 y2.Joints), .pure (encL 5 azb y2.Masses)]), (1, .box [.pure (encL 1 (encL 1 az0) y4.Points), .pure (encL 12 az2 y4.Edges)]), (2, .box [.pure (encL 1 (encL 1 az0) y10.1.Points), .pure (encL 12 az2 y10.1.Edges)]), (3, .box [.pure (encL 1 (encL 1 az0) y18.1.Points), .pure (encL 12 az2 y18.1.Edges)])], [], 4⟩)
 (fun x55 => .br (decide (x55 < ((y4.Edges.length : Nat) : Int)))
 (.grd (0 ≤ x55 ∧ x55 < ((y4.Edges.length : Nat) : Int)) <|
 .grd (0 ≤ x55 ∧ x55 < ((y4.Edges.length : Nat) : Int)) <|
 .call (mzb y10.1 ((y4.Edges.getD ((x55).toNat) default).U) ((y4.Edges.getD ((x55).toNat) default).V)) [] fun y67 =>
 .cut 0 (fun (y68 : Bool) => ⟨[(3, pz a3), (13, .ptr 0 0), (14, .ptr 1 0), (15, .ptr 2 0), (17, .ptr 3 0), (19, pz x55), (134, .pure (.bool y68))], [(0, .box [.pure (encL 12 az9 y2.Joints), .pure (encL 5 azb y2.Masses)]), (1, .box [.pure (encL 1 (encL 1 az0) y4.Points), .pure (encL 12 az2 y4.Edges)]), (2, .box [.pure (encL 1 (encL 1 az0) y10.1.Points), .pure (encL 12 az2 y10.1.Edges)]), (3, .box [.pure (encL 1 (encL 1 az0) y18.1.Points), .pure (encL 12 az2 y18.1.Edges)])], [], 4⟩)
 (.br (decide (y67 < 0))
 (.ret (.out true))
 (.grd (0 ≤ y67 ∧ y67 < ((y10.1.Edges.length : Nat) : Int)) <|
 .grd (0 ≤ x55 ∧ x55 < ((y4.Edges.length : Nat) : Int)) <|
 .br (((y10.1.Edges.getD ((y67).toNat) default).State) != ((y4.Edges.getD ((x55).toNat) default).State))
 (.ret (.out true))
 (.grd (0 ≤ y67 ∧ y67 < ((y10.1.Edges.length : Nat) : Int)) <|
 .grd (0 ≤ x55 ∧ x55 < ((y4.Edges.length : Nat) : Int)) <|
 .ret (.out (((y10.1.Edges.getD ((y67).toNat) default).Cost) != ((y4.Edges.getD ((x55).toNat) default).Cost)))))) fun y68 =>
 .br y68
 (.ret (.fin false))
 (.ret (.next (IntKind.i64.wrap (x55 + 1)))))
 (.ret (.out .u)))
 0 [] fun _ =>
 .call (law25_awake_C) [] fun y69 =>
 .br y69
 (.call (ezd y2 y10.1) [] fun y70 =>
 .br y70
 (.call (ezd y2 y18.1) [] fun y71 =>
 .br y71
 (.call (nzt y2 y4.Points a3) [] fun y72 =>
 .call (ezd y2 y72) [] fun y73 =>
 .ret y73)
 (.ret false))
 (.ret false))
 (.ret false))
noncomputable def czw (a0 : (List Int)) (a1 : (List Int)) (a2 : (List Int)) (a3 : Int) (a4 : Int) (a5 : Int) : CallS Bool :=
  mkC [] hd Tryz.func9 (by kernel_rfl) (hz7 a0 a1 a2 a3 a4 a5) 0 [.pure (encL 1 az0 a0), .pure (encL 1 az0 a1), .pure (encL 1 az0 a2), pz a3, pz a4, pz a5] [] (fun r => .pure (.bool r)) (fun _ => []) (by kernel_rfl)
end Go.Abs
