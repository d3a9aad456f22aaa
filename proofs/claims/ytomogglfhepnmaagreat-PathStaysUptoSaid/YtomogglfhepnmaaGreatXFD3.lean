/-
  D3 (a part of a claim: our own text).
-/
import Derived.Test.YtomogglfhepnmaaGreatXFM2
namespace Go.Abs
open Go.Proofs
noncomputable def ezo {o : (Int × Int × Int) → Option Bool} (Y : YldS Tryz.prog az1 o) (a0 : (List (az0 × az0 × az0))) (a1 : (List (az0 × az0 × az0))) (a2 : Int) (a3 : Int) (a4 : (List (Int × Int × Int))) : T (Bool × (Int × Int × Int) × (List (az0 × az0 × az0)) × (List (az0 × az0 × az0)) × Int × Int × (List (Int × Int × Int))) :=
 .cut 1 (fun (y22 : Bool) => ⟨[(0, .yld Y.l), (1, .ptr 1 0), (2, .ptr 2 0), (3, .ptr 3 0), (4, .ptr 4 0), (5, .ptr 5 0), (31, .pure (.bool y22))], [(0, .tok Y.τ (tokP false (az1 default))), (1, .box [.pure (encL 6 az2 a0)]), (2, .box [.pure (encL 6 az2 a1)]), (3, .box [pz a2]), (4, .box [pz a3]), (5, .box [.pure (encL 3 az1 a4)])], [], 6⟩)
 (.call (cz5 a0) [] fun y23 =>
 .br (!y23)
 (.ret (.out true))
 (.call (cz5 a1) [] fun y24 =>
 .br (!y24)
 (.ret (.out true))
 (.call (gzy a2) [] fun y25 =>
 .br (!y25)
 (.ret (.out true))
 (.call (gzy a3) [] fun y26 =>
 .ret (.out (!y26)))))) fun y22 =>
 .br y22
 (.ret (false, default, a0, a1, a2, a3, a4))
 (.loop (fun (x87 : (Int × Bool × (Int × Int × Int))) => ⟨[(0, .yld Y.l), (1, .ptr 1 0), (2, .ptr 2 0), (3, .ptr 3 0), (4, .ptr 4 0), (32, .pure (encL 3 az1 a4)), (33, pz ((a4.length : Nat) : Int)), (34, pz x87.1)], [(0, .tok Y.τ (tokP x87.2.1 (az1 x87.2.2))), (1, .box [.pure (encL 6 az2 a0)]), (2, .box [.pure (encL 6 az2 a1)]), (3, .box [pz a2]), (4, .box [pz a3]), (5, .box [.pure (encL 3 az1 a4)])], [], 6⟩)
 (.exit 0) (fun (y102 : (Bool × (Int × Int × Int))) => ⟨[(0, .yld Y.l), (1, .ptr 1 0), (2, .ptr 2 0), (3, .ptr 3 0), (4, .ptr 4 0)], [(0, .tok Y.τ (tokP y102.1 (az1 y102.2))), (1, .box [.pure (encL 6 az2 a0)]), (2, .box [.pure (encL 6 az2 a1)]), (3, .box [pz a2]), (4, .box [pz a3]), (5, .box [.pure (encL 3 az1 a4)])], [], 6⟩)
 (fun x87 => .br (decide (x87.1 < ((a4.length : Nat) : Int)))
 (.grd (0 ≤ x87.1 ∧ x87.1 < ((a4.length : Nat) : Int)) <|
 .cut 0 (fun (y114 : (Bool × Bool × (Int × Int × Int))) => ⟨[(0, .yld Y.l), (1, .ptr 1 0), (2, .ptr 2 0), (3, .ptr 3 0), (4, .ptr 4 0), (32, .pure (encL 3 az1 a4)), (33, pz ((a4.length : Nat) : Int)), (34, pz x87.1), (45, .pure (.bool y114.1))], [(0, .tok Y.τ (tokP y114.2.1 (az1 y114.2.2))), (1, .box [.pure (encL 6 az2 a0)]), (2, .box [.pure (encL 6 az2 a1)]), (3, .box [pz a2]), (4, .box [pz a3]), (5, .box [.pure (encL 3 az1 a4)])], [], 6⟩)
 (.call (dzi (a4.getD ((x87.1).toNat) default)) [] fun y115 =>
 .br y115
 (.call (Y.C x87.2.1 x87.2.2 (a4.getD ((x87.1).toNat) default)) [(0, 0)] fun y116 =>
 .ret (.out ((!(!y116)), y116, (a4.getD ((x87.1).toNat) default))))
 (.ret (.out (false, x87.2.1, x87.2.2)))) fun y114 =>
 .br y114.1
 (.ret (.fin (y114.2.1, y114.2.2, a0, a1, a2, a3, a4)))
 (.ret (.next ((IntKind.i64.wrap (x87.1 + 1)), y114.2.1, y114.2.2))))
 (.ret (.out (x87.2.1, x87.2.2))))
 (0, false, default) [] fun y102 =>
 .call (izz a0 a1) [] fun y124 =>
 .cut 0 (fun (y127 : (Bool × Bool × (Int × Int × Int))) => ⟨[(0, .yld Y.l), (1, .ptr 1 0), (2, .ptr 2 0), (3, .ptr 3 0), (4, .ptr 4 0), (59, .pure (.bool y127.1))], [(0, .tok Y.τ (tokP y127.2.1 (az1 y127.2.2))), (1, .box [.pure (encL 6 az2 a0)]), (2, .box [.pure (encL 6 az2 a1)]), (3, .box [pz a2]), (4, .box [pz a3]), (5, .box [.pure (encL 3 az1 a4)])], [], 6⟩)
 (.br y124.2
 (.call (Y.C y102.1 y102.2 y124.1) [(0, 0)] fun y128 =>
 .ret (.out ((!(!y128)), y128, y124.1)))
 (.ret (.out (false, y102.1, y102.2)))) fun y127 =>
 .br y127.1
 (.ret (y127.2.1, y127.2.2, a0, a1, a2, a3, a4))
 (.call (nzi) [] fun y147 =>
 .loop (fun (x153 : (Int × Bool × (Int × Int × Int))) => ⟨[(0, .yld Y.l), (1, .ptr 1 0), (2, .ptr 2 0), (3, .ptr 3 0), (4, .ptr 4 0), (60, .pure (encL 3 az1 y147)), (61, pz ((y147.length : Nat) : Int)), (62, pz x153.1)], [(0, .tok Y.τ (tokP x153.2.1 (az1 x153.2.2))), (1, .box [.pure (encL 6 az2 a0)]), (2, .box [.pure (encL 6 az2 a1)]), (3, .box [pz a2]), (4, .box [pz a3]), (5, .box [.pure (encL 3 az1 a4)])], [], 6⟩)
 (.exit 2) (fun (y158 : (Bool × (Int × Int × Int))) => ⟨[(0, .yld Y.l), (1, .ptr 1 0), (2, .ptr 2 0), (3, .ptr 3 0), (4, .ptr 4 0)], [(0, .tok Y.τ (tokP y158.1 (az1 y158.2))), (1, .box [.pure (encL 6 az2 a0)]), (2, .box [.pure (encL 6 az2 a1)]), (3, .box [pz a2]), (4, .box [pz a3]), (5, .box [.pure (encL 3 az1 a4)])], [], 6⟩)
 (fun x153 => .br (decide (x153.1 < ((y147.length : Nat) : Int)))
 (.grd (0 ≤ x153.1 ∧ x153.1 < ((y147.length : Nat) : Int)) <|
 .call (Y.C x153.2.1 x153.2.2 (y147.getD ((x153.1).toNat) default)) [(0, 0)] fun y162 =>
 .br (!(!y162))
 (.ret (.fin (y162, (y147.getD ((x153.1).toNat) default), a0, a1, a2, a3, a4)))
 (.ret (.next ((IntKind.i64.wrap (x153.1 + 1)), y162, (y147.getD ((x153.1).toNat) default)))))
 (.ret (.out (x153.2.1, x153.2.2))))
 (0, y127.2.1, y127.2.2) [] fun y158 =>
 .call (bzw a0) [] fun y166 =>
 .call (bzw a1) [] fun y167 =>
 .call (dzg y166 y167 (IntKind.i64.wrap (a2 + a3)) 64) [] fun y168 =>
 .call (dzi y168.Normal) [] fun y170 =>
 .br y170
 (.call (Y.C y158.1 y158.2 y168.Normal) [(0, 0)] fun y171 =>
 .ret (y171, y168.Normal, a0, a1, a2, a3, a4))
 (.ret (y158.1, y158.2, a0, a1, a2, a3, a4))))
noncomputable def ezn {o : (Int × Int × Int) → Option Bool} (Y : YldS Tryz.prog az1 o) (a0 : (List (az0 × az0 × az0))) (a1 : (List (az0 × az0 × az0))) (a2 : Int) (a3 : Int) (a4 : (List (Int × Int × Int))) : CallS (Bool × (Int × Int × Int) × (List (az0 × az0 × az0)) × (List (az0 × az0 × az0)) × Int × Int × (List (Int × Int × Int))) :=
  mkC [] hd Tryz.func172 (by kernel_rfl) (ezo Y a0 a1 a2 a3 a4) 6 [.yld Y.l, .ptr 1 0, .ptr 2 0, .ptr 3 0, .ptr 4 0, .ptr 5 0] [(0, .tok Y.τ (tokP false (az1 default))), (1, .box [.pure (encL 6 az2 a0)]), (2, .box [.pure (encL 6 az2 a1)]), (3, .box [pz a2]), (4, .box [pz a3]), (5, .box [.pure (encL 3 az1 a4)])] (fun _ => .tup []) (fun r => [(0, .tok Y.τ (tokP r.1 (az1 r.2.1))), (1, .box [.pure (encL 6 az2 r.2.2.1)]), (2, .box [.pure (encL 6 az2 r.2.2.2.1)]), (3, .box [pz r.2.2.2.2.1]), (4, .box [pz r.2.2.2.2.2.1]), (5, .box [.pure (encL 3 az1 r.2.2.2.2.2.2)])]) (by kernel_rfl)
noncomputable def izy (a0 : (List (az0 × az0 × az0))) (a1 : Int) (a2 : (List (az0 × az0 × az0))) (a3 : Int) (_a4 : (List (Int × Int × Int))) (x : (Int × Int × Int)) : T Bool :=
 .call (izc x a0 a1 a2 a3) [] fun y3 =>
 .br y3
 (.ret true)
 (.ret false)
noncomputable def nzj (a0 : (List (az0 × az0 × az0))) (a1 : Int) (a2 : (List (az0 × az0 × az0))) (a3 : Int) (a4 : (List (Int × Int × Int))) : CallS ((Int × Int × Int) × Bool) :=
  mkR (encX := az1) [⟨135, Ozd⟩] hd Tryz.func82 (by kernel_rfl) (.call (fzi a0 a1 a2 a3 a4) [] fun y1 =>
  .ret y1)
  (izy a0 a1 a2 a3 a4) [(0, .box [.pure (encL 6 az2 a0)]), (64, .box [pz a1]), (128, .box [.pure (encL 6 az2 a2)]), (192, .box [pz a3]), (256, .box [pz 0, pz 0, pz 0]), (320, .box [.ff])]
  (fun p => [(0, .box [.pure (encL 6 az2 a0)]), (64, .box [pz a1]), (128, .box [.pure (encL 6 az2 a2)]), (192, .box [pz a3]), (256, .box (p.cells.map .pure)), (320, .box [.tt])]) [(0, 960), (1, 832), (2, 833), (3, 834), (4, 835), (5, 836)] (fun r => r.1) (fun r => r.2.1)
  (fun y1 Y => ezn Y y1.1 y1.2.1 y1.2.2.1 y1.2.2.2.1 y1.2.2.2.2)
  (.ret ((0, 0, 0), false)) (fun x => (x, true)) (fun _ _ => rfl) 0 [.pure (encL 6 az2 a0), pz a1, .pure (encL 6 az2 a2), pz a3, .pure (encL 3 az1 a4)] [] (fun r => .tup [.pure (az1 r.1), .pure (.bool r.2)]) (fun _ => []) (by kernel_rfl)
set_option maxHeartbeats 8000000 in
set_option maxRecDepth 20000 in
noncomputable def lzu (a0 : (List (az0 × az0 × az0))) (a1 : (List Int)) : T ((az0 × az0 × az0) × Int × Bool) :=
 .cut 2 (fun (y599 : Bool) => ⟨[(0, .pure (encL 6 az2 a0)), (1, .pure (encL 1 az3 a1)), (4, .ptr 0 0), (22, .pure (.bool y599))], [(0, .box [pz 0, pz 0, pz 0, pz 0, pz 0, pz 0])], [], 1⟩)
 (.call (cz5 a0) [] fun y600 =>
 .br (!y600)
 (.ret (.out true))
 (.ret (.out (((a1.length : Nat) : Int) != ((a0.length : Nat) : Int))))) fun y599 =>
 .br y599
 (.ret (((⟨0, 0⟩ : az0), (⟨0, 0⟩ : az0), (⟨0, 0⟩ : az0)), 0, false))
 (.loop (fun (x1021 : (Int × Int × Int × Int × Int × Int × Int × Int)) => ⟨[(0, .pure (encL 6 az2 a0)), (4, .ptr 0 0), (7, .ptr 1 0), (8, pz x1021.2.2.2.2.2.2.1), (24, .pure (encL 1 az3 a1)), (25, pz ((a1.length : Nat) : Int)), (26, pz x1021.2.2.2.2.2.2.2)], [(0, .box [pz 0, pz 0, pz 0, pz 0, pz 0, pz 0]), (1, .box [pz x1021.1, pz x1021.2.1, pz x1021.2.2.1, pz x1021.2.2.2.1, pz x1021.2.2.2.2.1, pz x1021.2.2.2.2.2.1])], [], 2⟩)
 (.exit 0) (fun (y1126 : (Int × Int × Int × Int × Int × Int × Int)) => ⟨[(4, .ptr 0 0), (7, .ptr 1 0), (8, pz y1126.2.2.2.2.2.2)], [(0, .box [pz 0, pz 0, pz 0, pz 0, pz 0, pz 0]), (1, .box [pz y1126.1, pz y1126.2.1, pz y1126.2.2.1, pz y1126.2.2.2.1, pz y1126.2.2.2.2.1, pz y1126.2.2.2.2.2.1])], [], 2⟩)
 (fun x1021 => .br (decide (x1021.2.2.2.2.2.2.2 < ((a1.length : Nat) : Int)))
 (.grd (0 ≤ x1021.2.2.2.2.2.2.2 ∧ x1021.2.2.2.2.2.2.2 < ((a1.length : Nat) : Int)) <|
 .cut 1 (fun (y1180 : Bool) => ⟨[(0, .pure (encL 6 az2 a0)), (4, .ptr 0 0), (7, .ptr 1 0), (8, pz x1021.2.2.2.2.2.2.1), (9, pz x1021.2.2.2.2.2.2.2), (10, pz (a1.getD ((x1021.2.2.2.2.2.2.2).toNat) default)), (24, .pure (encL 1 az3 a1)), (25, pz ((a1.length : Nat) : Int)), (26, pz x1021.2.2.2.2.2.2.2), (36, .pure (.bool y1180))], [(0, .box [pz 0, pz 0, pz 0, pz 0, pz 0, pz 0]), (1, .box [pz x1021.1, pz x1021.2.1, pz x1021.2.2.1, pz x1021.2.2.2.1, pz x1021.2.2.2.2.1, pz x1021.2.2.2.2.2.1])], [], 2⟩)
 (.br (decide ((a1.getD ((x1021.2.2.2.2.2.2.2).toNat) default) < 0))
 (.ret (.out true))
 (.ret (.out (decide ((a1.getD ((x1021.2.2.2.2.2.2.2).toNat) default) > 65536))))) fun y1180 =>
 .br y1180
 (.ret (.fin (((⟨0, 0⟩ : az0), (⟨0, 0⟩ : az0), (⟨0, 0⟩ : az0)), 0, false)))
 (.grd (0 ≤ x1021.2.2.2.2.2.2.2 ∧ x1021.2.2.2.2.2.2.2 < ((a0.length : Nat) : Int)) <|
 .unroll 4 <|
 .known true <|
 .ix 0 3 rfl <|
 .ix 0 3 rfl <|
 .name 14007 ((IntKind.i64.wrap ((a1.getD ((x1021.2.2.2.2.2.2.2).toNat) default) * ((a0.getD ((x1021.2.2.2.2.2.2.2).toNat) default).1.Lo)))) fun z1203 =>
 .name 14008 ((IntKind.i64.wrap (x1021.1 + z1203))) fun z1204 =>
 .ix 0 3 rfl <|
 .ix 0 3 rfl <|
 .name 15007 ((IntKind.i64.wrap ((a1.getD ((x1021.2.2.2.2.2.2.2).toNat) default) * ((a0.getD ((x1021.2.2.2.2.2.2.2).toNat) default).1.Hi)))) fun z1205 =>
 .name 15008 ((IntKind.i64.wrap (x1021.2.1 + z1205))) fun z1206 =>
 .ix 0 3 rfl <|
 .lit 16000 (1) <|
 .known true <|
 .ix 1 3 rfl <|
 .ix 1 3 rfl <|
 .name 14007 ((IntKind.i64.wrap ((a1.getD ((x1021.2.2.2.2.2.2.2).toNat) default) * ((a0.getD ((x1021.2.2.2.2.2.2.2).toNat) default).2.1.Lo)))) fun z1215 =>
 .name 14008 ((IntKind.i64.wrap (x1021.2.2.1 + z1215))) fun z1216 =>
 .ix 1 3 rfl <|
 .ix 1 3 rfl <|
 .name 15007 ((IntKind.i64.wrap ((a1.getD ((x1021.2.2.2.2.2.2.2).toNat) default) * ((a0.getD ((x1021.2.2.2.2.2.2.2).toNat) default).2.1.Hi)))) fun z1217 =>
 .name 15008 ((IntKind.i64.wrap (x1021.2.2.2.1 + z1217))) fun z1218 =>
 .ix 1 3 rfl <|
 .lit 16000 (2) <|
 .known true <|
 .ix 2 3 rfl <|
 .ix 2 3 rfl <|
 .name 14007 ((IntKind.i64.wrap ((a1.getD ((x1021.2.2.2.2.2.2.2).toNat) default) * ((a0.getD ((x1021.2.2.2.2.2.2.2).toNat) default).2.2.Lo)))) fun z1227 =>
 .name 14008 ((IntKind.i64.wrap (x1021.2.2.2.2.1 + z1227))) fun z1228 =>
 .ix 2 3 rfl <|
 .ix 2 3 rfl <|
 .name 15007 ((IntKind.i64.wrap ((a1.getD ((x1021.2.2.2.2.2.2.2).toNat) default) * ((a0.getD ((x1021.2.2.2.2.2.2.2).toNat) default).2.2.Hi)))) fun z1229 =>
 .name 15008 ((IntKind.i64.wrap (x1021.2.2.2.2.2.1 + z1229))) fun z1230 =>
 .ix 2 3 rfl <|
 .lit 16000 (3) <|
 .known false <|
 .ret (.next (z1204, z1206, z1216, z1218, z1228, z1230, (IntKind.i64.wrap (x1021.2.2.2.2.2.2.1 + (a1.getD ((x1021.2.2.2.2.2.2.2).toNat) default))), (IntKind.i64.wrap (x1021.2.2.2.2.2.2.2 + 1))))))
 (.ret (.out (x1021.1, x1021.2.1, x1021.2.2.1, x1021.2.2.2.1, x1021.2.2.2.2.1, x1021.2.2.2.2.2.1, x1021.2.2.2.2.2.2.1))))
 (0, 0, 0, 0, 0, 0, 0, 0) [] fun y1126 =>
 .cut 1 (fun (y1232 : Bool) => ⟨[(4, .ptr 0 0), (7, .ptr 1 0), (8, pz y1126.2.2.2.2.2.2), (78, .pure (.bool y1232))], [(0, .box [pz 0, pz 0, pz 0, pz 0, pz 0, pz 0]), (1, .box [pz y1126.1, pz y1126.2.1, pz y1126.2.2.1, pz y1126.2.2.2.1, pz y1126.2.2.2.2.1, pz y1126.2.2.2.2.2.1])], [], 2⟩)
 (.br (decide (y1126.2.2.2.2.2.2 < 1))
 (.ret (.out true))
 (.ret (.out (decide (y1126.2.2.2.2.2.2 > 65536))))) fun y1232 =>
 .br y1232
 (.ret (((⟨0, 0⟩ : az0), (⟨0, 0⟩ : az0), (⟨0, 0⟩ : az0)), 0, false))
 (.ret (((⟨y1126.1, y1126.2.1⟩ : az0), (⟨y1126.2.2.1, y1126.2.2.2.1⟩ : az0), (⟨y1126.2.2.2.2.1, y1126.2.2.2.2.2.1⟩ : az0)), y1126.2.2.2.2.2.2, true)))
noncomputable def lzt (a0 : (List (az0 × az0 × az0))) (a1 : (List Int)) : CallS ((az0 × az0 × az0) × Int × Bool) :=
  mkC [] hd Tryz.func190 (by kernel_rfl) (lzu a0 a1) 0 [.pure (encL 6 az2 a0), .pure (encL 1 az3 a1)] [] (fun r => .tup [.pure (az2 r.1), pz r.2.1, .pure (.bool r.2.2)]) (fun _ => []) (by kernel_rfl)
noncomputable def hz5 (a0 : Int) : T Bool :=
 .br (decide (a0 ≥ 0))
 (.ret (decide (a0 ≤ 1048576)))
 (.ret false)
noncomputable def hz4 (a0 : Int) : CallS Bool :=
  mkC [] hd Tryz.func191 (by kernel_rfl) (hz5 a0) 0 [pz a0] [] (fun r => .pure (.bool r)) (fun _ => []) (by kernel_rfl)
noncomputable def hz3 (a0 : (List Int)) : T Int :=
 .loop (fun (x5 : (Int × Int)) => ⟨[(3, pz x5.1), (6, .pure (encL 1 az3 a0)), (7, pz ((a0.length : Nat) : Int)), (8, pz x5.2)], [], [], 0⟩)
 (.exit 0) (fun (y6 : Int) => ⟨[(3, pz y6)], [], [], 0⟩)
 (fun x5 => .br (decide (x5.2 < ((a0.length : Nat) : Int)))
 (.grd (0 ≤ x5.2 ∧ x5.2 < ((a0.length : Nat) : Int)) <|
 .ret (.next ((max (max x5.1 (a0.getD ((x5.2).toNat) default)) (IntKind.i64.wrap (0 - (a0.getD ((x5.2).toNat) default)))), (IntKind.i64.wrap (x5.2 + 1)))))
 (.ret (.out x5.1)))
 (0, 0) [] fun y6 =>
 .ret y6
noncomputable def ezt (a0 : (List Int)) : CallS Int :=
  mkC [] hd Tryz.func192 (by kernel_rfl) (hz3 a0) 0 [.pure (encL 1 az3 a0)] [] (fun r => pz r) (fun _ => []) (by kernel_rfl)
noncomputable def kz6 (a0 : (List Int)) (a1 : (List Int)) (a2 : (List (az0 × az0 × az0))) (a3 : Int) (a4 : (List (az0 × az0 × az0))) (a5 : Int) : T (Int × Bool) :=
 .call (lzt a2 a0) [] fun y84 =>
 .call (lzt a4 a1) [] fun y86 =>
 .cut 1 (fun (y98 : Bool) => ⟨[(3, pz a3), (5, pz a5), (12, .ptr 0 0), (13, .ptr 1 0), (14, .ptr 2 0), (15, pz y84.2.1), (17, .ptr 3 0), (59, .pure (.bool y98))], [(0, .box [pz 0]), (1, .box [.ff]), (2, .box [pz y84.1.1.Lo, pz y84.1.1.Hi, pz y84.1.2.1.Lo, pz y84.1.2.1.Hi, pz y84.1.2.2.Lo, pz y84.1.2.2.Hi]), (3, .box [pz y86.1.1.Lo, pz y86.1.1.Hi, pz y86.1.2.1.Lo, pz y86.1.2.1.Hi, pz y86.1.2.2.Lo, pz y86.1.2.2.Hi])], [.func 189 [] [.ptr 0 0, .ptr 1 0]], 4⟩)
 (.br (!y84.2.2)
 (.ret (.out true))
 (.br (!y86.2.2)
 (.ret (.out true))
 (.br (y84.2.1 != y86.2.1)
 (.ret (.out true))
 (.call (hz4 a3) [] fun y99 =>
 .br (!y99)
 (.ret (.out true))
 (.call (hz4 a5) [] fun y100 =>
 .ret (.out (!y100))))))) fun y98 =>
 .br y98
 (.ret (0, false))
 (.unroll 4 <|
 .known true <|
 .ix 0 3 rfl <|
 .ix 0 3 rfl <|
 .ix 0 3 rfl <|
 .ix 0 3 rfl <|
 .conv 11018 (czw 1 az3 ([(IntKind.i64.wrap (y84.1.1.Lo - y86.1.1.Hi)), (IntKind.i64.wrap (y84.1.1.Hi - y86.1.1.Lo))] : (List Int)) 2) <|
 .call (ezt ([(IntKind.i64.wrap (y84.1.1.Lo - y86.1.1.Hi)), (IntKind.i64.wrap (y84.1.1.Hi - y86.1.1.Lo))] : (List Int))) [] fun y150 =>
 .grd (y84.2.1 ≠ 0) <|
 .br (decide ((IntKind.i64.wrap ((IntKind.i64.wrap ((IntKind.i64.wrap (y150 + y84.2.1)) - 1)).tdiv y84.2.1)) > (IntKind.i64.wrap (a3 + a5))))
 (.ret ((-1), true))
 (.name 15003 ((IntKind.i64.wrap ((IntKind.i64.wrap ((IntKind.i64.wrap ((IntKind.i64.wrap (y150 + y84.2.1)) - 1)).tdiv y84.2.1)) * (IntKind.i64.wrap ((IntKind.i64.wrap ((IntKind.i64.wrap (y150 + y84.2.1)) - 1)).tdiv y84.2.1))))) fun z151 =>
 .name 15004 ((IntKind.i64.wrap ((IntKind.i64.wrap ((IntKind.i64.wrap (a3 + a5)) * (IntKind.i64.wrap (a3 + a5)))) - z151))) fun z152 =>
 .lit 16000 (1) <|
 .known true <|
 .ix 1 3 rfl <|
 .ix 1 3 rfl <|
 .ix 1 3 rfl <|
 .ix 1 3 rfl <|
 .conv 11018 (czw 1 az3 ([(IntKind.i64.wrap (y84.1.2.1.Lo - y86.1.2.1.Hi)), (IntKind.i64.wrap (y84.1.2.1.Hi - y86.1.2.1.Lo))] : (List Int)) 2) <|
 .call (ezt ([(IntKind.i64.wrap (y84.1.2.1.Lo - y86.1.2.1.Hi)), (IntKind.i64.wrap (y84.1.2.1.Hi - y86.1.2.1.Lo))] : (List Int))) [] fun y158 =>
 .grd (y84.2.1 ≠ 0) <|
 .br (decide ((IntKind.i64.wrap ((IntKind.i64.wrap ((IntKind.i64.wrap (y158 + y84.2.1)) - 1)).tdiv y84.2.1)) > (IntKind.i64.wrap (a3 + a5))))
 (.ret ((-1), true))
 (.name 15003 ((IntKind.i64.wrap ((IntKind.i64.wrap ((IntKind.i64.wrap ((IntKind.i64.wrap (y158 + y84.2.1)) - 1)).tdiv y84.2.1)) * (IntKind.i64.wrap ((IntKind.i64.wrap ((IntKind.i64.wrap (y158 + y84.2.1)) - 1)).tdiv y84.2.1))))) fun z159 =>
 .name 15004 ((IntKind.i64.wrap (z152 - z159))) fun z160 =>
 .lit 16000 (2) <|
 .known true <|
 .ix 2 3 rfl <|
 .ix 2 3 rfl <|
 .ix 2 3 rfl <|
 .ix 2 3 rfl <|
 .conv 11018 (czw 1 az3 ([(IntKind.i64.wrap (y84.1.2.2.Lo - y86.1.2.2.Hi)), (IntKind.i64.wrap (y84.1.2.2.Hi - y86.1.2.2.Lo))] : (List Int)) 2) <|
 .call (ezt ([(IntKind.i64.wrap (y84.1.2.2.Lo - y86.1.2.2.Hi)), (IntKind.i64.wrap (y84.1.2.2.Hi - y86.1.2.2.Lo))] : (List Int))) [] fun y166 =>
 .grd (y84.2.1 ≠ 0) <|
 .br (decide ((IntKind.i64.wrap ((IntKind.i64.wrap ((IntKind.i64.wrap (y166 + y84.2.1)) - 1)).tdiv y84.2.1)) > (IntKind.i64.wrap (a3 + a5))))
 (.ret ((-1), true))
 (.name 15003 ((IntKind.i64.wrap ((IntKind.i64.wrap ((IntKind.i64.wrap ((IntKind.i64.wrap (y166 + y84.2.1)) - 1)).tdiv y84.2.1)) * (IntKind.i64.wrap ((IntKind.i64.wrap ((IntKind.i64.wrap (y166 + y84.2.1)) - 1)).tdiv y84.2.1))))) fun z167 =>
 .name 15004 ((IntKind.i64.wrap (z160 - z167))) fun z168 =>
 .lit 16000 (3) <|
 .known false <|
 .ret (z168, true)))))
noncomputable def qzo (a0 : (List Int)) (a1 : (List Int)) (a2 : (List (az0 × az0 × az0))) (a3 : Int) (a4 : (List (az0 × az0 × az0))) (a5 : Int) : CallS (Int × Bool) :=
  mkC [⟨189, Ozf⟩] hd Tryz.func144 (by kernel_rfl) (kz6 a0 a1 a2 a3 a4 a5) 0 [.pure (encL 1 az3 a0), .pure (encL 1 az3 a1), .pure (encL 6 az2 a2), pz a3, .pure (encL 6 az2 a4), pz a5] [] (fun r => .tup [pz r.1, .pure (.bool r.2)]) (fun _ => []) (by kernel_rfl)
noncomputable def hz2 (a0 : (List Int)) (a1 : (List Int)) (a2 : (List (az0 × az0 × az0))) (a3 : Int) (a4 : (List (az0 × az0 × az0))) (a5 : Int) : T Bool :=
 .call (qzo a0 a1 a2 a3 a4 a5) [] fun y2 =>
 .br y2.2
 (.ret (decide (y2.1 ≥ 0)))
 (.ret false)
noncomputable def ezs (a0 : (List Int)) (a1 : (List Int)) (a2 : (List (az0 × az0 × az0))) (a3 : Int) (a4 : (List (az0 × az0 × az0))) (a5 : Int) : CallS Bool :=
  mkC [⟨143, Oze⟩] hd Tryz.func85 (by kernel_rfl) (hz2 a0 a1 a2 a3 a4 a5) 0 [.pure (encL 1 az3 a0), .pure (encL 1 az3 a1), .pure (encL 6 az2 a2), pz a3, .pure (encL 6 az2 a4), pz a5] [] (fun r => .pure (.bool r)) (fun _ => []) (by kernel_rfl)
noncomputable def vzg (a0 : bz1) : T dz0 :=
 .ret (⟨2, nl, a0.witness⟩ : dz0)
noncomputable def vzf (a0 : bz1) : CallS dz0 :=
  mkC [] hd Tryz.func86 (by kernel_rfl) (vzg a0) 0 [.iface 144 (.pure (ezm a0))] [] (fun r => .pure (uzm r)) (fun _ => []) (by kernel_rfl)
noncomputable def tzi (a0 : azv) : T dz0 :=
 .ret (⟨1, a0.normals, (⟨0, nl, nl⟩ : azy)⟩ : dz0)
noncomputable def tzh (a0 : azv) : CallS dz0 :=
  mkC [] hd Tryz.func86 (by kernel_rfl) (tzi a0) 0 [.iface 146 (.pure (ezd a0))] [] (fun r => .pure (uzm r)) (fun _ => []) (by kernel_rfl)
noncomputable def mzw (a0 : az8) (a1 : (List az0)) (a2 : (List (Int × Int × Int))) : T dz0 :=
 .call (fzv (⟨a0.Robot, a0.Shapes, a0.Skips⟩ : az8) a1) [] fun y2 =>
 .br (!y2.2)
 (.ret (⟨0, nl, (⟨0, nl, nl⟩ : azy)⟩ : dz0))
 (.conv 5003 (Hzg 3 az1 102 (((y2.1.pairs.length : Nat) : Int)).toNat (0, 0, 0)) <|
 .grd (0 ≤ ((y2.1.pairs.length : Nat) : Int) ∧ ((y2.1.pairs.length : Nat) : Int) ≤ ((y2.1.pairs.length : Nat) : Int) ∧ ((y2.1.pairs.length : Nat) : Int) ≤ 9223372036854775807 ∧ ((y2.1.pairs.length : Nat) : Int) * 24 ≤ 140737488355328) <|
 .loop (fun (x191 : ((List (Int × Int × Int)) × Bool × Int)) => ⟨[(2, .pure (encL 3 az1 a2)), (6, .ptr 0 0), (7, .ptr 4 0), (9, .vec 5), (10, .pure (.bool x191.2.1)), (33, pz ((y2.1.pairs.length : Nat) : Int)), (34, pz x191.2.2)], [(0, .box [pz 0, .vec 1, pz 0, .vec 2, .vec 3]), (1, .nilv), (2, .nilv), (3, .nilv), (4, .box [.pure (encL 3 aze y2.1.shapes), .pure (encL 2 ezp y2.1.pairs), .pure (encL 1 (encL 6 az2) y2.1.points)]), (5, vecO 3 az1 x191.1 102)], [.func 79 [] [.ptr 0 0]], 6⟩)
 (.exit 0) (fun (y238 : ((List (Int × Int × Int)) × Bool)) => ⟨[(6, .ptr 0 0), (9, .vec 4), (10, .pure (.bool y238.2))], [(0, .box [pz 0, .vec 1, pz 0, .vec 2, .vec 3]), (1, .nilv), (2, .nilv), (3, .nilv), (4, vecO 3 az1 y238.1 102)], [.func 79 [] [.ptr 0 0]], 5⟩)
 (fun x191 => .br (decide (x191.2.2 < ((y2.1.pairs.length : Nat) : Int)))
 (.cut 0 (fun (y269 : ((List (Int × Int × Int)) × Bool)) => ⟨[(2, .pure (encL 3 az1 a2)), (6, .ptr 0 0), (7, .ptr 4 0), (9, .vec 5), (10, .pure (.bool y269.2)), (33, pz ((y2.1.pairs.length : Nat) : Int)), (34, pz x191.2.2)], [(0, .box [pz 0, .vec 1, pz 0, .vec 2, .vec 3]), (1, .nilv), (2, .nilv), (3, .nilv), (4, .box [.pure (encL 3 aze y2.1.shapes), .pure (encL 2 ezp y2.1.pairs), .pure (encL 1 (encL 6 az2) y2.1.points)]), (5, vecO 3 az1 y269.1 102)], [.func 79 [] [.ptr 0 0]], 6⟩)
 (.call (gzh (⟨y2.1.shapes, y2.1.pairs, y2.1.points⟩ : azz) x191.2.2) [] fun y271 =>
 .conv 11010 (Lzp 3 az1 a2 (min x191.2.2 ((a2.length : Nat) : Int)) (min (IntKind.i64.wrap (x191.2.2 + 1)) ((a2.length : Nat) : Int))) <|
 .grd (0 ≤ (min x191.2.2 ((a2.length : Nat) : Int)) ∧ (min x191.2.2 ((a2.length : Nat) : Int)) ≤ (min (IntKind.i64.wrap (x191.2.2 + 1)) ((a2.length : Nat) : Int)) ∧ (min (IntKind.i64.wrap (x191.2.2 + 1)) ((a2.length : Nat) : Int)) ≤ ((a2.length : Nat) : Int)) <|
 .call (nzj y271.a y271.ra y271.b y271.rb ((a2.drop (((min x191.2.2 ((a2.length : Nat) : Int))).toNat)).take (((min (IntKind.i64.wrap (x191.2.2 + 1)) ((a2.length : Nat) : Int))).toNat - ((min x191.2.2 ((a2.length : Nat) : Int))).toNat))) [] fun y275 =>
 .br y275.2
 (.grd (0 ≤ x191.2.2 ∧ x191.2.2 < ((x191.1.length : Nat) : Int)) <|
 .conv 14004 (qzv 3 az1 x191.1 102 ((x191.2.2).toNat) y275.1) <|
 .grd ((x191.2.2).toNat < x191.1.length ∧ 0 ≤ (x191.2.2).toNat) <|
 .ret (.out ((x191.1.set ((x191.2.2).toNat) y275.1), x191.2.1)))
 (.call (bzw y271.a) [] fun y279 =>
 .call (bzw y271.b) [] fun y280 =>
 .call (dzg y279 y280 (IntKind.i64.wrap (y271.ra + y271.rb)) 64) [] fun y281 =>
 .call (ezs y281.Left y281.Right y271.a y271.ra y271.b y271.rb) [] fun y283 =>
 .br y283
 (.call (vzf (⟨(⟨x191.2.2, y281.Left, y281.Right⟩ : azy)⟩ : bz1)) [] fun y284 =>
 .ret (.fin (.fin y284)))
 (.ret (.out (x191.1, false))))) fun y269 =>
 .ret (.next (y269.1, y269.2, (IntKind.i64.wrap (x191.2.2 + 1)))))
 (.ret (.out (x191.1, x191.2.1))))
 ((List.replicate (((y2.1.pairs.length : Nat) : Int)).toNat ((0, 0, 0) : (Int × Int × Int))), true, 0) [] fun y238 =>
 .br (!y238.2)
 (.ret (⟨0, y238.1, (⟨0, nl, nl⟩ : azy)⟩ : dz0))
 (.call (tzh (⟨y238.1⟩ : azv)) [] fun y285 =>
 .ret y285))
noncomputable def ezj (a0 : az8) (a1 : (List az0)) (a2 : (List (Int × Int × Int))) : CallS dz0 :=
  mkC [⟨79, Qzr⟩] hd Tryz.func28 (by kernel_rfl) (mzw a0 a1 a2) 0 [.pure (bzm a0), .pure (encL 2 az6 a1), .pure (encL 3 az1 a2)] [] (fun r => .pure (uzm r)) (fun _ => []) (by kernel_rfl)
abbrev nz5 := RecS Tryz.prog 51 8 (Int × Int × (List (Int × Int × Int)) × (List az4) × Int × (List az4) × Int × Int × (List (Int × Int × Int)) × Int × (List Int) × (List Int) × (List Int) × (List Int) × (List azk) × (List bzc) × (List azo) × (List gz4) × Int) (Bool × (List az4) × Int × (List az4) × Int × Int × (List (Int × Int × Int)) × Int × (List Int) × (List Int) × (List Int) × (List Int) × (List azk) × (List bzc) × (List azo) × (List gz4) × Int) (fun a => [pz a.1, pz a.2.1, .pure (encL 3 az1 a.2.2.1), .ptr 0 0, .ptr 2 0, .ptr 3 0, .ptr 4 0, .ptr 5 0, .ptr 6 0, .ptr 7 0]) (fun a => [(0, .box [.vec 1]), (1, vecO 3 azh a.2.2.2.1 37), (2, .box [pz a.2.2.2.2.1, .pure (encL 3 azh a.2.2.2.2.2.1), pz a.2.2.2.2.2.2.1, pz a.2.2.2.2.2.2.2.1, .pure (encL 3 az1 a.2.2.2.2.2.2.2.2.1), pz a.2.2.2.2.2.2.2.2.2.1, .pure (encL 1 az3 a.2.2.2.2.2.2.2.2.2.2.1), .pure (encL 1 az3 a.2.2.2.2.2.2.2.2.2.2.2.1)]), (3, .box [.pure (encL 1 az3 a.2.2.2.2.2.2.2.2.2.2.2.2.1)]), (4, .box [.pure (encL 1 az3 a.2.2.2.2.2.2.2.2.2.2.2.2.2.1)]), (5, .box [.pure (encL 12 az9 a.2.2.2.2.2.2.2.2.2.2.2.2.2.2.1), .pure (encL 5 azg a.2.2.2.2.2.2.2.2.2.2.2.2.2.2.2.1), .pure (encL 3 aze a.2.2.2.2.2.2.2.2.2.2.2.2.2.2.2.2.1), .pure (encL 2 azn a.2.2.2.2.2.2.2.2.2.2.2.2.2.2.2.2.2.1)]), (6, .box [pz a.2.2.2.2.2.2.2.2.2.2.2.2.2.2.2.2.2.2]), (7, .box [.func 51 [] [.ptr 0 0, .ptr 2 0, .ptr 3 0, .ptr 4 0, .ptr 5 0, .ptr 6 0, .ptr 7 0]])]) (fun _ r => .pure (.bool r.1)) (fun _ r => [(0, .box [.vec 8]), (1, .gone), (2, .box [pz r.2.2.1, .pure (encL 3 azh r.2.2.2.1), pz r.2.2.2.2.1, pz r.2.2.2.2.2.1, .pure (encL 3 az1 r.2.2.2.2.2.2.1), pz r.2.2.2.2.2.2.2.1, .pure (encL 1 az3 r.2.2.2.2.2.2.2.2.1), .pure (encL 1 az3 r.2.2.2.2.2.2.2.2.2.1)]), (3, .box [.pure (encL 1 az3 r.2.2.2.2.2.2.2.2.2.2.1)]), (4, .box [.pure (encL 1 az3 r.2.2.2.2.2.2.2.2.2.2.2.1)]), (5, .box [.pure (encL 12 az9 r.2.2.2.2.2.2.2.2.2.2.2.2.1), .pure (encL 5 azg r.2.2.2.2.2.2.2.2.2.2.2.2.2.1), .pure (encL 3 aze r.2.2.2.2.2.2.2.2.2.2.2.2.2.2.1), .pure (encL 2 azn r.2.2.2.2.2.2.2.2.2.2.2.2.2.2.2.1)]), (6, .box [pz r.2.2.2.2.2.2.2.2.2.2.2.2.2.2.2.2]), (7, .box [.func 51 [] [.ptr 0 0, .ptr 2 0, .ptr 3 0, .ptr 4 0, .ptr 5 0, .ptr 6 0, .ptr 7 0]]), (8, vecO 3 azh r.2.1 37)])
noncomputable def nz6 (rec : nz5) (a0 : Int) (a1 : Int) (a2 : (List (Int × Int × Int))) (a3 : (List az4)) (a4 : Int) (a5 : (List az4)) (a6 : Int) (a7 : Int) (a8 : (List (Int × Int × Int))) (a9 : Int) (a10 : (List Int)) (a11 : (List Int)) (a12 : (List Int)) (a13 : (List Int)) (a14 : (List azk)) (a15 : (List bzc)) (a16 : (List azo)) (a17 : (List gz4)) (a18 : Int) : T (Bool × (List az4) × Int × (List az4) × Int × Int × (List (Int × Int × Int)) × Int × (List Int) × (List Int) × (List Int) × (List Int) × (List azk) × (List bzc) × (List azo) × (List gz4) × Int) :=
 .br (decide (((a3.length : Nat) : Int) ≥ 4096))
 (.ret (false, a3, 0, nl, a0, a1, nl, 0, nl, nl, a12, a13, a14, a15, a16, a17, a18))
 (.call (izr a12 a13 a0 a1) [] fun y6 =>
 .call (ezj (⟨(⟨a14, a15⟩ : azj), a16, a17⟩ : az8) y6.1 a2) [] fun y8 =>
 .br (y8.Kind == 1)
 (.conv 8006 (czw 3 azh ([(⟨a0, a1, y8.Normals⟩ : az4)] : (List az4)) 37) <|
 .conv 8007 (hzn 3 azh a3 ([(⟨a0, a1, y8.Normals⟩ : az4)] : (List az4)) 37) <|
 .grd ((a3.length + ([(⟨a0, a1, y8.Normals⟩ : az4)] : (List az4)).length) * 40 ≤ 140737488355328 ∧ (a3.length + ([(⟨a0, a1, y8.Normals⟩ : az4)] : (List az4)).length) ≤ maxLen) <|
 .ret (true, (a3 ++ ([(⟨a0, a1, y8.Normals⟩ : az4)] : (List az4))), a4, a5, a6, a7, a8, a9, a10, a11, a12, a13, a14, a15, a16, a17, a18))
 (.br (y8.Kind == 2)
 (.ret (false, a3, 2, nl, a0, a1, nl, y8.Witness.Pair, y8.Witness.Left, y8.Witness.Right, a12, a13, a14, a15, a16, a17, a18))
 (.br (decide (a0 < a18))
 (.call (rec.C ((IntKind.i64.wrap (a0 + 1)), (IntKind.i64.wrap (2 * a1)), y8.Normals, a3, a4, a5, a6, a7, a8, a9, a10, a11, a12, a13, a14, a15, a16, a17, a18)) [(0, 0), (1, 1), (2, 2), (3, 3), (4, 4), (5, 5), (6, 6), (7, 7)] fun y11 =>
 .br y11.1
 (.call (rec.C ((IntKind.i64.wrap (a0 + 1)), (IntKind.i64.wrap ((IntKind.i64.wrap (2 * a1)) + 1)), y8.Normals, y11.2.1, y11.2.2.1, y11.2.2.2.1, y11.2.2.2.2.1, y11.2.2.2.2.2.1, y11.2.2.2.2.2.2.1, y11.2.2.2.2.2.2.2.1, y11.2.2.2.2.2.2.2.2.1, y11.2.2.2.2.2.2.2.2.2.1, y11.2.2.2.2.2.2.2.2.2.2.1, y11.2.2.2.2.2.2.2.2.2.2.2.1, y11.2.2.2.2.2.2.2.2.2.2.2.2.1, y11.2.2.2.2.2.2.2.2.2.2.2.2.2.1, y11.2.2.2.2.2.2.2.2.2.2.2.2.2.2.1, y11.2.2.2.2.2.2.2.2.2.2.2.2.2.2.2.1, y11.2.2.2.2.2.2.2.2.2.2.2.2.2.2.2.2)) [(0, 0), (1, 2824), (2, 2), (3, 3), (4, 4), (5, 5), (6, 6), (7, 7)] fun y12 =>
 .ret (y12.1, y12.2.1, y12.2.2.1, y12.2.2.2.1, y12.2.2.2.2.1, y12.2.2.2.2.2.1, y12.2.2.2.2.2.2.1, y12.2.2.2.2.2.2.2.1, y12.2.2.2.2.2.2.2.2.1, y12.2.2.2.2.2.2.2.2.2.1, y12.2.2.2.2.2.2.2.2.2.2.1, y12.2.2.2.2.2.2.2.2.2.2.2.1, y12.2.2.2.2.2.2.2.2.2.2.2.2.1, y12.2.2.2.2.2.2.2.2.2.2.2.2.2.1, y12.2.2.2.2.2.2.2.2.2.2.2.2.2.2.1, y12.2.2.2.2.2.2.2.2.2.2.2.2.2.2.2.1, y12.2.2.2.2.2.2.2.2.2.2.2.2.2.2.2.2))
 (.ret (false, y11.2.1, y11.2.2.1, y11.2.2.2.1, y11.2.2.2.2.1, y11.2.2.2.2.2.1, y11.2.2.2.2.2.2.1, y11.2.2.2.2.2.2.2.1, y11.2.2.2.2.2.2.2.2.1, y11.2.2.2.2.2.2.2.2.2.1, y11.2.2.2.2.2.2.2.2.2.2.1, y11.2.2.2.2.2.2.2.2.2.2.2.1, y11.2.2.2.2.2.2.2.2.2.2.2.2.1, y11.2.2.2.2.2.2.2.2.2.2.2.2.2.1, y11.2.2.2.2.2.2.2.2.2.2.2.2.2.2.1, y11.2.2.2.2.2.2.2.2.2.2.2.2.2.2.2.1, y11.2.2.2.2.2.2.2.2.2.2.2.2.2.2.2.2)))
 (.ret (false, a3, 0, nl, a0, a1, nl, 0, nl, nl, a12, a13, a14, a15, a16, a17, a18)))))
noncomputable def ezk : nz5 → nz5 := RecS.next [] hd Tryz.func51 (by kernel_rfl) (fun rec a => nz6 rec a.1 a.2.1 a.2.2.1 a.2.2.2.1 a.2.2.2.2.1 a.2.2.2.2.2.1 a.2.2.2.2.2.2.1 a.2.2.2.2.2.2.2.1 a.2.2.2.2.2.2.2.2.1 a.2.2.2.2.2.2.2.2.2.1 a.2.2.2.2.2.2.2.2.2.2.1 a.2.2.2.2.2.2.2.2.2.2.2.1 a.2.2.2.2.2.2.2.2.2.2.2.2.1 a.2.2.2.2.2.2.2.2.2.2.2.2.2.1 a.2.2.2.2.2.2.2.2.2.2.2.2.2.2.1 a.2.2.2.2.2.2.2.2.2.2.2.2.2.2.2.1 a.2.2.2.2.2.2.2.2.2.2.2.2.2.2.2.2.1 a.2.2.2.2.2.2.2.2.2.2.2.2.2.2.2.2.2.1 a.2.2.2.2.2.2.2.2.2.2.2.2.2.2.2.2.2.2) (fun rec a => by kernel_rfl)
noncomputable def tzr (a0 : Int) (a1 : Int) (a2 : (List (Int × Int × Int))) (a3 : (List az4)) (a4 : Int) (a5 : (List az4)) (a6 : Int) (a7 : Int) (a8 : (List (Int × Int × Int))) (a9 : Int) (a10 : (List Int)) (a11 : (List Int)) (a12 : (List Int)) (a13 : (List Int)) (a14 : (List azk)) (a15 : (List bzc)) (a16 : (List azo)) (a17 : (List gz4)) (a18 : Int) : CallS (Bool × (List az4) × Int × (List az4) × Int × Int × (List (Int × Int × Int)) × Int × (List Int) × (List Int) × (List Int) × (List Int) × (List azk) × (List bzc) × (List azo) × (List gz4) × Int) := (RecS.fix ezk NN).C (a0, a1, a2, a3, a4, a5, a6, a7, a8, a9, a10, a11, a12, a13, a14, a15, a16, a17, a18)
noncomputable def rz9 (a0 : az8) (a1 : (List Int)) (a2 : (List Int)) (a3 : Int) : T czb :=
 .unroll 1000 <|
 .cut 2 (fun (y17 : Bool) => ⟨[(4, .ptr 0 0), (5, .ptr 1 0), (6, .ptr 2 0), (7, .ptr 3 0), (8, .ptr 4 0), (28, .pure (.bool y17))], [(0, .box [.pure (encL 12 az9 a0.Robot.Joints), .pure (encL 5 azg a0.Robot.Masses), .pure (encL 3 aze a0.Shapes), .pure (encL 2 azn a0.Skips)]), (1, .box [.pure (encL 1 az3 a1)]), (2, .box [.pure (encL 1 az3 a2)]), (3, .box [pz a3]), (4, .box [pz 0, .pure (.lst 0 0 fun _ => .unk), pz 0, pz 0, .pure (.lst 0 0 fun _ => .unk), pz 0, .pure (.lst 0 0 fun _ => .unk), .pure (.lst 0 0 fun _ => .unk)])], [.func 48 [] [.ptr 4 0]], 5⟩)
 (.call (dzn (⟨a0.Robot, a0.Shapes, a0.Skips⟩ : az8)) [] fun y18 =>
 .br (y18 != 0)
 (.ret (.out true))
 (.call (ez0 a0.Robot a1) [] fun y19 =>
 .br (!y19)
 (.ret (.out true))
 (.call (ez0 a0.Robot a2) [] fun y20 =>
 .ret (.out (!y20))))) fun y17 =>
 .br y17
 (.ret (⟨0, nl, (⟨0, 0, nl⟩ : az4), (⟨0, nl, nl⟩ : azy)⟩ : czb))
 (.cut 1 (fun (y22 : Bool) => ⟨[(4, .ptr 0 0), (5, .ptr 1 0), (6, .ptr 2 0), (7, .ptr 3 0), (8, .ptr 4 0), (35, .pure (.bool y22))], [(0, .box [.pure (encL 12 az9 a0.Robot.Joints), .pure (encL 5 azg a0.Robot.Masses), .pure (encL 3 aze a0.Shapes), .pure (encL 2 azn a0.Skips)]), (1, .box [.pure (encL 1 az3 a1)]), (2, .box [.pure (encL 1 az3 a2)]), (3, .box [pz a3]), (4, .box [pz 0, .pure (.lst 0 0 fun _ => .unk), pz 0, pz 0, .pure (.lst 0 0 fun _ => .unk), pz 0, .pure (.lst 0 0 fun _ => .unk), .pure (.lst 0 0 fun _ => .unk)])], [.func 48 [] [.ptr 4 0]], 5⟩)
 (.br (decide (a3 < 0))
 (.ret (.out true))
 (.ret (.out (decide (a3 > 20))))) fun y22 =>
 .br y22
 (.ret (⟨0, nl, (⟨0, 0, nl⟩ : az4), (⟨0, nl, nl⟩ : azy)⟩ : czb))
 (.cut 3 (fun (y27 : (Int × (List az4) × Int × Int × (List (Int × Int × Int)) × Int × (List Int) × (List Int))) => ⟨[(8, .ptr 0 0)], [(0, .box [pz y27.1, .pure (encL 3 azh y27.2.1), pz y27.2.2.1, pz y27.2.2.2.1, .pure (encL 3 az1 y27.2.2.2.2.1), pz y27.2.2.2.2.2.1, .pure (encL 1 az3 y27.2.2.2.2.2.2.1), .pure (encL 1 az3 y27.2.2.2.2.2.2.2)])], [.func 48 [] [.ptr 0 0]], 1⟩)
 (.call (tzr 0 0 nl nl 0 nl 0 0 nl 0 nl nl a1 a2 a0.Robot.Joints a0.Robot.Masses a0.Shapes a0.Skips a3) [(0, 5), (1, 6), (2, 4), (3, 1), (4, 2), (5, 0), (6, 3), (7, 69)] fun y29 =>
 .br y29.1
 (.ret (.out (1, y29.2.1, 0, 0, nl, 0, nl, nl)))
 (.ret (.out (y29.2.2.1, y29.2.2.2.1, y29.2.2.2.2.1, y29.2.2.2.2.2.1, y29.2.2.2.2.2.2.1, y29.2.2.2.2.2.2.2.1, y29.2.2.2.2.2.2.2.2.1, y29.2.2.2.2.2.2.2.2.2.1)))) fun y27 =>
 .ret (⟨y27.1, y27.2.1, (⟨y27.2.2.1, y27.2.2.2.1, y27.2.2.2.2.1⟩ : az4), (⟨y27.2.2.2.2.2.1, y27.2.2.2.2.2.2.1, y27.2.2.2.2.2.2.2⟩ : azy)⟩ : czb)))
noncomputable def jz7 (a0 : az8) (a1 : (List Int)) (a2 : (List Int)) (a3 : Int) : CallS czb :=
  mkC [⟨48, Qzm⟩] hd Tryz.func13 (by kernel_rfl) (rz9 a0 a1 a2 a3) 0 [.pure (bzm a0), .pure (encL 1 az3 a1), .pure (encL 1 az3 a2), pz a3] [] (fun r => .pure (Bzo r)) (fun _ => []) (by kernel_rfl)
noncomputable def nzv (a0 : azp) : T (Int × Int) :=
 .call (dzn a0.scene) [] fun y4 =>
 .br (y4 != 0)
 (.ret (0, 904))
 (.ret (0, 0))
noncomputable def uza (a0 : azp) : CallS (Int × Int) :=
  mkC [] hd Tryz.func60 (by kernel_rfl) (nzv a0) 0 [.pure (dzw a0)] [] (fun r => .tup [pz r.1, pz r.2]) (fun _ => []) (by kernel_rfl)
noncomputable def lzp (a0 : azp) : T (Int × Int) :=
 .cut 2 (fun (y12 : Bool) => ⟨[(19, .pure (.bool y12))], [], [], 0⟩)
 (.call (ez0 a0.scene.Robot a0.p) [] fun y13 =>
 .br (!y13)
 (.ret (.out true))
 (.call (ez0 a0.scene.Robot a0.q) [] fun y14 =>
 .ret (.out (!y14)))) fun y12 =>
 .br y12
 (.ret (0, 1201))
 (.ret (0, 0))
noncomputable def szj (a0 : azp) : CallS (Int × Int) :=
  mkC [] hd Tryz.func61 (by kernel_rfl) (lzp a0) 0 [.pure (dzw a0)] [] (fun r => .tup [pz r.1, pz r.2]) (fun _ => []) (by kernel_rfl)
noncomputable def lzq (a0 : azp) : T (Int × Int) :=
 .loop (fun (x189 : (Int × Int)) => ⟨[(1, .ptr 0 0), (4, pz x189.1), (9, .pure (encL 3 azh a0.pieces)), (10, pz ((a0.pieces.length : Nat) : Int)), (11, pz x189.2)], [(0, .box [.pure (encL 12 az9 a0.scene.Robot.Joints), .pure (encL 5 azg a0.scene.Robot.Masses), .pure (encL 3 aze a0.scene.Shapes), .pure (encL 2 azn a0.scene.Skips), .pure (encL 1 az3 a0.p), .pure (encL 1 az3 a0.q), .pure (encL 3 azh a0.pieces)])], [], 1⟩)
 (.exit 0) (fun (y208 : Int) => ⟨[(1, .ptr 0 0), (4, pz y208)], [(0, .box [.pure (encL 12 az9 a0.scene.Robot.Joints), .pure (encL 5 azg a0.scene.Robot.Masses), .pure (encL 3 aze a0.scene.Shapes), .pure (encL 2 azn a0.scene.Skips), .pure (encL 1 az3 a0.p), .pure (encL 1 az3 a0.q), .pure (encL 3 azh a0.pieces)])], [], 1⟩)
 (fun x189 => .br (decide (x189.2 < ((a0.pieces.length : Nat) : Int)))
 (.grd (0 ≤ x189.2 ∧ x189.2 < ((a0.pieces.length : Nat) : Int)) <|
 .cut 1 (fun (y219 : Bool) => ⟨[(1, .ptr 0 0), (4, pz x189.1), (5, pz x189.2), (6, .ptr 1 0), (9, .pure (encL 3 azh a0.pieces)), (10, pz ((a0.pieces.length : Nat) : Int)), (11, pz x189.2), (27, .pure (.bool y219))], [(0, .box [.pure (encL 12 az9 a0.scene.Robot.Joints), .pure (encL 5 azg a0.scene.Robot.Masses), .pure (encL 3 aze a0.scene.Shapes), .pure (encL 2 azn a0.scene.Skips), .pure (encL 1 az3 a0.p), .pure (encL 1 az3 a0.q), .pure (encL 3 azh a0.pieces)]), (1, .box [pz ((a0.pieces.getD ((x189.2).toNat) default).Depth), pz ((a0.pieces.getD ((x189.2).toNat) default).Index), .pure (encL 3 az1 ((a0.pieces.getD ((x189.2).toNat) default).Normals))])], [], 2⟩)
 (.br (x189.2 == 4096)
 (.ret (.out true))
 (.br (decide (((a0.pieces.getD ((x189.2).toNat) default).Depth) < 0))
 (.ret (.out true))
 (.ret (.out (decide (((a0.pieces.getD ((x189.2).toNat) default).Depth) > 20)))))) fun y219 =>
 .br y219
 (.ret (.fin (x189.2, 2001)))
 (.cut 1 (fun (y221 : Bool) => ⟨[(1, .ptr 0 0), (4, pz x189.1), (5, pz x189.2), (6, .ptr 1 0), (9, .pure (encL 3 azh a0.pieces)), (10, pz ((a0.pieces.length : Nat) : Int)), (11, pz x189.2), (39, .pure (.bool y221))], [(0, .box [.pure (encL 12 az9 a0.scene.Robot.Joints), .pure (encL 5 azg a0.scene.Robot.Masses), .pure (encL 3 aze a0.scene.Shapes), .pure (encL 2 azn a0.scene.Skips), .pure (encL 1 az3 a0.p), .pure (encL 1 az3 a0.q), .pure (encL 3 azh a0.pieces)]), (1, .box [pz ((a0.pieces.getD ((x189.2).toNat) default).Depth), pz ((a0.pieces.getD ((x189.2).toNat) default).Index), .pure (encL 3 az1 ((a0.pieces.getD ((x189.2).toNat) default).Normals))])], [], 2⟩)
 (.br (decide (((a0.pieces.getD ((x189.2).toNat) default).Index) < 0))
 (.ret (.out true))
 (.grd (0 ≤ ((a0.pieces.getD ((x189.2).toNat) default).Depth)) <|
 .ret (.out (decide (((a0.pieces.getD ((x189.2).toNat) default).Index) ≥ (IntKind.i64.wrap (1 * 2 ^ (min ((a0.pieces.getD ((x189.2).toNat) default).Depth).toNat 64)))))))) fun y221 =>
 .br y221
 (.ret (.fin (x189.2, 2001)))
 (.grd (0 ≤ ((a0.pieces.getD ((x189.2).toNat) default).Depth)) <|
 .name 10003 ((IntKind.i64.wrap (((a0.pieces.getD ((x189.2).toNat) default).Index) * ((1048576 : Int).fdiv (2 ^ (min ((a0.pieces.getD ((x189.2).toNat) default).Depth).toNat 64)))))) fun z225 =>
 .br (z225 != x189.1)
 (.ret (.fin (x189.2, 2001)))
 (.name 12002 ((IntKind.i64.wrap (x189.1 + ((1048576 : Int).fdiv (2 ^ (min ((a0.pieces.getD ((x189.2).toNat) default).Depth).toNat 64)))))) fun z226 =>
 .ret (.next (z226, (IntKind.i64.wrap (x189.2 + 1))))))))
 (.ret (.out x189.1)))
 (0, 0) [] fun y208 =>
 .br (y208 != 1048576)
 (.ret (((a0.pieces.length : Nat) : Int), 2001))
 (.ret (0, 0))
noncomputable def szk (a0 : azp) : CallS (Int × Int) :=
  mkC [] hd Tryz.func58 (by kernel_rfl) (lzq a0) 0 [.pure (dzw a0)] [] (fun r => .tup [pz r.1, pz r.2]) (fun _ => []) (by kernel_rfl)
noncomputable def hzi (a0 : azv) (a1 : azz) : T Bool :=
 .br (((a0.normals.length : Nat) : Int) != ((a1.pairs.length : Nat) : Int))
 (.ret false)
 (.loop (fun (x37 : Int) => ⟨[(3, .ptr 0 0), (16, .pure (encL 3 az1 a0.normals)), (17, pz ((a0.normals.length : Nat) : Int)), (18, pz x37)], [(0, .box [.pure (encL 3 aze a1.shapes), .pure (encL 2 ezp a1.pairs), .pure (encL 1 (encL 6 az2) a1.points)])], [], 1⟩)
 (.exit 0) (fun (_ : U0) => ⟨[], [], [], 0⟩)
 (fun x37 => .br (decide (x37 < ((a0.normals.length : Nat) : Int)))
 (.grd (0 ≤ x37 ∧ x37 < ((a0.normals.length : Nat) : Int)) <|
 .call (gzh a1 x37) [] fun y52 =>
 .call (izc (a0.normals.getD ((x37).toNat) default) y52.a y52.ra y52.b y52.rb) [] fun y54 =>
 .br (!y54)
 (.ret (.fin false))
 (.ret (.next (IntKind.i64.wrap (x37 + 1)))))
 (.ret (.out .u)))
 0 [] fun _ =>
 .ret true)
noncomputable def mzm (a0 : azv) (a1 : azz) : CallS Bool :=
  mkC [] hd Tryz.func379 (by kernel_rfl) (hzi a0 a1) 0 [.pure (ezd a0), .pure (fz5 a1)] [] (fun r => .pure (.bool r)) (fun _ => []) (by kernel_rfl)
noncomputable def jzo (a0 : az8) (a1 : (List az0)) (a2 : azv) : T Bool :=
 .call (fzv a0 a1) [] fun y2 =>
 .br y2.2
 (.call (mzm a2 y2.1) [] fun y3 =>
 .ret y3)
 (.ret false)
noncomputable def qza (a0 : az8) (a1 : (List az0)) (a2 : azv) : CallS Bool :=
  mkC [] hd Tryz.func94 (by kernel_rfl) (jzo a0 a1 a2) 0 [.pure (bzm a0), .pure (encL 2 az6 a1), .iface 146 (.pure (ezd a2))] [] (fun r => .pure (.bool r)) (fun _ => []) (by kernel_rfl)
noncomputable def fze (a0 : az8) (a1 : (List az0)) (a2 : (List (Int × Int × Int))) : T Bool :=
 .call (qza (⟨a0.Robot, a0.Shapes, a0.Skips⟩ : az8) a1 (⟨a2⟩ : azv)) [] fun y1 =>
 .ret y1
noncomputable def dzv (a0 : az8) (a1 : (List az0)) (a2 : (List (Int × Int × Int))) : CallS Bool :=
  mkC [⟨93, Qzu⟩] hd Tryz.func34 (by kernel_rfl) (fze a0 a1 a2) 0 [.pure (bzm a0), .pure (encL 2 az6 a1), .pure (encL 3 az1 a2)] [] (fun r => .pure (.bool r)) (fun _ => []) (by kernel_rfl)
noncomputable def hzd (a0 : azp) : T (Int × Int) :=
 .loop (fun (x53 : Int) => ⟨[(1, .ptr 0 0), (9, .pure (encL 3 azh a0.pieces)), (10, pz ((a0.pieces.length : Nat) : Int)), (11, pz x53)], [(0, .box [.pure (encL 12 az9 a0.scene.Robot.Joints), .pure (encL 5 azg a0.scene.Robot.Masses), .pure (encL 3 aze a0.scene.Shapes), .pure (encL 2 azn a0.scene.Skips), .pure (encL 1 az3 a0.p), .pure (encL 1 az3 a0.q), .pure (encL 3 azh a0.pieces)])], [], 1⟩)
 (.exit 0) (fun (_ : U0) => ⟨[], [], [], 0⟩)
 (fun x53 => .br (decide (x53 < ((a0.pieces.length : Nat) : Int)))
 (.grd (0 ≤ x53 ∧ x53 < ((a0.pieces.length : Nat) : Int)) <|
 .call (izr a0.p a0.q ((a0.pieces.getD ((x53).toNat) default).Depth) ((a0.pieces.getD ((x53).toNat) default).Index)) [] fun y74 =>
 .cut 0 (fun (y77 : Bool) => ⟨[(1, .ptr 0 0), (4, pz x53), (9, .pure (encL 3 azh a0.pieces)), (10, pz ((a0.pieces.length : Nat) : Int)), (11, pz x53), (38, .pure (.bool y77))], [(0, .box [.pure (encL 12 az9 a0.scene.Robot.Joints), .pure (encL 5 azg a0.scene.Robot.Masses), .pure (encL 3 aze a0.scene.Shapes), .pure (encL 2 azn a0.scene.Skips), .pure (encL 1 az3 a0.p), .pure (encL 1 az3 a0.q), .pure (encL 3 azh a0.pieces)])], [], 1⟩)
 (.br (!y74.2)
 (.ret (.out true))
 (.call (dzv a0.scene y74.1 ((a0.pieces.getD ((x53).toNat) default).Normals)) [] fun y78 =>
 .ret (.out (!y78)))) fun y77 =>
 .br y77
 (.ret (.fin (x53, 2002)))
 (.ret (.next (IntKind.i64.wrap (x53 + 1)))))
 (.ret (.out .u)))
 0 [] fun _ =>
 .ret (0, 0)
noncomputable def mzi (a0 : azp) : CallS (Int × Int) :=
  mkC [] hd Tryz.func62 (by kernel_rfl) (hzd a0) 0 [.pure (dzw a0)] [] (fun r => .tup [pz r.1, pz r.2]) (fun _ => []) (by kernel_rfl)
noncomputable def iz3 (a0 : az8) (a1 : (List Int)) (a2 : (List Int)) (a3 : (List az4)) : T (Int × Int) :=
 .unroll 5 <|
 .known true <|
 .grd (0 ≤ (0 : Int) ∧ (0 : Int) < ((4 : Nat) : Int)) <|
 .call (uza (⟨(⟨a0.Robot, a0.Shapes, a0.Skips⟩ : az8), a1, a2, a3⟩ : azp)) [] fun y32 =>
 .br (y32.2 != 0)
 (.ret (y32.1, y32.2))
 (.lit 9000 (1) <|
 .known true <|
 .grd (0 ≤ (1 : Int) ∧ (1 : Int) < ((4 : Nat) : Int)) <|
 .call (szj (⟨(⟨a0.Robot, a0.Shapes, a0.Skips⟩ : az8), a1, a2, a3⟩ : azp)) [] fun y36 =>
 .br (y36.2 != 0)
 (.ret (y36.1, y36.2))
 (.lit 9000 (2) <|
 .known true <|
 .grd (0 ≤ (2 : Int) ∧ (2 : Int) < ((4 : Nat) : Int)) <|
 .call (szk (⟨(⟨a0.Robot, a0.Shapes, a0.Skips⟩ : az8), a1, a2, a3⟩ : azp)) [] fun y40 =>
 .br (y40.2 != 0)
 (.ret (y40.1, y40.2))
 (.lit 9000 (3) <|
 .known true <|
 .grd (0 ≤ (3 : Int) ∧ (3 : Int) < ((4 : Nat) : Int)) <|
 .call (mzi (⟨(⟨a0.Robot, a0.Shapes, a0.Skips⟩ : az8), a1, a2, a3⟩ : azp)) [] fun y44 =>
 .br (y44.2 != 0)
 (.ret (y44.1, y44.2))
 (.lit 9000 (4) <|
 .known false <|
 .ret (0, 0)))))
noncomputable def iz2 (a0 : az8) (a1 : (List Int)) (a2 : (List Int)) (a3 : (List az4)) : CallS (Int × Int) :=
  mkC [⟨59, Qzn⟩] hd Tryz.func19 (by kernel_rfl) (iz3 a0 a1 a2 a3) 0 [.pure (bzm a0), .pure (encL 1 az3 a1), .pure (encL 1 az3 a2), .pure (encL 3 azh a3)] [] (fun r => .tup [pz r.1, pz r.2]) (fun _ => []) (by kernel_rfl)
noncomputable def hzw (a0 : bz1) (a1 : azz) : T Bool :=
 .cut 3 (fun (y2 : Bool) => ⟨[(3, .ptr 0 0), (5, .ptr 1 0), (19, .pure (.bool y2))], [(0, .box [.pure (encL 3 aze a1.shapes), .pure (encL 2 ezp a1.pairs), .pure (encL 1 (encL 6 az2) a1.points)]), (1, .box [pz a0.witness.Pair, .pure (encL 1 az3 a0.witness.Left), .pure (encL 1 az3 a0.witness.Right)])], [], 2⟩)
 (.br (decide (a0.witness.Pair < 0))
 (.ret (.out true))
 (.ret (.out (decide (a0.witness.Pair ≥ ((a1.pairs.length : Nat) : Int)))))) fun y2 =>
 .br y2
 (.ret false)
 (.call (gzh a1 a0.witness.Pair) [] fun y4 =>
 .call (ezs a0.witness.Left a0.witness.Right y4.a y4.ra y4.b y4.rb) [] fun y5 =>
 .ret y5)
noncomputable def oz7 (a0 : bz1) (a1 : azz) : CallS Bool :=
  mkC [] hd Tryz.func378 (by kernel_rfl) (hzw a0 a1) 0 [.pure (ezm a0), .pure (fz5 a1)] [] (fun r => .pure (.bool r)) (fun _ => []) (by kernel_rfl)
noncomputable def gzj (a0 : az8) (a1 : (List az0)) (a2 : bz1) : T Bool :=
 .call (fzv a0 a1) [] fun y2 =>
 .br y2.2
 (.call (oz7 a2 y2.1) [] fun y3 =>
 .ret y3)
 (.ret false)
noncomputable def mz3 (a0 : az8) (a1 : (List az0)) (a2 : bz1) : CallS Bool :=
  mkC [] hd Tryz.func94 (by kernel_rfl) (gzj a0 a1 a2) 0 [.pure (bzm a0), .pure (encL 2 az6 a1), .iface 144 (.pure (ezm a2))] [] (fun r => .pure (.bool r)) (fun _ => []) (by kernel_rfl)
noncomputable def dzr (a0 : az8) (a1 : (List az0)) (a2 : azy) : T Bool :=
 .call (mz3 (⟨a0.Robot, a0.Shapes, a0.Skips⟩ : az8) a1 (⟨(⟨a2.Pair, a2.Left, a2.Right⟩ : azy)⟩ : bz1)) [] fun y1 =>
 .ret y1
noncomputable def fzn (a0 : az8) (a1 : (List az0)) (a2 : azy) : CallS Bool :=
  mkC [⟨96, Qzv⟩] hd Tryz.func36 (by kernel_rfl) (dzr a0 a1 a2) 0 [.pure (bzm a0), .pure (encL 2 az6 a1), .pure (zzw a2)] [] (fun r => .pure (.bool r)) (fun _ => []) (by kernel_rfl)
set_option maxHeartbeats 8000000 in
set_option maxRecDepth 20000 in
noncomputable def mzy (a0 : (List az4)) : T bze :=
 .loop (fun (x851 : ((List (Int × Int × Int)) × (List ozs) × (List ((Int × Int × Int) × Int)) × Int)) => ⟨[(2, .ptr 0 0), (3, .map 3), (13, .pure (encL 3 azh a0)), (14, pz ((a0.length : Nat) : Int)), (15, pz x851.2.2.2)], [(0, .box [.vec 1, .vec 2]), (1, vecO 3 az1 x851.1 102), (2, vecO 3 fzg x851.2.1 154), (3, vzt [.int .i64 0, .int .i64 0, .int .i64 0] azr x851.2.2.1)], [.func 124 [] [.ptr 0 0]], 4⟩)
 (.exit 0) (fun (y936 : ((List (Int × Int × Int)) × (List ozs))) => ⟨[(2, .ptr 0 0)], [(0, .box [.vec 1, .vec 2]), (1, vecO 3 az1 y936.1 102), (2, vecO 3 fzg y936.2 154)], [.func 124 [] [.ptr 0 0]], 3⟩)
 (fun x851 => .br (decide (x851.2.2.2 < ((a0.length : Nat) : Int)))
 (.grd (0 ≤ x851.2.2.2 ∧ x851.2.2.2 < ((a0.length : Nat) : Int)) <|
 .loop (fun (x1007 : ((List (Int × Int × Int)) × (List ((Int × Int × Int) × Int)) × (List Int) × Int)) => ⟨[(2, .ptr 0 0), (3, .map 3), (6, .ptr 4 0), (13, .pure (encL 3 azh a0)), (14, pz ((a0.length : Nat) : Int)), (15, pz x851.2.2.2), (25, .pure (encL 3 az1 ((a0.getD ((x851.2.2.2).toNat) default).Normals))), (26, pz (((a0.getD ((x851.2.2.2).toNat) default).Normals.length : Nat) : Int)), (27, pz x1007.2.2.2)], [(0, .box [.vec 1, .vec 2]), (1, vecO 3 az1 x1007.1 102), (2, vecO 3 fzg x851.2.1 154), (3, vzt [.int .i64 0, .int .i64 0, .int .i64 0] azr x1007.2.1), (4, .box [pz ((a0.getD ((x851.2.2.2).toNat) default).Depth), pz ((a0.getD ((x851.2.2.2).toNat) default).Index), .vec 5]), (5, vecO 1 az3 x1007.2.2.1 3)], [.func 124 [] [.ptr 0 0]], 6⟩)
 (.exit 2) (fun (y1014 : ((List (Int × Int × Int)) × (List ((Int × Int × Int) × Int)) × (List Int))) => ⟨[(2, .ptr 0 0), (3, .map 3), (6, .ptr 4 0), (13, .pure (encL 3 azh a0)), (14, pz ((a0.length : Nat) : Int)), (15, pz x851.2.2.2)], [(0, .box [.vec 1, .vec 2]), (1, vecO 3 az1 y1014.1 102), (2, vecO 3 fzg x851.2.1 154), (3, vzt [.int .i64 0, .int .i64 0, .int .i64 0] azr y1014.2.1), (4, .box [pz ((a0.getD ((x851.2.2.2).toNat) default).Depth), pz ((a0.getD ((x851.2.2.2).toNat) default).Index), .vec 5]), (5, vecO 1 az3 y1014.2.2 3)], [.func 124 [] [.ptr 0 0]], 6⟩)
 (fun x1007 => .br (decide (x1007.2.2.2 < (((a0.getD ((x851.2.2.2).toNat) default).Normals.length : Nat) : Int)))
 (.grd (0 ≤ x1007.2.2.2 ∧ x1007.2.2.2 < (((a0.getD ((x851.2.2.2).toNat) default).Normals.length : Nat) : Int)) <|
 .ok ((mdom azr x1007.2.1 (azr (((a0.getD ((x851.2.2.2).toNat) default).Normals).getD ((x1007.2.2.2).toNat) default))) = false → PVal.int .i64 (mget azr x1007.2.1 (azr (((a0.getD ((x851.2.2.2).toNat) default).Normals).getD ((x1007.2.2.2).toNat) default))) = .int .i64 0) Szk <|
 .name 10004 ((mget azr x1007.2.1 (azr (((a0.getD ((x851.2.2.2).toNat) default).Normals).getD ((x1007.2.2.2).toNat) default)))) fun z1019 =>
 .cut 0 (fun (y1020 : ((List (Int × Int × Int)) × (List ((Int × Int × Int) × Int)) × Int)) => ⟨[(2, .ptr 0 0), (3, .map 3), (6, .ptr 4 0), (9, pz y1020.2.2), (13, .pure (encL 3 azh a0)), (14, pz ((a0.length : Nat) : Int)), (15, pz x851.2.2.2), (25, .pure (encL 3 az1 ((a0.getD ((x851.2.2.2).toNat) default).Normals))), (26, pz (((a0.getD ((x851.2.2.2).toNat) default).Normals.length : Nat) : Int)), (27, pz x1007.2.2.2)], [(0, .box [.vec 1, .vec 2]), (1, vecO 3 az1 y1020.1 102), (2, vecO 3 fzg x851.2.1 154), (3, vzt [.int .i64 0, .int .i64 0, .int .i64 0] azr y1020.2.1), (4, .box [pz ((a0.getD ((x851.2.2.2).toNat) default).Depth), pz ((a0.getD ((x851.2.2.2).toNat) default).Index), .vec 5]), (5, vecO 1 az3 x1007.2.2.1 3)], [.func 124 [] [.ptr 0 0]], 6⟩)
 (.br (!(mdom azr x1007.2.1 (azr (((a0.getD ((x851.2.2.2).toNat) default).Normals).getD ((x1007.2.2.2).toNat) default))))
 (.conv 13003 (Tze [.int .i64 0, .int .i64 0, .int .i64 0] azr x1007.2.1 (((a0.getD ((x851.2.2.2).toNat) default).Normals).getD ((x1007.2.2.2).toNat) default) ((x1007.1.length : Nat) : Int)) <|
 .conv 14003 (czw 3 az1 ([(((a0.getD ((x851.2.2.2).toNat) default).Normals).getD ((x1007.2.2.2).toNat) default)] : (List (Int × Int × Int))) 102) <|
 .conv 14004 (hzn 3 az1 x1007.1 ([(((a0.getD ((x851.2.2.2).toNat) default).Normals).getD ((x1007.2.2.2).toNat) default)] : (List (Int × Int × Int))) 102) <|
 .grd ((x1007.1.length + ([(((a0.getD ((x851.2.2.2).toNat) default).Normals).getD ((x1007.2.2.2).toNat) default)] : (List (Int × Int × Int))).length) * 24 ≤ 140737488355328 ∧ (x1007.1.length + ([(((a0.getD ((x851.2.2.2).toNat) default).Normals).getD ((x1007.2.2.2).toNat) default)] : (List (Int × Int × Int))).length) ≤ maxLen) <|
 .ret (.out ((x1007.1 ++ ([(((a0.getD ((x851.2.2.2).toNat) default).Normals).getD ((x1007.2.2.2).toNat) default)] : (List (Int × Int × Int)))), (((((a0.getD ((x851.2.2.2).toNat) default).Normals).getD ((x1007.2.2.2).toNat) default), ((x1007.1.length : Nat) : Int)) :: x1007.2.1), ((x1007.1.length : Nat) : Int))))
 (.ret (.out (x1007.1, x1007.2.1, z1019)))) fun y1020 =>
 .conv 15003 (czw 1 az3 ([y1020.2.2] : (List Int)) 3) <|
 .conv 15004 (hzn 1 az3 x1007.2.2.1 ([y1020.2.2] : (List Int)) 3) <|
 .grd ((x1007.2.2.1.length + ([y1020.2.2] : (List Int)).length) * 8 ≤ 140737488355328 ∧ (x1007.2.2.1.length + ([y1020.2.2] : (List Int)).length) ≤ maxLen) <|
 .ret (.next (y1020.1, y1020.2.1, (x1007.2.2.1 ++ ([y1020.2.2] : (List Int))), (IntKind.i64.wrap (x1007.2.2.2 + 1)))))
 (.ret (.out (x1007.1, x1007.2.1, x1007.2.2.1))))
 (x851.1, x851.2.2.1, nl, 0) [] fun y1014 =>
 .conv 17003 (czw 3 fzg ([(⟨(a0.getD ((x851.2.2.2).toNat) default).Depth, (a0.getD ((x851.2.2.2).toNat) default).Index, y1014.2.2⟩ : ozs)] : (List ozs)) 154) <|
 .conv 17004 (hzn 3 fzg x851.2.1 ([(⟨(a0.getD ((x851.2.2.2).toNat) default).Depth, (a0.getD ((x851.2.2.2).toNat) default).Index, y1014.2.2⟩ : ozs)] : (List ozs)) 154) <|
 .grd ((x851.2.1.length + ([(⟨(a0.getD ((x851.2.2.2).toNat) default).Depth, (a0.getD ((x851.2.2.2).toNat) default).Index, y1014.2.2⟩ : ozs)] : (List ozs)).length) * 40 ≤ 140737488355328 ∧ (x851.2.1.length + ([(⟨(a0.getD ((x851.2.2.2).toNat) default).Depth, (a0.getD ((x851.2.2.2).toNat) default).Index, y1014.2.2⟩ : ozs)] : (List ozs)).length) ≤ maxLen) <|
 .ret (.next (y1014.1, (x851.2.1 ++ ([(⟨(a0.getD ((x851.2.2.2).toNat) default).Depth, (a0.getD ((x851.2.2.2).toNat) default).Index, y1014.2.2⟩ : ozs)] : (List ozs))), y1014.2.1, (IntKind.i64.wrap (x851.2.2.2 + 1)))))
 (.ret (.out (x851.1, x851.2.1))))
 (nl, nl, (nl : List ((Int × Int × Int) × Int)), 0) [] fun y936 =>
 .ret (⟨y936.1, y936.2⟩ : bze)
noncomputable def tzq (a0 : (List az4)) : CallS bze :=
  mkC [⟨124, Ozc⟩] hd Tryz.func63 (by kernel_rfl) (mzy a0) 0 [.pure (encL 3 azh a0)] [] (fun r => .pure (dz7 r)) (fun _ => []) (by kernel_rfl)
set_option maxHeartbeats 8000000 in
set_option maxRecDepth 20000 in
noncomputable def jzr (a0 : bze) : T ((List az4) × Bool) :=
 .loop (fun (x245 : ((List az4) × Int)) => ⟨[(1, .ptr 0 0), (2, .ptr 1 0), (3, .ptr 3 0), (11, .pure (encL 3 fzg a0.Uses)), (12, pz ((a0.Uses.length : Nat) : Int)), (13, pz x245.2)], [(0, .box [.pure (encL 3 az1 a0.Table), .pure (encL 3 fzg a0.Uses)]), (1, .box [.vec 2]), (2, vecO 3 azh x245.1 37), (3, .box [.ff])], [.func 92 [] [.ptr 1 0, .ptr 3 0]], 4⟩)
 (.exit 0) (fun (y306 : (List az4)) => ⟨[(2, .ptr 0 0), (3, .ptr 2 0)], [(0, .box [.vec 1]), (1, vecO 3 azh y306 37), (2, .box [.ff])], [.func 92 [] [.ptr 0 0, .ptr 2 0]], 3⟩)
 (fun x245 => .br (decide (x245.2 < ((a0.Uses.length : Nat) : Int)))
 (.grd (0 ≤ x245.2 ∧ x245.2 < ((a0.Uses.length : Nat) : Int)) <|
 .loop (fun (x357 : ((List (Int × Int × Int)) × Int)) => ⟨[(1, .ptr 0 0), (2, .ptr 1 0), (3, .ptr 3 0), (6, .ptr 4 0), (11, .pure (encL 3 fzg a0.Uses)), (12, pz ((a0.Uses.length : Nat) : Int)), (13, pz x245.2), (23, .pure (encL 1 az3 ((a0.Uses.getD ((x245.2).toNat) default).Numbers))), (24, pz (((a0.Uses.getD ((x245.2).toNat) default).Numbers.length : Nat) : Int)), (25, pz x357.2)], [(0, .box [.pure (encL 3 az1 a0.Table), .pure (encL 3 fzg a0.Uses)]), (1, .box [.vec 2]), (2, vecO 3 azh x245.1 37), (3, .box [.ff]), (4, .box [pz ((a0.Uses.getD ((x245.2).toNat) default).Depth), pz ((a0.Uses.getD ((x245.2).toNat) default).Index), .vec 5]), (5, vecO 3 az1 x357.1 102)], [.func 92 [] [.ptr 1 0, .ptr 3 0]], 6⟩)
 (.exit 2) (fun (y362 : (List (Int × Int × Int))) => ⟨[(1, .ptr 0 0), (2, .ptr 1 0), (3, .ptr 3 0), (6, .ptr 4 0), (11, .pure (encL 3 fzg a0.Uses)), (12, pz ((a0.Uses.length : Nat) : Int)), (13, pz x245.2)], [(0, .box [.pure (encL 3 az1 a0.Table), .pure (encL 3 fzg a0.Uses)]), (1, .box [.vec 2]), (2, vecO 3 azh x245.1 37), (3, .box [.ff]), (4, .box [pz ((a0.Uses.getD ((x245.2).toNat) default).Depth), pz ((a0.Uses.getD ((x245.2).toNat) default).Index), .vec 5]), (5, vecO 3 az1 y362 102)], [.func 92 [] [.ptr 1 0, .ptr 3 0]], 6⟩)
 (fun x357 => .br (decide (x357.2 < (((a0.Uses.getD ((x245.2).toNat) default).Numbers.length : Nat) : Int)))
 (.grd (0 ≤ x357.2 ∧ x357.2 < (((a0.Uses.getD ((x245.2).toNat) default).Numbers.length : Nat) : Int)) <|
 .cut 1 (fun (y366 : Bool) => ⟨[(1, .ptr 0 0), (2, .ptr 1 0), (3, .ptr 3 0), (6, .ptr 4 0), (8, pz (((a0.Uses.getD ((x245.2).toNat) default).Numbers).getD ((x357.2).toNat) default)), (11, .pure (encL 3 fzg a0.Uses)), (12, pz ((a0.Uses.length : Nat) : Int)), (13, pz x245.2), (23, .pure (encL 1 az3 ((a0.Uses.getD ((x245.2).toNat) default).Numbers))), (24, pz (((a0.Uses.getD ((x245.2).toNat) default).Numbers.length : Nat) : Int)), (25, pz x357.2), (37, .pure (.bool y366))], [(0, .box [.pure (encL 3 az1 a0.Table), .pure (encL 3 fzg a0.Uses)]), (1, .box [.vec 2]), (2, vecO 3 azh x245.1 37), (3, .box [.ff]), (4, .box [pz ((a0.Uses.getD ((x245.2).toNat) default).Depth), pz ((a0.Uses.getD ((x245.2).toNat) default).Index), .vec 5]), (5, vecO 3 az1 x357.1 102)], [.func 92 [] [.ptr 1 0, .ptr 3 0]], 6⟩)
 (.br (decide ((((a0.Uses.getD ((x245.2).toNat) default).Numbers).getD ((x357.2).toNat) default) < 0))
 (.ret (.out true))
 (.ret (.out (decide ((((a0.Uses.getD ((x245.2).toNat) default).Numbers).getD ((x357.2).toNat) default) ≥ ((a0.Table.length : Nat) : Int)))))) fun y366 =>
 .br y366
 (.ret (.fin (.fin (nl, false))))
 (.grd (0 ≤ (((a0.Uses.getD ((x245.2).toNat) default).Numbers).getD ((x357.2).toNat) default) ∧ (((a0.Uses.getD ((x245.2).toNat) default).Numbers).getD ((x357.2).toNat) default) < ((a0.Table.length : Nat) : Int)) <|
 .conv 11007 (czw 3 az1 ([(a0.Table.getD (((((a0.Uses.getD ((x245.2).toNat) default).Numbers).getD ((x357.2).toNat) default)).toNat) default)] : (List (Int × Int × Int))) 102) <|
 .conv 11008 (hzn 3 az1 x357.1 ([(a0.Table.getD (((((a0.Uses.getD ((x245.2).toNat) default).Numbers).getD ((x357.2).toNat) default)).toNat) default)] : (List (Int × Int × Int))) 102) <|
 .grd ((x357.1.length + ([(a0.Table.getD (((((a0.Uses.getD ((x245.2).toNat) default).Numbers).getD ((x357.2).toNat) default)).toNat) default)] : (List (Int × Int × Int))).length) * 24 ≤ 140737488355328 ∧ (x357.1.length + ([(a0.Table.getD (((((a0.Uses.getD ((x245.2).toNat) default).Numbers).getD ((x357.2).toNat) default)).toNat) default)] : (List (Int × Int × Int))).length) ≤ maxLen) <|
 .ret (.next ((x357.1 ++ ([(a0.Table.getD (((((a0.Uses.getD ((x245.2).toNat) default).Numbers).getD ((x357.2).toNat) default)).toNat) default)] : (List (Int × Int × Int)))), (IntKind.i64.wrap (x357.2 + 1))))))
 (.ret (.out x357.1)))
 (nl, 0) [] fun y362 =>
 .conv 13002 (czw 3 azh ([(⟨(a0.Uses.getD ((x245.2).toNat) default).Depth, (a0.Uses.getD ((x245.2).toNat) default).Index, y362⟩ : az4)] : (List az4)) 37) <|
 .conv 13003 (hzn 3 azh x245.1 ([(⟨(a0.Uses.getD ((x245.2).toNat) default).Depth, (a0.Uses.getD ((x245.2).toNat) default).Index, y362⟩ : az4)] : (List az4)) 37) <|
 .grd ((x245.1.length + ([(⟨(a0.Uses.getD ((x245.2).toNat) default).Depth, (a0.Uses.getD ((x245.2).toNat) default).Index, y362⟩ : az4)] : (List az4)).length) * 40 ≤ 140737488355328 ∧ (x245.1.length + ([(⟨(a0.Uses.getD ((x245.2).toNat) default).Depth, (a0.Uses.getD ((x245.2).toNat) default).Index, y362⟩ : az4)] : (List az4)).length) ≤ maxLen) <|
 .ret (.next ((x245.1 ++ ([(⟨(a0.Uses.getD ((x245.2).toNat) default).Depth, (a0.Uses.getD ((x245.2).toNat) default).Index, y362⟩ : az4)] : (List az4))), (IntKind.i64.wrap (x245.2 + 1)))))
 (.ret (.out x245.1)))
 (nl, 0) [] fun y306 =>
 .ret (y306, true)
noncomputable def ezg (a0 : bze) : CallS ((List az4) × Bool) :=
  mkC [⟨92, Qzt⟩] hd Tryz.func33 (by kernel_rfl) (jzr a0) 0 [.pure (dz7 a0)] [] (fun r => .tup [.pure (encL 3 azh r.1), .pure (.bool r.2)]) (fun _ => []) (by kernel_rfl)
noncomputable def cz3 (a0 : (List az4)) : T (List az4) :=
  (match a0 with
   | [] => .unroll 1 <|
   .grd (a0.length = 0) <|
   .both
    (.ret nl)
    (.conv 3000 (czw 3 azh ([] : (List az4)) 37) <|
    .conv 3002 (hzn 3 azh ([] : (List az4)) a0 37) <|
    .grd ((([] : (List az4)).length + a0.length) * 40 ≤ 140737488355328 ∧ (([] : (List az4)).length + a0.length) ≤ maxLen) <|
    .ret (([] : (List az4)) ++ a0))
   | _ :: _ => .grd (0 < a0.length) <|
   .conv 3000 (czw 3 azh ([] : (List az4)) 37) <|
   .conv 3002 (hzn 3 azh ([] : (List az4)) a0 37) <|
   .grd ((([] : (List az4)).length + a0.length) * 40 ≤ 140737488355328 ∧ (([] : (List az4)).length + a0.length) ≤ maxLen) <|
   .ret (([] : (List az4)) ++ a0))
noncomputable def dze (a0 : (List az4)) : CallS (List az4) :=
  mkH [] hd Tryz.func127 (by kernel_rfl) (cz3 a0) 0 [.pure (encL 3 azh a0)] [] (fun _ => .vec 0) (fun r => [(0, vecO 3 azh r 37)]) (by cases a0 <;> exact Ob.of_side (by kernel_rfl))
noncomputable def czp (a0 : (List (Int × Int × Int))) : T (List (Int × Int × Int)) :=
  (match a0 with
   | [] => .unroll 1 <|
   .grd (a0.length = 0) <|
   .both
    (.ret nl)
    (.conv 3000 (czw 3 az1 ([] : (List (Int × Int × Int))) 102) <|
    .conv 3002 (hzn 3 az1 ([] : (List (Int × Int × Int))) a0 102) <|
    .grd ((([] : (List (Int × Int × Int))).length + a0.length) * 24 ≤ 140737488355328 ∧ (([] : (List (Int × Int × Int))).length + a0.length) ≤ maxLen) <|
    .ret (([] : (List (Int × Int × Int))) ++ a0))
   | _ :: _ => .grd (0 < a0.length) <|
   .conv 3000 (czw 3 az1 ([] : (List (Int × Int × Int))) 102) <|
   .conv 3002 (hzn 3 az1 ([] : (List (Int × Int × Int))) a0 102) <|
   .grd ((([] : (List (Int × Int × Int))).length + a0.length) * 24 ≤ 140737488355328 ∧ (([] : (List (Int × Int × Int))).length + a0.length) ≤ maxLen) <|
   .ret (([] : (List (Int × Int × Int))) ++ a0))
noncomputable def eza (a0 : (List (Int × Int × Int))) : CallS (List (Int × Int × Int)) :=
  mkH [] hd Tryz.func128 (by kernel_rfl) (czp a0) 0 [.pure (encL 3 az1 a0)] [] (fun r => .pure (encL 3 az1 r)) (fun _ => []) (by cases a0 <;> exact Ob.of_side (by kernel_rfl))
noncomputable def lz5 (a0 : (List az4)) : T (List az4) :=
 .call (dze a0) [] fun y2 =>
 .loop (fun (x15 : ((List az4) × Int)) => ⟨[(0, .vec 0), (7, pz ((y2.length : Nat) : Int)), (8, pz x15.2)], [(0, vecO 3 azh x15.1 37)], [], 1⟩)
 (.exit 0) (fun (y18 : (List az4)) => ⟨[(0, .vec 0)], [(0, vecO 3 azh y18 37)], [], 1⟩)
 (fun x15 => .br (decide (x15.2 < ((y2.length : Nat) : Int)))
 (.grd (0 ≤ x15.2 ∧ x15.2 < ((x15.1.length : Nat) : Int)) <|
 .grd ((x15.2).toNat < x15.1.length) <|
 .call (eza ((x15.1.getD ((x15.2).toNat) default).Normals)) [] fun y20 =>
 .grd (0 ≤ x15.2 ∧ x15.2 < ((x15.1.length : Nat) : Int)) <|
 .conv 5010 (qzv 3 azh x15.1 37 ((x15.2).toNat) (⟨(x15.1.getD ((x15.2).toNat) default).Depth, (x15.1.getD ((x15.2).toNat) default).Index, y20⟩ : az4)) <|
 .grd ((x15.2).toNat < x15.1.length ∧ 0 ≤ (x15.2).toNat) <|
 .ret (.next ((x15.1.set ((x15.2).toNat) (⟨(x15.1.getD ((x15.2).toNat) default).Depth, (x15.1.getD ((x15.2).toNat) default).Index, y20⟩ : az4)), (IntKind.i64.wrap (x15.2 + 1)))))
 (.ret (.out x15.1)))
 (y2, 0) [] fun y18 =>
 .ret y18
noncomputable def gzk (a0 : (List az4)) : CallS (List az4) :=
  mkC [] hd Tryz.func67 (by kernel_rfl) (lz5 a0) 0 [.pure (encL 3 azh a0)] [] (fun r => .pure (encL 3 azh r)) (fun _ => []) (by kernel_rfl)
noncomputable def nz0 (a0 : az8) (a1 : (List Int)) (a2 : (List Int)) (a3 : az4) (a4 : az4) : T (az4 × Bool) :=
 .cut 2 (fun (y2 : Bool) => ⟨[(1, .pure (encL 1 az3 a1)), (2, .pure (encL 1 az3 a2)), (5, .ptr 0 0), (8, .ptr 1 0), (9, .ptr 2 0), (10, .ptr 3 0), (40, .pure (.bool y2))], [(0, .box [.pure (encL 12 az9 a0.Robot.Joints), .pure (encL 5 azg a0.Robot.Masses), .pure (encL 3 aze a0.Shapes), .pure (encL 2 azn a0.Skips)]), (1, .box [pz a3.Depth, pz a3.Index, .pure (encL 3 az1 a3.Normals)]), (2, .box [pz a4.Depth, pz a4.Index, .pure (encL 3 az1 a4.Normals)]), (3, .box [pz 0, pz 0, .vec 4]), (4, .nilv)], [], 5⟩)
 (.br (a3.Depth != a4.Depth)
 (.ret (.out true))
 (.br (decide (a3.Depth ≤ 0))
 (.ret (.out true))
 (.ok ((2 : Int) ≠ 0) (by decide) <|
 .br ((a3.Index.tmod 2) != 0)
 (.ret (.out true))
 (.ret (.out (a4.Index != (IntKind.i64.wrap (a3.Index + 1)))))))) fun y2 =>
 .br y2
 (.ret ((⟨0, 0, nl⟩ : az4), false))
 (.ok ((2 : Int) ≠ 0) (by decide) <|
 .call (izr a1 a2 (IntKind.i64.wrap (a3.Depth - 1)) (IntKind.i64.wrap (a3.Index.tdiv 2))) [] fun y4 =>
 .br (!y4.2)
 (.ret ((⟨0, 0, nl⟩ : az4), false))
 (.conv 7002 (czw 3 azh ([a3, a4] : (List az4)) 37) <|
 .loop (fun (x25 : Int) => ⟨[(5, .ptr 0 0), (10, .ptr 1 0), (12, .ptr 3 0), (13, .pure (encL 2 az6 y4.1)), (64, .vec 5), (65, pz ((([a3, a4] : (List az4)).length : Nat) : Int)), (66, pz x25)], [(0, .box [.pure (encL 12 az9 a0.Robot.Joints), .pure (encL 5 azg a0.Robot.Masses), .pure (encL 3 aze a0.Shapes), .pure (encL 2 azn a0.Skips)]), (1, .box [pz 0, pz 0, .vec 2]), (2, .nilv), (3, .box [pz (IntKind.i64.wrap (a3.Depth - 1)), pz (IntKind.i64.wrap (a3.Index.tdiv 2)), .vec 4]), (4, .nilv), (5, vecO 3 azh ([a3, a4] : (List az4)) 37)], [], 6⟩)
 (.exit 0) (fun (_ : U0) => ⟨[(10, .ptr 0 0)], [(0, .box [pz 0, pz 0, .vec 1]), (1, .nilv)], [], 2⟩)
 (fun x25 => .br (decide (x25 < ((([a3, a4] : (List az4)).length : Nat) : Int)))
 (.grd (0 ≤ x25 ∧ x25 < ((([a3, a4] : (List az4)).length : Nat) : Int)) <|
 .grd ((x25).toNat < ([a3, a4] : (List az4)).length) <|
 .call (dzv a0 y4.1 ((([a3, a4] : (List az4)).getD ((x25).toNat) default).Normals)) [] fun y34 =>
 .br y34
 (.ret (.fin ((⟨(IntKind.i64.wrap (a3.Depth - 1)), (IntKind.i64.wrap (a3.Index.tdiv 2)), (([a3, a4] : (List az4)).getD ((x25).toNat) default).Normals⟩ : az4), true)))
 (.ret (.next (IntKind.i64.wrap (x25 + 1)))))
 (.ret (.out .u)))
 0 [] fun _ =>
 .ret ((⟨0, 0, nl⟩ : az4), false)))
noncomputable def mzz (a0 : az8) (a1 : (List Int)) (a2 : (List Int)) (a3 : az4) (a4 : az4) : CallS (az4 × Bool) :=
  mkC [] hd Tryz.func68 (by kernel_rfl) (nz0 a0 a1 a2 a3 a4) 0 [.pure (bzm a0), .pure (encL 1 az3 a1), .pure (encL 1 az3 a2), .pure (azh a3), .pure (azh a4)] [] (fun r => .tup [.pure (azh r.1), .pure (.bool r.2)]) (fun _ => []) (by kernel_rfl)
noncomputable def lz4 (a0 : az8) (a1 : (List Int)) (a2 : (List Int)) (a3 : (List az4)) : T (List az4) :=
 .call (iz2 (⟨a0.Robot, a0.Shapes, a0.Skips⟩ : az8) a1 a2 a3) [] fun y5 =>
 .br (y5.2 != 0)
 (.call (gzk a3) [] fun y6 =>
 .ret y6)
 (.loop (fun (x163 : ((List az4) × Int)) => ⟨[(1, .pure (encL 1 az3 a1)), (2, .pure (encL 1 az3 a2)), (4, .ptr 0 0), (8, .ptr 1 0), (29, .pure (encL 3 azh a3)), (30, pz ((a3.length : Nat) : Int)), (31, pz x163.2)], [(0, .box [.pure (encL 12 az9 a0.Robot.Joints), .pure (encL 5 azg a0.Robot.Masses), .pure (encL 3 aze a0.Shapes), .pure (encL 2 azn a0.Skips)]), (1, .box [.vec 2]), (2, vecO 3 azh x163.1 37)], [.func 66 [] [.ptr 1 0]], 3⟩)
 (.exit 0) (fun (y200 : (List az4)) => ⟨[(8, .ptr 0 0)], [(0, .box [.vec 1]), (1, vecO 3 azh y200 37)], [.func 66 [] [.ptr 0 0]], 2⟩)
 (fun x163 => .br (decide (x163.2 < ((a3.length : Nat) : Int)))
 (.grd (0 ≤ x163.2 ∧ x163.2 < ((a3.length : Nat) : Int)) <|
 .loop (fun (x231 : ((List az4) × Int × Int × (List (Int × Int × Int)))) => ⟨[(1, .pure (encL 1 az3 a1)), (2, .pure (encL 1 az3 a2)), (4, .ptr 0 0), (8, .ptr 1 0), (12, .ptr 3 0), (29, .pure (encL 3 azh a3)), (30, pz ((a3.length : Nat) : Int)), (31, pz x163.2)], [(0, .box [.pure (encL 12 az9 a0.Robot.Joints), .pure (encL 5 azg a0.Robot.Masses), .pure (encL 3 aze a0.Shapes), .pure (encL 2 azn a0.Skips)]), (1, .box [.vec 2]), (2, vecO 3 azh x231.1 37), (3, .box [pz x231.2.1, pz x231.2.2.1, .pure (encL 3 az1 x231.2.2.2)])], [.func 66 [] [.ptr 1 0]], 4⟩)
 (.exit 2) (fun (y234 : ((List az4) × Int × Int × (List (Int × Int × Int)))) => ⟨[(1, .pure (encL 1 az3 a1)), (2, .pure (encL 1 az3 a2)), (4, .ptr 0 0), (8, .ptr 1 0), (12, .ptr 3 0), (29, .pure (encL 3 azh a3)), (30, pz ((a3.length : Nat) : Int)), (31, pz x163.2)], [(0, .box [.pure (encL 12 az9 a0.Robot.Joints), .pure (encL 5 azg a0.Robot.Masses), .pure (encL 3 aze a0.Shapes), .pure (encL 2 azn a0.Skips)]), (1, .box [.vec 2]), (2, vecO 3 azh y234.1 37), (3, .box [pz y234.2.1, pz y234.2.2.1, .pure (encL 3 az1 y234.2.2.2)])], [.func 66 [] [.ptr 1 0]], 4⟩)
 (fun x231 => .br (decide (((x231.1.length : Nat) : Int) > 0))
 (.grd (0 ≤ (IntKind.i64.wrap (((x231.1.length : Nat) : Int) - 1)) ∧ (IntKind.i64.wrap (((x231.1.length : Nat) : Int) - 1)) < ((x231.1.length : Nat) : Int)) <|
 .grd (((IntKind.i64.wrap (((x231.1.length : Nat) : Int) - 1))).toNat < x231.1.length) <|
 .call (mzz a0 a1 a2 (x231.1.getD (((IntKind.i64.wrap (((x231.1.length : Nat) : Int) - 1))).toNat) default) (⟨x231.2.1, x231.2.2.1, x231.2.2.2⟩ : az4)) [] fun y236 =>
 .br (!y236.2)
 (.ret (.out (x231.1, x231.2.1, x231.2.2.1, x231.2.2.2)))
 (.conv 12002 (Sz9 3 azh x231.1 37 (IntKind.i64.wrap (((x231.1.length : Nat) : Int) - 1))) <|
 .grd (0 ≤ (IntKind.i64.wrap (((x231.1.length : Nat) : Int) - 1)) ∧ (IntKind.i64.wrap (((x231.1.length : Nat) : Int) - 1)) ≤ ((x231.1.length : Nat) : Int) ∧ 0 ≤ ((IntKind.i64.wrap (((x231.1.length : Nat) : Int) - 1))).toNat) <|
 .ret (.next ((x231.1.take (((IntKind.i64.wrap (((x231.1.length : Nat) : Int) - 1))).toNat)), y236.1.Depth, y236.1.Index, y236.1.Normals))))
 (.ret (.out (x231.1, x231.2.1, x231.2.2.1, x231.2.2.2))))
 (x163.1, (a3.getD ((x163.2).toNat) default).Depth, (a3.getD ((x163.2).toNat) default).Index, (a3.getD ((x163.2).toNat) default).Normals) [] fun y234 =>
 .conv 13002 (czw 3 azh ([(⟨y234.2.1, y234.2.2.1, y234.2.2.2⟩ : az4)] : (List az4)) 37) <|
 .conv 13003 (hzn 3 azh y234.1 ([(⟨y234.2.1, y234.2.2.1, y234.2.2.2⟩ : az4)] : (List az4)) 37) <|
 .grd ((y234.1.length + ([(⟨y234.2.1, y234.2.2.1, y234.2.2.2⟩ : az4)] : (List az4)).length) * 40 ≤ 140737488355328 ∧ (y234.1.length + ([(⟨y234.2.1, y234.2.2.1, y234.2.2.2⟩ : az4)] : (List az4)).length) ≤ maxLen) <|
 .ret (.next ((y234.1 ++ ([(⟨y234.2.1, y234.2.2.1, y234.2.2.2⟩ : az4)] : (List az4))), (IntKind.i64.wrap (x163.2 + 1)))))
 (.ret (.out x163.1)))
 (nl, 0) [] fun y200 =>
 .call (gzk y200) [] fun y237 =>
 .ret y237)
noncomputable def rz6 (a0 : az8) (a1 : (List Int)) (a2 : (List Int)) (a3 : (List az4)) : CallS (List az4) :=
  mkC [⟨66, Qzo⟩] hd Tryz.func22 (by kernel_rfl) (lz4 a0 a1 a2 a3) 0 [.pure (bzm a0), .pure (encL 1 az3 a1), .pure (encL 1 az3 a2), .pure (encL 3 azh a3)] [] (fun r => .pure (encL 3 azh r)) (fun _ => []) (by kernel_rfl)
noncomputable def lzh (a0 : (List Int)) (a1 : (List Int)) (a2 : Int) : T (az8 × (List (List Int)) × Int) :=
 .call (rzx a0) [] fun y571 =>
 .call (iz7 a1) [] fun y573 =>
 .call (kzp y571.Robot a1) [] fun y575 =>
 .conv 3004 (czw 1 (encL 1 az3) ([y575] : (List (List Int))) 31) <|
 .call (azd y573.1 y573.2 4) [(0, 512)] fun y858 =>
 .loop (fun (x952 : ((List Int) × Int × (List (List Int)) × Int)) => ⟨[(2, pz a2), (6, .ptr 0 0), (9, .ptr 5 0), (10, .ptr 6 0), (11, .vec 7), (12, pz x952.2.2.2)], [(0, .box [.vec 1, .vec 2, .vec 3, .vec 4]), (1, .nilv), (2, .nilv), (3, .nilv), (4, .nilv), (5, .box [.pure (encL 12 az9 y571.Robot.Joints), .pure (encL 5 azg y571.Robot.Masses), .pure (encL 3 aze y571.Shapes), .pure (encL 2 azn y571.Skips)]), (6, .box [.pure (encL 1 az3 x952.1), pz x952.2.1]), (7, vecO 1 (encL 1 az3) x952.2.2.1 31)], [], 8⟩)
 (.exit 0) (fun (y1045 : (List (List Int))) => ⟨[(2, pz a2), (6, .ptr 0 0), (9, .ptr 5 0), (11, .vec 6)], [(0, .box [.vec 1, .vec 2, .vec 3, .vec 4]), (1, .nilv), (2, .nilv), (3, .nilv), (4, .nilv), (5, .box [.pure (encL 12 az9 y571.Robot.Joints), .pure (encL 5 azg y571.Robot.Masses), .pure (encL 3 aze y571.Shapes), .pure (encL 2 azn y571.Skips)]), (6, vecO 1 (encL 1 az3) y1045 31)], [], 7⟩)
 (fun x952 => .br (decide (x952.2.2.2 > 0))
 (.call (azd x952.1 x952.2.1 99) [(0, 6)] fun y1099 =>
 .call (azd y1099.2.1 y1099.2.2 1073741824) [(0, 6)] fun y1100 =>
 .call (azd y1100.2.1 y1100.2.2 99) [(0, 6)] fun y1101 =>
 .call (azd y1101.2.1 y1101.2.2 1073741824) [(0, 6)] fun y1102 =>
 .call (azd y1102.2.1 y1102.2.2 99) [(0, 6)] fun y1103 =>
 .call (azd y1103.2.1 y1103.2.2 1073741824) [(0, 6)] fun y1104 =>
 .conv 7014 (czw 1 az3 ([y1099.1, y1100.1, y1101.1, y1102.1, y1103.1, y1104.1] : (List Int)) 3) <|
 .call (kzp y571.Robot ([y1099.1, y1100.1, y1101.1, y1102.1, y1103.1, y1104.1] : (List Int))) [] fun y1105 =>
 .conv 8000 (czw 1 az3 ([1, 16, 64] : (List Int)) 2) <|
 .call (azd y1104.2.1 y1104.2.2 3) [(0, 6)] fun y1107 =>
 .grd (0 ≤ y1107.1 ∧ y1107.1 < ((([1, 16, 64] : (List Int)).length : Nat) : Int)) <|
 .grd ((y1107.1).toNat < ([1, 16, 64] : (List Int)).length) <|
 .loop (fun (x1128 : ((List Int) × Int)) => ⟨[(2, pz a2), (6, .ptr 0 0), (9, .ptr 5 0), (10, .ptr 6 0), (11, .vec 7), (12, pz x952.2.2.2), (13, .vec 8), (14, pz (([1, 16, 64] : (List Int)).getD ((y1107.1).toNat) default)), (15, pz x1128.2)], [(0, .box [.vec 1, .vec 2, .vec 3, .vec 4]), (1, .nilv), (2, .nilv), (3, .nilv), (4, .nilv), (5, .box [.pure (encL 12 az9 y571.Robot.Joints), .pure (encL 5 azg y571.Robot.Masses), .pure (encL 3 aze y571.Shapes), .pure (encL 2 azn y571.Skips)]), (6, .box [.pure (encL 1 az3 y1107.2.1), pz y1107.2.2]), (7, vecO 1 (encL 1 az3) x952.2.2.1 31), (8, vecO 1 az3 x1128.1 2)], [], 9⟩)
 (.exit 2) (fun (y1133 : (List Int)) => ⟨[(2, pz a2), (6, .ptr 0 0), (9, .ptr 5 0), (10, .ptr 6 0), (11, .vec 7), (12, pz x952.2.2.2), (13, .vec 8)], [(0, .box [.vec 1, .vec 2, .vec 3, .vec 4]), (1, .nilv), (2, .nilv), (3, .nilv), (4, .nilv), (5, .box [.pure (encL 12 az9 y571.Robot.Joints), .pure (encL 5 azg y571.Robot.Masses), .pure (encL 3 aze y571.Shapes), .pure (encL 2 azn y571.Skips)]), (6, .box [.pure (encL 1 az3 y1107.2.1), pz y1107.2.2]), (7, vecO 1 (encL 1 az3) x952.2.2.1 31), (8, vecO 1 az3 y1133 2)], [], 9⟩)
 (fun x1128 => .br (decide (x1128.2 < ((x1128.1.length : Nat) : Int)))
 (.grd (0 ≤ (0 : Int) ∧ (0 : Int) < ((x952.2.2.1.length : Nat) : Int)) <|
 .grd ((0 : Int).toNat < x952.2.2.1.length) <|
 .grd (0 ≤ x1128.2 ∧ x1128.2 < (((x952.2.2.1.getD ((0 : Int).toNat) default).length : Nat) : Int)) <|
 .grd (0 ≤ x1128.2 ∧ x1128.2 < ((x1128.1.length : Nat) : Int)) <|
 .grd ((x1128.2).toNat < x1128.1.length) <|
 .grd (0 ≤ (0 : Int) ∧ (0 : Int) < ((x952.2.2.1.length : Nat) : Int)) <|
 .grd ((0 : Int).toNat < x952.2.2.1.length) <|
 .grd (0 ≤ x1128.2 ∧ x1128.2 < (((x952.2.2.1.getD ((0 : Int).toNat) default).length : Nat) : Int)) <|
 .name 12018 ((IntKind.i64.wrap ((x1128.1.getD ((x1128.2).toNat) default) - ((x952.2.2.1.getD ((0 : Int).toNat) default).getD ((x1128.2).toNat) default)))) fun z1136 =>
 .grd ((([1, 16, 64] : (List Int)).getD ((y1107.1).toNat) default) ≠ 0) <|
 .name 12021 ((IntKind.i64.wrap (((x952.2.2.1.getD ((0 : Int).toNat) default).getD ((x1128.2).toNat) default) + (IntKind.i64.wrap (z1136.tdiv (([1, 16, 64] : (List Int)).getD ((y1107.1).toNat) default)))))) fun z1137 =>
 .grd (0 ≤ x1128.2 ∧ x1128.2 < ((x1128.1.length : Nat) : Int)) <|
 .conv 12023 (qzv 1 az3 x1128.1 2 ((x1128.2).toNat) z1137) <|
 .grd ((x1128.2).toNat < x1128.1.length ∧ 0 ≤ (x1128.2).toNat) <|
 .ret (.next ((x1128.1.set ((x1128.2).toNat) z1137), (IntKind.i64.wrap (x1128.2 + 1)))))
 (.ret (.out x1128.1)))
 (y1105, 0) [] fun y1133 =>
 .conv 13002 (czw 1 (encL 1 az3) ([y1133] : (List (List Int))) 31) <|
 .conv 13003 (hzn 1 (encL 1 az3) x952.2.2.1 ([y1133] : (List (List Int))) 31) <|
 .grd ((x952.2.2.1.length + ([y1133] : (List (List Int))).length) * 24 ≤ 140737488355328 ∧ (x952.2.2.1.length + ([y1133] : (List (List Int))).length) ≤ maxLen) <|
 .ret (.next (y1107.2.1, y1107.2.2, (x952.2.2.1 ++ ([y1133] : (List (List Int)))), (IntKind.i64.wrap (x952.2.2.2 - 1)))))
 (.ret (.out x952.2.2.1)))
 (y858.2.1, y858.2.2, ([y575] : (List (List Int))), (IntKind.i64.wrap (1 + y858.1))) [] fun y1045 =>
 .call (gz6 a2 5) [] fun y1138 =>
 .ret (y571, y1045, y1138)
noncomputable def gzu (a0 : (List Int)) (a1 : (List Int)) (a2 : Int) : CallS (az8 × (List (List Int)) × Int) :=
  mkC [] hd Tryz.func23 (by kernel_rfl) (lzh a0 a1 a2) 0 [.pure (encL 1 az3 a0), .pure (encL 1 az3 a1), pz a2] [] (fun r => .tup [.pure (bzm r.1), .pure (encL 1 (encL 1 az3) r.2.1), pz r.2.2]) (fun _ => []) (by kernel_rfl)
noncomputable def pzs (a0 : (List Int)) : T Bool :=
 .loop (fun (x13 : Int) => ⟨[(0, .pure (encL 1 az3 a0)), (3, pz x13)], [], [], 0⟩)
 (.exit 0) (fun (_ : U0) => ⟨[], [], [], 0⟩)
 (fun x13 => .br (decide (x13 < ((a0.length : Nat) : Int)))
 (.cut 1 (fun (y18 : Bool) => ⟨[(0, .pure (encL 1 az3 a0)), (3, pz x13), (21, .pure (.bool y18))], [], [], 0⟩)
 (.grd (0 ≤ x13 ∧ x13 < ((a0.length : Nat) : Int)) <|
 .br (decide ((a0.getD ((x13).toNat) default) < (-2147483648)))
 (.ret (.out true))
 (.grd (0 ≤ x13 ∧ x13 < ((a0.length : Nat) : Int)) <|
 .ret (.out (decide ((a0.getD ((x13).toNat) default) > 2147483648))))) fun y18 =>
 .br y18
 (.ret (.fin false))
 (.ret (.next (IntKind.i64.wrap (x13 + 1)))))
 (.ret (.out .u)))
 0 [] fun _ =>
 .ret true
noncomputable def kzr (a0 : (List Int)) : CallS Bool :=
  mkC [] hd Tryz.func87 (by kernel_rfl) (pzs a0) 0 [.pure (encL 1 az3 a0)] [] (fun r => .pure (.bool r)) (fun _ => []) (by kernel_rfl)
noncomputable def uzy (a0 : (List Int)) : T (List az0) :=
 .call (kzr a0) [] fun y4 =>
 .br (!y4)
 (.ret nl)
 (.loop (fun (x9 : ((List az0) × Int)) => ⟨[(0, .pure (encL 1 az3 a0)), (3, .vec 0), (4, pz x9.2)], [(0, vecO 2 az6 x9.1 149)], [], 1⟩)
 (.exit 0) (fun (y10 : (List az0)) => ⟨[(3, .vec 0)], [(0, vecO 2 az6 y10 149)], [], 1⟩)
 (fun x9 => .br (decide (x9.2 < ((a0.length : Nat) : Int)))
 (.grd (0 ≤ x9.2 ∧ x9.2 < ((a0.length : Nat) : Int)) <|
 .grd (0 ≤ x9.2 ∧ x9.2 < ((a0.length : Nat) : Int)) <|
 .conv 7010 (czw 2 az6 ([(⟨(a0.getD ((x9.2).toNat) default), (a0.getD ((x9.2).toNat) default)⟩ : az0)] : (List az0)) 149) <|
 .conv 7011 (hzn 2 az6 x9.1 ([(⟨(a0.getD ((x9.2).toNat) default), (a0.getD ((x9.2).toNat) default)⟩ : az0)] : (List az0)) 149) <|
 .grd ((x9.1.length + ([(⟨(a0.getD ((x9.2).toNat) default), (a0.getD ((x9.2).toNat) default)⟩ : az0)] : (List az0)).length) * 16 ≤ 140737488355328 ∧ (x9.1.length + ([(⟨(a0.getD ((x9.2).toNat) default), (a0.getD ((x9.2).toNat) default)⟩ : az0)] : (List az0)).length) ≤ maxLen) <|
 .ret (.next ((x9.1 ++ ([(⟨(a0.getD ((x9.2).toNat) default), (a0.getD ((x9.2).toNat) default)⟩ : az0)] : (List az0))), (IntKind.i64.wrap (x9.2 + 1)))))
 (.ret (.out x9.1)))
 (nl, 0) [] fun y10 =>
 .ret y10)
noncomputable def pzr (a0 : (List Int)) : CallS (List az0) :=
  mkC [] hd Tryz.func29 (by kernel_rfl) (uzy a0) 0 [.pure (encL 1 az3 a0)] [] (fun r => .pure (encL 2 az6 r)) (fun _ => []) (by kernel_rfl)
noncomputable def hz9 (a0 : az8) (a1 : (List (List Int))) : T (Int × Int) :=
 .call (dzn a0) [] fun y4 =>
 .br (y4 != 0)
 (.ret (0, 904))
 (.cut 1 (fun (y6 : Bool) => ⟨[(1, .pure (encL 1 (encL 1 az3) a1)), (2, .ptr 0 0), (18, .pure (.bool y6))], [(0, .box [.pure (encL 12 az9 a0.Robot.Joints), .pure (encL 5 azg a0.Robot.Masses), .pure (encL 3 aze a0.Shapes), .pure (encL 2 azn a0.Skips)])], [], 1⟩)
 (.br (decide (((a1.length : Nat) : Int) < 2))
 (.ret (.out true))
 (.ret (.out (decide (((a1.length : Nat) : Int) > 256))))) fun y6 =>
 .br y6
 (.ret (0, 2201))
 (.loop (fun (x27 : Int) => ⟨[(2, .ptr 0 0), (19, .pure (encL 1 (encL 1 az3) a1)), (20, pz ((a1.length : Nat) : Int)), (21, pz x27)], [(0, .box [.pure (encL 12 az9 a0.Robot.Joints), .pure (encL 5 azg a0.Robot.Masses), .pure (encL 3 aze a0.Shapes), .pure (encL 2 azn a0.Skips)])], [], 1⟩)
 (.exit 0) (fun (_ : U0) => ⟨[], [], [], 0⟩)
 (fun x27 => .br (decide (x27 < ((a1.length : Nat) : Int)))
 (.grd (0 ≤ x27 ∧ x27 < ((a1.length : Nat) : Int)) <|
 .call (ez0 a0.Robot (a1.getD ((x27).toNat) default)) [] fun y36 =>
 .br (!y36)
 (.ret (.fin (x27, 1201)))
 (.ret (.next (IntKind.i64.wrap (x27 + 1)))))
 (.ret (.out .u)))
 0 [] fun _ =>
 .ret (0, 0)))
noncomputable def hz8 (a0 : az8) (a1 : (List (List Int))) : CallS (Int × Int) :=
  mkC [] hd Tryz.func72 (by kernel_rfl) (hz9 a0 a1) 0 [.pure (bzm a0), .pure (encL 1 (encL 1 az3) a1)] [] (fun r => .tup [pz r.1, pz r.2]) (fun _ => []) (by kernel_rfl)
noncomputable def nzq (a0 : dz1) (a1 : (List Int)) (a2 : (List Int)) : T (bze × Bool) :=
 .call (jz7 a0.scene a1 a2 a0.depth) [] fun y2 =>
 .br (y2.Kind != 1)
 (.ret ((⟨nl, nl⟩ : bze), false))
 (.call (rz6 a0.scene a1 a2 y2.Pieces) [] fun y3 =>
 .call (tzq y3) [] fun y4 =>
 .ret (y4, true))
noncomputable def nzp (a0 : dz1) (a1 : (List Int)) (a2 : (List Int)) : CallS (bze × Bool) :=
  mkC [] hd Tryz.func74 (by kernel_rfl) (nzq a0 a1 a2) 0 [.pure (lz9 a0), .pure (encL 1 az3 a1), .pure (encL 1 az3 a2)] [] (fun r => .tup [.pure (dz7 r.1), .pure (.bool r.2)]) (fun _ => []) (by kernel_rfl)
noncomputable def fzq (a0 : (List (List Int))) (a1 : dz1) : T ((List bze) × Int × Int) :=
 .conv 2001 (Lzp 1 (encL 1 az3) a0 (1 : Int) ((a0.length : Nat) : Int)) <|
 .grd (0 ≤ (1 : Int) ∧ (1 : Int) ≤ ((a0.length : Nat) : Int) ∧ ((a0.length : Nat) : Int) ≤ ((a0.length : Nat) : Int)) <|
 .loop (fun (x21 : ((List bze) × Int)) => ⟨[(0, .pure (encL 1 (encL 1 az3) a0)), (1, .func 74 [.pure (lz9 (⟨a1.scene, a1.depth⟩ : dz1))] []), (7, .vec 0), (13, .pure (encL 1 (encL 1 az3) ((a0.drop ((1 : Int).toNat)).take ((((a0.length : Nat) : Int)).toNat - (1 : Int).toNat)))), (14, pz ((((a0.drop ((1 : Int).toNat)).take ((((a0.length : Nat) : Int)).toNat - (1 : Int).toNat)).length : Nat) : Int)), (15, pz x21.2)], [(0, vecO 2 dz7 x21.1 79)], [], 1⟩)
 (.exit 0) (fun (y26 : (List bze)) => ⟨[(7, .vec 0)], [(0, vecO 2 dz7 y26 79)], [], 1⟩)
 (fun x21 => .br (decide (x21.2 < ((((a0.drop ((1 : Int).toNat)).take ((((a0.length : Nat) : Int)).toNat - (1 : Int).toNat)).length : Nat) : Int)))
 (.grd (0 ≤ x21.2 ∧ x21.2 < ((((a0.drop ((1 : Int).toNat)).take ((((a0.length : Nat) : Int)).toNat - (1 : Int).toNat)).length : Nat) : Int)) <|
 .grd (0 ≤ x21.2 ∧ x21.2 < ((a0.length : Nat) : Int)) <|
 .call (nzp (⟨a1.scene, a1.depth⟩ : dz1) (a0.getD ((x21.2).toNat) default) (((a0.drop ((1 : Int).toNat)).take ((((a0.length : Nat) : Int)).toNat - (1 : Int).toNat)).getD ((x21.2).toNat) default)) [] fun y30 =>
 .br (!y30.2)
 (.ret (.fin (nl, x21.2, 2204)))
 (.conv 8002 (czw 2 dz7 ([y30.1] : (List bze)) 79) <|
 .conv 8003 (hzn 2 dz7 x21.1 ([y30.1] : (List bze)) 79) <|
 .grd ((x21.1.length + ([y30.1] : (List bze)).length) * 48 ≤ 140737488355328 ∧ (x21.1.length + ([y30.1] : (List bze)).length) ≤ maxLen) <|
 .ret (.next ((x21.1 ++ ([y30.1] : (List bze))), (IntKind.i64.wrap (x21.2 + 1))))))
 (.ret (.out x21.1)))
 (nl, 0) [] fun y26 =>
 .ret (y26, 0, 0)
noncomputable def nzn (a0 : (List (List Int))) (a1 : dz1) : CallS ((List bze) × Int × Int) :=
  mkC [] hd Tryz.func73 (by kernel_rfl) (fzq a0 a1) 0 [.pure (encL 1 (encL 1 az3) a0), .func 74 [.pure (lz9 a1)] []] [] (fun r => .tup [.pure (encL 2 dz7 r.1), pz r.2.1, pz r.2.2]) (fun _ => []) (by kernel_rfl)
noncomputable def dzf (a0 : (List (List Int))) : T (List (List Int)) :=
  (match a0 with
   | [] => .unroll 1 <|
   .grd (a0.length = 0) <|
   .both
    (.ret nl)
    (.conv 3000 (czw 1 (encL 1 az3) ([] : (List (List Int))) 31) <|
    .conv 3002 (hzn 1 (encL 1 az3) ([] : (List (List Int))) a0 31) <|
    .grd ((([] : (List (List Int))).length + a0.length) * 24 ≤ 140737488355328 ∧ (([] : (List (List Int))).length + a0.length) ≤ maxLen) <|
    .ret (([] : (List (List Int))) ++ a0))
   | _ :: _ => .grd (0 < a0.length) <|
   .conv 3000 (czw 1 (encL 1 az3) ([] : (List (List Int))) 31) <|
   .conv 3002 (hzn 1 (encL 1 az3) ([] : (List (List Int))) a0 31) <|
   .grd ((([] : (List (List Int))).length + a0.length) * 24 ≤ 140737488355328 ∧ (([] : (List (List Int))).length + a0.length) ≤ maxLen) <|
   .ret (([] : (List (List Int))) ++ a0))
noncomputable def fzc (a0 : (List (List Int))) : CallS (List (List Int)) :=
  mkH [] hd Tryz.func129 (by kernel_rfl) (dzf a0) 0 [.pure (encL 1 (encL 1 az3) a0)] [] (fun _ => .vec 0) (fun r => [(0, vecO 1 (encL 1 az3) r 31)]) (by cases a0 <;> exact Ob.of_side (by kernel_rfl))
noncomputable def dz3 (a0 : (List Int)) : T (List Int) :=
  (match a0 with
   | [] => .unroll 1 <|
   .grd (a0.length = 0) <|
   .both
    (.ret nl)
    (.conv 3000 (czw 1 az3 ([] : (List Int)) 2) <|
    .conv 3002 (hzn 1 az3 ([] : (List Int)) a0 2) <|
    .grd ((([] : (List Int)).length + a0.length) * 8 ≤ 140737488355328 ∧ (([] : (List Int)).length + a0.length) ≤ maxLen) <|
    .ret (([] : (List Int)) ++ a0))
   | _ :: _ => .grd (0 < a0.length) <|
   .conv 3000 (czw 1 az3 ([] : (List Int)) 2) <|
   .conv 3002 (hzn 1 az3 ([] : (List Int)) a0 2) <|
   .grd ((([] : (List Int)).length + a0.length) * 8 ≤ 140737488355328 ∧ (([] : (List Int)).length + a0.length) ≤ maxLen) <|
   .ret (([] : (List Int)) ++ a0))
noncomputable def ezv (a0 : (List Int)) : CallS (List Int) :=
  mkH [] hd Tryz.func130 (by kernel_rfl) (dz3 a0) 0 [.pure (encL 1 az3 a0)] [] (fun r => .pure (encL 1 az3 r)) (fun _ => []) (by cases a0 <;> exact Ob.of_side (by kernel_rfl))
noncomputable def hza (a0 : (List (List Int))) : T (List (List Int)) :=
 .call (fzc a0) [] fun y2 =>
 .loop (fun (x15 : ((List (List Int)) × Int)) => ⟨[(0, .vec 0), (7, .vec 0), (8, pz ((y2.length : Nat) : Int)), (9, pz x15.2)], [(0, vecO 1 (encL 1 az3) x15.1 31)], [], 1⟩)
 (.exit 0) (fun (y18 : (List (List Int))) => ⟨[(0, .vec 0)], [(0, vecO 1 (encL 1 az3) y18 31)], [], 1⟩)
 (fun x15 => .br (decide (x15.2 < ((y2.length : Nat) : Int)))
 (.grd (0 ≤ x15.2 ∧ x15.2 < ((x15.1.length : Nat) : Int)) <|
 .grd ((x15.2).toNat < x15.1.length) <|
 .call (ezv (x15.1.getD ((x15.2).toNat) default)) [] fun y20 =>
 .grd (0 ≤ x15.2 ∧ x15.2 < ((x15.1.length : Nat) : Int)) <|
 .conv 5005 (qzv 1 (encL 1 az3) x15.1 31 ((x15.2).toNat) y20) <|
 .grd ((x15.2).toNat < x15.1.length ∧ 0 ≤ (x15.2).toNat) <|
 .ret (.next ((x15.1.set ((x15.2).toNat) y20), (IntKind.i64.wrap (x15.2 + 1)))))
 (.ret (.out x15.1)))
 (y2, 0) [] fun y18 =>
 .ret y18
noncomputable def mzf (a0 : (List (List Int))) : CallS (List (List Int)) :=
  mkC [] hd Tryz.func75 (by kernel_rfl) (hza a0) 0 [.pure (encL 1 (encL 1 az3) a0)] [] (fun r => .pure (encL 1 (encL 1 az3) r)) (fun _ => []) (by kernel_rfl)
noncomputable def jzc (a0 : az8) (a1 : (List (List Int))) (a2 : Int) : T (hzp × Int × Int) :=
 .call (hz8 a0 a1) [] fun y4 =>
 .br (y4.2 != 0)
 (.ret ((⟨nl, nl⟩ : hzp), y4.1, y4.2))
 (.call (nzn a1 (⟨(⟨a0.Robot, a0.Shapes, a0.Skips⟩ : az8), a2⟩ : dz1)) [] fun y6 =>
 .br (y6.2.2 != 0)
 (.ret ((⟨nl, nl⟩ : hzp), y6.2.1, y6.2.2))
 (.call (mzf a1) [] fun y7 =>
 .ret ((⟨y7, y6.1⟩ : hzp), 0, 0)))
noncomputable def gz7 (a0 : az8) (a1 : (List (List Int))) (a2 : Int) : CallS (hzp × Int × Int) :=
  mkC [⟨71, Qzp⟩] hd Tryz.func24 (by kernel_rfl) (jzc a0 a1 a2) 0 [.pure (bzm a0), .pure (encL 1 (encL 1 az3) a1), pz a2] [] (fun r => .tup [.pure (Dz9 r.1), pz r.2.1, pz r.2.2]) (fun _ => []) (by kernel_rfl)
noncomputable def Hzz : T az8 :=
 .conv 1001 (czw 12 az9 ([(⟨(⟨#[97]⟩ : ByteArray), 4, (-1), (0, 0, 0), 0, 90000, 2, 1, 1, 1⟩ : azk)] : (List azk)) 158) <|
 .conv 2002 (czw 3 az1 ([(0, 0, 0)] : (List (Int × Int × Int))) 102) <|
 .conv 2005 (czw 3 az1 ([(50000, 0, 0)] : (List (Int × Int × Int))) 102) <|
 .conv 2007 (czw 3 aze ([(⟨0, 9, ([(0, 0, 0)] : (List (Int × Int × Int)))⟩ : azo), (⟨(-1), 9, ([(50000, 0, 0)] : (List (Int × Int × Int)))⟩ : azo)] : (List azo)) 170) <|
 .ret (⟨(⟨([(⟨(⟨#[97]⟩ : ByteArray), 4, (-1), (0, 0, 0), 0, 90000, 2, 1, 1, 1⟩ : azk)] : (List azk)), nl⟩ : azj), ([(⟨0, 9, ([(0, 0, 0)] : (List (Int × Int × Int)))⟩ : azo), (⟨(-1), 9, ([(50000, 0, 0)] : (List (Int × Int × Int)))⟩ : azo)] : (List azo)), nl⟩ : az8)
noncomputable def uzu : CallS az8 :=
  mkC [] hd Tryz.func77 (by kernel_rfl) (Hzz) 0 [] [] (fun r => .pure (bzm r)) (fun _ => []) (by kernel_rfl)
open Go.Proofs
noncomputable def jzd (a0 : az8) (a1 : hzp) : T (Int × Int) :=
 .call (hz8 a0 a1.Points) [] fun y4 =>
 .br (y4.2 != 0)
 (.ret (y4.1, y4.2))
 (.br (((a1.Edges.length : Nat) : Int) != (IntKind.i64.wrap (((a1.Points.length : Nat) : Int) - 1)))
 (.ret (0, 2202))
 (.loop (fun (x41 : Int) => ⟨[(2, .ptr 0 0), (3, .ptr 1 0), (4, .ptr 2 0), (5, .ptr 3 0), (35, .pure (encL 2 dz7 a1.Edges)), (36, pz ((a1.Edges.length : Nat) : Int)), (37, pz x41)], [(0, .box [.pure (encL 12 az9 a0.Robot.Joints), .pure (encL 5 azg a0.Robot.Masses), .pure (encL 3 aze a0.Shapes), .pure (encL 2 azn a0.Skips)]), (1, .box [.pure (encL 1 (encL 1 az3) a1.Points), .pure (encL 2 dz7 a1.Edges)]), (2, .box [pz 0]), (3, .box [pz 0])], [.func 76 [] [.ptr 2 0, .ptr 3 0]], 4⟩)
 (.exit 0) (fun (_ : U0) => ⟨[(4, .ptr 0 0), (5, .ptr 1 0)], [(0, .box [pz 0]), (1, .box [pz 0])], [.func 76 [] [.ptr 0 0, .ptr 1 0]], 2⟩)
 (fun x41 => .br (decide (x41 < ((a1.Edges.length : Nat) : Int)))
 (.grd (0 ≤ x41 ∧ x41 < ((a1.Edges.length : Nat) : Int)) <|
 .call (ezg (a1.Edges.getD ((x41).toNat) default)) [] fun y56 =>
 .br (!y56.2)
 (.ret (.fin (x41, 2203)))
 (.grd (0 ≤ x41 ∧ x41 < ((a1.Points.length : Nat) : Int)) <|
 .grd (0 ≤ (IntKind.i64.wrap (x41 + 1)) ∧ (IntKind.i64.wrap (x41 + 1)) < ((a1.Points.length : Nat) : Int)) <|
 .call (iz2 a0 (a1.Points.getD ((x41).toNat) default) (a1.Points.getD (((IntKind.i64.wrap (x41 + 1))).toNat) default) y56.1) [] fun y58 =>
 .br (y58.2 != 0)
 (.ret (.fin (x41, y58.2)))
 (.ret (.next (IntKind.i64.wrap (x41 + 1))))))
 (.ret (.out .u)))
 0 [] fun _ =>
 .ret (0, 0)))
noncomputable def gz8 (a0 : az8) (a1 : hzp) : CallS (Int × Int) :=
  mkC [⟨76, Qzq⟩] hd Tryz.func25 (by kernel_rfl) (jzd a0 a1) 0 [.pure (bzm a0), .pure (Dz9 a1)] [] (fun r => .tup [pz r.1, pz r.2]) (fun _ => []) (by kernel_rfl)
noncomputable def hzy (a0 : azj) (a1 : (List Int)) (a2 : (List Int)) : T Int :=
 .cut 3 (fun (y55 : Bool) => ⟨[(1, .pure (encL 1 az3 a1)), (2, .pure (encL 1 az3 a2)), (3, .ptr 0 0), (38, .pure (.bool y55))], [(0, .box [.pure (encL 12 az9 a0.Joints), .pure (encL 5 azg a0.Masses)])], [], 1⟩)
 (.br (((a1.length : Nat) : Int) != ((a0.Joints.length : Nat) : Int))
 (.ret (.out true))
 (.br (((a2.length : Nat) : Int) != ((a0.Joints.length : Nat) : Int))
 (.ret (.out true))
 (.call (fzo a1) [] fun y56 =>
 .br (!y56)
 (.ret (.out true))
 (.call (fzo a2) [] fun y57 =>
 .br (!y57)
 (.ret (.out true))
 (.call (kzs a0) [] fun y58 =>
 .ret (.out (y58 != 0))))))) fun y55 =>
 .br y55
 (.ret 0)
 (.loop (fun (x71 : (Int × Int)) => ⟨[(1, .pure (encL 1 az3 a1)), (2, .pure (encL 1 az3 a2)), (8, pz x71.1), (40, .pure (encL 12 az9 a0.Joints)), (41, pz ((a0.Joints.length : Nat) : Int)), (42, pz x71.2)], [], [], 0⟩)
 (.exit 0) (fun (y74 : Int) => ⟨[(8, pz y74)], [], [], 0⟩)
 (fun x71 => .br (decide (x71.2 < ((a0.Joints.length : Nat) : Int)))
 (.grd (0 ≤ x71.2 ∧ x71.2 < ((a0.Joints.length : Nat) : Int)) <|
 .grd (0 ≤ x71.2 ∧ x71.2 < ((a2.length : Nat) : Int)) <|
 .grd (0 ≤ x71.2 ∧ x71.2 < ((a1.length : Nat) : Int)) <|
 .grd (0 ≤ x71.2 ∧ x71.2 < ((a1.length : Nat) : Int)) <|
 .grd (0 ≤ x71.2 ∧ x71.2 < ((a2.length : Nat) : Int)) <|
 .name 8021 ((max (IntKind.i64.wrap ((a2.getD ((x71.2).toNat) default) - (a1.getD ((x71.2).toNat) default))) (IntKind.i64.wrap ((a1.getD ((x71.2).toNat) default) - (a2.getD ((x71.2).toNat) default))))) fun z76 =>
 .ret (.next ((IntKind.i64.wrap (x71.1 + (IntKind.i64.wrap (((a0.Joints.getD ((x71.2).toNat) default).Weight) * z76)))), (IntKind.i64.wrap (x71.2 + 1)))))
 (.ret (.out x71.1)))
 (0, 0) [] fun y74 =>
 .ret y74)
noncomputable def hzx (a0 : azj) (a1 : (List Int)) (a2 : (List Int)) : CallS Int :=
  mkC [] hd Tryz.func89 (by kernel_rfl) (hzy a0 a1 a2) 0 [.pure (ez1 a0), .pure (encL 1 az3 a1), .pure (encL 1 az3 a2)] [] (fun r => pz r) (fun _ => []) (by kernel_rfl)
noncomputable def hz7 (a0 : az8) (a1 : hzp) : T Int :=
 .call (gz8 a0 a1) [] fun y4 =>
 .br (y4.2 != 0)
 (.ret 0)
 (.loop (fun (x17 : (Int × Int)) => ⟨[(2, .ptr 0 0), (3, .ptr 1 0), (4, .ptr 2 0), (19, pz ((a1.Edges.length : Nat) : Int)), (20, pz x17.2)], [(0, .box [.pure (encL 12 az9 a0.Robot.Joints), .pure (encL 5 azg a0.Robot.Masses), .pure (encL 3 aze a0.Shapes), .pure (encL 2 azn a0.Skips)]), (1, .box [.pure (encL 1 (encL 1 az3) a1.Points), .pure (encL 2 dz7 a1.Edges)]), (2, .box [pz x17.1])], [.func 88 [] [.ptr 2 0]], 3⟩)
 (.exit 0) (fun (y20 : Int) => ⟨[(4, .ptr 0 0)], [(0, .box [pz y20])], [.func 88 [] [.ptr 0 0]], 1⟩)
 (fun x17 => .br (decide (x17.2 < ((a1.Edges.length : Nat) : Int)))
 (.grd (0 ≤ x17.2 ∧ x17.2 < ((a1.Points.length : Nat) : Int)) <|
 .grd (0 ≤ (IntKind.i64.wrap (x17.2 + 1)) ∧ (IntKind.i64.wrap (x17.2 + 1)) < ((a1.Points.length : Nat) : Int)) <|
 .call (hzx a0.Robot (a1.Points.getD ((x17.2).toNat) default) (a1.Points.getD (((IntKind.i64.wrap (x17.2 + 1))).toNat) default)) [] fun y22 =>
 .ret (.next ((IntKind.i64.wrap (x17.1 + y22)), (IntKind.i64.wrap (x17.2 + 1)))))
 (.ret (.out x17.1)))
 (0, 0) [] fun y20 =>
 .ret y20)
noncomputable def hz6 (a0 : az8) (a1 : hzp) : CallS Int :=
  mkC [⟨88, Qzs⟩] hd Tryz.func30 (by kernel_rfl) (hz7 a0 a1) 0 [.pure (bzm a0), .pure (Dz9 a1)] [] (fun r => pz r) (fun _ => []) (by kernel_rfl)
noncomputable def Ez3 : T Bool :=
 .call (uzu) [] fun y3 =>
 .conv 1001 (czw 1 az3 ([0] : (List Int)) 2) <|
 .conv 1002 (czw 1 az3 ([40000] : (List Int)) 2) <|
 .conv 1003 (czw 1 az3 ([30000] : (List Int)) 2) <|
 .conv 1004 (czw 1 (encL 1 az3) ([([0] : (List Int)), ([40000] : (List Int)), ([30000] : (List Int))] : (List (List Int))) 31) <|
 .call (gz7 y3 ([([0] : (List Int)), ([40000] : (List Int)), ([30000] : (List Int))] : (List (List Int))) 3) [] fun y4 =>
 .call (uzu) [] fun y7 =>
 .call (gz8 y7 (⟨y4.1.Points, y4.1.Edges⟩ : hzp)) [] fun y8 =>
 .br (y4.2.2 == 0)
 (.br (y8.2 == 0)
 (.br (((y4.1.Edges.length : Nat) : Int) == 2)
 (.call (uzu) [] fun y9 =>
 .call (hz6 (⟨y9.Robot, y9.Shapes, y9.Skips⟩ : az8) (⟨y4.1.Points, y4.1.Edges⟩ : hzp)) [] fun y10 =>
 .ret (y10 == 100000))
 (.ret false))
 (.ret false))
 (.ret false)
noncomputable def law22_awake_C : CallS Bool :=
  mkC [] hd Tryz.func26 (by kernel_rfl) (Ez3) 0 [] [] (fun r => .pure (.bool r)) (fun _ => []) (by kernel_rfl)
noncomputable def iz6 (a0 : (List Int)) (a1 : (List Int)) (a2 : Int) : T Bool :=
 .call (gzu a0 a1 a2) [] fun y2 =>
 .grd (0 ≤ (0 : Int) ∧ (0 : Int) < ((y2.2.1.length : Nat) : Int)) <|
 .call (pzr (y2.2.1.getD ((0 : Int).toNat) default)) [] fun y5 =>
 .call (ezj y2.1 y5 nl) [] fun y6 =>
 .grd (0 ≤ (0 : Int) ∧ (0 : Int) < ((y2.2.1.length : Nat) : Int)) <|
 .grd (0 ≤ (0 : Int) ∧ (0 : Int) < ((y2.2.1.length : Nat) : Int)) <|
 .conv 3007 (czw 1 (encL 1 az3) ([(y2.2.1.getD ((0 : Int).toNat) default), (y2.2.1.getD ((0 : Int).toNat) default)] : (List (List Int))) 31) <|
 .call (gz7 (⟨y2.1.Robot, y2.1.Shapes, y2.1.Skips⟩ : az8) ([(y2.2.1.getD ((0 : Int).toNat) default), (y2.2.1.getD ((0 : Int).toNat) default)] : (List (List Int))) y2.2.2) [] fun y8 =>
 .call (law22_awake_C) [] fun y9 =>
 .br y9
 (.br ((y8.2.2 == 0) == (y6.Kind == 1))
 (.call (hz6 (⟨y2.1.Robot, y2.1.Shapes, y2.1.Skips⟩ : az8) (⟨y8.1.Points, y8.1.Edges⟩ : hzp)) [] fun y10 =>
 .ret (y10 == 0))
 (.ret false))
 (.ret false)
noncomputable def czi (a0 : (List Int)) (a1 : (List Int)) (a2 : Int) : CallS Bool :=
  mkC [] hd Tryz.func7 (by kernel_rfl) (iz6 a0 a1 a2) 0 [.pure (encL 1 az3 a0), .pure (encL 1 az3 a1), pz a2] [] (fun r => .pure (.bool r)) (fun _ => []) (by kernel_rfl)
noncomputable def nzt (a0 : (List Int)) (a1 : (List Int)) (a2 : Int) : T Bool :=
 .call (kzr a0) [] fun y1 =>
 .br y1
 (.call (kzr a1) [] fun y2 =>
 .br y2
 (.br (((a0.length : Nat) : Int) == ((a1.length : Nat) : Int))
 (.br (decide (a2 ≥ 0))
 (.ret (decide (a2 ≤ 20)))
 (.ret false))
 (.ret false))
 (.ret false))
 (.ret false)
noncomputable def uz7 (a0 : (List Int)) (a1 : (List Int)) (a2 : Int) : CallS Bool :=
  mkC [] hd Tryz.func90 (by kernel_rfl) (nzt a0 a1 a2) 0 [.pure (encL 1 az3 a0), .pure (encL 1 az3 a1), pz a2] [] (fun r => .pure (.bool r)) (fun _ => []) (by kernel_rfl)
noncomputable def szg (a0 : Int) (a1 : Int) : T Int :=
 .grd (a1 ≠ 0) <|
 .cut 0 (fun (y1 : Int) => ⟨[(5, pz y1)], [], [], 0⟩)
 (.grd (a1 ≠ 0) <|
 .br (decide ((a0.tmod a1) < 0))
 (.ret (.out (IntKind.i64.wrap ((IntKind.i64.wrap (a0.tdiv a1)) - 1))))
 (.ret (.out (IntKind.i64.wrap (a0.tdiv a1))))) fun y1 =>
 .ret y1
noncomputable def yzf (a0 : Int) (a1 : Int) : CallS Int :=
  mkC [] hd Tryz.func91 (by kernel_rfl) (szg a0 a1) 0 [pz a0, pz a1] [] (fun r => pz r) (fun _ => []) (by kernel_rfl)
noncomputable def xzl (a0 : (List Int)) (a1 : (List Int)) (a2 : Int) (a3 : Int) : T ((List Int) × Bool) :=
 .cut 2 (fun (y7 : Bool) => ⟨[(0, .pure (encL 1 az3 a0)), (1, .pure (encL 1 az3 a1)), (2, pz a2), (3, pz a3), (27, .pure (.bool y7))], [], [], 0⟩)
 (.call (uz7 a0 a1 a2) [] fun y8 =>
 .br (!y8)
 (.ret (.out true))
 (.br (decide (a3 < 0))
 (.ret (.out true))
 (.grd (0 ≤ (IntKind.u64.wrap a2)) <|
 .ret (.out (decide (a3 > (IntKind.i64.wrap (1 * 2 ^ (min ((IntKind.u64.wrap a2)).toNat 64))))))))) fun y7 =>
 .br y7
 (.ret (nl, false))
 (.loop (fun (x21 : ((List Int) × Int)) => ⟨[(0, .pure (encL 1 az3 a0)), (1, .pure (encL 1 az3 a1)), (2, pz a2), (3, pz a3), (10, .vec 0), (11, pz x21.2)], [(0, vecO 1 az3 x21.1 2)], [], 1⟩)
 (.exit 0) (fun (y24 : (List Int)) => ⟨[(10, .vec 0)], [(0, vecO 1 az3 y24 2)], [], 1⟩)
 (fun x21 => .br (decide (x21.2 < ((a0.length : Nat) : Int)))
 (.grd (0 ≤ x21.2 ∧ x21.2 < ((a0.length : Nat) : Int)) <|
 .grd (0 ≤ x21.2 ∧ x21.2 < ((a1.length : Nat) : Int)) <|
 .grd (0 ≤ x21.2 ∧ x21.2 < ((a0.length : Nat) : Int)) <|
 .grd (0 ≤ (IntKind.u64.wrap a2)) <|
 .call (yzf (IntKind.i64.wrap (a3 * (IntKind.i64.wrap ((a1.getD ((x21.2).toNat) default) - (a0.getD ((x21.2).toNat) default))))) (IntKind.i64.wrap (1 * 2 ^ (min ((IntKind.u64.wrap a2)).toNat 64)))) [] fun y26 =>
 .conv 7021 (czw 1 az3 ([(IntKind.i64.wrap ((a0.getD ((x21.2).toNat) default) + y26))] : (List Int)) 2) <|
 .conv 7022 (hzn 1 az3 x21.1 ([(IntKind.i64.wrap ((a0.getD ((x21.2).toNat) default) + y26))] : (List Int)) 2) <|
 .grd ((x21.1.length + ([(IntKind.i64.wrap ((a0.getD ((x21.2).toNat) default) + y26))] : (List Int)).length) * 8 ≤ 140737488355328 ∧ (x21.1.length + ([(IntKind.i64.wrap ((a0.getD ((x21.2).toNat) default) + y26))] : (List Int)).length) ≤ maxLen) <|
 .ret (.next ((x21.1 ++ ([(IntKind.i64.wrap ((a0.getD ((x21.2).toNat) default) + y26))] : (List Int))), (IntKind.i64.wrap (x21.2 + 1)))))
 (.ret (.out x21.1)))
 (nl, 0) [] fun y24 =>
 .ret (y24, true))
noncomputable def Czm (a0 : (List Int)) (a1 : (List Int)) (a2 : Int) (a3 : Int) : CallS ((List Int) × Bool) :=
  mkC [] hd Tryz.func32 (by kernel_rfl) (xzl a0 a1 a2 a3) 0 [.pure (encL 1 az3 a0), .pure (encL 1 az3 a1), pz a2, pz a3] [] (fun r => .tup [.pure (encL 1 az3 r.1), .pure (.bool r.2)]) (fun _ => []) (by kernel_rfl)
noncomputable def vz2 (a0 : ByteArray) : T Bool :=
 .cut 2 (fun (y2 : Bool) => ⟨[(0, .pure (.str a0)), (16, .pure (.bool y2))], [], [], 0⟩)
 (.br (decide (((a0.size : Nat) : Int) < 1))
 (.ret (.out true))
 (.br (decide (((a0.size : Nat) : Int) > 16))
 (.ret (.out true))
 (.ret (.out (a0 == (⟨#[119, 111, 114, 108, 100]⟩ : ByteArray)))))) fun y2 =>
 .br y2
 (.ret false)
 (.loop (fun (x23 : Int) => ⟨[(0, .pure (.str a0)), (3, pz x23)], [], [], 0⟩)
 (.exit 0) (fun (_ : U0) => ⟨[], [], [], 0⟩)
 (fun x23 => .br (decide (x23 < ((a0.size : Nat) : Int)))
 (.cut 1 (fun (y31 : Bool) => ⟨[(0, .pure (.str a0)), (3, pz x23), (4, .pure (.bool y31))], [], [], 0⟩)
 (.grd (0 ≤ x23 ∧ x23 < ((a0.size : Nat) : Int)) <|
 .br (decide (((a0.data.getD (x23).toNat 0).toNat : Int) ≥ 97))
 (.grd (0 ≤ x23 ∧ x23 < ((a0.size : Nat) : Int)) <|
 .ret (.out (decide (((a0.data.getD (x23).toNat 0).toNat : Int) ≤ 122))))
 (.ret (.out false))) fun y31 =>
 .cut 0 (fun (y32 : Bool) => ⟨[(0, .pure (.str a0)), (3, pz x23), (56, .pure (.bool y32))], [], [], 0⟩)
 (.br (!y31)
 (.br (x23 == 0)
 (.ret (.out true))
 (.grd (0 ≤ x23 ∧ x23 < ((a0.size : Nat) : Int)) <|
 .br (((a0.data.getD (x23).toNat 0).toNat : Int) != 95)
 (.grd (0 ≤ x23 ∧ x23 < ((a0.size : Nat) : Int)) <|
 .br (decide (((a0.data.getD (x23).toNat 0).toNat : Int) < 48))
 (.ret (.out true))
 (.grd (0 ≤ x23 ∧ x23 < ((a0.size : Nat) : Int)) <|
 .ret (.out (decide (((a0.data.getD (x23).toNat 0).toNat : Int) > 57)))))
 (.ret (.out false))))
 (.ret (.out false))) fun y32 =>
 .br y32
 (.ret (.fin false))
 (.ret (.next (IntKind.i64.wrap (x23 + 1)))))
 (.ret (.out .u)))
 0 [] fun _ =>
 .ret true)
noncomputable def Azv (a0 : ByteArray) : CallS Bool :=
  mkC [] hd Tryz.func195 (by kernel_rfl) (vz2 a0) 0 [.pure (.str a0)] [] (fun r => .pure (.bool r)) (fun _ => []) (by kernel_rfl)
noncomputable def vz4 (a0 : (Int × Int × Int)) (a1 : Int) : T Bool :=
 .unroll 4 <|
 .known true <|
 .cut 1 (fun (y16 : Bool) => ⟨[(1, pz a1), (2, .ptr 0 0), (5, pz 0), (22, .pure (.bool y16))], [(0, .box [pz a0.1, pz a0.2.1, pz a0.2.2])], [], 1⟩)
 (.ix 0 3 rfl <|
 .br (decide (a0.1 < (IntKind.i64.wrap (0 - a1))))
 (.ret (.out true))
 (.ix 0 3 rfl <|
 .ret (.out (decide (a0.1 > a1))))) fun y16 =>
 .br y16
 (.ret false)
 (.lit 3001 (1) <|
 .known true <|
 .cut 1 (fun (y18 : Bool) => ⟨[(1, pz a1), (2, .ptr 0 0), (5, pz 1), (22, .pure (.bool y18))], [(0, .box [pz a0.1, pz a0.2.1, pz a0.2.2])], [], 1⟩)
 (.ix 1 3 rfl <|
 .br (decide (a0.2.1 < (IntKind.i64.wrap (0 - a1))))
 (.ret (.out true))
 (.ix 1 3 rfl <|
 .ret (.out (decide (a0.2.1 > a1))))) fun y18 =>
 .br y18
 (.ret false)
 (.lit 3001 (2) <|
 .known true <|
 .cut 1 (fun (y20 : Bool) => ⟨[(1, pz a1), (2, .ptr 0 0), (5, pz 2), (22, .pure (.bool y20))], [(0, .box [pz a0.1, pz a0.2.1, pz a0.2.2])], [], 1⟩)
 (.ix 2 3 rfl <|
 .br (decide (a0.2.2 < (IntKind.i64.wrap (0 - a1))))
 (.ret (.out true))
 (.ix 2 3 rfl <|
 .ret (.out (decide (a0.2.2 > a1))))) fun y20 =>
 .br y20
 (.ret false)
 (.lit 3001 (3) <|
 .known false <|
 .ret true)))
noncomputable def vz3 (a0 : (Int × Int × Int)) (a1 : Int) : CallS Bool :=
  mkC [] hd Tryz.func148 (by kernel_rfl) (vz4 a0 a1) 0 [.pure (az1 a0), pz a1] [] (fun r => .pure (.bool r)) (fun _ => []) (by kernel_rfl)
noncomputable def szh (a0 : Int) : T Int :=
 .br (a0 == 0)
 (.ret 0)
 (.cut 0 (fun (y2 : Bool) => ⟨[(6, .pure (.bool y2))], [], [], 0⟩)
 (.br (a0 == 1)
 (.ret (.out (a0 == 1)))
 (.br (a0 == 2)
 (.ret (.out (a0 == 2)))
 (.ret (.out (a0 == 3))))) fun y2 =>
 .br y2
 (.ret 524288)
 (.ret 4194304))
noncomputable def yzg (a0 : Int) : CallS Int :=
  mkC [] hd Tryz.func196 (by kernel_rfl) (szh a0) 0 [pz a0] [] (fun r => pz r) (fun _ => []) (by kernel_rfl)
noncomputable def nzu (a0 : Int) (a1 : Int) (a2 : Int) : T Bool :=
 .br (decide (a1 ≤ a0))
 (.ret (decide (a0 ≤ a2)))
 (.ret false)
noncomputable def ezl (a0 : Int) (a1 : Int) (a2 : Int) : CallS Bool :=
  mkC [] hd Tryz.func147 (by kernel_rfl) (nzu a0 a1 a2) 0 [pz a0, pz a1, pz a2] [] (fun r => .pure (.bool r)) (fun _ => []) (by kernel_rfl)
set_option maxHeartbeats 8000000 in
set_option maxRecDepth 20000 in
noncomputable def izg (a0 : (List azk)) (a1 : Int) : T Int :=
 .grd (0 ≤ a1 ∧ a1 < ((a0.length : Nat) : Int)) <|
 .call (Azv ((a0.getD ((a1).toNat) default).Name)) [] fun y4 =>
 .br (!y4)
 (.ret 802)
 (.loop (fun (x9 : Int) => ⟨[(0, .pure (encL 12 az9 a0)), (1, pz a1), (5, .ptr 0 0), (6, pz x9)], [(0, .box [.pure (.str ((a0.getD ((a1).toNat) default).Name)), pz ((a0.getD ((a1).toNat) default).Kind), pz ((a0.getD ((a1).toNat) default).Parent), pz ((a0.getD ((a1).toNat) default).Offset.1), pz ((a0.getD ((a1).toNat) default).Offset.2.1), pz ((a0.getD ((a1).toNat) default).Offset.2.2), pz ((a0.getD ((a1).toNat) default).Lo), pz ((a0.getD ((a1).toNat) default).Hi), pz ((a0.getD ((a1).toNat) default).Weight), pz ((a0.getD ((a1).toNat) default).Speed), pz ((a0.getD ((a1).toNat) default).Accel), pz ((a0.getD ((a1).toNat) default).Torque)])], [], 1⟩)
 (.exit 0) (fun (_ : U0) => ⟨[(1, pz a1), (5, .ptr 0 0)], [(0, .box [.pure (.str ((a0.getD ((a1).toNat) default).Name)), pz ((a0.getD ((a1).toNat) default).Kind), pz ((a0.getD ((a1).toNat) default).Parent), pz ((a0.getD ((a1).toNat) default).Offset.1), pz ((a0.getD ((a1).toNat) default).Offset.2.1), pz ((a0.getD ((a1).toNat) default).Offset.2.2), pz ((a0.getD ((a1).toNat) default).Lo), pz ((a0.getD ((a1).toNat) default).Hi), pz ((a0.getD ((a1).toNat) default).Weight), pz ((a0.getD ((a1).toNat) default).Speed), pz ((a0.getD ((a1).toNat) default).Accel), pz ((a0.getD ((a1).toNat) default).Torque)])], [], 1⟩)
 (fun x9 => .br (decide (x9 < a1))
 (.grd (0 ≤ x9 ∧ x9 < ((a0.length : Nat) : Int)) <|
 .br (((a0.getD ((x9).toNat) default).Name) == ((a0.getD ((a1).toNat) default).Name))
 (.ret (.fin 802))
 (.ret (.next (IntKind.i64.wrap (x9 + 1)))))
 (.ret (.out .u)))
 0 [] fun _ =>
 .cut 1 (fun (y12 : Bool) => ⟨[(1, pz a1), (5, .ptr 0 0), (36, .pure (.bool y12))], [(0, .box [.pure (.str ((a0.getD ((a1).toNat) default).Name)), pz ((a0.getD ((a1).toNat) default).Kind), pz ((a0.getD ((a1).toNat) default).Parent), pz ((a0.getD ((a1).toNat) default).Offset.1), pz ((a0.getD ((a1).toNat) default).Offset.2.1), pz ((a0.getD ((a1).toNat) default).Offset.2.2), pz ((a0.getD ((a1).toNat) default).Lo), pz ((a0.getD ((a1).toNat) default).Hi), pz ((a0.getD ((a1).toNat) default).Weight), pz ((a0.getD ((a1).toNat) default).Speed), pz ((a0.getD ((a1).toNat) default).Accel), pz ((a0.getD ((a1).toNat) default).Torque)])], [], 1⟩)
 (.br (decide (((a0.getD ((a1).toNat) default).Kind) < 0))
 (.ret (.out true))
 (.ret (.out (decide (((a0.getD ((a1).toNat) default).Kind) > 6))))) fun y12 =>
 .br y12
 (.ret 803)
 (.cut 1 (fun (y14 : Bool) => ⟨[(5, .ptr 0 0), (45, .pure (.bool y14))], [(0, .box [.pure (.str ((a0.getD ((a1).toNat) default).Name)), pz ((a0.getD ((a1).toNat) default).Kind), pz ((a0.getD ((a1).toNat) default).Parent), pz ((a0.getD ((a1).toNat) default).Offset.1), pz ((a0.getD ((a1).toNat) default).Offset.2.1), pz ((a0.getD ((a1).toNat) default).Offset.2.2), pz ((a0.getD ((a1).toNat) default).Lo), pz ((a0.getD ((a1).toNat) default).Hi), pz ((a0.getD ((a1).toNat) default).Weight), pz ((a0.getD ((a1).toNat) default).Speed), pz ((a0.getD ((a1).toNat) default).Accel), pz ((a0.getD ((a1).toNat) default).Torque)])], [], 1⟩)
 (.br (decide (((a0.getD ((a1).toNat) default).Parent) < (-1)))
 (.ret (.out true))
 (.ret (.out (decide (((a0.getD ((a1).toNat) default).Parent) ≥ a1))))) fun y14 =>
 .br y14
 (.ret 804)
 (.call (vz3 ((a0.getD ((a1).toNat) default).Offset) 4194304) [] fun y18 =>
 .br (!y18)
 (.ret 805)
 (.call (yzg ((a0.getD ((a1).toNat) default).Kind)) [] fun y23 =>
 .cut 0 (fun (y24 : Bool) => ⟨[(5, .ptr 0 0), (70, .pure (.bool y24))], [(0, .box [.pure (.str ((a0.getD ((a1).toNat) default).Name)), pz ((a0.getD ((a1).toNat) default).Kind), pz ((a0.getD ((a1).toNat) default).Parent), pz ((a0.getD ((a1).toNat) default).Offset.1), pz ((a0.getD ((a1).toNat) default).Offset.2.1), pz ((a0.getD ((a1).toNat) default).Offset.2.2), pz ((a0.getD ((a1).toNat) default).Lo), pz ((a0.getD ((a1).toNat) default).Hi), pz ((a0.getD ((a1).toNat) default).Weight), pz ((a0.getD ((a1).toNat) default).Speed), pz ((a0.getD ((a1).toNat) default).Accel), pz ((a0.getD ((a1).toNat) default).Torque)])], [], 1⟩)
 (.br (decide (((a0.getD ((a1).toNat) default).Lo) > ((a0.getD ((a1).toNat) default).Hi)))
 (.ret (.out true))
 (.br (decide (((a0.getD ((a1).toNat) default).Lo) < (IntKind.i64.wrap (0 - y23))))
 (.ret (.out true))
 (.ret (.out (decide (((a0.getD ((a1).toNat) default).Hi) > y23)))))) fun y24 =>
 .br y24
 (.ret 806)
 (.cut 1 (fun (y46 : Bool) => ⟨[(92, .pure (.bool y46))], [], [], 0⟩)
 (.call (ezl ((a0.getD ((a1).toNat) default).Weight) 1 1024) [] fun y47 =>
 .br (!y47)
 (.ret (.out true))
 (.call (ezl ((a0.getD ((a1).toNat) default).Speed) 1 1048576) [] fun y48 =>
 .br (!y48)
 (.ret (.out true))
 (.call (ezl ((a0.getD ((a1).toNat) default).Accel) 1 1048576) [] fun y49 =>
 .br (!y49)
 (.ret (.out true))
 (.call (ezl ((a0.getD ((a1).toNat) default).Torque) 1 1099511627776) [] fun y50 =>
 .ret (.out (!y50)))))) fun y46 =>
 .br y46
 (.ret 807)
 (.ret 0))))))
noncomputable def ozk (a0 : (List azk)) (a1 : Int) : CallS Int :=
  mkC [] hd Tryz.func146 (by kernel_rfl) (izg a0 a1) 0 [.pure (encL 12 az9 a0), pz a1] [] (fun r => pz r) (fun _ => []) (by kernel_rfl)
noncomputable def izf (a0 : azj) : T Int :=
 .cut 2 (fun (y2 : Bool) => ⟨[(1, .ptr 0 0), (16, .pure (.bool y2))], [(0, .box [.pure (encL 12 az9 a0.Joints), .pure (encL 5 azg a0.Masses)])], [], 1⟩)
 (.br (decide (((a0.Joints.length : Nat) : Int) < 1))
 (.ret (.out true))
 (.ret (.out (decide (((a0.Joints.length : Nat) : Int) > 10))))) fun y2 =>
 .br y2
 (.ret 801)
 (.loop (fun (x23 : Int) => ⟨[(1, .ptr 0 0), (3, pz x23)], [(0, .box [.pure (encL 12 az9 a0.Joints), .pure (encL 5 azg a0.Masses)])], [], 1⟩)
 (.exit 0) (fun (_ : U0) => ⟨[(1, .ptr 0 0)], [(0, .box [.pure (encL 12 az9 a0.Joints), .pure (encL 5 azg a0.Masses)])], [], 1⟩)
 (fun x23 => .br (decide (x23 < ((a0.Joints.length : Nat) : Int)))
 (.call (ozk a0.Joints x23) [] fun y32 =>
 .br (y32 != 0)
 (.ret (.fin y32))
 (.ret (.next (IntKind.i64.wrap (x23 + 1)))))
 (.ret (.out .u)))
 0 [] fun _ =>
 .br (decide (((a0.Masses.length : Nat) : Int) > 32))
 (.ret 808)
 (.loop (fun (x93 : Int) => ⟨[(1, .ptr 0 0), (5, pz x93)], [(0, .box [.pure (encL 12 az9 a0.Joints), .pure (encL 5 azg a0.Masses)])], [], 1⟩)
 (.exit 2) (fun (_ : U0) => ⟨[], [], [], 0⟩)
 (fun x93 => .br (decide (x93 < ((a0.Masses.length : Nat) : Int)))
 (.grd (0 ≤ x93 ∧ x93 < ((a0.Masses.length : Nat) : Int)) <|
 .cut 0 (fun (y120 : Bool) => ⟨[(1, .ptr 0 0), (5, pz x93), (69, .pure (.bool y120))], [(0, .box [.pure (encL 12 az9 a0.Joints), .pure (encL 5 azg a0.Masses)])], [], 1⟩)
 (.br (decide (((a0.Masses.getD ((x93).toNat) default).Link) < 0))
 (.ret (.out true))
 (.br (decide (((a0.Masses.getD ((x93).toNat) default).Link) ≥ ((a0.Joints.length : Nat) : Int)))
 (.ret (.out true))
 (.call (ezl ((a0.Masses.getD ((x93).toNat) default).Mass) 1 65536) [] fun y121 =>
 .br (!y121)
 (.ret (.out true))
 (.call (vz3 ((a0.Masses.getD ((x93).toNat) default).Point) 4194304) [] fun y122 =>
 .ret (.out (!y122)))))) fun y120 =>
 .br y120
 (.ret (.fin 808))
 (.ret (.next (IntKind.i64.wrap (x93 + 1)))))
 (.ret (.out .u)))
 0 [] fun _ =>
 .ret 0))
noncomputable def ozj (a0 : azj) : CallS Int :=
  mkC [] hd Tryz.func95 (by kernel_rfl) (izf a0) 0 [.pure (ez1 a0)] [] (fun r => pz r) (fun _ => []) (by kernel_rfl)
noncomputable def nzr (a0 : azj) (a1 : (List Int)) : T Bool :=
 .cut 2 (fun (y7 : Bool) => ⟨[(1, .pure (encL 1 az3 a1)), (2, .ptr 0 0), (16, .pure (.bool y7))], [(0, .box [.pure (encL 12 az9 a0.Joints), .pure (encL 5 azg a0.Masses)])], [], 1⟩)
 (.call (ozj (⟨a0.Joints, a0.Masses⟩ : azj)) [] fun y8 =>
 .br (y8 != 0)
 (.ret (.out true))
 (.ret (.out (((a1.length : Nat) : Int) != ((a0.Joints.length : Nat) : Int))))) fun y7 =>
 .br y7
 (.ret false)
 (.loop (fun (x21 : Int) => ⟨[(1, .pure (encL 1 az3 a1)), (2, .ptr 0 0), (5, pz x21)], [(0, .box [.pure (encL 12 az9 a0.Joints), .pure (encL 5 azg a0.Masses)])], [], 1⟩)
 (.exit 0) (fun (_ : U0) => ⟨[], [], [], 0⟩)
 (fun x21 => .br (decide (x21 < ((a1.length : Nat) : Int)))
 (.cut 1 (fun (y26 : Bool) => ⟨[(1, .pure (encL 1 az3 a1)), (2, .ptr 0 0), (5, pz x21), (46, .pure (.bool y26))], [(0, .box [.pure (encL 12 az9 a0.Joints), .pure (encL 5 azg a0.Masses)])], [], 1⟩)
 (.grd (0 ≤ x21 ∧ x21 < ((a1.length : Nat) : Int)) <|
 .grd (0 ≤ x21 ∧ x21 < ((a0.Joints.length : Nat) : Int)) <|
 .br (decide ((a1.getD ((x21).toNat) default) < ((a0.Joints.getD ((x21).toNat) default).Lo)))
 (.ret (.out true))
 (.grd (0 ≤ x21 ∧ x21 < ((a1.length : Nat) : Int)) <|
 .grd (0 ≤ x21 ∧ x21 < ((a0.Joints.length : Nat) : Int)) <|
 .ret (.out (decide ((a1.getD ((x21).toNat) default) > ((a0.Joints.getD ((x21).toNat) default).Hi)))))) fun y26 =>
 .br y26
 (.ret (.fin false))
 (.ret (.next (IntKind.i64.wrap (x21 + 1)))))
 (.ret (.out .u)))
 0 [] fun _ =>
 .ret true)
noncomputable def uz5 (a0 : azj) (a1 : (List Int)) : CallS Bool :=
  mkC [] hd Tryz.func35 (by kernel_rfl) (nzr a0 a1) 0 [.pure (ez1 a0), .pure (encL 1 az3 a1)] [] (fun r => .pure (.bool r)) (fun _ => []) (by kernel_rfl)
noncomputable def gz0 (a0 : (List Int)) (a1 : (List Int)) (a2 : Int) (a3 : Int) (a4 : Int) (a5 : Int) (a6 : azy) : T Bool :=
 .call (gzu a0 a1 a2) [] fun y2 =>
 .call (gz7 y2.1 y2.2.1 y2.2.2) [] fun y4 =>
 .call (gz8 y2.1 y4.1) [] fun y9 =>
 .br (y9.2 != 0)
 (.call (law22_awake_C) [] fun y10 =>
 .ret y10)
 (.cut 1 (fun (y12 : Bool) => ⟨[(3, pz a3), (4, pz a4), (5, pz a5), (13, .ptr 0 0), (15, .ptr 1 0), (18, .ptr 2 0), (70, .pure (.bool y12))], [(0, .box [pz a6.Pair, .pure (encL 1 az3 a6.Left), .pure (encL 1 az3 a6.Right)]), (1, .box [.pure (encL 12 az9 y2.1.Robot.Joints), .pure (encL 5 azg y2.1.Robot.Masses), .pure (encL 3 aze y2.1.Shapes), .pure (encL 2 azn y2.1.Skips)]), (2, .box [.pure (encL 1 (encL 1 az3) y4.1.Points), .pure (encL 2 dz7 y4.1.Edges)])], [], 3⟩)
 (.br (((y4.1.Edges.length : Nat) : Int) == 0)
 (.ret (.out true))
 (.ret (.out (((y4.1.Points.length : Nat) : Int) != (IntKind.i64.wrap (((y4.1.Edges.length : Nat) : Int) + 1)))))) fun y12 =>
 .br y12
 (.ret false)
 (.call (gz6 a3 ((y4.1.Edges.length : Nat) : Int)) [] fun y14 =>
 .call (gz6 a4 21) [] fun y16 =>
 .grd (0 ≤ (IntKind.u64.wrap y16)) <|
 .call (gz6 a5 (IntKind.i64.wrap ((IntKind.i64.wrap (1 * 2 ^ (min ((IntKind.u64.wrap y16)).toNat 64))) + 1))) [] fun y18 =>
 .grd (0 ≤ y14 ∧ y14 < ((y4.1.Points.length : Nat) : Int)) <|
 .grd (0 ≤ (IntKind.i64.wrap (y14 + 1)) ∧ (IntKind.i64.wrap (y14 + 1)) < ((y4.1.Points.length : Nat) : Int)) <|
 .call (Czm (y4.1.Points.getD ((y14).toNat) default) (y4.1.Points.getD (((IntKind.i64.wrap (y14 + 1))).toNat) default) y16 y18) [] fun y20 =>
 .grd (0 ≤ y14 ∧ y14 < ((y4.1.Edges.length : Nat) : Int)) <|
 .call (ezg (y4.1.Edges.getD ((y14).toNat) default)) [] fun y22 =>
 .loop (fun (x49 : (Bool × Int)) => ⟨[(13, .ptr 0 0), (15, .ptr 1 0), (26, .pure (encL 1 az3 y20.1)), (27, .pure (.bool y20.2)), (28, .pure (encL 3 azh y22.1)), (29, .pure (.bool y22.2)), (30, .pure (.bool x49.1)), (31, pz x49.2)], [(0, .box [pz a6.Pair, .pure (encL 1 az3 a6.Left), .pure (encL 1 az3 a6.Right)]), (1, .box [.pure (encL 12 az9 y2.1.Robot.Joints), .pure (encL 5 azg y2.1.Robot.Masses), .pure (encL 3 aze y2.1.Shapes), .pure (encL 2 azn y2.1.Skips)])], [], 2⟩)
 (.exit 0) (fun (y57 : Bool) => ⟨[(13, .ptr 0 0), (15, .ptr 1 0), (26, .pure (encL 1 az3 y20.1)), (27, .pure (.bool y20.2)), (29, .pure (.bool y22.2)), (30, .pure (.bool y57))], [(0, .box [pz a6.Pair, .pure (encL 1 az3 a6.Left), .pure (encL 1 az3 a6.Right)]), (1, .box [.pure (encL 12 az9 y2.1.Robot.Joints), .pure (encL 5 azg y2.1.Robot.Masses), .pure (encL 3 aze y2.1.Shapes), .pure (encL 2 azn y2.1.Skips)])], [], 2⟩)
 (fun x49 => .br (decide (x49.2 < ((y22.1.length : Nat) : Int)))
 (.cut 0 (fun (y62 : Bool) => ⟨[(13, .ptr 0 0), (15, .ptr 1 0), (26, .pure (encL 1 az3 y20.1)), (27, .pure (.bool y20.2)), (28, .pure (encL 3 azh y22.1)), (29, .pure (.bool y22.2)), (30, .pure (.bool y62)), (31, pz x49.2)], [(0, .box [pz a6.Pair, .pure (encL 1 az3 a6.Left), .pure (encL 1 az3 a6.Right)]), (1, .box [.pure (encL 12 az9 y2.1.Robot.Joints), .pure (encL 5 azg y2.1.Robot.Masses), .pure (encL 3 aze y2.1.Shapes), .pure (encL 2 azn y2.1.Skips)])], [], 2⟩)
 (.br x49.1
 (.ret (.out true))
 (.call (pzr y20.1) [] fun y63 =>
 .grd (0 ≤ x49.2 ∧ x49.2 < ((y22.1.length : Nat) : Int)) <|
 .call (dzv y2.1 y63 ((y22.1.getD ((x49.2).toNat) default).Normals)) [] fun y64 =>
 .ret (.out y64))) fun y62 =>
 .ret (.next (y62, (IntKind.i64.wrap (x49.2 + 1)))))
 (.ret (.out x49.1)))
 (false, 0) [] fun y57 =>
 .call (law22_awake_C) [] fun y65 =>
 .br y65
 (.br y20.2
 (.br y22.2
 (.br y57
 (.call (uz5 y2.1.Robot y20.1) [] fun y66 =>
 .br y66
 (.call (pzr y20.1) [] fun y67 =>
 .call (fzn y2.1 y67 a6) [] fun y68 =>
 .ret (!y68))
 (.ret false))
 (.ret false))
 (.ret false))
 (.ret false))
 (.ret false)))
noncomputable def cz0 (a0 : (List Int)) (a1 : (List Int)) (a2 : Int) (a3 : Int) (a4 : Int) (a5 : Int) (a6 : azy) : CallS Bool :=
  mkC [] hd Tryz.func8 (by kernel_rfl) (gz0 a0 a1 a2 a3 a4 a5 a6) 0 [.pure (encL 1 az3 a0), .pure (encL 1 az3 a1), pz a2, pz a3, pz a4, pz a5, .pure (zzw a6)] [] (fun r => .pure (.bool r)) (fun _ => []) (by kernel_rfl)
noncomputable def uzz (a0 : Int) (a1 : Int) : T Int :=
 .grd (a1 ≠ 0) <|
 .cut 0 (fun (y1 : Int) => ⟨[(5, pz y1)], [], [], 0⟩)
 (.grd (a1 ≠ 0) <|
 .br (decide ((a0.tmod a1) > 0))
 (.ret (.out (IntKind.i64.wrap ((IntKind.i64.wrap (a0.tdiv a1)) + 1))))
 (.ret (.out (IntKind.i64.wrap (a0.tdiv a1))))) fun y1 =>
 .ret y1
noncomputable def gz2 (a0 : Int) (a1 : Int) : CallS Int :=
  mkC [] hd Tryz.func232 (by kernel_rfl) (uzz a0 a1) 0 [pz a0, pz a1] [] (fun r => pz r) (fun _ => []) (by kernel_rfl)
open Go.Proofs
noncomputable def lzo (a0 : (az0 × az0 × az0)) : T Bool :=
 .unroll 4 <|
 .known true <|
 .cut 1 (fun (y16 : Bool) => ⟨[(1, .ptr 0 0), (3, pz 0), (30, .pure (.bool y16))], [(0, .box [pz a0.1.Lo, pz a0.1.Hi, pz a0.2.1.Lo, pz a0.2.1.Hi, pz a0.2.2.Lo, pz a0.2.2.Hi])], [], 1⟩)
 (.ix 0 3 rfl <|
 .br (decide (a0.1.Lo < (-268435456)))
 (.ret (.out true))
 (.ix 0 3 rfl <|
 .ix 0 3 rfl <|
 .br (decide (a0.1.Lo > a0.1.Hi))
 (.ret (.out true))
 (.ix 0 3 rfl <|
 .ret (.out (decide (a0.1.Hi > 268435456)))))) fun y16 =>
 .br y16
 (.ret false)
 (.lit 3001 (1) <|
 .known true <|
 .cut 1 (fun (y18 : Bool) => ⟨[(1, .ptr 0 0), (3, pz 1), (30, .pure (.bool y18))], [(0, .box [pz a0.1.Lo, pz a0.1.Hi, pz a0.2.1.Lo, pz a0.2.1.Hi, pz a0.2.2.Lo, pz a0.2.2.Hi])], [], 1⟩)
 (.ix 1 3 rfl <|
 .br (decide (a0.2.1.Lo < (-268435456)))
 (.ret (.out true))
 (.ix 1 3 rfl <|
 .ix 1 3 rfl <|
 .br (decide (a0.2.1.Lo > a0.2.1.Hi))
 (.ret (.out true))
 (.ix 1 3 rfl <|
 .ret (.out (decide (a0.2.1.Hi > 268435456)))))) fun y18 =>
 .br y18
 (.ret false)
 (.lit 3001 (2) <|
 .known true <|
 .cut 1 (fun (y20 : Bool) => ⟨[(1, .ptr 0 0), (3, pz 2), (30, .pure (.bool y20))], [(0, .box [pz a0.1.Lo, pz a0.1.Hi, pz a0.2.1.Lo, pz a0.2.1.Hi, pz a0.2.2.Lo, pz a0.2.2.Hi])], [], 1⟩)
 (.ix 2 3 rfl <|
 .br (decide (a0.2.2.Lo < (-268435456)))
 (.ret (.out true))
 (.ix 2 3 rfl <|
 .ix 2 3 rfl <|
 .br (decide (a0.2.2.Lo > a0.2.2.Hi))
 (.ret (.out true))
 (.ix 2 3 rfl <|
 .ret (.out (decide (a0.2.2.Hi > 268435456)))))) fun y20 =>
 .br y20
 (.ret false)
 (.lit 3001 (3) <|
 .known false <|
 .ret true)))
noncomputable def szd (a0 : (az0 × az0 × az0)) : CallS Bool :=
  mkC [] hd Tryz.func295 (by kernel_rfl) (lzo a0) 0 [.pure (az2 a0)] [] (fun r => .pure (.bool r)) (fun _ => []) (by kernel_rfl)
noncomputable def nzs (a0 : (List (az0 × az0 × az0))) : T Bool :=
 .loop (fun (x29 : Int) => ⟨[(0, .pure (encL 6 az2 a0)), (3, pz x29)], [], [], 0⟩)
 (.exit 0) (fun (_ : U0) => ⟨[(0, .pure (encL 6 az2 a0))], [], [], 0⟩)
 (fun x29 => .cut 1 (fun (y38 : Bool) => ⟨[(0, .pure (encL 6 az2 a0)), (3, pz x29), (11, .pure (.bool y38))], [], [], 0⟩)
 (.br (decide (x29 < ((a0.length : Nat) : Int)))
 (.ret (.out (decide (x29 ≤ 8))))
 (.ret (.out false))) fun y38 =>
 .br y38
 (.grd (0 ≤ x29 ∧ x29 < ((a0.length : Nat) : Int)) <|
 .call (szd (a0.getD ((x29).toNat) default)) [] fun y42 =>
 .br (!y42)
 (.ret (.fin false))
 (.ret (.next (IntKind.i64.wrap (x29 + 1)))))
 (.ret (.out .u)))
 0 [] fun _ =>
 .br (decide (((a0.length : Nat) : Int) ≥ 1))
 (.ret (decide (((a0.length : Nat) : Int) ≤ 8)))
 (.ret false)
noncomputable def uz6 (a0 : (List (az0 × az0 × az0))) : CallS Bool :=
  mkC [] hd Tryz.func266 (by kernel_rfl) (nzs a0) 0 [.pure (encL 6 az2 a0)] [] (fun r => .pure (.bool r)) (fun _ => []) (by kernel_rfl)
noncomputable def fzu (a0 : Int) : T Bool :=
 .br (decide (a0 ≥ 0))
 (.ret (decide (a0 ≤ 1048576)))
 (.ret false)
noncomputable def jz2 (a0 : Int) : CallS Bool :=
  mkC [] hd Tryz.func291 (by kernel_rfl) (fzu a0) 0 [pz a0] [] (fun r => .pure (.bool r)) (fun _ => []) (by kernel_rfl)
noncomputable def vz1 (a0 : Int) : T Int :=
 .br (decide (a0 < 1))
 (.ret 0)
 (.loop (fun (x5 : (Int × Int)) => ⟨[(0, pz a0), (3, pz x5.1), (4, pz x5.2)], [], [], 0⟩)
 (.exit 0) (fun (y6 : Int) => ⟨[(3, pz y6)], [], [], 0⟩)
 (fun x5 => .br (decide ((IntKind.i64.wrap (x5.2 - x5.1)) > 1))
 (.ok ((2 : Int) ≠ 0) (by decide) <|
 .grd ((IntKind.i64.wrap (x5.1 + (IntKind.i64.wrap ((IntKind.i64.wrap (x5.2 - x5.1)).tdiv 2)))) ≠ 0) <|
 .br (decide ((IntKind.i64.wrap (x5.1 + (IntKind.i64.wrap ((IntKind.i64.wrap (x5.2 - x5.1)).tdiv 2)))) ≤ (IntKind.i64.wrap (a0.tdiv (IntKind.i64.wrap (x5.1 + (IntKind.i64.wrap ((IntKind.i64.wrap (x5.2 - x5.1)).tdiv 2))))))))
 (.ret (.next ((IntKind.i64.wrap (x5.1 + (IntKind.i64.wrap ((IntKind.i64.wrap (x5.2 - x5.1)).tdiv 2)))), x5.2)))
 (.ret (.next (x5.1, (IntKind.i64.wrap (x5.1 + (IntKind.i64.wrap ((IntKind.i64.wrap (x5.2 - x5.1)).tdiv 2))))))))
 (.ret (.out x5.1)))
 (1, 4294967296) [] fun y6 =>
 .ret y6)
noncomputable def pzu (a0 : Int) : CallS Int :=
  mkC [] hd Tryz.func316 (by kernel_rfl) (vz1 a0) 0 [pz a0] [] (fun r => pz r) (fun _ => []) (by kernel_rfl)
set_option maxHeartbeats 8000000 in
set_option maxRecDepth 20000 in
noncomputable def lzm (a0 : (List (az0 × az0 × az0))) (a1 : (List Int)) : T ((az0 × az0 × az0) × Int × Bool) :=
 .cut 2 (fun (y447 : Bool) => ⟨[(0, .pure (encL 6 az2 a0)), (1, .pure (encL 1 az3 a1)), (4, .ptr 0 0), (21, .pure (.bool y447))], [(0, .box [pz 0, pz 0, pz 0, pz 0, pz 0, pz 0])], [], 1⟩)
 (.call (uz6 a0) [] fun y448 =>
 .br (!y448)
 (.ret (.out true))
 (.ret (.out (((a1.length : Nat) : Int) != ((a0.length : Nat) : Int))))) fun y447 =>
 .br y447
 (.ret (((⟨0, 0⟩ : az0), (⟨0, 0⟩ : az0), (⟨0, 0⟩ : az0)), 0, false))
 (.loop (fun (x469 : (Int × Int)) => ⟨[(0, .pure (encL 6 az2 a0)), (1, .pure (encL 1 az3 a1)), (4, .ptr 0 0), (7, pz x469.1), (8, pz x469.2)], [(0, .box [pz 0, pz 0, pz 0, pz 0, pz 0, pz 0])], [], 1⟩)
 (.exit 0) (fun (y474 : Int) => ⟨[(0, .pure (encL 6 az2 a0)), (1, .pure (encL 1 az3 a1)), (4, .ptr 0 0), (7, pz y474)], [(0, .box [pz 0, pz 0, pz 0, pz 0, pz 0, pz 0])], [], 1⟩)
 (fun x469 => .br (decide (x469.2 < ((a1.length : Nat) : Int)))
 (.cut 2 (fun (y478 : Bool) => ⟨[(0, .pure (encL 6 az2 a0)), (1, .pure (encL 1 az3 a1)), (4, .ptr 0 0), (7, pz x469.1), (8, pz x469.2), (42, .pure (.bool y478))], [(0, .box [pz 0, pz 0, pz 0, pz 0, pz 0, pz 0])], [], 1⟩)
 (.grd (0 ≤ x469.2 ∧ x469.2 < ((a1.length : Nat) : Int)) <|
 .br (decide ((a1.getD ((x469.2).toNat) default) < 0))
 (.ret (.out true))
 (.grd (0 ≤ x469.2 ∧ x469.2 < ((a1.length : Nat) : Int)) <|
 .ret (.out (decide ((a1.getD ((x469.2).toNat) default) > (IntKind.i64.wrap (65536 - x469.1))))))) fun y478 =>
 .br y478
 (.ret (.fin (((⟨0, 0⟩ : az0), (⟨0, 0⟩ : az0), (⟨0, 0⟩ : az0)), 0, false)))
 (.grd (0 ≤ x469.2 ∧ x469.2 < ((a1.length : Nat) : Int)) <|
 .ret (.next ((IntKind.i64.wrap (x469.1 + (a1.getD ((x469.2).toNat) default))), (IntKind.i64.wrap (x469.2 + 1))))))
 (.ret (.out x469.1)))
 (0, 0) [] fun y474 =>
 .br (decide (y474 < 1))
 (.ret (((⟨0, 0⟩ : az0), (⟨0, 0⟩ : az0), (⟨0, 0⟩ : az0)), 0, false))
 (.loop (fun (x883 : (Int × Int × Int × Int × Int × Int × Int)) => ⟨[(0, .pure (encL 6 az2 a0)), (1, .pure (encL 1 az3 a1)), (4, .ptr 0 0), (7, pz y474), (9, .ptr 1 0), (10, pz x883.2.2.2.2.2.2)], [(0, .box [pz 0, pz 0, pz 0, pz 0, pz 0, pz 0]), (1, .box [pz x883.1, pz x883.2.1, pz x883.2.2.1, pz x883.2.2.2.1, pz x883.2.2.2.2.1, pz x883.2.2.2.2.2.1])], [], 2⟩)
 (.exit 2) (fun (y984 : (Int × Int × Int × Int × Int × Int)) => ⟨[(4, .ptr 0 0), (7, pz y474), (9, .ptr 1 0)], [(0, .box [pz 0, pz 0, pz 0, pz 0, pz 0, pz 0]), (1, .box [pz y984.1, pz y984.2.1, pz y984.2.2.1, pz y984.2.2.2.1, pz y984.2.2.2.2.1, pz y984.2.2.2.2.2])], [], 2⟩)
 (fun x883 => .br (decide (x883.2.2.2.2.2.2 < ((a0.length : Nat) : Int)))
 (.unroll 4 <|
 .known true <|
 .ix 0 3 rfl <|
 .grd (0 ≤ x883.2.2.2.2.2.2 ∧ x883.2.2.2.2.2.2 < ((a1.length : Nat) : Int)) <|
 .grd (0 ≤ x883.2.2.2.2.2.2 ∧ x883.2.2.2.2.2.2 < ((a0.length : Nat) : Int)) <|
 .ix 0 3 rfl <|
 .name 19015 ((IntKind.i64.wrap ((a1.getD ((x883.2.2.2.2.2.2).toNat) default) * ((a0.getD ((x883.2.2.2.2.2.2).toNat) default).1.Lo)))) fun z1057 =>
 .name 19016 ((IntKind.i64.wrap (x883.1 + z1057))) fun z1058 =>
 .ix 0 3 rfl <|
 .ix 0 3 rfl <|
 .grd (0 ≤ x883.2.2.2.2.2.2 ∧ x883.2.2.2.2.2.2 < ((a1.length : Nat) : Int)) <|
 .grd (0 ≤ x883.2.2.2.2.2.2 ∧ x883.2.2.2.2.2.2 < ((a0.length : Nat) : Int)) <|
 .ix 0 3 rfl <|
 .name 20015 ((IntKind.i64.wrap ((a1.getD ((x883.2.2.2.2.2.2).toNat) default) * ((a0.getD ((x883.2.2.2.2.2.2).toNat) default).1.Hi)))) fun z1059 =>
 .name 20016 ((IntKind.i64.wrap (x883.2.1 + z1059))) fun z1060 =>
 .ix 0 3 rfl <|
 .lit 18001 (1) <|
 .known true <|
 .ix 1 3 rfl <|
 .grd (0 ≤ x883.2.2.2.2.2.2 ∧ x883.2.2.2.2.2.2 < ((a1.length : Nat) : Int)) <|
 .grd (0 ≤ x883.2.2.2.2.2.2 ∧ x883.2.2.2.2.2.2 < ((a0.length : Nat) : Int)) <|
 .ix 1 3 rfl <|
 .name 19015 ((IntKind.i64.wrap ((a1.getD ((x883.2.2.2.2.2.2).toNat) default) * ((a0.getD ((x883.2.2.2.2.2.2).toNat) default).2.1.Lo)))) fun z1069 =>
 .name 19016 ((IntKind.i64.wrap (x883.2.2.1 + z1069))) fun z1070 =>
 .ix 1 3 rfl <|
 .ix 1 3 rfl <|
 .grd (0 ≤ x883.2.2.2.2.2.2 ∧ x883.2.2.2.2.2.2 < ((a1.length : Nat) : Int)) <|
 .grd (0 ≤ x883.2.2.2.2.2.2 ∧ x883.2.2.2.2.2.2 < ((a0.length : Nat) : Int)) <|
 .ix 1 3 rfl <|
 .name 20015 ((IntKind.i64.wrap ((a1.getD ((x883.2.2.2.2.2.2).toNat) default) * ((a0.getD ((x883.2.2.2.2.2.2).toNat) default).2.1.Hi)))) fun z1071 =>
 .name 20016 ((IntKind.i64.wrap (x883.2.2.2.1 + z1071))) fun z1072 =>
 .ix 1 3 rfl <|
 .lit 18001 (2) <|
 .known true <|
 .ix 2 3 rfl <|
 .grd (0 ≤ x883.2.2.2.2.2.2 ∧ x883.2.2.2.2.2.2 < ((a1.length : Nat) : Int)) <|
 .grd (0 ≤ x883.2.2.2.2.2.2 ∧ x883.2.2.2.2.2.2 < ((a0.length : Nat) : Int)) <|
 .ix 2 3 rfl <|
 .name 19015 ((IntKind.i64.wrap ((a1.getD ((x883.2.2.2.2.2.2).toNat) default) * ((a0.getD ((x883.2.2.2.2.2.2).toNat) default).2.2.Lo)))) fun z1081 =>
 .name 19016 ((IntKind.i64.wrap (x883.2.2.2.2.1 + z1081))) fun z1082 =>
 .ix 2 3 rfl <|
 .ix 2 3 rfl <|
 .grd (0 ≤ x883.2.2.2.2.2.2 ∧ x883.2.2.2.2.2.2 < ((a1.length : Nat) : Int)) <|
 .grd (0 ≤ x883.2.2.2.2.2.2 ∧ x883.2.2.2.2.2.2 < ((a0.length : Nat) : Int)) <|
 .ix 2 3 rfl <|
 .name 20015 ((IntKind.i64.wrap ((a1.getD ((x883.2.2.2.2.2.2).toNat) default) * ((a0.getD ((x883.2.2.2.2.2.2).toNat) default).2.2.Hi)))) fun z1083 =>
 .name 20016 ((IntKind.i64.wrap (x883.2.2.2.2.2.1 + z1083))) fun z1084 =>
 .ix 2 3 rfl <|
 .lit 18001 (3) <|
 .known false <|
 .ret (.next (z1058, z1060, z1070, z1072, z1082, z1084, (IntKind.i64.wrap (x883.2.2.2.2.2.2 + 1)))))
 (.ret (.out (x883.1, x883.2.1, x883.2.2.1, x883.2.2.2.1, x883.2.2.2.2.1, x883.2.2.2.2.2.1))))
 (0, 0, 0, 0, 0, 0, 0) [] fun y984 =>
 .ret (((⟨y984.1, y984.2.1⟩ : az0), (⟨y984.2.2.1, y984.2.2.2.1⟩ : az0), (⟨y984.2.2.2.2.1, y984.2.2.2.2.2⟩ : az0)), y474, true)))
noncomputable def lzl (a0 : (List (az0 × az0 × az0))) (a1 : (List Int)) : CallS ((az0 × az0 × az0) × Int × Bool) :=
  mkC [] hd Tryz.func297 (by kernel_rfl) (lzm a0 a1) 0 [.pure (encL 6 az2 a0), .pure (encL 1 az3 a1)] [] (fun r => .tup [.pure (az2 r.1), pz r.2.1, .pure (.bool r.2.2)]) (fun _ => []) (by kernel_rfl)
noncomputable def Gze (a0 : Int) : T Int :=
 .ret (max a0 (IntKind.i64.wrap (0 - a0)))
noncomputable def fz1 (a0 : Int) : CallS Int :=
  mkC [] hd Tryz.func298 (by kernel_rfl) (Gze a0) 0 [pz a0] [] (fun r => pz r) (fun _ => []) (by kernel_rfl)
noncomputable def dzt (a0 : (List Int)) (a1 : (List Int)) (a2 : (List (az0 × az0 × az0))) (a3 : Int) (a4 : (List (az0 × az0 × az0))) (a5 : Int) : T (Int × Bool) :=
 .call (lzl a2 a0) [] fun y136 =>
 .call (lzl a4 a1) [] fun y138 =>
 .cut 1 (fun (y150 : Bool) => ⟨[(3, pz a3), (5, pz a5), (14, .ptr 0 0), (15, pz y136.2.1), (17, .ptr 1 0), (57, .pure (.bool y150))], [(0, .box [pz y136.1.1.Lo, pz y136.1.1.Hi, pz y136.1.2.1.Lo, pz y136.1.2.1.Hi, pz y136.1.2.2.Lo, pz y136.1.2.2.Hi]), (1, .box [pz y138.1.1.Lo, pz y138.1.1.Hi, pz y138.1.2.1.Lo, pz y138.1.2.1.Hi, pz y138.1.2.2.Lo, pz y138.1.2.2.Hi])], [], 2⟩)
 (.br (!y136.2.2)
 (.ret (.out true))
 (.br (!y138.2.2)
 (.ret (.out true))
 (.br (y136.2.1 != y138.2.1)
 (.ret (.out true))
 (.call (jz2 a3) [] fun y151 =>
 .br (!y151)
 (.ret (.out true))
 (.call (jz2 a5) [] fun y152 =>
 .ret (.out (!y152))))))) fun y150 =>
 .br y150
 (.ret (0, false))
 (.unroll 4 <|
 .known true <|
 .ix 0 3 rfl <|
 .ix 0 3 rfl <|
 .call (fz1 (IntKind.i64.wrap (y136.1.1.Lo - y138.1.1.Hi))) [] fun y237 =>
 .ix 0 3 rfl <|
 .ix 0 3 rfl <|
 .call (fz1 (IntKind.i64.wrap (y136.1.1.Hi - y138.1.1.Lo))) [] fun y238 =>
 .call (gz2 (max y237 y238) y136.2.1) [] fun y239 =>
 .br (decide (y239 > (IntKind.i64.wrap (a3 + a5))))
 (.ret ((-1), true))
 (.name 12004 ((IntKind.i64.wrap ((IntKind.i64.wrap ((IntKind.i64.wrap (a3 + a5)) * (IntKind.i64.wrap (a3 + a5)))) - (IntKind.i64.wrap (y239 * y239))))) fun z240 =>
 .lit 8001 (1) <|
 .known true <|
 .ix 1 3 rfl <|
 .ix 1 3 rfl <|
 .call (fz1 (IntKind.i64.wrap (y136.1.2.1.Lo - y138.1.2.1.Hi))) [] fun y251 =>
 .ix 1 3 rfl <|
 .ix 1 3 rfl <|
 .call (fz1 (IntKind.i64.wrap (y136.1.2.1.Hi - y138.1.2.1.Lo))) [] fun y252 =>
 .call (gz2 (max y251 y252) y136.2.1) [] fun y253 =>
 .br (decide (y253 > (IntKind.i64.wrap (a3 + a5))))
 (.ret ((-1), true))
 (.name 12004 ((IntKind.i64.wrap (z240 - (IntKind.i64.wrap (y253 * y253))))) fun z254 =>
 .lit 8001 (2) <|
 .known true <|
 .ix 2 3 rfl <|
 .ix 2 3 rfl <|
 .call (fz1 (IntKind.i64.wrap (y136.1.2.2.Lo - y138.1.2.2.Hi))) [] fun y265 =>
 .ix 2 3 rfl <|
 .ix 2 3 rfl <|
 .call (fz1 (IntKind.i64.wrap (y136.1.2.2.Hi - y138.1.2.2.Lo))) [] fun y266 =>
 .call (gz2 (max y265 y266) y136.2.1) [] fun y267 =>
 .br (decide (y267 > (IntKind.i64.wrap (a3 + a5))))
 (.ret ((-1), true))
 (.name 12004 ((IntKind.i64.wrap (z254 - (IntKind.i64.wrap (y267 * y267))))) fun z268 =>
 .lit 8001 (3) <|
 .known false <|
 .ret (z268, true)))))
noncomputable def fzt (a0 : (List Int)) (a1 : (List Int)) (a2 : (List (az0 × az0 × az0))) (a3 : Int) (a4 : (List (az0 × az0 × az0))) (a5 : Int) : CallS (Int × Bool) :=
  mkC [] hd Tryz.func268 (by kernel_rfl) (dzt a0 a1 a2 a3 a4 a5) 0 [.pure (encL 1 az3 a0), .pure (encL 1 az3 a1), .pure (encL 6 az2 a2), pz a3, .pure (encL 6 az2 a4), pz a5] [] (fun r => .tup [pz r.1, .pure (.bool r.2)]) (fun _ => []) (by kernel_rfl)
noncomputable def czx (a0 : (List Int)) (a1 : (List Int)) (a2 : (List (az0 × az0 × az0))) (a3 : Int) (a4 : (List (az0 × az0 × az0))) (a5 : Int) : T Bool :=
 .call (fzt a0 a1 a2 a3 a4 a5) [] fun y2 =>
 .br y2.2
 (.ret (decide (y2.1 ≥ 0)))
 (.ret false)
noncomputable def dzh (a0 : (List Int)) (a1 : (List Int)) (a2 : (List (az0 × az0 × az0))) (a3 : Int) (a4 : (List (az0 × az0 × az0))) (a5 : Int) : CallS Bool :=
  mkC [] hd Tryz.func238 (by kernel_rfl) (czx a0 a1 a2 a3 a4 a5) 0 [.pure (encL 1 az3 a0), .pure (encL 1 az3 a1), .pure (encL 6 az2 a2), pz a3, .pure (encL 6 az2 a4), pz a5] [] (fun r => .pure (.bool r)) (fun _ => []) (by kernel_rfl)
end Go.Abs
