/-
  D3 (a part of a claim: our own text).
-/
import Derived.Test.YtnehaejghnoigaaGreatXCM2
namespace Go.Abs
open Go.Proofs
noncomputable def mzf (a0 : (List (Int × Int × Int))) (a1 : (List Int)) (a2 : (List (Int × Int × Int))) (a3 : (List Int)) (a4 : Int) (a5 : Int) (a6 : Int) (a7 : Int) (a8 : Int) (a9 : Int) : T (Int × (List (Int × Int × Int)) × (List Int) × (List (Int × Int × Int)) × (List Int) × Int × Int × Int × Int) :=
 .loop (fun (x30 : ((List Int) × (List Int) × Int × Int × Int × Int)) => ⟨[(0, .ptr 0 0), (1, pz a8), (2, pz a9)], [(0, .box [.pure (encL 3 az1 a0), .vec 1, .pure (encL 3 az1 a2), .vec 2, pz x30.2.2.1, pz x30.2.2.2.1, pz x30.2.2.2.2.1, pz x30.2.2.2.2.2]), (1, vecO 1 az3 x30.1 2), (2, vecO 1 az3 x30.2.1 2)], [], 3⟩)
 .ret (fun (_ : U0) => ⟨[], [], [], 3⟩)
 (fun x30 => .call (uzn a0 x30.1) [(0, 1)] fun y63 =>
 .call (uzn a2 x30.2.1) [(0, 2)] fun y64 =>
 .call (hz6 y63 y64) [] fun y65 =>
 .call (izj y65 a8) [] fun y69 =>
 .br y69
 (.ret (.fin (2, a0, x30.1, a2, x30.2.1, x30.2.2.1, x30.2.2.2.1, x30.2.2.2.2.1, x30.2.2.2.2.2)))
 (.ix 0 3 rfl <|
 .ok ((65536 : Int) ≠ 0) (by decide) <|
 .ix 1 3 rfl <|
 .ok ((65536 : Int) ≠ 0) (by decide) <|
 .ix 2 3 rfl <|
 .ok ((65536 : Int) ≠ 0) (by decide) <|
 .call (gza ((IntKind.i64.wrap (y65.1.tdiv 65536)), (IntKind.i64.wrap (y65.2.1.tdiv 65536)), (IntKind.i64.wrap (y65.2.2.tdiv 65536)))) [] fun y71 =>
 .br (!y71.2)
 (.ret (.fin (0, a0, x30.1, a2, x30.2.1, y71.1.1, y71.1.2.1, y71.1.2.2, x30.2.2.2.2.2)))
 (.call (tz3 a0 x30.1 y71.1) [(0, 1)] fun y73 =>
 .call (kzi a2 x30.2.1 y71.1) [(0, 2)] fun y75 =>
 .call (ozu y71.1) [] fun y79 =>
 .br (decide ((IntKind.i64.wrap (y73.1 - y75.1)) > (IntKind.i64.wrap (y79 * a8))))
 (.ret (.fin (1, a0, x30.1, a2, x30.2.1, y71.1.1, y71.1.2.1, y71.1.2.2, x30.2.2.2.2.2)))
 (.br (x30.2.2.2.2.2 == a9)
 (.ret (.fin (0, a0, x30.1, a2, x30.2.1, y71.1.1, y71.1.2.1, y71.1.2.2, x30.2.2.2.2.2)))
 (.grd (0 ≤ y73.2 ∧ y73.2 < ((a0.length : Nat) : Int)) <|
 .grd (0 ≤ y75.2 ∧ y75.2 < ((a2.length : Nat) : Int)) <|
 .call (hz6 (a0.getD ((y73.2).toNat) default) (a2.getD ((y75.2).toNat) default)) [] fun y82 =>
 .call (oz2 ((IntKind.i64.wrap (y65.1.tdiv 65536)), (IntKind.i64.wrap (y65.2.1.tdiv 65536)), (IntKind.i64.wrap (y65.2.2.tdiv 65536))) y82) [] fun y83 =>
 .br (y83 == 0)
 (.ret (.fin (0, a0, x30.1, a2, x30.2.1, y71.1.1, y71.1.2.1, y71.1.2.2, x30.2.2.2.2.2)))
 (.call (kzz a0 x30.1 y73.2 y83) [(0, 1)] fun y85 =>
 .call (kzz a2 x30.2.1 y75.2 y83) [(0, 2)] fun y87 =>
 .ret (.next (y85, y87, y71.1.1, y71.1.2.1, y71.1.2.2, (IntKind.i64.wrap (x30.2.2.2.2.2 + 1))))))))))
 (a1, a3, a4, a5, a6, a7) [] fun _ =>
 .stop
noncomputable def Dzt (a0 : (List (Int × Int × Int))) (a1 : (List Int)) (a2 : (List (Int × Int × Int))) (a3 : (List Int)) (a4 : Int) (a5 : Int) (a6 : Int) (a7 : Int) (a8 : Int) (a9 : Int) : CallS (Int × (List (Int × Int × Int)) × (List Int) × (List (Int × Int × Int)) × (List Int) × Int × Int × Int × Int) :=
  mkC [] hd Tryz.func140 (by kernel_rfl) (mzf a0 a1 a2 a3 a4 a5 a6 a7 a8 a9) 3 [.ptr 0 0, pz a8, pz a9] [(0, .box [.pure (encL 3 az1 a0), .vec 1, .pure (encL 3 az1 a2), .vec 2, pz a4, pz a5, pz a6, pz a7]), (1, vecO 1 az3 a1 2), (2, vecO 1 az3 a3 2)] (fun r => pz r.1) (fun r => [(0, .box [.pure (encL 3 az1 r.2.1), .vec 1, .pure (encL 3 az1 r.2.2.2.1), .vec 2, pz r.2.2.2.2.2.1, pz r.2.2.2.2.2.2.1, pz r.2.2.2.2.2.2.2.1, pz r.2.2.2.2.2.2.2.2]), (1, vecO 1 az3 r.2.2.1 2), (2, vecO 1 az3 r.2.2.2.2.1 2)]) (by kernel_rfl)
noncomputable def ezm (a0 : (List (Int × Int × Int))) (a1 : (List (Int × Int × Int))) (a2 : Int) (a3 : Int) : T cz4 :=
 .cut 2 (fun (y12 : Bool) => ⟨[(0, .pure (encL 3 az1 a0)), (1, .pure (encL 3 az1 a1)), (2, pz a2), (3, pz a3), (8, .ptr 0 0), (34, .pure (.bool y12))], [(0, .box [pz 0, pz 0, pz 0, pz 0, .vec 1, .vec 2, pz 0]), (1, .nilv), (2, .nilv)], [], 3⟩)
 (.call (gz9 a0) [] fun y13 =>
 .br (!y13)
 (.ret (.out true))
 (.call (gz9 a1) [] fun y14 =>
 .br (!y14)
 (.ret (.out true))
 (.br (decide (a2 < 0))
 (.ret (.out true))
 (.br (decide (a2 > 2097152))
 (.ret (.out true))
 (.br (decide (a3 < 0))
 (.ret (.out true))
 (.ret (.out (decide (a3 > 64))))))))) fun y12 =>
 .br y12
 (.ret (⟨0, (0, 0, 0), nl, nl, 0⟩ : cz4))
 (.call (fzh a0) [] fun y17 =>
 .call (fzh a1) [] fun y18 =>
 .call (Dzt y17.1 y17.2 y18.1 y18.2 0 0 0 0 a2 a3) [(0, 451), (1, 67), (2, 259)] fun y20 =>
 .ret (⟨y20.1, (y20.2.2.2.2.2.1, y20.2.2.2.2.2.2.1, y20.2.2.2.2.2.2.2.1), y20.2.2.1, y20.2.2.2.2.1, y20.2.2.2.2.2.2.2.2⟩ : cz4))
noncomputable def dz3 (a0 : (List (Int × Int × Int))) (a1 : (List (Int × Int × Int))) (a2 : Int) (a3 : Int) : CallS cz4 :=
  mkC [] hd Tryz.func77 (by kernel_rfl) (ezm a0 a1 a2 a3) 0 [.pure (encL 3 az1 a0), .pure (encL 3 az1 a1), pz a2, pz a3] [] (fun r => .pure (Czg r)) (fun _ => []) (by kernel_rfl)
noncomputable def ezw {o : (Int × Int × Int) → Option Bool} (Y : YldS Tryz.prog az1 o) (a0 : (List (az0 × az0 × az0))) (a1 : (List (az0 × az0 × az0))) (a2 : Int) (a3 : Int) (a4 : (List (Int × Int × Int))) : T (Bool × (Int × Int × Int) × (List (az0 × az0 × az0)) × (List (az0 × az0 × az0)) × Int × Int × (List (Int × Int × Int))) :=
 .cut 1 (fun (y22 : Bool) => ⟨[(0, .yld Y.l), (1, .ptr 1 0), (2, .ptr 2 0), (3, .ptr 3 0), (4, .ptr 4 0), (5, .ptr 5 0), (31, .pure (.bool y22))], [(0, .tok Y.τ (tokP false (az1 default))), (1, .box [.pure (encL 6 az2 a0)]), (2, .box [.pure (encL 6 az2 a1)]), (3, .box [pz a2]), (4, .box [pz a3]), (5, .box [.pure (encL 3 az1 a4)])], [], 6⟩)
 (.call (cza a0) [] fun y23 =>
 .br (!y23)
 (.ret (.out true))
 (.call (cza a1) [] fun y24 =>
 .br (!y24)
 (.ret (.out true))
 (.call (hz8 a2) [] fun y25 =>
 .br (!y25)
 (.ret (.out true))
 (.call (hz8 a3) [] fun y26 =>
 .ret (.out (!y26)))))) fun y22 =>
 .br y22
 (.ret (false, default, a0, a1, a2, a3, a4))
 (.loop (fun (x87 : (Int × Bool × (Int × Int × Int))) => ⟨[(0, .yld Y.l), (1, .ptr 1 0), (2, .ptr 2 0), (3, .ptr 3 0), (4, .ptr 4 0), (32, .pure (encL 3 az1 a4)), (33, pz ((a4.length : Nat) : Int)), (34, pz x87.1)], [(0, .tok Y.τ (tokP x87.2.1 (az1 x87.2.2))), (1, .box [.pure (encL 6 az2 a0)]), (2, .box [.pure (encL 6 az2 a1)]), (3, .box [pz a2]), (4, .box [pz a3]), (5, .box [.pure (encL 3 az1 a4)])], [], 6⟩)
 (.exit 0) (fun (y102 : (Bool × (Int × Int × Int))) => ⟨[(0, .yld Y.l), (1, .ptr 1 0), (2, .ptr 2 0), (3, .ptr 3 0), (4, .ptr 4 0)], [(0, .tok Y.τ (tokP y102.1 (az1 y102.2))), (1, .box [.pure (encL 6 az2 a0)]), (2, .box [.pure (encL 6 az2 a1)]), (3, .box [pz a2]), (4, .box [pz a3]), (5, .box [.pure (encL 3 az1 a4)])], [], 6⟩)
 (fun x87 => .br (decide (x87.1 < ((a4.length : Nat) : Int)))
 (.grd (0 ≤ x87.1 ∧ x87.1 < ((a4.length : Nat) : Int)) <|
 .cut 0 (fun (y114 : (Bool × Bool × (Int × Int × Int))) => ⟨[(0, .yld Y.l), (1, .ptr 1 0), (2, .ptr 2 0), (3, .ptr 3 0), (4, .ptr 4 0), (32, .pure (encL 3 az1 a4)), (33, pz ((a4.length : Nat) : Int)), (34, pz x87.1), (45, .pure (.bool y114.1))], [(0, .tok Y.τ (tokP y114.2.1 (az1 y114.2.2))), (1, .box [.pure (encL 6 az2 a0)]), (2, .box [.pure (encL 6 az2 a1)]), (3, .box [pz a2]), (4, .box [pz a3]), (5, .box [.pure (encL 3 az1 a4)])], [], 6⟩)
 (.call (dzq (a4.getD ((x87.1).toNat) default)) [] fun y115 =>
 .br y115
 (.call (Y.C x87.2.1 x87.2.2 (a4.getD ((x87.1).toNat) default)) [(0, 0)] fun y116 =>
 .ret (.out ((!(!y116)), y116, (a4.getD ((x87.1).toNat) default))))
 (.ret (.out (false, x87.2.1, x87.2.2)))) fun y114 =>
 .br y114.1
 (.ret (.fin (y114.2.1, y114.2.2, a0, a1, a2, a3, a4)))
 (.ret (.next ((IntKind.i64.wrap (x87.1 + 1)), y114.2.1, y114.2.2))))
 (.ret (.out (x87.2.1, x87.2.2))))
 (0, false, default) [] fun y102 =>
 .call (jza a0 a1) [] fun y124 =>
 .cut 0 (fun (y127 : (Bool × Bool × (Int × Int × Int))) => ⟨[(0, .yld Y.l), (1, .ptr 1 0), (2, .ptr 2 0), (3, .ptr 3 0), (4, .ptr 4 0), (59, .pure (.bool y127.1))], [(0, .tok Y.τ (tokP y127.2.1 (az1 y127.2.2))), (1, .box [.pure (encL 6 az2 a0)]), (2, .box [.pure (encL 6 az2 a1)]), (3, .box [pz a2]), (4, .box [pz a3]), (5, .box [.pure (encL 3 az1 a4)])], [], 6⟩)
 (.br y124.2
 (.call (Y.C y102.1 y102.2 y124.1) [(0, 0)] fun y128 =>
 .ret (.out ((!(!y128)), y128, y124.1)))
 (.ret (.out (false, y102.1, y102.2)))) fun y127 =>
 .br y127.1
 (.ret (y127.2.1, y127.2.2, a0, a1, a2, a3, a4))
 (.call (oz3) [] fun y147 =>
 .loop (fun (x153 : (Int × Bool × (Int × Int × Int))) => ⟨[(0, .yld Y.l), (1, .ptr 1 0), (2, .ptr 2 0), (3, .ptr 3 0), (4, .ptr 4 0), (60, .pure (encL 3 az1 y147)), (61, pz ((y147.length : Nat) : Int)), (62, pz x153.1)], [(0, .tok Y.τ (tokP x153.2.1 (az1 x153.2.2))), (1, .box [.pure (encL 6 az2 a0)]), (2, .box [.pure (encL 6 az2 a1)]), (3, .box [pz a2]), (4, .box [pz a3]), (5, .box [.pure (encL 3 az1 a4)])], [], 6⟩)
 (.exit 2) (fun (y158 : (Bool × (Int × Int × Int))) => ⟨[(0, .yld Y.l), (1, .ptr 1 0), (2, .ptr 2 0), (3, .ptr 3 0), (4, .ptr 4 0)], [(0, .tok Y.τ (tokP y158.1 (az1 y158.2))), (1, .box [.pure (encL 6 az2 a0)]), (2, .box [.pure (encL 6 az2 a1)]), (3, .box [pz a2]), (4, .box [pz a3]), (5, .box [.pure (encL 3 az1 a4)])], [], 6⟩)
 (fun x153 => .br (decide (x153.1 < ((y147.length : Nat) : Int)))
 (.grd (0 ≤ x153.1 ∧ x153.1 < ((y147.length : Nat) : Int)) <|
 .call (Y.C x153.2.1 x153.2.2 (y147.getD ((x153.1).toNat) default)) [(0, 0)] fun y162 =>
 .br (!(!y162))
 (.ret (.fin (y162, (y147.getD ((x153.1).toNat) default), a0, a1, a2, a3, a4)))
 (.ret (.next ((IntKind.i64.wrap (x153.1 + 1)), y162, (y147.getD ((x153.1).toNat) default)))))
 (.ret (.out (x153.2.1, x153.2.2))))
 (0, y127.2.1, y127.2.2) [] fun y158 =>
 .call (cz1 a0) [] fun y166 =>
 .call (cz1 a1) [] fun y167 =>
 .call (dz3 y166 y167 (IntKind.i64.wrap (a2 + a3)) 64) [] fun y168 =>
 .call (dzq y168.Normal) [] fun y170 =>
 .br y170
 (.call (Y.C y158.1 y158.2 y168.Normal) [(0, 0)] fun y171 =>
 .ret (y171, y168.Normal, a0, a1, a2, a3, a4))
 (.ret (y158.1, y158.2, a0, a1, a2, a3, a4))))
noncomputable def ezv {o : (Int × Int × Int) → Option Bool} (Y : YldS Tryz.prog az1 o) (a0 : (List (az0 × az0 × az0))) (a1 : (List (az0 × az0 × az0))) (a2 : Int) (a3 : Int) (a4 : (List (Int × Int × Int))) : CallS (Bool × (Int × Int × Int) × (List (az0 × az0 × az0)) × (List (az0 × az0 × az0)) × Int × Int × (List (Int × Int × Int))) :=
  mkC [] hd Tryz.func178 (by kernel_rfl) (ezw Y a0 a1 a2 a3 a4) 6 [.yld Y.l, .ptr 1 0, .ptr 2 0, .ptr 3 0, .ptr 4 0, .ptr 5 0] [(0, .tok Y.τ (tokP false (az1 default))), (1, .box [.pure (encL 6 az2 a0)]), (2, .box [.pure (encL 6 az2 a1)]), (3, .box [pz a2]), (4, .box [pz a3]), (5, .box [.pure (encL 3 az1 a4)])] (fun _ => .tup []) (fun r => [(0, .tok Y.τ (tokP r.1 (az1 r.2.1))), (1, .box [.pure (encL 6 az2 r.2.2.1)]), (2, .box [.pure (encL 6 az2 r.2.2.2.1)]), (3, .box [pz r.2.2.2.2.1]), (4, .box [pz r.2.2.2.2.2.1]), (5, .box [.pure (encL 3 az1 r.2.2.2.2.2.2)])]) (by kernel_rfl)
noncomputable def jz9 (a0 : (List (az0 × az0 × az0))) (a1 : Int) (a2 : (List (az0 × az0 × az0))) (a3 : Int) (_a4 : (List (Int × Int × Int))) (x : (Int × Int × Int)) : T Bool :=
 .call (pzd x a0 a1 a2 a3) [] fun y3 =>
 .br y3
 (.ret true)
 (.ret false)
noncomputable def oz4 (a0 : (List (az0 × az0 × az0))) (a1 : Int) (a2 : (List (az0 × az0 × az0))) (a3 : Int) (a4 : (List (Int × Int × Int))) : CallS ((Int × Int × Int) × Bool) :=
  mkR (encX := az1) [⟨135, Rz3⟩] hd Tryz.func76 (by kernel_rfl) (.call (fzq a0 a1 a2 a3 a4) [] fun y1 =>
  .ret y1)
  (jz9 a0 a1 a2 a3 a4) [(0, .box [.pure (encL 6 az2 a0)]), (64, .box [pz a1]), (128, .box [.pure (encL 6 az2 a2)]), (192, .box [pz a3]), (256, .box [pz 0, pz 0, pz 0]), (320, .box [.ff])]
  (fun p => [(0, .box [.pure (encL 6 az2 a0)]), (64, .box [pz a1]), (128, .box [.pure (encL 6 az2 a2)]), (192, .box [pz a3]), (256, .box (p.cells.map .pure)), (320, .box [.tt])]) [(0, 960), (1, 832), (2, 833), (3, 834), (4, 835), (5, 836)] (fun r => r.1) (fun r => r.2.1)
  (fun y1 Y => ezv Y y1.1 y1.2.1 y1.2.2.1 y1.2.2.2.1 y1.2.2.2.2)
  (.ret ((0, 0, 0), false)) (fun x => (x, true)) (fun _ _ => rfl) 0 [.pure (encL 6 az2 a0), pz a1, .pure (encL 6 az2 a2), pz a3, .pure (encL 3 az1 a4)] [] (fun r => .tup [.pure (az1 r.1), .pure (.bool r.2)]) (fun _ => []) (by kernel_rfl)
set_option maxHeartbeats 8000000 in
set_option maxRecDepth 20000 in
noncomputable def mzd (a0 : (List (az0 × az0 × az0))) (a1 : (List Int)) : T ((az0 × az0 × az0) × Int × Bool) :=
 .cut 2 (fun (y599 : Bool) => ⟨[(0, .pure (encL 6 az2 a0)), (1, .pure (encL 1 az3 a1)), (4, .ptr 0 0), (22, .pure (.bool y599))], [(0, .box [pz 0, pz 0, pz 0, pz 0, pz 0, pz 0])], [], 1⟩)
 (.call (cza a0) [] fun y600 =>
 .br (!y600)
 (.ret (.out true))
 (.ret (.out (((a1.length : Nat) : Int) != ((a0.length : Nat) : Int))))) fun y599 =>
 .br y599
 (.ret (((⟨0, 0⟩ : az0), (⟨0, 0⟩ : az0), (⟨0, 0⟩ : az0)), 0, false))
 (.loop (fun (x1021 : (Int × Int × Int × Int × Int × Int × Int × Int)) => ⟨[(0, .pure (encL 6 az2 a0)), (4, .ptr 0 0), (7, .ptr 1 0), (8, pz x1021.2.2.2.2.2.2.1), (24, .pure (encL 1 az3 a1)), (25, pz ((a1.length : Nat) : Int)), (26, pz x1021.2.2.2.2.2.2.2)], [(0, .box [pz 0, pz 0, pz 0, pz 0, pz 0, pz 0]), (1, .box [pz x1021.1, pz x1021.2.1, pz x1021.2.2.1, pz x1021.2.2.2.1, pz x1021.2.2.2.2.1, pz x1021.2.2.2.2.2.1])], [], 2⟩)
 (.exit 0) (fun (y1126 : (Int × Int × Int × Int × Int × Int × Int)) => ⟨[(4, .ptr 0 0), (7, .ptr 1 0), (8, pz y1126.2.2.2.2.2.2)], [(0, .box [pz 0, pz 0, pz 0, pz 0, pz 0, pz 0]), (1, .box [pz y1126.1, pz y1126.2.1, pz y1126.2.2.1, pz y1126.2.2.2.1, pz y1126.2.2.2.2.1, pz y1126.2.2.2.2.2.1])], [], 2⟩)
 (fun x1021 => .br (decide (x1021.2.2.2.2.2.2.2 < ((a1.length : Nat) : Int)))
 (.grd (0 ≤ x1021.2.2.2.2.2.2.2 ∧ x1021.2.2.2.2.2.2.2 < ((a1.length : Nat) : Int)) <|
 .cut 1 (fun (y1180 : Bool) => ⟨[(0, .pure (encL 6 az2 a0)), (4, .ptr 0 0), (7, .ptr 1 0), (8, pz x1021.2.2.2.2.2.2.1), (9, pz x1021.2.2.2.2.2.2.2), (10, pz (a1.getD ((x1021.2.2.2.2.2.2.2).toNat) default)), (24, .pure (encL 1 az3 a1)), (25, pz ((a1.length : Nat) : Int)), (26, pz x1021.2.2.2.2.2.2.2), (36, .pure (.bool y1180))], [(0, .box [pz 0, pz 0, pz 0, pz 0, pz 0, pz 0]), (1, .box [pz x1021.1, pz x1021.2.1, pz x1021.2.2.1, pz x1021.2.2.2.1, pz x1021.2.2.2.2.1, pz x1021.2.2.2.2.2.1])], [], 2⟩)
 (.br (decide ((a1.getD ((x1021.2.2.2.2.2.2.2).toNat) default) < 0))
 (.ret (.out true))
 (.ret (.out (decide ((a1.getD ((x1021.2.2.2.2.2.2.2).toNat) default) > 65536))))) fun y1180 =>
 .br y1180
 (.ret (.fin (((⟨0, 0⟩ : az0), (⟨0, 0⟩ : az0), (⟨0, 0⟩ : az0)), 0, false)))
 (.grd (0 ≤ x1021.2.2.2.2.2.2.2 ∧ x1021.2.2.2.2.2.2.2 < ((a0.length : Nat) : Int)) <|
 .unroll 4 <|
 .known true <|
 .ix 0 3 rfl <|
 .ix 0 3 rfl <|
 .name 14007 ((IntKind.i64.wrap ((a1.getD ((x1021.2.2.2.2.2.2.2).toNat) default) * ((a0.getD ((x1021.2.2.2.2.2.2.2).toNat) default).1.Lo)))) fun z1203 =>
 .name 14008 ((IntKind.i64.wrap (x1021.1 + z1203))) fun z1204 =>
 .ix 0 3 rfl <|
 .ix 0 3 rfl <|
 .name 15007 ((IntKind.i64.wrap ((a1.getD ((x1021.2.2.2.2.2.2.2).toNat) default) * ((a0.getD ((x1021.2.2.2.2.2.2.2).toNat) default).1.Hi)))) fun z1205 =>
 .name 15008 ((IntKind.i64.wrap (x1021.2.1 + z1205))) fun z1206 =>
 .ix 0 3 rfl <|
 .lit 16000 (1) <|
 .known true <|
 .ix 1 3 rfl <|
 .ix 1 3 rfl <|
 .name 14007 ((IntKind.i64.wrap ((a1.getD ((x1021.2.2.2.2.2.2.2).toNat) default) * ((a0.getD ((x1021.2.2.2.2.2.2.2).toNat) default).2.1.Lo)))) fun z1215 =>
 .name 14008 ((IntKind.i64.wrap (x1021.2.2.1 + z1215))) fun z1216 =>
 .ix 1 3 rfl <|
 .ix 1 3 rfl <|
 .name 15007 ((IntKind.i64.wrap ((a1.getD ((x1021.2.2.2.2.2.2.2).toNat) default) * ((a0.getD ((x1021.2.2.2.2.2.2.2).toNat) default).2.1.Hi)))) fun z1217 =>
 .name 15008 ((IntKind.i64.wrap (x1021.2.2.2.1 + z1217))) fun z1218 =>
 .ix 1 3 rfl <|
 .lit 16000 (2) <|
 .known true <|
 .ix 2 3 rfl <|
 .ix 2 3 rfl <|
 .name 14007 ((IntKind.i64.wrap ((a1.getD ((x1021.2.2.2.2.2.2.2).toNat) default) * ((a0.getD ((x1021.2.2.2.2.2.2.2).toNat) default).2.2.Lo)))) fun z1227 =>
 .name 14008 ((IntKind.i64.wrap (x1021.2.2.2.2.1 + z1227))) fun z1228 =>
 .ix 2 3 rfl <|
 .ix 2 3 rfl <|
 .name 15007 ((IntKind.i64.wrap ((a1.getD ((x1021.2.2.2.2.2.2.2).toNat) default) * ((a0.getD ((x1021.2.2.2.2.2.2.2).toNat) default).2.2.Hi)))) fun z1229 =>
 .name 15008 ((IntKind.i64.wrap (x1021.2.2.2.2.2.1 + z1229))) fun z1230 =>
 .ix 2 3 rfl <|
 .lit 16000 (3) <|
 .known false <|
 .ret (.next (z1204, z1206, z1216, z1218, z1228, z1230, (IntKind.i64.wrap (x1021.2.2.2.2.2.2.1 + (a1.getD ((x1021.2.2.2.2.2.2.2).toNat) default))), (IntKind.i64.wrap (x1021.2.2.2.2.2.2.2 + 1))))))
 (.ret (.out (x1021.1, x1021.2.1, x1021.2.2.1, x1021.2.2.2.1, x1021.2.2.2.2.1, x1021.2.2.2.2.2.1, x1021.2.2.2.2.2.2.1))))
 (0, 0, 0, 0, 0, 0, 0, 0) [] fun y1126 =>
 .cut 1 (fun (y1232 : Bool) => ⟨[(4, .ptr 0 0), (7, .ptr 1 0), (8, pz y1126.2.2.2.2.2.2), (78, .pure (.bool y1232))], [(0, .box [pz 0, pz 0, pz 0, pz 0, pz 0, pz 0]), (1, .box [pz y1126.1, pz y1126.2.1, pz y1126.2.2.1, pz y1126.2.2.2.1, pz y1126.2.2.2.2.1, pz y1126.2.2.2.2.2.1])], [], 2⟩)
 (.br (decide (y1126.2.2.2.2.2.2 < 1))
 (.ret (.out true))
 (.ret (.out (decide (y1126.2.2.2.2.2.2 > 65536))))) fun y1232 =>
 .br y1232
 (.ret (((⟨0, 0⟩ : az0), (⟨0, 0⟩ : az0), (⟨0, 0⟩ : az0)), 0, false))
 (.ret (((⟨y1126.1, y1126.2.1⟩ : az0), (⟨y1126.2.2.1, y1126.2.2.2.1⟩ : az0), (⟨y1126.2.2.2.2.1, y1126.2.2.2.2.2.1⟩ : az0)), y1126.2.2.2.2.2.2, true)))
noncomputable def mzc (a0 : (List (az0 × az0 × az0))) (a1 : (List Int)) : CallS ((az0 × az0 × az0) × Int × Bool) :=
  mkC [] hd Tryz.func196 (by kernel_rfl) (mzd a0 a1) 0 [.pure (encL 6 az2 a0), .pure (encL 1 az3 a1)] [] (fun r => .tup [.pure (az2 r.1), pz r.2.1, .pure (.bool r.2.2)]) (fun _ => []) (by kernel_rfl)
noncomputable def hzg (a0 : Int) : T Bool :=
 .br (decide (a0 ≥ 0))
 (.ret (decide (a0 ≤ 1048576)))
 (.ret false)
noncomputable def hzf (a0 : Int) : CallS Bool :=
  mkC [] hd Tryz.func197 (by kernel_rfl) (hzg a0) 0 [pz a0] [] (fun r => .pure (.bool r)) (fun _ => []) (by kernel_rfl)
noncomputable def hze (a0 : (List Int)) : T Int :=
 .loop (fun (x5 : (Int × Int)) => ⟨[(3, pz x5.1), (6, .pure (encL 1 az3 a0)), (7, pz ((a0.length : Nat) : Int)), (8, pz x5.2)], [], [], 0⟩)
 (.exit 0) (fun (y6 : Int) => ⟨[(3, pz y6)], [], [], 0⟩)
 (fun x5 => .br (decide (x5.2 < ((a0.length : Nat) : Int)))
 (.grd (0 ≤ x5.2 ∧ x5.2 < ((a0.length : Nat) : Int)) <|
 .ret (.next ((max (max x5.1 (a0.getD ((x5.2).toNat) default)) (IntKind.i64.wrap (0 - (a0.getD ((x5.2).toNat) default)))), (IntKind.i64.wrap (x5.2 + 1)))))
 (.ret (.out x5.1)))
 (0, 0) [] fun y6 =>
 .ret y6
noncomputable def ezz (a0 : (List Int)) : CallS Int :=
  mkC [] hd Tryz.func198 (by kernel_rfl) (hze a0) 0 [.pure (encL 1 az3 a0)] [] (fun r => pz r) (fun _ => []) (by kernel_rfl)
noncomputable def kzc (a0 : (List Int)) (a1 : (List Int)) (a2 : (List (az0 × az0 × az0))) (a3 : Int) (a4 : (List (az0 × az0 × az0))) (a5 : Int) : T (Int × Bool) :=
 .call (mzc a2 a0) [] fun y84 =>
 .call (mzc a4 a1) [] fun y86 =>
 .cut 1 (fun (y98 : Bool) => ⟨[(3, pz a3), (5, pz a5), (12, .ptr 0 0), (13, .ptr 1 0), (14, .ptr 2 0), (15, pz y84.2.1), (17, .ptr 3 0), (59, .pure (.bool y98))], [(0, .box [pz 0]), (1, .box [.ff]), (2, .box [pz y84.1.1.Lo, pz y84.1.1.Hi, pz y84.1.2.1.Lo, pz y84.1.2.1.Hi, pz y84.1.2.2.Lo, pz y84.1.2.2.Hi]), (3, .box [pz y86.1.1.Lo, pz y86.1.1.Hi, pz y86.1.2.1.Lo, pz y86.1.2.1.Hi, pz y86.1.2.2.Lo, pz y86.1.2.2.Hi])], [.func 195 [] [.ptr 0 0, .ptr 1 0]], 4⟩)
 (.br (!y84.2.2)
 (.ret (.out true))
 (.br (!y86.2.2)
 (.ret (.out true))
 (.br (y84.2.1 != y86.2.1)
 (.ret (.out true))
 (.call (hzf a3) [] fun y99 =>
 .br (!y99)
 (.ret (.out true))
 (.call (hzf a5) [] fun y100 =>
 .ret (.out (!y100))))))) fun y98 =>
 .br y98
 (.ret (0, false))
 (.unroll 4 <|
 .known true <|
 .ix 0 3 rfl <|
 .ix 0 3 rfl <|
 .ix 0 3 rfl <|
 .ix 0 3 rfl <|
 .conv 11018 (dzo 1 az3 ([(IntKind.i64.wrap (y84.1.1.Lo - y86.1.1.Hi)), (IntKind.i64.wrap (y84.1.1.Hi - y86.1.1.Lo))] : (List Int)) 2) <|
 .call (ezz ([(IntKind.i64.wrap (y84.1.1.Lo - y86.1.1.Hi)), (IntKind.i64.wrap (y84.1.1.Hi - y86.1.1.Lo))] : (List Int))) [] fun y150 =>
 .grd (y84.2.1 ≠ 0) <|
 .br (decide ((IntKind.i64.wrap ((IntKind.i64.wrap ((IntKind.i64.wrap (y150 + y84.2.1)) - 1)).tdiv y84.2.1)) > (IntKind.i64.wrap (a3 + a5))))
 (.ret ((-1), true))
 (.name 15003 ((IntKind.i64.wrap ((IntKind.i64.wrap ((IntKind.i64.wrap ((IntKind.i64.wrap (y150 + y84.2.1)) - 1)).tdiv y84.2.1)) * (IntKind.i64.wrap ((IntKind.i64.wrap ((IntKind.i64.wrap (y150 + y84.2.1)) - 1)).tdiv y84.2.1))))) fun z151 =>
 .name 15004 ((IntKind.i64.wrap ((IntKind.i64.wrap ((IntKind.i64.wrap (a3 + a5)) * (IntKind.i64.wrap (a3 + a5)))) - z151))) fun z152 =>
 .lit 16000 (1) <|
 .known true <|
 .ix 1 3 rfl <|
 .ix 1 3 rfl <|
 .ix 1 3 rfl <|
 .ix 1 3 rfl <|
 .conv 11018 (dzo 1 az3 ([(IntKind.i64.wrap (y84.1.2.1.Lo - y86.1.2.1.Hi)), (IntKind.i64.wrap (y84.1.2.1.Hi - y86.1.2.1.Lo))] : (List Int)) 2) <|
 .call (ezz ([(IntKind.i64.wrap (y84.1.2.1.Lo - y86.1.2.1.Hi)), (IntKind.i64.wrap (y84.1.2.1.Hi - y86.1.2.1.Lo))] : (List Int))) [] fun y158 =>
 .grd (y84.2.1 ≠ 0) <|
 .br (decide ((IntKind.i64.wrap ((IntKind.i64.wrap ((IntKind.i64.wrap (y158 + y84.2.1)) - 1)).tdiv y84.2.1)) > (IntKind.i64.wrap (a3 + a5))))
 (.ret ((-1), true))
 (.name 15003 ((IntKind.i64.wrap ((IntKind.i64.wrap ((IntKind.i64.wrap ((IntKind.i64.wrap (y158 + y84.2.1)) - 1)).tdiv y84.2.1)) * (IntKind.i64.wrap ((IntKind.i64.wrap ((IntKind.i64.wrap (y158 + y84.2.1)) - 1)).tdiv y84.2.1))))) fun z159 =>
 .name 15004 ((IntKind.i64.wrap (z152 - z159))) fun z160 =>
 .lit 16000 (2) <|
 .known true <|
 .ix 2 3 rfl <|
 .ix 2 3 rfl <|
 .ix 2 3 rfl <|
 .ix 2 3 rfl <|
 .conv 11018 (dzo 1 az3 ([(IntKind.i64.wrap (y84.1.2.2.Lo - y86.1.2.2.Hi)), (IntKind.i64.wrap (y84.1.2.2.Hi - y86.1.2.2.Lo))] : (List Int)) 2) <|
 .call (ezz ([(IntKind.i64.wrap (y84.1.2.2.Lo - y86.1.2.2.Hi)), (IntKind.i64.wrap (y84.1.2.2.Hi - y86.1.2.2.Lo))] : (List Int))) [] fun y166 =>
 .grd (y84.2.1 ≠ 0) <|
 .br (decide ((IntKind.i64.wrap ((IntKind.i64.wrap ((IntKind.i64.wrap (y166 + y84.2.1)) - 1)).tdiv y84.2.1)) > (IntKind.i64.wrap (a3 + a5))))
 (.ret ((-1), true))
 (.name 15003 ((IntKind.i64.wrap ((IntKind.i64.wrap ((IntKind.i64.wrap ((IntKind.i64.wrap (y166 + y84.2.1)) - 1)).tdiv y84.2.1)) * (IntKind.i64.wrap ((IntKind.i64.wrap ((IntKind.i64.wrap (y166 + y84.2.1)) - 1)).tdiv y84.2.1))))) fun z167 =>
 .name 15004 ((IntKind.i64.wrap (z160 - z167))) fun z168 =>
 .lit 16000 (3) <|
 .known false <|
 .ret (z168, true)))))
noncomputable def sz0 (a0 : (List Int)) (a1 : (List Int)) (a2 : (List (az0 × az0 × az0))) (a3 : Int) (a4 : (List (az0 × az0 × az0))) (a5 : Int) : CallS (Int × Bool) :=
  mkC [⟨195, Rz5⟩] hd Tryz.func144 (by kernel_rfl) (kzc a0 a1 a2 a3 a4 a5) 0 [.pure (encL 1 az3 a0), .pure (encL 1 az3 a1), .pure (encL 6 az2 a2), pz a3, .pure (encL 6 az2 a4), pz a5] [] (fun r => .tup [pz r.1, .pure (.bool r.2)]) (fun _ => []) (by kernel_rfl)
noncomputable def hzd (a0 : (List Int)) (a1 : (List Int)) (a2 : (List (az0 × az0 × az0))) (a3 : Int) (a4 : (List (az0 × az0 × az0))) (a5 : Int) : T Bool :=
 .call (sz0 a0 a1 a2 a3 a4 a5) [] fun y2 =>
 .br y2.2
 (.ret (decide (y2.1 ≥ 0)))
 (.ret false)
noncomputable def hzc (a0 : (List Int)) (a1 : (List Int)) (a2 : (List (az0 × az0 × az0))) (a3 : Int) (a4 : (List (az0 × az0 × az0))) (a5 : Int) : CallS Bool :=
  mkC [⟨143, Rz4⟩] hd Tryz.func79 (by kernel_rfl) (hzd a0 a1 a2 a3 a4 a5) 0 [.pure (encL 1 az3 a0), .pure (encL 1 az3 a1), .pure (encL 6 az2 a2), pz a3, .pure (encL 6 az2 a4), pz a5] [] (fun r => .pure (.bool r)) (fun _ => []) (by kernel_rfl)
noncomputable def xz4 (a0 : dz6) : T cz5 :=
 .ret (⟨2, nl, a0.witness⟩ : cz5)
noncomputable def xz3 (a0 : dz6) : CallS cz5 :=
  mkC [] hd Tryz.func80 (by kernel_rfl) (xz4 a0) 0 [.iface 131 (.pure (szc a0))] [] (fun r => .pure (pzx r)) (fun _ => []) (by kernel_rfl)
noncomputable def uzy (a0 : czv) : T cz5 :=
 .ret (⟨1, a0.normals, (⟨0, nl, nl⟩ : bz6)⟩ : cz5)
noncomputable def uzx (a0 : czv) : CallS cz5 :=
  mkC [] hd Tryz.func80 (by kernel_rfl) (uzy a0) 0 [.iface 133 (.pure (pzy a0))] [] (fun r => .pure (pzx r)) (fun _ => []) (by kernel_rfl)
noncomputable def nzj (a0 : aza) (a1 : (List az0)) (a2 : (List (Int × Int × Int))) : T cz5 :=
 .call (rzo (⟨a0.Robot, a0.Shapes, a0.Skips⟩ : aza) a1) [] fun y2 =>
 .br (!y2.2)
 (.ret (⟨0, nl, (⟨0, nl, nl⟩ : bz6)⟩ : cz5))
 (.conv 5003 (Gz4 3 az1 49 (((y2.1.pairs.length : Nat) : Int)).toNat (0, 0, 0)) <|
 .grd (0 ≤ ((y2.1.pairs.length : Nat) : Int) ∧ ((y2.1.pairs.length : Nat) : Int) ≤ ((y2.1.pairs.length : Nat) : Int) ∧ ((y2.1.pairs.length : Nat) : Int) ≤ 9223372036854775807 ∧ ((y2.1.pairs.length : Nat) : Int) * 24 ≤ 140737488355328) <|
 .loop (fun (x191 : ((List (Int × Int × Int)) × Bool × Int)) => ⟨[(2, .pure (encL 3 az1 a2)), (6, .ptr 0 0), (7, .ptr 4 0), (9, .vec 5), (10, .pure (.bool x191.2.1)), (33, pz ((y2.1.pairs.length : Nat) : Int)), (34, pz x191.2.2)], [(0, .box [pz 0, .vec 1, pz 0, .vec 2, .vec 3]), (1, .nilv), (2, .nilv), (3, .nilv), (4, .box [.pure (encL 3 azd y2.1.shapes), .pure (encL 2 czm y2.1.pairs), .pure (encL 1 (encL 6 az2) y2.1.points)]), (5, vecO 3 az1 x191.1 49)], [.func 73 [] [.ptr 0 0]], 6⟩)
 (.exit 0) (fun (y238 : ((List (Int × Int × Int)) × Bool)) => ⟨[(6, .ptr 0 0), (9, .vec 4), (10, .pure (.bool y238.2))], [(0, .box [pz 0, .vec 1, pz 0, .vec 2, .vec 3]), (1, .nilv), (2, .nilv), (3, .nilv), (4, vecO 3 az1 y238.1 49)], [.func 73 [] [.ptr 0 0]], 5⟩)
 (fun x191 => .br (decide (x191.2.2 < ((y2.1.pairs.length : Nat) : Int)))
 (.cut 0 (fun (y269 : ((List (Int × Int × Int)) × Bool)) => ⟨[(2, .pure (encL 3 az1 a2)), (6, .ptr 0 0), (7, .ptr 4 0), (9, .vec 5), (10, .pure (.bool y269.2)), (33, pz ((y2.1.pairs.length : Nat) : Int)), (34, pz x191.2.2)], [(0, .box [pz 0, .vec 1, pz 0, .vec 2, .vec 3]), (1, .nilv), (2, .nilv), (3, .nilv), (4, .box [.pure (encL 3 azd y2.1.shapes), .pure (encL 2 czm y2.1.pairs), .pure (encL 1 (encL 6 az2) y2.1.points)]), (5, vecO 3 az1 y269.1 49)], [.func 73 [] [.ptr 0 0]], 6⟩)
 (.call (xz0 (⟨y2.1.shapes, y2.1.pairs, y2.1.points⟩ : bzo) x191.2.2) [] fun y271 =>
 .conv 11010 (Ozh 3 az1 a2 (min x191.2.2 ((a2.length : Nat) : Int)) (min (IntKind.i64.wrap (x191.2.2 + 1)) ((a2.length : Nat) : Int))) <|
 .grd (0 ≤ (min x191.2.2 ((a2.length : Nat) : Int)) ∧ (min x191.2.2 ((a2.length : Nat) : Int)) ≤ (min (IntKind.i64.wrap (x191.2.2 + 1)) ((a2.length : Nat) : Int)) ∧ (min (IntKind.i64.wrap (x191.2.2 + 1)) ((a2.length : Nat) : Int)) ≤ ((a2.length : Nat) : Int)) <|
 .call (oz4 y271.a y271.ra y271.b y271.rb ((a2.drop (((min x191.2.2 ((a2.length : Nat) : Int))).toNat)).take (((min (IntKind.i64.wrap (x191.2.2 + 1)) ((a2.length : Nat) : Int))).toNat - ((min x191.2.2 ((a2.length : Nat) : Int))).toNat))) [] fun y275 =>
 .br y275.2
 (.grd (0 ≤ x191.2.2 ∧ x191.2.2 < ((x191.1.length : Nat) : Int)) <|
 .conv 14004 (pz3 3 az1 x191.1 49 ((x191.2.2).toNat) y275.1) <|
 .grd ((x191.2.2).toNat < x191.1.length ∧ 0 ≤ (x191.2.2).toNat) <|
 .ret (.out ((x191.1.set ((x191.2.2).toNat) y275.1), x191.2.1)))
 (.call (cz1 y271.a) [] fun y279 =>
 .call (cz1 y271.b) [] fun y280 =>
 .call (dz3 y279 y280 (IntKind.i64.wrap (y271.ra + y271.rb)) 64) [] fun y281 =>
 .call (hzc y281.Left y281.Right y271.a y271.ra y271.b y271.rb) [] fun y283 =>
 .br y283
 (.call (xz3 (⟨(⟨x191.2.2, y281.Left, y281.Right⟩ : bz6)⟩ : dz6)) [] fun y284 =>
 .ret (.fin (.fin y284)))
 (.ret (.out (x191.1, false))))) fun y269 =>
 .ret (.next (y269.1, y269.2, (IntKind.i64.wrap (x191.2.2 + 1)))))
 (.ret (.out (x191.1, x191.2.1))))
 ((List.replicate (((y2.1.pairs.length : Nat) : Int)).toNat ((0, 0, 0) : (Int × Int × Int))), true, 0) [] fun y238 =>
 .br (!y238.2)
 (.ret (⟨0, y238.1, (⟨0, nl, nl⟩ : bz6)⟩ : cz5))
 (.call (uzx (⟨y238.1⟩ : czv)) [] fun y285 =>
 .ret y285))
noncomputable def jz1 (a0 : aza) (a1 : (List az0)) (a2 : (List (Int × Int × Int))) : CallS cz5 :=
  mkC [⟨73, Tzl⟩] hd Tryz.func33 (by kernel_rfl) (nzj a0 a1 a2) 0 [.pure (cz0 a0), .pure (encL 2 az4 a1), .pure (encL 3 az1 a2)] [] (fun r => .pure (pzx r)) (fun _ => []) (by kernel_rfl)
abbrev nzo := RecS Tryz.prog 68 8 (Int × Int × (List (Int × Int × Int)) × (List azh) × Int × (List azh) × Int × Int × (List (Int × Int × Int)) × Int × (List Int) × (List Int) × (List Int) × (List Int) × (List azi) × (List bza) × (List azn) × (List ezc) × Int) (Bool × (List azh) × Int × (List azh) × Int × Int × (List (Int × Int × Int)) × Int × (List Int) × (List Int) × (List Int) × (List Int) × (List azi) × (List bza) × (List azn) × (List ezc) × Int) (fun a => [pz a.1, pz a.2.1, .pure (encL 3 az1 a.2.2.1), .ptr 0 0, .ptr 2 0, .ptr 3 0, .ptr 4 0, .ptr 5 0, .ptr 6 0, .ptr 7 0]) (fun a => [(0, .box [.vec 1]), (1, vecO 3 czn a.2.2.2.1 37), (2, .box [pz a.2.2.2.2.1, .pure (encL 3 czn a.2.2.2.2.2.1), pz a.2.2.2.2.2.2.1, pz a.2.2.2.2.2.2.2.1, .pure (encL 3 az1 a.2.2.2.2.2.2.2.2.1), pz a.2.2.2.2.2.2.2.2.2.1, .pure (encL 1 az3 a.2.2.2.2.2.2.2.2.2.2.1), .pure (encL 1 az3 a.2.2.2.2.2.2.2.2.2.2.2.1)]), (3, .box [.pure (encL 1 az3 a.2.2.2.2.2.2.2.2.2.2.2.2.1)]), (4, .box [.pure (encL 1 az3 a.2.2.2.2.2.2.2.2.2.2.2.2.2.1)]), (5, .box [.pure (encL 12 az9 a.2.2.2.2.2.2.2.2.2.2.2.2.2.2.1), .pure (encL 5 azb a.2.2.2.2.2.2.2.2.2.2.2.2.2.2.2.1), .pure (encL 3 azd a.2.2.2.2.2.2.2.2.2.2.2.2.2.2.2.2.1), .pure (encL 2 azq a.2.2.2.2.2.2.2.2.2.2.2.2.2.2.2.2.2.1)]), (6, .box [pz a.2.2.2.2.2.2.2.2.2.2.2.2.2.2.2.2.2.2]), (7, .box [.func 68 [] [.ptr 0 0, .ptr 2 0, .ptr 3 0, .ptr 4 0, .ptr 5 0, .ptr 6 0, .ptr 7 0]])]) (fun _ r => .pure (.bool r.1)) (fun _ r => [(0, .box [.vec 8]), (1, .gone), (2, .box [pz r.2.2.1, .pure (encL 3 czn r.2.2.2.1), pz r.2.2.2.2.1, pz r.2.2.2.2.2.1, .pure (encL 3 az1 r.2.2.2.2.2.2.1), pz r.2.2.2.2.2.2.2.1, .pure (encL 1 az3 r.2.2.2.2.2.2.2.2.1), .pure (encL 1 az3 r.2.2.2.2.2.2.2.2.2.1)]), (3, .box [.pure (encL 1 az3 r.2.2.2.2.2.2.2.2.2.2.1)]), (4, .box [.pure (encL 1 az3 r.2.2.2.2.2.2.2.2.2.2.2.1)]), (5, .box [.pure (encL 12 az9 r.2.2.2.2.2.2.2.2.2.2.2.2.1), .pure (encL 5 azb r.2.2.2.2.2.2.2.2.2.2.2.2.2.1), .pure (encL 3 azd r.2.2.2.2.2.2.2.2.2.2.2.2.2.2.1), .pure (encL 2 azq r.2.2.2.2.2.2.2.2.2.2.2.2.2.2.2.1)]), (6, .box [pz r.2.2.2.2.2.2.2.2.2.2.2.2.2.2.2.2]), (7, .box [.func 68 [] [.ptr 0 0, .ptr 2 0, .ptr 3 0, .ptr 4 0, .ptr 5 0, .ptr 6 0, .ptr 7 0]]), (8, vecO 3 czn r.2.1 37)])
noncomputable def nzp (rec : nzo) (a0 : Int) (a1 : Int) (a2 : (List (Int × Int × Int))) (a3 : (List azh)) (a4 : Int) (a5 : (List azh)) (a6 : Int) (a7 : Int) (a8 : (List (Int × Int × Int))) (a9 : Int) (a10 : (List Int)) (a11 : (List Int)) (a12 : (List Int)) (a13 : (List Int)) (a14 : (List azi)) (a15 : (List bza)) (a16 : (List azn)) (a17 : (List ezc)) (a18 : Int) : T (Bool × (List azh) × Int × (List azh) × Int × Int × (List (Int × Int × Int)) × Int × (List Int) × (List Int) × (List Int) × (List Int) × (List azi) × (List bza) × (List azn) × (List ezc) × Int) :=
 .br (decide (((a3.length : Nat) : Int) ≥ 4096))
 (.ret (false, a3, 0, nl, a0, a1, nl, 0, nl, nl, a12, a13, a14, a15, a16, a17, a18))
 (.call (vz5 a12 a13 a0 a1) [] fun y6 =>
 .call (jz1 (⟨(⟨a14, a15⟩ : azm), a16, a17⟩ : aza) y6.1 a2) [] fun y8 =>
 .br (y8.Kind == 1)
 (.conv 8006 (dzo 3 czn ([(⟨a0, a1, y8.Normals⟩ : azh)] : (List azh)) 37) <|
 .conv 8007 (izb 3 czn a3 ([(⟨a0, a1, y8.Normals⟩ : azh)] : (List azh)) 37) <|
 .grd ((a3.length + ([(⟨a0, a1, y8.Normals⟩ : azh)] : (List azh)).length) * 40 ≤ 140737488355328 ∧ (a3.length + ([(⟨a0, a1, y8.Normals⟩ : azh)] : (List azh)).length) ≤ maxLen) <|
 .ret (true, (a3 ++ ([(⟨a0, a1, y8.Normals⟩ : azh)] : (List azh))), a4, a5, a6, a7, a8, a9, a10, a11, a12, a13, a14, a15, a16, a17, a18))
 (.br (y8.Kind == 2)
 (.ret (false, a3, 2, nl, a0, a1, nl, y8.Witness.Pair, y8.Witness.Left, y8.Witness.Right, a12, a13, a14, a15, a16, a17, a18))
 (.br (decide (a0 < a18))
 (.call (rec.C ((IntKind.i64.wrap (a0 + 1)), (IntKind.i64.wrap (2 * a1)), y8.Normals, a3, a4, a5, a6, a7, a8, a9, a10, a11, a12, a13, a14, a15, a16, a17, a18)) [(0, 0), (1, 1), (2, 2), (3, 3), (4, 4), (5, 5), (6, 6), (7, 7)] fun y11 =>
 .br y11.1
 (.call (rec.C ((IntKind.i64.wrap (a0 + 1)), (IntKind.i64.wrap ((IntKind.i64.wrap (2 * a1)) + 1)), y8.Normals, y11.2.1, y11.2.2.1, y11.2.2.2.1, y11.2.2.2.2.1, y11.2.2.2.2.2.1, y11.2.2.2.2.2.2.1, y11.2.2.2.2.2.2.2.1, y11.2.2.2.2.2.2.2.2.1, y11.2.2.2.2.2.2.2.2.2.1, y11.2.2.2.2.2.2.2.2.2.2.1, y11.2.2.2.2.2.2.2.2.2.2.2.1, y11.2.2.2.2.2.2.2.2.2.2.2.2.1, y11.2.2.2.2.2.2.2.2.2.2.2.2.2.1, y11.2.2.2.2.2.2.2.2.2.2.2.2.2.2.1, y11.2.2.2.2.2.2.2.2.2.2.2.2.2.2.2.1, y11.2.2.2.2.2.2.2.2.2.2.2.2.2.2.2.2)) [(0, 0), (1, 2824), (2, 2), (3, 3), (4, 4), (5, 5), (6, 6), (7, 7)] fun y12 =>
 .ret (y12.1, y12.2.1, y12.2.2.1, y12.2.2.2.1, y12.2.2.2.2.1, y12.2.2.2.2.2.1, y12.2.2.2.2.2.2.1, y12.2.2.2.2.2.2.2.1, y12.2.2.2.2.2.2.2.2.1, y12.2.2.2.2.2.2.2.2.2.1, y12.2.2.2.2.2.2.2.2.2.2.1, y12.2.2.2.2.2.2.2.2.2.2.2.1, y12.2.2.2.2.2.2.2.2.2.2.2.2.1, y12.2.2.2.2.2.2.2.2.2.2.2.2.2.1, y12.2.2.2.2.2.2.2.2.2.2.2.2.2.2.1, y12.2.2.2.2.2.2.2.2.2.2.2.2.2.2.2.1, y12.2.2.2.2.2.2.2.2.2.2.2.2.2.2.2.2))
 (.ret (false, y11.2.1, y11.2.2.1, y11.2.2.2.1, y11.2.2.2.2.1, y11.2.2.2.2.2.1, y11.2.2.2.2.2.2.1, y11.2.2.2.2.2.2.2.1, y11.2.2.2.2.2.2.2.2.1, y11.2.2.2.2.2.2.2.2.2.1, y11.2.2.2.2.2.2.2.2.2.2.1, y11.2.2.2.2.2.2.2.2.2.2.2.1, y11.2.2.2.2.2.2.2.2.2.2.2.2.1, y11.2.2.2.2.2.2.2.2.2.2.2.2.2.1, y11.2.2.2.2.2.2.2.2.2.2.2.2.2.2.1, y11.2.2.2.2.2.2.2.2.2.2.2.2.2.2.2.1, y11.2.2.2.2.2.2.2.2.2.2.2.2.2.2.2.2)))
 (.ret (false, a3, 0, nl, a0, a1, nl, 0, nl, nl, a12, a13, a14, a15, a16, a17, a18)))))
noncomputable def ezr : nzo → nzo := RecS.next [] hd Tryz.func68 (by kernel_rfl) (fun rec a => nzp rec a.1 a.2.1 a.2.2.1 a.2.2.2.1 a.2.2.2.2.1 a.2.2.2.2.2.1 a.2.2.2.2.2.2.1 a.2.2.2.2.2.2.2.1 a.2.2.2.2.2.2.2.2.1 a.2.2.2.2.2.2.2.2.2.1 a.2.2.2.2.2.2.2.2.2.2.1 a.2.2.2.2.2.2.2.2.2.2.2.1 a.2.2.2.2.2.2.2.2.2.2.2.2.1 a.2.2.2.2.2.2.2.2.2.2.2.2.2.1 a.2.2.2.2.2.2.2.2.2.2.2.2.2.2.1 a.2.2.2.2.2.2.2.2.2.2.2.2.2.2.2.1 a.2.2.2.2.2.2.2.2.2.2.2.2.2.2.2.2.1 a.2.2.2.2.2.2.2.2.2.2.2.2.2.2.2.2.2.1 a.2.2.2.2.2.2.2.2.2.2.2.2.2.2.2.2.2.2) (fun rec a => by kernel_rfl)
noncomputable def vz7 (a0 : Int) (a1 : Int) (a2 : (List (Int × Int × Int))) (a3 : (List azh)) (a4 : Int) (a5 : (List azh)) (a6 : Int) (a7 : Int) (a8 : (List (Int × Int × Int))) (a9 : Int) (a10 : (List Int)) (a11 : (List Int)) (a12 : (List Int)) (a13 : (List Int)) (a14 : (List azi)) (a15 : (List bza)) (a16 : (List azn)) (a17 : (List ezc)) (a18 : Int) : CallS (Bool × (List azh) × Int × (List azh) × Int × Int × (List (Int × Int × Int)) × Int × (List Int) × (List Int) × (List Int) × (List Int) × (List azi) × (List bza) × (List azn) × (List ezc) × Int) := (RecS.fix ezr NN).C (a0, a1, a2, a3, a4, a5, a6, a7, a8, a9, a10, a11, a12, a13, a14, a15, a16, a17, a18)
noncomputable def jzi (a0 : aza) (a1 : (List Int)) (a2 : (List Int)) (a3 : Int) : T azk :=
 .unroll 1000 <|
 .cut 2 (fun (y17 : Bool) => ⟨[(4, .ptr 0 0), (5, .ptr 1 0), (6, .ptr 2 0), (7, .ptr 3 0), (8, .ptr 4 0), (28, .pure (.bool y17))], [(0, .box [.pure (encL 12 az9 a0.Robot.Joints), .pure (encL 5 azb a0.Robot.Masses), .pure (encL 3 azd a0.Shapes), .pure (encL 2 azq a0.Skips)]), (1, .box [.pure (encL 1 az3 a1)]), (2, .box [.pure (encL 1 az3 a2)]), (3, .box [pz a3]), (4, .box [pz 0, .pure (.lst 0 0 fun _ => .unk), pz 0, pz 0, .pure (.lst 0 0 fun _ => .unk), pz 0, .pure (.lst 0 0 fun _ => .unk), .pure (.lst 0 0 fun _ => .unk)])], [.func 65 [] [.ptr 4 0]], 5⟩)
 (.call (ezj (⟨a0.Robot, a0.Shapes, a0.Skips⟩ : aza)) [] fun y18 =>
 .br (y18 != 0)
 (.ret (.out true))
 (.call (lzi a0.Robot a1) [] fun y19 =>
 .br (!y19)
 (.ret (.out true))
 (.call (lzi a0.Robot a2) [] fun y20 =>
 .ret (.out (!y20))))) fun y17 =>
 .br y17
 (.ret (⟨0, nl, (⟨0, 0, nl⟩ : azh), (⟨0, nl, nl⟩ : bz6)⟩ : azk))
 (.cut 1 (fun (y22 : Bool) => ⟨[(4, .ptr 0 0), (5, .ptr 1 0), (6, .ptr 2 0), (7, .ptr 3 0), (8, .ptr 4 0), (35, .pure (.bool y22))], [(0, .box [.pure (encL 12 az9 a0.Robot.Joints), .pure (encL 5 azb a0.Robot.Masses), .pure (encL 3 azd a0.Shapes), .pure (encL 2 azq a0.Skips)]), (1, .box [.pure (encL 1 az3 a1)]), (2, .box [.pure (encL 1 az3 a2)]), (3, .box [pz a3]), (4, .box [pz 0, .pure (.lst 0 0 fun _ => .unk), pz 0, pz 0, .pure (.lst 0 0 fun _ => .unk), pz 0, .pure (.lst 0 0 fun _ => .unk), .pure (.lst 0 0 fun _ => .unk)])], [.func 65 [] [.ptr 4 0]], 5⟩)
 (.br (decide (a3 < 0))
 (.ret (.out true))
 (.ret (.out (decide (a3 > 20))))) fun y22 =>
 .br y22
 (.ret (⟨0, nl, (⟨0, 0, nl⟩ : azh), (⟨0, nl, nl⟩ : bz6)⟩ : azk))
 (.cut 3 (fun (y27 : (Int × (List azh) × Int × Int × (List (Int × Int × Int)) × Int × (List Int) × (List Int))) => ⟨[(8, .ptr 0 0)], [(0, .box [pz y27.1, .pure (encL 3 czn y27.2.1), pz y27.2.2.1, pz y27.2.2.2.1, .pure (encL 3 az1 y27.2.2.2.2.1), pz y27.2.2.2.2.2.1, .pure (encL 1 az3 y27.2.2.2.2.2.2.1), .pure (encL 1 az3 y27.2.2.2.2.2.2.2)])], [.func 65 [] [.ptr 0 0]], 1⟩)
 (.call (vz7 0 0 nl nl 0 nl 0 0 nl 0 nl nl a1 a2 a0.Robot.Joints a0.Robot.Masses a0.Shapes a0.Skips a3) [(0, 5), (1, 6), (2, 4), (3, 1), (4, 2), (5, 0), (6, 3), (7, 69)] fun y29 =>
 .br y29.1
 (.ret (.out (1, y29.2.1, 0, 0, nl, 0, nl, nl)))
 (.ret (.out (y29.2.2.1, y29.2.2.2.1, y29.2.2.2.2.1, y29.2.2.2.2.2.1, y29.2.2.2.2.2.2.1, y29.2.2.2.2.2.2.2.1, y29.2.2.2.2.2.2.2.2.1, y29.2.2.2.2.2.2.2.2.2.1)))) fun y27 =>
 .ret (⟨y27.1, y27.2.1, (⟨y27.2.2.1, y27.2.2.2.1, y27.2.2.2.2.1⟩ : azh), (⟨y27.2.2.2.2.2.1, y27.2.2.2.2.2.2.1, y27.2.2.2.2.2.2.2⟩ : bz6)⟩ : azk)))
noncomputable def dz9 (a0 : aza) (a1 : (List Int)) (a2 : (List Int)) (a3 : Int) : CallS azk :=
  mkC [⟨65, Tzk⟩] hd Tryz.func31 (by kernel_rfl) (jzi a0 a1 a2 a3) 0 [.pure (cz0 a0), .pure (encL 1 az3 a1), .pure (encL 1 az3 a2), pz a3] [] (fun r => .pure (jz2 r)) (fun _ => []) (by kernel_rfl)
noncomputable def Gzr : T Bool :=
 .call (Czq) [] fun y5 =>
 .conv 1001 (dzo 1 az3 ([0] : (List Int)) 2) <|
 .conv 1002 (dzo 1 az3 ([40000] : (List Int)) 2) <|
 .call (dz9 y5 ([0] : (List Int)) ([40000] : (List Int)) 0) [] fun y6 =>
 .call (Czq) [] fun y7 =>
 .conv 1005 (dzo 1 az3 ([50000] : (List Int)) 2) <|
 .conv 1006 (dzo 1 az3 ([50000] : (List Int)) 2) <|
 .call (dz9 y7 ([50000] : (List Int)) ([50000] : (List Int)) 3) [] fun y8 =>
 .br (y6.Kind == 1)
 (.br (((y6.Pieces.length : Nat) : Int) == 1)
 (.ret (y8.Kind == 2))
 (.ret false))
 (.ret false)
noncomputable def xzd : CallS Bool :=
  mkC [] hd Tryz.func29 (by kernel_rfl) (Gzr) 0 [] [] (fun r => .pure (.bool r)) (fun _ => []) (by kernel_rfl)
noncomputable def wzq (a0 : ByteArray) : T Bool :=
 .cut 2 (fun (y2 : Bool) => ⟨[(0, .pure (.str a0)), (16, .pure (.bool y2))], [], [], 0⟩)
 (.br (decide (((a0.size : Nat) : Int) < 1))
 (.ret (.out true))
 (.br (decide (((a0.size : Nat) : Int) > 16))
 (.ret (.out true))
 (.ret (.out (a0 == (⟨#[119, 111, 114, 108, 100]⟩ : ByteArray)))))) fun y2 =>
 .br y2
 (.ret false)
 (.loop (fun (x23 : Int) => ⟨[(0, .pure (.str a0)), (3, pz x23)], [], [], 0⟩)
 (.exit 0) (fun (_ : U0) => ⟨[], [], [], 0⟩)
 (fun x23 => .br (decide (x23 < ((a0.size : Nat) : Int)))
 (.cut 1 (fun (y31 : Bool) => ⟨[(0, .pure (.str a0)), (3, pz x23), (4, .pure (.bool y31))], [], [], 0⟩)
 (.grd (0 ≤ x23 ∧ x23 < ((a0.size : Nat) : Int)) <|
 .br (decide (((a0.data.getD (x23).toNat 0).toNat : Int) ≥ 97))
 (.grd (0 ≤ x23 ∧ x23 < ((a0.size : Nat) : Int)) <|
 .ret (.out (decide (((a0.data.getD (x23).toNat 0).toNat : Int) ≤ 122))))
 (.ret (.out false))) fun y31 =>
 .cut 0 (fun (y32 : Bool) => ⟨[(0, .pure (.str a0)), (3, pz x23), (56, .pure (.bool y32))], [], [], 0⟩)
 (.br (!y31)
 (.br (x23 == 0)
 (.ret (.out true))
 (.grd (0 ≤ x23 ∧ x23 < ((a0.size : Nat) : Int)) <|
 .br (((a0.data.getD (x23).toNat 0).toNat : Int) != 95)
 (.grd (0 ≤ x23 ∧ x23 < ((a0.size : Nat) : Int)) <|
 .br (decide (((a0.data.getD (x23).toNat 0).toNat : Int) < 48))
 (.ret (.out true))
 (.grd (0 ≤ x23 ∧ x23 < ((a0.size : Nat) : Int)) <|
 .ret (.out (decide (((a0.data.getD (x23).toNat 0).toNat : Int) > 57)))))
 (.ret (.out false))))
 (.ret (.out false))) fun y32 =>
 .br y32
 (.ret (.fin false))
 (.ret (.next (IntKind.i64.wrap (x23 + 1)))))
 (.ret (.out .u)))
 0 [] fun _ =>
 .ret true)
noncomputable def Dzi (a0 : ByteArray) : CallS Bool :=
  mkC [] hd Tryz.func199 (by kernel_rfl) (wzq a0) 0 [.pure (.str a0)] [] (fun r => .pure (.bool r)) (fun _ => []) (by kernel_rfl)
noncomputable def wzr (a0 : (Int × Int × Int)) (a1 : Int) : T Bool :=
 .unroll 4 <|
 .known true <|
 .cut 1 (fun (y16 : Bool) => ⟨[(1, pz a1), (2, .ptr 0 0), (5, pz 0), (22, .pure (.bool y16))], [(0, .box [pz a0.1, pz a0.2.1, pz a0.2.2])], [], 1⟩)
 (.ix 0 3 rfl <|
 .br (decide (a0.1 < (IntKind.i64.wrap (0 - a1))))
 (.ret (.out true))
 (.ix 0 3 rfl <|
 .ret (.out (decide (a0.1 > a1))))) fun y16 =>
 .br y16
 (.ret false)
 (.lit 3001 (1) <|
 .known true <|
 .cut 1 (fun (y18 : Bool) => ⟨[(1, pz a1), (2, .ptr 0 0), (5, pz 1), (22, .pure (.bool y18))], [(0, .box [pz a0.1, pz a0.2.1, pz a0.2.2])], [], 1⟩)
 (.ix 1 3 rfl <|
 .br (decide (a0.2.1 < (IntKind.i64.wrap (0 - a1))))
 (.ret (.out true))
 (.ix 1 3 rfl <|
 .ret (.out (decide (a0.2.1 > a1))))) fun y18 =>
 .br y18
 (.ret false)
 (.lit 3001 (2) <|
 .known true <|
 .cut 1 (fun (y20 : Bool) => ⟨[(1, pz a1), (2, .ptr 0 0), (5, pz 2), (22, .pure (.bool y20))], [(0, .box [pz a0.1, pz a0.2.1, pz a0.2.2])], [], 1⟩)
 (.ix 2 3 rfl <|
 .br (decide (a0.2.2 < (IntKind.i64.wrap (0 - a1))))
 (.ret (.out true))
 (.ix 2 3 rfl <|
 .ret (.out (decide (a0.2.2 > a1))))) fun y20 =>
 .br y20
 (.ret false)
 (.lit 3001 (3) <|
 .known false <|
 .ret true)))
noncomputable def dzy (a0 : (Int × Int × Int)) (a1 : Int) : CallS Bool :=
  mkC [] hd Tryz.func130 (by kernel_rfl) (wzr a0 a1) 0 [.pure (az1 a0), pz a1] [] (fun r => .pure (.bool r)) (fun _ => []) (by kernel_rfl)
noncomputable def uz5 (a0 : Int) : T Int :=
 .br (a0 == 0)
 (.ret 0)
 (.cut 0 (fun (y2 : Bool) => ⟨[(6, .pure (.bool y2))], [], [], 0⟩)
 (.br (a0 == 1)
 (.ret (.out (a0 == 1)))
 (.br (a0 == 2)
 (.ret (.out (a0 == 2)))
 (.ret (.out (a0 == 3))))) fun y2 =>
 .br y2
 (.ret 524288)
 (.ret 4194304))
noncomputable def Bz0 (a0 : Int) : CallS Int :=
  mkC [] hd Tryz.func200 (by kernel_rfl) (uz5 a0) 0 [pz a0] [] (fun r => pz r) (fun _ => []) (by kernel_rfl)
noncomputable def ozm (a0 : Int) (a1 : Int) (a2 : Int) : T Bool :=
 .br (decide (a1 ≤ a0))
 (.ret (decide (a0 ≤ a2)))
 (.ret false)
noncomputable def dzz (a0 : Int) (a1 : Int) (a2 : Int) : CallS Bool :=
  mkC [] hd Tryz.func129 (by kernel_rfl) (ozm a0 a1 a2) 0 [pz a0, pz a1, pz a2] [] (fun r => .pure (.bool r)) (fun _ => []) (by kernel_rfl)
set_option maxHeartbeats 8000000 in
set_option maxRecDepth 20000 in
noncomputable def izq (a0 : (List azi)) (a1 : Int) : T Int :=
 .grd (0 ≤ a1 ∧ a1 < ((a0.length : Nat) : Int)) <|
 .call (Dzi ((a0.getD ((a1).toNat) default).Name)) [] fun y4 =>
 .br (!y4)
 (.ret 802)
 (.loop (fun (x9 : Int) => ⟨[(0, .pure (encL 12 az9 a0)), (1, pz a1), (5, .ptr 0 0), (6, pz x9)], [(0, .box [.pure (.str ((a0.getD ((a1).toNat) default).Name)), pz ((a0.getD ((a1).toNat) default).Kind), pz ((a0.getD ((a1).toNat) default).Parent), pz ((a0.getD ((a1).toNat) default).Offset.1), pz ((a0.getD ((a1).toNat) default).Offset.2.1), pz ((a0.getD ((a1).toNat) default).Offset.2.2), pz ((a0.getD ((a1).toNat) default).Lo), pz ((a0.getD ((a1).toNat) default).Hi), pz ((a0.getD ((a1).toNat) default).Weight), pz ((a0.getD ((a1).toNat) default).Speed), pz ((a0.getD ((a1).toNat) default).Accel), pz ((a0.getD ((a1).toNat) default).Torque)])], [], 1⟩)
 (.exit 0) (fun (_ : U0) => ⟨[(1, pz a1), (5, .ptr 0 0)], [(0, .box [.pure (.str ((a0.getD ((a1).toNat) default).Name)), pz ((a0.getD ((a1).toNat) default).Kind), pz ((a0.getD ((a1).toNat) default).Parent), pz ((a0.getD ((a1).toNat) default).Offset.1), pz ((a0.getD ((a1).toNat) default).Offset.2.1), pz ((a0.getD ((a1).toNat) default).Offset.2.2), pz ((a0.getD ((a1).toNat) default).Lo), pz ((a0.getD ((a1).toNat) default).Hi), pz ((a0.getD ((a1).toNat) default).Weight), pz ((a0.getD ((a1).toNat) default).Speed), pz ((a0.getD ((a1).toNat) default).Accel), pz ((a0.getD ((a1).toNat) default).Torque)])], [], 1⟩)
 (fun x9 => .br (decide (x9 < a1))
 (.grd (0 ≤ x9 ∧ x9 < ((a0.length : Nat) : Int)) <|
 .br (((a0.getD ((x9).toNat) default).Name) == ((a0.getD ((a1).toNat) default).Name))
 (.ret (.fin 802))
 (.ret (.next (IntKind.i64.wrap (x9 + 1)))))
 (.ret (.out .u)))
 0 [] fun _ =>
 .cut 1 (fun (y12 : Bool) => ⟨[(1, pz a1), (5, .ptr 0 0), (36, .pure (.bool y12))], [(0, .box [.pure (.str ((a0.getD ((a1).toNat) default).Name)), pz ((a0.getD ((a1).toNat) default).Kind), pz ((a0.getD ((a1).toNat) default).Parent), pz ((a0.getD ((a1).toNat) default).Offset.1), pz ((a0.getD ((a1).toNat) default).Offset.2.1), pz ((a0.getD ((a1).toNat) default).Offset.2.2), pz ((a0.getD ((a1).toNat) default).Lo), pz ((a0.getD ((a1).toNat) default).Hi), pz ((a0.getD ((a1).toNat) default).Weight), pz ((a0.getD ((a1).toNat) default).Speed), pz ((a0.getD ((a1).toNat) default).Accel), pz ((a0.getD ((a1).toNat) default).Torque)])], [], 1⟩)
 (.br (decide (((a0.getD ((a1).toNat) default).Kind) < 0))
 (.ret (.out true))
 (.ret (.out (decide (((a0.getD ((a1).toNat) default).Kind) > 6))))) fun y12 =>
 .br y12
 (.ret 803)
 (.cut 1 (fun (y14 : Bool) => ⟨[(5, .ptr 0 0), (45, .pure (.bool y14))], [(0, .box [.pure (.str ((a0.getD ((a1).toNat) default).Name)), pz ((a0.getD ((a1).toNat) default).Kind), pz ((a0.getD ((a1).toNat) default).Parent), pz ((a0.getD ((a1).toNat) default).Offset.1), pz ((a0.getD ((a1).toNat) default).Offset.2.1), pz ((a0.getD ((a1).toNat) default).Offset.2.2), pz ((a0.getD ((a1).toNat) default).Lo), pz ((a0.getD ((a1).toNat) default).Hi), pz ((a0.getD ((a1).toNat) default).Weight), pz ((a0.getD ((a1).toNat) default).Speed), pz ((a0.getD ((a1).toNat) default).Accel), pz ((a0.getD ((a1).toNat) default).Torque)])], [], 1⟩)
 (.br (decide (((a0.getD ((a1).toNat) default).Parent) < (-1)))
 (.ret (.out true))
 (.ret (.out (decide (((a0.getD ((a1).toNat) default).Parent) ≥ a1))))) fun y14 =>
 .br y14
 (.ret 804)
 (.call (dzy ((a0.getD ((a1).toNat) default).Offset) 4194304) [] fun y18 =>
 .br (!y18)
 (.ret 805)
 (.call (Bz0 ((a0.getD ((a1).toNat) default).Kind)) [] fun y23 =>
 .cut 0 (fun (y24 : Bool) => ⟨[(5, .ptr 0 0), (70, .pure (.bool y24))], [(0, .box [.pure (.str ((a0.getD ((a1).toNat) default).Name)), pz ((a0.getD ((a1).toNat) default).Kind), pz ((a0.getD ((a1).toNat) default).Parent), pz ((a0.getD ((a1).toNat) default).Offset.1), pz ((a0.getD ((a1).toNat) default).Offset.2.1), pz ((a0.getD ((a1).toNat) default).Offset.2.2), pz ((a0.getD ((a1).toNat) default).Lo), pz ((a0.getD ((a1).toNat) default).Hi), pz ((a0.getD ((a1).toNat) default).Weight), pz ((a0.getD ((a1).toNat) default).Speed), pz ((a0.getD ((a1).toNat) default).Accel), pz ((a0.getD ((a1).toNat) default).Torque)])], [], 1⟩)
 (.br (decide (((a0.getD ((a1).toNat) default).Lo) > ((a0.getD ((a1).toNat) default).Hi)))
 (.ret (.out true))
 (.br (decide (((a0.getD ((a1).toNat) default).Lo) < (IntKind.i64.wrap (0 - y23))))
 (.ret (.out true))
 (.ret (.out (decide (((a0.getD ((a1).toNat) default).Hi) > y23)))))) fun y24 =>
 .br y24
 (.ret 806)
 (.cut 1 (fun (y46 : Bool) => ⟨[(92, .pure (.bool y46))], [], [], 0⟩)
 (.call (dzz ((a0.getD ((a1).toNat) default).Weight) 1 1024) [] fun y47 =>
 .br (!y47)
 (.ret (.out true))
 (.call (dzz ((a0.getD ((a1).toNat) default).Speed) 1 1048576) [] fun y48 =>
 .br (!y48)
 (.ret (.out true))
 (.call (dzz ((a0.getD ((a1).toNat) default).Accel) 1 1048576) [] fun y49 =>
 .br (!y49)
 (.ret (.out true))
 (.call (dzz ((a0.getD ((a1).toNat) default).Torque) 1 1099511627776) [] fun y50 =>
 .ret (.out (!y50)))))) fun y46 =>
 .br y46
 (.ret 807)
 (.ret 0))))))
noncomputable def pzg (a0 : (List azi)) (a1 : Int) : CallS Int :=
  mkC [] hd Tryz.func145 (by kernel_rfl) (izq a0 a1) 0 [.pure (encL 12 az9 a0), pz a1] [] (fun r => pz r) (fun _ => []) (by kernel_rfl)
noncomputable def izo (a0 : azm) : T Int :=
 .cut 2 (fun (y2 : Bool) => ⟨[(1, .ptr 0 0), (16, .pure (.bool y2))], [(0, .box [.pure (encL 12 az9 a0.Joints), .pure (encL 5 azb a0.Masses)])], [], 1⟩)
 (.br (decide (((a0.Joints.length : Nat) : Int) < 1))
 (.ret (.out true))
 (.ret (.out (decide (((a0.Joints.length : Nat) : Int) > 10))))) fun y2 =>
 .br y2
 (.ret 801)
 (.loop (fun (x23 : Int) => ⟨[(1, .ptr 0 0), (3, pz x23)], [(0, .box [.pure (encL 12 az9 a0.Joints), .pure (encL 5 azb a0.Masses)])], [], 1⟩)
 (.exit 0) (fun (_ : U0) => ⟨[(1, .ptr 0 0)], [(0, .box [.pure (encL 12 az9 a0.Joints), .pure (encL 5 azb a0.Masses)])], [], 1⟩)
 (fun x23 => .br (decide (x23 < ((a0.Joints.length : Nat) : Int)))
 (.call (pzg a0.Joints x23) [] fun y32 =>
 .br (y32 != 0)
 (.ret (.fin y32))
 (.ret (.next (IntKind.i64.wrap (x23 + 1)))))
 (.ret (.out .u)))
 0 [] fun _ =>
 .br (decide (((a0.Masses.length : Nat) : Int) > 32))
 (.ret 808)
 (.loop (fun (x93 : Int) => ⟨[(1, .ptr 0 0), (5, pz x93)], [(0, .box [.pure (encL 12 az9 a0.Joints), .pure (encL 5 azb a0.Masses)])], [], 1⟩)
 (.exit 2) (fun (_ : U0) => ⟨[], [], [], 0⟩)
 (fun x93 => .br (decide (x93 < ((a0.Masses.length : Nat) : Int)))
 (.grd (0 ≤ x93 ∧ x93 < ((a0.Masses.length : Nat) : Int)) <|
 .cut 0 (fun (y120 : Bool) => ⟨[(1, .ptr 0 0), (5, pz x93), (69, .pure (.bool y120))], [(0, .box [.pure (encL 12 az9 a0.Joints), .pure (encL 5 azb a0.Masses)])], [], 1⟩)
 (.br (decide (((a0.Masses.getD ((x93).toNat) default).Link) < 0))
 (.ret (.out true))
 (.br (decide (((a0.Masses.getD ((x93).toNat) default).Link) ≥ ((a0.Joints.length : Nat) : Int)))
 (.ret (.out true))
 (.call (dzz ((a0.Masses.getD ((x93).toNat) default).Mass) 1 65536) [] fun y121 =>
 .br (!y121)
 (.ret (.out true))
 (.call (dzy ((a0.Masses.getD ((x93).toNat) default).Point) 4194304) [] fun y122 =>
 .ret (.out (!y122)))))) fun y120 =>
 .br y120
 (.ret (.fin 808))
 (.ret (.next (IntKind.i64.wrap (x93 + 1)))))
 (.ret (.out .u)))
 0 [] fun _ =>
 .ret 0))
noncomputable def czq (a0 : azm) : CallS Int :=
  mkC [] hd Tryz.func93 (by kernel_rfl) (izo a0) 0 [.pure (czo a0)] [] (fun r => pz r) (fun _ => []) (by kernel_rfl)
noncomputable def rz6 (a0 : azm) (a1 : Int) : T Bool :=
 .br (decide (a1 ≥ (-1)))
 (.ret (decide (a1 < ((a0.Joints.length : Nat) : Int))))
 (.ret false)
noncomputable def dz7 (a0 : azm) (a1 : Int) : CallS Bool :=
  mkC [] hd Tryz.func128 (by kernel_rfl) (rz6 a0 a1) 0 [.pure (czo a0), pz a1] [] (fun r => .pure (.bool r)) (fun _ => []) (by kernel_rfl)
noncomputable def izp (a0 : aza) : T Int :=
 .call (czq a0.Robot) [] fun y4 =>
 .br (y4 != 0)
 (.ret y4)
 (.br (decide (((a0.Shapes.length : Nat) : Int) > 24))
 (.ret 901)
 (.loop (fun (x241 : Int) => ⟨[(1, .ptr 0 0), (4, pz x241)], [(0, .box [.pure (encL 12 az9 a0.Robot.Joints), .pure (encL 5 azb a0.Robot.Masses), .pure (encL 3 azd a0.Shapes), .pure (encL 2 azq a0.Skips)])], [], 1⟩)
 (.exit 0) (fun (_ : U0) => ⟨[(1, .ptr 0 0)], [(0, .box [.pure (encL 12 az9 a0.Robot.Joints), .pure (encL 5 azb a0.Robot.Masses), .pure (encL 3 azd a0.Shapes), .pure (encL 2 azq a0.Skips)])], [], 1⟩)
 (fun x241 => .br (decide (x241 < ((a0.Shapes.length : Nat) : Int)))
 (.grd (0 ≤ x241 ∧ x241 < ((a0.Shapes.length : Nat) : Int)) <|
 .cut 1 (fun (y341 : Bool) => ⟨[(1, .ptr 0 0), (4, pz x241), (5, .ptr 1 0), (53, .pure (.bool y341))], [(0, .box [.pure (encL 12 az9 a0.Robot.Joints), .pure (encL 5 azb a0.Robot.Masses), .pure (encL 3 azd a0.Shapes), .pure (encL 2 azq a0.Skips)]), (1, .box [pz ((a0.Shapes.getD ((x241).toNat) default).Link), pz ((a0.Shapes.getD ((x241).toNat) default).Radius), .pure (encL 3 az1 ((a0.Shapes.getD ((x241).toNat) default).Points))])], [], 2⟩)
 (.call (dz7 a0.Robot ((a0.Shapes.getD ((x241).toNat) default).Link)) [] fun y342 =>
 .br (!y342)
 (.ret (.out true))
 (.call (dzz ((a0.Shapes.getD ((x241).toNat) default).Radius) 1 1048576) [] fun y343 =>
 .br (!y343)
 (.ret (.out true))
 (.br (decide ((((a0.Shapes.getD ((x241).toNat) default).Points.length : Nat) : Int) < 1))
 (.ret (.out true))
 (.ret (.out (decide ((((a0.Shapes.getD ((x241).toNat) default).Points.length : Nat) : Int) > 8))))))) fun y341 =>
 .br y341
 (.ret (.fin 902))
 (.loop (fun (x349 : Int) => ⟨[(1, .ptr 0 0), (4, pz x241), (5, .ptr 1 0), (6, pz x349)], [(0, .box [.pure (encL 12 az9 a0.Robot.Joints), .pure (encL 5 azb a0.Robot.Masses), .pure (encL 3 azd a0.Shapes), .pure (encL 2 azq a0.Skips)]), (1, .box [pz ((a0.Shapes.getD ((x241).toNat) default).Link), pz ((a0.Shapes.getD ((x241).toNat) default).Radius), .pure (encL 3 az1 ((a0.Shapes.getD ((x241).toNat) default).Points))])], [], 2⟩)
 (.exit 2) (fun (_ : U0) => ⟨[(1, .ptr 0 0), (4, pz x241)], [(0, .box [.pure (encL 12 az9 a0.Robot.Joints), .pure (encL 5 azb a0.Robot.Masses), .pure (encL 3 azd a0.Shapes), .pure (encL 2 azq a0.Skips)])], [], 1⟩)
 (fun x349 => .br (decide (x349 < (((a0.Shapes.getD ((x241).toNat) default).Points.length : Nat) : Int)))
 (.grd (0 ≤ x349 ∧ x349 < (((a0.Shapes.getD ((x241).toNat) default).Points.length : Nat) : Int)) <|
 .call (dzy (((a0.Shapes.getD ((x241).toNat) default).Points).getD ((x349).toNat) default) 4194304) [] fun y358 =>
 .br (!y358)
 (.ret (.fin (.fin 805)))
 (.ret (.next (IntKind.i64.wrap (x349 + 1)))))
 (.ret (.out .u)))
 0 [] fun _ =>
 .ret (.next (IntKind.i64.wrap (x241 + 1)))))
 (.ret (.out .u)))
 0 [] fun _ =>
 .br (decide (((a0.Skips.length : Nat) : Int) > 64))
 (.ret 903)
 (.loop (fun (x419 : Int) => ⟨[(1, .ptr 0 0), (7, pz x419)], [(0, .box [.pure (encL 12 az9 a0.Robot.Joints), .pure (encL 5 azb a0.Robot.Masses), .pure (encL 3 azd a0.Shapes), .pure (encL 2 azq a0.Skips)])], [], 1⟩)
 (.exit 4) (fun (_ : U0) => ⟨[], [], [], 0⟩)
 (fun x419 => .br (decide (x419 < ((a0.Skips.length : Nat) : Int)))
 (.cut 1 (fun (y446 : Bool) => ⟨[(1, .ptr 0 0), (7, pz x419), (100, .pure (.bool y446))], [(0, .box [.pure (encL 12 az9 a0.Robot.Joints), .pure (encL 5 azb a0.Robot.Masses), .pure (encL 3 azd a0.Shapes), .pure (encL 2 azq a0.Skips)])], [], 1⟩)
 (.grd (0 ≤ x419 ∧ x419 < ((a0.Skips.length : Nat) : Int)) <|
 .call (dz7 a0.Robot ((a0.Skips.getD ((x419).toNat) default).A)) [] fun y447 =>
 .br (!y447)
 (.ret (.out true))
 (.grd (0 ≤ x419 ∧ x419 < ((a0.Skips.length : Nat) : Int)) <|
 .call (dz7 a0.Robot ((a0.Skips.getD ((x419).toNat) default).B)) [] fun y448 =>
 .ret (.out (!y448)))) fun y446 =>
 .br y446
 (.ret (.fin 903))
 (.ret (.next (IntKind.i64.wrap (x419 + 1)))))
 (.ret (.out .u)))
 0 [] fun _ =>
 .ret 0)))
noncomputable def ezb (a0 : aza) : CallS Int :=
  mkC [] hd Tryz.func70 (by kernel_rfl) (izp a0) 0 [.pure (cz0 a0)] [] (fun r => pz r) (fun _ => []) (by kernel_rfl)
noncomputable def oz7 (a0 : azm) (a1 : (List Int)) : T Bool :=
 .cut 2 (fun (y7 : Bool) => ⟨[(1, .pure (encL 1 az3 a1)), (2, .ptr 0 0), (16, .pure (.bool y7))], [(0, .box [.pure (encL 12 az9 a0.Joints), .pure (encL 5 azb a0.Masses)])], [], 1⟩)
 (.call (czq a0) [] fun y8 =>
 .br (y8 != 0)
 (.ret (.out true))
 (.ret (.out (((a1.length : Nat) : Int) != ((a0.Joints.length : Nat) : Int))))) fun y7 =>
 .br y7
 (.ret false)
 (.loop (fun (x21 : Int) => ⟨[(1, .pure (encL 1 az3 a1)), (2, .ptr 0 0), (5, pz x21)], [(0, .box [.pure (encL 12 az9 a0.Joints), .pure (encL 5 azb a0.Masses)])], [], 1⟩)
 (.exit 0) (fun (_ : U0) => ⟨[], [], [], 0⟩)
 (fun x21 => .br (decide (x21 < ((a1.length : Nat) : Int)))
 (.cut 1 (fun (y26 : Bool) => ⟨[(1, .pure (encL 1 az3 a1)), (2, .ptr 0 0), (5, pz x21), (46, .pure (.bool y26))], [(0, .box [.pure (encL 12 az9 a0.Joints), .pure (encL 5 azb a0.Masses)])], [], 1⟩)
 (.grd (0 ≤ x21 ∧ x21 < ((a1.length : Nat) : Int)) <|
 .grd (0 ≤ x21 ∧ x21 < ((a0.Joints.length : Nat) : Int)) <|
 .br (decide ((a1.getD ((x21).toNat) default) < ((a0.Joints.getD ((x21).toNat) default).Lo)))
 (.ret (.out true))
 (.grd (0 ≤ x21 ∧ x21 < ((a1.length : Nat) : Int)) <|
 .grd (0 ≤ x21 ∧ x21 < ((a0.Joints.length : Nat) : Int)) <|
 .ret (.out (decide ((a1.getD ((x21).toNat) default) > ((a0.Joints.getD ((x21).toNat) default).Hi)))))) fun y26 =>
 .br y26
 (.ret (.fin false))
 (.ret (.next (IntKind.i64.wrap (x21 + 1)))))
 (.ret (.out .u)))
 0 [] fun _ =>
 .ret true)
noncomputable def oz6 (a0 : azm) (a1 : (List Int)) : CallS Bool :=
  mkC [] hd Tryz.func41 (by kernel_rfl) (oz7 a0 a1) 0 [.pure (czo a0), .pure (encL 1 az3 a1)] [] (fun r => .pure (.bool r)) (fun _ => []) (by kernel_rfl)
noncomputable def qzy (a0 : aza) (a1 : (List Int)) (a2 : (List Int)) : T Bool :=
 .call (ezb (⟨a0.Robot, a0.Shapes, a0.Skips⟩ : aza)) [] fun y1 =>
 .br (y1 == 0)
 (.call (oz6 a0.Robot a1) [] fun y2 =>
 .br y2
 (.call (oz6 a0.Robot a2) [] fun y3 =>
 .ret y3)
 (.ret false))
 (.ret false)
noncomputable def yz4 (a0 : aza) (a1 : (List Int)) (a2 : (List Int)) : CallS Bool :=
  mkC [] hd Tryz.func45 (by kernel_rfl) (qzy a0 a1 a2) 0 [.pure (cz0 a0), .pure (encL 1 az3 a1), .pure (encL 1 az3 a2)] [] (fun r => .pure (.bool r)) (fun _ => []) (by kernel_rfl)
noncomputable def qzt (a0 : (List Int)) : T Bool :=
 .loop (fun (x13 : Int) => ⟨[(0, .pure (encL 1 az3 a0)), (3, pz x13)], [], [], 0⟩)
 (.exit 0) (fun (_ : U0) => ⟨[], [], [], 0⟩)
 (fun x13 => .br (decide (x13 < ((a0.length : Nat) : Int)))
 (.cut 1 (fun (y18 : Bool) => ⟨[(0, .pure (encL 1 az3 a0)), (3, pz x13), (21, .pure (.bool y18))], [], [], 0⟩)
 (.grd (0 ≤ x13 ∧ x13 < ((a0.length : Nat) : Int)) <|
 .br (decide ((a0.getD ((x13).toNat) default) < (-2147483648)))
 (.ret (.out true))
 (.grd (0 ≤ x13 ∧ x13 < ((a0.length : Nat) : Int)) <|
 .ret (.out (decide ((a0.getD ((x13).toNat) default) > 2147483648))))) fun y18 =>
 .br y18
 (.ret (.fin false))
 (.ret (.next (IntKind.i64.wrap (x13 + 1)))))
 (.ret (.out .u)))
 0 [] fun _ =>
 .ret true
noncomputable def qzs (a0 : (List Int)) : CallS Bool :=
  mkC [] hd Tryz.func81 (by kernel_rfl) (qzt a0) 0 [.pure (encL 1 az3 a0)] [] (fun r => .pure (.bool r)) (fun _ => []) (by kernel_rfl)
noncomputable def ozb (a0 : (List Int)) (a1 : (List Int)) (a2 : Int) : T Bool :=
 .call (qzs a0) [] fun y1 =>
 .br y1
 (.call (qzs a1) [] fun y2 =>
 .br y2
 (.br (((a0.length : Nat) : Int) == ((a1.length : Nat) : Int))
 (.br (decide (a2 ≥ 0))
 (.ret (decide (a2 ≤ 20)))
 (.ret false))
 (.ret false))
 (.ret false))
 (.ret false)
noncomputable def vzp (a0 : (List Int)) (a1 : (List Int)) (a2 : Int) : CallS Bool :=
  mkC [] hd Tryz.func83 (by kernel_rfl) (ozb a0 a1 a2) 0 [.pure (encL 1 az3 a0), .pure (encL 1 az3 a1), pz a2] [] (fun r => .pure (.bool r)) (fun _ => []) (by kernel_rfl)
noncomputable def tzs (a0 : Int) (a1 : Int) : T Int :=
 .grd (a1 ≠ 0) <|
 .cut 0 (fun (y1 : Int) => ⟨[(5, pz y1)], [], [], 0⟩)
 (.grd (a1 ≠ 0) <|
 .br (decide ((a0.tmod a1) < 0))
 (.ret (.out (IntKind.i64.wrap ((IntKind.i64.wrap (a0.tdiv a1)) - 1))))
 (.ret (.out (IntKind.i64.wrap (a0.tdiv a1))))) fun y1 =>
 .ret y1
noncomputable def azu (a0 : Int) (a1 : Int) : CallS Int :=
  mkC [] hd Tryz.func84 (by kernel_rfl) (tzs a0 a1) 0 [pz a0, pz a1] [] (fun r => pz r) (fun _ => []) (by kernel_rfl)
noncomputable def wzj (a0 : Int) (a1 : Int) : T Int :=
 .grd (a1 ≠ 0) <|
 .cut 0 (fun (y1 : Int) => ⟨[(5, pz y1)], [], [], 0⟩)
 (.grd (a1 ≠ 0) <|
 .br (decide ((a0.tmod a1) > 0))
 (.ret (.out (IntKind.i64.wrap ((IntKind.i64.wrap (a0.tdiv a1)) + 1))))
 (.ret (.out (IntKind.i64.wrap (a0.tdiv a1))))) fun y1 =>
 .ret y1
noncomputable def azo (a0 : Int) (a1 : Int) : CallS Int :=
  mkC [] hd Tryz.func100 (by kernel_rfl) (wzj a0 a1) 0 [pz a0, pz a1] [] (fun r => pz r) (fun _ => []) (by kernel_rfl)
noncomputable def qzq (a0 : (List Int)) (a1 : (List Int)) (a2 : Int) (a3 : Int) : T ((List az0) × Bool) :=
 .cut 2 (fun (y93 : Bool) => ⟨[(0, .pure (encL 1 az3 a0)), (1, .pure (encL 1 az3 a1)), (2, pz a2), (3, pz a3), (31, .pure (.bool y93))], [], [], 0⟩)
 (.call (vzp a0 a1 a2) [] fun y94 =>
 .br (!y94)
 (.ret (.out true))
 (.br (decide (a3 < 0))
 (.ret (.out true))
 (.grd (0 ≤ (IntKind.u64.wrap a2)) <|
 .ret (.out (decide (a3 ≥ (IntKind.i64.wrap (1 * 2 ^ (min ((IntKind.u64.wrap a2)).toNat 64))))))))) fun y93 =>
 .br y93
 (.ret (nl, false))
 (.grd (0 ≤ (IntKind.u64.wrap a2)) <|
 .loop (fun (x147 : ((List az0) × Int)) => ⟨[(0, .pure (encL 1 az3 a0)), (1, .pure (encL 1 az3 a1)), (3, pz a3), (10, pz (IntKind.i64.wrap (1 * 2 ^ (min ((IntKind.u64.wrap a2)).toNat 64)))), (11, .vec 0), (12, pz x147.2)], [(0, vecO 2 az4 x147.1 136)], [], 1⟩)
 (.exit 0) (fun (y160 : (List az0)) => ⟨[(11, .vec 0)], [(0, vecO 2 az4 y160 136)], [], 1⟩)
 (fun x147 => .br (decide (x147.2 < ((a0.length : Nat) : Int)))
 (.grd (0 ≤ x147.2 ∧ x147.2 < ((a1.length : Nat) : Int)) <|
 .grd (0 ≤ x147.2 ∧ x147.2 < ((a0.length : Nat) : Int)) <|
 .name 9006 ((IntKind.i64.wrap ((IntKind.i64.wrap (a3 + 1)) * (IntKind.i64.wrap ((a1.getD ((x147.2).toNat) default) - (a0.getD ((x147.2).toNat) default)))))) fun z168 =>
 .grd (0 ≤ x147.2 ∧ x147.2 < ((a0.length : Nat) : Int)) <|
 .name 10007 ((min (IntKind.i64.wrap (a3 * (IntKind.i64.wrap ((a1.getD ((x147.2).toNat) default) - (a0.getD ((x147.2).toNat) default))))) z168)) fun z169 =>
 .call (azu z169 (IntKind.i64.wrap (1 * 2 ^ (min ((IntKind.u64.wrap a2)).toNat 64)))) [] fun y170 =>
 .grd (0 ≤ x147.2 ∧ x147.2 < ((a0.length : Nat) : Int)) <|
 .name 10017 ((max (IntKind.i64.wrap (a3 * (IntKind.i64.wrap ((a1.getD ((x147.2).toNat) default) - (a0.getD ((x147.2).toNat) default))))) z168)) fun z171 =>
 .call (azo z171 (IntKind.i64.wrap (1 * 2 ^ (min ((IntKind.u64.wrap a2)).toNat 64)))) [] fun y172 =>
 .conv 10022 (dzo 2 az4 ([(⟨(IntKind.i64.wrap ((a0.getD ((x147.2).toNat) default) + y170)), (IntKind.i64.wrap ((a0.getD ((x147.2).toNat) default) + y172))⟩ : az0)] : (List az0)) 136) <|
 .conv 10023 (izb 2 az4 x147.1 ([(⟨(IntKind.i64.wrap ((a0.getD ((x147.2).toNat) default) + y170)), (IntKind.i64.wrap ((a0.getD ((x147.2).toNat) default) + y172))⟩ : az0)] : (List az0)) 136) <|
 .grd ((x147.1.length + ([(⟨(IntKind.i64.wrap ((a0.getD ((x147.2).toNat) default) + y170)), (IntKind.i64.wrap ((a0.getD ((x147.2).toNat) default) + y172))⟩ : az0)] : (List az0)).length) * 16 ≤ 140737488355328 ∧ (x147.1.length + ([(⟨(IntKind.i64.wrap ((a0.getD ((x147.2).toNat) default) + y170)), (IntKind.i64.wrap ((a0.getD ((x147.2).toNat) default) + y172))⟩ : az0)] : (List az0)).length) ≤ maxLen) <|
 .ret (.next ((x147.1 ++ ([(⟨(IntKind.i64.wrap ((a0.getD ((x147.2).toNat) default) + y170)), (IntKind.i64.wrap ((a0.getD ((x147.2).toNat) default) + y172))⟩ : az0)] : (List az0))), (IntKind.i64.wrap (x147.2 + 1)))))
 (.ret (.out x147.1)))
 (nl, 0) [] fun y160 =>
 .ret (y160, true))
noncomputable def xzy (a0 : (List Int)) (a1 : (List Int)) (a2 : Int) (a3 : Int) : CallS ((List az0) × Bool) :=
  mkC [] hd Tryz.func46 (by kernel_rfl) (qzq a0 a1 a2 a3) 0 [.pure (encL 1 az3 a0), .pure (encL 1 az3 a1), pz a2, pz a3] [] (fun r => .tup [.pure (encL 2 az4 r.1), .pure (.bool r.2)]) (fun _ => []) (by kernel_rfl)
noncomputable def tzz (a0 : az0) : T Bool :=
 .br (decide ((-2147483648) ≤ a0.Lo))
 (.br (decide (a0.Lo ≤ a0.Hi))
 (.ret (decide (a0.Hi ≤ 2147483648)))
 (.ret false))
 (.ret false)
noncomputable def czj (a0 : az0) : CallS Bool :=
  mkC [] hd Tryz.func211 (by kernel_rfl) (tzz a0) 0 [.pure (az4 a0)] [] (fun r => .pure (.bool r)) (fun _ => []) (by kernel_rfl)
noncomputable def kze (a0 : (List az0)) : T Bool :=
 .loop (fun (x21 : Int) => ⟨[(0, .pure (encL 2 az4 a0)), (3, pz x21)], [], [], 0⟩)
 (.exit 0) (fun (_ : U0) => ⟨[], [], [], 0⟩)
 (fun x21 => .br (decide (x21 < ((a0.length : Nat) : Int)))
 (.grd (0 ≤ x21 ∧ x21 < ((a0.length : Nat) : Int)) <|
 .call (czj (a0.getD ((x21).toNat) default)) [] fun y30 =>
 .br (!y30)
 (.ret (.fin false))
 (.ret (.next (IntKind.i64.wrap (x21 + 1)))))
 (.ret (.out .u)))
 0 [] fun _ =>
 .ret true
noncomputable def sz4 (a0 : (List az0)) : CallS Bool :=
  mkC [] hd Tryz.func202 (by kernel_rfl) (kze a0) 0 [.pure (encL 2 az4 a0)] [] (fun r => .pure (.bool r)) (fun _ => []) (by kernel_rfl)
noncomputable def qzl (a0 : azm) (a1 : (List az0)) : T Bool :=
 .br (((a1.length : Nat) : Int) == ((a0.Joints.length : Nat) : Int))
 (.call (sz4 a1) [] fun y1 =>
 .ret y1)
 (.ret false)
noncomputable def lz2 (a0 : azm) (a1 : (List az0)) : CallS Bool :=
  mkC [] hd Tryz.func147 (by kernel_rfl) (qzl a0 a1) 0 [.pure (czo a0), .pure (encL 2 az4 a1)] [] (fun r => .pure (.bool r)) (fun _ => []) (by kernel_rfl)
noncomputable def tzr (a0 : Int) : T Int :=
 .ret (max (-2147483648) (min a0 2147483648))
noncomputable def jzq (a0 : Int) : CallS Int :=
  mkC [] hd Tryz.func285 (by kernel_rfl) (tzr a0) 0 [pz a0] [] (fun r => pz r) (fun _ => []) (by kernel_rfl)
noncomputable def Dzb (a0 : Int) : T az0 :=
 .call (jzq a0) [] fun y1 =>
 .call (jzq a0) [] fun y2 =>
 .ret (⟨y1, y2⟩ : az0)
noncomputable def jzr (a0 : Int) : CallS az0 :=
  mkC [] hd Tryz.func266 (by kernel_rfl) (Dzb a0) 0 [pz a0] [] (fun r => .pure (az4 r)) (fun _ => []) (by kernel_rfl)
noncomputable def ref1_Unit_T : T ((az0 × az0 × az0) × (az0 × az0 × az0) × (az0 × az0 × az0)) :=
 .call (jzr 65536) [] fun y2 =>
 .ret ((y2, (⟨0, 0⟩ : az0), (⟨0, 0⟩ : az0)), ((⟨0, 0⟩ : az0), y2, (⟨0, 0⟩ : az0)), ((⟨0, 0⟩ : az0), (⟨0, 0⟩ : az0), y2))
noncomputable def ref1_Unit_C : CallS ((az0 × az0 × az0) × (az0 × az0 × az0) × (az0 × az0 × az0)) :=
  mkC [] hd Tryz.func241 (by kernel_rfl) (ref1_Unit_T) 0 [] [] (fun r => .pure (azx r)) (fun _ => []) (by kernel_rfl)
noncomputable def ref1_Rest_T : T azj :=
 .call (ref1_Unit_C) [] fun y1 =>
 .ret (⟨y1, ((⟨0, 0⟩ : az0), (⟨0, 0⟩ : az0), (⟨0, 0⟩ : az0))⟩ : azj)
noncomputable def ref1_Rest_C : CallS azj :=
  mkC [] hd Tryz.func204 (by kernel_rfl) (ref1_Rest_T) 0 [] [] (fun r => .pure (azz r)) (fun _ => []) (by kernel_rfl)
noncomputable def zzz (a0 : Int) : T Int :=
 .ok ((65536 : Int) ≠ 0) (by decide) <|
 .ok ((65536 : Int) ≠ 0) (by decide) <|
 .ret ((IntKind.i64.wrap ((a0.tmod 65536) + 65536)).tmod 65536)
noncomputable def uzq (a0 : Int) : CallS Int :=
  mkC [] hd Tryz.func308 (by kernel_rfl) (zzz a0) 0 [pz a0] [] (fun r => pz r) (fun _ => []) (by kernel_rfl)
noncomputable def rz5 (a0 : Int) : T ((Int × Int × Int × Int × Int × Int × Int × Int × Int × Int × Int) × (Int × Int × Int × Int × Int × Int × Int × Int × Int × Int × Int)) :=
 .call (azu (IntKind.i64.wrap (a0 * 6746518852)) 65536) [] fun y2 =>
 .ix 1 11 rfl <|
 .call (azo (IntKind.i64.wrap (a0 * 6746518853)) 65536) [] fun y4 =>
 .ix 1 11 rfl <|
 .unroll 10 <|
 .known true <|
 .lit 7002 (1) <|
 .ix 1 11 rfl <|
 .ix 1 11 rfl <|
 .call (azu (IntKind.i64.wrap (y2 * y2)) 1073741824) [] fun y79 =>
 .ix 2 11 rfl <|
 .lit 8002 (1) <|
 .ix 1 11 rfl <|
 .ix 1 11 rfl <|
 .call (azo (IntKind.i64.wrap (y4 * y4)) 1073741824) [] fun y80 =>
 .ix 2 11 rfl <|
 .lit 6001 (3) <|
 .known true <|
 .lit 7002 (2) <|
 .ix 2 11 rfl <|
 .ix 1 11 rfl <|
 .call (azu (IntKind.i64.wrap (y79 * y2)) 1073741824) [] fun y85 =>
 .ix 3 11 rfl <|
 .lit 8002 (2) <|
 .ix 2 11 rfl <|
 .ix 1 11 rfl <|
 .call (azo (IntKind.i64.wrap (y80 * y4)) 1073741824) [] fun y86 =>
 .ix 3 11 rfl <|
 .lit 6001 (4) <|
 .known true <|
 .lit 7002 (3) <|
 .ix 3 11 rfl <|
 .ix 1 11 rfl <|
 .call (azu (IntKind.i64.wrap (y85 * y2)) 1073741824) [] fun y91 =>
 .ix 4 11 rfl <|
 .lit 8002 (3) <|
 .ix 3 11 rfl <|
 .ix 1 11 rfl <|
 .call (azo (IntKind.i64.wrap (y86 * y4)) 1073741824) [] fun y92 =>
 .ix 4 11 rfl <|
 .lit 6001 (5) <|
 .known true <|
 .lit 7002 (4) <|
 .ix 4 11 rfl <|
 .ix 1 11 rfl <|
 .call (azu (IntKind.i64.wrap (y91 * y2)) 1073741824) [] fun y97 =>
 .ix 5 11 rfl <|
 .lit 8002 (4) <|
 .ix 4 11 rfl <|
 .ix 1 11 rfl <|
 .call (azo (IntKind.i64.wrap (y92 * y4)) 1073741824) [] fun y98 =>
 .ix 5 11 rfl <|
 .lit 6001 (6) <|
 .known true <|
 .lit 7002 (5) <|
 .ix 5 11 rfl <|
 .ix 1 11 rfl <|
 .call (azu (IntKind.i64.wrap (y97 * y2)) 1073741824) [] fun y103 =>
 .ix 6 11 rfl <|
 .lit 8002 (5) <|
 .ix 5 11 rfl <|
 .ix 1 11 rfl <|
 .call (azo (IntKind.i64.wrap (y98 * y4)) 1073741824) [] fun y104 =>
 .ix 6 11 rfl <|
 .lit 6001 (7) <|
 .known true <|
 .lit 7002 (6) <|
 .ix 6 11 rfl <|
 .ix 1 11 rfl <|
 .call (azu (IntKind.i64.wrap (y103 * y2)) 1073741824) [] fun y109 =>
 .ix 7 11 rfl <|
 .lit 8002 (6) <|
 .ix 6 11 rfl <|
 .ix 1 11 rfl <|
 .call (azo (IntKind.i64.wrap (y104 * y4)) 1073741824) [] fun y110 =>
 .ix 7 11 rfl <|
 .lit 6001 (8) <|
 .known true <|
 .lit 7002 (7) <|
 .ix 7 11 rfl <|
 .ix 1 11 rfl <|
 .call (azu (IntKind.i64.wrap (y109 * y2)) 1073741824) [] fun y115 =>
 .ix 8 11 rfl <|
 .lit 8002 (7) <|
 .ix 7 11 rfl <|
 .ix 1 11 rfl <|
 .call (azo (IntKind.i64.wrap (y110 * y4)) 1073741824) [] fun y116 =>
 .ix 8 11 rfl <|
 .lit 6001 (9) <|
 .known true <|
 .lit 7002 (8) <|
 .ix 8 11 rfl <|
 .ix 1 11 rfl <|
 .call (azu (IntKind.i64.wrap (y115 * y2)) 1073741824) [] fun y121 =>
 .ix 9 11 rfl <|
 .lit 8002 (8) <|
 .ix 8 11 rfl <|
 .ix 1 11 rfl <|
 .call (azo (IntKind.i64.wrap (y116 * y4)) 1073741824) [] fun y122 =>
 .ix 9 11 rfl <|
 .lit 6001 (10) <|
 .known true <|
 .lit 7002 (9) <|
 .ix 9 11 rfl <|
 .ix 1 11 rfl <|
 .call (azu (IntKind.i64.wrap (y121 * y2)) 1073741824) [] fun y127 =>
 .ix 10 11 rfl <|
 .lit 8002 (9) <|
 .ix 9 11 rfl <|
 .ix 1 11 rfl <|
 .call (azo (IntKind.i64.wrap (y122 * y4)) 1073741824) [] fun y128 =>
 .ix 10 11 rfl <|
 .lit 6001 (11) <|
 .known false <|
 .ret ((0, y2, y79, y85, y91, y97, y103, y109, y115, y121, y127), (0, y4, y80, y86, y92, y98, y104, y110, y116, y122, y128))
noncomputable def rz4 (a0 : Int) : CallS ((Int × Int × Int × Int × Int × Int × Int × Int × Int × Int × Int) × (Int × Int × Int × Int × Int × Int × Int × Int × Int × Int × Int)) :=
  mkC [] hd Tryz.func320 (by kernel_rfl) (rz5 a0) 0 [pz a0] [] (fun r => .tup [.pure (gz7 r.1), .pure (gz7 r.2)]) (fun _ => []) (by kernel_rfl)
noncomputable def kzh (a0 : Int) (a1 : Int) : T az0 :=
 .call (azu a0 16384) [] fun y1 =>
 .call (azo a1 16384) [] fun y2 =>
 .ret (⟨(max 0 y1), (min 65536 y2)⟩ : az0)
noncomputable def kzg (a0 : Int) (a1 : Int) : CallS az0 :=
  mkC [] hd Tryz.func321 (by kernel_rfl) (kzh a0 a1) 0 [pz a0, pz a1] [] (fun r => .pure (az4 r)) (fun _ => []) (by kernel_rfl)
noncomputable def wzp (a0 : Int) : T az0 :=
 .call (rz4 a0) [] fun y2 =>
 .ix 1 11 rfl <|
 .ix 3 11 rfl <|
 .call (azo y2.2.2.2.2.1 6) [] fun y6 =>
 .ix 5 11 rfl <|
 .call (azu y2.1.2.2.2.2.2.1 120) [] fun y7 =>
 .ix 7 11 rfl <|
 .call (azo y2.2.2.2.2.2.2.2.2.1 5040) [] fun y8 =>
 .ix 1 11 rfl <|
 .ix 3 11 rfl <|
 .call (azu y2.1.2.2.2.1 6) [] fun y13 =>
 .ix 5 11 rfl <|
 .call (azo y2.2.2.2.2.2.2.1 120) [] fun y14 =>
 .ix 7 11 rfl <|
 .call (azu y2.1.2.2.2.2.2.2.2.1 5040) [] fun y15 =>
 .ix 9 11 rfl <|
 .call (azo y2.2.2.2.2.2.2.2.2.2.2.1 362880) [] fun y16 =>
 .call (kzg (IntKind.i64.wrap ((IntKind.i64.wrap ((IntKind.i64.wrap (y2.1.2.1 - y6)) + y7)) - y8)) (IntKind.i64.wrap ((IntKind.i64.wrap ((IntKind.i64.wrap ((IntKind.i64.wrap (y2.2.2.1 - y13)) + y14)) - y15)) + y16))) [] fun y17 =>
 .ret y17
noncomputable def Dzh (a0 : Int) : CallS az0 :=
  mkC [] hd Tryz.func313 (by kernel_rfl) (wzp a0) 0 [pz a0] [] (fun r => .pure (az4 r)) (fun _ => []) (by kernel_rfl)
noncomputable def rz3 (a0 : Int) : T az0 :=
 .call (rz4 a0) [] fun y25 =>
 .ix 2 11 rfl <|
 .call (azo y25.2.2.2.1 2) [] fun y32 =>
 .ix 4 11 rfl <|
 .call (azu y25.1.2.2.2.2.1 24) [] fun y33 =>
 .ix 6 11 rfl <|
 .call (azo y25.2.2.2.2.2.2.2.1 720) [] fun y34 =>
 .ix 8 11 rfl <|
 .call (azu y25.1.2.2.2.2.2.2.2.2.1 40320) [] fun y35 =>
 .ix 10 11 rfl <|
 .call (azo y25.2.2.2.2.2.2.2.2.2.2.2 3628800) [] fun y36 =>
 .name 2019 ((IntKind.i64.wrap ((IntKind.i64.wrap ((IntKind.i64.wrap ((IntKind.i64.wrap ((IntKind.i64.wrap (1073741824 - y32)) + y33)) - y34)) + y35)) - y36))) fun z37 =>
 .ix 2 11 rfl <|
 .call (azu y25.1.2.2.1 2) [] fun y42 =>
 .ix 4 11 rfl <|
 .call (azo y25.2.2.2.2.2.1 24) [] fun y43 =>
 .ix 6 11 rfl <|
 .call (azu y25.1.2.2.2.2.2.2.1 720) [] fun y44 =>
 .ix 8 11 rfl <|
 .call (azo y25.2.2.2.2.2.2.2.2.2.1 40320) [] fun y45 =>
 .call (kzg z37 (IntKind.i64.wrap ((IntKind.i64.wrap ((IntKind.i64.wrap ((IntKind.i64.wrap (1073741824 - y42)) + y43)) - y44)) + y45))) [] fun y46 =>
 .ret y46
noncomputable def yz8 (a0 : Int) : CallS az0 :=
  mkC [] hd Tryz.func314 (by kernel_rfl) (rz3 a0) 0 [pz a0] [] (fun r => .pure (az4 r)) (fun _ => []) (by kernel_rfl)
noncomputable def ozg (a0 : Int) : T az0 :=
 .br (decide (a0 ≤ 8192))
 (.call (Dzh a0) [] fun y2 =>
 .ret y2)
 (.call (yz8 (IntKind.i64.wrap (16384 - a0))) [] fun y3 =>
 .ret y3)
noncomputable def gz4 (a0 : Int) : CallS az0 :=
  mkC [] hd Tryz.func309 (by kernel_rfl) (ozg a0) 0 [pz a0] [] (fun r => .pure (az4 r)) (fun _ => []) (by kernel_rfl)
noncomputable def Az2 (a0 : az0) : T az0 :=
 .call (czj a0) [] fun y4 =>
 .br (!y4)
 (.ret (⟨0, 0⟩ : az0))
 (.ret (⟨(IntKind.i64.wrap (0 - a0.Hi)), (IntKind.i64.wrap (0 - a0.Lo))⟩ : az0))
noncomputable def uzr (a0 : az0) : CallS az0 :=
  mkC [] hd Tryz.func297 (by kernel_rfl) (Az2 a0) 0 [.pure (az4 a0)] [] (fun r => .pure (az4 r)) (fun _ => []) (by kernel_rfl)
noncomputable def Az3 (a0 : Int) : T az0 :=
 .call (uzq a0) [] fun y2 =>
 .ok ((16384 : Int) ≠ 0) (by decide) <|
 .ok ((16384 : Int) ≠ 0) (by decide) <|
 .br ((IntKind.i64.wrap (y2.tdiv 16384)) == 0)
 (.call (gz4 (y2.tmod 16384)) [] fun y7 =>
 .ret y7)
 (.br ((IntKind.i64.wrap (y2.tdiv 16384)) == 1)
 (.call (gz4 (IntKind.i64.wrap (16384 - (y2.tmod 16384)))) [] fun y8 =>
 .ret y8)
 (.br ((IntKind.i64.wrap (y2.tdiv 16384)) == 2)
 (.call (gz4 (y2.tmod 16384)) [] fun y9 =>
 .call (uzr y9) [] fun y10 =>
 .ret y10)
 (.call (gz4 (IntKind.i64.wrap (16384 - (y2.tmod 16384)))) [] fun y11 =>
 .call (uzr y11) [] fun y12 =>
 .ret y12)))
noncomputable def uzs (a0 : Int) : CallS az0 :=
  mkC [] hd Tryz.func302 (by kernel_rfl) (Az3 a0) 0 [pz a0] [] (fun r => .pure (az4 r)) (fun _ => []) (by kernel_rfl)
noncomputable def zzx (a0 : Int) : T az0 :=
 .call (uzq a0) [] fun y1 =>
 .call (uzs (IntKind.i64.wrap (y1 + 16384))) [] fun y2 =>
 .ret y2
noncomputable def zzw (a0 : Int) : CallS az0 :=
  mkC [] hd Tryz.func301 (by kernel_rfl) (zzx a0) 0 [pz a0] [] (fun r => .pure (az4 r)) (fun _ => []) (by kernel_rfl)
noncomputable def wzk (a0 : az0) (a1 : az0) : T az0 :=
 .cut 2 (fun (y12 : Bool) => ⟨[(2, .ptr 0 0), (3, .ptr 1 0), (4, .ptr 2 0), (12, .pure (.bool y12))], [(0, .box [pz a0.Lo, pz a0.Hi]), (1, .box [pz a1.Lo, pz a1.Hi]), (2, .box [pz 0, pz 0])], [], 3⟩)
 (.call (czj a0) [] fun y13 =>
 .br (!y13)
 (.ret (.out true))
 (.call (czj a1) [] fun y14 =>
 .ret (.out (!y14)))) fun y12 =>
 .br y12
 (.ret (⟨0, 0⟩ : az0))
 (.ret (⟨(min a0.Lo a1.Lo), (max a0.Hi a1.Hi)⟩ : az0))
noncomputable def rz1 (a0 : az0) (a1 : az0) : CallS az0 :=
  mkC [] hd Tryz.func306 (by kernel_rfl) (wzk a0 a1) 0 [.pure (az4 a0), .pure (az4 a1)] [] (fun r => .pure (az4 r)) (fun _ => []) (by kernel_rfl)
noncomputable def uz1 (a0 : az0) (a1 : Int) : T Bool :=
 .call (uzq (IntKind.i64.wrap (a1 - a0.Lo))) [] fun y1 =>
 .ret (decide ((IntKind.i64.wrap (a0.Lo + y1)) ≤ a0.Hi))
noncomputable def uz0 (a0 : az0) (a1 : Int) : CallS Bool :=
  mkC [] hd Tryz.func307 (by kernel_rfl) (uz1 a0 a1) 0 [.pure (az4 a0), pz a1] [] (fun r => .pure (.bool r)) (fun _ => []) (by kernel_rfl)
noncomputable def wzo (a0 : az0) (a1 : az0) (a2 : az0) (a3 : Int) (a4 : Int) : T az0 :=
 .call (czj a0) [] fun y4 =>
 .br (!y4)
 (.ret (⟨0, 0⟩ : az0))
 (.br (decide ((IntKind.i64.wrap (a0.Hi - a0.Lo)) ≥ 65536))
 (.ret (⟨(-65536), 65536⟩ : az0))
 (.call (rz1 a1 a2) [] fun y6 =>
 .cut 0 (fun (y15 : (Int × Int)) => ⟨[(4, pz a4), (5, .ptr 0 0), (10, .ptr 1 0), (11, .ptr 2 0)], [(0, .box [pz a0.Lo, pz a0.Hi]), (1, .box [pz 0, pz 0]), (2, .box [pz y15.1, pz y15.2])], [], 3⟩)
 (.call (uz0 a0 a3) [] fun y17 =>
 .br y17
 (.call (jzr 65536) [] fun y18 =>
 .call (rz1 y6 y18) [] fun y19 =>
 .ret (.out (y19.Lo, y19.Hi)))
 (.ret (.out (y6.Lo, y6.Hi)))) fun y15 =>
 .cut 0 (fun (y28 : (Int × Int)) => ⟨[(10, .ptr 0 0), (11, .ptr 1 0)], [(0, .box [pz 0, pz 0]), (1, .box [pz y28.1, pz y28.2])], [], 2⟩)
 (.call (uz0 a0 a4) [] fun y30 =>
 .br y30
 (.call (jzr (-65536)) [] fun y31 =>
 .call (rz1 (⟨y15.1, y15.2⟩ : az0) y31) [] fun y32 =>
 .ret (.out (y32.Lo, y32.Hi)))
 (.ret (.out (y15.1, y15.2)))) fun y28 =>
 .ret (⟨y28.1, y28.2⟩ : az0)))
noncomputable def wzn (a0 : az0) (a1 : az0) (a2 : az0) (a3 : Int) (a4 : Int) : CallS az0 :=
  mkC [] hd Tryz.func300 (by kernel_rfl) (wzo a0 a1 a2 a3 a4) 0 [.pure (az4 a0), .pure (az4 a1), .pure (az4 a2), pz a3, pz a4] [] (fun r => .pure (az4 r)) (fun _ => []) (by kernel_rfl)
noncomputable def ozf (a0 : az0) : T az0 :=
 .call (zzw a0.Lo) [] fun y1 =>
 .call (zzw a0.Hi) [] fun y2 =>
 .call (wzn a0 (⟨y1.Lo, y1.Hi⟩ : az0) (⟨y2.Lo, y2.Hi⟩ : az0) 0 32768) [] fun y3 =>
 .ret y3
noncomputable def vzr (a0 : az0) : CallS az0 :=
  mkC [] hd Tryz.func295 (by kernel_rfl) (ozf a0) 0 [.pure (az4 a0)] [] (fun r => .pure (az4 r)) (fun _ => []) (by kernel_rfl)
noncomputable def ozh (a0 : az0) : T az0 :=
 .call (uzs a0.Lo) [] fun y1 =>
 .call (uzs a0.Hi) [] fun y2 =>
 .call (wzn a0 y1 y2 16384 49152) [] fun y3 =>
 .ret y3
noncomputable def vzt (a0 : az0) : CallS az0 :=
  mkC [] hd Tryz.func296 (by kernel_rfl) (ozh a0) 0 [.pure (az4 a0)] [] (fun r => .pure (az4 r)) (fun _ => []) (by kernel_rfl)
noncomputable def wzm (a0 : Int) (a1 : az0) : T ((az0 × az0 × az0) × (az0 × az0 × az0) × (az0 × az0 × az0)) :=
 .call (czj a1) [] fun y4 =>
 .br (!y4)
 (.ret (((⟨0, 0⟩ : az0), (⟨0, 0⟩ : az0), (⟨0, 0⟩ : az0)), ((⟨0, 0⟩ : az0), (⟨0, 0⟩ : az0), (⟨0, 0⟩ : az0)), ((⟨0, 0⟩ : az0), (⟨0, 0⟩ : az0), (⟨0, 0⟩ : az0))))
 (.call (jzr 65536) [] fun y8 =>
 .call (vzr (⟨a1.Lo, a1.Hi⟩ : az0)) [] fun y9 =>
 .call (vzt (⟨a1.Lo, a1.Hi⟩ : az0)) [] fun y10 =>
 .call (uzr y10) [] fun y12 =>
 .br (a0 == 0)
 (.ret ((y8, (⟨0, 0⟩ : az0), (⟨0, 0⟩ : az0)), ((⟨0, 0⟩ : az0), y9, y12), ((⟨0, 0⟩ : az0), y10, y9)))
 (.br (a0 == 1)
 (.ret ((y9, (⟨0, 0⟩ : az0), y10), ((⟨0, 0⟩ : az0), y8, (⟨0, 0⟩ : az0)), (y12, (⟨0, 0⟩ : az0), y9)))
 (.br (a0 == 2)
 (.ret ((y9, y12, (⟨0, 0⟩ : az0)), (y10, y9, (⟨0, 0⟩ : az0)), ((⟨0, 0⟩ : az0), (⟨0, 0⟩ : az0), y8)))
 (.ret (((⟨0, 0⟩ : az0), (⟨0, 0⟩ : az0), (⟨0, 0⟩ : az0)), ((⟨0, 0⟩ : az0), (⟨0, 0⟩ : az0), (⟨0, 0⟩ : az0)), ((⟨0, 0⟩ : az0), (⟨0, 0⟩ : az0), (⟨0, 0⟩ : az0)))))))
noncomputable def Dze (a0 : Int) (a1 : az0) : CallS ((az0 × az0 × az0) × (az0 × az0 × az0) × (az0 × az0 × az0)) :=
 mkC [] hd Tryz.func282 (by kernel_rfl) (wzm a0 a1) 0 [pz a0, .pure (az4 a1)] [] (fun r => .pure (azx r)) (fun _ => []) (by kernel_rfl)
noncomputable def mz5 (a0 : Int) (a1 : az0) : T azj :=
 .call (Dze a0 (⟨a1.Lo, a1.Hi⟩ : az0)) [] fun y1 =>
 .ret (⟨y1, ((⟨0, 0⟩ : az0), (⟨0, 0⟩ : az0), (⟨0, 0⟩ : az0))⟩ : azj)
noncomputable def tzy (a0 : Int) (a1 : az0) : CallS azj :=
 mkC [] hd Tryz.func261 (by kernel_rfl) (mz5 a0 a1) 0 [pz a0, .pure (az4 a1)] [] (fun r => .pure (azz r)) (fun _ => []) (by kernel_rfl)
noncomputable def tzw (a0 : (az0 × az0 × az0)) : T azj :=
 .call (ref1_Unit_C) [] fun y1 =>
 .ret (⟨y1, a0⟩ : azj)
noncomputable def tzv (a0 : (az0 × az0 × az0)) : CallS azj :=
  mkC [] hd Tryz.func262 (by kernel_rfl) (tzw a0) 0 [.pure (az2 a0)] [] (fun r => .pure (azz r)) (fun _ => []) (by kernel_rfl)
noncomputable def tzu (a0 : (Int × Int × Int)) : T (az0 × az0 × az0) :=
 .ix 0 3 rfl <|
 .call (jzr a0.1) [] fun y1 =>
 .ix 1 3 rfl <|
 .call (jzr a0.2.1) [] fun y2 =>
 .ix 2 3 rfl <|
 .call (jzr a0.2.2) [] fun y3 =>
 .ret (y1, y2, y3)
noncomputable def tzt (a0 : (Int × Int × Int)) : CallS (az0 × az0 × az0) :=
  mkC [] hd Tryz.func244 (by kernel_rfl) (tzu a0) 0 [.pure (az1 a0)] [] (fun r => .pure (az2 r)) (fun _ => []) (by kernel_rfl)
noncomputable def ozj (a0 : Int) (a1 : Int) : T az0 :=
 .call (jzq a0) [] fun y1 =>
 .call (jzq a1) [] fun y2 =>
 .ret (⟨y1, y2⟩ : az0)
noncomputable def ozi (a0 : Int) (a1 : Int) : CallS az0 :=
  mkC [] hd Tryz.func298 (by kernel_rfl) (ozj a0 a1) 0 [pz a0, pz a1] [] (fun r => .pure (az4 r)) (fun _ => []) (by kernel_rfl)
noncomputable def Az1 (a0 : az0) (a1 : az0) : T az0 :=
 .cut 2 (fun (y31 : Bool) => ⟨[(2, .ptr 0 0), (3, .ptr 1 0), (4, .ptr 2 0), (16, .pure (.bool y31))], [(0, .box [pz a0.Lo, pz a0.Hi]), (1, .box [pz a1.Lo, pz a1.Hi]), (2, .box [pz 0, pz 0])], [], 3⟩)
 (.call (czj (⟨a0.Lo, a0.Hi⟩ : az0)) [] fun y32 =>
 .br (!y32)
 (.ret (.out true))
 (.call (czj (⟨a1.Lo, a1.Hi⟩ : az0)) [] fun y33 =>
 .ret (.out (!y33)))) fun y31 =>
 .br y31
 (.ret (⟨0, 0⟩ : az0))
 (.name 4004 ((min (min (min (IntKind.i64.wrap (a0.Lo * a1.Lo)) (IntKind.i64.wrap (a0.Lo * a1.Hi))) (IntKind.i64.wrap (a0.Hi * a1.Lo))) (IntKind.i64.wrap (a0.Hi * a1.Hi)))) fun z34 =>
 .call (azu z34 65536) [] fun y35 =>
 .name 4010 ((max (max (max (IntKind.i64.wrap (a0.Lo * a1.Lo)) (IntKind.i64.wrap (a0.Lo * a1.Hi))) (IntKind.i64.wrap (a0.Hi * a1.Lo))) (IntKind.i64.wrap (a0.Hi * a1.Hi)))) fun z36 =>
 .call (azo z36 65536) [] fun y37 =>
 .call (ozi y35 y37) [] fun y38 =>
 .ret y38)
noncomputable def azp (a0 : az0) (a1 : az0) : CallS az0 :=
  mkC [] hd Tryz.func284 (by kernel_rfl) (Az1 a0 a1) 0 [.pure (az4 a0), .pure (az4 a1)] [] (fun r => .pure (az4 r)) (fun _ => []) (by kernel_rfl)
noncomputable def zzt (a0 : az0) (a1 : az0) : T az0 :=
 .cut 2 (fun (y12 : Bool) => ⟨[(2, .ptr 0 0), (3, .ptr 1 0), (4, .ptr 2 0), (12, .pure (.bool y12))], [(0, .box [pz a0.Lo, pz a0.Hi]), (1, .box [pz a1.Lo, pz a1.Hi]), (2, .box [pz 0, pz 0])], [], 3⟩)
 (.call (czj a0) [] fun y13 =>
 .br (!y13)
 (.ret (.out true))
 (.call (czj a1) [] fun y14 =>
 .ret (.out (!y14)))) fun y12 =>
 .br y12
 (.ret (⟨0, 0⟩ : az0))
 (.call (ozi (IntKind.i64.wrap (a0.Lo + a1.Lo)) (IntKind.i64.wrap (a0.Hi + a1.Hi))) [] fun y15 =>
 .ret y15)
noncomputable def azy (a0 : az0) (a1 : az0) : CallS az0 :=
  mkC [] hd Tryz.func283 (by kernel_rfl) (zzt a0 a1) 0 [.pure (az4 a0), .pure (az4 a1)] [] (fun r => .pure (az4 r)) (fun _ => []) (by kernel_rfl)
noncomputable def izn (a0 : ((az0 × az0 × az0) × (az0 × az0 × az0) × (az0 × az0 × az0))) (a1 : ((az0 × az0 × az0) × (az0 × az0 × az0) × (az0 × az0 × az0))) : T ((az0 × az0 × az0) × (az0 × az0 × az0) × (az0 × az0 × az0)) :=
 .unroll 4 <|
 .known true <|
 .unroll 4 <|
 .known true <|
 .ix 0 3 rfl <|
 .ix 0 3 rfl <|
 .ix 0 3 rfl <|
 .ix 0 3 rfl <|
 .call (azp a0.1.1 a1.1.1) [] fun y946 =>
 .ix 0 3 rfl <|
 .ix 1 3 rfl <|
 .ix 1 3 rfl <|
 .ix 0 3 rfl <|
 .call (azp a0.1.2.1 a1.2.1.1) [] fun y947 =>
 .call (azy y946 y947) [] fun y948 =>
 .ix 0 3 rfl <|
 .ix 2 3 rfl <|
 .ix 2 3 rfl <|
 .ix 0 3 rfl <|
 .call (azp a0.1.2.2 a1.2.2.1) [] fun y949 =>
 .call (azy y948 y949) [] fun y950 =>
 .ix 0 3 rfl <|
 .ix 0 3 rfl <|
 .lit 7001 (1) <|
 .known true <|
 .ix 0 3 rfl <|
 .ix 0 3 rfl <|
 .ix 0 3 rfl <|
 .ix 1 3 rfl <|
 .call (azp a0.1.1 a1.1.2.1) [] fun y966 =>
 .ix 0 3 rfl <|
 .ix 1 3 rfl <|
 .ix 1 3 rfl <|
 .ix 1 3 rfl <|
 .call (azp a0.1.2.1 a1.2.1.2.1) [] fun y967 =>
 .call (azy y966 y967) [] fun y968 =>
 .ix 0 3 rfl <|
 .ix 2 3 rfl <|
 .ix 2 3 rfl <|
 .ix 1 3 rfl <|
 .call (azp a0.1.2.2 a1.2.2.2.1) [] fun y969 =>
 .call (azy y968 y969) [] fun y970 =>
 .ix 0 3 rfl <|
 .ix 1 3 rfl <|
 .lit 7001 (2) <|
 .known true <|
 .ix 0 3 rfl <|
 .ix 0 3 rfl <|
 .ix 0 3 rfl <|
 .ix 2 3 rfl <|
 .call (azp a0.1.1 a1.1.2.2) [] fun y986 =>
 .ix 0 3 rfl <|
 .ix 1 3 rfl <|
 .ix 1 3 rfl <|
 .ix 2 3 rfl <|
 .call (azp a0.1.2.1 a1.2.1.2.2) [] fun y987 =>
 .call (azy y986 y987) [] fun y988 =>
 .ix 0 3 rfl <|
 .ix 2 3 rfl <|
 .ix 2 3 rfl <|
 .ix 2 3 rfl <|
 .call (azp a0.1.2.2 a1.2.2.2.2) [] fun y989 =>
 .call (azy y988 y989) [] fun y990 =>
 .ix 0 3 rfl <|
 .ix 2 3 rfl <|
 .lit 7001 (3) <|
 .known false <|
 .lit 4001 (1) <|
 .known true <|
 .unroll 4 <|
 .known true <|
 .ix 1 3 rfl <|
 .ix 0 3 rfl <|
 .ix 0 3 rfl <|
 .ix 0 3 rfl <|
 .call (azp a0.2.1.1 a1.1.1) [] fun y1110 =>
 .ix 1 3 rfl <|
 .ix 1 3 rfl <|
 .ix 1 3 rfl <|
 .ix 0 3 rfl <|
 .call (azp a0.2.1.2.1 a1.2.1.1) [] fun y1111 =>
 .call (azy y1110 y1111) [] fun y1112 =>
 .ix 1 3 rfl <|
 .ix 2 3 rfl <|
 .ix 2 3 rfl <|
 .ix 0 3 rfl <|
 .call (azp a0.2.1.2.2 a1.2.2.1) [] fun y1113 =>
 .call (azy y1112 y1113) [] fun y1114 =>
 .ix 1 3 rfl <|
 .ix 0 3 rfl <|
 .lit 7001 (1) <|
 .known true <|
 .ix 1 3 rfl <|
 .ix 0 3 rfl <|
 .ix 0 3 rfl <|
 .ix 1 3 rfl <|
 .call (azp a0.2.1.1 a1.1.2.1) [] fun y1130 =>
 .ix 1 3 rfl <|
 .ix 1 3 rfl <|
 .ix 1 3 rfl <|
 .ix 1 3 rfl <|
 .call (azp a0.2.1.2.1 a1.2.1.2.1) [] fun y1131 =>
 .call (azy y1130 y1131) [] fun y1132 =>
 .ix 1 3 rfl <|
 .ix 2 3 rfl <|
 .ix 2 3 rfl <|
 .ix 1 3 rfl <|
 .call (azp a0.2.1.2.2 a1.2.2.2.1) [] fun y1133 =>
 .call (azy y1132 y1133) [] fun y1134 =>
 .ix 1 3 rfl <|
 .ix 1 3 rfl <|
 .lit 7001 (2) <|
 .known true <|
 .ix 1 3 rfl <|
 .ix 0 3 rfl <|
 .ix 0 3 rfl <|
 .ix 2 3 rfl <|
 .call (azp a0.2.1.1 a1.1.2.2) [] fun y1150 =>
 .ix 1 3 rfl <|
 .ix 1 3 rfl <|
 .ix 1 3 rfl <|
 .ix 2 3 rfl <|
 .call (azp a0.2.1.2.1 a1.2.1.2.2) [] fun y1151 =>
 .call (azy y1150 y1151) [] fun y1152 =>
 .ix 1 3 rfl <|
 .ix 2 3 rfl <|
 .ix 2 3 rfl <|
 .ix 2 3 rfl <|
 .call (azp a0.2.1.2.2 a1.2.2.2.2) [] fun y1153 =>
 .call (azy y1152 y1153) [] fun y1154 =>
 .ix 1 3 rfl <|
 .ix 2 3 rfl <|
 .lit 7001 (3) <|
 .known false <|
 .lit 4001 (2) <|
 .known true <|
 .unroll 4 <|
 .known true <|
 .ix 2 3 rfl <|
 .ix 0 3 rfl <|
 .ix 0 3 rfl <|
 .ix 0 3 rfl <|
 .call (azp a0.2.2.1 a1.1.1) [] fun y1274 =>
 .ix 2 3 rfl <|
 .ix 1 3 rfl <|
 .ix 1 3 rfl <|
 .ix 0 3 rfl <|
 .call (azp a0.2.2.2.1 a1.2.1.1) [] fun y1275 =>
 .call (azy y1274 y1275) [] fun y1276 =>
 .ix 2 3 rfl <|
 .ix 2 3 rfl <|
 .ix 2 3 rfl <|
 .ix 0 3 rfl <|
 .call (azp a0.2.2.2.2 a1.2.2.1) [] fun y1277 =>
 .call (azy y1276 y1277) [] fun y1278 =>
 .ix 2 3 rfl <|
 .ix 0 3 rfl <|
 .lit 7001 (1) <|
 .known true <|
 .ix 2 3 rfl <|
 .ix 0 3 rfl <|
 .ix 0 3 rfl <|
 .ix 1 3 rfl <|
 .call (azp a0.2.2.1 a1.1.2.1) [] fun y1294 =>
 .ix 2 3 rfl <|
 .ix 1 3 rfl <|
 .ix 1 3 rfl <|
 .ix 1 3 rfl <|
 .call (azp a0.2.2.2.1 a1.2.1.2.1) [] fun y1295 =>
 .call (azy y1294 y1295) [] fun y1296 =>
 .ix 2 3 rfl <|
 .ix 2 3 rfl <|
 .ix 2 3 rfl <|
 .ix 1 3 rfl <|
 .call (azp a0.2.2.2.2 a1.2.2.2.1) [] fun y1297 =>
 .call (azy y1296 y1297) [] fun y1298 =>
 .ix 2 3 rfl <|
 .ix 1 3 rfl <|
 .lit 7001 (2) <|
 .known true <|
 .ix 2 3 rfl <|
 .ix 0 3 rfl <|
 .ix 0 3 rfl <|
 .ix 2 3 rfl <|
 .call (azp a0.2.2.1 a1.1.2.2) [] fun y1314 =>
 .ix 2 3 rfl <|
 .ix 1 3 rfl <|
 .ix 1 3 rfl <|
 .ix 2 3 rfl <|
 .call (azp a0.2.2.2.1 a1.2.1.2.2) [] fun y1315 =>
 .call (azy y1314 y1315) [] fun y1316 =>
 .ix 2 3 rfl <|
 .ix 2 3 rfl <|
 .ix 2 3 rfl <|
 .ix 2 3 rfl <|
 .call (azp a0.2.2.2.2 a1.2.2.2.2) [] fun y1317 =>
 .call (azy y1316 y1317) [] fun y1318 =>
 .ix 2 3 rfl <|
 .ix 2 3 rfl <|
 .lit 7001 (3) <|
 .known false <|
 .lit 4001 (3) <|
 .known false <|
 .ret (((⟨(max (-65536) (min y950.Lo 65536)), (max (-65536) (min y950.Hi 65536))⟩ : az0), (⟨(max (-65536) (min y970.Lo 65536)), (max (-65536) (min y970.Hi 65536))⟩ : az0), (⟨(max (-65536) (min y990.Lo 65536)), (max (-65536) (min y990.Hi 65536))⟩ : az0)), ((⟨(max (-65536) (min y1114.Lo 65536)), (max (-65536) (min y1114.Hi 65536))⟩ : az0), (⟨(max (-65536) (min y1134.Lo 65536)), (max (-65536) (min y1134.Hi 65536))⟩ : az0), (⟨(max (-65536) (min y1154.Lo 65536)), (max (-65536) (min y1154.Hi 65536))⟩ : az0)), ((⟨(max (-65536) (min y1278.Lo 65536)), (max (-65536) (min y1278.Hi 65536))⟩ : az0), (⟨(max (-65536) (min y1298.Lo 65536)), (max (-65536) (min y1298.Hi 65536))⟩ : az0), (⟨(max (-65536) (min y1318.Lo 65536)), (max (-65536) (min y1318.Hi 65536))⟩ : az0)))
noncomputable def pzf (a0 : ((az0 × az0 × az0) × (az0 × az0 × az0) × (az0 × az0 × az0))) (a1 : ((az0 × az0 × az0) × (az0 × az0 × az0) × (az0 × az0 × az0))) : CallS ((az0 × az0 × az0) × (az0 × az0 × az0) × (az0 × az0 × az0)) :=
  mkC [] hd Tryz.func263 (by kernel_rfl) (izn a0 a1) 0 [.pure (azx a0), .pure (azx a1)] [] (fun r => .pure (azx r)) (fun _ => []) (by kernel_rfl)
noncomputable def mz3 (a0 : ((az0 × az0 × az0) × (az0 × az0 × az0) × (az0 × az0 × az0))) (a1 : (az0 × az0 × az0)) : T (az0 × az0 × az0) :=
 .unroll 4 <|
 .known true <|
 .ix 0 3 rfl <|
 .ix 0 3 rfl <|
 .ix 0 3 rfl <|
 .call (azp a0.1.1 a1.1) [] fun y60 =>
 .ix 0 3 rfl <|
 .ix 1 3 rfl <|
 .ix 1 3 rfl <|
 .call (azp a0.1.2.1 a1.2.1) [] fun y61 =>
 .call (azy y60 y61) [] fun y62 =>
 .ix 0 3 rfl <|
 .ix 2 3 rfl <|
 .ix 2 3 rfl <|
 .call (azp a0.1.2.2 a1.2.2) [] fun y63 =>
 .call (azy y62 y63) [] fun y64 =>
 .ix 0 3 rfl <|
 .lit 4001 (1) <|
 .known true <|
 .ix 1 3 rfl <|
 .ix 0 3 rfl <|
 .ix 0 3 rfl <|
 .call (azp a0.2.1.1 a1.1) [] fun y70 =>
 .ix 1 3 rfl <|
 .ix 1 3 rfl <|
 .ix 1 3 rfl <|
 .call (azp a0.2.1.2.1 a1.2.1) [] fun y71 =>
 .call (azy y70 y71) [] fun y72 =>
 .ix 1 3 rfl <|
 .ix 2 3 rfl <|
 .ix 2 3 rfl <|
 .call (azp a0.2.1.2.2 a1.2.2) [] fun y73 =>
 .call (azy y72 y73) [] fun y74 =>
 .ix 1 3 rfl <|
 .lit 4001 (2) <|
 .known true <|
 .ix 2 3 rfl <|
 .ix 0 3 rfl <|
 .ix 0 3 rfl <|
 .call (azp a0.2.2.1 a1.1) [] fun y80 =>
 .ix 2 3 rfl <|
 .ix 1 3 rfl <|
 .ix 1 3 rfl <|
 .call (azp a0.2.2.2.1 a1.2.1) [] fun y81 =>
 .call (azy y80 y81) [] fun y82 =>
 .ix 2 3 rfl <|
 .ix 2 3 rfl <|
 .ix 2 3 rfl <|
 .call (azp a0.2.2.2.2 a1.2.2) [] fun y83 =>
 .call (azy y82 y83) [] fun y84 =>
 .ix 2 3 rfl <|
 .lit 4001 (3) <|
 .known false <|
 .ret (y64, y74, y84)
noncomputable def mz2 (a0 : ((az0 × az0 × az0) × (az0 × az0 × az0) × (az0 × az0 × az0))) (a1 : (az0 × az0 × az0)) : CallS (az0 × az0 × az0) :=
  mkC [] hd Tryz.func265 (by kernel_rfl) (mz3 a0 a1) 0 [.pure (azx a0), .pure (az2 a1)] [] (fun r => .pure (az2 r)) (fun _ => []) (by kernel_rfl)
noncomputable def rz0 (a0 : (az0 × az0 × az0)) (a1 : (az0 × az0 × az0)) : T (az0 × az0 × az0) :=
 .ix 0 3 rfl <|
 .ix 0 3 rfl <|
 .call (azy a0.1 a1.1) [] fun y1 =>
 .ix 1 3 rfl <|
 .ix 1 3 rfl <|
 .call (azy a0.2.1 a1.2.1) [] fun y2 =>
 .ix 2 3 rfl <|
 .ix 2 3 rfl <|
 .call (azy a0.2.2 a1.2.2) [] fun y3 =>
 .ret (y1, y2, y3)
noncomputable def qzz (a0 : (az0 × az0 × az0)) (a1 : (az0 × az0 × az0)) : CallS (az0 × az0 × az0) :=
  mkC [] hd Tryz.func264 (by kernel_rfl) (rz0 a0 a1) 0 [.pure (az2 a0), .pure (az2 a1)] [] (fun r => .pure (az2 r)) (fun _ => []) (by kernel_rfl)
noncomputable def oze (a0 : azj) (a1 : azj) : T azj :=
 .call (pzf a0.R a1.R) [] fun y1 =>
 .call (mz2 a0.R a1.T) [] fun y2 =>
 .call (qzz a0.T (y2.1, y2.2.1, y2.2.2)) [] fun y3 =>
 .ret (⟨(y1.1, y1.2.1, y1.2.2), y3⟩ : azj)
noncomputable def ozd (a0 : azj) (a1 : azj) : CallS azj :=
  mkC [] hd Tryz.func240 (by kernel_rfl) (oze a0 a1) 0 [.pure (azz a0), .pure (azz a1)] [] (fun r => .pure (azz r)) (fun _ => []) (by kernel_rfl)
open Go.Proofs
set_option maxHeartbeats 8000000 in
set_option maxRecDepth 20000 in
noncomputable def qzn (a0 : azi) (a1 : az0) : T azj :=
 .call (ref1_Rest_C) [] fun y2 =>
 .cut 0 (fun (y13 : (Int × Int × Int × Int × Int × Int × Int × Int × Int × Int × Int × Int × Int × Int × Int × Int × Int × Int × Int × Int × Int × Int × Int × Int)) => ⟨[(2, .ptr 0 0), (4, .ptr 1 0), (5, .ptr 2 0)], [(0, .box [.pure (.str a0.Name), pz a0.Kind, pz a0.Parent, pz a0.Offset.1, pz a0.Offset.2.1, pz a0.Offset.2.2, pz a0.Lo, pz a0.Hi, pz a0.Weight, pz a0.Speed, pz a0.Accel, pz a0.Torque]), (1, .box [pz 0, pz 0, pz 0, pz 0, pz 0, pz 0, pz 0, pz 0, pz 0, pz 0, pz 0, pz 0, pz 0, pz 0, pz 0, pz 0, pz 0, pz 0, pz 0, pz 0, pz 0, pz 0, pz 0, pz 0]), (2, .box [pz y13.1, pz y13.2.1, pz y13.2.2.1, pz y13.2.2.2.1, pz y13.2.2.2.2.1, pz y13.2.2.2.2.2.1, pz y13.2.2.2.2.2.2.1, pz y13.2.2.2.2.2.2.2.1, pz y13.2.2.2.2.2.2.2.2.1, pz y13.2.2.2.2.2.2.2.2.2.1, pz y13.2.2.2.2.2.2.2.2.2.2.1, pz y13.2.2.2.2.2.2.2.2.2.2.2.1, pz y13.2.2.2.2.2.2.2.2.2.2.2.2.1, pz y13.2.2.2.2.2.2.2.2.2.2.2.2.2.1, pz y13.2.2.2.2.2.2.2.2.2.2.2.2.2.2.1, pz y13.2.2.2.2.2.2.2.2.2.2.2.2.2.2.2.1, pz y13.2.2.2.2.2.2.2.2.2.2.2.2.2.2.2.2.1, pz y13.2.2.2.2.2.2.2.2.2.2.2.2.2.2.2.2.2.1, pz y13.2.2.2.2.2.2.2.2.2.2.2.2.2.2.2.2.2.2.1, pz y13.2.2.2.2.2.2.2.2.2.2.2.2.2.2.2.2.2.2.2.1, pz y13.2.2.2.2.2.2.2.2.2.2.2.2.2.2.2.2.2.2.2.2.1, pz y13.2.2.2.2.2.2.2.2.2.2.2.2.2.2.2.2.2.2.2.2.2.1, pz y13.2.2.2.2.2.2.2.2.2.2.2.2.2.2.2.2.2.2.2.2.2.2.1, pz y13.2.2.2.2.2.2.2.2.2.2.2.2.2.2.2.2.2.2.2.2.2.2.2])], [], 3⟩)
 (.cut 1 (fun (y14 : Bool) => ⟨[(2, .ptr 0 0), (3, .ptr 1 0), (4, .ptr 2 0), (5, .ptr 3 0), (9, pz a0.Kind), (10, .pure (.bool y14))], [(0, .box [.pure (.str a0.Name), pz a0.Kind, pz a0.Parent, pz a0.Offset.1, pz a0.Offset.2.1, pz a0.Offset.2.2, pz a0.Lo, pz a0.Hi, pz a0.Weight, pz a0.Speed, pz a0.Accel, pz a0.Torque]), (1, .box [pz a1.Lo, pz a1.Hi]), (2, .box [pz 0, pz 0, pz 0, pz 0, pz 0, pz 0, pz 0, pz 0, pz 0, pz 0, pz 0, pz 0, pz 0, pz 0, pz 0, pz 0, pz 0, pz 0, pz 0, pz 0, pz 0, pz 0, pz 0, pz 0]), (3, .box [pz y2.R.1.1.Lo, pz y2.R.1.1.Hi, pz y2.R.1.2.1.Lo, pz y2.R.1.2.1.Hi, pz y2.R.1.2.2.Lo, pz y2.R.1.2.2.Hi, pz y2.R.2.1.1.Lo, pz y2.R.2.1.1.Hi, pz y2.R.2.1.2.1.Lo, pz y2.R.2.1.2.1.Hi, pz y2.R.2.1.2.2.Lo, pz y2.R.2.1.2.2.Hi, pz y2.R.2.2.1.Lo, pz y2.R.2.2.1.Hi, pz y2.R.2.2.2.1.Lo, pz y2.R.2.2.2.1.Hi, pz y2.R.2.2.2.2.Lo, pz y2.R.2.2.2.2.Hi, pz y2.T.1.Lo, pz y2.T.1.Hi, pz y2.T.2.1.Lo, pz y2.T.2.1.Hi, pz y2.T.2.2.Lo, pz y2.T.2.2.Hi])], [], 4⟩)
 (.br (a0.Kind == 1)
 (.ret (.out (a0.Kind == 1)))
 (.br (a0.Kind == 2)
 (.ret (.out (a0.Kind == 2)))
 (.ret (.out (a0.Kind == 3))))) fun y14 =>
 .br y14
 (.call (tzy (IntKind.i64.wrap (a0.Kind - 1)) (⟨a1.Lo, a1.Hi⟩ : az0)) [] fun y15 =>
 .ret (.out (y15.R.1.1.Lo, y15.R.1.1.Hi, y15.R.1.2.1.Lo, y15.R.1.2.1.Hi, y15.R.1.2.2.Lo, y15.R.1.2.2.Hi, y15.R.2.1.1.Lo, y15.R.2.1.1.Hi, y15.R.2.1.2.1.Lo, y15.R.2.1.2.1.Hi, y15.R.2.1.2.2.Lo, y15.R.2.1.2.2.Hi, y15.R.2.2.1.Lo, y15.R.2.2.1.Hi, y15.R.2.2.2.1.Lo, y15.R.2.2.2.1.Hi, y15.R.2.2.2.2.Lo, y15.R.2.2.2.2.Hi, y15.T.1.Lo, y15.T.1.Hi, y15.T.2.1.Lo, y15.T.2.1.Hi, y15.T.2.2.Lo, y15.T.2.2.Hi)))
 (.cut 0 (fun (y16 : Bool) => ⟨[(2, .ptr 0 0), (3, .ptr 1 0), (4, .ptr 2 0), (5, .ptr 3 0), (19, .pure (.bool y16))], [(0, .box [.pure (.str a0.Name), pz a0.Kind, pz a0.Parent, pz a0.Offset.1, pz a0.Offset.2.1, pz a0.Offset.2.2, pz a0.Lo, pz a0.Hi, pz a0.Weight, pz a0.Speed, pz a0.Accel, pz a0.Torque]), (1, .box [pz a1.Lo, pz a1.Hi]), (2, .box [pz 0, pz 0, pz 0, pz 0, pz 0, pz 0, pz 0, pz 0, pz 0, pz 0, pz 0, pz 0, pz 0, pz 0, pz 0, pz 0, pz 0, pz 0, pz 0, pz 0, pz 0, pz 0, pz 0, pz 0]), (3, .box [pz y2.R.1.1.Lo, pz y2.R.1.1.Hi, pz y2.R.1.2.1.Lo, pz y2.R.1.2.1.Hi, pz y2.R.1.2.2.Lo, pz y2.R.1.2.2.Hi, pz y2.R.2.1.1.Lo, pz y2.R.2.1.1.Hi, pz y2.R.2.1.2.1.Lo, pz y2.R.2.1.2.1.Hi, pz y2.R.2.1.2.2.Lo, pz y2.R.2.1.2.2.Hi, pz y2.R.2.2.1.Lo, pz y2.R.2.2.1.Hi, pz y2.R.2.2.2.1.Lo, pz y2.R.2.2.2.1.Hi, pz y2.R.2.2.2.2.Lo, pz y2.R.2.2.2.2.Hi, pz y2.T.1.Lo, pz y2.T.1.Hi, pz y2.T.2.1.Lo, pz y2.T.2.1.Hi, pz y2.T.2.2.Lo, pz y2.T.2.2.Hi])], [], 4⟩)
 (.br (a0.Kind == 4)
 (.ret (.out (a0.Kind == 4)))
 (.br (a0.Kind == 5)
 (.ret (.out (a0.Kind == 5)))
 (.ret (.out (a0.Kind == 6))))) fun y16 =>
 .br y16
 (.cut 1 (fun (y17 : (Int × Int × Int × Int × Int × Int)) => ⟨[(2, .ptr 0 0), (4, .ptr 1 0), (5, .ptr 2 0), (6, .ptr 3 0)], [(0, .box [.pure (.str a0.Name), pz a0.Kind, pz a0.Parent, pz a0.Offset.1, pz a0.Offset.2.1, pz a0.Offset.2.2, pz a0.Lo, pz a0.Hi, pz a0.Weight, pz a0.Speed, pz a0.Accel, pz a0.Torque]), (1, .box [pz 0, pz 0, pz 0, pz 0, pz 0, pz 0, pz 0, pz 0, pz 0, pz 0, pz 0, pz 0, pz 0, pz 0, pz 0, pz 0, pz 0, pz 0, pz 0, pz 0, pz 0, pz 0, pz 0, pz 0]), (2, .box [pz y2.R.1.1.Lo, pz y2.R.1.1.Hi, pz y2.R.1.2.1.Lo, pz y2.R.1.2.1.Hi, pz y2.R.1.2.2.Lo, pz y2.R.1.2.2.Hi, pz y2.R.2.1.1.Lo, pz y2.R.2.1.1.Hi, pz y2.R.2.1.2.1.Lo, pz y2.R.2.1.2.1.Hi, pz y2.R.2.1.2.2.Lo, pz y2.R.2.1.2.2.Hi, pz y2.R.2.2.1.Lo, pz y2.R.2.2.1.Hi, pz y2.R.2.2.2.1.Lo, pz y2.R.2.2.2.1.Hi, pz y2.R.2.2.2.2.Lo, pz y2.R.2.2.2.2.Hi, pz y2.T.1.Lo, pz y2.T.1.Hi, pz y2.T.2.1.Lo, pz y2.T.2.1.Hi, pz y2.T.2.2.Lo, pz y2.T.2.2.Hi]), (3, .box [pz y17.1, pz y17.2.1, pz y17.2.2.1, pz y17.2.2.2.1, pz y17.2.2.2.2.1, pz y17.2.2.2.2.2])], [], 4⟩)
 (.cas 11002 (IntKind.i64.wrap (a0.Kind - 4)) 0
 (.ix 0 3 rfl <|
 .ret (.out (a1.Lo, a1.Hi, 0, 0, 0, 0)))
 (.cas 11002 (IntKind.i64.wrap (a0.Kind - 4)) 1
 (.ix 1 3 rfl <|
 .ret (.out (0, 0, a1.Lo, a1.Hi, 0, 0)))
 (.cas 11002 (IntKind.i64.wrap (a0.Kind - 4)) 2
 (.ix 2 3 rfl <|
 .ret (.out (0, 0, 0, 0, a1.Lo, a1.Hi)))
 (.stop)))) fun y17 =>
 .call (tzv ((⟨y17.1, y17.2.1⟩ : az0), (⟨y17.2.2.1, y17.2.2.2.1⟩ : az0), (⟨y17.2.2.2.2.1, y17.2.2.2.2.2⟩ : az0))) [] fun y18 =>
 .ret (.out (y18.R.1.1.Lo, y18.R.1.1.Hi, y18.R.1.2.1.Lo, y18.R.1.2.1.Hi, y18.R.1.2.2.Lo, y18.R.1.2.2.Hi, y18.R.2.1.1.Lo, y18.R.2.1.1.Hi, y18.R.2.1.2.1.Lo, y18.R.2.1.2.1.Hi, y18.R.2.1.2.2.Lo, y18.R.2.1.2.2.Hi, y18.R.2.2.1.Lo, y18.R.2.2.1.Hi, y18.R.2.2.2.1.Lo, y18.R.2.2.2.1.Hi, y18.R.2.2.2.2.Lo, y18.R.2.2.2.2.Hi, y18.T.1.Lo, y18.T.1.Hi, y18.T.2.1.Lo, y18.T.2.1.Hi, y18.T.2.2.Lo, y18.T.2.2.Hi)))
 (.ret (.out (y2.R.1.1.Lo, y2.R.1.1.Hi, y2.R.1.2.1.Lo, y2.R.1.2.1.Hi, y2.R.1.2.2.Lo, y2.R.1.2.2.Hi, y2.R.2.1.1.Lo, y2.R.2.1.1.Hi, y2.R.2.1.2.1.Lo, y2.R.2.1.2.1.Hi, y2.R.2.1.2.2.Lo, y2.R.2.1.2.2.Hi, y2.R.2.2.1.Lo, y2.R.2.2.1.Hi, y2.R.2.2.2.1.Lo, y2.R.2.2.2.1.Hi, y2.R.2.2.2.2.Lo, y2.R.2.2.2.2.Hi, y2.T.1.Lo, y2.T.1.Hi, y2.T.2.1.Lo, y2.T.2.1.Hi, y2.T.2.2.Lo, y2.T.2.2.Hi))))) fun y13 =>
 .call (tzt a0.Offset) [] fun y19 =>
 .call (tzv y19) [] fun y20 =>
 .call (ozd (⟨y20.R, y20.T⟩ : azj) (⟨(((⟨y13.1, y13.2.1⟩ : az0), (⟨y13.2.2.1, y13.2.2.2.1⟩ : az0), (⟨y13.2.2.2.2.1, y13.2.2.2.2.2.1⟩ : az0)), ((⟨y13.2.2.2.2.2.2.1, y13.2.2.2.2.2.2.2.1⟩ : az0), (⟨y13.2.2.2.2.2.2.2.2.1, y13.2.2.2.2.2.2.2.2.2.1⟩ : az0), (⟨y13.2.2.2.2.2.2.2.2.2.2.1, y13.2.2.2.2.2.2.2.2.2.2.2.1⟩ : az0)), ((⟨y13.2.2.2.2.2.2.2.2.2.2.2.2.1, y13.2.2.2.2.2.2.2.2.2.2.2.2.2.1⟩ : az0), (⟨y13.2.2.2.2.2.2.2.2.2.2.2.2.2.2.1, y13.2.2.2.2.2.2.2.2.2.2.2.2.2.2.2.1⟩ : az0), (⟨y13.2.2.2.2.2.2.2.2.2.2.2.2.2.2.2.2.1, y13.2.2.2.2.2.2.2.2.2.2.2.2.2.2.2.2.2.1⟩ : az0))), ((⟨y13.2.2.2.2.2.2.2.2.2.2.2.2.2.2.2.2.2.2.1, y13.2.2.2.2.2.2.2.2.2.2.2.2.2.2.2.2.2.2.2.1⟩ : az0), (⟨y13.2.2.2.2.2.2.2.2.2.2.2.2.2.2.2.2.2.2.2.2.1, y13.2.2.2.2.2.2.2.2.2.2.2.2.2.2.2.2.2.2.2.2.2.1⟩ : az0), (⟨y13.2.2.2.2.2.2.2.2.2.2.2.2.2.2.2.2.2.2.2.2.2.2.1, y13.2.2.2.2.2.2.2.2.2.2.2.2.2.2.2.2.2.2.2.2.2.2.2⟩ : az0))⟩ : azj)) [] fun y21 =>
 .ret y21
noncomputable def xzv (a0 : azi) (a1 : az0) : CallS azj :=
  mkC [] hd Tryz.func239 (by kernel_rfl) (qzn a0 a1) 0 [.pure (az9 a0), .pure (az4 a1)] [] (fun r => .pure (azz r)) (fun _ => []) (by kernel_rfl)
set_option maxHeartbeats 8000000 in
set_option maxRecDepth 20000 in
noncomputable def qzp (a0 : azm) (a1 : (List az0)) : T (List azj) :=
 .cut 2 (fun (y12 : Bool) => ⟨[(1, .pure (encL 2 az4 a1)), (2, .ptr 0 0), (16, .pure (.bool y12))], [(0, .box [.pure (encL 12 az9 a0.Joints), .pure (encL 5 azb a0.Masses)])], [], 1⟩)
 (.call (czq a0) [] fun y13 =>
 .br (y13 != 0)
 (.ret (.out true))
 (.call (lz2 a0 a1) [] fun y14 =>
 .ret (.out (!y14)))) fun y12 =>
 .br y12
 (.ret nl)
 (.loop (fun (x73 : ((List azj) × Int)) => ⟨[(1, .pure (encL 2 az4 a1)), (2, .ptr 0 0), (5, .vec 1), (6, pz x73.2)], [(0, .box [.pure (encL 12 az9 a0.Joints), .pure (encL 5 azb a0.Masses)]), (1, vecO 24 azz x73.1 236)], [], 2⟩)
 (.exit 0) (fun (y86 : (List azj)) => ⟨[(5, .vec 0)], [(0, vecO 24 azz y86 236)], [], 1⟩)
 (fun x73 => .br (decide (x73.2 < ((a1.length : Nat) : Int)))
 (.grd (0 ≤ x73.2 ∧ x73.2 < ((a0.Joints.length : Nat) : Int)) <|
 .grd (0 ≤ x73.2 ∧ x73.2 < ((a1.length : Nat) : Int)) <|
 .call (xzv (a0.Joints.getD ((x73.2).toNat) default) (a1.getD ((x73.2).toNat) default)) [] fun y94 =>
 .cut 0 (fun (y97 : (Int × Int × Int × Int × Int × Int × Int × Int × Int × Int × Int × Int × Int × Int × Int × Int × Int × Int × Int × Int × Int × Int × Int × Int)) => ⟨[(1, .pure (encL 2 az4 a1)), (2, .ptr 0 0), (5, .vec 1), (6, pz x73.2), (7, .ptr 2 0)], [(0, .box [.pure (encL 12 az9 a0.Joints), .pure (encL 5 azb a0.Masses)]), (1, vecO 24 azz x73.1 236), (2, .box [pz y97.1, pz y97.2.1, pz y97.2.2.1, pz y97.2.2.2.1, pz y97.2.2.2.2.1, pz y97.2.2.2.2.2.1, pz y97.2.2.2.2.2.2.1, pz y97.2.2.2.2.2.2.2.1, pz y97.2.2.2.2.2.2.2.2.1, pz y97.2.2.2.2.2.2.2.2.2.1, pz y97.2.2.2.2.2.2.2.2.2.2.1, pz y97.2.2.2.2.2.2.2.2.2.2.2.1, pz y97.2.2.2.2.2.2.2.2.2.2.2.2.1, pz y97.2.2.2.2.2.2.2.2.2.2.2.2.2.1, pz y97.2.2.2.2.2.2.2.2.2.2.2.2.2.2.1, pz y97.2.2.2.2.2.2.2.2.2.2.2.2.2.2.2.1, pz y97.2.2.2.2.2.2.2.2.2.2.2.2.2.2.2.2.1, pz y97.2.2.2.2.2.2.2.2.2.2.2.2.2.2.2.2.2.1, pz y97.2.2.2.2.2.2.2.2.2.2.2.2.2.2.2.2.2.2.1, pz y97.2.2.2.2.2.2.2.2.2.2.2.2.2.2.2.2.2.2.2.1, pz y97.2.2.2.2.2.2.2.2.2.2.2.2.2.2.2.2.2.2.2.2.1, pz y97.2.2.2.2.2.2.2.2.2.2.2.2.2.2.2.2.2.2.2.2.2.1, pz y97.2.2.2.2.2.2.2.2.2.2.2.2.2.2.2.2.2.2.2.2.2.2.1, pz y97.2.2.2.2.2.2.2.2.2.2.2.2.2.2.2.2.2.2.2.2.2.2.2])], [], 3⟩)
 (.grd (0 ≤ x73.2 ∧ x73.2 < ((a0.Joints.length : Nat) : Int)) <|
 .br (((a0.Joints.getD ((x73.2).toNat) default).Parent) != (-1))
 (.grd (0 ≤ x73.2 ∧ x73.2 < ((a0.Joints.length : Nat) : Int)) <|
 .grd (0 ≤ ((a0.Joints.getD ((x73.2).toNat) default).Parent) ∧ ((a0.Joints.getD ((x73.2).toNat) default).Parent) < ((x73.1.length : Nat) : Int)) <|
 .grd (((a0.Joints.getD ((x73.2).toNat) default).Parent).toNat < x73.1.length) <|
 .call (ozd (x73.1.getD (((a0.Joints.getD ((x73.2).toNat) default).Parent).toNat) default) y94) [] fun y98 =>
 .ret (.out (y98.R.1.1.Lo, y98.R.1.1.Hi, y98.R.1.2.1.Lo, y98.R.1.2.1.Hi, y98.R.1.2.2.Lo, y98.R.1.2.2.Hi, y98.R.2.1.1.Lo, y98.R.2.1.1.Hi, y98.R.2.1.2.1.Lo, y98.R.2.1.2.1.Hi, y98.R.2.1.2.2.Lo, y98.R.2.1.2.2.Hi, y98.R.2.2.1.Lo, y98.R.2.2.1.Hi, y98.R.2.2.2.1.Lo, y98.R.2.2.2.1.Hi, y98.R.2.2.2.2.Lo, y98.R.2.2.2.2.Hi, y98.T.1.Lo, y98.T.1.Hi, y98.T.2.1.Lo, y98.T.2.1.Hi, y98.T.2.2.Lo, y98.T.2.2.Hi)))
 (.ret (.out (y94.R.1.1.Lo, y94.R.1.1.Hi, y94.R.1.2.1.Lo, y94.R.1.2.1.Hi, y94.R.1.2.2.Lo, y94.R.1.2.2.Hi, y94.R.2.1.1.Lo, y94.R.2.1.1.Hi, y94.R.2.1.2.1.Lo, y94.R.2.1.2.1.Hi, y94.R.2.1.2.2.Lo, y94.R.2.1.2.2.Hi, y94.R.2.2.1.Lo, y94.R.2.2.1.Hi, y94.R.2.2.2.1.Lo, y94.R.2.2.2.1.Hi, y94.R.2.2.2.2.Lo, y94.R.2.2.2.2.Hi, y94.T.1.Lo, y94.T.1.Hi, y94.T.2.1.Lo, y94.T.2.1.Hi, y94.T.2.2.Lo, y94.T.2.2.Hi)))) fun y97 =>
 .conv 10002 (dzo 24 azz ([(⟨(((⟨y97.1, y97.2.1⟩ : az0), (⟨y97.2.2.1, y97.2.2.2.1⟩ : az0), (⟨y97.2.2.2.2.1, y97.2.2.2.2.2.1⟩ : az0)), ((⟨y97.2.2.2.2.2.2.1, y97.2.2.2.2.2.2.2.1⟩ : az0), (⟨y97.2.2.2.2.2.2.2.2.1, y97.2.2.2.2.2.2.2.2.2.1⟩ : az0), (⟨y97.2.2.2.2.2.2.2.2.2.2.1, y97.2.2.2.2.2.2.2.2.2.2.2.1⟩ : az0)), ((⟨y97.2.2.2.2.2.2.2.2.2.2.2.2.1, y97.2.2.2.2.2.2.2.2.2.2.2.2.2.1⟩ : az0), (⟨y97.2.2.2.2.2.2.2.2.2.2.2.2.2.2.1, y97.2.2.2.2.2.2.2.2.2.2.2.2.2.2.2.1⟩ : az0), (⟨y97.2.2.2.2.2.2.2.2.2.2.2.2.2.2.2.2.1, y97.2.2.2.2.2.2.2.2.2.2.2.2.2.2.2.2.2.1⟩ : az0))), ((⟨y97.2.2.2.2.2.2.2.2.2.2.2.2.2.2.2.2.2.2.1, y97.2.2.2.2.2.2.2.2.2.2.2.2.2.2.2.2.2.2.2.1⟩ : az0), (⟨y97.2.2.2.2.2.2.2.2.2.2.2.2.2.2.2.2.2.2.2.2.1, y97.2.2.2.2.2.2.2.2.2.2.2.2.2.2.2.2.2.2.2.2.2.1⟩ : az0), (⟨y97.2.2.2.2.2.2.2.2.2.2.2.2.2.2.2.2.2.2.2.2.2.2.1, y97.2.2.2.2.2.2.2.2.2.2.2.2.2.2.2.2.2.2.2.2.2.2.2⟩ : az0))⟩ : azj)] : (List azj)) 236) <|
 .conv 10003 (izb 24 azz x73.1 ([(⟨(((⟨y97.1, y97.2.1⟩ : az0), (⟨y97.2.2.1, y97.2.2.2.1⟩ : az0), (⟨y97.2.2.2.2.1, y97.2.2.2.2.2.1⟩ : az0)), ((⟨y97.2.2.2.2.2.2.1, y97.2.2.2.2.2.2.2.1⟩ : az0), (⟨y97.2.2.2.2.2.2.2.2.1, y97.2.2.2.2.2.2.2.2.2.1⟩ : az0), (⟨y97.2.2.2.2.2.2.2.2.2.2.1, y97.2.2.2.2.2.2.2.2.2.2.2.1⟩ : az0)), ((⟨y97.2.2.2.2.2.2.2.2.2.2.2.2.1, y97.2.2.2.2.2.2.2.2.2.2.2.2.2.1⟩ : az0), (⟨y97.2.2.2.2.2.2.2.2.2.2.2.2.2.2.1, y97.2.2.2.2.2.2.2.2.2.2.2.2.2.2.2.1⟩ : az0), (⟨y97.2.2.2.2.2.2.2.2.2.2.2.2.2.2.2.2.1, y97.2.2.2.2.2.2.2.2.2.2.2.2.2.2.2.2.2.1⟩ : az0))), ((⟨y97.2.2.2.2.2.2.2.2.2.2.2.2.2.2.2.2.2.2.1, y97.2.2.2.2.2.2.2.2.2.2.2.2.2.2.2.2.2.2.2.1⟩ : az0), (⟨y97.2.2.2.2.2.2.2.2.2.2.2.2.2.2.2.2.2.2.2.2.1, y97.2.2.2.2.2.2.2.2.2.2.2.2.2.2.2.2.2.2.2.2.2.1⟩ : az0), (⟨y97.2.2.2.2.2.2.2.2.2.2.2.2.2.2.2.2.2.2.2.2.2.2.1, y97.2.2.2.2.2.2.2.2.2.2.2.2.2.2.2.2.2.2.2.2.2.2.2⟩ : az0))⟩ : azj)] : (List azj)) 236) <|
 .grd ((x73.1.length + ([(⟨(((⟨y97.1, y97.2.1⟩ : az0), (⟨y97.2.2.1, y97.2.2.2.1⟩ : az0), (⟨y97.2.2.2.2.1, y97.2.2.2.2.2.1⟩ : az0)), ((⟨y97.2.2.2.2.2.2.1, y97.2.2.2.2.2.2.2.1⟩ : az0), (⟨y97.2.2.2.2.2.2.2.2.1, y97.2.2.2.2.2.2.2.2.2.1⟩ : az0), (⟨y97.2.2.2.2.2.2.2.2.2.2.1, y97.2.2.2.2.2.2.2.2.2.2.2.1⟩ : az0)), ((⟨y97.2.2.2.2.2.2.2.2.2.2.2.2.1, y97.2.2.2.2.2.2.2.2.2.2.2.2.2.1⟩ : az0), (⟨y97.2.2.2.2.2.2.2.2.2.2.2.2.2.2.1, y97.2.2.2.2.2.2.2.2.2.2.2.2.2.2.2.1⟩ : az0), (⟨y97.2.2.2.2.2.2.2.2.2.2.2.2.2.2.2.2.1, y97.2.2.2.2.2.2.2.2.2.2.2.2.2.2.2.2.2.1⟩ : az0))), ((⟨y97.2.2.2.2.2.2.2.2.2.2.2.2.2.2.2.2.2.2.1, y97.2.2.2.2.2.2.2.2.2.2.2.2.2.2.2.2.2.2.2.1⟩ : az0), (⟨y97.2.2.2.2.2.2.2.2.2.2.2.2.2.2.2.2.2.2.2.2.1, y97.2.2.2.2.2.2.2.2.2.2.2.2.2.2.2.2.2.2.2.2.2.1⟩ : az0), (⟨y97.2.2.2.2.2.2.2.2.2.2.2.2.2.2.2.2.2.2.2.2.2.2.1, y97.2.2.2.2.2.2.2.2.2.2.2.2.2.2.2.2.2.2.2.2.2.2.2⟩ : az0))⟩ : azj)] : (List azj)).length) * 192 ≤ 140737488355328 ∧ (x73.1.length + ([(⟨(((⟨y97.1, y97.2.1⟩ : az0), (⟨y97.2.2.1, y97.2.2.2.1⟩ : az0), (⟨y97.2.2.2.2.1, y97.2.2.2.2.2.1⟩ : az0)), ((⟨y97.2.2.2.2.2.2.1, y97.2.2.2.2.2.2.2.1⟩ : az0), (⟨y97.2.2.2.2.2.2.2.2.1, y97.2.2.2.2.2.2.2.2.2.1⟩ : az0), (⟨y97.2.2.2.2.2.2.2.2.2.2.1, y97.2.2.2.2.2.2.2.2.2.2.2.1⟩ : az0)), ((⟨y97.2.2.2.2.2.2.2.2.2.2.2.2.1, y97.2.2.2.2.2.2.2.2.2.2.2.2.2.1⟩ : az0), (⟨y97.2.2.2.2.2.2.2.2.2.2.2.2.2.2.1, y97.2.2.2.2.2.2.2.2.2.2.2.2.2.2.2.1⟩ : az0), (⟨y97.2.2.2.2.2.2.2.2.2.2.2.2.2.2.2.2.1, y97.2.2.2.2.2.2.2.2.2.2.2.2.2.2.2.2.2.1⟩ : az0))), ((⟨y97.2.2.2.2.2.2.2.2.2.2.2.2.2.2.2.2.2.2.1, y97.2.2.2.2.2.2.2.2.2.2.2.2.2.2.2.2.2.2.2.1⟩ : az0), (⟨y97.2.2.2.2.2.2.2.2.2.2.2.2.2.2.2.2.2.2.2.2.1, y97.2.2.2.2.2.2.2.2.2.2.2.2.2.2.2.2.2.2.2.2.2.1⟩ : az0), (⟨y97.2.2.2.2.2.2.2.2.2.2.2.2.2.2.2.2.2.2.2.2.2.2.1, y97.2.2.2.2.2.2.2.2.2.2.2.2.2.2.2.2.2.2.2.2.2.2.2⟩ : az0))⟩ : azj)] : (List azj)).length) ≤ maxLen) <|
 .ret (.next ((x73.1 ++ ([(⟨(((⟨y97.1, y97.2.1⟩ : az0), (⟨y97.2.2.1, y97.2.2.2.1⟩ : az0), (⟨y97.2.2.2.2.1, y97.2.2.2.2.2.1⟩ : az0)), ((⟨y97.2.2.2.2.2.2.1, y97.2.2.2.2.2.2.2.1⟩ : az0), (⟨y97.2.2.2.2.2.2.2.2.1, y97.2.2.2.2.2.2.2.2.2.1⟩ : az0), (⟨y97.2.2.2.2.2.2.2.2.2.2.1, y97.2.2.2.2.2.2.2.2.2.2.2.1⟩ : az0)), ((⟨y97.2.2.2.2.2.2.2.2.2.2.2.2.1, y97.2.2.2.2.2.2.2.2.2.2.2.2.2.1⟩ : az0), (⟨y97.2.2.2.2.2.2.2.2.2.2.2.2.2.2.1, y97.2.2.2.2.2.2.2.2.2.2.2.2.2.2.2.1⟩ : az0), (⟨y97.2.2.2.2.2.2.2.2.2.2.2.2.2.2.2.2.1, y97.2.2.2.2.2.2.2.2.2.2.2.2.2.2.2.2.2.1⟩ : az0))), ((⟨y97.2.2.2.2.2.2.2.2.2.2.2.2.2.2.2.2.2.2.1, y97.2.2.2.2.2.2.2.2.2.2.2.2.2.2.2.2.2.2.2.1⟩ : az0), (⟨y97.2.2.2.2.2.2.2.2.2.2.2.2.2.2.2.2.2.2.2.2.1, y97.2.2.2.2.2.2.2.2.2.2.2.2.2.2.2.2.2.2.2.2.2.1⟩ : az0), (⟨y97.2.2.2.2.2.2.2.2.2.2.2.2.2.2.2.2.2.2.2.2.2.2.1, y97.2.2.2.2.2.2.2.2.2.2.2.2.2.2.2.2.2.2.2.2.2.2.2⟩ : az0))⟩ : azj)] : (List azj))), (IntKind.i64.wrap (x73.2 + 1)))))
 (.ret (.out x73.1)))
 (nl, 0) [] fun y86 =>
 .ret y86)
noncomputable def xzx (a0 : azm) (a1 : (List az0)) : CallS (List azj) :=
  mkC [] hd Tryz.func203 (by kernel_rfl) (qzp a0 a1) 0 [.pure (czo a0), .pure (encL 2 az4 a1)] [] (fun r => .pure (encL 24 azz r)) (fun _ => []) (by kernel_rfl)
noncomputable def hzk (a0 : azn) : T Bool :=
 .cut 2 (fun (y2 : Bool) => ⟨[(1, .ptr 0 0), (23, .pure (.bool y2))], [(0, .box [pz a0.Link, pz a0.Radius, .pure (encL 3 az1 a0.Points)])], [], 1⟩)
 (.br (decide (a0.Radius < 1))
 (.ret (.out true))
 (.br (decide (a0.Radius > 1048576))
 (.ret (.out true))
 (.br (decide (((a0.Points.length : Nat) : Int) < 1))
 (.ret (.out true))
 (.ret (.out (decide (((a0.Points.length : Nat) : Int) > 8))))))) fun y2 =>
 .br y2
 (.ret false)
 (.loop (fun (x23 : Int) => ⟨[(1, .ptr 0 0), (3, pz x23)], [(0, .box [pz a0.Link, pz a0.Radius, .pure (encL 3 az1 a0.Points)])], [], 1⟩)
 (.exit 0) (fun (_ : U0) => ⟨[], [], [], 0⟩)
 (fun x23 => .br (decide (x23 < ((a0.Points.length : Nat) : Int)))
 (.grd (0 ≤ x23 ∧ x23 < ((a0.Points.length : Nat) : Int)) <|
 .call (dzy (a0.Points.getD ((x23).toNat) default) 4194304) [] fun y32 =>
 .br (!y32)
 (.ret (.fin false))
 (.ret (.next (IntKind.i64.wrap (x23 + 1)))))
 (.ret (.out .u)))
 0 [] fun _ =>
 .ret true)
noncomputable def nz0 (a0 : azn) : CallS Bool :=
  mkC [] hd Tryz.func242 (by kernel_rfl) (hzk a0) 0 [.pure (azd a0)] [] (fun r => .pure (.bool r)) (fun _ => []) (by kernel_rfl)
noncomputable def tzq (a0 : azj) (a1 : (az0 × az0 × az0)) : T (az0 × az0 × az0) :=
 .call (mz2 a0.R a1) [] fun y1 =>
 .call (qzz a0.T y1) [] fun y2 =>
 .ret y2
noncomputable def Azu (a0 : azj) (a1 : (az0 × az0 × az0)) : CallS (az0 × az0 × az0) :=
  mkC [] hd Tryz.func243 (by kernel_rfl) (tzq a0 a1) 0 [.pure (azz a0), .pure (az2 a1)] [] (fun r => .pure (az2 r)) (fun _ => []) (by kernel_rfl)
noncomputable def qzr (a0 : azn) (a1 : azj) : T (List (az0 × az0 × az0)) :=
 .call (nz0 a0) [] fun y4 =>
 .br (!y4)
 (.ret nl)
 (.loop (fun (x25 : ((List (az0 × az0 × az0)) × Int)) => ⟨[(2, .ptr 0 0), (3, .ptr 1 0), (5, .vec 2), (6, pz x25.2)], [(0, .box [pz a0.Link, pz a0.Radius, .pure (encL 3 az1 a0.Points)]), (1, .box [pz a1.R.1.1.Lo, pz a1.R.1.1.Hi, pz a1.R.1.2.1.Lo, pz a1.R.1.2.1.Hi, pz a1.R.1.2.2.Lo, pz a1.R.1.2.2.Hi, pz a1.R.2.1.1.Lo, pz a1.R.2.1.1.Hi, pz a1.R.2.1.2.1.Lo, pz a1.R.2.1.2.1.Hi, pz a1.R.2.1.2.2.Lo, pz a1.R.2.1.2.2.Hi, pz a1.R.2.2.1.Lo, pz a1.R.2.2.1.Hi, pz a1.R.2.2.2.1.Lo, pz a1.R.2.2.2.1.Hi, pz a1.R.2.2.2.2.Lo, pz a1.R.2.2.2.2.Hi, pz a1.T.1.Lo, pz a1.T.1.Hi, pz a1.T.2.1.Lo, pz a1.T.2.1.Hi, pz a1.T.2.2.Lo, pz a1.T.2.2.Hi]), (2, vecO 6 az2 x25.1 199)], [], 3⟩)
 (.exit 0) (fun (y30 : (List (az0 × az0 × az0))) => ⟨[(5, .vec 0)], [(0, vecO 6 az2 y30 199)], [], 1⟩)
 (fun x25 => .br (decide (x25.2 < ((a0.Points.length : Nat) : Int)))
 (.grd (0 ≤ x25.2 ∧ x25.2 < ((a0.Points.length : Nat) : Int)) <|
 .call (tzt (a0.Points.getD ((x25.2).toNat) default)) [] fun y33 =>
 .call (Azu (⟨a1.R, a1.T⟩ : azj) y33) [] fun y34 =>
 .conv 7009 (dzo 6 az2 ([y34] : (List (az0 × az0 × az0))) 199) <|
 .conv 7010 (izb 6 az2 x25.1 ([y34] : (List (az0 × az0 × az0))) 199) <|
 .grd ((x25.1.length + ([y34] : (List (az0 × az0 × az0))).length) * 48 ≤ 140737488355328 ∧ (x25.1.length + ([y34] : (List (az0 × az0 × az0))).length) ≤ maxLen) <|
 .ret (.next ((x25.1 ++ ([y34] : (List (az0 × az0 × az0)))), (IntKind.i64.wrap (x25.2 + 1)))))
 (.ret (.out x25.1)))
 (nl, 0) [] fun y30 =>
 .ret y30)
noncomputable def xzz (a0 : azn) (a1 : azj) : CallS (List (az0 × az0 × az0)) :=
  mkC [] hd Tryz.func205 (by kernel_rfl) (qzr a0 a1) 0 [.pure (azd a0), .pure (azz a1)] [] (fun r => .pure (encL 6 az2 r)) (fun _ => []) (by kernel_rfl)
set_option maxHeartbeats 8000000 in
set_option maxRecDepth 20000 in
noncomputable def oz9 (a0 : aza) (a1 : (List az0)) : T (List (List (az0 × az0 × az0))) :=
 .cut 2 (fun (y12 : Bool) => ⟨[(1, .pure (encL 2 az4 a1)), (2, .ptr 0 0), (18, .pure (.bool y12))], [(0, .box [.pure (encL 12 az9 a0.Robot.Joints), .pure (encL 5 azb a0.Robot.Masses), .pure (encL 3 azd a0.Shapes), .pure (encL 2 azq a0.Skips)])], [], 1⟩)
 (.call (ezb a0) [] fun y13 =>
 .br (y13 != 0)
 (.ret (.out true))
 (.call (lz2 a0.Robot a1) [] fun y14 =>
 .ret (.out (!y14)))) fun y12 =>
 .br y12
 (.ret nl)
 (.call (xzx a0.Robot a1) [] fun y16 =>
 .loop (fun (x53 : ((List (List (az0 × az0 × az0))) × Int)) => ⟨[(2, .ptr 0 0), (5, .pure (encL 24 azz y16)), (6, .vec 1), (7, pz x53.2)], [(0, .box [.pure (encL 12 az9 a0.Robot.Joints), .pure (encL 5 azb a0.Robot.Masses), .pure (encL 3 azd a0.Shapes), .pure (encL 2 azq a0.Skips)]), (1, vecO 1 (encL 6 az2) x53.1 118)], [], 2⟩)
 (.exit 0) (fun (y62 : (List (List (az0 × az0 × az0)))) => ⟨[(6, .vec 0)], [(0, vecO 1 (encL 6 az2) y62 118)], [], 1⟩)
 (fun x53 => .br (decide (x53.2 < ((a0.Shapes.length : Nat) : Int)))
 (.call (ref1_Rest_C) [] fun y68 =>
 .cut 0 (fun (y69 : (Int × Int × Int × Int × Int × Int × Int × Int × Int × Int × Int × Int × Int × Int × Int × Int × Int × Int × Int × Int × Int × Int × Int × Int)) => ⟨[(2, .ptr 0 0), (5, .pure (encL 24 azz y16)), (6, .vec 1), (7, pz x53.2), (8, .ptr 2 0)], [(0, .box [.pure (encL 12 az9 a0.Robot.Joints), .pure (encL 5 azb a0.Robot.Masses), .pure (encL 3 azd a0.Shapes), .pure (encL 2 azq a0.Skips)]), (1, vecO 1 (encL 6 az2) x53.1 118), (2, .box [pz y69.1, pz y69.2.1, pz y69.2.2.1, pz y69.2.2.2.1, pz y69.2.2.2.2.1, pz y69.2.2.2.2.2.1, pz y69.2.2.2.2.2.2.1, pz y69.2.2.2.2.2.2.2.1, pz y69.2.2.2.2.2.2.2.2.1, pz y69.2.2.2.2.2.2.2.2.2.1, pz y69.2.2.2.2.2.2.2.2.2.2.1, pz y69.2.2.2.2.2.2.2.2.2.2.2.1, pz y69.2.2.2.2.2.2.2.2.2.2.2.2.1, pz y69.2.2.2.2.2.2.2.2.2.2.2.2.2.1, pz y69.2.2.2.2.2.2.2.2.2.2.2.2.2.2.1, pz y69.2.2.2.2.2.2.2.2.2.2.2.2.2.2.2.1, pz y69.2.2.2.2.2.2.2.2.2.2.2.2.2.2.2.2.1, pz y69.2.2.2.2.2.2.2.2.2.2.2.2.2.2.2.2.2.1, pz y69.2.2.2.2.2.2.2.2.2.2.2.2.2.2.2.2.2.2.1, pz y69.2.2.2.2.2.2.2.2.2.2.2.2.2.2.2.2.2.2.2.1, pz y69.2.2.2.2.2.2.2.2.2.2.2.2.2.2.2.2.2.2.2.2.1, pz y69.2.2.2.2.2.2.2.2.2.2.2.2.2.2.2.2.2.2.2.2.2.1, pz y69.2.2.2.2.2.2.2.2.2.2.2.2.2.2.2.2.2.2.2.2.2.2.1, pz y69.2.2.2.2.2.2.2.2.2.2.2.2.2.2.2.2.2.2.2.2.2.2.2])], [], 3⟩)
 (.grd (0 ≤ x53.2 ∧ x53.2 < ((a0.Shapes.length : Nat) : Int)) <|
 .br (((a0.Shapes.getD ((x53.2).toNat) default).Link) != (-1))
 (.grd (0 ≤ x53.2 ∧ x53.2 < ((a0.Shapes.length : Nat) : Int)) <|
 .grd (0 ≤ ((a0.Shapes.getD ((x53.2).toNat) default).Link) ∧ ((a0.Shapes.getD ((x53.2).toNat) default).Link) < ((y16.length : Nat) : Int)) <|
 .ret (.out ((y16.getD (((a0.Shapes.getD ((x53.2).toNat) default).Link).toNat) default).R.1.1.Lo, (y16.getD (((a0.Shapes.getD ((x53.2).toNat) default).Link).toNat) default).R.1.1.Hi, (y16.getD (((a0.Shapes.getD ((x53.2).toNat) default).Link).toNat) default).R.1.2.1.Lo, (y16.getD (((a0.Shapes.getD ((x53.2).toNat) default).Link).toNat) default).R.1.2.1.Hi, (y16.getD (((a0.Shapes.getD ((x53.2).toNat) default).Link).toNat) default).R.1.2.2.Lo, (y16.getD (((a0.Shapes.getD ((x53.2).toNat) default).Link).toNat) default).R.1.2.2.Hi, (y16.getD (((a0.Shapes.getD ((x53.2).toNat) default).Link).toNat) default).R.2.1.1.Lo, (y16.getD (((a0.Shapes.getD ((x53.2).toNat) default).Link).toNat) default).R.2.1.1.Hi, (y16.getD (((a0.Shapes.getD ((x53.2).toNat) default).Link).toNat) default).R.2.1.2.1.Lo, (y16.getD (((a0.Shapes.getD ((x53.2).toNat) default).Link).toNat) default).R.2.1.2.1.Hi, (y16.getD (((a0.Shapes.getD ((x53.2).toNat) default).Link).toNat) default).R.2.1.2.2.Lo, (y16.getD (((a0.Shapes.getD ((x53.2).toNat) default).Link).toNat) default).R.2.1.2.2.Hi, (y16.getD (((a0.Shapes.getD ((x53.2).toNat) default).Link).toNat) default).R.2.2.1.Lo, (y16.getD (((a0.Shapes.getD ((x53.2).toNat) default).Link).toNat) default).R.2.2.1.Hi, (y16.getD (((a0.Shapes.getD ((x53.2).toNat) default).Link).toNat) default).R.2.2.2.1.Lo, (y16.getD (((a0.Shapes.getD ((x53.2).toNat) default).Link).toNat) default).R.2.2.2.1.Hi, (y16.getD (((a0.Shapes.getD ((x53.2).toNat) default).Link).toNat) default).R.2.2.2.2.Lo, (y16.getD (((a0.Shapes.getD ((x53.2).toNat) default).Link).toNat) default).R.2.2.2.2.Hi, (y16.getD (((a0.Shapes.getD ((x53.2).toNat) default).Link).toNat) default).T.1.Lo, (y16.getD (((a0.Shapes.getD ((x53.2).toNat) default).Link).toNat) default).T.1.Hi, (y16.getD (((a0.Shapes.getD ((x53.2).toNat) default).Link).toNat) default).T.2.1.Lo, (y16.getD (((a0.Shapes.getD ((x53.2).toNat) default).Link).toNat) default).T.2.1.Hi, (y16.getD (((a0.Shapes.getD ((x53.2).toNat) default).Link).toNat) default).T.2.2.Lo, (y16.getD (((a0.Shapes.getD ((x53.2).toNat) default).Link).toNat) default).T.2.2.Hi)))
 (.ret (.out (y68.R.1.1.Lo, y68.R.1.1.Hi, y68.R.1.2.1.Lo, y68.R.1.2.1.Hi, y68.R.1.2.2.Lo, y68.R.1.2.2.Hi, y68.R.2.1.1.Lo, y68.R.2.1.1.Hi, y68.R.2.1.2.1.Lo, y68.R.2.1.2.1.Hi, y68.R.2.1.2.2.Lo, y68.R.2.1.2.2.Hi, y68.R.2.2.1.Lo, y68.R.2.2.1.Hi, y68.R.2.2.2.1.Lo, y68.R.2.2.2.1.Hi, y68.R.2.2.2.2.Lo, y68.R.2.2.2.2.Hi, y68.T.1.Lo, y68.T.1.Hi, y68.T.2.1.Lo, y68.T.2.1.Hi, y68.T.2.2.Lo, y68.T.2.2.Hi)))) fun y69 =>
 .grd (0 ≤ x53.2 ∧ x53.2 < ((a0.Shapes.length : Nat) : Int)) <|
 .call (xzz (a0.Shapes.getD ((x53.2).toNat) default) (⟨(((⟨y69.1, y69.2.1⟩ : az0), (⟨y69.2.2.1, y69.2.2.2.1⟩ : az0), (⟨y69.2.2.2.2.1, y69.2.2.2.2.2.1⟩ : az0)), ((⟨y69.2.2.2.2.2.2.1, y69.2.2.2.2.2.2.2.1⟩ : az0), (⟨y69.2.2.2.2.2.2.2.2.1, y69.2.2.2.2.2.2.2.2.2.1⟩ : az0), (⟨y69.2.2.2.2.2.2.2.2.2.2.1, y69.2.2.2.2.2.2.2.2.2.2.2.1⟩ : az0)), ((⟨y69.2.2.2.2.2.2.2.2.2.2.2.2.1, y69.2.2.2.2.2.2.2.2.2.2.2.2.2.1⟩ : az0), (⟨y69.2.2.2.2.2.2.2.2.2.2.2.2.2.2.1, y69.2.2.2.2.2.2.2.2.2.2.2.2.2.2.2.1⟩ : az0), (⟨y69.2.2.2.2.2.2.2.2.2.2.2.2.2.2.2.2.1, y69.2.2.2.2.2.2.2.2.2.2.2.2.2.2.2.2.2.1⟩ : az0))), ((⟨y69.2.2.2.2.2.2.2.2.2.2.2.2.2.2.2.2.2.2.1, y69.2.2.2.2.2.2.2.2.2.2.2.2.2.2.2.2.2.2.2.1⟩ : az0), (⟨y69.2.2.2.2.2.2.2.2.2.2.2.2.2.2.2.2.2.2.2.2.1, y69.2.2.2.2.2.2.2.2.2.2.2.2.2.2.2.2.2.2.2.2.2.1⟩ : az0), (⟨y69.2.2.2.2.2.2.2.2.2.2.2.2.2.2.2.2.2.2.2.2.2.2.1, y69.2.2.2.2.2.2.2.2.2.2.2.2.2.2.2.2.2.2.2.2.2.2.2⟩ : az0))⟩ : azj)) [] fun y70 =>
 .conv 11008 (dzo 1 (encL 6 az2) ([y70] : (List (List (az0 × az0 × az0)))) 118) <|
 .conv 11009 (izb 1 (encL 6 az2) x53.1 ([y70] : (List (List (az0 × az0 × az0)))) 118) <|
 .grd ((x53.1.length + ([y70] : (List (List (az0 × az0 × az0)))).length) * 24 ≤ 140737488355328 ∧ (x53.1.length + ([y70] : (List (List (az0 × az0 × az0)))).length) ≤ maxLen) <|
 .ret (.next ((x53.1 ++ ([y70] : (List (List (az0 × az0 × az0))))), (IntKind.i64.wrap (x53.2 + 1)))))
 (.ret (.out x53.1)))
 (nl, 0) [] fun y62 =>
 .ret y62)
noncomputable def vzo (a0 : aza) (a1 : (List az0)) : CallS (List (List (az0 × az0 × az0))) :=
  mkC [] hd Tryz.func148 (by kernel_rfl) (oz9 a0 a1) 0 [.pure (cz0 a0), .pure (encL 2 az4 a1)] [] (fun r => .pure (encL 1 (encL 6 az2) r)) (fun _ => []) (by kernel_rfl)
noncomputable def uz2 (a0 : azm) (a1 : Int) : T (List Int) :=
 .cut 2 (fun (y12 : Bool) => ⟨[(1, pz a1), (2, .ptr 0 0), (15, .pure (.bool y12))], [(0, .box [.pure (encL 12 az9 a0.Joints), .pure (encL 5 azb a0.Masses)])], [], 1⟩)
 (.call (czq a0) [] fun y13 =>
 .br (y13 != 0)
 (.ret (.out true))
 (.call (dz7 a0 a1) [] fun y14 =>
 .ret (.out (!y14)))) fun y12 =>
 .br y12
 (.ret nl)
 (.loop (fun (x19 : ((List Int) × Int)) => ⟨[(2, .ptr 0 0), (5, .vec 1), (6, pz x19.2)], [(0, .box [.pure (encL 12 az9 a0.Joints), .pure (encL 5 azb a0.Masses)]), (1, vecO 1 az3 x19.1 3)], [], 2⟩)
 (.exit 0) (fun (y20 : (List Int)) => ⟨[(5, .vec 0)], [(0, vecO 1 az3 y20 3)], [], 1⟩)
 (fun x19 => .br (x19.2 != (-1))
 (.conv 7001 (dzo 1 az3 ([x19.2] : (List Int)) 3) <|
 .conv 7003 (izb 1 az3 ([x19.2] : (List Int)) x19.1 3) <|
 .grd ((([x19.2] : (List Int)).length + x19.1.length) * 8 ≤ 140737488355328 ∧ (([x19.2] : (List Int)).length + x19.1.length) ≤ maxLen) <|
 .grd (0 ≤ x19.2 ∧ x19.2 < ((a0.Joints.length : Nat) : Int)) <|
 .ret (.next ((([x19.2] : (List Int)) ++ x19.1), (a0.Joints.getD ((x19.2).toNat) default).Parent)))
 (.ret (.out x19.1)))
 (nl, a1) [] fun y20 =>
 .ret y20)
noncomputable def nz6 (a0 : azm) (a1 : Int) : CallS (List Int) :=
  mkC [] hd Tryz.func170 (by kernel_rfl) (uz2 a0 a1) 0 [.pure (czo a0), pz a1] [] (fun r => .pure (encL 1 az3 r)) (fun _ => []) (by kernel_rfl)
noncomputable def rz8 (a0 : (List Int)) (a1 : Int) : T Bool :=
 .loop (fun (x5 : Int) => ⟨[(0, .pure (encL 1 az3 a0)), (1, pz a1), (5, pz x5)], [], [], 0⟩)
 (.exit 0) (fun (_ : U0) => ⟨[], [], [], 0⟩)
 (fun x5 => .br (decide (x5 < ((a0.length : Nat) : Int)))
 (.grd (0 ≤ x5 ∧ x5 < ((a0.length : Nat) : Int)) <|
 .br ((a0.getD ((x5).toNat) default) == a1)
 (.ret (.fin true))
 (.ret (.next (IntKind.i64.wrap (x5 + 1)))))
 (.ret (.out .u)))
 0 [] fun _ =>
 .ret false
noncomputable def rz7 (a0 : (List Int)) (a1 : Int) : CallS Bool :=
  mkC [] hd Tryz.func171 (by kernel_rfl) (rz8 a0 a1) 0 [.pure (encL 1 az3 a0), pz a1] [] (fun r => .pure (.bool r)) (fun _ => []) (by kernel_rfl)
noncomputable def ozk (a0 : azm) (a1 : Int) (a2 : Int) : T (List Int) :=
 .cut 2 (fun (y17 : Bool) => ⟨[(1, pz a1), (2, pz a2), (3, .ptr 0 0), (25, .pure (.bool y17))], [(0, .box [.pure (encL 12 az9 a0.Joints), .pure (encL 5 azb a0.Masses)])], [], 1⟩)
 (.call (czq a0) [] fun y18 =>
 .br (y18 != 0)
 (.ret (.out true))
 (.call (dz7 a0 a1) [] fun y19 =>
 .br (!y19)
 (.ret (.out true))
 (.call (dz7 a0 a2) [] fun y20 =>
 .ret (.out (!y20))))) fun y17 =>
 .br y17
 (.ret nl)
 (.call (nz6 a0 a1) [] fun y23 =>
 .call (nz6 a0 a2) [] fun y24 =>
 .loop (fun (x81 : ((List Int) × Int)) => ⟨[(3, .ptr 0 0), (7, .pure (encL 1 az3 y23)), (8, .pure (encL 1 az3 y24)), (9, .vec 1), (10, pz x81.2)], [(0, .box [.pure (encL 12 az9 a0.Joints), .pure (encL 5 azb a0.Masses)]), (1, vecO 1 az3 x81.1 3)], [], 2⟩)
 (.exit 0) (fun (y95 : (List Int)) => ⟨[(9, .vec 0)], [(0, vecO 1 az3 y95 3)], [], 1⟩)
 (fun x81 => .br (decide (x81.2 < ((a0.Joints.length : Nat) : Int)))
 (.cut 0 (fun (y104 : (List Int)) => ⟨[(3, .ptr 0 0), (7, .pure (encL 1 az3 y23)), (8, .pure (encL 1 az3 y24)), (9, .vec 1), (10, pz x81.2)], [(0, .box [.pure (encL 12 az9 a0.Joints), .pure (encL 5 azb a0.Masses)]), (1, vecO 1 az3 y104 3)], [], 2⟩)
 (.call (rz7 y23 x81.2) [] fun y107 =>
 .call (rz7 y24 x81.2) [] fun y108 =>
 .br (!(y107 == y108))
 (.conv 9002 (dzo 1 az3 ([x81.2] : (List Int)) 3) <|
 .conv 9003 (izb 1 az3 x81.1 ([x81.2] : (List Int)) 3) <|
 .grd ((x81.1.length + ([x81.2] : (List Int)).length) * 8 ≤ 140737488355328 ∧ (x81.1.length + ([x81.2] : (List Int)).length) ≤ maxLen) <|
 .ret (.out (x81.1 ++ ([x81.2] : (List Int)))))
 (.ret (.out x81.1))) fun y104 =>
 .ret (.next (y104, (IntKind.i64.wrap (x81.2 + 1)))))
 (.ret (.out x81.1)))
 (nl, 0) [] fun y95 =>
 .ret y95)
noncomputable def vzv (a0 : azm) (a1 : Int) (a2 : Int) : CallS (List Int) :=
  mkC [] hd Tryz.func131 (by kernel_rfl) (ozk a0 a1 a2) 0 [.pure (czo a0), pz a1, pz a2] [] (fun r => .pure (encL 1 az3 r)) (fun _ => []) (by kernel_rfl)
noncomputable def uz4 (a0 : azm) (a1 : Int) (a2 : Int) : T Bool :=
 .cut 2 (fun (y17 : Bool) => ⟨[(1, pz a1), (2, pz a2), (3, .ptr 0 0), (23, .pure (.bool y17))], [(0, .box [.pure (encL 12 az9 a0.Joints), .pure (encL 5 azb a0.Masses)])], [], 1⟩)
 (.call (czq a0) [] fun y18 =>
 .br (y18 != 0)
 (.ret (.out true))
 (.call (dz7 a0 a1) [] fun y19 =>
 .br (!y19)
 (.ret (.out true))
 (.call (dz7 a0 a2) [] fun y20 =>
 .ret (.out (!y20))))) fun y17 =>
 .br y17
 (.ret false)
 (.call (vzv (⟨a0.Joints, a0.Masses⟩ : azm) a1 a2) [] fun y22 =>
 .loop (fun (x27 : Int) => ⟨[(3, .ptr 0 0), (7, .pure (encL 1 az3 y22)), (8, pz x27)], [(0, .box [.pure (encL 12 az9 a0.Joints), .pure (encL 5 azb a0.Masses)])], [], 1⟩)
 (.exit 0) (fun (_ : U0) => ⟨[], [], [], 0⟩)
 (fun x27 => .br (decide (x27 < ((y22.length : Nat) : Int)))
 (.grd (0 ≤ x27 ∧ x27 < ((y22.length : Nat) : Int)) <|
 .grd (0 ≤ (y22.getD ((x27).toNat) default) ∧ (y22.getD ((x27).toNat) default) < ((a0.Joints.length : Nat) : Int)) <|
 .grd (0 ≤ x27 ∧ x27 < ((y22.length : Nat) : Int)) <|
 .grd (0 ≤ (y22.getD ((x27).toNat) default) ∧ (y22.getD ((x27).toNat) default) < ((a0.Joints.length : Nat) : Int)) <|
 .br (decide (((a0.Joints.getD (((y22.getD ((x27).toNat) default)).toNat) default).Lo) < ((a0.Joints.getD (((y22.getD ((x27).toNat) default)).toNat) default).Hi)))
 (.ret (.fin false))
 (.ret (.next (IntKind.i64.wrap (x27 + 1)))))
 (.ret (.out .u)))
 0 [] fun _ =>
 .ret true)
noncomputable def Azz (a0 : azm) (a1 : Int) (a2 : Int) : CallS Bool :=
  mkC [] hd Tryz.func71 (by kernel_rfl) (uz4 a0 a1 a2) 0 [.pure (czo a0), pz a1, pz a2] [] (fun r => .pure (.bool r)) (fun _ => []) (by kernel_rfl)
noncomputable def ozl (a0 : aza) (a1 : Int) (a2 : Int) : T Bool :=
 .loop (fun (x13 : Int) => ⟨[(1, pz a1), (2, pz a2), (3, .ptr 0 0), (7, pz x13)], [(0, .box [.pure (encL 12 az9 a0.Robot.Joints), .pure (encL 5 azb a0.Robot.Masses), .pure (encL 3 azd a0.Shapes), .pure (encL 2 azq a0.Skips)])], [], 1⟩)
 (.exit 0) (fun (_ : U0) => ⟨[], [], [], 0⟩)
 (fun x13 => .br (decide (x13 < ((a0.Skips.length : Nat) : Int)))
 (.grd (0 ≤ x13 ∧ x13 < ((a0.Skips.length : Nat) : Int)) <|
 .cut 0 (fun (y18 : Bool) => ⟨[(1, pz a1), (2, pz a2), (3, .ptr 0 0), (7, pz x13), (42, .pure (.bool y18))], [(0, .box [.pure (encL 12 az9 a0.Robot.Joints), .pure (encL 5 azb a0.Robot.Masses), .pure (encL 3 azd a0.Shapes), .pure (encL 2 azq a0.Skips)])], [], 1⟩)
 (.br (((a0.Skips.getD ((x13).toNat) default).A) == a1)
 (.br (((a0.Skips.getD ((x13).toNat) default).B) == a2)
 (.ret (.out true))
 (.br (((a0.Skips.getD ((x13).toNat) default).A) == a2)
 (.ret (.out (((a0.Skips.getD ((x13).toNat) default).B) == a1)))
 (.ret (.out false))))
 (.br (((a0.Skips.getD ((x13).toNat) default).A) == a2)
 (.ret (.out (((a0.Skips.getD ((x13).toNat) default).B) == a1)))
 (.ret (.out false)))) fun y18 =>
 .br y18
 (.ret (.fin true))
 (.ret (.next (IntKind.i64.wrap (x13 + 1)))))
 (.ret (.out .u)))
 0 [] fun _ =>
 .ret false
noncomputable def vzw (a0 : aza) (a1 : Int) (a2 : Int) : CallS Bool :=
  mkC [] hd Tryz.func72 (by kernel_rfl) (ozl a0 a1 a2) 0 [.pure (cz0 a0), pz a1, pz a2] [] (fun r => .pure (.bool r)) (fun _ => []) (by kernel_rfl)
noncomputable def uz3 (a0 : aza) : T (List bzf) :=
 .call (ezb a0) [] fun y4 =>
 .br (y4 != 0)
 (.ret nl)
 (.loop (fun (x561 : ((List bzf) × Int)) => ⟨[(1, .ptr 0 0), (3, .vec 1), (4, pz x561.2)], [(0, .box [.pure (encL 12 az9 a0.Robot.Joints), .pure (encL 5 azb a0.Robot.Masses), .pure (encL 3 azd a0.Shapes), .pure (encL 2 azq a0.Skips)]), (1, vecO 2 czm x561.1 112)], [], 2⟩)
 (.exit 0) (fun (y700 : (List bzf)) => ⟨[(3, .vec 0)], [(0, vecO 2 czm y700 112)], [], 1⟩)
 (fun x561 => .br (decide (x561.2 < ((a0.Shapes.length : Nat) : Int)))
 (.loop (fun (x793 : ((List bzf) × Int)) => ⟨[(1, .ptr 0 0), (3, .vec 1), (4, pz x561.2), (5, pz x793.2)], [(0, .box [.pure (encL 12 az9 a0.Robot.Joints), .pure (encL 5 azb a0.Robot.Masses), .pure (encL 3 azd a0.Shapes), .pure (encL 2 azq a0.Skips)]), (1, vecO 2 czm x793.1 112)], [], 2⟩)
 (.exit 2) (fun (y816 : (List bzf)) => ⟨[(1, .ptr 0 0), (3, .vec 1), (4, pz x561.2)], [(0, .box [.pure (encL 12 az9 a0.Robot.Joints), .pure (encL 5 azb a0.Robot.Masses), .pure (encL 3 azd a0.Shapes), .pure (encL 2 azq a0.Skips)]), (1, vecO 2 czm y816 112)], [], 2⟩)
 (fun x793 => .br (decide (x793.2 < ((a0.Shapes.length : Nat) : Int)))
 (.cut 0 (fun (y831 : (List bzf)) => ⟨[(1, .ptr 0 0), (3, .vec 1), (4, pz x561.2), (5, pz x793.2)], [(0, .box [.pure (encL 12 az9 a0.Robot.Joints), .pure (encL 5 azb a0.Robot.Masses), .pure (encL 3 azd a0.Shapes), .pure (encL 2 azq a0.Skips)]), (1, vecO 2 czm y831 112)], [], 2⟩)
 (.grd (0 ≤ x561.2 ∧ x561.2 < ((a0.Shapes.length : Nat) : Int)) <|
 .grd (0 ≤ x793.2 ∧ x793.2 < ((a0.Shapes.length : Nat) : Int)) <|
 .cut 0 (fun (y836 : Bool) => ⟨[(1, .ptr 0 0), (3, .vec 1), (4, pz x561.2), (5, pz x793.2), (56, .pure (.bool y836))], [(0, .box [.pure (encL 12 az9 a0.Robot.Joints), .pure (encL 5 azb a0.Robot.Masses), .pure (encL 3 azd a0.Shapes), .pure (encL 2 azq a0.Skips)]), (1, vecO 2 czm x793.1 112)], [], 2⟩)
 (.br (((a0.Shapes.getD ((x561.2).toNat) default).Link) != ((a0.Shapes.getD ((x793.2).toNat) default).Link))
 (.call (Azz a0.Robot ((a0.Shapes.getD ((x561.2).toNat) default).Link) ((a0.Shapes.getD ((x793.2).toNat) default).Link)) [] fun y837 =>
 .br (!y837)
 (.call (vzw a0 ((a0.Shapes.getD ((x561.2).toNat) default).Link) ((a0.Shapes.getD ((x793.2).toNat) default).Link)) [] fun y838 =>
 .ret (.out (!y838)))
 (.ret (.out false)))
 (.ret (.out false))) fun y836 =>
 .br y836
 (.conv 12004 (dzo 2 czm ([(⟨x561.2, x793.2⟩ : bzf)] : (List bzf)) 112) <|
 .conv 12005 (izb 2 czm x793.1 ([(⟨x561.2, x793.2⟩ : bzf)] : (List bzf)) 112) <|
 .grd ((x793.1.length + ([(⟨x561.2, x793.2⟩ : bzf)] : (List bzf)).length) * 16 ≤ 140737488355328 ∧ (x793.1.length + ([(⟨x561.2, x793.2⟩ : bzf)] : (List bzf)).length) ≤ maxLen) <|
 .ret (.out (x793.1 ++ ([(⟨x561.2, x793.2⟩ : bzf)] : (List bzf)))))
 (.ret (.out x793.1))) fun y831 =>
 .ret (.next (y831, (IntKind.i64.wrap (x793.2 + 1)))))
 (.ret (.out x793.1)))
 (x561.1, (IntKind.i64.wrap (x561.2 + 1))) [] fun y816 =>
 .ret (.next (y816, (IntKind.i64.wrap (x561.2 + 1)))))
 (.ret (.out x561.1)))
 (nl, 0) [] fun y700 =>
 .ret y700)
noncomputable def Azy (a0 : aza) : CallS (List bzf) :=
  mkC [] hd Tryz.func32 (by kernel_rfl) (uz3 a0) 0 [.pure (cz0 a0)] [] (fun r => .pure (encL 2 czm r)) (fun _ => []) (by kernel_rfl)
noncomputable def qzx (a0 : aza) (a1 : (List az0)) : T ((List azl) × (List azl) × Bool) :=
 .cut 2 (fun (y12 : Bool) => ⟨[(1, .pure (encL 2 az4 a1)), (2, .ptr 0 0), (23, .pure (.bool y12))], [(0, .box [.pure (encL 12 az9 a0.Robot.Joints), .pure (encL 5 azb a0.Robot.Masses), .pure (encL 3 azd a0.Shapes), .pure (encL 2 azq a0.Skips)])], [], 1⟩)
 (.call (ezb (⟨a0.Robot, a0.Shapes, a0.Skips⟩ : aza)) [] fun y13 =>
 .br (y13 != 0)
 (.ret (.out true))
 (.call (lz2 a0.Robot a1) [] fun y14 =>
 .ret (.out (!y14)))) fun y12 =>
 .br y12
 (.ret (nl, nl, false))
 (.call (vzo (⟨a0.Robot, a0.Shapes, a0.Skips⟩ : aza) a1) [] fun y16 =>
 .call (Azy a0) [] fun y18 =>
 .loop (fun (x23 : ((List azl) × (List azl) × Int)) => ⟨[(2, .ptr 0 0), (7, .pure (encL 1 (encL 6 az2) y16)), (8, .vec 1), (9, .vec 2), (10, .pure (encL 2 czm y18)), (11, pz x23.2.2)], [(0, .box [.pure (encL 12 az9 a0.Robot.Joints), .pure (encL 5 azb a0.Robot.Masses), .pure (encL 3 azd a0.Shapes), .pure (encL 2 azq a0.Skips)]), (1, vecO 2 bz5 x23.1 160), (2, vecO 2 bz5 x23.2.1 160)], [], 3⟩)
 (.exit 0) (fun (y24 : ((List azl) × (List azl))) => ⟨[(8, .vec 0), (9, .vec 1)], [(0, vecO 2 bz5 y24.1 160), (1, vecO 2 bz5 y24.2 160)], [], 2⟩)
 (fun x23 => .br (decide (x23.2.2 < ((y18.length : Nat) : Int)))
 (.grd (0 ≤ x23.2.2 ∧ x23.2.2 < ((y18.length : Nat) : Int)) <|
 .grd (0 ≤ x23.2.2 ∧ x23.2.2 < ((y18.length : Nat) : Int)) <|
 .grd (0 ≤ ((y18.getD ((x23.2.2).toNat) default).A) ∧ ((y18.getD ((x23.2.2).toNat) default).A) < ((y16.length : Nat) : Int)) <|
 .grd (0 ≤ ((y18.getD ((x23.2.2).toNat) default).A) ∧ ((y18.getD ((x23.2.2).toNat) default).A) < ((a0.Shapes.length : Nat) : Int)) <|
 .conv 10012 (dzo 2 bz5 ([(⟨(y16.getD (((y18.getD ((x23.2.2).toNat) default).A).toNat) default), (a0.Shapes.getD (((y18.getD ((x23.2.2).toNat) default).A).toNat) default).Radius⟩ : azl)] : (List azl)) 160) <|
 .conv 10013 (izb 2 bz5 x23.1 ([(⟨(y16.getD (((y18.getD ((x23.2.2).toNat) default).A).toNat) default), (a0.Shapes.getD (((y18.getD ((x23.2.2).toNat) default).A).toNat) default).Radius⟩ : azl)] : (List azl)) 160) <|
 .grd ((x23.1.length + ([(⟨(y16.getD (((y18.getD ((x23.2.2).toNat) default).A).toNat) default), (a0.Shapes.getD (((y18.getD ((x23.2.2).toNat) default).A).toNat) default).Radius⟩ : azl)] : (List azl)).length) * 32 ≤ 140737488355328 ∧ (x23.1.length + ([(⟨(y16.getD (((y18.getD ((x23.2.2).toNat) default).A).toNat) default), (a0.Shapes.getD (((y18.getD ((x23.2.2).toNat) default).A).toNat) default).Radius⟩ : azl)] : (List azl)).length) ≤ maxLen) <|
 .grd (0 ≤ ((y18.getD ((x23.2.2).toNat) default).B) ∧ ((y18.getD ((x23.2.2).toNat) default).B) < ((y16.length : Nat) : Int)) <|
 .grd (0 ≤ ((y18.getD ((x23.2.2).toNat) default).B) ∧ ((y18.getD ((x23.2.2).toNat) default).B) < ((a0.Shapes.length : Nat) : Int)) <|
 .conv 11012 (dzo 2 bz5 ([(⟨(y16.getD (((y18.getD ((x23.2.2).toNat) default).B).toNat) default), (a0.Shapes.getD (((y18.getD ((x23.2.2).toNat) default).B).toNat) default).Radius⟩ : azl)] : (List azl)) 160) <|
 .conv 11013 (izb 2 bz5 x23.2.1 ([(⟨(y16.getD (((y18.getD ((x23.2.2).toNat) default).B).toNat) default), (a0.Shapes.getD (((y18.getD ((x23.2.2).toNat) default).B).toNat) default).Radius⟩ : azl)] : (List azl)) 160) <|
 .grd ((x23.2.1.length + ([(⟨(y16.getD (((y18.getD ((x23.2.2).toNat) default).B).toNat) default), (a0.Shapes.getD (((y18.getD ((x23.2.2).toNat) default).B).toNat) default).Radius⟩ : azl)] : (List azl)).length) * 32 ≤ 140737488355328 ∧ (x23.2.1.length + ([(⟨(y16.getD (((y18.getD ((x23.2.2).toNat) default).B).toNat) default), (a0.Shapes.getD (((y18.getD ((x23.2.2).toNat) default).B).toNat) default).Radius⟩ : azl)] : (List azl)).length) ≤ maxLen) <|
 .ret (.next ((x23.1 ++ ([(⟨(y16.getD (((y18.getD ((x23.2.2).toNat) default).A).toNat) default), (a0.Shapes.getD (((y18.getD ((x23.2.2).toNat) default).A).toNat) default).Radius⟩ : azl)] : (List azl))), (x23.2.1 ++ ([(⟨(y16.getD (((y18.getD ((x23.2.2).toNat) default).B).toNat) default), (a0.Shapes.getD (((y18.getD ((x23.2.2).toNat) default).B).toNat) default).Radius⟩ : azl)] : (List azl))), (IntKind.i64.wrap (x23.2.2 + 1)))))
 (.ret (.out (x23.1, x23.2.1))))
 (nl, nl, 0) [] fun y24 =>
 .ret (y24.1, y24.2, true))
noncomputable def yz3 (a0 : aza) (a1 : (List az0)) : CallS ((List azl) × (List azl) × Bool) :=
  mkC [] hd Tryz.func101 (by kernel_rfl) (qzx a0 a1) 0 [.pure (cz0 a0), .pure (encL 2 az4 a1)] [] (fun r => .tup [.pure (encL 2 bz5 r.1), .pure (encL 2 bz5 r.2.1), .pure (.bool r.2.2)]) (fun _ => []) (by kernel_rfl)
noncomputable def lzz (a0 : (az0 × az0 × az0)) : T Bool :=
 .unroll 4 <|
 .known true <|
 .cut 1 (fun (y16 : Bool) => ⟨[(1, .ptr 0 0), (3, pz 0), (30, .pure (.bool y16))], [(0, .box [pz a0.1.Lo, pz a0.1.Hi, pz a0.2.1.Lo, pz a0.2.1.Hi, pz a0.2.2.Lo, pz a0.2.2.Hi])], [], 1⟩)
 (.ix 0 3 rfl <|
 .br (decide (a0.1.Lo < (-268435456)))
 (.ret (.out true))
 (.ix 0 3 rfl <|
 .ix 0 3 rfl <|
 .br (decide (a0.1.Lo > a0.1.Hi))
 (.ret (.out true))
 (.ix 0 3 rfl <|
 .ret (.out (decide (a0.1.Hi > 268435456)))))) fun y16 =>
 .br y16
 (.ret false)
 (.lit 3001 (1) <|
 .known true <|
 .cut 1 (fun (y18 : Bool) => ⟨[(1, .ptr 0 0), (3, pz 1), (30, .pure (.bool y18))], [(0, .box [pz a0.1.Lo, pz a0.1.Hi, pz a0.2.1.Lo, pz a0.2.1.Hi, pz a0.2.2.Lo, pz a0.2.2.Hi])], [], 1⟩)
 (.ix 1 3 rfl <|
 .br (decide (a0.2.1.Lo < (-268435456)))
 (.ret (.out true))
 (.ix 1 3 rfl <|
 .ix 1 3 rfl <|
 .br (decide (a0.2.1.Lo > a0.2.1.Hi))
 (.ret (.out true))
 (.ix 1 3 rfl <|
 .ret (.out (decide (a0.2.1.Hi > 268435456)))))) fun y18 =>
 .br y18
 (.ret false)
 (.lit 3001 (2) <|
 .known true <|
 .cut 1 (fun (y20 : Bool) => ⟨[(1, .ptr 0 0), (3, pz 2), (30, .pure (.bool y20))], [(0, .box [pz a0.1.Lo, pz a0.1.Hi, pz a0.2.1.Lo, pz a0.2.1.Hi, pz a0.2.2.Lo, pz a0.2.2.Hi])], [], 1⟩)
 (.ix 2 3 rfl <|
 .br (decide (a0.2.2.Lo < (-268435456)))
 (.ret (.out true))
 (.ix 2 3 rfl <|
 .ix 2 3 rfl <|
 .br (decide (a0.2.2.Lo > a0.2.2.Hi))
 (.ret (.out true))
 (.ix 2 3 rfl <|
 .ret (.out (decide (a0.2.2.Hi > 268435456)))))) fun y20 =>
 .br y20
 (.ret false)
 (.lit 3001 (3) <|
 .known false <|
 .ret true)))
noncomputable def lzy (a0 : (az0 × az0 × az0)) : CallS Bool :=
  mkC [] hd Tryz.func210 (by kernel_rfl) (lzz a0) 0 [.pure (az2 a0)] [] (fun r => .pure (.bool r)) (fun _ => []) (by kernel_rfl)
noncomputable def oz8 (a0 : (List (az0 × az0 × az0))) : T Bool :=
 .loop (fun (x29 : Int) => ⟨[(0, .pure (encL 6 az2 a0)), (3, pz x29)], [], [], 0⟩)
 (.exit 0) (fun (_ : U0) => ⟨[(0, .pure (encL 6 az2 a0))], [], [], 0⟩)
 (fun x29 => .cut 1 (fun (y38 : Bool) => ⟨[(0, .pure (encL 6 az2 a0)), (3, pz x29), (11, .pure (.bool y38))], [], [], 0⟩)
 (.br (decide (x29 < ((a0.length : Nat) : Int)))
 (.ret (.out (decide (x29 ≤ 8))))
 (.ret (.out false))) fun y38 =>
 .br y38
 (.grd (0 ≤ x29 ∧ x29 < ((a0.length : Nat) : Int)) <|
 .call (lzy (a0.getD ((x29).toNat) default)) [] fun y42 =>
 .br (!y42)
 (.ret (.fin false))
 (.ret (.next (IntKind.i64.wrap (x29 + 1)))))
 (.ret (.out .u)))
 0 [] fun _ =>
 .br (decide (((a0.length : Nat) : Int) ≥ 1))
 (.ret (decide (((a0.length : Nat) : Int) ≤ 8)))
 (.ret false)
noncomputable def czt (a0 : (List (az0 × az0 × az0))) : CallS Bool :=
  mkC [] hd Tryz.func160 (by kernel_rfl) (oz8 a0) 0 [.pure (encL 6 az2 a0)] [] (fun r => .pure (.bool r)) (fun _ => []) (by kernel_rfl)
noncomputable def gz2 (a0 : Int) : T Bool :=
 .br (decide (a0 ≥ 0))
 (.ret (decide (a0 ≤ 1048576)))
 (.ret false)
noncomputable def dzd (a0 : Int) : CallS Bool :=
  mkC [] hd Tryz.func206 (by kernel_rfl) (gz2 a0) 0 [pz a0] [] (fun r => .pure (.bool r)) (fun _ => []) (by kernel_rfl)
noncomputable def oza (a0 : (Int × Int × Int)) : T Bool :=
 .br (!((a0.1 == 0) && ((a0.2.1 == 0) && ((a0.2.2 == 0) && true))))
 (.call (dzy a0 16384) [] fun y1 =>
 .ret y1)
 (.ret false)
noncomputable def dzb (a0 : (Int × Int × Int)) : CallS Bool :=
  mkC [] hd Tryz.func106 (by kernel_rfl) (oza a0) 0 [.pure (az1 a0)] [] (fun r => .pure (.bool r)) (fun _ => []) (by kernel_rfl)
noncomputable def zzy (a0 : az0) : T Int :=
 .call (czj a0) [] fun y4 =>
 .br (!y4)
 (.ret 0)
 (.call (azu (IntKind.i64.wrap (a0.Lo + a0.Hi)) 2) [] fun y5 =>
 .ret y5)
noncomputable def uzp (a0 : az0) : CallS Int :=
  mkC [] hd Tryz.func161 (by kernel_rfl) (zzy a0) 0 [.pure (az4 a0)] [] (fun r => pz r) (fun _ => []) (by kernel_rfl)
noncomputable def lzv (a0 : (List (az0 × az0 × az0))) : T (List (Int × Int × Int)) :=
 .call (czt a0) [] fun y4 =>
 .br (!y4)
 (.ret nl)
 (.loop (fun (x33 : ((List (Int × Int × Int)) × Int)) => ⟨[(0, .pure (encL 6 az2 a0)), (3, .vec 0), (4, pz x33.2)], [(0, vecO 3 az1 x33.1 49)], [], 1⟩)
 (.exit 0) (fun (y40 : (List (Int × Int × Int))) => ⟨[(3, .vec 0)], [(0, vecO 3 az1 y40 49)], [], 1⟩)
 (fun x33 => .br (decide (x33.2 < ((a0.length : Nat) : Int)))
 (.grd (0 ≤ x33.2 ∧ x33.2 < ((a0.length : Nat) : Int)) <|
 .ix 0 3 rfl <|
 .call (uzp ((a0.getD ((x33.2).toNat) default).1)) [] fun y44 =>
 .grd (0 ≤ x33.2 ∧ x33.2 < ((a0.length : Nat) : Int)) <|
 .ix 1 3 rfl <|
 .call (uzp ((a0.getD ((x33.2).toNat) default).2.1)) [] fun y45 =>
 .grd (0 ≤ x33.2 ∧ x33.2 < ((a0.length : Nat) : Int)) <|
 .ix 2 3 rfl <|
 .call (uzp ((a0.getD ((x33.2).toNat) default).2.2)) [] fun y46 =>
 .conv 7020 (dzo 3 az1 ([(y44, y45, y46)] : (List (Int × Int × Int))) 49) <|
 .conv 7021 (izb 3 az1 x33.1 ([(y44, y45, y46)] : (List (Int × Int × Int))) 49) <|
 .grd ((x33.1.length + ([(y44, y45, y46)] : (List (Int × Int × Int))).length) * 24 ≤ 140737488355328 ∧ (x33.1.length + ([(y44, y45, y46)] : (List (Int × Int × Int))).length) ≤ maxLen) <|
 .ret (.next ((x33.1 ++ ([(y44, y45, y46)] : (List (Int × Int × Int)))), (IntKind.i64.wrap (x33.2 + 1)))))
 (.ret (.out x33.1)))
 (nl, 0) [] fun y40 =>
 .ret y40)
noncomputable def czh (a0 : (List (az0 × az0 × az0))) : CallS (List (Int × Int × Int)) :=
  mkC [] hd Tryz.func104 (by kernel_rfl) (lzv a0) 0 [.pure (encL 6 az2 a0)] [] (fun r => .pure (encL 3 az1 r)) (fun _ => []) (by kernel_rfl)
noncomputable def fzz (a0 : (Int × Int × Int)) : T ((Int × Int × Int) × Bool) :=
 .br ((a0.1 == 0) && ((a0.2.1 == 0) && ((a0.2.2 == 0) && true)))
 (.ret (a0, false))
 (.loop (fun (x6 : Int) => ⟨[(1, .ptr 0 0), (2, .ptr 1 0), (4, pz x6)], [(0, .box [pz a0.1, pz a0.2.1, pz a0.2.2]), (1, .box [pz 0, pz 0, pz 0])], [], 2⟩)
 .ret (fun (_ : U0) => ⟨[], [], [], 0⟩)
 (fun x6 => .ix 0 3 rfl <|
 .grd (x6 ≠ 0) <|
 .ix 1 3 rfl <|
 .grd (x6 ≠ 0) <|
 .ix 2 3 rfl <|
 .grd (x6 ≠ 0) <|
 .call (dzy ((IntKind.i64.wrap (a0.1.tdiv x6)), (IntKind.i64.wrap (a0.2.1.tdiv x6)), (IntKind.i64.wrap (a0.2.2.tdiv x6))) 16384) [] fun y15 =>
 .br y15
 (.ret (.fin (((IntKind.i64.wrap (a0.1.tdiv x6)), (IntKind.i64.wrap (a0.2.1.tdiv x6)), (IntKind.i64.wrap (a0.2.2.tdiv x6))), true)))
 (.ret (.next (IntKind.i64.wrap (x6 * 2)))))
 1 [] fun _ =>
 .stop)
noncomputable def ezs (a0 : (Int × Int × Int)) : CallS ((Int × Int × Int) × Bool) :=
  mkC [] hd Tryz.func155 (by kernel_rfl) (fzz a0) 0 [.pure (az1 a0)] [] (fun r => .tup [.pure (az1 r.1), .pure (.bool r.2)]) (fun _ => []) (by kernel_rfl)
set_option maxHeartbeats 8000000 in
set_option maxRecDepth 20000 in
noncomputable def tzo (a0 : (List (az0 × az0 × az0))) (a1 : (List (az0 × az0 × az0))) : T ((Int × Int × Int) × Bool) :=
 .cut 2 (fun (y249 : Bool) => ⟨[(0, .pure (encL 6 az2 a0)), (1, .pure (encL 6 az2 a1)), (4, .ptr 0 0), (19, .pure (.bool y249))], [(0, .box [pz 0, pz 0, pz 0])], [], 1⟩)
 (.call (czt a0) [] fun y250 =>
 .br (!y250)
 (.ret (.out true))
 (.call (czt a1) [] fun y251 =>
 .ret (.out (!y251)))) fun y249 =>
 .br y249
 (.ret ((0, 0, 0), false))
 (.call (czh a0) [] fun y254 =>
 .call (czh a1) [] fun y255 =>
 .unroll 4 <|
 .known true <|
 .loop (fun (x571 : (Int × Int)) => ⟨[(4, .ptr 0 0), (6, .ptr 1 0), (7, .pure (encL 3 az1 y254)), (8, .pure (encL 3 az1 y255)), (9, pz 0), (10, pz x571.2)], [(0, .box [pz 0, pz 0, pz 0]), (1, .box [pz x571.1, pz 0, pz 0])], [], 2⟩)
 (.exit 2) (fun (y574 : Int) => ⟨[(4, .ptr 0 0), (6, .ptr 1 0), (7, .pure (encL 3 az1 y254)), (8, .pure (encL 3 az1 y255)), (9, pz 0)], [(0, .box [pz 0, pz 0, pz 0]), (1, .box [pz y574, pz 0, pz 0])], [], 2⟩)
 (fun x571 => .br (decide (x571.2 < ((y254.length : Nat) : Int)))
 (.ix 0 3 rfl <|
 .grd (0 ≤ x571.2 ∧ x571.2 < ((y254.length : Nat) : Int)) <|
 .ix 0 3 rfl <|
 .name 11012 ((IntKind.i64.wrap (x571.1 + (IntKind.i64.wrap (((y254.getD ((x571.2).toNat) default).1) * ((y255.length : Nat) : Int)))))) fun z576 =>
 .ix 0 3 rfl <|
 .ret (.next (z576, (IntKind.i64.wrap (x571.2 + 1)))))
 (.ret (.out x571.1)))
 (0, 0) [] fun y574 =>
 .loop (fun (x580 : (Int × Int)) => ⟨[(4, .ptr 0 0), (6, .ptr 1 0), (7, .pure (encL 3 az1 y254)), (8, .pure (encL 3 az1 y255)), (9, pz 0), (11, pz x580.2)], [(0, .box [pz 0, pz 0, pz 0]), (1, .box [pz x580.1, pz 0, pz 0])], [], 2⟩)
 (.exit 4) (fun (y583 : Int) => ⟨[(4, .ptr 0 0), (6, .ptr 1 0), (7, .pure (encL 3 az1 y254)), (8, .pure (encL 3 az1 y255)), (9, pz 0)], [(0, .box [pz 0, pz 0, pz 0]), (1, .box [pz y583, pz 0, pz 0])], [], 2⟩)
 (fun x580 => .br (decide (x580.2 < ((y255.length : Nat) : Int)))
 (.ix 0 3 rfl <|
 .grd (0 ≤ x580.2 ∧ x580.2 < ((y255.length : Nat) : Int)) <|
 .ix 0 3 rfl <|
 .name 15012 ((IntKind.i64.wrap (x580.1 - (IntKind.i64.wrap (((y255.getD ((x580.2).toNat) default).1) * ((y254.length : Nat) : Int)))))) fun z585 =>
 .ix 0 3 rfl <|
 .ret (.next (z585, (IntKind.i64.wrap (x580.2 + 1)))))
 (.ret (.out x580.1)))
 (y574, 0) [] fun y583 =>
 .lit 7001 (1) <|
 .known true <|
 .loop (fun (x625 : (Int × Int)) => ⟨[(4, .ptr 0 0), (6, .ptr 1 0), (7, .pure (encL 3 az1 y254)), (8, .pure (encL 3 az1 y255)), (9, pz 1), (10, pz x625.2)], [(0, .box [pz 0, pz 0, pz 0]), (1, .box [pz y583, pz x625.1, pz 0])], [], 2⟩)
 (.exit 2) (fun (y628 : Int) => ⟨[(4, .ptr 0 0), (6, .ptr 1 0), (7, .pure (encL 3 az1 y254)), (8, .pure (encL 3 az1 y255)), (9, pz 1)], [(0, .box [pz 0, pz 0, pz 0]), (1, .box [pz y583, pz y628, pz 0])], [], 2⟩)
 (fun x625 => .br (decide (x625.2 < ((y254.length : Nat) : Int)))
 (.ix 1 3 rfl <|
 .grd (0 ≤ x625.2 ∧ x625.2 < ((y254.length : Nat) : Int)) <|
 .ix 1 3 rfl <|
 .name 11012 ((IntKind.i64.wrap (x625.1 + (IntKind.i64.wrap (((y254.getD ((x625.2).toNat) default).2.1) * ((y255.length : Nat) : Int)))))) fun z630 =>
 .ix 1 3 rfl <|
 .ret (.next (z630, (IntKind.i64.wrap (x625.2 + 1)))))
 (.ret (.out x625.1)))
 (0, 0) [] fun y628 =>
 .loop (fun (x634 : (Int × Int)) => ⟨[(4, .ptr 0 0), (6, .ptr 1 0), (7, .pure (encL 3 az1 y254)), (8, .pure (encL 3 az1 y255)), (9, pz 1), (11, pz x634.2)], [(0, .box [pz 0, pz 0, pz 0]), (1, .box [pz y583, pz x634.1, pz 0])], [], 2⟩)
 (.exit 4) (fun (y637 : Int) => ⟨[(4, .ptr 0 0), (6, .ptr 1 0), (7, .pure (encL 3 az1 y254)), (8, .pure (encL 3 az1 y255)), (9, pz 1)], [(0, .box [pz 0, pz 0, pz 0]), (1, .box [pz y583, pz y637, pz 0])], [], 2⟩)
 (fun x634 => .br (decide (x634.2 < ((y255.length : Nat) : Int)))
 (.ix 1 3 rfl <|
 .grd (0 ≤ x634.2 ∧ x634.2 < ((y255.length : Nat) : Int)) <|
 .ix 1 3 rfl <|
 .name 15012 ((IntKind.i64.wrap (x634.1 - (IntKind.i64.wrap (((y255.getD ((x634.2).toNat) default).2.1) * ((y254.length : Nat) : Int)))))) fun z639 =>
 .ix 1 3 rfl <|
 .ret (.next (z639, (IntKind.i64.wrap (x634.2 + 1)))))
 (.ret (.out x634.1)))
 (y628, 0) [] fun y637 =>
 .lit 7001 (2) <|
 .known true <|
 .loop (fun (x679 : (Int × Int)) => ⟨[(4, .ptr 0 0), (6, .ptr 1 0), (7, .pure (encL 3 az1 y254)), (8, .pure (encL 3 az1 y255)), (9, pz 2), (10, pz x679.2)], [(0, .box [pz 0, pz 0, pz 0]), (1, .box [pz y583, pz y637, pz x679.1])], [], 2⟩)
 (.exit 2) (fun (y682 : Int) => ⟨[(4, .ptr 0 0), (6, .ptr 1 0), (7, .pure (encL 3 az1 y254)), (8, .pure (encL 3 az1 y255)), (9, pz 2)], [(0, .box [pz 0, pz 0, pz 0]), (1, .box [pz y583, pz y637, pz y682])], [], 2⟩)
 (fun x679 => .br (decide (x679.2 < ((y254.length : Nat) : Int)))
 (.ix 2 3 rfl <|
 .grd (0 ≤ x679.2 ∧ x679.2 < ((y254.length : Nat) : Int)) <|
 .ix 2 3 rfl <|
 .name 11012 ((IntKind.i64.wrap (x679.1 + (IntKind.i64.wrap (((y254.getD ((x679.2).toNat) default).2.2) * ((y255.length : Nat) : Int)))))) fun z684 =>
 .ix 2 3 rfl <|
 .ret (.next (z684, (IntKind.i64.wrap (x679.2 + 1)))))
 (.ret (.out x679.1)))
 (0, 0) [] fun y682 =>
 .loop (fun (x688 : (Int × Int)) => ⟨[(4, .ptr 0 0), (6, .ptr 1 0), (7, .pure (encL 3 az1 y254)), (8, .pure (encL 3 az1 y255)), (9, pz 2), (11, pz x688.2)], [(0, .box [pz 0, pz 0, pz 0]), (1, .box [pz y583, pz y637, pz x688.1])], [], 2⟩)
 (.exit 4) (fun (y691 : Int) => ⟨[(4, .ptr 0 0), (6, .ptr 1 0), (7, .pure (encL 3 az1 y254)), (8, .pure (encL 3 az1 y255)), (9, pz 2)], [(0, .box [pz 0, pz 0, pz 0]), (1, .box [pz y583, pz y637, pz y691])], [], 2⟩)
 (fun x688 => .br (decide (x688.2 < ((y255.length : Nat) : Int)))
 (.ix 2 3 rfl <|
 .grd (0 ≤ x688.2 ∧ x688.2 < ((y255.length : Nat) : Int)) <|
 .ix 2 3 rfl <|
 .name 15012 ((IntKind.i64.wrap (x688.1 - (IntKind.i64.wrap (((y255.getD ((x688.2).toNat) default).2.2) * ((y254.length : Nat) : Int)))))) fun z693 =>
 .ix 2 3 rfl <|
 .ret (.next (z693, (IntKind.i64.wrap (x688.2 + 1)))))
 (.ret (.out x688.1)))
 (y682, 0) [] fun y691 =>
 .lit 7001 (3) <|
 .known false <|
 .call (ezs (y583, y637, y691)) [] fun y694 =>
 .ret (y694.1, y694.2))
noncomputable def Azr (a0 : (List (az0 × az0 × az0))) (a1 : (List (az0 × az0 × az0))) : CallS ((Int × Int × Int) × Bool) :=
  mkC [] hd Tryz.func207 (by kernel_rfl) (tzo a0 a1) 0 [.pure (encL 6 az2 a0), .pure (encL 6 az2 a1)] [] (fun r => .tup [.pure (az1 r.1), .pure (.bool r.2)]) (fun _ => []) (by kernel_rfl)
noncomputable def Jzj : T (List (Int × Int × Int)) :=
 .conv 1006 (dzo 3 az1 ([(1, 0, 0), ((-1), 0, 0), (0, 1, 0), (0, (-1), 0), (0, 0, 1), (0, 0, (-1))] : (List (Int × Int × Int))) 49) <|
 .ret ([(1, 0, 0), ((-1), 0, 0), (0, 1, 0), (0, (-1), 0), (0, 0, 1), (0, 0, (-1))] : (List (Int × Int × Int)))
noncomputable def ref14_Axes_C : CallS (List (Int × Int × Int)) :=
  mkC [] hd Tryz.func208 (by kernel_rfl) (Jzj) 0 [] [] (fun r => .pure (encL 3 az1 r)) (fun _ => []) (by kernel_rfl)
noncomputable def wzi (a0 : (List (Int × Int × Int))) : T Bool :=
 .loop (fun (x29 : Int) => ⟨[(0, .pure (encL 3 az1 a0)), (3, pz x29)], [], [], 0⟩)
 (.exit 0) (fun (_ : U0) => ⟨[(0, .pure (encL 3 az1 a0))], [], [], 0⟩)
 (fun x29 => .cut 1 (fun (y38 : Bool) => ⟨[(0, .pure (encL 3 az1 a0)), (3, pz x29), (11, .pure (.bool y38))], [], [], 0⟩)
 (.br (decide (x29 < ((a0.length : Nat) : Int)))
 (.ret (.out (decide (x29 ≤ 8))))
 (.ret (.out false))) fun y38 =>
 .br y38
 (.grd (0 ≤ x29 ∧ x29 < ((a0.length : Nat) : Int)) <|
 .call (dzy (a0.getD ((x29).toNat) default) 268435456) [] fun y42 =>
 .br (!y42)
 (.ret (.fin false))
 (.ret (.next (IntKind.i64.wrap (x29 + 1)))))
 (.ret (.out .u)))
 0 [] fun _ =>
 .br (decide (((a0.length : Nat) : Int) ≥ 1))
 (.ret (decide (((a0.length : Nat) : Int) ≤ 8)))
 (.ret false)
noncomputable def wzh (a0 : (List (Int × Int × Int))) : CallS Bool :=
  mkC [] hd Tryz.func151 (by kernel_rfl) (wzi a0) 0 [.pure (encL 3 az1 a0)] [] (fun r => .pure (.bool r)) (fun _ => []) (by kernel_rfl)
noncomputable def mz1 (a0 : (List (Int × Int × Int))) (a1 : (List Int)) : T (Int × Int × Int) :=
 .loop (fun (x211 : (Int × Int × Int × Int)) => ⟨[(0, .pure (encL 3 az1 a0)), (1, .pure (encL 1 az3 a1)), (4, .ptr 0 0), (5, .ptr 1 0), (6, pz x211.2.2.2)], [(0, .box [pz 0, pz 0, pz 0]), (1, .box [pz x211.1, pz x211.2.1, pz x211.2.2.1])], [], 2⟩)
 (.exit 0) (fun (y232 : (Int × Int × Int)) => ⟨[(4, .ptr 0 0), (5, .ptr 1 0)], [(0, .box [pz 0, pz 0, pz 0]), (1, .box [pz y232.1, pz y232.2.1, pz y232.2.2])], [], 2⟩)
 (fun x211 => .br (decide (x211.2.2.2 < ((a0.length : Nat) : Int)))
 (.unroll 4 <|
 .known true <|
 .ix 0 3 rfl <|
 .grd (0 ≤ x211.2.2.2 ∧ x211.2.2.2 < ((a1.length : Nat) : Int)) <|
 .grd (0 ≤ x211.2.2.2 ∧ x211.2.2.2 < ((a0.length : Nat) : Int)) <|
 .ix 0 3 rfl <|
 .name 8014 ((IntKind.i64.wrap (x211.1 + (IntKind.i64.wrap ((a1.getD ((x211.2.2.2).toNat) default) * ((a0.getD ((x211.2.2.2).toNat) default).1)))))) fun z248 =>
 .ix 0 3 rfl <|
 .lit 7001 (1) <|
 .known true <|
 .ix 1 3 rfl <|
 .grd (0 ≤ x211.2.2.2 ∧ x211.2.2.2 < ((a1.length : Nat) : Int)) <|
 .grd (0 ≤ x211.2.2.2 ∧ x211.2.2.2 < ((a0.length : Nat) : Int)) <|
 .ix 1 3 rfl <|
 .name 8014 ((IntKind.i64.wrap (x211.2.1 + (IntKind.i64.wrap ((a1.getD ((x211.2.2.2).toNat) default) * ((a0.getD ((x211.2.2.2).toNat) default).2.1)))))) fun z250 =>
 .ix 1 3 rfl <|
 .lit 7001 (2) <|
 .known true <|
 .ix 2 3 rfl <|
 .grd (0 ≤ x211.2.2.2 ∧ x211.2.2.2 < ((a1.length : Nat) : Int)) <|
 .grd (0 ≤ x211.2.2.2 ∧ x211.2.2.2 < ((a0.length : Nat) : Int)) <|
 .ix 2 3 rfl <|
 .name 8014 ((IntKind.i64.wrap (x211.2.2.1 + (IntKind.i64.wrap ((a1.getD ((x211.2.2.2).toNat) default) * ((a0.getD ((x211.2.2.2).toNat) default).2.2)))))) fun z252 =>
 .ix 2 3 rfl <|
 .lit 7001 (3) <|
 .known false <|
 .ret (.next (z248, z250, z252, (IntKind.i64.wrap (x211.2.2.2 + 1)))))
 (.ret (.out (x211.1, x211.2.1, x211.2.2.1))))
 (0, 0, 0, 0) [] fun y232 =>
 .ret (y232.1, y232.2.1, y232.2.2)
noncomputable def mz0 (a0 : (List (Int × Int × Int))) (a1 : (List Int)) : CallS (Int × Int × Int) :=
  mkC [] hd Tryz.func153 (by kernel_rfl) (mz1 a0 a1) 0 [.pure (encL 3 az1 a0), .pure (encL 1 az3 a1)] [] (fun r => .pure (az1 r)) (fun _ => []) (by kernel_rfl)
noncomputable def Hze (a0 : (Int × Int × Int)) (a1 : (Int × Int × Int)) : T (Int × Int × Int) :=
 .ix 0 3 rfl <|
 .ix 0 3 rfl <|
 .ix 1 3 rfl <|
 .ix 1 3 rfl <|
 .ix 2 3 rfl <|
 .ix 2 3 rfl <|
 .ret ((IntKind.i64.wrap (a0.1 - a1.1)), (IntKind.i64.wrap (a0.2.1 - a1.2.1)), (IntKind.i64.wrap (a0.2.2 - a1.2.2)))
noncomputable def hzq (a0 : (Int × Int × Int)) (a1 : (Int × Int × Int)) : CallS (Int × Int × Int) :=
  mkC [] hd Tryz.func152 (by kernel_rfl) (Hze a0 a1) 0 [.pure (az1 a0), .pure (az1 a1)] [] (fun r => .pure (az1 r)) (fun _ => []) (by kernel_rfl)
noncomputable def jzp (a0 : (Int × Int × Int)) (a1 : Int) : T Bool :=
 .unroll 4 <|
 .known true <|
 .ix 0 3 rfl <|
 .ix 0 3 rfl <|
 .call (azo (max a0.1 (IntKind.i64.wrap (0 - a0.1))) 65536) [] fun y85 =>
 .name 6004 ((IntKind.i64.wrap (0 + (IntKind.i64.wrap (y85 * y85))))) fun z86 =>
 .lit 4001 (1) <|
 .known true <|
 .ix 1 3 rfl <|
 .ix 1 3 rfl <|
 .call (azo (max a0.2.1 (IntKind.i64.wrap (0 - a0.2.1))) 65536) [] fun y91 =>
 .name 6004 ((IntKind.i64.wrap (z86 + (IntKind.i64.wrap (y91 * y91))))) fun z92 =>
 .lit 4001 (2) <|
 .known true <|
 .ix 2 3 rfl <|
 .ix 2 3 rfl <|
 .call (azo (max a0.2.2 (IntKind.i64.wrap (0 - a0.2.2))) 65536) [] fun y97 =>
 .name 6004 ((IntKind.i64.wrap (z92 + (IntKind.i64.wrap (y97 * y97))))) fun z98 =>
 .lit 4001 (3) <|
 .known false <|
 .ret (decide (z98 ≤ (IntKind.i64.wrap (a1 * a1))))
noncomputable def nz4 (a0 : (Int × Int × Int)) (a1 : Int) : CallS Bool :=
  mkC [] hd Tryz.func154 (by kernel_rfl) (jzp a0 a1) 0 [.pure (az1 a0), pz a1] [] (fun r => .pure (.bool r)) (fun _ => []) (by kernel_rfl)
noncomputable def Lzb (a0 : (Int × Int × Int)) (a1 : (Int × Int × Int)) : T Int :=
 .ix 0 3 rfl <|
 .ix 0 3 rfl <|
 .ix 1 3 rfl <|
 .ix 1 3 rfl <|
 .ix 2 3 rfl <|
 .ix 2 3 rfl <|
 .name 1016 ((IntKind.i64.wrap ((IntKind.i64.wrap ((IntKind.i64.wrap (a0.1 * a1.1)) + (IntKind.i64.wrap (a0.2.1 * a1.2.1)))) + (IntKind.i64.wrap (a0.2.2 * a1.2.2))))) fun z2 =>
 .ret z2
noncomputable def fz8 (a0 : (Int × Int × Int)) (a1 : (Int × Int × Int)) : CallS Int :=
  mkC [] hd Tryz.func157 (by kernel_rfl) (Lzb a0 a1) 0 [.pure (az1 a0), .pure (az1 a1)] [] (fun r => pz r) (fun _ => []) (by kernel_rfl)
noncomputable def fz7 (a0 : (Int × Int × Int)) (a1 : (List (Int × Int × Int))) (a2 : Int) : T Int :=
 .loop (fun (x57 : (Int × Int)) => ⟨[(1, .pure (encL 3 az1 a1)), (2, pz a2), (3, .ptr 0 0), (7, pz x57.1), (8, pz x57.2)], [(0, .box [pz a0.1, pz a0.2.1, pz a0.2.2])], [], 1⟩)
 (.exit 0) (fun (y71 : Int) => ⟨[(7, pz y71)], [], [], 0⟩)
 (fun x57 => .br (decide (x57.2 < ((a1.length : Nat) : Int)))
 (.cut 0 (fun (y80 : Int) => ⟨[(1, .pure (encL 3 az1 a1)), (2, pz a2), (3, .ptr 0 0), (7, pz y80), (8, pz x57.2)], [(0, .box [pz a0.1, pz a0.2.1, pz a0.2.2])], [], 1⟩)
 (.grd (0 ≤ x57.2 ∧ x57.2 < ((a1.length : Nat) : Int)) <|
 .call (fz8 a0 (a1.getD ((x57.2).toNat) default)) [] fun y83 =>
 .grd (0 ≤ x57.1 ∧ x57.1 < ((a1.length : Nat) : Int)) <|
 .call (fz8 a0 (a1.getD ((x57.1).toNat) default)) [] fun y84 =>
 .br (decide ((IntKind.i64.wrap (a2 * y83)) < (IntKind.i64.wrap (a2 * y84))))
 (.ret (.out x57.2))
 (.ret (.out x57.1))) fun y80 =>
 .ret (.next (y80, (IntKind.i64.wrap (x57.2 + 1)))))
 (.ret (.out x57.1)))
 (0, 1) [] fun y71 =>
 .ret y71
noncomputable def dzj (a0 : (Int × Int × Int)) (a1 : (List (Int × Int × Int))) (a2 : Int) : CallS Int :=
  mkC [] hd Tryz.func156 (by kernel_rfl) (fz7 a0 a1 a2) 0 [.pure (az1 a0), .pure (encL 3 az1 a1), pz a2] [] (fun r => pz r) (fun _ => []) (by kernel_rfl)
noncomputable def wzl (a0 : Int) : T Int :=
 .br (decide (a0 < 1))
 (.ret 0)
 (.loop (fun (x5 : (Int × Int)) => ⟨[(0, pz a0), (3, pz x5.1), (4, pz x5.2)], [], [], 0⟩)
 (.exit 0) (fun (y6 : Int) => ⟨[(3, pz y6)], [], [], 0⟩)
 (fun x5 => .br (decide ((IntKind.i64.wrap (x5.2 - x5.1)) > 1))
 (.ok ((2 : Int) ≠ 0) (by decide) <|
 .grd ((IntKind.i64.wrap (x5.1 + (IntKind.i64.wrap ((IntKind.i64.wrap (x5.2 - x5.1)).tdiv 2)))) ≠ 0) <|
 .br (decide ((IntKind.i64.wrap (x5.1 + (IntKind.i64.wrap ((IntKind.i64.wrap (x5.2 - x5.1)).tdiv 2)))) ≤ (IntKind.i64.wrap (a0.tdiv (IntKind.i64.wrap (x5.1 + (IntKind.i64.wrap ((IntKind.i64.wrap (x5.2 - x5.1)).tdiv 2))))))))
 (.ret (.next ((IntKind.i64.wrap (x5.1 + (IntKind.i64.wrap ((IntKind.i64.wrap (x5.2 - x5.1)).tdiv 2)))), x5.2)))
 (.ret (.next (x5.1, (IntKind.i64.wrap (x5.1 + (IntKind.i64.wrap ((IntKind.i64.wrap (x5.2 - x5.1)).tdiv 2))))))))
 (.ret (.out x5.1)))
 (1, 4294967296) [] fun y6 =>
 .ret y6)
noncomputable def mz4 (a0 : Int) : CallS Int :=
  mkC [] hd Tryz.func245 (by kernel_rfl) (wzl a0) 0 [pz a0] [] (fun r => pz r) (fun _ => []) (by kernel_rfl)
noncomputable def rz2 (a0 : Int) : T Int :=
 .call (mz4 a0) [] fun y2 =>
 .cut 0 (fun (y5 : Int) => ⟨[(3, pz y5)], [], [], 0⟩)
 (.cut 0 (fun (y6 : Bool) => ⟨[(3, pz y2), (14, .pure (.bool y6))], [], [], 0⟩)
 (.br (decide (a0 > 0))
 (.ret (.out (decide ((IntKind.i64.wrap (y2 * y2)) < a0))))
 (.ret (.out false))) fun y6 =>
 .br y6
 (.ret (.out (IntKind.i64.wrap (y2 + 1))))
 (.ret (.out y2))) fun y5 =>
 .ret y5
noncomputable def yz7 (a0 : Int) : CallS Int :=
  mkC [] hd Tryz.func209 (by kernel_rfl) (rz2 a0) 0 [pz a0] [] (fun r => pz r) (fun _ => []) (by kernel_rfl)
noncomputable def tzk (a0 : (Int × Int × Int)) : T Int :=
 .call (dzb (a0.1, a0.2.1, a0.2.2)) [] fun y10 =>
 .br (!y10)
 (.ret 0)
 (.ix 0 3 rfl <|
 .ix 0 3 rfl <|
 .ix 1 3 rfl <|
 .ix 1 3 rfl <|
 .ix 2 3 rfl <|
 .ix 2 3 rfl <|
 .name 3016 ((IntKind.i64.wrap ((IntKind.i64.wrap ((IntKind.i64.wrap (a0.1 * a0.1)) + (IntKind.i64.wrap (a0.2.1 * a0.2.1)))) + (IntKind.i64.wrap (a0.2.2 * a0.2.2))))) fun z11 =>
 .call (yz7 z11) [] fun y12 =>
 .ret y12)
noncomputable def nz1 (a0 : (Int × Int × Int)) : CallS Int :=
  mkC [] hd Tryz.func158 (by kernel_rfl) (tzk a0) 0 [.pure (az1 a0)] [] (fun r => pz r) (fun _ => []) (by kernel_rfl)
noncomputable def hzp (a0 : (List Int)) (a1 : Int) (a2 : Int) : T (List Int) :=
 .grd (a0.length * 8 ≤ 140737488355328 ∧ a0.length ≤ maxLen) <|
 .loop (fun (x69 : ((List Int) × Int × Int)) => ⟨[(1, pz a1), (2, pz a2), (7, .vec 0), (8, pz x69.2.1), (9, pz x69.2.2)], [(0, vecO 1 az3 x69.1 2)], [], 1⟩)
 (.exit 0) (fun (y76 : ((List Int) × Int)) => ⟨[(2, pz a2), (7, .vec 0), (8, pz y76.2)], [(0, vecO 1 az3 y76.1 2)], [], 1⟩)
 (fun x69 => .br (decide (x69.2.2 < ((x69.1.length : Nat) : Int)))
 (.grd (0 ≤ x69.2.2 ∧ x69.2.2 < ((x69.1.length : Nat) : Int)) <|
 .grd ((x69.2.2).toNat < x69.1.length) <|
 .ok ((256 : Int) ≠ 0) (by decide) <|
 .grd (0 ≤ x69.2.2 ∧ x69.2.2 < ((x69.1.length : Nat) : Int)) <|
 .grd ((x69.2.2).toNat < x69.1.length) <|
 .name 7005 ((IntKind.i64.wrap ((x69.1.getD ((x69.2.2).toNat) default) - (IntKind.i64.wrap ((IntKind.i64.wrap ((x69.1.getD ((x69.2.2).toNat) default) * a1)).tdiv 256))))) fun z81 =>
 .grd (0 ≤ x69.2.2 ∧ x69.2.2 < ((x69.1.length : Nat) : Int)) <|
 .conv 7007 (pz3 1 az3 x69.1 2 ((x69.2.2).toNat) z81) <|
 .grd ((x69.2.2).toNat < x69.1.length ∧ 0 ≤ (x69.2.2).toNat) <|
 .name 8002 ((IntKind.i64.wrap (x69.2.1 + (IntKind.i64.wrap ((IntKind.i64.wrap ((x69.1.getD ((x69.2.2).toNat) default) * a1)).tdiv 256))))) fun z82 =>
 .ret (.next ((x69.1.set ((x69.2.2).toNat) z81), z82, (IntKind.i64.wrap (x69.2.2 + 1)))))
 (.ret (.out (x69.1, x69.2.1))))
 (a0, 0, 0) [] fun y76 =>
 .grd (0 ≤ a2 ∧ a2 < ((y76.1.length : Nat) : Int)) <|
 .grd ((a2).toNat < y76.1.length) <|
 .grd (0 ≤ a2 ∧ a2 < ((y76.1.length : Nat) : Int)) <|
 .conv 9007 (pz3 1 az3 y76.1 2 ((a2).toNat) (IntKind.i64.wrap ((y76.1.getD ((a2).toNat) default) + y76.2))) <|
 .grd ((a2).toNat < y76.1.length ∧ 0 ≤ (a2).toNat) <|
 .ret (y76.1.set ((a2).toNat) (IntKind.i64.wrap ((y76.1.getD ((a2).toNat) default) + y76.2)))
noncomputable def hzo (a0 : (List Int)) (a1 : Int) (a2 : Int) : CallS (List Int) :=
  mkC [] hd Tryz.func159 (by kernel_rfl) (hzp a0 a1 a2) 0 [.pure (encL 1 az3 a0), pz a1, pz a2] [] (fun _ => .vec 0) (fun r => [(0, vecO 1 az3 r 2)]) (by kernel_rfl)
set_option maxHeartbeats 8000000 in
set_option maxRecDepth 20000 in
noncomputable def gz1 (a0 : (List (Int × Int × Int))) (a1 : (List (Int × Int × Int))) (a2 : Int) (a3 : Int) : T cz4 :=
 .cut 2 (fun (y12 : Bool) => ⟨[(0, .pure (encL 3 az1 a0)), (1, .pure (encL 3 az1 a1)), (2, pz a2), (3, pz a3), (8, .ptr 0 0), (43, .pure (.bool y12))], [(0, .box [pz 0, pz 0, pz 0, pz 0, .vec 1, .vec 2, pz 0]), (1, .nilv), (2, .nilv)], [], 3⟩)
 (.call (wzh a0) [] fun y13 =>
 .br (!y13)
 (.ret (.out true))
 (.call (wzh a1) [] fun y14 =>
 .br (!y14)
 (.ret (.out true))
 (.br (decide (a2 < 0))
 (.ret (.out true))
 (.br (decide (a2 > 2097152))
 (.ret (.out true))
 (.br (decide (a3 < 0))
 (.ret (.out true))
 (.ret (.out (decide (a3 > 64))))))))) fun y12 =>
 .br y12
 (.ret (⟨0, (0, 0, 0), nl, nl, 0⟩ : cz4))
 (.conv 3002 (Gz4 1 az3 2 (((a0.length : Nat) : Int)).toNat 0) <|
 .grd (0 ≤ ((a0.length : Nat) : Int) ∧ ((a0.length : Nat) : Int) ≤ ((a0.length : Nat) : Int) ∧ ((a0.length : Nat) : Int) ≤ 9223372036854775807 ∧ ((a0.length : Nat) : Int) * 8 ≤ 140737488355328) <|
 .conv 3005 (Gz4 1 az3 2 (((a1.length : Nat) : Int)).toNat 0) <|
 .grd (0 ≤ ((a1.length : Nat) : Int) ∧ ((a1.length : Nat) : Int) ≤ ((a1.length : Nat) : Int) ∧ ((a1.length : Nat) : Int) ≤ 9223372036854775807 ∧ ((a1.length : Nat) : Int) * 8 ≤ 140737488355328) <|
 .grd (0 ≤ (0 : Int) ∧ (0 : Int) < (((List.replicate (((a0.length : Nat) : Int)).toNat (0 : Int)).length : Nat) : Int)) <|
 .conv 4005 (pz3 1 az3 (List.replicate (((a0.length : Nat) : Int)).toNat (0 : Int)) 2 ((0 : Int).toNat) 65536) <|
 .grd ((0 : Int).toNat < (List.replicate (((a0.length : Nat) : Int)).toNat (0 : Int)).length ∧ 0 ≤ (0 : Int).toNat) <|
 .grd (0 ≤ (0 : Int) ∧ (0 : Int) < (((List.replicate (((a1.length : Nat) : Int)).toNat (0 : Int)).length : Nat) : Int)) <|
 .conv 4007 (pz3 1 az3 (List.replicate (((a1.length : Nat) : Int)).toNat (0 : Int)) 2 ((0 : Int).toNat) 65536) <|
 .grd ((0 : Int).toNat < (List.replicate (((a1.length : Nat) : Int)).toNat (0 : Int)).length ∧ 0 ≤ (0 : Int).toNat) <|
 .loop (fun (x58 : (Int × Int × Int × (List Int) × (List Int) × Int)) => ⟨[(0, .pure (encL 3 az1 a0)), (1, .pure (encL 3 az1 a1)), (2, pz a2), (3, pz a3), (8, .ptr 0 0), (9, .ptr 3 0)], [(0, .box [pz 0, pz 0, pz 0, pz 0, .vec 1, .vec 2, pz 0]), (1, .nilv), (2, .nilv), (3, .box [pz 0, pz x58.1, pz x58.2.1, pz x58.2.2.1, .vec 4, .vec 5, pz x58.2.2.2.2.2]), (4, vecO 1 az3 x58.2.2.2.1 2), (5, vecO 1 az3 x58.2.2.2.2.1 2)], [], 6⟩)
 .ret (fun (_ : U0) => ⟨[], [], [], 0⟩)
 (fun x58 => .call (mz0 a0 x58.2.2.2.1) [] fun y105 =>
 .call (mz0 a1 x58.2.2.2.2.1) [] fun y106 =>
 .call (hzq y105 y106) [] fun y107 =>
 .call (nz4 y107 a2) [] fun y111 =>
 .br y111
 (.ret (.fin (⟨2, (x58.1, x58.2.1, x58.2.2.1), x58.2.2.2.1, x58.2.2.2.2.1, x58.2.2.2.2.2⟩ : cz4)))
 (.ix 0 3 rfl <|
 .ok ((65536 : Int) ≠ 0) (by decide) <|
 .ix 1 3 rfl <|
 .ok ((65536 : Int) ≠ 0) (by decide) <|
 .ix 2 3 rfl <|
 .ok ((65536 : Int) ≠ 0) (by decide) <|
 .call (ezs ((IntKind.i64.wrap (y107.1.tdiv 65536)), (IntKind.i64.wrap (y107.2.1.tdiv 65536)), (IntKind.i64.wrap (y107.2.2.tdiv 65536)))) [] fun y113 =>
 .br (!y113.2)
 (.ret (.fin (⟨0, y113.1, x58.2.2.2.1, x58.2.2.2.2.1, x58.2.2.2.2.2⟩ : cz4)))
 (.call (dzj y113.1 a0 1) [] fun y116 =>
 .call (dzj y113.1 a1 (-1)) [] fun y117 =>
 .grd (0 ≤ y116 ∧ y116 < ((a0.length : Nat) : Int)) <|
 .call (fz8 y113.1 (a0.getD ((y116).toNat) default)) [] fun y127 =>
 .grd (0 ≤ y117 ∧ y117 < ((a1.length : Nat) : Int)) <|
 .call (fz8 y113.1 (a1.getD ((y117).toNat) default)) [] fun y128 =>
 .call (nz1 y113.1) [] fun y129 =>
 .br (decide ((IntKind.i64.wrap (y127 - y128)) > (IntKind.i64.wrap (y129 * a2))))
 (.ret (.fin (⟨1, y113.1, x58.2.2.2.1, x58.2.2.2.2.1, x58.2.2.2.2.2⟩ : cz4)))
 (.grd (0 ≤ y116 ∧ y116 < ((a0.length : Nat) : Int)) <|
 .grd (0 ≤ y117 ∧ y117 < ((a1.length : Nat) : Int)) <|
 .call (hzq (a0.getD ((y116).toNat) default) (a1.getD ((y117).toNat) default)) [] fun y132 =>
 .call (hzq ((IntKind.i64.wrap (y107.1.tdiv 65536)), (IntKind.i64.wrap (y107.2.1.tdiv 65536)), (IntKind.i64.wrap (y107.2.2.tdiv 65536))) y132) [] fun y133 =>
 .call (fz8 ((IntKind.i64.wrap (y107.1.tdiv 65536)), (IntKind.i64.wrap (y107.2.1.tdiv 65536)), (IntKind.i64.wrap (y107.2.2.tdiv 65536))) y133) [] fun y136 =>
 .call (fz8 y133 y133) [] fun y137 =>
 .cut 1 (fun (y139 : Bool) => ⟨[(0, .pure (encL 3 az1 a0)), (1, .pure (encL 3 az1 a1)), (2, pz a2), (3, pz a3), (8, .ptr 0 0), (9, .ptr 3 0), (14, pz y116), (15, pz y117), (17, pz y136), (18, pz y137), (142, .pure (.bool y139))], [(0, .box [pz 0, pz 0, pz 0, pz 0, .vec 1, .vec 2, pz 0]), (1, .nilv), (2, .nilv), (3, .box [pz 0, pz y113.1.1, pz y113.1.2.1, pz y113.1.2.2, .vec 4, .vec 5, pz x58.2.2.2.2.2]), (4, vecS 1 az3 x58.2.2.2.1 2), (5, vecS 1 az3 x58.2.2.2.2.1 2)], [], 6⟩)
 (.br (decide (x58.2.2.2.2.2 ≥ a3))
 (.ret (.out true))
 (.ret (.out (decide (y136 ≤ 0))))) fun y139 =>
 .br y139
 (.ret (.fin (⟨0, y113.1, x58.2.2.2.1, x58.2.2.2.2.1, x58.2.2.2.2.2⟩ : cz4)))
 (.ok ((256 : Int) ≠ 0) (by decide) <|
 .grd ((max 1 (IntKind.i64.wrap (y137.tdiv 256))) ≠ 0) <|
 .br ((min 256 (IntKind.i64.wrap (y136.tdiv (max 1 (IntKind.i64.wrap (y137.tdiv 256)))))) == 0)
 (.ret (.fin (⟨0, y113.1, x58.2.2.2.1, x58.2.2.2.2.1, x58.2.2.2.2.2⟩ : cz4)))
 (.call (hzo x58.2.2.2.1 (min 256 (IntKind.i64.wrap (y136.tdiv (max 1 (IntKind.i64.wrap (y137.tdiv 256)))))) y116) [] fun y142 =>
 .call (hzo x58.2.2.2.2.1 (min 256 (IntKind.i64.wrap (y136.tdiv (max 1 (IntKind.i64.wrap (y137.tdiv 256)))))) y117) [] fun y143 =>
 .ret (.next (y113.1.1, y113.1.2.1, y113.1.2.2, y142, y143, (IntKind.i64.wrap (x58.2.2.2.2.2 + 1))))))))))
 (0, 0, 0, ((List.replicate (((a0.length : Nat) : Int)).toNat (0 : Int)).set ((0 : Int).toNat) 65536), ((List.replicate (((a1.length : Nat) : Int)).toNat (0 : Int)).set ((0 : Int).toNat) 65536), 0) [] fun _ =>
 .stop)
noncomputable def dzc (a0 : (List (Int × Int × Int))) (a1 : (List (Int × Int × Int))) (a2 : Int) (a3 : Int) : CallS cz4 :=
  mkC [] hd Tryz.func103 (by kernel_rfl) (gz1 a0 a1 a2 a3) 0 [.pure (encL 3 az1 a0), .pure (encL 3 az1 a1), pz a2, pz a3] [] (fun r => .pure (Czg r)) (fun _ => []) (by kernel_rfl)
noncomputable def hzm (a0 : (List (az0 × az0 × az0))) (a1 : Int) (a2 : (List (az0 × az0 × az0))) (a3 : Int) (a4 : (List (Int × Int × Int))) : T (List (Int × Int × Int)) :=
 .cut 2 (fun (y22 : Bool) => ⟨[(0, .pure (encL 6 az2 a0)), (1, pz a1), (2, .pure (encL 6 az2 a2)), (3, pz a3), (4, .pure (encL 3 az1 a4)), (33, .pure (.bool y22))], [], [], 0⟩)
 (.call (czt a0) [] fun y23 =>
 .br (!y23)
 (.ret (.out true))
 (.call (czt a2) [] fun y24 =>
 .br (!y24)
 (.ret (.out true))
 (.call (dzd a1) [] fun y25 =>
 .br (!y25)
 (.ret (.out true))
 (.call (dzd a3) [] fun y26 =>
 .ret (.out (!y26)))))) fun y22 =>
 .br y22
 (.ret nl)
 (.loop (fun (x59 : ((List (Int × Int × Int)) × Int)) => ⟨[(0, .pure (encL 6 az2 a0)), (1, pz a1), (2, .pure (encL 6 az2 a2)), (3, pz a3), (4, .pure (encL 3 az1 a4)), (11, .vec 0), (12, pz x59.2)], [(0, vecO 3 az1 x59.1 49)], [], 1⟩)
 (.exit 0) (fun (y67 : (List (Int × Int × Int))) => ⟨[(0, .pure (encL 6 az2 a0)), (1, pz a1), (2, .pure (encL 6 az2 a2)), (3, pz a3), (11, .vec 0)], [(0, vecO 3 az1 y67 49)], [], 1⟩)
 (fun x59 => .br (decide (x59.2 < ((a4.length : Nat) : Int)))
 (.cut 0 (fun (y72 : (List (Int × Int × Int))) => ⟨[(0, .pure (encL 6 az2 a0)), (1, pz a1), (2, .pure (encL 6 az2 a2)), (3, pz a3), (4, .pure (encL 3 az1 a4)), (11, .vec 0), (12, pz x59.2)], [(0, vecO 3 az1 y72 49)], [], 1⟩)
 (.grd (0 ≤ x59.2 ∧ x59.2 < ((a4.length : Nat) : Int)) <|
 .call (dzb (a4.getD ((x59.2).toNat) default)) [] fun y74 =>
 .br y74
 (.grd (0 ≤ x59.2 ∧ x59.2 < ((a4.length : Nat) : Int)) <|
 .conv 8005 (dzo 3 az1 ([(a4.getD ((x59.2).toNat) default)] : (List (Int × Int × Int))) 49) <|
 .conv 8006 (izb 3 az1 x59.1 ([(a4.getD ((x59.2).toNat) default)] : (List (Int × Int × Int))) 49) <|
 .grd ((x59.1.length + ([(a4.getD ((x59.2).toNat) default)] : (List (Int × Int × Int))).length) * 24 ≤ 140737488355328 ∧ (x59.1.length + ([(a4.getD ((x59.2).toNat) default)] : (List (Int × Int × Int))).length) ≤ maxLen) <|
 .ret (.out (x59.1 ++ ([(a4.getD ((x59.2).toNat) default)] : (List (Int × Int × Int))))))
 (.ret (.out x59.1))) fun y72 =>
 .ret (.next (y72, (IntKind.i64.wrap (x59.2 + 1)))))
 (.ret (.out x59.1)))
 (nl, 0) [] fun y67 =>
 .cut 0 (fun (y79 : (List (Int × Int × Int))) => ⟨[(0, .pure (encL 6 az2 a0)), (1, pz a1), (2, .pure (encL 6 az2 a2)), (3, pz a3), (11, .vec 0)], [(0, vecO 3 az1 y79 49)], [], 1⟩)
 (.call (Azr a0 a2) [] fun y81 =>
 .br y81.2
 (.conv 11002 (dzo 3 az1 ([y81.1] : (List (Int × Int × Int))) 49) <|
 .conv 11003 (izb 3 az1 y67 ([y81.1] : (List (Int × Int × Int))) 49) <|
 .grd ((y67.length + ([y81.1] : (List (Int × Int × Int))).length) * 24 ≤ 140737488355328 ∧ (y67.length + ([y81.1] : (List (Int × Int × Int))).length) ≤ maxLen) <|
 .ret (.out (y67 ++ ([y81.1] : (List (Int × Int × Int))))))
 (.ret (.out y67))) fun y79 =>
 .call (ref14_Axes_C) [] fun y83 =>
 .conv 12002 (izb 3 az1 y79 y83 49) <|
 .grd ((y79.length + y83.length) * 24 ≤ 140737488355328 ∧ (y79.length + y83.length) ≤ maxLen) <|
 .call (czh a0) [] fun y87 =>
 .call (czh a2) [] fun y88 =>
 .call (dzc y87 y88 (IntKind.i64.wrap (a1 + a3)) 64) [] fun y89 =>
 .cut 0 (fun (y94 : (List (Int × Int × Int))) => ⟨[(11, .vec 0)], [(0, vecO 3 az1 y94 49)], [], 1⟩)
 (.call (dzb y89.Normal) [] fun y96 =>
 .br y96
 (.conv 15003 (dzo 3 az1 ([y89.Normal] : (List (Int × Int × Int))) 49) <|
 .conv 15004 (izb 3 az1 (y79 ++ y83) ([y89.Normal] : (List (Int × Int × Int))) 49) <|
 .grd (((y79 ++ y83).length + ([y89.Normal] : (List (Int × Int × Int))).length) * 24 ≤ 140737488355328 ∧ ((y79 ++ y83).length + ([y89.Normal] : (List (Int × Int × Int))).length) ≤ maxLen) <|
 .ret (.out ((y79 ++ y83) ++ ([y89.Normal] : (List (Int × Int × Int))))))
 (.ret (.out (y79 ++ y83)))) fun y94 =>
 .ret y94)
noncomputable def nz2 (a0 : (List (az0 × az0 × az0))) (a1 : Int) (a2 : (List (az0 × az0 × az0))) (a3 : Int) (a4 : (List (Int × Int × Int))) : CallS (List (Int × Int × Int)) :=
  mkC [] hd Tryz.func149 (by kernel_rfl) (hzm a0 a1 a2 a3 a4) 0 [.pure (encL 6 az2 a0), pz a1, .pure (encL 6 az2 a2), pz a3, .pure (encL 3 az1 a4)] [] (fun r => .pure (encL 3 az1 r)) (fun _ => []) (by kernel_rfl)
noncomputable def wzg (a0 : (Int × Int × Int)) (a1 : (az0 × az0 × az0)) : T (Int × Int) :=
 .cut 2 (fun (y66 : Bool) => ⟨[(2, .ptr 0 0), (3, .ptr 1 0), (18, .pure (.bool y66))], [(0, .box [pz a0.1, pz a0.2.1, pz a0.2.2]), (1, .box [pz a1.1.Lo, pz a1.1.Hi, pz a1.2.1.Lo, pz a1.2.1.Hi, pz a1.2.2.Lo, pz a1.2.2.Hi])], [], 2⟩)
 (.call (dzb a0) [] fun y67 =>
 .br (!y67)
 (.ret (.out true))
 (.call (lzy a1) [] fun y68 =>
 .ret (.out (!y68)))) fun y66 =>
 .br y66
 (.ret (0, 0))
 (.unroll 4 <|
 .known true <|
 .ix 0 3 rfl <|
 .ix 0 3 rfl <|
 .ix 0 3 rfl <|
 .ix 0 3 rfl <|
 .name 8004 ((IntKind.i64.wrap (0 + (min (IntKind.i64.wrap (a0.1 * a1.1.Lo)) (IntKind.i64.wrap (a0.1 * a1.1.Hi)))))) fun z107 =>
 .name 9004 ((IntKind.i64.wrap (0 + (max (IntKind.i64.wrap (a0.1 * a1.1.Lo)) (IntKind.i64.wrap (a0.1 * a1.1.Hi)))))) fun z108 =>
 .lit 6001 (1) <|
 .known true <|
 .ix 1 3 rfl <|
 .ix 1 3 rfl <|
 .ix 1 3 rfl <|
 .ix 1 3 rfl <|
 .name 8004 ((IntKind.i64.wrap (z107 + (min (IntKind.i64.wrap (a0.2.1 * a1.2.1.Lo)) (IntKind.i64.wrap (a0.2.1 * a1.2.1.Hi)))))) fun z113 =>
 .name 9004 ((IntKind.i64.wrap (z108 + (max (IntKind.i64.wrap (a0.2.1 * a1.2.1.Lo)) (IntKind.i64.wrap (a0.2.1 * a1.2.1.Hi)))))) fun z114 =>
 .lit 6001 (2) <|
 .known true <|
 .ix 2 3 rfl <|
 .ix 2 3 rfl <|
 .ix 2 3 rfl <|
 .ix 2 3 rfl <|
 .name 8004 ((IntKind.i64.wrap (z113 + (min (IntKind.i64.wrap (a0.2.2 * a1.2.2.Lo)) (IntKind.i64.wrap (a0.2.2 * a1.2.2.Hi)))))) fun z119 =>
 .name 9004 ((IntKind.i64.wrap (z114 + (max (IntKind.i64.wrap (a0.2.2 * a1.2.2.Lo)) (IntKind.i64.wrap (a0.2.2 * a1.2.2.Hi)))))) fun z120 =>
 .lit 6001 (3) <|
 .known false <|
 .ret (z119, z120))
noncomputable def wzf (a0 : (Int × Int × Int)) (a1 : (az0 × az0 × az0)) : CallS (Int × Int) :=
  mkC [] hd Tryz.func267 (by kernel_rfl) (wzg a0 a1) 0 [.pure (az1 a0), .pure (az2 a1)] [] (fun r => .tup [pz r.1, pz r.2]) (fun _ => []) (by kernel_rfl)
noncomputable def qzo (a0 : (Int × Int × Int)) (a1 : (List (az0 × az0 × az0))) : T (Int × Int × Bool) :=
 .cut 2 (fun (y12 : Bool) => ⟨[(1, .pure (encL 6 az2 a1)), (2, .ptr 0 0), (19, .pure (.bool y12))], [(0, .box [pz a0.1, pz a0.2.1, pz a0.2.2])], [], 1⟩)
 (.call (dzb a0) [] fun y13 =>
 .br (!y13)
 (.ret (.out true))
 (.call (czt a1) [] fun y14 =>
 .ret (.out (!y14)))) fun y12 =>
 .br y12
 (.ret (0, 0, false))
 (.loop (fun (x69 : (Int × Int × Int)) => ⟨[(1, .pure (encL 6 az2 a1)), (2, .ptr 0 0), (7, pz x69.1), (8, pz x69.2.1), (9, pz x69.2.2)], [(0, .box [pz a0.1, pz a0.2.1, pz a0.2.2])], [], 1⟩)
 (.exit 0) (fun (y80 : (Int × Int)) => ⟨[(7, pz y80.1), (8, pz y80.2)], [], [], 0⟩)
 (fun x69 => .br (decide (x69.2.2 < ((a1.length : Nat) : Int)))
 (.cut 0 (fun (y87 : (Int × Int)) => ⟨[(1, .pure (encL 6 az2 a1)), (2, .ptr 0 0), (7, pz y87.1), (8, pz y87.2), (9, pz x69.2.2)], [(0, .box [pz a0.1, pz a0.2.1, pz a0.2.2])], [], 1⟩)
 (.grd (0 ≤ x69.2.2 ∧ x69.2.2 < ((a1.length : Nat) : Int)) <|
 .call (wzf a0 (a1.getD ((x69.2.2).toNat) default)) [] fun y89 =>
 .cut 0 (fun (y90 : Bool) => ⟨[(1, .pure (encL 6 az2 a1)), (2, .ptr 0 0), (7, pz x69.1), (8, pz x69.2.1), (9, pz x69.2.2), (10, pz y89.1), (41, .pure (.bool y90))], [(0, .box [pz a0.1, pz a0.2.1, pz a0.2.2])], [], 1⟩)
 (.br (x69.2.2 == 0)
 (.ret (.out true))
 (.ret (.out (decide (y89.1 < x69.1))))) fun y90 =>
 .br y90
 (.ret (.out (y89.1, x69.2.2)))
 (.ret (.out (x69.1, x69.2.1)))) fun y87 =>
 .ret (.next (y87.1, y87.2, (IntKind.i64.wrap (x69.2.2 + 1)))))
 (.ret (.out (x69.1, x69.2.1))))
 (0, 0, 0) [] fun y80 =>
 .ret (y80.1, y80.2, true))
noncomputable def xzw (a0 : (Int × Int × Int)) (a1 : (List (az0 × az0 × az0))) : CallS (Int × Int × Bool) :=
  mkC [] hd Tryz.func246 (by kernel_rfl) (qzo a0 a1) 0 [.pure (az1 a0), .pure (encL 6 az2 a1)] [] (fun r => .tup [pz r.1, pz r.2.1, .pure (.bool r.2.2)]) (fun _ => []) (by kernel_rfl)
noncomputable def kzd (a0 : (Int × Int × Int)) (a1 : (List (az0 × az0 × az0))) : T (Int × Int × Bool) :=
 .cut 2 (fun (y12 : Bool) => ⟨[(1, .pure (encL 6 az2 a1)), (2, .ptr 0 0), (19, .pure (.bool y12))], [(0, .box [pz a0.1, pz a0.2.1, pz a0.2.2])], [], 1⟩)
 (.call (dzb a0) [] fun y13 =>
 .br (!y13)
 (.ret (.out true))
 (.call (czt a1) [] fun y14 =>
 .ret (.out (!y14)))) fun y12 =>
 .br y12
 (.ret (0, 0, false))
 (.loop (fun (x69 : (Int × Int × Int)) => ⟨[(1, .pure (encL 6 az2 a1)), (2, .ptr 0 0), (7, pz x69.1), (8, pz x69.2.1), (9, pz x69.2.2)], [(0, .box [pz a0.1, pz a0.2.1, pz a0.2.2])], [], 1⟩)
 (.exit 0) (fun (y80 : (Int × Int)) => ⟨[(7, pz y80.1), (8, pz y80.2)], [], [], 0⟩)
 (fun x69 => .br (decide (x69.2.2 < ((a1.length : Nat) : Int)))
 (.cut 0 (fun (y87 : (Int × Int)) => ⟨[(1, .pure (encL 6 az2 a1)), (2, .ptr 0 0), (7, pz y87.1), (8, pz y87.2), (9, pz x69.2.2)], [(0, .box [pz a0.1, pz a0.2.1, pz a0.2.2])], [], 1⟩)
 (.grd (0 ≤ x69.2.2 ∧ x69.2.2 < ((a1.length : Nat) : Int)) <|
 .call (wzf a0 (a1.getD ((x69.2.2).toNat) default)) [] fun y89 =>
 .cut 0 (fun (y90 : Bool) => ⟨[(1, .pure (encL 6 az2 a1)), (2, .ptr 0 0), (7, pz x69.1), (8, pz x69.2.1), (9, pz x69.2.2), (11, pz y89.2), (41, .pure (.bool y90))], [(0, .box [pz a0.1, pz a0.2.1, pz a0.2.2])], [], 1⟩)
 (.br (x69.2.2 == 0)
 (.ret (.out true))
 (.ret (.out (decide (y89.2 > x69.1))))) fun y90 =>
 .br y90
 (.ret (.out (y89.2, x69.2.2)))
 (.ret (.out (x69.1, x69.2.1)))) fun y87 =>
 .ret (.next (y87.1, y87.2, (IntKind.i64.wrap (x69.2.2 + 1)))))
 (.ret (.out (x69.1, x69.2.1))))
 (0, 0, 0) [] fun y80 =>
 .ret (y80.1, y80.2, true))
noncomputable def sz3 (a0 : (Int × Int × Int)) (a1 : (List (az0 × az0 × az0))) : CallS (Int × Int × Bool) :=
  mkC [] hd Tryz.func247 (by kernel_rfl) (kzd a0 a1) 0 [.pure (az1 a0), .pure (encL 6 az2 a1)] [] (fun r => .tup [pz r.1, pz r.2.1, .pure (.bool r.2.2)]) (fun _ => []) (by kernel_rfl)
noncomputable def ozc (a0 : (Int × Int × Int)) (a1 : (List (az0 × az0 × az0))) (a2 : Int) (a3 : (List (az0 × az0 × az0))) (a4 : Int) : T (Int × Bool) :=
 .call (xzw a0 a1) [] fun y2 =>
 .call (sz3 a0 a3) [] fun y4 =>
 .cut 1 (fun (y16 : Bool) => ⟨[(2, pz a2), (4, pz a4), (5, .ptr 0 0), (12, pz y2.1), (15, pz y4.1), (47, .pure (.bool y16))], [(0, .box [pz a0.1, pz a0.2.1, pz a0.2.2])], [], 1⟩)
 (.br (!y2.2.2)
 (.ret (.out true))
 (.br (!y4.2.2)
 (.ret (.out true))
 (.call (dzd a2) [] fun y17 =>
 .br (!y17)
 (.ret (.out true))
 (.call (dzd a4) [] fun y18 =>
 .ret (.out (!y18)))))) fun y16 =>
 .br y16
 (.ret (0, false))
 (.call (nz1 a0) [] fun y19 =>
 .ret ((IntKind.i64.wrap ((IntKind.i64.wrap (y2.1 - y4.1)) - (IntKind.i64.wrap (y19 * (IntKind.i64.wrap (a2 + a4)))))), true))
noncomputable def vzq (a0 : (Int × Int × Int)) (a1 : (List (az0 × az0 × az0))) (a2 : Int) (a3 : (List (az0 × az0 × az0))) (a4 : Int) : CallS (Int × Bool) :=
  mkC [] hd Tryz.func214 (by kernel_rfl) (ozc a0 a1 a2 a3 a4) 0 [.pure (az1 a0), .pure (encL 6 az2 a1), pz a2, .pure (encL 6 az2 a3), pz a4] [] (fun r => .tup [pz r.1, .pure (.bool r.2)]) (fun _ => []) (by kernel_rfl)
noncomputable def izl (a0 : (Int × Int × Int)) (a1 : (List (az0 × az0 × az0))) (a2 : Int) (a3 : (List (az0 × az0 × az0))) (a4 : Int) : T Bool :=
 .call (vzq a0 a1 a2 a3 a4) [] fun y2 =>
 .br y2.2
 (.ret (decide (y2.1 > 0)))
 (.ret false)
noncomputable def pze (a0 : (Int × Int × Int)) (a1 : (List (az0 × az0 × az0))) (a2 : Int) (a3 : (List (az0 × az0 × az0))) (a4 : Int) : CallS Bool :=
  mkC [] hd Tryz.func164 (by kernel_rfl) (izl a0 a1 a2 a3 a4) 0 [.pure (az1 a0), .pure (encL 6 az2 a1), pz a2, .pure (encL 6 az2 a3), pz a4] [] (fun r => .pure (.bool r)) (fun _ => []) (by kernel_rfl)
noncomputable def qzu (a0 : (List (Int × Int × Int))) (a1 : (List (az0 × az0 × az0))) (a2 : Int) (a3 : (List (az0 × az0 × az0))) (a4 : Int) : T (Int × Bool) :=
 .loop (fun (x21 : Int) => ⟨[(0, .pure (encL 3 az1 a0)), (1, .pure (encL 6 az2 a1)), (2, pz a2), (3, .pure (encL 6 az2 a3)), (4, pz a4), (12, pz x21)], [], [], 0⟩)
 (.exit 0) (fun (_ : U0) => ⟨[], [], [], 0⟩)
 (fun x21 => .br (decide (x21 < ((a0.length : Nat) : Int)))
 (.grd (0 ≤ x21 ∧ x21 < ((a0.length : Nat) : Int)) <|
 .call (pze (a0.getD ((x21).toNat) default) a1 a2 a3 a4) [] fun y30 =>
 .br y30
 (.ret (.fin (x21, true)))
 (.ret (.next (IntKind.i64.wrap (x21 + 1)))))
 (.ret (.out .u)))
 0 [] fun _ =>
 .ret (0, false)
noncomputable def yz2 (a0 : (List (Int × Int × Int))) (a1 : (List (az0 × az0 × az0))) (a2 : Int) (a3 : (List (az0 × az0 × az0))) (a4 : Int) : CallS (Int × Bool) :=
  mkC [] hd Tryz.func150 (by kernel_rfl) (qzu a0 a1 a2 a3 a4) 0 [.pure (encL 3 az1 a0), .pure (encL 6 az2 a1), pz a2, .pure (encL 6 az2 a3), pz a4] [] (fun r => .tup [pz r.1, .pure (.bool r.2)]) (fun _ => []) (by kernel_rfl)
noncomputable def hzn (a0 : (List (az0 × az0 × az0))) (a1 : Int) (a2 : (List (az0 × az0 × az0))) (a3 : Int) (a4 : (List (Int × Int × Int))) : T ((Int × Int × Int) × Bool) :=
 .call (nz2 a0 a1 a2 a3 a4) [] fun y2 =>
 .call (yz2 y2 a0 a1 a2 a3) [] fun y4 =>
 .br (!y4.2)
 (.ret ((0, 0, 0), false))
 (.grd (0 ≤ y4.1 ∧ y4.1 < ((y2.length : Nat) : Int)) <|
 .ret ((y2.getD ((y4.1).toNat) default), true))
noncomputable def nz3 (a0 : (List (az0 × az0 × az0))) (a1 : Int) (a2 : (List (az0 × az0 × az0))) (a3 : Int) (a4 : (List (Int × Int × Int))) : CallS ((Int × Int × Int) × Bool) :=
  mkC [] hd Tryz.func102 (by kernel_rfl) (hzn a0 a1 a2 a3 a4) 0 [.pure (encL 6 az2 a0), pz a1, .pure (encL 6 az2 a2), pz a3, .pure (encL 3 az1 a4)] [] (fun r => .tup [.pure (az1 r.1), .pure (.bool r.2)]) (fun _ => []) (by kernel_rfl)
set_option maxHeartbeats 8000000 in
set_option maxRecDepth 20000 in
noncomputable def lzx (a0 : (List (az0 × az0 × az0))) (a1 : (List Int)) : T ((az0 × az0 × az0) × Int × Bool) :=
 .cut 2 (fun (y447 : Bool) => ⟨[(0, .pure (encL 6 az2 a0)), (1, .pure (encL 1 az3 a1)), (4, .ptr 0 0), (21, .pure (.bool y447))], [(0, .box [pz 0, pz 0, pz 0, pz 0, pz 0, pz 0])], [], 1⟩)
 (.call (czt a0) [] fun y448 =>
 .br (!y448)
 (.ret (.out true))
 (.ret (.out (((a1.length : Nat) : Int) != ((a0.length : Nat) : Int))))) fun y447 =>
 .br y447
 (.ret (((⟨0, 0⟩ : az0), (⟨0, 0⟩ : az0), (⟨0, 0⟩ : az0)), 0, false))
 (.loop (fun (x469 : (Int × Int)) => ⟨[(0, .pure (encL 6 az2 a0)), (1, .pure (encL 1 az3 a1)), (4, .ptr 0 0), (7, pz x469.1), (8, pz x469.2)], [(0, .box [pz 0, pz 0, pz 0, pz 0, pz 0, pz 0])], [], 1⟩)
 (.exit 0) (fun (y474 : Int) => ⟨[(0, .pure (encL 6 az2 a0)), (1, .pure (encL 1 az3 a1)), (4, .ptr 0 0), (7, pz y474)], [(0, .box [pz 0, pz 0, pz 0, pz 0, pz 0, pz 0])], [], 1⟩)
 (fun x469 => .br (decide (x469.2 < ((a1.length : Nat) : Int)))
 (.cut 2 (fun (y478 : Bool) => ⟨[(0, .pure (encL 6 az2 a0)), (1, .pure (encL 1 az3 a1)), (4, .ptr 0 0), (7, pz x469.1), (8, pz x469.2), (42, .pure (.bool y478))], [(0, .box [pz 0, pz 0, pz 0, pz 0, pz 0, pz 0])], [], 1⟩)
 (.grd (0 ≤ x469.2 ∧ x469.2 < ((a1.length : Nat) : Int)) <|
 .br (decide ((a1.getD ((x469.2).toNat) default) < 0))
 (.ret (.out true))
 (.grd (0 ≤ x469.2 ∧ x469.2 < ((a1.length : Nat) : Int)) <|
 .ret (.out (decide ((a1.getD ((x469.2).toNat) default) > (IntKind.i64.wrap (65536 - x469.1))))))) fun y478 =>
 .br y478
 (.ret (.fin (((⟨0, 0⟩ : az0), (⟨0, 0⟩ : az0), (⟨0, 0⟩ : az0)), 0, false)))
 (.grd (0 ≤ x469.2 ∧ x469.2 < ((a1.length : Nat) : Int)) <|
 .ret (.next ((IntKind.i64.wrap (x469.1 + (a1.getD ((x469.2).toNat) default))), (IntKind.i64.wrap (x469.2 + 1))))))
 (.ret (.out x469.1)))
 (0, 0) [] fun y474 =>
 .br (decide (y474 < 1))
 (.ret (((⟨0, 0⟩ : az0), (⟨0, 0⟩ : az0), (⟨0, 0⟩ : az0)), 0, false))
 (.loop (fun (x883 : (Int × Int × Int × Int × Int × Int × Int)) => ⟨[(0, .pure (encL 6 az2 a0)), (1, .pure (encL 1 az3 a1)), (4, .ptr 0 0), (7, pz y474), (9, .ptr 1 0), (10, pz x883.2.2.2.2.2.2)], [(0, .box [pz 0, pz 0, pz 0, pz 0, pz 0, pz 0]), (1, .box [pz x883.1, pz x883.2.1, pz x883.2.2.1, pz x883.2.2.2.1, pz x883.2.2.2.2.1, pz x883.2.2.2.2.2.1])], [], 2⟩)
 (.exit 2) (fun (y984 : (Int × Int × Int × Int × Int × Int)) => ⟨[(4, .ptr 0 0), (7, pz y474), (9, .ptr 1 0)], [(0, .box [pz 0, pz 0, pz 0, pz 0, pz 0, pz 0]), (1, .box [pz y984.1, pz y984.2.1, pz y984.2.2.1, pz y984.2.2.2.1, pz y984.2.2.2.2.1, pz y984.2.2.2.2.2])], [], 2⟩)
 (fun x883 => .br (decide (x883.2.2.2.2.2.2 < ((a0.length : Nat) : Int)))
 (.unroll 4 <|
 .known true <|
 .ix 0 3 rfl <|
 .grd (0 ≤ x883.2.2.2.2.2.2 ∧ x883.2.2.2.2.2.2 < ((a1.length : Nat) : Int)) <|
 .grd (0 ≤ x883.2.2.2.2.2.2 ∧ x883.2.2.2.2.2.2 < ((a0.length : Nat) : Int)) <|
 .ix 0 3 rfl <|
 .name 19015 ((IntKind.i64.wrap ((a1.getD ((x883.2.2.2.2.2.2).toNat) default) * ((a0.getD ((x883.2.2.2.2.2.2).toNat) default).1.Lo)))) fun z1057 =>
 .name 19016 ((IntKind.i64.wrap (x883.1 + z1057))) fun z1058 =>
 .ix 0 3 rfl <|
 .ix 0 3 rfl <|
 .grd (0 ≤ x883.2.2.2.2.2.2 ∧ x883.2.2.2.2.2.2 < ((a1.length : Nat) : Int)) <|
 .grd (0 ≤ x883.2.2.2.2.2.2 ∧ x883.2.2.2.2.2.2 < ((a0.length : Nat) : Int)) <|
 .ix 0 3 rfl <|
 .name 20015 ((IntKind.i64.wrap ((a1.getD ((x883.2.2.2.2.2.2).toNat) default) * ((a0.getD ((x883.2.2.2.2.2.2).toNat) default).1.Hi)))) fun z1059 =>
 .name 20016 ((IntKind.i64.wrap (x883.2.1 + z1059))) fun z1060 =>
 .ix 0 3 rfl <|
 .lit 18001 (1) <|
 .known true <|
 .ix 1 3 rfl <|
 .grd (0 ≤ x883.2.2.2.2.2.2 ∧ x883.2.2.2.2.2.2 < ((a1.length : Nat) : Int)) <|
 .grd (0 ≤ x883.2.2.2.2.2.2 ∧ x883.2.2.2.2.2.2 < ((a0.length : Nat) : Int)) <|
 .ix 1 3 rfl <|
 .name 19015 ((IntKind.i64.wrap ((a1.getD ((x883.2.2.2.2.2.2).toNat) default) * ((a0.getD ((x883.2.2.2.2.2.2).toNat) default).2.1.Lo)))) fun z1069 =>
 .name 19016 ((IntKind.i64.wrap (x883.2.2.1 + z1069))) fun z1070 =>
 .ix 1 3 rfl <|
 .ix 1 3 rfl <|
 .grd (0 ≤ x883.2.2.2.2.2.2 ∧ x883.2.2.2.2.2.2 < ((a1.length : Nat) : Int)) <|
 .grd (0 ≤ x883.2.2.2.2.2.2 ∧ x883.2.2.2.2.2.2 < ((a0.length : Nat) : Int)) <|
 .ix 1 3 rfl <|
 .name 20015 ((IntKind.i64.wrap ((a1.getD ((x883.2.2.2.2.2.2).toNat) default) * ((a0.getD ((x883.2.2.2.2.2.2).toNat) default).2.1.Hi)))) fun z1071 =>
 .name 20016 ((IntKind.i64.wrap (x883.2.2.2.1 + z1071))) fun z1072 =>
 .ix 1 3 rfl <|
 .lit 18001 (2) <|
 .known true <|
 .ix 2 3 rfl <|
 .grd (0 ≤ x883.2.2.2.2.2.2 ∧ x883.2.2.2.2.2.2 < ((a1.length : Nat) : Int)) <|
 .grd (0 ≤ x883.2.2.2.2.2.2 ∧ x883.2.2.2.2.2.2 < ((a0.length : Nat) : Int)) <|
 .ix 2 3 rfl <|
 .name 19015 ((IntKind.i64.wrap ((a1.getD ((x883.2.2.2.2.2.2).toNat) default) * ((a0.getD ((x883.2.2.2.2.2.2).toNat) default).2.2.Lo)))) fun z1081 =>
 .name 19016 ((IntKind.i64.wrap (x883.2.2.2.2.1 + z1081))) fun z1082 =>
 .ix 2 3 rfl <|
 .ix 2 3 rfl <|
 .grd (0 ≤ x883.2.2.2.2.2.2 ∧ x883.2.2.2.2.2.2 < ((a1.length : Nat) : Int)) <|
 .grd (0 ≤ x883.2.2.2.2.2.2 ∧ x883.2.2.2.2.2.2 < ((a0.length : Nat) : Int)) <|
 .ix 2 3 rfl <|
 .name 20015 ((IntKind.i64.wrap ((a1.getD ((x883.2.2.2.2.2.2).toNat) default) * ((a0.getD ((x883.2.2.2.2.2.2).toNat) default).2.2.Hi)))) fun z1083 =>
 .name 20016 ((IntKind.i64.wrap (x883.2.2.2.2.2.1 + z1083))) fun z1084 =>
 .ix 2 3 rfl <|
 .lit 18001 (3) <|
 .known false <|
 .ret (.next (z1058, z1060, z1070, z1072, z1082, z1084, (IntKind.i64.wrap (x883.2.2.2.2.2.2 + 1)))))
 (.ret (.out (x883.1, x883.2.1, x883.2.2.1, x883.2.2.2.1, x883.2.2.2.2.1, x883.2.2.2.2.2.1))))
 (0, 0, 0, 0, 0, 0, 0) [] fun y984 =>
 .ret (((⟨y984.1, y984.2.1⟩ : az0), (⟨y984.2.2.1, y984.2.2.2.1⟩ : az0), (⟨y984.2.2.2.2.1, y984.2.2.2.2.2⟩ : az0)), y474, true)))
noncomputable def lzw (a0 : (List (az0 × az0 × az0))) (a1 : (List Int)) : CallS ((az0 × az0 × az0) × Int × Bool) :=
  mkC [] hd Tryz.func212 (by kernel_rfl) (lzx a0 a1) 0 [.pure (encL 6 az2 a0), .pure (encL 1 az3 a1)] [] (fun r => .tup [.pure (az2 r.1), pz r.2.1, .pure (.bool r.2.2)]) (fun _ => []) (by kernel_rfl)
noncomputable def Jzm (a0 : Int) : T Int :=
 .ret (max a0 (IntKind.i64.wrap (0 - a0)))
noncomputable def fz9 (a0 : Int) : CallS Int :=
  mkC [] hd Tryz.func213 (by kernel_rfl) (Jzm a0) 0 [pz a0] [] (fun r => pz r) (fun _ => []) (by kernel_rfl)
noncomputable def gz0 (a0 : (List Int)) (a1 : (List Int)) (a2 : (List (az0 × az0 × az0))) (a3 : Int) (a4 : (List (az0 × az0 × az0))) (a5 : Int) : T (Int × Bool) :=
 .call (lzw a2 a0) [] fun y136 =>
 .call (lzw a4 a1) [] fun y138 =>
 .cut 1 (fun (y150 : Bool) => ⟨[(3, pz a3), (5, pz a5), (14, .ptr 0 0), (15, pz y136.2.1), (17, .ptr 1 0), (57, .pure (.bool y150))], [(0, .box [pz y136.1.1.Lo, pz y136.1.1.Hi, pz y136.1.2.1.Lo, pz y136.1.2.1.Hi, pz y136.1.2.2.Lo, pz y136.1.2.2.Hi]), (1, .box [pz y138.1.1.Lo, pz y138.1.1.Hi, pz y138.1.2.1.Lo, pz y138.1.2.1.Hi, pz y138.1.2.2.Lo, pz y138.1.2.2.Hi])], [], 2⟩)
 (.br (!y136.2.2)
 (.ret (.out true))
 (.br (!y138.2.2)
 (.ret (.out true))
 (.br (y136.2.1 != y138.2.1)
 (.ret (.out true))
 (.call (dzd a3) [] fun y151 =>
 .br (!y151)
 (.ret (.out true))
 (.call (dzd a5) [] fun y152 =>
 .ret (.out (!y152))))))) fun y150 =>
 .br y150
 (.ret (0, false))
 (.unroll 4 <|
 .known true <|
 .ix 0 3 rfl <|
 .ix 0 3 rfl <|
 .call (fz9 (IntKind.i64.wrap (y136.1.1.Lo - y138.1.1.Hi))) [] fun y237 =>
 .ix 0 3 rfl <|
 .ix 0 3 rfl <|
 .call (fz9 (IntKind.i64.wrap (y136.1.1.Hi - y138.1.1.Lo))) [] fun y238 =>
 .call (azo (max y237 y238) y136.2.1) [] fun y239 =>
 .br (decide (y239 > (IntKind.i64.wrap (a3 + a5))))
 (.ret ((-1), true))
 (.name 12004 ((IntKind.i64.wrap ((IntKind.i64.wrap ((IntKind.i64.wrap (a3 + a5)) * (IntKind.i64.wrap (a3 + a5)))) - (IntKind.i64.wrap (y239 * y239))))) fun z240 =>
 .lit 8001 (1) <|
 .known true <|
 .ix 1 3 rfl <|
 .ix 1 3 rfl <|
 .call (fz9 (IntKind.i64.wrap (y136.1.2.1.Lo - y138.1.2.1.Hi))) [] fun y251 =>
 .ix 1 3 rfl <|
 .ix 1 3 rfl <|
 .call (fz9 (IntKind.i64.wrap (y136.1.2.1.Hi - y138.1.2.1.Lo))) [] fun y252 =>
 .call (azo (max y251 y252) y136.2.1) [] fun y253 =>
 .br (decide (y253 > (IntKind.i64.wrap (a3 + a5))))
 (.ret ((-1), true))
 (.name 12004 ((IntKind.i64.wrap (z240 - (IntKind.i64.wrap (y253 * y253))))) fun z254 =>
 .lit 8001 (2) <|
 .known true <|
 .ix 2 3 rfl <|
 .ix 2 3 rfl <|
 .call (fz9 (IntKind.i64.wrap (y136.1.2.2.Lo - y138.1.2.2.Hi))) [] fun y265 =>
 .ix 2 3 rfl <|
 .ix 2 3 rfl <|
 .call (fz9 (IntKind.i64.wrap (y136.1.2.2.Hi - y138.1.2.2.Lo))) [] fun y266 =>
 .call (azo (max y265 y266) y136.2.1) [] fun y267 =>
 .br (decide (y267 > (IntKind.i64.wrap (a3 + a5))))
 (.ret ((-1), true))
 (.name 12004 ((IntKind.i64.wrap (z254 - (IntKind.i64.wrap (y267 * y267))))) fun z268 =>
 .lit 8001 (3) <|
 .known false <|
 .ret (z268, true)))))
noncomputable def jzd (a0 : (List Int)) (a1 : (List Int)) (a2 : (List (az0 × az0 × az0))) (a3 : Int) (a4 : (List (az0 × az0 × az0))) (a5 : Int) : CallS (Int × Bool) :=
  mkC [] hd Tryz.func162 (by kernel_rfl) (gz0 a0 a1 a2 a3 a4 a5) 0 [.pure (encL 1 az3 a0), .pure (encL 1 az3 a1), .pure (encL 6 az2 a2), pz a3, .pure (encL 6 az2 a4), pz a5] [] (fun r => .tup [pz r.1, .pure (.bool r.2)]) (fun _ => []) (by kernel_rfl)
open Go.Proofs
noncomputable def ezo (a0 : (List Int)) (a1 : (List Int)) (a2 : (List (az0 × az0 × az0))) (a3 : Int) (a4 : (List (az0 × az0 × az0))) (a5 : Int) : T Bool :=
 .call (jzd a0 a1 a2 a3 a4 a5) [] fun y2 =>
 .br y2.2
 (.ret (decide (y2.1 ≥ 0)))
 (.ret false)
noncomputable def dzp (a0 : (List Int)) (a1 : (List Int)) (a2 : (List (az0 × az0 × az0))) (a3 : Int) (a4 : (List (az0 × az0 × az0))) (a5 : Int) : CallS Bool :=
  mkC [] hd Tryz.func105 (by kernel_rfl) (ezo a0 a1 a2 a3 a4 a5) 0 [.pure (encL 1 az3 a0), .pure (encL 1 az3 a1), .pure (encL 6 az2 a2), pz a3, .pure (encL 6 az2 a4), pz a5] [] (fun r => .pure (.bool r)) (fun _ => []) (by kernel_rfl)
noncomputable def kzf (a0 : aza) (a1 : (List az0)) (a2 : (List (Int × Int × Int))) : T cz5 :=
 .call (yz3 a0 a1) [] fun y2 =>
 .br (!y2.2.2)
 (.ret (⟨0, nl, (⟨0, nl, nl⟩ : bz6)⟩ : cz5))
 (.loop (fun (x143 : (Int × (List (Int × Int × Int)) × Int)) => ⟨[(2, .pure (encL 3 az1 a2)), (6, .ptr 0 0), (7, .pure (encL 2 bz5 y2.1)), (8, .pure (encL 2 bz5 y2.2.1)), (10, .ptr 4 0), (11, pz x143.2.2)], [(0, .box [pz 0, .vec 1, pz 0, .vec 2, .vec 3]), (1, .nilv), (2, .nilv), (3, .nilv), (4, .box [pz x143.1, .vec 5, pz 0, .vec 6, .vec 7]), (5, vecO 3 az1 x143.2.1 49), (6, .nilv), (7, .nilv)], [], 8⟩)
 (.exit 0) (fun (y178 : (Int × (List (Int × Int × Int)))) => ⟨[(6, .ptr 0 0), (10, .ptr 4 0)], [(0, .box [pz 0, .vec 1, pz 0, .vec 2, .vec 3]), (1, .nilv), (2, .nilv), (3, .nilv), (4, .box [pz y178.1, .vec 5, pz 0, .vec 6, .vec 7]), (5, vecO 3 az1 y178.2 49), (6, .nilv), (7, .nilv)], [], 8⟩)
 (fun x143 => .br (decide (x143.2.2 < ((y2.1.length : Nat) : Int)))
 (.cut 0 (fun (y201 : (Int × (List (Int × Int × Int)))) => ⟨[(2, .pure (encL 3 az1 a2)), (6, .ptr 0 0), (7, .pure (encL 2 bz5 y2.1)), (8, .pure (encL 2 bz5 y2.2.1)), (10, .ptr 4 0), (11, pz x143.2.2)], [(0, .box [pz 0, .vec 1, pz 0, .vec 2, .vec 3]), (1, .nilv), (2, .nilv), (3, .nilv), (4, .box [pz y201.1, .vec 5, pz 0, .vec 6, .vec 7]), (5, vecO 3 az1 y201.2 49), (6, .nilv), (7, .nilv)], [], 8⟩)
 (.cut 1 (fun (y202 : (List (Int × Int × Int))) => ⟨[(2, .pure (encL 3 az1 a2)), (6, .ptr 0 0), (7, .pure (encL 2 bz5 y2.1)), (8, .pure (encL 2 bz5 y2.2.1)), (10, .ptr 4 0), (11, pz x143.2.2), (12, .pure (encL 3 az1 y202))], [(0, .box [pz 0, .vec 1, pz 0, .vec 2, .vec 3]), (1, .nilv), (2, .nilv), (3, .nilv), (4, .box [pz x143.1, .vec 5, pz 0, .vec 6, .vec 7]), (5, vecO 3 az1 x143.2.1 49), (6, .nilv), (7, .nilv)], [], 8⟩)
 (.br (decide (x143.2.2 < ((a2.length : Nat) : Int)))
 (.conv 10004 (Ozh 3 az1 a2 x143.2.2 (IntKind.i64.wrap (x143.2.2 + 1))) <|
 .grd (0 ≤ x143.2.2 ∧ x143.2.2 ≤ (IntKind.i64.wrap (x143.2.2 + 1)) ∧ (IntKind.i64.wrap (x143.2.2 + 1)) ≤ ((a2.length : Nat) : Int)) <|
 .ret (.out ((a2.drop ((x143.2.2).toNat)).take (((IntKind.i64.wrap (x143.2.2 + 1))).toNat - (x143.2.2).toNat))))
 (.ret (.out nl))) fun y202 =>
 .grd (0 ≤ x143.2.2 ∧ x143.2.2 < ((y2.1.length : Nat) : Int)) <|
 .grd (0 ≤ x143.2.2 ∧ x143.2.2 < ((y2.1.length : Nat) : Int)) <|
 .grd (0 ≤ x143.2.2 ∧ x143.2.2 < ((y2.2.1.length : Nat) : Int)) <|
 .grd (0 ≤ x143.2.2 ∧ x143.2.2 < ((y2.2.1.length : Nat) : Int)) <|
 .call (nz3 ((y2.1.getD ((x143.2.2).toNat) default).points) ((y2.1.getD ((x143.2.2).toNat) default).radius) ((y2.2.1.getD ((x143.2.2).toNat) default).points) ((y2.2.1.getD ((x143.2.2).toNat) default).radius) y202) [] fun y204 =>
 .conv 12003 (dzo 3 az1 ([y204.1] : (List (Int × Int × Int))) 49) <|
 .conv 12004 (izb 3 az1 x143.2.1 ([y204.1] : (List (Int × Int × Int))) 49) <|
 .grd ((x143.2.1.length + ([y204.1] : (List (Int × Int × Int))).length) * 24 ≤ 140737488355328 ∧ (x143.2.1.length + ([y204.1] : (List (Int × Int × Int))).length) ≤ maxLen) <|
 .br y204.2
 (.ret (.out (x143.1, (x143.2.1 ++ ([y204.1] : (List (Int × Int × Int)))))))
 (.grd (0 ≤ x143.2.2 ∧ x143.2.2 < ((y2.1.length : Nat) : Int)) <|
 .call (czh ((y2.1.getD ((x143.2.2).toNat) default).points)) [] fun y208 =>
 .grd (0 ≤ x143.2.2 ∧ x143.2.2 < ((y2.2.1.length : Nat) : Int)) <|
 .call (czh ((y2.2.1.getD ((x143.2.2).toNat) default).points)) [] fun y209 =>
 .grd (0 ≤ x143.2.2 ∧ x143.2.2 < ((y2.1.length : Nat) : Int)) <|
 .grd (0 ≤ x143.2.2 ∧ x143.2.2 < ((y2.2.1.length : Nat) : Int)) <|
 .call (dzc y208 y209 (IntKind.i64.wrap (((y2.1.getD ((x143.2.2).toNat) default).radius) + ((y2.2.1.getD ((x143.2.2).toNat) default).radius))) 64) [] fun y210 =>
 .grd (0 ≤ x143.2.2 ∧ x143.2.2 < ((y2.1.length : Nat) : Int)) <|
 .grd (0 ≤ x143.2.2 ∧ x143.2.2 < ((y2.1.length : Nat) : Int)) <|
 .grd (0 ≤ x143.2.2 ∧ x143.2.2 < ((y2.2.1.length : Nat) : Int)) <|
 .grd (0 ≤ x143.2.2 ∧ x143.2.2 < ((y2.2.1.length : Nat) : Int)) <|
 .call (dzp y210.Left y210.Right ((y2.1.getD ((x143.2.2).toNat) default).points) ((y2.1.getD ((x143.2.2).toNat) default).radius) ((y2.2.1.getD ((x143.2.2).toNat) default).points) ((y2.2.1.getD ((x143.2.2).toNat) default).radius)) [] fun y212 =>
 .br y212
 (.ret (.fin (.fin (⟨2, nl, (⟨x143.2.2, y210.Left, y210.Right⟩ : bz6)⟩ : cz5))))
 (.ret (.out (0, (x143.2.1 ++ ([y204.1] : (List (Int × Int × Int))))))))) fun y201 =>
 .ret (.next (y201.1, y201.2, (IntKind.i64.wrap (x143.2.2 + 1)))))
 (.ret (.out (x143.1, x143.2.1))))
 (1, nl, 0) [] fun y178 =>
 .ret (⟨y178.1, y178.2, (⟨0, nl, nl⟩ : bz6)⟩ : cz5))
noncomputable def sz5 (a0 : aza) (a1 : (List az0)) (a2 : (List (Int × Int × Int))) : CallS cz5 :=
  mkC [] hd Tryz.func47 (by kernel_rfl) (kzf a0 a1 a2) 0 [.pure (cz0 a0), .pure (encL 2 az4 a1), .pure (encL 3 az1 a2)] [] (fun r => .pure (pzx r)) (fun _ => []) (by kernel_rfl)
set_option maxHeartbeats 8000000 in
set_option maxRecDepth 20000 in
noncomputable def hzt (a0 : aza) (a1 : (List Int)) (a2 : (List Int)) (a3 : Int) : T azk :=
 .cut 2 (fun (y141 : Bool) => ⟨[(1, .pure (encL 1 az3 a1)), (2, .pure (encL 1 az3 a2)), (3, pz a3), (4, .ptr 0 0), (8, .ptr 1 0), (28, .pure (.bool y141))], [(0, .box [.pure (encL 12 az9 a0.Robot.Joints), .pure (encL 5 azb a0.Robot.Masses), .pure (encL 3 azd a0.Shapes), .pure (encL 2 azq a0.Skips)]), (1, .box [pz 0, .vec 2, pz 0, pz 0, .vec 3, pz 0, .vec 4, .vec 5]), (2, .nilv), (3, .nilv), (4, .nilv), (5, .nilv)], [], 6⟩)
 (.call (yz4 (⟨a0.Robot, a0.Shapes, a0.Skips⟩ : aza) a1 a2) [] fun y142 =>
 .br (!y142)
 (.ret (.out true))
 (.br (decide (a3 < 0))
 (.ret (.out true))
 (.ret (.out (decide (a3 > 20)))))) fun y141 =>
 .br y141
 (.ret (⟨0, nl, (⟨0, 0, nl⟩ : azh), (⟨0, nl, nl⟩ : bz6)⟩ : azk))
 (.conv 4001 (Vz6 3 fz3 ([(⟨0, 0, nl⟩ : azg)] : (List azg)) 88 [.agg [.int .i64 0, .int .i64 0, .lst 0 0 fun _ => .unk]] (by kernel_rfl)) <|
 .loop (fun (x227 : ((List azh) × (List azg))) => ⟨[(1, .pure (encL 1 az3 a1)), (2, .pure (encL 1 az3 a2)), (3, pz a3), (4, .ptr 0 0), (8, .ptr 1 0), (9, .vec 6), (10, .vec 7)], [(0, .box [.pure (encL 12 az9 a0.Robot.Joints), .pure (encL 5 azb a0.Robot.Masses), .pure (encL 3 azd a0.Shapes), .pure (encL 2 azq a0.Skips)]), (1, .box [pz 0, .vec 2, pz 0, pz 0, .vec 3, pz 0, .vec 4, .vec 5]), (2, .nilv), (3, .nilv), (4, .nilv), (5, .nilv), (6, vecO 3 czn x227.1 37), (7, vecO 3 fz3 x227.2 88)], [], 8⟩)
 (.exit 0) (fun (y248 : (List azh)) => ⟨[(8, .ptr 0 0), (9, .vec 5)], [(0, .box [pz 0, .vec 1, pz 0, pz 0, .vec 2, pz 0, .vec 3, .vec 4]), (1, .nilv), (2, .nilv), (3, .nilv), (4, .nilv), (5, vecO 3 czn y248 37)], [], 6⟩)
 (fun x227 => .br (decide (((x227.2.length : Nat) : Int) > 0))
 (.grd (0 ≤ (IntKind.i64.wrap (((x227.2.length : Nat) : Int) - 1)) ∧ (IntKind.i64.wrap (((x227.2.length : Nat) : Int) - 1)) < ((x227.2.length : Nat) : Int)) <|
 .grd (((IntKind.i64.wrap (((x227.2.length : Nat) : Int) - 1))).toNat < x227.2.length) <|
 .conv 7004 (Vz8 3 fz3 x227.2 88 (IntKind.i64.wrap (((x227.2.length : Nat) : Int) - 1))) <|
 .grd (0 ≤ (IntKind.i64.wrap (((x227.2.length : Nat) : Int) - 1)) ∧ (IntKind.i64.wrap (((x227.2.length : Nat) : Int) - 1)) ≤ ((x227.2.length : Nat) : Int) ∧ 0 ≤ ((IntKind.i64.wrap (((x227.2.length : Nat) : Int) - 1))).toNat) <|
 .name 8001 ((x227.2.getD (((IntKind.i64.wrap (((x227.2.length : Nat) : Int) - 1))).toNat) default).depth) fun z251 =>
 .name 8003 ((x227.2.getD (((IntKind.i64.wrap (((x227.2.length : Nat) : Int) - 1))).toNat) default).index) fun z252 =>
 .br (decide (((x227.1.length : Nat) : Int) ≥ 4096))
 (.ret (.fin (⟨0, nl, (⟨z251, z252, nl⟩ : azh), (⟨0, nl, nl⟩ : bz6)⟩ : azk)))
 (.name 11003 ((x227.2.getD (((IntKind.i64.wrap (((x227.2.length : Nat) : Int) - 1))).toNat) default).depth) fun z256 =>
 .name 11005 ((x227.2.getD (((IntKind.i64.wrap (((x227.2.length : Nat) : Int) - 1))).toNat) default).index) fun z257 =>
 .call (xzy a1 a2 z256 z257) [] fun y258 =>
 .call (sz5 (⟨a0.Robot, a0.Shapes, a0.Skips⟩ : aza) y258.1 ((x227.2.getD (((IntKind.i64.wrap (((x227.2.length : Nat) : Int) - 1))).toNat) default).hints)) [] fun y260 =>
 .br (y260.Kind == 1)
 (.name 15002 ((x227.2.getD (((IntKind.i64.wrap (((x227.2.length : Nat) : Int) - 1))).toNat) default).depth) fun z261 =>
 .name 15004 ((x227.2.getD (((IntKind.i64.wrap (((x227.2.length : Nat) : Int) - 1))).toNat) default).index) fun z262 =>
 .conv 15008 (dzo 3 czn ([(⟨z261, z262, y260.Normals⟩ : azh)] : (List azh)) 37) <|
 .conv 15009 (izb 3 czn x227.1 ([(⟨z261, z262, y260.Normals⟩ : azh)] : (List azh)) 37) <|
 .grd ((x227.1.length + ([(⟨z261, z262, y260.Normals⟩ : azh)] : (List azh)).length) * 40 ≤ 140737488355328 ∧ (x227.1.length + ([(⟨z261, z262, y260.Normals⟩ : azh)] : (List azh)).length) ≤ maxLen) <|
 .ret (.next ((x227.1 ++ ([(⟨z261, z262, y260.Normals⟩ : azh)] : (List azh))), (x227.2.take (((IntKind.i64.wrap (((x227.2.length : Nat) : Int) - 1))).toNat)))))
 (.br (y260.Kind == 2)
 (.ret (.fin (⟨2, nl, (⟨z251, z252, nl⟩ : azh), y260.Witness⟩ : azk)))
 (.name 18001 ((x227.2.getD (((IntKind.i64.wrap (((x227.2.length : Nat) : Int) - 1))).toNat) default).depth) fun z264 =>
 .br (z264 == a3)
 (.ret (.fin (⟨0, nl, (⟨z251, z252, nl⟩ : azh), (⟨0, nl, nl⟩ : bz6)⟩ : azk)))
 (.name 13002 ((x227.2.getD (((IntKind.i64.wrap (((x227.2.length : Nat) : Int) - 1))).toNat) default).depth) fun z265 =>
 .name 13005 ((x227.2.getD (((IntKind.i64.wrap (((x227.2.length : Nat) : Int) - 1))).toNat) default).index) fun z266 =>
 .name 13012 ((x227.2.getD (((IntKind.i64.wrap (((x227.2.length : Nat) : Int) - 1))).toNat) default).depth) fun z267 =>
 .name 13015 ((x227.2.getD (((IntKind.i64.wrap (((x227.2.length : Nat) : Int) - 1))).toNat) default).index) fun z268 =>
 .conv 13020 (dzo 3 fz3 ([(⟨(IntKind.i64.wrap (z265 + 1)), (IntKind.i64.wrap ((IntKind.i64.wrap (2 * z266)) + 1)), y260.Normals⟩ : azg), (⟨(IntKind.i64.wrap (z267 + 1)), (IntKind.i64.wrap (2 * z268)), y260.Normals⟩ : azg)] : (List azg)) 88) <|
 .conv 13021 (izb 3 fz3 (x227.2.take (((IntKind.i64.wrap (((x227.2.length : Nat) : Int) - 1))).toNat)) ([(⟨(IntKind.i64.wrap (z265 + 1)), (IntKind.i64.wrap ((IntKind.i64.wrap (2 * z266)) + 1)), y260.Normals⟩ : azg), (⟨(IntKind.i64.wrap (z267 + 1)), (IntKind.i64.wrap (2 * z268)), y260.Normals⟩ : azg)] : (List azg)) 88) <|
 .grd (((x227.2.take (((IntKind.i64.wrap (((x227.2.length : Nat) : Int) - 1))).toNat)).length + ([(⟨(IntKind.i64.wrap (z265 + 1)), (IntKind.i64.wrap ((IntKind.i64.wrap (2 * z266)) + 1)), y260.Normals⟩ : azg), (⟨(IntKind.i64.wrap (z267 + 1)), (IntKind.i64.wrap (2 * z268)), y260.Normals⟩ : azg)] : (List azg)).length) * 40 ≤ 140737488355328 ∧ ((x227.2.take (((IntKind.i64.wrap (((x227.2.length : Nat) : Int) - 1))).toNat)).length + ([(⟨(IntKind.i64.wrap (z265 + 1)), (IntKind.i64.wrap ((IntKind.i64.wrap (2 * z266)) + 1)), y260.Normals⟩ : azg), (⟨(IntKind.i64.wrap (z267 + 1)), (IntKind.i64.wrap (2 * z268)), y260.Normals⟩ : azg)] : (List azg)).length) ≤ maxLen) <|
 .ret (.next (x227.1, ((x227.2.take (((IntKind.i64.wrap (((x227.2.length : Nat) : Int) - 1))).toNat)) ++ ([(⟨(IntKind.i64.wrap (z265 + 1)), (IntKind.i64.wrap ((IntKind.i64.wrap (2 * z266)) + 1)), y260.Normals⟩ : azg), (⟨(IntKind.i64.wrap (z267 + 1)), (IntKind.i64.wrap (2 * z268)), y260.Normals⟩ : azg)] : (List azg))))))))))
 (.ret (.out x227.1)))
 (nl, ([(⟨0, 0, nl⟩ : azg)] : (List azg))) [] fun y248 =>
 .ret (⟨1, y248, (⟨0, 0, nl⟩ : azh), (⟨0, nl, nl⟩ : bz6)⟩ : azk))
noncomputable def lz4 (a0 : aza) (a1 : (List Int)) (a2 : (List Int)) (a3 : Int) : CallS azk :=
  mkC [] hd Tryz.func16 (by kernel_rfl) (hzt a0 a1 a2 a3) 0 [.pure (cz0 a0), .pure (encL 1 az3 a1), .pure (encL 1 az3 a2), pz a3] [] (fun r => .pure (jz2 r)) (fun _ => []) (by kernel_rfl)
noncomputable def gzh (a0 : (List (Int × Int × Int))) (a1 : (List (Int × Int × Int))) : T Bool :=
 .br (((a0.length : Nat) : Int) != ((a1.length : Nat) : Int))
 (.ret false)
 (.loop (fun (x5 : Int) => ⟨[(0, .pure (encL 3 az1 a0)), (1, .pure (encL 3 az1 a1)), (5, pz x5)], [], [], 0⟩)
 (.exit 0) (fun (_ : U0) => ⟨[], [], [], 0⟩)
 (fun x5 => .br (decide (x5 < ((a0.length : Nat) : Int)))
 (.grd (0 ≤ x5 ∧ x5 < ((a0.length : Nat) : Int)) <|
 .grd (0 ≤ x5 ∧ x5 < ((a1.length : Nat) : Int)) <|
 .br (!((((a0.getD ((x5).toNat) default).1) == ((a1.getD ((x5).toNat) default).1)) && ((((a0.getD ((x5).toNat) default).2.1) == ((a1.getD ((x5).toNat) default).2.1)) && ((((a0.getD ((x5).toNat) default).2.2) == ((a1.getD ((x5).toNat) default).2.2)) && true))))
 (.ret (.fin false))
 (.ret (.next (IntKind.i64.wrap (x5 + 1)))))
 (.ret (.out .u)))
 0 [] fun _ =>
 .ret true)
noncomputable def lzu (a0 : (List (Int × Int × Int))) (a1 : (List (Int × Int × Int))) : CallS Bool :=
  mkC [] hd Tryz.func36 (by kernel_rfl) (gzh a0 a1) 0 [.pure (encL 3 az1 a0), .pure (encL 3 az1 a1)] [] (fun r => .pure (.bool r)) (fun _ => []) (by kernel_rfl)
noncomputable def kz8 (a0 : azh) (a1 : azh) : T Bool :=
 .br (a0.Depth == a1.Depth)
 (.br (a0.Index == a1.Index)
 (.call (lzu a0.Normals a1.Normals) [] fun y1 =>
 .ret y1)
 (.ret false))
 (.ret false)
noncomputable def kz7 (a0 : azh) (a1 : azh) : CallS Bool :=
  mkC [] hd Tryz.func59 (by kernel_rfl) (kz8 a0 a1) 0 [.pure (czn a0), .pure (czn a1)] [] (fun r => .pure (.bool r)) (fun _ => []) (by kernel_rfl)
noncomputable def izf (a0 : (List azh)) (a1 : (List azh)) : T Bool :=
 .br (((a0.length : Nat) : Int) != ((a1.length : Nat) : Int))
 (.ret false)
 (.loop (fun (x21 : Int) => ⟨[(0, .pure (encL 3 czn a0)), (1, .pure (encL 3 czn a1)), (5, pz x21)], [], [], 0⟩)
 (.exit 0) (fun (_ : U0) => ⟨[], [], [], 0⟩)
 (fun x21 => .br (decide (x21 < ((a0.length : Nat) : Int)))
 (.grd (0 ≤ x21 ∧ x21 < ((a0.length : Nat) : Int)) <|
 .grd (0 ≤ x21 ∧ x21 < ((a1.length : Nat) : Int)) <|
 .call (kz7 (a0.getD ((x21).toNat) default) (a1.getD ((x21).toNat) default)) [] fun y30 =>
 .br (!y30)
 (.ret (.fin false))
 (.ret (.next (IntKind.i64.wrap (x21 + 1)))))
 (.ret (.out .u)))
 0 [] fun _ =>
 .ret true)
noncomputable def pza (a0 : (List azh)) (a1 : (List azh)) : CallS Bool :=
  mkC [] hd Tryz.func25 (by kernel_rfl) (izf a0 a1) 0 [.pure (encL 3 czn a0), .pure (encL 3 czn a1)] [] (fun r => .pure (.bool r)) (fun _ => []) (by kernel_rfl)
noncomputable def izh (a0 : (List Int)) (a1 : (List Int)) : T Bool :=
 .br (((a0.length : Nat) : Int) != ((a1.length : Nat) : Int))
 (.ret false)
 (.loop (fun (x5 : Int) => ⟨[(0, .pure (encL 1 az3 a0)), (1, .pure (encL 1 az3 a1)), (5, pz x5)], [], [], 0⟩)
 (.exit 0) (fun (_ : U0) => ⟨[], [], [], 0⟩)
 (fun x5 => .br (decide (x5 < ((a0.length : Nat) : Int)))
 (.grd (0 ≤ x5 ∧ x5 < ((a0.length : Nat) : Int)) <|
 .grd (0 ≤ x5 ∧ x5 < ((a1.length : Nat) : Int)) <|
 .br ((a0.getD ((x5).toNat) default) != (a1.getD ((x5).toNat) default))
 (.ret (.fin false))
 (.ret (.next (IntKind.i64.wrap (x5 + 1)))))
 (.ret (.out .u)))
 0 [] fun _ =>
 .ret true)
noncomputable def izg (a0 : (List Int)) (a1 : (List Int)) : CallS Bool :=
  mkC [] hd Tryz.func82 (by kernel_rfl) (izh a0 a1) 0 [.pure (encL 1 az3 a0), .pure (encL 1 az3 a1)] [] (fun r => .pure (.bool r)) (fun _ => []) (by kernel_rfl)
noncomputable def hz3 (a0 : bz6) (a1 : bz6) : T Bool :=
 .br (a0.Pair == a1.Pair)
 (.call (izg a0.Left a1.Left) [] fun y1 =>
 .br y1
 (.call (izg a0.Right a1.Right) [] fun y2 =>
 .ret y2)
 (.ret false))
 (.ret false)
noncomputable def mzu (a0 : bz6) (a1 : bz6) : CallS Bool :=
  mkC [] hd Tryz.func35 (by kernel_rfl) (hz3 a0 a1) 0 [.pure (Czh a0), .pure (Czh a1)] [] (fun r => .pure (.bool r)) (fun _ => []) (by kernel_rfl)
noncomputable def lzt (a0 : azk) (a1 : azk) : T Bool :=
 .br (a0.Kind == a1.Kind)
 (.call (pza a0.Pieces a1.Pieces) [] fun y1 =>
 .br y1
 (.call (kz7 a0.At a1.At) [] fun y2 =>
 .br y2
 (.call (mzu a0.Witness a1.Witness) [] fun y3 =>
 .ret y3)
 (.ret false))
 (.ret false))
 (.ret false)
noncomputable def ez8 (a0 : azk) (a1 : azk) : CallS Bool :=
  mkC [] hd Tryz.func30 (by kernel_rfl) (lzt a0 a1) 0 [.pure (jz2 a0), .pure (jz2 a1)] [] (fun r => .pure (.bool r)) (fun _ => []) (by kernel_rfl)
noncomputable def gzz (a0 : aza) (a1 : (List Int)) (a2 : (List Int)) (a3 : (List Int)) (a4 : (List Int)) (a5 : (List Int)) (a6 : Int) : T Bool :=
 .call (nzx a3 a4 a5 a6) [] fun y2 =>
 .call (xzd) [] fun y3 =>
 .br y3
 (.call (dz9 (⟨a0.Robot, a0.Shapes, a0.Skips⟩ : aza) a1 a2 (IntKind.i64.wrap (y2.2.2.2 - 1))) [] fun y4 =>
 .call (lz4 (⟨a0.Robot, a0.Shapes, a0.Skips⟩ : aza) a1 a2 (IntKind.i64.wrap (y2.2.2.2 - 1))) [] fun y5 =>
 .call (ez8 (⟨y4.Kind, y4.Pieces, y4.At, y4.Witness⟩ : azk) (⟨y5.Kind, y5.Pieces, y5.At, y5.Witness⟩ : azk)) [] fun y6 =>
 .br y6
 (.call (dz9 (⟨y2.1.Robot, y2.1.Shapes, y2.1.Skips⟩ : aza) y2.2.1 y2.2.2.1 y2.2.2.2) [] fun y7 =>
 .call (lz4 (⟨y2.1.Robot, y2.1.Shapes, y2.1.Skips⟩ : aza) y2.2.1 y2.2.2.1 y2.2.2.2) [] fun y8 =>
 .call (ez8 y7 y8) [] fun y9 =>
 .br y9
 (.call (dz9 (⟨y2.1.Robot, y2.1.Shapes, y2.1.Skips⟩ : aza) y2.2.1 a2 y2.2.2.2) [] fun y10 =>
 .call (lz4 (⟨y2.1.Robot, y2.1.Shapes, y2.1.Skips⟩ : aza) y2.2.1 a2 y2.2.2.2) [] fun y11 =>
 .call (ez8 y10 y11) [] fun y12 =>
 .br y12
 (.call (dz9 (⟨y2.1.Robot, y2.1.Shapes, y2.1.Skips⟩ : aza) y2.2.1 y2.2.2.1 (IntKind.i64.wrap ((-1) - y2.2.2.2))) [] fun y13 =>
 .call (ez8 y13 (⟨0, nl, (⟨0, 0, nl⟩ : azh), (⟨0, nl, nl⟩ : bz6)⟩ : azk)) [] fun y14 =>
 .br y14
 (.call (dz9 (⟨y2.1.Robot, y2.1.Shapes, y2.1.Skips⟩ : aza) y2.2.1 y2.2.2.1 (IntKind.i64.wrap (21 + y2.2.2.2))) [] fun y15 =>
 .call (ez8 y15 (⟨0, nl, (⟨0, 0, nl⟩ : azh), (⟨0, nl, nl⟩ : bz6)⟩ : azk)) [] fun y16 =>
 .ret y16)
 (.ret false))
 (.ret false))
 (.ret false))
 (.ret false))
 (.ret false)
noncomputable def czg (a0 : aza) (a1 : (List Int)) (a2 : (List Int)) (a3 : (List Int)) (a4 : (List Int)) (a5 : (List Int)) (a6 : Int) : CallS Bool :=
  mkC [] hd Tryz.func6 (by kernel_rfl) (gzz a0 a1 a2 a3 a4 a5 a6) 0 [.pure (cz0 a0), .pure (encL 1 az3 a1), .pure (encL 1 az3 a2), .pure (encL 1 az3 a3), .pure (encL 1 az3 a4), .pure (encL 1 az3 a5), pz a6] [] (fun r => .pure (.bool r)) (fun _ => []) (by kernel_rfl)
end Go.Abs
