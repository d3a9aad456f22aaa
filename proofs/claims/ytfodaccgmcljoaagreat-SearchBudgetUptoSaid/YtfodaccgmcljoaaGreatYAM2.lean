/-
  M2 (a part of a claim: our own text).
-/
import Derived.Test.YtfodaccgmcljoaaGreatYAM1
namespace Go.Abs
open Go.Proofs
noncomputable def hzn (a0 : azo) (a1 : Int) : T Int :=
 .grd (0 ≤ a1 ∧ a1 < ((a0.Joints.length : Nat) : Int)) <|
 .cut 1 (fun (y16 : Bool) => ⟨[(1, pz a1), (5, .ptr 0 0), (12, .pure (.bool y16))], [(0, .box [.pure (.str ((a0.Joints.getD ((a1).toNat) default).Name)), pz ((a0.Joints.getD ((a1).toNat) default).Kind), pz ((a0.Joints.getD ((a1).toNat) default).Parent), pz ((a0.Joints.getD ((a1).toNat) default).Offset.1), pz ((a0.Joints.getD ((a1).toNat) default).Offset.2.1), pz ((a0.Joints.getD ((a1).toNat) default).Offset.2.2), pz ((a0.Joints.getD ((a1).toNat) default).Lo), pz ((a0.Joints.getD ((a1).toNat) default).Hi), pz ((a0.Joints.getD ((a1).toNat) default).Weight), pz ((a0.Joints.getD ((a1).toNat) default).Speed), pz ((a0.Joints.getD ((a1).toNat) default).Accel), pz ((a0.Joints.getD ((a1).toNat) default).Torque)])], [], 1⟩)
 (.call (yzd ((a0.Joints.getD ((a1).toNat) default).Name)) [] fun y17 =>
 .br (!y17)
 (.ret (.out true))
 (.call (yza (⟨a0.Joints, a0.Masses⟩ : azo) ((a0.Joints.getD ((a1).toNat) default).Name)) [] fun y18 =>
 .ret (.out (y18 != a1)))) fun y16 =>
 .br y16
 (.ret 802)
 (.cut 0 (fun (y19 : Bool) => ⟨[(1, pz a1), (5, .ptr 0 0), (25, .pure (.bool y19))], [(0, .box [.pure (.str ((a0.Joints.getD ((a1).toNat) default).Name)), pz ((a0.Joints.getD ((a1).toNat) default).Kind), pz ((a0.Joints.getD ((a1).toNat) default).Parent), pz ((a0.Joints.getD ((a1).toNat) default).Offset.1), pz ((a0.Joints.getD ((a1).toNat) default).Offset.2.1), pz ((a0.Joints.getD ((a1).toNat) default).Offset.2.2), pz ((a0.Joints.getD ((a1).toNat) default).Lo), pz ((a0.Joints.getD ((a1).toNat) default).Hi), pz ((a0.Joints.getD ((a1).toNat) default).Weight), pz ((a0.Joints.getD ((a1).toNat) default).Speed), pz ((a0.Joints.getD ((a1).toNat) default).Accel), pz ((a0.Joints.getD ((a1).toNat) default).Torque)])], [], 1⟩)
 (.br (decide (((a0.Joints.getD ((a1).toNat) default).Kind) < 0))
 (.ret (.out true))
 (.ret (.out (decide (((a0.Joints.getD ((a1).toNat) default).Kind) > 6))))) fun y19 =>
 .br y19
 (.ret 803)
 (.cut 0 (fun (y20 : Bool) => ⟨[(5, .ptr 0 0), (34, .pure (.bool y20))], [(0, .box [.pure (.str ((a0.Joints.getD ((a1).toNat) default).Name)), pz ((a0.Joints.getD ((a1).toNat) default).Kind), pz ((a0.Joints.getD ((a1).toNat) default).Parent), pz ((a0.Joints.getD ((a1).toNat) default).Offset.1), pz ((a0.Joints.getD ((a1).toNat) default).Offset.2.1), pz ((a0.Joints.getD ((a1).toNat) default).Offset.2.2), pz ((a0.Joints.getD ((a1).toNat) default).Lo), pz ((a0.Joints.getD ((a1).toNat) default).Hi), pz ((a0.Joints.getD ((a1).toNat) default).Weight), pz ((a0.Joints.getD ((a1).toNat) default).Speed), pz ((a0.Joints.getD ((a1).toNat) default).Accel), pz ((a0.Joints.getD ((a1).toNat) default).Torque)])], [], 1⟩)
 (.br (decide (((a0.Joints.getD ((a1).toNat) default).Parent) < (-1)))
 (.ret (.out true))
 (.ret (.out (decide (((a0.Joints.getD ((a1).toNat) default).Parent) ≥ a1))))) fun y20 =>
 .br y20
 (.ret 804)
 (.call (oz2 ((a0.Joints.getD ((a1).toNat) default).Offset)) [] fun y22 =>
 .br y22
 (.ret 805)
 (.call (wz4 ((a0.Joints.getD ((a1).toNat) default).Kind)) [] fun y24 =>
 .cut 1 (fun (y26 : Bool) => ⟨[(5, .ptr 0 0), (68, .pure (.bool y26))], [(0, .box [.pure (.str ((a0.Joints.getD ((a1).toNat) default).Name)), pz ((a0.Joints.getD ((a1).toNat) default).Kind), pz ((a0.Joints.getD ((a1).toNat) default).Parent), pz ((a0.Joints.getD ((a1).toNat) default).Offset.1), pz ((a0.Joints.getD ((a1).toNat) default).Offset.2.1), pz ((a0.Joints.getD ((a1).toNat) default).Offset.2.2), pz ((a0.Joints.getD ((a1).toNat) default).Lo), pz ((a0.Joints.getD ((a1).toNat) default).Hi), pz ((a0.Joints.getD ((a1).toNat) default).Weight), pz ((a0.Joints.getD ((a1).toNat) default).Speed), pz ((a0.Joints.getD ((a1).toNat) default).Accel), pz ((a0.Joints.getD ((a1).toNat) default).Torque)])], [], 1⟩)
 (.br (decide (((a0.Joints.getD ((a1).toNat) default).Lo) > ((a0.Joints.getD ((a1).toNat) default).Hi)))
 (.ret (.out true))
 (.br (decide (((a0.Joints.getD ((a1).toNat) default).Lo) < (IntKind.i64.wrap (0 - y24))))
 (.ret (.out true))
 (.ret (.out (decide (((a0.Joints.getD ((a1).toNat) default).Hi) > y24)))))) fun y26 =>
 .br y26
 (.ret 806)
 (.cut 1 (fun (y48 : Bool) => ⟨[(90, .pure (.bool y48))], [], [], 0⟩)
 (.call (fzq ((a0.Joints.getD ((a1).toNat) default).Weight) 1024) [] fun y49 =>
 .br (!y49)
 (.ret (.out true))
 (.call (fzq ((a0.Joints.getD ((a1).toNat) default).Speed) 1048576) [] fun y50 =>
 .br (!y50)
 (.ret (.out true))
 (.call (fzq ((a0.Joints.getD ((a1).toNat) default).Accel) 1048576) [] fun y51 =>
 .br (!y51)
 (.ret (.out true))
 (.call (fzq ((a0.Joints.getD ((a1).toNat) default).Torque) 1099511627776) [] fun y52 =>
 .ret (.out (!y52)))))) fun y48 =>
 .br y48
 (.ret 807)
 (.ret 0))))))
noncomputable def mzt (a0 : azo) (a1 : Int) : CallS Int :=
  mkC [] hd Tryz.func98 (by kernel_rfl) (hzn a0 a1) 0 [.pure (czx a0), pz a1] [] (fun r => pz r) (fun _ => []) (by kernel_rfl)
noncomputable def izr (a0 : azo) (a1 : bzf) : T Bool :=
 .br (decide (0 ≤ a1.Link))
 (.br (decide (a1.Link < ((a0.Joints.length : Nat) : Int)))
 (.call (fzq a1.Mass 65536) [] fun y1 =>
 .br y1
 (.call (oz2 a1.Point) [] fun y2 =>
 .ret (!y2))
 (.ret false))
 (.ret false))
 (.ret false)
noncomputable def ozs (a0 : azo) (a1 : bzf) : CallS Bool :=
  mkC [] hd Tryz.func101 (by kernel_rfl) (izr a0 a1) 0 [.pure (czx a0), .pure (azl a1)] [] (fun r => .pure (.bool r)) (fun _ => []) (by kernel_rfl)
noncomputable def lzy (a0 : bzf) (a1 : (List azs)) (a2 : (List bzf)) : T (Bool × (List azs) × (List bzf)) :=
 .call (ozs (⟨a1, a2⟩ : azo) (⟨a0.Link, a0.Mass, a0.Point⟩ : bzf)) [] fun y1 =>
 .ret ((!y1), a1, a2)
noncomputable def sza (a0 : bzf) (a1 : (List azs)) (a2 : (List bzf)) : CallS (Bool × (List azs) × (List bzf)) :=
  mkC [] hd Tryz.func100 (by kernel_rfl) (lzy a0 a1 a2) 1 [.pure (azl a0), .ptr 0 0] [(0, .box [.pure (encL 12 azh a1), .pure (encL 5 azl a2)])] (fun r => .pure (.bool r.1)) (fun r => [(0, .box [.pure (encL 12 azh r.2.1), .pure (encL 5 azl r.2.2)])]) (by kernel_rfl)
noncomputable def cz5 (a0 : (List bzf)) (a1 : (List azs)) (a2 : (List bzf)) : T (Int × (List azs) × (List bzf)) :=
 .loop (fun (x21 : ((List azs) × (List bzf) × Int)) => ⟨[(0, .pure (encL 5 azl a0)), (1, .func 100 [] [.ptr 0 0]), (7, pz ((a0.length : Nat) : Int)), (8, pz x21.2.2)], [(0, .box [.pure (encL 12 azh x21.1), .pure (encL 5 azl x21.2.1)])], [], 1⟩)
 (.exit 0) (fun (y26 : ((List azs) × (List bzf))) => ⟨[], [(0, .box [.pure (encL 12 azh y26.1), .pure (encL 5 azl y26.2)])], [], 1⟩)
 (fun x21 => .br (decide (x21.2.2 < ((a0.length : Nat) : Int)))
 (.grd (0 ≤ x21.2.2 ∧ x21.2.2 < ((a0.length : Nat) : Int)) <|
 .call (sza (a0.getD ((x21.2.2).toNat) default) x21.1 x21.2.1) [(0, 0)] fun y30 =>
 .br y30.1
 (.ret (.fin (x21.2.2, y30.2.1, y30.2.2)))
 (.ret (.next (y30.2.1, y30.2.2, (IntKind.i64.wrap (x21.2.2 + 1))))))
 (.ret (.out (x21.1, x21.2.1))))
 (a1, a2, 0) [] fun y26 =>
 .ret ((-1), y26.1, y26.2)
noncomputable def dzj (a0 : (List bzf)) (a1 : (List azs)) (a2 : (List bzf)) : CallS (Int × (List azs) × (List bzf)) :=
  mkC [] hd Tryz.func129 (by kernel_rfl) (cz5 a0 a1 a2) 1 [.pure (encL 5 azl a0), .func 100 [] [.ptr 0 0]] [(0, .box [.pure (encL 12 azh a1), .pure (encL 5 azl a2)])] (fun r => pz r.1) (fun r => [(0, .box [.pure (encL 12 azh r.2.1), .pure (encL 5 azl r.2.2)])]) (by kernel_rfl)
noncomputable def bzt (a0 : (List bzf)) (a1 : (List azs)) (a2 : (List bzf)) : T (Bool × (List azs) × (List bzf)) :=
 .call (dzj a0 a1 a2) [(0, 0)] fun y1 =>
 .ret ((decide (y1.1 ≥ 0)), y1.2.1, y1.2.2)
noncomputable def dz2 (a0 : (List bzf)) (a1 : (List azs)) (a2 : (List bzf)) : CallS (Bool × (List azs) × (List bzf)) :=
  mkC [] hd Tryz.func99 (by kernel_rfl) (bzt a0 a1 a2) 1 [.pure (encL 5 azl a0), .func 100 [] [.ptr 0 0]] [(0, .box [.pure (encL 12 azh a1), .pure (encL 5 azl a2)])] (fun r => .pure (.bool r.1)) (fun r => [(0, .box [.pure (encL 12 azh r.2.1), .pure (encL 5 azl r.2.2)])]) (by kernel_rfl)
noncomputable def pzx (a0 : azo) : T Int :=
 .cut 2 (fun (y2 : Bool) => ⟨[(1, .ptr 0 0), (14, .pure (.bool y2))], [(0, .box [.pure (encL 12 azh a0.Joints), .pure (encL 5 azl a0.Masses)])], [], 1⟩)
 (.br (((a0.Joints.length : Nat) : Int) == 0)
 (.ret (.out true))
 (.ret (.out (decide (((a0.Joints.length : Nat) : Int) > 10))))) fun y2 =>
 .br y2
 (.ret 801)
 (.loop (fun (x23 : Int) => ⟨[(1, .ptr 0 0), (17, pz ((a0.Joints.length : Nat) : Int)), (18, pz x23)], [(0, .box [.pure (encL 12 azh a0.Joints), .pure (encL 5 azl a0.Masses)])], [], 1⟩)
 (.exit 0) (fun (_ : U0) => ⟨[(1, .ptr 0 0)], [(0, .box [.pure (encL 12 azh a0.Joints), .pure (encL 5 azl a0.Masses)])], [], 1⟩)
 (fun x23 => .br (decide (x23 < ((a0.Joints.length : Nat) : Int)))
 (.call (mzt (⟨a0.Joints, a0.Masses⟩ : azo) x23) [] fun y32 =>
 .br (y32 != 0)
 (.ret (.fin y32))
 (.ret (.next (IntKind.i64.wrap (x23 + 1)))))
 (.ret (.out .u)))
 0 [] fun _ =>
 .cut 1 (fun (y39 : Bool) => ⟨[(37, .pure (.bool y39))], [], [], 0⟩)
 (.br (decide (((a0.Masses.length : Nat) : Int) > 32))
 (.ret (.out true))
 (.call (dz2 a0.Masses a0.Joints a0.Masses) [(0, 0)] fun y40 =>
 .ret (.out y40.1))) fun y39 =>
 .br y39
 (.ret 808)
 (.ret 0))
noncomputable def pzw (a0 : azo) : CallS Int :=
  mkC [] hd Tryz.func67 (by kernel_rfl) (pzx a0) 0 [.pure (czx a0)] [] (fun r => pz r) (fun _ => []) (by kernel_rfl)
noncomputable def oz4 (a0 : azn) (a1 : Int) : T Bool :=
 .br (decide ((-1) ≤ a1))
 (.ret (decide (a1 < ((a0.Robot.Joints.length : Nat) : Int))))
 (.ret false)
noncomputable def jzc (a0 : azn) (a1 : Int) : CallS Bool :=
  mkC [] hd Tryz.func69 (by kernel_rfl) (oz4 a0 a1) 0 [.pure (ezr a0), pz a1] [] (fun r => .pure (.bool r)) (fun _ => []) (by kernel_rfl)
noncomputable def hzq (a0 : azn) (a1 : bz0) : T Int :=
 .cut 3 (fun (y269 : Bool) => ⟨[(3, .ptr 0 0), (35, .pure (.bool y269))], [(0, .box [pz a1.Link, pz a1.Radius, .pure (encL 3 az2 a1.Points)])], [], 1⟩)
 (.call (jzc a0 a1.Link) [] fun y270 =>
 .br (!y270)
 (.ret (.out true))
 (.br (decide (a1.Radius < 1))
 (.ret (.out true))
 (.br (decide (a1.Radius > 1048576))
 (.ret (.out true))
 (.br (decide (((a1.Points.length : Nat) : Int) < 1))
 (.ret (.out true))
 (.ret (.out (decide (((a1.Points.length : Nat) : Int) > 8)))))))) fun y269 =>
 .br y269
 (.ret 902)
 (.loop (fun (x443 : Int) => ⟨[(37, .pure (encL 3 az2 a1.Points)), (38, pz ((a1.Points.length : Nat) : Int)), (39, pz x443)], [], [], 0⟩)
 (.exit 0) (fun (_ : U0) => ⟨[], [], [], 0⟩)
 (fun x443 => .br (decide (x443 < ((a1.Points.length : Nat) : Int)))
 (.grd (0 ≤ x443 ∧ x443 < ((a1.Points.length : Nat) : Int)) <|
 .loop (fun (x515 : Int) => ⟨[(37, .pure (encL 3 az2 a1.Points)), (38, pz ((a1.Points.length : Nat) : Int)), (39, pz x443), (43, .pure (az2 (a1.Points.getD ((x443).toNat) default))), (44, pz x515)], [], [], 0⟩)
 (.exit 2) (fun (_ : U0) => ⟨[(37, .pure (encL 3 az2 a1.Points)), (38, pz ((a1.Points.length : Nat) : Int)), (39, pz x443)], [], [], 0⟩)
 (fun x515 => .br (decide (x515 < 3))
 (.grd (0 ≤ x515 ∧ x515 < ((3 : Nat) : Int)) <|
 .name 9000 ((([(a1.Points.getD ((x443).toNat) default).1, (a1.Points.getD ((x443).toNat) default).2.1, (a1.Points.getD ((x443).toNat) default).2.2] : List Int).getD (x515).toNat 0)) fun z527 =>
 .cut 0 (fun (y528 : Bool) => ⟨[(37, .pure (encL 3 az2 a1.Points)), (38, pz ((a1.Points.length : Nat) : Int)), (39, pz x443), (43, .pure (az2 (a1.Points.getD ((x443).toNat) default))), (44, pz x515), (52, .pure (.bool y528))], [], [], 0⟩)
 (.br (decide (z527 < (-4194304)))
 (.ret (.out true))
 (.ret (.out (decide (z527 > 4194304))))) fun y528 =>
 .br y528
 (.ret (.fin (.fin 805)))
 (.ret (.next (IntKind.i64.wrap (x515 + 1)))))
 (.ret (.out .u)))
 0 [] fun _ =>
 .ret (.next (IntKind.i64.wrap (x443 + 1))))
 (.ret (.out .u)))
 0 [] fun _ =>
 .ret 0)
noncomputable def mzv (a0 : azn) (a1 : bz0) : CallS Int :=
  mkC [] hd Tryz.func68 (by kernel_rfl) (hzq a0 a1) 0 [.pure (ezr a0), .pure (azv a1)] [] (fun r => pz r) (fun _ => []) (by kernel_rfl)
noncomputable def qz0 (a0 : azn) : T Int :=
 .call (pzw a0.Robot) [] fun y4 =>
 .br (y4 != 0)
 (.ret y4)
 (.br (decide (((a0.Shapes.length : Nat) : Int) > 24))
 (.ret 901)
 (.loop (fun (x25 : Int) => ⟨[(1, .ptr 0 0), (20, .pure (encL 3 azv a0.Shapes)), (21, pz ((a0.Shapes.length : Nat) : Int)), (22, pz x25)], [(0, .box [.pure (encL 12 azh a0.Robot.Joints), .pure (encL 5 azl a0.Robot.Masses), .pure (encL 3 azv a0.Shapes), .pure (encL 2 bzp a0.Skips)])], [], 1⟩)
 (.exit 0) (fun (_ : U0) => ⟨[(1, .ptr 0 0)], [(0, .box [.pure (encL 12 azh a0.Robot.Joints), .pure (encL 5 azl a0.Robot.Masses), .pure (encL 3 azv a0.Shapes), .pure (encL 2 bzp a0.Skips)])], [], 1⟩)
 (fun x25 => .br (decide (x25 < ((a0.Shapes.length : Nat) : Int)))
 (.grd (0 ≤ x25 ∧ x25 < ((a0.Shapes.length : Nat) : Int)) <|
 .call (mzv a0 (a0.Shapes.getD ((x25).toNat) default)) [] fun y34 =>
 .br (y34 != 0)
 (.ret (.fin y34))
 (.ret (.next (IntKind.i64.wrap (x25 + 1)))))
 (.ret (.out .u)))
 0 [] fun _ =>
 .br (decide (((a0.Skips.length : Nat) : Int) > 64))
 (.ret 903)
 (.loop (fun (x95 : Int) => ⟨[(1, .ptr 0 0), (38, .pure (encL 2 bzp a0.Skips)), (39, pz ((a0.Skips.length : Nat) : Int)), (40, pz x95)], [(0, .box [.pure (encL 12 azh a0.Robot.Joints), .pure (encL 5 azl a0.Robot.Masses), .pure (encL 3 azv a0.Shapes), .pure (encL 2 bzp a0.Skips)])], [], 1⟩)
 (.exit 2) (fun (_ : U0) => ⟨[], [], [], 0⟩)
 (fun x95 => .br (decide (x95 < ((a0.Skips.length : Nat) : Int)))
 (.grd (0 ≤ x95 ∧ x95 < ((a0.Skips.length : Nat) : Int)) <|
 .cut 0 (fun (y122 : Bool) => ⟨[(1, .ptr 0 0), (38, .pure (encL 2 bzp a0.Skips)), (39, pz ((a0.Skips.length : Nat) : Int)), (40, pz x95), (55, .pure (.bool y122))], [(0, .box [.pure (encL 12 azh a0.Robot.Joints), .pure (encL 5 azl a0.Robot.Masses), .pure (encL 3 azv a0.Shapes), .pure (encL 2 bzp a0.Skips)])], [], 1⟩)
 (.call (jzc a0 ((a0.Skips.getD ((x95).toNat) default).A)) [] fun y123 =>
 .br (!y123)
 (.ret (.out true))
 (.call (jzc a0 ((a0.Skips.getD ((x95).toNat) default).B)) [] fun y124 =>
 .ret (.out (!y124)))) fun y122 =>
 .br y122
 (.ret (.fin 903))
 (.ret (.next (IntKind.i64.wrap (x95 + 1)))))
 (.ret (.out .u)))
 0 [] fun _ =>
 .ret 0)))
noncomputable def dzb (a0 : azn) : CallS Int :=
  mkC [] hd Tryz.func39 (by kernel_rfl) (qz0 a0) 0 [.pure (ezr a0)] [] (fun r => pz r) (fun _ => []) (by kernel_rfl)
noncomputable def kzj (a0 : aze) (a1 : Int) : T Bool :=
 .br (decide (a1 ≥ 0))
 (.ret (decide (a1 < ((a0.Points.length : Nat) : Int))))
 (.ret false)
noncomputable def czm (a0 : aze) (a1 : Int) : CallS Bool :=
  mkC [] hd Tryz.func52 (by kernel_rfl) (kzj a0 a1) 0 [.pure (cz8 a0), pz a1] [] (fun r => .pure (.bool r)) (fun _ => []) (by kernel_rfl)
noncomputable def lzd (a0 : Int) : T Bool :=
 .ret (a0 != a0)
noncomputable def lzc (a0 : Int) : CallS Bool :=
  mkC [] hd Tryz.func161 (by kernel_rfl) (lzd a0) 0 [pz a0] [] (fun r => .pure (.bool r)) (fun _ => []) (by kernel_rfl)
noncomputable def iz4 (a0 : Int) (a1 : Int) : T Int :=
 .call (lzc a0) [] fun y2 =>
 .call (lzc a1) [] fun y4 =>
 .br y2
 (.br y4
 (.ret 0)
 (.ret (-1)))
 (.br y4
 (.ret 1)
 (.br (decide (a0 < a1))
 (.ret (-1))
 (.br (decide (a0 > a1))
 (.ret 1)
 (.ret 0))))
noncomputable def fzi (a0 : Int) (a1 : Int) : CallS Int :=
  mkC [] hd Tryz.func118 (by kernel_rfl) (iz4 a0 a1) 0 [pz a0, pz a1] [] (fun r => pz r) (fun _ => []) (by kernel_rfl)
noncomputable def rz8 (a0 : (List Int)) : T Int :=
 .loop (fun (x5 : Int) => ⟨[(3, pz 0), (6, .pure (encL 1 az3 a0)), (7, pz ((a0.length : Nat) : Int)), (8, pz x5)], [], [], 0⟩)
 (.exit 0) (fun (_ : U0) => ⟨[(3, pz 0)], [], [], 0⟩)
 (fun x5 => .br (decide (x5 < ((a0.length : Nat) : Int)))
 (.grd (0 ≤ x5 ∧ x5 < ((a0.length : Nat) : Int)) <|
 .br ((a0.getD ((x5).toNat) default) != 0)
 (.ret (.fin (a0.getD ((x5).toNat) default)))
 (.ret (.next (IntKind.i64.wrap (x5 + 1)))))
 (.ret (.out .u)))
 0 [] fun _ =>
 .ret 0
noncomputable def rz7 (a0 : (List Int)) : CallS Int :=
  mkC [] hd Tryz.func117 (by kernel_rfl) (rz8 a0) 0 [.pure (encL 1 az3 a0)] [] (fun r => pz r) (fun _ => []) (by kernel_rfl)
noncomputable def fzy (a0 : az1) (a1 : (Int × Int)) : T Int :=
 .ix 0 2 rfl <|
 .call (fzi a0.U a1.1) [] fun y1 =>
 .ix 1 2 rfl <|
 .call (fzi a0.V a1.2) [] fun y2 =>
 .conv 1010 (czp 1 az3 ([y1, y2] : (List Int)) 3) <|
 .call (rz7 ([y1, y2] : (List Int))) [] fun y3 =>
 .ret y3
noncomputable def dz8 (a0 : az1) (a1 : (Int × Int)) : CallS Int :=
  mkC [] hd Tryz.func80 (by kernel_rfl) (fzy a0 a1) 0 [.pure (az5 a0), .pure (vze a1)] [] (fun r => pz r) (fun _ => []) (by kernel_rfl)
noncomputable def gzj (a0 : aze) : T Bool :=
 .cut 2 (fun (y2 : Bool) => ⟨[(1, .ptr 0 0), (14, .pure (.bool y2))], [(0, .box [.pure (encL 1 (encL 1 az3) a0.Points), .pure (encL 12 az5 a0.Edges)])], [], 1⟩)
 (.br (decide (((a0.Points.length : Nat) : Int) > 1024))
 (.ret (.out true))
 (.ret (.out (decide (((a0.Edges.length : Nat) : Int) > 8192))))) fun y2 =>
 .br y2
 (.ret false)
 (.loop (fun (x135 : Int) => ⟨[(1, .ptr 0 0), (17, pz ((a0.Edges.length : Nat) : Int)), (18, pz x135)], [(0, .box [.pure (encL 1 (encL 1 az3) a0.Points), .pure (encL 12 az5 a0.Edges)])], [], 1⟩)
 (.exit 0) (fun (_ : U0) => ⟨[], [], [], 0⟩)
 (fun x135 => .br (decide (x135 < ((a0.Edges.length : Nat) : Int)))
 (.grd (0 ≤ x135 ∧ x135 < ((a0.Edges.length : Nat) : Int)) <|
 .cut 1 (fun (y202 : Bool) => ⟨[(1, .ptr 0 0), (3, pz x135), (4, .ref (az5 (a0.Edges.getD ((x135).toNat) default))), (17, pz ((a0.Edges.length : Nat) : Int)), (18, pz x135), (65, .pure (.bool y202))], [(0, .box [.pure (encL 1 (encL 1 az3) a0.Points), .pure (encL 12 az5 a0.Edges)])], [], 1⟩)
 (.call (czm (⟨a0.Points, a0.Edges⟩ : aze) ((a0.Edges.getD ((x135).toNat) default).U)) [] fun y203 =>
 .br (!y203)
 (.ret (.out true))
 (.call (czm (⟨a0.Points, a0.Edges⟩ : aze) ((a0.Edges.getD ((x135).toNat) default).V)) [] fun y204 =>
 .br (!y204)
 (.ret (.out true))
 (.br (decide (((a0.Edges.getD ((x135).toNat) default).U) ≥ ((a0.Edges.getD ((x135).toNat) default).V)))
 (.ret (.out true))
 (.br (decide (((a0.Edges.getD ((x135).toNat) default).Cost) < 0))
 (.ret (.out true))
 (.ret (.out (decide (((a0.Edges.getD ((x135).toNat) default).Cost) > 1099511627776)))))))) fun y202 =>
 .br y202
 (.ret (.fin false))
 (.cut 0 (fun (y207 : Bool) => ⟨[(1, .ptr 0 0), (17, pz ((a0.Edges.length : Nat) : Int)), (18, pz x135), (86, .pure (.bool y207))], [(0, .box [.pure (encL 1 (encL 1 az3) a0.Points), .pure (encL 12 az5 a0.Edges)])], [], 1⟩)
 (.br (decide (x135 > 0))
 (.grd (0 ≤ (IntKind.i64.wrap (x135 - 1)) ∧ (IntKind.i64.wrap (x135 - 1)) < ((a0.Edges.length : Nat) : Int)) <|
 .call (dz8 (a0.Edges.getD (((IntKind.i64.wrap (x135 - 1))).toNat) default) ((a0.Edges.getD ((x135).toNat) default).U, (a0.Edges.getD ((x135).toNat) default).V)) [] fun y208 =>
 .ret (.out (decide (y208 ≥ 0))))
 (.ret (.out false))) fun y207 =>
 .br y207
 (.ret (.fin false))
 (.ret (.next (IntKind.i64.wrap (x135 + 1))))))
 (.ret (.out .u)))
 0 [] fun _ =>
 .ret true)
noncomputable def ezo (a0 : aze) : CallS Bool :=
  mkC [] hd Tryz.func51 (by kernel_rfl) (gzj a0) 0 [.pure (cz8 a0)] [] (fun r => .pure (.bool r)) (fun _ => []) (by kernel_rfl)
noncomputable def mz2 (a0 : Int) (a1 : Int) : T Bool :=
 .br (a1 == 0)
 (.ret (a0 == 1))
 (.br (a1 == 1)
 (.br (a0 == 1)
 (.ret true)
 (.ret (a0 == 0)))
 (.br (a1 == 2)
 (.ret (a0 != 2))
 (.ret false)))
noncomputable def mz1 (a0 : Int) (a1 : Int) : CallS Bool :=
  mkC [] hd Tryz.func86 (by kernel_rfl) (mz2 a0 a1) 0 [pz a0, pz a1] [] (fun r => .pure (.bool r)) (fun _ => []) (by kernel_rfl)
set_option maxHeartbeats 8000000 in
set_option maxRecDepth 20000 in
noncomputable def oz5 (a0 : aze) (a1 : Int) : T (List (List az8)) :=
 .unroll 1 <|
 .conv 1003 (Szi 2 azu 151 (((a0.Points.length : Nat) : Int)).toNat 153) <|
 .grd (0 ≤ ((a0.Points.length : Nat) : Int) ∧ ((a0.Points.length : Nat) : Int) ≤ ((a0.Points.length : Nat) : Int) ∧ ((a0.Points.length : Nat) : Int) ≤ 9223372036854775807 ∧ ((a0.Points.length : Nat) : Int) * 24 ≤ 140737488355328) <|
 .loop (fun (x33 : ((List (List az8)) × Int)) => ⟨[(1, pz a1), (2, .ptr 0 0), (5, .vec 1), (14, pz ((a0.Edges.length : Nat) : Int)), (15, pz x33.2)], [(0, .box [.pure (encL 1 (encL 1 az3) a0.Points), .pure (encL 12 az5 a0.Edges)]), (1, Nz4 2 azu x33.1 151 153)], [], 2⟩)
 (.exit 0) (fun (y41 : (List (List az8))) => ⟨[(5, .vec 0)], [(0, Nz4 2 azu y41 151 153)], [], 1⟩)
 (fun x33 => .br (decide (x33.2 < ((a0.Edges.length : Nat) : Int)))
 (.cut 0 (fun (y46 : (List (List az8))) => ⟨[(1, pz a1), (2, .ptr 0 0), (5, .vec 1), (14, pz ((a0.Edges.length : Nat) : Int)), (15, pz x33.2)], [(0, .box [.pure (encL 1 (encL 1 az3) a0.Points), .pure (encL 12 az5 a0.Edges)]), (1, Nz4 2 azu y46 151 153)], [], 2⟩)
 (.grd (0 ≤ x33.2 ∧ x33.2 < ((a0.Edges.length : Nat) : Int)) <|
 .call (mz1 ((a0.Edges.getD ((x33.2).toNat) default).State) a1) [] fun y48 =>
 .br y48
 (.grd (0 ≤ ((a0.Edges.getD ((x33.2).toNat) default).U) ∧ ((a0.Edges.getD ((x33.2).toNat) default).U) < ((x33.1.length : Nat) : Int)) <|
 .grd (((a0.Edges.getD ((x33.2).toNat) default).U).toNat < x33.1.length) <|
 .conv 7021 (czp 2 azu ([(⟨(a0.Edges.getD ((x33.2).toNat) default).V, (a0.Edges.getD ((x33.2).toNat) default).Cost⟩ : az8)] : (List az8)) 153) <|
 .conv 7022 (fzt 2 azu (x33.1.getD (((a0.Edges.getD ((x33.2).toNat) default).U).toNat) default) ([(⟨(a0.Edges.getD ((x33.2).toNat) default).V, (a0.Edges.getD ((x33.2).toNat) default).Cost⟩ : az8)] : (List az8)) 153) <|
 .grd (((x33.1.getD (((a0.Edges.getD ((x33.2).toNat) default).U).toNat) default).length + ([(⟨(a0.Edges.getD ((x33.2).toNat) default).V, (a0.Edges.getD ((x33.2).toNat) default).Cost⟩ : az8)] : (List az8)).length) * 16 ≤ 140737488355328 ∧ ((x33.1.getD (((a0.Edges.getD ((x33.2).toNat) default).U).toNat) default).length + ([(⟨(a0.Edges.getD ((x33.2).toNat) default).V, (a0.Edges.getD ((x33.2).toNat) default).Cost⟩ : az8)] : (List az8)).length) ≤ maxLen) <|
 .grd (0 ≤ ((a0.Edges.getD ((x33.2).toNat) default).U) ∧ ((a0.Edges.getD ((x33.2).toNat) default).U) < ((x33.1.length : Nat) : Int)) <|
 .conv 7024 (Pzl 2 azu ((x33.1.getD (((a0.Edges.getD ((x33.2).toNat) default).U).toNat) default) ++ ([(⟨(a0.Edges.getD ((x33.2).toNat) default).V, (a0.Edges.getD ((x33.2).toNat) default).Cost⟩ : az8)] : (List az8))) 151 x33.1 (((a0.Edges.getD ((x33.2).toNat) default).U).toNat) 153) <|
 .grd (((a0.Edges.getD ((x33.2).toNat) default).U).toNat < x33.1.length ∧ ((a0.Edges.getD ((x33.2).toNat) default).U).toNat = ((a0.Edges.getD ((x33.2).toNat) default).U).toNat) <|
 .grd (0 ≤ ((a0.Edges.getD ((x33.2).toNat) default).V) ∧ ((a0.Edges.getD ((x33.2).toNat) default).V) < (((x33.1.set (((a0.Edges.getD ((x33.2).toNat) default).U).toNat) ((x33.1.getD (((a0.Edges.getD ((x33.2).toNat) default).U).toNat) default) ++ ([(⟨(a0.Edges.getD ((x33.2).toNat) default).V, (a0.Edges.getD ((x33.2).toNat) default).Cost⟩ : az8)] : (List az8)))).length : Nat) : Int)) <|
 .grd (((a0.Edges.getD ((x33.2).toNat) default).V).toNat < (x33.1.set (((a0.Edges.getD ((x33.2).toNat) default).U).toNat) ((x33.1.getD (((a0.Edges.getD ((x33.2).toNat) default).U).toNat) default) ++ ([(⟨(a0.Edges.getD ((x33.2).toNat) default).V, (a0.Edges.getD ((x33.2).toNat) default).Cost⟩ : az8)] : (List az8)))).length) <|
 .conv 8021 (czp 2 azu ([(⟨(a0.Edges.getD ((x33.2).toNat) default).U, (a0.Edges.getD ((x33.2).toNat) default).Cost⟩ : az8)] : (List az8)) 153) <|
 .conv 8022 (fzt 2 azu ((x33.1.set (((a0.Edges.getD ((x33.2).toNat) default).U).toNat) ((x33.1.getD (((a0.Edges.getD ((x33.2).toNat) default).U).toNat) default) ++ ([(⟨(a0.Edges.getD ((x33.2).toNat) default).V, (a0.Edges.getD ((x33.2).toNat) default).Cost⟩ : az8)] : (List az8)))).getD (((a0.Edges.getD ((x33.2).toNat) default).V).toNat) default) ([(⟨(a0.Edges.getD ((x33.2).toNat) default).U, (a0.Edges.getD ((x33.2).toNat) default).Cost⟩ : az8)] : (List az8)) 153) <|
 .grd ((((x33.1.set (((a0.Edges.getD ((x33.2).toNat) default).U).toNat) ((x33.1.getD (((a0.Edges.getD ((x33.2).toNat) default).U).toNat) default) ++ ([(⟨(a0.Edges.getD ((x33.2).toNat) default).V, (a0.Edges.getD ((x33.2).toNat) default).Cost⟩ : az8)] : (List az8)))).getD (((a0.Edges.getD ((x33.2).toNat) default).V).toNat) default).length + ([(⟨(a0.Edges.getD ((x33.2).toNat) default).U, (a0.Edges.getD ((x33.2).toNat) default).Cost⟩ : az8)] : (List az8)).length) * 16 ≤ 140737488355328 ∧ (((x33.1.set (((a0.Edges.getD ((x33.2).toNat) default).U).toNat) ((x33.1.getD (((a0.Edges.getD ((x33.2).toNat) default).U).toNat) default) ++ ([(⟨(a0.Edges.getD ((x33.2).toNat) default).V, (a0.Edges.getD ((x33.2).toNat) default).Cost⟩ : az8)] : (List az8)))).getD (((a0.Edges.getD ((x33.2).toNat) default).V).toNat) default).length + ([(⟨(a0.Edges.getD ((x33.2).toNat) default).U, (a0.Edges.getD ((x33.2).toNat) default).Cost⟩ : az8)] : (List az8)).length) ≤ maxLen) <|
 .grd (0 ≤ ((a0.Edges.getD ((x33.2).toNat) default).V) ∧ ((a0.Edges.getD ((x33.2).toNat) default).V) < (((x33.1.set (((a0.Edges.getD ((x33.2).toNat) default).U).toNat) ((x33.1.getD (((a0.Edges.getD ((x33.2).toNat) default).U).toNat) default) ++ ([(⟨(a0.Edges.getD ((x33.2).toNat) default).V, (a0.Edges.getD ((x33.2).toNat) default).Cost⟩ : az8)] : (List az8)))).length : Nat) : Int)) <|
 .conv 8024 (Pzl 2 azu (((x33.1.set (((a0.Edges.getD ((x33.2).toNat) default).U).toNat) ((x33.1.getD (((a0.Edges.getD ((x33.2).toNat) default).U).toNat) default) ++ ([(⟨(a0.Edges.getD ((x33.2).toNat) default).V, (a0.Edges.getD ((x33.2).toNat) default).Cost⟩ : az8)] : (List az8)))).getD (((a0.Edges.getD ((x33.2).toNat) default).V).toNat) default) ++ ([(⟨(a0.Edges.getD ((x33.2).toNat) default).U, (a0.Edges.getD ((x33.2).toNat) default).Cost⟩ : az8)] : (List az8))) 151 (x33.1.set (((a0.Edges.getD ((x33.2).toNat) default).U).toNat) ((x33.1.getD (((a0.Edges.getD ((x33.2).toNat) default).U).toNat) default) ++ ([(⟨(a0.Edges.getD ((x33.2).toNat) default).V, (a0.Edges.getD ((x33.2).toNat) default).Cost⟩ : az8)] : (List az8)))) (((a0.Edges.getD ((x33.2).toNat) default).V).toNat) 153) <|
 .grd (((a0.Edges.getD ((x33.2).toNat) default).V).toNat < (x33.1.set (((a0.Edges.getD ((x33.2).toNat) default).U).toNat) ((x33.1.getD (((a0.Edges.getD ((x33.2).toNat) default).U).toNat) default) ++ ([(⟨(a0.Edges.getD ((x33.2).toNat) default).V, (a0.Edges.getD ((x33.2).toNat) default).Cost⟩ : az8)] : (List az8)))).length ∧ ((a0.Edges.getD ((x33.2).toNat) default).V).toNat = ((a0.Edges.getD ((x33.2).toNat) default).V).toNat) <|
 .ret (.out ((x33.1.set (((a0.Edges.getD ((x33.2).toNat) default).U).toNat) ((x33.1.getD (((a0.Edges.getD ((x33.2).toNat) default).U).toNat) default) ++ ([(⟨(a0.Edges.getD ((x33.2).toNat) default).V, (a0.Edges.getD ((x33.2).toNat) default).Cost⟩ : az8)] : (List az8)))).set (((a0.Edges.getD ((x33.2).toNat) default).V).toNat) (((x33.1.set (((a0.Edges.getD ((x33.2).toNat) default).U).toNat) ((x33.1.getD (((a0.Edges.getD ((x33.2).toNat) default).U).toNat) default) ++ ([(⟨(a0.Edges.getD ((x33.2).toNat) default).V, (a0.Edges.getD ((x33.2).toNat) default).Cost⟩ : az8)] : (List az8)))).getD (((a0.Edges.getD ((x33.2).toNat) default).V).toNat) default) ++ ([(⟨(a0.Edges.getD ((x33.2).toNat) default).U, (a0.Edges.getD ((x33.2).toNat) default).Cost⟩ : az8)] : (List az8))))))
 (.ret (.out x33.1))) fun y46 =>
 .ret (.next (y46, (IntKind.i64.wrap (x33.2 + 1)))))
 (.ret (.out x33.1)))
 ((List.replicate (((a0.Points.length : Nat) : Int)).toNat (nl : (List az8))), 0) [] fun y41 =>
 .ret y41
noncomputable def gz8 (a0 : aze) (a1 : Int) : CallS (List (List az8)) :=
  mkC [] hd Tryz.func54 (by kernel_rfl) (oz5 a0 a1) 0 [.pure (cz8 a0), pz a1] [] (fun r => .pure (encL 1 (encL 2 azu) r)) (fun _ => []) (by kernel_rfl)
noncomputable def kzy (a0 : az6) (a1 : az6) : T Bool :=
 .br (a1.points == 0)
 (.ret true)
 (.br (decide (a0.cost < a1.cost))
 (.ret true)
 (.br (a0.cost == a1.cost)
 (.ret (decide (a0.points < a1.points)))
 (.ret false)))
noncomputable def dzz (a0 : az6) (a1 : az6) : CallS Bool :=
  mkC [] hd Tryz.func82 (by kernel_rfl) (kzy a0 a1) 0 [.pure (bz2 a0), .pure (bz2 a1)] [] (fun r => .pure (.bool r)) (fun _ => []) (by kernel_rfl)
set_option maxHeartbeats 8000000 in
set_option maxRecDepth 20000 in
noncomputable def uzq (a0 : (List aza)) : T (aza × (List aza)) :=
 .grd (0 ≤ (0 : Int) ∧ (0 : Int) < ((a0.length : Nat) : Int)) <|
 .grd ((0 : Int).toNat < a0.length) <|
 .grd (0 ≤ (IntKind.i64.wrap (((a0.length : Nat) : Int) - 1)) ∧ (IntKind.i64.wrap (((a0.length : Nat) : Int) - 1)) < ((a0.length : Nat) : Int)) <|
 .grd (((IntKind.i64.wrap (((a0.length : Nat) : Int) - 1))).toNat < a0.length) <|
 .grd (0 ≤ (0 : Int) ∧ (0 : Int) < ((a0.length : Nat) : Int)) <|
 .conv 3006 (fzj 3 azr a0 147 ((0 : Int).toNat) (a0.getD (((IntKind.i64.wrap (((a0.length : Nat) : Int) - 1))).toNat) default)) <|
 .grd ((0 : Int).toNat < a0.length ∧ 0 ≤ (0 : Int).toNat) <|
 .conv 4002 (Pzm 3 azr (a0.set ((0 : Int).toNat) (a0.getD (((IntKind.i64.wrap (((a0.length : Nat) : Int) - 1))).toNat) default)) 147 (IntKind.i64.wrap (((a0.length : Nat) : Int) - 1))) <|
 .grd (0 ≤ (IntKind.i64.wrap (((a0.length : Nat) : Int) - 1)) ∧ (IntKind.i64.wrap (((a0.length : Nat) : Int) - 1)) ≤ (((a0.set ((0 : Int).toNat) (a0.getD (((IntKind.i64.wrap (((a0.length : Nat) : Int) - 1))).toNat) default)).length : Nat) : Int) ∧ 0 ≤ ((IntKind.i64.wrap (((a0.length : Nat) : Int) - 1))).toNat) <|
 .loop (fun (x73 : ((List aza) × Int)) => ⟨[(0, .ptr 0 0), (2, .ptr 2 0), (3, .vec 3), (4, .ptr 4 0), (5, pz (IntKind.i64.wrap (((a0.length : Nat) : Int) - 1))), (6, pz x73.2)], [(0, .box [.vec 1]), (1, .gone), (2, .box [pz 0, pz 0, pz 0]), (3, vecO 3 azr x73.1 147), (4, .box [pz ((a0.getD ((0 : Int).toNat) default).rank.cost), pz ((a0.getD ((0 : Int).toNat) default).rank.points), pz ((a0.getD ((0 : Int).toNat) default).point)])], [], 5⟩)
 (.exit 0) (fun (y91 : (List aza)) => ⟨[(0, .ptr 0 0), (2, .ptr 2 0), (3, .vec 3), (4, .ptr 4 0)], [(0, .box [.vec 1]), (1, .gone), (2, .box [pz 0, pz 0, pz 0]), (3, vecO 3 azr y91 147), (4, .box [pz ((a0.getD ((0 : Int).toNat) default).rank.cost), pz ((a0.getD ((0 : Int).toNat) default).rank.points), pz ((a0.getD ((0 : Int).toNat) default).point)])], [], 5⟩)
 (fun x73 => .br (decide ((IntKind.i64.wrap ((IntKind.i64.wrap (2 * x73.2)) + 1)) < (IntKind.i64.wrap (((a0.length : Nat) : Int) - 1))))
 (.cut 1 (fun (y100 : Int) => ⟨[(0, .ptr 0 0), (2, .ptr 2 0), (3, .vec 3), (4, .ptr 4 0), (5, pz (IntKind.i64.wrap (((a0.length : Nat) : Int) - 1))), (6, pz x73.2), (7, pz y100)], [(0, .box [.vec 1]), (1, .gone), (2, .box [pz 0, pz 0, pz 0]), (3, vecO 3 azr x73.1 147), (4, .box [pz ((a0.getD ((0 : Int).toNat) default).rank.cost), pz ((a0.getD ((0 : Int).toNat) default).rank.points), pz ((a0.getD ((0 : Int).toNat) default).point)])], [], 5⟩)
 (.cut 0 (fun (y103 : Bool) => ⟨[(0, .ptr 0 0), (2, .ptr 2 0), (3, .vec 3), (4, .ptr 4 0), (5, pz (IntKind.i64.wrap (((a0.length : Nat) : Int) - 1))), (6, pz x73.2), (7, pz (IntKind.i64.wrap ((IntKind.i64.wrap (2 * x73.2)) + 1))), (51, .pure (.bool y103))], [(0, .box [.vec 1]), (1, .gone), (2, .box [pz 0, pz 0, pz 0]), (3, vecO 3 azr x73.1 147), (4, .box [pz ((a0.getD ((0 : Int).toNat) default).rank.cost), pz ((a0.getD ((0 : Int).toNat) default).rank.points), pz ((a0.getD ((0 : Int).toNat) default).point)])], [], 5⟩)
 (.br (decide ((IntKind.i64.wrap ((IntKind.i64.wrap ((IntKind.i64.wrap (2 * x73.2)) + 1)) + 1)) < (IntKind.i64.wrap (((a0.length : Nat) : Int) - 1))))
 (.grd (0 ≤ (IntKind.i64.wrap ((IntKind.i64.wrap ((IntKind.i64.wrap (2 * x73.2)) + 1)) + 1)) ∧ (IntKind.i64.wrap ((IntKind.i64.wrap ((IntKind.i64.wrap (2 * x73.2)) + 1)) + 1)) < ((x73.1.length : Nat) : Int)) <|
 .grd (((IntKind.i64.wrap ((IntKind.i64.wrap ((IntKind.i64.wrap (2 * x73.2)) + 1)) + 1))).toNat < x73.1.length) <|
 .grd (0 ≤ (IntKind.i64.wrap ((IntKind.i64.wrap (2 * x73.2)) + 1)) ∧ (IntKind.i64.wrap ((IntKind.i64.wrap (2 * x73.2)) + 1)) < ((x73.1.length : Nat) : Int)) <|
 .grd (((IntKind.i64.wrap ((IntKind.i64.wrap (2 * x73.2)) + 1))).toNat < x73.1.length) <|
 .call (dzz ((x73.1.getD (((IntKind.i64.wrap ((IntKind.i64.wrap ((IntKind.i64.wrap (2 * x73.2)) + 1)) + 1))).toNat) default).rank) ((x73.1.getD (((IntKind.i64.wrap ((IntKind.i64.wrap (2 * x73.2)) + 1))).toNat) default).rank)) [] fun y104 =>
 .ret (.out y104))
 (.ret (.out false))) fun y103 =>
 .br y103
 (.ret (.out (IntKind.i64.wrap ((IntKind.i64.wrap ((IntKind.i64.wrap (2 * x73.2)) + 1)) + 1))))
 (.ret (.out (IntKind.i64.wrap ((IntKind.i64.wrap (2 * x73.2)) + 1))))) fun y100 =>
 .grd (0 ≤ y100 ∧ y100 < ((x73.1.length : Nat) : Int)) <|
 .grd ((y100).toNat < x73.1.length) <|
 .grd (0 ≤ x73.2 ∧ x73.2 < ((x73.1.length : Nat) : Int)) <|
 .grd ((x73.2).toNat < x73.1.length) <|
 .call (dzz ((x73.1.getD ((y100).toNat) default).rank) ((x73.1.getD ((x73.2).toNat) default).rank)) [] fun y108 =>
 .br (!y108)
 (.ret (.out x73.1))
 (.grd (0 ≤ y100 ∧ y100 < ((x73.1.length : Nat) : Int)) <|
 .grd ((y100).toNat < x73.1.length) <|
 .grd (0 ≤ x73.2 ∧ x73.2 < ((x73.1.length : Nat) : Int)) <|
 .grd ((x73.2).toNat < x73.1.length) <|
 .grd (0 ≤ x73.2 ∧ x73.2 < ((x73.1.length : Nat) : Int)) <|
 .conv 11013 (fzj 3 azr x73.1 147 ((x73.2).toNat) (x73.1.getD ((y100).toNat) default)) <|
 .grd ((x73.2).toNat < x73.1.length ∧ 0 ≤ (x73.2).toNat) <|
 .grd (0 ≤ y100 ∧ y100 < (((x73.1.set ((x73.2).toNat) (x73.1.getD ((y100).toNat) default)).length : Nat) : Int)) <|
 .conv 11015 (fzj 3 azr (x73.1.set ((x73.2).toNat) (x73.1.getD ((y100).toNat) default)) 147 ((y100).toNat) (x73.1.getD ((x73.2).toNat) default)) <|
 .grd ((y100).toNat < (x73.1.set ((x73.2).toNat) (x73.1.getD ((y100).toNat) default)).length ∧ 0 ≤ (y100).toNat) <|
 .ret (.next (((x73.1.set ((x73.2).toNat) (x73.1.getD ((y100).toNat) default)).set ((y100).toNat) (x73.1.getD ((x73.2).toNat) default)), y100))))
 (.ret (.out x73.1)))
 (((a0.set ((0 : Int).toNat) (a0.getD (((IntKind.i64.wrap (((a0.length : Nat) : Int) - 1))).toNat) default)).take (((IntKind.i64.wrap (((a0.length : Nat) : Int) - 1))).toNat)), 0) [] fun y91 =>
 .ret ((a0.getD ((0 : Int).toNat) default), y91)
noncomputable def uzp (a0 : (List aza)) : CallS (aza × (List aza)) :=
  mkC [] hd Tryz.func81 (by kernel_rfl) (uzq a0) 2 [.ptr 0 0] [(0, .box [.vec 1]), (1, vecO 3 azr a0 147)] (fun r => .pure (azr r.1)) (fun r => [(0, .box [.vec 2]), (1, .gone), (2, vecO 3 azr r.2 147)]) (by kernel_rfl)
noncomputable def sz2 (a0 : (List aza)) (a1 : aza) : T (List aza) :=
 .conv 1004 (czp 3 azr ([a1] : (List aza)) 147) <|
 .conv 1005 (fzt 3 azr a0 ([a1] : (List aza)) 147) <|
 .grd ((a0.length + ([a1] : (List aza)).length) * 24 ≤ 140737488355328 ∧ (a0.length + ([a1] : (List aza)).length) ≤ maxLen) <|
 .loop (fun (x71 : ((List aza) × Int)) => ⟨[(0, .ptr 0 0), (4, .vec 2), (5, pz x71.2)], [(0, .box [.vec 1]), (1, .gone), (2, vecO 3 azr x71.1 147)], [], 3⟩)
 (.exit 0) (fun (y78 : (List aza)) => ⟨[(0, .ptr 0 0), (4, .vec 2)], [(0, .box [.vec 1]), (1, .gone), (2, vecO 3 azr y78 147)], [], 3⟩)
 (fun x71 => .br (decide (x71.2 > 0))
 (.ok ((2 : Int) ≠ 0) (by decide) <|
 .name 4002 ((IntKind.i64.wrap ((IntKind.i64.wrap (x71.2 - 1)).tdiv 2))) fun z80 =>
 .grd (0 ≤ x71.2 ∧ x71.2 < ((x71.1.length : Nat) : Int)) <|
 .grd ((x71.2).toNat < x71.1.length) <|
 .grd (0 ≤ z80 ∧ z80 < ((x71.1.length : Nat) : Int)) <|
 .grd ((z80).toNat < x71.1.length) <|
 .call (dzz ((x71.1.getD ((x71.2).toNat) default).rank) ((x71.1.getD ((z80).toNat) default).rank)) [] fun y84 =>
 .br (!y84)
 (.ret (.out x71.1))
 (.grd (0 ≤ z80 ∧ z80 < ((x71.1.length : Nat) : Int)) <|
 .grd ((z80).toNat < x71.1.length) <|
 .grd (0 ≤ x71.2 ∧ x71.2 < ((x71.1.length : Nat) : Int)) <|
 .grd ((x71.2).toNat < x71.1.length) <|
 .grd (0 ≤ x71.2 ∧ x71.2 < ((x71.1.length : Nat) : Int)) <|
 .conv 6013 (fzj 3 azr x71.1 147 ((x71.2).toNat) (x71.1.getD ((z80).toNat) default)) <|
 .grd ((x71.2).toNat < x71.1.length ∧ 0 ≤ (x71.2).toNat) <|
 .grd (0 ≤ z80 ∧ z80 < (((x71.1.set ((x71.2).toNat) (x71.1.getD ((z80).toNat) default)).length : Nat) : Int)) <|
 .conv 6015 (fzj 3 azr (x71.1.set ((x71.2).toNat) (x71.1.getD ((z80).toNat) default)) 147 ((z80).toNat) (x71.1.getD ((x71.2).toNat) default)) <|
 .grd ((z80).toNat < (x71.1.set ((x71.2).toNat) (x71.1.getD ((z80).toNat) default)).length ∧ 0 ≤ (z80).toNat) <|
 .ret (.next (((x71.1.set ((x71.2).toNat) (x71.1.getD ((z80).toNat) default)).set ((z80).toNat) (x71.1.getD ((x71.2).toNat) default)), z80))))
 (.ret (.out x71.1)))
 ((a0 ++ ([a1] : (List aza))), (IntKind.i64.wrap ((((a0 ++ ([a1] : (List aza))).length : Nat) : Int) - 1))) [] fun y78 =>
 .ret y78
noncomputable def sz1 (a0 : (List aza)) (a1 : aza) : CallS (List aza) :=
  mkC [] hd Tryz.func83 (by kernel_rfl) (sz2 a0 a1) 2 [.ptr 0 0, .pure (azr a1)] [(0, .box [.vec 1]), (1, vecO 3 azr a0 147)] (fun _ => .tup []) (fun r => [(0, .box [.vec 2]), (1, .gone), (2, vecO 3 azr r 147)]) (by kernel_rfl)
noncomputable def gzi (a0 : az8) (a1 : (List az6)) (a2 : Int) : T (Bool × (List az6) × Int) :=
 .grd (0 ≤ a0.to ∧ a0.to < ((a1.length : Nat) : Int)) <|
 .grd ((a0.to).toNat < a1.length) <|
 .grd (0 ≤ a2 ∧ a2 < ((a1.length : Nat) : Int)) <|
 .grd ((a2).toNat < a1.length) <|
 .br (((a1.getD ((a0.to).toNat) default).points) == (IntKind.i64.wrap (((a1.getD ((a2).toNat) default).points) - 1)))
 (.grd (0 ≤ a2 ∧ a2 < ((a1.length : Nat) : Int)) <|
 .grd ((a2).toNat < a1.length) <|
 .ret (((IntKind.i64.wrap (((a1.getD ((a0.to).toNat) default).cost) + a0.cost)) == ((a1.getD ((a2).toNat) default).cost)), a1, a2))
 (.ret (false, a1, a2))
noncomputable def dzo (a0 : az8) (a1 : (List az6)) (a2 : Int) : CallS (Bool × (List az6) × Int) :=
  mkC [] hd Tryz.func85 (by kernel_rfl) (gzi a0 a1 a2) 3 [.pure (azu a0), .ptr 0 0, .ptr 2 0] [(0, .box [.vec 1]), (1, vecO 2 bz2 a1 145), (2, .box [pz a2])] (fun r => .pure (.bool r.1)) (fun r => [(0, .box [.vec 1]), (1, vecO 2 bz2 r.2.1 145), (2, .box [pz r.2.2])]) (by kernel_rfl)
noncomputable def bzl (a0 : (List az8)) (a1 : (List az6)) (a2 : Int) : T (Int × (List az6) × Int) :=
 .loop (fun (x21 : ((List az6) × Int × Int)) => ⟨[(0, .pure (encL 2 azu a0)), (1, .func 85 [] [.ptr 0 0, .ptr 2 0]), (7, pz ((a0.length : Nat) : Int)), (8, pz x21.2.2)], [(0, .box [.vec 1]), (1, vecO 2 bz2 x21.1 145), (2, .box [pz x21.2.1])], [], 3⟩)
 (.exit 0) (fun (y26 : ((List az6) × Int)) => ⟨[], [(0, .box [.vec 1]), (1, vecO 2 bz2 y26.1 145), (2, .box [pz y26.2])], [], 3⟩)
 (fun x21 => .br (decide (x21.2.2 < ((a0.length : Nat) : Int)))
 (.grd (0 ≤ x21.2.2 ∧ x21.2.2 < ((a0.length : Nat) : Int)) <|
 .call (dzo (a0.getD ((x21.2.2).toNat) default) x21.1 x21.2.1) [(0, 0), (1, 1), (2, 2)] fun y30 =>
 .br y30.1
 (.ret (.fin (x21.2.2, y30.2.1, y30.2.2)))
 (.ret (.next (y30.2.1, y30.2.2, (IntKind.i64.wrap (x21.2.2 + 1))))))
 (.ret (.out (x21.1, x21.2.1))))
 (a1, a2, 0) [] fun y26 =>
 .ret ((-1), y26.1, y26.2)
noncomputable def bz6 (a0 : (List az8)) (a1 : (List az6)) (a2 : Int) : CallS (Int × (List az6) × Int) :=
  mkC [] hd Tryz.func84 (by kernel_rfl) (bzl a0 a1 a2) 3 [.pure (encL 2 azu a0), .func 85 [] [.ptr 0 0, .ptr 2 0]] [(0, .box [.vec 1]), (1, vecO 2 bz2 a1 145), (2, .box [pz a2])] (fun r => pz r.1) (fun r => [(0, .box [.vec 1]), (1, vecO 2 bz2 r.2.1 145), (2, .box [pz r.2.2])]) (by kernel_rfl)
set_option maxHeartbeats 8000000 in
set_option maxRecDepth 20000 in
noncomputable def izs (a0 : (List (List az8))) (a1 : Int) (a2 : Int) : T ((List Int) × Int × Bool) :=
 .conv 1002 (Ezt 2 bz2 145 (((a0.length : Nat) : Int)).toNat (⟨0, 0⟩ : az6)) <|
 .grd (0 ≤ ((a0.length : Nat) : Int) ∧ ((a0.length : Nat) : Int) ≤ ((a0.length : Nat) : Int) ∧ ((a0.length : Nat) : Int) ≤ 9223372036854775807 ∧ ((a0.length : Nat) : Int) * 16 ≤ 140737488355328) <|
 .grd (0 ≤ a2 ∧ a2 < (((List.replicate (((a0.length : Nat) : Int)).toNat ((⟨0, 0⟩ : az6) : az6)).length : Nat) : Int)) <|
 .conv 2004 (fzj 2 bz2 (List.replicate (((a0.length : Nat) : Int)).toNat ((⟨0, 0⟩ : az6) : az6)) 145 ((a2).toNat) (⟨0, 1⟩ : az6)) <|
 .grd ((a2).toNat < (List.replicate (((a0.length : Nat) : Int)).toNat ((⟨0, 0⟩ : az6) : az6)).length ∧ 0 ≤ (a2).toNat) <|
 .grd (0 ≤ a2 ∧ a2 < ((((List.replicate (((a0.length : Nat) : Int)).toNat ((⟨0, 0⟩ : az6) : az6)).set ((a2).toNat) (⟨0, 1⟩ : az6)).length : Nat) : Int)) <|
 .grd ((a2).toNat < ((List.replicate (((a0.length : Nat) : Int)).toNat ((⟨0, 0⟩ : az6) : az6)).set ((a2).toNat) (⟨0, 1⟩ : az6)).length) <|
 .conv 3006 (czp 3 azr ([(⟨(((List.replicate (((a0.length : Nat) : Int)).toNat ((⟨0, 0⟩ : az6) : az6)).set ((a2).toNat) (⟨0, 1⟩ : az6)).getD ((a2).toNat) default), a2⟩ : aza)] : (List aza)) 147) <|
 .loop (fun (x551 : ((List az6) × (List aza))) => ⟨[(0, .pure (encL 1 (encL 2 azu) a0)), (1, pz a1), (2, pz a2), (6, .ptr 0 0), (8, .ptr 2 0), (9, .ptr 4 0)], [(0, .box [.vec 1, pz 0]), (1, .nilv), (2, .box [.vec 3]), (3, vecO 2 bz2 x551.1 145), (4, .box [.vec 5]), (5, vecO 3 azr x551.2 147)], [], 6⟩)
 (.exit 0) (fun (y609 : (List az6)) => ⟨[(0, .pure (encL 1 (encL 2 azu) a0)), (1, pz a1), (2, pz a2), (6, .ptr 0 0), (8, .ptr 2 0)], [(0, .box [.vec 1, pz 0]), (1, .nilv), (2, .box [.vec 3]), (3, vecO 2 bz2 y609 145)], [], 4⟩)
 (fun x551 => .name 4001 (((x551.2.length : Nat) : Int)) fun z613 =>
 .br (decide (z613 > 0))
 (.call (uzp x551.2) [(0, 4), (1, 5)] fun y615 =>
 .br (y615.1.point == a1)
 (.ret (.out x551.1))
 (.grd (0 ≤ y615.1.point ∧ y615.1.point < ((x551.1.length : Nat) : Int)) <|
 .grd ((y615.1.point).toNat < x551.1.length) <|
 .br (!((y615.1.rank.cost == ((x551.1.getD ((y615.1.point).toNat) default).cost)) && ((y615.1.rank.points == ((x551.1.getD ((y615.1.point).toNat) default).points)) && true)))
 (.ret (.next (x551.1, y615.2)))
 (.grd (0 ≤ y615.1.point ∧ y615.1.point < ((a0.length : Nat) : Int)) <|
 .loop (fun (x633 : ((List az6) × (List aza) × Int)) => ⟨[(0, .pure (encL 1 (encL 2 azu) a0)), (1, pz a1), (2, pz a2), (6, .ptr 0 0), (8, .ptr 2 0), (9, .ptr 4 0), (10, .ptr 6 0), (53, .pure (encL 2 azu (a0.getD ((y615.1.point).toNat) default))), (54, pz (((a0.getD ((y615.1.point).toNat) default).length : Nat) : Int)), (55, pz x633.2.2)], [(0, .box [.vec 1, pz 0]), (1, .nilv), (2, .box [.vec 3]), (3, vecO 2 bz2 x633.1 145), (4, .box [.vec 5]), (5, vecO 3 azr x633.2.1 147), (6, .box [pz y615.1.rank.cost, pz y615.1.rank.points, pz y615.1.point])], [], 7⟩)
 (.exit 3) (fun (y650 : ((List az6) × (List aza))) => ⟨[(0, .pure (encL 1 (encL 2 azu) a0)), (1, pz a1), (2, pz a2), (6, .ptr 0 0), (8, .ptr 2 0), (9, .ptr 4 0)], [(0, .box [.vec 1, pz 0]), (1, .nilv), (2, .box [.vec 3]), (3, vecO 2 bz2 y650.1 145), (4, .box [.vec 5]), (5, vecO 3 azr y650.2 147)], [], 6⟩)
 (fun x633 => .br (decide (x633.2.2 < (((a0.getD ((y615.1.point).toNat) default).length : Nat) : Int)))
 (.cut 0 (fun (y661 : ((List az6) × (List aza))) => ⟨[(0, .pure (encL 1 (encL 2 azu) a0)), (1, pz a1), (2, pz a2), (6, .ptr 0 0), (8, .ptr 2 0), (9, .ptr 4 0), (10, .ptr 6 0), (53, .pure (encL 2 azu (a0.getD ((y615.1.point).toNat) default))), (54, pz (((a0.getD ((y615.1.point).toNat) default).length : Nat) : Int)), (55, pz x633.2.2)], [(0, .box [.vec 1, pz 0]), (1, .nilv), (2, .box [.vec 3]), (3, vecO 2 bz2 y661.1 145), (4, .box [.vec 5]), (5, vecO 3 azr y661.2 147), (6, .box [pz y615.1.rank.cost, pz y615.1.rank.points, pz y615.1.point])], [], 7⟩)
 (.grd (0 ≤ x633.2.2 ∧ x633.2.2 < (((a0.getD ((y615.1.point).toNat) default).length : Nat) : Int)) <|
 .name 11005 ((IntKind.i64.wrap (y615.1.rank.cost + (((a0.getD ((y615.1.point).toNat) default).getD ((x633.2.2).toNat) default).cost)))) fun z663 =>
 .grd (0 ≤ (((a0.getD ((y615.1.point).toNat) default).getD ((x633.2.2).toNat) default).to) ∧ (((a0.getD ((y615.1.point).toNat) default).getD ((x633.2.2).toNat) default).to) < ((x633.1.length : Nat) : Int)) <|
 .grd ((((a0.getD ((y615.1.point).toNat) default).getD ((x633.2.2).toNat) default).to).toNat < x633.1.length) <|
 .call (dzz (⟨z663, (IntKind.i64.wrap (y615.1.rank.points + 1))⟩ : az6) (x633.1.getD ((((a0.getD ((y615.1.point).toNat) default).getD ((x633.2.2).toNat) default).to).toNat) default)) [] fun y665 =>
 .br y665
 (.grd (0 ≤ (((a0.getD ((y615.1.point).toNat) default).getD ((x633.2.2).toNat) default).to) ∧ (((a0.getD ((y615.1.point).toNat) default).getD ((x633.2.2).toNat) default).to) < ((x633.1.length : Nat) : Int)) <|
 .conv 13005 (fzj 2 bz2 x633.1 145 ((((a0.getD ((y615.1.point).toNat) default).getD ((x633.2.2).toNat) default).to).toNat) (⟨z663, (IntKind.i64.wrap (y615.1.rank.points + 1))⟩ : az6)) <|
 .grd ((((a0.getD ((y615.1.point).toNat) default).getD ((x633.2.2).toNat) default).to).toNat < x633.1.length ∧ 0 ≤ (((a0.getD ((y615.1.point).toNat) default).getD ((x633.2.2).toNat) default).to).toNat) <|
 .call (sz1 x633.2.1 (⟨(⟨z663, (IntKind.i64.wrap (y615.1.rank.points + 1))⟩ : az6), ((a0.getD ((y615.1.point).toNat) default).getD ((x633.2.2).toNat) default).to⟩ : aza)) [(0, 4), (1, 5)] fun y666 =>
 .ret (.out ((x633.1.set ((((a0.getD ((y615.1.point).toNat) default).getD ((x633.2.2).toNat) default).to).toNat) (⟨z663, (IntKind.i64.wrap (y615.1.rank.points + 1))⟩ : az6)), y666)))
 (.ret (.out (x633.1, x633.2.1)))) fun y661 =>
 .ret (.next (y661.1, y661.2, (IntKind.i64.wrap (x633.2.2 + 1)))))
 (.ret (.out (x633.1, x633.2.1))))
 (x551.1, y615.2, 0) [] fun y650 =>
 .ret (.next (y650.1, y650.2)))))
 (.ret (.out x551.1)))
 (((List.replicate (((a0.length : Nat) : Int)).toNat ((⟨0, 0⟩ : az6) : az6)).set ((a2).toNat) (⟨0, 1⟩ : az6)), ([(⟨(((List.replicate (((a0.length : Nat) : Int)).toNat ((⟨0, 0⟩ : az6) : az6)).set ((a2).toNat) (⟨0, 1⟩ : az6)).getD ((a2).toNat) default), a2⟩ : aza)] : (List aza))) [] fun y609 =>
 .grd (0 ≤ a1 ∧ a1 < ((y609.length : Nat) : Int)) <|
 .grd ((a1).toNat < y609.length) <|
 .br (((y609.getD ((a1).toNat) default).points) == 0)
 (.ret (nl, 0, false))
 (.conv 18001 (czp 1 az3 ([a1] : (List Int)) 3) <|
 .grd (0 ≤ a1 ∧ a1 < ((y609.length : Nat) : Int)) <|
 .grd ((a1).toNat < y609.length) <|
 .loop (fun (x687 : ((List az6) × (List Int) × Int)) => ⟨[(0, .pure (encL 1 (encL 2 azu) a0)), (2, pz a2), (6, .ptr 0 0), (8, .ptr 2 0), (14, .ptr 4 0), (15, .ptr 6 0)], [(0, .box [.vec 1, pz 0]), (1, .nilv), (2, .box [.vec 3]), (3, vecO 2 bz2 x687.1 145), (4, .box [.vec 5, pz ((y609.getD ((a1).toNat) default).cost)]), (5, vecO 1 az3 x687.2.1 3), (6, .box [pz x687.2.2])], [], 7⟩)
 (.exit 5) (fun (y692 : (List Int)) => ⟨[(6, .ptr 0 0), (14, .ptr 2 0)], [(0, .box [.vec 1, pz 0]), (1, .nilv), (2, .box [.vec 3, pz ((y609.getD ((a1).toNat) default).cost)]), (3, vecO 1 az3 y692 3)], [], 4⟩)
 (fun x687 => .br (x687.2.2 != a2)
 (.grd (0 ≤ x687.2.2 ∧ x687.2.2 < ((a0.length : Nat) : Int)) <|
 .call (bz6 (a0.getD ((x687.2.2).toNat) default) x687.1 x687.2.2) [(0, 2), (1, 3), (2, 6)] fun y696 =>
 .grd (0 ≤ y696.2.2 ∧ y696.2.2 < ((a0.length : Nat) : Int)) <|
 .grd (0 ≤ y696.1 ∧ y696.1 < (((a0.getD ((y696.2.2).toNat) default).length : Nat) : Int)) <|
 .conv 23003 (czp 1 az3 ([((a0.getD ((y696.2.2).toNat) default).getD ((y696.1).toNat) default).to] : (List Int)) 3) <|
 .conv 23004 (fzt 1 az3 x687.2.1 ([((a0.getD ((y696.2.2).toNat) default).getD ((y696.1).toNat) default).to] : (List Int)) 3) <|
 .grd ((x687.2.1.length + ([((a0.getD ((y696.2.2).toNat) default).getD ((y696.1).toNat) default).to] : (List Int)).length) * 8 ≤ 140737488355328 ∧ (x687.2.1.length + ([((a0.getD ((y696.2.2).toNat) default).getD ((y696.1).toNat) default).to] : (List Int)).length) ≤ maxLen) <|
 .ret (.next (y696.2.1, (x687.2.1 ++ ([((a0.getD ((y696.2.2).toNat) default).getD ((y696.1).toNat) default).to] : (List Int))), ((a0.getD ((y696.2.2).toNat) default).getD ((y696.1).toNat) default).to)))
 (.ret (.out x687.2.1)))
 (y609, ([a1] : (List Int)), a1) [] fun y692 =>
 .ret (y692, (y609.getD ((a1).toNat) default).cost, true))
noncomputable def dzk (a0 : (List (List az8))) (a1 : Int) (a2 : Int) : CallS ((List Int) × Int × Bool) :=
  mkC [] hd Tryz.func53 (by kernel_rfl) (izs a0 a1 a2) 0 [.pure (encL 1 (encL 2 azu) a0), pz a1, pz a2] [] (fun r => .tup [.agg [.vec 0, pz r.2.1], .pure (.bool r.2.2)]) (fun r => [(0, vecO 1 az3 r.1 3)]) (by kernel_rfl)
noncomputable def azy (a0 : (List az1)) (a1 : (Int × Int)) : T (Int × Bool) :=
 .loop (fun (x52 : (Int × Int)) => ⟨[(0, .pure (encL 12 az5 a0)), (2, .func 80 [] []), (4, .ptr 0 0), (8, pz ((a0.length : Nat) : Int)), (9, pz x52.1), (10, pz x52.2)], [(0, .box [pz a1.1, pz a1.2])], [], 1⟩)
 (.exit 0) (fun (y57 : Int) => ⟨[(0, .pure (encL 12 az5 a0)), (2, .func 80 [] []), (4, .ptr 0 0), (8, pz ((a0.length : Nat) : Int)), (9, pz y57)], [(0, .box [pz a1.1, pz a1.2])], [], 1⟩)
 (fun x52 => .br (decide (x52.1 < x52.2))
 (.ok (0 ≤ (1 : Int)) (by decide) <|
 .name 4005 ((IntKind.i64.wrap ((IntKind.u64.wrap (IntKind.i64.wrap (x52.1 + x52.2))).fdiv (2 ^ (min (1 : Int).toNat 64))))) fun z59 =>
 .grd (0 ≤ z59 ∧ z59 < ((a0.length : Nat) : Int)) <|
 .call (dz8 (a0.getD ((z59).toNat) default) a1) [] fun y61 =>
 .br (decide (y61 < 0))
 (.ret (.next ((IntKind.i64.wrap (z59 + 1)), x52.2)))
 (.ret (.next (x52.1, z59))))
 (.ret (.out x52.1)))
 (0, ((a0.length : Nat) : Int)) [] fun y57 =>
 .br (decide (y57 < ((a0.length : Nat) : Int)))
 (.grd (0 ≤ y57 ∧ y57 < ((a0.length : Nat) : Int)) <|
 .call (dz8 (a0.getD ((y57).toNat) default) a1) [] fun y62 =>
 .ret (y57, (y62 == 0)))
 (.ret (y57, false))
noncomputable def azt (a0 : (List az1)) (a1 : (Int × Int)) : CallS (Int × Bool) :=
  mkC [] hd Tryz.func87 (by kernel_rfl) (azy a0 a1) 0 [.pure (encL 12 az5 a0), .pure (vze a1), .func 80 [] []] [] (fun r => .tup [pz r.1, .pure (.bool r.2)]) (fun _ => []) (by kernel_rfl)
noncomputable def kzi (a0 : aze) (a1 : Int) (a2 : Int) : T (Int × Bool) :=
 .call (azt a0.Edges ((min a1 a2), (max a1 a2))) [] fun y1 =>
 .ret (y1.1, y1.2)
noncomputable def kzh (a0 : aze) (a1 : Int) (a2 : Int) : CallS (Int × Bool) :=
  mkC [] hd Tryz.func55 (by kernel_rfl) (kzi a0 a1 a2) 0 [.pure (cz8 a0), pz a1, pz a2] [] (fun r => .tup [pz r.1, .pure (.bool r.2)]) (fun _ => []) (by kernel_rfl)
noncomputable def qz2 (a0 : aze) (a1 : Int) (a2 : Int) : T (Int × (List Int) × Int × Int) :=
 .cut 3 (fun (y17 : Bool) => ⟨[(1, pz a1), (2, pz a2), (3, .ptr 0 0), (6, .ptr 1 0), (7, .ptr 2 0), (8, .ptr 4 0), (29, .pure (.bool y17))], [(0, .box [.pure (encL 1 (encL 1 az3) a0.Points), .pure (encL 12 az5 a0.Edges)]), (1, .box [pz 0]), (2, .box [.vec 3, pz 0]), (3, .nilv), (4, .box [pz 0])], [.func 50 [] [.ptr 1 0, .ptr 2 0, .ptr 4 0]], 5⟩)
 (.call (ezo (⟨a0.Points, a0.Edges⟩ : aze)) [] fun y18 =>
 .br (!y18)
 (.ret (.out true))
 (.call (czm (⟨a0.Points, a0.Edges⟩ : aze) a1) [] fun y19 =>
 .br (!y19)
 (.ret (.out true))
 (.call (czm (⟨a0.Points, a0.Edges⟩ : aze) a2) [] fun y20 =>
 .ret (.out (!y20))))) fun y17 =>
 .br y17
 (.ret ((-1), nl, 0, 0))
 (.call (gz8 (⟨a0.Points, a0.Edges⟩ : aze) 1) [] fun y23 =>
 .call (dzk y23 a1 a2) [] fun y24 =>
 .br (!y24.2.2)
 (.ret ((-1), nl, 0, 2))
 (.unroll 2 <|
 .grd (0 ≤ (1 : Int) ∧ (1 : Int) ≤ ((y24.1.length : Nat) : Int) ∧ ((y24.1.length : Nat) : Int) ≤ ((y24.1.length : Nat) : Int)) <|
 .loop (fun (x45 : Int) => ⟨[(3, .ptr 0 0), (6, .ptr 1 0), (7, .ptr 2 0), (8, .ptr 4 0), (44, .view 3 1 ((1 : Int).toNat) ((((y24.1.length : Nat) : Int)).toNat - (1 : Int).toNat)), (45, pz ((((((y24.1.length : Nat) : Int)).toNat - (1 : Int).toNat) : Nat) : Int)), (46, pz x45)], [(0, .box [.pure (encL 1 (encL 1 az3) a0.Points), .pure (encL 12 az5 a0.Edges)]), (1, .box [pz 0]), (2, .box [.vec 3, pz y24.2.1]), (3, vecO 1 az3 y24.1 3), (4, .box [pz 0])], [.func 50 [] [.ptr 1 0, .ptr 2 0, .ptr 4 0]], 5⟩)
 (.exit 0) (fun (_ : U0) => ⟨[(6, .ptr 0 0), (7, .ptr 1 0), (8, .ptr 3 0)], [(0, .box [pz 0]), (1, .box [.vec 2, pz y24.2.1]), (2, vecO 1 az3 y24.1 3), (3, .box [pz 0])], [.func 50 [] [.ptr 0 0, .ptr 1 0, .ptr 3 0]], 4⟩)
 (fun x45 => .br (decide (x45 < ((((((y24.1.length : Nat) : Int)).toNat - (1 : Int).toNat) : Nat) : Int)))
 (.grd (0 ≤ x45 ∧ x45 < ((((((y24.1.length : Nat) : Int)).toNat - (1 : Int).toNat) : Nat) : Int)) <|
 .grd ((((1 : Int).toNat) + ((x45).toNat)) < y24.1.length) <|
 .grd (0 ≤ x45 ∧ x45 < ((y24.1.length : Nat) : Int)) <|
 .grd ((x45).toNat < y24.1.length) <|
 .call (kzh (⟨a0.Points, a0.Edges⟩ : aze) (y24.1.getD ((x45).toNat) default) (y24.1.getD (((1 : Int).toNat) + ((x45).toNat)) default)) [] fun y54 =>
 .grd (0 ≤ y54.1 ∧ y54.1 < ((a0.Edges.length : Nat) : Int)) <|
 .br (((a0.Edges.getD ((y54.1).toNat) default).State) == 0)
 (.ret (.fin (y54.1, y24.1, y24.2.1, 3)))
 (.ret (.next (IntKind.i64.wrap (x45 + 1)))))
 (.ret (.out .u)))
 0 [] fun _ =>
 .ret ((-1), y24.1, y24.2.1, 1)))
noncomputable def ezn (a0 : aze) (a1 : Int) (a2 : Int) : CallS (Int × (List Int) × Int × Int) :=
  mkC [⟨50, Qzt⟩] hd Tryz.func22 (by kernel_rfl) (qz2 a0 a1 a2) 0 [.pure (cz8 a0), pz a1, pz a2] [] (fun r => .tup [pz r.1, .agg [.vec 0, pz r.2.2.1], pz r.2.2.2]) (fun r => [(0, vecO 1 az3 r.2.1 3)]) (by kernel_rfl)
noncomputable def szg (a0 : (List (List Int))) (a1 : (List az1)) (a2 : Int) (a3 : Int) : CallS (Int × (List Int) × Int × Int) :=
  Tzy (ezn (⟨a0, a1⟩ : aze) a2 a3) 22 2 [.agg [.vec 0, .vec 1], pz a2, pz a3] [(0, vecO 1 (encL 1 az3) a0 59), (1, vecO 12 az5 a1 65)] rfl rfl rfl rfl (by kernel_rfl) rfl (fun _ => rfl) (fun _ => ⟨fun _ => rfl, trivial⟩)
noncomputable def dzd (a0 : (List (List Int))) : T (List (List Int)) :=
  (match a0 with
   | [] => .unroll 1 <|
   .grd (a0.length = 0) <|
   .both
    (.ret nl)
    (.conv 3000 (czp 1 (encL 1 az3) ([] : (List (List Int))) 59) <|
    .conv 3002 (fzt 1 (encL 1 az3) ([] : (List (List Int))) a0 59) <|
    .grd ((([] : (List (List Int))).length + a0.length) * 24 ≤ 140737488355328 ∧ (([] : (List (List Int))).length + a0.length) ≤ maxLen) <|
    .ret (([] : (List (List Int))) ++ a0))
   | _ :: _ => .grd (0 < a0.length) <|
   .conv 3000 (czp 1 (encL 1 az3) ([] : (List (List Int))) 59) <|
   .conv 3002 (fzt 1 (encL 1 az3) ([] : (List (List Int))) a0 59) <|
   .grd ((([] : (List (List Int))).length + a0.length) * 24 ≤ 140737488355328 ∧ (([] : (List (List Int))).length + a0.length) ≤ maxLen) <|
   .ret (([] : (List (List Int))) ++ a0))
noncomputable def fz4 (a0 : (List (List Int))) : CallS (List (List Int)) :=
  mkH [] hd Tryz.func119 (by kernel_rfl) (dzd a0) 1 [.vec 0] [(0, vecO 1 (encL 1 az3) a0 59)] (fun _ => .vec 1) (fun r => [(0, vecO 1 (encL 1 az3) a0 59), (1, vecO 1 (encL 1 az3) r 59)]) (by cases a0 <;> exact Ob.of_side (by kernel_rfl))
noncomputable def bzb (a0 : (List az1)) (a1 : Nat) (a2 : Nat) : T (List az1) :=
 .grd (0 < a0.length) <|
 .conv 3000 (czp 12 az5 ([] : (List az1)) 65) <|
 .conv 3002 (Qzj 12 az5 a0 ([] : (List az1)) 65 a2 a1 160) <|
 .grd ((([] : (List az1)).length + a2) * 160 ≤ 140737488355328 ∧ (([] : (List az1)).length + a2) ≤ maxLen ∧ a1 + a2 ≤ a0.length) <|
 .ret (([] : (List az1)) ++ ((a0.drop a1).take a2))
noncomputable def cz0 (a0 : (List az1)) (a1 : Nat) (a2 : Nat) : CallS (List az1) :=
  mkC [] hd Tryz.func120 (by kernel_rfl) (bzb a0 a1 a2) 1 [.view 0 12 a1 a2] [(0, vecO 12 az5 a0 65)] (fun _ => .vec 1) (fun r => [(0, vecO 12 az5 a0 65), (1, vecO 12 az5 r 65)]) (by kernel_rfl)
noncomputable def izq (a0 : (List (List Int))) (a1 : (List az1)) (a2 : Nat) (a3 : Nat) : T ((List (List Int)) × (List az1)) :=
 .call (fz4 a0) [(0, 0)] fun y3 =>
 .call (cz0 a1 a2 a3) [(0, 1)] fun y4 =>
 .loop (fun (x17 : ((List (List Int)) × Int)) => ⟨[(2, .ptr 2 0), (3, .vec 5), (4, .vec 6), (15, .vec 5), (16, pz ((y3.length : Nat) : Int)), (17, pz x17.2)], [(0, vecO 1 (encL 1 az3) a0 59), (1, vecO 12 az5 a1 65), (2, .box [.vec 3, .vec 4]), (3, .nilv), (4, .nilv), (5, vecO 1 (encL 1 az3) x17.1 59), (6, vecO 12 az5 y4 65)], [], 7⟩)
 (.exit 0) (fun (y20 : (List (List Int))) => ⟨[(2, .ptr 2 0), (3, .vec 5), (4, .vec 6)], [(0, vecO 1 (encL 1 az3) a0 59), (1, vecO 12 az5 a1 65), (2, .box [.vec 3, .vec 4]), (3, .nilv), (4, .nilv), (5, vecO 1 (encL 1 az3) y20 59), (6, vecO 12 az5 y4 65)], [], 7⟩)
 (fun x17 => .br (decide (x17.2 < ((y3.length : Nat) : Int)))
 (.grd (0 ≤ x17.2 ∧ x17.2 < ((x17.1.length : Nat) : Int)) <|
 .grd ((x17.2).toNat < x17.1.length) <|
 .call (bzn (x17.1.getD ((x17.2).toNat) default)) [] fun y22 =>
 .grd (0 ≤ x17.2 ∧ x17.2 < ((x17.1.length : Nat) : Int)) <|
 .conv 5005 (fzj 1 (encL 1 az3) x17.1 59 ((x17.2).toNat) y22) <|
 .grd ((x17.2).toNat < x17.1.length ∧ 0 ≤ (x17.2).toNat) <|
 .ret (.next ((x17.1.set ((x17.2).toNat) y22), (IntKind.i64.wrap (x17.2 + 1)))))
 (.ret (.out x17.1)))
 (y3, 0) [] fun y20 =>
 .loop (fun (x35 : ((List az1) × Int)) => ⟨[(2, .ptr 2 0), (3, .vec 5), (4, .vec 6), (28, .vec 6), (29, pz ((y4.length : Nat) : Int)), (30, pz x35.2)], [(0, vecO 1 (encL 1 az3) a0 59), (1, vecO 12 az5 a1 65), (2, .box [.vec 3, .vec 4]), (3, .nilv), (4, .nilv), (5, vecO 1 (encL 1 az3) y20 59), (6, vecO 12 az5 x35.1 65)], [], 7⟩)
 (.exit 2) (fun (y38 : (List az1)) => ⟨[(2, .ptr 2 0), (3, .vec 5), (4, .vec 6)], [(0, vecO 1 (encL 1 az3) a0 59), (1, vecO 12 az5 a1 65), (2, .box [.vec 3, .vec 4]), (3, .nilv), (4, .nilv), (5, vecO 1 (encL 1 az3) y20 59), (6, vecO 12 az5 y38 65)], [], 7⟩)
 (fun x35 => .br (decide (x35.2 < ((y4.length : Nat) : Int)))
 (.grd (0 ≤ x35.2 ∧ x35.2 < ((x35.1.length : Nat) : Int)) <|
 .grd ((x35.2).toNat < x35.1.length) <|
 .call (czz ((x35.1.getD ((x35.2).toNat) default).Proof)) [] fun y40 =>
 .grd (0 ≤ x35.2 ∧ x35.2 < ((x35.1.length : Nat) : Int)) <|
 .conv 10007 (fzj 12 az5 x35.1 65 ((x35.2).toNat) (⟨(x35.1.getD ((x35.2).toNat) default).U, (x35.1.getD ((x35.2).toNat) default).V, (x35.1.getD ((x35.2).toNat) default).Cost, (x35.1.getD ((x35.2).toNat) default).State, y40⟩ : az1)) <|
 .grd ((x35.2).toNat < x35.1.length ∧ 0 ≤ (x35.2).toNat) <|
 .ret (.next ((x35.1.set ((x35.2).toNat) (⟨(x35.1.getD ((x35.2).toNat) default).U, (x35.1.getD ((x35.2).toNat) default).V, (x35.1.getD ((x35.2).toNat) default).Cost, (x35.1.getD ((x35.2).toNat) default).State, y40⟩ : az1)), (IntKind.i64.wrap (x35.2 + 1)))))
 (.ret (.out x35.1)))
 (y4, 0) [] fun y38 =>
 .ret (y20, y38)
noncomputable def ozr (a0 : (List (List Int))) (a1 : (List az1)) (a2 : Nat) (a3 : Nat) : CallS ((List (List Int)) × (List az1)) :=
  mkC [] hd Tryz.func95 (by kernel_rfl) (izq a0 a1 a2 a3) 2 [.agg [.vec 0, .view 1 12 a2 a3]] [(0, vecO 1 (encL 1 az3) a0 59), (1, vecO 12 az5 a1 65)] (fun _ => .agg [.vec 2, .vec 3]) (fun r => [(0, vecO 1 (encL 1 az3) a0 59), (1, vecO 12 az5 a1 65), (2, vecO 1 (encL 1 az3) r.1 59), (3, vecO 12 az5 r.2 65)]) (by kernel_rfl)
set_option maxHeartbeats 8000000 in
set_option maxRecDepth 20000 in
noncomputable def kzf (a0 : (List (List Int))) (a1 : (List az1)) (a2 : Nat) (a3 : Nat) (a4 : Int) (a5 : azj) : T ((List (List Int)) × (List az1) × Bool) :=
 .call (ozr a0 a1 a2 a3) [(0, 0), (1, 1)] fun y2 =>
 .cut 1 (fun (y4 : Bool) => ⟨[(1, pz a4), (3, .ptr 2 0), (5, .ptr 3 0), (6, .ptr 4 0), (7, .ptr 7 0), (22, .pure (.bool y4))], [(0, vecO 1 (encL 1 az3) a0 59), (1, vecO 12 az5 a1 65), (2, .box [.vec 0, .view 1 12 a2 a3]), (3, .box [pz a5.Kind, .pure (encL 3 bz1 a5.Pieces), pz a5.At.Depth, pz a5.At.Index, .pure (encL 3 az2 a5.At.Normals), pz a5.Witness.Pair, .pure (encL 1 az3 a5.Witness.Left), .pure (encL 1 az3 a5.Witness.Right)]), (4, .box [.vec 5, .vec 6]), (5, vecO 1 (encL 1 az3) y2.1 59), (6, vecO 12 az5 y2.2 65), (7, .box [.ff])], [.func 94 [] [.ptr 4 0, .ptr 7 0]], 8⟩)
 (.br (decide (a4 < 0))
 (.ret (.out true))
 (.ret (.out (decide (a4 ≥ ((a3 : Nat) : Int)))))) fun y4 =>
 .br y4
 (.ret (y2.1, y2.2, false))
 (.grd (0 ≤ a4 ∧ a4 < ((a3 : Nat) : Int)) <|
 .grd ((a2 + ((a4).toNat)) < a1.length) <|
 .cut 0 (fun (y6 : Bool) => ⟨[(1, pz a4), (5, .ptr 2 0), (6, .ptr 3 0), (7, .ptr 6 0), (35, .pure (.bool y6))], [(0, vecO 1 (encL 1 az3) a0 59), (1, vecO 12 az5 a1 65), (2, .box [pz a5.Kind, .pure (encL 3 bz1 a5.Pieces), pz a5.At.Depth, pz a5.At.Index, .pure (encL 3 az2 a5.At.Normals), pz a5.Witness.Pair, .pure (encL 1 az3 a5.Witness.Left), .pure (encL 1 az3 a5.Witness.Right)]), (3, .box [.vec 4, .vec 5]), (4, vecO 1 (encL 1 az3) y2.1 59), (5, vecO 12 az5 y2.2 65), (6, .box [.ff])], [.func 94 [] [.ptr 3 0, .ptr 6 0]], 7⟩)
 (.br (((a1.getD (a2 + ((a4).toNat)) default).State) == 1)
 (.ret (.out true))
 (.ret (.out (((a1.getD (a2 + ((a4).toNat)) default).State) == 2)))) fun y6 =>
 .br y6
 (.ret (y2.1, y2.2, false))
 (.conv 8000 (czp 1 az3 ([1, 2, 3] : (List Int)) 3) <|
 .loop (fun (x43 : Int) => ⟨[(1, pz a4), (5, .ptr 2 0), (6, .ptr 3 0), (7, .ptr 6 0), (37, .vec 7), (38, pz ((([1, 2, 3] : (List Int)).length : Nat) : Int)), (39, pz x43)], [(0, vecO 1 (encL 1 az3) a0 59), (1, vecO 12 az5 a1 65), (2, .box [pz a5.Kind, .pure (encL 3 bz1 a5.Pieces), pz a5.At.Depth, pz a5.At.Index, .pure (encL 3 az2 a5.At.Normals), pz a5.Witness.Pair, .pure (encL 1 az3 a5.Witness.Left), .pure (encL 1 az3 a5.Witness.Right)]), (3, .box [.vec 4, .vec 5]), (4, vecO 1 (encL 1 az3) y2.1 59), (5, vecO 12 az5 y2.2 65), (6, .box [.ff]), (7, vecO 1 az3 ([1, 2, 3] : (List Int)) 3)], [.func 94 [] [.ptr 3 0, .ptr 6 0]], 8⟩)
 (.exit 0) (fun (_ : U0) => ⟨[(6, .ptr 2 0), (7, .ptr 5 0)], [(0, vecO 1 (encL 1 az3) a0 59), (1, vecO 12 az5 a1 65), (2, .box [.vec 3, .vec 4]), (3, vecO 1 (encL 1 az3) y2.1 59), (4, vecO 12 az5 y2.2 65), (5, .box [.ff])], [.func 94 [] [.ptr 2 0, .ptr 5 0]], 6⟩)
 (fun x43 => .br (decide (x43 < ((([1, 2, 3] : (List Int)).length : Nat) : Int)))
 (.grd (0 ≤ x43 ∧ x43 < ((([1, 2, 3] : (List Int)).length : Nat) : Int)) <|
 .grd ((x43).toNat < ([1, 2, 3] : (List Int)).length) <|
 .call (gz7 (([1, 2, 3] : (List Int)).getD ((x43).toNat) default)) [] fun y58 =>
 .br (y58 == a5.Kind)
 (.grd (0 ≤ a4 ∧ a4 < ((y2.2.length : Nat) : Int)) <|
 .conv 12006 (fzj 12 az5 y2.2 65 ((a4).toNat) (⟨(y2.2.getD ((a4).toNat) default).U, (y2.2.getD ((a4).toNat) default).V, (y2.2.getD ((a4).toNat) default).Cost, (([1, 2, 3] : (List Int)).getD ((x43).toNat) default), (y2.2.getD ((a4).toNat) default).Proof⟩ : az1)) <|
 .grd ((a4).toNat < y2.2.length ∧ 0 ≤ (a4).toNat) <|
 .call (czz a5) [] fun y60 =>
 .grd (0 ≤ a4 ∧ a4 < (((y2.2.set ((a4).toNat) (⟨(y2.2.getD ((a4).toNat) default).U, (y2.2.getD ((a4).toNat) default).V, (y2.2.getD ((a4).toNat) default).Cost, (([1, 2, 3] : (List Int)).getD ((x43).toNat) default), (y2.2.getD ((a4).toNat) default).Proof⟩ : az1)).length : Nat) : Int)) <|
 .conv 13007 (fzj 12 az5 (y2.2.set ((a4).toNat) (⟨(y2.2.getD ((a4).toNat) default).U, (y2.2.getD ((a4).toNat) default).V, (y2.2.getD ((a4).toNat) default).Cost, (([1, 2, 3] : (List Int)).getD ((x43).toNat) default), (y2.2.getD ((a4).toNat) default).Proof⟩ : az1)) 65 ((a4).toNat) (⟨((y2.2.set ((a4).toNat) (⟨(y2.2.getD ((a4).toNat) default).U, (y2.2.getD ((a4).toNat) default).V, (y2.2.getD ((a4).toNat) default).Cost, (([1, 2, 3] : (List Int)).getD ((x43).toNat) default), (y2.2.getD ((a4).toNat) default).Proof⟩ : az1)).getD ((a4).toNat) default).U, ((y2.2.set ((a4).toNat) (⟨(y2.2.getD ((a4).toNat) default).U, (y2.2.getD ((a4).toNat) default).V, (y2.2.getD ((a4).toNat) default).Cost, (([1, 2, 3] : (List Int)).getD ((x43).toNat) default), (y2.2.getD ((a4).toNat) default).Proof⟩ : az1)).getD ((a4).toNat) default).V, ((y2.2.set ((a4).toNat) (⟨(y2.2.getD ((a4).toNat) default).U, (y2.2.getD ((a4).toNat) default).V, (y2.2.getD ((a4).toNat) default).Cost, (([1, 2, 3] : (List Int)).getD ((x43).toNat) default), (y2.2.getD ((a4).toNat) default).Proof⟩ : az1)).getD ((a4).toNat) default).Cost, ((y2.2.set ((a4).toNat) (⟨(y2.2.getD ((a4).toNat) default).U, (y2.2.getD ((a4).toNat) default).V, (y2.2.getD ((a4).toNat) default).Cost, (([1, 2, 3] : (List Int)).getD ((x43).toNat) default), (y2.2.getD ((a4).toNat) default).Proof⟩ : az1)).getD ((a4).toNat) default).State, y60⟩ : az1)) <|
 .grd ((a4).toNat < (y2.2.set ((a4).toNat) (⟨(y2.2.getD ((a4).toNat) default).U, (y2.2.getD ((a4).toNat) default).V, (y2.2.getD ((a4).toNat) default).Cost, (([1, 2, 3] : (List Int)).getD ((x43).toNat) default), (y2.2.getD ((a4).toNat) default).Proof⟩ : az1)).length ∧ 0 ≤ (a4).toNat) <|
 .ret (.fin (y2.1, ((y2.2.set ((a4).toNat) (⟨(y2.2.getD ((a4).toNat) default).U, (y2.2.getD ((a4).toNat) default).V, (y2.2.getD ((a4).toNat) default).Cost, (([1, 2, 3] : (List Int)).getD ((x43).toNat) default), (y2.2.getD ((a4).toNat) default).Proof⟩ : az1)).set ((a4).toNat) (⟨((y2.2.set ((a4).toNat) (⟨(y2.2.getD ((a4).toNat) default).U, (y2.2.getD ((a4).toNat) default).V, (y2.2.getD ((a4).toNat) default).Cost, (([1, 2, 3] : (List Int)).getD ((x43).toNat) default), (y2.2.getD ((a4).toNat) default).Proof⟩ : az1)).getD ((a4).toNat) default).U, ((y2.2.set ((a4).toNat) (⟨(y2.2.getD ((a4).toNat) default).U, (y2.2.getD ((a4).toNat) default).V, (y2.2.getD ((a4).toNat) default).Cost, (([1, 2, 3] : (List Int)).getD ((x43).toNat) default), (y2.2.getD ((a4).toNat) default).Proof⟩ : az1)).getD ((a4).toNat) default).V, ((y2.2.set ((a4).toNat) (⟨(y2.2.getD ((a4).toNat) default).U, (y2.2.getD ((a4).toNat) default).V, (y2.2.getD ((a4).toNat) default).Cost, (([1, 2, 3] : (List Int)).getD ((x43).toNat) default), (y2.2.getD ((a4).toNat) default).Proof⟩ : az1)).getD ((a4).toNat) default).Cost, ((y2.2.set ((a4).toNat) (⟨(y2.2.getD ((a4).toNat) default).U, (y2.2.getD ((a4).toNat) default).V, (y2.2.getD ((a4).toNat) default).Cost, (([1, 2, 3] : (List Int)).getD ((x43).toNat) default), (y2.2.getD ((a4).toNat) default).Proof⟩ : az1)).getD ((a4).toNat) default).State, y60⟩ : az1)), true)))
 (.ret (.next (IntKind.i64.wrap (x43 + 1)))))
 (.ret (.out .u)))
 0 [] fun _ =>
 .ret (y2.1, y2.2, false)))
noncomputable def kze (a0 : (List (List Int))) (a1 : (List az1)) (a2 : Nat) (a3 : Nat) (a4 : Int) (a5 : azj) : CallS ((List (List Int)) × (List az1) × Bool) :=
  mkC [⟨94, Lz7⟩] hd Tryz.func66 (by kernel_rfl) (kzf a0 a1 a2 a3 a4 a5) 2 [.agg [.vec 0, .view 1 12 a2 a3], pz a4, .pure (dzh a5)] [(0, vecO 1 (encL 1 az3) a0 59), (1, vecO 12 az5 a1 65)] (fun r => .tup [.agg [.vec 2, .vec 3], .pure (.bool r.2.2)]) (fun r => [(0, vecO 1 (encL 1 az3) a0 59), (1, vecO 12 az5 a1 65), (2, vecO 1 (encL 1 az3) r.1 59), (3, vecO 12 az5 r.2.1 65)]) (by kernel_rfl)
noncomputable def tz9 (a0 : (List (List Int))) (a1 : (List az1)) (a2 : Nat) (a3 : Nat) : T ((List (List Int)) × (List az1)) :=
 .call (kze a0 a1 a2 a3 (-1) (⟨0, nl, (⟨0, 0, nl⟩ : azq), (⟨0, nl, nl⟩ : azz)⟩ : azj)) [(0, 0), (1, 1)] fun y2 =>
 .ret (y2.1, y2.2.1)
noncomputable def kzr (a0 : (List (List Int))) (a1 : (List az1)) (a2 : Nat) (a3 : Nat) : CallS ((List (List Int)) × (List az1)) :=
  mkC [] hd Tryz.func38 (by kernel_rfl) (tz9 a0 a1 a2 a3) 2 [.agg [.vec 0, .view 1 12 a2 a3]] [(0, vecO 1 (encL 1 az3) a0 59), (1, vecO 12 az5 a1 65)] (fun _ => .agg [.vec 2, .vec 3]) (fun r => [(0, vecO 1 (encL 1 az3) a0 59), (1, vecO 12 az5 a1 65), (2, vecO 1 (encL 1 az3) r.1 59), (3, vecO 12 az5 r.2 65)]) (by kernel_rfl)
noncomputable def hzu (a0 : (List (List Int))) (_a1 : (List az1)) (_a2 : Nat) (_a3 : Nat) (a4 : Int) : T Bool :=
 .br (decide (a4 ≥ 0))
 (.ret (decide (a4 < ((a0.length : Nat) : Int))))
 (.ret false)
noncomputable def hzt (a0 : (List (List Int))) (a1 : (List az1)) (a2 : Nat) (a3 : Nat) (a4 : Int) : CallS Bool :=
  mkC [] hd Tryz.func52 (by kernel_rfl) (hzu a0 a1 a2 a3 a4) 2 [.agg [.vec 0, .view 1 12 a2 a3], pz a4] [(0, vecO 1 (encL 1 az3) a0 59), (1, vecO 12 az5 a1 65)] (fun r => .pure (.bool r)) (fun _ => [(0, vecO 1 (encL 1 az3) a0 59), (1, vecO 12 az5 a1 65)]) (by kernel_rfl)
noncomputable def iz5 (a0 : azs) (a1 : Int) : T Bool :=
 .br (decide (a0.Lo ≤ a1))
 (.ret (decide (a1 ≤ a0.Hi)))
 (.ret false)
noncomputable def oze (a0 : azs) (a1 : Int) : CallS Bool :=
  mkC [] hd Tryz.func131 (by kernel_rfl) (iz5 a0 a1) 0 [.pure (azh a0), pz a1] [] (fun r => .pure (.bool r)) (fun _ => []) (by kernel_rfl)
noncomputable def czw (a0 : (List azs)) (a1 : (List Int)) : T Bool :=
 .br (((a0.length : Nat) : Int) != ((a1.length : Nat) : Int))
 (.ret false)
 (.loop (fun (x21 : Int) => ⟨[(1, .pure (encL 1 az3 a1)), (2, .func 131 [] []), (14, .pure (encL 12 azh a0)), (15, pz ((a0.length : Nat) : Int)), (16, pz x21)], [], [], 0⟩)
 (.exit 0) (fun (_ : U0) => ⟨[], [], [], 0⟩)
 (fun x21 => .br (decide (x21 < ((a0.length : Nat) : Int)))
 (.grd (0 ≤ x21 ∧ x21 < ((a0.length : Nat) : Int)) <|
 .grd (0 ≤ x21 ∧ x21 < ((a1.length : Nat) : Int)) <|
 .call (oze (a0.getD ((x21).toNat) default) (a1.getD ((x21).toNat) default)) [] fun y30 =>
 .br (!y30)
 (.ret (.fin false))
 (.ret (.next (IntKind.i64.wrap (x21 + 1)))))
 (.ret (.out .u)))
 0 [] fun _ =>
 .ret true)
noncomputable def ezj (a0 : (List azs)) (a1 : (List Int)) : CallS Bool :=
  mkC [] hd Tryz.func130 (by kernel_rfl) (czw a0 a1) 0 [.pure (encL 12 azh a0), .pure (encL 1 az3 a1), .func 131 [] []] [] (fun r => .pure (.bool r)) (fun _ => []) (by kernel_rfl)
noncomputable def lzf (a0 : azo) (a1 : (List Int)) : T Bool :=
 .call (pzw a0) [] fun y1 =>
 .br (y1 == 0)
 (.call (ezj a0.Joints a1) [] fun y2 =>
 .ret y2)
 (.ret false)
noncomputable def lze (a0 : azo) (a1 : (List Int)) : CallS Bool :=
  mkC [] hd Tryz.func103 (by kernel_rfl) (lzf a0 a1) 0 [.pure (czx a0), .pure (encL 1 az3 a1)] [] (fun r => .pure (.bool r)) (fun _ => []) (by kernel_rfl)
noncomputable def jzw (a0 : Int) : T Bool :=
 .br (decide (a0 < (-2147483648)))
 (.ret true)
 (.ret (decide (a0 > 2147483648)))
noncomputable def qzg (a0 : Int) : CallS Bool :=
  mkC [] hd Tryz.func195 (by kernel_rfl) (jzw a0) 0 [pz a0] [] (fun r => .pure (.bool r)) (fun _ => []) (by kernel_rfl)
noncomputable def dz3 (a0 : (List Int)) : T Int :=
 .loop (fun (x21 : Int) => ⟨[(0, .pure (encL 1 az3 a0)), (1, .func 195 [] []), (7, pz ((a0.length : Nat) : Int)), (8, pz x21)], [], [], 0⟩)
 (.exit 0) (fun (_ : U0) => ⟨[], [], [], 0⟩)
 (fun x21 => .br (decide (x21 < ((a0.length : Nat) : Int)))
 (.grd (0 ≤ x21 ∧ x21 < ((a0.length : Nat) : Int)) <|
 .call (qzg (a0.getD ((x21).toNat) default)) [] fun y30 =>
 .br y30
 (.ret (.fin x21))
 (.ret (.next (IntKind.i64.wrap (x21 + 1)))))
 (.ret (.out .u)))
 0 [] fun _ =>
 .ret (-1)
noncomputable def ezl (a0 : (List Int)) : CallS Int :=
  mkC [] hd Tryz.func232 (by kernel_rfl) (dz3 a0) 0 [.pure (encL 1 az3 a0), .func 195 [] []] [] (fun r => pz r) (fun _ => []) (by kernel_rfl)
noncomputable def czj (a0 : (List Int)) : T Bool :=
 .call (ezl a0) [] fun y1 =>
 .ret (decide (y1 ≥ 0))
noncomputable def ez1 (a0 : (List Int)) : CallS Bool :=
  mkC [] hd Tryz.func194 (by kernel_rfl) (czj a0) 0 [.pure (encL 1 az3 a0), .func 195 [] []] [] (fun r => .pure (.bool r)) (fun _ => []) (by kernel_rfl)
noncomputable def nz9 (a0 : (List Int)) : T Bool :=
 .call (ez1 a0) [] fun y1 =>
 .ret (!y1)
noncomputable def nz8 (a0 : (List Int)) : CallS Bool :=
  mkC [] hd Tryz.func164 (by kernel_rfl) (nz9 a0) 0 [.pure (encL 1 az3 a0)] [] (fun r => .pure (.bool r)) (fun _ => []) (by kernel_rfl)
noncomputable def iz6 (a0 : (List Int)) (a1 : (List Int)) (a2 : Int) : T Bool :=
 .br (((a0.length : Nat) : Int) == ((a1.length : Nat) : Int))
 (.call (nz8 a0) [] fun y1 =>
 .br y1
 (.call (nz8 a1) [] fun y2 =>
 .br y2
 (.br (decide (0 ≤ a2))
 (.ret (decide (a2 ≤ 20)))
 (.ret false))
 (.ret false))
 (.ret false))
 (.ret false)
noncomputable def ozf (a0 : (List Int)) (a1 : (List Int)) (a2 : Int) : CallS Bool :=
  mkC [] hd Tryz.func132 (by kernel_rfl) (iz6 a0 a1 a2) 0 [.pure (encL 1 az3 a0), .pure (encL 1 az3 a1), pz a2] [] (fun r => .pure (.bool r)) (fun _ => []) (by kernel_rfl)
noncomputable def pz8 (a0 : Int) (a1 : Int) : T Int :=
 .grd (0 ≤ a1) <|
 .ret (a0.fdiv (2 ^ (min (a1).toNat 64)))
noncomputable def pz7 (a0 : Int) (a1 : Int) : CallS Int :=
  mkC [] hd Tryz.func135 (by kernel_rfl) (pz8 a0 a1) 0 [pz a0, pz a1] [] (fun r => pz r) (fun _ => []) (by kernel_rfl)
noncomputable def jzv (a0 : Int) (a1 : Int) (a2 : Int) (a3 : Int) : T (az0 × Int × Int) :=
 .name 2003 ((min (IntKind.i64.wrap (a2 * (IntKind.i64.wrap (a1 - a0)))) (IntKind.i64.wrap ((IntKind.i64.wrap (a2 + 1)) * (IntKind.i64.wrap (a1 - a0)))))) fun z5 =>
 .call (pz7 z5 a3) [] fun y6 =>
 .name 2010 ((max (IntKind.i64.wrap (a2 * (IntKind.i64.wrap (a1 - a0)))) (IntKind.i64.wrap ((IntKind.i64.wrap (a2 + 1)) * (IntKind.i64.wrap (a1 - a0)))))) fun z7 =>
 .call (pz7 (IntKind.i64.wrap (0 - z7)) a3) [] fun y8 =>
 .ret ((⟨(IntKind.i64.wrap (a0 + y6)), (IntKind.i64.wrap (a0 - y8))⟩ : az0), a2, a3)
noncomputable def qzf (a0 : Int) (a1 : Int) (a2 : Int) (a3 : Int) : CallS (az0 × Int × Int) :=
  mkC [] hd Tryz.func134 (by kernel_rfl) (jzv a0 a1 a2 a3) 2 [pz a0, pz a1, .ptr 0 0, .ptr 1 0] [(0, .box [pz a2]), (1, .box [pz a3])] (fun r => .pure (azf r.1)) (fun r => [(0, .box [pz r.2.1]), (1, .box [pz r.2.2])]) (by kernel_rfl)
noncomputable def bzo (a0 : (List Int)) (a1 : (List Int)) (a2 : Int) (a3 : Int) : T ((List az0) × Int × Int) :=
 .conv 1002 (Ezt 2 azf 176 (((a0.length : Nat) : Int)).toNat (⟨0, 0⟩ : az0)) <|
 .grd (0 ≤ ((a0.length : Nat) : Int) ∧ ((a0.length : Nat) : Int) ≤ ((a0.length : Nat) : Int) ∧ ((a0.length : Nat) : Int) ≤ 9223372036854775807 ∧ ((a0.length : Nat) : Int) * 16 ≤ 140737488355328) <|
 .loop (fun (x13 : (Int × Int × (List az0) × Int)) => ⟨[(1, .pure (encL 1 az3 a1)), (2, .func 134 [] [.ptr 0 0, .ptr 1 0]), (7, .vec 2), (13, .pure (encL 1 az3 a0)), (14, pz ((a0.length : Nat) : Int)), (15, pz x13.2.2.2)], [(0, .box [pz x13.1]), (1, .box [pz x13.2.1]), (2, vecO 2 azf x13.2.2.1 176)], [], 3⟩)
 (.exit 0) (fun (y16 : (Int × Int × (List az0))) => ⟨[(7, .vec 2)], [(0, .box [pz y16.1]), (1, .box [pz y16.2.1]), (2, vecO 2 azf y16.2.2 176)], [], 3⟩)
 (fun x13 => .br (decide (x13.2.2.2 < ((a0.length : Nat) : Int)))
 (.grd (0 ≤ x13.2.2.2 ∧ x13.2.2.2 < ((a0.length : Nat) : Int)) <|
 .grd (0 ≤ x13.2.2.2 ∧ x13.2.2.2 < ((a1.length : Nat) : Int)) <|
 .call (qzf (a0.getD ((x13.2.2.2).toNat) default) (a1.getD ((x13.2.2.2).toNat) default) x13.1 x13.2.1) [(0, 0), (1, 1)] fun y18 =>
 .grd (0 ≤ x13.2.2.2 ∧ x13.2.2.2 < ((x13.2.2.1.length : Nat) : Int)) <|
 .conv 5010 (fzj 2 azf x13.2.2.1 176 ((x13.2.2.2).toNat) y18.1) <|
 .grd ((x13.2.2.2).toNat < x13.2.2.1.length ∧ 0 ≤ (x13.2.2.2).toNat) <|
 .ret (.next (y18.2.1, y18.2.2, (x13.2.2.1.set ((x13.2.2.2).toNat) y18.1), (IntKind.i64.wrap (x13.2.2.2 + 1)))))
 (.ret (.out (x13.1, x13.2.1, x13.2.2.1))))
 (a2, a3, (List.replicate (((a0.length : Nat) : Int)).toNat ((⟨0, 0⟩ : az0) : az0)), 0) [] fun y16 =>
 .ret (y16.2.2, y16.1, y16.2.1)
noncomputable def czt (a0 : (List Int)) (a1 : (List Int)) (a2 : Int) (a3 : Int) : CallS ((List az0) × Int × Int) :=
  mkC [] hd Tryz.func133 (by kernel_rfl) (bzo a0 a1 a2 a3) 2 [.pure (encL 1 az3 a0), .pure (encL 1 az3 a1), .func 134 [] [.ptr 0 0, .ptr 1 0]] [(0, .box [pz a2]), (1, .box [pz a3])] (fun r => .pure (encL 2 azf r.1)) (fun r => [(0, .box [pz r.2.1]), (1, .box [pz r.2.2])]) (by kernel_rfl)
noncomputable def nz7 (a0 : (List Int)) (a1 : (List Int)) (a2 : Int) (a3 : Int) : T ((List az0) × Bool) :=
 .cut 2 (fun (y7 : Bool) => ⟨[(0, .pure (encL 1 az3 a0)), (1, .pure (encL 1 az3 a1)), (6, .ptr 0 0), (7, .ptr 1 0), (24, .pure (.bool y7))], [(0, .box [pz a2]), (1, .box [pz a3])], [], 2⟩)
 (.call (ozf a0 a1 a2) [] fun y8 =>
 .br (!y8)
 (.ret (.out true))
 (.br (decide (a3 < 0))
 (.ret (.out true))
 (.grd (0 ≤ a2) <|
 .ret (.out (decide (a3 ≥ (IntKind.i64.wrap (1 * 2 ^ (min (a2).toNat 64))))))))) fun y7 =>
 .br y7
 (.ret (nl, false))
 (.call (czt a0 a1 a3 a2) [(0, 1), (1, 0)] fun y9 =>
 .ret (y9.1, true))
noncomputable def tzd (a0 : (List Int)) (a1 : (List Int)) (a2 : Int) (a3 : Int) : CallS ((List az0) × Bool) :=
  mkC [] hd Tryz.func105 (by kernel_rfl) (nz7 a0 a1 a2 a3) 0 [.pure (encL 1 az3 a0), .pure (encL 1 az3 a1), pz a2, pz a3] [] (fun r => .tup [.pure (encL 2 azf r.1), .pure (.bool r.2)]) (fun _ => []) (by kernel_rfl)
noncomputable def jzy (a0 : az0) : T Bool :=
 .br (decide ((-2147483648) ≤ a0.Lo))
 (.br (decide (a0.Lo ≤ a0.Hi))
 (.ret (decide (a0.Hi ≤ 2147483648)))
 (.ret false))
 (.ret false)
noncomputable def bze (a0 : az0) : CallS Bool :=
  mkC [] hd Tryz.func165 (by kernel_rfl) (jzy a0) 0 [.pure (azf a0)] [] (fun r => .pure (.bool r)) (fun _ => []) (by kernel_rfl)
noncomputable def kzg (a0 : azo) : T (List Int) :=
 .conv 1004 (Ezt 1 az3 3 ((IntKind.i64.wrap (((a0.Joints.length : Nat) : Int) + 1))).toNat 0) <|
 .grd (0 ≤ (IntKind.i64.wrap (((a0.Joints.length : Nat) : Int) + 1)) ∧ (IntKind.i64.wrap (((a0.Joints.length : Nat) : Int) + 1)) ≤ (IntKind.i64.wrap (((a0.Joints.length : Nat) : Int) + 1)) ∧ (IntKind.i64.wrap (((a0.Joints.length : Nat) : Int) + 1)) ≤ 9223372036854775807 ∧ (IntKind.i64.wrap (((a0.Joints.length : Nat) : Int) + 1)) * 8 ≤ 140737488355328) <|
 .grd (0 ≤ (0 : Int) ∧ (0 : Int) < (((List.replicate ((IntKind.i64.wrap (((a0.Joints.length : Nat) : Int) + 1))).toNat (0 : Int)).length : Nat) : Int)) <|
 .conv 2002 (fzj 1 az3 (List.replicate ((IntKind.i64.wrap (((a0.Joints.length : Nat) : Int) + 1))).toNat (0 : Int)) 3 ((0 : Int).toNat) (-1)) <|
 .grd ((0 : Int).toNat < (List.replicate ((IntKind.i64.wrap (((a0.Joints.length : Nat) : Int) + 1))).toNat (0 : Int)).length ∧ 0 ≤ (0 : Int).toNat) <|
 .loop (fun (x51 : ((List Int) × Int)) => ⟨[(3, .vec 0), (14, .pure (encL 12 azh a0.Joints)), (15, pz ((a0.Joints.length : Nat) : Int)), (16, pz x51.2)], [(0, vecO 1 az3 x51.1 3)], [], 1⟩)
 (.exit 0) (fun (y56 : (List Int)) => ⟨[(3, .vec 0)], [(0, vecO 1 az3 y56 3)], [], 1⟩)
 (fun x51 => .br (decide (x51.2 < ((a0.Joints.length : Nat) : Int)))
 (.cut 0 (fun (y59 : (List Int)) => ⟨[(3, .vec 0), (14, .pure (encL 12 azh a0.Joints)), (15, pz ((a0.Joints.length : Nat) : Int)), (16, pz x51.2)], [(0, vecO 1 az3 y59 3)], [], 1⟩)
 (.grd (0 ≤ x51.2 ∧ x51.2 < ((a0.Joints.length : Nat) : Int)) <|
 .grd (0 ≤ (IntKind.i64.wrap (x51.2 + 1)) ∧ (IntKind.i64.wrap (x51.2 + 1)) < ((x51.1.length : Nat) : Int)) <|
 .conv 6005 (fzj 1 az3 x51.1 3 (((IntKind.i64.wrap (x51.2 + 1))).toNat) x51.2) <|
 .grd (((IntKind.i64.wrap (x51.2 + 1))).toNat < x51.1.length ∧ 0 ≤ ((IntKind.i64.wrap (x51.2 + 1))).toNat) <|
 .br (((a0.Joints.getD ((x51.2).toNat) default).Lo) == ((a0.Joints.getD ((x51.2).toNat) default).Hi))
 (.grd (0 ≤ (IntKind.i64.wrap (((a0.Joints.getD ((x51.2).toNat) default).Parent) + 1)) ∧ (IntKind.i64.wrap (((a0.Joints.getD ((x51.2).toNat) default).Parent) + 1)) < (((x51.1.set (((IntKind.i64.wrap (x51.2 + 1))).toNat) x51.2).length : Nat) : Int)) <|
 .grd (((IntKind.i64.wrap (((a0.Joints.getD ((x51.2).toNat) default).Parent) + 1))).toNat < (x51.1.set (((IntKind.i64.wrap (x51.2 + 1))).toNat) x51.2).length) <|
 .name 8008 (((x51.1.set (((IntKind.i64.wrap (x51.2 + 1))).toNat) x51.2).getD (((IntKind.i64.wrap (((a0.Joints.getD ((x51.2).toNat) default).Parent) + 1))).toNat) default)) fun z60 =>
 .grd (0 ≤ (IntKind.i64.wrap (x51.2 + 1)) ∧ (IntKind.i64.wrap (x51.2 + 1)) < (((x51.1.set (((IntKind.i64.wrap (x51.2 + 1))).toNat) x51.2).length : Nat) : Int)) <|
 .conv 8010 (fzj 1 az3 (x51.1.set (((IntKind.i64.wrap (x51.2 + 1))).toNat) x51.2) 3 (((IntKind.i64.wrap (x51.2 + 1))).toNat) z60) <|
 .grd (((IntKind.i64.wrap (x51.2 + 1))).toNat < (x51.1.set (((IntKind.i64.wrap (x51.2 + 1))).toNat) x51.2).length ∧ 0 ≤ ((IntKind.i64.wrap (x51.2 + 1))).toNat) <|
 .ret (.out ((x51.1.set (((IntKind.i64.wrap (x51.2 + 1))).toNat) x51.2).set (((IntKind.i64.wrap (x51.2 + 1))).toNat) z60)))
 (.ret (.out (x51.1.set (((IntKind.i64.wrap (x51.2 + 1))).toNat) x51.2)))) fun y59 =>
 .ret (.next (y59, (IntKind.i64.wrap (x51.2 + 1)))))
 (.ret (.out x51.1)))
 (((List.replicate ((IntKind.i64.wrap (((a0.Joints.length : Nat) : Int) + 1))).toNat (0 : Int)).set ((0 : Int).toNat) (-1)), 0) [] fun y56 =>
 .ret y56
noncomputable def qzv (a0 : azo) : CallS (List Int) :=
  mkC [] hd Tryz.func196 (by kernel_rfl) (kzg a0) 0 [.pure (czx a0)] [] (fun r => .pure (encL 1 az3 r)) (fun _ => []) (by kernel_rfl)
noncomputable def mz0 (a0 : azn) (a1 : Int) (a2 : Int) : T Bool :=
 .loop (fun (x13 : Int) => ⟨[(1, pz a1), (2, pz a2), (10, .pure (encL 2 bzp a0.Skips)), (11, pz ((a0.Skips.length : Nat) : Int)), (12, pz x13)], [], [], 0⟩)
 (.exit 0) (fun (_ : U0) => ⟨[], [], [], 0⟩)
 (fun x13 => .br (decide (x13 < ((a0.Skips.length : Nat) : Int)))
 (.grd (0 ≤ x13 ∧ x13 < ((a0.Skips.length : Nat) : Int)) <|
 .cut 0 (fun (y18 : Bool) => ⟨[(1, pz a1), (2, pz a2), (10, .pure (encL 2 bzp a0.Skips)), (11, pz ((a0.Skips.length : Nat) : Int)), (12, pz x13), (27, .pure (.bool y18))], [], [], 0⟩)
 (.br ((((a0.Skips.getD ((x13).toNat) default).A) == a1) && ((((a0.Skips.getD ((x13).toNat) default).B) == a2) && true))
 (.ret (.out true))
 (.ret (.out ((((a0.Skips.getD ((x13).toNat) default).A) == a2) && ((((a0.Skips.getD ((x13).toNat) default).B) == a1) && true))))) fun y18 =>
 .br y18
 (.ret (.fin true))
 (.ret (.next (IntKind.i64.wrap (x13 + 1)))))
 (.ret (.out .u)))
 0 [] fun _ =>
 .ret false
noncomputable def sze (a0 : azn) (a1 : Int) (a2 : Int) : CallS Bool :=
  mkC [] hd Tryz.func197 (by kernel_rfl) (mz0 a0 a1 a2) 0 [.pure (ezr a0), pz a1, pz a2] [] (fun r => .pure (.bool r)) (fun _ => []) (by kernel_rfl)
noncomputable def qz1 (a0 : azn) : T (List dz4) :=
 .call (dzb a0) [] fun y700 =>
 .br (y700 != 0)
 (.ret nl)
 (.call (qzv a0.Robot) [] fun y702 =>
 .loop (fun (x1187 : ((List dz4) × Int)) => ⟨[(1, .ptr 0 0), (3, .pure (encL 1 az3 y702)), (4, .vec 1), (17, .pure (encL 3 azv a0.Shapes)), (18, pz ((a0.Shapes.length : Nat) : Int)), (19, pz x1187.2)], [(0, .box [.pure (encL 12 azh a0.Robot.Joints), .pure (encL 5 azl a0.Robot.Masses), .pure (encL 3 azv a0.Shapes), .pure (encL 2 bzp a0.Skips)]), (1, vecO 2 gz9 x1187.1 225)], [], 2⟩)
 (.exit 0) (fun (y1308 : (List dz4)) => ⟨[(4, .vec 0)], [(0, vecO 2 gz9 y1308 225)], [], 1⟩)
 (fun x1187 => .br (decide (x1187.2 < ((a0.Shapes.length : Nat) : Int)))
 (.grd (0 ≤ x1187.2 ∧ x1187.2 < ((a0.Shapes.length : Nat) : Int)) <|
 .loop (fun (x1389 : ((List dz4) × Int)) => ⟨[(1, .ptr 0 0), (3, .pure (encL 1 az3 y702)), (4, .vec 1), (5, pz x1187.2), (6, .ptr 2 0), (7, pz x1389.2), (17, .pure (encL 3 azv a0.Shapes)), (18, pz ((a0.Shapes.length : Nat) : Int)), (19, pz x1187.2)], [(0, .box [.pure (encL 12 azh a0.Robot.Joints), .pure (encL 5 azl a0.Robot.Masses), .pure (encL 3 azv a0.Shapes), .pure (encL 2 bzp a0.Skips)]), (1, vecO 2 gz9 x1389.1 225), (2, .box [pz ((a0.Shapes.getD ((x1187.2).toNat) default).Link), pz ((a0.Shapes.getD ((x1187.2).toNat) default).Radius), .pure (encL 3 az2 ((a0.Shapes.getD ((x1187.2).toNat) default).Points))])], [], 3⟩)
 (.exit 2) (fun (y1409 : (List dz4)) => ⟨[(1, .ptr 0 0), (3, .pure (encL 1 az3 y702)), (4, .vec 1), (17, .pure (encL 3 azv a0.Shapes)), (18, pz ((a0.Shapes.length : Nat) : Int)), (19, pz x1187.2)], [(0, .box [.pure (encL 12 azh a0.Robot.Joints), .pure (encL 5 azl a0.Robot.Masses), .pure (encL 3 azv a0.Shapes), .pure (encL 2 bzp a0.Skips)]), (1, vecO 2 gz9 y1409 225)], [], 2⟩)
 (fun x1389 => .br (decide (x1389.2 < ((a0.Shapes.length : Nat) : Int)))
 (.cut 0 (fun (y1422 : (List dz4)) => ⟨[(1, .ptr 0 0), (3, .pure (encL 1 az3 y702)), (4, .vec 1), (5, pz x1187.2), (6, .ptr 2 0), (7, pz x1389.2), (17, .pure (encL 3 azv a0.Shapes)), (18, pz ((a0.Shapes.length : Nat) : Int)), (19, pz x1187.2)], [(0, .box [.pure (encL 12 azh a0.Robot.Joints), .pure (encL 5 azl a0.Robot.Masses), .pure (encL 3 azv a0.Shapes), .pure (encL 2 bzp a0.Skips)]), (1, vecO 2 gz9 y1422 225), (2, .box [pz ((a0.Shapes.getD ((x1187.2).toNat) default).Link), pz ((a0.Shapes.getD ((x1187.2).toNat) default).Radius), .pure (encL 3 az2 ((a0.Shapes.getD ((x1187.2).toNat) default).Points))])], [], 3⟩)
 (.grd (0 ≤ x1389.2 ∧ x1389.2 < ((a0.Shapes.length : Nat) : Int)) <|
 .grd (0 ≤ (IntKind.i64.wrap (((a0.Shapes.getD ((x1187.2).toNat) default).Link) + 1)) ∧ (IntKind.i64.wrap (((a0.Shapes.getD ((x1187.2).toNat) default).Link) + 1)) < ((y702.length : Nat) : Int)) <|
 .grd (0 ≤ (IntKind.i64.wrap (((a0.Shapes.getD ((x1389.2).toNat) default).Link) + 1)) ∧ (IntKind.i64.wrap (((a0.Shapes.getD ((x1389.2).toNat) default).Link) + 1)) < ((y702.length : Nat) : Int)) <|
 .name 12011 ((y702.getD (((IntKind.i64.wrap (((a0.Shapes.getD ((x1389.2).toNat) default).Link) + 1))).toNat) default)) fun z1424 =>
 .cut 0 (fun (y1427 : Bool) => ⟨[(1, .ptr 0 0), (3, .pure (encL 1 az3 y702)), (4, .vec 1), (5, pz x1187.2), (6, .ptr 2 0), (7, pz x1389.2), (17, .pure (encL 3 azv a0.Shapes)), (18, pz ((a0.Shapes.length : Nat) : Int)), (19, pz x1187.2), (61, .pure (.bool y1427))], [(0, .box [.pure (encL 12 azh a0.Robot.Joints), .pure (encL 5 azl a0.Robot.Masses), .pure (encL 3 azv a0.Shapes), .pure (encL 2 bzp a0.Skips)]), (1, vecO 2 gz9 x1389.1 225), (2, .box [pz ((a0.Shapes.getD ((x1187.2).toNat) default).Link), pz ((a0.Shapes.getD ((x1187.2).toNat) default).Radius), .pure (encL 3 az2 ((a0.Shapes.getD ((x1187.2).toNat) default).Points))])], [], 3⟩)
 (.br (!((y702.getD (((IntKind.i64.wrap (((a0.Shapes.getD ((x1187.2).toNat) default).Link) + 1))).toNat) default) == z1424))
 (.call (sze a0 ((a0.Shapes.getD ((x1187.2).toNat) default).Link) ((a0.Shapes.getD ((x1389.2).toNat) default).Link)) [] fun y1428 =>
 .ret (.out (!y1428)))
 (.ret (.out false))) fun y1427 =>
 .br y1427
 (.conv 14004 (czp 2 gz9 ([(⟨x1187.2, x1389.2⟩ : dz4)] : (List dz4)) 225) <|
 .conv 14005 (fzt 2 gz9 x1389.1 ([(⟨x1187.2, x1389.2⟩ : dz4)] : (List dz4)) 225) <|
 .grd ((x1389.1.length + ([(⟨x1187.2, x1389.2⟩ : dz4)] : (List dz4)).length) * 16 ≤ 140737488355328 ∧ (x1389.1.length + ([(⟨x1187.2, x1389.2⟩ : dz4)] : (List dz4)).length) ≤ maxLen) <|
 .ret (.out (x1389.1 ++ ([(⟨x1187.2, x1389.2⟩ : dz4)] : (List dz4)))))
 (.ret (.out x1389.1))) fun y1422 =>
 .ret (.next (y1422, (IntKind.i64.wrap (x1389.2 + 1)))))
 (.ret (.out x1389.1)))
 (x1187.1, (IntKind.i64.wrap (x1187.2 + 1))) [] fun y1409 =>
 .ret (.next (y1409, (IntKind.i64.wrap (x1187.2 + 1)))))
 (.ret (.out x1187.1)))
 (nl, 0) [] fun y1308 =>
 .ret y1308)
noncomputable def wz6 (a0 : azn) : CallS (List dz4) :=
  mkC [] hd Tryz.func166 (by kernel_rfl) (qz1 a0) 0 [.pure (ezr a0)] [] (fun r => .pure (encL 2 gz9 r)) (fun _ => []) (by kernel_rfl)
noncomputable def fzu (a0 : az0) : T Bool :=
 .call (bze a0) [] fun y1 =>
 .ret (!y1)
noncomputable def kzp (a0 : az0) : CallS Bool :=
  mkC [] hd Tryz.func234 (by kernel_rfl) (fzu a0) 0 [.pure (azf a0)] [] (fun r => .pure (.bool r)) (fun _ => []) (by kernel_rfl)
noncomputable def bzi (a0 : (List az0)) : T Int :=
 .loop (fun (x21 : Int) => ⟨[(0, .pure (encL 2 azf a0)), (1, .func 234 [] []), (7, pz ((a0.length : Nat) : Int)), (8, pz x21)], [], [], 0⟩)
 (.exit 0) (fun (_ : U0) => ⟨[], [], [], 0⟩)
 (fun x21 => .br (decide (x21 < ((a0.length : Nat) : Int)))
 (.grd (0 ≤ x21 ∧ x21 < ((a0.length : Nat) : Int)) <|
 .call (kzp (a0.getD ((x21).toNat) default)) [] fun y30 =>
 .br y30
 (.ret (.fin x21))
 (.ret (.next (IntKind.i64.wrap (x21 + 1)))))
 (.ret (.out .u)))
 0 [] fun _ =>
 .ret (-1)
noncomputable def czd (a0 : (List az0)) : CallS Int :=
  mkC [] hd Tryz.func259 (by kernel_rfl) (bzi a0) 0 [.pure (encL 2 azf a0), .func 234 [] []] [] (fun r => pz r) (fun _ => []) (by kernel_rfl)
noncomputable def bzc (a0 : (List az0)) : T Bool :=
 .call (czd a0) [] fun y1 =>
 .ret (decide (y1 ≥ 0))
noncomputable def cz4 (a0 : (List az0)) : CallS Bool :=
  mkC [] hd Tryz.func233 (by kernel_rfl) (bzc a0) 0 [.pure (encL 2 azf a0), .func 234 [] []] [] (fun r => .pure (.bool r)) (fun _ => []) (by kernel_rfl)
noncomputable def hz3 (a0 : azo) (a1 : (List az0)) : T Bool :=
 .br (((a1.length : Nat) : Int) == ((a0.Joints.length : Nat) : Int))
 (.call (cz4 a1) [] fun y1 =>
 .ret (!y1))
 (.ret false)
noncomputable def mzk (a0 : azo) (a1 : (List az0)) : CallS Bool :=
  mkC [] hd Tryz.func198 (by kernel_rfl) (hz3 a0 a1) 0 [.pure (czx a0), .pure (encL 2 azf a1)] [] (fun r => .pure (.bool r)) (fun _ => []) (by kernel_rfl)
noncomputable def pzc (a0 : Int) : T Int :=
 .ret (min (max a0 (-2147483648)) 2147483648)
noncomputable def pzb (a0 : Int) : CallS Int :=
  mkC [] hd Tryz.func295 (by kernel_rfl) (pzc a0) 0 [pz a0] [] (fun r => pz r) (fun _ => []) (by kernel_rfl)
noncomputable def gzz (a0 : Int) (a1 : Int) : T az0 :=
 .call (pzb a0) [] fun y1 =>
 .call (pzb a1) [] fun y2 =>
 .ret (⟨y1, y2⟩ : az0)
noncomputable def fz2 (a0 : Int) (a1 : Int) : CallS az0 :=
  mkC [] hd Tryz.func283 (by kernel_rfl) (gzz a0 a1) 0 [pz a0, pz a1] [] (fun r => .pure (azf r)) (fun _ => []) (by kernel_rfl)
noncomputable def pzf (a0 : Int) : T az0 :=
 .call (fz2 a0 a0) [] fun y1 =>
 .ret y1
noncomputable def bzw (a0 : Int) : CallS az0 :=
  mkC [] hd Tryz.func264 (by kernel_rfl) (pzf a0) 0 [pz a0] [] (fun r => .pure (azf r)) (fun _ => []) (by kernel_rfl)
noncomputable def nzn (a0 : (Int × Int × Int)) : T (az0 × az0 × az0) :=
 .unroll 4 <|
 .known true <|
 .ix 0 3 rfl <|
 .call (bzw a0.1) [] fun y16 =>
 .ix 0 3 rfl <|
 .lit 6000 (1) <|
 .known true <|
 .ix 1 3 rfl <|
 .call (bzw a0.2.1) [] fun y18 =>
 .ix 1 3 rfl <|
 .lit 6000 (2) <|
 .known true <|
 .ix 2 3 rfl <|
 .call (bzw a0.2.2) [] fun y20 =>
 .ix 2 3 rfl <|
 .lit 6000 (3) <|
 .known false <|
 .ret (y16, y18, y20)
noncomputable def jz5 (a0 : (Int × Int × Int)) : CallS (az0 × az0 × az0) :=
  mkC [] hd Tryz.func241 (by kernel_rfl) (nzn a0) 0 [.pure (az2 a0)] [] (fun r => .pure (az4 r)) (fun _ => []) (by kernel_rfl)
noncomputable def matrix_Identity_T : T ((az0 × az0 × az0) × (az0 × az0 × az0) × (az0 × az0 × az0)) :=
 .unroll 4 <|
 .known true <|
 .call (bzw 65536) [] fun y18 =>
 .ix 0 3 rfl <|
 .ix 0 3 rfl <|
 .lit 6000 (1) <|
 .known true <|
 .call (bzw 65536) [] fun y20 =>
 .ix 1 3 rfl <|
 .ix 1 3 rfl <|
 .lit 6000 (2) <|
 .known true <|
 .call (bzw 65536) [] fun y22 =>
 .ix 2 3 rfl <|
 .ix 2 3 rfl <|
 .lit 6000 (3) <|
 .known false <|
 .ret ((y18, (⟨0, 0⟩ : az0), (⟨0, 0⟩ : az0)), ((⟨0, 0⟩ : az0), y20, (⟨0, 0⟩ : az0)), ((⟨0, 0⟩ : az0), (⟨0, 0⟩ : az0), y22))
noncomputable def matrix_Identity_C : CallS ((az0 × az0 × az0) × (az0 × az0 × az0) × (az0 × az0 × az0)) :=
  mkC [] hd Tryz.func263 (by kernel_rfl) (matrix_Identity_T) 0 [] [] (fun r => .pure (czk r)) (fun _ => []) (by kernel_rfl)
noncomputable def rzy (a0 : (az0 × az0 × az0)) : T bz9 :=
 .call (matrix_Identity_C) [] fun y1 =>
 .ret (⟨y1, a0⟩ : bz9)
noncomputable def mzq (a0 : (az0 × az0 × az0)) : CallS bz9 :=
  mkC [] hd Tryz.func237 (by kernel_rfl) (rzy a0) 0 [.pure (az4 a0)] [] (fun r => .pure (czn r)) (fun _ => []) (by kernel_rfl)
noncomputable def ezc (a0 : Int) : T Int :=
 .cut 3 (fun (y3 : Bool) => ⟨[(0, pz a0), (2, .ptr 0 0), (3, pz a0), (4, .pure (.bool y3))], [(0, .box [.any])], [], 1⟩)
 (.br (a0 == 1)
 (.ret (.out (a0 == 1)))
 (.br (a0 == 2)
 (.ret (.out (a0 == 2)))
 (.ret (.out (a0 == 3))))) fun y3 =>
 .br y3
 (.ret (IntKind.i64.wrap (a0 - 1)))
 (.cut 0 (fun (y4 : Bool) => ⟨[(0, pz a0), (2, .ptr 0 0), (12, .pure (.bool y4))], [(0, .box [.any])], [], 1⟩)
 (.br (a0 == 4)
 (.ret (.out (a0 == 4)))
 (.br (a0 == 5)
 (.ret (.out (a0 == 5)))
 (.ret (.out (a0 == 6))))) fun y4 =>
 .br y4
 (.stop)
 (.stop))
noncomputable def ezb (a0 : Int) : CallS Int :=
  mkC [] hd Tryz.func260 (by kernel_rfl) (ezc a0) 0 [pz a0] [] (fun r => .agg [.func 274 [pz r] []]) (fun _ => []) (by kernel_rfl)
noncomputable def eze (a0 : Int) : T Int :=
 .cut 3 (fun (y3 : Bool) => ⟨[(0, pz a0), (2, .ptr 0 0), (3, pz a0), (4, .pure (.bool y3))], [(0, .box [.any])], [], 1⟩)
 (.br (a0 == 1)
 (.ret (.out (a0 == 1)))
 (.br (a0 == 2)
 (.ret (.out (a0 == 2)))
 (.ret (.out (a0 == 3))))) fun y3 =>
 .br y3
 (.stop)
 (.cut 0 (fun (y4 : Bool) => ⟨[(0, pz a0), (2, .ptr 0 0), (12, .pure (.bool y4))], [(0, .box [.any])], [], 1⟩)
 (.br (a0 == 4)
 (.ret (.out (a0 == 4)))
 (.br (a0 == 5)
 (.ret (.out (a0 == 5)))
 (.ret (.out (a0 == 6))))) fun y4 =>
 .br y4
 (.ret (IntKind.i64.wrap (a0 - 4)))
 (.stop))
noncomputable def ezd (a0 : Int) : CallS Int :=
  mkC [] hd Tryz.func260 (by kernel_rfl) (eze a0) 0 [pz a0] [] (fun r => .agg [.func 275 [pz r] []]) (fun _ => []) (by kernel_rfl)
noncomputable def ezf (a0 : Int) : T Int :=
 .cut 3 (fun (y3 : Bool) => ⟨[(0, pz a0), (2, .ptr 0 0), (3, pz a0), (4, .pure (.bool y3))], [(0, .box [.any])], [], 1⟩)
 (.br (a0 == 1)
 (.ret (.out (a0 == 1)))
 (.br (a0 == 2)
 (.ret (.out (a0 == 2)))
 (.ret (.out (a0 == 3))))) fun y3 =>
 .br y3
 (.stop)
 (.cut 0 (fun (y4 : Bool) => ⟨[(0, pz a0), (2, .ptr 0 0), (12, .pure (.bool y4))], [(0, .box [.any])], [], 1⟩)
 (.br (a0 == 4)
 (.ret (.out (a0 == 4)))
 (.br (a0 == 5)
 (.ret (.out (a0 == 5)))
 (.ret (.out (a0 == 6))))) fun y4 =>
 .br y4
 (.stop)
 (.ret 0))
noncomputable def gzm (a0 : Int) : CallS Int :=
  mkC [] hd Tryz.func260 (by kernel_rfl) (ezf a0) 0 [pz a0] [] (fun r => .agg [.func 276 [pz r] []]) (fun _ => []) (by kernel_rfl)
noncomputable def pose_still_T : T (az0 × az0 × az0) :=
 .call (jz5 (0, 0, 0)) [] fun y1 =>
 .ret y1
noncomputable def pose_still_C : CallS (az0 × az0 × az0) :=
  mkC [] hd Tryz.func238 (by kernel_rfl) (pose_still_T) 0 [] [] (fun r => .pure (az4 r)) (fun _ => []) (by kernel_rfl)
noncomputable def pose_Identity_T : T bz9 :=
 .call (pose_still_C) [] fun y1 =>
 .call (mzq y1) [] fun y2 =>
 .ret y2
noncomputable def pose_Identity_C : CallS bz9 :=
  mkC [] hd Tryz.func200 (by kernel_rfl) (pose_Identity_T) 0 [] [] (fun r => .pure (czn r)) (fun _ => []) (by kernel_rfl)
noncomputable def uz8 (_a0 : Int) (_a1 : az0) : T bz9 :=
 .call (pose_Identity_C) [] fun y1 =>
 .ret y1
noncomputable def zz5 (a0 : Int) (a1 : az0) : CallS bz9 :=
  mkC [] hd Tryz.func276 (by kernel_rfl) (uz8 a0 a1) 0 [pz a0, .pure (azf a1)] [] (fun r => .pure (czn r)) (fun _ => []) (by kernel_rfl)
noncomputable def jzm (a0 : bz9) : T (Int × Int × Int × Int × Int × Int × Int × Int × Int × Int × Int × Int × Int × Int × Int × Int × Int × Int × Int × Int × Int × Int × Int × Int) :=
 .ret (a0.R.1.1.Lo, a0.R.1.1.Hi, a0.R.1.2.1.Lo, a0.R.1.2.1.Hi, a0.R.1.2.2.Lo, a0.R.1.2.2.Hi, a0.R.2.1.1.Lo, a0.R.2.1.1.Hi, a0.R.2.1.2.1.Lo, a0.R.2.1.2.1.Hi, a0.R.2.1.2.2.Lo, a0.R.2.1.2.2.Hi, a0.R.2.2.1.Lo, a0.R.2.2.1.Hi, a0.R.2.2.2.1.Lo, a0.R.2.2.2.1.Hi, a0.R.2.2.2.2.Lo, a0.R.2.2.2.2.Hi, a0.T.1.Lo, a0.T.1.Hi, a0.T.2.1.Lo, a0.T.2.1.Hi, a0.T.2.2.Lo, a0.T.2.2.Hi)
noncomputable def mzr (a0 : bz9) : CallS (Int × Int × Int × Int × Int × Int × Int × Int × Int × Int × Int × Int × Int × Int × Int × Int × Int × Int × Int × Int × Int × Int × Int × Int) :=
  mkC [] hd Tryz.func261 (by kernel_rfl) (jzm a0) 0 [.pure (czn a0)] [] (fun _ => .func 277 [] [.ptr 0 0]) (fun r => [(0, .box [pz r.1, pz r.2.1, pz r.2.2.1, pz r.2.2.2.1, pz r.2.2.2.2.1, pz r.2.2.2.2.2.1, pz r.2.2.2.2.2.2.1, pz r.2.2.2.2.2.2.2.1, pz r.2.2.2.2.2.2.2.2.1, pz r.2.2.2.2.2.2.2.2.2.1, pz r.2.2.2.2.2.2.2.2.2.2.1, pz r.2.2.2.2.2.2.2.2.2.2.2.1, pz r.2.2.2.2.2.2.2.2.2.2.2.2.1, pz r.2.2.2.2.2.2.2.2.2.2.2.2.2.1, pz r.2.2.2.2.2.2.2.2.2.2.2.2.2.2.1, pz r.2.2.2.2.2.2.2.2.2.2.2.2.2.2.2.1, pz r.2.2.2.2.2.2.2.2.2.2.2.2.2.2.2.2.1, pz r.2.2.2.2.2.2.2.2.2.2.2.2.2.2.2.2.2.1, pz r.2.2.2.2.2.2.2.2.2.2.2.2.2.2.2.2.2.2.1, pz r.2.2.2.2.2.2.2.2.2.2.2.2.2.2.2.2.2.2.2.1, pz r.2.2.2.2.2.2.2.2.2.2.2.2.2.2.2.2.2.2.2.2.1, pz r.2.2.2.2.2.2.2.2.2.2.2.2.2.2.2.2.2.2.2.2.2.1, pz r.2.2.2.2.2.2.2.2.2.2.2.2.2.2.2.2.2.2.2.2.2.2.1, pz r.2.2.2.2.2.2.2.2.2.2.2.2.2.2.2.2.2.2.2.2.2.2.2])]) (by kernel_rfl)
noncomputable def kz1 (a0 : az0) (a1 : az0) : T Bool :=
 .call (bze a0) [] fun y1 =>
 .br y1
 (.call (bze a1) [] fun y2 =>
 .ret y2)
 (.ret false)
noncomputable def gza (a0 : az0) (a1 : az0) : CallS Bool :=
  mkC [] hd Tryz.func293 (by kernel_rfl) (kz1 a0 a1) 0 [.pure (azf a0), .pure (azf a1)] [] (fun r => .pure (.bool r)) (fun _ => []) (by kernel_rfl)
noncomputable def iz8 (a0 : Int) (a1 : Int) : T Int :=
 .br (decide (a1 < 0))
 (.ret a0)
 (.grd (0 ≤ a1) <|
 .ret (a0.fdiv (2 ^ (min (a1).toNat 64))))
noncomputable def azx (a0 : Int) (a1 : Int) : CallS Int :=
  mkC [] hd Tryz.func218 (by kernel_rfl) (iz8 a0 a1) 0 [pz a0, pz a1] [] (fun r => pz r) (fun _ => []) (by kernel_rfl)
noncomputable def lzi (a0 : Int) (a1 : Int) : T Int :=
 .br (decide (a1 < 0))
 (.ret a0)
 (.grd (0 ≤ a1) <|
 .cut 0 (fun (y1 : Int) => ⟨[(5, pz y1)], [], [], 0⟩)
 (.grd (0 ≤ a1) <|
 .br ((IntKind.i64.wrap ((a0.fdiv (2 ^ (min (a1).toNat 64))) * 2 ^ (min (a1).toNat 64))) != a0)
 (.ret (.out (IntKind.i64.wrap ((a0.fdiv (2 ^ (min (a1).toNat 64))) + 1))))
 (.ret (.out (a0.fdiv (2 ^ (min (a1).toNat 64)))))) fun y1 =>
 .ret y1)
noncomputable def bz3 (a0 : Int) (a1 : Int) : CallS Int :=
  mkC [] hd Tryz.func246 (by kernel_rfl) (lzi a0 a1) 0 [pz a0, pz a1] [] (fun r => pz r) (fun _ => []) (by kernel_rfl)
noncomputable def iz9 (a0 : Int) (a1 : Int) : T az0 :=
 .call (azx a0 16) [] fun y1 =>
 .call (bz3 a1 16) [] fun y2 =>
 .call (fz2 y1 y2) [] fun y3 =>
 .ret y3
noncomputable def ozj (a0 : Int) (a1 : Int) : CallS az0 :=
  mkC [] hd Tryz.func294 (by kernel_rfl) (iz9 a0 a1) 0 [pz a0, pz a1] [] (fun r => .pure (azf r)) (fun _ => []) (by kernel_rfl)
noncomputable def nzi (a0 : az0) (a1 : az0) : T az0 :=
 .call (gza (⟨a0.Lo, a0.Hi⟩ : az0) (⟨a1.Lo, a1.Hi⟩ : az0)) [] fun y35 =>
 .br (!y35)
 (.ret (⟨0, 0⟩ : az0))
 (.ix 0 4 rfl <|
 .ix 0 4 rfl <|
 .loop (fun (x56 : (Int × Int × Int)) => ⟨[(4, .ptr 0 0), (6, pz x56.1), (7, pz x56.2.1), (40, .pure (zzi ((IntKind.i64.wrap (a0.Lo * a1.Lo)), (IntKind.i64.wrap (a0.Lo * a1.Hi)), (IntKind.i64.wrap (a0.Hi * a1.Lo)), (IntKind.i64.wrap (a0.Hi * a1.Hi))))), (41, pz x56.2.2)], [(0, .box [pz 0, pz 0])], [], 1⟩)
 (.exit 0) (fun (y61 : (Int × Int)) => ⟨[(4, .ptr 0 0), (6, pz y61.1), (7, pz y61.2)], [(0, .box [pz 0, pz 0])], [], 1⟩)
 (fun x56 => .br (decide (x56.2.2 < 4))
 (.grd (0 ≤ x56.2.2 ∧ x56.2.2 < ((4 : Nat) : Int)) <|
 .name 7000 ((([(IntKind.i64.wrap (a0.Lo * a1.Lo)), (IntKind.i64.wrap (a0.Lo * a1.Hi)), (IntKind.i64.wrap (a0.Hi * a1.Lo)), (IntKind.i64.wrap (a0.Hi * a1.Hi))] : List Int).getD (x56.2.2).toNat 0)) fun z65 =>
 .ret (.next ((min x56.1 z65), (max x56.2.1 z65), (IntKind.i64.wrap (x56.2.2 + 1)))))
 (.ret (.out (x56.1, x56.2.1))))
 ((IntKind.i64.wrap (a0.Lo * a1.Lo)), (IntKind.i64.wrap (a0.Lo * a1.Lo)), 0) [] fun y61 =>
 .call (ozj y61.1 y61.2) [] fun y66 =>
 .ret y66)
noncomputable def azm (a0 : az0) (a1 : az0) : CallS az0 :=
  mkC [] hd Tryz.func281 (by kernel_rfl) (nzi a0 a1) 0 [.pure (azf a0), .pure (azf a1)] [] (fun r => .pure (azf r)) (fun _ => []) (by kernel_rfl)
noncomputable def nze (a0 : az0) (a1 : az0) : T az0 :=
 .call (gza a0 a1) [] fun y4 =>
 .br (!y4)
 (.ret (⟨0, 0⟩ : az0))
 (.call (fz2 (IntKind.i64.wrap (a0.Lo + a1.Lo)) (IntKind.i64.wrap (a0.Hi + a1.Hi))) [] fun y5 =>
 .ret y5)
noncomputable def azk (a0 : az0) (a1 : az0) : CallS az0 :=
  mkC [] hd Tryz.func280 (by kernel_rfl) (nze a0 a1) 0 [.pure (azf a0), .pure (azf a1)] [] (fun r => .pure (azf r)) (fun _ => []) (by kernel_rfl)
noncomputable def kz7 (a0 : Int) : T Int :=
 .ret (min (max a0 (-65536)) 65536)
noncomputable def azw (a0 : Int) : CallS Int :=
  mkC [] hd Tryz.func282 (by kernel_rfl) (kz7 a0) 0 [pz a0] [] (fun r => pz r) (fun _ => []) (by kernel_rfl)
end Go.Abs
