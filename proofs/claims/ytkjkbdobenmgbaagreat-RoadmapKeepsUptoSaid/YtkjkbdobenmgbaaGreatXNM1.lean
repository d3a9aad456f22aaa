/-
  M1 (a part of a claim: our own text).
-/
import Derived.Test.YtkjkbdobenmgbaaGreatXNRngF
import Derived.Test.YtkjkbdobenmgbaaGreatChecked
namespace Go.Abs
open Go.Proofs
abbrev pz (x : Int) : AVal := .pure (.int .i64 x)
theorem hd : izd Tryz.prog Hzw := Bzv (by kernel_rfl)
structure wzb where
  list : (List Int)
  next : Int
instance : Inhabited wzb := ⟨⟨default, default⟩⟩
structure azr where
  Depth : Int
  Index : Int
  Normals : (List (Int × Int × Int))
instance : Inhabited azr := ⟨⟨default, default, default⟩⟩
structure bz2 where
  Pair : Int
  Left : (List Int)
  Right : (List Int)
instance : Inhabited bz2 := ⟨⟨default, default, default⟩⟩
structure azc where
  Kind : Int
  Pieces : (List azr)
  At : azr
  Witness : bz2
instance : Inhabited azc := ⟨⟨default, default, default, default⟩⟩
structure az1 where
  U : Int
  V : Int
  Cost : Int
  State : Int
  Proof : azc
instance : Inhabited az1 := ⟨⟨default, default, default, default, default⟩⟩
structure aza where
  Points : (List (List Int))
  Edges : (List az1)
instance : Inhabited aza := ⟨⟨default, default⟩⟩
structure azj where
  Name : ByteArray
  Kind : Int
  Parent : Int
  Offset : (Int × Int × Int)
  Lo : Int
  Hi : Int
  Weight : Int
  Speed : Int
  Accel : Int
  Torque : Int
instance : Inhabited azj := ⟨⟨default, default, default, default, default, default, default, default, default, default⟩⟩
structure czc where
  Link : Int
  Mass : Int
  Point : (Int × Int × Int)
instance : Inhabited czc := ⟨⟨default, default, default⟩⟩
structure az8 where
  Joints : (List azj)
  Masses : (List czc)
instance : Inhabited az8 := ⟨⟨default, default⟩⟩
structure aze where
  Point : Int
  Axis : Int
  Low : Int
  High : Int
instance : Inhabited aze := ⟨⟨default, default, default, default⟩⟩
structure czd where
  joints : (List azj)
  points : (List (List Int))
  tree : (List aze)
  q : (List Int)
instance : Inhabited czd := ⟨⟨default, default, default, default⟩⟩
def azg (v : (Int × Int × Int)) : PVal := .agg [.int .i64 v.1, .int .i64 v.2.1, .int .i64 v.2.2]
def bze (v : azr) : PVal := .agg [.int .i64 v.Depth, .int .i64 v.Index, encL 3 azg v.Normals]
def fzu (v : azc) : PVal := .agg [.int .i64 v.Kind, encL 3 bze v.Pieces, .int .i64 v.At.Depth, .int .i64 v.At.Index, encL 3 azg v.At.Normals, .int .i64 v.Witness.Pair, encL 1 az0 v.Witness.Left, encL 1 az0 v.Witness.Right]
def az2 (v : az1) : PVal := .agg [.int .i64 v.U, .int .i64 v.V, .int .i64 v.Cost, .int .i64 v.State, .int .i64 v.Proof.Kind, encL 3 bze v.Proof.Pieces, .int .i64 v.Proof.At.Depth, .int .i64 v.Proof.At.Index, encL 3 azg v.Proof.At.Normals, .int .i64 v.Proof.Witness.Pair, encL 1 az0 v.Proof.Witness.Left, encL 1 az0 v.Proof.Witness.Right]
def bzr (v : aza) : PVal := .agg [encL 1 (encL 1 az0) v.Points, encL 12 az2 v.Edges]
def az9 (v : azj) : PVal := .agg [.str v.Name, .int .i64 v.Kind, .int .i64 v.Parent, .int .i64 v.Offset.1, .int .i64 v.Offset.2.1, .int .i64 v.Offset.2.2, .int .i64 v.Lo, .int .i64 v.Hi, .int .i64 v.Weight, .int .i64 v.Speed, .int .i64 v.Accel, .int .i64 v.Torque]
def azb (v : czc) : PVal := .agg [.int .i64 v.Link, .int .i64 v.Mass, .int .i64 v.Point.1, .int .i64 v.Point.2.1, .int .i64 v.Point.2.2]
def azw (v : az8) : PVal := .agg [encL 12 az9 v.Joints, encL 5 azb v.Masses]
def azo (v : (Int × Int × Int × Int × Int × Int × Int × Int × Int × Int)) : List PVal := [.int .i64 v.1, .int .i64 v.2.1, .int .i64 v.2.2.1, .int .i64 v.2.2.2.1, .int .i64 v.2.2.2.2.1, .int .i64 v.2.2.2.2.2.1, .int .i64 v.2.2.2.2.2.2.1, .int .i64 v.2.2.2.2.2.2.2.1, .int .i64 v.2.2.2.2.2.2.2.2.1, .int .i64 v.2.2.2.2.2.2.2.2.2]
def azf (v : aze) : PVal := .agg [.int .i64 v.Point, .int .i64 v.Axis, .int .i64 v.Low, .int .i64 v.High]
def lz2 (v : czd) : PVal := .agg [encL 12 az9 v.joints, encL 1 (encL 1 az0) v.points, encL 4 azf v.tree, encL 1 az0 v.q]
def az3 (v : (Int × Int)) : PVal := .agg [.int .i64 v.1, .int .i64 v.2]
def azn (v : (Int × Int)) : List PVal := [.int .i64 v.1, .int .i64 v.2]
theorem Iz3 : GuardFn Tryz.prog 39 :=
  gzu (fn := Tryz.f39) Tryz.func39 (by kernel_rfl) ⟨0, (gOps Tryz.f39).getD 0 default, (gOps Tryz.f39).getD 1 default, 1, 2, gX Tryz.f39, gC ((gOps Tryz.f39).getD 0 default), 20, 20, by kernel_rfl, by kernel_rfl, by kernel_rfl, by kernel_rfl, by kernel_rfl, by kernel_rfl, by kernel_rfl, by kernel_rfl, ⟨gMs (Tryz.prog.underlying 20), by kernel_rfl⟩, by decide, by decide, by kernel_rfl⟩
theorem Iz4 : GuardFn Tryz.prog 52 :=
  gzu (fn := Tryz.f52) Tryz.func52 (by kernel_rfl) ⟨0, (gOps Tryz.f52).getD 0 default, (gOps Tryz.f52).getD 1 default, 1, 2, gX Tryz.f52, gC ((gOps Tryz.f52).getD 0 default), 20, 20, by kernel_rfl, by kernel_rfl, by kernel_rfl, by kernel_rfl, by kernel_rfl, by kernel_rfl, by kernel_rfl, by kernel_rfl, ⟨gMs (Tryz.prog.underlying 20), by kernel_rfl⟩, by decide, by decide, by kernel_rfl⟩
theorem Iz5 : GuardFn Tryz.prog 59 :=
  gzu (fn := Tryz.f59) Tryz.func59 (by kernel_rfl) ⟨0, (gOps Tryz.f59).getD 0 default, (gOps Tryz.f59).getD 1 default, 1, 2, gX Tryz.f59, gC ((gOps Tryz.f59).getD 0 default), 20, 20, by kernel_rfl, by kernel_rfl, by kernel_rfl, by kernel_rfl, by kernel_rfl, by kernel_rfl, by kernel_rfl, by kernel_rfl, ⟨gMs (Tryz.prog.underlying 20), by kernel_rfl⟩, by decide, by decide, by kernel_rfl⟩
theorem Iz6 : GuardFn Tryz.prog 64 :=
  gzu (fn := Tryz.f64) Tryz.func64 (by kernel_rfl) ⟨0, (gOps Tryz.f64).getD 0 default, (gOps Tryz.f64).getD 1 default, 2, 3, gX Tryz.f64, gC ((gOps Tryz.f64).getD 0 default), 20, 20, by kernel_rfl, by kernel_rfl, by kernel_rfl, by kernel_rfl, by kernel_rfl, by kernel_rfl, by kernel_rfl, by kernel_rfl, ⟨gMs (Tryz.prog.underlying 20), by kernel_rfl⟩, by decide, by decide, by kernel_rfl⟩
theorem Iz7 : GuardFn Tryz.prog 74 :=
  gzu (fn := Tryz.f74) Tryz.func74 (by kernel_rfl) ⟨0, (gOps Tryz.f74).getD 0 default, (gOps Tryz.f74).getD 1 default, 2, 3, gX Tryz.f74, gC ((gOps Tryz.f74).getD 0 default), 20, 20, by kernel_rfl, by kernel_rfl, by kernel_rfl, by kernel_rfl, by kernel_rfl, by kernel_rfl, by kernel_rfl, by kernel_rfl, ⟨gMs (Tryz.prog.underlying 20), by kernel_rfl⟩, by decide, by decide, by kernel_rfl⟩
theorem Iz8 : GuardFn Tryz.prog 79 :=
  gzu (fn := Tryz.f79) Tryz.func79 (by kernel_rfl) ⟨0, (gOps Tryz.f79).getD 0 default, (gOps Tryz.f79).getD 1 default, 1, 2, gX Tryz.f79, gC ((gOps Tryz.f79).getD 0 default), 20, 20, by kernel_rfl, by kernel_rfl, by kernel_rfl, by kernel_rfl, by kernel_rfl, by kernel_rfl, by kernel_rfl, by kernel_rfl, ⟨gMs (Tryz.prog.underlying 20), by kernel_rfl⟩, by decide, by decide, by kernel_rfl⟩
theorem Fzf : GuardFn Tryz.prog 107 :=
  gzu (fn := Tryz.f107) Tryz.func107 (by kernel_rfl) ⟨0, (gOps Tryz.f107).getD 0 default, (gOps Tryz.f107).getD 1 default, 1, 2, gX Tryz.f107, gC ((gOps Tryz.f107).getD 0 default), 20, 20, by kernel_rfl, by kernel_rfl, by kernel_rfl, by kernel_rfl, by kernel_rfl, by kernel_rfl, by kernel_rfl, by kernel_rfl, ⟨gMs (Tryz.prog.underlying 20), by kernel_rfl⟩, by decide, by decide, by kernel_rfl⟩
theorem Fzg : GuardFn Tryz.prog 117 :=
  gzu (fn := Tryz.f117) Tryz.func117 (by kernel_rfl) ⟨0, (gOps Tryz.f117).getD 0 default, (gOps Tryz.f117).getD 1 default, 1, 2, gX Tryz.f117, gC ((gOps Tryz.f117).getD 0 default), 20, 20, by kernel_rfl, by kernel_rfl, by kernel_rfl, by kernel_rfl, by kernel_rfl, by kernel_rfl, by kernel_rfl, by kernel_rfl, ⟨gMs (Tryz.prog.underlying 20), by kernel_rfl⟩, by decide, by decide, by kernel_rfl⟩
theorem Fzh : GuardFn Tryz.prog 169 :=
  gzu (fn := Tryz.f169) Tryz.func169 (by kernel_rfl) ⟨0, (gOps Tryz.f169).getD 0 default, (gOps Tryz.f169).getD 1 default, 1, 2, gX Tryz.f169, gC ((gOps Tryz.f169).getD 0 default), 20, 20, by kernel_rfl, by kernel_rfl, by kernel_rfl, by kernel_rfl, by kernel_rfl, by kernel_rfl, by kernel_rfl, by kernel_rfl, ⟨gMs (Tryz.prog.underlying 20), by kernel_rfl⟩, by decide, by decide, by kernel_rfl⟩
noncomputable def Az5 (a0 : (List Int)) : T ((List Int) × Int) :=
 .ret (a0, 0)
noncomputable def fzn (a0 : (List Int)) : CallS ((List Int) × Int) :=
  mkC [] hd Tryz.func37 (by kernel_rfl) (Az5 a0) 0 [.pure (encL 1 az0 a0)] [] (fun _ => .ptr 0 0) (fun r => [(0, .box [.pure (encL 1 az0 r.1), pz r.2])]) (by kernel_rfl)
noncomputable def pz1 (a0 : Int) (a1 : Int) : T Int :=
 .grd (a1 ≠ 0) <|
 .cut 0 (fun (y1 : Int) => ⟨[(5, pz y1)], [], [], 0⟩)
 (.br (decide ((a0.tmod a1) < 0))
 (.ret (.out (IntKind.i64.wrap ((a0.tmod a1) + a1))))
 (.ret (.out (a0.tmod a1)))) fun y1 =>
 .ret y1
noncomputable def jzi (a0 : Int) (a1 : Int) : CallS Int :=
  mkC [] hd Tryz.func18 (by kernel_rfl) (pz1 a0 a1) 0 [pz a0, pz a1] [] (fun r => pz r) (fun _ => []) (by kernel_rfl)
noncomputable def nz8 (a0 : (List Int)) (a1 : Int) (a2 : Int) : T (Int × (List Int) × Int) :=
 .br (decide (a1 ≥ ((a0.length : Nat) : Int)))
 (.ret (0, a0, a1))
 (.grd (0 ≤ (IntKind.i64.wrap ((IntKind.i64.wrap (a1 + 1)) - 1)) ∧ (IntKind.i64.wrap ((IntKind.i64.wrap (a1 + 1)) - 1)) < ((a0.length : Nat) : Int)) <|
 .call (jzi (a0.getD (((IntKind.i64.wrap ((IntKind.i64.wrap (a1 + 1)) - 1))).toNat) default) a2) [] fun y2 =>
 .ret (y2, a0, (IntKind.i64.wrap (a1 + 1))))
noncomputable def azd (a0 : (List Int)) (a1 : Int) (a2 : Int) : CallS (Int × (List Int) × Int) :=
  mkC [] hd Tryz.func38 (by kernel_rfl) (nz8 a0 a1 a2) 1 [.ptr 0 0, pz a2] [(0, .box [.pure (encL 1 az0 a0), pz a1])] (fun r => pz r.1) (fun r => [(0, .box [.pure (encL 1 az0 r.2.1), pz r.2.2])]) (by kernel_rfl)
noncomputable def pz0 (a0 : Int) : T azc :=
 .br (a0 == 1)
 (.conv 3001 (xzx 3 bze ([(⟨0, 0, nl⟩ : azr)] : (List azr)) 51 [.agg [.int .i64 0, .int .i64 0, .lst 0 0 fun _ => .unk]] (by kernel_rfl)) <|
 .ret (⟨1, ([(⟨0, 0, nl⟩ : azr)] : (List azr)), (⟨0, 0, nl⟩ : azr), (⟨0, nl, nl⟩ : bz2)⟩ : azc))
 (.br (a0 == 2)
 (.conv 5000 (ezu 1 az0 ([1] : (List Int)) 2) <|
 .conv 5001 (ezu 1 az0 ([1] : (List Int)) 2) <|
 .ret (⟨2, nl, (⟨0, 0, nl⟩ : azr), (⟨0, ([1] : (List Int)), ([1] : (List Int))⟩ : bz2)⟩ : azc))
 (.br (a0 == 3)
 (.ret (⟨0, nl, (⟨1, 0, nl⟩ : azr), (⟨0, nl, nl⟩ : bz2)⟩ : azc))
 (.ret (⟨0, nl, (⟨0, 0, nl⟩ : azr), (⟨0, nl, nl⟩ : bz2)⟩ : azc))))
noncomputable def lzu (a0 : Int) : CallS azc :=
  mkC [] hd Tryz.func31 (by kernel_rfl) (pz0 a0) 0 [pz a0] [] (fun r => .pure (fzu r)) (fun _ => []) (by kernel_rfl)
noncomputable def jz8 (a0 : aza) (a1 : az1) : T Bool :=
 .br (decide (a1.U ≥ 0))
 (.br (decide (a1.U < ((a0.Points.length : Nat) : Int)))
 (.br (decide (a1.V ≥ 0))
 (.ret (decide (a1.V < ((a0.Points.length : Nat) : Int))))
 (.ret false))
 (.ret false))
 (.ret false)
noncomputable def hz2 (a0 : aza) (a1 : az1) : CallS Bool :=
  mkC [] hd Tryz.func61 (by kernel_rfl) (jz8 a0 a1) 0 [.pure (bzr a0), .pure (az2 a1)] [] (fun r => .pure (.bool r)) (fun _ => []) (by kernel_rfl)
noncomputable def tze (a0 : Int) (a1 : Int) : T Bool :=
 .br (a1 == 0)
 (.ret (a0 == 1))
 (.br (a1 == 1)
 (.br (a0 == 1)
 (.ret true)
 (.ret (a0 == 0)))
 (.br (a1 == 2)
 (.ret (a0 != 2))
 (.ret false)))
noncomputable def tzd (a0 : Int) (a1 : Int) : CallS Bool :=
  mkC [] hd Tryz.func62 (by kernel_rfl) (tze a0 a1) 0 [pz a0, pz a1] [] (fun r => .pure (.bool r)) (fun _ => []) (by kernel_rfl)
noncomputable def ozi (a0 : Int) (a1 : (List Int)) : T (Int × (List Int)) :=
 .loop (fun (x5 : ((List Int) × Int)) => ⟨[(0, pz x5.2), (1, .ptr 0 0)], [(0, .box [.vec 1]), (1, vecO 1 az0 x5.1 3)], [], 2⟩)
 (.exit 0) (fun (y6 : ((List Int) × Int)) => ⟨[(0, pz y6.2)], [(0, .box [.vec 1]), (1, vecO 1 az0 y6.1 3)], [], 2⟩)
 (fun x5 => .grd (0 ≤ x5.2 ∧ x5.2 < ((x5.1.length : Nat) : Int)) <|
 .grd ((x5.2).toNat < x5.1.length) <|
 .br ((x5.1.getD ((x5.2).toNat) default) != x5.2)
 (.grd (0 ≤ x5.2 ∧ x5.2 < ((x5.1.length : Nat) : Int)) <|
 .grd ((x5.2).toNat < x5.1.length) <|
 .grd (0 ≤ (x5.1.getD ((x5.2).toNat) default) ∧ (x5.1.getD ((x5.2).toNat) default) < ((x5.1.length : Nat) : Int)) <|
 .grd (((x5.1.getD ((x5.2).toNat) default)).toNat < x5.1.length) <|
 .grd (0 ≤ x5.2 ∧ x5.2 < ((x5.1.length : Nat) : Int)) <|
 .conv 2010 (azq 1 az0 x5.1 3 ((x5.2).toNat) (x5.1.getD (((x5.1.getD ((x5.2).toNat) default)).toNat) default)) <|
 .grd ((x5.2).toNat < x5.1.length ∧ 0 ≤ (x5.2).toNat) <|
 .grd (0 ≤ x5.2 ∧ x5.2 < (((x5.1.set ((x5.2).toNat) (x5.1.getD (((x5.1.getD ((x5.2).toNat) default)).toNat) default)).length : Nat) : Int)) <|
 .grd ((x5.2).toNat < (x5.1.set ((x5.2).toNat) (x5.1.getD (((x5.1.getD ((x5.2).toNat) default)).toNat) default)).length) <|
 .ret (.next ((x5.1.set ((x5.2).toNat) (x5.1.getD (((x5.1.getD ((x5.2).toNat) default)).toNat) default)), ((x5.1.set ((x5.2).toNat) (x5.1.getD (((x5.1.getD ((x5.2).toNat) default)).toNat) default)).getD ((x5.2).toNat) default))))
 (.ret (.out (x5.1, x5.2))))
 (a1, a0) [] fun y6 =>
 .ret (y6.2, y6.1)
noncomputable def gz2 (a0 : Int) (a1 : (List Int)) : CallS (Int × (List Int)) :=
  mkC [] hd Tryz.func60 (by kernel_rfl) (ozi a0 a1) 2 [pz a0, .ptr 0 0] [(0, .box [.vec 1]), (1, vecO 1 az0 a1 3)] (fun r => pz r.1) (fun r => [(0, .box [.vec 1]), (1, vecO 1 az0 r.2 3)]) (by kernel_rfl)
set_option maxHeartbeats 8000000 in
set_option maxRecDepth 20000 in
noncomputable def qz4 (a0 : aza) (a1 : Int) : T (List Int) :=
 .conv 2003 (Bzt 1 az0 3 (((a0.Points.length : Nat) : Int)).toNat 0) <|
 .grd (0 ≤ ((a0.Points.length : Nat) : Int) ∧ ((a0.Points.length : Nat) : Int) ≤ ((a0.Points.length : Nat) : Int) ∧ ((a0.Points.length : Nat) : Int) ≤ 9223372036854775807 ∧ ((a0.Points.length : Nat) : Int) * 8 ≤ 140737488355328) <|
 .loop (fun (x5 : ((List Int) × Int)) => ⟨[(1, pz a1), (2, .ptr 0 0), (4, .ptr 1 0), (18, pz (((List.replicate (((a0.Points.length : Nat) : Int)).toNat (0 : Int)).length : Nat) : Int)), (19, pz x5.2)], [(0, .box [.pure (encL 1 (encL 1 az0) a0.Points), .pure (encL 12 az2 a0.Edges)]), (1, .box [.vec 2]), (2, vecO 1 az0 x5.1 3)], [.func 59 [] [.ptr 1 0]], 3⟩)
 (.exit 0) (fun (y6 : (List Int)) => ⟨[(1, pz a1), (2, .ptr 0 0), (4, .ptr 1 0)], [(0, .box [.pure (encL 1 (encL 1 az0) a0.Points), .pure (encL 12 az2 a0.Edges)]), (1, .box [.vec 2]), (2, vecO 1 az0 y6 3)], [.func 59 [] [.ptr 1 0]], 3⟩)
 (fun x5 => .br (decide (x5.2 < (((List.replicate (((a0.Points.length : Nat) : Int)).toNat (0 : Int)).length : Nat) : Int)))
 (.grd (0 ≤ x5.2 ∧ x5.2 < ((x5.1.length : Nat) : Int)) <|
 .conv 6004 (azq 1 az0 x5.1 3 ((x5.2).toNat) x5.2) <|
 .grd ((x5.2).toNat < x5.1.length ∧ 0 ≤ (x5.2).toNat) <|
 .ret (.next ((x5.1.set ((x5.2).toNat) x5.2), (IntKind.i64.wrap (x5.2 + 1)))))
 (.ret (.out x5.1)))
 ((List.replicate (((a0.Points.length : Nat) : Int)).toNat (0 : Int)), 0) [] fun y6 =>
 .loop (fun (x147 : ((List Int) × Int)) => ⟨[(1, pz a1), (2, .ptr 0 0), (4, .ptr 1 0), (6, .func 60 [] [.ptr 1 0]), (29, .pure (encL 12 az2 a0.Edges)), (30, pz ((a0.Edges.length : Nat) : Int)), (31, pz x147.2)], [(0, .box [.pure (encL 1 (encL 1 az0) a0.Points), .pure (encL 12 az2 a0.Edges)]), (1, .box [.vec 2]), (2, vecO 1 az0 x147.1 3)], [.func 59 [] [.ptr 1 0]], 3⟩)
 (.exit 2) (fun (y182 : (List Int)) => ⟨[(4, .ptr 0 0), (6, .func 60 [] [.ptr 0 0])], [(0, .box [.vec 1]), (1, vecO 1 az0 y182 3)], [.func 59 [] [.ptr 0 0]], 2⟩)
 (fun x147 => .br (decide (x147.2 < ((a0.Edges.length : Nat) : Int)))
 (.cut 0 (fun (y205 : (List Int)) => ⟨[(1, pz a1), (2, .ptr 0 0), (4, .ptr 1 0), (6, .func 60 [] [.ptr 1 0]), (29, .pure (encL 12 az2 a0.Edges)), (30, pz ((a0.Edges.length : Nat) : Int)), (31, pz x147.2)], [(0, .box [.pure (encL 1 (encL 1 az0) a0.Points), .pure (encL 12 az2 a0.Edges)]), (1, .box [.vec 2]), (2, vecO 1 az0 y205 3)], [.func 59 [] [.ptr 1 0]], 3⟩)
 (.grd (0 ≤ x147.2 ∧ x147.2 < ((a0.Edges.length : Nat) : Int)) <|
 .cut 0 (fun (y210 : Bool) => ⟨[(1, pz a1), (2, .ptr 0 0), (4, .ptr 1 0), (6, .func 60 [] [.ptr 1 0]), (8, .ptr 3 0), (29, .pure (encL 12 az2 a0.Edges)), (30, pz ((a0.Edges.length : Nat) : Int)), (31, pz x147.2), (43, .pure (.bool y210))], [(0, .box [.pure (encL 1 (encL 1 az0) a0.Points), .pure (encL 12 az2 a0.Edges)]), (1, .box [.vec 2]), (2, vecO 1 az0 x147.1 3), (3, .box [pz ((a0.Edges.getD ((x147.2).toNat) default).U), pz ((a0.Edges.getD ((x147.2).toNat) default).V), pz ((a0.Edges.getD ((x147.2).toNat) default).Cost), pz ((a0.Edges.getD ((x147.2).toNat) default).State), pz ((a0.Edges.getD ((x147.2).toNat) default).Proof.Kind), .pure (encL 3 bze ((a0.Edges.getD ((x147.2).toNat) default).Proof.Pieces)), pz ((a0.Edges.getD ((x147.2).toNat) default).Proof.At.Depth), pz ((a0.Edges.getD ((x147.2).toNat) default).Proof.At.Index), .pure (encL 3 azg ((a0.Edges.getD ((x147.2).toNat) default).Proof.At.Normals)), pz ((a0.Edges.getD ((x147.2).toNat) default).Proof.Witness.Pair), .pure (encL 1 az0 ((a0.Edges.getD ((x147.2).toNat) default).Proof.Witness.Left)), .pure (encL 1 az0 ((a0.Edges.getD ((x147.2).toNat) default).Proof.Witness.Right))])], [.func 59 [] [.ptr 1 0]], 4⟩)
 (.call (hz2 (⟨a0.Points, a0.Edges⟩ : aza) (a0.Edges.getD ((x147.2).toNat) default)) [] fun y211 =>
 .br y211
 (.call (tzd ((a0.Edges.getD ((x147.2).toNat) default).State) a1) [] fun y212 =>
 .ret (.out y212))
 (.ret (.out false))) fun y210 =>
 .br y210
 (.call (gz2 ((a0.Edges.getD ((x147.2).toNat) default).U) x147.1) [(0, 1), (1, 2)] fun y215 =>
 .call (gz2 ((a0.Edges.getD ((x147.2).toNat) default).V) y215.2) [(0, 1), (1, 2)] fun y216 =>
 .grd (0 ≤ (max y215.1 y216.1) ∧ (max y215.1 y216.1) < ((y216.2.length : Nat) : Int)) <|
 .conv 14008 (azq 1 az0 y216.2 3 (((max y215.1 y216.1)).toNat) (min y215.1 y216.1)) <|
 .grd (((max y215.1 y216.1)).toNat < y216.2.length ∧ 0 ≤ ((max y215.1 y216.1)).toNat) <|
 .ret (.out (y216.2.set (((max y215.1 y216.1)).toNat) (min y215.1 y216.1))))
 (.ret (.out x147.1))) fun y205 =>
 .ret (.next (y205, (IntKind.i64.wrap (x147.2 + 1)))))
 (.ret (.out x147.1)))
 (y6, 0) [] fun y182 =>
 .loop (fun (x229 : ((List Int) × Int)) => ⟨[(4, .ptr 0 0), (6, .func 60 [] [.ptr 0 0]), (62, pz ((y182.length : Nat) : Int)), (63, pz x229.2)], [(0, .box [.vec 1]), (1, vecO 1 az0 x229.1 3)], [.func 59 [] [.ptr 0 0]], 2⟩)
 (.exit 4) (fun (y232 : (List Int)) => ⟨[(4, .ptr 0 0)], [(0, .box [.vec 1]), (1, vecO 1 az0 y232 3)], [.func 59 [] [.ptr 0 0]], 2⟩)
 (fun x229 => .br (decide (x229.2 < ((y182.length : Nat) : Int)))
 (.call (gz2 x229.2 x229.1) [(0, 0), (1, 1)] fun y234 =>
 .grd (0 ≤ x229.2 ∧ x229.2 < ((y234.2.length : Nat) : Int)) <|
 .conv 19006 (azq 1 az0 y234.2 3 ((x229.2).toNat) y234.1) <|
 .grd ((x229.2).toNat < y234.2.length ∧ 0 ≤ (x229.2).toNat) <|
 .ret (.next ((y234.2.set ((x229.2).toNat) y234.1), (IntKind.i64.wrap (x229.2 + 1)))))
 (.ret (.out x229.1)))
 (y182, 0) [] fun y232 =>
 .ret y232
noncomputable def qz3 (a0 : aza) (a1 : Int) : CallS (List Int) :=
  mkC [⟨59, Iz5⟩] hd Tryz.func24 (by kernel_rfl) (qz4 a0 a1) 0 [.pure (bzr a0), pz a1] [] (fun r => .pure (encL 1 az0 r)) (fun _ => []) (by kernel_rfl)
noncomputable def ize (a0 : Int) : T ByteArray :=
 .grd (0 ≤ a0 ∧ a0 ≤ (IntKind.i64.wrap (a0 + 1)) ∧ (IntKind.i64.wrap (a0 + 1)) ≤ (((⟨#[97, 98, 99, 100, 101, 102, 103, 104, 105, 106]⟩ : ByteArray).size : Nat) : Int)) <|
 .ret ((⟨#[97, 98, 99, 100, 101, 102, 103, 104, 105, 106]⟩ : ByteArray).extract (a0).toNat ((IntKind.i64.wrap (a0 + 1))).toNat)
noncomputable def gzw (a0 : Int) : CallS ByteArray :=
  mkC [] hd Tryz.func78 (by kernel_rfl) (ize a0) 0 [pz a0] [] (fun r => .pure (.str r)) (fun _ => []) (by kernel_rfl)
noncomputable def xz4 (a0 : Int) (a1 : Int) : T az8 :=
 .loop (fun (x13 : ((List azj) × Int)) => ⟨[(0, pz a0), (1, pz a1), (4, .ptr 0 0), (5, .ptr 3 0), (6, pz x13.2)], [(0, .box [.vec 1, .vec 2]), (1, .nilv), (2, .nilv), (3, .box [.vec 4, .vec 5]), (4, vecO 12 az9 x13.1 100), (5, .nilv)], [], 6⟩)
 (.exit 0) (fun (y16 : (List azj)) => ⟨[(4, .ptr 0 0), (5, .ptr 3 0)], [(0, .box [.vec 1, .vec 2]), (1, .nilv), (2, .nilv), (3, .box [.vec 4, .vec 5]), (4, vecO 12 az9 y16 100), (5, .nilv)], [], 6⟩)
 (fun x13 => .br (decide (x13.2 < a0))
 (.call (gzw x13.2) [] fun y18 =>
 .ok ((2 : Int) ≠ 0) (by decide) <|
 .conv 5011 (ezu 12 az9 ([(⟨y18, (IntKind.i64.wrap (4 + (x13.2.tmod 2))), (IntKind.i64.wrap (x13.2 - 1)), (0, 0, 0), 0, a1, 1, 65536, 65536, 65536⟩ : azj)] : (List azj)) 100) <|
 .conv 5012 (gzg 12 az9 x13.1 ([(⟨y18, (IntKind.i64.wrap (4 + (x13.2.tmod 2))), (IntKind.i64.wrap (x13.2 - 1)), (0, 0, 0), 0, a1, 1, 65536, 65536, 65536⟩ : azj)] : (List azj)) 100) <|
 .grd ((x13.1.length + ([(⟨y18, (IntKind.i64.wrap (4 + (x13.2.tmod 2))), (IntKind.i64.wrap (x13.2 - 1)), (0, 0, 0), 0, a1, 1, 65536, 65536, 65536⟩ : azj)] : (List azj)).length) * 104 ≤ 140737488355328 ∧ (x13.1.length + ([(⟨y18, (IntKind.i64.wrap (4 + (x13.2.tmod 2))), (IntKind.i64.wrap (x13.2 - 1)), (0, 0, 0), 0, a1, 1, 65536, 65536, 65536⟩ : azj)] : (List azj)).length) ≤ maxLen) <|
 .ret (.next ((x13.1 ++ ([(⟨y18, (IntKind.i64.wrap (4 + (x13.2.tmod 2))), (IntKind.i64.wrap (x13.2 - 1)), (0, 0, 0), 0, a1, 1, 65536, 65536, 65536⟩ : azj)] : (List azj))), (IntKind.i64.wrap (x13.2 + 1)))))
 (.ret (.out x13.1)))
 (nl, 0) [] fun y16 =>
 .ret (⟨y16, nl⟩ : az8)
noncomputable def xz3 (a0 : Int) (a1 : Int) : CallS az8 :=
  mkC [] hd Tryz.func33 (by kernel_rfl) (xz4 a0 a1) 0 [pz a0, pz a1] [] (fun r => .pure (azw r)) (fun _ => []) (by kernel_rfl)
noncomputable def kze (a0 : Int) : T Bool :=
 .br (decide (97 ≤ a0))
 (.ret (decide (a0 ≤ 122)))
 (.ret false)
noncomputable def ozf (a0 : Int) : CallS Bool :=
  mkC [] hd Tryz.func157 (by kernel_rfl) (kze a0) 0 [.pure (.int .i32 a0)] [] (fun r => .pure (.bool r)) (fun _ => []) (by kernel_rfl)
noncomputable def lzk (a0 : Int) : T Bool :=
 .br (decide (48 ≤ a0))
 (.ret (decide (a0 ≤ 57)))
 (.ret false)
noncomputable def pzo (a0 : Int) : CallS Bool :=
  mkC [] hd Tryz.func158 (by kernel_rfl) (lzk a0) 0 [.pure (.int .i32 a0)] [] (fun r => .pure (.bool r)) (fun _ => []) (by kernel_rfl)
noncomputable def pzn (a0 : ByteArray) : T Bool :=
 .cut 2 (fun (y2 : Bool) => ⟨[(0, .pure (.str a0)), (16, .pure (.bool y2))], [], [], 0⟩)
 (.br (((a0.size : Nat) : Int) == 0)
 (.ret (.out true))
 (.br (decide (((a0.size : Nat) : Int) > 16))
 (.ret (.out true))
 (.ret (.out (a0 == (⟨#[119, 111, 114, 108, 100]⟩ : ByteArray)))))) fun y2 =>
 .br y2
 (.ret false)
 (.loop (fun (x35 : Nat) => ⟨[(18, .ptr 0 0)], [(0, .iter a0 x35)], [], 1⟩)
 (.exit 0) (fun (_ : U0) => ⟨[], [], [], 0⟩)
 (fun x35 => .brP (x35 < a0.size)
 (.cut 2 (fun (y48 : Bool) => ⟨[(18, .ptr 0 0), (38, .pure (.bool y48))], [(0, .iter a0 (x35 + (Utf8.decode a0 x35).2))], [], 1⟩)
 (.call (ozf ((Utf8.decode a0 x35).1 : Int)) [] fun y49 =>
 .br (!y49)
 (.br (((x35 : Nat) : Int) == 0)
 (.ret (.out true))
 (.call (pzo ((Utf8.decode a0 x35).1 : Int)) [] fun y50 =>
 .br (!y50)
 (.ret (.out (((Utf8.decode a0 x35).1 : Int) != 95)))
 (.ret (.out false))))
 (.ret (.out false))) fun y48 =>
 .br y48
 (.ret (.fin false))
 (.ret (.next (x35 + (Utf8.decode a0 x35).2))))
 (.ret (.out .u)))
 0 [] fun _ =>
 .ret true)
noncomputable def tz8 (a0 : ByteArray) : CallS Bool :=
  mkC [] hd Tryz.func127 (by kernel_rfl) (pzn a0) 0 [.pure (.str a0)] [] (fun r => .pure (.bool r)) (fun _ => []) (by kernel_rfl)
noncomputable def pzh (a0 : az8) (a1 : ByteArray) : T Int :=
 .loop (fun (x5 : Int) => ⟨[(1, .pure (.str a1)), (2, .ptr 0 0), (8, pz ((a0.Joints.length : Nat) : Int)), (9, pz x5)], [(0, .box [.pure (encL 12 az9 a0.Joints), .pure (encL 5 azb a0.Masses)])], [], 1⟩)
 (.exit 0) (fun (_ : U0) => ⟨[], [], [], 0⟩)
 (fun x5 => .br (decide (x5 < ((a0.Joints.length : Nat) : Int)))
 (.grd (0 ≤ x5 ∧ x5 < ((a0.Joints.length : Nat) : Int)) <|
 .br (((a0.Joints.getD ((x5).toNat) default).Name) == a1)
 (.ret (.fin x5))
 (.ret (.next (IntKind.i64.wrap (x5 + 1)))))
 (.ret (.out .u)))
 0 [] fun _ =>
 .ret (-1)
noncomputable def tz4 (a0 : az8) (a1 : ByteArray) : CallS Int :=
  mkC [] hd Tryz.func128 (by kernel_rfl) (pzh a0 a1) 0 [.pure (azw a0), .pure (.str a1)] [] (fun r => pz r) (fun _ => []) (by kernel_rfl)
noncomputable def mzk (a0 : (Int × Int × Int)) : T Bool :=
 .loop (fun (x13 : Int) => ⟨[(5, .pure (azg a0)), (6, pz x13)], [], [], 0⟩)
 (.exit 0) (fun (_ : U0) => ⟨[], [], [], 0⟩)
 (fun x13 => .br (decide (x13 < 3))
 (.grd (0 ≤ x13 ∧ x13 < ((3 : Nat) : Int)) <|
 .cut 0 (fun (y18 : Bool) => ⟨[(5, .pure (azg a0)), (6, pz x13), (14, .pure (.bool y18))], [], [], 0⟩)
 (.br (decide ((([a0.1, a0.2.1, a0.2.2] : List Int).getD (x13).toNat 0) < (-4194304)))
 (.ret (.out true))
 (.ret (.out (decide ((([a0.1, a0.2.1, a0.2.2] : List Int).getD (x13).toNat 0) > 4194304))))) fun y18 =>
 .br y18
 (.ret (.fin true))
 (.ret (.next (IntKind.i64.wrap (x13 + 1)))))
 (.ret (.out .u)))
 0 [] fun _ =>
 .ret false
noncomputable def mzj (a0 : (Int × Int × Int)) : CallS Bool :=
  mkC [] hd Tryz.func129 (by kernel_rfl) (mzk a0) 0 [.pure (azg a0)] [] (fun r => .pure (.bool r)) (fun _ => []) (by kernel_rfl)
noncomputable def nzx (a0 : Int) : T Int :=
 .cut 3 (fun (y3 : Bool) => ⟨[(3, pz a0), (4, .pure (.bool y3))], [], [], 0⟩)
 (.br (a0 == 1)
 (.ret (.out (a0 == 1)))
 (.br (a0 == 2)
 (.ret (.out (a0 == 2)))
 (.ret (.out (a0 == 3))))) fun y3 =>
 .br y3
 (.ret 524288)
 (.cut 0 (fun (y4 : Bool) => ⟨[(8, .pure (.bool y4))], [], [], 0⟩)
 (.br (a0 == 4)
 (.ret (.out (a0 == 4)))
 (.br (a0 == 5)
 (.ret (.out (a0 == 5)))
 (.ret (.out (a0 == 6))))) fun y4 =>
 .br y4
 (.ret 4194304)
 (.ret 0))
noncomputable def rzt (a0 : Int) : CallS Int :=
  mkC [] hd Tryz.func130 (by kernel_rfl) (nzx a0) 0 [pz a0] [] (fun r => pz r) (fun _ => []) (by kernel_rfl)
noncomputable def nzw (a0 : Int) (a1 : Int) : T Bool :=
 .br (decide (1 ≤ a0))
 (.ret (decide (a0 ≤ a1)))
 (.ret false)
noncomputable def hz4 (a0 : Int) (a1 : Int) : CallS Bool :=
  mkC [] hd Tryz.func131 (by kernel_rfl) (nzw a0 a1) 0 [pz a0, pz a1] [] (fun r => .pure (.bool r)) (fun _ => []) (by kernel_rfl)
noncomputable def izs (a0 : az8) (a1 : Int) : T Int :=
 .grd (0 ≤ a1 ∧ a1 < ((a0.Joints.length : Nat) : Int)) <|
 .cut 1 (fun (y16 : Bool) => ⟨[(1, pz a1), (5, .ptr 0 0), (12, .pure (.bool y16))], [(0, .box [.pure (.str ((a0.Joints.getD ((a1).toNat) default).Name)), pz ((a0.Joints.getD ((a1).toNat) default).Kind), pz ((a0.Joints.getD ((a1).toNat) default).Parent), pz ((a0.Joints.getD ((a1).toNat) default).Offset.1), pz ((a0.Joints.getD ((a1).toNat) default).Offset.2.1), pz ((a0.Joints.getD ((a1).toNat) default).Offset.2.2), pz ((a0.Joints.getD ((a1).toNat) default).Lo), pz ((a0.Joints.getD ((a1).toNat) default).Hi), pz ((a0.Joints.getD ((a1).toNat) default).Weight), pz ((a0.Joints.getD ((a1).toNat) default).Speed), pz ((a0.Joints.getD ((a1).toNat) default).Accel), pz ((a0.Joints.getD ((a1).toNat) default).Torque)])], [], 1⟩)
 (.call (tz8 ((a0.Joints.getD ((a1).toNat) default).Name)) [] fun y17 =>
 .br (!y17)
 (.ret (.out true))
 (.call (tz4 (⟨a0.Joints, a0.Masses⟩ : az8) ((a0.Joints.getD ((a1).toNat) default).Name)) [] fun y18 =>
 .ret (.out (y18 != a1)))) fun y16 =>
 .br y16
 (.ret 802)
 (.cut 0 (fun (y19 : Bool) => ⟨[(1, pz a1), (5, .ptr 0 0), (25, .pure (.bool y19))], [(0, .box [.pure (.str ((a0.Joints.getD ((a1).toNat) default).Name)), pz ((a0.Joints.getD ((a1).toNat) default).Kind), pz ((a0.Joints.getD ((a1).toNat) default).Parent), pz ((a0.Joints.getD ((a1).toNat) default).Offset.1), pz ((a0.Joints.getD ((a1).toNat) default).Offset.2.1), pz ((a0.Joints.getD ((a1).toNat) default).Offset.2.2), pz ((a0.Joints.getD ((a1).toNat) default).Lo), pz ((a0.Joints.getD ((a1).toNat) default).Hi), pz ((a0.Joints.getD ((a1).toNat) default).Weight), pz ((a0.Joints.getD ((a1).toNat) default).Speed), pz ((a0.Joints.getD ((a1).toNat) default).Accel), pz ((a0.Joints.getD ((a1).toNat) default).Torque)])], [], 1⟩)
 (.br (decide (((a0.Joints.getD ((a1).toNat) default).Kind) < 0))
 (.ret (.out true))
 (.ret (.out (decide (((a0.Joints.getD ((a1).toNat) default).Kind) > 6))))) fun y19 =>
 .br y19
 (.ret 803)
 (.cut 0 (fun (y20 : Bool) => ⟨[(5, .ptr 0 0), (34, .pure (.bool y20))], [(0, .box [.pure (.str ((a0.Joints.getD ((a1).toNat) default).Name)), pz ((a0.Joints.getD ((a1).toNat) default).Kind), pz ((a0.Joints.getD ((a1).toNat) default).Parent), pz ((a0.Joints.getD ((a1).toNat) default).Offset.1), pz ((a0.Joints.getD ((a1).toNat) default).Offset.2.1), pz ((a0.Joints.getD ((a1).toNat) default).Offset.2.2), pz ((a0.Joints.getD ((a1).toNat) default).Lo), pz ((a0.Joints.getD ((a1).toNat) default).Hi), pz ((a0.Joints.getD ((a1).toNat) default).Weight), pz ((a0.Joints.getD ((a1).toNat) default).Speed), pz ((a0.Joints.getD ((a1).toNat) default).Accel), pz ((a0.Joints.getD ((a1).toNat) default).Torque)])], [], 1⟩)
 (.br (decide (((a0.Joints.getD ((a1).toNat) default).Parent) < (-1)))
 (.ret (.out true))
 (.ret (.out (decide (((a0.Joints.getD ((a1).toNat) default).Parent) ≥ a1))))) fun y20 =>
 .br y20
 (.ret 804)
 (.call (mzj ((a0.Joints.getD ((a1).toNat) default).Offset)) [] fun y22 =>
 .br y22
 (.ret 805)
 (.call (rzt ((a0.Joints.getD ((a1).toNat) default).Kind)) [] fun y24 =>
 .cut 1 (fun (y26 : Bool) => ⟨[(5, .ptr 0 0), (68, .pure (.bool y26))], [(0, .box [.pure (.str ((a0.Joints.getD ((a1).toNat) default).Name)), pz ((a0.Joints.getD ((a1).toNat) default).Kind), pz ((a0.Joints.getD ((a1).toNat) default).Parent), pz ((a0.Joints.getD ((a1).toNat) default).Offset.1), pz ((a0.Joints.getD ((a1).toNat) default).Offset.2.1), pz ((a0.Joints.getD ((a1).toNat) default).Offset.2.2), pz ((a0.Joints.getD ((a1).toNat) default).Lo), pz ((a0.Joints.getD ((a1).toNat) default).Hi), pz ((a0.Joints.getD ((a1).toNat) default).Weight), pz ((a0.Joints.getD ((a1).toNat) default).Speed), pz ((a0.Joints.getD ((a1).toNat) default).Accel), pz ((a0.Joints.getD ((a1).toNat) default).Torque)])], [], 1⟩)
 (.br (decide (((a0.Joints.getD ((a1).toNat) default).Lo) > ((a0.Joints.getD ((a1).toNat) default).Hi)))
 (.ret (.out true))
 (.br (decide (((a0.Joints.getD ((a1).toNat) default).Lo) < (IntKind.i64.wrap (0 - y24))))
 (.ret (.out true))
 (.ret (.out (decide (((a0.Joints.getD ((a1).toNat) default).Hi) > y24)))))) fun y26 =>
 .br y26
 (.ret 806)
 (.cut 1 (fun (y48 : Bool) => ⟨[(90, .pure (.bool y48))], [], [], 0⟩)
 (.call (hz4 ((a0.Joints.getD ((a1).toNat) default).Weight) 1024) [] fun y49 =>
 .br (!y49)
 (.ret (.out true))
 (.call (hz4 ((a0.Joints.getD ((a1).toNat) default).Speed) 1048576) [] fun y50 =>
 .br (!y50)
 (.ret (.out true))
 (.call (hz4 ((a0.Joints.getD ((a1).toNat) default).Accel) 1048576) [] fun y51 =>
 .br (!y51)
 (.ret (.out true))
 (.call (hz4 ((a0.Joints.getD ((a1).toNat) default).Torque) 1099511627776) [] fun y52 =>
 .ret (.out (!y52)))))) fun y48 =>
 .br y48
 (.ret 807)
 (.ret 0))))))
noncomputable def mz1 (a0 : az8) (a1 : Int) : CallS Int :=
  mkC [] hd Tryz.func82 (by kernel_rfl) (izs a0 a1) 0 [.pure (azw a0), pz a1] [] (fun r => pz r) (fun _ => []) (by kernel_rfl)
noncomputable def jza (a0 : az8) (a1 : czc) : T Bool :=
 .br (decide (0 ≤ a1.Link))
 (.br (decide (a1.Link < ((a0.Joints.length : Nat) : Int)))
 (.call (hz4 a1.Mass 65536) [] fun y1 =>
 .br y1
 (.call (mzj a1.Point) [] fun y2 =>
 .ret (!y2))
 (.ret false))
 (.ret false))
 (.ret false)
noncomputable def nz1 (a0 : az8) (a1 : czc) : CallS Bool :=
  mkC [] hd Tryz.func85 (by kernel_rfl) (jza a0 a1) 0 [.pure (azw a0), .pure (azb a1)] [] (fun r => .pure (.bool r)) (fun _ => []) (by kernel_rfl)
noncomputable def lzi (a0 : czc) (a1 : (List azj)) (a2 : (List czc)) : T Bool :=
 .call (nz1 (⟨a1, a2⟩ : az8) (⟨a0.Link, a0.Mass, a0.Point⟩ : czc)) [] fun y1 =>
 .ret (!y1)
noncomputable def pzg (a0 : czc) (a1 : (List azj)) (a2 : (List czc)) : CallS Bool :=
  mkC [] hd Tryz.func84 (by kernel_rfl) (lzi a0 a1 a2) 1 [.pure (azb a0), .ptr 0 0] [(0, .box [.pure (encL 12 az9 a1), .pure (encL 5 azb a2)])] (fun r => .pure (.bool r)) (fun _ => [(0, .box [.pure (encL 12 az9 a1), .pure (encL 5 azb a2)])]) (by kernel_rfl)
noncomputable def cz2 (a0 : (List czc)) (a1 : (List azj)) (a2 : (List czc)) : T Int :=
 .loop (fun (x21 : Int) => ⟨[(0, .pure (encL 5 azb a0)), (1, .func 84 [] [.ptr 0 0]), (7, pz ((a0.length : Nat) : Int)), (8, pz x21)], [(0, .box [.pure (encL 12 az9 a1), .pure (encL 5 azb a2)])], [], 1⟩)
 (.exit 0) (fun (_ : U0) => ⟨[], [(0, .box [.pure (encL 12 az9 a1), .pure (encL 5 azb a2)])], [], 1⟩)
 (fun x21 => .br (decide (x21 < ((a0.length : Nat) : Int)))
 (.grd (0 ≤ x21 ∧ x21 < ((a0.length : Nat) : Int)) <|
 .call (pzg (a0.getD ((x21).toNat) default) a1 a2) [(0, 0)] fun y30 =>
 .br y30
 (.ret (.fin x21))
 (.ret (.next (IntKind.i64.wrap (x21 + 1)))))
 (.ret (.out .u)))
 0 [] fun _ =>
 .ret (-1)
noncomputable def ez7 (a0 : (List czc)) (a1 : (List azj)) (a2 : (List czc)) : CallS Int :=
  mkC [] hd Tryz.func132 (by kernel_rfl) (cz2 a0 a1 a2) 1 [.pure (encL 5 azb a0), .func 84 [] [.ptr 0 0]] [(0, .box [.pure (encL 12 az9 a1), .pure (encL 5 azb a2)])] (fun r => pz r) (fun _ => [(0, .box [.pure (encL 12 az9 a1), .pure (encL 5 azb a2)])]) (by kernel_rfl)
noncomputable def bzs (a0 : (List czc)) (a1 : (List azj)) (a2 : (List czc)) : T Bool :=
 .call (ez7 a0 a1 a2) [(0, 0)] fun y1 =>
 .ret (decide (y1 ≥ 0))
noncomputable def dzj (a0 : (List czc)) (a1 : (List azj)) (a2 : (List czc)) : CallS Bool :=
  mkC [] hd Tryz.func83 (by kernel_rfl) (bzs a0 a1 a2) 1 [.pure (encL 5 azb a0), .func 84 [] [.ptr 0 0]] [(0, .box [.pure (encL 12 az9 a1), .pure (encL 5 azb a2)])] (fun r => .pure (.bool r)) (fun _ => [(0, .box [.pure (encL 12 az9 a1), .pure (encL 5 azb a2)])]) (by kernel_rfl)
noncomputable def nzv (a0 : az8) : T Int :=
 .cut 2 (fun (y2 : Bool) => ⟨[(1, .ptr 0 0), (14, .pure (.bool y2))], [(0, .box [.pure (encL 12 az9 a0.Joints), .pure (encL 5 azb a0.Masses)])], [], 1⟩)
 (.br (((a0.Joints.length : Nat) : Int) == 0)
 (.ret (.out true))
 (.ret (.out (decide (((a0.Joints.length : Nat) : Int) > 10))))) fun y2 =>
 .br y2
 (.ret 801)
 (.loop (fun (x23 : Int) => ⟨[(1, .ptr 0 0), (17, pz ((a0.Joints.length : Nat) : Int)), (18, pz x23)], [(0, .box [.pure (encL 12 az9 a0.Joints), .pure (encL 5 azb a0.Masses)])], [], 1⟩)
 (.exit 0) (fun (_ : U0) => ⟨[(1, .ptr 0 0)], [(0, .box [.pure (encL 12 az9 a0.Joints), .pure (encL 5 azb a0.Masses)])], [], 1⟩)
 (fun x23 => .br (decide (x23 < ((a0.Joints.length : Nat) : Int)))
 (.call (mz1 (⟨a0.Joints, a0.Masses⟩ : az8) x23) [] fun y32 =>
 .br (y32 != 0)
 (.ret (.fin y32))
 (.ret (.next (IntKind.i64.wrap (x23 + 1)))))
 (.ret (.out .u)))
 0 [] fun _ =>
 .cut 1 (fun (y39 : Bool) => ⟨[(37, .pure (.bool y39))], [], [], 0⟩)
 (.br (decide (((a0.Masses.length : Nat) : Int) > 32))
 (.ret (.out true))
 (.call (dzj a0.Masses a0.Joints a0.Masses) [(0, 0)] fun y40 =>
 .ret (.out y40))) fun y39 =>
 .br y39
 (.ret 808)
 (.ret 0))
noncomputable def hz3 (a0 : az8) : CallS Int :=
  mkC [] hd Tryz.func40 (by kernel_rfl) (nzv a0) 0 [.pure (azw a0)] [] (fun r => pz r) (fun _ => []) (by kernel_rfl)
noncomputable def jz1 (a0 : azj) (a1 : Int) : T Bool :=
 .br (decide (a0.Lo ≤ a1))
 (.ret (decide (a1 ≤ a0.Hi)))
 (.ret false)
noncomputable def mzs (a0 : azj) (a1 : Int) : CallS Bool :=
  mkC [] hd Tryz.func106 (by kernel_rfl) (jz1 a0 a1) 0 [.pure (az9 a0), pz a1] [] (fun r => .pure (.bool r)) (fun _ => []) (by kernel_rfl)
noncomputable def dze (a0 : (List azj)) (a1 : (List Int)) : T Bool :=
 .br (((a0.length : Nat) : Int) != ((a1.length : Nat) : Int))
 (.ret false)
 (.loop (fun (x21 : Int) => ⟨[(1, .pure (encL 1 az0 a1)), (2, .func 106 [] []), (14, .pure (encL 12 az9 a0)), (15, pz ((a0.length : Nat) : Int)), (16, pz x21)], [], [], 0⟩)
 (.exit 0) (fun (_ : U0) => ⟨[], [], [], 0⟩)
 (fun x21 => .br (decide (x21 < ((a0.length : Nat) : Int)))
 (.grd (0 ≤ x21 ∧ x21 < ((a0.length : Nat) : Int)) <|
 .grd (0 ≤ x21 ∧ x21 < ((a1.length : Nat) : Int)) <|
 .call (mzs (a0.getD ((x21).toNat) default) (a1.getD ((x21).toNat) default)) [] fun y30 =>
 .br (!y30)
 (.ret (.fin false))
 (.ret (.next (IntKind.i64.wrap (x21 + 1)))))
 (.ret (.out .u)))
 0 [] fun _ =>
 .ret true)
noncomputable def fzi (a0 : (List azj)) (a1 : (List Int)) : CallS Bool :=
  mkC [] hd Tryz.func105 (by kernel_rfl) (dze a0 a1) 0 [.pure (encL 12 az9 a0), .pure (encL 1 az0 a1), .func 106 [] []] [] (fun r => .pure (.bool r)) (fun _ => []) (by kernel_rfl)
noncomputable def lz1 (a0 : az8) (a1 : (List Int)) : T Bool :=
 .call (hz3 a0) [] fun y1 =>
 .br (y1 == 0)
 (.call (fzi a0.Joints a1) [] fun y2 =>
 .ret y2)
 (.ret false)
noncomputable def lz0 (a0 : az8) (a1 : (List Int)) : CallS Bool :=
  mkC [] hd Tryz.func66 (by kernel_rfl) (lz1 a0 a1) 0 [.pure (azw a0), .pure (encL 1 az0 a1)] [] (fun r => .pure (.bool r)) (fun _ => []) (by kernel_rfl)
noncomputable def ezn (a0 : (List Int)) : T (List Int) :=
  (match a0 with
   | [] => .unroll 1 <|
   .grd (a0.length = 0) <|
   .both
    (.ret nl)
    (.conv 3000 (ezu 1 az0 ([] : (List Int)) 2) <|
    .conv 3002 (gzg 1 az0 ([] : (List Int)) a0 2) <|
    .grd ((([] : (List Int)).length + a0.length) * 8 ≤ 140737488355328 ∧ (([] : (List Int)).length + a0.length) ≤ maxLen) <|
    .ret (([] : (List Int)) ++ a0))
   | _ :: _ => .grd (0 < a0.length) <|
   .conv 3000 (ezu 1 az0 ([] : (List Int)) 2) <|
   .conv 3002 (gzg 1 az0 ([] : (List Int)) a0 2) <|
   .grd ((([] : (List Int)).length + a0.length) * 8 ≤ 140737488355328 ∧ (([] : (List Int)).length + a0.length) ≤ maxLen) <|
   .ret (([] : (List Int)) ++ a0))
noncomputable def bzb (a0 : (List Int)) : CallS (List Int) :=
  mkH [] hd Tryz.func70 (by kernel_rfl) (ezn a0) 0 [.pure (encL 1 az0 a0)] [] (fun r => .pure (encL 1 az0 r)) (fun _ => []) (by cases a0 <;> exact Ob.of_side (by kernel_rfl))
set_option maxHeartbeats 8000000 in
set_option maxRecDepth 20000 in
noncomputable def izp (a0 : az8) (a1 : (List (List Int))) : T (List (List Int)) :=
 .loop (fun (x69 : ((List (List Int)) × (List ((Int × Int × Int × Int × Int × Int × Int × Int × Int × Int) × Bool)) × Int)) => ⟨[(2, .ptr 0 0), (5, .vec 1), (6, .map 2), (11, .pure (encL 1 (encL 1 az0) a1)), (12, pz ((a1.length : Nat) : Int)), (13, pz x69.2.2)], [(0, .box [.pure (encL 12 az9 a0.Joints), .pure (encL 5 azb a0.Masses)]), (1, vecO 1 (encL 1 az0) x69.1 40), (2, szz [.int .i64 0, .int .i64 0, .int .i64 0, .int .i64 0, .int .i64 0, .int .i64 0, .int .i64 0, .int .i64 0, .int .i64 0, .int .i64 0] azo x69.2.1)], [], 3⟩)
 (.exit 0) (fun (y86 : (List (List Int))) => ⟨[(5, .vec 0)], [(0, vecO 1 (encL 1 az0) y86 40)], [], 1⟩)
 (fun x69 => .br (decide (x69.2.2 < ((a1.length : Nat) : Int)))
 (.cut 0 (fun (y97 : ((List (List Int)) × (List ((Int × Int × Int × Int × Int × Int × Int × Int × Int × Int) × Bool)))) => ⟨[(2, .ptr 0 0), (5, .vec 1), (6, .map 2), (11, .pure (encL 1 (encL 1 az0) a1)), (12, pz ((a1.length : Nat) : Int)), (13, pz x69.2.2)], [(0, .box [.pure (encL 12 az9 a0.Joints), .pure (encL 5 azb a0.Masses)]), (1, vecO 1 (encL 1 az0) y97.1 40), (2, szz [.int .i64 0, .int .i64 0, .int .i64 0, .int .i64 0, .int .i64 0, .int .i64 0, .int .i64 0, .int .i64 0, .int .i64 0, .int .i64 0] azo y97.2)], [], 3⟩)
 (.grd (0 ≤ x69.2.2 ∧ x69.2.2 < ((a1.length : Nat) : Int)) <|
 .br (((x69.1.length : Nat) : Int) == 1024)
 (.ret (.fin (.out x69.1)))
 (.call (lz0 (⟨a0.Joints, a0.Masses⟩ : az8) (a1.getD ((x69.2.2).toNat) default)) [] fun y101 =>
 .br (!y101)
 (.ret (.out (x69.1, x69.2.1)))
 (.ok ((mdom azo x69.2.1 (azo ((if 0 < (a1.getD ((x69.2.2).toNat) default).length then (a1.getD ((x69.2.2).toNat) default).getD 0 default else 0), (if 1 < (a1.getD ((x69.2.2).toNat) default).length then (a1.getD ((x69.2.2).toNat) default).getD 1 default else 0), (if 2 < (a1.getD ((x69.2.2).toNat) default).length then (a1.getD ((x69.2.2).toNat) default).getD 2 default else 0), (if 3 < (a1.getD ((x69.2.2).toNat) default).length then (a1.getD ((x69.2.2).toNat) default).getD 3 default else 0), (if 4 < (a1.getD ((x69.2.2).toNat) default).length then (a1.getD ((x69.2.2).toNat) default).getD 4 default else 0), (if 5 < (a1.getD ((x69.2.2).toNat) default).length then (a1.getD ((x69.2.2).toNat) default).getD 5 default else 0), (if 6 < (a1.getD ((x69.2.2).toNat) default).length then (a1.getD ((x69.2.2).toNat) default).getD 6 default else 0), (if 7 < (a1.getD ((x69.2.2).toNat) default).length then (a1.getD ((x69.2.2).toNat) default).getD 7 default else 0), (if 8 < (a1.getD ((x69.2.2).toNat) default).length then (a1.getD ((x69.2.2).toNat) default).getD 8 default else 0), (if 9 < (a1.getD ((x69.2.2).toNat) default).length then (a1.getD ((x69.2.2).toNat) default).getD 9 default else 0)))) = false → PVal.bool (nzo azo x69.2.1 (azo ((if 0 < (a1.getD ((x69.2.2).toNat) default).length then (a1.getD ((x69.2.2).toNat) default).getD 0 default else 0), (if 1 < (a1.getD ((x69.2.2).toNat) default).length then (a1.getD ((x69.2.2).toNat) default).getD 1 default else 0), (if 2 < (a1.getD ((x69.2.2).toNat) default).length then (a1.getD ((x69.2.2).toNat) default).getD 2 default else 0), (if 3 < (a1.getD ((x69.2.2).toNat) default).length then (a1.getD ((x69.2.2).toNat) default).getD 3 default else 0), (if 4 < (a1.getD ((x69.2.2).toNat) default).length then (a1.getD ((x69.2.2).toNat) default).getD 4 default else 0), (if 5 < (a1.getD ((x69.2.2).toNat) default).length then (a1.getD ((x69.2.2).toNat) default).getD 5 default else 0), (if 6 < (a1.getD ((x69.2.2).toNat) default).length then (a1.getD ((x69.2.2).toNat) default).getD 6 default else 0), (if 7 < (a1.getD ((x69.2.2).toNat) default).length then (a1.getD ((x69.2.2).toNat) default).getD 7 default else 0), (if 8 < (a1.getD ((x69.2.2).toNat) default).length then (a1.getD ((x69.2.2).toNat) default).getD 8 default else 0), (if 9 < (a1.getD ((x69.2.2).toNat) default).length then (a1.getD ((x69.2.2).toNat) default).getD 9 default else 0)))) = .bool false) Dzs <|
 .br (!(nzo azo x69.2.1 (azo ((if 0 < (a1.getD ((x69.2.2).toNat) default).length then (a1.getD ((x69.2.2).toNat) default).getD 0 default else 0), (if 1 < (a1.getD ((x69.2.2).toNat) default).length then (a1.getD ((x69.2.2).toNat) default).getD 1 default else 0), (if 2 < (a1.getD ((x69.2.2).toNat) default).length then (a1.getD ((x69.2.2).toNat) default).getD 2 default else 0), (if 3 < (a1.getD ((x69.2.2).toNat) default).length then (a1.getD ((x69.2.2).toNat) default).getD 3 default else 0), (if 4 < (a1.getD ((x69.2.2).toNat) default).length then (a1.getD ((x69.2.2).toNat) default).getD 4 default else 0), (if 5 < (a1.getD ((x69.2.2).toNat) default).length then (a1.getD ((x69.2.2).toNat) default).getD 5 default else 0), (if 6 < (a1.getD ((x69.2.2).toNat) default).length then (a1.getD ((x69.2.2).toNat) default).getD 6 default else 0), (if 7 < (a1.getD ((x69.2.2).toNat) default).length then (a1.getD ((x69.2.2).toNat) default).getD 7 default else 0), (if 8 < (a1.getD ((x69.2.2).toNat) default).length then (a1.getD ((x69.2.2).toNat) default).getD 8 default else 0), (if 9 < (a1.getD ((x69.2.2).toNat) default).length then (a1.getD ((x69.2.2).toNat) default).getD 9 default else 0)))))
 (.conv 11002 (Hz0 [.int .i64 0, .int .i64 0, .int .i64 0, .int .i64 0, .int .i64 0, .int .i64 0, .int .i64 0, .int .i64 0, .int .i64 0, .int .i64 0] azo x69.2.1 ((if 0 < (a1.getD ((x69.2.2).toNat) default).length then (a1.getD ((x69.2.2).toNat) default).getD 0 default else 0), (if 1 < (a1.getD ((x69.2.2).toNat) default).length then (a1.getD ((x69.2.2).toNat) default).getD 1 default else 0), (if 2 < (a1.getD ((x69.2.2).toNat) default).length then (a1.getD ((x69.2.2).toNat) default).getD 2 default else 0), (if 3 < (a1.getD ((x69.2.2).toNat) default).length then (a1.getD ((x69.2.2).toNat) default).getD 3 default else 0), (if 4 < (a1.getD ((x69.2.2).toNat) default).length then (a1.getD ((x69.2.2).toNat) default).getD 4 default else 0), (if 5 < (a1.getD ((x69.2.2).toNat) default).length then (a1.getD ((x69.2.2).toNat) default).getD 5 default else 0), (if 6 < (a1.getD ((x69.2.2).toNat) default).length then (a1.getD ((x69.2.2).toNat) default).getD 6 default else 0), (if 7 < (a1.getD ((x69.2.2).toNat) default).length then (a1.getD ((x69.2.2).toNat) default).getD 7 default else 0), (if 8 < (a1.getD ((x69.2.2).toNat) default).length then (a1.getD ((x69.2.2).toNat) default).getD 8 default else 0), (if 9 < (a1.getD ((x69.2.2).toNat) default).length then (a1.getD ((x69.2.2).toNat) default).getD 9 default else 0)) true) <|
 .call (bzb (a1.getD ((x69.2.2).toNat) default)) [] fun y102 =>
 .conv 12003 (ezu 1 (encL 1 az0) ([y102] : (List (List Int))) 40) <|
 .conv 12004 (gzg 1 (encL 1 az0) x69.1 ([y102] : (List (List Int))) 40) <|
 .grd ((x69.1.length + ([y102] : (List (List Int))).length) * 24 ≤ 140737488355328 ∧ (x69.1.length + ([y102] : (List (List Int))).length) ≤ maxLen) <|
 .ret (.out ((x69.1 ++ ([y102] : (List (List Int)))), ((((if 0 < (a1.getD ((x69.2.2).toNat) default).length then (a1.getD ((x69.2.2).toNat) default).getD 0 default else 0), (if 1 < (a1.getD ((x69.2.2).toNat) default).length then (a1.getD ((x69.2.2).toNat) default).getD 1 default else 0), (if 2 < (a1.getD ((x69.2.2).toNat) default).length then (a1.getD ((x69.2.2).toNat) default).getD 2 default else 0), (if 3 < (a1.getD ((x69.2.2).toNat) default).length then (a1.getD ((x69.2.2).toNat) default).getD 3 default else 0), (if 4 < (a1.getD ((x69.2.2).toNat) default).length then (a1.getD ((x69.2.2).toNat) default).getD 4 default else 0), (if 5 < (a1.getD ((x69.2.2).toNat) default).length then (a1.getD ((x69.2.2).toNat) default).getD 5 default else 0), (if 6 < (a1.getD ((x69.2.2).toNat) default).length then (a1.getD ((x69.2.2).toNat) default).getD 6 default else 0), (if 7 < (a1.getD ((x69.2.2).toNat) default).length then (a1.getD ((x69.2.2).toNat) default).getD 7 default else 0), (if 8 < (a1.getD ((x69.2.2).toNat) default).length then (a1.getD ((x69.2.2).toNat) default).getD 8 default else 0), (if 9 < (a1.getD ((x69.2.2).toNat) default).length then (a1.getD ((x69.2.2).toNat) default).getD 9 default else 0)), true) :: x69.2.1))))
 (.ret (.out (x69.1, x69.2.1)))))) fun y97 =>
 .ret (.next (y97.1, y97.2, (IntKind.i64.wrap (x69.2.2 + 1)))))
 (.ret (.out x69.1)))
 (nl, (nl : List ((Int × Int × Int × Int × Int × Int × Int × Int × Int × Int) × Bool)), 0) [] fun y86 =>
 .ret y86
noncomputable def izo (a0 : az8) (a1 : (List (List Int))) : CallS (List (List Int)) :=
  mkC [] hd Tryz.func41 (by kernel_rfl) (izp a0 a1) 0 [.pure (azw a0), .pure (encL 1 (encL 1 az0) a1)] [] (fun r => .pure (encL 1 (encL 1 az0) r)) (fun _ => []) (by kernel_rfl)
noncomputable def kz0 (a0 : (List Int)) : T Bool :=
 .loop (fun (x13 : Int) => ⟨[(5, .pure (encL 1 az0 a0)), (6, pz ((a0.length : Nat) : Int)), (7, pz x13)], [], [], 0⟩)
 (.exit 0) (fun (_ : U0) => ⟨[], [], [], 0⟩)
 (fun x13 => .br (decide (x13 < ((a0.length : Nat) : Int)))
 (.grd (0 ≤ x13 ∧ x13 < ((a0.length : Nat) : Int)) <|
 .cut 0 (fun (y18 : Bool) => ⟨[(5, .pure (encL 1 az0 a0)), (6, pz ((a0.length : Nat) : Int)), (7, pz x13), (16, .pure (.bool y18))], [], [], 0⟩)
 (.br (decide ((a0.getD ((x13).toNat) default) < (-2147483648)))
 (.ret (.out true))
 (.ret (.out (decide ((a0.getD ((x13).toNat) default) > 2147483648))))) fun y18 =>
 .br y18
 (.ret (.fin false))
 (.ret (.next (IntKind.i64.wrap (x13 + 1)))))
 (.ret (.out .u)))
 0 [] fun _ =>
 .ret true
noncomputable def hzo (a0 : (List Int)) : CallS Bool :=
  mkC [] hd Tryz.func139 (by kernel_rfl) (kz0 a0) 0 [.pure (encL 1 az0 a0)] [] (fun r => .pure (.bool r)) (fun _ => []) (by kernel_rfl)
noncomputable def gz1 (a0 : (List (List Int))) : T Bool :=
 .br (decide (((a0.length : Nat) : Int) > 1024))
 (.ret false)
 (.loop (fun (x37 : Int) => ⟨[(0, .pure (encL 1 (encL 1 az0) a0)), (8, .pure (encL 1 (encL 1 az0) a0)), (9, pz ((a0.length : Nat) : Int)), (10, pz x37)], [], [], 0⟩)
 (.exit 0) (fun (_ : U0) => ⟨[], [], [], 0⟩)
 (fun x37 => .br (decide (x37 < ((a0.length : Nat) : Int)))
 (.grd (0 ≤ x37 ∧ x37 < ((a0.length : Nat) : Int)) <|
 .cut 0 (fun (y53 : Bool) => ⟨[(0, .pure (encL 1 (encL 1 az0) a0)), (8, .pure (encL 1 (encL 1 az0) a0)), (9, pz ((a0.length : Nat) : Int)), (10, pz x37), (35, .pure (.bool y53))], [], [], 0⟩)
 (.br (decide ((((a0.getD ((x37).toNat) default).length : Nat) : Int) < 1))
 (.ret (.out true))
 (.br (decide ((((a0.getD ((x37).toNat) default).length : Nat) : Int) > 10))
 (.ret (.out true))
 (.grd (0 ≤ (0 : Int) ∧ (0 : Int) < ((a0.length : Nat) : Int)) <|
 .br ((((a0.getD ((x37).toNat) default).length : Nat) : Int) != (((a0.getD ((0 : Int).toNat) default).length : Nat) : Int))
 (.ret (.out true))
 (.call (hzo (a0.getD ((x37).toNat) default)) [] fun y54 =>
 .ret (.out (!y54)))))) fun y53 =>
 .br y53
 (.ret (.fin false))
 (.ret (.next (IntKind.i64.wrap (x37 + 1)))))
 (.ret (.out .u)))
 0 [] fun _ =>
 .ret true)
noncomputable def gz0 (a0 : (List (List Int))) : CallS Bool :=
  mkC [] hd Tryz.func118 (by kernel_rfl) (gz1 a0) 0 [.pure (encL 1 (encL 1 az0) a0)] [] (fun r => .pure (.bool r)) (fun _ => []) (by kernel_rfl)
noncomputable def fz9 (a0 : Int) : T Int :=
 .cut 1 (fun (y5 : (Int × Int)) => ⟨[(0, .pure (.int .u64 y5.1)), (2, pz y5.2)], [], [], 0⟩)
 (.br (decide (a0 ≥ 4294967296))
 (.ok (0 ≤ (32 : Int)) (by decide) <|
 .ret (.out ((a0.fdiv (2 ^ (min (32 : Int).toNat 64))), 32)))
 (.ret (.out (a0, 0)))) fun y5 =>
 .cut 0 (fun (y6 : (Int × Int)) => ⟨[(0, .pure (.int .u64 y6.1)), (2, pz y6.2)], [], [], 0⟩)
 (.br (decide (y5.1 ≥ 65536))
 (.ok (0 ≤ (16 : Int)) (by decide) <|
 .ret (.out ((y5.1.fdiv (2 ^ (min (16 : Int).toNat 64))), (IntKind.i64.wrap (y5.2 + 16)))))
 (.ret (.out (y5.1, y5.2)))) fun y6 =>
 .cut 0 (fun (y7 : (Int × Int)) => ⟨[(0, .pure (.int .u64 y7.1)), (2, pz y7.2)], [], [], 0⟩)
 (.br (decide (y6.1 ≥ 256))
 (.ok (0 ≤ (8 : Int)) (by decide) <|
 .ret (.out ((y6.1.fdiv (2 ^ (min (8 : Int).toNat 64))), (IntKind.i64.wrap (y6.2 + 8)))))
 (.ret (.out (y6.1, y6.2)))) fun y7 =>
 .grd (0 ≤ (IntKind.u8.wrap y7.1) ∧ (IntKind.u8.wrap y7.1) < (((⟨#[0, 1, 2, 2, 3, 3, 3, 3, 4, 4, 4, 4, 4, 4, 4, 4, 5, 5, 5, 5, 5, 5, 5, 5, 5, 5, 5, 5, 5, 5, 5, 5, 6, 6, 6, 6, 6, 6, 6, 6, 6, 6, 6, 6, 6, 6, 6, 6, 6, 6, 6, 6, 6, 6, 6, 6, 6, 6, 6, 6, 6, 6, 6, 6, 7, 7, 7, 7, 7, 7, 7, 7, 7, 7, 7, 7, 7, 7, 7, 7, 7, 7, 7, 7, 7, 7, 7, 7, 7, 7, 7, 7, 7, 7, 7, 7, 7, 7, 7, 7, 7, 7, 7, 7, 7, 7, 7, 7, 7, 7, 7, 7, 7, 7, 7, 7, 7, 7, 7, 7, 7, 7, 7, 7, 7, 7, 7, 7, 8, 8, 8, 8, 8, 8, 8, 8, 8, 8, 8, 8, 8, 8, 8, 8, 8, 8, 8, 8, 8, 8, 8, 8, 8, 8, 8, 8, 8, 8, 8, 8, 8, 8, 8, 8, 8, 8, 8, 8, 8, 8, 8, 8, 8, 8, 8, 8, 8, 8, 8, 8, 8, 8, 8, 8, 8, 8, 8, 8, 8, 8, 8, 8, 8, 8, 8, 8, 8, 8, 8, 8, 8, 8, 8, 8, 8, 8, 8, 8, 8, 8, 8, 8, 8, 8, 8, 8, 8, 8, 8, 8, 8, 8, 8, 8, 8, 8, 8, 8, 8, 8, 8, 8, 8, 8, 8, 8, 8, 8, 8, 8, 8, 8, 8, 8, 8, 8, 8, 8, 8, 8, 8, 8, 8, 8, 8, 8]⟩ : ByteArray).size : Nat) : Int)) <|
 .name 10003 ((((⟨#[0, 1, 2, 2, 3, 3, 3, 3, 4, 4, 4, 4, 4, 4, 4, 4, 5, 5, 5, 5, 5, 5, 5, 5, 5, 5, 5, 5, 5, 5, 5, 5, 6, 6, 6, 6, 6, 6, 6, 6, 6, 6, 6, 6, 6, 6, 6, 6, 6, 6, 6, 6, 6, 6, 6, 6, 6, 6, 6, 6, 6, 6, 6, 6, 7, 7, 7, 7, 7, 7, 7, 7, 7, 7, 7, 7, 7, 7, 7, 7, 7, 7, 7, 7, 7, 7, 7, 7, 7, 7, 7, 7, 7, 7, 7, 7, 7, 7, 7, 7, 7, 7, 7, 7, 7, 7, 7, 7, 7, 7, 7, 7, 7, 7, 7, 7, 7, 7, 7, 7, 7, 7, 7, 7, 7, 7, 7, 7, 8, 8, 8, 8, 8, 8, 8, 8, 8, 8, 8, 8, 8, 8, 8, 8, 8, 8, 8, 8, 8, 8, 8, 8, 8, 8, 8, 8, 8, 8, 8, 8, 8, 8, 8, 8, 8, 8, 8, 8, 8, 8, 8, 8, 8, 8, 8, 8, 8, 8, 8, 8, 8, 8, 8, 8, 8, 8, 8, 8, 8, 8, 8, 8, 8, 8, 8, 8, 8, 8, 8, 8, 8, 8, 8, 8, 8, 8, 8, 8, 8, 8, 8, 8, 8, 8, 8, 8, 8, 8, 8, 8, 8, 8, 8, 8, 8, 8, 8, 8, 8, 8, 8, 8, 8, 8, 8, 8, 8, 8, 8, 8, 8, 8, 8, 8, 8, 8, 8, 8, 8, 8, 8, 8, 8, 8, 8, 8]⟩ : ByteArray).data.getD ((IntKind.u8.wrap y7.1)).toNat 0).toNat : Int)) fun z8 =>
 .ret (IntKind.i64.wrap (y7.2 + (IntKind.i64.wrap z8)))
noncomputable def eza (a0 : Int) : CallS Int :=
  mkC [] hd Tryz.func156 (by kernel_rfl) (fz9 a0) 0 [.pure (.int .u64 a0)] [] (fun r => pz r) (fun _ => []) (by kernel_rfl)
noncomputable def lz5 (a0 : Int) : T Int :=
 .call (eza a0) [] fun y1 =>
 .ret y1
noncomputable def fza (a0 : Int) : CallS Int :=
  mkC [] hd Tryz.func124 (by kernel_rfl) (lz5 a0) 0 [.pure (.int .u64 a0)] [] (fun r => pz r) (fun _ => []) (by kernel_rfl)
noncomputable def sza (a0 : Int) : T Bool :=
 .ret (a0 != a0)
noncomputable def izy (a0 : Int) : CallS Bool :=
  mkC [] hd Tryz.func141 (by kernel_rfl) (sza a0) 0 [pz a0] [] (fun r => .pure (.bool r)) (fun _ => []) (by kernel_rfl)
noncomputable def iz0 (a0 : Int) (a1 : Int) : T Int :=
 .call (izy a0) [] fun y2 =>
 .call (izy a1) [] fun y4 =>
 .br y2
 (.br y4
 (.ret 0)
 (.ret (-1)))
 (.br y4
 (.ret 1)
 (.br (decide (a0 < a1))
 (.ret (-1))
 (.br (decide (a0 > a1))
 (.ret 1)
 (.ret 0))))
noncomputable def hzy (a0 : Int) (a1 : Int) : CallS Int :=
  mkC [] hd Tryz.func110 (by kernel_rfl) (iz0 a0 a1) 0 [pz a0, pz a1] [] (fun r => pz r) (fun _ => []) (by kernel_rfl)
noncomputable def tzy (a0 : Int) : T Bool :=
 .ret (a0 != a0)
noncomputable def kzz (a0 : Int) : CallS Bool :=
  mkC [] hd Tryz.func134 (by kernel_rfl) (tzy a0) 0 [pz a0] [] (fun r => .pure (.bool r)) (fun _ => []) (by kernel_rfl)
noncomputable def izx (a0 : Int) (a1 : Int) : T Int :=
 .call (kzz a0) [] fun y2 =>
 .call (kzz a1) [] fun y4 =>
 .br y2
 (.br y4
 (.ret 0)
 (.ret (-1)))
 (.br y4
 (.ret 1)
 (.br (decide (a0 < a1))
 (.ret (-1))
 (.br (decide (a0 > a1))
 (.ret 1)
 (.ret 0))))
noncomputable def bz6 (a0 : Int) (a1 : Int) : CallS Int :=
  mkC [] hd Tryz.func89 (by kernel_rfl) (izx a0 a1) 0 [pz a0, pz a1] [] (fun r => pz r) (fun _ => []) (by kernel_rfl)
noncomputable def ozk (a0 : (List Int)) : T Int :=
 .loop (fun (x5 : Int) => ⟨[(3, pz 0), (6, .pure (encL 1 az0 a0)), (7, pz ((a0.length : Nat) : Int)), (8, pz x5)], [], [], 0⟩)
 (.exit 0) (fun (_ : U0) => ⟨[(3, pz 0)], [], [], 0⟩)
 (fun x5 => .br (decide (x5 < ((a0.length : Nat) : Int)))
 (.grd (0 ≤ x5 ∧ x5 < ((a0.length : Nat) : Int)) <|
 .br ((a0.getD ((x5).toNat) default) != 0)
 (.ret (.fin (a0.getD ((x5).toNat) default)))
 (.ret (.next (IntKind.i64.wrap (x5 + 1)))))
 (.ret (.out .u)))
 0 [] fun _ =>
 .ret 0
noncomputable def lzp (a0 : (List Int)) : CallS Int :=
  mkC [] hd Tryz.func88 (by kernel_rfl) (ozk a0) 0 [.pure (encL 1 az0 a0)] [] (fun r => pz r) (fun _ => []) (by kernel_rfl)
noncomputable def jzz (a0 : (List (List Int))) (a1 : Int) (a2 : Int) (a3 : Int) : T Int :=
 .grd (0 ≤ a2 ∧ a2 < ((a0.length : Nat) : Int)) <|
 .grd (0 ≤ a1 ∧ a1 < (((a0.getD ((a2).toNat) default).length : Nat) : Int)) <|
 .grd (0 ≤ a3 ∧ a3 < ((a0.length : Nat) : Int)) <|
 .grd (0 ≤ a1 ∧ a1 < (((a0.getD ((a3).toNat) default).length : Nat) : Int)) <|
 .call (hzy ((a0.getD ((a2).toNat) default).getD ((a1).toNat) default) ((a0.getD ((a3).toNat) default).getD ((a1).toNat) default)) [] fun y1 =>
 .call (bz6 a2 a3) [] fun y2 =>
 .conv 1018 (ezu 1 az0 ([y1, y2] : (List Int)) 3) <|
 .call (lzp ([y1, y2] : (List Int))) [] fun y3 =>
 .ret y3
noncomputable def hzn (a0 : (List (List Int))) (a1 : Int) (a2 : Int) (a3 : Int) : CallS Int :=
  mkC [] hd Tryz.func122 (by kernel_rfl) (jzz a0 a1 a2 a3) 0 [.pure (encL 1 (encL 1 az0) a0), pz a1, pz a2, pz a3] [] (fun r => pz r) (fun _ => []) (by kernel_rfl)
noncomputable def hz8 (a0 : Int) (a1 : Int) (a2 : (List (List Int))) (a3 : Int) : T Int :=
 .call (hzn a2 a3 a0 a1) [] fun y1 =>
 .ret y1
noncomputable def azm (a0 : Int) (a1 : Int) (a2 : (List (List Int))) (a3 : Int) : CallS Int :=
  mkC [] hd Tryz.func121 (by kernel_rfl) (hz8 a0 a1 a2 a3) 2 [pz a0, pz a1, .ptr 0 0, .ptr 1 0] [(0, .box [.pure (encL 1 (encL 1 az0) a2)]), (1, .box [pz a3])] (fun r => pz r) (fun _ => [(0, .box [.pure (encL 1 (encL 1 az0) a2)]), (1, .box [pz a3])]) (by kernel_rfl)
noncomputable def czu (a0 : (List Int)) (a1 : Nat) (a2 : Nat) (a3 : Int) (a4 : Int) (a5 : (List (List Int))) (a6 : Int) : T (List Int) :=
 .loop (fun (x221 : ((List Int) × Int)) => ⟨[(0, .view 0 1 a1 a2), (1, pz a3), (2, pz a4), (3, .func 121 [] [.ptr 1 0, .ptr 2 0]), (8, pz x221.2)], [(0, vecO 1 az0 x221.1 3), (1, .box [.pure (encL 1 (encL 1 az0) a5)]), (2, .box [pz a6])], [], 3⟩)
 (.exit 0) (fun (y276 : (List Int)) => ⟨[], [(0, vecO 1 az0 y276 3), (1, .box [.pure (encL 1 (encL 1 az0) a5)]), (2, .box [pz a6])], [], 3⟩)
 (fun x221 => .br (decide (x221.2 < a4))
 (.loop (fun (x313 : ((List Int) × Int)) => ⟨[(0, .view 0 1 a1 a2), (1, pz a3), (2, pz a4), (3, .func 121 [] [.ptr 1 0, .ptr 2 0]), (8, pz x221.2), (9, pz x313.2)], [(0, vecO 1 az0 x313.1 3), (1, .box [.pure (encL 1 (encL 1 az0) a5)]), (2, .box [pz a6])], [], 3⟩)
 (.exit 2) (fun (y322 : (List Int)) => ⟨[(0, .view 0 1 a1 a2), (1, pz a3), (2, pz a4), (3, .func 121 [] [.ptr 1 0, .ptr 2 0]), (8, pz x221.2)], [(0, vecO 1 az0 y322 3), (1, .box [.pure (encL 1 (encL 1 az0) a5)]), (2, .box [pz a6])], [], 3⟩)
 (fun x313 => .cut 1 (fun (y329 : Bool) => ⟨[(0, .view 0 1 a1 a2), (1, pz a3), (2, pz a4), (3, .func 121 [] [.ptr 1 0, .ptr 2 0]), (8, pz x221.2), (9, pz x313.2), (34, .pure (.bool y329))], [(0, vecO 1 az0 x313.1 3), (1, .box [.pure (encL 1 (encL 1 az0) a5)]), (2, .box [pz a6])], [], 3⟩)
 (.br (decide (x313.2 > a3))
 (.grd (0 ≤ x313.2 ∧ x313.2 < ((a2 : Nat) : Int)) <|
 .grd ((a1 + ((x313.2).toNat)) < x313.1.length) <|
 .grd (0 ≤ (IntKind.i64.wrap (x313.2 - 1)) ∧ (IntKind.i64.wrap (x313.2 - 1)) < ((a2 : Nat) : Int)) <|
 .grd ((a1 + (((IntKind.i64.wrap (x313.2 - 1))).toNat)) < x313.1.length) <|
 .call (azm (x313.1.getD (a1 + ((x313.2).toNat)) default) (x313.1.getD (a1 + (((IntKind.i64.wrap (x313.2 - 1))).toNat)) default) a5 a6) [(0, 1), (1, 2)] fun y330 =>
 .ret (.out (decide (y330 < 0))))
 (.ret (.out false))) fun y329 =>
 .br y329
 (.grd (0 ≤ (IntKind.i64.wrap (x313.2 - 1)) ∧ (IntKind.i64.wrap (x313.2 - 1)) < ((a2 : Nat) : Int)) <|
 .grd ((a1 + (((IntKind.i64.wrap (x313.2 - 1))).toNat)) < x313.1.length) <|
 .grd (0 ≤ x313.2 ∧ x313.2 < ((a2 : Nat) : Int)) <|
 .grd ((a1 + ((x313.2).toNat)) < x313.1.length) <|
 .grd (0 ≤ x313.2 ∧ x313.2 < ((a2 : Nat) : Int)) <|
 .conv 6015 (azq 1 az0 x313.1 3 (a1 + ((x313.2).toNat)) (x313.1.getD (a1 + (((IntKind.i64.wrap (x313.2 - 1))).toNat)) default)) <|
 .grd ((a1 + ((x313.2).toNat)) < x313.1.length ∧ 0 ≤ (a1 + ((x313.2).toNat))) <|
 .grd (0 ≤ (IntKind.i64.wrap (x313.2 - 1)) ∧ (IntKind.i64.wrap (x313.2 - 1)) < ((a2 : Nat) : Int)) <|
 .conv 6017 (azq 1 az0 (x313.1.set (a1 + ((x313.2).toNat)) (x313.1.getD (a1 + (((IntKind.i64.wrap (x313.2 - 1))).toNat)) default)) 3 (a1 + (((IntKind.i64.wrap (x313.2 - 1))).toNat)) (x313.1.getD (a1 + ((x313.2).toNat)) default)) <|
 .grd ((a1 + (((IntKind.i64.wrap (x313.2 - 1))).toNat)) < (x313.1.set (a1 + ((x313.2).toNat)) (x313.1.getD (a1 + (((IntKind.i64.wrap (x313.2 - 1))).toNat)) default)).length ∧ 0 ≤ (a1 + (((IntKind.i64.wrap (x313.2 - 1))).toNat))) <|
 .ret (.next (((x313.1.set (a1 + ((x313.2).toNat)) (x313.1.getD (a1 + (((IntKind.i64.wrap (x313.2 - 1))).toNat)) default)).set (a1 + (((IntKind.i64.wrap (x313.2 - 1))).toNat)) (x313.1.getD (a1 + ((x313.2).toNat)) default)), (IntKind.i64.wrap (x313.2 - 1)))))
 (.ret (.out x313.1)))
 (x221.1, x221.2) [] fun y322 =>
 .ret (.next (y322, (IntKind.i64.wrap (x221.2 + 1)))))
 (.ret (.out x221.1)))
 (a0, (IntKind.i64.wrap (a3 + 1))) [] fun y276 =>
 .ret y276
noncomputable def ezz (a0 : (List Int)) (a1 : Nat) (a2 : Nat) (a3 : Int) (a4 : Int) (a5 : (List (List Int))) (a6 : Int) : CallS (List Int) :=
  mkC [] hd Tryz.func174 (by kernel_rfl) (czu a0 a1 a2 a3 a4 a5 a6) 3 [.view 0 1 a1 a2, pz a3, pz a4, .func 121 [] [.ptr 1 0, .ptr 2 0]] [(0, vecO 1 az0 a0 3), (1, .box [.pure (encL 1 (encL 1 az0) a5)]), (2, .box [pz a6])] (fun _ => .tup []) (fun r => [(0, vecO 1 az0 r 3), (1, .box [.pure (encL 1 (encL 1 az0) a5)]), (2, .box [pz a6])]) (by kernel_rfl)
noncomputable def ez5 (a0 : (List Int)) (a1 : Nat) (a2 : Nat) (a3 : Int) (a4 : Int) (a5 : Int) (a6 : (List (List Int))) (a7 : Int) : T (List Int) :=
 .loop (fun (x217 : ((List Int) × Int)) => ⟨[(0, .view 0 1 a1 a2), (2, pz a4), (3, pz a5), (4, .func 121 [] [.ptr 1 0, .ptr 2 0]), (10, pz x217.2)], [(0, vecO 1 az0 x217.1 3), (1, .box [.pure (encL 1 (encL 1 az0) a6)]), (2, .box [pz a7])], [], 3⟩)
 (.exit 0) (fun (y253 : (List Int)) => ⟨[], [(0, vecO 1 az0 y253 3), (1, .box [.pure (encL 1 (encL 1 az0) a6)]), (2, .box [pz a7])], [], 3⟩)
 (fun x217 => .br (decide ((IntKind.i64.wrap ((IntKind.i64.wrap (2 * x217.2)) + 1)) ≥ a4))
 (.ret (.out x217.1))
 (.cut 0 (fun (y274 : Int) => ⟨[(0, .view 0 1 a1 a2), (2, pz a4), (3, pz a5), (4, .func 121 [] [.ptr 1 0, .ptr 2 0]), (10, pz x217.2), (11, pz y274)], [(0, vecO 1 az0 x217.1 3), (1, .box [.pure (encL 1 (encL 1 az0) a6)]), (2, .box [pz a7])], [], 3⟩)
 (.cut 0 (fun (y281 : Bool) => ⟨[(0, .view 0 1 a1 a2), (2, pz a4), (3, pz a5), (4, .func 121 [] [.ptr 1 0, .ptr 2 0]), (10, pz x217.2), (11, pz (IntKind.i64.wrap ((IntKind.i64.wrap (2 * x217.2)) + 1))), (40, .pure (.bool y281))], [(0, vecO 1 az0 x217.1 3), (1, .box [.pure (encL 1 (encL 1 az0) a6)]), (2, .box [pz a7])], [], 3⟩)
 (.br (decide ((IntKind.i64.wrap ((IntKind.i64.wrap ((IntKind.i64.wrap (2 * x217.2)) + 1)) + 1)) < a4))
 (.grd (0 ≤ (IntKind.i64.wrap (a5 + (IntKind.i64.wrap ((IntKind.i64.wrap (2 * x217.2)) + 1)))) ∧ (IntKind.i64.wrap (a5 + (IntKind.i64.wrap ((IntKind.i64.wrap (2 * x217.2)) + 1)))) < ((a2 : Nat) : Int)) <|
 .grd ((a1 + (((IntKind.i64.wrap (a5 + (IntKind.i64.wrap ((IntKind.i64.wrap (2 * x217.2)) + 1))))).toNat)) < x217.1.length) <|
 .name 3011 ((x217.1.getD (a1 + (((IntKind.i64.wrap (a5 + (IntKind.i64.wrap ((IntKind.i64.wrap (2 * x217.2)) + 1))))).toNat)) default)) fun z282 =>
 .grd (0 ≤ (IntKind.i64.wrap ((IntKind.i64.wrap (a5 + (IntKind.i64.wrap ((IntKind.i64.wrap (2 * x217.2)) + 1)))) + 1)) ∧ (IntKind.i64.wrap ((IntKind.i64.wrap (a5 + (IntKind.i64.wrap ((IntKind.i64.wrap (2 * x217.2)) + 1)))) + 1)) < ((a2 : Nat) : Int)) <|
 .grd ((a1 + (((IntKind.i64.wrap ((IntKind.i64.wrap (a5 + (IntKind.i64.wrap ((IntKind.i64.wrap (2 * x217.2)) + 1)))) + 1))).toNat)) < x217.1.length) <|
 .name 3018 ((x217.1.getD (a1 + (((IntKind.i64.wrap ((IntKind.i64.wrap (a5 + (IntKind.i64.wrap ((IntKind.i64.wrap (2 * x217.2)) + 1)))) + 1))).toNat)) default)) fun z283 =>
 .call (azm z282 z283 a6 a7) [(0, 1), (1, 2)] fun y284 =>
 .ret (.out (decide (y284 < 0))))
 (.ret (.out false))) fun y281 =>
 .br y281
 (.ret (.out (IntKind.i64.wrap ((IntKind.i64.wrap ((IntKind.i64.wrap (2 * x217.2)) + 1)) + 1))))
 (.ret (.out (IntKind.i64.wrap ((IntKind.i64.wrap (2 * x217.2)) + 1))))) fun y274 =>
 .grd (0 ≤ (IntKind.i64.wrap (a5 + x217.2)) ∧ (IntKind.i64.wrap (a5 + x217.2)) < ((a2 : Nat) : Int)) <|
 .grd ((a1 + (((IntKind.i64.wrap (a5 + x217.2))).toNat)) < x217.1.length) <|
 .grd (0 ≤ (IntKind.i64.wrap (a5 + y274)) ∧ (IntKind.i64.wrap (a5 + y274)) < ((a2 : Nat) : Int)) <|
 .grd ((a1 + (((IntKind.i64.wrap (a5 + y274))).toNat)) < x217.1.length) <|
 .call (azm (x217.1.getD (a1 + (((IntKind.i64.wrap (a5 + x217.2))).toNat)) default) (x217.1.getD (a1 + (((IntKind.i64.wrap (a5 + y274))).toNat)) default) a6 a7) [(0, 1), (1, 2)] fun y288 =>
 .br (!(decide (y288 < 0)))
 (.ret (.fin x217.1))
 (.grd (0 ≤ (IntKind.i64.wrap (a5 + y274)) ∧ (IntKind.i64.wrap (a5 + y274)) < ((a2 : Nat) : Int)) <|
 .grd ((a1 + (((IntKind.i64.wrap (a5 + y274))).toNat)) < x217.1.length) <|
 .grd (0 ≤ (IntKind.i64.wrap (a5 + x217.2)) ∧ (IntKind.i64.wrap (a5 + x217.2)) < ((a2 : Nat) : Int)) <|
 .grd ((a1 + (((IntKind.i64.wrap (a5 + x217.2))).toNat)) < x217.1.length) <|
 .grd (0 ≤ (IntKind.i64.wrap (a5 + x217.2)) ∧ (IntKind.i64.wrap (a5 + x217.2)) < ((a2 : Nat) : Int)) <|
 .conv 6021 (azq 1 az0 x217.1 3 (a1 + (((IntKind.i64.wrap (a5 + x217.2))).toNat)) (x217.1.getD (a1 + (((IntKind.i64.wrap (a5 + y274))).toNat)) default)) <|
 .grd ((a1 + (((IntKind.i64.wrap (a5 + x217.2))).toNat)) < x217.1.length ∧ 0 ≤ (a1 + (((IntKind.i64.wrap (a5 + x217.2))).toNat))) <|
 .grd (0 ≤ (IntKind.i64.wrap (a5 + y274)) ∧ (IntKind.i64.wrap (a5 + y274)) < ((a2 : Nat) : Int)) <|
 .conv 6023 (azq 1 az0 (x217.1.set (a1 + (((IntKind.i64.wrap (a5 + x217.2))).toNat)) (x217.1.getD (a1 + (((IntKind.i64.wrap (a5 + y274))).toNat)) default)) 3 (a1 + (((IntKind.i64.wrap (a5 + y274))).toNat)) (x217.1.getD (a1 + (((IntKind.i64.wrap (a5 + x217.2))).toNat)) default)) <|
 .grd ((a1 + (((IntKind.i64.wrap (a5 + y274))).toNat)) < (x217.1.set (a1 + (((IntKind.i64.wrap (a5 + x217.2))).toNat)) (x217.1.getD (a1 + (((IntKind.i64.wrap (a5 + y274))).toNat)) default)).length ∧ 0 ≤ (a1 + (((IntKind.i64.wrap (a5 + y274))).toNat))) <|
 .ret (.next (((x217.1.set (a1 + (((IntKind.i64.wrap (a5 + x217.2))).toNat)) (x217.1.getD (a1 + (((IntKind.i64.wrap (a5 + y274))).toNat)) default)).set (a1 + (((IntKind.i64.wrap (a5 + y274))).toNat)) (x217.1.getD (a1 + (((IntKind.i64.wrap (a5 + x217.2))).toNat)) default)), y274)))))
 (a0, a3) [] fun y253 =>
 .ret y253
noncomputable def ez4 (a0 : (List Int)) (a1 : Nat) (a2 : Nat) (a3 : Int) (a4 : Int) (a5 : Int) (a6 : (List (List Int))) (a7 : Int) : CallS (List Int) :=
  mkC [] hd Tryz.func191 (by kernel_rfl) (ez5 a0 a1 a2 a3 a4 a5 a6 a7) 3 [.view 0 1 a1 a2, pz a3, pz a4, pz a5, .func 121 [] [.ptr 1 0, .ptr 2 0]] [(0, vecO 1 az0 a0 3), (1, .box [.pure (encL 1 (encL 1 az0) a6)]), (2, .box [pz a7])] (fun _ => .tup []) (fun r => [(0, vecO 1 az0 r 3), (1, .box [.pure (encL 1 (encL 1 az0) a6)]), (2, .box [pz a7])]) (by kernel_rfl)
noncomputable def dzz (a0 : (List Int)) (a1 : Nat) (a2 : Nat) (a3 : Int) (a4 : Int) (a5 : (List (List Int))) (a6 : Int) : T (List Int) :=
 .ok ((2 : Int) ≠ 0) (by decide) <|
 .loop (fun (x40 : ((List Int) × Int)) => ⟨[(0, .view 0 1 a1 a2), (3, .func 121 [] [.ptr 1 0, .ptr 2 0]), (8, pz a3), (9, pz 0), (10, pz (IntKind.i64.wrap (a4 - a3))), (11, pz x40.2)], [(0, vecO 1 az0 x40.1 3), (1, .box [.pure (encL 1 (encL 1 az0) a5)]), (2, .box [pz a6])], [], 3⟩)
 (.exit 0) (fun (y43 : (List Int)) => ⟨[(0, .view 0 1 a1 a2), (3, .func 121 [] [.ptr 1 0, .ptr 2 0]), (8, pz a3), (9, pz 0), (10, pz (IntKind.i64.wrap (a4 - a3)))], [(0, vecO 1 az0 y43 3), (1, .box [.pure (encL 1 (encL 1 az0) a5)]), (2, .box [pz a6])], [], 3⟩)
 (fun x40 => .br (decide (x40.2 ≥ 0))
 (.call (ez4 x40.1 a1 a2 x40.2 (IntKind.i64.wrap (a4 - a3)) a3 a5 a6) [(0, 0), (1, 1), (2, 2)] fun y45 =>
 .ret (.next (y45, (IntKind.i64.wrap (x40.2 - 1)))))
 (.ret (.out x40.1)))
 (a0, (IntKind.i64.wrap ((IntKind.i64.wrap ((IntKind.i64.wrap (a4 - a3)) - 1)).tdiv 2))) [] fun y43 =>
 .loop (fun (x49 : ((List Int) × Int)) => ⟨[(0, .view 0 1 a1 a2), (3, .func 121 [] [.ptr 1 0, .ptr 2 0]), (8, pz a3), (9, pz 0), (12, pz x49.2)], [(0, vecO 1 az0 x49.1 3), (1, .box [.pure (encL 1 (encL 1 az0) a5)]), (2, .box [pz a6])], [], 3⟩)
 (.exit 2) (fun (y52 : (List Int)) => ⟨[], [(0, vecO 1 az0 y52 3), (1, .box [.pure (encL 1 (encL 1 az0) a5)]), (2, .box [pz a6])], [], 3⟩)
 (fun x49 => .br (decide (x49.2 ≥ 0))
 (.grd (0 ≤ (IntKind.i64.wrap (a3 + x49.2)) ∧ (IntKind.i64.wrap (a3 + x49.2)) < ((a2 : Nat) : Int)) <|
 .grd ((a1 + (((IntKind.i64.wrap (a3 + x49.2))).toNat)) < x49.1.length) <|
 .grd (0 ≤ a3 ∧ a3 < ((a2 : Nat) : Int)) <|
 .grd ((a1 + ((a3).toNat)) < x49.1.length) <|
 .grd (0 ≤ a3 ∧ a3 < ((a2 : Nat) : Int)) <|
 .conv 10017 (azq 1 az0 x49.1 3 (a1 + ((a3).toNat)) (x49.1.getD (a1 + (((IntKind.i64.wrap (a3 + x49.2))).toNat)) default)) <|
 .grd ((a1 + ((a3).toNat)) < x49.1.length ∧ 0 ≤ (a1 + ((a3).toNat))) <|
 .grd (0 ≤ (IntKind.i64.wrap (a3 + x49.2)) ∧ (IntKind.i64.wrap (a3 + x49.2)) < ((a2 : Nat) : Int)) <|
 .conv 10019 (azq 1 az0 (x49.1.set (a1 + ((a3).toNat)) (x49.1.getD (a1 + (((IntKind.i64.wrap (a3 + x49.2))).toNat)) default)) 3 (a1 + (((IntKind.i64.wrap (a3 + x49.2))).toNat)) (x49.1.getD (a1 + ((a3).toNat)) default)) <|
 .grd ((a1 + (((IntKind.i64.wrap (a3 + x49.2))).toNat)) < (x49.1.set (a1 + ((a3).toNat)) (x49.1.getD (a1 + (((IntKind.i64.wrap (a3 + x49.2))).toNat)) default)).length ∧ 0 ≤ (a1 + (((IntKind.i64.wrap (a3 + x49.2))).toNat))) <|
 .call (ez4 ((x49.1.set (a1 + ((a3).toNat)) (x49.1.getD (a1 + (((IntKind.i64.wrap (a3 + x49.2))).toNat)) default)).set (a1 + (((IntKind.i64.wrap (a3 + x49.2))).toNat)) (x49.1.getD (a1 + ((a3).toNat)) default)) a1 a2 0 x49.2 a3 a5 a6) [(0, 0), (1, 1), (2, 2)] fun y54 =>
 .ret (.next (y54, (IntKind.i64.wrap (x49.2 - 1)))))
 (.ret (.out x49.1)))
 (y43, (IntKind.i64.wrap ((IntKind.i64.wrap (a4 - a3)) - 1))) [] fun y52 =>
 .ret y52
noncomputable def gz8 (a0 : (List Int)) (a1 : Nat) (a2 : Nat) (a3 : Int) (a4 : Int) (a5 : (List (List Int))) (a6 : Int) : CallS (List Int) :=
  mkC [] hd Tryz.func175 (by kernel_rfl) (dzz a0 a1 a2 a3 a4 a5 a6) 3 [.view 0 1 a1 a2, pz a3, pz a4, .func 121 [] [.ptr 1 0, .ptr 2 0]] [(0, vecO 1 az0 a0 3), (1, .box [.pure (encL 1 (encL 1 az0) a5)]), (2, .box [pz a6])] (fun _ => .tup []) (fun r => [(0, vecO 1 az0 r 3), (1, .box [.pure (encL 1 (encL 1 az0) a5)]), (2, .box [pz a6])]) (by kernel_rfl)
noncomputable def ezr (a0 : (List Int)) (a1 : Nat) (a2 : Nat) (a3 : Int) (a4 : Int) (a5 : Int) (a6 : (List (List Int))) (a7 : Int) : T (Int × Int × Int) :=
 .grd (0 ≤ a4 ∧ a4 < ((a2 : Nat) : Int)) <|
 .grd ((a1 + ((a4).toNat)) < a0.length) <|
 .grd (0 ≤ a3 ∧ a3 < ((a2 : Nat) : Int)) <|
 .grd ((a1 + ((a3).toNat)) < a0.length) <|
 .call (azm (a0.getD (a1 + ((a4).toNat)) default) (a0.getD (a1 + ((a3).toNat)) default) a6 a7) [(0, 2), (1, 3)] fun y8 =>
 .br (decide (y8 < 0))
 (.ret (a4, a3, (IntKind.i64.wrap (a5 + 1))))
 (.ret (a3, a4, a5))
noncomputable def dz2 (a0 : (List Int)) (a1 : Nat) (a2 : Nat) (a3 : Int) (a4 : Int) (a5 : Int) (a6 : (List (List Int))) (a7 : Int) : CallS (Int × Int × Int) :=
  mkC [] hd Tryz.func196 (by kernel_rfl) (ezr a0 a1 a2 a3 a4 a5 a6 a7) 4 [.view 0 1 a1 a2, pz a3, pz a4, .ptr 1 0, .func 121 [] [.ptr 2 0, .ptr 3 0]] [(0, vecO 1 az0 a0 3), (1, .box [pz a5]), (2, .box [.pure (encL 1 (encL 1 az0) a6)]), (3, .box [pz a7])] (fun r => .tup [pz r.1, pz r.2.1]) (fun r => [(0, vecO 1 az0 a0 3), (1, .box [pz r.2.2]), (2, .box [.pure (encL 1 (encL 1 az0) a6)]), (3, .box [pz a7])]) (by kernel_rfl)
noncomputable def ezq (a0 : (List Int)) (a1 : Nat) (a2 : Nat) (a3 : Int) (a4 : Int) (a5 : Int) (a6 : Int) (a7 : (List (List Int))) (a8 : Int) : T (Int × Int) :=
 .call (dz2 a0 a1 a2 a3 a4 a6 a7 a8) [(0, 0), (1, 1), (2, 2), (3, 3)] fun y8 =>
 .call (dz2 a0 a1 a2 y8.2.1 a5 y8.2.2 a7 a8) [(0, 0), (1, 1), (2, 2), (3, 3)] fun y10 =>
 .call (dz2 a0 a1 a2 y8.1 y10.1 y10.2.2 a7 a8) [(0, 0), (1, 1), (2, 2), (3, 3)] fun y12 =>
 .ret (y12.2.1, y12.2.2)
noncomputable def ezp (a0 : (List Int)) (a1 : Nat) (a2 : Nat) (a3 : Int) (a4 : Int) (a5 : Int) (a6 : Int) (a7 : (List (List Int))) (a8 : Int) : CallS (Int × Int) :=
  mkC [] hd Tryz.func193 (by kernel_rfl) (ezq a0 a1 a2 a3 a4 a5 a6 a7 a8) 4 [.view 0 1 a1 a2, pz a3, pz a4, pz a5, .ptr 1 0, .func 121 [] [.ptr 2 0, .ptr 3 0]] [(0, vecO 1 az0 a0 3), (1, .box [pz a6]), (2, .box [.pure (encL 1 (encL 1 az0) a7)]), (3, .box [pz a8])] (fun r => pz r.1) (fun r => [(0, vecO 1 az0 a0 3), (1, .box [pz r.2]), (2, .box [.pure (encL 1 (encL 1 az0) a7)]), (3, .box [pz a8])]) (by kernel_rfl)
noncomputable def czk (a0 : (List Int)) (a1 : Nat) (a2 : Nat) (a3 : Int) (a4 : Int) (a5 : (List (List Int))) (a6 : Int) : T (Int × Int) :=
 .call (ezp a0 a1 a2 (IntKind.i64.wrap (a3 - 1)) a3 (IntKind.i64.wrap (a3 + 1)) a4 a5 a6) [(0, 0), (1, 1), (2, 2), (3, 3)] fun y2 =>
 .ret (y2.1, y2.2)
noncomputable def bzi (a0 : (List Int)) (a1 : Nat) (a2 : Nat) (a3 : Int) (a4 : Int) (a5 : (List (List Int))) (a6 : Int) : CallS (Int × Int) :=
  mkC [] hd Tryz.func192 (by kernel_rfl) (czk a0 a1 a2 a3 a4 a5 a6) 4 [.view 0 1 a1 a2, pz a3, .ptr 1 0, .func 121 [] [.ptr 2 0, .ptr 3 0]] [(0, vecO 1 az0 a0 3), (1, .box [pz a4]), (2, .box [.pure (encL 1 (encL 1 az0) a5)]), (3, .box [pz a6])] (fun r => pz r.1) (fun r => [(0, vecO 1 az0 a0 3), (1, .box [pz r.2]), (2, .box [.pure (encL 1 (encL 1 az0) a5)]), (3, .box [pz a6])]) (by kernel_rfl)
noncomputable def dz9 (a0 : (List Int)) (a1 : Nat) (a2 : Nat) (a3 : Int) (a4 : Int) (a5 : (List (List Int))) (a6 : Int) : T (Int × Int) :=
 .ok ((4 : Int) ≠ 0) (by decide) <|
 .ok ((4 : Int) ≠ 0) (by decide) <|
 .ok ((4 : Int) ≠ 0) (by decide) <|
 .cut 0 (fun (y35 : (Int × Int)) => ⟨[(11, .ptr 3 0), (13, pz y35.2)], [(0, vecO 1 az0 a0 3), (1, .box [.pure (encL 1 (encL 1 az0) a5)]), (2, .box [pz a6]), (3, .box [pz y35.1])], [], 4⟩)
 (.br (decide ((IntKind.i64.wrap (a4 - a3)) ≥ 8))
 (.cut 0 (fun (y46 : (Int × Int × Int × Int)) => ⟨[(0, .view 0 1 a1 a2), (3, .func 121 [] [.ptr 1 0, .ptr 2 0]), (11, .ptr 3 0), (12, pz y46.2.1), (13, pz y46.2.2.1), (14, pz y46.2.2.2)], [(0, vecO 1 az0 a0 3), (1, .box [.pure (encL 1 (encL 1 az0) a5)]), (2, .box [pz a6]), (3, .box [pz y46.1])], [], 4⟩)
 (.br (decide ((IntKind.i64.wrap (a4 - a3)) ≥ 50))
 (.call (bzi a0 a1 a2 (IntKind.i64.wrap (a3 + (IntKind.i64.wrap ((IntKind.i64.wrap ((IntKind.i64.wrap (a4 - a3)).tdiv 4)) * 1)))) 0 a5 a6) [(0, 0), (1, 387), (2, 1), (3, 2)] fun y48 =>
 .call (bzi a0 a1 a2 (IntKind.i64.wrap (a3 + (IntKind.i64.wrap ((IntKind.i64.wrap ((IntKind.i64.wrap (a4 - a3)).tdiv 4)) * 2)))) y48.2 a5 a6) [(0, 0), (1, 387), (2, 1), (3, 2)] fun y50 =>
 .call (bzi a0 a1 a2 (IntKind.i64.wrap (a3 + (IntKind.i64.wrap ((IntKind.i64.wrap ((IntKind.i64.wrap (a4 - a3)).tdiv 4)) * 3)))) y50.2 a5 a6) [(0, 0), (1, 387), (2, 1), (3, 2)] fun y51 =>
 .ret (.out (y51.2, y48.1, y50.1, y51.1)))
 (.ret (.out (0, (IntKind.i64.wrap (a3 + (IntKind.i64.wrap ((IntKind.i64.wrap ((IntKind.i64.wrap (a4 - a3)).tdiv 4)) * 1)))), (IntKind.i64.wrap (a3 + (IntKind.i64.wrap ((IntKind.i64.wrap ((IntKind.i64.wrap (a4 - a3)).tdiv 4)) * 2)))), (IntKind.i64.wrap (a3 + (IntKind.i64.wrap ((IntKind.i64.wrap ((IntKind.i64.wrap (a4 - a3)).tdiv 4)) * 3)))))))) fun y46 =>
 .call (ezp a0 a1 a2 y46.2.1 y46.2.2.1 y46.2.2.2 y46.1 a5 a6) [(0, 0), (1, 3), (2, 1), (3, 2)] fun y52 =>
 .ret (.out (y52.2, y52.1)))
 (.ret (.out (0, (IntKind.i64.wrap (a3 + (IntKind.i64.wrap ((IntKind.i64.wrap ((IntKind.i64.wrap (a4 - a3)).tdiv 4)) * 2)))))))) fun y35 =>
 .br (y35.1 == 0)
 (.ret (y35.2, 1))
 (.br (y35.1 == 12)
 (.ret (y35.2, 2))
 (.ret (y35.2, 0)))
noncomputable def fzf (a0 : (List Int)) (a1 : Nat) (a2 : Nat) (a3 : Int) (a4 : Int) (a5 : (List (List Int))) (a6 : Int) : CallS (Int × Int) :=
  mkC [] hd Tryz.func177 (by kernel_rfl) (dz9 a0 a1 a2 a3 a4 a5 a6) 3 [.view 0 1 a1 a2, pz a3, pz a4, .func 121 [] [.ptr 1 0, .ptr 2 0]] [(0, vecO 1 az0 a0 3), (1, .box [.pure (encL 1 (encL 1 az0) a5)]), (2, .box [pz a6])] (fun r => .tup [pz r.1, pz r.2]) (fun _ => [(0, vecO 1 az0 a0 3), (1, .box [.pure (encL 1 (encL 1 az0) a5)]), (2, .box [pz a6])]) (by kernel_rfl)
noncomputable def dz0 (a0 : (List Int)) (a1 : Nat) (a2 : Nat) (a3 : Int) (a4 : Int) (a5 : (List (List Int))) (a6 : Int) : T (List Int) :=
 .loop (fun (x5 : ((List Int) × Int × Int)) => ⟨[(0, .view 0 1 a1 a2), (8, pz x5.2.1), (9, pz x5.2.2)], [(0, vecO 1 az0 x5.1 3), (1, .box [.pure (encL 1 (encL 1 az0) a5)]), (2, .box [pz a6])], [], 3⟩)
 (.exit 0) (fun (y6 : (List Int)) => ⟨[], [(0, vecO 1 az0 y6 3), (1, .box [.pure (encL 1 (encL 1 az0) a5)]), (2, .box [pz a6])], [], 3⟩)
 (fun x5 => .br (decide (x5.2.1 < x5.2.2))
 (.grd (0 ≤ x5.2.2 ∧ x5.2.2 < ((a2 : Nat) : Int)) <|
 .grd ((a1 + ((x5.2.2).toNat)) < x5.1.length) <|
 .grd (0 ≤ x5.2.1 ∧ x5.2.1 < ((a2 : Nat) : Int)) <|
 .grd ((a1 + ((x5.2.1).toNat)) < x5.1.length) <|
 .grd (0 ≤ x5.2.1 ∧ x5.2.1 < ((a2 : Nat) : Int)) <|
 .conv 3013 (azq 1 az0 x5.1 3 (a1 + ((x5.2.1).toNat)) (x5.1.getD (a1 + ((x5.2.2).toNat)) default)) <|
 .grd ((a1 + ((x5.2.1).toNat)) < x5.1.length ∧ 0 ≤ (a1 + ((x5.2.1).toNat))) <|
 .grd (0 ≤ x5.2.2 ∧ x5.2.2 < ((a2 : Nat) : Int)) <|
 .conv 3015 (azq 1 az0 (x5.1.set (a1 + ((x5.2.1).toNat)) (x5.1.getD (a1 + ((x5.2.2).toNat)) default)) 3 (a1 + ((x5.2.2).toNat)) (x5.1.getD (a1 + ((x5.2.1).toNat)) default)) <|
 .grd ((a1 + ((x5.2.2).toNat)) < (x5.1.set (a1 + ((x5.2.1).toNat)) (x5.1.getD (a1 + ((x5.2.2).toNat)) default)).length ∧ 0 ≤ (a1 + ((x5.2.2).toNat))) <|
 .ret (.next (((x5.1.set (a1 + ((x5.2.1).toNat)) (x5.1.getD (a1 + ((x5.2.2).toNat)) default)).set (a1 + ((x5.2.2).toNat)) (x5.1.getD (a1 + ((x5.2.1).toNat)) default)), (IntKind.i64.wrap (x5.2.1 + 1)), (IntKind.i64.wrap (x5.2.2 - 1)))))
 (.ret (.out x5.1)))
 (a0, a3, (IntKind.i64.wrap (a4 - 1))) [] fun y6 =>
 .ret y6
noncomputable def fz5 (a0 : (List Int)) (a1 : Nat) (a2 : Nat) (a3 : Int) (a4 : Int) (a5 : (List (List Int))) (a6 : Int) : CallS (List Int) :=
  mkC [] hd Tryz.func178 (by kernel_rfl) (dz0 a0 a1 a2 a3 a4 a5 a6) 3 [.view 0 1 a1 a2, pz a3, pz a4, .func 121 [] [.ptr 1 0, .ptr 2 0]] [(0, vecO 1 az0 a0 3), (1, .box [.pure (encL 1 (encL 1 az0) a5)]), (2, .box [pz a6])] (fun _ => .tup []) (fun r => [(0, vecO 1 az0 r 3), (1, .box [.pure (encL 1 (encL 1 az0) a5)]), (2, .box [pz a6])]) (by kernel_rfl)
set_option maxHeartbeats 8000000 in
set_option maxRecDepth 20000 in
noncomputable def bzm (a0 : (List Int)) (a1 : Nat) (a2 : Nat) (a3 : Int) (a4 : Int) (a5 : (List (List Int))) (a6 : Int) : T (Bool × (List Int)) :=
 .loop (fun (x10311 : ((List Int) × Int × Int)) => ⟨[(0, .view 0 1 a1 a2), (1, pz a3), (2, pz a4), (3, .func 121 [] [.ptr 1 0, .ptr 2 0]), (9, pz x10311.2.1), (10, pz x10311.2.2)], [(0, vecO 1 az0 x10311.1 3), (1, .box [.pure (encL 1 (encL 1 az0) a5)]), (2, .box [pz a6])], [], 3⟩)
 (.exit 0) (fun (y11342 : (List Int)) => ⟨[], [(0, vecO 1 az0 y11342 3), (1, .box [.pure (encL 1 (encL 1 az0) a5)]), (2, .box [pz a6])], [], 3⟩)
 (fun x10311 => .br (decide (x10311.2.2 < 5))
 (.cut 0 (fun (y12029 : ((List Int) × Int)) => ⟨[(0, .view 0 1 a1 a2), (1, pz a3), (2, pz a4), (3, .func 121 [] [.ptr 1 0, .ptr 2 0]), (9, pz y12029.2), (10, pz x10311.2.2)], [(0, vecO 1 az0 y12029.1 3), (1, .box [.pure (encL 1 (encL 1 az0) a5)]), (2, .box [pz a6])], [], 3⟩)
 (.loop (fun (x12066 : Int) => ⟨[(0, .view 0 1 a1 a2), (1, pz a3), (2, pz a4), (3, .func 121 [] [.ptr 1 0, .ptr 2 0]), (9, pz x12066), (10, pz x10311.2.2)], [(0, vecO 1 az0 x10311.1 3), (1, .box [.pure (encL 1 (encL 1 az0) a5)]), (2, .box [pz a6])], [], 3⟩)
 (.exit 2) (fun (y12075 : Int) => ⟨[(0, .view 0 1 a1 a2), (1, pz a3), (2, pz a4), (3, .func 121 [] [.ptr 1 0, .ptr 2 0]), (9, pz y12075), (10, pz x10311.2.2)], [(0, vecO 1 az0 x10311.1 3), (1, .box [.pure (encL 1 (encL 1 az0) a5)]), (2, .box [pz a6])], [], 3⟩)
 (fun x12066 => .cut 1 (fun (y12082 : Bool) => ⟨[(0, .view 0 1 a1 a2), (1, pz a3), (2, pz a4), (3, .func 121 [] [.ptr 1 0, .ptr 2 0]), (9, pz x12066), (10, pz x10311.2.2), (36, .pure (.bool y12082))], [(0, vecO 1 az0 x10311.1 3), (1, .box [.pure (encL 1 (encL 1 az0) a5)]), (2, .box [pz a6])], [], 3⟩)
 (.br (decide (x12066 < a4))
 (.grd (0 ≤ x12066 ∧ x12066 < ((a2 : Nat) : Int)) <|
 .grd ((a1 + ((x12066).toNat)) < x10311.1.length) <|
 .grd (0 ≤ (IntKind.i64.wrap (x12066 - 1)) ∧ (IntKind.i64.wrap (x12066 - 1)) < ((a2 : Nat) : Int)) <|
 .grd ((a1 + (((IntKind.i64.wrap (x12066 - 1))).toNat)) < x10311.1.length) <|
 .call (azm (x10311.1.getD (a1 + ((x12066).toNat)) default) (x10311.1.getD (a1 + (((IntKind.i64.wrap (x12066 - 1))).toNat)) default) a5 a6) [(0, 1), (1, 2)] fun y12083 =>
 .ret (.out (!(decide (y12083 < 0)))))
 (.ret (.out false))) fun y12082 =>
 .br y12082
 (.ret (.next (IntKind.i64.wrap (x12066 + 1))))
 (.ret (.out x12066)))
 x10311.2.1 [] fun y12075 =>
 .br (y12075 == a4)
 (.ret (.fin (.fin (true, x10311.1))))
 (.br (decide ((IntKind.i64.wrap (a4 - a3)) < 50))
 (.ret (.fin (.fin (false, x10311.1))))
 (.grd (0 ≤ (IntKind.i64.wrap (y12075 - 1)) ∧ (IntKind.i64.wrap (y12075 - 1)) < ((a2 : Nat) : Int)) <|
 .grd ((a1 + (((IntKind.i64.wrap (y12075 - 1))).toNat)) < x10311.1.length) <|
 .grd (0 ≤ y12075 ∧ y12075 < ((a2 : Nat) : Int)) <|
 .grd ((a1 + ((y12075).toNat)) < x10311.1.length) <|
 .grd (0 ≤ y12075 ∧ y12075 < ((a2 : Nat) : Int)) <|
 .conv 11015 (azq 1 az0 x10311.1 3 (a1 + ((y12075).toNat)) (x10311.1.getD (a1 + (((IntKind.i64.wrap (y12075 - 1))).toNat)) default)) <|
 .grd ((a1 + ((y12075).toNat)) < x10311.1.length ∧ 0 ≤ (a1 + ((y12075).toNat))) <|
 .grd (0 ≤ (IntKind.i64.wrap (y12075 - 1)) ∧ (IntKind.i64.wrap (y12075 - 1)) < ((a2 : Nat) : Int)) <|
 .conv 11017 (azq 1 az0 (x10311.1.set (a1 + ((y12075).toNat)) (x10311.1.getD (a1 + (((IntKind.i64.wrap (y12075 - 1))).toNat)) default)) 3 (a1 + (((IntKind.i64.wrap (y12075 - 1))).toNat)) (x10311.1.getD (a1 + ((y12075).toNat)) default)) <|
 .grd ((a1 + (((IntKind.i64.wrap (y12075 - 1))).toNat)) < (x10311.1.set (a1 + ((y12075).toNat)) (x10311.1.getD (a1 + (((IntKind.i64.wrap (y12075 - 1))).toNat)) default)).length ∧ 0 ≤ (a1 + (((IntKind.i64.wrap (y12075 - 1))).toNat))) <|
 .cut 0 (fun (y12258 : (List Int)) => ⟨[(0, .view 0 1 a1 a2), (1, pz a3), (2, pz a4), (3, .func 121 [] [.ptr 1 0, .ptr 2 0]), (9, pz y12075), (10, pz x10311.2.2)], [(0, vecO 1 az0 y12258 3), (1, .box [.pure (encL 1 (encL 1 az0) a5)]), (2, .box [pz a6])], [], 3⟩)
 (.br (decide ((IntKind.i64.wrap (y12075 - a3)) ≥ 2))
 (.loop (fun (x12288 : ((List Int) × Int)) => ⟨[(0, .view 0 1 a1 a2), (1, pz a3), (2, pz a4), (3, .func 121 [] [.ptr 1 0, .ptr 2 0]), (9, pz y12075), (10, pz x10311.2.2), (11, pz x12288.2)], [(0, vecO 1 az0 x12288.1 3), (1, .box [.pure (encL 1 (encL 1 az0) a5)]), (2, .box [pz a6])], [], 3⟩)
 (.exit 4) (fun (y12317 : (List Int)) => ⟨[(0, .view 0 1 a1 a2), (1, pz a3), (2, pz a4), (3, .func 121 [] [.ptr 1 0, .ptr 2 0]), (9, pz y12075), (10, pz x10311.2.2)], [(0, vecO 1 az0 y12317 3), (1, .box [.pure (encL 1 (encL 1 az0) a5)]), (2, .box [pz a6])], [], 3⟩)
 (fun x12288 => .br (decide (x12288.2 ≥ 1))
 (.grd (0 ≤ x12288.2 ∧ x12288.2 < ((a2 : Nat) : Int)) <|
 .grd ((a1 + ((x12288.2).toNat)) < x12288.1.length) <|
 .name 16004 ((x12288.1.getD (a1 + ((x12288.2).toNat)) default)) fun z12341 =>
 .grd (0 ≤ (IntKind.i64.wrap (x12288.2 - 1)) ∧ (IntKind.i64.wrap (x12288.2 - 1)) < ((a2 : Nat) : Int)) <|
 .grd ((a1 + (((IntKind.i64.wrap (x12288.2 - 1))).toNat)) < x12288.1.length) <|
 .name 16009 ((x12288.1.getD (a1 + (((IntKind.i64.wrap (x12288.2 - 1))).toNat)) default)) fun z12342 =>
 .call (azm z12341 z12342 a5 a6) [(0, 1), (1, 2)] fun y12343 =>
 .br (!(decide (y12343 < 0)))
 (.ret (.out x12288.1))
 (.grd (0 ≤ (IntKind.i64.wrap (x12288.2 - 1)) ∧ (IntKind.i64.wrap (x12288.2 - 1)) < ((a2 : Nat) : Int)) <|
 .grd ((a1 + (((IntKind.i64.wrap (x12288.2 - 1))).toNat)) < x12288.1.length) <|
 .name 17009 ((x12288.1.getD (a1 + (((IntKind.i64.wrap (x12288.2 - 1))).toNat)) default)) fun z12344 =>
 .grd (0 ≤ x12288.2 ∧ x12288.2 < ((a2 : Nat) : Int)) <|
 .grd ((a1 + ((x12288.2).toNat)) < x12288.1.length) <|
 .name 17013 ((x12288.1.getD (a1 + ((x12288.2).toNat)) default)) fun z12345 =>
 .grd (0 ≤ x12288.2 ∧ x12288.2 < ((a2 : Nat) : Int)) <|
 .conv 17015 (azq 1 az0 x12288.1 3 (a1 + ((x12288.2).toNat)) z12344) <|
 .grd ((a1 + ((x12288.2).toNat)) < x12288.1.length ∧ 0 ≤ (a1 + ((x12288.2).toNat))) <|
 .grd (0 ≤ (IntKind.i64.wrap (x12288.2 - 1)) ∧ (IntKind.i64.wrap (x12288.2 - 1)) < ((a2 : Nat) : Int)) <|
 .conv 17017 (azq 1 az0 (x12288.1.set (a1 + ((x12288.2).toNat)) z12344) 3 (a1 + (((IntKind.i64.wrap (x12288.2 - 1))).toNat)) z12345) <|
 .grd ((a1 + (((IntKind.i64.wrap (x12288.2 - 1))).toNat)) < (x12288.1.set (a1 + ((x12288.2).toNat)) z12344).length ∧ 0 ≤ (a1 + (((IntKind.i64.wrap (x12288.2 - 1))).toNat))) <|
 .ret (.next (((x12288.1.set (a1 + ((x12288.2).toNat)) z12344).set (a1 + (((IntKind.i64.wrap (x12288.2 - 1))).toNat)) z12345), (IntKind.i64.wrap (x12288.2 - 1))))))
 (.ret (.out x12288.1)))
 (((x10311.1.set (a1 + ((y12075).toNat)) (x10311.1.getD (a1 + (((IntKind.i64.wrap (y12075 - 1))).toNat)) default)).set (a1 + (((IntKind.i64.wrap (y12075 - 1))).toNat)) (x10311.1.getD (a1 + ((y12075).toNat)) default)), (IntKind.i64.wrap (y12075 - 1))) [] fun y12317 =>
 .ret (.out y12317))
 (.ret (.out ((x10311.1.set (a1 + ((y12075).toNat)) (x10311.1.getD (a1 + (((IntKind.i64.wrap (y12075 - 1))).toNat)) default)).set (a1 + (((IntKind.i64.wrap (y12075 - 1))).toNat)) (x10311.1.getD (a1 + ((y12075).toNat)) default))))) fun y12258 =>
 .br (decide ((IntKind.i64.wrap (a4 - y12075)) ≥ 2))
 (.loop (fun (x12355 : ((List Int) × Int)) => ⟨[(0, .view 0 1 a1 a2), (1, pz a3), (2, pz a4), (3, .func 121 [] [.ptr 1 0, .ptr 2 0]), (9, pz y12075), (10, pz x10311.2.2), (12, pz x12355.2)], [(0, vecO 1 az0 x12355.1 3), (1, .box [.pure (encL 1 (encL 1 az0) a5)]), (2, .box [pz a6])], [], 3⟩)
 (.exit 6) (fun (y12364 : (List Int)) => ⟨[(0, .view 0 1 a1 a2), (1, pz a3), (2, pz a4), (3, .func 121 [] [.ptr 1 0, .ptr 2 0]), (9, pz y12075), (10, pz x10311.2.2)], [(0, vecO 1 az0 y12364 3), (1, .box [.pure (encL 1 (encL 1 az0) a5)]), (2, .box [pz a6])], [], 3⟩)
 (fun x12355 => .br (decide (x12355.2 < a4))
 (.grd (0 ≤ x12355.2 ∧ x12355.2 < ((a2 : Nat) : Int)) <|
 .grd ((a1 + ((x12355.2).toNat)) < x12355.1.length) <|
 .grd (0 ≤ (IntKind.i64.wrap (x12355.2 - 1)) ∧ (IntKind.i64.wrap (x12355.2 - 1)) < ((a2 : Nat) : Int)) <|
 .grd ((a1 + (((IntKind.i64.wrap (x12355.2 - 1))).toNat)) < x12355.1.length) <|
 .call (azm (x12355.1.getD (a1 + ((x12355.2).toNat)) default) (x12355.1.getD (a1 + (((IntKind.i64.wrap (x12355.2 - 1))).toNat)) default) a5 a6) [(0, 1), (1, 2)] fun y12372 =>
 .br (!(decide (y12372 < 0)))
 (.ret (.out x12355.1))
 (.grd (0 ≤ (IntKind.i64.wrap (x12355.2 - 1)) ∧ (IntKind.i64.wrap (x12355.2 - 1)) < ((a2 : Nat) : Int)) <|
 .grd ((a1 + (((IntKind.i64.wrap (x12355.2 - 1))).toNat)) < x12355.1.length) <|
 .grd (0 ≤ x12355.2 ∧ x12355.2 < ((a2 : Nat) : Int)) <|
 .grd ((a1 + ((x12355.2).toNat)) < x12355.1.length) <|
 .grd (0 ≤ x12355.2 ∧ x12355.2 < ((a2 : Nat) : Int)) <|
 .conv 23015 (azq 1 az0 x12355.1 3 (a1 + ((x12355.2).toNat)) (x12355.1.getD (a1 + (((IntKind.i64.wrap (x12355.2 - 1))).toNat)) default)) <|
 .grd ((a1 + ((x12355.2).toNat)) < x12355.1.length ∧ 0 ≤ (a1 + ((x12355.2).toNat))) <|
 .grd (0 ≤ (IntKind.i64.wrap (x12355.2 - 1)) ∧ (IntKind.i64.wrap (x12355.2 - 1)) < ((a2 : Nat) : Int)) <|
 .conv 23017 (azq 1 az0 (x12355.1.set (a1 + ((x12355.2).toNat)) (x12355.1.getD (a1 + (((IntKind.i64.wrap (x12355.2 - 1))).toNat)) default)) 3 (a1 + (((IntKind.i64.wrap (x12355.2 - 1))).toNat)) (x12355.1.getD (a1 + ((x12355.2).toNat)) default)) <|
 .grd ((a1 + (((IntKind.i64.wrap (x12355.2 - 1))).toNat)) < (x12355.1.set (a1 + ((x12355.2).toNat)) (x12355.1.getD (a1 + (((IntKind.i64.wrap (x12355.2 - 1))).toNat)) default)).length ∧ 0 ≤ (a1 + (((IntKind.i64.wrap (x12355.2 - 1))).toNat))) <|
 .ret (.next (((x12355.1.set (a1 + ((x12355.2).toNat)) (x12355.1.getD (a1 + (((IntKind.i64.wrap (x12355.2 - 1))).toNat)) default)).set (a1 + (((IntKind.i64.wrap (x12355.2 - 1))).toNat)) (x12355.1.getD (a1 + ((x12355.2).toNat)) default)), (IntKind.i64.wrap (x12355.2 + 1))))))
 (.ret (.out x12355.1)))
 (y12258, (IntKind.i64.wrap (y12075 + 1))) [] fun y12364 =>
 .ret (.out (y12364, y12075)))
 (.ret (.out (y12258, y12075)))))) fun y12029 =>
 .ret (.next (y12029.1, y12029.2, (IntKind.i64.wrap (x10311.2.2 + 1)))))
 (.ret (.out x10311.1)))
 (a0, (IntKind.i64.wrap (a3 + 1)), 0) [] fun y11342 =>
 .ret (false, y11342)
noncomputable def dzc (a0 : (List Int)) (a1 : Nat) (a2 : Nat) (a3 : Int) (a4 : Int) (a5 : (List (List Int))) (a6 : Int) : CallS (Bool × (List Int)) :=
  mkC [] hd Tryz.func179 (by kernel_rfl) (bzm a0 a1 a2 a3 a4 a5 a6) 3 [.view 0 1 a1 a2, pz a3, pz a4, .func 121 [] [.ptr 1 0, .ptr 2 0]] [(0, vecO 1 az0 a0 3), (1, .box [.pure (encL 1 (encL 1 az0) a5)]), (2, .box [pz a6])] (fun r => .pure (.bool r.1)) (fun r => [(0, vecO 1 az0 r.2 3), (1, .box [.pure (encL 1 (encL 1 az0) a5)]), (2, .box [pz a6])]) (by kernel_rfl)
set_option maxHeartbeats 8000000 in
set_option maxRecDepth 20000 in
noncomputable def czl (a0 : (List Int)) (a1 : Nat) (a2 : Nat) (a3 : Int) (a4 : Int) (a5 : Int) (a6 : (List (List Int))) (a7 : Int) : T (Int × (List Int)) :=
 .grd (0 ≤ a5 ∧ a5 < ((a2 : Nat) : Int)) <|
 .grd ((a1 + ((a5).toNat)) < a0.length) <|
 .grd (0 ≤ a3 ∧ a3 < ((a2 : Nat) : Int)) <|
 .grd ((a1 + ((a3).toNat)) < a0.length) <|
 .grd (0 ≤ a3 ∧ a3 < ((a2 : Nat) : Int)) <|
 .conv 1013 (azq 1 az0 a0 3 (a1 + ((a3).toNat)) (a0.getD (a1 + ((a5).toNat)) default)) <|
 .grd ((a1 + ((a3).toNat)) < a0.length ∧ 0 ≤ (a1 + ((a3).toNat))) <|
 .grd (0 ≤ a5 ∧ a5 < ((a2 : Nat) : Int)) <|
 .conv 1015 (azq 1 az0 (a0.set (a1 + ((a3).toNat)) (a0.getD (a1 + ((a5).toNat)) default)) 3 (a1 + ((a5).toNat)) (a0.getD (a1 + ((a3).toNat)) default)) <|
 .grd ((a1 + ((a5).toNat)) < (a0.set (a1 + ((a3).toNat)) (a0.getD (a1 + ((a5).toNat)) default)).length ∧ 0 ≤ (a1 + ((a5).toNat))) <|
 .loop (fun (x2571 : ((List Int) × Int × Int)) => ⟨[(0, .view 0 1 a1 a2), (1, pz a3), (4, .func 121 [] [.ptr 1 0, .ptr 2 0]), (11, pz x2571.2.1), (12, pz x2571.2.2)], [(0, vecO 1 az0 x2571.1 3), (1, .box [.pure (encL 1 (encL 1 az0) a6)]), (2, .box [pz a7])], [], 3⟩)
 (.exit 0) (fun (y2828 : (Int × (List Int))) => ⟨[(11, pz y2828.1)], [(0, vecO 1 az0 y2828.2 3), (1, .box [.pure (encL 1 (encL 1 az0) a6)]), (2, .box [pz a7])], [], 3⟩)
 (fun x2571 => .loop (fun (x2913 : Int) => ⟨[(0, .view 0 1 a1 a2), (1, pz a3), (4, .func 121 [] [.ptr 1 0, .ptr 2 0]), (11, pz x2913), (12, pz x2571.2.2)], [(0, vecO 1 az0 x2571.1 3), (1, .box [.pure (encL 1 (encL 1 az0) a6)]), (2, .box [pz a7])], [], 3⟩)
 (.exit 2) (fun (y2934 : Int) => ⟨[(0, .view 0 1 a1 a2), (1, pz a3), (4, .func 121 [] [.ptr 1 0, .ptr 2 0]), (11, pz y2934), (12, pz x2571.2.2)], [(0, vecO 1 az0 x2571.1 3), (1, .box [.pure (encL 1 (encL 1 az0) a6)]), (2, .box [pz a7])], [], 3⟩)
 (fun x2913 => .cut 1 (fun (y2951 : Bool) => ⟨[(0, .view 0 1 a1 a2), (1, pz a3), (4, .func 121 [] [.ptr 1 0, .ptr 2 0]), (11, pz x2913), (12, pz x2571.2.2), (47, .pure (.bool y2951))], [(0, vecO 1 az0 x2571.1 3), (1, .box [.pure (encL 1 (encL 1 az0) a6)]), (2, .box [pz a7])], [], 3⟩)
 (.br (decide (x2913 ≤ x2571.2.2))
 (.grd (0 ≤ a3 ∧ a3 < ((a2 : Nat) : Int)) <|
 .grd ((a1 + ((a3).toNat)) < x2571.1.length) <|
 .name 3008 ((x2571.1.getD (a1 + ((a3).toNat)) default)) fun z2952 =>
 .grd (0 ≤ x2913 ∧ x2913 < ((a2 : Nat) : Int)) <|
 .grd ((a1 + ((x2913).toNat)) < x2571.1.length) <|
 .name 3012 ((x2571.1.getD (a1 + ((x2913).toNat)) default)) fun z2953 =>
 .call (azm z2952 z2953 a6 a7) [(0, 1), (1, 2)] fun y2954 =>
 .ret (.out (!(decide (y2954 < 0)))))
 (.ret (.out false))) fun y2951 =>
 .br y2951
 (.ret (.next (IntKind.i64.wrap (x2913 + 1))))
 (.ret (.out x2913)))
 x2571.2.1 [] fun y2934 =>
 .loop (fun (x3039 : Int) => ⟨[(0, .view 0 1 a1 a2), (1, pz a3), (4, .func 121 [] [.ptr 1 0, .ptr 2 0]), (11, pz y2934), (12, pz x3039)], [(0, vecO 1 az0 x2571.1 3), (1, .box [.pure (encL 1 (encL 1 az0) a6)]), (2, .box [pz a7])], [], 3⟩)
 (.exit 4) (fun (y3060 : Int) => ⟨[(0, .view 0 1 a1 a2), (1, pz a3), (4, .func 121 [] [.ptr 1 0, .ptr 2 0]), (11, pz y2934), (12, pz y3060)], [(0, vecO 1 az0 x2571.1 3), (1, .box [.pure (encL 1 (encL 1 az0) a6)]), (2, .box [pz a7])], [], 3⟩)
 (fun x3039 => .cut 1 (fun (y3077 : Bool) => ⟨[(0, .view 0 1 a1 a2), (1, pz a3), (4, .func 121 [] [.ptr 1 0, .ptr 2 0]), (11, pz y2934), (12, pz x3039), (65, .pure (.bool y3077))], [(0, vecO 1 az0 x2571.1 3), (1, .box [.pure (encL 1 (encL 1 az0) a6)]), (2, .box [pz a7])], [], 3⟩)
 (.br (decide (y2934 ≤ x3039))
 (.grd (0 ≤ a3 ∧ a3 < ((a2 : Nat) : Int)) <|
 .grd ((a1 + ((a3).toNat)) < x2571.1.length) <|
 .name 5008 ((x2571.1.getD (a1 + ((a3).toNat)) default)) fun z3078 =>
 .grd (0 ≤ x3039 ∧ x3039 < ((a2 : Nat) : Int)) <|
 .grd ((a1 + ((x3039).toNat)) < x2571.1.length) <|
 .name 5012 ((x2571.1.getD (a1 + ((x3039).toNat)) default)) fun z3079 =>
 .call (azm z3078 z3079 a6 a7) [(0, 1), (1, 2)] fun y3080 =>
 .ret (.out (decide (y3080 < 0))))
 (.ret (.out false))) fun y3077 =>
 .br y3077
 (.ret (.next (IntKind.i64.wrap (x3039 - 1))))
 (.ret (.out x3039)))
 x2571.2.2 [] fun y3060 =>
 .br (decide (y2934 > y3060))
 (.ret (.out (y2934, x2571.1)))
 (.grd (0 ≤ y3060 ∧ y3060 < ((a2 : Nat) : Int)) <|
 .grd ((a1 + ((y3060).toNat)) < x2571.1.length) <|
 .name 8007 ((x2571.1.getD (a1 + ((y3060).toNat)) default)) fun z3083 =>
 .grd (0 ≤ y2934 ∧ y2934 < ((a2 : Nat) : Int)) <|
 .grd ((a1 + ((y2934).toNat)) < x2571.1.length) <|
 .name 8011 ((x2571.1.getD (a1 + ((y2934).toNat)) default)) fun z3084 =>
 .grd (0 ≤ y2934 ∧ y2934 < ((a2 : Nat) : Int)) <|
 .conv 8013 (azq 1 az0 x2571.1 3 (a1 + ((y2934).toNat)) z3083) <|
 .grd ((a1 + ((y2934).toNat)) < x2571.1.length ∧ 0 ≤ (a1 + ((y2934).toNat))) <|
 .grd (0 ≤ y3060 ∧ y3060 < ((a2 : Nat) : Int)) <|
 .conv 8015 (azq 1 az0 (x2571.1.set (a1 + ((y2934).toNat)) z3083) 3 (a1 + ((y3060).toNat)) z3084) <|
 .grd ((a1 + ((y3060).toNat)) < (x2571.1.set (a1 + ((y2934).toNat)) z3083).length ∧ 0 ≤ (a1 + ((y3060).toNat))) <|
 .ret (.next (((x2571.1.set (a1 + ((y2934).toNat)) z3083).set (a1 + ((y3060).toNat)) z3084), (IntKind.i64.wrap (y2934 + 1)), (IntKind.i64.wrap (y3060 - 1))))))
 (((a0.set (a1 + ((a3).toNat)) (a0.getD (a1 + ((a5).toNat)) default)).set (a1 + ((a5).toNat)) (a0.getD (a1 + ((a3).toNat)) default)), (IntKind.i64.wrap (a3 + 1)), (IntKind.i64.wrap (a4 - 1))) [] fun y2828 =>
 .ret (y2828.1, y2828.2)
noncomputable def ezk (a0 : (List Int)) (a1 : Nat) (a2 : Nat) (a3 : Int) (a4 : Int) (a5 : Int) (a6 : (List (List Int))) (a7 : Int) : CallS (Int × (List Int)) :=
  mkC [] hd Tryz.func180 (by kernel_rfl) (czl a0 a1 a2 a3 a4 a5 a6 a7) 3 [.view 0 1 a1 a2, pz a3, pz a4, pz a5, .func 121 [] [.ptr 1 0, .ptr 2 0]] [(0, vecO 1 az0 a0 3), (1, .box [.pure (encL 1 (encL 1 az0) a6)]), (2, .box [pz a7])] (fun r => pz r.1) (fun r => [(0, vecO 1 az0 r.2 3), (1, .box [.pure (encL 1 (encL 1 az0) a6)]), (2, .box [pz a7])]) (by kernel_rfl)
end Go.Abs
