/-
  M1 (a part of a claim: our own text).
-/
import Derived.Test.YtfodaccgmcljoaaGreatYARngF
import Derived.Test.YtfodaccgmcljoaaGreatYALend
import Derived.Test.YtfodaccgmcljoaaGreatChecked
namespace Go.Abs
open Go.Proofs
abbrev pz (x : Int) : AVal := .pure (.int .i64 x)
theorem hd : ez5 Tryz.prog Qzm := Jzp (by kernel_rfl)
structure Czm where
  list : (List Int)
  next : Int
instance : Inhabited Czm := ⟨⟨default, default⟩⟩
structure azs where
  Name : ByteArray
  Kind : Int
  Parent : Int
  Offset : (Int × Int × Int)
  Lo : Int
  Hi : Int
  Weight : Int
  Speed : Int
  Accel : Int
  Torque : Int
instance : Inhabited azs := ⟨⟨default, default, default, default, default, default, default, default, default, default⟩⟩
structure bzf where
  Link : Int
  Mass : Int
  Point : (Int × Int × Int)
instance : Inhabited bzf := ⟨⟨default, default, default⟩⟩
structure azo where
  Joints : (List azs)
  Masses : (List bzf)
instance : Inhabited azo := ⟨⟨default, default⟩⟩
structure bz0 where
  Link : Int
  Radius : Int
  Points : (List (Int × Int × Int))
instance : Inhabited bz0 := ⟨⟨default, default, default⟩⟩
structure gzl where
  A : Int
  B : Int
instance : Inhabited gzl := ⟨⟨default, default⟩⟩
structure azn where
  Robot : azo
  Shapes : (List bz0)
  Skips : (List gzl)
instance : Inhabited azn := ⟨⟨default, default, default⟩⟩
structure azq where
  Depth : Int
  Index : Int
  Normals : (List (Int × Int × Int))
instance : Inhabited azq := ⟨⟨default, default, default⟩⟩
structure azz where
  Pair : Int
  Left : (List Int)
  Right : (List Int)
instance : Inhabited azz := ⟨⟨default, default, default⟩⟩
structure azj where
  Kind : Int
  Pieces : (List azq)
  At : azq
  Witness : azz
instance : Inhabited azj := ⟨⟨default, default, default, default⟩⟩
structure az1 where
  U : Int
  V : Int
  Cost : Int
  State : Int
  Proof : azj
instance : Inhabited az1 := ⟨⟨default, default, default, default, default⟩⟩
structure aze where
  Points : (List (List Int))
  Edges : (List az1)
instance : Inhabited aze := ⟨⟨default, default⟩⟩
structure bzx where
  Vertices : (List Int)
  Cost : Int
instance : Inhabited bzx := ⟨⟨default, default⟩⟩
structure az8 where
  to : Int
  cost : Int
instance : Inhabited az8 := ⟨⟨default, default⟩⟩
structure az6 where
  cost : Int
  points : Int
instance : Inhabited az6 := ⟨⟨default, default⟩⟩
structure aza where
  rank : az6
  point : Int
instance : Inhabited aza := ⟨⟨default, default⟩⟩
structure az0 where
  Lo : Int
  Hi : Int
instance : Inhabited az0 := ⟨⟨default, default⟩⟩
structure dz4 where
  A : Int
  B : Int
instance : Inhabited dz4 := ⟨⟨default, default⟩⟩
structure bzq where
  shapes : (List bz0)
  pairs : (List dz4)
  points : (List (List (az0 × az0 × az0)))
instance : Inhabited bzq := ⟨⟨default, default, default⟩⟩
structure bz9 where
  R : ((az0 × az0 × az0) × (az0 × az0 × az0) × (az0 × az0 × az0))
  T : (az0 × az0 × az0)
instance : Inhabited bz9 := ⟨⟨default, default⟩⟩
structure dzl where
  Kind : Int
  Normals : (List (Int × Int × Int))
  Witness : azz
instance : Inhabited dzl := ⟨⟨default, default, default⟩⟩
structure ez6 where
  a : (List (az0 × az0 × az0))
  b : (List (az0 × az0 × az0))
  ra : Int
  rb : Int
instance : Inhabited ez6 := ⟨⟨default, default, default, default⟩⟩
structure dzw where
  points : (List (az0 × az0 × az0))
  radius : Int
instance : Inhabited dzw := ⟨⟨default, default⟩⟩
structure czf where
  a : dzw
  b : dzw
instance : Inhabited czf := ⟨⟨default, default⟩⟩
structure gzq where
  Kind : Int
  Normal : (Int × Int × Int)
  Left : (List Int)
  Right : (List Int)
  Steps : Int
instance : Inhabited gzq := ⟨⟨default, default, default, default, default⟩⟩
structure dz7 where
  witness : azz
instance : Inhabited dz7 := ⟨⟨default⟩⟩
structure czv where
  normals : (List (Int × Int × Int))
instance : Inhabited czv := ⟨⟨default⟩⟩
structure Czo where
  Cost : Int
  Edges : Int
instance : Inhabited Czo := ⟨⟨default, default⟩⟩
structure Czn where
  depth : Int
  index : Int
  hints : (List (Int × Int × Int))
instance : Inhabited Czn := ⟨⟨default, default, default⟩⟩
structure Ezg where
  points : (List (az0 × az0 × az0))
  radius : Int
instance : Inhabited Ezg := ⟨⟨default, default⟩⟩
def azh (v : azs) : PVal := .agg [.str v.Name, .int .i64 v.Kind, .int .i64 v.Parent, .int .i64 v.Offset.1, .int .i64 v.Offset.2.1, .int .i64 v.Offset.2.2, .int .i64 v.Lo, .int .i64 v.Hi, .int .i64 v.Weight, .int .i64 v.Speed, .int .i64 v.Accel, .int .i64 v.Torque]
def azl (v : bzf) : PVal := .agg [.int .i64 v.Link, .int .i64 v.Mass, .int .i64 v.Point.1, .int .i64 v.Point.2.1, .int .i64 v.Point.2.2]
def czx (v : azo) : PVal := .agg [encL 12 azh v.Joints, encL 5 azl v.Masses]
def az2 (v : (Int × Int × Int)) : PVal := .agg [.int .i64 v.1, .int .i64 v.2.1, .int .i64 v.2.2]
def azv (v : bz0) : PVal := .agg [.int .i64 v.Link, .int .i64 v.Radius, encL 3 az2 v.Points]
def bzp (v : gzl) : PVal := .agg [.int .i64 v.A, .int .i64 v.B]
def ezr (v : azn) : PVal := .agg [encL 12 azh v.Robot.Joints, encL 5 azl v.Robot.Masses, encL 3 azv v.Shapes, encL 2 bzp v.Skips]
def bz1 (v : azq) : PVal := .agg [.int .i64 v.Depth, .int .i64 v.Index, encL 3 az2 v.Normals]
def zzh (v : azz) : PVal := .agg [.int .i64 v.Pair, encL 1 az3 v.Left, encL 1 az3 v.Right]
def dzh (v : azj) : PVal := .agg [.int .i64 v.Kind, encL 3 bz1 v.Pieces, .int .i64 v.At.Depth, .int .i64 v.At.Index, encL 3 az2 v.At.Normals, .int .i64 v.Witness.Pair, encL 1 az3 v.Witness.Left, encL 1 az3 v.Witness.Right]
def az5 (v : az1) : PVal := .agg [.int .i64 v.U, .int .i64 v.V, .int .i64 v.Cost, .int .i64 v.State, .int .i64 v.Proof.Kind, encL 3 bz1 v.Proof.Pieces, .int .i64 v.Proof.At.Depth, .int .i64 v.Proof.At.Index, encL 3 az2 v.Proof.At.Normals, .int .i64 v.Proof.Witness.Pair, encL 1 az3 v.Proof.Witness.Left, encL 1 az3 v.Proof.Witness.Right]
def cz8 (v : aze) : PVal := .agg [encL 1 (encL 1 az3) v.Points, encL 12 az5 v.Edges]
def vzd (v : bzx) : PVal := .agg [encL 1 az3 v.Vertices, .int .i64 v.Cost]
def azu (v : az8) : PVal := .agg [.int .i64 v.to, .int .i64 v.cost]
def bz2 (v : az6) : PVal := .agg [.int .i64 v.cost, .int .i64 v.points]
def azr (v : aza) : PVal := .agg [.int .i64 v.rank.cost, .int .i64 v.rank.points, .int .i64 v.point]
def azf (v : az0) : PVal := .agg [.int .i64 v.Lo, .int .i64 v.Hi]
def gz9 (v : dz4) : PVal := .agg [.int .i64 v.A, .int .i64 v.B]
def az4 (v : (az0 × az0 × az0)) : PVal := .agg [.int .i64 v.1.Lo, .int .i64 v.1.Hi, .int .i64 v.2.1.Lo, .int .i64 v.2.1.Hi, .int .i64 v.2.2.Lo, .int .i64 v.2.2.Hi]
def ozh (v : bzq) : PVal := .agg [encL 3 azv v.shapes, encL 2 gz9 v.pairs, encL 1 (encL 6 az4) v.points]
def czn (v : bz9) : PVal := .agg [.int .i64 v.R.1.1.Lo, .int .i64 v.R.1.1.Hi, .int .i64 v.R.1.2.1.Lo, .int .i64 v.R.1.2.1.Hi, .int .i64 v.R.1.2.2.Lo, .int .i64 v.R.1.2.2.Hi, .int .i64 v.R.2.1.1.Lo, .int .i64 v.R.2.1.1.Hi, .int .i64 v.R.2.1.2.1.Lo, .int .i64 v.R.2.1.2.1.Hi, .int .i64 v.R.2.1.2.2.Lo, .int .i64 v.R.2.1.2.2.Hi, .int .i64 v.R.2.2.1.Lo, .int .i64 v.R.2.2.1.Hi, .int .i64 v.R.2.2.2.1.Lo, .int .i64 v.R.2.2.2.1.Hi, .int .i64 v.R.2.2.2.2.Lo, .int .i64 v.R.2.2.2.2.Hi, .int .i64 v.T.1.Lo, .int .i64 v.T.1.Hi, .int .i64 v.T.2.1.Lo, .int .i64 v.T.2.1.Hi, .int .i64 v.T.2.2.Lo, .int .i64 v.T.2.2.Hi]
def zzi (v : (Int × Int × Int × Int)) : PVal := .agg [.int .i64 v.1, .int .i64 v.2.1, .int .i64 v.2.2.1, .int .i64 v.2.2.2]
def uzb (v : dzl) : PVal := .agg [.int .i64 v.Kind, encL 3 az2 v.Normals, .int .i64 v.Witness.Pair, encL 1 az3 v.Witness.Left, encL 1 az3 v.Witness.Right]
def uzc (v : ez6) : PVal := .agg [encL 6 az4 v.a, encL 6 az4 v.b, .int .i64 v.ra, .int .i64 v.rb]
def Bzb (v : dzw) : PVal := .agg [encL 6 az4 v.points, .int .i64 v.radius]
def lzg (v : czf) : PVal := .agg [encL 6 az4 v.a.points, .int .i64 v.a.radius, encL 6 az4 v.b.points, .int .i64 v.b.radius]
def Hz5 (v : gzq) : PVal := .agg [.int .i64 v.Kind, .int .i64 v.Normal.1, .int .i64 v.Normal.2.1, .int .i64 v.Normal.2.2, encL 1 az3 v.Left, encL 1 az3 v.Right, .int .i64 v.Steps]
def rz0 (v : dz7) : PVal := .agg [.int .i64 v.witness.Pair, encL 1 az3 v.witness.Left, encL 1 az3 v.witness.Right]
def pz9 (v : czv) : PVal := .agg [encL 3 az2 v.normals]
def vze (v : (Int × Int)) : PVal := .agg [.int .i64 v.1, .int .i64 v.2]
def czk (v : ((az0 × az0 × az0) × (az0 × az0 × az0) × (az0 × az0 × az0))) : PVal := .agg [.int .i64 v.1.1.Lo, .int .i64 v.1.1.Hi, .int .i64 v.1.2.1.Lo, .int .i64 v.1.2.1.Hi, .int .i64 v.1.2.2.Lo, .int .i64 v.1.2.2.Hi, .int .i64 v.2.1.1.Lo, .int .i64 v.2.1.1.Hi, .int .i64 v.2.1.2.1.Lo, .int .i64 v.2.1.2.1.Hi, .int .i64 v.2.1.2.2.Lo, .int .i64 v.2.1.2.2.Hi, .int .i64 v.2.2.1.Lo, .int .i64 v.2.2.1.Hi, .int .i64 v.2.2.2.1.Lo, .int .i64 v.2.2.2.1.Hi, .int .i64 v.2.2.2.2.Lo, .int .i64 v.2.2.2.2.Hi]
def qzi (v : (Int × Int × Int × Int × Int × Int × Int × Int × Int × Int × Int)) : PVal := .agg [.int .i64 v.1, .int .i64 v.2.1, .int .i64 v.2.2.1, .int .i64 v.2.2.2.1, .int .i64 v.2.2.2.2.1, .int .i64 v.2.2.2.2.2.1, .int .i64 v.2.2.2.2.2.2.1, .int .i64 v.2.2.2.2.2.2.2.1, .int .i64 v.2.2.2.2.2.2.2.2.1, .int .i64 v.2.2.2.2.2.2.2.2.2.1, .int .i64 v.2.2.2.2.2.2.2.2.2.2]
theorem Qzs : GuardFn Tryz.prog 37 :=
  eza (fn := Tryz.f37) Tryz.func37 (by kernel_rfl) ⟨0, (gOps Tryz.f37).getD 0 default, (gOps Tryz.f37).getD 1 default, 4, 5, gX Tryz.f37, gC ((gOps Tryz.f37).getD 0 default), 20, 20, by kernel_rfl, by kernel_rfl, by kernel_rfl, by kernel_rfl, by kernel_rfl, by kernel_rfl, by kernel_rfl, by kernel_rfl, ⟨gMs (Tryz.prog.underlying 20), by kernel_rfl⟩, by decide, by decide, by kernel_rfl⟩
theorem Qzt : GuardFn Tryz.prog 50 :=
  eza (fn := Tryz.f50) Tryz.func50 (by kernel_rfl) ⟨0, (gOps Tryz.f50).getD 0 default, (gOps Tryz.f50).getD 1 default, 3, 4, gX Tryz.f50, gC ((gOps Tryz.f50).getD 0 default), 20, 20, by kernel_rfl, by kernel_rfl, by kernel_rfl, by kernel_rfl, by kernel_rfl, by kernel_rfl, by kernel_rfl, by kernel_rfl, ⟨gMs (Tryz.prog.underlying 20), by kernel_rfl⟩, by decide, by decide, by kernel_rfl⟩
theorem Qzu : GuardFn Tryz.prog 57 :=
  eza (fn := Tryz.f57) Tryz.func57 (by kernel_rfl) ⟨0, (gOps Tryz.f57).getD 0 default, (gOps Tryz.f57).getD 1 default, 2, 3, gX Tryz.f57, gC ((gOps Tryz.f57).getD 0 default), 20, 20, by kernel_rfl, by kernel_rfl, by kernel_rfl, by kernel_rfl, by kernel_rfl, by kernel_rfl, by kernel_rfl, by kernel_rfl, ⟨gMs (Tryz.prog.underlying 20), by kernel_rfl⟩, by decide, by decide, by kernel_rfl⟩
theorem Qzv : GuardFn Tryz.prog 70 :=
  eza (fn := Tryz.f70) Tryz.func70 (by kernel_rfl) ⟨0, (gOps Tryz.f70).getD 0 default, (gOps Tryz.f70).getD 1 default, 2, 3, gX Tryz.f70, gC ((gOps Tryz.f70).getD 0 default), 20, 20, by kernel_rfl, by kernel_rfl, by kernel_rfl, by kernel_rfl, by kernel_rfl, by kernel_rfl, by kernel_rfl, by kernel_rfl, ⟨gMs (Tryz.prog.underlying 20), by kernel_rfl⟩, by decide, by decide, by kernel_rfl⟩
theorem Lz7 : GuardFn Tryz.prog 94 :=
  eza (fn := Tryz.f94) Tryz.func94 (by kernel_rfl) ⟨0, (gOps Tryz.f94).getD 0 default, (gOps Tryz.f94).getD 1 default, 2, 3, gX Tryz.f94, gC ((gOps Tryz.f94).getD 0 default), 20, 20, by kernel_rfl, by kernel_rfl, by kernel_rfl, by kernel_rfl, by kernel_rfl, by kernel_rfl, by kernel_rfl, by kernel_rfl, ⟨gMs (Tryz.prog.underlying 20), by kernel_rfl⟩, by decide, by decide, by kernel_rfl⟩
theorem Nzq : GuardFn Tryz.prog 102 :=
  eza (fn := Tryz.f102) Tryz.func102 (by kernel_rfl) ⟨0, (gOps Tryz.f102).getD 0 default, (gOps Tryz.f102).getD 1 default, 1, 2, gX Tryz.f102, gC ((gOps Tryz.f102).getD 0 default), 20, 20, by kernel_rfl, by kernel_rfl, by kernel_rfl, by kernel_rfl, by kernel_rfl, by kernel_rfl, by kernel_rfl, by kernel_rfl, ⟨gMs (Tryz.prog.underlying 20), by kernel_rfl⟩, by decide, by decide, by kernel_rfl⟩
theorem Nzr : GuardFn Tryz.prog 136 :=
  eza (fn := Tryz.f136) Tryz.func136 (by kernel_rfl) ⟨0, (gOps Tryz.f136).getD 0 default, (gOps Tryz.f136).getD 1 default, 1, 2, gX Tryz.f136, gC ((gOps Tryz.f136).getD 0 default), 20, 20, by kernel_rfl, by kernel_rfl, by kernel_rfl, by kernel_rfl, by kernel_rfl, by kernel_rfl, by kernel_rfl, by kernel_rfl, ⟨gMs (Tryz.prog.underlying 20), by kernel_rfl⟩, by decide, by decide, by kernel_rfl⟩
theorem Nzs : GuardFn Tryz.prog 168 :=
  eza (fn := Tryz.f168) Tryz.func168 (by kernel_rfl) ⟨0, (gOps Tryz.f168).getD 0 default, (gOps Tryz.f168).getD 1 default, 2, 3, gX Tryz.f168, gC ((gOps Tryz.f168).getD 0 default), 20, 20, by kernel_rfl, by kernel_rfl, by kernel_rfl, by kernel_rfl, by kernel_rfl, by kernel_rfl, by kernel_rfl, by kernel_rfl, ⟨gMs (Tryz.prog.underlying 20), by kernel_rfl⟩, by decide, by decide, by kernel_rfl⟩
theorem Nzt : GuardFn Tryz.prog 176 :=
  eza (fn := Tryz.f176) Tryz.func176 (by kernel_rfl) ⟨0, (gOps Tryz.f176).getD 0 default, (gOps Tryz.f176).getD 1 default, 1, 2, gX Tryz.f176, gC ((gOps Tryz.f176).getD 0 default), 20, 20, by kernel_rfl, by kernel_rfl, by kernel_rfl, by kernel_rfl, by kernel_rfl, by kernel_rfl, by kernel_rfl, by kernel_rfl, ⟨gMs (Tryz.prog.underlying 20), by kernel_rfl⟩, by decide, by decide, by kernel_rfl⟩
theorem Nzu : GuardFn Tryz.prog 219 :=
  eza (fn := Tryz.f219) Tryz.func219 (by kernel_rfl) ⟨0, (gOps Tryz.f219).getD 0 default, (gOps Tryz.f219).getD 1 default, 2, 3, gX Tryz.f219, gC ((gOps Tryz.f219).getD 0 default), 20, 20, by kernel_rfl, by kernel_rfl, by kernel_rfl, by kernel_rfl, by kernel_rfl, by kernel_rfl, by kernel_rfl, by kernel_rfl, ⟨gMs (Tryz.prog.underlying 20), by kernel_rfl⟩, by decide, by decide, by kernel_rfl⟩
theorem Nzv : GuardFn Tryz.prog 243 :=
  eza (fn := Tryz.f243) Tryz.func243 (by kernel_rfl) ⟨0, (gOps Tryz.f243).getD 0 default, (gOps Tryz.f243).getD 1 default, 2, 3, gX Tryz.f243, gC ((gOps Tryz.f243).getD 0 default), 20, 20, by kernel_rfl, by kernel_rfl, by kernel_rfl, by kernel_rfl, by kernel_rfl, by kernel_rfl, by kernel_rfl, by kernel_rfl, ⟨gMs (Tryz.prog.underlying 20), by kernel_rfl⟩, by decide, by decide, by kernel_rfl⟩
noncomputable def Hzh (a0 : (List Int)) : T ((List Int) × Int) :=
 .ret (a0, 0)
noncomputable def iza (a0 : (List Int)) : CallS ((List Int) × Int) :=
  mkC [] hd Tryz.func25 (by kernel_rfl) (Hzh a0) 0 [.pure (encL 1 az3 a0)] [] (fun _ => .ptr 0 0) (fun r => [(0, .box [.pure (encL 1 az3 r.1), pz r.2])]) (by kernel_rfl)
noncomputable def rzo (a0 : Int) (a1 : Int) : T Int :=
 .grd (a1 ≠ 0) <|
 .cut 0 (fun (y1 : Int) => ⟨[(5, pz y1)], [], [], 0⟩)
 (.br (decide ((a0.tmod a1) < 0))
 (.ret (.out (IntKind.i64.wrap ((a0.tmod a1) + a1))))
 (.ret (.out (a0.tmod a1)))) fun y1 =>
 .ret y1
noncomputable def czy (a0 : Int) (a1 : Int) : CallS Int :=
  mkC [] hd Tryz.func13 (by kernel_rfl) (rzo a0 a1) 0 [pz a0, pz a1] [] (fun r => pz r) (fun _ => []) (by kernel_rfl)
noncomputable def ozz (a0 : (List Int)) (a1 : Int) (a2 : Int) : T (Int × (List Int) × Int) :=
 .br (decide (a1 ≥ ((a0.length : Nat) : Int)))
 (.ret (0, a0, a1))
 (.grd (0 ≤ (IntKind.i64.wrap ((IntKind.i64.wrap (a1 + 1)) - 1)) ∧ (IntKind.i64.wrap ((IntKind.i64.wrap (a1 + 1)) - 1)) < ((a0.length : Nat) : Int)) <|
 .call (czy (a0.getD (((IntKind.i64.wrap ((IntKind.i64.wrap (a1 + 1)) - 1))).toNat) default) a2) [] fun y1 =>
 .ret (y1, a0, (IntKind.i64.wrap (a1 + 1))))
noncomputable def azi (a0 : (List Int)) (a1 : Int) (a2 : Int) : CallS (Int × (List Int) × Int) :=
  mkC [] hd Tryz.func27 (by kernel_rfl) (ozz a0 a1 a2) 1 [.ptr 0 0, pz a2] [(0, .box [.pure (encL 1 az3 a0), pz a1])] (fun r => pz r.1) (fun r => [(0, .box [.pure (encL 1 az3 r.2.1), pz r.2.2])]) (by kernel_rfl)
noncomputable def hz7 (a0 : Int) : T ByteArray :=
 .grd (0 ≤ a0 ∧ a0 ≤ (IntKind.i64.wrap (a0 + 1)) ∧ (IntKind.i64.wrap (a0 + 1)) ≤ (((⟨#[97, 98, 99, 100, 101, 102, 103, 104, 105, 106]⟩ : ByteArray).size : Nat) : Int)) <|
 .ret ((⟨#[97, 98, 99, 100, 101, 102, 103, 104, 105, 106]⟩ : ByteArray).extract (a0).toNat ((IntKind.i64.wrap (a0 + 1))).toNat)
noncomputable def hz6 (a0 : Int) : CallS ByteArray :=
  mkC [] hd Tryz.func88 (by kernel_rfl) (hz7 a0) 0 [pz a0] [] (fun r => .pure (.str r)) (fun _ => []) (by kernel_rfl)
noncomputable def lz5 (a0 : (List Int)) (a1 : Int) (a2 : Int) : T (Int × (List Int) × Int) :=
 .call (azi a0 a1 (IntKind.i64.wrap ((IntKind.i64.wrap (2 * a2)) + 1))) [(0, 0)] fun y1 =>
 .ret ((IntKind.i64.wrap (y1.1 - a2)), y1.2.1, y1.2.2)
noncomputable def bz5 (a0 : (List Int)) (a1 : Int) (a2 : Int) : CallS (Int × (List Int) × Int) :=
  mkC [] hd Tryz.func29 (by kernel_rfl) (lz5 a0 a1 a2) 1 [.ptr 0 0, pz a2] [(0, .box [.pure (encL 1 az3 a0), pz a1])] (fun r => pz r.1) (fun r => [(0, .box [.pure (encL 1 az3 r.2.1), pz r.2.2])]) (by kernel_rfl)
noncomputable def jzj (a0 : (List Int)) (a1 : Int) (a2 : Int) : T (azs × (List Int) × Int) :=
 .call (hz6 a2) [] fun y4 =>
 .call (azi a0 a1 4) [(0, 0)] fun y5 =>
 .call (azi y5.2.1 y5.2.2 3) [(0, 0)] fun y6 =>
 .call (azi y6.2.1 y6.2.2 8) [(0, 0)] fun y8 =>
 .grd (0 ≤ y8.1 ∧ y8.1 < ((8 : Nat) : Int)) <|
 .cut 0 (fun (y13 : ((List Int) × Int × Int)) => ⟨[(0, .ptr 0 0), (1, pz a2), (4, .ptr 1 0), (5, .ptr 2 0)], [(0, .box [.pure (encL 1 az3 y13.1), pz y13.2.1]), (1, .box [.pure (.str (⟨#[]⟩ : ByteArray)), pz 0, pz 0, pz 0, pz 0, pz 0, pz 0, pz 0, pz 0, pz 0, pz 0, pz 0]), (2, .box [.pure (.str y4), pz (([3, 3, 1, 2, 4, 5, 3, 0] : List Int).getD (y8.1).toNat 0), pz y13.2.2, pz 0, pz 0, pz 0, pz 0, pz 0, pz (IntKind.i64.wrap (1 + y5.1)), pz 65536, pz (IntKind.i64.wrap (65536 + y6.1)), pz 327680])], [], 3⟩)
 (.call (azi y8.2.1 y8.2.2 4) [(0, 0)] fun y15 =>
 .br (y15.1 == 1)
 (.ret (.out (y15.2.1, y15.2.2, (-1))))
 (.ret (.out (y15.2.1, y15.2.2, (IntKind.i64.wrap (a2 - 1)))))) fun y13 =>
 .cut 0 (fun (y20 : ((List Int) × Int × Int × Int × Int)) => ⟨[(0, .ptr 0 0), (4, .ptr 1 0), (5, .ptr 2 0)], [(0, .box [.pure (encL 1 az3 y20.1), pz y20.2.1]), (1, .box [.pure (.str (⟨#[]⟩ : ByteArray)), pz 0, pz 0, pz 0, pz 0, pz 0, pz 0, pz 0, pz 0, pz 0, pz 0, pz 0]), (2, .box [.pure (.str y4), pz (([3, 3, 1, 2, 4, 5, 3, 0] : List Int).getD (y8.1).toNat 0), pz y13.2.2, pz y20.2.2.1, pz y20.2.2.2.1, pz y20.2.2.2.2, pz 0, pz 0, pz (IntKind.i64.wrap (1 + y5.1)), pz 65536, pz (IntKind.i64.wrap (65536 + y6.1)), pz 327680])], [], 3⟩)
 (.br (decide (a2 > 0))
 (.call (bz5 y13.1 y13.2.1 2) [(0, 0)] fun y21 =>
 .call (bz5 y21.2.1 y21.2.2 1) [(0, 0)] fun y22 =>
 .ret (.out (y22.2.1, y22.2.2, 131072, (IntKind.i64.wrap (y21.1 * 32768)), (IntKind.i64.wrap (y22.1 * 32768)))))
 (.ret (.out (y13.1, y13.2.1, 0, 0, 0)))) fun y20 =>
 .cut 0 (fun (y35 : ((List Int) × Int × Int × Int)) => ⟨[(4, .ptr 1 0), (5, .ptr 2 0)], [(0, .box [.pure (encL 1 az3 y35.1), pz y35.2.1]), (1, .box [.pure (.str (⟨#[]⟩ : ByteArray)), pz 0, pz 0, pz 0, pz 0, pz 0, pz 0, pz 0, pz 0, pz 0, pz 0, pz 0]), (2, .box [.pure (.str y4), pz (([3, 3, 1, 2, 4, 5, 3, 0] : List Int).getD (y8.1).toNat 0), pz y13.2.2, pz y20.2.2.1, pz y20.2.2.2.1, pz y20.2.2.2.2, pz y35.2.2.1, pz y35.2.2.2, pz (IntKind.i64.wrap (1 + y5.1)), pz 65536, pz (IntKind.i64.wrap (65536 + y6.1)), pz 327680])], [], 3⟩)
 (.br ((([3, 3, 1, 2, 4, 5, 3, 0] : List Int).getD (y8.1).toNat 0) == 0)
 (.ret (.out (y20.1, y20.2.1, 0, 0)))
 (.cut 0 (fun (y36 : Bool) => ⟨[(0, .ptr 0 0), (4, .ptr 1 0), (5, .ptr 2 0), (55, .pure (.bool y36))], [(0, .box [.pure (encL 1 az3 y20.1), pz y20.2.1]), (1, .box [.pure (.str (⟨#[]⟩ : ByteArray)), pz 0, pz 0, pz 0, pz 0, pz 0, pz 0, pz 0, pz 0, pz 0, pz 0, pz 0]), (2, .box [.pure (.str y4), pz (([3, 3, 1, 2, 4, 5, 3, 0] : List Int).getD (y8.1).toNat 0), pz y13.2.2, pz y20.2.2.1, pz y20.2.2.2.1, pz y20.2.2.2.2, pz 0, pz 0, pz (IntKind.i64.wrap (1 + y5.1)), pz 65536, pz (IntKind.i64.wrap (65536 + y6.1)), pz 327680])], [], 3⟩)
 (.br ((([3, 3, 1, 2, 4, 5, 3, 0] : List Int).getD (y8.1).toNat 0) == 4)
 (.ret (.out ((([3, 3, 1, 2, 4, 5, 3, 0] : List Int).getD (y8.1).toNat 0) == 4)))
 (.ret (.out ((([3, 3, 1, 2, 4, 5, 3, 0] : List Int).getD (y8.1).toNat 0) == 5)))) fun y36 =>
 .br y36
 (.call (azi y20.1 y20.2.1 3) [(0, 0)] fun y37 =>
 .call (azi y37.2.1 y37.2.2 4) [(0, 0)] fun y38 =>
 .ret (.out (y38.2.1, y38.2.2, (IntKind.i64.wrap ((IntKind.i64.wrap (0 - y37.1)) * 65536)), (IntKind.i64.wrap (y38.1 * 32768)))))
 (.call (azi y20.1 y20.2.1 5) [(0, 0)] fun y39 =>
 .ok ((8 : Int) ≠ 0) (by decide) <|
 .call (azi y39.2.1 y39.2.2 4) [(0, 0)] fun y40 =>
 .ok ((8 : Int) ≠ 0) (by decide) <|
 .call (azi y40.2.1 y40.2.2 3) [(0, 0)] fun y41 =>
 .ret (.out (y41.2.1, y41.2.2, (IntKind.i64.wrap ((IntKind.i64.wrap ((IntKind.i64.wrap (0 - y39.1)) * 65536)).tdiv 8)), (IntKind.i64.wrap ((IntKind.i64.wrap ((IntKind.i64.wrap ((IntKind.i64.wrap (1 + y40.1)) * 65536)).tdiv 8)) + y41.1))))))) fun y35 =>
 .ret ((⟨y4, (([3, 3, 1, 2, 4, 5, 3, 0] : List Int).getD (y8.1).toNat 0), y13.2.2, (y20.2.2.1, y20.2.2.2.1, y20.2.2.2.2), y35.2.2.1, y35.2.2.2, (IntKind.i64.wrap (1 + y5.1)), 65536, (IntKind.i64.wrap (65536 + y6.1)), 327680⟩ : azs), y35.1, y35.2.1)
noncomputable def jzi (a0 : (List Int)) (a1 : Int) (a2 : Int) : CallS (azs × (List Int) × Int) :=
  mkC [] hd Tryz.func58 (by kernel_rfl) (jzj a0 a1 a2) 1 [.ptr 0 0, pz a2] [(0, .box [.pure (encL 1 az3 a0), pz a1])] (fun r => .pure (azh r.1)) (fun r => [(0, .box [.pure (encL 1 az3 r.2.1), pz r.2.2])]) (by kernel_rfl)
noncomputable def jzk (a0 : (List Int)) (a1 : Int) : T (azo × (List Int) × Int) :=
 .call (azi a0 a1 3) [(0, 0)] fun y2 =>
 .loop (fun (x15 : ((List Int) × Int × (List azs) × Int)) => ⟨[(0, .ptr 0 0), (2, .ptr 1 0), (3, .ptr 4 0), (4, pz (IntKind.i64.wrap (1 + y2.1))), (5, pz x15.2.2.2)], [(0, .box [.pure (encL 1 az3 x15.1), pz x15.2.1]), (1, .box [.vec 2, .vec 3]), (2, .nilv), (3, .nilv), (4, .box [.vec 5, .vec 6]), (5, vecO 12 azh x15.2.2.1 115), (6, .nilv)], [], 7⟩)
 (.exit 0) (fun (y18 : ((List Int) × Int × (List azs))) => ⟨[(0, .ptr 0 0), (2, .ptr 1 0), (3, .ptr 4 0), (4, pz (IntKind.i64.wrap (1 + y2.1)))], [(0, .box [.pure (encL 1 az3 y18.1), pz y18.2.1]), (1, .box [.vec 2, .vec 3]), (2, .nilv), (3, .nilv), (4, .box [.vec 5, .vec 6]), (5, vecO 12 azh y18.2.2 115), (6, .nilv)], [], 7⟩)
 (fun x15 => .br (decide (x15.2.2.2 < (IntKind.i64.wrap (1 + y2.1))))
 (.call (jzi x15.1 x15.2.1 x15.2.2.2) [(0, 0)] fun y20 =>
 .conv 6005 (czp 12 azh ([y20.1] : (List azs)) 115) <|
 .conv 6006 (fzt 12 azh x15.2.2.1 ([y20.1] : (List azs)) 115) <|
 .grd ((x15.2.2.1.length + ([y20.1] : (List azs)).length) * 104 ≤ 140737488355328 ∧ (x15.2.2.1.length + ([y20.1] : (List azs)).length) ≤ maxLen) <|
 .ret (.next (y20.2.1, y20.2.2, (x15.2.2.1 ++ ([y20.1] : (List azs))), (IntKind.i64.wrap (x15.2.2.2 + 1)))))
 (.ret (.out (x15.1, x15.2.1, x15.2.2.1))))
 (y2.2.1, y2.2.2, nl, 0) [] fun y18 =>
 .call (azi y18.1 y18.2.1 3) [(0, 0)] fun y51 =>
 .loop (fun (x61 : ((List Int) × Int × (List bzf) × Int)) => ⟨[(0, .ptr 0 0), (2, .ptr 1 0), (3, .ptr 4 0), (4, pz (IntKind.i64.wrap (1 + y2.1))), (6, pz x61.2.2.2)], [(0, .box [.pure (encL 1 az3 x61.1), pz x61.2.1]), (1, .box [.vec 2, .vec 3]), (2, .nilv), (3, .nilv), (4, .box [.vec 5, .vec 6]), (5, vecO 12 azh y18.2.2 115), (6, vecO 5 azl x61.2.2.1 118)], [], 7⟩)
 (.exit 2) (fun (y70 : ((List Int) × Int × (List bzf))) => ⟨[(2, .ptr 1 0), (3, .ptr 4 0)], [(0, .box [.pure (encL 1 az3 y70.1), pz y70.2.1]), (1, .box [.vec 2, .vec 3]), (2, .nilv), (3, .nilv), (4, .box [.vec 5, .vec 6]), (5, vecO 12 azh y18.2.2 115), (6, vecO 5 azl y70.2.2 118)], [], 7⟩)
 (fun x61 => .br (decide (x61.2.2.2 > 0))
 (.call (azi x61.1 x61.2.1 (IntKind.i64.wrap (1 + y2.1))) [(0, 0)] fun y75 =>
 .call (azi y75.2.1 y75.2.2 9000) [(0, 0)] fun y76 =>
 .call (bz5 y76.2.1 y76.2.2 3) [(0, 0)] fun y77 =>
 .call (bz5 y77.2.1 y77.2.2 2) [(0, 0)] fun y78 =>
 .conv 10016 (czp 5 azl ([(⟨y75.1, (IntKind.i64.wrap (1 + y76.1)), ((IntKind.i64.wrap (y77.1 * 32768)), 0, (IntKind.i64.wrap (y78.1 * 32768)))⟩ : bzf)] : (List bzf)) 118) <|
 .conv 10017 (fzt 5 azl x61.2.2.1 ([(⟨y75.1, (IntKind.i64.wrap (1 + y76.1)), ((IntKind.i64.wrap (y77.1 * 32768)), 0, (IntKind.i64.wrap (y78.1 * 32768)))⟩ : bzf)] : (List bzf)) 118) <|
 .grd ((x61.2.2.1.length + ([(⟨y75.1, (IntKind.i64.wrap (1 + y76.1)), ((IntKind.i64.wrap (y77.1 * 32768)), 0, (IntKind.i64.wrap (y78.1 * 32768)))⟩ : bzf)] : (List bzf)).length) * 40 ≤ 140737488355328 ∧ (x61.2.2.1.length + ([(⟨y75.1, (IntKind.i64.wrap (1 + y76.1)), ((IntKind.i64.wrap (y77.1 * 32768)), 0, (IntKind.i64.wrap (y78.1 * 32768)))⟩ : bzf)] : (List bzf)).length) ≤ maxLen) <|
 .ret (.next (y78.2.1, y78.2.2, (x61.2.2.1 ++ ([(⟨y75.1, (IntKind.i64.wrap (1 + y76.1)), ((IntKind.i64.wrap (y77.1 * 32768)), 0, (IntKind.i64.wrap (y78.1 * 32768)))⟩ : bzf)] : (List bzf))), (IntKind.i64.wrap (x61.2.2.2 - 1)))))
 (.ret (.out (x61.1, x61.2.1, x61.2.2.1))))
 (y51.2.1, y51.2.2, nl, y51.1) [] fun y70 =>
 .ret ((⟨y18.2.2, y70.2.2⟩ : azo), y70.1, y70.2.1)
noncomputable def fz9 (a0 : (List Int)) (a1 : Int) : CallS (azo × (List Int) × Int) :=
  mkC [] hd Tryz.func26 (by kernel_rfl) (jzk a0 a1) 1 [.ptr 0 0] [(0, .box [.pure (encL 1 az3 a0), pz a1])] (fun r => .pure (czx r.1)) (fun r => [(0, .box [.pure (encL 1 az3 r.2.1), pz r.2.2])]) (by kernel_rfl)
noncomputable def pzn (a0 : (List Int)) (a1 : Int) (a2 : (Int × Int × Int)) : T ((List (Int × Int × Int)) × (List Int) × Int) :=
 .conv 1001 (czp 3 az2 ([a2] : (List (Int × Int × Int))) 78) <|
 .call (azi a0 a1 4) [(0, 0)] fun y25 =>
 .loop (fun (x33 : ((List Int) × Int × (List (Int × Int × Int)) × Int)) => ⟨[(0, .ptr 0 0), (3, .ptr 1 0), (5, .vec 2), (6, pz x33.2.2.2)], [(0, .box [.pure (encL 1 az3 x33.1), pz x33.2.1]), (1, .box [pz a2.1, pz a2.2.1, pz a2.2.2]), (2, vecO 3 az2 x33.2.2.1 78)], [], 3⟩)
 (.exit 0) (fun (y40 : ((List Int) × Int × (List (Int × Int × Int)))) => ⟨[(5, .vec 1)], [(0, .box [.pure (encL 1 az3 y40.1), pz y40.2.1]), (1, vecO 3 az2 y40.2.2 78)], [], 2⟩)
 (fun x33 => .br (decide (x33.2.2.2 > 0))
 (.ix 0 3 rfl <|
 .call (bz5 x33.1 x33.2.1 3) [(0, 0)] fun y44 =>
 .ix 1 3 rfl <|
 .call (bz5 y44.2.1 y44.2.2 2) [(0, 0)] fun y45 =>
 .ix 2 3 rfl <|
 .call (bz5 y45.2.1 y45.2.2 2) [(0, 0)] fun y46 =>
 .conv 5020 (czp 3 az2 ([((IntKind.i64.wrap (a2.1 + (IntKind.i64.wrap (y44.1 * 32768)))), (IntKind.i64.wrap (a2.2.1 + (IntKind.i64.wrap (y45.1 * 32768)))), (IntKind.i64.wrap (a2.2.2 + (IntKind.i64.wrap (y46.1 * 32768)))))] : (List (Int × Int × Int))) 78) <|
 .conv 5021 (fzt 3 az2 x33.2.2.1 ([((IntKind.i64.wrap (a2.1 + (IntKind.i64.wrap (y44.1 * 32768)))), (IntKind.i64.wrap (a2.2.1 + (IntKind.i64.wrap (y45.1 * 32768)))), (IntKind.i64.wrap (a2.2.2 + (IntKind.i64.wrap (y46.1 * 32768)))))] : (List (Int × Int × Int))) 78) <|
 .grd ((x33.2.2.1.length + ([((IntKind.i64.wrap (a2.1 + (IntKind.i64.wrap (y44.1 * 32768)))), (IntKind.i64.wrap (a2.2.1 + (IntKind.i64.wrap (y45.1 * 32768)))), (IntKind.i64.wrap (a2.2.2 + (IntKind.i64.wrap (y46.1 * 32768)))))] : (List (Int × Int × Int))).length) * 24 ≤ 140737488355328 ∧ (x33.2.2.1.length + ([((IntKind.i64.wrap (a2.1 + (IntKind.i64.wrap (y44.1 * 32768)))), (IntKind.i64.wrap (a2.2.1 + (IntKind.i64.wrap (y45.1 * 32768)))), (IntKind.i64.wrap (a2.2.2 + (IntKind.i64.wrap (y46.1 * 32768)))))] : (List (Int × Int × Int))).length) ≤ maxLen) <|
 .ret (.next (y46.2.1, y46.2.2, (x33.2.2.1 ++ ([((IntKind.i64.wrap (a2.1 + (IntKind.i64.wrap (y44.1 * 32768)))), (IntKind.i64.wrap (a2.2.1 + (IntKind.i64.wrap (y45.1 * 32768)))), (IntKind.i64.wrap (a2.2.2 + (IntKind.i64.wrap (y46.1 * 32768)))))] : (List (Int × Int × Int)))), (IntKind.i64.wrap (x33.2.2.2 - 1)))))
 (.ret (.out (x33.1, x33.2.1, x33.2.2.1))))
 (y25.2.1, y25.2.2, ([a2] : (List (Int × Int × Int))), y25.1) [] fun y40 =>
 .ret (y40.2.2, y40.1, y40.2.1)
noncomputable def hz8 (a0 : (List Int)) (a1 : Int) (a2 : (Int × Int × Int)) : CallS ((List (Int × Int × Int)) × (List Int) × Int) :=
  mkC [] hd Tryz.func28 (by kernel_rfl) (pzn a0 a1 a2) 1 [.ptr 0 0, .pure (az2 a2)] [(0, .box [.pure (encL 1 az3 a0), pz a1])] (fun r => .pure (encL 3 az2 r.1)) (fun r => [(0, .box [.pure (encL 1 az3 r.2.1), pz r.2.2])]) (by kernel_rfl)
set_option maxHeartbeats 8000000 in
set_option maxRecDepth 20000 in
noncomputable def rzr (a0 : (List Int)) : T azn :=
 .call (iza a0) [] fun y2 =>
 .call (fz9 y2.1 y2.2) [(0, 128)] fun y4 =>
 .loop (fun (x73 : ((List Int) × Int × (List bz0) × Int)) => ⟨[(2, .ptr 0 0), (3, .ptr 5 0), (4, .ptr 6 0), (5, pz x73.2.2.2)], [(0, .box [.vec 1, .vec 2, .vec 3, .vec 4]), (1, .nilv), (2, .nilv), (3, .nilv), (4, .nilv), (5, .box [.pure (encL 1 az3 x73.1), pz x73.2.1]), (6, .box [.pure (encL 12 azh y4.1.Joints), .pure (encL 5 azl y4.1.Masses), .vec 7, .vec 8]), (7, vecO 3 azv x73.2.2.1 80), (8, .nilv)], [], 9⟩)
 (.exit 0) (fun (y90 : ((List Int) × Int × (List bz0))) => ⟨[(2, .ptr 0 0), (3, .ptr 5 0), (4, .ptr 6 0)], [(0, .box [.vec 1, .vec 2, .vec 3, .vec 4]), (1, .nilv), (2, .nilv), (3, .nilv), (4, .nilv), (5, .box [.pure (encL 1 az3 y90.1), pz y90.2.1]), (6, .box [.pure (encL 12 azh y4.1.Joints), .pure (encL 5 azl y4.1.Masses), .vec 7, .vec 8]), (7, vecO 3 azv y90.2.2 80), (8, .nilv)], [], 9⟩)
 (fun x73 => .br (decide (x73.2.2.2 < ((y4.1.Joints.length : Nat) : Int)))
 (.cut 0 (fun (y101 : ((List Int) × Int × (List bz0))) => ⟨[(2, .ptr 0 0), (3, .ptr 5 0), (4, .ptr 6 0), (5, pz x73.2.2.2)], [(0, .box [.vec 1, .vec 2, .vec 3, .vec 4]), (1, .nilv), (2, .nilv), (3, .nilv), (4, .nilv), (5, .box [.pure (encL 1 az3 y101.1), pz y101.2.1]), (6, .box [.pure (encL 12 azh y4.1.Joints), .pure (encL 5 azl y4.1.Masses), .vec 7, .vec 8]), (7, vecO 3 azv y101.2.2 80), (8, .nilv)], [], 9⟩)
 (.call (azi x73.1 x73.2.1 5) [(0, 5)] fun y103 =>
 .br (decide (y103.1 < 4))
 (.call (azi y103.2.1 y103.2.2 3) [(0, 5)] fun y104 =>
 .ok ((8 : Int) ≠ 0) (by decide) <|
 .call (azi y104.2.1 y104.2.2 4) [(0, 5)] fun y105 =>
 .call (hz8 y105.2.1 y105.2.2 ((IntKind.i64.wrap (y105.1 * 32768)), 0, 0)) [(0, 5)] fun y106 =>
 .conv 7015 (czp 3 azv ([(⟨x73.2.2.2, (IntKind.i64.wrap ((IntKind.i64.wrap ((IntKind.i64.wrap (1 + y104.1)) * 65536)).tdiv 8)), y106.1⟩ : bz0)] : (List bz0)) 80) <|
 .conv 7016 (fzt 3 azv x73.2.2.1 ([(⟨x73.2.2.2, (IntKind.i64.wrap ((IntKind.i64.wrap ((IntKind.i64.wrap (1 + y104.1)) * 65536)).tdiv 8)), y106.1⟩ : bz0)] : (List bz0)) 80) <|
 .grd ((x73.2.2.1.length + ([(⟨x73.2.2.2, (IntKind.i64.wrap ((IntKind.i64.wrap ((IntKind.i64.wrap (1 + y104.1)) * 65536)).tdiv 8)), y106.1⟩ : bz0)] : (List bz0)).length) * 40 ≤ 140737488355328 ∧ (x73.2.2.1.length + ([(⟨x73.2.2.2, (IntKind.i64.wrap ((IntKind.i64.wrap ((IntKind.i64.wrap (1 + y104.1)) * 65536)).tdiv 8)), y106.1⟩ : bz0)] : (List bz0)).length) ≤ maxLen) <|
 .ret (.out (y106.2.1, y106.2.2, (x73.2.2.1 ++ ([(⟨x73.2.2.2, (IntKind.i64.wrap ((IntKind.i64.wrap ((IntKind.i64.wrap (1 + y104.1)) * 65536)).tdiv 8)), y106.1⟩ : bz0)] : (List bz0))))))
 (.ret (.out (y103.2.1, y103.2.2, x73.2.2.1)))) fun y101 =>
 .ret (.next (y101.1, y101.2.1, y101.2.2, (IntKind.i64.wrap (x73.2.2.2 + 1)))))
 (.ret (.out (x73.1, x73.2.1, x73.2.2.1))))
 (y4.2.1, y4.2.2, nl, 0) [] fun y90 =>
 .call (azi y90.1 y90.2.1 3) [(0, 5)] fun y161 =>
 .loop (fun (x179 : ((List Int) × Int × (List bz0) × Int)) => ⟨[(2, .ptr 0 0), (3, .ptr 5 0), (4, .ptr 6 0), (6, pz x179.2.2.2)], [(0, .box [.vec 1, .vec 2, .vec 3, .vec 4]), (1, .nilv), (2, .nilv), (3, .nilv), (4, .nilv), (5, .box [.pure (encL 1 az3 x179.1), pz x179.2.1]), (6, .box [.pure (encL 12 azh y4.1.Joints), .pure (encL 5 azl y4.1.Masses), .vec 7, .vec 8]), (7, vecO 3 azv x179.2.2.1 80), (8, .nilv)], [], 9⟩)
 (.exit 2) (fun (y196 : ((List Int) × Int × (List bz0))) => ⟨[(2, .ptr 0 0), (3, .ptr 5 0), (4, .ptr 6 0)], [(0, .box [.vec 1, .vec 2, .vec 3, .vec 4]), (1, .nilv), (2, .nilv), (3, .nilv), (4, .nilv), (5, .box [.pure (encL 1 az3 y196.1), pz y196.2.1]), (6, .box [.pure (encL 12 azh y4.1.Joints), .pure (encL 5 azl y4.1.Masses), .vec 7, .vec 8]), (7, vecO 3 azv y196.2.2 80), (8, .nilv)], [], 9⟩)
 (fun x179 => .br (decide (x179.2.2.2 > 0))
 (.call (bz5 x179.1 x179.2.1 9) [(0, 5)] fun y208 =>
 .call (bz5 y208.2.1 y208.2.2 9) [(0, 5)] fun y209 =>
 .call (bz5 y209.2.1 y209.2.2 2) [(0, 5)] fun y210 =>
 .call (azi y210.2.1 y210.2.2 4) [(0, 5)] fun y211 =>
 .ok ((8 : Int) ≠ 0) (by decide) <|
 .call (hz8 y211.2.1 y211.2.2 ((IntKind.i64.wrap (y208.1 * 32768)), (IntKind.i64.wrap (y209.1 * 32768)), (IntKind.i64.wrap (y210.1 * 32768)))) [(0, 5)] fun y212 =>
 .conv 12011 (czp 3 azv ([(⟨(-1), (IntKind.i64.wrap ((IntKind.i64.wrap ((IntKind.i64.wrap (1 + y211.1)) * 65536)).tdiv 8)), y212.1⟩ : bz0)] : (List bz0)) 80) <|
 .conv 12012 (fzt 3 azv x179.2.2.1 ([(⟨(-1), (IntKind.i64.wrap ((IntKind.i64.wrap ((IntKind.i64.wrap (1 + y211.1)) * 65536)).tdiv 8)), y212.1⟩ : bz0)] : (List bz0)) 80) <|
 .grd ((x179.2.2.1.length + ([(⟨(-1), (IntKind.i64.wrap ((IntKind.i64.wrap ((IntKind.i64.wrap (1 + y211.1)) * 65536)).tdiv 8)), y212.1⟩ : bz0)] : (List bz0)).length) * 40 ≤ 140737488355328 ∧ (x179.2.2.1.length + ([(⟨(-1), (IntKind.i64.wrap ((IntKind.i64.wrap ((IntKind.i64.wrap (1 + y211.1)) * 65536)).tdiv 8)), y212.1⟩ : bz0)] : (List bz0)).length) ≤ maxLen) <|
 .ret (.next (y212.2.1, y212.2.2, (x179.2.2.1 ++ ([(⟨(-1), (IntKind.i64.wrap ((IntKind.i64.wrap ((IntKind.i64.wrap (1 + y211.1)) * 65536)).tdiv 8)), y212.1⟩ : bz0)] : (List bz0))), (IntKind.i64.wrap (x179.2.2.2 - 1)))))
 (.ret (.out (x179.1, x179.2.1, x179.2.2.1))))
 (y161.2.1, y161.2.2, y90.2.2, (IntKind.i64.wrap (1 + y161.1))) [] fun y196 =>
 .cut 0 (fun (y219 : (List gzl)) => ⟨[(2, .ptr 0 0), (4, .ptr 5 0)], [(0, .box [.vec 1, .vec 2, .vec 3, .vec 4]), (1, .nilv), (2, .nilv), (3, .nilv), (4, .nilv), (5, .box [.pure (encL 12 azh y4.1.Joints), .pure (encL 5 azl y4.1.Masses), .vec 6, .vec 7]), (6, vecO 3 azv y196.2.2 80), (7, vecO 2 bzp y219 83)], [], 8⟩)
 (.call (azi y196.1 y196.2.1 5) [(0, 5)] fun y221 =>
 .br (y221.1 == 1)
 (.call (azi y221.2.1 y221.2.2 ((y4.1.Joints.length : Nat) : Int)) [(0, 5)] fun y222 =>
 .conv 14009 (czp 2 bzp ([(⟨(-1), y222.1⟩ : gzl)] : (List gzl)) 83) <|
 .grd (([(⟨(-1), y222.1⟩ : gzl)] : (List gzl)).length * 16 ≤ 140737488355328 ∧ ([(⟨(-1), y222.1⟩ : gzl)] : (List gzl)).length ≤ maxLen) <|
 .ret (.out ([(⟨(-1), y222.1⟩ : gzl)] : (List gzl))))
 (.ret (.out nl))) fun y219 =>
 .ret (⟨(⟨y4.1.Joints, y4.1.Masses⟩ : azo), y196.2.2, y219⟩ : azn)
noncomputable def rzq (a0 : (List Int)) : CallS azn :=
  mkC [] hd Tryz.func10 (by kernel_rfl) (rzr a0) 0 [.pure (encL 1 az3 a0)] [] (fun r => .pure (ezr r)) (fun _ => []) (by kernel_rfl)
noncomputable def pzm (a0 : azo) (a1 : (List Int)) : T (List Int) :=
 .call (iza a1) [] fun y103 =>
 .loop (fun (x172 : ((List Int) × Int × (List Int) × Int)) => ⟨[(2, .ptr 0 0), (5, .ptr 1 0), (6, .vec 2), (7, pz x172.2.2.2)], [(0, .box [.pure (encL 12 azh a0.Joints), .pure (encL 5 azl a0.Masses)]), (1, .box [.pure (encL 1 az3 x172.1), pz x172.2.1]), (2, vecO 1 az3 x172.2.2.1 2)], [], 3⟩)
 (.exit 0) (fun (y189 : (List Int)) => ⟨[(6, .vec 0)], [(0, vecO 1 az3 y189 2)], [], 1⟩)
 (fun x172 => .br (decide (x172.2.2.2 < ((a0.Joints.length : Nat) : Int)))
 (.cut 0 (fun (y200 : ((List Int) × Int × (List Int))) => ⟨[(2, .ptr 0 0), (5, .ptr 1 0), (6, .vec 2), (7, pz x172.2.2.2)], [(0, .box [.pure (encL 12 azh a0.Joints), .pure (encL 5 azl a0.Masses)]), (1, .box [.pure (encL 1 az3 y200.1), pz y200.2.1]), (2, vecO 1 az3 y200.2.2 2)], [], 3⟩)
 (.grd (0 ≤ x172.2.2.2 ∧ x172.2.2.2 < ((a0.Joints.length : Nat) : Int)) <|
 .grd (0 ≤ x172.2.2.2 ∧ x172.2.2.2 < ((a0.Joints.length : Nat) : Int)) <|
 .call (azi x172.1 x172.2.1 6) [(0, 1)] fun y202 =>
 .br (y202.1 == 0)
 (.conv 10002 (czp 1 az3 ([(a0.Joints.getD ((x172.2.2.2).toNat) default).Lo] : (List Int)) 2) <|
 .conv 10003 (fzt 1 az3 x172.2.2.1 ([(a0.Joints.getD ((x172.2.2.2).toNat) default).Lo] : (List Int)) 2) <|
 .grd ((x172.2.2.1.length + ([(a0.Joints.getD ((x172.2.2.2).toNat) default).Lo] : (List Int)).length) * 8 ≤ 140737488355328 ∧ (x172.2.2.1.length + ([(a0.Joints.getD ((x172.2.2.2).toNat) default).Lo] : (List Int)).length) ≤ maxLen) <|
 .ret (.out (y202.2.1, y202.2.2, (x172.2.2.1 ++ ([(a0.Joints.getD ((x172.2.2.2).toNat) default).Lo] : (List Int))))))
 (.br (y202.1 == 1)
 (.conv 12002 (czp 1 az3 ([(a0.Joints.getD ((x172.2.2.2).toNat) default).Hi] : (List Int)) 2) <|
 .conv 12003 (fzt 1 az3 x172.2.2.1 ([(a0.Joints.getD ((x172.2.2.2).toNat) default).Hi] : (List Int)) 2) <|
 .grd ((x172.2.2.1.length + ([(a0.Joints.getD ((x172.2.2.2).toNat) default).Hi] : (List Int)).length) * 8 ≤ 140737488355328 ∧ (x172.2.2.1.length + ([(a0.Joints.getD ((x172.2.2.2).toNat) default).Hi] : (List Int)).length) ≤ maxLen) <|
 .ret (.out (y202.2.1, y202.2.2, (x172.2.2.1 ++ ([(a0.Joints.getD ((x172.2.2.2).toNat) default).Hi] : (List Int))))))
 (.name 8005 ((IntKind.i64.wrap (((a0.Joints.getD ((x172.2.2.2).toNat) default).Hi) - ((a0.Joints.getD ((x172.2.2.2).toNat) default).Lo)))) fun z203 =>
 .name 8006 ((IntKind.i64.wrap (z203 + 1))) fun z204 =>
 .call (azi y202.2.1 y202.2.2 z204) [(0, 1)] fun y205 =>
 .conv 8009 (czp 1 az3 ([(IntKind.i64.wrap (((a0.Joints.getD ((x172.2.2.2).toNat) default).Lo) + y205.1))] : (List Int)) 2) <|
 .conv 8010 (fzt 1 az3 x172.2.2.1 ([(IntKind.i64.wrap (((a0.Joints.getD ((x172.2.2.2).toNat) default).Lo) + y205.1))] : (List Int)) 2) <|
 .grd ((x172.2.2.1.length + ([(IntKind.i64.wrap (((a0.Joints.getD ((x172.2.2.2).toNat) default).Lo) + y205.1))] : (List Int)).length) * 8 ≤ 140737488355328 ∧ (x172.2.2.1.length + ([(IntKind.i64.wrap (((a0.Joints.getD ((x172.2.2.2).toNat) default).Lo) + y205.1))] : (List Int)).length) ≤ maxLen) <|
 .ret (.out (y205.2.1, y205.2.2, (x172.2.2.1 ++ ([(IntKind.i64.wrap (((a0.Joints.getD ((x172.2.2.2).toNat) default).Lo) + y205.1))] : (List Int)))))))) fun y200 =>
 .ret (.next (y200.1, y200.2.1, y200.2.2, (IntKind.i64.wrap (x172.2.2.2 + 1)))))
 (.ret (.out x172.2.2.1)))
 (y103.1, y103.2, nl, 0) [] fun y189 =>
 .ret y189
noncomputable def pzl (a0 : azo) (a1 : (List Int)) : CallS (List Int) :=
  mkC [] hd Tryz.func35 (by kernel_rfl) (pzm a0 a1) 0 [.pure (czx a0), .pure (encL 1 az3 a1)] [] (fun _ => .vec 0) (fun r => [(0, vecO 1 az3 r 2)]) (by kernel_rfl)
noncomputable def nzk (a0 : azo) (a1 : Int) (a2 : (List Int)) : T (List (List Int)) :=
 .call (iza a2) [] fun y2 =>
 .loop (fun (x159 : ((List Int) × Int × (List (List Int)) × Int)) => ⟨[(1, pz a1), (3, .ptr 0 0), (7, .ptr 1 0), (8, .vec 2), (9, pz x159.2.2.2)], [(0, .box [.pure (encL 12 azh a0.Joints), .pure (encL 5 azl a0.Masses)]), (1, .box [.pure (encL 1 az3 x159.1), pz x159.2.1]), (2, vecO 1 (encL 1 az3) x159.2.2.1 59)], [], 3⟩)
 (.exit 0) (fun (y198 : (List (List Int))) => ⟨[(8, .vec 0)], [(0, vecO 1 (encL 1 az3) y198 59)], [], 1⟩)
 (fun x159 => .br (decide (x159.2.2.2 < a1))
 (.loop (fun (x230 : ((List Int) × Int × (List Int) × Int)) => ⟨[(1, pz a1), (3, .ptr 0 0), (7, .ptr 1 0), (8, .vec 2), (9, pz x159.2.2.2), (10, .vec 3), (11, pz x230.2.2.2)], [(0, .box [.pure (encL 12 azh a0.Joints), .pure (encL 5 azl a0.Masses)]), (1, .box [.pure (encL 1 az3 x230.1), pz x230.2.1]), (2, vecO 1 (encL 1 az3) x159.2.2.1 59), (3, vecO 1 az3 x230.2.2.1 3)], [], 4⟩)
 (.exit 2) (fun (y233 : ((List Int) × Int × (List Int))) => ⟨[(1, pz a1), (3, .ptr 0 0), (7, .ptr 1 0), (8, .vec 2), (9, pz x159.2.2.2), (10, .vec 3)], [(0, .box [.pure (encL 12 azh a0.Joints), .pure (encL 5 azl a0.Masses)]), (1, .box [.pure (encL 1 az3 y233.1), pz y233.2.1]), (2, vecO 1 (encL 1 az3) x159.2.2.1 59), (3, vecO 1 az3 y233.2.2 3)], [], 4⟩)
 (fun x230 => .br (decide (x230.2.2.2 < (IntKind.i64.wrap (2 * ((a0.Joints.length : Nat) : Int)))))
 (.call (azi x230.1 x230.2.1 1048576) [(0, 1)] fun y235 =>
 .conv 10003 (czp 1 az3 ([y235.1] : (List Int)) 3) <|
 .conv 10004 (fzt 1 az3 x230.2.2.1 ([y235.1] : (List Int)) 3) <|
 .grd ((x230.2.2.1.length + ([y235.1] : (List Int)).length) * 8 ≤ 140737488355328 ∧ (x230.2.2.1.length + ([y235.1] : (List Int)).length) ≤ maxLen) <|
 .ret (.next (y235.2.1, y235.2.2, (x230.2.2.1 ++ ([y235.1] : (List Int))), (IntKind.i64.wrap (x230.2.2.2 + 1)))))
 (.ret (.out (x230.1, x230.2.1, x230.2.2.1))))
 (x159.1, x159.2.1, nl, 0) [] fun y233 =>
 .call (pzl a0 y233.2.2) [] fun y236 =>
 .conv 11004 (czp 1 (encL 1 az3) ([y236] : (List (List Int))) 59) <|
 .conv 11005 (fzt 1 (encL 1 az3) x159.2.2.1 ([y236] : (List (List Int))) 59) <|
 .grd ((x159.2.2.1.length + ([y236] : (List (List Int))).length) * 24 ≤ 140737488355328 ∧ (x159.2.2.1.length + ([y236] : (List (List Int))).length) ≤ maxLen) <|
 .ret (.next (y233.1, y233.2.1, (x159.2.2.1 ++ ([y236] : (List (List Int)))), (IntKind.i64.wrap (x159.2.2.2 + 1)))))
 (.ret (.out x159.2.2.1)))
 (y2.1, y2.2, nl, 0) [] fun y198 =>
 .ret y198
noncomputable def tzo (a0 : azo) (a1 : Int) (a2 : (List Int)) : CallS (List (List Int)) :=
  mkC [] hd Tryz.func12 (by kernel_rfl) (nzk a0 a1 a2) 0 [.pure (czx a0), pz a1, .pure (encL 1 az3 a2)] [] (fun _ => .vec 0) (fun r => [(0, vecO 1 (encL 1 az3) r 59)]) (by kernel_rfl)
noncomputable def uzt (a0 : ByteArray) : T Bool :=
 .cut 2 (fun (y2 : Bool) => ⟨[(0, .pure (.str a0)), (16, .pure (.bool y2))], [], [], 0⟩)
 (.br (decide (((a0.size : Nat) : Int) < 1))
 (.ret (.out true))
 (.br (decide (((a0.size : Nat) : Int) > 16))
 (.ret (.out true))
 (.ret (.out (a0 == (⟨#[119, 111, 114, 108, 100]⟩ : ByteArray)))))) fun y2 =>
 .br y2
 (.ret false)
 (.loop (fun (x23 : Int) => ⟨[(0, .pure (.str a0)), (3, pz x23)], [], [], 0⟩)
 (.exit 0) (fun (_ : U0) => ⟨[], [], [], 0⟩)
 (fun x23 => .br (decide (x23 < ((a0.size : Nat) : Int)))
 (.cut 1 (fun (y31 : Bool) => ⟨[(0, .pure (.str a0)), (3, pz x23), (4, .pure (.bool y31))], [], [], 0⟩)
 (.grd (0 ≤ x23 ∧ x23 < ((a0.size : Nat) : Int)) <|
 .br (decide (((a0.data.getD (x23).toNat 0).toNat : Int) ≥ 97))
 (.grd (0 ≤ x23 ∧ x23 < ((a0.size : Nat) : Int)) <|
 .ret (.out (decide (((a0.data.getD (x23).toNat 0).toNat : Int) ≤ 122))))
 (.ret (.out false))) fun y31 =>
 .cut 0 (fun (y32 : Bool) => ⟨[(0, .pure (.str a0)), (3, pz x23), (56, .pure (.bool y32))], [], [], 0⟩)
 (.br (!y31)
 (.br (x23 == 0)
 (.ret (.out true))
 (.grd (0 ≤ x23 ∧ x23 < ((a0.size : Nat) : Int)) <|
 .br (((a0.data.getD (x23).toNat 0).toNat : Int) != 95)
 (.grd (0 ≤ x23 ∧ x23 < ((a0.size : Nat) : Int)) <|
 .br (decide (((a0.data.getD (x23).toNat 0).toNat : Int) < 48))
 (.ret (.out true))
 (.grd (0 ≤ x23 ∧ x23 < ((a0.size : Nat) : Int)) <|
 .ret (.out (decide (((a0.data.getD (x23).toNat 0).toNat : Int) > 57)))))
 (.ret (.out false))))
 (.ret (.out false))) fun y32 =>
 .br y32
 (.ret (.fin false))
 (.ret (.next (IntKind.i64.wrap (x23 + 1)))))
 (.ret (.out .u)))
 0 [] fun _ =>
 .ret true)
noncomputable def Azi (a0 : ByteArray) : CallS Bool :=
  mkC [] hd Tryz.func89 (by kernel_rfl) (uzt a0) 0 [.pure (.str a0)] [] (fun r => .pure (.bool r)) (fun _ => []) (by kernel_rfl)
noncomputable def uzv (a0 : (Int × Int × Int)) (a1 : Int) : T Bool :=
 .unroll 4 <|
 .known true <|
 .cut 1 (fun (y16 : Bool) => ⟨[(1, pz a1), (2, .ptr 0 0), (5, pz 0), (22, .pure (.bool y16))], [(0, .box [pz a0.1, pz a0.2.1, pz a0.2.2])], [], 1⟩)
 (.ix 0 3 rfl <|
 .br (decide (a0.1 < (IntKind.i64.wrap (0 - a1))))
 (.ret (.out true))
 (.ix 0 3 rfl <|
 .ret (.out (decide (a0.1 > a1))))) fun y16 =>
 .br y16
 (.ret false)
 (.lit 3001 (1) <|
 .known true <|
 .cut 1 (fun (y18 : Bool) => ⟨[(1, pz a1), (2, .ptr 0 0), (5, pz 1), (22, .pure (.bool y18))], [(0, .box [pz a0.1, pz a0.2.1, pz a0.2.2])], [], 1⟩)
 (.ix 1 3 rfl <|
 .br (decide (a0.2.1 < (IntKind.i64.wrap (0 - a1))))
 (.ret (.out true))
 (.ix 1 3 rfl <|
 .ret (.out (decide (a0.2.1 > a1))))) fun y18 =>
 .br y18
 (.ret false)
 (.lit 3001 (2) <|
 .known true <|
 .cut 1 (fun (y20 : Bool) => ⟨[(1, pz a1), (2, .ptr 0 0), (5, pz 2), (22, .pure (.bool y20))], [(0, .box [pz a0.1, pz a0.2.1, pz a0.2.2])], [], 1⟩)
 (.ix 2 3 rfl <|
 .br (decide (a0.2.2 < (IntKind.i64.wrap (0 - a1))))
 (.ret (.out true))
 (.ix 2 3 rfl <|
 .ret (.out (decide (a0.2.2 > a1))))) fun y20 =>
 .br y20
 (.ret false)
 (.lit 3001 (3) <|
 .known false <|
 .ret true)))
noncomputable def uzu (a0 : (Int × Int × Int)) (a1 : Int) : CallS Bool :=
  mkC [] hd Tryz.func61 (by kernel_rfl) (uzv a0 a1) 0 [.pure (az2 a0), pz a1] [] (fun r => .pure (.bool r)) (fun _ => []) (by kernel_rfl)
noncomputable def sz5 (a0 : Int) : T Int :=
 .br (a0 == 0)
 (.ret 0)
 (.cut 0 (fun (y2 : Bool) => ⟨[(6, .pure (.bool y2))], [], [], 0⟩)
 (.br (a0 == 1)
 (.ret (.out (a0 == 1)))
 (.br (a0 == 2)
 (.ret (.out (a0 == 2)))
 (.ret (.out (a0 == 3))))) fun y2 =>
 .br y2
 (.ret 524288)
 (.ret 4194304))
noncomputable def yz9 (a0 : Int) : CallS Int :=
  mkC [] hd Tryz.func90 (by kernel_rfl) (sz5 a0) 0 [pz a0] [] (fun r => pz r) (fun _ => []) (by kernel_rfl)
noncomputable def oz0 (a0 : Int) (a1 : Int) (a2 : Int) : T Bool :=
 .br (decide (a1 ≤ a0))
 (.ret (decide (a0 ≤ a2)))
 (.ret false)
noncomputable def ezy (a0 : Int) (a1 : Int) (a2 : Int) : CallS Bool :=
  mkC [] hd Tryz.func60 (by kernel_rfl) (oz0 a0 a1 a2) 0 [pz a0, pz a1, pz a2] [] (fun r => .pure (.bool r)) (fun _ => []) (by kernel_rfl)
set_option maxHeartbeats 8000000 in
set_option maxRecDepth 20000 in
noncomputable def izn (a0 : (List azs)) (a1 : Int) : T Int :=
 .grd (0 ≤ a1 ∧ a1 < ((a0.length : Nat) : Int)) <|
 .call (Azi ((a0.getD ((a1).toNat) default).Name)) [] fun y4 =>
 .br (!y4)
 (.ret 802)
 (.loop (fun (x9 : Int) => ⟨[(0, .pure (encL 12 azh a0)), (1, pz a1), (5, .ptr 0 0), (6, pz x9)], [(0, .box [.pure (.str ((a0.getD ((a1).toNat) default).Name)), pz ((a0.getD ((a1).toNat) default).Kind), pz ((a0.getD ((a1).toNat) default).Parent), pz ((a0.getD ((a1).toNat) default).Offset.1), pz ((a0.getD ((a1).toNat) default).Offset.2.1), pz ((a0.getD ((a1).toNat) default).Offset.2.2), pz ((a0.getD ((a1).toNat) default).Lo), pz ((a0.getD ((a1).toNat) default).Hi), pz ((a0.getD ((a1).toNat) default).Weight), pz ((a0.getD ((a1).toNat) default).Speed), pz ((a0.getD ((a1).toNat) default).Accel), pz ((a0.getD ((a1).toNat) default).Torque)])], [], 1⟩)
 (.exit 0) (fun (_ : U0) => ⟨[(1, pz a1), (5, .ptr 0 0)], [(0, .box [.pure (.str ((a0.getD ((a1).toNat) default).Name)), pz ((a0.getD ((a1).toNat) default).Kind), pz ((a0.getD ((a1).toNat) default).Parent), pz ((a0.getD ((a1).toNat) default).Offset.1), pz ((a0.getD ((a1).toNat) default).Offset.2.1), pz ((a0.getD ((a1).toNat) default).Offset.2.2), pz ((a0.getD ((a1).toNat) default).Lo), pz ((a0.getD ((a1).toNat) default).Hi), pz ((a0.getD ((a1).toNat) default).Weight), pz ((a0.getD ((a1).toNat) default).Speed), pz ((a0.getD ((a1).toNat) default).Accel), pz ((a0.getD ((a1).toNat) default).Torque)])], [], 1⟩)
 (fun x9 => .br (decide (x9 < a1))
 (.grd (0 ≤ x9 ∧ x9 < ((a0.length : Nat) : Int)) <|
 .br (((a0.getD ((x9).toNat) default).Name) == ((a0.getD ((a1).toNat) default).Name))
 (.ret (.fin 802))
 (.ret (.next (IntKind.i64.wrap (x9 + 1)))))
 (.ret (.out .u)))
 0 [] fun _ =>
 .cut 1 (fun (y12 : Bool) => ⟨[(1, pz a1), (5, .ptr 0 0), (36, .pure (.bool y12))], [(0, .box [.pure (.str ((a0.getD ((a1).toNat) default).Name)), pz ((a0.getD ((a1).toNat) default).Kind), pz ((a0.getD ((a1).toNat) default).Parent), pz ((a0.getD ((a1).toNat) default).Offset.1), pz ((a0.getD ((a1).toNat) default).Offset.2.1), pz ((a0.getD ((a1).toNat) default).Offset.2.2), pz ((a0.getD ((a1).toNat) default).Lo), pz ((a0.getD ((a1).toNat) default).Hi), pz ((a0.getD ((a1).toNat) default).Weight), pz ((a0.getD ((a1).toNat) default).Speed), pz ((a0.getD ((a1).toNat) default).Accel), pz ((a0.getD ((a1).toNat) default).Torque)])], [], 1⟩)
 (.br (decide (((a0.getD ((a1).toNat) default).Kind) < 0))
 (.ret (.out true))
 (.ret (.out (decide (((a0.getD ((a1).toNat) default).Kind) > 6))))) fun y12 =>
 .br y12
 (.ret 803)
 (.cut 1 (fun (y14 : Bool) => ⟨[(5, .ptr 0 0), (45, .pure (.bool y14))], [(0, .box [.pure (.str ((a0.getD ((a1).toNat) default).Name)), pz ((a0.getD ((a1).toNat) default).Kind), pz ((a0.getD ((a1).toNat) default).Parent), pz ((a0.getD ((a1).toNat) default).Offset.1), pz ((a0.getD ((a1).toNat) default).Offset.2.1), pz ((a0.getD ((a1).toNat) default).Offset.2.2), pz ((a0.getD ((a1).toNat) default).Lo), pz ((a0.getD ((a1).toNat) default).Hi), pz ((a0.getD ((a1).toNat) default).Weight), pz ((a0.getD ((a1).toNat) default).Speed), pz ((a0.getD ((a1).toNat) default).Accel), pz ((a0.getD ((a1).toNat) default).Torque)])], [], 1⟩)
 (.br (decide (((a0.getD ((a1).toNat) default).Parent) < (-1)))
 (.ret (.out true))
 (.ret (.out (decide (((a0.getD ((a1).toNat) default).Parent) ≥ a1))))) fun y14 =>
 .br y14
 (.ret 804)
 (.call (uzu ((a0.getD ((a1).toNat) default).Offset) 4194304) [] fun y18 =>
 .br (!y18)
 (.ret 805)
 (.call (yz9 ((a0.getD ((a1).toNat) default).Kind)) [] fun y23 =>
 .cut 0 (fun (y24 : Bool) => ⟨[(5, .ptr 0 0), (70, .pure (.bool y24))], [(0, .box [.pure (.str ((a0.getD ((a1).toNat) default).Name)), pz ((a0.getD ((a1).toNat) default).Kind), pz ((a0.getD ((a1).toNat) default).Parent), pz ((a0.getD ((a1).toNat) default).Offset.1), pz ((a0.getD ((a1).toNat) default).Offset.2.1), pz ((a0.getD ((a1).toNat) default).Offset.2.2), pz ((a0.getD ((a1).toNat) default).Lo), pz ((a0.getD ((a1).toNat) default).Hi), pz ((a0.getD ((a1).toNat) default).Weight), pz ((a0.getD ((a1).toNat) default).Speed), pz ((a0.getD ((a1).toNat) default).Accel), pz ((a0.getD ((a1).toNat) default).Torque)])], [], 1⟩)
 (.br (decide (((a0.getD ((a1).toNat) default).Lo) > ((a0.getD ((a1).toNat) default).Hi)))
 (.ret (.out true))
 (.br (decide (((a0.getD ((a1).toNat) default).Lo) < (IntKind.i64.wrap (0 - y23))))
 (.ret (.out true))
 (.ret (.out (decide (((a0.getD ((a1).toNat) default).Hi) > y23)))))) fun y24 =>
 .br y24
 (.ret 806)
 (.cut 1 (fun (y46 : Bool) => ⟨[(92, .pure (.bool y46))], [], [], 0⟩)
 (.call (ezy ((a0.getD ((a1).toNat) default).Weight) 1 1024) [] fun y47 =>
 .br (!y47)
 (.ret (.out true))
 (.call (ezy ((a0.getD ((a1).toNat) default).Speed) 1 1048576) [] fun y48 =>
 .br (!y48)
 (.ret (.out true))
 (.call (ezy ((a0.getD ((a1).toNat) default).Accel) 1 1048576) [] fun y49 =>
 .br (!y49)
 (.ret (.out true))
 (.call (ezy ((a0.getD ((a1).toNat) default).Torque) 1 1099511627776) [] fun y50 =>
 .ret (.out (!y50)))))) fun y46 =>
 .br y46
 (.ret 807)
 (.ret 0))))))
noncomputable def ozq (a0 : (List azs)) (a1 : Int) : CallS Int :=
  mkC [] hd Tryz.func59 (by kernel_rfl) (izn a0 a1) 0 [.pure (encL 12 azh a0), pz a1] [] (fun r => pz r) (fun _ => []) (by kernel_rfl)
noncomputable def izl (a0 : azo) : T Int :=
 .cut 2 (fun (y2 : Bool) => ⟨[(1, .ptr 0 0), (16, .pure (.bool y2))], [(0, .box [.pure (encL 12 azh a0.Joints), .pure (encL 5 azl a0.Masses)])], [], 1⟩)
 (.br (decide (((a0.Joints.length : Nat) : Int) < 1))
 (.ret (.out true))
 (.ret (.out (decide (((a0.Joints.length : Nat) : Int) > 10))))) fun y2 =>
 .br y2
 (.ret 801)
 (.loop (fun (x23 : Int) => ⟨[(1, .ptr 0 0), (3, pz x23)], [(0, .box [.pure (encL 12 azh a0.Joints), .pure (encL 5 azl a0.Masses)])], [], 1⟩)
 (.exit 0) (fun (_ : U0) => ⟨[(1, .ptr 0 0)], [(0, .box [.pure (encL 12 azh a0.Joints), .pure (encL 5 azl a0.Masses)])], [], 1⟩)
 (fun x23 => .br (decide (x23 < ((a0.Joints.length : Nat) : Int)))
 (.call (ozq a0.Joints x23) [] fun y32 =>
 .br (y32 != 0)
 (.ret (.fin y32))
 (.ret (.next (IntKind.i64.wrap (x23 + 1)))))
 (.ret (.out .u)))
 0 [] fun _ =>
 .br (decide (((a0.Masses.length : Nat) : Int) > 32))
 (.ret 808)
 (.loop (fun (x93 : Int) => ⟨[(1, .ptr 0 0), (5, pz x93)], [(0, .box [.pure (encL 12 azh a0.Joints), .pure (encL 5 azl a0.Masses)])], [], 1⟩)
 (.exit 2) (fun (_ : U0) => ⟨[], [], [], 0⟩)
 (fun x93 => .br (decide (x93 < ((a0.Masses.length : Nat) : Int)))
 (.grd (0 ≤ x93 ∧ x93 < ((a0.Masses.length : Nat) : Int)) <|
 .cut 0 (fun (y120 : Bool) => ⟨[(1, .ptr 0 0), (5, pz x93), (69, .pure (.bool y120))], [(0, .box [.pure (encL 12 azh a0.Joints), .pure (encL 5 azl a0.Masses)])], [], 1⟩)
 (.br (decide (((a0.Masses.getD ((x93).toNat) default).Link) < 0))
 (.ret (.out true))
 (.br (decide (((a0.Masses.getD ((x93).toNat) default).Link) ≥ ((a0.Joints.length : Nat) : Int)))
 (.ret (.out true))
 (.call (ezy ((a0.Masses.getD ((x93).toNat) default).Mass) 1 65536) [] fun y121 =>
 .br (!y121)
 (.ret (.out true))
 (.call (uzu ((a0.Masses.getD ((x93).toNat) default).Point) 4194304) [] fun y122 =>
 .ret (.out (!y122)))))) fun y120 =>
 .br y120
 (.ret (.fin 808))
 (.ret (.next (IntKind.i64.wrap (x93 + 1)))))
 (.ret (.out .u)))
 0 [] fun _ =>
 .ret 0))
noncomputable def fzp (a0 : azo) : CallS Int :=
  mkC [] hd Tryz.func30 (by kernel_rfl) (izl a0) 0 [.pure (czx a0)] [] (fun r => pz r) (fun _ => []) (by kernel_rfl)
noncomputable def nzu (a0 : azo) (a1 : (List Int)) : T Bool :=
 .cut 2 (fun (y7 : Bool) => ⟨[(1, .pure (encL 1 az3 a1)), (2, .ptr 0 0), (16, .pure (.bool y7))], [(0, .box [.pure (encL 12 azh a0.Joints), .pure (encL 5 azl a0.Masses)])], [], 1⟩)
 (.call (fzp a0) [] fun y8 =>
 .br (y8 != 0)
 (.ret (.out true))
 (.ret (.out (((a1.length : Nat) : Int) != ((a0.Joints.length : Nat) : Int))))) fun y7 =>
 .br y7
 (.ret false)
 (.loop (fun (x21 : Int) => ⟨[(1, .pure (encL 1 az3 a1)), (2, .ptr 0 0), (5, pz x21)], [(0, .box [.pure (encL 12 azh a0.Joints), .pure (encL 5 azl a0.Masses)])], [], 1⟩)
 (.exit 0) (fun (_ : U0) => ⟨[], [], [], 0⟩)
 (fun x21 => .br (decide (x21 < ((a1.length : Nat) : Int)))
 (.cut 1 (fun (y26 : Bool) => ⟨[(1, .pure (encL 1 az3 a1)), (2, .ptr 0 0), (5, pz x21), (46, .pure (.bool y26))], [(0, .box [.pure (encL 12 azh a0.Joints), .pure (encL 5 azl a0.Masses)])], [], 1⟩)
 (.grd (0 ≤ x21 ∧ x21 < ((a1.length : Nat) : Int)) <|
 .grd (0 ≤ x21 ∧ x21 < ((a0.Joints.length : Nat) : Int)) <|
 .br (decide ((a1.getD ((x21).toNat) default) < ((a0.Joints.getD ((x21).toNat) default).Lo)))
 (.ret (.out true))
 (.grd (0 ≤ x21 ∧ x21 < ((a1.length : Nat) : Int)) <|
 .grd (0 ≤ x21 ∧ x21 < ((a0.Joints.length : Nat) : Int)) <|
 .ret (.out (decide ((a1.getD ((x21).toNat) default) > ((a0.Joints.getD ((x21).toNat) default).Hi)))))) fun y26 =>
 .br y26
 (.ret (.fin false))
 (.ret (.next (IntKind.i64.wrap (x21 + 1)))))
 (.ret (.out .u)))
 0 [] fun _ =>
 .ret true)
noncomputable def tzu (a0 : azo) (a1 : (List Int)) : CallS Bool :=
  mkC [] hd Tryz.func31 (by kernel_rfl) (nzu a0 a1) 0 [.pure (czx a0), .pure (encL 1 az3 a1)] [] (fun r => .pure (.bool r)) (fun _ => []) (by kernel_rfl)
noncomputable def gzh (a0 : (List Int)) (a1 : (List Int)) : T Bool :=
 .br (((a0.length : Nat) : Int) != ((a1.length : Nat) : Int))
 (.ret false)
 (.loop (fun (x5 : Int) => ⟨[(0, .pure (encL 1 az3 a0)), (1, .pure (encL 1 az3 a1)), (5, pz x5)], [], [], 0⟩)
 (.exit 0) (fun (_ : U0) => ⟨[], [], [], 0⟩)
 (fun x5 => .br (decide (x5 < ((a0.length : Nat) : Int)))
 (.grd (0 ≤ x5 ∧ x5 < ((a0.length : Nat) : Int)) <|
 .grd (0 ≤ x5 ∧ x5 < ((a1.length : Nat) : Int)) <|
 .br ((a0.getD ((x5).toNat) default) != (a1.getD ((x5).toNat) default))
 (.ret (.fin false))
 (.ret (.next (IntKind.i64.wrap (x5 + 1)))))
 (.ret (.out .u)))
 0 [] fun _ =>
 .ret true)
noncomputable def lzu (a0 : (List Int)) (a1 : (List Int)) : CallS Bool :=
  mkC [] hd Tryz.func62 (by kernel_rfl) (gzh a0 a1) 0 [.pure (encL 1 az3 a0), .pure (encL 1 az3 a1)] [] (fun r => .pure (.bool r)) (fun _ => []) (by kernel_rfl)
noncomputable def lzw (a0 : (List (List Int))) (a1 : (List Int)) : T Int :=
 .loop (fun (x21 : Int) => ⟨[(0, .vec 0), (1, .pure (encL 1 az3 a1)), (5, pz x21)], [(0, vecO 1 (encL 1 az3) a0 59)], [], 1⟩)
 (.exit 0) (fun (_ : U0) => ⟨[], [(0, vecO 1 (encL 1 az3) a0 59)], [], 1⟩)
 (fun x21 => .br (decide (x21 < ((a0.length : Nat) : Int)))
 (.grd (0 ≤ x21 ∧ x21 < ((a0.length : Nat) : Int)) <|
 .grd ((x21).toNat < a0.length) <|
 .call (lzu (a0.getD ((x21).toNat) default) a1) [] fun y30 =>
 .br y30
 (.ret (.fin x21))
 (.ret (.next (IntKind.i64.wrap (x21 + 1)))))
 (.ret (.out .u)))
 0 [] fun _ =>
 .ret (-1)
noncomputable def lzv (a0 : (List (List Int))) (a1 : (List Int)) : CallS Int :=
  mkC [] hd Tryz.func32 (by kernel_rfl) (lzw a0 a1) 1 [.vec 0, .pure (encL 1 az3 a1)] [(0, vecO 1 (encL 1 az3) a0 59)] (fun r => pz r) (fun _ => [(0, vecO 1 (encL 1 az3) a0 59)]) (by kernel_rfl)
noncomputable def pzu (a0 : (List Int)) : T Bool :=
 .loop (fun (x13 : Int) => ⟨[(0, .pure (encL 1 az3 a0)), (3, pz x13)], [], [], 0⟩)
 (.exit 0) (fun (_ : U0) => ⟨[], [], [], 0⟩)
 (fun x13 => .br (decide (x13 < ((a0.length : Nat) : Int)))
 (.cut 1 (fun (y18 : Bool) => ⟨[(0, .pure (encL 1 az3 a0)), (3, pz x13), (21, .pure (.bool y18))], [], [], 0⟩)
 (.grd (0 ≤ x13 ∧ x13 < ((a0.length : Nat) : Int)) <|
 .br (decide ((a0.getD ((x13).toNat) default) < (-2147483648)))
 (.ret (.out true))
 (.grd (0 ≤ x13 ∧ x13 < ((a0.length : Nat) : Int)) <|
 .ret (.out (decide ((a0.getD ((x13).toNat) default) > 2147483648))))) fun y18 =>
 .br y18
 (.ret (.fin false))
 (.ret (.next (IntKind.i64.wrap (x13 + 1)))))
 (.ret (.out .u)))
 0 [] fun _ =>
 .ret true
noncomputable def pzt (a0 : (List Int)) : CallS Bool :=
  mkC [] hd Tryz.func91 (by kernel_rfl) (pzu a0) 0 [.pure (encL 1 az3 a0)] [] (fun r => .pure (.bool r)) (fun _ => []) (by kernel_rfl)
noncomputable def kzc (a0 : azo) (a1 : (List Int)) (a2 : (List Int)) : T Int :=
 .cut 2 (fun (y55 : Bool) => ⟨[(1, .pure (encL 1 az3 a1)), (2, .pure (encL 1 az3 a2)), (3, .ptr 0 0), (36, .pure (.bool y55))], [(0, .box [.pure (encL 12 azh a0.Joints), .pure (encL 5 azl a0.Masses)])], [], 1⟩)
 (.call (fzp (⟨a0.Joints, a0.Masses⟩ : azo)) [] fun y56 =>
 .br (y56 != 0)
 (.ret (.out true))
 (.call (pzt a1) [] fun y57 =>
 .br (!y57)
 (.ret (.out true))
 (.call (pzt a2) [] fun y58 =>
 .br (!y58)
 (.ret (.out true))
 (.br (((a1.length : Nat) : Int) != ((a0.Joints.length : Nat) : Int))
 (.ret (.out true))
 (.ret (.out (((a2.length : Nat) : Int) != ((a1.length : Nat) : Int)))))))) fun y55 =>
 .br y55
 (.ret 0)
 (.loop (fun (x71 : (Int × Int)) => ⟨[(1, .pure (encL 1 az3 a1)), (2, .pure (encL 1 az3 a2)), (3, .ptr 0 0), (7, pz x71.1), (8, pz x71.2)], [(0, .box [.pure (encL 12 azh a0.Joints), .pure (encL 5 azl a0.Masses)])], [], 1⟩)
 (.exit 0) (fun (y74 : Int) => ⟨[(7, pz y74)], [], [], 0⟩)
 (fun x71 => .br (decide (x71.2 < ((a1.length : Nat) : Int)))
 (.grd (0 ≤ x71.2 ∧ x71.2 < ((a0.Joints.length : Nat) : Int)) <|
 .grd (0 ≤ x71.2 ∧ x71.2 < ((a1.length : Nat) : Int)) <|
 .grd (0 ≤ x71.2 ∧ x71.2 < ((a2.length : Nat) : Int)) <|
 .grd (0 ≤ x71.2 ∧ x71.2 < ((a2.length : Nat) : Int)) <|
 .grd (0 ≤ x71.2 ∧ x71.2 < ((a1.length : Nat) : Int)) <|
 .name 7025 ((max (IntKind.i64.wrap ((a1.getD ((x71.2).toNat) default) - (a2.getD ((x71.2).toNat) default))) (IntKind.i64.wrap ((a2.getD ((x71.2).toNat) default) - (a1.getD ((x71.2).toNat) default))))) fun z76 =>
 .ret (.next ((IntKind.i64.wrap (x71.1 + (IntKind.i64.wrap (((a0.Joints.getD ((x71.2).toNat) default).Weight) * z76)))), (IntKind.i64.wrap (x71.2 + 1)))))
 (.ret (.out x71.1)))
 (0, 0) [] fun y74 =>
 .ret y74)
noncomputable def ezt (a0 : azo) (a1 : (List Int)) (a2 : (List Int)) : CallS Int :=
  mkC [] hd Tryz.func63 (by kernel_rfl) (kzc a0 a1 a2) 0 [.pure (czx a0), .pure (encL 1 az3 a1), .pure (encL 1 az3 a2)] [] (fun r => pz r) (fun _ => []) (by kernel_rfl)
noncomputable def hzk (a0 : azo) (a1 : (List (List Int))) (a2 : (List Int)) (a3 : Int) : T (List Int) :=
 .loop (fun (x357 : ((List Int) × Int)) => ⟨[(1, .vec 0), (2, .pure (encL 1 az3 a2)), (3, pz a3), (4, .ptr 1 0), (9, .vec 2), (10, pz x357.2)], [(0, vecO 1 (encL 1 az3) a1 59), (1, .box [.pure (encL 12 azh a0.Joints), .pure (encL 5 azl a0.Masses)]), (2, vecO 1 az3 x357.1 3)], [], 3⟩)
 (.exit 0) (fun (y446 : (List Int)) => ⟨[(9, .vec 1)], [(0, vecO 1 (encL 1 az3) a1 59), (1, vecO 1 az3 y446 3)], [], 2⟩)
 (fun x357 => .br (decide (x357.2 < ((a1.length : Nat) : Int)))
 (.cut 0 (fun (y505 : (List Int)) => ⟨[(1, .vec 0), (2, .pure (encL 1 az3 a2)), (3, pz a3), (4, .ptr 1 0), (9, .vec 2), (10, pz x357.2)], [(0, vecO 1 (encL 1 az3) a1 59), (1, .box [.pure (encL 12 azh a0.Joints), .pure (encL 5 azl a0.Masses)]), (2, vecO 1 az3 y505 3)], [], 3⟩)
 (.br (x357.2 == a3)
 (.ret (.out x357.1))
 (.conv 7002 (czp 1 az3 ([x357.2] : (List Int)) 3) <|
 .conv 7003 (fzt 1 az3 x357.1 ([x357.2] : (List Int)) 3) <|
 .grd ((x357.1.length + ([x357.2] : (List Int)).length) * 8 ≤ 140737488355328 ∧ (x357.1.length + ([x357.2] : (List Int)).length) ≤ maxLen) <|
 .grd (0 ≤ x357.2 ∧ x357.2 < ((a1.length : Nat) : Int)) <|
 .grd ((x357.2).toNat < a1.length) <|
 .call (ezt (⟨a0.Joints, a0.Masses⟩ : azo) (a1.getD ((x357.2).toNat) default) a2) [] fun y507 =>
 .loop (fun (x517 : ((List Int) × Int)) => ⟨[(1, .vec 0), (2, .pure (encL 1 az3 a2)), (3, pz a3), (4, .ptr 1 0), (9, .vec 2), (10, pz x357.2), (11, pz x517.2), (12, pz y507)], [(0, vecO 1 (encL 1 az3) a1 59), (1, .box [.pure (encL 12 azh a0.Joints), .pure (encL 5 azl a0.Masses)]), (2, vecO 1 az3 x517.1 3)], [], 3⟩)
 (.exit 2) (fun (y526 : (List Int)) => ⟨[(1, .vec 0), (2, .pure (encL 1 az3 a2)), (3, pz a3), (4, .ptr 1 0), (9, .vec 2), (10, pz x357.2)], [(0, vecO 1 (encL 1 az3) a1 59), (1, .box [.pure (encL 12 azh a0.Joints), .pure (encL 5 azl a0.Masses)]), (2, vecO 1 az3 y526 3)], [], 3⟩)
 (fun x517 => .cut 1 (fun (y533 : Bool) => ⟨[(1, .vec 0), (2, .pure (encL 1 az3 a2)), (3, pz a3), (4, .ptr 1 0), (9, .vec 2), (10, pz x357.2), (11, pz x517.2), (12, pz y507), (51, .pure (.bool y533))], [(0, vecO 1 (encL 1 az3) a1 59), (1, .box [.pure (encL 12 azh a0.Joints), .pure (encL 5 azl a0.Masses)]), (2, vecO 1 az3 x517.1 3)], [], 3⟩)
 (.br (decide (x517.2 > 0))
 (.grd (0 ≤ (IntKind.i64.wrap (x517.2 - 1)) ∧ (IntKind.i64.wrap (x517.2 - 1)) < ((x517.1.length : Nat) : Int)) <|
 .grd (((IntKind.i64.wrap (x517.2 - 1))).toNat < x517.1.length) <|
 .grd (0 ≤ (x517.1.getD (((IntKind.i64.wrap (x517.2 - 1))).toNat) default) ∧ (x517.1.getD (((IntKind.i64.wrap (x517.2 - 1))).toNat) default) < ((a1.length : Nat) : Int)) <|
 .grd (((x517.1.getD (((IntKind.i64.wrap (x517.2 - 1))).toNat) default)).toNat < a1.length) <|
 .call (ezt (⟨a0.Joints, a0.Masses⟩ : azo) (a1.getD (((x517.1.getD (((IntKind.i64.wrap (x517.2 - 1))).toNat) default)).toNat) default) a2) [] fun y534 =>
 .ret (.out (decide (y507 < y534))))
 (.ret (.out false))) fun y533 =>
 .br y533
 (.grd (0 ≤ (IntKind.i64.wrap (x517.2 - 1)) ∧ (IntKind.i64.wrap (x517.2 - 1)) < ((x517.1.length : Nat) : Int)) <|
 .grd (((IntKind.i64.wrap (x517.2 - 1))).toNat < x517.1.length) <|
 .grd (0 ≤ x517.2 ∧ x517.2 < ((x517.1.length : Nat) : Int)) <|
 .grd ((x517.2).toNat < x517.1.length) <|
 .grd (0 ≤ x517.2 ∧ x517.2 < ((x517.1.length : Nat) : Int)) <|
 .conv 10015 (fzj 1 az3 x517.1 3 ((x517.2).toNat) (x517.1.getD (((IntKind.i64.wrap (x517.2 - 1))).toNat) default)) <|
 .grd ((x517.2).toNat < x517.1.length ∧ 0 ≤ (x517.2).toNat) <|
 .grd (0 ≤ (IntKind.i64.wrap (x517.2 - 1)) ∧ (IntKind.i64.wrap (x517.2 - 1)) < (((x517.1.set ((x517.2).toNat) (x517.1.getD (((IntKind.i64.wrap (x517.2 - 1))).toNat) default)).length : Nat) : Int)) <|
 .conv 10017 (fzj 1 az3 (x517.1.set ((x517.2).toNat) (x517.1.getD (((IntKind.i64.wrap (x517.2 - 1))).toNat) default)) 3 (((IntKind.i64.wrap (x517.2 - 1))).toNat) (x517.1.getD ((x517.2).toNat) default)) <|
 .grd (((IntKind.i64.wrap (x517.2 - 1))).toNat < (x517.1.set ((x517.2).toNat) (x517.1.getD (((IntKind.i64.wrap (x517.2 - 1))).toNat) default)).length ∧ 0 ≤ ((IntKind.i64.wrap (x517.2 - 1))).toNat) <|
 .ret (.next (((x517.1.set ((x517.2).toNat) (x517.1.getD (((IntKind.i64.wrap (x517.2 - 1))).toNat) default)).set (((IntKind.i64.wrap (x517.2 - 1))).toNat) (x517.1.getD ((x517.2).toNat) default)), (IntKind.i64.wrap (x517.2 - 1)))))
 (.ret (.out x517.1)))
 ((x357.1 ++ ([x357.2] : (List Int))), ((x357.1.length : Nat) : Int)) [] fun y526 =>
 .ret (.out y526))) fun y505 =>
 .ret (.next (y505, (IntKind.i64.wrap (x357.2 + 1)))))
 (.ret (.out x357.1)))
 (nl, 0) [] fun y446 =>
 .ret y446
noncomputable def mzs (a0 : azo) (a1 : (List (List Int))) (a2 : (List Int)) (a3 : Int) : CallS (List Int) :=
  mkC [] hd Tryz.func33 (by kernel_rfl) (hzk a0 a1 a2 a3) 1 [.pure (czx a0), .vec 0, .pure (encL 1 az3 a2), pz a3] [(0, vecO 1 (encL 1 az3) a1 59)] (fun r => .pure (encL 1 az3 r)) (fun _ => [(0, vecO 1 (encL 1 az3) a1 59)]) (by kernel_rfl)
set_option maxHeartbeats 8000000 in
set_option maxRecDepth 20000 in
noncomputable def nzz (a0 : azo) (a1 : (List (List Int))) (a2 : (List az1)) (a3 : Int) (a4 : Int) : T (List az1) :=
 .loop (fun (x85 : ((List az1) × Bool × Int)) => ⟨[(2, pz (min a3 a4)), (3, pz (max a3 a4)), (4, .ptr 2 0), (5, .ptr 3 0), (9, .vec 4), (10, .pure (.bool x85.2.1)), (11, pz x85.2.2)], [(0, vecO 1 (encL 1 az3) a1 59), (1, vecO 12 az5 a2 65), (2, .box [.pure (encL 12 azh a0.Joints), .pure (encL 5 azl a0.Masses)]), (3, .box [.vec 0, .vec 1]), (4, vecO 12 az5 x85.1 65)], [], 5⟩)
 (.exit 0) (fun (y106 : ((List az1) × Bool)) => ⟨[(2, pz (min a3 a4)), (3, pz (max a3 a4)), (4, .ptr 2 0), (5, .ptr 3 0), (9, .vec 4), (10, .pure (.bool y106.2))], [(0, vecO 1 (encL 1 az3) a1 59), (1, vecO 12 az5 a2 65), (2, .box [.pure (encL 12 azh a0.Joints), .pure (encL 5 azl a0.Masses)]), (3, .box [.vec 0, .vec 1]), (4, vecO 12 az5 y106.1 65)], [], 5⟩)
 (fun x85 => .br (decide (x85.2.2 < ((a2.length : Nat) : Int)))
 (.grd (0 ≤ x85.2.2 ∧ x85.2.2 < ((a2.length : Nat) : Int)) <|
 .grd ((x85.2.2).toNat < a2.length) <|
 .cut 0 (fun (y123 : ((List az1) × Bool)) => ⟨[(2, pz (min a3 a4)), (3, pz (max a3 a4)), (4, .ptr 2 0), (5, .ptr 3 0), (9, .vec 4), (10, .pure (.bool y123.2)), (11, pz x85.2.2), (12, .ptr 5 0)], [(0, vecO 1 (encL 1 az3) a1 59), (1, vecO 12 az5 a2 65), (2, .box [.pure (encL 12 azh a0.Joints), .pure (encL 5 azl a0.Masses)]), (3, .box [.vec 0, .vec 1]), (4, vecO 12 az5 y123.1 65), (5, .box [pz ((a2.getD ((x85.2.2).toNat) default).U), pz ((a2.getD ((x85.2.2).toNat) default).V), pz ((a2.getD ((x85.2.2).toNat) default).Cost), pz ((a2.getD ((x85.2.2).toNat) default).State), pz ((a2.getD ((x85.2.2).toNat) default).Proof.Kind), .pure (encL 3 bz1 ((a2.getD ((x85.2.2).toNat) default).Proof.Pieces)), pz ((a2.getD ((x85.2.2).toNat) default).Proof.At.Depth), pz ((a2.getD ((x85.2.2).toNat) default).Proof.At.Index), .pure (encL 3 az2 ((a2.getD ((x85.2.2).toNat) default).Proof.At.Normals)), pz ((a2.getD ((x85.2.2).toNat) default).Proof.Witness.Pair), .pure (encL 1 az3 ((a2.getD ((x85.2.2).toNat) default).Proof.Witness.Left)), .pure (encL 1 az3 ((a2.getD ((x85.2.2).toNat) default).Proof.Witness.Right))])], [], 6⟩)
 (.cut 0 (fun (y124 : Bool) => ⟨[(2, pz (min a3 a4)), (3, pz (max a3 a4)), (4, .ptr 2 0), (5, .ptr 3 0), (9, .vec 4), (10, .pure (.bool x85.2.1)), (11, pz x85.2.2), (12, .ptr 5 0), (50, .pure (.bool y124))], [(0, vecO 1 (encL 1 az3) a1 59), (1, vecO 12 az5 a2 65), (2, .box [.pure (encL 12 azh a0.Joints), .pure (encL 5 azl a0.Masses)]), (3, .box [.vec 0, .vec 1]), (4, vecO 12 az5 x85.1 65), (5, .box [pz ((a2.getD ((x85.2.2).toNat) default).U), pz ((a2.getD ((x85.2.2).toNat) default).V), pz ((a2.getD ((x85.2.2).toNat) default).Cost), pz ((a2.getD ((x85.2.2).toNat) default).State), pz ((a2.getD ((x85.2.2).toNat) default).Proof.Kind), .pure (encL 3 bz1 ((a2.getD ((x85.2.2).toNat) default).Proof.Pieces)), pz ((a2.getD ((x85.2.2).toNat) default).Proof.At.Depth), pz ((a2.getD ((x85.2.2).toNat) default).Proof.At.Index), .pure (encL 3 az2 ((a2.getD ((x85.2.2).toNat) default).Proof.At.Normals)), pz ((a2.getD ((x85.2.2).toNat) default).Proof.Witness.Pair), .pure (encL 1 az3 ((a2.getD ((x85.2.2).toNat) default).Proof.Witness.Left)), .pure (encL 1 az3 ((a2.getD ((x85.2.2).toNat) default).Proof.Witness.Right))])], [], 6⟩)
 (.br (!x85.2.1)
 (.br (decide (((a2.getD ((x85.2.2).toNat) default).U) > (min a3 a4)))
 (.ret (.out true))
 (.br (((a2.getD ((x85.2.2).toNat) default).U) == (min a3 a4))
 (.ret (.out (decide (((a2.getD ((x85.2.2).toNat) default).V) ≥ (max a3 a4)))))
 (.ret (.out false))))
 (.ret (.out false))) fun y124 =>
 .br y124
 (.cut 1 (fun (y125 : Bool) => ⟨[(2, pz (min a3 a4)), (3, pz (max a3 a4)), (4, .ptr 2 0), (5, .ptr 3 0), (9, .vec 4), (10, .tt), (11, pz x85.2.2), (12, .ptr 5 0), (60, .pure (.bool y125))], [(0, vecO 1 (encL 1 az3) a1 59), (1, vecO 12 az5 a2 65), (2, .box [.pure (encL 12 azh a0.Joints), .pure (encL 5 azl a0.Masses)]), (3, .box [.vec 0, .vec 1]), (4, vecO 12 az5 x85.1 65), (5, .box [pz ((a2.getD ((x85.2.2).toNat) default).U), pz ((a2.getD ((x85.2.2).toNat) default).V), pz ((a2.getD ((x85.2.2).toNat) default).Cost), pz ((a2.getD ((x85.2.2).toNat) default).State), pz ((a2.getD ((x85.2.2).toNat) default).Proof.Kind), .pure (encL 3 bz1 ((a2.getD ((x85.2.2).toNat) default).Proof.Pieces)), pz ((a2.getD ((x85.2.2).toNat) default).Proof.At.Depth), pz ((a2.getD ((x85.2.2).toNat) default).Proof.At.Index), .pure (encL 3 az2 ((a2.getD ((x85.2.2).toNat) default).Proof.At.Normals)), pz ((a2.getD ((x85.2.2).toNat) default).Proof.Witness.Pair), .pure (encL 1 az3 ((a2.getD ((x85.2.2).toNat) default).Proof.Witness.Left)), .pure (encL 1 az3 ((a2.getD ((x85.2.2).toNat) default).Proof.Witness.Right))])], [], 6⟩)
 (.br (((a2.getD ((x85.2.2).toNat) default).U) != (min a3 a4))
 (.ret (.out true))
 (.ret (.out (((a2.getD ((x85.2.2).toNat) default).V) != (max a3 a4))))) fun y125 =>
 .br y125
 (.grd (0 ≤ (min a3 a4) ∧ (min a3 a4) < ((a1.length : Nat) : Int)) <|
 .grd (((min a3 a4)).toNat < a1.length) <|
 .grd (0 ≤ (max a3 a4) ∧ (max a3 a4) < ((a1.length : Nat) : Int)) <|
 .grd (((max a3 a4)).toNat < a1.length) <|
 .call (ezt a0 (a1.getD (((min a3 a4)).toNat) default) (a1.getD (((max a3 a4)).toNat) default)) [] fun y126 =>
 .conv 11016 (Kzt 12 az5 ([(⟨(min a3 a4), (max a3 a4), y126, 0, (⟨0, nl, (⟨0, 0, nl⟩ : azq), (⟨0, nl, nl⟩ : azz)⟩ : azj)⟩ : az1)] : (List az1)) 65 [.agg [.int .i64 (min a3 a4), .int .i64 (max a3 a4), .int .i64 y126, .int .i64 0, .int .i64 0, .lst 0 0 fun _ => .unk, .int .i64 0, .int .i64 0, .lst 0 0 fun _ => .unk, .int .i64 0, .lst 0 0 fun _ => .unk, .lst 0 0 fun _ => .unk]] (by kernel_rfl)) <|
 .conv 11017 (fzt 12 az5 x85.1 ([(⟨(min a3 a4), (max a3 a4), y126, 0, (⟨0, nl, (⟨0, 0, nl⟩ : azq), (⟨0, nl, nl⟩ : azz)⟩ : azj)⟩ : az1)] : (List az1)) 65) <|
 .grd ((x85.1.length + ([(⟨(min a3 a4), (max a3 a4), y126, 0, (⟨0, nl, (⟨0, 0, nl⟩ : azq), (⟨0, nl, nl⟩ : azz)⟩ : azj)⟩ : az1)] : (List az1)).length) * 160 ≤ 140737488355328 ∧ (x85.1.length + ([(⟨(min a3 a4), (max a3 a4), y126, 0, (⟨0, nl, (⟨0, 0, nl⟩ : azq), (⟨0, nl, nl⟩ : azz)⟩ : azj)⟩ : az1)] : (List az1)).length) ≤ maxLen) <|
 .ret (.out ((x85.1 ++ ([(⟨(min a3 a4), (max a3 a4), y126, 0, (⟨0, nl, (⟨0, 0, nl⟩ : azq), (⟨0, nl, nl⟩ : azz)⟩ : azj)⟩ : az1)] : (List az1))), true)))
 (.ret (.out (x85.1, true))))
 (.ret (.out (x85.1, x85.2.1)))) fun y123 =>
 .conv 12002 (czp 12 az5 ([(a2.getD ((x85.2.2).toNat) default)] : (List az1)) 65) <|
 .conv 12003 (fzt 12 az5 y123.1 ([(a2.getD ((x85.2.2).toNat) default)] : (List az1)) 65) <|
 .grd ((y123.1.length + ([(a2.getD ((x85.2.2).toNat) default)] : (List az1)).length) * 160 ≤ 140737488355328 ∧ (y123.1.length + ([(a2.getD ((x85.2.2).toNat) default)] : (List az1)).length) ≤ maxLen) <|
 .ret (.next ((y123.1 ++ ([(a2.getD ((x85.2.2).toNat) default)] : (List az1))), y123.2, (IntKind.i64.wrap (x85.2.2 + 1)))))
 (.ret (.out (x85.1, x85.2.1))))
 (nl, false, 0) [] fun y106 =>
 .cut 0 (fun (y129 : (List az1)) => ⟨[(9, .vec 2)], [(0, vecO 1 (encL 1 az3) a1 59), (1, vecO 12 az5 a2 65), (2, vecO 12 az5 y129 65)], [], 3⟩)
 (.br (!y106.2)
 (.grd (0 ≤ (min a3 a4) ∧ (min a3 a4) < ((a1.length : Nat) : Int)) <|
 .grd (((min a3 a4)).toNat < a1.length) <|
 .grd (0 ≤ (max a3 a4) ∧ (max a3 a4) < ((a1.length : Nat) : Int)) <|
 .grd (((max a3 a4)).toNat < a1.length) <|
 .call (ezt a0 (a1.getD (((min a3 a4)).toNat) default) (a1.getD (((max a3 a4)).toNat) default)) [] fun y130 =>
 .conv 14016 (Kzt 12 az5 ([(⟨(min a3 a4), (max a3 a4), y130, 0, (⟨0, nl, (⟨0, 0, nl⟩ : azq), (⟨0, nl, nl⟩ : azz)⟩ : azj)⟩ : az1)] : (List az1)) 65 [.agg [.int .i64 (min a3 a4), .int .i64 (max a3 a4), .int .i64 y130, .int .i64 0, .int .i64 0, .lst 0 0 fun _ => .unk, .int .i64 0, .int .i64 0, .lst 0 0 fun _ => .unk, .int .i64 0, .lst 0 0 fun _ => .unk, .lst 0 0 fun _ => .unk]] (by kernel_rfl)) <|
 .conv 14017 (fzt 12 az5 y106.1 ([(⟨(min a3 a4), (max a3 a4), y130, 0, (⟨0, nl, (⟨0, 0, nl⟩ : azq), (⟨0, nl, nl⟩ : azz)⟩ : azj)⟩ : az1)] : (List az1)) 65) <|
 .grd ((y106.1.length + ([(⟨(min a3 a4), (max a3 a4), y130, 0, (⟨0, nl, (⟨0, 0, nl⟩ : azq), (⟨0, nl, nl⟩ : azz)⟩ : azj)⟩ : az1)] : (List az1)).length) * 160 ≤ 140737488355328 ∧ (y106.1.length + ([(⟨(min a3 a4), (max a3 a4), y130, 0, (⟨0, nl, (⟨0, 0, nl⟩ : azq), (⟨0, nl, nl⟩ : azz)⟩ : azj)⟩ : az1)] : (List az1)).length) ≤ maxLen) <|
 .ret (.out (y106.1 ++ ([(⟨(min a3 a4), (max a3 a4), y130, 0, (⟨0, nl, (⟨0, 0, nl⟩ : azq), (⟨0, nl, nl⟩ : azz)⟩ : azj)⟩ : az1)] : (List az1)))))
 (.ret (.out y106.1))) fun y129 =>
 .ret y129
noncomputable def tzw (a0 : azo) (a1 : (List (List Int))) (a2 : (List az1)) (a3 : Int) (a4 : Int) : CallS (List az1) :=
  mkC [] hd Tryz.func34 (by kernel_rfl) (nzz a0 a1 a2 a3 a4) 2 [.pure (czx a0), .agg [.vec 0, .vec 1], pz a3, pz a4] [(0, vecO 1 (encL 1 az3) a1 59), (1, vecO 12 az5 a2 65)] (fun _ => .vec 2) (fun r => [(0, vecO 1 (encL 1 az3) a1 59), (1, vecO 12 az5 a2 65), (2, vecO 12 az5 r 65)]) (by kernel_rfl)
set_option maxHeartbeats 8000000 in
set_option maxRecDepth 20000 in
noncomputable def nzy (a0 : azo) (a1 : (List (List Int))) (a2 : Int) : T aze :=
 .call (fzp (⟨a0.Joints, a0.Masses⟩ : azo)) [] fun y4 =>
 .br (y4 != 0)
 (.ret (⟨nl, nl⟩ : aze))
 (.loop (fun (x105 : ((List (List Int)) × Int)) => ⟨[(1, .pure (encL 1 (encL 1 az3) a1)), (2, pz a2), (3, .ptr 0 0), (6, .ptr 1 0), (7, .ptr 4 0), (8, pz x105.2)], [(0, .box [.pure (encL 12 azh a0.Joints), .pure (encL 5 azl a0.Masses)]), (1, .box [.vec 2, .vec 3]), (2, .nilv), (3, .nilv), (4, .box [.vec 5, .vec 6]), (5, vecO 1 (encL 1 az3) x105.1 59), (6, .nilv)], [], 7⟩)
 (.exit 0) (fun (y130 : (List (List Int))) => ⟨[(2, pz a2), (3, .ptr 0 0), (6, .ptr 1 0), (7, .ptr 4 0)], [(0, .box [.pure (encL 12 azh a0.Joints), .pure (encL 5 azl a0.Masses)]), (1, .box [.vec 2, .vec 3]), (2, .nilv), (3, .nilv), (4, .box [.vec 5, .vec 6]), (5, vecO 1 (encL 1 az3) y130 59), (6, .nilv)], [], 7⟩)
 (fun x105 => .cut 1 (fun (y132 : Bool) => ⟨[(1, .pure (encL 1 (encL 1 az3) a1)), (2, pz a2), (3, .ptr 0 0), (6, .ptr 1 0), (7, .ptr 4 0), (8, pz x105.2), (25, .pure (.bool y132))], [(0, .box [.pure (encL 12 azh a0.Joints), .pure (encL 5 azl a0.Masses)]), (1, .box [.vec 2, .vec 3]), (2, .nilv), (3, .nilv), (4, .box [.vec 5, .vec 6]), (5, vecO 1 (encL 1 az3) x105.1 59), (6, .nilv)], [], 7⟩)
 (.br (decide (x105.2 < ((a1.length : Nat) : Int)))
 (.ret (.out (decide (((x105.1.length : Nat) : Int) < 1024))))
 (.ret (.out false))) fun y132 =>
 .br y132
 (.cut 0 (fun (y147 : (List (List Int))) => ⟨[(1, .pure (encL 1 (encL 1 az3) a1)), (2, pz a2), (3, .ptr 0 0), (6, .ptr 1 0), (7, .ptr 4 0), (8, pz x105.2)], [(0, .box [.pure (encL 12 azh a0.Joints), .pure (encL 5 azl a0.Masses)]), (1, .box [.vec 2, .vec 3]), (2, .nilv), (3, .nilv), (4, .box [.vec 5, .vec 6]), (5, vecO 1 (encL 1 az3) y147 59), (6, .nilv)], [], 7⟩)
 (.cut 0 (fun (y152 : Bool) => ⟨[(1, .pure (encL 1 (encL 1 az3) a1)), (2, pz a2), (3, .ptr 0 0), (6, .ptr 1 0), (7, .ptr 4 0), (8, pz x105.2), (43, .pure (.bool y152))], [(0, .box [.pure (encL 12 azh a0.Joints), .pure (encL 5 azl a0.Masses)]), (1, .box [.vec 2, .vec 3]), (2, .nilv), (3, .nilv), (4, .box [.vec 5, .vec 6]), (5, vecO 1 (encL 1 az3) x105.1 59), (6, .nilv)], [], 7⟩)
 (.grd (0 ≤ x105.2 ∧ x105.2 < ((a1.length : Nat) : Int)) <|
 .call (tzu (⟨a0.Joints, a0.Masses⟩ : azo) (a1.getD ((x105.2).toNat) default)) [] fun y153 =>
 .br y153
 (.grd (0 ≤ x105.2 ∧ x105.2 < ((a1.length : Nat) : Int)) <|
 .call (lzv x105.1 (a1.getD ((x105.2).toNat) default)) [(0, 5)] fun y154 =>
 .ret (.out (decide (y154 < 0))))
 (.ret (.out false))) fun y152 =>
 .br y152
 (.grd (0 ≤ x105.2 ∧ x105.2 < ((a1.length : Nat) : Int)) <|
 .grd ((a1.getD ((x105.2).toNat) default).length * 8 ≤ 140737488355328 ∧ (a1.getD ((x105.2).toNat) default).length ≤ maxLen) <|
 .conv 8007 (czp 1 (encL 1 az3) ([(a1.getD ((x105.2).toNat) default)] : (List (List Int))) 59) <|
 .conv 8008 (fzt 1 (encL 1 az3) x105.1 ([(a1.getD ((x105.2).toNat) default)] : (List (List Int))) 59) <|
 .grd ((x105.1.length + ([(a1.getD ((x105.2).toNat) default)] : (List (List Int))).length) * 24 ≤ 140737488355328 ∧ (x105.1.length + ([(a1.getD ((x105.2).toNat) default)] : (List (List Int))).length) ≤ maxLen) <|
 .ret (.out (x105.1 ++ ([(a1.getD ((x105.2).toNat) default)] : (List (List Int))))))
 (.ret (.out x105.1))) fun y147 =>
 .ret (.next (y147, (IntKind.i64.wrap (x105.2 + 1)))))
 (.ret (.out x105.1)))
 (nl, 0) [] fun y130 =>
 .loop (fun (x295 : ((List az1) × Int)) => ⟨[(2, pz a2), (3, .ptr 0 0), (6, .ptr 1 0), (7, .ptr 4 0), (9, pz x295.2)], [(0, .box [.pure (encL 12 azh a0.Joints), .pure (encL 5 azl a0.Masses)]), (1, .box [.vec 2, .vec 3]), (2, .nilv), (3, .nilv), (4, .box [.vec 5, .vec 6]), (5, vecO 1 (encL 1 az3) y130 59), (6, vecO 12 az5 x295.1 65)], [], 7⟩)
 (.exit 2) (fun (y330 : (List az1)) => ⟨[(6, .ptr 0 0), (7, .ptr 3 0)], [(0, .box [.vec 1, .vec 2]), (1, .nilv), (2, .nilv), (3, .box [.vec 4, .vec 5]), (4, vecO 1 (encL 1 az3) y130 59), (5, vecO 12 az5 y330 65)], [], 6⟩)
 (fun x295 => .br (decide (x295.2 < ((y130.length : Nat) : Int)))
 (.grd (0 ≤ x295.2 ∧ x295.2 < ((y130.length : Nat) : Int)) <|
 .grd ((x295.2).toNat < y130.length) <|
 .call (mzs a0 y130 (y130.getD ((x295.2).toNat) default) x295.2) [(0, 5)] fun y349 =>
 .loop (fun (x355 : ((List az1) × Int)) => ⟨[(2, pz a2), (3, .ptr 0 0), (6, .ptr 1 0), (7, .ptr 4 0), (9, pz x295.2), (10, .pure (encL 1 az3 y349)), (11, pz x355.2)], [(0, .box [.pure (encL 12 azh a0.Joints), .pure (encL 5 azl a0.Masses)]), (1, .box [.vec 2, .vec 3]), (2, .nilv), (3, .nilv), (4, .box [.vec 5, .vec 6]), (5, vecO 1 (encL 1 az3) y130 59), (6, vecO 12 az5 x355.1 65)], [], 7⟩)
 (.exit 4) (fun (y360 : (List az1)) => ⟨[(2, pz a2), (3, .ptr 0 0), (6, .ptr 1 0), (7, .ptr 4 0), (9, pz x295.2)], [(0, .box [.pure (encL 12 azh a0.Joints), .pure (encL 5 azl a0.Masses)]), (1, .box [.vec 2, .vec 3]), (2, .nilv), (3, .nilv), (4, .box [.vec 5, .vec 6]), (5, vecO 1 (encL 1 az3) y130 59), (6, vecO 12 az5 y360 65)], [], 7⟩)
 (fun x355 => .cut 1 (fun (y362 : Bool) => ⟨[(2, pz a2), (3, .ptr 0 0), (6, .ptr 1 0), (7, .ptr 4 0), (9, pz x295.2), (10, .pure (encL 1 az3 y349)), (11, pz x355.2), (79, .pure (.bool y362))], [(0, .box [.pure (encL 12 azh a0.Joints), .pure (encL 5 azl a0.Masses)]), (1, .box [.vec 2, .vec 3]), (2, .nilv), (3, .nilv), (4, .box [.vec 5, .vec 6]), (5, vecO 1 (encL 1 az3) y130 59), (6, vecO 12 az5 x355.1 65)], [], 7⟩)
 (.br (decide (x355.2 < ((y349.length : Nat) : Int)))
 (.ret (.out (decide (x355.2 < a2))))
 (.ret (.out false))) fun y362 =>
 .br y362
 (.grd (0 ≤ x355.2 ∧ x355.2 < ((y349.length : Nat) : Int)) <|
 .call (tzw a0 y130 x355.1 x295.2 (y349.getD ((x355.2).toNat) default)) [(0, 5), (1, 6)] fun y364 =>
 .ret (.next (y364, (IntKind.i64.wrap (x355.2 + 1)))))
 (.ret (.out x355.1)))
 (x295.1, 0) [] fun y360 =>
 .ret (.next (y360, (IntKind.i64.wrap (x295.2 + 1)))))
 (.ret (.out x295.1)))
 (nl, 0) [] fun y330 =>
 .cut 0 (fun (y365 : (List az1)) => ⟨[(6, .ptr 0 0), (7, .ptr 3 0)], [(0, .box [.vec 1, .vec 2]), (1, .nilv), (2, .nilv), (3, .box [.vec 4, .vec 5]), (4, vecO 1 (encL 1 az3) y130 59), (5, vecO 12 az5 y365 65)], [], 6⟩)
 (.br (decide (((y330.length : Nat) : Int) > 8192))
 (.conv 18002 (Pzm 12 az5 y330 65 (8192 : Int)) <|
 .grd (0 ≤ (8192 : Int) ∧ (8192 : Int) ≤ ((y330.length : Nat) : Int) ∧ 0 ≤ (8192 : Int).toNat) <|
 .ret (.out (y330.take ((8192 : Int).toNat))))
 (.ret (.out y330))) fun y365 =>
 .ret (⟨y130, y365⟩ : aze))
noncomputable def nzx (a0 : azo) (a1 : (List (List Int))) (a2 : Int) : CallS aze :=
  mkC [] hd Tryz.func11 (by kernel_rfl) (nzy a0 a1 a2) 0 [.pure (czx a0), .pure (encL 1 (encL 1 az3) a1), pz a2] [] (fun r => .pure (cz8 r)) (fun _ => []) (by kernel_rfl)
noncomputable def dzs (a0 : (List (List Int))) : T (List (List Int)) :=
  (match a0 with
   | [] => .unroll 1 <|
   .grd (a0.length = 0) <|
   .both
    (.ret nl)
    (.conv 3000 (czp 1 (encL 1 az3) ([] : (List (List Int))) 59) <|
    .conv 3002 (fzt 1 (encL 1 az3) ([] : (List (List Int))) a0 59) <|
    .grd ((([] : (List (List Int))).length + a0.length) * 24 ≤ 140737488355328 ∧ (([] : (List (List Int))).length + a0.length) ≤ maxLen) <|
    .ret (([] : (List (List Int))) ++ a0))
   | _ :: _ => .grd (0 < a0.length) <|
   .conv 3000 (czp 1 (encL 1 az3) ([] : (List (List Int))) 59) <|
   .conv 3002 (fzt 1 (encL 1 az3) ([] : (List (List Int))) a0 59) <|
   .grd ((([] : (List (List Int))).length + a0.length) * 24 ≤ 140737488355328 ∧ (([] : (List (List Int))).length + a0.length) ≤ maxLen) <|
   .ret (([] : (List (List Int))) ++ a0))
noncomputable def fzr (a0 : (List (List Int))) : CallS (List (List Int)) :=
  mkH [] hd Tryz.func119 (by kernel_rfl) (dzs a0) 0 [.pure (encL 1 (encL 1 az3) a0)] [] (fun _ => .vec 0) (fun r => [(0, vecO 1 (encL 1 az3) r 59)]) (by cases a0 <;> exact Ob.of_side (by kernel_rfl))
noncomputable def bzd (a0 : (List az1)) : T (List az1) :=
  (match a0 with
   | [] => .unroll 1 <|
   .grd (a0.length = 0) <|
   .both
    (.ret nl)
    (.conv 3000 (czp 12 az5 ([] : (List az1)) 65) <|
    .conv 3002 (fzt 12 az5 ([] : (List az1)) a0 65) <|
    .grd ((([] : (List az1)).length + a0.length) * 160 ≤ 140737488355328 ∧ (([] : (List az1)).length + a0.length) ≤ maxLen) <|
    .ret (([] : (List az1)) ++ a0))
   | _ :: _ => .grd (0 < a0.length) <|
   .conv 3000 (czp 12 az5 ([] : (List az1)) 65) <|
   .conv 3002 (fzt 12 az5 ([] : (List az1)) a0 65) <|
   .grd ((([] : (List az1)).length + a0.length) * 160 ≤ 140737488355328 ∧ (([] : (List az1)).length + a0.length) ≤ maxLen) <|
   .ret (([] : (List az1)) ++ a0))
noncomputable def cz7 (a0 : (List az1)) : CallS (List az1) :=
  mkH [] hd Tryz.func120 (by kernel_rfl) (bzd a0) 0 [.pure (encL 12 az5 a0)] [] (fun _ => .vec 0) (fun r => [(0, vecO 12 az5 r 65)]) (by cases a0 <;> exact Ob.of_side (by kernel_rfl))
noncomputable def dzc (a0 : (List Int)) : T (List Int) :=
  (match a0 with
   | [] => .unroll 1 <|
   .grd (a0.length = 0) <|
   .both
    (.ret nl)
    (.conv 3000 (czp 1 az3 ([] : (List Int)) 2) <|
    .conv 3002 (fzt 1 az3 ([] : (List Int)) a0 2) <|
    .grd ((([] : (List Int)).length + a0.length) * 8 ≤ 140737488355328 ∧ (([] : (List Int)).length + a0.length) ≤ maxLen) <|
    .ret (([] : (List Int)) ++ a0))
   | _ :: _ => .grd (0 < a0.length) <|
   .conv 3000 (czp 1 az3 ([] : (List Int)) 2) <|
   .conv 3002 (fzt 1 az3 ([] : (List Int)) a0 2) <|
   .grd ((([] : (List Int)).length + a0.length) * 8 ≤ 140737488355328 ∧ (([] : (List Int)).length + a0.length) ≤ maxLen) <|
   .ret (([] : (List Int)) ++ a0))
noncomputable def bzn (a0 : (List Int)) : CallS (List Int) :=
  mkH [] hd Tryz.func121 (by kernel_rfl) (dzc a0) 0 [.pure (encL 1 az3 a0)] [] (fun r => .pure (encL 1 az3 r)) (fun _ => []) (by cases a0 <;> exact Ob.of_side (by kernel_rfl))
noncomputable def czc (a0 : (List azq)) : T (List azq) :=
  (match a0 with
   | [] => .unroll 1 <|
   .grd (a0.length = 0) <|
   .both
    (.ret nl)
    (.conv 3000 (czp 3 bz1 ([] : (List azq)) 58) <|
    .conv 3002 (fzt 3 bz1 ([] : (List azq)) a0 58) <|
    .grd ((([] : (List azq)).length + a0.length) * 40 ≤ 140737488355328 ∧ (([] : (List azq)).length + a0.length) ≤ maxLen) <|
    .ret (([] : (List azq)) ++ a0))
   | _ :: _ => .grd (0 < a0.length) <|
   .conv 3000 (czp 3 bz1 ([] : (List azq)) 58) <|
   .conv 3002 (fzt 3 bz1 ([] : (List azq)) a0 58) <|
   .grd ((([] : (List azq)).length + a0.length) * 40 ≤ 140737488355328 ∧ (([] : (List azq)).length + a0.length) ≤ maxLen) <|
   .ret (([] : (List azq)) ++ a0))
noncomputable def dzq (a0 : (List azq)) : CallS (List azq) :=
  mkH [] hd Tryz.func122 (by kernel_rfl) (czc a0) 0 [.pure (encL 3 bz1 a0)] [] (fun _ => .vec 0) (fun r => [(0, vecO 3 bz1 r 58)]) (by cases a0 <;> exact Ob.of_side (by kernel_rfl))
noncomputable def dz1 (a0 : (List (Int × Int × Int))) : T (List (Int × Int × Int)) :=
  (match a0 with
   | [] => .unroll 1 <|
   .grd (a0.length = 0) <|
   .both
    (.ret nl)
    (.conv 3000 (czp 3 az2 ([] : (List (Int × Int × Int))) 78) <|
    .conv 3002 (fzt 3 az2 ([] : (List (Int × Int × Int))) a0 78) <|
    .grd ((([] : (List (Int × Int × Int))).length + a0.length) * 24 ≤ 140737488355328 ∧ (([] : (List (Int × Int × Int))).length + a0.length) ≤ maxLen) <|
    .ret (([] : (List (Int × Int × Int))) ++ a0))
   | _ :: _ => .grd (0 < a0.length) <|
   .conv 3000 (czp 3 az2 ([] : (List (Int × Int × Int))) 78) <|
   .conv 3002 (fzt 3 az2 ([] : (List (Int × Int × Int))) a0 78) <|
   .grd ((([] : (List (Int × Int × Int))).length + a0.length) * 24 ≤ 140737488355328 ∧ (([] : (List (Int × Int × Int))).length + a0.length) ≤ maxLen) <|
   .ret (([] : (List (Int × Int × Int))) ++ a0))
noncomputable def dz0 (a0 : (List (Int × Int × Int))) : CallS (List (Int × Int × Int)) :=
  mkH [] hd Tryz.func123 (by kernel_rfl) (dz1 a0) 0 [.pure (encL 3 az2 a0)] [] (fun r => .pure (encL 3 az2 r)) (fun _ => []) (by cases a0 <;> exact Ob.of_side (by kernel_rfl))
noncomputable def fzc (a0 : azj) : T azj :=
 .call (dzq a0.Pieces) [] fun y2 =>
 .unroll 998 <|
 .loop (fun (x15 : ((List azq) × Int)) => ⟨[(1, .ptr 0 0), (2, .ptr 2 0), (10, .vec 1), (11, pz ((y2.length : Nat) : Int)), (12, pz x15.2)], [(0, .box [pz a0.Kind, .vec 1, pz a0.At.Depth, pz a0.At.Index, .pure (encL 3 az2 a0.At.Normals), pz a0.Witness.Pair, .pure (encL 1 az3 a0.Witness.Left), .pure (encL 1 az3 a0.Witness.Right)]), (1, vecO 3 bz1 x15.1 58), (2, .box [pz 0, .vec 3, pz 0, pz 0, .vec 4, pz 0, .vec 5, .vec 6]), (3, .nilv), (4, .nilv), (5, .nilv), (6, .nilv)], [], 7⟩)
 (.exit 0) (fun (y18 : (List azq)) => ⟨[(1, .ptr 0 0), (2, .ptr 2 0)], [(0, .box [pz a0.Kind, .vec 1, pz a0.At.Depth, pz a0.At.Index, .pure (encL 3 az2 a0.At.Normals), pz a0.Witness.Pair, .pure (encL 1 az3 a0.Witness.Left), .pure (encL 1 az3 a0.Witness.Right)]), (1, vecO 3 bz1 y18 58), (2, .box [pz 0, .vec 3, pz 0, pz 0, .vec 4, pz 0, .vec 5, .vec 6]), (3, .nilv), (4, .nilv), (5, .nilv), (6, .nilv)], [], 7⟩)
 (fun x15 => .br (decide (x15.2 < ((y2.length : Nat) : Int)))
 (.grd (0 ≤ x15.2 ∧ x15.2 < ((x15.1.length : Nat) : Int)) <|
 .grd ((x15.2).toNat < x15.1.length) <|
 .call (dz0 ((x15.1.getD ((x15.2).toNat) default).Normals)) [] fun y20 =>
 .grd (0 ≤ x15.2 ∧ x15.2 < ((x15.1.length : Nat) : Int)) <|
 .conv 5008 (fzj 3 bz1 x15.1 58 ((x15.2).toNat) (⟨(x15.1.getD ((x15.2).toNat) default).Depth, (x15.1.getD ((x15.2).toNat) default).Index, y20⟩ : azq)) <|
 .grd ((x15.2).toNat < x15.1.length ∧ 0 ≤ (x15.2).toNat) <|
 .ret (.next ((x15.1.set ((x15.2).toNat) (⟨(x15.1.getD ((x15.2).toNat) default).Depth, (x15.1.getD ((x15.2).toNat) default).Index, y20⟩ : azq)), (IntKind.i64.wrap (x15.2 + 1)))))
 (.ret (.out x15.1)))
 (y2, 0) [] fun y18 =>
 .call (dz0 a0.At.Normals) [] fun y22 =>
 .call (bzn a0.Witness.Left) [] fun y24 =>
 .call (bzn a0.Witness.Right) [] fun y26 =>
 .ret (⟨a0.Kind, y18, (⟨a0.At.Depth, a0.At.Index, y22⟩ : azq), (⟨a0.Witness.Pair, y24, y26⟩ : azz)⟩ : azj)
noncomputable def czz (a0 : azj) : CallS azj :=
  mkC [] hd Tryz.func97 (by kernel_rfl) (fzc a0) 0 [.pure (dzh a0)] [] (fun r => .pure (dzh r)) (fun _ => []) (by kernel_rfl)
noncomputable def lzx (a0 : aze) : T ((List (List Int)) × (List az1)) :=
 .call (fzr a0.Points) [] fun y3 =>
 .call (cz7 a0.Edges) [] fun y4 =>
 .loop (fun (x17 : ((List (List Int)) × Int)) => ⟨[(2, .ptr 0 0), (3, .vec 3), (4, .vec 4), (15, .vec 3), (16, pz ((y3.length : Nat) : Int)), (17, pz x17.2)], [(0, .box [.vec 1, .vec 2]), (1, .nilv), (2, .nilv), (3, vecO 1 (encL 1 az3) x17.1 59), (4, vecO 12 az5 y4 65)], [], 5⟩)
 (.exit 0) (fun (y20 : (List (List Int))) => ⟨[(2, .ptr 0 0), (3, .vec 3), (4, .vec 4)], [(0, .box [.vec 1, .vec 2]), (1, .nilv), (2, .nilv), (3, vecO 1 (encL 1 az3) y20 59), (4, vecO 12 az5 y4 65)], [], 5⟩)
 (fun x17 => .br (decide (x17.2 < ((y3.length : Nat) : Int)))
 (.grd (0 ≤ x17.2 ∧ x17.2 < ((x17.1.length : Nat) : Int)) <|
 .grd ((x17.2).toNat < x17.1.length) <|
 .call (bzn (x17.1.getD ((x17.2).toNat) default)) [] fun y22 =>
 .grd (0 ≤ x17.2 ∧ x17.2 < ((x17.1.length : Nat) : Int)) <|
 .conv 5005 (fzj 1 (encL 1 az3) x17.1 59 ((x17.2).toNat) y22) <|
 .grd ((x17.2).toNat < x17.1.length ∧ 0 ≤ (x17.2).toNat) <|
 .ret (.next ((x17.1.set ((x17.2).toNat) y22), (IntKind.i64.wrap (x17.2 + 1)))))
 (.ret (.out x17.1)))
 (y3, 0) [] fun y20 =>
 .loop (fun (x35 : ((List az1) × Int)) => ⟨[(2, .ptr 0 0), (3, .vec 3), (4, .vec 4), (28, .vec 4), (29, pz ((y4.length : Nat) : Int)), (30, pz x35.2)], [(0, .box [.vec 1, .vec 2]), (1, .nilv), (2, .nilv), (3, vecO 1 (encL 1 az3) y20 59), (4, vecO 12 az5 x35.1 65)], [], 5⟩)
 (.exit 2) (fun (y38 : (List az1)) => ⟨[(2, .ptr 0 0), (3, .vec 3), (4, .vec 4)], [(0, .box [.vec 1, .vec 2]), (1, .nilv), (2, .nilv), (3, vecO 1 (encL 1 az3) y20 59), (4, vecO 12 az5 y38 65)], [], 5⟩)
 (fun x35 => .br (decide (x35.2 < ((y4.length : Nat) : Int)))
 (.grd (0 ≤ x35.2 ∧ x35.2 < ((x35.1.length : Nat) : Int)) <|
 .grd ((x35.2).toNat < x35.1.length) <|
 .call (czz ((x35.1.getD ((x35.2).toNat) default).Proof)) [] fun y40 =>
 .grd (0 ≤ x35.2 ∧ x35.2 < ((x35.1.length : Nat) : Int)) <|
 .conv 10007 (fzj 12 az5 x35.1 65 ((x35.2).toNat) (⟨(x35.1.getD ((x35.2).toNat) default).U, (x35.1.getD ((x35.2).toNat) default).V, (x35.1.getD ((x35.2).toNat) default).Cost, (x35.1.getD ((x35.2).toNat) default).State, y40⟩ : az1)) <|
 .grd ((x35.2).toNat < x35.1.length ∧ 0 ≤ (x35.2).toNat) <|
 .ret (.next ((x35.1.set ((x35.2).toNat) (⟨(x35.1.getD ((x35.2).toNat) default).U, (x35.1.getD ((x35.2).toNat) default).V, (x35.1.getD ((x35.2).toNat) default).Cost, (x35.1.getD ((x35.2).toNat) default).State, y40⟩ : az1)), (IntKind.i64.wrap (x35.2 + 1)))))
 (.ret (.out x35.1)))
 (y4, 0) [] fun y38 =>
 .ret (y20, y38)
noncomputable def sz9 (a0 : aze) : CallS ((List (List Int)) × (List az1)) :=
  mkC [] hd Tryz.func95 (by kernel_rfl) (lzx a0) 0 [.pure (cz8 a0)] [] (fun _ => .agg [.vec 0, .vec 1]) (fun r => [(0, vecO 1 (encL 1 az3) r.1 59), (1, vecO 12 az5 r.2 65)]) (by kernel_rfl)
noncomputable def Bzp (a0 : Int) : T Int :=
 .br (a0 == 1)
 (.ret 1)
 (.br (a0 == 2)
 (.ret 2)
 (.ret 0))
noncomputable def gz7 (a0 : Int) : CallS Int :=
  mkC [] hd Tryz.func96 (by kernel_rfl) (Bzp a0) 0 [pz a0] [] (fun r => pz r) (fun _ => []) (by kernel_rfl)
set_option maxHeartbeats 8000000 in
set_option maxRecDepth 20000 in
noncomputable def oz1 (a0 : aze) (a1 : Int) (a2 : azj) : T ((List (List Int)) × (List az1) × Bool) :=
 .call (sz9 (⟨a0.Points, a0.Edges⟩ : aze)) [] fun y2 =>
 .cut 1 (fun (y4 : Bool) => ⟨[(1, pz a1), (3, .ptr 0 0), (5, .ptr 1 0), (6, .ptr 2 0), (7, .ptr 5 0), (22, .pure (.bool y4))], [(0, .box [.pure (encL 1 (encL 1 az3) a0.Points), .pure (encL 12 az5 a0.Edges)]), (1, .box [pz a2.Kind, .pure (encL 3 bz1 a2.Pieces), pz a2.At.Depth, pz a2.At.Index, .pure (encL 3 az2 a2.At.Normals), pz a2.Witness.Pair, .pure (encL 1 az3 a2.Witness.Left), .pure (encL 1 az3 a2.Witness.Right)]), (2, .box [.vec 3, .vec 4]), (3, vecO 1 (encL 1 az3) y2.1 59), (4, vecO 12 az5 y2.2 65), (5, .box [.ff])], [.func 94 [] [.ptr 2 0, .ptr 5 0]], 6⟩)
 (.br (decide (a1 < 0))
 (.ret (.out true))
 (.ret (.out (decide (a1 ≥ ((a0.Edges.length : Nat) : Int)))))) fun y4 =>
 .br y4
 (.ret (y2.1, y2.2, false))
 (.grd (0 ≤ a1 ∧ a1 < ((a0.Edges.length : Nat) : Int)) <|
 .cut 0 (fun (y6 : Bool) => ⟨[(1, pz a1), (5, .ptr 0 0), (6, .ptr 1 0), (7, .ptr 4 0), (35, .pure (.bool y6))], [(0, .box [pz a2.Kind, .pure (encL 3 bz1 a2.Pieces), pz a2.At.Depth, pz a2.At.Index, .pure (encL 3 az2 a2.At.Normals), pz a2.Witness.Pair, .pure (encL 1 az3 a2.Witness.Left), .pure (encL 1 az3 a2.Witness.Right)]), (1, .box [.vec 2, .vec 3]), (2, vecO 1 (encL 1 az3) y2.1 59), (3, vecO 12 az5 y2.2 65), (4, .box [.ff])], [.func 94 [] [.ptr 1 0, .ptr 4 0]], 5⟩)
 (.br (((a0.Edges.getD ((a1).toNat) default).State) == 1)
 (.ret (.out true))
 (.ret (.out (((a0.Edges.getD ((a1).toNat) default).State) == 2)))) fun y6 =>
 .br y6
 (.ret (y2.1, y2.2, false))
 (.conv 8000 (czp 1 az3 ([1, 2, 3] : (List Int)) 3) <|
 .loop (fun (x43 : Int) => ⟨[(1, pz a1), (5, .ptr 0 0), (6, .ptr 1 0), (7, .ptr 4 0), (37, .vec 5), (38, pz ((([1, 2, 3] : (List Int)).length : Nat) : Int)), (39, pz x43)], [(0, .box [pz a2.Kind, .pure (encL 3 bz1 a2.Pieces), pz a2.At.Depth, pz a2.At.Index, .pure (encL 3 az2 a2.At.Normals), pz a2.Witness.Pair, .pure (encL 1 az3 a2.Witness.Left), .pure (encL 1 az3 a2.Witness.Right)]), (1, .box [.vec 2, .vec 3]), (2, vecO 1 (encL 1 az3) y2.1 59), (3, vecO 12 az5 y2.2 65), (4, .box [.ff]), (5, vecO 1 az3 ([1, 2, 3] : (List Int)) 3)], [.func 94 [] [.ptr 1 0, .ptr 4 0]], 6⟩)
 (.exit 0) (fun (_ : U0) => ⟨[(6, .ptr 0 0), (7, .ptr 3 0)], [(0, .box [.vec 1, .vec 2]), (1, vecO 1 (encL 1 az3) y2.1 59), (2, vecO 12 az5 y2.2 65), (3, .box [.ff])], [.func 94 [] [.ptr 0 0, .ptr 3 0]], 4⟩)
 (fun x43 => .br (decide (x43 < ((([1, 2, 3] : (List Int)).length : Nat) : Int)))
 (.grd (0 ≤ x43 ∧ x43 < ((([1, 2, 3] : (List Int)).length : Nat) : Int)) <|
 .grd ((x43).toNat < ([1, 2, 3] : (List Int)).length) <|
 .call (gz7 (([1, 2, 3] : (List Int)).getD ((x43).toNat) default)) [] fun y58 =>
 .br (y58 == a2.Kind)
 (.grd (0 ≤ a1 ∧ a1 < ((y2.2.length : Nat) : Int)) <|
 .conv 12006 (fzj 12 az5 y2.2 65 ((a1).toNat) (⟨(y2.2.getD ((a1).toNat) default).U, (y2.2.getD ((a1).toNat) default).V, (y2.2.getD ((a1).toNat) default).Cost, (([1, 2, 3] : (List Int)).getD ((x43).toNat) default), (y2.2.getD ((a1).toNat) default).Proof⟩ : az1)) <|
 .grd ((a1).toNat < y2.2.length ∧ 0 ≤ (a1).toNat) <|
 .call (czz a2) [] fun y60 =>
 .grd (0 ≤ a1 ∧ a1 < (((y2.2.set ((a1).toNat) (⟨(y2.2.getD ((a1).toNat) default).U, (y2.2.getD ((a1).toNat) default).V, (y2.2.getD ((a1).toNat) default).Cost, (([1, 2, 3] : (List Int)).getD ((x43).toNat) default), (y2.2.getD ((a1).toNat) default).Proof⟩ : az1)).length : Nat) : Int)) <|
 .conv 13007 (fzj 12 az5 (y2.2.set ((a1).toNat) (⟨(y2.2.getD ((a1).toNat) default).U, (y2.2.getD ((a1).toNat) default).V, (y2.2.getD ((a1).toNat) default).Cost, (([1, 2, 3] : (List Int)).getD ((x43).toNat) default), (y2.2.getD ((a1).toNat) default).Proof⟩ : az1)) 65 ((a1).toNat) (⟨((y2.2.set ((a1).toNat) (⟨(y2.2.getD ((a1).toNat) default).U, (y2.2.getD ((a1).toNat) default).V, (y2.2.getD ((a1).toNat) default).Cost, (([1, 2, 3] : (List Int)).getD ((x43).toNat) default), (y2.2.getD ((a1).toNat) default).Proof⟩ : az1)).getD ((a1).toNat) default).U, ((y2.2.set ((a1).toNat) (⟨(y2.2.getD ((a1).toNat) default).U, (y2.2.getD ((a1).toNat) default).V, (y2.2.getD ((a1).toNat) default).Cost, (([1, 2, 3] : (List Int)).getD ((x43).toNat) default), (y2.2.getD ((a1).toNat) default).Proof⟩ : az1)).getD ((a1).toNat) default).V, ((y2.2.set ((a1).toNat) (⟨(y2.2.getD ((a1).toNat) default).U, (y2.2.getD ((a1).toNat) default).V, (y2.2.getD ((a1).toNat) default).Cost, (([1, 2, 3] : (List Int)).getD ((x43).toNat) default), (y2.2.getD ((a1).toNat) default).Proof⟩ : az1)).getD ((a1).toNat) default).Cost, ((y2.2.set ((a1).toNat) (⟨(y2.2.getD ((a1).toNat) default).U, (y2.2.getD ((a1).toNat) default).V, (y2.2.getD ((a1).toNat) default).Cost, (([1, 2, 3] : (List Int)).getD ((x43).toNat) default), (y2.2.getD ((a1).toNat) default).Proof⟩ : az1)).getD ((a1).toNat) default).State, y60⟩ : az1)) <|
 .grd ((a1).toNat < (y2.2.set ((a1).toNat) (⟨(y2.2.getD ((a1).toNat) default).U, (y2.2.getD ((a1).toNat) default).V, (y2.2.getD ((a1).toNat) default).Cost, (([1, 2, 3] : (List Int)).getD ((x43).toNat) default), (y2.2.getD ((a1).toNat) default).Proof⟩ : az1)).length ∧ 0 ≤ (a1).toNat) <|
 .ret (.fin (y2.1, ((y2.2.set ((a1).toNat) (⟨(y2.2.getD ((a1).toNat) default).U, (y2.2.getD ((a1).toNat) default).V, (y2.2.getD ((a1).toNat) default).Cost, (([1, 2, 3] : (List Int)).getD ((x43).toNat) default), (y2.2.getD ((a1).toNat) default).Proof⟩ : az1)).set ((a1).toNat) (⟨((y2.2.set ((a1).toNat) (⟨(y2.2.getD ((a1).toNat) default).U, (y2.2.getD ((a1).toNat) default).V, (y2.2.getD ((a1).toNat) default).Cost, (([1, 2, 3] : (List Int)).getD ((x43).toNat) default), (y2.2.getD ((a1).toNat) default).Proof⟩ : az1)).getD ((a1).toNat) default).U, ((y2.2.set ((a1).toNat) (⟨(y2.2.getD ((a1).toNat) default).U, (y2.2.getD ((a1).toNat) default).V, (y2.2.getD ((a1).toNat) default).Cost, (([1, 2, 3] : (List Int)).getD ((x43).toNat) default), (y2.2.getD ((a1).toNat) default).Proof⟩ : az1)).getD ((a1).toNat) default).V, ((y2.2.set ((a1).toNat) (⟨(y2.2.getD ((a1).toNat) default).U, (y2.2.getD ((a1).toNat) default).V, (y2.2.getD ((a1).toNat) default).Cost, (([1, 2, 3] : (List Int)).getD ((x43).toNat) default), (y2.2.getD ((a1).toNat) default).Proof⟩ : az1)).getD ((a1).toNat) default).Cost, ((y2.2.set ((a1).toNat) (⟨(y2.2.getD ((a1).toNat) default).U, (y2.2.getD ((a1).toNat) default).V, (y2.2.getD ((a1).toNat) default).Cost, (([1, 2, 3] : (List Int)).getD ((x43).toNat) default), (y2.2.getD ((a1).toNat) default).Proof⟩ : az1)).getD ((a1).toNat) default).State, y60⟩ : az1)), true)))
 (.ret (.next (IntKind.i64.wrap (x43 + 1)))))
 (.ret (.out .u)))
 0 [] fun _ =>
 .ret (y2.1, y2.2, false)))
noncomputable def tzz (a0 : aze) (a1 : Int) (a2 : azj) : CallS ((List (List Int)) × (List az1) × Bool) :=
  mkC [⟨94, Lz7⟩] hd Tryz.func66 (by kernel_rfl) (oz1 a0 a1 a2) 0 [.pure (cz8 a0), pz a1, .pure (dzh a2)] [] (fun r => .tup [.agg [.vec 0, .vec 1], .pure (.bool r.2.2)]) (fun r => [(0, vecO 1 (encL 1 az3) r.1 59), (1, vecO 12 az5 r.2.1 65)]) (by kernel_rfl)
noncomputable def hzw (a0 : aze) : T ((List (List Int)) × (List az1)) :=
 .call (tzz (⟨a0.Points, a0.Edges⟩ : aze) (-1) (⟨0, nl, (⟨0, 0, nl⟩ : azq), (⟨0, nl, nl⟩ : azz)⟩ : azj)) [] fun y2 =>
 .unroll 998 <|
 .ret (y2.1, y2.2.1)
noncomputable def mzw (a0 : aze) : CallS ((List (List Int)) × (List az1)) :=
  mkC [] hd Tryz.func38 (by kernel_rfl) (hzw a0) 0 [.pure (cz8 a0)] [] (fun _ => .agg [.vec 0, .vec 1]) (fun r => [(0, vecO 1 (encL 1 az3) r.1 59), (1, vecO 12 az5 r.2 65)]) (by kernel_rfl)
noncomputable def kzo (a0 : Int) : T Bool :=
 .br (decide (97 ≤ a0))
 (.ret (decide (a0 ≤ 122)))
 (.ret false)
noncomputable def qzz (a0 : Int) : CallS Bool :=
  mkC [] hd Tryz.func162 (by kernel_rfl) (kzo a0) 0 [.pure (.int .i32 a0)] [] (fun r => .pure (.bool r)) (fun _ => []) (by kernel_rfl)
noncomputable def mz7 (a0 : Int) : T Bool :=
 .br (decide (48 ≤ a0))
 (.ret (decide (a0 ≤ 57)))
 (.ret false)
noncomputable def szr (a0 : Int) : CallS Bool :=
  mkC [] hd Tryz.func163 (by kernel_rfl) (mz7 a0) 0 [.pure (.int .i32 a0)] [] (fun r => .pure (.bool r)) (fun _ => []) (by kernel_rfl)
noncomputable def szq (a0 : ByteArray) : T Bool :=
 .cut 2 (fun (y2 : Bool) => ⟨[(0, .pure (.str a0)), (16, .pure (.bool y2))], [], [], 0⟩)
 (.br (((a0.size : Nat) : Int) == 0)
 (.ret (.out true))
 (.br (decide (((a0.size : Nat) : Int) > 16))
 (.ret (.out true))
 (.ret (.out (a0 == (⟨#[119, 111, 114, 108, 100]⟩ : ByteArray)))))) fun y2 =>
 .br y2
 (.ret false)
 (.loop (fun (x35 : Nat) => ⟨[(18, .ptr 0 0)], [(0, .iter a0 x35)], [], 1⟩)
 (.exit 0) (fun (_ : U0) => ⟨[], [], [], 0⟩)
 (fun x35 => .brP (x35 < a0.size)
 (.cut 2 (fun (y48 : Bool) => ⟨[(18, .ptr 0 0), (38, .pure (.bool y48))], [(0, .iter a0 (x35 + (Utf8.decode a0 x35).2))], [], 1⟩)
 (.call (qzz ((Utf8.decode a0 x35).1 : Int)) [] fun y49 =>
 .br (!y49)
 (.br (((x35 : Nat) : Int) == 0)
 (.ret (.out true))
 (.call (szr ((Utf8.decode a0 x35).1 : Int)) [] fun y50 =>
 .br (!y50)
 (.ret (.out (((Utf8.decode a0 x35).1 : Int) != 95)))
 (.ret (.out false))))
 (.ret (.out false))) fun y48 =>
 .br y48
 (.ret (.fin false))
 (.ret (.next (x35 + (Utf8.decode a0 x35).2))))
 (.ret (.out .u)))
 0 [] fun _ =>
 .ret true)
noncomputable def yzd (a0 : ByteArray) : CallS Bool :=
  mkC [] hd Tryz.func124 (by kernel_rfl) (szq a0) 0 [.pure (.str a0)] [] (fun r => .pure (.bool r)) (fun _ => []) (by kernel_rfl)
noncomputable def szb (a0 : azo) (a1 : ByteArray) : T Int :=
 .loop (fun (x5 : Int) => ⟨[(1, .pure (.str a1)), (2, .ptr 0 0), (8, pz ((a0.Joints.length : Nat) : Int)), (9, pz x5)], [(0, .box [.pure (encL 12 azh a0.Joints), .pure (encL 5 azl a0.Masses)])], [], 1⟩)
 (.exit 0) (fun (_ : U0) => ⟨[], [], [], 0⟩)
 (fun x5 => .br (decide (x5 < ((a0.Joints.length : Nat) : Int)))
 (.grd (0 ≤ x5 ∧ x5 < ((a0.Joints.length : Nat) : Int)) <|
 .br (((a0.Joints.getD ((x5).toNat) default).Name) == a1)
 (.ret (.fin x5))
 (.ret (.next (IntKind.i64.wrap (x5 + 1)))))
 (.ret (.out .u)))
 0 [] fun _ =>
 .ret (-1)
noncomputable def yza (a0 : azo) (a1 : ByteArray) : CallS Int :=
  mkC [] hd Tryz.func125 (by kernel_rfl) (szb a0 a1) 0 [.pure (czx a0), .pure (.str a1)] [] (fun r => pz r) (fun _ => []) (by kernel_rfl)
noncomputable def oz3 (a0 : (Int × Int × Int)) : T Bool :=
 .loop (fun (x13 : Int) => ⟨[(5, .pure (az2 a0)), (6, pz x13)], [], [], 0⟩)
 (.exit 0) (fun (_ : U0) => ⟨[], [], [], 0⟩)
 (fun x13 => .br (decide (x13 < 3))
 (.grd (0 ≤ x13 ∧ x13 < ((3 : Nat) : Int)) <|
 .cut 0 (fun (y18 : Bool) => ⟨[(5, .pure (az2 a0)), (6, pz x13), (14, .pure (.bool y18))], [], [], 0⟩)
 (.br (decide ((([a0.1, a0.2.1, a0.2.2] : List Int).getD (x13).toNat 0) < (-4194304)))
 (.ret (.out true))
 (.ret (.out (decide ((([a0.1, a0.2.1, a0.2.2] : List Int).getD (x13).toNat 0) > 4194304))))) fun y18 =>
 .br y18
 (.ret (.fin true))
 (.ret (.next (IntKind.i64.wrap (x13 + 1)))))
 (.ret (.out .u)))
 0 [] fun _ =>
 .ret false
noncomputable def oz2 (a0 : (Int × Int × Int)) : CallS Bool :=
  mkC [] hd Tryz.func126 (by kernel_rfl) (oz3 a0) 0 [.pure (az2 a0)] [] (fun r => .pure (.bool r)) (fun _ => []) (by kernel_rfl)
noncomputable def pzz (a0 : Int) : T Int :=
 .cut 3 (fun (y3 : Bool) => ⟨[(3, pz a0), (4, .pure (.bool y3))], [], [], 0⟩)
 (.br (a0 == 1)
 (.ret (.out (a0 == 1)))
 (.br (a0 == 2)
 (.ret (.out (a0 == 2)))
 (.ret (.out (a0 == 3))))) fun y3 =>
 .br y3
 (.ret 524288)
 (.cut 0 (fun (y4 : Bool) => ⟨[(8, .pure (.bool y4))], [], [], 0⟩)
 (.br (a0 == 4)
 (.ret (.out (a0 == 4)))
 (.br (a0 == 5)
 (.ret (.out (a0 == 5)))
 (.ret (.out (a0 == 6))))) fun y4 =>
 .br y4
 (.ret 4194304)
 (.ret 0))
noncomputable def wz4 (a0 : Int) : CallS Int :=
  mkC [] hd Tryz.func127 (by kernel_rfl) (pzz a0) 0 [pz a0] [] (fun r => pz r) (fun _ => []) (by kernel_rfl)
noncomputable def pzy (a0 : Int) (a1 : Int) : T Bool :=
 .br (decide (1 ≤ a0))
 (.ret (decide (a0 ≤ a1)))
 (.ret false)
noncomputable def fzq (a0 : Int) (a1 : Int) : CallS Bool :=
  mkC [] hd Tryz.func128 (by kernel_rfl) (pzy a0 a1) 0 [pz a0, pz a1] [] (fun r => .pure (.bool r)) (fun _ => []) (by kernel_rfl)
end Go.Abs
