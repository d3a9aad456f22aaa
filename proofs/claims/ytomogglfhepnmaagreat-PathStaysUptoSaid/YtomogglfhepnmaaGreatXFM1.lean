/-
  M1 (a part of a claim: our own text).
-/
import Derived.Test.YtomogglfhepnmaaGreatXFRngF
import Derived.Test.YtomogglfhepnmaaGreatChecked
namespace Go.Abs
open Go.Proofs
abbrev pz (x : Int) : AVal := .pure (.int .i64 x)
theorem hd : dzx Tryz.prog Qzi := Kze (by kernel_rfl)
structure Czw where
  list : (List Int)
  next : Int
instance : Inhabited Czw := ⟨⟨default, default⟩⟩
structure azk where
  Name : ByteArray
  Kind : Int
  Parent : Int
  Offset : (Int × Int × Int)
  Lo : Int
  Hi : Int
  Weight : Int
  Speed : Int
  Accel : Int
  Torque : Int
instance : Inhabited azk := ⟨⟨default, default, default, default, default, default, default, default, default, default⟩⟩
structure bzc where
  Link : Int
  Mass : Int
  Point : (Int × Int × Int)
instance : Inhabited bzc := ⟨⟨default, default, default⟩⟩
structure azj where
  Joints : (List azk)
  Masses : (List bzc)
instance : Inhabited azj := ⟨⟨default, default⟩⟩
structure azo where
  Link : Int
  Radius : Int
  Points : (List (Int × Int × Int))
instance : Inhabited azo := ⟨⟨default, default, default⟩⟩
structure gz4 where
  A : Int
  B : Int
instance : Inhabited gz4 := ⟨⟨default, default⟩⟩
structure az8 where
  Robot : azj
  Shapes : (List azo)
  Skips : (List gz4)
instance : Inhabited az8 := ⟨⟨default, default, default⟩⟩
structure az4 where
  Depth : Int
  Index : Int
  Normals : (List (Int × Int × Int))
instance : Inhabited az4 := ⟨⟨default, default, default⟩⟩
structure azy where
  Pair : Int
  Left : (List Int)
  Right : (List Int)
instance : Inhabited azy := ⟨⟨default, default, default⟩⟩
structure czb where
  Kind : Int
  Pieces : (List az4)
  At : az4
  Witness : azy
instance : Inhabited czb := ⟨⟨default, default, default, default⟩⟩
structure az0 where
  Lo : Int
  Hi : Int
instance : Inhabited az0 := ⟨⟨default, default⟩⟩
structure czv where
  A : Int
  B : Int
instance : Inhabited czv := ⟨⟨default, default⟩⟩
structure azz where
  shapes : (List azo)
  pairs : (List czv)
  points : (List (List (az0 × az0 × az0)))
instance : Inhabited azz := ⟨⟨default, default, default⟩⟩
structure azx where
  R : ((az0 × az0 × az0) × (az0 × az0 × az0) × (az0 × az0 × az0))
  T : (az0 × az0 × az0)
instance : Inhabited azx := ⟨⟨default, default⟩⟩
structure dz0 where
  Kind : Int
  Normals : (List (Int × Int × Int))
  Witness : azy
instance : Inhabited dz0 := ⟨⟨default, default, default⟩⟩
structure dzy where
  a : (List (az0 × az0 × az0))
  b : (List (az0 × az0 × az0))
  ra : Int
  rb : Int
instance : Inhabited dzy := ⟨⟨default, default, default, default⟩⟩
structure dzk where
  points : (List (az0 × az0 × az0))
  radius : Int
instance : Inhabited dzk := ⟨⟨default, default⟩⟩
structure cz6 where
  a : dzk
  b : dzk
instance : Inhabited cz6 := ⟨⟨default, default⟩⟩
structure gzc where
  Kind : Int
  Normal : (Int × Int × Int)
  Left : (List Int)
  Right : (List Int)
  Steps : Int
instance : Inhabited gzc := ⟨⟨default, default, default, default, default⟩⟩
structure bz1 where
  witness : azy
instance : Inhabited bz1 := ⟨⟨default⟩⟩
structure azv where
  normals : (List (Int × Int × Int))
instance : Inhabited azv := ⟨⟨default⟩⟩
structure azp where
  scene : az8
  p : (List Int)
  q : (List Int)
  pieces : (List az4)
instance : Inhabited azp := ⟨⟨default, default, default, default⟩⟩
structure ozs where
  Depth : Int
  Index : Int
  Numbers : (List Int)
instance : Inhabited ozs := ⟨⟨default, default, default⟩⟩
structure bze where
  Table : (List (Int × Int × Int))
  Uses : (List ozs)
instance : Inhabited bze := ⟨⟨default, default⟩⟩
structure hzp where
  Points : (List (List Int))
  Edges : (List bze)
instance : Inhabited hzp := ⟨⟨default, default⟩⟩
structure dz1 where
  scene : az8
  depth : Int
instance : Inhabited dz1 := ⟨⟨default, default⟩⟩
structure Czx where
  depth : Int
  index : Int
  hints : (List (Int × Int × Int))
instance : Inhabited Czx := ⟨⟨default, default, default⟩⟩
structure Ezy where
  points : (List (az0 × az0 × az0))
  radius : Int
instance : Inhabited Ezy := ⟨⟨default, default⟩⟩
def az9 (v : azk) : PVal := .agg [.str v.Name, .int .i64 v.Kind, .int .i64 v.Parent, .int .i64 v.Offset.1, .int .i64 v.Offset.2.1, .int .i64 v.Offset.2.2, .int .i64 v.Lo, .int .i64 v.Hi, .int .i64 v.Weight, .int .i64 v.Speed, .int .i64 v.Accel, .int .i64 v.Torque]
def azg (v : bzc) : PVal := .agg [.int .i64 v.Link, .int .i64 v.Mass, .int .i64 v.Point.1, .int .i64 v.Point.2.1, .int .i64 v.Point.2.2]
def ez1 (v : azj) : PVal := .agg [encL 12 az9 v.Joints, encL 5 azg v.Masses]
def az1 (v : (Int × Int × Int)) : PVal := .agg [.int .i64 v.1, .int .i64 v.2.1, .int .i64 v.2.2]
def aze (v : azo) : PVal := .agg [.int .i64 v.Link, .int .i64 v.Radius, encL 3 az1 v.Points]
def azn (v : gz4) : PVal := .agg [.int .i64 v.A, .int .i64 v.B]
def bzm (v : az8) : PVal := .agg [encL 12 az9 v.Robot.Joints, encL 5 azg v.Robot.Masses, encL 3 aze v.Shapes, encL 2 azn v.Skips]
def azh (v : az4) : PVal := .agg [.int .i64 v.Depth, .int .i64 v.Index, encL 3 az1 v.Normals]
def zzw (v : azy) : PVal := .agg [.int .i64 v.Pair, encL 1 az3 v.Left, encL 1 az3 v.Right]
def Bzo (v : czb) : PVal := .agg [.int .i64 v.Kind, encL 3 azh v.Pieces, .int .i64 v.At.Depth, .int .i64 v.At.Index, encL 3 az1 v.At.Normals, .int .i64 v.Witness.Pair, encL 1 az3 v.Witness.Left, encL 1 az3 v.Witness.Right]
def az6 (v : az0) : PVal := .agg [.int .i64 v.Lo, .int .i64 v.Hi]
def ezp (v : czv) : PVal := .agg [.int .i64 v.A, .int .i64 v.B]
def az2 (v : (az0 × az0 × az0)) : PVal := .agg [.int .i64 v.1.Lo, .int .i64 v.1.Hi, .int .i64 v.2.1.Lo, .int .i64 v.2.1.Hi, .int .i64 v.2.2.Lo, .int .i64 v.2.2.Hi]
def fz5 (v : azz) : PVal := .agg [encL 3 aze v.shapes, encL 2 ezp v.pairs, encL 1 (encL 6 az2) v.points]
def czg (v : azx) : PVal := .agg [.int .i64 v.R.1.1.Lo, .int .i64 v.R.1.1.Hi, .int .i64 v.R.1.2.1.Lo, .int .i64 v.R.1.2.1.Hi, .int .i64 v.R.1.2.2.Lo, .int .i64 v.R.1.2.2.Hi, .int .i64 v.R.2.1.1.Lo, .int .i64 v.R.2.1.1.Hi, .int .i64 v.R.2.1.2.1.Lo, .int .i64 v.R.2.1.2.1.Hi, .int .i64 v.R.2.1.2.2.Lo, .int .i64 v.R.2.1.2.2.Hi, .int .i64 v.R.2.2.1.Lo, .int .i64 v.R.2.2.1.Hi, .int .i64 v.R.2.2.2.1.Lo, .int .i64 v.R.2.2.2.1.Hi, .int .i64 v.R.2.2.2.2.Lo, .int .i64 v.R.2.2.2.2.Hi, .int .i64 v.T.1.Lo, .int .i64 v.T.1.Hi, .int .i64 v.T.2.1.Lo, .int .i64 v.T.2.1.Hi, .int .i64 v.T.2.2.Lo, .int .i64 v.T.2.2.Hi]
def zzx (v : (Int × Int × Int × Int)) : PVal := .agg [.int .i64 v.1, .int .i64 v.2.1, .int .i64 v.2.2.1, .int .i64 v.2.2.2]
def uzm (v : dz0) : PVal := .agg [.int .i64 v.Kind, encL 3 az1 v.Normals, .int .i64 v.Witness.Pair, encL 1 az3 v.Witness.Left, encL 1 az3 v.Witness.Right]
def uzn (v : dzy) : PVal := .agg [encL 6 az2 v.a, encL 6 az2 v.b, .int .i64 v.ra, .int .i64 v.rb]
def Bzp (v : dzk) : PVal := .agg [encL 6 az2 v.points, .int .i64 v.radius]
def lza (v : cz6) : PVal := .agg [encL 6 az2 v.a.points, .int .i64 v.a.radius, encL 6 az2 v.b.points, .int .i64 v.b.radius]
def Hzh (v : gzc) : PVal := .agg [.int .i64 v.Kind, .int .i64 v.Normal.1, .int .i64 v.Normal.2.1, .int .i64 v.Normal.2.2, encL 1 az3 v.Left, encL 1 az3 v.Right, .int .i64 v.Steps]
def ezm (v : bz1) : PVal := .agg [.int .i64 v.witness.Pair, encL 1 az3 v.witness.Left, encL 1 az3 v.witness.Right]
def ezd (v : azv) : PVal := .agg [encL 3 az1 v.normals]
def dzw (v : azp) : PVal := .agg [encL 12 az9 v.scene.Robot.Joints, encL 5 azg v.scene.Robot.Masses, encL 3 aze v.scene.Shapes, encL 2 azn v.scene.Skips, encL 1 az3 v.p, encL 1 az3 v.q, encL 3 azh v.pieces]
def azr (v : (Int × Int × Int)) : List PVal := [.int .i64 v.1, .int .i64 v.2.1, .int .i64 v.2.2]
def fzg (v : ozs) : PVal := .agg [.int .i64 v.Depth, .int .i64 v.Index, encL 1 az3 v.Numbers]
def dz7 (v : bze) : PVal := .agg [encL 3 az1 v.Table, encL 3 fzg v.Uses]
def Dz9 (v : hzp) : PVal := .agg [encL 1 (encL 1 az3) v.Points, encL 2 dz7 v.Edges]
def lz9 (v : dz1) : PVal := .agg [encL 12 az9 v.scene.Robot.Joints, encL 5 azg v.scene.Robot.Masses, encL 3 aze v.scene.Shapes, encL 2 azn v.scene.Skips, .int .i64 v.depth]
def cza (v : ((az0 × az0 × az0) × (az0 × az0 × az0) × (az0 × az0 × az0))) : PVal := .agg [.int .i64 v.1.1.Lo, .int .i64 v.1.1.Hi, .int .i64 v.1.2.1.Lo, .int .i64 v.1.2.1.Hi, .int .i64 v.1.2.2.Lo, .int .i64 v.1.2.2.Hi, .int .i64 v.2.1.1.Lo, .int .i64 v.2.1.1.Hi, .int .i64 v.2.1.2.1.Lo, .int .i64 v.2.1.2.1.Hi, .int .i64 v.2.1.2.2.Lo, .int .i64 v.2.1.2.2.Hi, .int .i64 v.2.2.1.Lo, .int .i64 v.2.2.1.Hi, .int .i64 v.2.2.2.1.Lo, .int .i64 v.2.2.2.1.Hi, .int .i64 v.2.2.2.2.Lo, .int .i64 v.2.2.2.2.Hi]
def qze (v : (Int × Int × Int × Int × Int × Int × Int × Int × Int × Int × Int)) : PVal := .agg [.int .i64 v.1, .int .i64 v.2.1, .int .i64 v.2.2.1, .int .i64 v.2.2.2.1, .int .i64 v.2.2.2.2.1, .int .i64 v.2.2.2.2.2.1, .int .i64 v.2.2.2.2.2.2.1, .int .i64 v.2.2.2.2.2.2.2.1, .int .i64 v.2.2.2.2.2.2.2.2.1, .int .i64 v.2.2.2.2.2.2.2.2.2.1, .int .i64 v.2.2.2.2.2.2.2.2.2.2]
theorem Qzm : GuardFn Tryz.prog 48 :=
  czh (fn := Tryz.f48) Tryz.func48 (by kernel_rfl) ⟨0, (gOps Tryz.f48).getD 0 default, (gOps Tryz.f48).getD 1 default, 1, 2, gX Tryz.f48, gC ((gOps Tryz.f48).getD 0 default), 20, 20, by kernel_rfl, by kernel_rfl, by kernel_rfl, by kernel_rfl, by kernel_rfl, by kernel_rfl, by kernel_rfl, by kernel_rfl, ⟨gMs (Tryz.prog.underlying 20), by kernel_rfl⟩, by decide, by decide, by kernel_rfl⟩
theorem Qzn : GuardFn Tryz.prog 59 :=
  czh (fn := Tryz.f59) Tryz.func59 (by kernel_rfl) ⟨0, (gOps Tryz.f59).getD 0 default, (gOps Tryz.f59).getD 1 default, 2, 3, gX Tryz.f59, gC ((gOps Tryz.f59).getD 0 default), 20, 20, by kernel_rfl, by kernel_rfl, by kernel_rfl, by kernel_rfl, by kernel_rfl, by kernel_rfl, by kernel_rfl, by kernel_rfl, ⟨gMs (Tryz.prog.underlying 20), by kernel_rfl⟩, by decide, by decide, by kernel_rfl⟩
theorem Qzo : GuardFn Tryz.prog 66 :=
  czh (fn := Tryz.f66) Tryz.func66 (by kernel_rfl) ⟨0, (gOps Tryz.f66).getD 0 default, (gOps Tryz.f66).getD 1 default, 1, 2, gX Tryz.f66, gC ((gOps Tryz.f66).getD 0 default), 20, 20, by kernel_rfl, by kernel_rfl, by kernel_rfl, by kernel_rfl, by kernel_rfl, by kernel_rfl, by kernel_rfl, by kernel_rfl, ⟨gMs (Tryz.prog.underlying 20), by kernel_rfl⟩, by decide, by decide, by kernel_rfl⟩
theorem Qzp : GuardFn Tryz.prog 71 :=
  czh (fn := Tryz.f71) Tryz.func71 (by kernel_rfl) ⟨0, (gOps Tryz.f71).getD 0 default, (gOps Tryz.f71).getD 1 default, 3, 4, gX Tryz.f71, gC ((gOps Tryz.f71).getD 0 default), 20, 20, by kernel_rfl, by kernel_rfl, by kernel_rfl, by kernel_rfl, by kernel_rfl, by kernel_rfl, by kernel_rfl, by kernel_rfl, ⟨gMs (Tryz.prog.underlying 20), by kernel_rfl⟩, by decide, by decide, by kernel_rfl⟩
theorem Qzq : GuardFn Tryz.prog 76 :=
  czh (fn := Tryz.f76) Tryz.func76 (by kernel_rfl) ⟨0, (gOps Tryz.f76).getD 0 default, (gOps Tryz.f76).getD 1 default, 2, 3, gX Tryz.f76, gC ((gOps Tryz.f76).getD 0 default), 20, 20, by kernel_rfl, by kernel_rfl, by kernel_rfl, by kernel_rfl, by kernel_rfl, by kernel_rfl, by kernel_rfl, by kernel_rfl, ⟨gMs (Tryz.prog.underlying 20), by kernel_rfl⟩, by decide, by decide, by kernel_rfl⟩
theorem Qzr : GuardFn Tryz.prog 79 :=
  czh (fn := Tryz.f79) Tryz.func79 (by kernel_rfl) ⟨0, (gOps Tryz.f79).getD 0 default, (gOps Tryz.f79).getD 1 default, 1, 2, gX Tryz.f79, gC ((gOps Tryz.f79).getD 0 default), 20, 20, by kernel_rfl, by kernel_rfl, by kernel_rfl, by kernel_rfl, by kernel_rfl, by kernel_rfl, by kernel_rfl, by kernel_rfl, ⟨gMs (Tryz.prog.underlying 20), by kernel_rfl⟩, by decide, by decide, by kernel_rfl⟩
theorem Qzs : GuardFn Tryz.prog 88 :=
  czh (fn := Tryz.f88) Tryz.func88 (by kernel_rfl) ⟨0, (gOps Tryz.f88).getD 0 default, (gOps Tryz.f88).getD 1 default, 1, 2, gX Tryz.f88, gC ((gOps Tryz.f88).getD 0 default), 20, 20, by kernel_rfl, by kernel_rfl, by kernel_rfl, by kernel_rfl, by kernel_rfl, by kernel_rfl, by kernel_rfl, by kernel_rfl, ⟨gMs (Tryz.prog.underlying 20), by kernel_rfl⟩, by decide, by decide, by kernel_rfl⟩
theorem Qzt : GuardFn Tryz.prog 92 :=
  czh (fn := Tryz.f92) Tryz.func92 (by kernel_rfl) ⟨0, (gOps Tryz.f92).getD 0 default, (gOps Tryz.f92).getD 1 default, 2, 3, gX Tryz.f92, gC ((gOps Tryz.f92).getD 0 default), 20, 20, by kernel_rfl, by kernel_rfl, by kernel_rfl, by kernel_rfl, by kernel_rfl, by kernel_rfl, by kernel_rfl, by kernel_rfl, ⟨gMs (Tryz.prog.underlying 20), by kernel_rfl⟩, by decide, by decide, by kernel_rfl⟩
theorem Qzu : GuardFn Tryz.prog 93 :=
  czh (fn := Tryz.f93) Tryz.func93 (by kernel_rfl) ⟨0, (gOps Tryz.f93).getD 0 default, (gOps Tryz.f93).getD 1 default, 1, 2, gX Tryz.f93, gC ((gOps Tryz.f93).getD 0 default), 20, 20, by kernel_rfl, by kernel_rfl, by kernel_rfl, by kernel_rfl, by kernel_rfl, by kernel_rfl, by kernel_rfl, by kernel_rfl, ⟨gMs (Tryz.prog.underlying 20), by kernel_rfl⟩, by decide, by decide, by kernel_rfl⟩
theorem Qzv : GuardFn Tryz.prog 96 :=
  czh (fn := Tryz.f96) Tryz.func96 (by kernel_rfl) ⟨0, (gOps Tryz.f96).getD 0 default, (gOps Tryz.f96).getD 1 default, 1, 2, gX Tryz.f96, gC ((gOps Tryz.f96).getD 0 default), 20, 20, by kernel_rfl, by kernel_rfl, by kernel_rfl, by kernel_rfl, by kernel_rfl, by kernel_rfl, by kernel_rfl, by kernel_rfl, ⟨gMs (Tryz.prog.underlying 20), by kernel_rfl⟩, by decide, by decide, by kernel_rfl⟩
theorem Ozc : GuardFn Tryz.prog 124 :=
  czh (fn := Tryz.f124) Tryz.func124 (by kernel_rfl) ⟨0, (gOps Tryz.f124).getD 0 default, (gOps Tryz.f124).getD 1 default, 1, 2, gX Tryz.f124, gC ((gOps Tryz.f124).getD 0 default), 20, 20, by kernel_rfl, by kernel_rfl, by kernel_rfl, by kernel_rfl, by kernel_rfl, by kernel_rfl, by kernel_rfl, by kernel_rfl, ⟨gMs (Tryz.prog.underlying 20), by kernel_rfl⟩, by decide, by decide, by kernel_rfl⟩
theorem Ozd : GuardFn Tryz.prog 135 :=
  czh (fn := Tryz.f135) Tryz.func135 (by kernel_rfl) ⟨0, (gOps Tryz.f135).getD 0 default, (gOps Tryz.f135).getD 1 default, 2, 3, gX Tryz.f135, gC ((gOps Tryz.f135).getD 0 default), 20, 20, by kernel_rfl, by kernel_rfl, by kernel_rfl, by kernel_rfl, by kernel_rfl, by kernel_rfl, by kernel_rfl, by kernel_rfl, ⟨gMs (Tryz.prog.underlying 20), by kernel_rfl⟩, by decide, by decide, by kernel_rfl⟩
theorem Oze : GuardFn Tryz.prog 143 :=
  czh (fn := Tryz.f143) Tryz.func143 (by kernel_rfl) ⟨0, (gOps Tryz.f143).getD 0 default, (gOps Tryz.f143).getD 1 default, 1, 2, gX Tryz.f143, gC ((gOps Tryz.f143).getD 0 default), 20, 20, by kernel_rfl, by kernel_rfl, by kernel_rfl, by kernel_rfl, by kernel_rfl, by kernel_rfl, by kernel_rfl, by kernel_rfl, ⟨gMs (Tryz.prog.underlying 20), by kernel_rfl⟩, by decide, by decide, by kernel_rfl⟩
theorem Ozf : GuardFn Tryz.prog 189 :=
  czh (fn := Tryz.f189) Tryz.func189 (by kernel_rfl) ⟨0, (gOps Tryz.f189).getD 0 default, (gOps Tryz.f189).getD 1 default, 2, 3, gX Tryz.f189, gC ((gOps Tryz.f189).getD 0 default), 20, 20, by kernel_rfl, by kernel_rfl, by kernel_rfl, by kernel_rfl, by kernel_rfl, by kernel_rfl, by kernel_rfl, by kernel_rfl, ⟨gMs (Tryz.prog.underlying 20), by kernel_rfl⟩, by decide, by decide, by kernel_rfl⟩
theorem Ozg : GuardFn Tryz.prog 224 :=
  czh (fn := Tryz.f224) Tryz.func224 (by kernel_rfl) ⟨0, (gOps Tryz.f224).getD 0 default, (gOps Tryz.f224).getD 1 default, 2, 3, gX Tryz.f224, gC ((gOps Tryz.f224).getD 0 default), 20, 20, by kernel_rfl, by kernel_rfl, by kernel_rfl, by kernel_rfl, by kernel_rfl, by kernel_rfl, by kernel_rfl, by kernel_rfl, ⟨gMs (Tryz.prog.underlying 20), by kernel_rfl⟩, by decide, by decide, by kernel_rfl⟩
noncomputable def Iz0 (a0 : (List Int)) : T ((List Int) × Int) :=
 .ret (a0, 0)
noncomputable def iz7 (a0 : (List Int)) : CallS ((List Int) × Int) :=
  mkC [] hd Tryz.func69 (by kernel_rfl) (Iz0 a0) 0 [.pure (encL 1 az3 a0)] [] (fun _ => .ptr 0 0) (fun r => [(0, .box [.pure (encL 1 az3 r.1), pz r.2])]) (by kernel_rfl)
noncomputable def rzw (a0 : Int) (a1 : Int) : T Int :=
 .grd (a1 ≠ 0) <|
 .cut 0 (fun (y1 : Int) => ⟨[(5, pz y1)], [], [], 0⟩)
 (.br (decide ((a0.tmod a1) < 0))
 (.ret (.out (IntKind.i64.wrap ((a0.tmod a1) + a1))))
 (.ret (.out (a0.tmod a1)))) fun y1 =>
 .ret y1
noncomputable def gz6 (a0 : Int) (a1 : Int) : CallS Int :=
  mkC [] hd Tryz.func31 (by kernel_rfl) (rzw a0 a1) 0 [pz a0, pz a1] [] (fun r => pz r) (fun _ => []) (by kernel_rfl)
noncomputable def ozt (a0 : (List Int)) (a1 : Int) (a2 : Int) : T (Int × (List Int) × Int) :=
 .br (decide (a1 ≥ ((a0.length : Nat) : Int)))
 (.ret (0, a0, a1))
 (.grd (0 ≤ (IntKind.i64.wrap ((IntKind.i64.wrap (a1 + 1)) - 1)) ∧ (IntKind.i64.wrap ((IntKind.i64.wrap (a1 + 1)) - 1)) < ((a0.length : Nat) : Int)) <|
 .call (gz6 (a0.getD (((IntKind.i64.wrap ((IntKind.i64.wrap (a1 + 1)) - 1))).toNat) default) a2) [] fun y1 =>
 .ret (y1, a0, (IntKind.i64.wrap (a1 + 1))))
noncomputable def azd (a0 : (List Int)) (a1 : Int) (a2 : Int) : CallS (Int × (List Int) × Int) :=
  mkC [] hd Tryz.func70 (by kernel_rfl) (ozt a0 a1 a2) 1 [.ptr 0 0, pz a2] [(0, .box [.pure (encL 1 az3 a0), pz a1])] (fun r => pz r.1) (fun r => [(0, .box [.pure (encL 1 az3 r.2.1), pz r.2.2])]) (by kernel_rfl)
noncomputable def pzk (a0 : Int) : T ByteArray :=
 .grd (0 ≤ a0 ∧ a0 ≤ (IntKind.i64.wrap (a0 + 1)) ∧ (IntKind.i64.wrap (a0 + 1)) ≤ (((⟨#[97, 98, 99, 100, 101, 102, 103, 104, 105, 106]⟩ : ByteArray).size : Nat) : Int)) <|
 .ret ((⟨#[97, 98, 99, 100, 101, 102, 103, 104, 105, 106]⟩ : ByteArray).extract (a0).toNat ((IntKind.i64.wrap (a0 + 1))).toNat)
noncomputable def pzj (a0 : Int) : CallS ByteArray :=
  mkC [] hd Tryz.func206 (by kernel_rfl) (pzk a0) 0 [pz a0] [] (fun r => .pure (.str r)) (fun _ => []) (by kernel_rfl)
noncomputable def kzx (a0 : (List Int)) (a1 : Int) (a2 : Int) : T (Int × (List Int) × Int) :=
 .call (azd a0 a1 (IntKind.i64.wrap ((IntKind.i64.wrap (2 * a2)) + 1))) [(0, 0)] fun y1 =>
 .ret ((IntKind.i64.wrap (y1.1 - a2)), y1.2.1, y1.2.2)
noncomputable def bz3 (a0 : (List Int)) (a1 : Int) (a2 : Int) : CallS (Int × (List Int) × Int) :=
  mkC [] hd Tryz.func113 (by kernel_rfl) (kzx a0 a1 a2) 1 [.ptr 0 0, pz a2] [(0, .box [.pure (encL 1 az3 a0), pz a1])] (fun r => pz r.1) (fun r => [(0, .box [.pure (encL 1 az3 r.2.1), pz r.2.2])]) (by kernel_rfl)
noncomputable def sz0 (a0 : (List Int)) (a1 : Int) (a2 : Int) : T (azk × (List Int) × Int) :=
 .call (pzj a2) [] fun y4 =>
 .call (azd a0 a1 4) [(0, 0)] fun y5 =>
 .call (azd y5.2.1 y5.2.2 3) [(0, 0)] fun y6 =>
 .call (azd y6.2.1 y6.2.2 8) [(0, 0)] fun y8 =>
 .grd (0 ≤ y8.1 ∧ y8.1 < ((8 : Nat) : Int)) <|
 .cut 0 (fun (y13 : ((List Int) × Int × Int)) => ⟨[(0, .ptr 0 0), (1, pz a2), (4, .ptr 1 0), (5, .ptr 2 0)], [(0, .box [.pure (encL 1 az3 y13.1), pz y13.2.1]), (1, .box [.pure (.str (⟨#[]⟩ : ByteArray)), pz 0, pz 0, pz 0, pz 0, pz 0, pz 0, pz 0, pz 0, pz 0, pz 0, pz 0]), (2, .box [.pure (.str y4), pz (([3, 3, 1, 2, 4, 5, 3, 0] : List Int).getD (y8.1).toNat 0), pz y13.2.2, pz 0, pz 0, pz 0, pz 0, pz 0, pz (IntKind.i64.wrap (1 + y5.1)), pz 65536, pz (IntKind.i64.wrap (65536 + y6.1)), pz 327680])], [], 3⟩)
 (.call (azd y8.2.1 y8.2.2 4) [(0, 0)] fun y15 =>
 .br (y15.1 == 1)
 (.ret (.out (y15.2.1, y15.2.2, (-1))))
 (.ret (.out (y15.2.1, y15.2.2, (IntKind.i64.wrap (a2 - 1)))))) fun y13 =>
 .cut 0 (fun (y20 : ((List Int) × Int × Int × Int × Int)) => ⟨[(0, .ptr 0 0), (4, .ptr 1 0), (5, .ptr 2 0)], [(0, .box [.pure (encL 1 az3 y20.1), pz y20.2.1]), (1, .box [.pure (.str (⟨#[]⟩ : ByteArray)), pz 0, pz 0, pz 0, pz 0, pz 0, pz 0, pz 0, pz 0, pz 0, pz 0, pz 0]), (2, .box [.pure (.str y4), pz (([3, 3, 1, 2, 4, 5, 3, 0] : List Int).getD (y8.1).toNat 0), pz y13.2.2, pz y20.2.2.1, pz y20.2.2.2.1, pz y20.2.2.2.2, pz 0, pz 0, pz (IntKind.i64.wrap (1 + y5.1)), pz 65536, pz (IntKind.i64.wrap (65536 + y6.1)), pz 327680])], [], 3⟩)
 (.br (decide (a2 > 0))
 (.call (bz3 y13.1 y13.2.1 2) [(0, 0)] fun y21 =>
 .call (bz3 y21.2.1 y21.2.2 1) [(0, 0)] fun y22 =>
 .ret (.out (y22.2.1, y22.2.2, 131072, (IntKind.i64.wrap (y21.1 * 32768)), (IntKind.i64.wrap (y22.1 * 32768)))))
 (.ret (.out (y13.1, y13.2.1, 0, 0, 0)))) fun y20 =>
 .cut 0 (fun (y35 : ((List Int) × Int × Int × Int)) => ⟨[(4, .ptr 1 0), (5, .ptr 2 0)], [(0, .box [.pure (encL 1 az3 y35.1), pz y35.2.1]), (1, .box [.pure (.str (⟨#[]⟩ : ByteArray)), pz 0, pz 0, pz 0, pz 0, pz 0, pz 0, pz 0, pz 0, pz 0, pz 0, pz 0]), (2, .box [.pure (.str y4), pz (([3, 3, 1, 2, 4, 5, 3, 0] : List Int).getD (y8.1).toNat 0), pz y13.2.2, pz y20.2.2.1, pz y20.2.2.2.1, pz y20.2.2.2.2, pz y35.2.2.1, pz y35.2.2.2, pz (IntKind.i64.wrap (1 + y5.1)), pz 65536, pz (IntKind.i64.wrap (65536 + y6.1)), pz 327680])], [], 3⟩)
 (.br ((([3, 3, 1, 2, 4, 5, 3, 0] : List Int).getD (y8.1).toNat 0) == 0)
 (.ret (.out (y20.1, y20.2.1, 0, 0)))
 (.cut 0 (fun (y36 : Bool) => ⟨[(0, .ptr 0 0), (4, .ptr 1 0), (5, .ptr 2 0), (55, .pure (.bool y36))], [(0, .box [.pure (encL 1 az3 y20.1), pz y20.2.1]), (1, .box [.pure (.str (⟨#[]⟩ : ByteArray)), pz 0, pz 0, pz 0, pz 0, pz 0, pz 0, pz 0, pz 0, pz 0, pz 0, pz 0]), (2, .box [.pure (.str y4), pz (([3, 3, 1, 2, 4, 5, 3, 0] : List Int).getD (y8.1).toNat 0), pz y13.2.2, pz y20.2.2.1, pz y20.2.2.2.1, pz y20.2.2.2.2, pz 0, pz 0, pz (IntKind.i64.wrap (1 + y5.1)), pz 65536, pz (IntKind.i64.wrap (65536 + y6.1)), pz 327680])], [], 3⟩)
 (.br ((([3, 3, 1, 2, 4, 5, 3, 0] : List Int).getD (y8.1).toNat 0) == 4)
 (.ret (.out ((([3, 3, 1, 2, 4, 5, 3, 0] : List Int).getD (y8.1).toNat 0) == 4)))
 (.ret (.out ((([3, 3, 1, 2, 4, 5, 3, 0] : List Int).getD (y8.1).toNat 0) == 5)))) fun y36 =>
 .br y36
 (.call (azd y20.1 y20.2.1 3) [(0, 0)] fun y37 =>
 .call (azd y37.2.1 y37.2.2 4) [(0, 0)] fun y38 =>
 .ret (.out (y38.2.1, y38.2.2, (IntKind.i64.wrap ((IntKind.i64.wrap (0 - y37.1)) * 65536)), (IntKind.i64.wrap (y38.1 * 32768)))))
 (.call (azd y20.1 y20.2.1 5) [(0, 0)] fun y39 =>
 .ok ((8 : Int) ≠ 0) (by decide) <|
 .call (azd y39.2.1 y39.2.2 4) [(0, 0)] fun y40 =>
 .ok ((8 : Int) ≠ 0) (by decide) <|
 .call (azd y40.2.1 y40.2.2 3) [(0, 0)] fun y41 =>
 .ret (.out (y41.2.1, y41.2.2, (IntKind.i64.wrap ((IntKind.i64.wrap ((IntKind.i64.wrap (0 - y39.1)) * 65536)).tdiv 8)), (IntKind.i64.wrap ((IntKind.i64.wrap ((IntKind.i64.wrap ((IntKind.i64.wrap (1 + y40.1)) * 65536)).tdiv 8)) + y41.1))))))) fun y35 =>
 .ret ((⟨y4, (([3, 3, 1, 2, 4, 5, 3, 0] : List Int).getD (y8.1).toNat 0), y13.2.2, (y20.2.2.1, y20.2.2.2.1, y20.2.2.2.2), y35.2.2.1, y35.2.2.2, (IntKind.i64.wrap (1 + y5.1)), 65536, (IntKind.i64.wrap (65536 + y6.1)), 327680⟩ : azk), y35.1, y35.2.1)
noncomputable def rzz (a0 : (List Int)) (a1 : Int) (a2 : Int) : CallS (azk × (List Int) × Int) :=
  mkC [] hd Tryz.func160 (by kernel_rfl) (sz0 a0 a1 a2) 1 [.ptr 0 0, pz a2] [(0, .box [.pure (encL 1 az3 a0), pz a1])] (fun r => .pure (az9 r.1)) (fun r => [(0, .box [.pure (encL 1 az3 r.2.1), pz r.2.2])]) (by kernel_rfl)
noncomputable def sz1 (a0 : (List Int)) (a1 : Int) : T (azj × (List Int) × Int) :=
 .call (azd a0 a1 3) [(0, 0)] fun y2 =>
 .loop (fun (x15 : ((List Int) × Int × (List azk) × Int)) => ⟨[(0, .ptr 0 0), (2, .ptr 1 0), (3, .ptr 4 0), (4, pz (IntKind.i64.wrap (1 + y2.1))), (5, pz x15.2.2.2)], [(0, .box [.pure (encL 1 az3 x15.1), pz x15.2.1]), (1, .box [.vec 2, .vec 3]), (2, .nilv), (3, .nilv), (4, .box [.vec 5, .vec 6]), (5, vecO 12 az9 x15.2.2.1 158), (6, .nilv)], [], 7⟩)
 (.exit 0) (fun (y18 : ((List Int) × Int × (List azk))) => ⟨[(0, .ptr 0 0), (2, .ptr 1 0), (3, .ptr 4 0), (4, pz (IntKind.i64.wrap (1 + y2.1)))], [(0, .box [.pure (encL 1 az3 y18.1), pz y18.2.1]), (1, .box [.vec 2, .vec 3]), (2, .nilv), (3, .nilv), (4, .box [.vec 5, .vec 6]), (5, vecO 12 az9 y18.2.2 158), (6, .nilv)], [], 7⟩)
 (fun x15 => .br (decide (x15.2.2.2 < (IntKind.i64.wrap (1 + y2.1))))
 (.call (rzz x15.1 x15.2.1 x15.2.2.2) [(0, 0)] fun y20 =>
 .conv 6005 (czw 12 az9 ([y20.1] : (List azk)) 158) <|
 .conv 6006 (hzn 12 az9 x15.2.2.1 ([y20.1] : (List azk)) 158) <|
 .grd ((x15.2.2.1.length + ([y20.1] : (List azk)).length) * 104 ≤ 140737488355328 ∧ (x15.2.2.1.length + ([y20.1] : (List azk)).length) ≤ maxLen) <|
 .ret (.next (y20.2.1, y20.2.2, (x15.2.2.1 ++ ([y20.1] : (List azk))), (IntKind.i64.wrap (x15.2.2.2 + 1)))))
 (.ret (.out (x15.1, x15.2.1, x15.2.2.1))))
 (y2.2.1, y2.2.2, nl, 0) [] fun y18 =>
 .call (azd y18.1 y18.2.1 3) [(0, 0)] fun y51 =>
 .loop (fun (x61 : ((List Int) × Int × (List bzc) × Int)) => ⟨[(0, .ptr 0 0), (2, .ptr 1 0), (3, .ptr 4 0), (4, pz (IntKind.i64.wrap (1 + y2.1))), (6, pz x61.2.2.2)], [(0, .box [.pure (encL 1 az3 x61.1), pz x61.2.1]), (1, .box [.vec 2, .vec 3]), (2, .nilv), (3, .nilv), (4, .box [.vec 5, .vec 6]), (5, vecO 12 az9 y18.2.2 158), (6, vecO 5 azg x61.2.2.1 218)], [], 7⟩)
 (.exit 2) (fun (y70 : ((List Int) × Int × (List bzc))) => ⟨[(2, .ptr 1 0), (3, .ptr 4 0)], [(0, .box [.pure (encL 1 az3 y70.1), pz y70.2.1]), (1, .box [.vec 2, .vec 3]), (2, .nilv), (3, .nilv), (4, .box [.vec 5, .vec 6]), (5, vecO 12 az9 y18.2.2 158), (6, vecO 5 azg y70.2.2 218)], [], 7⟩)
 (fun x61 => .br (decide (x61.2.2.2 > 0))
 (.call (azd x61.1 x61.2.1 (IntKind.i64.wrap (1 + y2.1))) [(0, 0)] fun y75 =>
 .call (azd y75.2.1 y75.2.2 9000) [(0, 0)] fun y76 =>
 .call (bz3 y76.2.1 y76.2.2 3) [(0, 0)] fun y77 =>
 .call (bz3 y77.2.1 y77.2.2 2) [(0, 0)] fun y78 =>
 .conv 10016 (czw 5 azg ([(⟨y75.1, (IntKind.i64.wrap (1 + y76.1)), ((IntKind.i64.wrap (y77.1 * 32768)), 0, (IntKind.i64.wrap (y78.1 * 32768)))⟩ : bzc)] : (List bzc)) 218) <|
 .conv 10017 (hzn 5 azg x61.2.2.1 ([(⟨y75.1, (IntKind.i64.wrap (1 + y76.1)), ((IntKind.i64.wrap (y77.1 * 32768)), 0, (IntKind.i64.wrap (y78.1 * 32768)))⟩ : bzc)] : (List bzc)) 218) <|
 .grd ((x61.2.2.1.length + ([(⟨y75.1, (IntKind.i64.wrap (1 + y76.1)), ((IntKind.i64.wrap (y77.1 * 32768)), 0, (IntKind.i64.wrap (y78.1 * 32768)))⟩ : bzc)] : (List bzc)).length) * 40 ≤ 140737488355328 ∧ (x61.2.2.1.length + ([(⟨y75.1, (IntKind.i64.wrap (1 + y76.1)), ((IntKind.i64.wrap (y77.1 * 32768)), 0, (IntKind.i64.wrap (y78.1 * 32768)))⟩ : bzc)] : (List bzc)).length) ≤ maxLen) <|
 .ret (.next (y78.2.1, y78.2.2, (x61.2.2.1 ++ ([(⟨y75.1, (IntKind.i64.wrap (1 + y76.1)), ((IntKind.i64.wrap (y77.1 * 32768)), 0, (IntKind.i64.wrap (y78.1 * 32768)))⟩ : bzc)] : (List bzc))), (IntKind.i64.wrap (x61.2.2.2 - 1)))))
 (.ret (.out (x61.1, x61.2.1, x61.2.2.1))))
 (y51.2.1, y51.2.2, nl, y51.1) [] fun y70 =>
 .ret ((⟨y18.2.2, y70.2.2⟩ : azj), y70.1, y70.2.1)
noncomputable def mzb (a0 : (List Int)) (a1 : Int) : CallS (azj × (List Int) × Int) :=
  mkC [] hd Tryz.func111 (by kernel_rfl) (sz1 a0 a1) 1 [.ptr 0 0] [(0, .box [.pure (encL 1 az3 a0), pz a1])] (fun r => .pure (ez1 r.1)) (fun r => [(0, .box [.pure (encL 1 az3 r.2.1), pz r.2.2])]) (by kernel_rfl)
noncomputable def pzl (a0 : (List Int)) (a1 : Int) (a2 : (Int × Int × Int)) : T ((List (Int × Int × Int)) × (List Int) × Int) :=
 .conv 1001 (czw 3 az1 ([a2] : (List (Int × Int × Int))) 102) <|
 .call (azd a0 a1 4) [(0, 0)] fun y25 =>
 .loop (fun (x33 : ((List Int) × Int × (List (Int × Int × Int)) × Int)) => ⟨[(0, .ptr 0 0), (3, .ptr 1 0), (5, .vec 2), (6, pz x33.2.2.2)], [(0, .box [.pure (encL 1 az3 x33.1), pz x33.2.1]), (1, .box [pz a2.1, pz a2.2.1, pz a2.2.2]), (2, vecO 3 az1 x33.2.2.1 102)], [], 3⟩)
 (.exit 0) (fun (y40 : ((List Int) × Int × (List (Int × Int × Int)))) => ⟨[(5, .vec 1)], [(0, .box [.pure (encL 1 az3 y40.1), pz y40.2.1]), (1, vecO 3 az1 y40.2.2 102)], [], 2⟩)
 (fun x33 => .br (decide (x33.2.2.2 > 0))
 (.ix 0 3 rfl <|
 .call (bz3 x33.1 x33.2.1 3) [(0, 0)] fun y44 =>
 .ix 1 3 rfl <|
 .call (bz3 y44.2.1 y44.2.2 2) [(0, 0)] fun y45 =>
 .ix 2 3 rfl <|
 .call (bz3 y45.2.1 y45.2.2 2) [(0, 0)] fun y46 =>
 .conv 5020 (czw 3 az1 ([((IntKind.i64.wrap (a2.1 + (IntKind.i64.wrap (y44.1 * 32768)))), (IntKind.i64.wrap (a2.2.1 + (IntKind.i64.wrap (y45.1 * 32768)))), (IntKind.i64.wrap (a2.2.2 + (IntKind.i64.wrap (y46.1 * 32768)))))] : (List (Int × Int × Int))) 102) <|
 .conv 5021 (hzn 3 az1 x33.2.2.1 ([((IntKind.i64.wrap (a2.1 + (IntKind.i64.wrap (y44.1 * 32768)))), (IntKind.i64.wrap (a2.2.1 + (IntKind.i64.wrap (y45.1 * 32768)))), (IntKind.i64.wrap (a2.2.2 + (IntKind.i64.wrap (y46.1 * 32768)))))] : (List (Int × Int × Int))) 102) <|
 .grd ((x33.2.2.1.length + ([((IntKind.i64.wrap (a2.1 + (IntKind.i64.wrap (y44.1 * 32768)))), (IntKind.i64.wrap (a2.2.1 + (IntKind.i64.wrap (y45.1 * 32768)))), (IntKind.i64.wrap (a2.2.2 + (IntKind.i64.wrap (y46.1 * 32768)))))] : (List (Int × Int × Int))).length) * 24 ≤ 140737488355328 ∧ (x33.2.2.1.length + ([((IntKind.i64.wrap (a2.1 + (IntKind.i64.wrap (y44.1 * 32768)))), (IntKind.i64.wrap (a2.2.1 + (IntKind.i64.wrap (y45.1 * 32768)))), (IntKind.i64.wrap (a2.2.2 + (IntKind.i64.wrap (y46.1 * 32768)))))] : (List (Int × Int × Int))).length) ≤ maxLen) <|
 .ret (.next (y46.2.1, y46.2.2, (x33.2.2.1 ++ ([((IntKind.i64.wrap (a2.1 + (IntKind.i64.wrap (y44.1 * 32768)))), (IntKind.i64.wrap (a2.2.1 + (IntKind.i64.wrap (y45.1 * 32768)))), (IntKind.i64.wrap (a2.2.2 + (IntKind.i64.wrap (y46.1 * 32768)))))] : (List (Int × Int × Int)))), (IntKind.i64.wrap (x33.2.2.2 - 1)))))
 (.ret (.out (x33.1, x33.2.1, x33.2.2.1))))
 (y25.2.1, y25.2.2, ([a2] : (List (Int × Int × Int))), y25.1) [] fun y40 =>
 .ret (y40.2.2, y40.1, y40.2.1)
noncomputable def gzv (a0 : (List Int)) (a1 : Int) (a2 : (Int × Int × Int)) : CallS ((List (Int × Int × Int)) × (List Int) × Int) :=
  mkC [] hd Tryz.func112 (by kernel_rfl) (pzl a0 a1 a2) 1 [.ptr 0 0, .pure (az1 a2)] [(0, .box [.pure (encL 1 az3 a0), pz a1])] (fun r => .pure (encL 3 az1 r.1)) (fun r => [(0, .box [.pure (encL 1 az3 r.2.1), pz r.2.2])]) (by kernel_rfl)
set_option maxHeartbeats 8000000 in
set_option maxRecDepth 20000 in
noncomputable def rzy (a0 : (List Int)) : T az8 :=
 .call (iz7 a0) [] fun y2 =>
 .call (mzb y2.1 y2.2) [(0, 128)] fun y4 =>
 .loop (fun (x73 : ((List Int) × Int × (List azo) × Int)) => ⟨[(2, .ptr 0 0), (3, .ptr 5 0), (4, .ptr 6 0), (5, pz x73.2.2.2)], [(0, .box [.vec 1, .vec 2, .vec 3, .vec 4]), (1, .nilv), (2, .nilv), (3, .nilv), (4, .nilv), (5, .box [.pure (encL 1 az3 x73.1), pz x73.2.1]), (6, .box [.pure (encL 12 az9 y4.1.Joints), .pure (encL 5 azg y4.1.Masses), .vec 7, .vec 8]), (7, vecO 3 aze x73.2.2.1 170), (8, .nilv)], [], 9⟩)
 (.exit 0) (fun (y90 : ((List Int) × Int × (List azo))) => ⟨[(2, .ptr 0 0), (3, .ptr 5 0), (4, .ptr 6 0)], [(0, .box [.vec 1, .vec 2, .vec 3, .vec 4]), (1, .nilv), (2, .nilv), (3, .nilv), (4, .nilv), (5, .box [.pure (encL 1 az3 y90.1), pz y90.2.1]), (6, .box [.pure (encL 12 az9 y4.1.Joints), .pure (encL 5 azg y4.1.Masses), .vec 7, .vec 8]), (7, vecO 3 aze y90.2.2 170), (8, .nilv)], [], 9⟩)
 (fun x73 => .br (decide (x73.2.2.2 < ((y4.1.Joints.length : Nat) : Int)))
 (.cut 0 (fun (y101 : ((List Int) × Int × (List azo))) => ⟨[(2, .ptr 0 0), (3, .ptr 5 0), (4, .ptr 6 0), (5, pz x73.2.2.2)], [(0, .box [.vec 1, .vec 2, .vec 3, .vec 4]), (1, .nilv), (2, .nilv), (3, .nilv), (4, .nilv), (5, .box [.pure (encL 1 az3 y101.1), pz y101.2.1]), (6, .box [.pure (encL 12 az9 y4.1.Joints), .pure (encL 5 azg y4.1.Masses), .vec 7, .vec 8]), (7, vecO 3 aze y101.2.2 170), (8, .nilv)], [], 9⟩)
 (.call (azd x73.1 x73.2.1 5) [(0, 5)] fun y103 =>
 .br (decide (y103.1 < 4))
 (.call (azd y103.2.1 y103.2.2 3) [(0, 5)] fun y104 =>
 .ok ((8 : Int) ≠ 0) (by decide) <|
 .call (azd y104.2.1 y104.2.2 4) [(0, 5)] fun y105 =>
 .call (gzv y105.2.1 y105.2.2 ((IntKind.i64.wrap (y105.1 * 32768)), 0, 0)) [(0, 5)] fun y106 =>
 .conv 7015 (czw 3 aze ([(⟨x73.2.2.2, (IntKind.i64.wrap ((IntKind.i64.wrap ((IntKind.i64.wrap (1 + y104.1)) * 65536)).tdiv 8)), y106.1⟩ : azo)] : (List azo)) 170) <|
 .conv 7016 (hzn 3 aze x73.2.2.1 ([(⟨x73.2.2.2, (IntKind.i64.wrap ((IntKind.i64.wrap ((IntKind.i64.wrap (1 + y104.1)) * 65536)).tdiv 8)), y106.1⟩ : azo)] : (List azo)) 170) <|
 .grd ((x73.2.2.1.length + ([(⟨x73.2.2.2, (IntKind.i64.wrap ((IntKind.i64.wrap ((IntKind.i64.wrap (1 + y104.1)) * 65536)).tdiv 8)), y106.1⟩ : azo)] : (List azo)).length) * 40 ≤ 140737488355328 ∧ (x73.2.2.1.length + ([(⟨x73.2.2.2, (IntKind.i64.wrap ((IntKind.i64.wrap ((IntKind.i64.wrap (1 + y104.1)) * 65536)).tdiv 8)), y106.1⟩ : azo)] : (List azo)).length) ≤ maxLen) <|
 .ret (.out (y106.2.1, y106.2.2, (x73.2.2.1 ++ ([(⟨x73.2.2.2, (IntKind.i64.wrap ((IntKind.i64.wrap ((IntKind.i64.wrap (1 + y104.1)) * 65536)).tdiv 8)), y106.1⟩ : azo)] : (List azo))))))
 (.ret (.out (y103.2.1, y103.2.2, x73.2.2.1)))) fun y101 =>
 .ret (.next (y101.1, y101.2.1, y101.2.2, (IntKind.i64.wrap (x73.2.2.2 + 1)))))
 (.ret (.out (x73.1, x73.2.1, x73.2.2.1))))
 (y4.2.1, y4.2.2, nl, 0) [] fun y90 =>
 .call (azd y90.1 y90.2.1 3) [(0, 5)] fun y161 =>
 .loop (fun (x179 : ((List Int) × Int × (List azo) × Int)) => ⟨[(2, .ptr 0 0), (3, .ptr 5 0), (4, .ptr 6 0), (6, pz x179.2.2.2)], [(0, .box [.vec 1, .vec 2, .vec 3, .vec 4]), (1, .nilv), (2, .nilv), (3, .nilv), (4, .nilv), (5, .box [.pure (encL 1 az3 x179.1), pz x179.2.1]), (6, .box [.pure (encL 12 az9 y4.1.Joints), .pure (encL 5 azg y4.1.Masses), .vec 7, .vec 8]), (7, vecO 3 aze x179.2.2.1 170), (8, .nilv)], [], 9⟩)
 (.exit 2) (fun (y196 : ((List Int) × Int × (List azo))) => ⟨[(2, .ptr 0 0), (3, .ptr 5 0), (4, .ptr 6 0)], [(0, .box [.vec 1, .vec 2, .vec 3, .vec 4]), (1, .nilv), (2, .nilv), (3, .nilv), (4, .nilv), (5, .box [.pure (encL 1 az3 y196.1), pz y196.2.1]), (6, .box [.pure (encL 12 az9 y4.1.Joints), .pure (encL 5 azg y4.1.Masses), .vec 7, .vec 8]), (7, vecO 3 aze y196.2.2 170), (8, .nilv)], [], 9⟩)
 (fun x179 => .br (decide (x179.2.2.2 > 0))
 (.call (bz3 x179.1 x179.2.1 9) [(0, 5)] fun y208 =>
 .call (bz3 y208.2.1 y208.2.2 9) [(0, 5)] fun y209 =>
 .call (bz3 y209.2.1 y209.2.2 2) [(0, 5)] fun y210 =>
 .call (azd y210.2.1 y210.2.2 4) [(0, 5)] fun y211 =>
 .ok ((8 : Int) ≠ 0) (by decide) <|
 .call (gzv y211.2.1 y211.2.2 ((IntKind.i64.wrap (y208.1 * 32768)), (IntKind.i64.wrap (y209.1 * 32768)), (IntKind.i64.wrap (y210.1 * 32768)))) [(0, 5)] fun y212 =>
 .conv 12011 (czw 3 aze ([(⟨(-1), (IntKind.i64.wrap ((IntKind.i64.wrap ((IntKind.i64.wrap (1 + y211.1)) * 65536)).tdiv 8)), y212.1⟩ : azo)] : (List azo)) 170) <|
 .conv 12012 (hzn 3 aze x179.2.2.1 ([(⟨(-1), (IntKind.i64.wrap ((IntKind.i64.wrap ((IntKind.i64.wrap (1 + y211.1)) * 65536)).tdiv 8)), y212.1⟩ : azo)] : (List azo)) 170) <|
 .grd ((x179.2.2.1.length + ([(⟨(-1), (IntKind.i64.wrap ((IntKind.i64.wrap ((IntKind.i64.wrap (1 + y211.1)) * 65536)).tdiv 8)), y212.1⟩ : azo)] : (List azo)).length) * 40 ≤ 140737488355328 ∧ (x179.2.2.1.length + ([(⟨(-1), (IntKind.i64.wrap ((IntKind.i64.wrap ((IntKind.i64.wrap (1 + y211.1)) * 65536)).tdiv 8)), y212.1⟩ : azo)] : (List azo)).length) ≤ maxLen) <|
 .ret (.next (y212.2.1, y212.2.2, (x179.2.2.1 ++ ([(⟨(-1), (IntKind.i64.wrap ((IntKind.i64.wrap ((IntKind.i64.wrap (1 + y211.1)) * 65536)).tdiv 8)), y212.1⟩ : azo)] : (List azo))), (IntKind.i64.wrap (x179.2.2.2 - 1)))))
 (.ret (.out (x179.1, x179.2.1, x179.2.2.1))))
 (y161.2.1, y161.2.2, y90.2.2, (IntKind.i64.wrap (1 + y161.1))) [] fun y196 =>
 .cut 0 (fun (y219 : (List gz4)) => ⟨[(2, .ptr 0 0), (4, .ptr 5 0)], [(0, .box [.vec 1, .vec 2, .vec 3, .vec 4]), (1, .nilv), (2, .nilv), (3, .nilv), (4, .nilv), (5, .box [.pure (encL 12 az9 y4.1.Joints), .pure (encL 5 azg y4.1.Masses), .vec 6, .vec 7]), (6, vecO 3 aze y196.2.2 170), (7, vecO 2 azn y219 173)], [], 8⟩)
 (.call (azd y196.1 y196.2.1 5) [(0, 5)] fun y221 =>
 .br (y221.1 == 1)
 (.call (azd y221.2.1 y221.2.2 ((y4.1.Joints.length : Nat) : Int)) [(0, 5)] fun y222 =>
 .conv 14009 (czw 2 azn ([(⟨(-1), y222.1⟩ : gz4)] : (List gz4)) 173) <|
 .grd (([(⟨(-1), y222.1⟩ : gz4)] : (List gz4)).length * 16 ≤ 140737488355328 ∧ ([(⟨(-1), y222.1⟩ : gz4)] : (List gz4)).length ≤ maxLen) <|
 .ret (.out ([(⟨(-1), y222.1⟩ : gz4)] : (List gz4))))
 (.ret (.out nl))) fun y219 =>
 .ret (⟨(⟨y4.1.Joints, y4.1.Masses⟩ : azj), y196.2.2, y219⟩ : az8)
noncomputable def rzx (a0 : (List Int)) : CallS az8 :=
  mkC [] hd Tryz.func46 (by kernel_rfl) (rzy a0) 0 [.pure (encL 1 az3 a0)] [] (fun r => .pure (bzm r)) (fun _ => []) (by kernel_rfl)
noncomputable def pzi (a0 : azj) (a1 : (List Int)) : T (List Int) :=
 .call (iz7 a1) [] fun y103 =>
 .loop (fun (x172 : ((List Int) × Int × (List Int) × Int)) => ⟨[(2, .ptr 0 0), (5, .ptr 1 0), (6, .vec 2), (7, pz x172.2.2.2)], [(0, .box [.pure (encL 12 az9 a0.Joints), .pure (encL 5 azg a0.Masses)]), (1, .box [.pure (encL 1 az3 x172.1), pz x172.2.1]), (2, vecO 1 az3 x172.2.2.1 2)], [], 3⟩)
 (.exit 0) (fun (y189 : (List Int)) => ⟨[(6, .vec 0)], [(0, vecO 1 az3 y189 2)], [], 1⟩)
 (fun x172 => .br (decide (x172.2.2.2 < ((a0.Joints.length : Nat) : Int)))
 (.cut 0 (fun (y200 : ((List Int) × Int × (List Int))) => ⟨[(2, .ptr 0 0), (5, .ptr 1 0), (6, .vec 2), (7, pz x172.2.2.2)], [(0, .box [.pure (encL 12 az9 a0.Joints), .pure (encL 5 azg a0.Masses)]), (1, .box [.pure (encL 1 az3 y200.1), pz y200.2.1]), (2, vecO 1 az3 y200.2.2 2)], [], 3⟩)
 (.grd (0 ≤ x172.2.2.2 ∧ x172.2.2.2 < ((a0.Joints.length : Nat) : Int)) <|
 .grd (0 ≤ x172.2.2.2 ∧ x172.2.2.2 < ((a0.Joints.length : Nat) : Int)) <|
 .call (azd x172.1 x172.2.1 6) [(0, 1)] fun y202 =>
 .br (y202.1 == 0)
 (.conv 10002 (czw 1 az3 ([(a0.Joints.getD ((x172.2.2.2).toNat) default).Lo] : (List Int)) 2) <|
 .conv 10003 (hzn 1 az3 x172.2.2.1 ([(a0.Joints.getD ((x172.2.2.2).toNat) default).Lo] : (List Int)) 2) <|
 .grd ((x172.2.2.1.length + ([(a0.Joints.getD ((x172.2.2.2).toNat) default).Lo] : (List Int)).length) * 8 ≤ 140737488355328 ∧ (x172.2.2.1.length + ([(a0.Joints.getD ((x172.2.2.2).toNat) default).Lo] : (List Int)).length) ≤ maxLen) <|
 .ret (.out (y202.2.1, y202.2.2, (x172.2.2.1 ++ ([(a0.Joints.getD ((x172.2.2.2).toNat) default).Lo] : (List Int))))))
 (.br (y202.1 == 1)
 (.conv 12002 (czw 1 az3 ([(a0.Joints.getD ((x172.2.2.2).toNat) default).Hi] : (List Int)) 2) <|
 .conv 12003 (hzn 1 az3 x172.2.2.1 ([(a0.Joints.getD ((x172.2.2.2).toNat) default).Hi] : (List Int)) 2) <|
 .grd ((x172.2.2.1.length + ([(a0.Joints.getD ((x172.2.2.2).toNat) default).Hi] : (List Int)).length) * 8 ≤ 140737488355328 ∧ (x172.2.2.1.length + ([(a0.Joints.getD ((x172.2.2.2).toNat) default).Hi] : (List Int)).length) ≤ maxLen) <|
 .ret (.out (y202.2.1, y202.2.2, (x172.2.2.1 ++ ([(a0.Joints.getD ((x172.2.2.2).toNat) default).Hi] : (List Int))))))
 (.name 8005 ((IntKind.i64.wrap (((a0.Joints.getD ((x172.2.2.2).toNat) default).Hi) - ((a0.Joints.getD ((x172.2.2.2).toNat) default).Lo)))) fun z203 =>
 .name 8006 ((IntKind.i64.wrap (z203 + 1))) fun z204 =>
 .call (azd y202.2.1 y202.2.2 z204) [(0, 1)] fun y205 =>
 .conv 8009 (czw 1 az3 ([(IntKind.i64.wrap (((a0.Joints.getD ((x172.2.2.2).toNat) default).Lo) + y205.1))] : (List Int)) 2) <|
 .conv 8010 (hzn 1 az3 x172.2.2.1 ([(IntKind.i64.wrap (((a0.Joints.getD ((x172.2.2.2).toNat) default).Lo) + y205.1))] : (List Int)) 2) <|
 .grd ((x172.2.2.1.length + ([(IntKind.i64.wrap (((a0.Joints.getD ((x172.2.2.2).toNat) default).Lo) + y205.1))] : (List Int)).length) * 8 ≤ 140737488355328 ∧ (x172.2.2.1.length + ([(IntKind.i64.wrap (((a0.Joints.getD ((x172.2.2.2).toNat) default).Lo) + y205.1))] : (List Int)).length) ≤ maxLen) <|
 .ret (.out (y205.2.1, y205.2.2, (x172.2.2.1 ++ ([(IntKind.i64.wrap (((a0.Joints.getD ((x172.2.2.2).toNat) default).Lo) + y205.1))] : (List Int)))))))) fun y200 =>
 .ret (.next (y200.1, y200.2.1, y200.2.2, (IntKind.i64.wrap (x172.2.2.2 + 1)))))
 (.ret (.out x172.2.2.1)))
 (y103.1, y103.2, nl, 0) [] fun y189 =>
 .ret y189
noncomputable def kzp (a0 : azj) (a1 : (List Int)) : CallS (List Int) :=
  mkC [] hd Tryz.func47 (by kernel_rfl) (pzi a0 a1) 0 [.pure (ez1 a0), .pure (encL 1 az3 a1)] [] (fun _ => .vec 0) (fun r => [(0, vecO 1 az3 r 2)]) (by kernel_rfl)
noncomputable def kzd (a0 : Int) : T Bool :=
 .br (decide (97 ≤ a0))
 (.ret (decide (a0 ≤ 122)))
 (.ret false)
noncomputable def qzu (a0 : Int) : CallS Bool :=
  mkC [] hd Tryz.func239 (by kernel_rfl) (kzd a0) 0 [.pure (.int .i32 a0)] [] (fun r => .pure (.bool r)) (fun _ => []) (by kernel_rfl)
noncomputable def lzw (a0 : Int) : T Bool :=
 .br (decide (48 ≤ a0))
 (.ret (decide (a0 ≤ 57)))
 (.ret false)
noncomputable def tz4 (a0 : Int) : CallS Bool :=
  mkC [] hd Tryz.func240 (by kernel_rfl) (lzw a0) 0 [.pure (.int .i32 a0)] [] (fun r => .pure (.bool r)) (fun _ => []) (by kernel_rfl)
noncomputable def tz3 (a0 : ByteArray) : T Bool :=
 .cut 2 (fun (y2 : Bool) => ⟨[(0, .pure (.str a0)), (16, .pure (.bool y2))], [], [], 0⟩)
 (.br (((a0.size : Nat) : Int) == 0)
 (.ret (.out true))
 (.br (decide (((a0.size : Nat) : Int) > 16))
 (.ret (.out true))
 (.ret (.out (a0 == (⟨#[119, 111, 114, 108, 100]⟩ : ByteArray)))))) fun y2 =>
 .br y2
 (.ret false)
 (.loop (fun (x35 : Nat) => ⟨[(18, .ptr 0 0)], [(0, .iter a0 x35)], [], 1⟩)
 (.exit 0) (fun (_ : U0) => ⟨[], [], [], 0⟩)
 (fun x35 => .brP (x35 < a0.size)
 (.cut 2 (fun (y48 : Bool) => ⟨[(18, .ptr 0 0), (38, .pure (.bool y48))], [(0, .iter a0 (x35 + (Utf8.decode a0 x35).2))], [], 1⟩)
 (.call (qzu ((Utf8.decode a0 x35).1 : Int)) [] fun y49 =>
 .br (!y49)
 (.br (((x35 : Nat) : Int) == 0)
 (.ret (.out true))
 (.call (tz4 ((Utf8.decode a0 x35).1 : Int)) [] fun y50 =>
 .br (!y50)
 (.ret (.out (((Utf8.decode a0 x35).1 : Int) != 95)))
 (.ret (.out false))))
 (.ret (.out false))) fun y48 =>
 .br y48
 (.ret (.fin false))
 (.ret (.next (x35 + (Utf8.decode a0 x35).2))))
 (.ret (.out .u)))
 0 [] fun _ =>
 .ret true)
noncomputable def yzk (a0 : ByteArray) : CallS Bool :=
  mkC [] hd Tryz.func207 (by kernel_rfl) (tz3 a0) 0 [.pure (.str a0)] [] (fun r => .pure (.bool r)) (fun _ => []) (by kernel_rfl)
noncomputable def szn (a0 : azj) (a1 : ByteArray) : T Int :=
 .loop (fun (x5 : Int) => ⟨[(1, .pure (.str a1)), (2, .ptr 0 0), (8, pz ((a0.Joints.length : Nat) : Int)), (9, pz x5)], [(0, .box [.pure (encL 12 az9 a0.Joints), .pure (encL 5 azg a0.Masses)])], [], 1⟩)
 (.exit 0) (fun (_ : U0) => ⟨[], [], [], 0⟩)
 (fun x5 => .br (decide (x5 < ((a0.Joints.length : Nat) : Int)))
 (.grd (0 ≤ x5 ∧ x5 < ((a0.Joints.length : Nat) : Int)) <|
 .br (((a0.Joints.getD ((x5).toNat) default).Name) == a1)
 (.ret (.fin x5))
 (.ret (.next (IntKind.i64.wrap (x5 + 1)))))
 (.ret (.out .u)))
 0 [] fun _ =>
 .ret (-1)
noncomputable def yzh (a0 : azj) (a1 : ByteArray) : CallS Int :=
  mkC [] hd Tryz.func208 (by kernel_rfl) (szn a0 a1) 0 [.pure (ez1 a0), .pure (.str a1)] [] (fun r => pz r) (fun _ => []) (by kernel_rfl)
noncomputable def nzx (a0 : (Int × Int × Int)) : T Bool :=
 .loop (fun (x13 : Int) => ⟨[(5, .pure (az1 a0)), (6, pz x13)], [], [], 0⟩)
 (.exit 0) (fun (_ : U0) => ⟨[], [], [], 0⟩)
 (fun x13 => .br (decide (x13 < 3))
 (.grd (0 ≤ x13 ∧ x13 < ((3 : Nat) : Int)) <|
 .cut 0 (fun (y18 : Bool) => ⟨[(5, .pure (az1 a0)), (6, pz x13), (14, .pure (.bool y18))], [], [], 0⟩)
 (.br (decide ((([a0.1, a0.2.1, a0.2.2] : List Int).getD (x13).toNat 0) < (-4194304)))
 (.ret (.out true))
 (.ret (.out (decide ((([a0.1, a0.2.1, a0.2.2] : List Int).getD (x13).toNat 0) > 4194304))))) fun y18 =>
 .br y18
 (.ret (.fin true))
 (.ret (.next (IntKind.i64.wrap (x13 + 1)))))
 (.ret (.out .u)))
 0 [] fun _ =>
 .ret false
noncomputable def nzw (a0 : (Int × Int × Int)) : CallS Bool :=
  mkC [] hd Tryz.func209 (by kernel_rfl) (nzx a0) 0 [.pure (az1 a0)] [] (fun r => .pure (.bool r)) (fun _ => []) (by kernel_rfl)
noncomputable def pzy (a0 : Int) : T Int :=
 .cut 3 (fun (y3 : Bool) => ⟨[(3, pz a0), (4, .pure (.bool y3))], [], [], 0⟩)
 (.br (a0 == 1)
 (.ret (.out (a0 == 1)))
 (.br (a0 == 2)
 (.ret (.out (a0 == 2)))
 (.ret (.out (a0 == 3))))) fun y3 =>
 .br y3
 (.ret 524288)
 (.cut 0 (fun (y4 : Bool) => ⟨[(8, .pure (.bool y4))], [], [], 0⟩)
 (.br (a0 == 4)
 (.ret (.out (a0 == 4)))
 (.br (a0 == 5)
 (.ret (.out (a0 == 5)))
 (.ret (.out (a0 == 6))))) fun y4 =>
 .br y4
 (.ret 4194304)
 (.ret 0))
noncomputable def wz8 (a0 : Int) : CallS Int :=
  mkC [] hd Tryz.func210 (by kernel_rfl) (pzy a0) 0 [pz a0] [] (fun r => pz r) (fun _ => []) (by kernel_rfl)
noncomputable def pzx (a0 : Int) (a1 : Int) : T Bool :=
 .br (decide (1 ≤ a0))
 (.ret (decide (a0 ≤ a1)))
 (.ret false)
noncomputable def fz8 (a0 : Int) (a1 : Int) : CallS Bool :=
  mkC [] hd Tryz.func211 (by kernel_rfl) (pzx a0 a1) 0 [pz a0, pz a1] [] (fun r => .pure (.bool r)) (fun _ => []) (by kernel_rfl)
noncomputable def hze (a0 : azj) (a1 : Int) : T Int :=
 .grd (0 ≤ a1 ∧ a1 < ((a0.Joints.length : Nat) : Int)) <|
 .cut 1 (fun (y16 : Bool) => ⟨[(1, pz a1), (5, .ptr 0 0), (12, .pure (.bool y16))], [(0, .box [.pure (.str ((a0.Joints.getD ((a1).toNat) default).Name)), pz ((a0.Joints.getD ((a1).toNat) default).Kind), pz ((a0.Joints.getD ((a1).toNat) default).Parent), pz ((a0.Joints.getD ((a1).toNat) default).Offset.1), pz ((a0.Joints.getD ((a1).toNat) default).Offset.2.1), pz ((a0.Joints.getD ((a1).toNat) default).Offset.2.2), pz ((a0.Joints.getD ((a1).toNat) default).Lo), pz ((a0.Joints.getD ((a1).toNat) default).Hi), pz ((a0.Joints.getD ((a1).toNat) default).Weight), pz ((a0.Joints.getD ((a1).toNat) default).Speed), pz ((a0.Joints.getD ((a1).toNat) default).Accel), pz ((a0.Joints.getD ((a1).toNat) default).Torque)])], [], 1⟩)
 (.call (yzk ((a0.Joints.getD ((a1).toNat) default).Name)) [] fun y17 =>
 .br (!y17)
 (.ret (.out true))
 (.call (yzh (⟨a0.Joints, a0.Masses⟩ : azj) ((a0.Joints.getD ((a1).toNat) default).Name)) [] fun y18 =>
 .ret (.out (y18 != a1)))) fun y16 =>
 .br y16
 (.ret 802)
 (.cut 0 (fun (y19 : Bool) => ⟨[(1, pz a1), (5, .ptr 0 0), (25, .pure (.bool y19))], [(0, .box [.pure (.str ((a0.Joints.getD ((a1).toNat) default).Name)), pz ((a0.Joints.getD ((a1).toNat) default).Kind), pz ((a0.Joints.getD ((a1).toNat) default).Parent), pz ((a0.Joints.getD ((a1).toNat) default).Offset.1), pz ((a0.Joints.getD ((a1).toNat) default).Offset.2.1), pz ((a0.Joints.getD ((a1).toNat) default).Offset.2.2), pz ((a0.Joints.getD ((a1).toNat) default).Lo), pz ((a0.Joints.getD ((a1).toNat) default).Hi), pz ((a0.Joints.getD ((a1).toNat) default).Weight), pz ((a0.Joints.getD ((a1).toNat) default).Speed), pz ((a0.Joints.getD ((a1).toNat) default).Accel), pz ((a0.Joints.getD ((a1).toNat) default).Torque)])], [], 1⟩)
 (.br (decide (((a0.Joints.getD ((a1).toNat) default).Kind) < 0))
 (.ret (.out true))
 (.ret (.out (decide (((a0.Joints.getD ((a1).toNat) default).Kind) > 6))))) fun y19 =>
 .br y19
 (.ret 803)
 (.cut 0 (fun (y20 : Bool) => ⟨[(5, .ptr 0 0), (34, .pure (.bool y20))], [(0, .box [.pure (.str ((a0.Joints.getD ((a1).toNat) default).Name)), pz ((a0.Joints.getD ((a1).toNat) default).Kind), pz ((a0.Joints.getD ((a1).toNat) default).Parent), pz ((a0.Joints.getD ((a1).toNat) default).Offset.1), pz ((a0.Joints.getD ((a1).toNat) default).Offset.2.1), pz ((a0.Joints.getD ((a1).toNat) default).Offset.2.2), pz ((a0.Joints.getD ((a1).toNat) default).Lo), pz ((a0.Joints.getD ((a1).toNat) default).Hi), pz ((a0.Joints.getD ((a1).toNat) default).Weight), pz ((a0.Joints.getD ((a1).toNat) default).Speed), pz ((a0.Joints.getD ((a1).toNat) default).Accel), pz ((a0.Joints.getD ((a1).toNat) default).Torque)])], [], 1⟩)
 (.br (decide (((a0.Joints.getD ((a1).toNat) default).Parent) < (-1)))
 (.ret (.out true))
 (.ret (.out (decide (((a0.Joints.getD ((a1).toNat) default).Parent) ≥ a1))))) fun y20 =>
 .br y20
 (.ret 804)
 (.call (nzw ((a0.Joints.getD ((a1).toNat) default).Offset)) [] fun y22 =>
 .br y22
 (.ret 805)
 (.call (wz8 ((a0.Joints.getD ((a1).toNat) default).Kind)) [] fun y24 =>
 .cut 1 (fun (y26 : Bool) => ⟨[(5, .ptr 0 0), (68, .pure (.bool y26))], [(0, .box [.pure (.str ((a0.Joints.getD ((a1).toNat) default).Name)), pz ((a0.Joints.getD ((a1).toNat) default).Kind), pz ((a0.Joints.getD ((a1).toNat) default).Parent), pz ((a0.Joints.getD ((a1).toNat) default).Offset.1), pz ((a0.Joints.getD ((a1).toNat) default).Offset.2.1), pz ((a0.Joints.getD ((a1).toNat) default).Offset.2.2), pz ((a0.Joints.getD ((a1).toNat) default).Lo), pz ((a0.Joints.getD ((a1).toNat) default).Hi), pz ((a0.Joints.getD ((a1).toNat) default).Weight), pz ((a0.Joints.getD ((a1).toNat) default).Speed), pz ((a0.Joints.getD ((a1).toNat) default).Accel), pz ((a0.Joints.getD ((a1).toNat) default).Torque)])], [], 1⟩)
 (.br (decide (((a0.Joints.getD ((a1).toNat) default).Lo) > ((a0.Joints.getD ((a1).toNat) default).Hi)))
 (.ret (.out true))
 (.br (decide (((a0.Joints.getD ((a1).toNat) default).Lo) < (IntKind.i64.wrap (0 - y24))))
 (.ret (.out true))
 (.ret (.out (decide (((a0.Joints.getD ((a1).toNat) default).Hi) > y24)))))) fun y26 =>
 .br y26
 (.ret 806)
 (.cut 1 (fun (y48 : Bool) => ⟨[(90, .pure (.bool y48))], [], [], 0⟩)
 (.call (fz8 ((a0.Joints.getD ((a1).toNat) default).Weight) 1024) [] fun y49 =>
 .br (!y49)
 (.ret (.out true))
 (.call (fz8 ((a0.Joints.getD ((a1).toNat) default).Speed) 1048576) [] fun y50 =>
 .br (!y50)
 (.ret (.out true))
 (.call (fz8 ((a0.Joints.getD ((a1).toNat) default).Accel) 1048576) [] fun y51 =>
 .br (!y51)
 (.ret (.out true))
 (.call (fz8 ((a0.Joints.getD ((a1).toNat) default).Torque) 1099511627776) [] fun y52 =>
 .ret (.out (!y52)))))) fun y48 =>
 .br y48
 (.ret 807)
 (.ret 0))))))
noncomputable def mzj (a0 : azj) (a1 : Int) : CallS Int :=
  mkC [] hd Tryz.func161 (by kernel_rfl) (hze a0 a1) 0 [.pure (ez1 a0), pz a1] [] (fun r => pz r) (fun _ => []) (by kernel_rfl)
noncomputable def izk (a0 : azj) (a1 : bzc) : T Bool :=
 .br (decide (0 ≤ a1.Link))
 (.br (decide (a1.Link < ((a0.Joints.length : Nat) : Int)))
 (.call (fz8 a1.Mass 65536) [] fun y1 =>
 .br y1
 (.call (nzw a1.Point) [] fun y2 =>
 .ret (!y2))
 (.ret false))
 (.ret false))
 (.ret false)
noncomputable def ozl (a0 : azj) (a1 : bzc) : CallS Bool :=
  mkC [] hd Tryz.func164 (by kernel_rfl) (izk a0 a1) 0 [.pure (ez1 a0), .pure (azg a1)] [] (fun r => .pure (.bool r)) (fun _ => []) (by kernel_rfl)
noncomputable def lzr (a0 : bzc) (a1 : (List azk)) (a2 : (List bzc)) : T (Bool × (List azk) × (List bzc)) :=
 .call (ozl (⟨a1, a2⟩ : azj) (⟨a0.Link, a0.Mass, a0.Point⟩ : bzc)) [] fun y1 =>
 .ret ((!y1), a1, a2)
noncomputable def szm (a0 : bzc) (a1 : (List azk)) (a2 : (List bzc)) : CallS (Bool × (List azk) × (List bzc)) :=
  mkC [] hd Tryz.func163 (by kernel_rfl) (lzr a0 a1 a2) 1 [.pure (azg a0), .ptr 0 0] [(0, .box [.pure (encL 12 az9 a1), .pure (encL 5 azg a2)])] (fun r => .pure (.bool r.1)) (fun r => [(0, .box [.pure (encL 12 az9 r.2.1), .pure (encL 5 azg r.2.2)])]) (by kernel_rfl)
noncomputable def bzy (a0 : (List bzc)) (a1 : (List azk)) (a2 : (List bzc)) : T (Int × (List azk) × (List bzc)) :=
 .loop (fun (x21 : ((List azk) × (List bzc) × Int)) => ⟨[(0, .pure (encL 5 azg a0)), (1, .func 163 [] [.ptr 0 0]), (7, pz ((a0.length : Nat) : Int)), (8, pz x21.2.2)], [(0, .box [.pure (encL 12 az9 x21.1), .pure (encL 5 azg x21.2.1)])], [], 1⟩)
 (.exit 0) (fun (y26 : ((List azk) × (List bzc))) => ⟨[], [(0, .box [.pure (encL 12 az9 y26.1), .pure (encL 5 azg y26.2)])], [], 1⟩)
 (fun x21 => .br (decide (x21.2.2 < ((a0.length : Nat) : Int)))
 (.grd (0 ≤ x21.2.2 ∧ x21.2.2 < ((a0.length : Nat) : Int)) <|
 .call (szm (a0.getD ((x21.2.2).toNat) default) x21.1 x21.2.1) [(0, 0)] fun y30 =>
 .br y30.1
 (.ret (.fin (x21.2.2, y30.2.1, y30.2.2)))
 (.ret (.next (y30.2.1, y30.2.2, (IntKind.i64.wrap (x21.2.2 + 1))))))
 (.ret (.out (x21.1, x21.2.1))))
 (a1, a2, 0) [] fun y26 =>
 .ret ((-1), y26.1, y26.2)
noncomputable def dz6 (a0 : (List bzc)) (a1 : (List azk)) (a2 : (List bzc)) : CallS (Int × (List azk) × (List bzc)) :=
  mkC [] hd Tryz.func212 (by kernel_rfl) (bzy a0 a1 a2) 1 [.pure (encL 5 azg a0), .func 163 [] [.ptr 0 0]] [(0, .box [.pure (encL 12 az9 a1), .pure (encL 5 azg a2)])] (fun r => pz r.1) (fun r => [(0, .box [.pure (encL 12 az9 r.2.1), .pure (encL 5 azg r.2.2)])]) (by kernel_rfl)
noncomputable def bzn (a0 : (List bzc)) (a1 : (List azk)) (a2 : (List bzc)) : T (Bool × (List azk) × (List bzc)) :=
 .call (dz6 a0 a1 a2) [(0, 0)] fun y1 =>
 .ret ((decide (y1.1 ≥ 0)), y1.2.1, y1.2.2)
noncomputable def czq (a0 : (List bzc)) (a1 : (List azk)) (a2 : (List bzc)) : CallS (Bool × (List azk) × (List bzc)) :=
  mkC [] hd Tryz.func162 (by kernel_rfl) (bzn a0 a1 a2) 1 [.pure (encL 5 azg a0), .func 163 [] [.ptr 0 0]] [(0, .box [.pure (encL 12 az9 a1), .pure (encL 5 azg a2)])] (fun r => .pure (.bool r.1)) (fun r => [(0, .box [.pure (encL 12 az9 r.2.1), .pure (encL 5 azg r.2.2)])]) (by kernel_rfl)
noncomputable def pzv (a0 : azj) : T Int :=
 .cut 2 (fun (y2 : Bool) => ⟨[(1, .ptr 0 0), (14, .pure (.bool y2))], [(0, .box [.pure (encL 12 az9 a0.Joints), .pure (encL 5 azg a0.Masses)])], [], 1⟩)
 (.br (((a0.Joints.length : Nat) : Int) == 0)
 (.ret (.out true))
 (.ret (.out (decide (((a0.Joints.length : Nat) : Int) > 10))))) fun y2 =>
 .br y2
 (.ret 801)
 (.loop (fun (x23 : Int) => ⟨[(1, .ptr 0 0), (17, pz ((a0.Joints.length : Nat) : Int)), (18, pz x23)], [(0, .box [.pure (encL 12 az9 a0.Joints), .pure (encL 5 azg a0.Masses)])], [], 1⟩)
 (.exit 0) (fun (_ : U0) => ⟨[(1, .ptr 0 0)], [(0, .box [.pure (encL 12 az9 a0.Joints), .pure (encL 5 azg a0.Masses)])], [], 1⟩)
 (fun x23 => .br (decide (x23 < ((a0.Joints.length : Nat) : Int)))
 (.call (mzj (⟨a0.Joints, a0.Masses⟩ : azj) x23) [] fun y32 =>
 .br (y32 != 0)
 (.ret (.fin y32))
 (.ret (.next (IntKind.i64.wrap (x23 + 1)))))
 (.ret (.out .u)))
 0 [] fun _ =>
 .cut 1 (fun (y39 : Bool) => ⟨[(37, .pure (.bool y39))], [], [], 0⟩)
 (.br (decide (((a0.Masses.length : Nat) : Int) > 32))
 (.ret (.out true))
 (.call (czq a0.Masses a0.Joints a0.Masses) [(0, 0)] fun y40 =>
 .ret (.out y40.1))) fun y39 =>
 .br y39
 (.ret 808)
 (.ret 0))
noncomputable def kzs (a0 : azj) : CallS Int :=
  mkC [] hd Tryz.func114 (by kernel_rfl) (pzv a0) 0 [.pure (ez1 a0)] [] (fun r => pz r) (fun _ => []) (by kernel_rfl)
noncomputable def nzy (a0 : az8) (a1 : Int) : T Bool :=
 .br (decide ((-1) ≤ a1))
 (.ret (decide (a1 < ((a0.Robot.Joints.length : Nat) : Int))))
 (.ret false)
noncomputable def jz4 (a0 : az8) (a1 : Int) : CallS Bool :=
  mkC [] hd Tryz.func116 (by kernel_rfl) (nzy a0 a1) 0 [.pure (bzm a0), pz a1] [] (fun r => .pure (.bool r)) (fun _ => []) (by kernel_rfl)
noncomputable def hzh (a0 : az8) (a1 : azo) : T Int :=
 .cut 3 (fun (y269 : Bool) => ⟨[(3, .ptr 0 0), (35, .pure (.bool y269))], [(0, .box [pz a1.Link, pz a1.Radius, .pure (encL 3 az1 a1.Points)])], [], 1⟩)
 (.call (jz4 a0 a1.Link) [] fun y270 =>
 .br (!y270)
 (.ret (.out true))
 (.br (decide (a1.Radius < 1))
 (.ret (.out true))
 (.br (decide (a1.Radius > 1048576))
 (.ret (.out true))
 (.br (decide (((a1.Points.length : Nat) : Int) < 1))
 (.ret (.out true))
 (.ret (.out (decide (((a1.Points.length : Nat) : Int) > 8)))))))) fun y269 =>
 .br y269
 (.ret 902)
 (.loop (fun (x443 : Int) => ⟨[(37, .pure (encL 3 az1 a1.Points)), (38, pz ((a1.Points.length : Nat) : Int)), (39, pz x443)], [], [], 0⟩)
 (.exit 0) (fun (_ : U0) => ⟨[], [], [], 0⟩)
 (fun x443 => .br (decide (x443 < ((a1.Points.length : Nat) : Int)))
 (.grd (0 ≤ x443 ∧ x443 < ((a1.Points.length : Nat) : Int)) <|
 .loop (fun (x515 : Int) => ⟨[(37, .pure (encL 3 az1 a1.Points)), (38, pz ((a1.Points.length : Nat) : Int)), (39, pz x443), (43, .pure (az1 (a1.Points.getD ((x443).toNat) default))), (44, pz x515)], [], [], 0⟩)
 (.exit 2) (fun (_ : U0) => ⟨[(37, .pure (encL 3 az1 a1.Points)), (38, pz ((a1.Points.length : Nat) : Int)), (39, pz x443)], [], [], 0⟩)
 (fun x515 => .br (decide (x515 < 3))
 (.grd (0 ≤ x515 ∧ x515 < ((3 : Nat) : Int)) <|
 .name 9000 ((([(a1.Points.getD ((x443).toNat) default).1, (a1.Points.getD ((x443).toNat) default).2.1, (a1.Points.getD ((x443).toNat) default).2.2] : List Int).getD (x515).toNat 0)) fun z527 =>
 .cut 0 (fun (y528 : Bool) => ⟨[(37, .pure (encL 3 az1 a1.Points)), (38, pz ((a1.Points.length : Nat) : Int)), (39, pz x443), (43, .pure (az1 (a1.Points.getD ((x443).toNat) default))), (44, pz x515), (52, .pure (.bool y528))], [], [], 0⟩)
 (.br (decide (z527 < (-4194304)))
 (.ret (.out true))
 (.ret (.out (decide (z527 > 4194304))))) fun y528 =>
 .br y528
 (.ret (.fin (.fin 805)))
 (.ret (.next (IntKind.i64.wrap (x515 + 1)))))
 (.ret (.out .u)))
 0 [] fun _ =>
 .ret (.next (IntKind.i64.wrap (x443 + 1))))
 (.ret (.out .u)))
 0 [] fun _ =>
 .ret 0)
noncomputable def mzl (a0 : az8) (a1 : azo) : CallS Int :=
  mkC [] hd Tryz.func115 (by kernel_rfl) (hzh a0 a1) 0 [.pure (bzm a0), .pure (aze a1)] [] (fun r => pz r) (fun _ => []) (by kernel_rfl)
noncomputable def pzz (a0 : az8) : T Int :=
 .call (kzs a0.Robot) [] fun y4 =>
 .br (y4 != 0)
 (.ret y4)
 (.br (decide (((a0.Shapes.length : Nat) : Int) > 24))
 (.ret 901)
 (.loop (fun (x25 : Int) => ⟨[(1, .ptr 0 0), (20, .pure (encL 3 aze a0.Shapes)), (21, pz ((a0.Shapes.length : Nat) : Int)), (22, pz x25)], [(0, .box [.pure (encL 12 az9 a0.Robot.Joints), .pure (encL 5 azg a0.Robot.Masses), .pure (encL 3 aze a0.Shapes), .pure (encL 2 azn a0.Skips)])], [], 1⟩)
 (.exit 0) (fun (_ : U0) => ⟨[(1, .ptr 0 0)], [(0, .box [.pure (encL 12 az9 a0.Robot.Joints), .pure (encL 5 azg a0.Robot.Masses), .pure (encL 3 aze a0.Shapes), .pure (encL 2 azn a0.Skips)])], [], 1⟩)
 (fun x25 => .br (decide (x25 < ((a0.Shapes.length : Nat) : Int)))
 (.grd (0 ≤ x25 ∧ x25 < ((a0.Shapes.length : Nat) : Int)) <|
 .call (mzl a0 (a0.Shapes.getD ((x25).toNat) default)) [] fun y34 =>
 .br (y34 != 0)
 (.ret (.fin y34))
 (.ret (.next (IntKind.i64.wrap (x25 + 1)))))
 (.ret (.out .u)))
 0 [] fun _ =>
 .br (decide (((a0.Skips.length : Nat) : Int) > 64))
 (.ret 903)
 (.loop (fun (x95 : Int) => ⟨[(1, .ptr 0 0), (38, .pure (encL 2 azn a0.Skips)), (39, pz ((a0.Skips.length : Nat) : Int)), (40, pz x95)], [(0, .box [.pure (encL 12 az9 a0.Robot.Joints), .pure (encL 5 azg a0.Robot.Masses), .pure (encL 3 aze a0.Shapes), .pure (encL 2 azn a0.Skips)])], [], 1⟩)
 (.exit 2) (fun (_ : U0) => ⟨[], [], [], 0⟩)
 (fun x95 => .br (decide (x95 < ((a0.Skips.length : Nat) : Int)))
 (.grd (0 ≤ x95 ∧ x95 < ((a0.Skips.length : Nat) : Int)) <|
 .cut 0 (fun (y122 : Bool) => ⟨[(1, .ptr 0 0), (38, .pure (encL 2 azn a0.Skips)), (39, pz ((a0.Skips.length : Nat) : Int)), (40, pz x95), (55, .pure (.bool y122))], [(0, .box [.pure (encL 12 az9 a0.Robot.Joints), .pure (encL 5 azg a0.Robot.Masses), .pure (encL 3 aze a0.Shapes), .pure (encL 2 azn a0.Skips)])], [], 1⟩)
 (.call (jz4 a0 ((a0.Skips.getD ((x95).toNat) default).A)) [] fun y123 =>
 .br (!y123)
 (.ret (.out true))
 (.call (jz4 a0 ((a0.Skips.getD ((x95).toNat) default).B)) [] fun y124 =>
 .ret (.out (!y124)))) fun y122 =>
 .br y122
 (.ret (.fin 903))
 (.ret (.next (IntKind.i64.wrap (x95 + 1)))))
 (.ret (.out .u)))
 0 [] fun _ =>
 .ret 0)))
noncomputable def dzn (a0 : az8) : CallS Int :=
  mkC [] hd Tryz.func49 (by kernel_rfl) (pzz a0) 0 [.pure (bzm a0)] [] (fun r => pz r) (fun _ => []) (by kernel_rfl)
noncomputable def iz0 (a0 : azk) (a1 : Int) : T Bool :=
 .br (decide (a0.Lo ≤ a1))
 (.ret (decide (a1 ≤ a0.Hi)))
 (.ret false)
noncomputable def oz8 (a0 : azk) (a1 : Int) : CallS Bool :=
  mkC [] hd Tryz.func118 (by kernel_rfl) (iz0 a0 a1) 0 [.pure (az9 a0), pz a1] [] (fun r => .pure (.bool r)) (fun _ => []) (by kernel_rfl)
noncomputable def czn (a0 : (List azk)) (a1 : (List Int)) : T Bool :=
 .br (((a0.length : Nat) : Int) != ((a1.length : Nat) : Int))
 (.ret false)
 (.loop (fun (x21 : Int) => ⟨[(1, .pure (encL 1 az3 a1)), (2, .func 118 [] []), (14, .pure (encL 12 az9 a0)), (15, pz ((a0.length : Nat) : Int)), (16, pz x21)], [], [], 0⟩)
 (.exit 0) (fun (_ : U0) => ⟨[], [], [], 0⟩)
 (fun x21 => .br (decide (x21 < ((a0.length : Nat) : Int)))
 (.grd (0 ≤ x21 ∧ x21 < ((a0.length : Nat) : Int)) <|
 .grd (0 ≤ x21 ∧ x21 < ((a1.length : Nat) : Int)) <|
 .call (oz8 (a0.getD ((x21).toNat) default) (a1.getD ((x21).toNat) default)) [] fun y30 =>
 .br (!y30)
 (.ret (.fin false))
 (.ret (.next (IntKind.i64.wrap (x21 + 1)))))
 (.ret (.out .u)))
 0 [] fun _ =>
 .ret true)
noncomputable def ez9 (a0 : (List azk)) (a1 : (List Int)) : CallS Bool :=
  mkC [] hd Tryz.func117 (by kernel_rfl) (czn a0 a1) 0 [.pure (encL 12 az9 a0), .pure (encL 1 az3 a1), .func 118 [] []] [] (fun r => .pure (.bool r)) (fun _ => []) (by kernel_rfl)
noncomputable def lz6 (a0 : azj) (a1 : (List Int)) : T Bool :=
 .call (kzs a0) [] fun y1 =>
 .br (y1 == 0)
 (.call (ez9 a0.Joints a1) [] fun y2 =>
 .ret y2)
 (.ret false)
noncomputable def ez0 (a0 : azj) (a1 : (List Int)) : CallS Bool :=
  mkC [] hd Tryz.func50 (by kernel_rfl) (lz6 a0 a1) 0 [.pure (ez1 a0), .pure (encL 1 az3 a1)] [] (fun r => .pure (.bool r)) (fun _ => []) (by kernel_rfl)
noncomputable def jzt (a0 : Int) : T Bool :=
 .br (decide (a0 < (-2147483648)))
 (.ret true)
 (.ret (decide (a0 > 2147483648)))
noncomputable def qzc (a0 : Int) : CallS Bool :=
  mkC [] hd Tryz.func194 (by kernel_rfl) (jzt a0) 0 [pz a0] [] (fun r => .pure (.bool r)) (fun _ => []) (by kernel_rfl)
noncomputable def czr (a0 : (List Int)) : T Int :=
 .loop (fun (x21 : Int) => ⟨[(0, .pure (encL 1 az3 a0)), (1, .func 194 [] []), (7, pz ((a0.length : Nat) : Int)), (8, pz x21)], [], [], 0⟩)
 (.exit 0) (fun (_ : U0) => ⟨[], [], [], 0⟩)
 (fun x21 => .br (decide (x21 < ((a0.length : Nat) : Int)))
 (.grd (0 ≤ x21 ∧ x21 < ((a0.length : Nat) : Int)) <|
 .call (qzc (a0.getD ((x21).toNat) default)) [] fun y30 =>
 .br y30
 (.ret (.fin x21))
 (.ret (.next (IntKind.i64.wrap (x21 + 1)))))
 (.ret (.out .u)))
 0 [] fun _ =>
 .ret (-1)
noncomputable def ezb (a0 : (List Int)) : CallS Int :=
  mkC [] hd Tryz.func230 (by kernel_rfl) (czr a0) 0 [.pure (encL 1 az3 a0), .func 194 [] []] [] (fun r => pz r) (fun _ => []) (by kernel_rfl)
noncomputable def cz9 (a0 : (List Int)) : T Bool :=
 .call (ezb a0) [] fun y1 =>
 .ret (decide (y1 ≥ 0))
noncomputable def dzo (a0 : (List Int)) : CallS Bool :=
  mkC [] hd Tryz.func193 (by kernel_rfl) (cz9 a0) 0 [.pure (encL 1 az3 a0), .func 194 [] []] [] (fun r => .pure (.bool r)) (fun _ => []) (by kernel_rfl)
noncomputable def nz3 (a0 : (List Int)) : T Bool :=
 .call (dzo a0) [] fun y1 =>
 .ret (!y1)
noncomputable def fzo (a0 : (List Int)) : CallS Bool :=
  mkC [] hd Tryz.func145 (by kernel_rfl) (nz3 a0) 0 [.pure (encL 1 az3 a0)] [] (fun r => .pure (.bool r)) (fun _ => []) (by kernel_rfl)
noncomputable def iz1 (a0 : (List Int)) (a1 : (List Int)) (a2 : Int) : T Bool :=
 .br (((a0.length : Nat) : Int) == ((a1.length : Nat) : Int))
 (.call (fzo a0) [] fun y1 =>
 .br y1
 (.call (fzo a1) [] fun y2 =>
 .br y2
 (.br (decide (0 ≤ a2))
 (.ret (decide (a2 ≤ 20)))
 (.ret false))
 (.ret false))
 (.ret false))
 (.ret false)
noncomputable def oz9 (a0 : (List Int)) (a1 : (List Int)) (a2 : Int) : CallS Bool :=
  mkC [] hd Tryz.func119 (by kernel_rfl) (iz1 a0 a1 a2) 0 [.pure (encL 1 az3 a0), .pure (encL 1 az3 a1), pz a2] [] (fun r => .pure (.bool r)) (fun _ => []) (by kernel_rfl)
noncomputable def pz0 (a0 : Int) (a1 : Int) : T Int :=
 .grd (0 ≤ a1) <|
 .ret (a0.fdiv (2 ^ (min (a1).toNat 64)))
noncomputable def ozz (a0 : Int) (a1 : Int) : CallS Int :=
  mkC [] hd Tryz.func122 (by kernel_rfl) (pz0 a0 a1) 0 [pz a0, pz a1] [] (fun r => pz r) (fun _ => []) (by kernel_rfl)
noncomputable def jzs (a0 : Int) (a1 : Int) (a2 : Int) (a3 : Int) : T (az0 × Int × Int) :=
 .name 2003 ((min (IntKind.i64.wrap (a2 * (IntKind.i64.wrap (a1 - a0)))) (IntKind.i64.wrap ((IntKind.i64.wrap (a2 + 1)) * (IntKind.i64.wrap (a1 - a0)))))) fun z5 =>
 .call (ozz z5 a3) [] fun y6 =>
 .name 2010 ((max (IntKind.i64.wrap (a2 * (IntKind.i64.wrap (a1 - a0)))) (IntKind.i64.wrap ((IntKind.i64.wrap (a2 + 1)) * (IntKind.i64.wrap (a1 - a0)))))) fun z7 =>
 .call (ozz (IntKind.i64.wrap (0 - z7)) a3) [] fun y8 =>
 .ret ((⟨(IntKind.i64.wrap (a0 + y6)), (IntKind.i64.wrap (a0 - y8))⟩ : az0), a2, a3)
noncomputable def qzb (a0 : Int) (a1 : Int) (a2 : Int) (a3 : Int) : CallS (az0 × Int × Int) :=
  mkC [] hd Tryz.func121 (by kernel_rfl) (jzs a0 a1 a2 a3) 2 [pz a0, pz a1, .ptr 0 0, .ptr 1 0] [(0, .box [pz a2]), (1, .box [pz a3])] (fun r => .pure (az6 r.1)) (fun r => [(0, .box [pz r.2.1]), (1, .box [pz r.2.2])]) (by kernel_rfl)
noncomputable def bzi (a0 : (List Int)) (a1 : (List Int)) (a2 : Int) (a3 : Int) : T ((List az0) × Int × Int) :=
 .conv 1002 (Hzg 2 az6 149 (((a0.length : Nat) : Int)).toNat (⟨0, 0⟩ : az0)) <|
 .grd (0 ≤ ((a0.length : Nat) : Int) ∧ ((a0.length : Nat) : Int) ≤ ((a0.length : Nat) : Int) ∧ ((a0.length : Nat) : Int) ≤ 9223372036854775807 ∧ ((a0.length : Nat) : Int) * 16 ≤ 140737488355328) <|
 .loop (fun (x13 : (Int × Int × (List az0) × Int)) => ⟨[(1, .pure (encL 1 az3 a1)), (2, .func 121 [] [.ptr 0 0, .ptr 1 0]), (7, .vec 2), (13, .pure (encL 1 az3 a0)), (14, pz ((a0.length : Nat) : Int)), (15, pz x13.2.2.2)], [(0, .box [pz x13.1]), (1, .box [pz x13.2.1]), (2, vecO 2 az6 x13.2.2.1 149)], [], 3⟩)
 (.exit 0) (fun (y16 : (Int × Int × (List az0))) => ⟨[(7, .vec 2)], [(0, .box [pz y16.1]), (1, .box [pz y16.2.1]), (2, vecO 2 az6 y16.2.2 149)], [], 3⟩)
 (fun x13 => .br (decide (x13.2.2.2 < ((a0.length : Nat) : Int)))
 (.grd (0 ≤ x13.2.2.2 ∧ x13.2.2.2 < ((a0.length : Nat) : Int)) <|
 .grd (0 ≤ x13.2.2.2 ∧ x13.2.2.2 < ((a1.length : Nat) : Int)) <|
 .call (qzb (a0.getD ((x13.2.2.2).toNat) default) (a1.getD ((x13.2.2.2).toNat) default) x13.1 x13.2.1) [(0, 0), (1, 1)] fun y18 =>
 .grd (0 ≤ x13.2.2.2 ∧ x13.2.2.2 < ((x13.2.2.1.length : Nat) : Int)) <|
 .conv 5010 (qzv 2 az6 x13.2.2.1 149 ((x13.2.2.2).toNat) y18.1) <|
 .grd ((x13.2.2.2).toNat < x13.2.2.1.length ∧ 0 ≤ (x13.2.2.2).toNat) <|
 .ret (.next (y18.2.1, y18.2.2, (x13.2.2.1.set ((x13.2.2.2).toNat) y18.1), (IntKind.i64.wrap (x13.2.2.2 + 1)))))
 (.ret (.out (x13.1, x13.2.1, x13.2.2.1))))
 (a2, a3, (List.replicate (((a0.length : Nat) : Int)).toNat ((⟨0, 0⟩ : az0) : az0)), 0) [] fun y16 =>
 .ret (y16.2.2, y16.1, y16.2.1)
noncomputable def czk (a0 : (List Int)) (a1 : (List Int)) (a2 : Int) (a3 : Int) : CallS ((List az0) × Int × Int) :=
  mkC [] hd Tryz.func120 (by kernel_rfl) (bzi a0 a1 a2 a3) 2 [.pure (encL 1 az3 a0), .pure (encL 1 az3 a1), .func 121 [] [.ptr 0 0, .ptr 1 0]] [(0, .box [pz a2]), (1, .box [pz a3])] (fun r => .pure (encL 2 az6 r.1)) (fun r => [(0, .box [pz r.2.1]), (1, .box [pz r.2.2])]) (by kernel_rfl)
noncomputable def nz1 (a0 : (List Int)) (a1 : (List Int)) (a2 : Int) (a3 : Int) : T ((List az0) × Bool) :=
 .cut 2 (fun (y7 : Bool) => ⟨[(0, .pure (encL 1 az3 a0)), (1, .pure (encL 1 az3 a1)), (6, .ptr 0 0), (7, .ptr 1 0), (24, .pure (.bool y7))], [(0, .box [pz a2]), (1, .box [pz a3])], [], 2⟩)
 (.call (oz9 a0 a1 a2) [] fun y8 =>
 .br (!y8)
 (.ret (.out true))
 (.br (decide (a3 < 0))
 (.ret (.out true))
 (.grd (0 ≤ a2) <|
 .ret (.out (decide (a3 ≥ (IntKind.i64.wrap (1 * 2 ^ (min (a2).toNat 64))))))))) fun y7 =>
 .br y7
 (.ret (nl, false))
 (.call (czk a0 a1 a3 a2) [(0, 1), (1, 0)] fun y9 =>
 .ret (y9.1, true))
noncomputable def izr (a0 : (List Int)) (a1 : (List Int)) (a2 : Int) (a3 : Int) : CallS ((List az0) × Bool) :=
  mkC [] hd Tryz.func52 (by kernel_rfl) (nz1 a0 a1 a2 a3) 0 [.pure (encL 1 az3 a0), .pure (encL 1 az3 a1), pz a2, pz a3] [] (fun r => .tup [.pure (encL 2 az6 r.1), .pure (.bool r.2)]) (fun _ => []) (by kernel_rfl)
noncomputable def jzv (a0 : az0) : T Bool :=
 .br (decide ((-2147483648) ≤ a0.Lo))
 (.br (decide (a0.Lo ≤ a0.Hi))
 (.ret (decide (a0.Hi ≤ 2147483648)))
 (.ret false))
 (.ret false)
noncomputable def bz9 (a0 : az0) : CallS Bool :=
  mkC [] hd Tryz.func132 (by kernel_rfl) (jzv a0) 0 [.pure (az6 a0)] [] (fun r => .pure (.bool r)) (fun _ => []) (by kernel_rfl)
noncomputable def kz8 (a0 : azj) : T (List Int) :=
 .conv 1004 (Hzg 1 az3 3 ((IntKind.i64.wrap (((a0.Joints.length : Nat) : Int) + 1))).toNat 0) <|
 .grd (0 ≤ (IntKind.i64.wrap (((a0.Joints.length : Nat) : Int) + 1)) ∧ (IntKind.i64.wrap (((a0.Joints.length : Nat) : Int) + 1)) ≤ (IntKind.i64.wrap (((a0.Joints.length : Nat) : Int) + 1)) ∧ (IntKind.i64.wrap (((a0.Joints.length : Nat) : Int) + 1)) ≤ 9223372036854775807 ∧ (IntKind.i64.wrap (((a0.Joints.length : Nat) : Int) + 1)) * 8 ≤ 140737488355328) <|
 .grd (0 ≤ (0 : Int) ∧ (0 : Int) < (((List.replicate ((IntKind.i64.wrap (((a0.Joints.length : Nat) : Int) + 1))).toNat (0 : Int)).length : Nat) : Int)) <|
 .conv 2002 (qzv 1 az3 (List.replicate ((IntKind.i64.wrap (((a0.Joints.length : Nat) : Int) + 1))).toNat (0 : Int)) 3 ((0 : Int).toNat) (-1)) <|
 .grd ((0 : Int).toNat < (List.replicate ((IntKind.i64.wrap (((a0.Joints.length : Nat) : Int) + 1))).toNat (0 : Int)).length ∧ 0 ≤ (0 : Int).toNat) <|
 .loop (fun (x51 : ((List Int) × Int)) => ⟨[(3, .vec 0), (14, .pure (encL 12 az9 a0.Joints)), (15, pz ((a0.Joints.length : Nat) : Int)), (16, pz x51.2)], [(0, vecO 1 az3 x51.1 3)], [], 1⟩)
 (.exit 0) (fun (y56 : (List Int)) => ⟨[(3, .vec 0)], [(0, vecO 1 az3 y56 3)], [], 1⟩)
 (fun x51 => .br (decide (x51.2 < ((a0.Joints.length : Nat) : Int)))
 (.cut 0 (fun (y59 : (List Int)) => ⟨[(3, .vec 0), (14, .pure (encL 12 az9 a0.Joints)), (15, pz ((a0.Joints.length : Nat) : Int)), (16, pz x51.2)], [(0, vecO 1 az3 y59 3)], [], 1⟩)
 (.grd (0 ≤ x51.2 ∧ x51.2 < ((a0.Joints.length : Nat) : Int)) <|
 .grd (0 ≤ (IntKind.i64.wrap (x51.2 + 1)) ∧ (IntKind.i64.wrap (x51.2 + 1)) < ((x51.1.length : Nat) : Int)) <|
 .conv 6005 (qzv 1 az3 x51.1 3 (((IntKind.i64.wrap (x51.2 + 1))).toNat) x51.2) <|
 .grd (((IntKind.i64.wrap (x51.2 + 1))).toNat < x51.1.length ∧ 0 ≤ ((IntKind.i64.wrap (x51.2 + 1))).toNat) <|
 .br (((a0.Joints.getD ((x51.2).toNat) default).Lo) == ((a0.Joints.getD ((x51.2).toNat) default).Hi))
 (.grd (0 ≤ (IntKind.i64.wrap (((a0.Joints.getD ((x51.2).toNat) default).Parent) + 1)) ∧ (IntKind.i64.wrap (((a0.Joints.getD ((x51.2).toNat) default).Parent) + 1)) < (((x51.1.set (((IntKind.i64.wrap (x51.2 + 1))).toNat) x51.2).length : Nat) : Int)) <|
 .grd (((IntKind.i64.wrap (((a0.Joints.getD ((x51.2).toNat) default).Parent) + 1))).toNat < (x51.1.set (((IntKind.i64.wrap (x51.2 + 1))).toNat) x51.2).length) <|
 .name 8008 (((x51.1.set (((IntKind.i64.wrap (x51.2 + 1))).toNat) x51.2).getD (((IntKind.i64.wrap (((a0.Joints.getD ((x51.2).toNat) default).Parent) + 1))).toNat) default)) fun z60 =>
 .grd (0 ≤ (IntKind.i64.wrap (x51.2 + 1)) ∧ (IntKind.i64.wrap (x51.2 + 1)) < (((x51.1.set (((IntKind.i64.wrap (x51.2 + 1))).toNat) x51.2).length : Nat) : Int)) <|
 .conv 8010 (qzv 1 az3 (x51.1.set (((IntKind.i64.wrap (x51.2 + 1))).toNat) x51.2) 3 (((IntKind.i64.wrap (x51.2 + 1))).toNat) z60) <|
 .grd (((IntKind.i64.wrap (x51.2 + 1))).toNat < (x51.1.set (((IntKind.i64.wrap (x51.2 + 1))).toNat) x51.2).length ∧ 0 ≤ ((IntKind.i64.wrap (x51.2 + 1))).toNat) <|
 .ret (.out ((x51.1.set (((IntKind.i64.wrap (x51.2 + 1))).toNat) x51.2).set (((IntKind.i64.wrap (x51.2 + 1))).toNat) z60)))
 (.ret (.out (x51.1.set (((IntKind.i64.wrap (x51.2 + 1))).toNat) x51.2)))) fun y59 =>
 .ret (.next (y59, (IntKind.i64.wrap (x51.2 + 1)))))
 (.ret (.out x51.1)))
 (((List.replicate ((IntKind.i64.wrap (((a0.Joints.length : Nat) : Int) + 1))).toNat (0 : Int)).set ((0 : Int).toNat) (-1)), 0) [] fun y56 =>
 .ret y56
noncomputable def qzr (a0 : azj) : CallS (List Int) :=
  mkC [] hd Tryz.func166 (by kernel_rfl) (kz8 a0) 0 [.pure (ez1 a0)] [] (fun r => .pure (encL 1 az3 r)) (fun _ => []) (by kernel_rfl)
noncomputable def lzs (a0 : az8) (a1 : Int) (a2 : Int) : T Bool :=
 .loop (fun (x13 : Int) => ⟨[(1, pz a1), (2, pz a2), (10, .pure (encL 2 azn a0.Skips)), (11, pz ((a0.Skips.length : Nat) : Int)), (12, pz x13)], [], [], 0⟩)
 (.exit 0) (fun (_ : U0) => ⟨[], [], [], 0⟩)
 (fun x13 => .br (decide (x13 < ((a0.Skips.length : Nat) : Int)))
 (.grd (0 ≤ x13 ∧ x13 < ((a0.Skips.length : Nat) : Int)) <|
 .cut 0 (fun (y18 : Bool) => ⟨[(1, pz a1), (2, pz a2), (10, .pure (encL 2 azn a0.Skips)), (11, pz ((a0.Skips.length : Nat) : Int)), (12, pz x13), (27, .pure (.bool y18))], [], [], 0⟩)
 (.br ((((a0.Skips.getD ((x13).toNat) default).A) == a1) && ((((a0.Skips.getD ((x13).toNat) default).B) == a2) && true))
 (.ret (.out true))
 (.ret (.out ((((a0.Skips.getD ((x13).toNat) default).A) == a2) && ((((a0.Skips.getD ((x13).toNat) default).B) == a1) && true))))) fun y18 =>
 .br y18
 (.ret (.fin true))
 (.ret (.next (IntKind.i64.wrap (x13 + 1)))))
 (.ret (.out .u)))
 0 [] fun _ =>
 .ret false
noncomputable def szr (a0 : az8) (a1 : Int) (a2 : Int) : CallS Bool :=
  mkC [] hd Tryz.func167 (by kernel_rfl) (lzs a0 a1 a2) 0 [.pure (bzm a0), pz a1, pz a2] [] (fun r => .pure (.bool r)) (fun _ => []) (by kernel_rfl)
noncomputable def qz0 (a0 : az8) : T (List czv) :=
 .call (dzn a0) [] fun y700 =>
 .br (y700 != 0)
 (.ret nl)
 (.call (qzr a0.Robot) [] fun y702 =>
 .loop (fun (x1187 : ((List czv) × Int)) => ⟨[(1, .ptr 0 0), (3, .pure (encL 1 az3 y702)), (4, .vec 1), (17, .pure (encL 3 aze a0.Shapes)), (18, pz ((a0.Shapes.length : Nat) : Int)), (19, pz x1187.2)], [(0, .box [.pure (encL 12 az9 a0.Robot.Joints), .pure (encL 5 azg a0.Robot.Masses), .pure (encL 3 aze a0.Shapes), .pure (encL 2 azn a0.Skips)]), (1, vecO 2 ezp x1187.1 192)], [], 2⟩)
 (.exit 0) (fun (y1308 : (List czv)) => ⟨[(4, .vec 0)], [(0, vecO 2 ezp y1308 192)], [], 1⟩)
 (fun x1187 => .br (decide (x1187.2 < ((a0.Shapes.length : Nat) : Int)))
 (.grd (0 ≤ x1187.2 ∧ x1187.2 < ((a0.Shapes.length : Nat) : Int)) <|
 .loop (fun (x1389 : ((List czv) × Int)) => ⟨[(1, .ptr 0 0), (3, .pure (encL 1 az3 y702)), (4, .vec 1), (5, pz x1187.2), (6, .ptr 2 0), (7, pz x1389.2), (17, .pure (encL 3 aze a0.Shapes)), (18, pz ((a0.Shapes.length : Nat) : Int)), (19, pz x1187.2)], [(0, .box [.pure (encL 12 az9 a0.Robot.Joints), .pure (encL 5 azg a0.Robot.Masses), .pure (encL 3 aze a0.Shapes), .pure (encL 2 azn a0.Skips)]), (1, vecO 2 ezp x1389.1 192), (2, .box [pz ((a0.Shapes.getD ((x1187.2).toNat) default).Link), pz ((a0.Shapes.getD ((x1187.2).toNat) default).Radius), .pure (encL 3 az1 ((a0.Shapes.getD ((x1187.2).toNat) default).Points))])], [], 3⟩)
 (.exit 2) (fun (y1409 : (List czv)) => ⟨[(1, .ptr 0 0), (3, .pure (encL 1 az3 y702)), (4, .vec 1), (17, .pure (encL 3 aze a0.Shapes)), (18, pz ((a0.Shapes.length : Nat) : Int)), (19, pz x1187.2)], [(0, .box [.pure (encL 12 az9 a0.Robot.Joints), .pure (encL 5 azg a0.Robot.Masses), .pure (encL 3 aze a0.Shapes), .pure (encL 2 azn a0.Skips)]), (1, vecO 2 ezp y1409 192)], [], 2⟩)
 (fun x1389 => .br (decide (x1389.2 < ((a0.Shapes.length : Nat) : Int)))
 (.cut 0 (fun (y1422 : (List czv)) => ⟨[(1, .ptr 0 0), (3, .pure (encL 1 az3 y702)), (4, .vec 1), (5, pz x1187.2), (6, .ptr 2 0), (7, pz x1389.2), (17, .pure (encL 3 aze a0.Shapes)), (18, pz ((a0.Shapes.length : Nat) : Int)), (19, pz x1187.2)], [(0, .box [.pure (encL 12 az9 a0.Robot.Joints), .pure (encL 5 azg a0.Robot.Masses), .pure (encL 3 aze a0.Shapes), .pure (encL 2 azn a0.Skips)]), (1, vecO 2 ezp y1422 192), (2, .box [pz ((a0.Shapes.getD ((x1187.2).toNat) default).Link), pz ((a0.Shapes.getD ((x1187.2).toNat) default).Radius), .pure (encL 3 az1 ((a0.Shapes.getD ((x1187.2).toNat) default).Points))])], [], 3⟩)
 (.grd (0 ≤ x1389.2 ∧ x1389.2 < ((a0.Shapes.length : Nat) : Int)) <|
 .grd (0 ≤ (IntKind.i64.wrap (((a0.Shapes.getD ((x1187.2).toNat) default).Link) + 1)) ∧ (IntKind.i64.wrap (((a0.Shapes.getD ((x1187.2).toNat) default).Link) + 1)) < ((y702.length : Nat) : Int)) <|
 .grd (0 ≤ (IntKind.i64.wrap (((a0.Shapes.getD ((x1389.2).toNat) default).Link) + 1)) ∧ (IntKind.i64.wrap (((a0.Shapes.getD ((x1389.2).toNat) default).Link) + 1)) < ((y702.length : Nat) : Int)) <|
 .name 12011 ((y702.getD (((IntKind.i64.wrap (((a0.Shapes.getD ((x1389.2).toNat) default).Link) + 1))).toNat) default)) fun z1424 =>
 .cut 0 (fun (y1427 : Bool) => ⟨[(1, .ptr 0 0), (3, .pure (encL 1 az3 y702)), (4, .vec 1), (5, pz x1187.2), (6, .ptr 2 0), (7, pz x1389.2), (17, .pure (encL 3 aze a0.Shapes)), (18, pz ((a0.Shapes.length : Nat) : Int)), (19, pz x1187.2), (61, .pure (.bool y1427))], [(0, .box [.pure (encL 12 az9 a0.Robot.Joints), .pure (encL 5 azg a0.Robot.Masses), .pure (encL 3 aze a0.Shapes), .pure (encL 2 azn a0.Skips)]), (1, vecO 2 ezp x1389.1 192), (2, .box [pz ((a0.Shapes.getD ((x1187.2).toNat) default).Link), pz ((a0.Shapes.getD ((x1187.2).toNat) default).Radius), .pure (encL 3 az1 ((a0.Shapes.getD ((x1187.2).toNat) default).Points))])], [], 3⟩)
 (.br (!((y702.getD (((IntKind.i64.wrap (((a0.Shapes.getD ((x1187.2).toNat) default).Link) + 1))).toNat) default) == z1424))
 (.call (szr a0 ((a0.Shapes.getD ((x1187.2).toNat) default).Link) ((a0.Shapes.getD ((x1389.2).toNat) default).Link)) [] fun y1428 =>
 .ret (.out (!y1428)))
 (.ret (.out false))) fun y1427 =>
 .br y1427
 (.conv 14004 (czw 2 ezp ([(⟨x1187.2, x1389.2⟩ : czv)] : (List czv)) 192) <|
 .conv 14005 (hzn 2 ezp x1389.1 ([(⟨x1187.2, x1389.2⟩ : czv)] : (List czv)) 192) <|
 .grd ((x1389.1.length + ([(⟨x1187.2, x1389.2⟩ : czv)] : (List czv)).length) * 16 ≤ 140737488355328 ∧ (x1389.1.length + ([(⟨x1187.2, x1389.2⟩ : czv)] : (List czv)).length) ≤ maxLen) <|
 .ret (.out (x1389.1 ++ ([(⟨x1187.2, x1389.2⟩ : czv)] : (List czv)))))
 (.ret (.out x1389.1))) fun y1422 =>
 .ret (.next (y1422, (IntKind.i64.wrap (x1389.2 + 1)))))
 (.ret (.out x1389.1)))
 (x1187.1, (IntKind.i64.wrap (x1187.2 + 1))) [] fun y1409 =>
 .ret (.next (y1409, (IntKind.i64.wrap (x1187.2 + 1)))))
 (.ret (.out x1187.1)))
 (nl, 0) [] fun y1308 =>
 .ret y1308)
noncomputable def wza (a0 : az8) : CallS (List czv) :=
  mkC [] hd Tryz.func133 (by kernel_rfl) (qz0 a0) 0 [.pure (bzm a0)] [] (fun r => .pure (encL 2 ezp r)) (fun _ => []) (by kernel_rfl)
noncomputable def fzh (a0 : az0) : T Bool :=
 .call (bz9 a0) [] fun y1 =>
 .ret (!y1)
noncomputable def kzf (a0 : az0) : CallS Bool :=
  mkC [] hd Tryz.func215 (by kernel_rfl) (fzh a0) 0 [.pure (az6 a0)] [] (fun r => .pure (.bool r)) (fun _ => []) (by kernel_rfl)
noncomputable def bzb (a0 : (List az0)) : T Int :=
 .loop (fun (x21 : Int) => ⟨[(0, .pure (encL 2 az6 a0)), (1, .func 215 [] []), (7, pz ((a0.length : Nat) : Int)), (8, pz x21)], [], [], 0⟩)
 (.exit 0) (fun (_ : U0) => ⟨[], [], [], 0⟩)
 (fun x21 => .br (decide (x21 < ((a0.length : Nat) : Int)))
 (.grd (0 ≤ x21 ∧ x21 < ((a0.length : Nat) : Int)) <|
 .call (kzf (a0.getD ((x21).toNat) default)) [] fun y30 =>
 .br y30
 (.ret (.fin x21))
 (.ret (.next (IntKind.i64.wrap (x21 + 1)))))
 (.ret (.out .u)))
 0 [] fun _ =>
 .ret (-1)
noncomputable def cz4 (a0 : (List az0)) : CallS Int :=
  mkC [] hd Tryz.func241 (by kernel_rfl) (bzb a0) 0 [.pure (encL 2 az6 a0), .func 215 [] []] [] (fun r => pz r) (fun _ => []) (by kernel_rfl)
noncomputable def bz6 (a0 : (List az0)) : T Bool :=
 .call (cz4 a0) [] fun y1 =>
 .ret (decide (y1 ≥ 0))
noncomputable def bzx (a0 : (List az0)) : CallS Bool :=
  mkC [] hd Tryz.func214 (by kernel_rfl) (bz6 a0) 0 [.pure (encL 2 az6 a0), .func 215 [] []] [] (fun r => .pure (.bool r)) (fun _ => []) (by kernel_rfl)
noncomputable def gzs (a0 : azj) (a1 : (List az0)) : T Bool :=
 .br (((a1.length : Nat) : Int) == ((a0.Joints.length : Nat) : Int))
 (.call (bzx a1) [] fun y1 =>
 .ret (!y1))
 (.ret false)
noncomputable def mz9 (a0 : azj) (a1 : (List az0)) : CallS Bool :=
  mkC [] hd Tryz.func168 (by kernel_rfl) (gzs a0 a1) 0 [.pure (ez1 a0), .pure (encL 2 az6 a1)] [] (fun r => .pure (.bool r)) (fun _ => []) (by kernel_rfl)
noncomputable def pz8 (a0 : Int) : T Int :=
 .ret (min (max a0 (-2147483648)) 2147483648)
noncomputable def pz7 (a0 : Int) : CallS Int :=
  mkC [] hd Tryz.func302 (by kernel_rfl) (pz8 a0) 0 [pz a0] [] (fun r => pz r) (fun _ => []) (by kernel_rfl)
noncomputable def gzp (a0 : Int) (a1 : Int) : T az0 :=
 .call (pz7 a0) [] fun y1 =>
 .call (pz7 a1) [] fun y2 =>
 .ret (⟨y1, y2⟩ : az0)
noncomputable def ezr (a0 : Int) (a1 : Int) : CallS az0 :=
  mkC [] hd Tryz.func278 (by kernel_rfl) (gzp a0 a1) 0 [pz a0, pz a1] [] (fun r => .pure (az6 r)) (fun _ => []) (by kernel_rfl)
noncomputable def pzc (a0 : Int) : T az0 :=
 .call (ezr a0 a0) [] fun y1 =>
 .ret y1
noncomputable def bzp (a0 : Int) : CallS az0 :=
  mkC [] hd Tryz.func246 (by kernel_rfl) (pzc a0) 0 [pz a0] [] (fun r => .pure (az6 r)) (fun _ => []) (by kernel_rfl)
noncomputable def nzf (a0 : (Int × Int × Int)) : T (az0 × az0 × az0) :=
 .unroll 4 <|
 .known true <|
 .ix 0 3 rfl <|
 .call (bzp a0.1) [] fun y16 =>
 .ix 0 3 rfl <|
 .lit 6000 (1) <|
 .known true <|
 .ix 1 3 rfl <|
 .call (bzp a0.2.1) [] fun y18 =>
 .ix 1 3 rfl <|
 .lit 6000 (2) <|
 .known true <|
 .ix 2 3 rfl <|
 .call (bzp a0.2.2) [] fun y20 =>
 .ix 2 3 rfl <|
 .lit 6000 (3) <|
 .known false <|
 .ret (y16, y18, y20)
noncomputable def izx (a0 : (Int × Int × Int)) : CallS (az0 × az0 × az0) :=
  mkC [] hd Tryz.func222 (by kernel_rfl) (nzf a0) 0 [.pure (az1 a0)] [] (fun r => .pure (az2 r)) (fun _ => []) (by kernel_rfl)
noncomputable def matrix_Identity_T : T ((az0 × az0 × az0) × (az0 × az0 × az0) × (az0 × az0 × az0)) :=
 .unroll 4 <|
 .known true <|
 .call (bzp 65536) [] fun y18 =>
 .ix 0 3 rfl <|
 .ix 0 3 rfl <|
 .lit 6000 (1) <|
 .known true <|
 .call (bzp 65536) [] fun y20 =>
 .ix 1 3 rfl <|
 .ix 1 3 rfl <|
 .lit 6000 (2) <|
 .known true <|
 .call (bzp 65536) [] fun y22 =>
 .ix 2 3 rfl <|
 .ix 2 3 rfl <|
 .lit 6000 (3) <|
 .known false <|
 .ret ((y18, (⟨0, 0⟩ : az0), (⟨0, 0⟩ : az0)), ((⟨0, 0⟩ : az0), y20, (⟨0, 0⟩ : az0)), ((⟨0, 0⟩ : az0), (⟨0, 0⟩ : az0), y22))
noncomputable def matrix_Identity_C : CallS ((az0 × az0 × az0) × (az0 × az0 × az0) × (az0 × az0 × az0)) :=
  mkC [] hd Tryz.func245 (by kernel_rfl) (matrix_Identity_T) 0 [] [] (fun r => .pure (cza r)) (fun _ => []) (by kernel_rfl)
noncomputable def szb (a0 : (az0 × az0 × az0)) : T azx :=
 .call (matrix_Identity_C) [] fun y1 =>
 .ret (⟨y1, a0⟩ : azx)
noncomputable def mzg (a0 : (az0 × az0 × az0)) : CallS azx :=
  mkC [] hd Tryz.func218 (by kernel_rfl) (szb a0) 0 [.pure (az2 a0)] [] (fun r => .pure (czg r)) (fun _ => []) (by kernel_rfl)
noncomputable def ez4 (a0 : Int) : T Int :=
 .cut 3 (fun (y3 : Bool) => ⟨[(0, pz a0), (2, .ptr 0 0), (3, pz a0), (4, .pure (.bool y3))], [(0, .box [.any])], [], 1⟩)
 (.br (a0 == 1)
 (.ret (.out (a0 == 1)))
 (.br (a0 == 2)
 (.ret (.out (a0 == 2)))
 (.ret (.out (a0 == 3))))) fun y3 =>
 .br y3
 (.ret (IntKind.i64.wrap (a0 - 1)))
 (.cut 0 (fun (y4 : Bool) => ⟨[(0, pz a0), (2, .ptr 0 0), (12, .pure (.bool y4))], [(0, .box [.any])], [], 1⟩)
 (.br (a0 == 4)
 (.ret (.out (a0 == 4)))
 (.br (a0 == 5)
 (.ret (.out (a0 == 5)))
 (.ret (.out (a0 == 6))))) fun y4 =>
 .br y4
 (.stop)
 (.stop))
noncomputable def ez3 (a0 : Int) : CallS Int :=
  mkC [] hd Tryz.func242 (by kernel_rfl) (ez4 a0) 0 [pz a0] [] (fun r => .agg [.func 269 [pz r] []]) (fun _ => []) (by kernel_rfl)
noncomputable def ez6 (a0 : Int) : T Int :=
 .cut 3 (fun (y3 : Bool) => ⟨[(0, pz a0), (2, .ptr 0 0), (3, pz a0), (4, .pure (.bool y3))], [(0, .box [.any])], [], 1⟩)
 (.br (a0 == 1)
 (.ret (.out (a0 == 1)))
 (.br (a0 == 2)
 (.ret (.out (a0 == 2)))
 (.ret (.out (a0 == 3))))) fun y3 =>
 .br y3
 (.stop)
 (.cut 0 (fun (y4 : Bool) => ⟨[(0, pz a0), (2, .ptr 0 0), (12, .pure (.bool y4))], [(0, .box [.any])], [], 1⟩)
 (.br (a0 == 4)
 (.ret (.out (a0 == 4)))
 (.br (a0 == 5)
 (.ret (.out (a0 == 5)))
 (.ret (.out (a0 == 6))))) fun y4 =>
 .br y4
 (.ret (IntKind.i64.wrap (a0 - 4)))
 (.stop))
noncomputable def ez5 (a0 : Int) : CallS Int :=
  mkC [] hd Tryz.func242 (by kernel_rfl) (ez6 a0) 0 [pz a0] [] (fun r => .agg [.func 270 [pz r] []]) (fun _ => []) (by kernel_rfl)
noncomputable def ez7 (a0 : Int) : T Int :=
 .cut 3 (fun (y3 : Bool) => ⟨[(0, pz a0), (2, .ptr 0 0), (3, pz a0), (4, .pure (.bool y3))], [(0, .box [.any])], [], 1⟩)
 (.br (a0 == 1)
 (.ret (.out (a0 == 1)))
 (.br (a0 == 2)
 (.ret (.out (a0 == 2)))
 (.ret (.out (a0 == 3))))) fun y3 =>
 .br y3
 (.stop)
 (.cut 0 (fun (y4 : Bool) => ⟨[(0, pz a0), (2, .ptr 0 0), (12, .pure (.bool y4))], [(0, .box [.any])], [], 1⟩)
 (.br (a0 == 4)
 (.ret (.out (a0 == 4)))
 (.br (a0 == 5)
 (.ret (.out (a0 == 5)))
 (.ret (.out (a0 == 6))))) fun y4 =>
 .br y4
 (.stop)
 (.ret 0))
noncomputable def gz5 (a0 : Int) : CallS Int :=
  mkC [] hd Tryz.func242 (by kernel_rfl) (ez7 a0) 0 [pz a0] [] (fun r => .agg [.func 271 [pz r] []]) (fun _ => []) (by kernel_rfl)
noncomputable def pose_still_T : T (az0 × az0 × az0) :=
 .call (izx (0, 0, 0)) [] fun y1 =>
 .ret y1
noncomputable def pose_still_C : CallS (az0 × az0 × az0) :=
  mkC [] hd Tryz.func219 (by kernel_rfl) (pose_still_T) 0 [] [] (fun r => .pure (az2 r)) (fun _ => []) (by kernel_rfl)
noncomputable def pose_Identity_T : T azx :=
 .call (pose_still_C) [] fun y1 =>
 .call (mzg y1) [] fun y2 =>
 .ret y2
noncomputable def pose_Identity_C : CallS azx :=
  mkC [] hd Tryz.func170 (by kernel_rfl) (pose_Identity_T) 0 [] [] (fun r => .pure (czg r)) (fun _ => []) (by kernel_rfl)
noncomputable def uzi (_a0 : Int) (_a1 : az0) : T azx :=
 .call (pose_Identity_C) [] fun y1 =>
 .ret y1
noncomputable def zzh (a0 : Int) (a1 : az0) : CallS azx :=
  mkC [] hd Tryz.func271 (by kernel_rfl) (uzi a0 a1) 0 [pz a0, .pure (az6 a1)] [] (fun r => .pure (czg r)) (fun _ => []) (by kernel_rfl)
noncomputable def jzf (a0 : azx) : T (Int × Int × Int × Int × Int × Int × Int × Int × Int × Int × Int × Int × Int × Int × Int × Int × Int × Int × Int × Int × Int × Int × Int × Int) :=
 .ret (a0.R.1.1.Lo, a0.R.1.1.Hi, a0.R.1.2.1.Lo, a0.R.1.2.1.Hi, a0.R.1.2.2.Lo, a0.R.1.2.2.Hi, a0.R.2.1.1.Lo, a0.R.2.1.1.Hi, a0.R.2.1.2.1.Lo, a0.R.2.1.2.1.Hi, a0.R.2.1.2.2.Lo, a0.R.2.1.2.2.Hi, a0.R.2.2.1.Lo, a0.R.2.2.1.Hi, a0.R.2.2.2.1.Lo, a0.R.2.2.2.1.Hi, a0.R.2.2.2.2.Lo, a0.R.2.2.2.2.Hi, a0.T.1.Lo, a0.T.1.Hi, a0.T.2.1.Lo, a0.T.2.1.Hi, a0.T.2.2.Lo, a0.T.2.2.Hi)
noncomputable def mzh (a0 : azx) : CallS (Int × Int × Int × Int × Int × Int × Int × Int × Int × Int × Int × Int × Int × Int × Int × Int × Int × Int × Int × Int × Int × Int × Int × Int) :=
  mkC [] hd Tryz.func243 (by kernel_rfl) (jzf a0) 0 [.pure (czg a0)] [] (fun _ => .func 272 [] [.ptr 0 0]) (fun r => [(0, .box [pz r.1, pz r.2.1, pz r.2.2.1, pz r.2.2.2.1, pz r.2.2.2.2.1, pz r.2.2.2.2.2.1, pz r.2.2.2.2.2.2.1, pz r.2.2.2.2.2.2.2.1, pz r.2.2.2.2.2.2.2.2.1, pz r.2.2.2.2.2.2.2.2.2.1, pz r.2.2.2.2.2.2.2.2.2.2.1, pz r.2.2.2.2.2.2.2.2.2.2.2.1, pz r.2.2.2.2.2.2.2.2.2.2.2.2.1, pz r.2.2.2.2.2.2.2.2.2.2.2.2.2.1, pz r.2.2.2.2.2.2.2.2.2.2.2.2.2.2.1, pz r.2.2.2.2.2.2.2.2.2.2.2.2.2.2.2.1, pz r.2.2.2.2.2.2.2.2.2.2.2.2.2.2.2.2.1, pz r.2.2.2.2.2.2.2.2.2.2.2.2.2.2.2.2.2.1, pz r.2.2.2.2.2.2.2.2.2.2.2.2.2.2.2.2.2.2.1, pz r.2.2.2.2.2.2.2.2.2.2.2.2.2.2.2.2.2.2.2.1, pz r.2.2.2.2.2.2.2.2.2.2.2.2.2.2.2.2.2.2.2.2.1, pz r.2.2.2.2.2.2.2.2.2.2.2.2.2.2.2.2.2.2.2.2.2.1, pz r.2.2.2.2.2.2.2.2.2.2.2.2.2.2.2.2.2.2.2.2.2.2.1, pz r.2.2.2.2.2.2.2.2.2.2.2.2.2.2.2.2.2.2.2.2.2.2.2])]) (by kernel_rfl)
noncomputable def jzy (a0 : az0) (a1 : az0) : T Bool :=
 .call (bz9 a0) [] fun y1 =>
 .br y1
 (.call (bz9 a1) [] fun y2 =>
 .ret y2)
 (.ret false)
noncomputable def fzw (a0 : az0) (a1 : az0) : CallS Bool :=
  mkC [] hd Tryz.func300 (by kernel_rfl) (jzy a0 a1) 0 [.pure (az6 a0), .pure (az6 a1)] [] (fun r => .pure (.bool r)) (fun _ => []) (by kernel_rfl)
noncomputable def iz4 (a0 : Int) (a1 : Int) : T Int :=
 .br (decide (a1 < 0))
 (.ret a0)
 (.grd (0 ≤ a1) <|
 .ret (a0.fdiv (2 ^ (min (a1).toNat 64))))
noncomputable def azm (a0 : Int) (a1 : Int) : CallS Int :=
  mkC [] hd Tryz.func188 (by kernel_rfl) (iz4 a0 a1) 0 [pz a0, pz a1] [] (fun r => pz r) (fun _ => []) (by kernel_rfl)
noncomputable def lzc (a0 : Int) (a1 : Int) : T Int :=
 .br (decide (a1 < 0))
 (.ret a0)
 (.grd (0 ≤ a1) <|
 .cut 0 (fun (y1 : Int) => ⟨[(5, pz y1)], [], [], 0⟩)
 (.grd (0 ≤ a1) <|
 .br ((IntKind.i64.wrap ((a0.fdiv (2 ^ (min (a1).toNat 64))) * 2 ^ (min (a1).toNat 64))) != a0)
 (.ret (.out (IntKind.i64.wrap ((a0.fdiv (2 ^ (min (a1).toNat 64))) + 1))))
 (.ret (.out (a0.fdiv (2 ^ (min (a1).toNat 64)))))) fun y1 =>
 .ret y1)
noncomputable def azs (a0 : Int) (a1 : Int) : CallS Int :=
  mkC [] hd Tryz.func227 (by kernel_rfl) (lzc a0 a1) 0 [pz a0, pz a1] [] (fun r => pz r) (fun _ => []) (by kernel_rfl)
noncomputable def iz5 (a0 : Int) (a1 : Int) : T az0 :=
 .call (azm a0 16) [] fun y1 =>
 .call (azs a1 16) [] fun y2 =>
 .call (ezr y1 y2) [] fun y3 =>
 .ret y3
noncomputable def ozf (a0 : Int) (a1 : Int) : CallS az0 :=
  mkC [] hd Tryz.func301 (by kernel_rfl) (iz5 a0 a1) 0 [pz a0, pz a1] [] (fun r => .pure (az6 r)) (fun _ => []) (by kernel_rfl)
noncomputable def nzc (a0 : az0) (a1 : az0) : T az0 :=
 .call (fzw (⟨a0.Lo, a0.Hi⟩ : az0) (⟨a1.Lo, a1.Hi⟩ : az0)) [] fun y35 =>
 .br (!y35)
 (.ret (⟨0, 0⟩ : az0))
 (.ix 0 4 rfl <|
 .ix 0 4 rfl <|
 .loop (fun (x56 : (Int × Int × Int)) => ⟨[(4, .ptr 0 0), (6, pz x56.1), (7, pz x56.2.1), (40, .pure (zzx ((IntKind.i64.wrap (a0.Lo * a1.Lo)), (IntKind.i64.wrap (a0.Lo * a1.Hi)), (IntKind.i64.wrap (a0.Hi * a1.Lo)), (IntKind.i64.wrap (a0.Hi * a1.Hi))))), (41, pz x56.2.2)], [(0, .box [pz 0, pz 0])], [], 1⟩)
 (.exit 0) (fun (y61 : (Int × Int)) => ⟨[(4, .ptr 0 0), (6, pz y61.1), (7, pz y61.2)], [(0, .box [pz 0, pz 0])], [], 1⟩)
 (fun x56 => .br (decide (x56.2.2 < 4))
 (.grd (0 ≤ x56.2.2 ∧ x56.2.2 < ((4 : Nat) : Int)) <|
 .name 7000 ((([(IntKind.i64.wrap (a0.Lo * a1.Lo)), (IntKind.i64.wrap (a0.Lo * a1.Hi)), (IntKind.i64.wrap (a0.Hi * a1.Lo)), (IntKind.i64.wrap (a0.Hi * a1.Hi))] : List Int).getD (x56.2.2).toNat 0)) fun z65 =>
 .ret (.next ((min x56.1 z65), (max x56.2.1 z65), (IntKind.i64.wrap (x56.2.2 + 1)))))
 (.ret (.out (x56.1, x56.2.1))))
 ((IntKind.i64.wrap (a0.Lo * a1.Lo)), (IntKind.i64.wrap (a0.Lo * a1.Lo)), 0) [] fun y61 =>
 .call (ozf y61.1 y61.2) [] fun y66 =>
 .ret y66)
noncomputable def azf (a0 : az0) (a1 : az0) : CallS az0 :=
  mkC [] hd Tryz.func276 (by kernel_rfl) (nzc a0 a1) 0 [.pure (az6 a0), .pure (az6 a1)] [] (fun r => .pure (az6 r)) (fun _ => []) (by kernel_rfl)
noncomputable def nz8 (a0 : az0) (a1 : az0) : T az0 :=
 .call (fzw a0 a1) [] fun y4 =>
 .br (!y4)
 (.ret (⟨0, 0⟩ : az0))
 (.call (ezr (IntKind.i64.wrap (a0.Lo + a1.Lo)) (IntKind.i64.wrap (a0.Hi + a1.Hi))) [] fun y5 =>
 .ret y5)
noncomputable def azc (a0 : az0) (a1 : az0) : CallS az0 :=
  mkC [] hd Tryz.func275 (by kernel_rfl) (nz8 a0 a1) 0 [.pure (az6 a0), .pure (az6 a1)] [] (fun r => .pure (az6 r)) (fun _ => []) (by kernel_rfl)
noncomputable def kz1 (a0 : Int) : T Int :=
 .ret (min (max a0 (-65536)) 65536)
noncomputable def azl (a0 : Int) : CallS Int :=
  mkC [] hd Tryz.func277 (by kernel_rfl) (kz1 a0) 0 [pz a0] [] (fun r => pz r) (fun _ => []) (by kernel_rfl)
set_option maxHeartbeats 8000000 in
set_option maxRecDepth 20000 in
noncomputable def kz0 (a0 : ((az0 × az0 × az0) × (az0 × az0 × az0) × (az0 × az0 × az0))) (a1 : ((az0 × az0 × az0) × (az0 × az0 × az0) × (az0 × az0 × az0))) : T ((az0 × az0 × az0) × (az0 × az0 × az0) × (az0 × az0 × az0)) :=
 .unroll 4 <|
 .known true <|
 .unroll 4 <|
 .known true <|
 .unroll 4 <|
 .known true <|
 .ix 0 3 rfl <|
 .ix 0 3 rfl <|
 .ix 0 3 rfl <|
 .ix 0 3 rfl <|
 .call (azf a0.1.1 a1.1.1) [] fun y3531 =>
 .call (azc (⟨0, 0⟩ : az0) y3531) [] fun y3532 =>
 .lit 13000 (1) <|
 .known true <|
 .ix 0 3 rfl <|
 .ix 1 3 rfl <|
 .ix 1 3 rfl <|
 .ix 0 3 rfl <|
 .call (azf a0.1.2.1 a1.2.1.1) [] fun y3535 =>
 .call (azc y3532 y3535) [] fun y3536 =>
 .lit 13000 (2) <|
 .known true <|
 .ix 0 3 rfl <|
 .ix 2 3 rfl <|
 .ix 2 3 rfl <|
 .ix 0 3 rfl <|
 .call (azf a0.1.2.2 a1.2.2.1) [] fun y3539 =>
 .call (azc y3536 y3539) [] fun y3540 =>
 .lit 13000 (3) <|
 .known false <|
 .call (azl y3540.Lo) [] fun y3541 =>
 .call (azl y3540.Hi) [] fun y3542 =>
 .ix 0 3 rfl <|
 .ix 0 3 rfl <|
 .lit 15000 (1) <|
 .known true <|
 .unroll 4 <|
 .known true <|
 .ix 0 3 rfl <|
 .ix 0 3 rfl <|
 .ix 0 3 rfl <|
 .ix 1 3 rfl <|
 .call (azf a0.1.1 a1.1.2.1) [] fun y3607 =>
 .call (azc (⟨0, 0⟩ : az0) y3607) [] fun y3608 =>
 .lit 13000 (1) <|
 .known true <|
 .ix 0 3 rfl <|
 .ix 1 3 rfl <|
 .ix 1 3 rfl <|
 .ix 1 3 rfl <|
 .call (azf a0.1.2.1 a1.2.1.2.1) [] fun y3611 =>
 .call (azc y3608 y3611) [] fun y3612 =>
 .lit 13000 (2) <|
 .known true <|
 .ix 0 3 rfl <|
 .ix 2 3 rfl <|
 .ix 2 3 rfl <|
 .ix 1 3 rfl <|
 .call (azf a0.1.2.2 a1.2.2.2.1) [] fun y3615 =>
 .call (azc y3612 y3615) [] fun y3616 =>
 .lit 13000 (3) <|
 .known false <|
 .call (azl y3616.Lo) [] fun y3617 =>
 .call (azl y3616.Hi) [] fun y3618 =>
 .ix 0 3 rfl <|
 .ix 1 3 rfl <|
 .lit 15000 (2) <|
 .known true <|
 .unroll 4 <|
 .known true <|
 .ix 0 3 rfl <|
 .ix 0 3 rfl <|
 .ix 0 3 rfl <|
 .ix 2 3 rfl <|
 .call (azf a0.1.1 a1.1.2.2) [] fun y3683 =>
 .call (azc (⟨0, 0⟩ : az0) y3683) [] fun y3684 =>
 .lit 13000 (1) <|
 .known true <|
 .ix 0 3 rfl <|
 .ix 1 3 rfl <|
 .ix 1 3 rfl <|
 .ix 2 3 rfl <|
 .call (azf a0.1.2.1 a1.2.1.2.2) [] fun y3687 =>
 .call (azc y3684 y3687) [] fun y3688 =>
 .lit 13000 (2) <|
 .known true <|
 .ix 0 3 rfl <|
 .ix 2 3 rfl <|
 .ix 2 3 rfl <|
 .ix 2 3 rfl <|
 .call (azf a0.1.2.2 a1.2.2.2.2) [] fun y3691 =>
 .call (azc y3688 y3691) [] fun y3692 =>
 .lit 13000 (3) <|
 .known false <|
 .call (azl y3692.Lo) [] fun y3693 =>
 .call (azl y3692.Hi) [] fun y3694 =>
 .ix 0 3 rfl <|
 .ix 2 3 rfl <|
 .lit 15000 (3) <|
 .known false <|
 .lit 16000 (1) <|
 .known true <|
 .unroll 4 <|
 .known true <|
 .unroll 4 <|
 .known true <|
 .ix 1 3 rfl <|
 .ix 0 3 rfl <|
 .ix 0 3 rfl <|
 .ix 0 3 rfl <|
 .call (azf a0.2.1.1 a1.1.1) [] fun y4145 =>
 .call (azc (⟨0, 0⟩ : az0) y4145) [] fun y4146 =>
 .lit 13000 (1) <|
 .known true <|
 .ix 1 3 rfl <|
 .ix 1 3 rfl <|
 .ix 1 3 rfl <|
 .ix 0 3 rfl <|
 .call (azf a0.2.1.2.1 a1.2.1.1) [] fun y4149 =>
 .call (azc y4146 y4149) [] fun y4150 =>
 .lit 13000 (2) <|
 .known true <|
 .ix 1 3 rfl <|
 .ix 2 3 rfl <|
 .ix 2 3 rfl <|
 .ix 0 3 rfl <|
 .call (azf a0.2.1.2.2 a1.2.2.1) [] fun y4153 =>
 .call (azc y4150 y4153) [] fun y4154 =>
 .lit 13000 (3) <|
 .known false <|
 .call (azl y4154.Lo) [] fun y4155 =>
 .call (azl y4154.Hi) [] fun y4156 =>
 .ix 1 3 rfl <|
 .ix 0 3 rfl <|
 .lit 15000 (1) <|
 .known true <|
 .unroll 4 <|
 .known true <|
 .ix 1 3 rfl <|
 .ix 0 3 rfl <|
 .ix 0 3 rfl <|
 .ix 1 3 rfl <|
 .call (azf a0.2.1.1 a1.1.2.1) [] fun y4221 =>
 .call (azc (⟨0, 0⟩ : az0) y4221) [] fun y4222 =>
 .lit 13000 (1) <|
 .known true <|
 .ix 1 3 rfl <|
 .ix 1 3 rfl <|
 .ix 1 3 rfl <|
 .ix 1 3 rfl <|
 .call (azf a0.2.1.2.1 a1.2.1.2.1) [] fun y4225 =>
 .call (azc y4222 y4225) [] fun y4226 =>
 .lit 13000 (2) <|
 .known true <|
 .ix 1 3 rfl <|
 .ix 2 3 rfl <|
 .ix 2 3 rfl <|
 .ix 1 3 rfl <|
 .call (azf a0.2.1.2.2 a1.2.2.2.1) [] fun y4229 =>
 .call (azc y4226 y4229) [] fun y4230 =>
 .lit 13000 (3) <|
 .known false <|
 .call (azl y4230.Lo) [] fun y4231 =>
 .call (azl y4230.Hi) [] fun y4232 =>
 .ix 1 3 rfl <|
 .ix 1 3 rfl <|
 .lit 15000 (2) <|
 .known true <|
 .unroll 4 <|
 .known true <|
 .ix 1 3 rfl <|
 .ix 0 3 rfl <|
 .ix 0 3 rfl <|
 .ix 2 3 rfl <|
 .call (azf a0.2.1.1 a1.1.2.2) [] fun y4297 =>
 .call (azc (⟨0, 0⟩ : az0) y4297) [] fun y4298 =>
 .lit 13000 (1) <|
 .known true <|
 .ix 1 3 rfl <|
 .ix 1 3 rfl <|
 .ix 1 3 rfl <|
 .ix 2 3 rfl <|
 .call (azf a0.2.1.2.1 a1.2.1.2.2) [] fun y4301 =>
 .call (azc y4298 y4301) [] fun y4302 =>
 .lit 13000 (2) <|
 .known true <|
 .ix 1 3 rfl <|
 .ix 2 3 rfl <|
 .ix 2 3 rfl <|
 .ix 2 3 rfl <|
 .call (azf a0.2.1.2.2 a1.2.2.2.2) [] fun y4305 =>
 .call (azc y4302 y4305) [] fun y4306 =>
 .lit 13000 (3) <|
 .known false <|
 .call (azl y4306.Lo) [] fun y4307 =>
 .call (azl y4306.Hi) [] fun y4308 =>
 .ix 1 3 rfl <|
 .ix 2 3 rfl <|
 .lit 15000 (3) <|
 .known false <|
 .lit 16000 (2) <|
 .known true <|
 .unroll 4 <|
 .known true <|
 .unroll 4 <|
 .known true <|
 .ix 2 3 rfl <|
 .ix 0 3 rfl <|
 .ix 0 3 rfl <|
 .ix 0 3 rfl <|
 .call (azf a0.2.2.1 a1.1.1) [] fun y4759 =>
 .call (azc (⟨0, 0⟩ : az0) y4759) [] fun y4760 =>
 .lit 13000 (1) <|
 .known true <|
 .ix 2 3 rfl <|
 .ix 1 3 rfl <|
 .ix 1 3 rfl <|
 .ix 0 3 rfl <|
 .call (azf a0.2.2.2.1 a1.2.1.1) [] fun y4763 =>
 .call (azc y4760 y4763) [] fun y4764 =>
 .lit 13000 (2) <|
 .known true <|
 .ix 2 3 rfl <|
 .ix 2 3 rfl <|
 .ix 2 3 rfl <|
 .ix 0 3 rfl <|
 .call (azf a0.2.2.2.2 a1.2.2.1) [] fun y4767 =>
 .call (azc y4764 y4767) [] fun y4768 =>
 .lit 13000 (3) <|
 .known false <|
 .call (azl y4768.Lo) [] fun y4769 =>
 .call (azl y4768.Hi) [] fun y4770 =>
 .ix 2 3 rfl <|
 .ix 0 3 rfl <|
 .lit 15000 (1) <|
 .known true <|
 .unroll 4 <|
 .known true <|
 .ix 2 3 rfl <|
 .ix 0 3 rfl <|
 .ix 0 3 rfl <|
 .ix 1 3 rfl <|
 .call (azf a0.2.2.1 a1.1.2.1) [] fun y4835 =>
 .call (azc (⟨0, 0⟩ : az0) y4835) [] fun y4836 =>
 .lit 13000 (1) <|
 .known true <|
 .ix 2 3 rfl <|
 .ix 1 3 rfl <|
 .ix 1 3 rfl <|
 .ix 1 3 rfl <|
 .call (azf a0.2.2.2.1 a1.2.1.2.1) [] fun y4839 =>
 .call (azc y4836 y4839) [] fun y4840 =>
 .lit 13000 (2) <|
 .known true <|
 .ix 2 3 rfl <|
 .ix 2 3 rfl <|
 .ix 2 3 rfl <|
 .ix 1 3 rfl <|
 .call (azf a0.2.2.2.2 a1.2.2.2.1) [] fun y4843 =>
 .call (azc y4840 y4843) [] fun y4844 =>
 .lit 13000 (3) <|
 .known false <|
 .call (azl y4844.Lo) [] fun y4845 =>
 .call (azl y4844.Hi) [] fun y4846 =>
 .ix 2 3 rfl <|
 .ix 1 3 rfl <|
 .lit 15000 (2) <|
 .known true <|
 .unroll 4 <|
 .known true <|
 .ix 2 3 rfl <|
 .ix 0 3 rfl <|
 .ix 0 3 rfl <|
 .ix 2 3 rfl <|
 .call (azf a0.2.2.1 a1.1.2.2) [] fun y4911 =>
 .call (azc (⟨0, 0⟩ : az0) y4911) [] fun y4912 =>
 .lit 13000 (1) <|
 .known true <|
 .ix 2 3 rfl <|
 .ix 1 3 rfl <|
 .ix 1 3 rfl <|
 .ix 2 3 rfl <|
 .call (azf a0.2.2.2.1 a1.2.1.2.2) [] fun y4915 =>
 .call (azc y4912 y4915) [] fun y4916 =>
 .lit 13000 (2) <|
 .known true <|
 .ix 2 3 rfl <|
 .ix 2 3 rfl <|
 .ix 2 3 rfl <|
 .ix 2 3 rfl <|
 .call (azf a0.2.2.2.2 a1.2.2.2.2) [] fun y4919 =>
 .call (azc y4916 y4919) [] fun y4920 =>
 .lit 13000 (3) <|
 .known false <|
 .call (azl y4920.Lo) [] fun y4921 =>
 .call (azl y4920.Hi) [] fun y4922 =>
 .ix 2 3 rfl <|
 .ix 2 3 rfl <|
 .lit 15000 (3) <|
 .known false <|
 .lit 16000 (3) <|
 .known false <|
 .ret (((⟨y3541, y3542⟩ : az0), (⟨y3617, y3618⟩ : az0), (⟨y3693, y3694⟩ : az0)), ((⟨y4155, y4156⟩ : az0), (⟨y4231, y4232⟩ : az0), (⟨y4307, y4308⟩ : az0)), ((⟨y4769, y4770⟩ : az0), (⟨y4845, y4846⟩ : az0), (⟨y4921, y4922⟩ : az0)))
noncomputable def qzi (a0 : ((az0 × az0 × az0) × (az0 × az0 × az0) × (az0 × az0 × az0))) (a1 : ((az0 × az0 × az0) × (az0 × az0 × az0) × (az0 × az0 × az0))) : CallS ((az0 × az0 × az0) × (az0 × az0 × az0) × (az0 × az0 × az0)) :=
  mkC [] hd Tryz.func244 (by kernel_rfl) (kz0 a0 a1) 0 [.pure (cza a0), .pure (cza a1)] [] (fun r => .pure (cza r)) (fun _ => []) (by kernel_rfl)
noncomputable def nze (a0 : ((az0 × az0 × az0) × (az0 × az0 × az0) × (az0 × az0 × az0))) (a1 : (az0 × az0 × az0)) : T (az0 × az0 × az0) :=
 .unroll 4 <|
 .known true <|
 .unroll 4 <|
 .known true <|
 .ix 0 3 rfl <|
 .ix 0 3 rfl <|
 .ix 0 3 rfl <|
 .ix 0 3 rfl <|
 .call (azf a0.1.1 a1.1) [] fun y213 =>
 .call (azc (⟨0, 0⟩ : az0) y213) [] fun y214 =>
 .ix 0 3 rfl <|
 .lit 9000 (1) <|
 .known true <|
 .ix 0 3 rfl <|
 .ix 0 3 rfl <|
 .ix 1 3 rfl <|
 .ix 1 3 rfl <|
 .call (azf a0.1.2.1 a1.2.1) [] fun y217 =>
 .call (azc y214 y217) [] fun y218 =>
 .ix 0 3 rfl <|
 .lit 9000 (2) <|
 .known true <|
 .ix 0 3 rfl <|
 .ix 0 3 rfl <|
 .ix 2 3 rfl <|
 .ix 2 3 rfl <|
 .call (azf a0.1.2.2 a1.2.2) [] fun y221 =>
 .call (azc y218 y221) [] fun y222 =>
 .ix 0 3 rfl <|
 .lit 9000 (3) <|
 .known false <|
 .lit 10000 (1) <|
 .known true <|
 .unroll 4 <|
 .known true <|
 .ix 1 3 rfl <|
 .ix 1 3 rfl <|
 .ix 0 3 rfl <|
 .ix 0 3 rfl <|
 .call (azf a0.2.1.1 a1.1) [] fun y249 =>
 .call (azc (⟨0, 0⟩ : az0) y249) [] fun y250 =>
 .ix 1 3 rfl <|
 .lit 9000 (1) <|
 .known true <|
 .ix 1 3 rfl <|
 .ix 1 3 rfl <|
 .ix 1 3 rfl <|
 .ix 1 3 rfl <|
 .call (azf a0.2.1.2.1 a1.2.1) [] fun y253 =>
 .call (azc y250 y253) [] fun y254 =>
 .ix 1 3 rfl <|
 .lit 9000 (2) <|
 .known true <|
 .ix 1 3 rfl <|
 .ix 1 3 rfl <|
 .ix 2 3 rfl <|
 .ix 2 3 rfl <|
 .call (azf a0.2.1.2.2 a1.2.2) [] fun y257 =>
 .call (azc y254 y257) [] fun y258 =>
 .ix 1 3 rfl <|
 .lit 9000 (3) <|
 .known false <|
 .lit 10000 (2) <|
 .known true <|
 .unroll 4 <|
 .known true <|
 .ix 2 3 rfl <|
 .ix 2 3 rfl <|
 .ix 0 3 rfl <|
 .ix 0 3 rfl <|
 .call (azf a0.2.2.1 a1.1) [] fun y285 =>
 .call (azc (⟨0, 0⟩ : az0) y285) [] fun y286 =>
 .ix 2 3 rfl <|
 .lit 9000 (1) <|
 .known true <|
 .ix 2 3 rfl <|
 .ix 2 3 rfl <|
 .ix 1 3 rfl <|
 .ix 1 3 rfl <|
 .call (azf a0.2.2.2.1 a1.2.1) [] fun y289 =>
 .call (azc y286 y289) [] fun y290 =>
 .ix 2 3 rfl <|
 .lit 9000 (2) <|
 .known true <|
 .ix 2 3 rfl <|
 .ix 2 3 rfl <|
 .ix 2 3 rfl <|
 .ix 2 3 rfl <|
 .call (azf a0.2.2.2.2 a1.2.2) [] fun y293 =>
 .call (azc y290 y293) [] fun y294 =>
 .ix 2 3 rfl <|
 .lit 9000 (3) <|
 .known false <|
 .lit 10000 (3) <|
 .known false <|
 .ret (y222, y258, y294)
noncomputable def uz0 (a0 : ((az0 × az0 × az0) × (az0 × az0 × az0) × (az0 × az0 × az0))) (a1 : (az0 × az0 × az0)) : CallS (az0 × az0 × az0) :=
  mkC [] hd Tryz.func274 (by kernel_rfl) (nze a0 a1) 0 [.pure (cza a0), .pure (az2 a1)] [] (fun r => .pure (az2 r)) (fun _ => []) (by kernel_rfl)
end Go.Abs
