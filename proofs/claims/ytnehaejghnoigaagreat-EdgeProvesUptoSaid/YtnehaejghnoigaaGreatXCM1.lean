/-
  M1 (a part of a claim: our own text).
-/
import Derived.Test.YtnehaejghnoigaaGreatXCRngF
import Derived.Test.YtnehaejghnoigaaGreatChecked
namespace Go.Abs
open Go.Proofs
abbrev pz (x : Int) : AVal := .pure (.int .i64 x)
theorem hd : ezl Tryz.prog Tzd := Nz7 (by kernel_rfl)
structure azi where
  Name : ByteArray
  Kind : Int
  Parent : Int
  Offset : (Int × Int × Int)
  Lo : Int
  Hi : Int
  Weight : Int
  Speed : Int
  Accel : Int
  Torque : Int
instance : Inhabited azi := ⟨⟨default, default, default, default, default, default, default, default, default, default⟩⟩
structure bza where
  Link : Int
  Mass : Int
  Point : (Int × Int × Int)
instance : Inhabited bza := ⟨⟨default, default, default⟩⟩
structure azm where
  Joints : (List azi)
  Masses : (List bza)
instance : Inhabited azm := ⟨⟨default, default⟩⟩
structure azn where
  Link : Int
  Radius : Int
  Points : (List (Int × Int × Int))
instance : Inhabited azn := ⟨⟨default, default, default⟩⟩
structure ezc where
  A : Int
  B : Int
instance : Inhabited ezc := ⟨⟨default, default⟩⟩
structure aza where
  Robot : azm
  Shapes : (List azn)
  Skips : (List ezc)
instance : Inhabited aza := ⟨⟨default, default, default⟩⟩
structure Fzr where
  list : (List Int)
  next : Int
instance : Inhabited Fzr := ⟨⟨default, default⟩⟩
structure azh where
  Depth : Int
  Index : Int
  Normals : (List (Int × Int × Int))
instance : Inhabited azh := ⟨⟨default, default, default⟩⟩
structure bz6 where
  Pair : Int
  Left : (List Int)
  Right : (List Int)
instance : Inhabited bz6 := ⟨⟨default, default, default⟩⟩
structure azk where
  Kind : Int
  Pieces : (List azh)
  At : azh
  Witness : bz6
instance : Inhabited azk := ⟨⟨default, default, default, default⟩⟩
structure az0 where
  Lo : Int
  Hi : Int
instance : Inhabited az0 := ⟨⟨default, default⟩⟩
structure bzf where
  A : Int
  B : Int
instance : Inhabited bzf := ⟨⟨default, default⟩⟩
structure bzo where
  shapes : (List azn)
  pairs : (List bzf)
  points : (List (List (az0 × az0 × az0)))
instance : Inhabited bzo := ⟨⟨default, default, default⟩⟩
structure azj where
  R : ((az0 × az0 × az0) × (az0 × az0 × az0) × (az0 × az0 × az0))
  T : (az0 × az0 × az0)
instance : Inhabited azj := ⟨⟨default, default⟩⟩
structure cz5 where
  Kind : Int
  Normals : (List (Int × Int × Int))
  Witness : bz6
instance : Inhabited cz5 := ⟨⟨default, default, default⟩⟩
structure ez0 where
  a : (List (az0 × az0 × az0))
  b : (List (az0 × az0 × az0))
  ra : Int
  rb : Int
instance : Inhabited ez0 := ⟨⟨default, default, default, default⟩⟩
structure dzs where
  points : (List (az0 × az0 × az0))
  radius : Int
instance : Inhabited dzs := ⟨⟨default, default⟩⟩
structure czb where
  a : dzs
  b : dzs
instance : Inhabited czb := ⟨⟨default, default⟩⟩
structure cz4 where
  Kind : Int
  Normal : (Int × Int × Int)
  Left : (List Int)
  Right : (List Int)
  Steps : Int
instance : Inhabited cz4 := ⟨⟨default, default, default, default, default⟩⟩
structure dz6 where
  witness : bz6
instance : Inhabited dz6 := ⟨⟨default⟩⟩
structure czv where
  normals : (List (Int × Int × Int))
instance : Inhabited czv := ⟨⟨default⟩⟩
structure azg where
  depth : Int
  index : Int
  hints : (List (Int × Int × Int))
instance : Inhabited azg := ⟨⟨default, default, default⟩⟩
structure azl where
  points : (List (az0 × az0 × az0))
  radius : Int
instance : Inhabited azl := ⟨⟨default, default⟩⟩
structure wzy where
  scene : aza
  p : (List Int)
  q : (List Int)
  pieces : (List azh)
instance : Inhabited wzy := ⟨⟨default, default, default, default⟩⟩
def az9 (v : azi) : PVal := .agg [.str v.Name, .int .i64 v.Kind, .int .i64 v.Parent, .int .i64 v.Offset.1, .int .i64 v.Offset.2.1, .int .i64 v.Offset.2.2, .int .i64 v.Lo, .int .i64 v.Hi, .int .i64 v.Weight, .int .i64 v.Speed, .int .i64 v.Accel, .int .i64 v.Torque]
def azb (v : bza) : PVal := .agg [.int .i64 v.Link, .int .i64 v.Mass, .int .i64 v.Point.1, .int .i64 v.Point.2.1, .int .i64 v.Point.2.2]
def czo (v : azm) : PVal := .agg [encL 12 az9 v.Joints, encL 5 azb v.Masses]
def az1 (v : (Int × Int × Int)) : PVal := .agg [.int .i64 v.1, .int .i64 v.2.1, .int .i64 v.2.2]
def azd (v : azn) : PVal := .agg [.int .i64 v.Link, .int .i64 v.Radius, encL 3 az1 v.Points]
def azq (v : ezc) : PVal := .agg [.int .i64 v.A, .int .i64 v.B]
def cz0 (v : aza) : PVal := .agg [encL 12 az9 v.Robot.Joints, encL 5 azb v.Robot.Masses, encL 3 azd v.Shapes, encL 2 azq v.Skips]
def czn (v : azh) : PVal := .agg [.int .i64 v.Depth, .int .i64 v.Index, encL 3 az1 v.Normals]
def Czh (v : bz6) : PVal := .agg [.int .i64 v.Pair, encL 1 az3 v.Left, encL 1 az3 v.Right]
def jz2 (v : azk) : PVal := .agg [.int .i64 v.Kind, encL 3 czn v.Pieces, .int .i64 v.At.Depth, .int .i64 v.At.Index, encL 3 az1 v.At.Normals, .int .i64 v.Witness.Pair, encL 1 az3 v.Witness.Left, encL 1 az3 v.Witness.Right]
def az4 (v : az0) : PVal := .agg [.int .i64 v.Lo, .int .i64 v.Hi]
def czm (v : bzf) : PVal := .agg [.int .i64 v.A, .int .i64 v.B]
def az2 (v : (az0 × az0 × az0)) : PVal := .agg [.int .i64 v.1.Lo, .int .i64 v.1.Hi, .int .i64 v.2.1.Lo, .int .i64 v.2.1.Hi, .int .i64 v.2.2.Lo, .int .i64 v.2.2.Hi]
def pz5 (v : bzo) : PVal := .agg [encL 3 azd v.shapes, encL 2 czm v.pairs, encL 1 (encL 6 az2) v.points]
def azz (v : azj) : PVal := .agg [.int .i64 v.R.1.1.Lo, .int .i64 v.R.1.1.Hi, .int .i64 v.R.1.2.1.Lo, .int .i64 v.R.1.2.1.Hi, .int .i64 v.R.1.2.2.Lo, .int .i64 v.R.1.2.2.Hi, .int .i64 v.R.2.1.1.Lo, .int .i64 v.R.2.1.1.Hi, .int .i64 v.R.2.1.2.1.Lo, .int .i64 v.R.2.1.2.1.Hi, .int .i64 v.R.2.1.2.2.Lo, .int .i64 v.R.2.1.2.2.Hi, .int .i64 v.R.2.2.1.Lo, .int .i64 v.R.2.2.1.Hi, .int .i64 v.R.2.2.2.1.Lo, .int .i64 v.R.2.2.2.1.Hi, .int .i64 v.R.2.2.2.2.Lo, .int .i64 v.R.2.2.2.2.Hi, .int .i64 v.T.1.Lo, .int .i64 v.T.1.Hi, .int .i64 v.T.2.1.Lo, .int .i64 v.T.2.1.Hi, .int .i64 v.T.2.2.Lo, .int .i64 v.T.2.2.Hi]
def Czi (v : (Int × Int × Int × Int)) : PVal := .agg [.int .i64 v.1, .int .i64 v.2.1, .int .i64 v.2.2.1, .int .i64 v.2.2.2]
def pzx (v : cz5) : PVal := .agg [.int .i64 v.Kind, encL 3 az1 v.Normals, .int .i64 v.Witness.Pair, encL 1 az3 v.Witness.Left, encL 1 az3 v.Witness.Right]
def wz9 (v : ez0) : PVal := .agg [encL 6 az2 v.a, encL 6 az2 v.b, .int .i64 v.ra, .int .i64 v.rb]
def Ez8 (v : dzs) : PVal := .agg [encL 6 az2 v.points, .int .i64 v.radius]
def lzl (v : czb) : PVal := .agg [encL 6 az2 v.a.points, .int .i64 v.a.radius, encL 6 az2 v.b.points, .int .i64 v.b.radius]
def Czg (v : cz4) : PVal := .agg [.int .i64 v.Kind, .int .i64 v.Normal.1, .int .i64 v.Normal.2.1, .int .i64 v.Normal.2.2, encL 1 az3 v.Left, encL 1 az3 v.Right, .int .i64 v.Steps]
def szc (v : dz6) : PVal := .agg [.int .i64 v.witness.Pair, encL 1 az3 v.witness.Left, encL 1 az3 v.witness.Right]
def pzy (v : czv) : PVal := .agg [encL 3 az1 v.normals]
def fz3 (v : azg) : PVal := .agg [.int .i64 v.depth, .int .i64 v.index, encL 3 az1 v.hints]
def bz5 (v : azl) : PVal := .agg [encL 6 az2 v.points, .int .i64 v.radius]
def azx (v : ((az0 × az0 × az0) × (az0 × az0 × az0) × (az0 × az0 × az0))) : PVal := .agg [.int .i64 v.1.1.Lo, .int .i64 v.1.1.Hi, .int .i64 v.1.2.1.Lo, .int .i64 v.1.2.1.Hi, .int .i64 v.1.2.2.Lo, .int .i64 v.1.2.2.Hi, .int .i64 v.2.1.1.Lo, .int .i64 v.2.1.1.Hi, .int .i64 v.2.1.2.1.Lo, .int .i64 v.2.1.2.1.Hi, .int .i64 v.2.1.2.2.Lo, .int .i64 v.2.1.2.2.Hi, .int .i64 v.2.2.1.Lo, .int .i64 v.2.2.1.Hi, .int .i64 v.2.2.2.1.Lo, .int .i64 v.2.2.2.1.Hi, .int .i64 v.2.2.2.2.Lo, .int .i64 v.2.2.2.2.Hi]
def gz7 (v : (Int × Int × Int × Int × Int × Int × Int × Int × Int × Int × Int)) : PVal := .agg [.int .i64 v.1, .int .i64 v.2.1, .int .i64 v.2.2.1, .int .i64 v.2.2.2.1, .int .i64 v.2.2.2.2.1, .int .i64 v.2.2.2.2.2.1, .int .i64 v.2.2.2.2.2.2.1, .int .i64 v.2.2.2.2.2.2.2.1, .int .i64 v.2.2.2.2.2.2.2.2.1, .int .i64 v.2.2.2.2.2.2.2.2.2.1, .int .i64 v.2.2.2.2.2.2.2.2.2.2]
theorem Tzk : GuardFn Tryz.prog 65 :=
  lz6 (fn := Tryz.f65) Tryz.func65 (by kernel_rfl) ⟨0, (gOps Tryz.f65).getD 0 default, (gOps Tryz.f65).getD 1 default, 1, 2, gX Tryz.f65, gC ((gOps Tryz.f65).getD 0 default), 20, 20, by kernel_rfl, by kernel_rfl, by kernel_rfl, by kernel_rfl, by kernel_rfl, by kernel_rfl, by kernel_rfl, by kernel_rfl, ⟨gMs (Tryz.prog.underlying 20), by kernel_rfl⟩, by decide, by decide, by kernel_rfl⟩
theorem Tzl : GuardFn Tryz.prog 73 :=
  lz6 (fn := Tryz.f73) Tryz.func73 (by kernel_rfl) ⟨0, (gOps Tryz.f73).getD 0 default, (gOps Tryz.f73).getD 1 default, 1, 2, gX Tryz.f73, gC ((gOps Tryz.f73).getD 0 default), 20, 20, by kernel_rfl, by kernel_rfl, by kernel_rfl, by kernel_rfl, by kernel_rfl, by kernel_rfl, by kernel_rfl, by kernel_rfl, ⟨gMs (Tryz.prog.underlying 20), by kernel_rfl⟩, by decide, by decide, by kernel_rfl⟩
theorem Rz3 : GuardFn Tryz.prog 135 :=
  lz6 (fn := Tryz.f135) Tryz.func135 (by kernel_rfl) ⟨0, (gOps Tryz.f135).getD 0 default, (gOps Tryz.f135).getD 1 default, 2, 3, gX Tryz.f135, gC ((gOps Tryz.f135).getD 0 default), 20, 20, by kernel_rfl, by kernel_rfl, by kernel_rfl, by kernel_rfl, by kernel_rfl, by kernel_rfl, by kernel_rfl, by kernel_rfl, ⟨gMs (Tryz.prog.underlying 20), by kernel_rfl⟩, by decide, by decide, by kernel_rfl⟩
theorem Rz4 : GuardFn Tryz.prog 143 :=
  lz6 (fn := Tryz.f143) Tryz.func143 (by kernel_rfl) ⟨0, (gOps Tryz.f143).getD 0 default, (gOps Tryz.f143).getD 1 default, 1, 2, gX Tryz.f143, gC ((gOps Tryz.f143).getD 0 default), 20, 20, by kernel_rfl, by kernel_rfl, by kernel_rfl, by kernel_rfl, by kernel_rfl, by kernel_rfl, by kernel_rfl, by kernel_rfl, ⟨gMs (Tryz.prog.underlying 20), by kernel_rfl⟩, by decide, by decide, by kernel_rfl⟩
theorem Rz5 : GuardFn Tryz.prog 195 :=
  lz6 (fn := Tryz.f195) Tryz.func195 (by kernel_rfl) ⟨0, (gOps Tryz.f195).getD 0 default, (gOps Tryz.f195).getD 1 default, 2, 3, gX Tryz.f195, gC ((gOps Tryz.f195).getD 0 default), 20, 20, by kernel_rfl, by kernel_rfl, by kernel_rfl, by kernel_rfl, by kernel_rfl, by kernel_rfl, by kernel_rfl, by kernel_rfl, ⟨gMs (Tryz.prog.underlying 20), by kernel_rfl⟩, by decide, by decide, by kernel_rfl⟩
theorem Rz6 : GuardFn Tryz.prog 233 :=
  lz6 (fn := Tryz.f233) Tryz.func233 (by kernel_rfl) ⟨0, (gOps Tryz.f233).getD 0 default, (gOps Tryz.f233).getD 1 default, 2, 3, gX Tryz.f233, gC ((gOps Tryz.f233).getD 0 default), 20, 20, by kernel_rfl, by kernel_rfl, by kernel_rfl, by kernel_rfl, by kernel_rfl, by kernel_rfl, by kernel_rfl, by kernel_rfl, ⟨gMs (Tryz.prog.underlying 20), by kernel_rfl⟩, by decide, by decide, by kernel_rfl⟩
noncomputable def Lz0 (a0 : (List Int)) : T ((List Int) × Int) :=
 .ret (a0, 0)
noncomputable def qze (a0 : (List Int)) : CallS ((List Int) × Int) :=
  mkC [] hd Tryz.func94 (by kernel_rfl) (Lz0 a0) 0 [.pure (encL 1 az3 a0)] [] (fun _ => .ptr 0 0) (fun r => [(0, .box [.pure (encL 1 az3 r.1), pz r.2])]) (by kernel_rfl)
noncomputable def tz5 (a0 : Int) (a1 : Int) : T Int :=
 .grd (a1 ≠ 0) <|
 .cut 0 (fun (y1 : Int) => ⟨[(5, pz y1)], [], [], 0⟩)
 (.br (decide ((a0.tmod a1) < 0))
 (.ret (.out (IntKind.i64.wrap ((a0.tmod a1) + a1))))
 (.ret (.out (a0.tmod a1)))) fun y1 =>
 .ret y1
noncomputable def mzt (a0 : Int) (a1 : Int) : CallS Int :=
  mkC [] hd Tryz.func20 (by kernel_rfl) (tz5 a0 a1) 0 [pz a0, pz a1] [] (fun r => pz r) (fun _ => []) (by kernel_rfl)
noncomputable def pzp (a0 : (List Int)) (a1 : Int) (a2 : Int) : T (Int × (List Int) × Int) :=
 .br (decide (a1 ≥ ((a0.length : Nat) : Int)))
 (.ret (0, a0, a1))
 (.grd (0 ≤ (IntKind.i64.wrap ((IntKind.i64.wrap (a1 + 1)) - 1)) ∧ (IntKind.i64.wrap ((IntKind.i64.wrap (a1 + 1)) - 1)) < ((a0.length : Nat) : Int)) <|
 .call (mzt (a0.getD (((IntKind.i64.wrap ((IntKind.i64.wrap (a1 + 1)) - 1))).toNat) default) a2) [] fun y1 =>
 .ret (y1, a0, (IntKind.i64.wrap (a1 + 1))))
noncomputable def azf (a0 : (List Int)) (a1 : Int) (a2 : Int) : CallS (Int × (List Int) × Int) :=
  mkC [] hd Tryz.func95 (by kernel_rfl) (pzp a0 a1 a2) 1 [.ptr 0 0, pz a2] [(0, .box [.pure (encL 1 az3 a0), pz a1])] (fun r => pz r.1) (fun r => [(0, .box [.pure (encL 1 az3 r.2.1), pz r.2.2])]) (by kernel_rfl)
noncomputable def qzg (a0 : Int) : T ByteArray :=
 .grd (0 ≤ a0 ∧ a0 ≤ (IntKind.i64.wrap (a0 + 1)) ∧ (IntKind.i64.wrap (a0 + 1)) ≤ (((⟨#[97, 98, 99, 100, 101, 102, 103, 104, 105, 106]⟩ : ByteArray).size : Nat) : Int)) <|
 .ret ((⟨#[97, 98, 99, 100, 101, 102, 103, 104, 105, 106]⟩ : ByteArray).extract (a0).toNat ((IntKind.i64.wrap (a0 + 1))).toNat)
noncomputable def qzf (a0 : Int) : CallS ByteArray :=
  mkC [] hd Tryz.func201 (by kernel_rfl) (qzg a0) 0 [pz a0] [] (fun r => .pure (.str r)) (fun _ => []) (by kernel_rfl)
noncomputable def lzb (a0 : (List Int)) (a1 : Int) (a2 : Int) : T (Int × (List Int) × Int) :=
 .call (azf a0 a1 (IntKind.i64.wrap ((IntKind.i64.wrap (2 * a2)) + 1))) [(0, 0)] fun y1 =>
 .ret ((IntKind.i64.wrap (y1.1 - a2)), y1.2.1, y1.2.2)
noncomputable def bzb (a0 : (List Int)) (a1 : Int) (a2 : Int) : CallS (Int × (List Int) × Int) :=
  mkC [] hd Tryz.func99 (by kernel_rfl) (lzb a0 a1 a2) 1 [.ptr 0 0, pz a2] [(0, .box [.pure (encL 1 az3 a0), pz a1])] (fun r => pz r.1) (fun r => [(0, .box [.pure (encL 1 az3 r.2.1), pz r.2.2])]) (by kernel_rfl)
noncomputable def tz9 (a0 : (List Int)) (a1 : Int) (a2 : Int) : T (azi × (List Int) × Int) :=
 .call (qzf a2) [] fun y4 =>
 .call (azf a0 a1 4) [(0, 0)] fun y5 =>
 .call (azf y5.2.1 y5.2.2 3) [(0, 0)] fun y6 =>
 .call (azf y6.2.1 y6.2.2 8) [(0, 0)] fun y8 =>
 .grd (0 ≤ y8.1 ∧ y8.1 < ((8 : Nat) : Int)) <|
 .cut 0 (fun (y13 : ((List Int) × Int × Int)) => ⟨[(0, .ptr 0 0), (1, pz a2), (4, .ptr 1 0), (5, .ptr 2 0)], [(0, .box [.pure (encL 1 az3 y13.1), pz y13.2.1]), (1, .box [.pure (.str (⟨#[]⟩ : ByteArray)), pz 0, pz 0, pz 0, pz 0, pz 0, pz 0, pz 0, pz 0, pz 0, pz 0, pz 0]), (2, .box [.pure (.str y4), pz (([3, 3, 1, 2, 4, 5, 3, 0] : List Int).getD (y8.1).toNat 0), pz y13.2.2, pz 0, pz 0, pz 0, pz 0, pz 0, pz (IntKind.i64.wrap (1 + y5.1)), pz 65536, pz (IntKind.i64.wrap (65536 + y6.1)), pz 327680])], [], 3⟩)
 (.call (azf y8.2.1 y8.2.2 4) [(0, 0)] fun y15 =>
 .br (y15.1 == 1)
 (.ret (.out (y15.2.1, y15.2.2, (-1))))
 (.ret (.out (y15.2.1, y15.2.2, (IntKind.i64.wrap (a2 - 1)))))) fun y13 =>
 .cut 0 (fun (y20 : ((List Int) × Int × Int × Int × Int)) => ⟨[(0, .ptr 0 0), (4, .ptr 1 0), (5, .ptr 2 0)], [(0, .box [.pure (encL 1 az3 y20.1), pz y20.2.1]), (1, .box [.pure (.str (⟨#[]⟩ : ByteArray)), pz 0, pz 0, pz 0, pz 0, pz 0, pz 0, pz 0, pz 0, pz 0, pz 0, pz 0]), (2, .box [.pure (.str y4), pz (([3, 3, 1, 2, 4, 5, 3, 0] : List Int).getD (y8.1).toNat 0), pz y13.2.2, pz y20.2.2.1, pz y20.2.2.2.1, pz y20.2.2.2.2, pz 0, pz 0, pz (IntKind.i64.wrap (1 + y5.1)), pz 65536, pz (IntKind.i64.wrap (65536 + y6.1)), pz 327680])], [], 3⟩)
 (.br (decide (a2 > 0))
 (.call (bzb y13.1 y13.2.1 2) [(0, 0)] fun y21 =>
 .call (bzb y21.2.1 y21.2.2 1) [(0, 0)] fun y22 =>
 .ret (.out (y22.2.1, y22.2.2, 131072, (IntKind.i64.wrap (y21.1 * 32768)), (IntKind.i64.wrap (y22.1 * 32768)))))
 (.ret (.out (y13.1, y13.2.1, 0, 0, 0)))) fun y20 =>
 .cut 0 (fun (y35 : ((List Int) × Int × Int × Int)) => ⟨[(4, .ptr 1 0), (5, .ptr 2 0)], [(0, .box [.pure (encL 1 az3 y35.1), pz y35.2.1]), (1, .box [.pure (.str (⟨#[]⟩ : ByteArray)), pz 0, pz 0, pz 0, pz 0, pz 0, pz 0, pz 0, pz 0, pz 0, pz 0, pz 0]), (2, .box [.pure (.str y4), pz (([3, 3, 1, 2, 4, 5, 3, 0] : List Int).getD (y8.1).toNat 0), pz y13.2.2, pz y20.2.2.1, pz y20.2.2.2.1, pz y20.2.2.2.2, pz y35.2.2.1, pz y35.2.2.2, pz (IntKind.i64.wrap (1 + y5.1)), pz 65536, pz (IntKind.i64.wrap (65536 + y6.1)), pz 327680])], [], 3⟩)
 (.br ((([3, 3, 1, 2, 4, 5, 3, 0] : List Int).getD (y8.1).toNat 0) == 0)
 (.ret (.out (y20.1, y20.2.1, 0, 0)))
 (.cut 0 (fun (y36 : Bool) => ⟨[(0, .ptr 0 0), (4, .ptr 1 0), (5, .ptr 2 0), (55, .pure (.bool y36))], [(0, .box [.pure (encL 1 az3 y20.1), pz y20.2.1]), (1, .box [.pure (.str (⟨#[]⟩ : ByteArray)), pz 0, pz 0, pz 0, pz 0, pz 0, pz 0, pz 0, pz 0, pz 0, pz 0, pz 0]), (2, .box [.pure (.str y4), pz (([3, 3, 1, 2, 4, 5, 3, 0] : List Int).getD (y8.1).toNat 0), pz y13.2.2, pz y20.2.2.1, pz y20.2.2.2.1, pz y20.2.2.2.2, pz 0, pz 0, pz (IntKind.i64.wrap (1 + y5.1)), pz 65536, pz (IntKind.i64.wrap (65536 + y6.1)), pz 327680])], [], 3⟩)
 (.br ((([3, 3, 1, 2, 4, 5, 3, 0] : List Int).getD (y8.1).toNat 0) == 4)
 (.ret (.out ((([3, 3, 1, 2, 4, 5, 3, 0] : List Int).getD (y8.1).toNat 0) == 4)))
 (.ret (.out ((([3, 3, 1, 2, 4, 5, 3, 0] : List Int).getD (y8.1).toNat 0) == 5)))) fun y36 =>
 .br y36
 (.call (azf y20.1 y20.2.1 3) [(0, 0)] fun y37 =>
 .call (azf y37.2.1 y37.2.2 4) [(0, 0)] fun y38 =>
 .ret (.out (y38.2.1, y38.2.2, (IntKind.i64.wrap ((IntKind.i64.wrap (0 - y37.1)) * 65536)), (IntKind.i64.wrap (y38.1 * 32768)))))
 (.call (azf y20.1 y20.2.1 5) [(0, 0)] fun y39 =>
 .ok ((8 : Int) ≠ 0) (by decide) <|
 .call (azf y39.2.1 y39.2.2 4) [(0, 0)] fun y40 =>
 .ok ((8 : Int) ≠ 0) (by decide) <|
 .call (azf y40.2.1 y40.2.2 3) [(0, 0)] fun y41 =>
 .ret (.out (y41.2.1, y41.2.2, (IntKind.i64.wrap ((IntKind.i64.wrap ((IntKind.i64.wrap (0 - y39.1)) * 65536)).tdiv 8)), (IntKind.i64.wrap ((IntKind.i64.wrap ((IntKind.i64.wrap ((IntKind.i64.wrap (1 + y40.1)) * 65536)).tdiv 8)) + y41.1))))))) fun y35 =>
 .ret ((⟨y4, (([3, 3, 1, 2, 4, 5, 3, 0] : List Int).getD (y8.1).toNat 0), y13.2.2, (y20.2.2.1, y20.2.2.2.1, y20.2.2.2.2), y35.2.2.1, y35.2.2.2, (IntKind.i64.wrap (1 + y5.1)), 65536, (IntKind.i64.wrap (65536 + y6.1)), 327680⟩ : azi), y35.1, y35.2.1)
noncomputable def tz8 (a0 : (List Int)) (a1 : Int) (a2 : Int) : CallS (azi × (List Int) × Int) :=
  mkC [] hd Tryz.func146 (by kernel_rfl) (tz9 a0 a1 a2) 1 [.ptr 0 0, pz a2] [(0, .box [.pure (encL 1 az3 a0), pz a1])] (fun r => .pure (az9 r.1)) (fun r => [(0, .box [.pure (encL 1 az3 r.2.1), pz r.2.2])]) (by kernel_rfl)
noncomputable def tza (a0 : (List Int)) (a1 : Int) : T (azm × (List Int) × Int) :=
 .call (azf a0 a1 3) [(0, 0)] fun y2 =>
 .loop (fun (x15 : ((List Int) × Int × (List azi) × Int)) => ⟨[(0, .ptr 0 0), (2, .ptr 1 0), (3, .ptr 4 0), (4, pz (IntKind.i64.wrap (1 + y2.1))), (5, pz x15.2.2.2)], [(0, .box [.pure (encL 1 az3 x15.1), pz x15.2.1]), (1, .box [.vec 2, .vec 3]), (2, .nilv), (3, .nilv), (4, .box [.vec 5, .vec 6]), (5, vecO 12 az9 x15.2.2.1 147), (6, .nilv)], [], 7⟩)
 (.exit 0) (fun (y18 : ((List Int) × Int × (List azi))) => ⟨[(0, .ptr 0 0), (2, .ptr 1 0), (3, .ptr 4 0), (4, pz (IntKind.i64.wrap (1 + y2.1)))], [(0, .box [.pure (encL 1 az3 y18.1), pz y18.2.1]), (1, .box [.vec 2, .vec 3]), (2, .nilv), (3, .nilv), (4, .box [.vec 5, .vec 6]), (5, vecO 12 az9 y18.2.2 147), (6, .nilv)], [], 7⟩)
 (fun x15 => .br (decide (x15.2.2.2 < (IntKind.i64.wrap (1 + y2.1))))
 (.call (tz8 x15.1 x15.2.1 x15.2.2.2) [(0, 0)] fun y20 =>
 .conv 6005 (dzo 12 az9 ([y20.1] : (List azi)) 147) <|
 .conv 6006 (izb 12 az9 x15.2.2.1 ([y20.1] : (List azi)) 147) <|
 .grd ((x15.2.2.1.length + ([y20.1] : (List azi)).length) * 104 ≤ 140737488355328 ∧ (x15.2.2.1.length + ([y20.1] : (List azi)).length) ≤ maxLen) <|
 .ret (.next (y20.2.1, y20.2.2, (x15.2.2.1 ++ ([y20.1] : (List azi))), (IntKind.i64.wrap (x15.2.2.2 + 1)))))
 (.ret (.out (x15.1, x15.2.1, x15.2.2.1))))
 (y2.2.1, y2.2.2, nl, 0) [] fun y18 =>
 .call (azf y18.1 y18.2.1 3) [(0, 0)] fun y51 =>
 .loop (fun (x61 : ((List Int) × Int × (List bza) × Int)) => ⟨[(0, .ptr 0 0), (2, .ptr 1 0), (3, .ptr 4 0), (4, pz (IntKind.i64.wrap (1 + y2.1))), (6, pz x61.2.2.2)], [(0, .box [.pure (encL 1 az3 x61.1), pz x61.2.1]), (1, .box [.vec 2, .vec 3]), (2, .nilv), (3, .nilv), (4, .box [.vec 5, .vec 6]), (5, vecO 12 az9 y18.2.2 147), (6, vecO 5 azb x61.2.2.1 208)], [], 7⟩)
 (.exit 2) (fun (y70 : ((List Int) × Int × (List bza))) => ⟨[(2, .ptr 1 0), (3, .ptr 4 0)], [(0, .box [.pure (encL 1 az3 y70.1), pz y70.2.1]), (1, .box [.vec 2, .vec 3]), (2, .nilv), (3, .nilv), (4, .box [.vec 5, .vec 6]), (5, vecO 12 az9 y18.2.2 147), (6, vecO 5 azb y70.2.2 208)], [], 7⟩)
 (fun x61 => .br (decide (x61.2.2.2 > 0))
 (.call (azf x61.1 x61.2.1 (IntKind.i64.wrap (1 + y2.1))) [(0, 0)] fun y75 =>
 .call (azf y75.2.1 y75.2.2 9000) [(0, 0)] fun y76 =>
 .call (bzb y76.2.1 y76.2.2 3) [(0, 0)] fun y77 =>
 .call (bzb y77.2.1 y77.2.2 2) [(0, 0)] fun y78 =>
 .conv 10016 (dzo 5 azb ([(⟨y75.1, (IntKind.i64.wrap (1 + y76.1)), ((IntKind.i64.wrap (y77.1 * 32768)), 0, (IntKind.i64.wrap (y78.1 * 32768)))⟩ : bza)] : (List bza)) 208) <|
 .conv 10017 (izb 5 azb x61.2.2.1 ([(⟨y75.1, (IntKind.i64.wrap (1 + y76.1)), ((IntKind.i64.wrap (y77.1 * 32768)), 0, (IntKind.i64.wrap (y78.1 * 32768)))⟩ : bza)] : (List bza)) 208) <|
 .grd ((x61.2.2.1.length + ([(⟨y75.1, (IntKind.i64.wrap (1 + y76.1)), ((IntKind.i64.wrap (y77.1 * 32768)), 0, (IntKind.i64.wrap (y78.1 * 32768)))⟩ : bza)] : (List bza)).length) * 40 ≤ 140737488355328 ∧ (x61.2.2.1.length + ([(⟨y75.1, (IntKind.i64.wrap (1 + y76.1)), ((IntKind.i64.wrap (y77.1 * 32768)), 0, (IntKind.i64.wrap (y78.1 * 32768)))⟩ : bza)] : (List bza)).length) ≤ maxLen) <|
 .ret (.next (y78.2.1, y78.2.2, (x61.2.2.1 ++ ([(⟨y75.1, (IntKind.i64.wrap (1 + y76.1)), ((IntKind.i64.wrap (y77.1 * 32768)), 0, (IntKind.i64.wrap (y78.1 * 32768)))⟩ : bza)] : (List bza))), (IntKind.i64.wrap (x61.2.2.2 - 1)))))
 (.ret (.out (x61.1, x61.2.1, x61.2.2.1))))
 (y51.2.1, y51.2.2, nl, y51.1) [] fun y70 =>
 .ret ((⟨y18.2.2, y70.2.2⟩ : azm), y70.1, y70.2.1)
noncomputable def mzv (a0 : (List Int)) (a1 : Int) : CallS (azm × (List Int) × Int) :=
  mkC [] hd Tryz.func97 (by kernel_rfl) (tza a0 a1) 1 [.ptr 0 0] [(0, .box [.pure (encL 1 az3 a0), pz a1])] (fun r => .pure (czo r.1)) (fun r => [(0, .box [.pure (encL 1 az3 r.2.1), pz r.2.2])]) (by kernel_rfl)
noncomputable def qzh (a0 : (List Int)) (a1 : Int) (a2 : (Int × Int × Int)) : T ((List (Int × Int × Int)) × (List Int) × Int) :=
 .conv 1001 (dzo 3 az1 ([a2] : (List (Int × Int × Int))) 49) <|
 .call (azf a0 a1 4) [(0, 0)] fun y25 =>
 .loop (fun (x33 : ((List Int) × Int × (List (Int × Int × Int)) × Int)) => ⟨[(0, .ptr 0 0), (3, .ptr 1 0), (5, .vec 2), (6, pz x33.2.2.2)], [(0, .box [.pure (encL 1 az3 x33.1), pz x33.2.1]), (1, .box [pz a2.1, pz a2.2.1, pz a2.2.2]), (2, vecO 3 az1 x33.2.2.1 49)], [], 3⟩)
 (.exit 0) (fun (y40 : ((List Int) × Int × (List (Int × Int × Int)))) => ⟨[(5, .vec 1)], [(0, .box [.pure (encL 1 az3 y40.1), pz y40.2.1]), (1, vecO 3 az1 y40.2.2 49)], [], 2⟩)
 (fun x33 => .br (decide (x33.2.2.2 > 0))
 (.ix 0 3 rfl <|
 .call (bzb x33.1 x33.2.1 3) [(0, 0)] fun y44 =>
 .ix 1 3 rfl <|
 .call (bzb y44.2.1 y44.2.2 2) [(0, 0)] fun y45 =>
 .ix 2 3 rfl <|
 .call (bzb y45.2.1 y45.2.2 2) [(0, 0)] fun y46 =>
 .conv 5020 (dzo 3 az1 ([((IntKind.i64.wrap (a2.1 + (IntKind.i64.wrap (y44.1 * 32768)))), (IntKind.i64.wrap (a2.2.1 + (IntKind.i64.wrap (y45.1 * 32768)))), (IntKind.i64.wrap (a2.2.2 + (IntKind.i64.wrap (y46.1 * 32768)))))] : (List (Int × Int × Int))) 49) <|
 .conv 5021 (izb 3 az1 x33.2.2.1 ([((IntKind.i64.wrap (a2.1 + (IntKind.i64.wrap (y44.1 * 32768)))), (IntKind.i64.wrap (a2.2.1 + (IntKind.i64.wrap (y45.1 * 32768)))), (IntKind.i64.wrap (a2.2.2 + (IntKind.i64.wrap (y46.1 * 32768)))))] : (List (Int × Int × Int))) 49) <|
 .grd ((x33.2.2.1.length + ([((IntKind.i64.wrap (a2.1 + (IntKind.i64.wrap (y44.1 * 32768)))), (IntKind.i64.wrap (a2.2.1 + (IntKind.i64.wrap (y45.1 * 32768)))), (IntKind.i64.wrap (a2.2.2 + (IntKind.i64.wrap (y46.1 * 32768)))))] : (List (Int × Int × Int))).length) * 24 ≤ 140737488355328 ∧ (x33.2.2.1.length + ([((IntKind.i64.wrap (a2.1 + (IntKind.i64.wrap (y44.1 * 32768)))), (IntKind.i64.wrap (a2.2.1 + (IntKind.i64.wrap (y45.1 * 32768)))), (IntKind.i64.wrap (a2.2.2 + (IntKind.i64.wrap (y46.1 * 32768)))))] : (List (Int × Int × Int))).length) ≤ maxLen) <|
 .ret (.next (y46.2.1, y46.2.2, (x33.2.2.1 ++ ([((IntKind.i64.wrap (a2.1 + (IntKind.i64.wrap (y44.1 * 32768)))), (IntKind.i64.wrap (a2.2.1 + (IntKind.i64.wrap (y45.1 * 32768)))), (IntKind.i64.wrap (a2.2.2 + (IntKind.i64.wrap (y46.1 * 32768)))))] : (List (Int × Int × Int)))), (IntKind.i64.wrap (x33.2.2.2 - 1)))))
 (.ret (.out (x33.1, x33.2.1, x33.2.2.1))))
 (y25.2.1, y25.2.2, ([a2] : (List (Int × Int × Int))), y25.1) [] fun y40 =>
 .ret (y40.2.2, y40.1, y40.2.1)
noncomputable def hz4 (a0 : (List Int)) (a1 : Int) (a2 : (Int × Int × Int)) : CallS ((List (Int × Int × Int)) × (List Int) × Int) :=
  mkC [] hd Tryz.func98 (by kernel_rfl) (qzh a0 a1 a2) 1 [.ptr 0 0, .pure (az1 a2)] [(0, .box [.pure (encL 1 az3 a0), pz a1])] (fun r => .pure (encL 3 az1 r.1)) (fun r => [(0, .box [.pure (encL 1 az3 r.2.1), pz r.2.2])]) (by kernel_rfl)
set_option maxHeartbeats 8000000 in
set_option maxRecDepth 20000 in
noncomputable def tz7 (a0 : (List Int)) : T aza :=
 .call (qze a0) [] fun y2 =>
 .call (mzv y2.1 y2.2) [(0, 128)] fun y4 =>
 .loop (fun (x73 : ((List Int) × Int × (List azn) × Int)) => ⟨[(2, .ptr 0 0), (3, .ptr 5 0), (4, .ptr 6 0), (5, pz x73.2.2.2)], [(0, .box [.vec 1, .vec 2, .vec 3, .vec 4]), (1, .nilv), (2, .nilv), (3, .nilv), (4, .nilv), (5, .box [.pure (encL 1 az3 x73.1), pz x73.2.1]), (6, .box [.pure (encL 12 az9 y4.1.Joints), .pure (encL 5 azb y4.1.Masses), .vec 7, .vec 8]), (7, vecO 3 azd x73.2.2.1 108), (8, .nilv)], [], 9⟩)
 (.exit 0) (fun (y90 : ((List Int) × Int × (List azn))) => ⟨[(2, .ptr 0 0), (3, .ptr 5 0), (4, .ptr 6 0)], [(0, .box [.vec 1, .vec 2, .vec 3, .vec 4]), (1, .nilv), (2, .nilv), (3, .nilv), (4, .nilv), (5, .box [.pure (encL 1 az3 y90.1), pz y90.2.1]), (6, .box [.pure (encL 12 az9 y4.1.Joints), .pure (encL 5 azb y4.1.Masses), .vec 7, .vec 8]), (7, vecO 3 azd y90.2.2 108), (8, .nilv)], [], 9⟩)
 (fun x73 => .br (decide (x73.2.2.2 < ((y4.1.Joints.length : Nat) : Int)))
 (.cut 0 (fun (y101 : ((List Int) × Int × (List azn))) => ⟨[(2, .ptr 0 0), (3, .ptr 5 0), (4, .ptr 6 0), (5, pz x73.2.2.2)], [(0, .box [.vec 1, .vec 2, .vec 3, .vec 4]), (1, .nilv), (2, .nilv), (3, .nilv), (4, .nilv), (5, .box [.pure (encL 1 az3 y101.1), pz y101.2.1]), (6, .box [.pure (encL 12 az9 y4.1.Joints), .pure (encL 5 azb y4.1.Masses), .vec 7, .vec 8]), (7, vecO 3 azd y101.2.2 108), (8, .nilv)], [], 9⟩)
 (.call (azf x73.1 x73.2.1 5) [(0, 5)] fun y103 =>
 .br (decide (y103.1 < 4))
 (.call (azf y103.2.1 y103.2.2 3) [(0, 5)] fun y104 =>
 .ok ((8 : Int) ≠ 0) (by decide) <|
 .call (azf y104.2.1 y104.2.2 4) [(0, 5)] fun y105 =>
 .call (hz4 y105.2.1 y105.2.2 ((IntKind.i64.wrap (y105.1 * 32768)), 0, 0)) [(0, 5)] fun y106 =>
 .conv 7015 (dzo 3 azd ([(⟨x73.2.2.2, (IntKind.i64.wrap ((IntKind.i64.wrap ((IntKind.i64.wrap (1 + y104.1)) * 65536)).tdiv 8)), y106.1⟩ : azn)] : (List azn)) 108) <|
 .conv 7016 (izb 3 azd x73.2.2.1 ([(⟨x73.2.2.2, (IntKind.i64.wrap ((IntKind.i64.wrap ((IntKind.i64.wrap (1 + y104.1)) * 65536)).tdiv 8)), y106.1⟩ : azn)] : (List azn)) 108) <|
 .grd ((x73.2.2.1.length + ([(⟨x73.2.2.2, (IntKind.i64.wrap ((IntKind.i64.wrap ((IntKind.i64.wrap (1 + y104.1)) * 65536)).tdiv 8)), y106.1⟩ : azn)] : (List azn)).length) * 40 ≤ 140737488355328 ∧ (x73.2.2.1.length + ([(⟨x73.2.2.2, (IntKind.i64.wrap ((IntKind.i64.wrap ((IntKind.i64.wrap (1 + y104.1)) * 65536)).tdiv 8)), y106.1⟩ : azn)] : (List azn)).length) ≤ maxLen) <|
 .ret (.out (y106.2.1, y106.2.2, (x73.2.2.1 ++ ([(⟨x73.2.2.2, (IntKind.i64.wrap ((IntKind.i64.wrap ((IntKind.i64.wrap (1 + y104.1)) * 65536)).tdiv 8)), y106.1⟩ : azn)] : (List azn))))))
 (.ret (.out (y103.2.1, y103.2.2, x73.2.2.1)))) fun y101 =>
 .ret (.next (y101.1, y101.2.1, y101.2.2, (IntKind.i64.wrap (x73.2.2.2 + 1)))))
 (.ret (.out (x73.1, x73.2.1, x73.2.2.1))))
 (y4.2.1, y4.2.2, nl, 0) [] fun y90 =>
 .call (azf y90.1 y90.2.1 3) [(0, 5)] fun y161 =>
 .loop (fun (x179 : ((List Int) × Int × (List azn) × Int)) => ⟨[(2, .ptr 0 0), (3, .ptr 5 0), (4, .ptr 6 0), (6, pz x179.2.2.2)], [(0, .box [.vec 1, .vec 2, .vec 3, .vec 4]), (1, .nilv), (2, .nilv), (3, .nilv), (4, .nilv), (5, .box [.pure (encL 1 az3 x179.1), pz x179.2.1]), (6, .box [.pure (encL 12 az9 y4.1.Joints), .pure (encL 5 azb y4.1.Masses), .vec 7, .vec 8]), (7, vecO 3 azd x179.2.2.1 108), (8, .nilv)], [], 9⟩)
 (.exit 2) (fun (y196 : ((List Int) × Int × (List azn))) => ⟨[(2, .ptr 0 0), (3, .ptr 5 0), (4, .ptr 6 0)], [(0, .box [.vec 1, .vec 2, .vec 3, .vec 4]), (1, .nilv), (2, .nilv), (3, .nilv), (4, .nilv), (5, .box [.pure (encL 1 az3 y196.1), pz y196.2.1]), (6, .box [.pure (encL 12 az9 y4.1.Joints), .pure (encL 5 azb y4.1.Masses), .vec 7, .vec 8]), (7, vecO 3 azd y196.2.2 108), (8, .nilv)], [], 9⟩)
 (fun x179 => .br (decide (x179.2.2.2 > 0))
 (.call (bzb x179.1 x179.2.1 9) [(0, 5)] fun y208 =>
 .call (bzb y208.2.1 y208.2.2 9) [(0, 5)] fun y209 =>
 .call (bzb y209.2.1 y209.2.2 2) [(0, 5)] fun y210 =>
 .call (azf y210.2.1 y210.2.2 4) [(0, 5)] fun y211 =>
 .ok ((8 : Int) ≠ 0) (by decide) <|
 .call (hz4 y211.2.1 y211.2.2 ((IntKind.i64.wrap (y208.1 * 32768)), (IntKind.i64.wrap (y209.1 * 32768)), (IntKind.i64.wrap (y210.1 * 32768)))) [(0, 5)] fun y212 =>
 .conv 12011 (dzo 3 azd ([(⟨(-1), (IntKind.i64.wrap ((IntKind.i64.wrap ((IntKind.i64.wrap (1 + y211.1)) * 65536)).tdiv 8)), y212.1⟩ : azn)] : (List azn)) 108) <|
 .conv 12012 (izb 3 azd x179.2.2.1 ([(⟨(-1), (IntKind.i64.wrap ((IntKind.i64.wrap ((IntKind.i64.wrap (1 + y211.1)) * 65536)).tdiv 8)), y212.1⟩ : azn)] : (List azn)) 108) <|
 .grd ((x179.2.2.1.length + ([(⟨(-1), (IntKind.i64.wrap ((IntKind.i64.wrap ((IntKind.i64.wrap (1 + y211.1)) * 65536)).tdiv 8)), y212.1⟩ : azn)] : (List azn)).length) * 40 ≤ 140737488355328 ∧ (x179.2.2.1.length + ([(⟨(-1), (IntKind.i64.wrap ((IntKind.i64.wrap ((IntKind.i64.wrap (1 + y211.1)) * 65536)).tdiv 8)), y212.1⟩ : azn)] : (List azn)).length) ≤ maxLen) <|
 .ret (.next (y212.2.1, y212.2.2, (x179.2.2.1 ++ ([(⟨(-1), (IntKind.i64.wrap ((IntKind.i64.wrap ((IntKind.i64.wrap (1 + y211.1)) * 65536)).tdiv 8)), y212.1⟩ : azn)] : (List azn))), (IntKind.i64.wrap (x179.2.2.2 - 1)))))
 (.ret (.out (x179.1, x179.2.1, x179.2.2.1))))
 (y161.2.1, y161.2.2, y90.2.2, (IntKind.i64.wrap (1 + y161.1))) [] fun y196 =>
 .cut 0 (fun (y219 : (List ezc)) => ⟨[(2, .ptr 0 0), (4, .ptr 5 0)], [(0, .box [.vec 1, .vec 2, .vec 3, .vec 4]), (1, .nilv), (2, .nilv), (3, .nilv), (4, .nilv), (5, .box [.pure (encL 12 az9 y4.1.Joints), .pure (encL 5 azb y4.1.Masses), .vec 6, .vec 7]), (6, vecO 3 azd y196.2.2 108), (7, vecO 2 azq y219 154)], [], 8⟩)
 (.call (azf y196.1 y196.2.1 5) [(0, 5)] fun y221 =>
 .br (y221.1 == 1)
 (.call (azf y221.2.1 y221.2.2 ((y4.1.Joints.length : Nat) : Int)) [(0, 5)] fun y222 =>
 .conv 14009 (dzo 2 azq ([(⟨(-1), y222.1⟩ : ezc)] : (List ezc)) 154) <|
 .grd (([(⟨(-1), y222.1⟩ : ezc)] : (List ezc)).length * 16 ≤ 140737488355328 ∧ ([(⟨(-1), y222.1⟩ : ezc)] : (List ezc)).length ≤ maxLen) <|
 .ret (.out ([(⟨(-1), y222.1⟩ : ezc)] : (List ezc))))
 (.ret (.out nl))) fun y219 =>
 .ret (⟨(⟨y4.1.Joints, y4.1.Masses⟩ : azm), y196.2.2, y219⟩ : aza)
noncomputable def tz6 (a0 : (List Int)) : CallS aza :=
  mkC [] hd Tryz.func44 (by kernel_rfl) (tz7 a0) 0 [.pure (encL 1 az3 a0)] [] (fun r => .pure (cz0 r)) (fun _ => []) (by kernel_rfl)
noncomputable def qzd (a0 : azm) (a1 : (List Int)) : T (List Int) :=
 .call (qze a1) [] fun y103 =>
 .loop (fun (x172 : ((List Int) × Int × (List Int) × Int)) => ⟨[(2, .ptr 0 0), (5, .ptr 1 0), (6, .vec 2), (7, pz x172.2.2.2)], [(0, .box [.pure (encL 12 az9 a0.Joints), .pure (encL 5 azb a0.Masses)]), (1, .box [.pure (encL 1 az3 x172.1), pz x172.2.1]), (2, vecO 1 az3 x172.2.2.1 2)], [], 3⟩)
 (.exit 0) (fun (y189 : (List Int)) => ⟨[(6, .vec 0)], [(0, vecO 1 az3 y189 2)], [], 1⟩)
 (fun x172 => .br (decide (x172.2.2.2 < ((a0.Joints.length : Nat) : Int)))
 (.cut 0 (fun (y200 : ((List Int) × Int × (List Int))) => ⟨[(2, .ptr 0 0), (5, .ptr 1 0), (6, .vec 2), (7, pz x172.2.2.2)], [(0, .box [.pure (encL 12 az9 a0.Joints), .pure (encL 5 azb a0.Masses)]), (1, .box [.pure (encL 1 az3 y200.1), pz y200.2.1]), (2, vecO 1 az3 y200.2.2 2)], [], 3⟩)
 (.grd (0 ≤ x172.2.2.2 ∧ x172.2.2.2 < ((a0.Joints.length : Nat) : Int)) <|
 .grd (0 ≤ x172.2.2.2 ∧ x172.2.2.2 < ((a0.Joints.length : Nat) : Int)) <|
 .call (azf x172.1 x172.2.1 6) [(0, 1)] fun y202 =>
 .br (y202.1 == 0)
 (.conv 10002 (dzo 1 az3 ([(a0.Joints.getD ((x172.2.2.2).toNat) default).Lo] : (List Int)) 2) <|
 .conv 10003 (izb 1 az3 x172.2.2.1 ([(a0.Joints.getD ((x172.2.2.2).toNat) default).Lo] : (List Int)) 2) <|
 .grd ((x172.2.2.1.length + ([(a0.Joints.getD ((x172.2.2.2).toNat) default).Lo] : (List Int)).length) * 8 ≤ 140737488355328 ∧ (x172.2.2.1.length + ([(a0.Joints.getD ((x172.2.2.2).toNat) default).Lo] : (List Int)).length) ≤ maxLen) <|
 .ret (.out (y202.2.1, y202.2.2, (x172.2.2.1 ++ ([(a0.Joints.getD ((x172.2.2.2).toNat) default).Lo] : (List Int))))))
 (.br (y202.1 == 1)
 (.conv 12002 (dzo 1 az3 ([(a0.Joints.getD ((x172.2.2.2).toNat) default).Hi] : (List Int)) 2) <|
 .conv 12003 (izb 1 az3 x172.2.2.1 ([(a0.Joints.getD ((x172.2.2.2).toNat) default).Hi] : (List Int)) 2) <|
 .grd ((x172.2.2.1.length + ([(a0.Joints.getD ((x172.2.2.2).toNat) default).Hi] : (List Int)).length) * 8 ≤ 140737488355328 ∧ (x172.2.2.1.length + ([(a0.Joints.getD ((x172.2.2.2).toNat) default).Hi] : (List Int)).length) ≤ maxLen) <|
 .ret (.out (y202.2.1, y202.2.2, (x172.2.2.1 ++ ([(a0.Joints.getD ((x172.2.2.2).toNat) default).Hi] : (List Int))))))
 (.name 8005 ((IntKind.i64.wrap (((a0.Joints.getD ((x172.2.2.2).toNat) default).Hi) - ((a0.Joints.getD ((x172.2.2.2).toNat) default).Lo)))) fun z203 =>
 .name 8006 ((IntKind.i64.wrap (z203 + 1))) fun z204 =>
 .call (azf y202.2.1 y202.2.2 z204) [(0, 1)] fun y205 =>
 .conv 8009 (dzo 1 az3 ([(IntKind.i64.wrap (((a0.Joints.getD ((x172.2.2.2).toNat) default).Lo) + y205.1))] : (List Int)) 2) <|
 .conv 8010 (izb 1 az3 x172.2.2.1 ([(IntKind.i64.wrap (((a0.Joints.getD ((x172.2.2.2).toNat) default).Lo) + y205.1))] : (List Int)) 2) <|
 .grd ((x172.2.2.1.length + ([(IntKind.i64.wrap (((a0.Joints.getD ((x172.2.2.2).toNat) default).Lo) + y205.1))] : (List Int)).length) * 8 ≤ 140737488355328 ∧ (x172.2.2.1.length + ([(IntKind.i64.wrap (((a0.Joints.getD ((x172.2.2.2).toNat) default).Lo) + y205.1))] : (List Int)).length) ≤ maxLen) <|
 .ret (.out (y205.2.1, y205.2.2, (x172.2.2.1 ++ ([(IntKind.i64.wrap (((a0.Joints.getD ((x172.2.2.2).toNat) default).Lo) + y205.1))] : (List Int)))))))) fun y200 =>
 .ret (.next (y200.1, y200.2.1, y200.2.2, (IntKind.i64.wrap (x172.2.2.2 + 1)))))
 (.ret (.out x172.2.2.1)))
 (y103.1, y103.2, nl, 0) [] fun y189 =>
 .ret y189
noncomputable def lz0 (a0 : azm) (a1 : (List Int)) : CallS (List Int) :=
  mkC [] hd Tryz.func42 (by kernel_rfl) (qzd a0 a1) 0 [.pure (czo a0), .pure (encL 1 az3 a1)] [] (fun _ => .vec 0) (fun r => [(0, vecO 1 az3 r 2)]) (by kernel_rfl)
noncomputable def nzy (a0 : (List Int)) (a1 : (List Int)) (a2 : (List Int)) (a3 : Int) : T (aza × (List Int) × (List Int) × Int) :=
 .call (tz6 a0) [] fun y37 =>
 .call (lz0 y37.Robot a1) [] fun y40 =>
 .call (lz0 y37.Robot a2) [] fun y41 =>
 .cut 0 (fun (y60 : (List Int)) => ⟨[(3, pz a3), (8, .ptr 0 0), (12, .ptr 5 0), (13, .vec 6), (14, .vec 7)], [(0, .box [.vec 1, .vec 2, .vec 3, .vec 4]), (1, .nilv), (2, .nilv), (3, .nilv), (4, .nilv), (5, .box [.pure (encL 12 az9 y37.Robot.Joints), .pure (encL 5 azb y37.Robot.Masses), .pure (encL 3 azd y37.Shapes), .pure (encL 2 azq y37.Skips)]), (6, vecO 1 az3 y40 2), (7, vecO 1 az3 y60 2)], [], 8⟩)
 (.br ((IntKind.i64.wrap (((BitVec.ofInt 64 a3 &&& BitVec.ofInt 64 8).toNat : Int))) == 8)
 (.loop (fun (x64 : ((List Int) × Int)) => ⟨[(3, pz a3), (8, .ptr 0 0), (12, .ptr 5 0), (13, .vec 6), (14, .vec 7), (15, pz x64.2)], [(0, .box [.vec 1, .vec 2, .vec 3, .vec 4]), (1, .nilv), (2, .nilv), (3, .nilv), (4, .nilv), (5, .box [.pure (encL 12 az9 y37.Robot.Joints), .pure (encL 5 azb y37.Robot.Masses), .pure (encL 3 azd y37.Shapes), .pure (encL 2 azq y37.Skips)]), (6, vecO 1 az3 y40 2), (7, vecO 1 az3 x64.1 2)], [], 8⟩)
 (.exit 0) (fun (y67 : (List Int)) => ⟨[(3, pz a3), (8, .ptr 0 0), (12, .ptr 5 0), (13, .vec 6), (14, .vec 7)], [(0, .box [.vec 1, .vec 2, .vec 3, .vec 4]), (1, .nilv), (2, .nilv), (3, .nilv), (4, .nilv), (5, .box [.pure (encL 12 az9 y37.Robot.Joints), .pure (encL 5 azb y37.Robot.Masses), .pure (encL 3 azd y37.Shapes), .pure (encL 2 azq y37.Skips)]), (6, vecO 1 az3 y40 2), (7, vecO 1 az3 y67 2)], [], 8⟩)
 (fun x64 => .br (decide (x64.2 < ((x64.1.length : Nat) : Int)))
 (.grd (0 ≤ x64.2 ∧ x64.2 < ((y40.length : Nat) : Int)) <|
 .grd ((x64.2).toNat < y40.length) <|
 .grd (0 ≤ x64.2 ∧ x64.2 < ((x64.1.length : Nat) : Int)) <|
 .grd ((x64.2).toNat < x64.1.length) <|
 .grd (0 ≤ x64.2 ∧ x64.2 < ((y40.length : Nat) : Int)) <|
 .grd ((x64.2).toNat < y40.length) <|
 .ok ((16 : Int) ≠ 0) (by decide) <|
 .name 7015 ((IntKind.i64.wrap ((IntKind.i64.wrap ((x64.1.getD ((x64.2).toNat) default) - (y40.getD ((x64.2).toNat) default))).tdiv 16))) fun z69 =>
 .grd (0 ≤ x64.2 ∧ x64.2 < ((x64.1.length : Nat) : Int)) <|
 .conv 7018 (pz3 1 az3 x64.1 2 ((x64.2).toNat) (IntKind.i64.wrap ((y40.getD ((x64.2).toNat) default) + z69))) <|
 .grd ((x64.2).toNat < x64.1.length ∧ 0 ≤ (x64.2).toNat) <|
 .ret (.next ((x64.1.set ((x64.2).toNat) (IntKind.i64.wrap ((y40.getD ((x64.2).toNat) default) + z69))), (IntKind.i64.wrap (x64.2 + 1)))))
 (.ret (.out x64.1)))
 (y41, 0) [] fun y67 =>
 .ret (.out y67))
 (.ret (.out y41))) fun y60 =>
 .ok (0 ≤ (4 : Int)) (by decide) <|
 .call (mzt (a3.fdiv (2 ^ (min (4 : Int).toNat 64))) 6) [] fun y70 =>
 .ret (y37, y40, y60, y70)
noncomputable def nzx (a0 : (List Int)) (a1 : (List Int)) (a2 : (List Int)) (a3 : Int) : CallS (aza × (List Int) × (List Int) × Int) :=
  mkC [] hd Tryz.func28 (by kernel_rfl) (nzy a0 a1 a2 a3) 0 [.pure (encL 1 az3 a0), .pure (encL 1 az3 a1), .pure (encL 1 az3 a2), pz a3] [] (fun r => .tup [.pure (cz0 r.1), .pure (encL 1 az3 r.2.1), .pure (encL 1 az3 r.2.2.1), pz r.2.2.2]) (fun _ => []) (by kernel_rfl)
noncomputable def Kzz : T aza :=
 .conv 1001 (dzo 12 az9 ([(⟨(⟨#[97]⟩ : ByteArray), 4, (-1), (0, 0, 0), 0, 90000, 1, 1, 1, 1⟩ : azi)] : (List azi)) 147) <|
 .conv 2002 (dzo 3 az1 ([(0, 0, 0)] : (List (Int × Int × Int))) 49) <|
 .conv 2005 (dzo 3 az1 ([(50000, 0, 0)] : (List (Int × Int × Int))) 49) <|
 .conv 2007 (dzo 3 azd ([(⟨0, 9, ([(0, 0, 0)] : (List (Int × Int × Int)))⟩ : azn), (⟨(-1), 9, ([(50000, 0, 0)] : (List (Int × Int × Int)))⟩ : azn)] : (List azn)) 108) <|
 .ret (⟨(⟨([(⟨(⟨#[97]⟩ : ByteArray), 4, (-1), (0, 0, 0), 0, 90000, 1, 1, 1, 1⟩ : azi)] : (List azi)), nl⟩ : azm), ([(⟨0, 9, ([(0, 0, 0)] : (List (Int × Int × Int)))⟩ : azn), (⟨(-1), 9, ([(50000, 0, 0)] : (List (Int × Int × Int)))⟩ : azn)] : (List azn)), nl⟩ : aza)
noncomputable def Czq : CallS aza :=
  mkC [] hd Tryz.func64 (by kernel_rfl) (Kzz) 0 [] [] (fun r => .pure (cz0 r)) (fun _ => []) (by kernel_rfl)
noncomputable def kzo (a0 : Int) : T Bool :=
 .br (decide (97 ≤ a0))
 (.ret (decide (a0 ≤ 122)))
 (.ret false)
noncomputable def szb (a0 : Int) : CallS Bool :=
  mkC [] hd Tryz.func248 (by kernel_rfl) (kzo a0) 0 [.pure (.int .i32 a0)] [] (fun r => .pure (.bool r)) (fun _ => []) (by kernel_rfl)
noncomputable def mzh (a0 : Int) : T Bool :=
 .br (decide (48 ≤ a0))
 (.ret (decide (a0 ≤ 57)))
 (.ret false)
noncomputable def uzk (a0 : Int) : CallS Bool :=
  mkC [] hd Tryz.func249 (by kernel_rfl) (mzh a0) 0 [.pure (.int .i32 a0)] [] (fun r => .pure (.bool r)) (fun _ => []) (by kernel_rfl)
noncomputable def uzj (a0 : ByteArray) : T Bool :=
 .cut 2 (fun (y2 : Bool) => ⟨[(0, .pure (.str a0)), (16, .pure (.bool y2))], [], [], 0⟩)
 (.br (((a0.size : Nat) : Int) == 0)
 (.ret (.out true))
 (.br (decide (((a0.size : Nat) : Int) > 16))
 (.ret (.out true))
 (.ret (.out (a0 == (⟨#[119, 111, 114, 108, 100]⟩ : ByteArray)))))) fun y2 =>
 .br y2
 (.ret false)
 (.loop (fun (x35 : Nat) => ⟨[(18, .ptr 0 0)], [(0, .iter a0 x35)], [], 1⟩)
 (.exit 0) (fun (_ : U0) => ⟨[], [], [], 0⟩)
 (fun x35 => .brP (x35 < a0.size)
 (.cut 2 (fun (y48 : Bool) => ⟨[(18, .ptr 0 0), (38, .pure (.bool y48))], [(0, .iter a0 (x35 + (Utf8.decode a0 x35).2))], [], 1⟩)
 (.call (szb ((Utf8.decode a0 x35).1 : Int)) [] fun y49 =>
 .br (!y49)
 (.br (((x35 : Nat) : Int) == 0)
 (.ret (.out true))
 (.call (uzk ((Utf8.decode a0 x35).1 : Int)) [] fun y50 =>
 .br (!y50)
 (.ret (.out (((Utf8.decode a0 x35).1 : Int) != 95)))
 (.ret (.out false))))
 (.ret (.out false))) fun y48 =>
 .br y48
 (.ret (.fin false))
 (.ret (.next (x35 + (Utf8.decode a0 x35).2))))
 (.ret (.out .u)))
 0 [] fun _ =>
 .ret true)
noncomputable def Bz8 (a0 : ByteArray) : CallS Bool :=
  mkC [] hd Tryz.func215 (by kernel_rfl) (uzj a0) 0 [.pure (.str a0)] [] (fun r => .pure (.bool r)) (fun _ => []) (by kernel_rfl)
noncomputable def uz9 (a0 : azm) (a1 : ByteArray) : T Int :=
 .loop (fun (x5 : Int) => ⟨[(1, .pure (.str a1)), (2, .ptr 0 0), (8, pz ((a0.Joints.length : Nat) : Int)), (9, pz x5)], [(0, .box [.pure (encL 12 az9 a0.Joints), .pure (encL 5 azb a0.Masses)])], [], 1⟩)
 (.exit 0) (fun (_ : U0) => ⟨[], [], [], 0⟩)
 (fun x5 => .br (decide (x5 < ((a0.Joints.length : Nat) : Int)))
 (.grd (0 ≤ x5 ∧ x5 < ((a0.Joints.length : Nat) : Int)) <|
 .br (((a0.Joints.getD ((x5).toNat) default).Name) == a1)
 (.ret (.fin x5))
 (.ret (.next (IntKind.i64.wrap (x5 + 1)))))
 (.ret (.out .u)))
 0 [] fun _ =>
 .ret (-1)
noncomputable def Bz3 (a0 : azm) (a1 : ByteArray) : CallS Int :=
  mkC [] hd Tryz.func216 (by kernel_rfl) (uz9 a0 a1) 0 [.pure (czo a0), .pure (.str a1)] [] (fun r => pz r) (fun _ => []) (by kernel_rfl)
noncomputable def ozp (a0 : (Int × Int × Int)) : T Bool :=
 .loop (fun (x13 : Int) => ⟨[(5, .pure (az1 a0)), (6, pz x13)], [], [], 0⟩)
 (.exit 0) (fun (_ : U0) => ⟨[], [], [], 0⟩)
 (fun x13 => .br (decide (x13 < 3))
 (.grd (0 ≤ x13 ∧ x13 < ((3 : Nat) : Int)) <|
 .cut 0 (fun (y18 : Bool) => ⟨[(5, .pure (az1 a0)), (6, pz x13), (14, .pure (.bool y18))], [], [], 0⟩)
 (.br (decide ((([a0.1, a0.2.1, a0.2.2] : List Int).getD (x13).toNat 0) < (-4194304)))
 (.ret (.out true))
 (.ret (.out (decide ((([a0.1, a0.2.1, a0.2.2] : List Int).getD (x13).toNat 0) > 4194304))))) fun y18 =>
 .br y18
 (.ret (.fin true))
 (.ret (.next (IntKind.i64.wrap (x13 + 1)))))
 (.ret (.out .u)))
 0 [] fun _ =>
 .ret false
noncomputable def ozo (a0 : (Int × Int × Int)) : CallS Bool :=
  mkC [] hd Tryz.func217 (by kernel_rfl) (ozp a0) 0 [.pure (az1 a0)] [] (fun r => .pure (.bool r)) (fun _ => []) (by kernel_rfl)
noncomputable def rzc (a0 : Int) : T Int :=
 .cut 3 (fun (y3 : Bool) => ⟨[(3, pz a0), (4, .pure (.bool y3))], [], [], 0⟩)
 (.br (a0 == 1)
 (.ret (.out (a0 == 1)))
 (.br (a0 == 2)
 (.ret (.out (a0 == 2)))
 (.ret (.out (a0 == 3))))) fun y3 =>
 .br y3
 (.ret 524288)
 (.cut 0 (fun (y4 : Bool) => ⟨[(8, .pure (.bool y4))], [], [], 0⟩)
 (.br (a0 == 4)
 (.ret (.out (a0 == 4)))
 (.br (a0 == 5)
 (.ret (.out (a0 == 5)))
 (.ret (.out (a0 == 6))))) fun y4 =>
 .br y4
 (.ret 4194304)
 (.ret 0))
noncomputable def yzf (a0 : Int) : CallS Int :=
  mkC [] hd Tryz.func218 (by kernel_rfl) (rzc a0) 0 [pz a0] [] (fun r => pz r) (fun _ => []) (by kernel_rfl)
noncomputable def rzb (a0 : Int) (a1 : Int) : T Bool :=
 .br (decide (1 ≤ a0))
 (.ret (decide (a0 ≤ a1)))
 (.ret false)
noncomputable def fzl (a0 : Int) (a1 : Int) : CallS Bool :=
  mkC [] hd Tryz.func219 (by kernel_rfl) (rzb a0 a1) 0 [pz a0, pz a1] [] (fun r => .pure (.bool r)) (fun _ => []) (by kernel_rfl)
noncomputable def hzx (a0 : azm) (a1 : Int) : T Int :=
 .grd (0 ≤ a1 ∧ a1 < ((a0.Joints.length : Nat) : Int)) <|
 .cut 1 (fun (y16 : Bool) => ⟨[(1, pz a1), (5, .ptr 0 0), (12, .pure (.bool y16))], [(0, .box [.pure (.str ((a0.Joints.getD ((a1).toNat) default).Name)), pz ((a0.Joints.getD ((a1).toNat) default).Kind), pz ((a0.Joints.getD ((a1).toNat) default).Parent), pz ((a0.Joints.getD ((a1).toNat) default).Offset.1), pz ((a0.Joints.getD ((a1).toNat) default).Offset.2.1), pz ((a0.Joints.getD ((a1).toNat) default).Offset.2.2), pz ((a0.Joints.getD ((a1).toNat) default).Lo), pz ((a0.Joints.getD ((a1).toNat) default).Hi), pz ((a0.Joints.getD ((a1).toNat) default).Weight), pz ((a0.Joints.getD ((a1).toNat) default).Speed), pz ((a0.Joints.getD ((a1).toNat) default).Accel), pz ((a0.Joints.getD ((a1).toNat) default).Torque)])], [], 1⟩)
 (.call (Bz8 ((a0.Joints.getD ((a1).toNat) default).Name)) [] fun y17 =>
 .br (!y17)
 (.ret (.out true))
 (.call (Bz3 (⟨a0.Joints, a0.Masses⟩ : azm) ((a0.Joints.getD ((a1).toNat) default).Name)) [] fun y18 =>
 .ret (.out (y18 != a1)))) fun y16 =>
 .br y16
 (.ret 802)
 (.cut 0 (fun (y19 : Bool) => ⟨[(1, pz a1), (5, .ptr 0 0), (25, .pure (.bool y19))], [(0, .box [.pure (.str ((a0.Joints.getD ((a1).toNat) default).Name)), pz ((a0.Joints.getD ((a1).toNat) default).Kind), pz ((a0.Joints.getD ((a1).toNat) default).Parent), pz ((a0.Joints.getD ((a1).toNat) default).Offset.1), pz ((a0.Joints.getD ((a1).toNat) default).Offset.2.1), pz ((a0.Joints.getD ((a1).toNat) default).Offset.2.2), pz ((a0.Joints.getD ((a1).toNat) default).Lo), pz ((a0.Joints.getD ((a1).toNat) default).Hi), pz ((a0.Joints.getD ((a1).toNat) default).Weight), pz ((a0.Joints.getD ((a1).toNat) default).Speed), pz ((a0.Joints.getD ((a1).toNat) default).Accel), pz ((a0.Joints.getD ((a1).toNat) default).Torque)])], [], 1⟩)
 (.br (decide (((a0.Joints.getD ((a1).toNat) default).Kind) < 0))
 (.ret (.out true))
 (.ret (.out (decide (((a0.Joints.getD ((a1).toNat) default).Kind) > 6))))) fun y19 =>
 .br y19
 (.ret 803)
 (.cut 0 (fun (y20 : Bool) => ⟨[(5, .ptr 0 0), (34, .pure (.bool y20))], [(0, .box [.pure (.str ((a0.Joints.getD ((a1).toNat) default).Name)), pz ((a0.Joints.getD ((a1).toNat) default).Kind), pz ((a0.Joints.getD ((a1).toNat) default).Parent), pz ((a0.Joints.getD ((a1).toNat) default).Offset.1), pz ((a0.Joints.getD ((a1).toNat) default).Offset.2.1), pz ((a0.Joints.getD ((a1).toNat) default).Offset.2.2), pz ((a0.Joints.getD ((a1).toNat) default).Lo), pz ((a0.Joints.getD ((a1).toNat) default).Hi), pz ((a0.Joints.getD ((a1).toNat) default).Weight), pz ((a0.Joints.getD ((a1).toNat) default).Speed), pz ((a0.Joints.getD ((a1).toNat) default).Accel), pz ((a0.Joints.getD ((a1).toNat) default).Torque)])], [], 1⟩)
 (.br (decide (((a0.Joints.getD ((a1).toNat) default).Parent) < (-1)))
 (.ret (.out true))
 (.ret (.out (decide (((a0.Joints.getD ((a1).toNat) default).Parent) ≥ a1))))) fun y20 =>
 .br y20
 (.ret 804)
 (.call (ozo ((a0.Joints.getD ((a1).toNat) default).Offset)) [] fun y22 =>
 .br y22
 (.ret 805)
 (.call (yzf ((a0.Joints.getD ((a1).toNat) default).Kind)) [] fun y24 =>
 .cut 1 (fun (y26 : Bool) => ⟨[(5, .ptr 0 0), (68, .pure (.bool y26))], [(0, .box [.pure (.str ((a0.Joints.getD ((a1).toNat) default).Name)), pz ((a0.Joints.getD ((a1).toNat) default).Kind), pz ((a0.Joints.getD ((a1).toNat) default).Parent), pz ((a0.Joints.getD ((a1).toNat) default).Offset.1), pz ((a0.Joints.getD ((a1).toNat) default).Offset.2.1), pz ((a0.Joints.getD ((a1).toNat) default).Offset.2.2), pz ((a0.Joints.getD ((a1).toNat) default).Lo), pz ((a0.Joints.getD ((a1).toNat) default).Hi), pz ((a0.Joints.getD ((a1).toNat) default).Weight), pz ((a0.Joints.getD ((a1).toNat) default).Speed), pz ((a0.Joints.getD ((a1).toNat) default).Accel), pz ((a0.Joints.getD ((a1).toNat) default).Torque)])], [], 1⟩)
 (.br (decide (((a0.Joints.getD ((a1).toNat) default).Lo) > ((a0.Joints.getD ((a1).toNat) default).Hi)))
 (.ret (.out true))
 (.br (decide (((a0.Joints.getD ((a1).toNat) default).Lo) < (IntKind.i64.wrap (0 - y24))))
 (.ret (.out true))
 (.ret (.out (decide (((a0.Joints.getD ((a1).toNat) default).Hi) > y24)))))) fun y26 =>
 .br y26
 (.ret 806)
 (.cut 1 (fun (y48 : Bool) => ⟨[(90, .pure (.bool y48))], [], [], 0⟩)
 (.call (fzl ((a0.Joints.getD ((a1).toNat) default).Weight) 1024) [] fun y49 =>
 .br (!y49)
 (.ret (.out true))
 (.call (fzl ((a0.Joints.getD ((a1).toNat) default).Speed) 1048576) [] fun y50 =>
 .br (!y50)
 (.ret (.out true))
 (.call (fzl ((a0.Joints.getD ((a1).toNat) default).Accel) 1048576) [] fun y51 =>
 .br (!y51)
 (.ret (.out true))
 (.call (fzl ((a0.Joints.getD ((a1).toNat) default).Torque) 1099511627776) [] fun y52 =>
 .ret (.out (!y52)))))) fun y48 =>
 .br y48
 (.ret 807)
 (.ret 0))))))
noncomputable def nz7 (a0 : azm) (a1 : Int) : CallS Int :=
  mkC [] hd Tryz.func165 (by kernel_rfl) (hzx a0 a1) 0 [.pure (czo a0), pz a1] [] (fun r => pz r) (fun _ => []) (by kernel_rfl)
noncomputable def izu (a0 : azm) (a1 : bza) : T Bool :=
 .br (decide (0 ≤ a1.Link))
 (.br (decide (a1.Link < ((a0.Joints.length : Nat) : Int)))
 (.call (fzl a1.Mass 65536) [] fun y1 =>
 .br y1
 (.call (ozo a1.Point) [] fun y2 =>
 .ret (!y2))
 (.ret false))
 (.ret false))
 (.ret false)
noncomputable def pzh (a0 : azm) (a1 : bza) : CallS Bool :=
  mkC [] hd Tryz.func168 (by kernel_rfl) (izu a0 a1) 0 [.pure (czo a0), .pure (azb a1)] [] (fun r => .pure (.bool r)) (fun _ => []) (by kernel_rfl)
noncomputable def mz7 (a0 : bza) (a1 : (List azi)) (a2 : (List bza)) : T (Bool × (List azi) × (List bza)) :=
 .call (pzh (⟨a1, a2⟩ : azm) (⟨a0.Link, a0.Mass, a0.Point⟩ : bza)) [] fun y1 =>
 .ret ((!y1), a1, a2)
noncomputable def uz8 (a0 : bza) (a1 : (List azi)) (a2 : (List bza)) : CallS (Bool × (List azi) × (List bza)) :=
  mkC [] hd Tryz.func167 (by kernel_rfl) (mz7 a0 a1 a2) 1 [.pure (azb a0), .ptr 0 0] [(0, .box [.pure (encL 12 az9 a1), .pure (encL 5 azb a2)])] (fun r => .pure (.bool r.1)) (fun r => [(0, .box [.pure (encL 12 az9 r.2.1), .pure (encL 5 azb r.2.2)])]) (by kernel_rfl)
noncomputable def cz3 (a0 : (List bza)) (a1 : (List azi)) (a2 : (List bza)) : T (Int × (List azi) × (List bza)) :=
 .loop (fun (x21 : ((List azi) × (List bza) × Int)) => ⟨[(0, .pure (encL 5 azb a0)), (1, .func 167 [] [.ptr 0 0]), (7, pz ((a0.length : Nat) : Int)), (8, pz x21.2.2)], [(0, .box [.pure (encL 12 az9 x21.1), .pure (encL 5 azb x21.2.1)])], [], 1⟩)
 (.exit 0) (fun (y26 : ((List azi) × (List bza))) => ⟨[], [(0, .box [.pure (encL 12 az9 y26.1), .pure (encL 5 azb y26.2)])], [], 1⟩)
 (fun x21 => .br (decide (x21.2.2 < ((a0.length : Nat) : Int)))
 (.grd (0 ≤ x21.2.2 ∧ x21.2.2 < ((a0.length : Nat) : Int)) <|
 .call (uz8 (a0.getD ((x21.2.2).toNat) default) x21.1 x21.2.1) [(0, 0)] fun y30 =>
 .br y30.1
 (.ret (.fin (x21.2.2, y30.2.1, y30.2.2)))
 (.ret (.next (y30.2.1, y30.2.2, (IntKind.i64.wrap (x21.2.2 + 1))))))
 (.ret (.out (x21.1, x21.2.1))))
 (a1, a2, 0) [] fun y26 =>
 .ret ((-1), y26.1, y26.2)
noncomputable def dze (a0 : (List bza)) (a1 : (List azi)) (a2 : (List bza)) : CallS (Int × (List azi) × (List bza)) :=
  mkC [] hd Tryz.func220 (by kernel_rfl) (cz3 a0 a1 a2) 1 [.pure (encL 5 azb a0), .func 167 [] [.ptr 0 0]] [(0, .box [.pure (encL 12 az9 a1), .pure (encL 5 azb a2)])] (fun r => pz r.1) (fun r => [(0, .box [.pure (encL 12 az9 r.2.1), .pure (encL 5 azb r.2.2)])]) (by kernel_rfl)
noncomputable def bzr (a0 : (List bza)) (a1 : (List azi)) (a2 : (List bza)) : T (Bool × (List azi) × (List bza)) :=
 .call (dze a0 a1 a2) [(0, 0)] fun y1 =>
 .ret ((decide (y1.1 ≥ 0)), y1.2.1, y1.2.2)
noncomputable def czy (a0 : (List bza)) (a1 : (List azi)) (a2 : (List bza)) : CallS (Bool × (List azi) × (List bza)) :=
  mkC [] hd Tryz.func166 (by kernel_rfl) (bzr a0 a1 a2) 1 [.pure (encL 5 azb a0), .func 167 [] [.ptr 0 0]] [(0, .box [.pure (encL 12 az9 a1), .pure (encL 5 azb a2)])] (fun r => .pure (.bool r.1)) (fun r => [(0, .box [.pure (encL 12 az9 r.2.1), .pure (encL 5 azb r.2.2)])]) (by kernel_rfl)
noncomputable def rza (a0 : azm) : T Int :=
 .cut 2 (fun (y2 : Bool) => ⟨[(1, .ptr 0 0), (14, .pure (.bool y2))], [(0, .box [.pure (encL 12 az9 a0.Joints), .pure (encL 5 azb a0.Masses)])], [], 1⟩)
 (.br (((a0.Joints.length : Nat) : Int) == 0)
 (.ret (.out true))
 (.ret (.out (decide (((a0.Joints.length : Nat) : Int) > 10))))) fun y2 =>
 .br y2
 (.ret 801)
 (.loop (fun (x23 : Int) => ⟨[(1, .ptr 0 0), (17, pz ((a0.Joints.length : Nat) : Int)), (18, pz x23)], [(0, .box [.pure (encL 12 az9 a0.Joints), .pure (encL 5 azb a0.Masses)])], [], 1⟩)
 (.exit 0) (fun (_ : U0) => ⟨[(1, .ptr 0 0)], [(0, .box [.pure (encL 12 az9 a0.Joints), .pure (encL 5 azb a0.Masses)])], [], 1⟩)
 (fun x23 => .br (decide (x23 < ((a0.Joints.length : Nat) : Int)))
 (.call (nz7 (⟨a0.Joints, a0.Masses⟩ : azm) x23) [] fun y32 =>
 .br (y32 != 0)
 (.ret (.fin y32))
 (.ret (.next (IntKind.i64.wrap (x23 + 1)))))
 (.ret (.out .u)))
 0 [] fun _ =>
 .cut 1 (fun (y39 : Bool) => ⟨[(37, .pure (.bool y39))], [], [], 0⟩)
 (.br (decide (((a0.Masses.length : Nat) : Int) > 32))
 (.ret (.out true))
 (.call (czy a0.Masses a0.Joints a0.Masses) [(0, 0)] fun y40 =>
 .ret (.out y40.1))) fun y39 =>
 .br y39
 (.ret 808)
 (.ret 0))
noncomputable def rz9 (a0 : azm) : CallS Int :=
  mkC [] hd Tryz.func119 (by kernel_rfl) (rza a0) 0 [.pure (czo a0)] [] (fun r => pz r) (fun _ => []) (by kernel_rfl)
noncomputable def ozq (a0 : aza) (a1 : Int) : T Bool :=
 .br (decide ((-1) ≤ a1))
 (.ret (decide (a1 < ((a0.Robot.Joints.length : Nat) : Int))))
 (.ret false)
noncomputable def jzf (a0 : aza) (a1 : Int) : CallS Bool :=
  mkC [] hd Tryz.func121 (by kernel_rfl) (ozq a0 a1) 0 [.pure (cz0 a0), pz a1] [] (fun r => .pure (.bool r)) (fun _ => []) (by kernel_rfl)
noncomputable def iz1 (a0 : aza) (a1 : azn) : T Int :=
 .cut 3 (fun (y269 : Bool) => ⟨[(3, .ptr 0 0), (35, .pure (.bool y269))], [(0, .box [pz a1.Link, pz a1.Radius, .pure (encL 3 az1 a1.Points)])], [], 1⟩)
 (.call (jzf a0 a1.Link) [] fun y270 =>
 .br (!y270)
 (.ret (.out true))
 (.br (decide (a1.Radius < 1))
 (.ret (.out true))
 (.br (decide (a1.Radius > 1048576))
 (.ret (.out true))
 (.br (decide (((a1.Points.length : Nat) : Int) < 1))
 (.ret (.out true))
 (.ret (.out (decide (((a1.Points.length : Nat) : Int) > 8)))))))) fun y269 =>
 .br y269
 (.ret 902)
 (.loop (fun (x443 : Int) => ⟨[(37, .pure (encL 3 az1 a1.Points)), (38, pz ((a1.Points.length : Nat) : Int)), (39, pz x443)], [], [], 0⟩)
 (.exit 0) (fun (_ : U0) => ⟨[], [], [], 0⟩)
 (fun x443 => .br (decide (x443 < ((a1.Points.length : Nat) : Int)))
 (.grd (0 ≤ x443 ∧ x443 < ((a1.Points.length : Nat) : Int)) <|
 .loop (fun (x515 : Int) => ⟨[(37, .pure (encL 3 az1 a1.Points)), (38, pz ((a1.Points.length : Nat) : Int)), (39, pz x443), (43, .pure (az1 (a1.Points.getD ((x443).toNat) default))), (44, pz x515)], [], [], 0⟩)
 (.exit 2) (fun (_ : U0) => ⟨[(37, .pure (encL 3 az1 a1.Points)), (38, pz ((a1.Points.length : Nat) : Int)), (39, pz x443)], [], [], 0⟩)
 (fun x515 => .br (decide (x515 < 3))
 (.grd (0 ≤ x515 ∧ x515 < ((3 : Nat) : Int)) <|
 .name 9000 ((([(a1.Points.getD ((x443).toNat) default).1, (a1.Points.getD ((x443).toNat) default).2.1, (a1.Points.getD ((x443).toNat) default).2.2] : List Int).getD (x515).toNat 0)) fun z527 =>
 .cut 0 (fun (y528 : Bool) => ⟨[(37, .pure (encL 3 az1 a1.Points)), (38, pz ((a1.Points.length : Nat) : Int)), (39, pz x443), (43, .pure (az1 (a1.Points.getD ((x443).toNat) default))), (44, pz x515), (52, .pure (.bool y528))], [], [], 0⟩)
 (.br (decide (z527 < (-4194304)))
 (.ret (.out true))
 (.ret (.out (decide (z527 > 4194304))))) fun y528 =>
 .br y528
 (.ret (.fin (.fin 805)))
 (.ret (.next (IntKind.i64.wrap (x515 + 1)))))
 (.ret (.out .u)))
 0 [] fun _ =>
 .ret (.next (IntKind.i64.wrap (x443 + 1))))
 (.ret (.out .u)))
 0 [] fun _ =>
 .ret 0)
noncomputable def nz9 (a0 : aza) (a1 : azn) : CallS Int :=
  mkC [] hd Tryz.func120 (by kernel_rfl) (iz1 a0 a1) 0 [.pure (cz0 a0), .pure (azd a1)] [] (fun r => pz r) (fun _ => []) (by kernel_rfl)
noncomputable def rzd (a0 : aza) : T Int :=
 .call (rz9 a0.Robot) [] fun y4 =>
 .br (y4 != 0)
 (.ret y4)
 (.br (decide (((a0.Shapes.length : Nat) : Int) > 24))
 (.ret 901)
 (.loop (fun (x25 : Int) => ⟨[(1, .ptr 0 0), (20, .pure (encL 3 azd a0.Shapes)), (21, pz ((a0.Shapes.length : Nat) : Int)), (22, pz x25)], [(0, .box [.pure (encL 12 az9 a0.Robot.Joints), .pure (encL 5 azb a0.Robot.Masses), .pure (encL 3 azd a0.Shapes), .pure (encL 2 azq a0.Skips)])], [], 1⟩)
 (.exit 0) (fun (_ : U0) => ⟨[(1, .ptr 0 0)], [(0, .box [.pure (encL 12 az9 a0.Robot.Joints), .pure (encL 5 azb a0.Robot.Masses), .pure (encL 3 azd a0.Shapes), .pure (encL 2 azq a0.Skips)])], [], 1⟩)
 (fun x25 => .br (decide (x25 < ((a0.Shapes.length : Nat) : Int)))
 (.grd (0 ≤ x25 ∧ x25 < ((a0.Shapes.length : Nat) : Int)) <|
 .call (nz9 a0 (a0.Shapes.getD ((x25).toNat) default)) [] fun y34 =>
 .br (y34 != 0)
 (.ret (.fin y34))
 (.ret (.next (IntKind.i64.wrap (x25 + 1)))))
 (.ret (.out .u)))
 0 [] fun _ =>
 .br (decide (((a0.Skips.length : Nat) : Int) > 64))
 (.ret 903)
 (.loop (fun (x95 : Int) => ⟨[(1, .ptr 0 0), (38, .pure (encL 2 azq a0.Skips)), (39, pz ((a0.Skips.length : Nat) : Int)), (40, pz x95)], [(0, .box [.pure (encL 12 az9 a0.Robot.Joints), .pure (encL 5 azb a0.Robot.Masses), .pure (encL 3 azd a0.Shapes), .pure (encL 2 azq a0.Skips)])], [], 1⟩)
 (.exit 2) (fun (_ : U0) => ⟨[], [], [], 0⟩)
 (fun x95 => .br (decide (x95 < ((a0.Skips.length : Nat) : Int)))
 (.grd (0 ≤ x95 ∧ x95 < ((a0.Skips.length : Nat) : Int)) <|
 .cut 0 (fun (y122 : Bool) => ⟨[(1, .ptr 0 0), (38, .pure (encL 2 azq a0.Skips)), (39, pz ((a0.Skips.length : Nat) : Int)), (40, pz x95), (55, .pure (.bool y122))], [(0, .box [.pure (encL 12 az9 a0.Robot.Joints), .pure (encL 5 azb a0.Robot.Masses), .pure (encL 3 azd a0.Shapes), .pure (encL 2 azq a0.Skips)])], [], 1⟩)
 (.call (jzf a0 ((a0.Skips.getD ((x95).toNat) default).A)) [] fun y123 =>
 .br (!y123)
 (.ret (.out true))
 (.call (jzf a0 ((a0.Skips.getD ((x95).toNat) default).B)) [] fun y124 =>
 .ret (.out (!y124)))) fun y122 =>
 .br y122
 (.ret (.fin 903))
 (.ret (.next (IntKind.i64.wrap (x95 + 1)))))
 (.ret (.out .u)))
 0 [] fun _ =>
 .ret 0)))
noncomputable def ezj (a0 : aza) : CallS Int :=
  mkC [] hd Tryz.func66 (by kernel_rfl) (rzd a0) 0 [.pure (cz0 a0)] [] (fun r => pz r) (fun _ => []) (by kernel_rfl)
noncomputable def iz9 (a0 : azi) (a1 : Int) : T Bool :=
 .br (decide (a0.Lo ≤ a1))
 (.ret (decide (a1 ≤ a0.Hi)))
 (.ret false)
noncomputable def pz1 (a0 : azi) (a1 : Int) : CallS Bool :=
  mkC [] hd Tryz.func123 (by kernel_rfl) (iz9 a0 a1) 0 [.pure (az9 a0), pz a1] [] (fun r => .pure (.bool r)) (fun _ => []) (by kernel_rfl)
noncomputable def czw (a0 : (List azi)) (a1 : (List Int)) : T Bool :=
 .br (((a0.length : Nat) : Int) != ((a1.length : Nat) : Int))
 (.ret false)
 (.loop (fun (x21 : Int) => ⟨[(1, .pure (encL 1 az3 a1)), (2, .func 123 [] []), (14, .pure (encL 12 az9 a0)), (15, pz ((a0.length : Nat) : Int)), (16, pz x21)], [], [], 0⟩)
 (.exit 0) (fun (_ : U0) => ⟨[], [], [], 0⟩)
 (fun x21 => .br (decide (x21 < ((a0.length : Nat) : Int)))
 (.grd (0 ≤ x21 ∧ x21 < ((a0.length : Nat) : Int)) <|
 .grd (0 ≤ x21 ∧ x21 < ((a1.length : Nat) : Int)) <|
 .call (pz1 (a0.getD ((x21).toNat) default) (a1.getD ((x21).toNat) default)) [] fun y30 =>
 .br (!y30)
 (.ret (.fin false))
 (.ret (.next (IntKind.i64.wrap (x21 + 1)))))
 (.ret (.out .u)))
 0 [] fun _ =>
 .ret true)
noncomputable def ezd (a0 : (List azi)) (a1 : (List Int)) : CallS Bool :=
  mkC [] hd Tryz.func122 (by kernel_rfl) (czw a0 a1) 0 [.pure (encL 12 az9 a0), .pure (encL 1 az3 a1), .func 123 [] []] [] (fun r => .pure (.bool r)) (fun _ => []) (by kernel_rfl)
noncomputable def lzj (a0 : azm) (a1 : (List Int)) : T Bool :=
 .call (rz9 a0) [] fun y1 =>
 .br (y1 == 0)
 (.call (ezd a0.Joints a1) [] fun y2 =>
 .ret y2)
 (.ret false)
noncomputable def lzi (a0 : azm) (a1 : (List Int)) : CallS Bool :=
  mkC [] hd Tryz.func67 (by kernel_rfl) (lzj a0 a1) 0 [.pure (czo a0), .pure (encL 1 az3 a1)] [] (fun r => .pure (.bool r)) (fun _ => []) (by kernel_rfl)
noncomputable def kz0 (a0 : Int) : T Bool :=
 .br (decide (a0 < (-2147483648)))
 (.ret true)
 (.ret (decide (a0 > 2147483648)))
noncomputable def rzq (a0 : Int) : CallS Bool :=
  mkC [] hd Tryz.func222 (by kernel_rfl) (kz0 a0) 0 [pz a0] [] (fun r => .pure (.bool r)) (fun _ => []) (by kernel_rfl)
noncomputable def czz (a0 : (List Int)) : T Int :=
 .loop (fun (x21 : Int) => ⟨[(0, .pure (encL 1 az3 a0)), (1, .func 222 [] []), (7, pz ((a0.length : Nat) : Int)), (8, pz x21)], [], [], 0⟩)
 (.exit 0) (fun (_ : U0) => ⟨[], [], [], 0⟩)
 (fun x21 => .br (decide (x21 < ((a0.length : Nat) : Int)))
 (.grd (0 ≤ x21 ∧ x21 < ((a0.length : Nat) : Int)) <|
 .call (rzq (a0.getD ((x21).toNat) default)) [] fun y30 =>
 .br y30
 (.ret (.fin x21))
 (.ret (.next (IntKind.i64.wrap (x21 + 1)))))
 (.ret (.out .u)))
 0 [] fun _ =>
 .ret (-1)
noncomputable def ezf (a0 : (List Int)) : CallS Int :=
  mkC [] hd Tryz.func250 (by kernel_rfl) (czz a0) 0 [.pure (encL 1 az3 a0), .func 222 [] []] [] (fun r => pz r) (fun _ => []) (by kernel_rfl)
noncomputable def czi (a0 : (List Int)) : T Bool :=
 .call (ezf a0) [] fun y1 =>
 .ret (decide (y1 ≥ 0))
noncomputable def dzt (a0 : (List Int)) : CallS Bool :=
  mkC [] hd Tryz.func221 (by kernel_rfl) (czi a0) 0 [.pure (encL 1 az3 a0), .func 222 [] []] [] (fun r => .pure (.bool r)) (fun _ => []) (by kernel_rfl)
noncomputable def nzn (a0 : (List Int)) : T Bool :=
 .call (dzt a0) [] fun y1 =>
 .ret (!y1)
noncomputable def nzm (a0 : (List Int)) : CallS Bool :=
  mkC [] hd Tryz.func169 (by kernel_rfl) (nzn a0) 0 [.pure (encL 1 az3 a0)] [] (fun r => .pure (.bool r)) (fun _ => []) (by kernel_rfl)
noncomputable def iza (a0 : (List Int)) (a1 : (List Int)) (a2 : Int) : T Bool :=
 .br (((a0.length : Nat) : Int) == ((a1.length : Nat) : Int))
 (.call (nzm a0) [] fun y1 =>
 .br y1
 (.call (nzm a1) [] fun y2 =>
 .br y2
 (.br (decide (0 ≤ a2))
 (.ret (decide (a2 ≤ 20)))
 (.ret false))
 (.ret false))
 (.ret false))
 (.ret false)
noncomputable def pz2 (a0 : (List Int)) (a1 : (List Int)) (a2 : Int) : CallS Bool :=
  mkC [] hd Tryz.func124 (by kernel_rfl) (iza a0 a1 a2) 0 [.pure (encL 1 az3 a0), .pure (encL 1 az3 a1), pz a2] [] (fun r => .pure (.bool r)) (fun _ => []) (by kernel_rfl)
noncomputable def pzw (a0 : Int) (a1 : Int) : T Int :=
 .grd (0 ≤ a1) <|
 .ret (a0.fdiv (2 ^ (min (a1).toNat 64)))
noncomputable def pzv (a0 : Int) (a1 : Int) : CallS Int :=
  mkC [] hd Tryz.func127 (by kernel_rfl) (pzw a0 a1) 0 [pz a0, pz a1] [] (fun r => pz r) (fun _ => []) (by kernel_rfl)
noncomputable def jzz (a0 : Int) (a1 : Int) (a2 : Int) (a3 : Int) : T (az0 × Int × Int) :=
 .name 2003 ((min (IntKind.i64.wrap (a2 * (IntKind.i64.wrap (a1 - a0)))) (IntKind.i64.wrap ((IntKind.i64.wrap (a2 + 1)) * (IntKind.i64.wrap (a1 - a0)))))) fun z5 =>
 .call (pzv z5 a3) [] fun y6 =>
 .name 2010 ((max (IntKind.i64.wrap (a2 * (IntKind.i64.wrap (a1 - a0)))) (IntKind.i64.wrap ((IntKind.i64.wrap (a2 + 1)) * (IntKind.i64.wrap (a1 - a0)))))) fun z7 =>
 .call (pzv (IntKind.i64.wrap (0 - z7)) a3) [] fun y8 =>
 .ret ((⟨(IntKind.i64.wrap (a0 + y6)), (IntKind.i64.wrap (a0 - y8))⟩ : az0), a2, a3)
noncomputable def rzp (a0 : Int) (a1 : Int) (a2 : Int) (a3 : Int) : CallS (az0 × Int × Int) :=
  mkC [] hd Tryz.func126 (by kernel_rfl) (jzz a0 a1 a2 a3) 2 [pz a0, pz a1, .ptr 0 0, .ptr 1 0] [(0, .box [pz a2]), (1, .box [pz a3])] (fun r => .pure (az4 r.1)) (fun r => [(0, .box [pz r.2.1]), (1, .box [pz r.2.2])]) (by kernel_rfl)
noncomputable def bzm (a0 : (List Int)) (a1 : (List Int)) (a2 : Int) (a3 : Int) : T ((List az0) × Int × Int) :=
 .conv 1002 (Gz4 2 az4 136 (((a0.length : Nat) : Int)).toNat (⟨0, 0⟩ : az0)) <|
 .grd (0 ≤ ((a0.length : Nat) : Int) ∧ ((a0.length : Nat) : Int) ≤ ((a0.length : Nat) : Int) ∧ ((a0.length : Nat) : Int) ≤ 9223372036854775807 ∧ ((a0.length : Nat) : Int) * 16 ≤ 140737488355328) <|
 .loop (fun (x13 : (Int × Int × (List az0) × Int)) => ⟨[(1, .pure (encL 1 az3 a1)), (2, .func 126 [] [.ptr 0 0, .ptr 1 0]), (7, .vec 2), (13, .pure (encL 1 az3 a0)), (14, pz ((a0.length : Nat) : Int)), (15, pz x13.2.2.2)], [(0, .box [pz x13.1]), (1, .box [pz x13.2.1]), (2, vecO 2 az4 x13.2.2.1 136)], [], 3⟩)
 (.exit 0) (fun (y16 : (Int × Int × (List az0))) => ⟨[(7, .vec 2)], [(0, .box [pz y16.1]), (1, .box [pz y16.2.1]), (2, vecO 2 az4 y16.2.2 136)], [], 3⟩)
 (fun x13 => .br (decide (x13.2.2.2 < ((a0.length : Nat) : Int)))
 (.grd (0 ≤ x13.2.2.2 ∧ x13.2.2.2 < ((a0.length : Nat) : Int)) <|
 .grd (0 ≤ x13.2.2.2 ∧ x13.2.2.2 < ((a1.length : Nat) : Int)) <|
 .call (rzp (a0.getD ((x13.2.2.2).toNat) default) (a1.getD ((x13.2.2.2).toNat) default) x13.1 x13.2.1) [(0, 0), (1, 1)] fun y18 =>
 .grd (0 ≤ x13.2.2.2 ∧ x13.2.2.2 < ((x13.2.2.1.length : Nat) : Int)) <|
 .conv 5010 (pz3 2 az4 x13.2.2.1 136 ((x13.2.2.2).toNat) y18.1) <|
 .grd ((x13.2.2.2).toNat < x13.2.2.1.length ∧ 0 ≤ (x13.2.2.2).toNat) <|
 .ret (.next (y18.2.1, y18.2.2, (x13.2.2.1.set ((x13.2.2.2).toNat) y18.1), (IntKind.i64.wrap (x13.2.2.2 + 1)))))
 (.ret (.out (x13.1, x13.2.1, x13.2.2.1))))
 (a2, a3, (List.replicate (((a0.length : Nat) : Int)).toNat ((⟨0, 0⟩ : az0) : az0)), 0) [] fun y16 =>
 .ret (y16.2.2, y16.1, y16.2.1)
noncomputable def czs (a0 : (List Int)) (a1 : (List Int)) (a2 : Int) (a3 : Int) : CallS ((List az0) × Int × Int) :=
  mkC [] hd Tryz.func125 (by kernel_rfl) (bzm a0 a1 a2 a3) 2 [.pure (encL 1 az3 a0), .pure (encL 1 az3 a1), .func 126 [] [.ptr 0 0, .ptr 1 0]] [(0, .box [pz a2]), (1, .box [pz a3])] (fun r => .pure (encL 2 az4 r.1)) (fun r => [(0, .box [pz r.2.1]), (1, .box [pz r.2.2])]) (by kernel_rfl)
noncomputable def nzl (a0 : (List Int)) (a1 : (List Int)) (a2 : Int) (a3 : Int) : T ((List az0) × Bool) :=
 .cut 2 (fun (y7 : Bool) => ⟨[(0, .pure (encL 1 az3 a0)), (1, .pure (encL 1 az3 a1)), (6, .ptr 0 0), (7, .ptr 1 0), (24, .pure (.bool y7))], [(0, .box [pz a2]), (1, .box [pz a3])], [], 2⟩)
 (.call (pz2 a0 a1 a2) [] fun y8 =>
 .br (!y8)
 (.ret (.out true))
 (.br (decide (a3 < 0))
 (.ret (.out true))
 (.grd (0 ≤ a2) <|
 .ret (.out (decide (a3 ≥ (IntKind.i64.wrap (1 * 2 ^ (min (a2).toNat 64))))))))) fun y7 =>
 .br y7
 (.ret (nl, false))
 (.call (czs a0 a1 a3 a2) [(0, 1), (1, 0)] fun y9 =>
 .ret (y9.1, true))
noncomputable def vz5 (a0 : (List Int)) (a1 : (List Int)) (a2 : Int) (a3 : Int) : CallS ((List az0) × Bool) :=
  mkC [] hd Tryz.func69 (by kernel_rfl) (nzl a0 a1 a2 a3) 0 [.pure (encL 1 az3 a0), .pure (encL 1 az3 a1), pz a2, pz a3] [] (fun r => .tup [.pure (encL 2 az4 r.1), .pure (.bool r.2)]) (fun _ => []) (by kernel_rfl)
noncomputable def kz2 (a0 : az0) : T Bool :=
 .br (decide ((-2147483648) ≤ a0.Lo))
 (.br (decide (a0.Lo ≤ a0.Hi))
 (.ret (decide (a0.Hi ≤ 2147483648)))
 (.ret false))
 (.ret false)
noncomputable def bzg (a0 : az0) : CallS Bool :=
  mkC [] hd Tryz.func132 (by kernel_rfl) (kz2 a0) 0 [.pure (az4 a0)] [] (fun r => .pure (.bool r)) (fun _ => []) (by kernel_rfl)
noncomputable def kzj (a0 : azm) : T (List Int) :=
 .conv 1004 (Gz4 1 az3 3 ((IntKind.i64.wrap (((a0.Joints.length : Nat) : Int) + 1))).toNat 0) <|
 .grd (0 ≤ (IntKind.i64.wrap (((a0.Joints.length : Nat) : Int) + 1)) ∧ (IntKind.i64.wrap (((a0.Joints.length : Nat) : Int) + 1)) ≤ (IntKind.i64.wrap (((a0.Joints.length : Nat) : Int) + 1)) ∧ (IntKind.i64.wrap (((a0.Joints.length : Nat) : Int) + 1)) ≤ 9223372036854775807 ∧ (IntKind.i64.wrap (((a0.Joints.length : Nat) : Int) + 1)) * 8 ≤ 140737488355328) <|
 .grd (0 ≤ (0 : Int) ∧ (0 : Int) < (((List.replicate ((IntKind.i64.wrap (((a0.Joints.length : Nat) : Int) + 1))).toNat (0 : Int)).length : Nat) : Int)) <|
 .conv 2002 (pz3 1 az3 (List.replicate ((IntKind.i64.wrap (((a0.Joints.length : Nat) : Int) + 1))).toNat (0 : Int)) 3 ((0 : Int).toNat) (-1)) <|
 .grd ((0 : Int).toNat < (List.replicate ((IntKind.i64.wrap (((a0.Joints.length : Nat) : Int) + 1))).toNat (0 : Int)).length ∧ 0 ≤ (0 : Int).toNat) <|
 .loop (fun (x51 : ((List Int) × Int)) => ⟨[(3, .vec 0), (14, .pure (encL 12 az9 a0.Joints)), (15, pz ((a0.Joints.length : Nat) : Int)), (16, pz x51.2)], [(0, vecO 1 az3 x51.1 3)], [], 1⟩)
 (.exit 0) (fun (y56 : (List Int)) => ⟨[(3, .vec 0)], [(0, vecO 1 az3 y56 3)], [], 1⟩)
 (fun x51 => .br (decide (x51.2 < ((a0.Joints.length : Nat) : Int)))
 (.cut 0 (fun (y59 : (List Int)) => ⟨[(3, .vec 0), (14, .pure (encL 12 az9 a0.Joints)), (15, pz ((a0.Joints.length : Nat) : Int)), (16, pz x51.2)], [(0, vecO 1 az3 y59 3)], [], 1⟩)
 (.grd (0 ≤ x51.2 ∧ x51.2 < ((a0.Joints.length : Nat) : Int)) <|
 .grd (0 ≤ (IntKind.i64.wrap (x51.2 + 1)) ∧ (IntKind.i64.wrap (x51.2 + 1)) < ((x51.1.length : Nat) : Int)) <|
 .conv 6005 (pz3 1 az3 x51.1 3 (((IntKind.i64.wrap (x51.2 + 1))).toNat) x51.2) <|
 .grd (((IntKind.i64.wrap (x51.2 + 1))).toNat < x51.1.length ∧ 0 ≤ ((IntKind.i64.wrap (x51.2 + 1))).toNat) <|
 .br (((a0.Joints.getD ((x51.2).toNat) default).Lo) == ((a0.Joints.getD ((x51.2).toNat) default).Hi))
 (.grd (0 ≤ (IntKind.i64.wrap (((a0.Joints.getD ((x51.2).toNat) default).Parent) + 1)) ∧ (IntKind.i64.wrap (((a0.Joints.getD ((x51.2).toNat) default).Parent) + 1)) < (((x51.1.set (((IntKind.i64.wrap (x51.2 + 1))).toNat) x51.2).length : Nat) : Int)) <|
 .grd (((IntKind.i64.wrap (((a0.Joints.getD ((x51.2).toNat) default).Parent) + 1))).toNat < (x51.1.set (((IntKind.i64.wrap (x51.2 + 1))).toNat) x51.2).length) <|
 .name 8008 (((x51.1.set (((IntKind.i64.wrap (x51.2 + 1))).toNat) x51.2).getD (((IntKind.i64.wrap (((a0.Joints.getD ((x51.2).toNat) default).Parent) + 1))).toNat) default)) fun z60 =>
 .grd (0 ≤ (IntKind.i64.wrap (x51.2 + 1)) ∧ (IntKind.i64.wrap (x51.2 + 1)) < (((x51.1.set (((IntKind.i64.wrap (x51.2 + 1))).toNat) x51.2).length : Nat) : Int)) <|
 .conv 8010 (pz3 1 az3 (x51.1.set (((IntKind.i64.wrap (x51.2 + 1))).toNat) x51.2) 3 (((IntKind.i64.wrap (x51.2 + 1))).toNat) z60) <|
 .grd (((IntKind.i64.wrap (x51.2 + 1))).toNat < (x51.1.set (((IntKind.i64.wrap (x51.2 + 1))).toNat) x51.2).length ∧ 0 ≤ ((IntKind.i64.wrap (x51.2 + 1))).toNat) <|
 .ret (.out ((x51.1.set (((IntKind.i64.wrap (x51.2 + 1))).toNat) x51.2).set (((IntKind.i64.wrap (x51.2 + 1))).toNat) z60)))
 (.ret (.out (x51.1.set (((IntKind.i64.wrap (x51.2 + 1))).toNat) x51.2)))) fun y59 =>
 .ret (.next (y59, (IntKind.i64.wrap (x51.2 + 1)))))
 (.ret (.out x51.1)))
 (((List.replicate ((IntKind.i64.wrap (((a0.Joints.length : Nat) : Int) + 1))).toNat (0 : Int)).set ((0 : Int).toNat) (-1)), 0) [] fun y56 =>
 .ret y56
noncomputable def sz9 (a0 : azm) : CallS (List Int) :=
  mkC [] hd Tryz.func172 (by kernel_rfl) (kzj a0) 0 [.pure (czo a0)] [] (fun r => .pure (encL 1 az3 r)) (fun _ => []) (by kernel_rfl)
noncomputable def mz9 (a0 : aza) (a1 : Int) (a2 : Int) : T Bool :=
 .loop (fun (x13 : Int) => ⟨[(1, pz a1), (2, pz a2), (10, .pure (encL 2 azq a0.Skips)), (11, pz ((a0.Skips.length : Nat) : Int)), (12, pz x13)], [], [], 0⟩)
 (.exit 0) (fun (_ : U0) => ⟨[], [], [], 0⟩)
 (fun x13 => .br (decide (x13 < ((a0.Skips.length : Nat) : Int)))
 (.grd (0 ≤ x13 ∧ x13 < ((a0.Skips.length : Nat) : Int)) <|
 .cut 0 (fun (y18 : Bool) => ⟨[(1, pz a1), (2, pz a2), (10, .pure (encL 2 azq a0.Skips)), (11, pz ((a0.Skips.length : Nat) : Int)), (12, pz x13), (27, .pure (.bool y18))], [], [], 0⟩)
 (.br ((((a0.Skips.getD ((x13).toNat) default).A) == a1) && ((((a0.Skips.getD ((x13).toNat) default).B) == a2) && true))
 (.ret (.out true))
 (.ret (.out ((((a0.Skips.getD ((x13).toNat) default).A) == a2) && ((((a0.Skips.getD ((x13).toNat) default).B) == a1) && true))))) fun y18 =>
 .br y18
 (.ret (.fin true))
 (.ret (.next (IntKind.i64.wrap (x13 + 1)))))
 (.ret (.out .u)))
 0 [] fun _ =>
 .ret false
noncomputable def uzc (a0 : aza) (a1 : Int) (a2 : Int) : CallS Bool :=
  mkC [] hd Tryz.func173 (by kernel_rfl) (mz9 a0 a1 a2) 0 [.pure (cz0 a0), pz a1, pz a2] [] (fun r => .pure (.bool r)) (fun _ => []) (by kernel_rfl)
noncomputable def rze (a0 : aza) : T (List bzf) :=
 .call (ezj a0) [] fun y700 =>
 .br (y700 != 0)
 (.ret nl)
 (.call (sz9 a0.Robot) [] fun y702 =>
 .loop (fun (x1187 : ((List bzf) × Int)) => ⟨[(1, .ptr 0 0), (3, .pure (encL 1 az3 y702)), (4, .vec 1), (17, .pure (encL 3 azd a0.Shapes)), (18, pz ((a0.Shapes.length : Nat) : Int)), (19, pz x1187.2)], [(0, .box [.pure (encL 12 az9 a0.Robot.Joints), .pure (encL 5 azb a0.Robot.Masses), .pure (encL 3 azd a0.Shapes), .pure (encL 2 azq a0.Skips)]), (1, vecO 2 czm x1187.1 112)], [], 2⟩)
 (.exit 0) (fun (y1308 : (List bzf)) => ⟨[(4, .vec 0)], [(0, vecO 2 czm y1308 112)], [], 1⟩)
 (fun x1187 => .br (decide (x1187.2 < ((a0.Shapes.length : Nat) : Int)))
 (.grd (0 ≤ x1187.2 ∧ x1187.2 < ((a0.Shapes.length : Nat) : Int)) <|
 .loop (fun (x1389 : ((List bzf) × Int)) => ⟨[(1, .ptr 0 0), (3, .pure (encL 1 az3 y702)), (4, .vec 1), (5, pz x1187.2), (6, .ptr 2 0), (7, pz x1389.2), (17, .pure (encL 3 azd a0.Shapes)), (18, pz ((a0.Shapes.length : Nat) : Int)), (19, pz x1187.2)], [(0, .box [.pure (encL 12 az9 a0.Robot.Joints), .pure (encL 5 azb a0.Robot.Masses), .pure (encL 3 azd a0.Shapes), .pure (encL 2 azq a0.Skips)]), (1, vecO 2 czm x1389.1 112), (2, .box [pz ((a0.Shapes.getD ((x1187.2).toNat) default).Link), pz ((a0.Shapes.getD ((x1187.2).toNat) default).Radius), .pure (encL 3 az1 ((a0.Shapes.getD ((x1187.2).toNat) default).Points))])], [], 3⟩)
 (.exit 2) (fun (y1409 : (List bzf)) => ⟨[(1, .ptr 0 0), (3, .pure (encL 1 az3 y702)), (4, .vec 1), (17, .pure (encL 3 azd a0.Shapes)), (18, pz ((a0.Shapes.length : Nat) : Int)), (19, pz x1187.2)], [(0, .box [.pure (encL 12 az9 a0.Robot.Joints), .pure (encL 5 azb a0.Robot.Masses), .pure (encL 3 azd a0.Shapes), .pure (encL 2 azq a0.Skips)]), (1, vecO 2 czm y1409 112)], [], 2⟩)
 (fun x1389 => .br (decide (x1389.2 < ((a0.Shapes.length : Nat) : Int)))
 (.cut 0 (fun (y1422 : (List bzf)) => ⟨[(1, .ptr 0 0), (3, .pure (encL 1 az3 y702)), (4, .vec 1), (5, pz x1187.2), (6, .ptr 2 0), (7, pz x1389.2), (17, .pure (encL 3 azd a0.Shapes)), (18, pz ((a0.Shapes.length : Nat) : Int)), (19, pz x1187.2)], [(0, .box [.pure (encL 12 az9 a0.Robot.Joints), .pure (encL 5 azb a0.Robot.Masses), .pure (encL 3 azd a0.Shapes), .pure (encL 2 azq a0.Skips)]), (1, vecO 2 czm y1422 112), (2, .box [pz ((a0.Shapes.getD ((x1187.2).toNat) default).Link), pz ((a0.Shapes.getD ((x1187.2).toNat) default).Radius), .pure (encL 3 az1 ((a0.Shapes.getD ((x1187.2).toNat) default).Points))])], [], 3⟩)
 (.grd (0 ≤ x1389.2 ∧ x1389.2 < ((a0.Shapes.length : Nat) : Int)) <|
 .grd (0 ≤ (IntKind.i64.wrap (((a0.Shapes.getD ((x1187.2).toNat) default).Link) + 1)) ∧ (IntKind.i64.wrap (((a0.Shapes.getD ((x1187.2).toNat) default).Link) + 1)) < ((y702.length : Nat) : Int)) <|
 .grd (0 ≤ (IntKind.i64.wrap (((a0.Shapes.getD ((x1389.2).toNat) default).Link) + 1)) ∧ (IntKind.i64.wrap (((a0.Shapes.getD ((x1389.2).toNat) default).Link) + 1)) < ((y702.length : Nat) : Int)) <|
 .name 12011 ((y702.getD (((IntKind.i64.wrap (((a0.Shapes.getD ((x1389.2).toNat) default).Link) + 1))).toNat) default)) fun z1424 =>
 .cut 0 (fun (y1427 : Bool) => ⟨[(1, .ptr 0 0), (3, .pure (encL 1 az3 y702)), (4, .vec 1), (5, pz x1187.2), (6, .ptr 2 0), (7, pz x1389.2), (17, .pure (encL 3 azd a0.Shapes)), (18, pz ((a0.Shapes.length : Nat) : Int)), (19, pz x1187.2), (61, .pure (.bool y1427))], [(0, .box [.pure (encL 12 az9 a0.Robot.Joints), .pure (encL 5 azb a0.Robot.Masses), .pure (encL 3 azd a0.Shapes), .pure (encL 2 azq a0.Skips)]), (1, vecO 2 czm x1389.1 112), (2, .box [pz ((a0.Shapes.getD ((x1187.2).toNat) default).Link), pz ((a0.Shapes.getD ((x1187.2).toNat) default).Radius), .pure (encL 3 az1 ((a0.Shapes.getD ((x1187.2).toNat) default).Points))])], [], 3⟩)
 (.br (!((y702.getD (((IntKind.i64.wrap (((a0.Shapes.getD ((x1187.2).toNat) default).Link) + 1))).toNat) default) == z1424))
 (.call (uzc a0 ((a0.Shapes.getD ((x1187.2).toNat) default).Link) ((a0.Shapes.getD ((x1389.2).toNat) default).Link)) [] fun y1428 =>
 .ret (.out (!y1428)))
 (.ret (.out false))) fun y1427 =>
 .br y1427
 (.conv 14004 (dzo 2 czm ([(⟨x1187.2, x1389.2⟩ : bzf)] : (List bzf)) 112) <|
 .conv 14005 (izb 2 czm x1389.1 ([(⟨x1187.2, x1389.2⟩ : bzf)] : (List bzf)) 112) <|
 .grd ((x1389.1.length + ([(⟨x1187.2, x1389.2⟩ : bzf)] : (List bzf)).length) * 16 ≤ 140737488355328 ∧ (x1389.1.length + ([(⟨x1187.2, x1389.2⟩ : bzf)] : (List bzf)).length) ≤ maxLen) <|
 .ret (.out (x1389.1 ++ ([(⟨x1187.2, x1389.2⟩ : bzf)] : (List bzf)))))
 (.ret (.out x1389.1))) fun y1422 =>
 .ret (.next (y1422, (IntKind.i64.wrap (x1389.2 + 1)))))
 (.ret (.out x1389.1)))
 (x1187.1, (IntKind.i64.wrap (x1187.2 + 1))) [] fun y1409 =>
 .ret (.next (y1409, (IntKind.i64.wrap (x1187.2 + 1)))))
 (.ret (.out x1187.1)))
 (nl, 0) [] fun y1308 =>
 .ret y1308)
noncomputable def yzi (a0 : aza) : CallS (List bzf) :=
  mkC [] hd Tryz.func133 (by kernel_rfl) (rze a0) 0 [.pure (cz0 a0)] [] (fun r => .pure (encL 2 czm r)) (fun _ => []) (by kernel_rfl)
noncomputable def fzp (a0 : az0) : T Bool :=
 .call (bzg a0) [] fun y1 =>
 .ret (!y1)
noncomputable def kzq (a0 : az0) : CallS Bool :=
  mkC [] hd Tryz.func224 (by kernel_rfl) (fzp a0) 0 [.pure (az4 a0)] [] (fun r => .pure (.bool r)) (fun _ => []) (by kernel_rfl)
noncomputable def bzi (a0 : (List az0)) : T Int :=
 .loop (fun (x21 : Int) => ⟨[(0, .pure (encL 2 az4 a0)), (1, .func 224 [] []), (7, pz ((a0.length : Nat) : Int)), (8, pz x21)], [], [], 0⟩)
 (.exit 0) (fun (_ : U0) => ⟨[], [], [], 0⟩)
 (fun x21 => .br (decide (x21 < ((a0.length : Nat) : Int)))
 (.grd (0 ≤ x21 ∧ x21 < ((a0.length : Nat) : Int)) <|
 .call (kzq (a0.getD ((x21).toNat) default)) [] fun y30 =>
 .br y30
 (.ret (.fin x21))
 (.ret (.next (IntKind.i64.wrap (x21 + 1)))))
 (.ret (.out .u)))
 0 [] fun _ =>
 .ret (-1)
noncomputable def cz9 (a0 : (List az0)) : CallS Int :=
  mkC [] hd Tryz.func251 (by kernel_rfl) (bzi a0) 0 [.pure (encL 2 az4 a0), .func 224 [] []] [] (fun r => pz r) (fun _ => []) (by kernel_rfl)
noncomputable def bzd (a0 : (List az0)) : T Bool :=
 .call (cz9 a0) [] fun y1 =>
 .ret (decide (y1 ≥ 0))
noncomputable def cz2 (a0 : (List az0)) : CallS Bool :=
  mkC [] hd Tryz.func223 (by kernel_rfl) (bzd a0) 0 [.pure (encL 2 az4 a0), .func 224 [] []] [] (fun r => .pure (.bool r)) (fun _ => []) (by kernel_rfl)
noncomputable def gzx (a0 : azm) (a1 : (List az0)) : T Bool :=
 .br (((a1.length : Nat) : Int) == ((a0.Joints.length : Nat) : Int))
 (.call (cz2 a1) [] fun y1 =>
 .ret (!y1))
 (.ret false)
noncomputable def mzr (a0 : azm) (a1 : (List az0)) : CallS Bool :=
  mkC [] hd Tryz.func174 (by kernel_rfl) (gzx a0 a1) 0 [.pure (czo a0), .pure (encL 2 az4 a1)] [] (fun r => .pure (.bool r)) (fun _ => []) (by kernel_rfl)
noncomputable def qz6 (a0 : Int) : T Int :=
 .ret (min (max a0 (-2147483648)) 2147483648)
noncomputable def qz5 (a0 : Int) : CallS Int :=
  mkC [] hd Tryz.func289 (by kernel_rfl) (qz6 a0) 0 [pz a0] [] (fun r => pz r) (fun _ => []) (by kernel_rfl)
noncomputable def gzu (a0 : Int) (a1 : Int) : T az0 :=
 .call (qz5 a0) [] fun y1 =>
 .call (qz5 a1) [] fun y2 =>
 .ret (⟨y1, y2⟩ : az0)
noncomputable def ezy (a0 : Int) (a1 : Int) : CallS az0 :=
  mkC [] hd Tryz.func277 (by kernel_rfl) (gzu a0 a1) 0 [pz a0, pz a1] [] (fun r => .pure (az4 r)) (fun _ => []) (by kernel_rfl)
noncomputable def qz9 (a0 : Int) : T az0 :=
 .call (ezy a0 a0) [] fun y1 =>
 .ret y1
noncomputable def bzt (a0 : Int) : CallS az0 :=
  mkC [] hd Tryz.func256 (by kernel_rfl) (qz9 a0) 0 [pz a0] [] (fun r => .pure (az4 r)) (fun _ => []) (by kernel_rfl)
noncomputable def oz0 (a0 : (Int × Int × Int)) : T (az0 × az0 × az0) :=
 .unroll 4 <|
 .known true <|
 .ix 0 3 rfl <|
 .call (bzt a0.1) [] fun y16 =>
 .ix 0 3 rfl <|
 .lit 6000 (1) <|
 .known true <|
 .ix 1 3 rfl <|
 .call (bzt a0.2.1) [] fun y18 =>
 .ix 1 3 rfl <|
 .lit 6000 (2) <|
 .known true <|
 .ix 2 3 rfl <|
 .call (bzt a0.2.2) [] fun y20 =>
 .ix 2 3 rfl <|
 .lit 6000 (3) <|
 .known false <|
 .ret (y16, y18, y20)
noncomputable def jz8 (a0 : (Int × Int × Int)) : CallS (az0 × az0 × az0) :=
  mkC [] hd Tryz.func231 (by kernel_rfl) (oz0 a0) 0 [.pure (az1 a0)] [] (fun r => .pure (az2 r)) (fun _ => []) (by kernel_rfl)
noncomputable def matrix_Identity_T : T ((az0 × az0 × az0) × (az0 × az0 × az0) × (az0 × az0 × az0)) :=
 .unroll 4 <|
 .known true <|
 .call (bzt 65536) [] fun y18 =>
 .ix 0 3 rfl <|
 .ix 0 3 rfl <|
 .lit 6000 (1) <|
 .known true <|
 .call (bzt 65536) [] fun y20 =>
 .ix 1 3 rfl <|
 .ix 1 3 rfl <|
 .lit 6000 (2) <|
 .known true <|
 .call (bzt 65536) [] fun y22 =>
 .ix 2 3 rfl <|
 .ix 2 3 rfl <|
 .lit 6000 (3) <|
 .known false <|
 .ret ((y18, (⟨0, 0⟩ : az0), (⟨0, 0⟩ : az0)), ((⟨0, 0⟩ : az0), y20, (⟨0, 0⟩ : az0)), ((⟨0, 0⟩ : az0), (⟨0, 0⟩ : az0), y22))
noncomputable def matrix_Identity_C : CallS ((az0 × az0 × az0) × (az0 × az0 × az0) × (az0 × az0 × az0)) :=
  mkC [] hd Tryz.func255 (by kernel_rfl) (matrix_Identity_T) 0 [] [] (fun r => .pure (azx r)) (fun _ => []) (by kernel_rfl)
noncomputable def tzh (a0 : (az0 × az0 × az0)) : T azj :=
 .call (matrix_Identity_C) [] fun y1 =>
 .ret (⟨y1, a0⟩ : azj)
noncomputable def mzy (a0 : (az0 × az0 × az0)) : CallS azj :=
  mkC [] hd Tryz.func227 (by kernel_rfl) (tzh a0) 0 [.pure (az2 a0)] [] (fun r => .pure (azz r)) (fun _ => []) (by kernel_rfl)
noncomputable def ez4 (a0 : Int) : T Int :=
 .cut 3 (fun (y3 : Bool) => ⟨[(0, pz a0), (2, .ptr 0 0), (3, pz a0), (4, .pure (.bool y3))], [(0, .box [.any])], [], 1⟩)
 (.br (a0 == 1)
 (.ret (.out (a0 == 1)))
 (.br (a0 == 2)
 (.ret (.out (a0 == 2)))
 (.ret (.out (a0 == 3))))) fun y3 =>
 .br y3
 (.ret (IntKind.i64.wrap (a0 - 1)))
 (.cut 0 (fun (y4 : Bool) => ⟨[(0, pz a0), (2, .ptr 0 0), (12, .pure (.bool y4))], [(0, .box [.any])], [], 1⟩)
 (.br (a0 == 4)
 (.ret (.out (a0 == 4)))
 (.br (a0 == 5)
 (.ret (.out (a0 == 5)))
 (.ret (.out (a0 == 6))))) fun y4 =>
 .br y4
 (.stop)
 (.stop))
noncomputable def ez3 (a0 : Int) : CallS Int :=
  mkC [] hd Tryz.func252 (by kernel_rfl) (ez4 a0) 0 [pz a0] [] (fun r => .agg [.func 268 [pz r] []]) (fun _ => []) (by kernel_rfl)
noncomputable def ez6 (a0 : Int) : T Int :=
 .cut 3 (fun (y3 : Bool) => ⟨[(0, pz a0), (2, .ptr 0 0), (3, pz a0), (4, .pure (.bool y3))], [(0, .box [.any])], [], 1⟩)
 (.br (a0 == 1)
 (.ret (.out (a0 == 1)))
 (.br (a0 == 2)
 (.ret (.out (a0 == 2)))
 (.ret (.out (a0 == 3))))) fun y3 =>
 .br y3
 (.stop)
 (.cut 0 (fun (y4 : Bool) => ⟨[(0, pz a0), (2, .ptr 0 0), (12, .pure (.bool y4))], [(0, .box [.any])], [], 1⟩)
 (.br (a0 == 4)
 (.ret (.out (a0 == 4)))
 (.br (a0 == 5)
 (.ret (.out (a0 == 5)))
 (.ret (.out (a0 == 6))))) fun y4 =>
 .br y4
 (.ret (IntKind.i64.wrap (a0 - 4)))
 (.stop))
noncomputable def ez5 (a0 : Int) : CallS Int :=
  mkC [] hd Tryz.func252 (by kernel_rfl) (ez6 a0) 0 [pz a0] [] (fun r => .agg [.func 269 [pz r] []]) (fun _ => []) (by kernel_rfl)
noncomputable def ez7 (a0 : Int) : T Int :=
 .cut 3 (fun (y3 : Bool) => ⟨[(0, pz a0), (2, .ptr 0 0), (3, pz a0), (4, .pure (.bool y3))], [(0, .box [.any])], [], 1⟩)
 (.br (a0 == 1)
 (.ret (.out (a0 == 1)))
 (.br (a0 == 2)
 (.ret (.out (a0 == 2)))
 (.ret (.out (a0 == 3))))) fun y3 =>
 .br y3
 (.stop)
 (.cut 0 (fun (y4 : Bool) => ⟨[(0, pz a0), (2, .ptr 0 0), (12, .pure (.bool y4))], [(0, .box [.any])], [], 1⟩)
 (.br (a0 == 4)
 (.ret (.out (a0 == 4)))
 (.br (a0 == 5)
 (.ret (.out (a0 == 5)))
 (.ret (.out (a0 == 6))))) fun y4 =>
 .br y4
 (.stop)
 (.ret 0))
noncomputable def gzk (a0 : Int) : CallS Int :=
  mkC [] hd Tryz.func252 (by kernel_rfl) (ez7 a0) 0 [pz a0] [] (fun r => .agg [.func 270 [pz r] []]) (fun _ => []) (by kernel_rfl)
noncomputable def pose_still_T : T (az0 × az0 × az0) :=
 .call (jz8 (0, 0, 0)) [] fun y1 =>
 .ret y1
noncomputable def pose_still_C : CallS (az0 × az0 × az0) :=
  mkC [] hd Tryz.func228 (by kernel_rfl) (pose_still_T) 0 [] [] (fun r => .pure (az2 r)) (fun _ => []) (by kernel_rfl)
noncomputable def pose_Identity_T : T azj :=
 .call (pose_still_C) [] fun y1 =>
 .call (mzy y1) [] fun y2 =>
 .ret y2
noncomputable def pose_Identity_C : CallS azj :=
  mkC [] hd Tryz.func176 (by kernel_rfl) (pose_Identity_T) 0 [] [] (fun r => .pure (azz r)) (fun _ => []) (by kernel_rfl)
noncomputable def wz5 (_a0 : Int) (_a1 : az0) : T azj :=
 .call (pose_Identity_C) [] fun y1 =>
 .ret y1
noncomputable def Cz4 (a0 : Int) (a1 : az0) : CallS azj :=
  mkC [] hd Tryz.func270 (by kernel_rfl) (wz5 a0 a1) 0 [pz a0, .pure (az4 a1)] [] (fun r => .pure (azz r)) (fun _ => []) (by kernel_rfl)
noncomputable def jzn (a0 : azj) : T (Int × Int × Int × Int × Int × Int × Int × Int × Int × Int × Int × Int × Int × Int × Int × Int × Int × Int × Int × Int × Int × Int × Int × Int) :=
 .ret (a0.R.1.1.Lo, a0.R.1.1.Hi, a0.R.1.2.1.Lo, a0.R.1.2.1.Hi, a0.R.1.2.2.Lo, a0.R.1.2.2.Hi, a0.R.2.1.1.Lo, a0.R.2.1.1.Hi, a0.R.2.1.2.1.Lo, a0.R.2.1.2.1.Hi, a0.R.2.1.2.2.Lo, a0.R.2.1.2.2.Hi, a0.R.2.2.1.Lo, a0.R.2.2.1.Hi, a0.R.2.2.2.1.Lo, a0.R.2.2.2.1.Hi, a0.R.2.2.2.2.Lo, a0.R.2.2.2.2.Hi, a0.T.1.Lo, a0.T.1.Hi, a0.T.2.1.Lo, a0.T.2.1.Hi, a0.T.2.2.Lo, a0.T.2.2.Hi)
noncomputable def mzz (a0 : azj) : CallS (Int × Int × Int × Int × Int × Int × Int × Int × Int × Int × Int × Int × Int × Int × Int × Int × Int × Int × Int × Int × Int × Int × Int × Int) :=
  mkC [] hd Tryz.func253 (by kernel_rfl) (jzn a0) 0 [.pure (azz a0)] [] (fun _ => .func 271 [] [.ptr 0 0]) (fun r => [(0, .box [pz r.1, pz r.2.1, pz r.2.2.1, pz r.2.2.2.1, pz r.2.2.2.2.1, pz r.2.2.2.2.2.1, pz r.2.2.2.2.2.2.1, pz r.2.2.2.2.2.2.2.1, pz r.2.2.2.2.2.2.2.2.1, pz r.2.2.2.2.2.2.2.2.2.1, pz r.2.2.2.2.2.2.2.2.2.2.1, pz r.2.2.2.2.2.2.2.2.2.2.2.1, pz r.2.2.2.2.2.2.2.2.2.2.2.2.1, pz r.2.2.2.2.2.2.2.2.2.2.2.2.2.1, pz r.2.2.2.2.2.2.2.2.2.2.2.2.2.2.1, pz r.2.2.2.2.2.2.2.2.2.2.2.2.2.2.2.1, pz r.2.2.2.2.2.2.2.2.2.2.2.2.2.2.2.2.1, pz r.2.2.2.2.2.2.2.2.2.2.2.2.2.2.2.2.2.1, pz r.2.2.2.2.2.2.2.2.2.2.2.2.2.2.2.2.2.2.1, pz r.2.2.2.2.2.2.2.2.2.2.2.2.2.2.2.2.2.2.2.1, pz r.2.2.2.2.2.2.2.2.2.2.2.2.2.2.2.2.2.2.2.2.1, pz r.2.2.2.2.2.2.2.2.2.2.2.2.2.2.2.2.2.2.2.2.2.1, pz r.2.2.2.2.2.2.2.2.2.2.2.2.2.2.2.2.2.2.2.2.2.2.1, pz r.2.2.2.2.2.2.2.2.2.2.2.2.2.2.2.2.2.2.2.2.2.2.2])]) (by kernel_rfl)
noncomputable def kz5 (a0 : az0) (a1 : az0) : T Bool :=
 .call (bzg a0) [] fun y1 =>
 .br y1
 (.call (bzg a1) [] fun y2 =>
 .ret y2)
 (.ret false)
noncomputable def gz8 (a0 : az0) (a1 : az0) : CallS Bool :=
  mkC [] hd Tryz.func287 (by kernel_rfl) (kz5 a0 a1) 0 [.pure (az4 a0), .pure (az4 a1)] [] (fun r => .pure (.bool r)) (fun _ => []) (by kernel_rfl)
noncomputable def izc (a0 : Int) (a1 : Int) : T Int :=
 .br (decide (a1 < 0))
 (.ret a0)
 (.grd (0 ≤ a1) <|
 .ret (a0.fdiv (2 ^ (min (a1).toNat 64))))
noncomputable def azs (a0 : Int) (a1 : Int) : CallS Int :=
  mkC [] hd Tryz.func194 (by kernel_rfl) (izc a0 a1) 0 [pz a0, pz a1] [] (fun r => pz r) (fun _ => []) (by kernel_rfl)
noncomputable def lzn (a0 : Int) (a1 : Int) : T Int :=
 .br (decide (a1 < 0))
 (.ret a0)
 (.grd (0 ≤ a1) <|
 .cut 0 (fun (y1 : Int) => ⟨[(5, pz y1)], [], [], 0⟩)
 (.grd (0 ≤ a1) <|
 .br ((IntKind.i64.wrap ((a0.fdiv (2 ^ (min (a1).toNat 64))) * 2 ^ (min (a1).toNat 64))) != a0)
 (.ret (.out (IntKind.i64.wrap ((a0.fdiv (2 ^ (min (a1).toNat 64))) + 1))))
 (.ret (.out (a0.fdiv (2 ^ (min (a1).toNat 64)))))) fun y1 =>
 .ret y1)
noncomputable def azv (a0 : Int) (a1 : Int) : CallS Int :=
  mkC [] hd Tryz.func236 (by kernel_rfl) (lzn a0 a1) 0 [pz a0, pz a1] [] (fun r => pz r) (fun _ => []) (by kernel_rfl)
noncomputable def izd (a0 : Int) (a1 : Int) : T az0 :=
 .call (azs a0 16) [] fun y1 =>
 .call (azv a1 16) [] fun y2 =>
 .call (ezy y1 y2) [] fun y3 =>
 .ret y3
noncomputable def pz8 (a0 : Int) (a1 : Int) : CallS az0 :=
  mkC [] hd Tryz.func288 (by kernel_rfl) (izd a0 a1) 0 [pz a0, pz a1] [] (fun r => .pure (az4 r)) (fun _ => []) (by kernel_rfl)
noncomputable def nzv (a0 : az0) (a1 : az0) : T az0 :=
 .call (gz8 (⟨a0.Lo, a0.Hi⟩ : az0) (⟨a1.Lo, a1.Hi⟩ : az0)) [] fun y35 =>
 .br (!y35)
 (.ret (⟨0, 0⟩ : az0))
 (.ix 0 4 rfl <|
 .ix 0 4 rfl <|
 .loop (fun (x56 : (Int × Int × Int)) => ⟨[(4, .ptr 0 0), (6, pz x56.1), (7, pz x56.2.1), (40, .pure (Czi ((IntKind.i64.wrap (a0.Lo * a1.Lo)), (IntKind.i64.wrap (a0.Lo * a1.Hi)), (IntKind.i64.wrap (a0.Hi * a1.Lo)), (IntKind.i64.wrap (a0.Hi * a1.Hi))))), (41, pz x56.2.2)], [(0, .box [pz 0, pz 0])], [], 1⟩)
 (.exit 0) (fun (y61 : (Int × Int)) => ⟨[(4, .ptr 0 0), (6, pz y61.1), (7, pz y61.2)], [(0, .box [pz 0, pz 0])], [], 1⟩)
 (fun x56 => .br (decide (x56.2.2 < 4))
 (.grd (0 ≤ x56.2.2 ∧ x56.2.2 < ((4 : Nat) : Int)) <|
 .name 7000 ((([(IntKind.i64.wrap (a0.Lo * a1.Lo)), (IntKind.i64.wrap (a0.Lo * a1.Hi)), (IntKind.i64.wrap (a0.Hi * a1.Lo)), (IntKind.i64.wrap (a0.Hi * a1.Hi))] : List Int).getD (x56.2.2).toNat 0)) fun z65 =>
 .ret (.next ((min x56.1 z65), (max x56.2.1 z65), (IntKind.i64.wrap (x56.2.2 + 1)))))
 (.ret (.out (x56.1, x56.2.1))))
 ((IntKind.i64.wrap (a0.Lo * a1.Lo)), (IntKind.i64.wrap (a0.Lo * a1.Lo)), 0) [] fun y61 =>
 .call (pz8 y61.1 y61.2) [] fun y66 =>
 .ret y66)
noncomputable def aze (a0 : az0) (a1 : az0) : CallS az0 :=
  mkC [] hd Tryz.func275 (by kernel_rfl) (nzv a0 a1) 0 [.pure (az4 a0), .pure (az4 a1)] [] (fun r => .pure (az4 r)) (fun _ => []) (by kernel_rfl)
noncomputable def nzr (a0 : az0) (a1 : az0) : T az0 :=
 .call (gz8 a0 a1) [] fun y4 =>
 .br (!y4)
 (.ret (⟨0, 0⟩ : az0))
 (.call (ezy (IntKind.i64.wrap (a0.Lo + a1.Lo)) (IntKind.i64.wrap (a0.Hi + a1.Hi))) [] fun y5 =>
 .ret y5)
noncomputable def azc (a0 : az0) (a1 : az0) : CallS az0 :=
  mkC [] hd Tryz.func274 (by kernel_rfl) (nzr a0 a1) 0 [.pure (az4 a0), .pure (az4 a1)] [] (fun r => .pure (az4 r)) (fun _ => []) (by kernel_rfl)
noncomputable def kza (a0 : Int) : T Int :=
 .ret (min (max a0 (-65536)) 65536)
noncomputable def azr (a0 : Int) : CallS Int :=
  mkC [] hd Tryz.func276 (by kernel_rfl) (kza a0) 0 [pz a0] [] (fun r => pz r) (fun _ => []) (by kernel_rfl)
set_option maxHeartbeats 8000000 in
set_option maxRecDepth 20000 in
noncomputable def kz9 (a0 : ((az0 × az0 × az0) × (az0 × az0 × az0) × (az0 × az0 × az0))) (a1 : ((az0 × az0 × az0) × (az0 × az0 × az0) × (az0 × az0 × az0))) : T ((az0 × az0 × az0) × (az0 × az0 × az0) × (az0 × az0 × az0)) :=
 .unroll 4 <|
 .known true <|
 .unroll 4 <|
 .known true <|
 .unroll 4 <|
 .known true <|
 .ix 0 3 rfl <|
 .ix 0 3 rfl <|
 .ix 0 3 rfl <|
 .ix 0 3 rfl <|
 .call (aze a0.1.1 a1.1.1) [] fun y3531 =>
 .call (azc (⟨0, 0⟩ : az0) y3531) [] fun y3532 =>
 .lit 13000 (1) <|
 .known true <|
 .ix 0 3 rfl <|
 .ix 1 3 rfl <|
 .ix 1 3 rfl <|
 .ix 0 3 rfl <|
 .call (aze a0.1.2.1 a1.2.1.1) [] fun y3535 =>
 .call (azc y3532 y3535) [] fun y3536 =>
 .lit 13000 (2) <|
 .known true <|
 .ix 0 3 rfl <|
 .ix 2 3 rfl <|
 .ix 2 3 rfl <|
 .ix 0 3 rfl <|
 .call (aze a0.1.2.2 a1.2.2.1) [] fun y3539 =>
 .call (azc y3536 y3539) [] fun y3540 =>
 .lit 13000 (3) <|
 .known false <|
 .call (azr y3540.Lo) [] fun y3541 =>
 .call (azr y3540.Hi) [] fun y3542 =>
 .ix 0 3 rfl <|
 .ix 0 3 rfl <|
 .lit 15000 (1) <|
 .known true <|
 .unroll 4 <|
 .known true <|
 .ix 0 3 rfl <|
 .ix 0 3 rfl <|
 .ix 0 3 rfl <|
 .ix 1 3 rfl <|
 .call (aze a0.1.1 a1.1.2.1) [] fun y3607 =>
 .call (azc (⟨0, 0⟩ : az0) y3607) [] fun y3608 =>
 .lit 13000 (1) <|
 .known true <|
 .ix 0 3 rfl <|
 .ix 1 3 rfl <|
 .ix 1 3 rfl <|
 .ix 1 3 rfl <|
 .call (aze a0.1.2.1 a1.2.1.2.1) [] fun y3611 =>
 .call (azc y3608 y3611) [] fun y3612 =>
 .lit 13000 (2) <|
 .known true <|
 .ix 0 3 rfl <|
 .ix 2 3 rfl <|
 .ix 2 3 rfl <|
 .ix 1 3 rfl <|
 .call (aze a0.1.2.2 a1.2.2.2.1) [] fun y3615 =>
 .call (azc y3612 y3615) [] fun y3616 =>
 .lit 13000 (3) <|
 .known false <|
 .call (azr y3616.Lo) [] fun y3617 =>
 .call (azr y3616.Hi) [] fun y3618 =>
 .ix 0 3 rfl <|
 .ix 1 3 rfl <|
 .lit 15000 (2) <|
 .known true <|
 .unroll 4 <|
 .known true <|
 .ix 0 3 rfl <|
 .ix 0 3 rfl <|
 .ix 0 3 rfl <|
 .ix 2 3 rfl <|
 .call (aze a0.1.1 a1.1.2.2) [] fun y3683 =>
 .call (azc (⟨0, 0⟩ : az0) y3683) [] fun y3684 =>
 .lit 13000 (1) <|
 .known true <|
 .ix 0 3 rfl <|
 .ix 1 3 rfl <|
 .ix 1 3 rfl <|
 .ix 2 3 rfl <|
 .call (aze a0.1.2.1 a1.2.1.2.2) [] fun y3687 =>
 .call (azc y3684 y3687) [] fun y3688 =>
 .lit 13000 (2) <|
 .known true <|
 .ix 0 3 rfl <|
 .ix 2 3 rfl <|
 .ix 2 3 rfl <|
 .ix 2 3 rfl <|
 .call (aze a0.1.2.2 a1.2.2.2.2) [] fun y3691 =>
 .call (azc y3688 y3691) [] fun y3692 =>
 .lit 13000 (3) <|
 .known false <|
 .call (azr y3692.Lo) [] fun y3693 =>
 .call (azr y3692.Hi) [] fun y3694 =>
 .ix 0 3 rfl <|
 .ix 2 3 rfl <|
 .lit 15000 (3) <|
 .known false <|
 .lit 16000 (1) <|
 .known true <|
 .unroll 4 <|
 .known true <|
 .unroll 4 <|
 .known true <|
 .ix 1 3 rfl <|
 .ix 0 3 rfl <|
 .ix 0 3 rfl <|
 .ix 0 3 rfl <|
 .call (aze a0.2.1.1 a1.1.1) [] fun y4145 =>
 .call (azc (⟨0, 0⟩ : az0) y4145) [] fun y4146 =>
 .lit 13000 (1) <|
 .known true <|
 .ix 1 3 rfl <|
 .ix 1 3 rfl <|
 .ix 1 3 rfl <|
 .ix 0 3 rfl <|
 .call (aze a0.2.1.2.1 a1.2.1.1) [] fun y4149 =>
 .call (azc y4146 y4149) [] fun y4150 =>
 .lit 13000 (2) <|
 .known true <|
 .ix 1 3 rfl <|
 .ix 2 3 rfl <|
 .ix 2 3 rfl <|
 .ix 0 3 rfl <|
 .call (aze a0.2.1.2.2 a1.2.2.1) [] fun y4153 =>
 .call (azc y4150 y4153) [] fun y4154 =>
 .lit 13000 (3) <|
 .known false <|
 .call (azr y4154.Lo) [] fun y4155 =>
 .call (azr y4154.Hi) [] fun y4156 =>
 .ix 1 3 rfl <|
 .ix 0 3 rfl <|
 .lit 15000 (1) <|
 .known true <|
 .unroll 4 <|
 .known true <|
 .ix 1 3 rfl <|
 .ix 0 3 rfl <|
 .ix 0 3 rfl <|
 .ix 1 3 rfl <|
 .call (aze a0.2.1.1 a1.1.2.1) [] fun y4221 =>
 .call (azc (⟨0, 0⟩ : az0) y4221) [] fun y4222 =>
 .lit 13000 (1) <|
 .known true <|
 .ix 1 3 rfl <|
 .ix 1 3 rfl <|
 .ix 1 3 rfl <|
 .ix 1 3 rfl <|
 .call (aze a0.2.1.2.1 a1.2.1.2.1) [] fun y4225 =>
 .call (azc y4222 y4225) [] fun y4226 =>
 .lit 13000 (2) <|
 .known true <|
 .ix 1 3 rfl <|
 .ix 2 3 rfl <|
 .ix 2 3 rfl <|
 .ix 1 3 rfl <|
 .call (aze a0.2.1.2.2 a1.2.2.2.1) [] fun y4229 =>
 .call (azc y4226 y4229) [] fun y4230 =>
 .lit 13000 (3) <|
 .known false <|
 .call (azr y4230.Lo) [] fun y4231 =>
 .call (azr y4230.Hi) [] fun y4232 =>
 .ix 1 3 rfl <|
 .ix 1 3 rfl <|
 .lit 15000 (2) <|
 .known true <|
 .unroll 4 <|
 .known true <|
 .ix 1 3 rfl <|
 .ix 0 3 rfl <|
 .ix 0 3 rfl <|
 .ix 2 3 rfl <|
 .call (aze a0.2.1.1 a1.1.2.2) [] fun y4297 =>
 .call (azc (⟨0, 0⟩ : az0) y4297) [] fun y4298 =>
 .lit 13000 (1) <|
 .known true <|
 .ix 1 3 rfl <|
 .ix 1 3 rfl <|
 .ix 1 3 rfl <|
 .ix 2 3 rfl <|
 .call (aze a0.2.1.2.1 a1.2.1.2.2) [] fun y4301 =>
 .call (azc y4298 y4301) [] fun y4302 =>
 .lit 13000 (2) <|
 .known true <|
 .ix 1 3 rfl <|
 .ix 2 3 rfl <|
 .ix 2 3 rfl <|
 .ix 2 3 rfl <|
 .call (aze a0.2.1.2.2 a1.2.2.2.2) [] fun y4305 =>
 .call (azc y4302 y4305) [] fun y4306 =>
 .lit 13000 (3) <|
 .known false <|
 .call (azr y4306.Lo) [] fun y4307 =>
 .call (azr y4306.Hi) [] fun y4308 =>
 .ix 1 3 rfl <|
 .ix 2 3 rfl <|
 .lit 15000 (3) <|
 .known false <|
 .lit 16000 (2) <|
 .known true <|
 .unroll 4 <|
 .known true <|
 .unroll 4 <|
 .known true <|
 .ix 2 3 rfl <|
 .ix 0 3 rfl <|
 .ix 0 3 rfl <|
 .ix 0 3 rfl <|
 .call (aze a0.2.2.1 a1.1.1) [] fun y4759 =>
 .call (azc (⟨0, 0⟩ : az0) y4759) [] fun y4760 =>
 .lit 13000 (1) <|
 .known true <|
 .ix 2 3 rfl <|
 .ix 1 3 rfl <|
 .ix 1 3 rfl <|
 .ix 0 3 rfl <|
 .call (aze a0.2.2.2.1 a1.2.1.1) [] fun y4763 =>
 .call (azc y4760 y4763) [] fun y4764 =>
 .lit 13000 (2) <|
 .known true <|
 .ix 2 3 rfl <|
 .ix 2 3 rfl <|
 .ix 2 3 rfl <|
 .ix 0 3 rfl <|
 .call (aze a0.2.2.2.2 a1.2.2.1) [] fun y4767 =>
 .call (azc y4764 y4767) [] fun y4768 =>
 .lit 13000 (3) <|
 .known false <|
 .call (azr y4768.Lo) [] fun y4769 =>
 .call (azr y4768.Hi) [] fun y4770 =>
 .ix 2 3 rfl <|
 .ix 0 3 rfl <|
 .lit 15000 (1) <|
 .known true <|
 .unroll 4 <|
 .known true <|
 .ix 2 3 rfl <|
 .ix 0 3 rfl <|
 .ix 0 3 rfl <|
 .ix 1 3 rfl <|
 .call (aze a0.2.2.1 a1.1.2.1) [] fun y4835 =>
 .call (azc (⟨0, 0⟩ : az0) y4835) [] fun y4836 =>
 .lit 13000 (1) <|
 .known true <|
 .ix 2 3 rfl <|
 .ix 1 3 rfl <|
 .ix 1 3 rfl <|
 .ix 1 3 rfl <|
 .call (aze a0.2.2.2.1 a1.2.1.2.1) [] fun y4839 =>
 .call (azc y4836 y4839) [] fun y4840 =>
 .lit 13000 (2) <|
 .known true <|
 .ix 2 3 rfl <|
 .ix 2 3 rfl <|
 .ix 2 3 rfl <|
 .ix 1 3 rfl <|
 .call (aze a0.2.2.2.2 a1.2.2.2.1) [] fun y4843 =>
 .call (azc y4840 y4843) [] fun y4844 =>
 .lit 13000 (3) <|
 .known false <|
 .call (azr y4844.Lo) [] fun y4845 =>
 .call (azr y4844.Hi) [] fun y4846 =>
 .ix 2 3 rfl <|
 .ix 1 3 rfl <|
 .lit 15000 (2) <|
 .known true <|
 .unroll 4 <|
 .known true <|
 .ix 2 3 rfl <|
 .ix 0 3 rfl <|
 .ix 0 3 rfl <|
 .ix 2 3 rfl <|
 .call (aze a0.2.2.1 a1.1.2.2) [] fun y4911 =>
 .call (azc (⟨0, 0⟩ : az0) y4911) [] fun y4912 =>
 .lit 13000 (1) <|
 .known true <|
 .ix 2 3 rfl <|
 .ix 1 3 rfl <|
 .ix 1 3 rfl <|
 .ix 2 3 rfl <|
 .call (aze a0.2.2.2.1 a1.2.1.2.2) [] fun y4915 =>
 .call (azc y4912 y4915) [] fun y4916 =>
 .lit 13000 (2) <|
 .known true <|
 .ix 2 3 rfl <|
 .ix 2 3 rfl <|
 .ix 2 3 rfl <|
 .ix 2 3 rfl <|
 .call (aze a0.2.2.2.2 a1.2.2.2.2) [] fun y4919 =>
 .call (azc y4916 y4919) [] fun y4920 =>
 .lit 13000 (3) <|
 .known false <|
 .call (azr y4920.Lo) [] fun y4921 =>
 .call (azr y4920.Hi) [] fun y4922 =>
 .ix 2 3 rfl <|
 .ix 2 3 rfl <|
 .lit 15000 (3) <|
 .known false <|
 .lit 16000 (3) <|
 .known false <|
 .ret (((⟨y3541, y3542⟩ : az0), (⟨y3617, y3618⟩ : az0), (⟨y3693, y3694⟩ : az0)), ((⟨y4155, y4156⟩ : az0), (⟨y4231, y4232⟩ : az0), (⟨y4307, y4308⟩ : az0)), ((⟨y4769, y4770⟩ : az0), (⟨y4845, y4846⟩ : az0), (⟨y4921, y4922⟩ : az0)))
noncomputable def rzv (a0 : ((az0 × az0 × az0) × (az0 × az0 × az0) × (az0 × az0 × az0))) (a1 : ((az0 × az0 × az0) × (az0 × az0 × az0) × (az0 × az0 × az0))) : CallS ((az0 × az0 × az0) × (az0 × az0 × az0) × (az0 × az0 × az0)) :=
  mkC [] hd Tryz.func254 (by kernel_rfl) (kz9 a0 a1) 0 [.pure (azx a0), .pure (azx a1)] [] (fun r => .pure (azx r)) (fun _ => []) (by kernel_rfl)
end Go.Abs
