/-
 M1 (a part of a claim: our own text).
-/
import Derived.Test.YtfodaccgmcljoaaGreatYBRngF
import Derived.Test.YtfodaccgmcljoaaGreatYBLend
import Derived.Test.YtfodaccgmcljoaaGreatChecked
namespace Go.Abs
open IntKind (i64)
open Go.Proofs
abbrev pz (x : Int) : AVal := .pure (.int .i64 x)
theorem hd : ez7 Tryz.prog Rzd := Kza (by kernel_rfl)
noncomputable abbrev mkD {R : Type} {f : FuncId} {fn : Func} (hf : Tryz.prog.funcs[f]? = some fn) (t : T R) (k : Nat) (args : List AVal) (m : Mem) (res : R -> AVal) (m1 : R -> Mem) (hb : (fn.body.isSome && !(fn.name == "runtime.NumGoroutine")) = true := by kernel_rfl) (h : (tz5 Tryz.prog [] Rzd fn (fn.body.getD .skip) k k t args m res m1).side true = (tz5 Tryz.prog [] Rzd fn (fn.body.getD .skip) k k t args m res m1).side false := by kernel_rfl) : CallS R := mkC [] hd hf hb t k args m res m1 h
abbrev T.gg {R : Type} (i : Int) (n : Nat) (k : T R) : T R := .grd (0 ≤ i /\ i < (n : Int)) (.grd (i.toNat < n) k)
abbrev T.gh {R : Type} (i : Int) (n : Nat) (k : T R) : T R := .grd (0 ≤ i /\ i < (n : Int)) k
abbrev T.gi {R : Type} (i : Int) (n : Nat) (k : T R) : T R := .grd (i.toNat < n /\ 0 ≤ i.toNat) k
abbrev T.oo {σ τ R : Type} (y : τ) : T (Step3 σ τ R) := .ret (.out y)
abbrev T.nn {σ τ R : Type} (x : σ) : T (Step3 σ τ R) := .ret (.next x)
abbrev T.ff {σ τ R : Type} (r : R) : T (Step3 σ τ R) := .ret (.fin r)
abbrev T.cc {R α : Type} (c : CallS α) (k : α -> T R) : T R := .call c [] k
structure Dz0 where
 list : (List Int)
 next : Int
instance : Inhabited Dz0 := ⟨⟨default, default⟩⟩
structure azs where
 Name : ByteArray
 Kind : Int
 Parent : Int
 Offset : (Int × Int × Int)
 Lo : Int
 Hi : Int
 Weight : Int
 Speed : Int
 Accel : Int
 Torque : Int
instance : Inhabited azs := ⟨⟨default, default, default, default, default, default, default, default, default, default⟩⟩
structure bzh where
 Link : Int
 Mass : Int
 Point : (Int × Int × Int)
instance : Inhabited bzh := ⟨⟨default, default, default⟩⟩
structure azn where
 Joints : (List azs)
 Masses : (List bzh)
instance : Inhabited azn := ⟨⟨default, default⟩⟩
structure bz1 where
 Link : Int
 Radius : Int
 Points : (List (Int × Int × Int))
instance : Inhabited bz1 := ⟨⟨default, default, default⟩⟩
structure gzn where
 A : Int
 B : Int
instance : Inhabited gzn := ⟨⟨default, default⟩⟩
structure azm where
 Robot : azn
 Shapes : (List bz1)
 Skips : (List gzn)
instance : Inhabited azm := ⟨⟨default, default, default⟩⟩
structure azp where
 Depth : Int
 Index : Int
 Normals : (List (Int × Int × Int))
instance : Inhabited azp := ⟨⟨default, default, default⟩⟩
structure bz7 where
 Pair : Int
 Left : (List Int)
 Right : (List Int)
instance : Inhabited bz7 := ⟨⟨default, default, default⟩⟩
structure azl where
 Kind : Int
 Pieces : (List azp)
 At : azp
 Witness : bz7
instance : Inhabited azl := ⟨⟨default, default, default, default⟩⟩
structure az2 where
 U : Int
 V : Int
 Cost : Int
 State : Int
 Proof : azl
instance : Inhabited az2 := ⟨⟨default, default, default, default, default⟩⟩
structure azb where
 Points : (List (List Int))
 Edges : (List az2)
instance : Inhabited azb := ⟨⟨default, default⟩⟩
structure bzs where
 Vertices : (List Int)
 Cost : Int
instance : Inhabited bzs := ⟨⟨default, default⟩⟩
structure aza where
 to : Int
 cost : Int
instance : Inhabited aza := ⟨⟨default, default⟩⟩
structure az8 where
 cost : Int
 points : Int
instance : Inhabited az8 := ⟨⟨default, default⟩⟩
structure azc where
 rank : az8
 point : Int
instance : Inhabited azc := ⟨⟨default, default⟩⟩
structure az0 where
 Lo : Int
 Hi : Int
instance : Inhabited az0 := ⟨⟨default, default⟩⟩
structure dz9 where
 A : Int
 B : Int
instance : Inhabited dz9 := ⟨⟨default, default⟩⟩
structure bzv where
 shapes : (List bz1)
 pairs : (List dz9)
 points : (List (List (az0 × az0 × az0)))
instance : Inhabited bzv := ⟨⟨default, default, default⟩⟩
structure bzb where
 R : ((az0 × az0 × az0) × (az0 × az0 × az0) × (az0 × az0 × az0))
 T : (az0 × az0 × az0)
instance : Inhabited bzb := ⟨⟨default, default⟩⟩
structure dzo where
 Kind : Int
 Normals : (List (Int × Int × Int))
 Witness : bz7
instance : Inhabited dzo := ⟨⟨default, default, default⟩⟩
structure ez8 where
 a : (List (az0 × az0 × az0))
 b : (List (az0 × az0 × az0))
 ra : Int
 rb : Int
instance : Inhabited ez8 := ⟨⟨default, default, default, default⟩⟩
structure dzy where
 points : (List (az0 × az0 × az0))
 radius : Int
instance : Inhabited dzy := ⟨⟨default, default⟩⟩
structure czi where
 a : dzy
 b : dzy
instance : Inhabited czi := ⟨⟨default, default⟩⟩
structure gzr where
 Kind : Int
 Normal : (Int × Int × Int)
 Left : (List Int)
 Right : (List Int)
 Steps : Int
instance : Inhabited gzr := ⟨⟨default, default, default, default, default⟩⟩
structure dzd where
 witness : bz7
instance : Inhabited dzd := ⟨⟨default⟩⟩
structure czz where
 normals : (List (Int × Int × Int))
instance : Inhabited czz := ⟨⟨default⟩⟩
structure azd where
 Cost : Int
 Edges : Int
instance : Inhabited azd := ⟨⟨default, default⟩⟩
structure Dz1 where
 depth : Int
 index : Int
 hints : (List (Int × Int × Int))
instance : Inhabited Dz1 := ⟨⟨default, default, default⟩⟩
structure Ezw where
 points : (List (az0 × az0 × az0))
 radius : Int
instance : Inhabited Ezw := ⟨⟨default, default⟩⟩
abbrev A0 := List Int
abbrev A1 := List A0
abbrev A2 := A0 × Int
abbrev A3 := List azs
abbrev A4 := List bzh
abbrev A5 := List bz1
abbrev A6 := List gzn
abbrev A7 := List az2
abbrev A8 := A1 × A7
abbrev A9 := A1 × Int
abbrev Aa := A7 × Int
abbrev Ab := List azp
abbrev Ac := List aza
abbrev Ad := List Ac
abbrev Ae := List azc
abbrev Af := List az8
abbrev Ag := List az0
abbrev Ah := List dz9
abbrev Ai := List bzb
abbrev Aj := List azd
abbrev Ak := Int × Int
abbrev Al := Aj × Bool
abbrev Am := Int × Bool
abbrev An := A0 × Int × A5
abbrev Ao := A1 × A7 × Bool
abbrev Ap := Int × Int × Int
abbrev Aq := List Ap
abbrev Ar := Ap × Bool
abbrev As := az0 × az0 × az0
abbrev Au := List As
abbrev Av := As × As × As
abbrev Aw := Int × Int × Bool
abbrev Ax := Bool × Bool × Ap
abbrev Ay := A0 × Int × A5 × Int
abbrev Az := A0 × Int × A0 × Int
abbrev B0 := Int × A0 × Int × Int
abbrev B1 := Int × Int × Int × Int
abbrev B2 := Int × Int × Int × Int × Int
abbrev B3 := Int × Int × Int × Int × Int × Int
abbrev B4 := Bool × Ap × Au × Au × Int × Int × Aq
abbrev B5 := Int × Int × Int × Int × Int × Int × Int
abbrev B6 := Int × Int × Int × Int × Int × Int × Int × Int × Int × Int × Int
abbrev B7 := Bool × Ab × Int × Ab × Int × Int × Aq × Int × A0 × A0 × A0 × A0 × A3 × A4 × A5 × A6 × Int
abbrev B8 := Int × Int × Int × Int × Int × Int × Int × Int × Int × Int × Int × Int × Int × Int × Int × Int × Int × Int × Int × Int × Int × Int × Int × Int
def azg (v : azs) : PVal := .agg [.str v.Name, .int .i64 v.Kind, .int .i64 v.Parent, .int .i64 v.Offset.1, .int .i64 v.Offset.2.1, .int .i64 v.Offset.2.2, .int .i64 v.Lo, .int .i64 v.Hi, .int .i64 v.Weight, .int .i64 v.Speed, .int .i64 v.Accel, .int .i64 v.Torque]
def azj (v : bzh) : PVal := .agg [.int .i64 v.Link, .int .i64 v.Mass, .int .i64 v.Point.1, .int .i64 v.Point.2.1, .int .i64 v.Point.2.2]
def dz3 (v : azn) : PVal := .agg [encL 12 azg v.Joints, encL 5 azj v.Masses]
def az3 (v : Ap) : PVal := .agg [.int .i64 v.1, .int .i64 v.2.1, .int .i64 v.2.2]
def azw (v : bz1) : PVal := .agg [.int .i64 v.Link, .int .i64 v.Radius, encL 3 az3 v.Points]
def bzu (v : gzn) : PVal := .agg [.int .i64 v.A, .int .i64 v.B]
def ezs (v : azm) : PVal := .agg [encL 12 azg v.Robot.Joints, encL 5 azj v.Robot.Masses, encL 3 azw v.Shapes, encL 2 bzu v.Skips]
def bz2 (v : azp) : PVal := .agg [.int .i64 v.Depth, .int .i64 v.Index, encL 3 az3 v.Normals]
def ezz (v : azl) : PVal := .agg [.int .i64 v.Kind, encL 3 bz2 v.Pieces, .int .i64 v.At.Depth, .int .i64 v.At.Index, encL 3 az3 v.At.Normals, .int .i64 v.Witness.Pair, encL 1 az1 v.Witness.Left, encL 1 az1 v.Witness.Right]
def az5 (v : az2) : PVal := .agg [.int .i64 v.U, .int .i64 v.V, .int .i64 v.Cost, .int .i64 v.State, .int .i64 v.Proof.Kind, encL 3 bz2 v.Proof.Pieces, .int .i64 v.Proof.At.Depth, .int .i64 v.Proof.At.Index, encL 3 az3 v.Proof.At.Normals, .int .i64 v.Proof.Witness.Pair, encL 1 az1 v.Proof.Witness.Left, encL 1 az1 v.Proof.Witness.Right]
def bzm (v : azb) : PVal := .agg [encL 1 (encL 1 az1) v.Points, encL 12 az5 v.Edges]
def rzk (v : bzs) : PVal := .agg [encL 1 az1 v.Vertices, .int .i64 v.Cost]
def azv (v : aza) : PVal := .agg [.int .i64 v.to, .int .i64 v.cost]
def bz3 (v : az8) : PVal := .agg [.int .i64 v.cost, .int .i64 v.points]
def azq (v : azc) : PVal := .agg [.int .i64 v.rank.cost, .int .i64 v.rank.points, .int .i64 v.point]
def aze (v : az0) : PVal := .agg [.int .i64 v.Lo, .int .i64 v.Hi]
def gzb (v : dz9) : PVal := .agg [.int .i64 v.A, .int .i64 v.B]
def az4 (v : As) : PVal := .agg [.int .i64 v.1.Lo, .int .i64 v.1.Hi, .int .i64 v.2.1.Lo, .int .i64 v.2.1.Hi, .int .i64 v.2.2.Lo, .int .i64 v.2.2.Hi]
def ozl (v : bzv) : PVal := .agg [encL 3 azw v.shapes, encL 2 gzb v.pairs, encL 1 (encL 6 az4) v.points]
def czs (v : bzb) : PVal := .agg [.int .i64 v.R.1.1.Lo, .int .i64 v.R.1.1.Hi, .int .i64 v.R.1.2.1.Lo, .int .i64 v.R.1.2.1.Hi, .int .i64 v.R.1.2.2.Lo, .int .i64 v.R.1.2.2.Hi, .int .i64 v.R.2.1.1.Lo, .int .i64 v.R.2.1.1.Hi, .int .i64 v.R.2.1.2.1.Lo, .int .i64 v.R.2.1.2.1.Hi, .int .i64 v.R.2.1.2.2.Lo, .int .i64 v.R.2.1.2.2.Hi, .int .i64 v.R.2.2.1.Lo, .int .i64 v.R.2.2.1.Hi, .int .i64 v.R.2.2.2.1.Lo, .int .i64 v.R.2.2.2.1.Hi, .int .i64 v.R.2.2.2.2.Lo, .int .i64 v.R.2.2.2.2.Hi, .int .i64 v.T.1.Lo, .int .i64 v.T.1.Hi, .int .i64 v.T.2.1.Lo, .int .i64 v.T.2.1.Hi, .int .i64 v.T.2.2.Lo, .int .i64 v.T.2.2.Hi]
def zzr (v : B1) : PVal := .agg [.int .i64 v.1, .int .i64 v.2.1, .int .i64 v.2.2.1, .int .i64 v.2.2.2]
def uzm (v : dzo) : PVal := .agg [.int .i64 v.Kind, encL 3 az3 v.Normals, .int .i64 v.Witness.Pair, encL 1 az1 v.Witness.Left, encL 1 az1 v.Witness.Right]
def uzn (v : ez8) : PVal := .agg [encL 6 az4 v.a, encL 6 az4 v.b, .int .i64 v.ra, .int .i64 v.rb]
def Bzn (v : dzy) : PVal := .agg [encL 6 az4 v.points, .int .i64 v.radius]
def lzg (v : czi) : PVal := .agg [encL 6 az4 v.a.points, .int .i64 v.a.radius, encL 6 az4 v.b.points, .int .i64 v.b.radius]
def Hzo (v : gzr) : PVal := .agg [.int .i64 v.Kind, .int .i64 v.Normal.1, .int .i64 v.Normal.2.1, .int .i64 v.Normal.2.2, encL 1 az1 v.Left, encL 1 az1 v.Right, .int .i64 v.Steps]
def rz9 (v : dzd) : PVal := .agg [.int .i64 v.witness.Pair, encL 1 az1 v.witness.Left, encL 1 az1 v.witness.Right]
def pzg (v : czz) : PVal := .agg [encL 3 az3 v.normals]
def azu (v : azd) : PVal := .agg [.int .i64 v.Cost, .int .i64 v.Edges]
def gzx (v : Ak) : PVal := .agg [.int .i64 v.1, .int .i64 v.2]
def czo (v : Av) : PVal := .agg [.int .i64 v.1.1.Lo, .int .i64 v.1.1.Hi, .int .i64 v.1.2.1.Lo, .int .i64 v.1.2.1.Hi, .int .i64 v.1.2.2.Lo, .int .i64 v.1.2.2.Hi, .int .i64 v.2.1.1.Lo, .int .i64 v.2.1.1.Hi, .int .i64 v.2.1.2.1.Lo, .int .i64 v.2.1.2.1.Hi, .int .i64 v.2.1.2.2.Lo, .int .i64 v.2.1.2.2.Hi, .int .i64 v.2.2.1.Lo, .int .i64 v.2.2.1.Hi, .int .i64 v.2.2.2.1.Lo, .int .i64 v.2.2.2.1.Hi, .int .i64 v.2.2.2.2.Lo, .int .i64 v.2.2.2.2.Hi]
def qzq (v : B6) : PVal := .agg [.int .i64 v.1, .int .i64 v.2.1, .int .i64 v.2.2.1, .int .i64 v.2.2.2.1, .int .i64 v.2.2.2.2.1, .int .i64 v.2.2.2.2.2.1, .int .i64 v.2.2.2.2.2.2.1, .int .i64 v.2.2.2.2.2.2.2.1, .int .i64 v.2.2.2.2.2.2.2.2.1, .int .i64 v.2.2.2.2.2.2.2.2.2.1, .int .i64 v.2.2.2.2.2.2.2.2.2.2]
theorem Rzj : GuardFn Tryz.prog 37 :=
 ezc (fn := Tryz.f37) Tryz.func37 (by kernel_rfl) ⟨0, (gOps Tryz.f37).getD 0 default, (gOps Tryz.f37).getD 1 default, 4, 5, gX Tryz.f37, gC ((gOps Tryz.f37).getD 0 default), 20, 20, by kernel_rfl, by kernel_rfl, by kernel_rfl, by kernel_rfl, by kernel_rfl, by kernel_rfl, by kernel_rfl, by kernel_rfl, ⟨gMs (Tryz.prog.underlying 20), by kernel_rfl⟩, by decide, by decide, by kernel_rfl⟩
theorem Rzk : GuardFn Tryz.prog 50 :=
 ezc (fn := Tryz.f50) Tryz.func50 (by kernel_rfl) ⟨0, (gOps Tryz.f50).getD 0 default, (gOps Tryz.f50).getD 1 default, 3, 4, gX Tryz.f50, gC ((gOps Tryz.f50).getD 0 default), 20, 20, by kernel_rfl, by kernel_rfl, by kernel_rfl, by kernel_rfl, by kernel_rfl, by kernel_rfl, by kernel_rfl, by kernel_rfl, ⟨gMs (Tryz.prog.underlying 20), by kernel_rfl⟩, by decide, by decide, by kernel_rfl⟩
theorem Rzl : GuardFn Tryz.prog 57 :=
 ezc (fn := Tryz.f57) Tryz.func57 (by kernel_rfl) ⟨0, (gOps Tryz.f57).getD 0 default, (gOps Tryz.f57).getD 1 default, 2, 3, gX Tryz.f57, gC ((gOps Tryz.f57).getD 0 default), 20, 20, by kernel_rfl, by kernel_rfl, by kernel_rfl, by kernel_rfl, by kernel_rfl, by kernel_rfl, by kernel_rfl, by kernel_rfl, ⟨gMs (Tryz.prog.underlying 20), by kernel_rfl⟩, by decide, by decide, by kernel_rfl⟩
theorem Rzm : GuardFn Tryz.prog 70 :=
 ezc (fn := Tryz.f70) Tryz.func70 (by kernel_rfl) ⟨0, (gOps Tryz.f70).getD 0 default, (gOps Tryz.f70).getD 1 default, 2, 3, gX Tryz.f70, gC ((gOps Tryz.f70).getD 0 default), 20, 20, by kernel_rfl, by kernel_rfl, by kernel_rfl, by kernel_rfl, by kernel_rfl, by kernel_rfl, by kernel_rfl, by kernel_rfl, ⟨gMs (Tryz.prog.underlying 20), by kernel_rfl⟩, by decide, by decide, by kernel_rfl⟩
theorem Lzv : GuardFn Tryz.prog 94 :=
 ezc (fn := Tryz.f94) Tryz.func94 (by kernel_rfl) ⟨0, (gOps Tryz.f94).getD 0 default, (gOps Tryz.f94).getD 1 default, 2, 3, gX Tryz.f94, gC ((gOps Tryz.f94).getD 0 default), 20, 20, by kernel_rfl, by kernel_rfl, by kernel_rfl, by kernel_rfl, by kernel_rfl, by kernel_rfl, by kernel_rfl, by kernel_rfl, ⟨gMs (Tryz.prog.underlying 20), by kernel_rfl⟩, by decide, by decide, by kernel_rfl⟩
theorem Ozg : GuardFn Tryz.prog 102 :=
 ezc (fn := Tryz.f102) Tryz.func102 (by kernel_rfl) ⟨0, (gOps Tryz.f102).getD 0 default, (gOps Tryz.f102).getD 1 default, 1, 2, gX Tryz.f102, gC ((gOps Tryz.f102).getD 0 default), 20, 20, by kernel_rfl, by kernel_rfl, by kernel_rfl, by kernel_rfl, by kernel_rfl, by kernel_rfl, by kernel_rfl, by kernel_rfl, ⟨gMs (Tryz.prog.underlying 20), by kernel_rfl⟩, by decide, by decide, by kernel_rfl⟩
theorem Ozh : GuardFn Tryz.prog 136 :=
 ezc (fn := Tryz.f136) Tryz.func136 (by kernel_rfl) ⟨0, (gOps Tryz.f136).getD 0 default, (gOps Tryz.f136).getD 1 default, 1, 2, gX Tryz.f136, gC ((gOps Tryz.f136).getD 0 default), 20, 20, by kernel_rfl, by kernel_rfl, by kernel_rfl, by kernel_rfl, by kernel_rfl, by kernel_rfl, by kernel_rfl, by kernel_rfl, ⟨gMs (Tryz.prog.underlying 20), by kernel_rfl⟩, by decide, by decide, by kernel_rfl⟩
theorem Ozi : GuardFn Tryz.prog 168 :=
 ezc (fn := Tryz.f168) Tryz.func168 (by kernel_rfl) ⟨0, (gOps Tryz.f168).getD 0 default, (gOps Tryz.f168).getD 1 default, 2, 3, gX Tryz.f168, gC ((gOps Tryz.f168).getD 0 default), 20, 20, by kernel_rfl, by kernel_rfl, by kernel_rfl, by kernel_rfl, by kernel_rfl, by kernel_rfl, by kernel_rfl, by kernel_rfl, ⟨gMs (Tryz.prog.underlying 20), by kernel_rfl⟩, by decide, by decide, by kernel_rfl⟩
theorem Ozj : GuardFn Tryz.prog 176 :=
 ezc (fn := Tryz.f176) Tryz.func176 (by kernel_rfl) ⟨0, (gOps Tryz.f176).getD 0 default, (gOps Tryz.f176).getD 1 default, 1, 2, gX Tryz.f176, gC ((gOps Tryz.f176).getD 0 default), 20, 20, by kernel_rfl, by kernel_rfl, by kernel_rfl, by kernel_rfl, by kernel_rfl, by kernel_rfl, by kernel_rfl, by kernel_rfl, ⟨gMs (Tryz.prog.underlying 20), by kernel_rfl⟩, by decide, by decide, by kernel_rfl⟩
theorem Ozk : GuardFn Tryz.prog 219 :=
 ezc (fn := Tryz.f219) Tryz.func219 (by kernel_rfl) ⟨0, (gOps Tryz.f219).getD 0 default, (gOps Tryz.f219).getD 1 default, 2, 3, gX Tryz.f219, gC ((gOps Tryz.f219).getD 0 default), 20, 20, by kernel_rfl, by kernel_rfl, by kernel_rfl, by kernel_rfl, by kernel_rfl, by kernel_rfl, by kernel_rfl, by kernel_rfl, ⟨gMs (Tryz.prog.underlying 20), by kernel_rfl⟩, by decide, by decide, by kernel_rfl⟩
theorem Ozl : GuardFn Tryz.prog 243 :=
 ezc (fn := Tryz.f243) Tryz.func243 (by kernel_rfl) ⟨0, (gOps Tryz.f243).getD 0 default, (gOps Tryz.f243).getD 1 default, 2, 3, gX Tryz.f243, gC ((gOps Tryz.f243).getD 0 default), 20, 20, by kernel_rfl, by kernel_rfl, by kernel_rfl, by kernel_rfl, by kernel_rfl, by kernel_rfl, by kernel_rfl, by kernel_rfl, ⟨gMs (Tryz.prog.underlying 20), by kernel_rfl⟩, by decide, by decide, by kernel_rfl⟩
noncomputable def Iz0 (c : A0) : T A2 :=
 .ret (c, 0)
noncomputable def izb (c) :=
 mkD Tryz.func25 (Iz0 c) 0 [.pure (encL 1 az1 c)] [] (fun _ => .ptr 0 0) (fun r => [(0, .box [.pure (encL 1 az1 r.1), pz r.2])])
noncomputable def rzz (c : Int) (d : Int) : T Int := let e := c.tmod d; .grd (d ≠ 0) <|
 .cut 0 (fun (f : Int) => ⟨[(5, pz f)], [], [], 0⟩)
 (.br (decide (e < 0))
 (.oo (i64.wrap (e + d)))
 (.oo e)) fun f =>
 .ret f
noncomputable def ez0 (c) (d) :=
 mkD Tryz.func13 (rzz c d) 0 [pz c, pz d] [] (fun r => pz r) (fun _ => [])
noncomputable def pz6 (c : A0) (d : Int) (e : Int) : T (Int × A0 × Int) := let f := i64.wrap (d + 1); let g := i64.wrap (f - 1); .br (decide (d ≥ (c.length : Int)))
 (.ret (0, c, d))
 (.gh g c.length <|
 .call (ez0 (c.getD (g.toNat) default) e) [] fun h =>
 .ret (h, c, f))
noncomputable def azh (c) (d) (e) :=
 mkD Tryz.func27 (pz6 c d e) 1 [.ptr 0 0, pz e] [(0, .box [.pure (encL 1 az1 c), pz d])] (fun r => pz r.1) (fun r => [(0, .box [.pure (encL 1 az1 r.2.1), pz r.2.2])])
noncomputable def hz8 (c : Int) : T ByteArray := let d := i64.wrap (c + 1); .grd (0 ≤ c /\ c ≤ d /\ d ≤ (((⟨#[97, 98, 99, 100, 101, 102, 103, 104, 105, 106]⟩ : ByteArray).size : Nat) : Int)) <|
 .ret ((⟨#[97, 98, 99, 100, 101, 102, 103, 104, 105, 106]⟩ : ByteArray).extract c.toNat d.toNat)
noncomputable def hz7 (c) :=
 mkD Tryz.func88 (hz8 c) 0 [pz c] [] (fun r => .pure (.str r)) (fun _ => [])
noncomputable def lz5 (c : A0) (d : Int) (e : Int) : T (Int × A0 × Int) :=
 .call (azh c d (i64.wrap ((i64.wrap (2 * e)) + 1))) [(0, 0)] fun f =>
 .ret ((i64.wrap (f.1 - e)), f.2.1, f.2.2)
noncomputable def bz6 (c) (d) (e) :=
 mkD Tryz.func29 (lz5 c d e) 1 [.ptr 0 0, pz e] [(0, .box [.pure (encL 1 az1 c), pz d])] (fun r => pz r.1) (fun r => [(0, .box [.pure (encL 1 az1 r.2.1), pz r.2.2])])
noncomputable def jzj (c : A0) (d : Int) (e : Int) : T (azs × A0 × Int) :=
 .cc (hz7 e) fun f =>
 .call (azh c d 4) [(0, 0)] fun g => let h := i64.wrap (1 + g.1);
 .call (azh g.2.1 g.2.2 3) [(0, 0)] fun i => let j := i64.wrap (65536 + i.1);
 .call (azh i.2.1 i.2.2 8) [(0, 0)] fun k => let m := ([3, 3, 1, 2, 4, 5, 3, 0] : List Int).getD (k.1).toNat 0;
 .gh k.1 8 <|
 .cut 0 (fun (n : (A0 × Int × Int)) => ⟨[(0, .ptr 0 0), (1, pz e), (4, .ptr 1 0), (5, .ptr 2 0)], [(0, .box [.pure (encL 1 az1 n.1), pz n.2.1]), (1, .box [.pure (.str (⟨#[]⟩ : ByteArray)), pz 0, pz 0, pz 0, pz 0, pz 0, pz 0, pz 0, pz 0, pz 0, pz 0, pz 0]), (2, .box [.pure (.str f), pz m, pz n.2.2, pz 0, pz 0, pz 0, pz 0, pz 0, pz h, pz 65536, pz j, pz 327680])], [], 3⟩)
 (.call (azh k.2.1 k.2.2 4) [(0, 0)] fun n =>
 .br (n.1 == 1)
 (.oo (n.2.1, n.2.2, (-1)))
 (.oo (n.2.1, n.2.2, (i64.wrap (e - 1))))) fun n =>
 .cut 0 (fun (q : (A0 × Int × Int × Int × Int)) => ⟨[(0, .ptr 0 0), (4, .ptr 1 0), (5, .ptr 2 0)], [(0, .box [.pure (encL 1 az1 q.1), pz q.2.1]), (1, .box [.pure (.str (⟨#[]⟩ : ByteArray)), pz 0, pz 0, pz 0, pz 0, pz 0, pz 0, pz 0, pz 0, pz 0, pz 0, pz 0]), (2, .box [.pure (.str f), pz m, pz n.2.2, pz q.2.2.1, pz q.2.2.2.1, pz q.2.2.2.2, pz 0, pz 0, pz h, pz 65536, pz j, pz 327680])], [], 3⟩)
 (.br (decide (e > 0))
 (.call (bz6 n.1 n.2.1 2) [(0, 0)] fun q =>
 .call (bz6 q.2.1 q.2.2 1) [(0, 0)] fun s =>
 .oo (s.2.1, s.2.2, 131072, (i64.wrap (q.1 * 32768)), (i64.wrap (s.1 * 32768))))
 (.oo (n.1, n.2.1, 0, 0, 0))) fun q =>
 .cut 0 (fun (s : (A0 × Int × Int × Int)) => ⟨[(4, .ptr 1 0), (5, .ptr 2 0)], [(0, .box [.pure (encL 1 az1 s.1), pz s.2.1]), (1, .box [.pure (.str (⟨#[]⟩ : ByteArray)), pz 0, pz 0, pz 0, pz 0, pz 0, pz 0, pz 0, pz 0, pz 0, pz 0, pz 0]), (2, .box [.pure (.str f), pz m, pz n.2.2, pz q.2.2.1, pz q.2.2.2.1, pz q.2.2.2.2, pz s.2.2.1, pz s.2.2.2, pz h, pz 65536, pz j, pz 327680])], [], 3⟩)
 (.br (m == 0)
 (.oo (q.1, q.2.1, 0, 0))
 (.cut 0 (fun (s : Bool) => ⟨[(0, .ptr 0 0), (4, .ptr 1 0), (5, .ptr 2 0), (55, .pure (.bool s))], [(0, .box [.pure (encL 1 az1 q.1), pz q.2.1]), (1, .box [.pure (.str (⟨#[]⟩ : ByteArray)), pz 0, pz 0, pz 0, pz 0, pz 0, pz 0, pz 0, pz 0, pz 0, pz 0, pz 0]), (2, .box [.pure (.str f), pz m, pz n.2.2, pz q.2.2.1, pz q.2.2.2.1, pz q.2.2.2.2, pz 0, pz 0, pz h, pz 65536, pz j, pz 327680])], [], 3⟩)
 (.br (m == 4)
 (.oo (m == 4))
 (.oo (m == 5))) fun s =>
 .br s
 (.call (azh q.1 q.2.1 3) [(0, 0)] fun t =>
 .call (azh t.2.1 t.2.2 4) [(0, 0)] fun w =>
 .oo (w.2.1, w.2.2, (i64.wrap ((i64.wrap (0 - t.1)) * 65536)), (i64.wrap (w.1 * 32768))))
 (.call (azh q.1 q.2.1 5) [(0, 0)] fun t =>
 .ok ((8 : Int) ≠ 0) (by decide) <|
 .call (azh t.2.1 t.2.2 4) [(0, 0)] fun w =>
 .ok ((8 : Int) ≠ 0) (by decide) <|
 .call (azh w.2.1 w.2.2 3) [(0, 0)] fun y =>
 .oo (y.2.1, y.2.2, (i64.wrap ((i64.wrap ((i64.wrap (0 - t.1)) * 65536)).tdiv 8)), (i64.wrap ((i64.wrap ((i64.wrap ((i64.wrap (1 + w.1)) * 65536)).tdiv 8)) + y.1)))))) fun s =>
 .ret ((⟨f, m, n.2.2, (q.2.2.1, q.2.2.2.1, q.2.2.2.2), s.2.2.1, s.2.2.2, h, 65536, j, 327680⟩ : azs), s.1, s.2.1)
noncomputable def jzi (c) (d) (e) :=
 mkD Tryz.func58 (jzj c d e) 1 [.ptr 0 0, pz e] [(0, .box [.pure (encL 1 az1 c), pz d])] (fun r => .pure (azg r.1)) (fun r => [(0, .box [.pure (encL 1 az1 r.2.1), pz r.2.2])])
noncomputable def jzk (c : A0) (d : Int) : T (azn × A0 × Int) :=
 .call (azh c d 3) [(0, 0)] fun e => let f := i64.wrap (1 + e.1);
 .loop (fun (g : (A0 × Int × A3 × Int)) => ⟨[(0, .ptr 0 0), (2, .ptr 1 0), (3, .ptr 4 0), (4, pz f), (5, pz g.2.2.2)], [(0, .box [.pure (encL 1 az1 g.1), pz g.2.1]), (1, .box [.vec 2, .vec 3]), (2, .nilv), (3, .nilv), (4, .box [.vec 5, .vec 6]), (5, vecO 12 azg g.2.2.1 115), (6, .nilv)], [], 7⟩)
 (.exit 0) (fun (g : (A0 × Int × A3)) => ⟨[(0, .ptr 0 0), (2, .ptr 1 0), (3, .ptr 4 0), (4, pz f)], [(0, .box [.pure (encL 1 az1 g.1), pz g.2.1]), (1, .box [.vec 2, .vec 3]), (2, .nilv), (3, .nilv), (4, .box [.vec 5, .vec 6]), (5, vecO 12 azg g.2.2 115), (6, .nilv)], [], 7⟩)
 (fun g => .br (decide (g.2.2.2 < f))
 (.call (jzi g.1 g.2.1 g.2.2.2) [(0, 0)] fun h => let i := ([h.1] : A3); let j := g.2.2.1.length + i.length;
 .conv 6005 (czq 12 azg i 115) <|
 .conv 6006 (fzn 12 azg g.2.2.1 i 115) <|
 .grd (j * 104 ≤ 140737488355328 /\ j ≤ maxLen) <|
 .nn (h.2.1, h.2.2, (g.2.2.1 ++ i), (i64.wrap (g.2.2.2 + 1))))
 (.oo (g.1, g.2.1, g.2.2.1)))
 (e.2.1, e.2.2, nl, 0) [] fun g =>
 .call (azh g.1 g.2.1 3) [(0, 0)] fun h =>
 .loop (fun (i : (A0 × Int × A4 × Int)) => ⟨[(0, .ptr 0 0), (2, .ptr 1 0), (3, .ptr 4 0), (4, pz f), (6, pz i.2.2.2)], [(0, .box [.pure (encL 1 az1 i.1), pz i.2.1]), (1, .box [.vec 2, .vec 3]), (2, .nilv), (3, .nilv), (4, .box [.vec 5, .vec 6]), (5, vecO 12 azg g.2.2 115), (6, vecO 5 azj i.2.2.1 118)], [], 7⟩)
 (.exit 2) (fun (i : (A0 × Int × A4)) => ⟨[(2, .ptr 1 0), (3, .ptr 4 0)], [(0, .box [.pure (encL 1 az1 i.1), pz i.2.1]), (1, .box [.vec 2, .vec 3]), (2, .nilv), (3, .nilv), (4, .box [.vec 5, .vec 6]), (5, vecO 12 azg g.2.2 115), (6, vecO 5 azj i.2.2 118)], [], 7⟩)
 (fun i => .br (decide (i.2.2.2 > 0))
 (.call (azh i.1 i.2.1 f) [(0, 0)] fun j =>
 .call (azh j.2.1 j.2.2 9000) [(0, 0)] fun k =>
 .call (bz6 k.2.1 k.2.2 3) [(0, 0)] fun m =>
 .call (bz6 m.2.1 m.2.2 2) [(0, 0)] fun n => let q := ([(⟨j.1, (i64.wrap (1 + k.1)), ((i64.wrap (m.1 * 32768)), 0, (i64.wrap (n.1 * 32768)))⟩ : bzh)] : A4); let s := i.2.2.1.length + q.length;
 .conv 10016 (czq 5 azj q 118) <|
 .conv 10017 (fzn 5 azj i.2.2.1 q 118) <|
 .grd (s * 40 ≤ 140737488355328 /\ s ≤ maxLen) <|
 .nn (n.2.1, n.2.2, (i.2.2.1 ++ q), (i64.wrap (i.2.2.2 - 1))))
 (.oo (i.1, i.2.1, i.2.2.1)))
 (h.2.1, h.2.2, nl, h.1) [] fun i =>
 .ret ((⟨g.2.2, i.2.2⟩ : azn), i.1, i.2.1)
noncomputable def fzd (c) (d) :=
 mkD Tryz.func26 (jzk c d) 1 [.ptr 0 0] [(0, .box [.pure (encL 1 az1 c), pz d])] (fun r => .pure (dz3 r.1)) (fun r => [(0, .box [.pure (encL 1 az1 r.2.1), pz r.2.2])])
noncomputable def pzt (c : A0) (d : Int) (e : Ap) : T (Aq × A0 × Int) := let f := ([e] : Aq); .conv 1001 (czq 3 az3 f 78) <|
 .call (azh c d 4) [(0, 0)] fun g =>
 .loop (fun (h : (A0 × Int × Aq × Int)) => ⟨[(0, .ptr 0 0), (3, .ptr 1 0), (5, .vec 2), (6, pz h.2.2.2)], [(0, .box [.pure (encL 1 az1 h.1), pz h.2.1]), (1, .box [pz e.1, pz e.2.1, pz e.2.2]), (2, vecO 3 az3 h.2.2.1 78)], [], 3⟩)
 (.exit 0) (fun (h : (A0 × Int × Aq)) => ⟨[(5, .vec 1)], [(0, .box [.pure (encL 1 az1 h.1), pz h.2.1]), (1, vecO 3 az3 h.2.2 78)], [], 2⟩)
 (fun h => .br (decide (h.2.2.2 > 0))
 (.ix 0 3 rfl <|
 .call (bz6 h.1 h.2.1 3) [(0, 0)] fun i =>
 .ix 1 3 rfl <|
 .call (bz6 i.2.1 i.2.2 2) [(0, 0)] fun j =>
 .ix 2 3 rfl <|
 .call (bz6 j.2.1 j.2.2 2) [(0, 0)] fun k => let m := ([((i64.wrap (e.1 + (i64.wrap (i.1 * 32768)))), (i64.wrap (e.2.1 + (i64.wrap (j.1 * 32768)))), (i64.wrap (e.2.2 + (i64.wrap (k.1 * 32768)))))] : Aq); let n := h.2.2.1.length + m.length;
 .conv 5020 (czq 3 az3 m 78) <|
 .conv 5021 (fzn 3 az3 h.2.2.1 m 78) <|
 .grd (n * 24 ≤ 140737488355328 /\ n ≤ maxLen) <|
 .nn (k.2.1, k.2.2, (h.2.2.1 ++ m), (i64.wrap (h.2.2.2 - 1))))
 (.oo (h.1, h.2.1, h.2.2.1)))
 (g.2.1, g.2.2, f, g.1) [] fun h =>
 .ret (h.2.2, h.1, h.2.1)
noncomputable def hz9 (c) (d) (e) :=
 mkD Tryz.func28 (pzt c d e) 1 [.ptr 0 0, .pure (az3 e)] [(0, .box [.pure (encL 1 az1 c), pz d])] (fun r => .pure (encL 3 az3 r.1)) (fun r => [(0, .box [.pure (encL 1 az1 r.2.1), pz r.2.2])])
set_option maxHeartbeats 8000000 in
set_option maxRecDepth 20000 in
noncomputable def sz1 (c : A0) : T azm :=
 .cc (izb c) fun d =>
 .call (fzd d.1 d.2) [(0, 128)] fun e => let f := encL 5 azj e.1.Masses; let g := encL 12 azg e.1.Joints; let h := (e.1.Joints.length : Nat); let i : Nat × Res := (6, .box [.pure g, .pure f, .vec 7, .vec 8]);
 .loop (fun (j : Ay) => ⟨[(2, .ptr 0 0), (3, .ptr 5 0), (4, .ptr 6 0), (5, pz j.2.2.2)], [(0, .box [.vec 1, .vec 2, .vec 3, .vec 4]), (1, .nilv), (2, .nilv), (3, .nilv), (4, .nilv), (5, .box [.pure (encL 1 az1 j.1), pz j.2.1]), i, (7, vecO 3 azw j.2.2.1 80), (8, .nilv)], [], 9⟩)
 (.exit 0) (fun (j : An) => ⟨[(2, .ptr 0 0), (3, .ptr 5 0), (4, .ptr 6 0)], [(0, .box [.vec 1, .vec 2, .vec 3, .vec 4]), (1, .nilv), (2, .nilv), (3, .nilv), (4, .nilv), (5, .box [.pure (encL 1 az1 j.1), pz j.2.1]), i, (7, vecO 3 azw j.2.2 80), (8, .nilv)], [], 9⟩)
 (fun j => .br (decide (j.2.2.2 < (h : Int)))
 (.cut 0 (fun (k : An) => ⟨[(2, .ptr 0 0), (3, .ptr 5 0), (4, .ptr 6 0), (5, pz j.2.2.2)], [(0, .box [.vec 1, .vec 2, .vec 3, .vec 4]), (1, .nilv), (2, .nilv), (3, .nilv), (4, .nilv), (5, .box [.pure (encL 1 az1 k.1), pz k.2.1]), i, (7, vecO 3 azw k.2.2 80), (8, .nilv)], [], 9⟩)
 (.call (azh j.1 j.2.1 5) [(0, 5)] fun k =>
 .br (decide (k.1 < 4))
 (.call (azh k.2.1 k.2.2 3) [(0, 5)] fun m =>
 .ok ((8 : Int) ≠ 0) (by decide) <|
 .call (azh m.2.1 m.2.2 4) [(0, 5)] fun n =>
 .call (hz9 n.2.1 n.2.2 ((i64.wrap (n.1 * 32768)), 0, 0)) [(0, 5)] fun q => let s := ([(⟨j.2.2.2, (i64.wrap ((i64.wrap ((i64.wrap (1 + m.1)) * 65536)).tdiv 8)), q.1⟩ : bz1)] : A5); let t := j.2.2.1.length + s.length;
 .conv 7015 (czq 3 azw s 80) <|
 .conv 7016 (fzn 3 azw j.2.2.1 s 80) <|
 .grd (t * 40 ≤ 140737488355328 /\ t ≤ maxLen) <|
 .oo (q.2.1, q.2.2, (j.2.2.1 ++ s)))
 (.oo (k.2.1, k.2.2, j.2.2.1))) fun k =>
 .nn (k.1, k.2.1, k.2.2, (i64.wrap (j.2.2.2 + 1))))
 (.oo (j.1, j.2.1, j.2.2.1)))
 (e.2.1, e.2.2, nl, 0) [] fun j =>
 .call (azh j.1 j.2.1 3) [(0, 5)] fun k =>
 .loop (fun (m : Ay) => ⟨[(2, .ptr 0 0), (3, .ptr 5 0), (4, .ptr 6 0), (6, pz m.2.2.2)], [(0, .box [.vec 1, .vec 2, .vec 3, .vec 4]), (1, .nilv), (2, .nilv), (3, .nilv), (4, .nilv), (5, .box [.pure (encL 1 az1 m.1), pz m.2.1]), i, (7, vecO 3 azw m.2.2.1 80), (8, .nilv)], [], 9⟩)
 (.exit 2) (fun (m : An) => ⟨[(2, .ptr 0 0), (3, .ptr 5 0), (4, .ptr 6 0)], [(0, .box [.vec 1, .vec 2, .vec 3, .vec 4]), (1, .nilv), (2, .nilv), (3, .nilv), (4, .nilv), (5, .box [.pure (encL 1 az1 m.1), pz m.2.1]), i, (7, vecO 3 azw m.2.2 80), (8, .nilv)], [], 9⟩)
 (fun m => .br (decide (m.2.2.2 > 0))
 (.call (bz6 m.1 m.2.1 9) [(0, 5)] fun n =>
 .call (bz6 n.2.1 n.2.2 9) [(0, 5)] fun q =>
 .call (bz6 q.2.1 q.2.2 2) [(0, 5)] fun s =>
 .call (azh s.2.1 s.2.2 4) [(0, 5)] fun t =>
 .ok ((8 : Int) ≠ 0) (by decide) <|
 .call (hz9 t.2.1 t.2.2 ((i64.wrap (n.1 * 32768)), (i64.wrap (q.1 * 32768)), (i64.wrap (s.1 * 32768)))) [(0, 5)] fun w => let y := ([(⟨(-1), (i64.wrap ((i64.wrap ((i64.wrap (1 + t.1)) * 65536)).tdiv 8)), w.1⟩ : bz1)] : A5); let z := m.2.2.1.length + y.length;
 .conv 12011 (czq 3 azw y 80) <|
 .conv 12012 (fzn 3 azw m.2.2.1 y 80) <|
 .grd (z * 40 ≤ 140737488355328 /\ z ≤ maxLen) <|
 .nn (w.2.1, w.2.2, (m.2.2.1 ++ y), (i64.wrap (m.2.2.2 - 1))))
 (.oo (m.1, m.2.1, m.2.2.1)))
 (k.2.1, k.2.2, j.2.2, (i64.wrap (1 + k.1))) [] fun m =>
 .cut 0 (fun (n : A6) => ⟨[(2, .ptr 0 0), (4, .ptr 5 0)], [(0, .box [.vec 1, .vec 2, .vec 3, .vec 4]), (1, .nilv), (2, .nilv), (3, .nilv), (4, .nilv), (5, .box [.pure g, .pure f, .vec 6, .vec 7]), (6, vecO 3 azw m.2.2 80), (7, vecO 2 bzu n 83)], [], 8⟩)
 (.call (azh m.1 m.2.1 5) [(0, 5)] fun n =>
 .br (n.1 == 1)
 (.call (azh n.2.1 n.2.2 (h : Int)) [(0, 5)] fun q => let s := ([(⟨(-1), q.1⟩ : gzn)] : A6);
 .conv 14009 (czq 2 bzu s 83) <|
 .grd (s.length * 16 ≤ 140737488355328 /\ s.length ≤ maxLen) <|
 .oo s)
 (.oo nl)) fun n =>
 .ret (⟨(⟨e.1.Joints, e.1.Masses⟩ : azn), m.2.2, n⟩ : azm)
noncomputable def sz0 (c) :=
 mkD Tryz.func10 (sz1 c) 0 [.pure (encL 1 az1 c)] [] (fun r => .pure (ezs r)) (fun _ => [])
noncomputable def pzs (c : azn) (d : A0) : T A0 := let e : Nat × Res := (0, .box [.pure (encL 12 azg c.Joints), .pure (encL 5 azj c.Masses)]); .cc (izb d) fun f =>
 .loop (fun (g : Az) => ⟨[(2, .ptr 0 0), (5, .ptr 1 0), (6, .vec 2), (7, pz g.2.2.2)], [e, (1, .box [.pure (encL 1 az1 g.1), pz g.2.1]), (2, vecO 1 az1 g.2.2.1 2)], [], 3⟩)
 (.exit 0) (fun (g : A0) => ⟨[(6, .vec 0)], [(0, vecO 1 az1 g 2)], [], 1⟩)
 (fun g => let h := c.Joints.getD ((g.2.2.2).toNat) default; let i := ([h.Lo] : A0); let j := ([h.Hi] : A0); let k := g.2.2.1.length + i.length; let m := g.2.2.1.length + j.length; .br (decide (g.2.2.2 < (c.Joints.length : Int)))
 (.cut 0 (fun (n : (A0 × Int × A0)) => ⟨[(2, .ptr 0 0), (5, .ptr 1 0), (6, .vec 2), (7, pz g.2.2.2)], [e, (1, .box [.pure (encL 1 az1 n.1), pz n.2.1]), (2, vecO 1 az1 n.2.2 2)], [], 3⟩)
 (.gh g.2.2.2 c.Joints.length <|
 .gh g.2.2.2 c.Joints.length <|
 .call (azh g.1 g.2.1 6) [(0, 1)] fun n =>
 .br (n.1 == 0)
 (.conv 10002 (czq 1 az1 i 2) <|
 .conv 10003 (fzn 1 az1 g.2.2.1 i 2) <|
 .grd (k * 8 ≤ 140737488355328 /\ k ≤ maxLen) <|
 .oo (n.2.1, n.2.2, (g.2.2.1 ++ i)))
 (.br (n.1 == 1)
 (.conv 12002 (czq 1 az1 j 2) <|
 .conv 12003 (fzn 1 az1 g.2.2.1 j 2) <|
 .grd (m * 8 ≤ 140737488355328 /\ m ≤ maxLen) <|
 .oo (n.2.1, n.2.2, (g.2.2.1 ++ j)))
 (.name 8005 ((i64.wrap ((h.Hi) - (h.Lo)))) fun q =>
 .name 8006 ((i64.wrap (q + 1))) fun s =>
 .call (azh n.2.1 n.2.2 s) [(0, 1)] fun t => let w := ([(i64.wrap ((h.Lo) + t.1))] : A0); let y := g.2.2.1.length + w.length;
 .conv 8009 (czq 1 az1 w 2) <|
 .conv 8010 (fzn 1 az1 g.2.2.1 w 2) <|
 .grd (y * 8 ≤ 140737488355328 /\ y ≤ maxLen) <|
 .oo (t.2.1, t.2.2, (g.2.2.1 ++ w))))) fun n =>
 .nn (n.1, n.2.1, n.2.2, (i64.wrap (g.2.2.2 + 1))))
 (.oo g.2.2.1))
 (f.1, f.2, nl, 0) [] fun g =>
 .ret g
noncomputable def pzr (c) (d) :=
 mkD Tryz.func35 (pzs c d) 0 [.pure (dz3 c), .pure (encL 1 az1 d)] [] (fun _ => .vec 0) (fun r => [(0, vecO 1 az1 r 2)])
noncomputable def nzk (c : azn) (d : Int) (e : A0) : T A1 := let f : Nat × Res := (0, .box [.pure (encL 12 azg c.Joints), .pure (encL 5 azj c.Masses)]); .cc (izb e) fun g =>
 .loop (fun (h : (A0 × Int × A1 × Int)) => ⟨[(1, pz d), (3, .ptr 0 0), (7, .ptr 1 0), (8, .vec 2), (9, pz h.2.2.2)], [f, (1, .box [.pure (encL 1 az1 h.1), pz h.2.1]), (2, vecO 1 (encL 1 az1) h.2.2.1 59)], [], 3⟩)
 (.exit 0) (fun (h : A1) => ⟨[(8, .vec 0)], [(0, vecO 1 (encL 1 az1) h 59)], [], 1⟩)
 (fun h => .br (decide (h.2.2.2 < d))
 (.loop (fun (i : Az) => ⟨[(1, pz d), (3, .ptr 0 0), (7, .ptr 1 0), (8, .vec 2), (9, pz h.2.2.2), (10, .vec 3), (11, pz i.2.2.2)], [f, (1, .box [.pure (encL 1 az1 i.1), pz i.2.1]), (2, vecO 1 (encL 1 az1) h.2.2.1 59), (3, vecO 1 az1 i.2.2.1 3)], [], 4⟩)
 (.exit 2) (fun (i : (A0 × Int × A0)) => ⟨[(1, pz d), (3, .ptr 0 0), (7, .ptr 1 0), (8, .vec 2), (9, pz h.2.2.2), (10, .vec 3)], [f, (1, .box [.pure (encL 1 az1 i.1), pz i.2.1]), (2, vecO 1 (encL 1 az1) h.2.2.1 59), (3, vecO 1 az1 i.2.2 3)], [], 4⟩)
 (fun i => .br (decide (i.2.2.2 < (i64.wrap (2 * (c.Joints.length : Int)))))
 (.call (azh i.1 i.2.1 1048576) [(0, 1)] fun j => let k := ([j.1] : A0); let m := i.2.2.1.length + k.length;
 .conv 10003 (czq 1 az1 k 3) <|
 .conv 10004 (fzn 1 az1 i.2.2.1 k 3) <|
 .grd (m * 8 ≤ 140737488355328 /\ m ≤ maxLen) <|
 .nn (j.2.1, j.2.2, (i.2.2.1 ++ k), (i64.wrap (i.2.2.2 + 1))))
 (.oo (i.1, i.2.1, i.2.2.1)))
 (h.1, h.2.1, nl, 0) [] fun i =>
 .cc (pzr c i.2.2) fun j => let k := ([j] : A1); let m := h.2.2.1.length + k.length;
 .conv 11004 (czq 1 (encL 1 az1) k 59) <|
 .conv 11005 (fzn 1 (encL 1 az1) h.2.2.1 k 59) <|
 .grd (m * 24 ≤ 140737488355328 /\ m ≤ maxLen) <|
 .nn (i.1, i.2.1, (h.2.2.1 ++ k), (i64.wrap (h.2.2.2 + 1))))
 (.oo h.2.2.1))
 (g.1, g.2, nl, 0) [] fun h =>
 .ret h
noncomputable def tzy (c) (d) (e) :=
 mkD Tryz.func12 (nzk c d e) 0 [.pure (dz3 c), pz d, .pure (encL 1 az1 e)] [] (fun _ => .vec 0) (fun r => [(0, vecO 1 (encL 1 az1) r 59)])
noncomputable def vz2 (c : ByteArray) : T Bool := let d := (c.size : Int); .cut 2 (fun (e : Bool) => ⟨[(0, .pure (.str c)), (16, .pure (.bool e))], [], [], 0⟩)
 (.br (decide (d < 1))
 (.oo true)
 (.br (decide (d > 16))
 (.oo true)
 (.oo (c == (⟨#[119, 111, 114, 108, 100]⟩ : ByteArray))))) fun e =>
 .br e
 (.ret false)
 (.loop (fun (f : Int) => ⟨[(0, .pure (.str c)), (3, pz f)], [], [], 0⟩)
 (.exit 0) (fun (_ : U0) => ⟨[], [], [], 0⟩)
 (fun f => let g := ((c.data.getD f.toNat 0).toNat : Int); .br (decide (f < d))
 (.cut 1 (fun (h : Bool) => ⟨[(0, .pure (.str c)), (3, pz f), (4, .pure (.bool h))], [], [], 0⟩)
 (.gh f c.size <|
 .br (decide (g ≥ 97))
 (.gh f c.size <|
 .oo (decide (g ≤ 122)))
 (.oo false)) fun h =>
 .cut 0 (fun (i : Bool) => ⟨[(0, .pure (.str c)), (3, pz f), (56, .pure (.bool i))], [], [], 0⟩)
 (.br (!h)
 (.br (f == 0)
 (.oo true)
 (.gh f c.size <|
 .br (g != 95)
 (.gh f c.size <|
 .br (decide (g < 48))
 (.oo true)
 (.gh f c.size <|
 .oo (decide (g > 57))))
 (.oo false)))
 (.oo false)) fun i =>
 .br i
 (.ff false)
 (.nn (i64.wrap (f + 1))))
 (.oo .u))
 0 [] fun _ =>
 .ret true)
noncomputable def Azu (c) :=
 mkD Tryz.func89 (vz2 c) 0 [.pure (.str c)] [] (fun r => .pure (.bool r)) (fun _ => [])
noncomputable def vz4 (c : Ap) (d : Int) : T Bool := let e := i64.wrap (0 - d); let f : Nat × Res := (0, .box [pz c.1, pz c.2.1, pz c.2.2]); .unroll 4 <|
 .known true <|
 .cut 1 (fun (g : Bool) => ⟨[(1, pz d), (2, .ptr 0 0), (5, pz 0), (22, .pure (.bool g))], [f], [], 1⟩)
 (.ix 0 3 rfl <|
 .br (decide (c.1 < e))
 (.oo true)
 (.ix 0 3 rfl <|
 .oo (decide (c.1 > d)))) fun g =>
 .br g
 (.ret false)
 (.lit 3001 (1) <|
 .known true <|
 .cut 1 (fun (h : Bool) => ⟨[(1, pz d), (2, .ptr 0 0), (5, pz 1), (22, .pure (.bool h))], [f], [], 1⟩)
 (.ix 1 3 rfl <|
 .br (decide (c.2.1 < e))
 (.oo true)
 (.ix 1 3 rfl <|
 .oo (decide (c.2.1 > d)))) fun h =>
 .br h
 (.ret false)
 (.lit 3001 (2) <|
 .known true <|
 .cut 1 (fun (i : Bool) => ⟨[(1, pz d), (2, .ptr 0 0), (5, pz 2), (22, .pure (.bool i))], [f], [], 1⟩)
 (.ix 2 3 rfl <|
 .br (decide (c.2.2 < e))
 (.oo true)
 (.ix 2 3 rfl <|
 .oo (decide (c.2.2 > d)))) fun i =>
 .br i
 (.ret false)
 (.lit 3001 (3) <|
 .known false <|
 .ret true)))
noncomputable def vz3 (c) (d) :=
 mkD Tryz.func61 (vz4 c d) 0 [.pure (az3 c), pz d] [] (fun r => .pure (.bool r)) (fun _ => [])
noncomputable def szg (c : Int) : T Int :=
 .br (c == 0)
 (.ret 0)
 (.cut 0 (fun (d : Bool) => ⟨[(6, .pure (.bool d))], [], [], 0⟩)
 (.br (c == 1)
 (.oo (c == 1))
 (.br (c == 2)
 (.oo (c == 2))
 (.oo (c == 3)))) fun d =>
 .br d
 (.ret 524288)
 (.ret 4194304))
noncomputable def yzi (c) :=
 mkD Tryz.func90 (szg c) 0 [pz c] [] (fun r => pz r) (fun _ => [])
noncomputable def oz3 (c : Int) (d : Int) (e : Int) : T Bool :=
 .br (decide (d ≤ c))
 (.ret (decide (c ≤ e)))
 (.ret false)
noncomputable def fz0 (c) (d) (e) :=
 mkD Tryz.func60 (oz3 c d e) 0 [pz c, pz d, pz e] [] (fun r => .pure (.bool r)) (fun _ => [])
set_option maxHeartbeats 8000000 in
set_option maxRecDepth 20000 in
noncomputable def izn (c : A3) (d : Int) : T Int := let e := c.getD (d.toNat) default; let f := e.Name; let g := e.Kind; let h := e.Parent; let i : Nat × Res := (0, .box [.pure (.str f), pz g, pz h, pz (e.Offset.1), pz (e.Offset.2.1), pz (e.Offset.2.2), pz (e.Lo), pz (e.Hi), pz (e.Weight), pz (e.Speed), pz (e.Accel), pz (e.Torque)]); .gh d c.length <|
 .cc (Azu f) fun j =>
 .br (!j)
 (.ret 802)
 (.loop (fun (k : Int) => ⟨[(0, .pure (encL 12 azg c)), (1, pz d), (5, .ptr 0 0), (6, pz k)], [i], [], 1⟩)
 (.exit 0) (fun (_ : U0) => ⟨[(1, pz d), (5, .ptr 0 0)], [i], [], 1⟩)
 (fun k => .br (decide (k < d))
 (.gh k c.length <|
 .br (((c.getD (k.toNat) default).Name) == f)
 (.ff 802)
 (.nn (i64.wrap (k + 1))))
 (.oo .u))
 0 [] fun _ =>
 .cut 1 (fun (k : Bool) => ⟨[(1, pz d), (5, .ptr 0 0), (36, .pure (.bool k))], [i], [], 1⟩)
 (.br (decide (g < 0))
 (.oo true)
 (.oo (decide (g > 6)))) fun k =>
 .br k
 (.ret 803)
 (.cut 1 (fun (m : Bool) => ⟨[(5, .ptr 0 0), (45, .pure (.bool m))], [i], [], 1⟩)
 (.br (decide (h < (-1)))
 (.oo true)
 (.oo (decide (h ≥ d)))) fun m =>
 .br m
 (.ret 804)
 (.cc (vz3 (e.Offset) 4194304) fun n =>
 .br (!n)
 (.ret 805)
 (.cc (yzi g) fun q =>
 .cut 0 (fun (s : Bool) => ⟨[(5, .ptr 0 0), (70, .pure (.bool s))], [i], [], 1⟩)
 (.br (decide ((e.Lo) > (e.Hi)))
 (.oo true)
 (.br (decide ((e.Lo) < (i64.wrap (0 - q))))
 (.oo true)
 (.oo (decide ((e.Hi) > q))))) fun s =>
 .br s
 (.ret 806)
 (.cut 1 (fun (t : Bool) => ⟨[(92, .pure (.bool t))], [], [], 0⟩)
 (.cc (fz0 (e.Weight) 1 1024) fun t =>
 .br (!t)
 (.oo true)
 (.cc (fz0 (e.Speed) 1 1048576) fun w =>
 .br (!w)
 (.oo true)
 (.cc (fz0 (e.Accel) 1 1048576) fun y =>
 .br (!y)
 (.oo true)
 (.cc (fz0 (e.Torque) 1 1099511627776) fun z =>
 .oo (!z))))) fun t =>
 .br t
 (.ret 807)
 (.ret 0))))))
noncomputable def ozw (c) (d) :=
 mkD Tryz.func59 (izn c d) 0 [.pure (encL 12 azg c), pz d] [] (fun r => pz r) (fun _ => [])
noncomputable def izl (c : azn) : T Int := let d := (c.Joints.length : Int); let e := (c.Masses.length : Nat); let f : Nat × Res := (0, .box [.pure (encL 12 azg c.Joints), .pure (encL 5 azj c.Masses)]); .cut 2 (fun (g : Bool) => ⟨[(1, .ptr 0 0), (16, .pure (.bool g))], [f], [], 1⟩)
 (.br (decide (d < 1))
 (.oo true)
 (.oo (decide (d > 10)))) fun g =>
 .br g
 (.ret 801)
 (.loop (fun (h : Int) => ⟨[(1, .ptr 0 0), (3, pz h)], [f], [], 1⟩)
 (.exit 0) (fun (_ : U0) => ⟨[(1, .ptr 0 0)], [f], [], 1⟩)
 (fun h => .br (decide (h < d))
 (.cc (ozw c.Joints h) fun i =>
 .br (i != 0)
 (.ff i)
 (.nn (i64.wrap (h + 1))))
 (.oo .u))
 0 [] fun _ =>
 .br (decide ((e : Int) > 32))
 (.ret 808)
 (.loop (fun (h : Int) => ⟨[(1, .ptr 0 0), (5, pz h)], [f], [], 1⟩)
 (.exit 2) (fun (_ : U0) => ⟨[], [], [], 0⟩)
 (fun h => let i := c.Masses.getD (h.toNat) default; .br (decide (h < (e : Int)))
 (.gh h c.Masses.length <|
 .cut 0 (fun (j : Bool) => ⟨[(1, .ptr 0 0), (5, pz h), (69, .pure (.bool j))], [f], [], 1⟩)
 (.br (decide ((i.Link) < 0))
 (.oo true)
 (.br (decide ((i.Link) ≥ d))
 (.oo true)
 (.cc (fz0 (i.Mass) 1 65536) fun j =>
 .br (!j)
 (.oo true)
 (.cc (vz3 (i.Point) 4194304) fun k =>
 .oo (!k))))) fun j =>
 .br j
 (.ff 808)
 (.nn (i64.wrap (h + 1))))
 (.oo .u))
 0 [] fun _ =>
 .ret 0))
noncomputable def fzs (c) :=
 mkD Tryz.func30 (izl c) 0 [.pure (dz3 c)] [] (fun r => pz r) (fun _ => [])
noncomputable def nzt (c : azn) (d : A0) : T Bool := let e := encL 1 az1 d; let f := (d.length : Nat); let g : Nat × Res := (0, .box [.pure (encL 12 azg c.Joints), .pure (encL 5 azj c.Masses)]); .cut 2 (fun (h : Bool) => ⟨[(1, .pure e), (2, .ptr 0 0), (16, .pure (.bool h))], [g], [], 1⟩)
 (.cc (fzs c) fun h =>
 .br (h != 0)
 (.oo true)
 (.oo ((f : Int) != (c.Joints.length : Int)))) fun h =>
 .br h
 (.ret false)
 (.loop (fun (i : Int) => ⟨[(1, .pure e), (2, .ptr 0 0), (5, pz i)], [g], [], 1⟩)
 (.exit 0) (fun (_ : U0) => ⟨[], [], [], 0⟩)
 (fun i => let j := d.getD (i.toNat) default; let k := c.Joints.getD (i.toNat) default; .br (decide (i < (f : Int)))
 (.cut 1 (fun (m : Bool) => ⟨[(1, .pure e), (2, .ptr 0 0), (5, pz i), (46, .pure (.bool m))], [g], [], 1⟩)
 (.gh i d.length <|
 .gh i c.Joints.length <|
 .br (decide (j < (k.Lo)))
 (.oo true)
 (.gh i d.length <|
 .gh i c.Joints.length <|
 .oo (decide (j > (k.Hi))))) fun m =>
 .br m
 (.ff false)
 (.nn (i64.wrap (i + 1))))
 (.oo .u))
 0 [] fun _ =>
 .ret true)
noncomputable def uz4 (c) (d) :=
 mkD Tryz.func31 (nzt c d) 0 [.pure (dz3 c), .pure (encL 1 az1 d)] [] (fun r => .pure (.bool r)) (fun _ => [])
noncomputable def gzj (c : A0) (d : A0) : T Bool := let e := (c.length : Nat); .br ((e : Int) != (d.length : Int))
 (.ret false)
 (.loop (fun (f : Int) => ⟨[(0, .pure (encL 1 az1 c)), (1, .pure (encL 1 az1 d)), (5, pz f)], [], [], 0⟩)
 (.exit 0) (fun (_ : U0) => ⟨[], [], [], 0⟩)
 (fun f => .br (decide (f < (e : Int)))
 (.gh f c.length <|
 .gh f d.length <|
 .br ((c.getD (f.toNat) default) != (d.getD (f.toNat) default))
 (.ff false)
 (.nn (i64.wrap (f + 1))))
 (.oo .u))
 0 [] fun _ =>
 .ret true)
noncomputable def lzr (c) (d) :=
 mkD Tryz.func62 (gzj c d) 0 [.pure (encL 1 az1 c), .pure (encL 1 az1 d)] [] (fun r => .pure (.bool r)) (fun _ => [])
noncomputable def lzt (c : A1) (d : A0) : T Int :=
 .loop (fun (e : Int) => ⟨[(0, .vec 0), (1, .pure (encL 1 az1 d)), (5, pz e)], [(0, vecO 1 (encL 1 az1) c 59)], [], 1⟩)
 (.exit 0) (fun (_ : U0) => ⟨[], [(0, vecO 1 (encL 1 az1) c 59)], [], 1⟩)
 (fun e => .br (decide (e < (c.length : Int)))
 (.gg e c.length <|
 .cc (lzr (c.getD (e.toNat) default) d) fun f =>
 .br f
 (.ff e)
 (.nn (i64.wrap (e + 1))))
 (.oo .u))
 0 [] fun _ =>
 .ret (-1)
noncomputable def lzs (c) (d) :=
 mkD Tryz.func32 (lzt c d) 1 [.vec 0, .pure (encL 1 az1 d)] [(0, vecO 1 (encL 1 az1) c 59)] (fun r => pz r) (fun _ => [(0, vecO 1 (encL 1 az1) c 59)])
noncomputable def qz0 (c : A0) : T Bool := let d := encL 1 az1 c; .loop (fun (e : Int) => ⟨[(0, .pure d), (3, pz e)], [], [], 0⟩)
 (.exit 0) (fun (_ : U0) => ⟨[], [], [], 0⟩)
 (fun e => let f := c.getD (e.toNat) default; .br (decide (e < (c.length : Int)))
 (.cut 1 (fun (g : Bool) => ⟨[(0, .pure d), (3, pz e), (21, .pure (.bool g))], [], [], 0⟩)
 (.gh e c.length <|
 .br (decide (f < (-2147483648)))
 (.oo true)
 (.gh e c.length <|
 .oo (decide (f > 2147483648)))) fun g =>
 .br g
 (.ff false)
 (.nn (i64.wrap (e + 1))))
 (.oo .u))
 0 [] fun _ =>
 .ret true
noncomputable def pzz (c) :=
 mkD Tryz.func91 (qz0 c) 0 [.pure (encL 1 az1 c)] [] (fun r => .pure (.bool r)) (fun _ => [])
noncomputable def kza (c : azn) (d : A0) (e : A0) : T Int := let f := encL 1 az1 d; let g := encL 1 az1 e; let h := (d.length : Int); let i : Nat × Res := (0, .box [.pure (encL 12 azg c.Joints), .pure (encL 5 azj c.Masses)]); .cut 2 (fun (j : Bool) => ⟨[(1, .pure f), (2, .pure g), (3, .ptr 0 0), (36, .pure (.bool j))], [i], [], 1⟩)
 (.cc (fzs (⟨c.Joints, c.Masses⟩ : azn)) fun j =>
 .br (j != 0)
 (.oo true)
 (.cc (pzz d) fun k =>
 .br (!k)
 (.oo true)
 (.cc (pzz e) fun m =>
 .br (!m)
 (.oo true)
 (.br (h != (c.Joints.length : Int))
 (.oo true)
 (.oo ((e.length : Int) != h)))))) fun j =>
 .br j
 (.ret 0)
 (.loop (fun (k : Ak) => ⟨[(1, .pure f), (2, .pure g), (3, .ptr 0 0), (7, pz k.1), (8, pz k.2)], [i], [], 1⟩)
 (.exit 0) (fun (k : Int) => ⟨[(7, pz k)], [], [], 0⟩)
 (fun k => let m := (k.2).toNat; let n := d.getD m default; let q := e.getD m default; .br (decide (k.2 < h))
 (.gh k.2 c.Joints.length <|
 .gh k.2 d.length <|
 .gh k.2 e.length <|
 .gh k.2 e.length <|
 .gh k.2 d.length <|
 .name 7025 ((max (i64.wrap (n - q)) (i64.wrap (q - n)))) fun s =>
 .nn ((i64.wrap (k.1 + (i64.wrap (((c.Joints.getD m default).Weight) * s)))), (i64.wrap (k.2 + 1))))
 (.oo k.1))
 (0, 0) [] fun k =>
 .ret k)
noncomputable def ezt (c) (d) (e) :=
 mkD Tryz.func63 (kza c d e) 0 [.pure (dz3 c), .pure (encL 1 az1 d), .pure (encL 1 az1 e)] [] (fun r => pz r) (fun _ => [])
noncomputable def hzm (c : azn) (d : A1) (e : A0) (f : Int) : T A0 := let g := encL 1 az1 e; let h : Nat × Res := (1, .box [.pure (encL 12 azg c.Joints), .pure (encL 5 azj c.Masses)]); let i := (⟨c.Joints, c.Masses⟩ : azn); .loop (fun (j : A2) => ⟨[(1, .vec 0), (2, .pure g), (3, pz f), (4, .ptr 1 0), (9, .vec 2), (10, pz j.2)], [(0, vecO 1 (encL 1 az1) d 59), h, (2, vecO 1 az1 j.1 3)], [], 3⟩)
 (.exit 0) (fun (j : A0) => ⟨[(9, .vec 1)], [(0, vecO 1 (encL 1 az1) d 59), (1, vecO 1 az1 j 3)], [], 2⟩)
 (fun j => let k := ([j.2] : A0); let m := j.1.length + k.length; .br (decide (j.2 < (d.length : Int)))
 (.cut 0 (fun (n : A0) => ⟨[(1, .vec 0), (2, .pure g), (3, pz f), (4, .ptr 1 0), (9, .vec 2), (10, pz j.2)], [(0, vecO 1 (encL 1 az1) d 59), h, (2, vecO 1 az1 n 3)], [], 3⟩)
 (.br (j.2 == f)
 (.oo j.1)
 (.conv 7002 (czq 1 az1 k 3) <|
 .conv 7003 (fzn 1 az1 j.1 k 3) <|
 .grd (m * 8 ≤ 140737488355328 /\ m ≤ maxLen) <|
 .gg j.2 d.length <|
 .cc (ezt i (d.getD ((j.2).toNat) default) e) fun n =>
 .loop (fun (q : A2) => ⟨[(1, .vec 0), (2, .pure g), (3, pz f), (4, .ptr 1 0), (9, .vec 2), (10, pz j.2), (11, pz q.2), (12, pz n)], [(0, vecO 1 (encL 1 az1) d 59), h, (2, vecO 1 az1 q.1 3)], [], 3⟩)
 (.exit 2) (fun (q : A0) => ⟨[(1, .vec 0), (2, .pure g), (3, pz f), (4, .ptr 1 0), (9, .vec 2), (10, pz j.2)], [(0, vecO 1 (encL 1 az1) d 59), h, (2, vecO 1 az1 q 3)], [], 3⟩)
 (fun q => let s := (q.2).toNat; let t := i64.wrap (q.2 - 1); let w := t.toNat; let y := q.1.getD w default; let z := q.1.set s y; let aa := q.1.getD s default; .cut 1 (fun (ab : Bool) => ⟨[(1, .vec 0), (2, .pure g), (3, pz f), (4, .ptr 1 0), (9, .vec 2), (10, pz j.2), (11, pz q.2), (12, pz n), (51, .pure (.bool ab))], [(0, vecO 1 (encL 1 az1) d 59), h, (2, vecO 1 az1 q.1 3)], [], 3⟩)
 (.br (decide (q.2 > 0))
 (.gg t q.1.length <|
 .gg y d.length <|
 .call (ezt i (d.getD (y.toNat) default) e) [] fun ab =>
 .oo (decide (n < ab)))
 (.oo false)) fun ab =>
 .br ab
 (.gg t q.1.length <|
 .gg q.2 q.1.length <|
 .gh q.2 q.1.length <|
 .conv 10015 (fz1 1 az1 q.1 3 s y) <|
 .gi (q.2) q.1.length <|
 .gh t (z.length) <|
 .conv 10017 (fz1 1 az1 z 3 w aa) <|
 .gi (t) (z.length) <|
 .nn ((z.set w aa), t))
 (.oo q.1))
 ((j.1 ++ k), (j.1.length : Int)) [] fun q =>
 .oo q)) fun n =>
 .nn (n, (i64.wrap (j.2 + 1))))
 (.oo j.1))
 (nl, 0) [] fun j =>
 .ret j
noncomputable def mzr (c) (d) (e) (f) :=
 mkD Tryz.func33 (hzm c d e f) 1 [.pure (dz3 c), .vec 0, .pure (encL 1 az1 e), pz f] [(0, vecO 1 (encL 1 az1) d 59)] (fun r => .pure (encL 1 az1 r)) (fun _ => [(0, vecO 1 (encL 1 az1) d 59)])
set_option maxHeartbeats 8000000 in
set_option maxRecDepth 20000 in
noncomputable def oz0 (a0 : azn) (a1 : A1) (a2 : A7) (a3 : Int) (a4 : Int) : T A7 :=
 .loop (fun (x85 : (A7 × Bool × Int)) => ⟨[(2, pz (min a3 a4)), (3, pz (max a3 a4)), (4, .ptr 2 0), (5, .ptr 3 0), (9, .vec 4), (10, .pure (.bool x85.2.1)), (11, pz x85.2.2)], [(0, vecO 1 (encL 1 az1) a1 59), (1, vecO 12 az5 a2 65), (2, .box [.pure (encL 12 azg a0.Joints), .pure (encL 5 azj a0.Masses)]), (3, .box [.vec 0, .vec 1]), (4, vecO 12 az5 x85.1 65)], [], 5⟩)
 (.exit 0) (fun (y106 : (A7 × Bool)) => ⟨[(2, pz (min a3 a4)), (3, pz (max a3 a4)), (4, .ptr 2 0), (5, .ptr 3 0), (9, .vec 4), (10, .pure (.bool y106.2))], [(0, vecO 1 (encL 1 az1) a1 59), (1, vecO 12 az5 a2 65), (2, .box [.pure (encL 12 azg a0.Joints), .pure (encL 5 azj a0.Masses)]), (3, .box [.vec 0, .vec 1]), (4, vecO 12 az5 y106.1 65)], [], 5⟩)
 (fun x85 => .br (decide (x85.2.2 < (a2.length : Int)))
 (.grd (0 ≤ x85.2.2 /\ x85.2.2 < (a2.length : Int)) <|
 .grd ((x85.2.2).toNat < a2.length) <|
 .cut 0 (fun (y123 : (A7 × Bool)) => ⟨[(2, pz (min a3 a4)), (3, pz (max a3 a4)), (4, .ptr 2 0), (5, .ptr 3 0), (9, .vec 4), (10, .pure (.bool y123.2)), (11, pz x85.2.2), (12, .ptr 5 0)], [(0, vecO 1 (encL 1 az1) a1 59), (1, vecO 12 az5 a2 65), (2, .box [.pure (encL 12 azg a0.Joints), .pure (encL 5 azj a0.Masses)]), (3, .box [.vec 0, .vec 1]), (4, vecO 12 az5 y123.1 65), (5, .box [pz ((a2.getD ((x85.2.2).toNat) default).U), pz ((a2.getD ((x85.2.2).toNat) default).V), pz ((a2.getD ((x85.2.2).toNat) default).Cost), pz ((a2.getD ((x85.2.2).toNat) default).State), pz ((a2.getD ((x85.2.2).toNat) default).Proof.Kind), .pure (encL 3 bz2 ((a2.getD ((x85.2.2).toNat) default).Proof.Pieces)), pz ((a2.getD ((x85.2.2).toNat) default).Proof.At.Depth), pz ((a2.getD ((x85.2.2).toNat) default).Proof.At.Index), .pure (encL 3 az3 ((a2.getD ((x85.2.2).toNat) default).Proof.At.Normals)), pz ((a2.getD ((x85.2.2).toNat) default).Proof.Witness.Pair), .pure (encL 1 az1 ((a2.getD ((x85.2.2).toNat) default).Proof.Witness.Left)), .pure (encL 1 az1 ((a2.getD ((x85.2.2).toNat) default).Proof.Witness.Right))])], [], 6⟩)
 (.cut 0 (fun (y124 : Bool) => ⟨[(2, pz (min a3 a4)), (3, pz (max a3 a4)), (4, .ptr 2 0), (5, .ptr 3 0), (9, .vec 4), (10, .pure (.bool x85.2.1)), (11, pz x85.2.2), (12, .ptr 5 0), (50, .pure (.bool y124))], [(0, vecO 1 (encL 1 az1) a1 59), (1, vecO 12 az5 a2 65), (2, .box [.pure (encL 12 azg a0.Joints), .pure (encL 5 azj a0.Masses)]), (3, .box [.vec 0, .vec 1]), (4, vecO 12 az5 x85.1 65), (5, .box [pz ((a2.getD ((x85.2.2).toNat) default).U), pz ((a2.getD ((x85.2.2).toNat) default).V), pz ((a2.getD ((x85.2.2).toNat) default).Cost), pz ((a2.getD ((x85.2.2).toNat) default).State), pz ((a2.getD ((x85.2.2).toNat) default).Proof.Kind), .pure (encL 3 bz2 ((a2.getD ((x85.2.2).toNat) default).Proof.Pieces)), pz ((a2.getD ((x85.2.2).toNat) default).Proof.At.Depth), pz ((a2.getD ((x85.2.2).toNat) default).Proof.At.Index), .pure (encL 3 az3 ((a2.getD ((x85.2.2).toNat) default).Proof.At.Normals)), pz ((a2.getD ((x85.2.2).toNat) default).Proof.Witness.Pair), .pure (encL 1 az1 ((a2.getD ((x85.2.2).toNat) default).Proof.Witness.Left)), .pure (encL 1 az1 ((a2.getD ((x85.2.2).toNat) default).Proof.Witness.Right))])], [], 6⟩)
 (.br (!x85.2.1)
 (.br (decide (((a2.getD ((x85.2.2).toNat) default).U) > (min a3 a4)))
 (.ret (.out true))
 (.br (((a2.getD ((x85.2.2).toNat) default).U) == (min a3 a4))
 (.ret (.out (decide (((a2.getD ((x85.2.2).toNat) default).V) ≥ (max a3 a4)))))
 (.ret (.out false))))
 (.ret (.out false))) fun y124 =>
 .br y124
 (.cut 1 (fun (y125 : Bool) => ⟨[(2, pz (min a3 a4)), (3, pz (max a3 a4)), (4, .ptr 2 0), (5, .ptr 3 0), (9, .vec 4), (10, .tt), (11, pz x85.2.2), (12, .ptr 5 0), (60, .pure (.bool y125))], [(0, vecO 1 (encL 1 az1) a1 59), (1, vecO 12 az5 a2 65), (2, .box [.pure (encL 12 azg a0.Joints), .pure (encL 5 azj a0.Masses)]), (3, .box [.vec 0, .vec 1]), (4, vecO 12 az5 x85.1 65), (5, .box [pz ((a2.getD ((x85.2.2).toNat) default).U), pz ((a2.getD ((x85.2.2).toNat) default).V), pz ((a2.getD ((x85.2.2).toNat) default).Cost), pz ((a2.getD ((x85.2.2).toNat) default).State), pz ((a2.getD ((x85.2.2).toNat) default).Proof.Kind), .pure (encL 3 bz2 ((a2.getD ((x85.2.2).toNat) default).Proof.Pieces)), pz ((a2.getD ((x85.2.2).toNat) default).Proof.At.Depth), pz ((a2.getD ((x85.2.2).toNat) default).Proof.At.Index), .pure (encL 3 az3 ((a2.getD ((x85.2.2).toNat) default).Proof.At.Normals)), pz ((a2.getD ((x85.2.2).toNat) default).Proof.Witness.Pair), .pure (encL 1 az1 ((a2.getD ((x85.2.2).toNat) default).Proof.Witness.Left)), .pure (encL 1 az1 ((a2.getD ((x85.2.2).toNat) default).Proof.Witness.Right))])], [], 6⟩)
 (.br (((a2.getD ((x85.2.2).toNat) default).U) != (min a3 a4))
 (.ret (.out true))
 (.ret (.out (((a2.getD ((x85.2.2).toNat) default).V) != (max a3 a4))))) fun y125 =>
 .br y125
 (.grd (0 ≤ (min a3 a4) /\ (min a3 a4) < (a1.length : Int)) <|
 .grd (((min a3 a4)).toNat < a1.length) <|
 .grd (0 ≤ (max a3 a4) /\ (max a3 a4) < (a1.length : Int)) <|
 .grd (((max a3 a4)).toNat < a1.length) <|
 .call (ezt a0 (a1.getD (((min a3 a4)).toNat) default) (a1.getD (((max a3 a4)).toNat) default)) [] fun y126 =>
 .conv 11016 (Lzg 12 az5 ([(⟨(min a3 a4), (max a3 a4), y126, 0, (⟨0, nl, (⟨0, 0, nl⟩ : azp), (⟨0, nl, nl⟩ : bz7)⟩ : azl)⟩ : az2)] : A7) 65 [.agg [.int .i64 (min a3 a4), .int .i64 (max a3 a4), .int .i64 y126, .int .i64 0, .int .i64 0, .lst 0 0 fun _ => .unk, .int .i64 0, .int .i64 0, .lst 0 0 fun _ => .unk, .int .i64 0, .lst 0 0 fun _ => .unk, .lst 0 0 fun _ => .unk]] (by kernel_rfl)) <|
 .conv 11017 (fzn 12 az5 x85.1 ([(⟨(min a3 a4), (max a3 a4), y126, 0, (⟨0, nl, (⟨0, 0, nl⟩ : azp), (⟨0, nl, nl⟩ : bz7)⟩ : azl)⟩ : az2)] : A7) 65) <|
 .grd ((x85.1.length + ([(⟨(min a3 a4), (max a3 a4), y126, 0, (⟨0, nl, (⟨0, 0, nl⟩ : azp), (⟨0, nl, nl⟩ : bz7)⟩ : azl)⟩ : az2)] : A7).length) * 160 ≤ 140737488355328 /\ (x85.1.length + ([(⟨(min a3 a4), (max a3 a4), y126, 0, (⟨0, nl, (⟨0, 0, nl⟩ : azp), (⟨0, nl, nl⟩ : bz7)⟩ : azl)⟩ : az2)] : A7).length) ≤ maxLen) <|
 .ret (.out ((x85.1 ++ ([(⟨(min a3 a4), (max a3 a4), y126, 0, (⟨0, nl, (⟨0, 0, nl⟩ : azp), (⟨0, nl, nl⟩ : bz7)⟩ : azl)⟩ : az2)] : A7)), true)))
 (.ret (.out (x85.1, true))))
 (.ret (.out (x85.1, x85.2.1)))) fun y123 =>
 .conv 12002 (czq 12 az5 ([(a2.getD ((x85.2.2).toNat) default)] : A7) 65) <|
 .conv 12003 (fzn 12 az5 y123.1 ([(a2.getD ((x85.2.2).toNat) default)] : A7) 65) <|
 .grd ((y123.1.length + ([(a2.getD ((x85.2.2).toNat) default)] : A7).length) * 160 ≤ 140737488355328 /\ (y123.1.length + ([(a2.getD ((x85.2.2).toNat) default)] : A7).length) ≤ maxLen) <|
 .ret (.next ((y123.1 ++ ([(a2.getD ((x85.2.2).toNat) default)] : A7)), y123.2, (i64.wrap (x85.2.2 + 1)))))
 (.ret (.out (x85.1, x85.2.1))))
 (nl, false, 0) [] fun y106 =>
 .cut 0 (fun (y129 : A7) => ⟨[(9, .vec 2)], [(0, vecO 1 (encL 1 az1) a1 59), (1, vecO 12 az5 a2 65), (2, vecO 12 az5 y129 65)], [], 3⟩)
 (.br (!y106.2)
 (.grd (0 ≤ (min a3 a4) /\ (min a3 a4) < (a1.length : Int)) <|
 .grd (((min a3 a4)).toNat < a1.length) <|
 .grd (0 ≤ (max a3 a4) /\ (max a3 a4) < (a1.length : Int)) <|
 .grd (((max a3 a4)).toNat < a1.length) <|
 .call (ezt a0 (a1.getD (((min a3 a4)).toNat) default) (a1.getD (((max a3 a4)).toNat) default)) [] fun y130 =>
 .conv 14016 (Lzg 12 az5 ([(⟨(min a3 a4), (max a3 a4), y130, 0, (⟨0, nl, (⟨0, 0, nl⟩ : azp), (⟨0, nl, nl⟩ : bz7)⟩ : azl)⟩ : az2)] : A7) 65 [.agg [.int .i64 (min a3 a4), .int .i64 (max a3 a4), .int .i64 y130, .int .i64 0, .int .i64 0, .lst 0 0 fun _ => .unk, .int .i64 0, .int .i64 0, .lst 0 0 fun _ => .unk, .int .i64 0, .lst 0 0 fun _ => .unk, .lst 0 0 fun _ => .unk]] (by kernel_rfl)) <|
 .conv 14017 (fzn 12 az5 y106.1 ([(⟨(min a3 a4), (max a3 a4), y130, 0, (⟨0, nl, (⟨0, 0, nl⟩ : azp), (⟨0, nl, nl⟩ : bz7)⟩ : azl)⟩ : az2)] : A7) 65) <|
 .grd ((y106.1.length + ([(⟨(min a3 a4), (max a3 a4), y130, 0, (⟨0, nl, (⟨0, 0, nl⟩ : azp), (⟨0, nl, nl⟩ : bz7)⟩ : azl)⟩ : az2)] : A7).length) * 160 ≤ 140737488355328 /\ (y106.1.length + ([(⟨(min a3 a4), (max a3 a4), y130, 0, (⟨0, nl, (⟨0, 0, nl⟩ : azp), (⟨0, nl, nl⟩ : bz7)⟩ : azl)⟩ : az2)] : A7).length) ≤ maxLen) <|
 .ret (.out (y106.1 ++ ([(⟨(min a3 a4), (max a3 a4), y130, 0, (⟨0, nl, (⟨0, 0, nl⟩ : azp), (⟨0, nl, nl⟩ : bz7)⟩ : azl)⟩ : az2)] : A7))))
 (.ret (.out y106.1))) fun y129 =>
 .ret y129
noncomputable def uz6 (c) (d) (e) (f) (g) :=
 mkD Tryz.func34 (oz0 c d e f g) 2 [.pure (dz3 c), .agg [.vec 0, .vec 1], pz f, pz g] [(0, vecO 1 (encL 1 az1) d 59), (1, vecO 12 az5 e 65)] (fun _ => .vec 2) (fun r => [(0, vecO 1 (encL 1 az1) d 59), (1, vecO 12 az5 e 65), (2, vecO 12 az5 r 65)])
set_option maxHeartbeats 8000000 in
set_option maxRecDepth 20000 in
noncomputable def nzz (c : azn) (d : A1) (e : Int) : T azb := let f := encL 1 (encL 1 az1) d; let g : Nat × Res := (0, .box [.pure (encL 12 azg c.Joints), .pure (encL 5 azj c.Masses)]); let h := (⟨c.Joints, c.Masses⟩ : azn); .cc (fzs h) fun i =>
 .br (i != 0)
 (.ret (⟨nl, nl⟩ : azb))
 (.loop (fun (j : A9) => ⟨[(1, .pure f), (2, pz e), (3, .ptr 0 0), (6, .ptr 1 0), (7, .ptr 4 0), (8, pz j.2)], [g, (1, .box [.vec 2, .vec 3]), (2, .nilv), (3, .nilv), (4, .box [.vec 5, .vec 6]), (5, vecO 1 (encL 1 az1) j.1 59), (6, .nilv)], [], 7⟩)
 (.exit 0) (fun (j : A1) => ⟨[(2, pz e), (3, .ptr 0 0), (6, .ptr 1 0), (7, .ptr 4 0)], [g, (1, .box [.vec 2, .vec 3]), (2, .nilv), (3, .nilv), (4, .box [.vec 5, .vec 6]), (5, vecO 1 (encL 1 az1) j 59), (6, .nilv)], [], 7⟩)
 (fun j => let k := d.getD ((j.2).toNat) default; let m := ([k] : A1); let n := j.1.length + m.length; .cut 1 (fun (q : Bool) => ⟨[(1, .pure f), (2, pz e), (3, .ptr 0 0), (6, .ptr 1 0), (7, .ptr 4 0), (8, pz j.2), (25, .pure (.bool q))], [g, (1, .box [.vec 2, .vec 3]), (2, .nilv), (3, .nilv), (4, .box [.vec 5, .vec 6]), (5, vecO 1 (encL 1 az1) j.1 59), (6, .nilv)], [], 7⟩)
 (.br (decide (j.2 < (d.length : Int)))
 (.oo (decide ((j.1.length : Int) < 1024)))
 (.oo false)) fun q =>
 .br q
 (.cut 0 (fun (s : A1) => ⟨[(1, .pure f), (2, pz e), (3, .ptr 0 0), (6, .ptr 1 0), (7, .ptr 4 0), (8, pz j.2)], [g, (1, .box [.vec 2, .vec 3]), (2, .nilv), (3, .nilv), (4, .box [.vec 5, .vec 6]), (5, vecO 1 (encL 1 az1) s 59), (6, .nilv)], [], 7⟩)
 (.cut 0 (fun (s : Bool) => ⟨[(1, .pure f), (2, pz e), (3, .ptr 0 0), (6, .ptr 1 0), (7, .ptr 4 0), (8, pz j.2), (43, .pure (.bool s))], [g, (1, .box [.vec 2, .vec 3]), (2, .nilv), (3, .nilv), (4, .box [.vec 5, .vec 6]), (5, vecO 1 (encL 1 az1) j.1 59), (6, .nilv)], [], 7⟩)
 (.gh j.2 d.length <|
 .cc (uz4 h k) fun s =>
 .br s
 (.gh j.2 d.length <|
 .call (lzs j.1 k) [(0, 5)] fun t =>
 .oo (decide (t < 0)))
 (.oo false)) fun s =>
 .br s
 (.gh j.2 d.length <|
 .grd (k.length * 8 ≤ 140737488355328 /\ k.length ≤ maxLen) <|
 .conv 8007 (czq 1 (encL 1 az1) m 59) <|
 .conv 8008 (fzn 1 (encL 1 az1) j.1 m 59) <|
 .grd (n * 24 ≤ 140737488355328 /\ n ≤ maxLen) <|
 .oo (j.1 ++ m))
 (.oo j.1)) fun s =>
 .nn (s, (i64.wrap (j.2 + 1))))
 (.oo j.1))
 (nl, 0) [] fun j =>
 .loop (fun (k : Aa) => ⟨[(2, pz e), (3, .ptr 0 0), (6, .ptr 1 0), (7, .ptr 4 0), (9, pz k.2)], [g, (1, .box [.vec 2, .vec 3]), (2, .nilv), (3, .nilv), (4, .box [.vec 5, .vec 6]), (5, vecO 1 (encL 1 az1) j 59), (6, vecO 12 az5 k.1 65)], [], 7⟩)
 (.exit 2) (fun (k : A7) => ⟨[(6, .ptr 0 0), (7, .ptr 3 0)], [(0, .box [.vec 1, .vec 2]), (1, .nilv), (2, .nilv), (3, .box [.vec 4, .vec 5]), (4, vecO 1 (encL 1 az1) j 59), (5, vecO 12 az5 k 65)], [], 6⟩)
 (fun k => .br (decide (k.2 < (j.length : Int)))
 (.gg k.2 j.length <|
 .call (mzr c j (j.getD ((k.2).toNat) default) k.2) [(0, 5)] fun m => let n := encL 1 az1 m;
 .loop (fun (q : Aa) => ⟨[(2, pz e), (3, .ptr 0 0), (6, .ptr 1 0), (7, .ptr 4 0), (9, pz k.2), (10, .pure n), (11, pz q.2)], [g, (1, .box [.vec 2, .vec 3]), (2, .nilv), (3, .nilv), (4, .box [.vec 5, .vec 6]), (5, vecO 1 (encL 1 az1) j 59), (6, vecO 12 az5 q.1 65)], [], 7⟩)
 (.exit 4) (fun (q : A7) => ⟨[(2, pz e), (3, .ptr 0 0), (6, .ptr 1 0), (7, .ptr 4 0), (9, pz k.2)], [g, (1, .box [.vec 2, .vec 3]), (2, .nilv), (3, .nilv), (4, .box [.vec 5, .vec 6]), (5, vecO 1 (encL 1 az1) j 59), (6, vecO 12 az5 q 65)], [], 7⟩)
 (fun q => .cut 1 (fun (s : Bool) => ⟨[(2, pz e), (3, .ptr 0 0), (6, .ptr 1 0), (7, .ptr 4 0), (9, pz k.2), (10, .pure n), (11, pz q.2), (79, .pure (.bool s))], [g, (1, .box [.vec 2, .vec 3]), (2, .nilv), (3, .nilv), (4, .box [.vec 5, .vec 6]), (5, vecO 1 (encL 1 az1) j 59), (6, vecO 12 az5 q.1 65)], [], 7⟩)
 (.br (decide (q.2 < (m.length : Int)))
 (.oo (decide (q.2 < e)))
 (.oo false)) fun s =>
 .br s
 (.gh q.2 m.length <|
 .call (uz6 c j q.1 k.2 (m.getD ((q.2).toNat) default)) [(0, 5), (1, 6)] fun t =>
 .nn (t, (i64.wrap (q.2 + 1))))
 (.oo q.1))
 (k.1, 0) [] fun q =>
 .nn (q, (i64.wrap (k.2 + 1))))
 (.oo k.1))
 (nl, 0) [] fun k => let m := (k.length : Nat);
 .cut 0 (fun (n : A7) => ⟨[(6, .ptr 0 0), (7, .ptr 3 0)], [(0, .box [.vec 1, .vec 2]), (1, .nilv), (2, .nilv), (3, .box [.vec 4, .vec 5]), (4, vecO 1 (encL 1 az1) j 59), (5, vecO 12 az5 n 65)], [], 6⟩)
 (.br (decide ((m : Int) > 8192))
 (.conv 18002 (Qza 12 az5 k 65 (8192 : Int)) <|
 .grd (0 ≤ (8192 : Int) /\ (8192 : Int) ≤ (m : Int) /\ 0 ≤ (8192 : Int).toNat) <|
 .oo (k.take ((8192 : Int).toNat)))
 (.oo k)) fun n =>
 .ret (⟨j, n⟩ : azb))
noncomputable def nzy (c) (d) (e) :=
 mkD Tryz.func11 (nzz c d e) 0 [.pure (dz3 c), .pure (encL 1 (encL 1 az1) d), pz e] [] (fun r => .pure (bzm r)) (fun _ => [])
noncomputable def dzu (a0 : A1) : T A1 :=
 (match a0 with
  | [] => .unroll 1 <|
  .grd (a0.length = 0) <|
  .both
   (.ret nl)
   (.conv 3000 (czq 1 (encL 1 az1) ([] : A1) 59) <|
   .conv 3002 (fzn 1 (encL 1 az1) ([] : A1) a0 59) <|
   .grd ((([] : A1).length + a0.length) * 24 ≤ 140737488355328 /\ (([] : A1).length + a0.length) ≤ maxLen) <|
   .ret (([] : A1) ++ a0))
  | _ :: _ => .grd (0 < a0.length) <|
  .conv 3000 (czq 1 (encL 1 az1) ([] : A1) 59) <|
  .conv 3002 (fzn 1 (encL 1 az1) ([] : A1) a0 59) <|
  .grd ((([] : A1).length + a0.length) * 24 ≤ 140737488355328 /\ (([] : A1).length + a0.length) ≤ maxLen) <|
  .ret (([] : A1) ++ a0))
noncomputable def fzu (a0 : A1) : CallS A1 :=
 mkH [] hd Tryz.func119 (by kernel_rfl) (dzu a0) 0 [.pure (encL 1 (encL 1 az1) a0)] [] (fun _ => .vec 0) (fun r => [(0, vecO 1 (encL 1 az1) r 59)]) (by cases a0 <;> exact Ob.of_side (by kernel_rfl))
noncomputable def bzf (a0 : A7) : T A7 :=
 (match a0 with
  | [] => .unroll 1 <|
  .grd (a0.length = 0) <|
  .both
   (.ret nl)
   (.conv 3000 (czq 12 az5 ([] : A7) 65) <|
   .conv 3002 (fzn 12 az5 ([] : A7) a0 65) <|
   .grd ((([] : A7).length + a0.length) * 160 ≤ 140737488355328 /\ (([] : A7).length + a0.length) ≤ maxLen) <|
   .ret (([] : A7) ++ a0))
  | _ :: _ => .grd (0 < a0.length) <|
  .conv 3000 (czq 12 az5 ([] : A7) 65) <|
  .conv 3002 (fzn 12 az5 ([] : A7) a0 65) <|
  .grd ((([] : A7).length + a0.length) * 160 ≤ 140737488355328 /\ (([] : A7).length + a0.length) ≤ maxLen) <|
  .ret (([] : A7) ++ a0))
noncomputable def cz9 (a0 : A7) : CallS A7 :=
 mkH [] hd Tryz.func120 (by kernel_rfl) (bzf a0) 0 [.pure (encL 12 az5 a0)] [] (fun _ => .vec 0) (fun r => [(0, vecO 12 az5 r 65)]) (by cases a0 <;> exact Ob.of_side (by kernel_rfl))
noncomputable def dzh (a0 : A0) : T A0 :=
 (match a0 with
  | [] => .unroll 1 <|
  .grd (a0.length = 0) <|
  .both
   (.ret nl)
   (.conv 3000 (czq 1 az1 ([] : A0) 2) <|
   .conv 3002 (fzn 1 az1 ([] : A0) a0 2) <|
   .grd ((([] : A0).length + a0.length) * 8 ≤ 140737488355328 /\ (([] : A0).length + a0.length) ≤ maxLen) <|
   .ret (([] : A0) ++ a0))
  | _ :: _ => .grd (0 < a0.length) <|
  .conv 3000 (czq 1 az1 ([] : A0) 2) <|
  .conv 3002 (fzn 1 az1 ([] : A0) a0 2) <|
  .grd ((([] : A0).length + a0.length) * 8 ≤ 140737488355328 /\ (([] : A0).length + a0.length) ≤ maxLen) <|
  .ret (([] : A0) ++ a0))
noncomputable def bzr (a0 : A0) : CallS A0 :=
 mkH [] hd Tryz.func121 (by kernel_rfl) (dzh a0) 0 [.pure (encL 1 az1 a0)] [] (fun r => .pure (encL 1 az1 r)) (fun _ => []) (by cases a0 <;> exact Ob.of_side (by kernel_rfl))
noncomputable def czf (a0 : Ab) : T Ab :=
 (match a0 with
  | [] => .unroll 1 <|
  .grd (a0.length = 0) <|
  .both
   (.ret nl)
   (.conv 3000 (czq 3 bz2 ([] : Ab) 58) <|
   .conv 3002 (fzn 3 bz2 ([] : Ab) a0 58) <|
   .grd ((([] : Ab).length + a0.length) * 40 ≤ 140737488355328 /\ (([] : Ab).length + a0.length) ≤ maxLen) <|
   .ret (([] : Ab) ++ a0))
  | _ :: _ => .grd (0 < a0.length) <|
  .conv 3000 (czq 3 bz2 ([] : Ab) 58) <|
  .conv 3002 (fzn 3 bz2 ([] : Ab) a0 58) <|
  .grd ((([] : Ab).length + a0.length) * 40 ≤ 140737488355328 /\ (([] : Ab).length + a0.length) ≤ maxLen) <|
  .ret (([] : Ab) ++ a0))
noncomputable def dzt (a0 : Ab) : CallS Ab :=
 mkH [] hd Tryz.func122 (by kernel_rfl) (czf a0) 0 [.pure (encL 3 bz2 a0)] [] (fun _ => .vec 0) (fun r => [(0, vecO 3 bz2 r 58)]) (by cases a0 <;> exact Ob.of_side (by kernel_rfl))
noncomputable def dz6 (a0 : Aq) : T Aq :=
 (match a0 with
  | [] => .unroll 1 <|
  .grd (a0.length = 0) <|
  .both
   (.ret nl)
   (.conv 3000 (czq 3 az3 ([] : Aq) 78) <|
   .conv 3002 (fzn 3 az3 ([] : Aq) a0 78) <|
   .grd ((([] : Aq).length + a0.length) * 24 ≤ 140737488355328 /\ (([] : Aq).length + a0.length) ≤ maxLen) <|
   .ret (([] : Aq) ++ a0))
  | _ :: _ => .grd (0 < a0.length) <|
  .conv 3000 (czq 3 az3 ([] : Aq) 78) <|
  .conv 3002 (fzn 3 az3 ([] : Aq) a0 78) <|
  .grd ((([] : Aq).length + a0.length) * 24 ≤ 140737488355328 /\ (([] : Aq).length + a0.length) ≤ maxLen) <|
  .ret (([] : Aq) ++ a0))
noncomputable def dz5 (a0 : Aq) : CallS Aq :=
 mkH [] hd Tryz.func123 (by kernel_rfl) (dz6 a0) 0 [.pure (encL 3 az3 a0)] [] (fun r => .pure (encL 3 az3 r)) (fun _ => []) (by cases a0 <;> exact Ob.of_side (by kernel_rfl))
noncomputable def fzg (c : azl) : T azl := let d : Nat × Res := (0, .box [pz c.Kind, .vec 1, pz c.At.Depth, pz c.At.Index, .pure (encL 3 az3 c.At.Normals), pz c.Witness.Pair, .pure (encL 1 az1 c.Witness.Left), .pure (encL 1 az1 c.Witness.Right)]); .cc (dzt c.Pieces) fun e => let f := (e.length : Nat);
 .unroll 998 <|
 .loop (fun (g : (Ab × Int)) => ⟨[(1, .ptr 0 0), (2, .ptr 2 0), (10, .vec 1), (11, pz (f : Int)), (12, pz g.2)], [d, (1, vecO 3 bz2 g.1 58), (2, .box [pz 0, .vec 3, pz 0, pz 0, .vec 4, pz 0, .vec 5, .vec 6]), (3, .nilv), (4, .nilv), (5, .nilv), (6, .nilv)], [], 7⟩)
 (.exit 0) (fun (g : Ab) => ⟨[(1, .ptr 0 0), (2, .ptr 2 0)], [d, (1, vecO 3 bz2 g 58), (2, .box [pz 0, .vec 3, pz 0, pz 0, .vec 4, pz 0, .vec 5, .vec 6]), (3, .nilv), (4, .nilv), (5, .nilv), (6, .nilv)], [], 7⟩)
 (fun g => let h := (g.2).toNat; let i := g.1.getD h default; .br (decide (g.2 < (f : Int)))
 (.gg g.2 g.1.length <|
 .cc (dz5 (i.Normals)) fun j => let k := (⟨i.Depth, i.Index, j⟩ : azp);
 .gh g.2 g.1.length <|
 .conv 5008 (fz1 3 bz2 g.1 58 h k) <|
 .gi (g.2) g.1.length <|
 .nn ((g.1.set h k), (i64.wrap (g.2 + 1))))
 (.oo g.1))
 (e, 0) [] fun g =>
 .cc (dz5 c.At.Normals) fun h =>
 .cc (bzr c.Witness.Left) fun i =>
 .cc (bzr c.Witness.Right) fun j =>
 .ret (⟨c.Kind, g, (⟨c.At.Depth, c.At.Index, h⟩ : azp), (⟨c.Witness.Pair, i, j⟩ : bz7)⟩ : azl)
noncomputable def dz4 (c) :=
 mkD Tryz.func97 (fzg c) 0 [.pure (ezz c)] [] (fun r => .pure (ezz r)) (fun _ => [])
noncomputable def lzw (c : azb) : T A8 :=
 .cc (fzu c.Points) fun d => let e := (d.length : Nat);
 .cc (cz9 c.Edges) fun f => let g := (f.length : Nat);
 .loop (fun (h : A9) => ⟨[(2, .ptr 0 0), (3, .vec 3), (4, .vec 4), (15, .vec 3), (16, pz (e : Int)), (17, pz h.2)], [(0, .box [.vec 1, .vec 2]), (1, .nilv), (2, .nilv), (3, vecO 1 (encL 1 az1) h.1 59), (4, vecO 12 az5 f 65)], [], 5⟩)
 (.exit 0) (fun (h : A1) => ⟨[(2, .ptr 0 0), (3, .vec 3), (4, .vec 4)], [(0, .box [.vec 1, .vec 2]), (1, .nilv), (2, .nilv), (3, vecO 1 (encL 1 az1) h 59), (4, vecO 12 az5 f 65)], [], 5⟩)
 (fun h => let i := (h.2).toNat; .br (decide (h.2 < (e : Int)))
 (.gg h.2 h.1.length <|
 .cc (bzr (h.1.getD i default)) fun j =>
 .gh h.2 h.1.length <|
 .conv 5005 (fz1 1 (encL 1 az1) h.1 59 i j) <|
 .gi (h.2) h.1.length <|
 .nn ((h.1.set i j), (i64.wrap (h.2 + 1))))
 (.oo h.1))
 (d, 0) [] fun h =>
 .loop (fun (i : Aa) => ⟨[(2, .ptr 0 0), (3, .vec 3), (4, .vec 4), (28, .vec 4), (29, pz (g : Int)), (30, pz i.2)], [(0, .box [.vec 1, .vec 2]), (1, .nilv), (2, .nilv), (3, vecO 1 (encL 1 az1) h 59), (4, vecO 12 az5 i.1 65)], [], 5⟩)
 (.exit 2) (fun (i : A7) => ⟨[(2, .ptr 0 0), (3, .vec 3), (4, .vec 4)], [(0, .box [.vec 1, .vec 2]), (1, .nilv), (2, .nilv), (3, vecO 1 (encL 1 az1) h 59), (4, vecO 12 az5 i 65)], [], 5⟩)
 (fun i => let j := (i.2).toNat; let k := i.1.getD j default; .br (decide (i.2 < (g : Int)))
 (.gg i.2 i.1.length <|
 .cc (dz4 (k.Proof)) fun m => let n := (⟨k.U, k.V, k.Cost, k.State, m⟩ : az2);
 .gh i.2 i.1.length <|
 .conv 10007 (fz1 12 az5 i.1 65 j n) <|
 .gi (i.2) i.1.length <|
 .nn ((i.1.set j n), (i64.wrap (i.2 + 1))))
 (.oo i.1))
 (f, 0) [] fun i =>
 .ret (h, i)
noncomputable def szk (c) :=
 mkD Tryz.func95 (lzw c) 0 [.pure (bzm c)] [] (fun _ => .agg [.vec 0, .vec 1]) (fun r => [(0, vecO 1 (encL 1 az1) r.1 59), (1, vecO 12 az5 r.2 65)])
noncomputable def Cz3 (c : Int) : T Int :=
 .br (c == 1)
 (.ret 1)
 (.br (c == 2)
 (.ret 2)
 (.ret 0))
noncomputable def gz8 (c) :=
 mkD Tryz.func96 (Cz3 c) 0 [pz c] [] (fun r => pz r) (fun _ => [])
set_option maxHeartbeats 8000000 in
set_option maxRecDepth 20000 in
noncomputable def oz4 (c : azb) (d : Int) (e : azl) : T Ao := let f := d.toNat; let g := encL 3 bz2 e.Pieces; let h := encL 3 az3 e.At.Normals; let i := c.Edges.getD f default; let j := encL 1 az1 e.Witness.Left; let k := encL 1 az1 e.Witness.Right; let m : Nat × Res := (0, .box [pz e.Kind, .pure g, pz e.At.Depth, pz e.At.Index, .pure h, pz e.Witness.Pair, .pure j, .pure k]); .cc (szk (⟨c.Points, c.Edges⟩ : azb)) fun n => let q := n.2.getD f default;
 .cut 1 (fun (s : Bool) => ⟨[(1, pz d), (3, .ptr 0 0), (5, .ptr 1 0), (6, .ptr 2 0), (7, .ptr 5 0), (22, .pure (.bool s))], [(0, .box [.pure (encL 1 (encL 1 az1) c.Points), .pure (encL 12 az5 c.Edges)]), (1, .box [pz e.Kind, .pure g, pz e.At.Depth, pz e.At.Index, .pure h, pz e.Witness.Pair, .pure j, .pure k]), (2, .box [.vec 3, .vec 4]), (3, vecO 1 (encL 1 az1) n.1 59), (4, vecO 12 az5 n.2 65), (5, .box [.ff])], [.func 94 [] [.ptr 2 0, .ptr 5 0]], 6⟩)
 (.br (decide (d < 0))
 (.oo true)
 (.oo (decide (d ≥ (c.Edges.length : Int))))) fun s =>
 .br s
 (.ret (n.1, n.2, false))
 (.gh d c.Edges.length <|
 .cut 0 (fun (t : Bool) => ⟨[(1, pz d), (5, .ptr 0 0), (6, .ptr 1 0), (7, .ptr 4 0), (35, .pure (.bool t))], [m, (1, .box [.vec 2, .vec 3]), (2, vecO 1 (encL 1 az1) n.1 59), (3, vecO 12 az5 n.2 65), (4, .box [.ff])], [.func 94 [] [.ptr 1 0, .ptr 4 0]], 5⟩)
 (.br ((i.State) == 1)
 (.oo true)
 (.oo ((i.State) == 2))) fun t =>
 .br t
 (.ret (n.1, n.2, false))
 (.conv 8000 (czq 1 az1 ([1, 2, 3] : A0) 3) <|
 .loop (fun (w : Int) => ⟨[(1, pz d), (5, .ptr 0 0), (6, .ptr 1 0), (7, .ptr 4 0), (37, .vec 5), (38, pz ((([1, 2, 3] : A0).length : Nat) : Int)), (39, pz w)], [m, (1, .box [.vec 2, .vec 3]), (2, vecO 1 (encL 1 az1) n.1 59), (3, vecO 12 az5 n.2 65), (4, .box [.ff]), (5, vecO 1 az1 ([1, 2, 3] : A0) 3)], [.func 94 [] [.ptr 1 0, .ptr 4 0]], 6⟩)
 (.exit 0) (fun (_ : U0) => ⟨[(6, .ptr 0 0), (7, .ptr 3 0)], [(0, .box [.vec 1, .vec 2]), (1, vecO 1 (encL 1 az1) n.1 59), (2, vecO 12 az5 n.2 65), (3, .box [.ff])], [.func 94 [] [.ptr 0 0, .ptr 3 0]], 4⟩)
 (fun w => let y := ([1, 2, 3] : A0).getD (w.toNat) default; let z := (⟨q.U, q.V, q.Cost, y, q.Proof⟩ : az2); let aa := n.2.set f z; let ab := aa.getD f default; .br (decide (w < ((([1, 2, 3] : A0).length : Nat) : Int)))
 (.gg w (([1, 2, 3] : A0).length) <|
 .cc (gz8 y) fun ac =>
 .br (ac == e.Kind)
 (.gh d n.2.length <|
 .conv 12006 (fz1 12 az5 n.2 65 f z) <|
 .gi (d) n.2.length <|
 .cc (dz4 e) fun ad => let ae := (⟨ab.U, ab.V, ab.Cost, ab.State, ad⟩ : az2);
 .gh d (aa.length) <|
 .conv 13007 (fz1 12 az5 aa 65 f ae) <|
 .gi (d) (aa.length) <|
 .ff (n.1, (aa.set f ae), true))
 (.nn (i64.wrap (w + 1))))
 (.oo .u))
 0 [] fun _ =>
 .ret (n.1, n.2, false)))
noncomputable def uza (c) (d) (e) :=
 mkC [⟨94, Lzv⟩] hd Tryz.func66 (by kernel_rfl) (oz4 c d e) 0 [.pure (bzm c), pz d, .pure (ezz e)] [] (fun r => .tup [.agg [.vec 0, .vec 1], .pure (.bool r.2.2)]) (fun r => [(0, vecO 1 (encL 1 az1) r.1 59), (1, vecO 12 az5 r.2.1 65)]) (by kernel_rfl)
noncomputable def hzy (c : azb) : T A8 :=
 .cc (uza (⟨c.Points, c.Edges⟩ : azb) (-1) (⟨0, nl, (⟨0, 0, nl⟩ : azp), (⟨0, nl, nl⟩ : bz7)⟩ : azl)) fun d =>
 .unroll 998 <|
 .ret (d.1, d.2.1)
noncomputable def mzw (c) :=
 mkD Tryz.func38 (hzy c) 0 [.pure (bzm c)] [] (fun _ => .agg [.vec 0, .vec 1]) (fun r => [(0, vecO 1 (encL 1 az1) r.1 59), (1, vecO 12 az5 r.2 65)])
noncomputable def kzn (c : Int) : T Bool :=
 .br (decide (97 ≤ c))
 (.ret (decide (c ≤ 122)))
 (.ret false)
noncomputable def rz8 (c) :=
 mkD Tryz.func162 (kzn c) 0 [.pure (.int .i32 c)] [] (fun r => .pure (.bool r)) (fun _ => [])
noncomputable def mz6 (c : Int) : T Bool :=
 .br (decide (48 ≤ c))
 (.ret (decide (c ≤ 57)))
 (.ret false)
noncomputable def tz3 (c) :=
 mkD Tryz.func163 (mz6 c) 0 [.pure (.int .i32 c)] [] (fun r => .pure (.bool r)) (fun _ => [])
noncomputable def tz2 (c : ByteArray) : T Bool := let d := (c.size : Nat); .cut 2 (fun (e : Bool) => ⟨[(0, .pure (.str c)), (16, .pure (.bool e))], [], [], 0⟩)
 (.br ((d : Int) == 0)
 (.oo true)
 (.br (decide ((d : Int) > 16))
 (.oo true)
 (.oo (c == (⟨#[119, 111, 114, 108, 100]⟩ : ByteArray))))) fun e =>
 .br e
 (.ret false)
 (.loop (fun (f : Nat) => ⟨[(18, .ptr 0 0)], [(0, .iter c f)], [], 1⟩)
 (.exit 0) (fun (_ : U0) => ⟨[], [], [], 0⟩)
 (fun f => let g := Utf8.decode c f; let h := (g.1 : Int); .brP (f < c.size)
 (.cut 2 (fun (i : Bool) => ⟨[(18, .ptr 0 0), (38, .pure (.bool i))], [(0, .iter c (f + g.2))], [], 1⟩)
 (.cc (rz8 h) fun i =>
 .br (!i)
 (.br ((f : Int) == 0)
 (.oo true)
 (.cc (tz3 h) fun j =>
 .br (!j)
 (.oo (h != 95))
 (.oo false)))
 (.oo false)) fun i =>
 .br i
 (.ff false)
 (.nn (f + g.2)))
 (.oo .u))
 0 [] fun _ =>
 .ret true)
noncomputable def yzm (c) :=
 mkD Tryz.func124 (tz2 c) 0 [.pure (.str c)] [] (fun r => .pure (.bool r)) (fun _ => [])
noncomputable def szm (c : azn) (d : ByteArray) : T Int := let e := (c.Joints.length : Nat); .loop (fun (f : Int) => ⟨[(1, .pure (.str d)), (2, .ptr 0 0), (8, pz (e : Int)), (9, pz f)], [(0, .box [.pure (encL 12 azg c.Joints), .pure (encL 5 azj c.Masses)])], [], 1⟩)
 (.exit 0) (fun (_ : U0) => ⟨[], [], [], 0⟩)
 (fun f => .br (decide (f < (e : Int)))
 (.gh f c.Joints.length <|
 .br (((c.Joints.getD (f.toNat) default).Name) == d)
 (.ff f)
 (.nn (i64.wrap (f + 1))))
 (.oo .u))
 0 [] fun _ =>
 .ret (-1)
noncomputable def yzj (c) (d) :=
 mkD Tryz.func125 (szm c d) 0 [.pure (dz3 c), .pure (.str d)] [] (fun r => pz r) (fun _ => [])
noncomputable def oz6 (c : Ap) : T Bool :=
 .loop (fun (d : Int) => ⟨[(5, .pure (az3 c)), (6, pz d)], [], [], 0⟩)
 (.exit 0) (fun (_ : U0) => ⟨[], [], [], 0⟩)
 (fun d => let e := ([c.1, c.2.1, c.2.2] : List Int).getD d.toNat 0; .br (decide (d < 3))
 (.gh d 3 <|
 .cut 0 (fun (f : Bool) => ⟨[(5, .pure (az3 c)), (6, pz d), (14, .pure (.bool f))], [], [], 0⟩)
 (.br (decide (e < (-4194304)))
 (.oo true)
 (.oo (decide (e > 4194304)))) fun f =>
 .br f
 (.ff true)
 (.nn (i64.wrap (d + 1))))
 (.oo .u))
 0 [] fun _ =>
 .ret false
noncomputable def oz5 (c) :=
 mkD Tryz.func126 (oz6 c) 0 [.pure (az3 c)] [] (fun r => .pure (.bool r)) (fun _ => [])
noncomputable def qz7 (c : Int) : T Int :=
 .cut 3 (fun (d : Bool) => ⟨[(3, pz c), (4, .pure (.bool d))], [], [], 0⟩)
 (.br (c == 1)
 (.oo (c == 1))
 (.br (c == 2)
 (.oo (c == 2))
 (.oo (c == 3)))) fun d =>
 .br d
 (.ret 524288)
 (.cut 0 (fun (e : Bool) => ⟨[(8, .pure (.bool e))], [], [], 0⟩)
 (.br (c == 4)
 (.oo (c == 4))
 (.br (c == 5)
 (.oo (c == 5))
 (.oo (c == 6)))) fun e =>
 .br e
 (.ret 4194304)
 (.ret 0))
noncomputable def wzc (c) :=
 mkD Tryz.func127 (qz7 c) 0 [pz c] [] (fun r => pz r) (fun _ => [])
noncomputable def qz6 (c : Int) (d : Int) : T Bool :=
 .br (decide (1 ≤ c))
 (.ret (decide (c ≤ d)))
 (.ret false)
noncomputable def fzt (c) (d) :=
 mkD Tryz.func128 (qz6 c d) 0 [pz c, pz d] [] (fun r => .pure (.bool r)) (fun _ => [])
end Go.Abs
