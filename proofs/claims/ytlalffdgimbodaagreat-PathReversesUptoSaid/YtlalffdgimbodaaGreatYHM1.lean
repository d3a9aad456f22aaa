/-
  M1 (a part of a claim: our own text).
-/
import Derived.Test.YtlalffdgimbodaaGreatYHRngF
import Derived.Test.YtlalffdgimbodaaGreatChecked
namespace Go.Abs
open IntKind (i64)
open Go.Proofs
abbrev pz (x:Int):AVal:=.pure (.int .i64 x)
theorem hd:fzh Tryz.prog az2z:=Uzg (by kernel_rfl)
noncomputable abbrev mkD {R:Type}{f:FuncId}{fn:Func}(hf:Tryz.prog.funcs[f]?=some fn)(t:T R)(k:Nat)(args:List AVal)(m:Mem)(res:R->AVal)(m1:R->Mem)(hb:(fn.body.isSome&& !(fn.name== "runtime.NumGoroutine"))=true:=by kernel_rfl)(h:(yzu Tryz.prog [] az2z fn (fn.body.getD .skip) k k t args m res m1).side true=(yzu Tryz.prog [] az2z fn (fn.body.getD .skip) k k t args m res m1).side false:=by kernel_rfl):CallS R:=mkC [] hd hf hb t k args m res m1 h
abbrev T.gg {R:Type}(i:Int)(n:Nat)(k:T R):T R:=.grd (0≤i/\i<(n:Int)) (.grd (i.toNat<n) k)
abbrev T.gh {R:Type}(i:Int)(n:Nat)(k:T R):T R:=.grd (0≤i/\i<(n:Int)) k
abbrev T.gi {R:Type}(i:Int)(n:Nat)(k:T R):T R:=.grd (i.toNat<n/\0≤i.toNat) k
abbrev T.oo {σ τ R:Type}(y:τ):T (Step3 σ τ R):=.ret (.out y)
abbrev T.nn {σ τ R:Type}(x:σ):T (Step3 σ τ R):=.ret (.next x)
abbrev T.ff {σ τ R:Type}(r:R):T (Step3 σ τ R):=.ret (.fin r)
abbrev T.cc {R α:Type}(c:CallS α)(k:α->T R):T R:=.call c [] k
structure bzv where
 Depth:Int
 Index:Int
 Numbers:(List Int)
instance:Inhabited bzv:=⟨⟨default,default,default⟩⟩
structure aze where
 Table:(List (Int×Int×Int))
 Uses:(List bzv)
instance:Inhabited aze:=⟨⟨default,default⟩⟩
structure azv where
 Points:(List (List Int))
 Edges:(List aze)
instance:Inhabited azv:=⟨⟨default,default⟩⟩
structure Lza where
 list:(List Int)
 next:Int
instance:Inhabited Lza:=⟨⟨default,default⟩⟩
structure azt where
 Name:ByteArray
 Kind:Int
 Parent:Int
 Offset:(Int×Int×Int)
 Lo:Int
 Hi:Int
 Weight:Int
 Speed:Int
 Accel:Int
 Torque:Int
instance:Inhabited azt:=⟨⟨default,default,default,default,default,default,default,default,default,default⟩⟩
structure cz2 where
 Link:Int
 Mass:Int
 Point:(Int×Int×Int)
instance:Inhabited cz2:=⟨⟨default,default,default⟩⟩
structure azm where
 Joints:(List azt)
 Masses:(List cz2)
instance:Inhabited azm:=⟨⟨default,default⟩⟩
structure azw where
 Link:Int
 Radius:Int
 Points:(List (Int×Int×Int))
instance:Inhabited azw:=⟨⟨default,default,default⟩⟩
structure jz0 where
 A:Int
 B:Int
instance:Inhabited jz0:=⟨⟨default,default⟩⟩
structure azb where
 Robot:azm
 Shapes:(List azw)
 Skips:(List jz0)
instance:Inhabited azb:=⟨⟨default,default,default⟩⟩
structure ez9 where
 scene:azb
 depth:Int
instance:Inhabited ez9:=⟨⟨default,default⟩⟩
structure az4 where
 Depth:Int
 Index:Int
 Normals:(List (Int×Int×Int))
instance:Inhabited az4:=⟨⟨default,default,default⟩⟩
structure czk where
 Pair:Int
 Left:(List Int)
 Right:(List Int)
instance:Inhabited czk:=⟨⟨default,default,default⟩⟩
structure bza where
 Kind:Int
 Pieces:(List az4)
 At:az4
 Witness:czk
instance:Inhabited bza:=⟨⟨default,default,default,default⟩⟩
structure az0 where
 Lo:Int
 Hi:Int
instance:Inhabited az0:=⟨⟨default,default⟩⟩
structure bzt where
 A:Int
 B:Int
instance:Inhabited bzt:=⟨⟨default,default⟩⟩
structure bzx where
 shapes:(List azw)
 pairs:(List bzt)
 points:(List (List (az0×az0×az0)))
instance:Inhabited bzx:=⟨⟨default,default,default⟩⟩
structure azr where
 R:((az0×az0×az0)×(az0×az0×az0)×(az0×az0×az0))
 T:(az0×az0×az0)
instance:Inhabited azr:=⟨⟨default,default⟩⟩
structure czv where
 Kind:Int
 Normals:(List (Int×Int×Int))
 Witness:czk
instance:Inhabited czv:=⟨⟨default,default,default⟩⟩
structure fzi where
 a:(List (az0×az0×az0))
 b:(List (az0×az0×az0))
 ra:Int
 rb:Int
instance:Inhabited fzi:=⟨⟨default,default,default,default⟩⟩
structure fz4 where
 points:(List (az0×az0×az0))
 radius:Int
instance:Inhabited fz4:=⟨⟨default,default⟩⟩
structure dz6 where
 a:fz4
 b:fz4
instance:Inhabited dz6:=⟨⟨default,default⟩⟩
structure czu where
 Kind:Int
 Normal:(Int×Int×Int)
 Left:(List Int)
 Right:(List Int)
 Steps:Int
instance:Inhabited czu:=⟨⟨default,default,default,default,default⟩⟩
structure qzp where
 points:(List (Int×Int×Int))
 weights:(List Int)
instance:Inhabited qzp:=⟨⟨default,default⟩⟩
structure zzf where
 list:qzp
instance:Inhabited zzf:=⟨⟨default⟩⟩
structure wzb where
 list:qzp
instance:Inhabited wzb:=⟨⟨default⟩⟩
structure Hz1 where
 left:zzf
 right:wzb
 normal:(Int×Int×Int)
 rounds:Int
instance:Inhabited Hz1:=⟨⟨default,default,default,default⟩⟩
structure ez8 where
 witness:czk
instance:Inhabited ez8:=⟨⟨default⟩⟩
structure bzh where
 normals:(List (Int×Int×Int))
instance:Inhabited bzh:=⟨⟨default⟩⟩
structure bz4 where
 scene:azb
 p:(List Int)
 q:(List Int)
 pieces:(List az4)
instance:Inhabited bz4:=⟨⟨default,default,default,default⟩⟩
structure azp where
 depth:Int
 index:Int
 hints:(List (Int×Int×Int))
instance:Inhabited azp:=⟨⟨default,default,default⟩⟩
structure azs where
 points:(List (az0×az0×az0))
 radius:Int
instance:Inhabited azs:=⟨⟨default,default⟩⟩
abbrev A0:=List Int
abbrev A1:=List A0
abbrev A2:=A0×Int
abbrev A3:=List azt
abbrev A4:=List cz2
abbrev A5:=List azw
abbrev A6:=List jz0
abbrev A7:=List az0
abbrev A8:=List bzt
abbrev A9:=A8×Int
abbrev Aa:=List azr
abbrev Ab:=List az4
abbrev Ac:=Ab×Int
abbrev Ad:=List bzv
abbrev Ae:=List aze
abbrev Af:=List azs
abbrev Ag:=List azp
abbrev Ah:=Int×Int
abbrev Ai:=Int×Bool
abbrev Aj:=A0×Int×A5
abbrev Ak:=A0×Int×Int
abbrev Al:=Int×Int×Int
abbrev Am:=List Al
abbrev An:=Am×Int
abbrev Ap:=List (Al×Int)
abbrev Aq:=Al×Bool
abbrev Ar:=az0×az0×az0
abbrev As:=List Ar
abbrev Au:=List As
abbrev Av:=Ar×Ar×Ar
abbrev Aw:=Int×Int×Bool
abbrev Ax:=Bool×Bool×Al
abbrev Ay:=A0×Int×A5×Int
abbrev Az:=Ab×Int×Int×Am
abbrev B0:=Int×Int×Int×Int
abbrev B1:=Int×Int×Int×Int×Int
abbrev B2:=Int×Int×Int×Int×Int×Int
abbrev B3:=Bool×Al×As×As×Int×Int×Am
abbrev B4:=Int×Int×Int×Int×Int×Int×Int
abbrev B5:=Int×Int×Int×Int×Int×Int×Int×Int×Int×Int×Int
abbrev B6:=Bool×Ab×Int×Ab×Int×Int×Am×Int×A0×A0×A0×A0×A3×A4×A5×A6×Int
abbrev B7:=Int×Int×Int×Int×Int×Int×Int×Int×Int×Int×Int×Int×Int×Int×Int×Int×Int×Int×Int×Int×Int×Int×Int×Int
def azy (v:bzv):PVal:=.agg [.int .i64 v.Depth,.int .i64 v.Index,encL 1 az3 v.Numbers]
def az1 (v:Al):PVal:=.agg [.int .i64 v.1,.int .i64 v.2.1,.int .i64 v.2.2]
def azk (v:aze):PVal:=.agg [encL 3 az1 v.Table,encL 3 azy v.Uses]
def jzd (v:azv):PVal:=.agg [encL 1 (encL 1 az3) v.Points,encL 2 azk v.Edges]
def azd (v:azt):PVal:=.agg [.str v.Name,.int .i64 v.Kind,.int .i64 v.Parent,.int .i64 v.Offset.1,.int .i64 v.Offset.2.1,.int .i64 v.Offset.2.2,.int .i64 v.Lo,.int .i64 v.Hi,.int .i64 v.Weight,.int .i64 v.Speed,.int .i64 v.Accel,.int .i64 v.Torque]
def azg (v:cz2):PVal:=.agg [.int .i64 v.Link,.int .i64 v.Mass,.int .i64 v.Point.1,.int .i64 v.Point.2.1,.int .i64 v.Point.2.2]
def dzb (v:azm):PVal:=.agg [encL 12 azd v.Joints,encL 5 azg v.Masses]
def azh (v:azw):PVal:=.agg [.int .i64 v.Link,.int .i64 v.Radius,encL 3 az1 v.Points]
def azo (v:jz0):PVal:=.agg [.int .i64 v.A,.int .i64 v.B]
def bzd (v:azb):PVal:=.agg [encL 12 azd v.Robot.Joints,encL 5 azg v.Robot.Masses,encL 3 azh v.Shapes,encL 2 azo v.Skips]
def ozb (v:ez9):PVal:=.agg [encL 12 azd v.scene.Robot.Joints,encL 5 azg v.scene.Robot.Masses,encL 3 azh v.scene.Shapes,encL 2 azo v.scene.Skips,.int .i64 v.depth]
def azf (v:az4):PVal:=.agg [.int .i64 v.Depth,.int .i64 v.Index,encL 3 az1 v.Normals]
def zzj (v:bza):PVal:=.agg [.int .i64 v.Kind,encL 3 azf v.Pieces,.int .i64 v.At.Depth,.int .i64 v.At.Index,encL 3 az1 v.At.Normals,.int .i64 v.Witness.Pair,encL 1 az3 v.Witness.Left,encL 1 az3 v.Witness.Right]
def az7 (v:az0):PVal:=.agg [.int .i64 v.Lo,.int .i64 v.Hi]
def dza (v:bzt):PVal:=.agg [.int .i64 v.A,.int .i64 v.B]
def az2 (v:Ar):PVal:=.agg [.int .i64 v.1.Lo,.int .i64 v.1.Hi,.int .i64 v.2.1.Lo,.int .i64 v.2.1.Hi,.int .i64 v.2.2.Lo,.int .i64 v.2.2.Hi]
def kzy (v:bzx):PVal:=.agg [encL 3 azh v.shapes,encL 2 dza v.pairs,encL 1 (encL 6 az2) v.points]
def bzg (v:azr):PVal:=.agg [.int .i64 v.R.1.1.Lo,.int .i64 v.R.1.1.Hi,.int .i64 v.R.1.2.1.Lo,.int .i64 v.R.1.2.1.Hi,.int .i64 v.R.1.2.2.Lo,.int .i64 v.R.1.2.2.Hi,.int .i64 v.R.2.1.1.Lo,.int .i64 v.R.2.1.1.Hi,.int .i64 v.R.2.1.2.1.Lo,.int .i64 v.R.2.1.2.1.Hi,.int .i64 v.R.2.1.2.2.Lo,.int .i64 v.R.2.1.2.2.Hi,.int .i64 v.R.2.2.1.Lo,.int .i64 v.R.2.2.1.Hi,.int .i64 v.R.2.2.2.1.Lo,.int .i64 v.R.2.2.2.1.Hi,.int .i64 v.R.2.2.2.2.Lo,.int .i64 v.R.2.2.2.2.Hi,.int .i64 v.T.1.Lo,.int .i64 v.T.1.Hi,.int .i64 v.T.2.1.Lo,.int .i64 v.T.2.1.Hi,.int .i64 v.T.2.2.Lo,.int .i64 v.T.2.2.Hi]
def Hzp (v:B0):PVal:=.agg [.int .i64 v.1,.int .i64 v.2.1,.int .i64 v.2.2.1,.int .i64 v.2.2.2]
def tzr (v:czv):PVal:=.agg [.int .i64 v.Kind,encL 3 az1 v.Normals,.int .i64 v.Witness.Pair,encL 1 az3 v.Witness.Left,encL 1 az3 v.Witness.Right]
def Azp (v:fzi):PVal:=.agg [encL 6 az2 v.a,encL 6 az2 v.b,.int .i64 v.ra,.int .i64 v.rb]
def Jzl (v:fz4):PVal:=.agg [encL 6 az2 v.points,.int .i64 v.radius]
def ozc (v:dz6):PVal:=.agg [encL 6 az2 v.a.points,.int .i64 v.a.radius,encL 6 az2 v.b.points,.int .i64 v.b.radius]
def Hzo (v:czu):PVal:=.agg [.int .i64 v.Kind,.int .i64 v.Normal.1,.int .i64 v.Normal.2.1,.int .i64 v.Normal.2.2,encL 1 az3 v.Left,encL 1 az3 v.Right,.int .i64 v.Steps]
def wz9 (v:ez8):PVal:=.agg [.int .i64 v.witness.Pair,encL 1 az3 v.witness.Left,encL 1 az3 v.witness.Right]
def gz4 (v:bzh):PVal:=.agg [encL 3 az1 v.normals]
def fzg (v:bz4):PVal:=.agg [encL 12 azd v.scene.Robot.Joints,encL 5 azg v.scene.Robot.Masses,encL 3 azh v.scene.Shapes,encL 2 azo v.scene.Skips,encL 1 az3 v.p,encL 1 az3 v.q,encL 3 azf v.pieces]
def azn (v:Al):List PVal:=[.int .i64 v.1,.int .i64 v.2.1,.int .i64 v.2.2]
def hz3 (v:azp):PVal:=.agg [.int .i64 v.depth,.int .i64 v.index,encL 3 az1 v.hints]
def bz7 (v:azs):PVal:=.agg [encL 6 az2 v.points,.int .i64 v.radius]
def bz9 (v:Av):PVal:=.agg [.int .i64 v.1.1.Lo,.int .i64 v.1.1.Hi,.int .i64 v.1.2.1.Lo,.int .i64 v.1.2.1.Hi,.int .i64 v.1.2.2.Lo,.int .i64 v.1.2.2.Hi,.int .i64 v.2.1.1.Lo,.int .i64 v.2.1.1.Hi,.int .i64 v.2.1.2.1.Lo,.int .i64 v.2.1.2.1.Hi,.int .i64 v.2.1.2.2.Lo,.int .i64 v.2.1.2.2.Hi,.int .i64 v.2.2.1.Lo,.int .i64 v.2.2.1.Hi,.int .i64 v.2.2.2.1.Lo,.int .i64 v.2.2.2.1.Hi,.int .i64 v.2.2.2.2.Lo,.int .i64 v.2.2.2.2.Hi]
def izl (v:B5):PVal:=.agg [.int .i64 v.1,.int .i64 v.2.1,.int .i64 v.2.2.1,.int .i64 v.2.2.2.1,.int .i64 v.2.2.2.2.1,.int .i64 v.2.2.2.2.2.1,.int .i64 v.2.2.2.2.2.2.1,.int .i64 v.2.2.2.2.2.2.2.1,.int .i64 v.2.2.2.2.2.2.2.2.1,.int .i64 v.2.2.2.2.2.2.2.2.2.1,.int .i64 v.2.2.2.2.2.2.2.2.2.2]
theorem az36:GuardFn Tryz.prog 23:=
 dzk (fn:=Tryz.f23) Tryz.func23 (by kernel_rfl) ⟨0,(gOps Tryz.f23).getD 0 default,(gOps Tryz.f23).getD 1 default,3,4,gX Tryz.f23,gC ((gOps Tryz.f23).getD 0 default),20,20,by kernel_rfl,by kernel_rfl,by kernel_rfl,by kernel_rfl,by kernel_rfl,by kernel_rfl,by kernel_rfl,by kernel_rfl,⟨gMs (Tryz.prog.underlying 20),by kernel_rfl⟩,by decide,by decide,by kernel_rfl⟩
theorem az37:GuardFn Tryz.prog 28:=
 dzk (fn:=Tryz.f28) Tryz.func28 (by kernel_rfl) ⟨0,(gOps Tryz.f28).getD 0 default,(gOps Tryz.f28).getD 1 default,2,3,gX Tryz.f28,gC ((gOps Tryz.f28).getD 0 default),20,20,by kernel_rfl,by kernel_rfl,by kernel_rfl,by kernel_rfl,by kernel_rfl,by kernel_rfl,by kernel_rfl,by kernel_rfl,⟨gMs (Tryz.prog.underlying 20),by kernel_rfl⟩,by decide,by decide,by kernel_rfl⟩
theorem az38:GuardFn Tryz.prog 34:=
 dzk (fn:=Tryz.f34) Tryz.func34 (by kernel_rfl) ⟨0,(gOps Tryz.f34).getD 0 default,(gOps Tryz.f34).getD 1 default,1,2,gX Tryz.f34,gC ((gOps Tryz.f34).getD 0 default),20,20,by kernel_rfl,by kernel_rfl,by kernel_rfl,by kernel_rfl,by kernel_rfl,by kernel_rfl,by kernel_rfl,by kernel_rfl,⟨gMs (Tryz.prog.underlying 20),by kernel_rfl⟩,by decide,by decide,by kernel_rfl⟩
theorem az39:GuardFn Tryz.prog 39:=
 dzk (fn:=Tryz.f39) Tryz.func39 (by kernel_rfl) ⟨0,(gOps Tryz.f39).getD 0 default,(gOps Tryz.f39).getD 1 default,1,2,gX Tryz.f39,gC ((gOps Tryz.f39).getD 0 default),20,20,by kernel_rfl,by kernel_rfl,by kernel_rfl,by kernel_rfl,by kernel_rfl,by kernel_rfl,by kernel_rfl,by kernel_rfl,⟨gMs (Tryz.prog.underlying 20),by kernel_rfl⟩,by decide,by decide,by kernel_rfl⟩
theorem az3a:GuardFn Tryz.prog 57:=
 dzk (fn:=Tryz.f57) Tryz.func57 (by kernel_rfl) ⟨0,(gOps Tryz.f57).getD 0 default,(gOps Tryz.f57).getD 1 default,2,3,gX Tryz.f57,gC ((gOps Tryz.f57).getD 0 default),20,20,by kernel_rfl,by kernel_rfl,by kernel_rfl,by kernel_rfl,by kernel_rfl,by kernel_rfl,by kernel_rfl,by kernel_rfl,⟨gMs (Tryz.prog.underlying 20),by kernel_rfl⟩,by decide,by decide,by kernel_rfl⟩
theorem az3b:GuardFn Tryz.prog 58:=
 dzk (fn:=Tryz.f58) Tryz.func58 (by kernel_rfl) ⟨0,(gOps Tryz.f58).getD 0 default,(gOps Tryz.f58).getD 1 default,2,3,gX Tryz.f58,gC ((gOps Tryz.f58).getD 0 default),20,20,by kernel_rfl,by kernel_rfl,by kernel_rfl,by kernel_rfl,by kernel_rfl,by kernel_rfl,by kernel_rfl,by kernel_rfl,⟨gMs (Tryz.prog.underlying 20),by kernel_rfl⟩,by decide,by decide,by kernel_rfl⟩
theorem az3c:GuardFn Tryz.prog 81:=
 dzk (fn:=Tryz.f81) Tryz.func81 (by kernel_rfl) ⟨0,(gOps Tryz.f81).getD 0 default,(gOps Tryz.f81).getD 1 default,1,2,gX Tryz.f81,gC ((gOps Tryz.f81).getD 0 default),20,20,by kernel_rfl,by kernel_rfl,by kernel_rfl,by kernel_rfl,by kernel_rfl,by kernel_rfl,by kernel_rfl,by kernel_rfl,⟨gMs (Tryz.prog.underlying 20),by kernel_rfl⟩,by decide,by decide,by kernel_rfl⟩
theorem az3d:GuardFn Tryz.prog 85:=
 dzk (fn:=Tryz.f85) Tryz.func85 (by kernel_rfl) ⟨0,(gOps Tryz.f85).getD 0 default,(gOps Tryz.f85).getD 1 default,1,2,gX Tryz.f85,gC ((gOps Tryz.f85).getD 0 default),20,20,by kernel_rfl,by kernel_rfl,by kernel_rfl,by kernel_rfl,by kernel_rfl,by kernel_rfl,by kernel_rfl,by kernel_rfl,⟨gMs (Tryz.prog.underlying 20),by kernel_rfl⟩,by decide,by decide,by kernel_rfl⟩
theorem az3e:GuardFn Tryz.prog 86:=
 dzk (fn:=Tryz.f86) Tryz.func86 (by kernel_rfl) ⟨0,(gOps Tryz.f86).getD 0 default,(gOps Tryz.f86).getD 1 default,1,2,gX Tryz.f86,gC ((gOps Tryz.f86).getD 0 default),20,20,by kernel_rfl,by kernel_rfl,by kernel_rfl,by kernel_rfl,by kernel_rfl,by kernel_rfl,by kernel_rfl,by kernel_rfl,⟨gMs (Tryz.prog.underlying 20),by kernel_rfl⟩,by decide,by decide,by kernel_rfl⟩
theorem Zzw:GuardFn Tryz.prog 114:=
 dzk (fn:=Tryz.f114) Tryz.func114 (by kernel_rfl) ⟨0,(gOps Tryz.f114).getD 0 default,(gOps Tryz.f114).getD 1 default,1,2,gX Tryz.f114,gC ((gOps Tryz.f114).getD 0 default),20,20,by kernel_rfl,by kernel_rfl,by kernel_rfl,by kernel_rfl,by kernel_rfl,by kernel_rfl,by kernel_rfl,by kernel_rfl,⟨gMs (Tryz.prog.underlying 20),by kernel_rfl⟩,by decide,by decide,by kernel_rfl⟩
theorem Zzx:GuardFn Tryz.prog 123:=
 dzk (fn:=Tryz.f123) Tryz.func123 (by kernel_rfl) ⟨0,(gOps Tryz.f123).getD 0 default,(gOps Tryz.f123).getD 1 default,1,2,gX Tryz.f123,gC ((gOps Tryz.f123).getD 0 default),20,20,by kernel_rfl,by kernel_rfl,by kernel_rfl,by kernel_rfl,by kernel_rfl,by kernel_rfl,by kernel_rfl,by kernel_rfl,⟨gMs (Tryz.prog.underlying 20),by kernel_rfl⟩,by decide,by decide,by kernel_rfl⟩
theorem Zzy:GuardFn Tryz.prog 148:=
 dzk (fn:=Tryz.f148) Tryz.func148 (by kernel_rfl) ⟨0,(gOps Tryz.f148).getD 0 default,(gOps Tryz.f148).getD 1 default,2,3,gX Tryz.f148,gC ((gOps Tryz.f148).getD 0 default),20,20,by kernel_rfl,by kernel_rfl,by kernel_rfl,by kernel_rfl,by kernel_rfl,by kernel_rfl,by kernel_rfl,by kernel_rfl,⟨gMs (Tryz.prog.underlying 20),by kernel_rfl⟩,by decide,by decide,by kernel_rfl⟩
theorem Zzz:GuardFn Tryz.prog 156:=
 dzk (fn:=Tryz.f156) Tryz.func156 (by kernel_rfl) ⟨0,(gOps Tryz.f156).getD 0 default,(gOps Tryz.f156).getD 1 default,1,2,gX Tryz.f156,gC ((gOps Tryz.f156).getD 0 default),20,20,by kernel_rfl,by kernel_rfl,by kernel_rfl,by kernel_rfl,by kernel_rfl,by kernel_rfl,by kernel_rfl,by kernel_rfl,⟨gMs (Tryz.prog.underlying 20),by kernel_rfl⟩,by decide,by decide,by kernel_rfl⟩
theorem az00:GuardFn Tryz.prog 203:=
 dzk (fn:=Tryz.f203) Tryz.func203 (by kernel_rfl) ⟨0,(gOps Tryz.f203).getD 0 default,(gOps Tryz.f203).getD 1 default,2,3,gX Tryz.f203,gC ((gOps Tryz.f203).getD 0 default),20,20,by kernel_rfl,by kernel_rfl,by kernel_rfl,by kernel_rfl,by kernel_rfl,by kernel_rfl,by kernel_rfl,by kernel_rfl,⟨gMs (Tryz.prog.underlying 20),by kernel_rfl⟩,by decide,by decide,by kernel_rfl⟩
theorem az01:GuardFn Tryz.prog 235:=
 dzk (fn:=Tryz.f235) Tryz.func235 (by kernel_rfl) ⟨0,(gOps Tryz.f235).getD 0 default,(gOps Tryz.f235).getD 1 default,2,3,gX Tryz.f235,gC ((gOps Tryz.f235).getD 0 default),20,20,by kernel_rfl,by kernel_rfl,by kernel_rfl,by kernel_rfl,by kernel_rfl,by kernel_rfl,by kernel_rfl,by kernel_rfl,⟨gMs (Tryz.prog.underlying 20),by kernel_rfl⟩,by decide,by decide,by kernel_rfl⟩
noncomputable def Rzo (c:A0):T A2:=
 .ret (c,0)
noncomputable def lz2 (c):=
 mkD Tryz.func19 (Rzo c) 0 [.pure (encL 1 az3 c)] [] (fun _=>.ptr 0 0) (fun r=>[(0,.box [.pure (encL 1 az3 r.1),pz r.2])])
noncomputable def xz4 (c:Int)(d:Int):T Int:=let e:=c.tmod d;.grd (d≠0)<|
 .cut 0 (fun (f:Int)=>⟨[(5,pz f)],[],[],0⟩)
 (.br (decide (e<0))
 (.oo (i64.wrap (e+d)))
 (.oo e)) fun f=>
 .ret f
noncomputable def bzi (c)(d):=
 mkD Tryz.func22 (xz4 c d) 0 [pz c,pz d] [] (fun r=>pz r) (fun _=>[])
noncomputable def tzh (c:A0)(d:Int)(e:Int):T (Int×A0×Int):=let f:=i64.wrap (d+1);let g:=i64.wrap (f-1);.br (decide (d≥(c.length:Int)))
 (.ret (0,c,d))
 (.gh g c.length<|
 .call (bzi (c.getD (g.toNat) default) e) [] fun h=>
 .ret (h,c,f))
noncomputable def azj (c)(d)(e):=
 mkD Tryz.func21 (tzh c d e) 1 [.ptr 0 0,pz e] [(0,.box [.pure (encL 1 az3 c),pz d])] (fun r=>pz r.1) (fun r=>[(0,.box [.pure (encL 1 az3 r.2.1),pz r.2.2])])
noncomputable def uzb (c:Int):T ByteArray:=let d:=i64.wrap (c+1);.grd (0≤c/\c≤d/\d≤(((⟨#[97,98,99,100,101,102,103,104,105,106]⟩:ByteArray).size:Nat):Int))<|
 .ret ((⟨#[97,98,99,100,101,102,103,104,105,106]⟩:ByteArray).extract c.toNat d.toNat)
noncomputable def uza (c):=
 mkD Tryz.func109 (uzb c) 0 [pz c] [] (fun r=>.pure (.str r)) (fun _=>[])
noncomputable def oz1 (c:A0)(d:Int)(e:Int):T (Int×A0×Int):=
 .call (azj c d (i64.wrap ((i64.wrap (2 * e))+1))) [(0,0)] fun f=>
 .ret ((i64.wrap (f.1-e)),f.2.1,f.2.2)
noncomputable def bzp (c)(d)(e):=
 mkD Tryz.func49 (oz1 c d e) 1 [.ptr 0 0,pz e] [(0,.box [.pure (encL 1 az3 c),pz d])] (fun r=>pz r.1) (fun r=>[(0,.box [.pure (encL 1 az3 r.2.1),pz r.2.2])])
noncomputable def xz9 (c:A0)(d:Int)(e:Int):T (azt×A0×Int):=
 .cc (uza e) fun f=>
 .call (azj c d 4) [(0,0)] fun g=>let h:=i64.wrap (1+g.1);
 .call (azj g.2.1 g.2.2 3) [(0,0)] fun i=>let j:=i64.wrap (65536+i.1);
 .call (azj i.2.1 i.2.2 8) [(0,0)] fun k=>let m:=([3,3,1,2,4,5,3,0]:List Int).getD (k.1).toNat 0;
 .gh k.1 8<|
 .cut 0 (fun (n:Ak)=>⟨[(0,.ptr 0 0),(1,pz e),(4,.ptr 1 0),(5,.ptr 2 0)],[(0,.box [.pure (encL 1 az3 n.1),pz n.2.1]),(1,.box [.pure (.str (⟨#[]⟩:ByteArray)),pz 0,pz 0,pz 0,pz 0,pz 0,pz 0,pz 0,pz 0,pz 0,pz 0,pz 0]),(2,.box [.pure (.str f),pz m,pz n.2.2,pz 0,pz 0,pz 0,pz 0,pz 0,pz h,pz 65536,pz j,pz 327680])],[],3⟩)
 (.call (azj k.2.1 k.2.2 4) [(0,0)] fun n=>
 .br (n.1==1)
 (.oo (n.2.1,n.2.2,(-1)))
 (.oo (n.2.1,n.2.2,(i64.wrap (e-1))))) fun n=>
 .cut 0 (fun (s:(A0×Int×Int×Int×Int))=>⟨[(0,.ptr 0 0),(4,.ptr 1 0),(5,.ptr 2 0)],[(0,.box [.pure (encL 1 az3 s.1),pz s.2.1]),(1,.box [.pure (.str (⟨#[]⟩:ByteArray)),pz 0,pz 0,pz 0,pz 0,pz 0,pz 0,pz 0,pz 0,pz 0,pz 0,pz 0]),(2,.box [.pure (.str f),pz m,pz n.2.2,pz s.2.2.1,pz s.2.2.2.1,pz s.2.2.2.2,pz 0,pz 0,pz h,pz 65536,pz j,pz 327680])],[],3⟩)
 (.br (decide (e>0))
 (.call (bzp n.1 n.2.1 2) [(0,0)] fun s=>
 .call (bzp s.2.1 s.2.2 1) [(0,0)] fun t=>
 .oo (t.2.1,t.2.2,131072,(i64.wrap (s.1 * 32768)),(i64.wrap (t.1 * 32768))))
 (.oo (n.1,n.2.1,0,0,0))) fun s=>
 .cut 0 (fun (t:(A0×Int×Int×Int))=>⟨[(4,.ptr 1 0),(5,.ptr 2 0)],[(0,.box [.pure (encL 1 az3 t.1),pz t.2.1]),(1,.box [.pure (.str (⟨#[]⟩:ByteArray)),pz 0,pz 0,pz 0,pz 0,pz 0,pz 0,pz 0,pz 0,pz 0,pz 0,pz 0]),(2,.box [.pure (.str f),pz m,pz n.2.2,pz s.2.2.1,pz s.2.2.2.1,pz s.2.2.2.2,pz t.2.2.1,pz t.2.2.2,pz h,pz 65536,pz j,pz 327680])],[],3⟩)
 (.br (m==0)
 (.oo (s.1,s.2.1,0,0))
 (.cut 0 (fun (t:Bool)=>⟨[(0,.ptr 0 0),(4,.ptr 1 0),(5,.ptr 2 0),(55,.pure (.bool t))],[(0,.box [.pure (encL 1 az3 s.1),pz s.2.1]),(1,.box [.pure (.str (⟨#[]⟩:ByteArray)),pz 0,pz 0,pz 0,pz 0,pz 0,pz 0,pz 0,pz 0,pz 0,pz 0,pz 0]),(2,.box [.pure (.str f),pz m,pz n.2.2,pz s.2.2.1,pz s.2.2.2.1,pz s.2.2.2.2,pz 0,pz 0,pz h,pz 65536,pz j,pz 327680])],[],3⟩)
 (.br (m==4)
 (.oo (m==4))
 (.oo (m==5))) fun t=>
 .br t
 (.call (azj s.1 s.2.1 3) [(0,0)] fun w=>
 .call (azj w.2.1 w.2.2 4) [(0,0)] fun y=>
 .oo (y.2.1,y.2.2,(i64.wrap ((i64.wrap (0-w.1)) * 65536)),(i64.wrap (y.1 * 32768))))
 (.call (azj s.1 s.2.1 5) [(0,0)] fun w=>
 .ok ((8:Int)≠0) (by decide)<|
 .call (azj w.2.1 w.2.2 4) [(0,0)] fun y=>
 .ok ((8:Int)≠0) (by decide)<|
 .call (azj y.2.1 y.2.2 3) [(0,0)] fun z=>
 .oo (z.2.1,z.2.2,(i64.wrap ((i64.wrap ((i64.wrap (0-w.1)) * 65536)).tdiv 8)),(i64.wrap ((i64.wrap ((i64.wrap ((i64.wrap (1+y.1)) * 65536)).tdiv 8))+z.1)))))) fun t=>
 .ret ((⟨f,m,n.2.2,(s.2.2.1,s.2.2.2.1,s.2.2.2.2),t.2.2.1,t.2.2.2,h,65536,j,327680⟩:azt),t.1,t.2.1)
noncomputable def xz8 (c)(d)(e):=
 mkD Tryz.func76 (xz9 c d e) 1 [.ptr 0 0,pz e] [(0,.box [.pure (encL 1 az3 c),pz d])] (fun r=>.pure (azd r.1)) (fun r=>[(0,.box [.pure (encL 1 az3 r.2.1),pz r.2.2])])
noncomputable def xza (c:A0)(d:Int):T (azm×A0×Int):=
 .call (azj c d 3) [(0,0)] fun e=>let f:=i64.wrap (1+e.1);
 .loop (fun (g:(A0×Int×A3×Int))=>⟨[(0,.ptr 0 0),(2,.ptr 1 0),(3,.ptr 4 0),(4,pz f),(5,pz g.2.2.2)],[(0,.box [.pure (encL 1 az3 g.1),pz g.2.1]),(1,.box [.vec 2,.vec 3]),(2,.nilv),(3,.nilv),(4,.box [.vec 5,.vec 6]),(5,vecO 12 azd g.2.2.1 101),(6,.nilv)],[],7⟩)
 (.exit 0) (fun (g:(A0×Int×A3))=>⟨[(0,.ptr 0 0),(2,.ptr 1 0),(3,.ptr 4 0),(4,pz f)],[(0,.box [.pure (encL 1 az3 g.1),pz g.2.1]),(1,.box [.vec 2,.vec 3]),(2,.nilv),(3,.nilv),(4,.box [.vec 5,.vec 6]),(5,vecO 12 azd g.2.2 101),(6,.nilv)],[],7⟩)
 (fun g=>.br (decide (g.2.2.2<f))
 (.call (xz8 g.1 g.2.1 g.2.2.2) [(0,0)] fun h=>let i:=([h.1]:A3);let j:=g.2.2.1.length+i.length;
 .conv 6005 (cz5 12 azd i 101)<|
 .conv 6006 (dzi 12 azd g.2.2.1 i 101)<|
 .grd (j * 104≤140737488355328/\j≤maxLen)<|
 .nn (h.2.1,h.2.2,(g.2.2.1++i),(i64.wrap (g.2.2.2+1))))
 (.oo (g.1,g.2.1,g.2.2.1)))
 (e.2.1,e.2.2,nl,0) [] fun g=>
 .call (azj g.1 g.2.1 3) [(0,0)] fun h=>
 .loop (fun (i:(A0×Int×A4×Int))=>⟨[(0,.ptr 0 0),(2,.ptr 1 0),(3,.ptr 4 0),(4,pz f),(6,pz i.2.2.2)],[(0,.box [.pure (encL 1 az3 i.1),pz i.2.1]),(1,.box [.vec 2,.vec 3]),(2,.nilv),(3,.nilv),(4,.box [.vec 5,.vec 6]),(5,vecO 12 azd g.2.2 101),(6,vecO 5 azg i.2.2.1 128)],[],7⟩)
 (.exit 2) (fun (i:(A0×Int×A4))=>⟨[(2,.ptr 1 0),(3,.ptr 4 0)],[(0,.box [.pure (encL 1 az3 i.1),pz i.2.1]),(1,.box [.vec 2,.vec 3]),(2,.nilv),(3,.nilv),(4,.box [.vec 5,.vec 6]),(5,vecO 12 azd g.2.2 101),(6,vecO 5 azg i.2.2 128)],[],7⟩)
 (fun i=>.br (decide (i.2.2.2>0))
 (.call (azj i.1 i.2.1 f) [(0,0)] fun j=>
 .call (azj j.2.1 j.2.2 9000) [(0,0)] fun k=>
 .call (bzp k.2.1 k.2.2 3) [(0,0)] fun m=>
 .call (bzp m.2.1 m.2.2 2) [(0,0)] fun n=>let s:=([(⟨j.1,(i64.wrap (1+k.1)),((i64.wrap (m.1 * 32768)),0,(i64.wrap (n.1 * 32768)))⟩:cz2)]:A4);let t:=i.2.2.1.length+s.length;
 .conv 10016 (cz5 5 azg s 128)<|
 .conv 10017 (dzi 5 azg i.2.2.1 s 128)<|
 .grd (t * 40≤140737488355328/\t≤maxLen)<|
 .nn (n.2.1,n.2.2,(i.2.2.1++s),(i64.wrap (i.2.2.2-1))))
 (.oo (i.1,i.2.1,i.2.2.1)))
 (h.2.1,h.2.2,nl,h.1) [] fun i=>
 .ret ((⟨g.2.2,i.2.2⟩:azm),i.1,i.2.1)
noncomputable def pzy (c)(d):=
 mkD Tryz.func47 (xza c d) 1 [.ptr 0 0] [(0,.box [.pure (encL 1 az3 c),pz d])] (fun r=>.pure (dzb r.1)) (fun r=>[(0,.box [.pure (encL 1 az3 r.2.1),pz r.2.2])])
noncomputable def uzc (c:A0)(d:Int)(e:Al):T (Am×A0×Int):=let f:=([e]:Am);.conv 1001 (cz5 3 az1 f 78)<|
 .call (azj c d 4) [(0,0)] fun g=>
 .loop (fun (h:(A0×Int×Am×Int))=>⟨[(0,.ptr 0 0),(3,.ptr 1 0),(5,.vec 2),(6,pz h.2.2.2)],[(0,.box [.pure (encL 1 az3 h.1),pz h.2.1]),(1,.box [pz e.1,pz e.2.1,pz e.2.2]),(2,vecO 3 az1 h.2.2.1 78)],[],3⟩)
 (.exit 0) (fun (h:(A0×Int×Am))=>⟨[(5,.vec 1)],[(0,.box [.pure (encL 1 az3 h.1),pz h.2.1]),(1,vecO 3 az1 h.2.2 78)],[],2⟩)
 (fun h=>.br (decide (h.2.2.2>0))
 (.ix 0 3 rfl<|
 .call (bzp h.1 h.2.1 3) [(0,0)] fun i=>
 .ix 1 3 rfl<|
 .call (bzp i.2.1 i.2.2 2) [(0,0)] fun j=>
 .ix 2 3 rfl<|
 .call (bzp j.2.1 j.2.2 2) [(0,0)] fun k=>let m:=([((i64.wrap (e.1+(i64.wrap (i.1 * 32768)))),(i64.wrap (e.2.1+(i64.wrap (j.1 * 32768)))),(i64.wrap (e.2.2+(i64.wrap (k.1 * 32768)))))]:Am);let n:=h.2.2.1.length+m.length;
 .conv 5020 (cz5 3 az1 m 78)<|
 .conv 5021 (dzi 3 az1 h.2.2.1 m 78)<|
 .grd (n * 24≤140737488355328/\n≤maxLen)<|
 .nn (k.2.1,k.2.2,(h.2.2.1++m),(i64.wrap (h.2.2.2-1))))
 (.oo (h.1,h.2.1,h.2.2.1)))
 (g.2.1,g.2.2,f,g.1) [] fun h=>
 .ret (h.2.2,h.1,h.2.1)
noncomputable def jzo (c)(d)(e):=
 mkD Tryz.func48 (uzc c d e) 1 [.ptr 0 0,.pure (az1 e)] [(0,.box [.pure (encL 1 az3 c),pz d])] (fun r=>.pure (encL 3 az1 r.1)) (fun r=>[(0,.box [.pure (encL 1 az3 r.2.1),pz r.2.2])])
set_option maxHeartbeats 8000000 in
set_option maxRecDepth 20000 in
noncomputable def xz7 (c:A0):T azb:=
 .cc (lz2 c) fun d=>
 .call (pzy d.1 d.2) [(0,128)] fun e=>let f:=encL 5 azg e.1.Masses;let g:=encL 12 azd e.1.Joints;let h:=(e.1.Joints.length:Nat);let i:Nat×Res:=(6,.box [.pure g,.pure f,.vec 7,.vec 8]);
 .loop (fun (j:Ay)=>⟨[(2,.ptr 0 0),(3,.ptr 5 0),(4,.ptr 6 0),(5,pz j.2.2.2)],[(0,.box [.vec 1,.vec 2,.vec 3,.vec 4]),(1,.nilv),(2,.nilv),(3,.nilv),(4,.nilv),(5,.box [.pure (encL 1 az3 j.1),pz j.2.1]),i,(7,vecO 3 azh j.2.2.1 94),(8,.nilv)],[],9⟩)
 (.exit 0) (fun (j:Aj)=>⟨[(2,.ptr 0 0),(3,.ptr 5 0),(4,.ptr 6 0)],[(0,.box [.vec 1,.vec 2,.vec 3,.vec 4]),(1,.nilv),(2,.nilv),(3,.nilv),(4,.nilv),(5,.box [.pure (encL 1 az3 j.1),pz j.2.1]),i,(7,vecO 3 azh j.2.2 94),(8,.nilv)],[],9⟩)
 (fun j=>.br (decide (j.2.2.2<(h:Int)))
 (.cut 0 (fun (k:Aj)=>⟨[(2,.ptr 0 0),(3,.ptr 5 0),(4,.ptr 6 0),(5,pz j.2.2.2)],[(0,.box [.vec 1,.vec 2,.vec 3,.vec 4]),(1,.nilv),(2,.nilv),(3,.nilv),(4,.nilv),(5,.box [.pure (encL 1 az3 k.1),pz k.2.1]),i,(7,vecO 3 azh k.2.2 94),(8,.nilv)],[],9⟩)
 (.call (azj j.1 j.2.1 5) [(0,5)] fun k=>
 .br (decide (k.1<4))
 (.call (azj k.2.1 k.2.2 3) [(0,5)] fun m=>
 .ok ((8:Int)≠0) (by decide)<|
 .call (azj m.2.1 m.2.2 4) [(0,5)] fun n=>
 .call (jzo n.2.1 n.2.2 ((i64.wrap (n.1 * 32768)),0,0)) [(0,5)] fun s=>let t:=([(⟨j.2.2.2,(i64.wrap ((i64.wrap ((i64.wrap (1+m.1)) * 65536)).tdiv 8)),s.1⟩:azw)]:A5);let w:=j.2.2.1.length+t.length;
 .conv 7015 (cz5 3 azh t 94)<|
 .conv 7016 (dzi 3 azh j.2.2.1 t 94)<|
 .grd (w * 40≤140737488355328/\w≤maxLen)<|
 .oo (s.2.1,s.2.2,(j.2.2.1++t)))
 (.oo (k.2.1,k.2.2,j.2.2.1))) fun k=>
 .nn (k.1,k.2.1,k.2.2,(i64.wrap (j.2.2.2+1))))
 (.oo (j.1,j.2.1,j.2.2.1)))
 (e.2.1,e.2.2,nl,0) [] fun j=>
 .call (azj j.1 j.2.1 3) [(0,5)] fun k=>
 .loop (fun (m:Ay)=>⟨[(2,.ptr 0 0),(3,.ptr 5 0),(4,.ptr 6 0),(6,pz m.2.2.2)],[(0,.box [.vec 1,.vec 2,.vec 3,.vec 4]),(1,.nilv),(2,.nilv),(3,.nilv),(4,.nilv),(5,.box [.pure (encL 1 az3 m.1),pz m.2.1]),i,(7,vecO 3 azh m.2.2.1 94),(8,.nilv)],[],9⟩)
 (.exit 2) (fun (m:Aj)=>⟨[(2,.ptr 0 0),(3,.ptr 5 0),(4,.ptr 6 0)],[(0,.box [.vec 1,.vec 2,.vec 3,.vec 4]),(1,.nilv),(2,.nilv),(3,.nilv),(4,.nilv),(5,.box [.pure (encL 1 az3 m.1),pz m.2.1]),i,(7,vecO 3 azh m.2.2 94),(8,.nilv)],[],9⟩)
 (fun m=>.br (decide (m.2.2.2>0))
 (.call (bzp m.1 m.2.1 9) [(0,5)] fun n=>
 .call (bzp n.2.1 n.2.2 9) [(0,5)] fun s=>
 .call (bzp s.2.1 s.2.2 2) [(0,5)] fun t=>
 .call (azj t.2.1 t.2.2 4) [(0,5)] fun w=>
 .ok ((8:Int)≠0) (by decide)<|
 .call (jzo w.2.1 w.2.2 ((i64.wrap (n.1 * 32768)),(i64.wrap (s.1 * 32768)),(i64.wrap (t.1 * 32768)))) [(0,5)] fun y=>let z:=([(⟨(-1),(i64.wrap ((i64.wrap ((i64.wrap (1+w.1)) * 65536)).tdiv 8)),y.1⟩:azw)]:A5);let aa:=m.2.2.1.length+z.length;
 .conv 12011 (cz5 3 azh z 94)<|
 .conv 12012 (dzi 3 azh m.2.2.1 z 94)<|
 .grd (aa * 40≤140737488355328/\aa≤maxLen)<|
 .nn (y.2.1,y.2.2,(m.2.2.1++z),(i64.wrap (m.2.2.2-1))))
 (.oo (m.1,m.2.1,m.2.2.1)))
 (k.2.1,k.2.2,j.2.2,(i64.wrap (1+k.1))) [] fun m=>
 .cut 0 (fun (n:A6)=>⟨[(2,.ptr 0 0),(4,.ptr 5 0)],[(0,.box [.vec 1,.vec 2,.vec 3,.vec 4]),(1,.nilv),(2,.nilv),(3,.nilv),(4,.nilv),(5,.box [.pure g,.pure f,.vec 6,.vec 7]),(6,vecO 3 azh m.2.2 94),(7,vecO 2 azo n 97)],[],8⟩)
 (.call (azj m.1 m.2.1 5) [(0,5)] fun n=>
 .br (n.1==1)
 (.call (azj n.2.1 n.2.2 (h:Int)) [(0,5)] fun s=>let t:=([(⟨(-1),s.1⟩:jz0)]:A6);
 .conv 14009 (cz5 2 azo t 97)<|
 .grd (t.length * 16≤140737488355328/\t.length≤maxLen)<|
 .oo t)
 (.oo nl)) fun n=>
 .ret (⟨(⟨e.1.Joints,e.1.Masses⟩:azm),m.2.2,n⟩:azb)
noncomputable def xz6 (c):=
 mkD Tryz.func18 (xz7 c) 0 [.pure (encL 1 az3 c)] [] (fun r=>.pure (bzd r)) (fun _=>[])
noncomputable def uz7 (c:azm)(d:A0):T A0:=let e:Nat×Res:=(0,.box [.pure (encL 12 azd c.Joints),.pure (encL 5 azg c.Masses)]);.cc (lz2 d) fun f=>
 .loop (fun (g:(A0×Int×A0×Int))=>⟨[(2,.ptr 0 0),(5,.ptr 1 0),(6,.vec 2),(7,pz g.2.2.2)],[e,(1,.box [.pure (encL 1 az3 g.1),pz g.2.1]),(2,vecO 1 az3 g.2.2.1 2)],[],3⟩)
 (.exit 0) (fun (g:A0)=>⟨[(6,.vec 0)],[(0,vecO 1 az3 g 2)],[],1⟩)
 (fun g=>let h:=c.Joints.getD ((g.2.2.2).toNat) default;let i:=([h.Lo]:A0);let j:=([h.Hi]:A0);let k:=g.2.2.1.length+i.length;let m:=g.2.2.1.length+j.length;.br (decide (g.2.2.2<(c.Joints.length:Int)))
 (.cut 0 (fun (n:(A0×Int×A0))=>⟨[(2,.ptr 0 0),(5,.ptr 1 0),(6,.vec 2),(7,pz g.2.2.2)],[e,(1,.box [.pure (encL 1 az3 n.1),pz n.2.1]),(2,vecO 1 az3 n.2.2 2)],[],3⟩)
 (.gh g.2.2.2 c.Joints.length<|
 .gh g.2.2.2 c.Joints.length<|
 .call (azj g.1 g.2.1 6) [(0,1)] fun n=>
 .br (n.1==0)
 (.conv 10002 (cz5 1 az3 i 2)<|
 .conv 10003 (dzi 1 az3 g.2.2.1 i 2)<|
 .grd (k * 8≤140737488355328/\k≤maxLen)<|
 .oo (n.2.1,n.2.2,(g.2.2.1++i)))
 (.br (n.1==1)
 (.conv 12002 (cz5 1 az3 j 2)<|
 .conv 12003 (dzi 1 az3 g.2.2.1 j 2)<|
 .grd (m * 8≤140737488355328/\m≤maxLen)<|
 .oo (n.2.1,n.2.2,(g.2.2.1++j)))
 (.name 8005 ((i64.wrap ((h.Hi)- (h.Lo)))) fun s=>
 .name 8006 ((i64.wrap (s+1))) fun t=>
 .call (azj n.2.1 n.2.2 t) [(0,1)] fun w=>let y:=([(i64.wrap ((h.Lo)+w.1))]:A0);let z:=g.2.2.1.length+y.length;
 .conv 8009 (cz5 1 az3 y 2)<|
 .conv 8010 (dzi 1 az3 g.2.2.1 y 2)<|
 .grd (z * 8≤140737488355328/\z≤maxLen)<|
 .oo (w.2.1,w.2.2,(g.2.2.1++y))))) fun n=>
 .nn (n.1,n.2.1,n.2.2,(i64.wrap (g.2.2.2+1))))
 (.oo g.2.2.1))
 (f.1,f.2,nl,0) [] fun g=>
 .ret g
noncomputable def nzo (c)(d):=
 mkD Tryz.func20 (uz7 c d) 0 [.pure (dzb c),.pure (encL 1 az3 d)] [] (fun _=>.vec 0) (fun r=>[(0,vecO 1 az3 r 2)])
noncomputable def ozn (c:A0)(d:A0)(e:Int):T (azb×A1×Int):=
 .cc (xz6 c) fun f=>let g:Nat×Res:=(5,.box [.pure (encL 12 azd f.Robot.Joints),.pure (encL 5 azg f.Robot.Masses),.pure (encL 3 azh f.Shapes),.pure (encL 2 azo f.Skips)]);
 .cc (lz2 d) fun h=>
 .cc (nzo f.Robot d) fun i=>let j:=([i]:A1);
 .conv 3004 (cz5 1 (encL 1 az3) j 53)<|
 .call (azj h.1 h.2 4) [(0,512)] fun k=>
 .loop (fun (m:(A0×Int×A1×Int))=>⟨[(2,pz e),(6,.ptr 0 0),(9,.ptr 5 0),(10,.ptr 6 0),(11,.vec 7),(12,pz m.2.2.2)],[(0,.box [.vec 1,.vec 2,.vec 3,.vec 4]),(1,.nilv),(2,.nilv),(3,.nilv),(4,.nilv),g,(6,.box [.pure (encL 1 az3 m.1),pz m.2.1]),(7,vecO 1 (encL 1 az3) m.2.2.1 53)],[],8⟩)
 (.exit 0) (fun (m:A1)=>⟨[(2,pz e),(6,.ptr 0 0),(9,.ptr 5 0),(11,.vec 6)],[(0,.box [.vec 1,.vec 2,.vec 3,.vec 4]),(1,.nilv),(2,.nilv),(3,.nilv),(4,.nilv),g,(6,vecO 1 (encL 1 az3) m 53)],[],7⟩)
 (fun m=>let n:=m.2.2.1.getD ((0:Int).toNat) default;.br (decide (m.2.2.2>0))
 (.call (azj m.1 m.2.1 99) [(0,6)] fun s=>
 .call (azj s.2.1 s.2.2 1073741824) [(0,6)] fun t=>
 .call (azj t.2.1 t.2.2 99) [(0,6)] fun w=>
 .call (azj w.2.1 w.2.2 1073741824) [(0,6)] fun y=>
 .call (azj y.2.1 y.2.2 99) [(0,6)] fun z=>
 .call (azj z.2.1 z.2.2 1073741824) [(0,6)] fun aa=>let ab:=([s.1,t.1,w.1,y.1,z.1,aa.1]:A0);
 .conv 7014 (cz5 1 az3 ab 3)<|
 .cc (nzo f.Robot ab) fun ac=>
 .conv 8000 (cz5 1 az3 ([1,16,64]:A0) 2)<|
 .call (azj aa.2.1 aa.2.2 3) [(0,6)] fun ad=>let ae:Nat×Res:=(6,.box [.pure (encL 1 az3 ad.2.1),pz ad.2.2]);let af:=([1,16,64]:A0).getD ((ad.1).toNat) default;
 .gg ad.1 (([1,16,64]:A0).length)<|
 .loop (fun (ag:A2)=>⟨[(2,pz e),(6,.ptr 0 0),(9,.ptr 5 0),(10,.ptr 6 0),(11,.vec 7),(12,pz m.2.2.2),(13,.vec 8),(14,pz af),(15,pz ag.2)],[(0,.box [.vec 1,.vec 2,.vec 3,.vec 4]),(1,.nilv),(2,.nilv),(3,.nilv),(4,.nilv),g,ae,(7,vecO 1 (encL 1 az3) m.2.2.1 53),(8,vecO 1 az3 ag.1 2)],[],9⟩)
 (.exit 2) (fun (ag:A0)=>⟨[(2,pz e),(6,.ptr 0 0),(9,.ptr 5 0),(10,.ptr 6 0),(11,.vec 7),(12,pz m.2.2.2),(13,.vec 8)],[(0,.box [.vec 1,.vec 2,.vec 3,.vec 4]),(1,.nilv),(2,.nilv),(3,.nilv),(4,.nilv),g,ae,(7,vecO 1 (encL 1 az3) m.2.2.1 53),(8,vecO 1 az3 ag 2)],[],9⟩)
 (fun ag=>let ah:=(ag.2).toNat;let ai:=n.getD ah default;.br (decide (ag.2<(ag.1.length:Int)))
 (.gg (0:Int) m.2.2.1.length<|
 .gh ag.2 (n.length)<|
 .gg ag.2 ag.1.length<|
 .gg (0:Int) m.2.2.1.length<|
 .gh ag.2 (n.length)<|
 .name 12018 ((i64.wrap ((ag.1.getD ah default)-ai))) fun aj=>
 .grd (af≠0)<|
 .name 12021 ((i64.wrap (ai+(i64.wrap (aj.tdiv af))))) fun ak=>
 .gh ag.2 ag.1.length<|
 .conv 12023 (hz1 1 az3 ag.1 2 ah ak)<|
 .gi (ag.2) ag.1.length<|
 .nn ((ag.1.set ah ak),(i64.wrap (ag.2+1))))
 (.oo ag.1))
 (ac,0) [] fun ag=>let ah:=([ag]:A1);let ai:=m.2.2.1.length+ah.length;
 .conv 13002 (cz5 1 (encL 1 az3) ah 53)<|
 .conv 13003 (dzi 1 (encL 1 az3) m.2.2.1 ah 53)<|
 .grd (ai * 24≤140737488355328/\ai≤maxLen)<|
 .nn (ad.2.1,ad.2.2,(m.2.2.1++ah),(i64.wrap (m.2.2.2-1))))
 (.oo m.2.2.1))
 (k.2.1,k.2.2,j,(i64.wrap (1+k.1))) [] fun m=>
 .cc (bzi e 5) fun n=>
 .ret (f,m,n)
noncomputable def ozm (c)(d)(e):=
 mkD Tryz.func6 (ozn c d e) 0 [.pure (encL 1 az3 c),.pure (encL 1 az3 d),pz e] [] (fun r=>.tup [.pure (bzd r.1),.vec 0,pz r.2.2]) (fun r=>[(0,vecO 1 (encL 1 az3) r.2.1 53)])
noncomputable def nzc (c:Int):T Bool:=
 .br (decide (97≤c))
 (.ret (decide (c≤122)))
 (.ret false)
noncomputable def wz8 (c):=
 mkD Tryz.func159 (nzc c) 0 [.pure (.int .i32 c)] [] (fun r=>.pure (.bool r)) (fun _=>[])
noncomputable def pzg (c:Int):T Bool:=
 .br (decide (48≤c))
 (.ret (decide (c≤57)))
 (.ret false)
noncomputable def yzt (c):=
 mkD Tryz.func160 (pzg c) 0 [.pure (.int .i32 c)] [] (fun r=>.pure (.bool r)) (fun _=>[])
noncomputable def yzs (c:ByteArray):T Bool:=let d:=(c.size:Nat);.cut 2 (fun (e:Bool)=>⟨[(0,.pure (.str c)),(16,.pure (.bool e))],[],[],0⟩)
 (.br ((d:Int)==0)
 (.oo true)
 (.br (decide ((d:Int)>16))
 (.oo true)
 (.oo (c==(⟨#[119,111,114,108,100]⟩:ByteArray))))) fun e=>
 .br e
 (.ret false)
 (.loop (fun (f:Nat)=>⟨[(18,.ptr 0 0)],[(0,.iter c f)],[],1⟩)
 (.exit 0) (fun (_:U0)=>⟨[],[],[],0⟩)
 (fun f=>let g:=Utf8.decode c f;let h:=(g.1:Int);.brP (f<c.size)
 (.cut 2 (fun (i:Bool)=>⟨[(18,.ptr 0 0),(38,.pure (.bool i))],[(0,.iter c (f+g.2))],[],1⟩)
 (.cc (wz8 h) fun i=>
 .br (!i)
 (.br ((f:Int)==0)
 (.oo true)
 (.cc (yzt h) fun j=>
 .br (!j)
 (.oo (h !=95))
 (.oo false)))
 (.oo false)) fun i=>
 .br i
 (.ff false)
 (.nn (f+g.2)))
 (.oo .u))
 0 [] fun _=>
 .ret true)
noncomputable def Gz0 (c):=
 mkD Tryz.func129 (yzs c) 0 [.pure (.str c)] [] (fun r=>.pure (.bool r)) (fun _=>[])
noncomputable def yzh (c:azm)(d:ByteArray):T Int:=let e:=(c.Joints.length:Nat);.loop (fun (f:Int)=>⟨[(1,.pure (.str d)),(2,.ptr 0 0),(8,pz (e:Int)),(9,pz f)],[(0,.box [.pure (encL 12 azd c.Joints),.pure (encL 5 azg c.Masses)])],[],1⟩)
 (.exit 0) (fun (_:U0)=>⟨[],[],[],0⟩)
 (fun f=>.br (decide (f<(e:Int)))
 (.gh f c.Joints.length<|
 .br (((c.Joints.getD (f.toNat) default).Name)==d)
 (.ff f)
 (.nn (i64.wrap (f+1))))
 (.oo .u))
 0 [] fun _=>
 .ret (-1)
noncomputable def Fzv (c)(d):=
 mkD Tryz.func130 (yzh c d) 0 [.pure (dzb c),.pure (.str d)] [] (fun r=>pz r) (fun _=>[])
noncomputable def szc (c:Al):T Bool:=
 .loop (fun (d:Int)=>⟨[(5,.pure (az1 c)),(6,pz d)],[],[],0⟩)
 (.exit 0) (fun (_:U0)=>⟨[],[],[],0⟩)
 (fun d=>let e:=([c.1,c.2.1,c.2.2]:List Int).getD d.toNat 0;.br (decide (d<3))
 (.gh d 3<|
 .cut 0 (fun (f:Bool)=>⟨[(5,.pure (az1 c)),(6,pz d),(14,.pure (.bool f))],[],[],0⟩)
 (.br (decide (e<(-4194304)))
 (.oo true)
 (.oo (decide (e>4194304)))) fun f=>
 .br f
 (.ff true)
 (.nn (i64.wrap (d+1))))
 (.oo .u))
 0 [] fun _=>
 .ret false
noncomputable def szb (c):=
 mkD Tryz.func131 (szc c) 0 [.pure (az1 c)] [] (fun r=>.pure (.bool r)) (fun _=>[])
noncomputable def vza (c:Int):T Int:=
 .cut 3 (fun (d:Bool)=>⟨[(3,pz c),(4,.pure (.bool d))],[],[],0⟩)
 (.br (c==1)
 (.oo (c==1))
 (.br (c==2)
 (.oo (c==2))
 (.oo (c==3)))) fun d=>
 .br d
 (.ret 524288)
 (.cut 0 (fun (e:Bool)=>⟨[(8,.pure (.bool e))],[],[],0⟩)
 (.br (c==4)
 (.oo (c==4))
 (.br (c==5)
 (.oo (c==5))
 (.oo (c==6)))) fun e=>
 .br e
 (.ret 4194304)
 (.ret 0))
noncomputable def Dz2 (c):=
 mkD Tryz.func132 (vza c) 0 [pz c] [] (fun r=>pz r) (fun _=>[])
noncomputable def vz9 (c:Int)(d:Int):T Bool:=
 .br (decide (1≤c))
 (.ret (decide (c≤d)))
 (.ret false)
noncomputable def hzo (c)(d):=
 mkD Tryz.func133 (vz9 c d) 0 [pz c,pz d] [] (fun r=>.pure (.bool r)) (fun _=>[])
noncomputable def kzg (c:azm)(d:Int):T Int:=let e:=c.Joints.getD (d.toNat) default;let f:=e.Name;let g:=e.Kind;let h:=e.Parent;let i:Nat×Res:=(0,.box [.pure (.str f),pz g,pz h,pz (e.Offset.1),pz (e.Offset.2.1),pz (e.Offset.2.2),pz (e.Lo),pz (e.Hi),pz (e.Weight),pz (e.Speed),pz (e.Accel),pz (e.Torque)]);.gh d c.Joints.length<|
 .cut 1 (fun (j:Bool)=>⟨[(1,pz d),(5,.ptr 0 0),(12,.pure (.bool j))],[i],[],1⟩)
 (.cc (Gz0 f) fun j=>
 .br (!j)
 (.oo true)
 (.cc (Fzv (⟨c.Joints,c.Masses⟩:azm) f) fun k=>
 .oo (k !=d))) fun j=>
 .br j
 (.ret 802)
 (.cut 0 (fun (k:Bool)=>⟨[(1,pz d),(5,.ptr 0 0),(25,.pure (.bool k))],[i],[],1⟩)
 (.br (decide (g<0))
 (.oo true)
 (.oo (decide (g>6)))) fun k=>
 .br k
 (.ret 803)
 (.cut 0 (fun (m:Bool)=>⟨[(5,.ptr 0 0),(34,.pure (.bool m))],[i],[],1⟩)
 (.br (decide (h<(-1)))
 (.oo true)
 (.oo (decide (h≥d)))) fun m=>
 .br m
 (.ret 804)
 (.cc (szb (e.Offset)) fun n=>
 .br n
 (.ret 805)
 (.cc (Dz2 g) fun s=>
 .cut 1 (fun (t:Bool)=>⟨[(5,.ptr 0 0),(68,.pure (.bool t))],[i],[],1⟩)
 (.br (decide ((e.Lo)>(e.Hi)))
 (.oo true)
 (.br (decide ((e.Lo)<(i64.wrap (0-s))))
 (.oo true)
 (.oo (decide ((e.Hi)>s))))) fun t=>
 .br t
 (.ret 806)
 (.cut 1 (fun (w:Bool)=>⟨[(90,.pure (.bool w))],[],[],0⟩)
 (.cc (hzo (e.Weight) 1024) fun w=>
 .br (!w)
 (.oo true)
 (.cc (hzo (e.Speed) 1048576) fun y=>
 .br (!y)
 (.oo true)
 (.cc (hzo (e.Accel) 1048576) fun z=>
 .br (!z)
 (.oo true)
 (.cc (hzo (e.Torque) 1099511627776) fun aa=>
 .oo (!aa))))) fun w=>
 .br w
 (.ret 807)
 (.ret 0))))))
noncomputable def qzg (c)(d):=
 mkD Tryz.func98 (kzg c d) 0 [.pure (dzb c),pz d] [] (fun r=>pz r) (fun _=>[])
noncomputable def lzm (c:azm)(d:cz2):T Bool:=
 .br (decide (0≤d.Link))
 (.br (decide (d.Link<(c.Joints.length:Int)))
 (.cc (hzo d.Mass 65536) fun e=>
 .br e
 (.cc (szb d.Point) fun f=>
 .ret (!f))
 (.ret false))
 (.ret false))
 (.ret false)
noncomputable def tz8 (c)(d):=
 mkD Tryz.func101 (lzm c d) 0 [.pure (dzb c),.pure (azg d)] [] (fun r=>.pure (.bool r)) (fun _=>[])
noncomputable def pz6 (c:cz2)(d:A3)(e:A4):T (Bool×A3×A4):=
 .cc (tz8 (⟨d,e⟩:azm) (⟨c.Link,c.Mass,c.Point⟩:cz2)) fun f=>
 .ret ((!f),d,e)
noncomputable def yzg (c)(d)(e):=
 mkD Tryz.func100 (pz6 c d e) 1 [.pure (azg c),.ptr 0 0] [(0,.box [.pure (encL 12 azd d),.pure (encL 5 azg e)])] (fun r=>.pure (.bool r.1)) (fun r=>[(0,.box [.pure (encL 12 azd r.2.1),.pure (encL 5 azg r.2.2)])])
noncomputable def czs (c:A4)(d:A3)(e:A4):T (Int×A3×A4):=let f:=(c.length:Nat);.loop (fun (g:(A3×A4×Int))=>⟨[(0,.pure (encL 5 azg c)),(1,.func 100 [] [.ptr 0 0]),(7,pz (f:Int)),(8,pz g.2.2)],[(0,.box [.pure (encL 12 azd g.1),.pure (encL 5 azg g.2.1)])],[],1⟩)
 (.exit 0) (fun (g:(A3×A4))=>⟨[],[(0,.box [.pure (encL 12 azd g.1),.pure (encL 5 azg g.2)])],[],1⟩)
 (fun g=>.br (decide (g.2.2<(f:Int)))
 (.gh g.2.2 c.length<|
 .call (yzg (c.getD ((g.2.2).toNat) default) g.1 g.2.1) [(0,0)] fun h=>
 .br h.1
 (.ff (g.2.2,h.2.1,h.2.2))
 (.nn (h.2.1,h.2.2,(i64.wrap (g.2.2+1)))))
 (.oo (g.1,g.2.1)))
 (d,e,0) [] fun g=>
 .ret ((-1),g.1,g.2)
noncomputable def ezl (c)(d)(e):=
 mkD Tryz.func134 (czs c d e) 1 [.pure (encL 5 azg c),.func 100 [] [.ptr 0 0]] [(0,.box [.pure (encL 12 azd d),.pure (encL 5 azg e)])] (fun r=>pz r.1) (fun r=>[(0,.box [.pure (encL 12 azd r.2.1),.pure (encL 5 azg r.2.2)])])
noncomputable def czb (c:A4)(d:A3)(e:A4):T (Bool×A3×A4):=
 .call (ezl c d e) [(0,0)] fun f=>
 .ret ((decide (f.1≥0)),f.2.1,f.2.2)
noncomputable def dzy (c)(d)(e):=
 mkD Tryz.func99 (czb c d e) 1 [.pure (encL 5 azg c),.func 100 [] [.ptr 0 0]] [(0,.box [.pure (encL 12 azd d),.pure (encL 5 azg e)])] (fun r=>.pure (.bool r.1)) (fun r=>[(0,.box [.pure (encL 12 azd r.2.1),.pure (encL 5 azg r.2.2)])])
noncomputable def vz8 (c:azm):T Int:=let d:=(c.Joints.length:Int);let e:Nat×Res:=(0,.box [.pure (encL 12 azd c.Joints),.pure (encL 5 azg c.Masses)]);.cut 2 (fun (f:Bool)=>⟨[(1,.ptr 0 0),(14,.pure (.bool f))],[e],[],1⟩)
 (.br (d==0)
 (.oo true)
 (.oo (decide (d>10)))) fun f=>
 .br f
 (.ret 801)
 (.loop (fun (g:Int)=>⟨[(1,.ptr 0 0),(17,pz d),(18,pz g)],[e],[],1⟩)
 (.exit 0) (fun (_:U0)=>⟨[(1,.ptr 0 0)],[e],[],1⟩)
 (fun g=>.br (decide (g<d))
 (.cc (qzg (⟨c.Joints,c.Masses⟩:azm) g) fun h=>
 .br (h !=0)
 (.ff h)
 (.nn (i64.wrap (g+1))))
 (.oo .u))
 0 [] fun _=>
 .cut 1 (fun (g:Bool)=>⟨[(37,.pure (.bool g))],[],[],0⟩)
 (.br (decide ((c.Masses.length:Int)>32))
 (.oo true)
 (.call (dzy c.Masses c.Joints c.Masses) [(0,0)] fun g=>
 .oo g.1)) fun g=>
 .br g
 (.ret 808)
 (.ret 0))
noncomputable def nzu (c):=
 mkD Tryz.func68 (vz8 c) 0 [.pure (dzb c)] [] (fun r=>pz r) (fun _=>[])
noncomputable def szd (c:azb)(d:Int):T Bool:=
 .br (decide ((-1)≤d))
 (.ret (decide (d<(c.Robot.Joints.length:Int))))
 (.ret false)
noncomputable def mz4 (c)(d):=
 mkD Tryz.func78 (szd c d) 0 [.pure (bzd c),pz d] [] (fun r=>.pure (.bool r)) (fun _=>[])
noncomputable def kzh (c:azb)(d:azw):T Int:=let e:=encL 3 az1 d.Points;let f:=(d.Points.length:Int);.cut 3 (fun (g:Bool)=>⟨[(3,.ptr 0 0),(35,.pure (.bool g))],[(0,.box [pz d.Link,pz d.Radius,.pure e])],[],1⟩)
 (.cc (mz4 c d.Link) fun g=>
 .br (!g)
 (.oo true)
 (.br (decide (d.Radius<1))
 (.oo true)
 (.br (decide (d.Radius>1048576))
 (.oo true)
 (.br (decide (f<1))
 (.oo true)
 (.oo (decide (f>8))))))) fun g=>
 .br g
 (.ret 902)
 (.loop (fun (h:Int)=>⟨[(37,.pure e),(38,pz f),(39,pz h)],[],[],0⟩)
 (.exit 0) (fun (_:U0)=>⟨[],[],[],0⟩)
 (fun h=>let i:=d.Points.getD (h.toNat) default;.br (decide (h<f))
 (.gh h d.Points.length<|
 .loop (fun (j:Int)=>⟨[(37,.pure e),(38,pz f),(39,pz h),(43,.pure (az1 i)),(44,pz j)],[],[],0⟩)
 (.exit 2) (fun (_:U0)=>⟨[(37,.pure e),(38,pz f),(39,pz h)],[],[],0⟩)
 (fun j=>.br (decide (j<3))
 (.gh j 3<|
 .name 9000 ((([i.1,i.2.1,i.2.2]:List Int).getD j.toNat 0)) fun k=>
 .cut 0 (fun (m:Bool)=>⟨[(37,.pure e),(38,pz f),(39,pz h),(43,.pure (az1 i)),(44,pz j),(52,.pure (.bool m))],[],[],0⟩)
 (.br (decide (k<(-4194304)))
 (.oo true)
 (.oo (decide (k>4194304)))) fun m=>
 .br m
 (.ff (.fin 805))
 (.nn (i64.wrap (j+1))))
 (.oo .u))
 0 [] fun _=>
 .nn (i64.wrap (h+1)))
 (.oo .u))
 0 [] fun _=>
 .ret 0)
noncomputable def qzi (c)(d):=
 mkD Tryz.func77 (kzh c d) 0 [.pure (bzd c),.pure (azh d)] [] (fun r=>pz r) (fun _=>[])
noncomputable def vzb (c:azb):T Int:=let d:=encL 2 azo c.Skips;let e:=encL 3 azh c.Shapes;let f:=(c.Skips.length:Int);let g:=(c.Shapes.length:Int);let h:Nat×Res:=(0,.box [.pure (encL 12 azd c.Robot.Joints),.pure (encL 5 azg c.Robot.Masses),.pure e,.pure d]);.cc (nzu c.Robot) fun i=>
 .br (i !=0)
 (.ret i)
 (.br (decide (g>24))
 (.ret 901)
 (.loop (fun (j:Int)=>⟨[(1,.ptr 0 0),(20,.pure e),(21,pz g),(22,pz j)],[h],[],1⟩)
 (.exit 0) (fun (_:U0)=>⟨[(1,.ptr 0 0)],[h],[],1⟩)
 (fun j=>.br (decide (j<g))
 (.gh j c.Shapes.length<|
 .cc (qzi c (c.Shapes.getD (j.toNat) default)) fun k=>
 .br (k !=0)
 (.ff k)
 (.nn (i64.wrap (j+1))))
 (.oo .u))
 0 [] fun _=>
 .br (decide (f>64))
 (.ret 903)
 (.loop (fun (j:Int)=>⟨[(1,.ptr 0 0),(38,.pure d),(39,pz f),(40,pz j)],[h],[],1⟩)
 (.exit 2) (fun (_:U0)=>⟨[],[],[],0⟩)
 (fun j=>let k:=c.Skips.getD (j.toNat) default;.br (decide (j<f))
 (.gh j c.Skips.length<|
 .cut 0 (fun (m:Bool)=>⟨[(1,.ptr 0 0),(38,.pure d),(39,pz f),(40,pz j),(55,.pure (.bool m))],[h],[],1⟩)
 (.cc (mz4 c (k.A)) fun m=>
 .br (!m)
 (.oo true)
 (.cc (mz4 c (k.B)) fun n=>
 .oo (!n))) fun m=>
 .br m
 (.ff 903)
 (.nn (i64.wrap (j+1))))
 (.oo .u))
 0 [] fun _=>
 .ret 0)))
noncomputable def ezb (c):=
 mkD Tryz.func50 (vzb c) 0 [.pure (bzd c)] [] (fun r=>pz r) (fun _=>[])
noncomputable def kzu (c:azt)(d:Int):T Bool:=
 .br (decide (c.Lo≤d))
 (.ret (decide (d≤c.Hi)))
 (.ret false)
noncomputable def szo (c)(d):=
 mkD Tryz.func80 (kzu c d) 0 [.pure (azd c),pz d] [] (fun r=>.pure (.bool r)) (fun _=>[])
noncomputable def dzt (c:A3)(d:A0):T Bool:=let e:=(c.length:Int);.br (e !=(d.length:Int))
 (.ret false)
 (.loop (fun (f:Int)=>⟨[(1,.pure (encL 1 az3 d)),(2,.func 80 [] []),(14,.pure (encL 12 azd c)),(15,pz e),(16,pz f)],[],[],0⟩)
 (.exit 0) (fun (_:U0)=>⟨[],[],[],0⟩)
 (fun f=>.br (decide (f<e))
 (.gh f c.length<|
 .gh f d.length<|
 .cc (szo (c.getD (f.toNat) default) (d.getD (f.toNat) default)) fun g=>
 .br (!g)
 (.ff false)
 (.nn (i64.wrap (f+1))))
 (.oo .u))
 0 [] fun _=>
 .ret true)
noncomputable def fzy (c)(d):=
 mkD Tryz.func79 (dzt c d) 0 [.pure (encL 12 azd c),.pure (encL 1 az3 d),.func 80 [] []] [] (fun r=>.pure (.bool r)) (fun _=>[])
noncomputable def oza (c:azm)(d:A0):T Bool:=
 .cc (nzu c) fun e=>
 .br (e==0)
 (.cc (fzy c.Joints d) fun f=>
 .ret f)
 (.ret false)
noncomputable def fzm (c)(d):=
 mkD Tryz.func51 (oza c d) 0 [.pure (dzb c),.pure (encL 1 az3 d)] [] (fun r=>.pure (.bool r)) (fun _=>[])
noncomputable def kz1 (c:azb)(d:A1):T Ah:=let e:=(d.length:Int);let f:=encL 1 (encL 1 az3) d;let g:Nat×Res:=(0,.box [.pure (encL 12 azd c.Robot.Joints),.pure (encL 5 azg c.Robot.Masses),.pure (encL 3 azh c.Shapes),.pure (encL 2 azo c.Skips)]);.cc (ezb c) fun h=>
 .br (h !=0)
 (.ret (0,904))
 (.cut 1 (fun (i:Bool)=>⟨[(1,.pure f),(2,.ptr 0 0),(18,.pure (.bool i))],[g],[],1⟩)
 (.br (decide (e<2))
 (.oo true)
 (.oo (decide (e>256)))) fun i=>
 .br i
 (.ret (0,2201))
 (.loop (fun (j:Int)=>⟨[(2,.ptr 0 0),(19,.pure f),(20,pz e),(21,pz j)],[g],[],1⟩)
 (.exit 0) (fun (_:U0)=>⟨[],[],[],0⟩)
 (fun j=>.br (decide (j<e))
 (.gh j d.length<|
 .cc (fzm c.Robot (d.getD (j.toNat) default)) fun k=>
 .br (!k)
 (.ff (j,1201))
 (.nn (i64.wrap (j+1))))
 (.oo .u))
 0 [] fun _=>
 .ret (0,0)))
noncomputable def kz0 (c)(d):=
 mkD Tryz.func24 (kz1 c d) 0 [.pure (bzd c),.pure (encL 1 (encL 1 az3) d)] [] (fun r=>.tup [pz r.1,pz r.2]) (fun _=>[])
noncomputable def mzq (c:Int):T Bool:=
 .br (decide (c<(-2147483648)))
 (.ret true)
 (.ret (decide (c>2147483648)))
noncomputable def vzr (c):=
 mkD Tryz.func97 (mzq c) 0 [pz c] [] (fun r=>.pure (.bool r)) (fun _=>[])
noncomputable def dzz (c:A0):T Int:=let d:=(c.length:Nat);.loop (fun (e:Int)=>⟨[(0,.pure (encL 1 az3 c)),(1,.func 97 [] []),(7,pz (d:Int)),(8,pz e)],[],[],0⟩)
 (.exit 0) (fun (_:U0)=>⟨[],[],[],0⟩)
 (fun e=>.br (decide (e<(d:Int)))
 (.gh e c.length<|
 .cc (vzr (c.getD (e.toNat) default)) fun f=>
 .br f
 (.ff e)
 (.nn (i64.wrap (e+1))))
 (.oo .u))
 0 [] fun _=>
 .ret (-1)
noncomputable def gz1 (c):=
 mkD Tryz.func128 (dzz c) 0 [.pure (encL 1 az3 c),.func 97 [] []] [] (fun r=>pz r) (fun _=>[])
noncomputable def dzd (c:A0):T Bool:=
 .cc (gz1 c) fun d=>
 .ret (decide (d≥0))
noncomputable def fz6 (c):=
 mkD Tryz.func96 (dzd c) 0 [.pure (encL 1 az3 c),.func 97 [] []] [] (fun r=>.pure (.bool r)) (fun _=>[])
noncomputable def rz0 (c:A0):T Bool:=
 .cc (fz6 c) fun d=>
 .ret (!d)
noncomputable def iz5 (c):=
 mkD Tryz.func67 (rz0 c) 0 [.pure (encL 1 az3 c)] [] (fun r=>.pure (.bool r)) (fun _=>[])
noncomputable def kzv (c:A0)(d:A0)(e:Int):T Bool:=
 .br ((c.length:Int)==(d.length:Int))
 (.cc (iz5 c) fun f=>
 .br f
 (.cc (iz5 d) fun g=>
 .br g
 (.br (decide (0≤e))
 (.ret (decide (e≤20)))
 (.ret false))
 (.ret false))
 (.ret false))
 (.ret false)
noncomputable def szp (c)(d)(e):=
 mkD Tryz.func110 (kzv c d e) 0 [.pure (encL 1 az3 c),.pure (encL 1 az3 d),pz e] [] (fun r=>.pure (.bool r)) (fun _=>[])
noncomputable def tzp (c:Int)(d:Int):T Int:=
 .grd (0≤d)<|
 .ret (c.fdiv (2 ^ (min d.toNat 64)))
noncomputable def tzo (c)(d):=
 mkD Tryz.func113 (tzp c d) 0 [pz c,pz d] [] (fun r=>pz r) (fun _=>[])
noncomputable def mzp (c:Int)(d:Int)(e:Int)(f:Int):T (az0×Int×Int):=let g:=i64.wrap (d-c);let h:=i64.wrap (e * g);let i:=i64.wrap ((i64.wrap (e+1)) * g);.name 2003 ((min h i)) fun j=>
 .cc (tzo j f) fun k=>
 .name 2010 ((max h i)) fun m=>
 .cc (tzo (i64.wrap (0-m)) f) fun n=>
 .ret ((⟨(i64.wrap (c+k)),(i64.wrap (c-n))⟩:az0),e,f)
noncomputable def vzq (c)(d)(e)(f):=
 mkD Tryz.func112 (mzp c d e f) 2 [pz c,pz d,.ptr 0 0,.ptr 1 0] [(0,.box [pz e]),(1,.box [pz f])] (fun r=>.pure (az7 r.1)) (fun r=>[(0,.box [pz r.2.1]),(1,.box [pz r.2.2])])
noncomputable def cz7 (c:A0)(d:A0)(e:Int)(f:Int):T (A7×Int×Int):=let g:=(c.length:Int);.conv 1002 (Lzt 2 az7 167 g.toNat (⟨0,0⟩:az0))<|
 .grd (0≤g/\g≤g/\g≤9223372036854775807/\g * 16≤140737488355328)<|
 .loop (fun (h:(Int×Int×A7×Int))=>⟨[(1,.pure (encL 1 az3 d)),(2,.func 112 [] [.ptr 0 0,.ptr 1 0]),(7,.vec 2),(13,.pure (encL 1 az3 c)),(14,pz g),(15,pz h.2.2.2)],[(0,.box [pz h.1]),(1,.box [pz h.2.1]),(2,vecO 2 az7 h.2.2.1 167)],[],3⟩)
 (.exit 0) (fun (h:(Int×Int×A7))=>⟨[(7,.vec 2)],[(0,.box [pz h.1]),(1,.box [pz h.2.1]),(2,vecO 2 az7 h.2.2 167)],[],3⟩)
 (fun h=>let i:=(h.2.2.2).toNat;.br (decide (h.2.2.2<g))
 (.gh h.2.2.2 c.length<|
 .gh h.2.2.2 d.length<|
 .call (vzq (c.getD i default) (d.getD i default) h.1 h.2.1) [(0,0),(1,1)] fun j=>
 .gh h.2.2.2 h.2.2.1.length<|
 .conv 5010 (hz1 2 az7 h.2.2.1 167 i j.1)<|
 .gi (h.2.2.2) h.2.2.1.length<|
 .nn (j.2.1,j.2.2,(h.2.2.1.set i j.1),(i64.wrap (h.2.2.2+1))))
 (.oo (h.1,h.2.1,h.2.2.1)))
 (e,f,(List.replicate g.toNat ((⟨0,0⟩:az0):az0)),0) [] fun h=>
 .ret (h.2.2,h.1,h.2.1)
noncomputable def dzp (c)(d)(e)(f):=
 mkD Tryz.func111 (cz7 c d e f) 2 [.pure (encL 1 az3 c),.pure (encL 1 az3 d),.func 112 [] [.ptr 0 0,.ptr 1 0]] [(0,.box [pz e]),(1,.box [pz f])] (fun r=>.pure (encL 2 az7 r.1)) (fun r=>[(0,.box [pz r.2.1]),(1,.box [pz r.2.2])])
noncomputable def qzy (c:A0)(d:A0)(e:Int)(f:Int):T (A7×Bool):=
 .cut 2 (fun (g:Bool)=>⟨[(0,.pure (encL 1 az3 c)),(1,.pure (encL 1 az3 d)),(6,.ptr 0 0),(7,.ptr 1 0),(24,.pure (.bool g))],[(0,.box [pz e]),(1,.box [pz f])],[],2⟩)
 (.cc (szp c d e) fun g=>
 .br (!g)
 (.oo true)
 (.br (decide (f<0))
 (.oo true)
 (.grd (0≤e)<|
 .oo (decide (f≥(i64.wrap (1 * 2 ^ (min e.toNat 64)))))))) fun g=>
 .br g
 (.ret (nl,false))
 (.call (dzp c d f e) [(0,1),(1,0)] fun h=>
 .ret (h.1,true))
noncomputable def lzs (c)(d)(e)(f):=
 mkD Tryz.func83 (qzy c d e f) 0 [.pure (encL 1 az3 c),.pure (encL 1 az3 d),pz e,pz f] [] (fun r=>.tup [.pure (encL 2 az7 r.1),.pure (.bool r.2)]) (fun _=>[])
noncomputable def mzt (c:az0):T Bool:=
 .br (decide ((-2147483648)≤c.Lo))
 (.br (decide (c.Lo≤c.Hi))
 (.ret (decide (c.Hi≤2147483648)))
 (.ret false))
 (.ret false)
noncomputable def bzw (c):=
 mkD Tryz.func145 (mzt c) 0 [.pure (az7 c)] [] (fun r=>.pure (.bool r)) (fun _=>[])
noncomputable def nz9 (c:azm):T A0:=let d:=encL 12 azd c.Joints;let e:=(c.Joints.length:Int);let f:=i64.wrap (e+1);let g:=List.replicate f.toNat (0:Int);.conv 1004 (Lzt 1 az3 3 f.toNat 0)<|
 .grd (0≤f/\f≤f/\f≤9223372036854775807/\f * 8≤140737488355328)<|
 .gh (0:Int) (g.length)<|
 .conv 2002 (hz1 1 az3 g 3 ((0:Int).toNat) (-1))<|
 .gi (0:Int) (g.length)<|
 .loop (fun (h:A2)=>⟨[(3,.vec 0),(14,.pure d),(15,pz e),(16,pz h.2)],[(0,vecO 1 az3 h.1 3)],[],1⟩)
 (.exit 0) (fun (h:A0)=>⟨[(3,.vec 0)],[(0,vecO 1 az3 h 3)],[],1⟩)
 (fun h=>let i:=i64.wrap (h.2+1);let j:=i.toNat;let k:=h.1.set j h.2;let m:=k.length;let n:=c.Joints.getD ((h.2).toNat) default;let s:=i64.wrap ((n.Parent)+1);.br (decide (h.2<e))
 (.cut 0 (fun (t:A0)=>⟨[(3,.vec 0),(14,.pure d),(15,pz e),(16,pz h.2)],[(0,vecO 1 az3 t 3)],[],1⟩)
 (.gh h.2 c.Joints.length<|
 .gh i h.1.length<|
 .conv 6005 (hz1 1 az3 h.1 3 j h.2)<|
 .gi (i) h.1.length<|
 .br ((n.Lo)==(n.Hi))
 (.gg s m<|
 .name 8008 ((k.getD (s.toNat) default)) fun t=>
 .gh i m<|
 .conv 8010 (hz1 1 az3 k 3 j t)<|
 .gi (i) m<|
 .oo (k.set j t))
 (.oo k)) fun t=>
 .nn (t,i))
 (.oo h.1))
 ((g.set ((0:Int).toNat) (-1)),0) [] fun h=>
 .ret h
noncomputable def wz6 (c):=
 mkD Tryz.func180 (nz9 c) 0 [.pure (dzb c)] [] (fun r=>.pure (encL 1 az3 r)) (fun _=>[])
noncomputable def pz8 (c:azb)(d:Int)(e:Int):T Bool:=let f:=encL 2 azo c.Skips;let g:=(c.Skips.length:Int);.loop (fun (h:Int)=>⟨[(1,pz d),(2,pz e),(10,.pure f),(11,pz g),(12,pz h)],[],[],0⟩)
 (.exit 0) (fun (_:U0)=>⟨[],[],[],0⟩)
 (fun h=>let i:=c.Skips.getD (h.toNat) default;.br (decide (h<g))
 (.gh h c.Skips.length<|
 .cut 0 (fun (j:Bool)=>⟨[(1,pz d),(2,pz e),(10,.pure f),(11,pz g),(12,pz h),(27,.pure (.bool j))],[],[],0⟩)
 (.br (((i.A)==d)&&(((i.B)==e)&&true))
 (.oo true)
 (.oo (((i.A)==e)&&(((i.B)==d)&&true)))) fun j=>
 .br j
 (.ff true)
 (.nn (i64.wrap (h+1))))
 (.oo .u))
 0 [] fun _=>
 .ret false
noncomputable def yzl (c)(d)(e):=
 mkD Tryz.func181 (pz8 c d e) 0 [.pure (bzd c),pz d,pz e] [] (fun r=>.pure (.bool r)) (fun _=>[])
noncomputable def vzc (c:azb):T A8:=let d:=encL 3 azh c.Shapes;let e:=(c.Shapes.length:Int);let f:Nat×Res:=(0,.box [.pure (encL 12 azd c.Robot.Joints),.pure (encL 5 azg c.Robot.Masses),.pure d,.pure (encL 2 azo c.Skips)]);.cc (ezb c) fun g=>
 .br (g !=0)
 (.ret nl)
 (.cc (wz6 c.Robot) fun h=>let i:=encL 1 az3 h;
 .loop (fun (j:A9)=>⟨[(1,.ptr 0 0),(3,.pure i),(4,.vec 1),(17,.pure d),(18,pz e),(19,pz j.2)],[f,(1,vecO 2 dza j.1 213)],[],2⟩)
 (.exit 0) (fun (j:A8)=>⟨[(4,.vec 0)],[(0,vecO 2 dza j 213)],[],1⟩)
 (fun j=>let k:=c.Shapes.getD ((j.2).toNat) default;let m:=k.Link;let n:=i64.wrap (m+1);let s:=i64.wrap (j.2+1);let t:Nat×Res:=(2,.box [pz m,pz (k.Radius),.pure (encL 3 az1 (k.Points))]);.br (decide (j.2<e))
 (.gh j.2 c.Shapes.length<|
 .loop (fun (w:A9)=>⟨[(1,.ptr 0 0),(3,.pure i),(4,.vec 1),(5,pz j.2),(6,.ptr 2 0),(7,pz w.2),(17,.pure d),(18,pz e),(19,pz j.2)],[f,(1,vecO 2 dza w.1 213),t],[],3⟩)
 (.exit 2) (fun (w:A8)=>⟨[(1,.ptr 0 0),(3,.pure i),(4,.vec 1),(17,.pure d),(18,pz e),(19,pz j.2)],[f,(1,vecO 2 dza w 213)],[],2⟩)
 (fun w=>let y:=([(⟨j.2,w.2⟩:bzt)]:A8);let z:=w.1.length+y.length;let aa:=(c.Shapes.getD ((w.2).toNat) default).Link;let ab:=i64.wrap (aa+1);.br (decide (w.2<e))
 (.cut 0 (fun (ac:A8)=>⟨[(1,.ptr 0 0),(3,.pure i),(4,.vec 1),(5,pz j.2),(6,.ptr 2 0),(7,pz w.2),(17,.pure d),(18,pz e),(19,pz j.2)],[f,(1,vecO 2 dza ac 213),t],[],3⟩)
 (.gh w.2 c.Shapes.length<|
 .gh n h.length<|
 .gh ab h.length<|
 .name 12011 ((h.getD (ab.toNat) default)) fun ac=>
 .cut 0 (fun (ad:Bool)=>⟨[(1,.ptr 0 0),(3,.pure i),(4,.vec 1),(5,pz j.2),(6,.ptr 2 0),(7,pz w.2),(17,.pure d),(18,pz e),(19,pz j.2),(61,.pure (.bool ad))],[f,(1,vecO 2 dza w.1 213),t],[],3⟩)
 (.br (!((h.getD (n.toNat) default)==ac))
 (.cc (yzl c m aa) fun ad=>
 .oo (!ad))
 (.oo false)) fun ad=>
 .br ad
 (.conv 14004 (cz5 2 dza y 213)<|
 .conv 14005 (dzi 2 dza w.1 y 213)<|
 .grd (z * 16≤140737488355328/\z≤maxLen)<|
 .oo (w.1++y))
 (.oo w.1)) fun ac=>
 .nn (ac,(i64.wrap (w.2+1))))
 (.oo w.1))
 (j.1,s) [] fun w=>
 .nn (w,s))
 (.oo j.1))
 (nl,0) [] fun j=>
 .ret j)
noncomputable def Dz4 (c):=
 mkD Tryz.func146 (vzc c) 0 [.pure (bzd c)] [] (fun r=>.pure (encL 2 dza r)) (fun _=>[])
noncomputable def hzw (c:az0):T Bool:=
 .cc (bzw c) fun d=>
 .ret (!d)
noncomputable def nzf (c):=
 mkD Tryz.func226 (hzw c) 0 [.pure (az7 c)] [] (fun r=>.pure (.bool r)) (fun _=>[])
noncomputable def cz1 (c:A7):T Int:=let d:=(c.length:Nat);.loop (fun (e:Int)=>⟨[(0,.pure (encL 2 az7 c)),(1,.func 226 [] []),(7,pz (d:Int)),(8,pz e)],[],[],0⟩)
 (.exit 0) (fun (_:U0)=>⟨[],[],[],0⟩)
 (fun e=>.br (decide (e<(d:Int)))
 (.gh e c.length<|
 .cc (nzf (c.getD (e.toNat) default)) fun f=>
 .br f
 (.ff e)
 (.nn (i64.wrap (e+1))))
 (.oo .u))
 0 [] fun _=>
 .ret (-1)
noncomputable def dz1 (c):=
 mkD Tryz.func250 (cz1 c) 0 [.pure (encL 2 az7 c),.func 226 [] []] [] (fun r=>pz r) (fun _=>[])
noncomputable def bzr (c:A7):T Bool:=
 .cc (dz1 c) fun d=>
 .ret (decide (d≥0))
noncomputable def czr (c):=
 mkD Tryz.func225 (bzr c) 0 [.pure (encL 2 az7 c),.func 226 [] []] [] (fun r=>.pure (.bool r)) (fun _=>[])
noncomputable def jzk (c:azm)(d:A7):T Bool:=
 .br ((d.length:Int)==(c.Joints.length:Int))
 (.cc (czr d) fun e=>
 .ret (!e))
 (.ret false)
noncomputable def pzv (c)(d):=
 mkD Tryz.func182 (jzk c d) 0 [.pure (dzb c),.pure (encL 2 az7 d)] [] (fun r=>.pure (.bool r)) (fun _=>[])
noncomputable def tzz (c:Int):T Int:=
 .ret (min (max c (-2147483648)) 2147483648)
noncomputable def tzy (c):=
 mkD Tryz.func289 (tzz c) 0 [pz c] [] (fun r=>pz r) (fun _=>[])
noncomputable def jzh (c:Int)(d:Int):T az0:=
 .cc (tzy c) fun e=>
 .cc (tzy d) fun f=>
 .ret (⟨e,f⟩:az0)
noncomputable def gzr (c)(d):=
 mkD Tryz.func277 (jzh c d) 0 [pz c,pz d] [] (fun r=>.pure (az7 r)) (fun _=>[])
noncomputable def uz3 (c:Int):T az0:=
 .cc (gzr c c) fun d=>
 .ret d
noncomputable def czh (c):=
 mkD Tryz.func255 (uz3 c) 0 [pz c] [] (fun r=>.pure (az7 r)) (fun _=>[])
noncomputable def rzb (c:Al):T Ar:=
 .unroll 4<|
 .known true<|
 .ix 0 3 rfl<|
 .cc (czh c.1) fun d=>
 .ix 0 3 rfl<|
 .lit 6000 (1)<|
 .known true<|
 .ix 1 3 rfl<|
 .cc (czh c.2.1) fun e=>
 .ix 1 3 rfl<|
 .lit 6000 (2)<|
 .known true<|
 .ix 2 3 rfl<|
 .cc (czh c.2.2) fun f=>
 .ix 2 3 rfl<|
 .lit 6000 (3)<|
 .known false<|
 .ret (d,e,f)
noncomputable def lzx (c):=
 mkD Tryz.func233 (rzb c) 0 [.pure (az1 c)] [] (fun r=>.pure (az2 r)) (fun _=>[])
noncomputable def matrix_Identity_T:T Av:=
 .unroll 4<|
 .known true<|
 .cc (czh 65536) fun c=>
 .ix 0 3 rfl<|
 .ix 0 3 rfl<|
 .lit 6000 (1)<|
 .known true<|
 .cc (czh 65536) fun d=>
 .ix 1 3 rfl<|
 .ix 1 3 rfl<|
 .lit 6000 (2)<|
 .known true<|
 .cc (czh 65536) fun e=>
 .ix 2 3 rfl<|
 .ix 2 3 rfl<|
 .lit 6000 (3)<|
 .known false<|
 .ret ((c,(⟨0,0⟩:az0),(⟨0,0⟩:az0)),((⟨0,0⟩:az0),d,(⟨0,0⟩:az0)),((⟨0,0⟩:az0),(⟨0,0⟩:az0),e))
noncomputable def matrix_Identity_C:CallS Av:=
 mkD Tryz.func254 (matrix_Identity_T) 0 [] [] (fun r=>.pure (bz9 r)) (fun _=>[])
noncomputable def xzl (c:Ar):T azr:=
 .cc (matrix_Identity_C) fun d=>
 .ret (⟨d,c⟩:azr)
noncomputable def qz5 (c):=
 mkD Tryz.func229 (xzl c) 0 [.pure (az2 c)] [] (fun r=>.pure (bzg r)) (fun _=>[])
noncomputable def fzp (c:Int):T Int:=
 .cut 3 (fun (d:Bool)=>⟨[(0,pz c),(2,.ptr 0 0),(3,pz c),(4,.pure (.bool d))],[(0,.box [.any])],[],1⟩)
 (.br (c==1)
 (.oo (c==1))
 (.br (c==2)
 (.oo (c==2))
 (.oo (c==3)))) fun d=>
 .br d
 (.ret (i64.wrap (c-1)))
 (.cut 0 (fun (e:Bool)=>⟨[(0,pz c),(2,.ptr 0 0),(12,.pure (.bool e))],[(0,.box [.any])],[],1⟩)
 (.br (c==4)
 (.oo (c==4))
 (.br (c==5)
 (.oo (c==5))
 (.oo (c==6)))) fun e=>
 .br e
 (.stop)
 (.stop))
noncomputable def fzo (c):=
 mkD Tryz.func251 (fzp c) 0 [pz c] [] (fun r=>.agg [.func 268 [pz r] []]) (fun _=>[])
noncomputable def fzr (c:Int):T Int:=
 .cut 3 (fun (d:Bool)=>⟨[(0,pz c),(2,.ptr 0 0),(3,pz c),(4,.pure (.bool d))],[(0,.box [.any])],[],1⟩)
 (.br (c==1)
 (.oo (c==1))
 (.br (c==2)
 (.oo (c==2))
 (.oo (c==3)))) fun d=>
 .br d
 (.stop)
 (.cut 0 (fun (e:Bool)=>⟨[(0,pz c),(2,.ptr 0 0),(12,.pure (.bool e))],[(0,.box [.any])],[],1⟩)
 (.br (c==4)
 (.oo (c==4))
 (.br (c==5)
 (.oo (c==5))
 (.oo (c==6)))) fun e=>
 .br e
 (.ret (i64.wrap (c-4)))
 (.stop))
noncomputable def fzq (c):=
 mkD Tryz.func251 (fzr c) 0 [pz c] [] (fun r=>.agg [.func 269 [pz r] []]) (fun _=>[])
noncomputable def fzs (c:Int):T Int:=
 .cut 3 (fun (d:Bool)=>⟨[(0,pz c),(2,.ptr 0 0),(3,pz c),(4,.pure (.bool d))],[(0,.box [.any])],[],1⟩)
 (.br (c==1)
 (.oo (c==1))
 (.br (c==2)
 (.oo (c==2))
 (.oo (c==3)))) fun d=>
 .br d
 (.stop)
 (.cut 0 (fun (e:Bool)=>⟨[(0,pz c),(2,.ptr 0 0),(12,.pure (.bool e))],[(0,.box [.any])],[],1⟩)
 (.br (c==4)
 (.oo (c==4))
 (.br (c==5)
 (.oo (c==5))
 (.oo (c==6)))) fun e=>
 .br e
 (.stop)
 (.ret 0))
noncomputable def jz3 (c):=
 mkD Tryz.func251 (fzs c) 0 [pz c] [] (fun r=>.agg [.func 270 [pz r] []]) (fun _=>[])
noncomputable def pose_still_T:T Ar:=
 .cc (lzx (0,0,0)) fun c=>
 .ret c
noncomputable def pose_still_C:CallS Ar:=
 mkD Tryz.func230 (pose_still_T) 0 [] [] (fun r=>.pure (az2 r)) (fun _=>[])
noncomputable def pose_Identity_T:T azr:=
 .cc (pose_still_C) fun c=>
 .cc (qz5 c) fun d=>
 .ret d
noncomputable def pose_Identity_C:CallS azr:=
 mkD Tryz.func184 (pose_Identity_T) 0 [] [] (fun r=>.pure (bzg r)) (fun _=>[])
noncomputable def Azl (_a0:Int)(_a1:az0):T azr:=
 .cc (pose_Identity_C) fun c=>
 .ret c
noncomputable def Hz7 (c)(d):=
 mkD Tryz.func270 (Azl c d) 0 [pz c,.pure (az7 d)] [] (fun r=>.pure (bzg r)) (fun _=>[])
noncomputable def mzc (c:azr):T B7:=
 .ret (c.R.1.1.Lo,c.R.1.1.Hi,c.R.1.2.1.Lo,c.R.1.2.1.Hi,c.R.1.2.2.Lo,c.R.1.2.2.Hi,c.R.2.1.1.Lo,c.R.2.1.1.Hi,c.R.2.1.2.1.Lo,c.R.2.1.2.1.Hi,c.R.2.1.2.2.Lo,c.R.2.1.2.2.Hi,c.R.2.2.1.Lo,c.R.2.2.1.Hi,c.R.2.2.2.1.Lo,c.R.2.2.2.1.Hi,c.R.2.2.2.2.Lo,c.R.2.2.2.2.Hi,c.T.1.Lo,c.T.1.Hi,c.T.2.1.Lo,c.T.2.1.Hi,c.T.2.2.Lo,c.T.2.2.Hi)
noncomputable def qz6 (c):=
 mkD Tryz.func252 (mzc c) 0 [.pure (bzg c)] [] (fun _=>.func 271 [] [.ptr 0 0]) (fun r=>[(0,.box [pz r.1,pz r.2.1,pz r.2.2.1,pz r.2.2.2.1,pz r.2.2.2.2.1,pz r.2.2.2.2.2.1,pz r.2.2.2.2.2.2.1,pz r.2.2.2.2.2.2.2.1,pz r.2.2.2.2.2.2.2.2.1,pz r.2.2.2.2.2.2.2.2.2.1,pz r.2.2.2.2.2.2.2.2.2.2.1,pz r.2.2.2.2.2.2.2.2.2.2.2.1,pz r.2.2.2.2.2.2.2.2.2.2.2.2.1,pz r.2.2.2.2.2.2.2.2.2.2.2.2.2.1,pz r.2.2.2.2.2.2.2.2.2.2.2.2.2.2.1,pz r.2.2.2.2.2.2.2.2.2.2.2.2.2.2.2.1,pz r.2.2.2.2.2.2.2.2.2.2.2.2.2.2.2.2.1,pz r.2.2.2.2.2.2.2.2.2.2.2.2.2.2.2.2.2.1,pz r.2.2.2.2.2.2.2.2.2.2.2.2.2.2.2.2.2.2.1,pz r.2.2.2.2.2.2.2.2.2.2.2.2.2.2.2.2.2.2.2.1,pz r.2.2.2.2.2.2.2.2.2.2.2.2.2.2.2.2.2.2.2.2.1,pz r.2.2.2.2.2.2.2.2.2.2.2.2.2.2.2.2.2.2.2.2.2.1,pz r.2.2.2.2.2.2.2.2.2.2.2.2.2.2.2.2.2.2.2.2.2.2.1,pz r.2.2.2.2.2.2.2.2.2.2.2.2.2.2.2.2.2.2.2.2.2.2.2])])
noncomputable def mzw (c:az0)(d:az0):T Bool:=
 .cc (bzw c) fun e=>
 .br e
 (.cc (bzw d) fun f=>
 .ret f)
 (.ret false)
noncomputable def izm (c)(d):=
 mkD Tryz.func287 (mzw c d) 0 [.pure (az7 c),.pure (az7 d)] [] (fun r=>.pure (.bool r)) (fun _=>[])
noncomputable def kzz (c:Int)(d:Int):T Int:=
 .br (decide (d<0))
 (.ret c)
 (.grd (0≤d)<|
 .ret (c.fdiv (2 ^ (min d.toNat 64))))
noncomputable def bz2 (c)(d):=
 mkD Tryz.func202 (kzz c d) 0 [pz c,pz d] [] (fun r=>pz r) (fun _=>[])
noncomputable def oze (c:Int)(d:Int):T Int:=let e:=min d.toNat 64;let f:=c.fdiv (2 ^ e);.br (decide (d<0))
 (.ret c)
 (.grd (0≤d)<|
 .cut 0 (fun (g:Int)=>⟨[(5,pz g)],[],[],0⟩)
 (.grd (0≤d)<|
 .br ((i64.wrap (f * 2 ^ e)) !=c)
 (.oo (i64.wrap (f+1)))
 (.oo f)) fun g=>
 .ret g)
noncomputable def bz8 (c)(d):=
 mkD Tryz.func238 (oze c d) 0 [pz c,pz d] [] (fun r=>pz r) (fun _=>[])
noncomputable def lz0 (c:Int)(d:Int):T az0:=
 .cc (bz2 c 16) fun e=>
 .cc (bz8 d 16) fun f=>
 .cc (gzr e f) fun g=>
 .ret g
noncomputable def szu (c)(d):=
 mkD Tryz.func288 (lz0 c d) 0 [pz c,pz d] [] (fun r=>.pure (az7 r)) (fun _=>[])
noncomputable def rz8 (c:az0)(d:az0):T az0:=let e:=i64.wrap (c.Lo * d.Lo);let f:=i64.wrap (c.Lo * d.Hi);let g:=i64.wrap (c.Hi * d.Lo);let h:=i64.wrap (c.Hi * d.Hi);.cc (izm (⟨c.Lo,c.Hi⟩:az0) (⟨d.Lo,d.Hi⟩:az0)) fun i=>
 .br (!i)
 (.ret (⟨0,0⟩:az0))
 (.ix 0 4 rfl<|
 .ix 0 4 rfl<|
 .loop (fun (j:Al)=>⟨[(4,.ptr 0 0),(6,pz j.1),(7,pz j.2.1),(40,.pure (Hzp (e,f,g,h))),(41,pz j.2.2)],[(0,.box [pz 0,pz 0])],[],1⟩)
 (.exit 0) (fun (j:Ah)=>⟨[(4,.ptr 0 0),(6,pz j.1),(7,pz j.2)],[(0,.box [pz 0,pz 0])],[],1⟩)
 (fun j=>.br (decide (j.2.2<4))
 (.gh j.2.2 4<|
 .name 7000 ((([e,f,g,h]:List Int).getD (j.2.2).toNat 0)) fun k=>
 .nn ((min j.1 k),(max j.2.1 k),(i64.wrap (j.2.2+1))))
 (.oo (j.1,j.2.1)))
 (e,e,0) [] fun j=>
 .cc (szu j.1 j.2) fun k=>
 .ret k)
noncomputable def azl (c)(d):=
 mkD Tryz.func275 (rz8 c d) 0 [.pure (az7 c),.pure (az7 d)] [] (fun r=>.pure (az7 r)) (fun _=>[])
noncomputable def rz4 (c:az0)(d:az0):T az0:=
 .cc (izm c d) fun e=>
 .br (!e)
 (.ret (⟨0,0⟩:az0))
 (.cc (gzr (i64.wrap (c.Lo+d.Lo)) (i64.wrap (c.Hi+d.Hi))) fun f=>
 .ret f)
noncomputable def azi (c)(d):=
 mkD Tryz.func274 (rz4 c d) 0 [.pure (az7 c),.pure (az7 d)] [] (fun r=>.pure (az7 r)) (fun _=>[])
noncomputable def mzz (c:Int):T Int:=
 .ret (min (max c (-65536)) 65536)
noncomputable def bz0 (c):=
 mkD Tryz.func276 (mzz c) 0 [pz c] [] (fun r=>pz r) (fun _=>[])
end Go.Abs
