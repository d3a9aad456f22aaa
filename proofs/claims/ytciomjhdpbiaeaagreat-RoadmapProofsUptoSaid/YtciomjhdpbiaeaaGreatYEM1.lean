/-
  M1 (a part of a claim: our own text).
-/
import Derived.Test.YtciomjhdpbiaeaaGreatYERngF
import Derived.Test.YtciomjhdpbiaeaaGreatChecked
namespace Go.Abs
open IntKind (i64)
open Go.Proofs
abbrev pz (x:Int):AVal:=.pure (.int .i64 x)
theorem hd:izf Tryz.prog az0o:=Tz9 (by kernel_rfl)
noncomputable abbrev mkD {R:Type}{f:FuncId}{fn:Func}(hf:Tryz.prog.funcs[f]?=some fn)(t:T R)(k:Nat)(args:List AVal)(m:Mem)(res:R->AVal)(m1:R->Mem)(hb:(fn.body.isSome&& !(fn.name== "runtime.NumGoroutine"))=true:=by kernel_rfl)(h:(yz9 Tryz.prog [] az0o fn (fn.body.getD .skip) k k t args m res m1).side true=(yz9 Tryz.prog [] az0o fn (fn.body.getD .skip) k k t args m res m1).side false:=by kernel_rfl):CallS R:=mkC [] hd hf hb t k args m res m1 h
abbrev T.gg {R:Type}(i:Int)(n:Nat)(k:T R):T R:=.grd (0≤i/\i<(n:Int)) (.grd (i.toNat<n) k)
abbrev T.gh {R:Type}(i:Int)(n:Nat)(k:T R):T R:=.grd (0≤i/\i<(n:Int)) k
abbrev T.gi {R:Type}(i:Int)(n:Nat)(k:T R):T R:=.grd (i.toNat<n/\0≤i.toNat) k
abbrev T.oo {σ τ R:Type}(y:τ):T (Step3 σ τ R):=.ret (.out y)
abbrev T.nn {σ τ R:Type}(x:σ):T (Step3 σ τ R):=.ret (.next x)
abbrev T.ff {σ τ R:Type}(r:R):T (Step3 σ τ R):=.ret (.fin r)
abbrev T.cc {R α:Type}(c:CallS α)(k:α->T R):T R:=.call c [] k
structure Lz6 where
 list:(List Int)
 next:Int
instance:Inhabited Lz6:=⟨⟨default,default⟩⟩
structure azo where
 Name:ByteArray
 Kind:Int
 Parent:Int
 Offset:(Int×Int×Int)
 Lo:Int
 Hi:Int
 Weight:Int
 Speed:Int
 Accel:Int
 Torque:Int
instance:Inhabited azo:=⟨⟨default,default,default,default,default,default,default,default,default,default⟩⟩
structure cze where
 Link:Int
 Mass:Int
 Point:(Int×Int×Int)
instance:Inhabited cze:=⟨⟨default,default,default⟩⟩
structure azf where
 Joints:(List azo)
 Masses:(List cze)
instance:Inhabited azf:=⟨⟨default,default⟩⟩
structure bz8 where
 Link:Int
 Radius:Int
 Points:(List (Int×Int×Int))
instance:Inhabited bz8:=⟨⟨default,default,default⟩⟩
structure nzw where
 A:Int
 B:Int
instance:Inhabited nzw:=⟨⟨default,default⟩⟩
structure azd where
 Robot:azf
 Shapes:(List bz8)
 Skips:(List nzw)
instance:Inhabited azd:=⟨⟨default,default,default⟩⟩
structure azh where
 Depth:Int
 Index:Int
 Normals:(List (Int×Int×Int))
instance:Inhabited azh:=⟨⟨default,default,default⟩⟩
structure azu where
 Pair:Int
 Left:(List Int)
 Right:(List Int)
instance:Inhabited azu:=⟨⟨default,default,default⟩⟩
structure azg where
 Kind:Int
 Pieces:(List azh)
 At:azh
 Witness:azu
instance:Inhabited azg:=⟨⟨default,default,default,default⟩⟩
structure az4 where
 U:Int
 V:Int
 Cost:Int
 State:Int
 Proof:azg
instance:Inhabited az4:=⟨⟨default,default,default,default,default⟩⟩
structure azk where
 Points:(List (List Int))
 Edges:(List az4)
instance:Inhabited azk:=⟨⟨default,default⟩⟩
structure azq where
 depth:Int
 index:Int
 hints:(List (Int×Int×Int))
instance:Inhabited azq:=⟨⟨default,default,default⟩⟩
structure az0 where
 Lo:Int
 Hi:Int
instance:Inhabited az0:=⟨⟨default,default⟩⟩
structure azt where
 points:(List (az0×az0×az0))
 radius:Int
instance:Inhabited azt:=⟨⟨default,default⟩⟩
structure azr where
 R:((az0×az0×az0)×(az0×az0×az0)×(az0×az0×az0))
 T:(az0×az0×az0)
instance:Inhabited azr:=⟨⟨default,default⟩⟩
structure bzx where
 A:Int
 B:Int
instance:Inhabited bzx:=⟨⟨default,default⟩⟩
structure gz6 where
 Kind:Int
 Normals:(List (Int×Int×Int))
 Witness:azu
instance:Inhabited gz6:=⟨⟨default,default,default⟩⟩
structure ez2 where
 Kind:Int
 Normal:(Int×Int×Int)
 Left:(List Int)
 Right:(List Int)
 Steps:Int
instance:Inhabited ez2:=⟨⟨default,default,default,default,default⟩⟩
structure bz3 where
 Point:Int
 Axis:Int
 Low:Int
 High:Int
instance:Inhabited bz3:=⟨⟨default,default,default,default⟩⟩
structure dz0 where
 joints:(List azo)
 points:(List (List Int))
 tree:(List bz3)
 q:(List Int)
instance:Inhabited dz0:=⟨⟨default,default,default,default⟩⟩
structure azz where
 scene:azd
 p:(List Int)
 q:(List Int)
 pieces:(List azh)
instance:Inhabited azz:=⟨⟨default,default,default,default⟩⟩
structure cz5 where
 normals:(List (Int×Int×Int))
instance:Inhabited cz5:=⟨⟨default⟩⟩
structure bzb where
 shapes:(List bz8)
 pairs:(List bzx)
 points:(List (List (az0×az0×az0)))
instance:Inhabited bzb:=⟨⟨default,default,default⟩⟩
structure fz6 where
 a:(List (az0×az0×az0))
 b:(List (az0×az0×az0))
 ra:Int
 rb:Int
instance:Inhabited fz6:=⟨⟨default,default,default,default⟩⟩
structure ezt where
 points:(List (az0×az0×az0))
 radius:Int
instance:Inhabited ezt:=⟨⟨default,default⟩⟩
structure dz9 where
 a:ezt
 b:ezt
instance:Inhabited dz9:=⟨⟨default,default⟩⟩
structure czd where
 witness:azu
instance:Inhabited czd:=⟨⟨default⟩⟩
abbrev A0:=List Int
abbrev A1:=List A0
abbrev A2:=A0×A0
abbrev A3:=A0×Int
abbrev A4:=List azo
abbrev A5:=List cze
abbrev A6:=List bz8
abbrev A7:=List az4
abbrev A8:=A7×Int
abbrev A9:=List az0
abbrev Aa:=List azr
abbrev Ab:=List bzx
abbrev Ac:=Ab×Int
abbrev Ad:=List azt
abbrev Ae:=List azq
abbrev Af:=List azh
abbrev Ag:=List bz3
abbrev Ah:=Int×Int
abbrev Ai:=List Ah
abbrev Aj:=Ai×Int
abbrev Al:=List (Ah×Bool)
abbrev Am:=Int×Bool
abbrev An:=A0×Int×A6
abbrev Ao:=A0×A1×Int
abbrev Ap:=A1×Int×A0
abbrev Aq:=Int×A0×A0
abbrev Ar:=A0×A0×Int
abbrev As:=A0×Int×Int
abbrev Au:=A1×Int×Int
abbrev Av:=Ai×Int×Int
abbrev Aw:=Int×Int×Int
abbrev Ax:=List Aw
abbrev Ay:=Aw×Bool
abbrev Az:=az0×az0×az0
abbrev B0:=List Az
abbrev B1:=List B0
abbrev B2:=Az×Az×Az
abbrev B3:=A1×Int×Bool
abbrev B4:=Int×Int×Bool
abbrev B5:=Int×A0×A1×Ag
abbrev B6:=A0×Int×A6×Int
abbrev B7:=A0×Int×A0×Int
abbrev B8:=A1×Int×A0×Int
abbrev B9:=Int×Int×A1×Int
abbrev Ba:=Int×Int×Int×Int
abbrev Bb:=A1×Int×A0×Int×Int
abbrev Bc:=Int×Int×Int×Int×Int
abbrev Bd:=Int×Int×Int×Int×Int×Int
abbrev Be:=A4×A1×Ag×A0×A0×A0×Int
abbrev Bf:=Int×Int×Int×Int×Int×Int×Int
abbrev Bg:=Int×Int×Int×Int×Int×Int×Int×Int×Int×Int
abbrev Bh:=Bg×Bool
abbrev Bi:=Int×Int×Int×Int×Int×Int×Int×Int×Int×Int×Int
abbrev Bj:=Int×Int×Int×Int×Int×Int×Int×Int×Int×Int×Int×Int×Int×Int×Int×Int×Int×Int×Int×Int×Int×Int×Int×Int
def az9 (v:azo):PVal:=.agg [.str v.Name,.int .i64 v.Kind,.int .i64 v.Parent,.int .i64 v.Offset.1,.int .i64 v.Offset.2.1,.int .i64 v.Offset.2.2,.int .i64 v.Lo,.int .i64 v.Hi,.int .i64 v.Weight,.int .i64 v.Speed,.int .i64 v.Accel,.int .i64 v.Torque]
def aze (v:cze):PVal:=.agg [.int .i64 v.Link,.int .i64 v.Mass,.int .i64 v.Point.1,.int .i64 v.Point.2.1,.int .i64 v.Point.2.2]
def bzg (v:azf):PVal:=.agg [encL 12 az9 v.Joints,encL 5 aze v.Masses]
def az3 (v:Aw):PVal:=.agg [.int .i64 v.1,.int .i64 v.2.1,.int .i64 v.2.2]
def azj (v:bz8):PVal:=.agg [.int .i64 v.Link,.int .i64 v.Radius,encL 3 az3 v.Points]
def azw (v:nzw):PVal:=.agg [.int .i64 v.A,.int .i64 v.B]
def cz6 (v:azd):PVal:=.agg [encL 12 az9 v.Robot.Joints,encL 5 aze v.Robot.Masses,encL 3 azj v.Shapes,encL 2 azw v.Skips]
def azx (v:azh):PVal:=.agg [.int .i64 v.Depth,.int .i64 v.Index,encL 3 az3 v.Normals]
def Azk (v:azu):PVal:=.agg [.int .i64 v.Pair,encL 1 az1 v.Left,encL 1 az1 v.Right]
def ezc (v:azg):PVal:=.agg [.int .i64 v.Kind,encL 3 azx v.Pieces,.int .i64 v.At.Depth,.int .i64 v.At.Index,encL 3 az3 v.At.Normals,.int .i64 v.Witness.Pair,encL 1 az1 v.Witness.Left,encL 1 az1 v.Witness.Right]
def az6 (v:az4):PVal:=.agg [.int .i64 v.U,.int .i64 v.V,.int .i64 v.Cost,.int .i64 v.State,.int .i64 v.Proof.Kind,encL 3 azx v.Proof.Pieces,.int .i64 v.Proof.At.Depth,.int .i64 v.Proof.At.Index,encL 3 az3 v.Proof.At.Normals,.int .i64 v.Proof.Witness.Pair,encL 1 az1 v.Proof.Witness.Left,encL 1 az1 v.Proof.Witness.Right]
def czq (v:azk):PVal:=.agg [encL 1 (encL 1 az1) v.Points,encL 12 az6 v.Edges]
def gz8 (v:azq):PVal:=.agg [.int .i64 v.depth,.int .i64 v.index,encL 3 az3 v.hints]
def az7 (v:az0):PVal:=.agg [.int .i64 v.Lo,.int .i64 v.Hi]
def az2 (v:Az):PVal:=.agg [.int .i64 v.1.Lo,.int .i64 v.1.Hi,.int .i64 v.2.1.Lo,.int .i64 v.2.1.Hi,.int .i64 v.2.2.Lo,.int .i64 v.2.2.Hi]
def bzn (v:azt):PVal:=.agg [encL 6 az2 v.points,.int .i64 v.radius]
def bzj (v:azr):PVal:=.agg [.int .i64 v.R.1.1.Lo,.int .i64 v.R.1.1.Hi,.int .i64 v.R.1.2.1.Lo,.int .i64 v.R.1.2.1.Hi,.int .i64 v.R.1.2.2.Lo,.int .i64 v.R.1.2.2.Hi,.int .i64 v.R.2.1.1.Lo,.int .i64 v.R.2.1.1.Hi,.int .i64 v.R.2.1.2.1.Lo,.int .i64 v.R.2.1.2.1.Hi,.int .i64 v.R.2.1.2.2.Lo,.int .i64 v.R.2.1.2.2.Hi,.int .i64 v.R.2.2.1.Lo,.int .i64 v.R.2.2.1.Hi,.int .i64 v.R.2.2.2.1.Lo,.int .i64 v.R.2.2.2.1.Hi,.int .i64 v.R.2.2.2.2.Lo,.int .i64 v.R.2.2.2.2.Hi,.int .i64 v.T.1.Lo,.int .i64 v.T.1.Hi,.int .i64 v.T.2.1.Lo,.int .i64 v.T.2.1.Hi,.int .i64 v.T.2.2.Lo,.int .i64 v.T.2.2.Hi]
def dzi (v:bzx):PVal:=.agg [.int .i64 v.A,.int .i64 v.B]
def Qzl (v:gz6):PVal:=.agg [.int .i64 v.Kind,encL 3 az3 v.Normals,.int .i64 v.Witness.Pair,encL 1 az1 v.Witness.Left,encL 1 az1 v.Witness.Right]
def Qzk (v:ez2):PVal:=.agg [.int .i64 v.Kind,.int .i64 v.Normal.1,.int .i64 v.Normal.2.1,.int .i64 v.Normal.2.2,encL 1 az1 v.Left,encL 1 az1 v.Right,.int .i64 v.Steps]
def bz4 (v:Bg):List PVal:=[.int .i64 v.1,.int .i64 v.2.1,.int .i64 v.2.2.1,.int .i64 v.2.2.2.1,.int .i64 v.2.2.2.2.1,.int .i64 v.2.2.2.2.2.1,.int .i64 v.2.2.2.2.2.2.1,.int .i64 v.2.2.2.2.2.2.2.1,.int .i64 v.2.2.2.2.2.2.2.2.1,.int .i64 v.2.2.2.2.2.2.2.2.2]
def azp (v:bz3):PVal:=.agg [.int .i64 v.Point,.int .i64 v.Axis,.int .i64 v.Low,.int .i64 v.High]
def oza (v:dz0):PVal:=.agg [encL 12 az9 v.joints,encL 1 (encL 1 az1) v.points,encL 4 azp v.tree,encL 1 az1 v.q]
def az5 (v:Ah):PVal:=.agg [.int .i64 v.1,.int .i64 v.2]
def cza (v:Ah):List PVal:=[.int .i64 v.1,.int .i64 v.2]
def fz5 (v:azz):PVal:=.agg [encL 12 az9 v.scene.Robot.Joints,encL 5 aze v.scene.Robot.Masses,encL 3 azj v.scene.Shapes,encL 2 azw v.scene.Skips,encL 1 az1 v.p,encL 1 az1 v.q,encL 3 azx v.pieces]
def izo (v:cz5):PVal:=.agg [encL 3 az3 v.normals]
def gzm (v:bzb):PVal:=.agg [encL 3 azj v.shapes,encL 2 dzi v.pairs,encL 1 (encL 6 az2) v.points]
def Hzt (v:Ba):PVal:=.agg [.int .i64 v.1,.int .i64 v.2.1,.int .i64 v.2.2.1,.int .i64 v.2.2.2]
def Azl (v:fz6):PVal:=.agg [encL 6 az2 v.a,encL 6 az2 v.b,.int .i64 v.ra,.int .i64 v.rb]
def Jzw (v:ezt):PVal:=.agg [encL 6 az2 v.points,.int .i64 v.radius]
def ozb (v:dz9):PVal:=.agg [encL 6 az2 v.a.points,.int .i64 v.a.radius,encL 6 az2 v.b.points,.int .i64 v.b.radius]
def kz0 (v:czd):PVal:=.agg [.int .i64 v.witness.Pair,encL 1 az1 v.witness.Left,encL 1 az1 v.witness.Right]
def bza (v:B2):PVal:=.agg [.int .i64 v.1.1.Lo,.int .i64 v.1.1.Hi,.int .i64 v.1.2.1.Lo,.int .i64 v.1.2.1.Hi,.int .i64 v.1.2.2.Lo,.int .i64 v.1.2.2.Hi,.int .i64 v.2.1.1.Lo,.int .i64 v.2.1.1.Hi,.int .i64 v.2.1.2.1.Lo,.int .i64 v.2.1.2.1.Hi,.int .i64 v.2.1.2.2.Lo,.int .i64 v.2.1.2.2.Hi,.int .i64 v.2.2.1.Lo,.int .i64 v.2.2.1.Hi,.int .i64 v.2.2.2.1.Lo,.int .i64 v.2.2.2.1.Hi,.int .i64 v.2.2.2.2.Lo,.int .i64 v.2.2.2.2.Hi]
def hzi (v:Bi):PVal:=.agg [.int .i64 v.1,.int .i64 v.2.1,.int .i64 v.2.2.1,.int .i64 v.2.2.2.1,.int .i64 v.2.2.2.2.1,.int .i64 v.2.2.2.2.2.1,.int .i64 v.2.2.2.2.2.2.1,.int .i64 v.2.2.2.2.2.2.2.1,.int .i64 v.2.2.2.2.2.2.2.2.1,.int .i64 v.2.2.2.2.2.2.2.2.2.1,.int .i64 v.2.2.2.2.2.2.2.2.2.2]
theorem az0s:GuardFn Tryz.prog 29:=
 dzf (fn:=Tryz.f29) Tryz.func29 (by kernel_rfl) ⟨0,(gOps Tryz.f29).getD 0 default,(gOps Tryz.f29).getD 1 default,2,3,gX Tryz.f29,gC ((gOps Tryz.f29).getD 0 default),20,20,by kernel_rfl,by kernel_rfl,by kernel_rfl,by kernel_rfl,by kernel_rfl,by kernel_rfl,by kernel_rfl,by kernel_rfl,⟨gMs (Tryz.prog.underlying 20),by kernel_rfl⟩,by decide,by decide,by kernel_rfl⟩
theorem az0t:GuardFn Tryz.prog 33:=
 dzf (fn:=Tryz.f33) Tryz.func33 (by kernel_rfl) ⟨0,(gOps Tryz.f33).getD 0 default,(gOps Tryz.f33).getD 1 default,1,2,gX Tryz.f33,gC ((gOps Tryz.f33).getD 0 default),20,20,by kernel_rfl,by kernel_rfl,by kernel_rfl,by kernel_rfl,by kernel_rfl,by kernel_rfl,by kernel_rfl,by kernel_rfl,⟨gMs (Tryz.prog.underlying 20),by kernel_rfl⟩,by decide,by decide,by kernel_rfl⟩
theorem az0u:GuardFn Tryz.prog 45:=
 dzf (fn:=Tryz.f45) Tryz.func45 (by kernel_rfl) ⟨0,(gOps Tryz.f45).getD 0 default,(gOps Tryz.f45).getD 1 default,1,2,gX Tryz.f45,gC ((gOps Tryz.f45).getD 0 default),20,20,by kernel_rfl,by kernel_rfl,by kernel_rfl,by kernel_rfl,by kernel_rfl,by kernel_rfl,by kernel_rfl,by kernel_rfl,⟨gMs (Tryz.prog.underlying 20),by kernel_rfl⟩,by decide,by decide,by kernel_rfl⟩
theorem az0v:GuardFn Tryz.prog 50:=
 dzf (fn:=Tryz.f50) Tryz.func50 (by kernel_rfl) ⟨0,(gOps Tryz.f50).getD 0 default,(gOps Tryz.f50).getD 1 default,1,2,gX Tryz.f50,gC ((gOps Tryz.f50).getD 0 default),20,20,by kernel_rfl,by kernel_rfl,by kernel_rfl,by kernel_rfl,by kernel_rfl,by kernel_rfl,by kernel_rfl,by kernel_rfl,⟨gMs (Tryz.prog.underlying 20),by kernel_rfl⟩,by decide,by decide,by kernel_rfl⟩
theorem az0w:GuardFn Tryz.prog 54:=
 dzf (fn:=Tryz.f54) Tryz.func54 (by kernel_rfl) ⟨0,(gOps Tryz.f54).getD 0 default,(gOps Tryz.f54).getD 1 default,1,2,gX Tryz.f54,gC ((gOps Tryz.f54).getD 0 default),20,20,by kernel_rfl,by kernel_rfl,by kernel_rfl,by kernel_rfl,by kernel_rfl,by kernel_rfl,by kernel_rfl,by kernel_rfl,⟨gMs (Tryz.prog.underlying 20),by kernel_rfl⟩,by decide,by decide,by kernel_rfl⟩
theorem az0x:GuardFn Tryz.prog 57:=
 dzf (fn:=Tryz.f57) Tryz.func57 (by kernel_rfl) ⟨0,(gOps Tryz.f57).getD 0 default,(gOps Tryz.f57).getD 1 default,1,2,gX Tryz.f57,gC ((gOps Tryz.f57).getD 0 default),20,20,by kernel_rfl,by kernel_rfl,by kernel_rfl,by kernel_rfl,by kernel_rfl,by kernel_rfl,by kernel_rfl,by kernel_rfl,⟨gMs (Tryz.prog.underlying 20),by kernel_rfl⟩,by decide,by decide,by kernel_rfl⟩
theorem az0y:GuardFn Tryz.prog 72:=
 dzf (fn:=Tryz.f72) Tryz.func72 (by kernel_rfl) ⟨0,(gOps Tryz.f72).getD 0 default,(gOps Tryz.f72).getD 1 default,1,2,gX Tryz.f72,gC ((gOps Tryz.f72).getD 0 default),20,20,by kernel_rfl,by kernel_rfl,by kernel_rfl,by kernel_rfl,by kernel_rfl,by kernel_rfl,by kernel_rfl,by kernel_rfl,⟨gMs (Tryz.prog.underlying 20),by kernel_rfl⟩,by decide,by decide,by kernel_rfl⟩
theorem Xzz:GuardFn Tryz.prog 114:=
 dzf (fn:=Tryz.f114) Tryz.func114 (by kernel_rfl) ⟨0,(gOps Tryz.f114).getD 0 default,(gOps Tryz.f114).getD 1 default,2,3,gX Tryz.f114,gC ((gOps Tryz.f114).getD 0 default),20,20,by kernel_rfl,by kernel_rfl,by kernel_rfl,by kernel_rfl,by kernel_rfl,by kernel_rfl,by kernel_rfl,by kernel_rfl,⟨gMs (Tryz.prog.underlying 20),by kernel_rfl⟩,by decide,by decide,by kernel_rfl⟩
theorem Yz0:GuardFn Tryz.prog 119:=
 dzf (fn:=Tryz.f119) Tryz.func119 (by kernel_rfl) ⟨0,(gOps Tryz.f119).getD 0 default,(gOps Tryz.f119).getD 1 default,1,2,gX Tryz.f119,gC ((gOps Tryz.f119).getD 0 default),20,20,by kernel_rfl,by kernel_rfl,by kernel_rfl,by kernel_rfl,by kernel_rfl,by kernel_rfl,by kernel_rfl,by kernel_rfl,⟨gMs (Tryz.prog.underlying 20),by kernel_rfl⟩,by decide,by decide,by kernel_rfl⟩
theorem Yz1:GuardFn Tryz.prog 132:=
 dzf (fn:=Tryz.f132) Tryz.func132 (by kernel_rfl) ⟨0,(gOps Tryz.f132).getD 0 default,(gOps Tryz.f132).getD 1 default,1,2,gX Tryz.f132,gC ((gOps Tryz.f132).getD 0 default),20,20,by kernel_rfl,by kernel_rfl,by kernel_rfl,by kernel_rfl,by kernel_rfl,by kernel_rfl,by kernel_rfl,by kernel_rfl,⟨gMs (Tryz.prog.underlying 20),by kernel_rfl⟩,by decide,by decide,by kernel_rfl⟩
theorem Yz2:GuardFn Tryz.prog 138:=
 dzf (fn:=Tryz.f138) Tryz.func138 (by kernel_rfl) ⟨0,(gOps Tryz.f138).getD 0 default,(gOps Tryz.f138).getD 1 default,1,2,gX Tryz.f138,gC ((gOps Tryz.f138).getD 0 default),20,20,by kernel_rfl,by kernel_rfl,by kernel_rfl,by kernel_rfl,by kernel_rfl,by kernel_rfl,by kernel_rfl,by kernel_rfl,⟨gMs (Tryz.prog.underlying 20),by kernel_rfl⟩,by decide,by decide,by kernel_rfl⟩
theorem Yz3:GuardFn Tryz.prog 174:=
 dzf (fn:=Tryz.f174) Tryz.func174 (by kernel_rfl) ⟨0,(gOps Tryz.f174).getD 0 default,(gOps Tryz.f174).getD 1 default,1,2,gX Tryz.f174,gC ((gOps Tryz.f174).getD 0 default),20,20,by kernel_rfl,by kernel_rfl,by kernel_rfl,by kernel_rfl,by kernel_rfl,by kernel_rfl,by kernel_rfl,by kernel_rfl,⟨gMs (Tryz.prog.underlying 20),by kernel_rfl⟩,by decide,by decide,by kernel_rfl⟩
theorem Yz4:GuardFn Tryz.prog 209:=
 dzf (fn:=Tryz.f209) Tryz.func209 (by kernel_rfl) ⟨0,(gOps Tryz.f209).getD 0 default,(gOps Tryz.f209).getD 1 default,1,2,gX Tryz.f209,gC ((gOps Tryz.f209).getD 0 default),20,20,by kernel_rfl,by kernel_rfl,by kernel_rfl,by kernel_rfl,by kernel_rfl,by kernel_rfl,by kernel_rfl,by kernel_rfl,⟨gMs (Tryz.prog.underlying 20),by kernel_rfl⟩,by decide,by decide,by kernel_rfl⟩
theorem Yz5:GuardFn Tryz.prog 219:=
 dzf (fn:=Tryz.f219) Tryz.func219 (by kernel_rfl) ⟨0,(gOps Tryz.f219).getD 0 default,(gOps Tryz.f219).getD 1 default,1,2,gX Tryz.f219,gC ((gOps Tryz.f219).getD 0 default),20,20,by kernel_rfl,by kernel_rfl,by kernel_rfl,by kernel_rfl,by kernel_rfl,by kernel_rfl,by kernel_rfl,by kernel_rfl,⟨gMs (Tryz.prog.underlying 20),by kernel_rfl⟩,by decide,by decide,by kernel_rfl⟩
theorem Yz6:GuardFn Tryz.prog 347:=
 dzf (fn:=Tryz.f347) Tryz.func347 (by kernel_rfl) ⟨0,(gOps Tryz.f347).getD 0 default,(gOps Tryz.f347).getD 1 default,1,2,gX Tryz.f347,gC ((gOps Tryz.f347).getD 0 default),20,20,by kernel_rfl,by kernel_rfl,by kernel_rfl,by kernel_rfl,by kernel_rfl,by kernel_rfl,by kernel_rfl,by kernel_rfl,⟨gMs (Tryz.prog.underlying 20),by kernel_rfl⟩,by decide,by decide,by kernel_rfl⟩
theorem Yz7:GuardFn Tryz.prog 349:=
 dzf (fn:=Tryz.f349) Tryz.func349 (by kernel_rfl) ⟨0,(gOps Tryz.f349).getD 0 default,(gOps Tryz.f349).getD 1 default,2,3,gX Tryz.f349,gC ((gOps Tryz.f349).getD 0 default),20,20,by kernel_rfl,by kernel_rfl,by kernel_rfl,by kernel_rfl,by kernel_rfl,by kernel_rfl,by kernel_rfl,by kernel_rfl,⟨gMs (Tryz.prog.underlying 20),by kernel_rfl⟩,by decide,by decide,by kernel_rfl⟩
noncomputable def Rz4 (c:A0):T A3:=
 .ret (c,0)
noncomputable def kzg (c):=
 mkD Tryz.func12 (Rz4 c) 0 [.pure (encL 1 az1 c)] [] (fun _=>.ptr 0 0) (fun r=>[(0,.box [.pure (encL 1 az1 r.1),pz r.2])])
noncomputable def wzo (c:Int)(d:Int):T Int:=let e:=c.tmod d;.grd (d≠0)<|
 .cut 0 (fun (f:Int)=>⟨[(5,pz f)],[],[],0⟩)
 (.br (decide (e<0))
 (.oo (i64.wrap (e+d)))
 (.oo e)) fun f=>
 .ret f
noncomputable def pzv (c)(d):=
 mkD Tryz.func7 (wzo c d) 0 [pz c,pz d] [] (fun r=>pz r) (fun _=>[])
noncomputable def szz (c:A0)(d:Int)(e:Int):T (Int×A0×Int):=let f:=i64.wrap (d+1);let g:=i64.wrap (f-1);.br (decide (d≥(c.length:Int)))
 (.ret (0,c,d))
 (.gh g c.length<|
 .call (pzv (c.getD (g.toNat) default) e) [] fun h=>
 .ret (h,c,f))
noncomputable def azi (c)(d)(e):=
 mkD Tryz.func14 (szz c d e) 1 [.ptr 0 0,pz e] [(0,.box [.pure (encL 1 az1 c),pz d])] (fun r=>pz r.1) (fun r=>[(0,.box [.pure (encL 1 az1 r.2.1),pz r.2.2])])
noncomputable def izx (c:Int):T ByteArray:=let d:=i64.wrap (c+1);.grd (0≤c/\c≤d/\d≤(((⟨#[97,98,99,100,101,102,103,104,105,106]⟩:ByteArray).size:Nat):Int))<|
 .ret ((⟨#[97,98,99,100,101,102,103,104,105,106]⟩:ByteArray).extract c.toNat d.toNat)
noncomputable def gzo (c):=
 mkD Tryz.func44 (izx c) 0 [pz c] [] (fun r=>.pure (.str r)) (fun _=>[])
noncomputable def nzx (c:A0)(d:Int)(e:Int):T (Int×A0×Int):=
 .call (azi c d (i64.wrap ((i64.wrap (2 * e))+1))) [(0,0)] fun f=>
 .ret ((i64.wrap (f.1-e)),f.2.1,f.2.2)
noncomputable def bzf (c)(d)(e):=
 mkD Tryz.func16 (nzx c d e) 1 [.ptr 0 0,pz e] [(0,.box [.pure (encL 1 az1 c),pz d])] (fun r=>pz r.1) (fun r=>[(0,.box [.pure (encL 1 az1 r.2.1),pz r.2.2])])
noncomputable def lzl (c:A0)(d:Int)(e:Int):T (azo×A0×Int):=
 .cc (gzo e) fun f=>
 .call (azi c d 4) [(0,0)] fun g=>let h:=i64.wrap (1+g.1);
 .call (azi g.2.1 g.2.2 3) [(0,0)] fun i=>let j:=i64.wrap (65536+i.1);
 .call (azi i.2.1 i.2.2 8) [(0,0)] fun k=>let l:=([3,3,1,2,4,5,3,0]:List Int).getD (k.1).toNat 0;
 .gh k.1 8<|
 .cut 0 (fun (m:As)=>⟨[(0,.ptr 0 0),(1,pz e),(4,.ptr 1 0),(5,.ptr 2 0)],[(0,.box [.pure (encL 1 az1 m.1),pz m.2.1]),(1,.box [.pure (.str (⟨#[]⟩:ByteArray)),pz 0,pz 0,pz 0,pz 0,pz 0,pz 0,pz 0,pz 0,pz 0,pz 0,pz 0]),(2,.box [.pure (.str f),pz l,pz m.2.2,pz 0,pz 0,pz 0,pz 0,pz 0,pz h,pz 65536,pz j,pz 327680])],[],3⟩)
 (.call (azi k.2.1 k.2.2 4) [(0,0)] fun m=>
 .br (m.1==1)
 (.oo (m.2.1,m.2.2,(-1)))
 (.oo (m.2.1,m.2.2,(i64.wrap (e-1))))) fun m=>
 .cut 0 (fun (n:(A0×Int×Int×Int×Int))=>⟨[(0,.ptr 0 0),(4,.ptr 1 0),(5,.ptr 2 0)],[(0,.box [.pure (encL 1 az1 n.1),pz n.2.1]),(1,.box [.pure (.str (⟨#[]⟩:ByteArray)),pz 0,pz 0,pz 0,pz 0,pz 0,pz 0,pz 0,pz 0,pz 0,pz 0,pz 0]),(2,.box [.pure (.str f),pz l,pz m.2.2,pz n.2.2.1,pz n.2.2.2.1,pz n.2.2.2.2,pz 0,pz 0,pz h,pz 65536,pz j,pz 327680])],[],3⟩)
 (.br (decide (e>0))
 (.call (bzf m.1 m.2.1 2) [(0,0)] fun n=>
 .call (bzf n.2.1 n.2.2 1) [(0,0)] fun s=>
 .oo (s.2.1,s.2.2,131072,(i64.wrap (n.1 * 32768)),(i64.wrap (s.1 * 32768))))
 (.oo (m.1,m.2.1,0,0,0))) fun n=>
 .cut 0 (fun (s:(A0×Int×Int×Int))=>⟨[(4,.ptr 1 0),(5,.ptr 2 0)],[(0,.box [.pure (encL 1 az1 s.1),pz s.2.1]),(1,.box [.pure (.str (⟨#[]⟩:ByteArray)),pz 0,pz 0,pz 0,pz 0,pz 0,pz 0,pz 0,pz 0,pz 0,pz 0,pz 0]),(2,.box [.pure (.str f),pz l,pz m.2.2,pz n.2.2.1,pz n.2.2.2.1,pz n.2.2.2.2,pz s.2.2.1,pz s.2.2.2,pz h,pz 65536,pz j,pz 327680])],[],3⟩)
 (.br (l==0)
 (.oo (n.1,n.2.1,0,0))
 (.cut 0 (fun (s:Bool)=>⟨[(0,.ptr 0 0),(4,.ptr 1 0),(5,.ptr 2 0),(55,.pure (.bool s))],[(0,.box [.pure (encL 1 az1 n.1),pz n.2.1]),(1,.box [.pure (.str (⟨#[]⟩:ByteArray)),pz 0,pz 0,pz 0,pz 0,pz 0,pz 0,pz 0,pz 0,pz 0,pz 0,pz 0]),(2,.box [.pure (.str f),pz l,pz m.2.2,pz n.2.2.1,pz n.2.2.2.1,pz n.2.2.2.2,pz 0,pz 0,pz h,pz 65536,pz j,pz 327680])],[],3⟩)
 (.br (l==4)
 (.oo (l==4))
 (.oo (l==5))) fun s=>
 .br s
 (.call (azi n.1 n.2.1 3) [(0,0)] fun t=>
 .call (azi t.2.1 t.2.2 4) [(0,0)] fun w=>
 .oo (w.2.1,w.2.2,(i64.wrap ((i64.wrap (0-t.1)) * 65536)),(i64.wrap (w.1 * 32768))))
 (.call (azi n.1 n.2.1 5) [(0,0)] fun t=>
 .ok ((8:Int)≠0) (by decide)<|
 .call (azi t.2.1 t.2.2 4) [(0,0)] fun w=>
 .ok ((8:Int)≠0) (by decide)<|
 .call (azi w.2.1 w.2.2 3) [(0,0)] fun y=>
 .oo (y.2.1,y.2.2,(i64.wrap ((i64.wrap ((i64.wrap (0-t.1)) * 65536)).tdiv 8)),(i64.wrap ((i64.wrap ((i64.wrap ((i64.wrap (1+w.1)) * 65536)).tdiv 8))+y.1)))))) fun s=>
 .ret ((⟨f,l,m.2.2,(n.2.2.1,n.2.2.2.1,n.2.2.2.2),s.2.2.1,s.2.2.2,h,65536,j,327680⟩:azo),s.1,s.2.1)
noncomputable def lzk (c)(d)(e):=
 mkD Tryz.func35 (lzl c d e) 1 [.ptr 0 0,pz e] [(0,.box [.pure (encL 1 az1 c),pz d])] (fun r=>.pure (az9 r.1)) (fun r=>[(0,.box [.pure (encL 1 az1 r.2.1),pz r.2.2])])
noncomputable def lzm (c:A0)(d:Int):T (azf×A0×Int):=
 .call (azi c d 3) [(0,0)] fun e=>let f:=i64.wrap (1+e.1);
 .loop (fun (g:(A0×Int×A4×Int))=>⟨[(0,.ptr 0 0),(2,.ptr 1 0),(3,.ptr 4 0),(4,pz f),(5,pz g.2.2.2)],[(0,.box [.pure (encL 1 az1 g.1),pz g.2.1]),(1,.box [.vec 2,.vec 3]),(2,.nilv),(3,.nilv),(4,.box [.vec 5,.vec 6]),(5,vecO 12 az9 g.2.2.1 91),(6,.nilv)],[],7⟩)
 (.exit 0) (fun (g:(A0×Int×A4))=>⟨[(0,.ptr 0 0),(2,.ptr 1 0),(3,.ptr 4 0),(4,pz f)],[(0,.box [.pure (encL 1 az1 g.1),pz g.2.1]),(1,.box [.vec 2,.vec 3]),(2,.nilv),(3,.nilv),(4,.box [.vec 5,.vec 6]),(5,vecO 12 az9 g.2.2 91),(6,.nilv)],[],7⟩)
 (fun g=>.br (decide (g.2.2.2<f))
 (.call (lzk g.1 g.2.1 g.2.2.2) [(0,0)] fun h=>let i:=([h.1]:A4);let j:=g.2.2.1.length+i.length;
 .conv 6005 (czk 12 az9 i 91)<|
 .conv 6006 (ez5 12 az9 g.2.2.1 i 91)<|
 .grd (j * 104≤140737488355328/\j≤maxLen)<|
 .nn (h.2.1,h.2.2,(g.2.2.1++i),(i64.wrap (g.2.2.2+1))))
 (.oo (g.1,g.2.1,g.2.2.1)))
 (e.2.1,e.2.2,nl,0) [] fun g=>
 .call (azi g.1 g.2.1 3) [(0,0)] fun h=>
 .loop (fun (i:(A0×Int×A5×Int))=>⟨[(0,.ptr 0 0),(2,.ptr 1 0),(3,.ptr 4 0),(4,pz f),(6,pz i.2.2.2)],[(0,.box [.pure (encL 1 az1 i.1),pz i.2.1]),(1,.box [.vec 2,.vec 3]),(2,.nilv),(3,.nilv),(4,.box [.vec 5,.vec 6]),(5,vecO 12 az9 g.2.2 91),(6,vecO 5 aze i.2.2.1 94)],[],7⟩)
 (.exit 2) (fun (i:(A0×Int×A5))=>⟨[(2,.ptr 1 0),(3,.ptr 4 0)],[(0,.box [.pure (encL 1 az1 i.1),pz i.2.1]),(1,.box [.vec 2,.vec 3]),(2,.nilv),(3,.nilv),(4,.box [.vec 5,.vec 6]),(5,vecO 12 az9 g.2.2 91),(6,vecO 5 aze i.2.2 94)],[],7⟩)
 (fun i=>.br (decide (i.2.2.2>0))
 (.call (azi i.1 i.2.1 f) [(0,0)] fun j=>
 .call (azi j.2.1 j.2.2 9000) [(0,0)] fun k=>
 .call (bzf k.2.1 k.2.2 3) [(0,0)] fun l=>
 .call (bzf l.2.1 l.2.2 2) [(0,0)] fun m=>let n:=([(⟨j.1,(i64.wrap (1+k.1)),((i64.wrap (l.1 * 32768)),0,(i64.wrap (m.1 * 32768)))⟩:cze)]:A5);let s:=i.2.2.1.length+n.length;
 .conv 10016 (czk 5 aze n 94)<|
 .conv 10017 (ez5 5 aze i.2.2.1 n 94)<|
 .grd (s * 40≤140737488355328/\s≤maxLen)<|
 .nn (m.2.1,m.2.2,(i.2.2.1++n),(i64.wrap (i.2.2.2-1))))
 (.oo (i.1,i.2.1,i.2.2.1)))
 (h.2.1,h.2.2,nl,h.1) [] fun i=>
 .ret ((⟨g.2.2,i.2.2⟩:azf),i.1,i.2.1)
noncomputable def gzb (c)(d):=
 mkD Tryz.func13 (lzm c d) 1 [.ptr 0 0] [(0,.box [.pure (encL 1 az1 c),pz d])] (fun r=>.pure (bzg r.1)) (fun r=>[(0,.box [.pure (encL 1 az1 r.2.1),pz r.2.2])])
noncomputable def tzp (c:A0)(d:Int)(e:Aw):T (Ax×A0×Int):=let f:=([e]:Ax);.conv 1001 (czk 3 az3 f 62)<|
 .call (azi c d 4) [(0,0)] fun g=>
 .loop (fun (h:(A0×Int×Ax×Int))=>⟨[(0,.ptr 0 0),(3,.ptr 1 0),(5,.vec 2),(6,pz h.2.2.2)],[(0,.box [.pure (encL 1 az1 h.1),pz h.2.1]),(1,.box [pz e.1,pz e.2.1,pz e.2.2]),(2,vecO 3 az3 h.2.2.1 62)],[],3⟩)
 (.exit 0) (fun (h:(A0×Int×Ax))=>⟨[(5,.vec 1)],[(0,.box [.pure (encL 1 az1 h.1),pz h.2.1]),(1,vecO 3 az3 h.2.2 62)],[],2⟩)
 (fun h=>.br (decide (h.2.2.2>0))
 (.ix 0 3 rfl<|
 .call (bzf h.1 h.2.1 3) [(0,0)] fun i=>
 .ix 1 3 rfl<|
 .call (bzf i.2.1 i.2.2 2) [(0,0)] fun j=>
 .ix 2 3 rfl<|
 .call (bzf j.2.1 j.2.2 2) [(0,0)] fun k=>let l:=([((i64.wrap (e.1+(i64.wrap (i.1 * 32768)))),(i64.wrap (e.2.1+(i64.wrap (j.1 * 32768)))),(i64.wrap (e.2.2+(i64.wrap (k.1 * 32768)))))]:Ax);let m:=h.2.2.1.length+l.length;
 .conv 5020 (czk 3 az3 l 62)<|
 .conv 5021 (ez5 3 az3 h.2.2.1 l 62)<|
 .grd (m * 24≤140737488355328/\m≤maxLen)<|
 .nn (k.2.1,k.2.2,(h.2.2.1++l),(i64.wrap (h.2.2.2-1))))
 (.oo (h.1,h.2.1,h.2.2.1)))
 (g.2.1,g.2.2,f,g.1) [] fun h=>
 .ret (h.2.2,h.1,h.2.1)
noncomputable def nzd (c)(d)(e):=
 mkD Tryz.func15 (tzp c d e) 1 [.ptr 0 0,.pure (az3 e)] [(0,.box [.pure (encL 1 az1 c),pz d])] (fun r=>.pure (encL 3 az3 r.1)) (fun r=>[(0,.box [.pure (encL 1 az1 r.2.1),pz r.2.2])])
set_option maxHeartbeats 8000000 in
set_option maxRecDepth 20000 in
noncomputable def wzr (c:A0):T azd:=
 .cc (kzg c) fun d=>
 .call (gzb d.1 d.2) [(0,128)] fun e=>let f:=encL 5 aze e.1.Masses;let g:=encL 12 az9 e.1.Joints;let h:=(e.1.Joints.length:Nat);let i:Nat×Res:=(6,.box [.pure g,.pure f,.vec 7,.vec 8]);
 .loop (fun (j:B6)=>⟨[(2,.ptr 0 0),(3,.ptr 5 0),(4,.ptr 6 0),(5,pz j.2.2.2)],[(0,.box [.vec 1,.vec 2,.vec 3,.vec 4]),(1,.nilv),(2,.nilv),(3,.nilv),(4,.nilv),(5,.box [.pure (encL 1 az1 j.1),pz j.2.1]),i,(7,vecO 3 azj j.2.2.1 64),(8,.nilv)],[],9⟩)
 (.exit 0) (fun (j:An)=>⟨[(2,.ptr 0 0),(3,.ptr 5 0),(4,.ptr 6 0)],[(0,.box [.vec 1,.vec 2,.vec 3,.vec 4]),(1,.nilv),(2,.nilv),(3,.nilv),(4,.nilv),(5,.box [.pure (encL 1 az1 j.1),pz j.2.1]),i,(7,vecO 3 azj j.2.2 64),(8,.nilv)],[],9⟩)
 (fun j=>.br (decide (j.2.2.2<(h:Int)))
 (.cut 0 (fun (k:An)=>⟨[(2,.ptr 0 0),(3,.ptr 5 0),(4,.ptr 6 0),(5,pz j.2.2.2)],[(0,.box [.vec 1,.vec 2,.vec 3,.vec 4]),(1,.nilv),(2,.nilv),(3,.nilv),(4,.nilv),(5,.box [.pure (encL 1 az1 k.1),pz k.2.1]),i,(7,vecO 3 azj k.2.2 64),(8,.nilv)],[],9⟩)
 (.call (azi j.1 j.2.1 5) [(0,5)] fun k=>
 .br (decide (k.1<4))
 (.call (azi k.2.1 k.2.2 3) [(0,5)] fun l=>
 .ok ((8:Int)≠0) (by decide)<|
 .call (azi l.2.1 l.2.2 4) [(0,5)] fun m=>
 .call (nzd m.2.1 m.2.2 ((i64.wrap (m.1 * 32768)),0,0)) [(0,5)] fun n=>let s:=([(⟨j.2.2.2,(i64.wrap ((i64.wrap ((i64.wrap (1+l.1)) * 65536)).tdiv 8)),n.1⟩:bz8)]:A6);let t:=j.2.2.1.length+s.length;
 .conv 7015 (czk 3 azj s 64)<|
 .conv 7016 (ez5 3 azj j.2.2.1 s 64)<|
 .grd (t * 40≤140737488355328/\t≤maxLen)<|
 .oo (n.2.1,n.2.2,(j.2.2.1++s)))
 (.oo (k.2.1,k.2.2,j.2.2.1))) fun k=>
 .nn (k.1,k.2.1,k.2.2,(i64.wrap (j.2.2.2+1))))
 (.oo (j.1,j.2.1,j.2.2.1)))
 (e.2.1,e.2.2,nl,0) [] fun j=>
 .call (azi j.1 j.2.1 3) [(0,5)] fun k=>
 .loop (fun (l:B6)=>⟨[(2,.ptr 0 0),(3,.ptr 5 0),(4,.ptr 6 0),(6,pz l.2.2.2)],[(0,.box [.vec 1,.vec 2,.vec 3,.vec 4]),(1,.nilv),(2,.nilv),(3,.nilv),(4,.nilv),(5,.box [.pure (encL 1 az1 l.1),pz l.2.1]),i,(7,vecO 3 azj l.2.2.1 64),(8,.nilv)],[],9⟩)
 (.exit 2) (fun (l:An)=>⟨[(2,.ptr 0 0),(3,.ptr 5 0),(4,.ptr 6 0)],[(0,.box [.vec 1,.vec 2,.vec 3,.vec 4]),(1,.nilv),(2,.nilv),(3,.nilv),(4,.nilv),(5,.box [.pure (encL 1 az1 l.1),pz l.2.1]),i,(7,vecO 3 azj l.2.2 64),(8,.nilv)],[],9⟩)
 (fun l=>.br (decide (l.2.2.2>0))
 (.call (bzf l.1 l.2.1 9) [(0,5)] fun m=>
 .call (bzf m.2.1 m.2.2 9) [(0,5)] fun n=>
 .call (bzf n.2.1 n.2.2 2) [(0,5)] fun s=>
 .call (azi s.2.1 s.2.2 4) [(0,5)] fun t=>
 .ok ((8:Int)≠0) (by decide)<|
 .call (nzd t.2.1 t.2.2 ((i64.wrap (m.1 * 32768)),(i64.wrap (n.1 * 32768)),(i64.wrap (s.1 * 32768)))) [(0,5)] fun w=>let y:=([(⟨(-1),(i64.wrap ((i64.wrap ((i64.wrap (1+t.1)) * 65536)).tdiv 8)),w.1⟩:bz8)]:A6);let z:=l.2.2.1.length+y.length;
 .conv 12011 (czk 3 azj y 64)<|
 .conv 12012 (ez5 3 azj l.2.2.1 y 64)<|
 .grd (z * 40≤140737488355328/\z≤maxLen)<|
 .nn (w.2.1,w.2.2,(l.2.2.1++y),(i64.wrap (l.2.2.2-1))))
 (.oo (l.1,l.2.1,l.2.2.1)))
 (k.2.1,k.2.2,j.2.2,(i64.wrap (1+k.1))) [] fun l=>
 .cut 0 (fun (m:(List nzw))=>⟨[(2,.ptr 0 0),(4,.ptr 5 0)],[(0,.box [.vec 1,.vec 2,.vec 3,.vec 4]),(1,.nilv),(2,.nilv),(3,.nilv),(4,.nilv),(5,.box [.pure g,.pure f,.vec 6,.vec 7]),(6,vecO 3 azj l.2.2 64),(7,vecO 2 azw m 67)],[],8⟩)
 (.call (azi l.1 l.2.1 5) [(0,5)] fun m=>
 .br (m.1==1)
 (.call (azi m.2.1 m.2.2 (h:Int)) [(0,5)] fun n=>let s:=([(⟨(-1),n.1⟩:nzw)]:(List nzw));
 .conv 14009 (czk 2 azw s 67)<|
 .grd (s.length * 16≤140737488355328/\s.length≤maxLen)<|
 .oo s)
 (.oo nl)) fun m=>
 .ret (⟨(⟨e.1.Joints,e.1.Masses⟩:azf),l.2.2,m⟩:azd)
noncomputable def wzq (c):=
 mkD Tryz.func4 (wzr c) 0 [.pure (encL 1 az1 c)] [] (fun r=>.pure (cz6 r)) (fun _=>[])
noncomputable def tzo (c:azf)(d:A0):T A0:=let e:Nat×Res:=(0,.box [.pure (encL 12 az9 c.Joints),.pure (encL 5 aze c.Masses)]);.cc (kzg d) fun f=>
 .loop (fun (g:B7)=>⟨[(2,.ptr 0 0),(5,.ptr 1 0),(6,.vec 2),(7,pz g.2.2.2)],[e,(1,.box [.pure (encL 1 az1 g.1),pz g.2.1]),(2,vecO 1 az1 g.2.2.1 2)],[],3⟩)
 (.exit 0) (fun (g:A0)=>⟨[(6,.vec 0)],[(0,vecO 1 az1 g 2)],[],1⟩)
 (fun g=>let h:=c.Joints.getD ((g.2.2.2).toNat) default;let i:=([h.Lo]:A0);let j:=([h.Hi]:A0);let k:=g.2.2.1.length+i.length;let l:=g.2.2.1.length+j.length;.br (decide (g.2.2.2<(c.Joints.length:Int)))
 (.cut 0 (fun (m:(A0×Int×A0))=>⟨[(2,.ptr 0 0),(5,.ptr 1 0),(6,.vec 2),(7,pz g.2.2.2)],[e,(1,.box [.pure (encL 1 az1 m.1),pz m.2.1]),(2,vecO 1 az1 m.2.2 2)],[],3⟩)
 (.gh g.2.2.2 c.Joints.length<|
 .gh g.2.2.2 c.Joints.length<|
 .call (azi g.1 g.2.1 6) [(0,1)] fun m=>
 .br (m.1==0)
 (.conv 10002 (czk 1 az1 i 2)<|
 .conv 10003 (ez5 1 az1 g.2.2.1 i 2)<|
 .grd (k * 8≤140737488355328/\k≤maxLen)<|
 .oo (m.2.1,m.2.2,(g.2.2.1++i)))
 (.br (m.1==1)
 (.conv 12002 (czk 1 az1 j 2)<|
 .conv 12003 (ez5 1 az1 g.2.2.1 j 2)<|
 .grd (l * 8≤140737488355328/\l≤maxLen)<|
 .oo (m.2.1,m.2.2,(g.2.2.1++j)))
 (.name 8005 ((i64.wrap ((h.Hi)- (h.Lo)))) fun n=>
 .name 8006 ((i64.wrap (n+1))) fun s=>
 .call (azi m.2.1 m.2.2 s) [(0,1)] fun t=>let w:=([(i64.wrap ((h.Lo)+t.1))]:A0);let y:=g.2.2.1.length+w.length;
 .conv 8009 (czk 1 az1 w 2)<|
 .conv 8010 (ez5 1 az1 g.2.2.1 w 2)<|
 .grd (y * 8≤140737488355328/\y≤maxLen)<|
 .oo (t.2.1,t.2.2,(g.2.2.1++w))))) fun m=>
 .nn (m.1,m.2.1,m.2.2,(i64.wrap (g.2.2.2+1))))
 (.oo g.2.2.1))
 (f.1,f.2,nl,0) [] fun g=>
 .ret g
noncomputable def tzn (c)(d):=
 mkD Tryz.func41 (tzo c d) 0 [.pure (bzg c),.pure (encL 1 az1 d)] [] (fun _=>.vec 0) (fun r=>[(0,vecO 1 az1 r 2)])
noncomputable def qzy (c:azf)(d:Int)(e:A0):T A1:=let f:Nat×Res:=(0,.box [.pure (encL 12 az9 c.Joints),.pure (encL 5 aze c.Masses)]);.cc (kzg e) fun g=>
 .loop (fun (h:(A0×Int×A1×Int))=>⟨[(1,pz d),(3,.ptr 0 0),(7,.ptr 1 0),(8,.vec 2),(9,pz h.2.2.2)],[f,(1,.box [.pure (encL 1 az1 h.1),pz h.2.1]),(2,vecO 1 (encL 1 az1) h.2.2.1 43)],[],3⟩)
 (.exit 0) (fun (h:A1)=>⟨[(8,.vec 0)],[(0,vecO 1 (encL 1 az1) h 43)],[],1⟩)
 (fun h=>.br (decide (h.2.2.2<d))
 (.loop (fun (i:B7)=>⟨[(1,pz d),(3,.ptr 0 0),(7,.ptr 1 0),(8,.vec 2),(9,pz h.2.2.2),(10,.vec 3),(11,pz i.2.2.2)],[f,(1,.box [.pure (encL 1 az1 i.1),pz i.2.1]),(2,vecO 1 (encL 1 az1) h.2.2.1 43),(3,vecO 1 az1 i.2.2.1 3)],[],4⟩)
 (.exit 2) (fun (i:(A0×Int×A0))=>⟨[(1,pz d),(3,.ptr 0 0),(7,.ptr 1 0),(8,.vec 2),(9,pz h.2.2.2),(10,.vec 3)],[f,(1,.box [.pure (encL 1 az1 i.1),pz i.2.1]),(2,vecO 1 (encL 1 az1) h.2.2.1 43),(3,vecO 1 az1 i.2.2 3)],[],4⟩)
 (fun i=>.br (decide (i.2.2.2<(i64.wrap (2 * (c.Joints.length:Int)))))
 (.call (azi i.1 i.2.1 1048576) [(0,1)] fun j=>let k:=([j.1]:A0);let l:=i.2.2.1.length+k.length;
 .conv 10003 (czk 1 az1 k 3)<|
 .conv 10004 (ez5 1 az1 i.2.2.1 k 3)<|
 .grd (l * 8≤140737488355328/\l≤maxLen)<|
 .nn (j.2.1,j.2.2,(i.2.2.1++k),(i64.wrap (i.2.2.2+1))))
 (.oo (i.1,i.2.1,i.2.2.1)))
 (h.1,h.2.1,nl,0) [] fun i=>
 .cc (tzn c i.2.2) fun j=>let k:=([j]:A1);let l:=h.2.2.1.length+k.length;
 .conv 11004 (czk 1 (encL 1 az1) k 43)<|
 .conv 11005 (ez5 1 (encL 1 az1) h.2.2.1 k 43)<|
 .grd (l * 24≤140737488355328/\l≤maxLen)<|
 .nn (i.1,i.2.1,(h.2.2.1++k),(i64.wrap (h.2.2.2+1))))
 (.oo h.2.2.1))
 (g.1,g.2,nl,0) [] fun h=>
 .ret h
noncomputable def qzx (c)(d)(e):=
 mkD Tryz.func18 (qzy c d e) 0 [.pure (bzg c),pz d,.pure (encL 1 az1 e)] [] (fun _=>.vec 0) (fun r=>[(0,vecO 1 (encL 1 az1) r 43)])
noncomputable def Bzb (c:ByteArray):T Bool:=let d:=(c.size:Int);.cut 2 (fun (e:Bool)=>⟨[(0,.pure (.str c)),(16,.pure (.bool e))],[],[],0⟩)
 (.br (decide (d<1))
 (.oo true)
 (.br (decide (d>16))
 (.oo true)
 (.oo (c==(⟨#[119,111,114,108,100]⟩:ByteArray))))) fun e=>
 .br e
 (.ret false)
 (.loop (fun (f:Int)=>⟨[(0,.pure (.str c)),(3,pz f)],[],[],0⟩)
 (.exit 0) (fun (_:U0)=>⟨[],[],[],0⟩)
 (fun f=>let g:=((c.data.getD f.toNat 0).toNat:Int);.br (decide (f<d))
 (.cut 1 (fun (h:Bool)=>⟨[(0,.pure (.str c)),(3,pz f),(4,.pure (.bool h))],[],[],0⟩)
 (.gh f c.size<|
 .br (decide (g≥97))
 (.gh f c.size<|
 .oo (decide (g≤122)))
 (.oo false)) fun h=>
 .cut 0 (fun (i:Bool)=>⟨[(0,.pure (.str c)),(3,pz f),(56,.pure (.bool i))],[],[],0⟩)
 (.br (!h)
 (.br (f==0)
 (.oo true)
 (.gh f c.size<|
 .br (g !=95)
 (.gh f c.size<|
 .br (decide (g<48))
 (.oo true)
 (.gh f c.size<|
 .oo (decide (g>57))))
 (.oo false)))
 (.oo false)) fun i=>
 .br i
 (.ff false)
 (.nn (i64.wrap (f+1))))
 (.oo .u))
 0 [] fun _=>
 .ret true)
noncomputable def Jz4 (c):=
 mkD Tryz.func122 (Bzb c) 0 [.pure (.str c)] [] (fun r=>.pure (.bool r)) (fun _=>[])
noncomputable def Bzc (c:Aw)(d:Int):T Bool:=let e:=i64.wrap (0-d);let f:Nat×Res:=(0,.box [pz c.1,pz c.2.1,pz c.2.2]);.unroll 4<|
 .known true<|
 .cut 1 (fun (g:Bool)=>⟨[(1,pz d),(2,.ptr 0 0),(5,pz 0),(22,.pure (.bool g))],[f],[],1⟩)
 (.ix 0 3 rfl<|
 .br (decide (c.1<e))
 (.oo true)
 (.ix 0 3 rfl<|
 .oo (decide (c.1>d)))) fun g=>
 .br g
 (.ret false)
 (.lit 3001 (1)<|
 .known true<|
 .cut 1 (fun (h:Bool)=>⟨[(1,pz d),(2,.ptr 0 0),(5,pz 1),(22,.pure (.bool h))],[f],[],1⟩)
 (.ix 1 3 rfl<|
 .br (decide (c.2.1<e))
 (.oo true)
 (.ix 1 3 rfl<|
 .oo (decide (c.2.1>d)))) fun h=>
 .br h
 (.ret false)
 (.lit 3001 (2)<|
 .known true<|
 .cut 1 (fun (i:Bool)=>⟨[(1,pz d),(2,.ptr 0 0),(5,pz 2),(22,.pure (.bool i))],[f],[],1⟩)
 (.ix 2 3 rfl<|
 .br (decide (c.2.2<e))
 (.oo true)
 (.ix 2 3 rfl<|
 .oo (decide (c.2.2>d)))) fun i=>
 .br i
 (.ret false)
 (.lit 3001 (3)<|
 .known false<|
 .ret true)))
noncomputable def fzi (c)(d):=
 mkD Tryz.func78 (Bzc c d) 0 [.pure (az3 c),pz d] [] (fun r=>.pure (.bool r)) (fun _=>[])
noncomputable def xzq (c:Int):T Int:=
 .br (c==0)
 (.ret 0)
 (.cut 0 (fun (d:Bool)=>⟨[(6,.pure (.bool d))],[],[],0⟩)
 (.br (c==1)
 (.oo (c==1))
 (.br (c==2)
 (.oo (c==2))
 (.oo (c==3)))) fun d=>
 .br d
 (.ret 524288)
 (.ret 4194304))
noncomputable def Fzv (c):=
 mkD Tryz.func123 (xzq c) 0 [pz c] [] (fun r=>pz r) (fun _=>[])
noncomputable def rzm (c:Int)(d:Int)(e:Int):T Bool:=
 .br (decide (d≤c))
 (.ret (decide (c≤e)))
 (.ret false)
noncomputable def fz4 (c)(d)(e):=
 mkD Tryz.func77 (rzm c d e) 0 [pz c,pz d,pz e] [] (fun r=>.pure (.bool r)) (fun _=>[])
set_option maxHeartbeats 8000000 in
set_option maxRecDepth 20000 in
noncomputable def kzo (c:A4)(d:Int):T Int:=let e:=c.getD (d.toNat) default;let f:=e.Name;let g:=e.Kind;let h:=e.Parent;let i:Nat×Res:=(0,.box [.pure (.str f),pz g,pz h,pz (e.Offset.1),pz (e.Offset.2.1),pz (e.Offset.2.2),pz (e.Lo),pz (e.Hi),pz (e.Weight),pz (e.Speed),pz (e.Accel),pz (e.Torque)]);.gh d c.length<|
 .cc (Jz4 f) fun j=>
 .br (!j)
 (.ret 802)
 (.loop (fun (k:Int)=>⟨[(0,.pure (encL 12 az9 c)),(1,pz d),(5,.ptr 0 0),(6,pz k)],[i],[],1⟩)
 (.exit 0) (fun (_:U0)=>⟨[(1,pz d),(5,.ptr 0 0)],[i],[],1⟩)
 (fun k=>.br (decide (k<d))
 (.gh k c.length<|
 .br (((c.getD (k.toNat) default).Name)==f)
 (.ff 802)
 (.nn (i64.wrap (k+1))))
 (.oo .u))
 0 [] fun _=>
 .cut 1 (fun (k:Bool)=>⟨[(1,pz d),(5,.ptr 0 0),(36,.pure (.bool k))],[i],[],1⟩)
 (.br (decide (g<0))
 (.oo true)
 (.oo (decide (g>6)))) fun k=>
 .br k
 (.ret 803)
 (.cut 1 (fun (l:Bool)=>⟨[(5,.ptr 0 0),(45,.pure (.bool l))],[i],[],1⟩)
 (.br (decide (h<(-1)))
 (.oo true)
 (.oo (decide (h≥d)))) fun l=>
 .br l
 (.ret 804)
 (.cc (fzi (e.Offset) 4194304) fun m=>
 .br (!m)
 (.ret 805)
 (.cc (Fzv g) fun n=>
 .cut 0 (fun (s:Bool)=>⟨[(5,.ptr 0 0),(70,.pure (.bool s))],[i],[],1⟩)
 (.br (decide ((e.Lo)>(e.Hi)))
 (.oo true)
 (.br (decide ((e.Lo)<(i64.wrap (0-n))))
 (.oo true)
 (.oo (decide ((e.Hi)>n))))) fun s=>
 .br s
 (.ret 806)
 (.cut 1 (fun (t:Bool)=>⟨[(92,.pure (.bool t))],[],[],0⟩)
 (.cc (fz4 (e.Weight) 1 1024) fun t=>
 .br (!t)
 (.oo true)
 (.cc (fz4 (e.Speed) 1 1048576) fun w=>
 .br (!w)
 (.oo true)
 (.cc (fz4 (e.Accel) 1 1048576) fun y=>
 .br (!y)
 (.oo true)
 (.cc (fz4 (e.Torque) 1 1099511627776) fun z=>
 .oo (!z))))) fun t=>
 .br t
 (.ret 807)
 (.ret 0))))))
noncomputable def szm (c)(d):=
 mkD Tryz.func76 (kzo c d) 0 [.pure (encL 12 az9 c),pz d] [] (fun r=>pz r) (fun _=>[])
noncomputable def kzm (c:azf):T Int:=let d:=(c.Joints.length:Int);let e:=(c.Masses.length:Nat);let f:Nat×Res:=(0,.box [.pure (encL 12 az9 c.Joints),.pure (encL 5 aze c.Masses)]);.cut 2 (fun (g:Bool)=>⟨[(1,.ptr 0 0),(16,.pure (.bool g))],[f],[],1⟩)
 (.br (decide (d<1))
 (.oo true)
 (.oo (decide (d>10)))) fun g=>
 .br g
 (.ret 801)
 (.loop (fun (h:Int)=>⟨[(1,.ptr 0 0),(3,pz h)],[f],[],1⟩)
 (.exit 0) (fun (_:U0)=>⟨[(1,.ptr 0 0)],[f],[],1⟩)
 (fun h=>.br (decide (h<d))
 (.cc (szm c.Joints h) fun i=>
 .br (i !=0)
 (.ff i)
 (.nn (i64.wrap (h+1))))
 (.oo .u))
 0 [] fun _=>
 .br (decide ((e:Int)>32))
 (.ret 808)
 (.loop (fun (h:Int)=>⟨[(1,.ptr 0 0),(5,pz h)],[f],[],1⟩)
 (.exit 2) (fun (_:U0)=>⟨[],[],[],0⟩)
 (fun h=>let i:=c.Masses.getD (h.toNat) default;.br (decide (h<(e:Int)))
 (.gh h c.Masses.length<|
 .cut 0 (fun (j:Bool)=>⟨[(1,.ptr 0 0),(5,pz h),(69,.pure (.bool j))],[f],[],1⟩)
 (.br (decide ((i.Link)<0))
 (.oo true)
 (.br (decide ((i.Link)≥d))
 (.oo true)
 (.cc (fz4 (i.Mass) 1 65536) fun j=>
 .br (!j)
 (.oo true)
 (.cc (fzi (i.Point) 4194304) fun k=>
 .oo (!k))))) fun j=>
 .br j
 (.ff 808)
 (.nn (i64.wrap (h+1))))
 (.oo .u))
 0 [] fun _=>
 .ret 0))
noncomputable def czn (c):=
 mkD Tryz.func36 (kzm c) 0 [.pure (bzg c)] [] (fun r=>pz r) (fun _=>[])
noncomputable def rz3 (c:azf)(d:A0):T Bool:=let e:=encL 1 az1 d;let f:=(d.length:Nat);let g:Nat×Res:=(0,.box [.pure (encL 12 az9 c.Joints),.pure (encL 5 aze c.Masses)]);.cut 2 (fun (h:Bool)=>⟨[(1,.pure e),(2,.ptr 0 0),(16,.pure (.bool h))],[g],[],1⟩)
 (.cc (czn c) fun h=>
 .br (h !=0)
 (.oo true)
 (.oo ((f:Int) !=(c.Joints.length:Int)))) fun h=>
 .br h
 (.ret false)
 (.loop (fun (i:Int)=>⟨[(1,.pure e),(2,.ptr 0 0),(5,pz i)],[g],[],1⟩)
 (.exit 0) (fun (_:U0)=>⟨[],[],[],0⟩)
 (fun i=>let j:=d.getD (i.toNat) default;let k:=c.Joints.getD (i.toNat) default;.br (decide (i<(f:Int)))
 (.cut 1 (fun (l:Bool)=>⟨[(1,.pure e),(2,.ptr 0 0),(5,pz i),(46,.pure (.bool l))],[g],[],1⟩)
 (.gh i d.length<|
 .gh i c.Joints.length<|
 .br (decide (j<(k.Lo)))
 (.oo true)
 (.gh i d.length<|
 .gh i c.Joints.length<|
 .oo (decide (j>(k.Hi))))) fun l=>
 .br l
 (.ff false)
 (.nn (i64.wrap (i+1))))
 (.oo .u))
 0 [] fun _=>
 .ret true)
noncomputable def lz8 (c)(d):=
 mkD Tryz.func37 (rz3 c d) 0 [.pure (bzg c),.pure (encL 1 az1 d)] [] (fun r=>.pure (.bool r)) (fun _=>[])
noncomputable def iz0 (c:A0)(d:A0):T Bool:=let e:=(c.length:Nat);.br ((e:Int) !=(d.length:Int))
 (.ret false)
 (.loop (fun (f:Int)=>⟨[(0,.pure (encL 1 az1 c)),(1,.pure (encL 1 az1 d)),(5,pz f)],[],[],0⟩)
 (.exit 0) (fun (_:U0)=>⟨[],[],[],0⟩)
 (fun f=>.br (decide (f<(e:Int)))
 (.gh f c.length<|
 .gh f d.length<|
 .br ((c.getD (f.toNat) default) !=(d.getD (f.toNat) default))
 (.ff false)
 (.nn (i64.wrap (f+1))))
 (.oo .u))
 0 [] fun _=>
 .ret true)
noncomputable def ozt (c)(d):=
 mkD Tryz.func79 (iz0 c d) 0 [.pure (encL 1 az1 c),.pure (encL 1 az1 d)] [] (fun r=>.pure (.bool r)) (fun _=>[])
noncomputable def ozz (c:A1)(d:A0):T Int:=
 .loop (fun (e:Int)=>⟨[(0,.vec 0),(1,.pure (encL 1 az1 d)),(5,pz e)],[(0,vecO 1 (encL 1 az1) c 43)],[],1⟩)
 (.exit 0) (fun (_:U0)=>⟨[],[(0,vecO 1 (encL 1 az1) c 43)],[],1⟩)
 (fun e=>.br (decide (e<(c.length:Int)))
 (.gg e c.length<|
 .cc (ozt (c.getD (e.toNat) default) d) fun f=>
 .br f
 (.ff e)
 (.nn (i64.wrap (e+1))))
 (.oo .u))
 0 [] fun _=>
 .ret (-1)
noncomputable def ozy (c)(d):=
 mkD Tryz.func38 (ozz c d) 1 [.vec 0,.pure (encL 1 az1 d)] [(0,vecO 1 (encL 1 az1) c 43)] (fun r=>pz r) (fun _=>[(0,vecO 1 (encL 1 az1) c 43)])
noncomputable def tzz (c:A0):T Bool:=let d:=encL 1 az1 c;.loop (fun (e:Int)=>⟨[(0,.pure d),(3,pz e)],[],[],0⟩)
 (.exit 0) (fun (_:U0)=>⟨[],[],[],0⟩)
 (fun e=>let f:=c.getD (e.toNat) default;.br (decide (e<(c.length:Int)))
 (.cut 1 (fun (g:Bool)=>⟨[(0,.pure d),(3,pz e),(21,.pure (.bool g))],[],[],0⟩)
 (.gh e c.length<|
 .br (decide (f<(-2147483648)))
 (.oo true)
 (.gh e c.length<|
 .oo (decide (f>2147483648)))) fun g=>
 .br g
 (.ff false)
 (.nn (i64.wrap (e+1))))
 (.oo .u))
 0 [] fun _=>
 .ret true
noncomputable def jz7 (c):=
 mkD Tryz.func96 (tzz c) 0 [.pure (encL 1 az1 c)] [] (fun r=>.pure (.bool r)) (fun _=>[])
noncomputable def mzk (c:azf)(d:A0)(e:A0):T Int:=let f:=encL 1 az1 d;let g:=encL 1 az1 e;let h:=(d.length:Int);let i:Nat×Res:=(0,.box [.pure (encL 12 az9 c.Joints),.pure (encL 5 aze c.Masses)]);.cut 2 (fun (j:Bool)=>⟨[(1,.pure f),(2,.pure g),(3,.ptr 0 0),(36,.pure (.bool j))],[i],[],1⟩)
 (.cc (czn (⟨c.Joints,c.Masses⟩:azf)) fun j=>
 .br (j !=0)
 (.oo true)
 (.cc (jz7 d) fun k=>
 .br (!k)
 (.oo true)
 (.cc (jz7 e) fun l=>
 .br (!l)
 (.oo true)
 (.br (h !=(c.Joints.length:Int))
 (.oo true)
 (.oo ((e.length:Int) !=h)))))) fun j=>
 .br j
 (.ret 0)
 (.loop (fun (k:Ah)=>⟨[(1,.pure f),(2,.pure g),(3,.ptr 0 0),(7,pz k.1),(8,pz k.2)],[i],[],1⟩)
 (.exit 0) (fun (k:Int)=>⟨[(7,pz k)],[],[],0⟩)
 (fun k=>let l:=(k.2).toNat;let m:=d.getD l default;let n:=e.getD l default;.br (decide (k.2<h))
 (.gh k.2 c.Joints.length<|
 .gh k.2 d.length<|
 .gh k.2 e.length<|
 .gh k.2 e.length<|
 .gh k.2 d.length<|
 .name 7025 ((max (i64.wrap (m-n)) (i64.wrap (n-m)))) fun s=>
 .nn ((i64.wrap (k.1+(i64.wrap (((c.Joints.getD l default).Weight) * s)))),(i64.wrap (k.2+1))))
 (.oo k.1))
 (0,0) [] fun k=>
 .ret k)
noncomputable def fzo (c)(d)(e):=
 mkD Tryz.func80 (mzk c d e) 0 [.pure (bzg c),.pure (encL 1 az1 d),.pure (encL 1 az1 e)] [] (fun r=>pz r) (fun _=>[])
noncomputable def jzb (c:azf)(d:A1)(e:A0)(f:Int):T A0:=let g:=encL 1 az1 e;let h:Nat×Res:=(1,.box [.pure (encL 12 az9 c.Joints),.pure (encL 5 aze c.Masses)]);let i:=(⟨c.Joints,c.Masses⟩:azf);.loop (fun (j:A3)=>⟨[(1,.vec 0),(2,.pure g),(3,pz f),(4,.ptr 1 0),(9,.vec 2),(10,pz j.2)],[(0,vecO 1 (encL 1 az1) d 43),h,(2,vecO 1 az1 j.1 3)],[],3⟩)
 (.exit 0) (fun (j:A0)=>⟨[(9,.vec 1)],[(0,vecO 1 (encL 1 az1) d 43),(1,vecO 1 az1 j 3)],[],2⟩)
 (fun j=>let k:=([j.2]:A0);let l:=j.1.length+k.length;.br (decide (j.2<(d.length:Int)))
 (.cut 0 (fun (m:A0)=>⟨[(1,.vec 0),(2,.pure g),(3,pz f),(4,.ptr 1 0),(9,.vec 2),(10,pz j.2)],[(0,vecO 1 (encL 1 az1) d 43),h,(2,vecO 1 az1 m 3)],[],3⟩)
 (.br (j.2==f)
 (.oo j.1)
 (.conv 7002 (czk 1 az1 k 3)<|
 .conv 7003 (ez5 1 az1 j.1 k 3)<|
 .grd (l * 8≤140737488355328/\l≤maxLen)<|
 .gg j.2 d.length<|
 .cc (fzo i (d.getD ((j.2).toNat) default) e) fun m=>
 .loop (fun (n:A3)=>⟨[(1,.vec 0),(2,.pure g),(3,pz f),(4,.ptr 1 0),(9,.vec 2),(10,pz j.2),(11,pz n.2),(12,pz m)],[(0,vecO 1 (encL 1 az1) d 43),h,(2,vecO 1 az1 n.1 3)],[],3⟩)
 (.exit 2) (fun (n:A0)=>⟨[(1,.vec 0),(2,.pure g),(3,pz f),(4,.ptr 1 0),(9,.vec 2),(10,pz j.2)],[(0,vecO 1 (encL 1 az1) d 43),h,(2,vecO 1 az1 n 3)],[],3⟩)
 (fun n=>let s:=(n.2).toNat;let t:=i64.wrap (n.2-1);let w:=t.toNat;let y:=n.1.getD w default;let z:=n.1.set s y;let aa:=n.1.getD s default;.cut 1 (fun (ab:Bool)=>⟨[(1,.vec 0),(2,.pure g),(3,pz f),(4,.ptr 1 0),(9,.vec 2),(10,pz j.2),(11,pz n.2),(12,pz m),(51,.pure (.bool ab))],[(0,vecO 1 (encL 1 az1) d 43),h,(2,vecO 1 az1 n.1 3)],[],3⟩)
 (.br (decide (n.2>0))
 (.gg t n.1.length<|
 .gg y d.length<|
 .call (fzo i (d.getD (y.toNat) default) e) [] fun ab=>
 .oo (decide (m<ab)))
 (.oo false)) fun ab=>
 .br ab
 (.gg t n.1.length<|
 .gg n.2 n.1.length<|
 .gh n.2 n.1.length<|
 .conv 10015 (bzm 1 az1 n.1 3 s y)<|
 .gi (n.2) n.1.length<|
 .gh t (z.length)<|
 .conv 10017 (bzm 1 az1 z 3 w aa)<|
 .gi (t) (z.length)<|
 .nn ((z.set w aa),t))
 (.oo n.1))
 ((j.1++k),(j.1.length:Int)) [] fun n=>
 .oo n)) fun m=>
 .nn (m,(i64.wrap (j.2+1))))
 (.oo j.1))
 (nl,0) [] fun j=>
 .ret j
noncomputable def qz5 (c)(d)(e)(f):=
 mkD Tryz.func39 (jzb c d e f) 1 [.pure (bzg c),.vec 0,.pure (encL 1 az1 e),pz f] [(0,vecO 1 (encL 1 az1) d 43)] (fun r=>.pure (encL 1 az1 r)) (fun _=>[(0,vecO 1 (encL 1 az1) d 43)])
set_option maxHeartbeats 8000000 in
set_option maxRecDepth 20000 in
noncomputable def rzj (a0:azf)(a1:A1)(a2:A7)(a3:Int)(a4:Int):T A7:=
 .loop (fun (x85:(A7×Bool×Int))=>⟨[(2,pz (min a3 a4)),(3,pz (max a3 a4)),(4,.ptr 2 0),(5,.ptr 3 0),(9,.vec 4),(10,.pure (.bool x85.2.1)),(11,pz x85.2.2)],[(0,vecO 1 (encL 1 az1) a1 43),(1,vecO 12 az6 a2 49),(2,.box [.pure (encL 12 az9 a0.Joints),.pure (encL 5 aze a0.Masses)]),(3,.box [.vec 0,.vec 1]),(4,vecO 12 az6 x85.1 49)],[],5⟩)
 (.exit 0) (fun (y106:(A7×Bool))=>⟨[(2,pz (min a3 a4)),(3,pz (max a3 a4)),(4,.ptr 2 0),(5,.ptr 3 0),(9,.vec 4),(10,.pure (.bool y106.2))],[(0,vecO 1 (encL 1 az1) a1 43),(1,vecO 12 az6 a2 49),(2,.box [.pure (encL 12 az9 a0.Joints),.pure (encL 5 aze a0.Masses)]),(3,.box [.vec 0,.vec 1]),(4,vecO 12 az6 y106.1 49)],[],5⟩)
 (fun x85=>.br (decide (x85.2.2<(a2.length:Int)))
 (.grd (0≤x85.2.2/\x85.2.2<(a2.length:Int))<|
 .grd ((x85.2.2).toNat<a2.length)<|
 .cut 0 (fun (y123:(A7×Bool))=>⟨[(2,pz (min a3 a4)),(3,pz (max a3 a4)),(4,.ptr 2 0),(5,.ptr 3 0),(9,.vec 4),(10,.pure (.bool y123.2)),(11,pz x85.2.2),(12,.ptr 5 0)],[(0,vecO 1 (encL 1 az1) a1 43),(1,vecO 12 az6 a2 49),(2,.box [.pure (encL 12 az9 a0.Joints),.pure (encL 5 aze a0.Masses)]),(3,.box [.vec 0,.vec 1]),(4,vecO 12 az6 y123.1 49),(5,.box [pz ((a2.getD ((x85.2.2).toNat) default).U),pz ((a2.getD ((x85.2.2).toNat) default).V),pz ((a2.getD ((x85.2.2).toNat) default).Cost),pz ((a2.getD ((x85.2.2).toNat) default).State),pz ((a2.getD ((x85.2.2).toNat) default).Proof.Kind),.pure (encL 3 azx ((a2.getD ((x85.2.2).toNat) default).Proof.Pieces)),pz ((a2.getD ((x85.2.2).toNat) default).Proof.At.Depth),pz ((a2.getD ((x85.2.2).toNat) default).Proof.At.Index),.pure (encL 3 az3 ((a2.getD ((x85.2.2).toNat) default).Proof.At.Normals)),pz ((a2.getD ((x85.2.2).toNat) default).Proof.Witness.Pair),.pure (encL 1 az1 ((a2.getD ((x85.2.2).toNat) default).Proof.Witness.Left)),.pure (encL 1 az1 ((a2.getD ((x85.2.2).toNat) default).Proof.Witness.Right))])],[],6⟩)
 (.cut 0 (fun (y124:Bool)=>⟨[(2,pz (min a3 a4)),(3,pz (max a3 a4)),(4,.ptr 2 0),(5,.ptr 3 0),(9,.vec 4),(10,.pure (.bool x85.2.1)),(11,pz x85.2.2),(12,.ptr 5 0),(50,.pure (.bool y124))],[(0,vecO 1 (encL 1 az1) a1 43),(1,vecO 12 az6 a2 49),(2,.box [.pure (encL 12 az9 a0.Joints),.pure (encL 5 aze a0.Masses)]),(3,.box [.vec 0,.vec 1]),(4,vecO 12 az6 x85.1 49),(5,.box [pz ((a2.getD ((x85.2.2).toNat) default).U),pz ((a2.getD ((x85.2.2).toNat) default).V),pz ((a2.getD ((x85.2.2).toNat) default).Cost),pz ((a2.getD ((x85.2.2).toNat) default).State),pz ((a2.getD ((x85.2.2).toNat) default).Proof.Kind),.pure (encL 3 azx ((a2.getD ((x85.2.2).toNat) default).Proof.Pieces)),pz ((a2.getD ((x85.2.2).toNat) default).Proof.At.Depth),pz ((a2.getD ((x85.2.2).toNat) default).Proof.At.Index),.pure (encL 3 az3 ((a2.getD ((x85.2.2).toNat) default).Proof.At.Normals)),pz ((a2.getD ((x85.2.2).toNat) default).Proof.Witness.Pair),.pure (encL 1 az1 ((a2.getD ((x85.2.2).toNat) default).Proof.Witness.Left)),.pure (encL 1 az1 ((a2.getD ((x85.2.2).toNat) default).Proof.Witness.Right))])],[],6⟩)
 (.br (!x85.2.1)
 (.br (decide (((a2.getD ((x85.2.2).toNat) default).U)>(min a3 a4)))
 (.ret (.out true))
 (.br (((a2.getD ((x85.2.2).toNat) default).U)==(min a3 a4))
 (.ret (.out (decide (((a2.getD ((x85.2.2).toNat) default).V)≥(max a3 a4)))))
 (.ret (.out false))))
 (.ret (.out false))) fun y124=>
 .br y124
 (.cut 1 (fun (y125:Bool)=>⟨[(2,pz (min a3 a4)),(3,pz (max a3 a4)),(4,.ptr 2 0),(5,.ptr 3 0),(9,.vec 4),(10,.tt),(11,pz x85.2.2),(12,.ptr 5 0),(60,.pure (.bool y125))],[(0,vecO 1 (encL 1 az1) a1 43),(1,vecO 12 az6 a2 49),(2,.box [.pure (encL 12 az9 a0.Joints),.pure (encL 5 aze a0.Masses)]),(3,.box [.vec 0,.vec 1]),(4,vecO 12 az6 x85.1 49),(5,.box [pz ((a2.getD ((x85.2.2).toNat) default).U),pz ((a2.getD ((x85.2.2).toNat) default).V),pz ((a2.getD ((x85.2.2).toNat) default).Cost),pz ((a2.getD ((x85.2.2).toNat) default).State),pz ((a2.getD ((x85.2.2).toNat) default).Proof.Kind),.pure (encL 3 azx ((a2.getD ((x85.2.2).toNat) default).Proof.Pieces)),pz ((a2.getD ((x85.2.2).toNat) default).Proof.At.Depth),pz ((a2.getD ((x85.2.2).toNat) default).Proof.At.Index),.pure (encL 3 az3 ((a2.getD ((x85.2.2).toNat) default).Proof.At.Normals)),pz ((a2.getD ((x85.2.2).toNat) default).Proof.Witness.Pair),.pure (encL 1 az1 ((a2.getD ((x85.2.2).toNat) default).Proof.Witness.Left)),.pure (encL 1 az1 ((a2.getD ((x85.2.2).toNat) default).Proof.Witness.Right))])],[],6⟩)
 (.br (((a2.getD ((x85.2.2).toNat) default).U) !=(min a3 a4))
 (.ret (.out true))
 (.ret (.out (((a2.getD ((x85.2.2).toNat) default).V) !=(max a3 a4))))) fun y125=>
 .br y125
 (.grd (0≤(min a3 a4)/\(min a3 a4)<(a1.length:Int))<|
 .grd (((min a3 a4)).toNat<a1.length)<|
 .grd (0≤(max a3 a4)/\(max a3 a4)<(a1.length:Int))<|
 .grd (((max a3 a4)).toNat<a1.length)<|
 .call (fzo a0 (a1.getD (((min a3 a4)).toNat) default) (a1.getD (((max a3 a4)).toNat) default)) [] fun y126=>
 .conv 11016 (Sz7 12 az6 ([(⟨(min a3 a4),(max a3 a4),y126,0,(⟨0,nl,(⟨0,0,nl⟩:azh),(⟨0,nl,nl⟩:azu)⟩:azg)⟩:az4)]:A7) 49 [.agg [.int .i64 (min a3 a4),.int .i64 (max a3 a4),.int .i64 y126,.int .i64 0,.int .i64 0,.lst 0 0 fun _=>.unk,.int .i64 0,.int .i64 0,.lst 0 0 fun _=>.unk,.int .i64 0,.lst 0 0 fun _=>.unk,.lst 0 0 fun _=>.unk]] (by kernel_rfl))<|
 .conv 11017 (ez5 12 az6 x85.1 ([(⟨(min a3 a4),(max a3 a4),y126,0,(⟨0,nl,(⟨0,0,nl⟩:azh),(⟨0,nl,nl⟩:azu)⟩:azg)⟩:az4)]:A7) 49)<|
 .grd ((x85.1.length+([(⟨(min a3 a4),(max a3 a4),y126,0,(⟨0,nl,(⟨0,0,nl⟩:azh),(⟨0,nl,nl⟩:azu)⟩:azg)⟩:az4)]:A7).length) * 160≤140737488355328/\(x85.1.length+([(⟨(min a3 a4),(max a3 a4),y126,0,(⟨0,nl,(⟨0,0,nl⟩:azh),(⟨0,nl,nl⟩:azu)⟩:azg)⟩:az4)]:A7).length)≤maxLen)<|
 .ret (.out ((x85.1++([(⟨(min a3 a4),(max a3 a4),y126,0,(⟨0,nl,(⟨0,0,nl⟩:azh),(⟨0,nl,nl⟩:azu)⟩:azg)⟩:az4)]:A7)),true)))
 (.ret (.out (x85.1,true))))
 (.ret (.out (x85.1,x85.2.1)))) fun y123=>
 .conv 12002 (czk 12 az6 ([(a2.getD ((x85.2.2).toNat) default)]:A7) 49)<|
 .conv 12003 (ez5 12 az6 y123.1 ([(a2.getD ((x85.2.2).toNat) default)]:A7) 49)<|
 .grd ((y123.1.length+([(a2.getD ((x85.2.2).toNat) default)]:A7).length) * 160≤140737488355328/\(y123.1.length+([(a2.getD ((x85.2.2).toNat) default)]:A7).length)≤maxLen)<|
 .ret (.next ((y123.1++([(a2.getD ((x85.2.2).toNat) default)]:A7)),y123.2,(i64.wrap (x85.2.2+1)))))
 (.ret (.out (x85.1,x85.2.1))))
 (nl,false,0) [] fun y106=>
 .cut 0 (fun (y129:A7)=>⟨[(9,.vec 2)],[(0,vecO 1 (encL 1 az1) a1 43),(1,vecO 12 az6 a2 49),(2,vecO 12 az6 y129 49)],[],3⟩)
 (.br (!y106.2)
 (.grd (0≤(min a3 a4)/\(min a3 a4)<(a1.length:Int))<|
 .grd (((min a3 a4)).toNat<a1.length)<|
 .grd (0≤(max a3 a4)/\(max a3 a4)<(a1.length:Int))<|
 .grd (((max a3 a4)).toNat<a1.length)<|
 .call (fzo a0 (a1.getD (((min a3 a4)).toNat) default) (a1.getD (((max a3 a4)).toNat) default)) [] fun y130=>
 .conv 14016 (Sz7 12 az6 ([(⟨(min a3 a4),(max a3 a4),y130,0,(⟨0,nl,(⟨0,0,nl⟩:azh),(⟨0,nl,nl⟩:azu)⟩:azg)⟩:az4)]:A7) 49 [.agg [.int .i64 (min a3 a4),.int .i64 (max a3 a4),.int .i64 y130,.int .i64 0,.int .i64 0,.lst 0 0 fun _=>.unk,.int .i64 0,.int .i64 0,.lst 0 0 fun _=>.unk,.int .i64 0,.lst 0 0 fun _=>.unk,.lst 0 0 fun _=>.unk]] (by kernel_rfl))<|
 .conv 14017 (ez5 12 az6 y106.1 ([(⟨(min a3 a4),(max a3 a4),y130,0,(⟨0,nl,(⟨0,0,nl⟩:azh),(⟨0,nl,nl⟩:azu)⟩:azg)⟩:az4)]:A7) 49)<|
 .grd ((y106.1.length+([(⟨(min a3 a4),(max a3 a4),y130,0,(⟨0,nl,(⟨0,0,nl⟩:azh),(⟨0,nl,nl⟩:azu)⟩:azg)⟩:az4)]:A7).length) * 160≤140737488355328/\(y106.1.length+([(⟨(min a3 a4),(max a3 a4),y130,0,(⟨0,nl,(⟨0,0,nl⟩:azh),(⟨0,nl,nl⟩:azu)⟩:azg)⟩:az4)]:A7).length)≤maxLen)<|
 .ret (.out (y106.1++([(⟨(min a3 a4),(max a3 a4),y130,0,(⟨0,nl,(⟨0,0,nl⟩:azh),(⟨0,nl,nl⟩:azu)⟩:azg)⟩:az4)]:A7))))
 (.ret (.out y106.1))) fun y129=>
 .ret y129
noncomputable def Az0 (c)(d)(e)(f)(g):=
 mkD Tryz.func40 (rzj c d e f g) 2 [.pure (bzg c),.agg [.vec 0,.vec 1],pz f,pz g] [(0,vecO 1 (encL 1 az1) d 43),(1,vecO 12 az6 e 49)] (fun _=>.vec 2) (fun r=>[(0,vecO 1 (encL 1 az1) d 43),(1,vecO 12 az6 e 49),(2,vecO 12 az6 r 49)])
set_option maxHeartbeats 8000000 in
set_option maxRecDepth 20000 in
noncomputable def rzi (c:azf)(d:A1)(e:Int):T azk:=let f:=encL 1 (encL 1 az1) d;let g:Nat×Res:=(0,.box [.pure (encL 12 az9 c.Joints),.pure (encL 5 aze c.Masses)]);let h:=(⟨c.Joints,c.Masses⟩:azf);.cc (czn h) fun i=>
 .br (i !=0)
 (.ret (⟨nl,nl⟩:azk))
 (.loop (fun (j:(A1×Int))=>⟨[(1,.pure f),(2,pz e),(3,.ptr 0 0),(6,.ptr 1 0),(7,.ptr 4 0),(8,pz j.2)],[g,(1,.box [.vec 2,.vec 3]),(2,.nilv),(3,.nilv),(4,.box [.vec 5,.vec 6]),(5,vecO 1 (encL 1 az1) j.1 43),(6,.nilv)],[],7⟩)
 (.exit 0) (fun (j:A1)=>⟨[(2,pz e),(3,.ptr 0 0),(6,.ptr 1 0),(7,.ptr 4 0)],[g,(1,.box [.vec 2,.vec 3]),(2,.nilv),(3,.nilv),(4,.box [.vec 5,.vec 6]),(5,vecO 1 (encL 1 az1) j 43),(6,.nilv)],[],7⟩)
 (fun j=>let k:=d.getD ((j.2).toNat) default;let l:=([k]:A1);let m:=j.1.length+l.length;.cut 1 (fun (n:Bool)=>⟨[(1,.pure f),(2,pz e),(3,.ptr 0 0),(6,.ptr 1 0),(7,.ptr 4 0),(8,pz j.2),(25,.pure (.bool n))],[g,(1,.box [.vec 2,.vec 3]),(2,.nilv),(3,.nilv),(4,.box [.vec 5,.vec 6]),(5,vecO 1 (encL 1 az1) j.1 43),(6,.nilv)],[],7⟩)
 (.br (decide (j.2<(d.length:Int)))
 (.oo (decide ((j.1.length:Int)<1024)))
 (.oo false)) fun n=>
 .br n
 (.cut 0 (fun (s:A1)=>⟨[(1,.pure f),(2,pz e),(3,.ptr 0 0),(6,.ptr 1 0),(7,.ptr 4 0),(8,pz j.2)],[g,(1,.box [.vec 2,.vec 3]),(2,.nilv),(3,.nilv),(4,.box [.vec 5,.vec 6]),(5,vecO 1 (encL 1 az1) s 43),(6,.nilv)],[],7⟩)
 (.cut 0 (fun (s:Bool)=>⟨[(1,.pure f),(2,pz e),(3,.ptr 0 0),(6,.ptr 1 0),(7,.ptr 4 0),(8,pz j.2),(43,.pure (.bool s))],[g,(1,.box [.vec 2,.vec 3]),(2,.nilv),(3,.nilv),(4,.box [.vec 5,.vec 6]),(5,vecO 1 (encL 1 az1) j.1 43),(6,.nilv)],[],7⟩)
 (.gh j.2 d.length<|
 .cc (lz8 h k) fun s=>
 .br s
 (.gh j.2 d.length<|
 .call (ozy j.1 k) [(0,5)] fun t=>
 .oo (decide (t<0)))
 (.oo false)) fun s=>
 .br s
 (.gh j.2 d.length<|
 .grd (k.length * 8≤140737488355328/\k.length≤maxLen)<|
 .conv 8007 (czk 1 (encL 1 az1) l 43)<|
 .conv 8008 (ez5 1 (encL 1 az1) j.1 l 43)<|
 .grd (m * 24≤140737488355328/\m≤maxLen)<|
 .oo (j.1++l))
 (.oo j.1)) fun s=>
 .nn (s,(i64.wrap (j.2+1))))
 (.oo j.1))
 (nl,0) [] fun j=>
 .loop (fun (k:A8)=>⟨[(2,pz e),(3,.ptr 0 0),(6,.ptr 1 0),(7,.ptr 4 0),(9,pz k.2)],[g,(1,.box [.vec 2,.vec 3]),(2,.nilv),(3,.nilv),(4,.box [.vec 5,.vec 6]),(5,vecO 1 (encL 1 az1) j 43),(6,vecO 12 az6 k.1 49)],[],7⟩)
 (.exit 2) (fun (k:A7)=>⟨[(6,.ptr 0 0),(7,.ptr 3 0)],[(0,.box [.vec 1,.vec 2]),(1,.nilv),(2,.nilv),(3,.box [.vec 4,.vec 5]),(4,vecO 1 (encL 1 az1) j 43),(5,vecO 12 az6 k 49)],[],6⟩)
 (fun k=>.br (decide (k.2<(j.length:Int)))
 (.gg k.2 j.length<|
 .call (qz5 c j (j.getD ((k.2).toNat) default) k.2) [(0,5)] fun l=>let m:=encL 1 az1 l;
 .loop (fun (n:A8)=>⟨[(2,pz e),(3,.ptr 0 0),(6,.ptr 1 0),(7,.ptr 4 0),(9,pz k.2),(10,.pure m),(11,pz n.2)],[g,(1,.box [.vec 2,.vec 3]),(2,.nilv),(3,.nilv),(4,.box [.vec 5,.vec 6]),(5,vecO 1 (encL 1 az1) j 43),(6,vecO 12 az6 n.1 49)],[],7⟩)
 (.exit 4) (fun (n:A7)=>⟨[(2,pz e),(3,.ptr 0 0),(6,.ptr 1 0),(7,.ptr 4 0),(9,pz k.2)],[g,(1,.box [.vec 2,.vec 3]),(2,.nilv),(3,.nilv),(4,.box [.vec 5,.vec 6]),(5,vecO 1 (encL 1 az1) j 43),(6,vecO 12 az6 n 49)],[],7⟩)
 (fun n=>.cut 1 (fun (s:Bool)=>⟨[(2,pz e),(3,.ptr 0 0),(6,.ptr 1 0),(7,.ptr 4 0),(9,pz k.2),(10,.pure m),(11,pz n.2),(79,.pure (.bool s))],[g,(1,.box [.vec 2,.vec 3]),(2,.nilv),(3,.nilv),(4,.box [.vec 5,.vec 6]),(5,vecO 1 (encL 1 az1) j 43),(6,vecO 12 az6 n.1 49)],[],7⟩)
 (.br (decide (n.2<(l.length:Int)))
 (.oo (decide (n.2<e)))
 (.oo false)) fun s=>
 .br s
 (.gh n.2 l.length<|
 .call (Az0 c j n.1 k.2 (l.getD ((n.2).toNat) default)) [(0,5),(1,6)] fun t=>
 .nn (t,(i64.wrap (n.2+1))))
 (.oo n.1))
 (k.1,0) [] fun n=>
 .nn (n,(i64.wrap (k.2+1))))
 (.oo k.1))
 (nl,0) [] fun k=>let l:=(k.length:Nat);
 .cut 0 (fun (m:A7)=>⟨[(6,.ptr 0 0),(7,.ptr 3 0)],[(0,.box [.vec 1,.vec 2]),(1,.nilv),(2,.nilv),(3,.box [.vec 4,.vec 5]),(4,vecO 1 (encL 1 az1) j 43),(5,vecO 12 az6 m 49)],[],6⟩)
 (.br (decide ((l:Int)>8192))
 (.conv 18002 (Uzs 12 az6 k 49 (8192:Int))<|
 .grd (0≤(8192:Int)/\(8192:Int)≤(l:Int)/\0≤(8192:Int).toNat)<|
 .oo (k.take ((8192:Int).toNat)))
 (.oo k)) fun m=>
 .ret (⟨j,m⟩:azk))
noncomputable def zzz (c)(d)(e):=
 mkD Tryz.func17 (rzi c d e) 0 [.pure (bzg c),.pure (encL 1 (encL 1 az1) d),pz e] [] (fun r=>.pure (czq r)) (fun _=>[])
noncomputable def uze (c:azk)(d:az4):T Bool:=let e:=(c.Points.length:Nat);.br (decide (d.U≥0))
 (.br (decide (d.U<(e:Int)))
 (.br (decide (d.V≥0))
 (.ret (decide (d.V<(e:Int))))
 (.ret false))
 (.ret false))
 (.ret false)
noncomputable def Dz2 (c)(d):=
 mkD Tryz.func42 (uze c d) 0 [.pure (czq c),.pure (az6 d)] [] (fun r=>.pure (.bool r)) (fun _=>[])
noncomputable def uzf (c:azf)(d:Int):T Bool:=
 .br (decide (d≥(-1)))
 (.ret (decide (d<(c.Joints.length:Int))))
 (.ret false)
noncomputable def ez7 (c)(d):=
 mkD Tryz.func95 (uzf c d) 0 [.pure (bzg c),pz d] [] (fun r=>.pure (.bool r)) (fun _=>[])
noncomputable def kzn (c:azd):T Int:=let d:=(c.Skips.length:Nat);let e:=(c.Shapes.length:Nat);let f:Nat×Res:=(0,.box [.pure (encL 12 az9 c.Robot.Joints),.pure (encL 5 aze c.Robot.Masses),.pure (encL 3 azj c.Shapes),.pure (encL 2 azw c.Skips)]);.cc (czn c.Robot) fun g=>
 .br (g !=0)
 (.ret g)
 (.br (decide ((e:Int)>24))
 (.ret 901)
 (.loop (fun (h:Int)=>⟨[(1,.ptr 0 0),(4,pz h)],[f],[],1⟩)
 (.exit 0) (fun (_:U0)=>⟨[(1,.ptr 0 0)],[f],[],1⟩)
 (fun h=>let i:=c.Shapes.getD (h.toNat) default;let j:=(i.Points.length:Int);let k:Nat×Res:=(1,.box [pz (i.Link),pz (i.Radius),.pure (encL 3 az3 (i.Points))]);.br (decide (h<(e:Int)))
 (.gh h c.Shapes.length<|
 .cut 1 (fun (l:Bool)=>⟨[(1,.ptr 0 0),(4,pz h),(5,.ptr 1 0),(53,.pure (.bool l))],[f,k],[],2⟩)
 (.cc (ez7 c.Robot (i.Link)) fun l=>
 .br (!l)
 (.oo true)
 (.cc (fz4 (i.Radius) 1 1048576) fun m=>
 .br (!m)
 (.oo true)
 (.br (decide (j<1))
 (.oo true)
 (.oo (decide (j>8)))))) fun l=>
 .br l
 (.ff 902)
 (.loop (fun (m:Int)=>⟨[(1,.ptr 0 0),(4,pz h),(5,.ptr 1 0),(6,pz m)],[f,k],[],2⟩)
 (.exit 2) (fun (_:U0)=>⟨[(1,.ptr 0 0),(4,pz h)],[f],[],1⟩)
 (fun m=>.br (decide (m<j))
 (.gh m (i.Points.length)<|
 .call (fzi ((i.Points).getD (m.toNat) default) 4194304) [] fun n=>
 .br (!n)
 (.ff (.fin 805))
 (.nn (i64.wrap (m+1))))
 (.oo .u))
 0 [] fun _=>
 .nn (i64.wrap (h+1))))
 (.oo .u))
 0 [] fun _=>
 .br (decide ((d:Int)>64))
 (.ret 903)
 (.loop (fun (h:Int)=>⟨[(1,.ptr 0 0),(7,pz h)],[f],[],1⟩)
 (.exit 4) (fun (_:U0)=>⟨[],[],[],0⟩)
 (fun h=>let i:=c.Skips.getD (h.toNat) default;.br (decide (h<(d:Int)))
 (.cut 1 (fun (j:Bool)=>⟨[(1,.ptr 0 0),(7,pz h),(100,.pure (.bool j))],[f],[],1⟩)
 (.gh h c.Skips.length<|
 .cc (ez7 c.Robot (i.A)) fun j=>
 .br (!j)
 (.oo true)
 (.gh h c.Skips.length<|
 .cc (ez7 c.Robot (i.B)) fun k=>
 .oo (!k))) fun j=>
 .br j
 (.ff 903)
 (.nn (i64.wrap (h+1))))
 (.oo .u))
 0 [] fun _=>
 .ret 0)))
noncomputable def fzd (c):=
 mkD Tryz.func58 (kzn c) 0 [.pure (cz6 c)] [] (fun r=>pz r) (fun _=>[])
noncomputable def uz6 (c:azd)(d:A0)(e:A0):T Bool:=
 .cc (fzd (⟨c.Robot,c.Shapes,c.Skips⟩:azd)) fun f=>
 .br (f==0)
 (.cc (lz8 c.Robot d) fun g=>
 .br g
 (.cc (lz8 c.Robot e) fun h=>
 .ret h)
 (.ret false))
 (.ret false)
noncomputable def Czw (c)(d)(e):=
 mkD Tryz.func26 (uz6 c d e) 0 [.pure (cz6 c),.pure (encL 1 az1 d),.pure (encL 1 az1 e)] [] (fun r=>.pure (.bool r)) (fun _=>[])
noncomputable def rz8 (c:A0)(d:A0)(e:Int):T Bool:=
 .cc (jz7 c) fun f=>
 .br f
 (.cc (jz7 d) fun g=>
 .br g
 (.br ((c.length:Int)==(d.length:Int))
 (.br (decide (e≥0))
 (.ret (decide (e≤20)))
 (.ret false))
 (.ret false))
 (.ret false))
 (.ret false)
noncomputable def zzs (c)(d)(e):=
 mkD Tryz.func59 (rz8 c d e) 0 [.pure (encL 1 az1 c),.pure (encL 1 az1 d),pz e] [] (fun r=>.pure (.bool r)) (fun _=>[])
noncomputable def xza (c:Int)(d:Int):T Int:=let e:=i64.wrap (c.tdiv d);.grd (d≠0)<|
 .cut 0 (fun (f:Int)=>⟨[(5,pz f)],[],[],0⟩)
 (.grd (d≠0)<|
 .br (decide ((c.tmod d)<0))
 (.oo (i64.wrap (e-1)))
 (.oo e)) fun f=>
 .ret f
noncomputable def bz9 (c)(d):=
 mkD Tryz.func60 (xza c d) 0 [pz c,pz d] [] (fun r=>pz r) (fun _=>[])
noncomputable def Bz4 (c:Int)(d:Int):T Int:=let e:=i64.wrap (c.tdiv d);.grd (d≠0)<|
 .cut 0 (fun (f:Int)=>⟨[(5,pz f)],[],[],0⟩)
 (.grd (d≠0)<|
 .br (decide ((c.tmod d)>0))
 (.oo (i64.wrap (e+1)))
 (.oo e)) fun f=>
 .ret f
noncomputable def azv (c)(d):=
 mkD Tryz.func61 (Bz4 c d) 0 [pz c,pz d] [] (fun r=>pz r) (fun _=>[])
noncomputable def tzx (c:A0)(d:A0)(e:Int)(f:Int):T (A9×Bool):=let g:=encL 1 az1 c;let h:=encL 1 az1 d;let i:=IntKind.u64.wrap e;let j:=i64.wrap (1 * 2 ^ (min i.toNat 64));.cut 2 (fun (k:Bool)=>⟨[(0,.pure g),(1,.pure h),(2,pz e),(3,pz f),(31,.pure (.bool k))],[],[],0⟩)
 (.cc (zzs c d e) fun k=>
 .br (!k)
 (.oo true)
 (.br (decide (f<0))
 (.oo true)
 (.grd (0≤i)<|
 .oo (decide (f≥j))))) fun k=>
 .br k
 (.ret (nl,false))
 (.grd (0≤i)<|
 .loop (fun (l:(A9×Int))=>⟨[(0,.pure g),(1,.pure h),(3,pz f),(10,pz j),(11,.vec 0),(12,pz l.2)],[(0,vecO 2 az7 l.1 117)],[],1⟩)
 (.exit 0) (fun (l:A9)=>⟨[(11,.vec 0)],[(0,vecO 2 az7 l 117)],[],1⟩)
 (fun l=>let m:=(l.2).toNat;let n:=c.getD m default;let s:=i64.wrap ((d.getD m default)-n);let t:=i64.wrap (f * s);.br (decide (l.2<(c.length:Int)))
 (.gh l.2 d.length<|
 .gh l.2 c.length<|
 .name 9006 ((i64.wrap ((i64.wrap (f+1)) * s))) fun w=>
 .gh l.2 c.length<|
 .name 10007 ((min t w)) fun y=>
 .call (bz9 y j) [] fun z=>
 .gh l.2 c.length<|
 .name 10017 ((max t w)) fun aa=>
 .call (azv aa j) [] fun ab=>let ac:=([(⟨(i64.wrap (n+z)),(i64.wrap (n+ab))⟩:az0)]:A9);let ad:=l.1.length+ac.length;
 .conv 10022 (czk 2 az7 ac 117)<|
 .conv 10023 (ez5 2 az7 l.1 ac 117)<|
 .grd (ad * 16≤140737488355328/\ad≤maxLen)<|
 .nn ((l.1++ac),(i64.wrap (l.2+1))))
 (.oo l.1))
 (nl,0) [] fun l=>
 .ret (l,true))
noncomputable def Czq (c)(d)(e)(f):=
 mkD Tryz.func27 (tzx c d e f) 0 [.pure (encL 1 az1 c),.pure (encL 1 az1 d),pz e,pz f] [] (fun r=>.tup [.pure (encL 2 az7 r.1),.pure (.bool r.2)]) (fun _=>[])
noncomputable def xzh (c:az0):T Bool:=
 .br (decide ((-2147483648)≤c.Lo))
 (.br (decide (c.Lo≤c.Hi))
 (.ret (decide (c.Hi≤2147483648)))
 (.ret false))
 (.ret false)
noncomputable def dzh (c):=
 mkD Tryz.func165 (xzh c) 0 [.pure (az7 c)] [] (fun r=>.pure (.bool r)) (fun _=>[])
noncomputable def mzm (c:A9):T Bool:=
 .loop (fun (d:Int)=>⟨[(0,.pure (encL 2 az7 c)),(3,pz d)],[],[],0⟩)
 (.exit 0) (fun (_:U0)=>⟨[],[],[],0⟩)
 (fun d=>.br (decide (d<(c.length:Int)))
 (.gh d c.length<|
 .cc (dzh (c.getD (d.toNat) default)) fun e=>
 .br (!e)
 (.ff false)
 (.nn (i64.wrap (d+1))))
 (.oo .u))
 0 [] fun _=>
 .ret true
noncomputable def vzd (c):=
 mkD Tryz.func152 (mzm c) 0 [.pure (encL 2 az7 c)] [] (fun r=>.pure (.bool r)) (fun _=>[])
noncomputable def tzs (c:azf)(d:A9):T Bool:=
 .br ((d.length:Int)==(c.Joints.length:Int))
 (.cc (vzd d) fun e=>
 .ret e)
 (.ret false)
noncomputable def nzf (c)(d):=
 mkD Tryz.func97 (tzs c d) 0 [.pure (bzg c),.pure (encL 2 az7 d)] [] (fun r=>.pure (.bool r)) (fun _=>[])
noncomputable def xz9 (c:Int):T Int:=
 .ret (max (-2147483648) (min c 2147483648))
noncomputable def lzr (c):=
 mkD Tryz.func250 (xz9 c) 0 [pz c] [] (fun r=>pz r) (fun _=>[])
noncomputable def Izx (c:Int):T az0:=
 .cc (lzr c) fun d=>
 .cc (lzr c) fun e=>
 .ret (⟨d,e⟩:az0)
noncomputable def lzs (c):=
 mkD Tryz.func235 (Izx c) 0 [pz c] [] (fun r=>.pure (az7 r)) (fun _=>[])
noncomputable def ref1_Unit_T:T B2:=
 .cc (lzs 65536) fun c=>
 .ret ((c,(⟨0,0⟩:az0),(⟨0,0⟩:az0)),((⟨0,0⟩:az0),c,(⟨0,0⟩:az0)),((⟨0,0⟩:az0),(⟨0,0⟩:az0),c))
noncomputable def ref1_Unit_C:CallS B2:=
 mkD Tryz.func200 (ref1_Unit_T) 0 [] [] (fun r=>.pure (bza r)) (fun _=>[])
noncomputable def ref1_Rest_T:T azr:=
 .cc (ref1_Unit_C) fun c=>
 .ret (⟨c,((⟨0,0⟩:az0),(⟨0,0⟩:az0),(⟨0,0⟩:az0))⟩:azr)
noncomputable def ref1_Rest_C:CallS azr:=
 mkD Tryz.func154 (ref1_Rest_T) 0 [] [] (fun r=>.pure (bzj r)) (fun _=>[])
noncomputable def Ezp (c:Int):T Int:=
 .ok ((65536:Int)≠0) (by decide)<|
 .ok ((65536:Int)≠0) (by decide)<|
 .ret ((i64.wrap ((c.tmod 65536)+65536)).tmod 65536)
noncomputable def yzk (c):=
 mkD Tryz.func283 (Ezp c) 0 [pz c] [] (fun r=>pz r) (fun _=>[])
noncomputable def uzd (c:Int):T (Bi×Bi):=
 .cc (bz9 (i64.wrap (c * 6746518852)) 65536) fun d=>
 .ix 1 11 rfl<|
 .cc (azv (i64.wrap (c * 6746518853)) 65536) fun e=>
 .ix 1 11 rfl<|
 .unroll 10<|
 .known true<|
 .lit 7002 (1)<|
 .ix 1 11 rfl<|
 .ix 1 11 rfl<|
 .cc (bz9 (i64.wrap (d * d)) 1073741824) fun f=>
 .ix 2 11 rfl<|
 .lit 8002 (1)<|
 .ix 1 11 rfl<|
 .ix 1 11 rfl<|
 .cc (azv (i64.wrap (e * e)) 1073741824) fun g=>
 .ix 2 11 rfl<|
 .lit 6001 (3)<|
 .known true<|
 .lit 7002 (2)<|
 .ix 2 11 rfl<|
 .ix 1 11 rfl<|
 .cc (bz9 (i64.wrap (f * d)) 1073741824) fun h=>
 .ix 3 11 rfl<|
 .lit 8002 (2)<|
 .ix 2 11 rfl<|
 .ix 1 11 rfl<|
 .cc (azv (i64.wrap (g * e)) 1073741824) fun i=>
 .ix 3 11 rfl<|
 .lit 6001 (4)<|
 .known true<|
 .lit 7002 (3)<|
 .ix 3 11 rfl<|
 .ix 1 11 rfl<|
 .cc (bz9 (i64.wrap (h * d)) 1073741824) fun j=>
 .ix 4 11 rfl<|
 .lit 8002 (3)<|
 .ix 3 11 rfl<|
 .ix 1 11 rfl<|
 .cc (azv (i64.wrap (i * e)) 1073741824) fun k=>
 .ix 4 11 rfl<|
 .lit 6001 (5)<|
 .known true<|
 .lit 7002 (4)<|
 .ix 4 11 rfl<|
 .ix 1 11 rfl<|
 .cc (bz9 (i64.wrap (j * d)) 1073741824) fun l=>
 .ix 5 11 rfl<|
 .lit 8002 (4)<|
 .ix 4 11 rfl<|
 .ix 1 11 rfl<|
 .cc (azv (i64.wrap (k * e)) 1073741824) fun m=>
 .ix 5 11 rfl<|
 .lit 6001 (6)<|
 .known true<|
 .lit 7002 (5)<|
 .ix 5 11 rfl<|
 .ix 1 11 rfl<|
 .cc (bz9 (i64.wrap (l * d)) 1073741824) fun n=>
 .ix 6 11 rfl<|
 .lit 8002 (5)<|
 .ix 5 11 rfl<|
 .ix 1 11 rfl<|
 .cc (azv (i64.wrap (m * e)) 1073741824) fun s=>
 .ix 6 11 rfl<|
 .lit 6001 (7)<|
 .known true<|
 .lit 7002 (6)<|
 .ix 6 11 rfl<|
 .ix 1 11 rfl<|
 .cc (bz9 (i64.wrap (n * d)) 1073741824) fun t=>
 .ix 7 11 rfl<|
 .lit 8002 (6)<|
 .ix 6 11 rfl<|
 .ix 1 11 rfl<|
 .cc (azv (i64.wrap (s * e)) 1073741824) fun w=>
 .ix 7 11 rfl<|
 .lit 6001 (8)<|
 .known true<|
 .lit 7002 (7)<|
 .ix 7 11 rfl<|
 .ix 1 11 rfl<|
 .cc (bz9 (i64.wrap (t * d)) 1073741824) fun y=>
 .ix 8 11 rfl<|
 .lit 8002 (7)<|
 .ix 7 11 rfl<|
 .ix 1 11 rfl<|
 .cc (azv (i64.wrap (w * e)) 1073741824) fun z=>
 .ix 8 11 rfl<|
 .lit 6001 (9)<|
 .known true<|
 .lit 7002 (8)<|
 .ix 8 11 rfl<|
 .ix 1 11 rfl<|
 .cc (bz9 (i64.wrap (y * d)) 1073741824) fun aa=>
 .ix 9 11 rfl<|
 .lit 8002 (8)<|
 .ix 8 11 rfl<|
 .ix 1 11 rfl<|
 .cc (azv (i64.wrap (z * e)) 1073741824) fun ab=>
 .ix 9 11 rfl<|
 .lit 6001 (10)<|
 .known true<|
 .lit 7002 (9)<|
 .ix 9 11 rfl<|
 .ix 1 11 rfl<|
 .cc (bz9 (i64.wrap (aa * d)) 1073741824) fun ac=>
 .ix 10 11 rfl<|
 .lit 8002 (9)<|
 .ix 9 11 rfl<|
 .ix 1 11 rfl<|
 .cc (azv (i64.wrap (ab * e)) 1073741824) fun ad=>
 .ix 10 11 rfl<|
 .lit 6001 (11)<|
 .known false<|
 .ret ((0,d,f,h,j,l,n,t,y,aa,ac),(0,e,g,i,k,m,s,w,z,ab,ad))
noncomputable def uzc (c):=
 mkD Tryz.func301 (uzd c) 0 [pz c] [] (fun r=>.tup [.pure (hzi r.1),.pure (hzi r.2)]) (fun _=>[])
noncomputable def mzp (c:Int)(d:Int):T az0:=
 .cc (bz9 c 16384) fun e=>
 .cc (azv d 16384) fun f=>
 .ret (⟨(max 0 e),(min 65536 f)⟩:az0)
noncomputable def mzo (c)(d):=
 mkD Tryz.func302 (mzp c d) 0 [pz c,pz d] [] (fun r=>.pure (az7 r)) (fun _=>[])
noncomputable def Bza (c:Int):T az0:=
 .cc (uzc c) fun d=>
 .ix 1 11 rfl<|
 .ix 3 11 rfl<|
 .cc (azv d.2.2.2.2.1 6) fun e=>
 .ix 5 11 rfl<|
 .cc (bz9 d.1.2.2.2.2.2.1 120) fun f=>
 .ix 7 11 rfl<|
 .cc (azv d.2.2.2.2.2.2.2.2.1 5040) fun g=>
 .ix 1 11 rfl<|
 .ix 3 11 rfl<|
 .cc (bz9 d.1.2.2.2.1 6) fun h=>
 .ix 5 11 rfl<|
 .cc (azv d.2.2.2.2.2.2.1 120) fun i=>
 .ix 7 11 rfl<|
 .cc (bz9 d.1.2.2.2.2.2.2.2.1 5040) fun j=>
 .ix 9 11 rfl<|
 .cc (azv d.2.2.2.2.2.2.2.2.2.2.1 362880) fun k=>
 .call (mzo (i64.wrap ((i64.wrap ((i64.wrap (d.1.2.1-e))+f))-g)) (i64.wrap ((i64.wrap ((i64.wrap ((i64.wrap (d.2.2.1-h))+i))-j))+k))) [] fun l=>
 .ret l
noncomputable def Jz3 (c):=
 mkD Tryz.func295 (Bza c) 0 [pz c] [] (fun r=>.pure (az7 r)) (fun _=>[])
noncomputable def uzb (c:Int):T az0:=
 .cc (uzc c) fun d=>
 .ix 2 11 rfl<|
 .cc (azv d.2.2.2.1 2) fun e=>
 .ix 4 11 rfl<|
 .cc (bz9 d.1.2.2.2.2.1 24) fun f=>
 .ix 6 11 rfl<|
 .cc (azv d.2.2.2.2.2.2.2.1 720) fun g=>
 .ix 8 11 rfl<|
 .cc (bz9 d.1.2.2.2.2.2.2.2.2.1 40320) fun h=>
 .ix 10 11 rfl<|
 .cc (azv d.2.2.2.2.2.2.2.2.2.2.2 3628800) fun i=>
 .name 2019 ((i64.wrap ((i64.wrap ((i64.wrap ((i64.wrap ((i64.wrap (1073741824-e))+f))-g))+h))-i))) fun j=>
 .ix 2 11 rfl<|
 .cc (bz9 d.1.2.2.1 2) fun k=>
 .ix 4 11 rfl<|
 .cc (azv d.2.2.2.2.2.1 24) fun l=>
 .ix 6 11 rfl<|
 .cc (bz9 d.1.2.2.2.2.2.2.1 720) fun m=>
 .ix 8 11 rfl<|
 .cc (azv d.2.2.2.2.2.2.2.2.2.1 40320) fun n=>
 .call (mzo j (i64.wrap ((i64.wrap ((i64.wrap ((i64.wrap (1073741824-k))+l))-m))+n))) [] fun s=>
 .ret s
noncomputable def Dz0 (c):=
 mkD Tryz.func296 (uzb c) 0 [pz c] [] (fun r=>.pure (az7 r)) (fun _=>[])
noncomputable def rze (c:Int):T az0:=
 .br (decide (c≤8192))
 (.cc (Jz3 c) fun d=>
 .ret d)
 (.cc (Dz0 (i64.wrap (16384-c))) fun d=>
 .ret d)
noncomputable def hz9 (c):=
 mkD Tryz.func284 (rze c) 0 [pz c] [] (fun r=>.pure (az7 r)) (fun _=>[])
noncomputable def Ezs (c:az0):T az0:=
 .cc (dzh c) fun d=>
 .br (!d)
 (.ret (⟨0,0⟩:az0))
 (.ret (⟨(i64.wrap (0-c.Hi)),(i64.wrap (0-c.Lo))⟩:az0))
noncomputable def yzl (c):=
 mkD Tryz.func261 (Ezs c) 0 [.pure (az7 c)] [] (fun r=>.pure (az7 r)) (fun _=>[])
noncomputable def Ezt (c:Int):T az0:=
 .cc (yzk c) fun d=>let e:=d.tmod 16384;let f:=i64.wrap (d.tdiv 16384);let g:=i64.wrap (16384-e);
 .ok ((16384:Int)≠0) (by decide)<|
 .ok ((16384:Int)≠0) (by decide)<|
 .br (f==0)
 (.cc (hz9 e) fun h=>
 .ret h)
 (.br (f==1)
 (.cc (hz9 g) fun h=>
 .ret h)
 (.br (f==2)
 (.cc (hz9 e) fun h=>
 .cc (yzl h) fun i=>
 .ret i)
 (.cc (hz9 g) fun h=>
 .cc (yzl h) fun i=>
 .ret i)))
noncomputable def yzm (c):=
 mkD Tryz.func274 (Ezt c) 0 [pz c] [] (fun r=>.pure (az7 r)) (fun _=>[])
noncomputable def Ezn (c:Int):T az0:=
 .cc (yzk c) fun d=>
 .cc (yzm (i64.wrap (d+16384))) fun e=>
 .ret e
noncomputable def Ezm (c):=
 mkD Tryz.func273 (Ezn c) 0 [pz c] [] (fun r=>.pure (az7 r)) (fun _=>[])
noncomputable def Bz5 (c:az0)(d:az0):T az0:=
 .cut 2 (fun (e:Bool)=>⟨[(2,.ptr 0 0),(3,.ptr 1 0),(4,.ptr 2 0),(12,.pure (.bool e))],[(0,.box [pz c.Lo,pz c.Hi]),(1,.box [pz d.Lo,pz d.Hi]),(2,.box [pz 0,pz 0])],[],3⟩)
 (.cc (dzh c) fun e=>
 .br (!e)
 (.oo true)
 (.cc (dzh d) fun f=>
 .oo (!f))) fun e=>
 .br e
 (.ret (⟨0,0⟩:az0))
 (.ret (⟨(min c.Lo d.Lo),(max c.Hi d.Hi)⟩:az0))
noncomputable def uz9 (c)(d):=
 mkD Tryz.func281 (Bz5 c d) 0 [.pure (az7 c),.pure (az7 d)] [] (fun r=>.pure (az7 r)) (fun _=>[])
noncomputable def xzj (c:az0)(d:Int):T Bool:=
 .cc (yzk (i64.wrap (d-c.Lo))) fun e=>
 .ret (decide ((i64.wrap (c.Lo+e))≤c.Hi))
noncomputable def xzi (c)(d):=
 mkD Tryz.func282 (xzj c d) 0 [.pure (az7 c),pz d] [] (fun r=>.pure (.bool r)) (fun _=>[])
end Go.Abs
