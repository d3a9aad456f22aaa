/-
  M1 (a part of a claim: our own text).
-/
import Derived.Test.YtkbjjlfpbebiaaaGreatDoorYKRngF
import Derived.Test.YtkbjjlfpbebiaaaGreatDoorYKLend
import Derived.Test.YtkbjjlfpbebiaaaGreatDoorChecked
namespace Go.Abs
open IntKind (i64)
open Go.Proofs
abbrev pz (x:Int):AVal:=.pure (.int .i64 x)
theorem hd:ezp Tryz.prog Tze:=Nz3 (by kernel_rfl)
noncomputable abbrev mkD {R:Type}{f:FuncId}{fn:Func}(hf:Tryz.prog.funcs[f]?=some fn)(t:T R)(k:Nat)(args:List AVal)(m:Mem)(res:R->AVal)(m1:R->Mem)(hb:(fn.body.isSome&& !(fn.name== "runtime.NumGoroutine"))=true:=by kernel_rfl)(h:(qzz Tryz.prog [] Tze fn (fn.body.getD .skip) k k t args m res m1).side true=(qzz Tryz.prog [] Tze fn (fn.body.getD .skip) k k t args m res m1).side false:=by kernel_rfl):CallS R:=mkC [] hd hf hb t k args m res m1 h
abbrev T.gg {R:Type}(i:Int)(n:Nat)(k:T R):T R:=.grd (0≤i/\i<(n:Int)) (.grd (i.toNat<n) k)
abbrev T.gh {R:Type}(i:Int)(n:Nat)(k:T R):T R:=.grd (0≤i/\i<(n:Int)) k
abbrev T.gi {R:Type}(i:Int)(n:Nat)(k:T R):T R:=.grd (i.toNat<n/\0≤i.toNat) k
abbrev T.oo {σ τ R:Type}(y:τ):T (Step3 σ τ R):=.ret (.out y)
abbrev T.nn {σ τ R:Type}(x:σ):T (Step3 σ τ R):=.ret (.next x)
abbrev T.ff {σ τ R:Type}(r:R):T (Step3 σ τ R):=.ret (.fin r)
abbrev T.cc {R α:Type}(c:CallS α)(k:α->T R):T R:=.call c [] k
structure Gz0 where
 list:(List Int)
 next:Int
instance:Inhabited Gz0:=⟨⟨default,default⟩⟩
structure azs where
 Name:ByteArray
 Kind:Int
 Parent:Int
 Offset:(Int×Int×Int)
 Lo:Int
 Hi:Int
 Weight:Int
 Speed:Int
 Accel:Int
 Torque:Int
instance:Inhabited azs:=⟨⟨default,default,default,default,default,default,default,default,default,default⟩⟩
structure bzo where
 Link:Int
 Mass:Int
 Point:(Int×Int×Int)
instance:Inhabited bzo:=⟨⟨default,default,default⟩⟩
structure bz1 where
 Joints:(List azs)
 Masses:(List bzo)
instance:Inhabited bz1:=⟨⟨default,default⟩⟩
structure azg where
 Link:Int
 Radius:Int
 Points:(List (Int×Int×Int))
instance:Inhabited azg:=⟨⟨default,default,default⟩⟩
structure czv where
 A:Int
 B:Int
instance:Inhabited czv:=⟨⟨default,default⟩⟩
structure azx where
 Robot:bz1
 Shapes:(List azg)
 Skips:(List czv)
instance:Inhabited azx:=⟨⟨default,default,default⟩⟩
structure bz9 where
 Name:ByteArray
 Shapes:(List azg)
instance:Inhabited bz9:=⟨⟨default,default⟩⟩
structure dzo where
 Link:Int
 Offset:(Int×Int×Int)
instance:Inhabited dzo:=⟨⟨default,default⟩⟩
structure cze where
 Hand:Int
 Place:Int
 At:(List Int)
instance:Inhabited cze:=⟨⟨default,default,default⟩⟩
structure azb where
 Scene:azx
 Objects:(List bz9)
 Places:(List (Int×Int×Int))
 Hands:(List dzo)
 Grips:(List cze)
 Slack:Int
instance:Inhabited azb:=⟨⟨default,default,default,default,default,default⟩⟩
structure bz5 where
 Where:(List Int)
instance:Inhabited bz5:=⟨⟨default⟩⟩
structure dzd where
 Samples:Int
 Degree:Int
 Depth:Int
 Tests:Int
instance:Inhabited dzd:=⟨⟨default,default,default,default⟩⟩
structure azi where
 Kind:Int
 Hand:Int
 Place:Int
instance:Inhabited azi:=⟨⟨default,default,default⟩⟩
structure ez3 where
 Depth:Int
 Index:Int
 Numbers:(List Int)
instance:Inhabited ez3:=⟨⟨default,default,default⟩⟩
structure bz0 where
 Table:(List (Int×Int×Int))
 Uses:(List ez3)
instance:Inhabited bz0:=⟨⟨default,default⟩⟩
structure czj where
 Points:(List (List Int))
 Edges:(List bz0)
instance:Inhabited czj:=⟨⟨default,default⟩⟩
structure azl where
 Action:azi
 Grip:Int
 Path:czj
instance:Inhabited azl:=⟨⟨default,default,default⟩⟩
structure aza where
 where_:(Int×Int×Int×Int×Int×Int)
 last:Int
 action:azi
instance:Inhabited aza:=⟨⟨default,default,default⟩⟩
structure pzd where
 Mode:bz5
 Action:azi
instance:Inhabited pzd:=⟨⟨default,default⟩⟩
structure dzv where
 in_:(Int×Int×Int×Int×Int×Int)
 by_:azi
instance:Inhabited dzv:=⟨⟨default,default⟩⟩
structure cz0 where
 before:(Int×Int×Int×Int×Int×Int)
 by_:azi
instance:Inhabited cz0:=⟨⟨default,default⟩⟩
structure az0 where
 Lo:Int
 Hi:Int
instance:Inhabited az0:=⟨⟨default,default⟩⟩
structure czk where
 R:((az0×az0×az0)×(az0×az0×az0)×(az0×az0×az0))
 T:(az0×az0×az0)
instance:Inhabited czk:=⟨⟨default,default⟩⟩
structure hz5 where
 A:Int
 B:Int
instance:Inhabited hz5:=⟨⟨default,default⟩⟩
structure cz7 where
 shapes:(List azg)
 pairs:(List hz5)
 points:(List (List (az0×az0×az0)))
instance:Inhabited cz7:=⟨⟨default,default,default⟩⟩
structure dzx where
 Pair:Int
 Left:(List Int)
 Right:(List Int)
instance:Inhabited dzx:=⟨⟨default,default,default⟩⟩
structure fz5 where
 Kind:Int
 Normals:(List (Int×Int×Int))
 Witness:dzx
instance:Inhabited fz5:=⟨⟨default,default,default⟩⟩
structure ezq where
 a:(List (az0×az0×az0))
 b:(List (az0×az0×az0))
 ra:Int
 rb:Int
instance:Inhabited ezq:=⟨⟨default,default,default,default⟩⟩
structure ezz where
 points:(List (az0×az0×az0))
 radius:Int
instance:Inhabited ezz:=⟨⟨default,default⟩⟩
structure czz where
 a:ezz
 b:ezz
instance:Inhabited czz:=⟨⟨default,default⟩⟩
structure mzz where
 Kind:Int
 Normal:(Int×Int×Int)
 Left:(List Int)
 Right:(List Int)
 Steps:Int
instance:Inhabited mzz:=⟨⟨default,default,default,default,default⟩⟩
structure mzl where
 points:(List (Int×Int×Int))
 weights:(List Int)
instance:Inhabited mzl:=⟨⟨default,default⟩⟩
structure sz0 where
 list:mzl
instance:Inhabited sz0:=⟨⟨default⟩⟩
structure pzj where
 list:mzl
instance:Inhabited pzj:=⟨⟨default⟩⟩
structure Azb where
 left:sz0
 right:pzj
 normal:(Int×Int×Int)
 rounds:Int
instance:Inhabited Azb:=⟨⟨default,default,default,default⟩⟩
structure dzp where
 witness:dzx
instance:Inhabited dzp:=⟨⟨default⟩⟩
structure bzr where
 normals:(List (Int×Int×Int))
instance:Inhabited bzr:=⟨⟨default⟩⟩
structure azm where
 Depth:Int
 Index:Int
 Normals:(List (Int×Int×Int))
instance:Inhabited azm:=⟨⟨default,default,default⟩⟩
structure bzw where
 Kind:Int
 Pieces:(List azm)
 At:azm
 Witness:dzx
instance:Inhabited bzw:=⟨⟨default,default,default,default⟩⟩
structure az9 where
 U:Int
 V:Int
 Cost:Int
 State:Int
 Proof:bzw
instance:Inhabited az9:=⟨⟨default,default,default,default,default⟩⟩
structure bz2 where
 Points:(List (List Int))
 Edges:(List az9)
instance:Inhabited bz2:=⟨⟨default,default⟩⟩
structure bz7 where
 Point:Int
 Axis:Int
 Low:Int
 High:Int
instance:Inhabited bz7:=⟨⟨default,default,default,default⟩⟩
structure czw where
 joints:(List azs)
 points:(List (List Int))
 tree:(List bz7)
 q:(List Int)
instance:Inhabited czw:=⟨⟨default,default,default,default⟩⟩
structure mzk where
 Vertices:(List Int)
 Cost:Int
instance:Inhabited mzk:=⟨⟨default,default⟩⟩
structure azf where
 to:Int
 cost:Int
instance:Inhabited azf:=⟨⟨default,default⟩⟩
structure azk where
 cost:Int
 points:Int
instance:Inhabited azk:=⟨⟨default,default⟩⟩
structure azt where
 rank:azk
 point:Int
instance:Inhabited azt:=⟨⟨default,default⟩⟩
structure dzr where
 scene:azx
 depth:Int
instance:Inhabited dzr:=⟨⟨default,default⟩⟩
structure bzh where
 scene:azx
 p:(List Int)
 q:(List Int)
 pieces:(List azm)
instance:Inhabited bzh:=⟨⟨default,default,default,default⟩⟩
structure Izb where
 points:(List (az0×az0×az0))
 radius:Int
instance:Inhabited Izb:=⟨⟨default,default⟩⟩
abbrev A0:=List Int
abbrev A1:=List A0
abbrev A2:=A0×A0
abbrev A3:=A0×Int
abbrev A4:=List azs
abbrev A5:=List azg
abbrev A6:=List dzo
abbrev A7:=List bz9
abbrev A8:=List cze
abbrev A9:=List bzo
abbrev Aa:=List azi
abbrev Ab:=Aa×Int
abbrev Ac:=List pzd
abbrev Ad:=A5×Int
abbrev Ae:=List czv
abbrev Af:=List az0
abbrev Ag:=List czk
abbrev Ah:=List hz5
abbrev Ai:=List bz7
abbrev Aj:=List az9
abbrev Ak:=A1×Aj
abbrev Al:=Aj×Int
abbrev Am:=List azm
abbrev An:=Am×Int
abbrev Ao:=A1×Int
abbrev Ap:=List azf
abbrev Aq:=List Ap
abbrev Ar:=List azt
abbrev As:=List azk
abbrev Au:=List ez3
abbrev Av:=List bz0
abbrev Aw:=Av×Int
abbrev Ax:=List azl
abbrev Ay:=Int×Int
abbrev Az:=List Ay
abbrev B0:=Az×Int
abbrev B2:=List (Ay×Bool)
abbrev B4:=List (aza×azl)
abbrev B6:=List (dzv×Bool)
abbrev B7:=Int×Bool
abbrev B8:=A0×A1×Int
abbrev B9:=A1×Int×A0
abbrev Ba:=Int×A0×A0
abbrev Bb:=A0×A0×Int
abbrev Bc:=A0×Int×Int
abbrev Bd:=A1×Int×Int
abbrev Be:=Az×Int×Int
abbrev Bf:=A1×Aj×Bool
abbrev Bg:=Int×Int×Int
abbrev Bh:=List Bg
abbrev Bi:=Bh×Int
abbrev Bk:=List (Bg×Int)
abbrev Bl:=Bg×Bool
abbrev Bm:=az0×az0×az0
abbrev Bn:=List Bm
abbrev Bo:=Bm×Bm×Bm
abbrev Bp:=A1×Int×Bool
abbrev Bq:=Bool×Int×Int
abbrev Br:=Int×Int×Bool
abbrev Bs:=Bool×Bool×Bg
abbrev Bt:=Bool×Bool×Bool
abbrev Bu:=Int×A0×A1×Ai
abbrev Bv:=A0×Int×A8×Int
abbrev Bw:=A0×Int×A0×Int
abbrev Bx:=A1×Int×A0×Int
abbrev By:=Am×Int×Int×Bh
abbrev Bz:=Int×Int×A1×Int
abbrev C0:=Int×A0×Int×Int
abbrev C1:=Int×Int×Int×Int
abbrev C2:=Bool×ByteArray×A5
abbrev C3:=A1×Int×A0×Int×Int
abbrev C4:=Int×Int×Int×Int×Int
abbrev C5:=A0×B4×A0×Ax×Int×Int
abbrev C6:=Int×Int×Int×Int×Int×Int
abbrev C7:=List C6
abbrev C8:=C6×cz0
abbrev C9:=List C8
abbrev Ca:=C9×C7×Int
abbrev Cb:=A4×A1×Ai×A0×A0×A0×Int
abbrev Cc:=Bool×Bg×Bn×Bn×Int×Int×Bh
abbrev Cd:=B4×Int×Int×Int×Int×A1×Av
abbrev Ce:=Int×Int×Int×Int×Int×Int×Int×Int×Int×Int
abbrev Cf:=Ce×Bool
abbrev Cg:=Int×Int×Int×Int×Int×Int×Int×Int×Int×Int×Int
abbrev Ch:=Bool×Am×Int×Am×Int×Int×Bh×Int×A0×A0×A0×A0×A4×A9×A5×Ae×Int
abbrev Ci:=Int×Int×Int×Int×Int×Int×Int×Int×Int×Int×Int×Int×Int×Int×Int×Int×Int×Int×Int×Int×Int×Int×Int×Int
def az7 (v:azs):PVal:=.agg [.str v.Name,.int .i64 v.Kind,.int .i64 v.Parent,.int .i64 v.Offset.1,.int .i64 v.Offset.2.1,.int .i64 v.Offset.2.2,.int .i64 v.Lo,.int .i64 v.Hi,.int .i64 v.Weight,.int .i64 v.Speed,.int .i64 v.Accel,.int .i64 v.Torque]
def azc (v:bzo):PVal:=.agg [.int .i64 v.Link,.int .i64 v.Mass,.int .i64 v.Point.1,.int .i64 v.Point.2.1,.int .i64 v.Point.2.2]
def dz2 (v:bz1):PVal:=.agg [encL 12 az7 v.Joints,encL 5 azc v.Masses]
def az2 (v:Bg):PVal:=.agg [.int .i64 v.1,.int .i64 v.2.1,.int .i64 v.2.2]
def az8 (v:azg):PVal:=.agg [.int .i64 v.Link,.int .i64 v.Radius,encL 3 az2 v.Points]
def aze (v:czv):PVal:=.agg [.int .i64 v.A,.int .i64 v.B]
def czl (v:azx):PVal:=.agg [encL 12 az7 v.Robot.Joints,encL 5 azc v.Robot.Masses,encL 3 az8 v.Shapes,encL 2 aze v.Skips]
def azh (v:bz9):PVal:=.agg [.str v.Name,encL 3 az8 v.Shapes]
def azv (v:dzo):PVal:=.agg [.int .i64 v.Link,.int .i64 v.Offset.1,.int .i64 v.Offset.2.1,.int .i64 v.Offset.2.2]
def azu (v:cze):PVal:=.agg [.int .i64 v.Hand,.int .i64 v.Place,encL 1 az1 v.At]
def bzm (v:azb):PVal:=.agg [encL 12 az7 v.Scene.Robot.Joints,encL 5 azc v.Scene.Robot.Masses,encL 3 az8 v.Scene.Shapes,encL 2 aze v.Scene.Skips,encL 2 azh v.Objects,encL 3 az2 v.Places,encL 4 azv v.Hands,encL 3 azu v.Grips,.int .i64 v.Slack]
def ezb (v:bz5):PVal:=.agg [encL 1 az1 v.Where]
def rz2 (v:dzd):PVal:=.agg [.int .i64 v.Samples,.int .i64 v.Degree,.int .i64 v.Depth,.int .i64 v.Tests]
def azn (v:azi):PVal:=.agg [.int .i64 v.Kind,.int .i64 v.Hand,.int .i64 v.Place]
def cz3 (v:ez3):PVal:=.agg [.int .i64 v.Depth,.int .i64 v.Index,encL 1 az1 v.Numbers]
def azw (v:bz0):PVal:=.agg [encL 3 az2 v.Table,encL 3 cz3 v.Uses]
def mz1 (v:czj):PVal:=.agg [encL 1 (encL 1 az1) v.Points,encL 2 azw v.Edges]
def azr (v:azl):PVal:=.agg [.int .i64 v.Action.Kind,.int .i64 v.Action.Hand,.int .i64 v.Action.Place,.int .i64 v.Grip,encL 1 (encL 1 az1) v.Path.Points,encL 2 azw v.Path.Edges]
def az5 (v:aza):List PVal:=[.int .i64 v.where_.1,.int .i64 v.where_.2.1,.int .i64 v.where_.2.2.1,.int .i64 v.where_.2.2.2.1,.int .i64 v.where_.2.2.2.2.1,.int .i64 v.where_.2.2.2.2.2,.int .i64 v.last,.int .i64 v.action.Kind,.int .i64 v.action.Hand,.int .i64 v.action.Place]
def pzv (v:pzd):PVal:=.agg [encL 1 az1 v.Mode.Where,.int .i64 v.Action.Kind,.int .i64 v.Action.Hand,.int .i64 v.Action.Place]
def bzk (v:dzv):List PVal:=[.int .i64 v.in_.1,.int .i64 v.in_.2.1,.int .i64 v.in_.2.2.1,.int .i64 v.in_.2.2.2.1,.int .i64 v.in_.2.2.2.2.1,.int .i64 v.in_.2.2.2.2.2,.int .i64 v.by_.Kind,.int .i64 v.by_.Hand,.int .i64 v.by_.Place]
def bzg (v:cz0):PVal:=.agg [.int .i64 v.before.1,.int .i64 v.before.2.1,.int .i64 v.before.2.2.1,.int .i64 v.before.2.2.2.1,.int .i64 v.before.2.2.2.2.1,.int .i64 v.before.2.2.2.2.2,.int .i64 v.by_.Kind,.int .i64 v.by_.Hand,.int .i64 v.by_.Place]
def bzb (v:C6):PVal:=.agg [.int .i64 v.1,.int .i64 v.2.1,.int .i64 v.2.2.1,.int .i64 v.2.2.2.1,.int .i64 v.2.2.2.2.1,.int .i64 v.2.2.2.2.2]
def azj (v:C6):List PVal:=[.int .i64 v.1,.int .i64 v.2.1,.int .i64 v.2.2.1,.int .i64 v.2.2.2.1,.int .i64 v.2.2.2.2.1,.int .i64 v.2.2.2.2.2]
def azd (v:az0):PVal:=.agg [.int .i64 v.Lo,.int .i64 v.Hi]
def dz1 (v:czk):PVal:=.agg [.int .i64 v.R.1.1.Lo,.int .i64 v.R.1.1.Hi,.int .i64 v.R.1.2.1.Lo,.int .i64 v.R.1.2.1.Hi,.int .i64 v.R.1.2.2.Lo,.int .i64 v.R.1.2.2.Hi,.int .i64 v.R.2.1.1.Lo,.int .i64 v.R.2.1.1.Hi,.int .i64 v.R.2.1.2.1.Lo,.int .i64 v.R.2.1.2.1.Hi,.int .i64 v.R.2.1.2.2.Lo,.int .i64 v.R.2.1.2.2.Hi,.int .i64 v.R.2.2.1.Lo,.int .i64 v.R.2.2.1.Hi,.int .i64 v.R.2.2.2.1.Lo,.int .i64 v.R.2.2.2.1.Hi,.int .i64 v.R.2.2.2.2.Lo,.int .i64 v.R.2.2.2.2.Hi,.int .i64 v.T.1.Lo,.int .i64 v.T.1.Hi,.int .i64 v.T.2.1.Lo,.int .i64 v.T.2.1.Hi,.int .i64 v.T.2.2.Lo,.int .i64 v.T.2.2.Hi]
def Bz3 (v:C1):PVal:=.agg [.int .i64 v.1,.int .i64 v.2.1,.int .i64 v.2.2.1,.int .i64 v.2.2.2]
def bzj (v:Bo):PVal:=.agg [.int .i64 v.1.1.Lo,.int .i64 v.1.1.Hi,.int .i64 v.1.2.1.Lo,.int .i64 v.1.2.1.Hi,.int .i64 v.1.2.2.Lo,.int .i64 v.1.2.2.Hi,.int .i64 v.2.1.1.Lo,.int .i64 v.2.1.1.Hi,.int .i64 v.2.1.2.1.Lo,.int .i64 v.2.1.2.1.Hi,.int .i64 v.2.1.2.2.Lo,.int .i64 v.2.1.2.2.Hi,.int .i64 v.2.2.1.Lo,.int .i64 v.2.2.1.Hi,.int .i64 v.2.2.2.1.Lo,.int .i64 v.2.2.2.1.Hi,.int .i64 v.2.2.2.2.Lo,.int .i64 v.2.2.2.2.Hi]
def az3 (v:Bm):PVal:=.agg [.int .i64 v.1.Lo,.int .i64 v.1.Hi,.int .i64 v.2.1.Lo,.int .i64 v.2.1.Hi,.int .i64 v.2.2.Lo,.int .i64 v.2.2.Hi]
def gz3 (v:hz5):PVal:=.agg [.int .i64 v.A,.int .i64 v.B]
def izt (v:cz7):PVal:=.agg [encL 3 az8 v.shapes,encL 2 gz3 v.pairs,encL 1 (encL 6 az3) v.points]
def szq (v:fz5):PVal:=.agg [.int .i64 v.Kind,encL 3 az2 v.Normals,.int .i64 v.Witness.Pair,encL 1 az1 v.Witness.Left,encL 1 az1 v.Witness.Right]
def szr (v:ezq):PVal:=.agg [encL 6 az3 v.a,encL 6 az3 v.b,.int .i64 v.ra,.int .i64 v.rb]
def Dzx (v:ezz):PVal:=.agg [encL 6 az3 v.points,.int .i64 v.radius]
def lz6 (v:czz):PVal:=.agg [encL 6 az3 v.a.points,.int .i64 v.a.radius,encL 6 az3 v.b.points,.int .i64 v.b.radius]
def Kzu (v:mzz):PVal:=.agg [.int .i64 v.Kind,.int .i64 v.Normal.1,.int .i64 v.Normal.2.1,.int .i64 v.Normal.2.2,encL 1 az1 v.Left,encL 1 az1 v.Right,.int .i64 v.Steps]
def pze (v:dzp):PVal:=.agg [.int .i64 v.witness.Pair,encL 1 az1 v.witness.Left,encL 1 az1 v.witness.Right]
def fz3 (v:bzr):PVal:=.agg [encL 3 az2 v.normals]
def azo (v:azm):PVal:=.agg [.int .i64 v.Depth,.int .i64 v.Index,encL 3 az2 v.Normals]
def gzh (v:bzw):PVal:=.agg [.int .i64 v.Kind,encL 3 azo v.Pieces,.int .i64 v.At.Depth,.int .i64 v.At.Index,encL 3 az2 v.At.Normals,.int .i64 v.Witness.Pair,encL 1 az1 v.Witness.Left,encL 1 az1 v.Witness.Right]
def az6 (v:az9):PVal:=.agg [.int .i64 v.U,.int .i64 v.V,.int .i64 v.Cost,.int .i64 v.State,.int .i64 v.Proof.Kind,encL 3 azo v.Proof.Pieces,.int .i64 v.Proof.At.Depth,.int .i64 v.Proof.At.Index,encL 3 az2 v.Proof.At.Normals,.int .i64 v.Proof.Witness.Pair,encL 1 az1 v.Proof.Witness.Left,encL 1 az1 v.Proof.Witness.Right]
def dz9 (v:bz2):PVal:=.agg [encL 1 (encL 1 az1) v.Points,encL 12 az6 v.Edges]
def czb (v:Ce):List PVal:=[.int .i64 v.1,.int .i64 v.2.1,.int .i64 v.2.2.1,.int .i64 v.2.2.2.1,.int .i64 v.2.2.2.2.1,.int .i64 v.2.2.2.2.2.1,.int .i64 v.2.2.2.2.2.2.1,.int .i64 v.2.2.2.2.2.2.2.1,.int .i64 v.2.2.2.2.2.2.2.2.1,.int .i64 v.2.2.2.2.2.2.2.2.2]
def azy (v:bz7):PVal:=.agg [.int .i64 v.Point,.int .i64 v.Axis,.int .i64 v.Low,.int .i64 v.High]
def lz4 (v:czw):PVal:=.agg [encL 12 az7 v.joints,encL 1 (encL 1 az1) v.points,encL 4 azy v.tree,encL 1 az1 v.q]
def az4 (v:Ay):PVal:=.agg [.int .i64 v.1,.int .i64 v.2]
def cz8 (v:Ay):List PVal:=[.int .i64 v.1,.int .i64 v.2]
def Izs (v:mzk):PVal:=.agg [encL 1 az1 v.Vertices,.int .i64 v.Cost]
def bz3 (v:azf):PVal:=.agg [.int .i64 v.to,.int .i64 v.cost]
def bzn (v:azk):PVal:=.agg [.int .i64 v.cost,.int .i64 v.points]
def azz (v:azt):PVal:=.agg [.int .i64 v.rank.cost,.int .i64 v.rank.points,.int .i64 v.point]
def lz5 (v:dzr):PVal:=.agg [encL 12 az7 v.scene.Robot.Joints,encL 5 azc v.scene.Robot.Masses,encL 3 az8 v.scene.Shapes,encL 2 aze v.scene.Skips,.int .i64 v.depth]
def ezo (v:bzh):PVal:=.agg [encL 12 az7 v.scene.Robot.Joints,encL 5 azc v.scene.Robot.Masses,encL 3 az8 v.scene.Shapes,encL 2 aze v.scene.Skips,encL 1 az1 v.p,encL 1 az1 v.q,encL 3 azo v.pieces]
def bzs (v:Bg):List PVal:=[.int .i64 v.1,.int .i64 v.2.1,.int .i64 v.2.2]
def ozx (v:Cg):PVal:=.agg [.int .i64 v.1,.int .i64 v.2.1,.int .i64 v.2.2.1,.int .i64 v.2.2.2.1,.int .i64 v.2.2.2.2.1,.int .i64 v.2.2.2.2.2.1,.int .i64 v.2.2.2.2.2.2.1,.int .i64 v.2.2.2.2.2.2.2.1,.int .i64 v.2.2.2.2.2.2.2.2.1,.int .i64 v.2.2.2.2.2.2.2.2.2.1,.int .i64 v.2.2.2.2.2.2.2.2.2.2]
theorem Tzj:GuardFn Tryz.prog 98:=
 bzu (fn:=Tryz.f98) Tryz.func98 (by kernel_rfl) ⟨0,(gOps Tryz.f98).getD 0 default,(gOps Tryz.f98).getD 1 default,1,2,gX Tryz.f98,gC ((gOps Tryz.f98).getD 0 default),20,20,by kernel_rfl,by kernel_rfl,by kernel_rfl,by kernel_rfl,by kernel_rfl,by kernel_rfl,by kernel_rfl,by kernel_rfl,⟨gMs (Tryz.prog.underlying 20),by kernel_rfl⟩,by decide,by decide,by kernel_rfl⟩
theorem Qza:GuardFn Tryz.prog 135:=
 bzu (fn:=Tryz.f135) Tryz.func135 (by kernel_rfl) ⟨0,(gOps Tryz.f135).getD 0 default,(gOps Tryz.f135).getD 1 default,2,3,gX Tryz.f135,gC ((gOps Tryz.f135).getD 0 default),20,20,by kernel_rfl,by kernel_rfl,by kernel_rfl,by kernel_rfl,by kernel_rfl,by kernel_rfl,by kernel_rfl,by kernel_rfl,⟨gMs (Tryz.prog.underlying 20),by kernel_rfl⟩,by decide,by decide,by kernel_rfl⟩
theorem Qzb:GuardFn Tryz.prog 157:=
 bzu (fn:=Tryz.f157) Tryz.func157 (by kernel_rfl) ⟨0,(gOps Tryz.f157).getD 0 default,(gOps Tryz.f157).getD 1 default,2,3,gX Tryz.f157,gC ((gOps Tryz.f157).getD 0 default),20,20,by kernel_rfl,by kernel_rfl,by kernel_rfl,by kernel_rfl,by kernel_rfl,by kernel_rfl,by kernel_rfl,by kernel_rfl,⟨gMs (Tryz.prog.underlying 20),by kernel_rfl⟩,by decide,by decide,by kernel_rfl⟩
theorem Qzc:GuardFn Tryz.prog 165:=
 bzu (fn:=Tryz.f165) Tryz.func165 (by kernel_rfl) ⟨0,(gOps Tryz.f165).getD 0 default,(gOps Tryz.f165).getD 1 default,1,2,gX Tryz.f165,gC ((gOps Tryz.f165).getD 0 default),20,20,by kernel_rfl,by kernel_rfl,by kernel_rfl,by kernel_rfl,by kernel_rfl,by kernel_rfl,by kernel_rfl,by kernel_rfl,⟨gMs (Tryz.prog.underlying 20),by kernel_rfl⟩,by decide,by decide,by kernel_rfl⟩
theorem Qzd:GuardFn Tryz.prog 203:=
 bzu (fn:=Tryz.f203) Tryz.func203 (by kernel_rfl) ⟨0,(gOps Tryz.f203).getD 0 default,(gOps Tryz.f203).getD 1 default,2,3,gX Tryz.f203,gC ((gOps Tryz.f203).getD 0 default),20,20,by kernel_rfl,by kernel_rfl,by kernel_rfl,by kernel_rfl,by kernel_rfl,by kernel_rfl,by kernel_rfl,by kernel_rfl,⟨gMs (Tryz.prog.underlying 20),by kernel_rfl⟩,by decide,by decide,by kernel_rfl⟩
theorem Qze:GuardFn Tryz.prog 204:=
 bzu (fn:=Tryz.f204) Tryz.func204 (by kernel_rfl) ⟨0,(gOps Tryz.f204).getD 0 default,(gOps Tryz.f204).getD 1 default,2,3,gX Tryz.f204,gC ((gOps Tryz.f204).getD 0 default),20,20,by kernel_rfl,by kernel_rfl,by kernel_rfl,by kernel_rfl,by kernel_rfl,by kernel_rfl,by kernel_rfl,by kernel_rfl,⟨gMs (Tryz.prog.underlying 20),by kernel_rfl⟩,by decide,by decide,by kernel_rfl⟩
theorem Qzf:GuardFn Tryz.prog 238:=
 bzu (fn:=Tryz.f238) Tryz.func238 (by kernel_rfl) ⟨0,(gOps Tryz.f238).getD 0 default,(gOps Tryz.f238).getD 1 default,2,3,gX Tryz.f238,gC ((gOps Tryz.f238).getD 0 default),20,20,by kernel_rfl,by kernel_rfl,by kernel_rfl,by kernel_rfl,by kernel_rfl,by kernel_rfl,by kernel_rfl,by kernel_rfl,⟨gMs (Tryz.prog.underlying 20),by kernel_rfl⟩,by decide,by decide,by kernel_rfl⟩
theorem Qzg:GuardFn Tryz.prog 263:=
 bzu (fn:=Tryz.f263) Tryz.func263 (by kernel_rfl) ⟨0,(gOps Tryz.f263).getD 0 default,(gOps Tryz.f263).getD 1 default,1,2,gX Tryz.f263,gC ((gOps Tryz.f263).getD 0 default),20,20,by kernel_rfl,by kernel_rfl,by kernel_rfl,by kernel_rfl,by kernel_rfl,by kernel_rfl,by kernel_rfl,by kernel_rfl,⟨gMs (Tryz.prog.underlying 20),by kernel_rfl⟩,by decide,by decide,by kernel_rfl⟩
theorem Qzh:GuardFn Tryz.prog 268:=
 bzu (fn:=Tryz.f268) Tryz.func268 (by kernel_rfl) ⟨0,(gOps Tryz.f268).getD 0 default,(gOps Tryz.f268).getD 1 default,4,5,gX Tryz.f268,gC ((gOps Tryz.f268).getD 0 default),20,20,by kernel_rfl,by kernel_rfl,by kernel_rfl,by kernel_rfl,by kernel_rfl,by kernel_rfl,by kernel_rfl,by kernel_rfl,⟨gMs (Tryz.prog.underlying 20),by kernel_rfl⟩,by decide,by decide,by kernel_rfl⟩
theorem Qzi:GuardFn Tryz.prog 272:=
 bzu (fn:=Tryz.f272) Tryz.func272 (by kernel_rfl) ⟨0,(gOps Tryz.f272).getD 0 default,(gOps Tryz.f272).getD 1 default,1,2,gX Tryz.f272,gC ((gOps Tryz.f272).getD 0 default),20,20,by kernel_rfl,by kernel_rfl,by kernel_rfl,by kernel_rfl,by kernel_rfl,by kernel_rfl,by kernel_rfl,by kernel_rfl,⟨gMs (Tryz.prog.underlying 20),by kernel_rfl⟩,by decide,by decide,by kernel_rfl⟩
theorem Qzj:GuardFn Tryz.prog 276:=
 bzu (fn:=Tryz.f276) Tryz.func276 (by kernel_rfl) ⟨0,(gOps Tryz.f276).getD 0 default,(gOps Tryz.f276).getD 1 default,2,3,gX Tryz.f276,gC ((gOps Tryz.f276).getD 0 default),20,20,by kernel_rfl,by kernel_rfl,by kernel_rfl,by kernel_rfl,by kernel_rfl,by kernel_rfl,by kernel_rfl,by kernel_rfl,⟨gMs (Tryz.prog.underlying 20),by kernel_rfl⟩,by decide,by decide,by kernel_rfl⟩
theorem Qzk:GuardFn Tryz.prog 294:=
 bzu (fn:=Tryz.f294) Tryz.func294 (by kernel_rfl) ⟨0,(gOps Tryz.f294).getD 0 default,(gOps Tryz.f294).getD 1 default,2,3,gX Tryz.f294,gC ((gOps Tryz.f294).getD 0 default),20,20,by kernel_rfl,by kernel_rfl,by kernel_rfl,by kernel_rfl,by kernel_rfl,by kernel_rfl,by kernel_rfl,by kernel_rfl,⟨gMs (Tryz.prog.underlying 20),by kernel_rfl⟩,by decide,by decide,by kernel_rfl⟩
theorem Qzl:GuardFn Tryz.prog 306:=
 bzu (fn:=Tryz.f306) Tryz.func306 (by kernel_rfl) ⟨0,(gOps Tryz.f306).getD 0 default,(gOps Tryz.f306).getD 1 default,2,3,gX Tryz.f306,gC ((gOps Tryz.f306).getD 0 default),20,20,by kernel_rfl,by kernel_rfl,by kernel_rfl,by kernel_rfl,by kernel_rfl,by kernel_rfl,by kernel_rfl,by kernel_rfl,⟨gMs (Tryz.prog.underlying 20),by kernel_rfl⟩,by decide,by decide,by kernel_rfl⟩
theorem Qzm:GuardFn Tryz.prog 307:=
 bzu (fn:=Tryz.f307) Tryz.func307 (by kernel_rfl) ⟨0,(gOps Tryz.f307).getD 0 default,(gOps Tryz.f307).getD 1 default,1,2,gX Tryz.f307,gC ((gOps Tryz.f307).getD 0 default),20,20,by kernel_rfl,by kernel_rfl,by kernel_rfl,by kernel_rfl,by kernel_rfl,by kernel_rfl,by kernel_rfl,by kernel_rfl,⟨gMs (Tryz.prog.underlying 20),by kernel_rfl⟩,by decide,by decide,by kernel_rfl⟩
theorem Qzn:GuardFn Tryz.prog 308:=
 bzu (fn:=Tryz.f308) Tryz.func308 (by kernel_rfl) ⟨0,(gOps Tryz.f308).getD 0 default,(gOps Tryz.f308).getD 1 default,2,3,gX Tryz.f308,gC ((gOps Tryz.f308).getD 0 default),20,20,by kernel_rfl,by kernel_rfl,by kernel_rfl,by kernel_rfl,by kernel_rfl,by kernel_rfl,by kernel_rfl,by kernel_rfl,⟨gMs (Tryz.prog.underlying 20),by kernel_rfl⟩,by decide,by decide,by kernel_rfl⟩
theorem Qzo:GuardFn Tryz.prog 313:=
 bzu (fn:=Tryz.f313) Tryz.func313 (by kernel_rfl) ⟨0,(gOps Tryz.f313).getD 0 default,(gOps Tryz.f313).getD 1 default,3,4,gX Tryz.f313,gC ((gOps Tryz.f313).getD 0 default),20,20,by kernel_rfl,by kernel_rfl,by kernel_rfl,by kernel_rfl,by kernel_rfl,by kernel_rfl,by kernel_rfl,by kernel_rfl,⟨gMs (Tryz.prog.underlying 20),by kernel_rfl⟩,by decide,by decide,by kernel_rfl⟩
theorem Qzp:GuardFn Tryz.prog 316:=
 bzu (fn:=Tryz.f316) Tryz.func316 (by kernel_rfl) ⟨0,(gOps Tryz.f316).getD 0 default,(gOps Tryz.f316).getD 1 default,2,3,gX Tryz.f316,gC ((gOps Tryz.f316).getD 0 default),20,20,by kernel_rfl,by kernel_rfl,by kernel_rfl,by kernel_rfl,by kernel_rfl,by kernel_rfl,by kernel_rfl,by kernel_rfl,⟨gMs (Tryz.prog.underlying 20),by kernel_rfl⟩,by decide,by decide,by kernel_rfl⟩
theorem Qzq:GuardFn Tryz.prog 325:=
 bzu (fn:=Tryz.f325) Tryz.func325 (by kernel_rfl) ⟨0,(gOps Tryz.f325).getD 0 default,(gOps Tryz.f325).getD 1 default,3,4,gX Tryz.f325,gC ((gOps Tryz.f325).getD 0 default),20,20,by kernel_rfl,by kernel_rfl,by kernel_rfl,by kernel_rfl,by kernel_rfl,by kernel_rfl,by kernel_rfl,by kernel_rfl,⟨gMs (Tryz.prog.underlying 20),by kernel_rfl⟩,by decide,by decide,by kernel_rfl⟩
theorem Qzr:GuardFn Tryz.prog 336:=
 bzu (fn:=Tryz.f336) Tryz.func336 (by kernel_rfl) ⟨0,(gOps Tryz.f336).getD 0 default,(gOps Tryz.f336).getD 1 default,1,2,gX Tryz.f336,gC ((gOps Tryz.f336).getD 0 default),20,20,by kernel_rfl,by kernel_rfl,by kernel_rfl,by kernel_rfl,by kernel_rfl,by kernel_rfl,by kernel_rfl,by kernel_rfl,⟨gMs (Tryz.prog.underlying 20),by kernel_rfl⟩,by decide,by decide,by kernel_rfl⟩
theorem Mzd:GuardFn Tryz.prog 351:=
 bzu (fn:=Tryz.f351) Tryz.func351 (by kernel_rfl) ⟨0,(gOps Tryz.f351).getD 0 default,(gOps Tryz.f351).getD 1 default,2,3,gX Tryz.f351,gC ((gOps Tryz.f351).getD 0 default),20,20,by kernel_rfl,by kernel_rfl,by kernel_rfl,by kernel_rfl,by kernel_rfl,by kernel_rfl,by kernel_rfl,by kernel_rfl,⟨gMs (Tryz.prog.underlying 20),by kernel_rfl⟩,by decide,by decide,by kernel_rfl⟩
theorem Qzs:GuardFn Tryz.prog 361:=
 bzu (fn:=Tryz.f361) Tryz.func361 (by kernel_rfl) ⟨0,(gOps Tryz.f361).getD 0 default,(gOps Tryz.f361).getD 1 default,1,2,gX Tryz.f361,gC ((gOps Tryz.f361).getD 0 default),20,20,by kernel_rfl,by kernel_rfl,by kernel_rfl,by kernel_rfl,by kernel_rfl,by kernel_rfl,by kernel_rfl,by kernel_rfl,⟨gMs (Tryz.prog.underlying 20),by kernel_rfl⟩,by decide,by decide,by kernel_rfl⟩
theorem Qzt:GuardFn Tryz.prog 363:=
 bzu (fn:=Tryz.f363) Tryz.func363 (by kernel_rfl) ⟨0,(gOps Tryz.f363).getD 0 default,(gOps Tryz.f363).getD 1 default,1,2,gX Tryz.f363,gC ((gOps Tryz.f363).getD 0 default),20,20,by kernel_rfl,by kernel_rfl,by kernel_rfl,by kernel_rfl,by kernel_rfl,by kernel_rfl,by kernel_rfl,by kernel_rfl,⟨gMs (Tryz.prog.underlying 20),by kernel_rfl⟩,by decide,by decide,by kernel_rfl⟩
theorem Qzu:GuardFn Tryz.prog 369:=
 bzu (fn:=Tryz.f369) Tryz.func369 (by kernel_rfl) ⟨0,(gOps Tryz.f369).getD 0 default,(gOps Tryz.f369).getD 1 default,1,2,gX Tryz.f369,gC ((gOps Tryz.f369).getD 0 default),20,20,by kernel_rfl,by kernel_rfl,by kernel_rfl,by kernel_rfl,by kernel_rfl,by kernel_rfl,by kernel_rfl,by kernel_rfl,⟨gMs (Tryz.prog.underlying 20),by kernel_rfl⟩,by decide,by decide,by kernel_rfl⟩
theorem Qzv:GuardFn Tryz.prog 385:=
 bzu (fn:=Tryz.f385) Tryz.func385 (by kernel_rfl) ⟨0,(gOps Tryz.f385).getD 0 default,(gOps Tryz.f385).getD 1 default,1,2,gX Tryz.f385,gC ((gOps Tryz.f385).getD 0 default),20,20,by kernel_rfl,by kernel_rfl,by kernel_rfl,by kernel_rfl,by kernel_rfl,by kernel_rfl,by kernel_rfl,by kernel_rfl,⟨gMs (Tryz.prog.underlying 20),by kernel_rfl⟩,by decide,by decide,by kernel_rfl⟩
theorem Qzw:GuardFn Tryz.prog 386:=
 bzu (fn:=Tryz.f386) Tryz.func386 (by kernel_rfl) ⟨0,(gOps Tryz.f386).getD 0 default,(gOps Tryz.f386).getD 1 default,1,2,gX Tryz.f386,gC ((gOps Tryz.f386).getD 0 default),20,20,by kernel_rfl,by kernel_rfl,by kernel_rfl,by kernel_rfl,by kernel_rfl,by kernel_rfl,by kernel_rfl,by kernel_rfl,⟨gMs (Tryz.prog.underlying 20),by kernel_rfl⟩,by decide,by decide,by kernel_rfl⟩
theorem Qzx:GuardFn Tryz.prog 421:=
 bzu (fn:=Tryz.f421) Tryz.func421 (by kernel_rfl) ⟨0,(gOps Tryz.f421).getD 0 default,(gOps Tryz.f421).getD 1 default,1,2,gX Tryz.f421,gC ((gOps Tryz.f421).getD 0 default),20,20,by kernel_rfl,by kernel_rfl,by kernel_rfl,by kernel_rfl,by kernel_rfl,by kernel_rfl,by kernel_rfl,by kernel_rfl,⟨gMs (Tryz.prog.underlying 20),by kernel_rfl⟩,by decide,by decide,by kernel_rfl⟩
theorem Qzy:GuardFn Tryz.prog 444:=
 bzu (fn:=Tryz.f444) Tryz.func444 (by kernel_rfl) ⟨0,(gOps Tryz.f444).getD 0 default,(gOps Tryz.f444).getD 1 default,1,2,gX Tryz.f444,gC ((gOps Tryz.f444).getD 0 default),20,20,by kernel_rfl,by kernel_rfl,by kernel_rfl,by kernel_rfl,by kernel_rfl,by kernel_rfl,by kernel_rfl,by kernel_rfl,⟨gMs (Tryz.prog.underlying 20),by kernel_rfl⟩,by decide,by decide,by kernel_rfl⟩
noncomputable def Lzd (c:A0):T A3:=
 .ret (c,0)
noncomputable def izv (c):=
 mkD Tryz.func19 (Lzd c) 0 [.pure (encL 1 az1 c)] [] (fun _=>.ptr 0 0) (fun r=>[(0,.box [.pure (encL 1 az1 r.1),pz r.2])])
noncomputable def ozg (c:Int):T ByteArray:=let d:=i64.wrap (c+1);.grd (0≤c/\c≤d/\d≤(((⟨#[97,98,99,100,101,102,103,104,105,106]⟩:ByteArray).size:Nat):Int))<|
 .ret ((⟨#[97,98,99,100,101,102,103,104,105,106]⟩:ByteArray).extract c.toNat d.toNat)
noncomputable def ozf (c):=
 mkD Tryz.func22 (ozg c) 0 [pz c] [] (fun r=>.pure (.str r)) (fun _=>[])
noncomputable def uz8 (c:Int)(d:Int):T bz1:=
 .loop (fun (e:(A4×Int))=>⟨[(0,pz c),(1,pz d),(4,.ptr 0 0),(5,.ptr 3 0),(6,pz e.2)],[(0,.box [.vec 1,.vec 2]),(1,.nilv),(2,.nilv),(3,.box [.vec 4,.vec 5]),(4,vecO 12 az7 e.1 92),(5,.nilv)],[],6⟩)
 (.exit 0) (fun (e:A4)=>⟨[(4,.ptr 0 0),(5,.ptr 3 0)],[(0,.box [.vec 1,.vec 2]),(1,.nilv),(2,.nilv),(3,.box [.vec 4,.vec 5]),(4,vecO 12 az7 e 92),(5,.nilv)],[],6⟩)
 (fun e=>.br (decide (e.2<c))
 (.cc (ozf e.2) fun f=>let g:=([(⟨f,(i64.wrap (4+(e.2.tmod 2))),(i64.wrap (e.2-1)),(0,0,0),0,d,1,65536,65536,65536⟩:azs)]:A4);let h:=e.1.length+g.length;
 .ok ((2:Int)≠0) (by decide)<|
 .conv 5011 (bzl 12 az7 g 92)<|
 .conv 5012 (czq 12 az7 e.1 g 92)<|
 .grd (h * 104≤140737488355328/\h≤maxLen)<|
 .nn ((e.1++g),(i64.wrap (e.2+1))))
 (.oo e.1))
 (nl,0) [] fun e=>
 .ret (⟨e,nl⟩:bz1)
noncomputable def oze (c)(d):=
 mkD Tryz.func20 (uz8 c d) 0 [pz c,pz d] [] (fun r=>.pure (dz2 r)) (fun _=>[])
noncomputable def qzb (c:Int)(d:Int):T Int:=let e:=c.tmod d;.grd (d≠0)<|
 .cut 0 (fun (f:Int)=>⟨[(5,pz f)],[],[],0⟩)
 (.br (decide (e<0))
 (.oo (i64.wrap (e+d)))
 (.oo e)) fun f=>
 .ret f
noncomputable def mz7 (c)(d):=
 mkD Tryz.func9 (qzb c d) 0 [pz c,pz d] [] (fun r=>pz r) (fun _=>[])
noncomputable def nzq (c:A0)(d:Int)(e:Int):T (Int×A0×Int):=let f:=i64.wrap (d+1);let g:=i64.wrap (f-1);.br (decide (d≥(c.length:Int)))
 (.ret (0,c,d))
 (.gh g c.length<|
 .call (mz7 (c.getD (g.toNat) default) e) [] fun h=>
 .ret (h,c,f))
noncomputable def bzq (c)(d)(e):=
 mkD Tryz.func21 (nzq c d e) 1 [.ptr 0 0,pz e] [(0,.box [.pure (encL 1 az1 c),pz d])] (fun r=>pz r.1) (fun r=>[(0,.box [.pure (encL 1 az1 r.2.1),pz r.2.2])])
noncomputable def kzz (c:A0)(d:Int)(e:Int):T (Int×A0×Int):=
 .call (bzq c d (i64.wrap ((i64.wrap (2 * e))+1))) [(0,0)] fun f=>
 .ret ((i64.wrap (f.1-e)),f.2.1,f.2.2)
noncomputable def kzy (c)(d)(e):=
 mkD Tryz.func23 (kzz c d e) 1 [.ptr 0 0,pz e] [(0,.box [.pure (encL 1 az1 c),pz d])] (fun r=>pz r.1) (fun r=>[(0,.box [.pure (encL 1 az1 r.2.1),pz r.2.2])])
set_option maxHeartbeats 8000000 in
set_option maxRecDepth 20000 in
noncomputable def jzw (c:A0):T azb:=
 .cc (izv c) fun d=>
 .cc (oze 2 64) fun e=>let f:=encL 5 azc e.Masses;let g:=encL 12 az7 e.Joints;let h:Nat×Res:=(10,.box [.pure g,.pure f,.vec 11,.vec 12,.vec 13,.vec 14,.vec 15,.vec 16,pz 0]);
 .conv 4004 (bzl 3 az2 ([(0,0,20)]:Bh) 68)<|
 .conv 4006 (bzl 3 az8 ([(⟨1,1,([(0,0,20)]:Bh)⟩:azg)]:A5) 70)<|
 .grd (([(⟨1,1,([(0,0,20)]:Bh)⟩:azg)]:A5).length * 40≤140737488355328/\([(⟨1,1,([(0,0,20)]:Bh)⟩:azg)]:A5).length≤maxLen)<|
 .cut 0 (fun (i:(A0×Int×A5))=>⟨[(2,.ptr 0 0),(3,.ptr 9 0),(4,.ptr 10 0)],[(0,.box [.vec 1,.vec 2,.vec 3,.vec 4,.vec 5,.vec 6,.vec 7,.vec 8,pz 0]),(1,.nilv),(2,.nilv),(3,.nilv),(4,.nilv),(5,.nilv),(6,.nilv),(7,.nilv),(8,.nilv),(9,.box [.pure (encL 1 az1 i.1),pz i.2.1]),h,(11,vecO 3 az8 i.2.2 70),(12,.nilv),(13,.nilv),(14,.nilv),(15,.nilv),(16,.nilv)],[],17⟩)
 (.call (bzq d.1 d.2 2) [(0,128)] fun i=>
 .br (i.1==1)
 (.call (bzq i.2.1 i.2.2 5) [(0,128)] fun j=>
 .call (bzq j.2.1 j.2.2 65) [(0,128)] fun k=>
 .call (bzq k.2.1 k.2.2 65) [(0,128)] fun m=>
 .call (bzq m.2.1 m.2.2 20) [(0,128)] fun n=>let s:=([(k.1,m.1,n.1)]:Bh);let t:=([(⟨(-1),(i64.wrap (1+j.1)),s⟩:azg)]:A5);let w:=([(⟨1,1,([(0,0,20)]:Bh)⟩:azg)]:A5).length+t.length;
 .conv 6013 (bzl 3 az2 s 68)<|
 .conv 6015 (bzl 3 az8 t 70)<|
 .conv 6016 (czq 3 az8 ([(⟨1,1,([(0,0,20)]:Bh)⟩:azg)]:A5) t 70)<|
 .grd (w * 40≤140737488355328/\w≤maxLen)<|
 .oo (n.2.1,n.2.2,(([(⟨1,1,([(0,0,20)]:Bh)⟩:azg)]:A5)++t)))
 (.oo (i.2.1,i.2.2,([(⟨1,1,([(0,0,20)]:Bh)⟩:azg)]:A5)))) fun i=>
 .call (bzq i.1 i.2.1 3) [(0,9)] fun j=>
 .loop (fun (k:(A0×Int×Bh×Int))=>⟨[(2,.ptr 0 0),(3,.ptr 9 0),(4,.ptr 10 0),(5,pz k.2.2.2)],[(0,.box [.vec 1,.vec 2,.vec 3,.vec 4,.vec 5,.vec 6,.vec 7,.vec 8,pz 0]),(1,.nilv),(2,.nilv),(3,.nilv),(4,.nilv),(5,.nilv),(6,.nilv),(7,.nilv),(8,.nilv),(9,.box [.pure (encL 1 az1 k.1),pz k.2.1]),h,(11,vecO 3 az8 i.2.2 70),(12,.nilv),(13,.nilv),(14,vecO 3 az2 k.2.2.1 68),(15,.nilv),(16,.nilv)],[],17⟩)
 (.exit 0) (fun (k:(A0×Int×Bh))=>⟨[(2,.ptr 0 0),(3,.ptr 9 0),(4,.ptr 10 0)],[(0,.box [.vec 1,.vec 2,.vec 3,.vec 4,.vec 5,.vec 6,.vec 7,.vec 8,pz 0]),(1,.nilv),(2,.nilv),(3,.nilv),(4,.nilv),(5,.nilv),(6,.nilv),(7,.nilv),(8,.nilv),(9,.box [.pure (encL 1 az1 k.1),pz k.2.1]),h,(11,vecO 3 az8 i.2.2 70),(12,.nilv),(13,.nilv),(14,vecO 3 az2 k.2.2 68),(15,.nilv),(16,.nilv)],[],17⟩)
 (fun k=>.br (decide (k.2.2.2>0))
 (.call (bzq k.1 k.2.1 3) [(0,9)] fun m=>let n:=([((i64.wrap (16 * k.2.2.2)),(i64.wrap (8 * m.1)),0)]:Bh);let s:=k.2.2.1.length+n.length;
 .conv 10008 (bzl 3 az2 n 68)<|
 .conv 10009 (czq 3 az2 k.2.2.1 n 68)<|
 .grd (s * 24≤140737488355328/\s≤maxLen)<|
 .nn (m.2.1,m.2.2,(k.2.2.1++n),(i64.wrap (k.2.2.2-1))))
 (.oo (k.1,k.2.1,k.2.2.1)))
 (j.2.1,j.2.2,nl,(i64.wrap (2+j.1))) [] fun k=>
 .call (bzq k.1 k.2.1 2) [(0,9)] fun m=>let n:Nat×Res:=(9,.box [.pure (encL 1 az1 m.2.1),pz m.2.2]);
 .loop (fun (s:(A6×Int))=>⟨[(2,.ptr 0 0),(3,.ptr 9 0),(4,.ptr 10 0),(6,pz s.2)],[(0,.box [.vec 1,.vec 2,.vec 3,.vec 4,.vec 5,.vec 6,.vec 7,.vec 8,pz 0]),(1,.nilv),(2,.nilv),(3,.nilv),(4,.nilv),(5,.nilv),(6,.nilv),(7,.nilv),(8,.nilv),n,h,(11,vecO 3 az8 i.2.2 70),(12,.nilv),(13,.nilv),(14,vecO 3 az2 k.2.2 68),(15,vecO 4 azv s.1 73),(16,.nilv)],[],17⟩)
 (.exit 2) (fun (s:A6)=>⟨[(2,.ptr 0 0),(3,.ptr 9 0),(4,.ptr 10 0)],[(0,.box [.vec 1,.vec 2,.vec 3,.vec 4,.vec 5,.vec 6,.vec 7,.vec 8,pz 0]),(1,.nilv),(2,.nilv),(3,.nilv),(4,.nilv),(5,.nilv),(6,.nilv),(7,.nilv),(8,.nilv),n,h,(11,vecO 3 az8 i.2.2 70),(12,.nilv),(13,.nilv),(14,vecO 3 az2 k.2.2 68),(15,vecO 4 azv s 73),(16,.nilv)],[],17⟩)
 (fun s=>let t:=i64.wrap (s.2-1);let w:=([(⟨1,(0,0,(i64.wrap (2 * t)))⟩:dzo)]:A6);let y:=s.1.length+w.length;.br (decide (s.2>0))
 (.conv 14007 (bzl 4 azv w 73)<|
 .conv 14008 (czq 4 azv s.1 w 73)<|
 .grd (y * 32≤140737488355328/\y≤maxLen)<|
 .nn ((s.1++w),t))
 (.oo s.1))
 (nl,(i64.wrap (1+m.1))) [] fun s=>
 .call (bzq m.2.1 m.2.2 4) [(0,9)] fun t=>let w:=i64.wrap (t.1+4);let y:Nat×Res:=(10,.box [.pure g,.pure f,.vec 11,.vec 12,.vec 13,.vec 14,.vec 15,.vec 16,pz w]);
 .call (bzq t.2.1 t.2.2 2) [(0,9)] fun z=>
 .loop (fun (aa:(A0×Int×A7×Int))=>⟨[(2,.ptr 0 0),(3,.ptr 9 0),(4,.ptr 10 0),(7,pz aa.2.2.2)],[(0,.box [.vec 1,.vec 2,.vec 3,.vec 4,.vec 5,.vec 6,.vec 7,.vec 8,pz 0]),(1,.nilv),(2,.nilv),(3,.nilv),(4,.nilv),(5,.nilv),(6,.nilv),(7,.nilv),(8,.nilv),(9,.box [.pure (encL 1 az1 aa.1),pz aa.2.1]),y,(11,vecO 3 az8 i.2.2 70),(12,.nilv),(13,vecO 2 azh aa.2.2.1 76),(14,vecO 3 az2 k.2.2 68),(15,vecO 4 azv s 73),(16,.nilv)],[],17⟩)
 (.exit 4) (fun (aa:(A0×Int×A7))=>⟨[(2,.ptr 0 0),(3,.ptr 9 0),(4,.ptr 10 0)],[(0,.box [.vec 1,.vec 2,.vec 3,.vec 4,.vec 5,.vec 6,.vec 7,.vec 8,pz 0]),(1,.nilv),(2,.nilv),(3,.nilv),(4,.nilv),(5,.nilv),(6,.nilv),(7,.nilv),(8,.nilv),(9,.box [.pure (encL 1 az1 aa.1),pz aa.2.1]),y,(11,vecO 3 az8 i.2.2 70),(12,.nilv),(13,vecO 2 azh aa.2.2 76),(14,vecO 3 az2 k.2.2 68),(15,vecO 4 azv s 73),(16,.nilv)],[],17⟩)
 (fun aa=>.br (decide (aa.2.2.2>0))
 (.cc (ozf aa.2.2.2) fun ab=>
 .call (bzq aa.1 aa.2.1 2) [(0,9)] fun ac=>
 .call (bzq ac.2.1 ac.2.2 3) [(0,9)] fun ad=>let ae:=([(0,0,ad.1)]:Bh);let af:=([(⟨0,(i64.wrap (1+ac.1)),ae⟩:azg)]:A5);let ag:=([(⟨ab,af⟩:bz9)]:A7);let ah:=aa.2.2.1.length+ag.length;
 .conv 19010 (bzl 3 az2 ae 68)<|
 .conv 19012 (bzl 3 az8 af 70)<|
 .conv 19014 (bzl 2 azh ag 76)<|
 .conv 19015 (czq 2 azh aa.2.2.1 ag 76)<|
 .grd (ah * 40≤140737488355328/\ah≤maxLen)<|
 .nn (ad.2.1,ad.2.2,(aa.2.2.1++ag),(i64.wrap (aa.2.2.2-1))))
 (.oo (aa.1,aa.2.1,aa.2.2.1)))
 (z.2.1,z.2.2,nl,(i64.wrap (1+z.1))) [] fun aa=>
 .loop (fun (ab:Bv)=>⟨[(2,.ptr 0 0),(3,.ptr 9 0),(4,.ptr 10 0),(8,pz ab.2.2.2)],[(0,.box [.vec 1,.vec 2,.vec 3,.vec 4,.vec 5,.vec 6,.vec 7,.vec 8,pz 0]),(1,.nilv),(2,.nilv),(3,.nilv),(4,.nilv),(5,.nilv),(6,.nilv),(7,.nilv),(8,.nilv),(9,.box [.pure (encL 1 az1 ab.1),pz ab.2.1]),y,(11,vecO 3 az8 i.2.2 70),(12,.nilv),(13,vecO 2 azh aa.2.2 76),(14,vecO 3 az2 k.2.2 68),(15,vecO 4 azv s 73),(16,vecO 3 azu ab.2.2.1 79)],[],17⟩)
 (.exit 6) (fun (ab:A8)=>⟨[(2,.ptr 0 0),(4,.ptr 9 0)],[(0,.box [.vec 1,.vec 2,.vec 3,.vec 4,.vec 5,.vec 6,.vec 7,.vec 8,pz 0]),(1,.nilv),(2,.nilv),(3,.nilv),(4,.nilv),(5,.nilv),(6,.nilv),(7,.nilv),(8,.nilv),(9,.box [.pure g,.pure f,.vec 10,.vec 11,.vec 12,.vec 13,.vec 14,.vec 15,pz w]),(10,vecO 3 az8 i.2.2 70),(11,.nilv),(12,vecO 2 azh aa.2.2 76),(13,vecO 3 az2 k.2.2 68),(14,vecO 4 azv s 73),(15,vecO 3 azu ab 79)],[],16⟩)
 (fun ab=>.br (decide (ab.2.2.2<(s.length:Int)))
 (.loop (fun (ac:Bv)=>⟨[(2,.ptr 0 0),(3,.ptr 9 0),(4,.ptr 10 0),(8,pz ab.2.2.2),(9,pz ac.2.2.2)],[(0,.box [.vec 1,.vec 2,.vec 3,.vec 4,.vec 5,.vec 6,.vec 7,.vec 8,pz 0]),(1,.nilv),(2,.nilv),(3,.nilv),(4,.nilv),(5,.nilv),(6,.nilv),(7,.nilv),(8,.nilv),(9,.box [.pure (encL 1 az1 ac.1),pz ac.2.1]),y,(11,vecO 3 az8 i.2.2 70),(12,.nilv),(13,vecO 2 azh aa.2.2 76),(14,vecO 3 az2 k.2.2 68),(15,vecO 4 azv s 73),(16,vecO 3 azu ac.2.2.1 79)],[],17⟩)
 (.exit 8) (fun (ac:(A0×Int×A8))=>⟨[(2,.ptr 0 0),(3,.ptr 9 0),(4,.ptr 10 0),(8,pz ab.2.2.2)],[(0,.box [.vec 1,.vec 2,.vec 3,.vec 4,.vec 5,.vec 6,.vec 7,.vec 8,pz 0]),(1,.nilv),(2,.nilv),(3,.nilv),(4,.nilv),(5,.nilv),(6,.nilv),(7,.nilv),(8,.nilv),(9,.box [.pure (encL 1 az1 ac.1),pz ac.2.1]),y,(11,vecO 3 az8 i.2.2 70),(12,.nilv),(13,vecO 2 azh aa.2.2 76),(14,vecO 3 az2 k.2.2 68),(15,vecO 4 azv s 73),(16,vecO 3 azu ac.2.2 79)],[],17⟩)
 (fun ac=>let ad:=ac.2.2.2;let ae:=k.2.2.getD (ad.toNat) default;.br (decide (ac.2.2.2<(k.2.2.length:Int)))
 (.cut 0 (fun (af:(A0×Int×A8))=>⟨[(2,.ptr 0 0),(3,.ptr 9 0),(4,.ptr 10 0),(8,pz ab.2.2.2),(9,pz ac.2.2.2)],[(0,.box [.vec 1,.vec 2,.vec 3,.vec 4,.vec 5,.vec 6,.vec 7,.vec 8,pz 0]),(1,.nilv),(2,.nilv),(3,.nilv),(4,.nilv),(5,.nilv),(6,.nilv),(7,.nilv),(8,.nilv),(9,.box [.pure (encL 1 az1 af.1),pz af.2.1]),y,(11,vecO 3 az8 i.2.2 70),(12,.nilv),(13,vecO 2 azh aa.2.2 76),(14,vecO 3 az2 k.2.2 68),(15,vecO 4 azv s 73),(16,vecO 3 azu af.2.2 79)],[],17⟩)
 (.call (bzq ac.1 ac.2.1 8) [(0,9)] fun af=>
 .br (decide (af.1<7))
 (.gh ac.2.2.2 k.2.2.length<|
 .ix 0 3 rfl<|
 .grd (ad.toNat<k.2.2.length)<|
 .call (kzy af.2.1 af.2.2 2) [(0,9)] fun ag=>let ah:=([(min 64 (i64.wrap ((ae.1)+ag.1))),ae.2.1]:A0);let ai:=([(⟨ab.2.2.2,ac.2.2.2,ah⟩:cze)]:A8);let aj:=ac.2.2.1.length+ai.length;
 .gh ac.2.2.2 k.2.2.length<|
 .ix 1 3 rfl<|
 .grd (ad.toNat<k.2.2.length)<|
 .conv 27020 (bzl 1 az1 ah 2)<|
 .conv 27022 (bzl 3 azu ai 79)<|
 .conv 27023 (czq 3 azu ac.2.2.1 ai 79)<|
 .grd (aj * 40≤140737488355328/\aj≤maxLen)<|
 .oo (ag.2.1,ag.2.2,(ac.2.2.1++ai)))
 (.oo (af.2.1,af.2.2,ac.2.2.1))) fun af=>
 .nn (af.1,af.2.1,af.2.2,(i64.wrap (ac.2.2.2+1))))
 (.oo (ac.1,ac.2.1,ac.2.2.1)))
 (ab.1,ab.2.1,ab.2.2.1,0) [] fun ac=>
 .nn (ac.1,ac.2.1,ac.2.2,(i64.wrap (ab.2.2.2+1))))
 (.oo ab.2.2.1))
 (aa.1,aa.2.1,nl,0) [] fun ab=>
 .ret (⟨(⟨e,i.2.2,nl⟩:azx),aa.2.2,k.2.2,s,ab,w⟩:azb)
noncomputable def pz0 (c):=
 mkD Tryz.func7 (jzw c) 0 [.pure (encL 1 az1 c)] [] (fun r=>.pure (bzm r)) (fun _=>[])
noncomputable def tz3 (c:A0)(d:Int):T Bool:=
 .loop (fun (e:Int)=>⟨[(0,.pure (encL 1 az1 c)),(1,pz d),(5,pz e)],[],[],0⟩)
 (.exit 0) (fun (_:U0)=>⟨[],[],[],0⟩)
 (fun e=>.br (decide (e<(c.length:Int)))
 (.gh e c.length<|
 .br ((c.getD (e.toNat) default)==d)
 (.ff true)
 (.nn (i64.wrap (e+1))))
 (.oo .u))
 0 [] fun _=>
 .ret false
noncomputable def tz2 (c)(d):=
 mkD Tryz.func24 (tz3 c d) 0 [.pure (encL 1 az1 c),pz d] [] (fun r=>.pure (.bool r)) (fun _=>[])
noncomputable def tz1 (c:azb)(d:A0):T bz5:=let e:=(c.Hands.length:Int);let f:=i64.wrap ((c.Places.length:Int)+e);let g:Nat×Res:=(0,.box [.pure (encL 12 az7 c.Scene.Robot.Joints),.pure (encL 5 azc c.Scene.Robot.Masses),.pure (encL 3 az8 c.Scene.Shapes),.pure (encL 2 aze c.Scene.Skips),.pure (encL 2 azh c.Objects),.pure (encL 3 az2 c.Places),.pure (encL 4 azv c.Hands),.pure (encL 3 azu c.Grips),pz c.Slack]);.cc (izv d) fun h=>
 .loop (fun (i:Bw)=>⟨[(2,.ptr 0 0),(4,.ptr 1 0),(5,.ptr 3 0),(6,.ptr 4 0),(7,pz i.2.2.2)],[g,(1,.box [.vec 2]),(2,.nilv),(3,.box [.pure (encL 1 az1 i.1),pz i.2.1]),(4,.box [.vec 5]),(5,vecS 1 az1 i.2.2.1 3)],[],6⟩)
 (.exit 0) (fun (i:A0)=>⟨[(4,.ptr 0 0),(6,.ptr 2 0)],[(0,.box [.vec 1]),(1,.nilv),(2,.box [.vec 3]),(3,vecS 1 az1 i 3)],[],4⟩)
 (fun i=>.br (decide (i.2.2.2<(c.Objects.length:Int)))
 (.call (bzq i.1 i.2.1 f) [(0,3)] fun j=>let k:Nat×Res:=(3,.box [.pure (encL 1 az1 j.2.1),pz j.2.2]);
 .loop (fun (m:Int)=>⟨[(2,.ptr 0 0),(4,.ptr 1 0),(5,.ptr 3 0),(6,.ptr 4 0),(7,pz i.2.2.2),(8,pz m)],[g,(1,.box [.vec 2]),(2,.nilv),k,(4,.box [.vec 5]),(5,vecS 1 az1 i.2.2.1 3)],[],6⟩)
 (.exit 2) (fun (m:Int)=>⟨[(2,.ptr 0 0),(4,.ptr 1 0),(5,.ptr 3 0),(6,.ptr 4 0),(7,pz i.2.2.2),(8,pz m)],[g,(1,.box [.vec 2]),(2,.nilv),k,(4,.box [.vec 5]),(5,vecS 1 az1 i.2.2.1 3)],[],6⟩)
 (fun m=>.cc (tz2 i.2.2.1 m) fun n=>
 .br n
 (.name 8005 ((i64.wrap ((i64.wrap (m+1))+e))) fun s=>
 .grd (f≠0)<|
 .name 8017 ((i64.wrap ((s.tmod f)-e))) fun t=>
 .nn t)
 (.oo m))
 (i64.wrap (j.1-e)) [] fun m=>let n:=([m]:A0);let s:=i.2.2.1.length+n.length;
 .conv 9003 (bzl 1 az1 n 3)<|
 .conv 9004 (Szm 1 az1 i.2.2.1 n 3)<|
 .grd (s * 8≤140737488355328/\s≤maxLen)<|
 .nn (j.2.1,j.2.2,(i.2.2.1++n),(i64.wrap (i.2.2.2+1))))
 (.oo i.2.2.1))
 (h.1,h.2,nl,0) [] fun i=>
 .ret (⟨i⟩:bz5)
noncomputable def tz0 (c)(d):=
 mkD Tryz.func8 (tz1 c d) 0 [.pure (bzm c),.pure (encL 1 az1 d)] [] (fun r=>.pure (ezb r)) (fun _=>[])
noncomputable def ozd (c:bz1)(d:A0):T A0:=let e:Nat×Res:=(0,.box [.pure (encL 12 az7 c.Joints),.pure (encL 5 azc c.Masses)]);.cc (izv d) fun f=>
 .loop (fun (g:Bw)=>⟨[(2,.ptr 0 0),(5,.ptr 1 0),(6,.vec 2),(7,pz g.2.2.2)],[e,(1,.box [.pure (encL 1 az1 g.1),pz g.2.1]),(2,vecO 1 az1 g.2.2.1 2)],[],3⟩)
 (.exit 0) (fun (g:A0)=>⟨[(6,.vec 0)],[(0,vecO 1 az1 g 2)],[],1⟩)
 (fun g=>let h:=c.Joints.getD ((g.2.2.2).toNat) default;let i:=([h.Lo]:A0);let j:=([h.Hi]:A0);let k:=g.2.2.1.length+i.length;let m:=g.2.2.1.length+j.length;.br (decide (g.2.2.2<(c.Joints.length:Int)))
 (.cut 0 (fun (n:(A0×Int×A0))=>⟨[(2,.ptr 0 0),(5,.ptr 1 0),(6,.vec 2),(7,pz g.2.2.2)],[e,(1,.box [.pure (encL 1 az1 n.1),pz n.2.1]),(2,vecO 1 az1 n.2.2 2)],[],3⟩)
 (.gh g.2.2.2 c.Joints.length<|
 .gh g.2.2.2 c.Joints.length<|
 .call (bzq g.1 g.2.1 6) [(0,1)] fun n=>
 .br (n.1==0)
 (.conv 10002 (bzl 1 az1 i 2)<|
 .conv 10003 (czq 1 az1 g.2.2.1 i 2)<|
 .grd (k * 8≤140737488355328/\k≤maxLen)<|
 .oo (n.2.1,n.2.2,(g.2.2.1++i)))
 (.br (n.1==1)
 (.conv 12002 (bzl 1 az1 j 2)<|
 .conv 12003 (czq 1 az1 g.2.2.1 j 2)<|
 .grd (m * 8≤140737488355328/\m≤maxLen)<|
 .oo (n.2.1,n.2.2,(g.2.2.1++j)))
 (.name 8005 ((i64.wrap ((h.Hi)- (h.Lo)))) fun s=>
 .name 8006 ((i64.wrap (s+1))) fun t=>
 .call (bzq n.2.1 n.2.2 t) [(0,1)] fun w=>let y:=([(i64.wrap ((h.Lo)+w.1))]:A0);let z:=g.2.2.1.length+y.length;
 .conv 8009 (bzl 1 az1 y 2)<|
 .conv 8010 (czq 1 az1 g.2.2.1 y 2)<|
 .grd (z * 8≤140737488355328/\z≤maxLen)<|
 .oo (w.2.1,w.2.2,(g.2.2.1++y))))) fun n=>
 .nn (n.1,n.2.1,n.2.2,(i64.wrap (g.2.2.2+1))))
 (.oo g.2.2.1))
 (f.1,f.2,nl,0) [] fun g=>
 .ret g
noncomputable def ozc (c)(d):=
 mkD Tryz.func13 (ozd c d) 0 [.pure (dz2 c),.pure (encL 1 az1 d)] [] (fun _=>.vec 0) (fun r=>[(0,vecO 1 az1 r 2)])
noncomputable def Ez7 (c:Int)(d:Int):T dzd:=
 .cc (mz7 c 4) fun e=>
 .cc (mz7 d 20) fun f=>
 .ret (⟨e,3,4,f⟩:dzd)
noncomputable def fzd (c)(d):=
 mkD Tryz.func15 (Ez7 c d) 0 [pz c,pz d] [] (fun r=>.pure (rz2 r)) (fun _=>[])
noncomputable def kz9 (c:Int):T Bool:=
 .br (decide (97≤c))
 (.ret (decide (c≤122)))
 (.ret false)
noncomputable def pzc (c):=
 mkD Tryz.func131 (kz9 c) 0 [.pure (.int .i32 c)] [] (fun r=>.pure (.bool r)) (fun _=>[])
noncomputable def lzp (c:Int):T Bool:=
 .br (decide (48≤c))
 (.ret (decide (c≤57)))
 (.ret false)
noncomputable def qzy (c):=
 mkD Tryz.func132 (lzp c) 0 [.pure (.int .i32 c)] [] (fun r=>.pure (.bool r)) (fun _=>[])
noncomputable def qzx (c:ByteArray):T Bool:=let d:=(c.size:Nat);.cut 2 (fun (e:Bool)=>⟨[(0,.pure (.str c)),(16,.pure (.bool e))],[],[],0⟩)
 (.br ((d:Int)==0)
 (.oo true)
 (.br (decide ((d:Int)>16))
 (.oo true)
 (.oo (c==(⟨#[119,111,114,108,100]⟩:ByteArray))))) fun e=>
 .br e
 (.ret false)
 (.loop (fun (f:Nat)=>⟨[(18,.ptr 0 0)],[(0,.iter c f)],[],1⟩)
 (.exit 0) (fun (_:U0)=>⟨[],[],[],0⟩)
 (fun f=>let g:=Utf8.decode c f;let h:=(g.1:Int);.brP (f<c.size)
 (.cut 2 (fun (i:Bool)=>⟨[(18,.ptr 0 0),(38,.pure (.bool i))],[(0,.iter c (f+g.2))],[],1⟩)
 (.cc (pzc h) fun i=>
 .br (!i)
 (.br ((f:Int)==0)
 (.oo true)
 (.cc (qzy h) fun j=>
 .br (!j)
 (.oo (h !=95))
 (.oo false)))
 (.oo false)) fun i=>
 .br i
 (.ff false)
 (.nn (f+g.2)))
 (.oo .u))
 0 [] fun _=>
 .ret true)
noncomputable def qzw (c):=
 mkD Tryz.func78 (qzx c) 0 [.pure (.str c)] [] (fun r=>.pure (.bool r)) (fun _=>[])
noncomputable def qzl (c:bz1)(d:ByteArray):T Int:=let e:=(c.Joints.length:Nat);.loop (fun (f:Int)=>⟨[(1,.pure (.str d)),(2,.ptr 0 0),(8,pz (e:Int)),(9,pz f)],[(0,.box [.pure (encL 12 az7 c.Joints),.pure (encL 5 azc c.Masses)])],[],1⟩)
 (.exit 0) (fun (_:U0)=>⟨[],[],[],0⟩)
 (fun f=>.br (decide (f<(e:Int)))
 (.gh f c.Joints.length<|
 .br (((c.Joints.getD (f.toNat) default).Name)==d)
 (.ff f)
 (.nn (i64.wrap (f+1))))
 (.oo .u))
 0 [] fun _=>
 .ret (-1)
noncomputable def yz2 (c)(d):=
 mkD Tryz.func192 (qzl c d) 0 [.pure (dz2 c),.pure (.str d)] [] (fun r=>pz r) (fun _=>[])
noncomputable def mzs (c:Bg):T Bool:=
 .loop (fun (d:Int)=>⟨[(5,.pure (az2 c)),(6,pz d)],[],[],0⟩)
 (.exit 0) (fun (_:U0)=>⟨[],[],[],0⟩)
 (fun d=>let e:=([c.1,c.2.1,c.2.2]:List Int).getD d.toNat 0;.br (decide (d<3))
 (.gh d 3<|
 .cut 0 (fun (f:Bool)=>⟨[(5,.pure (az2 c)),(6,pz d),(14,.pure (.bool f))],[],[],0⟩)
 (.br (decide (e<(-4194304)))
 (.oo true)
 (.oo (decide (e>4194304)))) fun f=>
 .br f
 (.ff true)
 (.nn (i64.wrap (d+1))))
 (.oo .u))
 0 [] fun _=>
 .ret false
noncomputable def mzr (c):=
 mkD Tryz.func193 (mzs c) 0 [.pure (az2 c)] [] (fun r=>.pure (.bool r)) (fun _=>[])
noncomputable def ozk (c:Int):T Int:=
 .cut 3 (fun (d:Bool)=>⟨[(3,pz c),(4,.pure (.bool d))],[],[],0⟩)
 (.br (c==1)
 (.oo (c==1))
 (.br (c==2)
 (.oo (c==2))
 (.oo (c==3)))) fun d=>
 .br d
 (.ret 524288)
 (.cut 0 (fun (e:Bool)=>⟨[(8,.pure (.bool e))],[],[],0⟩)
 (.br (c==4)
 (.oo (c==4))
 (.br (c==5)
 (.oo (c==5))
 (.oo (c==6)))) fun e=>
 .br e
 (.ret 4194304)
 (.ret 0))
noncomputable def vz8 (c):=
 mkD Tryz.func194 (ozk c) 0 [pz c] [] (fun r=>pz r) (fun _=>[])
noncomputable def ozj (c:Int)(d:Int):T Bool:=
 .br (decide (1≤c))
 (.ret (decide (c≤d)))
 (.ret false)
noncomputable def gz7 (c)(d):=
 mkD Tryz.func195 (ozj c d) 0 [pz c,pz d] [] (fun r=>.pure (.bool r)) (fun _=>[])
noncomputable def iz1 (c:bz1)(d:Int):T Int:=let e:=c.Joints.getD (d.toNat) default;let f:=e.Name;let g:=e.Kind;let h:=e.Parent;let i:Nat×Res:=(0,.box [.pure (.str f),pz g,pz h,pz (e.Offset.1),pz (e.Offset.2.1),pz (e.Offset.2.2),pz (e.Lo),pz (e.Hi),pz (e.Weight),pz (e.Speed),pz (e.Accel),pz (e.Torque)]);.gh d c.Joints.length<|
 .cut 1 (fun (j:Bool)=>⟨[(1,pz d),(5,.ptr 0 0),(12,.pure (.bool j))],[i],[],1⟩)
 (.cc (qzw f) fun j=>
 .br (!j)
 (.oo true)
 (.cc (yz2 (⟨c.Joints,c.Masses⟩:bz1) f) fun k=>
 .oo (k !=d))) fun j=>
 .br j
 (.ret 802)
 (.cut 0 (fun (k:Bool)=>⟨[(1,pz d),(5,.ptr 0 0),(25,.pure (.bool k))],[i],[],1⟩)
 (.br (decide (g<0))
 (.oo true)
 (.oo (decide (g>6)))) fun k=>
 .br k
 (.ret 803)
 (.cut 0 (fun (m:Bool)=>⟨[(5,.ptr 0 0),(34,.pure (.bool m))],[i],[],1⟩)
 (.br (decide (h<(-1)))
 (.oo true)
 (.oo (decide (h≥d)))) fun m=>
 .br m
 (.ret 804)
 (.cc (mzr (e.Offset)) fun n=>
 .br n
 (.ret 805)
 (.cc (vz8 g) fun s=>
 .cut 1 (fun (t:Bool)=>⟨[(5,.ptr 0 0),(68,.pure (.bool t))],[i],[],1⟩)
 (.br (decide ((e.Lo)>(e.Hi)))
 (.oo true)
 (.br (decide ((e.Lo)<(i64.wrap (0-s))))
 (.oo true)
 (.oo (decide ((e.Hi)>s))))) fun t=>
 .br t
 (.ret 806)
 (.cut 1 (fun (w:Bool)=>⟨[(90,.pure (.bool w))],[],[],0⟩)
 (.cc (gz7 (e.Weight) 1024) fun w=>
 .br (!w)
 (.oo true)
 (.cc (gz7 (e.Speed) 1048576) fun y=>
 .br (!y)
 (.oo true)
 (.cc (gz7 (e.Accel) 1048576) fun z=>
 .br (!z)
 (.oo true)
 (.cc (gz7 (e.Torque) 1099511627776) fun aa=>
 .oo (!aa))))) fun w=>
 .br w
 (.ret 807)
 (.ret 0))))))
noncomputable def mzg (c)(d):=
 mkD Tryz.func120 (iz1 c d) 0 [.pure (dz2 c),pz d] [] (fun r=>pz r) (fun _=>[])
noncomputable def izz (c:bz1)(d:bzo):T Bool:=
 .br (decide (0≤d.Link))
 (.br (decide (d.Link<(c.Joints.length:Int)))
 (.cc (gz7 d.Mass 65536) fun e=>
 .br e
 (.cc (mzr d.Point) fun f=>
 .ret (!f))
 (.ret false))
 (.ret false))
 (.ret false)
noncomputable def nzh (c)(d):=
 mkD Tryz.func123 (izz c d) 0 [.pure (dz2 c),.pure (azc d)] [] (fun r=>.pure (.bool r)) (fun _=>[])
noncomputable def lzg (c:bzo)(d:A4)(e:A9):T (Bool×A4×A9):=
 .cc (nzh (⟨d,e⟩:bz1) (⟨c.Link,c.Mass,c.Point⟩:bzo)) fun f=>
 .ret ((!f),d,e)
noncomputable def qzk (c)(d)(e):=
 mkD Tryz.func122 (lzg c d e) 1 [.pure (azc c),.ptr 0 0] [(0,.box [.pure (encL 12 az7 d),.pure (encL 5 azc e)])] (fun r=>.pure (.bool r.1)) (fun r=>[(0,.box [.pure (encL 12 az7 r.2.1),.pure (encL 5 azc r.2.2)])])
noncomputable def czr (c:A9)(d:A4)(e:A9):T (Int×A4×A9):=let f:=(c.length:Nat);.loop (fun (g:(A4×A9×Int))=>⟨[(0,.pure (encL 5 azc c)),(1,.func 122 [] [.ptr 0 0]),(7,pz (f:Int)),(8,pz g.2.2)],[(0,.box [.pure (encL 12 az7 g.1),.pure (encL 5 azc g.2.1)])],[],1⟩)
 (.exit 0) (fun (g:(A4×A9))=>⟨[],[(0,.box [.pure (encL 12 az7 g.1),.pure (encL 5 azc g.2)])],[],1⟩)
 (fun g=>.br (decide (g.2.2<(f:Int)))
 (.gh g.2.2 c.length<|
 .call (qzk (c.getD ((g.2.2).toNat) default) g.1 g.2.1) [(0,0)] fun h=>
 .br h.1
 (.ff (g.2.2,h.2.1,h.2.2))
 (.nn (h.2.1,h.2.2,(i64.wrap (g.2.2+1)))))
 (.oo (g.1,g.2.1)))
 (d,e,0) [] fun g=>
 .ret ((-1),g.1,g.2)
noncomputable def dzu (c)(d)(e):=
 mkD Tryz.func196 (czr c d e) 1 [.pure (encL 5 azc c),.func 122 [] [.ptr 0 0]] [(0,.box [.pure (encL 12 az7 d),.pure (encL 5 azc e)])] (fun r=>pz r.1) (fun r=>[(0,.box [.pure (encL 12 az7 r.2.1),.pure (encL 5 azc r.2.2)])])
noncomputable def czf (c:A9)(d:A4)(e:A9):T (Bool×A4×A9):=
 .call (dzu c d e) [(0,0)] fun f=>
 .ret ((decide (f.1≥0)),f.2.1,f.2.2)
noncomputable def dzj (c)(d)(e):=
 mkD Tryz.func121 (czf c d e) 1 [.pure (encL 5 azc c),.func 122 [] [.ptr 0 0]] [(0,.box [.pure (encL 12 az7 d),.pure (encL 5 azc e)])] (fun r=>.pure (.bool r.1)) (fun r=>[(0,.box [.pure (encL 12 az7 r.2.1),.pure (encL 5 azc r.2.2)])])
noncomputable def ozi (c:bz1):T Int:=let d:=(c.Joints.length:Int);let e:Nat×Res:=(0,.box [.pure (encL 12 az7 c.Joints),.pure (encL 5 azc c.Masses)]);.cut 2 (fun (f:Bool)=>⟨[(1,.ptr 0 0),(14,.pure (.bool f))],[e],[],1⟩)
 (.br (d==0)
 (.oo true)
 (.oo (decide (d>10)))) fun f=>
 .br f
 (.ret 801)
 (.loop (fun (g:Int)=>⟨[(1,.ptr 0 0),(17,pz d),(18,pz g)],[e],[],1⟩)
 (.exit 0) (fun (_:U0)=>⟨[(1,.ptr 0 0)],[e],[],1⟩)
 (fun g=>.br (decide (g<d))
 (.cc (mzg (⟨c.Joints,c.Masses⟩:bz1) g) fun h=>
 .br (h !=0)
 (.ff h)
 (.nn (i64.wrap (g+1))))
 (.oo .u))
 0 [] fun _=>
 .cut 1 (fun (g:Bool)=>⟨[(37,.pure (.bool g))],[],[],0⟩)
 (.br (decide ((c.Masses.length:Int)>32))
 (.oo true)
 (.call (dzj c.Masses c.Joints c.Masses) [(0,0)] fun g=>
 .oo g.1)) fun g=>
 .br g
 (.ret 808)
 (.ret 0))
noncomputable def eze (c):=
 mkD Tryz.func66 (ozi c) 0 [.pure (dz2 c)] [] (fun r=>pz r) (fun _=>[])
noncomputable def mzt (c:azx)(d:Int):T Bool:=
 .br (decide ((-1)≤d))
 (.ret (decide (d<(c.Robot.Joints.length:Int))))
 (.ret false)
noncomputable def jz9 (c)(d):=
 mkD Tryz.func129 (mzt c d) 0 [.pure (czl c),pz d] [] (fun r=>.pure (.bool r)) (fun _=>[])
noncomputable def iz3 (c:azx)(d:azg):T Int:=let e:=encL 3 az2 d.Points;let f:=(d.Points.length:Int);.cut 3 (fun (g:Bool)=>⟨[(3,.ptr 0 0),(35,.pure (.bool g))],[(0,.box [pz d.Link,pz d.Radius,.pure e])],[],1⟩)
 (.cc (jz9 c d.Link) fun g=>
 .br (!g)
 (.oo true)
 (.br (decide (d.Radius<1))
 (.oo true)
 (.br (decide (d.Radius>1048576))
 (.oo true)
 (.br (decide (f<1))
 (.oo true)
 (.oo (decide (f>8))))))) fun g=>
 .br g
 (.ret 902)
 (.loop (fun (h:Int)=>⟨[(37,.pure e),(38,pz f),(39,pz h)],[],[],0⟩)
 (.exit 0) (fun (_:U0)=>⟨[],[],[],0⟩)
 (fun h=>let i:=d.Points.getD (h.toNat) default;.br (decide (h<f))
 (.gh h d.Points.length<|
 .loop (fun (j:Int)=>⟨[(37,.pure e),(38,pz f),(39,pz h),(43,.pure (az2 i)),(44,pz j)],[],[],0⟩)
 (.exit 2) (fun (_:U0)=>⟨[(37,.pure e),(38,pz f),(39,pz h)],[],[],0⟩)
 (fun j=>.br (decide (j<3))
 (.gh j 3<|
 .name 9000 ((([i.1,i.2.1,i.2.2]:List Int).getD j.toNat 0)) fun k=>
 .cut 0 (fun (m:Bool)=>⟨[(37,.pure e),(38,pz f),(39,pz h),(43,.pure (az2 i)),(44,pz j),(52,.pure (.bool m))],[],[],0⟩)
 (.br (decide (k<(-4194304)))
 (.oo true)
 (.oo (decide (k>4194304)))) fun m=>
 .br m
 (.ff (.fin 805))
 (.nn (i64.wrap (j+1))))
 (.oo .u))
 0 [] fun _=>
 .nn (i64.wrap (h+1)))
 (.oo .u))
 0 [] fun _=>
 .ret 0)
noncomputable def mzh (c)(d):=
 mkD Tryz.func128 (iz3 c d) 0 [.pure (czl c),.pure (az8 d)] [] (fun r=>pz r) (fun _=>[])
noncomputable def ozm (c:azx):T Int:=let d:=encL 2 aze c.Skips;let e:=encL 3 az8 c.Shapes;let f:=(c.Skips.length:Int);let g:=(c.Shapes.length:Int);let h:Nat×Res:=(0,.box [.pure (encL 12 az7 c.Robot.Joints),.pure (encL 5 azc c.Robot.Masses),.pure e,.pure d]);.cc (eze c.Robot) fun i=>
 .br (i !=0)
 (.ret i)
 (.br (decide (g>24))
 (.ret 901)
 (.loop (fun (j:Int)=>⟨[(1,.ptr 0 0),(20,.pure e),(21,pz g),(22,pz j)],[h],[],1⟩)
 (.exit 0) (fun (_:U0)=>⟨[(1,.ptr 0 0)],[h],[],1⟩)
 (fun j=>.br (decide (j<g))
 (.gh j c.Shapes.length<|
 .cc (mzh c (c.Shapes.getD (j.toNat) default)) fun k=>
 .br (k !=0)
 (.ff k)
 (.nn (i64.wrap (j+1))))
 (.oo .u))
 0 [] fun _=>
 .br (decide (f>64))
 (.ret 903)
 (.loop (fun (j:Int)=>⟨[(1,.ptr 0 0),(38,.pure d),(39,pz f),(40,pz j)],[h],[],1⟩)
 (.exit 2) (fun (_:U0)=>⟨[],[],[],0⟩)
 (fun j=>let k:=c.Skips.getD (j.toNat) default;.br (decide (j<f))
 (.gh j c.Skips.length<|
 .cut 0 (fun (m:Bool)=>⟨[(1,.ptr 0 0),(38,.pure d),(39,pz f),(40,pz j),(55,.pure (.bool m))],[h],[],1⟩)
 (.cc (jz9 c (k.A)) fun m=>
 .br (!m)
 (.oo true)
 (.cc (jz9 c (k.B)) fun n=>
 .oo (!n))) fun m=>
 .br m
 (.ff 903)
 (.nn (i64.wrap (j+1))))
 (.oo .u))
 0 [] fun _=>
 .ret 0)))
noncomputable def dze (c):=
 mkD Tryz.func75 (ozm c) 0 [.pure (czl c)] [] (fun r=>pz r) (fun _=>[])
noncomputable def qz5 (c:Bg):T Bool:=
 .unroll 4<|
 .known true<|
 .ix 0 3 rfl<|
 .ix 0 3 rfl<|
 .lit 6000 (1)<|
 .known true<|
 .ix 1 3 rfl<|
 .ix 1 3 rfl<|
 .lit 6000 (2)<|
 .known true<|
 .ix 2 3 rfl<|
 .ix 2 3 rfl<|
 .lit 6000 (3)<|
 .known false<|
 .ret (((min (max c.1 (-2097152)) 2097152)==c.1)&&(((min (max c.2.1 (-2097152)) 2097152)==c.2.1)&&(((min (max c.2.2 (-2097152)) 2097152)==c.2.2)&&true)))
noncomputable def mz3 (c):=
 mkD Tryz.func130 (qz5 c) 0 [.pure (az2 c)] [] (fun r=>.pure (.bool r)) (fun _=>[])
noncomputable def oz3 (c:azb)(d:Int)(e:Int):T Bool:=
 .br (decide (0≤d))
 (.br (decide (d<(c.Hands.length:Int)))
 (.br (decide (0≤e))
 (.ret (decide (e<(c.Places.length:Int))))
 (.ret false))
 (.ret false))
 (.ret false)
noncomputable def oz2 (c)(d)(e):=
 mkD Tryz.func51 (oz3 c d e) 0 [.pure (bzm c),pz d,pz e] [] (fun r=>.pure (.bool r)) (fun _=>[])
noncomputable def izs (c:azs)(d:Int):T Bool:=
 .br (decide (c.Lo≤d))
 (.ret (decide (d≤c.Hi)))
 (.ret false)
noncomputable def nz3 (c)(d):=
 mkD Tryz.func68 (izs c d) 0 [.pure (az7 c),pz d] [] (fun r=>.pure (.bool r)) (fun _=>[])
noncomputable def dzh (c:A4)(d:A0):T Bool:=let e:=(c.length:Int);.br (e !=(d.length:Int))
 (.ret false)
 (.loop (fun (f:Int)=>⟨[(1,.pure (encL 1 az1 d)),(2,.func 68 [] []),(14,.pure (encL 12 az7 c)),(15,pz e),(16,pz f)],[],[],0⟩)
 (.exit 0) (fun (_:U0)=>⟨[],[],[],0⟩)
 (fun f=>.br (decide (f<e))
 (.gh f c.length<|
 .gh f d.length<|
 .cc (nz3 (c.getD (f.toNat) default) (d.getD (f.toNat) default)) fun g=>
 .br (!g)
 (.ff false)
 (.nn (i64.wrap (f+1))))
 (.oo .u))
 0 [] fun _=>
 .ret true)
noncomputable def fz0 (c)(d):=
 mkD Tryz.func67 (dzh c d) 0 [.pure (encL 12 az7 c),.pure (encL 1 az1 d),.func 68 [] []] [] (fun r=>.pure (.bool r)) (fun _=>[])
noncomputable def lz3 (c:bz1)(d:A0):T Bool:=
 .cc (eze c) fun e=>
 .br (e==0)
 (.cc (fz0 c.Joints d) fun f=>
 .ret f)
 (.ret false)
noncomputable def bzv (c)(d):=
 mkD Tryz.func36 (lz3 c d) 0 [.pure (dz2 c),.pure (encL 1 az1 d)] [] (fun r=>.pure (.bool r)) (fun _=>[])
set_option maxHeartbeats 8000000 in
set_option maxRecDepth 20000 in
noncomputable def lza (c:azb):T Bool:=let d:=encL 4 azv c.Hands;let e:=encL 3 azu c.Grips;let f:=encL 3 az2 c.Places;let g:=(c.Hands.length:Int);let h:=(c.Grips.length:Int);let i:=(c.Places.length:Int);let j:Nat×Res:=(0,.box [.pure (encL 12 az7 c.Scene.Robot.Joints),.pure (encL 5 azc c.Scene.Robot.Masses),.pure (encL 3 az8 c.Scene.Shapes),.pure (encL 2 aze c.Scene.Skips),.pure (encL 2 azh c.Objects),.pure f,.pure d,.pure e,pz c.Slack]);.cut 2 (fun (k:Bool)=>⟨[(1,.ptr 0 0),(30,.pure (.bool k))],[j],[],1⟩)
 (.br (decide ((c.Objects.length:Int)>6))
 (.oo true)
 (.br (decide (i>8))
 (.oo true)
 (.br (decide (g>3))
 (.oo true)
 (.oo (decide (h>32)))))) fun k=>
 .br k
 (.ret false)
 (.cut 1 (fun (m:Bool)=>⟨[(1,.ptr 0 0),(38,.pure (.bool m))],[j],[],1⟩)
 (.br (decide (c.Slack<0))
 (.oo true)
 (.oo (decide (c.Slack>65536)))) fun m=>
 .br m
 (.ret false)
 (.loop (fun (n:Int)=>⟨[(1,.ptr 0 0),(40,.pure f),(41,pz i),(42,pz n)],[j],[],1⟩)
 (.exit 0) (fun (_:U0)=>⟨[(1,.ptr 0 0)],[j],[],1⟩)
 (fun n=>.br (decide (n<i))
 (.gh n c.Places.length<|
 .cc (mz3 (c.Places.getD (n.toNat) default)) fun s=>
 .br (!s)
 (.ff false)
 (.nn (i64.wrap (n+1))))
 (.oo .u))
 0 [] fun _=>
 .loop (fun (n:Int)=>⟨[(1,.ptr 0 0),(51,.pure d),(52,pz g),(53,pz n)],[j],[],1⟩)
 (.exit 2) (fun (_:U0)=>⟨[(1,.ptr 0 0)],[j],[],1⟩)
 (fun n=>let s:=c.Hands.getD (n.toNat) default;.br (decide (n<g))
 (.gh n c.Hands.length<|
 .cut 0 (fun (t:Bool)=>⟨[(1,.ptr 0 0),(51,.pure d),(52,pz g),(53,pz n),(75,.pure (.bool t))],[j],[],1⟩)
 (.br (decide ((s.Link)<0))
 (.oo true)
 (.br (decide ((s.Link)≥(c.Scene.Robot.Joints.length:Int)))
 (.oo true)
 (.cc (mz3 (s.Offset)) fun t=>
 .oo (!t)))) fun t=>
 .br t
 (.ff false)
 (.nn (i64.wrap (n+1))))
 (.oo .u))
 0 [] fun _=>
 .loop (fun (n:Int)=>⟨[(1,.ptr 0 0),(78,.pure e),(79,pz h),(80,pz n)],[j],[],1⟩)
 (.exit 4) (fun (_:U0)=>⟨[],[],[],0⟩)
 (fun n=>let s:=c.Grips.getD (n.toNat) default;.br (decide (n<h))
 (.gh n c.Grips.length<|
 .cut 0 (fun (t:Bool)=>⟨[(1,.ptr 0 0),(78,.pure e),(79,pz h),(80,pz n),(99,.pure (.bool t))],[j],[],1⟩)
 (.cc (oz2 (⟨c.Scene,c.Objects,c.Places,c.Hands,c.Grips,c.Slack⟩:azb) (s.Hand) (s.Place)) fun t=>
 .br (!t)
 (.oo true)
 (.cc (bzv c.Scene.Robot (s.At)) fun w=>
 .oo (!w))) fun t=>
 .br t
 (.ff false)
 (.nn (i64.wrap (n+1))))
 (.oo .u))
 0 [] fun _=>
 .ret true))
noncomputable def lz9 (c):=
 mkD Tryz.func76 (lza c) 0 [.pure (bzm c)] [] (fun r=>.pure (.bool r)) (fun _=>[])
noncomputable def Bzg (c:bz9)(d:ByteArray)(e:A5):T C2:=
 .ret ((c.Name==d),d,e)
noncomputable def qz4 (c)(d)(e):=
 mkD Tryz.func77 (Bzg c d e) 1 [.pure (azh c),.ptr 0 0] [(0,.box [.pure (.str d),.pure (encL 3 az8 e)])] (fun r=>.pure (.bool r.1)) (fun r=>[(0,.box [.pure (.str r.2.1),.pure (encL 3 az8 r.2.2)])])
noncomputable def czc (c:A7)(d:ByteArray)(e:A5):T (Int×ByteArray×A5):=let f:=(c.length:Nat);.loop (fun (g:(ByteArray×A5×Int))=>⟨[(0,.pure (encL 2 azh c)),(1,.func 77 [] [.ptr 0 0]),(7,pz (f:Int)),(8,pz g.2.2)],[(0,.box [.pure (.str g.1),.pure (encL 3 az8 g.2.1)])],[],1⟩)
 (.exit 0) (fun (g:(ByteArray×A5))=>⟨[],[(0,.box [.pure (.str g.1),.pure (encL 3 az8 g.2)])],[],1⟩)
 (fun g=>.br (decide (g.2.2<(f:Int)))
 (.gh g.2.2 c.length<|
 .call (qz4 (c.getD ((g.2.2).toNat) default) g.1 g.2.1) [(0,0)] fun h=>
 .br h.1
 (.ff (g.2.2,h.2.1,h.2.2))
 (.nn (h.2.1,h.2.2,(i64.wrap (g.2.2+1)))))
 (.oo (g.1,g.2.1)))
 (d,e,0) [] fun g=>
 .ret ((-1),g.1,g.2)
noncomputable def dzc (c)(d)(e):=
 mkD Tryz.func133 (czc c d e) 1 [.pure (encL 2 azh c),.func 77 [] [.ptr 0 0]] [(0,.box [.pure (.str d),.pure (encL 3 az8 e)])] (fun r=>pz r.1) (fun r=>[(0,.box [.pure (.str r.2.1),.pure (encL 3 az8 r.2.2)])])
noncomputable def cz6 (c:A7)(d:ByteArray)(e:A5):T C2:=
 .call (dzc c d e) [(0,0)] fun f=>
 .ret ((decide (f.1≥0)),f.2.1,f.2.2)
noncomputable def dz7 (c)(d)(e):=
 mkD Tryz.func79 (cz6 c d e) 1 [.pure (encL 2 azh c),.func 77 [] [.ptr 0 0]] [(0,.box [.pure (.str d),.pure (encL 3 az8 e)])] (fun r=>.pure (.bool r.1)) (fun r=>[(0,.box [.pure (.str r.2.1),.pure (encL 3 az8 r.2.2)])])
noncomputable def ozo (c:azg):T Bool:=let d:=encL 3 az2 c.Points;let e:=(c.Points.length:Int);.cut 2 (fun (f:Bool)=>⟨[(1,.ptr 0 0),(26,.pure (.bool f))],[(0,.box [pz c.Link,pz c.Radius,.pure d])],[],1⟩)
 (.br (decide (c.Radius<1))
 (.oo true)
 (.br (decide (c.Radius>1048576))
 (.oo true)
 (.br (decide (e<1))
 (.oo true)
 (.oo (decide (e>8)))))) fun f=>
 .br f
 (.ret false)
 (.loop (fun (g:Int)=>⟨[(28,.pure d),(29,pz e),(30,pz g)],[],[],0⟩)
 (.exit 0) (fun (_:U0)=>⟨[],[],[],0⟩)
 (fun g=>let h:=c.Points.getD (g.toNat) default;.br (decide (g<e))
 (.gh g c.Points.length<|
 .loop (fun (i:Int)=>⟨[(28,.pure d),(29,pz e),(30,pz g),(34,.pure (az2 h)),(35,pz i)],[],[],0⟩)
 (.exit 2) (fun (_:U0)=>⟨[(28,.pure d),(29,pz e),(30,pz g)],[],[],0⟩)
 (fun i=>.br (decide (i<3))
 (.gh i 3<|
 .name 8000 ((([h.1,h.2.1,h.2.2]:List Int).getD i.toNat 0)) fun j=>
 .cut 0 (fun (k:Bool)=>⟨[(28,.pure d),(29,pz e),(30,pz g),(34,.pure (az2 h)),(35,pz i),(43,.pure (.bool k))],[],[],0⟩)
 (.br (decide (j<(-4194304)))
 (.oo true)
 (.oo (decide (j>4194304)))) fun k=>
 .br k
 (.ff (.fin false))
 (.nn (i64.wrap (i+1))))
 (.oo .u))
 0 [] fun _=>
 .nn (i64.wrap (g+1)))
 (.oo .u))
 0 [] fun _=>
 .ret true)
noncomputable def ozn (c):=
 mkD Tryz.func134 (ozo c) 0 [.pure (az8 c)] [] (fun r=>.pure (.bool r)) (fun _=>[])
noncomputable def oz5 (c:bz9):T Bool:=let d:=encL 3 az8 c.Shapes;let e:=(c.Shapes.length:Int);let f:Nat×Res:=(0,.box [.pure (.str c.Name),.pure d]);.loop (fun (g:Int)=>⟨[(1,.ptr 0 0),(8,.pure d),(9,pz e),(10,pz g)],[f],[],1⟩)
 (.exit 0) (fun (_:U0)=>⟨[(1,.ptr 0 0)],[f],[],1⟩)
 (fun g=>let h:=c.Shapes.getD (g.toNat) default;let i:=encL 3 az2 (h.Points);let j:=(h.Points.length:Nat);.br (decide (g<e))
 (.gh g c.Shapes.length<|
 .cut 1 (fun (k:Bool)=>⟨[(1,.ptr 0 0),(4,.ptr 1 0),(8,.pure d),(9,pz e),(10,pz g),(21,.pure (.bool k))],[f,(1,.box [pz (h.Link),pz (h.Radius),.pure i])],[],2⟩)
 (.cc (ozn h) fun k=>
 .br (!k)
 (.oo true)
 (.oo ((h.Link) !=0))) fun k=>
 .br k
 (.ff false)
 (.loop (fun (m:Int)=>⟨[(1,.ptr 0 0),(8,.pure d),(9,pz e),(10,pz g),(23,.pure i),(24,pz (j:Int)),(25,pz m)],[f],[],1⟩)
 (.exit 2) (fun (_:U0)=>⟨[(1,.ptr 0 0),(8,.pure d),(9,pz e),(10,pz g)],[f],[],1⟩)
 (fun m=>.br (decide (m<(j:Int)))
 (.gh m (h.Points.length)<|
 .call (mz3 ((h.Points).getD (m.toNat) default)) [] fun n=>
 .br (!n)
 (.ff (.fin false))
 (.nn (i64.wrap (m+1))))
 (.oo .u))
 0 [] fun _=>
 .nn (i64.wrap (g+1))))
 (.oo .u))
 0 [] fun _=>
 .ret (decide (e>0))
noncomputable def oz4 (c):=
 mkD Tryz.func80 (oz5 c) 0 [.pure (azh c)] [] (fun r=>.pure (.bool r)) (fun _=>[])
noncomputable def nzz (c:azb):T Int:=let d:=encL 2 azh c.Objects;let e:=(c.Objects.length:Int);let f:Nat×Res:=(0,.box [.pure (encL 12 az7 c.Scene.Robot.Joints),.pure (encL 5 azc c.Scene.Robot.Masses),.pure (encL 3 az8 c.Scene.Shapes),.pure (encL 2 aze c.Scene.Skips),.pure d,.pure (encL 3 az2 c.Places),.pure (encL 4 azv c.Hands),.pure (encL 3 azu c.Grips),pz c.Slack]);.cc (dze c.Scene) fun g=>
 .br (g !=0)
 (.ret g)
 (.cc (lz9 (⟨c.Scene,c.Objects,c.Places,c.Hands,c.Grips,c.Slack⟩:azb)) fun h=>
 .br (!h)
 (.ret 3401)
 (.loop (fun (i:Ay)=>⟨[(1,.ptr 0 0),(4,pz i.1),(22,.pure d),(23,pz e),(24,pz i.2)],[f],[],1⟩)
 (.exit 0) (fun (i:Int)=>⟨[(4,pz i)],[],[],0⟩)
 (fun i=>let j:=c.Objects.getD ((i.2).toNat) default;.br (decide (i.2<e))
 (.gh i.2 c.Objects.length<|
 .cut 2 (fun (k:(ByteArray×A5×Bool))=>⟨[(1,.ptr 0 0),(4,pz i.1),(6,.ptr 1 0),(22,.pure d),(23,pz e),(24,pz i.2),(46,.pure (.bool k.2.2))],[f,(1,.box [.pure (.str k.1),.pure (encL 3 az8 k.2.1)])],[],2⟩)
 (.cc (qzw (j.Name)) fun k=>
 .br (!k)
 (.oo (j.Name,j.Shapes,true))
 (.conv 11008 (wzc 2 azh c.Objects (0:Int) i.2)<|
 .grd (0≤(0:Int)/\(0:Int)≤i.2/\i.2≤e)<|
 .call (dz7 ((c.Objects.drop ((0:Int).toNat)).take ((i.2).toNat- (0:Int).toNat)) (j.Name) (j.Shapes)) [(0,257)] fun m=>
 .br m.1
 (.oo (m.2.1,m.2.2,true))
 (.cc (oz4 (⟨m.2.1,m.2.2⟩:bz9)) fun n=>
 .oo (m.2.1,m.2.2,(!n))))) fun k=>
 .br k.2.2
 (.ff 3402)
 (.nn ((i64.wrap (i.1+(k.2.1.length:Int))),(i64.wrap (i.2+1)))))
 (.oo i.1))
 ((c.Scene.Shapes.length:Int),0) [] fun i=>
 .br (decide (i>24))
 (.ret 3401)
 (.ret 0)))
noncomputable def gz4 (c):=
 mkD Tryz.func40 (nzz c) 0 [.pure (bzm c)] [] (fun r=>pz r) (fun _=>[])
noncomputable def fzg (c:A0)(d:Int):T Int:=let e:=(c.length:Nat);.loop (fun (f:Int)=>⟨[(0,.pure (encL 1 az1 c)),(1,pz d),(7,pz (e:Int)),(8,pz f)],[],[],0⟩)
 (.exit 0) (fun (_:U0)=>⟨[],[],[],0⟩)
 (fun f=>.br (decide (f<(e:Int)))
 (.gh f c.length<|
 .br (d==(c.getD (f.toNat) default))
 (.ff f)
 (.nn (i64.wrap (f+1))))
 (.oo .u))
 0 [] fun _=>
 .ret (-1)
noncomputable def izr (c)(d):=
 mkD Tryz.func119 (fzg c d) 0 [.pure (encL 1 az1 c),pz d] [] (fun r=>pz r) (fun _=>[])
noncomputable def ezk (c:A0)(d:Int):T Bool:=
 .cc (izr c d) fun e=>
 .ret (decide (e≥0))
noncomputable def gzl (c)(d):=
 mkD Tryz.func65 (ezk c d) 0 [.pure (encL 1 az1 c),pz d] [] (fun r=>.pure (.bool r)) (fun _=>[])
noncomputable def oz1 (c:azb)(d:bz5):T Bool:=let e:=encL 1 az1 d.Where;let f:Nat×Res:=(1,.box [.pure e]);let g:=(d.Where.length:Int);let h:Nat×Res:=(0,.box [.pure (encL 12 az7 c.Scene.Robot.Joints),.pure (encL 5 azc c.Scene.Robot.Masses),.pure (encL 3 az8 c.Scene.Shapes),.pure (encL 2 aze c.Scene.Skips),.pure (encL 2 azh c.Objects),.pure (encL 3 az2 c.Places),.pure (encL 4 azv c.Hands),.pure (encL 3 azu c.Grips),pz c.Slack]);.cut 2 (fun (i:Bool)=>⟨[(2,.ptr 0 0),(3,.ptr 1 0),(18,.pure (.bool i))],[h,f],[],2⟩)
 (.cc (gz4 (⟨c.Scene,c.Objects,c.Places,c.Hands,c.Grips,c.Slack⟩:azb)) fun i=>
 .br (i !=0)
 (.oo true)
 (.oo (g !=(c.Objects.length:Int)))) fun i=>
 .br i
 (.ret false)
 (.loop (fun (j:Int)=>⟨[(2,.ptr 0 0),(3,.ptr 1 0),(20,.pure e),(21,pz g),(22,pz j)],[h,f],[],2⟩)
 (.exit 0) (fun (_:U0)=>⟨[],[],[],0⟩)
 (fun j=>let k:=d.Where.getD (j.toNat) default;.br (decide (j<g))
 (.gh j d.Where.length<|
 .cut 0 (fun (m:Bool)=>⟨[(2,.ptr 0 0),(3,.ptr 1 0),(20,.pure e),(21,pz g),(22,pz j),(47,.pure (.bool m))],[h,f],[],2⟩)
 (.br (decide (k<(i64.wrap (0- (c.Hands.length:Int)))))
 (.oo true)
 (.br (decide (k≥(c.Places.length:Int)))
 (.oo true)
 (.conv 6017 (wzc 1 az1 d.Where (0:Int) j)<|
 .grd (0≤(0:Int)/\(0:Int)≤j/\j≤g)<|
 .cc (gzl ((d.Where.drop ((0:Int).toNat)).take (j.toNat- (0:Int).toNat)) k) fun m=>
 .oo m))) fun m=>
 .br m
 (.ff false)
 (.nn (i64.wrap (j+1))))
 (.oo .u))
 0 [] fun _=>
 .ret true)
noncomputable def dz3 (c)(d):=
 mkD Tryz.func35 (oz1 c d) 0 [.pure (bzm c),.pure (ezb d)] [] (fun r=>.pure (.bool r)) (fun _=>[])
noncomputable def tzf (c:dzd):T Bool:=
 .br (decide (c.Samples≥0))
 (.br (decide (c.Samples≤1022))
 (.br (decide (c.Degree≥1))
 (.br (decide (c.Degree≤16))
 (.br (decide (c.Depth≥0))
 (.br (decide (c.Depth≤20))
 (.br (decide (c.Tests≥0))
 (.ret (decide (c.Tests≤8192)))
 (.ret false))
 (.ret false))
 (.ret false))
 (.ret false))
 (.ret false))
 (.ret false))
 (.ret false)
noncomputable def ez1 (c):=
 mkD Tryz.func37 (tzf c) 0 [.pure (rz2 c)] [] (fun r=>.pure (.bool r)) (fun _=>[])
noncomputable def lzn (c:bz5):T C6:=
 .unroll 7<|
 .known true<|
 .ix 0 6 rfl<|
 .lit 6000 (1)<|
 .known true<|
 .ix 1 6 rfl<|
 .lit 6000 (2)<|
 .known true<|
 .ix 2 6 rfl<|
 .lit 6000 (3)<|
 .known true<|
 .ix 3 6 rfl<|
 .lit 6000 (4)<|
 .known true<|
 .ix 4 6 rfl<|
 .lit 6000 (5)<|
 .known true<|
 .ix 5 6 rfl<|
 .lit 6000 (6)<|
 .known false<|
 .ret ((if 0<c.Where.length then c.Where.getD 0 default else(-1048577)),(if 1<c.Where.length then c.Where.getD 1 default else(-1048577)),(if 2<c.Where.length then c.Where.getD 2 default else(-1048577)),(if 3<c.Where.length then c.Where.getD 3 default else(-1048577)),(if 4<c.Where.length then c.Where.getD 4 default else(-1048577)),(if 5<c.Where.length then c.Where.getD 5 default else(-1048577)))
noncomputable def dzz (c):=
 mkD Tryz.func49 (lzn c) 0 [.pure (ezb c)] [] (fun r=>.pure (bzb r)) (fun _=>[])
noncomputable def ozh (c:C6)(d:A0):T Bool:=let e:=encL 1 az1 d;let f:=(d.length:Int);let g:Nat×Res:=(0,.box [pz c.1,pz c.2.1,pz c.2.2.1,pz c.2.2.2.1,pz c.2.2.2.2.1,pz c.2.2.2.2.2]);.loop (fun (h:Int)=>⟨[(2,.ptr 0 0),(7,.pure e),(8,pz f),(9,pz h)],[g],[],1⟩)
 (.exit 0) (fun (_:U0)=>⟨[],[],[],0⟩)
 (fun h=>let i:=d.getD (h.toNat) default;.br (decide (h<f))
 (.gh h d.length<|
 .cut 0 (fun (j:Bool)=>⟨[(2,.ptr 0 0),(7,.pure e),(8,pz f),(9,pz h),(22,.pure (.bool j))],[g],[],1⟩)
 (.br (i !=(-1048576))
 (.cas 4004 h 0
 (.ix 0 6 rfl<|
 .oo (i !=c.1))
 (.cas 4004 h 1
 (.ix 1 6 rfl<|
 .oo (i !=c.2.1))
 (.cas 4004 h 2
 (.ix 2 6 rfl<|
 .oo (i !=c.2.2.1))
 (.cas 4004 h 3
 (.ix 3 6 rfl<|
 .oo (i !=c.2.2.2.1))
 (.cas 4004 h 4
 (.ix 4 6 rfl<|
 .oo (i !=c.2.2.2.2.1))
 (.cas 4004 h 5
 (.ix 5 6 rfl<|
 .oo (i !=c.2.2.2.2.2))
 (.stop)))))))
 (.oo false)) fun j=>
 .br j
 (.ff false)
 (.nn (i64.wrap (h+1))))
 (.oo .u))
 0 [] fun _=>
 .ret true
noncomputable def hzw (c)(d):=
 mkD Tryz.func69 (ozh c d) 0 [.pure (bzb c),.pure (encL 1 az1 d)] [] (fun r=>.pure (.bool r)) (fun _=>[])
noncomputable def xzg (c:cze)(d:Int)(e:Int):T Bq:=
 .br (c.Hand==d)
 (.ret ((c.Place==e),d,e))
 (.ret (false,d,e))
noncomputable def xzf (c)(d)(e):=
 mkD Tryz.func124 (xzg c d e) 2 [.pure (azu c),.ptr 0 0,.ptr 1 0] [(0,.box [pz d]),(1,.box [pz e])] (fun r=>.pure (.bool r.1)) (fun r=>[(0,.box [pz r.2.1]),(1,.box [pz r.2.2])])
noncomputable def gzn (c:A8)(d:Int)(e:Int):T Bg:=let f:=(c.length:Nat);.loop (fun (g:Bg)=>⟨[(0,.pure (encL 3 azu c)),(1,.func 124 [] [.ptr 0 0,.ptr 1 0]),(7,pz (f:Int)),(8,pz g.2.2)],[(0,.box [pz g.1]),(1,.box [pz g.2.1])],[],2⟩)
 (.exit 0) (fun (g:Ay)=>⟨[],[(0,.box [pz g.1]),(1,.box [pz g.2])],[],2⟩)
 (fun g=>.br (decide (g.2.2<(f:Int)))
 (.gh g.2.2 c.length<|
 .call (xzf (c.getD ((g.2.2).toNat) default) g.1 g.2.1) [(0,0),(1,1)] fun h=>
 .br h.1
 (.ff (g.2.2,h.2.1,h.2.2))
 (.nn (h.2.1,h.2.2,(i64.wrap (g.2.2+1)))))
 (.oo (g.1,g.2.1)))
 (d,e,0) [] fun g=>
 .ret ((-1),g.1,g.2)
noncomputable def gzm (c)(d)(e):=
 mkD Tryz.func197 (gzn c d e) 2 [.pure (encL 3 azu c),.func 124 [] [.ptr 0 0,.ptr 1 0]] [(0,.box [pz d]),(1,.box [pz e])] (fun r=>pz r.1) (fun r=>[(0,.box [pz r.2.1]),(1,.box [pz r.2.2])])
noncomputable def fzv (c:A8)(d:Int)(e:Int):T Bq:=
 .call (gzm c d e) [(0,0),(1,1)] fun f=>
 .ret ((decide (f.1≥0)),f.2.1,f.2.2)
noncomputable def fzu (c)(d)(e):=
 mkD Tryz.func125 (fzv c d e) 2 [.pure (encL 3 azu c),.func 124 [] [.ptr 0 0,.ptr 1 0]] [(0,.box [pz d]),(1,.box [pz e])] (fun r=>.pure (.bool r.1)) (fun r=>[(0,.box [pz r.2.1]),(1,.box [pz r.2.2])])
end Go.Abs
