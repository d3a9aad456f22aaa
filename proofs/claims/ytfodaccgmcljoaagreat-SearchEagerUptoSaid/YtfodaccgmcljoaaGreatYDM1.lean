/-
  M1 (a part of a claim: our own text).
-/
import Derived.Test.YtfodaccgmcljoaaGreatYDRngF
import Derived.Test.YtfodaccgmcljoaaGreatYDLend
import Derived.Test.YtfodaccgmcljoaaGreatChecked
namespace Go.Abs
open IntKind (i64)
open Go.Proofs
abbrev pz (x:Int):AVal:=.pure (.int .i64 x)
theorem hd:fzk Tryz.prog az37:=Vzf (by kernel_rfl)
noncomputable abbrev mkD {R:Type}{f:FuncId}{fn:Func}(hf:Tryz.prog.funcs[f]?=some fn)(t:T R)(k:Nat)(args:List AVal)(m:Mem)(res:R->AVal)(m1:R->Mem)(hb:(fn.body.isSome&& !(fn.name== "runtime.NumGoroutine"))=true:=by kernel_rfl)(h:(yzv Tryz.prog [] az37 fn (fn.body.getD .skip) k k t args m res m1).side true=(yzv Tryz.prog [] az37 fn (fn.body.getD .skip) k k t args m res m1).side false:=by kernel_rfl):CallS R:=mkC [] hd hf hb t k args m res m1 h
abbrev T.gg {R:Type}(i:Int)(n:Nat)(k:T R):T R:=.grd (0≤i/\i<(n:Int)) (.grd (i.toNat<n) k)
abbrev T.gh {R:Type}(i:Int)(n:Nat)(k:T R):T R:=.grd (0≤i/\i<(n:Int)) k
abbrev T.gi {R:Type}(i:Int)(n:Nat)(k:T R):T R:=.grd (i.toNat<n/\0≤i.toNat) k
abbrev T.oo {σ τ R:Type}(y:τ):T (Step3 σ τ R):=.ret (.out y)
abbrev T.nn {σ τ R:Type}(x:σ):T (Step3 σ τ R):=.ret (.next x)
abbrev T.ff {σ τ R:Type}(r:R):T (Step3 σ τ R):=.ret (.fin r)
abbrev T.cc {R α:Type}(c:CallS α)(k:α->T R):T R:=.call c [] k
structure Lzy where
 list:(List Int)
 next:Int
instance:Inhabited Lzy:=⟨⟨default,default⟩⟩
structure azt where
 Name:ByteArray
 Kind:Int
 Parent:Int
 Offset:(Int×Int×Int)
 Lo:Int
 Hi:Int
 Weight:Int
 Speed:Int
 Accel:Int
 Torque:Int
instance:Inhabited azt:=⟨⟨default,default,default,default,default,default,default,default,default,default⟩⟩
structure bzw where
 Link:Int
 Mass:Int
 Point:(Int×Int×Int)
instance:Inhabited bzw:=⟨⟨default,default,default⟩⟩
structure azl where
 Joints:(List azt)
 Masses:(List bzw)
instance:Inhabited azl:=⟨⟨default,default⟩⟩
structure azx where
 Link:Int
 Radius:Int
 Points:(List (Int×Int×Int))
instance:Inhabited azx:=⟨⟨default,default,default⟩⟩
structure fzl where
 A:Int
 B:Int
instance:Inhabited fzl:=⟨⟨default,default⟩⟩
structure azg where
 Robot:azl
 Shapes:(List azx)
 Skips:(List fzl)
instance:Inhabited azg:=⟨⟨default,default,default⟩⟩
structure azk where
 Depth:Int
 Index:Int
 Normals:(List (Int×Int×Int))
instance:Inhabited azk:=⟨⟨default,default,default⟩⟩
structure bz1 where
 Pair:Int
 Left:(List Int)
 Right:(List Int)
instance:Inhabited bz1:=⟨⟨default,default,default⟩⟩
structure azi where
 Kind:Int
 Pieces:(List azk)
 At:azk
 Witness:bz1
instance:Inhabited azi:=⟨⟨default,default,default,default⟩⟩
structure az4 where
 U:Int
 V:Int
 Cost:Int
 State:Int
 Proof:azi
instance:Inhabited az4:=⟨⟨default,default,default,default,default⟩⟩
structure az9 where
 Points:(List (List Int))
 Edges:(List az4)
instance:Inhabited az9:=⟨⟨default,default⟩⟩
structure bzf where
 Vertices:(List Int)
 Cost:Int
instance:Inhabited bzf:=⟨⟨default,default⟩⟩
structure aze where
 to:Int
 cost:Int
instance:Inhabited aze:=⟨⟨default,default⟩⟩
structure azc where
 cost:Int
 points:Int
instance:Inhabited azc:=⟨⟨default,default⟩⟩
structure azf where
 rank:azc
 point:Int
instance:Inhabited azf:=⟨⟨default,default⟩⟩
structure az0 where
 Lo:Int
 Hi:Int
instance:Inhabited az0:=⟨⟨default,default⟩⟩
structure cz2 where
 A:Int
 B:Int
instance:Inhabited cz2:=⟨⟨default,default⟩⟩
structure czm where
 shapes:(List azx)
 pairs:(List cz2)
 points:(List (List (az0×az0×az0)))
instance:Inhabited czm:=⟨⟨default,default,default⟩⟩
structure azw where
 R:((az0×az0×az0)×(az0×az0×az0)×(az0×az0×az0))
 T:(az0×az0×az0)
instance:Inhabited azw:=⟨⟨default,default⟩⟩
structure dza where
 Kind:Int
 Normals:(List (Int×Int×Int))
 Witness:bz1
instance:Inhabited dza:=⟨⟨default,default,default⟩⟩
structure fzm where
 a:(List (az0×az0×az0))
 b:(List (az0×az0×az0))
 ra:Int
 rb:Int
instance:Inhabited fzm:=⟨⟨default,default,default,default⟩⟩
structure fzb where
 points:(List (az0×az0×az0))
 radius:Int
instance:Inhabited fzb:=⟨⟨default,default⟩⟩
structure dzi where
 a:fzb
 b:fzb
instance:Inhabited dzi:=⟨⟨default,default⟩⟩
structure dz9 where
 Kind:Int
 Normal:(Int×Int×Int)
 Left:(List Int)
 Right:(List Int)
 Steps:Int
instance:Inhabited dz9:=⟨⟨default,default,default,default,default⟩⟩
structure ezj where
 witness:bz1
instance:Inhabited ezj:=⟨⟨default⟩⟩
structure ez5 where
 normals:(List (Int×Int×Int))
instance:Inhabited ez5:=⟨⟨default⟩⟩
structure azh where
 Cost:Int
 Edges:Int
instance:Inhabited azh:=⟨⟨default,default⟩⟩
structure azu where
 depth:Int
 index:Int
 hints:(List (Int×Int×Int))
instance:Inhabited azu:=⟨⟨default,default,default⟩⟩
structure bz0 where
 points:(List (az0×az0×az0))
 radius:Int
instance:Inhabited bz0:=⟨⟨default,default⟩⟩
abbrev A0:=List Int
abbrev A1:=List A0
abbrev A2:=A0×Int
abbrev A3:=List azt
abbrev A4:=List bzw
abbrev A5:=List azx
abbrev A6:=List fzl
abbrev A7:=List az4
abbrev A8:=A1×A7
abbrev A9:=A1×Int
abbrev Aa:=A7×Int
abbrev Ab:=List azk
abbrev Ac:=List aze
abbrev Ad:=List Ac
abbrev Ae:=List azf
abbrev Af:=List azc
abbrev Ag:=List az0
abbrev Ah:=List cz2
abbrev Ai:=Ah×Int
abbrev Aj:=List azw
abbrev Ak:=List azh
abbrev Al:=List bz0
abbrev Am:=List azu
abbrev An:=Int×Int
abbrev Ao:=Ak×Bool
abbrev Ap:=Int×Bool
abbrev Aq:=A0×Int×A5
abbrev Ar:=A0×Int×Int
abbrev As:=A1×A7×Bool
abbrev Au:=Int×Int×Int
abbrev Av:=List Au
abbrev Aw:=Av×Int
abbrev Ax:=Au×Bool
abbrev Ay:=az0×az0×az0
abbrev Az:=List Ay
abbrev B0:=List Az
abbrev B1:=Ay×Ay×Ay
abbrev B2:=Int×Int×Bool
abbrev B3:=Bool×Bool×Au
abbrev B4:=A0×Int×A5×Int
abbrev B5:=A0×Int×A0×Int
abbrev B6:=Int×A0×Int×Int
abbrev B7:=Int×Int×Int×Int
abbrev B8:=az9×bzf×Int×Int
abbrev B9:=Int×Int×Int×Int×Int
abbrev Ba:=Int×Int×Int×Int×Int×Int
abbrev Bb:=Bool×Au×Az×Az×Int×Int×Av
abbrev Bc:=Int×Int×Int×Int×Int×Int×Int
abbrev Bd:=Int×Int×Int×Int×Int×Int×Int×Int×Int×Int×Int
abbrev Be:=Bool×Ab×Int×Ab×Int×Int×Av×Int×A0×A0×A0×A0×A3×A4×A5×A6×Int
abbrev Bf:=Int×Int×Int×Int×Int×Int×Int×Int×Int×Int×Int×Int×Int×Int×Int×Int×Int×Int×Int×Int×Int×Int×Int×Int
def azd (v:azt):PVal:=.agg [.str v.Name,.int .i64 v.Kind,.int .i64 v.Parent,.int .i64 v.Offset.1,.int .i64 v.Offset.2.1,.int .i64 v.Offset.2.2,.int .i64 v.Lo,.int .i64 v.Hi,.int .i64 v.Weight,.int .i64 v.Speed,.int .i64 v.Accel,.int .i64 v.Torque]
def azj (v:bzw):PVal:=.agg [.int .i64 v.Link,.int .i64 v.Mass,.int .i64 v.Point.1,.int .i64 v.Point.2.1,.int .i64 v.Point.2.2]
def czp (v:azl):PVal:=.agg [encL 12 azd v.Joints,encL 5 azj v.Masses]
def az1 (v:Au):PVal:=.agg [.int .i64 v.1,.int .i64 v.2.1,.int .i64 v.2.2]
def azo (v:azx):PVal:=.agg [.int .i64 v.Link,.int .i64 v.Radius,encL 3 az1 v.Points]
def bz4 (v:fzl):PVal:=.agg [.int .i64 v.A,.int .i64 v.B]
def cze (v:azg):PVal:=.agg [encL 12 azd v.Robot.Joints,encL 5 azj v.Robot.Masses,encL 3 azo v.Shapes,encL 2 bz4 v.Skips]
def azy (v:azk):PVal:=.agg [.int .i64 v.Depth,.int .i64 v.Index,encL 3 az1 v.Normals]
def Hzq (v:bz1):PVal:=.agg [.int .i64 v.Pair,encL 1 az3 v.Left,encL 1 az3 v.Right]
def dzg (v:azi):PVal:=.agg [.int .i64 v.Kind,encL 3 azy v.Pieces,.int .i64 v.At.Depth,.int .i64 v.At.Index,encL 3 az1 v.At.Normals,.int .i64 v.Witness.Pair,encL 1 az3 v.Witness.Left,encL 1 az3 v.Witness.Right]
def az5 (v:az4):PVal:=.agg [.int .i64 v.U,.int .i64 v.V,.int .i64 v.Cost,.int .i64 v.State,.int .i64 v.Proof.Kind,encL 3 azy v.Proof.Pieces,.int .i64 v.Proof.At.Depth,.int .i64 v.Proof.At.Index,encL 3 az1 v.Proof.At.Normals,.int .i64 v.Proof.Witness.Pair,encL 1 az3 v.Proof.Witness.Left,encL 1 az3 v.Proof.Witness.Right]
def bz7 (v:az9):PVal:=.agg [encL 1 (encL 1 az3) v.Points,encL 12 az5 v.Edges]
def ozm (v:bzf):PVal:=.agg [encL 1 az3 v.Vertices,.int .i64 v.Cost]
def bz3 (v:aze):PVal:=.agg [.int .i64 v.to,.int .i64 v.cost]
def bzi (v:azc):PVal:=.agg [.int .i64 v.cost,.int .i64 v.points]
def azv (v:azf):PVal:=.agg [.int .i64 v.rank.cost,.int .i64 v.rank.points,.int .i64 v.point]
def aza (v:az0):PVal:=.agg [.int .i64 v.Lo,.int .i64 v.Hi]
def dzu (v:cz2):PVal:=.agg [.int .i64 v.A,.int .i64 v.B]
def az2 (v:Ay):PVal:=.agg [.int .i64 v.1.Lo,.int .i64 v.1.Hi,.int .i64 v.2.1.Lo,.int .i64 v.2.1.Hi,.int .i64 v.2.2.Lo,.int .i64 v.2.2.Hi]
def tz3 (v:czm):PVal:=.agg [encL 3 azo v.shapes,encL 2 dzu v.pairs,encL 1 (encL 6 az2) v.points]
def bzn (v:azw):PVal:=.agg [.int .i64 v.R.1.1.Lo,.int .i64 v.R.1.1.Hi,.int .i64 v.R.1.2.1.Lo,.int .i64 v.R.1.2.1.Hi,.int .i64 v.R.1.2.2.Lo,.int .i64 v.R.1.2.2.Hi,.int .i64 v.R.2.1.1.Lo,.int .i64 v.R.2.1.1.Hi,.int .i64 v.R.2.1.2.1.Lo,.int .i64 v.R.2.1.2.1.Hi,.int .i64 v.R.2.1.2.2.Lo,.int .i64 v.R.2.1.2.2.Hi,.int .i64 v.R.2.2.1.Lo,.int .i64 v.R.2.2.1.Hi,.int .i64 v.R.2.2.2.1.Lo,.int .i64 v.R.2.2.2.1.Hi,.int .i64 v.R.2.2.2.2.Lo,.int .i64 v.R.2.2.2.2.Hi,.int .i64 v.T.1.Lo,.int .i64 v.T.1.Hi,.int .i64 v.T.2.1.Lo,.int .i64 v.T.2.1.Hi,.int .i64 v.T.2.2.Lo,.int .i64 v.T.2.2.Hi]
def Hzr (v:B7):PVal:=.agg [.int .i64 v.1,.int .i64 v.2.1,.int .i64 v.2.2.1,.int .i64 v.2.2.2]
def tzz (v:dza):PVal:=.agg [.int .i64 v.Kind,encL 3 az1 v.Normals,.int .i64 v.Witness.Pair,encL 1 az3 v.Witness.Left,encL 1 az3 v.Witness.Right]
def Azr (v:fzm):PVal:=.agg [encL 6 az2 v.a,encL 6 az2 v.b,.int .i64 v.ra,.int .i64 v.rb]
def Kz4 (v:fzb):PVal:=.agg [encL 6 az2 v.points,.int .i64 v.radius]
def ozn (v:dzi):PVal:=.agg [encL 6 az2 v.a.points,.int .i64 v.a.radius,encL 6 az2 v.b.points,.int .i64 v.b.radius]
def Hzp (v:dz9):PVal:=.agg [.int .i64 v.Kind,.int .i64 v.Normal.1,.int .i64 v.Normal.2.1,.int .i64 v.Normal.2.2,encL 1 az3 v.Left,encL 1 az3 v.Right,.int .i64 v.Steps]
def wz9 (v:ezj):PVal:=.agg [.int .i64 v.witness.Pair,encL 1 az3 v.witness.Left,encL 1 az3 v.witness.Right]
def uz0 (v:ez5):PVal:=.agg [encL 3 az1 v.normals]
def bz2 (v:azh):PVal:=.agg [.int .i64 v.Cost,.int .i64 v.Edges]
def jz9 (v:An):PVal:=.agg [.int .i64 v.1,.int .i64 v.2]
def hz1 (v:azu):PVal:=.agg [.int .i64 v.depth,.int .i64 v.index,encL 3 az1 v.hints]
def bzv (v:bz0):PVal:=.agg [encL 6 az2 v.points,.int .i64 v.radius]
def bzh (v:B1):PVal:=.agg [.int .i64 v.1.1.Lo,.int .i64 v.1.1.Hi,.int .i64 v.1.2.1.Lo,.int .i64 v.1.2.1.Hi,.int .i64 v.1.2.2.Lo,.int .i64 v.1.2.2.Hi,.int .i64 v.2.1.1.Lo,.int .i64 v.2.1.1.Hi,.int .i64 v.2.1.2.1.Lo,.int .i64 v.2.1.2.1.Hi,.int .i64 v.2.1.2.2.Lo,.int .i64 v.2.1.2.2.Hi,.int .i64 v.2.2.1.Lo,.int .i64 v.2.2.1.Hi,.int .i64 v.2.2.2.1.Lo,.int .i64 v.2.2.2.1.Hi,.int .i64 v.2.2.2.2.Lo,.int .i64 v.2.2.2.2.Hi]
def izj (v:Bd):PVal:=.agg [.int .i64 v.1,.int .i64 v.2.1,.int .i64 v.2.2.1,.int .i64 v.2.2.2.1,.int .i64 v.2.2.2.2.1,.int .i64 v.2.2.2.2.2.1,.int .i64 v.2.2.2.2.2.2.1,.int .i64 v.2.2.2.2.2.2.2.1,.int .i64 v.2.2.2.2.2.2.2.2.1,.int .i64 v.2.2.2.2.2.2.2.2.2.1,.int .i64 v.2.2.2.2.2.2.2.2.2.2]
theorem az3f:GuardFn Tryz.prog 37:=
 fzp (fn:=Tryz.f37) Tryz.func37 (by kernel_rfl) ⟨0,(gOps Tryz.f37).getD 0 default,(gOps Tryz.f37).getD 1 default,4,5,gX Tryz.f37,gC ((gOps Tryz.f37).getD 0 default),20,20,by kernel_rfl,by kernel_rfl,by kernel_rfl,by kernel_rfl,by kernel_rfl,by kernel_rfl,by kernel_rfl,by kernel_rfl,⟨gMs (Tryz.prog.underlying 20),by kernel_rfl⟩,by decide,by decide,by kernel_rfl⟩
theorem az3g:GuardFn Tryz.prog 50:=
 fzp (fn:=Tryz.f50) Tryz.func50 (by kernel_rfl) ⟨0,(gOps Tryz.f50).getD 0 default,(gOps Tryz.f50).getD 1 default,3,4,gX Tryz.f50,gC ((gOps Tryz.f50).getD 0 default),20,20,by kernel_rfl,by kernel_rfl,by kernel_rfl,by kernel_rfl,by kernel_rfl,by kernel_rfl,by kernel_rfl,by kernel_rfl,⟨gMs (Tryz.prog.underlying 20),by kernel_rfl⟩,by decide,by decide,by kernel_rfl⟩
theorem az3h:GuardFn Tryz.prog 57:=
 fzp (fn:=Tryz.f57) Tryz.func57 (by kernel_rfl) ⟨0,(gOps Tryz.f57).getD 0 default,(gOps Tryz.f57).getD 1 default,2,3,gX Tryz.f57,gC ((gOps Tryz.f57).getD 0 default),20,20,by kernel_rfl,by kernel_rfl,by kernel_rfl,by kernel_rfl,by kernel_rfl,by kernel_rfl,by kernel_rfl,by kernel_rfl,⟨gMs (Tryz.prog.underlying 20),by kernel_rfl⟩,by decide,by decide,by kernel_rfl⟩
theorem az3i:GuardFn Tryz.prog 70:=
 fzp (fn:=Tryz.f70) Tryz.func70 (by kernel_rfl) ⟨0,(gOps Tryz.f70).getD 0 default,(gOps Tryz.f70).getD 1 default,2,3,gX Tryz.f70,gC ((gOps Tryz.f70).getD 0 default),20,20,by kernel_rfl,by kernel_rfl,by kernel_rfl,by kernel_rfl,by kernel_rfl,by kernel_rfl,by kernel_rfl,by kernel_rfl,⟨gMs (Tryz.prog.underlying 20),by kernel_rfl⟩,by decide,by decide,by kernel_rfl⟩
theorem Xzi:GuardFn Tryz.prog 94:=
 fzp (fn:=Tryz.f94) Tryz.func94 (by kernel_rfl) ⟨0,(gOps Tryz.f94).getD 0 default,(gOps Tryz.f94).getD 1 default,2,3,gX Tryz.f94,gC ((gOps Tryz.f94).getD 0 default),20,20,by kernel_rfl,by kernel_rfl,by kernel_rfl,by kernel_rfl,by kernel_rfl,by kernel_rfl,by kernel_rfl,by kernel_rfl,⟨gMs (Tryz.prog.underlying 20),by kernel_rfl⟩,by decide,by decide,by kernel_rfl⟩
theorem az0h:GuardFn Tryz.prog 102:=
 fzp (fn:=Tryz.f102) Tryz.func102 (by kernel_rfl) ⟨0,(gOps Tryz.f102).getD 0 default,(gOps Tryz.f102).getD 1 default,1,2,gX Tryz.f102,gC ((gOps Tryz.f102).getD 0 default),20,20,by kernel_rfl,by kernel_rfl,by kernel_rfl,by kernel_rfl,by kernel_rfl,by kernel_rfl,by kernel_rfl,by kernel_rfl,⟨gMs (Tryz.prog.underlying 20),by kernel_rfl⟩,by decide,by decide,by kernel_rfl⟩
theorem az0i:GuardFn Tryz.prog 136:=
 fzp (fn:=Tryz.f136) Tryz.func136 (by kernel_rfl) ⟨0,(gOps Tryz.f136).getD 0 default,(gOps Tryz.f136).getD 1 default,1,2,gX Tryz.f136,gC ((gOps Tryz.f136).getD 0 default),20,20,by kernel_rfl,by kernel_rfl,by kernel_rfl,by kernel_rfl,by kernel_rfl,by kernel_rfl,by kernel_rfl,by kernel_rfl,⟨gMs (Tryz.prog.underlying 20),by kernel_rfl⟩,by decide,by decide,by kernel_rfl⟩
theorem az0j:GuardFn Tryz.prog 168:=
 fzp (fn:=Tryz.f168) Tryz.func168 (by kernel_rfl) ⟨0,(gOps Tryz.f168).getD 0 default,(gOps Tryz.f168).getD 1 default,2,3,gX Tryz.f168,gC ((gOps Tryz.f168).getD 0 default),20,20,by kernel_rfl,by kernel_rfl,by kernel_rfl,by kernel_rfl,by kernel_rfl,by kernel_rfl,by kernel_rfl,by kernel_rfl,⟨gMs (Tryz.prog.underlying 20),by kernel_rfl⟩,by decide,by decide,by kernel_rfl⟩
theorem az0k:GuardFn Tryz.prog 176:=
 fzp (fn:=Tryz.f176) Tryz.func176 (by kernel_rfl) ⟨0,(gOps Tryz.f176).getD 0 default,(gOps Tryz.f176).getD 1 default,1,2,gX Tryz.f176,gC ((gOps Tryz.f176).getD 0 default),20,20,by kernel_rfl,by kernel_rfl,by kernel_rfl,by kernel_rfl,by kernel_rfl,by kernel_rfl,by kernel_rfl,by kernel_rfl,⟨gMs (Tryz.prog.underlying 20),by kernel_rfl⟩,by decide,by decide,by kernel_rfl⟩
theorem az0l:GuardFn Tryz.prog 219:=
 fzp (fn:=Tryz.f219) Tryz.func219 (by kernel_rfl) ⟨0,(gOps Tryz.f219).getD 0 default,(gOps Tryz.f219).getD 1 default,2,3,gX Tryz.f219,gC ((gOps Tryz.f219).getD 0 default),20,20,by kernel_rfl,by kernel_rfl,by kernel_rfl,by kernel_rfl,by kernel_rfl,by kernel_rfl,by kernel_rfl,by kernel_rfl,⟨gMs (Tryz.prog.underlying 20),by kernel_rfl⟩,by decide,by decide,by kernel_rfl⟩
theorem az0m:GuardFn Tryz.prog 243:=
 fzp (fn:=Tryz.f243) Tryz.func243 (by kernel_rfl) ⟨0,(gOps Tryz.f243).getD 0 default,(gOps Tryz.f243).getD 1 default,2,3,gX Tryz.f243,gC ((gOps Tryz.f243).getD 0 default),20,20,by kernel_rfl,by kernel_rfl,by kernel_rfl,by kernel_rfl,by kernel_rfl,by kernel_rfl,by kernel_rfl,by kernel_rfl,⟨gMs (Tryz.prog.underlying 20),by kernel_rfl⟩,by decide,by decide,by kernel_rfl⟩
noncomputable def Szn (c:A0):T A2:=
 .ret (c,0)
noncomputable def izs (c):=
 mkD Tryz.func25 (Szn c) 0 [.pure (encL 1 az3 c)] [] (fun _=>.ptr 0 0) (fun r=>[(0,.box [.pure (encL 1 az3 r.1),pz r.2])])
noncomputable def xz4 (c:Int)(d:Int):T Int:=let e:=c.tmod d;.grd (d≠0)<|
 .cut 0 (fun (f:Int)=>⟨[(5,pz f)],[],[],0⟩)
 (.br (decide (e<0))
 (.oo (i64.wrap (e+d)))
 (.oo e)) fun f=>
 .ret f
noncomputable def bzp (c)(d):=
 mkD Tryz.func13 (xz4 c d) 0 [pz c,pz d] [] (fun r=>pz r) (fun _=>[])
noncomputable def tzq (c:A0)(d:Int)(e:Int):T (Int×A0×Int):=let f:=i64.wrap (d+1);let g:=i64.wrap (f-1);.br (decide (d≥(c.length:Int)))
 (.ret (0,c,d))
 (.gh g c.length<|
 .call (bzp (c.getD (g.toNat) default) e) [] fun h=>
 .ret (h,c,f))
noncomputable def azm (c)(d)(e):=
 mkD Tryz.func27 (tzq c d e) 1 [.ptr 0 0,pz e] [(0,.box [.pure (encL 1 az3 c),pz d])] (fun r=>pz r.1) (fun r=>[(0,.box [.pure (encL 1 az3 r.2.1),pz r.2.2])])
noncomputable def jzo (c:Int):T ByteArray:=let d:=i64.wrap (c+1);.grd (0≤c/\c≤d/\d≤(((⟨#[97,98,99,100,101,102,103,104,105,106]⟩:ByteArray).size:Nat):Int))<|
 .ret ((⟨#[97,98,99,100,101,102,103,104,105,106]⟩:ByteArray).extract c.toNat d.toNat)
noncomputable def jzn (c):=
 mkD Tryz.func88 (jzo c) 0 [pz c] [] (fun r=>.pure (.str r)) (fun _=>[])
noncomputable def ozb (c:A0)(d:Int)(e:Int):T (Int×A0×Int):=
 .call (azm c d (i64.wrap ((i64.wrap (2 * e))+1))) [(0,0)] fun f=>
 .ret ((i64.wrap (f.1-e)),f.2.1,f.2.2)
noncomputable def bzk (c)(d)(e):=
 mkD Tryz.func29 (ozb c d e) 1 [.ptr 0 0,pz e] [(0,.box [.pure (encL 1 az3 c),pz d])] (fun r=>pz r.1) (fun r=>[(0,.box [.pure (encL 1 az3 r.2.1),pz r.2.2])])
noncomputable def mz8 (c:A0)(d:Int)(e:Int):T (azt×A0×Int):=
 .cc (jzn e) fun f=>
 .call (azm c d 4) [(0,0)] fun g=>let h:=i64.wrap (1+g.1);
 .call (azm g.2.1 g.2.2 3) [(0,0)] fun i=>let j:=i64.wrap (65536+i.1);
 .call (azm i.2.1 i.2.2 8) [(0,0)] fun k=>let m:=([3,3,1,2,4,5,3,0]:List Int).getD (k.1).toNat 0;
 .gh k.1 8<|
 .cut 0 (fun (n:Ar)=>⟨[(0,.ptr 0 0),(1,pz e),(4,.ptr 1 0),(5,.ptr 2 0)],[(0,.box [.pure (encL 1 az3 n.1),pz n.2.1]),(1,.box [.pure (.str (⟨#[]⟩:ByteArray)),pz 0,pz 0,pz 0,pz 0,pz 0,pz 0,pz 0,pz 0,pz 0,pz 0,pz 0]),(2,.box [.pure (.str f),pz m,pz n.2.2,pz 0,pz 0,pz 0,pz 0,pz 0,pz h,pz 65536,pz j,pz 327680])],[],3⟩)
 (.call (azm k.2.1 k.2.2 4) [(0,0)] fun n=>
 .br (n.1==1)
 (.oo (n.2.1,n.2.2,(-1)))
 (.oo (n.2.1,n.2.2,(i64.wrap (e-1))))) fun n=>
 .cut 0 (fun (q:(A0×Int×Int×Int×Int))=>⟨[(0,.ptr 0 0),(4,.ptr 1 0),(5,.ptr 2 0)],[(0,.box [.pure (encL 1 az3 q.1),pz q.2.1]),(1,.box [.pure (.str (⟨#[]⟩:ByteArray)),pz 0,pz 0,pz 0,pz 0,pz 0,pz 0,pz 0,pz 0,pz 0,pz 0,pz 0]),(2,.box [.pure (.str f),pz m,pz n.2.2,pz q.2.2.1,pz q.2.2.2.1,pz q.2.2.2.2,pz 0,pz 0,pz h,pz 65536,pz j,pz 327680])],[],3⟩)
 (.br (decide (e>0))
 (.call (bzk n.1 n.2.1 2) [(0,0)] fun q=>
 .call (bzk q.2.1 q.2.2 1) [(0,0)] fun s=>
 .oo (s.2.1,s.2.2,131072,(i64.wrap (q.1 * 32768)),(i64.wrap (s.1 * 32768))))
 (.oo (n.1,n.2.1,0,0,0))) fun q=>
 .cut 0 (fun (s:(A0×Int×Int×Int))=>⟨[(4,.ptr 1 0),(5,.ptr 2 0)],[(0,.box [.pure (encL 1 az3 s.1),pz s.2.1]),(1,.box [.pure (.str (⟨#[]⟩:ByteArray)),pz 0,pz 0,pz 0,pz 0,pz 0,pz 0,pz 0,pz 0,pz 0,pz 0,pz 0]),(2,.box [.pure (.str f),pz m,pz n.2.2,pz q.2.2.1,pz q.2.2.2.1,pz q.2.2.2.2,pz s.2.2.1,pz s.2.2.2,pz h,pz 65536,pz j,pz 327680])],[],3⟩)
 (.br (m==0)
 (.oo (q.1,q.2.1,0,0))
 (.cut 0 (fun (s:Bool)=>⟨[(0,.ptr 0 0),(4,.ptr 1 0),(5,.ptr 2 0),(55,.pure (.bool s))],[(0,.box [.pure (encL 1 az3 q.1),pz q.2.1]),(1,.box [.pure (.str (⟨#[]⟩:ByteArray)),pz 0,pz 0,pz 0,pz 0,pz 0,pz 0,pz 0,pz 0,pz 0,pz 0,pz 0]),(2,.box [.pure (.str f),pz m,pz n.2.2,pz q.2.2.1,pz q.2.2.2.1,pz q.2.2.2.2,pz 0,pz 0,pz h,pz 65536,pz j,pz 327680])],[],3⟩)
 (.br (m==4)
 (.oo (m==4))
 (.oo (m==5))) fun s=>
 .br s
 (.call (azm q.1 q.2.1 3) [(0,0)] fun t=>
 .call (azm t.2.1 t.2.2 4) [(0,0)] fun w=>
 .oo (w.2.1,w.2.2,(i64.wrap ((i64.wrap (0-t.1)) * 65536)),(i64.wrap (w.1 * 32768))))
 (.call (azm q.1 q.2.1 5) [(0,0)] fun t=>
 .ok ((8:Int)≠0) (by decide)<|
 .call (azm t.2.1 t.2.2 4) [(0,0)] fun w=>
 .ok ((8:Int)≠0) (by decide)<|
 .call (azm w.2.1 w.2.2 3) [(0,0)] fun y=>
 .oo (y.2.1,y.2.2,(i64.wrap ((i64.wrap ((i64.wrap (0-t.1)) * 65536)).tdiv 8)),(i64.wrap ((i64.wrap ((i64.wrap ((i64.wrap (1+w.1)) * 65536)).tdiv 8))+y.1)))))) fun s=>
 .ret ((⟨f,m,n.2.2,(q.2.2.1,q.2.2.2.1,q.2.2.2.2),s.2.2.1,s.2.2.2,h,65536,j,327680⟩:azt),s.1,s.2.1)
noncomputable def mz7 (c)(d)(e):=
 mkD Tryz.func58 (mz8 c d e) 1 [.ptr 0 0,pz e] [(0,.box [.pure (encL 1 az3 c),pz d])] (fun r=>.pure (azd r.1)) (fun r=>[(0,.box [.pure (encL 1 az3 r.2.1),pz r.2.2])])
noncomputable def mz9 (c:A0)(d:Int):T (azl×A0×Int):=
 .call (azm c d 3) [(0,0)] fun e=>let f:=i64.wrap (1+e.1);
 .loop (fun (g:(A0×Int×A3×Int))=>⟨[(0,.ptr 0 0),(2,.ptr 1 0),(3,.ptr 4 0),(4,pz f),(5,pz g.2.2.2)],[(0,.box [.pure (encL 1 az3 g.1),pz g.2.1]),(1,.box [.vec 2,.vec 3]),(2,.nilv),(3,.nilv),(4,.box [.vec 5,.vec 6]),(5,vecO 12 azd g.2.2.1 115),(6,.nilv)],[],7⟩)
 (.exit 0) (fun (g:(A0×Int×A3))=>⟨[(0,.ptr 0 0),(2,.ptr 1 0),(3,.ptr 4 0),(4,pz f)],[(0,.box [.pure (encL 1 az3 g.1),pz g.2.1]),(1,.box [.vec 2,.vec 3]),(2,.nilv),(3,.nilv),(4,.box [.vec 5,.vec 6]),(5,vecO 12 azd g.2.2 115),(6,.nilv)],[],7⟩)
 (fun g=>.br (decide (g.2.2.2<f))
 (.call (mz7 g.1 g.2.1 g.2.2.2) [(0,0)] fun h=>let i:=([h.1]:A3);let j:=g.2.2.1.length+i.length;
 .conv 6005 (czi 12 azd i 115)<|
 .conv 6006 (ezf 12 azd g.2.2.1 i 115)<|
 .grd (j * 104≤140737488355328/\j≤maxLen)<|
 .nn (h.2.1,h.2.2,(g.2.2.1++i),(i64.wrap (g.2.2.2+1))))
 (.oo (g.1,g.2.1,g.2.2.1)))
 (e.2.1,e.2.2,nl,0) [] fun g=>
 .call (azm g.1 g.2.1 3) [(0,0)] fun h=>
 .loop (fun (i:(A0×Int×A4×Int))=>⟨[(0,.ptr 0 0),(2,.ptr 1 0),(3,.ptr 4 0),(4,pz f),(6,pz i.2.2.2)],[(0,.box [.pure (encL 1 az3 i.1),pz i.2.1]),(1,.box [.vec 2,.vec 3]),(2,.nilv),(3,.nilv),(4,.box [.vec 5,.vec 6]),(5,vecO 12 azd g.2.2 115),(6,vecO 5 azj i.2.2.1 118)],[],7⟩)
 (.exit 2) (fun (i:(A0×Int×A4))=>⟨[(2,.ptr 1 0),(3,.ptr 4 0)],[(0,.box [.pure (encL 1 az3 i.1),pz i.2.1]),(1,.box [.vec 2,.vec 3]),(2,.nilv),(3,.nilv),(4,.box [.vec 5,.vec 6]),(5,vecO 12 azd g.2.2 115),(6,vecO 5 azj i.2.2 118)],[],7⟩)
 (fun i=>.br (decide (i.2.2.2>0))
 (.call (azm i.1 i.2.1 f) [(0,0)] fun j=>
 .call (azm j.2.1 j.2.2 9000) [(0,0)] fun k=>
 .call (bzk k.2.1 k.2.2 3) [(0,0)] fun m=>
 .call (bzk m.2.1 m.2.2 2) [(0,0)] fun n=>let q:=([(⟨j.1,(i64.wrap (1+k.1)),((i64.wrap (m.1 * 32768)),0,(i64.wrap (n.1 * 32768)))⟩:bzw)]:A4);let s:=i.2.2.1.length+q.length;
 .conv 10016 (czi 5 azj q 118)<|
 .conv 10017 (ezf 5 azj i.2.2.1 q 118)<|
 .grd (s * 40≤140737488355328/\s≤maxLen)<|
 .nn (n.2.1,n.2.2,(i.2.2.1++q),(i64.wrap (i.2.2.2-1))))
 (.oo (i.1,i.2.1,i.2.2.1)))
 (h.2.1,h.2.2,nl,h.1) [] fun i=>
 .ret ((⟨g.2.2,i.2.2⟩:azl),i.1,i.2.1)
noncomputable def hz4 (c)(d):=
 mkD Tryz.func26 (mz9 c d) 1 [.ptr 0 0] [(0,.box [.pure (encL 1 az3 c),pz d])] (fun r=>.pure (czp r.1)) (fun r=>[(0,.box [.pure (encL 1 az3 r.2.1),pz r.2.2])])
noncomputable def jzp (c:A0)(d:Int)(e:Au):T (Av×A0×Int):=let f:=([e]:Av);.conv 1001 (czi 3 az1 f 78)<|
 .call (azm c d 4) [(0,0)] fun g=>
 .loop (fun (h:(A0×Int×Av×Int))=>⟨[(0,.ptr 0 0),(3,.ptr 1 0),(5,.vec 2),(6,pz h.2.2.2)],[(0,.box [.pure (encL 1 az3 h.1),pz h.2.1]),(1,.box [pz e.1,pz e.2.1,pz e.2.2]),(2,vecO 3 az1 h.2.2.1 78)],[],3⟩)
 (.exit 0) (fun (h:(A0×Int×Av))=>⟨[(5,.vec 1)],[(0,.box [.pure (encL 1 az3 h.1),pz h.2.1]),(1,vecO 3 az1 h.2.2 78)],[],2⟩)
 (fun h=>.br (decide (h.2.2.2>0))
 (.ix 0 3 rfl<|
 .call (bzk h.1 h.2.1 3) [(0,0)] fun i=>
 .ix 1 3 rfl<|
 .call (bzk i.2.1 i.2.2 2) [(0,0)] fun j=>
 .ix 2 3 rfl<|
 .call (bzk j.2.1 j.2.2 2) [(0,0)] fun k=>let m:=([((i64.wrap (e.1+(i64.wrap (i.1 * 32768)))),(i64.wrap (e.2.1+(i64.wrap (j.1 * 32768)))),(i64.wrap (e.2.2+(i64.wrap (k.1 * 32768)))))]:Av);let n:=h.2.2.1.length+m.length;
 .conv 5020 (czi 3 az1 m 78)<|
 .conv 5021 (ezf 3 az1 h.2.2.1 m 78)<|
 .grd (n * 24≤140737488355328/\n≤maxLen)<|
 .nn (k.2.1,k.2.2,(h.2.2.1++m),(i64.wrap (h.2.2.2-1))))
 (.oo (h.1,h.2.1,h.2.2.1)))
 (g.2.1,g.2.2,f,g.1) [] fun h=>
 .ret (h.2.2,h.1,h.2.1)
noncomputable def gz4 (c)(d)(e):=
 mkD Tryz.func28 (jzp c d e) 1 [.ptr 0 0,.pure (az1 e)] [(0,.box [.pure (encL 1 az3 c),pz d])] (fun r=>.pure (encL 3 az1 r.1)) (fun r=>[(0,.box [.pure (encL 1 az3 r.2.1),pz r.2.2])])
set_option maxHeartbeats 8000000 in
set_option maxRecDepth 20000 in
noncomputable def mz6 (c:A0):T azg:=
 .cc (izs c) fun d=>
 .call (hz4 d.1 d.2) [(0,128)] fun e=>let f:=encL 5 azj e.1.Masses;let g:=encL 12 azd e.1.Joints;let h:=(e.1.Joints.length:Nat);let i:Nat×Res:=(6,.box [.pure g,.pure f,.vec 7,.vec 8]);
 .loop (fun (j:B4)=>⟨[(2,.ptr 0 0),(3,.ptr 5 0),(4,.ptr 6 0),(5,pz j.2.2.2)],[(0,.box [.vec 1,.vec 2,.vec 3,.vec 4]),(1,.nilv),(2,.nilv),(3,.nilv),(4,.nilv),(5,.box [.pure (encL 1 az3 j.1),pz j.2.1]),i,(7,vecO 3 azo j.2.2.1 80),(8,.nilv)],[],9⟩)
 (.exit 0) (fun (j:Aq)=>⟨[(2,.ptr 0 0),(3,.ptr 5 0),(4,.ptr 6 0)],[(0,.box [.vec 1,.vec 2,.vec 3,.vec 4]),(1,.nilv),(2,.nilv),(3,.nilv),(4,.nilv),(5,.box [.pure (encL 1 az3 j.1),pz j.2.1]),i,(7,vecO 3 azo j.2.2 80),(8,.nilv)],[],9⟩)
 (fun j=>.br (decide (j.2.2.2<(h:Int)))
 (.cut 0 (fun (k:Aq)=>⟨[(2,.ptr 0 0),(3,.ptr 5 0),(4,.ptr 6 0),(5,pz j.2.2.2)],[(0,.box [.vec 1,.vec 2,.vec 3,.vec 4]),(1,.nilv),(2,.nilv),(3,.nilv),(4,.nilv),(5,.box [.pure (encL 1 az3 k.1),pz k.2.1]),i,(7,vecO 3 azo k.2.2 80),(8,.nilv)],[],9⟩)
 (.call (azm j.1 j.2.1 5) [(0,5)] fun k=>
 .br (decide (k.1<4))
 (.call (azm k.2.1 k.2.2 3) [(0,5)] fun m=>
 .ok ((8:Int)≠0) (by decide)<|
 .call (azm m.2.1 m.2.2 4) [(0,5)] fun n=>
 .call (gz4 n.2.1 n.2.2 ((i64.wrap (n.1 * 32768)),0,0)) [(0,5)] fun q=>let s:=([(⟨j.2.2.2,(i64.wrap ((i64.wrap ((i64.wrap (1+m.1)) * 65536)).tdiv 8)),q.1⟩:azx)]:A5);let t:=j.2.2.1.length+s.length;
 .conv 7015 (czi 3 azo s 80)<|
 .conv 7016 (ezf 3 azo j.2.2.1 s 80)<|
 .grd (t * 40≤140737488355328/\t≤maxLen)<|
 .oo (q.2.1,q.2.2,(j.2.2.1++s)))
 (.oo (k.2.1,k.2.2,j.2.2.1))) fun k=>
 .nn (k.1,k.2.1,k.2.2,(i64.wrap (j.2.2.2+1))))
 (.oo (j.1,j.2.1,j.2.2.1)))
 (e.2.1,e.2.2,nl,0) [] fun j=>
 .call (azm j.1 j.2.1 3) [(0,5)] fun k=>
 .loop (fun (m:B4)=>⟨[(2,.ptr 0 0),(3,.ptr 5 0),(4,.ptr 6 0),(6,pz m.2.2.2)],[(0,.box [.vec 1,.vec 2,.vec 3,.vec 4]),(1,.nilv),(2,.nilv),(3,.nilv),(4,.nilv),(5,.box [.pure (encL 1 az3 m.1),pz m.2.1]),i,(7,vecO 3 azo m.2.2.1 80),(8,.nilv)],[],9⟩)
 (.exit 2) (fun (m:Aq)=>⟨[(2,.ptr 0 0),(3,.ptr 5 0),(4,.ptr 6 0)],[(0,.box [.vec 1,.vec 2,.vec 3,.vec 4]),(1,.nilv),(2,.nilv),(3,.nilv),(4,.nilv),(5,.box [.pure (encL 1 az3 m.1),pz m.2.1]),i,(7,vecO 3 azo m.2.2 80),(8,.nilv)],[],9⟩)
 (fun m=>.br (decide (m.2.2.2>0))
 (.call (bzk m.1 m.2.1 9) [(0,5)] fun n=>
 .call (bzk n.2.1 n.2.2 9) [(0,5)] fun q=>
 .call (bzk q.2.1 q.2.2 2) [(0,5)] fun s=>
 .call (azm s.2.1 s.2.2 4) [(0,5)] fun t=>
 .ok ((8:Int)≠0) (by decide)<|
 .call (gz4 t.2.1 t.2.2 ((i64.wrap (n.1 * 32768)),(i64.wrap (q.1 * 32768)),(i64.wrap (s.1 * 32768)))) [(0,5)] fun w=>let y:=([(⟨(-1),(i64.wrap ((i64.wrap ((i64.wrap (1+t.1)) * 65536)).tdiv 8)),w.1⟩:azx)]:A5);let z:=m.2.2.1.length+y.length;
 .conv 12011 (czi 3 azo y 80)<|
 .conv 12012 (ezf 3 azo m.2.2.1 y 80)<|
 .grd (z * 40≤140737488355328/\z≤maxLen)<|
 .nn (w.2.1,w.2.2,(m.2.2.1++y),(i64.wrap (m.2.2.2-1))))
 (.oo (m.1,m.2.1,m.2.2.1)))
 (k.2.1,k.2.2,j.2.2,(i64.wrap (1+k.1))) [] fun m=>
 .cut 0 (fun (n:A6)=>⟨[(2,.ptr 0 0),(4,.ptr 5 0)],[(0,.box [.vec 1,.vec 2,.vec 3,.vec 4]),(1,.nilv),(2,.nilv),(3,.nilv),(4,.nilv),(5,.box [.pure g,.pure f,.vec 6,.vec 7]),(6,vecO 3 azo m.2.2 80),(7,vecO 2 bz4 n 83)],[],8⟩)
 (.call (azm m.1 m.2.1 5) [(0,5)] fun n=>
 .br (n.1==1)
 (.call (azm n.2.1 n.2.2 (h:Int)) [(0,5)] fun q=>let s:=([(⟨(-1),q.1⟩:fzl)]:A6);
 .conv 14009 (czi 2 bz4 s 83)<|
 .grd (s.length * 16≤140737488355328/\s.length≤maxLen)<|
 .oo s)
 (.oo nl)) fun n=>
 .ret (⟨(⟨e.1.Joints,e.1.Masses⟩:azl),m.2.2,n⟩:azg)
noncomputable def jz1 (c):=
 mkD Tryz.func10 (mz6 c) 0 [.pure (encL 1 az3 c)] [] (fun r=>.pure (cze r)) (fun _=>[])
noncomputable def uz9 (c:azl)(d:A0):T A0:=let e:Nat×Res:=(0,.box [.pure (encL 12 azd c.Joints),.pure (encL 5 azj c.Masses)]);.cc (izs d) fun f=>
 .loop (fun (g:B5)=>⟨[(2,.ptr 0 0),(5,.ptr 1 0),(6,.vec 2),(7,pz g.2.2.2)],[e,(1,.box [.pure (encL 1 az3 g.1),pz g.2.1]),(2,vecO 1 az3 g.2.2.1 2)],[],3⟩)
 (.exit 0) (fun (g:A0)=>⟨[(6,.vec 0)],[(0,vecO 1 az3 g 2)],[],1⟩)
 (fun g=>let h:=c.Joints.getD ((g.2.2.2).toNat) default;let i:=([h.Lo]:A0);let j:=([h.Hi]:A0);let k:=g.2.2.1.length+i.length;let m:=g.2.2.1.length+j.length;.br (decide (g.2.2.2<(c.Joints.length:Int)))
 (.cut 0 (fun (n:(A0×Int×A0))=>⟨[(2,.ptr 0 0),(5,.ptr 1 0),(6,.vec 2),(7,pz g.2.2.2)],[e,(1,.box [.pure (encL 1 az3 n.1),pz n.2.1]),(2,vecO 1 az3 n.2.2 2)],[],3⟩)
 (.gh g.2.2.2 c.Joints.length<|
 .gh g.2.2.2 c.Joints.length<|
 .call (azm g.1 g.2.1 6) [(0,1)] fun n=>
 .br (n.1==0)
 (.conv 10002 (czi 1 az3 i 2)<|
 .conv 10003 (ezf 1 az3 g.2.2.1 i 2)<|
 .grd (k * 8≤140737488355328/\k≤maxLen)<|
 .oo (n.2.1,n.2.2,(g.2.2.1++i)))
 (.br (n.1==1)
 (.conv 12002 (czi 1 az3 j 2)<|
 .conv 12003 (ezf 1 az3 g.2.2.1 j 2)<|
 .grd (m * 8≤140737488355328/\m≤maxLen)<|
 .oo (n.2.1,n.2.2,(g.2.2.1++j)))
 (.name 8005 ((i64.wrap ((h.Hi)- (h.Lo)))) fun q=>
 .name 8006 ((i64.wrap (q+1))) fun s=>
 .call (azm n.2.1 n.2.2 s) [(0,1)] fun t=>let w:=([(i64.wrap ((h.Lo)+t.1))]:A0);let y:=g.2.2.1.length+w.length;
 .conv 8009 (czi 1 az3 w 2)<|
 .conv 8010 (ezf 1 az3 g.2.2.1 w 2)<|
 .grd (y * 8≤140737488355328/\y≤maxLen)<|
 .oo (t.2.1,t.2.2,(g.2.2.1++w))))) fun n=>
 .nn (n.1,n.2.1,n.2.2,(i64.wrap (g.2.2.2+1))))
 (.oo g.2.2.1))
 (f.1,f.2,nl,0) [] fun g=>
 .ret g
noncomputable def uz8 (c)(d):=
 mkD Tryz.func35 (uz9 c d) 0 [.pure (czp c),.pure (encL 1 az3 d)] [] (fun _=>.vec 0) (fun r=>[(0,vecO 1 az3 r 2)])
noncomputable def rzl (c:azl)(d:Int)(e:A0):T A1:=let f:Nat×Res:=(0,.box [.pure (encL 12 azd c.Joints),.pure (encL 5 azj c.Masses)]);.cc (izs e) fun g=>
 .loop (fun (h:(A0×Int×A1×Int))=>⟨[(1,pz d),(3,.ptr 0 0),(7,.ptr 1 0),(8,.vec 2),(9,pz h.2.2.2)],[f,(1,.box [.pure (encL 1 az3 h.1),pz h.2.1]),(2,vecO 1 (encL 1 az3) h.2.2.1 59)],[],3⟩)
 (.exit 0) (fun (h:A1)=>⟨[(8,.vec 0)],[(0,vecO 1 (encL 1 az3) h 59)],[],1⟩)
 (fun h=>.br (decide (h.2.2.2<d))
 (.loop (fun (i:B5)=>⟨[(1,pz d),(3,.ptr 0 0),(7,.ptr 1 0),(8,.vec 2),(9,pz h.2.2.2),(10,.vec 3),(11,pz i.2.2.2)],[f,(1,.box [.pure (encL 1 az3 i.1),pz i.2.1]),(2,vecO 1 (encL 1 az3) h.2.2.1 59),(3,vecO 1 az3 i.2.2.1 3)],[],4⟩)
 (.exit 2) (fun (i:(A0×Int×A0))=>⟨[(1,pz d),(3,.ptr 0 0),(7,.ptr 1 0),(8,.vec 2),(9,pz h.2.2.2),(10,.vec 3)],[f,(1,.box [.pure (encL 1 az3 i.1),pz i.2.1]),(2,vecO 1 (encL 1 az3) h.2.2.1 59),(3,vecO 1 az3 i.2.2 3)],[],4⟩)
 (fun i=>.br (decide (i.2.2.2<(i64.wrap (2 * (c.Joints.length:Int)))))
 (.call (azm i.1 i.2.1 1048576) [(0,1)] fun j=>let k:=([j.1]:A0);let m:=i.2.2.1.length+k.length;
 .conv 10003 (czi 1 az3 k 3)<|
 .conv 10004 (ezf 1 az3 i.2.2.1 k 3)<|
 .grd (m * 8≤140737488355328/\m≤maxLen)<|
 .nn (j.2.1,j.2.2,(i.2.2.1++k),(i64.wrap (i.2.2.2+1))))
 (.oo (i.1,i.2.1,i.2.2.1)))
 (h.1,h.2.1,nl,0) [] fun i=>
 .cc (uz8 c i.2.2) fun j=>let k:=([j]:A1);let m:=h.2.2.1.length+k.length;
 .conv 11004 (czi 1 (encL 1 az3) k 59)<|
 .conv 11005 (ezf 1 (encL 1 az3) h.2.2.1 k 59)<|
 .grd (m * 24≤140737488355328/\m≤maxLen)<|
 .nn (i.1,i.2.1,(h.2.2.1++k),(i64.wrap (h.2.2.2+1))))
 (.oo h.2.2.1))
 (g.1,g.2,nl,0) [] fun h=>
 .ret h
noncomputable def rzk (c)(d)(e):=
 mkD Tryz.func12 (rzl c d e) 0 [.pure (czp c),pz d,.pure (encL 1 az3 e)] [] (fun _=>.vec 0) (fun r=>[(0,vecO 1 (encL 1 az3) r 59)])
noncomputable def Bzh (c:ByteArray):T Bool:=let d:=(c.size:Int);.cut 2 (fun (e:Bool)=>⟨[(0,.pure (.str c)),(16,.pure (.bool e))],[],[],0⟩)
 (.br (decide (d<1))
 (.oo true)
 (.br (decide (d>16))
 (.oo true)
 (.oo (c==(⟨#[119,111,114,108,100]⟩:ByteArray))))) fun e=>
 .br e
 (.ret false)
 (.loop (fun (f:Int)=>⟨[(0,.pure (.str c)),(3,pz f)],[],[],0⟩)
 (.exit 0) (fun (_:U0)=>⟨[],[],[],0⟩)
 (fun f=>let g:=((c.data.getD f.toNat 0).toNat:Int);.br (decide (f<d))
 (.cut 1 (fun (h:Bool)=>⟨[(0,.pure (.str c)),(3,pz f),(4,.pure (.bool h))],[],[],0⟩)
 (.gh f c.size<|
 .br (decide (g≥97))
 (.gh f c.size<|
 .oo (decide (g≤122)))
 (.oo false)) fun h=>
 .cut 0 (fun (i:Bool)=>⟨[(0,.pure (.str c)),(3,pz f),(56,.pure (.bool i))],[],[],0⟩)
 (.br (!h)
 (.br (f==0)
 (.oo true)
 (.gh f c.size<|
 .br (g !=95)
 (.gh f c.size<|
 .br (decide (g<48))
 (.oo true)
 (.gh f c.size<|
 .oo (decide (g>57))))
 (.oo false)))
 (.oo false)) fun i=>
 .br i
 (.ff false)
 (.nn (i64.wrap (f+1))))
 (.oo .u))
 0 [] fun _=>
 .ret true)
noncomputable def Jza (c):=
 mkD Tryz.func89 (Bzh c) 0 [.pure (.str c)] [] (fun r=>.pure (.bool r)) (fun _=>[])
noncomputable def Bzi (c:Au)(d:Int):T Bool:=let e:=i64.wrap (0-d);let f:Nat×Res:=(0,.box [pz c.1,pz c.2.1,pz c.2.2]);.unroll 4<|
 .known true<|
 .cut 1 (fun (g:Bool)=>⟨[(1,pz d),(2,.ptr 0 0),(5,pz 0),(22,.pure (.bool g))],[f],[],1⟩)
 (.ix 0 3 rfl<|
 .br (decide (c.1<e))
 (.oo true)
 (.ix 0 3 rfl<|
 .oo (decide (c.1>d)))) fun g=>
 .br g
 (.ret false)
 (.lit 3001 (1)<|
 .known true<|
 .cut 1 (fun (h:Bool)=>⟨[(1,pz d),(2,.ptr 0 0),(5,pz 1),(22,.pure (.bool h))],[f],[],1⟩)
 (.ix 1 3 rfl<|
 .br (decide (c.2.1<e))
 (.oo true)
 (.ix 1 3 rfl<|
 .oo (decide (c.2.1>d)))) fun h=>
 .br h
 (.ret false)
 (.lit 3001 (2)<|
 .known true<|
 .cut 1 (fun (i:Bool)=>⟨[(1,pz d),(2,.ptr 0 0),(5,pz 2),(22,.pure (.bool i))],[f],[],1⟩)
 (.ix 2 3 rfl<|
 .br (decide (c.2.2<e))
 (.oo true)
 (.ix 2 3 rfl<|
 .oo (decide (c.2.2>d)))) fun i=>
 .br i
 (.ret false)
 (.lit 3001 (3)<|
 .known false<|
 .ret true)))
noncomputable def fzh (c)(d):=
 mkD Tryz.func61 (Bzi c d) 0 [.pure (az1 c),pz d] [] (fun r=>.pure (.bool r)) (fun _=>[])
noncomputable def yzb (c:Int):T Int:=
 .br (c==0)
 (.ret 0)
 (.cut 0 (fun (d:Bool)=>⟨[(6,.pure (.bool d))],[],[],0⟩)
 (.br (c==1)
 (.oo (c==1))
 (.br (c==2)
 (.oo (c==2))
 (.oo (c==3)))) fun d=>
 .br d
 (.ret 524288)
 (.ret 4194304))
noncomputable def Gz5 (c):=
 mkD Tryz.func90 (yzb c) 0 [pz c] [] (fun r=>pz r) (fun _=>[])
noncomputable def szh (c:Int)(d:Int)(e:Int):T Bool:=
 .br (decide (d≤c))
 (.ret (decide (c≤e)))
 (.ret false)
noncomputable def fzi (c)(d)(e):=
 mkD Tryz.func60 (szh c d e) 0 [pz c,pz d,pz e] [] (fun r=>.pure (.bool r)) (fun _=>[])
set_option maxHeartbeats 8000000 in
set_option maxRecDepth 20000 in
noncomputable def lzb (c:A3)(d:Int):T Int:=let e:=c.getD (d.toNat) default;let f:=e.Name;let g:=e.Kind;let h:=e.Parent;let i:Nat×Res:=(0,.box [.pure (.str f),pz g,pz h,pz (e.Offset.1),pz (e.Offset.2.1),pz (e.Offset.2.2),pz (e.Lo),pz (e.Hi),pz (e.Weight),pz (e.Speed),pz (e.Accel),pz (e.Torque)]);.gh d c.length<|
 .cc (Jza f) fun j=>
 .br (!j)
 (.ret 802)
 (.loop (fun (k:Int)=>⟨[(0,.pure (encL 12 azd c)),(1,pz d),(5,.ptr 0 0),(6,pz k)],[i],[],1⟩)
 (.exit 0) (fun (_:U0)=>⟨[(1,pz d),(5,.ptr 0 0)],[i],[],1⟩)
 (fun k=>.br (decide (k<d))
 (.gh k c.length<|
 .br (((c.getD (k.toNat) default).Name)==f)
 (.ff 802)
 (.nn (i64.wrap (k+1))))
 (.oo .u))
 0 [] fun _=>
 .cut 1 (fun (k:Bool)=>⟨[(1,pz d),(5,.ptr 0 0),(36,.pure (.bool k))],[i],[],1⟩)
 (.br (decide (g<0))
 (.oo true)
 (.oo (decide (g>6)))) fun k=>
 .br k
 (.ret 803)
 (.cut 1 (fun (m:Bool)=>⟨[(5,.ptr 0 0),(45,.pure (.bool m))],[i],[],1⟩)
 (.br (decide (h<(-1)))
 (.oo true)
 (.oo (decide (h≥d)))) fun m=>
 .br m
 (.ret 804)
 (.cc (fzh (e.Offset) 4194304) fun n=>
 .br (!n)
 (.ret 805)
 (.cc (Gz5 g) fun q=>
 .cut 0 (fun (s:Bool)=>⟨[(5,.ptr 0 0),(70,.pure (.bool s))],[i],[],1⟩)
 (.br (decide ((e.Lo)>(e.Hi)))
 (.oo true)
 (.br (decide ((e.Lo)<(i64.wrap (0-q))))
 (.oo true)
 (.oo (decide ((e.Hi)>q))))) fun s=>
 .br s
 (.ret 806)
 (.cut 1 (fun (t:Bool)=>⟨[(92,.pure (.bool t))],[],[],0⟩)
 (.cc (fzi (e.Weight) 1 1024) fun t=>
 .br (!t)
 (.oo true)
 (.cc (fzi (e.Speed) 1 1048576) fun w=>
 .br (!w)
 (.oo true)
 (.cc (fzi (e.Accel) 1 1048576) fun y=>
 .br (!y)
 (.oo true)
 (.cc (fzi (e.Torque) 1 1099511627776) fun z=>
 .oo (!z))))) fun t=>
 .br t
 (.ret 807)
 (.ret 0))))))
noncomputable def tzg (c)(d):=
 mkD Tryz.func59 (lzb c d) 0 [.pure (encL 12 azd c),pz d] [] (fun r=>pz r) (fun _=>[])
noncomputable def lz9 (c:azl):T Int:=let d:=(c.Joints.length:Int);let e:=(c.Masses.length:Nat);let f:Nat×Res:=(0,.box [.pure (encL 12 azd c.Joints),.pure (encL 5 azj c.Masses)]);.cut 2 (fun (g:Bool)=>⟨[(1,.ptr 0 0),(16,.pure (.bool g))],[f],[],1⟩)
 (.br (decide (d<1))
 (.oo true)
 (.oo (decide (d>10)))) fun g=>
 .br g
 (.ret 801)
 (.loop (fun (h:Int)=>⟨[(1,.ptr 0 0),(3,pz h)],[f],[],1⟩)
 (.exit 0) (fun (_:U0)=>⟨[(1,.ptr 0 0)],[f],[],1⟩)
 (fun h=>.br (decide (h<d))
 (.cc (tzg c.Joints h) fun i=>
 .br (i !=0)
 (.ff i)
 (.nn (i64.wrap (h+1))))
 (.oo .u))
 0 [] fun _=>
 .br (decide ((e:Int)>32))
 (.ret 808)
 (.loop (fun (h:Int)=>⟨[(1,.ptr 0 0),(5,pz h)],[f],[],1⟩)
 (.exit 2) (fun (_:U0)=>⟨[],[],[],0⟩)
 (fun h=>let i:=c.Masses.getD (h.toNat) default;.br (decide (h<(e:Int)))
 (.gh h c.Masses.length<|
 .cut 0 (fun (j:Bool)=>⟨[(1,.ptr 0 0),(5,pz h),(69,.pure (.bool j))],[f],[],1⟩)
 (.br (decide ((i.Link)<0))
 (.oo true)
 (.br (decide ((i.Link)≥d))
 (.oo true)
 (.cc (fzi (i.Mass) 1 65536) fun j=>
 .br (!j)
 (.oo true)
 (.cc (fzh (i.Point) 4194304) fun k=>
 .oo (!k))))) fun j=>
 .br j
 (.ff 808)
 (.nn (i64.wrap (h+1))))
 (.oo .u))
 0 [] fun _=>
 .ret 0))
noncomputable def czv (c):=
 mkD Tryz.func30 (lz9 c) 0 [.pure (czp c)] [] (fun r=>pz r) (fun _=>[])
noncomputable def rzu (c:azl)(d:A0):T Bool:=let e:=encL 1 az3 d;let f:=(d.length:Nat);let g:Nat×Res:=(0,.box [.pure (encL 12 azd c.Joints),.pure (encL 5 azj c.Masses)]);.cut 2 (fun (h:Bool)=>⟨[(1,.pure e),(2,.ptr 0 0),(16,.pure (.bool h))],[g],[],1⟩)
 (.cc (czv c) fun h=>
 .br (h !=0)
 (.oo true)
 (.oo ((f:Int) !=(c.Joints.length:Int)))) fun h=>
 .br h
 (.ret false)
 (.loop (fun (i:Int)=>⟨[(1,.pure e),(2,.ptr 0 0),(5,pz i)],[g],[],1⟩)
 (.exit 0) (fun (_:U0)=>⟨[],[],[],0⟩)
 (fun i=>let j:=d.getD (i.toNat) default;let k:=c.Joints.getD (i.toNat) default;.br (decide (i<(f:Int)))
 (.cut 1 (fun (m:Bool)=>⟨[(1,.pure e),(2,.ptr 0 0),(5,pz i),(46,.pure (.bool m))],[g],[],1⟩)
 (.gh i d.length<|
 .gh i c.Joints.length<|
 .br (decide (j<(k.Lo)))
 (.oo true)
 (.gh i d.length<|
 .gh i c.Joints.length<|
 .oo (decide (j>(k.Hi))))) fun m=>
 .br m
 (.ff false)
 (.nn (i64.wrap (i+1))))
 (.oo .u))
 0 [] fun _=>
 .ret true)
noncomputable def lzv (c)(d):=
 mkD Tryz.func31 (rzu c d) 0 [.pure (czp c),.pure (encL 1 az3 d)] [] (fun r=>.pure (.bool r)) (fun _=>[])
noncomputable def izu (c:A0)(d:A0):T Bool:=let e:=(c.length:Nat);.br ((e:Int) !=(d.length:Int))
 (.ret false)
 (.loop (fun (f:Int)=>⟨[(0,.pure (encL 1 az3 c)),(1,.pure (encL 1 az3 d)),(5,pz f)],[],[],0⟩)
 (.exit 0) (fun (_:U0)=>⟨[],[],[],0⟩)
 (fun f=>.br (decide (f<(e:Int)))
 (.gh f c.length<|
 .gh f d.length<|
 .br ((c.getD (f.toNat) default) !=(d.getD (f.toNat) default))
 (.ff false)
 (.nn (i64.wrap (f+1))))
 (.oo .u))
 0 [] fun _=>
 .ret true)
noncomputable def pz8 (c)(d):=
 mkD Tryz.func62 (izu c d) 0 [.pure (encL 1 az3 c),.pure (encL 1 az3 d)] [] (fun r=>.pure (.bool r)) (fun _=>[])
noncomputable def pze (c:A1)(d:A0):T Int:=
 .loop (fun (e:Int)=>⟨[(0,.vec 0),(1,.pure (encL 1 az3 d)),(5,pz e)],[(0,vecO 1 (encL 1 az3) c 59)],[],1⟩)
 (.exit 0) (fun (_:U0)=>⟨[],[(0,vecO 1 (encL 1 az3) c 59)],[],1⟩)
 (fun e=>.br (decide (e<(c.length:Int)))
 (.gg e c.length<|
 .cc (pz8 (c.getD (e.toNat) default) d) fun f=>
 .br f
 (.ff e)
 (.nn (i64.wrap (e+1))))
 (.oo .u))
 0 [] fun _=>
 .ret (-1)
noncomputable def pzd (c)(d):=
 mkD Tryz.func32 (pze c d) 1 [.vec 0,.pure (encL 1 az3 d)] [(0,vecO 1 (encL 1 az3) c 59)] (fun r=>pz r) (fun _=>[(0,vecO 1 (encL 1 az3) c 59)])
noncomputable def uzl (c:A0):T Bool:=let d:=encL 1 az3 c;.loop (fun (e:Int)=>⟨[(0,.pure d),(3,pz e)],[],[],0⟩)
 (.exit 0) (fun (_:U0)=>⟨[],[],[],0⟩)
 (fun e=>let f:=c.getD (e.toNat) default;.br (decide (e<(c.length:Int)))
 (.cut 1 (fun (g:Bool)=>⟨[(0,.pure d),(3,pz e),(21,.pure (.bool g))],[],[],0⟩)
 (.gh e c.length<|
 .br (decide (f<(-2147483648)))
 (.oo true)
 (.gh e c.length<|
 .oo (decide (f>2147483648)))) fun g=>
 .br g
 (.ff false)
 (.nn (i64.wrap (e+1))))
 (.oo .u))
 0 [] fun _=>
 .ret true
noncomputable def kz5 (c):=
 mkD Tryz.func91 (uzl c) 0 [.pure (encL 1 az3 c)] [] (fun r=>.pure (.bool r)) (fun _=>[])
noncomputable def nz2 (c:azl)(d:A0)(e:A0):T Int:=let f:=encL 1 az3 d;let g:=encL 1 az3 e;let h:=(d.length:Int);let i:Nat×Res:=(0,.box [.pure (encL 12 azd c.Joints),.pure (encL 5 azj c.Masses)]);.cut 2 (fun (j:Bool)=>⟨[(1,.pure f),(2,.pure g),(3,.ptr 0 0),(36,.pure (.bool j))],[i],[],1⟩)
 (.cc (czv (⟨c.Joints,c.Masses⟩:azl)) fun j=>
 .br (j !=0)
 (.oo true)
 (.cc (kz5 d) fun k=>
 .br (!k)
 (.oo true)
 (.cc (kz5 e) fun m=>
 .br (!m)
 (.oo true)
 (.br (h !=(c.Joints.length:Int))
 (.oo true)
 (.oo ((e.length:Int) !=h)))))) fun j=>
 .br j
 (.ret 0)
 (.loop (fun (k:An)=>⟨[(1,.pure f),(2,.pure g),(3,.ptr 0 0),(7,pz k.1),(8,pz k.2)],[i],[],1⟩)
 (.exit 0) (fun (k:Int)=>⟨[(7,pz k)],[],[],0⟩)
 (fun k=>let m:=(k.2).toNat;let n:=d.getD m default;let q:=e.getD m default;.br (decide (k.2<h))
 (.gh k.2 c.Joints.length<|
 .gh k.2 d.length<|
 .gh k.2 e.length<|
 .gh k.2 e.length<|
 .gh k.2 d.length<|
 .name 7025 ((max (i64.wrap (n-q)) (i64.wrap (q-n)))) fun s=>
 .nn ((i64.wrap (k.1+(i64.wrap (((c.Joints.getD m default).Weight) * s)))),(i64.wrap (k.2+1))))
 (.oo k.1))
 (0,0) [] fun k=>
 .ret k)
noncomputable def gzg (c)(d)(e):=
 mkD Tryz.func63 (nz2 c d e) 0 [.pure (czp c),.pure (encL 1 az3 d),.pure (encL 1 az3 e)] [] (fun r=>pz r) (fun _=>[])
noncomputable def kzc (c:azl)(d:A1)(e:A0)(f:Int):T A0:=let g:=encL 1 az3 e;let h:Nat×Res:=(1,.box [.pure (encL 12 azd c.Joints),.pure (encL 5 azj c.Masses)]);let i:=(⟨c.Joints,c.Masses⟩:azl);.loop (fun (j:A2)=>⟨[(1,.vec 0),(2,.pure g),(3,pz f),(4,.ptr 1 0),(9,.vec 2),(10,pz j.2)],[(0,vecO 1 (encL 1 az3) d 59),h,(2,vecO 1 az3 j.1 3)],[],3⟩)
 (.exit 0) (fun (j:A0)=>⟨[(9,.vec 1)],[(0,vecO 1 (encL 1 az3) d 59),(1,vecO 1 az3 j 3)],[],2⟩)
 (fun j=>let k:=([j.2]:A0);let m:=j.1.length+k.length;.br (decide (j.2<(d.length:Int)))
 (.cut 0 (fun (n:A0)=>⟨[(1,.vec 0),(2,.pure g),(3,pz f),(4,.ptr 1 0),(9,.vec 2),(10,pz j.2)],[(0,vecO 1 (encL 1 az3) d 59),h,(2,vecO 1 az3 n 3)],[],3⟩)
 (.br (j.2==f)
 (.oo j.1)
 (.conv 7002 (czi 1 az3 k 3)<|
 .conv 7003 (ezf 1 az3 j.1 k 3)<|
 .grd (m * 8≤140737488355328/\m≤maxLen)<|
 .gg j.2 d.length<|
 .cc (gzg i (d.getD ((j.2).toNat) default) e) fun n=>
 .loop (fun (q:A2)=>⟨[(1,.vec 0),(2,.pure g),(3,pz f),(4,.ptr 1 0),(9,.vec 2),(10,pz j.2),(11,pz q.2),(12,pz n)],[(0,vecO 1 (encL 1 az3) d 59),h,(2,vecO 1 az3 q.1 3)],[],3⟩)
 (.exit 2) (fun (q:A0)=>⟨[(1,.vec 0),(2,.pure g),(3,pz f),(4,.ptr 1 0),(9,.vec 2),(10,pz j.2)],[(0,vecO 1 (encL 1 az3) d 59),h,(2,vecO 1 az3 q 3)],[],3⟩)
 (fun q=>let s:=(q.2).toNat;let t:=i64.wrap (q.2-1);let w:=t.toNat;let y:=q.1.getD w default;let z:=q.1.set s y;let aa:=q.1.getD s default;.cut 1 (fun (ab:Bool)=>⟨[(1,.vec 0),(2,.pure g),(3,pz f),(4,.ptr 1 0),(9,.vec 2),(10,pz j.2),(11,pz q.2),(12,pz n),(51,.pure (.bool ab))],[(0,vecO 1 (encL 1 az3) d 59),h,(2,vecO 1 az3 q.1 3)],[],3⟩)
 (.br (decide (q.2>0))
 (.gg t q.1.length<|
 .gg y d.length<|
 .call (gzg i (d.getD (y.toNat) default) e) [] fun ab=>
 .oo (decide (n<ab)))
 (.oo false)) fun ab=>
 .br ab
 (.gg t q.1.length<|
 .gg q.2 q.1.length<|
 .gh q.2 q.1.length<|
 .conv 10015 (fzg 1 az3 q.1 3 s y)<|
 .gi (q.2) q.1.length<|
 .gh t (z.length)<|
 .conv 10017 (fzg 1 az3 z 3 w aa)<|
 .gi (t) (z.length)<|
 .nn ((z.set w aa),t))
 (.oo q.1))
 ((j.1++k),(j.1.length:Int)) [] fun q=>
 .oo q)) fun n=>
 .nn (n,(i64.wrap (j.2+1))))
 (.oo j.1))
 (nl,0) [] fun j=>
 .ret j
noncomputable def qzo (c)(d)(e)(f):=
 mkD Tryz.func33 (kzc c d e f) 1 [.pure (czp c),.vec 0,.pure (encL 1 az3 e),pz f] [(0,vecO 1 (encL 1 az3) d 59)] (fun r=>.pure (encL 1 az3 r)) (fun _=>[(0,vecO 1 (encL 1 az3) d 59)])
set_option maxHeartbeats 8000000 in
set_option maxRecDepth 20000 in
noncomputable def szb (a0:azl)(a1:A1)(a2:A7)(a3:Int)(a4:Int):T A7:=
 .loop (fun (x85:(A7×Bool×Int))=>⟨[(2,pz (min a3 a4)),(3,pz (max a3 a4)),(4,.ptr 2 0),(5,.ptr 3 0),(9,.vec 4),(10,.pure (.bool x85.2.1)),(11,pz x85.2.2)],[(0,vecO 1 (encL 1 az3) a1 59),(1,vecO 12 az5 a2 65),(2,.box [.pure (encL 12 azd a0.Joints),.pure (encL 5 azj a0.Masses)]),(3,.box [.vec 0,.vec 1]),(4,vecO 12 az5 x85.1 65)],[],5⟩)
 (.exit 0) (fun (y106:(A7×Bool))=>⟨[(2,pz (min a3 a4)),(3,pz (max a3 a4)),(4,.ptr 2 0),(5,.ptr 3 0),(9,.vec 4),(10,.pure (.bool y106.2))],[(0,vecO 1 (encL 1 az3) a1 59),(1,vecO 12 az5 a2 65),(2,.box [.pure (encL 12 azd a0.Joints),.pure (encL 5 azj a0.Masses)]),(3,.box [.vec 0,.vec 1]),(4,vecO 12 az5 y106.1 65)],[],5⟩)
 (fun x85=>.br (decide (x85.2.2<(a2.length:Int)))
 (.grd (0≤x85.2.2/\x85.2.2<(a2.length:Int))<|
 .grd ((x85.2.2).toNat<a2.length)<|
 .cut 0 (fun (y123:(A7×Bool))=>⟨[(2,pz (min a3 a4)),(3,pz (max a3 a4)),(4,.ptr 2 0),(5,.ptr 3 0),(9,.vec 4),(10,.pure (.bool y123.2)),(11,pz x85.2.2),(12,.ptr 5 0)],[(0,vecO 1 (encL 1 az3) a1 59),(1,vecO 12 az5 a2 65),(2,.box [.pure (encL 12 azd a0.Joints),.pure (encL 5 azj a0.Masses)]),(3,.box [.vec 0,.vec 1]),(4,vecO 12 az5 y123.1 65),(5,.box [pz ((a2.getD ((x85.2.2).toNat) default).U),pz ((a2.getD ((x85.2.2).toNat) default).V),pz ((a2.getD ((x85.2.2).toNat) default).Cost),pz ((a2.getD ((x85.2.2).toNat) default).State),pz ((a2.getD ((x85.2.2).toNat) default).Proof.Kind),.pure (encL 3 azy ((a2.getD ((x85.2.2).toNat) default).Proof.Pieces)),pz ((a2.getD ((x85.2.2).toNat) default).Proof.At.Depth),pz ((a2.getD ((x85.2.2).toNat) default).Proof.At.Index),.pure (encL 3 az1 ((a2.getD ((x85.2.2).toNat) default).Proof.At.Normals)),pz ((a2.getD ((x85.2.2).toNat) default).Proof.Witness.Pair),.pure (encL 1 az3 ((a2.getD ((x85.2.2).toNat) default).Proof.Witness.Left)),.pure (encL 1 az3 ((a2.getD ((x85.2.2).toNat) default).Proof.Witness.Right))])],[],6⟩)
 (.cut 0 (fun (y124:Bool)=>⟨[(2,pz (min a3 a4)),(3,pz (max a3 a4)),(4,.ptr 2 0),(5,.ptr 3 0),(9,.vec 4),(10,.pure (.bool x85.2.1)),(11,pz x85.2.2),(12,.ptr 5 0),(50,.pure (.bool y124))],[(0,vecO 1 (encL 1 az3) a1 59),(1,vecO 12 az5 a2 65),(2,.box [.pure (encL 12 azd a0.Joints),.pure (encL 5 azj a0.Masses)]),(3,.box [.vec 0,.vec 1]),(4,vecO 12 az5 x85.1 65),(5,.box [pz ((a2.getD ((x85.2.2).toNat) default).U),pz ((a2.getD ((x85.2.2).toNat) default).V),pz ((a2.getD ((x85.2.2).toNat) default).Cost),pz ((a2.getD ((x85.2.2).toNat) default).State),pz ((a2.getD ((x85.2.2).toNat) default).Proof.Kind),.pure (encL 3 azy ((a2.getD ((x85.2.2).toNat) default).Proof.Pieces)),pz ((a2.getD ((x85.2.2).toNat) default).Proof.At.Depth),pz ((a2.getD ((x85.2.2).toNat) default).Proof.At.Index),.pure (encL 3 az1 ((a2.getD ((x85.2.2).toNat) default).Proof.At.Normals)),pz ((a2.getD ((x85.2.2).toNat) default).Proof.Witness.Pair),.pure (encL 1 az3 ((a2.getD ((x85.2.2).toNat) default).Proof.Witness.Left)),.pure (encL 1 az3 ((a2.getD ((x85.2.2).toNat) default).Proof.Witness.Right))])],[],6⟩)
 (.br (!x85.2.1)
 (.br (decide (((a2.getD ((x85.2.2).toNat) default).U)>(min a3 a4)))
 (.ret (.out true))
 (.br (((a2.getD ((x85.2.2).toNat) default).U)==(min a3 a4))
 (.ret (.out (decide (((a2.getD ((x85.2.2).toNat) default).V)≥(max a3 a4)))))
 (.ret (.out false))))
 (.ret (.out false))) fun y124=>
 .br y124
 (.cut 1 (fun (y125:Bool)=>⟨[(2,pz (min a3 a4)),(3,pz (max a3 a4)),(4,.ptr 2 0),(5,.ptr 3 0),(9,.vec 4),(10,.tt),(11,pz x85.2.2),(12,.ptr 5 0),(60,.pure (.bool y125))],[(0,vecO 1 (encL 1 az3) a1 59),(1,vecO 12 az5 a2 65),(2,.box [.pure (encL 12 azd a0.Joints),.pure (encL 5 azj a0.Masses)]),(3,.box [.vec 0,.vec 1]),(4,vecO 12 az5 x85.1 65),(5,.box [pz ((a2.getD ((x85.2.2).toNat) default).U),pz ((a2.getD ((x85.2.2).toNat) default).V),pz ((a2.getD ((x85.2.2).toNat) default).Cost),pz ((a2.getD ((x85.2.2).toNat) default).State),pz ((a2.getD ((x85.2.2).toNat) default).Proof.Kind),.pure (encL 3 azy ((a2.getD ((x85.2.2).toNat) default).Proof.Pieces)),pz ((a2.getD ((x85.2.2).toNat) default).Proof.At.Depth),pz ((a2.getD ((x85.2.2).toNat) default).Proof.At.Index),.pure (encL 3 az1 ((a2.getD ((x85.2.2).toNat) default).Proof.At.Normals)),pz ((a2.getD ((x85.2.2).toNat) default).Proof.Witness.Pair),.pure (encL 1 az3 ((a2.getD ((x85.2.2).toNat) default).Proof.Witness.Left)),.pure (encL 1 az3 ((a2.getD ((x85.2.2).toNat) default).Proof.Witness.Right))])],[],6⟩)
 (.br (((a2.getD ((x85.2.2).toNat) default).U) !=(min a3 a4))
 (.ret (.out true))
 (.ret (.out (((a2.getD ((x85.2.2).toNat) default).V) !=(max a3 a4))))) fun y125=>
 .br y125
 (.grd (0≤(min a3 a4)/\(min a3 a4)<(a1.length:Int))<|
 .grd (((min a3 a4)).toNat<a1.length)<|
 .grd (0≤(max a3 a4)/\(max a3 a4)<(a1.length:Int))<|
 .grd (((max a3 a4)).toNat<a1.length)<|
 .call (gzg a0 (a1.getD (((min a3 a4)).toNat) default) (a1.getD (((max a3 a4)).toNat) default)) [] fun y126=>
 .conv 11016 (Uz4 12 az5 ([(⟨(min a3 a4),(max a3 a4),y126,0,(⟨0,nl,(⟨0,0,nl⟩:azk),(⟨0,nl,nl⟩:bz1)⟩:azi)⟩:az4)]:A7) 65 [.agg [.int .i64 (min a3 a4),.int .i64 (max a3 a4),.int .i64 y126,.int .i64 0,.int .i64 0,.lst 0 0 fun _=>.unk,.int .i64 0,.int .i64 0,.lst 0 0 fun _=>.unk,.int .i64 0,.lst 0 0 fun _=>.unk,.lst 0 0 fun _=>.unk]] (by kernel_rfl))<|
 .conv 11017 (ezf 12 az5 x85.1 ([(⟨(min a3 a4),(max a3 a4),y126,0,(⟨0,nl,(⟨0,0,nl⟩:azk),(⟨0,nl,nl⟩:bz1)⟩:azi)⟩:az4)]:A7) 65)<|
 .grd ((x85.1.length+([(⟨(min a3 a4),(max a3 a4),y126,0,(⟨0,nl,(⟨0,0,nl⟩:azk),(⟨0,nl,nl⟩:bz1)⟩:azi)⟩:az4)]:A7).length) * 160≤140737488355328/\(x85.1.length+([(⟨(min a3 a4),(max a3 a4),y126,0,(⟨0,nl,(⟨0,0,nl⟩:azk),(⟨0,nl,nl⟩:bz1)⟩:azi)⟩:az4)]:A7).length)≤maxLen)<|
 .ret (.out ((x85.1++([(⟨(min a3 a4),(max a3 a4),y126,0,(⟨0,nl,(⟨0,0,nl⟩:azk),(⟨0,nl,nl⟩:bz1)⟩:azi)⟩:az4)]:A7)),true)))
 (.ret (.out (x85.1,true))))
 (.ret (.out (x85.1,x85.2.1)))) fun y123=>
 .conv 12002 (czi 12 az5 ([(a2.getD ((x85.2.2).toNat) default)]:A7) 65)<|
 .conv 12003 (ezf 12 az5 y123.1 ([(a2.getD ((x85.2.2).toNat) default)]:A7) 65)<|
 .grd ((y123.1.length+([(a2.getD ((x85.2.2).toNat) default)]:A7).length) * 160≤140737488355328/\(y123.1.length+([(a2.getD ((x85.2.2).toNat) default)]:A7).length)≤maxLen)<|
 .ret (.next ((y123.1++([(a2.getD ((x85.2.2).toNat) default)]:A7)),y123.2,(i64.wrap (x85.2.2+1)))))
 (.ret (.out (x85.1,x85.2.1))))
 (nl,false,0) [] fun y106=>
 .cut 0 (fun (y129:A7)=>⟨[(9,.vec 2)],[(0,vecO 1 (encL 1 az3) a1 59),(1,vecO 12 az5 a2 65),(2,vecO 12 az5 y129 65)],[],3⟩)
 (.br (!y106.2)
 (.grd (0≤(min a3 a4)/\(min a3 a4)<(a1.length:Int))<|
 .grd (((min a3 a4)).toNat<a1.length)<|
 .grd (0≤(max a3 a4)/\(max a3 a4)<(a1.length:Int))<|
 .grd (((max a3 a4)).toNat<a1.length)<|
 .call (gzg a0 (a1.getD (((min a3 a4)).toNat) default) (a1.getD (((max a3 a4)).toNat) default)) [] fun y130=>
 .conv 14016 (Uz4 12 az5 ([(⟨(min a3 a4),(max a3 a4),y130,0,(⟨0,nl,(⟨0,0,nl⟩:azk),(⟨0,nl,nl⟩:bz1)⟩:azi)⟩:az4)]:A7) 65 [.agg [.int .i64 (min a3 a4),.int .i64 (max a3 a4),.int .i64 y130,.int .i64 0,.int .i64 0,.lst 0 0 fun _=>.unk,.int .i64 0,.int .i64 0,.lst 0 0 fun _=>.unk,.int .i64 0,.lst 0 0 fun _=>.unk,.lst 0 0 fun _=>.unk]] (by kernel_rfl))<|
 .conv 14017 (ezf 12 az5 y106.1 ([(⟨(min a3 a4),(max a3 a4),y130,0,(⟨0,nl,(⟨0,0,nl⟩:azk),(⟨0,nl,nl⟩:bz1)⟩:azi)⟩:az4)]:A7) 65)<|
 .grd ((y106.1.length+([(⟨(min a3 a4),(max a3 a4),y130,0,(⟨0,nl,(⟨0,0,nl⟩:azk),(⟨0,nl,nl⟩:bz1)⟩:azi)⟩:az4)]:A7).length) * 160≤140737488355328/\(y106.1.length+([(⟨(min a3 a4),(max a3 a4),y130,0,(⟨0,nl,(⟨0,0,nl⟩:azk),(⟨0,nl,nl⟩:bz1)⟩:azi)⟩:az4)]:A7).length)≤maxLen)<|
 .ret (.out (y106.1++([(⟨(min a3 a4),(max a3 a4),y130,0,(⟨0,nl,(⟨0,0,nl⟩:azk),(⟨0,nl,nl⟩:bz1)⟩:azi)⟩:az4)]:A7))))
 (.ret (.out y106.1))) fun y129=>
 .ret y129
noncomputable def Azc (c)(d)(e)(f)(g):=
 mkD Tryz.func34 (szb c d e f g) 2 [.pure (czp c),.agg [.vec 0,.vec 1],pz f,pz g] [(0,vecO 1 (encL 1 az3) d 59),(1,vecO 12 az5 e 65)] (fun _=>.vec 2) (fun r=>[(0,vecO 1 (encL 1 az3) d 59),(1,vecO 12 az5 e 65),(2,vecO 12 az5 r 65)])
set_option maxHeartbeats 8000000 in
set_option maxRecDepth 20000 in
noncomputable def sza (c:azl)(d:A1)(e:Int):T az9:=let f:=encL 1 (encL 1 az3) d;let g:Nat×Res:=(0,.box [.pure (encL 12 azd c.Joints),.pure (encL 5 azj c.Masses)]);let h:=(⟨c.Joints,c.Masses⟩:azl);.cc (czv h) fun i=>
 .br (i !=0)
 (.ret (⟨nl,nl⟩:az9))
 (.loop (fun (j:A9)=>⟨[(1,.pure f),(2,pz e),(3,.ptr 0 0),(6,.ptr 1 0),(7,.ptr 4 0),(8,pz j.2)],[g,(1,.box [.vec 2,.vec 3]),(2,.nilv),(3,.nilv),(4,.box [.vec 5,.vec 6]),(5,vecO 1 (encL 1 az3) j.1 59),(6,.nilv)],[],7⟩)
 (.exit 0) (fun (j:A1)=>⟨[(2,pz e),(3,.ptr 0 0),(6,.ptr 1 0),(7,.ptr 4 0)],[g,(1,.box [.vec 2,.vec 3]),(2,.nilv),(3,.nilv),(4,.box [.vec 5,.vec 6]),(5,vecO 1 (encL 1 az3) j 59),(6,.nilv)],[],7⟩)
 (fun j=>let k:=d.getD ((j.2).toNat) default;let m:=([k]:A1);let n:=j.1.length+m.length;.cut 1 (fun (q:Bool)=>⟨[(1,.pure f),(2,pz e),(3,.ptr 0 0),(6,.ptr 1 0),(7,.ptr 4 0),(8,pz j.2),(25,.pure (.bool q))],[g,(1,.box [.vec 2,.vec 3]),(2,.nilv),(3,.nilv),(4,.box [.vec 5,.vec 6]),(5,vecO 1 (encL 1 az3) j.1 59),(6,.nilv)],[],7⟩)
 (.br (decide (j.2<(d.length:Int)))
 (.oo (decide ((j.1.length:Int)<1024)))
 (.oo false)) fun q=>
 .br q
 (.cut 0 (fun (s:A1)=>⟨[(1,.pure f),(2,pz e),(3,.ptr 0 0),(6,.ptr 1 0),(7,.ptr 4 0),(8,pz j.2)],[g,(1,.box [.vec 2,.vec 3]),(2,.nilv),(3,.nilv),(4,.box [.vec 5,.vec 6]),(5,vecO 1 (encL 1 az3) s 59),(6,.nilv)],[],7⟩)
 (.cut 0 (fun (s:Bool)=>⟨[(1,.pure f),(2,pz e),(3,.ptr 0 0),(6,.ptr 1 0),(7,.ptr 4 0),(8,pz j.2),(43,.pure (.bool s))],[g,(1,.box [.vec 2,.vec 3]),(2,.nilv),(3,.nilv),(4,.box [.vec 5,.vec 6]),(5,vecO 1 (encL 1 az3) j.1 59),(6,.nilv)],[],7⟩)
 (.gh j.2 d.length<|
 .cc (lzv h k) fun s=>
 .br s
 (.gh j.2 d.length<|
 .call (pzd j.1 k) [(0,5)] fun t=>
 .oo (decide (t<0)))
 (.oo false)) fun s=>
 .br s
 (.gh j.2 d.length<|
 .grd (k.length * 8≤140737488355328/\k.length≤maxLen)<|
 .conv 8007 (czi 1 (encL 1 az3) m 59)<|
 .conv 8008 (ezf 1 (encL 1 az3) j.1 m 59)<|
 .grd (n * 24≤140737488355328/\n≤maxLen)<|
 .oo (j.1++m))
 (.oo j.1)) fun s=>
 .nn (s,(i64.wrap (j.2+1))))
 (.oo j.1))
 (nl,0) [] fun j=>
 .loop (fun (k:Aa)=>⟨[(2,pz e),(3,.ptr 0 0),(6,.ptr 1 0),(7,.ptr 4 0),(9,pz k.2)],[g,(1,.box [.vec 2,.vec 3]),(2,.nilv),(3,.nilv),(4,.box [.vec 5,.vec 6]),(5,vecO 1 (encL 1 az3) j 59),(6,vecO 12 az5 k.1 65)],[],7⟩)
 (.exit 2) (fun (k:A7)=>⟨[(6,.ptr 0 0),(7,.ptr 3 0)],[(0,.box [.vec 1,.vec 2]),(1,.nilv),(2,.nilv),(3,.box [.vec 4,.vec 5]),(4,vecO 1 (encL 1 az3) j 59),(5,vecO 12 az5 k 65)],[],6⟩)
 (fun k=>.br (decide (k.2<(j.length:Int)))
 (.gg k.2 j.length<|
 .call (qzo c j (j.getD ((k.2).toNat) default) k.2) [(0,5)] fun m=>let n:=encL 1 az3 m;
 .loop (fun (q:Aa)=>⟨[(2,pz e),(3,.ptr 0 0),(6,.ptr 1 0),(7,.ptr 4 0),(9,pz k.2),(10,.pure n),(11,pz q.2)],[g,(1,.box [.vec 2,.vec 3]),(2,.nilv),(3,.nilv),(4,.box [.vec 5,.vec 6]),(5,vecO 1 (encL 1 az3) j 59),(6,vecO 12 az5 q.1 65)],[],7⟩)
 (.exit 4) (fun (q:A7)=>⟨[(2,pz e),(3,.ptr 0 0),(6,.ptr 1 0),(7,.ptr 4 0),(9,pz k.2)],[g,(1,.box [.vec 2,.vec 3]),(2,.nilv),(3,.nilv),(4,.box [.vec 5,.vec 6]),(5,vecO 1 (encL 1 az3) j 59),(6,vecO 12 az5 q 65)],[],7⟩)
 (fun q=>.cut 1 (fun (s:Bool)=>⟨[(2,pz e),(3,.ptr 0 0),(6,.ptr 1 0),(7,.ptr 4 0),(9,pz k.2),(10,.pure n),(11,pz q.2),(79,.pure (.bool s))],[g,(1,.box [.vec 2,.vec 3]),(2,.nilv),(3,.nilv),(4,.box [.vec 5,.vec 6]),(5,vecO 1 (encL 1 az3) j 59),(6,vecO 12 az5 q.1 65)],[],7⟩)
 (.br (decide (q.2<(m.length:Int)))
 (.oo (decide (q.2<e)))
 (.oo false)) fun s=>
 .br s
 (.gh q.2 m.length<|
 .call (Azc c j q.1 k.2 (m.getD ((q.2).toNat) default)) [(0,5),(1,6)] fun t=>
 .nn (t,(i64.wrap (q.2+1))))
 (.oo q.1))
 (k.1,0) [] fun q=>
 .nn (q,(i64.wrap (k.2+1))))
 (.oo k.1))
 (nl,0) [] fun k=>let m:=(k.length:Nat);
 .cut 0 (fun (n:A7)=>⟨[(6,.ptr 0 0),(7,.ptr 3 0)],[(0,.box [.vec 1,.vec 2]),(1,.nilv),(2,.nilv),(3,.box [.vec 4,.vec 5]),(4,vecO 1 (encL 1 az3) j 59),(5,vecO 12 az5 n 65)],[],6⟩)
 (.br (decide ((m:Int)>8192))
 (.conv 18002 (Xz4 12 az5 k 65 (8192:Int))<|
 .grd (0≤(8192:Int)/\(8192:Int)≤(m:Int)/\0≤(8192:Int).toNat)<|
 .oo (k.take ((8192:Int).toNat)))
 (.oo k)) fun n=>
 .ret (⟨j,n⟩:az9))
noncomputable def lzz (c)(d)(e):=
 mkD Tryz.func11 (sza c d e) 0 [.pure (czp c),.pure (encL 1 (encL 1 az3) d),pz e] [] (fun r=>.pure (bz7 r)) (fun _=>[])
noncomputable def fz6 (a0:A1):T A1:=
 (match a0 with
  |[]=>.unroll 1<|
  .grd (a0.length=0)<|
  .both
   (.ret nl)
   (.conv 3000 (czi 1 (encL 1 az3) ([]:A1) 59)<|
   .conv 3002 (ezf 1 (encL 1 az3) ([]:A1) a0 59)<|
   .grd ((([]:A1).length+a0.length) * 24≤140737488355328/\(([]:A1).length+a0.length)≤maxLen)<|
   .ret (([]:A1)++a0))
  |_::_=>.grd (0<a0.length)<|
  .conv 3000 (czi 1 (encL 1 az3) ([]:A1) 59)<|
  .conv 3002 (ezf 1 (encL 1 az3) ([]:A1) a0 59)<|
  .grd ((([]:A1).length+a0.length) * 24≤140737488355328/\(([]:A1).length+a0.length)≤maxLen)<|
  .ret (([]:A1)++a0))
noncomputable def hzu (a0:A1):CallS A1:=
 mkH [] hd Tryz.func119 (by kernel_rfl) (fz6 a0) 0 [.pure (encL 1 (encL 1 az3) a0)] [] (fun _=>.vec 0) (fun r=>[(0,vecO 1 (encL 1 az3) r 59)]) (by cases a0<;>exact Ob.of_side (by kernel_rfl))
noncomputable def cz3 (a0:A7):T A7:=
 (match a0 with
  |[]=>.unroll 1<|
  .grd (a0.length=0)<|
  .both
   (.ret nl)
   (.conv 3000 (czi 12 az5 ([]:A7) 65)<|
   .conv 3002 (ezf 12 az5 ([]:A7) a0 65)<|
   .grd ((([]:A7).length+a0.length) * 160≤140737488355328/\(([]:A7).length+a0.length)≤maxLen)<|
   .ret (([]:A7)++a0))
  |_::_=>.grd (0<a0.length)<|
  .conv 3000 (czi 12 az5 ([]:A7) 65)<|
  .conv 3002 (ezf 12 az5 ([]:A7) a0 65)<|
  .grd ((([]:A7).length+a0.length) * 160≤140737488355328/\(([]:A7).length+a0.length)≤maxLen)<|
  .ret (([]:A7)++a0))
noncomputable def dz6 (a0:A7):CallS A7:=
 mkH [] hd Tryz.func120 (by kernel_rfl) (cz3 a0) 0 [.pure (encL 12 az5 a0)] [] (fun _=>.vec 0) (fun r=>[(0,vecO 12 az5 r 65)]) (by cases a0<;>exact Ob.of_side (by kernel_rfl))
noncomputable def ezn (a0:A0):T A0:=
 (match a0 with
  |[]=>.unroll 1<|
  .grd (a0.length=0)<|
  .both
   (.ret nl)
   (.conv 3000 (czi 1 az3 ([]:A0) 2)<|
   .conv 3002 (ezf 1 az3 ([]:A0) a0 2)<|
   .grd ((([]:A0).length+a0.length) * 8≤140737488355328/\(([]:A0).length+a0.length)≤maxLen)<|
   .ret (([]:A0)++a0))
  |_::_=>.grd (0<a0.length)<|
  .conv 3000 (czi 1 az3 ([]:A0) 2)<|
  .conv 3002 (ezf 1 az3 ([]:A0) a0 2)<|
  .grd ((([]:A0).length+a0.length) * 8≤140737488355328/\(([]:A0).length+a0.length)≤maxLen)<|
  .ret (([]:A0)++a0))
noncomputable def czk (a0:A0):CallS A0:=
 mkH [] hd Tryz.func121 (by kernel_rfl) (ezn a0) 0 [.pure (encL 1 az3 a0)] [] (fun r=>.pure (encL 1 az3 r)) (fun _=>[]) (by cases a0<;>exact Ob.of_side (by kernel_rfl))
noncomputable def dze (a0:Ab):T Ab:=
 (match a0 with
  |[]=>.unroll 1<|
  .grd (a0.length=0)<|
  .both
   (.ret nl)
   (.conv 3000 (czi 3 azy ([]:Ab) 58)<|
   .conv 3002 (ezf 3 azy ([]:Ab) a0 58)<|
   .grd ((([]:Ab).length+a0.length) * 40≤140737488355328/\(([]:Ab).length+a0.length)≤maxLen)<|
   .ret (([]:Ab)++a0))
  |_::_=>.grd (0<a0.length)<|
  .conv 3000 (czi 3 azy ([]:Ab) 58)<|
  .conv 3002 (ezf 3 azy ([]:Ab) a0 58)<|
  .grd ((([]:Ab).length+a0.length) * 40≤140737488355328/\(([]:Ab).length+a0.length)≤maxLen)<|
  .ret (([]:Ab)++a0))
noncomputable def fz5 (a0:Ab):CallS Ab:=
 mkH [] hd Tryz.func122 (by kernel_rfl) (dze a0) 0 [.pure (encL 3 azy a0)] [] (fun _=>.vec 0) (fun r=>[(0,vecO 3 azy r 58)]) (by cases a0<;>exact Ob.of_side (by kernel_rfl))
noncomputable def eza (a0:Av):T Av:=
 (match a0 with
  |[]=>.unroll 1<|
  .grd (a0.length=0)<|
  .both
   (.ret nl)
   (.conv 3000 (czi 3 az1 ([]:Av) 78)<|
   .conv 3002 (ezf 3 az1 ([]:Av) a0 78)<|
   .grd ((([]:Av).length+a0.length) * 24≤140737488355328/\(([]:Av).length+a0.length)≤maxLen)<|
   .ret (([]:Av)++a0))
  |_::_=>.grd (0<a0.length)<|
  .conv 3000 (czi 3 az1 ([]:Av) 78)<|
  .conv 3002 (ezf 3 az1 ([]:Av) a0 78)<|
  .grd ((([]:Av).length+a0.length) * 24≤140737488355328/\(([]:Av).length+a0.length)≤maxLen)<|
  .ret (([]:Av)++a0))
noncomputable def ez9 (a0:Av):CallS Av:=
 mkH [] hd Tryz.func123 (by kernel_rfl) (eza a0) 0 [.pure (encL 3 az1 a0)] [] (fun r=>.pure (encL 3 az1 r)) (fun _=>[]) (by cases a0<;>exact Ob.of_side (by kernel_rfl))
noncomputable def hza (c:azi):T azi:=let d:Nat×Res:=(0,.box [pz c.Kind,.vec 1,pz c.At.Depth,pz c.At.Index,.pure (encL 3 az1 c.At.Normals),pz c.Witness.Pair,.pure (encL 1 az3 c.Witness.Left),.pure (encL 1 az3 c.Witness.Right)]);.cc (fz5 c.Pieces) fun e=>let f:=(e.length:Nat);
 .unroll 998<|
 .loop (fun (g:(Ab×Int))=>⟨[(1,.ptr 0 0),(2,.ptr 2 0),(10,.vec 1),(11,pz (f:Int)),(12,pz g.2)],[d,(1,vecO 3 azy g.1 58),(2,.box [pz 0,.vec 3,pz 0,pz 0,.vec 4,pz 0,.vec 5,.vec 6]),(3,.nilv),(4,.nilv),(5,.nilv),(6,.nilv)],[],7⟩)
 (.exit 0) (fun (g:Ab)=>⟨[(1,.ptr 0 0),(2,.ptr 2 0)],[d,(1,vecO 3 azy g 58),(2,.box [pz 0,.vec 3,pz 0,pz 0,.vec 4,pz 0,.vec 5,.vec 6]),(3,.nilv),(4,.nilv),(5,.nilv),(6,.nilv)],[],7⟩)
 (fun g=>let h:=(g.2).toNat;let i:=g.1.getD h default;.br (decide (g.2<(f:Int)))
 (.gg g.2 g.1.length<|
 .cc (ez9 (i.Normals)) fun j=>let k:=(⟨i.Depth,i.Index,j⟩:azk);
 .gh g.2 g.1.length<|
 .conv 5008 (fzg 3 azy g.1 58 h k)<|
 .gi (g.2) g.1.length<|
 .nn ((g.1.set h k),(i64.wrap (g.2+1))))
 (.oo g.1))
 (e,0) [] fun g=>
 .cc (ez9 c.At.Normals) fun h=>
 .cc (czk c.Witness.Left) fun i=>
 .cc (czk c.Witness.Right) fun j=>
 .ret (⟨c.Kind,g,(⟨c.At.Depth,c.At.Index,h⟩:azk),(⟨c.Witness.Pair,i,j⟩:bz1)⟩:azi)
noncomputable def ez8 (c):=
 mkD Tryz.func97 (hza c) 0 [.pure (dzg c)] [] (fun r=>.pure (dzg r)) (fun _=>[])
noncomputable def pzh (c:az9):T A8:=
 .cc (hzu c.Points) fun d=>let e:=(d.length:Nat);
 .cc (dz6 c.Edges) fun f=>let g:=(f.length:Nat);
 .loop (fun (h:A9)=>⟨[(2,.ptr 0 0),(3,.vec 3),(4,.vec 4),(15,.vec 3),(16,pz (e:Int)),(17,pz h.2)],[(0,.box [.vec 1,.vec 2]),(1,.nilv),(2,.nilv),(3,vecO 1 (encL 1 az3) h.1 59),(4,vecO 12 az5 f 65)],[],5⟩)
 (.exit 0) (fun (h:A1)=>⟨[(2,.ptr 0 0),(3,.vec 3),(4,.vec 4)],[(0,.box [.vec 1,.vec 2]),(1,.nilv),(2,.nilv),(3,vecO 1 (encL 1 az3) h 59),(4,vecO 12 az5 f 65)],[],5⟩)
 (fun h=>let i:=(h.2).toNat;.br (decide (h.2<(e:Int)))
 (.gg h.2 h.1.length<|
 .cc (czk (h.1.getD i default)) fun j=>
 .gh h.2 h.1.length<|
 .conv 5005 (fzg 1 (encL 1 az3) h.1 59 i j)<|
 .gi (h.2) h.1.length<|
 .nn ((h.1.set i j),(i64.wrap (h.2+1))))
 (.oo h.1))
 (d,0) [] fun h=>
 .loop (fun (i:Aa)=>⟨[(2,.ptr 0 0),(3,.vec 3),(4,.vec 4),(28,.vec 4),(29,pz (g:Int)),(30,pz i.2)],[(0,.box [.vec 1,.vec 2]),(1,.nilv),(2,.nilv),(3,vecO 1 (encL 1 az3) h 59),(4,vecO 12 az5 i.1 65)],[],5⟩)
 (.exit 2) (fun (i:A7)=>⟨[(2,.ptr 0 0),(3,.vec 3),(4,.vec 4)],[(0,.box [.vec 1,.vec 2]),(1,.nilv),(2,.nilv),(3,vecO 1 (encL 1 az3) h 59),(4,vecO 12 az5 i 65)],[],5⟩)
 (fun i=>let j:=(i.2).toNat;let k:=i.1.getD j default;.br (decide (i.2<(g:Int)))
 (.gg i.2 i.1.length<|
 .cc (ez8 (k.Proof)) fun m=>let n:=(⟨k.U,k.V,k.Cost,k.State,m⟩:az4);
 .gh i.2 i.1.length<|
 .conv 10007 (fzg 12 az5 i.1 65 j n)<|
 .gi (i.2) i.1.length<|
 .nn ((i.1.set j n),(i64.wrap (i.2+1))))
 (.oo i.1))
 (f,0) [] fun i=>
 .ret (h,i)
noncomputable def yzf (c):=
 mkD Tryz.func95 (pzh c) 0 [.pure (bz7 c)] [] (fun _=>.agg [.vec 0,.vec 1]) (fun r=>[(0,vecO 1 (encL 1 az3) r.1 59),(1,vecO 12 az5 r.2 65)])
noncomputable def Kzr (c:Int):T Int:=
 .br (c==1)
 (.ret 1)
 (.br (c==2)
 (.ret 2)
 (.ret 0))
noncomputable def izg (c):=
 mkD Tryz.func96 (Kzr c) 0 [pz c] [] (fun r=>pz r) (fun _=>[])
set_option maxHeartbeats 8000000 in
set_option maxRecDepth 20000 in
noncomputable def szj (c:az9)(d:Int)(e:azi):T As:=let f:=d.toNat;let g:=encL 3 azy e.Pieces;let h:=encL 3 az1 e.At.Normals;let i:=c.Edges.getD f default;let j:=encL 1 az3 e.Witness.Left;let k:=encL 1 az3 e.Witness.Right;let m:Nat×Res:=(0,.box [pz e.Kind,.pure g,pz e.At.Depth,pz e.At.Index,.pure h,pz e.Witness.Pair,.pure j,.pure k]);.cc (yzf (⟨c.Points,c.Edges⟩:az9)) fun n=>let q:=n.2.getD f default;
 .cut 1 (fun (s:Bool)=>⟨[(1,pz d),(3,.ptr 0 0),(5,.ptr 1 0),(6,.ptr 2 0),(7,.ptr 5 0),(22,.pure (.bool s))],[(0,.box [.pure (encL 1 (encL 1 az3) c.Points),.pure (encL 12 az5 c.Edges)]),(1,.box [pz e.Kind,.pure g,pz e.At.Depth,pz e.At.Index,.pure h,pz e.Witness.Pair,.pure j,.pure k]),(2,.box [.vec 3,.vec 4]),(3,vecO 1 (encL 1 az3) n.1 59),(4,vecO 12 az5 n.2 65),(5,.box [.ff])],[.func 94 [] [.ptr 2 0,.ptr 5 0]],6⟩)
 (.br (decide (d<0))
 (.oo true)
 (.oo (decide (d≥(c.Edges.length:Int))))) fun s=>
 .br s
 (.ret (n.1,n.2,false))
 (.gh d c.Edges.length<|
 .cut 0 (fun (t:Bool)=>⟨[(1,pz d),(5,.ptr 0 0),(6,.ptr 1 0),(7,.ptr 4 0),(35,.pure (.bool t))],[m,(1,.box [.vec 2,.vec 3]),(2,vecO 1 (encL 1 az3) n.1 59),(3,vecO 12 az5 n.2 65),(4,.box [.ff])],[.func 94 [] [.ptr 1 0,.ptr 4 0]],5⟩)
 (.br ((i.State)==1)
 (.oo true)
 (.oo ((i.State)==2))) fun t=>
 .br t
 (.ret (n.1,n.2,false))
 (.conv 8000 (czi 1 az3 ([1,2,3]:A0) 3)<|
 .loop (fun (w:Int)=>⟨[(1,pz d),(5,.ptr 0 0),(6,.ptr 1 0),(7,.ptr 4 0),(37,.vec 5),(38,pz ((([1,2,3]:A0).length:Nat):Int)),(39,pz w)],[m,(1,.box [.vec 2,.vec 3]),(2,vecO 1 (encL 1 az3) n.1 59),(3,vecO 12 az5 n.2 65),(4,.box [.ff]),(5,vecO 1 az3 ([1,2,3]:A0) 3)],[.func 94 [] [.ptr 1 0,.ptr 4 0]],6⟩)
 (.exit 0) (fun (_:U0)=>⟨[(6,.ptr 0 0),(7,.ptr 3 0)],[(0,.box [.vec 1,.vec 2]),(1,vecO 1 (encL 1 az3) n.1 59),(2,vecO 12 az5 n.2 65),(3,.box [.ff])],[.func 94 [] [.ptr 0 0,.ptr 3 0]],4⟩)
 (fun w=>let y:=([1,2,3]:A0).getD (w.toNat) default;let z:=(⟨q.U,q.V,q.Cost,y,q.Proof⟩:az4);let aa:=n.2.set f z;let ab:=aa.getD f default;.br (decide (w<((([1,2,3]:A0).length:Nat):Int)))
 (.gg w (([1,2,3]:A0).length)<|
 .cc (izg y) fun ac=>
 .br (ac==e.Kind)
 (.gh d n.2.length<|
 .conv 12006 (fzg 12 az5 n.2 65 f z)<|
 .gi (d) n.2.length<|
 .cc (ez8 e) fun ad=>let ae:=(⟨ab.U,ab.V,ab.Cost,ab.State,ad⟩:az4);
 .gh d (aa.length)<|
 .conv 13007 (fzg 12 az5 aa 65 f ae)<|
 .gi (d) (aa.length)<|
 .ff (n.1,(aa.set f ae),true))
 (.nn (i64.wrap (w+1))))
 (.oo .u))
 0 [] fun _=>
 .ret (n.1,n.2,false)))
noncomputable def Azg (c)(d)(e):=
 mkC [⟨94,Xzi⟩] hd Tryz.func66 (by kernel_rfl) (szj c d e) 0 [.pure (bz7 c),pz d,.pure (dzg e)] [] (fun r=>.tup [.agg [.vec 0,.vec 1],.pure (.bool r.2.2)]) (fun r=>[(0,vecO 1 (encL 1 az3) r.1 59),(1,vecO 12 az5 r.2.1 65)]) (by kernel_rfl)
noncomputable def kzj (c:az9):T A8:=
 .cc (Azg (⟨c.Points,c.Edges⟩:az9) (-1) (⟨0,nl,(⟨0,0,nl⟩:azk),(⟨0,nl,nl⟩:bz1)⟩:azi)) fun d=>
 .unroll 998<|
 .ret (d.1,d.2.1)
noncomputable def qzv (c):=
 mkD Tryz.func38 (kzj c) 0 [.pure (bz7 c)] [] (fun _=>.agg [.vec 0,.vec 1]) (fun r=>[(0,vecO 1 (encL 1 az3) r.1 59),(1,vecO 12 az5 r.2 65)])
noncomputable def nzk (c:Int):T Bool:=
 .br (decide (97≤c))
 (.ret (decide (c≤122)))
 (.ret false)
noncomputable def wz8 (c):=
 mkD Tryz.func162 (nzk c) 0 [.pure (.int .i32 c)] [] (fun r=>.pure (.bool r)) (fun _=>[])
noncomputable def pzu (c:Int):T Bool:=
 .br (decide (48≤c))
 (.ret (decide (c≤57)))
 (.ret false)
noncomputable def yzt (c):=
 mkD Tryz.func163 (pzu c) 0 [.pure (.int .i32 c)] [] (fun r=>.pure (.bool r)) (fun _=>[])
noncomputable def yzs (c:ByteArray):T Bool:=let d:=(c.size:Nat);.cut 2 (fun (e:Bool)=>⟨[(0,.pure (.str c)),(16,.pure (.bool e))],[],[],0⟩)
 (.br ((d:Int)==0)
 (.oo true)
 (.br (decide ((d:Int)>16))
 (.oo true)
 (.oo (c==(⟨#[119,111,114,108,100]⟩:ByteArray))))) fun e=>
 .br e
 (.ret false)
 (.loop (fun (f:Nat)=>⟨[(18,.ptr 0 0)],[(0,.iter c f)],[],1⟩)
 (.exit 0) (fun (_:U0)=>⟨[],[],[],0⟩)
 (fun f=>let g:=Utf8.decode c f;let h:=(g.1:Int);.brP (f<c.size)
 (.cut 2 (fun (i:Bool)=>⟨[(18,.ptr 0 0),(38,.pure (.bool i))],[(0,.iter c (f+g.2))],[],1⟩)
 (.cc (wz8 h) fun i=>
 .br (!i)
 (.br ((f:Int)==0)
 (.oo true)
 (.cc (yzt h) fun j=>
 .br (!j)
 (.oo (h !=95))
 (.oo false)))
 (.oo false)) fun i=>
 .br i
 (.ff false)
 (.nn (f+g.2)))
 (.oo .u))
 0 [] fun _=>
 .ret true)
noncomputable def Gzc (c):=
 mkD Tryz.func124 (yzs c) 0 [.pure (.str c)] [] (fun r=>.pure (.bool r)) (fun _=>[])
noncomputable def yzh (c:azl)(d:ByteArray):T Int:=let e:=(c.Joints.length:Nat);.loop (fun (f:Int)=>⟨[(1,.pure (.str d)),(2,.ptr 0 0),(8,pz (e:Int)),(9,pz f)],[(0,.box [.pure (encL 12 azd c.Joints),.pure (encL 5 azj c.Masses)])],[],1⟩)
 (.exit 0) (fun (_:U0)=>⟨[],[],[],0⟩)
 (fun f=>.br (decide (f<(e:Int)))
 (.gh f c.Joints.length<|
 .br (((c.Joints.getD (f.toNat) default).Name)==d)
 (.ff f)
 (.nn (i64.wrap (f+1))))
 (.oo .u))
 0 [] fun _=>
 .ret (-1)
noncomputable def Gz7 (c)(d):=
 mkD Tryz.func125 (yzh c d) 0 [.pure (czp c),.pure (.str d)] [] (fun r=>pz r) (fun _=>[])
noncomputable def szl (c:Au):T Bool:=
 .loop (fun (d:Int)=>⟨[(5,.pure (az1 c)),(6,pz d)],[],[],0⟩)
 (.exit 0) (fun (_:U0)=>⟨[],[],[],0⟩)
 (fun d=>let e:=([c.1,c.2.1,c.2.2]:List Int).getD d.toNat 0;.br (decide (d<3))
 (.gh d 3<|
 .cut 0 (fun (f:Bool)=>⟨[(5,.pure (az1 c)),(6,pz d),(14,.pure (.bool f))],[],[],0⟩)
 (.br (decide (e<(-4194304)))
 (.oo true)
 (.oo (decide (e>4194304)))) fun f=>
 .br f
 (.ff true)
 (.nn (i64.wrap (d+1))))
 (.oo .u))
 0 [] fun _=>
 .ret false
noncomputable def szk (c):=
 mkD Tryz.func126 (szl c) 0 [.pure (az1 c)] [] (fun r=>.pure (.bool r)) (fun _=>[])
noncomputable def vz6 (c:Int):T Int:=
 .cut 3 (fun (d:Bool)=>⟨[(3,pz c),(4,.pure (.bool d))],[],[],0⟩)
 (.br (c==1)
 (.oo (c==1))
 (.br (c==2)
 (.oo (c==2))
 (.oo (c==3)))) fun d=>
 .br d
 (.ret 524288)
 (.cut 0 (fun (e:Bool)=>⟨[(8,.pure (.bool e))],[],[],0⟩)
 (.br (c==4)
 (.oo (c==4))
 (.br (c==5)
 (.oo (c==5))
 (.oo (c==6)))) fun e=>
 .br e
 (.ret 4194304)
 (.ret 0))
noncomputable def Dzb (c):=
 mkD Tryz.func127 (vz6 c) 0 [pz c] [] (fun r=>pz r) (fun _=>[])
noncomputable def vz5 (c:Int)(d:Int):T Bool:=
 .br (decide (1≤c))
 (.ret (decide (c≤d)))
 (.ret false)
noncomputable def hzq (c)(d):=
 mkD Tryz.func128 (vz5 c d) 0 [pz c,pz d] [] (fun r=>.pure (.bool r)) (fun _=>[])
end Go.Abs
