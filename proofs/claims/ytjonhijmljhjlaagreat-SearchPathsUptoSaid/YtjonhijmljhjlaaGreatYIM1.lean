import Derived.Test.YtjonhijmljhjlaaGreatYIRngF
import Derived.Test.YtjonhijmljhjlaaGreatYILend
import Derived.Test.YtjonhijmljhjlaaGreatChecked
open Decidable renaming decide->qx
open Go.IntKind renaming i64->qv
open Inhabited renaming default->qw
open List renaming replicate->qu
open Int renaming toNat->XI
noncomputable section
set_option maxHeartbeats 8000000
set_option maxRecDepth 20000
namespace Go.Abs
open Go.Proofs
noncomputable abbrev XJ (x:Bool):AVal:=.pure (.bool x)
noncomputable abbrev XK {α:Type}[Inhabited α](n:Nat)(e:α->PVal)(l:List α):AVal:=.pure (encL n e l)
noncomputable abbrev XL {α β:Type}:α->List β:=λ_=>[]
noncomputable abbrev XM (i:Nat):AVal:=.ptr i 0
abbrev XN:U0->St:=λ_=>⟨[],[],[],0⟩
noncomputable abbrev pz (x:Int):AVal:=.pure (.int .i64 x)
theorem hd:gz2 Tryz.prog az9l:=Zzu (by kernel_rfl)
noncomputable abbrev mkD {R:Type}{f:FuncId}{fn:Func}(hf:Tryz.prog.funcs[f]?=some fn)(t:T R)(k:Nat)(args:List AVal)(m:Mem)(res:R->AVal)(m1:R->Mem)(hb:(fn.body.isSome&& !(fn.name== "runtime.NumGoroutine"))=true:=by kernel_rfl)(h:(Bzj Tryz.prog [] az9l fn (fn.body.getD .skip) k k t args m res m1).side true=(Bzj Tryz.prog [] az9l fn (fn.body.getD .skip) k k t args m res m1).side false:=by kernel_rfl):CallS R:=mkC [] hd hf hb t k args m res m1 h
noncomputable abbrev T.jW {R:Type}(k:T R):T R:=.ix 0 3 rfl k
noncomputable abbrev T.jX {R:Type}(k:T R):T R:=.ix 1 3 rfl k
noncomputable abbrev T.jY {R:Type}(k:T R):T R:=.ix 2 3 rfl k
noncomputable abbrev T.jZ {R:Type}(k:T R):T R:=.ix 1 11 rfl k
noncomputable abbrev T.j8 {R:Type}(k:T R):T R:=.ix 2 11 rfl k
noncomputable abbrev T.j9 {R:Type}(k:T R):T R:=.ix 3 11 rfl k
noncomputable abbrev T.ka {R:Type}(k:T R):T R:=.ix 4 11 rfl k
noncomputable abbrev T.kc {R:Type}(k:T R):T R:=.ix 5 11 rfl k
noncomputable abbrev T.kd {R:Type}(k:T R):T R:=.ix 6 11 rfl k
noncomputable abbrev T.ke {R:Type}(k:T R):T R:=.ix 7 11 rfl k
noncomputable abbrev T.kg {R:Type}(k:T R):T R:=.ix 8 11 rfl k
noncomputable abbrev T.kh {R:Type}(k:T R):T R:=.known true k
noncomputable abbrev T.ki {R:Type}(k:T R):T R:=.known false k
noncomputable abbrev T.kj {R:Type}(r:R):T R:=.ret r
noncomputable abbrev T.gg {R:Type}(i:Int)(n:Nat)(k:T R):T R:=.grd (0<=i/\i<(n:Int)) (.grd (i.toNat<n) k)
noncomputable abbrev T.gh {R:Type}(i:Int)(n:Nat)(k:T R):T R:=.grd (0<=i/\i<(n:Int)) k
noncomputable abbrev T.gi {R:Type}(i:Int)(n:Nat)(k:T R):T R:=.grd (i.toNat<n/\0<=i.toNat) k
noncomputable abbrev T.oo {σ τ R:Type}(y:τ):T (Step3 σ τ R):=.ret (.out y)
noncomputable abbrev T.nn {σ τ R:Type}(x:σ):T (Step3 σ τ R):=.ret (.next x)
noncomputable abbrev T.ff {σ τ R:Type}(r:R):T (Step3 σ τ R):=.ret (.fin r)
noncomputable abbrev T.cc {R α:Type}(c:CallS α)(k:α->T R):T R:=.call c [] k
structure azz where
 XA:ByteArray
 Xm:Int
 Xt:Int
 Xw:(Int×Int×Int)
 Lo:Int
 Hi:Int
 XB:Int
 XF:Int
 XG:Int
 XE:Int
instance:Inhabited azz:=⟨⟨qw,qw,qw,qw,qw,qw,qw,qw,qw,qw⟩⟩
structure cz6 where
 Xp:Int
 XH:Int
 XD:(Int×Int×Int)
instance:Inhabited cz6:=⟨⟨qw,qw,qw⟩⟩
structure azo where
 Xb:(List azz)
 Xh:(List cz6)
instance:Inhabited azo:=⟨⟨qw,qw⟩⟩
structure bz7 where
 Xp:Int
 Xs:Int
 Xc:(List (Int×Int×Int))
instance:Inhabited bz7:=⟨⟨qw,qw,qw⟩⟩
structure gz3 where
 A:Int
 B:Int
instance:Inhabited gz3:=⟨⟨qw,qw⟩⟩
structure azd where
 Xf:azo
 Xd:(List bz7)
 Xj:(List gz3)
instance:Inhabited azd:=⟨⟨qw,qw,qw⟩⟩
structure az8 where
 Xg:Int
 Xk:Int
 Xe:(List (Int×Int×Int))
instance:Inhabited az8:=⟨⟨qw,qw,qw⟩⟩
structure bzj where
 XC:Int
 Left:(List Int)
 Xv:(List Int)
instance:Inhabited bzj:=⟨⟨qw,qw,qw⟩⟩
structure azr where
 Xm:Int
 Xo:(List az8)
 At:az8
 Xl:bzj
instance:Inhabited azr:=⟨⟨qw,qw,qw,qw⟩⟩
structure az4 where
 U:Int
 V:Int
 Xi:Int
 Xr:Int
 Xn:azr
instance:Inhabited az4:=⟨⟨qw,qw,qw,qw,qw⟩⟩
structure aze where
 Xc:(List (List Int))
 Xa:(List az4)
instance:Inhabited aze:=⟨⟨qw,qw⟩⟩
structure bzy where
 Xq:(List Int)
 Xi:Int
instance:Inhabited bzy:=⟨⟨qw,qw⟩⟩
structure azj where
 to:Int
 cost:Int
instance:Inhabited azj:=⟨⟨qw,qw⟩⟩
structure azm where
 cost:Int
 points:Int
instance:Inhabited azm:=⟨⟨qw,qw⟩⟩
structure azv where
 rank:azm
 point:Int
instance:Inhabited azv:=⟨⟨qw,qw⟩⟩
structure Pz6 where
 list:(List Int)
 next:Int
instance:Inhabited Pz6:=⟨⟨qw,qw⟩⟩
structure bz0 where
 depth:Int
 index:Int
 hints:(List (Int×Int×Int))
instance:Inhabited bz0:=⟨⟨qw,qw,qw⟩⟩
structure az0 where
 Lo:Int
 Hi:Int
instance:Inhabited az0:=⟨⟨qw,qw⟩⟩
structure bz4 where
 points:(List (az0×az0×az0))
 radius:Int
instance:Inhabited bz4:=⟨⟨qw,qw⟩⟩
structure bz2 where
 R:((az0×az0×az0)×(az0×az0×az0)×(az0×az0×az0))
 T:(az0×az0×az0)
instance:Inhabited bz2:=⟨⟨qw,qw⟩⟩
structure czg where
 A:Int
 B:Int
instance:Inhabited czg:=⟨⟨qw,qw⟩⟩
structure dzl where
 Xm:Int
 Xe:(List (Int×Int×Int))
 Xl:bzj
instance:Inhabited dzl:=⟨⟨qw,qw,qw⟩⟩
structure dzk where
 Xm:Int
 Xx:(Int×Int×Int)
 Left:(List Int)
 Xv:(List Int)
 Steps:Int
instance:Inhabited dzk:=⟨⟨qw,qw,qw,qw,qw⟩⟩
structure azh where
 Xi:Int
 Xa:Int
instance:Inhabited azh:=⟨⟨qw,qw⟩⟩
structure cza where
 Xg:Int
 Xk:Int
 Xu:(List Int)
instance:Inhabited cza:=⟨⟨qw,qw,qw⟩⟩
structure azi where
 Xz:(List (Int×Int×Int))
 Xy:(List cza)
instance:Inhabited azi:=⟨⟨qw,qw⟩⟩
structure bzu where
 Xc:(List (List Int))
 Xa:(List azi)
instance:Inhabited bzu:=⟨⟨qw,qw⟩⟩
structure ezw where
 scene:azd
 depth:Int
instance:Inhabited ezw:=⟨⟨qw,qw⟩⟩
structure czk where
 shapes:(List bz7)
 pairs:(List czg)
 points:(List (List (az0×az0×az0)))
instance:Inhabited czk:=⟨⟨qw,qw,qw⟩⟩
structure gz4 where
 a:(List (az0×az0×az0))
 b:(List (az0×az0×az0))
 ra:Int
 rb:Int
instance:Inhabited gz4:=⟨⟨qw,qw,qw,qw⟩⟩
structure fzm where
 points:(List (az0×az0×az0))
 radius:Int
instance:Inhabited fzm:=⟨⟨qw,qw⟩⟩
structure dzt where
 a:fzm
 b:fzm
instance:Inhabited dzt:=⟨⟨qw,qw⟩⟩
structure szl where
 points:(List (Int×Int×Int))
 weights:(List Int)
instance:Inhabited szl:=⟨⟨qw,qw⟩⟩
structure Cza where
 list:szl
instance:Inhabited Cza:=⟨⟨qw⟩⟩
structure yzt where
 list:szl
instance:Inhabited yzt:=⟨⟨qw⟩⟩
structure Kza where
 left:Cza
 right:yzt
 normal:(Int×Int×Int)
 rounds:Int
instance:Inhabited Kza:=⟨⟨qw,qw,qw,qw⟩⟩
structure ezu where
 witness:bzj
instance:Inhabited ezu:=⟨⟨qw⟩⟩
structure cz1 where
 normals:(List (Int×Int×Int))
instance:Inhabited cz1:=⟨⟨qw⟩⟩
structure bzg where
 scene:azd
 p:(List Int)
 q:(List Int)
 pieces:(List az8)
instance:Inhabited bzg:=⟨⟨qw,qw,qw,qw⟩⟩
abbrev A0:=List az8
abbrev A1:=List Int
abbrev A2:=List A1
abbrev A3:=List az4
abbrev A4:=List azj
abbrev A5:=List A4
abbrev A6:=List azv
abbrev A7:=List azm
abbrev A8:=A1×Int
abbrev A9:=List azz
abbrev Aa:=List cz6
abbrev Ab:=List bz7
abbrev Ac:=List gz3
abbrev Ad:=A2×Int
abbrev Ae:=A3×Int
abbrev Af:=List az0
abbrev Ag:=List bz2
abbrev Ah:=List czg
abbrev Ai:=Ah×Int
abbrev Aj:=List bz4
abbrev Ak:=List bz0
abbrev Al:=List azh
abbrev Am:=A0×Int
abbrev An:=List cza
abbrev Ao:=List azi
abbrev Ap:=Ao×Int
abbrev Aq:=An×Int
abbrev Ar:=Int×Int
abbrev As:=Al×Bool
abbrev Au:=Int×Bool
abbrev Av:=A1×Int×Ab
abbrev Aw:=A1×Int×Int
abbrev Ax:=Int×Int×Int
abbrev Ay:=List Ax
abbrev Az:=Ay×An
abbrev B0:=Ay×Int
abbrev B2:=List (Ax×Int)
abbrev B3:=Ax×Bool
abbrev B4:=az0×az0×az0
abbrev B5:=List B4
abbrev B6:=List B5
abbrev B7:=B4×B4×B4
abbrev B8:=Int×Int×Bool
abbrev B9:=Bool×Bool×Ax
abbrev Ba:=A1×Int×Ab×Int
abbrev Bb:=A1×Int×A1×Int
abbrev Bc:=A0×Int×Int×Ay
abbrev Bd:=Int×Int×Int×Int
abbrev Be:=Int×Int×Int×Int×Int
abbrev Bf:=Int×Int×Int×Int×Int×Int
abbrev Bg:=Bool×Ax×B5×B5×Int×Int×Ay
abbrev Bh:=Int×Int×Int×Int×Int×Int×Int
abbrev Bi:=Int×Int×Int×Int×Int×Int×Int×Int×Int×Int×Int
abbrev Bj:=Bool×A0×Int×A0×Int×Int×Ay×Int×A1×A1×A1×A1×A9×Aa×Ab×Ac×Int
abbrev Bk:=Int×Int×Int×Int×Int×Int×Int×Int×Int×Int×Int×Int×Int×Int×Int×Int×Int×Int×Int×Int×Int×Int×Int×Int
def azc (v:azz):PVal:=.agg [.str v.XA,.int .i64 v.Xm,.int .i64 v.Xt,.int .i64 v.Xw.1,.int .i64 v.Xw.2.1,.int .i64 v.Xw.2.2,.int .i64 v.Lo,.int .i64 v.Hi,.int .i64 v.XB,.int .i64 v.XF,.int .i64 v.XG,.int .i64 v.XE]
def azf (v:cz6):PVal:=.agg [.int .i64 v.Xp,.int .i64 v.XH,.int .i64 v.XD.1,.int .i64 v.XD.2.1,.int .i64 v.XD.2.2]
def czq (v:azo):PVal:=.agg [encL 12 azc v.Xb,encL 5 azf v.Xh]
def az1 (v:Ax):PVal:=.agg [.int .i64 v.1,.int .i64 v.2.1,.int .i64 v.2.2]
def azk (v:bz7):PVal:=.agg [.int .i64 v.Xp,.int .i64 v.Xs,encL 3 az1 v.Xc]
def azu (v:gz3):PVal:=.agg [.int .i64 v.A,.int .i64 v.B]
def bzh (v:azd):PVal:=.agg [encL 12 azc v.Xf.Xb,encL 5 azf v.Xf.Xh,encL 3 azk v.Xd,encL 2 azu v.Xj]
def azl (v:az8):PVal:=.agg [.int .i64 v.Xg,.int .i64 v.Xk,encL 3 az1 v.Xe]
def nz2 (v:azr):PVal:=.agg [.int .i64 v.Xm,encL 3 azl v.Xo,.int .i64 v.At.Xg,.int .i64 v.At.Xk,encL 3 az1 v.At.Xe,.int .i64 v.Xl.XC,encL 1 az2 v.Xl.Left,encL 1 az2 v.Xl.Xv]
def az9 (v:az4):PVal:=.agg [.int .i64 v.U,.int .i64 v.V,.int .i64 v.Xi,.int .i64 v.Xr,.int .i64 v.Xn.Xm,encL 3 azl v.Xn.Xo,.int .i64 v.Xn.At.Xg,.int .i64 v.Xn.At.Xk,encL 3 az1 v.Xn.At.Xe,.int .i64 v.Xn.Xl.XC,encL 1 az2 v.Xn.Xl.Left,encL 1 az2 v.Xn.Xl.Xv]
def bzn (v:aze):PVal:=.agg [encL 1 (encL 1 az2) v.Xc,encL 12 az9 v.Xa]
def nzn (v:bzy):PVal:=.agg [encL 1 az2 v.Xq,.int .i64 v.Xi]
def bz6 (v:azj):PVal:=.agg [.int .i64 v.to,.int .i64 v.cost]
def bzr (v:azm):PVal:=.agg [.int .i64 v.cost,.int .i64 v.points]
def bz1 (v:azv):PVal:=.agg [.int .i64 v.rank.cost,.int .i64 v.rank.points,.int .i64 v.point]
def hzu (v:bz0):PVal:=.agg [.int .i64 v.depth,.int .i64 v.index,encL 3 az1 v.hints]
def azb (v:az0):PVal:=.agg [.int .i64 v.Lo,.int .i64 v.Hi]
def az3 (v:B4):PVal:=.agg [.int .i64 v.1.Lo,.int .i64 v.1.Hi,.int .i64 v.2.1.Lo,.int .i64 v.2.1.Hi,.int .i64 v.2.2.Lo,.int .i64 v.2.2.Hi]
def bzl (v:bz4):PVal:=.agg [encL 6 az3 v.points,.int .i64 v.radius]
def bzz (v:bz2):PVal:=.agg [.int .i64 v.R.1.1.Lo,.int .i64 v.R.1.1.Hi,.int .i64 v.R.1.2.1.Lo,.int .i64 v.R.1.2.1.Hi,.int .i64 v.R.1.2.2.Lo,.int .i64 v.R.1.2.2.Hi,.int .i64 v.R.2.1.1.Lo,.int .i64 v.R.2.1.1.Hi,.int .i64 v.R.2.1.2.1.Lo,.int .i64 v.R.2.1.2.1.Hi,.int .i64 v.R.2.1.2.2.Lo,.int .i64 v.R.2.1.2.2.Hi,.int .i64 v.R.2.2.1.Lo,.int .i64 v.R.2.2.1.Hi,.int .i64 v.R.2.2.2.1.Lo,.int .i64 v.R.2.2.2.1.Hi,.int .i64 v.R.2.2.2.2.Lo,.int .i64 v.R.2.2.2.2.Hi,.int .i64 v.T.1.Lo,.int .i64 v.T.1.Hi,.int .i64 v.T.2.1.Lo,.int .i64 v.T.2.1.Hi,.int .i64 v.T.2.2.Lo,.int .i64 v.T.2.2.Hi]
def dzy (v:czg):PVal:=.agg [.int .i64 v.A,.int .i64 v.B]
def wz2 (v:dzl):PVal:=.agg [.int .i64 v.Xm,encL 3 az1 v.Xe,.int .i64 v.Xl.XC,encL 1 az2 v.Xl.Left,encL 1 az2 v.Xl.Xv]
def Kzx (v:dzk):PVal:=.agg [.int .i64 v.Xm,.int .i64 v.Xx.1,.int .i64 v.Xx.2.1,.int .i64 v.Xx.2.2,encL 1 az2 v.Left,encL 1 az2 v.Xv,.int .i64 v.Steps]
def bz5 (v:azh):PVal:=.agg [.int .i64 v.Xi,.int .i64 v.Xa]
def kze (v:Ar):PVal:=.agg [.int .i64 v.1,.int .i64 v.2]
def bzo (v:cza):PVal:=.agg [.int .i64 v.Xg,.int .i64 v.Xk,encL 1 az2 v.Xu]
def azn (v:azi):PVal:=.agg [encL 3 az1 v.Xz,encL 3 bzo v.Xy]
def kzd (v:bzu):PVal:=.agg [encL 1 (encL 1 az2) v.Xc,encL 2 azn v.Xa]
def qz4 (v:ezw):PVal:=.agg [encL 12 azc v.scene.Xf.Xb,encL 5 azf v.scene.Xf.Xh,encL 3 azk v.scene.Xd,encL 2 azu v.scene.Xj,.int .i64 v.depth]
def mz6 (v:czk):PVal:=.agg [encL 3 azk v.shapes,encL 2 dzy v.pairs,encL 1 (encL 6 az3) v.points]
def Kzy (v:Bd):PVal:=.agg [.int .i64 v.1,.int .i64 v.2.1,.int .i64 v.2.2.1,.int .i64 v.2.2.2]
def Dzn (v:gz4):PVal:=.agg [encL 6 az3 v.a,encL 6 az3 v.b,.int .i64 v.ra,.int .i64 v.rb]
def Nz5 (v:fzm):PVal:=.agg [encL 6 az3 v.points,.int .i64 v.radius]
def qz5 (v:dzt):PVal:=.agg [encL 6 az3 v.a.points,.int .i64 v.a.radius,encL 6 az3 v.b.points,.int .i64 v.b.radius]
def yzq (v:ezu):PVal:=.agg [.int .i64 v.witness.XC,encL 1 az2 v.witness.Left,encL 1 az2 v.witness.Xv]
def gzn (v:cz1):PVal:=.agg [encL 3 az1 v.normals]
def fzz (v:bzg):PVal:=.agg [encL 12 azc v.scene.Xf.Xb,encL 5 azf v.scene.Xf.Xh,encL 3 azk v.scene.Xd,encL 2 azu v.scene.Xj,encL 1 az2 v.p,encL 1 az2 v.q,encL 3 azl v.pieces]
def azx (v:Ax):List PVal:=[.int .i64 v.1,.int .i64 v.2.1,.int .i64 v.2.2]
def bzp (v:B7):PVal:=.agg [.int .i64 v.1.1.Lo,.int .i64 v.1.1.Hi,.int .i64 v.1.2.1.Lo,.int .i64 v.1.2.1.Hi,.int .i64 v.1.2.2.Lo,.int .i64 v.1.2.2.Hi,.int .i64 v.2.1.1.Lo,.int .i64 v.2.1.1.Hi,.int .i64 v.2.1.2.1.Lo,.int .i64 v.2.1.2.1.Hi,.int .i64 v.2.1.2.2.Lo,.int .i64 v.2.1.2.2.Hi,.int .i64 v.2.2.1.Lo,.int .i64 v.2.2.1.Hi,.int .i64 v.2.2.2.1.Lo,.int .i64 v.2.2.2.1.Hi,.int .i64 v.2.2.2.2.Lo,.int .i64 v.2.2.2.2.Hi]
def jzg (v:Bi):PVal:=.agg [.int .i64 v.1,.int .i64 v.2.1,.int .i64 v.2.2.1,.int .i64 v.2.2.2.1,.int .i64 v.2.2.2.2.1,.int .i64 v.2.2.2.2.2.1,.int .i64 v.2.2.2.2.2.2.1,.int .i64 v.2.2.2.2.2.2.2.1,.int .i64 v.2.2.2.2.2.2.2.2.1,.int .i64 v.2.2.2.2.2.2.2.2.2.1,.int .i64 v.2.2.2.2.2.2.2.2.2.2]
theorem az9s:GuardFn Tryz.prog 48:=
 ez6 (fn:=Tryz.f48) Tryz.func48 (by kernel_rfl) ⟨0,(gOps Tryz.f48).getD 0 qw,(gOps Tryz.f48).getD 1 qw,2,3,gX Tryz.f48,gC ((gOps Tryz.f48).getD 0 qw),20,20,by kernel_rfl,by kernel_rfl,by kernel_rfl,by kernel_rfl,by kernel_rfl,by kernel_rfl,by kernel_rfl,by kernel_rfl,⟨gMs (Tryz.prog.underlying 20),by kernel_rfl⟩,by decide,by decide,by kernel_rfl⟩
theorem az9t:GuardFn Tryz.prog 59:=
 ez6 (fn:=Tryz.f59) Tryz.func59 (by kernel_rfl) ⟨0,(gOps Tryz.f59).getD 0 qw,(gOps Tryz.f59).getD 1 qw,3,4,gX Tryz.f59,gC ((gOps Tryz.f59).getD 0 qw),20,20,by kernel_rfl,by kernel_rfl,by kernel_rfl,by kernel_rfl,by kernel_rfl,by kernel_rfl,by kernel_rfl,by kernel_rfl,⟨gMs (Tryz.prog.underlying 20),by kernel_rfl⟩,by decide,by decide,by kernel_rfl⟩
theorem az9u:GuardFn Tryz.prog 62:=
 ez6 (fn:=Tryz.f62) Tryz.func62 (by kernel_rfl) ⟨0,(gOps Tryz.f62).getD 0 qw,(gOps Tryz.f62).getD 1 qw,2,3,gX Tryz.f62,gC ((gOps Tryz.f62).getD 0 qw),20,20,by kernel_rfl,by kernel_rfl,by kernel_rfl,by kernel_rfl,by kernel_rfl,by kernel_rfl,by kernel_rfl,by kernel_rfl,⟨gMs (Tryz.prog.underlying 20),by kernel_rfl⟩,by decide,by decide,by kernel_rfl⟩
theorem az9v:GuardFn Tryz.prog 87:=
 ez6 (fn:=Tryz.f87) Tryz.func87 (by kernel_rfl) ⟨0,(gOps Tryz.f87).getD 0 qw,(gOps Tryz.f87).getD 1 qw,3,4,gX Tryz.f87,gC ((gOps Tryz.f87).getD 0 qw),20,20,by kernel_rfl,by kernel_rfl,by kernel_rfl,by kernel_rfl,by kernel_rfl,by kernel_rfl,by kernel_rfl,by kernel_rfl,⟨gMs (Tryz.prog.underlying 20),by kernel_rfl⟩,by decide,by decide,by kernel_rfl⟩
theorem az64:GuardFn Tryz.prog 122:=
 ez6 (fn:=Tryz.f122) Tryz.func122 (by kernel_rfl) ⟨0,(gOps Tryz.f122).getD 0 qw,(gOps Tryz.f122).getD 1 qw,1,2,gX Tryz.f122,gC ((gOps Tryz.f122).getD 0 qw),20,20,by kernel_rfl,by kernel_rfl,by kernel_rfl,by kernel_rfl,by kernel_rfl,by kernel_rfl,by kernel_rfl,by kernel_rfl,⟨gMs (Tryz.prog.underlying 20),by kernel_rfl⟩,by decide,by decide,by kernel_rfl⟩
theorem az65:GuardFn Tryz.prog 131:=
 ez6 (fn:=Tryz.f131) Tryz.func131 (by kernel_rfl) ⟨0,(gOps Tryz.f131).getD 0 qw,(gOps Tryz.f131).getD 1 qw,1,2,gX Tryz.f131,gC ((gOps Tryz.f131).getD 0 qw),20,20,by kernel_rfl,by kernel_rfl,by kernel_rfl,by kernel_rfl,by kernel_rfl,by kernel_rfl,by kernel_rfl,by kernel_rfl,⟨gMs (Tryz.prog.underlying 20),by kernel_rfl⟩,by decide,by decide,by kernel_rfl⟩
theorem az66:GuardFn Tryz.prog 132:=
 ez6 (fn:=Tryz.f132) Tryz.func132 (by kernel_rfl) ⟨0,(gOps Tryz.f132).getD 0 qw,(gOps Tryz.f132).getD 1 qw,1,2,gX Tryz.f132,gC ((gOps Tryz.f132).getD 0 qw),20,20,by kernel_rfl,by kernel_rfl,by kernel_rfl,by kernel_rfl,by kernel_rfl,by kernel_rfl,by kernel_rfl,by kernel_rfl,⟨gMs (Tryz.prog.underlying 20),by kernel_rfl⟩,by decide,by decide,by kernel_rfl⟩
theorem az67:GuardFn Tryz.prog 164:=
 ez6 (fn:=Tryz.f164) Tryz.func164 (by kernel_rfl) ⟨0,(gOps Tryz.f164).getD 0 qw,(gOps Tryz.f164).getD 1 qw,1,2,gX Tryz.f164,gC ((gOps Tryz.f164).getD 0 qw),20,20,by kernel_rfl,by kernel_rfl,by kernel_rfl,by kernel_rfl,by kernel_rfl,by kernel_rfl,by kernel_rfl,by kernel_rfl,⟨gMs (Tryz.prog.underlying 20),by kernel_rfl⟩,by decide,by decide,by kernel_rfl⟩
theorem az68:GuardFn Tryz.prog 173:=
 ez6 (fn:=Tryz.f173) Tryz.func173 (by kernel_rfl) ⟨0,(gOps Tryz.f173).getD 0 qw,(gOps Tryz.f173).getD 1 qw,1,2,gX Tryz.f173,gC ((gOps Tryz.f173).getD 0 qw),20,20,by kernel_rfl,by kernel_rfl,by kernel_rfl,by kernel_rfl,by kernel_rfl,by kernel_rfl,by kernel_rfl,by kernel_rfl,⟨gMs (Tryz.prog.underlying 20),by kernel_rfl⟩,by decide,by decide,by kernel_rfl⟩
theorem az69:GuardFn Tryz.prog 204:=
 ez6 (fn:=Tryz.f204) Tryz.func204 (by kernel_rfl) ⟨0,(gOps Tryz.f204).getD 0 qw,(gOps Tryz.f204).getD 1 qw,2,3,gX Tryz.f204,gC ((gOps Tryz.f204).getD 0 qw),20,20,by kernel_rfl,by kernel_rfl,by kernel_rfl,by kernel_rfl,by kernel_rfl,by kernel_rfl,by kernel_rfl,by kernel_rfl,⟨gMs (Tryz.prog.underlying 20),by kernel_rfl⟩,by decide,by decide,by kernel_rfl⟩
theorem az6a:GuardFn Tryz.prog 212:=
 ez6 (fn:=Tryz.f212) Tryz.func212 (by kernel_rfl) ⟨0,(gOps Tryz.f212).getD 0 qw,(gOps Tryz.f212).getD 1 qw,1,2,gX Tryz.f212,gC ((gOps Tryz.f212).getD 0 qw),20,20,by kernel_rfl,by kernel_rfl,by kernel_rfl,by kernel_rfl,by kernel_rfl,by kernel_rfl,by kernel_rfl,by kernel_rfl,⟨gMs (Tryz.prog.underlying 20),by kernel_rfl⟩,by decide,by decide,by kernel_rfl⟩
theorem az6b:GuardFn Tryz.prog 214:=
 ez6 (fn:=Tryz.f214) Tryz.func214 (by kernel_rfl) ⟨0,(gOps Tryz.f214).getD 0 qw,(gOps Tryz.f214).getD 1 qw,2,3,gX Tryz.f214,gC ((gOps Tryz.f214).getD 0 qw),20,20,by kernel_rfl,by kernel_rfl,by kernel_rfl,by kernel_rfl,by kernel_rfl,by kernel_rfl,by kernel_rfl,by kernel_rfl,⟨gMs (Tryz.prog.underlying 20),by kernel_rfl⟩,by decide,by decide,by kernel_rfl⟩
theorem az6c:GuardFn Tryz.prog 264:=
 ez6 (fn:=Tryz.f264) Tryz.func264 (by kernel_rfl) ⟨0,(gOps Tryz.f264).getD 0 qw,(gOps Tryz.f264).getD 1 qw,2,3,gX Tryz.f264,gC ((gOps Tryz.f264).getD 0 qw),20,20,by kernel_rfl,by kernel_rfl,by kernel_rfl,by kernel_rfl,by kernel_rfl,by kernel_rfl,by kernel_rfl,by kernel_rfl,⟨gMs (Tryz.prog.underlying 20),by kernel_rfl⟩,by decide,by decide,by kernel_rfl⟩
theorem az6d:GuardFn Tryz.prog 268:=
 ez6 (fn:=Tryz.f268) Tryz.func268 (by kernel_rfl) ⟨0,(gOps Tryz.f268).getD 0 qw,(gOps Tryz.f268).getD 1 qw,1,2,gX Tryz.f268,gC ((gOps Tryz.f268).getD 0 qw),20,20,by kernel_rfl,by kernel_rfl,by kernel_rfl,by kernel_rfl,by kernel_rfl,by kernel_rfl,by kernel_rfl,by kernel_rfl,⟨gMs (Tryz.prog.underlying 20),by kernel_rfl⟩,by decide,by decide,by kernel_rfl⟩
theorem az6e:GuardFn Tryz.prog 290:=
 ez6 (fn:=Tryz.f290) Tryz.func290 (by kernel_rfl) ⟨0,(gOps Tryz.f290).getD 0 qw,(gOps Tryz.f290).getD 1 qw,2,3,gX Tryz.f290,gC ((gOps Tryz.f290).getD 0 qw),20,20,by kernel_rfl,by kernel_rfl,by kernel_rfl,by kernel_rfl,by kernel_rfl,by kernel_rfl,by kernel_rfl,by kernel_rfl,⟨gMs (Tryz.prog.underlying 20),by kernel_rfl⟩,by decide,by decide,by kernel_rfl⟩
def qzh (c:aze):T Bool:=
 .br (qx ((c.Xc.length:Int)<=30)) (.kj (qx ((c.Xa.length:Int)<=60))) (.kj false)
def zzu (c):=
 mkD Tryz.func5 (qzh c) 0 [.pure (bzn c)] [] XJ XL
def mzc (c:azd):T Bool:=
 .br (qx ((c.Xf.Xb.length:Int)<=4)) (.br (qx ((c.Xf.Xh.length:Int)<=6)) (.br (qx ((c.Xd.length:Int)<=6)) (.kj (qx ((c.Xj.length:Int)<=8))) (.kj false)) (.kj false)) (.kj false)
def vz5 (c):=
 mkD Tryz.func6 (mzc c) 0 [.pure (bzh c)] [] XJ XL
def zzo (a0:Int):T azr:=
 .br (a0==1) (.conv 3001 (Yz2 3 azl ([(⟨0,0,nl⟩:az8)]:A0) 80 [.agg [.int .i64 0,.int .i64 0,.lst 0 0 λ_=>.unk]] (by kernel_rfl))<|.kj (⟨1,([(⟨0,0,nl⟩:az8)]:A0),(⟨0,0,nl⟩:az8),(⟨0,nl,nl⟩:bzj)⟩:azr)) (.br (a0==2) (.conv 5000 (bzx 1 az2 ([1]:A1) 2)<|.conv 5001 (bzx 1 az2 ([1]:A1) 2)<|.kj (⟨2,nl,(⟨0,0,nl⟩:az8),(⟨0,([1]:A1),([1]:A1)⟩:bzj)⟩:azr)) (.br (a0==3) (.kj (⟨0,nl,(⟨1,0,nl⟩:az8),(⟨0,nl,nl⟩:bzj)⟩:azr)) (.kj (⟨0,nl,(⟨0,0,nl⟩:az8),(⟨0,nl,nl⟩:bzj)⟩:azr))))
def nzp (c):=
 mkD Tryz.func34 (zzo c) 0 [pz c] [] (λr=>.pure (nz2 r)) XL
def Jze (c:Int):T aze:=let d:=nzp c;.conv 1000 (bzx 1 az2 ([0]:A1) 2)<|.conv 1001 (bzx 1 az2 ([1]:A1) 2)<|.conv 1002 (bzx 1 az2 ([2]:A1) 2)<|.conv 1003 (bzx 1 (encL 1 az2) ([([0]:A1),([1]:A1),([2]:A1)]:A2) 62)<|.cc d λe=>.cc d λf=>.cc d λg=>let h:=([(⟨0,1,1,c,e⟩:az4),(⟨0,2,3,c,f⟩:az4),(⟨1,2,1,c,g⟩:az4)]:A3);
 .conv 2012 (bzx 12 az9 h 86)<|.kj (⟨([([0]:A1),([1]:A1),([2]:A1)]:A2),h⟩:aze)
def yz7 (c):=
 mkD Tryz.func23 (Jze c) 0 [pz c] [] (λr=>.pure (bzn r)) XL
def ozx (c:aze)(d:Int):T Bool:=
 .br (qx (d>=0)) (.kj (qx (d<(c.Xc.length:Int)))) (.kj false)
def dzj (c)(d):=
 mkD Tryz.func50 (ozx c d) 0 [.pure (bzn c),pz d] [] XJ XL
def pzz (c:Int):T Bool:=
 .kj (c !=c)
def pzy (c):=
 mkD Tryz.func172 (pzz c) 0 [pz c] [] XJ XL
def mz2 (c:Int)(d:Int):T Int:=
 .cc (pzy c) λe=>.cc (pzy d) λf=>.br e (.br f (.kj 0) (.kj (-1))) (.br f (.kj 1) (.br (qx (c<d)) (.kj (-1)) (.br (qx (c>d)) (.kj 1) (.kj 0))))
def iz7 (c)(d):=
 mkD Tryz.func128 (mz2 c d) 0 [pz c,pz d] [] pz XL
def zz1 (c:A1):T Int:=let d:=(c.length:Int);.loop (λ(e:Int)=>⟨[(3,pz 0),(6,XK 1 az2 c),(7,pz d),(8,pz e)],[],[],0⟩) (.exit 0) (λ(_:U0)=>⟨[(3,pz 0)],[],[],0⟩) (λe=>let f:=c.getD (e.toNat) qw;.br (qx (e<d)) (.gh e c.length<|.br (f !=0) (.ff f) (.nn (qv.wrap (e+1)))) (.oo .u))
 0 [] λ_=>.kj 0
def zz0 (c):=
 mkD Tryz.func127 (zz1 c) 0 [XK 1 az2 c] [] pz XL
def izs (c:az4)(d:Ar):T Int:=
 .ix 0 2 rfl<|.cc (iz7 c.U d.1) λe=>.ix 1 2 rfl<|.cc (iz7 c.V d.2) λf=>let g:=([e,f]:A1);
 .conv 1010 (bzx 1 az2 g 3)<|.cc (zz0 g) λh=>.kj h
def ezv (c)(d):=
 mkD Tryz.func86 (izs c d) 0 [.pure (az9 c),.pure (kze d)] [] pz XL
def jzu (c:aze):T Bool:=let d:=(c.Xa.length:Int);let e:Nat×Res:=(0,.box [XK 1 (encL 1 az2) c.Xc,XK 12 az9 c.Xa]);let f:=(⟨c.Xc,c.Xa⟩:aze);.cut 2 (λ(g:Bool)=>⟨[(1,XM 0),(14,XJ g)],[e],[],1⟩) (.br (qx ((c.Xc.length:Int)>1024)) (.oo true) (.oo (qx (d>8192)))) λg=>.br g (.kj false) (.loop (λ(h:Int)=>⟨[(1,XM 0),(17,pz d),(18,pz h)],[e],[],1⟩) (.exit 0) XN (λh=>let i:=c.Xa.getD (h.toNat) qw;let j:=qv.wrap (h-1);.br (qx (h<d)) (.gh h c.Xa.length<|.cut 1 (λ(k:Bool)=>⟨[(1,XM 0),(3,pz h),(4,.ref (az9 i)),(17,pz d),(18,pz h),(65,XJ k)],[e],[],1⟩) (.cc (dzj f (i.U)) λk=>.br (!k) (.oo true) (.cc (dzj f (i.V)) λm=>.br (!m) (.oo true) (.br (qx ((i.U)>=(i.V))) (.oo true) (.br (qx ((i.Xi)<0)) (.oo true) (.oo (qx ((i.Xi)>1099511627776))))))) λk=>.br k (.ff false) (.cut 0 (λ(m:Bool)=>⟨[(1,XM 0),(17,pz d),(18,pz h),(86,XJ m)],[e],[],1⟩) (.br (qx (h>0)) (.gh j c.Xa.length<|.call (ezv (c.Xa.getD (j.toNat) qw) (i.U,i.V)) [] λm=>.oo (qx (m>=0))) (.oo false)) λm=>.br m (.ff false) (.nn (qv.wrap (h+1))))) (.oo .u))
 0 [] λ_=>.kj true)
def fzf (c):=
 mkD Tryz.func49 (jzu c) 0 [.pure (bzn c)] [] XJ XL
def rz7 (c:Int)(d:Int):T Bool:=
 .br (d==0) (.kj (c==1)) (.br (d==1) (.br (c==1) (.kj true) (.kj (c==0))) (.br (d==2) (.kj (c !=2)) (.kj false)))
def rz6 (c)(d):=
 mkD Tryz.func105 (rz7 c d) 0 [pz c,pz d] [] XJ XL
def Nzy (c:aze)(d:Int):T A5:=let e:=(c.Xa.length:Int);let f:=(c.Xc.length:Int);let g:Nat×Res:=(0,.box [XK 1 (encL 1 az2) c.Xc,XK 12 az9 c.Xa]);.unroll 1<|.conv 1003 (azcb 2 bz6 177 f.toNat 179)<|.grd (0<=f/\f<=f/\f<=9223372036854775807/\f * 24<=140737488355328)<|.loop (λ(h:(A5×Int))=>⟨[(1,pz d),(2,XM 0),(5,.vec 1),(14,pz e),(15,pz h.2)],[g,(1,az56 2 bz6 h.1 177 179)],[],2⟩) (.exit 0) (λ(h:A5)=>⟨[(5,.vec 0)],[(0,az56 2 bz6 h 177 179)],[],1⟩) (λh=>let i:=c.Xa.getD (XI h.2) qw;let j:=i.U;let k:=i.V;let m:=j.toNat;let n:=k.toNat;let s:=h.1.getD m qw;let t:=([(⟨i.V,i.Xi⟩:azj)]:A4);let w:=h.1.set m (s++t);let y:=w.getD n qw;let z:=s.length+t.length;let aa:=([(⟨i.U,i.Xi⟩:azj)]:A4);let ab:=y.length+aa.length;.br (qx (h.2<e)) (.cut 0 (λ(ac:A5)=>⟨[(1,pz d),(2,XM 0),(5,.vec 1),(14,pz e),(15,pz h.2)],[g,(1,az56 2 bz6 ac 177 179)],[],2⟩) (.gh h.2 c.Xa.length<|.cc (rz6 (i.Xr) d) λac=>.br ac (.gg j h.1.length<|.conv 7021 (bzx 2 bz6 t 179)<|.conv 7022 (czx 2 bz6 s t 179)<|.grd (z * 16<=140737488355328/\z<=maxLen)<|.gh j h.1.length<|.conv 7024 (az86 2 bz6 (s++t) 177 h.1 m 179)<|.grd (j.toNat<h.1.length/\j.toNat=j.toNat)<|.gg k (w.length)<|.conv 8021 (bzx 2 bz6 aa 179)<|.conv 8022 (czx 2 bz6 y aa 179)<|.grd (ab * 16<=140737488355328/\ab<=maxLen)<|.gh k (w.length)<|.conv 8024 (az86 2 bz6 (y++aa) 177 w n 179)<|.grd (k.toNat<w.length/\k.toNat=k.toNat)<|.oo (w.set n (y++aa))) (.oo h.1)) λac=>.nn (ac,(qv.wrap (h.2+1)))) (.oo h.1)) ((qu f.toNat (nl:A4)),0) [] λh=>.kj h
def Dzc (c)(d):=
 mkD Tryz.func61 (Nzy c d) 0 [.pure (bzn c),pz d] [] (λr=>XK 1 (encL 2 bz6) r) XL
def Rz3 (c:azm)(d:azm):T Bool:=
 .br (d.points==0) (.kj true) (.br (qx (c.cost<d.cost)) (.kj true) (.br (c.cost==d.cost) (.kj (qx (c.points<d.points))) (.kj false)))
def pzf (c)(d):=
 mkD Tryz.func101 (Rz3 c d) 0 [.pure (bzr c),.pure (bzr d)] [] XJ XL
def Wzr (c:A6):T (azv×A6):=let d:=qv.wrap ((c.length:Int)-1);let e:=c.getD (d.toNat) qw;let f:=c.set (XI (0:Int)) e;let g:=c.getD (XI (0:Int)) qw;let h:Nat×Res:=(4,.box [pz (g.rank.cost),pz (g.rank.points),pz (g.point)]);.gg (0:Int) c.length<|.gg d c.length<|.gh (0:Int) c.length<|.conv 3006 (fzr 3 bz1 c 173 (XI (0:Int)) e)<|.gi (0:Int) c.length<|.conv 4002 (Szo 3 bz1 f 173 d)<|.grd (0<=d/\d<=(f.length:Int)/\0<=d.toNat)<|.loop (λ(i:(A6×Int))=>⟨[(0,XM 0),(2,XM 2),(3,.vec 3),(4,XM 4),(5,pz d),(6,pz i.2)],[(0,.box [.vec 1]),(1,.gone),(2,.box [pz 0,pz 0,pz 0]),(3,vecO 3 bz1 i.1 173),h],[],5⟩) (.exit 0) (λ(i:A6)=>⟨[(0,XM 0),(2,XM 2),(3,.vec 3),(4,XM 4)],[(0,.box [.vec 1]),(1,.gone),(2,.box [pz 0,pz 0,pz 0]),(3,vecO 3 bz1 i 173),h],[],5⟩) (λi=>let j:=(i.2).toNat;let k:=qv.wrap ((qv.wrap (2 * i.2))+1);let m:=qv.wrap (k+1);let n:=i.1.getD j qw;.br (qx (k<d)) (.cut 1 (λ(s:Int)=>⟨[(0,XM 0),(2,XM 2),(3,.vec 3),(4,XM 4),(5,pz d),(6,pz i.2),(7,pz s)],[(0,.box [.vec 1]),(1,.gone),(2,.box [pz 0,pz 0,pz 0]),(3,vecO 3 bz1 i.1 173),h],[],5⟩) (.cut 0 (λ(s:Bool)=>⟨[(0,XM 0),(2,XM 2),(3,.vec 3),(4,XM 4),(5,pz d),(6,pz i.2),(7,pz k),(51,XJ s)],[(0,.box [.vec 1]),(1,.gone),(2,.box [pz 0,pz 0,pz 0]),(3,vecO 3 bz1 i.1 173),h],[],5⟩) (.br (qx (m<d)) (.gg m i.1.length<|.gg k i.1.length<|.call (pzf ((i.1.getD (m.toNat) qw).rank) ((i.1.getD (k.toNat) qw).rank)) [] λs=>.oo s) (.oo false)) λs=>.br s (.oo m) (.oo k)) λs=>let t:=s.toNat;let w:=i.1.getD t qw;let y:=i.1.set j w;
 .gg s i.1.length<|.gg i.2 i.1.length<|.cc (pzf (w.rank) (n.rank)) λz=>.br (!z) (.oo i.1) (.gg s i.1.length<|.gg i.2 i.1.length<|.gh i.2 i.1.length<|.conv 11013 (fzr 3 bz1 i.1 173 j w)<|.gi (i.2) i.1.length<|.gh s (y.length)<|.conv 11015 (fzr 3 bz1 y 173 t n)<|.gi (s) (y.length)<|.nn ((y.set t n),s))) (.oo i.1)) ((f.take (d.toNat)),0) [] λi=>.kj (g,i)
def Wzq (c):=
 mkD Tryz.func100 (Wzr c) 2 [XM 0] [(0,.box [.vec 1]),(1,vecO 3 bz1 c 173)] (λr=>.pure (bz1 r.1)) (λr=>[(0,.box [.vec 2]),(1,.gone),(2,vecO 3 bz1 r.2 173)])
def Uzf (c:A6)(d:azv):T A6:=let e:=([d]:A6);let f:=c.length+e.length;.conv 1004 (bzx 3 bz1 e 173)<|.conv 1005 (czx 3 bz1 c e 173)<|.grd (f * 24<=140737488355328/\f<=maxLen)<|.loop (λ(g:(A6×Int))=>⟨[(0,XM 0),(4,.vec 2),(5,pz g.2)],[(0,.box [.vec 1]),(1,.gone),(2,vecO 3 bz1 g.1 173)],[],3⟩) (.exit 0) (λ(g:A6)=>⟨[(0,XM 0),(4,.vec 2)],[(0,.box [.vec 1]),(1,.gone),(2,vecO 3 bz1 g 173)],[],3⟩) (λg=>let h:=(g.2).toNat;let i:=g.1.getD h qw;.br (qx (g.2>0)) (.ok ((2:Int)≠0) (by decide)<|.name 4002 ((qv.wrap ((qv.wrap (g.2-1)).tdiv 2))) λj=>let k:=j.toNat;let m:=g.1.getD k qw;let n:=g.1.set h m;
 .gg g.2 g.1.length<|.gg j g.1.length<|.cc (pzf (i.rank) (m.rank)) λs=>.br (!s) (.oo g.1) (.gg j g.1.length<|.gg g.2 g.1.length<|.gh g.2 g.1.length<|.conv 6013 (fzr 3 bz1 g.1 173 h m)<|.gi (g.2) g.1.length<|.gh j (n.length)<|.conv 6015 (fzr 3 bz1 n 173 k i)<|.gi (j) (n.length)<|.nn ((n.set k i),j))) (.oo g.1)) ((c++e),(qv.wrap ((((c++e).length:Nat):Int)-1))) [] λg=>.kj g
def Uze (c)(d):=
 mkD Tryz.func102 (Uzf c d) 2 [XM 0,.pure (bz1 d)] [(0,.box [.vec 1]),(1,vecO 3 bz1 c 173)] (λ_=>.tup []) (λr=>[(0,.box [.vec 2]),(1,.gone),(2,vecO 3 bz1 r 173)])
def Ezb (c:azj)(d:A7)(e:Int):T (Bool×A7×Int):=let f:=d.getD (XI c.to) qw;let g:=d.getD (e.toNat) qw;.gg c.to d.length<|.gg e d.length<|.br ((f.points)==(qv.wrap ((g.points)-1))) (.gg e d.length<|.kj (((qv.wrap ((f.cost)+c.cost))==(g.cost)),d,e)) (.kj (false,d,e))
def Eza (c)(d)(e):=
 mkD Tryz.func104 (Ezb c d e) 3 [.pure (bz6 c),XM 0,XM 2] [(0,.box [.vec 1]),(1,vecO 2 bzr d 171),(2,.box [pz e])] (λr=>XJ r.1) (λr=>[(0,.box [.vec 1]),(1,vecO 2 bzr r.2.1 171),(2,.box [pz r.2.2])])
def hz5 (c:A4)(d:A7)(e:Int):T (Int×A7×Int):=let f:=(c.length:Int);.loop (λ(g:(A7×Int×Int))=>⟨[(0,XK 2 bz6 c),(1,.func 104 [] [XM 0,XM 2]),(7,pz f),(8,pz g.2.2)],[(0,.box [.vec 1]),(1,vecO 2 bzr g.1 171),(2,.box [pz g.2.1])],[],3⟩) (.exit 0) (λ(g:(A7×Int))=>⟨[],[(0,.box [.vec 1]),(1,vecO 2 bzr g.1 171),(2,.box [pz g.2])],[],3⟩) (λg=>.br (qx (g.2.2<f)) (.gh g.2.2 c.length<|.call (Eza (c.getD (XI g.2.2) qw) g.1 g.2.1) [(0,0),(1,1),(2,2)] λh=>.br h.1 (.ff (g.2.2,h.2.1,h.2.2)) (.nn (h.2.1,h.2.2,(qv.wrap (g.2.2+1))))) (.oo (g.1,g.2.1))) (d,e,0) [] λg=>.kj ((-1),g.1,g.2)
def hz4 (c)(d)(e):=
 mkD Tryz.func103 (hz5 c d e) 3 [XK 2 bz6 c,.func 104 [] [XM 0,XM 2]] [(0,.box [.vec 1]),(1,vecO 2 bzr d 171),(2,.box [pz e])] (λr=>pz r.1) (λr=>[(0,.box [.vec 1]),(1,vecO 2 bzr r.2.1 171),(2,.box [pz r.2.2])])
def Iz0 (c:A5)(d:Int)(e:Int):T (A1×Int×Bool):=let f:=e.toNat;let g:=(c.length:Int);let h:=([d]:A1);let i:=encL 1 (encL 2 bz6) c;let j:=qu g.toNat ((⟨0,0⟩:azm):azm);let k:=j.set f (⟨0,1⟩:azm);let m:=([(⟨(k.getD f qw),e⟩:azv)]:A6);.conv 1002 (Kzr 2 bzr 171 g.toNat (⟨0,0⟩:azm))<|.grd (0<=g/\g<=g/\g<=9223372036854775807/\g * 16<=140737488355328)<|.gh e (j.length)<|.conv 2004 (fzr 2 bzr j 171 f (⟨0,1⟩:azm))<|.gi (e) (j.length)<|.gg e (k.length)<|.conv 3006 (bzx 3 bz1 m 173)<|.loop (λ(n:(A7×A6))=>⟨[(0,.pure i),(1,pz d),(2,pz e),(6,XM 0),(8,XM 2),(9,XM 4)],[(0,.box [.vec 1,pz 0]),(1,.nilv),(2,.box [.vec 3]),(3,vecO 2 bzr n.1 171),(4,.box [.vec 5]),(5,vecO 3 bz1 n.2 173)],[],6⟩) (.exit 0) (λ(n:A7)=>⟨[(0,.pure i),(1,pz d),(2,pz e),(6,XM 0),(8,XM 2)],[(0,.box [.vec 1,pz 0]),(1,.nilv),(2,.box [.vec 3]),(3,vecO 2 bzr n 171)],[],4⟩) (λn=>.name 4001 ((n.2.length:Int)) λs=>.br (qx (s>0)) (.call (Wzq n.2) [(0,4),(1,5)] λt=>let w:=(t.1.point).toNat;let y:=c.getD w qw;let z:=encL 2 bz6 y;let aa:=(y.length:Int);let ab:=n.1.getD w qw;let ac:Nat×Res:=(6,.box [pz t.1.rank.cost,pz t.1.rank.points,pz t.1.point]);
 .br (t.1.point==d) (.oo n.1) (.gg t.1.point n.1.length<|.br (!((t.1.rank.cost==(ab.cost))&&((t.1.rank.points==(ab.points))&&true))) (.nn (n.1,t.2)) (.gh t.1.point c.length<|.loop (λ(ad:(A7×A6×Int))=>⟨[(0,.pure i),(1,pz d),(2,pz e),(6,XM 0),(8,XM 2),(9,XM 4),(10,XM 6),(53,.pure z),(54,pz aa),(55,pz ad.2.2)],[(0,.box [.vec 1,pz 0]),(1,.nilv),(2,.box [.vec 3]),(3,vecO 2 bzr ad.1 171),(4,.box [.vec 5]),(5,vecO 3 bz1 ad.2.1 173),ac],[],7⟩) (.exit 3) (λ(ad:(A7×A6))=>⟨[(0,.pure i),(1,pz d),(2,pz e),(6,XM 0),(8,XM 2),(9,XM 4)],[(0,.box [.vec 1,pz 0]),(1,.nilv),(2,.box [.vec 3]),(3,vecO 2 bzr ad.1 171),(4,.box [.vec 5]),(5,vecO 3 bz1 ad.2 173)],[],6⟩) (λad=>let ae:=y.getD (XI ad.2.2) qw;let af:=ae.to;let ag:=af.toNat;.br (qx (ad.2.2<aa)) (.cut 0 (λ(ah:(A7×A6))=>⟨[(0,.pure i),(1,pz d),(2,pz e),(6,XM 0),(8,XM 2),(9,XM 4),(10,XM 6),(53,.pure z),(54,pz aa),(55,pz ad.2.2)],[(0,.box [.vec 1,pz 0]),(1,.nilv),(2,.box [.vec 3]),(3,vecO 2 bzr ah.1 171),(4,.box [.vec 5]),(5,vecO 3 bz1 ah.2 173),ac],[],7⟩) (.gh ad.2.2 (y.length)<|.name 11005 ((qv.wrap (t.1.rank.cost+(ae.cost)))) λah=>let ai:=(⟨ah,(qv.wrap (t.1.rank.points+1))⟩:azm);
 .gg af ad.1.length<|.call (pzf ai (ad.1.getD ag qw)) [] λaj=>.br aj (.gh af ad.1.length<|.conv 13005 (fzr 2 bzr ad.1 171 ag ai)<|.gi af ad.1.length<|.call (Uze ad.2.1 (⟨ai,ae.to⟩:azv)) [(0,4),(1,5)] λak=>.oo ((ad.1.set ag ai),ak)) (.oo (ad.1,ad.2.1))) λah=>.nn (ah.1,ah.2,(qv.wrap (ad.2.2+1)))) (.oo (ad.1,ad.2.1))) (n.1,t.2,0) [] λad=>.nn (ad.1,ad.2)))) (.oo n.1)) (k,m) [] λn=>let s:=n.getD (d.toNat) qw;
 .gg d n.length<|.br ((s.points)==0) (.kj (nl,0,false)) (.conv 18001 (bzx 1 az2 h 3)<|.gg d n.length<|.loop (λ(t:(A7×A1×Int))=>⟨[(0,.pure i),(2,pz e),(6,XM 0),(8,XM 2),(14,XM 4),(15,XM 6)],[(0,.box [.vec 1,pz 0]),(1,.nilv),(2,.box [.vec 3]),(3,vecO 2 bzr t.1 171),(4,.box [.vec 5,pz (s.cost)]),(5,vecO 1 az2 t.2.1 3),(6,.box [pz t.2.2])],[],7⟩) (.exit 5) (λ(t:A1)=>⟨[(6,XM 0),(14,XM 2)],[(0,.box [.vec 1,pz 0]),(1,.nilv),(2,.box [.vec 3,pz (s.cost)]),(3,vecO 1 az2 t 3)],[],4⟩) (λt=>.br (t.2.2 !=e) (.gh t.2.2 c.length<|.call (hz4 (c.getD (XI t.2.2) qw) t.1 t.2.2) [(0,2),(1,3),(2,6)] λw=>let y:=c.getD (XI w.2.2) qw;let z:=y.getD (XI w.1) qw;let aa:=([z.to]:A1);let ab:=t.2.1.length+aa.length;
 .gh w.2.2 c.length<|.gh w.1 (y.length)<|.conv 23003 (bzx 1 az2 aa 3)<|.conv 23004 (czx 1 az2 t.2.1 aa 3)<|.grd (ab * 8<=140737488355328/\ab<=maxLen)<|.nn (w.2.1,(t.2.1++aa),z.to)) (.oo t.2.1)) (n,h,d) [] λt=>.kj (t,s.cost,true))
def vzj (c)(d)(e):=
 mkD Tryz.func60 (Iz0 c d e) 0 [XK 1 (encL 2 bz6) c,pz d,pz e] [] (λr=>.tup [.agg [.vec 0,pz r.2.1],XJ r.2.2]) (λr=>[(0,vecO 1 az2 r.1 3)])
def bz3 (c:A3)(d:Ar):T Au:=let e:=encL 12 az9 c;let f:=(c.length:Int);let g:Nat×Res:=(0,.box [pz d.1,pz d.2]);.loop (λ(h:Ar)=>⟨[(0,.pure e),(2,.func 86 [] []),(4,XM 0),(8,pz f),(9,pz h.1),(10,pz h.2)],[g],[],1⟩) (.exit 0) (λ(h:Int)=>⟨[(0,.pure e),(2,.func 86 [] []),(4,XM 0),(8,pz f),(9,pz h)],[g],[],1⟩) (λh=>.br (qx (h.1<h.2)) (.ok (0<=(1:Int)) (by decide)<|.name 4005 ((qv.wrap ((IntKind.u64.wrap (qv.wrap (h.1+h.2))).fdiv (2 ^ (min (1:Int).toNat 64))))) λi=>.gh i c.length<|.cc (ezv (c.getD (i.toNat) qw) d) λj=>.br (qx (j<0)) (.nn ((qv.wrap (i+1)),h.2)) (.nn (h.1,i))) (.oo h.1)) (0,f) [] λh=>.br (qx (h<f)) (.gh h c.length<|.cc (ezv (c.getD (h.toNat) qw) d) λi=>.kj (h,(i==0))) (.kj (h,false))
def azy (c)(d):=
 mkD Tryz.func92 (bz3 c d) 0 [XK 12 az9 c,.pure (kze d),.func 86 [] []] [] (λr=>.tup [pz r.1,XJ r.2]) XL
def jzl (c:aze)(d:Int)(e:Int):T Au:=
 .cc (azy c.Xa ((min d e),(max d e))) λf=>.kj (f.1,f.2)
def hz1 (c)(d)(e):=
 mkD Tryz.func53 (jzl c d e) 0 [.pure (bzn c),pz d,pz e] [] (λr=>.tup [pz r.1,XJ r.2]) XL
def Rzp (c:aze)(d:Int)(e:Int):T (Int×A1×Int×Int):=let f:Nat×Res:=(0,.box [XK 1 (encL 1 az2) c.Xc,XK 12 az9 c.Xa]);let g:=(⟨c.Xc,c.Xa⟩:aze);.cut 3 (λ(h:Bool)=>⟨[(1,pz d),(2,pz e),(3,XM 0),(6,XM 1),(7,XM 2),(8,XM 4),(29,XJ h)],[f,(1,.box [pz 0]),(2,.box [.vec 3,pz 0]),(3,.nilv),(4,.box [pz 0])],[.func 59 [] [XM 1,XM 2,XM 4]],5⟩) (.cc (fzf g) λh=>.br (!h) (.oo true) (.cc (dzj g d) λi=>.br (!i) (.oo true) (.cc (dzj g e) λj=>.oo (!j)))) λh=>.br h (.kj ((-1),nl,0,0)) (.cc (Dzc g 1) λi=>.cc (vzj i d e) λj=>let k:=(j.1.length:Int);let m:=k.toNat- (1:Int).toNat;let n:=(m:Int);
 .br (!j.2.2) (.kj ((-1),nl,0,2)) (.unroll 2<|.grd (0<=(1:Int)/\(1:Int)<=k/\k<=k)<|.loop (λ(s:Int)=>⟨[(3,XM 0),(6,XM 1),(7,XM 2),(8,XM 4),(44,.view 3 1 (XI (1:Int)) m),(45,pz n),(46,pz s)],[f,(1,.box [pz 0]),(2,.box [.vec 3,pz j.2.1]),(3,vecO 1 az2 j.1 3),(4,.box [pz 0])],[.func 59 [] [XM 1,XM 2,XM 4]],5⟩) (.exit 0) (λ(_:U0)=>⟨[(6,XM 0),(7,XM 1),(8,XM 3)],[(0,.box [pz 0]),(1,.box [.vec 2,pz j.2.1]),(2,vecO 1 az2 j.1 3),(3,.box [pz 0])],[.func 59 [] [XM 0,XM 1,XM 3]],4⟩) (λs=>let t:=(XI (1:Int))+(s.toNat);.br (qx (s<n)) (.gh s m<|.grd (t<j.1.length)<|.gg s j.1.length<|.cc (hz1 g (j.1.getD (s.toNat) qw) (j.1.getD t qw)) λw=>.gh w.1 c.Xa.length<|.br (((c.Xa.getD (XI w.1) qw).Xr)==0) (.ff (w.1,j.1,j.2.1,3)) (.nn (qv.wrap (s+1)))) (.oo .u))
 0 [] λ_=>.kj ((-1),j.1,j.2.1,1)))
def Gz7 (c)(d)(e):=
 mkC [⟨59,az9t⟩] hd Tryz.func22 (by kernel_rfl) (Rzp c d e) 0 [.pure (bzn c),pz d,pz e] [] (λr=>.tup [pz r.1,.agg [.vec 0,pz r.2.2.1],pz r.2.2.2]) (λr=>[(0,vecO 1 az2 r.2.1 3)]) (by kernel_rfl)
def Hzz (c:aze)(d:Int)(e:Int)(f:Int):T (bzy×Bool):=
 .cut 3 (λ(g:Bool)=>⟨[(1,pz d),(2,pz e),(3,pz f),(4,XM 0),(8,XM 1),(9,XM 3),(33,XJ g)],[(0,.box [XK 1 (encL 1 az2) c.Xc,XK 12 az9 c.Xa]),(1,.box [.vec 2,pz 0]),(2,.nilv),(3,.box [.ff])],[.func 62 [] [XM 1,XM 3]],4⟩) (.cc (fzf c) λg=>.br (!g) (.oo true) (.cc (dzj c d) λh=>.br (!h) (.oo true) (.cc (dzj c e) λi=>.br (!i) (.oo true) (.br (qx (f<0)) (.oo true) (.oo (qx (f>2))))))) λg=>.br g (.kj ((⟨nl,0⟩:bzy),false)) (.cc (Dzc c f) λh=>.cc (vzj h d e) λi=>.kj ((⟨i.1,i.2.1⟩:bzy),i.2.2))
def Hzy (c)(d)(e)(f):=
 mkC [⟨62,az9u⟩] hd Tryz.func24 (by kernel_rfl) (Hzz c d e f) 0 [.pure (bzn c),pz d,pz e,pz f] [] (λr=>.tup [.pure (nzn r.1),XJ r.2]) XL (by kernel_rfl)
def qzg (c:A1)(d:A1):T Bool:=let e:=(c.length:Int);.br (e !=(d.length:Int)) (.kj false) (.loop (λ(f:Int)=>⟨[(0,XK 1 az2 c),(1,XK 1 az2 d),(5,pz f)],[],[],0⟩) (.exit 0) XN (λf=>.br (qx (f<e)) (.gh f c.length<|.gh f d.length<|.br ((c.getD (f.toNat) qw) !=(d.getD (f.toNat) qw)) (.ff false) (.nn (qv.wrap (f+1)))) (.oo .u))
 0 [] λ_=>.kj true)
def qzf (c)(d):=
 mkD Tryz.func63 (qzg c d) 0 [XK 1 az2 c,XK 1 az2 d] [] XJ XL
def Jzg (c:bzy)(d:bzy):T Bool:=
 .br (c.Xi==d.Xi) (.cc (qzf c.Xq d.Xq) λe=>.kj e) (.kj false)
def Jzf (c)(d):=
 mkD Tryz.func25 (Jzg c d) 0 [.pure (nzn c),.pure (nzn d)] [] XJ XL
def Qzf:T Bool:=
 .cc (yz7 0) λc=>.cc (Gz7 c 0 2) λd=>.cc (yz7 1) λe=>.cc (Hzy e 0 2 0) λf=>.br (d.1==0) (.br (d.2.2.2==3) (.br f.2 (.conv 3011 (bzx 1 az2 ([0,1,2]:A1) 3)<|.cc (Jzf f.1 (⟨([0,1,2]:A1),2⟩:bzy)) λg=>.kj g) (.kj false)) (.kj false)) (.kj false)
def wzh:CallS Bool:=
 mkD Tryz.func7 (Qzf) 0 [] [] XJ XL
def Wzd (c:A1):T A8:=
 .kj (c,0)
def fzs (c):=
 mkD Tryz.func32 (Wzd c) 0 [XK 1 az2 c] [] (λ_=>XM 0) (λr=>[(0,.box [XK 1 az2 r.1,pz r.2])])
def zzp (c:Int)(d:Int):T Int:=let e:=c.tmod d;.grd (d≠0)<|.cut 0 (λ(f:Int)=>⟨[(5,pz f)],[],[],0⟩) (.br (qx (e<0)) (.oo (qv.wrap (e+d))) (.oo e)) λf=>.kj f
def kz0 (c)(d):=
 mkD Tryz.func10 (zzp c d) 0 [pz c,pz d] [] pz XL
def vzr (c:A1)(d:Int)(e:Int):T (Int×A1×Int):=let f:=qv.wrap (d+1);let g:=qv.wrap (f-1);.br (qx (d>=(c.length:Int))) (.kj (0,c,d)) (.gh g c.length<|.call (kz0 (c.getD (g.toNat) qw) e) [] λh=>.kj (h,c,f))
def azq (c)(d)(e):=
 mkD Tryz.func33 (vzr c d e) 1 [XM 0,pz e] [(0,.box [XK 1 az2 c,pz d])] (λr=>pz r.1) (λr=>[(0,.box [XK 1 az2 r.2.1,pz r.2.2])])
def kzr (c:Int):T ByteArray:=let d:=qv.wrap (c+1);.grd (0<=c/\c<=d/\d<=(((⟨#[97,98,99,100,101,102,103,104,105,106]⟩:ByteArray).size:Nat):Int))<|.kj ((⟨#[97,98,99,100,101,102,103,104,105,106]⟩:ByteArray).extract c.toNat d.toNat)
def kzq (c):=
 mkD Tryz.func111 (kzr c) 0 [pz c] [] (λr=>.pure (.str r)) XL
def pzr (c:A1)(d:Int)(e:Int):T (Int×A1×Int):=
 .call (azq c d (qv.wrap ((qv.wrap (2 * e))+1))) [(0,0)] λf=>.kj ((qv.wrap (f.1-e)),f.2.1,f.2.2)
def bzv (c)(d)(e):=
 mkD Tryz.func37 (pzr c d e) 1 [XM 0,pz e] [(0,.box [XK 1 az2 c,pz d])] (λr=>pz r.1) (λr=>[(0,.box [XK 1 az2 r.2.1,pz r.2.2])])
def nzr (c:A1)(d:Int)(e:Int):T (azz×A1×Int):=
 .cc (kzq e) λf=>.call (azq c d 4) [(0,0)] λg=>let h:=qv.wrap (1+g.1);
 .call (azq g.2.1 g.2.2 3) [(0,0)] λi=>let j:=qv.wrap (65536+i.1);
 .call (azq i.2.1 i.2.2 8) [(0,0)] λk=>let m:=([3,3,1,2,4,5,3,0]:List Int).getD (k.1).toNat 0;
 .gh k.1 8<|.cut 0 (λ(n:Aw)=>⟨[(0,XM 0),(1,pz e),(4,XM 1),(5,XM 2)],[(0,.box [XK 1 az2 n.1,pz n.2.1]),(1,.box [.pure (.str (⟨#[]⟩:ByteArray)),pz 0,pz 0,pz 0,pz 0,pz 0,pz 0,pz 0,pz 0,pz 0,pz 0,pz 0]),(2,.box [.pure (.str f),pz m,pz n.2.2,pz 0,pz 0,pz 0,pz 0,pz 0,pz h,pz 65536,pz j,pz 327680])],[],3⟩) (.call (azq k.2.1 k.2.2 4) [(0,0)] λn=>.br (n.1==1) (.oo (n.2.1,n.2.2,(-1))) (.oo (n.2.1,n.2.2,(qv.wrap (e-1))))) λn=>.cut 0 (λ(s:(A1×Int×Int×Int×Int))=>⟨[(0,XM 0),(4,XM 1),(5,XM 2)],[(0,.box [XK 1 az2 s.1,pz s.2.1]),(1,.box [.pure (.str (⟨#[]⟩:ByteArray)),pz 0,pz 0,pz 0,pz 0,pz 0,pz 0,pz 0,pz 0,pz 0,pz 0,pz 0]),(2,.box [.pure (.str f),pz m,pz n.2.2,pz s.2.2.1,pz s.2.2.2.1,pz s.2.2.2.2,pz 0,pz 0,pz h,pz 65536,pz j,pz 327680])],[],3⟩) (.br (qx (e>0)) (.call (bzv n.1 n.2.1 2) [(0,0)] λs=>.call (bzv s.2.1 s.2.2 1) [(0,0)] λt=>.oo (t.2.1,t.2.2,131072,(qv.wrap (s.1 * 32768)),(qv.wrap (t.1 * 32768)))) (.oo (n.1,n.2.1,0,0,0))) λs=>.cut 0 (λ(t:(A1×Int×Int×Int))=>⟨[(4,XM 1),(5,XM 2)],[(0,.box [XK 1 az2 t.1,pz t.2.1]),(1,.box [.pure (.str (⟨#[]⟩:ByteArray)),pz 0,pz 0,pz 0,pz 0,pz 0,pz 0,pz 0,pz 0,pz 0,pz 0,pz 0]),(2,.box [.pure (.str f),pz m,pz n.2.2,pz s.2.2.1,pz s.2.2.2.1,pz s.2.2.2.2,pz t.2.2.1,pz t.2.2.2,pz h,pz 65536,pz j,pz 327680])],[],3⟩) (.br (m==0) (.oo (s.1,s.2.1,0,0)) (.cut 0 (λ(t:Bool)=>⟨[(0,XM 0),(4,XM 1),(5,XM 2),(55,XJ t)],[(0,.box [XK 1 az2 s.1,pz s.2.1]),(1,.box [.pure (.str (⟨#[]⟩:ByteArray)),pz 0,pz 0,pz 0,pz 0,pz 0,pz 0,pz 0,pz 0,pz 0,pz 0,pz 0]),(2,.box [.pure (.str f),pz m,pz n.2.2,pz s.2.2.1,pz s.2.2.2.1,pz s.2.2.2.2,pz 0,pz 0,pz h,pz 65536,pz j,pz 327680])],[],3⟩) (.br (m==4) (.oo (m==4)) (.oo (m==5))) λt=>.br t (.call (azq s.1 s.2.1 3) [(0,0)] λw=>.call (azq w.2.1 w.2.2 4) [(0,0)] λy=>.oo (y.2.1,y.2.2,(qv.wrap ((qv.wrap (0-w.1)) * 65536)),(qv.wrap (y.1 * 32768)))) (.call (azq s.1 s.2.1 5) [(0,0)] λw=>.ok ((8:Int)≠0) (by decide)<|.call (azq w.2.1 w.2.2 4) [(0,0)] λy=>.ok ((8:Int)≠0) (by decide)<|.call (azq y.2.1 y.2.2 3) [(0,0)] λz=>.oo (z.2.1,z.2.2,(qv.wrap ((qv.wrap ((qv.wrap (0-w.1)) * 65536)).tdiv 8)),(qv.wrap ((qv.wrap ((qv.wrap ((qv.wrap (1+y.1)) * 65536)).tdiv 8))+z.1)))))) λt=>.kj ((⟨f,m,n.2.2,(s.2.2.1,s.2.2.2.1,s.2.2.2.2),t.2.2.1,t.2.2.2,h,65536,j,327680⟩:azz),t.1,t.2.1)
def nzq (c)(d)(e):=
 mkD Tryz.func75 (nzr c d e) 1 [XM 0,pz e] [(0,.box [XK 1 az2 c,pz d])] (λr=>.pure (azc r.1)) (λr=>[(0,.box [XK 1 az2 r.2.1,pz r.2.2])])
def nzs (c:A1)(d:Int):T (azo×A1×Int):=
 .call (azq c d 3) [(0,0)] λe=>let f:=qv.wrap (1+e.1);
 .loop (λ(g:(A1×Int×A9×Int))=>⟨[(0,XM 0),(2,XM 1),(3,XM 4),(4,pz f),(5,pz g.2.2.2)],[(0,.box [XK 1 az2 g.1,pz g.2.1]),(1,.box [.vec 2,.vec 3]),(2,.nilv),(3,.nilv),(4,.box [.vec 5,.vec 6]),(5,vecO 12 azc g.2.2.1 126),(6,.nilv)],[],7⟩) (.exit 0) (λ(g:(A1×Int×A9))=>⟨[(0,XM 0),(2,XM 1),(3,XM 4),(4,pz f)],[(0,.box [XK 1 az2 g.1,pz g.2.1]),(1,.box [.vec 2,.vec 3]),(2,.nilv),(3,.nilv),(4,.box [.vec 5,.vec 6]),(5,vecO 12 azc g.2.2 126),(6,.nilv)],[],7⟩) (λg=>.br (qx (g.2.2.2<f)) (.call (nzq g.1 g.2.1 g.2.2.2) [(0,0)] λh=>let i:=([h.1]:A9);let j:=g.2.2.1.length+i.length;
 .conv 6005 (bzx 12 azc i 126)<|.conv 6006 (czx 12 azc g.2.2.1 i 126)<|.grd (j * 104<=140737488355328/\j<=maxLen)<|.nn (h.2.1,h.2.2,(g.2.2.1++i),(qv.wrap (g.2.2.2+1)))) (.oo (g.1,g.2.1,g.2.2.1))) (e.2.1,e.2.2,nl,0) [] λg=>.call (azq g.1 g.2.1 3) [(0,0)] λh=>.loop (λ(i:(A1×Int×Aa×Int))=>⟨[(0,XM 0),(2,XM 1),(3,XM 4),(4,pz f),(6,pz i.2.2.2)],[(0,.box [XK 1 az2 i.1,pz i.2.1]),(1,.box [.vec 2,.vec 3]),(2,.nilv),(3,.nilv),(4,.box [.vec 5,.vec 6]),(5,vecO 12 azc g.2.2 126),(6,vecO 5 azf i.2.2.1 146)],[],7⟩) (.exit 2) (λ(i:(A1×Int×Aa))=>⟨[(2,XM 1),(3,XM 4)],[(0,.box [XK 1 az2 i.1,pz i.2.1]),(1,.box [.vec 2,.vec 3]),(2,.nilv),(3,.nilv),(4,.box [.vec 5,.vec 6]),(5,vecO 12 azc g.2.2 126),(6,vecO 5 azf i.2.2 146)],[],7⟩) (λi=>.br (qx (i.2.2.2>0)) (.call (azq i.1 i.2.1 f) [(0,0)] λj=>.call (azq j.2.1 j.2.2 9000) [(0,0)] λk=>.call (bzv k.2.1 k.2.2 3) [(0,0)] λm=>.call (bzv m.2.1 m.2.2 2) [(0,0)] λn=>let s:=([(⟨j.1,(qv.wrap (1+k.1)),((qv.wrap (m.1 * 32768)),0,(qv.wrap (n.1 * 32768)))⟩:cz6)]:Aa);let t:=i.2.2.1.length+s.length;
 .conv 10016 (bzx 5 azf s 146)<|.conv 10017 (czx 5 azf i.2.2.1 s 146)<|.grd (t * 40<=140737488355328/\t<=maxLen)<|.nn (n.2.1,n.2.2,(i.2.2.1++s),(qv.wrap (i.2.2.2-1)))) (.oo (i.1,i.2.1,i.2.2.1))) (h.2.1,h.2.2,nl,h.1) [] λi=>.kj ((⟨g.2.2,i.2.2⟩:azo),i.1,i.2.1)
def iz0 (c)(d):=
 mkD Tryz.func35 (nzs c d) 1 [XM 0] [(0,.box [XK 1 az2 c,pz d])] (λr=>.pure (czq r.1)) (λr=>[(0,.box [XK 1 az2 r.2.1,pz r.2.2])])
def wzk (c:A1)(d:Int)(e:Ax):T (Ay×A1×Int):=let f:=([e]:Ay);.conv 1001 (bzx 3 az1 f 96)<|.call (azq c d 4) [(0,0)] λg=>.loop (λ(h:(A1×Int×Ay×Int))=>⟨[(0,XM 0),(3,XM 1),(5,.vec 2),(6,pz h.2.2.2)],[(0,.box [XK 1 az2 h.1,pz h.2.1]),(1,.box [pz e.1,pz e.2.1,pz e.2.2]),(2,vecO 3 az1 h.2.2.1 96)],[],3⟩) (.exit 0) (λ(h:(A1×Int×Ay))=>⟨[(5,.vec 1)],[(0,.box [XK 1 az2 h.1,pz h.2.1]),(1,vecO 3 az1 h.2.2 96)],[],2⟩) (λh=>.br (qx (h.2.2.2>0)) (.jW<|.call (bzv h.1 h.2.1 3) [(0,0)] λi=>.jX<|.call (bzv i.2.1 i.2.2 2) [(0,0)] λj=>.jY<|.call (bzv j.2.1 j.2.2 2) [(0,0)] λk=>let m:=([((qv.wrap (e.1+(qv.wrap (i.1 * 32768)))),(qv.wrap (e.2.1+(qv.wrap (j.1 * 32768)))),(qv.wrap (e.2.2+(qv.wrap (k.1 * 32768)))))]:Ay);let n:=h.2.2.1.length+m.length;
 .conv 5020 (bzx 3 az1 m 96)<|.conv 5021 (czx 3 az1 h.2.2.1 m 96)<|.grd (n * 24<=140737488355328/\n<=maxLen)<|.nn (k.2.1,k.2.2,(h.2.2.1++m),(qv.wrap (h.2.2.2-1)))) (.oo (h.1,h.2.1,h.2.2.1))) (g.2.1,g.2.2,f,g.1) [] λh=>.kj (h.2.2,h.1,h.2.1)
def pzd (c)(d)(e):=
 mkD Tryz.func36 (wzk c d e) 1 [XM 0,.pure (az1 e)] [(0,.box [XK 1 az2 c,pz d])] (λr=>XK 3 az1 r.1) (λr=>[(0,.box [XK 1 az2 r.2.1,pz r.2.2])])
def zzt (c:A1):T azd:=
 .cc (fzs c) λd=>.call (iz0 d.1 d.2) [(0,128)] λe=>let f:=encL 5 azf e.1.Xh;let g:=encL 12 azc e.1.Xb;let h:=(e.1.Xb.length:Int);let i:Nat×Res:=(6,.box [.pure g,.pure f,.vec 7,.vec 8]);
 .loop (λ(j:Ba)=>⟨[(2,XM 0),(3,XM 5),(4,XM 6),(5,pz j.2.2.2)],[(0,.box [.vec 1,.vec 2,.vec 3,.vec 4]),(1,.nilv),(2,.nilv),(3,.nilv),(4,.nilv),(5,.box [XK 1 az2 j.1,pz j.2.1]),i,(7,vecO 3 azk j.2.2.1 98),(8,.nilv)],[],9⟩) (.exit 0) (λ(j:Av)=>⟨[(2,XM 0),(3,XM 5),(4,XM 6)],[(0,.box [.vec 1,.vec 2,.vec 3,.vec 4]),(1,.nilv),(2,.nilv),(3,.nilv),(4,.nilv),(5,.box [XK 1 az2 j.1,pz j.2.1]),i,(7,vecO 3 azk j.2.2 98),(8,.nilv)],[],9⟩) (λj=>.br (qx (j.2.2.2<h)) (.cut 0 (λ(k:Av)=>⟨[(2,XM 0),(3,XM 5),(4,XM 6),(5,pz j.2.2.2)],[(0,.box [.vec 1,.vec 2,.vec 3,.vec 4]),(1,.nilv),(2,.nilv),(3,.nilv),(4,.nilv),(5,.box [XK 1 az2 k.1,pz k.2.1]),i,(7,vecO 3 azk k.2.2 98),(8,.nilv)],[],9⟩) (.call (azq j.1 j.2.1 5) [(0,5)] λk=>.br (qx (k.1<4)) (.call (azq k.2.1 k.2.2 3) [(0,5)] λm=>.ok ((8:Int)≠0) (by decide)<|.call (azq m.2.1 m.2.2 4) [(0,5)] λn=>.call (pzd n.2.1 n.2.2 ((qv.wrap (n.1 * 32768)),0,0)) [(0,5)] λs=>let t:=([(⟨j.2.2.2,(qv.wrap ((qv.wrap ((qv.wrap (1+m.1)) * 65536)).tdiv 8)),s.1⟩:bz7)]:Ab);let w:=j.2.2.1.length+t.length;
 .conv 7015 (bzx 3 azk t 98)<|.conv 7016 (czx 3 azk j.2.2.1 t 98)<|.grd (w * 40<=140737488355328/\w<=maxLen)<|.oo (s.2.1,s.2.2,(j.2.2.1++t))) (.oo (k.2.1,k.2.2,j.2.2.1))) λk=>.nn (k.1,k.2.1,k.2.2,(qv.wrap (j.2.2.2+1)))) (.oo (j.1,j.2.1,j.2.2.1))) (e.2.1,e.2.2,nl,0) [] λj=>.call (azq j.1 j.2.1 3) [(0,5)] λk=>.loop (λ(m:Ba)=>⟨[(2,XM 0),(3,XM 5),(4,XM 6),(6,pz m.2.2.2)],[(0,.box [.vec 1,.vec 2,.vec 3,.vec 4]),(1,.nilv),(2,.nilv),(3,.nilv),(4,.nilv),(5,.box [XK 1 az2 m.1,pz m.2.1]),i,(7,vecO 3 azk m.2.2.1 98),(8,.nilv)],[],9⟩) (.exit 2) (λ(m:Av)=>⟨[(2,XM 0),(3,XM 5),(4,XM 6)],[(0,.box [.vec 1,.vec 2,.vec 3,.vec 4]),(1,.nilv),(2,.nilv),(3,.nilv),(4,.nilv),(5,.box [XK 1 az2 m.1,pz m.2.1]),i,(7,vecO 3 azk m.2.2 98),(8,.nilv)],[],9⟩) (λm=>.br (qx (m.2.2.2>0)) (.call (bzv m.1 m.2.1 9) [(0,5)] λn=>.call (bzv n.2.1 n.2.2 9) [(0,5)] λs=>.call (bzv s.2.1 s.2.2 2) [(0,5)] λt=>.call (azq t.2.1 t.2.2 4) [(0,5)] λw=>.ok ((8:Int)≠0) (by decide)<|.call (pzd w.2.1 w.2.2 ((qv.wrap (n.1 * 32768)),(qv.wrap (s.1 * 32768)),(qv.wrap (t.1 * 32768)))) [(0,5)] λy=>let z:=([(⟨(-1),(qv.wrap ((qv.wrap ((qv.wrap (1+w.1)) * 65536)).tdiv 8)),y.1⟩:bz7)]:Ab);let aa:=m.2.2.1.length+z.length;
 .conv 12011 (bzx 3 azk z 98)<|.conv 12012 (czx 3 azk m.2.2.1 z 98)<|.grd (aa * 40<=140737488355328/\aa<=maxLen)<|.nn (y.2.1,y.2.2,(m.2.2.1++z),(qv.wrap (m.2.2.2-1)))) (.oo (m.1,m.2.1,m.2.2.1))) (k.2.1,k.2.2,j.2.2,(qv.wrap (1+k.1))) [] λm=>.cut 0 (λ(n:Ac)=>⟨[(2,XM 0),(4,XM 5)],[(0,.box [.vec 1,.vec 2,.vec 3,.vec 4]),(1,.nilv),(2,.nilv),(3,.nilv),(4,.nilv),(5,.box [.pure g,.pure f,.vec 6,.vec 7]),(6,vecO 3 azk m.2.2 98),(7,vecO 2 azu n 101)],[],8⟩) (.call (azq m.1 m.2.1 5) [(0,5)] λn=>.br (n.1==1) (.call (azq n.2.1 n.2.2 h) [(0,5)] λs=>let t:=([(⟨(-1),s.1⟩:gz3)]:Ac);
 .conv 14009 (bzx 2 azu t 101)<|.grd (t.length * 16<=140737488355328/\t.length<=maxLen)<|.oo t) (.oo nl)) λn=>.kj (⟨(⟨e.1.Xb,e.1.Xh⟩:azo),m.2.2,n⟩:azd)
def zzs (c):=
 mkD Tryz.func13 (zzt c) 0 [XK 1 az2 c] [] (λr=>.pure (bzh r)) XL
def kzp (c:azo)(d:A1):T A1:=let e:Nat×Res:=(0,.box [XK 12 azc c.Xb,XK 5 azf c.Xh]);.cc (fzs d) λf=>.loop (λ(g:Bb)=>⟨[(2,XM 0),(5,XM 1),(6,.vec 2),(7,pz g.2.2.2)],[e,(1,.box [XK 1 az2 g.1,pz g.2.1]),(2,vecO 1 az2 g.2.2.1 2)],[],3⟩) (.exit 0) (λ(g:A1)=>⟨[(6,.vec 0)],[(0,vecO 1 az2 g 2)],[],1⟩) (λg=>let h:=c.Xb.getD (XI g.2.2.2) qw;let i:=([h.Lo]:A1);let j:=([h.Hi]:A1);let k:=g.2.2.1.length+i.length;let m:=g.2.2.1.length+j.length;.br (qx (g.2.2.2<(c.Xb.length:Int))) (.cut 0 (λ(n:(A1×Int×A1))=>⟨[(2,XM 0),(5,XM 1),(6,.vec 2),(7,pz g.2.2.2)],[e,(1,.box [XK 1 az2 n.1,pz n.2.1]),(2,vecO 1 az2 n.2.2 2)],[],3⟩) (.gh g.2.2.2 c.Xb.length<|.gh g.2.2.2 c.Xb.length<|.call (azq g.1 g.2.1 6) [(0,1)] λn=>.br (n.1==0) (.conv 10002 (bzx 1 az2 i 2)<|.conv 10003 (czx 1 az2 g.2.2.1 i 2)<|.grd (k * 8<=140737488355328/\k<=maxLen)<|.oo (n.2.1,n.2.2,(g.2.2.1++i))) (.br (n.1==1) (.conv 12002 (bzx 1 az2 j 2)<|.conv 12003 (czx 1 az2 g.2.2.1 j 2)<|.grd (m * 8<=140737488355328/\m<=maxLen)<|.oo (n.2.1,n.2.2,(g.2.2.1++j))) (.name 8005 ((qv.wrap ((h.Hi)- (h.Lo)))) λs=>.name 8006 ((qv.wrap (s+1))) λt=>.call (azq n.2.1 n.2.2 t) [(0,1)] λw=>let y:=([(qv.wrap ((h.Lo)+w.1))]:A1);let z:=g.2.2.1.length+y.length;
 .conv 8009 (bzx 1 az2 y 2)<|.conv 8010 (czx 1 az2 g.2.2.1 y 2)<|.grd (z * 8<=140737488355328/\z<=maxLen)<|.oo (w.2.1,w.2.2,(g.2.2.1++y))))) λn=>.nn (n.1,n.2.1,n.2.2,(qv.wrap (g.2.2.2+1)))) (.oo g.2.2.1)) (f.1,f.2,nl,0) [] λg=>.kj g
def pzc (c)(d):=
 mkD Tryz.func43 (kzp c d) 0 [.pure (czq c),XK 1 az2 d] [] (λ_=>.vec 0) (λr=>[(0,vecO 1 az2 r 2)])
def jz0 (c:azo)(d:Int)(e:A1):T A2:=let f:Nat×Res:=(0,.box [XK 12 azc c.Xb,XK 5 azf c.Xh]);.cc (fzs e) λg=>.loop (λ(h:(A1×Int×A2×Int))=>⟨[(1,pz d),(3,XM 0),(7,XM 1),(8,.vec 2),(9,pz h.2.2.2)],[f,(1,.box [XK 1 az2 h.1,pz h.2.1]),(2,vecO 1 (encL 1 az2) h.2.2.1 62)],[],3⟩) (.exit 0) (λ(h:A2)=>⟨[(8,.vec 0)],[(0,vecO 1 (encL 1 az2) h 62)],[],1⟩) (λh=>.br (qx (h.2.2.2<d)) (.loop (λ(i:Bb)=>⟨[(1,pz d),(3,XM 0),(7,XM 1),(8,.vec 2),(9,pz h.2.2.2),(10,.vec 3),(11,pz i.2.2.2)],[f,(1,.box [XK 1 az2 i.1,pz i.2.1]),(2,vecO 1 (encL 1 az2) h.2.2.1 62),(3,vecO 1 az2 i.2.2.1 3)],[],4⟩) (.exit 2) (λ(i:(A1×Int×A1))=>⟨[(1,pz d),(3,XM 0),(7,XM 1),(8,.vec 2),(9,pz h.2.2.2),(10,.vec 3)],[f,(1,.box [XK 1 az2 i.1,pz i.2.1]),(2,vecO 1 (encL 1 az2) h.2.2.1 62),(3,vecO 1 az2 i.2.2 3)],[],4⟩) (λi=>.br (qx (i.2.2.2<(qv.wrap (2 * (c.Xb.length:Int))))) (.call (azq i.1 i.2.1 1048576) [(0,1)] λj=>let k:=([j.1]:A1);let m:=i.2.2.1.length+k.length;
 .conv 10003 (bzx 1 az2 k 3)<|.conv 10004 (czx 1 az2 i.2.2.1 k 3)<|.grd (m * 8<=140737488355328/\m<=maxLen)<|.nn (j.2.1,j.2.2,(i.2.2.1++k),(qv.wrap (i.2.2.2+1)))) (.oo (i.1,i.2.1,i.2.2.1))) (h.1,h.2.1,nl,0) [] λi=>.cc (pzc c i.2.2) λj=>let k:=([j]:A2);let m:=h.2.2.1.length+k.length;
 .conv 11004 (bzx 1 (encL 1 az2) k 62)<|.conv 11005 (czx 1 (encL 1 az2) h.2.2.1 k 62)<|.grd (m * 24<=140737488355328/\m<=maxLen)<|.nn (i.1,i.2.1,(h.2.2.1++k),(qv.wrap (h.2.2.2+1)))) (.oo h.2.2.1)) (g.1,g.2,nl,0) [] λh=>.kj h
def izz (c)(d)(e):=
 mkD Tryz.func15 (jz0 c d e) 0 [.pure (czq c),pz d,XK 1 az2 e] [] (λ_=>.vec 0) (λr=>[(0,vecO 1 (encL 1 az2) r 62)])
def Ez6 (c:ByteArray):T Bool:=let d:=(c.size:Int);.cut 2 (λ(e:Bool)=>⟨[(0,.pure (.str c)),(16,XJ e)],[],[],0⟩) (.br (qx (d<1)) (.oo true) (.br (qx (d>16)) (.oo true) (.oo (c==(⟨#[119,111,114,108,100]⟩:ByteArray))))) λe=>.br e (.kj false) (.loop (λ(f:Int)=>⟨[(0,.pure (.str c)),(3,pz f)],[],[],0⟩) (.exit 0) XN (λf=>let g:=((c.data.getD f.toNat 0).toNat:Int);.br (qx (f<d)) (.cut 1 (λ(h:Bool)=>⟨[(0,.pure (.str c)),(3,pz f),(4,XJ h)],[],[],0⟩) (.gh f c.size<|.br (qx (g>=97)) (.gh f c.size<|.oo (qx (g<=122))) (.oo false)) λh=>.cut 0 (λ(i:Bool)=>⟨[(0,.pure (.str c)),(3,pz f),(56,XJ i)],[],[],0⟩) (.br (!h) (.br (f==0) (.oo true) (.gh f c.size<|.br (g !=95) (.gh f c.size<|.br (qx (g<48)) (.oo true) (.gh f c.size<|.oo (qx (g>57)))) (.oo false))) (.oo false)) λi=>.br i (.ff false) (.nn (qv.wrap (f+1)))) (.oo .u))
 0 [] λ_=>.kj true)
def Mz7 (c):=
 mkD Tryz.func112 (Ez6 c) 0 [.pure (.str c)] [] XJ XL
def Ez7 (c:Ax)(d:Int):T Bool:=let e:=qv.wrap (0-d);let f:Nat×Res:=(0,.box [pz c.1,pz c.2.1,pz c.2.2]);.unroll 4<|.kh<|.cut 1 (λ(g:Bool)=>⟨[(1,pz d),(2,XM 0),(5,pz 0),(22,XJ g)],[f],[],1⟩) (.jW<|.br (qx (c.1<e)) (.oo true) (.jW<|.oo (qx (c.1>d)))) λg=>.br g (.kj false) (.lit 3001 1<|.kh<|.cut 1 (λ(h:Bool)=>⟨[(1,pz d),(2,XM 0),(5,pz 1),(22,XJ h)],[f],[],1⟩) (.jX<|.br (qx (c.2.1<e)) (.oo true) (.jX<|.oo (qx (c.2.1>d)))) λh=>.br h (.kj false) (.lit 3001 2<|.kh<|.cut 1 (λ(i:Bool)=>⟨[(1,pz d),(2,XM 0),(5,pz 2),(22,XJ i)],[f],[],1⟩) (.jY<|.br (qx (c.2.2<e)) (.oo true) (.jY<|.oo (qx (c.2.2>d)))) λi=>.br i (.kj false) (.lit 3001 3<|.ki<|.kj true)))
def fzu (c)(d):=
 mkD Tryz.func78 (Ez7 c d) 0 [.pure (az1 c),pz d] [] XJ XL
def Bz0 (c:Int):T Int:=
 .br (c==0) (.kj 0) (.cut 0 (λ(d:Bool)=>⟨[(6,XJ d)],[],[],0⟩) (.br (c==1) (.oo (c==1)) (.br (c==2) (.oo (c==2)) (.oo (c==3)))) λd=>.br d (.kj 524288) (.kj 4194304))
def Jz1 (c):=
 mkD Tryz.func113 (Bz0 c) 0 [pz c] [] pz XL
def uzd (c:Int)(d:Int)(e:Int):T Bool:=
 .br (qx (d<=c)) (.kj (qx (c<=e))) (.kj false)
def fzv (c)(d)(e):=
 mkD Tryz.func77 (uzd c d e) 0 [pz c,pz d,pz e] [] XJ XL
def mzr (c:A9)(d:Int):T Int:=let e:=c.getD (d.toNat) qw;let f:=e.XA;let g:=e.Xm;let h:=e.Xt;let i:Nat×Res:=(0,.box [.pure (.str f),pz g,pz h,pz (e.Xw.1),pz (e.Xw.2.1),pz (e.Xw.2.2),pz (e.Lo),pz (e.Hi),pz (e.XB),pz (e.XF),pz (e.XG),pz (e.XE)]);.gh d c.length<|.cc (Mz7 f) λj=>.br (!j) (.kj 802) (.loop (λ(k:Int)=>⟨[(0,XK 12 azc c),(1,pz d),(5,XM 0),(6,pz k)],[i],[],1⟩) (.exit 0) (λ(_:U0)=>⟨[(1,pz d),(5,XM 0)],[i],[],1⟩) (λk=>.br (qx (k<d)) (.gh k c.length<|.br (((c.getD (k.toNat) qw).XA)==f) (.ff 802) (.nn (qv.wrap (k+1)))) (.oo .u))
 0 [] λ_=>.cut 1 (λ(k:Bool)=>⟨[(1,pz d),(5,XM 0),(36,XJ k)],[i],[],1⟩) (.br (qx (g<0)) (.oo true) (.oo (qx (g>6)))) λk=>.br k (.kj 803) (.cut 1 (λ(m:Bool)=>⟨[(5,XM 0),(45,XJ m)],[i],[],1⟩) (.br (qx (h<(-1))) (.oo true) (.oo (qx (h>=d)))) λm=>.br m (.kj 804) (.cc (fzu (e.Xw) 4194304) λn=>.br (!n) (.kj 805) (.cc (Jz1 g) λs=>.cut 0 (λ(t:Bool)=>⟨[(5,XM 0),(70,XJ t)],[i],[],1⟩) (.br (qx ((e.Lo)>(e.Hi))) (.oo true) (.br (qx ((e.Lo)<(qv.wrap (0-s)))) (.oo true) (.oo (qx ((e.Hi)>s))))) λt=>.br t (.kj 806) (.cut 1 (λ(w:Bool)=>⟨[(92,XJ w)],[],[],0⟩) (.cc (fzv (e.XB) 1 1024) λw=>.br (!w) (.oo true) (.cc (fzv (e.XF) 1 1048576) λy=>.br (!y) (.oo true) (.cc (fzv (e.XG) 1 1048576) λz=>.br (!z) (.oo true) (.cc (fzv (e.XE) 1 1099511627776) λaa=>.oo (!aa))))) λw=>.br w (.kj 807) (.kj 0))))))
def vzf (c)(d):=
 mkD Tryz.func76 (mzr c d) 0 [XK 12 azc c,pz d] [] pz XL
def mzp (c:azo):T Int:=let d:=(c.Xb.length:Int);let e:=(c.Xh.length:Int);let f:Nat×Res:=(0,.box [XK 12 azc c.Xb,XK 5 azf c.Xh]);.cut 2 (λ(g:Bool)=>⟨[(1,XM 0),(16,XJ g)],[f],[],1⟩) (.br (qx (d<1)) (.oo true) (.oo (qx (d>10)))) λg=>.br g (.kj 801) (.loop (λ(h:Int)=>⟨[(1,XM 0),(3,pz h)],[f],[],1⟩) (.exit 0) (λ(_:U0)=>⟨[(1,XM 0)],[f],[],1⟩) (λh=>.br (qx (h<d)) (.cc (vzf c.Xb h) λi=>.br (i !=0) (.ff i) (.nn (qv.wrap (h+1)))) (.oo .u))
 0 [] λ_=>.br (qx (e>32)) (.kj 808) (.loop (λ(h:Int)=>⟨[(1,XM 0),(5,pz h)],[f],[],1⟩) (.exit 2) XN (λh=>let i:=c.Xh.getD (h.toNat) qw;.br (qx (h<e)) (.gh h c.Xh.length<|.cut 0 (λ(j:Bool)=>⟨[(1,XM 0),(5,pz h),(69,XJ j)],[f],[],1⟩) (.br (qx ((i.Xp)<0)) (.oo true) (.br (qx ((i.Xp)>=d)) (.oo true) (.cc (fzv (i.XH) 1 65536) λj=>.br (!j) (.oo true) (.cc (fzu (i.XD) 4194304) λk=>.oo (!k))))) λj=>.br j (.ff 808) (.nn (qv.wrap (h+1)))) (.oo .u))
 0 [] λ_=>.kj 0))
def czs (c):=
 mkD Tryz.func38 (mzp c) 0 [.pure (czq c)] [] pz XL
def tzm (c:azo)(d:A1):T Bool:=let e:=encL 1 az2 d;let f:=(d.length:Int);let g:Nat×Res:=(0,.box [XK 12 azc c.Xb,XK 5 azf c.Xh]);.cut 2 (λ(h:Bool)=>⟨[(1,.pure e),(2,XM 0),(16,XJ h)],[g],[],1⟩) (.cc (czs c) λh=>.br (h !=0) (.oo true) (.oo (f !=(c.Xb.length:Int)))) λh=>.br h (.kj false) (.loop (λ(i:Int)=>⟨[(1,.pure e),(2,XM 0),(5,pz i)],[g],[],1⟩) (.exit 0) XN (λi=>let j:=d.getD (i.toNat) qw;let k:=c.Xb.getD (i.toNat) qw;.br (qx (i<f)) (.cut 1 (λ(m:Bool)=>⟨[(1,.pure e),(2,XM 0),(5,pz i),(46,XJ m)],[g],[],1⟩) (.gh i d.length<|.gh i c.Xb.length<|.br (qx (j<(k.Lo))) (.oo true) (.gh i d.length<|.gh i c.Xb.length<|.oo (qx (j>(k.Hi))))) λm=>.br m (.ff false) (.nn (qv.wrap (i+1)))) (.oo .u))
 0 [] λ_=>.kj true)
def hz9 (c)(d):=
 mkD Tryz.func39 (tzm c d) 0 [.pure (czq c),XK 1 az2 d] [] XJ XL
def jzt (c:A1)(d:A1):T Bool:=let e:=(c.length:Int);.br (e !=(d.length:Int)) (.kj false) (.loop (λ(f:Int)=>⟨[(0,XK 1 az2 c),(1,XK 1 az2 d),(5,pz f)],[],[],0⟩) (.exit 0) XN (λf=>.br (qx (f<e)) (.gh f c.length<|.gh f d.length<|.br ((c.getD (f.toNat) qw) !=(d.getD (f.toNat) qw)) (.ff false) (.nn (qv.wrap (f+1)))) (.oo .u))
 0 [] λ_=>.kj true)
def qzr (c)(d):=
 mkD Tryz.func79 (jzt c d) 0 [XK 1 az2 c,XK 1 az2 d] [] XJ XL
def qzx (c:A2)(d:A1):T Int:=
 .loop (λ(e:Int)=>⟨[(0,.vec 0),(1,XK 1 az2 d),(5,pz e)],[(0,vecO 1 (encL 1 az2) c 62)],[],1⟩) (.exit 0) (λ(_:U0)=>⟨[],[(0,vecO 1 (encL 1 az2) c 62)],[],1⟩) (λe=>.br (qx (e<(c.length:Int))) (.gg e c.length<|.cc (qzr (c.getD (e.toNat) qw) d) λf=>.br f (.ff e) (.nn (qv.wrap (e+1)))) (.oo .u))
 0 [] λ_=>.kj (-1)
def lzh (c)(d):=
 mkD Tryz.func40 (qzx c d) 1 [.vec 0,XK 1 az2 d] [(0,vecO 1 (encL 1 az2) c 62)] pz (λ_=>[(0,vecO 1 (encL 1 az2) c 62)])
end Go.Abs
