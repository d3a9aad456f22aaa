import Derived.Test.YtjonhijmljhjlaaGreatYJRngF
import Derived.Test.YtjonhijmljhjlaaGreatYJLend
import Derived.Test.YtjonhijmljhjlaaGreatChecked
open Decidable renaming decide->qw
open Go.IntKind renaming i64->qu
open Inhabited renaming default->qv
open List renaming replicate->qt
open Int renaming toNat->XI
noncomputable section
set_option maxHeartbeats 8000000
set_option maxRecDepth 20000
namespace Go.Abs
open Go.Proofs
noncomputable abbrev XJ (x:Bool):AVal:=.pure (.bool x)
noncomputable abbrev XK {α:Type}[Inhabited α](n:Nat)(e:α->PVal)(l:List α):AVal:=.pure (encL n e l)
noncomputable abbrev XL {α β:Type}:α->List β:=λ_=>[]
noncomputable abbrev XM (i:Nat):AVal:=.ptr i 0
abbrev XN:U0->St:=λ_=>⟨[],[],[],0⟩
noncomputable abbrev pz (x:Int):AVal:=.pure (.int .i64 x)
theorem hd:gzd Tryz.prog az84:=Zz7 (by kernel_rfl)
noncomputable abbrev mkD {R:Type}{f:FuncId}{fn:Func}(hf:Tryz.prog.funcs[f]?=some fn)(t:T R)(k:Nat)(args:List AVal)(m:Mem)(res:R->AVal)(m1:R->Mem)(hb:(fn.body.isSome&& !(fn.name== "runtime.NumGoroutine"))=true:=by kernel_rfl)(h:(Bz7 Tryz.prog [] az84 fn (fn.body.getD .skip) k k t args m res m1).side true=(Bz7 Tryz.prog [] az84 fn (fn.body.getD .skip) k k t args m res m1).side false:=by kernel_rfl):CallS R:=mkC [] hd hf hb t k args m res m1 h
noncomputable abbrev T.j8 {R:Type}(k:T R):T R:=.ix 0 3 rfl k
noncomputable abbrev T.j9 {R:Type}(k:T R):T R:=.ix 1 3 rfl k
noncomputable abbrev T.ka {R:Type}(k:T R):T R:=.ix 2 3 rfl k
noncomputable abbrev T.kb {R:Type}(k:T R):T R:=.ix 1 11 rfl k
noncomputable abbrev T.kc {R:Type}(k:T R):T R:=.ix 2 11 rfl k
noncomputable abbrev T.kd {R:Type}(k:T R):T R:=.ix 3 11 rfl k
noncomputable abbrev T.ke {R:Type}(k:T R):T R:=.ix 4 11 rfl k
noncomputable abbrev T.kf {R:Type}(k:T R):T R:=.ix 5 11 rfl k
noncomputable abbrev T.kg {R:Type}(k:T R):T R:=.ix 6 11 rfl k
noncomputable abbrev T.kh {R:Type}(k:T R):T R:=.ix 7 11 rfl k
noncomputable abbrev T.ki {R:Type}(k:T R):T R:=.ix 8 11 rfl k
noncomputable abbrev T.kj {R:Type}(k:T R):T R:=.known true k
noncomputable abbrev T.kl {R:Type}(k:T R):T R:=.known false k
noncomputable abbrev T.km {R:Type}(r:R):T R:=.ret r
noncomputable abbrev T.gg {R:Type}(i:Int)(n:Nat)(k:T R):T R:=.grd (0<=i/\i<(n:Int)) (.grd (i.toNat<n) k)
noncomputable abbrev T.gh {R:Type}(i:Int)(n:Nat)(k:T R):T R:=.grd (0<=i/\i<(n:Int)) k
noncomputable abbrev T.gi {R:Type}(i:Int)(n:Nat)(k:T R):T R:=.grd (i.toNat<n/\0<=i.toNat) k
noncomputable abbrev T.oo {σ τ R:Type}(y:τ):T (Step3 σ τ R):=.ret (.out y)
noncomputable abbrev T.nn {σ τ R:Type}(x:σ):T (Step3 σ τ R):=.ret (.next x)
noncomputable abbrev T.ff {σ τ R:Type}(r:R):T (Step3 σ τ R):=.ret (.fin r)
noncomputable abbrev T.cc {R α:Type}(c:CallS α)(k:α->T R):T R:=.call c [] k
structure bz1 where
 XB:ByteArray
 Xl:Int
 Xt:Int
 Xy:(Int×Int×Int)
 Lo:Int
 Hi:Int
 XA:Int
 XF:Int
 XG:Int
 XD:Int
instance:Inhabited bz1:=⟨⟨qv,qv,qv,qv,qv,qv,qv,qv,qv,qv⟩⟩
structure czj where
 Xp:Int
 XH:Int
 XE:(Int×Int×Int)
instance:Inhabited czj:=⟨⟨qv,qv,qv⟩⟩
structure azn where
 Xa:(List bz1)
 Xi:(List czj)
instance:Inhabited azn:=⟨⟨qv,qv⟩⟩
structure bz9 where
 Xp:Int
 Xs:Int
 Xb:(List (Int×Int×Int))
instance:Inhabited bz9:=⟨⟨qv,qv,qv⟩⟩
structure jz7 where
 A:Int
 B:Int
instance:Inhabited jz7:=⟨⟨qv,qv⟩⟩
structure azd where
 Xe:azn
 Xc:(List bz9)
 Xj:(List jz7)
instance:Inhabited azd:=⟨⟨qv,qv,qv⟩⟩
structure az6 where
 Xg:Int
 Xh:Int
 Xf:(List (Int×Int×Int))
instance:Inhabited az6:=⟨⟨qv,qv,qv⟩⟩
structure bze where
 XC:Int
 Left:(List Int)
 Xx:(List Int)
instance:Inhabited bze:=⟨⟨qv,qv,qv⟩⟩
structure azo where
 Xl:Int
 Xo:(List az6)
 At:az6
 Xk:bze
instance:Inhabited azo:=⟨⟨qv,qv,qv,qv⟩⟩
structure az4 where
 U:Int
 V:Int
 Xu:Int
 Xq:Int
 Xm:azo
instance:Inhabited az4:=⟨⟨qv,qv,qv,qv,qv⟩⟩
structure azi where
 Xb:(List (List Int))
 Xd:(List az4)
instance:Inhabited azi:=⟨⟨qv,qv⟩⟩
structure dzs where
 Xr:(List Int)
 Xu:Int
instance:Inhabited dzs:=⟨⟨qv,qv⟩⟩
structure azh where
 to:Int
 cost:Int
instance:Inhabited azh:=⟨⟨qv,qv⟩⟩
structure azf where
 cost:Int
 points:Int
instance:Inhabited azf:=⟨⟨qv,qv⟩⟩
structure azj where
 rank:azf
 point:Int
instance:Inhabited azj:=⟨⟨qv,qv⟩⟩
structure Pz2 where
 list:(List Int)
 next:Int
instance:Inhabited Pz2:=⟨⟨qv,qv⟩⟩
structure azz where
 depth:Int
 index:Int
 hints:(List (Int×Int×Int))
instance:Inhabited azz:=⟨⟨qv,qv,qv⟩⟩
structure az0 where
 Lo:Int
 Hi:Int
instance:Inhabited az0:=⟨⟨qv,qv⟩⟩
structure bz5 where
 points:(List (az0×az0×az0))
 radius:Int
instance:Inhabited bz5:=⟨⟨qv,qv⟩⟩
structure bz2 where
 R:((az0×az0×az0)×(az0×az0×az0)×(az0×az0×az0))
 T:(az0×az0×az0)
instance:Inhabited bz2:=⟨⟨qv,qv⟩⟩
structure czf where
 A:Int
 B:Int
instance:Inhabited czf:=⟨⟨qv,qv⟩⟩
structure dzv where
 Xl:Int
 Xf:(List (Int×Int×Int))
 Xk:bze
instance:Inhabited dzv:=⟨⟨qv,qv,qv⟩⟩
structure dzu where
 Xl:Int
 Xz:(Int×Int×Int)
 Left:(List Int)
 Xx:(List Int)
 Steps:Int
instance:Inhabited dzu:=⟨⟨qv,qv,qv,qv,qv⟩⟩
structure izi where
 Xu:Int
 Xd:Int
instance:Inhabited izi:=⟨⟨qv,qv⟩⟩
structure czx where
 Xg:Int
 Xh:Int
 Xn:(List Int)
instance:Inhabited czx:=⟨⟨qv,qv,qv⟩⟩
structure azq where
 Xw:(List (Int×Int×Int))
 Xv:(List czx)
instance:Inhabited azq:=⟨⟨qv,qv⟩⟩
structure czy where
 Xb:(List (List Int))
 Xd:(List azq)
instance:Inhabited czy:=⟨⟨qv,qv⟩⟩
structure fz8 where
 scene:azd
 depth:Int
instance:Inhabited fz8:=⟨⟨qv,qv⟩⟩
structure czk where
 shapes:(List bz9)
 pairs:(List czf)
 points:(List (List (az0×az0×az0)))
instance:Inhabited czk:=⟨⟨qv,qv,qv⟩⟩
structure gze where
 a:(List (az0×az0×az0))
 b:(List (az0×az0×az0))
 ra:Int
 rb:Int
instance:Inhabited gze:=⟨⟨qv,qv,qv,qv⟩⟩
structure fzy where
 points:(List (az0×az0×az0))
 radius:Int
instance:Inhabited fzy:=⟨⟨qv,qv⟩⟩
structure ez5 where
 a:fzy
 b:fzy
instance:Inhabited ez5:=⟨⟨qv,qv⟩⟩
structure szk where
 points:(List (Int×Int×Int))
 weights:(List Int)
instance:Inhabited szk:=⟨⟨qv,qv⟩⟩
structure Bzy where
 list:szk
instance:Inhabited Bzy:=⟨⟨qv⟩⟩
structure yzf where
 list:szk
instance:Inhabited yzf:=⟨⟨qv⟩⟩
structure Kz6 where
 left:Bzy
 right:yzf
 normal:(Int×Int×Int)
 rounds:Int
instance:Inhabited Kz6:=⟨⟨qv,qv,qv,qv⟩⟩
structure fz5 where
 witness:bze
instance:Inhabited fz5:=⟨⟨qv⟩⟩
structure bzx where
 normals:(List (Int×Int×Int))
instance:Inhabited bzx:=⟨⟨qv⟩⟩
structure bzf where
 scene:azd
 p:(List Int)
 q:(List Int)
 pieces:(List az6)
instance:Inhabited bzf:=⟨⟨qv,qv,qv,qv⟩⟩
abbrev A0:=List az6
abbrev A1:=List Int
abbrev A2:=List A1
abbrev A3:=List az4
abbrev A4:=A2×A3
abbrev A5:=List azh
abbrev A6:=List A5
abbrev A7:=List azj
abbrev A8:=List azf
abbrev A9:=A1×Int
abbrev Aa:=List bz1
abbrev Ab:=List czj
abbrev Ac:=List bz9
abbrev Ad:=List jz7
abbrev Ae:=A2×Int
abbrev Af:=A3×Int
abbrev Ag:=List az0
abbrev Ah:=List bz2
abbrev Ai:=List czf
abbrev Aj:=Ai×Int
abbrev Ak:=List bz5
abbrev Al:=List azz
abbrev Am:=A0×Int
abbrev An:=List czx
abbrev Ao:=List azq
abbrev Ap:=Ao×Int
abbrev Aq:=Int×Int
abbrev Ar:=Int×Bool
abbrev As:=A1×Int×Ac
abbrev Au:=A1×Int×Int
abbrev Av:=A2×A3×Bool
abbrev Aw:=Int×Int×Int
abbrev Ax:=List Aw
abbrev Ay:=Ax×Int
abbrev B0:=List (Aw×Int)
abbrev B1:=Aw×Bool
abbrev B2:=az0×az0×az0
abbrev B3:=List B2
abbrev B4:=List B3
abbrev B5:=B2×B2×B2
abbrev B6:=Int×Int×Bool
abbrev B7:=Bool×Bool×Aw
abbrev B8:=A1×Int×Ac×Int
abbrev B9:=A1×Int×A1×Int
abbrev Ba:=A0×Int×Int×Ax
abbrev Bb:=Int×A1×Int×Int
abbrev Bc:=Int×Int×Int×Int
abbrev Bd:=Int×Int×Int×Int×Int
abbrev Be:=Int×Int×Int×Int×Int×Int
abbrev Bf:=Bool×Aw×B3×B3×Int×Int×Ax
abbrev Bg:=Int×Int×Int×Int×Int×Int×Int
abbrev Bh:=Int×Int×Int×Int×Int×Int×Int×Int×Int×Int×Int
abbrev Bi:=Bool×A0×Int×A0×Int×Int×Ax×Int×A1×A1×A1×A1×Aa×Ab×Ac×Ad×Int
abbrev Bj:=Int×Int×Int×Int×Int×Int×Int×Int×Int×Int×Int×Int×Int×Int×Int×Int×Int×Int×Int×Int×Int×Int×Int×Int
def aze (v:bz1):PVal:=.agg [.str v.XB,.int .i64 v.Xl,.int .i64 v.Xt,.int .i64 v.Xy.1,.int .i64 v.Xy.2.1,.int .i64 v.Xy.2.2,.int .i64 v.Lo,.int .i64 v.Hi,.int .i64 v.XA,.int .i64 v.XF,.int .i64 v.XG,.int .i64 v.XD]
def azk (v:czj):PVal:=.agg [.int .i64 v.Xp,.int .i64 v.XH,.int .i64 v.XE.1,.int .i64 v.XE.2.1,.int .i64 v.XE.2.2]
def dz0 (v:azn):PVal:=.agg [encL 12 aze v.Xa,encL 5 azk v.Xi]
def az1 (v:Aw):PVal:=.agg [.int .i64 v.1,.int .i64 v.2.1,.int .i64 v.2.2]
def azm (v:bz9):PVal:=.agg [.int .i64 v.Xp,.int .i64 v.Xs,encL 3 az1 v.Xb]
def azu (v:jz7):PVal:=.agg [.int .i64 v.A,.int .i64 v.B]
def bzk (v:azd):PVal:=.agg [encL 12 aze v.Xe.Xa,encL 5 azk v.Xe.Xi,encL 3 azm v.Xc,encL 2 azu v.Xj]
def azl (v:az6):PVal:=.agg [.int .i64 v.Xg,.int .i64 v.Xh,encL 3 az1 v.Xf]
def gz6 (v:azo):PVal:=.agg [.int .i64 v.Xl,encL 3 azl v.Xo,.int .i64 v.At.Xg,.int .i64 v.At.Xh,encL 3 az1 v.At.Xf,.int .i64 v.Xk.XC,encL 1 az2 v.Xk.Left,encL 1 az2 v.Xk.Xx]
def az5 (v:az4):PVal:=.agg [.int .i64 v.U,.int .i64 v.V,.int .i64 v.Xu,.int .i64 v.Xq,.int .i64 v.Xm.Xl,encL 3 azl v.Xm.Xo,.int .i64 v.Xm.At.Xg,.int .i64 v.Xm.At.Xh,encL 3 az1 v.Xm.At.Xf,.int .i64 v.Xm.Xk.XC,encL 1 az2 v.Xm.Xk.Left,encL 1 az2 v.Xm.Xk.Xx]
def dzt (v:azi):PVal:=.agg [encL 1 (encL 1 az2) v.Xb,encL 12 az5 v.Xd]
def yzs (v:dzs):PVal:=.agg [encL 1 az2 v.Xr,.int .i64 v.Xu]
def bz6 (v:azh):PVal:=.agg [.int .i64 v.to,.int .i64 v.cost]
def bzm (v:azf):PVal:=.agg [.int .i64 v.cost,.int .i64 v.points]
def bz0 (v:azj):PVal:=.agg [.int .i64 v.rank.cost,.int .i64 v.rank.points,.int .i64 v.point]
def iz7 (v:azz):PVal:=.agg [.int .i64 v.depth,.int .i64 v.index,encL 3 az1 v.hints]
def azb (v:az0):PVal:=.agg [.int .i64 v.Lo,.int .i64 v.Hi]
def az3 (v:B2):PVal:=.agg [.int .i64 v.1.Lo,.int .i64 v.1.Hi,.int .i64 v.2.1.Lo,.int .i64 v.2.1.Hi,.int .i64 v.2.2.Lo,.int .i64 v.2.2.Hi]
def bzi (v:bz5):PVal:=.agg [encL 6 az3 v.points,.int .i64 v.radius]
def bzu (v:bz2):PVal:=.agg [.int .i64 v.R.1.1.Lo,.int .i64 v.R.1.1.Hi,.int .i64 v.R.1.2.1.Lo,.int .i64 v.R.1.2.1.Hi,.int .i64 v.R.1.2.2.Lo,.int .i64 v.R.1.2.2.Hi,.int .i64 v.R.2.1.1.Lo,.int .i64 v.R.2.1.1.Hi,.int .i64 v.R.2.1.2.1.Lo,.int .i64 v.R.2.1.2.1.Hi,.int .i64 v.R.2.1.2.2.Lo,.int .i64 v.R.2.1.2.2.Hi,.int .i64 v.R.2.2.1.Lo,.int .i64 v.R.2.2.1.Hi,.int .i64 v.R.2.2.2.1.Lo,.int .i64 v.R.2.2.2.1.Hi,.int .i64 v.R.2.2.2.2.Lo,.int .i64 v.R.2.2.2.2.Hi,.int .i64 v.T.1.Lo,.int .i64 v.T.1.Hi,.int .i64 v.T.2.1.Lo,.int .i64 v.T.2.1.Hi,.int .i64 v.T.2.2.Lo,.int .i64 v.T.2.2.Hi]
def ez9 (v:czf):PVal:=.agg [.int .i64 v.A,.int .i64 v.B]
def vzs (v:dzv):PVal:=.agg [.int .i64 v.Xl,encL 3 az1 v.Xf,.int .i64 v.Xk.XC,encL 1 az2 v.Xk.Left,encL 1 az2 v.Xk.Xx]
def Kzs (v:dzu):PVal:=.agg [.int .i64 v.Xl,.int .i64 v.Xz.1,.int .i64 v.Xz.2.1,.int .i64 v.Xz.2.2,encL 1 az2 v.Left,encL 1 az2 v.Xx,.int .i64 v.Steps]
def Ezh (v:Aq):PVal:=.agg [.int .i64 v.1,.int .i64 v.2]
def cz4 (v:czx):PVal:=.agg [.int .i64 v.Xg,.int .i64 v.Xh,encL 1 az2 v.Xn]
def azy (v:azq):PVal:=.agg [encL 3 az1 v.Xw,encL 3 cz4 v.Xv]
def vzr (v:czy):PVal:=.agg [encL 1 (encL 1 az2) v.Xb,encL 2 azy v.Xd]
def qza (v:fz8):PVal:=.agg [encL 12 aze v.scene.Xe.Xa,encL 5 azk v.scene.Xe.Xi,encL 3 azm v.scene.Xc,encL 2 azu v.scene.Xj,.int .i64 v.depth]
def mz3 (v:czk):PVal:=.agg [encL 3 azm v.shapes,encL 2 ez9 v.pairs,encL 1 (encL 6 az3) v.points]
def Kzt (v:Bc):PVal:=.agg [.int .i64 v.1,.int .i64 v.2.1,.int .i64 v.2.2.1,.int .i64 v.2.2.2]
def Dzd (v:gze):PVal:=.agg [encL 6 az3 v.a,encL 6 az3 v.b,.int .i64 v.ra,.int .i64 v.rb]
def Nz6 (v:fzy):PVal:=.agg [encL 6 az3 v.points,.int .i64 v.radius]
def qzb (v:ez5):PVal:=.agg [encL 6 az3 v.a.points,.int .i64 v.a.radius,encL 6 az3 v.b.points,.int .i64 v.b.radius]
def yzc (v:fz5):PVal:=.agg [.int .i64 v.witness.XC,encL 1 az2 v.witness.Left,encL 1 az2 v.witness.Xx]
def hz1 (v:bzx):PVal:=.agg [encL 3 az1 v.normals]
def gzb (v:bzf):PVal:=.agg [encL 12 aze v.scene.Xe.Xa,encL 5 azk v.scene.Xe.Xi,encL 3 azm v.scene.Xc,encL 2 azu v.scene.Xj,encL 1 az2 v.p,encL 1 az2 v.q,encL 3 azl v.pieces]
def azv (v:Aw):List PVal:=[.int .i64 v.1,.int .i64 v.2.1,.int .i64 v.2.2]
def bzl (v:B5):PVal:=.agg [.int .i64 v.1.1.Lo,.int .i64 v.1.1.Hi,.int .i64 v.1.2.1.Lo,.int .i64 v.1.2.1.Hi,.int .i64 v.1.2.2.Lo,.int .i64 v.1.2.2.Hi,.int .i64 v.2.1.1.Lo,.int .i64 v.2.1.1.Hi,.int .i64 v.2.1.2.1.Lo,.int .i64 v.2.1.2.1.Hi,.int .i64 v.2.1.2.2.Lo,.int .i64 v.2.1.2.2.Hi,.int .i64 v.2.2.1.Lo,.int .i64 v.2.2.1.Hi,.int .i64 v.2.2.2.1.Lo,.int .i64 v.2.2.2.1.Hi,.int .i64 v.2.2.2.2.Lo,.int .i64 v.2.2.2.2.Hi]
def jzr (v:Bh):PVal:=.agg [.int .i64 v.1,.int .i64 v.2.1,.int .i64 v.2.2.1,.int .i64 v.2.2.2.1,.int .i64 v.2.2.2.2.1,.int .i64 v.2.2.2.2.2.1,.int .i64 v.2.2.2.2.2.2.1,.int .i64 v.2.2.2.2.2.2.2.1,.int .i64 v.2.2.2.2.2.2.2.2.1,.int .i64 v.2.2.2.2.2.2.2.2.2.1,.int .i64 v.2.2.2.2.2.2.2.2.2.2]
theorem az8c:GuardFn Tryz.prog 44:=
 dzh (fn:=Tryz.f44) Tryz.func44 (by kernel_rfl) ⟨0,(gOps Tryz.f44).getD 0 qv,(gOps Tryz.f44).getD 1 qv,4,5,gX Tryz.f44,gC ((gOps Tryz.f44).getD 0 qv),20,20,by kernel_rfl,by kernel_rfl,by kernel_rfl,by kernel_rfl,by kernel_rfl,by kernel_rfl,by kernel_rfl,by kernel_rfl,⟨gMs (Tryz.prog.underlying 20),by kernel_rfl⟩,by decide,by decide,by kernel_rfl⟩
theorem az8d:GuardFn Tryz.prog 48:=
 dzh (fn:=Tryz.f48) Tryz.func48 (by kernel_rfl) ⟨0,(gOps Tryz.f48).getD 0 qv,(gOps Tryz.f48).getD 1 qv,2,3,gX Tryz.f48,gC ((gOps Tryz.f48).getD 0 qv),20,20,by kernel_rfl,by kernel_rfl,by kernel_rfl,by kernel_rfl,by kernel_rfl,by kernel_rfl,by kernel_rfl,by kernel_rfl,⟨gMs (Tryz.prog.underlying 20),by kernel_rfl⟩,by decide,by decide,by kernel_rfl⟩
theorem az8e:GuardFn Tryz.prog 59:=
 dzh (fn:=Tryz.f59) Tryz.func59 (by kernel_rfl) ⟨0,(gOps Tryz.f59).getD 0 qv,(gOps Tryz.f59).getD 1 qv,3,4,gX Tryz.f59,gC ((gOps Tryz.f59).getD 0 qv),20,20,by kernel_rfl,by kernel_rfl,by kernel_rfl,by kernel_rfl,by kernel_rfl,by kernel_rfl,by kernel_rfl,by kernel_rfl,⟨gMs (Tryz.prog.underlying 20),by kernel_rfl⟩,by decide,by decide,by kernel_rfl⟩
theorem az8f:GuardFn Tryz.prog 62:=
 dzh (fn:=Tryz.f62) Tryz.func62 (by kernel_rfl) ⟨0,(gOps Tryz.f62).getD 0 qv,(gOps Tryz.f62).getD 1 qv,2,3,gX Tryz.f62,gC ((gOps Tryz.f62).getD 0 qv),20,20,by kernel_rfl,by kernel_rfl,by kernel_rfl,by kernel_rfl,by kernel_rfl,by kernel_rfl,by kernel_rfl,by kernel_rfl,⟨gMs (Tryz.prog.underlying 20),by kernel_rfl⟩,by decide,by decide,by kernel_rfl⟩
theorem az8g:GuardFn Tryz.prog 84:=
 dzh (fn:=Tryz.f84) Tryz.func84 (by kernel_rfl) ⟨0,(gOps Tryz.f84).getD 0 qv,(gOps Tryz.f84).getD 1 qv,2,3,gX Tryz.f84,gC ((gOps Tryz.f84).getD 0 qv),20,20,by kernel_rfl,by kernel_rfl,by kernel_rfl,by kernel_rfl,by kernel_rfl,by kernel_rfl,by kernel_rfl,by kernel_rfl,⟨gMs (Tryz.prog.underlying 20),by kernel_rfl⟩,by decide,by decide,by kernel_rfl⟩
theorem az8h:GuardFn Tryz.prog 87:=
 dzh (fn:=Tryz.f87) Tryz.func87 (by kernel_rfl) ⟨0,(gOps Tryz.f87).getD 0 qv,(gOps Tryz.f87).getD 1 qv,3,4,gX Tryz.f87,gC ((gOps Tryz.f87).getD 0 qv),20,20,by kernel_rfl,by kernel_rfl,by kernel_rfl,by kernel_rfl,by kernel_rfl,by kernel_rfl,by kernel_rfl,by kernel_rfl,⟨gMs (Tryz.prog.underlying 20),by kernel_rfl⟩,by decide,by decide,by kernel_rfl⟩
theorem Xzp:GuardFn Tryz.prog 114:=
 dzh (fn:=Tryz.f114) Tryz.func114 (by kernel_rfl) ⟨0,(gOps Tryz.f114).getD 0 qv,(gOps Tryz.f114).getD 1 qv,2,3,gX Tryz.f114,gC ((gOps Tryz.f114).getD 0 qv),20,20,by kernel_rfl,by kernel_rfl,by kernel_rfl,by kernel_rfl,by kernel_rfl,by kernel_rfl,by kernel_rfl,by kernel_rfl,⟨gMs (Tryz.prog.underlying 20),by kernel_rfl⟩,by decide,by decide,by kernel_rfl⟩
theorem az4s:GuardFn Tryz.prog 122:=
 dzh (fn:=Tryz.f122) Tryz.func122 (by kernel_rfl) ⟨0,(gOps Tryz.f122).getD 0 qv,(gOps Tryz.f122).getD 1 qv,1,2,gX Tryz.f122,gC ((gOps Tryz.f122).getD 0 qv),20,20,by kernel_rfl,by kernel_rfl,by kernel_rfl,by kernel_rfl,by kernel_rfl,by kernel_rfl,by kernel_rfl,by kernel_rfl,⟨gMs (Tryz.prog.underlying 20),by kernel_rfl⟩,by decide,by decide,by kernel_rfl⟩
theorem az4t:GuardFn Tryz.prog 131:=
 dzh (fn:=Tryz.f131) Tryz.func131 (by kernel_rfl) ⟨0,(gOps Tryz.f131).getD 0 qv,(gOps Tryz.f131).getD 1 qv,1,2,gX Tryz.f131,gC ((gOps Tryz.f131).getD 0 qv),20,20,by kernel_rfl,by kernel_rfl,by kernel_rfl,by kernel_rfl,by kernel_rfl,by kernel_rfl,by kernel_rfl,by kernel_rfl,⟨gMs (Tryz.prog.underlying 20),by kernel_rfl⟩,by decide,by decide,by kernel_rfl⟩
theorem az4u:GuardFn Tryz.prog 132:=
 dzh (fn:=Tryz.f132) Tryz.func132 (by kernel_rfl) ⟨0,(gOps Tryz.f132).getD 0 qv,(gOps Tryz.f132).getD 1 qv,1,2,gX Tryz.f132,gC ((gOps Tryz.f132).getD 0 qv),20,20,by kernel_rfl,by kernel_rfl,by kernel_rfl,by kernel_rfl,by kernel_rfl,by kernel_rfl,by kernel_rfl,by kernel_rfl,⟨gMs (Tryz.prog.underlying 20),by kernel_rfl⟩,by decide,by decide,by kernel_rfl⟩
theorem az4v:GuardFn Tryz.prog 164:=
 dzh (fn:=Tryz.f164) Tryz.func164 (by kernel_rfl) ⟨0,(gOps Tryz.f164).getD 0 qv,(gOps Tryz.f164).getD 1 qv,1,2,gX Tryz.f164,gC ((gOps Tryz.f164).getD 0 qv),20,20,by kernel_rfl,by kernel_rfl,by kernel_rfl,by kernel_rfl,by kernel_rfl,by kernel_rfl,by kernel_rfl,by kernel_rfl,⟨gMs (Tryz.prog.underlying 20),by kernel_rfl⟩,by decide,by decide,by kernel_rfl⟩
theorem az4w:GuardFn Tryz.prog 173:=
 dzh (fn:=Tryz.f173) Tryz.func173 (by kernel_rfl) ⟨0,(gOps Tryz.f173).getD 0 qv,(gOps Tryz.f173).getD 1 qv,1,2,gX Tryz.f173,gC ((gOps Tryz.f173).getD 0 qv),20,20,by kernel_rfl,by kernel_rfl,by kernel_rfl,by kernel_rfl,by kernel_rfl,by kernel_rfl,by kernel_rfl,by kernel_rfl,⟨gMs (Tryz.prog.underlying 20),by kernel_rfl⟩,by decide,by decide,by kernel_rfl⟩
theorem az4x:GuardFn Tryz.prog 204:=
 dzh (fn:=Tryz.f204) Tryz.func204 (by kernel_rfl) ⟨0,(gOps Tryz.f204).getD 0 qv,(gOps Tryz.f204).getD 1 qv,2,3,gX Tryz.f204,gC ((gOps Tryz.f204).getD 0 qv),20,20,by kernel_rfl,by kernel_rfl,by kernel_rfl,by kernel_rfl,by kernel_rfl,by kernel_rfl,by kernel_rfl,by kernel_rfl,⟨gMs (Tryz.prog.underlying 20),by kernel_rfl⟩,by decide,by decide,by kernel_rfl⟩
theorem az4y:GuardFn Tryz.prog 212:=
 dzh (fn:=Tryz.f212) Tryz.func212 (by kernel_rfl) ⟨0,(gOps Tryz.f212).getD 0 qv,(gOps Tryz.f212).getD 1 qv,1,2,gX Tryz.f212,gC ((gOps Tryz.f212).getD 0 qv),20,20,by kernel_rfl,by kernel_rfl,by kernel_rfl,by kernel_rfl,by kernel_rfl,by kernel_rfl,by kernel_rfl,by kernel_rfl,⟨gMs (Tryz.prog.underlying 20),by kernel_rfl⟩,by decide,by decide,by kernel_rfl⟩
theorem az4z:GuardFn Tryz.prog 214:=
 dzh (fn:=Tryz.f214) Tryz.func214 (by kernel_rfl) ⟨0,(gOps Tryz.f214).getD 0 qv,(gOps Tryz.f214).getD 1 qv,2,3,gX Tryz.f214,gC ((gOps Tryz.f214).getD 0 qv),20,20,by kernel_rfl,by kernel_rfl,by kernel_rfl,by kernel_rfl,by kernel_rfl,by kernel_rfl,by kernel_rfl,by kernel_rfl,⟨gMs (Tryz.prog.underlying 20),by kernel_rfl⟩,by decide,by decide,by kernel_rfl⟩
theorem az50:GuardFn Tryz.prog 264:=
 dzh (fn:=Tryz.f264) Tryz.func264 (by kernel_rfl) ⟨0,(gOps Tryz.f264).getD 0 qv,(gOps Tryz.f264).getD 1 qv,2,3,gX Tryz.f264,gC ((gOps Tryz.f264).getD 0 qv),20,20,by kernel_rfl,by kernel_rfl,by kernel_rfl,by kernel_rfl,by kernel_rfl,by kernel_rfl,by kernel_rfl,by kernel_rfl,⟨gMs (Tryz.prog.underlying 20),by kernel_rfl⟩,by decide,by decide,by kernel_rfl⟩
theorem az51:GuardFn Tryz.prog 268:=
 dzh (fn:=Tryz.f268) Tryz.func268 (by kernel_rfl) ⟨0,(gOps Tryz.f268).getD 0 qv,(gOps Tryz.f268).getD 1 qv,1,2,gX Tryz.f268,gC ((gOps Tryz.f268).getD 0 qv),20,20,by kernel_rfl,by kernel_rfl,by kernel_rfl,by kernel_rfl,by kernel_rfl,by kernel_rfl,by kernel_rfl,by kernel_rfl,⟨gMs (Tryz.prog.underlying 20),by kernel_rfl⟩,by decide,by decide,by kernel_rfl⟩
theorem az52:GuardFn Tryz.prog 290:=
 dzh (fn:=Tryz.f290) Tryz.func290 (by kernel_rfl) ⟨0,(gOps Tryz.f290).getD 0 qv,(gOps Tryz.f290).getD 1 qv,2,3,gX Tryz.f290,gC ((gOps Tryz.f290).getD 0 qv),20,20,by kernel_rfl,by kernel_rfl,by kernel_rfl,by kernel_rfl,by kernel_rfl,by kernel_rfl,by kernel_rfl,by kernel_rfl,⟨gMs (Tryz.prog.underlying 20),by kernel_rfl⟩,by decide,by decide,by kernel_rfl⟩
def Tz6 (a0:Int):T azo:=
 .br (a0==1) (.conv 3001 (Xzc 3 azl ([(⟨0,0,nl⟩:az6)]:A0) 80 [.agg [.int .i64 0,.int .i64 0,.lst 0 0 λ_=>.unk]] (by kernel_rfl))<|.km (⟨1,([(⟨0,0,nl⟩:az6)]:A0),(⟨0,0,nl⟩:az6),(⟨0,nl,nl⟩:bze)⟩:azo)) (.br (a0==2) (.conv 5000 (cz0 1 az2 ([1]:A1) 2)<|.conv 5001 (cz0 1 az2 ([1]:A1) 2)<|.km (⟨2,nl,(⟨0,0,nl⟩:az6),(⟨0,([1]:A1),([1]:A1)⟩:bze)⟩:azo)) (.br (a0==3) (.km (⟨0,nl,(⟨1,0,nl⟩:az6),(⟨0,nl,nl⟩:bze)⟩:azo)) (.km (⟨0,nl,(⟨0,0,nl⟩:az6),(⟨0,nl,nl⟩:bze)⟩:azo))))
def zze (c):=
 mkD Tryz.func34 (Tz6 c) 0 [pz c] [] (λr=>.pure (gz6 r)) XL
def Jzc (c:Int):T azi:=let d:=zze c;.conv 1000 (cz0 1 az2 ([0]:A1) 2)<|.conv 1001 (cz0 1 az2 ([1]:A1) 2)<|.conv 1002 (cz0 1 az2 ([2]:A1) 2)<|.conv 1003 (cz0 1 (encL 1 az2) ([([0]:A1),([1]:A1),([2]:A1)]:A2) 62)<|.cc d λe=>.cc d λf=>.cc d λg=>let h:=([(⟨0,1,1,c,e⟩:az4),(⟨0,2,3,c,f⟩:az4),(⟨1,2,1,c,g⟩:az4)]:A3);
 .conv 2012 (cz0 12 az5 h 86)<|.km (⟨([([0]:A1),([1]:A1),([2]:A1)]:A2),h⟩:azi)
def xzv (c):=
 mkD Tryz.func23 (Jzc c) 0 [pz c] [] (λr=>.pure (dzt r)) XL
def ozz (c:azi)(d:Int):T Bool:=
 .br (qw (d>=0)) (.km (qw (d<(c.Xb.length:Int)))) (.km false)
def dzp (c)(d):=
 mkD Tryz.func50 (ozz c d) 0 [.pure (dzt c),pz d] [] XJ XL
def qz5 (c:Int):T Bool:=
 .km (c !=c)
def qz4 (c):=
 mkD Tryz.func172 (qz5 c) 0 [pz c] [] XJ XL
def lzz (c:Int)(d:Int):T Int:=
 .cc (qz4 c) λe=>.cc (qz4 d) λf=>.br e (.br f (.km 0) (.km (-1))) (.br f (.km 1) (.br (qw (c<d)) (.km (-1)) (.br (qw (c>d)) (.km 1) (.km 0))))
def izj (c)(d):=
 mkD Tryz.func128 (lzz c d) 0 [pz c,pz d] [] pz XL
def yzo (c:A1):T Int:=let d:=(c.length:Int);.loop (λ(e:Int)=>⟨[(3,pz 0),(6,XK 1 az2 c),(7,pz d),(8,pz e)],[],[],0⟩) (.exit 0) (λ(_:U0)=>⟨[(3,pz 0)],[],[],0⟩) (λe=>let f:=c.getD (e.toNat) qv;.br (qw (e<d)) (.gh e c.length<|.br (f !=0) (.ff f) (.nn (qu.wrap (e+1)))) (.oo .u))
 0 [] λ_=>.km 0
def yzn (c):=
 mkD Tryz.func127 (yzo c) 0 [XK 1 az2 c] [] pz XL
def jz5 (c:az4)(d:Aq):T Int:=
 .ix 0 2 rfl<|.cc (izj c.U d.1) λe=>.ix 1 2 rfl<|.cc (izj c.V d.2) λf=>let g:=([e,f]:A1);
 .conv 1010 (cz0 1 az2 g 3)<|.cc (yzn g) λh=>.km h
def fz7 (c)(d):=
 mkD Tryz.func86 (jz5 c d) 0 [.pure (az5 c),.pure (Ezh d)] [] pz XL
def kz2 (c:azi):T Bool:=let d:=(c.Xd.length:Int);let e:Nat×Res:=(0,.box [XK 1 (encL 1 az2) c.Xb,XK 12 az5 c.Xd]);let f:=(⟨c.Xb,c.Xd⟩:azi);.cut 2 (λ(g:Bool)=>⟨[(1,XM 0),(14,XJ g)],[e],[],1⟩) (.br (qw ((c.Xb.length:Int)>1024)) (.oo true) (.oo (qw (d>8192)))) λg=>.br g (.km false) (.loop (λ(h:Int)=>⟨[(1,XM 0),(17,pz d),(18,pz h)],[e],[],1⟩) (.exit 0) XN (λh=>let i:=c.Xd.getD (h.toNat) qv;let j:=qu.wrap (h-1);.br (qw (h<d)) (.gh h c.Xd.length<|.cut 1 (λ(k:Bool)=>⟨[(1,XM 0),(3,pz h),(4,.ref (az5 i)),(17,pz d),(18,pz h),(65,XJ k)],[e],[],1⟩) (.cc (dzp f (i.U)) λk=>.br (!k) (.oo true) (.cc (dzp f (i.V)) λm=>.br (!m) (.oo true) (.br (qw ((i.U)>=(i.V))) (.oo true) (.br (qw ((i.Xu)<0)) (.oo true) (.oo (qw ((i.Xu)>1099511627776))))))) λk=>.br k (.ff false) (.cut 0 (λ(m:Bool)=>⟨[(1,XM 0),(17,pz d),(18,pz h),(86,XJ m)],[e],[],1⟩) (.br (qw (h>0)) (.gh j c.Xd.length<|.call (fz7 (c.Xd.getD (j.toNat) qv) (i.U,i.V)) [] λm=>.oo (qw (m>=0))) (.oo false)) λm=>.br m (.ff false) (.nn (qu.wrap (h+1))))) (.oo .u))
 0 [] λ_=>.km true)
def fzr (c):=
 mkD Tryz.func49 (kz2 c) 0 [.pure (dzt c)] [] XJ XL
def rz5 (c:Int)(d:Int):T Bool:=
 .br (d==0) (.km (c==1)) (.br (d==1) (.br (c==1) (.km true) (.km (c==0))) (.br (d==2) (.km (c !=2)) (.km false)))
def rz4 (c)(d):=
 mkD Tryz.func105 (rz5 c d) 0 [pz c,pz d] [] XJ XL
def uze (c:azi)(d:Int):T A6:=let e:=(c.Xd.length:Int);let f:=(c.Xb.length:Int);let g:Nat×Res:=(0,.box [XK 1 (encL 1 az2) c.Xb,XK 12 az5 c.Xd]);.unroll 1<|.conv 1003 (azap 2 bz6 177 f.toNat 179)<|.grd (0<=f/\f<=f/\f<=9223372036854775807/\f * 24<=140737488355328)<|.loop (λ(h:(A6×Int))=>⟨[(1,pz d),(2,XM 0),(5,.vec 1),(14,pz e),(15,pz h.2)],[g,(1,az3v 2 bz6 h.1 177 179)],[],2⟩) (.exit 0) (λ(h:A6)=>⟨[(5,.vec 0)],[(0,az3v 2 bz6 h 177 179)],[],1⟩) (λh=>let i:=c.Xd.getD (XI h.2) qv;let j:=i.U;let k:=i.V;let m:=j.toNat;let n:=k.toNat;let s:=h.1.getD m qv;let t:=([(⟨i.V,i.Xu⟩:azh)]:A5);let w:=h.1.set m (s++t);let y:=w.getD n qv;let z:=s.length+t.length;let aa:=([(⟨i.U,i.Xu⟩:azh)]:A5);let ab:=y.length+aa.length;.br (qw (h.2<e)) (.cut 0 (λ(ac:A6)=>⟨[(1,pz d),(2,XM 0),(5,.vec 1),(14,pz e),(15,pz h.2)],[g,(1,az3v 2 bz6 ac 177 179)],[],2⟩) (.gh h.2 c.Xd.length<|.cc (rz4 (i.Xq) d) λac=>.br ac (.gg j h.1.length<|.conv 7021 (cz0 2 bz6 t 179)<|.conv 7022 (dz6 2 bz6 s t 179)<|.grd (z * 16<=140737488355328/\z<=maxLen)<|.gh j h.1.length<|.conv 7024 (az6u 2 bz6 (s++t) 177 h.1 m 179)<|.grd (j.toNat<h.1.length/\j.toNat=j.toNat)<|.gg k (w.length)<|.conv 8021 (cz0 2 bz6 aa 179)<|.conv 8022 (dz6 2 bz6 y aa 179)<|.grd (ab * 16<=140737488355328/\ab<=maxLen)<|.gh k (w.length)<|.conv 8024 (az6u 2 bz6 (y++aa) 177 w n 179)<|.grd (k.toNat<w.length/\k.toNat=k.toNat)<|.oo (w.set n (y++aa))) (.oo h.1)) λac=>.nn (ac,(qu.wrap (h.2+1)))) (.oo h.1)) ((qt f.toNat (nl:A5)),0) [] λh=>.km h
def jzq (c)(d):=
 mkD Tryz.func61 (uze c d) 0 [.pure (dzt c),pz d] [] (λr=>XK 1 (encL 2 bz6) r) XL
def pzi (c:azf)(d:azf):T Bool:=
 .br (d.points==0) (.km true) (.br (qw (c.cost<d.cost)) (.km true) (.br (c.cost==d.cost) (.km (qw (c.points<d.points))) (.km false)))
def gz0 (c)(d):=
 mkD Tryz.func101 (pzi c d) 0 [.pure (bzm c),.pure (bzm d)] [] XJ XL
def Dzo (c:A7):T (azj×A7):=let d:=qu.wrap ((c.length:Int)-1);let e:=c.getD (d.toNat) qv;let f:=c.set (XI (0:Int)) e;let g:=c.getD (XI (0:Int)) qv;let h:Nat×Res:=(4,.box [pz (g.rank.cost),pz (g.rank.points),pz (g.point)]);.gg (0:Int) c.length<|.gg d c.length<|.gh (0:Int) c.length<|.conv 3006 (fzs 3 bz0 c 173 (XI (0:Int)) e)<|.gi (0:Int) c.length<|.conv 4002 (Xzd 3 bz0 f 173 d)<|.grd (0<=d/\d<=(f.length:Int)/\0<=d.toNat)<|.loop (λ(i:(A7×Int))=>⟨[(0,XM 0),(2,XM 2),(3,.vec 3),(4,XM 4),(5,pz d),(6,pz i.2)],[(0,.box [.vec 1]),(1,.gone),(2,.box [pz 0,pz 0,pz 0]),(3,vecO 3 bz0 i.1 173),h],[],5⟩) (.exit 0) (λ(i:A7)=>⟨[(0,XM 0),(2,XM 2),(3,.vec 3),(4,XM 4)],[(0,.box [.vec 1]),(1,.gone),(2,.box [pz 0,pz 0,pz 0]),(3,vecO 3 bz0 i 173),h],[],5⟩) (λi=>let j:=(i.2).toNat;let k:=qu.wrap ((qu.wrap (2 * i.2))+1);let m:=qu.wrap (k+1);let n:=i.1.getD j qv;.br (qw (k<d)) (.cut 1 (λ(s:Int)=>⟨[(0,XM 0),(2,XM 2),(3,.vec 3),(4,XM 4),(5,pz d),(6,pz i.2),(7,pz s)],[(0,.box [.vec 1]),(1,.gone),(2,.box [pz 0,pz 0,pz 0]),(3,vecO 3 bz0 i.1 173),h],[],5⟩) (.cut 0 (λ(s:Bool)=>⟨[(0,XM 0),(2,XM 2),(3,.vec 3),(4,XM 4),(5,pz d),(6,pz i.2),(7,pz k),(51,XJ s)],[(0,.box [.vec 1]),(1,.gone),(2,.box [pz 0,pz 0,pz 0]),(3,vecO 3 bz0 i.1 173),h],[],5⟩) (.br (qw (m<d)) (.gg m i.1.length<|.gg k i.1.length<|.call (gz0 ((i.1.getD (m.toNat) qv).rank) ((i.1.getD (k.toNat) qv).rank)) [] λs=>.oo s) (.oo false)) λs=>.br s (.oo m) (.oo k)) λs=>let t:=s.toNat;let w:=i.1.getD t qv;let y:=i.1.set j w;
 .gg s i.1.length<|.gg i.2 i.1.length<|.cc (gz0 (w.rank) (n.rank)) λz=>.br (!z) (.oo i.1) (.gg s i.1.length<|.gg i.2 i.1.length<|.gh i.2 i.1.length<|.conv 11013 (fzs 3 bz0 i.1 173 j w)<|.gi (i.2) i.1.length<|.gh s (y.length)<|.conv 11015 (fzs 3 bz0 y 173 t n)<|.gi (s) (y.length)<|.nn ((y.set t n),s))) (.oo i.1)) ((f.take (d.toNat)),0) [] λi=>.km (g,i)
def Dzn (c):=
 mkD Tryz.func100 (Dzo c) 2 [XM 0] [(0,.box [.vec 1]),(1,vecO 3 bz0 c 173)] (λr=>.pure (bz0 r.1)) (λr=>[(0,.box [.vec 2]),(1,.gone),(2,vecO 3 bz0 r.2 173)])
def zzu (c:A7)(d:azj):T A7:=let e:=([d]:A7);let f:=c.length+e.length;.conv 1004 (cz0 3 bz0 e 173)<|.conv 1005 (dz6 3 bz0 c e 173)<|.grd (f * 24<=140737488355328/\f<=maxLen)<|.loop (λ(g:(A7×Int))=>⟨[(0,XM 0),(4,.vec 2),(5,pz g.2)],[(0,.box [.vec 1]),(1,.gone),(2,vecO 3 bz0 g.1 173)],[],3⟩) (.exit 0) (λ(g:A7)=>⟨[(0,XM 0),(4,.vec 2)],[(0,.box [.vec 1]),(1,.gone),(2,vecO 3 bz0 g 173)],[],3⟩) (λg=>let h:=(g.2).toNat;let i:=g.1.getD h qv;.br (qw (g.2>0)) (.ok ((2:Int)≠0) (by decide)<|.name 4002 ((qu.wrap ((qu.wrap (g.2-1)).tdiv 2))) λj=>let k:=j.toNat;let m:=g.1.getD k qv;let n:=g.1.set h m;
 .gg g.2 g.1.length<|.gg j g.1.length<|.cc (gz0 (i.rank) (m.rank)) λs=>.br (!s) (.oo g.1) (.gg j g.1.length<|.gg g.2 g.1.length<|.gh g.2 g.1.length<|.conv 6013 (fzs 3 bz0 g.1 173 h m)<|.gi (g.2) g.1.length<|.gh j (n.length)<|.conv 6015 (fzs 3 bz0 n 173 k i)<|.gi (j) (n.length)<|.nn ((n.set k i),j))) (.oo g.1)) ((c++e),(qu.wrap ((((c++e).length:Nat):Int)-1))) [] λg=>.km g
def zzt (c)(d):=
 mkD Tryz.func102 (zzu c d) 2 [XM 0,.pure (bz0 d)] [(0,.box [.vec 1]),(1,vecO 3 bz0 c 173)] (λ_=>.tup []) (λr=>[(0,.box [.vec 2]),(1,.gone),(2,vecO 3 bz0 r 173)])
def kz1 (c:azh)(d:A8)(e:Int):T (Bool×A8×Int):=let f:=d.getD (XI c.to) qv;let g:=d.getD (e.toNat) qv;.gg c.to d.length<|.gg e d.length<|.br ((f.points)==(qu.wrap ((g.points)-1))) (.gg e d.length<|.km (((qu.wrap ((f.cost)+c.cost))==(g.cost)),d,e)) (.km (false,d,e))
def fzq (c)(d)(e):=
 mkD Tryz.func104 (kz1 c d e) 3 [.pure (bz6 c),XM 0,XM 2] [(0,.box [.vec 1]),(1,vecO 2 bzm d 171),(2,.box [pz e])] (λr=>XJ r.1) (λr=>[(0,.box [.vec 1]),(1,vecO 2 bzm r.2.1 171),(2,.box [pz r.2.2])])
def czq (c:A5)(d:A8)(e:Int):T (Int×A8×Int):=let f:=(c.length:Int);.loop (λ(g:(A8×Int×Int))=>⟨[(0,XK 2 bz6 c),(1,.func 104 [] [XM 0,XM 2]),(7,pz f),(8,pz g.2.2)],[(0,.box [.vec 1]),(1,vecO 2 bzm g.1 171),(2,.box [pz g.2.1])],[],3⟩) (.exit 0) (λ(g:(A8×Int))=>⟨[],[(0,.box [.vec 1]),(1,vecO 2 bzm g.1 171),(2,.box [pz g.2])],[],3⟩) (λg=>.br (qw (g.2.2<f)) (.gh g.2.2 c.length<|.call (fzq (c.getD (XI g.2.2) qv) g.1 g.2.1) [(0,0),(1,1),(2,2)] λh=>.br h.1 (.ff (g.2.2,h.2.1,h.2.2)) (.nn (h.2.1,h.2.2,(qu.wrap (g.2.2+1))))) (.oo (g.1,g.2.1))) (d,e,0) [] λg=>.km ((-1),g.1,g.2)
def bzz (c)(d)(e):=
 mkD Tryz.func103 (czq c d e) 3 [XK 2 bz6 c,.func 104 [] [XM 0,XM 2]] [(0,.box [.vec 1]),(1,vecO 2 bzm d 171),(2,.box [pz e])] (λr=>pz r.1) (λr=>[(0,.box [.vec 1]),(1,vecO 2 bzm r.2.1 171),(2,.box [pz r.2.2])])
def mzv (c:A6)(d:Int)(e:Int):T (A1×Int×Bool):=let f:=e.toNat;let g:=(c.length:Int);let h:=([d]:A1);let i:=encL 1 (encL 2 bz6) c;let j:=qt g.toNat ((⟨0,0⟩:azf):azf);let k:=j.set f (⟨0,1⟩:azf);let m:=([(⟨(k.getD f qv),e⟩:azj)]:A7);.conv 1002 (Nz5 2 bzm 171 g.toNat (⟨0,0⟩:azf))<|.grd (0<=g/\g<=g/\g<=9223372036854775807/\g * 16<=140737488355328)<|.gh e (j.length)<|.conv 2004 (fzs 2 bzm j 171 f (⟨0,1⟩:azf))<|.gi (e) (j.length)<|.gg e (k.length)<|.conv 3006 (cz0 3 bz0 m 173)<|.loop (λ(n:(A8×A7))=>⟨[(0,.pure i),(1,pz d),(2,pz e),(6,XM 0),(8,XM 2),(9,XM 4)],[(0,.box [.vec 1,pz 0]),(1,.nilv),(2,.box [.vec 3]),(3,vecO 2 bzm n.1 171),(4,.box [.vec 5]),(5,vecO 3 bz0 n.2 173)],[],6⟩) (.exit 0) (λ(n:A8)=>⟨[(0,.pure i),(1,pz d),(2,pz e),(6,XM 0),(8,XM 2)],[(0,.box [.vec 1,pz 0]),(1,.nilv),(2,.box [.vec 3]),(3,vecO 2 bzm n 171)],[],4⟩) (λn=>.name 4001 ((n.2.length:Int)) λs=>.br (qw (s>0)) (.call (Dzn n.2) [(0,4),(1,5)] λt=>let w:=(t.1.point).toNat;let y:=c.getD w qv;let z:=encL 2 bz6 y;let aa:=(y.length:Int);let ab:=n.1.getD w qv;let ac:Nat×Res:=(6,.box [pz t.1.rank.cost,pz t.1.rank.points,pz t.1.point]);
 .br (t.1.point==d) (.oo n.1) (.gg t.1.point n.1.length<|.br (!((t.1.rank.cost==(ab.cost))&&((t.1.rank.points==(ab.points))&&true))) (.nn (n.1,t.2)) (.gh t.1.point c.length<|.loop (λ(ad:(A8×A7×Int))=>⟨[(0,.pure i),(1,pz d),(2,pz e),(6,XM 0),(8,XM 2),(9,XM 4),(10,XM 6),(53,.pure z),(54,pz aa),(55,pz ad.2.2)],[(0,.box [.vec 1,pz 0]),(1,.nilv),(2,.box [.vec 3]),(3,vecO 2 bzm ad.1 171),(4,.box [.vec 5]),(5,vecO 3 bz0 ad.2.1 173),ac],[],7⟩) (.exit 3) (λ(ad:(A8×A7))=>⟨[(0,.pure i),(1,pz d),(2,pz e),(6,XM 0),(8,XM 2),(9,XM 4)],[(0,.box [.vec 1,pz 0]),(1,.nilv),(2,.box [.vec 3]),(3,vecO 2 bzm ad.1 171),(4,.box [.vec 5]),(5,vecO 3 bz0 ad.2 173)],[],6⟩) (λad=>let ae:=y.getD (XI ad.2.2) qv;let af:=ae.to;let ag:=af.toNat;.br (qw (ad.2.2<aa)) (.cut 0 (λ(ah:(A8×A7))=>⟨[(0,.pure i),(1,pz d),(2,pz e),(6,XM 0),(8,XM 2),(9,XM 4),(10,XM 6),(53,.pure z),(54,pz aa),(55,pz ad.2.2)],[(0,.box [.vec 1,pz 0]),(1,.nilv),(2,.box [.vec 3]),(3,vecO 2 bzm ah.1 171),(4,.box [.vec 5]),(5,vecO 3 bz0 ah.2 173),ac],[],7⟩) (.gh ad.2.2 (y.length)<|.name 11005 ((qu.wrap (t.1.rank.cost+(ae.cost)))) λah=>let ai:=(⟨ah,(qu.wrap (t.1.rank.points+1))⟩:azf);
 .gg af ad.1.length<|.call (gz0 ai (ad.1.getD ag qv)) [] λaj=>.br aj (.gh af ad.1.length<|.conv 13005 (fzs 2 bzm ad.1 171 ag ai)<|.gi af ad.1.length<|.call (zzt ad.2.1 (⟨ai,ae.to⟩:azj)) [(0,4),(1,5)] λak=>.oo ((ad.1.set ag ai),ak)) (.oo (ad.1,ad.2.1))) λah=>.nn (ah.1,ah.2,(qu.wrap (ad.2.2+1)))) (.oo (ad.1,ad.2.1))) (n.1,t.2,0) [] λad=>.nn (ad.1,ad.2)))) (.oo n.1)) (k,m) [] λn=>let s:=n.getD (d.toNat) qv;
 .gg d n.length<|.br ((s.points)==0) (.km (nl,0,false)) (.conv 18001 (cz0 1 az2 h 3)<|.gg d n.length<|.loop (λ(t:(A8×A1×Int))=>⟨[(0,.pure i),(2,pz e),(6,XM 0),(8,XM 2),(14,XM 4),(15,XM 6)],[(0,.box [.vec 1,pz 0]),(1,.nilv),(2,.box [.vec 3]),(3,vecO 2 bzm t.1 171),(4,.box [.vec 5,pz (s.cost)]),(5,vecO 1 az2 t.2.1 3),(6,.box [pz t.2.2])],[],7⟩) (.exit 5) (λ(t:A1)=>⟨[(6,XM 0),(14,XM 2)],[(0,.box [.vec 1,pz 0]),(1,.nilv),(2,.box [.vec 3,pz (s.cost)]),(3,vecO 1 az2 t 3)],[],4⟩) (λt=>.br (t.2.2 !=e) (.gh t.2.2 c.length<|.call (bzz (c.getD (XI t.2.2) qv) t.1 t.2.2) [(0,2),(1,3),(2,6)] λw=>let y:=c.getD (XI w.2.2) qv;let z:=y.getD (XI w.1) qv;let aa:=([z.to]:A1);let ab:=t.2.1.length+aa.length;
 .gh w.2.2 c.length<|.gh w.1 (y.length)<|.conv 23003 (cz0 1 az2 aa 3)<|.conv 23004 (dz6 1 az2 t.2.1 aa 3)<|.grd (ab * 8<=140737488355328/\ab<=maxLen)<|.nn (w.2.1,(t.2.1++aa),z.to)) (.oo t.2.1)) (n,h,d) [] λt=>.km (t,s.cost,true))
def fzj (c)(d)(e):=
 mkD Tryz.func60 (mzv c d e) 0 [XK 1 (encL 2 bz6) c,pz d,pz e] [] (λr=>.tup [.agg [.vec 0,pz r.2.1],XJ r.2.2]) (λr=>[(0,vecO 1 az2 r.1 3)])
def bz4 (c:A3)(d:Aq):T Ar:=let e:=encL 12 az5 c;let f:=(c.length:Int);let g:Nat×Res:=(0,.box [pz d.1,pz d.2]);.loop (λ(h:Aq)=>⟨[(0,.pure e),(2,.func 86 [] []),(4,XM 0),(8,pz f),(9,pz h.1),(10,pz h.2)],[g],[],1⟩) (.exit 0) (λ(h:Int)=>⟨[(0,.pure e),(2,.func 86 [] []),(4,XM 0),(8,pz f),(9,pz h)],[g],[],1⟩) (λh=>.br (qw (h.1<h.2)) (.ok (0<=(1:Int)) (by decide)<|.name 4005 ((qu.wrap ((IntKind.u64.wrap (qu.wrap (h.1+h.2))).fdiv (2 ^ (min (1:Int).toNat 64))))) λi=>.gh i c.length<|.cc (fz7 (c.getD (i.toNat) qv) d) λj=>.br (qw (j<0)) (.nn ((qu.wrap (i+1)),h.2)) (.nn (h.1,i))) (.oo h.1)) (0,f) [] λh=>.br (qw (h<f)) (.gh h c.length<|.cc (fz7 (c.getD (h.toNat) qv) d) λi=>.km (h,(i==0))) (.km (h,false))
def azw (c)(d):=
 mkD Tryz.func92 (bz4 c d) 0 [XK 12 az5 c,.pure (Ezh d),.func 86 [] []] [] (λr=>.tup [pz r.1,XJ r.2]) XL
def jzu (c:azi)(d:Int)(e:Int):T Ar:=
 .cc (azw c.Xd ((min d e),(max d e))) λf=>.km (f.1,f.2)
def hzf (c)(d)(e):=
 mkD Tryz.func53 (jzu c d e) 0 [.pure (dzt c),pz d,pz e] [] (λr=>.tup [pz r.1,XJ r.2]) XL
def xzd (c:azi)(d:Int)(e:Int):T Bb:=let f:Nat×Res:=(0,.box [XK 1 (encL 1 az2) c.Xb,XK 12 az5 c.Xd]);let g:=(⟨c.Xb,c.Xd⟩:azi);.cut 3 (λ(h:Bool)=>⟨[(1,pz d),(2,pz e),(3,XM 0),(6,XM 1),(7,XM 2),(8,XM 4),(29,XJ h)],[f,(1,.box [pz 0]),(2,.box [.vec 3,pz 0]),(3,.nilv),(4,.box [pz 0])],[.func 59 [] [XM 1,XM 2,XM 4]],5⟩) (.cc (fzr g) λh=>.br (!h) (.oo true) (.cc (dzp g d) λi=>.br (!i) (.oo true) (.cc (dzp g e) λj=>.oo (!j)))) λh=>.br h (.km ((-1),nl,0,0)) (.cc (jzq g 1) λi=>.cc (fzj i d e) λj=>let k:=(j.1.length:Int);let m:=k.toNat- (1:Int).toNat;let n:=(m:Int);
 .br (!j.2.2) (.km ((-1),nl,0,2)) (.unroll 2<|.grd (0<=(1:Int)/\(1:Int)<=k/\k<=k)<|.loop (λ(s:Int)=>⟨[(3,XM 0),(6,XM 1),(7,XM 2),(8,XM 4),(44,.view 3 1 (XI (1:Int)) m),(45,pz n),(46,pz s)],[f,(1,.box [pz 0]),(2,.box [.vec 3,pz j.2.1]),(3,vecO 1 az2 j.1 3),(4,.box [pz 0])],[.func 59 [] [XM 1,XM 2,XM 4]],5⟩) (.exit 0) (λ(_:U0)=>⟨[(6,XM 0),(7,XM 1),(8,XM 3)],[(0,.box [pz 0]),(1,.box [.vec 2,pz j.2.1]),(2,vecO 1 az2 j.1 3),(3,.box [pz 0])],[.func 59 [] [XM 0,XM 1,XM 3]],4⟩) (λs=>let t:=(XI (1:Int))+(s.toNat);.br (qw (s<n)) (.gh s m<|.grd (t<j.1.length)<|.gg s j.1.length<|.cc (hzf g (j.1.getD (s.toNat) qv) (j.1.getD t qv)) λw=>.gh w.1 c.Xd.length<|.br (((c.Xd.getD (XI w.1) qv).Xq)==0) (.ff (w.1,j.1,j.2.1,3)) (.nn (qu.wrap (s+1)))) (.oo .u))
 0 [] λ_=>.km ((-1),j.1,j.2.1,1)))
def hz7 (c)(d)(e):=
 mkC [⟨59,az8e⟩] hd Tryz.func22 (by kernel_rfl) (xzd c d e) 0 [.pure (dzt c),pz d,pz e] [] (λr=>.tup [pz r.1,.agg [.vec 0,pz r.2.2.1],pz r.2.2.2]) (λr=>[(0,vecO 1 az2 r.2.1 3)]) (by kernel_rfl)
def Iz0 (c:azi)(d:Int)(e:Int)(f:Int):T (dzs×Bool):=
 .cut 3 (λ(g:Bool)=>⟨[(1,pz d),(2,pz e),(3,pz f),(4,XM 0),(8,XM 1),(9,XM 3),(33,XJ g)],[(0,.box [XK 1 (encL 1 az2) c.Xb,XK 12 az5 c.Xd]),(1,.box [.vec 2,pz 0]),(2,.nilv),(3,.box [.ff])],[.func 62 [] [XM 1,XM 3]],4⟩) (.cc (fzr c) λg=>.br (!g) (.oo true) (.cc (dzp c d) λh=>.br (!h) (.oo true) (.cc (dzp c e) λi=>.br (!i) (.oo true) (.br (qw (f<0)) (.oo true) (.oo (qw (f>2))))))) λg=>.br g (.km ((⟨nl,0⟩:dzs),false)) (.cc (jzq c f) λh=>.cc (fzj h d e) λi=>.km ((⟨i.1,i.2.1⟩:dzs),i.2.2))
def Hzz (c)(d)(e)(f):=
 mkC [⟨62,az8f⟩] hd Tryz.func24 (by kernel_rfl) (Iz0 c d e f) 0 [.pure (dzt c),pz d,pz e,pz f] [] (λr=>.tup [.pure (yzs r.1),XJ r.2]) XL (by kernel_rfl)
def Lzc (c:A1)(d:A1):T Bool:=let e:=(c.length:Int);.br (e !=(d.length:Int)) (.km false) (.loop (λ(f:Int)=>⟨[(0,XK 1 az2 c),(1,XK 1 az2 d),(5,pz f)],[],[],0⟩) (.exit 0) XN (λf=>.br (qw (f<e)) (.gh f c.length<|.gh f d.length<|.br ((c.getD (f.toNat) qv) !=(d.getD (f.toNat) qv)) (.ff false) (.nn (qu.wrap (f+1)))) (.oo .u))
 0 [] λ_=>.km true)
def Lzb (c)(d):=
 mkD Tryz.func63 (Lzc c d) 0 [XK 1 az2 c,XK 1 az2 d] [] XJ XL
def Jze (c:dzs)(d:dzs):T Bool:=
 .br (c.Xu==d.Xu) (.cc (Lzb c.Xr d.Xr) λe=>.km e) (.km false)
def Jzd (c)(d):=
 mkD Tryz.func25 (Jze c d) 0 [.pure (yzs c),.pure (yzs d)] [] XJ XL
def Qz9:T Bool:=
 .cc (xzv 0) λc=>.cc (hz7 c 0 2) λd=>.cc (xzv 1) λe=>.cc (Hzz e 0 2 0) λf=>.br (d.1==0) (.br (d.2.2.2==3) (.br f.2 (.conv 3011 (cz0 1 az2 ([0,1,2]:A1) 3)<|.cc (Jzd f.1 (⟨([0,1,2]:A1),2⟩:dzs)) λg=>.km g) (.km false)) (.km false)) (.km false)
def wz7:CallS Bool:=
 mkD Tryz.func7 (Qz9) 0 [] [] XJ XL
def Vzy (c:A1):T A9:=
 .km (c,0)
def mz8 (c):=
 mkD Tryz.func32 (Vzy c) 0 [XK 1 az2 c] [] (λ_=>XM 0) (λr=>[(0,.box [XK 1 az2 r.1,pz r.2])])
def zzf (c:Int)(d:Int):T Int:=let e:=c.tmod d;.grd (d≠0)<|.cut 0 (λ(f:Int)=>⟨[(5,pz f)],[],[],0⟩) (.br (qw (e<0)) (.oo (qu.wrap (e+d))) (.oo e)) λf=>.km f
def fzd (c)(d):=
 mkD Tryz.func10 (zzf c d) 0 [pz c,pz d] [] pz XL
def vzi (c:A1)(d:Int)(e:Int):T (Int×A1×Int):=let f:=qu.wrap (d+1);let g:=qu.wrap (f-1);.br (qw (d>=(c.length:Int))) (.km (0,c,d)) (.gh g c.length<|.call (fzd (c.getD (g.toNat) qv) e) [] λh=>.km (h,c,f))
def azp (c)(d)(e):=
 mkD Tryz.func33 (vzi c d e) 1 [XM 0,pz e] [(0,.box [XK 1 az2 c,pz d])] (λr=>pz r.1) (λr=>[(0,.box [XK 1 az2 r.2.1,pz r.2.2])])
def kzr (c:Int):T ByteArray:=let d:=qu.wrap (c+1);.grd (0<=c/\c<=d/\d<=(((⟨#[97,98,99,100,101,102,103,104,105,106]⟩:ByteArray).size:Nat):Int))<|.km ((⟨#[97,98,99,100,101,102,103,104,105,106]⟩:ByteArray).extract c.toNat d.toNat)
def kzq (c):=
 mkD Tryz.func111 (kzr c) 0 [pz c] [] (λr=>.pure (.str r)) XL
def pzx (c:A1)(d:Int)(e:Int):T (Int×A1×Int):=
 .call (azp c d (qu.wrap ((qu.wrap (2 * e))+1))) [(0,0)] λf=>.km ((qu.wrap (f.1-e)),f.2.1,f.2.2)
def bzs (c)(d)(e):=
 mkD Tryz.func37 (pzx c d e) 1 [XM 0,pz e] [(0,.box [XK 1 az2 c,pz d])] (λr=>pz r.1) (λr=>[(0,.box [XK 1 az2 r.2.1,pz r.2.2])])
def nzs (c:A1)(d:Int)(e:Int):T (bz1×A1×Int):=
 .cc (kzq e) λf=>.call (azp c d 4) [(0,0)] λg=>let h:=qu.wrap (1+g.1);
 .call (azp g.2.1 g.2.2 3) [(0,0)] λi=>let j:=qu.wrap (65536+i.1);
 .call (azp i.2.1 i.2.2 8) [(0,0)] λk=>let m:=([3,3,1,2,4,5,3,0]:List Int).getD (k.1).toNat 0;
 .gh k.1 8<|.cut 0 (λ(n:Au)=>⟨[(0,XM 0),(1,pz e),(4,XM 1),(5,XM 2)],[(0,.box [XK 1 az2 n.1,pz n.2.1]),(1,.box [.pure (.str (⟨#[]⟩:ByteArray)),pz 0,pz 0,pz 0,pz 0,pz 0,pz 0,pz 0,pz 0,pz 0,pz 0,pz 0]),(2,.box [.pure (.str f),pz m,pz n.2.2,pz 0,pz 0,pz 0,pz 0,pz 0,pz h,pz 65536,pz j,pz 327680])],[],3⟩) (.call (azp k.2.1 k.2.2 4) [(0,0)] λn=>.br (n.1==1) (.oo (n.2.1,n.2.2,(-1))) (.oo (n.2.1,n.2.2,(qu.wrap (e-1))))) λn=>.cut 0 (λ(s:(A1×Int×Int×Int×Int))=>⟨[(0,XM 0),(4,XM 1),(5,XM 2)],[(0,.box [XK 1 az2 s.1,pz s.2.1]),(1,.box [.pure (.str (⟨#[]⟩:ByteArray)),pz 0,pz 0,pz 0,pz 0,pz 0,pz 0,pz 0,pz 0,pz 0,pz 0,pz 0]),(2,.box [.pure (.str f),pz m,pz n.2.2,pz s.2.2.1,pz s.2.2.2.1,pz s.2.2.2.2,pz 0,pz 0,pz h,pz 65536,pz j,pz 327680])],[],3⟩) (.br (qw (e>0)) (.call (bzs n.1 n.2.1 2) [(0,0)] λs=>.call (bzs s.2.1 s.2.2 1) [(0,0)] λt=>.oo (t.2.1,t.2.2,131072,(qu.wrap (s.1 * 32768)),(qu.wrap (t.1 * 32768)))) (.oo (n.1,n.2.1,0,0,0))) λs=>.cut 0 (λ(t:(A1×Int×Int×Int))=>⟨[(4,XM 1),(5,XM 2)],[(0,.box [XK 1 az2 t.1,pz t.2.1]),(1,.box [.pure (.str (⟨#[]⟩:ByteArray)),pz 0,pz 0,pz 0,pz 0,pz 0,pz 0,pz 0,pz 0,pz 0,pz 0,pz 0]),(2,.box [.pure (.str f),pz m,pz n.2.2,pz s.2.2.1,pz s.2.2.2.1,pz s.2.2.2.2,pz t.2.2.1,pz t.2.2.2,pz h,pz 65536,pz j,pz 327680])],[],3⟩) (.br (m==0) (.oo (s.1,s.2.1,0,0)) (.cut 0 (λ(t:Bool)=>⟨[(0,XM 0),(4,XM 1),(5,XM 2),(55,XJ t)],[(0,.box [XK 1 az2 s.1,pz s.2.1]),(1,.box [.pure (.str (⟨#[]⟩:ByteArray)),pz 0,pz 0,pz 0,pz 0,pz 0,pz 0,pz 0,pz 0,pz 0,pz 0,pz 0]),(2,.box [.pure (.str f),pz m,pz n.2.2,pz s.2.2.1,pz s.2.2.2.1,pz s.2.2.2.2,pz 0,pz 0,pz h,pz 65536,pz j,pz 327680])],[],3⟩) (.br (m==4) (.oo (m==4)) (.oo (m==5))) λt=>.br t (.call (azp s.1 s.2.1 3) [(0,0)] λw=>.call (azp w.2.1 w.2.2 4) [(0,0)] λy=>.oo (y.2.1,y.2.2,(qu.wrap ((qu.wrap (0-w.1)) * 65536)),(qu.wrap (y.1 * 32768)))) (.call (azp s.1 s.2.1 5) [(0,0)] λw=>.ok ((8:Int)≠0) (by decide)<|.call (azp w.2.1 w.2.2 4) [(0,0)] λy=>.ok ((8:Int)≠0) (by decide)<|.call (azp y.2.1 y.2.2 3) [(0,0)] λz=>.oo (z.2.1,z.2.2,(qu.wrap ((qu.wrap ((qu.wrap (0-w.1)) * 65536)).tdiv 8)),(qu.wrap ((qu.wrap ((qu.wrap ((qu.wrap (1+y.1)) * 65536)).tdiv 8))+z.1)))))) λt=>.km ((⟨f,m,n.2.2,(s.2.2.1,s.2.2.2.1,s.2.2.2.2),t.2.2.1,t.2.2.2,h,65536,j,327680⟩:bz1),t.1,t.2.1)
def nzr (c)(d)(e):=
 mkD Tryz.func75 (nzs c d e) 1 [XM 0,pz e] [(0,.box [XK 1 az2 c,pz d])] (λr=>.pure (aze r.1)) (λr=>[(0,.box [XK 1 az2 r.2.1,pz r.2.2])])
def nzt (c:A1)(d:Int):T (azn×A1×Int):=
 .call (azp c d 3) [(0,0)] λe=>let f:=qu.wrap (1+e.1);
 .loop (λ(g:(A1×Int×Aa×Int))=>⟨[(0,XM 0),(2,XM 1),(3,XM 4),(4,pz f),(5,pz g.2.2.2)],[(0,.box [XK 1 az2 g.1,pz g.2.1]),(1,.box [.vec 2,.vec 3]),(2,.nilv),(3,.nilv),(4,.box [.vec 5,.vec 6]),(5,vecO 12 aze g.2.2.1 126),(6,.nilv)],[],7⟩) (.exit 0) (λ(g:(A1×Int×Aa))=>⟨[(0,XM 0),(2,XM 1),(3,XM 4),(4,pz f)],[(0,.box [XK 1 az2 g.1,pz g.2.1]),(1,.box [.vec 2,.vec 3]),(2,.nilv),(3,.nilv),(4,.box [.vec 5,.vec 6]),(5,vecO 12 aze g.2.2 126),(6,.nilv)],[],7⟩) (λg=>.br (qw (g.2.2.2<f)) (.call (nzr g.1 g.2.1 g.2.2.2) [(0,0)] λh=>let i:=([h.1]:Aa);let j:=g.2.2.1.length+i.length;
 .conv 6005 (cz0 12 aze i 126)<|.conv 6006 (dz6 12 aze g.2.2.1 i 126)<|.grd (j * 104<=140737488355328/\j<=maxLen)<|.nn (h.2.1,h.2.2,(g.2.2.1++i),(qu.wrap (g.2.2.2+1)))) (.oo (g.1,g.2.1,g.2.2.1))) (e.2.1,e.2.2,nl,0) [] λg=>.call (azp g.1 g.2.1 3) [(0,0)] λh=>.loop (λ(i:(A1×Int×Ab×Int))=>⟨[(0,XM 0),(2,XM 1),(3,XM 4),(4,pz f),(6,pz i.2.2.2)],[(0,.box [XK 1 az2 i.1,pz i.2.1]),(1,.box [.vec 2,.vec 3]),(2,.nilv),(3,.nilv),(4,.box [.vec 5,.vec 6]),(5,vecO 12 aze g.2.2 126),(6,vecO 5 azk i.2.2.1 146)],[],7⟩) (.exit 2) (λ(i:(A1×Int×Ab))=>⟨[(2,XM 1),(3,XM 4)],[(0,.box [XK 1 az2 i.1,pz i.2.1]),(1,.box [.vec 2,.vec 3]),(2,.nilv),(3,.nilv),(4,.box [.vec 5,.vec 6]),(5,vecO 12 aze g.2.2 126),(6,vecO 5 azk i.2.2 146)],[],7⟩) (λi=>.br (qw (i.2.2.2>0)) (.call (azp i.1 i.2.1 f) [(0,0)] λj=>.call (azp j.2.1 j.2.2 9000) [(0,0)] λk=>.call (bzs k.2.1 k.2.2 3) [(0,0)] λm=>.call (bzs m.2.1 m.2.2 2) [(0,0)] λn=>let s:=([(⟨j.1,(qu.wrap (1+k.1)),((qu.wrap (m.1 * 32768)),0,(qu.wrap (n.1 * 32768)))⟩:czj)]:Ab);let t:=i.2.2.1.length+s.length;
 .conv 10016 (cz0 5 azk s 146)<|.conv 10017 (dz6 5 azk i.2.2.1 s 146)<|.grd (t * 40<=140737488355328/\t<=maxLen)<|.nn (n.2.1,n.2.2,(i.2.2.1++s),(qu.wrap (i.2.2.2-1)))) (.oo (i.1,i.2.1,i.2.2.1))) (h.2.1,h.2.2,nl,h.1) [] λi=>.km ((⟨g.2.2,i.2.2⟩:azn),i.1,i.2.1)
def izb (c)(d):=
 mkD Tryz.func35 (nzt c d) 1 [XM 0] [(0,.box [XK 1 az2 c,pz d])] (λr=>.pure (dz0 r.1)) (λr=>[(0,.box [XK 1 az2 r.2.1,pz r.2.2])])
def wzb (c:A1)(d:Int)(e:Aw):T (Ax×A1×Int):=let f:=([e]:Ax);.conv 1001 (cz0 3 az1 f 96)<|.call (azp c d 4) [(0,0)] λg=>.loop (λ(h:(A1×Int×Ax×Int))=>⟨[(0,XM 0),(3,XM 1),(5,.vec 2),(6,pz h.2.2.2)],[(0,.box [XK 1 az2 h.1,pz h.2.1]),(1,.box [pz e.1,pz e.2.1,pz e.2.2]),(2,vecO 3 az1 h.2.2.1 96)],[],3⟩) (.exit 0) (λ(h:(A1×Int×Ax))=>⟨[(5,.vec 1)],[(0,.box [XK 1 az2 h.1,pz h.2.1]),(1,vecO 3 az1 h.2.2 96)],[],2⟩) (λh=>.br (qw (h.2.2.2>0)) (.j8<|.call (bzs h.1 h.2.1 3) [(0,0)] λi=>.j9<|.call (bzs i.2.1 i.2.2 2) [(0,0)] λj=>.ka<|.call (bzs j.2.1 j.2.2 2) [(0,0)] λk=>let m:=([((qu.wrap (e.1+(qu.wrap (i.1 * 32768)))),(qu.wrap (e.2.1+(qu.wrap (j.1 * 32768)))),(qu.wrap (e.2.2+(qu.wrap (k.1 * 32768)))))]:Ax);let n:=h.2.2.1.length+m.length;
 .conv 5020 (cz0 3 az1 m 96)<|.conv 5021 (dz6 3 az1 h.2.2.1 m 96)<|.grd (n * 24<=140737488355328/\n<=maxLen)<|.nn (k.2.1,k.2.2,(h.2.2.1++m),(qu.wrap (h.2.2.2-1)))) (.oo (h.1,h.2.1,h.2.2.1))) (g.2.1,g.2.2,f,g.1) [] λh=>.km (h.2.2,h.1,h.2.1)
def pzg (c)(d)(e):=
 mkD Tryz.func36 (wzb c d e) 1 [XM 0,.pure (az1 e)] [(0,.box [XK 1 az2 c,pz d])] (λr=>XK 3 az1 r.1) (λr=>[(0,.box [XK 1 az2 r.2.1,pz r.2.2])])
def zzh (c:A1):T azd:=
 .cc (mz8 c) λd=>.call (izb d.1 d.2) [(0,128)] λe=>let f:=encL 5 azk e.1.Xi;let g:=encL 12 aze e.1.Xa;let h:=(e.1.Xa.length:Int);let i:Nat×Res:=(6,.box [.pure g,.pure f,.vec 7,.vec 8]);
 .loop (λ(j:B8)=>⟨[(2,XM 0),(3,XM 5),(4,XM 6),(5,pz j.2.2.2)],[(0,.box [.vec 1,.vec 2,.vec 3,.vec 4]),(1,.nilv),(2,.nilv),(3,.nilv),(4,.nilv),(5,.box [XK 1 az2 j.1,pz j.2.1]),i,(7,vecO 3 azm j.2.2.1 98),(8,.nilv)],[],9⟩) (.exit 0) (λ(j:As)=>⟨[(2,XM 0),(3,XM 5),(4,XM 6)],[(0,.box [.vec 1,.vec 2,.vec 3,.vec 4]),(1,.nilv),(2,.nilv),(3,.nilv),(4,.nilv),(5,.box [XK 1 az2 j.1,pz j.2.1]),i,(7,vecO 3 azm j.2.2 98),(8,.nilv)],[],9⟩) (λj=>.br (qw (j.2.2.2<h)) (.cut 0 (λ(k:As)=>⟨[(2,XM 0),(3,XM 5),(4,XM 6),(5,pz j.2.2.2)],[(0,.box [.vec 1,.vec 2,.vec 3,.vec 4]),(1,.nilv),(2,.nilv),(3,.nilv),(4,.nilv),(5,.box [XK 1 az2 k.1,pz k.2.1]),i,(7,vecO 3 azm k.2.2 98),(8,.nilv)],[],9⟩) (.call (azp j.1 j.2.1 5) [(0,5)] λk=>.br (qw (k.1<4)) (.call (azp k.2.1 k.2.2 3) [(0,5)] λm=>.ok ((8:Int)≠0) (by decide)<|.call (azp m.2.1 m.2.2 4) [(0,5)] λn=>.call (pzg n.2.1 n.2.2 ((qu.wrap (n.1 * 32768)),0,0)) [(0,5)] λs=>let t:=([(⟨j.2.2.2,(qu.wrap ((qu.wrap ((qu.wrap (1+m.1)) * 65536)).tdiv 8)),s.1⟩:bz9)]:Ac);let w:=j.2.2.1.length+t.length;
 .conv 7015 (cz0 3 azm t 98)<|.conv 7016 (dz6 3 azm j.2.2.1 t 98)<|.grd (w * 40<=140737488355328/\w<=maxLen)<|.oo (s.2.1,s.2.2,(j.2.2.1++t))) (.oo (k.2.1,k.2.2,j.2.2.1))) λk=>.nn (k.1,k.2.1,k.2.2,(qu.wrap (j.2.2.2+1)))) (.oo (j.1,j.2.1,j.2.2.1))) (e.2.1,e.2.2,nl,0) [] λj=>.call (azp j.1 j.2.1 3) [(0,5)] λk=>.loop (λ(m:B8)=>⟨[(2,XM 0),(3,XM 5),(4,XM 6),(6,pz m.2.2.2)],[(0,.box [.vec 1,.vec 2,.vec 3,.vec 4]),(1,.nilv),(2,.nilv),(3,.nilv),(4,.nilv),(5,.box [XK 1 az2 m.1,pz m.2.1]),i,(7,vecO 3 azm m.2.2.1 98),(8,.nilv)],[],9⟩) (.exit 2) (λ(m:As)=>⟨[(2,XM 0),(3,XM 5),(4,XM 6)],[(0,.box [.vec 1,.vec 2,.vec 3,.vec 4]),(1,.nilv),(2,.nilv),(3,.nilv),(4,.nilv),(5,.box [XK 1 az2 m.1,pz m.2.1]),i,(7,vecO 3 azm m.2.2 98),(8,.nilv)],[],9⟩) (λm=>.br (qw (m.2.2.2>0)) (.call (bzs m.1 m.2.1 9) [(0,5)] λn=>.call (bzs n.2.1 n.2.2 9) [(0,5)] λs=>.call (bzs s.2.1 s.2.2 2) [(0,5)] λt=>.call (azp t.2.1 t.2.2 4) [(0,5)] λw=>.ok ((8:Int)≠0) (by decide)<|.call (pzg w.2.1 w.2.2 ((qu.wrap (n.1 * 32768)),(qu.wrap (s.1 * 32768)),(qu.wrap (t.1 * 32768)))) [(0,5)] λy=>let z:=([(⟨(-1),(qu.wrap ((qu.wrap ((qu.wrap (1+w.1)) * 65536)).tdiv 8)),y.1⟩:bz9)]:Ac);let aa:=m.2.2.1.length+z.length;
 .conv 12011 (cz0 3 azm z 98)<|.conv 12012 (dz6 3 azm m.2.2.1 z 98)<|.grd (aa * 40<=140737488355328/\aa<=maxLen)<|.nn (y.2.1,y.2.2,(m.2.2.1++z),(qu.wrap (m.2.2.2-1)))) (.oo (m.1,m.2.1,m.2.2.1))) (k.2.1,k.2.2,j.2.2,(qu.wrap (1+k.1))) [] λm=>.cut 0 (λ(n:Ad)=>⟨[(2,XM 0),(4,XM 5)],[(0,.box [.vec 1,.vec 2,.vec 3,.vec 4]),(1,.nilv),(2,.nilv),(3,.nilv),(4,.nilv),(5,.box [.pure g,.pure f,.vec 6,.vec 7]),(6,vecO 3 azm m.2.2 98),(7,vecO 2 azu n 101)],[],8⟩) (.call (azp m.1 m.2.1 5) [(0,5)] λn=>.br (n.1==1) (.call (azp n.2.1 n.2.2 h) [(0,5)] λs=>let t:=([(⟨(-1),s.1⟩:jz7)]:Ad);
 .conv 14009 (cz0 2 azu t 101)<|.grd (t.length * 16<=140737488355328/\t.length<=maxLen)<|.oo t) (.oo nl)) λn=>.km (⟨(⟨e.1.Xa,e.1.Xi⟩:azn),m.2.2,n⟩:azd)
def zzg (c):=
 mkD Tryz.func13 (zzh c) 0 [XK 1 az2 c] [] (λr=>.pure (bzk r)) XL
def wza (c:azn)(d:A1):T A1:=let e:Nat×Res:=(0,.box [XK 12 aze c.Xa,XK 5 azk c.Xi]);.cc (mz8 d) λf=>.loop (λ(g:B9)=>⟨[(2,XM 0),(5,XM 1),(6,.vec 2),(7,pz g.2.2.2)],[e,(1,.box [XK 1 az2 g.1,pz g.2.1]),(2,vecO 1 az2 g.2.2.1 2)],[],3⟩) (.exit 0) (λ(g:A1)=>⟨[(6,.vec 0)],[(0,vecO 1 az2 g 2)],[],1⟩) (λg=>let h:=c.Xa.getD (XI g.2.2.2) qv;let i:=([h.Lo]:A1);let j:=([h.Hi]:A1);let k:=g.2.2.1.length+i.length;let m:=g.2.2.1.length+j.length;.br (qw (g.2.2.2<(c.Xa.length:Int))) (.cut 0 (λ(n:(A1×Int×A1))=>⟨[(2,XM 0),(5,XM 1),(6,.vec 2),(7,pz g.2.2.2)],[e,(1,.box [XK 1 az2 n.1,pz n.2.1]),(2,vecO 1 az2 n.2.2 2)],[],3⟩) (.gh g.2.2.2 c.Xa.length<|.gh g.2.2.2 c.Xa.length<|.call (azp g.1 g.2.1 6) [(0,1)] λn=>.br (n.1==0) (.conv 10002 (cz0 1 az2 i 2)<|.conv 10003 (dz6 1 az2 g.2.2.1 i 2)<|.grd (k * 8<=140737488355328/\k<=maxLen)<|.oo (n.2.1,n.2.2,(g.2.2.1++i))) (.br (n.1==1) (.conv 12002 (cz0 1 az2 j 2)<|.conv 12003 (dz6 1 az2 g.2.2.1 j 2)<|.grd (m * 8<=140737488355328/\m<=maxLen)<|.oo (n.2.1,n.2.2,(g.2.2.1++j))) (.name 8005 ((qu.wrap ((h.Hi)- (h.Lo)))) λs=>.name 8006 ((qu.wrap (s+1))) λt=>.call (azp n.2.1 n.2.2 t) [(0,1)] λw=>let y:=([(qu.wrap ((h.Lo)+w.1))]:A1);let z:=g.2.2.1.length+y.length;
 .conv 8009 (cz0 1 az2 y 2)<|.conv 8010 (dz6 1 az2 g.2.2.1 y 2)<|.grd (z * 8<=140737488355328/\z<=maxLen)<|.oo (w.2.1,w.2.2,(g.2.2.1++y))))) λn=>.nn (n.1,n.2.1,n.2.2,(qu.wrap (g.2.2.2+1)))) (.oo g.2.2.1)) (f.1,f.2,nl,0) [] λg=>.km g
def wz9 (c)(d):=
 mkD Tryz.func43 (wza c d) 0 [.pure (dz0 c),XK 1 az2 d] [] (λ_=>.vec 0) (λr=>[(0,vecO 1 az2 r 2)])
def tz7 (c:azn)(d:Int)(e:A1):T A2:=let f:Nat×Res:=(0,.box [XK 12 aze c.Xa,XK 5 azk c.Xi]);.cc (mz8 e) λg=>.loop (λ(h:(A1×Int×A2×Int))=>⟨[(1,pz d),(3,XM 0),(7,XM 1),(8,.vec 2),(9,pz h.2.2.2)],[f,(1,.box [XK 1 az2 h.1,pz h.2.1]),(2,vecO 1 (encL 1 az2) h.2.2.1 62)],[],3⟩) (.exit 0) (λ(h:A2)=>⟨[(8,.vec 0)],[(0,vecO 1 (encL 1 az2) h 62)],[],1⟩) (λh=>.br (qw (h.2.2.2<d)) (.loop (λ(i:B9)=>⟨[(1,pz d),(3,XM 0),(7,XM 1),(8,.vec 2),(9,pz h.2.2.2),(10,.vec 3),(11,pz i.2.2.2)],[f,(1,.box [XK 1 az2 i.1,pz i.2.1]),(2,vecO 1 (encL 1 az2) h.2.2.1 62),(3,vecO 1 az2 i.2.2.1 3)],[],4⟩) (.exit 2) (λ(i:(A1×Int×A1))=>⟨[(1,pz d),(3,XM 0),(7,XM 1),(8,.vec 2),(9,pz h.2.2.2),(10,.vec 3)],[f,(1,.box [XK 1 az2 i.1,pz i.2.1]),(2,vecO 1 (encL 1 az2) h.2.2.1 62),(3,vecO 1 az2 i.2.2 3)],[],4⟩) (λi=>.br (qw (i.2.2.2<(qu.wrap (2 * (c.Xa.length:Int))))) (.call (azp i.1 i.2.1 1048576) [(0,1)] λj=>let k:=([j.1]:A1);let m:=i.2.2.1.length+k.length;
 .conv 10003 (cz0 1 az2 k 3)<|.conv 10004 (dz6 1 az2 i.2.2.1 k 3)<|.grd (m * 8<=140737488355328/\m<=maxLen)<|.nn (j.2.1,j.2.2,(i.2.2.1++k),(qu.wrap (i.2.2.2+1)))) (.oo (i.1,i.2.1,i.2.2.1))) (h.1,h.2.1,nl,0) [] λi=>.cc (wz9 c i.2.2) λj=>let k:=([j]:A2);let m:=h.2.2.1.length+k.length;
 .conv 11004 (cz0 1 (encL 1 az2) k 62)<|.conv 11005 (dz6 1 (encL 1 az2) h.2.2.1 k 62)<|.grd (m * 24<=140737488355328/\m<=maxLen)<|.nn (i.1,i.2.1,(h.2.2.1++k),(qu.wrap (h.2.2.2+1)))) (.oo h.2.2.1)) (g.1,g.2,nl,0) [] λh=>.km h
def Czc (c)(d)(e):=
 mkD Tryz.func15 (tz7 c d e) 0 [.pure (dz0 c),pz d,XK 1 az2 e] [] (λ_=>.vec 0) (λr=>[(0,vecO 1 (encL 1 az2) r 62)])
def Ez0 (c:ByteArray):T Bool:=let d:=(c.size:Int);.cut 2 (λ(e:Bool)=>⟨[(0,.pure (.str c)),(16,XJ e)],[],[],0⟩) (.br (qw (d<1)) (.oo true) (.br (qw (d>16)) (.oo true) (.oo (c==(⟨#[119,111,114,108,100]⟩:ByteArray))))) λe=>.br e (.km false) (.loop (λ(f:Int)=>⟨[(0,.pure (.str c)),(3,pz f)],[],[],0⟩) (.exit 0) XN (λf=>let g:=((c.data.getD f.toNat 0).toNat:Int);.br (qw (f<d)) (.cut 1 (λ(h:Bool)=>⟨[(0,.pure (.str c)),(3,pz f),(4,XJ h)],[],[],0⟩) (.gh f c.size<|.br (qw (g>=97)) (.gh f c.size<|.oo (qw (g<=122))) (.oo false)) λh=>.cut 0 (λ(i:Bool)=>⟨[(0,.pure (.str c)),(3,pz f),(56,XJ i)],[],[],0⟩) (.br (!h) (.br (f==0) (.oo true) (.gh f c.size<|.br (g !=95) (.gh f c.size<|.br (qw (g<48)) (.oo true) (.gh f c.size<|.oo (qw (g>57)))) (.oo false))) (.oo false)) λi=>.br i (.ff false) (.nn (qu.wrap (f+1)))) (.oo .u))
 0 [] λ_=>.km true)
def Mz9 (c):=
 mkD Tryz.func112 (Ez0 c) 0 [.pure (.str c)] [] XJ XL
def Ez1 (c:Aw)(d:Int):T Bool:=let e:=qu.wrap (0-d);let f:Nat×Res:=(0,.box [pz c.1,pz c.2.1,pz c.2.2]);.unroll 4<|.kj<|.cut 1 (λ(g:Bool)=>⟨[(1,pz d),(2,XM 0),(5,pz 0),(22,XJ g)],[f],[],1⟩) (.j8<|.br (qw (c.1<e)) (.oo true) (.j8<|.oo (qw (c.1>d)))) λg=>.br g (.km false) (.lit 3001 1<|.kj<|.cut 1 (λ(h:Bool)=>⟨[(1,pz d),(2,XM 0),(5,pz 1),(22,XJ h)],[f],[],1⟩) (.j9<|.br (qw (c.2.1<e)) (.oo true) (.j9<|.oo (qw (c.2.1>d)))) λh=>.br h (.km false) (.lit 3001 2<|.kj<|.cut 1 (λ(i:Bool)=>⟨[(1,pz d),(2,XM 0),(5,pz 2),(22,XJ i)],[f],[],1⟩) (.ka<|.br (qw (c.2.2<e)) (.oo true) (.ka<|.oo (qw (c.2.2>d)))) λi=>.br i (.km false) (.lit 3001 3<|.kl<|.km true)))
def gz7 (c)(d):=
 mkD Tryz.func78 (Ez1 c d) 0 [.pure (az1 c),pz d] [] XJ XL
def Azl (c:Int):T Int:=
 .br (c==0) (.km 0) (.cut 0 (λ(d:Bool)=>⟨[(6,XJ d)],[],[],0⟩) (.br (c==1) (.oo (c==1)) (.br (c==2) (.oo (c==2)) (.oo (c==3)))) λd=>.br d (.km 524288) (.km 4194304))
def Jz0 (c):=
 mkD Tryz.func113 (Azl c) 0 [pz c] [] pz XL
def uz7 (c:Int)(d:Int)(e:Int):T Bool:=
 .br (qw (d<=c)) (.km (qw (c<=e))) (.km false)
def gz8 (c)(d)(e):=
 mkD Tryz.func77 (uz7 c d e) 0 [pz c,pz d,pz e] [] XJ XL
def mzq (c:Aa)(d:Int):T Int:=let e:=c.getD (d.toNat) qv;let f:=e.XB;let g:=e.Xl;let h:=e.Xt;let i:Nat×Res:=(0,.box [.pure (.str f),pz g,pz h,pz (e.Xy.1),pz (e.Xy.2.1),pz (e.Xy.2.2),pz (e.Lo),pz (e.Hi),pz (e.XA),pz (e.XF),pz (e.XG),pz (e.XD)]);.gh d c.length<|.cc (Mz9 f) λj=>.br (!j) (.km 802) (.loop (λ(k:Int)=>⟨[(0,XK 12 aze c),(1,pz d),(5,XM 0),(6,pz k)],[i],[],1⟩) (.exit 0) (λ(_:U0)=>⟨[(1,pz d),(5,XM 0)],[i],[],1⟩) (λk=>.br (qw (k<d)) (.gh k c.length<|.br (((c.getD (k.toNat) qv).XB)==f) (.ff 802) (.nn (qu.wrap (k+1)))) (.oo .u))
 0 [] λ_=>.cut 1 (λ(k:Bool)=>⟨[(1,pz d),(5,XM 0),(36,XJ k)],[i],[],1⟩) (.br (qw (g<0)) (.oo true) (.oo (qw (g>6)))) λk=>.br k (.km 803) (.cut 1 (λ(m:Bool)=>⟨[(5,XM 0),(45,XJ m)],[i],[],1⟩) (.br (qw (h<(-1))) (.oo true) (.oo (qw (h>=d)))) λm=>.br m (.km 804) (.cc (gz7 (e.Xy) 4194304) λn=>.br (!n) (.km 805) (.cc (Jz0 g) λs=>.cut 0 (λ(t:Bool)=>⟨[(5,XM 0),(70,XJ t)],[i],[],1⟩) (.br (qw ((e.Lo)>(e.Hi))) (.oo true) (.br (qw ((e.Lo)<(qu.wrap (0-s)))) (.oo true) (.oo (qw ((e.Hi)>s))))) λt=>.br t (.km 806) (.cut 1 (λ(w:Bool)=>⟨[(92,XJ w)],[],[],0⟩) (.cc (gz8 (e.XA) 1 1024) λw=>.br (!w) (.oo true) (.cc (gz8 (e.XF) 1 1048576) λy=>.br (!y) (.oo true) (.cc (gz8 (e.XG) 1 1048576) λz=>.br (!z) (.oo true) (.cc (gz8 (e.XD) 1 1099511627776) λaa=>.oo (!aa))))) λw=>.br w (.km 807) (.km 0))))))
def vz6 (c)(d):=
 mkD Tryz.func76 (mzq c d) 0 [XK 12 aze c,pz d] [] pz XL
def mzo (c:azn):T Int:=let d:=(c.Xa.length:Int);let e:=(c.Xi.length:Int);let f:Nat×Res:=(0,.box [XK 12 aze c.Xa,XK 5 azk c.Xi]);.cut 2 (λ(g:Bool)=>⟨[(1,XM 0),(16,XJ g)],[f],[],1⟩) (.br (qw (d<1)) (.oo true) (.oo (qw (d>10)))) λg=>.br g (.km 801) (.loop (λ(h:Int)=>⟨[(1,XM 0),(3,pz h)],[f],[],1⟩) (.exit 0) (λ(_:U0)=>⟨[(1,XM 0)],[f],[],1⟩) (λh=>.br (qw (h<d)) (.cc (vz6 c.Xa h) λi=>.br (i !=0) (.ff i) (.nn (qu.wrap (h+1)))) (.oo .u))
 0 [] λ_=>.br (qw (e>32)) (.km 808) (.loop (λ(h:Int)=>⟨[(1,XM 0),(5,pz h)],[f],[],1⟩) (.exit 2) XN (λh=>let i:=c.Xi.getD (h.toNat) qv;.br (qw (h<e)) (.gh h c.Xi.length<|.cut 0 (λ(j:Bool)=>⟨[(1,XM 0),(5,pz h),(69,XJ j)],[f],[],1⟩) (.br (qw ((i.Xp)<0)) (.oo true) (.br (qw ((i.Xp)>=d)) (.oo true) (.cc (gz8 (i.XH) 1 65536) λj=>.br (!j) (.oo true) (.cc (gz7 (i.XE) 4194304) λk=>.oo (!k))))) λj=>.br j (.ff 808) (.nn (qu.wrap (h+1)))) (.oo .u))
 0 [] λ_=>.km 0))
def dz9 (c):=
 mkD Tryz.func38 (mzo c) 0 [.pure (dz0 c)] [] pz XL
def tzj (c:azn)(d:A1):T Bool:=let e:=encL 1 az2 d;let f:=(d.length:Int);let g:Nat×Res:=(0,.box [XK 12 aze c.Xa,XK 5 azk c.Xi]);.cut 2 (λ(h:Bool)=>⟨[(1,.pure e),(2,XM 0),(16,XJ h)],[g],[],1⟩) (.cc (dz9 c) λh=>.br (h !=0) (.oo true) (.oo (f !=(c.Xa.length:Int)))) λh=>.br h (.km false) (.loop (λ(i:Int)=>⟨[(1,.pure e),(2,XM 0),(5,pz i)],[g],[],1⟩) (.exit 0) XN (λi=>let j:=d.getD (i.toNat) qv;let k:=c.Xa.getD (i.toNat) qv;.br (qw (i<f)) (.cut 1 (λ(m:Bool)=>⟨[(1,.pure e),(2,XM 0),(5,pz i),(46,XJ m)],[g],[],1⟩) (.gh i d.length<|.gh i c.Xa.length<|.br (qw (j<(k.Lo))) (.oo true) (.gh i d.length<|.gh i c.Xa.length<|.oo (qw (j>(k.Hi))))) λm=>.br m (.ff false) (.nn (qu.wrap (i+1)))) (.oo .u))
 0 [] λ_=>.km true)
def jzi (c)(d):=
 mkD Tryz.func39 (tzj c d) 0 [.pure (dz0 c),XK 1 az2 d] [] XJ XL
def kz0 (c:A1)(d:A1):T Bool:=let e:=(c.length:Int);.br (e !=(d.length:Int)) (.km false) (.loop (λ(f:Int)=>⟨[(0,XK 1 az2 c),(1,XK 1 az2 d),(5,pz f)],[],[],0⟩) (.exit 0) XN (λf=>.br (qw (f<e)) (.gh f c.length<|.gh f d.length<|.br ((c.getD (f.toNat) qv) !=(d.getD (f.toNat) qv)) (.ff false) (.nn (qu.wrap (f+1)))) (.oo .u))
 0 [] λ_=>.km true)
def qzr (c)(d):=
 mkD Tryz.func79 (kz0 c d) 0 [XK 1 az2 c,XK 1 az2 d] [] XJ XL
def qzy (c:A2)(d:A1):T Int:=
 .loop (λ(e:Int)=>⟨[(0,.vec 0),(1,XK 1 az2 d),(5,pz e)],[(0,vecO 1 (encL 1 az2) c 62)],[],1⟩) (.exit 0) (λ(_:U0)=>⟨[],[(0,vecO 1 (encL 1 az2) c 62)],[],1⟩) (λe=>.br (qw (e<(c.length:Int))) (.gg e c.length<|.cc (qzr (c.getD (e.toNat) qv) d) λf=>.br f (.ff e) (.nn (qu.wrap (e+1)))) (.oo .u))
 0 [] λ_=>.km (-1)
def qzx (c)(d):=
 mkD Tryz.func40 (qzy c d) 1 [.vec 0,XK 1 az2 d] [(0,vecO 1 (encL 1 az2) c 62)] pz (λ_=>[(0,vecO 1 (encL 1 az2) c 62)])
end Go.Abs
