import Derived.Test.YtnfbbidmdkfilaaGreatDoorZDRngF
import Derived.Test.YtnfbbidmdkfilaaGreatDoorZDLend
import Derived.Test.YtnfbbidmdkfilaaGreatDoorProg
open Decidable renaming decide->qv
open Go.IntKind renaming i64->qt
open Inhabited renaming default->qu
open List renaming replicate->qs
open Int renaming toNat->X3
noncomputable section
namespace Go.Abs
open Go.Proofs.Tryz
theorem jz{p:Prop}(h:p:=by as_aux_lemma=>kernel_rfl):p:=h
theorem ju{p:Prop}(h:p:=by kernel_rfl):p:=h
set_option maxHeartbeats 8000000
set_option maxRecDepth 20000
open Go.Proofs
noncomputable abbrev X4 (x:Bool):AVal:=.pure (.bool x)
noncomputable abbrev X5 {α:Type}[Inhabited α](n:Nat)(e:α->PVal)(l:List α):AVal:=.pure (encL n e l)
noncomputable abbrev X6 {α β:Type}:α->List β:=λ_=>[]
noncomputable abbrev X7 (i:Nat):AVal:=.ptr i 0
abbrev X8:U0->St:=λ_=>⟨[],[],[],0⟩
abbrev jA (x:Int):PVal:=.int .i64 x
abbrev jB (n:Nat):List PVal:=List.replicate n (jA 0)
noncomputable abbrev pz (x:Int):AVal:=.pure (jA x)
theorem hd:gzb prog azb6:=az8n ju
noncomputable abbrev mkD {R:Type}{f:FuncId}{fn:Func}(hf:prog.funcs[f]?=some fn)(t:T R)(k:Nat)(args:List AVal)(m:Mem)(res:R->AVal)(m1:R->Mem)(hb:(fn.body.isSome&& !(fn.name== "runtime.NumGoroutine"))=true:=by kernel_rfl)(h:(xzn prog [] azb6 fn (fn.body.getD .skip) k k t args m res m1).side true=(xzn prog [] azb6 fn (fn.body.getD .skip) k k t args m res m1).side false:=by kernel_rfl):CallS R:=mkC [] hd hf hb t k args m res m1 h
noncomputable abbrev T.z7 {R:Type}(k:T R):T R:=.ix 0 3 rfl k
noncomputable abbrev T.z8 {R:Type}(k:T R):T R:=.ix 1 3 rfl k
noncomputable abbrev T.z9 {R:Type}(k:T R):T R:=.ix 2 3 rfl k
noncomputable abbrev T.ja {R:Type}(k:T R):T R:=.ix 1 11 rfl k
noncomputable abbrev T.jb {R:Type}(k:T R):T R:=.ix 2 11 rfl k
noncomputable abbrev T.jc {R:Type}(k:T R):T R:=.ix 3 11 rfl k
noncomputable abbrev T.jd {R:Type}(k:T R):T R:=.ix 4 11 rfl k
noncomputable abbrev T.je {R:Type}(k:T R):T R:=.ix 5 11 rfl k
noncomputable abbrev T.jf {R:Type}(k:T R):T R:=.ix 6 11 rfl k
noncomputable abbrev T.jg {R:Type}(k:T R):T R:=.ix 7 11 rfl k
noncomputable abbrev T.jh {R:Type}(k:T R):T R:=.ix 8 11 rfl k
noncomputable abbrev T.ji {R:Type}(k:T R):T R:=.known true k
noncomputable abbrev T.jm {R:Type}(k:T R):T R:=.known false k
noncomputable abbrev T.jn {R:Type}(r:R):T R:=.ret r
noncomputable abbrev T.jC {R:Type}(p:Prop)[Decidable p](a b:T R):T R:=.br (decide p) a b
noncomputable abbrev T.jD {σ R:Type}(c:Bool)(x:T (Step3 σ Bool R)):T (Step3 σ Bool R):=.br c (.ret (.out true)) x
noncomputable abbrev T.jE {σ R:Type}(c:Bool)(x:T (Step3 σ Bool R)):T (Step3 σ Bool R):=.br c x (.ret (.out false))
noncomputable abbrev T.jF {σ R:Type}(p:Prop)[Decidable p](x:T (Step3 σ Bool R)):T (Step3 σ Bool R):=.br (decide p) (.ret (.out true)) x
noncomputable abbrev T.gg {R:Type}(i:Int)(n:Nat)(k:T R):T R:=.grd (0<=i/\i<(n:Int)) (.grd (i.toNat<n) k)
noncomputable abbrev T.gh {R:Type}(i:Int)(n:Nat)(k:T R):T R:=.grd (0<=i/\i<(n:Int)) k
noncomputable abbrev T.gi {R:Type}(i:Int)(n:Nat)(k:T R):T R:=.grd (i.toNat<n/\0<=i.toNat) k
noncomputable abbrev T.oo {σ τ R:Type}(y:τ):T (Step3 σ τ R):=.ret (.out y)
noncomputable abbrev T.nn {σ τ R:Type}(x:σ):T (Step3 σ τ R):=.ret (.next x)
noncomputable abbrev T.ff {σ τ R:Type}(r:R):T (Step3 σ τ R):=.ret (.fin r)
noncomputable abbrev T.cc {R α:Type}(c:CallS α)(k:α->T R):T R:=.call c [] k
section
abbrev bo (f:Func):=(f.body.isSome&& !(f.name== "runtime.NumGoroutine"))=true
abbrev pf {R:Type}(f:Func)(t:T R)(w:List AVal)(r:R->AVal)(m:R->Mem):=(xzn prog [] azb6 f (f.body.getD .skip) 0 0 t w [] r m).side true=(xzn prog [] azb6 f (f.body.getD .skip) 0 0 t w [] r m).side false
variable {a b c d e g h i R:Type} [En a] [En b] [En c] [En d] [En e] [En g] [En h] [En i] {n:FuncId} {f:Func} (l:prog.funcs[n]?=some f)
abbrev mkp1 [En R](t:a->T R)(y:bo f:=by show _=_;kernel_rfl)(z:∀x0,pf f (t x0) [q x0] q X6:=by intros;show _=_;kernel_rfl)(x0:a):CallS R:=mkC [] hd l y (t x0) 0 _ [] _ _ (z x0)
abbrev mkp2 [En R](t:a->b->T R)(y:bo f:=by show _=_;kernel_rfl)(z:∀x0 x1,pf f (t x0 x1) [q x0,q x1] q X6:=by intros;show _=_;kernel_rfl)(x0:a)(x1:b):CallS R:=mkC [] hd l y (t x0 x1) 0 _ [] _ _ (z x0 x1)
abbrev mkp3 [En R](t:a->b->c->T R)(y:bo f:=by show _=_;kernel_rfl)(z:∀x0 x1 x2,pf f (t x0 x1 x2) [q x0,q x1,q x2] q X6:=by intros;show _=_;kernel_rfl)(x0:a)(x1:b)(x2:c):CallS R:=mkC [] hd l y (t x0 x1 x2) 0 _ [] _ _ (z x0 x1 x2)
abbrev mkp4 [En R](t:a->b->c->d->T R)(y:bo f:=by show _=_;kernel_rfl)(z:∀x0 x1 x2 x3,pf f (t x0 x1 x2 x3) [q x0,q x1,q x2,q x3] q X6:=by intros;show _=_;kernel_rfl)(x0:a)(x1:b)(x2:c)(x3:d):CallS R:=mkC [] hd l y (t x0 x1 x2 x3) 0 _ [] _ _ (z x0 x1 x2 x3)
abbrev mkp5 [En R](t:a->b->c->d->e->T R)(y:bo f:=by show _=_;kernel_rfl)(z:∀x0 x1 x2 x3 x4,pf f (t x0 x1 x2 x3 x4) [q x0,q x1,q x2,q x3,q x4] q X6:=by intros;show _=_;kernel_rfl)(x0:a)(x1:b)(x2:c)(x3:d)(x4:e):CallS R:=mkC [] hd l y (t x0 x1 x2 x3 x4) 0 _ [] _ _ (z x0 x1 x2 x3 x4)
abbrev mkp6 [En R](t:a->b->c->d->e->g->T R)(y:bo f:=by show _=_;kernel_rfl)(z:∀x0 x1 x2 x3 x4 x5,pf f (t x0 x1 x2 x3 x4 x5) [q x0,q x1,q x2,q x3,q x4,q x5] q X6:=by intros;show _=_;kernel_rfl)(x0:a)(x1:b)(x2:c)(x3:d)(x4:e)(x5:g):CallS R:=mkC [] hd l y (t x0 x1 x2 x3 x4 x5) 0 _ [] _ _ (z x0 x1 x2 x3 x4 x5)
abbrev mkq1 (t:a->T R)(r:R->AVal)(y:bo f:=by show _=_;kernel_rfl)(z:∀x0,pf f (t x0) [q x0] r X6:=by intros;show _=_;kernel_rfl)(x0:a):CallS R:=mkC [] hd l y (t x0) 0 _ [] _ _ (z x0)
abbrev mkq2 (t:a->b->T R)(r:R->AVal)(y:bo f:=by show _=_;kernel_rfl)(z:∀x0 x1,pf f (t x0 x1) [q x0,q x1] r X6:=by intros;show _=_;kernel_rfl)(x0:a)(x1:b):CallS R:=mkC [] hd l y (t x0 x1) 0 _ [] _ _ (z x0 x1)
abbrev mkq3 (t:a->b->c->T R)(r:R->AVal)(y:bo f:=by show _=_;kernel_rfl)(z:∀x0 x1 x2,pf f (t x0 x1 x2) [q x0,q x1,q x2] r X6:=by intros;show _=_;kernel_rfl)(x0:a)(x1:b)(x2:c):CallS R:=mkC [] hd l y (t x0 x1 x2) 0 _ [] _ _ (z x0 x1 x2)
abbrev mkq4 (t:a->b->c->d->T R)(r:R->AVal)(y:bo f:=by show _=_;kernel_rfl)(z:∀x0 x1 x2 x3,pf f (t x0 x1 x2 x3) [q x0,q x1,q x2,q x3] r X6:=by intros;show _=_;kernel_rfl)(x0:a)(x1:b)(x2:c)(x3:d):CallS R:=mkC [] hd l y (t x0 x1 x2 x3) 0 _ [] _ _ (z x0 x1 x2 x3)
abbrev mkq5 (t:a->b->c->d->e->T R)(r:R->AVal)(y:bo f:=by show _=_;kernel_rfl)(z:∀x0 x1 x2 x3 x4,pf f (t x0 x1 x2 x3 x4) [q x0,q x1,q x2,q x3,q x4] r X6:=by intros;show _=_;kernel_rfl)(x0:a)(x1:b)(x2:c)(x3:d)(x4:e):CallS R:=mkC [] hd l y (t x0 x1 x2 x3 x4) 0 _ [] _ _ (z x0 x1 x2 x3 x4)
abbrev mkq6 (t:a->b->c->d->e->g->T R)(r:R->AVal)(y:bo f:=by show _=_;kernel_rfl)(z:∀x0 x1 x2 x3 x4 x5,pf f (t x0 x1 x2 x3 x4 x5) [q x0,q x1,q x2,q x3,q x4,q x5] r X6:=by intros;show _=_;kernel_rfl)(x0:a)(x1:b)(x2:c)(x3:d)(x4:e)(x5:g):CallS R:=mkC [] hd l y (t x0 x1 x2 x3 x4 x5) 0 _ [] _ _ (z x0 x1 x2 x3 x4 x5)
abbrev mkv1 (t:a->T R)(r:R->AVal)(m:R->Mem)(y:bo f:=by show _=_;kernel_rfl)(z:∀x0,pf f (t x0) [q x0] r m:=by intros;show _=_;kernel_rfl)(x0:a):CallS R:=mkC [] hd l y (t x0) 0 _ [] _ _ (z x0)
abbrev mkv2 (t:a->b->T R)(r:R->AVal)(m:R->Mem)(y:bo f:=by show _=_;kernel_rfl)(z:∀x0 x1,pf f (t x0 x1) [q x0,q x1] r m:=by intros;show _=_;kernel_rfl)(x0:a)(x1:b):CallS R:=mkC [] hd l y (t x0 x1) 0 _ [] _ _ (z x0 x1)
abbrev mkv3 (t:a->b->c->T R)(r:R->AVal)(m:R->Mem)(y:bo f:=by show _=_;kernel_rfl)(z:∀x0 x1 x2,pf f (t x0 x1 x2) [q x0,q x1,q x2] r m:=by intros;show _=_;kernel_rfl)(x0:a)(x1:b)(x2:c):CallS R:=mkC [] hd l y (t x0 x1 x2) 0 _ [] _ _ (z x0 x1 x2)
abbrev mkv5 (t:a->b->c->d->e->T R)(r:R->AVal)(m:R->Mem)(y:bo f:=by show _=_;kernel_rfl)(z:∀x0 x1 x2 x3 x4,pf f (t x0 x1 x2 x3 x4) [q x0,q x1,q x2,q x3,q x4] r m:=by intros;show _=_;kernel_rfl)(x0:a)(x1:b)(x2:c)(x3:d)(x4:e):CallS R:=mkC [] hd l y (t x0 x1 x2 x3 x4) 0 _ [] _ _ (z x0 x1 x2 x3 x4)
end
structure azt where
 XG:ByteArray
 Xo:Int
 XD:Int
 XA:(Int×Int×Int)
 Lo:Int
 Hi:Int
 XP:Int
 XS:Int
 XT:Int
 XQ:Int
instance:Inhabited azt:=⟨⟨qu,qu,qu,qu,qu,qu,qu,qu,qu,qu⟩⟩
structure bzm where
 Xz:Int
 XU:Int
 XM:(Int×Int×Int)
instance:Inhabited bzm:=⟨⟨qu,qu,qu⟩⟩
structure azl where
 Xc:(List azt)
 Xv:(List bzm)
instance:Inhabited azl:=⟨⟨qu,qu⟩⟩
structure azf where
 Xz:Int
 XE:Int
 Xa:(List (Int×Int×Int))
instance:Inhabited azf:=⟨⟨qu,qu,qu⟩⟩
structure dzo where
 A:Int
 B:Int
instance:Inhabited dzo:=⟨⟨qu,qu⟩⟩
structure az7 where
 Xg:azl
 Xe:(List azf)
 Xs:(List dzo)
instance:Inhabited az7:=⟨⟨qu,qu,qu⟩⟩
structure azx where
 XG:ByteArray
 Xe:(List azf)
instance:Inhabited azx:=⟨⟨qu,qu⟩⟩
structure dzn where
 Xz:Int
 XA:(Int×Int×Int)
instance:Inhabited dzn:=⟨⟨qu,qu⟩⟩
structure cz4 where
 Xt:Int
 Place:Int
 At:(List Int)
instance:Inhabited cz4:=⟨⟨qu,qu,qu⟩⟩
structure az2 where
 Xl:az7
 Xd:(List azx)
 Xh:(List (Int×Int×Int))
 Xj:(List dzn)
 Xi:(List cz4)
 Xq:Int
instance:Inhabited az2:=⟨⟨qu,qu,qu,qu,qu,qu⟩⟩
structure azk where
 Xf:(List Int)
instance:Inhabited azk:=⟨⟨qu⟩⟩
structure aza where
 Xo:Int
 Xt:Int
 Place:Int
instance:Inhabited aza:=⟨⟨qu,qu,qu⟩⟩
structure dzq where
 Xk:Int
 Xu:Int
 Xr:(List Int)
instance:Inhabited dzq:=⟨⟨qu,qu,qu⟩⟩
structure azp where
 XB:(List (Int×Int×Int))
 XH:(List dzq)
instance:Inhabited azp:=⟨⟨qu,qu⟩⟩
structure bz6 where
 Xa:(List (List Int))
 Xb:(List azp)
instance:Inhabited bz6:=⟨⟨qu,qu⟩⟩
structure az9 where
 Xm:aza
 XF:Int
 Path:bz6
instance:Inhabited az9:=⟨⟨qu,qu,qu⟩⟩
structure cz3 where
 XI:Int
 XK:Int
 Xk:Int
 XN:Int
instance:Inhabited cz3:=⟨⟨qu,qu,qu,qu⟩⟩
structure azc where
 where_:(Int×Int×Int×Int×Int×Int)
 last:Int
 action:aza
instance:Inhabited azc:=⟨⟨qu,qu,qu⟩⟩
structure tzv where
 XV:azk
 Xm:aza
instance:Inhabited tzv:=⟨⟨qu,qu⟩⟩
structure fzo where
 in_:(Int×Int×Int×Int×Int×Int)
 by_:aza
instance:Inhabited fzo:=⟨⟨qu,qu⟩⟩
structure bzt where
 before:(Int×Int×Int×Int×Int×Int)
 by_:aza
instance:Inhabited bzt:=⟨⟨qu,qu⟩⟩
structure az0 where
 Lo:Int
 Hi:Int
instance:Inhabited az0:=⟨⟨qu,qu⟩⟩
structure bz7 where
 R:((az0×az0×az0)×(az0×az0×az0)×(az0×az0×az0))
 T:(az0×az0×az0)
instance:Inhabited bz7:=⟨⟨qu,qu⟩⟩
structure czh where
 A:Int
 B:Int
instance:Inhabited czh:=⟨⟨qu,qu⟩⟩
structure czt where
 shapes:(List azf)
 pairs:(List czh)
 points:(List (List (az0×az0×az0)))
instance:Inhabited czt:=⟨⟨qu,qu,qu⟩⟩
structure bze where
 XR:Int
 Left:(List Int)
 XL:(List Int)
instance:Inhabited bze:=⟨⟨qu,qu,qu⟩⟩
structure ezy where
 Xo:Int
 Xn:(List (Int×Int×Int))
 Xw:bze
instance:Inhabited ezy:=⟨⟨qu,qu,qu⟩⟩
structure gzc where
 a:(List (az0×az0×az0))
 b:(List (az0×az0×az0))
 ra:Int
 rb:Int
instance:Inhabited gzc:=⟨⟨qu,qu,qu,qu⟩⟩
structure fzs where
 points:(List (az0×az0×az0))
 radius:Int
instance:Inhabited fzs:=⟨⟨qu,qu⟩⟩
structure ezz where
 a:fzs
 b:fzs
instance:Inhabited ezz:=⟨⟨qu,qu⟩⟩
structure ezx where
 Xo:Int
 XO:(Int×Int×Int)
 Left:(List Int)
 XL:(List Int)
 Steps:Int
instance:Inhabited ezx:=⟨⟨qu,qu,qu,qu,qu⟩⟩
structure jz4 where
 points:(List (Int×Int×Int))
 weights:(List Int)
instance:Inhabited jz4:=⟨⟨qu,qu⟩⟩
structure nzu where
 list:jz4
instance:Inhabited nzu:=⟨⟨qu⟩⟩
structure kzn where
 list:jz4
instance:Inhabited kzn:=⟨⟨qu⟩⟩
structure rzg where
 left:nzu
 right:kzn
 normal:(Int×Int×Int)
 rounds:Int
instance:Inhabited rzg:=⟨⟨qu,qu,qu,qu⟩⟩
structure izw where
 witness:bze
instance:Inhabited izw:=⟨⟨qu⟩⟩
structure bzn where
 normals:(List (Int×Int×Int))
instance:Inhabited bzn:=⟨⟨qu⟩⟩
structure az6 where
 Xk:Int
 Xu:Int
 Xn:(List (Int×Int×Int))
instance:Inhabited az6:=⟨⟨qu,qu,qu⟩⟩
structure azo where
 Xo:Int
 XC:(List az6)
 At:az6
 Xw:bze
instance:Inhabited azo:=⟨⟨qu,qu,qu,qu⟩⟩
structure az1 where
 U:Int
 V:Int
 Xp:Int
 Xx:Int
 XJ:azo
instance:Inhabited az1:=⟨⟨qu,qu,qu,qu,qu⟩⟩
structure azd where
 Xa:(List (List Int))
 Xb:(List az1)
instance:Inhabited azd:=⟨⟨qu,qu⟩⟩
structure bzc where
 XM:Int
 XX:Int
 XZ:Int
 XY:Int
instance:Inhabited bzc:=⟨⟨qu,qu,qu,qu⟩⟩
structure dzj where
 joints:(List azt)
 points:(List (List Int))
 tree:(List bzc)
 q:(List Int)
instance:Inhabited dzj:=⟨⟨qu,qu,qu,qu⟩⟩
structure dz2 where
 Xy:(List Int)
 Xp:Int
instance:Inhabited dz2:=⟨⟨qu,qu⟩⟩
structure azi where
 to:Int
 cost:Int
instance:Inhabited azi:=⟨⟨qu,qu⟩⟩
structure azj where
 cost:Int
 points:Int
instance:Inhabited azj:=⟨⟨qu,qu⟩⟩
structure azq where
 rank:azj
 point:Int
instance:Inhabited azq:=⟨⟨qu,qu⟩⟩
structure yzq where
 scene:az7
 depth:Int
instance:Inhabited yzq:=⟨⟨qu,qu⟩⟩
structure bzq where
 scene:az7
 p:(List Int)
 q:(List Int)
 pieces:(List az6)
instance:Inhabited bzq:=⟨⟨qu,qu,qu,qu⟩⟩
structure yzp where
 list:(List Int)
 next:Int
instance:Inhabited yzp:=⟨⟨qu,qu⟩⟩
structure bz0 where
 mode:azk
 before:Int
 action:aza
 depth:Int
instance:Inhabited bz0:=⟨⟨qu,qu,qu,qu⟩⟩
structure azz where
 points:(List (az0×az0×az0))
 radius:Int
instance:Inhabited azz:=⟨⟨qu,qu⟩⟩
structure azg where
 Xp:Int
 Xb:Int
instance:Inhabited azg:=⟨⟨qu,qu⟩⟩
structure azu where
 depth:Int
 index:Int
 hints:(List (Int×Int×Int))
instance:Inhabited azu:=⟨⟨qu,qu,qu⟩⟩
abbrev A0:=List azt
abbrev A1:=List dzn
abbrev A2:=List azf
abbrev A3:=List azx
abbrev A4:=List Int
abbrev A5:=List A4
abbrev A6:=A4×A4
abbrev A7:=List cz4
abbrev A8:=List bzm
abbrev A9:=List aza
abbrev Aa:=A9×Int
abbrev Ab:=List tzv
abbrev Ac:=A2×Int
abbrev Ad:=List dzo
abbrev Ae:=List az0
abbrev Af:=Ae×Int
abbrev Ag:=List bz7
abbrev Ah:=A4×Int
abbrev Ai:=List czh
abbrev Aj:=Ai×Int
abbrev Ak:=List bzc
abbrev Al:=List az1
abbrev Am:=Al×Int
abbrev An:=List az6
abbrev Ao:=An×Int
abbrev Ap:=A5×Int
abbrev Aq:=List azi
abbrev Ar:=List Aq
abbrev As:=List azq
abbrev Au:=List azj
abbrev Av:=List dzq
abbrev Aw:=List azp
abbrev Ax:=List az9
abbrev Ay:=List bz0
abbrev Az:=List azz
abbrev B0:=List azg
abbrev B1:=List azu
abbrev B2:=Int×Int
abbrev B3:=List B2
abbrev B4:=Nat×Nat
abbrev B6:=List (B2×Bool)
abbrev B8:=List (azc×az9)
abbrev B9:=B0×Bool
abbrev Bb:=List (fzo×Bool)
abbrev Bc:=Int×Bool
abbrev Bd:=Int×A4×Ak
abbrev Be:=Int×A4×A4
abbrev Bf:=A4×A4×Int
abbrev Bg:=A5×Al×Bool
abbrev Bh:=Int×Int×Int
abbrev Bi:=List Bh
abbrev Bj:=Bi×Int
abbrev Bk:=Bh×Int
abbrev Bl:=Bh×Bool
abbrev Bm:=az0×az0×az0
abbrev Bn:=List Bm
abbrev Bo:=List Bn
abbrev Bp:=Bm×Bm×Bm
abbrev Bq:=Bool×Int×Int
abbrev Br:=Int×Int×Bool
abbrev Bs:=bz6×Int×Bool
abbrev Bt:=Bool×Bool×Bool
abbrev Bu:=A4×Int×A7×Int
abbrev Bv:=A4×Int×A4×Int
abbrev Bw:=Int×A4×Int×Int
abbrev Bx:=Int×Int×Int×Int
abbrev By:=Bool×ByteArray×A2
abbrev Bz:=azd×dz2×Int×Int
abbrev C0:=Bool×Bool×Bool×Bool
abbrev C1:=Int×Int×Int×Int×Int
abbrev C2:=A4×B8×A4×Ax×Int×Int
abbrev C3:=Int×Int×Int×Int×Int×Int
abbrev C4:=List C3
abbrev C5:=C3×bzt
abbrev C6:=List C5
abbrev C7:=C6×C4×Int
abbrev C8:=Bool×Bh×Bn×Bn×Int×Int×Bi
abbrev C9:=B8×Int×Int×Int×Int×A5×Aw
abbrev Ca:=Int×Int×Int×Int×Int×Int×Int×Int×Int×Int
abbrev Cb:=Ca×Bool
abbrev Cc:=Int×Int×Int×Int×Int×Int×Int×Int×Int×Int×Int
abbrev Cd:=Bool×An×Int×An×Int×Int×Bi×Int×A4×A4×A4×A4×A0×A8×A2×Ad×Int
abbrev Ce:=Int×Int×Int×Int×Int×Int×Int×Int×Int×Int×Int×Int×Int×Int×Int×Int×Int×Int×Int×Int×Int×Int×Int×Int
def hz2 (v:azt):PVal:=.agg [.str v.XG,jA v.Xo,jA v.XD,jA v.XA.1,jA v.XA.2.1,jA v.XA.2.2,jA v.Lo,jA v.Hi,jA v.XP,jA v.XS,jA v.XT,jA v.XQ]
def kzw (v:bzm):PVal:=.agg [jA v.Xz,jA v.XU,jA v.XM.1,jA v.XM.2.1,jA v.XM.2.2]
def azba (v:azl):PVal:=.agg [encL 12 hz2 v.Xc,encL 5 kzw v.Xv]
def azs (v:Bh):PVal:=.agg [jA v.1,jA v.2.1,jA v.2.2]
def gzg (v:azf):PVal:=.agg [jA v.Xz,jA v.XE,encL 3 azs v.Xa]
def qzh (v:dzo):PVal:=.agg [jA v.A,jA v.B]
def azbc (v:az7):PVal:=.agg [encL 12 hz2 v.Xg.Xc,encL 5 kzw v.Xg.Xv,encL 3 gzg v.Xe,encL 2 qzh v.Xs]
def rzc (v:azx):PVal:=.agg [.str v.XG,encL 3 gzg v.Xe]
def Jzs (v:dzn):PVal:=.agg [jA v.Xz,jA v.XA.1,jA v.XA.2.1,jA v.XA.2.2]
def Jzr (v:cz4):PVal:=.agg [jA v.Xt,jA v.Place,encL 1 azy v.At]
def Xzi (v:az2):PVal:=.agg [encL 12 hz2 v.Xl.Xg.Xc,encL 5 kzw v.Xl.Xg.Xv,encL 3 gzg v.Xl.Xe,encL 2 qzh v.Xl.Xs,encL 2 rzc v.Xd,encL 3 azs v.Xh,encL 4 Jzs v.Xj,encL 3 Jzr v.Xi,jA v.Xq]
def azg1 (v:azk):PVal:=.agg [encL 1 azy v.Xf]
def Wz7 (v:aza):PVal:=.agg [jA v.Xo,jA v.Xt,jA v.Place]
def Rzh (v:dzq):PVal:=.agg [jA v.Xk,jA v.Xu,encL 1 azy v.Xr]
def izg (v:azp):PVal:=.agg [encL 3 azs v.XB,encL 3 Rzh v.XH]
def azg2 (v:bz6):PVal:=.agg [encL 1 (encL 1 azy) v.Xa,encL 2 izg v.Xb]
def bzd (v:az9):PVal:=.agg [jA v.Xm.Xo,jA v.Xm.Xt,jA v.Xm.Place,jA v.XF,encL 1 (encL 1 azy) v.Path.Xa,encL 2 izg v.Path.Xb]
def az8o (v:cz3):PVal:=.agg [jA v.XI,jA v.XK,jA v.Xk,jA v.XN]
def Czi (v:azc):PVal:=.agg [jA v.where_.1,jA v.where_.2.1,jA v.where_.2.2.1,jA v.where_.2.2.2.1,jA v.where_.2.2.2.2.1,jA v.where_.2.2.2.2.2,jA v.last,jA v.action.Xo,jA v.action.Xt,jA v.action.Place]
def az4 (v:azc):List PVal:=[jA v.where_.1,jA v.where_.2.1,jA v.where_.2.2.1,jA v.where_.2.2.2.1,jA v.where_.2.2.2.2.1,jA v.where_.2.2.2.2.2,jA v.last,jA v.action.Xo,jA v.action.Xt,jA v.action.Place]
def azb9 (v:tzv):PVal:=.agg [encL 1 azy v.XV.Xf,jA v.Xm.Xo,jA v.Xm.Xt,jA v.Xm.Place]
def az13 (v:fzo):PVal:=.agg [jA v.in_.1,jA v.in_.2.1,jA v.in_.2.2.1,jA v.in_.2.2.2.1,jA v.in_.2.2.2.2.1,jA v.in_.2.2.2.2.2,jA v.by_.Xo,jA v.by_.Xt,jA v.by_.Place]
def dzr (v:fzo):List PVal:=[jA v.in_.1,jA v.in_.2.1,jA v.in_.2.2.1,jA v.in_.2.2.2.1,jA v.in_.2.2.2.2.1,jA v.in_.2.2.2.2.2,jA v.by_.Xo,jA v.by_.Xt,jA v.by_.Place]
def bzs (v:bzt):PVal:=.agg [jA v.before.1,jA v.before.2.1,jA v.before.2.2.1,jA v.before.2.2.2.1,jA v.before.2.2.2.2.1,jA v.before.2.2.2.2.2,jA v.by_.Xo,jA v.by_.Xt,jA v.by_.Place]
def Xzj (v:C3):PVal:=.agg [jA v.1,jA v.2.1,jA v.2.2.1,jA v.2.2.2.1,jA v.2.2.2.2.1,jA v.2.2.2.2.2]
def azm (v:C3):List PVal:=[jA v.1,jA v.2.1,jA v.2.2.1,jA v.2.2.2.1,jA v.2.2.2.2.1,jA v.2.2.2.2.2]
def uza (v:az0):PVal:=.agg [jA v.Lo,jA v.Hi]
def az6s (v:bz7):PVal:=.agg [jA v.R.1.1.Lo,jA v.R.1.1.Hi,jA v.R.1.2.1.Lo,jA v.R.1.2.1.Hi,jA v.R.1.2.2.Lo,jA v.R.1.2.2.Hi,jA v.R.2.1.1.Lo,jA v.R.2.1.1.Hi,jA v.R.2.1.2.1.Lo,jA v.R.2.1.2.1.Hi,jA v.R.2.1.2.2.Lo,jA v.R.2.1.2.2.Hi,jA v.R.2.2.1.Lo,jA v.R.2.2.1.Hi,jA v.R.2.2.2.1.Lo,jA v.R.2.2.2.1.Hi,jA v.R.2.2.2.2.Lo,jA v.R.2.2.2.2.Hi,jA v.T.1.Lo,jA v.T.1.Hi,jA v.T.2.1.Lo,jA v.T.2.1.Hi,jA v.T.2.2.Lo,jA v.T.2.2.Hi]
def Rzi (v:Bx):PVal:=.agg [jA v.1,jA v.2.1,jA v.2.2.1,jA v.2.2.2]
def Gzh (v:Bp):PVal:=.agg [jA v.1.1.Lo,jA v.1.1.Hi,jA v.1.2.1.Lo,jA v.1.2.1.Hi,jA v.1.2.2.Lo,jA v.1.2.2.Hi,jA v.2.1.1.Lo,jA v.2.1.1.Hi,jA v.2.1.2.1.Lo,jA v.2.1.2.1.Hi,jA v.2.1.2.2.Lo,jA v.2.1.2.2.Hi,jA v.2.2.1.Lo,jA v.2.2.1.Hi,jA v.2.2.2.1.Lo,jA v.2.2.2.1.Hi,jA v.2.2.2.2.Lo,jA v.2.2.2.2.Hi]
def cz5 (v:Bm):PVal:=.agg [jA v.1.Lo,jA v.1.Hi,jA v.2.1.Lo,jA v.2.1.Hi,jA v.2.2.Lo,jA v.2.2.Hi]
def az6r (v:czh):PVal:=.agg [jA v.A,jA v.B]
def Mzk (v:czt):PVal:=.agg [encL 3 gzg v.shapes,encL 2 az6r v.pairs,encL 1 (encL 6 cz5) v.points]
def az4f (v:bze):PVal:=.agg [jA v.XR,encL 1 azy v.Left,encL 1 azy v.XL]
def az4e (v:ezy):PVal:=.agg [jA v.Xo,encL 3 azs v.Xn,jA v.Xw.XR,encL 1 azy v.Xw.Left,encL 1 azy v.Xw.XL]
def Iz6 (v:gzc):PVal:=.agg [encL 6 cz5 v.a,encL 6 cz5 v.b,jA v.ra,jA v.rb]
def Uzn (v:fzs):PVal:=.agg [encL 6 cz5 v.points,jA v.radius]
def Rzl (v:ezz):PVal:=.agg [encL 6 cz5 v.a.points,jA v.a.radius,encL 6 cz5 v.b.points,jA v.b.radius]
def az4c (v:ezx):PVal:=.agg [jA v.Xo,jA v.XO.1,jA v.XO.2.1,jA v.XO.2.2,encL 1 azy v.Left,encL 1 azy v.XL,jA v.Steps]
def Pz8 (v:jz4):PVal:=.agg [encL 3 azs v.points,encL 1 azy v.weights]
def Pz7 (v:nzu):PVal:=.agg [encL 3 azs v.list.points,encL 1 azy v.list.weights]
def Mzl (v:kzn):PVal:=.agg [encL 3 azs v.list.points,encL 1 azy v.list.weights]
def Mzm (v:rzg):PVal:=.agg [encL 3 azs v.left.list.points,encL 1 azy v.left.list.weights,encL 3 azs v.right.list.points,encL 1 azy v.right.list.weights,jA v.normal.1,jA v.normal.2.1,jA v.normal.2.2,jA v.rounds]
def Czh (v:izw):PVal:=.agg [jA v.witness.XR,encL 1 azy v.witness.Left,encL 1 azy v.witness.XL]
def zz5 (v:bzn):PVal:=.agg [encL 3 azs v.normals]
def xzw (v:az6):PVal:=.agg [jA v.Xk,jA v.Xu,encL 3 azs v.Xn]
def Uzm (v:azo):PVal:=.agg [jA v.Xo,encL 3 xzw v.XC,jA v.At.Xk,jA v.At.Xu,encL 3 azs v.At.Xn,jA v.Xw.XR,encL 1 azy v.Xw.Left,encL 1 azy v.Xw.XL]
def gzf (v:az1):PVal:=.agg [jA v.U,jA v.V,jA v.Xp,jA v.Xx,jA v.XJ.Xo,encL 3 xzw v.XJ.XC,jA v.XJ.At.Xk,jA v.XJ.At.Xu,encL 3 azs v.XJ.At.Xn,jA v.XJ.Xw.XR,encL 1 azy v.XJ.Xw.Left,encL 1 azy v.XJ.Xw.XL]
def az4d (v:azd):PVal:=.agg [encL 1 (encL 1 azy) v.Xa,encL 12 gzf v.Xb]
def Pz6 (v:Ca):PVal:=.agg [jA v.1,jA v.2.1,jA v.2.2.1,jA v.2.2.2.1,jA v.2.2.2.2.1,jA v.2.2.2.2.2.1,jA v.2.2.2.2.2.2.1,jA v.2.2.2.2.2.2.2.1,jA v.2.2.2.2.2.2.2.2.1,jA v.2.2.2.2.2.2.2.2.2]
def czn (v:Ca):List PVal:=[jA v.1,jA v.2.1,jA v.2.2.1,jA v.2.2.2.1,jA v.2.2.2.2.1,jA v.2.2.2.2.2.1,jA v.2.2.2.2.2.2.1,jA v.2.2.2.2.2.2.2.1,jA v.2.2.2.2.2.2.2.2.1,jA v.2.2.2.2.2.2.2.2.2]
def Wz8 (v:bzc):PVal:=.agg [jA v.XM,jA v.XX,jA v.XZ,jA v.XY]
def Iz7 (v:dzj):PVal:=.agg [encL 12 hz2 v.joints,encL 1 (encL 1 azy) v.points,encL 4 Wz8 v.tree,encL 1 azy v.q]
def Jzt (v:B2):PVal:=.agg [jA v.1,jA v.2]
def czv (v:B2):List PVal:=[jA v.1,jA v.2]
def azbb (v:dz2):PVal:=.agg [encL 1 azy v.Xy,jA v.Xp]
def fzd (v:azi):PVal:=.agg [jA v.to,jA v.cost]
def Dz7 (v:azj):PVal:=.agg [jA v.cost,jA v.points]
def Bzz (v:azq):PVal:=.agg [jA v.rank.cost,jA v.rank.points,jA v.point]
def Rzk (v:yzq):PVal:=.agg [encL 12 hz2 v.scene.Xg.Xc,encL 5 kzw v.scene.Xg.Xv,encL 3 gzg v.scene.Xe,encL 2 qzh v.scene.Xs,jA v.depth]
def Gzi (v:bzq):PVal:=.agg [encL 12 hz2 v.scene.Xg.Xc,encL 5 kzw v.scene.Xg.Xv,encL 3 gzg v.scene.Xe,encL 2 qzh v.scene.Xs,encL 1 azy v.p,encL 1 azy v.q,encL 3 xzw v.pieces]
def mzk (v:Bh):List PVal:=[jA v.1,jA v.2.1,jA v.2.2]
def Rzj (v:yzp):PVal:=.agg [encL 1 azy v.list,jA v.next]
def Uzp (v:bz0):PVal:=.agg [encL 1 azy v.mode.Xf,jA v.before,jA v.action.Xo,jA v.action.Xt,jA v.action.Place,jA v.depth]
def Uzo (v:azz):PVal:=.agg [encL 6 cz5 v.points,jA v.radius]
def Dz6 (v:azg):PVal:=.agg [jA v.Xp,jA v.Xb]
def rzt (v:azu):PVal:=.agg [jA v.depth,jA v.index,encL 3 azs v.hints]
def jzj (v:Cc):PVal:=.agg [jA v.1,jA v.2.1,jA v.2.2.1,jA v.2.2.2.1,jA v.2.2.2.2.1,jA v.2.2.2.2.2.1,jA v.2.2.2.2.2.2.1,jA v.2.2.2.2.2.2.2.1,jA v.2.2.2.2.2.2.2.2.1,jA v.2.2.2.2.2.2.2.2.2.1,jA v.2.2.2.2.2.2.2.2.2.2]
instance:En azt:=⟨12,hz2⟩
instance:En bzm:=⟨5,kzw⟩
instance:En azl:=⟨2,azba⟩
instance:En azf:=⟨3,gzg⟩
instance:En dzo:=⟨2,qzh⟩
instance:En az7:=⟨4,azbc⟩
instance:En azx:=⟨2,rzc⟩
instance:En dzn:=⟨4,Jzs⟩
instance:En cz4:=⟨3,Jzr⟩
instance:En az2:=⟨9,Xzi⟩
instance:En azk:=⟨1,azg1⟩
instance:En aza:=⟨3,Wz7⟩
instance:En dzq:=⟨3,Rzh⟩
instance:En azp:=⟨2,izg⟩
instance:En bz6:=⟨2,azg2⟩
instance:En az9:=⟨6,bzd⟩
instance:En Bh:=⟨3,azs⟩
instance:En cz3:=⟨4,az8o⟩
instance:En azc:=⟨10,Czi⟩
instance:En tzv:=⟨4,azb9⟩
instance:En fzo:=⟨9,az13⟩
instance:En bzt:=⟨9,bzs⟩
instance:En C3:=⟨6,Xzj⟩
instance:En az0:=⟨2,uza⟩
instance:En bz7:=⟨24,az6s⟩
instance:En Bx:=⟨4,Rzi⟩
instance:En Bp:=⟨18,Gzh⟩
instance:En Bm:=⟨6,cz5⟩
instance:En czh:=⟨2,az6r⟩
instance:En czt:=⟨3,Mzk⟩
instance:En bze:=⟨3,az4f⟩
instance:En ezy:=⟨5,az4e⟩
instance:En gzc:=⟨4,Iz6⟩
instance:En fzs:=⟨2,Uzn⟩
instance:En ezz:=⟨4,Rzl⟩
instance:En ezx:=⟨7,az4c⟩
instance:En jz4:=⟨2,Pz8⟩
instance:En nzu:=⟨2,Pz7⟩
instance:En kzn:=⟨2,Mzl⟩
instance:En rzg:=⟨8,Mzm⟩
instance:En izw:=⟨3,Czh⟩
instance:En bzn:=⟨1,zz5⟩
instance:En az6:=⟨3,xzw⟩
instance:En azo:=⟨8,Uzm⟩
instance:En az1:=⟨12,gzf⟩
instance:En azd:=⟨2,az4d⟩
instance:En Ca:=⟨10,Pz6⟩
instance:En bzc:=⟨4,Wz8⟩
instance:En dzj:=⟨4,Iz7⟩
instance:En B2:=⟨2,Jzt⟩
instance:En dz2:=⟨2,azbb⟩
instance:En azi:=⟨2,fzd⟩
instance:En azj:=⟨2,Dz7⟩
instance:En azq:=⟨3,Bzz⟩
instance:En yzq:=⟨5,Rzk⟩
instance:En bzq:=⟨7,Gzi⟩
instance:En yzp:=⟨2,Rzj⟩
instance:En bz0:=⟨6,Uzp⟩
instance:En azz:=⟨2,Uzo⟩
instance:En azg:=⟨2,Dz6⟩
instance:En azu:=⟨3,rzt⟩
theorem gq20 (a b:Nat){f:FuncId}{fn:Func}(q:prog.funcs[f]?=some fn)(h:(fn.name== "runtime.NumGoroutine")=false:=by kernel_rfl)(h1:fn.body=some (.seq (.region 0 #[((gOps fn).getD 0 qu),((gOps fn).getD 1 qu)] false) (.cond (.tmp b) (gX fn) .skip)):=by kernel_rfl)(h2:((gOps fn).getD 0 qu).op=.call (gC ((gOps fn).getD 0 qu)):=by kernel_rfl)(h3:(gC ((gOps fn).getD 0 qu)).callee=.builtin .recover:=by kernel_rfl)(h4:((gOps fn).getD 0 qu).dst=some a:=by kernel_rfl)(h5:((gOps fn).getD 0 qu).guard=none:=by kernel_rfl)(h6:((gOps fn).getD 1 qu).op=.binOp .neq 20 (.tmp a) (.const .nilIface) 20:=by kernel_rfl)(h7:((gOps fn).getD 1 qu).dst=some b:=by kernel_rfl)(h8:((gOps fn).getD 1 qu).guard=none:=by kernel_rfl)(h9:a<fn.ntmps:=by decide)(h10:b<fn.ntmps:=by decide)(h11:fn.results=#[]:=by kernel_rfl):GuardFn prog f:=
 az8t q h ⟨0,_,_,a,b,gX fn,_,20,20,h1,h2,h3,h4,h5,h6,h7,h8,⟨gMs (prog.underlying 20),ju⟩,h9,h10,h11⟩
theorem azga:GuardFn prog 157:=
 gq20 2 3 func157
theorem azgb:GuardFn prog 219:=
 gq20 2 3 func219
theorem azgc:GuardFn prog 220:=
 gq20 2 3 func220
theorem azgd:GuardFn prog 281:=
 gq20 1 2 func281
theorem azge:GuardFn prog 286:=
 gq20 4 5 func286
theorem azgf:GuardFn prog 290:=
 gq20 1 2 func290
theorem azgg:GuardFn prog 294:=
 gq20 2 3 func294
theorem azgh:GuardFn prog 319:=
 gq20 1 2 func319
theorem azgi:GuardFn prog 328:=
 gq20 1 2 func328
theorem azgj:GuardFn prog 336:=
 gq20 2 3 func336
theorem azgk:GuardFn prog 337:=
 gq20 1 2 func337
theorem azgl:GuardFn prog 338:=
 gq20 2 3 func338
theorem azgm:GuardFn prog 341:=
 gq20 3 4 func341
theorem azgn:GuardFn prog 344:=
 gq20 2 3 func344
theorem azgo:GuardFn prog 374:=
 gq20 2 3 func374
theorem az72:GuardFn prog 384:=
 gq20 2 3 func384
theorem azgp:GuardFn prog 394:=
 gq20 1 2 func394
theorem azgq:GuardFn prog 396:=
 gq20 1 2 func396
theorem azgr:GuardFn prog 402:=
 gq20 1 2 func402
theorem azgs:GuardFn prog 418:=
 gq20 1 2 func418
theorem azgt:GuardFn prog 496:=
 gq20 1 2 func496
def mzs (j:az7):T Bool:=
 .jC ((j.Xg.Xc.length:Int)<=4) (.jC ((j.Xg.Xv.length:Int)<=6) (.jC ((j.Xe.length:Int)<=6) (.jn (qv ((j.Xs.length:Int)<=8))) (.jn false)) (.jn false)) (.jn false)
def yz0:=
 mkp1 func24 mzs
def zzs (j:az2):T Bool:=
 .cc (yz0 j.Xl) λaa=>.br aa (.jC ((j.Xd.length:Int)<=8) (.jC ((j.Xh.length:Int)<=12) (.jC ((j.Xj.length:Int)<=6) (.jn (qv ((j.Xi.length:Int)<=40))) (.jn false)) (.jn false)) (.jn false)) (.jn false)
def Kz6:=
 mkp1 func6 zzs
def zzy (j:Int):T ByteArray:=let aa:=qt.wrap (j+1);.grd (0<=j/\j<=aa/\aa<=(((⟨#[97,98,99,100,101,102,103,104,105,106]⟩:ByteArray).size:Nat):Int))<|.jn ((⟨#[97,98,99,100,101,102,103,104,105,106]⟩:ByteArray).extract j.toNat aa.toNat)
def zzx:=
 mkp1 func30 zzy
def Yzj (j:Int)(aa:Int):T azl:=
 .loop (λs (ab:(A0×Int))=>pk s [0,1,4,5] [0,1,2,64,66] [(6,pz ab.2)] [(65,vO ab.1 113)]) (.exit 0) (λs (ab:A0)=>pk s [4,5] [0,1,2,64,66] [] [(65,vO ab 113)]) (λab=>.jC (ab.2<j) (.cc (zzx ab.2) λac=>let ad:=([(⟨ac,(qt.wrap (4+(ab.2.tmod 2))),(qt.wrap (ab.2-1)),(0,0,0),0,aa,1,65536,65536,65536⟩:azt)]:A0);let ae:=ab.1.length+ad.length;
 .ok ((2:Int)≠0) jp<|.conv 5011 (kL ad 113)<|.conv 5012 (kA ab.1 ad 113)<|.grd (ae * 104<=140737488355328/\ae<=maxLen)<|.nn ((ab.1++ad),(qt.wrap (ab.2+1)))) (.oo ab.1)) (nl,0) [] λab=>.jn (⟨ab,nl⟩:azl)
def zzw:=
 mkp2 func28 Yzj
def az53:T az2:=
 .cc (zzw 2 64) λj=>.conv 3002 (kL ([(16,0,0),(32,0,0)]:Bi) 89)<|.conv 4001 (kL ([(⟨1,(0,0,0)⟩:dzn)]:A1) 93)<|.conv 5001 (kL ([(0,0,0)]:Bi) 89)<|.conv 5003 (kL ([(⟨0,1,([(0,0,0)]:Bi)⟩:azf)]:A2) 91)<|.conv 5005 (kL ([(⟨(⟨#[111]⟩:ByteArray),([(⟨0,1,([(0,0,0)]:Bi)⟩:azf)]:A2)⟩:azx)]:A3) 87)<|.conv 6000 (kL ([16,0]:A4) 2)<|.conv 6002 (kL ([32,0]:A4) 2)<|.conv 6004 (kL ([(⟨0,0,([16,0]:A4)⟩:cz4),(⟨0,1,([32,0]:A4)⟩:cz4)]:A7) 110)<|.jn (⟨(⟨j,nl,nl⟩:az7),([(⟨(⟨#[111]⟩:ByteArray),([(⟨0,1,([(0,0,0)]:Bi)⟩:azf)]:A2)⟩:azx)]:A3),([(16,0,0),(32,0,0)]:Bi),([(⟨1,(0,0,0)⟩:dzn)]:A1),([(⟨0,0,([16,0]:A4)⟩:cz4),(⟨0,1,([32,0]:A4)⟩:cz4)]:A7),0⟩:az2)
def law39_one_C:CallS az2:=
 mkD func25 (az53) 0 [] [] (λr=>q r) X6
def Dzs (j:Int)(aa:Int):T Int:=let ab:=j.tmod aa;.grd (aa≠0)<|.cut 0 (λs (ac:Int)=>pk s [] [] [(5,pz ac)] []) (.jC (ab<0) (.oo (qt.wrap (ab+aa))) (.oo ab)) λac=>.jn ac
def czi:=
 mkp2 func17 Dzs
def Uzu (j:Int)(aa:Int):T cz3:=
 .cc (czi j 4) λab=>.cc (czi aa 20) λac=>.jn (⟨ab,3,4,ac⟩:cz3)
def hze:=
 mkp2 func13 Uzu
def qza (j:Int):T Bool:=
 .jC (97<=j) (.jn (qv (j<=122))) (.jn false)
def Czg (j):=
 mkD func136 (qza j) 0 [.pure (.int .i32 j)] [] (λr=>q r) X6
def tzt (j:Int):T Bool:=
 .jC (48<=j) (.jn (qv (j<=57))) (.jn false)
def Fzq (j):=
 mkD func137 (tzt j) 0 [.pure (.int .i32 j)] [] (λr=>q r) X6
def Fzp (j:ByteArray):T Bool:=let aa:=(j.size:Nat);.cub 2 16 [0] [] (.jD ((aa:Int)==0) (.jF ((aa:Int)>16) (.oo (j==(⟨#[119,111,114,108,100]⟩:ByteArray))))) λab=>.br ab (.jn false) (.loop (λs (ac:Nat)=>pk s [18] [] [] [(192,.iter j ac)]) (.exit 0) (jk [] []) (λac=>let ad:=Utf8.decode j ac;let ae:=(ad.1:Int);.brP (ac<j.size) (.cub 2 38 [18] [192] (.cc (Czg ae) λaf=>.jE (!af) (.jD ((ac:Int)==0) (.cc (Fzq ae) λag=>.jE (!ag) (.oo (ae !=95))))) λaf=>.br af (.ff false) (.nn (ac+ad.2))) (.oo .u))
 0 [] λ_=>.jn true)
def Fzo:=
 mkp1 func79 Fzp
def Fza (j:azl)(aa:ByteArray):T Int:=
 .loop (ik 9 [1,2,8] [0]) (.exit 0) (jk [] []) (λab=>.jC (ab<(j.Xc.length:Int)) (.gh ab j.Xc.length<|.br (((j.Xc.getD (ab.toNat) qu).XG)==aa) (.ff ab) (.nn (qt.wrap (ab+1)))) (.oo .u))
 0 [] λ_=>.jn (-1)
def Ozu:=
 mkp2 func202 Fza
def xza (j:Bh):T Bool:=
 .loop (ik 6 [5] []) (.exit 0) (jk [] []) (λaa=>let ab:=([j.1,j.2.1,j.2.2]:List Int).getD aa.toNat 0;.jC (aa<3) (.gh aa 3<|.cub 0 14 [5,6] [] (.jF (ab<(-4194304)) (.oo (qv (ab>4194304)))) λac=>.br ac (.ff true) (.nn (qt.wrap (aa+1)))) (.oo .u))
 0 [] λ_=>.jn false
def xz9:=
 mkp1 func203 xza
def Bzg (j:Int):T Int:=
 .cub 3 4 [3] [] (.br (j==1) (.oo (j==1)) (.br (j==2) (.oo (j==2)) (.oo (j==3)))) λaa=>.br aa (.jn 524288) (.cub 0 8 [] [] (.br (j==4) (.oo (j==4)) (.br (j==5) (.oo (j==5)) (.oo (j==6)))) λab=>.br ab (.jn 4194304) (.jn 0))
def Lzh:=
 mkp1 func204 Bzg
def Bzf (j:Int)(aa:Int):T Bool:=
 .jC (1<=j) (.jn (qv (j<=aa))) (.jn false)
def izr:=
 mkp2 func205 Bzf
def lzo (j:azl)(aa:Int):T Int:=let ab:=j.Xc.getD (aa.toNat) qu;let ac:=ab.Xo;.gh aa j.Xc.length<|.cub 1 12 [1,5] [448] (.cc (Fzo (ab.XG)) λad=>.jD (!ad) (.cc (Ozu (⟨j.Xc,j.Xv⟩:azl) (ab.XG)) λae=>.oo (ae !=aa))) λad=>.br ad (.jn 802) (.cub 0 25 [1,5] [448] (.jF (ac<0) (.oo (qv (ac>6)))) λae=>.br ae (.jn 803) (.cub 0 34 [5] [448] (.jF ((ab.XD)<(-1)) (.oo (qv ((ab.XD)>=aa)))) λaf=>.br af (.jn 804) (.cc (xz9 (ab.XA)) λag=>.br ag (.jn 805) (.cc (Lzh ac) λah=>.cub 1 68 [5] [448] (.jF ((ab.Lo)>(ab.Hi)) (.jF ((ab.Lo)<(qt.wrap (0-ah))) (.oo (qv ((ab.Hi)>ah))))) λai=>.br ai (.jn 806) (.cub 1 90 [] [] (.cc (izr (ab.XP) 1024) λaj=>.jD (!aj) (.cc (izr (ab.XS) 1048576) λak=>.jD (!ak) (.cc (izr (ab.XT) 1048576) λal=>.jD (!al) (.cc (izr (ab.XQ) 1099511627776) λam=>.oo (!am))))) λaj=>.br aj (.jn 807) (.jn 0))))))
def vz3:=
 mkp2 func141 lzo
def nzj (j:azl)(aa:bzm):T Bool:=
 .jC (0<=aa.Xz) (.jC (aa.Xz<(j.Xc.length:Int)) (.cc (izr aa.XU 65536) λab=>.br ab (.cc (xz9 aa.XM) λac=>.jn (!ac)) (.jn false)) (.jn false)) (.jn false)
def yz9:=
 mkp2 func144 nzj
def tz9 (j:bzm)(aa:A0)(ab:A8):T (Bool×A0×A8):=
 .cc (yz9 (⟨aa,ab⟩:azl) (⟨j.Xz,j.XU,j.XM⟩:bzm)) λac=>.jn ((!ac),aa,ab)
def Fz9 (j)(aa)(ab):=
 mkD func143 (tz9 j aa ab) 1 [q j,X7 0] [(0,.box [q aa,q ab])] (λr=>q r.1) (λr=>[(0,.box [q r.2.1,q r.2.2])])
def dzg (j:A8)(aa:A0)(ab:A8):T (Int×A0×A8):=
 .loop (λs (ac:(A0×A8×Int))=>pk s [0,1,7] [] [(8,pz ac.2.2)] [(0,.box [q ac.1,q ac.2.1])]) (.exit 0) (λs (ac:(A0×A8))=>pk s [] [] [] [(0,.box [q ac.1,q ac.2])]) (λac=>.jC (ac.2.2<(j.length:Int)) (.gh ac.2.2 j.length<|.call (Fz9 (j.getD (X3 ac.2.2) qu) ac.1 ac.2.1) [(0,0)] λad=>.br ad.1 (.ff (ac.2.2,ad.2.1,ad.2.2)) (.nn (ad.2.1,ad.2.2,(qt.wrap (ac.2.2+1))))) (.oo (ac.1,ac.2.1))) (aa,ab,0) [] λac=>.jn ((-1),ac.1,ac.2)
def fz8 (j)(aa)(ab):=
 mkD func206 (dzg j aa ab) 1 [q j,.func 143 [] [X7 0]] [(0,.box [q aa,q ab])] (λr=>pz r.1) (λr=>[(0,.box [q r.2.1,q r.2.2])])
def czy (j:A8)(aa:A0)(ab:A8):T (Bool×A0×A8):=
 .call (fz8 j aa ab) [(0,0)] λac=>.jn ((qv (ac.1>=0)),ac.2.1,ac.2.2)
def ezj (j)(aa)(ab):=
 mkD func142 (czy j aa ab) 1 [q j,.func 143 [] [X7 0]] [(0,.box [q aa,q ab])] (λr=>q r.1) (λr=>[(0,.box [q r.2.1,q r.2.2])])
def Bzd (j:azl):T Int:=let aa:=(j.Xc.length:Int);.cub 2 14 [1] [0] (.jD (aa==0) (.oo (qv (aa>10)))) λab=>.br ab (.jn 801) (.loop (ik 18 [1,17] [0]) (.exit 0) (jk [1] [0]) (λac=>.jC (ac<aa) (.cc (vz3 (⟨j.Xc,j.Xv⟩:azl) ac) λad=>.br (ad !=0) (.ff ad) (.nn (qt.wrap (ac+1)))) (.oo .u))
 0 [] λ_=>.cub 1 37 [] [] (.jF ((j.Xv.length:Int)>32) (.call (ezj j.Xv j.Xc j.Xv) [(0,0)] λac=>.oo ac.1)) λac=>.br ac (.jn 808) (.jn 0))
def fz3:=
 mkp1 func83 Bzd
def xzb (j:az7)(aa:Int):T Bool:=
 .jC ((-1)<=aa) (.jn (qv (aa<(j.Xg.Xc.length:Int)))) (.jn false)
def oz8:=
 mkp2 func134 xzb
def lzr (j:az7)(aa:azf):T Int:=let ab:=(aa.Xa.length:Int);.cub 3 35 [3] [64] (.cc (oz8 j aa.Xz) λac=>.jD (!ac) (.jF (aa.XE<1) (.jF (aa.XE>1048576) (.jF (ab<1) (.oo (qv (ab>8))))))) λac=>.br ac (.jn 902) (.loop (ik 39 [37,38] []) (.exit 0) (jk [] []) (λad=>let ae:=aa.Xa.getD (ad.toNat) qu;.jC (ad<ab) (.gh ad aa.Xa.length<|.loop (ik 44 [37,38,39,43] []) (.exit 2) (jk [37,38,39] []) (λaf=>.jC (af<3) (.gh af 3<|.name 9000 ((([ae.1,ae.2.1,ae.2.2]:List Int).getD af.toNat 0)) λag=>.cub 0 52 [37,38,39,43,44] [] (.jF (ag<(-4194304)) (.oo (qv (ag>4194304)))) λah=>.br ah (.ff (.fin 805)) (.nn (qt.wrap (af+1)))) (.oo .u))
 0 [] λ_=>.nn (qt.wrap (ad+1))) (.oo .u))
 0 [] λ_=>.jn 0)
def vz4:=
 mkp2 func133 lzr
def Bzh (j:az7):T Int:=let aa:=(j.Xs.length:Int);let ab:=(j.Xe.length:Int);.cc (fz3 j.Xg) λac=>.br (ac !=0) (.jn ac) (.jC (ab>24) (.jn 901) (.loop (ik 22 [1,20,21] [0]) (.exit 0) (jk [1] [0]) (λad=>.jC (ad<ab) (.gh ad j.Xe.length<|.cc (vz4 j (j.Xe.getD (ad.toNat) qu)) λae=>.br (ae !=0) (.ff ae) (.nn (qt.wrap (ad+1)))) (.oo .u))
 0 [] λ_=>.jC (aa>64) (.jn 903) (.loop (ik 40 [1,38,39] [0]) (.exit 2) (jk [] []) (λad=>let ae:=j.Xs.getD (ad.toNat) qu;.jC (ad<aa) (.gh ad j.Xs.length<|.cub 0 55 [1,38,39,40] [0] (.cc (oz8 j (ae.A)) λaf=>.jD (!af) (.cc (oz8 j (ae.B)) λag=>.oo (!ag))) λaf=>.br af (.ff 903) (.nn (qt.wrap (ad+1)))) (.oo .u))
 0 [] λ_=>.jn 0)))
def ezd:=
 mkp1 func76 Bzh
def Dzk (j:Bh):T Bool:=
 .unroll 4<|.ji<|.z7<|.z7<|.lit 6000 1<|.ji<|.z8<|.z8<|.lit 6000 2<|.ji<|.z9<|.z9<|.lit 6000 3<|.jm<|.jn (((min (max j.1 (-2097152)) 2097152)==j.1)&&(((min (max j.2.1 (-2097152)) 2097152)==j.2.1)&&(((min (max j.2.2 (-2097152)) 2097152)==j.2.2)&&true)))
def uzc:=
 mkp1 func135 Dzk
def zzi (j:az2)(aa:Int)(ab:Int):T Bool:=
 .jC (0<=aa) (.jC (aa<(j.Xj.length:Int)) (.jC (0<=ab) (.jn (qv (ab<(j.Xh.length:Int)))) (.jn false)) (.jn false)) (.jn false)
def zzh:=
 mkp3 func91 zzi
def mzm (j:azt)(aa:Int):T Bool:=
 .jC (j.Lo<=aa) (.jn (qv (aa<=j.Hi))) (.jn false)
def xzt:=
 mkp2 func85 mzm
def ezf (j:A0)(aa:A4):T Bool:=let ab:=(j.length:Int);.br (ab !=(aa.length:Int)) (.jn false) (.loop (ik 16 [1,2,14,15] []) (.exit 0) (jk [] []) (λac=>.jC (ac<ab) (.gh ac j.length<|.gh ac aa.length<|.cc (xzt (j.getD (ac.toNat) qu) (aa.getD (ac.toNat) qu)) λad=>.br (!ad) (.ff false) (.nn (qt.wrap (ac+1)))) (.oo .u))
 0 [] λ_=>.jn true)
def gzr (j)(aa):=
 mkD func84 (ezf j aa) 0 [q j,q aa,.func 85 [] []] [] (λr=>q r) X6
def rzs (j:azl)(aa:A4):T Bool:=
 .cc (fz3 j) λab=>.br (ab==0) (.cc (gzr j.Xc aa) λac=>.jn ac) (.jn false)
def bzr:=
 mkp2 func41 rzs
def sz1 (j:az2):T Bool:=let aa:=(j.Xj.length:Int);let ab:=(j.Xi.length:Int);let ac:=(j.Xh.length:Int);.cub 2 30 [1] [0] (.jF ((j.Xd.length:Int)>6) (.jF (ac>8) (.jF (aa>3) (.oo (qv (ab>32)))))) λad=>.br ad (.jn false) (.cub 1 38 [1] [0] (.jF (j.Xq<0) (.oo (qv (j.Xq>65536)))) λae=>.br ae (.jn false) (.loop (ik 42 [1,40,41] [0]) (.exit 0) (jk [1] [0]) (λaf=>.jC (af<ac) (.gh af j.Xh.length<|.cc (uzc (j.Xh.getD (af.toNat) qu)) λag=>.br (!ag) (.ff false) (.nn (qt.wrap (af+1)))) (.oo .u))
 0 [] λ_=>.loop (ik 53 [1,51,52] [0]) (.exit 2) (jk [1] [0]) (λaf=>let ag:=j.Xj.getD (af.toNat) qu;.jC (af<aa) (.gh af j.Xj.length<|.cub 0 75 [1,51,52,53] [0] (.jF ((ag.Xz)<0) (.jF ((ag.Xz)>=(j.Xl.Xg.Xc.length:Int)) (.cc (uzc (ag.XA)) λah=>.oo (!ah)))) λah=>.br ah (.ff false) (.nn (qt.wrap (af+1)))) (.oo .u))
 0 [] λ_=>.loop (ik 80 [1,78,79] [0]) (.exit 4) (jk [] []) (λaf=>let ag:=j.Xi.getD (af.toNat) qu;.jC (af<ab) (.gh af j.Xi.length<|.cub 0 99 [1,78,79,80] [0] (.cc (zzh (⟨j.Xl,j.Xd,j.Xh,j.Xj,j.Xi,j.Xq⟩:az2) (ag.Xt) (ag.Place)) λah=>.jD (!ah) (.cc (bzr j.Xl.Xg (ag.At)) λai=>.oo (!ai))) λah=>.br ah (.ff false) (.nn (qt.wrap (af+1)))) (.oo .u))
 0 [] λ_=>.jn true))
def sz0:=
 mkp1 func77 sz1
def Rzv (j:azx)(aa:ByteArray)(ab:A2):T By:=
 .jn ((j.XG==aa),aa,ab)
def Dzj (j)(aa)(ab):=
 mkD func78 (Rzv j aa ab) 1 [q j,X7 0] [(0,.box [q aa,q ab])] (λr=>q r.1) (λr=>[(0,.box [q r.2.1,q r.2.2])])
def czr (j:A3)(aa:ByteArray)(ab:A2):T (Int×ByteArray×A2):=
 .loop (λs (ac:(ByteArray×A2×Int))=>pk s [0,1,7] [] [(8,pz ac.2.2)] [(0,.box [q ac.1,q ac.2.1])]) (.exit 0) (λs (ac:(ByteArray×A2))=>pk s [] [] [] [(0,.box [q ac.1,q ac.2])]) (λac=>.jC (ac.2.2<(j.length:Int)) (.gh ac.2.2 j.length<|.call (Dzj (j.getD (X3 ac.2.2) qu) ac.1 ac.2.1) [(0,0)] λad=>.br ad.1 (.ff (ac.2.2,ad.2.1,ad.2.2)) (.nn (ad.2.1,ad.2.2,(qt.wrap (ac.2.2+1))))) (.oo (ac.1,ac.2.1))) (aa,ab,0) [] λac=>.jn ((-1),ac.1,ac.2)
def ez8 (j)(aa)(ab):=
 mkD func138 (czr j aa ab) 1 [q j,.func 78 [] [X7 0]] [(0,.box [q aa,q ab])] (λr=>pz r.1) (λr=>[(0,.box [q r.2.1,q r.2.2])])
def cza (j:A3)(aa:ByteArray)(ab:A2):T By:=
 .call (ez8 j aa ab) [(0,0)] λac=>.jn ((qv (ac.1>=0)),ac.2.1,ac.2.2)
def dzy (j)(aa)(ab):=
 mkD func80 (cza j aa ab) 1 [q j,.func 78 [] [X7 0]] [(0,.box [q aa,q ab])] (λr=>q r.1) (λr=>[(0,.box [q r.2.1,q r.2.2])])
def Bzk (j:azf):T Bool:=let aa:=(j.Xa.length:Int);.cub 2 26 [1] [0] (.jF (j.XE<1) (.jF (j.XE>1048576) (.jF (aa<1) (.oo (qv (aa>8)))))) λab=>.br ab (.jn false) (.loop (ik 30 [28,29] []) (.exit 0) (jk [] []) (λac=>let ad:=j.Xa.getD (ac.toNat) qu;.jC (ac<aa) (.gh ac j.Xa.length<|.loop (ik 35 [28,29,30,34] []) (.exit 2) (jk [28,29,30] []) (λae=>.jC (ae<3) (.gh ae 3<|.name 8000 ((([ad.1,ad.2.1,ad.2.2]:List Int).getD ae.toNat 0)) λaf=>.cub 0 43 [28,29,30,34,35] [] (.jF (af<(-4194304)) (.oo (qv (af>4194304)))) λag=>.br ag (.ff (.fin false)) (.nn (qt.wrap (ae+1)))) (.oo .u))
 0 [] λ_=>.nn (qt.wrap (ac+1))) (.oo .u))
 0 [] λ_=>.jn true)
def Bzj:=
 mkp1 func139 Bzk
def zzk (j:azx):T Bool:=let aa:=(j.Xe.length:Int);.loop (ik 10 [1,8,9] [0]) (.exit 0) (jk [1] [0]) (λab=>let ac:=j.Xe.getD (ab.toNat) qu;.jC (ab<aa) (.gh ab j.Xe.length<|.cub 1 21 [1,4,8,9,10] [0,640] (.cc (Bzj ac) λad=>.jD (!ad) (.oo ((ac.Xz) !=0))) λad=>.br ad (.ff false) (.loop (ik 25 [1,8,9,10,23,24] [0]) (.exit 2) (jk [1,8,9,10] [0]) (λae=>.jC (ae<(ac.Xa.length:Int)) (.gh ae (ac.Xa.length)<|.call (uzc ((ac.Xa).getD (ae.toNat) qu)) [] λaf=>.br (!af) (.ff (.fin false)) (.nn (qt.wrap (ae+1)))) (.oo .u))
 0 [] λ_=>.nn (qt.wrap (ab+1)))) (.oo .u))
 0 [] λ_=>.jn (qv (aa>0))
def zzj:=
 mkp1 func81 zzk
def zze (j:az2):T Int:=let aa:=(j.Xd.length:Int);.cc (ezd j.Xl) λab=>.br (ab !=0) (.jn ab) (.cc (sz0 (⟨j.Xl,j.Xd,j.Xh,j.Xj,j.Xi,j.Xq⟩:az2)) λac=>.br (!ac) (.jn 3401) (.loop (λs (ad:B2)=>pk s [1,22,23] [0] [(4,pz ad.1),(24,pz ad.2)] []) (.exit 0) (ik 4 [] []) (λad=>let ae:=j.Xd.getD (X3 ad.2) qu;.jC (ad.2<aa) (.gh ad.2 j.Xd.length<|.cut 2 (λs (af:(ByteArray×A2×Bool))=>pk s [1,4,6,22,23,24] [0] [(46,q af.2.2)] [(1600,.box [q af.1,q af.2.1])]) (.cc (Fzo (ae.XG)) λaf=>.br (!af) (.oo (ae.XG,ae.Xe,true)) (.conv 11008 (Dz4 2 rzc j.Xd (0:Int) ad.2)<|.grd (0<=(0:Int)/\(0:Int)<=ad.2/\ad.2<=aa)<|.call (dzy ((j.Xd.drop (X3 (0:Int))).take ((ad.2).toNat- (0:Int).toNat)) (ae.XG) (ae.Xe)) [(0,1600)] λag=>.br ag.1 (.oo (ag.2.1,ag.2.2,true)) (.cc (zzj (⟨ag.2.1,ag.2.2⟩:azx)) λah=>.oo (ag.2.1,ag.2.2,(!ah))))) λaf=>.br af.2.2 (.ff 3402) (.nn ((qt.wrap (ad.1+(af.2.1.length:Int))),(qt.wrap (ad.2+1))))) (.oo ad.1)) ((j.Xl.Xe.length:Int),0) [] λad=>.jC (ad>24) (.jn 3401) (.jn 0)))
def izi:=
 mkp1 func39 zze
def hzm (j:A4)(aa:Int):T Int:=
 .loop (ik 8 [0,1,7] []) (.exit 0) (jk [] []) (λab=>.jC (ab<(j.length:Int)) (.gh ab j.length<|.br (aa==(j.getD (ab.toNat) qu)) (.ff ab) (.nn (qt.wrap (ab+1)))) (.oo .u))
 0 [] λ_=>.jn (-1)
def mzf:=
 mkp2 func140 hzm
def gz4 (j:A4)(aa:Int):T Bool:=
 .cc (mzf j aa) λab=>.jn (qv (ab>=0))
def jzd:=
 mkp2 func82 gz4
def zzg (j:az2)(aa:azk):T Bool:=let ab:=(aa.Xf.length:Int);.cub 2 18 [2,3] [0,64] (.cc (izi (⟨j.Xl,j.Xd,j.Xh,j.Xj,j.Xi,j.Xq⟩:az2)) λac=>.jD (ac !=0) (.oo (ab !=(j.Xd.length:Int)))) λac=>.br ac (.jn false) (.loop (ik 22 [2,3,20,21] [0,64]) (.exit 0) (jk [] []) (λad=>let ae:=aa.Xf.getD (ad.toNat) qu;.jC (ad<ab) (.gh ad aa.Xf.length<|.cub 0 47 [2,3,20,21,22] [0,64] (.jF (ae<(qt.wrap (0- (j.Xj.length:Int)))) (.jF (ae>=(j.Xh.length:Int)) (.conv 6017 (Dz4 1 azy aa.Xf (0:Int) ad)<|.grd (0<=(0:Int)/\(0:Int)<=ad/\ad<=ab)<|.cc (jzd ((aa.Xf.drop (X3 (0:Int))).take (ad.toNat- (0:Int).toNat)) ae) λaf=>.oo af))) λaf=>.br af (.ff false) (.nn (qt.wrap (ad+1)))) (.oo .u))
 0 [] λ_=>.jn true)
def ez9:=
 mkp2 func40 zzg
def Jzf (j:cz3):T Bool:=
 .jC (j.XI>=0) (.jC (j.XI<=1022) (.jC (j.XK>=1) (.jC (j.XK<=16) (.jC (j.Xk>=0) (.jC (j.Xk<=20) (.jC (j.XN>=0) (.jn (qv (j.XN<=8192))) (.jn false)) (.jn false)) (.jn false)) (.jn false)) (.jn false)) (.jn false)) (.jn false)
def hz1:=
 mkp1 func62 Jzf
def tzr (j:azk):T C3:=
 .unroll 7<|.ji<|.ix 0 6 rfl<|.lit 6000 1<|.ji<|.ix 1 6 rfl<|.lit 6000 2<|.ji<|.ix 2 6 rfl<|.lit 6000 3<|.ji<|.ix 3 6 rfl<|.lit 6000 4<|.ji<|.ix 4 6 rfl<|.lit 6000 5<|.ji<|.ix 5 6 rfl<|.lit 6000 6<|.jm<|.jn ((if 0<j.Xf.length then j.Xf.getD 0 qu else(-1048577)),(if 1<j.Xf.length then j.Xf.getD 1 qu else(-1048577)),(if 2<j.Xf.length then j.Xf.getD 2 qu else(-1048577)),(if 3<j.Xf.length then j.Xf.getD 3 qu else(-1048577)),(if 4<j.Xf.length then j.Xf.getD 4 qu else(-1048577)),(if 5<j.Xf.length then j.Xf.getD 5 qu else(-1048577)))
def iz8:=
 mkp1 func89 tzr
def Az3 (j:C3)(aa:A4):T Bool:=
 .loop (ik 9 [2,7,8] [0]) (.exit 0) (jk [] []) (λab=>let ac:=aa.getD (ab.toNat) qu;.jC (ab<(aa.length:Int)) (.gh ab aa.length<|.cub 0 22 [2,7,8,9] [0] (.jE (ac !=(-1048576)) (.cas 4004 ab 0 (.ix 0 6 rfl<|.oo (ac !=j.1)) (.cas 4004 ab 1 (.ix 1 6 rfl<|.oo (ac !=j.2.1)) (.cas 4004 ab 2 (.ix 2 6 rfl<|.oo (ac !=j.2.2.1)) (.cas 4004 ab 3 (.ix 3 6 rfl<|.oo (ac !=j.2.2.2.1)) (.cas 4004 ab 4 (.ix 4 6 rfl<|.oo (ac !=j.2.2.2.2.1)) (.cas 4004 ab 5 (.ix 5 6 rfl<|.oo (ac !=j.2.2.2.2.2)) (.stop)))))))) λad=>.br ad (.ff false) (.nn (qt.wrap (ab+1)))) (.oo .u))
 0 [] λ_=>.jn true
def qzn:=
 mkp2 func99 Az3
def nzs (j:cz4)(aa:Int)(ab:Int):T Bq:=
 .br (j.Xt==aa) (.jn ((j.Place==ab),aa,ab)) (.jn (false,aa,ab))
def yzj (j)(aa)(ab):=
 mkD func184 (nzs j aa ab) 2 [q j,X7 0,X7 1] [(0,.box [pz aa]),(1,.box [pz ab])] (λr=>q r.1) (λr=>[(0,.box [pz r.2.1]),(1,.box [pz r.2.2])])
def dzf (j:A7)(aa:Int)(ab:Int):T Bh:=
 .loop (λs (ac:Bh)=>pk s [0,1,7] [] [(8,pz ac.2.2)] [(0,.box [pz ac.1]),(1,.box [pz ac.2.1])]) (.exit 0) (λs (ac:B2)=>pk s [] [] [] [(0,.box [pz ac.1]),(1,.box [pz ac.2])]) (λac=>.jC (ac.2.2<(j.length:Int)) (.gh ac.2.2 j.length<|.call (yzj (j.getD (X3 ac.2.2) qu) ac.1 ac.2.1) [(0,0),(1,1)] λad=>.br ad.1 (.ff (ac.2.2,ad.2.1,ad.2.2)) (.nn (ad.2.1,ad.2.2,(qt.wrap (ac.2.2+1))))) (.oo (ac.1,ac.2.1))) (aa,ab,0) [] λac=>.jn ((-1),ac.1,ac.2)
def fz7 (j)(aa)(ab):=
 mkD func240 (dzf j aa ab) 2 [q j,.func 184 [] [X7 0,X7 1]] [(0,.box [pz aa]),(1,.box [pz ab])] (λr=>pz r.1) (λr=>[(0,.box [pz r.2.1]),(1,.box [pz r.2.2])])
def czx (j:A7)(aa:Int)(ab:Int):T Bq:=
 .call (fz7 j aa ab) [(0,0),(1,1)] λac=>.jn ((qv (ac.1>=0)),ac.2.1,ac.2.2)
def ezi (j)(aa)(ab):=
 mkD func185 (czx j aa ab) 2 [q j,.func 184 [] [X7 0,X7 1]] [(0,.box [pz aa]),(1,.box [pz ab])] (λr=>q r.1) (λr=>[(0,.box [pz r.2.1]),(1,.box [pz r.2.2])])
def tzq (j:az2):T A9:=
 .loop (λs (aa:Aa)=>pk s [1,3,9] [0] [(10,pz aa.2)] [(128,vO aa.1 62)]) (.exit 0) (λs (aa:A9)=>pk s [3] [] [] [(128,vO aa 62)]) (λaa=>.jC (aa.2<(j.Xj.length:Int)) (.loop (λs (ab:(A9×Int×Int))=>pk s [1,3,4,9,10,15] [0] [(16,pz ab.2.2)] [(128,vO ab.1 62),(640,.box [pz ab.2.1])]) (.exit 2) (λs (ab:A9)=>pk s [1,3,9,10] [0] [] [(128,vO ab 62)]) (λab=>.jC (ab.2.2<(j.Xh.length:Int)) (.cut 0 (λs (ac:Aa)=>pk s [1,4,9,10,15,16] [0] [(3,.vec 1152)] [(640,.box [pz ac.2]),(1152,vO ac.1 62)]) (.call (ezi j.Xi ab.2.1 ab.2.2) [(0,640),(1,1216)] λac=>let ad:=([(⟨0,ac.2.1,ac.2.2⟩:aza)]:A9);let ae:=ab.1.length+ad.length;
 .br ac.1 (.conv 10004 (kL ad 62)<|.conv 10005 (kA ab.1 ad 62)<|.grd (ae * 24<=140737488355328/\ae<=maxLen)<|.oo ((ab.1++ad),ac.2.1)) (.oo (ab.1,ac.2.1))) λac=>.nn (ac.1,ac.2,(qt.wrap (ab.2.2+1)))) (.oo ab.1)) (aa.1,aa.2,0) [] λab=>.nn (ab,(qt.wrap (aa.2+1)))) (.oo aa.1)) (nl,0) [] λaa=>.jn aa
def tzp:=
 mkp1 func118 tzq
def Tzz (j:az2)(aa:Ab):T Bb:=
 .loop (λs (ab:(Bb×Int))=>pk s [2,5,9,10] [0] [(11,pz ab.2)] [(128,Dzt (jB 9) dzr ab.1)]) (.exit 0) (λs (ab:Bb)=>pk s [5] [] [] [(128,Dzt (jB 9) dzr ab)]) (λab=>.jC (ab.2<(aa.length:Int)) (.cut 0 (λs (ac:Bb)=>pk s [2,5,9,10,11] [0] [] [(128,Dzt (jB 9) dzr ac)]) (.gh ab.2 aa.length<|.br ((((aa.getD (X3 ab.2) qu).XV.Xf.length:Nat):Int)==(j.Xd.length:Int))
 .stop (.oo ab.1)) λac=>.nn (ac,(qt.wrap (ab.2+1)))) (.oo ab.1)) ((nl:List (fzo×Bool)),0) [] λab=>.jn ab
def Tzy:=
 mkv2 func119 Tzz (λ_=>.map 0) (λr=>[(0,Dzt (jB 9) dzr r)])
def Az2 (j:C3)(aa:Int):T Int:=
 .loop (ik 8 [1,7] []) (.exit 0) (jk [] []) (λab=>.jC (ab<6) (.gh ab 6<|.br ((([j.1,j.2.1,j.2.2.1,j.2.2.2.1,j.2.2.2.2.1,j.2.2.2.2.2]:List Int).getD ab.toNat 0)==aa) (.ff ab) (.nn (qt.wrap (ab+1)))) (.oo .u))
 0 [] λ_=>.jn (-1)
def fz0:=
 mkp2 func146 Az2
def tzo (j:A9)(aa:C3):T A9:=let ab:=(j.length:Int);.loop (λs (ac:Aa)=>pk s [0,3,5,10,11] [0] [(12,pz ac.2)] [(128,vO ac.1 62)]) (.exit 0) (λs (ac:A9)=>pk s [0,3,5] [0] [] [(128,vO ac 62)]) (λac=>let ad:=j.getD (X3 ac.2) qu;let ae:=([(⟨1,ad.Xt,ad.Place⟩:aza)]:A9);let af:=ac.1.length+ae.length;.jC (ac.2<ab) (.cut 0 (λs (ag:A9)=>pk s [0,3,10,11,12] [0] [(5,.vec 512)] [(512,vO ag 62)]) (.gh ac.2 j.length<|.cub 0 28 [0,3,5,7,10,11,12] [0,128,640] (.call (fz0 (aa.1,aa.2.1,aa.2.2.1,aa.2.2.2.1,aa.2.2.2.2.1,aa.2.2.2.2.2) (qt.wrap ((-1)- (ad.Xt)))) [] λag=>.jC (ag<0) (.cc (fz0 (aa.1,aa.2.1,aa.2.2.1,aa.2.2.2.1,aa.2.2.2.2.1,aa.2.2.2.2.2) (ad.Place)) λah=>.oo (qv (ah>=0))) (.oo false)) λag=>.br ag (.conv 7002 (kL ae 62)<|.conv 7003 (kA ac.1 ae 62)<|.grd (af * 24<=140737488355328/\af<=maxLen)<|.oo (ac.1++ae)) (.oo ac.1)) λag=>.nn (ag,(qt.wrap (ac.2+1)))) (.oo ac.1)) (nl,0) [] λac=>.loop (λs (ad:Aa)=>pk s [3,5,35,36] [0] [(37,pz ad.2)] [(128,vO ad.1 62)]) (.exit 2) (λs (ad:A9)=>pk s [5] [] [] [(128,vO ad 62)]) (λad=>let ae:=j.getD (X3 ad.2) qu;let af:=([(⟨2,ae.Xt,ae.Place⟩:aza)]:A9);let ag:=ad.1.length+af.length;.jC (ad.2<ab) (.cut 0 (λs (ah:A9)=>pk s [3,35,36,37] [0] [(5,.vec 768)] [(768,vO ah 62)]) (.gh ad.2 j.length<|.cub 0 53 [3,5,9,35,36,37] [0,128,896] (.call (fz0 (aa.1,aa.2.1,aa.2.2.1,aa.2.2.2.1,aa.2.2.2.2.1,aa.2.2.2.2.2) (qt.wrap ((-1)- (ae.Xt)))) [] λah=>.jC (ah>=0) (.cc (fz0 (aa.1,aa.2.1,aa.2.2.1,aa.2.2.2.1,aa.2.2.2.2.1,aa.2.2.2.2.2) (ae.Place)) λai=>.oo (qv (ai<0))) (.oo false)) λah=>.br ah (.conv 14002 (kL af 62)<|.conv 14003 (kA ad.1 af 62)<|.grd (ag * 24<=140737488355328/\ag<=maxLen)<|.oo (ad.1++af)) (.oo ad.1)) λah=>.nn (ah,(qt.wrap (ad.2+1)))) (.oo ad.1)) (ac,0) [] λad=>.jn ad
def tzn:=
 mkp2 func120 tzo
def Fzn (j:C3)(aa:aza):T C3:=let ab:=qt.wrap ((-1)-aa.Xt);.cut 2 (λs (ac:B2)=>pk s [2,4] [0,128] [(5,pz ac.1),(6,pz ac.2)] []) (.br (aa.Xo==2) (.oo (ab,aa.Place)) (.oo (aa.Place,ab))) λac=>.cut 0 (λs (ad:C3)=>pk s [2,4] [128] [] [(0,.box [pz ad.1,pz ad.2.1,pz ad.2.2.1,pz ad.2.2.2.1,pz ad.2.2.2.2.1,pz ad.2.2.2.2.2])]) (.cc (fz0 j ac.1) λad=>.cas 4002 ad 0 (.ix 0 6 rfl<|.oo (ac.2,j.2.1,j.2.2.1,j.2.2.2.1,j.2.2.2.2.1,j.2.2.2.2.2)) (.cas 4002 ad 1 (.ix 1 6 rfl<|.oo (j.1,ac.2,j.2.2.1,j.2.2.2.1,j.2.2.2.2.1,j.2.2.2.2.2)) (.cas 4002 ad 2 (.ix 2 6 rfl<|.oo (j.1,j.2.1,ac.2,j.2.2.2.1,j.2.2.2.2.1,j.2.2.2.2.2)) (.cas 4002 ad 3 (.ix 3 6 rfl<|.oo (j.1,j.2.1,j.2.2.1,ac.2,j.2.2.2.2.1,j.2.2.2.2.2)) (.cas 4002 ad 4 (.ix 4 6 rfl<|.oo (j.1,j.2.1,j.2.2.1,j.2.2.2.1,ac.2,j.2.2.2.2.2)) (.cas 4002 ad 5 (.ix 5 6 rfl<|.oo (j.1,j.2.1,j.2.2.1,j.2.2.2.1,j.2.2.2.2.1,ac.2)) (.stop))))))) λad=>.jn (ad.1,ad.2.1,ad.2.2.1,ad.2.2.2.1,ad.2.2.2.2.1,ad.2.2.2.2.2)
def vzb:=
 mkp2 func88 Fzn
def az9r (j:C6)(aa:C3)(ab:Int):T A9:=
 .conv 1001 (Dz3 3 Wz7 62 ab.toNat (⟨0,0,0⟩:aza))<|.grd (0<=ab/\ab<=ab/\ab<=9223372036854775807/\ab * 24<=140737488355328)<|.loop (λs (ac:(Int×Int×Int×Int×Int×Int×A9×Int))=>pk s [0,4,7] [0] [(8,pz ac.2.2.2.2.2.2.2)] [(1,.box [pz ac.1,pz ac.2.1,pz ac.2.2.1,pz ac.2.2.2.1,pz ac.2.2.2.2.1,pz ac.2.2.2.2.2.1]),(193,vO ac.2.2.2.2.2.2.1 62)]) (.exit 0) (λs (ac:A9)=>pk s [7] [0] [] [(193,vO ac 62)]) (λac=>let ad:=ac.2.2.2.2.2.2.2;let ae:=azm (ac.1,ac.2.1,ac.2.2.1,ac.2.2.2.1,ac.2.2.2.2.1,ac.2.2.2.2.2.1);let af:=jzw azm j ae;let ag:=mdom azm j ae;.jC (ac.2.2.2.2.2.2.2>=0) (.ok (ag=false->PSub (.agg (jB 9)) (bzs af)) (Wzn ju)<|.gh ac.2.2.2.2.2.2.2 ac.2.2.2.2.2.2.1.length<|.conv 5007 (kS ac.2.2.2.2.2.2.1 62 (ad.toNat) (af.by_))<|.gi ad ac.2.2.2.2.2.2.1.length<|.ok (ag=false->PSub (.agg (jB 9)) (bzs af)) (Wzn ju)<|.nn (af.before.1,af.before.2.1,af.before.2.2.1,af.before.2.2.2.1,af.before.2.2.2.2.1,af.before.2.2.2.2.2,(ac.2.2.2.2.2.2.1.set (ad.toNat) (af.by_)),(qt.wrap (ac.2.2.2.2.2.2.2-1)))) (.oo ac.2.2.2.2.2.2.1)) (aa.1,aa.2.1,aa.2.2.1,aa.2.2.2.1,aa.2.2.2.2.1,aa.2.2.2.2.2,(qs ab.toNat ((⟨0,0,0⟩:aza):aza)),(qt.wrap (ab-1))) [] λac=>.jn ac
def az9q (j)(aa)(ab):=
 mkD func121 (az9r j aa ab) 1 [.map 0,q aa,pz ab] [(0,mapG (jB 6) azm bzs j)] (λr=>q r) (λ_=>[(0,mapG (jB 6) azm bzs j)])
def az3n (j:az2)(aa:azk)(ab:A4)(ac:Int)(ad:Ab):T (A9×Bool):=
 .cub 2 45 [2,3,4,5,6] [0,64] (.cc (ez9 j aa) λae=>.jD (!ae) (.jD ((ab.length:Int) !=(j.Xd.length:Int)) (.jF (ac<0) (.oo (qv (ac>16)))))) λae=>.br ae (.jn (nl,false)) (.cc (iz8 aa) λaf=>let ag:=([af]:C4);
 .cc (qzn (af.1,af.2.1,af.2.2.1,af.2.2.2.1,af.2.2.2.2.1,af.2.2.2.2.2) ab) λah=>.br ah (.jn (nl,true)) (.cc (tzp (⟨j.Xl,j.Xd,j.Xh,j.Xj,j.Xi,j.Xq⟩:az2)) λai=>.cc (Tzy j ad) λaj=>.conv 8000 (azjb (jB 6) azm bzs (.agg (jB 9)))<|.conv 8003 (az6o (jB 6) azm bzs (nl:List C5) af (⟨(0,0,0,0,0,0),(⟨0,0,0⟩:aza)⟩:bzt) (.agg (jB 9)) ju)<|.conv 9001 (kL ag 183)<|.loop (λs (ak:C7)=>pk s [2,3,13,14,15,16] [1088] [(17,pz ak.2.2)] [(1216,mapG (jB 6) azm bzs ak.1),(1664,vO ak.2.1 183)]) (.exit 0) (jk [] []) (λak=>let al:=(ak.2.1.length:Int);.cub 1 69 [2,3,13,14,15,16,17] [1088,1216,1664] (.jC (ak.2.2<=ac) (.oo (qv (al>0))) (.oo false)) λam=>.br am (.loop (λs (an:C7)=>pk s [2,3,13,14,15,17,18,72,73] [1088,1664] [(74,pz an.2.2)] [(1216,mapG (jB 6) azm bzs an.1),(1984,vO an.2.1 183)]) (.exit 2) (λs (an:(C6×C4))=>pk s [2,3,13,14,15,17,18] [1088] [] [(1216,mapG (jB 6) azm bzs an.1),(1984,vO an.2 183)]) (λan=>let ao:=ak.2.1.getD (X3 an.2.2) qu;.jC (an.2.2<al) (.gg an.2.2 ak.2.1.length<|.cc (tzn ai ao) λap=>.loop (λs (aq:C7)=>pk s [2,3,13,14,15,17,18,20,72,73,74,80,81] [1088,1664,2496] [(82,pz aq.2.2)] [(1216,mapG (jB 6) azm bzs aq.1),(1984,vO aq.2.1 183)]) (.exit 4) (λs (aq:(C6×C4))=>pk s [2,3,13,14,15,17,18,72,73,74] [1088,1664] [] [(1216,mapG (jB 6) azm bzs aq.1),(1984,vO aq.2 183)]) (λaq=>let ar:=ap.getD (X3 aq.2.2) qu;let au:=dzr (⟨ao,ar⟩:fzo);let av:=Kzb dzr aj au;let aw:=(⟨ao,ar⟩:bzt);.jC (aq.2.2<(ap.length:Int)) (.cut 0 (λs (ax:(C6×C4))=>pk s [2,3,13,14,15,17,18,20,72,73,74,80,81,82] [1088,1664,2496] [] [(1216,mapG (jB 6) azm bzs ax.1),(1984,vO ax.2 183)]) (.gh aq.2.2 ap.length<|.cc (vzb ao ar) λax=>let ay:=mdom azm aq.1 (azm ax);let az:=((ax,aw)::aq.1);let a0:=([ax]:C4);let a1:=aq.2.1.length+a0.length;
 .ok (ay=false->PSub (.agg (jB 9)) (bzs (jzw azm aq.1 (azm ax)))) (Wzn ju)<|.cub 0 102 [2,3,13,14,15,17,18,20,22,23,72,73,74,80,81,82] [1088,1216,1664,1984,2496,3200,3520] (.jD ay (.ok ((mdom dzr aj au)=false->PSub (.bool false) (PVal.bool av)) az7b<|.oo av)) λa2=>.br a2 (.oo (aq.1,aq.2.1)) (.conv 23005 (az6o (jB 6) azm bzs aq.1 ax aw (.agg [jA (ao.1),jA (ao.2.1),jA (ao.2.2.1),jA (ao.2.2.2.1),jA (ao.2.2.2.2.1),jA (ao.2.2.2.2.2),jA (ar.Xo),jA (ar.Xt),jA (ar.Place)]) ju)<|.cc (qzn ax ab) λa3=>.br a3 (.call (az9q az ax ak.2.2) [(0,1216)] λa4=>.ff (.fin (.fin (.fin (a4,true))))) (.conv 26002 (kL a0 183)<|.conv 26003 (kA aq.2.1 a0 183)<|.grd (a1 * 48<=140737488355328/\a1<=maxLen)<|.oo (az,(aq.2.1++a0))))) λax=>.nn (ax.1,ax.2,(qt.wrap (aq.2.2+1)))) (.oo (aq.1,aq.2.1))) (an.1,an.2.1,0) [] λaq=>.nn (aq.1,aq.2,(qt.wrap (an.2.2+1)))) (.oo (an.1,an.2.1))) (ak.1,nl,0) [] λan=>.nn (an.1,an.2,(qt.wrap (ak.2.2+1)))) (.oo .u)) (((af,(⟨(0,0,0,0,0,0),(⟨0,0,0⟩:aza)⟩:bzt))::(nl:List C5)),ag,1) [] λ_=>.stop))
def Fzm:=
 mkq5 func63 az3n (λr=>.tup [q r.1,q r.2])
def izl {α:Type}[Inhabited α][En α](t k:Nat)(a0:(List α)):T (List α):= (match a0 with
  |[]=>.unroll 1<|.grd (a0.length=0)<|.both (.jn nl) (.conv 3000 (kL ([]:(List α)) t)<|.conv 3002 (kA ([]:(List α)) a0 t)<|.grd ((([]:(List α)).length+a0.length) * k<=140737488355328/\(([]:(List α)).length+a0.length)<=maxLen)<|.jn (([]:(List α))++a0))
  |_::_=>.grd (0<a0.length)<|.conv 3000 (kL ([]:(List α)) t)<|.conv 3002 (kA ([]:(List α)) a0 t)<|.grd ((([]:(List α)).length+a0.length) * k<=140737488355328/\(([]:(List α)).length+a0.length)<=maxLen)<|.jn (([]:(List α))++a0))
def kze (j:A0):T A0:=
 izl 113 104 j
def fzm (a0:A0):CallS A0:=
 mkH [] hd func153 ju (kze a0) 0 [q a0] [] (λr=>q r) X6 (by cases a0<;>exact Ob.of_side ju)
def mz7 (j:A8):T A8:=
 izl 233 40 j
def gz6 (a0:A8):CallS A8:=
 mkH [] hd func154 ju (mz7 a0) 0 [q a0] [] (λr=>q r) X6 (by cases a0<;>exact Ob.of_side ju)
def ozo (j:Bi):T Bi:=
 izl 89 24 j
def gzt (a0:Bi):CallS Bi:=
 mkH [] hd func218 ju (ozo a0) 0 [q a0] [] (λ_=>.vec 0) (λr=>[(0,vO r 89)]) (by cases a0<;>exact Ob.of_side ju)
def vzp (j:A2)(aa:Bh):T A2:=let ab:=(j.length:Int);.conv 1002 (azjc 3 gzg 91 (0:Int).toNat (⟨0,0,nl⟩:azf) (.agg [jA 0,jA 0,.lst 0 0 λ_=>.unk]) ju)<|.grd (0<=(0:Int)/\(0:Int)<=ab/\ab<=9223372036854775807/\ab * 40<=140737488355328)<|.loop (λs (ac:Ac)=>pk s [3,5,14,15] [0] [(16,pz ac.2)] [(256,vO ac.1 91)]) (.exit 0) (λs (ac:A2)=>pk s [5] [] [] [(256,vO ac 91)]) (λac=>let ad:=j.getD (X3 ac.2) qu;.jC (ac.2<ab) (.gh ac.2 j.length<|.cc (gzt (ad.Xa)) λae=>.unroll 998<|.loop (λs (af:Bj)=>pk s [3,5,7,14,15,16,26] [0,256,832] [(27,pz af.2)] [(1088,vO af.1 89)]) (.exit 2) (λs (af:Bi)=>pk s [3,5,7,14,15,16] [0,256,832] [] [(1088,vO af 89)]) (λaf=>let ag:=af.2;let ah:=ag.toNat;let ai:=af.1.getD ah qu;.jC (af.2<(ae.length:Int)) (.unroll 4<|.ji<|.z7<|.gh af.2 af.1.length<|.z7<|.grd (ag.toNat<af.1.length)<|.name 12006 (ai.1) λaj=>let ak:=qt.wrap (aj+aa.1);let al:=af.1.set ah (ak,ai.2.1,ai.2.2);let am:=al.length;let an:=al.getD ah qu;
 .gh af.2 af.1.length<|.z7<|.conv 12011 (kS af.1 89 ah (ak,ai.2.1,ai.2.2))<|.gi ag af.1.length<|.lit 13000 1<|.ji<|.z8<|.gh af.2 am<|.z8<|.grd (ag.toNat<al.length)<|.name 12006 (an.2.1) λao=>let ap:=qt.wrap (ao+aa.2.1);let aq:=al.set ah (an.1,ap,an.2.2);let ar:=aq.length;let au:=aq.getD ah qu;
 .gh af.2 am<|.z8<|.conv 12011 (kS al 89 ah (an.1,ap,an.2.2))<|.gi ag am<|.lit 13000 2<|.ji<|.z9<|.gh af.2 ar<|.z9<|.grd (ag.toNat<aq.length)<|.name 12006 (au.2.2) λav=>let aw:=qt.wrap (av+aa.2.2);
 .gh af.2 ar<|.z9<|.conv 12011 (kS aq 89 ah (au.1,au.2.1,aw))<|.gi ag ar<|.lit 13000 3<|.jm<|.nn ((aq.set ah (au.1,au.2.1,aw)),(qt.wrap (af.2+1)))) (.oo af.1)) (ae,0) [] λaf=>let ag:=([(⟨ad.Xz,ad.XE,af⟩:azf)]:A2);let ah:=ac.1.length+ag.length;
 .conv 15002 (kL ag 91)<|.conv 15003 (kA ac.1 ag 91)<|.grd (ah * 40<=140737488355328/\ah<=maxLen)<|.nn ((ac.1++ag),(qt.wrap (ac.2+1)))) (.oo ac.1)) ((qs (0:Int).toNat ((⟨0,0,nl⟩:azf):azf)),0) [] λac=>.jn ac
def vzo:=
 mkv2 func155 vzp (λ_=>.vec 0) (λr=>[(0,vO r 91)])
def mz8 (j:Ad):T Ad:=
 izl 208 16 j
def gz7 (a0:Ad):CallS Ad:=
 mkH [] hd func156 ju (mz8 a0) 0 [q a0] [] (λr=>q r) X6 (by cases a0<;>exact Ob.of_side ju)
def zzf (j:az2)(aa:azk):T (az7×Int):=
 .cc (izi j) λab=>.br (ab !=0) (.jn ((⟨(⟨nl,nl⟩:azl),nl,nl⟩:az7),ab)) (.cc (ez9 j aa) λac=>.br (!ac) (.jn ((⟨(⟨nl,nl⟩:azl),nl,nl⟩:az7),3403)) (.cc (fzm j.Xl.Xg.Xc) λad=>.cc (gz6 j.Xl.Xg.Xv) λae=>.cc (vzo j.Xl.Xe (0,0,0)) λaf=>.cc (gz7 j.Xl.Xs) λag=>.loop (λs (ah:Ac)=>pk s [2,3,4,7,48,49] [0,64,128,129,130,131,132,2176] [(50,pz ah.2)] [(1792,vO ah.1 91)]) (.exit 0) (λs (ah:A2)=>pk s [4,7] [128,129,130,131,132,2176] [] [(1792,vO ah 91)]) (λah=>let ai:=(ah.2).toNat;let aj:=aa.Xf.getD ai qu;let ak:=qt.wrap ((-1)-aj);let al:=j.Xj.getD (ak.toNat) qu;let am:=j.Xh.getD (aj.toNat) qu;.jC (ah.2<(j.Xd.length:Int)) (.gh ah.2 j.Xd.length<|.cut 1 (λs (an:Bx)=>pk s [2,3,4,7,9,11,48,49,50] [0,64,128,129,130,131,132,1792,2176,2880] [(10,pz an.1)] [(3136,.box [pz an.2.1,pz an.2.2.1,pz an.2.2.2])]) (.gh ah.2 aa.Xf.length<|.jC (aj>=0) (.gh aj j.Xh.length<|.oo ((-1),am.1,am.2.1,am.2.2)) (.gh ak j.Xj.length<|.gh ak j.Xj.length<|.oo (al.Xz,al.XA.1,al.XA.2.1,al.XA.2.2))) λan=>.cc (vzo ((j.Xd.getD ai qu).Xe) (an.2.1,an.2.2.1,an.2.2.2)) λao=>.loop (λs (ap:Ac)=>pk s [2,3,4,7,10,48,49,50,85,86] [0,64,128,129,130,131,132,2176,3584] [(87,pz ap.2)] [(1792,vO ap.1 91)]) (.exit 2) (λs (ap:A2)=>pk s [2,3,4,7,48,49,50] [0,64,128,129,130,131,132,2176] [] [(1792,vO ap 91)]) (λap=>let aq:=ao.getD (X3 ap.2) qu;let ar:=([(⟨an.1,aq.XE,aq.Xa⟩:azf)]:A2);let au:=ap.1.length+ar.length;.jC (ap.2<(ao.length:Int)) (.gg ap.2 ao.length<|.conv 19003 (kL ar 91)<|.conv 19004 (kA ap.1 ar 91)<|.grd (au * 40<=140737488355328/\au<=maxLen)<|.nn ((ap.1++ar),(qt.wrap (ap.2+1)))) (.oo ap.1)) (ah.1,0) [] λap=>.nn (ap,(qt.wrap (ah.2+1)))) (.oo ah.1)) (af,0) [] λah=>.jn ((⟨(⟨ad,ae⟩:azl),ah,ag⟩:az7),0)))
def qzj:=
 mkq2 func96 zzf (λr=>.tup [q r.1,pz r.2])
def xzj (j:az2)(aa:azk):T A9:=
 .cc (ez9 j aa) λab=>.br (!ab) (.jn nl) (.cc (tzp j) λac=>.cc (iz8 aa) λad=>.cc (tzn ac ad) λae=>.jn ae)
def Hzt:=
 mkp2 func87 xzj
def dzh (j:A9)(aa:aza):T Int:=
 .loop (ik 8 [0,3,7] [0]) (.exit 0) (jk [] []) (λab=>let ac:=j.getD (ab.toNat) qu;.jC (ab<(j.length:Int)) (.gh ab j.length<|.br ((aa.Xo==(ac.Xo))&&((aa.Xt==(ac.Xt))&&((aa.Place==(ac.Place))&&true))) (.ff ab) (.nn (qt.wrap (ab+1)))) (.oo .u))
 0 [] λ_=>.jn (-1)
def fz9:=
 mkp2 func145 dzh
def czz (j:A9)(aa:aza):T Bool:=
 .cc (fz9 j aa) λab=>.jn (qv (ab>=0))
def ezk:=
 mkp2 func86 czz
def Czo (j:A4):T A4:=
 izl 3 8 j
def mze (a0:A4):CallS A4:=
 mkH [] hd func90 ju (Czo a0) 0 [q a0] [] (λr=>q r) X6 (by cases a0<;>exact Ob.of_side ju)
def Fzl (j:az2)(aa:azk)(ab:aza):T (azk×Bool):=let ac:=(⟨aa.Xf⟩:azk);let ad:=(aa.Xf.length:Int);.cc (Hzt (⟨j.Xl,j.Xd,j.Xh,j.Xj,j.Xi,j.Xq⟩:az2) ac) λae=>.cc (ezk ae ab) λaf=>.br (!af) (.jn ((⟨nl⟩:azk),false)) (.cc (iz8 ac) λag=>.cc (vzb ag ab) λah=>let ai:=([ah.1,ah.2.1,ah.2.2.1,ah.2.2.2.1,ah.2.2.2.2.1,ah.2.2.2.2.2]:List Int);
 .conv 4003 (azpy azy ai ad)<|.grd (0<=ad/\ad<=(6:Int))<|.call (mze (ai.take (ad.toNat))) [] λaj=>.jn ((⟨aj⟩:azk),true))
def kzd:=
 mkq3 func42 Fzl (λr=>.tup [q r.1,q r.2])
def qz9 (j:az2)(aa:aza)(ab:Int):T Bool:=let ac:=j.Xi.getD (ab.toNat) qu;.jC (0<=ab) (.jC (ab<(j.Xi.length:Int)) (.gh ab j.Xi.length<|.br ((ac.Xt)==aa.Xt) (.gh ab j.Xi.length<|.jn ((ac.Place)==aa.Place)) (.jn false)) (.jn false)) (.jn false)
def jzq:=
 mkp3 func43 qz9
def pz1 (j:Int):T Bool:=
 .jC (j<(-2147483648)) (.jn true) (.jn (qv (j>2147483648)))
def Bzx:=
 mkp1 func213 pz1
def ezl (j:A4):T Int:=
 .loop (ik 8 [0,1,7] []) (.exit 0) (jk [] []) (λaa=>.jC (aa<(j.length:Int)) (.gh aa j.length<|.cc (Bzx (j.getD (aa.toNat) qu)) λab=>.br ab (.ff aa) (.nn (qt.wrap (aa+1)))) (.oo .u))
 0 [] λ_=>.jn (-1)
def gzu (j):=
 mkD func265 (ezl j) 0 [q j,.func 213 [] []] [] pz X6
def dzz (j:A4):T Bool:=
 .cc (gzu j) λaa=>.jn (qv (aa>=0))
def fzy (j):=
 mkD func212 (dzz j) 0 [q j,.func 213 [] []] [] (λr=>q r) X6
def vzi (j:A4):T Bool:=
 .cc (fzy j) λaa=>.jn (!aa)
def hzd:=
 mkp1 func149 vzi
def zzd (j:Int):T Int:=
 .jn (min (max j (-2147483648)) 2147483648)
def zzc:=
 mkp1 func266 zzd
def lz0 (j:Int)(aa:Int):T az0:=
 .cc (zzc j) λab=>.cc (zzc aa) λac=>.jn (⟨ab,ac⟩:az0)
def hzn:=
 mkp2 func214 lz0
def zzp (j:Int):T az0:=
 .cc (hzn j j) λaa=>.jn aa
def czo:=
 mkp1 func151 zzp
def dzl (j:A4):T Ae:=let aa:=(j.length:Int);.conv 1002 (Dz3 2 uza 95 aa.toNat (⟨0,0⟩:az0))<|.grd (0<=aa/\aa<=aa/\aa<=9223372036854775807/\aa * 16<=140737488355328)<|.loop (λs (ab:Af)=>pk s [1,5,11,12] [] [(13,pz ab.2)] [(192,vO ab.1 95)]) (.exit 0) (λs (ab:Ae)=>pk s [5] [] [] [(192,vO ab 95)]) (λab=>let ac:=(ab.2).toNat;.jC (ab.2<aa) (.gh ab.2 j.length<|.cc (czo (j.getD ac qu)) λad=>.gh ab.2 ab.1.length<|.conv 5006 (kS ab.1 95 ac ad)<|.gi (ab.2) ab.1.length<|.nn ((ab.1.set ac ad),(qt.wrap (ab.2+1)))) (.oo ab.1)) ((qs aa.toNat ((⟨0,0⟩:az0):az0)),0) [] λab=>.jn ab
def fzl (j):=
 mkD func150 (dzl j) 0 [q j,.func 151 [] []] [] (λr=>q r) X6
def Czx (j:A4):T Ae:=
 .cc (hzd j) λaa=>.br (!aa) (.jn nl) (.cc (fzl j) λab=>.jn ab)
def Czw:=
 mkp1 func93 Czx
def pz3 (j:az0):T Bool:=
 .jC ((-2147483648)<=j.Lo) (.jC (j.Lo<=j.Hi) (.jn (qv (j.Hi<=2147483648))) (.jn false)) (.jn false)
def bzw:=
 mkp1 func209 pz3
def izy (j:az0):T Bool:=
 .cc (bzw j) λaa=>.jn (!aa)
def qzc:=
 mkp1 func208 izy
def cz6 (j:Ae):T Int:=
 .loop (ik 8 [0,1,7] []) (.exit 0) (jk [] []) (λaa=>.jC (aa<(j.length:Int)) (.gh aa j.length<|.cc (qzc (j.getD (aa.toNat) qu)) λab=>.br ab (.ff aa) (.nn (qt.wrap (aa+1)))) (.oo .u))
 0 [] λ_=>.jn (-1)
def dzp (j):=
 mkD func261 (cz6 j) 0 [q j,.func 208 [] []] [] pz X6
def cz1 (j:Ae):T Bool:=
 .cc (dzp j) λaa=>.jn (qv (aa>=0))
def dze (j):=
 mkD func207 (cz1 j) 0 [q j,.func 208 [] []] [] (λr=>q r) X6
def lz4 (j:azl)(aa:Ae):T Bool:=
 .br ((aa.length:Int)==(j.Xc.length:Int)) (.cc (dze aa) λab=>.jn (!ab)) (.jn false)
def hzo:=
 mkp2 func147 lz4
def vzx (j:Bh):T Bm:=
 .unroll 4<|.ji<|.z7<|.cc (czo j.1) λaa=>.z7<|.lit 6000 1<|.ji<|.z8<|.cc (czo j.2.1) λab=>.z8<|.lit 6000 2<|.ji<|.z9<|.cc (czo j.2.2) λac=>.z9<|.lit 6000 3<|.jm<|.jn (aa,ab,ac)
def jz5:=
 mkp1 func95 vzx
def matrix_Identity_T:T Bp:=
 .unroll 4<|.ji<|.cc (czo 65536) λj=>.z7<|.z7<|.lit 6000 1<|.ji<|.cc (czo 65536) λaa=>.z8<|.z8<|.lit 6000 2<|.ji<|.cc (czo 65536) λab=>.z9<|.z9<|.lit 6000 3<|.jm<|.jn ((j,(⟨0,0⟩:az0),(⟨0,0⟩:az0)),((⟨0,0⟩:az0),aa,(⟨0,0⟩:az0)),((⟨0,0⟩:az0),(⟨0,0⟩:az0),ab))
def matrix_Identity_C:CallS Bp:=
 mkD func308 (matrix_Identity_T) 0 [] [] (λr=>q r) X6
def Ez2 (j:Bm):T bz7:=
 .cc (matrix_Identity_C) λaa=>.jn (⟨aa,j⟩:bz7)
def uzp:=
 mkp1 func262 Ez2
def gzi (j:Int):T Int:=
 .cut 3 (λs (aa:Bool)=>pk s [0,2,3] [] [(4,q aa)] [(0,.box [.any])]) (.br (j==1) (.oo (j==1)) (.br (j==2) (.oo (j==2)) (.oo (j==3)))) λaa=>.br aa (.jn (qt.wrap (j-1))) (.cub 0 12 [0,2] [0] (.br (j==4) (.oo (j==4)) (.br (j==5) (.oo (j==5)) (.oo (j==6)))) λab=>.br ab (.stop) (.stop))
def gzh:=
 mkq1 func263 gzi (λr=>.agg [.func 309 [pz r] []])
def gzk (j:Int):T Int:=
 .cut 3 (λs (aa:Bool)=>pk s [0,2,3] [] [(4,q aa)] [(0,.box [.any])]) (.br (j==1) (.oo (j==1)) (.br (j==2) (.oo (j==2)) (.oo (j==3)))) λaa=>.br aa (.stop) (.cub 0 12 [0,2] [0] (.br (j==4) (.oo (j==4)) (.br (j==5) (.oo (j==5)) (.oo (j==6)))) λab=>.br ab (.jn (qt.wrap (j-4))) (.stop))
def gzj:=
 mkq1 func263 gzk (λr=>.agg [.func 310 [pz r] []])
def gzl (j:Int):T Int:=
 .cut 3 (λs (aa:Bool)=>pk s [0,2,3] [] [(4,q aa)] [(0,.box [.any])]) (.br (j==1) (.oo (j==1)) (.br (j==2) (.oo (j==2)) (.oo (j==3)))) λaa=>.br aa (.stop) (.cub 0 12 [0,2] [0] (.br (j==4) (.oo (j==4)) (.br (j==5) (.oo (j==5)) (.oo (j==6)))) λab=>.br ab (.stop) (.jn 0))
def kz8:=
 mkq1 func263 gzl (λr=>.agg [.func 311 [pz r] []])
def pose_still_T:T Bm:=
 .cc (jz5 (0,0,0)) λj=>.jn j
def pose_still_C:CallS Bm:=
 mkD func426 (pose_still_T) 0 [] [] (λr=>q r) X6
def pose_Identity_T:T bz7:=
 .cc (pose_still_C) λj=>.cc (uzp j) λaa=>.jn aa
def pose_Identity_C:CallS bz7:=
 mkD func364 (pose_Identity_T) 0 [] [] (λr=>q r) X6
def Hzy (_a0:Int)(_a1:az0):T bz7:=
 .cc (pose_Identity_C) λj=>.jn j
def Qzz:=
 mkp2 func311 Hzy
end Go.Abs
