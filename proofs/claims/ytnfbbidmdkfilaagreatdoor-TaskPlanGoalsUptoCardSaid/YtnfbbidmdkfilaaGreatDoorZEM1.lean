import Derived.Test.YtnfbbidmdkfilaaGreatDoorZERngF
import Derived.Test.YtnfbbidmdkfilaaGreatDoorZELend
import Derived.Test.YtnfbbidmdkfilaaGreatDoorProg
open Decidable renaming decide->qv
open Go.IntKind renaming i64->qt
open Inhabited renaming default->qu
open List renaming replicate->qs
open Int renaming toNat->X3
noncomputable section
namespace Go.Abs
open Go.Proofs.Tryz
theorem jC{p:Prop}(h:p:=by as_aux_lemma=>kernel_rfl):p:=h
theorem jw{p:Prop}(h:p:=by kernel_rfl):p:=h
set_option maxHeartbeats 8000000
set_option maxRecDepth 20000
open Go.Proofs
noncomputable abbrev X4 (x:Bool):AVal:=.pure (.bool x)
noncomputable abbrev X5 {α:Type}[Inhabited α](n:Nat)(e:α->PVal)(l:List α):AVal:=.pure (encL n e l)
noncomputable abbrev X6 {α β:Type}:α->List β:=λ_=>[]
noncomputable abbrev X7 (i:Nat):AVal:=.ptr i 0
abbrev X8:U0->St:=λ_=>⟨[],[],[],0⟩
abbrev jD (x:Int):PVal:=.int .i64 x
abbrev jE (n:Nat):List PVal:=List.replicate n (jD 0)
noncomputable abbrev pz (x:Int):AVal:=.pure (jD x)
theorem hd:fzz prog az8t:=az6p jw
noncomputable abbrev mkD {R:Type}{f:FuncId}{fn:Func}(hf:prog.funcs[f]?=some fn)(t:T R)(k:Nat)(args:List AVal)(m:Mem)(res:R->AVal)(m1:R->Mem)(hb:(fn.body.isSome&& !(fn.name== "runtime.NumGoroutine"))=true:=by kernel_rfl)(h:(wzt prog [] az8t fn (fn.body.getD .skip) k k t args m res m1).side true=(wzt prog [] az8t fn (fn.body.getD .skip) k k t args m res m1).side false:=by kernel_rfl):CallS R:=mkC [] hd hf hb t k args m res m1 h
noncomputable abbrev T.z9 {R:Type}(k:T R):T R:=.ix 0 3 rfl k
noncomputable abbrev T.ja {R:Type}(k:T R):T R:=.ix 1 3 rfl k
noncomputable abbrev T.jb {R:Type}(k:T R):T R:=.ix 2 3 rfl k
noncomputable abbrev T.jc {R:Type}(k:T R):T R:=.ix 1 11 rfl k
noncomputable abbrev T.jd {R:Type}(k:T R):T R:=.ix 2 11 rfl k
noncomputable abbrev T.je {R:Type}(k:T R):T R:=.ix 3 11 rfl k
noncomputable abbrev T.jf {R:Type}(k:T R):T R:=.ix 4 11 rfl k
noncomputable abbrev T.jg {R:Type}(k:T R):T R:=.ix 5 11 rfl k
noncomputable abbrev T.jh {R:Type}(k:T R):T R:=.ix 6 11 rfl k
noncomputable abbrev T.ji {R:Type}(k:T R):T R:=.ix 7 11 rfl k
noncomputable abbrev T.jm {R:Type}(k:T R):T R:=.ix 8 11 rfl k
noncomputable abbrev T.jn {R:Type}(k:T R):T R:=.known true k
noncomputable abbrev T.jp {R:Type}(k:T R):T R:=.known false k
noncomputable abbrev T.jq {R:Type}(r:R):T R:=.ret r
noncomputable abbrev T.jF {R:Type}(p:Prop)[Decidable p](a b:T R):T R:=.br (decide p) a b
noncomputable abbrev T.jG {σ R:Type}(c:Bool)(x:T (Step3 σ Bool R)):T (Step3 σ Bool R):=.br c (.ret (.out true)) x
noncomputable abbrev T.jH {σ R:Type}(c:Bool)(x:T (Step3 σ Bool R)):T (Step3 σ Bool R):=.br c x (.ret (.out false))
noncomputable abbrev T.jI {σ R:Type}(p:Prop)[Decidable p](x:T (Step3 σ Bool R)):T (Step3 σ Bool R):=.br (decide p) (.ret (.out true)) x
noncomputable abbrev T.gg {R:Type}(i:Int)(n:Nat)(k:T R):T R:=.grd (0<=i/\i<(n:Int)) (.grd (i.toNat<n) k)
noncomputable abbrev T.gh {R:Type}(i:Int)(n:Nat)(k:T R):T R:=.grd (0<=i/\i<(n:Int)) k
noncomputable abbrev T.gi {R:Type}(i:Int)(n:Nat)(k:T R):T R:=.grd (i.toNat<n/\0<=i.toNat) k
noncomputable abbrev T.oo {σ τ R:Type}(y:τ):T (Step3 σ τ R):=.ret (.out y)
noncomputable abbrev T.nn {σ τ R:Type}(x:σ):T (Step3 σ τ R):=.ret (.next x)
noncomputable abbrev T.ff {σ τ R:Type}(r:R):T (Step3 σ τ R):=.ret (.fin r)
noncomputable abbrev T.cc {R α:Type}(c:CallS α)(k:α->T R):T R:=.call c [] k
section
abbrev bo (f:Func):=(f.body.isSome&& !(f.name== "runtime.NumGoroutine"))=true
abbrev pf {R:Type}(f:Func)(t:T R)(w:List AVal)(r:R->AVal)(m:R->Mem):=(wzt prog [] az8t f (f.body.getD .skip) 0 0 t w [] r m).side true=(wzt prog [] az8t f (f.body.getD .skip) 0 0 t w [] r m).side false
variable {a b c d e g h i R:Type} [En a] [En b] [En c] [En d] [En e] [En g] [En h] [En i] {n:FuncId} {f:Func} (l:prog.funcs[n]?=some f)
abbrev mkp1 [En R](t:a->T R)(y:bo f:=by show _=_;kernel_rfl)(z:∀x0,pf f (t x0) [q x0] q X6:=by intros;show _=_;kernel_rfl)(x0:a):CallS R:=mkC [] hd l y (t x0) 0 _ [] _ _ (z x0)
abbrev mkp2 [En R](t:a->b->T R)(y:bo f:=by show _=_;kernel_rfl)(z:∀x0 x1,pf f (t x0 x1) [q x0,q x1] q X6:=by intros;show _=_;kernel_rfl)(x0:a)(x1:b):CallS R:=mkC [] hd l y (t x0 x1) 0 _ [] _ _ (z x0 x1)
abbrev mkp3 [En R](t:a->b->c->T R)(y:bo f:=by show _=_;kernel_rfl)(z:∀x0 x1 x2,pf f (t x0 x1 x2) [q x0,q x1,q x2] q X6:=by intros;show _=_;kernel_rfl)(x0:a)(x1:b)(x2:c):CallS R:=mkC [] hd l y (t x0 x1 x2) 0 _ [] _ _ (z x0 x1 x2)
abbrev mkp4 [En R](t:a->b->c->d->T R)(y:bo f:=by show _=_;kernel_rfl)(z:∀x0 x1 x2 x3,pf f (t x0 x1 x2 x3) [q x0,q x1,q x2,q x3] q X6:=by intros;show _=_;kernel_rfl)(x0:a)(x1:b)(x2:c)(x3:d):CallS R:=mkC [] hd l y (t x0 x1 x2 x3) 0 _ [] _ _ (z x0 x1 x2 x3)
abbrev mkp5 [En R](t:a->b->c->d->e->T R)(y:bo f:=by show _=_;kernel_rfl)(z:∀x0 x1 x2 x3 x4,pf f (t x0 x1 x2 x3 x4) [q x0,q x1,q x2,q x3,q x4] q X6:=by intros;show _=_;kernel_rfl)(x0:a)(x1:b)(x2:c)(x3:d)(x4:e):CallS R:=mkC [] hd l y (t x0 x1 x2 x3 x4) 0 _ [] _ _ (z x0 x1 x2 x3 x4)
abbrev mkp6 [En R](t:a->b->c->d->e->g->T R)(y:bo f:=by show _=_;kernel_rfl)(z:∀x0 x1 x2 x3 x4 x5,pf f (t x0 x1 x2 x3 x4 x5) [q x0,q x1,q x2,q x3,q x4,q x5] q X6:=by intros;show _=_;kernel_rfl)(x0:a)(x1:b)(x2:c)(x3:d)(x4:e)(x5:g):CallS R:=mkC [] hd l y (t x0 x1 x2 x3 x4 x5) 0 _ [] _ _ (z x0 x1 x2 x3 x4 x5)
abbrev mkq1 (t:a->T R)(r:R->AVal)(y:bo f:=by show _=_;kernel_rfl)(z:∀x0,pf f (t x0) [q x0] r X6:=by intros;show _=_;kernel_rfl)(x0:a):CallS R:=mkC [] hd l y (t x0) 0 _ [] _ _ (z x0)
abbrev mkq2 (t:a->b->T R)(r:R->AVal)(y:bo f:=by show _=_;kernel_rfl)(z:∀x0 x1,pf f (t x0 x1) [q x0,q x1] r X6:=by intros;show _=_;kernel_rfl)(x0:a)(x1:b):CallS R:=mkC [] hd l y (t x0 x1) 0 _ [] _ _ (z x0 x1)
abbrev mkq3 (t:a->b->c->T R)(r:R->AVal)(y:bo f:=by show _=_;kernel_rfl)(z:∀x0 x1 x2,pf f (t x0 x1 x2) [q x0,q x1,q x2] r X6:=by intros;show _=_;kernel_rfl)(x0:a)(x1:b)(x2:c):CallS R:=mkC [] hd l y (t x0 x1 x2) 0 _ [] _ _ (z x0 x1 x2)
abbrev mkq4 (t:a->b->c->d->T R)(r:R->AVal)(y:bo f:=by show _=_;kernel_rfl)(z:∀x0 x1 x2 x3,pf f (t x0 x1 x2 x3) [q x0,q x1,q x2,q x3] r X6:=by intros;show _=_;kernel_rfl)(x0:a)(x1:b)(x2:c)(x3:d):CallS R:=mkC [] hd l y (t x0 x1 x2 x3) 0 _ [] _ _ (z x0 x1 x2 x3)
abbrev mkq5 (t:a->b->c->d->e->T R)(r:R->AVal)(y:bo f:=by show _=_;kernel_rfl)(z:∀x0 x1 x2 x3 x4,pf f (t x0 x1 x2 x3 x4) [q x0,q x1,q x2,q x3,q x4] r X6:=by intros;show _=_;kernel_rfl)(x0:a)(x1:b)(x2:c)(x3:d)(x4:e):CallS R:=mkC [] hd l y (t x0 x1 x2 x3 x4) 0 _ [] _ _ (z x0 x1 x2 x3 x4)
abbrev mkq6 (t:a->b->c->d->e->g->T R)(r:R->AVal)(y:bo f:=by show _=_;kernel_rfl)(z:∀x0 x1 x2 x3 x4 x5,pf f (t x0 x1 x2 x3 x4 x5) [q x0,q x1,q x2,q x3,q x4,q x5] r X6:=by intros;show _=_;kernel_rfl)(x0:a)(x1:b)(x2:c)(x3:d)(x4:e)(x5:g):CallS R:=mkC [] hd l y (t x0 x1 x2 x3 x4 x5) 0 _ [] _ _ (z x0 x1 x2 x3 x4 x5)
abbrev mkv1 (t:a->T R)(r:R->AVal)(m:R->Mem)(y:bo f:=by show _=_;kernel_rfl)(z:∀x0,pf f (t x0) [q x0] r m:=by intros;show _=_;kernel_rfl)(x0:a):CallS R:=mkC [] hd l y (t x0) 0 _ [] _ _ (z x0)
abbrev mkv2 (t:a->b->T R)(r:R->AVal)(m:R->Mem)(y:bo f:=by show _=_;kernel_rfl)(z:∀x0 x1,pf f (t x0 x1) [q x0,q x1] r m:=by intros;show _=_;kernel_rfl)(x0:a)(x1:b):CallS R:=mkC [] hd l y (t x0 x1) 0 _ [] _ _ (z x0 x1)
abbrev mkv3 (t:a->b->c->T R)(r:R->AVal)(m:R->Mem)(y:bo f:=by show _=_;kernel_rfl)(z:∀x0 x1 x2,pf f (t x0 x1 x2) [q x0,q x1,q x2] r m:=by intros;show _=_;kernel_rfl)(x0:a)(x1:b)(x2:c):CallS R:=mkC [] hd l y (t x0 x1 x2) 0 _ [] _ _ (z x0 x1 x2)
abbrev mkv5 (t:a->b->c->d->e->T R)(r:R->AVal)(m:R->Mem)(y:bo f:=by show _=_;kernel_rfl)(z:∀x0 x1 x2 x3 x4,pf f (t x0 x1 x2 x3 x4) [q x0,q x1,q x2,q x3,q x4] r m:=by intros;show _=_;kernel_rfl)(x0:a)(x1:b)(x2:c)(x3:d)(x4:e):CallS R:=mkC [] hd l y (t x0 x1 x2 x3 x4) 0 _ [] _ _ (z x0 x1 x2 x3 x4)
end
structure azu where
 XH:ByteArray
 Xo:Int
 XD:Int
 XE:(Int×Int×Int)
 Lo:Int
 Hi:Int
 XL:Int
 XU:Int
 XV:Int
 XR:Int
instance:Inhabited azu:=⟨⟨qu,qu,qu,qu,qu,qu,qu,qu,qu,qu⟩⟩
structure bzu where
 XB:Int
 XX:Int
 XP:(Int×Int×Int)
instance:Inhabited bzu:=⟨⟨qu,qu,qu⟩⟩
structure azj where
 Xc:(List azu)
 Xv:(List bzu)
instance:Inhabited azj:=⟨⟨qu,qu⟩⟩
structure azh where
 XB:Int
 XF:Int
 Xb:(List (Int×Int×Int))
instance:Inhabited azh:=⟨⟨qu,qu,qu⟩⟩
structure ezj where
 A:Int
 B:Int
instance:Inhabited ezj:=⟨⟨qu,qu⟩⟩
structure az7 where
 Xg:azj
 Xe:(List azh)
 Xr:(List ezj)
instance:Inhabited az7:=⟨⟨qu,qu,qu⟩⟩
structure bz2 where
 XH:ByteArray
 Xe:(List azh)
instance:Inhabited bz2:=⟨⟨qu,qu⟩⟩
structure ezi where
 XB:Int
 XE:(Int×Int×Int)
instance:Inhabited ezi:=⟨⟨qu,qu⟩⟩
structure czm where
 Xu:Int
 Place:Int
 At:(List Int)
instance:Inhabited czm:=⟨⟨qu,qu,qu⟩⟩
structure az2 where
 Xl:az7
 Xd:(List bz2)
 Xh:(List (Int×Int×Int))
 Xj:(List ezi)
 Xk:(List czm)
 Xp:Int
instance:Inhabited az2:=⟨⟨qu,qu,qu,qu,qu,qu⟩⟩
structure azm where
 Xf:(List Int)
instance:Inhabited azm:=⟨⟨qu⟩⟩
structure aza where
 Xo:Int
 Xu:Int
 Place:Int
instance:Inhabited aza:=⟨⟨qu,qu,qu⟩⟩
structure ez4 where
 Xi:Int
 Xs:Int
 Xq:(List Int)
instance:Inhabited ez4:=⟨⟨qu,qu,qu⟩⟩
structure azr where
 XA:(List (Int×Int×Int))
 XC:(List ez4)
instance:Inhabited azr:=⟨⟨qu,qu⟩⟩
structure bza where
 Xb:(List (List Int))
 Xa:(List azr)
instance:Inhabited bza:=⟨⟨qu,qu⟩⟩
structure aze where
 Xt:aza
 XM:Int
 Path:bza
instance:Inhabited aze:=⟨⟨qu,qu,qu⟩⟩
structure cz2 where
 XG:Int
 XJ:Int
 Xi:Int
 XN:Int
instance:Inhabited cz2:=⟨⟨qu,qu,qu,qu⟩⟩
structure azc where
 where_:(Int×Int×Int×Int×Int×Int)
 last:Int
 action:aza
instance:Inhabited azc:=⟨⟨qu,qu,qu⟩⟩
structure tz2 where
 XS:azm
 Xt:aza
instance:Inhabited tz2:=⟨⟨qu,qu⟩⟩
structure fzi where
 in_:(Int×Int×Int×Int×Int×Int)
 by_:aza
instance:Inhabited fzi:=⟨⟨qu,qu⟩⟩
structure bzs where
 before:(Int×Int×Int×Int×Int×Int)
 by_:aza
instance:Inhabited bzs:=⟨⟨qu,qu⟩⟩
structure az0 where
 Lo:Int
 Hi:Int
instance:Inhabited az0:=⟨⟨qu,qu⟩⟩
structure bz4 where
 R:((az0×az0×az0)×(az0×az0×az0)×(az0×az0×az0))
 T:(az0×az0×az0)
instance:Inhabited bz4:=⟨⟨qu,qu⟩⟩
structure czd where
 A:Int
 B:Int
instance:Inhabited czd:=⟨⟨qu,qu⟩⟩
structure czq where
 shapes:(List azh)
 pairs:(List czd)
 points:(List (List (az0×az0×az0)))
instance:Inhabited czq:=⟨⟨qu,qu,qu⟩⟩
structure bzd where
 XQ:Int
 Left:(List Int)
 XK:(List Int)
instance:Inhabited bzd:=⟨⟨qu,qu,qu⟩⟩
structure ezs where
 Xo:Int
 Xm:(List (Int×Int×Int))
 Xx:bzd
instance:Inhabited ezs:=⟨⟨qu,qu,qu⟩⟩
structure gz0 where
 a:(List (az0×az0×az0))
 b:(List (az0×az0×az0))
 ra:Int
 rb:Int
instance:Inhabited gz0:=⟨⟨qu,qu,qu,qu⟩⟩
structure fzk where
 points:(List (az0×az0×az0))
 radius:Int
instance:Inhabited fzk:=⟨⟨qu,qu⟩⟩
structure ezu where
 a:fzk
 b:fzk
instance:Inhabited ezu:=⟨⟨qu,qu⟩⟩
structure ezr where
 Xo:Int
 XO:(Int×Int×Int)
 Left:(List Int)
 XK:(List Int)
 Steps:Int
instance:Inhabited ezr:=⟨⟨qu,qu,qu,qu,qu⟩⟩
structure izp where
 points:(List (Int×Int×Int))
 weights:(List Int)
instance:Inhabited izp:=⟨⟨qu,qu⟩⟩
structure nz6 where
 list:izp
instance:Inhabited nz6:=⟨⟨qu⟩⟩
structure kz9 where
 list:izp
instance:Inhabited kz9:=⟨⟨qu⟩⟩
structure qzs where
 left:nz6
 right:kz9
 normal:(Int×Int×Int)
 rounds:Int
instance:Inhabited qzs:=⟨⟨qu,qu,qu,qu⟩⟩
structure izi where
 witness:bzd
instance:Inhabited izi:=⟨⟨qu⟩⟩
structure bzn where
 normals:(List (Int×Int×Int))
instance:Inhabited bzn:=⟨⟨qu⟩⟩
structure az6 where
 Xi:Int
 Xs:Int
 Xm:(List (Int×Int×Int))
instance:Inhabited az6:=⟨⟨qu,qu,qu⟩⟩
structure azo where
 Xo:Int
 Xz:(List az6)
 At:az6
 Xx:bzd
instance:Inhabited azo:=⟨⟨qu,qu,qu,qu⟩⟩
structure az1 where
 U:Int
 V:Int
 Xn:Int
 Xw:Int
 XI:azo
instance:Inhabited az1:=⟨⟨qu,qu,qu,qu,qu⟩⟩
structure azb where
 Xb:(List (List Int))
 Xa:(List az1)
instance:Inhabited azb:=⟨⟨qu,qu⟩⟩
structure bzb where
 XP:Int
 XT:Int
 XZ:Int
 XY:Int
instance:Inhabited bzb:=⟨⟨qu,qu,qu,qu⟩⟩
structure dzg where
 joints:(List azu)
 points:(List (List Int))
 tree:(List bzb)
 q:(List Int)
instance:Inhabited dzg:=⟨⟨qu,qu,qu,qu⟩⟩
structure czp where
 Xy:(List Int)
 Xn:Int
instance:Inhabited czp:=⟨⟨qu,qu⟩⟩
structure azi where
 to:Int
 cost:Int
instance:Inhabited azi:=⟨⟨qu,qu⟩⟩
structure azk where
 cost:Int
 points:Int
instance:Inhabited azk:=⟨⟨qu,qu⟩⟩
structure azp where
 rank:azk
 point:Int
instance:Inhabited azp:=⟨⟨qu,qu⟩⟩
structure xzy where
 scene:az7
 depth:Int
instance:Inhabited xzy:=⟨⟨qu,qu⟩⟩
structure bzp where
 scene:az7
 p:(List Int)
 q:(List Int)
 pieces:(List az6)
instance:Inhabited bzp:=⟨⟨qu,qu,qu,qu⟩⟩
structure xzx where
 list:(List Int)
 next:Int
instance:Inhabited xzx:=⟨⟨qu,qu⟩⟩
structure azy where
 mode:azm
 before:Int
 action:aza
 depth:Int
instance:Inhabited azy:=⟨⟨qu,qu,qu,qu⟩⟩
structure azx where
 points:(List (az0×az0×az0))
 radius:Int
instance:Inhabited azx:=⟨⟨qu,qu⟩⟩
structure azf where
 Xn:Int
 Xa:Int
instance:Inhabited azf:=⟨⟨qu,qu⟩⟩
structure azt where
 depth:Int
 index:Int
 hints:(List (Int×Int×Int))
instance:Inhabited azt:=⟨⟨qu,qu,qu⟩⟩
abbrev A0:=List azu
abbrev A1:=List ezi
abbrev A2:=List azh
abbrev A3:=List bz2
abbrev A4:=List Int
abbrev A5:=List A4
abbrev A6:=A4×A4
abbrev A7:=List czm
abbrev A8:=List bzu
abbrev A9:=List aza
abbrev Aa:=A9×Int
abbrev Ab:=List tz2
abbrev Ac:=A2×Int
abbrev Ad:=List ezj
abbrev Ae:=List az0
abbrev Af:=Ae×Int
abbrev Ag:=List bz4
abbrev Ah:=A4×Int
abbrev Ai:=List czd
abbrev Aj:=Ai×Int
abbrev Ak:=List bzb
abbrev Al:=List az1
abbrev Am:=Al×Int
abbrev An:=List az6
abbrev Ao:=An×Int
abbrev Ap:=A5×Int
abbrev Aq:=List azi
abbrev Ar:=List Aq
abbrev As:=List azp
abbrev Au:=List azk
abbrev Av:=List ez4
abbrev Aw:=List azr
abbrev Ax:=List aze
abbrev Ay:=List azy
abbrev Az:=List azx
abbrev B0:=List azf
abbrev B1:=List azt
abbrev B2:=Int×Int
abbrev B3:=List B2
abbrev B4:=Nat×Nat
abbrev B6:=List (B2×Bool)
abbrev B8:=List (azc×aze)
abbrev B9:=B0×Bool
abbrev Bb:=List (fzi×Bool)
abbrev Bc:=Int×Bool
abbrev Bd:=Int×A4×Ak
abbrev Be:=Int×A4×A4
abbrev Bf:=A4×A4×Int
abbrev Bg:=A5×Al×Bool
abbrev Bh:=Int×Int×Int
abbrev Bi:=List Bh
abbrev Bj:=Bi×Int
abbrev Bk:=Bh×Int
abbrev Bl:=Bh×Bool
abbrev Bm:=az0×az0×az0
abbrev Bn:=List Bm
abbrev Bo:=List Bn
abbrev Bp:=Bm×Bm×Bm
abbrev Bq:=Bool×Int×Int
abbrev Br:=Int×Int×Bool
abbrev Bs:=bza×Int×Bool
abbrev Bt:=Bool×Bool×Bool
abbrev Bu:=A4×Int×A7×Int
abbrev Bv:=A4×Int×A4×Int
abbrev Bw:=Int×A4×Int×Int
abbrev Bx:=Int×Int×Int×Int
abbrev By:=Bool×ByteArray×A2
abbrev Bz:=azb×czp×Int×Int
abbrev C0:=Bool×Bool×Bool×Bool
abbrev C1:=Int×Int×Int×Int×Int
abbrev C2:=A4×B8×A4×Ax×Int×Int
abbrev C3:=Int×Int×Int×Int×Int×Int
abbrev C4:=List C3
abbrev C5:=C3×bzs
abbrev C6:=List C5
abbrev C7:=C6×C4×Int
abbrev C8:=Bool×Bh×Bn×Bn×Int×Int×Bi
abbrev C9:=B8×Int×Int×Int×Int×A5×Aw
abbrev Ca:=Int×Int×Int×Int×Int×Int×Int×Int×Int×Int
abbrev Cb:=Ca×Bool
abbrev Cc:=Int×Int×Int×Int×Int×Int×Int×Int×Int×Int×Int
abbrev Cd:=Bool×An×Int×An×Int×Int×Bi×Int×A4×A4×A4×A4×A0×A8×A2×Ad×Int
abbrev Ce:=Int×Int×Int×Int×Int×Int×Int×Int×Int×Int×Int×Int×Int×Int×Int×Int×Int×Int×Int×Int×Int×Int×Int×Int
def rz3 (v:azu):PVal:=.agg [.str v.XH,jD v.Xo,jD v.XD,jD v.XE.1,jD v.XE.2.1,jD v.XE.2.2,jD v.Lo,jD v.Hi,jD v.XL,jD v.XU,jD v.XV,jD v.XR]
def Ezx (v:bzu):PVal:=.agg [jD v.XB,jD v.XX,jD v.XP.1,jD v.XP.2.1,jD v.XP.2.2]
def az8y (v:azj):PVal:=.agg [encL 12 rz3 v.Xc,encL 5 Ezx v.Xv]
def azv (v:Bh):PVal:=.agg [jD v.1,jD v.2.1,jD v.2.2]
def nzn (v:azh):PVal:=.agg [jD v.XB,jD v.XF,encL 3 azv v.Xb]
def Izo (v:ezj):PVal:=.agg [jD v.A,jD v.B]
def az90 (v:az7):PVal:=.agg [encL 12 rz3 v.Xg.Xc,encL 5 Ezx v.Xg.Xv,encL 3 nzn v.Xe,encL 2 Izo v.Xr]
def Lzf (v:bz2):PVal:=.agg [.str v.XH,encL 3 nzn v.Xe]
def az4r (v:ezi):PVal:=.agg [jD v.XB,jD v.XE.1,jD v.XE.2.1,jD v.XE.2.2]
def az4q (v:czm):PVal:=.agg [jD v.Xu,jD v.Place,encL 1 bz5 v.At]
def Wz3 (v:az2):PVal:=.agg [encL 12 rz3 v.Xl.Xg.Xc,encL 5 Ezx v.Xl.Xg.Xv,encL 3 nzn v.Xl.Xe,encL 2 Izo v.Xl.Xr,encL 2 Lzf v.Xd,encL 3 azv v.Xh,encL 4 az4r v.Xj,encL 3 az4q v.Xk,jD v.Xp]
def azdf (v:azm):PVal:=.agg [encL 1 bz5 v.Xf]
def Uzt (v:aza):PVal:=.agg [jD v.Xo,jD v.Xu,jD v.Place]
def az91 (v:ez4):PVal:=.agg [jD v.Xi,jD v.Xs,encL 1 bz5 v.Xq]
def xz3 (v:azr):PVal:=.agg [encL 3 azv v.XA,encL 3 az91 v.XC]
def azdg (v:bza):PVal:=.agg [encL 1 (encL 1 bz5) v.Xb,encL 2 xz3 v.Xa]
def bzo (v:aze):PVal:=.agg [jD v.Xt.Xo,jD v.Xt.Xu,jD v.Xt.Place,jD v.XM,encL 1 (encL 1 bz5) v.Path.Xb,encL 2 xz3 v.Path.Xa]
def az6q (v:cz2):PVal:=.agg [jD v.XG,jD v.XJ,jD v.Xi,jD v.XN]
def Bzh (v:azc):PVal:=.agg [jD v.where_.1,jD v.where_.2.1,jD v.where_.2.2.1,jD v.where_.2.2.2.1,jD v.where_.2.2.2.2.1,jD v.where_.2.2.2.2.2,jD v.last,jD v.action.Xo,jD v.action.Xu,jD v.action.Place]
def az4 (v:azc):List PVal:=[jD v.where_.1,jD v.where_.2.1,jD v.where_.2.2.1,jD v.where_.2.2.2.1,jD v.where_.2.2.2.2.1,jD v.where_.2.2.2.2.2,jD v.last,jD v.action.Xo,jD v.action.Xu,jD v.action.Place]
def az8x (v:tz2):PVal:=.agg [encL 1 bz5 v.XS.Xf,jD v.Xt.Xo,jD v.Xt.Xu,jD v.Xt.Place]
def Zzc (v:fzi):PVal:=.agg [jD v.in_.1,jD v.in_.2.1,jD v.in_.2.2.1,jD v.in_.2.2.2.1,jD v.in_.2.2.2.2.1,jD v.in_.2.2.2.2.2,jD v.by_.Xo,jD v.by_.Xu,jD v.by_.Place]
def dzl (v:fzi):List PVal:=[jD v.in_.1,jD v.in_.2.1,jD v.in_.2.2.1,jD v.in_.2.2.2.1,jD v.in_.2.2.2.2.1,jD v.in_.2.2.2.2.2,jD v.by_.Xo,jD v.by_.Xu,jD v.by_.Place]
def bzr (v:bzs):PVal:=.agg [jD v.before.1,jD v.before.2.1,jD v.before.2.2.1,jD v.before.2.2.2.1,jD v.before.2.2.2.2.1,jD v.before.2.2.2.2.2,jD v.by_.Xo,jD v.by_.Xu,jD v.by_.Place]
def Wz4 (v:C3):PVal:=.agg [jD v.1,jD v.2.1,jD v.2.2.1,jD v.2.2.2.1,jD v.2.2.2.2.1,jD v.2.2.2.2.2]
def azl (v:C3):List PVal:=[jD v.1,jD v.2.1,jD v.2.2.1,jD v.2.2.2.1,jD v.2.2.2.2.1,jD v.2.2.2.2.2]
def tzg (v:az0):PVal:=.agg [jD v.Lo,jD v.Hi]
def az4t (v:bz4):PVal:=.agg [jD v.R.1.1.Lo,jD v.R.1.1.Hi,jD v.R.1.2.1.Lo,jD v.R.1.2.1.Hi,jD v.R.1.2.2.Lo,jD v.R.1.2.2.Hi,jD v.R.2.1.1.Lo,jD v.R.2.1.1.Hi,jD v.R.2.1.2.1.Lo,jD v.R.2.1.2.1.Hi,jD v.R.2.1.2.2.Lo,jD v.R.2.1.2.2.Hi,jD v.R.2.2.1.Lo,jD v.R.2.2.1.Hi,jD v.R.2.2.2.1.Lo,jD v.R.2.2.2.1.Hi,jD v.R.2.2.2.2.Lo,jD v.R.2.2.2.2.Hi,jD v.T.1.Lo,jD v.T.1.Hi,jD v.T.2.1.Lo,jD v.T.2.1.Hi,jD v.T.2.2.Lo,jD v.T.2.2.Hi]
def Qzb (v:Bx):PVal:=.agg [jD v.1,jD v.2.1,jD v.2.2.1,jD v.2.2.2]
def Fzi (v:Bp):PVal:=.agg [jD v.1.1.Lo,jD v.1.1.Hi,jD v.1.2.1.Lo,jD v.1.2.1.Hi,jD v.1.2.2.Lo,jD v.1.2.2.Hi,jD v.2.1.1.Lo,jD v.2.1.1.Hi,jD v.2.1.2.1.Lo,jD v.2.1.2.1.Hi,jD v.2.1.2.2.Lo,jD v.2.1.2.2.Hi,jD v.2.2.1.Lo,jD v.2.2.1.Hi,jD v.2.2.2.1.Lo,jD v.2.2.2.1.Hi,jD v.2.2.2.2.Lo,jD v.2.2.2.2.Hi]
def cz3 (v:Bm):PVal:=.agg [jD v.1.Lo,jD v.1.Hi,jD v.2.1.Lo,jD v.2.1.Hi,jD v.2.2.Lo,jD v.2.2.Hi]
def az4s (v:czd):PVal:=.agg [jD v.A,jD v.B]
def Lzg (v:czq):PVal:=.agg [encL 3 nzn v.shapes,encL 2 az4s v.pairs,encL 1 (encL 6 cz3) v.points]
def az2m (v:bzd):PVal:=.agg [jD v.XQ,encL 1 bz5 v.Left,encL 1 bz5 v.XK]
def az2l (v:ezs):PVal:=.agg [jD v.Xo,encL 3 azv v.Xm,jD v.Xx.XQ,encL 1 bz5 v.Xx.Left,encL 1 bz5 v.Xx.XK]
def Hzd (v:gz0):PVal:=.agg [encL 6 cz3 v.a,encL 6 cz3 v.b,jD v.ra,jD v.rb]
def Tzi (v:fzk):PVal:=.agg [encL 6 cz3 v.points,jD v.radius]
def Qze (v:ezu):PVal:=.agg [encL 6 cz3 v.a.points,jD v.a.radius,encL 6 cz3 v.b.points,jD v.b.radius]
def az2j (v:ezr):PVal:=.agg [jD v.Xo,jD v.XO.1,jD v.XO.2.1,jD v.XO.2.2,encL 1 bz5 v.Left,encL 1 bz5 v.XK,jD v.Steps]
def Oz5 (v:izp):PVal:=.agg [encL 3 azv v.points,encL 1 bz5 v.weights]
def Oz4 (v:nz6):PVal:=.agg [encL 3 azv v.list.points,encL 1 bz5 v.list.weights]
def Lzh (v:kz9):PVal:=.agg [encL 3 azv v.list.points,encL 1 bz5 v.list.weights]
def Lzi (v:qzs):PVal:=.agg [encL 3 azv v.left.list.points,encL 1 bz5 v.left.list.weights,encL 3 azv v.right.list.points,encL 1 bz5 v.right.list.weights,jD v.normal.1,jD v.normal.2.1,jD v.normal.2.2,jD v.rounds]
def Bzg (v:izi):PVal:=.agg [jD v.witness.XQ,encL 1 bz5 v.witness.Left,encL 1 bz5 v.witness.XK]
def yz9 (v:bzn):PVal:=.agg [encL 3 azv v.normals]
def xz4 (v:az6):PVal:=.agg [jD v.Xi,jD v.Xs,encL 3 azv v.Xm]
def Tzh (v:azo):PVal:=.agg [jD v.Xo,encL 3 xz4 v.Xz,jD v.At.Xi,jD v.At.Xs,encL 3 azv v.At.Xm,jD v.Xx.XQ,encL 1 bz5 v.Xx.Left,encL 1 bz5 v.Xx.XK]
def gz4 (v:az1):PVal:=.agg [jD v.U,jD v.V,jD v.Xn,jD v.Xw,jD v.XI.Xo,encL 3 xz4 v.XI.Xz,jD v.XI.At.Xi,jD v.XI.At.Xs,encL 3 azv v.XI.At.Xm,jD v.XI.Xx.XQ,encL 1 bz5 v.XI.Xx.Left,encL 1 bz5 v.XI.Xx.XK]
def az2k (v:azb):PVal:=.agg [encL 1 (encL 1 bz5) v.Xb,encL 12 gz4 v.Xa]
def Oz3 (v:Ca):PVal:=.agg [jD v.1,jD v.2.1,jD v.2.2.1,jD v.2.2.2.1,jD v.2.2.2.2.1,jD v.2.2.2.2.2.1,jD v.2.2.2.2.2.2.1,jD v.2.2.2.2.2.2.2.1,jD v.2.2.2.2.2.2.2.2.1,jD v.2.2.2.2.2.2.2.2.2]
def czh (v:Ca):List PVal:=[jD v.1,jD v.2.1,jD v.2.2.1,jD v.2.2.2.1,jD v.2.2.2.2.1,jD v.2.2.2.2.2.1,jD v.2.2.2.2.2.2.1,jD v.2.2.2.2.2.2.2.1,jD v.2.2.2.2.2.2.2.2.1,jD v.2.2.2.2.2.2.2.2.2]
def Uzu (v:bzb):PVal:=.agg [jD v.XP,jD v.XT,jD v.XZ,jD v.XY]
def Hze (v:dzg):PVal:=.agg [encL 12 rz3 v.joints,encL 1 (encL 1 bz5) v.points,encL 4 Uzu v.tree,encL 1 bz5 v.q]
def Izp (v:B2):PVal:=.agg [jD v.1,jD v.2]
def czs (v:B2):List PVal:=[jD v.1,jD v.2]
def az8z (v:czp):PVal:=.agg [encL 1 bz5 v.Xy,jD v.Xn]
def fz7 (v:azi):PVal:=.agg [jD v.to,jD v.cost]
def Cz8 (v:azk):PVal:=.agg [jD v.cost,jD v.points]
def Azy (v:azp):PVal:=.agg [jD v.rank.cost,jD v.rank.points,jD v.point]
def Qzd (v:xzy):PVal:=.agg [encL 12 rz3 v.scene.Xg.Xc,encL 5 Ezx v.scene.Xg.Xv,encL 3 nzn v.scene.Xe,encL 2 Izo v.scene.Xr,jD v.depth]
def Fzj (v:bzp):PVal:=.agg [encL 12 rz3 v.scene.Xg.Xc,encL 5 Ezx v.scene.Xg.Xv,encL 3 nzn v.scene.Xe,encL 2 Izo v.scene.Xr,encL 1 bz5 v.p,encL 1 bz5 v.q,encL 3 xz4 v.pieces]
def mz2 (v:Bh):List PVal:=[jD v.1,jD v.2.1,jD v.2.2]
def Qzc (v:xzx):PVal:=.agg [encL 1 bz5 v.list,jD v.next]
def Tzk (v:azy):PVal:=.agg [encL 1 bz5 v.mode.Xf,jD v.before,jD v.action.Xo,jD v.action.Xu,jD v.action.Place,jD v.depth]
def Tzj (v:azx):PVal:=.agg [encL 6 cz3 v.points,jD v.radius]
def Cz7 (v:azf):PVal:=.agg [jD v.Xn,jD v.Xa]
def rz4 (v:azt):PVal:=.agg [jD v.depth,jD v.index,encL 3 azv v.hints]
def jz6 (v:Cc):PVal:=.agg [jD v.1,jD v.2.1,jD v.2.2.1,jD v.2.2.2.1,jD v.2.2.2.2.1,jD v.2.2.2.2.2.1,jD v.2.2.2.2.2.2.1,jD v.2.2.2.2.2.2.2.1,jD v.2.2.2.2.2.2.2.2.1,jD v.2.2.2.2.2.2.2.2.2.1,jD v.2.2.2.2.2.2.2.2.2.2]
instance:En azu:=⟨12,rz3⟩
instance:En bzu:=⟨5,Ezx⟩
instance:En azj:=⟨2,az8y⟩
instance:En azh:=⟨3,nzn⟩
instance:En ezj:=⟨2,Izo⟩
instance:En az7:=⟨4,az90⟩
instance:En bz2:=⟨2,Lzf⟩
instance:En ezi:=⟨4,az4r⟩
instance:En czm:=⟨3,az4q⟩
instance:En az2:=⟨9,Wz3⟩
instance:En azm:=⟨1,azdf⟩
instance:En aza:=⟨3,Uzt⟩
instance:En ez4:=⟨3,az91⟩
instance:En azr:=⟨2,xz3⟩
instance:En bza:=⟨2,azdg⟩
instance:En aze:=⟨6,bzo⟩
instance:En Bh:=⟨3,azv⟩
instance:En cz2:=⟨4,az6q⟩
instance:En azc:=⟨10,Bzh⟩
instance:En tz2:=⟨4,az8x⟩
instance:En fzi:=⟨9,Zzc⟩
instance:En bzs:=⟨9,bzr⟩
instance:En C3:=⟨6,Wz4⟩
instance:En az0:=⟨2,tzg⟩
instance:En bz4:=⟨24,az4t⟩
instance:En Bx:=⟨4,Qzb⟩
instance:En Bp:=⟨18,Fzi⟩
instance:En Bm:=⟨6,cz3⟩
instance:En czd:=⟨2,az4s⟩
instance:En czq:=⟨3,Lzg⟩
instance:En bzd:=⟨3,az2m⟩
instance:En ezs:=⟨5,az2l⟩
instance:En gz0:=⟨4,Hzd⟩
instance:En fzk:=⟨2,Tzi⟩
instance:En ezu:=⟨4,Qze⟩
instance:En ezr:=⟨7,az2j⟩
instance:En izp:=⟨2,Oz5⟩
instance:En nz6:=⟨2,Oz4⟩
instance:En kz9:=⟨2,Lzh⟩
instance:En qzs:=⟨8,Lzi⟩
instance:En izi:=⟨3,Bzg⟩
instance:En bzn:=⟨1,yz9⟩
instance:En az6:=⟨3,xz4⟩
instance:En azo:=⟨8,Tzh⟩
instance:En az1:=⟨12,gz4⟩
instance:En azb:=⟨2,az2k⟩
instance:En Ca:=⟨10,Oz3⟩
instance:En bzb:=⟨4,Uzu⟩
instance:En dzg:=⟨4,Hze⟩
instance:En B2:=⟨2,Izp⟩
instance:En czp:=⟨2,az8z⟩
instance:En azi:=⟨2,fz7⟩
instance:En azk:=⟨2,Cz8⟩
instance:En azp:=⟨3,Azy⟩
instance:En xzy:=⟨5,Qzd⟩
instance:En bzp:=⟨7,Fzj⟩
instance:En xzx:=⟨2,Qzc⟩
instance:En azy:=⟨6,Tzk⟩
instance:En azx:=⟨2,Tzj⟩
instance:En azf:=⟨2,Cz7⟩
instance:En azt:=⟨3,rz4⟩
theorem gq20 (a b:Nat){f:FuncId}{fn:Func}(q:prog.funcs[f]?=some fn)(h:(fn.name== "runtime.NumGoroutine")=false:=by kernel_rfl)(h1:fn.body=some (.seq (.region 0 #[((gOps fn).getD 0 qu),((gOps fn).getD 1 qu)] false) (.cond (.tmp b) (gX fn) .skip)):=by kernel_rfl)(h2:((gOps fn).getD 0 qu).op=.call (gC ((gOps fn).getD 0 qu)):=by kernel_rfl)(h3:(gC ((gOps fn).getD 0 qu)).callee=.builtin .recover:=by kernel_rfl)(h4:((gOps fn).getD 0 qu).dst=some a:=by kernel_rfl)(h5:((gOps fn).getD 0 qu).guard=none:=by kernel_rfl)(h6:((gOps fn).getD 1 qu).op=.binOp .neq 20 (.tmp a) (.const .nilIface) 20:=by kernel_rfl)(h7:((gOps fn).getD 1 qu).dst=some b:=by kernel_rfl)(h8:((gOps fn).getD 1 qu).guard=none:=by kernel_rfl)(h9:a<fn.ntmps:=by decide)(h10:b<fn.ntmps:=by decide)(h11:fn.results=#[]:=by kernel_rfl):GuardFn prog f:=
 az6u q h ⟨0,_,_,a,b,gX fn,_,20,20,h1,h2,h3,h4,h5,h6,h7,h8,⟨gMs (prog.underlying 20),jw⟩,h9,h10,h11⟩
theorem azdq:GuardFn prog 157:=
 gq20 2 3 func157
theorem azdr:GuardFn prog 219:=
 gq20 2 3 func219
theorem azds:GuardFn prog 220:=
 gq20 2 3 func220
theorem azdt:GuardFn prog 281:=
 gq20 1 2 func281
theorem azdu:GuardFn prog 286:=
 gq20 4 5 func286
theorem azdv:GuardFn prog 290:=
 gq20 1 2 func290
theorem azdw:GuardFn prog 294:=
 gq20 2 3 func294
theorem azdx:GuardFn prog 319:=
 gq20 1 2 func319
theorem azdy:GuardFn prog 328:=
 gq20 1 2 func328
theorem azdz:GuardFn prog 336:=
 gq20 2 3 func336
theorem aze0:GuardFn prog 337:=
 gq20 1 2 func337
theorem aze1:GuardFn prog 338:=
 gq20 2 3 func338
theorem aze2:GuardFn prog 341:=
 gq20 3 4 func341
theorem aze3:GuardFn prog 344:=
 gq20 2 3 func344
theorem aze4:GuardFn prog 374:=
 gq20 2 3 func374
theorem az53:GuardFn prog 384:=
 gq20 2 3 func384
theorem aze5:GuardFn prog 394:=
 gq20 1 2 func394
theorem aze6:GuardFn prog 396:=
 gq20 1 2 func396
theorem aze7:GuardFn prog 402:=
 gq20 1 2 func402
theorem aze8:GuardFn prog 418:=
 gq20 1 2 func418
theorem aze9:GuardFn prog 496:=
 gq20 1 2 func496
def zz1 (j:Int):T ByteArray:=let aa:=qt.wrap (j+1);.grd (0<=j/\j<=aa/\aa<=(((⟨#[97,98,99,100,101,102,103,104,105,106]⟩:ByteArray).size:Nat):Int))<|.jq ((⟨#[97,98,99,100,101,102,103,104,105,106]⟩:ByteArray).extract j.toNat aa.toNat)
def zz0:=
 mkp1 func30 zz1
def Xz5 (j:Int)(aa:Int):T azj:=
 .loop (λs (ab:(A0×Int))=>pk s [0,1,4,5] [0,1,2,64,66] [(6,pz ab.2)] [(65,vO ab.1 113)]) (.exit 0) (λs (ab:A0)=>pk s [4,5] [0,1,2,64,66] [] [(65,vO ab 113)]) (λab=>.jF (ab.2<j) (.cc (zz0 ab.2) λac=>let ad:=([(⟨ac,(qt.wrap (4+(ab.2.tmod 2))),(qt.wrap (ab.2-1)),(0,0,0),0,aa,1,65536,65536,65536⟩:azu)]:A0);let ae:=ab.1.length+ad.length;
 .ok ((2:Int)≠0) jr<|.conv 5011 (kL ad 113)<|.conv 5012 (kA ab.1 ad 113)<|.grd (ae * 104<=140737488355328/\ae<=maxLen)<|.nn ((ab.1++ad),(qt.wrap (ab.2+1)))) (.oo ab.1)) (nl,0) [] λab=>.jq (⟨ab,nl⟩:azj)
def yzz:=
 mkp2 func28 Xz5
def az3a:T az2:=
 .cc (yzz 2 64) λj=>.conv 3002 (kL ([(16,0,0),(32,0,0)]:Bi) 89)<|.conv 4001 (kL ([(⟨1,(0,0,0)⟩:ezi)]:A1) 93)<|.conv 5001 (kL ([(0,0,0)]:Bi) 89)<|.conv 5003 (kL ([(⟨0,1,([(0,0,0)]:Bi)⟩:azh)]:A2) 91)<|.conv 5005 (kL ([(⟨(⟨#[111]⟩:ByteArray),([(⟨0,1,([(0,0,0)]:Bi)⟩:azh)]:A2)⟩:bz2)]:A3) 87)<|.conv 6000 (kL ([16,0]:A4) 2)<|.conv 6002 (kL ([32,0]:A4) 2)<|.conv 6004 (kL ([(⟨0,0,([16,0]:A4)⟩:czm),(⟨0,1,([32,0]:A4)⟩:czm)]:A7) 110)<|.jq (⟨(⟨j,nl,nl⟩:az7),([(⟨(⟨#[111]⟩:ByteArray),([(⟨0,1,([(0,0,0)]:Bi)⟩:azh)]:A2)⟩:bz2)]:A3),([(16,0,0),(32,0,0)]:Bi),([(⟨1,(0,0,0)⟩:ezi)]:A1),([(⟨0,0,([16,0]:A4)⟩:czm),(⟨0,1,([32,0]:A4)⟩:czm)]:A7),0⟩:az2)
def law39_one_C:CallS az2:=
 mkD func25 (az3a) 0 [] [] (λr=>q r) X6
def Czu (j:Int)(aa:Int):T Int:=let ab:=j.tmod aa;.grd (aa≠0)<|.cut 0 (λs (ac:Int)=>pk s [] [] [(5,pz ac)] []) (.jF (ab<0) (.oo (qt.wrap (ab+aa))) (.oo ab)) λac=>.jq ac
def tzq:=
 mkp2 func17 Czu
def Tzo (j:Int)(aa:Int):T cz2:=
 .cc (tzq j 4) λab=>.cc (tzq aa 20) λac=>.jq (⟨ab,3,4,ac⟩:cz2)
def hz4:=
 mkp2 func13 Tzo
def pzn (j:Int):T Bool:=
 .jF (97<=j) (.jq (qv (j<=122))) (.jq false)
def Bzf (j):=
 mkD func136 (pzn j) 0 [.pure (.int .i32 j)] [] (λr=>q r) X6
def tz0 (j:Int):T Bool:=
 .jF (48<=j) (.jq (qv (j<=57))) (.jq false)
def Ezs (j):=
 mkD func137 (tz0 j) 0 [.pure (.int .i32 j)] [] (λr=>q r) X6
def Ezr (j:ByteArray):T Bool:=let aa:=(j.size:Nat);.cub 2 16 [0] [] (.jG ((aa:Int)==0) (.jI ((aa:Int)>16) (.oo (j==(⟨#[119,111,114,108,100]⟩:ByteArray))))) λab=>.br ab (.jq false) (.loop (λs (ac:Nat)=>pk s [18] [] [] [(192,.iter j ac)]) (.exit 0) (jk [] []) (λac=>let ad:=Utf8.decode j ac;let ae:=(ad.1:Int);.brP (ac<j.size) (.cub 2 38 [18] [192] (.cc (Bzf ae) λaf=>.jH (!af) (.jG ((ac:Int)==0) (.cc (Ezs ae) λag=>.jH (!ag) (.oo (ae !=95))))) λaf=>.br af (.ff false) (.nn (ac+ad.2))) (.oo .u))
 0 [] λ_=>.jq true)
def Ezq:=
 mkp1 func79 Ezr
def Ezc (j:azj)(aa:ByteArray):T Int:=
 .loop (ik 9 [1,2,8] [0]) (.exit 0) (jk [] []) (λab=>.jF (ab<(j.Xc.length:Int)) (.gh ab j.Xc.length<|.br (((j.Xc.getD (ab.toNat) qu).XH)==aa) (.ff ab) (.nn (qt.wrap (ab+1)))) (.oo .u))
 0 [] λ_=>.jq (-1)
def Nzr:=
 mkp2 func202 Ezc
def wzg (j:Bh):T Bool:=
 .loop (ik 6 [5] []) (.exit 0) (jk [] []) (λaa=>let ab:=([j.1,j.2.1,j.2.2]:List Int).getD aa.toNat 0;.jF (aa<3) (.gh aa 3<|.cub 0 14 [5,6] [] (.jI (ab<(-4194304)) (.oo (qv (ab>4194304)))) λac=>.br ac (.ff true) (.nn (qt.wrap (aa+1)))) (.oo .u))
 0 [] λ_=>.jq false
def wzf:=
 mkp1 func203 wzg
def Azf (j:Int):T Int:=
 .cub 3 4 [3] [] (.br (j==1) (.oo (j==1)) (.br (j==2) (.oo (j==2)) (.oo (j==3)))) λaa=>.br aa (.jq 524288) (.cub 0 8 [] [] (.br (j==4) (.oo (j==4)) (.br (j==5) (.oo (j==5)) (.oo (j==6)))) λab=>.br ab (.jq 4194304) (.jq 0))
def Kzc:=
 mkp1 func204 Azf
def Aze (j:Int)(aa:Int):T Bool:=
 .jF (1<=j) (.jq (qv (j<=aa))) (.jq false)
def izd:=
 mkp2 func205 Aze
def lz8 (j:azj)(aa:Int):T Int:=let ab:=j.Xc.getD (aa.toNat) qu;let ac:=ab.Xo;.gh aa j.Xc.length<|.cub 1 12 [1,5] [448] (.cc (Ezq (ab.XH)) λad=>.jG (!ad) (.cc (Nzr (⟨j.Xc,j.Xv⟩:azj) (ab.XH)) λae=>.oo (ae !=aa))) λad=>.br ad (.jq 802) (.cub 0 25 [1,5] [448] (.jI (ac<0) (.oo (qv (ac>6)))) λae=>.br ae (.jq 803) (.cub 0 34 [5] [448] (.jI ((ab.XD)<(-1)) (.oo (qv ((ab.XD)>=aa)))) λaf=>.br af (.jq 804) (.cc (wzf (ab.XE)) λag=>.br ag (.jq 805) (.cc (Kzc ac) λah=>.cub 1 68 [5] [448] (.jI ((ab.Lo)>(ab.Hi)) (.jI ((ab.Lo)<(qt.wrap (0-ah))) (.oo (qv ((ab.Hi)>ah))))) λai=>.br ai (.jq 806) (.cub 1 90 [] [] (.cc (izd (ab.XL) 1024) λaj=>.jG (!aj) (.cc (izd (ab.XU) 1048576) λak=>.jG (!ak) (.cc (izd (ab.XV) 1048576) λal=>.jG (!al) (.cc (izd (ab.XR) 1099511627776) λam=>.oo (!am))))) λaj=>.br aj (.jq 807) (.jq 0))))))
def uz9:=
 mkp2 func141 lz8
def mzv (j:azj)(aa:bzu):T Bool:=
 .jF (0<=aa.XB) (.jF (aa.XB<(j.Xc.length:Int)) (.cc (izd aa.XX 65536) λab=>.br ab (.cc (wzf aa.XP) λac=>.jq (!ac)) (.jq false)) (.jq false)) (.jq false)
def xzh:=
 mkp2 func144 mzv
def szd (j:bzu)(aa:A0)(ab:A8):T (Bool×A0×A8):=
 .cc (xzh (⟨aa,ab⟩:azj) (⟨j.XB,j.XX,j.XP⟩:bzu)) λac=>.jq ((!ac),aa,ab)
def Ezb (j)(aa)(ab):=
 mkD func143 (szd j aa ab) 1 [q j,X7 0] [(0,.box [q aa,q ab])] (λr=>q r.1) (λr=>[(0,.box [q r.2.1,q r.2.2])])
def dzd (j:A8)(aa:A0)(ab:A8):T (Int×A0×A8):=
 .loop (λs (ac:(A0×A8×Int))=>pk s [0,1,7] [] [(8,pz ac.2.2)] [(0,.box [q ac.1,q ac.2.1])]) (.exit 0) (λs (ac:(A0×A8))=>pk s [] [] [] [(0,.box [q ac.1,q ac.2])]) (λac=>.jF (ac.2.2<(j.length:Int)) (.gh ac.2.2 j.length<|.call (Ezb (j.getD (X3 ac.2.2) qu) ac.1 ac.2.1) [(0,0)] λad=>.br ad.1 (.ff (ac.2.2,ad.2.1,ad.2.2)) (.nn (ad.2.1,ad.2.2,(qt.wrap (ac.2.2+1))))) (.oo (ac.1,ac.2.1))) (aa,ab,0) [] λac=>.jq ((-1),ac.1,ac.2)
def fz3 (j)(aa)(ab):=
 mkD func206 (dzd j aa ab) 1 [q j,.func 143 [] [X7 0]] [(0,.box [q aa,q ab])] (λr=>pz r.1) (λr=>[(0,.box [q r.2.1,q r.2.2])])
def czx (j:A8)(aa:A0)(ab:A8):T (Bool×A0×A8):=
 .call (fz3 j aa ab) [(0,0)] λac=>.jq ((qv (ac.1>=0)),ac.2.1,ac.2.2)
def ezd (j)(aa)(ab):=
 mkD func142 (czx j aa ab) 1 [q j,.func 143 [] [X7 0]] [(0,.box [q aa,q ab])] (λr=>q r.1) (λr=>[(0,.box [q r.2.1,q r.2.2])])
def Azc (j:azj):T Int:=let aa:=(j.Xc.length:Int);.cub 2 14 [1] [0] (.jG (aa==0) (.oo (qv (aa>10)))) λab=>.br ab (.jq 801) (.loop (ik 18 [1,17] [0]) (.exit 0) (jk [1] [0]) (λac=>.jF (ac<aa) (.cc (uz9 (⟨j.Xc,j.Xv⟩:azj) ac) λad=>.br (ad !=0) (.ff ad) (.nn (qt.wrap (ac+1)))) (.oo .u))
 0 [] λ_=>.cub 1 37 [] [] (.jI ((j.Xv.length:Int)>32) (.call (ezd j.Xv j.Xc j.Xv) [(0,0)] λac=>.oo ac.1)) λac=>.br ac (.jq 808) (.jq 0))
def ezy:=
 mkp1 func83 Azc
def wzh (j:az7)(aa:Int):T Bool:=
 .jF ((-1)<=aa) (.jq (qv (aa<(j.Xg.Xc.length:Int)))) (.jq false)
def nzk:=
 mkp2 func134 wzh
def lzb (j:az7)(aa:azh):T Int:=let ab:=(aa.Xb.length:Int);.cub 3 35 [3] [64] (.cc (nzk j aa.XB) λac=>.jG (!ac) (.jI (aa.XF<1) (.jI (aa.XF>1048576) (.jI (ab<1) (.oo (qv (ab>8))))))) λac=>.br ac (.jq 902) (.loop (ik 39 [37,38] []) (.exit 0) (jk [] []) (λad=>let ae:=aa.Xb.getD (ad.toNat) qu;.jF (ad<ab) (.gh ad aa.Xb.length<|.loop (ik 44 [37,38,39,43] []) (.exit 2) (jk [37,38,39] []) (λaf=>.jF (af<3) (.gh af 3<|.name 9000 ((([ae.1,ae.2.1,ae.2.2]:List Int).getD af.toNat 0)) λag=>.cub 0 52 [37,38,39,43,44] [] (.jI (ag<(-4194304)) (.oo (qv (ag>4194304)))) λah=>.br ah (.ff (.fin 805)) (.nn (qt.wrap (af+1)))) (.oo .u))
 0 [] λ_=>.nn (qt.wrap (ad+1))) (.oo .u))
 0 [] λ_=>.jq 0)
def uza:=
 mkp2 func133 lzb
def Azg (j:az7):T Int:=let aa:=(j.Xr.length:Int);let ab:=(j.Xe.length:Int);.cc (ezy j.Xg) λac=>.br (ac !=0) (.jq ac) (.jF (ab>24) (.jq 901) (.loop (ik 22 [1,20,21] [0]) (.exit 0) (jk [1] [0]) (λad=>.jF (ad<ab) (.gh ad j.Xe.length<|.cc (uza j (j.Xe.getD (ad.toNat) qu)) λae=>.br (ae !=0) (.ff ae) (.nn (qt.wrap (ad+1)))) (.oo .u))
 0 [] λ_=>.jF (aa>64) (.jq 903) (.loop (ik 40 [1,38,39] [0]) (.exit 2) (jk [] []) (λad=>let ae:=j.Xr.getD (ad.toNat) qu;.jF (ad<aa) (.gh ad j.Xr.length<|.cub 0 55 [1,38,39,40] [0] (.cc (nzk j (ae.A)) λaf=>.jG (!af) (.cc (nzk j (ae.B)) λag=>.oo (!ag))) λaf=>.br af (.ff 903) (.nn (qt.wrap (ad+1)))) (.oo .u))
 0 [] λ_=>.jq 0)))
def ez8:=
 mkp1 func76 Azg
def Czm (j:Bh):T Bool:=
 .unroll 4<|.jn<|.z9<|.z9<|.lit 6000 1<|.jn<|.ja<|.ja<|.lit 6000 2<|.jn<|.jb<|.jb<|.lit 6000 3<|.jp<|.jq (((min (max j.1 (-2097152)) 2097152)==j.1)&&(((min (max j.2.1 (-2097152)) 2097152)==j.2.1)&&(((min (max j.2.2 (-2097152)) 2097152)==j.2.2)&&true)))
def tzi:=
 mkp1 func135 Czm
def yzm (j:az2)(aa:Int)(ab:Int):T Bool:=
 .jF (0<=aa) (.jF (aa<(j.Xj.length:Int)) (.jF (0<=ab) (.jq (qv (ab<(j.Xh.length:Int)))) (.jq false)) (.jq false)) (.jq false)
def yzl:=
 mkp3 func91 yzm
def mz3 (j:azu)(aa:Int):T Bool:=
 .jF (j.Lo<=aa) (.jq (qv (aa<=j.Hi))) (.jq false)
def xz0:=
 mkp2 func85 mz3
def eza (j:A0)(aa:A4):T Bool:=let ab:=(j.length:Int);.br (ab !=(aa.length:Int)) (.jq false) (.loop (ik 16 [1,2,14,15] []) (.exit 0) (jk [] []) (λac=>.jF (ac<ab) (.gh ac j.length<|.gh ac aa.length<|.cc (xz0 (j.getD (ac.toNat) qu) (aa.getD (ac.toNat) qu)) λad=>.br (!ad) (.ff false) (.nn (qt.wrap (ac+1)))) (.oo .u))
 0 [] λ_=>.jq true)
def gzh (j)(aa):=
 mkD func84 (eza j aa) 0 [q j,q aa,.func 85 [] []] [] (λr=>q r) X6
def rz2 (j:azj)(aa:A4):T Bool:=
 .cc (ezy j) λab=>.br (ab==0) (.cc (gzh j.Xc aa) λac=>.jq ac) (.jq false)
def bzq:=
 mkp2 func41 rz2
def rzc (j:az2):T Bool:=let aa:=(j.Xj.length:Int);let ab:=(j.Xk.length:Int);let ac:=(j.Xh.length:Int);.cub 2 30 [1] [0] (.jI ((j.Xd.length:Int)>6) (.jI (ac>8) (.jI (aa>3) (.oo (qv (ab>32)))))) λad=>.br ad (.jq false) (.cub 1 38 [1] [0] (.jI (j.Xp<0) (.oo (qv (j.Xp>65536)))) λae=>.br ae (.jq false) (.loop (ik 42 [1,40,41] [0]) (.exit 0) (jk [1] [0]) (λaf=>.jF (af<ac) (.gh af j.Xh.length<|.cc (tzi (j.Xh.getD (af.toNat) qu)) λag=>.br (!ag) (.ff false) (.nn (qt.wrap (af+1)))) (.oo .u))
 0 [] λ_=>.loop (ik 53 [1,51,52] [0]) (.exit 2) (jk [1] [0]) (λaf=>let ag:=j.Xj.getD (af.toNat) qu;.jF (af<aa) (.gh af j.Xj.length<|.cub 0 75 [1,51,52,53] [0] (.jI ((ag.XB)<0) (.jI ((ag.XB)>=(j.Xl.Xg.Xc.length:Int)) (.cc (tzi (ag.XE)) λah=>.oo (!ah)))) λah=>.br ah (.ff false) (.nn (qt.wrap (af+1)))) (.oo .u))
 0 [] λ_=>.loop (ik 80 [1,78,79] [0]) (.exit 4) (jk [] []) (λaf=>let ag:=j.Xk.getD (af.toNat) qu;.jF (af<ab) (.gh af j.Xk.length<|.cub 0 99 [1,78,79,80] [0] (.cc (yzl (⟨j.Xl,j.Xd,j.Xh,j.Xj,j.Xk,j.Xp⟩:az2) (ag.Xu) (ag.Place)) λah=>.jG (!ah) (.cc (bzq j.Xl.Xg (ag.At)) λai=>.oo (!ai))) λah=>.br ah (.ff false) (.nn (qt.wrap (af+1)))) (.oo .u))
 0 [] λ_=>.jq true))
def rzb:=
 mkp1 func77 rzc
def Qzn (j:bz2)(aa:ByteArray)(ab:A2):T By:=
 .jq ((j.XH==aa),aa,ab)
def Czl (j)(aa)(ab):=
 mkD func78 (Qzn j aa ab) 1 [q j,X7 0] [(0,.box [q aa,q ab])] (λr=>q r.1) (λr=>[(0,.box [q r.2.1,q r.2.2])])
def czl (j:A3)(aa:ByteArray)(ab:A2):T (Int×ByteArray×A2):=
 .loop (λs (ac:(ByteArray×A2×Int))=>pk s [0,1,7] [] [(8,pz ac.2.2)] [(0,.box [q ac.1,q ac.2.1])]) (.exit 0) (λs (ac:(ByteArray×A2))=>pk s [] [] [] [(0,.box [q ac.1,q ac.2])]) (λac=>.jF (ac.2.2<(j.length:Int)) (.gh ac.2.2 j.length<|.call (Czl (j.getD (X3 ac.2.2) qu) ac.1 ac.2.1) [(0,0)] λad=>.br ad.1 (.ff (ac.2.2,ad.2.1,ad.2.2)) (.nn (ad.2.1,ad.2.2,(qt.wrap (ac.2.2+1))))) (.oo (ac.1,ac.2.1))) (aa,ab,0) [] λac=>.jq ((-1),ac.1,ac.2)
def ez3 (j)(aa)(ab):=
 mkD func138 (czl j aa ab) 1 [q j,.func 78 [] [X7 0]] [(0,.box [q aa,q ab])] (λr=>pz r.1) (λr=>[(0,.box [q r.2.1,q r.2.2])])
def cz7 (j:A3)(aa:ByteArray)(ab:A2):T By:=
 .call (ez3 j aa ab) [(0,0)] λac=>.jq ((qv (ac.1>=0)),ac.2.1,ac.2.2)
def dzt (j)(aa)(ab):=
 mkD func80 (cz7 j aa ab) 1 [q j,.func 78 [] [X7 0]] [(0,.box [q aa,q ab])] (λr=>q r.1) (λr=>[(0,.box [q r.2.1,q r.2.2])])
def Azj (j:azh):T Bool:=let aa:=(j.Xb.length:Int);.cub 2 26 [1] [0] (.jI (j.XF<1) (.jI (j.XF>1048576) (.jI (aa<1) (.oo (qv (aa>8)))))) λab=>.br ab (.jq false) (.loop (ik 30 [28,29] []) (.exit 0) (jk [] []) (λac=>let ad:=j.Xb.getD (ac.toNat) qu;.jF (ac<aa) (.gh ac j.Xb.length<|.loop (ik 35 [28,29,30,34] []) (.exit 2) (jk [28,29,30] []) (λae=>.jF (ae<3) (.gh ae 3<|.name 8000 ((([ad.1,ad.2.1,ad.2.2]:List Int).getD ae.toNat 0)) λaf=>.cub 0 43 [28,29,30,34,35] [] (.jI (af<(-4194304)) (.oo (qv (af>4194304)))) λag=>.br ag (.ff (.fin false)) (.nn (qt.wrap (ae+1)))) (.oo .u))
 0 [] λ_=>.nn (qt.wrap (ac+1))) (.oo .u))
 0 [] λ_=>.jq true)
def Azi:=
 mkp1 func139 Azj
def yzo (j:bz2):T Bool:=let aa:=(j.Xe.length:Int);.loop (ik 10 [1,8,9] [0]) (.exit 0) (jk [1] [0]) (λab=>let ac:=j.Xe.getD (ab.toNat) qu;.jF (ab<aa) (.gh ab j.Xe.length<|.cub 1 21 [1,4,8,9,10] [0,640] (.cc (Azi ac) λad=>.jG (!ad) (.oo ((ac.XB) !=0))) λad=>.br ad (.ff false) (.loop (ik 25 [1,8,9,10,23,24] [0]) (.exit 2) (jk [1,8,9,10] [0]) (λae=>.jF (ae<(ac.Xb.length:Int)) (.gh ae (ac.Xb.length)<|.call (tzi ((ac.Xb).getD (ae.toNat) qu)) [] λaf=>.br (!af) (.ff (.fin false)) (.nn (qt.wrap (ae+1)))) (.oo .u))
 0 [] λ_=>.nn (qt.wrap (ab+1)))) (.oo .u))
 0 [] λ_=>.jq (qv (aa>0))
def yzn:=
 mkp1 func81 yzo
def yzi (j:az2):T Int:=let aa:=(j.Xd.length:Int);.cc (ez8 j.Xl) λab=>.br (ab !=0) (.jq ab) (.cc (rzb (⟨j.Xl,j.Xd,j.Xh,j.Xj,j.Xk,j.Xp⟩:az2)) λac=>.br (!ac) (.jq 3401) (.loop (λs (ad:B2)=>pk s [1,22,23] [0] [(4,pz ad.1),(24,pz ad.2)] []) (.exit 0) (ik 4 [] []) (λad=>let ae:=j.Xd.getD (X3 ad.2) qu;.jF (ad.2<aa) (.gh ad.2 j.Xd.length<|.cut 2 (λs (af:(ByteArray×A2×Bool))=>pk s [1,4,6,22,23,24] [0] [(46,q af.2.2)] [(1600,.box [q af.1,q af.2.1])]) (.cc (Ezq (ae.XH)) λaf=>.br (!af) (.oo (ae.XH,ae.Xe,true)) (.conv 11008 (Cz5 2 Lzf j.Xd (0:Int) ad.2)<|.grd (0<=(0:Int)/\(0:Int)<=ad.2/\ad.2<=aa)<|.call (dzt ((j.Xd.drop (X3 (0:Int))).take ((ad.2).toNat- (0:Int).toNat)) (ae.XH) (ae.Xe)) [(0,1600)] λag=>.br ag.1 (.oo (ag.2.1,ag.2.2,true)) (.cc (yzn (⟨ag.2.1,ag.2.2⟩:bz2)) λah=>.oo (ag.2.1,ag.2.2,(!ah))))) λaf=>.br af.2.2 (.ff 3402) (.nn ((qt.wrap (ad.1+(af.2.1.length:Int))),(qt.wrap (ad.2+1))))) (.oo ad.1)) ((j.Xl.Xe.length:Int),0) [] λad=>.jF (ad>24) (.jq 3401) (.jq 0)))
def iz4:=
 mkp1 func39 yzi
def hza (j:A4)(aa:Int):T Int:=
 .loop (ik 8 [0,1,7] []) (.exit 0) (jk [] []) (λab=>.jF (ab<(j.length:Int)) (.gh ab j.length<|.br (aa==(j.getD (ab.toNat) qu)) (.ff ab) (.nn (qt.wrap (ab+1)))) (.oo .u))
 0 [] λ_=>.jq (-1)
def lzx:=
 mkp2 func140 hza
def fzt (j:A4)(aa:Int):T Bool:=
 .cc (lzx j aa) λab=>.jq (qv (ab>=0))
def jz0:=
 mkp2 func82 fzt
def yzk (j:az2)(aa:azm):T Bool:=let ab:=(aa.Xf.length:Int);.cub 2 18 [2,3] [0,64] (.cc (iz4 (⟨j.Xl,j.Xd,j.Xh,j.Xj,j.Xk,j.Xp⟩:az2)) λac=>.jG (ac !=0) (.oo (ab !=(j.Xd.length:Int)))) λac=>.br ac (.jq false) (.loop (ik 22 [2,3,20,21] [0,64]) (.exit 0) (jk [] []) (λad=>let ae:=aa.Xf.getD (ad.toNat) qu;.jF (ad<ab) (.gh ad aa.Xf.length<|.cub 0 47 [2,3,20,21,22] [0,64] (.jI (ae<(qt.wrap (0- (j.Xj.length:Int)))) (.jI (ae>=(j.Xh.length:Int)) (.conv 6017 (Cz5 1 bz5 aa.Xf (0:Int) ad)<|.grd (0<=(0:Int)/\(0:Int)<=ad/\ad<=ab)<|.cc (jz0 ((aa.Xf.drop (X3 (0:Int))).take (ad.toNat- (0:Int).toNat)) ae) λaf=>.oo af))) λaf=>.br af (.ff false) (.nn (qt.wrap (ad+1)))) (.oo .u))
 0 [] λ_=>.jq true)
def ez5:=
 mkp2 func40 yzk
def Izh (j:cz2):T Bool:=
 .jF (j.XG>=0) (.jF (j.XG<=1022) (.jF (j.XJ>=1) (.jF (j.XJ<=16) (.jF (j.Xi>=0) (.jF (j.Xi<=20) (.jF (j.XN>=0) (.jq (qv (j.XN<=8192))) (.jq false)) (.jq false)) (.jq false)) (.jq false)) (.jq false)) (.jq false)) (.jq false)
def gzq:=
 mkp1 func62 Izh
def szy (j:azm):T C3:=
 .unroll 7<|.jn<|.ix 0 6 rfl<|.lit 6000 1<|.jn<|.ix 1 6 rfl<|.lit 6000 2<|.jn<|.ix 2 6 rfl<|.lit 6000 3<|.jn<|.ix 3 6 rfl<|.lit 6000 4<|.jn<|.ix 4 6 rfl<|.lit 6000 5<|.jn<|.ix 5 6 rfl<|.lit 6000 6<|.jp<|.jq ((if 0<j.Xf.length then j.Xf.getD 0 qu else(-1048577)),(if 1<j.Xf.length then j.Xf.getD 1 qu else(-1048577)),(if 2<j.Xf.length then j.Xf.getD 2 qu else(-1048577)),(if 3<j.Xf.length then j.Xf.getD 3 qu else(-1048577)),(if 4<j.Xf.length then j.Xf.getD 4 qu else(-1048577)),(if 5<j.Xf.length then j.Xf.getD 5 qu else(-1048577)))
def hzx:=
 mkp1 func89 szy
def zz5 (j:C3)(aa:A4):T Bool:=
 .loop (ik 9 [2,7,8] [0]) (.exit 0) (jk [] []) (λab=>let ac:=aa.getD (ab.toNat) qu;.jF (ab<(aa.length:Int)) (.gh ab aa.length<|.cub 0 22 [2,7,8,9] [0] (.jH (ac !=(-1048576)) (.cas 4004 ab 0 (.ix 0 6 rfl<|.oo (ac !=j.1)) (.cas 4004 ab 1 (.ix 1 6 rfl<|.oo (ac !=j.2.1)) (.cas 4004 ab 2 (.ix 2 6 rfl<|.oo (ac !=j.2.2.1)) (.cas 4004 ab 3 (.ix 3 6 rfl<|.oo (ac !=j.2.2.2.1)) (.cas 4004 ab 4 (.ix 4 6 rfl<|.oo (ac !=j.2.2.2.2.1)) (.cas 4004 ab 5 (.ix 5 6 rfl<|.oo (ac !=j.2.2.2.2.2)) (.stop)))))))) λad=>.br ad (.ff false) (.nn (qt.wrap (ab+1)))) (.oo .u))
 0 [] λ_=>.jq true
def qz0:=
 mkp2 func99 zz5
def nz4 (j:czm)(aa:Int)(ab:Int):T Bq:=
 .br (j.Xu==aa) (.jq ((j.Place==ab),aa,ab)) (.jq (false,aa,ab))
def xzr (j)(aa)(ab):=
 mkD func184 (nz4 j aa ab) 2 [q j,X7 0,X7 1] [(0,.box [pz aa]),(1,.box [pz ab])] (λr=>q r.1) (λr=>[(0,.box [pz r.2.1]),(1,.box [pz r.2.2])])
def dzc (j:A7)(aa:Int)(ab:Int):T Bh:=
 .loop (λs (ac:Bh)=>pk s [0,1,7] [] [(8,pz ac.2.2)] [(0,.box [pz ac.1]),(1,.box [pz ac.2.1])]) (.exit 0) (λs (ac:B2)=>pk s [] [] [] [(0,.box [pz ac.1]),(1,.box [pz ac.2])]) (λac=>.jF (ac.2.2<(j.length:Int)) (.gh ac.2.2 j.length<|.call (xzr (j.getD (X3 ac.2.2) qu) ac.1 ac.2.1) [(0,0),(1,1)] λad=>.br ad.1 (.ff (ac.2.2,ad.2.1,ad.2.2)) (.nn (ad.2.1,ad.2.2,(qt.wrap (ac.2.2+1))))) (.oo (ac.1,ac.2.1))) (aa,ab,0) [] λac=>.jq ((-1),ac.1,ac.2)
def fz2 (j)(aa)(ab):=
 mkD func240 (dzc j aa ab) 2 [q j,.func 184 [] [X7 0,X7 1]] [(0,.box [pz aa]),(1,.box [pz ab])] (λr=>pz r.1) (λr=>[(0,.box [pz r.2.1]),(1,.box [pz r.2.2])])
def czw (j:A7)(aa:Int)(ab:Int):T Bq:=
 .call (fz2 j aa ab) [(0,0),(1,1)] λac=>.jq ((qv (ac.1>=0)),ac.2.1,ac.2.2)
def ezc (j)(aa)(ab):=
 mkD func185 (czw j aa ab) 2 [q j,.func 184 [] [X7 0,X7 1]] [(0,.box [pz aa]),(1,.box [pz ab])] (λr=>q r.1) (λr=>[(0,.box [pz r.2.1]),(1,.box [pz r.2.2])])
def szx (j:az2):T A9:=
 .loop (λs (aa:Aa)=>pk s [1,3,9] [0] [(10,pz aa.2)] [(128,vO aa.1 62)]) (.exit 0) (λs (aa:A9)=>pk s [3] [] [] [(128,vO aa 62)]) (λaa=>.jF (aa.2<(j.Xj.length:Int)) (.loop (λs (ab:(A9×Int×Int))=>pk s [1,3,4,9,10,15] [0] [(16,pz ab.2.2)] [(128,vO ab.1 62),(640,.box [pz ab.2.1])]) (.exit 2) (λs (ab:A9)=>pk s [1,3,9,10] [0] [] [(128,vO ab 62)]) (λab=>.jF (ab.2.2<(j.Xh.length:Int)) (.cut 0 (λs (ac:Aa)=>pk s [1,4,9,10,15,16] [0] [(3,.vec 1152)] [(640,.box [pz ac.2]),(1152,vO ac.1 62)]) (.call (ezc j.Xk ab.2.1 ab.2.2) [(0,640),(1,1216)] λac=>let ad:=([(⟨0,ac.2.1,ac.2.2⟩:aza)]:A9);let ae:=ab.1.length+ad.length;
 .br ac.1 (.conv 10004 (kL ad 62)<|.conv 10005 (kA ab.1 ad 62)<|.grd (ae * 24<=140737488355328/\ae<=maxLen)<|.oo ((ab.1++ad),ac.2.1)) (.oo (ab.1,ac.2.1))) λac=>.nn (ac.1,ac.2,(qt.wrap (ab.2.2+1)))) (.oo ab.1)) (aa.1,aa.2,0) [] λab=>.nn (ab,(qt.wrap (aa.2+1)))) (.oo aa.1)) (nl,0) [] λaa=>.jq aa
def szu:=
 mkp1 func118 szx
def Szu (j:az2)(aa:Ab):T Bb:=
 .loop (λs (ab:(Bb×Int))=>pk s [2,5,9,10] [0] [(11,pz ab.2)] [(128,Czv (jE 9) dzl ab.1)]) (.exit 0) (λs (ab:Bb)=>pk s [5] [] [] [(128,Czv (jE 9) dzl ab)]) (λab=>.jF (ab.2<(aa.length:Int)) (.cut 0 (λs (ac:Bb)=>pk s [2,5,9,10,11] [0] [] [(128,Czv (jE 9) dzl ac)]) (.gh ab.2 aa.length<|.br ((((aa.getD (X3 ab.2) qu).XS.Xf.length:Nat):Int)==(j.Xd.length:Int))
 .stop (.oo ab.1)) λac=>.nn (ac,(qt.wrap (ab.2+1)))) (.oo ab.1)) ((nl:List (fzi×Bool)),0) [] λab=>.jq ab
def Szt:=
 mkv2 func119 Szu (λ_=>.map 0) (λr=>[(0,Czv (jE 9) dzl r)])
def zz4 (j:C3)(aa:Int):T Int:=
 .loop (ik 8 [1,7] []) (.exit 0) (jk [] []) (λab=>.jF (ab<6) (.gh ab 6<|.br ((([j.1,j.2.1,j.2.2.1,j.2.2.2.1,j.2.2.2.2.1,j.2.2.2.2.2]:List Int).getD ab.toNat 0)==aa) (.ff ab) (.nn (qt.wrap (ab+1)))) (.oo .u))
 0 [] λ_=>.jq (-1)
def ezv:=
 mkp2 func146 zz4
def szt (j:A9)(aa:C3):T A9:=let ab:=(j.length:Int);.loop (λs (ac:Aa)=>pk s [0,3,5,10,11] [0] [(12,pz ac.2)] [(128,vO ac.1 62)]) (.exit 0) (λs (ac:A9)=>pk s [0,3,5] [0] [] [(128,vO ac 62)]) (λac=>let ad:=j.getD (X3 ac.2) qu;let ae:=([(⟨1,ad.Xu,ad.Place⟩:aza)]:A9);let af:=ac.1.length+ae.length;.jF (ac.2<ab) (.cut 0 (λs (ag:A9)=>pk s [0,3,10,11,12] [0] [(5,.vec 512)] [(512,vO ag 62)]) (.gh ac.2 j.length<|.cub 0 28 [0,3,5,7,10,11,12] [0,128,640] (.call (ezv (aa.1,aa.2.1,aa.2.2.1,aa.2.2.2.1,aa.2.2.2.2.1,aa.2.2.2.2.2) (qt.wrap ((-1)- (ad.Xu)))) [] λag=>.jF (ag<0) (.cc (ezv (aa.1,aa.2.1,aa.2.2.1,aa.2.2.2.1,aa.2.2.2.2.1,aa.2.2.2.2.2) (ad.Place)) λah=>.oo (qv (ah>=0))) (.oo false)) λag=>.br ag (.conv 7002 (kL ae 62)<|.conv 7003 (kA ac.1 ae 62)<|.grd (af * 24<=140737488355328/\af<=maxLen)<|.oo (ac.1++ae)) (.oo ac.1)) λag=>.nn (ag,(qt.wrap (ac.2+1)))) (.oo ac.1)) (nl,0) [] λac=>.loop (λs (ad:Aa)=>pk s [3,5,35,36] [0] [(37,pz ad.2)] [(128,vO ad.1 62)]) (.exit 2) (λs (ad:A9)=>pk s [5] [] [] [(128,vO ad 62)]) (λad=>let ae:=j.getD (X3 ad.2) qu;let af:=([(⟨2,ae.Xu,ae.Place⟩:aza)]:A9);let ag:=ad.1.length+af.length;.jF (ad.2<ab) (.cut 0 (λs (ah:A9)=>pk s [3,35,36,37] [0] [(5,.vec 768)] [(768,vO ah 62)]) (.gh ad.2 j.length<|.cub 0 53 [3,5,9,35,36,37] [0,128,896] (.call (ezv (aa.1,aa.2.1,aa.2.2.1,aa.2.2.2.1,aa.2.2.2.2.1,aa.2.2.2.2.2) (qt.wrap ((-1)- (ae.Xu)))) [] λah=>.jF (ah>=0) (.cc (ezv (aa.1,aa.2.1,aa.2.2.1,aa.2.2.2.1,aa.2.2.2.2.1,aa.2.2.2.2.2) (ae.Place)) λai=>.oo (qv (ai<0))) (.oo false)) λah=>.br ah (.conv 14002 (kL af 62)<|.conv 14003 (kA ad.1 af 62)<|.grd (ag * 24<=140737488355328/\ag<=maxLen)<|.oo (ad.1++af)) (.oo ad.1)) λah=>.nn (ah,(qt.wrap (ad.2+1)))) (.oo ad.1)) (ac,0) [] λad=>.jq ad
def szs:=
 mkp2 func120 szt
def Ezp (j:C3)(aa:aza):T C3:=let ab:=qt.wrap ((-1)-aa.Xu);.cut 2 (λs (ac:B2)=>pk s [2,4] [0,128] [(5,pz ac.1),(6,pz ac.2)] []) (.br (aa.Xo==2) (.oo (ab,aa.Place)) (.oo (aa.Place,ab))) λac=>.cut 0 (λs (ad:C3)=>pk s [2,4] [128] [] [(0,.box [pz ad.1,pz ad.2.1,pz ad.2.2.1,pz ad.2.2.2.1,pz ad.2.2.2.2.1,pz ad.2.2.2.2.2])]) (.cc (ezv j ac.1) λad=>.cas 4002 ad 0 (.ix 0 6 rfl<|.oo (ac.2,j.2.1,j.2.2.1,j.2.2.2.1,j.2.2.2.2.1,j.2.2.2.2.2)) (.cas 4002 ad 1 (.ix 1 6 rfl<|.oo (j.1,ac.2,j.2.2.1,j.2.2.2.1,j.2.2.2.2.1,j.2.2.2.2.2)) (.cas 4002 ad 2 (.ix 2 6 rfl<|.oo (j.1,j.2.1,ac.2,j.2.2.2.1,j.2.2.2.2.1,j.2.2.2.2.2)) (.cas 4002 ad 3 (.ix 3 6 rfl<|.oo (j.1,j.2.1,j.2.2.1,ac.2,j.2.2.2.2.1,j.2.2.2.2.2)) (.cas 4002 ad 4 (.ix 4 6 rfl<|.oo (j.1,j.2.1,j.2.2.1,j.2.2.2.1,ac.2,j.2.2.2.2.2)) (.cas 4002 ad 5 (.ix 5 6 rfl<|.oo (j.1,j.2.1,j.2.2.1,j.2.2.2.1,j.2.2.2.2.1,ac.2)) (.stop))))))) λad=>.jq (ad.1,ad.2.1,ad.2.2.1,ad.2.2.2.1,ad.2.2.2.2.1,ad.2.2.2.2.2)
def uzh:=
 mkp2 func88 Ezp
def az7r (j:C6)(aa:C3)(ab:Int):T A9:=
 .conv 1001 (Cz4 3 Uzt 62 ab.toNat (⟨0,0,0⟩:aza))<|.grd (0<=ab/\ab<=ab/\ab<=9223372036854775807/\ab * 24<=140737488355328)<|.loop (λs (ac:(Int×Int×Int×Int×Int×Int×A9×Int))=>pk s [0,4,7] [0] [(8,pz ac.2.2.2.2.2.2.2)] [(1,.box [pz ac.1,pz ac.2.1,pz ac.2.2.1,pz ac.2.2.2.1,pz ac.2.2.2.2.1,pz ac.2.2.2.2.2.1]),(193,vO ac.2.2.2.2.2.2.1 62)]) (.exit 0) (λs (ac:A9)=>pk s [7] [0] [] [(193,vO ac 62)]) (λac=>let ad:=ac.2.2.2.2.2.2.2;let ae:=azl (ac.1,ac.2.1,ac.2.2.1,ac.2.2.2.1,ac.2.2.2.2.1,ac.2.2.2.2.2.1);let af:=jzi azl j ae;let ag:=mdom azl j ae;.jF (ac.2.2.2.2.2.2.2>=0) (.ok (ag=false->PSub (.agg (jE 9)) (bzr af)) (Vz9 jw)<|.gh ac.2.2.2.2.2.2.2 ac.2.2.2.2.2.2.1.length<|.conv 5007 (kS ac.2.2.2.2.2.2.1 62 (ad.toNat) (af.by_))<|.gi ad ac.2.2.2.2.2.2.1.length<|.ok (ag=false->PSub (.agg (jE 9)) (bzr af)) (Vz9 jw)<|.nn (af.before.1,af.before.2.1,af.before.2.2.1,af.before.2.2.2.1,af.before.2.2.2.2.1,af.before.2.2.2.2.2,(ac.2.2.2.2.2.2.1.set (ad.toNat) (af.by_)),(qt.wrap (ac.2.2.2.2.2.2.2-1)))) (.oo ac.2.2.2.2.2.2.1)) (aa.1,aa.2.1,aa.2.2.1,aa.2.2.2.1,aa.2.2.2.2.1,aa.2.2.2.2.2,(qs ab.toNat ((⟨0,0,0⟩:aza):aza)),(qt.wrap (ab-1))) [] λac=>.jq ac
def az7q (j)(aa)(ab):=
 mkD func121 (az7r j aa ab) 1 [.map 0,q aa,pz ab] [(0,mapG (jE 6) azl bzr j)] (λr=>q r) (λ_=>[(0,mapG (jE 6) azl bzr j)])
def az1u (j:az2)(aa:azm)(ab:A4)(ac:Int)(ad:Ab):T (A9×Bool):=
 .cub 2 45 [2,3,4,5,6] [0,64] (.cc (ez5 j aa) λae=>.jG (!ae) (.jG ((ab.length:Int) !=(j.Xd.length:Int)) (.jI (ac<0) (.oo (qv (ac>16)))))) λae=>.br ae (.jq (nl,false)) (.cc (hzx aa) λaf=>let ag:=([af]:C4);
 .cc (qz0 (af.1,af.2.1,af.2.2.1,af.2.2.2.1,af.2.2.2.2.1,af.2.2.2.2.2) ab) λah=>.br ah (.jq (nl,true)) (.cc (szu (⟨j.Xl,j.Xd,j.Xh,j.Xj,j.Xk,j.Xp⟩:az2)) λai=>.cc (Szt j ad) λaj=>.conv 8000 (azgi (jE 6) azl bzr (.agg (jE 9)))<|.conv 8003 (az4n (jE 6) azl bzr (nl:List C5) af (⟨(0,0,0,0,0,0),(⟨0,0,0⟩:aza)⟩:bzs) (.agg (jE 9)) jw)<|.conv 9001 (kL ag 183)<|.loop (λs (ak:C7)=>pk s [2,3,13,14,15,16] [1088] [(17,pz ak.2.2)] [(1216,mapG (jE 6) azl bzr ak.1),(1664,vO ak.2.1 183)]) (.exit 0) (jk [] []) (λak=>let al:=(ak.2.1.length:Int);.cub 1 69 [2,3,13,14,15,16,17] [1088,1216,1664] (.jF (ak.2.2<=ac) (.oo (qv (al>0))) (.oo false)) λam=>.br am (.loop (λs (an:C7)=>pk s [2,3,13,14,15,17,18,72,73] [1088,1664] [(74,pz an.2.2)] [(1216,mapG (jE 6) azl bzr an.1),(1984,vO an.2.1 183)]) (.exit 2) (λs (an:(C6×C4))=>pk s [2,3,13,14,15,17,18] [1088] [] [(1216,mapG (jE 6) azl bzr an.1),(1984,vO an.2 183)]) (λan=>let ao:=ak.2.1.getD (X3 an.2.2) qu;.jF (an.2.2<al) (.gg an.2.2 ak.2.1.length<|.cc (szs ai ao) λap=>.loop (λs (aq:C7)=>pk s [2,3,13,14,15,17,18,20,72,73,74,80,81] [1088,1664,2496] [(82,pz aq.2.2)] [(1216,mapG (jE 6) azl bzr aq.1),(1984,vO aq.2.1 183)]) (.exit 4) (λs (aq:(C6×C4))=>pk s [2,3,13,14,15,17,18,72,73,74] [1088,1664] [] [(1216,mapG (jE 6) azl bzr aq.1),(1984,vO aq.2 183)]) (λaq=>let ar:=ap.getD (X3 aq.2.2) qu;let au:=dzl (⟨ao,ar⟩:fzi);let av:=Jz6 dzl aj au;let aw:=(⟨ao,ar⟩:bzs);.jF (aq.2.2<(ap.length:Int)) (.cut 0 (λs (ax:(C6×C4))=>pk s [2,3,13,14,15,17,18,20,72,73,74,80,81,82] [1088,1664,2496] [] [(1216,mapG (jE 6) azl bzr ax.1),(1984,vO ax.2 183)]) (.gh aq.2.2 ap.length<|.cc (uzh ao ar) λax=>let ay:=mdom azl aq.1 (azl ax);let az:=((ax,aw)::aq.1);let a0:=([ax]:C4);let a1:=aq.2.1.length+a0.length;
 .ok (ay=false->PSub (.agg (jE 9)) (bzr (jzi azl aq.1 (azl ax)))) (Vz9 jw)<|.cub 0 102 [2,3,13,14,15,17,18,20,22,23,72,73,74,80,81,82] [1088,1216,1664,1984,2496,3200,3520] (.jG ay (.ok ((mdom dzl aj au)=false->PSub (.bool false) (PVal.bool av)) az5b<|.oo av)) λa2=>.br a2 (.oo (aq.1,aq.2.1)) (.conv 23005 (az4n (jE 6) azl bzr aq.1 ax aw (.agg [jD (ao.1),jD (ao.2.1),jD (ao.2.2.1),jD (ao.2.2.2.1),jD (ao.2.2.2.2.1),jD (ao.2.2.2.2.2),jD (ar.Xo),jD (ar.Xu),jD (ar.Place)]) jw)<|.cc (qz0 ax ab) λa3=>.br a3 (.call (az7q az ax ak.2.2) [(0,1216)] λa4=>.ff (.fin (.fin (.fin (a4,true))))) (.conv 26002 (kL a0 183)<|.conv 26003 (kA aq.2.1 a0 183)<|.grd (a1 * 48<=140737488355328/\a1<=maxLen)<|.oo (az,(aq.2.1++a0))))) λax=>.nn (ax.1,ax.2,(qt.wrap (aq.2.2+1)))) (.oo (aq.1,aq.2.1))) (an.1,an.2.1,0) [] λaq=>.nn (aq.1,aq.2,(qt.wrap (an.2.2+1)))) (.oo (an.1,an.2.1))) (ak.1,nl,0) [] λan=>.nn (an.1,an.2,(qt.wrap (ak.2.2+1)))) (.oo .u)) (((af,(⟨(0,0,0,0,0,0),(⟨0,0,0⟩:aza)⟩:bzs))::(nl:List C5)),ag,1) [] λ_=>.stop))
def Ezo:=
 mkq5 func63 az1u (λr=>.tup [q r.1,q r.2])
def iz8 {α:Type}[Inhabited α][En α](t k:Nat)(a0:(List α)):T (List α):= (match a0 with
  |[]=>.unroll 1<|.grd (a0.length=0)<|.both (.jq nl) (.conv 3000 (kL ([]:(List α)) t)<|.conv 3002 (kA ([]:(List α)) a0 t)<|.grd ((([]:(List α)).length+a0.length) * k<=140737488355328/\(([]:(List α)).length+a0.length)<=maxLen)<|.jq (([]:(List α))++a0))
  |_::_=>.grd (0<a0.length)<|.conv 3000 (kL ([]:(List α)) t)<|.conv 3002 (kA ([]:(List α)) a0 t)<|.grd ((([]:(List α)).length+a0.length) * k<=140737488355328/\(([]:(List α)).length+a0.length)<=maxLen)<|.jq (([]:(List α))++a0))
def kz0 (j:A0):T A0:=
 iz8 113 104 j
def fzg (a0:A0):CallS A0:=
 mkH [] hd func153 jw (kz0 a0) 0 [q a0] [] (λr=>q r) X6 (by cases a0<;>exact Ob.of_side jw)
def lzq (j:A8):T A8:=
 iz8 233 40 j
def fzu (a0:A8):CallS A8:=
 mkH [] hd func154 jw (lzq a0) 0 [q a0] [] (λr=>q r) X6 (by cases a0<;>exact Ob.of_side jw)
def oz1 (j:Bi):T Bi:=
 iz8 89 24 j
def gzj (a0:Bi):CallS Bi:=
 mkH [] hd func218 jw (oz1 a0) 0 [q a0] [] (λ_=>.vec 0) (λr=>[(0,vO r 89)]) (by cases a0<;>exact Ob.of_side jw)
def uzv (j:A2)(aa:Bh):T A2:=let ab:=(j.length:Int);.conv 1002 (azgj 3 nzn 91 (0:Int).toNat (⟨0,0,nl⟩:azh) (.agg [jD 0,jD 0,.lst 0 0 λ_=>.unk]) jw)<|.grd (0<=(0:Int)/\(0:Int)<=ab/\ab<=9223372036854775807/\ab * 40<=140737488355328)<|.loop (λs (ac:Ac)=>pk s [3,5,14,15] [0] [(16,pz ac.2)] [(256,vO ac.1 91)]) (.exit 0) (λs (ac:A2)=>pk s [5] [] [] [(256,vO ac 91)]) (λac=>let ad:=j.getD (X3 ac.2) qu;.jF (ac.2<ab) (.gh ac.2 j.length<|.cc (gzj (ad.Xb)) λae=>.unroll 998<|.loop (λs (af:Bj)=>pk s [3,5,7,14,15,16,26] [0,256,832] [(27,pz af.2)] [(1088,vO af.1 89)]) (.exit 2) (λs (af:Bi)=>pk s [3,5,7,14,15,16] [0,256,832] [] [(1088,vO af 89)]) (λaf=>let ag:=af.2;let ah:=ag.toNat;let ai:=af.1.getD ah qu;.jF (af.2<(ae.length:Int)) (.unroll 4<|.jn<|.z9<|.gh af.2 af.1.length<|.z9<|.grd (ag.toNat<af.1.length)<|.name 12006 (ai.1) λaj=>let ak:=qt.wrap (aj+aa.1);let al:=af.1.set ah (ak,ai.2.1,ai.2.2);let am:=al.length;let an:=al.getD ah qu;
 .gh af.2 af.1.length<|.z9<|.conv 12011 (kS af.1 89 ah (ak,ai.2.1,ai.2.2))<|.gi ag af.1.length<|.lit 13000 1<|.jn<|.ja<|.gh af.2 am<|.ja<|.grd (ag.toNat<al.length)<|.name 12006 (an.2.1) λao=>let ap:=qt.wrap (ao+aa.2.1);let aq:=al.set ah (an.1,ap,an.2.2);let ar:=aq.length;let au:=aq.getD ah qu;
 .gh af.2 am<|.ja<|.conv 12011 (kS al 89 ah (an.1,ap,an.2.2))<|.gi ag am<|.lit 13000 2<|.jn<|.jb<|.gh af.2 ar<|.jb<|.grd (ag.toNat<aq.length)<|.name 12006 (au.2.2) λav=>let aw:=qt.wrap (av+aa.2.2);
 .gh af.2 ar<|.jb<|.conv 12011 (kS aq 89 ah (au.1,au.2.1,aw))<|.gi ag ar<|.lit 13000 3<|.jp<|.nn ((aq.set ah (au.1,au.2.1,aw)),(qt.wrap (af.2+1)))) (.oo af.1)) (ae,0) [] λaf=>let ag:=([(⟨ad.XB,ad.XF,af⟩:azh)]:A2);let ah:=ac.1.length+ag.length;
 .conv 15002 (kL ag 91)<|.conv 15003 (kA ac.1 ag 91)<|.grd (ah * 40<=140737488355328/\ah<=maxLen)<|.nn ((ac.1++ag),(qt.wrap (ac.2+1)))) (.oo ac.1)) ((qs (0:Int).toNat ((⟨0,0,nl⟩:azh):azh)),0) [] λac=>.jq ac
def uzu:=
 mkv2 func155 uzv (λ_=>.vec 0) (λr=>[(0,vO r 91)])
def lzr (j:Ad):T Ad:=
 iz8 208 16 j
def fzv (a0:Ad):CallS Ad:=
 mkH [] hd func156 jw (lzr a0) 0 [q a0] [] (λr=>q r) X6 (by cases a0<;>exact Ob.of_side jw)
def yzj (j:az2)(aa:azm):T (az7×Int):=
 .cc (iz4 j) λab=>.br (ab !=0) (.jq ((⟨(⟨nl,nl⟩:azj),nl,nl⟩:az7),ab)) (.cc (ez5 j aa) λac=>.br (!ac) (.jq ((⟨(⟨nl,nl⟩:azj),nl,nl⟩:az7),3403)) (.cc (fzg j.Xl.Xg.Xc) λad=>.cc (fzu j.Xl.Xg.Xv) λae=>.cc (uzu j.Xl.Xe (0,0,0)) λaf=>.cc (fzv j.Xl.Xr) λag=>.loop (λs (ah:Ac)=>pk s [2,3,4,7,48,49] [0,64,128,129,130,131,132,2176] [(50,pz ah.2)] [(1792,vO ah.1 91)]) (.exit 0) (λs (ah:A2)=>pk s [4,7] [128,129,130,131,132,2176] [] [(1792,vO ah 91)]) (λah=>let ai:=(ah.2).toNat;let aj:=aa.Xf.getD ai qu;let ak:=qt.wrap ((-1)-aj);let al:=j.Xj.getD (ak.toNat) qu;let am:=j.Xh.getD (aj.toNat) qu;.jF (ah.2<(j.Xd.length:Int)) (.gh ah.2 j.Xd.length<|.cut 1 (λs (an:Bx)=>pk s [2,3,4,7,9,11,48,49,50] [0,64,128,129,130,131,132,1792,2176,2880] [(10,pz an.1)] [(3136,.box [pz an.2.1,pz an.2.2.1,pz an.2.2.2])]) (.gh ah.2 aa.Xf.length<|.jF (aj>=0) (.gh aj j.Xh.length<|.oo ((-1),am.1,am.2.1,am.2.2)) (.gh ak j.Xj.length<|.gh ak j.Xj.length<|.oo (al.XB,al.XE.1,al.XE.2.1,al.XE.2.2))) λan=>.cc (uzu ((j.Xd.getD ai qu).Xe) (an.2.1,an.2.2.1,an.2.2.2)) λao=>.loop (λs (ap:Ac)=>pk s [2,3,4,7,10,48,49,50,85,86] [0,64,128,129,130,131,132,2176,3584] [(87,pz ap.2)] [(1792,vO ap.1 91)]) (.exit 2) (λs (ap:A2)=>pk s [2,3,4,7,48,49,50] [0,64,128,129,130,131,132,2176] [] [(1792,vO ap 91)]) (λap=>let aq:=ao.getD (X3 ap.2) qu;let ar:=([(⟨an.1,aq.XF,aq.Xb⟩:azh)]:A2);let au:=ap.1.length+ar.length;.jF (ap.2<(ao.length:Int)) (.gg ap.2 ao.length<|.conv 19003 (kL ar 91)<|.conv 19004 (kA ap.1 ar 91)<|.grd (au * 40<=140737488355328/\au<=maxLen)<|.nn ((ap.1++ar),(qt.wrap (ap.2+1)))) (.oo ap.1)) (ah.1,0) [] λap=>.nn (ap,(qt.wrap (ah.2+1)))) (.oo ah.1)) (af,0) [] λah=>.jq ((⟨(⟨ad,ae⟩:azj),ah,ag⟩:az7),0)))
def pzw:=
 mkq2 func96 yzj (λr=>.tup [q r.1,pz r.2])
def wzp (j:az2)(aa:azm):T A9:=
 .cc (ez5 j aa) λab=>.br (!ab) (.jq nl) (.cc (szu j) λac=>.cc (hzx aa) λad=>.cc (szs ac ad) λae=>.jq ae)
def Gzy:=
 mkp2 func87 wzp
def dze (j:A9)(aa:aza):T Int:=
 .loop (ik 8 [0,3,7] [0]) (.exit 0) (jk [] []) (λab=>let ac:=j.getD (ab.toNat) qu;.jF (ab<(j.length:Int)) (.gh ab j.length<|.br ((aa.Xo==(ac.Xo))&&((aa.Xu==(ac.Xu))&&((aa.Place==(ac.Place))&&true))) (.ff ab) (.nn (qt.wrap (ab+1)))) (.oo .u))
 0 [] λ_=>.jq (-1)
def fz4:=
 mkp2 func145 dze
def czy (j:A9)(aa:aza):T Bool:=
 .cc (fz4 j aa) λab=>.jq (qv (ab>=0))
def eze:=
 mkp2 func86 czy
def Bzn (j:A4):T A4:=
 iz8 3 8 j
def lzw (a0:A4):CallS A4:=
 mkH [] hd func90 jw (Bzn a0) 0 [q a0] [] (λr=>q r) X6 (by cases a0<;>exact Ob.of_side jw)
def Ezn (j:az2)(aa:azm)(ab:aza):T (azm×Bool):=let ac:=(⟨aa.Xf⟩:azm);let ad:=(aa.Xf.length:Int);.cc (Gzy (⟨j.Xl,j.Xd,j.Xh,j.Xj,j.Xk,j.Xp⟩:az2) ac) λae=>.cc (eze ae ab) λaf=>.br (!af) (.jq ((⟨nl⟩:azm),false)) (.cc (hzx ac) λag=>.cc (uzh ag ab) λah=>let ai:=([ah.1,ah.2.1,ah.2.2.1,ah.2.2.2.1,ah.2.2.2.2.1,ah.2.2.2.2.2]:List Int);
 .conv 4003 (azmk bz5 ai ad)<|.grd (0<=ad/\ad<=(6:Int))<|.call (lzw (ai.take (ad.toNat))) [] λaj=>.jq ((⟨aj⟩:azm),true))
def jzz:=
 mkq3 func42 Ezn (λr=>.tup [q r.1,q r.2])
def pzm (j:az2)(aa:aza)(ab:Int):T Bool:=let ac:=j.Xk.getD (ab.toNat) qu;.jF (0<=ab) (.jF (ab<(j.Xk.length:Int)) (.gh ab j.Xk.length<|.br ((ac.Xu)==aa.Xu) (.gh ab j.Xk.length<|.jq ((ac.Place)==aa.Place)) (.jq false)) (.jq false)) (.jq false)
def jzd:=
 mkp3 func43 pzm
def oze (j:Int):T Bool:=
 .jF (j<(-2147483648)) (.jq true) (.jq (qv (j>2147483648)))
def Azw:=
 mkp1 func213 oze
def ezf (j:A4):T Int:=
 .loop (ik 8 [0,1,7] []) (.exit 0) (jk [] []) (λaa=>.jF (aa<(j.length:Int)) (.gh aa j.length<|.cc (Azw (j.getD (aa.toNat) qu)) λab=>.br ab (.ff aa) (.nn (qt.wrap (aa+1)))) (.oo .u))
 0 [] λ_=>.jq (-1)
def gzk (j):=
 mkD func265 (ezf j) 0 [q j,.func 213 [] []] [] pz X6
def dzu (j:A4):T Bool:=
 .cc (gzk j) λaa=>.jq (qv (aa>=0))
def fzo (j):=
 mkD func212 (dzu j) 0 [q j,.func 213 [] []] [] (λr=>q r) X6
def uzo (j:A4):T Bool:=
 .cc (fzo j) λaa=>.jq (!aa)
def hz3:=
 mkp1 func149 uzo
def yzh (j:Int):T Int:=
 .jq (min (max j (-2147483648)) 2147483648)
def yzg:=
 mkp1 func266 yzh
def kzk (j:Int)(aa:Int):T az0:=
 .cc (yzg j) λab=>.cc (yzg aa) λac=>.jq (⟨ab,ac⟩:az0)
def hzc:=
 mkp2 func214 kzk
def yzt (j:Int):T az0:=
 .cc (hzc j j) λaa=>.jq aa
def czi:=
 mkp1 func151 yzt
def dzj (j:A4):T Ae:=let aa:=(j.length:Int);.conv 1002 (Cz4 2 tzg 95 aa.toNat (⟨0,0⟩:az0))<|.grd (0<=aa/\aa<=aa/\aa<=9223372036854775807/\aa * 16<=140737488355328)<|.loop (λs (ab:Af)=>pk s [1,5,11,12] [] [(13,pz ab.2)] [(192,vO ab.1 95)]) (.exit 0) (λs (ab:Ae)=>pk s [5] [] [] [(192,vO ab 95)]) (λab=>let ac:=(ab.2).toNat;.jF (ab.2<aa) (.gh ab.2 j.length<|.cc (czi (j.getD ac qu)) λad=>.gh ab.2 ab.1.length<|.conv 5006 (kS ab.1 95 ac ad)<|.gi (ab.2) ab.1.length<|.nn ((ab.1.set ac ad),(qt.wrap (ab.2+1)))) (.oo ab.1)) ((qs aa.toNat ((⟨0,0⟩:az0):az0)),0) [] λab=>.jq ab
def fzf (j):=
 mkD func150 (dzj j) 0 [q j,.func 151 [] []] [] (λr=>q r) X6
def Bzy (j:A4):T Ae:=
 .cc (hz3 j) λaa=>.br (!aa) (.jq nl) (.cc (fzf j) λab=>.jq ab)
def Bzx:=
 mkp1 func93 Bzy
def ozg (j:az0):T Bool:=
 .jF ((-2147483648)<=j.Lo) (.jF (j.Lo<=j.Hi) (.jq (qv (j.Hi<=2147483648))) (.jq false)) (.jq false)
def bzw:=
 mkp1 func209 ozg
def izk (j:az0):T Bool:=
 .cc (bzw j) λaa=>.jq (!aa)
def pzp:=
 mkp1 func208 izk
def cz4 (j:Ae):T Int:=
 .loop (ik 8 [0,1,7] []) (.exit 0) (jk [] []) (λaa=>.jF (aa<(j.length:Int)) (.gh aa j.length<|.cc (pzp (j.getD (aa.toNat) qu)) λab=>.br ab (.ff aa) (.nn (qt.wrap (aa+1)))) (.oo .u))
 0 [] λ_=>.jq (-1)
def dzk (j):=
 mkD func261 (cz4 j) 0 [q j,.func 208 [] []] [] pz X6
def cz0 (j:Ae):T Bool:=
 .cc (dzk j) λaa=>.jq (qv (aa>=0))
def dzb (j):=
 mkD func207 (cz0 j) 0 [q j,.func 208 [] []] [] (λr=>q r) X6
def kzo (j:azj)(aa:Ae):T Bool:=
 .br ((aa.length:Int)==(j.Xc.length:Int)) (.cc (dzb aa) λab=>.jq (!ab)) (.jq false)
def hzd:=
 mkp2 func147 kzo
def vz2 (j:Bh):T Bm:=
 .unroll 4<|.jn<|.z9<|.cc (czi j.1) λaa=>.z9<|.lit 6000 1<|.jn<|.ja<|.cc (czi j.2.1) λab=>.ja<|.lit 6000 2<|.jn<|.jb<|.cc (czi j.2.2) λac=>.jb<|.lit 6000 3<|.jp<|.jq (aa,ab,ac)
def izq:=
 mkp1 func95 vz2
def matrix_Identity_T:T Bp:=
 .unroll 4<|.jn<|.cc (czi 65536) λj=>.z9<|.z9<|.lit 6000 1<|.jn<|.cc (czi 65536) λaa=>.ja<|.ja<|.lit 6000 2<|.jn<|.cc (czi 65536) λab=>.jb<|.jb<|.lit 6000 3<|.jp<|.jq ((j,(⟨0,0⟩:az0),(⟨0,0⟩:az0)),((⟨0,0⟩:az0),aa,(⟨0,0⟩:az0)),((⟨0,0⟩:az0),(⟨0,0⟩:az0),ab))
def matrix_Identity_C:CallS Bp:=
 mkD func308 (matrix_Identity_T) 0 [] [] (λr=>q r) X6
def Dz4 (j:Bm):T bz4:=
 .cc (matrix_Identity_C) λaa=>.jq (⟨aa,j⟩:bz4)
def tzw:=
 mkp1 func262 Dz4
def gz6 (j:Int):T Int:=
 .cut 3 (λs (aa:Bool)=>pk s [0,2,3] [] [(4,q aa)] [(0,.box [.any])]) (.br (j==1) (.oo (j==1)) (.br (j==2) (.oo (j==2)) (.oo (j==3)))) λaa=>.br aa (.jq (qt.wrap (j-1))) (.cub 0 12 [0,2] [0] (.br (j==4) (.oo (j==4)) (.br (j==5) (.oo (j==5)) (.oo (j==6)))) λab=>.br ab (.stop) (.stop))
def gz5:=
 mkq1 func263 gz6 (λr=>.agg [.func 309 [pz r] []])
def gz8 (j:Int):T Int:=
 .cut 3 (λs (aa:Bool)=>pk s [0,2,3] [] [(4,q aa)] [(0,.box [.any])]) (.br (j==1) (.oo (j==1)) (.br (j==2) (.oo (j==2)) (.oo (j==3)))) λaa=>.br aa (.stop) (.cub 0 12 [0,2] [0] (.br (j==4) (.oo (j==4)) (.br (j==5) (.oo (j==5)) (.oo (j==6)))) λab=>.br ab (.jq (qt.wrap (j-4))) (.stop))
def gz7:=
 mkq1 func263 gz8 (λr=>.agg [.func 310 [pz r] []])
def gz9 (j:Int):T Int:=
 .cut 3 (λs (aa:Bool)=>pk s [0,2,3] [] [(4,q aa)] [(0,.box [.any])]) (.br (j==1) (.oo (j==1)) (.br (j==2) (.oo (j==2)) (.oo (j==3)))) λaa=>.br aa (.stop) (.cub 0 12 [0,2] [0] (.br (j==4) (.oo (j==4)) (.br (j==5) (.oo (j==5)) (.oo (j==6)))) λab=>.br ab (.stop) (.jq 0))
def jzu:=
 mkq1 func263 gz9 (λr=>.agg [.func 311 [pz r] []])
def pose_still_T:T Bm:=
 .cc (izq (0,0,0)) λj=>.jq j
def pose_still_C:CallS Bm:=
 mkD func426 (pose_still_T) 0 [] [] (λr=>q r) X6
def pose_Identity_T:T bz4:=
 .cc (pose_still_C) λj=>.cc (tzw j) λaa=>.jq aa
def pose_Identity_C:CallS bz4:=
 mkD func364 (pose_Identity_T) 0 [] [] (λr=>q r) X6
def Hz4 (_a0:Int)(_a1:az0):T bz4:=
 .cc (pose_Identity_C) λj=>.jq j
def Pzs:=
 mkp2 func311 Hz4
end Go.Abs
