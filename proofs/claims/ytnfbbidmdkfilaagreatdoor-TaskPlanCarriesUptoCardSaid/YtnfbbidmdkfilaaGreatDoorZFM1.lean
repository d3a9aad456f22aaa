import Derived.Test.YtnfbbidmdkfilaaGreatDoorZFRngF
import Derived.Test.YtnfbbidmdkfilaaGreatDoorZFLend
import Derived.Test.YtnfbbidmdkfilaaGreatDoorProg
open Decidable renaming decide->qv
open Go.IntKind renaming i64->qt
open Inhabited renaming default->qu
open List renaming replicate->qs
open Int renaming toNat->X3
noncomputable section
namespace Go.Abs
open Go.Proofs.Tryz
theorem jO{p:Prop}(h:p:=by as_aux_lemma=>kernel_rfl):p:=h
theorem jJ{p:Prop}(h:p:=by kernel_rfl):p:=h
set_option maxHeartbeats 8000000
set_option maxRecDepth 20000
open Go.Proofs
noncomputable abbrev X4 (x:Bool):AVal:=.pure (.bool x)
noncomputable abbrev X5 {α:Type}[Inhabited α](n:Nat)(e:α->PVal)(l:List α):AVal:=.pure (encL n e l)
noncomputable abbrev X6 {α β:Type}:α->List β:=λ_=>[]
noncomputable abbrev X7 (i:Nat):AVal:=.ptr i 0
abbrev X8:U0->St:=λ_=>⟨[],[],[],0⟩
abbrev jP (x:Int):PVal:=.int .i64 x
abbrev jQ (n:Nat):List PVal:=List.replicate n (jP 0)
noncomputable abbrev pz (x:Int):AVal:=.pure (jP x)
theorem hd:gz7 prog az9w:=az7o jJ
noncomputable abbrev mkD {R:Type}{f:FuncId}{fn:Func}(hf:prog.funcs[f]?=some fn)(t:T R)(k:Nat)(args:List AVal)(m:Mem)(res:R->AVal)(m1:R->Mem)(hb:(fn.body.isSome&& !(fn.name== "runtime.NumGoroutine"))=true:=by kernel_rfl)(h:(xzc prog [] az9w fn (fn.body.getD .skip) k k t args m res m1).side true=(xzc prog [] az9w fn (fn.body.getD .skip) k k t args m res m1).side false:=by kernel_rfl):CallS R:=mkC [] hd hf hb t k args m res m1 h
noncomputable abbrev T.jq {R:Type}(k:T R):T R:=.ix 0 3 rfl k
noncomputable abbrev T.jr {R:Type}(k:T R):T R:=.ix 1 3 rfl k
noncomputable abbrev T.jt {R:Type}(k:T R):T R:=.ix 2 3 rfl k
noncomputable abbrev T.ju {R:Type}(k:T R):T R:=.ix 1 11 rfl k
noncomputable abbrev T.jv {R:Type}(k:T R):T R:=.ix 2 11 rfl k
noncomputable abbrev T.jw {R:Type}(k:T R):T R:=.ix 3 11 rfl k
noncomputable abbrev T.jx {R:Type}(k:T R):T R:=.ix 4 11 rfl k
noncomputable abbrev T.jy {R:Type}(k:T R):T R:=.ix 5 11 rfl k
noncomputable abbrev T.jz {R:Type}(k:T R):T R:=.ix 6 11 rfl k
noncomputable abbrev T.jA {R:Type}(k:T R):T R:=.ix 7 11 rfl k
noncomputable abbrev T.jB {R:Type}(k:T R):T R:=.ix 8 11 rfl k
noncomputable abbrev T.jC {R:Type}(k:T R):T R:=.known true k
noncomputable abbrev T.jD {R:Type}(k:T R):T R:=.known false k
noncomputable abbrev T.jE {R:Type}(r:R):T R:=.ret r
noncomputable abbrev T.jR {R:Type}(p:Prop)[Decidable p](a b:T R):T R:=.br (decide p) a b
noncomputable abbrev T.jS {σ R:Type}(c:Bool)(x:T (Step3 σ Bool R)):T (Step3 σ Bool R):=.br c (.ret (.out true)) x
noncomputable abbrev T.jT {σ R:Type}(c:Bool)(x:T (Step3 σ Bool R)):T (Step3 σ Bool R):=.br c x (.ret (.out false))
noncomputable abbrev T.jU {σ R:Type}(p:Prop)[Decidable p](x:T (Step3 σ Bool R)):T (Step3 σ Bool R):=.br (decide p) (.ret (.out true)) x
noncomputable abbrev T.gg {R:Type}(i:Int)(n:Nat)(k:T R):T R:=.grd (0<=i/\i<(n:Int)) (.grd (i.toNat<n) k)
noncomputable abbrev T.gh {R:Type}(i:Int)(n:Nat)(k:T R):T R:=.grd (0<=i/\i<(n:Int)) k
noncomputable abbrev T.gi {R:Type}(i:Int)(n:Nat)(k:T R):T R:=.grd (i.toNat<n/\0<=i.toNat) k
noncomputable abbrev T.oo {σ τ R:Type}(y:τ):T (Step3 σ τ R):=.ret (.out y)
noncomputable abbrev T.nn {σ τ R:Type}(x:σ):T (Step3 σ τ R):=.ret (.next x)
noncomputable abbrev T.ff {σ τ R:Type}(r:R):T (Step3 σ τ R):=.ret (.fin r)
noncomputable abbrev T.cc {R α:Type}(c:CallS α)(k:α->T R):T R:=.call c [] k
section
abbrev bo (f:Func):=(f.body.isSome&& !(f.name== "runtime.NumGoroutine"))=true
abbrev pf {R:Type}(f:Func)(t:T R)(w:List AVal)(r:R->AVal)(m:R->Mem):=(xzc prog [] az9w f (f.body.getD .skip) 0 0 t w [] r m).side true=(xzc prog [] az9w f (f.body.getD .skip) 0 0 t w [] r m).side false
variable {a b c d e g h i R:Type} [En a] [En b] [En c] [En d] [En e] [En g] [En h] [En i] {n:FuncId} {f:Func} (l:prog.funcs[n]?=some f)
abbrev mkp1 [En R](t:a->T R)(y:bo f:=by show _=_;kernel_rfl)(z:∀x0,pf f (t x0) [q x0] q X6:=by intros;show _=_;kernel_rfl)(x0:a):CallS R:=mkC [] hd l y (t x0) 0 _ [] _ _ (z x0)
abbrev mkp2 [En R](t:a->b->T R)(y:bo f:=by show _=_;kernel_rfl)(z:∀x0 x1,pf f (t x0 x1) [q x0,q x1] q X6:=by intros;show _=_;kernel_rfl)(x0:a)(x1:b):CallS R:=mkC [] hd l y (t x0 x1) 0 _ [] _ _ (z x0 x1)
abbrev mkp3 [En R](t:a->b->c->T R)(y:bo f:=by show _=_;kernel_rfl)(z:∀x0 x1 x2,pf f (t x0 x1 x2) [q x0,q x1,q x2] q X6:=by intros;show _=_;kernel_rfl)(x0:a)(x1:b)(x2:c):CallS R:=mkC [] hd l y (t x0 x1 x2) 0 _ [] _ _ (z x0 x1 x2)
abbrev mkp4 [En R](t:a->b->c->d->T R)(y:bo f:=by show _=_;kernel_rfl)(z:∀x0 x1 x2 x3,pf f (t x0 x1 x2 x3) [q x0,q x1,q x2,q x3] q X6:=by intros;show _=_;kernel_rfl)(x0:a)(x1:b)(x2:c)(x3:d):CallS R:=mkC [] hd l y (t x0 x1 x2 x3) 0 _ [] _ _ (z x0 x1 x2 x3)
abbrev mkp5 [En R](t:a->b->c->d->e->T R)(y:bo f:=by show _=_;kernel_rfl)(z:∀x0 x1 x2 x3 x4,pf f (t x0 x1 x2 x3 x4) [q x0,q x1,q x2,q x3,q x4] q X6:=by intros;show _=_;kernel_rfl)(x0:a)(x1:b)(x2:c)(x3:d)(x4:e):CallS R:=mkC [] hd l y (t x0 x1 x2 x3 x4) 0 _ [] _ _ (z x0 x1 x2 x3 x4)
abbrev mkp6 [En R](t:a->b->c->d->e->g->T R)(y:bo f:=by show _=_;kernel_rfl)(z:∀x0 x1 x2 x3 x4 x5,pf f (t x0 x1 x2 x3 x4 x5) [q x0,q x1,q x2,q x3,q x4,q x5] q X6:=by intros;show _=_;kernel_rfl)(x0:a)(x1:b)(x2:c)(x3:d)(x4:e)(x5:g):CallS R:=mkC [] hd l y (t x0 x1 x2 x3 x4 x5) 0 _ [] _ _ (z x0 x1 x2 x3 x4 x5)
abbrev mkp8 [En R](t:a->b->c->d->e->g->h->i->T R)(y:bo f:=by show _=_;kernel_rfl)(z:∀x0 x1 x2 x3 x4 x5 x6 x7,pf f (t x0 x1 x2 x3 x4 x5 x6 x7) [q x0,q x1,q x2,q x3,q x4,q x5,q x6,q x7] q X6:=by intros;show _=_;kernel_rfl)(x0:a)(x1:b)(x2:c)(x3:d)(x4:e)(x5:g)(x6:h)(x7:i):CallS R:=mkC [] hd l y (t x0 x1 x2 x3 x4 x5 x6 x7) 0 _ [] _ _ (z x0 x1 x2 x3 x4 x5 x6 x7)
abbrev mkq1 (t:a->T R)(r:R->AVal)(y:bo f:=by show _=_;kernel_rfl)(z:∀x0,pf f (t x0) [q x0] r X6:=by intros;show _=_;kernel_rfl)(x0:a):CallS R:=mkC [] hd l y (t x0) 0 _ [] _ _ (z x0)
abbrev mkq2 (t:a->b->T R)(r:R->AVal)(y:bo f:=by show _=_;kernel_rfl)(z:∀x0 x1,pf f (t x0 x1) [q x0,q x1] r X6:=by intros;show _=_;kernel_rfl)(x0:a)(x1:b):CallS R:=mkC [] hd l y (t x0 x1) 0 _ [] _ _ (z x0 x1)
abbrev mkq3 (t:a->b->c->T R)(r:R->AVal)(y:bo f:=by show _=_;kernel_rfl)(z:∀x0 x1 x2,pf f (t x0 x1 x2) [q x0,q x1,q x2] r X6:=by intros;show _=_;kernel_rfl)(x0:a)(x1:b)(x2:c):CallS R:=mkC [] hd l y (t x0 x1 x2) 0 _ [] _ _ (z x0 x1 x2)
abbrev mkq4 (t:a->b->c->d->T R)(r:R->AVal)(y:bo f:=by show _=_;kernel_rfl)(z:∀x0 x1 x2 x3,pf f (t x0 x1 x2 x3) [q x0,q x1,q x2,q x3] r X6:=by intros;show _=_;kernel_rfl)(x0:a)(x1:b)(x2:c)(x3:d):CallS R:=mkC [] hd l y (t x0 x1 x2 x3) 0 _ [] _ _ (z x0 x1 x2 x3)
abbrev mkq5 (t:a->b->c->d->e->T R)(r:R->AVal)(y:bo f:=by show _=_;kernel_rfl)(z:∀x0 x1 x2 x3 x4,pf f (t x0 x1 x2 x3 x4) [q x0,q x1,q x2,q x3,q x4] r X6:=by intros;show _=_;kernel_rfl)(x0:a)(x1:b)(x2:c)(x3:d)(x4:e):CallS R:=mkC [] hd l y (t x0 x1 x2 x3 x4) 0 _ [] _ _ (z x0 x1 x2 x3 x4)
abbrev mkq6 (t:a->b->c->d->e->g->T R)(r:R->AVal)(y:bo f:=by show _=_;kernel_rfl)(z:∀x0 x1 x2 x3 x4 x5,pf f (t x0 x1 x2 x3 x4 x5) [q x0,q x1,q x2,q x3,q x4,q x5] r X6:=by intros;show _=_;kernel_rfl)(x0:a)(x1:b)(x2:c)(x3:d)(x4:e)(x5:g):CallS R:=mkC [] hd l y (t x0 x1 x2 x3 x4 x5) 0 _ [] _ _ (z x0 x1 x2 x3 x4 x5)
abbrev mkv1 (t:a->T R)(r:R->AVal)(m:R->Mem)(y:bo f:=by show _=_;kernel_rfl)(z:∀x0,pf f (t x0) [q x0] r m:=by intros;show _=_;kernel_rfl)(x0:a):CallS R:=mkC [] hd l y (t x0) 0 _ [] _ _ (z x0)
abbrev mkv2 (t:a->b->T R)(r:R->AVal)(m:R->Mem)(y:bo f:=by show _=_;kernel_rfl)(z:∀x0 x1,pf f (t x0 x1) [q x0,q x1] r m:=by intros;show _=_;kernel_rfl)(x0:a)(x1:b):CallS R:=mkC [] hd l y (t x0 x1) 0 _ [] _ _ (z x0 x1)
abbrev mkv3 (t:a->b->c->T R)(r:R->AVal)(m:R->Mem)(y:bo f:=by show _=_;kernel_rfl)(z:∀x0 x1 x2,pf f (t x0 x1 x2) [q x0,q x1,q x2] r m:=by intros;show _=_;kernel_rfl)(x0:a)(x1:b)(x2:c):CallS R:=mkC [] hd l y (t x0 x1 x2) 0 _ [] _ _ (z x0 x1 x2)
abbrev mkv5 (t:a->b->c->d->e->T R)(r:R->AVal)(m:R->Mem)(y:bo f:=by show _=_;kernel_rfl)(z:∀x0 x1 x2 x3 x4,pf f (t x0 x1 x2 x3 x4) [q x0,q x1,q x2,q x3,q x4] r m:=by intros;show _=_;kernel_rfl)(x0:a)(x1:b)(x2:c)(x3:d)(x4:e):CallS R:=mkC [] hd l y (t x0 x1 x2 x3 x4) 0 _ [] _ _ (z x0 x1 x2 x3 x4)
end
structure azs where
 XG:ByteArray
 Xn:Int
 XD:Int
 Xy:(Int×Int×Int)
 Lo:Int
 Hi:Int
 XQ:Int
 XU:Int
 XV:Int
 XR:Int
instance:Inhabited azs:=⟨⟨qu,qu,qu,qu,qu,qu,qu,qu,qu,qu⟩⟩
structure bzx where
 XA:Int
 XX:Int
 XO:(Int×Int×Int)
instance:Inhabited bzx:=⟨⟨qu,qu,qu⟩⟩
structure azk where
 Xc:(List azs)
 Xv:(List bzx)
instance:Inhabited azk:=⟨⟨qu,qu⟩⟩
structure azh where
 XA:Int
 XE:Int
 Xa:(List (Int×Int×Int))
instance:Inhabited azh:=⟨⟨qu,qu,qu⟩⟩
structure ezp where
 A:Int
 B:Int
instance:Inhabited ezp:=⟨⟨qu,qu⟩⟩
structure az7 where
 Xf:azk
 Xe:(List azh)
 Xr:(List ezp)
instance:Inhabited az7:=⟨⟨qu,qu,qu⟩⟩
structure bz2 where
 XG:ByteArray
 Xe:(List azh)
instance:Inhabited bz2:=⟨⟨qu,qu⟩⟩
structure ezo where
 XA:Int
 Xy:(Int×Int×Int)
instance:Inhabited ezo:=⟨⟨qu,qu⟩⟩
structure czq where
 Xu:Int
 Place:Int
 At:(List Int)
instance:Inhabited czq:=⟨⟨qu,qu,qu⟩⟩
structure az2 where
 Xl:az7
 Xd:(List bz2)
 Xh:(List (Int×Int×Int))
 Xi:(List ezo)
 Xk:(List czq)
 Xq:Int
instance:Inhabited az2:=⟨⟨qu,qu,qu,qu,qu,qu⟩⟩
structure azm where
 Xg:(List Int)
instance:Inhabited azm:=⟨⟨qu⟩⟩
structure aza where
 Xn:Int
 Xu:Int
 Place:Int
instance:Inhabited aza:=⟨⟨qu,qu,qu⟩⟩
structure ez7 where
 Xj:Int
 Xt:Int
 Xs:(List Int)
instance:Inhabited ez7:=⟨⟨qu,qu,qu⟩⟩
structure azr where
 XB:(List (Int×Int×Int))
 XH:(List ez7)
instance:Inhabited azr:=⟨⟨qu,qu⟩⟩
structure bzc where
 Xa:(List (List Int))
 Xb:(List azr)
instance:Inhabited bzc:=⟨⟨qu,qu⟩⟩
structure aze where
 Xp:aza
 XL:Int
 Path:bzc
instance:Inhabited aze:=⟨⟨qu,qu,qu⟩⟩
structure cz5 where
 XF:Int
 XJ:Int
 Xj:Int
 XM:Int
instance:Inhabited cz5:=⟨⟨qu,qu,qu,qu⟩⟩
structure azb where
 where_:(Int×Int×Int×Int×Int×Int)
 last:Int
 action:aza
instance:Inhabited azb:=⟨⟨qu,qu,qu⟩⟩
structure tzo where
 XS:azm
 Xp:aza
instance:Inhabited tzo:=⟨⟨qu,qu⟩⟩
structure fzn where
 in_:(Int×Int×Int×Int×Int×Int)
 by_:aza
instance:Inhabited fzn:=⟨⟨qu,qu⟩⟩
structure bzv where
 before:(Int×Int×Int×Int×Int×Int)
 by_:aza
instance:Inhabited bzv:=⟨⟨qu,qu⟩⟩
structure az0 where
 Lo:Int
 Hi:Int
instance:Inhabited az0:=⟨⟨qu,qu⟩⟩
structure bz4 where
 R:((az0×az0×az0)×(az0×az0×az0)×(az0×az0×az0))
 T:(az0×az0×az0)
instance:Inhabited bz4:=⟨⟨qu,qu⟩⟩
structure czi where
 A:Int
 B:Int
instance:Inhabited czi:=⟨⟨qu,qu⟩⟩
structure czt where
 shapes:(List azh)
 pairs:(List czi)
 points:(List (List (az0×az0×az0)))
instance:Inhabited czt:=⟨⟨qu,qu,qu⟩⟩
structure bze where
 XP:Int
 Left:(List Int)
 XK:(List Int)
instance:Inhabited bze:=⟨⟨qu,qu,qu⟩⟩
structure ezx where
 Xn:Int
 Xm:(List (Int×Int×Int))
 Xw:bze
instance:Inhabited ezx:=⟨⟨qu,qu,qu⟩⟩
structure gz8 where
 a:(List (az0×az0×az0))
 b:(List (az0×az0×az0))
 ra:Int
 rb:Int
instance:Inhabited gz8:=⟨⟨qu,qu,qu,qu⟩⟩
structure fzr where
 points:(List (az0×az0×az0))
 radius:Int
instance:Inhabited fzr:=⟨⟨qu,qu⟩⟩
structure ezz where
 a:fzr
 b:fzr
instance:Inhabited ezz:=⟨⟨qu,qu⟩⟩
structure ezw where
 Xn:Int
 XN:(Int×Int×Int)
 Left:(List Int)
 XK:(List Int)
 Steps:Int
instance:Inhabited ezw:=⟨⟨qu,qu,qu,qu,qu⟩⟩
structure izz where
 points:(List (Int×Int×Int))
 weights:(List Int)
instance:Inhabited izz:=⟨⟨qu,qu⟩⟩
structure nzk where
 list:izz
instance:Inhabited nzk:=⟨⟨qu⟩⟩
structure kzm where
 list:izz
instance:Inhabited kzm:=⟨⟨qu⟩⟩
structure rze where
 left:nzk
 right:kzm
 normal:(Int×Int×Int)
 rounds:Int
instance:Inhabited rze:=⟨⟨qu,qu,qu,qu⟩⟩
structure izs where
 witness:bze
instance:Inhabited izs:=⟨⟨qu⟩⟩
structure bzo where
 normals:(List (Int×Int×Int))
instance:Inhabited bzo:=⟨⟨qu⟩⟩
structure az6 where
 Xj:Int
 Xt:Int
 Xm:(List (Int×Int×Int))
instance:Inhabited az6:=⟨⟨qu,qu,qu⟩⟩
structure azo where
 Xn:Int
 XC:(List az6)
 At:az6
 Xw:bze
instance:Inhabited azo:=⟨⟨qu,qu,qu,qu⟩⟩
structure az1 where
 U:Int
 V:Int
 Xo:Int
 Xx:Int
 XI:azo
instance:Inhabited az1:=⟨⟨qu,qu,qu,qu,qu⟩⟩
structure azc where
 Xa:(List (List Int))
 Xb:(List az1)
instance:Inhabited azc:=⟨⟨qu,qu⟩⟩
structure bzd where
 XO:Int
 XT:Int
 XZ:Int
 XY:Int
instance:Inhabited bzd:=⟨⟨qu,qu,qu,qu⟩⟩
structure dzh where
 joints:(List azs)
 points:(List (List Int))
 tree:(List bzd)
 q:(List Int)
instance:Inhabited dzh:=⟨⟨qu,qu,qu,qu⟩⟩
structure dz1 where
 Xz:(List Int)
 Xo:Int
instance:Inhabited dz1:=⟨⟨qu,qu⟩⟩
structure azi where
 to:Int
 cost:Int
instance:Inhabited azi:=⟨⟨qu,qu⟩⟩
structure azj where
 cost:Int
 points:Int
instance:Inhabited azj:=⟨⟨qu,qu⟩⟩
structure azp where
 rank:azj
 point:Int
instance:Inhabited azp:=⟨⟨qu,qu⟩⟩
structure yzd where
 scene:az7
 depth:Int
instance:Inhabited yzd:=⟨⟨qu,qu⟩⟩
structure bzs where
 scene:az7
 p:(List Int)
 q:(List Int)
 pieces:(List az6)
instance:Inhabited bzs:=⟨⟨qu,qu,qu,qu⟩⟩
structure yzc where
 list:(List Int)
 next:Int
instance:Inhabited yzc:=⟨⟨qu,qu⟩⟩
structure azy where
 mode:azm
 before:Int
 action:aza
 depth:Int
instance:Inhabited azy:=⟨⟨qu,qu,qu,qu⟩⟩
structure azw where
 points:(List (az0×az0×az0))
 radius:Int
instance:Inhabited azw:=⟨⟨qu,qu⟩⟩
structure azf where
 Xo:Int
 Xb:Int
instance:Inhabited azf:=⟨⟨qu,qu⟩⟩
structure azt where
 depth:Int
 index:Int
 hints:(List (Int×Int×Int))
instance:Inhabited azt:=⟨⟨qu,qu,qu⟩⟩
abbrev A0:=List azs
abbrev A1:=List ezo
abbrev A2:=List azh
abbrev A3:=List bz2
abbrev A4:=List Int
abbrev A5:=List A4
abbrev A6:=A4×A4
abbrev A7:=List czq
abbrev A8:=List bzx
abbrev A9:=List aza
abbrev Aa:=A9×Int
abbrev Ab:=List tzo
abbrev Ac:=A2×Int
abbrev Ad:=List ezp
abbrev Ae:=List az0
abbrev Af:=Ae×Int
abbrev Ag:=List bz4
abbrev Ah:=A4×Int
abbrev Ai:=List czi
abbrev Aj:=Ai×Int
abbrev Ak:=List bzd
abbrev Al:=List az1
abbrev Am:=Al×Int
abbrev An:=List az6
abbrev Ao:=An×Int
abbrev Ap:=A5×Int
abbrev Aq:=List azi
abbrev Ar:=List Aq
abbrev As:=List azp
abbrev Au:=List azj
abbrev Av:=List ez7
abbrev Aw:=List azr
abbrev Ax:=List aze
abbrev Ay:=List azy
abbrev Az:=List azw
abbrev B0:=List azf
abbrev B1:=List azt
abbrev B2:=Int×Int
abbrev B3:=List B2
abbrev B4:=Nat×Nat
abbrev B6:=List (B2×Bool)
abbrev B8:=List (azb×aze)
abbrev B9:=B0×Bool
abbrev Bb:=List (fzn×Bool)
abbrev Bc:=Int×Bool
abbrev Bd:=Int×A4×Ak
abbrev Be:=Int×A4×A4
abbrev Bf:=A4×A4×Int
abbrev Bg:=A5×Al×Bool
abbrev Bh:=Int×Int×Int
abbrev Bi:=List Bh
abbrev Bj:=Bi×Int
abbrev Bk:=Bh×Int
abbrev Bl:=Bh×Bool
abbrev Bm:=az0×az0×az0
abbrev Bn:=List Bm
abbrev Bo:=List Bn
abbrev Bp:=Bm×Bm×Bm
abbrev Bq:=Bool×Int×Int
abbrev Br:=Int×Int×Bool
abbrev Bs:=bzc×Int×Bool
abbrev Bt:=Bool×Bool×Bool
abbrev Bu:=A4×Int×A7×Int
abbrev Bv:=A4×Int×A4×Int
abbrev Bw:=Int×A4×Int×Int
abbrev Bx:=Int×Int×Int×Int
abbrev By:=Bool×ByteArray×A2
abbrev Bz:=azc×dz1×Int×Int
abbrev C0:=Bool×Bool×Bool×Bool
abbrev C1:=Int×Int×Int×Int×Int
abbrev C2:=A4×B8×A4×Ax×Int×Int
abbrev C3:=Int×Int×Int×Int×Int×Int
abbrev C4:=List C3
abbrev C5:=C3×bzv
abbrev C6:=List C5
abbrev C7:=C6×C4×Int
abbrev C8:=Bool×Bh×Bn×Bn×Int×Int×Bi
abbrev C9:=B8×Int×Int×Int×Int×A5×Aw
abbrev Ca:=Int×Int×Int×Int×Int×Int×Int×Int×Int×Int
abbrev Cb:=Ca×Bool
abbrev Cc:=Int×Int×Int×Int×Int×Int×Int×Int×Int×Int×Int
abbrev Cd:=Bool×An×Int×An×Int×Int×Bi×Int×A4×A4×A4×A4×A0×A8×A2×Ad×Int
abbrev Ce:=Int×Int×Int×Int×Int×Int×Int×Int×Int×Int×Int×Int×Int×Int×Int×Int×Int×Int×Int×Int×Int×Int×Int×Int
def rzp (v:azs):PVal:=.agg [.str v.XG,jP v.Xn,jP v.XD,jP v.Xy.1,jP v.Xy.2.1,jP v.Xy.2.2,jP v.Lo,jP v.Hi,jP v.XQ,jP v.XU,jP v.XV,jP v.XR]
def Fzi (v:bzx):PVal:=.agg [jP v.XA,jP v.XX,jP v.XO.1,jP v.XO.2.1,jP v.XO.2.2]
def aza1 (v:azk):PVal:=.agg [encL 12 rzp v.Xc,encL 5 Fzi v.Xv]
def azv (v:Bh):PVal:=.agg [jP v.1,jP v.2.1,jP v.2.2]
def oz3 (v:azh):PVal:=.agg [jP v.XA,jP v.XE,encL 3 azv v.Xa]
def Jzi (v:ezp):PVal:=.agg [jP v.A,jP v.B]
def aza3 (v:az7):PVal:=.agg [encL 12 rzp v.Xf.Xc,encL 5 Fzi v.Xf.Xv,encL 3 oz3 v.Xe,encL 2 Jzi v.Xr]
def Mzb (v:bz2):PVal:=.agg [.str v.XG,encL 3 oz3 v.Xe]
def az5t (v:ezo):PVal:=.agg [jP v.XA,jP v.Xy.1,jP v.Xy.2.1,jP v.Xy.2.2]
def az5s (v:czq):PVal:=.agg [jP v.Xu,jP v.Place,encL 1 bz6 v.At]
def Xz1 (v:az2):PVal:=.agg [encL 12 rzp v.Xl.Xf.Xc,encL 5 Fzi v.Xl.Xf.Xv,encL 3 oz3 v.Xl.Xe,encL 2 Jzi v.Xl.Xr,encL 2 Mzb v.Xd,encL 3 azv v.Xh,encL 4 az5t v.Xi,encL 3 az5s v.Xk,jP v.Xq]
def azem (v:azm):PVal:=.agg [encL 1 bz6 v.Xg]
def Vzt (v:aza):PVal:=.agg [jP v.Xn,jP v.Xu,jP v.Place]
def aza4 (v:ez7):PVal:=.agg [jP v.Xj,jP v.Xt,encL 1 bz6 v.Xs]
def xzl (v:azr):PVal:=.agg [encL 3 azv v.XB,encL 3 aza4 v.XH]
def azen (v:bzc):PVal:=.agg [encL 1 (encL 1 bz6) v.Xa,encL 2 xzl v.Xb]
def bzp (v:aze):PVal:=.agg [jP v.Xp.Xn,jP v.Xp.Xu,jP v.Xp.Place,jP v.XL,encL 1 (encL 1 bz6) v.Path.Xa,encL 2 xzl v.Path.Xb]
def az7p (v:cz5):PVal:=.agg [jP v.XF,jP v.XJ,jP v.Xj,jP v.XM]
def Bzy (v:azb):PVal:=.agg [jP v.where_.1,jP v.where_.2.1,jP v.where_.2.2.1,jP v.where_.2.2.2.1,jP v.where_.2.2.2.2.1,jP v.where_.2.2.2.2.2,jP v.last,jP v.action.Xn,jP v.action.Xu,jP v.action.Place]
def az4 (v:azb):List PVal:=[jP v.where_.1,jP v.where_.2.1,jP v.where_.2.2.1,jP v.where_.2.2.2.1,jP v.where_.2.2.2.2.1,jP v.where_.2.2.2.2.2,jP v.last,jP v.action.Xn,jP v.action.Xu,jP v.action.Place]
def aza0 (v:tzo):PVal:=.agg [encL 1 bz6 v.XS.Xg,jP v.Xp.Xn,jP v.Xp.Xu,jP v.Xp.Place]
def az0i (v:fzn):PVal:=.agg [jP v.in_.1,jP v.in_.2.1,jP v.in_.2.2.1,jP v.in_.2.2.2.1,jP v.in_.2.2.2.2.1,jP v.in_.2.2.2.2.2,jP v.by_.Xn,jP v.by_.Xu,jP v.by_.Place]
def dzm (v:fzn):List PVal:=[jP v.in_.1,jP v.in_.2.1,jP v.in_.2.2.1,jP v.in_.2.2.2.1,jP v.in_.2.2.2.2.1,jP v.in_.2.2.2.2.2,jP v.by_.Xn,jP v.by_.Xu,jP v.by_.Place]
def bzu (v:bzv):PVal:=.agg [jP v.before.1,jP v.before.2.1,jP v.before.2.2.1,jP v.before.2.2.2.1,jP v.before.2.2.2.2.1,jP v.before.2.2.2.2.2,jP v.by_.Xn,jP v.by_.Xu,jP v.by_.Place]
def Xz2 (v:C3):PVal:=.agg [jP v.1,jP v.2.1,jP v.2.2.1,jP v.2.2.2.1,jP v.2.2.2.2.1,jP v.2.2.2.2.2]
def azl (v:C3):List PVal:=[jP v.1,jP v.2.1,jP v.2.2.1,jP v.2.2.2.1,jP v.2.2.2.2.1,jP v.2.2.2.2.2]
def uz4 (v:az0):PVal:=.agg [jP v.Lo,jP v.Hi]
def az5v (v:bz4):PVal:=.agg [jP v.R.1.1.Lo,jP v.R.1.1.Hi,jP v.R.1.2.1.Lo,jP v.R.1.2.1.Hi,jP v.R.1.2.2.Lo,jP v.R.1.2.2.Hi,jP v.R.2.1.1.Lo,jP v.R.2.1.1.Hi,jP v.R.2.1.2.1.Lo,jP v.R.2.1.2.1.Hi,jP v.R.2.1.2.2.Lo,jP v.R.2.1.2.2.Hi,jP v.R.2.2.1.Lo,jP v.R.2.2.1.Hi,jP v.R.2.2.2.1.Lo,jP v.R.2.2.2.1.Hi,jP v.R.2.2.2.2.Lo,jP v.R.2.2.2.2.Hi,jP v.T.1.Lo,jP v.T.1.Hi,jP v.T.2.1.Lo,jP v.T.2.1.Hi,jP v.T.2.2.Lo,jP v.T.2.2.Hi]
def Rzf (v:Bx):PVal:=.agg [jP v.1,jP v.2.1,jP v.2.2.1,jP v.2.2.2]
def Gz3 (v:Bp):PVal:=.agg [jP v.1.1.Lo,jP v.1.1.Hi,jP v.1.2.1.Lo,jP v.1.2.1.Hi,jP v.1.2.2.Lo,jP v.1.2.2.Hi,jP v.2.1.1.Lo,jP v.2.1.1.Hi,jP v.2.1.2.1.Lo,jP v.2.1.2.1.Hi,jP v.2.1.2.2.Lo,jP v.2.1.2.2.Hi,jP v.2.2.1.Lo,jP v.2.2.1.Hi,jP v.2.2.2.1.Lo,jP v.2.2.2.1.Hi,jP v.2.2.2.2.Lo,jP v.2.2.2.2.Hi]
def cz6 (v:Bm):PVal:=.agg [jP v.1.Lo,jP v.1.Hi,jP v.2.1.Lo,jP v.2.1.Hi,jP v.2.2.Lo,jP v.2.2.Hi]
def az5u (v:czi):PVal:=.agg [jP v.A,jP v.B]
def Mzc (v:czt):PVal:=.agg [encL 3 oz3 v.shapes,encL 2 az5u v.pairs,encL 1 (encL 6 cz6) v.points]
def az3k (v:bze):PVal:=.agg [jP v.XP,encL 1 bz6 v.Left,encL 1 bz6 v.XK]
def az3j (v:ezx):PVal:=.agg [jP v.Xn,encL 3 azv v.Xm,jP v.Xw.XP,encL 1 bz6 v.Xw.Left,encL 1 bz6 v.Xw.XK]
def Iz1 (v:gz8):PVal:=.agg [encL 6 cz6 v.a,encL 6 cz6 v.b,jP v.ra,jP v.rb]
def Uzi (v:fzr):PVal:=.agg [encL 6 cz6 v.points,jP v.radius]
def Rzi (v:ezz):PVal:=.agg [encL 6 cz6 v.a.points,jP v.a.radius,encL 6 cz6 v.b.points,jP v.b.radius]
def az3h (v:ezw):PVal:=.agg [jP v.Xn,jP v.XN.1,jP v.XN.2.1,jP v.XN.2.2,encL 1 bz6 v.Left,encL 1 bz6 v.XK,jP v.Steps]
def Pz6 (v:izz):PVal:=.agg [encL 3 azv v.points,encL 1 bz6 v.weights]
def Pz5 (v:nzk):PVal:=.agg [encL 3 azv v.list.points,encL 1 bz6 v.list.weights]
def Mzd (v:kzm):PVal:=.agg [encL 3 azv v.list.points,encL 1 bz6 v.list.weights]
def Mze (v:rze):PVal:=.agg [encL 3 azv v.left.list.points,encL 1 bz6 v.left.list.weights,encL 3 azv v.right.list.points,encL 1 bz6 v.right.list.weights,jP v.normal.1,jP v.normal.2.1,jP v.normal.2.2,jP v.rounds]
def Bzx (v:izs):PVal:=.agg [jP v.witness.XP,encL 1 bz6 v.witness.Left,encL 1 bz6 v.witness.XK]
def yzo (v:bzo):PVal:=.agg [encL 3 azv v.normals]
def xzm (v:az6):PVal:=.agg [jP v.Xj,jP v.Xt,encL 3 azv v.Xm]
def Uzh (v:azo):PVal:=.agg [jP v.Xn,encL 3 xzm v.XC,jP v.At.Xj,jP v.At.Xt,encL 3 azv v.At.Xm,jP v.Xw.XP,encL 1 bz6 v.Xw.Left,encL 1 bz6 v.Xw.XK]
def gzd (v:az1):PVal:=.agg [jP v.U,jP v.V,jP v.Xo,jP v.Xx,jP v.XI.Xn,encL 3 xzm v.XI.XC,jP v.XI.At.Xj,jP v.XI.At.Xt,encL 3 azv v.XI.At.Xm,jP v.XI.Xw.XP,encL 1 bz6 v.XI.Xw.Left,encL 1 bz6 v.XI.Xw.XK]
def az3i (v:azc):PVal:=.agg [encL 1 (encL 1 bz6) v.Xa,encL 12 gzd v.Xb]
def Pz4 (v:Ca):PVal:=.agg [jP v.1,jP v.2.1,jP v.2.2.1,jP v.2.2.2.1,jP v.2.2.2.2.1,jP v.2.2.2.2.2.1,jP v.2.2.2.2.2.2.1,jP v.2.2.2.2.2.2.2.1,jP v.2.2.2.2.2.2.2.2.1,jP v.2.2.2.2.2.2.2.2.2]
def czk (v:Ca):List PVal:=[jP v.1,jP v.2.1,jP v.2.2.1,jP v.2.2.2.1,jP v.2.2.2.2.1,jP v.2.2.2.2.2.1,jP v.2.2.2.2.2.2.1,jP v.2.2.2.2.2.2.2.1,jP v.2.2.2.2.2.2.2.2.1,jP v.2.2.2.2.2.2.2.2.2]
def Vzu (v:bzd):PVal:=.agg [jP v.XO,jP v.XT,jP v.XZ,jP v.XY]
def Iz2 (v:dzh):PVal:=.agg [encL 12 rzp v.joints,encL 1 (encL 1 bz6) v.points,encL 4 Vzu v.tree,encL 1 bz6 v.q]
def Jzj (v:B2):PVal:=.agg [jP v.1,jP v.2]
def czv (v:B2):List PVal:=[jP v.1,jP v.2]
def aza2 (v:dz1):PVal:=.agg [encL 1 bz6 v.Xz,jP v.Xo]
def fzc (v:azi):PVal:=.agg [jP v.to,jP v.cost]
def Czo (v:azj):PVal:=.agg [jP v.cost,jP v.points]
def Bzf (v:azp):PVal:=.agg [jP v.rank.cost,jP v.rank.points,jP v.point]
def Rzh (v:yzd):PVal:=.agg [encL 12 rzp v.scene.Xf.Xc,encL 5 Fzi v.scene.Xf.Xv,encL 3 oz3 v.scene.Xe,encL 2 Jzi v.scene.Xr,jP v.depth]
def Gz4 (v:bzs):PVal:=.agg [encL 12 rzp v.scene.Xf.Xc,encL 5 Fzi v.scene.Xf.Xv,encL 3 oz3 v.scene.Xe,encL 2 Jzi v.scene.Xr,encL 1 bz6 v.p,encL 1 bz6 v.q,encL 3 xzm v.pieces]
def mzf (v:Bh):List PVal:=[jP v.1,jP v.2.1,jP v.2.2]
def Rzg (v:yzc):PVal:=.agg [encL 1 bz6 v.list,jP v.next]
def Uzk (v:azy):PVal:=.agg [encL 1 bz6 v.mode.Xg,jP v.before,jP v.action.Xn,jP v.action.Xu,jP v.action.Place,jP v.depth]
def Uzj (v:azw):PVal:=.agg [encL 6 cz6 v.points,jP v.radius]
def Czn (v:azf):PVal:=.agg [jP v.Xo,jP v.Xb]
def rzq (v:azt):PVal:=.agg [jP v.depth,jP v.index,encL 3 azv v.hints]
def jzh (v:Cc):PVal:=.agg [jP v.1,jP v.2.1,jP v.2.2.1,jP v.2.2.2.1,jP v.2.2.2.2.1,jP v.2.2.2.2.2.1,jP v.2.2.2.2.2.2.1,jP v.2.2.2.2.2.2.2.1,jP v.2.2.2.2.2.2.2.2.1,jP v.2.2.2.2.2.2.2.2.2.1,jP v.2.2.2.2.2.2.2.2.2.2]
instance:En azs:=⟨12,rzp⟩
instance:En bzx:=⟨5,Fzi⟩
instance:En azk:=⟨2,aza1⟩
instance:En azh:=⟨3,oz3⟩
instance:En ezp:=⟨2,Jzi⟩
instance:En az7:=⟨4,aza3⟩
instance:En bz2:=⟨2,Mzb⟩
instance:En ezo:=⟨4,az5t⟩
instance:En czq:=⟨3,az5s⟩
instance:En az2:=⟨9,Xz1⟩
instance:En azm:=⟨1,azem⟩
instance:En aza:=⟨3,Vzt⟩
instance:En ez7:=⟨3,aza4⟩
instance:En azr:=⟨2,xzl⟩
instance:En bzc:=⟨2,azen⟩
instance:En aze:=⟨6,bzp⟩
instance:En Bh:=⟨3,azv⟩
instance:En cz5:=⟨4,az7p⟩
instance:En azb:=⟨10,Bzy⟩
instance:En tzo:=⟨4,aza0⟩
instance:En fzn:=⟨9,az0i⟩
instance:En bzv:=⟨9,bzu⟩
instance:En C3:=⟨6,Xz2⟩
instance:En az0:=⟨2,uz4⟩
instance:En bz4:=⟨24,az5v⟩
instance:En Bx:=⟨4,Rzf⟩
instance:En Bp:=⟨18,Gz3⟩
instance:En Bm:=⟨6,cz6⟩
instance:En czi:=⟨2,az5u⟩
instance:En czt:=⟨3,Mzc⟩
instance:En bze:=⟨3,az3k⟩
instance:En ezx:=⟨5,az3j⟩
instance:En gz8:=⟨4,Iz1⟩
instance:En fzr:=⟨2,Uzi⟩
instance:En ezz:=⟨4,Rzi⟩
instance:En ezw:=⟨7,az3h⟩
instance:En izz:=⟨2,Pz6⟩
instance:En nzk:=⟨2,Pz5⟩
instance:En kzm:=⟨2,Mzd⟩
instance:En rze:=⟨8,Mze⟩
instance:En izs:=⟨3,Bzx⟩
instance:En bzo:=⟨1,yzo⟩
instance:En az6:=⟨3,xzm⟩
instance:En azo:=⟨8,Uzh⟩
instance:En az1:=⟨12,gzd⟩
instance:En azc:=⟨2,az3i⟩
instance:En Ca:=⟨10,Pz4⟩
instance:En bzd:=⟨4,Vzu⟩
instance:En dzh:=⟨4,Iz2⟩
instance:En B2:=⟨2,Jzj⟩
instance:En dz1:=⟨2,aza2⟩
instance:En azi:=⟨2,fzc⟩
instance:En azj:=⟨2,Czo⟩
instance:En azp:=⟨3,Bzf⟩
instance:En yzd:=⟨5,Rzh⟩
instance:En bzs:=⟨7,Gz4⟩
instance:En yzc:=⟨2,Rzg⟩
instance:En azy:=⟨6,Uzk⟩
instance:En azw:=⟨2,Uzj⟩
instance:En azf:=⟨2,Czn⟩
instance:En azt:=⟨3,rzq⟩
theorem gq20 (a b:Nat){f:FuncId}{fn:Func}(q:prog.funcs[f]?=some fn)(h:(fn.name== "runtime.NumGoroutine")=false:=by kernel_rfl)(h1:fn.body=some (.seq (.region 0 #[((gOps fn).getD 0 qu),((gOps fn).getD 1 qu)] false) (.cond (.tmp b) (gX fn) .skip)):=by kernel_rfl)(h2:((gOps fn).getD 0 qu).op=.call (gC ((gOps fn).getD 0 qu)):=by kernel_rfl)(h3:(gC ((gOps fn).getD 0 qu)).callee=.builtin .recover:=by kernel_rfl)(h4:((gOps fn).getD 0 qu).dst=some a:=by kernel_rfl)(h5:((gOps fn).getD 0 qu).guard=none:=by kernel_rfl)(h6:((gOps fn).getD 1 qu).op=.binOp .neq 20 (.tmp a) (.const .nilIface) 20:=by kernel_rfl)(h7:((gOps fn).getD 1 qu).dst=some b:=by kernel_rfl)(h8:((gOps fn).getD 1 qu).guard=none:=by kernel_rfl)(h9:a<fn.ntmps:=by decide)(h10:b<fn.ntmps:=by decide)(h11:fn.results=#[]:=by kernel_rfl):GuardFn prog f:=
 az7v q h ⟨0,_,_,a,b,gX fn,_,20,20,h1,h2,h3,h4,h5,h6,h7,h8,⟨gMs (prog.underlying 20),jJ⟩,h9,h10,h11⟩
theorem azex:GuardFn prog 157:=
 gq20 2 3 func157
theorem azey:GuardFn prog 219:=
 gq20 2 3 func219
theorem azez:GuardFn prog 220:=
 gq20 2 3 func220
theorem azf0:GuardFn prog 281:=
 gq20 1 2 func281
theorem azf1:GuardFn prog 286:=
 gq20 4 5 func286
theorem azf2:GuardFn prog 290:=
 gq20 1 2 func290
theorem azf3:GuardFn prog 294:=
 gq20 2 3 func294
theorem azf4:GuardFn prog 319:=
 gq20 1 2 func319
theorem azf5:GuardFn prog 328:=
 gq20 1 2 func328
theorem azf6:GuardFn prog 336:=
 gq20 2 3 func336
theorem azf7:GuardFn prog 337:=
 gq20 1 2 func337
theorem azf8:GuardFn prog 338:=
 gq20 2 3 func338
theorem azf9:GuardFn prog 341:=
 gq20 3 4 func341
theorem azfa:GuardFn prog 344:=
 gq20 2 3 func344
theorem azfb:GuardFn prog 374:=
 gq20 2 3 func374
theorem az65:GuardFn prog 384:=
 gq20 2 3 func384
theorem azfc:GuardFn prog 394:=
 gq20 1 2 func394
theorem azfd:GuardFn prog 396:=
 gq20 1 2 func396
theorem azfe:GuardFn prog 402:=
 gq20 1 2 func402
theorem azff:GuardFn prog 418:=
 gq20 1 2 func418
theorem azfg:GuardFn prog 496:=
 gq20 1 2 func496
def zzh (j:Int):T ByteArray:=let aa:=qt.wrap (j+1);.grd (0<=j/\j<=aa/\aa<=(((⟨#[97,98,99,100,101,102,103,104,105,106]⟩:ByteArray).size:Nat):Int))<|.jE ((⟨#[97,98,99,100,101,102,103,104,105,106]⟩:ByteArray).extract j.toNat aa.toNat)
def zzg:=
 mkp1 func30 zzh
def Yz3 (j:Int)(aa:Int):T azk:=
 .loop (λs (ab:(A0×Int))=>pk s [0,1,4,5] [0,1,2,64,66] [(6,pz ab.2)] [(65,vO ab.1 113)]) (.exit 0) (λs (ab:A0)=>pk s [4,5] [0,1,2,64,66] [] [(65,vO ab 113)]) (λab=>.jR (ab.2<j) (.cc (zzg ab.2) λac=>let ad:=([(⟨ac,(qt.wrap (4+(ab.2.tmod 2))),(qt.wrap (ab.2-1)),(0,0,0),0,aa,1,65536,65536,65536⟩:azs)]:A0);let ae:=ab.1.length+ad.length;
 .ok ((2:Int)≠0) jF<|.conv 5011 (kL ad 113)<|.conv 5012 (kA ab.1 ad 113)<|.grd (ae * 104<=140737488355328/\ae<=maxLen)<|.nn ((ab.1++ad),(qt.wrap (ab.2+1)))) (.oo ab.1)) (nl,0) [] λab=>.jE (⟨ab,nl⟩:azk)
def zzf:=
 mkp2 func28 Yz3
def az49:T az2:=
 .cc (zzf 2 64) λj=>.conv 3002 (kL ([(16,0,0),(32,0,0)]:Bi) 89)<|.conv 4001 (kL ([(⟨1,(0,0,0)⟩:ezo)]:A1) 93)<|.conv 5001 (kL ([(0,0,0)]:Bi) 89)<|.conv 5003 (kL ([(⟨0,1,([(0,0,0)]:Bi)⟩:azh)]:A2) 91)<|.conv 5005 (kL ([(⟨(⟨#[111]⟩:ByteArray),([(⟨0,1,([(0,0,0)]:Bi)⟩:azh)]:A2)⟩:bz2)]:A3) 87)<|.conv 6000 (kL ([16,0]:A4) 2)<|.conv 6002 (kL ([32,0]:A4) 2)<|.conv 6004 (kL ([(⟨0,0,([16,0]:A4)⟩:czq),(⟨0,1,([32,0]:A4)⟩:czq)]:A7) 110)<|.jE (⟨(⟨j,nl,nl⟩:az7),([(⟨(⟨#[111]⟩:ByteArray),([(⟨0,1,([(0,0,0)]:Bi)⟩:azh)]:A2)⟩:bz2)]:A3),([(16,0,0),(32,0,0)]:Bi),([(⟨1,(0,0,0)⟩:ezo)]:A1),([(⟨0,0,([16,0]:A4)⟩:czq),(⟨0,1,([32,0]:A4)⟩:czq)]:A7),0⟩:az2)
def law39_one_C:CallS az2:=
 mkD func25 (az49) 0 [] [] (λr=>q r) X6
def Dzb (j:Int)(aa:Int):T Int:=let ab:=j.tmod aa;.grd (aa≠0)<|.cut 0 (λs (ac:Int)=>pk s [] [] [(5,pz ac)] []) (.jR (ab<0) (.oo (qt.wrap (ab+aa))) (.oo ab)) λac=>.jE ac
def gzq:=
 mkp2 func17 Dzb
def Uzo (j:Int)(aa:Int):T cz5:=
 .cc (gzq j 4) λab=>.cc (gzq aa 20) λac=>.jE (⟨ab,3,4,ac⟩:cz5)
def hzc:=
 mkp2 func13 Uzo
def qz7 (j:Int):T Bool:=
 .jR (97<=j) (.jE (qv (j<=122))) (.jE false)
def Bzw (j):=
 mkD func136 (qz7 j) 0 [.pure (.int .i32 j)] [] (λr=>q r) X6
def tzm (j:Int):T Bool:=
 .jR (48<=j) (.jE (qv (j<=57))) (.jE false)
def Fzb (j):=
 mkD func137 (tzm j) 0 [.pure (.int .i32 j)] [] (λr=>q r) X6
def Fza (j:ByteArray):T Bool:=let aa:=(j.size:Nat);.cub 2 16 [0] [] (.jS ((aa:Int)==0) (.jU ((aa:Int)>16) (.oo (j==(⟨#[119,111,114,108,100]⟩:ByteArray))))) λab=>.br ab (.jE false) (.loop (λs (ac:Nat)=>pk s [18] [] [] [(192,.iter j ac)]) (.exit 0) (jk [] []) (λac=>let ad:=Utf8.decode j ac;let ae:=(ad.1:Int);.brP (ac<j.size) (.cub 2 38 [18] [192] (.cc (Bzw ae) λaf=>.jT (!af) (.jS ((ac:Int)==0) (.cc (Fzb ae) λag=>.jT (!ag) (.oo (ae !=95))))) λaf=>.br af (.ff false) (.nn (ac+ad.2))) (.oo .u))
 0 [] λ_=>.jE true)
def Fz9:=
 mkp1 func79 Fza
def Ezu (j:azk)(aa:ByteArray):T Int:=
 .loop (ik 9 [1,2,8] [0]) (.exit 0) (jk [] []) (λab=>.jR (ab<(j.Xc.length:Int)) (.gh ab j.Xc.length<|.br (((j.Xc.getD (ab.toNat) qu).XG)==aa) (.ff ab) (.nn (qt.wrap (ab+1)))) (.oo .u))
 0 [] λ_=>.jE (-1)
def Ozt:=
 mkp2 func202 Ezu
def wzz (j:Bh):T Bool:=
 .loop (ik 6 [5] []) (.exit 0) (jk [] []) (λaa=>let ab:=([j.1,j.2.1,j.2.2]:List Int).getD aa.toNat 0;.jR (aa<3) (.gh aa 3<|.cub 0 14 [5,6] [] (.jU (ab<(-4194304)) (.oo (qv (ab>4194304)))) λac=>.br ac (.ff true) (.nn (qt.wrap (aa+1)))) (.oo .u))
 0 [] λ_=>.jE false
def wzy:=
 mkp1 func203 wzz
def Azw (j:Int):T Int:=
 .cub 3 4 [3] [] (.br (j==1) (.oo (j==1)) (.br (j==2) (.oo (j==2)) (.oo (j==3)))) λaa=>.br aa (.jE 524288) (.cub 0 8 [] [] (.br (j==4) (.oo (j==4)) (.br (j==5) (.oo (j==5)) (.oo (j==6)))) λab=>.br ab (.jE 4194304) (.jE 0))
def Lz4:=
 mkp1 func204 Azw
def Azv (j:Int)(aa:Int):T Bool:=
 .jR (1<=j) (.jE (qv (j<=aa))) (.jE false)
def izm:=
 mkp2 func205 Azv
def lzk (j:azk)(aa:Int):T Int:=let ab:=j.Xc.getD (aa.toNat) qu;let ac:=ab.Xn;.gh aa j.Xc.length<|.cub 1 12 [1,5] [448] (.cc (Fz9 (ab.XG)) λad=>.jS (!ad) (.cc (Ozt (⟨j.Xc,j.Xv⟩:azk) (ab.XG)) λae=>.oo (ae !=aa))) λad=>.br ad (.jE 802) (.cub 0 25 [1,5] [448] (.jU (ac<0) (.oo (qv (ac>6)))) λae=>.br ae (.jE 803) (.cub 0 34 [5] [448] (.jU ((ab.XD)<(-1)) (.oo (qv ((ab.XD)>=aa)))) λaf=>.br af (.jE 804) (.cc (wzy (ab.Xy)) λag=>.br ag (.jE 805) (.cc (Lz4 ac) λah=>.cub 1 68 [5] [448] (.jU ((ab.Lo)>(ab.Hi)) (.jU ((ab.Lo)<(qt.wrap (0-ah))) (.oo (qv ((ab.Hi)>ah))))) λai=>.br ai (.jE 806) (.cub 1 90 [] [] (.cc (izm (ab.XQ) 1024) λaj=>.jS (!aj) (.cc (izm (ab.XU) 1048576) λak=>.jS (!ak) (.cc (izm (ab.XV) 1048576) λal=>.jS (!al) (.cc (izm (ab.XR) 1099511627776) λam=>.oo (!am))))) λaj=>.br aj (.jE 807) (.jE 0))))))
def uzv:=
 mkp2 func141 lzk
def nz8 (j:azk)(aa:bzx):T Bool:=
 .jR (0<=aa.XA) (.jR (aa.XA<(j.Xc.length:Int)) (.cc (izm aa.XX 65536) λab=>.br ab (.cc (wzy aa.XO) λac=>.jE (!ac)) (.jE false)) (.jE false)) (.jE false)
def xzy:=
 mkp2 func144 nz8
def tz2 (j:bzx)(aa:A0)(ab:A8):T (Bool×A0×A8):=
 .cc (xzy (⟨aa,ab⟩:azk) (⟨j.XA,j.XX,j.XO⟩:bzx)) λac=>.jE ((!ac),aa,ab)
def Ezt (j)(aa)(ab):=
 mkD func143 (tz2 j aa ab) 1 [q j,X7 0] [(0,.box [q aa,q ab])] (λr=>q r.1) (λr=>[(0,.box [q r.2.1,q r.2.2])])
def dze (j:A8)(aa:A0)(ab:A8):T (Int×A0×A8):=
 .loop (λs (ac:(A0×A8×Int))=>pk s [0,1,7] [] [(8,pz ac.2.2)] [(0,.box [q ac.1,q ac.2.1])]) (.exit 0) (λs (ac:(A0×A8))=>pk s [] [] [] [(0,.box [q ac.1,q ac.2])]) (λac=>.jR (ac.2.2<(j.length:Int)) (.gh ac.2.2 j.length<|.call (Ezt (j.getD (X3 ac.2.2) qu) ac.1 ac.2.1) [(0,0)] λad=>.br ad.1 (.ff (ac.2.2,ad.2.1,ad.2.2)) (.nn (ad.2.1,ad.2.2,(qt.wrap (ac.2.2+1))))) (.oo (ac.1,ac.2.1))) (aa,ab,0) [] λac=>.jE ((-1),ac.1,ac.2)
def fz8 (j)(aa)(ab):=
 mkD func206 (dze j aa ab) 1 [q j,.func 143 [] [X7 0]] [(0,.box [q aa,q ab])] (λr=>pz r.1) (λr=>[(0,.box [q r.2.1,q r.2.2])])
def czy (j:A8)(aa:A0)(ab:A8):T (Bool×A0×A8):=
 .call (fz8 j aa ab) [(0,0)] λac=>.jE ((qv (ac.1>=0)),ac.2.1,ac.2.2)
def ezj (j)(aa)(ab):=
 mkD func142 (czy j aa ab) 1 [q j,.func 143 [] [X7 0]] [(0,.box [q aa,q ab])] (λr=>q r.1) (λr=>[(0,.box [q r.2.1,q r.2.2])])
def Azt (j:azk):T Int:=let aa:=(j.Xc.length:Int);.cub 2 14 [1] [0] (.jS (aa==0) (.oo (qv (aa>10)))) λab=>.br ab (.jE 801) (.loop (ik 18 [1,17] [0]) (.exit 0) (jk [1] [0]) (λac=>.jR (ac<aa) (.cc (uzv (⟨j.Xc,j.Xv⟩:azk) ac) λad=>.br (ad !=0) (.ff ad) (.nn (qt.wrap (ac+1)))) (.oo .u))
 0 [] λ_=>.cub 1 37 [] [] (.jU ((j.Xv.length:Int)>32) (.call (ezj j.Xv j.Xc j.Xv) [(0,0)] λac=>.oo ac.1)) λac=>.br ac (.jE 808) (.jE 0))
def fz3:=
 mkp1 func83 Azt
def xz0 (j:az7)(aa:Int):T Bool:=
 .jR ((-1)<=aa) (.jE (qv (aa<(j.Xf.Xc.length:Int)))) (.jE false)
def oz0:=
 mkp2 func134 xz0
def lzo (j:az7)(aa:azh):T Int:=let ab:=(aa.Xa.length:Int);.cub 3 35 [3] [64] (.cc (oz0 j aa.XA) λac=>.jS (!ac) (.jU (aa.XE<1) (.jU (aa.XE>1048576) (.jU (ab<1) (.oo (qv (ab>8))))))) λac=>.br ac (.jE 902) (.loop (ik 39 [37,38] []) (.exit 0) (jk [] []) (λad=>let ae:=aa.Xa.getD (ad.toNat) qu;.jR (ad<ab) (.gh ad aa.Xa.length<|.loop (ik 44 [37,38,39,43] []) (.exit 2) (jk [37,38,39] []) (λaf=>.jR (af<3) (.gh af 3<|.name 9000 ((([ae.1,ae.2.1,ae.2.2]:List Int).getD af.toNat 0)) λag=>.cub 0 52 [37,38,39,43,44] [] (.jU (ag<(-4194304)) (.oo (qv (ag>4194304)))) λah=>.br ah (.ff (.fin 805)) (.nn (qt.wrap (af+1)))) (.oo .u))
 0 [] λ_=>.nn (qt.wrap (ad+1))) (.oo .u))
 0 [] λ_=>.jE 0)
def uzw:=
 mkp2 func133 lzo
def Azx (j:az7):T Int:=let aa:=(j.Xr.length:Int);let ab:=(j.Xe.length:Int);.cc (fz3 j.Xf) λac=>.br (ac !=0) (.jE ac) (.jR (ab>24) (.jE 901) (.loop (ik 22 [1,20,21] [0]) (.exit 0) (jk [1] [0]) (λad=>.jR (ad<ab) (.gh ad j.Xe.length<|.cc (uzw j (j.Xe.getD (ad.toNat) qu)) λae=>.br (ae !=0) (.ff ae) (.nn (qt.wrap (ad+1)))) (.oo .u))
 0 [] λ_=>.jR (aa>64) (.jE 903) (.loop (ik 40 [1,38,39] [0]) (.exit 2) (jk [] []) (λad=>let ae:=j.Xr.getD (ad.toNat) qu;.jR (ad<aa) (.gh ad j.Xr.length<|.cub 0 55 [1,38,39,40] [0] (.cc (oz0 j (ae.A)) λaf=>.jS (!af) (.cc (oz0 j (ae.B)) λag=>.oo (!ag))) λaf=>.br af (.ff 903) (.nn (qt.wrap (ad+1)))) (.oo .u))
 0 [] λ_=>.jE 0)))
def ezb:=
 mkp1 func76 Azx
def Dz1 (j:Bh):T Bool:=
 .unroll 4<|.jC<|.jq<|.jq<|.lit 6000 1<|.jC<|.jr<|.jr<|.lit 6000 2<|.jC<|.jt<|.jt<|.lit 6000 3<|.jD<|.jE (((min (max j.1 (-2097152)) 2097152)==j.1)&&(((min (max j.2.1 (-2097152)) 2097152)==j.2.1)&&(((min (max j.2.2 (-2097152)) 2097152)==j.2.2)&&true)))
def uz6:=
 mkp1 func135 Dz1
def zz2 (j:az2)(aa:Int)(ab:Int):T Bool:=
 .jR (0<=aa) (.jR (aa<(j.Xi.length:Int)) (.jR (0<=ab) (.jE (qv (ab<(j.Xh.length:Int)))) (.jE false)) (.jE false)) (.jE false)
def zz1:=
 mkp3 func91 zz2
def mzg (j:azs)(aa:Int):T Bool:=
 .jR (j.Lo<=aa) (.jE (qv (aa<=j.Hi))) (.jE false)
def xzi:=
 mkp2 func85 mzg
def ezf (j:A0)(aa:A4):T Bool:=let ab:=(j.length:Int);.br (ab !=(aa.length:Int)) (.jE false) (.loop (ik 16 [1,2,14,15] []) (.exit 0) (jk [] []) (λac=>.jR (ac<ab) (.gh ac j.length<|.gh ac aa.length<|.cc (xzi (j.getD (ac.toNat) qu) (aa.getD (ac.toNat) qu)) λad=>.br (!ad) (.ff false) (.nn (qt.wrap (ac+1)))) (.oo .u))
 0 [] λ_=>.jE true)
def gzp (j)(aa):=
 mkD func84 (ezf j aa) 0 [q j,q aa,.func 85 [] []] [] (λr=>q r) X6
def rzo (j:azk)(aa:A4):T Bool:=
 .cc (fz3 j) λab=>.br (ab==0) (.cc (gzp j.Xc aa) λac=>.jE ac) (.jE false)
def bzt:=
 mkp2 func41 rzo
def rzy (j:az2):T Bool:=let aa:=(j.Xi.length:Int);let ab:=(j.Xk.length:Int);let ac:=(j.Xh.length:Int);.cub 2 30 [1] [0] (.jU ((j.Xd.length:Int)>6) (.jU (ac>8) (.jU (aa>3) (.oo (qv (ab>32)))))) λad=>.br ad (.jE false) (.cub 1 38 [1] [0] (.jU (j.Xq<0) (.oo (qv (j.Xq>65536)))) λae=>.br ae (.jE false) (.loop (ik 42 [1,40,41] [0]) (.exit 0) (jk [1] [0]) (λaf=>.jR (af<ac) (.gh af j.Xh.length<|.cc (uz6 (j.Xh.getD (af.toNat) qu)) λag=>.br (!ag) (.ff false) (.nn (qt.wrap (af+1)))) (.oo .u))
 0 [] λ_=>.loop (ik 53 [1,51,52] [0]) (.exit 2) (jk [1] [0]) (λaf=>let ag:=j.Xi.getD (af.toNat) qu;.jR (af<aa) (.gh af j.Xi.length<|.cub 0 75 [1,51,52,53] [0] (.jU ((ag.XA)<0) (.jU ((ag.XA)>=(j.Xl.Xf.Xc.length:Int)) (.cc (uz6 (ag.Xy)) λah=>.oo (!ah)))) λah=>.br ah (.ff false) (.nn (qt.wrap (af+1)))) (.oo .u))
 0 [] λ_=>.loop (ik 80 [1,78,79] [0]) (.exit 4) (jk [] []) (λaf=>let ag:=j.Xk.getD (af.toNat) qu;.jR (af<ab) (.gh af j.Xk.length<|.cub 0 99 [1,78,79,80] [0] (.cc (zz1 (⟨j.Xl,j.Xd,j.Xh,j.Xi,j.Xk,j.Xq⟩:az2) (ag.Xu) (ag.Place)) λah=>.jS (!ah) (.cc (bzt j.Xl.Xf (ag.At)) λai=>.oo (!ai))) λah=>.br ah (.ff false) (.nn (qt.wrap (af+1)))) (.oo .u))
 0 [] λ_=>.jE true))
def rzx:=
 mkp1 func77 rzy
def Rzs (j:bz2)(aa:ByteArray)(ab:A2):T By:=
 .jE ((j.XG==aa),aa,ab)
def Dz0 (j)(aa)(ab):=
 mkD func78 (Rzs j aa ab) 1 [q j,X7 0] [(0,.box [q aa,q ab])] (λr=>q r.1) (λr=>[(0,.box [q r.2.1,q r.2.2])])
def czp (j:A3)(aa:ByteArray)(ab:A2):T (Int×ByteArray×A2):=
 .loop (λs (ac:(ByteArray×A2×Int))=>pk s [0,1,7] [] [(8,pz ac.2.2)] [(0,.box [q ac.1,q ac.2.1])]) (.exit 0) (λs (ac:(ByteArray×A2))=>pk s [] [] [] [(0,.box [q ac.1,q ac.2])]) (λac=>.jR (ac.2.2<(j.length:Int)) (.gh ac.2.2 j.length<|.call (Dz0 (j.getD (X3 ac.2.2) qu) ac.1 ac.2.1) [(0,0)] λad=>.br ad.1 (.ff (ac.2.2,ad.2.1,ad.2.2)) (.nn (ad.2.1,ad.2.2,(qt.wrap (ac.2.2+1))))) (.oo (ac.1,ac.2.1))) (aa,ab,0) [] λac=>.jE ((-1),ac.1,ac.2)
def ez6 (j)(aa)(ab):=
 mkD func138 (czp j aa ab) 1 [q j,.func 78 [] [X7 0]] [(0,.box [q aa,q ab])] (λr=>pz r.1) (λr=>[(0,.box [q r.2.1,q r.2.2])])
def czb (j:A3)(aa:ByteArray)(ab:A2):T By:=
 .call (ez6 j aa ab) [(0,0)] λac=>.jE ((qv (ac.1>=0)),ac.2.1,ac.2.2)
def dzu (j)(aa)(ab):=
 mkD func80 (czb j aa ab) 1 [q j,.func 78 [] [X7 0]] [(0,.box [q aa,q ab])] (λr=>q r.1) (λr=>[(0,.box [q r.2.1,q r.2.2])])
def Bz0 (j:azh):T Bool:=let aa:=(j.Xa.length:Int);.cub 2 26 [1] [0] (.jU (j.XE<1) (.jU (j.XE>1048576) (.jU (aa<1) (.oo (qv (aa>8)))))) λab=>.br ab (.jE false) (.loop (ik 30 [28,29] []) (.exit 0) (jk [] []) (λac=>let ad:=j.Xa.getD (ac.toNat) qu;.jR (ac<aa) (.gh ac j.Xa.length<|.loop (ik 35 [28,29,30,34] []) (.exit 2) (jk [28,29,30] []) (λae=>.jR (ae<3) (.gh ae 3<|.name 8000 ((([ad.1,ad.2.1,ad.2.2]:List Int).getD ae.toNat 0)) λaf=>.cub 0 43 [28,29,30,34,35] [] (.jU (af<(-4194304)) (.oo (qv (af>4194304)))) λag=>.br ag (.ff (.fin false)) (.nn (qt.wrap (ae+1)))) (.oo .u))
 0 [] λ_=>.nn (qt.wrap (ac+1))) (.oo .u))
 0 [] λ_=>.jE true)
def Azz:=
 mkp1 func139 Bz0
def zz4 (j:bz2):T Bool:=let aa:=(j.Xe.length:Int);.loop (ik 10 [1,8,9] [0]) (.exit 0) (jk [1] [0]) (λab=>let ac:=j.Xe.getD (ab.toNat) qu;.jR (ab<aa) (.gh ab j.Xe.length<|.cub 1 21 [1,4,8,9,10] [0,640] (.cc (Azz ac) λad=>.jS (!ad) (.oo ((ac.XA) !=0))) λad=>.br ad (.ff false) (.loop (ik 25 [1,8,9,10,23,24] [0]) (.exit 2) (jk [1,8,9,10] [0]) (λae=>.jR (ae<(ac.Xa.length:Int)) (.gh ae (ac.Xa.length)<|.call (uz6 ((ac.Xa).getD (ae.toNat) qu)) [] λaf=>.br (!af) (.ff (.fin false)) (.nn (qt.wrap (ae+1)))) (.oo .u))
 0 [] λ_=>.nn (qt.wrap (ab+1)))) (.oo .u))
 0 [] λ_=>.jE (qv (aa>0))
def zz3:=
 mkp1 func81 zz4
def yzy (j:az2):T Int:=let aa:=(j.Xd.length:Int);.cc (ezb j.Xl) λab=>.br (ab !=0) (.jE ab) (.cc (rzx (⟨j.Xl,j.Xd,j.Xh,j.Xi,j.Xk,j.Xq⟩:az2)) λac=>.br (!ac) (.jE 3401) (.loop (λs (ad:B2)=>pk s [1,22,23] [0] [(4,pz ad.1),(24,pz ad.2)] []) (.exit 0) (ik 4 [] []) (λad=>let ae:=j.Xd.getD (X3 ad.2) qu;.jR (ad.2<aa) (.gh ad.2 j.Xd.length<|.cut 2 (λs (af:(ByteArray×A2×Bool))=>pk s [1,4,6,22,23,24] [0] [(46,q af.2.2)] [(1600,.box [q af.1,q af.2.1])]) (.cc (Fz9 (ae.XG)) λaf=>.br (!af) (.oo (ae.XG,ae.Xe,true)) (.conv 11008 (Czl 2 Mzb j.Xd (0:Int) ad.2)<|.grd (0<=(0:Int)/\(0:Int)<=ad.2/\ad.2<=aa)<|.call (dzu ((j.Xd.drop (X3 (0:Int))).take ((ad.2).toNat- (0:Int).toNat)) (ae.XG) (ae.Xe)) [(0,1600)] λag=>.br ag.1 (.oo (ag.2.1,ag.2.2,true)) (.cc (zz3 (⟨ag.2.1,ag.2.2⟩:bz2)) λah=>.oo (ag.2.1,ag.2.2,(!ah))))) λaf=>.br af.2.2 (.ff 3402) (.nn ((qt.wrap (ad.1+(af.2.1.length:Int))),(qt.wrap (ad.2+1))))) (.oo ad.1)) ((j.Xl.Xe.length:Int),0) [] λad=>.jR (ad>24) (.jE 3401) (.jE 0)))
def izd:=
 mkp1 func39 yzy
def hzi (j:A4)(aa:Int):T Int:=
 .loop (ik 8 [0,1,7] []) (.exit 0) (jk [] []) (λab=>.jR (ab<(j.length:Int)) (.gh ab j.length<|.br (aa==(j.getD (ab.toNat) qu)) (.ff ab) (.nn (qt.wrap (ab+1)))) (.oo .u))
 0 [] λ_=>.jE (-1)
def mza:=
 mkp2 func140 hzi
def gz0 (j:A4)(aa:Int):T Bool:=
 .cc (mza j aa) λab=>.jE (qv (ab>=0))
def jzb:=
 mkp2 func82 gz0
def zz0 (j:az2)(aa:azm):T Bool:=let ab:=(aa.Xg.length:Int);.cub 2 18 [2,3] [0,64] (.cc (izd (⟨j.Xl,j.Xd,j.Xh,j.Xi,j.Xk,j.Xq⟩:az2)) λac=>.jS (ac !=0) (.oo (ab !=(j.Xd.length:Int)))) λac=>.br ac (.jE false) (.loop (ik 22 [2,3,20,21] [0,64]) (.exit 0) (jk [] []) (λad=>let ae:=aa.Xg.getD (ad.toNat) qu;.jR (ad<ab) (.gh ad aa.Xg.length<|.cub 0 47 [2,3,20,21,22] [0,64] (.jU (ae<(qt.wrap (0- (j.Xi.length:Int)))) (.jU (ae>=(j.Xh.length:Int)) (.conv 6017 (Czl 1 bz6 aa.Xg (0:Int) ad)<|.grd (0<=(0:Int)/\(0:Int)<=ad/\ad<=ab)<|.cc (jzb ((aa.Xg.drop (X3 (0:Int))).take (ad.toNat- (0:Int).toNat)) ae) λaf=>.oo af))) λaf=>.br af (.ff false) (.nn (qt.wrap (ad+1)))) (.oo .u))
 0 [] λ_=>.jE true)
def ez8:=
 mkp2 func40 zz0
def Jza (j:cz5):T Bool:=
 .jR (j.XF>=0) (.jR (j.XF<=1022) (.jR (j.XJ>=1) (.jR (j.XJ<=16) (.jR (j.Xj>=0) (.jR (j.Xj<=20) (.jR (j.XM>=0) (.jE (qv (j.XM<=8192))) (.jE false)) (.jE false)) (.jE false)) (.jE false)) (.jE false)) (.jE false)) (.jE false)
def hz0:=
 mkp1 func62 Jza
def tzk (j:azm):T C3:=
 .unroll 7<|.jC<|.ix 0 6 rfl<|.lit 6000 1<|.jC<|.ix 1 6 rfl<|.lit 6000 2<|.jC<|.ix 2 6 rfl<|.lit 6000 3<|.jC<|.ix 3 6 rfl<|.lit 6000 4<|.jC<|.ix 4 6 rfl<|.lit 6000 5<|.jC<|.ix 5 6 rfl<|.lit 6000 6<|.jD<|.jE ((if 0<j.Xg.length then j.Xg.getD 0 qu else(-1048577)),(if 1<j.Xg.length then j.Xg.getD 1 qu else(-1048577)),(if 2<j.Xg.length then j.Xg.getD 2 qu else(-1048577)),(if 3<j.Xg.length then j.Xg.getD 3 qu else(-1048577)),(if 4<j.Xg.length then j.Xg.getD 4 qu else(-1048577)),(if 5<j.Xg.length then j.Xg.getD 5 qu else(-1048577)))
def iz6:=
 mkp1 func89 tzk
def zzl (j:C3)(aa:A4):T Bool:=
 .loop (ik 9 [2,7,8] [0]) (.exit 0) (jk [] []) (λab=>let ac:=aa.getD (ab.toNat) qu;.jR (ab<(aa.length:Int)) (.gh ab aa.length<|.cub 0 22 [2,7,8,9] [0] (.jT (ac !=(-1048576)) (.cas 4004 ab 0 (.ix 0 6 rfl<|.oo (ac !=j.1)) (.cas 4004 ab 1 (.ix 1 6 rfl<|.oo (ac !=j.2.1)) (.cas 4004 ab 2 (.ix 2 6 rfl<|.oo (ac !=j.2.2.1)) (.cas 4004 ab 3 (.ix 3 6 rfl<|.oo (ac !=j.2.2.2.1)) (.cas 4004 ab 4 (.ix 4 6 rfl<|.oo (ac !=j.2.2.2.2.1)) (.cas 4004 ab 5 (.ix 5 6 rfl<|.oo (ac !=j.2.2.2.2.2)) (.stop)))))))) λad=>.br ad (.ff false) (.nn (qt.wrap (ab+1)))) (.oo .u))
 0 [] λ_=>.jE true
def qzm:=
 mkp2 func99 zzl
def nzi (j:czq)(aa:Int)(ab:Int):T Bq:=
 .br (j.Xu==aa) (.jE ((j.Place==ab),aa,ab)) (.jE (false,aa,ab))
def yz6 (j)(aa)(ab):=
 mkD func184 (nzi j aa ab) 2 [q j,X7 0,X7 1] [(0,.box [pz aa]),(1,.box [pz ab])] (λr=>q r.1) (λr=>[(0,.box [pz r.2.1]),(1,.box [pz r.2.2])])
def dzd (j:A7)(aa:Int)(ab:Int):T Bh:=
 .loop (λs (ac:Bh)=>pk s [0,1,7] [] [(8,pz ac.2.2)] [(0,.box [pz ac.1]),(1,.box [pz ac.2.1])]) (.exit 0) (λs (ac:B2)=>pk s [] [] [] [(0,.box [pz ac.1]),(1,.box [pz ac.2])]) (λac=>.jR (ac.2.2<(j.length:Int)) (.gh ac.2.2 j.length<|.call (yz6 (j.getD (X3 ac.2.2) qu) ac.1 ac.2.1) [(0,0),(1,1)] λad=>.br ad.1 (.ff (ac.2.2,ad.2.1,ad.2.2)) (.nn (ad.2.1,ad.2.2,(qt.wrap (ac.2.2+1))))) (.oo (ac.1,ac.2.1))) (aa,ab,0) [] λac=>.jE ((-1),ac.1,ac.2)
def fz7 (j)(aa)(ab):=
 mkD func240 (dzd j aa ab) 2 [q j,.func 184 [] [X7 0,X7 1]] [(0,.box [pz aa]),(1,.box [pz ab])] (λr=>pz r.1) (λr=>[(0,.box [pz r.2.1]),(1,.box [pz r.2.2])])
def czx (j:A7)(aa:Int)(ab:Int):T Bq:=
 .call (fz7 j aa ab) [(0,0),(1,1)] λac=>.jE ((qv (ac.1>=0)),ac.2.1,ac.2.2)
def ezi (j)(aa)(ab):=
 mkD func185 (czx j aa ab) 2 [q j,.func 184 [] [X7 0,X7 1]] [(0,.box [pz aa]),(1,.box [pz ab])] (λr=>q r.1) (λr=>[(0,.box [pz r.2.1]),(1,.box [pz r.2.2])])
def tzj (j:az2):T A9:=
 .loop (λs (aa:Aa)=>pk s [1,3,9] [0] [(10,pz aa.2)] [(128,vO aa.1 62)]) (.exit 0) (λs (aa:A9)=>pk s [3] [] [] [(128,vO aa 62)]) (λaa=>.jR (aa.2<(j.Xi.length:Int)) (.loop (λs (ab:(A9×Int×Int))=>pk s [1,3,4,9,10,15] [0] [(16,pz ab.2.2)] [(128,vO ab.1 62),(640,.box [pz ab.2.1])]) (.exit 2) (λs (ab:A9)=>pk s [1,3,9,10] [0] [] [(128,vO ab 62)]) (λab=>.jR (ab.2.2<(j.Xh.length:Int)) (.cut 0 (λs (ac:Aa)=>pk s [1,4,9,10,15,16] [0] [(3,.vec 1152)] [(640,.box [pz ac.2]),(1152,vO ac.1 62)]) (.call (ezi j.Xk ab.2.1 ab.2.2) [(0,640),(1,1216)] λac=>let ad:=([(⟨0,ac.2.1,ac.2.2⟩:aza)]:A9);let ae:=ab.1.length+ad.length;
 .br ac.1 (.conv 10004 (kL ad 62)<|.conv 10005 (kA ab.1 ad 62)<|.grd (ae * 24<=140737488355328/\ae<=maxLen)<|.oo ((ab.1++ad),ac.2.1)) (.oo (ab.1,ac.2.1))) λac=>.nn (ac.1,ac.2,(qt.wrap (ab.2.2+1)))) (.oo ab.1)) (aa.1,aa.2,0) [] λab=>.nn (ab,(qt.wrap (aa.2+1)))) (.oo aa.1)) (nl,0) [] λaa=>.jE aa
def tzi:=
 mkp1 func118 tzj
def Tzs (j:az2)(aa:Ab):T Bb:=
 .loop (λs (ab:(Bb×Int))=>pk s [2,5,9,10] [0] [(11,pz ab.2)] [(128,Dzc (jQ 9) dzm ab.1)]) (.exit 0) (λs (ab:Bb)=>pk s [5] [] [] [(128,Dzc (jQ 9) dzm ab)]) (λab=>.jR (ab.2<(aa.length:Int)) (.cut 0 (λs (ac:Bb)=>pk s [2,5,9,10,11] [0] [] [(128,Dzc (jQ 9) dzm ac)]) (.gh ab.2 aa.length<|.br ((((aa.getD (X3 ab.2) qu).XS.Xg.length:Nat):Int)==(j.Xd.length:Int))
 .stop (.oo ab.1)) λac=>.nn (ac,(qt.wrap (ab.2+1)))) (.oo ab.1)) ((nl:List (fzn×Bool)),0) [] λab=>.jE ab
def Tzr:=
 mkv2 func119 Tzs (λ_=>.map 0) (λr=>[(0,Dzc (jQ 9) dzm r)])
def zzk (j:C3)(aa:Int):T Int:=
 .loop (ik 8 [1,7] []) (.exit 0) (jk [] []) (λab=>.jR (ab<6) (.gh ab 6<|.br ((([j.1,j.2.1,j.2.2.1,j.2.2.2.1,j.2.2.2.2.1,j.2.2.2.2.2]:List Int).getD ab.toNat 0)==aa) (.ff ab) (.nn (qt.wrap (ab+1)))) (.oo .u))
 0 [] λ_=>.jE (-1)
def fz0:=
 mkp2 func146 zzk
def tzh (j:A9)(aa:C3):T A9:=let ab:=(j.length:Int);.loop (λs (ac:Aa)=>pk s [0,3,5,10,11] [0] [(12,pz ac.2)] [(128,vO ac.1 62)]) (.exit 0) (λs (ac:A9)=>pk s [0,3,5] [0] [] [(128,vO ac 62)]) (λac=>let ad:=j.getD (X3 ac.2) qu;let ae:=([(⟨1,ad.Xu,ad.Place⟩:aza)]:A9);let af:=ac.1.length+ae.length;.jR (ac.2<ab) (.cut 0 (λs (ag:A9)=>pk s [0,3,10,11,12] [0] [(5,.vec 512)] [(512,vO ag 62)]) (.gh ac.2 j.length<|.cub 0 28 [0,3,5,7,10,11,12] [0,128,640] (.call (fz0 (aa.1,aa.2.1,aa.2.2.1,aa.2.2.2.1,aa.2.2.2.2.1,aa.2.2.2.2.2) (qt.wrap ((-1)- (ad.Xu)))) [] λag=>.jR (ag<0) (.cc (fz0 (aa.1,aa.2.1,aa.2.2.1,aa.2.2.2.1,aa.2.2.2.2.1,aa.2.2.2.2.2) (ad.Place)) λah=>.oo (qv (ah>=0))) (.oo false)) λag=>.br ag (.conv 7002 (kL ae 62)<|.conv 7003 (kA ac.1 ae 62)<|.grd (af * 24<=140737488355328/\af<=maxLen)<|.oo (ac.1++ae)) (.oo ac.1)) λag=>.nn (ag,(qt.wrap (ac.2+1)))) (.oo ac.1)) (nl,0) [] λac=>.loop (λs (ad:Aa)=>pk s [3,5,35,36] [0] [(37,pz ad.2)] [(128,vO ad.1 62)]) (.exit 2) (λs (ad:A9)=>pk s [5] [] [] [(128,vO ad 62)]) (λad=>let ae:=j.getD (X3 ad.2) qu;let af:=([(⟨2,ae.Xu,ae.Place⟩:aza)]:A9);let ag:=ad.1.length+af.length;.jR (ad.2<ab) (.cut 0 (λs (ah:A9)=>pk s [3,35,36,37] [0] [(5,.vec 768)] [(768,vO ah 62)]) (.gh ad.2 j.length<|.cub 0 53 [3,5,9,35,36,37] [0,128,896] (.call (fz0 (aa.1,aa.2.1,aa.2.2.1,aa.2.2.2.1,aa.2.2.2.2.1,aa.2.2.2.2.2) (qt.wrap ((-1)- (ae.Xu)))) [] λah=>.jR (ah>=0) (.cc (fz0 (aa.1,aa.2.1,aa.2.2.1,aa.2.2.2.1,aa.2.2.2.2.1,aa.2.2.2.2.2) (ae.Place)) λai=>.oo (qv (ai<0))) (.oo false)) λah=>.br ah (.conv 14002 (kL af 62)<|.conv 14003 (kA ad.1 af 62)<|.grd (ag * 24<=140737488355328/\ag<=maxLen)<|.oo (ad.1++af)) (.oo ad.1)) λah=>.nn (ah,(qt.wrap (ad.2+1)))) (.oo ad.1)) (ac,0) [] λad=>.jE ad
def tzg:=
 mkp2 func120 tzh
def Fz8 (j:C3)(aa:aza):T C3:=let ab:=qt.wrap ((-1)-aa.Xu);.cut 2 (λs (ac:B2)=>pk s [2,4] [0,128] [(5,pz ac.1),(6,pz ac.2)] []) (.br (aa.Xn==2) (.oo (ab,aa.Place)) (.oo (aa.Place,ab))) λac=>.cut 0 (λs (ad:C3)=>pk s [2,4] [128] [] [(0,.box [pz ad.1,pz ad.2.1,pz ad.2.2.1,pz ad.2.2.2.1,pz ad.2.2.2.2.1,pz ad.2.2.2.2.2])]) (.cc (fz0 j ac.1) λad=>.cas 4002 ad 0 (.ix 0 6 rfl<|.oo (ac.2,j.2.1,j.2.2.1,j.2.2.2.1,j.2.2.2.2.1,j.2.2.2.2.2)) (.cas 4002 ad 1 (.ix 1 6 rfl<|.oo (j.1,ac.2,j.2.2.1,j.2.2.2.1,j.2.2.2.2.1,j.2.2.2.2.2)) (.cas 4002 ad 2 (.ix 2 6 rfl<|.oo (j.1,j.2.1,ac.2,j.2.2.2.1,j.2.2.2.2.1,j.2.2.2.2.2)) (.cas 4002 ad 3 (.ix 3 6 rfl<|.oo (j.1,j.2.1,j.2.2.1,ac.2,j.2.2.2.2.1,j.2.2.2.2.2)) (.cas 4002 ad 4 (.ix 4 6 rfl<|.oo (j.1,j.2.1,j.2.2.1,j.2.2.2.1,ac.2,j.2.2.2.2.2)) (.cas 4002 ad 5 (.ix 5 6 rfl<|.oo (j.1,j.2.1,j.2.2.1,j.2.2.2.1,j.2.2.2.2.1,ac.2)) (.stop))))))) λad=>.jE (ad.1,ad.2.1,ad.2.2.1,ad.2.2.2.1,ad.2.2.2.2.1,ad.2.2.2.2.2)
def vz3:=
 mkp2 func88 Fz8
def az8u (j:C6)(aa:C3)(ab:Int):T A9:=
 .conv 1001 (Czk 3 Vzt 62 ab.toNat (⟨0,0,0⟩:aza))<|.grd (0<=ab/\ab<=ab/\ab<=9223372036854775807/\ab * 24<=140737488355328)<|.loop (λs (ac:(Int×Int×Int×Int×Int×Int×A9×Int))=>pk s [0,4,7] [0] [(8,pz ac.2.2.2.2.2.2.2)] [(1,.box [pz ac.1,pz ac.2.1,pz ac.2.2.1,pz ac.2.2.2.1,pz ac.2.2.2.2.1,pz ac.2.2.2.2.2.1]),(193,vO ac.2.2.2.2.2.2.1 62)]) (.exit 0) (λs (ac:A9)=>pk s [7] [0] [] [(193,vO ac 62)]) (λac=>let ad:=ac.2.2.2.2.2.2.2;let ae:=azl (ac.1,ac.2.1,ac.2.2.1,ac.2.2.2.1,ac.2.2.2.2.1,ac.2.2.2.2.2.1);let af:=jzt azl j ae;let ag:=mdom azl j ae;.jR (ac.2.2.2.2.2.2.2>=0) (.ok (ag=false->PSub (.agg (jQ 9)) (bzu af)) (Wz8 jJ)<|.gh ac.2.2.2.2.2.2.2 ac.2.2.2.2.2.2.1.length<|.conv 5007 (kS ac.2.2.2.2.2.2.1 62 (ad.toNat) (af.by_))<|.gi ad ac.2.2.2.2.2.2.1.length<|.ok (ag=false->PSub (.agg (jQ 9)) (bzu af)) (Wz8 jJ)<|.nn (af.before.1,af.before.2.1,af.before.2.2.1,af.before.2.2.2.1,af.before.2.2.2.2.1,af.before.2.2.2.2.2,(ac.2.2.2.2.2.2.1.set (ad.toNat) (af.by_)),(qt.wrap (ac.2.2.2.2.2.2.2-1)))) (.oo ac.2.2.2.2.2.2.1)) (aa.1,aa.2.1,aa.2.2.1,aa.2.2.2.1,aa.2.2.2.2.1,aa.2.2.2.2.2,(qs ab.toNat ((⟨0,0,0⟩:aza):aza)),(qt.wrap (ab-1))) [] λac=>.jE ac
def az8t (j)(aa)(ab):=
 mkD func121 (az8u j aa ab) 1 [.map 0,q aa,pz ab] [(0,mapG (jQ 6) azl bzu j)] (λr=>q r) (λ_=>[(0,mapG (jQ 6) azl bzu j)])
def az2u (j:az2)(aa:azm)(ab:A4)(ac:Int)(ad:Ab):T (A9×Bool):=
 .cub 2 45 [2,3,4,5,6] [0,64] (.cc (ez8 j aa) λae=>.jS (!ae) (.jS ((ab.length:Int) !=(j.Xd.length:Int)) (.jU (ac<0) (.oo (qv (ac>16)))))) λae=>.br ae (.jE (nl,false)) (.cc (iz6 aa) λaf=>let ag:=([af]:C4);
 .cc (qzm (af.1,af.2.1,af.2.2.1,af.2.2.2.1,af.2.2.2.2.1,af.2.2.2.2.2) ab) λah=>.br ah (.jE (nl,true)) (.cc (tzi (⟨j.Xl,j.Xd,j.Xh,j.Xi,j.Xk,j.Xq⟩:az2)) λai=>.cc (Tzr j ad) λaj=>.conv 8000 (azi2 (jQ 6) azl bzu (.agg (jQ 9)))<|.conv 8003 (az5n (jQ 6) azl bzu (nl:List C5) af (⟨(0,0,0,0,0,0),(⟨0,0,0⟩:aza)⟩:bzv) (.agg (jQ 9)) jJ)<|.conv 9001 (kL ag 183)<|.loop (λs (ak:C7)=>pk s [2,3,13,14,15,16] [1088] [(17,pz ak.2.2)] [(1216,mapG (jQ 6) azl bzu ak.1),(1664,vO ak.2.1 183)]) (.exit 0) (jk [] []) (λak=>let al:=(ak.2.1.length:Int);.cub 1 69 [2,3,13,14,15,16,17] [1088,1216,1664] (.jR (ak.2.2<=ac) (.oo (qv (al>0))) (.oo false)) λam=>.br am (.loop (λs (an:C7)=>pk s [2,3,13,14,15,17,18,72,73] [1088,1664] [(74,pz an.2.2)] [(1216,mapG (jQ 6) azl bzu an.1),(1984,vO an.2.1 183)]) (.exit 2) (λs (an:(C6×C4))=>pk s [2,3,13,14,15,17,18] [1088] [] [(1216,mapG (jQ 6) azl bzu an.1),(1984,vO an.2 183)]) (λan=>let ao:=ak.2.1.getD (X3 an.2.2) qu;.jR (an.2.2<al) (.gg an.2.2 ak.2.1.length<|.cc (tzg ai ao) λap=>.loop (λs (aq:C7)=>pk s [2,3,13,14,15,17,18,20,72,73,74,80,81] [1088,1664,2496] [(82,pz aq.2.2)] [(1216,mapG (jQ 6) azl bzu aq.1),(1984,vO aq.2.1 183)]) (.exit 4) (λs (aq:(C6×C4))=>pk s [2,3,13,14,15,17,18,72,73,74] [1088,1664] [] [(1216,mapG (jQ 6) azl bzu aq.1),(1984,vO aq.2 183)]) (λaq=>let ar:=ap.getD (X3 aq.2.2) qu;let au:=dzm (⟨ao,ar⟩:fzn);let av:=Jzx dzm aj au;let aw:=(⟨ao,ar⟩:bzv);.jR (aq.2.2<(ap.length:Int)) (.cut 0 (λs (ax:(C6×C4))=>pk s [2,3,13,14,15,17,18,20,72,73,74,80,81,82] [1088,1664,2496] [] [(1216,mapG (jQ 6) azl bzu ax.1),(1984,vO ax.2 183)]) (.gh aq.2.2 ap.length<|.cc (vz3 ao ar) λax=>let ay:=mdom azl aq.1 (azl ax);let az:=((ax,aw)::aq.1);let a0:=([ax]:C4);let a1:=aq.2.1.length+a0.length;
 .ok (ay=false->PSub (.agg (jQ 9)) (bzu (jzt azl aq.1 (azl ax)))) (Wz8 jJ)<|.cub 0 102 [2,3,13,14,15,17,18,20,22,23,72,73,74,80,81,82] [1088,1216,1664,1984,2496,3200,3520] (.jS ay (.ok ((mdom dzm aj au)=false->PSub (.bool false) (PVal.bool av)) az6c<|.oo av)) λa2=>.br a2 (.oo (aq.1,aq.2.1)) (.conv 23005 (az5n (jQ 6) azl bzu aq.1 ax aw (.agg [jP (ao.1),jP (ao.2.1),jP (ao.2.2.1),jP (ao.2.2.2.1),jP (ao.2.2.2.2.1),jP (ao.2.2.2.2.2),jP (ar.Xn),jP (ar.Xu),jP (ar.Place)]) jJ)<|.cc (qzm ax ab) λa3=>.br a3 (.call (az8t az ax ak.2.2) [(0,1216)] λa4=>.ff (.fin (.fin (.fin (a4,true))))) (.conv 26002 (kL a0 183)<|.conv 26003 (kA aq.2.1 a0 183)<|.grd (a1 * 48<=140737488355328/\a1<=maxLen)<|.oo (az,(aq.2.1++a0))))) λax=>.nn (ax.1,ax.2,(qt.wrap (aq.2.2+1)))) (.oo (aq.1,aq.2.1))) (an.1,an.2.1,0) [] λaq=>.nn (aq.1,aq.2,(qt.wrap (an.2.2+1)))) (.oo (an.1,an.2.1))) (ak.1,nl,0) [] λan=>.nn (an.1,an.2,(qt.wrap (ak.2.2+1)))) (.oo .u)) (((af,(⟨(0,0,0,0,0,0),(⟨0,0,0⟩:aza)⟩:bzv))::(nl:List C5)),ag,1) [] λ_=>.stop))
def Fz7:=
 mkq5 func63 az2u (λr=>.tup [q r.1,q r.2])
def izi {α:Type}[Inhabited α][En α](t k:Nat)(a0:(List α)):T (List α):= (match a0 with
  |[]=>.unroll 1<|.grd (a0.length=0)<|.both (.jE nl) (.conv 3000 (kL ([]:(List α)) t)<|.conv 3002 (kA ([]:(List α)) a0 t)<|.grd ((([]:(List α)).length+a0.length) * k<=140737488355328/\(([]:(List α)).length+a0.length)<=maxLen)<|.jE (([]:(List α))++a0))
  |_::_=>.grd (0<a0.length)<|.conv 3000 (kL ([]:(List α)) t)<|.conv 3002 (kA ([]:(List α)) a0 t)<|.grd ((([]:(List α)).length+a0.length) * k<=140737488355328/\(([]:(List α)).length+a0.length)<=maxLen)<|.jE (([]:(List α))++a0))
def kzd (j:A0):T A0:=
 izi 113 104 j
def fzl (a0:A0):CallS A0:=
 mkH [] hd func153 jJ (kzd a0) 0 [q a0] [] (λr=>q r) X6 (by cases a0<;>exact Ob.of_side jJ)
def mz2 (j:A8):T A8:=
 izi 233 40 j
def gz2 (a0:A8):CallS A8:=
 mkH [] hd func154 jJ (mz2 a0) 0 [q a0] [] (λr=>q r) X6 (by cases a0<;>exact Ob.of_side jJ)
def ozk (j:Bi):T Bi:=
 izi 89 24 j
def gzs (a0:Bi):CallS Bi:=
 mkH [] hd func218 jJ (ozk a0) 0 [q a0] [] (λ_=>.vec 0) (λr=>[(0,vO r 89)]) (by cases a0<;>exact Ob.of_side jJ)
def vzg (j:A2)(aa:Bh):T A2:=let ab:=(j.length:Int);.conv 1002 (azi3 3 oz3 91 (0:Int).toNat (⟨0,0,nl⟩:azh) (.agg [jP 0,jP 0,.lst 0 0 λ_=>.unk]) jJ)<|.grd (0<=(0:Int)/\(0:Int)<=ab/\ab<=9223372036854775807/\ab * 40<=140737488355328)<|.loop (λs (ac:Ac)=>pk s [3,5,14,15] [0] [(16,pz ac.2)] [(256,vO ac.1 91)]) (.exit 0) (λs (ac:A2)=>pk s [5] [] [] [(256,vO ac 91)]) (λac=>let ad:=j.getD (X3 ac.2) qu;.jR (ac.2<ab) (.gh ac.2 j.length<|.cc (gzs (ad.Xa)) λae=>.unroll 998<|.loop (λs (af:Bj)=>pk s [3,5,7,14,15,16,26] [0,256,832] [(27,pz af.2)] [(1088,vO af.1 89)]) (.exit 2) (λs (af:Bi)=>pk s [3,5,7,14,15,16] [0,256,832] [] [(1088,vO af 89)]) (λaf=>let ag:=af.2;let ah:=ag.toNat;let ai:=af.1.getD ah qu;.jR (af.2<(ae.length:Int)) (.unroll 4<|.jC<|.jq<|.gh af.2 af.1.length<|.jq<|.grd (ag.toNat<af.1.length)<|.name 12006 (ai.1) λaj=>let ak:=qt.wrap (aj+aa.1);let al:=af.1.set ah (ak,ai.2.1,ai.2.2);let am:=al.length;let an:=al.getD ah qu;
 .gh af.2 af.1.length<|.jq<|.conv 12011 (kS af.1 89 ah (ak,ai.2.1,ai.2.2))<|.gi ag af.1.length<|.lit 13000 1<|.jC<|.jr<|.gh af.2 am<|.jr<|.grd (ag.toNat<al.length)<|.name 12006 (an.2.1) λao=>let ap:=qt.wrap (ao+aa.2.1);let aq:=al.set ah (an.1,ap,an.2.2);let ar:=aq.length;let au:=aq.getD ah qu;
 .gh af.2 am<|.jr<|.conv 12011 (kS al 89 ah (an.1,ap,an.2.2))<|.gi ag am<|.lit 13000 2<|.jC<|.jt<|.gh af.2 ar<|.jt<|.grd (ag.toNat<aq.length)<|.name 12006 (au.2.2) λav=>let aw:=qt.wrap (av+aa.2.2);
 .gh af.2 ar<|.jt<|.conv 12011 (kS aq 89 ah (au.1,au.2.1,aw))<|.gi ag ar<|.lit 13000 3<|.jD<|.nn ((aq.set ah (au.1,au.2.1,aw)),(qt.wrap (af.2+1)))) (.oo af.1)) (ae,0) [] λaf=>let ag:=([(⟨ad.XA,ad.XE,af⟩:azh)]:A2);let ah:=ac.1.length+ag.length;
 .conv 15002 (kL ag 91)<|.conv 15003 (kA ac.1 ag 91)<|.grd (ah * 40<=140737488355328/\ah<=maxLen)<|.nn ((ac.1++ag),(qt.wrap (ac.2+1)))) (.oo ac.1)) ((qs (0:Int).toNat ((⟨0,0,nl⟩:azh):azh)),0) [] λac=>.jE ac
def vzf:=
 mkv2 func155 vzg (λ_=>.vec 0) (λr=>[(0,vO r 91)])
def mz3 (j:Ad):T Ad:=
 izi 208 16 j
def gz3 (a0:Ad):CallS Ad:=
 mkH [] hd func156 jJ (mz3 a0) 0 [q a0] [] (λr=>q r) X6 (by cases a0<;>exact Ob.of_side jJ)
def yzz (j:az2)(aa:azm):T (az7×Int):=
 .cc (izd j) λab=>.br (ab !=0) (.jE ((⟨(⟨nl,nl⟩:azk),nl,nl⟩:az7),ab)) (.cc (ez8 j aa) λac=>.br (!ac) (.jE ((⟨(⟨nl,nl⟩:azk),nl,nl⟩:az7),3403)) (.cc (fzl j.Xl.Xf.Xc) λad=>.cc (gz2 j.Xl.Xf.Xv) λae=>.cc (vzf j.Xl.Xe (0,0,0)) λaf=>.cc (gz3 j.Xl.Xr) λag=>.loop (λs (ah:Ac)=>pk s [2,3,4,7,48,49] [0,64,128,129,130,131,132,2176] [(50,pz ah.2)] [(1792,vO ah.1 91)]) (.exit 0) (λs (ah:A2)=>pk s [4,7] [128,129,130,131,132,2176] [] [(1792,vO ah 91)]) (λah=>let ai:=(ah.2).toNat;let aj:=aa.Xg.getD ai qu;let ak:=qt.wrap ((-1)-aj);let al:=j.Xi.getD (ak.toNat) qu;let am:=j.Xh.getD (aj.toNat) qu;.jR (ah.2<(j.Xd.length:Int)) (.gh ah.2 j.Xd.length<|.cut 1 (λs (an:Bx)=>pk s [2,3,4,7,9,11,48,49,50] [0,64,128,129,130,131,132,1792,2176,2880] [(10,pz an.1)] [(3136,.box [pz an.2.1,pz an.2.2.1,pz an.2.2.2])]) (.gh ah.2 aa.Xg.length<|.jR (aj>=0) (.gh aj j.Xh.length<|.oo ((-1),am.1,am.2.1,am.2.2)) (.gh ak j.Xi.length<|.gh ak j.Xi.length<|.oo (al.XA,al.Xy.1,al.Xy.2.1,al.Xy.2.2))) λan=>.cc (vzf ((j.Xd.getD ai qu).Xe) (an.2.1,an.2.2.1,an.2.2.2)) λao=>.loop (λs (ap:Ac)=>pk s [2,3,4,7,10,48,49,50,85,86] [0,64,128,129,130,131,132,2176,3584] [(87,pz ap.2)] [(1792,vO ap.1 91)]) (.exit 2) (λs (ap:A2)=>pk s [2,3,4,7,48,49,50] [0,64,128,129,130,131,132,2176] [] [(1792,vO ap 91)]) (λap=>let aq:=ao.getD (X3 ap.2) qu;let ar:=([(⟨an.1,aq.XE,aq.Xa⟩:azh)]:A2);let au:=ap.1.length+ar.length;.jR (ap.2<(ao.length:Int)) (.gg ap.2 ao.length<|.conv 19003 (kL ar 91)<|.conv 19004 (kA ap.1 ar 91)<|.grd (au * 40<=140737488355328/\au<=maxLen)<|.nn ((ap.1++ar),(qt.wrap (ap.2+1)))) (.oo ap.1)) (ah.1,0) [] λap=>.nn (ap,(qt.wrap (ah.2+1)))) (.oo ah.1)) (af,0) [] λah=>.jE ((⟨(⟨ad,ae⟩:azk),ah,ag⟩:az7),0)))
def qzg:=
 mkq2 func96 yzz (λr=>.tup [q r.1,pz r.2])
def xz8 (j:az2)(aa:azm):T A9:=
 .cc (ez8 j aa) λab=>.br (!ab) (.jE nl) (.cc (tzi j) λac=>.cc (iz6 aa) λad=>.cc (tzg ac ad) λae=>.jE ae)
def Hzn:=
 mkp2 func87 xz8
def dzf (j:A9)(aa:aza):T Int:=
 .loop (ik 8 [0,3,7] [0]) (.exit 0) (jk [] []) (λab=>let ac:=j.getD (ab.toNat) qu;.jR (ab<(j.length:Int)) (.gh ab j.length<|.br ((aa.Xn==(ac.Xn))&&((aa.Xu==(ac.Xu))&&((aa.Place==(ac.Place))&&true))) (.ff ab) (.nn (qt.wrap (ab+1)))) (.oo .u))
 0 [] λ_=>.jE (-1)
def fz9:=
 mkp2 func145 dzf
def czz (j:A9)(aa:aza):T Bool:=
 .cc (fz9 j aa) λab=>.jE (qv (ab>=0))
def ezk:=
 mkp2 func86 czz
def Cz4 (j:A4):T A4:=
 izi 3 8 j
def mz9 (a0:A4):CallS A4:=
 mkH [] hd func90 jJ (Cz4 a0) 0 [q a0] [] (λr=>q r) X6 (by cases a0<;>exact Ob.of_side jJ)
def Fz6 (j:az2)(aa:azm)(ab:aza):T (azm×Bool):=let ac:=(⟨aa.Xg⟩:azm);let ad:=(aa.Xg.length:Int);.cc (Hzn (⟨j.Xl,j.Xd,j.Xh,j.Xi,j.Xk,j.Xq⟩:az2) ac) λae=>.cc (ezk ae ab) λaf=>.br (!af) (.jE ((⟨nl⟩:azm),false)) (.cc (iz6 ac) λag=>.cc (vz3 ag ab) λah=>let ai:=([ah.1,ah.2.1,ah.2.2.1,ah.2.2.2.1,ah.2.2.2.2.1,ah.2.2.2.2.2]:List Int);
 .conv 4003 (azo4 bz6 ai ad)<|.grd (0<=ad/\ad<=(6:Int))<|.call (mz9 (ai.take (ad.toNat))) [] λaj=>.jE ((⟨aj⟩:azm),true))
def kzb:=
 mkq3 func42 Fz6 (λr=>.tup [q r.1,q r.2])
def qz6 (j:az2)(aa:aza)(ab:Int):T Bool:=let ac:=j.Xk.getD (ab.toNat) qu;.jR (0<=ab) (.jR (ab<(j.Xk.length:Int)) (.gh ab j.Xk.length<|.br ((ac.Xu)==aa.Xu) (.gh ab j.Xk.length<|.jE ((ac.Place)==aa.Place)) (.jE false)) (.jE false)) (.jE false)
def jzo:=
 mkp3 func43 qz6
def ozx (j:Int):T Bool:=
 .jR (j<(-2147483648)) (.jE true) (.jE (qv (j>2147483648)))
def Bzd:=
 mkp1 func213 ozx
def ezl (j:A4):T Int:=
 .loop (ik 8 [0,1,7] []) (.exit 0) (jk [] []) (λaa=>.jR (aa<(j.length:Int)) (.gh aa j.length<|.cc (Bzd (j.getD (aa.toNat) qu)) λab=>.br ab (.ff aa) (.nn (qt.wrap (aa+1)))) (.oo .u))
 0 [] λ_=>.jE (-1)
def gzt (j):=
 mkD func265 (ezl j) 0 [q j,.func 213 [] []] [] pz X6
def dzv (j:A4):T Bool:=
 .cc (gzt j) λaa=>.jE (qv (aa>=0))
def fzv (j):=
 mkD func212 (dzv j) 0 [q j,.func 213 [] []] [] (λr=>q r) X6
def vza (j:A4):T Bool:=
 .cc (fzv j) λaa=>.jE (!aa)
def hzb:=
 mkp1 func149 vza
def yzw (j:Int):T Int:=
 .jE (min (max j (-2147483648)) 2147483648)
def yzv:=
 mkp1 func266 yzw
def kzw (j:Int)(aa:Int):T az0:=
 .cc (yzv j) λab=>.cc (yzv aa) λac=>.jE (⟨ab,ac⟩:az0)
def hzj:=
 mkp2 func214 kzw
def zz9 (j:Int):T az0:=
 .cc (hzj j j) λaa=>.jE aa
def czl:=
 mkp1 func151 zz9
def dzk (j:A4):T Ae:=let aa:=(j.length:Int);.conv 1002 (Czk 2 uz4 95 aa.toNat (⟨0,0⟩:az0))<|.grd (0<=aa/\aa<=aa/\aa<=9223372036854775807/\aa * 16<=140737488355328)<|.loop (λs (ab:Af)=>pk s [1,5,11,12] [] [(13,pz ab.2)] [(192,vO ab.1 95)]) (.exit 0) (λs (ab:Ae)=>pk s [5] [] [] [(192,vO ab 95)]) (λab=>let ac:=(ab.2).toNat;.jR (ab.2<aa) (.gh ab.2 j.length<|.cc (czl (j.getD ac qu)) λad=>.gh ab.2 ab.1.length<|.conv 5006 (kS ab.1 95 ac ad)<|.gi (ab.2) ab.1.length<|.nn ((ab.1.set ac ad),(qt.wrap (ab.2+1)))) (.oo ab.1)) ((qs aa.toNat ((⟨0,0⟩:az0):az0)),0) [] λab=>.jE ab
def fzk (j):=
 mkD func150 (dzk j) 0 [q j,.func 151 [] []] [] (λr=>q r) X6
def Cze (j:A4):T Ae:=
 .cc (hzb j) λaa=>.br (!aa) (.jE nl) (.cc (fzk j) λab=>.jE ab)
def Czd:=
 mkp1 func93 Cze
def pz0 (j:az0):T Bool:=
 .jR ((-2147483648)<=j.Lo) (.jR (j.Lo<=j.Hi) (.jE (qv (j.Hi<=2147483648))) (.jE false)) (.jE false)
def bzy:=
 mkp1 func209 pz0
def izu (j:az0):T Bool:=
 .cc (bzy j) λaa=>.jE (!aa)
def qz9:=
 mkp1 func208 izu
def cz7 (j:Ae):T Int:=
 .loop (ik 8 [0,1,7] []) (.exit 0) (jk [] []) (λaa=>.jR (aa<(j.length:Int)) (.gh aa j.length<|.cc (qz9 (j.getD (aa.toNat) qu)) λab=>.br ab (.ff aa) (.nn (qt.wrap (aa+1)))) (.oo .u))
 0 [] λ_=>.jE (-1)
def dzl (j):=
 mkD func261 (cz7 j) 0 [q j,.func 208 [] []] [] pz X6
def cz2 (j:Ae):T Bool:=
 .cc (dzl j) λaa=>.jE (qv (aa>=0))
def dzc (j):=
 mkD func207 (cz2 j) 0 [q j,.func 208 [] []] [] (λr=>q r) X6
def lz0 (j:azk)(aa:Ae):T Bool:=
 .br ((aa.length:Int)==(j.Xc.length:Int)) (.cc (dzc aa) λab=>.jE (!ab)) (.jE false)
def hzk:=
 mkp2 func147 lz0
def vzn (j:Bh):T Bm:=
 .unroll 4<|.jC<|.jq<|.cc (czl j.1) λaa=>.jq<|.lit 6000 1<|.jC<|.jr<|.cc (czl j.2.1) λab=>.jr<|.lit 6000 2<|.jC<|.jt<|.cc (czl j.2.2) λac=>.jt<|.lit 6000 3<|.jD<|.jE (aa,ab,ac)
def jz1:=
 mkp1 func95 vzn
def matrix_Identity_T:T Bp:=
 .unroll 4<|.jC<|.cc (czl 65536) λj=>.jq<|.jq<|.lit 6000 1<|.jC<|.cc (czl 65536) λaa=>.jr<|.jr<|.lit 6000 2<|.jC<|.cc (czl 65536) λab=>.jt<|.jt<|.lit 6000 3<|.jD<|.jE ((j,(⟨0,0⟩:az0),(⟨0,0⟩:az0)),((⟨0,0⟩:az0),aa,(⟨0,0⟩:az0)),((⟨0,0⟩:az0),(⟨0,0⟩:az0),ab))
def matrix_Identity_C:CallS Bp:=
 mkD func308 (matrix_Identity_T) 0 [] [] (λr=>q r) X6
def Dzl (j:Bm):T bz4:=
 .cc (matrix_Identity_C) λaa=>.jE (⟨aa,j⟩:bz4)
def uzi:=
 mkp1 func262 Dzl
def gzf (j:Int):T Int:=
 .cut 3 (λs (aa:Bool)=>pk s [0,2,3] [] [(4,q aa)] [(0,.box [.any])]) (.br (j==1) (.oo (j==1)) (.br (j==2) (.oo (j==2)) (.oo (j==3)))) λaa=>.br aa (.jE (qt.wrap (j-1))) (.cub 0 12 [0,2] [0] (.br (j==4) (.oo (j==4)) (.br (j==5) (.oo (j==5)) (.oo (j==6)))) λab=>.br ab (.stop) (.stop))
def gze:=
 mkq1 func263 gzf (λr=>.agg [.func 309 [pz r] []])
def gzh (j:Int):T Int:=
 .cut 3 (λs (aa:Bool)=>pk s [0,2,3] [] [(4,q aa)] [(0,.box [.any])]) (.br (j==1) (.oo (j==1)) (.br (j==2) (.oo (j==2)) (.oo (j==3)))) λaa=>.br aa (.stop) (.cub 0 12 [0,2] [0] (.br (j==4) (.oo (j==4)) (.br (j==5) (.oo (j==5)) (.oo (j==6)))) λab=>.br ab (.jE (qt.wrap (j-4))) (.stop))
def gzg:=
 mkq1 func263 gzh (λr=>.agg [.func 310 [pz r] []])
def gzi (j:Int):T Int:=
 .cut 3 (λs (aa:Bool)=>pk s [0,2,3] [] [(4,q aa)] [(0,.box [.any])]) (.br (j==1) (.oo (j==1)) (.br (j==2) (.oo (j==2)) (.oo (j==3)))) λaa=>.br aa (.stop) (.cub 0 12 [0,2] [0] (.br (j==4) (.oo (j==4)) (.br (j==5) (.oo (j==5)) (.oo (j==6)))) λab=>.br ab (.stop) (.jE 0))
def kz6:=
 mkq1 func263 gzi (λr=>.agg [.func 311 [pz r] []])
def pose_still_T:T Bm:=
 .cc (jz1 (0,0,0)) λj=>.jE j
def pose_still_C:CallS Bm:=
 mkD func426 (pose_still_T) 0 [] [] (λr=>q r) X6
def pose_Identity_T:T bz4:=
 .cc (pose_still_C) λj=>.cc (uzi j) λaa=>.jE aa
def pose_Identity_C:CallS bz4:=
 mkD func364 (pose_Identity_T) 0 [] [] (λr=>q r) X6
def Hzs (_a0:Int)(_a1:az0):T bz4:=
 .cc (pose_Identity_C) λj=>.jE j
def Qzx:=
 mkp2 func311 Hzs
end Go.Abs
