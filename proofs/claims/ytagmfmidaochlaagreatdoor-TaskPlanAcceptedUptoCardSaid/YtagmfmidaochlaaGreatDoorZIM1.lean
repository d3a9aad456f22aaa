import Derived.Test.YtagmfmidaochlaaGreatDoorZIRngF
import Derived.Test.YtagmfmidaochlaaGreatDoorZILend
import Derived.Test.YtagmfmidaochlaaGreatDoorProg
open Bool renaming true->D,false->E
open Go.IntKind renaming wrap->G
open List renaming length->C,getD->F
open Decidable renaming decide->qu
open Go.IntKind renaming i64->qs
open Inhabited renaming default->qt
open List renaming replicate->qr
open Int renaming toNat->X3
noncomputable section
namespace Go.Abs
open Go.Proofs.Tryz
theorem ke{p:Prop}(h:p:=by as_aux_lemma=>kernel_rfl):p:=h
theorem jY{p:Prop}(h:p:=by kernel_rfl):p:=h
set_option maxHeartbeats 8000000
set_option maxRecDepth 20000
open Go.Proofs
noncomputable abbrev X4 (x:Bool):ac:=.pure (.bool x)
noncomputable abbrev X5 {α:Type}[Inhabited α](n:Nat)(e:α->ae)(l:List α):ac:=.pure (encL n e l)
noncomputable abbrev X6 {α β:Type}:α->List β:=λ_=>[]
noncomputable abbrev X7 (i:Nat):ac:=.ptr i 0
abbrev X8:U0->St:=λ_=>⟨[],[],[],0⟩
abbrev kf (x:Int):ae:=.int .i64 x
abbrev kg (n:Nat):List ae:=List.replicate n (kf 0)
noncomputable abbrev pz (x:Int):ac:=.pure (kf x)
theorem hd:fp prog lI:=acl jY
noncomputable abbrev mkD {R:Type}{f:FuncId}{fn:Func}(s:prog.funcs[f]?=some fn)(t:T R)(k:Nat)(o:List ac)(m:Mem)(res:R->ac)(p:R->Mem)(r:(fn.body.isSome&& !(fn.name== "runtime.NumGoroutine"))=true:=by kernel_rfl)(h:(fy prog [] lI fn (fn.body.getD .skip) k k t o m res p).side D=(fy prog [] lI fn (fn.body.getD .skip) k k t o m res p).side false:=by kernel_rfl):aK R:=mkC [] hd s r t k o m res p h
noncomputable abbrev T.jG {R:Type}(k:T R):T R:=.ix 0 3 rfl k
noncomputable abbrev T.jH {R:Type}(k:T R):T R:=.ix 1 3 rfl k
noncomputable abbrev T.jI {R:Type}(k:T R):T R:=.ix 2 3 rfl k
noncomputable abbrev T.jJ {R:Type}(k:T R):T R:=.ix 1 11 rfl k
noncomputable abbrev T.jK {R:Type}(k:T R):T R:=.ix 2 11 rfl k
noncomputable abbrev T.jL {R:Type}(k:T R):T R:=.ix 3 11 rfl k
noncomputable abbrev T.jM {R:Type}(k:T R):T R:=.ix 4 11 rfl k
noncomputable abbrev T.jN {R:Type}(k:T R):T R:=.ix 5 11 rfl k
noncomputable abbrev T.jO {R:Type}(k:T R):T R:=.ix 6 11 rfl k
noncomputable abbrev T.jP {R:Type}(k:T R):T R:=.ix 7 11 rfl k
noncomputable abbrev T.jQ {R:Type}(k:T R):T R:=.ix 8 11 rfl k
noncomputable abbrev T.jR {R:Type}(k:T R):T R:=.known D k
noncomputable abbrev T.jS {R:Type}(k:T R):T R:=.known E k
noncomputable abbrev T.jT {R:Type}(r:R):T R:=.ret r
noncomputable abbrev T.kh {R:Type}(p:Prop)[Decidable p](a b:T R):T R:=.br (decide p) a b
noncomputable abbrev T.ki {σ R:Type}(c:Bool)(x:T (aA σ Bool R)):T (aA σ Bool R):=.br c (.ret (.out D)) x
noncomputable abbrev T.kj {σ R:Type}(c:Bool)(x:T (aA σ Bool R)):T (aA σ Bool R):=.br c x (.ret (.out E))
noncomputable abbrev T.kl {σ R:Type}(p:Prop)[Decidable p](x:T (aA σ Bool R)):T (aA σ Bool R):=.br (decide p) (.ret (.out D)) x
noncomputable abbrev T.gg {R:Type}(i:Int)(n:Nat)(k:T R):T R:=.grd (0<=i/\i<(n:Int)) (.grd (i.toNat<n) k)
noncomputable abbrev T.gh {R:Type}(i:Int)(n:Nat)(k:T R):T R:=.grd (0<=i/\i<(n:Int)) k
noncomputable abbrev T.gi {R:Type}(i:Int)(n:Nat)(k:T R):T R:=.grd (i.toNat<n/\0<=i.toNat) k
noncomputable abbrev T.oo {σ τ R:Type}(y:τ):T (aA σ τ R):=.ret (.out y)
noncomputable abbrev T.nn {σ τ R:Type}(x:σ):T (aA σ τ R):=.ret (.next x)
noncomputable abbrev T.ff {σ τ R:Type}(r:R):T (aA σ τ R):=.ret (.fin r)
noncomputable abbrev T.cc {R α:Type}(c:aK α)(k:α->T R):T R:=.call c [] k
noncomputable abbrev T.vn {R σ τ:Type}(f:σ->List (Nat×ac)×Mem)(l m:List Nat)(n:Nat)(g:τ->List (Nat×ac)×Mem)(d e:List Nat)(b:σ->T (aA σ τ R))(x:σ)(k:τ->T R):T R:=.loop (λs x=>pk s l m (f x).1 (f x).2) (.exit n) (λs x=>pk s d e (g x).1 (g x).2) b x [] k
noncomputable abbrev T.vo {R σ:Type}(f:σ->List (Nat×ac)×Mem)(l m:List Nat)(n:Nat)(d e:List Nat)(b:σ->T (aA σ U0 R))(x:σ)(k:U0->T R):T R:=.loop (λs x=>pk s l m (f x).1 (f x).2) (.exit n) (jk d e) b x [] k
noncomputable abbrev T.vh {R α:Type}[Inhabited α][En α](c:Nat)(l a:List α)(t k:Nat)(x:T R):T R:=.conv c (kL a t) (.conv (c+1) (kA l a t) (.grd ((C l+C a) * k<=140737488355328/\(C l)+C a<=maxLen) x))
noncomputable abbrev T.vk {R α:Type}[Inhabited α][En α](c:Nat)(b:List α)(d:Nat)(l a:List α)(t k:Nat)(x:T R):T R:=.conv c (kL b t) (.conv d (kA l a t) (.grd ((C l+C a) * k<=140737488355328/\(C l)+C a<=maxLen) x))
noncomputable abbrev T.vl {R α:Type}[Inhabited α][En α](c:Nat)(l:List α)(t:Nat)(i:Int)(v:α)(x:T R):T R:=.conv c (kS l t i.toNat v) (.gi i (C l) x)
noncomputable abbrev T.vc {R:Type}(n k:Nat)(t:T R):T R:=.grd (n * k<=140737488355328/\n<=maxLen) t
noncomputable abbrev T.vd {R α:Type}(i:Int)(l:List α)(k:T R):T R:=.gh i (C l) k
noncomputable abbrev T.vf {R α:Type}(i:Int)(l:List α)(k:T R):T R:=.gg i (C l) k
noncomputable abbrev T.vg {R α:Type}[Inhabited α](c n:Nat)(e:α->ae)(y:Nat)(i:Int)(x:α)(k:Nat)(t:T R):T R:=.conv c (NU n e y i.toNat x) (.grd (0<=i/\i<=i/\i<=9223372036854775807/\i * k<=140737488355328) t)
section
abbrev bo (f:Func):=(f.body.isSome&& !(f.name== "runtime.NumGoroutine"))=D
abbrev pf {R:Type}(f:Func)(t:T R)(w:List ac)(r:R->ac)(m:R->Mem):=(fy prog [] lI f (f.body.getD .skip) 0 0 t w [] r m).side D=(fy prog [] lI f (f.body.getD .skip) 0 0 t w [] r m).side E
variable {a b c d e g h i j R:Type} [En a] [En b] [En c] [En d] [En e] [En g] [En h] [En i] [En j] {n:FuncId} {f:Func} (l:prog.funcs[n]?=some f)
abbrev mkp1 [En R](t:a->T R)(y:bo f:=by show _=_;kernel_rfl)(z:∀k,pf f (t k) [q k] q X6:=by intros;show _=_;kernel_rfl)(k:a):aK R:=mkC [] hd l y (t k) 0 _ [] _ _ (z k)
abbrev mkp2 [En R](t:a->b->T R)(y:bo f:=by show _=_;kernel_rfl)(z:∀k m,pf f (t k m) [q k,q m] q X6:=by intros;show _=_;kernel_rfl)(k:a)(m:b):aK R:=mkC [] hd l y (t k m) 0 _ [] _ _ (z k m)
abbrev mkp3 [En R](t:a->b->c->T R)(y:bo f:=by show _=_;kernel_rfl)(z:∀k m o,pf f (t k m o) [q k,q m,q o] q X6:=by intros;show _=_;kernel_rfl)(k:a)(m:b)(o:c):aK R:=mkC [] hd l y (t k m o) 0 _ [] _ _ (z k m o)
abbrev mkp4 [En R](t:a->b->c->d->T R)(y:bo f:=by show _=_;kernel_rfl)(z:∀k m o p,pf f (t k m o p) [q k,q m,q o,q p] q X6:=by intros;show _=_;kernel_rfl)(k:a)(m:b)(o:c)(p:d):aK R:=mkC [] hd l y (t k m o p) 0 _ [] _ _ (z k m o p)
abbrev mkp5 [En R](t:a->b->c->d->e->T R)(y:bo f:=by show _=_;kernel_rfl)(z:∀k m o p r,pf f (t k m o p r) [q k,q m,q o,q p,q r] q X6:=by intros;show _=_;kernel_rfl)(k:a)(m:b)(o:c)(p:d)(r:e):aK R:=mkC [] hd l y (t k m o p r) 0 _ [] _ _ (z k m o p r)
abbrev mkp6 [En R](t:a->b->c->d->e->g->T R)(y:bo f:=by show _=_;kernel_rfl)(z:∀k m o p r s,pf f (t k m o p r s) [q k,q m,q o,q p,q r,q s] q X6:=by intros;show _=_;kernel_rfl)(k:a)(m:b)(o:c)(p:d)(r:e)(s:g):aK R:=mkC [] hd l y (t k m o p r s) 0 _ [] _ _ (z k m o p r s)
abbrev mkp7 [En R](t:a->b->c->d->e->g->h->T R)(y:bo f:=by show _=_;kernel_rfl)(z:∀k m o p r s w,pf f (t k m o p r s w) [q k,q m,q o,q p,q r,q s,q w] q X6:=by intros;show _=_;kernel_rfl)(k:a)(m:b)(o:c)(p:d)(r:e)(s:g)(w:h):aK R:=mkC [] hd l y (t k m o p r s w) 0 _ [] _ _ (z k m o p r s w)
abbrev mkq1 (t:a->T R)(r:R->ac)(y:bo f:=by show _=_;kernel_rfl)(z:∀k,pf f (t k) [q k] r X6:=by intros;show _=_;kernel_rfl)(k:a):aK R:=mkC [] hd l y (t k) 0 _ [] _ _ (z k)
abbrev mkq2 (t:a->b->T R)(r:R->ac)(y:bo f:=by show _=_;kernel_rfl)(z:∀k m,pf f (t k m) [q k,q m] r X6:=by intros;show _=_;kernel_rfl)(k:a)(m:b):aK R:=mkC [] hd l y (t k m) 0 _ [] _ _ (z k m)
abbrev mkq3 (t:a->b->c->T R)(r:R->ac)(y:bo f:=by show _=_;kernel_rfl)(z:∀k m o,pf f (t k m o) [q k,q m,q o] r X6:=by intros;show _=_;kernel_rfl)(k:a)(m:b)(o:c):aK R:=mkC [] hd l y (t k m o) 0 _ [] _ _ (z k m o)
abbrev mkq4 (t:a->b->c->d->T R)(r:R->ac)(y:bo f:=by show _=_;kernel_rfl)(z:∀k m o p,pf f (t k m o p) [q k,q m,q o,q p] r X6:=by intros;show _=_;kernel_rfl)(k:a)(m:b)(o:c)(p:d):aK R:=mkC [] hd l y (t k m o p) 0 _ [] _ _ (z k m o p)
abbrev mkq5 (t:a->b->c->d->e->T R)(r:R->ac)(y:bo f:=by show _=_;kernel_rfl)(z:∀k m o p s,pf f (t k m o p s) [q k,q m,q o,q p,q s] r X6:=by intros;show _=_;kernel_rfl)(k:a)(m:b)(o:c)(p:d)(s:e):aK R:=mkC [] hd l y (t k m o p s) 0 _ [] _ _ (z k m o p s)
abbrev mkq6 (t:a->b->c->d->e->g->T R)(r:R->ac)(y:bo f:=by show _=_;kernel_rfl)(z:∀k m o p s w,pf f (t k m o p s w) [q k,q m,q o,q p,q s,q w] r X6:=by intros;show _=_;kernel_rfl)(k:a)(m:b)(o:c)(p:d)(s:e)(w:g):aK R:=mkC [] hd l y (t k m o p s w) 0 _ [] _ _ (z k m o p s w)
abbrev mkv1 (t:a->T R)(r:R->ac)(m:R->Mem)(y:bo f:=by show _=_;kernel_rfl)(z:∀k,pf f (t k) [q k] r m:=by intros;show _=_;kernel_rfl)(k:a):aK R:=mkC [] hd l y (t k) 0 _ [] _ _ (z k)
abbrev mkv2 (t:a->b->T R)(r:R->ac)(m:R->Mem)(y:bo f:=by show _=_;kernel_rfl)(z:∀k o,pf f (t k o) [q k,q o] r m:=by intros;show _=_;kernel_rfl)(k:a)(o:b):aK R:=mkC [] hd l y (t k o) 0 _ [] _ _ (z k o)
abbrev mkv3 (t:a->b->c->T R)(r:R->ac)(m:R->Mem)(y:bo f:=by show _=_;kernel_rfl)(z:∀k o p,pf f (t k o p) [q k,q o,q p] r m:=by intros;show _=_;kernel_rfl)(k:a)(o:b)(p:c):aK R:=mkC [] hd l y (t k o p) 0 _ [] _ _ (z k o p)
abbrev mkv5 (t:a->b->c->d->e->T R)(r:R->ac)(m:R->Mem)(y:bo f:=by show _=_;kernel_rfl)(z:∀k o p s w,pf f (t k o p s w) [q k,q o,q p,q s,q w] r m:=by intros;show _=_;kernel_rfl)(k:a)(o:b)(p:c)(s:d)(w:e):aK R:=mkC [] hd l y (t k o p s w) 0 _ [] _ _ (z k o p s w)
end
structure ek where
 XL:ByteArray
 Xp:Int
 XG:Int
 XH:(Int×Int×Int)
 Lo:Int
 Hi:Int
 XB:Int
 XV:Int
 XX:Int
 XU:Int
instance:Inhabited ek:=⟨⟨qt,qt,qt,qt,qt,qt,qt,qt,qt,qt⟩⟩
structure gN where
 Xy:Int
 XY:Int
 Xu:(Int×Int×Int)
instance:Inhabited gN:=⟨⟨qt,qt,qt⟩⟩
structure am where
 Xa:(List ek)
 Xn:(List gN)
instance:Inhabited am:=⟨⟨qt,qt⟩⟩
structure bD where
 Xy:Int
 XC:Int
 Xb:(List (Int×Int×Int))
instance:Inhabited bD:=⟨⟨qt,qt,qt⟩⟩
structure pi where
 A:Int
 B:Int
instance:Inhabited pi:=⟨⟨qt,qt⟩⟩
structure aj where
 Xe:am
 Xc:(List bD)
 Xo:(List pi)
instance:Inhabited aj:=⟨⟨qt,qt,qt⟩⟩
structure c6 where
 XA:Int
 XI:Int
 Xh:Int
 XO:Int
instance:Inhabited c6:=⟨⟨qt,qt,qt,qt⟩⟩
structure it where
 Xy:Int
 XH:(Int×Int×Int)
instance:Inhabited it:=⟨⟨qt,qt⟩⟩
structure dF where
 XL:ByteArray
 Xc:(List bD)
instance:Inhabited dF:=⟨⟨qt,qt⟩⟩
structure fK where
 Xs:Int
 Place:Int
 At:(List Int)
instance:Inhabited fK:=⟨⟨qt,qt,qt⟩⟩
structure al where
 Xi:aj
 Xd:(List dF)
 Xj:(List (Int×Int×Int))
 Xm:(List it)
 Xl:(List fK)
 Xq:Int
instance:Inhabited al:=⟨⟨qt,qt,qt,qt,qt,qt⟩⟩
structure aD where
 Xg:(List Int)
instance:Inhabited aD:=⟨⟨qt⟩⟩
structure aO where
 Xp:Int
 Xs:Int
 Place:Int
instance:Inhabited aO:=⟨⟨qt,qt,qt⟩⟩
structure fm where
 Xh:Int
 Xr:Int
 Xv:(List Int)
instance:Inhabited fm:=⟨⟨qt,qt,qt⟩⟩
structure co where
 XK:(List (Int×Int×Int))
 XF:(List fm)
instance:Inhabited co:=⟨⟨qt,qt⟩⟩
structure aY where
 Xb:(List (List Int))
 Xf:(List co)
instance:Inhabited aY:=⟨⟨qt,qt⟩⟩
structure dc where
 Xt:aO
 XJ:Int
 Path:aY
instance:Inhabited dc:=⟨⟨qt,qt,qt⟩⟩
structure fH where
 where_:(Int×Int×Int×Int×Int×Int)
 last:Int
 action:aO
instance:Inhabited fH:=⟨⟨qt,qt,qt⟩⟩
structure nS where
 XZ:aD
 Xt:aO
instance:Inhabited nS:=⟨⟨qt,qt⟩⟩
structure ir where
 in_:(Int×Int×Int×Int×Int×Int)
 by_:aO
instance:Inhabited ir:=⟨⟨qt,qt⟩⟩
structure fi where
 before:(Int×Int×Int×Int×Int×Int)
 by_:aO
instance:Inhabited fi:=⟨⟨qt,qt⟩⟩
structure af where
 Lo:Int
 Hi:Int
instance:Inhabited af:=⟨⟨qt,qt⟩⟩
structure aV where
 R:((af×af×af)×(af×af×af)×(af×af×af))
 T:(af×af×af)
instance:Inhabited aV:=⟨⟨qt,qt⟩⟩
structure ip where
 A:Int
 B:Int
instance:Inhabited ip:=⟨⟨qt,qt⟩⟩
structure gj where
 shapes:(List bD)
 pairs:(List ip)
 points:(List (List (af×af×af)))
instance:Inhabited gj:=⟨⟨qt,qt,qt⟩⟩
structure dz where
 XS:Int
 Left:(List Int)
 XP:(List Int)
instance:Inhabited dz:=⟨⟨qt,qt,qt⟩⟩
structure fo where
 Xp:Int
 Xk:(List (Int×Int×Int))
 Xw:dz
instance:Inhabited fo:=⟨⟨qt,qt,qt⟩⟩
structure pp where
 a:(List (af×af×af))
 b:(List (af×af×af))
 ra:Int
 rb:Int
instance:Inhabited pp:=⟨⟨qt,qt,qt,qt⟩⟩
structure iC where
 points:(List (af×af×af))
 radius:Int
instance:Inhabited iC:=⟨⟨qt,qt⟩⟩
structure iu where
 a:iC
 b:iC
instance:Inhabited iu:=⟨⟨qt,qt⟩⟩
structure iG where
 Xp:Int
 XQ:(Int×Int×Int)
 Left:(List Int)
 XP:(List Int)
 Steps:Int
instance:Inhabited iG:=⟨⟨qt,qt,qt,qt,qt⟩⟩
structure pK where
 points:(List (Int×Int×Int))
 weights:(List Int)
instance:Inhabited pK:=⟨⟨qt,qt⟩⟩
structure uA where
 list:pK
instance:Inhabited uA:=⟨⟨qt⟩⟩
structure uq where
 list:pK
instance:Inhabited uq:=⟨⟨qt⟩⟩
structure Ki where
 left:uA
 right:uq
 normal:(Int×Int×Int)
 rounds:Int
instance:Inhabited Ki:=⟨⟨qt,qt,qt,qt⟩⟩
structure pg where
 witness:dz
instance:Inhabited pg:=⟨⟨qt⟩⟩
structure kB where
 normals:(List (Int×Int×Int))
instance:Inhabited kB:=⟨⟨qt⟩⟩
structure aN where
 Xh:Int
 Xr:Int
 Xk:(List (Int×Int×Int))
instance:Inhabited aN:=⟨⟨qt,qt,qt⟩⟩
structure cO where
 Xp:Int
 Xx:(List aN)
 At:aN
 Xw:dz
instance:Inhabited cO:=⟨⟨qt,qt,qt,qt⟩⟩
structure cw where
 U:Int
 V:Int
 XM:Int
 Xz:Int
 XD:cO
instance:Inhabited cw:=⟨⟨qt,qt,qt,qt,qt⟩⟩
structure aJ where
 Xb:(List (List Int))
 Xf:(List cw)
instance:Inhabited aJ:=⟨⟨qt,qt⟩⟩
structure fg where
 Xu:Int
 XN:Int
 XT:Int
 XR:Int
instance:Inhabited fg:=⟨⟨qt,qt,qt,qt⟩⟩
structure lK where
 joints:(List ek)
 points:(List (List Int))
 tree:(List fg)
 q:(List Int)
instance:Inhabited lK:=⟨⟨qt,qt,qt,qt⟩⟩
structure dq where
 XE:(List Int)
 XM:Int
instance:Inhabited dq:=⟨⟨qt,qt⟩⟩
structure eQ where
 to:Int
 cost:Int
instance:Inhabited eQ:=⟨⟨qt,qt⟩⟩
structure db where
 cost:Int
 points:Int
instance:Inhabited db:=⟨⟨qt,qt⟩⟩
structure eR where
 rank:db
 point:Int
instance:Inhabited eR:=⟨⟨qt,qt⟩⟩
structure lU where
 scene:aj
 depth:Int
instance:Inhabited lU:=⟨⟨qt,qt⟩⟩
structure io where
 scene:aj
 p:(List Int)
 q:(List Int)
 pieces:(List aN)
instance:Inhabited io:=⟨⟨qt,qt,qt,qt⟩⟩
structure vB where
 list:(List Int)
 next:Int
instance:Inhabited vB:=⟨⟨qt,qt⟩⟩
structure kK where
 XM:Int
 Xf:Int
instance:Inhabited kK:=⟨⟨qt,qt⟩⟩
structure vC where
 depth:Int
 index:Int
 hints:(List (Int×Int×Int))
instance:Inhabited vC:=⟨⟨qt,qt,qt⟩⟩
structure kz where
 points:(List (af×af×af))
 radius:Int
instance:Inhabited kz:=⟨⟨qt,qt⟩⟩
structure vi where
 mode:aD
 before:Int
 action:aO
 depth:Int
instance:Inhabited vi:=⟨⟨qt,qt,qt,qt⟩⟩
abbrev A3:=List ek
abbrev A4:=List it
abbrev A5:=List bD
abbrev A6:=List dF
abbrev A7:=List Int
abbrev A8:=List A7
abbrev A9:=A7×A7
abbrev Aa:=List fK
abbrev Ab:=List gN
abbrev Ac:=List aO
abbrev Ad:=Ac×Int
abbrev Ae:=List nS
abbrev Af:=A5×Int
abbrev Ag:=List pi
abbrev Ah:=List af
abbrev Ai:=Ah×Int
abbrev Aj:=List aV
abbrev Ak:=A7×Int
abbrev Al:=List ip
abbrev Am:=Al×Int
abbrev An:=List fg
abbrev Ao:=List cw
abbrev Ap:=A8×Ao
abbrev Aq:=Ao×Int
abbrev Ar:=List aN
abbrev As:=Ar×Int
abbrev Au:=A8×Int
abbrev Av:=List eQ
abbrev Aw:=List Av
abbrev Ax:=List eR
abbrev Ay:=List db
abbrev Az:=List fm
abbrev B0:=List co
abbrev B1:=B0×Int
abbrev B4:=List dc
abbrev B5:=List kz
abbrev B6:=Int×Int
abbrev B7:=List B6
abbrev B8:=Nat×Nat
abbrev Ba:=List (B6×Bool)
abbrev Bc:=List (fH×dc)
abbrev Be:=List (ir×Bool)
abbrev Bf:=Int×Bool
abbrev Bg:=Int×A7×An
abbrev Bh:=Int×A7×A7
abbrev Bi:=A7×A7×Int
abbrev Bj:=A8×Ao×Bool
abbrev Bk:=Int×Int×Int
abbrev Bl:=List Bk
abbrev Bm:=Bl×Int
abbrev Bo:=List (Bk×Int)
abbrev Bp:=Bk×Bool
abbrev Bq:=af×af×af
abbrev Br:=List Bq
abbrev Bs:=List Br
abbrev Bt:=Bq×Bq×Bq
abbrev Bu:=Bool×Int×Int
abbrev Bv:=Int×Int×Bool
abbrev Bw:=Bool×Bool×Bk
abbrev Bx:=Bool×Bool×Bool
abbrev By:=Ar×Int×Int×Bl
abbrev Bz:=A7×Int×A7×Int
abbrev C0:=A7×Int×Aa×Int
abbrev C1:=Int×A7×Int×Int
abbrev C2:=Int×Int×Int×Int
abbrev C3:=Bool×ByteArray×A5
abbrev C4:=Bool×Bool×Bool×Bool
abbrev C5:=Int×Int×Int×Int×Int
abbrev C6:=A7×Bc×A7×B4×Int×Int
abbrev C7:=Int×Int×Int×Int×Int×Int
abbrev C8:=List C7
abbrev C9:=C7×fi
abbrev Ca:=List C9
abbrev Cb:=Ca×C8×Int
abbrev Cc:=Bool×Bk×Br×Br×Int×Int×Bl
abbrev Cd:=Bc×Int×Int×Int×Int×A8×B0
abbrev Ce:=Int×Int×Int×Int×Int×Int×Int
abbrev Cf:=Int×Int×Int×Int×Int×Int×Int×Int×Int×Int
abbrev Cg:=Cf×Bool
abbrev Ch:=Int×Int×Int×Int×Int×Int×Int×Int×Int×Int×Int
abbrev Ci:=Bool×Ar×Int×Ar×Int×Int×Bl×Int×A7×A7×A7×A7×A3×Ab×A5×Ag×Int
abbrev Cj:=Int×Int×Int×Int×Int×Int×Int×Int×Int×Int×Int×Int×Int×Int×Int×Int×Int×Int×Int×Int×Int×Int×Int×Int
def mj (v:ek):ae:=.agg [.str v.XL,kf v.Xp,kf v.XG,kf v.XH.1,kf v.XH.2.1,kf v.XH.2.2,kf v.Lo,kf v.Hi,kf v.XB,kf v.XV,kf v.XX,kf v.XU]
def mC (v:gN):ae:=.agg [kf v.Xy,kf v.XY,kf v.Xu.1,kf v.Xu.2.1,kf v.Xu.2.2]
def ad8 (v:am):ae:=.agg [encL 12 mj v.Xa,encL 5 mC v.Xn]
def cl (v:Bk):ae:=.agg [kf v.1,kf v.2.1,kf v.2.2]
def kU (v:bD):ae:=.agg [kf v.Xy,kf v.XC,encL 3 cl v.Xb]
def n9 (v:pi):ae:=.agg [kf v.A,kf v.B]
def ada (v:aj):ae:=.agg [encL 12 mj v.Xe.Xa,encL 5 mC v.Xe.Xn,encL 3 kU v.Xc,encL 2 n9 v.Xo]
def acn (v:c6):ae:=.agg [kf v.XA,kf v.XI,kf v.Xh,kf v.XO]
def R9 (v:it):ae:=.agg [kf v.Xy,kf v.XH.1,kf v.XH.2.1,kf v.XH.2.2]
def Dd (v:dF):ae:=.agg [.str v.XL,encL 3 kU v.Xc]
def R8 (v:fK):ae:=.agg [kf v.Xs,kf v.Place,encL 1 bI v.At]
def aa4 (v:al):ae:=.agg [encL 12 mj v.Xi.Xe.Xa,encL 5 mC v.Xi.Xe.Xn,encL 3 kU v.Xi.Xc,encL 2 n9 v.Xi.Xo,encL 2 Dd v.Xd,encL 3 cl v.Xj,encL 4 R9 v.Xm,encL 3 R8 v.Xl,kf v.Xq]
def aev (v:aD):ae:=.agg [encL 1 bI v.Xg]
def Qw (v:aO):ae:=.agg [kf v.Xp,kf v.Xs,kf v.Place]
def mI (v:fm):ae:=.agg [kf v.Xh,kf v.Xr,encL 1 bI v.Xv]
def dH (v:co):ae:=.agg [encL 3 cl v.XK,encL 3 mI v.XF]
def aew (v:aY):ae:=.agg [encL 1 (encL 1 bI) v.Xb,encL 2 dH v.Xf]
def dx (v:dc):ae:=.agg [kf v.Xt.Xp,kf v.Xt.Xs,kf v.Xt.Place,kf v.XJ,encL 1 (encL 1 bI) v.Path.Xb,encL 2 dH v.Path.Xf]
def WB (v:fH):ae:=.agg [kf v.where_.1,kf v.where_.2.1,kf v.where_.2.2.1,kf v.where_.2.2.2.1,kf v.where_.2.2.2.2.1,kf v.where_.2.2.2.2.2,kf v.last,kf v.action.Xp,kf v.action.Xs,kf v.action.Place]
def bV (v:fH):List ae:=[kf v.where_.1,kf v.where_.2.1,kf v.where_.2.2.1,kf v.where_.2.2.2.1,kf v.where_.2.2.2.2.1,kf v.where_.2.2.2.2.2,kf v.last,kf v.action.Xp,kf v.action.Xs,kf v.action.Place]
def Td (v:nS):ae:=.agg [encL 1 bI v.XZ.Xg,kf v.Xt.Xp,kf v.Xt.Xs,kf v.Xt.Place]
def aay (v:ir):ae:=.agg [kf v.in_.1,kf v.in_.2.1,kf v.in_.2.2.1,kf v.in_.2.2.2.1,kf v.in_.2.2.2.2.1,kf v.in_.2.2.2.2.2,kf v.by_.Xp,kf v.by_.Xs,kf v.by_.Place]
def gP (v:ir):List ae:=[kf v.in_.1,kf v.in_.2.1,kf v.in_.2.2.1,kf v.in_.2.2.2.1,kf v.in_.2.2.2.2.1,kf v.in_.2.2.2.2.2,kf v.by_.Xp,kf v.by_.Xs,kf v.by_.Place]
def eG (v:fi):ae:=.agg [kf v.before.1,kf v.before.2.1,kf v.before.2.2.1,kf v.before.2.2.2.1,kf v.before.2.2.2.2.1,kf v.before.2.2.2.2.2,kf v.by_.Xp,kf v.by_.Xs,kf v.by_.Place]
def aa5 (v:C7):ae:=.agg [kf v.1,kf v.2.1,kf v.2.2.1,kf v.2.2.2.1,kf v.2.2.2.2.1,kf v.2.2.2.2.2]
def cL (v:C7):List ae:=[kf v.1,kf v.2.1,kf v.2.2.1,kf v.2.2.2.1,kf v.2.2.2.2.1,kf v.2.2.2.2.2]
def vp (v:af):ae:=.agg [kf v.Lo,kf v.Hi]
def Sc (v:aV):ae:=.agg [kf v.R.1.1.Lo,kf v.R.1.1.Hi,kf v.R.1.2.1.Lo,kf v.R.1.2.1.Hi,kf v.R.1.2.2.Lo,kf v.R.1.2.2.Hi,kf v.R.2.1.1.Lo,kf v.R.2.1.1.Hi,kf v.R.2.1.2.1.Lo,kf v.R.2.1.2.1.Hi,kf v.R.2.1.2.2.Lo,kf v.R.2.1.2.2.Hi,kf v.R.2.2.1.Lo,kf v.R.2.2.1.Hi,kf v.R.2.2.2.1.Lo,kf v.R.2.2.2.1.Hi,kf v.R.2.2.2.2.Lo,kf v.R.2.2.2.2.Hi,kf v.T.1.Lo,kf v.T.1.Hi,kf v.T.2.1.Lo,kf v.T.2.1.Hi,kf v.T.2.2.Lo,kf v.T.2.2.Hi]
def Y6 (v:C2):ae:=.agg [kf v.1,kf v.2.1,kf v.2.2.1,kf v.2.2.2]
def WJ (v:Bt):ae:=.agg [kf v.1.1.Lo,kf v.1.1.Hi,kf v.1.2.1.Lo,kf v.1.2.1.Hi,kf v.1.2.2.Lo,kf v.1.2.2.Hi,kf v.2.1.1.Lo,kf v.2.1.1.Hi,kf v.2.1.2.1.Lo,kf v.2.1.2.1.Hi,kf v.2.1.2.2.Lo,kf v.2.1.2.2.Hi,kf v.2.2.1.Lo,kf v.2.2.1.Hi,kf v.2.2.2.1.Lo,kf v.2.2.2.1.Hi,kf v.2.2.2.2.Lo,kf v.2.2.2.2.Hi]
def gO (v:Bq):ae:=.agg [kf v.1.Lo,kf v.1.Hi,kf v.2.1.Lo,kf v.2.1.Hi,kf v.2.2.Lo,kf v.2.2.Hi]
def Sa (v:ip):ae:=.agg [kf v.A,kf v.B]
def Yl (v:gj):ae:=.agg [encL 3 kU v.shapes,encL 2 Sa v.pairs,encL 1 (encL 6 gO) v.points]
def abu (v:dz):ae:=.agg [kf v.XS,encL 1 bI v.Left,encL 1 bI v.XP]
def abt (v:fo):ae:=.agg [kf v.Xp,encL 3 cl v.Xk,kf v.Xw.XS,encL 1 bI v.Xw.Left,encL 1 bI v.Xw.XP]
def WS (v:pp):ae:=.agg [encL 6 gO v.a,encL 6 gO v.b,kf v.ra,kf v.rb]
def ZC (v:iC):ae:=.agg [encL 6 gO v.points,kf v.radius]
def Y9 (v:iu):ae:=.agg [encL 6 gO v.a.points,kf v.a.radius,encL 6 gO v.b.points,kf v.b.radius]
def abr (v:iG):ae:=.agg [kf v.Xp,kf v.XQ.1,kf v.XQ.2.1,kf v.XQ.2.2,encL 1 bI v.Left,encL 1 bI v.XP,kf v.Steps]
def YH (v:pK):ae:=.agg [encL 3 cl v.points,encL 1 bI v.weights]
def YG (v:uA):ae:=.agg [encL 3 cl v.list.points,encL 1 bI v.list.weights]
def Ym (v:uq):ae:=.agg [encL 3 cl v.list.points,encL 1 bI v.list.weights]
def Yn (v:Ki):ae:=.agg [encL 3 cl v.left.list.points,encL 1 bI v.left.list.weights,encL 3 cl v.right.list.points,encL 1 bI v.right.list.weights,kf v.normal.1,kf v.normal.2.1,kf v.normal.2.2,kf v.rounds]
def WA (v:pg):ae:=.agg [kf v.witness.XS,encL 1 bI v.witness.Left,encL 1 bI v.witness.XP]
def Wz (v:kB):ae:=.agg [encL 3 cl v.normals]
def nY (v:aN):ae:=.agg [kf v.Xh,kf v.Xr,encL 3 cl v.Xk]
def ZB (v:cO):ae:=.agg [kf v.Xp,encL 3 nY v.Xx,kf v.At.Xh,kf v.At.Xr,encL 3 cl v.At.Xk,kf v.Xw.XS,encL 1 bI v.Xw.Left,encL 1 bI v.Xw.XP]
def Kw (v:cw):ae:=.agg [kf v.U,kf v.V,kf v.XM,kf v.Xz,kf v.XD.Xp,encL 3 nY v.XD.Xx,kf v.XD.At.Xh,kf v.XD.At.Xr,encL 3 cl v.XD.At.Xk,kf v.XD.Xw.XS,encL 1 bI v.XD.Xw.Left,encL 1 bI v.XD.Xw.XP]
def abs (v:aJ):ae:=.agg [encL 1 (encL 1 bI) v.Xb,encL 12 Kw v.Xf]
def YF (v:Cf):ae:=.agg [kf v.1,kf v.2.1,kf v.2.2.1,kf v.2.2.2.1,kf v.2.2.2.2.1,kf v.2.2.2.2.2.1,kf v.2.2.2.2.2.2.1,kf v.2.2.2.2.2.2.2.1,kf v.2.2.2.2.2.2.2.2.1,kf v.2.2.2.2.2.2.2.2.2]
def fh (v:Cf):List ae:=[kf v.1,kf v.2.1,kf v.2.2.1,kf v.2.2.2.1,kf v.2.2.2.2.1,kf v.2.2.2.2.2.1,kf v.2.2.2.2.2.2.1,kf v.2.2.2.2.2.2.2.1,kf v.2.2.2.2.2.2.2.2.1,kf v.2.2.2.2.2.2.2.2.2]
def Qx (v:fg):ae:=.agg [kf v.Xu,kf v.XN,kf v.XT,kf v.XR]
def WT (v:lK):ae:=.agg [encL 12 mj v.joints,encL 1 (encL 1 bI) v.points,encL 4 Qx v.tree,encL 1 bI v.q]
def OD (v:B6):ae:=.agg [kf v.1,kf v.2]
def eE (v:B6):List ae:=[kf v.1,kf v.2]
def ad9 (v:dq):ae:=.agg [encL 1 bI v.XE,kf v.XM]
def lP (v:eQ):ae:=.agg [kf v.to,kf v.cost]
def Nq (v:db):ae:=.agg [kf v.cost,kf v.points]
def MW (v:eR):ae:=.agg [kf v.rank.cost,kf v.rank.points,kf v.point]
def Y8 (v:lU):ae:=.agg [encL 12 mj v.scene.Xe.Xa,encL 5 mC v.scene.Xe.Xn,encL 3 kU v.scene.Xc,encL 2 n9 v.scene.Xo,kf v.depth]
def WK (v:io):ae:=.agg [encL 12 mj v.scene.Xe.Xa,encL 5 mC v.scene.Xe.Xn,encL 3 kU v.scene.Xc,encL 2 n9 v.scene.Xo,encL 1 bI v.p,encL 1 bI v.q,encL 3 nY v.pieces]
def dn (v:Bk):List ae:=[kf v.1,kf v.2.1,kf v.2.2]
def Y7 (v:vB):ae:=.agg [encL 1 bI v.list,kf v.next]
def Zb (v:kK):ae:=.agg [kf v.XM,kf v.Xf]
def Za (v:vC):ae:=.agg [kf v.depth,kf v.index,encL 3 cl v.hints]
def ZD (v:kz):ae:=.agg [encL 6 gO v.points,kf v.radius]
def ZE (v:vi):ae:=.agg [encL 1 bI v.mode.Xg,kf v.before,kf v.action.Xp,kf v.action.Xs,kf v.action.Place,kf v.depth]
def ui (v:Ch):ae:=.agg [kf v.1,kf v.2.1,kf v.2.2.1,kf v.2.2.2.1,kf v.2.2.2.2.1,kf v.2.2.2.2.2.1,kf v.2.2.2.2.2.2.1,kf v.2.2.2.2.2.2.2.1,kf v.2.2.2.2.2.2.2.2.1,kf v.2.2.2.2.2.2.2.2.2.1,kf v.2.2.2.2.2.2.2.2.2.2]
instance:En ek:=⟨12,mj⟩
instance:En gN:=⟨5,mC⟩
instance:En am:=⟨2,ad8⟩
instance:En bD:=⟨3,kU⟩
instance:En pi:=⟨2,n9⟩
instance:En aj:=⟨4,ada⟩
instance:En c6:=⟨4,acn⟩
instance:En Bk:=⟨3,cl⟩
instance:En it:=⟨4,R9⟩
instance:En dF:=⟨2,Dd⟩
instance:En fK:=⟨3,R8⟩
instance:En al:=⟨9,aa4⟩
instance:En aD:=⟨1,aev⟩
instance:En aO:=⟨3,Qw⟩
instance:En fm:=⟨3,mI⟩
instance:En co:=⟨2,dH⟩
instance:En aY:=⟨2,aew⟩
instance:En dc:=⟨6,dx⟩
instance:En fH:=⟨10,WB⟩
instance:En nS:=⟨4,Td⟩
instance:En ir:=⟨9,aay⟩
instance:En fi:=⟨9,eG⟩
instance:En C7:=⟨6,aa5⟩
instance:En af:=⟨2,vp⟩
instance:En aV:=⟨24,Sc⟩
instance:En C2:=⟨4,Y6⟩
instance:En Bt:=⟨18,WJ⟩
instance:En Bq:=⟨6,gO⟩
instance:En ip:=⟨2,Sa⟩
instance:En gj:=⟨3,Yl⟩
instance:En dz:=⟨3,abu⟩
instance:En fo:=⟨5,abt⟩
instance:En pp:=⟨4,WS⟩
instance:En iC:=⟨2,ZC⟩
instance:En iu:=⟨4,Y9⟩
instance:En iG:=⟨7,abr⟩
instance:En pK:=⟨2,YH⟩
instance:En uA:=⟨2,YG⟩
instance:En uq:=⟨2,Ym⟩
instance:En Ki:=⟨8,Yn⟩
instance:En pg:=⟨3,WA⟩
instance:En kB:=⟨1,Wz⟩
instance:En aN:=⟨3,nY⟩
instance:En cO:=⟨8,ZB⟩
instance:En cw:=⟨12,Kw⟩
instance:En aJ:=⟨2,abs⟩
instance:En Cf:=⟨10,YF⟩
instance:En fg:=⟨4,Qx⟩
instance:En lK:=⟨4,WT⟩
instance:En B6:=⟨2,OD⟩
instance:En dq:=⟨2,ad9⟩
instance:En eQ:=⟨2,lP⟩
instance:En db:=⟨2,Nq⟩
instance:En eR:=⟨3,MW⟩
instance:En lU:=⟨5,Y8⟩
instance:En io:=⟨7,WK⟩
instance:En vB:=⟨2,Y7⟩
instance:En kK:=⟨2,Zb⟩
instance:En vC:=⟨3,Za⟩
instance:En kz:=⟨2,ZD⟩
instance:En vi:=⟨6,ZE⟩
theorem gq20 (a b:Nat){f:FuncId}{fn:Func}(q:prog.funcs[f]?=some fn)(h:(fn.name== "runtime.NumGoroutine")=false:=by kernel_rfl)(o:fn.body=some (.seq (.region 0 #[((gOps fn).getD 0 qt),((gOps fn).getD 1 qt)] E) (.cond (.tmp b) (gX fn) .skip)):=by kernel_rfl)(p:((gOps fn).getD 0 qt).op=.call (gC ((gOps fn).getD 0 qt)):=by kernel_rfl)(r:(gC ((gOps fn).getD 0 qt)).callee=.builtin .recover:=by kernel_rfl)(s:((gOps fn).getD 0 qt).dst=some a:=by kernel_rfl)(t:((gOps fn).getD 0 qt).guard=none:=by kernel_rfl)(w:((gOps fn).getD 1 qt).op=.binOp .neq 20 (.tmp a) (.const .nilIface) 20:=by kernel_rfl)(x:((gOps fn).getD 1 qt).dst=some b:=by kernel_rfl)(y:((gOps fn).getD 1 qt).guard=none:=by kernel_rfl)(z:a<fn.ntmps:=by decide)(k:b<fn.ntmps:=by decide)(m:fn.results=#[]:=by kernel_rfl):GuardFn prog f:=
 acr q h ⟨0,_,_,a,b,gX fn,_,20,20,o,p,r,s,t,w,x,y,⟨gMs (prog.underlying 20),jY⟩,z,k,m⟩
theorem aeE:GuardFn prog 120:=
 gq20 1 2 func120
theorem aeF:GuardFn prog 125:=
 gq20 4 5 func125
theorem aeG:GuardFn prog 129:=
 gq20 1 2 func129
theorem aeH:GuardFn prog 133:=
 gq20 2 3 func133
theorem aeI:GuardFn prog 200:=
 gq20 2 3 func200
theorem aeJ:GuardFn prog 205:=
 gq20 2 3 func205
theorem aeK:GuardFn prog 206:=
 gq20 1 2 func206
theorem aeL:GuardFn prog 207:=
 gq20 2 3 func207
theorem aeM:GuardFn prog 212:=
 gq20 3 4 func212
theorem aeN:GuardFn prog 215:=
 gq20 2 3 func215
theorem aeO:GuardFn prog 224:=
 gq20 3 4 func224
theorem aeP:GuardFn prog 279:=
 gq20 2 3 func279
theorem aeQ:GuardFn prog 280:=
 gq20 2 3 func280
theorem Sm:GuardFn prog 286:=
 gq20 2 3 func286
theorem aeR:GuardFn prog 296:=
 gq20 1 2 func296
theorem aeS:GuardFn prog 300:=
 gq20 1 2 func300
theorem aeT:GuardFn prog 306:=
 gq20 1 2 func306
theorem aeU:GuardFn prog 322:=
 gq20 1 2 func322
theorem aeV:GuardFn prog 323:=
 gq20 1 2 func323
theorem aeW:GuardFn prog 357:=
 gq20 1 2 func357
theorem aeX:GuardFn prog 383:=
 gq20 1 2 func383
theorem aeY:GuardFn prog 411:=
 gq20 1 2 func411
theorem aeZ:GuardFn prog 415:=
 gq20 2 3 func415
theorem af0:GuardFn prog 423:=
 gq20 1 2 func423
theorem af1:GuardFn prog 433:=
 gq20 1 2 func433
theorem af2:GuardFn prog 487:=
 gq20 2 3 func487
theorem af3:GuardFn prog 510:=
 gq20 2 3 func510
def ya (k:Int):T ByteArray:=let m:=G qs (k+1);.grd (0<=k/\k<=m/\m<=(((⟨#[97,98,99,100,101,102,103,104,105,106]⟩:ByteArray).size:Nat):Int))<|.jT ((⟨#[97,98,99,100,101,102,103,104,105,106]⟩:ByteArray).extract k.toNat m.toNat)
def xn:=mkp1 func32 ya
def aab (o p:Int):T am:=.vn (λ(k:(A3×Int))=>([(6,pz k.2)],[(65,vO k.1 85)])) [0,1,4,5] [0,1,2,64,66] 0 (λ(k:A3)=>([],[(65,vO k 85)])) [4,5] [0,1,2,64,66] (λk=>.kh (k.2<o) (.cc (xn k.2) λr=>let m:=([(⟨r,(G qs (4+(k.2.tmod 2))),(G qs (k.2-1)),(0,0,0),0,p,1,65536,65536,65536⟩:ek)]:A3);
 .ok ((2:Int)≠0) jU<|.vh 5011 k.1 m 85 104<|.nn ((k.1++m),(G qs (k.2+1)))) (.oo k.1)) (nl,0) λk=>.jT (⟨k,nl⟩:am)
def v9:=mkp2 func28 aab
def aby:T al:=.cc (v9 2 64) λk=>.conv 3002 (kL ([(16,0,0),(32,0,0)]:Bl) 70)<|.conv 4001 (kL ([(⟨1,(0,0,0)⟩:it)]:A4) 87)<|.conv 5001 (kL ([(0,0,0)]:Bl) 70)<|.conv 5003 (kL ([(⟨0,1,([(0,0,0)]:Bl)⟩:bD)]:A5) 72)<|.conv 5005 (kL ([(⟨(⟨#[111]⟩:ByteArray),([(⟨0,1,([(0,0,0)]:Bl)⟩:bD)]:A5)⟩:dF)]:A6) 90)<|.conv 6000 (kL ([16,0]:A7) 2)<|.conv 6002 (kL ([32,0]:A7) 2)<|.conv 6004 (kL ([(⟨0,0,([16,0]:A7)⟩:fK),(⟨0,1,([32,0]:A7)⟩:fK)]:Aa) 92)<|.jT (⟨(⟨k,nl,nl⟩:aj),([(⟨(⟨#[111]⟩:ByteArray),([(⟨0,1,([(0,0,0)]:Bl)⟩:bD)]:A5)⟩:dF)]:A6),([(16,0,0),(32,0,0)]:Bl),([(⟨1,(0,0,0)⟩:it)]:A4),([(⟨0,0,([16,0]:A7)⟩:fK),(⟨0,1,([32,0]:A7)⟩:fK)]:Aa),0⟩:al)
def law39_one_C:aK al:=mkD func21 (aby) 0 [] [] q X6
def AZ (p k:Int):T Int:=let m:=p.tmod k;.grd (k≠0)<|.cut 0 (λs (o:Int)=>pk s [] [] [(5,pz o)] []) (.kh (m<0) (.oo (G qs (m+k))) (.oo m)) λo=>.jT o
def l9:=mkp2 func11 AZ
def LI (k m:Int):T c6:=.cc (l9 k 4) λo=>.cc (l9 m 20) λp=>.jT (⟨o,3,4,p⟩:c6)
def nC:=mkp2 func10 LI
def Kh (k:Int):T Bool:=.kh (97<=k) (.jT (qu (k<=122))) (.jT E)
def Nl k:=mkD func185 (Kh k) 0 [.pure (.int .i32 k)] [] q X6
def Lj (k:Int):T Bool:=.kh (48<=k) (.jT (qu (k<=57))) (.jT E)
def NT k:=mkD func186 (Lj k) 0 [.pure (.int .i32 k)] [] q X6
def Cm (m:ByteArray):T Bool:=let r:=(m.size:Nat);.cub 2 16 [0] [] (.ki ((r:Int)==0) (.kl ((r:Int)>16) (.oo (m==(⟨#[119,111,114,108,100]⟩:ByteArray))))) λw=>.br w (.jT E) (.loop (λs (k:Nat)=>pk s [18] [] [] [(192,.iter m k)]) (.exit 0) (jk [] []) (λk=>let t:=Utf8.decode m k;let o:=(t.1:Int);.brP (k<m.size) (.cub 2 38 [18] [192] (.cc (Nl o) λp=>.kj (!p) (.ki ((k:Int)==0) (.cc (NT o) λx=>.kj (!x) (.oo (o !=95))))) λp=>.br p (.ff E) (.nn (k+t.2))) (.oo .u))
 0 [] λ_=>.jT D)
def Cl:=mkp1 func103 Cm
def BW (m:am)(o:ByteArray):T Int:=.loop (ik 9 [1,2,8] [0]) (.exit 0) (jk [] []) (λk=>.kh (k<(C m.Xa:Int)) (.vd k m.Xa<|.br (((F m.Xa (k.toNat) qt).XL)==o) (.ff k) (.nn (G qs (k+1)))) (.oo .u))
 0 [] λ_=>.jT (-1)
def PN:=mkp2 func246 BW
def Mh (m:Bk):T Bool:=.loop (ik 6 [5] []) (.exit 0) (jk [] []) (λk=>let o:=F ([m.1,m.2.1,m.2.2]:List Int) k.toNat 0;.kh (k<3) (.gh k 3<|.cub 0 14 [5,6] [] (.kl (o<(-4194304)) (.oo (qu (o>4194304)))) λp=>.br p (.ff D) (.nn (G qs (k+1)))) (.oo .u))
 0 [] λ_=>.jT E
def Mg:=mkp1 func247 Mh
def yP (k:Int):T Int:=.cub 3 4 [3] [] (.br (k==1) (.oo (k==1)) (.br (k==2) (.oo (k==2)) (.oo (k==3)))) λm=>.br m (.jT 524288) (.cub 0 8 [] [] (.br (k==4) (.oo (k==4)) (.br (k==5) (.oo (k==5)) (.oo (k==6)))) λo=>.br o (.jT 4194304) (.jT 0))
def O4:=mkp1 func248 yP
def yO (k m:Int):T Bool:=.kh (1<=k) (.jT (qu (k<=m))) (.jT E)
def nK:=mkp2 func249 yO
def Iz (m:am)(o:Int):T Int:=let k:=F m.Xa (o.toNat) qt;let p:=k.Xp;.vd o m.Xa<|.cub 1 12 [1,5] [448] (.cc (Cl (k.XL)) λr=>.ki (!r) (.cc (PN (⟨m.Xa,m.Xn⟩:am) (k.XL)) λs=>.oo (s !=o))) λr=>.br r (.jT 802) (.cub 0 25 [1,5] [448] (.kl (p<0) (.oo (qu (p>6)))) λs=>.br s (.jT 803) (.cub 0 34 [5] [448] (.kl ((k.XG)<(-1)) (.oo (qu ((k.XG)>=o)))) λx=>.br x (.jT 804) (.cc (Mg (k.XH)) λy=>.br y (.jT 805) (.cc (O4 p) λw=>.cub 1 68 [5] [448] (.kl ((k.Lo)>(k.Hi)) (.kl ((k.Lo)<(G qs (0-w))) (.oo (qu ((k.Hi)>w))))) λz=>.br z (.jT 806) (.cub 1 90 [] [] (.cc (nK (k.XB) 1024) λt=>.ki (!t) (.cc (nK (k.XV) 1048576) λA=>.ki (!A) (.cc (nK (k.XX) 1048576) λB=>.ki (!B) (.cc (nK (k.XU) 1099511627776) λH=>.oo (!H))))) λt=>.br t (.jT 807) (.jT 0))))))
def Wq:=mkp2 func160 Iz
def Jf (m:am)(k:gN):T Bool:=.kh (0<=k.Xy) (.kh (k.Xy<(C m.Xa:Int)) (.cc (nK k.XY 65536) λo=>.br o (.cc (Mg k.Xu) λp=>.jT (!p)) (.jT E)) (.jT E)) (.jT E)
def MJ:=mkp2 func163 Jf
def KY (k:gN)(m:A3)(o:Ab):T (Bool×A3×Ab):=.cc (MJ (⟨m,o⟩:am) (⟨k.Xy,k.XY,k.Xu⟩:gN)) λp=>.jT ((!p),m,o)
def NK k m o:=mkD func162 (KY k m o) 1 [q k,X7 0] [(0,.box [q m,q o])] (λr=>q r.1) (λr=>[(0,.box [q r.2.1,q r.2.2])])
def GD (p:Ab)(r:A3)(s:Ab):T (Int×A3×Ab):=.vn (λ(k:(A3×Ab×Int))=>([(8,pz k.2.2)],[(0,.box [q k.1,q k.2.1])])) [0,1,7] [] 0 (λ(k:(A3×Ab))=>([],[(0,.box [q k.1,q k.2])])) [] [] (λk=>let m:=k.2.2;.kh (m<(C p:Int)) (.vd m p<|.call (NK (F p (X3 m) qt) k.1 k.2.1) [(0,0)] λo=>.br o.1 (.ff (m,o.2.1,o.2.2)) (.nn (o.2.1,o.2.2,(G qs (m+1))))) (.oo (k.1,k.2.1))) (r,s,0) λk=>.jT ((-1),k.1,k.2)
def Vl k m o:=mkD func250 (GD k m o) 1 [q k,.func 162 [] [X7 0]] [(0,.box [q m,q o])] (λr=>pz r.1) (λr=>[(0,.box [q r.2.1,q r.2.2])])
def Gy (m:Ab)(o:A3)(p:Ab):T (Bool×A3×Ab):=.call (Vl m o p) [(0,0)] λk=>.jT ((qu (k.1>=0)),k.2.1,k.2.2)
def Vf k m o:=mkD func161 (Gy k m o) 1 [q k,.func 162 [] [X7 0]] [(0,.box [q m,q o])] (λr=>q r.1) (λr=>[(0,.box [q r.2.1,q r.2.2])])
def yN (k:am):T Int:=let o:=(C k.Xa:Int);.cub 2 14 [1] [0] (.ki (o==0) (.oo (qu (o>10)))) λr=>.br r (.jT 801) (.loop (ik 18 [1,17] [0]) (.exit 0) (jk [1] [0]) (λm=>.kh (m<o) (.cc (Wq (⟨k.Xa,k.Xn⟩:am) m) λp=>.br (p !=0) (.ff p) (.nn (G qs (m+1)))) (.oo .u))
 0 [] λ_=>.cub 1 37 [] [] (.kl ((C k.Xn:Int)>32) (.call (Vf k.Xn k.Xa k.Xn) [(0,0)] λm=>.oo m.1)) λm=>.br m (.jT 808) (.jT 0))
def iw:=mkp1 func75 yN
def Mi (m:aj)(k:Int):T Bool:=.kh ((-1)<=k) (.jT (qu (k<(C m.Xe.Xa:Int)))) (.jT E)
def uO:=mkp2 func117 Mi
def IA (w:aj)(k:bD):T Int:=let p:=(C k.Xb:Int);.cub 3 35 [3] [64] (.cc (uO w k.Xy) λr=>.ki (!r) (.kl (k.XC<1) (.kl (k.XC>1048576) (.kl (p<1) (.oo (qu (p>8))))))) λr=>.br r (.jT 902) (.loop (ik 39 [37,38] []) (.exit 0) (jk [] []) (λm=>let s:=F k.Xb (m.toNat) qt;.kh (m<p) (.vd m k.Xb<|.loop (ik 44 [37,38,39,43] []) (.exit 2) (jk [37,38,39] []) (λo=>.kh (o<3) (.gh o 3<|.name 9000 ((F ([s.1,s.2.1,s.2.2]:List Int) o.toNat 0)) λt=>.cub 0 52 [37,38,39,43,44] [] (.kl (t<(-4194304)) (.oo (qu (t>4194304)))) λx=>.br x (.ff (.fin 805)) (.nn (G qs (o+1)))) (.oo .u))
 0 [] λ_=>.nn (G qs (m+1))) (.oo .u))
 0 [] λ_=>.jT 0)
def Wr:=mkp2 func116 IA
def yQ (k:aj):T Int:=let r:=(C k.Xo:Int);let s:=(C k.Xc:Int);.cc (iw k.Xe) λt=>.br (t !=0) (.jT t) (.kh (s>24) (.jT 901) (.loop (ik 22 [1,20,21] [0]) (.exit 0) (jk [1] [0]) (λm=>.kh (m<s) (.vd m k.Xc<|.cc (Wr k (F k.Xc (m.toNat) qt)) λo=>.br (o !=0) (.ff o) (.nn (G qs (m+1)))) (.oo .u))
 0 [] λ_=>.kh (r>64) (.jT 903) (.loop (ik 40 [1,38,39] [0]) (.exit 2) (jk [] []) (λm=>let o:=F k.Xo (m.toNat) qt;.kh (m<r) (.vd m k.Xo<|.cub 0 55 [1,38,39,40] [0] (.cc (uO k (o.A)) λp=>.ki (!p) (.cc (uO k (o.B)) λw=>.oo (!w))) λp=>.br p (.ff 903) (.nn (G qs (m+1)))) (.oo .u))
 0 [] λ_=>.jT 0)))
def fL:=mkp1 func57 yQ
def AS (k:Bk):T Bool:=.unroll 4<|.jR<|.jG<|.jG<|.lit 6000 1<|.jR<|.jH<|.jH<|.lit 6000 2<|.jR<|.jI<|.jI<|.lit 6000 3<|.jS<|.jT (((min (max k.1 (-2097152)) 2097152)==k.1)&&(((min (max k.2.1 (-2097152)) 2097152)==k.2.1)&&(((min (max k.2.2 (-2097152)) 2097152)==k.2.2)&&D)))
def vr:=mkp1 func184 AS
def vX (k:al)(m o:Int):T Bool:=.kh (0<=m) (.kh (m<(C k.Xm:Int)) (.kh (0<=o) (.jT (qu (o<(C k.Xj:Int)))) (.jT E)) (.jT E)) (.jT E)
def vW:=mkp3 func109 vX
def IL (k:ek)(m:Int):T Bool:=.kh (k.Lo<=m) (.jT (qu (m<=k.Hi))) (.jT E)
def Mu:=mkp2 func77 IL
def GW (m:A3)(o:A7):T Bool:=let p:=(C m:Int);.br (p !=(C o:Int)) (.jT E) (.loop (ik 16 [1,2,14,15] []) (.exit 0) (jk [] []) (λk=>.kh (k<p) (.vd k m<|.vd k o<|.cc (Mu (F m (k.toNat) qt) (F o (k.toNat) qt)) λr=>.br (!r) (.ff E) (.nn (G qs (k+1)))) (.oo .u))
 0 [] λ_=>.jT D)
def VG k m:=mkD func76 (GW k m) 0 [q k,q m,.func 77 [] []] [] q X6
def Kt (k:am)(m:A7):T Bool:=.cc (iw k) λo=>.br (o==0) (.cc (VG k.Xa m) λp=>.jT p) (.jT E)
def eF:=mkp2 func37 Kt
def KA (k:al):T Bool:=let r:=(C k.Xm:Int);let s:=(C k.Xl:Int);let t:=(C k.Xj:Int);.cub 2 30 [1] [0] (.kl ((C k.Xd:Int)>6) (.kl (t>8) (.kl (r>3) (.oo (qu (s>32)))))) λw=>.br w (.jT E) (.cub 1 38 [1] [0] (.kl (k.Xq<0) (.oo (qu (k.Xq>65536)))) λx=>.br x (.jT E) (.loop (ik 42 [1,40,41] [0]) (.exit 0) (jk [1] [0]) (λm=>.kh (m<t) (.vd m k.Xj<|.cc (vr (F k.Xj (m.toNat) qt)) λo=>.br (!o) (.ff E) (.nn (G qs (m+1)))) (.oo .u))
 0 [] λ_=>.loop (ik 53 [1,51,52] [0]) (.exit 2) (jk [1] [0]) (λm=>let o:=F k.Xm (m.toNat) qt;.kh (m<r) (.vd m k.Xm<|.cub 0 75 [1,51,52,53] [0] (.kl ((o.Xy)<0) (.kl ((o.Xy)>=(C k.Xi.Xe.Xa:Int)) (.cc (vr (o.XH)) λp=>.oo (!p)))) λp=>.br p (.ff E) (.nn (G qs (m+1)))) (.oo .u))
 0 [] λ_=>.loop (ik 80 [1,78,79] [0]) (.exit 4) (jk [] []) (λm=>let o:=F k.Xl (m.toNat) qt;.kh (m<s) (.vd m k.Xl<|.cub 0 99 [1,78,79,80] [0] (.cc (vW (⟨k.Xi,k.Xd,k.Xj,k.Xm,k.Xl,k.Xq⟩:al) (o.Xs) (o.Place)) λp=>.ki (!p) (.cc (eF k.Xi.Xe (o.At)) λy=>.oo (!y))) λp=>.br p (.ff E) (.nn (G qs (m+1)))) (.oo .u))
 0 [] λ_=>.jT D))
def Kz:=mkp1 func101 KA
def Zc (m:dF)(k:ByteArray)(o:A5):T C3:=.jT ((m.XL==k),k,o)
def Ns k m o:=mkD func102 (Zc k m o) 1 [q k,X7 0] [(0,.box [q m,q o])] (λr=>q r.1) (λr=>[(0,.box [q r.2.1,q r.2.2])])
def Gu (p:A6)(r:ByteArray)(s:A5):T (Int×ByteArray×A5):=.vn (λ(k:(ByteArray×A5×Int))=>([(8,pz k.2.2)],[(0,.box [q k.1,q k.2.1])])) [0,1,7] [] 0 (λ(k:(ByteArray×A5))=>([],[(0,.box [q k.1,q k.2])])) [] [] (λk=>let m:=k.2.2;.kh (m<(C p:Int)) (.vd m p<|.call (Ns (F p (X3 m) qt) k.1 k.2.1) [(0,0)] λo=>.br o.1 (.ff (m,o.2.1,o.2.2)) (.nn (o.2.1,o.2.2,(G qs (m+1))))) (.oo (k.1,k.2.1))) (r,s,0) λk=>.jT ((-1),k.1,k.2)
def Vc k m o:=mkD func187 (Gu k m o) 1 [q k,.func 102 [] [X7 0]] [(0,.box [q m,q o])] (λr=>pz r.1) (λr=>[(0,.box [q r.2.1,q r.2.2])])
def Gq (m:A6)(o:ByteArray)(p:A5):T C3:=.call (Vc m o p) [(0,0)] λk=>.jT ((qu (k.1>=0)),k.2.1,k.2.2)
def U9 k m o:=mkD func104 (Gq k m o) 1 [q k,.func 102 [] [X7 0]] [(0,.box [q m,q o])] (λr=>q r.1) (λr=>[(0,.box [q r.2.1,q r.2.2])])
def yW (k:bD):T Bool:=let p:=(C k.Xb:Int);.cub 2 26 [1] [0] (.kl (k.XC<1) (.kl (k.XC>1048576) (.kl (p<1) (.oo (qu (p>8)))))) λt=>.br t (.jT E) (.loop (ik 30 [28,29] []) (.exit 0) (jk [] []) (λm=>let r:=F k.Xb (m.toNat) qt;.kh (m<p) (.vd m k.Xb<|.loop (ik 35 [28,29,30,34] []) (.exit 2) (jk [28,29,30] []) (λo=>.kh (o<3) (.gh o 3<|.name 8000 ((F ([r.1,r.2.1,r.2.2]:List Int) o.toNat 0)) λs=>.cub 0 43 [28,29,30,34,35] [] (.kl (s<(-4194304)) (.oo (qu (s>4194304)))) λw=>.br w (.ff (.fin E)) (.nn (G qs (o+1)))) (.oo .u))
 0 [] λ_=>.nn (G qs (m+1))) (.oo .u))
 0 [] λ_=>.jT D)
def yV:=mkp1 func188 yW
def vZ (p:dF):T Bool:=let s:=(C p.Xc:Int);.loop (ik 10 [1,8,9] [0]) (.exit 0) (jk [1] [0]) (λm=>let k:=F p.Xc (m.toNat) qt;.kh (m<s) (.vd m p.Xc<|.cub 1 21 [1,4,8,9,10] [0,640] (.cc (yV k) λr=>.ki (!r) (.oo ((k.Xy) !=0))) λr=>.br r (.ff E) (.loop (ik 25 [1,8,9,10,23,24] [0]) (.exit 2) (jk [1,8,9,10] [0]) (λo=>.kh (o<(C k.Xb:Int)) (.vd o k.Xb<|.call (vr (F (k.Xb) (o.toNat) qt)) [] λt=>.br (!t) (.ff (.fin E)) (.nn (G qs (o+1)))) (.oo .u))
 0 [] λ_=>.nn (G qs (m+1)))) (.oo .u))
 0 [] λ_=>.jT (qu (s>0))
def vY:=mkp1 func105 vZ
def vQ (m:al):T Int:=let t:=(C m.Xd:Int);.cc (fL m.Xi) λw=>.br (w !=0) (.jT w) (.cc (Kz (⟨m.Xi,m.Xd,m.Xj,m.Xm,m.Xl,m.Xq⟩:al)) λx=>.br (!x) (.jT 3401) (.loop (λs (k:B6)=>pk s [1,22,23] [0] [(4,pz k.1),(24,pz k.2)] []) (.exit 0) (ik 4 [] []) (λk=>let r:=F m.Xd (X3 k.2) qt;.kh (k.2<t) (.vd k.2 m.Xd<|.cut 2 (λs (o:(ByteArray×A5×Bool))=>pk s [1,4,6,22,23,24] [0] [(46,q o.2.2)] [(1600,.box [q o.1,q o.2.1])]) (.cc (Cl (r.XL)) λo=>.br (!o) (.oo (r.XL,r.Xc,D)) (.conv 11008 (mH 2 Dd m.Xd (0:Int) k.2)<|.grd (0<=(0:Int)/\(0:Int)<=k.2/\k.2<=t)<|.call (U9 ((m.Xd.drop (X3 (0:Int))).take ((k.2).toNat- (0:Int).toNat)) (r.XL) (r.Xc)) [(0,1600)] λp=>.br p.1 (.oo (p.2.1,p.2.2,D)) (.cc (vY (⟨p.2.1,p.2.2⟩:dF)) λy=>.oo (p.2.1,p.2.2,(!y))))) λo=>.br o.2.2 (.ff 3402) (.nn ((G qs (k.1+(C o.2.1:Int))),(G qs (k.2+1))))) (.oo k.1)) ((C m.Xi.Xc:Int),0) [] λk=>.kh (k>24) (.jT 3401) (.jT 0)))
def nG:=mkp1 func50 vQ
def Hz (m:A7)(o:Int):T Int:=.loop (ik 8 [0,1,7] []) (.exit 0) (jk [] []) (λk=>.kh (k<(C m:Int)) (.vd k m<|.br (o==(F m (k.toNat) qt)) (.ff k) (.nn (G qs (k+1)))) (.oo .u))
 0 [] λ_=>.jT (-1)
def V0:=mkp2 func159 Hz
def Hj (k:A7)(m:Int):T Bool:=.cc (V0 k m) λo=>.jT (qu (o>=0))
def VW:=mkp2 func74 Hj
def vU (k:al)(o:aD):T Bool:=let p:=(C o.Xg:Int);.cub 2 18 [2,3] [0,64] (.cc (nG (⟨k.Xi,k.Xd,k.Xj,k.Xm,k.Xl,k.Xq⟩:al)) λr=>.ki (r !=0) (.oo (p !=(C k.Xd:Int)))) λr=>.br r (.jT E) (.loop (ik 22 [2,3,20,21] [0,64]) (.exit 0) (jk [] []) (λm=>let s:=F o.Xg (m.toNat) qt;.kh (m<p) (.vd m o.Xg<|.cub 0 47 [2,3,20,21,22] [0,64] (.kl (s<(G qs (0- (C k.Xm:Int)))) (.kl (s>=(C k.Xj:Int)) (.conv 6017 (mH 1 bI o.Xg (0:Int) m)<|.grd (0<=(0:Int)/\(0:Int)<=m/\m<=p)<|.cc (VW ((o.Xg.drop (X3 (0:Int))).take (m.toNat- (0:Int).toNat)) s) λt=>.oo t))) λt=>.br t (.ff E) (.nn (G qs (m+1)))) (.oo .u))
 0 [] λ_=>.jT D)
def gU:=mkp2 func36 vU
def H4 (k:c6):T Bool:=.kh (k.XA>=0) (.kh (k.XA<=1022) (.kh (k.XI>=1) (.kh (k.XI<=16) (.kh (k.Xh>=0) (.kh (k.Xh<=20) (.kh (k.XO>=0) (.jT (qu (k.XO<=8192))) (.jT E)) (.jT E)) (.jT E)) (.jT E)) (.jT E)) (.jT E)) (.jT E)
def pn:=mkp1 func38 H4
def Li (k:aD):T C7:=.unroll 7<|.jR<|.ix 0 6 rfl<|.lit 6000 1<|.jR<|.ix 1 6 rfl<|.lit 6000 2<|.jR<|.ix 2 6 rfl<|.lit 6000 3<|.jR<|.ix 3 6 rfl<|.lit 6000 4<|.jR<|.ix 4 6 rfl<|.lit 6000 5<|.jR<|.ix 5 6 rfl<|.lit 6000 6<|.jS<|.jT ((if 0<C k.Xg then F k.Xg 0 qt else(-1048577)),(if 1<C k.Xg then F k.Xg 1 qt else(-1048577)),(if 2<C k.Xg then F k.Xg 2 qt else(-1048577)),(if 3<C k.Xg then F k.Xg 3 qt else(-1048577)),(if 4<C k.Xg then F k.Xg 4 qt else(-1048577)),(if 5<C k.Xg then F k.Xg 5 qt else(-1048577)))
def ny:=mkp1 func78 Li
def yg (o:C7)(p:A7):T Bool:=.loop (ik 9 [2,7,8] [0]) (.exit 0) (jk [] []) (λk=>let m:=F p (k.toNat) qt;.kh (k<(C p:Int)) (.vd k p<|.cub 0 22 [2,7,8,9] [0] (.kj (m !=(-1048576)) (.cas 4004 k 0 (.ix 0 6 rfl<|.oo (m !=o.1)) (.cas 4004 k 1 (.ix 1 6 rfl<|.oo (m !=o.2.1)) (.cas 4004 k 2 (.ix 2 6 rfl<|.oo (m !=o.2.2.1)) (.cas 4004 k 3 (.ix 3 6 rfl<|.oo (m !=o.2.2.2.1)) (.cas 4004 k 4 (.ix 4 6 rfl<|.oo (m !=o.2.2.2.2.1)) (.cas 4004 k 5 (.ix 5 6 rfl<|.oo (m !=o.2.2.2.2.2)) (.stop)))))))) λr=>.br r (.ff E) (.nn (G qs (k+1)))) (.oo .u))
 0 [] λ_=>.jT D
def uV:=mkp2 func79 yg
def Jm (o:fK)(k m:Int):T Bu:=.br (o.Xs==k) (.jT ((o.Place==m),k,m)) (.jT (E,k,m))
def MP k m o:=mkD func164 (Jm k m o) 2 [q k,X7 0,X7 1] [(0,.box [pz m]),(1,.box [pz o])] (λr=>q r.1) (λr=>[(0,.box [pz r.2.1]),(1,.box [pz r.2.2])])
def GC (p:Aa)(r s:Int):T Bk:=.vn (λ(k:Bk)=>([(8,pz k.2.2)],[(0,.box [pz k.1]),(1,.box [pz k.2.1])])) [0,1,7] [] 0 (λ(k:B6)=>([],[(0,.box [pz k.1]),(1,.box [pz k.2])])) [] [] (λk=>let m:=k.2.2;.kh (m<(C p:Int)) (.vd m p<|.call (MP (F p (X3 m) qt) k.1 k.2.1) [(0,0),(1,1)] λo=>.br o.1 (.ff (m,o.2.1,o.2.2)) (.nn (o.2.1,o.2.2,(G qs (m+1))))) (.oo (k.1,k.2.1))) (r,s,0) λk=>.jT ((-1),k.1,k.2)
def Vk k m o:=mkD func251 (GC k m o) 2 [q k,.func 164 [] [X7 0,X7 1]] [(0,.box [pz m]),(1,.box [pz o])] (λr=>pz r.1) (λr=>[(0,.box [pz r.2.1]),(1,.box [pz r.2.2])])
def Gw (m:Aa)(o p:Int):T Bu:=.call (Vk m o p) [(0,0),(1,1)] λk=>.jT ((qu (k.1>=0)),k.2.1,k.2.2)
def Ve k m o:=mkD func165 (Gw k m o) 2 [q k,.func 164 [] [X7 0,X7 1]] [(0,.box [pz m]),(1,.box [pz o])] (λr=>q r.1) (λr=>[(0,.box [pz r.2.1]),(1,.box [pz r.2.2])])
def Lh (p:al):T Ac:=.vn (λ(m:Ad)=>([(10,pz m.2)],[(128,vO m.1 109)])) [1,3,9] [0] 0 (λ(m:Ac)=>([],[(128,vO m 109)])) [3] [] (λm=>.kh (m.2<(C p.Xm:Int)) (.vn (λ(k:(Ac×Int×Int))=>([(16,pz k.2.2)],[(128,vO k.1 109),(640,.box [pz k.2.1])])) [1,3,4,9,10,15] [0] 2 (λ(k:Ac)=>([],[(128,vO k 109)])) [1,3,9,10] [0] (λk=>.kh (k.2.2<(C p.Xj:Int)) (.cut 0 (λs (o:Ad)=>pk s [1,4,9,10,15,16] [0] [(3,.vec 1152)] [(640,.box [pz o.2]),(1152,vO o.1 109)]) (.call (Ve p.Xl k.2.1 k.2.2) [(0,640),(1,1216)] λo=>let r:=([(⟨0,o.2.1,o.2.2⟩:aO)]:Ac);
 .br o.1 (.vh 10004 k.1 r 109 24<|.oo ((k.1++r),o.2.1)) (.oo (k.1,o.2.1))) λo=>.nn (o.1,o.2,(G qs (k.2.2+1)))) (.oo k.1)) (m.1,m.2,0) λk=>.nn (k,(G qs (m.2+1)))) (.oo m.1)) (nl,0) λm=>.jT m
def Lg:=mkp1 func80 Lh
def Lf (t:al)(o:Ae):T Be:=.vn (λ(k:(Be×Int))=>([(11,pz k.2)],[(128,fW (kg 9) gP k.1)])) [2,5,9,10] [0] 0 (λ(k:Be)=>([],[(128,fW (kg 9) gP k)])) [5] [] (λk=>let p:=F o (X3 k.2) qt;.kh (k.2<(C o:Int)) (.cut 0 (λs (m:Be)=>pk s [2,5,9,10,11] [0] [] [(128,fW (kg 9) gP m)]) (.vd k.2 o<|.br ((C p.XZ.Xg:Int)==(C t.Xd:Int)) (.cc (ny (p.XZ)) λm=>let r:=(⟨m,p.Xt⟩:ir);
 .conv 6007 (FB (kg 9) gP k.1 r D)<|.oo ((r,D)::k.1)) (.oo k.1)) λm=>.nn (m,(G qs (k.2+1)))) (.oo k.1)) ((nl:List (ir×Bool)),0) λk=>.jT k
def Le:=mkv2 func81 Lf (λ_=>.map 0) (λr=>[(0,fW (kg 9) gP r)])
def yf (k:C7)(o:Int):T Int:=.loop (ik 8 [1,7] []) (.exit 0) (jk [] []) (λm=>.kh (m<6) (.gh m 6<|.br ((F ([k.1,k.2.1,k.2.2.1,k.2.2.2.1,k.2.2.2.2.1,k.2.2.2.2.2]:List Int) m.toNat 0)==o) (.ff m) (.nn (G qs (m+1)))) (.oo .u))
 0 [] λ_=>.jT (-1)
def gV:=mkp2 func166 yf
def Ld (w:Ac)(k:C7):T Ac:=let x:=qs.wrap;let z:=(C w:Int);.vn (λ(o:Ad)=>([(12,pz o.2)],[(128,vO o.1 109)])) [0,3,5,10,11] [0] 0 (λ(o:Ac)=>([],[(128,vO o 109)])) [0,3,5] [0] (λo=>let m:=F w (X3 o.2) qt;let r:=([(⟨1,m.Xs,m.Place⟩:aO)]:Ac);let _:=C o.1+C r;.kh (o.2<z) (.cut 0 (λs (t:Ac)=>pk s [0,3,10,11,12] [0] [(5,.vec 512)] [(512,vO t 109)]) (.vd o.2 w<|.cub 0 28 [0,3,5,7,10,11,12] [0,128,640] (.call (gV (k.1,k.2.1,k.2.2.1,k.2.2.2.1,k.2.2.2.2.1,k.2.2.2.2.2) (x ((-1)- (m.Xs)))) [] λt=>.kh (t<0) (.cc (gV (k.1,k.2.1,k.2.2.1,k.2.2.2.1,k.2.2.2.2.1,k.2.2.2.2.2) (m.Place)) λp=>.oo (qu (p>=0))) (.oo E)) λt=>.br t (.vh 7002 o.1 r 109 24<|.oo (o.1++r)) (.oo o.1)) λt=>.nn (t,(x (o.2+1)))) (.oo o.1)) (nl,0) λo=>.vn (λ(m:Ad)=>([(37,pz m.2)],[(128,vO m.1 109)])) [3,5,35,36] [0] 2 (λ(m:Ac)=>([],[(128,vO m 109)])) [5] [] (λm=>let r:=F w (X3 m.2) qt;let y:=([(⟨2,r.Xs,r.Place⟩:aO)]:Ac);let _:=C m.1+C y;.kh (m.2<z) (.cut 0 (λs (p:Ac)=>pk s [3,35,36,37] [0] [(5,.vec 768)] [(768,vO p 109)]) (.vd m.2 w<|.cub 0 53 [3,5,9,35,36,37] [0,128,896] (.call (gV (k.1,k.2.1,k.2.2.1,k.2.2.2.1,k.2.2.2.2.1,k.2.2.2.2.2) (x ((-1)- (r.Xs)))) [] λp=>.kh (p>=0) (.cc (gV (k.1,k.2.1,k.2.2.1,k.2.2.2.1,k.2.2.2.2.1,k.2.2.2.2.2) (r.Place)) λA=>.oo (qu (A<0))) (.oo E)) λp=>.br p (.vh 14002 m.1 y 109 24<|.oo (m.1++y)) (.oo m.1)) λp=>.nn (p,(x (m.2+1)))) (.oo m.1)) (o,0) λm=>.jT m
def Lc:=mkp2 func82 Ld
def ru (k:C7)(p:aO):T C7:=let r:=G qs ((-1)-p.Xs);.cut 2 (λs (o:B6)=>pk s [2,4] [0,128] [(5,pz o.1),(6,pz o.2)] []) (.br (p.Xp==2) (.oo (r,p.Place)) (.oo (p.Place,r))) λo=>.cut 0 (λs (m:C7)=>pk s [2,4] [128] [] [(0,.box [pz m.1,pz m.2.1,pz m.2.2.1,pz m.2.2.2.1,pz m.2.2.2.2.1,pz m.2.2.2.2.2])]) (.cc (gV k o.1) λm=>.cas 4002 m 0 (.ix 0 6 rfl<|.oo (o.2,k.2.1,k.2.2.1,k.2.2.2.1,k.2.2.2.2.1,k.2.2.2.2.2)) (.cas 4002 m 1 (.ix 1 6 rfl<|.oo (k.1,o.2,k.2.2.1,k.2.2.2.1,k.2.2.2.2.1,k.2.2.2.2.2)) (.cas 4002 m 2 (.ix 2 6 rfl<|.oo (k.1,k.2.1,o.2,k.2.2.2.1,k.2.2.2.2.1,k.2.2.2.2.2)) (.cas 4002 m 3 (.ix 3 6 rfl<|.oo (k.1,k.2.1,k.2.2.1,o.2,k.2.2.2.2.1,k.2.2.2.2.2)) (.cas 4002 m 4 (.ix 4 6 rfl<|.oo (k.1,k.2.1,k.2.2.1,k.2.2.2.1,o.2,k.2.2.2.2.2)) (.cas 4002 m 5 (.ix 5 6 rfl<|.oo (k.1,k.2.1,k.2.2.1,k.2.2.2.1,k.2.2.2.2.1,o.2)) (.stop))))))) λm=>.jT (m.1,m.2.1,m.2.2.1,m.2.2.2.1,m.2.2.2.2.1,m.2.2.2.2.2)
def nN:=mkp2 func83 ru
def DA (w:Ca)(p:C7)(t:Int):T Ac:=.vg 1001 3 Qw 109 t (⟨0,0,0⟩:aO) 24<|.vn (λ(k:(Int×Int×Int×Int×Int×Int×Ac×Int))=>let r:=k.2.2.2;([(8,pz r.2.2.2.2)],[(1,.box [pz k.1,pz k.2.1,pz k.2.2.1,pz r.1,pz r.2.1,pz r.2.2.1]),(193,vO r.2.2.2.1 109)])) [0,4,7] [0] 0 (λ(k:Ac)=>([],[(193,vO k 109)])) [7] [0] (λk=>let s:=k.2.2.2;let o:=s.2.2.2;let x:=o.2;let y:=cL (k.1,k.2.1,k.2.2.1,s.1,s.2.1,s.2.2.1);let m:=d8 cL w y;let z:=mdom cL w y;.kh (o.2>=0) (.ok (z=false->PSub (.agg (kg 9)) (eG m)) (mX jY)<|.vd o.2 o.1<|.vl 5007 o.1 109 x (m.by_)<|.ok (z=false->PSub (.agg (kg 9)) (eG m)) (mX jY)<|.nn (m.before.1,m.before.2.1,m.before.2.2.1,m.before.2.2.2.1,m.before.2.2.2.2.1,m.before.2.2.2.2.2,(o.1.set (x.toNat) (m.by_)),(G qs (o.2-1)))) (.oo o.1)) (p.1,p.2.1,p.2.2.1,p.2.2.2.1,p.2.2.2.2.1,p.2.2.2.2.2,(qr t.toNat ((⟨0,0,0⟩:aO):aO)),(G qs (t-1))) λk=>.jT k
def QZ k m o:=mkD func84 (DA k m o) 1 [.map 0,q m,pz o] [(0,mapG (kg 6) cL eG k)] q (λ_=>[(0,mapG (kg 6) cL eG k)])
def Ck (t:al)(J:aD)(y:A7)(z:Int)(X:Ae):T (Ac×Bool):=.cub 2 45 [2,3,4,5,6] [0,64] (.cc (gU t J) λA=>.ki (!A) (.ki ((C y:Int) !=(C t.Xd:Int)) (.kl (z<0) (.oo (qu (z>16)))))) λA=>.br A (.jT (nl,E)) (.cc (ny J) λw=>let K:=([w]:C8);
 .cc (uV (w.1,w.2.1,w.2.2.1,w.2.2.2.1,w.2.2.2.2.1,w.2.2.2.2.2) y) λY=>.br Y (.jT (nl,D)) (.cc (Lg (⟨t.Xi,t.Xd,t.Xj,t.Xm,t.Xl,t.Xq⟩:al)) λZ=>.cc (Le t X) λL=>.conv 8000 (TX (kg 6) cL eG (.agg (kg 9)))<|.conv 8003 (tc (kg 6) cL eG (nl:List C9) w (⟨(0,0,0,0,0,0),(⟨0,0,0⟩:aO)⟩:fi) (.agg (kg 9)) jY)<|.conv 9001 (kL K 159)<|.vo (λ(p:Cb)=>([(17,pz p.2.2)],[(1216,mapG (kg 6) cL eG p.1),(1664,vO p.2.1 159)])) [2,3,13,14,15,16] [1088] 0 [] [] (λp=>let M:=(C p.2.1:Int);.cub 1 69 [2,3,13,14,15,16,17] [1088,1216,1664] (.kh (p.2.2<=z) (.oo (qu (M>0))) (.oo E)) λan=>.br an (.vn (λ(m:Cb)=>([(74,pz m.2.2)],[(1216,mapG (kg 6) cL eG m.1),(1984,vO m.2.1 159)])) [2,3,13,14,15,17,18,72,73] [1088,1664] 2 (λ(m:(Ca×C8))=>([],[(1216,mapG (kg 6) cL eG m.1),(1984,vO m.2 159)])) [2,3,13,14,15,17,18] [1088] (λm=>let r:=F p.2.1 (X3 m.2.2) qt;.kh (m.2.2<M) (.vf m.2.2 p.2.1<|.cc (Lc Z r) λB=>.vn (λ(k:Cb)=>([(82,pz k.2.2)],[(1216,mapG (kg 6) cL eG k.1),(1984,vO k.2.1 159)])) [2,3,13,14,15,17,18,20,72,73,74,80,81] [1088,1664,2496] 4 (λ(k:(Ca×C8))=>([],[(1216,mapG (kg 6) cL eG k.1),(1984,vO k.2 159)])) [2,3,13,14,15,17,18,72,73,74] [1088,1664] (λk=>let x:=F B (X3 k.2.2) qt;let N:=gP (⟨r,x⟩:ir);let O:=dV gP L N;let P:=(⟨r,x⟩:fi);.kh (k.2.2<(C B:Int)) (.cut 0 (λs (o:(Ca×C8))=>pk s [2,3,13,14,15,17,18,20,72,73,74,80,81,82] [1088,1664,2496] [] [(1216,mapG (kg 6) cL eG o.1),(1984,vO o.2 159)]) (.vd k.2.2 B<|.cc (nN r x) λo=>let Q:=mdom cL k.1 (cL o);let H:=((o,P)::k.1);let I:=([o]:C8);
 .ok (Q=false->PSub (.agg (kg 9)) (eG (d8 cL k.1 (cL o)))) (mX jY)<|.cub 0 102 [2,3,13,14,15,17,18,20,22,23,72,73,74,80,81,82] [1088,1216,1664,1984,2496,3200,3520] (.ki Q (.ok ((mdom gP L N)=false->PSub (.bool E) (ae.bool O)) th<|.oo O)) λS=>.br S (.oo (k.1,k.2.1)) (.conv 23005 (tc (kg 6) cL eG k.1 o P (.agg [kf (r.1),kf (r.2.1),kf (r.2.2.1),kf (r.2.2.2.1),kf (r.2.2.2.2.1),kf (r.2.2.2.2.2),kf (x.Xp),kf (x.Xs),kf (x.Place)]) jY)<|.cc (uV o y) λU=>.br U (.call (QZ H o p.2.2) [(0,1216)] λV=>.ff (.fin (.fin (.fin (V,D))))) (.vh 26002 k.2.1 I 159 48<|.oo (H,(k.2.1++I))))) λo=>.nn (o.1,o.2,(G qs (k.2.2+1)))) (.oo (k.1,k.2.1))) (m.1,m.2.1,0) λk=>.nn (k.1,k.2,(G qs (m.2.2+1)))) (.oo (m.1,m.2.1))) (p.1,nl,0) λm=>.nn (m.1,m.2,(G qs (p.2.2+1)))) (.oo .u)) (((w,(⟨(0,0,0,0,0,0),(⟨0,0,0⟩:aO)⟩:fi))::(nl:List C9)),K,1) λ_=>.jT (nl,E)))
def rr:=mkq5 func39 Ck (λr=>.tup [q r.1,q r.2])
def eH {α:Type}[Inhabited α][En α](t k:Nat)(m:(List α)):T (List α):= (match m with
  |[]=>.unroll 1<|.grd (C m=0)<|.both (.jT nl) (.conv 3000 (kL ([]:(List α)) t)<|.conv 3002 (kA ([]:(List α)) m t)<|.grd ((C ([]:(List α))+C m) * k<=140737488355328/\(C ([]:(List α))+C m)<=maxLen)<|.jT (([]:(List α))++m))
  |_::_=>.grd (0<C m)<|.conv 3000 (kL ([]:(List α)) t)<|.conv 3002 (kA ([]:(List α)) m t)<|.grd ((C ([]:(List α))+C m) * k<=140737488355328/\(C ([]:(List α))+C m)<=maxLen)<|.jT (([]:(List α))++m))
def ajJ (k:A3):T A3:=
 eH 85 104 k
def Vs (k:A3):aK A3:=mkH [] hd func196 jY (ajJ k) 0 [q k] [] q X6 (by cases k<;>exact Ob.of_side jY)
def ajL (k:Ab):T Ab:=
 eH 129 40 k
def VA (k:Ab):aK Ab:=mkH [] hd func197 jY (ajL k) 0 [q k] [] q X6 (by cases k<;>exact Ob.of_side jY)
def ajP (k:Bl):T Bl:=
 eH 70 24 k
def VI (k:Bl):aK Bl:=mkH [] hd func278 jY (ajP k) 0 [q k] [] (λ_=>.vec 0) (λr=>[(0,vO r 70)]) (by cases k<;>exact Ob.of_side jY)
def Lz (z:A5)(A:Bk):T A5:=let y:=(C z:Int);.conv 1002 (TY 3 kU 72 (0:Int).toNat (⟨0,0,nl⟩:bD) (.agg [kf 0,kf 0,.lst 0 0 λ_=>.unk]) jY)<|.grd (0<=(0:Int)/\(0:Int)<=y/\y<=9223372036854775807/\y * 40<=140737488355328)<|.vn (λ(m:Af)=>([(16,pz m.2)],[(256,vO m.1 72)])) [3,5,14,15] [0] 0 (λ(m:A5)=>([],[(256,vO m 72)])) [5] [] (λm=>let B:=F z (X3 m.2) qt;.kh (m.2<y) (.vd m.2 z<|.cc (VI (B.Xb)) λH=>.unroll 998<|.vn (λ(k:Bm)=>([(27,pz k.2)],[(1088,vO k.1 70)])) [3,5,7,14,15,16,26] [0,256,832] 2 (λ(k:Bl)=>([],[(1088,vO k 70)])) [3,5,7,14,15,16] [0,256,832] (λk=>let o:=k.2;let p:=o.toNat;let r:=F k.1 p qt;.kh (k.2<(C H:Int)) (.unroll 4<|.jR<|.jG<|.vd k.2 k.1<|.jG<|.grd (o.toNat<C k.1)<|.name 12006 (r.1) λN=>let I:=G qs (N+A.1);let s:=k.1.set p (I,r.2.1,r.2.2);let J:=C s;let t:=F s p qt;
 .vd k.2 k.1<|.jG<|.vl 12011 k.1 70 o (I,r.2.1,r.2.2)<|.lit 13000 1<|.jR<|.jH<|.gh k.2 J<|.jH<|.grd (o.toNat<C s)<|.name 12006 (t.2.1) λO=>let K:=G qs (O+A.2.1);let w:=s.set p (t.1,K,t.2.2);let L:=C w;let x:=F w p qt;
 .gh k.2 J<|.jH<|.vl 12011 s 70 o (t.1,K,t.2.2)<|.lit 13000 2<|.jR<|.jI<|.gh k.2 L<|.jI<|.grd (o.toNat<C w)<|.name 12006 (x.2.2) λP=>let M:=G qs (P+A.2.2);
 .gh k.2 L<|.jI<|.vl 12011 w 70 o (x.1,x.2.1,M)<|.lit 13000 3<|.jS<|.nn ((w.set p (x.1,x.2.1,M)),(G qs (k.2+1)))) (.oo k.1)) (H,0) λk=>let o:=([(⟨B.Xy,B.XC,k⟩:bD)]:A5);let p:=C m.1+C o;
 .vh 15002 m.1 o 72 40<|.nn ((m.1++o),(G qs (m.2+1)))) (.oo m.1)) ((qr (0:Int).toNat ((⟨0,0,nl⟩:bD):bD)),0) λm=>.jT m
def Ly:=mkv2 func198 Lz (λ_=>.vec 0) (λr=>[(0,vO r 72)])
def ajM (k:Ag):T Ag:=
 eH 75 16 k
def VB (k:Ag):aK Ag:=mkH [] hd func199 jY (ajM k) 0 [q k] [] q X6 (by cases k<;>exact Ob.of_side jY)
def vT (k:al)(w:aD):T (aj×Int):=.cc (nG k) λA=>.br (A !=0) (.jT ((⟨(⟨nl,nl⟩:am),nl,nl⟩:aj),A)) (.cc (gU k w) λJ=>.br (!J) (.jT ((⟨(⟨nl,nl⟩:am),nl,nl⟩:aj),3403)) (.cc (Vs k.Xi.Xe.Xa) λK=>.cc (VA k.Xi.Xe.Xn) λL=>.cc (Ly k.Xi.Xc (0,0,0)) λM=>.cc (VB k.Xi.Xo) λN=>.vn (λ(m:Af)=>([(50,pz m.2)],[(1792,vO m.1 72)])) [2,3,4,7,48,49] [0,64,128,129,130,131,132,2176] 0 (λ(m:A5)=>([],[(1792,vO m 72)])) [4,7] [128,129,130,131,132,2176] (λm=>let B:=(m.2).toNat;let r:=F w.Xg B qt;let x:=G qs ((-1)-r);let t:=F k.Xm (x.toNat) qt;let y:=F k.Xj (r.toNat) qt;.kh (m.2<(C k.Xd:Int)) (.vd m.2 k.Xd<|.cut 1 (λs (p:C2)=>pk s [2,3,4,7,9,11,48,49,50] [0,64,128,129,130,131,132,1792,2176,2880] [(10,pz p.1)] [(3136,.box [pz p.2.1,pz p.2.2.1,pz p.2.2.2])]) (.vd m.2 w.Xg<|.kh (r>=0) (.vd r k.Xj<|.oo ((-1),y.1,y.2.1,y.2.2)) (.vd x k.Xm<|.vd x k.Xm<|.oo (t.Xy,t.XH.1,t.XH.2.1,t.XH.2.2))) λp=>.cc (Ly ((F k.Xd B qt).Xc) (p.2.1,p.2.2.1,p.2.2.2)) λz=>.vn (λ(o:Af)=>([(87,pz o.2)],[(1792,vO o.1 72)])) [2,3,4,7,10,48,49,50,85,86] [0,64,128,129,130,131,132,2176,3584] 2 (λ(o:A5)=>([],[(1792,vO o 72)])) [2,3,4,7,48,49,50] [0,64,128,129,130,131,132,2176] (λo=>let H:=F z (X3 o.2) qt;let I:=([(⟨p.1,H.XC,H.Xb⟩:bD)]:A5);.kh (o.2<(C z:Int)) (.vf o.2 z<|.vh 19003 o.1 I 72 40<|.nn ((o.1++I),(G qs (o.2+1)))) (.oo o.1)) (m.1,0) λo=>.nn (o,(G qs (m.2+1)))) (.oo m.1)) (M,0) λm=>.jT ((⟨(⟨K,L⟩:am),m,N⟩:aj),0)))
def uT:=mkq2 func114 vT (λr=>.tup [q r.1,pz r.2])
def Mq (k:al)(m:aD):T Ac:=.cc (gU k m) λo=>.br (!o) (.jT nl) (.cc (Lg k) λp=>.cc (ny m) λr=>.cc (Lc p r) λs=>.jT s)
def OB:=mkp2 func107 Mq
def GE (m:Ac)(o:aO):T Int:=.loop (ik 8 [0,3,7] [0]) (.exit 0) (jk [] []) (λk=>let p:=F m (k.toNat) qt;.kh (k<(C m:Int)) (.vd k m<|.br ((o.Xp==(p.Xp))&&((o.Xs==(p.Xs))&&((o.Place==(p.Place))&&D))) (.ff k) (.nn (G qs (k+1)))) (.oo .u))
 0 [] λ_=>.jT (-1)
def Vm:=mkp2 func189 GE
def Gz (k:Ac)(m:aO):T Bool:=.cc (Vm k m) λo=>.jT (qu (o>=0))
def Vg:=mkp2 func106 Gz
def WC (k:A7):T A7:=
 eH 3 8 k
def t7 (k:A7):aK A7:=mkH [] hd func108 jY (WC k) 0 [q k] [] q X6 (by cases k<;>exact Ob.of_side jY)
def B9 (k:al)(p:aD)(r:aO):T (aD×Bool):=let s:=(⟨p.Xg⟩:aD);let o:=(C p.Xg:Int);.cc (OB (⟨k.Xi,k.Xd,k.Xj,k.Xm,k.Xl,k.Xq⟩:al) s) λw=>.cc (Vg w r) λx=>.br (!x) (.jT ((⟨nl⟩:aD),E)) (.cc (ny s) λy=>.cc (nN y r) λm=>let t:=([m.1,m.2.1,m.2.2.1,m.2.2.2.1,m.2.2.2.2.1,m.2.2.2.2.2]:List Int);
 .conv 4003 (aje bI t o)<|.grd (0<=o/\o<=(6:Int))<|.call (t7 (t.take (o.toNat))) [] λz=>.jT ((⟨z⟩:aD),D))
def mc:=mkq3 func51 B9 (λr=>.tup [q r.1,q r.2])
def Kg (m:al)(o:aO)(k:Int):T Bool:=let p:=F m.Xl (k.toNat) qt;.kh (0<=k) (.kh (k<(C m.Xl:Int)) (.vd k m.Xl<|.br ((p.Xs)==o.Xs) (.vd k m.Xl<|.jT ((p.Place)==o.Place)) (.jT E)) (.jT E)) (.jT E)
def uo:=mkp3 func52 Kg
def Jv (k:Int):T Bool:=.kh (k<(-2147483648)) (.jT D) (.jT (qu (k>2147483648)))
def MU:=mkp1 func273 Jv
def GX (m:A7):T Int:=.loop (ik 8 [0,1,7] []) (.exit 0) (jk [] []) (λk=>.kh (k<(C m:Int)) (.vd k m<|.cc (MU (F m (k.toNat) qt)) λo=>.br o (.ff k) (.nn (G qs (k+1)))) (.oo .u))
 0 [] λ_=>.jT (-1)
def VJ k:=mkD func345 (GX k) 0 [q k,.func 273 [] []] [] pz X6
def GO (k:A7):T Bool:=.cc (VJ k) λm=>.jT (qu (m>=0))
def Vw k:=mkD func272 (GO k) 0 [q k,.func 273 [] []] [] q X6
def Lu (k:A7):T Bool:=.cc (Vw k) λm=>.jT (!m)
def nA:=mkp1 func192 Lu
def vP (k:Int):T Int:=.jT (min (max k (-2147483648)) 2147483648)
def vN:=mkp1 func346 vP
def H6 (k m:Int):T af:=.cc (vN k) λo=>.cc (vN m) λp=>.jT (⟨o,p⟩:af)
def t9:=mkp2 func274 H6
def v0 (k:Int):T af:=.cc (t9 k k) λm=>.jT m
def eV:=mkp1 func194 v0
def GJ (m:A7):T Ah:=let o:=(C m:Int);.vg 1002 2 vp 185 o (⟨0,0⟩:af) 16<|.vn (λ(k:Ai)=>([(13,pz k.2)],[(192,vO k.1 185)])) [1,5,11,12] [] 0 (λ(k:Ah)=>([],[(192,vO k 185)])) [5] [] (λk=>let p:=(k.2).toNat;.kh (k.2<o) (.vd k.2 m<|.cc (eV (F m p qt)) λr=>.vd k.2 k.1<|.vl 5006 k.1 185 k.2 r<|.nn ((k.1.set p r),(G qs (k.2+1)))) (.oo k.1)) ((qr o.toNat ((⟨0,0⟩:af):af)),0) λk=>.jT k
def Vr k:=mkD func193 (GJ k) 0 [q k,.func 194 [] []] [] q X6
def y8 (k:A7):T Ah:=.cc (nA k) λm=>.br (!m) (.jT nl) (.cc (Vr k) λo=>.jT o)
def y7:=mkp1 func111 y8
def Jx (k:af):T Bool:=.kh ((-2147483648)<=k.Lo) (.kh (k.Lo<=k.Hi) (.jT (qu (k.Hi<=2147483648))) (.jT E)) (.jT E)
def eT:=mkp1 func204 Jx
def HI (k:af):T Bool:=.cc (eT k) λm=>.jT (!m)
def V5:=mkp1 func269 HI
def Gp (m:Ah):T Int:=.loop (ik 8 [0,1,7] []) (.exit 0) (jk [] []) (λk=>.kh (k<(C m:Int)) (.vd k m<|.cc (V5 (F m (k.toNat) qt)) λo=>.br o (.ff k) (.nn (G qs (k+1)))) (.oo .u))
 0 [] λ_=>.jT (-1)
def U8 k:=mkD func341 (Gp k) 0 [q k,.func 269 [] []] [] pz X6
def Gn (k:Ah):T Bool:=.cc (U8 k) λm=>.jT (qu (m>=0))
def U6 k:=mkD func268 (Gn k) 0 [q k,.func 269 [] []] [] q X6
def Ia (m:am)(k:Ah):T Bool:=.br ((C k:Int)==(C m.Xa:Int)) (.cc (U6 k) λo=>.jT (!o)) (.jT E)
def ua:=mkp2 func190 Ia
def LK (k:Bk):T Bq:=.unroll 4<|.jR<|.jG<|.cc (eV k.1) λm=>.jG<|.lit 6000 1<|.jR<|.jH<|.cc (eV k.2.1) λo=>.jH<|.lit 6000 2<|.jR<|.jI<|.cc (eV k.2.2) λp=>.jI<|.lit 6000 3<|.jS<|.jT (m,o,p)
def pP:=mkp1 func113 LK
def matrix_Identity_T:T Bt:=.unroll 4<|.jR<|.cc (eV 65536) λk=>.jG<|.jG<|.lit 6000 1<|.jR<|.cc (eV 65536) λm=>.jH<|.jH<|.lit 6000 2<|.jR<|.cc (eV 65536) λo=>.jI<|.jI<|.lit 6000 3<|.jS<|.jT ((k,(⟨0,0⟩:af),(⟨0,0⟩:af)),((⟨0,0⟩:af),m,(⟨0,0⟩:af)),((⟨0,0⟩:af),(⟨0,0⟩:af),o))
def matrix_Identity_C:aK Bt:=mkD func404 (matrix_Identity_T) 0 [] [] q X6
def BE (k:Bq):T aV:=.cc (matrix_Identity_C) λm=>.jT (⟨m,k⟩:aV)
def vu:=mkp1 func342 BE
def Hm (k:Int):T Int:=.cut 3 (λs (m:Bool)=>pk s [0,2,3] [] [(4,q m)] [(0,.box [.any])]) (.br (k==1) (.oo (k==1)) (.br (k==2) (.oo (k==2)) (.oo (k==3)))) λm=>.br m (.jT (G qs (k-1))) (.cub 0 12 [0,2] [0] (.br (k==4) (.oo (k==4)) (.br (k==5) (.oo (k==5)) (.oo (k==6)))) λo=>.br o (.stop) (.stop))
def Hl:=mkq1 func343 Hm (λr=>.agg [.func 405 [pz r] []])
def Ho (k:Int):T Int:=.cut 3 (λs (m:Bool)=>pk s [0,2,3] [] [(4,q m)] [(0,.box [.any])]) (.br (k==1) (.oo (k==1)) (.br (k==2) (.oo (k==2)) (.oo (k==3)))) λm=>.br m (.stop) (.cub 0 12 [0,2] [0] (.br (k==4) (.oo (k==4)) (.br (k==5) (.oo (k==5)) (.oo (k==6)))) λo=>.br o (.jT (G qs (k-4))) (.stop))
def Hn:=mkq1 func343 Ho (λr=>.agg [.func 406 [pz r] []])
def Hp (k:Int):T Int:=.cut 3 (λs (m:Bool)=>pk s [0,2,3] [] [(4,q m)] [(0,.box [.any])]) (.br (k==1) (.oo (k==1)) (.br (k==2) (.oo (k==2)) (.oo (k==3)))) λm=>.br m (.stop) (.cub 0 12 [0,2] [0] (.br (k==4) (.oo (k==4)) (.br (k==5) (.oo (k==5)) (.oo (k==6)))) λo=>.br o (.stop) (.jT 0))
def VY:=mkq1 func343 Hp (λr=>.agg [.func 407 [pz r] []])
def pose_still_T:T Bq:=.cc (pP (0,0,0)) λk=>.jT k
def pose_still_C:aK Bq:=mkD func508 (pose_still_T) 0 [] [] q X6
def pose_Identity_T:T aV:=.cc (pose_still_C) λk=>.cc (vu k) λm=>.jT m
def pose_Identity_C:aK aV:=mkD func465 (pose_Identity_T) 0 [] [] q X6
def Cq (_:Int)(_:af):T aV:=.cc (pose_Identity_C) λo=>.jT o
def PV:=mkp2 func407 Cq
end Go.Abs
