import Derived.Test.YtagmfmidaochlaaGreatDoorZGRngF
import Derived.Test.YtagmfmidaochlaaGreatDoorZGLend
import Derived.Test.YtagmfmidaochlaaGreatDoorProg
open Bool renaming true->D,false->E
open Go.IntKind renaming wrap->G
open List renaming length->C,getD->F
open Decidable renaming decide->qu
open Go.IntKind renaming i64->qs
open Inhabited renaming default->qt
open List renaming replicate->qr
open Int renaming toNat->X3
noncomputable section
namespace Go.Abs
open Go.Proofs.Tryz
theorem kc{p:Prop}(h:p:=by as_aux_lemma=>kernel_rfl):p:=h
theorem jY{p:Prop}(h:p:=by kernel_rfl):p:=h
set_option maxHeartbeats 8000000
set_option maxRecDepth 20000
open Go.Proofs
noncomputable abbrev X4 (x:Bool):ac:=.pure (.bool x)
noncomputable abbrev X5 {α:Type}[Inhabited α](n:Nat)(e:α->ae)(l:List α):ac:=.pure (encL n e l)
noncomputable abbrev X6 {α β:Type}:α->List β:=λ_=>[]
noncomputable abbrev X7 (i:Nat):ac:=.ptr i 0
abbrev X8:U0->St:=λ_=>⟨[],[],[],0⟩
abbrev ke (x:Int):ae:=.int .i64 x
abbrev kg (n:Nat):List ae:=List.replicate n (ke 0)
noncomputable abbrev pz (x:Int):ac:=.pure (ke x)
theorem hd:fz prog lG:=ado jY
noncomputable abbrev mkD {R:Type}{f:FuncId}{fn:Func}(s:prog.funcs[f]?=some fn)(t:T R)(k:Nat)(o:List ac)(m:Mem)(res:R->ac)(p:R->Mem)(r:(fn.body.isSome&& !(fn.name== "runtime.NumGoroutine"))=true:=by kernel_rfl)(h:(fE prog [] lG fn (fn.body.getD .skip) k k t o m res p).side D=(fE prog [] lG fn (fn.body.getD .skip) k k t o m res p).side false:=by kernel_rfl):aC R:=mkC [] hd s r t k o m res p h
noncomputable abbrev T.jG {R:Type}(k:T R):T R:=.ix 0 3 rfl k
noncomputable abbrev T.jH {R:Type}(k:T R):T R:=.ix 1 3 rfl k
noncomputable abbrev T.jI {R:Type}(k:T R):T R:=.ix 2 3 rfl k
noncomputable abbrev T.jJ {R:Type}(k:T R):T R:=.ix 1 11 rfl k
noncomputable abbrev T.jK {R:Type}(k:T R):T R:=.ix 2 11 rfl k
noncomputable abbrev T.jL {R:Type}(k:T R):T R:=.ix 3 11 rfl k
noncomputable abbrev T.jM {R:Type}(k:T R):T R:=.ix 4 11 rfl k
noncomputable abbrev T.jN {R:Type}(k:T R):T R:=.ix 5 11 rfl k
noncomputable abbrev T.jO {R:Type}(k:T R):T R:=.ix 6 11 rfl k
noncomputable abbrev T.jP {R:Type}(k:T R):T R:=.ix 7 11 rfl k
noncomputable abbrev T.jQ {R:Type}(k:T R):T R:=.ix 8 11 rfl k
noncomputable abbrev T.jR {R:Type}(k:T R):T R:=.known D k
noncomputable abbrev T.jS {R:Type}(k:T R):T R:=.known E k
noncomputable abbrev T.jT {R:Type}(r:R):T R:=.ret r
noncomputable abbrev T.kh {R:Type}(p:Prop)[Decidable p](a b:T R):T R:=.br (decide p) a b
noncomputable abbrev T.ki {σ R:Type}(c:Bool)(x:T (am σ Bool R)):T (am σ Bool R):=.br c (.ret (.out D)) x
noncomputable abbrev T.kj {σ R:Type}(c:Bool)(x:T (am σ Bool R)):T (am σ Bool R):=.br c x (.ret (.out E))
noncomputable abbrev T.kl {σ R:Type}(p:Prop)[Decidable p](x:T (am σ Bool R)):T (am σ Bool R):=.br (decide p) (.ret (.out D)) x
noncomputable abbrev T.gg {R:Type}(i:Int)(n:Nat)(k:T R):T R:=.grd (0<=i/\i<(n:Int)) (.grd (i.toNat<n) k)
noncomputable abbrev T.gh {R:Type}(i:Int)(n:Nat)(k:T R):T R:=.grd (0<=i/\i<(n:Int)) k
noncomputable abbrev T.gi {R:Type}(i:Int)(n:Nat)(k:T R):T R:=.grd (i.toNat<n/\0<=i.toNat) k
noncomputable abbrev T.oo {σ τ R:Type}(y:τ):T (am σ τ R):=.ret (.out y)
noncomputable abbrev T.nn {σ τ R:Type}(x:σ):T (am σ τ R):=.ret (.next x)
noncomputable abbrev T.ff {σ τ R:Type}(r:R):T (am σ τ R):=.ret (.fin r)
noncomputable abbrev T.cc {R α:Type}(c:aC α)(k:α->T R):T R:=.call c [] k
noncomputable abbrev T.vn {R σ τ:Type}(f:σ->List (Nat×ac)×Mem)(l m:List Nat)(n:Nat)(g:τ->List (Nat×ac)×Mem)(d e:List Nat)(b:σ->T (am σ τ R))(x:σ)(k:τ->T R):T R:=.loop (λs x=>pk s l m (f x).1 (f x).2) (.exit n) (λs x=>pk s d e (g x).1 (g x).2) b x [] k
noncomputable abbrev T.vo {R σ:Type}(f:σ->List (Nat×ac)×Mem)(l m:List Nat)(n:Nat)(d e:List Nat)(b:σ->T (am σ U0 R))(x:σ)(k:U0->T R):T R:=.loop (λs x=>pk s l m (f x).1 (f x).2) (.exit n) (jk d e) b x [] k
noncomputable abbrev T.vh {R α:Type}[Inhabited α][En α](c:Nat)(l a:List α)(t k:Nat)(x:T R):T R:=.conv c (kL a t) (.conv (c+1) (kA l a t) (.grd ((C l+C a) * k<=140737488355328/\(C l)+C a<=maxLen) x))
noncomputable abbrev T.vk {R α:Type}[Inhabited α][En α](c:Nat)(b:List α)(d:Nat)(l a:List α)(t k:Nat)(x:T R):T R:=.conv c (kL b t) (.conv d (kA l a t) (.grd ((C l+C a) * k<=140737488355328/\(C l)+C a<=maxLen) x))
noncomputable abbrev T.vl {R α:Type}[Inhabited α][En α](c:Nat)(l:List α)(t:Nat)(i:Int)(v:α)(x:T R):T R:=.conv c (kS l t i.toNat v) (.gi i (C l) x)
noncomputable abbrev T.vc {R:Type}(n k:Nat)(t:T R):T R:=.grd (n * k<=140737488355328/\n<=maxLen) t
noncomputable abbrev T.vd {R α:Type}(i:Int)(l:List α)(k:T R):T R:=.gh i (C l) k
noncomputable abbrev T.vf {R α:Type}(i:Int)(l:List α)(k:T R):T R:=.gg i (C l) k
noncomputable abbrev T.vg {R α:Type}[Inhabited α](c n:Nat)(e:α->ae)(y:Nat)(i:Int)(x:α)(k:Nat)(t:T R):T R:=.conv c (Nn n e y i.toNat x) (.grd (0<=i/\i<=i/\i<=9223372036854775807/\i * k<=140737488355328) t)
section
abbrev bo (f:Func):=(f.body.isSome&& !(f.name== "runtime.NumGoroutine"))=D
abbrev pf {R:Type}(f:Func)(t:T R)(w:List ac)(r:R->ac)(m:R->Mem):=(fE prog [] lG f (f.body.getD .skip) 0 0 t w [] r m).side D=(fE prog [] lG f (f.body.getD .skip) 0 0 t w [] r m).side E
variable {a b c d e g h i j R:Type} [En a] [En b] [En c] [En d] [En e] [En g] [En h] [En i] [En j] {n:FuncId} {f:Func} (l:prog.funcs[n]?=some f)
abbrev mkp1 [En R](t:a->T R)(y:bo f:=by show _=_;kernel_rfl)(z:∀k,pf f (t k) [q k] q X6:=by intros;show _=_;kernel_rfl)(k:a):aC R:=mkC [] hd l y (t k) 0 _ [] _ _ (z k)
abbrev mkp2 [En R](t:a->b->T R)(y:bo f:=by show _=_;kernel_rfl)(z:∀k m,pf f (t k m) [q k,q m] q X6:=by intros;show _=_;kernel_rfl)(k:a)(m:b):aC R:=mkC [] hd l y (t k m) 0 _ [] _ _ (z k m)
abbrev mkp3 [En R](t:a->b->c->T R)(y:bo f:=by show _=_;kernel_rfl)(z:∀k m o,pf f (t k m o) [q k,q m,q o] q X6:=by intros;show _=_;kernel_rfl)(k:a)(m:b)(o:c):aC R:=mkC [] hd l y (t k m o) 0 _ [] _ _ (z k m o)
abbrev mkp4 [En R](t:a->b->c->d->T R)(y:bo f:=by show _=_;kernel_rfl)(z:∀k m o p,pf f (t k m o p) [q k,q m,q o,q p] q X6:=by intros;show _=_;kernel_rfl)(k:a)(m:b)(o:c)(p:d):aC R:=mkC [] hd l y (t k m o p) 0 _ [] _ _ (z k m o p)
abbrev mkp5 [En R](t:a->b->c->d->e->T R)(y:bo f:=by show _=_;kernel_rfl)(z:∀k m o p r,pf f (t k m o p r) [q k,q m,q o,q p,q r] q X6:=by intros;show _=_;kernel_rfl)(k:a)(m:b)(o:c)(p:d)(r:e):aC R:=mkC [] hd l y (t k m o p r) 0 _ [] _ _ (z k m o p r)
abbrev mkp6 [En R](t:a->b->c->d->e->g->T R)(y:bo f:=by show _=_;kernel_rfl)(z:∀k m o p r s,pf f (t k m o p r s) [q k,q m,q o,q p,q r,q s] q X6:=by intros;show _=_;kernel_rfl)(k:a)(m:b)(o:c)(p:d)(r:e)(s:g):aC R:=mkC [] hd l y (t k m o p r s) 0 _ [] _ _ (z k m o p r s)
abbrev mkp9 [En R](t:a->b->c->d->e->g->h->i->j->T R)(y:bo f:=by show _=_;kernel_rfl)(z:∀k m o p r s w x A,pf f (t k m o p r s w x A) [q k,q m,q o,q p,q r,q s,q w,q x,q A] q X6:=by intros;show _=_;kernel_rfl)(k:a)(m:b)(o:c)(p:d)(r:e)(s:g)(w:h)(x:i)(A:j):aC R:=mkC [] hd l y (t k m o p r s w x A) 0 _ [] _ _ (z k m o p r s w x A)
abbrev mkq1 (t:a->T R)(r:R->ac)(y:bo f:=by show _=_;kernel_rfl)(z:∀k,pf f (t k) [q k] r X6:=by intros;show _=_;kernel_rfl)(k:a):aC R:=mkC [] hd l y (t k) 0 _ [] _ _ (z k)
abbrev mkq2 (t:a->b->T R)(r:R->ac)(y:bo f:=by show _=_;kernel_rfl)(z:∀k m,pf f (t k m) [q k,q m] r X6:=by intros;show _=_;kernel_rfl)(k:a)(m:b):aC R:=mkC [] hd l y (t k m) 0 _ [] _ _ (z k m)
abbrev mkq3 (t:a->b->c->T R)(r:R->ac)(y:bo f:=by show _=_;kernel_rfl)(z:∀k m o,pf f (t k m o) [q k,q m,q o] r X6:=by intros;show _=_;kernel_rfl)(k:a)(m:b)(o:c):aC R:=mkC [] hd l y (t k m o) 0 _ [] _ _ (z k m o)
abbrev mkq4 (t:a->b->c->d->T R)(r:R->ac)(y:bo f:=by show _=_;kernel_rfl)(z:∀k m o p,pf f (t k m o p) [q k,q m,q o,q p] r X6:=by intros;show _=_;kernel_rfl)(k:a)(m:b)(o:c)(p:d):aC R:=mkC [] hd l y (t k m o p) 0 _ [] _ _ (z k m o p)
abbrev mkq5 (t:a->b->c->d->e->T R)(r:R->ac)(y:bo f:=by show _=_;kernel_rfl)(z:∀k m o p s,pf f (t k m o p s) [q k,q m,q o,q p,q s] r X6:=by intros;show _=_;kernel_rfl)(k:a)(m:b)(o:c)(p:d)(s:e):aC R:=mkC [] hd l y (t k m o p s) 0 _ [] _ _ (z k m o p s)
abbrev mkq6 (t:a->b->c->d->e->g->T R)(r:R->ac)(y:bo f:=by show _=_;kernel_rfl)(z:∀k m o p s w,pf f (t k m o p s w) [q k,q m,q o,q p,q s,q w] r X6:=by intros;show _=_;kernel_rfl)(k:a)(m:b)(o:c)(p:d)(s:e)(w:g):aC R:=mkC [] hd l y (t k m o p s w) 0 _ [] _ _ (z k m o p s w)
abbrev mkv1 (t:a->T R)(r:R->ac)(m:R->Mem)(y:bo f:=by show _=_;kernel_rfl)(z:∀k,pf f (t k) [q k] r m:=by intros;show _=_;kernel_rfl)(k:a):aC R:=mkC [] hd l y (t k) 0 _ [] _ _ (z k)
abbrev mkv2 (t:a->b->T R)(r:R->ac)(m:R->Mem)(y:bo f:=by show _=_;kernel_rfl)(z:∀k o,pf f (t k o) [q k,q o] r m:=by intros;show _=_;kernel_rfl)(k:a)(o:b):aC R:=mkC [] hd l y (t k o) 0 _ [] _ _ (z k o)
abbrev mkv3 (t:a->b->c->T R)(r:R->ac)(m:R->Mem)(y:bo f:=by show _=_;kernel_rfl)(z:∀k o p,pf f (t k o p) [q k,q o,q p] r m:=by intros;show _=_;kernel_rfl)(k:a)(o:b)(p:c):aC R:=mkC [] hd l y (t k o p) 0 _ [] _ _ (z k o p)
abbrev mkv5 (t:a->b->c->d->e->T R)(r:R->ac)(m:R->Mem)(y:bo f:=by show _=_;kernel_rfl)(z:∀k o p s w,pf f (t k o p s w) [q k,q o,q p,q s,q w] r m:=by intros;show _=_;kernel_rfl)(k:a)(o:b)(p:c)(s:d)(w:e):aC R:=mkC [] hd l y (t k o p s w) 0 _ [] _ _ (z k o p s w)
end
structure cq where
 XO:ByteArray
 Xk:Int
 Xw:Int
 XH:(Int×Int×Int)
 Lo:Int
 Hi:Int
 XG:Int
 XV:Int
 XX:Int
 XT:Int
instance:Inhabited cq:=⟨⟨qt,qt,qt,qt,qt,qt,qt,qt,qt,qt⟩⟩
structure fu where
 XF:Int
 XY:Int
 Xn:(Int×Int×Int)
instance:Inhabited fu:=⟨⟨qt,qt,qt⟩⟩
structure ao where
 Xb:(List cq)
 Xl:(List fu)
instance:Inhabited ao:=⟨⟨qt,qt⟩⟩
structure bW where
 XF:Int
 XB:Int
 Xc:(List (Int×Int×Int))
instance:Inhabited bW:=⟨⟨qt,qt,qt⟩⟩
structure kE where
 A:Int
 B:Int
instance:Inhabited kE:=⟨⟨qt,qt⟩⟩
structure ak where
 Xe:ao
 Xd:(List bW)
 Xi:(List kE)
instance:Inhabited ak:=⟨⟨qt,qt,qt⟩⟩
structure bX where
 Xt:Int
 XE:Int
 Xg:Int
 XM:Int
instance:Inhabited bX:=⟨⟨qt,qt,qt,qt⟩⟩
structure kP where
 XF:Int
 XH:(Int×Int×Int)
instance:Inhabited kP:=⟨⟨qt,qt⟩⟩
structure fv where
 XO:ByteArray
 Xd:(List bW)
instance:Inhabited fv:=⟨⟨qt,qt⟩⟩
structure gl where
 XN:Int
 Place:Int
 At:(List Int)
instance:Inhabited gl:=⟨⟨qt,qt,qt⟩⟩
structure aT where
 Xr:ak
 Xm:(List fv)
 Xu:(List (Int×Int×Int))
 Xx:(List kP)
 Xz:(List gl)
 Xy:Int
instance:Inhabited aT:=⟨⟨qt,qt,qt,qt,qt,qt⟩⟩
structure bF where
 Xv:(List Int)
instance:Inhabited bF:=⟨⟨qt⟩⟩
structure cA where
 Xk:Int
 XN:Int
 Place:Int
instance:Inhabited cA:=⟨⟨qt,qt,qt⟩⟩
structure ez where
 Xg:Int
 Xj:Int
 XD:(List Int)
instance:Inhabited ez:=⟨⟨qt,qt,qt⟩⟩
structure cl where
 XP:(List (Int×Int×Int))
 XI:(List ez)
instance:Inhabited cl:=⟨⟨qt,qt⟩⟩
structure aH where
 Xc:(List (List Int))
 Xa:(List cl)
instance:Inhabited aH:=⟨⟨qt,qt⟩⟩
structure eT where
 XC:cA
 XU:Int
 Path:aH
instance:Inhabited eT:=⟨⟨qt,qt,qt⟩⟩
structure lF where
 where_:(Int×Int×Int×Int×Int×Int)
 last:Int
 action:cA
instance:Inhabited lF:=⟨⟨qt,qt,qt⟩⟩
structure oe where
 XZ:bF
 XC:cA
instance:Inhabited oe:=⟨⟨qt,qt⟩⟩
structure lS where
 in_:(Int×Int×Int×Int×Int×Int)
 by_:cA
instance:Inhabited lS:=⟨⟨qt,qt⟩⟩
structure lH where
 before:(Int×Int×Int×Int×Int×Int)
 by_:cA
instance:Inhabited lH:=⟨⟨qt,qt⟩⟩
structure af where
 Lo:Int
 Hi:Int
instance:Inhabited af:=⟨⟨qt,qt⟩⟩
structure aN where
 R:((af×af×af)×(af×af×af)×(af×af×af))
 T:(af×af×af)
instance:Inhabited aN:=⟨⟨qt,qt⟩⟩
structure iw where
 A:Int
 B:Int
instance:Inhabited iw:=⟨⟨qt,qt⟩⟩
structure gk where
 shapes:(List bW)
 pairs:(List iw)
 points:(List (List (af×af×af)))
instance:Inhabited gk:=⟨⟨qt,qt,qt⟩⟩
structure cN where
 XR:Int
 Left:(List Int)
 XL:(List Int)
instance:Inhabited cN:=⟨⟨qt,qt,qt⟩⟩
structure d9 where
 Xk:Int
 Xf:(List (Int×Int×Int))
 Xq:cN
instance:Inhabited d9:=⟨⟨qt,qt,qt⟩⟩
structure pE where
 a:(List (af×af×af))
 b:(List (af×af×af))
 ra:Int
 rb:Int
instance:Inhabited pE:=⟨⟨qt,qt,qt,qt⟩⟩
structure iL where
 points:(List (af×af×af))
 radius:Int
instance:Inhabited iL:=⟨⟨qt,qt⟩⟩
structure iH where
 a:iL
 b:iL
instance:Inhabited iH:=⟨⟨qt,qt⟩⟩
structure eh where
 Xk:Int
 XK:(Int×Int×Int)
 Left:(List Int)
 XL:(List Int)
 Steps:Int
instance:Inhabited eh:=⟨⟨qt,qt,qt,qt,qt⟩⟩
structure p8 where
 points:(List (Int×Int×Int))
 weights:(List Int)
instance:Inhabited p8:=⟨⟨qt,qt⟩⟩
structure vz where
 list:p8
instance:Inhabited vz:=⟨⟨qt⟩⟩
structure uX where
 list:p8
instance:Inhabited uX:=⟨⟨qt⟩⟩
structure LH where
 left:vz
 right:uX
 normal:(Int×Int×Int)
 rounds:Int
instance:Inhabited LH:=⟨⟨qt,qt,qt,qt⟩⟩
structure pv where
 witness:cN
instance:Inhabited pv:=⟨⟨qt⟩⟩
structure kz where
 normals:(List (Int×Int×Int))
instance:Inhabited kz:=⟨⟨qt⟩⟩
structure aE where
 Xg:Int
 Xj:Int
 Xf:(List (Int×Int×Int))
instance:Inhabited aE:=⟨⟨qt,qt,qt⟩⟩
structure bR where
 Xk:Int
 Xs:(List aE)
 At:aE
 Xq:cN
instance:Inhabited bR:=⟨⟨qt,qt,qt,qt⟩⟩
structure bD where
 U:Int
 V:Int
 Xh:Int
 Xo:Int
 XA:bR
instance:Inhabited bD:=⟨⟨qt,qt,qt,qt,qt⟩⟩
structure aw where
 Xc:(List (List Int))
 Xa:(List bD)
instance:Inhabited aw:=⟨⟨qt,qt⟩⟩
structure fq where
 Xn:Int
 XJ:Int
 XS:Int
 XQ:Int
instance:Inhabited fq:=⟨⟨qt,qt,qt,qt⟩⟩
structure lJ where
 joints:(List cq)
 points:(List (List Int))
 tree:(List fq)
 q:(List Int)
instance:Inhabited lJ:=⟨⟨qt,qt,qt,qt⟩⟩
structure bY where
 Xp:(List Int)
 Xh:Int
instance:Inhabited bY:=⟨⟨qt,qt⟩⟩
structure eR where
 to:Int
 cost:Int
instance:Inhabited eR:=⟨⟨qt,qt⟩⟩
structure dh where
 cost:Int
 points:Int
instance:Inhabited dh:=⟨⟨qt,qt⟩⟩
structure eS where
 rank:dh
 point:Int
instance:Inhabited eS:=⟨⟨qt,qt⟩⟩
structure lT where
 scene:ak
 depth:Int
instance:Inhabited lT:=⟨⟨qt,qt⟩⟩
structure iv where
 scene:ak
 p:(List Int)
 q:(List Int)
 pieces:(List aE)
instance:Inhabited iv:=⟨⟨qt,qt,qt,qt⟩⟩
structure AZ where
 list:(List Int)
 next:Int
instance:Inhabited AZ:=⟨⟨qt,qt⟩⟩
structure dF where
 Xh:Int
 Xa:Int
instance:Inhabited dF:=⟨⟨qt,qt⟩⟩
structure eH where
 depth:Int
 index:Int
 hints:(List (Int×Int×Int))
instance:Inhabited eH:=⟨⟨qt,qt,qt⟩⟩
structure ky where
 points:(List (af×af×af))
 radius:Int
instance:Inhabited ky:=⟨⟨qt,qt⟩⟩
structure yc where
 mode:bF
 before:Int
 action:cA
 depth:Int
instance:Inhabited yc:=⟨⟨qt,qt,qt,qt⟩⟩
abbrev A3:=List cq
abbrev A4:=List kP
abbrev A5:=List bW
abbrev A6:=List fv
abbrev A7:=List Int
abbrev A8:=List A7
abbrev A9:=A7×A7
abbrev Aa:=List gl
abbrev Ab:=List fu
abbrev Ac:=List cA
abbrev Ad:=Ac×Int
abbrev Ae:=List oe
abbrev Af:=A5×Int
abbrev Ag:=List kE
abbrev Ah:=List af
abbrev Ai:=Ah×Int
abbrev Aj:=List aN
abbrev Ak:=A7×Int
abbrev Al:=List iw
abbrev Am:=Al×Int
abbrev An:=List fq
abbrev Ao:=List bD
abbrev Ap:=A8×Ao
abbrev Aq:=Ao×Int
abbrev Ar:=List aE
abbrev As:=Ar×Int
abbrev Au:=A8×Int
abbrev Av:=List eR
abbrev Aw:=List Av
abbrev Ax:=List eS
abbrev Ay:=List dh
abbrev Az:=List ez
abbrev B0:=List cl
abbrev B1:=B0×Int
abbrev B4:=Az×Int
abbrev B5:=List eT
abbrev B6:=List dF
abbrev B7:=List ky
abbrev B8:=List eH
abbrev B9:=Int×Int
abbrev Ba:=List B9
abbrev Bb:=Nat×Nat
abbrev Bd:=List (B9×Bool)
abbrev Bf:=List (lF×eT)
abbrev Bg:=B6×Bool
abbrev Bi:=List (lS×Bool)
abbrev Bj:=Int×Bool
abbrev Bk:=Int×A7×An
abbrev Bl:=Int×A7×A7
abbrev Bm:=A7×A7×Int
abbrev Bn:=A7×Int×A5
abbrev Bo:=A7×Int×Int
abbrev Bp:=A8×Ao×Bool
abbrev Bq:=Int×Int×Int
abbrev Br:=List Bq
abbrev Bs:=Br×Az
abbrev Bt:=Br×Int
abbrev Bv:=List (Bq×Int)
abbrev Bw:=Bq×Bool
abbrev Bx:=af×af×af
abbrev By:=List Bx
abbrev Bz:=List By
abbrev C0:=Bx×Bx×Bx
abbrev C1:=Bool×Int×Int
abbrev C2:=Int×Int×Bool
abbrev C3:=Bool×Bool×Bq
abbrev C4:=aH×Int×Bool
abbrev C5:=Bool×Bool×Bool
abbrev C6:=Ar×Int×Int×Br
abbrev C7:=A7×Int×A5×Int
abbrev C8:=Int×A7×Int×Int
abbrev C9:=Int×Int×Int×Int
abbrev Ca:=Bool×ByteArray×A5
abbrev Cb:=aw×bY×Int×Int
abbrev Cc:=Int×Int×Int×Int×Int
abbrev Cd:=A7×Bf×A7×B5×Int×Int
abbrev Ce:=Int×Int×Int×Int×Int×Int
abbrev Cf:=List Ce
abbrev Cg:=Ce×lH
abbrev Ch:=List Cg
abbrev Ci:=Ch×Cf×Int
abbrev Cj:=Bool×Bq×By×By×Int×Int×Br
abbrev Ck:=Bf×Int×Int×Int×Int×A8×B0
abbrev Cl:=Int×Int×Int×Int×Int×Int×Int
abbrev Cm:=Int×Int×Int×Int×Int×Int×Int×Int×Int×Int
abbrev Cn:=Cm×Bool
abbrev Co:=Int×Int×Int×Int×Int×Int×Int×Int×Int×Int×Int
abbrev Cp:=Bool×Ar×Int×Ar×Int×Int×Br×Int×A7×A7×A7×A7×A3×Ab×A5×Ag×Int
abbrev Cq:=Int×Int×Int×Int×Int×Int×Int×Int×Int×Int×Int×Int×Int×Int×Int×Int×Int×Int×Int×Int×Int×Int×Int×Int
def mn (v:cq):ae:=.agg [.str v.XO,ke v.Xk,ke v.Xw,ke v.XH.1,ke v.XH.2.1,ke v.XH.2.2,ke v.Lo,ke v.Hi,ke v.XG,ke v.XV,ke v.XX,ke v.XT]
def mH (v:fu):ae:=.agg [ke v.XF,ke v.XY,ke v.Xn.1,ke v.Xn.2.1,ke v.Xn.2.2]
def ael (v:ao):ae:=.agg [encL 12 mn v.Xb,encL 5 mH v.Xl]
def cr (v:Bq):ae:=.agg [ke v.1,ke v.2.1,ke v.2.2]
def kR (v:bW):ae:=.agg [ke v.XF,ke v.XB,encL 3 cr v.Xc]
def ot (v:kE):ae:=.agg [ke v.A,ke v.B]
def aen (v:ak):ae:=.agg [encL 12 mn v.Xe.Xb,encL 5 mH v.Xe.Xl,encL 3 kR v.Xd,encL 2 ot v.Xi]
def adq (v:bX):ae:=.agg [ke v.Xt,ke v.XE,ke v.Xg,ke v.XM]
def SF (v:kP):ae:=.agg [ke v.XF,ke v.XH.1,ke v.XH.2.1,ke v.XH.2.2]
def EU (v:fv):ae:=.agg [.str v.XO,encL 3 kR v.Xd]
def SE (v:gl):ae:=.agg [ke v.XN,ke v.Place,encL 1 bE v.At]
def aaF (v:aT):ae:=.agg [encL 12 mn v.Xr.Xe.Xb,encL 5 mH v.Xr.Xe.Xl,encL 3 kR v.Xr.Xd,encL 2 ot v.Xr.Xi,encL 2 EU v.Xm,encL 3 cr v.Xu,encL 4 SF v.Xx,encL 3 SE v.Xz,ke v.Xy]
def afJ (v:bF):ae:=.agg [encL 1 bE v.Xv]
def Q5 (v:cA):ae:=.agg [ke v.Xk,ke v.XN,ke v.Place]
def mN (v:ez):ae:=.agg [ke v.Xg,ke v.Xj,encL 1 bE v.XD]
def dL (v:cl):ae:=.agg [encL 3 cr v.XP,encL 3 mN v.XI]
def afK (v:aH):ae:=.agg [encL 1 (encL 1 bE) v.Xc,encL 2 dL v.Xa]
def dy (v:eT):ae:=.agg [ke v.XC.Xk,ke v.XC.XN,ke v.XC.Place,ke v.XU,encL 1 (encL 1 bE) v.Path.Xc,encL 2 dL v.Path.Xa]
def WV (v:lF):ae:=.agg [ke v.where_.1,ke v.where_.2.1,ke v.where_.2.2.1,ke v.where_.2.2.2.1,ke v.where_.2.2.2.2.1,ke v.where_.2.2.2.2.2,ke v.last,ke v.action.Xk,ke v.action.XN,ke v.action.Place]
def cZ (v:lF):List ae:=[ke v.where_.1,ke v.where_.2.1,ke v.where_.2.2.1,ke v.where_.2.2.2.1,ke v.where_.2.2.2.2.1,ke v.where_.2.2.2.2.2,ke v.last,ke v.action.Xk,ke v.action.XN,ke v.action.Place]
def TC (v:oe):ae:=.agg [encL 1 bE v.XZ.Xv,ke v.XC.Xk,ke v.XC.XN,ke v.XC.Place]
def abl (v:lS):ae:=.agg [ke v.in_.1,ke v.in_.2.1,ke v.in_.2.2.1,ke v.in_.2.2.2.1,ke v.in_.2.2.2.2.1,ke v.in_.2.2.2.2.2,ke v.by_.Xk,ke v.by_.XN,ke v.by_.Place]
def lK (v:lS):List ae:=[ke v.in_.1,ke v.in_.2.1,ke v.in_.2.2.1,ke v.in_.2.2.2.1,ke v.in_.2.2.2.2.1,ke v.in_.2.2.2.2.2,ke v.by_.Xk,ke v.by_.XN,ke v.by_.Place]
def eK (v:lH):ae:=.agg [ke v.before.1,ke v.before.2.1,ke v.before.2.2.1,ke v.before.2.2.2.1,ke v.before.2.2.2.2.1,ke v.before.2.2.2.2.2,ke v.by_.Xk,ke v.by_.XN,ke v.by_.Place]
def aaG (v:Ce):ae:=.agg [ke v.1,ke v.2.1,ke v.2.2.1,ke v.2.2.2.1,ke v.2.2.2.2.1,ke v.2.2.2.2.2]
def dR (v:Ce):List ae:=[ke v.1,ke v.2.1,ke v.2.2.1,ke v.2.2.2.1,ke v.2.2.2.2.1,ke v.2.2.2.2.2]
def ye (v:af):ae:=.agg [ke v.Lo,ke v.Hi]
def SH (v:aN):ae:=.agg [ke v.R.1.1.Lo,ke v.R.1.1.Hi,ke v.R.1.2.1.Lo,ke v.R.1.2.1.Hi,ke v.R.1.2.2.Lo,ke v.R.1.2.2.Hi,ke v.R.2.1.1.Lo,ke v.R.2.1.1.Hi,ke v.R.2.1.2.1.Lo,ke v.R.2.1.2.1.Hi,ke v.R.2.1.2.2.Lo,ke v.R.2.1.2.2.Hi,ke v.R.2.2.1.Lo,ke v.R.2.2.1.Hi,ke v.R.2.2.2.1.Lo,ke v.R.2.2.2.1.Hi,ke v.R.2.2.2.2.Lo,ke v.R.2.2.2.2.Hi,ke v.T.1.Lo,ke v.T.1.Hi,ke v.T.2.1.Lo,ke v.T.2.1.Hi,ke v.T.2.2.Lo,ke v.T.2.2.Hi]
def Zx (v:C9):ae:=.agg [ke v.1,ke v.2.1,ke v.2.2.1,ke v.2.2.2]
def W3 (v:C0):ae:=.agg [ke v.1.1.Lo,ke v.1.1.Hi,ke v.1.2.1.Lo,ke v.1.2.1.Hi,ke v.1.2.2.Lo,ke v.1.2.2.Hi,ke v.2.1.1.Lo,ke v.2.1.1.Hi,ke v.2.1.2.1.Lo,ke v.2.1.2.1.Hi,ke v.2.1.2.2.Lo,ke v.2.1.2.2.Hi,ke v.2.2.1.Lo,ke v.2.2.1.Hi,ke v.2.2.2.1.Lo,ke v.2.2.2.1.Hi,ke v.2.2.2.2.Lo,ke v.2.2.2.2.Hi]
def gL (v:Bx):ae:=.agg [ke v.1.Lo,ke v.1.Hi,ke v.2.1.Lo,ke v.2.1.Hi,ke v.2.2.Lo,ke v.2.2.Hi]
def SG (v:iw):ae:=.agg [ke v.A,ke v.B]
def YI (v:gk):ae:=.agg [encL 3 kR v.shapes,encL 2 SG v.pairs,encL 1 (encL 6 gL) v.points]
def acv (v:cN):ae:=.agg [ke v.XR,encL 1 bE v.Left,encL 1 bE v.XL]
def acu (v:d9):ae:=.agg [ke v.Xk,encL 3 cr v.Xf,ke v.Xq.XR,encL 1 bE v.Xq.Left,encL 1 bE v.Xq.XL]
def Yc (v:pE):ae:=.agg [encL 6 gL v.a,encL 6 gL v.b,ke v.ra,ke v.rb]
def Z8 (v:iL):ae:=.agg [encL 6 gL v.points,ke v.radius]
def ZA (v:iH):ae:=.agg [encL 6 gL v.a.points,ke v.a.radius,encL 6 gL v.b.points,ke v.b.radius]
def acs (v:eh):ae:=.agg [ke v.Xk,ke v.XK.1,ke v.XK.2.1,ke v.XK.2.2,encL 1 bE v.Left,encL 1 bE v.XL,ke v.Steps]
def Y4 (v:p8):ae:=.agg [encL 3 cr v.points,encL 1 bE v.weights]
def Y3 (v:vz):ae:=.agg [encL 3 cr v.list.points,encL 1 bE v.list.weights]
def YJ (v:uX):ae:=.agg [encL 3 cr v.list.points,encL 1 bE v.list.weights]
def YK (v:LH):ae:=.agg [encL 3 cr v.left.list.points,encL 1 bE v.left.list.weights,encL 3 cr v.right.list.points,encL 1 bE v.right.list.weights,ke v.normal.1,ke v.normal.2.1,ke v.normal.2.2,ke v.rounds]
def WU (v:pv):ae:=.agg [ke v.witness.XR,encL 1 bE v.witness.Left,encL 1 bE v.witness.XL]
def WS (v:kz):ae:=.agg [encL 3 cr v.normals]
def mo (v:aE):ae:=.agg [ke v.Xg,ke v.Xj,encL 3 cr v.Xf]
def Z7 (v:bR):ae:=.agg [ke v.Xk,encL 3 mo v.Xs,ke v.At.Xg,ke v.At.Xj,encL 3 cr v.At.Xf,ke v.Xq.XR,encL 1 bE v.Xq.Left,encL 1 bE v.Xq.XL]
def nB (v:bD):ae:=.agg [ke v.U,ke v.V,ke v.Xh,ke v.Xo,ke v.XA.Xk,encL 3 mo v.XA.Xs,ke v.XA.At.Xg,ke v.XA.At.Xj,encL 3 cr v.XA.At.Xf,ke v.XA.Xq.XR,encL 1 bE v.XA.Xq.Left,encL 1 bE v.XA.Xq.XL]
def act (v:aw):ae:=.agg [encL 1 (encL 1 bE) v.Xc,encL 12 nB v.Xa]
def Y2 (v:Cm):ae:=.agg [ke v.1,ke v.2.1,ke v.2.2.1,ke v.2.2.2.1,ke v.2.2.2.2.1,ke v.2.2.2.2.2.1,ke v.2.2.2.2.2.2.1,ke v.2.2.2.2.2.2.2.1,ke v.2.2.2.2.2.2.2.2.1,ke v.2.2.2.2.2.2.2.2.2]
def ft (v:Cm):List ae:=[ke v.1,ke v.2.1,ke v.2.2.1,ke v.2.2.2.1,ke v.2.2.2.2.1,ke v.2.2.2.2.2.1,ke v.2.2.2.2.2.2.1,ke v.2.2.2.2.2.2.2.1,ke v.2.2.2.2.2.2.2.2.1,ke v.2.2.2.2.2.2.2.2.2]
def Q6 (v:fq):ae:=.agg [ke v.Xn,ke v.XJ,ke v.XS,ke v.XQ]
def Yd (v:lJ):ae:=.agg [encL 12 mn v.joints,encL 1 (encL 1 bE) v.points,encL 4 Q6 v.tree,encL 1 bE v.q]
def O7 (v:B9):ae:=.agg [ke v.1,ke v.2]
def eI (v:B9):List ae:=[ke v.1,ke v.2]
def aem (v:bY):ae:=.agg [encL 1 bE v.Xp,ke v.Xh]
def lN (v:eR):ae:=.agg [ke v.to,ke v.cost]
def NY (v:dh):ae:=.agg [ke v.cost,ke v.points]
def Nu (v:eS):ae:=.agg [ke v.rank.cost,ke v.rank.points,ke v.point]
def Zz (v:lT):ae:=.agg [encL 12 mn v.scene.Xe.Xb,encL 5 mH v.scene.Xe.Xl,encL 3 kR v.scene.Xd,encL 2 ot v.scene.Xi,ke v.depth]
def W4 (v:iv):ae:=.agg [encL 12 mn v.scene.Xe.Xb,encL 5 mH v.scene.Xe.Xl,encL 3 kR v.scene.Xd,encL 2 ot v.scene.Xi,encL 1 bE v.p,encL 1 bE v.q,encL 3 mo v.pieces]
def dq (v:Bq):List ae:=[ke v.1,ke v.2.1,ke v.2.2]
def Zy (v:AZ):ae:=.agg [encL 1 bE v.list,ke v.next]
def NX (v:dF):ae:=.agg [ke v.Xh,ke v.Xa]
def LV (v:eH):ae:=.agg [ke v.depth,ke v.index,encL 3 cr v.hints]
def Z9 (v:ky):ae:=.agg [encL 6 gL v.points,ke v.radius]
def aa0 (v:yc):ae:=.agg [encL 1 bE v.mode.Xv,ke v.before,ke v.action.Xk,ke v.action.XN,ke v.action.Place,ke v.depth]
def uQ (v:Co):ae:=.agg [ke v.1,ke v.2.1,ke v.2.2.1,ke v.2.2.2.1,ke v.2.2.2.2.1,ke v.2.2.2.2.2.1,ke v.2.2.2.2.2.2.1,ke v.2.2.2.2.2.2.2.1,ke v.2.2.2.2.2.2.2.2.1,ke v.2.2.2.2.2.2.2.2.2.1,ke v.2.2.2.2.2.2.2.2.2.2]
instance:En cq:=⟨12,mn⟩
instance:En fu:=⟨5,mH⟩
instance:En ao:=⟨2,ael⟩
instance:En bW:=⟨3,kR⟩
instance:En kE:=⟨2,ot⟩
instance:En ak:=⟨4,aen⟩
instance:En bX:=⟨4,adq⟩
instance:En Bq:=⟨3,cr⟩
instance:En kP:=⟨4,SF⟩
instance:En fv:=⟨2,EU⟩
instance:En gl:=⟨3,SE⟩
instance:En aT:=⟨9,aaF⟩
instance:En bF:=⟨1,afJ⟩
instance:En cA:=⟨3,Q5⟩
instance:En ez:=⟨3,mN⟩
instance:En cl:=⟨2,dL⟩
instance:En aH:=⟨2,afK⟩
instance:En eT:=⟨6,dy⟩
instance:En lF:=⟨10,WV⟩
instance:En oe:=⟨4,TC⟩
instance:En lS:=⟨9,abl⟩
instance:En lH:=⟨9,eK⟩
instance:En Ce:=⟨6,aaG⟩
instance:En af:=⟨2,ye⟩
instance:En aN:=⟨24,SH⟩
instance:En C9:=⟨4,Zx⟩
instance:En C0:=⟨18,W3⟩
instance:En Bx:=⟨6,gL⟩
instance:En iw:=⟨2,SG⟩
instance:En gk:=⟨3,YI⟩
instance:En cN:=⟨3,acv⟩
instance:En d9:=⟨5,acu⟩
instance:En pE:=⟨4,Yc⟩
instance:En iL:=⟨2,Z8⟩
instance:En iH:=⟨4,ZA⟩
instance:En eh:=⟨7,acs⟩
instance:En p8:=⟨2,Y4⟩
instance:En vz:=⟨2,Y3⟩
instance:En uX:=⟨2,YJ⟩
instance:En LH:=⟨8,YK⟩
instance:En pv:=⟨3,WU⟩
instance:En kz:=⟨1,WS⟩
instance:En aE:=⟨3,mo⟩
instance:En bR:=⟨8,Z7⟩
instance:En bD:=⟨12,nB⟩
instance:En aw:=⟨2,act⟩
instance:En Cm:=⟨10,Y2⟩
instance:En fq:=⟨4,Q6⟩
instance:En lJ:=⟨4,Yd⟩
instance:En B9:=⟨2,O7⟩
instance:En bY:=⟨2,aem⟩
instance:En eR:=⟨2,lN⟩
instance:En dh:=⟨2,NY⟩
instance:En eS:=⟨3,Nu⟩
instance:En lT:=⟨5,Zz⟩
instance:En iv:=⟨7,W4⟩
instance:En AZ:=⟨2,Zy⟩
instance:En dF:=⟨2,NX⟩
instance:En eH:=⟨3,LV⟩
instance:En ky:=⟨2,Z9⟩
instance:En yc:=⟨6,aa0⟩
theorem gq20 (a b:Nat){f:FuncId}{fn:Func}(q:prog.funcs[f]?=some fn)(h:(fn.name== "runtime.NumGoroutine")=false:=by kernel_rfl)(o:fn.body=some (.seq (.region 0 #[((gOps fn).getD 0 qt),((gOps fn).getD 1 qt)] E) (.cond (.tmp b) (gX fn) .skip)):=by kernel_rfl)(p:((gOps fn).getD 0 qt).op=.call (gC ((gOps fn).getD 0 qt)):=by kernel_rfl)(r:(gC ((gOps fn).getD 0 qt)).callee=.builtin .recover:=by kernel_rfl)(s:((gOps fn).getD 0 qt).dst=some a:=by kernel_rfl)(t:((gOps fn).getD 0 qt).guard=none:=by kernel_rfl)(w:((gOps fn).getD 1 qt).op=.binOp .neq 20 (.tmp a) (.const .nilIface) 20:=by kernel_rfl)(x:((gOps fn).getD 1 qt).dst=some b:=by kernel_rfl)(y:((gOps fn).getD 1 qt).guard=none:=by kernel_rfl)(z:a<fn.ntmps:=by decide)(k:b<fn.ntmps:=by decide)(m:fn.results=#[]:=by kernel_rfl):GuardFn prog f:=
 adx q h ⟨0,_,_,a,b,gX fn,_,20,20,o,p,r,s,t,w,x,y,⟨gMs (prog.underlying 20),jY⟩,z,k,m⟩
theorem afS:GuardFn prog 120:=
 gq20 1 2 func120
theorem afT:GuardFn prog 125:=
 gq20 4 5 func125
theorem afU:GuardFn prog 129:=
 gq20 1 2 func129
theorem afV:GuardFn prog 133:=
 gq20 2 3 func133
theorem afW:GuardFn prog 200:=
 gq20 2 3 func200
theorem afX:GuardFn prog 205:=
 gq20 2 3 func205
theorem afY:GuardFn prog 206:=
 gq20 1 2 func206
theorem afZ:GuardFn prog 207:=
 gq20 2 3 func207
theorem ag0:GuardFn prog 212:=
 gq20 3 4 func212
theorem ag1:GuardFn prog 215:=
 gq20 2 3 func215
theorem ag2:GuardFn prog 224:=
 gq20 3 4 func224
theorem ag3:GuardFn prog 279:=
 gq20 2 3 func279
theorem ag4:GuardFn prog 280:=
 gq20 2 3 func280
theorem SV:GuardFn prog 286:=
 gq20 2 3 func286
theorem ag5:GuardFn prog 296:=
 gq20 1 2 func296
theorem ag6:GuardFn prog 300:=
 gq20 1 2 func300
theorem ag7:GuardFn prog 306:=
 gq20 1 2 func306
theorem ag8:GuardFn prog 322:=
 gq20 1 2 func322
theorem ag9:GuardFn prog 323:=
 gq20 1 2 func323
theorem aga:GuardFn prog 357:=
 gq20 1 2 func357
theorem agb:GuardFn prog 383:=
 gq20 1 2 func383
theorem agc:GuardFn prog 411:=
 gq20 1 2 func411
theorem agd:GuardFn prog 415:=
 gq20 2 3 func415
theorem age:GuardFn prog 423:=
 gq20 1 2 func423
theorem agf:GuardFn prog 433:=
 gq20 1 2 func433
theorem agh:GuardFn prog 487:=
 gq20 2 3 func487
theorem agi:GuardFn prog 510:=
 gq20 2 3 func510
def Kt (k:ak):T Bool:=.kh ((C k.Xe.Xb:Int)<=4) (.kh ((C k.Xe.Xl:Int)<=6) (.kh ((C k.Xd:Int)<=6) (.jT (qu ((C k.Xi:Int)<=8))) (.jT E)) (.jT E)) (.jT E)
def M8:=mkp1 func6 Kt
def rH (k:Int):T ByteArray:=let m:=G qs (k+1);.grd (0<=k/\k<=m/\m<=(((⟨#[97,98,99,100,101,102,103,104,105,106]⟩:ByteArray).size:Nat):Int))<|.jT ((⟨#[97,98,99,100,101,102,103,104,105,106]⟩:ByteArray).extract k.toNat m.toNat)
def nO:=mkp1 func32 rH
def aaR (o p:Int):T ao:=.vn (λ(k:(A3×Int))=>([(6,pz k.2)],[(65,vO k.1 85)])) [0,1,4,5] [0,1,2,64,66] 0 (λ(k:A3)=>([],[(65,vO k 85)])) [4,5] [0,1,2,64,66] (λk=>.kh (k.2<o) (.cc (nO k.2) λr=>let m:=([(⟨r,(G qs (4+(k.2.tmod 2))),(G qs (k.2-1)),(0,0,0),0,p,1,65536,65536,65536⟩:cq)]:A3);
 .ok ((2:Int)≠0) jU<|.vh 5011 k.1 m 85 104<|.nn ((k.1++m),(G qs (k.2+1)))) (.oo k.1)) (nl,0) λk=>.jT (⟨k,nl⟩:ao)
def rG:=mkp2 func28 aaR
def acA:T aT:=.cc (rG 2 64) λk=>.conv 3002 (kL ([(16,0,0),(32,0,0)]:Br) 70)<|.conv 4001 (kL ([(⟨1,(0,0,0)⟩:kP)]:A4) 87)<|.conv 5001 (kL ([(0,0,0)]:Br) 70)<|.conv 5003 (kL ([(⟨0,1,([(0,0,0)]:Br)⟩:bW)]:A5) 72)<|.conv 5005 (kL ([(⟨(⟨#[111]⟩:ByteArray),([(⟨0,1,([(0,0,0)]:Br)⟩:bW)]:A5)⟩:fv)]:A6) 90)<|.conv 6000 (kL ([16,0]:A7) 2)<|.conv 6002 (kL ([32,0]:A7) 2)<|.conv 6004 (kL ([(⟨0,0,([16,0]:A7)⟩:gl),(⟨0,1,([32,0]:A7)⟩:gl)]:Aa) 92)<|.jT (⟨(⟨k,nl,nl⟩:ak),([(⟨(⟨#[111]⟩:ByteArray),([(⟨0,1,([(0,0,0)]:Br)⟩:bW)]:A5)⟩:fv)]:A6),([(16,0,0),(32,0,0)]:Br),([(⟨1,(0,0,0)⟩:kP)]:A4),([(⟨0,0,([16,0]:A7)⟩:gl),(⟨0,1,([32,0]:A7)⟩:gl)]:Aa),0⟩:aT)
def law39_one_C:aC aT:=mkD func21 (acA) 0 [] [] q X6
def Ds (p k:Int):T Int:=let m:=p.tmod k;.grd (k≠0)<|.cut 0 (λs (o:Int)=>pk s [] [] [(5,pz o)] []) (.kh (m<0) (.oo (G qs (m+k))) (.oo m)) λo=>.jT o
def eY:=mkp2 func11 Ds
def yw (k m:Int):T bX:=.cc (eY k 4) λo=>.cc (eY m 20) λp=>.jT (⟨o,3,4,p⟩:bX)
def nG:=mkp2 func10 yw
def LG (k:Int):T Bool:=.kh (97<=k) (.jT (qu (k<=122))) (.jT E)
def NS k:=mkD func185 (LG k) 0 [.pure (.int .i32 k)] [] q X6
def MG (k:Int):T Bool:=.kh (48<=k) (.jT (qu (k<=57))) (.jT E)
def Ou k:=mkD func186 (MG k) 0 [.pure (.int .i32 k)] [] q X6
def Ee (m:ByteArray):T Bool:=let r:=(m.size:Nat);.cub 2 16 [0] [] (.ki ((r:Int)==0) (.kl ((r:Int)>16) (.oo (m==(⟨#[119,111,114,108,100]⟩:ByteArray))))) λw=>.br w (.jT E) (.loop (λs (k:Nat)=>pk s [18] [] [] [(192,.iter m k)]) (.exit 0) (jk [] []) (λk=>let t:=Utf8.decode m k;let o:=(t.1:Int);.brP (k<m.size) (.cub 2 38 [18] [192] (.cc (NS o) λp=>.kj (!p) (.ki ((k:Int)==0) (.cc (Ou o) λx=>.kj (!x) (.oo (o !=95))))) λp=>.br p (.ff E) (.nn (k+t.2))) (.oo .u))
 0 [] λ_=>.jT D)
def Ed:=mkp1 func103 Ee
def D8 (m:ao)(o:ByteArray):T Int:=.loop (ik 9 [1,2,8] [0]) (.exit 0) (jk [] []) (λk=>.kh (k<(C m.Xb:Int)) (.vd k m.Xb<|.br (((F m.Xb (k.toNat) qt).XO)==o) (.ff k) (.nn (G qs (k+1)))) (.oo .u))
 0 [] λ_=>.jT (-1)
def Qo:=mkp2 func246 D8
def AP (m:Bq):T Bool:=.loop (ik 6 [5] []) (.exit 0) (jk [] []) (λk=>let o:=F ([m.1,m.2.1,m.2.2]:List Int) k.toNat 0;.kh (k<3) (.gh k 3<|.cub 0 14 [5,6] [] (.kl (o<(-4194304)) (.oo (qu (o>4194304)))) λp=>.br p (.ff D) (.nn (G qs (k+1)))) (.oo .u))
 0 [] λ_=>.jT E
def AO:=mkp1 func247 AP
def CO (k:Int):T Int:=.cub 3 4 [3] [] (.br (k==1) (.oo (k==1)) (.br (k==2) (.oo (k==2)) (.oo (k==3)))) λm=>.br m (.jT 524288) (.cub 0 8 [] [] (.br (k==4) (.oo (k==4)) (.br (k==5) (.oo (k==5)) (.oo (k==6)))) λo=>.br o (.jT 4194304) (.jT 0))
def PF:=mkp1 func248 CO
def CN (k m:Int):T Bool:=.kh (1<=k) (.jT (qu (k<=m))) (.jT E)
def nR:=mkp2 func249 CN
def J8 (m:ao)(o:Int):T Int:=let k:=F m.Xb (o.toNat) qt;let p:=k.Xk;.vd o m.Xb<|.cub 1 12 [1,5] [448] (.cc (Ed (k.XO)) λr=>.ki (!r) (.cc (Qo (⟨m.Xb,m.Xl⟩:ao) (k.XO)) λs=>.oo (s !=o))) λr=>.br r (.jT 802) (.cub 0 25 [1,5] [448] (.kl (p<0) (.oo (qu (p>6)))) λs=>.br s (.jT 803) (.cub 0 34 [5] [448] (.kl ((k.Xw)<(-1)) (.oo (qu ((k.Xw)>=o)))) λx=>.br x (.jT 804) (.cc (AO (k.XH)) λy=>.br y (.jT 805) (.cc (PF p) λw=>.cub 1 68 [5] [448] (.kl ((k.Lo)>(k.Hi)) (.kl ((k.Lo)<(G qs (0-w))) (.oo (qu ((k.Hi)>w))))) λz=>.br z (.jT 806) (.cub 1 90 [] [] (.cc (nR (k.XG) 1024) λt=>.ki (!t) (.cc (nR (k.XV) 1048576) λA=>.ki (!A) (.cc (nR (k.XX) 1048576) λB=>.ki (!B) (.cc (nR (k.XT) 1099511627776) λH=>.oo (!H))))) λt=>.br t (.jT 807) (.jT 0))))))
def WG:=mkp2 func160 J8
def KM (m:ao)(k:fu):T Bool:=.kh (0<=k.XF) (.kh (k.XF<(C m.Xb:Int)) (.cc (nR k.XY 65536) λo=>.br o (.cc (AO k.Xn) λp=>.jT (!p)) (.jT E)) (.jT E)) (.jT E)
def Ni:=mkp2 func163 KM
def Ms (k:fu)(m:A3)(o:Ab):T (Bool×A3×Ab):=.cc (Ni (⟨m,o⟩:ao) (⟨k.XF,k.XY,k.Xn⟩:fu)) λp=>.jT ((!p),m,o)
def Oh k m o:=mkD func162 (Ms k m o) 1 [q k,X7 0] [(0,.box [q m,q o])] (λr=>q r.1) (λr=>[(0,.box [q r.2.1,q r.2.2])])
def Ie (p:Ab)(r:A3)(s:Ab):T (Int×A3×Ab):=.vn (λ(k:(A3×Ab×Int))=>([(8,pz k.2.2)],[(0,.box [q k.1,q k.2.1])])) [0,1,7] [] 0 (λ(k:(A3×Ab))=>([],[(0,.box [q k.1,q k.2])])) [] [] (λk=>let m:=k.2.2;.kh (m<(C p:Int)) (.vd m p<|.call (Oh (F p (X3 m) qt) k.1 k.2.1) [(0,0)] λo=>.br o.1 (.ff (m,o.2.1,o.2.2)) (.nn (o.2.1,o.2.2,(G qs (m+1))))) (.oo (k.1,k.2.1))) (r,s,0) λk=>.jT ((-1),k.1,k.2)
def VG k m o:=mkD func250 (Ie k m o) 1 [q k,.func 162 [] [X7 0]] [(0,.box [q m,q o])] (λr=>pz r.1) (λr=>[(0,.box [q r.2.1,q r.2.2])])
def Ia (m:Ab)(o:A3)(p:Ab):T (Bool×A3×Ab):=.call (VG m o p) [(0,0)] λk=>.jT ((qu (k.1>=0)),k.2.1,k.2.2)
def VC k m o:=mkD func161 (Ia k m o) 1 [q k,.func 162 [] [X7 0]] [(0,.box [q m,q o])] (λr=>q r.1) (λr=>[(0,.box [q r.2.1,q r.2.2])])
def CM (k:ao):T Int:=let o:=(C k.Xb:Int);.cub 2 14 [1] [0] (.ki (o==0) (.oo (qu (o>10)))) λr=>.br r (.jT 801) (.loop (ik 18 [1,17] [0]) (.exit 0) (jk [1] [0]) (λm=>.kh (m<o) (.cc (WG (⟨k.Xb,k.Xl⟩:ao) m) λp=>.br (p !=0) (.ff p) (.nn (G qs (m+1)))) (.oo .u))
 0 [] λ_=>.cub 1 37 [] [] (.kl ((C k.Xl:Int)>32) (.call (VC k.Xl k.Xb k.Xl) [(0,0)] λm=>.oo m.1)) λm=>.br m (.jT 808) (.jT 0))
def kK:=mkp1 func75 CM
def AQ (m:ak)(k:Int):T Bool:=.kh ((-1)<=k) (.jT (qu (k<(C m.Xe.Xb:Int)))) (.jT E)
def vM:=mkp2 func117 AQ
def J9 (w:ak)(k:bW):T Int:=let p:=(C k.Xc:Int);.cub 3 35 [3] [64] (.cc (vM w k.XF) λr=>.ki (!r) (.kl (k.XB<1) (.kl (k.XB>1048576) (.kl (p<1) (.oo (qu (p>8))))))) λr=>.br r (.jT 902) (.loop (ik 39 [37,38] []) (.exit 0) (jk [] []) (λm=>let s:=F k.Xc (m.toNat) qt;.kh (m<p) (.vd m k.Xc<|.loop (ik 44 [37,38,39,43] []) (.exit 2) (jk [37,38,39] []) (λo=>.kh (o<3) (.gh o 3<|.name 9000 ((F ([s.1,s.2.1,s.2.2]:List Int) o.toNat 0)) λt=>.cub 0 52 [37,38,39,43,44] [] (.kl (t<(-4194304)) (.oo (qu (t>4194304)))) λx=>.br x (.ff (.fin 805)) (.nn (G qs (o+1)))) (.oo .u))
 0 [] λ_=>.nn (G qs (m+1))) (.oo .u))
 0 [] λ_=>.jT 0)
def WH:=mkp2 func116 J9
def CP (k:ak):T Int:=let r:=(C k.Xi:Int);let s:=(C k.Xd:Int);.cc (kK k.Xe) λt=>.br (t !=0) (.jT t) (.kh (s>24) (.jT 901) (.loop (ik 22 [1,20,21] [0]) (.exit 0) (jk [1] [0]) (λm=>.kh (m<s) (.vd m k.Xd<|.cc (WH k (F k.Xd (m.toNat) qt)) λo=>.br (o !=0) (.ff o) (.nn (G qs (m+1)))) (.oo .u))
 0 [] λ_=>.kh (r>64) (.jT 903) (.loop (ik 40 [1,38,39] [0]) (.exit 2) (jk [] []) (λm=>let o:=F k.Xi (m.toNat) qt;.kh (m<r) (.vd m k.Xi<|.cub 0 55 [1,38,39,40] [0] (.cc (vM k (o.A)) λp=>.ki (!p) (.cc (vM k (o.B)) λw=>.oo (!w))) λp=>.br p (.ff 903) (.nn (G qs (m+1)))) (.oo .u))
 0 [] λ_=>.jT 0)))
def fw:=mkp1 func57 CP
def abn (k:Bq):T Bool:=.unroll 4<|.jR<|.jG<|.jG<|.lit 6000 1<|.jR<|.jH<|.jH<|.lit 6000 2<|.jR<|.jI<|.jI<|.lit 6000 3<|.jS<|.jT (((min (max k.1 (-2097152)) 2097152)==k.1)&&(((min (max k.2.1 (-2097152)) 2097152)==k.2.1)&&(((min (max k.2.2 (-2097152)) 2097152)==k.2.2)&&D)))
def Do:=mkp1 func184 abn
def aaN (k:aT)(m o:Int):T Bool:=.kh (0<=m) (.kh (m<(C k.Xx:Int)) (.kh (0<=o) (.jT (qu (o<(C k.Xu:Int)))) (.jT E)) (.jT E)) (.jT E)
def Pb:=mkp3 func109 aaN
def Kk (k:cq)(m:Int):T Bool:=.kh (k.Lo<=m) (.jT (qu (m<=k.Hi))) (.jT E)
def M0:=mkp2 func77 Kk
def Iu (m:A3)(o:A7):T Bool:=let p:=(C m:Int);.br (p !=(C o:Int)) (.jT E) (.loop (ik 16 [1,2,14,15] []) (.exit 0) (jk [] []) (λk=>.kh (k<p) (.vd k m<|.vd k o<|.cc (M0 (F m (k.toNat) qt) (F o (k.toNat) qt)) λr=>.br (!r) (.ff E) (.nn (G qs (k+1)))) (.oo .u))
 0 [] λ_=>.jT D)
def VW k m:=mkD func76 (Iu k m) 0 [q k,q m,.func 77 [] []] [] q X6
def LR (k:ao)(m:A7):T Bool:=.cc (kK k) λo=>.br (o==0) (.cc (VW k.Xb m) λp=>.jT p) (.jT E)
def eJ:=mkp2 func37 LR
def ZF (k:aT):T Bool:=let r:=(C k.Xx:Int);let s:=(C k.Xz:Int);let t:=(C k.Xu:Int);.cub 2 30 [1] [0] (.kl ((C k.Xm:Int)>6) (.kl (t>8) (.kl (r>3) (.oo (qu (s>32)))))) λw=>.br w (.jT E) (.cub 1 38 [1] [0] (.kl (k.Xy<0) (.oo (qu (k.Xy>65536)))) λx=>.br x (.jT E) (.loop (ik 42 [1,40,41] [0]) (.exit 0) (jk [1] [0]) (λm=>.kh (m<t) (.vd m k.Xu<|.cc (Do (F k.Xu (m.toNat) qt)) λo=>.br (!o) (.ff E) (.nn (G qs (m+1)))) (.oo .u))
 0 [] λ_=>.loop (ik 53 [1,51,52] [0]) (.exit 2) (jk [1] [0]) (λm=>let o:=F k.Xx (m.toNat) qt;.kh (m<r) (.vd m k.Xx<|.cub 0 75 [1,51,52,53] [0] (.kl ((o.XF)<0) (.kl ((o.XF)>=(C k.Xr.Xe.Xb:Int)) (.cc (Do (o.XH)) λp=>.oo (!p)))) λp=>.br p (.ff E) (.nn (G qs (m+1)))) (.oo .u))
 0 [] λ_=>.loop (ik 80 [1,78,79] [0]) (.exit 4) (jk [] []) (λm=>let o:=F k.Xz (m.toNat) qt;.kh (m<s) (.vd m k.Xz<|.cub 0 99 [1,78,79,80] [0] (.cc (Pb (⟨k.Xr,k.Xm,k.Xu,k.Xx,k.Xz,k.Xy⟩:aT) (o.XN) (o.Place)) λp=>.ki (!p) (.cc (eJ k.Xr.Xe (o.At)) λy=>.oo (!y))) λp=>.br p (.ff E) (.nn (G qs (m+1)))) (.oo .u))
 0 [] λ_=>.jT D))
def ZE:=mkp1 func101 ZF
def ZD (m:fv)(k:ByteArray)(o:A5):T Ca:=.jT ((m.XO==k),k,o)
def akW k m o:=mkD func102 (ZD k m o) 1 [q k,X7 0] [(0,.box [q m,q o])] (λr=>q r.1) (λr=>[(0,.box [q r.2.1,q r.2.2])])
def aks (m:A6)(o:ByteArray)(p:A5):T (Int×ByteArray×A5):=.vn (λ(k:(ByteArray×A5×Int))=>([(8,pz k.2.2)],[(0,.box [q k.1,q k.2.1])])) [0,1,7] [] 0 (λ(k:(ByteArray×A5))=>([],[(0,.box [q k.1,q k.2])])) [] [] (λk=>.kh (k.2.2<(C m:Int)) .stop (.oo (k.1,k.2.1))) (o,p,0) λk=>.jT ((-1),k.1,k.2)
def akr k m o:=mkD func187 (aks k m o) 1 [q k,.func 102 [] [X7 0]] [(0,.box [q m,q o])] (λr=>pz r.1) (λr=>[(0,.box [q r.2.1,q r.2.2])])
def akp (m:A6)(o:ByteArray)(p:A5):T Ca:=.call (akr m o p) [(0,0)] λk=>.jT ((qu (k.1>=0)),k.2.1,k.2.2)
def ako k m o:=mkD func104 (akp k m o) 1 [q k,.func 102 [] [X7 0]] [(0,.box [q m,q o])] (λr=>q r.1) (λr=>[(0,.box [q r.2.1,q r.2.2])])
def CV (k:bW):T Bool:=let p:=(C k.Xc:Int);.cub 2 26 [1] [0] (.kl (k.XB<1) (.kl (k.XB>1048576) (.kl (p<1) (.oo (qu (p>8)))))) λt=>.br t (.jT E) (.loop (ik 30 [28,29] []) (.exit 0) (jk [] []) (λm=>let r:=F k.Xc (m.toNat) qt;.kh (m<p) (.vd m k.Xc<|.loop (ik 35 [28,29,30,34] []) (.exit 2) (jk [28,29,30] []) (λo=>.kh (o<3) (.gh o 3<|.name 8000 ((F ([r.1,r.2.1,r.2.2]:List Int) o.toNat 0)) λs=>.cub 0 43 [28,29,30,34,35] [] (.kl (s<(-4194304)) (.oo (qu (s>4194304)))) λw=>.br w (.ff (.fin E)) (.nn (G qs (o+1)))) (.oo .u))
 0 [] λ_=>.nn (G qs (m+1))) (.oo .u))
 0 [] λ_=>.jT D)
def CU:=mkp1 func188 CV
def aaP (p:fv):T Bool:=let s:=(C p.Xd:Int);.loop (ik 10 [1,8,9] [0]) (.exit 0) (jk [1] [0]) (λm=>let k:=F p.Xd (m.toNat) qt;.kh (m<s) (.vd m p.Xd<|.cub 1 21 [1,4,8,9,10] [0,640] (.cc (CU k) λr=>.ki (!r) (.oo ((k.XF) !=0))) λr=>.br r (.ff E) (.loop (ik 25 [1,8,9,10,23,24] [0]) (.exit 2) (jk [1,8,9,10] [0]) (λo=>.kh (o<(C k.Xc:Int)) (.vd o k.Xc<|.call (Do (F (k.Xc) (o.toNat) qt)) [] λt=>.br (!t) (.ff (.fin E)) (.nn (G qs (o+1)))) (.oo .u))
 0 [] λ_=>.nn (G qs (m+1)))) (.oo .u))
 0 [] λ_=>.jT (qu (s>0))
def aaO:=mkp1 func105 aaP
def aaK (m:aT):T Int:=let t:=(C m.Xm:Int);.cc (fw m.Xr) λw=>.br (w !=0) (.jT w) (.cc (ZE (⟨m.Xr,m.Xm,m.Xu,m.Xx,m.Xz,m.Xy⟩:aT)) λx=>.br (!x) (.jT 3401) (.loop (λs (k:B9)=>pk s [1,22,23] [0] [(4,pz k.1),(24,pz k.2)] []) (.exit 0) (ik 4 [] []) (λk=>let r:=F m.Xm (X3 k.2) qt;.kh (k.2<t) (.vd k.2 m.Xm<|.cut 2 (λs (o:(ByteArray×A5×Bool))=>pk s [1,4,6,22,23,24] [0] [(46,q o.2.2)] [(1600,.box [q o.1,q o.2.1])]) (.cc (Ed (r.XO)) λo=>.br (!o) (.oo (r.XO,r.Xd,D)) (.conv 11008 (hT 2 EU m.Xm (0:Int) k.2)<|.grd (0<=(0:Int)/\(0:Int)<=k.2/\k.2<=t)<|.call (ako ((m.Xm.drop (X3 (0:Int))).take ((k.2).toNat- (0:Int).toNat)) (r.XO) (r.Xd)) [(0,1600)] λp=>.br p.1 (.oo (p.2.1,p.2.2,D)) (.cc (aaO (⟨p.2.1,p.2.2⟩:fv)) λy=>.oo (p.2.1,p.2.2,(!y))))) λo=>.br o.2.2 (.ff 3402) (.nn ((G qs (k.1+(C o.2.1:Int))),(G qs (k.2+1))))) (.oo k.1)) ((C m.Xr.Xd:Int),0) [] λk=>.kh (k>24) (.jT 3401) (.jT 0)))
def vR:=mkp1 func50 aaK
def WY (k:A7)(_:Int):T Int:=.loop (ik 8 [0,1,7] []) (.exit 0) (jk [] []) (λm=>.kh (m<(C k:Int)) .stop (.oo .u))
 0 [] λ_=>.jT (-1)
def WX:=mkp2 func159 WY
def WQ (k:A7)(m:Int):T Bool:=.cc (WX k m) λo=>.jT (qu (o>=0))
def WP:=mkp2 func74 WQ
def aaM (k:aT)(o:bF):T Bool:=let p:=(C o.Xv:Int);.cub 2 18 [2,3] [0,64] (.cc (vR (⟨k.Xr,k.Xm,k.Xu,k.Xx,k.Xz,k.Xy⟩:aT)) λr=>.ki (r !=0) (.oo (p !=(C k.Xm:Int)))) λr=>.br r (.jT E) (.loop (ik 22 [2,3,20,21] [0,64]) (.exit 0) (jk [] []) (λm=>let s:=F o.Xv (m.toNat) qt;.kh (m<p) (.vd m o.Xv<|.cub 0 47 [2,3,20,21,22] [0,64] (.kl (s<(G qs (0- (C k.Xx:Int)))) (.kl (s>=(C k.Xu:Int)) (.conv 6017 (hT 1 bE o.Xv (0:Int) m)<|.grd (0<=(0:Int)/\(0:Int)<=m/\m<=p)<|.cc (WP ((o.Xv.drop (X3 (0:Int))).take (m.toNat- (0:Int).toNat)) s) λt=>.oo t))) λt=>.br t (.ff E) (.nn (G qs (m+1)))) (.oo .u))
 0 [] λ_=>.jT D)
def iI:=mkp2 func36 aaM
def JA (k:bX):T Bool:=.kh (k.Xt>=0) (.kh (k.Xt<=1022) (.kh (k.XE>=1) (.kh (k.XE<=16) (.kh (k.Xg>=0) (.kh (k.Xg<=20) (.kh (k.XM>=0) (.jT (qu (k.XM<=8192))) (.jT E)) (.jT E)) (.jT E)) (.jT E)) (.jT E)) (.jT E)) (.jT E)
def pC:=mkp1 func38 JA
def ZX (k:bF):T Ce:=.unroll 7<|.jR<|.ix 0 6 rfl<|.lit 6000 1<|.jR<|.ix 1 6 rfl<|.lit 6000 2<|.jR<|.ix 2 6 rfl<|.lit 6000 3<|.jR<|.ix 3 6 rfl<|.lit 6000 4<|.jR<|.ix 4 6 rfl<|.lit 6000 5<|.jR<|.ix 5 6 rfl<|.lit 6000 6<|.jS<|.jT ((if 0<C k.Xv then F k.Xv 0 qt else(-1048577)),(if 1<C k.Xv then F k.Xv 1 qt else(-1048577)),(if 2<C k.Xv then F k.Xv 2 qt else(-1048577)),(if 3<C k.Xv then F k.Xv 3 qt else(-1048577)),(if 4<C k.Xv then F k.Xv 4 qt else(-1048577)),(if 5<C k.Xv then F k.Xv 5 qt else(-1048577)))
def vx:=mkp1 func78 ZX
def aaW (p:Ce)(m:A7):T Bool:=.loop (ik 9 [2,7,8] [0]) (.exit 0) (jk [] []) (λk=>let o:=F m (k.toNat) qt;.kh (k<(C m:Int)) (.vd k m<|.cub 0 22 [2,7,8,9] [0] (.kj (o !=(-1048576)) (.cas 4004 k 0 (.ix 0 6 rfl<|.oo (o !=p.1))
 .stop)) λr=>.br r (.ff E) (.nn (G qs (k+1)))) (.oo .u))
 0 [] λ_=>.jT D
def BK:=mkp2 func79 aaW
def YX (o:gl)(k m:Int):T C1:=.br (o.XN==k) (.jT ((o.Place==m),k,m)) (.jT (E,k,m))
def YW k m o:=mkD func164 (YX k m o) 2 [q k,X7 0,X7 1] [(0,.box [pz m]),(1,.box [pz o])] (λr=>q r.1) (λr=>[(0,.box [pz r.2.1]),(1,.box [pz r.2.2])])
def akz (p:Aa)(r s:Int):T Bq:=.vn (λ(k:Bq)=>([(8,pz k.2.2)],[(0,.box [pz k.1]),(1,.box [pz k.2.1])])) [0,1,7] [] 0 (λ(k:B9)=>([],[(0,.box [pz k.1]),(1,.box [pz k.2])])) [] [] (λk=>let m:=k.2.2;.kh (m<(C p:Int)) (.vd m p<|.call (YW (F p (X3 m) qt) k.1 k.2.1) [(0,0),(1,1)] λo=>.br o.1 (.ff (m,o.2.1,o.2.2)) (.nn (o.2.1,o.2.2,(G qs (m+1))))) (.oo (k.1,k.2.1))) (r,s,0) λ_=>.stop
def aky k m o:=mkD func251 (akz k m o) 2 [q k,.func 164 [] [X7 0,X7 1]] [(0,.box [pz m]),(1,.box [pz o])] (λr=>pz r.1) (λr=>[(0,.box [pz r.2.1]),(1,.box [pz r.2.2])])
def aku (m:Aa)(o p:Int):T C1:=.call (aky m o p) [(0,0),(1,1)] λk=>.jT ((qu (k.1>=0)),k.2.1,k.2.2)
def akt k m o:=mkD func165 (aku k m o) 2 [q k,.func 164 [] [X7 0,X7 1]] [(0,.box [pz m]),(1,.box [pz o])] (λr=>q r.1) (λr=>[(0,.box [pz r.2.1]),(1,.box [pz r.2.2])])
def ZW (p:aT):T Ac:=.vn (λ(m:Ad)=>([(10,pz m.2)],[(128,vO m.1 109)])) [1,3,9] [0] 0 (λ(m:Ac)=>([],[(128,vO m 109)])) [3] [] (λm=>.kh (m.2<(C p.Xx:Int)) (.vn (λ(k:(Ac×Int×Int))=>([(16,pz k.2.2)],[(128,vO k.1 109),(640,.box [pz k.2.1])])) [1,3,4,9,10,15] [0] 2 (λ(k:Ac)=>([],[(128,vO k 109)])) [1,3,9,10] [0] (λk=>.kh (k.2.2<(C p.Xu:Int)) (.cut 0 (λs (o:Ad)=>pk s [1,4,9,10,15,16] [0] [(3,.vec 1152)] [(640,.box [pz o.2]),(1152,vO o.1 109)]) (.call (akt p.Xz k.2.1 k.2.2) [(0,640),(1,1216)] λo=>let r:=([(⟨0,o.2.1,o.2.2⟩:cA)]:Ac);
 .br o.1 (.vh 10004 k.1 r 109 24<|.oo ((k.1++r),o.2.1)) (.oo (k.1,o.2.1))) λo=>.nn (o.1,o.2,(G qs (k.2.2+1)))) (.oo k.1)) (m.1,m.2,0) λk=>.nn (k,(G qs (m.2+1)))) (.oo m.1)) (nl,0) λm=>.jT m
def Ot:=mkp1 func80 ZW
def ZV (p:aT)(m:Ae):T Bi:=.vn (λ(k:(Bi×Int))=>([(11,pz k.2)],[(128,fX (kg 9) lK k.1)])) [2,5,9,10] [0] 0 (λ(k:Bi)=>([],[(128,fX (kg 9) lK k)])) [5] [] (λk=>.kh (k.2<(C m:Int)) (.cut 0 (λs (o:Bi)=>pk s [2,5,9,10,11] [0] [] [(128,fX (kg 9) lK o)]) (.vd k.2 m<|.br ((((F m (X3 k.2) qt).XZ.Xv.length:Nat):Int)==(C p.Xm:Int))
 .stop (.oo k.1)) λo=>.nn (o,(G qs (k.2+1)))) (.oo k.1)) ((nl:List (lS×Bool)),0) λk=>.jT k
def ZU:=mkv2 func81 ZV (λ_=>.map 0) (λr=>[(0,fX (kg 9) lK r)])
def aaV (k:Ce)(o:Int):T Int:=.loop (ik 8 [1,7] []) (.exit 0) (jk [] []) (λm=>.kh (m<6) (.gh m 6<|.br ((F ([k.1,k.2.1,k.2.2.1,k.2.2.2.1,k.2.2.2.2.1,k.2.2.2.2.2]:List Int) m.toNat 0)==o) (.ff m) (.nn (G qs (m+1)))) (.oo .u))
 0 [] λ_=>.jT (-1)
def rK:=mkp2 func166 aaV
def ZT (w:Ac)(k:Ce):T Ac:=let x:=qs.wrap;let z:=(C w:Int);.vn (λ(o:Ad)=>([(12,pz o.2)],[(128,vO o.1 109)])) [0,3,5,10,11] [0] 0 (λ(o:Ac)=>([],[(128,vO o 109)])) [0,3,5] [0] (λo=>let m:=F w (X3 o.2) qt;let r:=([(⟨1,m.XN,m.Place⟩:cA)]:Ac);let _:=C o.1+C r;.kh (o.2<z) (.cut 0 (λs (t:Ac)=>pk s [0,3,10,11,12] [0] [(5,.vec 512)] [(512,vO t 109)]) (.vd o.2 w<|.cub 0 28 [0,3,5,7,10,11,12] [0,128,640] (.call (rK (k.1,k.2.1,k.2.2.1,k.2.2.2.1,k.2.2.2.2.1,k.2.2.2.2.2) (x ((-1)- (m.XN)))) [] λt=>.kh (t<0) (.cc (rK (k.1,k.2.1,k.2.2.1,k.2.2.2.1,k.2.2.2.2.1,k.2.2.2.2.2) (m.Place)) λp=>.oo (qu (p>=0))) (.oo E)) λt=>.br t (.vh 7002 o.1 r 109 24<|.oo (o.1++r)) (.oo o.1)) λt=>.nn (t,(x (o.2+1)))) (.oo o.1)) (nl,0) λo=>.vn (λ(m:Ad)=>([(37,pz m.2)],[(128,vO m.1 109)])) [3,5,35,36] [0] 2 (λ(m:Ac)=>([],[(128,vO m 109)])) [5] [] (λm=>let r:=F w (X3 m.2) qt;let y:=([(⟨2,r.XN,r.Place⟩:cA)]:Ac);let _:=C m.1+C y;.kh (m.2<z) (.cut 0 (λs (p:Ac)=>pk s [3,35,36,37] [0] [(5,.vec 768)] [(768,vO p 109)]) (.vd m.2 w<|.cub 0 53 [3,5,9,35,36,37] [0,128,896] (.call (rK (k.1,k.2.1,k.2.2.1,k.2.2.2.1,k.2.2.2.2.1,k.2.2.2.2.2) (x ((-1)- (r.XN)))) [] λp=>.kh (p>=0) (.cc (rK (k.1,k.2.1,k.2.2.1,k.2.2.2.1,k.2.2.2.2.1,k.2.2.2.2.2) (r.Place)) λA=>.oo (qu (A<0))) (.oo E)) λp=>.br p (.vh 14002 m.1 y 109 24<|.oo (m.1++y)) (.oo m.1)) λp=>.nn (p,(x (m.2+1)))) (.oo m.1)) (o,0) λm=>.jT m
def Oq:=mkp2 func82 ZT
def acd (m:Ce)(p:cA):T Ce:=let r:=G qs ((-1)-p.XN);.cut 2 (λs (o:B9)=>pk s [2,4] [0,128] [(5,pz o.1),(6,pz o.2)] []) (.br (p.Xk==2) (.oo (r,p.Place)) (.oo (p.Place,r))) λo=>.cut 0 (λs (k:Ce)=>pk s [2,4] [128] [] [(0,.box [pz k.1,pz k.2.1,pz k.2.2.1,pz k.2.2.2.1,pz k.2.2.2.2.1,pz k.2.2.2.2.2])]) (.cc (rK m o.1) λk=>.cas 4002 k 0 (.ix 0 6 rfl<|.oo (o.2,m.2.1,m.2.2.1,m.2.2.2.1,m.2.2.2.2.1,m.2.2.2.2.2))
 .stop) λk=>.jT (k.1,k.2.1,k.2.2.1,k.2.2.2.1,k.2.2.2.2.1,k.2.2.2.2.2)
def Qr:=mkp2 func83 acd
def ae3 (w:Ch)(p:Ce)(t:Int):T Ac:=.vg 1001 3 Q5 109 t (⟨0,0,0⟩:cA) 24<|.vn (λ(k:(Int×Int×Int×Int×Int×Int×Ac×Int))=>let r:=k.2.2.2;([(8,pz r.2.2.2.2)],[(1,.box [pz k.1,pz k.2.1,pz k.2.2.1,pz r.1,pz r.2.1,pz r.2.2.1]),(193,vO r.2.2.2.1 109)])) [0,4,7] [0] 0 (λ(k:Ac)=>([],[(193,vO k 109)])) [7] [0] (λk=>let s:=k.2.2.2;let o:=s.2.2.2;let x:=o.2;let y:=dR (k.1,k.2.1,k.2.2.1,s.1,s.2.1,s.2.2.1);let m:=gY dR w y;let z:=mdom dR w y;.kh (o.2>=0) (.ok (z=false->PSub (.agg (kg 9)) (eK m)) (m9 jY)<|.vd o.2 o.1<|.vl 5007 o.1 109 x (m.by_)<|.ok (z=false->PSub (.agg (kg 9)) (eK m)) (m9 jY)<|.nn (m.before.1,m.before.2.1,m.before.2.2.1,m.before.2.2.2.1,m.before.2.2.2.2.1,m.before.2.2.2.2.2,(o.1.set (x.toNat) (m.by_)),(G qs (o.2-1)))) (.oo o.1)) (p.1,p.2.1,p.2.2.1,p.2.2.2.1,p.2.2.2.2.1,p.2.2.2.2.2,(qr t.toNat ((⟨0,0,0⟩:cA):cA)),(G qs (t-1))) λk=>.jT k
def ae2 k m o:=mkD func84 (ae3 k m o) 1 [.map 0,q m,pz o] [(0,mapG (kg 6) dR eK k)] q (λ_=>[(0,mapG (kg 6) dR eK k)])
def acb (r:aT)(I:bF)(x:A7)(y:Int)(V:Ae):T (Ac×Bool):=.cub 2 45 [2,3,4,5,6] [0,64] (.cc (iI r I) λz=>.ki (!z) (.ki ((C x:Int) !=(C r.Xm:Int)) (.kl (y<0) (.oo (qu (y>16)))))) λz=>.br z (.jT (nl,E)) (.cc (vx I) λt=>let J:=([t]:Cf);
 .cc (BK (t.1,t.2.1,t.2.2.1,t.2.2.2.1,t.2.2.2.2.1,t.2.2.2.2.2) x) λX=>.br X (.jT (nl,D)) (.cc (Ot (⟨r.Xr,r.Xm,r.Xu,r.Xx,r.Xz,r.Xy⟩:aT)) λY=>.cc (ZU r V) λK=>.conv 8000 (Un (kg 6) dR eK (.agg (kg 9)))<|.conv 8003 (tX (kg 6) dR eK (nl:List Cg) t (⟨(0,0,0,0,0,0),(⟨0,0,0⟩:cA)⟩:lH) (.agg (kg 9)) jY)<|.conv 9001 (kL J 159)<|.vo (λ(o:Ci)=>([(17,pz o.2.2)],[(1216,mapG (kg 6) dR eK o.1),(1664,vO o.2.1 159)])) [2,3,13,14,15,16] [1088] 0 [] [] (λo=>let L:=(C o.2.1:Int);.cub 1 69 [2,3,13,14,15,16,17] [1088,1216,1664] (.kh (o.2.2<=y) (.oo (qu (L>0))) (.oo E)) λZ=>.br Z (.vn (λ(k:Ci)=>([(74,pz k.2.2)],[(1216,mapG (kg 6) dR eK k.1),(1984,vO k.2.1 159)])) [2,3,13,14,15,17,18,72,73] [1088,1664] 2 (λ(k:(Ch×Cf))=>([],[(1216,mapG (kg 6) dR eK k.1),(1984,vO k.2 159)])) [2,3,13,14,15,17,18] [1088] (λk=>let p:=F o.2.1 (X3 k.2.2) qt;.kh (k.2.2<L) (.vf k.2.2 o.2.1<|.cc (Oq Y p) λA=>.vn (λ(ar:Ci)=>([(82,pz ar.2.2)],[(1216,mapG (kg 6) dR eK ar.1),(1984,vO ar.2.1 159)])) [2,3,13,14,15,17,18,20,72,73,74,80,81] [1088,1664,2496] 4 (λ(ar:(Ch×Cf))=>([],[(1216,mapG (kg 6) dR eK ar.1),(1984,vO ar.2 159)])) [2,3,13,14,15,17,18,72,73,74] [1088,1664] (λar=>let w:=F A (X3 ar.2.2) qt;let M:=lK (⟨p,w⟩:lS);let N:=dW lK K M;let O:=(⟨p,w⟩:lH);.kh (ar.2.2<(C A:Int)) (.cut 0 (λs (m:(Ch×Cf))=>pk s [2,3,13,14,15,17,18,20,72,73,74,80,81,82] [1088,1664,2496] [] [(1216,mapG (kg 6) dR eK m.1),(1984,vO m.2 159)]) (.vd ar.2.2 A<|.cc (Qr p w) λm=>let P:=mdom dR ar.1 (dR m);let B:=((m,O)::ar.1);let H:=([m]:Cf);
 .ok (P=false->PSub (.agg (kg 9)) (eK (gY dR ar.1 (dR m)))) (m9 jY)<|.cub 0 102 [2,3,13,14,15,17,18,20,22,23,72,73,74,80,81,82] [1088,1216,1664,1984,2496,3200,3520] (.ki P (.ok ((mdom lK K M)=false->PSub (.bool E) (ae.bool N)) t6<|.oo N)) λQ=>.br Q (.oo (ar.1,ar.2.1)) (.conv 23005 (tX (kg 6) dR eK ar.1 m O (.agg [ke (p.1),ke (p.2.1),ke (p.2.2.1),ke (p.2.2.2.1),ke (p.2.2.2.2.1),ke (p.2.2.2.2.2),ke (w.Xk),ke (w.XN),ke (w.Place)]) jY)<|.cc (BK m x) λS=>.br S (.call (ae2 B m o.2.2) [(0,1216)] λU=>.ff (.fin (.fin (.fin (U,D))))) (.vh 26002 ar.2.1 H 159 48<|.oo (B,(ar.2.1++H))))) λm=>.nn (m.1,m.2,(G qs (ar.2.2+1)))) (.oo (ar.1,ar.2.1))) (k.1,k.2.1,0) λar=>.nn (ar.1,ar.2,(G qs (k.2.2+1)))) (.oo (k.1,k.2.1))) (o.1,nl,0) λk=>.nn (k.1,k.2,(G qs (o.2.2+1)))) (.oo .u)) (((t,(⟨(0,0,0,0,0,0),(⟨0,0,0⟩:cA)⟩:lH))::(nl:List Cg)),J,1) λ_=>.jT (nl,E)))
def Ec:=mkq5 func39 acb (λr=>.tup [q r.1,q r.2])
def eL {α:Type}[Inhabited α][En α](t k:Nat)(m:(List α)):T (List α):= (match m with
  |[]=>.unroll 1<|.grd (C m=0)<|.both (.jT nl) (.conv 3000 (kL ([]:(List α)) t)<|.conv 3002 (kA ([]:(List α)) m t)<|.grd ((C ([]:(List α))+C m) * k<=140737488355328/\(C ([]:(List α))+C m)<=maxLen)<|.jT (([]:(List α))++m))
  |_::_=>.grd (0<C m)<|.conv 3000 (kL ([]:(List α)) t)<|.conv 3002 (kA ([]:(List α)) m t)<|.grd ((C ([]:(List α))+C m) * k<=140737488355328/\(C ([]:(List α))+C m)<=maxLen)<|.jT (([]:(List α))++m))
def akF (k:A3):T A3:=
 eL 85 104 k
def akE (k:A3):aC A3:=mkH [] hd func196 jY (akF k) 0 [q k] [] q X6 (by cases k<;>exact Ob.of_side jY)
def akI (k:Ab):T Ab:=
 eL 129 40 k
def akH (k:Ab):aC Ab:=mkH [] hd func197 jY (akI k) 0 [q k] [] q X6 (by cases k<;>exact Ob.of_side jY)
def akO (k:Br):T Br:=
 eL 70 24 k
def akN (k:Br):aC Br:=mkH [] hd func278 jY (akO k) 0 [q k] [] (λ_=>.vec 0) (λr=>[(0,vO r 70)]) (by cases k<;>exact Ob.of_side jY)
def aa2 (y:A5)(z:Bq):T A5:=let x:=(C y:Int);.conv 1002 (Uo 3 kR 72 (0:Int).toNat (⟨0,0,nl⟩:bW) (.agg [ke 0,ke 0,.lst 0 0 λ_=>.unk]) jY)<|.grd (0<=(0:Int)/\(0:Int)<=x/\x<=9223372036854775807/\x * 40<=140737488355328)<|.vn (λ(m:Af)=>([(16,pz m.2)],[(256,vO m.1 72)])) [3,5,14,15] [0] 0 (λ(m:A5)=>([],[(256,vO m 72)])) [5] [] (λm=>let A:=F y (X3 m.2) qt;.kh (m.2<x) (.vd m.2 y<|.cc (akN (A.Xc)) λB=>.unroll 998<|.vn (λ(k:Bt)=>([(27,pz k.2)],[(1088,vO k.1 70)])) [3,5,7,14,15,16,26] [0,256,832] 2 (λ(k:Br)=>([],[(1088,vO k 70)])) [3,5,7,14,15,16] [0,256,832] (λk=>let o:=k.2;let p:=o.toNat;let r:=F k.1 p qt;.kh (k.2<(C B:Int)) (.unroll 4<|.jR<|.jG<|.vd k.2 k.1<|.jG<|.grd (o.toNat<C k.1)<|.name 12006 (r.1) λM=>let H:=G qs (M+z.1);let s:=k.1.set p (H,r.2.1,r.2.2);let I:=C s;let t:=F s p qt;
 .vd k.2 k.1<|.jG<|.vl 12011 k.1 70 o (H,r.2.1,r.2.2)<|.lit 13000 1<|.jR<|.jH<|.gh k.2 I<|.jH<|.grd (o.toNat<C s)<|.name 12006 (t.2.1) λN=>let J:=G qs (N+z.2.1);let ar:=s.set p (t.1,J,t.2.2);let K:=C ar;let w:=F ar p qt;
 .gh k.2 I<|.jH<|.vl 12011 s 70 o (t.1,J,t.2.2)<|.lit 13000 2<|.jR<|.jI<|.gh k.2 K<|.jI<|.grd (o.toNat<C ar)<|.name 12006 (w.2.2) λO=>let L:=G qs (O+z.2.2);
 .gh k.2 K<|.jI<|.vl 12011 ar 70 o (w.1,w.2.1,L)<|.lit 13000 3<|.jS<|.nn ((ar.set p (w.1,w.2.1,L)),(G qs (k.2+1)))) (.oo k.1)) (B,0) λk=>let o:=([(⟨A.XF,A.XB,k⟩:bW)]:A5);let p:=C m.1+C o;
 .vh 15002 m.1 o 72 40<|.nn ((m.1++o),(G qs (m.2+1)))) (.oo m.1)) ((qr (0:Int).toNat ((⟨0,0,nl⟩:bW):bW)),0) λm=>.jT m
def Oz:=mkv2 func198 aa2 (λ_=>.vec 0) (λr=>[(0,vO r 72)])
def akK (k:Ag):T Ag:=
 eL 75 16 k
def akJ (k:Ag):aC Ag:=mkH [] hd func199 jY (akK k) 0 [q k] [] q X6 (by cases k<;>exact Ob.of_side jY)
def aaL (k:aT)(w:bF):T (ak×Int):=.cc (vR k) λA=>.br (A !=0) (.jT ((⟨(⟨nl,nl⟩:ao),nl,nl⟩:ak),A)) (.cc (iI k w) λI=>.br (!I) (.jT ((⟨(⟨nl,nl⟩:ao),nl,nl⟩:ak),3403)) (.cc (akE k.Xr.Xe.Xb) λJ=>.cc (akH k.Xr.Xe.Xl) λK=>.cc (Oz k.Xr.Xd (0,0,0)) λL=>.cc (akJ k.Xr.Xi) λM=>.vn (λ(m:Af)=>([(50,pz m.2)],[(1792,vO m.1 72)])) [2,3,4,7,48,49] [0,64,128,129,130,131,132,2176] 0 (λ(m:A5)=>([],[(1792,vO m 72)])) [4,7] [128,129,130,131,132,2176] (λm=>let B:=(m.2).toNat;let r:=F w.Xv B qt;let x:=G qs ((-1)-r);let t:=F k.Xx (x.toNat) qt;let y:=F k.Xu (r.toNat) qt;.kh (m.2<(C k.Xm:Int)) (.vd m.2 k.Xm<|.cut 1 (λs (p:C9)=>pk s [2,3,4,7,9,11,48,49,50] [0,64,128,129,130,131,132,1792,2176,2880] [(10,pz p.1)] [(3136,.box [pz p.2.1,pz p.2.2.1,pz p.2.2.2])]) (.vd m.2 w.Xv<|.kh (r>=0) (.vd r k.Xu<|.oo ((-1),y.1,y.2.1,y.2.2)) (.vd x k.Xx<|.vd x k.Xx<|.oo (t.XF,t.XH.1,t.XH.2.1,t.XH.2.2))) λp=>.cc (Oz ((F k.Xm B qt).Xd) (p.2.1,p.2.2.1,p.2.2.2)) λz=>.vn (λ(o:Af)=>([(87,pz o.2)],[(1792,vO o.1 72)])) [2,3,4,7,10,48,49,50,85,86] [0,64,128,129,130,131,132,2176,3584] 2 (λ(o:A5)=>([],[(1792,vO o 72)])) [2,3,4,7,48,49,50] [0,64,128,129,130,131,132,2176] (λo=>let ar:=F z (X3 o.2) qt;let H:=([(⟨p.1,ar.XB,ar.Xc⟩:bW)]:A5);.kh (o.2<(C z:Int)) (.vf o.2 z<|.vh 19003 o.1 H 72 40<|.nn ((o.1++H),(G qs (o.2+1)))) (.oo o.1)) (m.1,0) λo=>.nn (o,(G qs (m.2+1)))) (.oo m.1)) (L,0) λm=>.jT ((⟨(⟨J,K⟩:ao),m,M⟩:ak),0)))
def BF:=mkq2 func114 aaL (λr=>.tup [q r.1,pz r.2])
def aav (k:aT)(m:bF):T Ac:=.cc (iI k m) λo=>.br (!o) (.jT nl) (.cc (Ot k) λp=>.cc (vx m) λr=>.cc (Oq p r) λs=>.jT s)
def aau:=mkp2 func107 aav
def akB (m:Ac)(o:cA):T Int:=.loop (ik 8 [0,3,7] [0]) (.exit 0) (jk [] []) (λk=>let p:=F m (k.toNat) qt;.kh (k<(C m:Int)) (.vd k m<|.br ((o.Xk==(p.Xk))&&((o.XN==(p.XN))&&((o.Place==(p.Place))&&D))) (.ff k) (.nn (G qs (k+1)))) (.oo .u))
 0 [] λ_=>.stop
def akA:=mkp2 func189 akB
def akw (k:Ac)(m:cA):T Bool:=.cc (akA k m) λo=>.jT (qu (o>=0))
def akv:=mkp2 func106 akw
def WW (k:A7):T A7:=
 eL 3 8 k
def I5 (k:A7):aC A7:=mkH [] hd func108 jY (WW k) 0 [q k] [] q X6 (by cases k<;>exact Ob.of_side jY)
def aca (k:aT)(p:bF)(r:cA):T (bF×Bool):=let s:=(⟨p.Xv⟩:bF);let o:=(C p.Xv:Int);.cc (aau (⟨k.Xr,k.Xm,k.Xu,k.Xx,k.Xz,k.Xy⟩:aT) s) λw=>.cc (akv w r) λx=>.br (!x) (.jT ((⟨nl⟩:bF),E)) (.cc (vx s) λy=>.cc (Qr y r) λm=>let t:=([m.1,m.2.1,m.2.2.1,m.2.2.2.1,m.2.2.2.2.1,m.2.2.2.2.2]:List Int);
 .conv 4003 (ajX bE t o)<|.grd (0<=o/\o<=(6:Int))<|.call (I5 (t.take (o.toNat))) [] λz=>.jT ((⟨z⟩:bF),D))
def yq:=mkq3 func51 aca (λr=>.tup [q r.1,q r.2])
def Zp (m:aT)(o:cA)(k:Int):T Bool:=let p:=F m.Xz (k.toNat) qt;.kh (0<=k) (.kh (k<(C m.Xz:Int)) (.vd k m.Xz<|.br ((p.XN)==o.XN) (.vd k m.Xz<|.jT ((p.Place)==o.Place)) (.jT E)) (.jT E)) (.jT E)
def NR:=mkp3 func52 Zp
def KZ (k:Int):T Bool:=.kh (k<(-2147483648)) (.jT D) (.jT (qu (k>2147483648)))
def Ns:=mkp1 func273 KZ
def Iv (m:A7):T Int:=.loop (ik 8 [0,1,7] []) (.exit 0) (jk [] []) (λk=>.kh (k<(C m:Int)) (.vd k m<|.cc (Ns (F m (k.toNat) qt)) λo=>.br o (.ff k) (.nn (G qs (k+1)))) (.oo .u))
 0 [] λ_=>.jT (-1)
def VY k:=mkD func345 (Iv k) 0 [q k,.func 273 [] []] [] pz X6
def Im (k:A7):T Bool:=.cc (VY k) λm=>.jT (qu (m>=0))
def VO k:=mkD func272 (Im k) 0 [q k,.func 273 [] []] [] q X6
def MR (k:A7):T Bool:=.cc (VO k) λm=>.jT (!m)
def nE:=mkp1 func192 MR
def BE (k:Int):T Int:=.jT (min (max k (-2147483648)) 2147483648)
def BD:=mkp1 func346 BE
def JD (k m:Int):T af:=.cc (BD k) λo=>.cc (BD m) λp=>.jT (⟨o,p⟩:af)
def uH:=mkp2 func274 JD
def BG (k:Int):T af:=.cc (uH k k) λm=>.jT m
def eX:=mkp1 func194 BG
def akD (m:A7):T Ah:=let o:=(C m:Int);.vg 1002 2 ye 185 o (⟨0,0⟩:af) 16<|.vn (λ(k:Ai)=>([(13,pz k.2)],[(192,vO k.1 185)])) [1,5,11,12] [] 0 (λ(k:Ah)=>([],[(192,vO k 185)])) [5] [] (λk=>let p:=(k.2).toNat;.kh (k.2<o) (.vd k.2 m<|.cc (eX (F m p qt)) λr=>.vd k.2 k.1<|.vl 5006 k.1 185 k.2 r<|.nn ((k.1.set p r),(G qs (k.2+1)))) (.oo k.1)) ((qr o.toNat ((⟨0,0⟩:af):af)),0) λk=>.jT k
def akC k:=mkD func193 (akD k) 0 [q k,.func 194 [] []] [] q X6
def abk (k:A7):T Ah:=.cc (nE k) λm=>.br (!m) (.jT nl) (.cc (akC k) λo=>.jT o)
def PV:=mkp1 func111 abk
def K1 (k:af):T Bool:=.kh ((-2147483648)<=k.Lo) (.kh (k.Lo<=k.Hi) (.jT (qu (k.Hi<=2147483648))) (.jT E)) (.jT E)
def eU:=mkp1 func204 K1
def Je (k:af):T Bool:=.cc (eU k) λm=>.jT (!m)
def Wj:=mkp1 func269 Je
def H5 (m:Ah):T Int:=.loop (ik 8 [0,1,7] []) (.exit 0) (jk [] []) (λk=>.kh (k<(C m:Int)) (.vd k m<|.cc (Wj (F m (k.toNat) qt)) λo=>.br o (.ff k) (.nn (G qs (k+1)))) (.oo .u))
 0 [] λ_=>.jT (-1)
def Vy k:=mkD func341 (H5 k) 0 [q k,.func 269 [] []] [] pz X6
def H4 (k:Ah):T Bool:=.cc (Vy k) λm=>.jT (qu (m>=0))
def Vw k:=mkD func268 (H4 k) 0 [q k,.func 269 [] []] [] q X6
def JH (m:ao)(k:Ah):T Bool:=.br ((C k:Int)==(C m.Xb:Int)) (.cc (Vw k) λo=>.jT (!o)) (.jT E)
def JG:=mkp2 func190 JH
def yA (k:Bq):T Bx:=.unroll 4<|.jR<|.jG<|.cc (eX k.1) λm=>.jG<|.lit 6000 1<|.jR<|.jH<|.cc (eX k.2.1) λo=>.jH<|.lit 6000 2<|.jR<|.jI<|.cc (eX k.2.2) λp=>.jI<|.lit 6000 3<|.jS<|.jT (m,o,p)
def rf:=mkp1 func113 yA
def matrix_Identity_T:T C0:=.unroll 4<|.jR<|.cc (eX 65536) λk=>.jG<|.jG<|.lit 6000 1<|.jR<|.cc (eX 65536) λm=>.jH<|.jH<|.lit 6000 2<|.jR<|.cc (eX 65536) λo=>.jI<|.jI<|.lit 6000 3<|.jS<|.jT ((k,(⟨0,0⟩:af),(⟨0,0⟩:af)),((⟨0,0⟩:af),m,(⟨0,0⟩:af)),((⟨0,0⟩:af),(⟨0,0⟩:af),o))
def matrix_Identity_C:aC C0:=mkD func404 (matrix_Identity_T) 0 [] [] q X6
def DG (k:Bx):T aN:=.cc (matrix_Identity_C) λm=>.jT (⟨m,k⟩:aN)
def yi:=mkp1 func342 DG
def IR (k:Int):T Int:=.cut 3 (λs (m:Bool)=>pk s [0,2,3] [] [(4,q m)] [(0,.box [.any])]) (.br (k==1) (.oo (k==1)) (.br (k==2) (.oo (k==2)) (.oo (k==3)))) λm=>.br m (.jT (G qs (k-1))) (.cub 0 12 [0,2] [0] (.br (k==4) (.oo (k==4)) (.br (k==5) (.oo (k==5)) (.oo (k==6)))) λo=>.br o (.stop) (.stop))
def IQ:=mkq1 func343 IR (λr=>.agg [.func 405 [pz r] []])
def IT (k:Int):T Int:=.cut 3 (λs (m:Bool)=>pk s [0,2,3] [] [(4,q m)] [(0,.box [.any])]) (.br (k==1) (.oo (k==1)) (.br (k==2) (.oo (k==2)) (.oo (k==3)))) λm=>.br m (.stop) (.cub 0 12 [0,2] [0] (.br (k==4) (.oo (k==4)) (.br (k==5) (.oo (k==5)) (.oo (k==6)))) λo=>.br o (.jT (G qs (k-4))) (.stop))
def IS:=mkq1 func343 IT (λr=>.agg [.func 406 [pz r] []])
def IU (k:Int):T Int:=.cut 3 (λs (m:Bool)=>pk s [0,2,3] [] [(4,q m)] [(0,.box [.any])]) (.br (k==1) (.oo (k==1)) (.br (k==2) (.oo (k==2)) (.oo (k==3)))) λm=>.br m (.stop) (.cub 0 12 [0,2] [0] (.br (k==4) (.oo (k==4)) (.br (k==5) (.oo (k==5)) (.oo (k==6)))) λo=>.br o (.stop) (.jT 0))
def Wd:=mkq1 func343 IU (λr=>.agg [.func 407 [pz r] []])
def pose_still_T:T Bx:=.cc (rf (0,0,0)) λk=>.jT k
def pose_still_C:aC Bx:=mkD func508 (pose_still_T) 0 [] [] q X6
def pose_Identity_T:T aN:=.cc (pose_still_C) λk=>.cc (yi k) λm=>.jT m
def pose_Identity_C:aC aN:=mkD func465 (pose_Identity_T) 0 [] [] q X6
def Ej (_:Int)(_:af):T aN:=.cc (pose_Identity_C) λo=>.jT o
def Qu:=mkp2 func407 Ej
end Go.Abs
