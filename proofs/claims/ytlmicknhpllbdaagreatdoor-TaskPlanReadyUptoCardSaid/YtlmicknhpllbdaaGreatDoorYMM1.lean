/-
  M1 (a part of a claim: our own text).
-/
import Derived.Test.YtlmicknhpllbdaaGreatDoorYMRngF
import Derived.Test.YtlmicknhpllbdaaGreatDoorYMLend
import Derived.Test.YtlmicknhpllbdaaGreatDoorProg
namespace Go.Abs
set_option maxHeartbeats 8000000
set_option maxRecDepth 20000
open IntKind (i64)
open Go.Proofs
abbrev pz (x:Int):AVal:=.pure (.int .i64 x)
theorem hd:fzw Tryz.prog az5k:=az3r (by kernel_rfl)
noncomputable abbrev mkD {R:Type}{f:FuncId}{fn:Func}(hf:Tryz.prog.funcs[f]?=some fn)(t:T R)(k:Nat)(args:List AVal)(m:Mem)(res:R->AVal)(m1:R->Mem)(hb:(fn.body.isSome&& !(fn.name== "runtime.NumGoroutine"))=true:=by kernel_rfl)(h:(vzj Tryz.prog [] az5k fn (fn.body.getD .skip) k k t args m res m1).side true=(vzj Tryz.prog [] az5k fn (fn.body.getD .skip) k k t args m res m1).side false:=by kernel_rfl):CallS R:=mkC [] hd hf hb t k args m res m1 h
abbrev T.gg {R:Type}(i:Int)(n:Nat)(k:T R):T R:=.grd (0≤i/\i<(n:Int)) (.grd (i.toNat<n) k)
abbrev T.gh {R:Type}(i:Int)(n:Nat)(k:T R):T R:=.grd (0≤i/\i<(n:Int)) k
abbrev T.gi {R:Type}(i:Int)(n:Nat)(k:T R):T R:=.grd (i.toNat<n/\0≤i.toNat) k
abbrev T.oo {σ τ R:Type}(y:τ):T (Step3 σ τ R):=.ret (.out y)
abbrev T.nn {σ τ R:Type}(x:σ):T (Step3 σ τ R):=.ret (.next x)
abbrev T.ff {σ τ R:Type}(r:R):T (Step3 σ τ R):=.ret (.fin r)
abbrev T.cc {R α:Type}(c:CallS α)(k:α->T R):T R:=.call c [] k
section
abbrev bo (f:Func):=(f.body.isSome&& !(f.name== "runtime.NumGoroutine"))=true
abbrev pf {R:Type}(f:Func)(t:T R)(w:List AVal)(r:R->AVal)(m:R->Mem):=(vzj Tryz.prog [] az5k f (f.body.getD .skip) 0 0 t w [] r m).side true=(vzj Tryz.prog [] az5k f (f.body.getD .skip) 0 0 t w [] r m).side false
variable {a b c d e g h i j R:Type} [En a] [En b] [En c] [En d] [En e] [En g] [En h] [En i] [En j] {n:FuncId} {f:Func} (l:Tryz.prog.funcs[n]?=some f)
noncomputable abbrev mkp1 [En R](t:a->T R)(y:bo f:=by show _=_;kernel_rfl)(z:∀x0,pf f (t x0) [q x0] q (fun _=>[]):=by intros;show _=_;kernel_rfl)(x0:a):CallS R:=mkC [] hd l y (t x0) 0 _ [] _ _ (z x0)
noncomputable abbrev mkp2 [En R](t:a->b->T R)(y:bo f:=by show _=_;kernel_rfl)(z:∀x0 x1,pf f (t x0 x1) [q x0,q x1] q (fun _=>[]):=by intros;show _=_;kernel_rfl)(x0:a)(x1:b):CallS R:=mkC [] hd l y (t x0 x1) 0 _ [] _ _ (z x0 x1)
noncomputable abbrev mkp3 [En R](t:a->b->c->T R)(y:bo f:=by show _=_;kernel_rfl)(z:∀x0 x1 x2,pf f (t x0 x1 x2) [q x0,q x1,q x2] q (fun _=>[]):=by intros;show _=_;kernel_rfl)(x0:a)(x1:b)(x2:c):CallS R:=mkC [] hd l y (t x0 x1 x2) 0 _ [] _ _ (z x0 x1 x2)
noncomputable abbrev mkp4 [En R](t:a->b->c->d->T R)(y:bo f:=by show _=_;kernel_rfl)(z:∀x0 x1 x2 x3,pf f (t x0 x1 x2 x3) [q x0,q x1,q x2,q x3] q (fun _=>[]):=by intros;show _=_;kernel_rfl)(x0:a)(x1:b)(x2:c)(x3:d):CallS R:=mkC [] hd l y (t x0 x1 x2 x3) 0 _ [] _ _ (z x0 x1 x2 x3)
noncomputable abbrev mkp5 [En R](t:a->b->c->d->e->T R)(y:bo f:=by show _=_;kernel_rfl)(z:∀x0 x1 x2 x3 x4,pf f (t x0 x1 x2 x3 x4) [q x0,q x1,q x2,q x3,q x4] q (fun _=>[]):=by intros;show _=_;kernel_rfl)(x0:a)(x1:b)(x2:c)(x3:d)(x4:e):CallS R:=mkC [] hd l y (t x0 x1 x2 x3 x4) 0 _ [] _ _ (z x0 x1 x2 x3 x4)
noncomputable abbrev mkp6 [En R](t:a->b->c->d->e->g->T R)(y:bo f:=by show _=_;kernel_rfl)(z:∀x0 x1 x2 x3 x4 x5,pf f (t x0 x1 x2 x3 x4 x5) [q x0,q x1,q x2,q x3,q x4,q x5] q (fun _=>[]):=by intros;show _=_;kernel_rfl)(x0:a)(x1:b)(x2:c)(x3:d)(x4:e)(x5:g):CallS R:=mkC [] hd l y (t x0 x1 x2 x3 x4 x5) 0 _ [] _ _ (z x0 x1 x2 x3 x4 x5)
noncomputable abbrev mkp7 [En R](t:a->b->c->d->e->g->h->T R)(y:bo f:=by show _=_;kernel_rfl)(z:∀x0 x1 x2 x3 x4 x5 x6,pf f (t x0 x1 x2 x3 x4 x5 x6) [q x0,q x1,q x2,q x3,q x4,q x5,q x6] q (fun _=>[]):=by intros;show _=_;kernel_rfl)(x0:a)(x1:b)(x2:c)(x3:d)(x4:e)(x5:g)(x6:h):CallS R:=mkC [] hd l y (t x0 x1 x2 x3 x4 x5 x6) 0 _ [] _ _ (z x0 x1 x2 x3 x4 x5 x6)
noncomputable abbrev mkq1 (t:a->T R)(r:R->AVal)(y:bo f:=by show _=_;kernel_rfl)(z:∀x0,pf f (t x0) [q x0] r (fun _=>[]):=by intros;show _=_;kernel_rfl)(x0:a):CallS R:=mkC [] hd l y (t x0) 0 _ [] _ _ (z x0)
noncomputable abbrev mkq2 (t:a->b->T R)(r:R->AVal)(y:bo f:=by show _=_;kernel_rfl)(z:∀x0 x1,pf f (t x0 x1) [q x0,q x1] r (fun _=>[]):=by intros;show _=_;kernel_rfl)(x0:a)(x1:b):CallS R:=mkC [] hd l y (t x0 x1) 0 _ [] _ _ (z x0 x1)
noncomputable abbrev mkq3 (t:a->b->c->T R)(r:R->AVal)(y:bo f:=by show _=_;kernel_rfl)(z:∀x0 x1 x2,pf f (t x0 x1 x2) [q x0,q x1,q x2] r (fun _=>[]):=by intros;show _=_;kernel_rfl)(x0:a)(x1:b)(x2:c):CallS R:=mkC [] hd l y (t x0 x1 x2) 0 _ [] _ _ (z x0 x1 x2)
noncomputable abbrev mkq4 (t:a->b->c->d->T R)(r:R->AVal)(y:bo f:=by show _=_;kernel_rfl)(z:∀x0 x1 x2 x3,pf f (t x0 x1 x2 x3) [q x0,q x1,q x2,q x3] r (fun _=>[]):=by intros;show _=_;kernel_rfl)(x0:a)(x1:b)(x2:c)(x3:d):CallS R:=mkC [] hd l y (t x0 x1 x2 x3) 0 _ [] _ _ (z x0 x1 x2 x3)
noncomputable abbrev mkq5 (t:a->b->c->d->e->T R)(r:R->AVal)(y:bo f:=by show _=_;kernel_rfl)(z:∀x0 x1 x2 x3 x4,pf f (t x0 x1 x2 x3 x4) [q x0,q x1,q x2,q x3,q x4] r (fun _=>[]):=by intros;show _=_;kernel_rfl)(x0:a)(x1:b)(x2:c)(x3:d)(x4:e):CallS R:=mkC [] hd l y (t x0 x1 x2 x3 x4) 0 _ [] _ _ (z x0 x1 x2 x3 x4)
noncomputable abbrev mkq6 (t:a->b->c->d->e->g->T R)(r:R->AVal)(y:bo f:=by show _=_;kernel_rfl)(z:∀x0 x1 x2 x3 x4 x5,pf f (t x0 x1 x2 x3 x4 x5) [q x0,q x1,q x2,q x3,q x4,q x5] r (fun _=>[]):=by intros;show _=_;kernel_rfl)(x0:a)(x1:b)(x2:c)(x3:d)(x4:e)(x5:g):CallS R:=mkC [] hd l y (t x0 x1 x2 x3 x4 x5) 0 _ [] _ _ (z x0 x1 x2 x3 x4 x5)
noncomputable abbrev mkv1 (t:a->T R)(r:R->AVal)(m:R->Mem)(y:bo f:=by show _=_;kernel_rfl)(z:∀x0,pf f (t x0) [q x0] r m:=by intros;show _=_;kernel_rfl)(x0:a):CallS R:=mkC [] hd l y (t x0) 0 _ [] _ _ (z x0)
noncomputable abbrev mkv2 (t:a->b->T R)(r:R->AVal)(m:R->Mem)(y:bo f:=by show _=_;kernel_rfl)(z:∀x0 x1,pf f (t x0 x1) [q x0,q x1] r m:=by intros;show _=_;kernel_rfl)(x0:a)(x1:b):CallS R:=mkC [] hd l y (t x0 x1) 0 _ [] _ _ (z x0 x1)
noncomputable abbrev mkv3 (t:a->b->c->T R)(r:R->AVal)(m:R->Mem)(y:bo f:=by show _=_;kernel_rfl)(z:∀x0 x1 x2,pf f (t x0 x1 x2) [q x0,q x1,q x2] r m:=by intros;show _=_;kernel_rfl)(x0:a)(x1:b)(x2:c):CallS R:=mkC [] hd l y (t x0 x1 x2) 0 _ [] _ _ (z x0 x1 x2)
noncomputable abbrev mkv5 (t:a->b->c->d->e->T R)(r:R->AVal)(m:R->Mem)(y:bo f:=by show _=_;kernel_rfl)(z:∀x0 x1 x2 x3 x4,pf f (t x0 x1 x2 x3 x4) [q x0,q x1,q x2,q x3,q x4] r m:=by intros;show _=_;kernel_rfl)(x0:a)(x1:b)(x2:c)(x3:d)(x4:e):CallS R:=mkC [] hd l y (t x0 x1 x2 x3 x4) 0 _ [] _ _ (z x0 x1 x2 x3 x4)
end
structure azk where
 Name:ByteArray
 Kind:Int
 Parent:Int
 Offset:(Int×Int×Int)
 Lo:Int
 Hi:Int
 Weight:Int
 Speed:Int
 Accel:Int
 Torque:Int
instance:Inhabited azk:=⟨⟨default,default,default,default,default,default,default,default,default,default⟩⟩
structure bz5 where
 Link:Int
 Mass:Int
 Point:(Int×Int×Int)
instance:Inhabited bz5:=⟨⟨default,default,default⟩⟩
structure azn where
 Joints:(List azk)
 Masses:(List bz5)
instance:Inhabited azn:=⟨⟨default,default⟩⟩
structure aza where
 Link:Int
 Radius:Int
 Points:(List (Int×Int×Int))
instance:Inhabited aza:=⟨⟨default,default,default⟩⟩
structure cz7 where
 A:Int
 B:Int
instance:Inhabited cz7:=⟨⟨default,default⟩⟩
structure azc where
 Robot:azn
 Shapes:(List aza)
 Skips:(List cz7)
instance:Inhabited azc:=⟨⟨default,default,default⟩⟩
structure azq where
 Name:ByteArray
 Shapes:(List aza)
instance:Inhabited azq:=⟨⟨default,default⟩⟩
structure dz9 where
 Link:Int
 Offset:(Int×Int×Int)
instance:Inhabited dz9:=⟨⟨default,default⟩⟩
structure bzy where
 Hand:Int
 Place:Int
 At:(List Int)
instance:Inhabited bzy:=⟨⟨default,default,default⟩⟩
structure az1 where
 Scene:azc
 Objects:(List azq)
 Places:(List (Int×Int×Int))
 Hands:(List dz9)
 Grips:(List bzy)
 Slack:Int
instance:Inhabited az1:=⟨⟨default,default,default,default,default,default⟩⟩
structure azg where
 Where:(List Int)
instance:Inhabited azg:=⟨⟨default⟩⟩
structure az6 where
 Kind:Int
 Hand:Int
 Place:Int
instance:Inhabited az6:=⟨⟨default,default,default⟩⟩
structure hze where
 Samples:Int
 Degree:Int
 Depth:Int
 Tests:Int
instance:Inhabited hze:=⟨⟨default,default,default,default⟩⟩
structure fz5 where
 Depth:Int
 Index:Int
 Numbers:(List Int)
instance:Inhabited fz5:=⟨⟨default,default,default⟩⟩
structure azo where
 Table:(List (Int×Int×Int))
 Uses:(List fz5)
instance:Inhabited azo:=⟨⟨default,default⟩⟩
structure czr where
 Points:(List (List Int))
 Edges:(List azo)
instance:Inhabited czr:=⟨⟨default,default⟩⟩
structure azf where
 Action:az6
 Grip:Int
 Path:czr
instance:Inhabited azf:=⟨⟨default,default,default⟩⟩
structure az7 where
 where_:(Int×Int×Int×Int×Int×Int)
 last:Int
 action:az6
instance:Inhabited az7:=⟨⟨default,default,default⟩⟩
structure zzr where
 Mode:azg
 Action:az6
instance:Inhabited zzr:=⟨⟨default,default⟩⟩
structure ezb where
 in_:(Int×Int×Int×Int×Int×Int)
 by_:az6
instance:Inhabited ezb:=⟨⟨default,default⟩⟩
structure bzn where
 before:(Int×Int×Int×Int×Int×Int)
 by_:az6
instance:Inhabited bzn:=⟨⟨default,default⟩⟩
structure az0 where
 Lo:Int
 Hi:Int
instance:Inhabited az0:=⟨⟨default,default⟩⟩
structure bz2 where
 R:((az0×az0×az0)×(az0×az0×az0)×(az0×az0×az0))
 T:(az0×az0×az0)
instance:Inhabited bz2:=⟨⟨default,default⟩⟩
structure bzx where
 A:Int
 B:Int
instance:Inhabited bzx:=⟨⟨default,default⟩⟩
structure cze where
 shapes:(List aza)
 pairs:(List bzx)
 points:(List (List (az0×az0×az0)))
instance:Inhabited cze:=⟨⟨default,default,default⟩⟩
structure czs where
 Pair:Int
 Left:(List Int)
 Right:(List Int)
instance:Inhabited czs:=⟨⟨default,default,default⟩⟩
structure dzd where
 Kind:Int
 Normals:(List (Int×Int×Int))
 Witness:czs
instance:Inhabited dzd:=⟨⟨default,default,default⟩⟩
structure fzx where
 a:(List (az0×az0×az0))
 b:(List (az0×az0×az0))
 ra:Int
 rb:Int
instance:Inhabited fzx:=⟨⟨default,default,default,default⟩⟩
structure fzi where
 points:(List (az0×az0×az0))
 radius:Int
instance:Inhabited fzi:=⟨⟨default,default⟩⟩
structure ezk where
 a:fzi
 b:fzi
instance:Inhabited ezk:=⟨⟨default,default⟩⟩
structure dzc where
 Kind:Int
 Normal:(Int×Int×Int)
 Left:(List Int)
 Right:(List Int)
 Steps:Int
instance:Inhabited dzc:=⟨⟨default,default,default,default,default⟩⟩
structure jz7 where
 points:(List (Int×Int×Int))
 weights:(List Int)
instance:Inhabited jz7:=⟨⟨default,default⟩⟩
structure nzi where
 list:jz7
instance:Inhabited nzi:=⟨⟨default⟩⟩
structure kzq where
 list:jz7
instance:Inhabited kzq:=⟨⟨default⟩⟩
structure qzx where
 left:nzi
 right:kzq
 normal:(Int×Int×Int)
 rounds:Int
instance:Inhabited qzx:=⟨⟨default,default,default,default⟩⟩
structure dzm where
 witness:czs
instance:Inhabited dzm:=⟨⟨default⟩⟩
structure bzd where
 normals:(List (Int×Int×Int))
instance:Inhabited bzd:=⟨⟨default⟩⟩
structure azi where
 Depth:Int
 Index:Int
 Normals:(List (Int×Int×Int))
instance:Inhabited azi:=⟨⟨default,default,default⟩⟩
structure bzq where
 Kind:Int
 Pieces:(List azi)
 At:azi
 Witness:czs
instance:Inhabited bzq:=⟨⟨default,default,default,default⟩⟩
structure az4 where
 U:Int
 V:Int
 Cost:Int
 State:Int
 Proof:bzq
instance:Inhabited az4:=⟨⟨default,default,default,default,default⟩⟩
structure azu where
 Points:(List (List Int))
 Edges:(List az4)
instance:Inhabited azu:=⟨⟨default,default⟩⟩
structure bz3 where
 Point:Int
 Axis:Int
 Low:Int
 High:Int
instance:Inhabited bz3:=⟨⟨default,default,default,default⟩⟩
structure dz5 where
 joints:(List azk)
 points:(List (List Int))
 tree:(List bz3)
 q:(List Int)
instance:Inhabited dz5:=⟨⟨default,default,default,default⟩⟩
structure qzw where
 Vertices:(List Int)
 Cost:Int
instance:Inhabited qzw:=⟨⟨default,default⟩⟩
structure azb where
 to:Int
 cost:Int
instance:Inhabited azb:=⟨⟨default,default⟩⟩
structure aze where
 cost:Int
 points:Int
instance:Inhabited aze:=⟨⟨default,default⟩⟩
structure azm where
 rank:aze
 point:Int
instance:Inhabited azm:=⟨⟨default,default⟩⟩
structure fzh where
 scene:azc
 depth:Int
instance:Inhabited fzh:=⟨⟨default,default⟩⟩
structure bzr where
 scene:azc
 p:(List Int)
 q:(List Int)
 pieces:(List azi)
instance:Inhabited bzr:=⟨⟨default,default,default,default⟩⟩
structure wzh where
 list:(List Int)
 next:Int
instance:Inhabited wzh:=⟨⟨default,default⟩⟩
structure azr where
 points:(List (az0×az0×az0))
 radius:Int
instance:Inhabited azr:=⟨⟨default,default⟩⟩
structure wzj where
 Cost:Int
 Edges:Int
instance:Inhabited wzj:=⟨⟨default,default⟩⟩
structure wzi where
 depth:Int
 index:Int
 hints:(List (Int×Int×Int))
instance:Inhabited wzi:=⟨⟨default,default,default⟩⟩
structure zzs where
 mode:azg
 before:Int
 action:az6
 depth:Int
instance:Inhabited zzs:=⟨⟨default,default,default,default⟩⟩
abbrev A0:=List azk
abbrev A1:=List dz9
abbrev A2:=List aza
abbrev A3:=List azq
abbrev A4:=List Int
abbrev A5:=List A4
abbrev A6:=A4×A4
abbrev A7:=List bzy
abbrev A8:=List bz5
abbrev A9:=List az6
abbrev Aa:=A9×Int
abbrev Ab:=List zzr
abbrev Ac:=A2×Int
abbrev Ad:=List cz7
abbrev Ae:=List az0
abbrev Af:=Ae×Int
abbrev Ag:=List bz2
abbrev Ah:=A4×Int
abbrev Ai:=List bzx
abbrev Aj:=Ai×Int
abbrev Ak:=List bz3
abbrev Al:=List az4
abbrev Am:=A5×Al
abbrev An:=Al×Int
abbrev Ao:=List azi
abbrev Ap:=Ao×Int
abbrev Aq:=A5×Int
abbrev Ar:=List azb
abbrev As:=List Ar
abbrev Au:=List azm
abbrev Av:=List aze
abbrev Aw:=List fz5
abbrev Ax:=List azo
abbrev Ay:=Ax×Int
abbrev Az:=List azf
abbrev B0:=List azr
abbrev B1:=Int×Int
abbrev B2:=List B1
abbrev B3:=B2×Int
abbrev B5:=List (B1×Bool)
abbrev B7:=List (az7×azf)
abbrev B9:=List (ezb×Bool)
abbrev Ba:=Int×Bool
abbrev Bb:=A4×A5×Int
abbrev Bc:=A5×Int×A4
abbrev Bd:=Int×A4×A4
abbrev Be:=A4×A4×Int
abbrev Bf:=A4×Int×Int
abbrev Bg:=A5×Int×Int
abbrev Bh:=B2×Int×Int
abbrev Bi:=A5×Al×Bool
abbrev Bj:=Int×Int×Int
abbrev Bk:=List Bj
abbrev Bl:=Bk×Int
abbrev Bn:=List (Bj×Int)
abbrev Bo:=Bj×Bool
abbrev Bp:=az0×az0×az0
abbrev Bq:=List Bp
abbrev Br:=List Bq
abbrev Bs:=Bp×Bp×Bp
abbrev Bt:=A5×Int×Bool
abbrev Bu:=Bool×Int×Int
abbrev Bv:=Int×Int×Bool
abbrev Bw:=Bool×Bool×Bj
abbrev Bx:=Bool×Bool×Bool
abbrev By:=Int×A4×A5×Ak
abbrev Bz:=A5×Int×A4×Int
abbrev C0:=Ao×Int×Int×Bk
abbrev C1:=A4×Int×A7×Int
abbrev C2:=Int×Int×A5×Int
abbrev C3:=Int×A4×Int×Int
abbrev C4:=Int×Int×Int×Int
abbrev C5:=Bool×ByteArray×A2
abbrev C6:=A5×Int×A4×Int×Int
abbrev C7:=Bool×Bool×Bool×Bool
abbrev C8:=Int×Int×Int×Int×Int
abbrev C9:=A4×B7×A4×Az×Int×Int
abbrev Ca:=Int×Int×Int×Int×Int×Int
abbrev Cb:=List Ca
abbrev Cc:=Ca×bzn
abbrev Cd:=List Cc
abbrev Ce:=Cd×Cb×Int
abbrev Cf:=A0×A5×Ak×A4×A4×A4×Int
abbrev Cg:=Bool×Bj×Bq×Bq×Int×Int×Bk
abbrev Ch:=B7×Int×Int×Int×Int×A5×Ax
abbrev Ci:=Int×Int×Int×Int×Int×Int×Int
abbrev Cj:=Int×Int×Int×Int×Int×Int×Int×Int×Int×Int
abbrev Ck:=Cj×Bool
abbrev Cl:=Int×Int×Int×Int×Int×Int×Int×Int×Int×Int×Int
abbrev Cm:=Bool×Ao×Int×Ao×Int×Int×Bk×Int×A4×A4×A4×A4×A0×A8×A2×Ad×Int
abbrev Cn:=Int×Int×Int×Int×Int×Int×Int×Int×Int×Int×Int×Int×Int×Int×Int×Int×Int×Int×Int×Int×Int×Int×Int×Int
def gzo (v:azk):PVal:=.agg [.str v.Name,.int .i64 v.Kind,.int .i64 v.Parent,.int .i64 v.Offset.1,.int .i64 v.Offset.2.1,.int .i64 v.Offset.2.2,.int .i64 v.Lo,.int .i64 v.Hi,.int .i64 v.Weight,.int .i64 v.Speed,.int .i64 v.Accel,.int .i64 v.Torque]
def kzy (v:bz5):PVal:=.agg [.int .i64 v.Link,.int .i64 v.Mass,.int .i64 v.Point.1,.int .i64 v.Point.2.1,.int .i64 v.Point.2.2]
def az5m (v:azn):PVal:=.agg [encL 12 gzo v.Joints,encL 5 kzy v.Masses]
def azh (v:Bj):PVal:=.agg [.int .i64 v.1,.int .i64 v.2.1,.int .i64 v.2.2]
def gz0 (v:aza):PVal:=.agg [.int .i64 v.Link,.int .i64 v.Radius,encL 3 azh v.Points]
def qz4 (v:cz7):PVal:=.agg [.int .i64 v.A,.int .i64 v.B]
def az5o (v:azc):PVal:=.agg [encL 12 gzo v.Robot.Joints,encL 5 kzy v.Robot.Masses,encL 3 gz0 v.Shapes,encL 2 qz4 v.Skips]
def qzr (v:azq):PVal:=.agg [.str v.Name,encL 3 gz0 v.Shapes]
def Gzc (v:dz9):PVal:=.agg [.int .i64 v.Link,.int .i64 v.Offset.1,.int .i64 v.Offset.2.1,.int .i64 v.Offset.2.2]
def Gzb (v:bzy):PVal:=.agg [.int .i64 v.Hand,.int .i64 v.Place,encL 1 azs v.At]
def Uzh (v:az1):PVal:=.agg [encL 12 gzo v.Scene.Robot.Joints,encL 5 kzy v.Scene.Robot.Masses,encL 3 gz0 v.Scene.Shapes,encL 2 qz4 v.Scene.Skips,encL 2 qzr v.Objects,encL 3 azh v.Places,encL 4 Gzc v.Hands,encL 3 Gzb v.Grips,.int .i64 v.Slack]
def az8q (v:azg):PVal:=.agg [encL 1 azs v.Where]
def Tz7 (v:az6):PVal:=.agg [.int .i64 v.Kind,.int .i64 v.Hand,.int .i64 v.Place]
def az3s (v:hze):PVal:=.agg [.int .i64 v.Samples,.int .i64 v.Degree,.int .i64 v.Depth,.int .i64 v.Tests]
def Jz9 (v:fz5):PVal:=.agg [.int .i64 v.Depth,.int .i64 v.Index,encL 1 azs v.Numbers]
def czo (v:azo):PVal:=.agg [encL 3 azh v.Table,encL 3 Jz9 v.Uses]
def az8r (v:czr):PVal:=.agg [encL 1 (encL 1 azs) v.Points,encL 2 czo v.Edges]
def bze (v:azf):PVal:=.agg [.int .i64 v.Action.Kind,.int .i64 v.Action.Hand,.int .i64 v.Action.Place,.int .i64 v.Grip,encL 1 (encL 1 azs) v.Path.Points,encL 2 czo v.Path.Edges]
def zzo (v:az7):PVal:=.agg [.int .i64 v.where_.1,.int .i64 v.where_.2.1,.int .i64 v.where_.2.2.1,.int .i64 v.where_.2.2.2.1,.int .i64 v.where_.2.2.2.2.1,.int .i64 v.where_.2.2.2.2.2,.int .i64 v.last,.int .i64 v.action.Kind,.int .i64 v.action.Hand,.int .i64 v.action.Place]
def az2 (v:az7):List PVal:=[.int .i64 v.where_.1,.int .i64 v.where_.2.1,.int .i64 v.where_.2.2.1,.int .i64 v.where_.2.2.2.1,.int .i64 v.where_.2.2.2.2.1,.int .i64 v.where_.2.2.2.2.2,.int .i64 v.last,.int .i64 v.action.Kind,.int .i64 v.action.Hand,.int .i64 v.action.Place]
def az5l (v:zzr):PVal:=.agg [encL 1 azs v.Mode.Where,.int .i64 v.Action.Kind,.int .i64 v.Action.Hand,.int .i64 v.Action.Place]
def Xzk (v:ezb):PVal:=.agg [.int .i64 v.in_.1,.int .i64 v.in_.2.1,.int .i64 v.in_.2.2.1,.int .i64 v.in_.2.2.2.1,.int .i64 v.in_.2.2.2.2.1,.int .i64 v.in_.2.2.2.2.2,.int .i64 v.by_.Kind,.int .i64 v.by_.Hand,.int .i64 v.by_.Place]
def czu (v:ezb):List PVal:=[.int .i64 v.in_.1,.int .i64 v.in_.2.1,.int .i64 v.in_.2.2.1,.int .i64 v.in_.2.2.2.1,.int .i64 v.in_.2.2.2.2.1,.int .i64 v.in_.2.2.2.2.2,.int .i64 v.by_.Kind,.int .i64 v.by_.Hand,.int .i64 v.by_.Place]
def bzl (v:bzn):PVal:=.agg [.int .i64 v.before.1,.int .i64 v.before.2.1,.int .i64 v.before.2.2.1,.int .i64 v.before.2.2.2.1,.int .i64 v.before.2.2.2.2.1,.int .i64 v.before.2.2.2.2.2,.int .i64 v.by_.Kind,.int .i64 v.by_.Hand,.int .i64 v.by_.Place]
def Uzi (v:Ca):PVal:=.agg [.int .i64 v.1,.int .i64 v.2.1,.int .i64 v.2.2.1,.int .i64 v.2.2.2.1,.int .i64 v.2.2.2.2.1,.int .i64 v.2.2.2.2.2]
def azd (v:Ca):List PVal:=[.int .i64 v.1,.int .i64 v.2.1,.int .i64 v.2.2.1,.int .i64 v.2.2.2.1,.int .i64 v.2.2.2.2.1,.int .i64 v.2.2.2.2.2]
def tz3 (v:az0):PVal:=.agg [.int .i64 v.Lo,.int .i64 v.Hi]
def az2i (v:bz2):PVal:=.agg [.int .i64 v.R.1.1.Lo,.int .i64 v.R.1.1.Hi,.int .i64 v.R.1.2.1.Lo,.int .i64 v.R.1.2.1.Hi,.int .i64 v.R.1.2.2.Lo,.int .i64 v.R.1.2.2.Hi,.int .i64 v.R.2.1.1.Lo,.int .i64 v.R.2.1.1.Hi,.int .i64 v.R.2.1.2.1.Lo,.int .i64 v.R.2.1.2.1.Hi,.int .i64 v.R.2.1.2.2.Lo,.int .i64 v.R.2.1.2.2.Hi,.int .i64 v.R.2.2.1.Lo,.int .i64 v.R.2.2.1.Hi,.int .i64 v.R.2.2.2.1.Lo,.int .i64 v.R.2.2.2.1.Hi,.int .i64 v.R.2.2.2.2.Lo,.int .i64 v.R.2.2.2.2.Hi,.int .i64 v.T.1.Lo,.int .i64 v.T.1.Hi,.int .i64 v.T.2.1.Lo,.int .i64 v.T.2.1.Hi,.int .i64 v.T.2.2.Lo,.int .i64 v.T.2.2.Hi]
def Ozc (v:C4):PVal:=.agg [.int .i64 v.1,.int .i64 v.2.1,.int .i64 v.2.2.1,.int .i64 v.2.2.2]
def Dz5 (v:Bs):PVal:=.agg [.int .i64 v.1.1.Lo,.int .i64 v.1.1.Hi,.int .i64 v.1.2.1.Lo,.int .i64 v.1.2.1.Hi,.int .i64 v.1.2.2.Lo,.int .i64 v.1.2.2.Hi,.int .i64 v.2.1.1.Lo,.int .i64 v.2.1.1.Hi,.int .i64 v.2.1.2.1.Lo,.int .i64 v.2.1.2.1.Hi,.int .i64 v.2.1.2.2.Lo,.int .i64 v.2.1.2.2.Hi,.int .i64 v.2.2.1.Lo,.int .i64 v.2.2.1.Hi,.int .i64 v.2.2.2.1.Lo,.int .i64 v.2.2.2.1.Hi,.int .i64 v.2.2.2.2.Lo,.int .i64 v.2.2.2.2.Hi]
def bzz (v:Bp):PVal:=.agg [.int .i64 v.1.Lo,.int .i64 v.1.Hi,.int .i64 v.2.1.Lo,.int .i64 v.2.1.Hi,.int .i64 v.2.2.Lo,.int .i64 v.2.2.Hi]
def az2h (v:bzx):PVal:=.agg [.int .i64 v.A,.int .i64 v.B]
def Jza (v:cze):PVal:=.agg [encL 3 gz0 v.shapes,encL 2 az2h v.pairs,encL 1 (encL 6 bzz) v.points]
def az0g (v:czs):PVal:=.agg [.int .i64 v.Pair,encL 1 azs v.Left,encL 1 azs v.Right]
def az0f (v:dzd):PVal:=.agg [.int .i64 v.Kind,encL 3 azh v.Normals,.int .i64 v.Witness.Pair,encL 1 azs v.Witness.Left,encL 1 azs v.Witness.Right]
def Ezx (v:fzx):PVal:=.agg [encL 6 bzz v.a,encL 6 bzz v.b,.int .i64 v.ra,.int .i64 v.rb]
def Rzo (v:fzi):PVal:=.agg [encL 6 bzz v.points,.int .i64 v.radius]
def Ozf (v:ezk):PVal:=.agg [encL 6 bzz v.a.points,.int .i64 v.a.radius,encL 6 bzz v.b.points,.int .i64 v.b.radius]
def az0d (v:dzc):PVal:=.agg [.int .i64 v.Kind,.int .i64 v.Normal.1,.int .i64 v.Normal.2.1,.int .i64 v.Normal.2.2,encL 1 azs v.Left,encL 1 azs v.Right,.int .i64 v.Steps]
def Mza (v:jz7):PVal:=.agg [encL 3 azh v.points,encL 1 azs v.weights]
def Mz9 (v:nzi):PVal:=.agg [encL 3 azh v.list.points,encL 1 azs v.list.weights]
def Jzb (v:kzq):PVal:=.agg [encL 3 azh v.list.points,encL 1 azs v.list.weights]
def Jzc (v:qzx):PVal:=.agg [encL 3 azh v.left.list.points,encL 1 azs v.left.list.weights,encL 3 azh v.right.list.points,encL 1 azs v.right.list.weights,.int .i64 v.normal.1,.int .i64 v.normal.2.1,.int .i64 v.normal.2.2,.int .i64 v.rounds]
def zzn (v:dzm):PVal:=.agg [.int .i64 v.witness.Pair,encL 1 azs v.witness.Left,encL 1 azs v.witness.Right]
def wzt (v:bzd):PVal:=.agg [encL 3 azh v.normals]
def Azb (v:azi):PVal:=.agg [.int .i64 v.Depth,.int .i64 v.Index,encL 3 azh v.Normals]
def Rzn (v:bzq):PVal:=.agg [.int .i64 v.Kind,encL 3 Azb v.Pieces,.int .i64 v.At.Depth,.int .i64 v.At.Index,encL 3 azh v.At.Normals,.int .i64 v.Witness.Pair,encL 1 azs v.Witness.Left,encL 1 azs v.Witness.Right]
def rz8 (v:az4):PVal:=.agg [.int .i64 v.U,.int .i64 v.V,.int .i64 v.Cost,.int .i64 v.State,.int .i64 v.Proof.Kind,encL 3 Azb v.Proof.Pieces,.int .i64 v.Proof.At.Depth,.int .i64 v.Proof.At.Index,encL 3 azh v.Proof.At.Normals,.int .i64 v.Proof.Witness.Pair,encL 1 azs v.Proof.Witness.Left,encL 1 azs v.Proof.Witness.Right]
def az0e (v:azu):PVal:=.agg [encL 1 (encL 1 azs) v.Points,encL 12 rz8 v.Edges]
def Mz8 (v:Cj):PVal:=.agg [.int .i64 v.1,.int .i64 v.2.1,.int .i64 v.2.2.1,.int .i64 v.2.2.2.1,.int .i64 v.2.2.2.2.1,.int .i64 v.2.2.2.2.2.1,.int .i64 v.2.2.2.2.2.2.1,.int .i64 v.2.2.2.2.2.2.2.1,.int .i64 v.2.2.2.2.2.2.2.2.1,.int .i64 v.2.2.2.2.2.2.2.2.2]
def cz9 (v:Cj):List PVal:=[.int .i64 v.1,.int .i64 v.2.1,.int .i64 v.2.2.1,.int .i64 v.2.2.2.1,.int .i64 v.2.2.2.2.1,.int .i64 v.2.2.2.2.2.1,.int .i64 v.2.2.2.2.2.2.1,.int .i64 v.2.2.2.2.2.2.2.1,.int .i64 v.2.2.2.2.2.2.2.2.1,.int .i64 v.2.2.2.2.2.2.2.2.2]
def Tz8 (v:bz3):PVal:=.agg [.int .i64 v.Point,.int .i64 v.Axis,.int .i64 v.Low,.int .i64 v.High]
def Ezy (v:dz5):PVal:=.agg [encL 12 gzo v.joints,encL 1 (encL 1 azs) v.points,encL 4 Tz8 v.tree,encL 1 azs v.q]
def Gzd (v:B1):PVal:=.agg [.int .i64 v.1,.int .i64 v.2]
def czg (v:B1):List PVal:=[.int .i64 v.1,.int .i64 v.2]
def az5n (v:qzw):PVal:=.agg [encL 1 azs v.Vertices,.int .i64 v.Cost]
def fz0 (v:azb):PVal:=.agg [.int .i64 v.to,.int .i64 v.cost]
def Azc (v:aze):PVal:=.agg [.int .i64 v.cost,.int .i64 v.points]
def zz2 (v:azm):PVal:=.agg [.int .i64 v.rank.cost,.int .i64 v.rank.points,.int .i64 v.point]
def Oze (v:fzh):PVal:=.agg [encL 12 gzo v.scene.Robot.Joints,encL 5 kzy v.scene.Robot.Masses,encL 3 gz0 v.scene.Shapes,encL 2 qz4 v.scene.Skips,.int .i64 v.depth]
def Dz6 (v:bzr):PVal:=.agg [encL 12 gzo v.scene.Robot.Joints,encL 5 kzy v.scene.Robot.Masses,encL 3 gz0 v.scene.Shapes,encL 2 qz4 v.scene.Skips,encL 1 azs v.p,encL 1 azs v.q,encL 3 Azb v.pieces]
def bzf (v:Bj):List PVal:=[.int .i64 v.1,.int .i64 v.2.1,.int .i64 v.2.2]
def Ozd (v:wzh):PVal:=.agg [encL 1 azs v.list,.int .i64 v.next]
def Rzp (v:azr):PVal:=.agg [encL 6 bzz v.points,.int .i64 v.radius]
def Ozh (v:wzj):PVal:=.agg [.int .i64 v.Cost,.int .i64 v.Edges]
def Ozg (v:wzi):PVal:=.agg [.int .i64 v.depth,.int .i64 v.index,encL 3 azh v.hints]
def Rzq (v:zzs):PVal:=.agg [encL 1 azs v.mode.Where,.int .i64 v.before,.int .i64 v.action.Kind,.int .i64 v.action.Hand,.int .i64 v.action.Place,.int .i64 v.depth]
def jzx (v:Cl):PVal:=.agg [.int .i64 v.1,.int .i64 v.2.1,.int .i64 v.2.2.1,.int .i64 v.2.2.2.1,.int .i64 v.2.2.2.2.1,.int .i64 v.2.2.2.2.2.1,.int .i64 v.2.2.2.2.2.2.1,.int .i64 v.2.2.2.2.2.2.2.1,.int .i64 v.2.2.2.2.2.2.2.2.1,.int .i64 v.2.2.2.2.2.2.2.2.2.1,.int .i64 v.2.2.2.2.2.2.2.2.2.2]
instance:En azk:=⟨12,gzo⟩
instance:En bz5:=⟨5,kzy⟩
instance:En azn:=⟨2,az5m⟩
instance:En aza:=⟨3,gz0⟩
instance:En cz7:=⟨2,qz4⟩
instance:En azc:=⟨4,az5o⟩
instance:En azq:=⟨2,qzr⟩
instance:En dz9:=⟨4,Gzc⟩
instance:En bzy:=⟨3,Gzb⟩
instance:En az1:=⟨9,Uzh⟩
instance:En azg:=⟨1,az8q⟩
instance:En az6:=⟨3,Tz7⟩
instance:En Bj:=⟨3,azh⟩
instance:En hze:=⟨4,az3s⟩
instance:En fz5:=⟨3,Jz9⟩
instance:En azo:=⟨2,czo⟩
instance:En czr:=⟨2,az8r⟩
instance:En azf:=⟨6,bze⟩
instance:En az7:=⟨10,zzo⟩
instance:En zzr:=⟨4,az5l⟩
instance:En ezb:=⟨9,Xzk⟩
instance:En bzn:=⟨9,bzl⟩
instance:En Ca:=⟨6,Uzi⟩
instance:En az0:=⟨2,tz3⟩
instance:En bz2:=⟨24,az2i⟩
instance:En C4:=⟨4,Ozc⟩
instance:En Bs:=⟨18,Dz5⟩
instance:En Bp:=⟨6,bzz⟩
instance:En bzx:=⟨2,az2h⟩
instance:En cze:=⟨3,Jza⟩
instance:En czs:=⟨3,az0g⟩
instance:En dzd:=⟨5,az0f⟩
instance:En fzx:=⟨4,Ezx⟩
instance:En fzi:=⟨2,Rzo⟩
instance:En ezk:=⟨4,Ozf⟩
instance:En dzc:=⟨7,az0d⟩
instance:En jz7:=⟨2,Mza⟩
instance:En nzi:=⟨2,Mz9⟩
instance:En kzq:=⟨2,Jzb⟩
instance:En qzx:=⟨8,Jzc⟩
instance:En dzm:=⟨3,zzn⟩
instance:En bzd:=⟨1,wzt⟩
instance:En azi:=⟨3,Azb⟩
instance:En bzq:=⟨8,Rzn⟩
instance:En az4:=⟨12,rz8⟩
instance:En azu:=⟨2,az0e⟩
instance:En Cj:=⟨10,Mz8⟩
instance:En bz3:=⟨4,Tz8⟩
instance:En dz5:=⟨4,Ezy⟩
instance:En B1:=⟨2,Gzd⟩
instance:En qzw:=⟨2,az5n⟩
instance:En azb:=⟨2,fz0⟩
instance:En aze:=⟨2,Azc⟩
instance:En azm:=⟨3,zz2⟩
instance:En fzh:=⟨5,Oze⟩
instance:En bzr:=⟨7,Dz6⟩
instance:En wzh:=⟨2,Ozd⟩
instance:En azr:=⟨2,Rzp⟩
instance:En wzj:=⟨2,Ozh⟩
instance:En wzi:=⟨3,Ozg⟩
instance:En zzs:=⟨6,Rzq⟩
theorem az90:GuardFn Tryz.prog 160:=
 bzg (fn:=Tryz.f160) Tryz.func160 (by kernel_rfl) ⟨0,(gOps Tryz.f160).getD 0 default,(gOps Tryz.f160).getD 1 default,1,2,gX Tryz.f160,gC ((gOps Tryz.f160).getD 0 default),20,20,by kernel_rfl,by kernel_rfl,by kernel_rfl,by kernel_rfl,by kernel_rfl,by kernel_rfl,by kernel_rfl,by kernel_rfl,⟨gMs (Tryz.prog.underlying 20),by kernel_rfl⟩,by decide,by decide,by kernel_rfl⟩
theorem az91:GuardFn Tryz.prog 165:=
 bzg (fn:=Tryz.f165) Tryz.func165 (by kernel_rfl) ⟨0,(gOps Tryz.f165).getD 0 default,(gOps Tryz.f165).getD 1 default,4,5,gX Tryz.f165,gC ((gOps Tryz.f165).getD 0 default),20,20,by kernel_rfl,by kernel_rfl,by kernel_rfl,by kernel_rfl,by kernel_rfl,by kernel_rfl,by kernel_rfl,by kernel_rfl,⟨gMs (Tryz.prog.underlying 20),by kernel_rfl⟩,by decide,by decide,by kernel_rfl⟩
theorem az92:GuardFn Tryz.prog 169:=
 bzg (fn:=Tryz.f169) Tryz.func169 (by kernel_rfl) ⟨0,(gOps Tryz.f169).getD 0 default,(gOps Tryz.f169).getD 1 default,1,2,gX Tryz.f169,gC ((gOps Tryz.f169).getD 0 default),20,20,by kernel_rfl,by kernel_rfl,by kernel_rfl,by kernel_rfl,by kernel_rfl,by kernel_rfl,by kernel_rfl,by kernel_rfl,⟨gMs (Tryz.prog.underlying 20),by kernel_rfl⟩,by decide,by decide,by kernel_rfl⟩
theorem az93:GuardFn Tryz.prog 173:=
 bzg (fn:=Tryz.f173) Tryz.func173 (by kernel_rfl) ⟨0,(gOps Tryz.f173).getD 0 default,(gOps Tryz.f173).getD 1 default,2,3,gX Tryz.f173,gC ((gOps Tryz.f173).getD 0 default),20,20,by kernel_rfl,by kernel_rfl,by kernel_rfl,by kernel_rfl,by kernel_rfl,by kernel_rfl,by kernel_rfl,by kernel_rfl,⟨gMs (Tryz.prog.underlying 20),by kernel_rfl⟩,by decide,by decide,by kernel_rfl⟩
theorem az94:GuardFn Tryz.prog 205:=
 bzg (fn:=Tryz.f205) Tryz.func205 (by kernel_rfl) ⟨0,(gOps Tryz.f205).getD 0 default,(gOps Tryz.f205).getD 1 default,1,2,gX Tryz.f205,gC ((gOps Tryz.f205).getD 0 default),20,20,by kernel_rfl,by kernel_rfl,by kernel_rfl,by kernel_rfl,by kernel_rfl,by kernel_rfl,by kernel_rfl,by kernel_rfl,⟨gMs (Tryz.prog.underlying 20),by kernel_rfl⟩,by decide,by decide,by kernel_rfl⟩
theorem az95:GuardFn Tryz.prog 233:=
 bzg (fn:=Tryz.f233) Tryz.func233 (by kernel_rfl) ⟨0,(gOps Tryz.f233).getD 0 default,(gOps Tryz.f233).getD 1 default,2,3,gX Tryz.f233,gC ((gOps Tryz.f233).getD 0 default),20,20,by kernel_rfl,by kernel_rfl,by kernel_rfl,by kernel_rfl,by kernel_rfl,by kernel_rfl,by kernel_rfl,by kernel_rfl,⟨gMs (Tryz.prog.underlying 20),by kernel_rfl⟩,by decide,by decide,by kernel_rfl⟩
theorem az96:GuardFn Tryz.prog 257:=
 bzg (fn:=Tryz.f257) Tryz.func257 (by kernel_rfl) ⟨0,(gOps Tryz.f257).getD 0 default,(gOps Tryz.f257).getD 1 default,2,3,gX Tryz.f257,gC ((gOps Tryz.f257).getD 0 default),20,20,by kernel_rfl,by kernel_rfl,by kernel_rfl,by kernel_rfl,by kernel_rfl,by kernel_rfl,by kernel_rfl,by kernel_rfl,⟨gMs (Tryz.prog.underlying 20),by kernel_rfl⟩,by decide,by decide,by kernel_rfl⟩
theorem az97:GuardFn Tryz.prog 258:=
 bzg (fn:=Tryz.f258) Tryz.func258 (by kernel_rfl) ⟨0,(gOps Tryz.f258).getD 0 default,(gOps Tryz.f258).getD 1 default,1,2,gX Tryz.f258,gC ((gOps Tryz.f258).getD 0 default),20,20,by kernel_rfl,by kernel_rfl,by kernel_rfl,by kernel_rfl,by kernel_rfl,by kernel_rfl,by kernel_rfl,by kernel_rfl,⟨gMs (Tryz.prog.underlying 20),by kernel_rfl⟩,by decide,by decide,by kernel_rfl⟩
theorem az98:GuardFn Tryz.prog 259:=
 bzg (fn:=Tryz.f259) Tryz.func259 (by kernel_rfl) ⟨0,(gOps Tryz.f259).getD 0 default,(gOps Tryz.f259).getD 1 default,2,3,gX Tryz.f259,gC ((gOps Tryz.f259).getD 0 default),20,20,by kernel_rfl,by kernel_rfl,by kernel_rfl,by kernel_rfl,by kernel_rfl,by kernel_rfl,by kernel_rfl,by kernel_rfl,⟨gMs (Tryz.prog.underlying 20),by kernel_rfl⟩,by decide,by decide,by kernel_rfl⟩
theorem az99:GuardFn Tryz.prog 264:=
 bzg (fn:=Tryz.f264) Tryz.func264 (by kernel_rfl) ⟨0,(gOps Tryz.f264).getD 0 default,(gOps Tryz.f264).getD 1 default,3,4,gX Tryz.f264,gC ((gOps Tryz.f264).getD 0 default),20,20,by kernel_rfl,by kernel_rfl,by kernel_rfl,by kernel_rfl,by kernel_rfl,by kernel_rfl,by kernel_rfl,by kernel_rfl,⟨gMs (Tryz.prog.underlying 20),by kernel_rfl⟩,by decide,by decide,by kernel_rfl⟩
theorem az9a:GuardFn Tryz.prog 267:=
 bzg (fn:=Tryz.f267) Tryz.func267 (by kernel_rfl) ⟨0,(gOps Tryz.f267).getD 0 default,(gOps Tryz.f267).getD 1 default,2,3,gX Tryz.f267,gC ((gOps Tryz.f267).getD 0 default),20,20,by kernel_rfl,by kernel_rfl,by kernel_rfl,by kernel_rfl,by kernel_rfl,by kernel_rfl,by kernel_rfl,by kernel_rfl,⟨gMs (Tryz.prog.underlying 20),by kernel_rfl⟩,by decide,by decide,by kernel_rfl⟩
theorem az9b:GuardFn Tryz.prog 276:=
 bzg (fn:=Tryz.f276) Tryz.func276 (by kernel_rfl) ⟨0,(gOps Tryz.f276).getD 0 default,(gOps Tryz.f276).getD 1 default,3,4,gX Tryz.f276,gC ((gOps Tryz.f276).getD 0 default),20,20,by kernel_rfl,by kernel_rfl,by kernel_rfl,by kernel_rfl,by kernel_rfl,by kernel_rfl,by kernel_rfl,by kernel_rfl,⟨gMs (Tryz.prog.underlying 20),by kernel_rfl⟩,by decide,by decide,by kernel_rfl⟩
theorem az9c:GuardFn Tryz.prog 309:=
 bzg (fn:=Tryz.f309) Tryz.func309 (by kernel_rfl) ⟨0,(gOps Tryz.f309).getD 0 default,(gOps Tryz.f309).getD 1 default,2,3,gX Tryz.f309,gC ((gOps Tryz.f309).getD 0 default),20,20,by kernel_rfl,by kernel_rfl,by kernel_rfl,by kernel_rfl,by kernel_rfl,by kernel_rfl,by kernel_rfl,by kernel_rfl,⟨gMs (Tryz.prog.underlying 20),by kernel_rfl⟩,by decide,by decide,by kernel_rfl⟩
theorem az9d:GuardFn Tryz.prog 317:=
 bzg (fn:=Tryz.f317) Tryz.func317 (by kernel_rfl) ⟨0,(gOps Tryz.f317).getD 0 default,(gOps Tryz.f317).getD 1 default,1,2,gX Tryz.f317,gC ((gOps Tryz.f317).getD 0 default),20,20,by kernel_rfl,by kernel_rfl,by kernel_rfl,by kernel_rfl,by kernel_rfl,by kernel_rfl,by kernel_rfl,by kernel_rfl,⟨gMs (Tryz.prog.underlying 20),by kernel_rfl⟩,by decide,by decide,by kernel_rfl⟩
theorem az9e:GuardFn Tryz.prog 331:=
 bzg (fn:=Tryz.f331) Tryz.func331 (by kernel_rfl) ⟨0,(gOps Tryz.f331).getD 0 default,(gOps Tryz.f331).getD 1 default,2,3,gX Tryz.f331,gC ((gOps Tryz.f331).getD 0 default),20,20,by kernel_rfl,by kernel_rfl,by kernel_rfl,by kernel_rfl,by kernel_rfl,by kernel_rfl,by kernel_rfl,by kernel_rfl,⟨gMs (Tryz.prog.underlying 20),by kernel_rfl⟩,by decide,by decide,by kernel_rfl⟩
theorem az9f:GuardFn Tryz.prog 332:=
 bzg (fn:=Tryz.f332) Tryz.func332 (by kernel_rfl) ⟨0,(gOps Tryz.f332).getD 0 default,(gOps Tryz.f332).getD 1 default,2,3,gX Tryz.f332,gC ((gOps Tryz.f332).getD 0 default),20,20,by kernel_rfl,by kernel_rfl,by kernel_rfl,by kernel_rfl,by kernel_rfl,by kernel_rfl,by kernel_rfl,by kernel_rfl,⟨gMs (Tryz.prog.underlying 20),by kernel_rfl⟩,by decide,by decide,by kernel_rfl⟩
theorem az2p:GuardFn Tryz.prog 349:=
 bzg (fn:=Tryz.f349) Tryz.func349 (by kernel_rfl) ⟨0,(gOps Tryz.f349).getD 0 default,(gOps Tryz.f349).getD 1 default,2,3,gX Tryz.f349,gC ((gOps Tryz.f349).getD 0 default),20,20,by kernel_rfl,by kernel_rfl,by kernel_rfl,by kernel_rfl,by kernel_rfl,by kernel_rfl,by kernel_rfl,by kernel_rfl,⟨gMs (Tryz.prog.underlying 20),by kernel_rfl⟩,by decide,by decide,by kernel_rfl⟩
theorem az9g:GuardFn Tryz.prog 359:=
 bzg (fn:=Tryz.f359) Tryz.func359 (by kernel_rfl) ⟨0,(gOps Tryz.f359).getD 0 default,(gOps Tryz.f359).getD 1 default,1,2,gX Tryz.f359,gC ((gOps Tryz.f359).getD 0 default),20,20,by kernel_rfl,by kernel_rfl,by kernel_rfl,by kernel_rfl,by kernel_rfl,by kernel_rfl,by kernel_rfl,by kernel_rfl,⟨gMs (Tryz.prog.underlying 20),by kernel_rfl⟩,by decide,by decide,by kernel_rfl⟩
theorem az9h:GuardFn Tryz.prog 362:=
 bzg (fn:=Tryz.f362) Tryz.func362 (by kernel_rfl) ⟨0,(gOps Tryz.f362).getD 0 default,(gOps Tryz.f362).getD 1 default,1,2,gX Tryz.f362,gC ((gOps Tryz.f362).getD 0 default),20,20,by kernel_rfl,by kernel_rfl,by kernel_rfl,by kernel_rfl,by kernel_rfl,by kernel_rfl,by kernel_rfl,by kernel_rfl,⟨gMs (Tryz.prog.underlying 20),by kernel_rfl⟩,by decide,by decide,by kernel_rfl⟩
theorem az9i:GuardFn Tryz.prog 368:=
 bzg (fn:=Tryz.f368) Tryz.func368 (by kernel_rfl) ⟨0,(gOps Tryz.f368).getD 0 default,(gOps Tryz.f368).getD 1 default,1,2,gX Tryz.f368,gC ((gOps Tryz.f368).getD 0 default),20,20,by kernel_rfl,by kernel_rfl,by kernel_rfl,by kernel_rfl,by kernel_rfl,by kernel_rfl,by kernel_rfl,by kernel_rfl,⟨gMs (Tryz.prog.underlying 20),by kernel_rfl⟩,by decide,by decide,by kernel_rfl⟩
theorem az9j:GuardFn Tryz.prog 384:=
 bzg (fn:=Tryz.f384) Tryz.func384 (by kernel_rfl) ⟨0,(gOps Tryz.f384).getD 0 default,(gOps Tryz.f384).getD 1 default,1,2,gX Tryz.f384,gC ((gOps Tryz.f384).getD 0 default),20,20,by kernel_rfl,by kernel_rfl,by kernel_rfl,by kernel_rfl,by kernel_rfl,by kernel_rfl,by kernel_rfl,by kernel_rfl,⟨gMs (Tryz.prog.underlying 20),by kernel_rfl⟩,by decide,by decide,by kernel_rfl⟩
theorem az9k:GuardFn Tryz.prog 385:=
 bzg (fn:=Tryz.f385) Tryz.func385 (by kernel_rfl) ⟨0,(gOps Tryz.f385).getD 0 default,(gOps Tryz.f385).getD 1 default,1,2,gX Tryz.f385,gC ((gOps Tryz.f385).getD 0 default),20,20,by kernel_rfl,by kernel_rfl,by kernel_rfl,by kernel_rfl,by kernel_rfl,by kernel_rfl,by kernel_rfl,by kernel_rfl,⟨gMs (Tryz.prog.underlying 20),by kernel_rfl⟩,by decide,by decide,by kernel_rfl⟩
theorem az9l:GuardFn Tryz.prog 424:=
 bzg (fn:=Tryz.f424) Tryz.func424 (by kernel_rfl) ⟨0,(gOps Tryz.f424).getD 0 default,(gOps Tryz.f424).getD 1 default,2,3,gX Tryz.f424,gC ((gOps Tryz.f424).getD 0 default),20,20,by kernel_rfl,by kernel_rfl,by kernel_rfl,by kernel_rfl,by kernel_rfl,by kernel_rfl,by kernel_rfl,by kernel_rfl,⟨gMs (Tryz.prog.underlying 20),by kernel_rfl⟩,by decide,by decide,by kernel_rfl⟩
theorem az9m:GuardFn Tryz.prog 461:=
 bzg (fn:=Tryz.f461) Tryz.func461 (by kernel_rfl) ⟨0,(gOps Tryz.f461).getD 0 default,(gOps Tryz.f461).getD 1 default,1,2,gX Tryz.f461,gC ((gOps Tryz.f461).getD 0 default),20,20,by kernel_rfl,by kernel_rfl,by kernel_rfl,by kernel_rfl,by kernel_rfl,by kernel_rfl,by kernel_rfl,by kernel_rfl,⟨gMs (Tryz.prog.underlying 20),by kernel_rfl⟩,by decide,by decide,by kernel_rfl⟩
theorem az9n:GuardFn Tryz.prog 477:=
 bzg (fn:=Tryz.f477) Tryz.func477 (by kernel_rfl) ⟨0,(gOps Tryz.f477).getD 0 default,(gOps Tryz.f477).getD 1 default,2,3,gX Tryz.f477,gC ((gOps Tryz.f477).getD 0 default),20,20,by kernel_rfl,by kernel_rfl,by kernel_rfl,by kernel_rfl,by kernel_rfl,by kernel_rfl,by kernel_rfl,by kernel_rfl,⟨gMs (Tryz.prog.underlying 20),by kernel_rfl⟩,by decide,by decide,by kernel_rfl⟩
theorem az9o:GuardFn Tryz.prog 485:=
 bzg (fn:=Tryz.f485) Tryz.func485 (by kernel_rfl) ⟨0,(gOps Tryz.f485).getD 0 default,(gOps Tryz.f485).getD 1 default,1,2,gX Tryz.f485,gC ((gOps Tryz.f485).getD 0 default),20,20,by kernel_rfl,by kernel_rfl,by kernel_rfl,by kernel_rfl,by kernel_rfl,by kernel_rfl,by kernel_rfl,by kernel_rfl,⟨gMs (Tryz.prog.underlying 20),by kernel_rfl⟩,by decide,by decide,by kernel_rfl⟩
theorem az9p:GuardFn Tryz.prog 500:=
 bzg (fn:=Tryz.f500) Tryz.func500 (by kernel_rfl) ⟨0,(gOps Tryz.f500).getD 0 default,(gOps Tryz.f500).getD 1 default,1,2,gX Tryz.f500,gC ((gOps Tryz.f500).getD 0 default),20,20,by kernel_rfl,by kernel_rfl,by kernel_rfl,by kernel_rfl,by kernel_rfl,by kernel_rfl,by kernel_rfl,by kernel_rfl,⟨gMs (Tryz.prog.underlying 20),by kernel_rfl⟩,by decide,by decide,by kernel_rfl⟩
noncomputable def mzs (k:azc):T Bool:=
 .br (decide ((k.Robot.Joints.length:Int)≤4))
 (.br (decide ((k.Robot.Masses.length:Int)≤6))
 (.br (decide ((k.Shapes.length:Int)≤6))
 (.ret (decide ((k.Skips.length:Int)≤8)))
 (.ret false))
 (.ret false))
 (.ret false)
noncomputable def vzu:=
 mkp1 Tryz.func10 mzs
noncomputable def xzh (k:az1):T Bool:=
 .cc (vzu k.Scene) fun aa=>
 .br aa
 (.br (decide ((k.Objects.length:Int)≤8))
 (.br (decide ((k.Places.length:Int)≤12))
 (.br (decide ((k.Hands.length:Int)≤6))
 (.ret (decide ((k.Grips.length:Int)≤40)))
 (.ret false))
 (.ret false))
 (.ret false))
 (.ret false)
noncomputable def xzg:=
 mkp1 Tryz.func18 xzh
noncomputable def xzm (k:Int):T ByteArray:=let aa:=i64.wrap (k+1);.grd (0≤k/\k≤aa/\aa≤(((⟨#[97,98,99,100,101,102,103,104,105,106]⟩:ByteArray).size:Nat):Int))<|
 .ret ((⟨#[97,98,99,100,101,102,103,104,105,106]⟩:ByteArray).extract k.toNat aa.toNat)
noncomputable def xzl:=
 mkp1 Tryz.func48 xzm
noncomputable def Gzr (k:Int)(aa:Int):T azn:=
 .loop (fun s (ab:(A0×Int))=>pk s [0,1,4,5] [0,1,2,64,66] [(6,pz ab.2)] [(65,vO ab.1 126)])
 (.exit 0) (fun s (ab:A0)=>pk s [4,5] [0,1,2,64,66] [] [(65,vO ab 126)])
 (fun ab=>.br (decide (ab.2<k))
 (.cc (xzl ab.2) fun ac=>let ad:=([(⟨ac,(i64.wrap (4+(ab.2.tmod 2))),(i64.wrap (ab.2-1)),(0,0,0),0,aa,1,65536,65536,65536⟩:azk)]:A0);let ae:=ab.1.length+ad.length;
 .ok ((2:Int)≠0) (by decide)<|
 .conv 5011 (kL ad 126)<|
 .conv 5012 (kA ab.1 ad 126)<|
 .grd (ae * 104≤140737488355328/\ae≤maxLen)<|
 .nn ((ab.1++ad),(i64.wrap (ab.2+1))))
 (.oo ab.1))
 (nl,0) [] fun ab=>
 .ret (⟨ab,nl⟩:azn)
noncomputable def xzk:=
 mkp2 Tryz.func44 Gzr
noncomputable def az10:T az1:=
 .cc (xzk 2 64) fun k=>
 .conv 3002 (kL ([(16,0,0),(32,0,0)]:Bk) 100)<|
 .conv 4001 (kL ([(⟨1,(0,0,0)⟩:dz9)]:A1) 104)<|
 .conv 5001 (kL ([(0,0,0)]:Bk) 100)<|
 .conv 5003 (kL ([(⟨0,1,([(0,0,0)]:Bk)⟩:aza)]:A2) 102)<|
 .conv 5005 (kL ([(⟨(⟨#[111]⟩:ByteArray),([(⟨0,1,([(0,0,0)]:Bk)⟩:aza)]:A2)⟩:azq)]:A3) 98)<|
 .conv 6000 (kL ([16,0]:A4) 2)<|
 .conv 6002 (kL ([32,0]:A4) 2)<|
 .conv 6004 (kL ([(⟨0,0,([16,0]:A4)⟩:bzy),(⟨0,1,([32,0]:A4)⟩:bzy)]:A7) 129)<|
 .ret (⟨(⟨k,nl,nl⟩:azc),([(⟨(⟨#[111]⟩:ByteArray),([(⟨0,1,([(0,0,0)]:Bk)⟩:aza)]:A2)⟩:azq)]:A3),([(16,0,0),(32,0,0)]:Bk),([(⟨1,(0,0,0)⟩:dz9)]:A1),([(⟨0,0,([16,0]:A4)⟩:bzy),(⟨0,1,([32,0]:A4)⟩:bzy)]:A7),0⟩:az1)
noncomputable def law39_one_C:CallS az1:=
 mkD Tryz.func38 (az10) 0 [] [] (fun r=>q r) (fun _=>[])
noncomputable def Azx (k:Int)(aa:Int):T Int:=let ab:=k.tmod aa;.grd (aa≠0)<|
 .cut 0 (fun s (ac:Int)=>pk s [] [] [(5,pz ac)] [])
 (.br (decide (ab<0))
 (.oo (i64.wrap (ab+aa)))
 (.oo ab)) fun ac=>
 .ret ac
noncomputable def iz6:=
 mkp2 Tryz.func15 Azx
noncomputable def Rzu (k:Int)(aa:Int):T hze:=
 .cc (iz6 k 4) fun ab=>
 .cc (iz6 aa 20) fun ac=>
 .ret (⟨ab,3,4,ac⟩:hze)
noncomputable def nzo:=
 mkp2 Tryz.func14 Rzu
noncomputable def pzv (k:Int):T Bool:=
 .br (decide (97≤k))
 (.ret (decide (k≤122)))
 (.ret false)
noncomputable def zzl (k):=
 mkD Tryz.func229 (pzv k) 0 [.pure (.int .i32 k)] [] (fun r=>q r) (fun _=>[])
noncomputable def szn (k:Int):T Bool:=
 .br (decide (48≤k))
 (.ret (decide (k≤57)))
 (.ret false)
noncomputable def Czl (k):=
 mkD Tryz.func230 (szn k) 0 [.pure (.int .i32 k)] [] (fun r=>q r) (fun _=>[])
noncomputable def Czk (k:ByteArray):T Bool:=let aa:=(k.size:Nat);.cub 2 16 [0] []
 (.br ((aa:Int)==0)
 (.oo true)
 (.br (decide ((aa:Int)>16))
 (.oo true)
 (.oo (k==(⟨#[119,111,114,108,100]⟩:ByteArray))))) fun ab=>
 .br ab
 (.ret false)
 (.loop (fun s (ac:Nat)=>pk s [18] [] [] [(192,.iter k ac)])
 (.exit 0) (jk [] [])
 (fun ac=>let ad:=Utf8.decode k ac;let ae:=(ad.1:Int);.brP (ac<k.size)
 (.cub 2 38 [18] [192]
 (.cc (zzl ae) fun af=>
 .br (!af)
 (.br ((ac:Int)==0)
 (.oo true)
 (.cc (Czl ae) fun ag=>
 .br (!ag)
 (.oo (ae !=95))
 (.oo false)))
 (.oo false)) fun af=>
 .br af
 (.ff false)
 (.nn (ac+ad.2)))
 (.oo .u))
 0 [] fun _=>
 .ret true)
noncomputable def Czj:=
 mkp1 Tryz.func139 Czk
noncomputable def Cz5 (k:azn)(aa:ByteArray):T Int:=
 .loop (ik 9 [1,2,8] [0])
 (.exit 0) (jk [] [])
 (fun ab=>.br (decide (ab<(k.Joints.length:Int)))
 (.gh ab k.Joints.length<|
 .br (((k.Joints.getD (ab.toNat) default).Name)==aa)
 (.ff ab)
 (.nn (i64.wrap (ab+1))))
 (.oo .u))
 0 [] fun _=>
 .ret (-1)
noncomputable def Lzs:=
 mkp2 Tryz.func323 Cz5
noncomputable def vz8 (k:Bj):T Bool:=
 .loop (ik 6 [5] [])
 (.exit 0) (jk [] [])
 (fun aa=>let ab:=([k.1,k.2.1,k.2.2]:List Int).getD aa.toNat 0;.br (decide (aa<3))
 (.gh aa 3<|
 .cub 0 14 [5,6] []
 (.br (decide (ab<(-4194304)))
 (.oo true)
 (.oo (decide (ab>4194304)))) fun ac=>
 .br ac
 (.ff true)
 (.nn (i64.wrap (aa+1))))
 (.oo .u))
 0 [] fun _=>
 .ret false
noncomputable def vz7:=
 mkp1 Tryz.func324 vz8
noncomputable def yzm (k:Int):T Int:=
 .cub 3 4 [3] []
 (.br (k==1)
 (.oo (k==1))
 (.br (k==2)
 (.oo (k==2))
 (.oo (k==3)))) fun aa=>
 .br aa
 (.ret 524288)
 (.cub 0 8 [] []
 (.br (k==4)
 (.oo (k==4))
 (.br (k==5)
 (.oo (k==5))
 (.oo (k==6)))) fun ab=>
 .br ab
 (.ret 4194304)
 (.ret 0))
noncomputable def Iz5:=
 mkp1 Tryz.func325 yzm
noncomputable def yzl (k:Int)(aa:Int):T Bool:=
 .br (decide (1≤k))
 (.ret (decide (k≤aa)))
 (.ret false)
noncomputable def izs:=
 mkp2 Tryz.func326 yzl
noncomputable def lzy (k:azn)(aa:Int):T Int:=let ab:=k.Joints.getD (aa.toNat) default;let ac:=ab.Kind;.gh aa k.Joints.length<|
 .cub 1 12 [1,5] [448]
 (.cc (Czj (ab.Name)) fun ad=>
 .br (!ad)
 (.oo true)
 (.cc (Lzs (⟨k.Joints,k.Masses⟩:azn) (ab.Name)) fun ae=>
 .oo (ae !=aa))) fun ad=>
 .br ad
 (.ret 802)
 (.cub 0 25 [1,5] [448]
 (.br (decide (ac<0))
 (.oo true)
 (.oo (decide (ac>6)))) fun ae=>
 .br ae
 (.ret 803)
 (.cub 0 34 [5] [448]
 (.br (decide ((ab.Parent)<(-1)))
 (.oo true)
 (.oo (decide ((ab.Parent)≥aa)))) fun af=>
 .br af
 (.ret 804)
 (.cc (vz7 (ab.Offset)) fun ag=>
 .br ag
 (.ret 805)
 (.cc (Iz5 ac) fun ah=>
 .cub 1 68 [5] [448]
 (.br (decide ((ab.Lo)>(ab.Hi)))
 (.oo true)
 (.br (decide ((ab.Lo)<(i64.wrap (0-ah))))
 (.oo true)
 (.oo (decide ((ab.Hi)>ah))))) fun ai=>
 .br ai
 (.ret 806)
 (.cub 1 90 [] []
 (.cc (izs (ab.Weight) 1024) fun aj=>
 .br (!aj)
 (.oo true)
 (.cc (izs (ab.Speed) 1048576) fun ak=>
 .br (!ak)
 (.oo true)
 (.cc (izs (ab.Accel) 1048576) fun al=>
 .br (!al)
 (.oo true)
 (.cc (izs (ab.Torque) 1099511627776) fun am=>
 .oo (!am))))) fun aj=>
 .br aj
 (.ret 807)
 (.ret 0))))))
noncomputable def tzq:=
 mkp2 Tryz.func218 lzy
noncomputable def nz8 (k:azn)(aa:bz5):T Bool:=
 .br (decide (0≤aa.Link))
 (.br (decide (aa.Link<(k.Joints.length:Int)))
 (.cc (izs aa.Mass 65536) fun ab=>
 .br ab
 (.cc (vz7 aa.Point) fun ac=>
 .ret (!ac))
 (.ret false))
 (.ret false))
 (.ret false)
noncomputable def wz2:=
 mkp2 Tryz.func221 nz8
noncomputable def sz1 (k:bz5)(aa:A0)(ab:A8):T (Bool×A0×A8):=
 .cc (wz2 (⟨aa,ab⟩:azn) (⟨k.Link,k.Mass,k.Point⟩:bz5)) fun ac=>
 .ret ((!ac),aa,ab)
noncomputable def Cz4 (k)(aa)(ab):=
 mkD Tryz.func220 (sz1 k aa ab) 1 [q k,.ptr 0 0] [(0,.box [q aa,q ab])] (fun r=>q r.1) (fun r=>[(0,.box [q r.2.1,q r.2.2])])
noncomputable def czy (k:A8)(aa:A0)(ab:A8):T (Int×A0×A8):=
 .loop (fun s (ac:(A0×A8×Int))=>pk s [0,1,7] [] [(8,pz ac.2.2)] [(0,.box [q ac.1,q ac.2.1])])
 (.exit 0) (fun s (ac:(A0×A8))=>pk s [] [] [] [(0,.box [q ac.1,q ac.2])])
 (fun ac=>.br (decide (ac.2.2<(k.length:Int)))
 (.gh ac.2.2 k.length<|
 .call (Cz4 (k.getD ((ac.2.2).toNat) default) ac.1 ac.2.1) [(0,0)] fun ad=>
 .br ad.1
 (.ff (ac.2.2,ad.2.1,ad.2.2))
 (.nn (ad.2.1,ad.2.2,(i64.wrap (ac.2.2+1)))))
 (.oo (ac.1,ac.2.1)))
 (aa,ab,0) [] fun ac=>
 .ret ((-1),ac.1,ac.2)
noncomputable def ezv (k)(aa)(ab):=
 mkD Tryz.func327 (czy k aa ab) 1 [q k,.func 220 [] [.ptr 0 0]] [(0,.box [q aa,q ab])] (fun r=>pz r.1) (fun r=>[(0,.box [q r.2.1,q r.2.2])])
noncomputable def czj (k:A8)(aa:A0)(ab:A8):T (Bool×A0×A8):=
 .call (ezv k aa ab) [(0,0)] fun ac=>
 .ret ((decide (ac.1≥0)),ac.2.1,ac.2.2)
noncomputable def ez7 (k)(aa)(ab):=
 mkD Tryz.func219 (czj k aa ab) 1 [q k,.func 220 [] [.ptr 0 0]] [(0,.box [q aa,q ab])] (fun r=>q r.1) (fun r=>[(0,.box [q r.2.1,q r.2.2])])
noncomputable def yzj (k:azn):T Int:=let aa:=(k.Joints.length:Int);.cub 2 14 [1] [0]
 (.br (aa==0)
 (.oo true)
 (.oo (decide (aa>10)))) fun ab=>
 .br ab
 (.ret 801)
 (.loop (ik 18 [1,17] [0])
 (.exit 0) (jk [1] [0])
 (fun ac=>.br (decide (ac<aa))
 (.cc (tzq (⟨k.Joints,k.Masses⟩:azn) ac) fun ad=>
 .br (ad !=0)
 (.ff ad)
 (.nn (i64.wrap (ac+1))))
 (.oo .u))
 0 [] fun _=>
 .cub 1 37 [] []
 (.br (decide ((k.Masses.length:Int)>32))
 (.oo true)
 (.call (ez7 k.Masses k.Joints k.Masses) [(0,0)] fun ac=>
 .oo ac.1)) fun ac=>
 .br ac
 (.ret 808)
 (.ret 0))
noncomputable def ezp:=
 mkp1 Tryz.func122 yzj
noncomputable def vz9 (k:azc)(aa:Int):T Bool:=
 .br (decide ((-1)≤aa))
 (.ret (decide (aa<(k.Robot.Joints.length:Int))))
 (.ret false)
noncomputable def nzy:=
 mkp2 Tryz.func157 vz9
noncomputable def mz0 (k:azc)(aa:aza):T Int:=let ab:=(aa.Points.length:Int);.cub 3 35 [3] [64]
 (.cc (nzy k aa.Link) fun ac=>
 .br (!ac)
 (.oo true)
 (.br (decide (aa.Radius<1))
 (.oo true)
 (.br (decide (aa.Radius>1048576))
 (.oo true)
 (.br (decide (ab<1))
 (.oo true)
 (.oo (decide (ab>8))))))) fun ac=>
 .br ac
 (.ret 902)
 (.loop (ik 39 [37,38] [])
 (.exit 0) (jk [] [])
 (fun ad=>let ae:=aa.Points.getD (ad.toNat) default;.br (decide (ad<ab))
 (.gh ad aa.Points.length<|
 .loop (ik 44 [37,38,39,43] [])
 (.exit 2) (jk [37,38,39] [])
 (fun af=>.br (decide (af<3))
 (.gh af 3<|
 .name 9000 ((([ae.1,ae.2.1,ae.2.2]:List Int).getD af.toNat 0)) fun ag=>
 .cub 0 52 [37,38,39,43,44] []
 (.br (decide (ag<(-4194304)))
 (.oo true)
 (.oo (decide (ag>4194304)))) fun ah=>
 .br ah
 (.ff (.fin 805))
 (.nn (i64.wrap (af+1))))
 (.oo .u))
 0 [] fun _=>
 .nn (i64.wrap (ad+1)))
 (.oo .u))
 0 [] fun _=>
 .ret 0)
noncomputable def tzr:=
 mkp2 Tryz.func156 mz0
noncomputable def yzn (k:azc):T Int:=let aa:=(k.Skips.length:Nat);let ab:=(k.Shapes.length:Nat);.cc (ezp k.Robot) fun ac=>
 .br (ac !=0)
 (.ret ac)
 (.br (decide ((ab:Int)>24))
 (.ret 901)
 (.loop (ik 22 [1,20,21] [0])
 (.exit 0) (jk [1] [0])
 (fun ad=>.br (decide (ad<(ab:Int)))
 (.gh ad k.Shapes.length<|
 .cc (tzr k (k.Shapes.getD (ad.toNat) default)) fun ae=>
 .br (ae !=0)
 (.ff ae)
 (.nn (i64.wrap (ad+1))))
 (.oo .u))
 0 [] fun _=>
 .br (decide ((aa:Int)>64))
 (.ret 903)
 (.loop (ik 40 [1,38,39] [0])
 (.exit 2) (jk [] [])
 (fun ad=>let ae:=k.Skips.getD (ad.toNat) default;.br (decide (ad<(aa:Int)))
 (.gh ad k.Skips.length<|
 .cub 0 55 [1,38,39,40] [0]
 (.cc (nzy k (ae.A)) fun af=>
 .br (!af)
 (.oo true)
 (.cc (nzy k (ae.B)) fun ag=>
 .oo (!ag))) fun af=>
 .br af
 (.ff 903)
 (.nn (i64.wrap (ad+1))))
 (.oo .u))
 0 [] fun _=>
 .ret 0)))
noncomputable def ez1:=
 mkp1 Tryz.func89 yzn
noncomputable def Azp (k:Bj):T Bool:=
 .unroll 4<|
 .known true<|
 .ix 0 3 rfl<|
 .ix 0 3 rfl<|
 .lit 6000 (1)<|
 .known true<|
 .ix 1 3 rfl<|
 .ix 1 3 rfl<|
 .lit 6000 (2)<|
 .known true<|
 .ix 2 3 rfl<|
 .ix 2 3 rfl<|
 .lit 6000 (3)<|
 .known false<|
 .ret (((min (max k.1 (-2097152)) 2097152)==k.1)&&(((min (max k.2.1 (-2097152)) 2097152)==k.2.1)&&(((min (max k.2.2 (-2097152)) 2097152)==k.2.2)&&true)))
noncomputable def tz5:=
 mkp1 Tryz.func228 Azp
noncomputable def xz7 (k:az1)(aa:Int)(ab:Int):T Bool:=
 .br (decide (0≤aa))
 (.br (decide (aa<(k.Hands.length:Int)))
 (.br (decide (0≤ab))
 (.ret (decide (ab<(k.Places.length:Int))))
 (.ret false))
 (.ret false))
 (.ret false)
noncomputable def xz6:=
 mkp3 Tryz.func108 xz7
noncomputable def mzp (k:azk)(aa:Int):T Bool:=
 .br (decide (k.Lo≤aa))
 (.ret (decide (aa≤k.Hi)))
 (.ret false)
noncomputable def vzo:=
 mkp2 Tryz.func124 mzp
noncomputable def ez4 (k:A0)(aa:A4):T Bool:=let ab:=(k.length:Nat);.br ((ab:Int) !=(aa.length:Int))
 (.ret false)
 (.loop (ik 16 [1,2,14,15] [])
 (.exit 0) (jk [] [])
 (fun ac=>.br (decide (ac<(ab:Int)))
 (.gh ac k.length<|
 .gh ac aa.length<|
 .cc (vzo (k.getD (ac.toNat) default) (aa.getD (ac.toNat) default)) fun ad=>
 .br (!ad)
 (.ff false)
 (.nn (i64.wrap (ac+1))))
 (.oo .u))
 0 [] fun _=>
 .ret true)
noncomputable def gze (k)(aa):=
 mkD Tryz.func123 (ez4 k aa) 0 [q k,q aa,.func 124 [] []] [] (fun r=>q r) (fun _=>[])
noncomputable def rz7 (k:azn)(aa:A4):T Bool:=
 .cc (ezp k) fun ab=>
 .br (ab==0)
 (.cc (gze k.Joints aa) fun ac=>
 .ret ac)
 (.ret false)
noncomputable def bzk:=
 mkp2 Tryz.func64 rz7
noncomputable def rzf (k:az1):T Bool:=let aa:=(k.Hands.length:Nat);let ab:=(k.Grips.length:Nat);let ac:=(k.Places.length:Nat);.cub 2 30 [1] [0]
 (.br (decide ((k.Objects.length:Int)>6))
 (.oo true)
 (.br (decide ((ac:Int)>8))
 (.oo true)
 (.br (decide ((aa:Int)>3))
 (.oo true)
 (.oo (decide ((ab:Int)>32)))))) fun ad=>
 .br ad
 (.ret false)
 (.cub 1 38 [1] [0]
 (.br (decide (k.Slack<0))
 (.oo true)
 (.oo (decide (k.Slack>65536)))) fun ae=>
 .br ae
 (.ret false)
 (.loop (ik 42 [1,40,41] [0])
 (.exit 0) (jk [1] [0])
 (fun af=>.br (decide (af<(ac:Int)))
 (.gh af k.Places.length<|
 .cc (tz5 (k.Places.getD (af.toNat) default)) fun ag=>
 .br (!ag)
 (.ff false)
 (.nn (i64.wrap (af+1))))
 (.oo .u))
 0 [] fun _=>
 .loop (ik 53 [1,51,52] [0])
 (.exit 2) (jk [1] [0])
 (fun af=>let ag:=k.Hands.getD (af.toNat) default;.br (decide (af<(aa:Int)))
 (.gh af k.Hands.length<|
 .cub 0 75 [1,51,52,53] [0]
 (.br (decide ((ag.Link)<0))
 (.oo true)
 (.br (decide ((ag.Link)≥(k.Scene.Robot.Joints.length:Int)))
 (.oo true)
 (.cc (tz5 (ag.Offset)) fun ah=>
 .oo (!ah)))) fun ah=>
 .br ah
 (.ff false)
 (.nn (i64.wrap (af+1))))
 (.oo .u))
 0 [] fun _=>
 .loop (ik 80 [1,78,79] [0])
 (.exit 4) (jk [] [])
 (fun af=>let ag:=k.Grips.getD (af.toNat) default;.br (decide (af<(ab:Int)))
 (.gh af k.Grips.length<|
 .cub 0 99 [1,78,79,80] [0]
 (.cc (xz6 (⟨k.Scene,k.Objects,k.Places,k.Hands,k.Grips,k.Slack⟩:az1) (ag.Hand) (ag.Place)) fun ah=>
 .br (!ah)
 (.oo true)
 (.cc (bzk k.Scene.Robot (ag.At)) fun ai=>
 .oo (!ai))) fun ah=>
 .br ah
 (.ff false)
 (.nn (i64.wrap (af+1))))
 (.oo .u))
 0 [] fun _=>
 .ret true))
noncomputable def rze:=
 mkp1 Tryz.func137 rzf
noncomputable def Ozp (k:azq)(aa:ByteArray)(ab:A2):T C5:=
 .ret ((k.Name==aa),aa,ab)
noncomputable def Azo (k)(aa)(ab):=
 mkD Tryz.func138 (Ozp k aa ab) 1 [q k,.ptr 0 0] [(0,.box [q aa,q ab])] (fun r=>q r.1) (fun r=>[(0,.box [q r.2.1,q r.2.2])])
noncomputable def czb (k:A3)(aa:ByteArray)(ab:A2):T (Int×ByteArray×A2):=
 .loop (fun s (ac:(ByteArray×A2×Int))=>pk s [0,1,7] [] [(8,pz ac.2.2)] [(0,.box [q ac.1,q ac.2.1])])
 (.exit 0) (fun s (ac:(ByteArray×A2))=>pk s [] [] [] [(0,.box [q ac.1,q ac.2])])
 (fun ac=>.br (decide (ac.2.2<(k.length:Int)))
 (.gh ac.2.2 k.length<|
 .call (Azo (k.getD ((ac.2.2).toNat) default) ac.1 ac.2.1) [(0,0)] fun ad=>
 .br ad.1
 (.ff (ac.2.2,ad.2.1,ad.2.2))
 (.nn (ad.2.1,ad.2.2,(i64.wrap (ac.2.2+1)))))
 (.oo (ac.1,ac.2.1)))
 (aa,ab,0) [] fun ac=>
 .ret ((-1),ac.1,ac.2)
noncomputable def dzx (k)(aa)(ab):=
 mkD Tryz.func231 (czb k aa ab) 1 [q k,.func 138 [] [.ptr 0 0]] [(0,.box [q aa,q ab])] (fun r=>pz r.1) (fun r=>[(0,.box [q r.2.1,q r.2.2])])
noncomputable def cz4 (k:A3)(aa:ByteArray)(ab:A2):T C5:=
 .call (dzx k aa ab) [(0,0)] fun ac=>
 .ret ((decide (ac.1≥0)),ac.2.1,ac.2.2)
noncomputable def dzk (k)(aa)(ab):=
 mkD Tryz.func140 (cz4 k aa ab) 1 [q k,.func 138 [] [.ptr 0 0]] [(0,.box [q aa,q ab])] (fun r=>q r.1) (fun r=>[(0,.box [q r.2.1,q r.2.2])])
noncomputable def yzq (k:aza):T Bool:=let aa:=(k.Points.length:Int);.cub 2 26 [1] [0]
 (.br (decide (k.Radius<1))
 (.oo true)
 (.br (decide (k.Radius>1048576))
 (.oo true)
 (.br (decide (aa<1))
 (.oo true)
 (.oo (decide (aa>8)))))) fun ab=>
 .br ab
 (.ret false)
 (.loop (ik 30 [28,29] [])
 (.exit 0) (jk [] [])
 (fun ac=>let ad:=k.Points.getD (ac.toNat) default;.br (decide (ac<aa))
 (.gh ac k.Points.length<|
 .loop (ik 35 [28,29,30,34] [])
 (.exit 2) (jk [28,29,30] [])
 (fun ae=>.br (decide (ae<3))
 (.gh ae 3<|
 .name 8000 ((([ad.1,ad.2.1,ad.2.2]:List Int).getD ae.toNat 0)) fun af=>
 .cub 0 43 [28,29,30,34,35] []
 (.br (decide (af<(-4194304)))
 (.oo true)
 (.oo (decide (af>4194304)))) fun ag=>
 .br ag
 (.ff (.fin false))
 (.nn (i64.wrap (ae+1))))
 (.oo .u))
 0 [] fun _=>
 .nn (i64.wrap (ac+1)))
 (.oo .u))
 0 [] fun _=>
 .ret true)
noncomputable def yzp:=
 mkp1 Tryz.func232 yzq
noncomputable def xz9 (k:azq):T Bool:=let aa:=(k.Shapes.length:Nat);.loop (ik 10 [1,8,9] [0])
 (.exit 0) (jk [1] [0])
 (fun ab=>let ac:=k.Shapes.getD (ab.toNat) default;.br (decide (ab<(aa:Int)))
 (.gh ab k.Shapes.length<|
 .cub 1 21 [1,4,8,9,10] [0,640]
 (.cc (yzp ac) fun ad=>
 .br (!ad)
 (.oo true)
 (.oo ((ac.Link) !=0))) fun ad=>
 .br ad
 (.ff false)
 (.loop (ik 25 [1,8,9,10,23,24] [0])
 (.exit 2) (jk [1,8,9,10] [0])
 (fun ae=>.br (decide (ae<(ac.Points.length:Int)))
 (.gh ae (ac.Points.length)<|
 .call (tz5 ((ac.Points).getD (ae.toNat) default)) [] fun af=>
 .br (!af)
 (.ff (.fin false))
 (.nn (i64.wrap (ae+1))))
 (.oo .u))
 0 [] fun _=>
 .nn (i64.wrap (ab+1))))
 (.oo .u))
 0 [] fun _=>
 .ret (decide ((aa:Int)>0))
noncomputable def xz8:=
 mkp1 Tryz.func141 xz9
noncomputable def xz2 (k:az1):T Int:=let aa:=(k.Objects.length:Nat);.cc (ez1 k.Scene) fun ab=>
 .br (ab !=0)
 (.ret ab)
 (.cc (rze (⟨k.Scene,k.Objects,k.Places,k.Hands,k.Grips,k.Slack⟩:az1)) fun ac=>
 .br (!ac)
 (.ret 3401)
 (.loop (fun s (ad:B1)=>pk s [1,22,23] [0] [(4,pz ad.1),(24,pz ad.2)] [])
 (.exit 0) (ik 4 [] [])
 (fun ad=>let ae:=k.Objects.getD ((ad.2).toNat) default;.br (decide (ad.2<(aa:Int)))
 (.gh ad.2 k.Objects.length<|
 .cut 2 (fun s (af:(ByteArray×A2×Bool))=>pk s [1,4,6,22,23,24] [0] [(46,q af.2.2)] [(1600,.box [q af.1,q af.2.1])])
 (.cc (Czj (ae.Name)) fun af=>
 .br (!af)
 (.oo (ae.Name,ae.Shapes,true))
 (.conv 11008 (Ezu 2 qzr k.Objects (0:Int) ad.2)<|
 .grd (0≤(0:Int)/\(0:Int)≤ad.2/\ad.2≤(aa:Int))<|
 .call (dzk ((k.Objects.drop ((0:Int).toNat)).take ((ad.2).toNat- (0:Int).toNat)) (ae.Name) (ae.Shapes)) [(0,1600)] fun ag=>
 .br ag.1
 (.oo (ag.2.1,ag.2.2,true))
 (.cc (xz8 (⟨ag.2.1,ag.2.2⟩:azq)) fun ah=>
 .oo (ag.2.1,ag.2.2,(!ah))))) fun af=>
 .br af.2.2
 (.ff 3402)
 (.nn ((i64.wrap (ad.1+(af.2.1.length:Int))),(i64.wrap (ad.2+1)))))
 (.oo ad.1))
 ((k.Scene.Shapes.length:Int),0) [] fun ad=>
 .br (decide (ad>24))
 (.ret 3401)
 (.ret 0)))
noncomputable def izm:=
 mkp1 Tryz.func72 xz2
noncomputable def hzd (k:A4)(aa:Int):T Int:=
 .loop (ik 8 [0,1,7] [])
 (.exit 0) (jk [] [])
 (fun ab=>.br (decide (ab<(k.length:Int)))
 (.gh ab k.length<|
 .br (aa==(k.getD (ab.toNat) default))
 (.ff ab)
 (.nn (i64.wrap (ab+1))))
 (.oo .u))
 0 [] fun _=>
 .ret (-1)
noncomputable def mzl:=
 mkp2 Tryz.func217 hzd
noncomputable def fzr (k:A4)(aa:Int):T Bool:=
 .cc (mzl k aa) fun ab=>
 .ret (decide (ab≥0))
noncomputable def jzs:=
 mkp2 Tryz.func121 fzr
noncomputable def xz5 (k:az1)(aa:azg):T Bool:=let ab:=(aa.Where.length:Int);.cub 2 18 [2,3] [0,64]
 (.cc (izm (⟨k.Scene,k.Objects,k.Places,k.Hands,k.Grips,k.Slack⟩:az1)) fun ac=>
 .br (ac !=0)
 (.oo true)
 (.oo (ab !=(k.Objects.length:Int)))) fun ac=>
 .br ac
 (.ret false)
 (.loop (ik 22 [2,3,20,21] [0,64])
 (.exit 0) (jk [] [])
 (fun ad=>let ae:=aa.Where.getD (ad.toNat) default;.br (decide (ad<ab))
 (.gh ad aa.Where.length<|
 .cub 0 47 [2,3,20,21,22] [0,64]
 (.br (decide (ae<(i64.wrap (0- (k.Hands.length:Int)))))
 (.oo true)
 (.br (decide (ae≥(k.Places.length:Int)))
 (.oo true)
 (.conv 6017 (Ezu 1 azs aa.Where (0:Int) ad)<|
 .grd (0≤(0:Int)/\(0:Int)≤ad/\ad≤ab)<|
 .cc (jzs ((aa.Where.drop ((0:Int).toNat)).take (ad.toNat- (0:Int).toNat)) ae) fun af=>
 .oo af))) fun af=>
 .br af
 (.ff false)
 (.nn (i64.wrap (ad+1))))
 (.oo .u))
 0 [] fun _=>
 .ret true)
noncomputable def dzy:=
 mkp2 Tryz.func63 xz5
noncomputable def Fzz (k:hze):T Bool:=
 .br (decide (k.Samples≥0))
 (.br (decide (k.Samples≤1022))
 (.br (decide (k.Degree≥1))
 (.br (decide (k.Degree≤16))
 (.br (decide (k.Depth≥0))
 (.br (decide (k.Depth≤20))
 (.br (decide (k.Tests≥0))
 (.ret (decide (k.Tests≤8192)))
 (.ret false))
 (.ret false))
 (.ret false))
 (.ret false))
 (.ret false))
 (.ret false))
 (.ret false)
noncomputable def gzn:=
 mkp1 Tryz.func65 Fzz
noncomputable def szl (k:azg):T Ca:=
 .unroll 7<|
 .known true<|
 .ix 0 6 rfl<|
 .lit 6000 (1)<|
 .known true<|
 .ix 1 6 rfl<|
 .lit 6000 (2)<|
 .known true<|
 .ix 2 6 rfl<|
 .lit 6000 (3)<|
 .known true<|
 .ix 3 6 rfl<|
 .lit 6000 (4)<|
 .known true<|
 .ix 4 6 rfl<|
 .lit 6000 (5)<|
 .known true<|
 .ix 5 6 rfl<|
 .lit 6000 (6)<|
 .known false<|
 .ret ((if 0<k.Where.length then k.Where.getD 0 default else(-1048577)),(if 1<k.Where.length then k.Where.getD 1 default else(-1048577)),(if 2<k.Where.length then k.Where.getD 2 default else(-1048577)),(if 3<k.Where.length then k.Where.getD 3 default else(-1048577)),(if 4<k.Where.length then k.Where.getD 4 default else(-1048577)),(if 5<k.Where.length then k.Where.getD 5 default else(-1048577)))
noncomputable def fz4:=
 mkp1 Tryz.func106 szl
noncomputable def Vzo (k:Ca)(aa:A4):T Bool:=
 .loop (ik 9 [2,7,8] [0])
 (.exit 0) (jk [] [])
 (fun ab=>let ac:=aa.getD (ab.toNat) default;.br (decide (ab<(aa.length:Int)))
 (.gh ab aa.length<|
 .cub 0 22 [2,7,8,9] [0]
 (.br (ac !=(-1048576))
 (.cas 4004 ab 0
 (.ix 0 6 rfl<|
 .oo (ac !=k.1))
 (.cas 4004 ab 1
 (.ix 1 6 rfl<|
 .oo (ac !=k.2.1))
 (.cas 4004 ab 2
 (.ix 2 6 rfl<|
 .oo (ac !=k.2.2.1))
 (.cas 4004 ab 3
 (.ix 3 6 rfl<|
 .oo (ac !=k.2.2.2.1))
 (.cas 4004 ab 4
 (.ix 4 6 rfl<|
 .oo (ac !=k.2.2.2.2.1))
 (.cas 4004 ab 5
 (.ix 5 6 rfl<|
 .oo (ac !=k.2.2.2.2.2))
 (.stop)))))))
 (.oo false)) fun ad=>
 .br ad
 (.ff false)
 (.nn (i64.wrap (ab+1))))
 (.oo .u))
 0 [] fun _=>
 .ret true
noncomputable def xzr:=
 mkp2 Tryz.func125 Vzo
noncomputable def nzg (k:bzy)(aa:Int)(ab:Int):T Bu:=
 .br (k.Hand==aa)
 (.ret ((k.Place==ab),aa,ab))
 (.ret (false,aa,ab))
noncomputable def wza (k)(aa)(ab):=
 mkD Tryz.func222 (nzg k aa ab) 2 [q k,.ptr 0 0,.ptr 1 0] [(0,.box [pz aa]),(1,.box [pz ab])] (fun r=>q r.1) (fun r=>[(0,.box [pz r.2.1]),(1,.box [pz r.2.2])])
noncomputable def czx (k:A7)(aa:Int)(ab:Int):T Bj:=
 .loop (fun s (ac:Bj)=>pk s [0,1,7] [] [(8,pz ac.2.2)] [(0,.box [pz ac.1]),(1,.box [pz ac.2.1])])
 (.exit 0) (fun s (ac:B1)=>pk s [] [] [] [(0,.box [pz ac.1]),(1,.box [pz ac.2])])
 (fun ac=>.br (decide (ac.2.2<(k.length:Int)))
 (.gh ac.2.2 k.length<|
 .call (wza (k.getD ((ac.2.2).toNat) default) ac.1 ac.2.1) [(0,0),(1,1)] fun ad=>
 .br ad.1
 (.ff (ac.2.2,ad.2.1,ad.2.2))
 (.nn (ad.2.1,ad.2.2,(i64.wrap (ac.2.2+1)))))
 (.oo (ac.1,ac.2.1)))
 (aa,ab,0) [] fun ac=>
 .ret ((-1),ac.1,ac.2)
noncomputable def ezu (k)(aa)(ab):=
 mkD Tryz.func328 (czx k aa ab) 2 [q k,.func 222 [] [.ptr 0 0,.ptr 1 0]] [(0,.box [pz aa]),(1,.box [pz ab])] (fun r=>pz r.1) (fun r=>[(0,.box [pz r.2.1]),(1,.box [pz r.2.2])])
noncomputable def czi (k:A7)(aa:Int)(ab:Int):T Bu:=
 .call (ezu k aa ab) [(0,0),(1,1)] fun ac=>
 .ret ((decide (ac.1≥0)),ac.2.1,ac.2.2)
noncomputable def ez6 (k)(aa)(ab):=
 mkD Tryz.func223 (czi k aa ab) 2 [q k,.func 222 [] [.ptr 0 0,.ptr 1 0]] [(0,.box [pz aa]),(1,.box [pz ab])] (fun r=>q r.1) (fun r=>[(0,.box [pz r.2.1]),(1,.box [pz r.2.2])])
noncomputable def szk (k:az1):T A9:=
 .loop (fun s (aa:Aa)=>pk s [1,3,9] [0] [(10,pz aa.2)] [(128,vO aa.1 51)])
 (.exit 0) (fun s (aa:A9)=>pk s [3] [] [] [(128,vO aa 51)])
 (fun aa=>.br (decide (aa.2<(k.Hands.length:Int)))
 (.loop (fun s (ab:(A9×Int×Int))=>pk s [1,3,4,9,10,15] [0] [(16,pz ab.2.2)] [(128,vO ab.1 51),(640,.box [pz ab.2.1])])
 (.exit 2) (fun s (ab:A9)=>pk s [1,3,9,10] [0] [] [(128,vO ab 51)])
 (fun ab=>.br (decide (ab.2.2<(k.Places.length:Int)))
 (.cut 0 (fun s (ac:Aa)=>pk s [1,4,9,10,15,16] [0] [(3,.vec 1152)] [(640,.box [pz ac.2]),(1152,vO ac.1 51)])
 (.call (ez6 k.Grips ab.2.1 ab.2.2) [(0,640),(1,1216)] fun ac=>let ad:=([(⟨0,ac.2.1,ac.2.2⟩:az6)]:A9);let ae:=ab.1.length+ad.length;
 .br ac.1
 (.conv 10004 (kL ad 51)<|
 .conv 10005 (kA ab.1 ad 51)<|
 .grd (ae * 24≤140737488355328/\ae≤maxLen)<|
 .oo ((ab.1++ad),ac.2.1))
 (.oo (ab.1,ac.2.1))) fun ac=>
 .nn (ac.1,ac.2,(i64.wrap (ab.2.2+1))))
 (.oo ab.1))
 (aa.1,aa.2,0) [] fun ab=>
 .nn (ab,(i64.wrap (aa.2+1))))
 (.oo aa.1))
 (nl,0) [] fun aa=>
 .ret aa
noncomputable def szj:=
 mkp1 Tryz.func126 szk
noncomputable def Rz0 (k:az1)(aa:Ab):T B9:=
 .loop (fun s (ab:(B9×Int))=>pk s [2,5,9,10] [0] [(11,pz ab.2)] [(128,Azz [.int .i64 0,.int .i64 0,.int .i64 0,.int .i64 0,.int .i64 0,.int .i64 0,.int .i64 0,.int .i64 0,.int .i64 0] czu ab.1)])
 (.exit 0) (fun s (ab:B9)=>pk s [5] [] [] [(128,Azz [.int .i64 0,.int .i64 0,.int .i64 0,.int .i64 0,.int .i64 0,.int .i64 0,.int .i64 0,.int .i64 0,.int .i64 0] czu ab)])
 (fun ab=>let ac:=aa.getD ((ab.2).toNat) default;.br (decide (ab.2<(aa.length:Int)))
 (.cut 0 (fun s (ad:B9)=>pk s [2,5,9,10,11] [0] [] [(128,Azz [.int .i64 0,.int .i64 0,.int .i64 0,.int .i64 0,.int .i64 0,.int .i64 0,.int .i64 0,.int .i64 0,.int .i64 0] czu ad)])
 (.gh ab.2 aa.length<|
 .br ((ac.Mode.Where.length:Int)==(k.Objects.length:Int))
 (.cc (fz4 (ac.Mode)) fun ad=>let ae:=(⟨ad,ac.Action⟩:ezb);
 .conv 6007 (az5i [.int .i64 0,.int .i64 0,.int .i64 0,.int .i64 0,.int .i64 0,.int .i64 0,.int .i64 0,.int .i64 0,.int .i64 0] czu ab.1 ae true)<|
 .oo ((ae,true)::ab.1))
 (.oo ab.1)) fun ad=>
 .nn (ad,(i64.wrap (ab.2+1))))
 (.oo ab.1))
 ((nl:List (ezb×Bool)),0) [] fun ab=>
 .ret ab
noncomputable def Qzz:=
 mkv2 Tryz.func127 Rz0 (fun _=>.map 0) (fun r=>[(0,Azz [.int .i64 0,.int .i64 0,.int .i64 0,.int .i64 0,.int .i64 0,.int .i64 0,.int .i64 0,.int .i64 0,.int .i64 0] czu r)])
noncomputable def xzq (k:Ca)(aa:Int):T Int:=
 .loop (ik 8 [1,7] [])
 (.exit 0) (jk [] [])
 (fun ab=>.br (decide (ab<6))
 (.gh ab 6<|
 .br ((([k.1,k.2.1,k.2.2.1,k.2.2.2.1,k.2.2.2.2.1,k.2.2.2.2.2]:List Int).getD ab.toNat 0)==aa)
 (.ff ab)
 (.nn (i64.wrap (ab+1))))
 (.oo .u))
 0 [] fun _=>
 .ret (-1)
noncomputable def ezm:=
 mkp2 Tryz.func194 xzq
noncomputable def szi (k:A9)(aa:Ca):T A9:=let ab:=(k.length:Nat);.loop (fun s (ac:Aa)=>pk s [0,3,5,10,11] [0] [(12,pz ac.2)] [(128,vO ac.1 51)])
 (.exit 0) (fun s (ac:A9)=>pk s [0,3,5] [0] [] [(128,vO ac 51)])
 (fun ac=>let ad:=k.getD ((ac.2).toNat) default;let ae:=([(⟨1,ad.Hand,ad.Place⟩:az6)]:A9);let af:=ac.1.length+ae.length;.br (decide (ac.2<(ab:Int)))
 (.cut 0 (fun s (ag:A9)=>pk s [0,3,10,11,12] [0] [(5,.vec 512)] [(512,vO ag 51)])
 (.gh ac.2 k.length<|
 .cub 0 28 [0,3,5,7,10,11,12] [0,128,640]
 (.call (ezm (aa.1,aa.2.1,aa.2.2.1,aa.2.2.2.1,aa.2.2.2.2.1,aa.2.2.2.2.2) (i64.wrap ((-1)- (ad.Hand)))) [] fun ag=>
 .br (decide (ag<0))
 (.cc (ezm (aa.1,aa.2.1,aa.2.2.1,aa.2.2.2.1,aa.2.2.2.2.1,aa.2.2.2.2.2) (ad.Place)) fun ah=>
 .oo (decide (ah≥0)))
 (.oo false)) fun ag=>
 .br ag
 (.conv 7002 (kL ae 51)<|
 .conv 7003 (kA ac.1 ae 51)<|
 .grd (af * 24≤140737488355328/\af≤maxLen)<|
 .oo (ac.1++ae))
 (.oo ac.1)) fun ag=>
 .nn (ag,(i64.wrap (ac.2+1))))
 (.oo ac.1))
 (nl,0) [] fun ac=>
 .loop (fun s (ad:Aa)=>pk s [3,5,35,36] [0] [(37,pz ad.2)] [(128,vO ad.1 51)])
 (.exit 2) (fun s (ad:A9)=>pk s [5] [] [] [(128,vO ad 51)])
 (fun ad=>let ae:=k.getD ((ad.2).toNat) default;let af:=([(⟨2,ae.Hand,ae.Place⟩:az6)]:A9);let ag:=ad.1.length+af.length;.br (decide (ad.2<(ab:Int)))
 (.cut 0 (fun s (ah:A9)=>pk s [3,35,36,37] [0] [(5,.vec 768)] [(768,vO ah 51)])
 (.gh ad.2 k.length<|
 .cub 0 53 [3,5,9,35,36,37] [0,128,896]
 (.call (ezm (aa.1,aa.2.1,aa.2.2.1,aa.2.2.2.1,aa.2.2.2.2.1,aa.2.2.2.2.2) (i64.wrap ((-1)- (ae.Hand)))) [] fun ah=>
 .br (decide (ah≥0))
 (.cc (ezm (aa.1,aa.2.1,aa.2.2.1,aa.2.2.2.1,aa.2.2.2.2.1,aa.2.2.2.2.2) (ae.Place)) fun ai=>
 .oo (decide (ai<0)))
 (.oo false)) fun ah=>
 .br ah
 (.conv 14002 (kL af 51)<|
 .conv 14003 (kA ad.1 af 51)<|
 .grd (ag * 24≤140737488355328/\ag≤maxLen)<|
 .oo (ad.1++af))
 (.oo ad.1)) fun ah=>
 .nn (ah,(i64.wrap (ad.2+1))))
 (.oo ad.1))
 (ac,0) [] fun ad=>
 .ret ad
noncomputable def szh:=
 mkp2 Tryz.func128 szi
noncomputable def Czi (k:Ca)(aa:az6):T Ca:=let ab:=i64.wrap ((-1)-aa.Hand);.cut 2 (fun s (ac:B1)=>pk s [2,4] [0,128] [(5,pz ac.1),(6,pz ac.2)] [])
 (.br (aa.Kind==2)
 (.oo (ab,aa.Place))
 (.oo (aa.Place,ab))) fun ac=>
 .cut 0 (fun s (ad:Ca)=>pk s [2,4] [128] [] [(0,.box [pz ad.1,pz ad.2.1,pz ad.2.2.1,pz ad.2.2.2.1,pz ad.2.2.2.2.1,pz ad.2.2.2.2.2])])
 (.cc (ezm k ac.1) fun ad=>
 .cas 4002 ad 0
 (.ix 0 6 rfl<|
 .oo (ac.2,k.2.1,k.2.2.1,k.2.2.2.1,k.2.2.2.2.1,k.2.2.2.2.2))
 (.cas 4002 ad 1
 (.ix 1 6 rfl<|
 .oo (k.1,ac.2,k.2.2.1,k.2.2.2.1,k.2.2.2.2.1,k.2.2.2.2.2))
 (.cas 4002 ad 2
 (.ix 2 6 rfl<|
 .oo (k.1,k.2.1,ac.2,k.2.2.2.1,k.2.2.2.2.1,k.2.2.2.2.2))
 (.cas 4002 ad 3
 (.ix 3 6 rfl<|
 .oo (k.1,k.2.1,k.2.2.1,ac.2,k.2.2.2.2.1,k.2.2.2.2.2))
 (.cas 4002 ad 4
 (.ix 4 6 rfl<|
 .oo (k.1,k.2.1,k.2.2.1,k.2.2.2.1,ac.2,k.2.2.2.2.2))
 (.cas 4002 ad 5
 (.ix 5 6 rfl<|
 .oo (k.1,k.2.1,k.2.2.1,k.2.2.2.1,k.2.2.2.2.1,ac.2))
 (.stop))))))) fun ad=>
 .ret (ad.1,ad.2.1,ad.2.2.1,ad.2.2.2.1,ad.2.2.2.2.1,ad.2.2.2.2.2)
noncomputable def tzz:=
 mkp2 Tryz.func105 Czi
noncomputable def az4i (k:Cd)(aa:Ca)(ab:Int):T A9:=
 .conv 1001 (zzm 3 Tz7 51 ab.toNat (⟨0,0,0⟩:az6))<|
 .grd (0≤ab/\ab≤ab/\ab≤9223372036854775807/\ab * 24≤140737488355328)<|
 .loop (fun s (ac:(Int×Int×Int×Int×Int×Int×A9×Int))=>pk s [0,4,7] [0] [(8,pz ac.2.2.2.2.2.2.2)] [(1,.box [pz ac.1,pz ac.2.1,pz ac.2.2.1,pz ac.2.2.2.1,pz ac.2.2.2.2.1,pz ac.2.2.2.2.2.1]),(193,vO ac.2.2.2.2.2.2.1 51)])
 (.exit 0) (fun s (ac:A9)=>pk s [7] [0] [] [(193,vO ac 51)])
 (fun ac=>let ad:=ac.2.2.2.2.2.2.2;let ae:=azd (ac.1,ac.2.1,ac.2.2.1,ac.2.2.2.1,ac.2.2.2.2.1,ac.2.2.2.2.2.1);let af:=kz9 azd k ae;let ag:=mdom azd k ae;.br (decide (ac.2.2.2.2.2.2.2≥0))
 (.ok (ag=false->PSub (.agg [.int .i64 0,.int .i64 0,.int .i64 0,.int .i64 0,.int .i64 0,.int .i64 0,.int .i64 0,.int .i64 0,.int .i64 0]) (bzl af)) (Tzi (by kernel_rfl))<|
 .gh ac.2.2.2.2.2.2.2 ac.2.2.2.2.2.2.1.length<|
 .conv 5007 (kS ac.2.2.2.2.2.2.1 51 (ad.toNat) (af.by_))<|
 .gi ad ac.2.2.2.2.2.2.1.length<|
 .ok (ag=false->PSub (.agg [.int .i64 0,.int .i64 0,.int .i64 0,.int .i64 0,.int .i64 0,.int .i64 0,.int .i64 0,.int .i64 0,.int .i64 0]) (bzl af)) (Tzi (by kernel_rfl))<|
 .nn (af.before.1,af.before.2.1,af.before.2.2.1,af.before.2.2.2.1,af.before.2.2.2.2.1,af.before.2.2.2.2.2,(ac.2.2.2.2.2.2.1.set (ad.toNat) (af.by_)),(i64.wrap (ac.2.2.2.2.2.2.2-1))))
 (.oo ac.2.2.2.2.2.2.1))
 (aa.1,aa.2.1,aa.2.2.1,aa.2.2.2.1,aa.2.2.2.2.1,aa.2.2.2.2.2,(List.replicate ab.toNat ((⟨0,0,0⟩:az6):az6)),(i64.wrap (ab-1))) [] fun ac=>
 .ret ac
noncomputable def az4h (k)(aa)(ab):=
 mkD Tryz.func129 (az4i k aa ab) 1 [.map 0,q aa,pz ab] [(0,mapG [.int .i64 0,.int .i64 0,.int .i64 0,.int .i64 0,.int .i64 0,.int .i64 0] azd bzl k)] (fun r=>q r) (fun _=>[(0,mapG [.int .i64 0,.int .i64 0,.int .i64 0,.int .i64 0,.int .i64 0,.int .i64 0] azd bzl k)])
noncomputable def Zzu (k:az1)(aa:azg)(ab:A4)(ac:Int)(ad:Ab):T (A9×Bool):=
 .cub 2 45 [2,3,4,5,6] [0,64]
 (.cc (dzy k aa) fun ae=>
 .br (!ae)
 (.oo true)
 (.br ((ab.length:Int) !=(k.Objects.length:Int))
 (.oo true)
 (.br (decide (ac<0))
 (.oo true)
 (.oo (decide (ac>16)))))) fun ae=>
 .br ae
 (.ret (nl,false))
 (.cc (fz4 aa) fun af=>let ag:=([af]:Cb);
 .cc (xzr (af.1,af.2.1,af.2.2.1,af.2.2.2.1,af.2.2.2.2.1,af.2.2.2.2.2) ab) fun ah=>
 .br ah
 (.ret (nl,true))
 (.cc (szj (⟨k.Scene,k.Objects,k.Places,k.Hands,k.Grips,k.Slack⟩:az1)) fun ai=>
 .cc (Qzz k ad) fun aj=>
 .conv 8000 (azbu [.int .i64 0,.int .i64 0,.int .i64 0,.int .i64 0,.int .i64 0,.int .i64 0] azd bzl (.agg [.int .i64 0,.int .i64 0,.int .i64 0,.int .i64 0,.int .i64 0,.int .i64 0,.int .i64 0,.int .i64 0,.int .i64 0]))<|
 .conv 8003 (az2f [.int .i64 0,.int .i64 0,.int .i64 0,.int .i64 0,.int .i64 0,.int .i64 0] azd bzl (nl:List Cc) af (⟨(0,0,0,0,0,0),(⟨0,0,0⟩:az6)⟩:bzn) (.agg [.int .i64 0,.int .i64 0,.int .i64 0,.int .i64 0,.int .i64 0,.int .i64 0,.int .i64 0,.int .i64 0,.int .i64 0]) (by kernel_rfl))<|
 .conv 9001 (kL ag 211)<|
 .loop (fun s (ak:Ce)=>pk s [2,3,13,14,15,16] [1088] [(17,pz ak.2.2)] [(1216,mapG [.int .i64 0,.int .i64 0,.int .i64 0,.int .i64 0,.int .i64 0,.int .i64 0] azd bzl ak.1),(1664,vO ak.2.1 211)])
 (.exit 0) (jk [] [])
 (fun ak=>let al:=(ak.2.1.length:Nat);.cub 1 69 [2,3,13,14,15,16,17] [1088,1216,1664]
 (.br (decide (ak.2.2≤ac))
 (.oo (decide ((al:Int)>0)))
 (.oo false)) fun am=>
 .br am
 (.loop (fun s (an:Ce)=>pk s [2,3,13,14,15,17,18,72,73] [1088,1664] [(74,pz an.2.2)] [(1216,mapG [.int .i64 0,.int .i64 0,.int .i64 0,.int .i64 0,.int .i64 0,.int .i64 0] azd bzl an.1),(1984,vO an.2.1 211)])
 (.exit 2) (fun s (an:(Cd×Cb))=>pk s [2,3,13,14,15,17,18] [1088] [] [(1216,mapG [.int .i64 0,.int .i64 0,.int .i64 0,.int .i64 0,.int .i64 0,.int .i64 0] azd bzl an.1),(1984,vO an.2 211)])
 (fun an=>let ao:=ak.2.1.getD ((an.2.2).toNat) default;.br (decide (an.2.2<(al:Int)))
 (.gg an.2.2 ak.2.1.length<|
 .cc (szh ai ao) fun ap=>
 .loop (fun s (aq:Ce)=>pk s [2,3,13,14,15,17,18,20,72,73,74,80,81] [1088,1664,2496] [(82,pz aq.2.2)] [(1216,mapG [.int .i64 0,.int .i64 0,.int .i64 0,.int .i64 0,.int .i64 0,.int .i64 0] azd bzl aq.1),(1984,vO aq.2.1 211)])
 (.exit 4) (fun s (aq:(Cd×Cb))=>pk s [2,3,13,14,15,17,18,72,73,74] [1088,1664] [] [(1216,mapG [.int .i64 0,.int .i64 0,.int .i64 0,.int .i64 0,.int .i64 0,.int .i64 0] azd bzl aq.1),(1984,vO aq.2 211)])
 (fun aq=>let ar:=ap.getD ((aq.2.2).toNat) default;let au:=czu (⟨ao,ar⟩:ezb);let av:=Gzw czu aj au;let aw:=(⟨ao,ar⟩:bzn);.br (decide (aq.2.2<(ap.length:Int)))
 (.cut 0 (fun s (ax:(Cd×Cb))=>pk s [2,3,13,14,15,17,18,20,72,73,74,80,81,82] [1088,1664,2496] [] [(1216,mapG [.int .i64 0,.int .i64 0,.int .i64 0,.int .i64 0,.int .i64 0,.int .i64 0] azd bzl ax.1),(1984,vO ax.2 211)])
 (.gh aq.2.2 ap.length<|
 .cc (tzz ao ar) fun ax=>let ay:=mdom azd aq.1 (azd ax);let az:=((ax,aw)::aq.1);let a0:=([ax]:Cb);let a1:=aq.2.1.length+a0.length;
 .ok (ay=false->PSub (.agg [.int .i64 0,.int .i64 0,.int .i64 0,.int .i64 0,.int .i64 0,.int .i64 0,.int .i64 0,.int .i64 0,.int .i64 0]) (bzl (kz9 azd aq.1 (azd ax)))) (Tzi (by kernel_rfl))<|
 .cub 0 102 [2,3,13,14,15,17,18,20,22,23,72,73,74,80,81,82] [1088,1216,1664,1984,2496,3200,3520]
 (.br ay
 (.oo true)
 (.ok ((mdom czu aj au)=false->PSub (.bool false) (PVal.bool av)) az2v<|
 .oo av)) fun a2=>
 .br a2
 (.oo (aq.1,aq.2.1))
 (.conv 23005 (az2f [.int .i64 0,.int .i64 0,.int .i64 0,.int .i64 0,.int .i64 0,.int .i64 0] azd bzl aq.1 ax aw (.agg [.int .i64 (ao.1),.int .i64 (ao.2.1),.int .i64 (ao.2.2.1),.int .i64 (ao.2.2.2.1),.int .i64 (ao.2.2.2.2.1),.int .i64 (ao.2.2.2.2.2),.int .i64 (ar.Kind),.int .i64 (ar.Hand),.int .i64 (ar.Place)]) (by kernel_rfl))<|
 .cc (xzr ax ab) fun a3=>
 .br a3
 (.call (az4h az ax ak.2.2) [(0,1216)] fun a4=>
 .ff (.fin (.fin (.fin (a4,true)))))
 (.conv 26002 (kL a0 211)<|
 .conv 26003 (kA aq.2.1 a0 211)<|
 .grd (a1 * 48≤140737488355328/\a1≤maxLen)<|
 .oo (az,(aq.2.1++a0))))) fun ax=>
 .nn (ax.1,ax.2,(i64.wrap (aq.2.2+1))))
 (.oo (aq.1,aq.2.1)))
 (an.1,an.2.1,0) [] fun aq=>
 .nn (aq.1,aq.2,(i64.wrap (an.2.2+1))))
 (.oo (an.1,an.2.1)))
 (ak.1,nl,0) [] fun an=>
 .nn (an.1,an.2,(i64.wrap (ak.2.2+1))))
 (.oo .u))
 (((af,(⟨(0,0,0,0,0,0),(⟨0,0,0⟩:az6)⟩:bzn))::(nl:List Cc)),ag,1) [] fun _=>
 .ret (nl,false)))
noncomputable def tzy:=
 mkq5 Tryz.func66 Zzu (fun r=>.tup [q r.1,q r.2])
noncomputable def dz7 (a0:A0):T A0:=
 (match a0 with
  |[]=>.unroll 1<|
  .grd (a0.length=0)<|
  .both
   (.ret nl)
   (.conv 3000 (kL ([]:A0) 126)<|
   .conv 3002 (kA ([]:A0) a0 126)<|
   .grd ((([]:A0).length+a0.length) * 104≤140737488355328/\(([]:A0).length+a0.length)≤maxLen)<|
   .ret (([]:A0)++a0))
  |_::_=>.grd (0<a0.length)<|
  .conv 3000 (kL ([]:A0) 126)<|
  .conv 3002 (kA ([]:A0) a0 126)<|
  .grd ((([]:A0).length+a0.length) * 104≤140737488355328/\(([]:A0).length+a0.length)≤maxLen)<|
  .ret (([]:A0)++a0))
noncomputable def fz8 (a0:A0):CallS A0:=
 mkH [] hd Tryz.func201 (by kernel_rfl) (dz7 a0) 0 [q a0] [] (fun r=>q r) (fun _=>[]) (by cases a0<;>exact Ob.of_side (by kernel_rfl))
noncomputable def dzq (a0:A8):T A8:=
 (match a0 with
  |[]=>.unroll 1<|
  .grd (a0.length=0)<|
  .both
   (.ret nl)
   (.conv 3000 (kL ([]:A8) 186)<|
   .conv 3002 (kA ([]:A8) a0 186)<|
   .grd ((([]:A8).length+a0.length) * 40≤140737488355328/\(([]:A8).length+a0.length)≤maxLen)<|
   .ret (([]:A8)++a0))
  |_::_=>.grd (0<a0.length)<|
  .conv 3000 (kL ([]:A8) 186)<|
  .conv 3002 (kA ([]:A8) a0 186)<|
  .grd ((([]:A8).length+a0.length) * 40≤140737488355328/\(([]:A8).length+a0.length)≤maxLen)<|
  .ret (([]:A8)++a0))
noncomputable def fzs (a0:A8):CallS A8:=
 mkH [] hd Tryz.func202 (by kernel_rfl) (dzq a0) 0 [q a0] [] (fun r=>q r) (fun _=>[]) (by cases a0<;>exact Ob.of_side (by kernel_rfl))
noncomputable def ez5 (a0:Bk):T Bk:=
 (match a0 with
  |[]=>.unroll 1<|
  .grd (a0.length=0)<|
  .both
   (.ret nl)
   (.conv 3000 (kL ([]:Bk) 100)<|
   .conv 3002 (kA ([]:Bk) a0 100)<|
   .grd ((([]:Bk).length+a0.length) * 24≤140737488355328/\(([]:Bk).length+a0.length)≤maxLen)<|
   .ret (([]:Bk)++a0))
  |_::_=>.grd (0<a0.length)<|
  .conv 3000 (kL ([]:Bk) 100)<|
  .conv 3002 (kA ([]:Bk) a0 100)<|
  .grd ((([]:Bk).length+a0.length) * 24≤140737488355328/\(([]:Bk).length+a0.length)≤maxLen)<|
  .ret (([]:Bk)++a0))
noncomputable def gzg (a0:Bk):CallS Bk:=
 mkH [] hd Tryz.func306 (by kernel_rfl) (ez5 a0) 0 [q a0] [] (fun _=>.vec 0) (fun r=>[(0,vO r 100)]) (by cases a0<;>exact Ob.of_side (by kernel_rfl))
noncomputable def uza (k:A2)(aa:Bj):T A2:=let ab:=(k.length:Int);.conv 1002 (azbv 3 gz0 102 (0:Int).toNat (⟨0,0,nl⟩:aza) (.agg [.int .i64 0,.int .i64 0,.lst 0 0 fun _=>.unk]) (by kernel_rfl))<|
 .grd (0≤(0:Int)/\(0:Int)≤ab/\ab≤9223372036854775807/\ab * 40≤140737488355328)<|
 .loop (fun s (ac:Ac)=>pk s [3,5,14,15] [0] [(16,pz ac.2)] [(256,vO ac.1 102)])
 (.exit 0) (fun s (ac:A2)=>pk s [5] [] [] [(256,vO ac 102)])
 (fun ac=>let ad:=k.getD ((ac.2).toNat) default;.br (decide (ac.2<ab))
 (.gh ac.2 k.length<|
 .cc (gzg (ad.Points)) fun ae=>
 .unroll 998<|
 .loop (fun s (af:Bl)=>pk s [3,5,7,14,15,16,26] [0,256,832] [(27,pz af.2)] [(1088,vO af.1 100)])
 (.exit 2) (fun s (af:Bk)=>pk s [3,5,7,14,15,16] [0,256,832] [] [(1088,vO af 100)])
 (fun af=>let ag:=af.2;let ah:=ag.toNat;let ai:=af.1.getD ah default;.br (decide (af.2<(ae.length:Int)))
 (.unroll 4<|
 .known true<|
 .ix 0 3 rfl<|
 .gh af.2 af.1.length<|
 .ix 0 3 rfl<|
 .grd (ag.toNat<af.1.length)<|
 .name 12006 (ai.1) fun aj=>let ak:=i64.wrap (aj+aa.1);let al:=af.1.set ah (ak,ai.2.1,ai.2.2);let am:=al.length;let an:=al.getD ah default;
 .gh af.2 af.1.length<|
 .ix 0 3 rfl<|
 .conv 12011 (kS af.1 100 ah (ak,ai.2.1,ai.2.2))<|
 .gi ag af.1.length<|
 .lit 13000 (1)<|
 .known true<|
 .ix 1 3 rfl<|
 .gh af.2 am<|
 .ix 1 3 rfl<|
 .grd (ag.toNat<al.length)<|
 .name 12006 (an.2.1) fun ao=>let ap:=i64.wrap (ao+aa.2.1);let aq:=al.set ah (an.1,ap,an.2.2);let ar:=aq.length;let au:=aq.getD ah default;
 .gh af.2 am<|
 .ix 1 3 rfl<|
 .conv 12011 (kS al 100 ah (an.1,ap,an.2.2))<|
 .gi ag am<|
 .lit 13000 (2)<|
 .known true<|
 .ix 2 3 rfl<|
 .gh af.2 ar<|
 .ix 2 3 rfl<|
 .grd (ag.toNat<aq.length)<|
 .name 12006 (au.2.2) fun av=>let aw:=i64.wrap (av+aa.2.2);
 .gh af.2 ar<|
 .ix 2 3 rfl<|
 .conv 12011 (kS aq 100 ah (au.1,au.2.1,aw))<|
 .gi ag ar<|
 .lit 13000 (3)<|
 .known false<|
 .nn ((aq.set ah (au.1,au.2.1,aw)),(i64.wrap (af.2+1))))
 (.oo af.1))
 (ae,0) [] fun af=>let ag:=([(⟨ad.Link,ad.Radius,af⟩:aza)]:A2);let ah:=ac.1.length+ag.length;
 .conv 15002 (kL ag 102)<|
 .conv 15003 (kA ac.1 ag 102)<|
 .grd (ah * 40≤140737488355328/\ah≤maxLen)<|
 .nn ((ac.1++ag),(i64.wrap (ac.2+1))))
 (.oo ac.1))
 ((List.replicate (0:Int).toNat ((⟨0,0,nl⟩:aza):aza)),0) [] fun ac=>
 .ret ac
noncomputable def uz9:=
 mkv2 Tryz.func203 uza (fun _=>.vec 0) (fun r=>[(0,vO r 102)])
noncomputable def dzr (a0:Ad):T Ad:=
 (match a0 with
  |[]=>.unroll 1<|
  .grd (a0.length=0)<|
  .both
   (.ret nl)
   (.conv 3000 (kL ([]:Ad) 120)<|
   .conv 3002 (kA ([]:Ad) a0 120)<|
   .grd ((([]:Ad).length+a0.length) * 16≤140737488355328/\(([]:Ad).length+a0.length)≤maxLen)<|
   .ret (([]:Ad)++a0))
  |_::_=>.grd (0<a0.length)<|
  .conv 3000 (kL ([]:Ad) 120)<|
  .conv 3002 (kA ([]:Ad) a0 120)<|
  .grd ((([]:Ad).length+a0.length) * 16≤140737488355328/\(([]:Ad).length+a0.length)≤maxLen)<|
  .ret (([]:Ad)++a0))
noncomputable def fzt (a0:Ad):CallS Ad:=
 mkH [] hd Tryz.func204 (by kernel_rfl) (dzr a0) 0 [q a0] [] (fun r=>q r) (fun _=>[]) (by cases a0<;>exact Ob.of_side (by kernel_rfl))
noncomputable def xz4 (k:az1)(aa:azg):T (azc×Int):=
 .cc (izm k) fun ab=>
 .br (ab !=0)
 (.ret ((⟨(⟨nl,nl⟩:azn),nl,nl⟩:azc),ab))
 (.cc (dzy k aa) fun ac=>
 .br (!ac)
 (.ret ((⟨(⟨nl,nl⟩:azn),nl,nl⟩:azc),3403))
 (.cc (fz8 k.Scene.Robot.Joints) fun ad=>
 .cc (fzs k.Scene.Robot.Masses) fun ae=>
 .cc (uz9 k.Scene.Shapes (0,0,0)) fun af=>
 .cc (fzt k.Scene.Skips) fun ag=>
 .loop (fun s (ah:Ac)=>pk s [2,3,4,7,48,49] [0,64,128,129,130,131,132,2176] [(50,pz ah.2)] [(1792,vO ah.1 102)])
 (.exit 0) (fun s (ah:A2)=>pk s [4,7] [128,129,130,131,132,2176] [] [(1792,vO ah 102)])
 (fun ah=>let ai:=(ah.2).toNat;let aj:=aa.Where.getD ai default;let ak:=i64.wrap ((-1)-aj);let al:=k.Hands.getD (ak.toNat) default;let am:=k.Places.getD (aj.toNat) default;.br (decide (ah.2<(k.Objects.length:Int)))
 (.gh ah.2 k.Objects.length<|
 .cut 1 (fun s (an:C4)=>pk s [2,3,4,7,9,11,48,49,50] [0,64,128,129,130,131,132,1792,2176,2880] [(10,pz an.1)] [(3136,.box [pz an.2.1,pz an.2.2.1,pz an.2.2.2])])
 (.gh ah.2 aa.Where.length<|
 .br (decide (aj≥0))
 (.gh aj k.Places.length<|
 .oo ((-1),am.1,am.2.1,am.2.2))
 (.gh ak k.Hands.length<|
 .gh ak k.Hands.length<|
 .oo (al.Link,al.Offset.1,al.Offset.2.1,al.Offset.2.2))) fun an=>
 .cc (uz9 ((k.Objects.getD ai default).Shapes) (an.2.1,an.2.2.1,an.2.2.2)) fun ao=>
 .loop (fun s (ap:Ac)=>pk s [2,3,4,7,10,48,49,50,85,86] [0,64,128,129,130,131,132,2176,3584] [(87,pz ap.2)] [(1792,vO ap.1 102)])
 (.exit 2) (fun s (ap:A2)=>pk s [2,3,4,7,48,49,50] [0,64,128,129,130,131,132,2176] [] [(1792,vO ap 102)])
 (fun ap=>let aq:=ao.getD ((ap.2).toNat) default;let ar:=([(⟨an.1,aq.Radius,aq.Points⟩:aza)]:A2);let au:=ap.1.length+ar.length;.br (decide (ap.2<(ao.length:Int)))
 (.gg ap.2 ao.length<|
 .conv 19003 (kL ar 102)<|
 .conv 19004 (kA ap.1 ar 102)<|
 .grd (au * 40≤140737488355328/\au≤maxLen)<|
 .nn ((ap.1++ar),(i64.wrap (ap.2+1))))
 (.oo ap.1))
 (ah.1,0) [] fun ap=>
 .nn (ap,(i64.wrap (ah.2+1))))
 (.oo ah.1))
 (af,0) [] fun ah=>
 .ret ((⟨(⟨ad,ae⟩:azn),ah,ag⟩:azc),0)))
noncomputable def qz5:=
 mkq2 Tryz.func113 xz4 (fun r=>.tup [q r.1,pz r.2])
noncomputable def vzi (k:az1)(aa:azg):T A9:=
 .cc (dzy k aa) fun ab=>
 .br (!ab)
 (.ret nl)
 (.cc (szj k) fun ac=>
 .cc (fz4 aa) fun ad=>
 .cc (szh ac ad) fun ae=>
 .ret ae)
noncomputable def Ezi:=
 mkp2 Tryz.func104 vzi
noncomputable def czz (k:A9)(aa:az6):T Int:=
 .loop (ik 8 [0,3,7] [0])
 (.exit 0) (jk [] [])
 (fun ab=>let ac:=k.getD (ab.toNat) default;.br (decide (ab<(k.length:Int)))
 (.gh ab k.length<|
 .br ((aa.Kind==(ac.Kind))&&((aa.Hand==(ac.Hand))&&((aa.Place==(ac.Place))&&true)))
 (.ff ab)
 (.nn (i64.wrap (ab+1))))
 (.oo .u))
 0 [] fun _=>
 .ret (-1)
noncomputable def ezw:=
 mkp2 Tryz.func193 czz
noncomputable def czk (k:A9)(aa:az6):T Bool:=
 .cc (ezw k aa) fun ab=>
 .ret (decide (ab≥0))
noncomputable def ez8:=
 mkp2 Tryz.func103 czk
noncomputable def hzc (a0:A4):T A4:=
 (match a0 with
  |[]=>.unroll 1<|
  .grd (a0.length=0)<|
  .both
   (.ret nl)
   (.conv 3000 (kL ([]:A4) 3)<|
   .conv 3002 (kA ([]:A4) a0 3)<|
   .grd ((([]:A4).length+a0.length) * 8≤140737488355328/\(([]:A4).length+a0.length)≤maxLen)<|
   .ret (([]:A4)++a0))
  |_::_=>.grd (0<a0.length)<|
  .conv 3000 (kL ([]:A4) 3)<|
  .conv 3002 (kA ([]:A4) a0 3)<|
  .grd ((([]:A4).length+a0.length) * 8≤140737488355328/\(([]:A4).length+a0.length)≤maxLen)<|
  .ret (([]:A4)++a0))
noncomputable def hzb (a0:A4):CallS A4:=
 mkH [] hd Tryz.func107 (by kernel_rfl) (hzc a0) 0 [q a0] [] (fun r=>q r) (fun _=>[]) (by cases a0<;>exact Ob.of_side (by kernel_rfl))
noncomputable def Czh (k:az1)(aa:azg)(ab:az6):T (azg×Bool):=let ac:=(⟨aa.Where⟩:azg);let ad:=(aa.Where.length:Int);.cc (Ezi (⟨k.Scene,k.Objects,k.Places,k.Hands,k.Grips,k.Slack⟩:az1) ac) fun ae=>
 .cc (ez8 ae ab) fun af=>
 .br (!af)
 (.ret ((⟨nl⟩:azg),false))
 (.cc (fz4 ac) fun ag=>
 .cc (tzz ag ab) fun ah=>let ai:=([ah.1,ah.2.1,ah.2.2.1,ah.2.2.2.1,ah.2.2.2.2.1,ah.2.2.2.2.2]:List Int);
 .conv 4003 (azgy azs ai ad)<|
 .grd (0≤ad/\ad≤(6:Int))<|
 .call (hzb (ai.take (ad.toNat))) [] fun aj=>
 .ret ((⟨aj⟩:azg),true))
noncomputable def kzj:=
 mkq3 Tryz.func52 Czh (fun r=>.tup [q r.1,q r.2])
noncomputable def pzu (k:az1)(aa:az6)(ab:Int):T Bool:=let ac:=k.Grips.getD (ab.toNat) default;.br (decide (0≤ab))
 (.br (decide (ab<(k.Grips.length:Int)))
 (.gh ab k.Grips.length<|
 .br ((ac.Hand)==aa.Hand)
 (.gh ab k.Grips.length<|
 .ret ((ac.Place)==aa.Place))
 (.ret false))
 (.ret false))
 (.ret false)
noncomputable def kz4:=
 mkp3 Tryz.func53 pzu
noncomputable def ozq (k:Int):T Bool:=
 .br (decide (k<(-2147483648)))
 (.ret true)
 (.ret (decide (k>2147483648)))
noncomputable def zz0:=
 mkp1 Tryz.func301 ozq
end Go.Abs
