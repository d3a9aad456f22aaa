/-
  D3 (a part of a claim: our own text).
-/
import Derived.Test.YtfodaccgmcljoaaGreatYDM2
namespace Go.Abs
open IntKind (i64)
open Go.Proofs
set_option maxHeartbeats 8000000 in
set_option maxRecDepth 20000 in
noncomputable def mzy (c:B1)(d:B1):T B1:=
 .unroll 4<|
 .known true<|
 .unroll 4<|
 .known true<|
 .unroll 4<|
 .known true<|
 .ix 0 3 rfl<|
 .ix 0 3 rfl<|
 .ix 0 3 rfl<|
 .ix 0 3 rfl<|
 .cc (azq c.1.1 d.1.1) fun e=>
 .cc (azp (⟨0,0⟩:az0) e) fun f=>
 .lit 13000 (1)<|
 .known true<|
 .ix 0 3 rfl<|
 .ix 1 3 rfl<|
 .ix 1 3 rfl<|
 .ix 0 3 rfl<|
 .cc (azq c.1.2.1 d.2.1.1) fun g=>
 .cc (azp f g) fun h=>
 .lit 13000 (2)<|
 .known true<|
 .ix 0 3 rfl<|
 .ix 2 3 rfl<|
 .ix 2 3 rfl<|
 .ix 0 3 rfl<|
 .cc (azq c.1.2.2 d.2.2.1) fun i=>
 .cc (azp h i) fun j=>
 .lit 13000 (3)<|
 .known false<|
 .cc (bz8 j.Lo) fun k=>
 .cc (bz8 j.Hi) fun m=>
 .ix 0 3 rfl<|
 .ix 0 3 rfl<|
 .lit 15000 (1)<|
 .known true<|
 .unroll 4<|
 .known true<|
 .ix 0 3 rfl<|
 .ix 0 3 rfl<|
 .ix 0 3 rfl<|
 .ix 1 3 rfl<|
 .cc (azq c.1.1 d.1.2.1) fun n=>
 .cc (azp (⟨0,0⟩:az0) n) fun q=>
 .lit 13000 (1)<|
 .known true<|
 .ix 0 3 rfl<|
 .ix 1 3 rfl<|
 .ix 1 3 rfl<|
 .ix 1 3 rfl<|
 .cc (azq c.1.2.1 d.2.1.2.1) fun s=>
 .cc (azp q s) fun t=>
 .lit 13000 (2)<|
 .known true<|
 .ix 0 3 rfl<|
 .ix 2 3 rfl<|
 .ix 2 3 rfl<|
 .ix 1 3 rfl<|
 .cc (azq c.1.2.2 d.2.2.2.1) fun w=>
 .cc (azp t w) fun y=>
 .lit 13000 (3)<|
 .known false<|
 .cc (bz8 y.Lo) fun z=>
 .cc (bz8 y.Hi) fun aa=>
 .ix 0 3 rfl<|
 .ix 1 3 rfl<|
 .lit 15000 (2)<|
 .known true<|
 .unroll 4<|
 .known true<|
 .ix 0 3 rfl<|
 .ix 0 3 rfl<|
 .ix 0 3 rfl<|
 .ix 2 3 rfl<|
 .cc (azq c.1.1 d.1.2.2) fun ab=>
 .cc (azp (⟨0,0⟩:az0) ab) fun ac=>
 .lit 13000 (1)<|
 .known true<|
 .ix 0 3 rfl<|
 .ix 1 3 rfl<|
 .ix 1 3 rfl<|
 .ix 2 3 rfl<|
 .cc (azq c.1.2.1 d.2.1.2.2) fun ad=>
 .cc (azp ac ad) fun ae=>
 .lit 13000 (2)<|
 .known true<|
 .ix 0 3 rfl<|
 .ix 2 3 rfl<|
 .ix 2 3 rfl<|
 .ix 2 3 rfl<|
 .cc (azq c.1.2.2 d.2.2.2.2) fun af=>
 .cc (azp ae af) fun ag=>
 .lit 13000 (3)<|
 .known false<|
 .cc (bz8 ag.Lo) fun ah=>
 .cc (bz8 ag.Hi) fun ai=>
 .ix 0 3 rfl<|
 .ix 2 3 rfl<|
 .lit 15000 (3)<|
 .known false<|
 .lit 16000 (1)<|
 .known true<|
 .unroll 4<|
 .known true<|
 .unroll 4<|
 .known true<|
 .ix 1 3 rfl<|
 .ix 0 3 rfl<|
 .ix 0 3 rfl<|
 .ix 0 3 rfl<|
 .cc (azq c.2.1.1 d.1.1) fun aj=>
 .cc (azp (⟨0,0⟩:az0) aj) fun ak=>
 .lit 13000 (1)<|
 .known true<|
 .ix 1 3 rfl<|
 .ix 1 3 rfl<|
 .ix 1 3 rfl<|
 .ix 0 3 rfl<|
 .cc (azq c.2.1.2.1 d.2.1.1) fun al=>
 .cc (azp ak al) fun am=>
 .lit 13000 (2)<|
 .known true<|
 .ix 1 3 rfl<|
 .ix 2 3 rfl<|
 .ix 2 3 rfl<|
 .ix 0 3 rfl<|
 .cc (azq c.2.1.2.2 d.2.2.1) fun an=>
 .cc (azp am an) fun ao=>
 .lit 13000 (3)<|
 .known false<|
 .cc (bz8 ao.Lo) fun ap=>
 .cc (bz8 ao.Hi) fun aq=>
 .ix 1 3 rfl<|
 .ix 0 3 rfl<|
 .lit 15000 (1)<|
 .known true<|
 .unroll 4<|
 .known true<|
 .ix 1 3 rfl<|
 .ix 0 3 rfl<|
 .ix 0 3 rfl<|
 .ix 1 3 rfl<|
 .cc (azq c.2.1.1 d.1.2.1) fun ar=>
 .cc (azp (⟨0,0⟩:az0) ar) fun au=>
 .lit 13000 (1)<|
 .known true<|
 .ix 1 3 rfl<|
 .ix 1 3 rfl<|
 .ix 1 3 rfl<|
 .ix 1 3 rfl<|
 .cc (azq c.2.1.2.1 d.2.1.2.1) fun av=>
 .cc (azp au av) fun aw=>
 .lit 13000 (2)<|
 .known true<|
 .ix 1 3 rfl<|
 .ix 2 3 rfl<|
 .ix 2 3 rfl<|
 .ix 1 3 rfl<|
 .cc (azq c.2.1.2.2 d.2.2.2.1) fun ax=>
 .cc (azp aw ax) fun ay=>
 .lit 13000 (3)<|
 .known false<|
 .cc (bz8 ay.Lo) fun az=>
 .cc (bz8 ay.Hi) fun a0=>
 .ix 1 3 rfl<|
 .ix 1 3 rfl<|
 .lit 15000 (2)<|
 .known true<|
 .unroll 4<|
 .known true<|
 .ix 1 3 rfl<|
 .ix 0 3 rfl<|
 .ix 0 3 rfl<|
 .ix 2 3 rfl<|
 .cc (azq c.2.1.1 d.1.2.2) fun a1=>
 .cc (azp (⟨0,0⟩:az0) a1) fun a2=>
 .lit 13000 (1)<|
 .known true<|
 .ix 1 3 rfl<|
 .ix 1 3 rfl<|
 .ix 1 3 rfl<|
 .ix 2 3 rfl<|
 .cc (azq c.2.1.2.1 d.2.1.2.2) fun a3=>
 .cc (azp a2 a3) fun a4=>
 .lit 13000 (2)<|
 .known true<|
 .ix 1 3 rfl<|
 .ix 2 3 rfl<|
 .ix 2 3 rfl<|
 .ix 2 3 rfl<|
 .cc (azq c.2.1.2.2 d.2.2.2.2) fun a5=>
 .cc (azp a4 a5) fun a6=>
 .lit 13000 (3)<|
 .known false<|
 .cc (bz8 a6.Lo) fun a7=>
 .cc (bz8 a6.Hi) fun a8=>
 .ix 1 3 rfl<|
 .ix 2 3 rfl<|
 .lit 15000 (3)<|
 .known false<|
 .lit 16000 (2)<|
 .known true<|
 .unroll 4<|
 .known true<|
 .unroll 4<|
 .known true<|
 .ix 2 3 rfl<|
 .ix 0 3 rfl<|
 .ix 0 3 rfl<|
 .ix 0 3 rfl<|
 .cc (azq c.2.2.1 d.1.1) fun a9=>
 .cc (azp (⟨0,0⟩:az0) a9) fun ba=>
 .lit 13000 (1)<|
 .known true<|
 .ix 2 3 rfl<|
 .ix 1 3 rfl<|
 .ix 1 3 rfl<|
 .ix 0 3 rfl<|
 .cc (azq c.2.2.2.1 d.2.1.1) fun bb=>
 .cc (azp ba bb) fun bc=>
 .lit 13000 (2)<|
 .known true<|
 .ix 2 3 rfl<|
 .ix 2 3 rfl<|
 .ix 2 3 rfl<|
 .ix 0 3 rfl<|
 .cc (azq c.2.2.2.2 d.2.2.1) fun bd=>
 .cc (azp bc bd) fun be=>
 .lit 13000 (3)<|
 .known false<|
 .cc (bz8 be.Lo) fun bf=>
 .cc (bz8 be.Hi) fun bg=>
 .ix 2 3 rfl<|
 .ix 0 3 rfl<|
 .lit 15000 (1)<|
 .known true<|
 .unroll 4<|
 .known true<|
 .ix 2 3 rfl<|
 .ix 0 3 rfl<|
 .ix 0 3 rfl<|
 .ix 1 3 rfl<|
 .cc (azq c.2.2.1 d.1.2.1) fun bh=>
 .cc (azp (⟨0,0⟩:az0) bh) fun bi=>
 .lit 13000 (1)<|
 .known true<|
 .ix 2 3 rfl<|
 .ix 1 3 rfl<|
 .ix 1 3 rfl<|
 .ix 1 3 rfl<|
 .cc (azq c.2.2.2.1 d.2.1.2.1) fun bj=>
 .cc (azp bi bj) fun bk=>
 .lit 13000 (2)<|
 .known true<|
 .ix 2 3 rfl<|
 .ix 2 3 rfl<|
 .ix 2 3 rfl<|
 .ix 1 3 rfl<|
 .cc (azq c.2.2.2.2 d.2.2.2.1) fun bl=>
 .cc (azp bk bl) fun bm=>
 .lit 13000 (3)<|
 .known false<|
 .cc (bz8 bm.Lo) fun bn=>
 .cc (bz8 bm.Hi) fun bo=>
 .ix 2 3 rfl<|
 .ix 1 3 rfl<|
 .lit 15000 (2)<|
 .known true<|
 .unroll 4<|
 .known true<|
 .ix 2 3 rfl<|
 .ix 0 3 rfl<|
 .ix 0 3 rfl<|
 .ix 2 3 rfl<|
 .cc (azq c.2.2.1 d.1.2.2) fun bp=>
 .cc (azp (⟨0,0⟩:az0) bp) fun bq=>
 .lit 13000 (1)<|
 .known true<|
 .ix 2 3 rfl<|
 .ix 1 3 rfl<|
 .ix 1 3 rfl<|
 .ix 2 3 rfl<|
 .cc (azq c.2.2.2.1 d.2.1.2.2) fun bs=>
 .cc (azp bq bs) fun bt=>
 .lit 13000 (2)<|
 .known true<|
 .ix 2 3 rfl<|
 .ix 2 3 rfl<|
 .ix 2 3 rfl<|
 .ix 2 3 rfl<|
 .cc (azq c.2.2.2.2 d.2.2.2.2) fun bu=>
 .cc (azp bt bu) fun bv=>
 .lit 13000 (3)<|
 .known false<|
 .cc (bz8 bv.Lo) fun bw=>
 .cc (bz8 bv.Hi) fun bx=>
 .ix 2 3 rfl<|
 .ix 2 3 rfl<|
 .lit 15000 (3)<|
 .known false<|
 .lit 16000 (3)<|
 .known false<|
 .ret (((⟨k,m⟩:az0),(⟨z,aa⟩:az0),(⟨ah,ai⟩:az0)),((⟨ap,aq⟩:az0),(⟨az,a0⟩:az0),(⟨a7,a8⟩:az0)),((⟨bf,bg⟩:az0),(⟨bn,bo⟩:az0),(⟨bw,bx⟩:az0)))
noncomputable def vzt (c)(d):=
 mkD Tryz.func262 (mzy c d) 0 [.pure (bzh c),.pure (bzh d)] [] (fun r=>.pure (bzh r)) (fun _=>[])
noncomputable def rzn (c:B1)(d:Ay):T Ay:=
 .unroll 4<|
 .known true<|
 .unroll 4<|
 .known true<|
 .ix 0 3 rfl<|
 .ix 0 3 rfl<|
 .ix 0 3 rfl<|
 .ix 0 3 rfl<|
 .cc (azq c.1.1 d.1) fun e=>
 .cc (azp (⟨0,0⟩:az0) e) fun f=>
 .ix 0 3 rfl<|
 .lit 9000 (1)<|
 .known true<|
 .ix 0 3 rfl<|
 .ix 0 3 rfl<|
 .ix 1 3 rfl<|
 .ix 1 3 rfl<|
 .cc (azq c.1.2.1 d.2.1) fun g=>
 .cc (azp f g) fun h=>
 .ix 0 3 rfl<|
 .lit 9000 (2)<|
 .known true<|
 .ix 0 3 rfl<|
 .ix 0 3 rfl<|
 .ix 2 3 rfl<|
 .ix 2 3 rfl<|
 .cc (azq c.1.2.2 d.2.2) fun i=>
 .cc (azp h i) fun j=>
 .ix 0 3 rfl<|
 .lit 9000 (3)<|
 .known false<|
 .lit 10000 (1)<|
 .known true<|
 .unroll 4<|
 .known true<|
 .ix 1 3 rfl<|
 .ix 1 3 rfl<|
 .ix 0 3 rfl<|
 .ix 0 3 rfl<|
 .cc (azq c.2.1.1 d.1) fun k=>
 .cc (azp (⟨0,0⟩:az0) k) fun m=>
 .ix 1 3 rfl<|
 .lit 9000 (1)<|
 .known true<|
 .ix 1 3 rfl<|
 .ix 1 3 rfl<|
 .ix 1 3 rfl<|
 .ix 1 3 rfl<|
 .cc (azq c.2.1.2.1 d.2.1) fun n=>
 .cc (azp m n) fun q=>
 .ix 1 3 rfl<|
 .lit 9000 (2)<|
 .known true<|
 .ix 1 3 rfl<|
 .ix 1 3 rfl<|
 .ix 2 3 rfl<|
 .ix 2 3 rfl<|
 .cc (azq c.2.1.2.2 d.2.2) fun s=>
 .cc (azp q s) fun t=>
 .ix 1 3 rfl<|
 .lit 9000 (3)<|
 .known false<|
 .lit 10000 (2)<|
 .known true<|
 .unroll 4<|
 .known true<|
 .ix 2 3 rfl<|
 .ix 2 3 rfl<|
 .ix 0 3 rfl<|
 .ix 0 3 rfl<|
 .cc (azq c.2.2.1 d.1) fun w=>
 .cc (azp (⟨0,0⟩:az0) w) fun y=>
 .ix 2 3 rfl<|
 .lit 9000 (1)<|
 .known true<|
 .ix 2 3 rfl<|
 .ix 2 3 rfl<|
 .ix 1 3 rfl<|
 .ix 1 3 rfl<|
 .cc (azq c.2.2.2.1 d.2.1) fun z=>
 .cc (azp y z) fun aa=>
 .ix 2 3 rfl<|
 .lit 9000 (2)<|
 .known true<|
 .ix 2 3 rfl<|
 .ix 2 3 rfl<|
 .ix 2 3 rfl<|
 .ix 2 3 rfl<|
 .cc (azq c.2.2.2.2 d.2.2) fun ab=>
 .cc (azp aa ab) fun ac=>
 .ix 2 3 rfl<|
 .lit 9000 (3)<|
 .known false<|
 .lit 10000 (3)<|
 .known false<|
 .ret (j,t,ac)
noncomputable def zzy (c)(d):=
 mkD Tryz.func279 (rzn c d) 0 [.pure (bzh c),.pure (az2 d)] [] (fun r=>.pure (az2 r)) (fun _=>[])
noncomputable def xz7 (c:Ay)(d:Ay):T Ay:=
 .unroll 4<|
 .known true<|
 .ix 0 3 rfl<|
 .ix 0 3 rfl<|
 .cc (azp c.1 d.1) fun e=>
 .ix 0 3 rfl<|
 .lit 6000 (1)<|
 .known true<|
 .ix 1 3 rfl<|
 .ix 1 3 rfl<|
 .cc (azp c.2.1 d.2.1) fun f=>
 .ix 1 3 rfl<|
 .lit 6000 (2)<|
 .known true<|
 .ix 2 3 rfl<|
 .ix 2 3 rfl<|
 .cc (azp c.2.2 d.2.2) fun g=>
 .ix 2 3 rfl<|
 .lit 6000 (3)<|
 .known false<|
 .ret (e,f,g)
noncomputable def Fzo (c)(d):=
 mkD Tryz.func278 (xz7 c d) 0 [.pure (az2 c),.pure (az2 d)] [] (fun r=>.pure (az2 r)) (fun _=>[])
noncomputable def iz9 (c:Ay)(d:Int)(e:Int)(f:Int)(g:Int)(h:Int)(i:Int)(j:Int)(k:Int)(m:Int)(n:Int)(q:Int)(s:Int)(t:Int)(w:Int)(y:Int)(z:Int)(aa:Int)(ab:Int)(ac:Int)(ad:Int)(ae:Int)(af:Int)(ag:Int)(ah:Int):T (Ay×Int×Int×Int×Int×Int×Int×Int×Int×Int×Int×Int×Int×Int×Int×Int×Int×Int×Int×Int×Int×Int×Int×Int×Int):=
 .cc (zzy (((⟨d,e⟩:az0),(⟨f,g⟩:az0),(⟨h,i⟩:az0)),((⟨j,k⟩:az0),(⟨m,n⟩:az0),(⟨q,s⟩:az0)),((⟨t,w⟩:az0),(⟨y,z⟩:az0),(⟨aa,ab⟩:az0))) ((⟨c.1.Lo,c.1.Hi⟩:az0),(⟨c.2.1.Lo,c.2.1.Hi⟩:az0),(⟨c.2.2.Lo,c.2.2.Hi⟩:az0))) fun ai=>
 .cc (Fzo ((⟨ac,ad⟩:az0),(⟨ae,af⟩:az0),(⟨ag,ah⟩:az0)) ai) fun aj=>
 .ret (aj,d,e,f,g,h,i,j,k,m,n,q,s,t,w,y,z,aa,ab,ac,ad,ae,af,ag,ah)
noncomputable def lzu (c)(d)(e)(f)(g)(h)(i)(j)(k)(m)(n)(q)(s)(t)(w)(y)(z)(aa)(ab)(ac)(ad)(ae)(af)(ag)(ah):=
 mkD Tryz.func277 (iz9 c d e f g h i j k m n q s t w y z aa ab ac ad ae af ag ah) 1 [.pure (az2 c),.ptr 0 0] [(0,.box [pz d,pz e,pz f,pz g,pz h,pz i,pz j,pz k,pz m,pz n,pz q,pz s,pz t,pz w,pz y,pz z,pz aa,pz ab,pz ac,pz ad,pz ae,pz af,pz ag,pz ah])] (fun r=>.pure (az2 r.1)) (fun r=>[(0,.box [pz r.2.1,pz r.2.2.1,pz r.2.2.2.1,pz r.2.2.2.2.1,pz r.2.2.2.2.2.1,pz r.2.2.2.2.2.2.1,pz r.2.2.2.2.2.2.2.1,pz r.2.2.2.2.2.2.2.2.1,pz r.2.2.2.2.2.2.2.2.2.1,pz r.2.2.2.2.2.2.2.2.2.2.1,pz r.2.2.2.2.2.2.2.2.2.2.2.1,pz r.2.2.2.2.2.2.2.2.2.2.2.2.1,pz r.2.2.2.2.2.2.2.2.2.2.2.2.2.1,pz r.2.2.2.2.2.2.2.2.2.2.2.2.2.2.1,pz r.2.2.2.2.2.2.2.2.2.2.2.2.2.2.2.1,pz r.2.2.2.2.2.2.2.2.2.2.2.2.2.2.2.2.1,pz r.2.2.2.2.2.2.2.2.2.2.2.2.2.2.2.2.2.1,pz r.2.2.2.2.2.2.2.2.2.2.2.2.2.2.2.2.2.2.1,pz r.2.2.2.2.2.2.2.2.2.2.2.2.2.2.2.2.2.2.2.1,pz r.2.2.2.2.2.2.2.2.2.2.2.2.2.2.2.2.2.2.2.2.1,pz r.2.2.2.2.2.2.2.2.2.2.2.2.2.2.2.2.2.2.2.2.2.1,pz r.2.2.2.2.2.2.2.2.2.2.2.2.2.2.2.2.2.2.2.2.2.2.1,pz r.2.2.2.2.2.2.2.2.2.2.2.2.2.2.2.2.2.2.2.2.2.2.2.1,pz r.2.2.2.2.2.2.2.2.2.2.2.2.2.2.2.2.2.2.2.2.2.2.2.2])])
noncomputable def rzt (c:azw)(d:azw):T azw:=
 .cc (qzg c) fun e=>
 .cc (vzt c.R d.R) fun f=>
 .call (lzu d.T e.1 e.2.1 e.2.2.1 e.2.2.2.1 e.2.2.2.2.1 e.2.2.2.2.2.1 e.2.2.2.2.2.2.1 e.2.2.2.2.2.2.2.1 e.2.2.2.2.2.2.2.2.1 e.2.2.2.2.2.2.2.2.2.1 e.2.2.2.2.2.2.2.2.2.2.1 e.2.2.2.2.2.2.2.2.2.2.2.1 e.2.2.2.2.2.2.2.2.2.2.2.2.1 e.2.2.2.2.2.2.2.2.2.2.2.2.2.1 e.2.2.2.2.2.2.2.2.2.2.2.2.2.2.1 e.2.2.2.2.2.2.2.2.2.2.2.2.2.2.2.1 e.2.2.2.2.2.2.2.2.2.2.2.2.2.2.2.2.1 e.2.2.2.2.2.2.2.2.2.2.2.2.2.2.2.2.2.1 e.2.2.2.2.2.2.2.2.2.2.2.2.2.2.2.2.2.2.1 e.2.2.2.2.2.2.2.2.2.2.2.2.2.2.2.2.2.2.2.1 e.2.2.2.2.2.2.2.2.2.2.2.2.2.2.2.2.2.2.2.2.1 e.2.2.2.2.2.2.2.2.2.2.2.2.2.2.2.2.2.2.2.2.2.1 e.2.2.2.2.2.2.2.2.2.2.2.2.2.2.2.2.2.2.2.2.2.2.1 e.2.2.2.2.2.2.2.2.2.2.2.2.2.2.2.2.2.2.2.2.2.2.2) [(0,256)] fun g=>
 .ret (⟨(f.1,f.2.1,f.2.2),g.1⟩:azw)
noncomputable def iz8 (c)(d):=
 mkD Tryz.func236 (rzt c d) 0 [.pure (bzn c),.pure (bzn d)] [] (fun r=>.pure (bzn r)) (fun _=>[])
noncomputable def wzg (c:Int)(d:az0):T azw:=
 .cut 2 (fun (e:Ba)=>⟨[(4,.ptr 0 0),(5,.ptr 1 0)],[(0,.box [pz 0,pz 0,pz 0,pz 0,pz 0,pz 0,pz 0,pz 0,pz 0,pz 0,pz 0,pz 0,pz 0,pz 0,pz 0,pz 0,pz 0,pz 0,pz 0,pz 0,pz 0,pz 0,pz 0,pz 0]),(1,.box [pz e.1,pz e.2.1,pz e.2.2.1,pz e.2.2.2.1,pz e.2.2.2.2.1,pz e.2.2.2.2.2])],[],2⟩)
 (.cas 2000 c 0
 (.ix 0 3 rfl<|
 .oo (d.Lo,d.Hi,0,0,0,0))
 (.cas 2000 c 1
 (.ix 1 3 rfl<|
 .oo (0,0,d.Lo,d.Hi,0,0))
 (.cas 2000 c 2
 (.ix 2 3 rfl<|
 .oo (0,0,0,0,d.Lo,d.Hi))
 (.stop)))) fun e=>
 .cc (qzf ((⟨e.1,e.2.1⟩:az0),(⟨e.2.2.1,e.2.2.2.1⟩:az0),(⟨e.2.2.2.2.1,e.2.2.2.2.2⟩:az0))) fun f=>
 .ret f
noncomputable def Fzg (c)(d):=
 mkD Tryz.func275 (wzg c d) 0 [pz c,.pure (aza d)] [] (fun r=>.pure (bzn r)) (fun _=>[])
noncomputable def mzs (c:az0):T Int:=
 .cc (cz5 c) fun d=>
 .br (!d)
 (.ret 0)
 (.ret (i64.wrap (c.Hi-c.Lo)))
noncomputable def mzr (c):=
 mkD Tryz.func319 (mzs c) 0 [.pure (aza c)] [] (fun r=>pz r) (fun _=>[])
noncomputable def ozf (c:Int):T Int:=
 .ret (i64.wrap (((BitVec.ofInt 64 c&&&BitVec.ofInt 64 65535).toNat:Int)))
noncomputable def jz6 (c):=
 mkD Tryz.func322 (ozf c) 0 [pz c] [] (fun r=>pz r) (fun _=>[])
noncomputable def mzl (c:Int):T (Bd×Bd):=
 .ix 0 11 rfl<|
 .ix 0 11 rfl<|
 .cc (bza (i64.wrap (c * 6746518852)) 16) fun d=>
 .ix 1 11 rfl<|
 .cc (bzg (i64.wrap (c * 6746518853)) 16) fun e=>
 .ix 1 11 rfl<|
 .unroll 10<|
 .known true<|
 .lit 8002 (1)<|
 .ix 1 11 rfl<|
 .ix 1 11 rfl<|
 .cc (bza (i64.wrap (d * d)) 30) fun f=>
 .ix 2 11 rfl<|
 .lit 9002 (1)<|
 .ix 1 11 rfl<|
 .ix 1 11 rfl<|
 .cc (bzg (i64.wrap (e * e)) 30) fun g=>
 .ix 2 11 rfl<|
 .lit 7001 (3)<|
 .known true<|
 .lit 8002 (2)<|
 .ix 2 11 rfl<|
 .ix 1 11 rfl<|
 .cc (bza (i64.wrap (f * d)) 30) fun h=>
 .ix 3 11 rfl<|
 .lit 9002 (2)<|
 .ix 2 11 rfl<|
 .ix 1 11 rfl<|
 .cc (bzg (i64.wrap (g * e)) 30) fun i=>
 .ix 3 11 rfl<|
 .lit 7001 (4)<|
 .known true<|
 .lit 8002 (3)<|
 .ix 3 11 rfl<|
 .ix 1 11 rfl<|
 .cc (bza (i64.wrap (h * d)) 30) fun j=>
 .ix 4 11 rfl<|
 .lit 9002 (3)<|
 .ix 3 11 rfl<|
 .ix 1 11 rfl<|
 .cc (bzg (i64.wrap (i * e)) 30) fun k=>
 .ix 4 11 rfl<|
 .lit 7001 (5)<|
 .known true<|
 .lit 8002 (4)<|
 .ix 4 11 rfl<|
 .ix 1 11 rfl<|
 .cc (bza (i64.wrap (j * d)) 30) fun m=>
 .ix 5 11 rfl<|
 .lit 9002 (4)<|
 .ix 4 11 rfl<|
 .ix 1 11 rfl<|
 .cc (bzg (i64.wrap (k * e)) 30) fun n=>
 .ix 5 11 rfl<|
 .lit 7001 (6)<|
 .known true<|
 .lit 8002 (5)<|
 .ix 5 11 rfl<|
 .ix 1 11 rfl<|
 .cc (bza (i64.wrap (m * d)) 30) fun q=>
 .ix 6 11 rfl<|
 .lit 9002 (5)<|
 .ix 5 11 rfl<|
 .ix 1 11 rfl<|
 .cc (bzg (i64.wrap (n * e)) 30) fun s=>
 .ix 6 11 rfl<|
 .lit 7001 (7)<|
 .known true<|
 .lit 8002 (6)<|
 .ix 6 11 rfl<|
 .ix 1 11 rfl<|
 .cc (bza (i64.wrap (q * d)) 30) fun t=>
 .ix 7 11 rfl<|
 .lit 9002 (6)<|
 .ix 6 11 rfl<|
 .ix 1 11 rfl<|
 .cc (bzg (i64.wrap (s * e)) 30) fun w=>
 .ix 7 11 rfl<|
 .lit 7001 (8)<|
 .known true<|
 .lit 8002 (7)<|
 .ix 7 11 rfl<|
 .ix 1 11 rfl<|
 .cc (bza (i64.wrap (t * d)) 30) fun y=>
 .ix 8 11 rfl<|
 .lit 9002 (7)<|
 .ix 7 11 rfl<|
 .ix 1 11 rfl<|
 .cc (bzg (i64.wrap (w * e)) 30) fun z=>
 .ix 8 11 rfl<|
 .lit 7001 (9)<|
 .known true<|
 .lit 8002 (8)<|
 .ix 8 11 rfl<|
 .ix 1 11 rfl<|
 .cc (bza (i64.wrap (y * d)) 30) fun aa=>
 .ix 9 11 rfl<|
 .lit 9002 (8)<|
 .ix 8 11 rfl<|
 .ix 1 11 rfl<|
 .cc (bzg (i64.wrap (z * e)) 30) fun ab=>
 .ix 9 11 rfl<|
 .lit 7001 (10)<|
 .known true<|
 .lit 8002 (9)<|
 .ix 9 11 rfl<|
 .ix 1 11 rfl<|
 .cc (bza (i64.wrap (aa * d)) 30) fun ac=>
 .ix 10 11 rfl<|
 .lit 9002 (9)<|
 .ix 9 11 rfl<|
 .ix 1 11 rfl<|
 .cc (bzg (i64.wrap (ab * e)) 30) fun ad=>
 .ix 10 11 rfl<|
 .lit 7001 (11)<|
 .known false<|
 .ret ((1073741824,d,f,h,j,m,q,t,y,aa,ac),(1073741824,e,g,i,k,n,s,w,z,ab,ad))
noncomputable def mzk (c):=
 mkD Tryz.func327 (mzl c) 0 [pz c] [] (fun r=>.tup [.pure (izj r.1),.pure (izj r.2)]) (fun _=>[])
noncomputable def oze (c:Int)(d:Int):T Int:=
 .grd (d≠0)<|
 .ret (i64.wrap ((i64.wrap ((i64.wrap (c+d))-1)).tdiv d))
noncomputable def dz0 (c)(d):=
 mkD Tryz.func329 (oze c d) 0 [pz c,pz d] [] (fun r=>pz r) (fun _=>[])
noncomputable def izo (c:A0):T Int:=let d:=(c.length:Nat);.loop (fun (e:Au)=>⟨[(3,pz e.1),(4,pz e.2.1),(7,.pure (encL 1 az3 c)),(8,pz (d:Int)),(9,pz e.2.2)],[],[],0⟩)
 (.exit 0) (fun (e:Int)=>⟨[(3,pz e)],[],[],0⟩)
 (fun e=>.br (decide (e.2.2<(d:Int)))
 (.gh e.2.2 c.length<|
 .nn ((i64.wrap (e.1+(i64.wrap (e.2.1 * (c.getD ((e.2.2).toNat) default))))),(i64.wrap (0-e.2.1)),(i64.wrap (e.2.2+1))))
 (.oo e.1))
 (0,1,0) [] fun e=>
 .ret e
noncomputable def czn (c):=
 mkD Tryz.func328 (izo c) 0 [.pure (encL 1 az3 c)] [] (fun r=>pz r) (fun _=>[])
noncomputable def kzr (c:Int)(d:Int):T az0:=
 .cc (bza c 14) fun e=>
 .cc (bzg d 14) fun f=>
 .ret (⟨(max 0 e),(min 65536 f)⟩:az0)
noncomputable def kzq (c)(d):=
 mkD Tryz.func330 (kzr c d) 0 [pz c,pz d] [] (fun r=>.pure (aza r)) (fun _=>[])
noncomputable def wzf (c:Int):T az0:=
 .cc (mzk c) fun d=>
 .ix 1 11 rfl<|
 .ix 3 11 rfl<|
 .cc (dz0 d.2.2.2.2.1 6) fun e=>
 .ix 5 11 rfl<|
 .ok ((120:Int)≠0) (by decide)<|
 .ix 7 11 rfl<|
 .cc (dz0 d.2.2.2.2.2.2.2.2.1 5040) fun f=>let g:=([d.1.2.1,e,(i64.wrap (d.1.2.2.2.2.2.1.tdiv 120)),f]:A0);
 .conv 2011 (czi 1 az3 g 2)<|
 .cc (czn g) fun h=>
 .ix 1 11 rfl<|
 .ix 3 11 rfl<|
 .ok ((6:Int)≠0) (by decide)<|
 .ix 5 11 rfl<|
 .cc (dz0 d.2.2.2.2.2.2.1 120) fun i=>
 .ix 7 11 rfl<|
 .ok ((5040:Int)≠0) (by decide)<|
 .ix 9 11 rfl<|
 .cc (dz0 d.2.2.2.2.2.2.2.2.2.2.1 362880) fun j=>let k:=([d.2.2.1,(i64.wrap (d.1.2.2.2.1.tdiv 6)),i,(i64.wrap (d.1.2.2.2.2.2.2.2.1.tdiv 5040)),j]:A0);
 .conv 3014 (czi 1 az3 k 2)<|
 .cc (czn k) fun m=>
 .cc (kzq h m) fun n=>
 .ret n
noncomputable def Fzf (c):=
 mkD Tryz.func325 (wzf c) 0 [pz c] [] (fun r=>.pure (aza r)) (fun _=>[])
noncomputable def rz1 (c:Int):T az0:=
 .cc (mzk c) fun d=>
 .ix 2 11 rfl<|
 .cc (dz0 d.2.2.2.1 2) fun e=>
 .ix 4 11 rfl<|
 .ok ((24:Int)≠0) (by decide)<|
 .ix 6 11 rfl<|
 .cc (dz0 d.2.2.2.2.2.2.2.1 720) fun f=>
 .ix 8 11 rfl<|
 .ok ((40320:Int)≠0) (by decide)<|
 .ix 10 11 rfl<|
 .cc (dz0 d.2.2.2.2.2.2.2.2.2.2.2 3628800) fun g=>let h:=([1073741824,e,(i64.wrap (d.1.2.2.2.2.1.tdiv 24)),f,(i64.wrap (d.1.2.2.2.2.2.2.2.2.1.tdiv 40320)),g]:A0);
 .conv 2015 (czi 1 az3 h 2)<|
 .cc (czn h) fun i=>
 .ix 2 11 rfl<|
 .ok ((2:Int)≠0) (by decide)<|
 .ix 4 11 rfl<|
 .cc (dz0 d.2.2.2.2.2.1 24) fun j=>
 .ix 6 11 rfl<|
 .ok ((720:Int)≠0) (by decide)<|
 .ix 8 11 rfl<|
 .cc (dz0 d.2.2.2.2.2.2.2.2.2.1 40320) fun k=>let m:=([1073741824,(i64.wrap (d.1.2.2.1.tdiv 2)),j,(i64.wrap (d.1.2.2.2.2.2.2.1.tdiv 720)),k]:A0);
 .conv 3012 (czi 1 az3 m 2)<|
 .cc (czn m) fun n=>
 .cc (kzq i n) fun q=>
 .ret q
noncomputable def zzj (c):=
 mkD Tryz.func326 (rz1 c) 0 [pz c] [] (fun r=>.pure (aza r)) (fun _=>[])
noncomputable def tzs (c:Int):T az0:=
 .br (decide (c≤8192))
 (.cc (Fzf c) fun d=>
 .ret d)
 (.cc (zzj (i64.wrap (16384-c))) fun d=>
 .ret d)
noncomputable def jz4 (c):=
 mkD Tryz.func323 (tzs c) 0 [pz c] [] (fun r=>.pure (aza r)) (fun _=>[])
noncomputable def rzj (c:az0):T az0:=
 .cc (cz5 c) fun d=>
 .br (!d)
 (.ret (⟨0,0⟩:az0))
 (.ret (⟨(i64.wrap (0-c.Hi)),(i64.wrap (0-c.Lo))⟩:az0))
noncomputable def lzp (c):=
 mkD Tryz.func311 (rzj c) 0 [.pure (aza c)] [] (fun r=>.pure (aza r)) (fun _=>[])
noncomputable def Azn (c:Int):T az0:=
 .cc (jz6 c) fun d=>let e:=d.tmod 16384;let f:=i64.wrap (d.tdiv 16384);let g:=i64.wrap (16384-e);
 .ok ((16384:Int)≠0) (by decide)<|
 .ok ((16384:Int)≠0) (by decide)<|
 .br (f==0)
 (.cc (jz4 e) fun h=>
 .ret h)
 (.br (f==1)
 (.cc (jz4 g) fun h=>
 .ret h)
 (.br (f==2)
 (.cc (jz4 e) fun h=>
 .cc (lzp h) fun i=>
 .ret i)
 (.cc (jz4 g) fun h=>
 .cc (lzp h) fun i=>
 .ret i)))
noncomputable def tzr (c):=
 mkD Tryz.func316 (Azn c) 0 [pz c] [] (fun r=>.pure (aza r)) (fun _=>[])
noncomputable def Azm (c:Int):T az0:=
 .cc (jz6 c) fun d=>
 .cc (tzr (i64.wrap (d+16384))) fun e=>
 .ret e
noncomputable def Azl (c):=
 mkD Tryz.func315 (Azm c) 0 [pz c] [] (fun r=>.pure (aza r)) (fun _=>[])
noncomputable def ozs (c:az0)(d:az0):T az0:=
 .cc (izk c d) fun e=>
 .br (!e)
 (.ret (⟨0,0⟩:az0))
 (.ret (⟨(min c.Lo d.Lo),(max c.Hi d.Hi)⟩:az0))
noncomputable def fz0 (c)(d):=
 mkD Tryz.func320 (ozs c d) 0 [.pure (aza c),.pure (aza d)] [] (fun r=>.pure (aza r)) (fun _=>[])
noncomputable def rzg (c:az0)(d:Int):T Bool:=
 .cc (cz5 c) fun e=>
 .br e
 (.br (decide (c.Lo≤d))
 (.ret (decide (d≤c.Hi)))
 (.ret false))
 (.ret false)
noncomputable def zzq (c)(d):=
 mkD Tryz.func324 (rzg c d) 0 [.pure (aza c),pz d] [] (fun r=>.pure (.bool r)) (fun _=>[])
noncomputable def tzt (c:az0)(d:Int):T Bool:=
 .cc (jz6 (i64.wrap (d-c.Lo))) fun e=>
 .cc (zzq c (i64.wrap (c.Lo+e))) fun f=>
 .ret f
noncomputable def jz5 (c)(d):=
 mkD Tryz.func321 (tzt c d) 0 [.pure (aza c),pz d] [] (fun r=>.pure (.bool r)) (fun _=>[])
noncomputable def wze (c:az0)(d:Int)(e:Int):T az0:=
 .cc (cz5 c) fun f=>
 .br (!f)
 (.ret (⟨0,0⟩:az0))
 (.cc (mzr c) fun g=>
 .br (decide (g≥65536))
 (.ret (⟨(-65536),65536⟩:az0))
 (.cc (Azl c.Lo) fun h=>
 .cc (Azl c.Hi) fun i=>
 .cc (fz0 h i) fun j=>
 .cut 0 (fun (k:An)=>⟨[(3,pz e),(4,.ptr 0 0),(8,.ptr 1 0),(9,.ptr 2 0)],[(0,.box [pz c.Lo,pz c.Hi]),(1,.box [pz 0,pz 0]),(2,.box [pz k.1,pz k.2])],[],3⟩)
 (.cc (jz5 c d) fun k=>
 .br k
 (.cc (czu 65536) fun m=>
 .cc (fz0 j m) fun n=>
 .oo (n.Lo,n.Hi))
 (.oo (j.Lo,j.Hi))) fun k=>
 .cut 0 (fun (m:An)=>⟨[(8,.ptr 0 0),(9,.ptr 1 0)],[(0,.box [pz 0,pz 0]),(1,.box [pz m.1,pz m.2])],[],2⟩)
 (.cc (jz5 c e) fun m=>
 .br m
 (.cc (czu (-65536)) fun n=>
 .cc (fz0 (⟨k.1,k.2⟩:az0) n) fun q=>
 .oo (q.Lo,q.Hi))
 (.oo (k.1,k.2))) fun m=>
 .ret (⟨m.1,m.2⟩:az0)))
noncomputable def Fze (c)(d)(e):=
 mkD Tryz.func314 (wze c d e) 0 [.pure (aza c),.func 315 [] [],pz d,pz e] [] (fun r=>.pure (aza r)) (fun _=>[])
noncomputable def ozc (c:az0):T az0:=
 .cc (Fze c 0 32768) fun d=>
 .ret d
noncomputable def wzc (c):=
 mkD Tryz.func309 (ozc c) 0 [.pure (aza c)] [] (fun r=>.pure (aza r)) (fun _=>[])
noncomputable def rz2 (c:az0)(d:Int)(e:Int):T az0:=
 .cc (cz5 c) fun f=>
 .br (!f)
 (.ret (⟨0,0⟩:az0))
 (.cc (mzr c) fun g=>
 .br (decide (g≥65536))
 (.ret (⟨(-65536),65536⟩:az0))
 (.cc (tzr c.Lo) fun h=>
 .cc (tzr c.Hi) fun i=>
 .cc (fz0 h i) fun j=>
 .cut 0 (fun (k:An)=>⟨[(3,pz e),(4,.ptr 0 0),(8,.ptr 1 0),(9,.ptr 2 0)],[(0,.box [pz c.Lo,pz c.Hi]),(1,.box [pz 0,pz 0]),(2,.box [pz k.1,pz k.2])],[],3⟩)
 (.cc (jz5 c d) fun k=>
 .br k
 (.cc (czu 65536) fun m=>
 .cc (fz0 j m) fun n=>
 .oo (n.Lo,n.Hi))
 (.oo (j.Lo,j.Hi))) fun k=>
 .cut 0 (fun (m:An)=>⟨[(8,.ptr 0 0),(9,.ptr 1 0)],[(0,.box [pz 0,pz 0]),(1,.box [pz m.1,pz m.2])],[],2⟩)
 (.cc (jz5 c e) fun m=>
 .br m
 (.cc (czu (-65536)) fun n=>
 .cc (fz0 (⟨k.1,k.2⟩:az0) n) fun q=>
 .oo (q.Lo,q.Hi))
 (.oo (k.1,k.2))) fun m=>
 .ret (⟨m.1,m.2⟩:az0)))
noncomputable def zzk (c)(d)(e):=
 mkD Tryz.func314 (rz2 c d e) 0 [.pure (aza c),.func 316 [] [],pz d,pz e] [] (fun r=>.pure (aza r)) (fun _=>[])
noncomputable def ozd (c:az0):T az0:=
 .cc (zzk c 16384 49152) fun d=>
 .ret d
noncomputable def wzd (c):=
 mkD Tryz.func310 (ozd c) 0 [.pure (aza c)] [] (fun r=>.pure (aza r)) (fun _=>[])
noncomputable def uzb (c:Int)(d:az0):T B1:=let e:=(⟨d.Lo,d.Hi⟩:az0);.cc (cz5 d) fun f=>
 .br (!f)
 (.ret (((⟨0,0⟩:az0),(⟨0,0⟩:az0),(⟨0,0⟩:az0)),((⟨0,0⟩:az0),(⟨0,0⟩:az0),(⟨0,0⟩:az0)),((⟨0,0⟩:az0),(⟨0,0⟩:az0),(⟨0,0⟩:az0))))
 (.cc (wzc e) fun g=>
 .cc (wzd e) fun h=>
 .cc (lzp h) fun i=>
 .cc (czu 65536) fun j=>
 .cc (czu 0) fun k=>
 .br (c==0)
 (.ret ((j,k,k),(k,g,i),(k,h,g)))
 (.br (c==1)
 (.ret ((g,k,h),(k,j,k),(i,k,g)))
 (.br (c==2)
 (.ret ((g,i,k),(h,g,k),(k,k,j)))
 (.ret (((⟨0,0⟩:az0),(⟨0,0⟩:az0),(⟨0,0⟩:az0)),((⟨0,0⟩:az0),(⟨0,0⟩:az0),(⟨0,0⟩:az0)),((⟨0,0⟩:az0),(⟨0,0⟩:az0),(⟨0,0⟩:az0)))))))
noncomputable def Czd (c)(d):=
 mkD Tryz.func304 (uzb c d) 0 [pz c,.pure (aza d)] [] (fun r=>.pure (bzh r)) (fun _=>[])
noncomputable def Bz3 (c:Int)(d:az0):T azw:=
 .cc (Czd c (⟨d.Lo,d.Hi⟩:az0)) fun e=>
 .cc (pose_still_C) fun f=>
 .ret (⟨e,f⟩:azw)
noncomputable def Izz (c)(d):=
 mkD Tryz.func292 (Bz3 c d) 0 [pz c,.pure (aza d)] [] (fun r=>.pure (bzn r)) (fun _=>[])
noncomputable def Azp (c:Int)(d:az0):T azw:=
 .cc (Izz c (⟨d.Lo,d.Hi⟩:az0)) fun e=>
 .ret e
noncomputable def Hzd (c)(d):=
 mkD Tryz.func274 (Azp c d) 0 [pz c,.pure (aza d)] [] (fun r=>.pure (bzn r)) (fun _=>[])
noncomputable def jzg (c:azt)(d:az0):T azw:=
 .cc (lzq c.Offset) fun e=>
 .cc (qzf ((⟨e.1.Lo,e.1.Hi⟩:az0),(⟨e.2.1.Lo,e.2.1.Hi⟩:az0),(⟨e.2.2.Lo,e.2.2.Hi⟩:az0))) fun f=>let g:=(⟨f.R,f.T⟩:azw);
 .split (((fzq c.Kind).o).isSome)
 (.cc (fzq c.Kind) fun h=>
 .cc (Hzd h (⟨d.Lo,d.Hi⟩:az0)) fun i=>
 .cc (iz8 g i) fun j=>
 .ret j)
 (.split (((fzs c.Kind).o).isSome)
 (.cc (fzs c.Kind) fun h=>
 .cc (Fzg h d) fun i=>
 .cc (iz8 f i) fun j=>
 .ret j)
 (.cc (jz0 c.Kind) fun h=>
 .cc (Hzc h d) fun i=>
 .cc (iz8 g (⟨i.R,i.T⟩:azw)) fun j=>
 .ret j))
noncomputable def qz7 (c)(d):=
 mkD Tryz.func235 (jzg c d) 0 [.pure (azd c),.pure (aza d)] [] (fun r=>.pure (bzn r)) (fun _=>[])
noncomputable def jzi (c:azl)(d:Ag):T Aj:=let e:=encL 2 aza d;let f:=encL 12 azd c.Joints;let g:=(c.Joints.length:Int);.conv 1003 (Hzj 24 bzn 266 g.toNat (⟨(((⟨0,0⟩:az0),(⟨0,0⟩:az0),(⟨0,0⟩:az0)),((⟨0,0⟩:az0),(⟨0,0⟩:az0),(⟨0,0⟩:az0)),((⟨0,0⟩:az0),(⟨0,0⟩:az0),(⟨0,0⟩:az0))),((⟨0,0⟩:az0),(⟨0,0⟩:az0),(⟨0,0⟩:az0))⟩:azw))<|
 .grd (0≤g/\g≤g/\g≤9223372036854775807/\g * 192≤140737488355328)<|
 .loop (fun (h:(Aj×Int))=>⟨[(1,.pure e),(5,.vec 0),(13,.pure f),(14,pz g),(15,pz h.2)],[(0,vecO 24 bzn h.1 266)],[],1⟩)
 (.exit 0) (fun (h:Aj)=>⟨[(5,.vec 0)],[(0,vecO 24 bzn h 266)],[],1⟩)
 (fun h=>let i:=(h.2).toNat;let j:=c.Joints.getD i default;let k:=j.Parent;.br (decide (h.2<g))
 (.cut 0 (fun (m:Aj)=>⟨[(1,.pure e),(5,.vec 0),(13,.pure f),(14,pz g),(15,pz h.2)],[(0,vecO 24 bzn m 266)],[],1⟩)
 (.gh h.2 c.Joints.length<|
 .gh h.2 d.length<|
 .cc (qz7 j (d.getD i default)) fun m=>let n:=h.1.set i m;let q:=n.length;
 .gh h.2 h.1.length<|
 .conv 5009 (fzg 24 bzn h.1 266 i m)<|
 .gi (h.2) h.1.length<|
 .br (k !=(-1))
 (.gg k q<|
 .gg h.2 q<|
 .call (iz8 (n.getD (k.toNat) default) (n.getD i default)) [] fun s=>
 .gh h.2 q<|
 .conv 7013 (fzg 24 bzn n 266 i s)<|
 .gi (h.2) q<|
 .oo (n.set i s))
 (.oo n)) fun m=>
 .nn (m,(i64.wrap (h.2+1))))
 (.oo h.1))
 ((List.replicate g.toNat ((⟨(((⟨0,0⟩:az0),(⟨0,0⟩:az0),(⟨0,0⟩:az0)),((⟨0,0⟩:az0),(⟨0,0⟩:az0),(⟨0,0⟩:az0)),((⟨0,0⟩:az0),(⟨0,0⟩:az0),(⟨0,0⟩:az0))),((⟨0,0⟩:az0),(⟨0,0⟩:az0),(⟨0,0⟩:az0))⟩:azw):azw)),0) [] fun h=>
 .ret h
noncomputable def qz9 (c)(d):=
 mkD Tryz.func199 (jzi c d) 0 [.pure (czp c),.pure (encL 2 aza d)] [] (fun r=>.pure (encL 24 bzn r)) (fun _=>[])
noncomputable def vzb (c:azx):T Bool:=let d:=encL 3 az1 c.Points;let e:=(c.Points.length:Int);.cut 2 (fun (f:Bool)=>⟨[(1,.ptr 0 0),(26,.pure (.bool f))],[(0,.box [pz c.Link,pz c.Radius,.pure d])],[],1⟩)
 (.br (decide (c.Radius<1))
 (.oo true)
 (.br (decide (c.Radius>1048576))
 (.oo true)
 (.br (decide (e<1))
 (.oo true)
 (.oo (decide (e>8)))))) fun f=>
 .br f
 (.ret false)
 (.loop (fun (g:Int)=>⟨[(28,.pure d),(29,pz e),(30,pz g)],[],[],0⟩)
 (.exit 0) (fun (_:U0)=>⟨[],[],[],0⟩)
 (fun g=>let h:=c.Points.getD (g.toNat) default;.br (decide (g<e))
 (.gh g c.Points.length<|
 .loop (fun (i:Int)=>⟨[(28,.pure d),(29,pz e),(30,pz g),(34,.pure (az1 h)),(35,pz i)],[],[],0⟩)
 (.exit 2) (fun (_:U0)=>⟨[(28,.pure d),(29,pz e),(30,pz g)],[],[],0⟩)
 (fun i=>.br (decide (i<3))
 (.gh i 3<|
 .name 8000 ((([h.1,h.2.1,h.2.2]:List Int).getD i.toNat 0)) fun j=>
 .cut 0 (fun (k:Bool)=>⟨[(28,.pure d),(29,pz e),(30,pz g),(34,.pure (az1 h)),(35,pz i),(43,.pure (.bool k))],[],[],0⟩)
 (.br (decide (j<(-4194304)))
 (.oo true)
 (.oo (decide (j>4194304)))) fun k=>
 .br k
 (.ff (.fin false))
 (.nn (i64.wrap (i+1))))
 (.oo .u))
 0 [] fun _=>
 .nn (i64.wrap (g+1)))
 (.oo .u))
 0 [] fun _=>
 .ret true)
noncomputable def Dzh (c):=
 mkD Tryz.func239 (vzb c) 0 [.pure (azo c)] [] (fun r=>.pure (.bool r)) (fun _=>[])
noncomputable def xzb (c:azw)(d:Ay):T Ay:=
 .cc (qzg c) fun e=>
 .call (lzu d e.1 e.2.1 e.2.2.1 e.2.2.2.1 e.2.2.2.2.1 e.2.2.2.2.2.1 e.2.2.2.2.2.2.1 e.2.2.2.2.2.2.2.1 e.2.2.2.2.2.2.2.2.1 e.2.2.2.2.2.2.2.2.2.1 e.2.2.2.2.2.2.2.2.2.2.1 e.2.2.2.2.2.2.2.2.2.2.2.1 e.2.2.2.2.2.2.2.2.2.2.2.2.1 e.2.2.2.2.2.2.2.2.2.2.2.2.2.1 e.2.2.2.2.2.2.2.2.2.2.2.2.2.2.1 e.2.2.2.2.2.2.2.2.2.2.2.2.2.2.2.1 e.2.2.2.2.2.2.2.2.2.2.2.2.2.2.2.2.1 e.2.2.2.2.2.2.2.2.2.2.2.2.2.2.2.2.2.1 e.2.2.2.2.2.2.2.2.2.2.2.2.2.2.2.2.2.2.1 e.2.2.2.2.2.2.2.2.2.2.2.2.2.2.2.2.2.2.2.1 e.2.2.2.2.2.2.2.2.2.2.2.2.2.2.2.2.2.2.2.2.1 e.2.2.2.2.2.2.2.2.2.2.2.2.2.2.2.2.2.2.2.2.2.1 e.2.2.2.2.2.2.2.2.2.2.2.2.2.2.2.2.2.2.2.2.2.2.1 e.2.2.2.2.2.2.2.2.2.2.2.2.2.2.2.2.2.2.2.2.2.2.2) [(0,256)] fun f=>
 .ret f.1
noncomputable def Fzs (c)(d):=
 mkD Tryz.func240 (xzb c d) 0 [.pure (bzn c),.pure (az2 d)] [] (fun r=>.pure (az2 r)) (fun _=>[])
noncomputable def vzc (c:azx)(d:azw):T Az:=let e:=(c.Points.length:Int);.cc (Dzh c) fun f=>
 .br (!f)
 (.ret nl)
 (.conv 3003 (Hzj 6 az2 239 e.toNat ((⟨0,0⟩:az0),(⟨0,0⟩:az0),(⟨0,0⟩:az0)))<|
 .grd (0≤e/\e≤e/\e≤9223372036854775807/\e * 48≤140737488355328)<|
 .loop (fun (g:(Az×Int))=>⟨[(3,.ptr 0 0),(5,.vec 1),(16,.pure (encL 3 az1 c.Points)),(17,pz e),(18,pz g.2)],[(0,.box [pz d.R.1.1.Lo,pz d.R.1.1.Hi,pz d.R.1.2.1.Lo,pz d.R.1.2.1.Hi,pz d.R.1.2.2.Lo,pz d.R.1.2.2.Hi,pz d.R.2.1.1.Lo,pz d.R.2.1.1.Hi,pz d.R.2.1.2.1.Lo,pz d.R.2.1.2.1.Hi,pz d.R.2.1.2.2.Lo,pz d.R.2.1.2.2.Hi,pz d.R.2.2.1.Lo,pz d.R.2.2.1.Hi,pz d.R.2.2.2.1.Lo,pz d.R.2.2.2.1.Hi,pz d.R.2.2.2.2.Lo,pz d.R.2.2.2.2.Hi,pz d.T.1.Lo,pz d.T.1.Hi,pz d.T.2.1.Lo,pz d.T.2.1.Hi,pz d.T.2.2.Lo,pz d.T.2.2.Hi]),(1,vecO 6 az2 g.1 239)],[],2⟩)
 (.exit 0) (fun (g:Az)=>⟨[(5,.vec 0)],[(0,vecO 6 az2 g 239)],[],1⟩)
 (fun g=>let h:=(g.2).toNat;.br (decide (g.2<e))
 (.gh g.2 c.Points.length<|
 .cc (lzq (c.Points.getD h default)) fun i=>
 .cc (Fzs (⟨d.R,d.T⟩:azw) i) fun j=>
 .gh g.2 g.1.length<|
 .conv 7007 (fzg 6 az2 g.1 239 h j)<|
 .gi (g.2) g.1.length<|
 .nn ((g.1.set h j),(i64.wrap (g.2+1))))
 (.oo g.1))
 ((List.replicate e.toNat (((⟨0,0⟩:az0),(⟨0,0⟩:az0),(⟨0,0⟩:az0)):Ay)),0) [] fun g=>
 .ret g)
noncomputable def Dzi (c)(d):=
 mkD Tryz.func201 (vzc c d) 0 [.pure (azo c),.pure (bzn d)] [] (fun r=>.pure (encL 6 az2 r)) (fun _=>[])
set_option maxHeartbeats 8000000 in
set_option maxRecDepth 20000 in
noncomputable def izq (a0:azg)(a1:Ag):T B0:=
 .cut 2 (fun (y12:Bool)=>⟨[(1,.pure (encL 2 aza a1)),(2,.ptr 0 0),(19,.pure (.bool y12))],[(0,.box [.pure (encL 12 azd a0.Robot.Joints),.pure (encL 5 azj a0.Robot.Masses),.pure (encL 3 azo a0.Shapes),.pure (encL 2 bz4 a0.Skips)])],[],1⟩)
 (.call (qz8 a0.Robot a1) [] fun y13=>
 .br (!y13)
 (.ret (.out true))
 (.call (dzn (⟨a0.Robot,a0.Shapes,a0.Skips⟩:azg)) [] fun y14=>
 .ret (.out (y14 !=0)))) fun y12=>
 .br y12
 (.ret nl)
 (.call (qz9 a0.Robot a1) [] fun y16=>
 .conv 4003 (az5l 1 (encL 6 az2) 182 ((a0.Shapes.length:Int)).toNat nl (.lst 0 0 fun _=>.unk) (by kernel_rfl))<|
 .grd (0≤(a0.Shapes.length:Int)/\(a0.Shapes.length:Int)≤(a0.Shapes.length:Int)/\(a0.Shapes.length:Int)≤9223372036854775807/\(a0.Shapes.length:Int) * 24≤140737488355328)<|
 .loop (fun (x53:(B0×Int))=>⟨[(5,.pure (encL 24 bzn y16)),(6,.vec 0),(29,.pure (encL 3 azo a0.Shapes)),(30,pz (a0.Shapes.length:Int)),(31,pz x53.2)],[(0,vecO 1 (encL 6 az2) x53.1 182)],[],1⟩)
 (.exit 0) (fun (y62:B0)=>⟨[(6,.vec 0)],[(0,vecO 1 (encL 6 az2) y62 182)],[],1⟩)
 (fun x53=>.br (decide (x53.2<(a0.Shapes.length:Int)))
 (.grd (0≤x53.2/\x53.2<(a0.Shapes.length:Int))<|
 .call (pose_Identity_C) [] fun y68=>
 .cut 0 (fun (y69:Bf)=>⟨[(5,.pure (encL 24 bzn y16)),(6,.vec 0),(7,pz x53.2),(8,.ptr 1 0),(9,.ptr 2 0),(29,.pure (encL 3 azo a0.Shapes)),(30,pz (a0.Shapes.length:Int)),(31,pz x53.2)],[(0,vecO 1 (encL 6 az2) x53.1 182),(1,.box [pz ((a0.Shapes.getD ((x53.2).toNat) default).Link),pz ((a0.Shapes.getD ((x53.2).toNat) default).Radius),.pure (encL 3 az1 ((a0.Shapes.getD ((x53.2).toNat) default).Points))]),(2,.box [pz y69.1,pz y69.2.1,pz y69.2.2.1,pz y69.2.2.2.1,pz y69.2.2.2.2.1,pz y69.2.2.2.2.2.1,pz y69.2.2.2.2.2.2.1,pz y69.2.2.2.2.2.2.2.1,pz y69.2.2.2.2.2.2.2.2.1,pz y69.2.2.2.2.2.2.2.2.2.1,pz y69.2.2.2.2.2.2.2.2.2.2.1,pz y69.2.2.2.2.2.2.2.2.2.2.2.1,pz y69.2.2.2.2.2.2.2.2.2.2.2.2.1,pz y69.2.2.2.2.2.2.2.2.2.2.2.2.2.1,pz y69.2.2.2.2.2.2.2.2.2.2.2.2.2.2.1,pz y69.2.2.2.2.2.2.2.2.2.2.2.2.2.2.2.1,pz y69.2.2.2.2.2.2.2.2.2.2.2.2.2.2.2.2.1,pz y69.2.2.2.2.2.2.2.2.2.2.2.2.2.2.2.2.2.1,pz y69.2.2.2.2.2.2.2.2.2.2.2.2.2.2.2.2.2.2.1,pz y69.2.2.2.2.2.2.2.2.2.2.2.2.2.2.2.2.2.2.2.1,pz y69.2.2.2.2.2.2.2.2.2.2.2.2.2.2.2.2.2.2.2.2.1,pz y69.2.2.2.2.2.2.2.2.2.2.2.2.2.2.2.2.2.2.2.2.2.1,pz y69.2.2.2.2.2.2.2.2.2.2.2.2.2.2.2.2.2.2.2.2.2.2.1,pz y69.2.2.2.2.2.2.2.2.2.2.2.2.2.2.2.2.2.2.2.2.2.2.2])],[],3⟩)
 (.br (((a0.Shapes.getD ((x53.2).toNat) default).Link) !=(-1))
 (.grd (0≤((a0.Shapes.getD ((x53.2).toNat) default).Link)/\((a0.Shapes.getD ((x53.2).toNat) default).Link)<(y16.length:Int))<|
 .ret (.out ((y16.getD (((a0.Shapes.getD ((x53.2).toNat) default).Link).toNat) default).R.1.1.Lo,(y16.getD (((a0.Shapes.getD ((x53.2).toNat) default).Link).toNat) default).R.1.1.Hi,(y16.getD (((a0.Shapes.getD ((x53.2).toNat) default).Link).toNat) default).R.1.2.1.Lo,(y16.getD (((a0.Shapes.getD ((x53.2).toNat) default).Link).toNat) default).R.1.2.1.Hi,(y16.getD (((a0.Shapes.getD ((x53.2).toNat) default).Link).toNat) default).R.1.2.2.Lo,(y16.getD (((a0.Shapes.getD ((x53.2).toNat) default).Link).toNat) default).R.1.2.2.Hi,(y16.getD (((a0.Shapes.getD ((x53.2).toNat) default).Link).toNat) default).R.2.1.1.Lo,(y16.getD (((a0.Shapes.getD ((x53.2).toNat) default).Link).toNat) default).R.2.1.1.Hi,(y16.getD (((a0.Shapes.getD ((x53.2).toNat) default).Link).toNat) default).R.2.1.2.1.Lo,(y16.getD (((a0.Shapes.getD ((x53.2).toNat) default).Link).toNat) default).R.2.1.2.1.Hi,(y16.getD (((a0.Shapes.getD ((x53.2).toNat) default).Link).toNat) default).R.2.1.2.2.Lo,(y16.getD (((a0.Shapes.getD ((x53.2).toNat) default).Link).toNat) default).R.2.1.2.2.Hi,(y16.getD (((a0.Shapes.getD ((x53.2).toNat) default).Link).toNat) default).R.2.2.1.Lo,(y16.getD (((a0.Shapes.getD ((x53.2).toNat) default).Link).toNat) default).R.2.2.1.Hi,(y16.getD (((a0.Shapes.getD ((x53.2).toNat) default).Link).toNat) default).R.2.2.2.1.Lo,(y16.getD (((a0.Shapes.getD ((x53.2).toNat) default).Link).toNat) default).R.2.2.2.1.Hi,(y16.getD (((a0.Shapes.getD ((x53.2).toNat) default).Link).toNat) default).R.2.2.2.2.Lo,(y16.getD (((a0.Shapes.getD ((x53.2).toNat) default).Link).toNat) default).R.2.2.2.2.Hi,(y16.getD (((a0.Shapes.getD ((x53.2).toNat) default).Link).toNat) default).T.1.Lo,(y16.getD (((a0.Shapes.getD ((x53.2).toNat) default).Link).toNat) default).T.1.Hi,(y16.getD (((a0.Shapes.getD ((x53.2).toNat) default).Link).toNat) default).T.2.1.Lo,(y16.getD (((a0.Shapes.getD ((x53.2).toNat) default).Link).toNat) default).T.2.1.Hi,(y16.getD (((a0.Shapes.getD ((x53.2).toNat) default).Link).toNat) default).T.2.2.Lo,(y16.getD (((a0.Shapes.getD ((x53.2).toNat) default).Link).toNat) default).T.2.2.Hi)))
 (.ret (.out (y68.R.1.1.Lo,y68.R.1.1.Hi,y68.R.1.2.1.Lo,y68.R.1.2.1.Hi,y68.R.1.2.2.Lo,y68.R.1.2.2.Hi,y68.R.2.1.1.Lo,y68.R.2.1.1.Hi,y68.R.2.1.2.1.Lo,y68.R.2.1.2.1.Hi,y68.R.2.1.2.2.Lo,y68.R.2.1.2.2.Hi,y68.R.2.2.1.Lo,y68.R.2.2.1.Hi,y68.R.2.2.2.1.Lo,y68.R.2.2.2.1.Hi,y68.R.2.2.2.2.Lo,y68.R.2.2.2.2.Hi,y68.T.1.Lo,y68.T.1.Hi,y68.T.2.1.Lo,y68.T.2.1.Hi,y68.T.2.2.Lo,y68.T.2.2.Hi)))) fun y69=>
 .call (Dzi (a0.Shapes.getD ((x53.2).toNat) default) (⟨(((⟨y69.1,y69.2.1⟩:az0),(⟨y69.2.2.1,y69.2.2.2.1⟩:az0),(⟨y69.2.2.2.2.1,y69.2.2.2.2.2.1⟩:az0)),((⟨y69.2.2.2.2.2.2.1,y69.2.2.2.2.2.2.2.1⟩:az0),(⟨y69.2.2.2.2.2.2.2.2.1,y69.2.2.2.2.2.2.2.2.2.1⟩:az0),(⟨y69.2.2.2.2.2.2.2.2.2.2.1,y69.2.2.2.2.2.2.2.2.2.2.2.1⟩:az0)),((⟨y69.2.2.2.2.2.2.2.2.2.2.2.2.1,y69.2.2.2.2.2.2.2.2.2.2.2.2.2.1⟩:az0),(⟨y69.2.2.2.2.2.2.2.2.2.2.2.2.2.2.1,y69.2.2.2.2.2.2.2.2.2.2.2.2.2.2.2.1⟩:az0),(⟨y69.2.2.2.2.2.2.2.2.2.2.2.2.2.2.2.2.1,y69.2.2.2.2.2.2.2.2.2.2.2.2.2.2.2.2.2.1⟩:az0))),((⟨y69.2.2.2.2.2.2.2.2.2.2.2.2.2.2.2.2.2.2.1,y69.2.2.2.2.2.2.2.2.2.2.2.2.2.2.2.2.2.2.2.1⟩:az0),(⟨y69.2.2.2.2.2.2.2.2.2.2.2.2.2.2.2.2.2.2.2.2.1,y69.2.2.2.2.2.2.2.2.2.2.2.2.2.2.2.2.2.2.2.2.2.1⟩:az0),(⟨y69.2.2.2.2.2.2.2.2.2.2.2.2.2.2.2.2.2.2.2.2.2.2.1,y69.2.2.2.2.2.2.2.2.2.2.2.2.2.2.2.2.2.2.2.2.2.2.2⟩:az0))⟩:azw)) [] fun y70=>
 .grd (0≤x53.2/\x53.2<(x53.1.length:Int))<|
 .conv 11006 (fzg 1 (encL 6 az2) x53.1 182 ((x53.2).toNat) y70)<|
 .grd ((x53.2).toNat<x53.1.length/\0≤(x53.2).toNat)<|
 .ret (.next ((x53.1.set ((x53.2).toNat) y70),(i64.wrap (x53.2+1)))))
 (.ret (.out x53.1)))
 ((List.replicate ((a0.Shapes.length:Int)).toNat (nl:Az)),0) [] fun y62=>
 .ret y62)
noncomputable def ozt (c)(d):=
 mkD Tryz.func167 (izq c d) 0 [.pure (cze c),.pure (encL 2 aza d)] [] (fun r=>.pure (encL 1 (encL 6 az2) r)) (fun _=>[])
noncomputable def mzm (c:azg)(d:Ag):T (czm×Bool):=let e:=encL 2 aza d;let f:=(d.length:Int);let g:Nat×Res:=(0,.box [.pure (encL 12 azd c.Robot.Joints),.pure (encL 5 azj c.Robot.Masses),.pure (encL 3 azo c.Shapes),.pure (encL 2 bz4 c.Skips)]);.cut 2 (fun (h:Bool)=>⟨[(1,.pure e),(2,.ptr 0 0),(4,.ptr 1 0),(19,.pure (.bool h))],[g,(1,.box [.vec 2,.vec 3,.vec 4]),(2,.nilv),(3,.nilv),(4,.nilv)],[],5⟩)
 (.cc (dzn c) fun h=>
 .br (h !=0)
 (.oo true)
 (.oo (f !=(c.Robot.Joints.length:Int)))) fun h=>
 .br h
 (.ret ((⟨nl,nl,nl⟩:czm),false))
 (.loop (fun (i:Int)=>⟨[(1,.pure e),(2,.ptr 0 0),(4,.ptr 1 0),(21,.pure e),(22,pz f),(23,pz i)],[g,(1,.box [.vec 2,.vec 3,.vec 4]),(2,.nilv),(3,.nilv),(4,.nilv)],[],5⟩)
 (.exit 0) (fun (_:U0)=>⟨[(1,.pure e),(2,.ptr 0 0),(4,.ptr 1 0)],[g,(1,.box [.vec 2,.vec 3,.vec 4]),(2,.nilv),(3,.nilv),(4,.nilv)],[],5⟩)
 (fun i=>.br (decide (i<f))
 (.gh i d.length<|
 .cc (cz5 (d.getD (i.toNat) default)) fun j=>
 .br (!j)
 (.ff ((⟨nl,nl,nl⟩:czm),false))
 (.nn (i64.wrap (i+1))))
 (.oo .u))
 0 [] fun _=>
 .cc (Dzd c) fun i=>
 .cc (ozt (⟨c.Robot,c.Shapes,c.Skips⟩:azg) d) fun j=>
 .ret ((⟨c.Shapes,i,j⟩:czm),true))
noncomputable def vzl (c)(d):=
 mkD Tryz.func137 (mzm c d) 0 [.pure (cze c),.pure (encL 2 aza d)] [] (fun r=>.tup [.pure (tz3 r.1),.pure (.bool r.2)]) (fun _=>[])
noncomputable def tzv (c:czm)(d:Int):T fzm:=let e:=c.pairs.getD (d.toNat) default;let f:=e.A;let g:=e.B;.gh d c.pairs.length<|
 .gh f c.points.length<|
 .gh f c.shapes.length<|
 .gh g c.points.length<|
 .gh g c.shapes.length<|
 .ret (⟨(c.points.getD (f.toNat) default),(c.points.getD (g.toNat) default),(c.shapes.getD (f.toNat) default).Radius,(c.shapes.getD (g.toNat) default).Radius⟩:fzm)
noncomputable def Bzt (c)(d):=
 mkD Tryz.func138 (tzv c d) 0 [.pure (tz3 c),pz d] [] (fun r=>.pure (Azr r)) (fun _=>[])
noncomputable def zzf (c:Az)(d:Int)(e:Az)(f:Int)(g:Av):T (Az×Az×Int×Int×Av):=
 .ret (c,e,d,f,g)
noncomputable def hzy (c)(d)(e)(f)(g):=
 mkD Tryz.func169 (zzf c d e f g) 0 [.pure (encL 6 az2 c),pz d,.pure (encL 6 az2 e),pz f,.pure (encL 3 az1 g)] [] (fun _=>.func 202 [] [.ptr 0 0,.ptr 1 0,.ptr 2 0,.ptr 3 0,.ptr 4 0]) (fun r=>[(0,.box [.pure (encL 6 az2 r.1)]),(1,.box [.pure (encL 6 az2 r.2.1)]),(2,.box [pz r.2.2.1]),(3,.box [pz r.2.2.2.1]),(4,.box [.pure (encL 3 az1 r.2.2.2.2)])])
noncomputable def Qzp (c:Az)(d:Int)(e:Az)(f:Int):T dzi:=
 .ret (⟨(⟨c,d⟩:fzb),(⟨e,f⟩:fzb)⟩:dzi)
noncomputable def Fzr (c)(d)(e)(f):=
 mkD Tryz.func208 (Qzp c d e f) 0 [.pure (encL 6 az2 c),pz d,.pure (encL 6 az2 e),pz f] [] (fun r=>.pure (ozn r)) (fun _=>[])
noncomputable def szo (c:Az):T Bool:=let d:=encL 6 az2 c;let e:=(c.length:Int);.cut 2 (fun (f:Bool)=>⟨[(0,.pure d),(14,.pure (.bool f))],[],[],0⟩)
 (.br (decide (e<1))
 (.oo true)
 (.oo (decide (e>8)))) fun f=>
 .br f
 (.ret false)
 (.loop (fun (g:Int)=>⟨[(15,.pure d),(16,pz e),(17,pz g)],[],[],0⟩)
 (.exit 0) (fun (_:U0)=>⟨[],[],[],0⟩)
 (fun g=>let h:=c.getD (g.toNat) default;let i:=az2 h;.br (decide (g<e))
 (.gh g c.length<|
 .unroll 4<|
 .known true<|
 .ix 0 3 rfl<|
 .cut 0 (fun (j:Bool)=>⟨[(15,.pure d),(16,pz e),(17,pz g),(21,.pure i),(22,pz 0),(39,.pure (.bool j))],[],[],0⟩)
 (.br (decide ((h.1.Lo)<(-268435456)))
 (.oo true)
 (.br (decide ((h.1.Lo)>(h.1.Hi)))
 (.oo true)
 (.oo (decide ((h.1.Hi)>268435456))))) fun j=>
 .br j
 (.ff false)
 (.lit 11000 (1)<|
 .known true<|
 .ix 1 3 rfl<|
 .cut 0 (fun (k:Bool)=>⟨[(15,.pure d),(16,pz e),(17,pz g),(21,.pure i),(22,pz 1),(39,.pure (.bool k))],[],[],0⟩)
 (.br (decide ((h.2.1.Lo)<(-268435456)))
 (.oo true)
 (.br (decide ((h.2.1.Lo)>(h.2.1.Hi)))
 (.oo true)
 (.oo (decide ((h.2.1.Hi)>268435456))))) fun k=>
 .br k
 (.ff false)
 (.lit 11000 (2)<|
 .known true<|
 .ix 2 3 rfl<|
 .cut 0 (fun (m:Bool)=>⟨[(15,.pure d),(16,pz e),(17,pz g),(21,.pure i),(22,pz 2),(39,.pure (.bool m))],[],[],0⟩)
 (.br (decide ((h.2.2.Lo)<(-268435456)))
 (.oo true)
 (.br (decide ((h.2.2.Lo)>(h.2.2.Hi)))
 (.oo true)
 (.oo (decide ((h.2.2.Hi)>268435456))))) fun m=>
 .br m
 (.ff false)
 (.lit 11000 (3)<|
 .known false<|
 .nn (i64.wrap (g+1))))))
 (.oo .u))
 0 [] fun _=>
 .ret true)
noncomputable def dzh (c):=
 mkD Tryz.func174 (szo c) 0 [.pure (encL 6 az2 c)] [] (fun r=>.pure (.bool r)) (fun _=>[])
noncomputable def yzp (c:fzb):T Bool:=
 .cc (dzh c.points) fun d=>
 .br d
 (.br (decide (0≤c.radius))
 (.ret (decide (c.radius≤1048576)))
 (.ret false))
 (.ret false)
noncomputable def yzo (c):=
 mkD Tryz.func265 (yzp c) 0 [.pure (Kz4 c)] [] (fun r=>.pure (.bool r)) (fun _=>[])
noncomputable def lzj (c:Au):T Bool:=
 .loop (fun (d:Int)=>⟨[(5,.pure (az1 c)),(6,pz d)],[],[],0⟩)
 (.exit 0) (fun (_:U0)=>⟨[],[],[],0⟩)
 (fun d=>let e:=([c.1,c.2.1,c.2.2]:List Int).getD d.toNat 0;.br (decide (d<3))
 (.gh d 3<|
 .cut 0 (fun (f:Bool)=>⟨[(5,.pure (az1 c)),(6,pz d),(14,.pure (.bool f))],[],[],0⟩)
 (.br (decide (e<(-16384)))
 (.oo true)
 (.oo (decide (e>16384)))) fun f=>
 .br f
 (.ff false)
 (.nn (i64.wrap (d+1))))
 (.oo .u))
 0 [] fun _=>
 .ret true
noncomputable def ezz (c):=
 mkD Tryz.func242 (lzj c) 0 [.pure (az1 c)] [] (fun r=>.pure (.bool r)) (fun _=>[])
noncomputable def nzi (c:Au):T Bool:=
 .cc (ezz c) fun d=>
 .br d
 (.ret (!((c.1==0)&&((c.2.1==0)&&((c.2.2==0)&&true)))))
 (.ret false)
noncomputable def fz9 (c):=
 mkD Tryz.func204 (nzi c) 0 [.pure (az1 c)] [] (fun r=>.pure (.bool r)) (fun _=>[])
noncomputable def Dzv (c:Au):T Au:=
 .ret (c.1,c.2.1,c.2.2)
noncomputable def qzx (c):=
 mkD Tryz.func284 (Dzv c) 0 [.pure (az1 c)] [] (fun _=>.agg [.func 296 [] [.ptr 0 0],.func 298 [] []]) (fun r=>[(0,.box [pz r.1,pz r.2.1,pz r.2.2])])
noncomputable def vzh (c:Au)(d:Ay):T An:=let e:=i64.wrap (c.1 * d.1.Lo);let f:=i64.wrap (c.1 * d.1.Hi);let g:=i64.wrap (c.2.1 * d.2.1.Lo);let h:=i64.wrap (c.2.1 * d.2.1.Hi);let i:=i64.wrap (c.2.2 * d.2.2.Lo);let j:=i64.wrap (c.2.2 * d.2.2.Hi);.unroll 4<|
 .known true<|
 .ix 0 3 rfl<|
 .ix 0 3 rfl<|
 .ix 0 3 rfl<|
 .name 6004 ((i64.wrap (0+(min e f)))) fun k=>
 .name 7004 ((i64.wrap (0+(max e f)))) fun m=>
 .lit 8000 (1)<|
 .known true<|
 .ix 1 3 rfl<|
 .ix 1 3 rfl<|
 .ix 1 3 rfl<|
 .name 6004 ((i64.wrap (k+(min g h)))) fun n=>
 .name 7004 ((i64.wrap (m+(max g h)))) fun q=>
 .lit 8000 (2)<|
 .known true<|
 .ix 2 3 rfl<|
 .ix 2 3 rfl<|
 .ix 2 3 rfl<|
 .name 6004 ((i64.wrap (n+(min i j)))) fun s=>
 .name 7004 ((i64.wrap (q+(max i j)))) fun t=>
 .lit 8000 (3)<|
 .known false<|
 .ret (s,t)
noncomputable def vzg (c)(d):=
 mkD Tryz.func297 (vzh c d) 0 [.pure (az1 c),.pure (az2 d)] [] (fun r=>.tup [pz r.1,pz r.2]) (fun _=>[])
noncomputable def iz2 (c:Ay)(d:Int)(e:Int)(f:Int):T B7:=
 .cc (vzg (d,e,f) ((⟨c.1.Lo,c.1.Hi⟩:az0),(⟨c.2.1.Lo,c.2.1.Hi⟩:az0),(⟨c.2.2.Lo,c.2.2.Hi⟩:az0))) fun g=>
 .ret (g.1,d,e,f)
noncomputable def nzo (c)(d)(e)(f):=
 mkD Tryz.func296 (iz2 c d e f) 1 [.pure (az2 c),.ptr 0 0] [(0,.box [pz d,pz e,pz f])] (fun r=>pz r.1) (fun r=>[(0,.box [pz r.2.1,pz r.2.2.1,pz r.2.2.2])])
noncomputable def zzi (c:Int)(d:Int):T Bool:=
 .ret (decide (c<d))
noncomputable def nzp (c)(d):=
 mkD Tryz.func298 (zzi c d) 0 [pz c,pz d] [] (fun r=>.pure (.bool r)) (fun _=>[])
noncomputable def mzp (c:Int)(d:Int)(e:Int)(f:Az):T B9:=let g:=encL 6 az2 f;let h:=(f.length:Int);.loop (fun (i:Ba)=>⟨[(2,.ptr 1 0),(6,pz i.2.2.2.1),(7,pz i.2.2.2.2.1),(11,.pure g),(12,pz h),(13,pz i.2.2.2.2.2)],[(0,.box [pz i.1,pz i.2.1,pz i.2.2.1]),(1,.box [.func 296 [] [.ptr 0 0],.func 298 [] []])],[],2⟩)
 (.exit 0) (fun (i:B9)=>⟨[(6,pz i.2.2.2.1),(7,pz i.2.2.2.2)],[(0,.box [pz i.1,pz i.2.1,pz i.2.2.1])],[],1⟩)
 (fun i=>.br (decide (i.2.2.2.2.2<h))
 (.cut 0 (fun (j:B9)=>⟨[(2,.ptr 1 0),(6,pz j.2.2.2.1),(7,pz j.2.2.2.2),(11,.pure g),(12,pz h),(13,pz i.2.2.2.2.2)],[(0,.box [pz j.1,pz j.2.1,pz j.2.2.1]),(1,.box [.func 296 [] [.ptr 0 0],.func 298 [] []])],[],2⟩)
 (.gh i.2.2.2.2.2 f.length<|
 .call (nzo (f.getD ((i.2.2.2.2.2).toNat) default) i.1 i.2.1 i.2.2.1) [(0,0)] fun j=>
 .cut 0 (fun (k:Bool)=>⟨[(2,.ptr 1 0),(6,pz i.2.2.2.1),(7,pz i.2.2.2.2.1),(8,pz i.2.2.2.2.2),(10,pz j.1),(11,.pure g),(12,pz h),(13,pz i.2.2.2.2.2),(30,.pure (.bool k))],[(0,.box [pz j.2.1,pz j.2.2.1,pz j.2.2.2]),(1,.box [.func 296 [] [.ptr 0 0],.func 298 [] []])],[],2⟩)
 (.br (i.2.2.2.2.2==0)
 (.oo true)
 (.cc (nzp j.1 i.2.2.2.1) fun k=>
 .oo k)) fun k=>
 .br k
 (.oo (j.2.1,j.2.2.1,j.2.2.2,j.1,i.2.2.2.2.2))
 (.oo (j.2.1,j.2.2.1,j.2.2.2,i.2.2.2.1,i.2.2.2.2.1))) fun j=>
 .nn (j.1,j.2.1,j.2.2.1,j.2.2.2.1,j.2.2.2.2,(i64.wrap (i.2.2.2.2.2+1))))
 (.oo (i.1,i.2.1,i.2.2.1,i.2.2.2.1,i.2.2.2.2.1)))
 (c,d,e,0,0,0) [] fun i=>
 .ret (i.2.2.2.1,i.2.2.2.2,i.1,i.2.1,i.2.2.1)
noncomputable def vzo (c)(d)(e)(f):=
 mkD Tryz.func285 (mzp c d e f) 1 [.agg [.func 296 [] [.ptr 0 0],.func 298 [] []],.pure (encL 6 az2 f)] [(0,.box [pz c,pz d,pz e])] (fun r=>.tup [pz r.1,pz r.2.1]) (fun r=>[(0,.box [pz r.2.2.1,pz r.2.2.2.1,pz r.2.2.2.2])])
noncomputable def pzt (c:Au)(d:Az):T B2:=
 .cut 2 (fun (e:Bool)=>⟨[(1,.pure (encL 6 az2 d)),(2,.ptr 0 0),(16,.pure (.bool e))],[(0,.box [pz c.1,pz c.2.1,pz c.2.2])],[],1⟩)
 (.cc (fz9 c) fun e=>
 .br (!e)
 (.oo true)
 (.cc (dzh d) fun f=>
 .oo (!f))) fun e=>
 .br e
 (.ret (0,0,false))
 (.cc (qzx (c.1,c.2.1,c.2.2)) fun f=>
 .call (vzo f.1 f.2.1 f.2.2 d) [(0,65)] fun g=>
 .ret (g.1,g.2.1,true))
noncomputable def yzr (c)(d):=
 mkD Tryz.func266 (pzt c d) 0 [.pure (az1 c),.pure (encL 6 az2 d)] [] (fun r=>.tup [pz r.1,pz r.2.1,.pure (.bool r.2.2)]) (fun _=>[])
noncomputable def Gzx (c:Au):T Au:=
 .ret (c.1,c.2.1,c.2.2)
noncomputable def wz7 (c):=
 mkD Tryz.func286 (Gzx c) 0 [.pure (az1 c)] [] (fun _=>.agg [.func 299 [] [.ptr 0 0],.func 300 [] []]) (fun r=>[(0,.box [pz r.1,pz r.2.1,pz r.2.2])])
noncomputable def kzm (c:Ay)(d:Int)(e:Int)(f:Int):T B7:=
 .cc (vzg (d,e,f) c) fun g=>
 .ret (g.2,d,e,f)
noncomputable def qzy (c)(d)(e)(f):=
 mkD Tryz.func299 (kzm c d e f) 1 [.pure (az2 c),.ptr 0 0] [(0,.box [pz d,pz e,pz f])] (fun r=>pz r.1) (fun r=>[(0,.box [pz r.2.1,pz r.2.2.1,pz r.2.2.2])])
noncomputable def Dzw (c:Int)(d:Int):T Bool:=
 .ret (decide (c>d))
noncomputable def qzz (c)(d):=
 mkD Tryz.func300 (Dzw c d) 0 [pz c,pz d] [] (fun r=>.pure (.bool r)) (fun _=>[])
noncomputable def jz8 (c:Int)(d:Int)(e:Int)(f:Az):T B9:=let g:=encL 6 az2 f;let h:=(f.length:Int);.loop (fun (i:Ba)=>⟨[(2,.ptr 1 0),(6,pz i.2.2.2.1),(7,pz i.2.2.2.2.1),(11,.pure g),(12,pz h),(13,pz i.2.2.2.2.2)],[(0,.box [pz i.1,pz i.2.1,pz i.2.2.1]),(1,.box [.func 299 [] [.ptr 0 0],.func 300 [] []])],[],2⟩)
 (.exit 0) (fun (i:B9)=>⟨[(6,pz i.2.2.2.1),(7,pz i.2.2.2.2)],[(0,.box [pz i.1,pz i.2.1,pz i.2.2.1])],[],1⟩)
 (fun i=>.br (decide (i.2.2.2.2.2<h))
 (.cut 0 (fun (j:B9)=>⟨[(2,.ptr 1 0),(6,pz j.2.2.2.1),(7,pz j.2.2.2.2),(11,.pure g),(12,pz h),(13,pz i.2.2.2.2.2)],[(0,.box [pz j.1,pz j.2.1,pz j.2.2.1]),(1,.box [.func 299 [] [.ptr 0 0],.func 300 [] []])],[],2⟩)
 (.gh i.2.2.2.2.2 f.length<|
 .call (qzy (f.getD ((i.2.2.2.2.2).toNat) default) i.1 i.2.1 i.2.2.1) [(0,0)] fun j=>
 .cut 0 (fun (k:Bool)=>⟨[(2,.ptr 1 0),(6,pz i.2.2.2.1),(7,pz i.2.2.2.2.1),(8,pz i.2.2.2.2.2),(10,pz j.1),(11,.pure g),(12,pz h),(13,pz i.2.2.2.2.2),(30,.pure (.bool k))],[(0,.box [pz j.2.1,pz j.2.2.1,pz j.2.2.2]),(1,.box [.func 299 [] [.ptr 0 0],.func 300 [] []])],[],2⟩)
 (.br (i.2.2.2.2.2==0)
 (.oo true)
 (.cc (qzz j.1 i.2.2.2.1) fun k=>
 .oo k)) fun k=>
 .br k
 (.oo (j.2.1,j.2.2.1,j.2.2.2,j.1,i.2.2.2.2.2))
 (.oo (j.2.1,j.2.2.1,j.2.2.2,i.2.2.2.1,i.2.2.2.2.1))) fun j=>
 .nn (j.1,j.2.1,j.2.2.1,j.2.2.2.1,j.2.2.2.2,(i64.wrap (i.2.2.2.2.2+1))))
 (.oo (i.1,i.2.1,i.2.2.1,i.2.2.2.1,i.2.2.2.2.1)))
 (c,d,e,0,0,0) [] fun i=>
 .ret (i.2.2.2.1,i.2.2.2.2,i.1,i.2.1,i.2.2.1)
noncomputable def qz5 (c)(d)(e)(f):=
 mkD Tryz.func285 (jz8 c d e f) 1 [.agg [.func 299 [] [.ptr 0 0],.func 300 [] []],.pure (encL 6 az2 f)] [(0,.box [pz c,pz d,pz e])] (fun r=>.tup [pz r.1,pz r.2.1]) (fun r=>[(0,.box [pz r.2.2.1,pz r.2.2.2.1,pz r.2.2.2.2])])
noncomputable def kzl (c:Au)(d:Az):T B2:=
 .cut 2 (fun (e:Bool)=>⟨[(1,.pure (encL 6 az2 d)),(2,.ptr 0 0),(16,.pure (.bool e))],[(0,.box [pz c.1,pz c.2.1,pz c.2.2])],[],1⟩)
 (.cc (fz9 c) fun e=>
 .br (!e)
 (.oo true)
 (.cc (dzh d) fun f=>
 .oo (!f))) fun e=>
 .br e
 (.ret (0,0,false))
 (.cc (wz7 (c.1,c.2.1,c.2.2)) fun f=>
 .call (qz5 f.1 f.2.1 f.2.2 d) [(0,65)] fun g=>
 .ret (g.1,g.2.1,true))
noncomputable def qzw (c)(d):=
 mkD Tryz.func267 (kzl c d) 0 [.pure (az1 c),.pure (encL 6 az2 d)] [] (fun r=>.tup [pz r.1,pz r.2.1,.pure (.bool r.2.2)]) (fun _=>[])
noncomputable def Ezk (c:Int):T Int:=
 .cut 1 (fun (d:An)=>⟨[(0,.pure (.int .u64 d.1)),(2,pz d.2)],[],[],0⟩)
 (.br (decide (c≥4294967296))
 (.ok (0≤(32:Int)) (by decide)<|
 .oo ((c.fdiv (2 ^ (min (32:Int).toNat 64))),32))
 (.oo (c,0))) fun d=>
 .cut 0 (fun (e:An)=>⟨[(0,.pure (.int .u64 e.1)),(2,pz e.2)],[],[],0⟩)
 (.br (decide (d.1≥65536))
 (.ok (0≤(16:Int)) (by decide)<|
 .oo ((d.1.fdiv (2 ^ (min (16:Int).toNat 64))),(i64.wrap (d.2+16))))
 (.oo (d.1,d.2))) fun e=>
 .cut 0 (fun (f:An)=>⟨[(0,.pure (.int .u64 f.1)),(2,pz f.2)],[],[],0⟩)
 (.br (decide (e.1≥256))
 (.ok (0≤(8:Int)) (by decide)<|
 .oo ((e.1.fdiv (2 ^ (min (8:Int).toNat 64))),(i64.wrap (e.2+8))))
 (.oo (e.1,e.2))) fun f=>let g:=IntKind.u8.wrap f.1;
 .gh g ((⟨#[0,1,2,2,3,3,3,3,4,4,4,4,4,4,4,4,5,5,5,5,5,5,5,5,5,5,5,5,5,5,5,5,6,6,6,6,6,6,6,6,6,6,6,6,6,6,6,6,6,6,6,6,6,6,6,6,6,6,6,6,6,6,6,6,7,7,7,7,7,7,7,7,7,7,7,7,7,7,7,7,7,7,7,7,7,7,7,7,7,7,7,7,7,7,7,7,7,7,7,7,7,7,7,7,7,7,7,7,7,7,7,7,7,7,7,7,7,7,7,7,7,7,7,7,7,7,7,7,8,8,8,8,8,8,8,8,8,8,8,8,8,8,8,8,8,8,8,8,8,8,8,8,8,8,8,8,8,8,8,8,8,8,8,8,8,8,8,8,8,8,8,8,8,8,8,8,8,8,8,8,8,8,8,8,8,8,8,8,8,8,8,8,8,8,8,8,8,8,8,8,8,8,8,8,8,8,8,8,8,8,8,8,8,8,8,8,8,8,8,8,8,8,8,8,8,8,8,8,8,8,8,8,8,8,8,8,8,8,8,8,8,8,8,8,8,8,8,8,8,8,8,8,8,8,8,8]⟩:ByteArray).size)<|
 .name 10003 ((((⟨#[0,1,2,2,3,3,3,3,4,4,4,4,4,4,4,4,5,5,5,5,5,5,5,5,5,5,5,5,5,5,5,5,6,6,6,6,6,6,6,6,6,6,6,6,6,6,6,6,6,6,6,6,6,6,6,6,6,6,6,6,6,6,6,6,7,7,7,7,7,7,7,7,7,7,7,7,7,7,7,7,7,7,7,7,7,7,7,7,7,7,7,7,7,7,7,7,7,7,7,7,7,7,7,7,7,7,7,7,7,7,7,7,7,7,7,7,7,7,7,7,7,7,7,7,7,7,7,7,8,8,8,8,8,8,8,8,8,8,8,8,8,8,8,8,8,8,8,8,8,8,8,8,8,8,8,8,8,8,8,8,8,8,8,8,8,8,8,8,8,8,8,8,8,8,8,8,8,8,8,8,8,8,8,8,8,8,8,8,8,8,8,8,8,8,8,8,8,8,8,8,8,8,8,8,8,8,8,8,8,8,8,8,8,8,8,8,8,8,8,8,8,8,8,8,8,8,8,8,8,8,8,8,8,8,8,8,8,8,8,8,8,8,8,8,8,8,8,8,8,8,8,8,8,8,8,8]⟩:ByteArray).data.getD g.toNat 0).toNat:Int)) fun h=>
 .ret (i64.wrap (f.2+(i64.wrap h)))
noncomputable def lz2 (c):=
 mkD Tryz.func287 (Ezk c) 0 [.pure (.int .u64 c)] [] (fun r=>pz r) (fun _=>[])
noncomputable def wzr (c:Int):T Int:=let d:=IntKind.u64.wrap c;.br (decide (c≤0))
 (.ret 0)
 (.cc (lz2 d) fun e=>let f:=i64.wrap ((i64.wrap (e+1)).tdiv 2);
 .ok ((2:Int)≠0) (by decide)<|
 .grd (0≤f)<|
 .loop (fun (g:Au)=>⟨[(0,pz c),(4,.pure (.int .u64 g.1)),(5,.pure (.int .u64 g.2.1)),(16,pz f),(17,pz g.2.2)],[],[],0⟩)
 (.exit 0) (fun (g:Int)=>⟨[(4,.pure (.int .u64 g))],[],[],0⟩)
 (fun g=>.br (decide (g.2.2<f))
 (.cut 0 (fun (h:An)=>⟨[(0,pz c),(4,.pure (.int .u64 h.1)),(5,.pure (.int .u64 h.2)),(16,pz f),(17,pz g.2.2)],[],[],0⟩)
 (.ok ((2:Int)≠0) (by decide)<|
 .name 7001 ((IntKind.u64.wrap (g.2.1.tdiv 2))) fun h=>let i:=IntKind.u64.wrap (g.1+h);
 .br (decide ((IntKind.u64.wrap (i * i))≤d))
 (.oo (i,h))
 (.oo (g.1,h))) fun h=>
 .nn (h.1,h.2,(i64.wrap (g.2.2+1))))
 (.oo g.1))
 (0,(IntKind.u64.wrap (1 * 2 ^ (min f.toNat 64))),0) [] fun g=>
 .ret (i64.wrap g))
noncomputable def wzq (c):=
 mkD Tryz.func268 (wzr c) 0 [pz c] [] (fun r=>pz r) (fun _=>[])
noncomputable def rzd (c:Int):T Int:=
 .cc (wzq c) fun d=>
 .cut 0 (fun (e:Int)=>⟨[(3,pz e)],[],[],0⟩)
 (.br (decide ((i64.wrap (d * d))<c))
 (.oo (i64.wrap (d+1)))
 (.oo d)) fun e=>
 .ret e
noncomputable def zzp (c):=
 mkD Tryz.func248 (rzd c) 0 [pz c] [] (fun r=>pz r) (fun _=>[])
noncomputable def szs (c:Au):T Int:=
 .cc (fz9 (c.1,c.2.1,c.2.2)) fun d=>
 .br (!d)
 (.ret 0)
 (.ix 0 3 rfl<|
 .ix 0 3 rfl<|
 .ix 1 3 rfl<|
 .ix 1 3 rfl<|
 .ix 2 3 rfl<|
 .ix 2 3 rfl<|
 .name 3016 ((i64.wrap ((i64.wrap ((i64.wrap (c.1 * c.1))+(i64.wrap (c.2.1 * c.2.1))))+(i64.wrap (c.2.2 * c.2.2))))) fun e=>
 .cc (zzp e) fun f=>
 .ret f)
noncomputable def szr (c):=
 mkD Tryz.func215 (szs c) 0 [.pure (az1 c)] [] (fun r=>pz r) (fun _=>[])
noncomputable def szp (c:dzi)(d:Au):T Ap:=
 .cut 2 (fun (e:Bool)=>⟨[(2,.ptr 0 0),(3,.ptr 1 0),(20,.pure (.bool e))],[(0,.box [.pure (encL 6 az2 c.a.points),pz c.a.radius,.pure (encL 6 az2 c.b.points),pz c.b.radius]),(1,.box [pz d.1,pz d.2.1,pz d.2.2])],[],2⟩)
 (.cc (yzo c.a) fun e=>
 .br (!e)
 (.oo true)
 (.cc (yzo c.b) fun f=>
 .oo (!f))) fun e=>
 .br e
 (.ret (0,false))
 (.cc (yzr (d.1,d.2.1,d.2.2) c.a.points) fun f=>
 .br (!f.2.2)
 (.ret (0,false))
 (.cc (qzw (d.1,d.2.1,d.2.2) c.b.points) fun g=>
 .br (!g.2.2)
 (.ret (0,false))
 (.cc (szr (d.1,d.2.1,d.2.2)) fun h=>
 .name 9013 ((i64.wrap ((i64.wrap (f.1-g.1))- (i64.wrap (h * (i64.wrap (c.a.radius+c.b.radius))))))) fun i=>
 .ret (i,true))))
noncomputable def Azj (c)(d):=
 mkD Tryz.func245 (szp c d) 0 [.pure (ozn c),.pure (az1 d)] [] (fun r=>.tup [pz r.1,.pure (.bool r.2)]) (fun _=>[])
noncomputable def lzh (c:dzi)(d:Au):T Bool:=
 .cc (Azj (⟨c.a,c.b⟩:dzi) (d.1,d.2.1,d.2.2)) fun e=>
 .br e.2
 (.ret (decide (e.1>0)))
 (.ret false)
noncomputable def tzl (c)(d):=
 mkD Tryz.func207 (lzh c d) 0 [.pure (ozn c),.pure (az1 d)] [] (fun r=>.pure (.bool r)) (fun _=>[])
noncomputable def lz4 (c:Au)(d:Az)(e:Int)(f:Az)(g:Int):T Bool:=
 .cc (Fzr d e f g) fun h=>
 .cc (tzl (⟨h.a,h.b⟩:dzi) (c.1,c.2.1,c.2.2)) fun i=>
 .ret i
noncomputable def tzd (c)(d)(e)(f)(g):=
 mkD Tryz.func170 (lz4 c d e f g) 0 [.pure (az1 c),.pure (encL 6 az2 d),pz e,.pure (encL 6 az2 f),pz g] [] (fun r=>.pure (.bool r)) (fun _=>[])
noncomputable def jzu (c:Int):T Bool:=
 .br (decide (c≥0))
 (.ret (decide (c≤1048576)))
 (.ret false)
noncomputable def jzt (c):=
 mkD Tryz.func203 (jzu c) 0 [pz c] [] (fun r=>.pure (.bool r)) (fun _=>[])
noncomputable def rzh (c:az0):T Int:=
 .cc (cz5 c) fun d=>
 .br (!d)
 (.ret 0)
 (.cc (bza (i64.wrap (c.Lo+c.Hi)) 1) fun e=>
 .ret e)
noncomputable def iz4 (c):=
 mkD Tryz.func175 (rzh c) 0 [.pure (aza c)] [] (fun r=>pz r) (fun _=>[])
set_option maxHeartbeats 8000000 in
set_option maxRecDepth 20000 in
noncomputable def hzc (c:Az):T Av:=let d:=(c.length:Int);.cc (dzh c) fun e=>
 .br (!e)
 (.ret nl)
 (.conv 3002 (Hzj 3 az1 78 d.toNat (0,0,0))<|
 .grd (0≤d/\d≤d/\d≤9223372036854775807/\d * 24≤140737488355328)<|
 .loop (fun (f:Aw)=>⟨[(3,.vec 0),(14,.pure (encL 6 az2 c)),(15,pz d),(16,pz f.2)],[(0,vecO 3 az1 f.1 78)],[],1⟩)
 (.exit 0) (fun (f:Av)=>⟨[(3,.vec 0)],[(0,vecO 3 az1 f 78)],[],1⟩)
 (fun f=>let g:=f.2;let h:=g.toNat;let i:=c.getD h default;let j:=f.1.getD h default;.br (decide (f.2<d))
 (.gh f.2 c.length<|
 .unroll 4<|
 .known true<|
 .ix 0 3 rfl<|
 .cc (iz4 (i.1)) fun k=>let m:=f.1.set h (k,j.2.1,j.2.2);let n:=m.getD h default;
 .gh f.2 f.1.length<|
 .ix 0 3 rfl<|
 .conv 10007 (fzg 3 az1 f.1 78 h (k,j.2.1,j.2.2))<|
 .gi g f.1.length<|
 .lit 11000 (1)<|
 .known true<|
 .ix 1 3 rfl<|
 .cc (iz4 (i.2.1)) fun q=>let s:=m.set h (n.1,q,n.2.2);let t:=s.getD h default;
 .gh f.2 (m.length)<|
 .ix 1 3 rfl<|
 .conv 10007 (fzg 3 az1 m 78 h (n.1,q,n.2.2))<|
 .gi g (m.length)<|
 .lit 11000 (2)<|
 .known true<|
 .ix 2 3 rfl<|
 .cc (iz4 (i.2.2)) fun w=>
 .gh f.2 (s.length)<|
 .ix 2 3 rfl<|
 .conv 10007 (fzg 3 az1 s 78 h (t.1,t.2.1,w))<|
 .gi g (s.length)<|
 .lit 11000 (3)<|
 .known false<|
 .nn ((s.set h (t.1,t.2.1,w)),(i64.wrap (f.2+1))))
 (.oo f.1))
 ((List.replicate d.toNat ((0,0,0):Au)),0) [] fun f=>
 .ret f)
noncomputable def dz1 (c):=
 mkD Tryz.func141 (hzc c) 0 [.pure (encL 6 az2 c)] [] (fun r=>.pure (encL 3 az1 r)) (fun _=>[])
noncomputable def jzv (c:Av):T Au:=let d:=(c.length:Nat);.loop (fun (e:B7)=>⟨[(2,.ptr 0 0),(3,.ptr 1 0),(7,.pure (encL 3 az1 c)),(8,pz (d:Int)),(9,pz e.2.2.2)],[(0,.box [pz 0,pz 0,pz 0]),(1,.box [pz e.1,pz e.2.1,pz e.2.2.1])],[],2⟩)
 (.exit 0) (fun (e:Au)=>⟨[(2,.ptr 0 0),(3,.ptr 1 0)],[(0,.box [pz 0,pz 0,pz 0]),(1,.box [pz e.1,pz e.2.1,pz e.2.2])],[],2⟩)
 (fun e=>let f:=c.getD ((e.2.2.2).toNat) default;.br (decide (e.2.2.2<(d:Int)))
 (.gh e.2.2.2 c.length<|
 .unroll 4<|
 .known true<|
 .ix 0 3 rfl<|
 .ix 0 3 rfl<|
 .ix 0 3 rfl<|
 .lit 9000 (1)<|
 .known true<|
 .ix 1 3 rfl<|
 .ix 1 3 rfl<|
 .ix 1 3 rfl<|
 .lit 9000 (2)<|
 .known true<|
 .ix 2 3 rfl<|
 .ix 2 3 rfl<|
 .ix 2 3 rfl<|
 .lit 9000 (3)<|
 .known false<|
 .nn ((i64.wrap (e.1+(f.1))),(i64.wrap (e.2.1+(f.2.1))),(i64.wrap (e.2.2.1+(f.2.2))),(i64.wrap (e.2.2.2+1))))
 (.oo (e.1,e.2.1,e.2.2.1)))
 (0,0,0,0) [] fun e=>
 .ret (e.1,e.2.1,e.2.2)
noncomputable def nzx (c):=
 mkD Tryz.func244 (jzv c) 0 [.pure (encL 3 az1 c)] [] (fun r=>.pure (az1 r)) (fun _=>[])
noncomputable def gzl (c:Au):T Ax:=
 .loop (fun (d:Au)=>⟨[(1,.ptr 0 0),(2,.ptr 1 0)],[(0,.box [pz d.1,pz d.2.1,pz d.2.2]),(1,.box [pz 0,pz 0,pz 0])],[],2⟩)
 (.exit 0) (fun (d:Au)=>⟨[(1,.ptr 0 0),(2,.ptr 1 0)],[(0,.box [pz d.1,pz d.2.1,pz d.2.2]),(1,.box [pz 0,pz 0,pz 0])],[],2⟩)
 (fun d=>.cc (ezz (d.1,d.2.1,d.2.2)) fun e=>
 .br (!e)
 (.unroll 4<|
 .known true<|
 .ix 0 3 rfl<|
 .ok ((2:Int)≠0) (by decide)<|
 .ix 0 3 rfl<|
 .lit 6000 (1)<|
 .known true<|
 .ix 1 3 rfl<|
 .ok ((2:Int)≠0) (by decide)<|
 .ix 1 3 rfl<|
 .lit 6000 (2)<|
 .known true<|
 .ix 2 3 rfl<|
 .ok ((2:Int)≠0) (by decide)<|
 .ix 2 3 rfl<|
 .lit 6000 (3)<|
 .known false<|
 .nn ((i64.wrap (d.1.tdiv 2)),(i64.wrap (d.2.1.tdiv 2)),(i64.wrap (d.2.2.tdiv 2))))
 (.oo (d.1,d.2.1,d.2.2)))
 (c.1,c.2.1,c.2.2) [] fun d=>
 .ret ((d.1,d.2.1,d.2.2),(!((d.1==0)&&((d.2.1==0)&&((d.2.2==0)&&true)))))
noncomputable def izn (c):=
 mkD Tryz.func212 (gzl c) 0 [.pure (az1 c)] [] (fun r=>.tup [.pure (az1 r.1),.pure (.bool r.2)]) (fun _=>[])
noncomputable def iz7 (c:Az)(d:Az):T Ax:=let e:=(d.length:Int);let f:=(c.length:Int);.cut 3 (fun (g:Bool)=>⟨[(0,.pure (encL 6 az2 c)),(1,.pure (encL 6 az2 d)),(4,.ptr 0 0),(5,.ptr 1 0),(18,.pure (.bool g))],[(0,.box [pz 0,pz 0,pz 0]),(1,.box [.ff])],[.func 243 [] [.ptr 0 0,.ptr 1 0]],2⟩)
 (.cc (dzh c) fun g=>
 .br (!g)
 (.oo true)
 (.cc (dzh d) fun h=>
 .oo (!h))) fun g=>
 .br g
 (.ret ((0,0,0),false))
 (.cc (dz1 c) fun h=>
 .cc (nzx h) fun i=>
 .cc (dz1 d) fun j=>
 .cc (nzx j) fun k=>
 .unroll 4<|
 .known true<|
 .ix 0 3 rfl<|
 .ix 0 3 rfl<|
 .name 9013 ((i64.wrap ((i64.wrap (i.1 * e))- (i64.wrap (k.1 * f))))) fun m=>
 .ix 0 3 rfl<|
 .lit 10000 (1)<|
 .known true<|
 .ix 1 3 rfl<|
 .ix 1 3 rfl<|
 .name 9013 ((i64.wrap ((i64.wrap (i.2.1 * e))- (i64.wrap (k.2.1 * f))))) fun n=>
 .ix 1 3 rfl<|
 .lit 10000 (2)<|
 .known true<|
 .ix 2 3 rfl<|
 .ix 2 3 rfl<|
 .name 9013 ((i64.wrap ((i64.wrap (i.2.2 * e))- (i64.wrap (k.2.2 * f))))) fun q=>
 .ix 2 3 rfl<|
 .lit 10000 (3)<|
 .known false<|
 .cc (izn (m,n,q)) fun s=>
 .ret (s.1,s.2))
noncomputable def lzs (c)(d):=
 mkC [⟨243,az0m⟩] hd Tryz.func205 (by kernel_rfl) (iz7 c d) 0 [.pure (encL 6 az2 c),.pure (encL 6 az2 d)] [] (fun r=>.tup [.pure (az1 r.1),.pure (.bool r.2)]) (fun _=>[]) (by kernel_rfl)
noncomputable def Kzb:T Av:=
 .conv 1006 (czi 3 az1 ([(1,0,0),((-1),0,0),(0,1,0),(0,(-1),0),(0,0,1),(0,0,(-1))]:Av) 78)<|
 .ret ([(1,0,0),((-1),0,0),(0,1,0),(0,(-1),0),(0,0,1),(0,0,(-1))]:Av)
noncomputable def rzr:CallS Av:=
 mkD Tryz.func206 (Kzb) 0 [] [] (fun r=>.pure (encL 3 az1 r)) (fun _=>[])
noncomputable def gzf (c:Av):T Bool:=let d:=encL 3 az1 c;let e:=(c.length:Int);.cut 2 (fun (f:Bool)=>⟨[(0,.pure d),(14,.pure (.bool f))],[],[],0⟩)
 (.br (decide (e<1))
 (.oo true)
 (.oo (decide (e>8)))) fun f=>
 .br f
 (.ret false)
 (.loop (fun (g:Int)=>⟨[(15,.pure d),(16,pz e),(17,pz g)],[],[],0⟩)
 (.exit 0) (fun (_:U0)=>⟨[],[],[],0⟩)
 (fun g=>let h:=c.getD (g.toNat) default;.br (decide (g<e))
 (.gh g c.length<|
 .loop (fun (i:Int)=>⟨[(15,.pure d),(16,pz e),(17,pz g),(21,.pure (az1 h)),(22,pz i)],[],[],0⟩)
 (.exit 2) (fun (_:U0)=>⟨[(15,.pure d),(16,pz e),(17,pz g)],[],[],0⟩)
 (fun i=>.br (decide (i<3))
 (.gh i 3<|
 .name 8000 ((([h.1,h.2.1,h.2.2]:List Int).getD i.toNat 0)) fun j=>
 .cut 0 (fun (k:Bool)=>⟨[(15,.pure d),(16,pz e),(17,pz g),(21,.pure (az1 h)),(22,pz i),(30,.pure (.bool k))],[],[],0⟩)
 (.br (decide (j<(-268435456)))
 (.oo true)
 (.oo (decide (j>268435456)))) fun k=>
 .br k
 (.ff (.fin false))
 (.nn (i64.wrap (i+1))))
 (.oo .u))
 0 [] fun _=>
 .nn (i64.wrap (g+1)))
 (.oo .u))
 0 [] fun _=>
 .ret true)
noncomputable def izl (c):=
 mkD Tryz.func171 (gzf c) 0 [.pure (encL 3 az1 c)] [] (fun r=>.pure (.bool r)) (fun _=>[])
noncomputable def fzw (c:Av):T (Av×A0):=let d:=(c.length:Int);let e:=List.replicate d.toNat (0:Int);.conv 1002 (Hzj 1 az3 2 d.toNat 0)<|
 .grd (0≤d/\d≤d/\d≤9223372036854775807/\d * 8≤140737488355328)<|
 .gh (0:Int) (e.length)<|
 .conv 2002 (fzg 1 az3 e 2 ((0:Int).toNat) 65536)<|
 .gi (0:Int) (e.length)<|
 .ret (c,(e.set ((0:Int).toNat) 65536))
noncomputable def hzn (c):=
 mkD Tryz.func172 (fzw c) 0 [.pure (encL 3 az1 c)] [] (fun r=>.agg [.pure (encL 3 az1 r.1),.vec 0]) (fun r=>[(0,vecO 1 az3 r.2 2)])
noncomputable def tz8 (c:Av)(d:A0):T Au:=let e:=encL 3 az1 c;let f:=(c.length:Nat);.loop (fun (g:B7)=>⟨[(1,.ptr 1 0),(2,.ptr 2 0),(3,.ptr 3 0),(9,.pure e),(10,pz (f:Int)),(11,pz g.2.2.2)],[(0,vecO 1 az3 d 2),(1,.box [.pure e,.vec 0]),(2,.box [pz 0,pz 0,pz 0]),(3,.box [pz g.1,pz g.2.1,pz g.2.2.1])],[],4⟩)
 (.exit 0) (fun (g:Au)=>⟨[(2,.ptr 1 0),(3,.ptr 2 0)],[(0,vecO 1 az3 d 2),(1,.box [pz 0,pz 0,pz 0]),(2,.box [pz g.1,pz g.2.1,pz g.2.2])],[],3⟩)
 (fun g=>let h:=(g.2.2.2).toNat;let i:=c.getD h default;let j:=d.getD h default;.br (decide (g.2.2.2<(f:Int)))
 (.gh g.2.2.2 c.length<|
 .unroll 4<|
 .known true<|
 .ix 0 3 rfl<|
 .name 7001 (i.1) fun k=>
 .ix 0 3 rfl<|
 .gg g.2.2.2 d.length<|
 .name 8010 ((i64.wrap (g.1+(i64.wrap (j * k))))) fun m=>
 .ix 0 3 rfl<|
 .lit 9000 (1)<|
 .known true<|
 .ix 1 3 rfl<|
 .name 7001 (i.2.1) fun n=>
 .ix 1 3 rfl<|
 .gg g.2.2.2 d.length<|
 .name 8010 ((i64.wrap (g.2.1+(i64.wrap (j * n))))) fun q=>
 .ix 1 3 rfl<|
 .lit 9000 (2)<|
 .known true<|
 .ix 2 3 rfl<|
 .name 7001 (i.2.2) fun s=>
 .ix 2 3 rfl<|
 .gg g.2.2.2 d.length<|
 .name 8010 ((i64.wrap (g.2.2.1+(i64.wrap (j * s))))) fun t=>
 .ix 2 3 rfl<|
 .lit 9000 (3)<|
 .known false<|
 .nn (m,q,t,(i64.wrap (g.2.2.2+1))))
 (.oo (g.1,g.2.1,g.2.2.1)))
 (0,0,0,0) [] fun g=>
 .ret (g.1,g.2.1,g.2.2)
noncomputable def zz1 (c)(d):=
 mkD Tryz.func210 (tz8 c d) 1 [.agg [.pure (encL 3 az1 c),.vec 0]] [(0,vecO 1 az3 d 2)] (fun r=>.pure (az1 r)) (fun _=>[(0,vecO 1 az3 d 2)])
noncomputable def Izs (c:Au)(d:Au):T Au:=
 .ix 0 3 rfl<|
 .ix 0 3 rfl<|
 .ix 1 3 rfl<|
 .ix 1 3 rfl<|
 .ix 2 3 rfl<|
 .ix 2 3 rfl<|
 .ret ((i64.wrap (c.1-d.1)),(i64.wrap (c.2.1-d.2.1)),(i64.wrap (c.2.2-d.2.2)))
noncomputable def jzr (c)(d):=
 mkD Tryz.func209 (Izs c d) 0 [.pure (az1 c),.pure (az1 d)] [] (fun r=>.pure (az1 r)) (fun _=>[])
noncomputable def fzv (c:Au)(d:Int):T Bool:=
 .loop (fun (e:An)=>⟨[(1,pz d),(5,pz e.1),(9,.pure (az1 c)),(10,pz e.2)],[],[],0⟩)
 (.exit 0) (fun (e:Int)=>⟨[(1,pz d),(5,pz e)],[],[],0⟩)
 (fun e=>let f:=([c.1,c.2.1,c.2.2]:List Int).getD (e.2).toNat 0;.br (decide (e.2<3))
 (.gh e.2 3<|
 .name 5003 ((max f (i64.wrap (0-f)))) fun g=>
 .cc (bzg g 16) fun h=>
 .nn ((i64.wrap (e.1+(i64.wrap (h * h)))),(i64.wrap (e.2+1))))
 (.oo e.1))
 (0,0) [] fun e=>
 .ret (decide (e≤(i64.wrap (d * d))))
noncomputable def lz3 (c)(d):=
 mkD Tryz.func211 (fzv c d) 0 [.pure (az1 c),pz d] [] (fun r=>.pure (.bool r)) (fun _=>[])
noncomputable def Nzj (c:Au)(d:Au):T Int:=
 .ix 0 3 rfl<|
 .ix 0 3 rfl<|
 .ix 1 3 rfl<|
 .ix 1 3 rfl<|
 .ix 2 3 rfl<|
 .ix 2 3 rfl<|
 .name 1016 ((i64.wrap ((i64.wrap ((i64.wrap (c.1 * d.1))+(i64.wrap (c.2.1 * d.2.1))))+(i64.wrap (c.2.2 * d.2.2))))) fun e=>
 .ret e
noncomputable def gz5 (c)(d):=
 mkD Tryz.func247 (Nzj c d) 0 [.pure (az1 c),.pure (az1 d)] [] (fun r=>pz r) (fun _=>[])
noncomputable def mz5 (c:Av)(d:A0)(e:Au):T An:=let f:=encL 3 az1 c;let g:=(c.length:Int);let h:Nat×Res:=(1,.box [pz e.1,pz e.2.1,pz e.2.2]);.gh (0:Int) c.length<|
 .cc (gz5 e (c.getD ((0:Int).toNat) default)) fun i=>
 .loop (fun (j:Au)=>⟨[(3,.ptr 1 0),(6,pz j.1),(7,pz j.2.1),(20,.pure f),(21,pz g),(22,pz j.2.2)],[(0,vecO 1 az3 d 2),h],[],2⟩)
 (.exit 0) (fun (j:An)=>⟨[(6,pz j.1),(7,pz j.2)],[(0,vecO 1 az3 d 2)],[],1⟩)
 (fun j=>.br (decide (j.2.2<g))
 (.cut 0 (fun (k:An)=>⟨[(3,.ptr 1 0),(6,pz k.1),(7,pz k.2),(20,.pure f),(21,pz g),(22,pz j.2.2)],[(0,vecO 1 az3 d 2),h],[],2⟩)
 (.gh j.2.2 c.length<|
 .cc (gz5 e (c.getD ((j.2.2).toNat) default)) fun k=>
 .br (decide (k<j.1))
 (.oo (k,j.2.2))
 (.oo (j.1,j.2.1))) fun k=>
 .nn (k.1,k.2,(i64.wrap (j.2.2+1))))
 (.oo (j.1,j.2.1)))
 (i,0,0) [] fun j=>
 .ret (j.1,j.2)
noncomputable def xz0 (c)(d)(e):=
 mkD Tryz.func213 (mz5 c d e) 1 [.agg [.pure (encL 3 az1 c),.vec 0],.pure (az1 e)] [(0,vecO 1 az3 d 2)] (fun r=>.tup [pz r.1,pz r.2]) (fun _=>[(0,vecO 1 az3 d 2)])
noncomputable def gzj (c:Av)(d:A0)(e:Au):T An:=let f:=encL 3 az1 c;let g:=(c.length:Int);let h:Nat×Res:=(1,.box [pz e.1,pz e.2.1,pz e.2.2]);.gh (0:Int) c.length<|
 .cc (gz5 e (c.getD ((0:Int).toNat) default)) fun i=>
 .loop (fun (j:Au)=>⟨[(3,.ptr 1 0),(6,pz j.1),(7,pz j.2.1),(20,.pure f),(21,pz g),(22,pz j.2.2)],[(0,vecO 1 az3 d 2),h],[],2⟩)
 (.exit 0) (fun (j:An)=>⟨[(6,pz j.1),(7,pz j.2)],[(0,vecO 1 az3 d 2)],[],1⟩)
 (fun j=>.br (decide (j.2.2<g))
 (.cut 0 (fun (k:An)=>⟨[(3,.ptr 1 0),(6,pz k.1),(7,pz k.2),(20,.pure f),(21,pz g),(22,pz j.2.2)],[(0,vecO 1 az3 d 2),h],[],2⟩)
 (.gh j.2.2 c.length<|
 .cc (gz5 e (c.getD ((j.2.2).toNat) default)) fun k=>
 .br (decide (k>j.1))
 (.oo (k,j.2.2))
 (.oo (j.1,j.2.1))) fun k=>
 .nn (k.1,k.2,(i64.wrap (j.2.2+1))))
 (.oo (j.1,j.2.1)))
 (i,0,0) [] fun j=>
 .ret (j.1,j.2)
noncomputable def nz9 (c)(d)(e):=
 mkD Tryz.func214 (gzj c d e) 1 [.agg [.pure (encL 3 az1 c),.vec 0],.pure (az1 e)] [(0,vecO 1 az3 d 2)] (fun r=>.tup [pz r.1,pz r.2]) (fun _=>[(0,vecO 1 az3 d 2)])
noncomputable def iz6 (c:Au)(d:Au):T Int:=
 .cc (jzr c d) fun e=>
 .cc (gz5 c e) fun f=>
 .cc (gz5 e e) fun g=>let h:=i64.wrap (g.tdiv 256);
 .br (decide (f≤0))
 (.ret 0)
 (.ok ((256:Int)≠0) (by decide)<|
 .grd ((max 1 h)≠0)<|
 .ret (min 256 (i64.wrap (f.tdiv (max 1 h)))))
noncomputable def rzq (c)(d):=
 mkD Tryz.func216 (iz6 c d) 0 [.pure (az1 c),.pure (az1 d)] [] (fun r=>pz r) (fun _=>[])
open Go.Proofs
noncomputable def jzl (c:Av)(d:A0)(e:Int)(f:Int):T A0:=let g:=e.toNat;let h:=(d.length:Nat);let i:Nat×Res:=(1,.box [.pure (encL 3 az1 c),.vec 0]);.loop (fun (j:Ar)=>⟨[(1,pz e),(2,pz f),(3,.ptr 1 0),(6,pz j.2.1),(11,.vec 0),(12,pz (h:Int)),(13,pz j.2.2)],[(0,vecO 1 az3 j.1 2),i],[],2⟩)
 (.exit 0) (fun (j:A2)=>⟨[(1,pz e),(3,.ptr 1 0),(6,pz j.2)],[(0,vecO 1 az3 j.1 2),i],[],2⟩)
 (fun j=>let k:=(j.2.2).toNat;let m:=j.1.getD k default;let n:=i64.wrap ((i64.wrap (m * f)).tdiv 256);.br (decide (j.2.2<(h:Int)))
 (.gg j.2.2 j.1.length<|
 .ok ((256:Int)≠0) (by decide)<|
 .gg j.2.2 j.1.length<|
 .name 6006 ((i64.wrap (m-n))) fun q=>
 .gh j.2.2 j.1.length<|
 .conv 6008 (fzg 1 az3 j.1 2 k q)<|
 .gi (j.2.2) j.1.length<|
 .name 7002 ((i64.wrap (j.2.1+n))) fun s=>
 .nn ((j.1.set k q),s,(i64.wrap (j.2.2+1))))
 (.oo (j.1,j.2.1)))
 (d,0,0) [] fun j=>let k:=i64.wrap ((j.1.getD g default)+j.2);
 .gg e j.1.length<|
 .gh e j.1.length<|
 .conv 9008 (fzg 1 az3 j.1 2 g k)<|
 .gi (e) j.1.length<|
 .ret (j.1.set g k)
noncomputable def nzw (c)(d)(e)(f):=
 mkD Tryz.func217 (jzl c d e f) 1 [.agg [.pure (encL 3 az1 c),.vec 0],pz e,pz f] [(0,vecO 1 az3 d 2)] (fun _=>.tup []) (fun r=>[(0,vecO 1 az3 r 2)])
noncomputable def pzs (c:Av)(d:A0)(e:Av)(f:A0)(g:Int)(h:Int)(i:Int)(j:Int)(k:Int)(m:Int):T (Int×Av×A0×Av×A0×Int×Int×Int×Int):=
 .loop (fun (n:(A0×A0×Int×Int×Int×Int))=>⟨[(0,.ptr 0 0),(1,pz k),(2,pz m)],[(0,.box [.pure (encL 3 az1 c),.vec 1,.pure (encL 3 az1 e),.vec 2,pz n.2.2.1,pz n.2.2.2.1,pz n.2.2.2.2.1,pz n.2.2.2.2.2]),(1,vecO 1 az3 n.1 2),(2,vecO 1 az3 n.2.1 2)],[],3⟩)
 .ret (fun (_:U0)=>⟨[],[],[],3⟩)
 (fun n=>.call (zz1 c n.1) [(0,1)] fun q=>
 .call (zz1 e n.2.1) [(0,2)] fun s=>
 .cc (jzr q s) fun t=>let w:=i64.wrap (t.1.tdiv 65536);let y:=i64.wrap (t.2.1.tdiv 65536);let z:=i64.wrap (t.2.2.tdiv 65536);
 .cc (lz3 t k) fun aa=>
 .br aa
 (.ff (2,c,n.1,e,n.2.1,n.2.2.1,n.2.2.2.1,n.2.2.2.2.1,n.2.2.2.2.2))
 (.ix 0 3 rfl<|
 .ok ((65536:Int)≠0) (by decide)<|
 .ix 1 3 rfl<|
 .ok ((65536:Int)≠0) (by decide)<|
 .ix 2 3 rfl<|
 .ok ((65536:Int)≠0) (by decide)<|
 .cc (izn (w,y,z)) fun ab=>
 .br (!ab.2)
 (.ff (0,c,n.1,e,n.2.1,ab.1.1,ab.1.2.1,ab.1.2.2,n.2.2.2.2.2))
 (.call (xz0 c n.1 ab.1) [(0,1)] fun ac=>
 .call (nz9 e n.2.1 ab.1) [(0,2)] fun ad=>
 .cc (szr ab.1) fun ae=>
 .br (decide ((i64.wrap (ac.1-ad.1))>(i64.wrap (ae * k))))
 (.ff (1,c,n.1,e,n.2.1,ab.1.1,ab.1.2.1,ab.1.2.2,n.2.2.2.2.2))
 (.br (n.2.2.2.2.2==m)
 (.ff (0,c,n.1,e,n.2.1,ab.1.1,ab.1.2.1,ab.1.2.2,n.2.2.2.2.2))
 (.gh ac.2 c.length<|
 .gh ad.2 e.length<|
 .cc (jzr (c.getD ((ac.2).toNat) default) (e.getD ((ad.2).toNat) default)) fun af=>
 .cc (rzq (w,y,z) af) fun ag=>
 .br (ag==0)
 (.ff (0,c,n.1,e,n.2.1,ab.1.1,ab.1.2.1,ab.1.2.2,n.2.2.2.2.2))
 (.call (nzw c n.1 ac.2 ag) [(0,1)] fun ah=>
 .call (nzw e n.2.1 ad.2 ag) [(0,2)] fun ai=>
 .nn (ah,ai,ab.1.1,ab.1.2.1,ab.1.2.2,(i64.wrap (n.2.2.2.2.2+1)))))))))
 (d,f,g,h,i,j) [] fun _=>
 .stop
noncomputable def Jzp (c)(d)(e)(f)(g)(h)(i)(j)(k)(m):=
 mkD Tryz.func173 (pzs c d e f g h i j k m) 3 [.ptr 0 0,pz k,pz m] [(0,.box [.pure (encL 3 az1 c),.vec 1,.pure (encL 3 az1 e),.vec 2,pz g,pz h,pz i,pz j]),(1,vecO 1 az3 d 2),(2,vecO 1 az3 f 2)] (fun r=>pz r.1) (fun r=>[(0,.box [.pure (encL 3 az1 r.2.1),.vec 1,.pure (encL 3 az1 r.2.2.2.1),.vec 2,pz r.2.2.2.2.2.1,pz r.2.2.2.2.2.2.1,pz r.2.2.2.2.2.2.2.1,pz r.2.2.2.2.2.2.2.2]),(1,vecO 1 az3 r.2.2.1 2),(2,vecO 1 az3 r.2.2.2.2.1 2)])
noncomputable def gze (c:Av)(d:Av)(e:Int)(f:Int):T dz9:=
 .cut 2 (fun (g:Bool)=>⟨[(0,.pure (encL 3 az1 c)),(1,.pure (encL 3 az1 d)),(2,pz e),(3,pz f),(8,.ptr 0 0),(34,.pure (.bool g))],[(0,.box [pz 0,pz 0,pz 0,pz 0,.vec 1,.vec 2,pz 0]),(1,.nilv),(2,.nilv)],[],3⟩)
 (.cc (izl c) fun g=>
 .br (!g)
 (.oo true)
 (.cc (izl d) fun h=>
 .br (!h)
 (.oo true)
 (.br (decide (e<0))
 (.oo true)
 (.br (decide (e>2097152))
 (.oo true)
 (.br (decide (f<0))
 (.oo true)
 (.oo (decide (f>64)))))))) fun g=>
 .br g
 (.ret (⟨0,(0,0,0),nl,nl,0⟩:dz9))
 (.cc (hzn c) fun h=>
 .cc (hzn d) fun i=>
 .call (Jzp h.1 h.2 i.1 i.2 0 0 0 0 e f) [(0,451),(1,67),(2,259)] fun j=>
 .ret (⟨j.1,(j.2.2.2.2.2.1,j.2.2.2.2.2.2.1,j.2.2.2.2.2.2.2.1),j.2.2.1,j.2.2.2.2.1,j.2.2.2.2.2.2.2.2⟩:dz9))
noncomputable def ezg (c)(d)(e)(f):=
 mkD Tryz.func140 (gze c d e f) 0 [.pure (encL 3 az1 c),.pure (encL 3 az1 d),pz e,pz f] [] (fun r=>.pure (Hzp r)) (fun _=>[])
noncomputable def gzt {o:Au->Option Bool}(Y:YldS Tryz.prog az1 o)(a0:Az)(a1:Az)(a2:Int)(a3:Int)(a4:Av):T Bb:=
 .cut 1 (fun (y22:Bool)=>⟨[(0,.yld Y.l),(1,.ptr 1 0),(2,.ptr 2 0),(3,.ptr 3 0),(4,.ptr 4 0),(5,.ptr 5 0),(31,.pure (.bool y22))],[(0,.tok Y.τ (tokP false (az1 default))),(1,.box [.pure (encL 6 az2 a0)]),(2,.box [.pure (encL 6 az2 a1)]),(3,.box [pz a2]),(4,.box [pz a3]),(5,.box [.pure (encL 3 az1 a4)])],[],6⟩)
 (.call (dzh a0) [] fun y23=>
 .br (!y23)
 (.ret (.out true))
 (.call (dzh a1) [] fun y24=>
 .br (!y24)
 (.ret (.out true))
 (.call (jzt a2) [] fun y25=>
 .br (!y25)
 (.ret (.out true))
 (.call (jzt a3) [] fun y26=>
 .ret (.out (!y26)))))) fun y22=>
 .br y22
 (.ret (false,default,a0,a1,a2,a3,a4))
 (.loop (fun (x87:(Int×Bool×Au))=>⟨[(0,.yld Y.l),(1,.ptr 1 0),(2,.ptr 2 0),(3,.ptr 3 0),(4,.ptr 4 0),(32,.pure (encL 3 az1 a4)),(33,pz (a4.length:Int)),(34,pz x87.1)],[(0,.tok Y.τ (tokP x87.2.1 (az1 x87.2.2))),(1,.box [.pure (encL 6 az2 a0)]),(2,.box [.pure (encL 6 az2 a1)]),(3,.box [pz a2]),(4,.box [pz a3]),(5,.box [.pure (encL 3 az1 a4)])],[],6⟩)
 (.exit 0) (fun (y102:(Bool×Au))=>⟨[(0,.yld Y.l),(1,.ptr 1 0),(2,.ptr 2 0),(3,.ptr 3 0),(4,.ptr 4 0)],[(0,.tok Y.τ (tokP y102.1 (az1 y102.2))),(1,.box [.pure (encL 6 az2 a0)]),(2,.box [.pure (encL 6 az2 a1)]),(3,.box [pz a2]),(4,.box [pz a3]),(5,.box [.pure (encL 3 az1 a4)])],[],6⟩)
 (fun x87=>.br (decide (x87.1<(a4.length:Int)))
 (.grd (0≤x87.1/\x87.1<(a4.length:Int))<|
 .cut 0 (fun (y114:B3)=>⟨[(0,.yld Y.l),(1,.ptr 1 0),(2,.ptr 2 0),(3,.ptr 3 0),(4,.ptr 4 0),(32,.pure (encL 3 az1 a4)),(33,pz (a4.length:Int)),(34,pz x87.1),(45,.pure (.bool y114.1))],[(0,.tok Y.τ (tokP y114.2.1 (az1 y114.2.2))),(1,.box [.pure (encL 6 az2 a0)]),(2,.box [.pure (encL 6 az2 a1)]),(3,.box [pz a2]),(4,.box [pz a3]),(5,.box [.pure (encL 3 az1 a4)])],[],6⟩)
 (.call (fz9 (a4.getD ((x87.1).toNat) default)) [] fun y115=>
 .br y115
 (.call (Y.C x87.2.1 x87.2.2 (a4.getD ((x87.1).toNat) default)) [(0,0)] fun y116=>
 .ret (.out ((!(!y116)),y116,(a4.getD ((x87.1).toNat) default))))
 (.ret (.out (false,x87.2.1,x87.2.2)))) fun y114=>
 .br y114.1
 (.ret (.fin (y114.2.1,y114.2.2,a0,a1,a2,a3,a4)))
 (.ret (.next ((i64.wrap (x87.1+1)),y114.2.1,y114.2.2))))
 (.ret (.out (x87.2.1,x87.2.2))))
 (0,false,default) [] fun y102=>
 .call (lzs a0 a1) [] fun y124=>
 .cut 0 (fun (y127:B3)=>⟨[(0,.yld Y.l),(1,.ptr 1 0),(2,.ptr 2 0),(3,.ptr 3 0),(4,.ptr 4 0),(59,.pure (.bool y127.1))],[(0,.tok Y.τ (tokP y127.2.1 (az1 y127.2.2))),(1,.box [.pure (encL 6 az2 a0)]),(2,.box [.pure (encL 6 az2 a1)]),(3,.box [pz a2]),(4,.box [pz a3]),(5,.box [.pure (encL 3 az1 a4)])],[],6⟩)
 (.br y124.2
 (.call (Y.C y102.1 y102.2 y124.1) [(0,0)] fun y128=>
 .ret (.out ((!(!y128)),y128,y124.1)))
 (.ret (.out (false,y102.1,y102.2)))) fun y127=>
 .br y127.1
 (.ret (y127.2.1,y127.2.2,a0,a1,a2,a3,a4))
 (.call (rzr) [] fun y147=>
 .loop (fun (x153:(Int×Bool×Au))=>⟨[(0,.yld Y.l),(1,.ptr 1 0),(2,.ptr 2 0),(3,.ptr 3 0),(4,.ptr 4 0),(60,.pure (encL 3 az1 y147)),(61,pz (y147.length:Int)),(62,pz x153.1)],[(0,.tok Y.τ (tokP x153.2.1 (az1 x153.2.2))),(1,.box [.pure (encL 6 az2 a0)]),(2,.box [.pure (encL 6 az2 a1)]),(3,.box [pz a2]),(4,.box [pz a3]),(5,.box [.pure (encL 3 az1 a4)])],[],6⟩)
 (.exit 2) (fun (y158:(Bool×Au))=>⟨[(0,.yld Y.l),(1,.ptr 1 0),(2,.ptr 2 0),(3,.ptr 3 0),(4,.ptr 4 0)],[(0,.tok Y.τ (tokP y158.1 (az1 y158.2))),(1,.box [.pure (encL 6 az2 a0)]),(2,.box [.pure (encL 6 az2 a1)]),(3,.box [pz a2]),(4,.box [pz a3]),(5,.box [.pure (encL 3 az1 a4)])],[],6⟩)
 (fun x153=>.br (decide (x153.1<(y147.length:Int)))
 (.grd (0≤x153.1/\x153.1<(y147.length:Int))<|
 .call (Y.C x153.2.1 x153.2.2 (y147.getD ((x153.1).toNat) default)) [(0,0)] fun y162=>
 .br (!(!y162))
 (.ret (.fin (y162,(y147.getD ((x153.1).toNat) default),a0,a1,a2,a3,a4)))
 (.ret (.next ((i64.wrap (x153.1+1)),y162,(y147.getD ((x153.1).toNat) default)))))
 (.ret (.out (x153.2.1,x153.2.2))))
 (0,y127.2.1,y127.2.2) [] fun y158=>
 .call (dz1 a0) [] fun y166=>
 .call (dz1 a1) [] fun y167=>
 .call (ezg y166 y167 (i64.wrap (a2+a3)) 64) [] fun y168=>
 .call (fz9 y168.Normal) [] fun y170=>
 .br y170
 (.call (Y.C y158.1 y158.2 y168.Normal) [(0,0)] fun y171=>
 .ret (y171,y168.Normal,a0,a1,a2,a3,a4))
 (.ret (y158.1,y158.2,a0,a1,a2,a3,a4))))
noncomputable def gzs {o:Au->Option Bool}(Y:YldS Tryz.prog az1 o)(a0:Az)(a1:Az)(a2:Int)(a3:Int)(a4:Av):CallS Bb:=
 mkD Tryz.func202 (gzt Y a0 a1 a2 a3 a4) 6 [.yld Y.l,.ptr 1 0,.ptr 2 0,.ptr 3 0,.ptr 4 0,.ptr 5 0] [(0,.tok Y.τ (tokP false (az1 default))),(1,.box [.pure (encL 6 az2 a0)]),(2,.box [.pure (encL 6 az2 a1)]),(3,.box [pz a2]),(4,.box [pz a3]),(5,.box [.pure (encL 3 az1 a4)])] (fun _=>.tup []) (fun r=>[(0,.tok Y.τ (tokP r.1 (az1 r.2.1))),(1,.box [.pure (encL 6 az2 r.2.2.1)]),(2,.box [.pure (encL 6 az2 r.2.2.2.1)]),(3,.box [pz r.2.2.2.2.1]),(4,.box [pz r.2.2.2.2.2.1]),(5,.box [.pure (encL 3 az1 r.2.2.2.2.2.2)])])
noncomputable def lzr (c:Az)(d:Int)(e:Az)(f:Int)(_a4:Av)(x:Au):T Bool:=
 .cc (tzd x c d e f) fun g=>
 .br g
 (.ret true)
 (.ret false)
noncomputable def rzs (a0:Az)(a1:Int)(a2:Az)(a3:Int)(a4:Av):CallS Ax:=
 mkR (encX:=az1) [⟨168,az0j⟩] hd Tryz.func139 (by kernel_rfl) (.call (hzy a0 a1 a2 a3 a4) [] fun y1=>
 .ret y1)
 (lzr a0 a1 a2 a3 a4) [(0,.box [.pure (encL 6 az2 a0)]),(64,.box [pz a1]),(128,.box [.pure (encL 6 az2 a2)]),(192,.box [pz a3]),(256,.box [pz 0,pz 0,pz 0]),(320,.box [.ff])]
 (fun p=>[(0,.box [.pure (encL 6 az2 a0)]),(64,.box [pz a1]),(128,.box [.pure (encL 6 az2 a2)]),(192,.box [pz a3]),(256,.box (p.cells.map .pure)),(320,.box [.tt])]) [(0,960),(1,832),(2,833),(3,834),(4,835),(5,836)] (fun r=>r.1) (fun r=>r.2.1)
 (fun y1 Y=>gzs Y y1.1 y1.2.1 y1.2.2.1 y1.2.2.2.1 y1.2.2.2.2)
 (.ret ((0,0,0),false)) (fun x=>(x,true)) (fun _ _=>rfl) 0 [.pure (encL 6 az2 a0),pz a1,.pure (encL 6 az2 a2),pz a3,.pure (encL 3 az1 a4)] [] (fun r=>.tup [.pure (az1 r.1),.pure (.bool r.2)]) (fun _=>[]) (by kernel_rfl)
set_option maxHeartbeats 8000000 in
set_option maxRecDepth 20000 in
noncomputable def pzr (c:Az)(d:A0):T (Ay×Int×Bool):=let e:=encL 6 az2 c;let f:=encL 1 az3 d;let g:=(d.length:Int);.cut 2 (fun (h:Bool)=>⟨[(0,.pure e),(1,.pure f),(4,.ptr 0 0),(22,.pure (.bool h))],[(0,.box [pz 0,pz 0,pz 0,pz 0,pz 0,pz 0])],[],1⟩)
 (.cc (dzh c) fun h=>
 .br (!h)
 (.oo true)
 (.oo (g !=(c.length:Int)))) fun h=>
 .br h
 (.ret (((⟨0,0⟩:az0),(⟨0,0⟩:az0),(⟨0,0⟩:az0)),0,false))
 (.loop (fun (i:(Int×Int×Int×Int×Int×Int×Int×Int))=>⟨[(0,.pure e),(4,.ptr 0 0),(7,.ptr 1 0),(8,pz i.2.2.2.2.2.2.1),(24,.pure f),(25,pz g),(26,pz i.2.2.2.2.2.2.2)],[(0,.box [pz 0,pz 0,pz 0,pz 0,pz 0,pz 0]),(1,.box [pz i.1,pz i.2.1,pz i.2.2.1,pz i.2.2.2.1,pz i.2.2.2.2.1,pz i.2.2.2.2.2.1])],[],2⟩)
 (.exit 0) (fun (i:Bc)=>⟨[(4,.ptr 0 0),(7,.ptr 1 0),(8,pz i.2.2.2.2.2.2)],[(0,.box [pz 0,pz 0,pz 0,pz 0,pz 0,pz 0]),(1,.box [pz i.1,pz i.2.1,pz i.2.2.1,pz i.2.2.2.1,pz i.2.2.2.2.1,pz i.2.2.2.2.2.1])],[],2⟩)
 (fun i=>let j:=(i.2.2.2.2.2.2.2).toNat;let k:=d.getD j default;let m:=c.getD j default;.br (decide (i.2.2.2.2.2.2.2<g))
 (.gh i.2.2.2.2.2.2.2 d.length<|
 .cut 1 (fun (n:Bool)=>⟨[(0,.pure e),(4,.ptr 0 0),(7,.ptr 1 0),(8,pz i.2.2.2.2.2.2.1),(9,pz i.2.2.2.2.2.2.2),(10,pz k),(24,.pure f),(25,pz g),(26,pz i.2.2.2.2.2.2.2),(36,.pure (.bool n))],[(0,.box [pz 0,pz 0,pz 0,pz 0,pz 0,pz 0]),(1,.box [pz i.1,pz i.2.1,pz i.2.2.1,pz i.2.2.2.1,pz i.2.2.2.2.1,pz i.2.2.2.2.2.1])],[],2⟩)
 (.br (decide (k<0))
 (.oo true)
 (.oo (decide (k>65536)))) fun n=>
 .br n
 (.ff (((⟨0,0⟩:az0),(⟨0,0⟩:az0),(⟨0,0⟩:az0)),0,false))
 (.gh i.2.2.2.2.2.2.2 c.length<|
 .unroll 4<|
 .known true<|
 .ix 0 3 rfl<|
 .ix 0 3 rfl<|
 .name 14007 ((i64.wrap (k * (m.1.Lo)))) fun q=>
 .name 14008 ((i64.wrap (i.1+q))) fun s=>
 .ix 0 3 rfl<|
 .ix 0 3 rfl<|
 .name 15007 ((i64.wrap (k * (m.1.Hi)))) fun t=>
 .name 15008 ((i64.wrap (i.2.1+t))) fun w=>
 .ix 0 3 rfl<|
 .lit 16000 (1)<|
 .known true<|
 .ix 1 3 rfl<|
 .ix 1 3 rfl<|
 .name 14007 ((i64.wrap (k * (m.2.1.Lo)))) fun y=>
 .name 14008 ((i64.wrap (i.2.2.1+y))) fun z=>
 .ix 1 3 rfl<|
 .ix 1 3 rfl<|
 .name 15007 ((i64.wrap (k * (m.2.1.Hi)))) fun aa=>
 .name 15008 ((i64.wrap (i.2.2.2.1+aa))) fun ab=>
 .ix 1 3 rfl<|
 .lit 16000 (2)<|
 .known true<|
 .ix 2 3 rfl<|
 .ix 2 3 rfl<|
 .name 14007 ((i64.wrap (k * (m.2.2.Lo)))) fun ac=>
 .name 14008 ((i64.wrap (i.2.2.2.2.1+ac))) fun ad=>
 .ix 2 3 rfl<|
 .ix 2 3 rfl<|
 .name 15007 ((i64.wrap (k * (m.2.2.Hi)))) fun ae=>
 .name 15008 ((i64.wrap (i.2.2.2.2.2.1+ae))) fun af=>
 .ix 2 3 rfl<|
 .lit 16000 (3)<|
 .known false<|
 .nn (s,w,z,ab,ad,af,(i64.wrap (i.2.2.2.2.2.2.1+k)),(i64.wrap (i.2.2.2.2.2.2.2+1)))))
 (.oo (i.1,i.2.1,i.2.2.1,i.2.2.2.1,i.2.2.2.2.1,i.2.2.2.2.2.1,i.2.2.2.2.2.2.1)))
 (0,0,0,0,0,0,0,0) [] fun i=>
 .cut 1 (fun (j:Bool)=>⟨[(4,.ptr 0 0),(7,.ptr 1 0),(8,pz i.2.2.2.2.2.2),(78,.pure (.bool j))],[(0,.box [pz 0,pz 0,pz 0,pz 0,pz 0,pz 0]),(1,.box [pz i.1,pz i.2.1,pz i.2.2.1,pz i.2.2.2.1,pz i.2.2.2.2.1,pz i.2.2.2.2.2.1])],[],2⟩)
 (.br (decide (i.2.2.2.2.2.2<1))
 (.oo true)
 (.oo (decide (i.2.2.2.2.2.2>65536)))) fun j=>
 .br j
 (.ret (((⟨0,0⟩:az0),(⟨0,0⟩:az0),(⟨0,0⟩:az0)),0,false))
 (.ret (((⟨i.1,i.2.1⟩:az0),(⟨i.2.2.1,i.2.2.2.1⟩:az0),(⟨i.2.2.2.2.1,i.2.2.2.2.2.1⟩:az0)),i.2.2.2.2.2.2,true)))
noncomputable def pzq (c)(d):=
 mkD Tryz.func220 (pzr c d) 0 [.pure (encL 6 az2 c),.pure (encL 1 az3 d)] [] (fun r=>.tup [.pure (az2 r.1),pz r.2.1,.pure (.bool r.2.2)]) (fun _=>[])
noncomputable def kz1 (c:Int):T Bool:=
 .br (decide (c≥0))
 (.ret (decide (c≤1048576)))
 (.ret false)
noncomputable def kz0 (c):=
 mkD Tryz.func221 (kz1 c) 0 [pz c] [] (fun r=>.pure (.bool r)) (fun _=>[])
noncomputable def jzz (c:A0):T Int:=let d:=(c.length:Nat);.loop (fun (e:An)=>⟨[(3,pz e.1),(6,.pure (encL 1 az3 c)),(7,pz (d:Int)),(8,pz e.2)],[],[],0⟩)
 (.exit 0) (fun (e:Int)=>⟨[(3,pz e)],[],[],0⟩)
 (fun e=>let f:=c.getD ((e.2).toNat) default;.br (decide (e.2<(d:Int)))
 (.gh e.2 c.length<|
 .nn ((max (max e.1 f) (i64.wrap (0-f))),(i64.wrap (e.2+1))))
 (.oo e.1))
 (0,0) [] fun e=>
 .ret e
noncomputable def gzw (c):=
 mkD Tryz.func222 (jzz c) 0 [.pure (encL 1 az3 c)] [] (fun r=>pz r) (fun _=>[])
noncomputable def nz1 (c:A0)(d:A0)(e:Az)(f:Int)(g:Az)(h:Int):T Ap:=let i:=i64.wrap (f+h);.cc (pzq e c) fun j=>
 .cc (pzq g d) fun k=>let m:=([(i64.wrap (j.1.1.Lo-k.1.1.Hi)),(i64.wrap (j.1.1.Hi-k.1.1.Lo))]:A0);let n:=([(i64.wrap (j.1.2.1.Lo-k.1.2.1.Hi)),(i64.wrap (j.1.2.1.Hi-k.1.2.1.Lo))]:A0);let q:=([(i64.wrap (j.1.2.2.Lo-k.1.2.2.Hi)),(i64.wrap (j.1.2.2.Hi-k.1.2.2.Lo))]:A0);
 .cut 1 (fun (s:Bool)=>⟨[(3,pz f),(5,pz h),(12,.ptr 0 0),(13,.ptr 1 0),(14,.ptr 2 0),(15,pz j.2.1),(17,.ptr 3 0),(59,.pure (.bool s))],[(0,.box [pz 0]),(1,.box [.ff]),(2,.box [pz j.1.1.Lo,pz j.1.1.Hi,pz j.1.2.1.Lo,pz j.1.2.1.Hi,pz j.1.2.2.Lo,pz j.1.2.2.Hi]),(3,.box [pz k.1.1.Lo,pz k.1.1.Hi,pz k.1.2.1.Lo,pz k.1.2.1.Hi,pz k.1.2.2.Lo,pz k.1.2.2.Hi])],[.func 219 [] [.ptr 0 0,.ptr 1 0]],4⟩)
 (.br (!j.2.2)
 (.oo true)
 (.br (!k.2.2)
 (.oo true)
 (.br (j.2.1 !=k.2.1)
 (.oo true)
 (.cc (kz0 f) fun s=>
 .br (!s)
 (.oo true)
 (.cc (kz0 h) fun t=>
 .oo (!t)))))) fun s=>
 .br s
 (.ret (0,false))
 (.unroll 4<|
 .known true<|
 .ix 0 3 rfl<|
 .ix 0 3 rfl<|
 .ix 0 3 rfl<|
 .ix 0 3 rfl<|
 .conv 11018 (czi 1 az3 m 2)<|
 .cc (gzw m) fun t=>let w:=i64.wrap ((i64.wrap ((i64.wrap (t+j.2.1))-1)).tdiv j.2.1);
 .grd (j.2.1≠0)<|
 .br (decide (w>i))
 (.ret ((-1),true))
 (.name 15003 ((i64.wrap (w * w))) fun y=>
 .name 15004 ((i64.wrap ((i64.wrap (i * i))-y))) fun z=>
 .lit 16000 (1)<|
 .known true<|
 .ix 1 3 rfl<|
 .ix 1 3 rfl<|
 .ix 1 3 rfl<|
 .ix 1 3 rfl<|
 .conv 11018 (czi 1 az3 n 2)<|
 .cc (gzw n) fun aa=>let ab:=i64.wrap ((i64.wrap ((i64.wrap (aa+j.2.1))-1)).tdiv j.2.1);
 .grd (j.2.1≠0)<|
 .br (decide (ab>i))
 (.ret ((-1),true))
 (.name 15003 ((i64.wrap (ab * ab))) fun ac=>
 .name 15004 ((i64.wrap (z-ac))) fun ad=>
 .lit 16000 (2)<|
 .known true<|
 .ix 2 3 rfl<|
 .ix 2 3 rfl<|
 .ix 2 3 rfl<|
 .ix 2 3 rfl<|
 .conv 11018 (czi 1 az3 q 2)<|
 .cc (gzw q) fun ae=>let af:=i64.wrap ((i64.wrap ((i64.wrap (ae+j.2.1))-1)).tdiv j.2.1);
 .grd (j.2.1≠0)<|
 .br (decide (af>i))
 (.ret ((-1),true))
 (.name 15003 ((i64.wrap (af * af))) fun ag=>
 .name 15004 ((i64.wrap (ad-ag))) fun ah=>
 .lit 16000 (3)<|
 .known false<|
 .ret (ah,true)))))
noncomputable def vzx (c)(d)(e)(f)(g)(h):=
 mkC [⟨219,az0l⟩] hd Tryz.func177 (by kernel_rfl) (nz1 c d e f g h) 0 [.pure (encL 1 az3 c),.pure (encL 1 az3 d),.pure (encL 6 az2 e),pz f,.pure (encL 6 az2 g),pz h] [] (fun r=>.tup [pz r.1,.pure (.bool r.2)]) (fun _=>[]) (by kernel_rfl)
noncomputable def jzy (c:A0)(d:A0)(e:Az)(f:Int)(g:Az)(h:Int):T Bool:=
 .cc (vzx c d e f g h) fun i=>
 .br i.2
 (.ret (decide (i.1≥0)))
 (.ret false)
noncomputable def jzx (c)(d)(e)(f)(g)(h):=
 mkC [⟨176,az0k⟩] hd Tryz.func142 (by kernel_rfl) (jzy c d e f g h) 0 [.pure (encL 1 az3 c),.pure (encL 1 az3 d),.pure (encL 6 az2 e),pz f,.pure (encL 6 az2 g),pz h] [] (fun r=>.pure (.bool r)) (fun _=>[]) (by kernel_rfl)
noncomputable def Bzy (c:ezj):T dza:=
 .ret (⟨2,nl,c.witness⟩:dza)
noncomputable def Bzx (c):=
 mkD Tryz.func143 (Bzy c) 0 [.iface 219 (.pure (wz9 c))] [] (fun r=>.pure (tzz r)) (fun _=>[])
noncomputable def zzc (c:ez5):T dza:=
 .ret (⟨1,c.normals,(⟨0,nl,nl⟩:bz1)⟩:dza)
noncomputable def zzb (c):=
 mkD Tryz.func143 (zzc c) 0 [.iface 221 (.pure (uz0 c))] [] (fun r=>.pure (tzz r)) (fun _=>[])
noncomputable def rz4 (c:azg)(d:Ag)(e:Av):T dza:=let f:=encL 3 az1 e;let g:=(e.length:Int);.cc (vzl (⟨c.Robot,c.Shapes,c.Skips⟩:azg) d) fun h=>let i:=(h.1.pairs.length:Int);let j:Nat×Res:=(4,.box [.pure (encL 3 azo h.1.shapes),.pure (encL 2 dzu h.1.pairs),.pure (encL 1 (encL 6 az2) h.1.points)]);
 .br (!h.2)
 (.ret (⟨0,nl,(⟨0,nl,nl⟩:bz1)⟩:dza))
 (.conv 5003 (Hzj 3 az1 78 i.toNat (0,0,0))<|
 .grd (0≤i/\i≤i/\i≤9223372036854775807/\i * 24≤140737488355328)<|
 .loop (fun (k:(Av×Bool×Int))=>⟨[(2,.pure f),(6,.ptr 0 0),(7,.ptr 4 0),(9,.vec 5),(10,.pure (.bool k.2.1)),(33,pz i),(34,pz k.2.2)],[(0,.box [pz 0,.vec 1,pz 0,.vec 2,.vec 3]),(1,.nilv),(2,.nilv),(3,.nilv),j,(5,vecO 3 az1 k.1 78)],[.func 136 [] [.ptr 0 0]],6⟩)
 (.exit 0) (fun (k:(Av×Bool))=>⟨[(6,.ptr 0 0),(9,.vec 4),(10,.pure (.bool k.2))],[(0,.box [pz 0,.vec 1,pz 0,.vec 2,.vec 3]),(1,.nilv),(2,.nilv),(3,.nilv),(4,vecO 3 az1 k.1 78)],[.func 136 [] [.ptr 0 0]],5⟩)
 (fun k=>let m:=k.2.2;let n:=min k.2.2 g;let q:=i64.wrap (k.2.2+1);let s:=min q g;.br (decide (k.2.2<i))
 (.cut 0 (fun (t:(Av×Bool))=>⟨[(2,.pure f),(6,.ptr 0 0),(7,.ptr 4 0),(9,.vec 5),(10,.pure (.bool t.2)),(33,pz i),(34,pz k.2.2)],[(0,.box [pz 0,.vec 1,pz 0,.vec 2,.vec 3]),(1,.nilv),(2,.nilv),(3,.nilv),j,(5,vecO 3 az1 t.1 78)],[.func 136 [] [.ptr 0 0]],6⟩)
 (.cc (Bzt (⟨h.1.shapes,h.1.pairs,h.1.points⟩:czm) k.2.2) fun t=>
 .conv 11010 (Xz3 3 az1 e n s)<|
 .grd (0≤n/\n≤s/\s≤g)<|
 .call (rzs t.a t.ra t.b t.rb ((e.drop (n.toNat)).take (s.toNat-n.toNat))) [] fun w=>
 .br w.2
 (.gh k.2.2 k.1.length<|
 .conv 14004 (fzg 3 az1 k.1 78 (m.toNat) w.1)<|
 .gi m k.1.length<|
 .oo ((k.1.set (m.toNat) w.1),k.2.1))
 (.cc (dz1 t.a) fun y=>
 .cc (dz1 t.b) fun z=>
 .cc (ezg y z (i64.wrap (t.ra+t.rb)) 64) fun aa=>
 .cc (jzx aa.Left aa.Right t.a t.ra t.b t.rb) fun ab=>
 .br ab
 (.cc (Bzx (⟨(⟨k.2.2,aa.Left,aa.Right⟩:bz1)⟩:ezj)) fun ac=>
 .ff (.fin ac))
 (.oo (k.1,false)))) fun t=>
 .nn (t.1,t.2,q))
 (.oo (k.1,k.2.1)))
 ((List.replicate i.toNat ((0,0,0):Au)),true,0) [] fun k=>
 .br (!k.2)
 (.ret (⟨0,k.1,(⟨0,nl,nl⟩:bz1)⟩:dza))
 (.cc (zzb (⟨k.1⟩:ez5)) fun m=>
 .ret m))
noncomputable def lzl (c)(d)(e):=
 mkC [⟨136,az0i⟩] hd Tryz.func106 (by kernel_rfl) (rz4 c d e) 0 [.pure (cze c),.pure (encL 2 aza d),.pure (encL 3 az1 e)] [] (fun r=>.pure (tzz r)) (fun _=>[]) (by kernel_rfl)
abbrev rza:=RecS Tryz.prog 104 8 (Int×Int×Av×Ab×Int×Ab×Int×Int×Av×Int×A0×A0×A0×A0×A3×A4×A5×A6×Int) Be (fun a=>[pz a.1,pz a.2.1,.pure (encL 3 az1 a.2.2.1),.ptr 0 0,.ptr 2 0,.ptr 3 0,.ptr 4 0,.ptr 5 0,.ptr 6 0,.ptr 7 0]) (fun a=>[(0,.box [.vec 1]),(1,vecO 3 azy a.2.2.2.1 58),(2,.box [pz a.2.2.2.2.1,.pure (encL 3 azy a.2.2.2.2.2.1),pz a.2.2.2.2.2.2.1,pz a.2.2.2.2.2.2.2.1,.pure (encL 3 az1 a.2.2.2.2.2.2.2.2.1),pz a.2.2.2.2.2.2.2.2.2.1,.pure (encL 1 az3 a.2.2.2.2.2.2.2.2.2.2.1),.pure (encL 1 az3 a.2.2.2.2.2.2.2.2.2.2.2.1)]),(3,.box [.pure (encL 1 az3 a.2.2.2.2.2.2.2.2.2.2.2.2.1)]),(4,.box [.pure (encL 1 az3 a.2.2.2.2.2.2.2.2.2.2.2.2.2.1)]),(5,.box [.pure (encL 12 azd a.2.2.2.2.2.2.2.2.2.2.2.2.2.2.1),.pure (encL 5 azj a.2.2.2.2.2.2.2.2.2.2.2.2.2.2.2.1),.pure (encL 3 azo a.2.2.2.2.2.2.2.2.2.2.2.2.2.2.2.2.1),.pure (encL 2 bz4 a.2.2.2.2.2.2.2.2.2.2.2.2.2.2.2.2.2.1)]),(6,.box [pz a.2.2.2.2.2.2.2.2.2.2.2.2.2.2.2.2.2.2]),(7,.box [.func 104 [] [.ptr 0 0,.ptr 2 0,.ptr 3 0,.ptr 4 0,.ptr 5 0,.ptr 6 0,.ptr 7 0]])]) (fun _ r=>.pure (.bool r.1)) (fun _ r=>[(0,.box [.vec 8]),(1,.gone),(2,.box [pz r.2.2.1,.pure (encL 3 azy r.2.2.2.1),pz r.2.2.2.2.1,pz r.2.2.2.2.2.1,.pure (encL 3 az1 r.2.2.2.2.2.2.1),pz r.2.2.2.2.2.2.2.1,.pure (encL 1 az3 r.2.2.2.2.2.2.2.2.1),.pure (encL 1 az3 r.2.2.2.2.2.2.2.2.2.1)]),(3,.box [.pure (encL 1 az3 r.2.2.2.2.2.2.2.2.2.2.1)]),(4,.box [.pure (encL 1 az3 r.2.2.2.2.2.2.2.2.2.2.2.1)]),(5,.box [.pure (encL 12 azd r.2.2.2.2.2.2.2.2.2.2.2.2.1),.pure (encL 5 azj r.2.2.2.2.2.2.2.2.2.2.2.2.2.1),.pure (encL 3 azo r.2.2.2.2.2.2.2.2.2.2.2.2.2.2.1),.pure (encL 2 bz4 r.2.2.2.2.2.2.2.2.2.2.2.2.2.2.2.1)]),(6,.box [pz r.2.2.2.2.2.2.2.2.2.2.2.2.2.2.2.2]),(7,.box [.func 104 [] [.ptr 0 0,.ptr 2 0,.ptr 3 0,.ptr 4 0,.ptr 5 0,.ptr 6 0,.ptr 7 0]]),(8,vecO 3 azy r.2.1 58)])
noncomputable def rzb (rec:rza)(c:Int)(d:Int)(e:Av)(f:Ab)(g:Int)(h:Ab)(i:Int)(j:Int)(k:Av)(m:Int)(n:A0)(q:A0)(s:A0)(t:A0)(w:A3)(y:A4)(z:A5)(aa:A6)(ab:Int):T Be:=let ac:=i64.wrap (c+1);let ad:=i64.wrap (2 * d);.br (decide ((f.length:Int)≥4096))
 (.ret (false,f,0,nl,c,d,nl,0,nl,nl,s,t,w,y,z,aa,ab))
 (.cc (zzl s t c d) fun ae=>
 .cc (lzl (⟨(⟨w,y⟩:azl),z,aa⟩:azg) ae.1 e) fun af=>let ag:=([(⟨c,d,af.Normals⟩:azk)]:Ab);let ah:=f.length+ag.length;
 .br (af.Kind==1)
 (.conv 8006 (czi 3 azy ag 58)<|
 .conv 8007 (ezf 3 azy f ag 58)<|
 .grd (ah * 40≤140737488355328/\ah≤maxLen)<|
 .ret (true,(f++ag),g,h,i,j,k,m,n,q,s,t,w,y,z,aa,ab))
 (.br (af.Kind==2)
 (.ret (false,f,2,nl,c,d,nl,af.Witness.Pair,af.Witness.Left,af.Witness.Right,s,t,w,y,z,aa,ab))
 (.br (decide (c<ab))
 (.call (rec.C (ac,ad,af.Normals,f,g,h,i,j,k,m,n,q,s,t,w,y,z,aa,ab)) [(0,0),(1,1),(2,2),(3,3),(4,4),(5,5),(6,6),(7,7)] fun ai=>
 .br ai.1
 (.call (rec.C (ac,(i64.wrap (ad+1)),af.Normals,ai.2.1,ai.2.2.1,ai.2.2.2.1,ai.2.2.2.2.1,ai.2.2.2.2.2.1,ai.2.2.2.2.2.2.1,ai.2.2.2.2.2.2.2.1,ai.2.2.2.2.2.2.2.2.1,ai.2.2.2.2.2.2.2.2.2.1,ai.2.2.2.2.2.2.2.2.2.2.1,ai.2.2.2.2.2.2.2.2.2.2.2.1,ai.2.2.2.2.2.2.2.2.2.2.2.2.1,ai.2.2.2.2.2.2.2.2.2.2.2.2.2.1,ai.2.2.2.2.2.2.2.2.2.2.2.2.2.2.1,ai.2.2.2.2.2.2.2.2.2.2.2.2.2.2.2.1,ai.2.2.2.2.2.2.2.2.2.2.2.2.2.2.2.2)) [(0,0),(1,2824),(2,2),(3,3),(4,4),(5,5),(6,6),(7,7)] fun aj=>
 .ret (aj.1,aj.2.1,aj.2.2.1,aj.2.2.2.1,aj.2.2.2.2.1,aj.2.2.2.2.2.1,aj.2.2.2.2.2.2.1,aj.2.2.2.2.2.2.2.1,aj.2.2.2.2.2.2.2.2.1,aj.2.2.2.2.2.2.2.2.2.1,aj.2.2.2.2.2.2.2.2.2.2.1,aj.2.2.2.2.2.2.2.2.2.2.2.1,aj.2.2.2.2.2.2.2.2.2.2.2.2.1,aj.2.2.2.2.2.2.2.2.2.2.2.2.2.1,aj.2.2.2.2.2.2.2.2.2.2.2.2.2.2.1,aj.2.2.2.2.2.2.2.2.2.2.2.2.2.2.2.1,aj.2.2.2.2.2.2.2.2.2.2.2.2.2.2.2.2))
 (.ret (false,ai.2.1,ai.2.2.1,ai.2.2.2.1,ai.2.2.2.2.1,ai.2.2.2.2.2.1,ai.2.2.2.2.2.2.1,ai.2.2.2.2.2.2.2.1,ai.2.2.2.2.2.2.2.2.1,ai.2.2.2.2.2.2.2.2.2.1,ai.2.2.2.2.2.2.2.2.2.2.1,ai.2.2.2.2.2.2.2.2.2.2.2.1,ai.2.2.2.2.2.2.2.2.2.2.2.2.1,ai.2.2.2.2.2.2.2.2.2.2.2.2.2.1,ai.2.2.2.2.2.2.2.2.2.2.2.2.2.2.1,ai.2.2.2.2.2.2.2.2.2.2.2.2.2.2.2.1,ai.2.2.2.2.2.2.2.2.2.2.2.2.2.2.2.2)))
 (.ret (false,f,0,nl,c,d,nl,0,nl,nl,s,t,w,y,z,aa,ab)))))
noncomputable def gzm:rza->rza:=RecS.next [] hd Tryz.func104 (by kernel_rfl) (fun rec a=>rzb rec a.1 a.2.1 a.2.2.1 a.2.2.2.1 a.2.2.2.2.1 a.2.2.2.2.2.1 a.2.2.2.2.2.2.1 a.2.2.2.2.2.2.2.1 a.2.2.2.2.2.2.2.2.1 a.2.2.2.2.2.2.2.2.2.1 a.2.2.2.2.2.2.2.2.2.2.1 a.2.2.2.2.2.2.2.2.2.2.2.1 a.2.2.2.2.2.2.2.2.2.2.2.2.1 a.2.2.2.2.2.2.2.2.2.2.2.2.2.1 a.2.2.2.2.2.2.2.2.2.2.2.2.2.2.1 a.2.2.2.2.2.2.2.2.2.2.2.2.2.2.2.1 a.2.2.2.2.2.2.2.2.2.2.2.2.2.2.2.2.1 a.2.2.2.2.2.2.2.2.2.2.2.2.2.2.2.2.2.1 a.2.2.2.2.2.2.2.2.2.2.2.2.2.2.2.2.2.2) (fun rec a=>by kernel_rfl)
noncomputable def zzn (a0:Int)(a1:Int)(a2:Av)(a3:Ab)(a4:Int)(a5:Ab)(a6:Int)(a7:Int)(a8:Av)(a9:Int)(a10:A0)(a11:A0)(a12:A0)(a13:A0)(a14:A3)(a15:A4)(a16:A5)(a17:A6)(a18:Int):CallS Be:=(RecS.fix gzm NN).C (a0,a1,a2,a3,a4,a5,a6,a7,a8,a9,a10,a11,a12,a13,a14,a15,a16,a17,a18)
noncomputable def mz3 (c:azg)(d:A0)(e:A0)(f:Int):T azi:=let g:=encL 1 az3 d;let h:=encL 1 az3 e;let i:Nat×Res:=(0,.box [.pure (encL 12 azd c.Robot.Joints),.pure (encL 5 azj c.Robot.Masses),.pure (encL 3 azo c.Shapes),.pure (encL 2 bz4 c.Skips)]);.unroll 1000<|
 .cut 2 (fun (j:Bool)=>⟨[(4,.ptr 0 0),(5,.ptr 1 0),(6,.ptr 2 0),(7,.ptr 3 0),(8,.ptr 4 0),(28,.pure (.bool j))],[i,(1,.box [.pure g]),(2,.box [.pure h]),(3,.box [pz f]),(4,.box [pz 0,.pure (.lst 0 0 fun _=>.unk),pz 0,pz 0,.pure (.lst 0 0 fun _=>.unk),pz 0,.pure (.lst 0 0 fun _=>.unk),.pure (.lst 0 0 fun _=>.unk)])],[.func 102 [] [.ptr 4 0]],5⟩)
 (.cc (dzn (⟨c.Robot,c.Shapes,c.Skips⟩:azg)) fun j=>
 .br (j !=0)
 (.oo true)
 (.cc (ozk c.Robot d) fun k=>
 .br (!k)
 (.oo true)
 (.cc (ozk c.Robot e) fun m=>
 .oo (!m)))) fun j=>
 .br j
 (.ret (⟨0,nl,(⟨0,0,nl⟩:azk),(⟨0,nl,nl⟩:bz1)⟩:azi))
 (.cut 1 (fun (k:Bool)=>⟨[(4,.ptr 0 0),(5,.ptr 1 0),(6,.ptr 2 0),(7,.ptr 3 0),(8,.ptr 4 0),(35,.pure (.bool k))],[i,(1,.box [.pure g]),(2,.box [.pure h]),(3,.box [pz f]),(4,.box [pz 0,.pure (.lst 0 0 fun _=>.unk),pz 0,pz 0,.pure (.lst 0 0 fun _=>.unk),pz 0,.pure (.lst 0 0 fun _=>.unk),.pure (.lst 0 0 fun _=>.unk)])],[.func 102 [] [.ptr 4 0]],5⟩)
 (.br (decide (f<0))
 (.oo true)
 (.oo (decide (f>20)))) fun k=>
 .br k
 (.ret (⟨0,nl,(⟨0,0,nl⟩:azk),(⟨0,nl,nl⟩:bz1)⟩:azi))
 (.cut 3 (fun (m:(Int×Ab×Int×Int×Av×Int×A0×A0))=>⟨[(8,.ptr 0 0)],[(0,.box [pz m.1,.pure (encL 3 azy m.2.1),pz m.2.2.1,pz m.2.2.2.1,.pure (encL 3 az1 m.2.2.2.2.1),pz m.2.2.2.2.2.1,.pure (encL 1 az3 m.2.2.2.2.2.2.1),.pure (encL 1 az3 m.2.2.2.2.2.2.2)])],[.func 102 [] [.ptr 0 0]],1⟩)
 (.call (zzn 0 0 nl nl 0 nl 0 0 nl 0 nl nl d e c.Robot.Joints c.Robot.Masses c.Shapes c.Skips f) [(0,5),(1,6),(2,4),(3,1),(4,2),(5,0),(6,3),(7,69)] fun m=>
 .br m.1
 (.oo (1,m.2.1,0,0,nl,0,nl,nl))
 (.oo (m.2.2.1,m.2.2.2.1,m.2.2.2.2.1,m.2.2.2.2.2.1,m.2.2.2.2.2.2.1,m.2.2.2.2.2.2.2.1,m.2.2.2.2.2.2.2.2.1,m.2.2.2.2.2.2.2.2.2.1))) fun m=>
 .ret (⟨m.1,m.2.1,(⟨m.2.2.1,m.2.2.2.1,m.2.2.2.2.1⟩:azk),(⟨m.2.2.2.2.2.1,m.2.2.2.2.2.2.1,m.2.2.2.2.2.2.2⟩:bz1)⟩:azi)))
noncomputable def izz (c)(d)(e)(f):=
 mkC [⟨102,az0h⟩] hd Tryz.func71 (by kernel_rfl) (mz3 c d e f) 0 [.pure (cze c),.pure (encL 1 az3 d),.pure (encL 1 az3 e),pz f] [] (fun r=>.pure (dzg r)) (fun _=>[]) (by kernel_rfl)
noncomputable def vza (c:azg)(d:A1)(e:A7)(f:Nat)(g:Nat)(h:Int)(i:Int):T As:=let j:=f+(h.toNat);let k:=nzn d e f g;let m:=e.getD j default;let n:=m.U;let q:=m.V;let s:=m.State;let t:Nat×Res:=(3,.box [.vec 0,.view 1 12 f g]);let w:Nat×Res:=(2,.box [.pure (encL 12 azd c.Robot.Joints),.pure (encL 5 azj c.Robot.Masses),.pure (encL 3 azo c.Shapes),.pure (encL 2 bz4 c.Skips)]);.cut 3 (fun (y:Bool)=>⟨[(2,pz h),(3,pz i),(4,.ptr 2 0),(5,.ptr 3 0),(8,.ptr 4 0),(9,.ptr 7 0),(20,.pure (.bool y))],[(0,vecO 1 (encL 1 az3) d 59),(1,vecO 12 az5 e 65),w,t,(4,.box [.vec 5,.vec 6]),(5,.nilv),(6,.nilv),(7,.box [.ff])],[.func 70 [] [.ptr 4 0,.ptr 7 0]],8⟩)
 (.br (decide (h<0))
 (.oo true)
 (.oo (decide (h≥(g:Int))))) fun y=>
 .br y
 (.call k [(0,0),(1,1)] fun z=>
 .ret (z.1,z.2,false))
 (.gh h g<|
 .grd (j<e.length)<|
 .cut 1 (fun (z:Bool)=>⟨[(2,pz h),(3,pz i),(4,.ptr 2 0),(5,.ptr 3 0),(8,.ptr 4 0),(9,.ptr 7 0),(10,.ptr 8 0),(49,.pure (.bool z))],[(0,vecO 1 (encL 1 az3) d 59),(1,vecO 12 az5 e 65),w,t,(4,.box [.vec 5,.vec 6]),(5,.nilv),(6,.nilv),(7,.box [.ff]),(8,.box [pz n,pz q,pz (m.Cost),pz s,pz (m.Proof.Kind),.pure (encL 3 azy (m.Proof.Pieces)),pz (m.Proof.At.Depth),pz (m.Proof.At.Index),.pure (encL 3 az1 (m.Proof.At.Normals)),pz (m.Proof.Witness.Pair),.pure (encL 1 az3 (m.Proof.Witness.Left)),.pure (encL 1 az3 (m.Proof.Witness.Right))])],[.func 70 [] [.ptr 4 0,.ptr 7 0]],9⟩)
 (.call (kzh d e f g n) [(0,0),(1,1)] fun z=>
 .br (!z)
 (.oo true)
 (.call (kzh d e f g q) [(0,0),(1,1)] fun aa=>
 .br (!aa)
 (.oo true)
 (.br (s==1)
 (.oo true)
 (.oo (s==2))))) fun z=>
 .br z
 (.call k [(0,0),(1,1)] fun aa=>
 .ret (aa.1,aa.2,false))
 (.gg n d.length<|
 .gg q d.length<|
 .call (izz (⟨c.Robot,c.Shapes,c.Skips⟩:azg) (d.getD (n.toNat) default) (d.getD (q.toNat) default) i) [] fun aa=>
 .call (nza d e f g h aa) [(0,0),(1,1)] fun ab=>
 .ret (ab.1,ab.2.1,ab.2.2)))
noncomputable def Dzf (c)(d)(e)(f)(g)(h)(i):=
 mkC [⟨70,az3i⟩] hd Tryz.func40 (by kernel_rfl) (vza c d e f g h i) 2 [.pure (cze c),.agg [.vec 0,.view 1 12 f g],pz h,pz i] [(0,vecO 1 (encL 1 az3) d 59),(1,vecO 12 az5 e 65)] (fun r=>.tup [.agg [.vec 2,.vec 3],.pure (.bool r.2.2)]) (fun r=>[(0,vecO 1 (encL 1 az3) d 59),(1,vecO 12 az5 e 65),(2,vecO 1 (encL 1 az3) r.1 59),(3,vecO 12 az5 r.2.1 65)]) (by kernel_rfl)
noncomputable def gz8 (c:azg)(d:az9)(e:Int)(f:Int)(g:Int)(h:Int):T B8:=let i:Nat×Res:=(0,.box [.pure (encL 12 azd c.Robot.Joints),.pure (encL 5 azj c.Robot.Masses),.pure (encL 3 azo c.Shapes),.pure (encL 2 bz4 c.Skips)]);.cc (qzv (⟨d.Points,d.Edges⟩:az9)) fun j=>
 .cc (dzn c) fun k=>
 .br (k !=0)
 (.ret ((⟨j.1,j.2⟩:az9),(⟨nl,0⟩:bzf),0,0))
 (.loop (fun (m:Aa)=>⟨[(2,pz e),(3,pz f),(4,pz g),(5,pz h),(6,.ptr 0 0),(12,.ptr 1 0),(13,.ptr 4 0),(14,.ptr 6 0),(15,.ptr 7 0)],[i,(1,.box [.vec 2,.vec 3]),(2,vecO 1 (encL 1 az3) j.1 59),(3,vecO 12 az5 m.1 65),(4,.box [.vec 5,pz 0]),(5,.nilv),(6,.box [pz 0]),(7,.box [pz m.2])],[.func 37 [] [.ptr 1 0,.ptr 4 0,.ptr 6 0,.ptr 7 0]],8⟩)
 .ret (fun (_:U0)=>⟨[],[],[],0⟩)
 (fun m=>let n:=(⟨j.1,m.1⟩:az9);.call (pzl j.1 m.1 e f) [(0,2),(1,3)] fun q=>let s:=(q.1).toNat;let t:=i64.wrap (q.1+1);let w:=(⟨q.2.1,q.2.2.1⟩:bzf);
 .br (q.2.2.2 !=3)
 (.ff (n,w,q.2.2.2,m.2))
 (.br (decide (m.2≥h))
 (.ff (n,w,4,m.2))
 (.unroll 2<|
 .grd (0≤q.1/\q.1≤t/\t≤(m.1.length:Int))<|
 .cut 0 (fun (y:A7)=>⟨[(2,pz e),(3,pz f),(4,pz g),(5,pz h),(6,.ptr 0 0),(12,.ptr 1 0),(13,.ptr 4 0),(14,.ptr 6 0),(15,.ptr 7 0)],[i,(1,.box [.vec 2,.vec 3]),(2,vecO 1 (encL 1 az3) j.1 59),(3,vecO 12 az5 y 65),(4,.box [.vec 5,pz 0]),(5,.nilv),(6,.box [pz 0]),(7,.box [pz m.2])],[.func 37 [] [.ptr 1 0,.ptr 4 0,.ptr 6 0,.ptr 7 0]],8⟩)
 (.call (Dzf (⟨c.Robot,c.Shapes,c.Skips⟩:azg) j.1 m.1 s (t.toNat- (q.1).toNat) 0 g) [(0,2),(1,3)] fun y=>let z:=y.2.1.getD ((0:Int).toNat) default;
 .br y.2.2
 (.gg (0:Int) y.2.1.length<|
 .gh q.1 m.1.length<|
 .conv 13008 (fzg 12 az5 m.1 65 s z)<|
 .gi (q.1) m.1.length<|
 .oo (m.1.set s z))
 (.oo m.1)) fun y=>
 .nn (y,(i64.wrap (m.2+1))))))
 (j.2,0) [] fun _=>
 .stop)
noncomputable def hzr (c)(d)(e)(f)(g)(h):=
 mkC [⟨37,az3f⟩] hd Tryz.func15 (by kernel_rfl) (gz8 c d e f g h) 0 [.pure (cze c),.pure (bz7 d),pz e,pz f,pz g,pz h] [] (fun r=>.tup [.pure (bz7 r.1),.pure (ozm r.2.1),pz r.2.2.1,pz r.2.2.2]) (fun _=>[]) (by kernel_rfl)
noncomputable def Qz6 (a0:Int):T azi:=
 .br (a0==1)
 (.conv 3001 (Uz4 3 azy ([(⟨0,0,nl⟩:azk)]:Ab) 58 [.agg [.int .i64 0,.int .i64 0,.lst 0 0 fun _=>.unk]] (by kernel_rfl))<|
 .ret (⟨1,([(⟨0,0,nl⟩:azk)]:Ab),(⟨0,0,nl⟩:azk),(⟨0,nl,nl⟩:bz1)⟩:azi))
 (.br (a0==2)
 (.conv 5000 (czi 1 az3 ([1]:A0) 2)<|
 .conv 5001 (czi 1 az3 ([1]:A0) 2)<|
 .ret (⟨2,nl,(⟨0,0,nl⟩:azk),(⟨0,([1]:A0),([1]:A0)⟩:bz1)⟩:azi))
 (.br (a0==3)
 (.ret (⟨0,nl,(⟨1,0,nl⟩:azk),(⟨0,nl,nl⟩:bz1)⟩:azi))
 (.ret (⟨0,nl,(⟨0,0,nl⟩:azk),(⟨0,nl,nl⟩:bz1)⟩:azi))))
noncomputable def xz3 (c):=
 mkD Tryz.func56 (Qz6 c) 0 [pz c] [] (fun r=>.pure (dzg r)) (fun _=>[])
noncomputable def Gzi (c:Int):T az9:=let d:=xz3 c;.conv 1000 (czi 1 az3 ([0]:A0) 2)<|
 .conv 1001 (czi 1 az3 ([1]:A0) 2)<|
 .conv 1002 (czi 1 az3 ([2]:A0) 2)<|
 .conv 1003 (czi 1 (encL 1 az3) ([([0]:A0),([1]:A0),([2]:A0)]:A1) 59)<|
 .cc d fun e=>
 .cc d fun f=>
 .cc d fun g=>let h:=([(⟨0,1,1,c,e⟩:az4),(⟨0,2,3,c,f⟩:az4),(⟨1,2,1,c,g⟩:az4)]:A7);
 .conv 2012 (czi 12 az5 h 65)<|
 .ret (⟨([([0]:A0),([1]:A0),([2]:A0)]:A1),h⟩:az9)
noncomputable def vzr (c):=
 mkD Tryz.func23 (Gzi c) 0 [pz c] [] (fun r=>.pure (bz7 r)) (fun _=>[])
noncomputable def Fz9 (c:az9)(d:Int)(e:Int)(f:Int):T (bzf×Bool):=
 .cut 3 (fun (g:Bool)=>⟨[(1,pz d),(2,pz e),(3,pz f),(4,.ptr 0 0),(8,.ptr 1 0),(9,.ptr 3 0),(33,.pure (.bool g))],[(0,.box [.pure (encL 1 (encL 1 az3) c.Points),.pure (encL 12 az5 c.Edges)]),(1,.box [.vec 2,pz 0]),(2,.nilv),(3,.box [.ff])],[.func 57 [] [.ptr 1 0,.ptr 3 0]],4⟩)
 (.cc (gza c) fun g=>
 .br (!g)
 (.oo true)
 (.cc (dzt c d) fun h=>
 .br (!h)
 (.oo true)
 (.cc (dzt c e) fun i=>
 .br (!i)
 (.oo true)
 (.br (decide (f<0))
 (.oo true)
 (.oo (decide (f>2))))))) fun g=>
 .br g
 (.ret ((⟨nl,0⟩:bzf),false))
 (.cc (izi c f) fun h=>
 .cc (ezy h d e) fun i=>
 .ret ((⟨i.1,i.2.1⟩:bzf),i.2.2))
noncomputable def Fz8 (c)(d)(e)(f):=
 mkC [⟨57,az3h⟩] hd Tryz.func24 (by kernel_rfl) (Fz9 c d e f) 0 [.pure (bz7 c),pz d,pz e,pz f] [] (fun r=>.tup [.pure (ozm r.1),.pure (.bool r.2)]) (fun _=>[]) (by kernel_rfl)
noncomputable def ozy (c:A0)(d:A0):T Bool:=let e:=(c.length:Nat);.br ((e:Int) !=(d.length:Int))
 (.ret false)
 (.loop (fun (f:Int)=>⟨[(0,.pure (encL 1 az3 c)),(1,.pure (encL 1 az3 d)),(5,pz f)],[],[],0⟩)
 (.exit 0) (fun (_:U0)=>⟨[],[],[],0⟩)
 (fun f=>.br (decide (f<(e:Int)))
 (.gh f c.length<|
 .gh f d.length<|
 .br ((c.getD (f.toNat) default) !=(d.getD (f.toNat) default))
 (.ff false)
 (.nn (i64.wrap (f+1))))
 (.oo .u))
 0 [] fun _=>
 .ret true)
noncomputable def ozx (c)(d):=
 mkD Tryz.func47 (ozy c d) 0 [.pure (encL 1 az3 c),.pure (encL 1 az3 d)] [] (fun r=>.pure (.bool r)) (fun _=>[])
noncomputable def mzx (c:bzf)(d:bzf):T Bool:=
 .br (c.Cost==d.Cost)
 (.cc (ozx c.Vertices d.Vertices) fun e=>
 .ret e)
 (.ret false)
noncomputable def dzr (c)(d):=
 mkD Tryz.func18 (mzx c d) 0 [.pure (ozm c),.pure (ozm d)] [] (fun r=>.pure (.bool r)) (fun _=>[])
noncomputable def Nz6:T Bool:=
 .cc (vzr 0) fun c=>
 .cc (gz9 c 0 2) fun d=>
 .cc (vzr 1) fun e=>
 .cc (Fz8 e 0 2 0) fun f=>
 .br (d.1==0)
 (.br (d.2.2.2==3)
 (.br f.2
 (.conv 3011 (czi 1 az3 ([0,1,2]:A0) 3)<|
 .cc (dzr f.1 (⟨([0,1,2]:A0),2⟩:bzf)) fun g=>
 .ret g)
 (.ret false))
 (.ret false))
 (.ret false)
noncomputable def nzv:CallS Bool:=
 mkD Tryz.func9 (Nz6) 0 [] [] (fun r=>.pure (.bool r)) (fun _=>[])
noncomputable def lz0 (c:A0)(d:A0):T Bool:=let e:=(c.length:Nat);.br ((e:Int) !=(d.length:Int))
 (.ret false)
 (.loop (fun (f:Int)=>⟨[(0,.pure (encL 1 az3 c)),(1,.pure (encL 1 az3 d)),(5,pz f)],[],[],0⟩)
 (.exit 0) (fun (_:U0)=>⟨[],[],[],0⟩)
 (fun f=>.br (decide (f<(e:Int)))
 (.gh f c.length<|
 .gh f d.length<|
 .br ((c.getD (f.toNat) default) !=(d.getD (f.toNat) default))
 (.ff false)
 (.nn (i64.wrap (f+1))))
 (.oo .u))
 0 [] fun _=>
 .ret true)
noncomputable def hzk (c)(d):=
 mkD Tryz.func48 (lz0 c d) 0 [.pure (encL 1 az3 c),.pure (encL 1 az3 d)] [] (fun r=>.pure (.bool r)) (fun _=>[])
noncomputable def gzq (c:A1)(d:A1):T Bool:=let e:=(c.length:Nat);.br ((e:Int) !=(d.length:Int))
 (.ret false)
 (.loop (fun (f:Int)=>⟨[(0,.pure (encL 1 (encL 1 az3) c)),(1,.pure (encL 1 (encL 1 az3) d)),(5,pz f)],[],[],0⟩)
 (.exit 0) (fun (_:U0)=>⟨[],[],[],0⟩)
 (fun f=>.br (decide (f<(e:Int)))
 (.gh f c.length<|
 .gh f d.length<|
 .cc (hzk (c.getD (f.toNat) default) (d.getD (f.toNat) default)) fun g=>
 .br (!g)
 (.ff false)
 (.nn (i64.wrap (f+1))))
 (.oo .u))
 0 [] fun _=>
 .ret true)
noncomputable def kzo (c)(d):=
 mkD Tryz.func19 (gzq c d) 0 [.pure (encL 1 (encL 1 az3) c),.pure (encL 1 (encL 1 az3) d)] [] (fun r=>.pure (.bool r)) (fun _=>[])
noncomputable def izt (c:Av)(d:Av):T Bool:=let e:=(c.length:Nat);.br ((e:Int) !=(d.length:Int))
 (.ret false)
 (.loop (fun (f:Int)=>⟨[(0,.pure (encL 3 az1 c)),(1,.pure (encL 3 az1 d)),(5,pz f)],[],[],0⟩)
 (.exit 0) (fun (_:U0)=>⟨[],[],[],0⟩)
 (fun f=>let g:=c.getD (f.toNat) default;let h:=d.getD (f.toNat) default;.br (decide (f<(e:Int)))
 (.gh f c.length<|
 .gh f d.length<|
 .br (!(((g.1)==(h.1))&&(((g.2.1)==(h.2.1))&&(((g.2.2)==(h.2.2))&&true))))
 (.ff false)
 (.nn (i64.wrap (f+1))))
 (.oo .u))
 0 [] fun _=>
 .ret true)
noncomputable def ozw (c)(d):=
 mkD Tryz.func116 (izt c d) 0 [.pure (encL 3 az1 c),.pure (encL 3 az1 d)] [] (fun r=>.pure (.bool r)) (fun _=>[])
noncomputable def mzw (c:azk)(d:azk):T Bool:=
 .br (c.Depth==d.Depth)
 (.br (c.Index==d.Index)
 (.cc (ozw c.Normals d.Normals) fun e=>
 .ret e)
 (.ret false))
 (.ret false)
noncomputable def mzv (c)(d):=
 mkD Tryz.func78 (mzw c d) 0 [.pure (azy c),.pure (azy d)] [] (fun r=>.pure (.bool r)) (fun _=>[])
noncomputable def kzz (c:Ab)(d:Ab):T Bool:=let e:=(c.length:Nat);.br ((e:Int) !=(d.length:Int))
 (.ret false)
 (.loop (fun (f:Int)=>⟨[(0,.pure (encL 3 azy c)),(1,.pure (encL 3 azy d)),(5,pz f)],[],[],0⟩)
 (.exit 0) (fun (_:U0)=>⟨[],[],[],0⟩)
 (fun f=>.br (decide (f<(e:Int)))
 (.gh f c.length<|
 .gh f d.length<|
 .cc (mzv (c.getD (f.toNat) default) (d.getD (f.toNat) default)) fun g=>
 .br (!g)
 (.ff false)
 (.nn (i64.wrap (f+1))))
 (.oo .u))
 0 [] fun _=>
 .ret true)
noncomputable def tz9 (c)(d):=
 mkD Tryz.func77 (kzz c d) 0 [.pure (encL 3 azy c),.pure (encL 3 azy d)] [] (fun r=>.pure (.bool r)) (fun _=>[])
noncomputable def jzm (c:bz1)(d:bz1):T Bool:=
 .br (c.Pair==d.Pair)
 (.cc (hzk c.Left d.Left) fun e=>
 .br e
 (.cc (hzk c.Right d.Right) fun f=>
 .ret f)
 (.ret false))
 (.ret false)
noncomputable def qzb (c)(d):=
 mkD Tryz.func79 (jzm c d) 0 [.pure (Hzq c),.pure (Hzq d)] [] (fun r=>.pure (.bool r)) (fun _=>[])
noncomputable def ozv (c:azi)(d:azi):T Bool:=
 .br (c.Kind==d.Kind)
 (.cc (tz9 c.Pieces d.Pieces) fun e=>
 .br e
 (.cc (mzv c.At d.At) fun f=>
 .br f
 (.cc (qzb c.Witness d.Witness) fun g=>
 .ret g)
 (.ret false))
 (.ret false))
 (.ret false)
noncomputable def xz5 (c)(d):=
 mkD Tryz.func49 (ozv c d) 0 [.pure (dzg c),.pure (dzg d)] [] (fun r=>.pure (.bool r)) (fun _=>[])
noncomputable def rzm (c:az9)(d:az9):T Bool:=let e:=(c.Edges.length:Nat);let f:Nat×Res:=(0,.box [.pure (encL 1 (encL 1 az3) c.Points),.pure (encL 12 az5 c.Edges)]);let g:Nat×Res:=(1,.box [.pure (encL 1 (encL 1 az3) d.Points),.pure (encL 12 az5 d.Edges)]);.cut 2 (fun (h:Bool)=>⟨[(2,.ptr 0 0),(3,.ptr 1 0),(22,.pure (.bool h))],[f,g],[],2⟩)
 (.cc (kzo c.Points d.Points) fun h=>
 .br (!h)
 (.oo true)
 (.oo ((e:Int) !=(d.Edges.length:Int)))) fun h=>
 .br h
 (.ret false)
 (.loop (fun (i:Int)=>⟨[(2,.ptr 0 0),(3,.ptr 1 0),(5,pz i)],[f,g],[],2⟩)
 (.exit 0) (fun (_:U0)=>⟨[],[],[],0⟩)
 (fun i=>let j:=c.Edges.getD (i.toNat) default;let k:=d.Edges.getD (i.toNat) default;.br (decide (i<(e:Int)))
 (.gh i c.Edges.length<|
 .gh i d.Edges.length<|
 .cut 0 (fun (m:Bool)=>⟨[(2,.ptr 0 0),(3,.ptr 1 0),(5,pz i),(73,.pure (.bool m))],[f,g],[],2⟩)
 (.br ((j.U) !=(k.U))
 (.oo true)
 (.br ((j.V) !=(k.V))
 (.oo true)
 (.br ((j.Cost) !=(k.Cost))
 (.oo true)
 (.br ((j.State) !=(k.State))
 (.oo true)
 (.cc (xz5 (j.Proof) (k.Proof)) fun m=>
 .oo (!m)))))) fun m=>
 .br m
 (.ff false)
 (.nn (i64.wrap (i+1))))
 (.oo .u))
 0 [] fun _=>
 .ret true)
noncomputable def iz5 (c)(d):=
 mkD Tryz.func21 (rzm c d) 0 [.pure (bz7 c),.pure (bz7 d)] [] (fun r=>.pure (.bool r)) (fun _=>[])
noncomputable def pzg (c:az9):T Bool:=let d:=(c.Edges.length:Nat);let e:=(c.Points.length:Nat);let f:Nat×Res:=(0,.box [.pure (encL 1 (encL 1 az3) c.Points),.pure (encL 12 az5 c.Edges)]);.loop (fun (g:Int)=>⟨[(1,.ptr 0 0),(3,pz g)],[f],[],1⟩)
 (.exit 0) (fun (_:U0)=>⟨[(1,.ptr 0 0)],[f],[],1⟩)
 (fun g=>let h:=i64.wrap (g-1);let i:=c.Edges.getD (g.toNat) default;let j:=i.U;let k:=i.V;let m:=c.Edges.getD (h.toNat) default;.br (decide (g<(d:Int)))
 (.gh g c.Edges.length<|
 .cut 1 (fun (n:Bool)=>⟨[(1,.ptr 0 0),(3,pz g),(4,.ptr 1 0),(34,.pure (.bool n))],[f,(1,.box [pz j,pz k,pz (i.Cost),pz (i.State),pz (i.Proof.Kind),.pure (encL 3 azy (i.Proof.Pieces)),pz (i.Proof.At.Depth),pz (i.Proof.At.Index),.pure (encL 3 az1 (i.Proof.At.Normals)),pz (i.Proof.Witness.Pair),.pure (encL 1 az3 (i.Proof.Witness.Left)),.pure (encL 1 az3 (i.Proof.Witness.Right))])],[],2⟩)
 (.br (decide (j<0))
 (.oo true)
 (.br (decide (j≥k))
 (.oo true)
 (.oo (decide (k≥(e:Int)))))) fun n=>
 .br n
 (.ff false)
 (.cut 0 (fun (q:Bool)=>⟨[(1,.ptr 0 0),(3,pz g),(72,.pure (.bool q))],[f],[],1⟩)
 (.br (decide (g>0))
 (.gh h c.Edges.length<|
 .br (decide ((m.U)>j))
 (.oo true)
 (.gh h c.Edges.length<|
 .br ((m.U)==j)
 (.gh h c.Edges.length<|
 .oo (decide ((m.V)≥k)))
 (.oo false)))
 (.oo false)) fun q=>
 .br q
 (.ff false)
 (.nn (i64.wrap (g+1)))))
 (.oo .u))
 0 [] fun _=>
 .br (decide ((e:Int)≤1024))
 (.ret (decide ((d:Int)≤8192)))
 (.ret false)
noncomputable def pzf (c):=
 mkD Tryz.func115 (pzg c) 0 [.pure (bz7 c)] [] (fun r=>.pure (.bool r)) (fun _=>[])
noncomputable def sz9 (c:az9):T Bool:=let d:Nat×Res:=(0,.box [.pure (encL 1 (encL 1 az3) c.Points),.pure (encL 12 az5 c.Edges)]);.loop (fun (e:Int)=>⟨[(1,.ptr 0 0),(3,pz e)],[d],[],1⟩)
 (.exit 0) (fun (_:U0)=>⟨[(1,.ptr 0 0)],[d],[],1⟩)
 (fun e=>let f:=c.Edges.getD (e.toNat) default;.br (decide (e<(c.Edges.length:Int)))
 (.cut 1 (fun (g:Bool)=>⟨[(1,.ptr 0 0),(3,pz e),(26,.pure (.bool g))],[d],[],1⟩)
 (.gh e c.Edges.length<|
 .br (decide ((f.Cost)<0))
 (.oo true)
 (.gh e c.Edges.length<|
 .oo (decide ((f.Cost)>1099511627776)))) fun g=>
 .br g
 (.ff false)
 (.nn (i64.wrap (e+1))))
 (.oo .u))
 0 [] fun _=>
 .cc (pzf c) fun e=>
 .ret e
noncomputable def sz8 (c):=
 mkD Tryz.func75 (sz9 c) 0 [.pure (bz7 c)] [] (fun r=>.pure (.bool r)) (fun _=>[])
noncomputable def uzy (c:az9)(d:Int)(e:Int):T Bool:=let f:=(c.Points.length:Nat);.cc (sz8 c) fun g=>
 .br g
 (.br (decide (d≥0))
 (.br (decide (d<(f:Int)))
 (.br (decide (e≥0))
 (.ret (decide (e<(f:Int))))
 (.ret false))
 (.ret false))
 (.ret false))
 (.ret false)
noncomputable def oz2 (c)(d)(e):=
 mkD Tryz.func44 (uzy c d e) 0 [.pure (bz7 c),pz d,pz e] [] (fun r=>.pure (.bool r)) (fun _=>[])
noncomputable def Gzr (c:az4)(d:Int):T Bool:=
 .br (d==0)
 (.ret (c.State==1))
 (.br (d==1)
 (.br (c.State==1)
 (.ret true)
 (.ret (c.State==0)))
 (.br (d==2)
 (.ret (c.State !=2))
 (.ret false)))
noncomputable def nz8 (c)(d):=
 mkD Tryz.func46 (Gzr c d) 0 [.pure (az5 c),pz d] [] (fun r=>.pure (.bool r)) (fun _=>[])
noncomputable def yz7 (c:azh)(d:azh):T Bool:=let e:=decide (d.Cost<0);.cut 2 (fun (f:Bool)=>⟨[(2,.ptr 0 0),(3,.ptr 1 0),(12,.pure (.bool f))],[(0,.box [pz c.Cost,pz c.Edges]),(1,.box [pz d.Cost,pz d.Edges])],[],2⟩)
 (.br e
 (.oo true)
 (.oo (decide (c.Cost<0)))) fun f=>
 .br f
 (.br (decide (c.Cost≥0))
 (.ret e)
 (.ret false))
 (.br (decide (c.Cost<d.Cost))
 (.ret true)
 (.br (c.Cost==d.Cost)
 (.ret (decide (c.Edges<d.Edges)))
 (.ret false)))
noncomputable def qzp (c)(d):=
 mkD Tryz.func76 (yz7 c d) 0 [.pure (bz2 c),.pure (bz2 d)] [] (fun r=>.pure (.bool r)) (fun _=>[])
set_option maxHeartbeats 8000000 in
set_option maxRecDepth 20000 in
noncomputable def szd (c:az9)(d:Int)(e:Int):T Ak:=let f:=(c.Points.length:Int);let g:Nat×Res:=(0,.box [.pure (encL 1 (encL 1 az3) c.Points),.pure (encL 12 az5 c.Edges)]);.conv 1003 (Hzj 2 bz2 100 f.toNat (⟨0,0⟩:azh))<|
 .grd (0≤f/\f≤f/\f≤9223372036854775807/\f * 16≤140737488355328)<|
 .loop (fun (h:(Ak×Int))=>⟨[(1,pz d),(2,pz e),(3,.ptr 0 0),(7,.vec 1),(8,pz h.2)],[g,(1,vecO 2 bz2 h.1 100)],[],2⟩)
 (.exit 0) (fun (h:Ak)=>⟨[(1,pz d),(2,pz e),(3,.ptr 0 0),(7,.vec 1)],[g,(1,vecO 2 bz2 h 100)],[],2⟩)
 (fun h=>let i:=(h.2).toNat;let j:=(⟨(-1),(h.1.getD i default).Edges⟩:azh);.name 3002 ((h.1.length:Int)) fun k=>
 .br (decide (h.2<k))
 (.gh h.2 h.1.length<|
 .conv 5004 (fzg 2 bz2 h.1 100 i j)<|
 .gi (h.2) h.1.length<|
 .nn ((h.1.set i j),(i64.wrap (h.2+1))))
 (.oo h.1))
 ((List.replicate f.toNat ((⟨0,0⟩:azh):azh)),0) [] fun h=>
 .gh d h.length<|
 .conv 6004 (fzg 2 bz2 h 100 (d.toNat) (⟨0,0⟩:azh))<|
 .gi (d) h.length<|
 .loop (fun (i:Ao)=>⟨[(2,pz e),(3,.ptr 0 0),(7,.vec 1),(9,.pure (.bool i.2))],[g,(1,vecO 2 bz2 i.1 100)],[],2⟩)
 (.exit 2) (fun (i:Ak)=>⟨[(7,.vec 0)],[(0,vecO 2 bz2 i 100)],[],1⟩)
 (fun i=>.br i.2
 (.loop (fun (j:(Ak×Bool×Int))=>⟨[(2,pz e),(3,.ptr 0 0),(7,.vec 1),(9,.pure (.bool j.2.1)),(10,pz j.2.2)],[g,(1,vecO 2 bz2 j.1 100)],[],2⟩)
 (.exit 4) (fun (j:Ao)=>⟨[(2,pz e),(3,.ptr 0 0),(7,.vec 1),(9,.pure (.bool j.2))],[g,(1,vecO 2 bz2 j.1 100)],[],2⟩)
 (fun j=>let k:=c.Edges.getD ((j.2.2).toNat) default;let m:=([(k.U,k.V),(k.V,k.U)]:(List An));let n:Nat×Res:=(2,.box [pz (k.U),pz (k.V),pz (k.Cost),pz (k.State),pz (k.Proof.Kind),.pure (encL 3 azy (k.Proof.Pieces)),pz (k.Proof.At.Depth),pz (k.Proof.At.Index),.pure (encL 3 az1 (k.Proof.At.Normals)),pz (k.Proof.Witness.Pair),.pure (encL 1 az3 (k.Proof.Witness.Left)),.pure (encL 1 az3 (k.Proof.Witness.Right))]);.br (decide (j.2.2<(c.Edges.length:Int)))
 (.cut 0 (fun (q:Ao)=>⟨[(2,pz e),(3,.ptr 0 0),(7,.vec 1),(9,.pure (.bool q.2)),(10,pz j.2.2)],[g,(1,vecO 2 bz2 q.1 100)],[],2⟩)
 (.gh j.2.2 c.Edges.length<|
 .cc (nz8 k e) fun q=>
 .br (!q)
 (.oo (j.1,j.2.1))
 (.conv 15010 (czi 2 jz9 m 135)<|
 .name 15011 ((m.length:Int)) fun s=>
 .loop (fun (t:(Ak×Bool×Int))=>⟨[(2,pz e),(3,.ptr 0 0),(7,.vec 1),(9,.pure (.bool t.2.1)),(10,pz j.2.2),(11,.ptr 2 0),(60,.vec 3),(61,pz s),(62,pz t.2.2)],[g,(1,vecO 2 bz2 t.1 100),n,(3,vecO 2 jz9 m 135)],[],4⟩)
 (.exit 6) (fun (t:Ao)=>⟨[(2,pz e),(3,.ptr 0 0),(7,.vec 1),(9,.pure (.bool t.2)),(10,pz j.2.2)],[g,(1,vecO 2 bz2 t.1 100)],[],2⟩)
 (fun t=>let w:=m.getD ((t.2.2).toNat) default;.br (decide (t.2.2<s))
 (.cut 0 (fun (y:Ao)=>⟨[(2,pz e),(3,.ptr 0 0),(7,.vec 1),(9,.pure (.bool y.2)),(10,pz j.2.2),(11,.ptr 2 0),(60,.vec 3),(61,pz s),(62,pz t.2.2)],[g,(1,vecO 2 bz2 y.1 100),n,(3,vecO 2 jz9 m 135)],[],4⟩)
 (.gg t.2.2 (m.length)<|
 .ix 0 2 rfl<|
 .name 18002 (w.1) fun y=>let z:=t.1.getD (y.toNat) default;
 .gg y t.1.length<|
 .br (decide ((z.Cost)<0))
 (.oo (t.1,t.2.1))
 (.name 20004 ((i64.wrap ((z.Cost)+(k.Cost)))) fun aa=>let ab:=(⟨aa,(i64.wrap ((z.Edges)+1))⟩:azh);
 .ix 1 2 rfl<|
 .name 21003 (w.2) fun ac=>
 .gg ac t.1.length<|
 .call (qzp ab (t.1.getD (ac.toNat) default)) [] fun ad=>
 .br ad
 (.ix 1 2 rfl<|
 .name 22002 (w.2) fun ae=>
 .gh ae t.1.length<|
 .conv 22005 (fzg 2 bz2 t.1 100 (ae.toNat) ab)<|
 .gi (ae) t.1.length<|
 .oo ((t.1.set (ae.toNat) ab),true))
 (.oo (t.1,t.2.1)))) fun y=>
 .nn (y.1,y.2,(i64.wrap (t.2.2+1))))
 (.oo (t.1,t.2.1)))
 (j.1,j.2.1,0) [] fun t=>
 .oo (t.1,t.2))) fun q=>
 .nn (q.1,q.2,(i64.wrap (j.2.2+1))))
 (.oo (j.1,j.2.1)))
 (i.1,false,0) [] fun j=>
 .nn (j.1,j.2))
 (.oo i.1))
 ((h.set (d.toNat) (⟨0,0⟩:azh)),true) [] fun i=>
 .ret i
noncomputable def szc (c)(d)(e):=
 mkD Tryz.func45 (szd c d e) 0 [.pure (bz7 c),pz d,pz e] [] (fun r=>.pure (encL 2 bz2 r)) (fun _=>[])
set_option maxHeartbeats 8000000 in
set_option maxRecDepth 20000 in
noncomputable def izm (c:az9)(d:Int)(e:Int)(f:Int):T (bzf×Bool):=let g:=([d]:A0);let h:Nat×Res:=(0,.box [.pure (encL 1 (encL 1 az3) c.Points),.pure (encL 12 az5 c.Edges)]);let i:=(⟨c.Points,c.Edges⟩:az9);.cut 2 (fun (j:Bool)=>⟨[(1,pz d),(2,pz e),(3,pz f),(4,.ptr 0 0),(8,.ptr 1 0),(29,.pure (.bool j))],[h,(1,.box [.vec 2,pz 0]),(2,.nilv)],[],3⟩)
 (.cc (oz2 i d e) fun j=>
 .br (!j)
 (.oo true)
 (.br (decide (f<0))
 (.oo true)
 (.oo (decide (f>2))))) fun j=>
 .br j
 (.ret ((⟨nl,0⟩:bzf),false))
 (.cc (szc i e f) fun k=>let m:=encL 2 bz2 k;let n:=k.getD (d.toNat) default;let q:=n.Cost;let s:Nat×Res:=(3,.box [.vec 4,pz q]);
 .gh d k.length<|
 .br (decide (q<0))
 (.ret ((⟨nl,0⟩:bzf),false))
 (.conv 6001 (czi 1 az3 g 3)<|
 .gh d k.length<|
 .loop (fun (t:A2)=>⟨[(2,pz e),(3,pz f),(4,.ptr 0 0),(8,.ptr 1 0),(10,.pure m),(11,.ptr 3 0),(12,pz t.2)],[h,(1,.box [.vec 2,pz 0]),(2,.nilv),s,(4,vecO 1 az3 t.1 3)],[],5⟩)
 (.exit 0) (fun (t:A0)=>⟨[(8,.ptr 0 0),(11,.ptr 2 0)],[(0,.box [.vec 1,pz 0]),(1,.nilv),(2,.box [.vec 3,pz q]),(3,vecO 1 az3 t 3)],[],4⟩)
 (fun t=>let w:=k.getD ((t.2).toNat) default;.br (t.2 !=e)
 (.loop (fun (y:An)=>⟨[(2,pz e),(3,pz f),(4,.ptr 0 0),(8,.ptr 1 0),(10,.pure m),(11,.ptr 3 0),(12,pz t.2),(13,pz y.1),(14,pz y.2)],[h,(1,.box [.vec 2,pz 0]),(2,.nilv),s,(4,vecO 1 az3 t.1 3)],[],5⟩)
 (.exit 2) (fun (y:Int)=>⟨[(2,pz e),(3,pz f),(4,.ptr 0 0),(8,.ptr 1 0),(10,.pure m),(11,.ptr 3 0),(13,pz y)],[h,(1,.box [.vec 2,pz 0]),(2,.nilv),s,(4,vecO 1 az3 t.1 3)],[],5⟩)
 (fun y=>let z:=c.Edges.getD ((y.2).toNat) default;.br (decide (y.2<(c.Edges.length:Int)))
 (.cut 0 (fun (aa:Int)=>⟨[(2,pz e),(3,pz f),(4,.ptr 0 0),(8,.ptr 1 0),(10,.pure m),(11,.ptr 3 0),(12,pz t.2),(13,pz aa),(14,pz y.2)],[h,(1,.box [.vec 2,pz 0]),(2,.nilv),s,(4,vecO 1 az3 t.1 3)],[],5⟩)
 (.gh y.2 c.Edges.length<|
 .cut 1 (fun (aa:Bool)=>⟨[(2,pz e),(3,pz f),(4,.ptr 0 0),(8,.ptr 1 0),(10,.pure m),(11,.ptr 3 0),(12,pz t.2),(13,pz y.1),(14,pz y.2),(15,.ptr 5 0),(81,.pure (.bool aa))],[h,(1,.box [.vec 2,pz 0]),(2,.nilv),s,(4,vecO 1 az3 t.1 3),(5,.box [pz (z.U),pz (z.V),pz (z.Cost),pz (z.State),pz (z.Proof.Kind),.pure (encL 3 azy (z.Proof.Pieces)),pz (z.Proof.At.Depth),pz (z.Proof.At.Index),.pure (encL 3 az1 (z.Proof.At.Normals)),pz (z.Proof.Witness.Pair),.pure (encL 1 az3 (z.Proof.Witness.Left)),.pure (encL 1 az3 (z.Proof.Witness.Right))])],[],6⟩)
 (.cc (nz8 z f) fun aa=>
 .br (!aa)
 (.oo true)
 (.br ((z.U) !=t.2)
 (.oo ((z.V) !=t.2))
 (.oo false))) fun aa=>
 .br aa
 (.oo y.1)
 (.name 15006 ((i64.wrap ((i64.wrap ((z.U)+(z.V)))-t.2))) fun ab=>let ac:=k.getD (ab.toNat) default;
 .cut 0 (fun (ad:Bool)=>⟨[(2,pz e),(3,pz f),(4,.ptr 0 0),(8,.ptr 1 0),(10,.pure m),(11,.ptr 3 0),(12,pz t.2),(13,pz y.1),(14,pz y.2),(16,pz ab),(133,.pure (.bool ad))],[h,(1,.box [.vec 2,pz 0]),(2,.nilv),s,(4,vecO 1 az3 t.1 3)],[],5⟩)
 (.gh ab k.length<|
 .br (decide ((ac.Cost)≥0))
 (.gh ab k.length<|
 .gh t.2 k.length<|
 .br ((i64.wrap ((ac.Cost)+(z.Cost)))==(w.Cost))
 (.gh ab k.length<|
 .gh t.2 k.length<|
 .br ((i64.wrap ((ac.Edges)+1))==(w.Edges))
 (.br (decide (y.1<0))
 (.oo true)
 (.oo (decide (ab<y.1))))
 (.oo false))
 (.oo false))
 (.oo false)) fun ad=>
 .br ad
 (.oo ab)
 (.oo y.1))) fun aa=>
 .nn (aa,(i64.wrap (y.2+1))))
 (.oo y.1))
 ((-1),0) [] fun y=>let z:=([y]:A0);let aa:=t.1.length+z.length;
 .conv 19003 (czi 1 az3 z 3)<|
 .conv 19004 (ezf 1 az3 t.1 z 3)<|
 .grd (aa * 8≤140737488355328/\aa≤maxLen)<|
 .nn ((t.1++z),y))
 (.oo t.1))
 (g,d) [] fun t=>
 .ret ((⟨t,n.Cost⟩:bzf),true)))
noncomputable def fz8 (c)(d)(e)(f):=
 mkD Tryz.func17 (izm c d e f) 0 [.pure (bz7 c),pz d,pz e,pz f] [] (fun r=>.tup [.pure (ozm r.1),.pure (.bool r.2)]) (fun _=>[])
noncomputable def uzz (c:az9)(d:az4):T Bool:=let e:=(c.Points.length:Nat);.br (decide (d.U≥0))
 (.br (decide (d.U<(e:Int)))
 (.br (decide (d.V≥0))
 (.ret (decide (d.V<(e:Int))))
 (.ret false))
 (.ret false))
 (.ret false)
noncomputable def Dz5 (c)(d):=
 mkD Tryz.func41 (uzz c d) 0 [.pure (bz7 c),.pure (az5 d)] [] (fun r=>.pure (.bool r)) (fun _=>[])
noncomputable def vz0 (c:azl)(d:Int):T Bool:=
 .br (decide (d≥(-1)))
 (.ret (decide (d<(c.Joints.length:Int))))
 (.ret false)
noncomputable def ezm (c)(d):=
 mkD Tryz.func92 (vz0 c d) 0 [.pure (czp c),pz d] [] (fun r=>.pure (.bool r)) (fun _=>[])
noncomputable def lza (c:azg):T Int:=let d:=(c.Skips.length:Nat);let e:=(c.Shapes.length:Nat);let f:Nat×Res:=(0,.box [.pure (encL 12 azd c.Robot.Joints),.pure (encL 5 azj c.Robot.Masses),.pure (encL 3 azo c.Shapes),.pure (encL 2 bz4 c.Skips)]);.cc (czv c.Robot) fun g=>
 .br (g !=0)
 (.ret g)
 (.br (decide ((e:Int)>24))
 (.ret 901)
 (.loop (fun (h:Int)=>⟨[(1,.ptr 0 0),(4,pz h)],[f],[],1⟩)
 (.exit 0) (fun (_:U0)=>⟨[(1,.ptr 0 0)],[f],[],1⟩)
 (fun h=>let i:=c.Shapes.getD (h.toNat) default;let j:=(i.Points.length:Int);let k:Nat×Res:=(1,.box [pz (i.Link),pz (i.Radius),.pure (encL 3 az1 (i.Points))]);.br (decide (h<(e:Int)))
 (.gh h c.Shapes.length<|
 .cut 1 (fun (m:Bool)=>⟨[(1,.ptr 0 0),(4,pz h),(5,.ptr 1 0),(53,.pure (.bool m))],[f,k],[],2⟩)
 (.cc (ezm c.Robot (i.Link)) fun m=>
 .br (!m)
 (.oo true)
 (.cc (fzi (i.Radius) 1 1048576) fun n=>
 .br (!n)
 (.oo true)
 (.br (decide (j<1))
 (.oo true)
 (.oo (decide (j>8)))))) fun m=>
 .br m
 (.ff 902)
 (.loop (fun (n:Int)=>⟨[(1,.ptr 0 0),(4,pz h),(5,.ptr 1 0),(6,pz n)],[f,k],[],2⟩)
 (.exit 2) (fun (_:U0)=>⟨[(1,.ptr 0 0),(4,pz h)],[f],[],1⟩)
 (fun n=>.br (decide (n<j))
 (.gh n (i.Points.length)<|
 .call (fzh ((i.Points).getD (n.toNat) default) 4194304) [] fun q=>
 .br (!q)
 (.ff (.fin 805))
 (.nn (i64.wrap (n+1))))
 (.oo .u))
 0 [] fun _=>
 .nn (i64.wrap (h+1))))
 (.oo .u))
 0 [] fun _=>
 .br (decide ((d:Int)>64))
 (.ret 903)
 (.loop (fun (h:Int)=>⟨[(1,.ptr 0 0),(7,pz h)],[f],[],1⟩)
 (.exit 4) (fun (_:U0)=>⟨[],[],[],0⟩)
 (fun h=>let i:=c.Skips.getD (h.toNat) default;.br (decide (h<(d:Int)))
 (.cut 1 (fun (j:Bool)=>⟨[(1,.ptr 0 0),(7,pz h),(100,.pure (.bool j))],[f],[],1⟩)
 (.gh h c.Skips.length<|
 .cc (ezm c.Robot (i.A)) fun j=>
 .br (!j)
 (.oo true)
 (.gh h c.Skips.length<|
 .cc (ezm c.Robot (i.B)) fun k=>
 .oo (!k))) fun j=>
 .br j
 (.ff 903)
 (.nn (i64.wrap (h+1))))
 (.oo .u))
 0 [] fun _=>
 .ret 0)))
noncomputable def ezw (c):=
 mkD Tryz.func64 (lza c) 0 [.pure (cze c)] [] (fun r=>pz r) (fun _=>[])
noncomputable def uzq (c:azg)(d:A0)(e:A0):T Bool:=
 .cc (ezw (⟨c.Robot,c.Shapes,c.Skips⟩:azg)) fun f=>
 .br (f==0)
 (.cc (lzv c.Robot d) fun g=>
 .br g
 (.cc (lzv c.Robot e) fun h=>
 .ret h)
 (.ret false))
 (.ret false)
noncomputable def Czz (c)(d)(e):=
 mkD Tryz.func72 (uzq c d e) 0 [.pure (cze c),.pure (encL 1 az3 d),.pure (encL 1 az3 e)] [] (fun r=>.pure (.bool r)) (fun _=>[])
noncomputable def rzy (c:A0)(d:A0)(e:Int):T Bool:=
 .cc (kz5 c) fun f=>
 .br f
 (.cc (kz5 d) fun g=>
 .br g
 (.br ((c.length:Int)==(d.length:Int))
 (.br (decide (e≥0))
 (.ret (decide (e≤20)))
 (.ret false))
 (.ret false))
 (.ret false))
 (.ret false)
noncomputable def Az6 (c)(d)(e):=
 mkD Tryz.func107 (rzy c d e) 0 [.pure (encL 1 az3 c),.pure (encL 1 az3 d),pz e] [] (fun r=>.pure (.bool r)) (fun _=>[])
noncomputable def xzr (c:Int)(d:Int):T Int:=let e:=i64.wrap (c.tdiv d);.grd (d≠0)<|
 .cut 0 (fun (f:Int)=>⟨[(5,pz f)],[],[],0⟩)
 (.grd (d≠0)<|
 .br (decide ((c.tmod d)<0))
 (.oo (i64.wrap (e-1)))
 (.oo e)) fun f=>
 .ret f
noncomputable def bzd (c)(d):=
 mkD Tryz.func108 (xzr c d) 0 [pz c,pz d] [] (fun r=>pz r) (fun _=>[])
noncomputable def Bza (c:Int)(d:Int):T Int:=let e:=i64.wrap (c.tdiv d);.grd (d≠0)<|
 .cut 0 (fun (f:Int)=>⟨[(5,pz f)],[],[],0⟩)
 (.grd (d≠0)<|
 .br (decide ((c.tmod d)>0))
 (.oo (i64.wrap (e+1)))
 (.oo e)) fun f=>
 .ret f
noncomputable def bz5 (c)(d):=
 mkD Tryz.func109 (Bza c d) 0 [pz c,pz d] [] (fun r=>pz r) (fun _=>[])
noncomputable def uzj (c:A0)(d:A0)(e:Int)(f:Int):T (Ag×Bool):=let g:=encL 1 az3 c;let h:=encL 1 az3 d;let i:=IntKind.u64.wrap e;let j:=i64.wrap (1 * 2 ^ (min i.toNat 64));.cut 2 (fun (k:Bool)=>⟨[(0,.pure g),(1,.pure h),(2,pz e),(3,pz f),(31,.pure (.bool k))],[],[],0⟩)
 (.cc (Az6 c d e) fun k=>
 .br (!k)
 (.oo true)
 (.br (decide (f<0))
 (.oo true)
 (.grd (0≤i)<|
 .oo (decide (f≥j))))) fun k=>
 .br k
 (.ret (nl,false))
 (.grd (0≤i)<|
 .loop (fun (m:(Ag×Int))=>⟨[(0,.pure g),(1,.pure h),(3,pz f),(10,pz j),(11,.vec 0),(12,pz m.2)],[(0,vecO 2 aza m.1 176)],[],1⟩)
 (.exit 0) (fun (m:Ag)=>⟨[(11,.vec 0)],[(0,vecO 2 aza m 176)],[],1⟩)
 (fun m=>let n:=(m.2).toNat;let q:=c.getD n default;let s:=i64.wrap ((d.getD n default)-q);let t:=i64.wrap (f * s);.br (decide (m.2<(c.length:Int)))
 (.gh m.2 d.length<|
 .gh m.2 c.length<|
 .name 9006 ((i64.wrap ((i64.wrap (f+1)) * s))) fun w=>
 .gh m.2 c.length<|
 .name 10007 ((min t w)) fun y=>
 .call (bzd y j) [] fun z=>
 .gh m.2 c.length<|
 .name 10017 ((max t w)) fun aa=>
 .call (bz5 aa j) [] fun ab=>let ac:=([(⟨(i64.wrap (q+z)),(i64.wrap (q+ab))⟩:az0)]:Ag);let ad:=m.1.length+ac.length;
 .conv 10022 (czi 2 aza ac 176)<|
 .conv 10023 (ezf 2 aza m.1 ac 176)<|
 .grd (ad * 16≤140737488355328/\ad≤maxLen)<|
 .nn ((m.1++ac),(i64.wrap (m.2+1))))
 (.oo m.1))
 (nl,0) [] fun m=>
 .ret (m,true))
noncomputable def Czt (c)(d)(e)(f):=
 mkD Tryz.func73 (uzj c d e f) 0 [.pure (encL 1 az3 c),.pure (encL 1 az3 d),pz e,pz f] [] (fun r=>.tup [.pure (encL 2 aza r.1),.pure (.bool r.2)]) (fun _=>[])
noncomputable def xzy (c:az0):T Bool:=
 .br (decide ((-2147483648)≤c.Lo))
 (.br (decide (c.Lo≤c.Hi))
 (.ret (decide (c.Hi≤2147483648)))
 (.ret false))
 (.ret false)
noncomputable def dzs (c):=
 mkD Tryz.func191 (xzy c) 0 [.pure (aza c)] [] (fun r=>.pure (.bool r)) (fun _=>[])
noncomputable def nz4 (c:Ag):T Bool:=
 .loop (fun (d:Int)=>⟨[(0,.pure (encL 2 aza c)),(3,pz d)],[],[],0⟩)
 (.exit 0) (fun (_:U0)=>⟨[],[],[],0⟩)
 (fun d=>.br (decide (d<(c.length:Int)))
 (.gh d c.length<|
 .cc (dzs (c.getD (d.toNat) default)) fun e=>
 .br (!e)
 (.ff false)
 (.nn (i64.wrap (d+1))))
 (.oo .u))
 0 [] fun _=>
 .ret true
noncomputable def vzz (c):=
 mkD Tryz.func178 (nz4 c) 0 [.pure (encL 2 aza c)] [] (fun r=>.pure (.bool r)) (fun _=>[])
open Go.Proofs
noncomputable def uze (c:azl)(d:Ag):T Bool:=
 .br ((d.length:Int)==(c.Joints.length:Int))
 (.cc (vzz d) fun e=>
 .ret e)
 (.ret false)
noncomputable def nzz (c)(d):=
 mkD Tryz.func144 (uze c d) 0 [.pure (czp c),.pure (encL 2 aza d)] [] (fun r=>.pure (.bool r)) (fun _=>[])
noncomputable def xzq (c:Int):T Int:=
 .ret (max (-2147483648) (min c 2147483648))
noncomputable def mze (c):=
 mkD Tryz.func272 (xzq c) 0 [pz c] [] (fun r=>pz r) (fun _=>[])
noncomputable def Jz2 (c:Int):T az0:=
 .cc (mze c) fun d=>
 .cc (mze c) fun e=>
 .ret (⟨d,e⟩:az0)
noncomputable def mzf (c):=
 mkD Tryz.func254 (Jz2 c) 0 [pz c] [] (fun r=>.pure (aza r)) (fun _=>[])
noncomputable def ref1_Unit_T:T B1:=
 .cc (mzf 65536) fun c=>
 .ret ((c,(⟨0,0⟩:az0),(⟨0,0⟩:az0)),((⟨0,0⟩:az0),c,(⟨0,0⟩:az0)),((⟨0,0⟩:az0),(⟨0,0⟩:az0),c))
noncomputable def ref1_Unit_C:CallS B1:=
 mkD Tryz.func225 (ref1_Unit_T) 0 [] [] (fun r=>.pure (bzh r)) (fun _=>[])
noncomputable def ref1_Rest_T:T azw:=
 .cc (ref1_Unit_C) fun c=>
 .ret (⟨c,((⟨0,0⟩:az0),(⟨0,0⟩:az0),(⟨0,0⟩:az0))⟩:azw)
noncomputable def ref1_Rest_C:CallS azw:=
 mkD Tryz.func180 (ref1_Rest_T) 0 [] [] (fun r=>.pure (bzn r)) (fun _=>[])
noncomputable def Ezy (c:Int):T Int:=
 .ok ((65536:Int)≠0) (by decide)<|
 .ok ((65536:Int)≠0) (by decide)<|
 .ret ((i64.wrap ((c.tmod 65536)+65536)).tmod 65536)
noncomputable def zz4 (c):=
 mkD Tryz.func307 (Ezy c) 0 [pz c] [] (fun r=>pz r) (fun _=>[])
noncomputable def uzx (c:Int):T (Bd×Bd):=
 .cc (bzd (i64.wrap (c * 6746518852)) 65536) fun d=>
 .ix 1 11 rfl<|
 .cc (bz5 (i64.wrap (c * 6746518853)) 65536) fun e=>
 .ix 1 11 rfl<|
 .unroll 10<|
 .known true<|
 .lit 7002 (1)<|
 .ix 1 11 rfl<|
 .ix 1 11 rfl<|
 .cc (bzd (i64.wrap (d * d)) 1073741824) fun f=>
 .ix 2 11 rfl<|
 .lit 8002 (1)<|
 .ix 1 11 rfl<|
 .ix 1 11 rfl<|
 .cc (bz5 (i64.wrap (e * e)) 1073741824) fun g=>
 .ix 2 11 rfl<|
 .lit 6001 (3)<|
 .known true<|
 .lit 7002 (2)<|
 .ix 2 11 rfl<|
 .ix 1 11 rfl<|
 .cc (bzd (i64.wrap (f * d)) 1073741824) fun h=>
 .ix 3 11 rfl<|
 .lit 8002 (2)<|
 .ix 2 11 rfl<|
 .ix 1 11 rfl<|
 .cc (bz5 (i64.wrap (g * e)) 1073741824) fun i=>
 .ix 3 11 rfl<|
 .lit 6001 (4)<|
 .known true<|
 .lit 7002 (3)<|
 .ix 3 11 rfl<|
 .ix 1 11 rfl<|
 .cc (bzd (i64.wrap (h * d)) 1073741824) fun j=>
 .ix 4 11 rfl<|
 .lit 8002 (3)<|
 .ix 3 11 rfl<|
 .ix 1 11 rfl<|
 .cc (bz5 (i64.wrap (i * e)) 1073741824) fun k=>
 .ix 4 11 rfl<|
 .lit 6001 (5)<|
 .known true<|
 .lit 7002 (4)<|
 .ix 4 11 rfl<|
 .ix 1 11 rfl<|
 .cc (bzd (i64.wrap (j * d)) 1073741824) fun m=>
 .ix 5 11 rfl<|
 .lit 8002 (4)<|
 .ix 4 11 rfl<|
 .ix 1 11 rfl<|
 .cc (bz5 (i64.wrap (k * e)) 1073741824) fun n=>
 .ix 5 11 rfl<|
 .lit 6001 (6)<|
 .known true<|
 .lit 7002 (5)<|
 .ix 5 11 rfl<|
 .ix 1 11 rfl<|
 .cc (bzd (i64.wrap (m * d)) 1073741824) fun q=>
 .ix 6 11 rfl<|
 .lit 8002 (5)<|
 .ix 5 11 rfl<|
 .ix 1 11 rfl<|
 .cc (bz5 (i64.wrap (n * e)) 1073741824) fun s=>
 .ix 6 11 rfl<|
 .lit 6001 (7)<|
 .known true<|
 .lit 7002 (6)<|
 .ix 6 11 rfl<|
 .ix 1 11 rfl<|
 .cc (bzd (i64.wrap (q * d)) 1073741824) fun t=>
 .ix 7 11 rfl<|
 .lit 8002 (6)<|
 .ix 6 11 rfl<|
 .ix 1 11 rfl<|
 .cc (bz5 (i64.wrap (s * e)) 1073741824) fun w=>
 .ix 7 11 rfl<|
 .lit 6001 (8)<|
 .known true<|
 .lit 7002 (7)<|
 .ix 7 11 rfl<|
 .ix 1 11 rfl<|
 .cc (bzd (i64.wrap (t * d)) 1073741824) fun y=>
 .ix 8 11 rfl<|
 .lit 8002 (7)<|
 .ix 7 11 rfl<|
 .ix 1 11 rfl<|
 .cc (bz5 (i64.wrap (w * e)) 1073741824) fun z=>
 .ix 8 11 rfl<|
 .lit 6001 (9)<|
 .known true<|
 .lit 7002 (8)<|
 .ix 8 11 rfl<|
 .ix 1 11 rfl<|
 .cc (bzd (i64.wrap (y * d)) 1073741824) fun aa=>
 .ix 9 11 rfl<|
 .lit 8002 (8)<|
 .ix 8 11 rfl<|
 .ix 1 11 rfl<|
 .cc (bz5 (i64.wrap (z * e)) 1073741824) fun ab=>
 .ix 9 11 rfl<|
 .lit 6001 (10)<|
 .known true<|
 .lit 7002 (9)<|
 .ix 9 11 rfl<|
 .ix 1 11 rfl<|
 .cc (bzd (i64.wrap (aa * d)) 1073741824) fun ac=>
 .ix 10 11 rfl<|
 .lit 8002 (9)<|
 .ix 9 11 rfl<|
 .ix 1 11 rfl<|
 .cc (bz5 (i64.wrap (ab * e)) 1073741824) fun ad=>
 .ix 10 11 rfl<|
 .lit 6001 (11)<|
 .known false<|
 .ret ((0,d,f,h,j,m,q,t,y,aa,ac),(0,e,g,i,k,n,s,w,z,ab,ad))
noncomputable def uzw (c):=
 mkD Tryz.func317 (uzx c) 0 [pz c] [] (fun r=>.tup [.pure (izj r.1),.pure (izj r.2)]) (fun _=>[])
noncomputable def nz7 (c:Int)(d:Int):T az0:=
 .cc (bzd c 16384) fun e=>
 .cc (bz5 d 16384) fun f=>
 .ret (⟨(max 0 e),(min 65536 f)⟩:az0)
noncomputable def nz6 (c)(d):=
 mkD Tryz.func318 (nz7 c d) 0 [pz c,pz d] [] (fun r=>.pure (aza r)) (fun _=>[])
noncomputable def Bzg (c:Int):T az0:=
 .cc (uzw c) fun d=>
 .ix 1 11 rfl<|
 .ix 3 11 rfl<|
 .cc (bz5 d.2.2.2.2.1 6) fun e=>
 .ix 5 11 rfl<|
 .cc (bzd d.1.2.2.2.2.2.1 120) fun f=>
 .ix 7 11 rfl<|
 .cc (bz5 d.2.2.2.2.2.2.2.2.1 5040) fun g=>
 .ix 1 11 rfl<|
 .ix 3 11 rfl<|
 .cc (bzd d.1.2.2.2.1 6) fun h=>
 .ix 5 11 rfl<|
 .cc (bz5 d.2.2.2.2.2.2.1 120) fun i=>
 .ix 7 11 rfl<|
 .cc (bzd d.1.2.2.2.2.2.2.2.1 5040) fun j=>
 .ix 9 11 rfl<|
 .cc (bz5 d.2.2.2.2.2.2.2.2.2.2.1 362880) fun k=>
 .call (nz6 (i64.wrap ((i64.wrap ((i64.wrap (d.1.2.1-e))+f))-g)) (i64.wrap ((i64.wrap ((i64.wrap ((i64.wrap (d.2.2.1-h))+i))-j))+k))) [] fun m=>
 .ret m
noncomputable def Jz8 (c):=
 mkD Tryz.func312 (Bzg c) 0 [pz c] [] (fun r=>.pure (aza r)) (fun _=>[])
noncomputable def uzv (c:Int):T az0:=
 .cc (uzw c) fun d=>
 .ix 2 11 rfl<|
 .cc (bz5 d.2.2.2.1 2) fun e=>
 .ix 4 11 rfl<|
 .cc (bzd d.1.2.2.2.2.1 24) fun f=>
 .ix 6 11 rfl<|
 .cc (bz5 d.2.2.2.2.2.2.2.1 720) fun g=>
 .ix 8 11 rfl<|
 .cc (bzd d.1.2.2.2.2.2.2.2.2.1 40320) fun h=>
 .ix 10 11 rfl<|
 .cc (bz5 d.2.2.2.2.2.2.2.2.2.2.2 3628800) fun i=>
 .name 2019 ((i64.wrap ((i64.wrap ((i64.wrap ((i64.wrap ((i64.wrap (1073741824-e))+f))-g))+h))-i))) fun j=>
 .ix 2 11 rfl<|
 .cc (bzd d.1.2.2.1 2) fun k=>
 .ix 4 11 rfl<|
 .cc (bz5 d.2.2.2.2.2.1 24) fun m=>
 .ix 6 11 rfl<|
 .cc (bzd d.1.2.2.2.2.2.2.1 720) fun n=>
 .ix 8 11 rfl<|
 .cc (bz5 d.2.2.2.2.2.2.2.2.2.1 40320) fun q=>
 .call (nz6 j (i64.wrap ((i64.wrap ((i64.wrap ((i64.wrap (1073741824-k))+m))-n))+q))) [] fun s=>
 .ret s
noncomputable def Dz3 (c):=
 mkD Tryz.func313 (uzv c) 0 [pz c] [] (fun r=>.pure (aza r)) (fun _=>[])
noncomputable def sz3 (c:Int):T az0:=
 .br (decide (c≤8192))
 (.cc (Jz8 c) fun d=>
 .ret d)
 (.cc (Dz3 (i64.wrap (16384-c))) fun d=>
 .ret d)
noncomputable def izf (c):=
 mkD Tryz.func308 (sz3 c) 0 [pz c] [] (fun r=>.pure (aza r)) (fun _=>[])
noncomputable def Fz1 (c:az0):T az0:=
 .cc (dzs c) fun d=>
 .br (!d)
 (.ret (⟨0,0⟩:az0))
 (.ret (⟨(i64.wrap (0-c.Hi)),(i64.wrap (0-c.Lo))⟩:az0))
noncomputable def zz5 (c):=
 mkD Tryz.func290 (Fz1 c) 0 [.pure (aza c)] [] (fun r=>.pure (aza r)) (fun _=>[])
noncomputable def Fz2 (c:Int):T az0:=
 .cc (zz4 c) fun d=>let e:=d.tmod 16384;let f:=i64.wrap (d.tdiv 16384);let g:=i64.wrap (16384-e);
 .ok ((16384:Int)≠0) (by decide)<|
 .ok ((16384:Int)≠0) (by decide)<|
 .br (f==0)
 (.cc (izf e) fun h=>
 .ret h)
 (.br (f==1)
 (.cc (izf g) fun h=>
 .ret h)
 (.br (f==2)
 (.cc (izf e) fun h=>
 .cc (zz5 h) fun i=>
 .ret i)
 (.cc (izf g) fun h=>
 .cc (zz5 h) fun i=>
 .ret i)))
noncomputable def zz6 (c):=
 mkD Tryz.func303 (Fz2 c) 0 [pz c] [] (fun r=>.pure (aza r)) (fun _=>[])
noncomputable def Ezw (c:Int):T az0:=
 .cc (zz4 c) fun d=>
 .cc (zz6 (i64.wrap (d+16384))) fun e=>
 .ret e
noncomputable def Ezv (c):=
 mkD Tryz.func302 (Ezw c) 0 [pz c] [] (fun r=>.pure (aza r)) (fun _=>[])
noncomputable def Bzb (c:az0)(d:az0):T az0:=
 .cut 2 (fun (e:Bool)=>⟨[(2,.ptr 0 0),(3,.ptr 1 0),(4,.ptr 2 0),(12,.pure (.bool e))],[(0,.box [pz c.Lo,pz c.Hi]),(1,.box [pz d.Lo,pz d.Hi]),(2,.box [pz 0,pz 0])],[],3⟩)
 (.cc (dzs c) fun e=>
 .br (!e)
 (.oo true)
 (.cc (dzs d) fun f=>
 .oo (!f))) fun e=>
 .br e
 (.ret (⟨0,0⟩:az0))
 (.ret (⟨(min c.Lo d.Lo),(max c.Hi d.Hi)⟩:az0))
noncomputable def uzt (c)(d):=
 mkD Tryz.func305 (Bzb c d) 0 [.pure (aza c),.pure (aza d)] [] (fun r=>.pure (aza r)) (fun _=>[])
noncomputable def yz0 (c:az0)(d:Int):T Bool:=
 .cc (zz4 (i64.wrap (d-c.Lo))) fun e=>
 .ret (decide ((i64.wrap (c.Lo+e))≤c.Hi))
noncomputable def xzz (c)(d):=
 mkD Tryz.func306 (yz0 c d) 0 [.pure (aza c),pz d] [] (fun r=>.pure (.bool r)) (fun _=>[])
noncomputable def Bzf (c:az0)(d:az0)(e:az0)(f:Int)(g:Int):T az0:=
 .cc (dzs c) fun h=>
 .br (!h)
 (.ret (⟨0,0⟩:az0))
 (.br (decide ((i64.wrap (c.Hi-c.Lo))≥65536))
 (.ret (⟨(-65536),65536⟩:az0))
 (.cc (uzt d e) fun i=>
 .cut 0 (fun (j:An)=>⟨[(4,pz g),(5,.ptr 0 0),(10,.ptr 1 0),(11,.ptr 2 0)],[(0,.box [pz c.Lo,pz c.Hi]),(1,.box [pz 0,pz 0]),(2,.box [pz j.1,pz j.2])],[],3⟩)
 (.cc (xzz c f) fun j=>
 .br j
 (.cc (mzf 65536) fun k=>
 .cc (uzt i k) fun m=>
 .oo (m.Lo,m.Hi))
 (.oo (i.Lo,i.Hi))) fun j=>
 .cut 0 (fun (k:An)=>⟨[(10,.ptr 0 0),(11,.ptr 1 0)],[(0,.box [pz 0,pz 0]),(1,.box [pz k.1,pz k.2])],[],2⟩)
 (.cc (xzz c g) fun k=>
 .br k
 (.cc (mzf (-65536)) fun m=>
 .cc (uzt (⟨j.1,j.2⟩:az0) m) fun n=>
 .oo (n.Lo,n.Hi))
 (.oo (j.1,j.2))) fun k=>
 .ret (⟨k.1,k.2⟩:az0)))
noncomputable def Bze (c)(d)(e)(f)(g):=
 mkD Tryz.func301 (Bzf c d e f g) 0 [.pure (aza c),.pure (aza d),.pure (aza e),pz f,pz g] [] (fun r=>.pure (aza r)) (fun _=>[])
noncomputable def sz2 (c:az0):T az0:=
 .cc (Ezv c.Lo) fun d=>
 .cc (Ezv c.Hi) fun e=>
 .cc (Bze c (⟨d.Lo,d.Hi⟩:az0) (⟨e.Lo,e.Hi⟩:az0) 0 32768) fun f=>
 .ret f
noncomputable def Az8 (c):=
 mkD Tryz.func288 (sz2 c) 0 [.pure (aza c)] [] (fun r=>.pure (aza r)) (fun _=>[])
noncomputable def sz4 (c:az0):T az0:=
 .cc (zz6 c.Lo) fun d=>
 .cc (zz6 c.Hi) fun e=>
 .cc (Bze c d e 16384 49152) fun f=>
 .ret f
noncomputable def Aza (c):=
 mkD Tryz.func289 (sz4 c) 0 [.pure (aza c)] [] (fun r=>.pure (aza r)) (fun _=>[])
noncomputable def Bzd (c:Int)(d:az0):T B1:=let e:=(⟨d.Lo,d.Hi⟩:az0);.cc (dzs d) fun f=>
 .br (!f)
 (.ret (((⟨0,0⟩:az0),(⟨0,0⟩:az0),(⟨0,0⟩:az0)),((⟨0,0⟩:az0),(⟨0,0⟩:az0),(⟨0,0⟩:az0)),((⟨0,0⟩:az0),(⟨0,0⟩:az0),(⟨0,0⟩:az0))))
 (.cc (mzf 65536) fun g=>
 .cc (Az8 e) fun h=>
 .cc (Aza e) fun i=>
 .cc (zz5 i) fun j=>
 .br (c==0)
 (.ret ((g,(⟨0,0⟩:az0),(⟨0,0⟩:az0)),((⟨0,0⟩:az0),h,j),((⟨0,0⟩:az0),i,h)))
 (.br (c==1)
 (.ret ((h,(⟨0,0⟩:az0),i),((⟨0,0⟩:az0),g,(⟨0,0⟩:az0)),(j,(⟨0,0⟩:az0),h)))
 (.br (c==2)
 (.ret ((h,j,(⟨0,0⟩:az0)),(i,h,(⟨0,0⟩:az0)),((⟨0,0⟩:az0),(⟨0,0⟩:az0),g)))
 (.ret (((⟨0,0⟩:az0),(⟨0,0⟩:az0),(⟨0,0⟩:az0)),((⟨0,0⟩:az0),(⟨0,0⟩:az0),(⟨0,0⟩:az0)),((⟨0,0⟩:az0),(⟨0,0⟩:az0),(⟨0,0⟩:az0)))))))
noncomputable def Jz5 (c)(d):=
 mkD Tryz.func269 (Bzd c d) 0 [pz c,.pure (aza d)] [] (fun r=>.pure (bzh r)) (fun _=>[])
noncomputable def pzc (c:Int)(d:az0):T azw:=
 .cc (Jz5 c (⟨d.Lo,d.Hi⟩:az0)) fun e=>
 .ret (⟨e,((⟨0,0⟩:az0),(⟨0,0⟩:az0),(⟨0,0⟩:az0))⟩:azw)
noncomputable def xzx (c)(d):=
 mkD Tryz.func249 (pzc c d) 0 [pz c,.pure (aza d)] [] (fun r=>.pure (bzn r)) (fun _=>[])
noncomputable def xzv (c:Ay):T azw:=
 .cc (ref1_Unit_C) fun d=>
 .ret (⟨d,c⟩:azw)
noncomputable def xzu (c):=
 mkD Tryz.func250 (xzv c) 0 [.pure (az2 c)] [] (fun r=>.pure (bzn r)) (fun _=>[])
noncomputable def xzt (c:Au):T Ay:=
 .ix 0 3 rfl<|
 .cc (mzf c.1) fun d=>
 .ix 1 3 rfl<|
 .cc (mzf c.2.1) fun e=>
 .ix 2 3 rfl<|
 .cc (mzf c.2.2) fun f=>
 .ret (d,e,f)
noncomputable def xzs (c):=
 mkD Tryz.func228 (xzt c) 0 [.pure (az1 c)] [] (fun r=>.pure (az2 r)) (fun _=>[])
noncomputable def sz6 (c:Int)(d:Int):T az0:=
 .cc (mze c) fun e=>
 .cc (mze d) fun f=>
 .ret (⟨e,f⟩:az0)
noncomputable def sz5 (c)(d):=
 mkD Tryz.func291 (sz6 c d) 0 [pz c,pz d] [] (fun r=>.pure (aza r)) (fun _=>[])
noncomputable def Fz0 (c:az0)(d:az0):T az0:=let e:=i64.wrap (c.Lo * d.Lo);let f:=i64.wrap (c.Lo * d.Hi);let g:=i64.wrap (c.Hi * d.Lo);let h:=i64.wrap (c.Hi * d.Hi);.cut 2 (fun (i:Bool)=>⟨[(2,.ptr 0 0),(3,.ptr 1 0),(4,.ptr 2 0),(16,.pure (.bool i))],[(0,.box [pz c.Lo,pz c.Hi]),(1,.box [pz d.Lo,pz d.Hi]),(2,.box [pz 0,pz 0])],[],3⟩)
 (.cc (dzs (⟨c.Lo,c.Hi⟩:az0)) fun i=>
 .br (!i)
 (.oo true)
 (.cc (dzs (⟨d.Lo,d.Hi⟩:az0)) fun j=>
 .oo (!j))) fun i=>
 .br i
 (.ret (⟨0,0⟩:az0))
 (.name 4004 ((min (min (min e f) g) h)) fun j=>
 .cc (bzd j 65536) fun k=>
 .name 4010 ((max (max (max e f) g) h)) fun m=>
 .cc (bz5 m 65536) fun n=>
 .cc (sz5 k n) fun q=>
 .ret q)
noncomputable def bz6 (c)(d):=
 mkD Tryz.func271 (Fz0 c d) 0 [.pure (aza c),.pure (aza d)] [] (fun r=>.pure (aza r)) (fun _=>[])
noncomputable def Ezs (c:az0)(d:az0):T az0:=
 .cut 2 (fun (e:Bool)=>⟨[(2,.ptr 0 0),(3,.ptr 1 0),(4,.ptr 2 0),(12,.pure (.bool e))],[(0,.box [pz c.Lo,pz c.Hi]),(1,.box [pz d.Lo,pz d.Hi]),(2,.box [pz 0,pz 0])],[],3⟩)
 (.cc (dzs c) fun e=>
 .br (!e)
 (.oo true)
 (.cc (dzs d) fun f=>
 .oo (!f))) fun e=>
 .br e
 (.ret (⟨0,0⟩:az0))
 (.cc (sz5 (i64.wrap (c.Lo+d.Lo)) (i64.wrap (c.Hi+d.Hi))) fun f=>
 .ret f)
noncomputable def bzm (c)(d):=
 mkD Tryz.func270 (Ezs c d) 0 [.pure (aza c),.pure (aza d)] [] (fun r=>.pure (aza r)) (fun _=>[])
noncomputable def lz8 (c:B1)(d:B1):T B1:=
 .unroll 4<|
 .known true<|
 .unroll 4<|
 .known true<|
 .ix 0 3 rfl<|
 .ix 0 3 rfl<|
 .ix 0 3 rfl<|
 .ix 0 3 rfl<|
 .cc (bz6 c.1.1 d.1.1) fun e=>
 .ix 0 3 rfl<|
 .ix 1 3 rfl<|
 .ix 1 3 rfl<|
 .ix 0 3 rfl<|
 .cc (bz6 c.1.2.1 d.2.1.1) fun f=>
 .cc (bzm e f) fun g=>
 .ix 0 3 rfl<|
 .ix 2 3 rfl<|
 .ix 2 3 rfl<|
 .ix 0 3 rfl<|
 .cc (bz6 c.1.2.2 d.2.2.1) fun h=>
 .cc (bzm g h) fun i=>
 .ix 0 3 rfl<|
 .ix 0 3 rfl<|
 .lit 7001 (1)<|
 .known true<|
 .ix 0 3 rfl<|
 .ix 0 3 rfl<|
 .ix 0 3 rfl<|
 .ix 1 3 rfl<|
 .cc (bz6 c.1.1 d.1.2.1) fun j=>
 .ix 0 3 rfl<|
 .ix 1 3 rfl<|
 .ix 1 3 rfl<|
 .ix 1 3 rfl<|
 .cc (bz6 c.1.2.1 d.2.1.2.1) fun k=>
 .cc (bzm j k) fun m=>
 .ix 0 3 rfl<|
 .ix 2 3 rfl<|
 .ix 2 3 rfl<|
 .ix 1 3 rfl<|
 .cc (bz6 c.1.2.2 d.2.2.2.1) fun n=>
 .cc (bzm m n) fun q=>
 .ix 0 3 rfl<|
 .ix 1 3 rfl<|
 .lit 7001 (2)<|
 .known true<|
 .ix 0 3 rfl<|
 .ix 0 3 rfl<|
 .ix 0 3 rfl<|
 .ix 2 3 rfl<|
 .cc (bz6 c.1.1 d.1.2.2) fun s=>
 .ix 0 3 rfl<|
 .ix 1 3 rfl<|
 .ix 1 3 rfl<|
 .ix 2 3 rfl<|
 .cc (bz6 c.1.2.1 d.2.1.2.2) fun t=>
 .cc (bzm s t) fun w=>
 .ix 0 3 rfl<|
 .ix 2 3 rfl<|
 .ix 2 3 rfl<|
 .ix 2 3 rfl<|
 .cc (bz6 c.1.2.2 d.2.2.2.2) fun y=>
 .cc (bzm w y) fun z=>
 .ix 0 3 rfl<|
 .ix 2 3 rfl<|
 .lit 7001 (3)<|
 .known false<|
 .lit 4001 (1)<|
 .known true<|
 .unroll 4<|
 .known true<|
 .ix 1 3 rfl<|
 .ix 0 3 rfl<|
 .ix 0 3 rfl<|
 .ix 0 3 rfl<|
 .cc (bz6 c.2.1.1 d.1.1) fun aa=>
 .ix 1 3 rfl<|
 .ix 1 3 rfl<|
 .ix 1 3 rfl<|
 .ix 0 3 rfl<|
 .cc (bz6 c.2.1.2.1 d.2.1.1) fun ab=>
 .cc (bzm aa ab) fun ac=>
 .ix 1 3 rfl<|
 .ix 2 3 rfl<|
 .ix 2 3 rfl<|
 .ix 0 3 rfl<|
 .cc (bz6 c.2.1.2.2 d.2.2.1) fun ad=>
 .cc (bzm ac ad) fun ae=>
 .ix 1 3 rfl<|
 .ix 0 3 rfl<|
 .lit 7001 (1)<|
 .known true<|
 .ix 1 3 rfl<|
 .ix 0 3 rfl<|
 .ix 0 3 rfl<|
 .ix 1 3 rfl<|
 .cc (bz6 c.2.1.1 d.1.2.1) fun af=>
 .ix 1 3 rfl<|
 .ix 1 3 rfl<|
 .ix 1 3 rfl<|
 .ix 1 3 rfl<|
 .cc (bz6 c.2.1.2.1 d.2.1.2.1) fun ag=>
 .cc (bzm af ag) fun ah=>
 .ix 1 3 rfl<|
 .ix 2 3 rfl<|
 .ix 2 3 rfl<|
 .ix 1 3 rfl<|
 .cc (bz6 c.2.1.2.2 d.2.2.2.1) fun ai=>
 .cc (bzm ah ai) fun aj=>
 .ix 1 3 rfl<|
 .ix 1 3 rfl<|
 .lit 7001 (2)<|
 .known true<|
 .ix 1 3 rfl<|
 .ix 0 3 rfl<|
 .ix 0 3 rfl<|
 .ix 2 3 rfl<|
 .cc (bz6 c.2.1.1 d.1.2.2) fun ak=>
 .ix 1 3 rfl<|
 .ix 1 3 rfl<|
 .ix 1 3 rfl<|
 .ix 2 3 rfl<|
 .cc (bz6 c.2.1.2.1 d.2.1.2.2) fun al=>
 .cc (bzm ak al) fun am=>
 .ix 1 3 rfl<|
 .ix 2 3 rfl<|
 .ix 2 3 rfl<|
 .ix 2 3 rfl<|
 .cc (bz6 c.2.1.2.2 d.2.2.2.2) fun an=>
 .cc (bzm am an) fun ao=>
 .ix 1 3 rfl<|
 .ix 2 3 rfl<|
 .lit 7001 (3)<|
 .known false<|
 .lit 4001 (2)<|
 .known true<|
 .unroll 4<|
 .known true<|
 .ix 2 3 rfl<|
 .ix 0 3 rfl<|
 .ix 0 3 rfl<|
 .ix 0 3 rfl<|
 .cc (bz6 c.2.2.1 d.1.1) fun ap=>
 .ix 2 3 rfl<|
 .ix 1 3 rfl<|
 .ix 1 3 rfl<|
 .ix 0 3 rfl<|
 .cc (bz6 c.2.2.2.1 d.2.1.1) fun aq=>
 .cc (bzm ap aq) fun ar=>
 .ix 2 3 rfl<|
 .ix 2 3 rfl<|
 .ix 2 3 rfl<|
 .ix 0 3 rfl<|
 .cc (bz6 c.2.2.2.2 d.2.2.1) fun au=>
 .cc (bzm ar au) fun av=>
 .ix 2 3 rfl<|
 .ix 0 3 rfl<|
 .lit 7001 (1)<|
 .known true<|
 .ix 2 3 rfl<|
 .ix 0 3 rfl<|
 .ix 0 3 rfl<|
 .ix 1 3 rfl<|
 .cc (bz6 c.2.2.1 d.1.2.1) fun aw=>
 .ix 2 3 rfl<|
 .ix 1 3 rfl<|
 .ix 1 3 rfl<|
 .ix 1 3 rfl<|
 .cc (bz6 c.2.2.2.1 d.2.1.2.1) fun ax=>
 .cc (bzm aw ax) fun ay=>
 .ix 2 3 rfl<|
 .ix 2 3 rfl<|
 .ix 2 3 rfl<|
 .ix 1 3 rfl<|
 .cc (bz6 c.2.2.2.2 d.2.2.2.1) fun az=>
 .cc (bzm ay az) fun a0=>
 .ix 2 3 rfl<|
 .ix 1 3 rfl<|
 .lit 7001 (2)<|
 .known true<|
 .ix 2 3 rfl<|
 .ix 0 3 rfl<|
 .ix 0 3 rfl<|
 .ix 2 3 rfl<|
 .cc (bz6 c.2.2.1 d.1.2.2) fun a1=>
 .ix 2 3 rfl<|
 .ix 1 3 rfl<|
 .ix 1 3 rfl<|
 .ix 2 3 rfl<|
 .cc (bz6 c.2.2.2.1 d.2.1.2.2) fun a2=>
 .cc (bzm a1 a2) fun a3=>
 .ix 2 3 rfl<|
 .ix 2 3 rfl<|
 .ix 2 3 rfl<|
 .ix 2 3 rfl<|
 .cc (bz6 c.2.2.2.2 d.2.2.2.2) fun a4=>
 .cc (bzm a3 a4) fun a5=>
 .ix 2 3 rfl<|
 .ix 2 3 rfl<|
 .lit 7001 (3)<|
 .known false<|
 .lit 4001 (3)<|
 .known false<|
 .ret (((⟨(max (-65536) (min i.Lo 65536)),(max (-65536) (min i.Hi 65536))⟩:az0),(⟨(max (-65536) (min q.Lo 65536)),(max (-65536) (min q.Hi 65536))⟩:az0),(⟨(max (-65536) (min z.Lo 65536)),(max (-65536) (min z.Hi 65536))⟩:az0)),((⟨(max (-65536) (min ae.Lo 65536)),(max (-65536) (min ae.Hi 65536))⟩:az0),(⟨(max (-65536) (min aj.Lo 65536)),(max (-65536) (min aj.Hi 65536))⟩:az0),(⟨(max (-65536) (min ao.Lo 65536)),(max (-65536) (min ao.Hi 65536))⟩:az0)),((⟨(max (-65536) (min av.Lo 65536)),(max (-65536) (min av.Hi 65536))⟩:az0),(⟨(max (-65536) (min a0.Lo 65536)),(max (-65536) (min a0.Hi 65536))⟩:az0),(⟨(max (-65536) (min a5.Lo 65536)),(max (-65536) (min a5.Hi 65536))⟩:az0)))
noncomputable def tzf (c)(d):=
 mkD Tryz.func251 (lz8 c d) 0 [.pure (bzh c),.pure (bzh d)] [] (fun r=>.pure (bzh r)) (fun _=>[])
noncomputable def pza (c:B1)(d:Ay):T Ay:=
 .unroll 4<|
 .known true<|
 .ix 0 3 rfl<|
 .ix 0 3 rfl<|
 .ix 0 3 rfl<|
 .cc (bz6 c.1.1 d.1) fun e=>
 .ix 0 3 rfl<|
 .ix 1 3 rfl<|
 .ix 1 3 rfl<|
 .cc (bz6 c.1.2.1 d.2.1) fun f=>
 .cc (bzm e f) fun g=>
 .ix 0 3 rfl<|
 .ix 2 3 rfl<|
 .ix 2 3 rfl<|
 .cc (bz6 c.1.2.2 d.2.2) fun h=>
 .cc (bzm g h) fun i=>
 .ix 0 3 rfl<|
 .lit 4001 (1)<|
 .known true<|
 .ix 1 3 rfl<|
 .ix 0 3 rfl<|
 .ix 0 3 rfl<|
 .cc (bz6 c.2.1.1 d.1) fun j=>
 .ix 1 3 rfl<|
 .ix 1 3 rfl<|
 .ix 1 3 rfl<|
 .cc (bz6 c.2.1.2.1 d.2.1) fun k=>
 .cc (bzm j k) fun m=>
 .ix 1 3 rfl<|
 .ix 2 3 rfl<|
 .ix 2 3 rfl<|
 .cc (bz6 c.2.1.2.2 d.2.2) fun n=>
 .cc (bzm m n) fun q=>
 .ix 1 3 rfl<|
 .lit 4001 (2)<|
 .known true<|
 .ix 2 3 rfl<|
 .ix 0 3 rfl<|
 .ix 0 3 rfl<|
 .cc (bz6 c.2.2.1 d.1) fun s=>
 .ix 2 3 rfl<|
 .ix 1 3 rfl<|
 .ix 1 3 rfl<|
 .cc (bz6 c.2.2.2.1 d.2.1) fun t=>
 .cc (bzm s t) fun w=>
 .ix 2 3 rfl<|
 .ix 2 3 rfl<|
 .ix 2 3 rfl<|
 .cc (bz6 c.2.2.2.2 d.2.2) fun y=>
 .cc (bzm w y) fun z=>
 .ix 2 3 rfl<|
 .lit 4001 (3)<|
 .known false<|
 .ret (i,q,z)
noncomputable def pz9 (c)(d):=
 mkD Tryz.func253 (pza c d) 0 [.pure (bzh c),.pure (az2 d)] [] (fun r=>.pure (az2 r)) (fun _=>[])
noncomputable def uzs (c:Ay)(d:Ay):T Ay:=
 .ix 0 3 rfl<|
 .ix 0 3 rfl<|
 .cc (bzm c.1 d.1) fun e=>
 .ix 1 3 rfl<|
 .ix 1 3 rfl<|
 .cc (bzm c.2.1 d.2.1) fun f=>
 .ix 2 3 rfl<|
 .ix 2 3 rfl<|
 .cc (bzm c.2.2 d.2.2) fun g=>
 .ret (e,f,g)
noncomputable def uzr (c)(d):=
 mkD Tryz.func252 (uzs c d) 0 [.pure (az2 c),.pure (az2 d)] [] (fun r=>.pure (az2 r)) (fun _=>[])
noncomputable def sz1 (c:azw)(d:azw):T azw:=
 .cc (tzf c.R d.R) fun e=>
 .cc (pz9 c.R d.T) fun f=>
 .cc (uzr c.T (f.1,f.2.1,f.2.2)) fun g=>
 .ret (⟨(e.1,e.2.1,e.2.2),g⟩:azw)
noncomputable def sz0 (c)(d):=
 mkD Tryz.func224 (sz1 c d) 0 [.pure (bzn c),.pure (bzn d)] [] (fun r=>.pure (bzn r)) (fun _=>[])
set_option maxHeartbeats 8000000 in
set_option maxRecDepth 20000 in
noncomputable def uzg (c:azt)(d:az0):T azw:=let e:=i64.wrap (c.Kind-4);let f:Nat×Res:=(1,.box [pz d.Lo,pz d.Hi]);let g:Nat×Res:=(0,.box [.pure (.str c.Name),pz c.Kind,pz c.Parent,pz c.Offset.1,pz c.Offset.2.1,pz c.Offset.2.2,pz c.Lo,pz c.Hi,pz c.Weight,pz c.Speed,pz c.Accel,pz c.Torque]);.cc (ref1_Rest_C) fun h=>let i:Nat×Res:=(3,.box [pz h.R.1.1.Lo,pz h.R.1.1.Hi,pz h.R.1.2.1.Lo,pz h.R.1.2.1.Hi,pz h.R.1.2.2.Lo,pz h.R.1.2.2.Hi,pz h.R.2.1.1.Lo,pz h.R.2.1.1.Hi,pz h.R.2.1.2.1.Lo,pz h.R.2.1.2.1.Hi,pz h.R.2.1.2.2.Lo,pz h.R.2.1.2.2.Hi,pz h.R.2.2.1.Lo,pz h.R.2.2.1.Hi,pz h.R.2.2.2.1.Lo,pz h.R.2.2.2.1.Hi,pz h.R.2.2.2.2.Lo,pz h.R.2.2.2.2.Hi,pz h.T.1.Lo,pz h.T.1.Hi,pz h.T.2.1.Lo,pz h.T.2.1.Hi,pz h.T.2.2.Lo,pz h.T.2.2.Hi]);
 .cut 0 (fun (j:Bf)=>⟨[(2,.ptr 0 0),(4,.ptr 1 0),(5,.ptr 2 0)],[g,(1,.box [pz 0,pz 0,pz 0,pz 0,pz 0,pz 0,pz 0,pz 0,pz 0,pz 0,pz 0,pz 0,pz 0,pz 0,pz 0,pz 0,pz 0,pz 0,pz 0,pz 0,pz 0,pz 0,pz 0,pz 0]),(2,.box [pz j.1,pz j.2.1,pz j.2.2.1,pz j.2.2.2.1,pz j.2.2.2.2.1,pz j.2.2.2.2.2.1,pz j.2.2.2.2.2.2.1,pz j.2.2.2.2.2.2.2.1,pz j.2.2.2.2.2.2.2.2.1,pz j.2.2.2.2.2.2.2.2.2.1,pz j.2.2.2.2.2.2.2.2.2.2.1,pz j.2.2.2.2.2.2.2.2.2.2.2.1,pz j.2.2.2.2.2.2.2.2.2.2.2.2.1,pz j.2.2.2.2.2.2.2.2.2.2.2.2.2.1,pz j.2.2.2.2.2.2.2.2.2.2.2.2.2.2.1,pz j.2.2.2.2.2.2.2.2.2.2.2.2.2.2.2.1,pz j.2.2.2.2.2.2.2.2.2.2.2.2.2.2.2.2.1,pz j.2.2.2.2.2.2.2.2.2.2.2.2.2.2.2.2.2.1,pz j.2.2.2.2.2.2.2.2.2.2.2.2.2.2.2.2.2.2.1,pz j.2.2.2.2.2.2.2.2.2.2.2.2.2.2.2.2.2.2.2.1,pz j.2.2.2.2.2.2.2.2.2.2.2.2.2.2.2.2.2.2.2.2.1,pz j.2.2.2.2.2.2.2.2.2.2.2.2.2.2.2.2.2.2.2.2.2.1,pz j.2.2.2.2.2.2.2.2.2.2.2.2.2.2.2.2.2.2.2.2.2.2.1,pz j.2.2.2.2.2.2.2.2.2.2.2.2.2.2.2.2.2.2.2.2.2.2.2])],[],3⟩)
 (.cut 1 (fun (j:Bool)=>⟨[(2,.ptr 0 0),(3,.ptr 1 0),(4,.ptr 2 0),(5,.ptr 3 0),(9,pz c.Kind),(10,.pure (.bool j))],[g,f,(2,.box [pz 0,pz 0,pz 0,pz 0,pz 0,pz 0,pz 0,pz 0,pz 0,pz 0,pz 0,pz 0,pz 0,pz 0,pz 0,pz 0,pz 0,pz 0,pz 0,pz 0,pz 0,pz 0,pz 0,pz 0]),i],[],4⟩)
 (.br (c.Kind==1)
 (.oo (c.Kind==1))
 (.br (c.Kind==2)
 (.oo (c.Kind==2))
 (.oo (c.Kind==3)))) fun j=>
 .br j
 (.cc (xzx (i64.wrap (c.Kind-1)) (⟨d.Lo,d.Hi⟩:az0)) fun k=>
 .oo (k.R.1.1.Lo,k.R.1.1.Hi,k.R.1.2.1.Lo,k.R.1.2.1.Hi,k.R.1.2.2.Lo,k.R.1.2.2.Hi,k.R.2.1.1.Lo,k.R.2.1.1.Hi,k.R.2.1.2.1.Lo,k.R.2.1.2.1.Hi,k.R.2.1.2.2.Lo,k.R.2.1.2.2.Hi,k.R.2.2.1.Lo,k.R.2.2.1.Hi,k.R.2.2.2.1.Lo,k.R.2.2.2.1.Hi,k.R.2.2.2.2.Lo,k.R.2.2.2.2.Hi,k.T.1.Lo,k.T.1.Hi,k.T.2.1.Lo,k.T.2.1.Hi,k.T.2.2.Lo,k.T.2.2.Hi))
 (.cut 0 (fun (k:Bool)=>⟨[(2,.ptr 0 0),(3,.ptr 1 0),(4,.ptr 2 0),(5,.ptr 3 0),(19,.pure (.bool k))],[g,f,(2,.box [pz 0,pz 0,pz 0,pz 0,pz 0,pz 0,pz 0,pz 0,pz 0,pz 0,pz 0,pz 0,pz 0,pz 0,pz 0,pz 0,pz 0,pz 0,pz 0,pz 0,pz 0,pz 0,pz 0,pz 0]),i],[],4⟩)
 (.br (c.Kind==4)
 (.oo (c.Kind==4))
 (.br (c.Kind==5)
 (.oo (c.Kind==5))
 (.oo (c.Kind==6)))) fun k=>
 .br k
 (.cut 1 (fun (m:Ba)=>⟨[(2,.ptr 0 0),(4,.ptr 1 0),(5,.ptr 2 0),(6,.ptr 3 0)],[g,(1,.box [pz 0,pz 0,pz 0,pz 0,pz 0,pz 0,pz 0,pz 0,pz 0,pz 0,pz 0,pz 0,pz 0,pz 0,pz 0,pz 0,pz 0,pz 0,pz 0,pz 0,pz 0,pz 0,pz 0,pz 0]),(2,.box [pz h.R.1.1.Lo,pz h.R.1.1.Hi,pz h.R.1.2.1.Lo,pz h.R.1.2.1.Hi,pz h.R.1.2.2.Lo,pz h.R.1.2.2.Hi,pz h.R.2.1.1.Lo,pz h.R.2.1.1.Hi,pz h.R.2.1.2.1.Lo,pz h.R.2.1.2.1.Hi,pz h.R.2.1.2.2.Lo,pz h.R.2.1.2.2.Hi,pz h.R.2.2.1.Lo,pz h.R.2.2.1.Hi,pz h.R.2.2.2.1.Lo,pz h.R.2.2.2.1.Hi,pz h.R.2.2.2.2.Lo,pz h.R.2.2.2.2.Hi,pz h.T.1.Lo,pz h.T.1.Hi,pz h.T.2.1.Lo,pz h.T.2.1.Hi,pz h.T.2.2.Lo,pz h.T.2.2.Hi]),(3,.box [pz m.1,pz m.2.1,pz m.2.2.1,pz m.2.2.2.1,pz m.2.2.2.2.1,pz m.2.2.2.2.2])],[],4⟩)
 (.cas 11002 e 0
 (.ix 0 3 rfl<|
 .oo (d.Lo,d.Hi,0,0,0,0))
 (.cas 11002 e 1
 (.ix 1 3 rfl<|
 .oo (0,0,d.Lo,d.Hi,0,0))
 (.cas 11002 e 2
 (.ix 2 3 rfl<|
 .oo (0,0,0,0,d.Lo,d.Hi))
 (.stop)))) fun m=>
 .cc (xzu ((⟨m.1,m.2.1⟩:az0),(⟨m.2.2.1,m.2.2.2.1⟩:az0),(⟨m.2.2.2.2.1,m.2.2.2.2.2⟩:az0))) fun n=>
 .oo (n.R.1.1.Lo,n.R.1.1.Hi,n.R.1.2.1.Lo,n.R.1.2.1.Hi,n.R.1.2.2.Lo,n.R.1.2.2.Hi,n.R.2.1.1.Lo,n.R.2.1.1.Hi,n.R.2.1.2.1.Lo,n.R.2.1.2.1.Hi,n.R.2.1.2.2.Lo,n.R.2.1.2.2.Hi,n.R.2.2.1.Lo,n.R.2.2.1.Hi,n.R.2.2.2.1.Lo,n.R.2.2.2.1.Hi,n.R.2.2.2.2.Lo,n.R.2.2.2.2.Hi,n.T.1.Lo,n.T.1.Hi,n.T.2.1.Lo,n.T.2.1.Hi,n.T.2.2.Lo,n.T.2.2.Hi))
 (.oo (h.R.1.1.Lo,h.R.1.1.Hi,h.R.1.2.1.Lo,h.R.1.2.1.Hi,h.R.1.2.2.Lo,h.R.1.2.2.Hi,h.R.2.1.1.Lo,h.R.2.1.1.Hi,h.R.2.1.2.1.Lo,h.R.2.1.2.1.Hi,h.R.2.1.2.2.Lo,h.R.2.1.2.2.Hi,h.R.2.2.1.Lo,h.R.2.2.1.Hi,h.R.2.2.2.1.Lo,h.R.2.2.2.1.Hi,h.R.2.2.2.2.Lo,h.R.2.2.2.2.Hi,h.T.1.Lo,h.T.1.Hi,h.T.2.1.Lo,h.T.2.1.Hi,h.T.2.2.Lo,h.T.2.2.Hi)))) fun j=>
 .cc (xzs c.Offset) fun k=>
 .cc (xzu k) fun m=>
 .cc (sz0 (⟨m.R,m.T⟩:azw) (⟨(((⟨j.1,j.2.1⟩:az0),(⟨j.2.2.1,j.2.2.2.1⟩:az0),(⟨j.2.2.2.2.1,j.2.2.2.2.2.1⟩:az0)),((⟨j.2.2.2.2.2.2.1,j.2.2.2.2.2.2.2.1⟩:az0),(⟨j.2.2.2.2.2.2.2.2.1,j.2.2.2.2.2.2.2.2.2.1⟩:az0),(⟨j.2.2.2.2.2.2.2.2.2.2.1,j.2.2.2.2.2.2.2.2.2.2.2.1⟩:az0)),((⟨j.2.2.2.2.2.2.2.2.2.2.2.2.1,j.2.2.2.2.2.2.2.2.2.2.2.2.2.1⟩:az0),(⟨j.2.2.2.2.2.2.2.2.2.2.2.2.2.2.1,j.2.2.2.2.2.2.2.2.2.2.2.2.2.2.2.1⟩:az0),(⟨j.2.2.2.2.2.2.2.2.2.2.2.2.2.2.2.2.1,j.2.2.2.2.2.2.2.2.2.2.2.2.2.2.2.2.2.1⟩:az0))),((⟨j.2.2.2.2.2.2.2.2.2.2.2.2.2.2.2.2.2.2.1,j.2.2.2.2.2.2.2.2.2.2.2.2.2.2.2.2.2.2.2.1⟩:az0),(⟨j.2.2.2.2.2.2.2.2.2.2.2.2.2.2.2.2.2.2.2.2.1,j.2.2.2.2.2.2.2.2.2.2.2.2.2.2.2.2.2.2.2.2.2.1⟩:az0),(⟨j.2.2.2.2.2.2.2.2.2.2.2.2.2.2.2.2.2.2.2.2.2.2.1,j.2.2.2.2.2.2.2.2.2.2.2.2.2.2.2.2.2.2.2.2.2.2.2⟩:az0))⟩:azw)) fun n=>
 .ret n
noncomputable def Czq (c)(d):=
 mkD Tryz.func223 (uzg c d) 0 [.pure (azd c),.pure (aza d)] [] (fun r=>.pure (bzn r)) (fun _=>[])
set_option maxHeartbeats 8000000 in
set_option maxRecDepth 20000 in
noncomputable def uzi (c:azl)(d:Ag):T Aj:=let e:=encL 2 aza d;let f:Nat×Res:=(0,.box [.pure (encL 12 azd c.Joints),.pure (encL 5 azj c.Masses)]);.cut 2 (fun (g:Bool)=>⟨[(1,.pure e),(2,.ptr 0 0),(16,.pure (.bool g))],[f],[],1⟩)
 (.cc (czv c) fun g=>
 .br (g !=0)
 (.oo true)
 (.cc (nzz c d) fun h=>
 .oo (!h))) fun g=>
 .br g
 (.ret nl)
 (.loop (fun (h:(Aj×Int))=>⟨[(1,.pure e),(2,.ptr 0 0),(5,.vec 1),(6,pz h.2)],[f,(1,vecO 24 bzn h.1 266)],[],2⟩)
 (.exit 0) (fun (h:Aj)=>⟨[(5,.vec 0)],[(0,vecO 24 bzn h 266)],[],1⟩)
 (fun h=>let i:=(h.2).toNat;let j:=c.Joints.getD i default;let k:=j.Parent;.br (decide (h.2<(d.length:Int)))
 (.gh h.2 c.Joints.length<|
 .gh h.2 d.length<|
 .cc (Czq j (d.getD i default)) fun m=>
 .cut 0 (fun (n:Bf)=>⟨[(1,.pure e),(2,.ptr 0 0),(5,.vec 1),(6,pz h.2),(7,.ptr 2 0)],[f,(1,vecO 24 bzn h.1 266),(2,.box [pz n.1,pz n.2.1,pz n.2.2.1,pz n.2.2.2.1,pz n.2.2.2.2.1,pz n.2.2.2.2.2.1,pz n.2.2.2.2.2.2.1,pz n.2.2.2.2.2.2.2.1,pz n.2.2.2.2.2.2.2.2.1,pz n.2.2.2.2.2.2.2.2.2.1,pz n.2.2.2.2.2.2.2.2.2.2.1,pz n.2.2.2.2.2.2.2.2.2.2.2.1,pz n.2.2.2.2.2.2.2.2.2.2.2.2.1,pz n.2.2.2.2.2.2.2.2.2.2.2.2.2.1,pz n.2.2.2.2.2.2.2.2.2.2.2.2.2.2.1,pz n.2.2.2.2.2.2.2.2.2.2.2.2.2.2.2.1,pz n.2.2.2.2.2.2.2.2.2.2.2.2.2.2.2.2.1,pz n.2.2.2.2.2.2.2.2.2.2.2.2.2.2.2.2.2.1,pz n.2.2.2.2.2.2.2.2.2.2.2.2.2.2.2.2.2.2.1,pz n.2.2.2.2.2.2.2.2.2.2.2.2.2.2.2.2.2.2.2.1,pz n.2.2.2.2.2.2.2.2.2.2.2.2.2.2.2.2.2.2.2.2.1,pz n.2.2.2.2.2.2.2.2.2.2.2.2.2.2.2.2.2.2.2.2.2.1,pz n.2.2.2.2.2.2.2.2.2.2.2.2.2.2.2.2.2.2.2.2.2.2.1,pz n.2.2.2.2.2.2.2.2.2.2.2.2.2.2.2.2.2.2.2.2.2.2.2])],[],3⟩)
 (.gh h.2 c.Joints.length<|
 .br (k !=(-1))
 (.gh h.2 c.Joints.length<|
 .gg k h.1.length<|
 .call (sz0 (h.1.getD (k.toNat) default) m) [] fun n=>
 .oo (n.R.1.1.Lo,n.R.1.1.Hi,n.R.1.2.1.Lo,n.R.1.2.1.Hi,n.R.1.2.2.Lo,n.R.1.2.2.Hi,n.R.2.1.1.Lo,n.R.2.1.1.Hi,n.R.2.1.2.1.Lo,n.R.2.1.2.1.Hi,n.R.2.1.2.2.Lo,n.R.2.1.2.2.Hi,n.R.2.2.1.Lo,n.R.2.2.1.Hi,n.R.2.2.2.1.Lo,n.R.2.2.2.1.Hi,n.R.2.2.2.2.Lo,n.R.2.2.2.2.Hi,n.T.1.Lo,n.T.1.Hi,n.T.2.1.Lo,n.T.2.1.Hi,n.T.2.2.Lo,n.T.2.2.Hi))
 (.oo (m.R.1.1.Lo,m.R.1.1.Hi,m.R.1.2.1.Lo,m.R.1.2.1.Hi,m.R.1.2.2.Lo,m.R.1.2.2.Hi,m.R.2.1.1.Lo,m.R.2.1.1.Hi,m.R.2.1.2.1.Lo,m.R.2.1.2.1.Hi,m.R.2.1.2.2.Lo,m.R.2.1.2.2.Hi,m.R.2.2.1.Lo,m.R.2.2.1.Hi,m.R.2.2.2.1.Lo,m.R.2.2.2.1.Hi,m.R.2.2.2.2.Lo,m.R.2.2.2.2.Hi,m.T.1.Lo,m.T.1.Hi,m.T.2.1.Lo,m.T.2.1.Hi,m.T.2.2.Lo,m.T.2.2.Hi))) fun n=>let q:=([(⟨(((⟨n.1,n.2.1⟩:az0),(⟨n.2.2.1,n.2.2.2.1⟩:az0),(⟨n.2.2.2.2.1,n.2.2.2.2.2.1⟩:az0)),((⟨n.2.2.2.2.2.2.1,n.2.2.2.2.2.2.2.1⟩:az0),(⟨n.2.2.2.2.2.2.2.2.1,n.2.2.2.2.2.2.2.2.2.1⟩:az0),(⟨n.2.2.2.2.2.2.2.2.2.2.1,n.2.2.2.2.2.2.2.2.2.2.2.1⟩:az0)),((⟨n.2.2.2.2.2.2.2.2.2.2.2.2.1,n.2.2.2.2.2.2.2.2.2.2.2.2.2.1⟩:az0),(⟨n.2.2.2.2.2.2.2.2.2.2.2.2.2.2.1,n.2.2.2.2.2.2.2.2.2.2.2.2.2.2.2.1⟩:az0),(⟨n.2.2.2.2.2.2.2.2.2.2.2.2.2.2.2.2.1,n.2.2.2.2.2.2.2.2.2.2.2.2.2.2.2.2.2.1⟩:az0))),((⟨n.2.2.2.2.2.2.2.2.2.2.2.2.2.2.2.2.2.2.1,n.2.2.2.2.2.2.2.2.2.2.2.2.2.2.2.2.2.2.2.1⟩:az0),(⟨n.2.2.2.2.2.2.2.2.2.2.2.2.2.2.2.2.2.2.2.2.1,n.2.2.2.2.2.2.2.2.2.2.2.2.2.2.2.2.2.2.2.2.2.1⟩:az0),(⟨n.2.2.2.2.2.2.2.2.2.2.2.2.2.2.2.2.2.2.2.2.2.2.1,n.2.2.2.2.2.2.2.2.2.2.2.2.2.2.2.2.2.2.2.2.2.2.2⟩:az0))⟩:azw)]:Aj);let s:=h.1.length+q.length;
 .conv 10002 (czi 24 bzn q 266)<|
 .conv 10003 (ezf 24 bzn h.1 q 266)<|
 .grd (s * 192≤140737488355328/\s≤maxLen)<|
 .nn ((h.1++q),(i64.wrap (h.2+1))))
 (.oo h.1))
 (nl,0) [] fun h=>
 .ret h)
noncomputable def Czs (c)(d):=
 mkD Tryz.func179 (uzi c d) 0 [.pure (czp c),.pure (encL 2 aza d)] [] (fun r=>.pure (encL 24 bzn r)) (fun _=>[])
noncomputable def kz4 (c:azx):T Bool:=let d:=(c.Points.length:Int);let e:Nat×Res:=(0,.box [pz c.Link,pz c.Radius,.pure (encL 3 az1 c.Points)]);.cut 2 (fun (f:Bool)=>⟨[(1,.ptr 0 0),(23,.pure (.bool f))],[e],[],1⟩)
 (.br (decide (c.Radius<1))
 (.oo true)
 (.br (decide (c.Radius>1048576))
 (.oo true)
 (.br (decide (d<1))
 (.oo true)
 (.oo (decide (d>8)))))) fun f=>
 .br f
 (.ret false)
 (.loop (fun (g:Int)=>⟨[(1,.ptr 0 0),(3,pz g)],[e],[],1⟩)
 (.exit 0) (fun (_:U0)=>⟨[],[],[],0⟩)
 (fun g=>.br (decide (g<d))
 (.gh g c.Points.length<|
 .cc (fzh (c.Points.getD (g.toNat) default) 4194304) fun h=>
 .br (!h)
 (.ff false)
 (.nn (i64.wrap (g+1))))
 (.oo .u))
 0 [] fun _=>
 .ret true)
noncomputable def qzh (c):=
 mkD Tryz.func226 (kz4 c) 0 [.pure (azo c)] [] (fun r=>.pure (.bool r)) (fun _=>[])
noncomputable def xzp (c:azw)(d:Ay):T Ay:=
 .cc (pz9 c.R d) fun e=>
 .cc (uzr c.T e) fun f=>
 .ret f
noncomputable def Fzz (c)(d):=
 mkD Tryz.func227 (xzp c d) 0 [.pure (bzn c),.pure (az2 d)] [] (fun r=>.pure (az2 r)) (fun _=>[])
noncomputable def uzk (c:azx)(d:azw):T Az:=
 .cc (qzh c) fun e=>
 .br (!e)
 (.ret nl)
 (.loop (fun (f:(Az×Int))=>⟨[(2,.ptr 0 0),(3,.ptr 1 0),(5,.vec 2),(6,pz f.2)],[(0,.box [pz c.Link,pz c.Radius,.pure (encL 3 az1 c.Points)]),(1,.box [pz d.R.1.1.Lo,pz d.R.1.1.Hi,pz d.R.1.2.1.Lo,pz d.R.1.2.1.Hi,pz d.R.1.2.2.Lo,pz d.R.1.2.2.Hi,pz d.R.2.1.1.Lo,pz d.R.2.1.1.Hi,pz d.R.2.1.2.1.Lo,pz d.R.2.1.2.1.Hi,pz d.R.2.1.2.2.Lo,pz d.R.2.1.2.2.Hi,pz d.R.2.2.1.Lo,pz d.R.2.2.1.Hi,pz d.R.2.2.2.1.Lo,pz d.R.2.2.2.1.Hi,pz d.R.2.2.2.2.Lo,pz d.R.2.2.2.2.Hi,pz d.T.1.Lo,pz d.T.1.Hi,pz d.T.2.1.Lo,pz d.T.2.1.Hi,pz d.T.2.2.Lo,pz d.T.2.2.Hi]),(2,vecO 6 az2 f.1 239)],[],3⟩)
 (.exit 0) (fun (f:Az)=>⟨[(5,.vec 0)],[(0,vecO 6 az2 f 239)],[],1⟩)
 (fun f=>.br (decide (f.2<(c.Points.length:Int)))
 (.gh f.2 c.Points.length<|
 .cc (xzs (c.Points.getD ((f.2).toNat) default)) fun g=>
 .cc (Fzz (⟨d.R,d.T⟩:azw) g) fun h=>let i:=([h]:Az);let j:=f.1.length+i.length;
 .conv 7009 (czi 6 az2 i 239)<|
 .conv 7010 (ezf 6 az2 f.1 i 239)<|
 .grd (j * 48≤140737488355328/\j≤maxLen)<|
 .nn ((f.1++i),(i64.wrap (f.2+1))))
 (.oo f.1))
 (nl,0) [] fun f=>
 .ret f)
noncomputable def Czu (c)(d):=
 mkD Tryz.func181 (uzk c d) 0 [.pure (azo c),.pure (bzn d)] [] (fun r=>.pure (encL 6 az2 r)) (fun _=>[])
set_option maxHeartbeats 8000000 in
set_option maxRecDepth 20000 in
noncomputable def rzw (c:azg)(d:Ag):T B0:=let e:Nat×Res:=(0,.box [.pure (encL 12 azd c.Robot.Joints),.pure (encL 5 azj c.Robot.Masses),.pure (encL 3 azo c.Shapes),.pure (encL 2 bz4 c.Skips)]);.cut 2 (fun (f:Bool)=>⟨[(1,.pure (encL 2 aza d)),(2,.ptr 0 0),(18,.pure (.bool f))],[e],[],1⟩)
 (.cc (ezw c) fun f=>
 .br (f !=0)
 (.oo true)
 (.cc (nzz c.Robot d) fun g=>
 .oo (!g))) fun f=>
 .br f
 (.ret nl)
 (.cc (Czs c.Robot d) fun g=>let h:=encL 24 bzn g;
 .loop (fun (i:(B0×Int))=>⟨[(2,.ptr 0 0),(5,.pure h),(6,.vec 1),(7,pz i.2)],[e,(1,vecO 1 (encL 6 az2) i.1 182)],[],2⟩)
 (.exit 0) (fun (i:B0)=>⟨[(6,.vec 0)],[(0,vecO 1 (encL 6 az2) i 182)],[],1⟩)
 (fun i=>let j:=c.Shapes.getD ((i.2).toNat) default;let k:=j.Link;let m:=g.getD (k.toNat) default;.br (decide (i.2<(c.Shapes.length:Int)))
 (.cc (ref1_Rest_C) fun n=>
 .cut 0 (fun (q:Bf)=>⟨[(2,.ptr 0 0),(5,.pure h),(6,.vec 1),(7,pz i.2),(8,.ptr 2 0)],[e,(1,vecO 1 (encL 6 az2) i.1 182),(2,.box [pz q.1,pz q.2.1,pz q.2.2.1,pz q.2.2.2.1,pz q.2.2.2.2.1,pz q.2.2.2.2.2.1,pz q.2.2.2.2.2.2.1,pz q.2.2.2.2.2.2.2.1,pz q.2.2.2.2.2.2.2.2.1,pz q.2.2.2.2.2.2.2.2.2.1,pz q.2.2.2.2.2.2.2.2.2.2.1,pz q.2.2.2.2.2.2.2.2.2.2.2.1,pz q.2.2.2.2.2.2.2.2.2.2.2.2.1,pz q.2.2.2.2.2.2.2.2.2.2.2.2.2.1,pz q.2.2.2.2.2.2.2.2.2.2.2.2.2.2.1,pz q.2.2.2.2.2.2.2.2.2.2.2.2.2.2.2.1,pz q.2.2.2.2.2.2.2.2.2.2.2.2.2.2.2.2.1,pz q.2.2.2.2.2.2.2.2.2.2.2.2.2.2.2.2.2.1,pz q.2.2.2.2.2.2.2.2.2.2.2.2.2.2.2.2.2.2.1,pz q.2.2.2.2.2.2.2.2.2.2.2.2.2.2.2.2.2.2.2.1,pz q.2.2.2.2.2.2.2.2.2.2.2.2.2.2.2.2.2.2.2.2.1,pz q.2.2.2.2.2.2.2.2.2.2.2.2.2.2.2.2.2.2.2.2.2.1,pz q.2.2.2.2.2.2.2.2.2.2.2.2.2.2.2.2.2.2.2.2.2.2.1,pz q.2.2.2.2.2.2.2.2.2.2.2.2.2.2.2.2.2.2.2.2.2.2.2])],[],3⟩)
 (.gh i.2 c.Shapes.length<|
 .br (k !=(-1))
 (.gh i.2 c.Shapes.length<|
 .gh k g.length<|
 .oo (m.R.1.1.Lo,m.R.1.1.Hi,m.R.1.2.1.Lo,m.R.1.2.1.Hi,m.R.1.2.2.Lo,m.R.1.2.2.Hi,m.R.2.1.1.Lo,m.R.2.1.1.Hi,m.R.2.1.2.1.Lo,m.R.2.1.2.1.Hi,m.R.2.1.2.2.Lo,m.R.2.1.2.2.Hi,m.R.2.2.1.Lo,m.R.2.2.1.Hi,m.R.2.2.2.1.Lo,m.R.2.2.2.1.Hi,m.R.2.2.2.2.Lo,m.R.2.2.2.2.Hi,m.T.1.Lo,m.T.1.Hi,m.T.2.1.Lo,m.T.2.1.Hi,m.T.2.2.Lo,m.T.2.2.Hi))
 (.oo (n.R.1.1.Lo,n.R.1.1.Hi,n.R.1.2.1.Lo,n.R.1.2.1.Hi,n.R.1.2.2.Lo,n.R.1.2.2.Hi,n.R.2.1.1.Lo,n.R.2.1.1.Hi,n.R.2.1.2.1.Lo,n.R.2.1.2.1.Hi,n.R.2.1.2.2.Lo,n.R.2.1.2.2.Hi,n.R.2.2.1.Lo,n.R.2.2.1.Hi,n.R.2.2.2.1.Lo,n.R.2.2.2.1.Hi,n.R.2.2.2.2.Lo,n.R.2.2.2.2.Hi,n.T.1.Lo,n.T.1.Hi,n.T.2.1.Lo,n.T.2.1.Hi,n.T.2.2.Lo,n.T.2.2.Hi))) fun q=>
 .gh i.2 c.Shapes.length<|
 .cc (Czu j (⟨(((⟨q.1,q.2.1⟩:az0),(⟨q.2.2.1,q.2.2.2.1⟩:az0),(⟨q.2.2.2.2.1,q.2.2.2.2.2.1⟩:az0)),((⟨q.2.2.2.2.2.2.1,q.2.2.2.2.2.2.2.1⟩:az0),(⟨q.2.2.2.2.2.2.2.2.1,q.2.2.2.2.2.2.2.2.2.1⟩:az0),(⟨q.2.2.2.2.2.2.2.2.2.2.1,q.2.2.2.2.2.2.2.2.2.2.2.1⟩:az0)),((⟨q.2.2.2.2.2.2.2.2.2.2.2.2.1,q.2.2.2.2.2.2.2.2.2.2.2.2.2.1⟩:az0),(⟨q.2.2.2.2.2.2.2.2.2.2.2.2.2.2.1,q.2.2.2.2.2.2.2.2.2.2.2.2.2.2.2.1⟩:az0),(⟨q.2.2.2.2.2.2.2.2.2.2.2.2.2.2.2.2.1,q.2.2.2.2.2.2.2.2.2.2.2.2.2.2.2.2.2.1⟩:az0))),((⟨q.2.2.2.2.2.2.2.2.2.2.2.2.2.2.2.2.2.2.1,q.2.2.2.2.2.2.2.2.2.2.2.2.2.2.2.2.2.2.2.1⟩:az0),(⟨q.2.2.2.2.2.2.2.2.2.2.2.2.2.2.2.2.2.2.2.2.1,q.2.2.2.2.2.2.2.2.2.2.2.2.2.2.2.2.2.2.2.2.2.1⟩:az0),(⟨q.2.2.2.2.2.2.2.2.2.2.2.2.2.2.2.2.2.2.2.2.2.2.1,q.2.2.2.2.2.2.2.2.2.2.2.2.2.2.2.2.2.2.2.2.2.2.2⟩:az0))⟩:azw)) fun s=>let t:=([s]:B0);let w:=i.1.length+t.length;
 .conv 11008 (czi 1 (encL 6 az2) t 182)<|
 .conv 11009 (ezf 1 (encL 6 az2) i.1 t 182)<|
 .grd (w * 24≤140737488355328/\w≤maxLen)<|
 .nn ((i.1++t),(i64.wrap (i.2+1))))
 (.oo i.1))
 (nl,0) [] fun i=>
 .ret i)
noncomputable def Az5 (c)(d):=
 mkD Tryz.func145 (rzw c d) 0 [.pure (cze c),.pure (encL 2 aza d)] [] (fun r=>.pure (encL 1 (encL 6 az2) r)) (fun _=>[])
noncomputable def yz8 (c:azl)(d:Int):T A0:=let e:Nat×Res:=(0,.box [.pure (encL 12 azd c.Joints),.pure (encL 5 azj c.Masses)]);.cut 2 (fun (f:Bool)=>⟨[(1,pz d),(2,.ptr 0 0),(15,.pure (.bool f))],[e],[],1⟩)
 (.cc (czv c) fun f=>
 .br (f !=0)
 (.oo true)
 (.cc (ezm c d) fun g=>
 .oo (!g))) fun f=>
 .br f
 (.ret nl)
 (.loop (fun (g:A2)=>⟨[(2,.ptr 0 0),(5,.vec 1),(6,pz g.2)],[e,(1,vecO 1 az3 g.1 3)],[],2⟩)
 (.exit 0) (fun (g:A0)=>⟨[(5,.vec 0)],[(0,vecO 1 az3 g 3)],[],1⟩)
 (fun g=>let h:=([g.2]:A0);let i:=h.length+g.1.length;.br (g.2 !=(-1))
 (.conv 7001 (czi 1 az3 h 3)<|
 .conv 7003 (ezf 1 az3 h g.1 3)<|
 .grd (i * 8≤140737488355328/\i≤maxLen)<|
 .gh g.2 c.Joints.length<|
 .nn ((h++g.1),(c.Joints.getD ((g.2).toNat) default).Parent))
 (.oo g.1))
 (nl,d) [] fun g=>
 .ret g)
noncomputable def qzq (c)(d):=
 mkD Tryz.func255 (yz8 c d) 0 [.pure (czp c),pz d] [] (fun r=>.pure (encL 1 az3 r)) (fun _=>[])
noncomputable def vz2 (c:A0)(d:Int):T Bool:=
 .loop (fun (e:Int)=>⟨[(0,.pure (encL 1 az3 c)),(1,pz d),(5,pz e)],[],[],0⟩)
 (.exit 0) (fun (_:U0)=>⟨[],[],[],0⟩)
 (fun e=>.br (decide (e<(c.length:Int)))
 (.gh e c.length<|
 .br ((c.getD (e.toNat) default)==d)
 (.ff true)
 (.nn (i64.wrap (e+1))))
 (.oo .u))
 0 [] fun _=>
 .ret false
noncomputable def vz1 (c)(d):=
 mkD Tryz.func256 (vz2 c d) 0 [.pure (encL 1 az3 c),pz d] [] (fun r=>.pure (.bool r)) (fun _=>[])
noncomputable def sze (c:azl)(d:Int)(e:Int):T A0:=let f:Nat×Res:=(0,.box [.pure (encL 12 azd c.Joints),.pure (encL 5 azj c.Masses)]);.cut 2 (fun (g:Bool)=>⟨[(1,pz d),(2,pz e),(3,.ptr 0 0),(25,.pure (.bool g))],[f],[],1⟩)
 (.cc (czv c) fun g=>
 .br (g !=0)
 (.oo true)
 (.cc (ezm c d) fun h=>
 .br (!h)
 (.oo true)
 (.cc (ezm c e) fun i=>
 .oo (!i)))) fun g=>
 .br g
 (.ret nl)
 (.cc (qzq c d) fun h=>let i:=encL 1 az3 h;
 .cc (qzq c e) fun j=>let k:=encL 1 az3 j;
 .loop (fun (m:A2)=>⟨[(3,.ptr 0 0),(7,.pure i),(8,.pure k),(9,.vec 1),(10,pz m.2)],[f,(1,vecO 1 az3 m.1 3)],[],2⟩)
 (.exit 0) (fun (m:A0)=>⟨[(9,.vec 0)],[(0,vecO 1 az3 m 3)],[],1⟩)
 (fun m=>let n:=([m.2]:A0);let q:=m.1.length+n.length;.br (decide (m.2<(c.Joints.length:Int)))
 (.cut 0 (fun (s:A0)=>⟨[(3,.ptr 0 0),(7,.pure i),(8,.pure k),(9,.vec 1),(10,pz m.2)],[f,(1,vecO 1 az3 s 3)],[],2⟩)
 (.cc (vz1 h m.2) fun s=>
 .cc (vz1 j m.2) fun t=>
 .br (!(s==t))
 (.conv 9002 (czi 1 az3 n 3)<|
 .conv 9003 (ezf 1 az3 m.1 n 3)<|
 .grd (q * 8≤140737488355328/\q≤maxLen)<|
 .oo (m.1++n))
 (.oo m.1)) fun s=>
 .nn (s,(i64.wrap (m.2+1))))
 (.oo m.1))
 (nl,0) [] fun m=>
 .ret m)
noncomputable def Azd (c)(d)(e):=
 mkD Tryz.func229 (sze c d e) 0 [.pure (czp c),pz d,pz e] [] (fun r=>.pure (encL 1 az3 r)) (fun _=>[])
noncomputable def yza (c:azl)(d:Int)(e:Int):T Bool:=let f:Nat×Res:=(0,.box [.pure (encL 12 azd c.Joints),.pure (encL 5 azj c.Masses)]);.cut 2 (fun (g:Bool)=>⟨[(1,pz d),(2,pz e),(3,.ptr 0 0),(23,.pure (.bool g))],[f],[],1⟩)
 (.cc (czv c) fun g=>
 .br (g !=0)
 (.oo true)
 (.cc (ezm c d) fun h=>
 .br (!h)
 (.oo true)
 (.cc (ezm c e) fun i=>
 .oo (!i)))) fun g=>
 .br g
 (.ret false)
 (.cc (Azd (⟨c.Joints,c.Masses⟩:azl) d e) fun h=>
 .loop (fun (i:Int)=>⟨[(3,.ptr 0 0),(7,.pure (encL 1 az3 h)),(8,pz i)],[f],[],1⟩)
 (.exit 0) (fun (_:U0)=>⟨[],[],[],0⟩)
 (fun i=>let j:=h.getD (i.toNat) default;let k:=c.Joints.getD (j.toNat) default;.br (decide (i<(h.length:Int)))
 (.gh i h.length<|
 .gh j c.Joints.length<|
 .gh i h.length<|
 .gh j c.Joints.length<|
 .br (decide ((k.Lo)<(k.Hi)))
 (.ff false)
 (.nn (i64.wrap (i+1))))
 (.oo .u))
 0 [] fun _=>
 .ret true)
noncomputable def Gz4 (c)(d)(e):=
 mkD Tryz.func182 (yza c d e) 0 [.pure (czp c),pz d,pz e] [] (fun r=>.pure (.bool r)) (fun _=>[])
noncomputable def szg (c:azg)(d:Int)(e:Int):T Bool:=let f:Nat×Res:=(0,.box [.pure (encL 12 azd c.Robot.Joints),.pure (encL 5 azj c.Robot.Masses),.pure (encL 3 azo c.Shapes),.pure (encL 2 bz4 c.Skips)]);.loop (fun (g:Int)=>⟨[(1,pz d),(2,pz e),(3,.ptr 0 0),(7,pz g)],[f],[],1⟩)
 (.exit 0) (fun (_:U0)=>⟨[],[],[],0⟩)
 (fun g=>let h:=c.Skips.getD (g.toNat) default;.br (decide (g<(c.Skips.length:Int)))
 (.gh g c.Skips.length<|
 .cut 0 (fun (i:Bool)=>⟨[(1,pz d),(2,pz e),(3,.ptr 0 0),(7,pz g),(42,.pure (.bool i))],[f],[],1⟩)
 (.br ((h.A)==d)
 (.br ((h.B)==e)
 (.oo true)
 (.br ((h.A)==e)
 (.oo ((h.B)==d))
 (.oo false)))
 (.br ((h.A)==e)
 (.oo ((h.B)==d))
 (.oo false))) fun i=>
 .br i
 (.ff true)
 (.nn (i64.wrap (g+1))))
 (.oo .u))
 0 [] fun _=>
 .ret false
noncomputable def Aze (c)(d)(e):=
 mkD Tryz.func183 (szg c d e) 0 [.pure (cze c),pz d,pz e] [] (fun r=>.pure (.bool r)) (fun _=>[])
noncomputable def yz9 (c:azg):T Ah:=let d:=(c.Shapes.length:Nat);let e:Nat×Res:=(0,.box [.pure (encL 12 azd c.Robot.Joints),.pure (encL 5 azj c.Robot.Masses),.pure (encL 3 azo c.Shapes),.pure (encL 2 bz4 c.Skips)]);.cc (ezw c) fun f=>
 .br (f !=0)
 (.ret nl)
 (.loop (fun (g:Ai)=>⟨[(1,.ptr 0 0),(3,.vec 1),(4,pz g.2)],[e,(1,vecO 2 dzu g.1 225)],[],2⟩)
 (.exit 0) (fun (g:Ah)=>⟨[(3,.vec 0)],[(0,vecO 2 dzu g 225)],[],1⟩)
 (fun g=>let h:=(c.Shapes.getD ((g.2).toNat) default).Link;let i:=i64.wrap (g.2+1);.br (decide (g.2<(d:Int)))
 (.loop (fun (j:Ai)=>⟨[(1,.ptr 0 0),(3,.vec 1),(4,pz g.2),(5,pz j.2)],[e,(1,vecO 2 dzu j.1 225)],[],2⟩)
 (.exit 2) (fun (j:Ah)=>⟨[(1,.ptr 0 0),(3,.vec 1),(4,pz g.2)],[e,(1,vecO 2 dzu j 225)],[],2⟩)
 (fun j=>let k:=([(⟨g.2,j.2⟩:cz2)]:Ah);let m:=j.1.length+k.length;let n:=(c.Shapes.getD ((j.2).toNat) default).Link;.br (decide (j.2<(d:Int)))
 (.cut 0 (fun (q:Ah)=>⟨[(1,.ptr 0 0),(3,.vec 1),(4,pz g.2),(5,pz j.2)],[e,(1,vecO 2 dzu q 225)],[],2⟩)
 (.gh g.2 c.Shapes.length<|
 .gh j.2 c.Shapes.length<|
 .cut 0 (fun (q:Bool)=>⟨[(1,.ptr 0 0),(3,.vec 1),(4,pz g.2),(5,pz j.2),(56,.pure (.bool q))],[e,(1,vecO 2 dzu j.1 225)],[],2⟩)
 (.br (h !=n)
 (.cc (Gz4 c.Robot h n) fun q=>
 .br (!q)
 (.cc (Aze c h n) fun s=>
 .oo (!s))
 (.oo false))
 (.oo false)) fun q=>
 .br q
 (.conv 12004 (czi 2 dzu k 225)<|
 .conv 12005 (ezf 2 dzu j.1 k 225)<|
 .grd (m * 16≤140737488355328/\m≤maxLen)<|
 .oo (j.1++k))
 (.oo j.1)) fun q=>
 .nn (q,(i64.wrap (j.2+1))))
 (.oo j.1))
 (g.1,i) [] fun j=>
 .nn (j,i))
 (.oo g.1))
 (nl,0) [] fun g=>
 .ret g)
noncomputable def Gz3 (c):=
 mkD Tryz.func146 (yz9 c) 0 [.pure (cze c)] [] (fun r=>.pure (encL 2 dzu r)) (fun _=>[])
noncomputable def uzp (c:azg)(d:Ag):T (Al×Al×Bool):=let e:=(⟨c.Robot,c.Shapes,c.Skips⟩:azg);let f:Nat×Res:=(0,.box [.pure (encL 12 azd c.Robot.Joints),.pure (encL 5 azj c.Robot.Masses),.pure (encL 3 azo c.Shapes),.pure (encL 2 bz4 c.Skips)]);.cut 2 (fun (g:Bool)=>⟨[(1,.pure (encL 2 aza d)),(2,.ptr 0 0),(23,.pure (.bool g))],[f],[],1⟩)
 (.cc (ezw e) fun g=>
 .br (g !=0)
 (.oo true)
 (.cc (nzz c.Robot d) fun h=>
 .oo (!h))) fun g=>
 .br g
 (.ret (nl,nl,false))
 (.cc (Az5 e d) fun h=>
 .cc (Gz3 c) fun i=>
 .loop (fun (j:(Al×Al×Int))=>⟨[(2,.ptr 0 0),(7,.pure (encL 1 (encL 6 az2) h)),(8,.vec 1),(9,.vec 2),(10,.pure (encL 2 dzu i)),(11,pz j.2.2)],[f,(1,vecO 2 bzv j.1 184),(2,vecO 2 bzv j.2.1 184)],[],3⟩)
 (.exit 0) (fun (j:(Al×Al))=>⟨[(8,.vec 0),(9,.vec 1)],[(0,vecO 2 bzv j.1 184),(1,vecO 2 bzv j.2 184)],[],2⟩)
 (fun j=>let k:=i.getD ((j.2.2).toNat) default;let m:=(k.A).toNat;let n:=(k.B).toNat;let q:=([(⟨(h.getD m default),(c.Shapes.getD m default).Radius⟩:bz0)]:Al);let s:=j.1.length+q.length;let t:=([(⟨(h.getD n default),(c.Shapes.getD n default).Radius⟩:bz0)]:Al);let w:=j.2.1.length+t.length;.br (decide (j.2.2<(i.length:Int)))
 (.gh j.2.2 i.length<|
 .gh j.2.2 i.length<|
 .gh (k.A) h.length<|
 .gh (k.A) c.Shapes.length<|
 .conv 10012 (czi 2 bzv q 184)<|
 .conv 10013 (ezf 2 bzv j.1 q 184)<|
 .grd (s * 32≤140737488355328/\s≤maxLen)<|
 .gh (k.B) h.length<|
 .gh (k.B) c.Shapes.length<|
 .conv 11012 (czi 2 bzv t 184)<|
 .conv 11013 (ezf 2 bzv j.2.1 t 184)<|
 .grd (w * 32≤140737488355328/\w≤maxLen)<|
 .nn ((j.1++q),(j.2.1++t),(i64.wrap (j.2.2+1))))
 (.oo (j.1,j.2.1)))
 (nl,nl,0) [] fun j=>
 .ret (j.1,j.2,true))
noncomputable def Czx (c)(d):=
 mkD Tryz.func110 (uzp c d) 0 [.pure (cze c),.pure (encL 2 aza d)] [] (fun r=>.tup [.pure (encL 2 bzv r.1),.pure (encL 2 bzv r.2.1),.pure (.bool r.2.2)]) (fun _=>[])
noncomputable def pz5 (c:Ay):T Bool:=let d:Nat×Res:=(0,.box [pz c.1.Lo,pz c.1.Hi,pz c.2.1.Lo,pz c.2.1.Hi,pz c.2.2.Lo,pz c.2.2.Hi]);.unroll 4<|
 .known true<|
 .cut 1 (fun (e:Bool)=>⟨[(1,.ptr 0 0),(3,pz 0),(30,.pure (.bool e))],[d],[],1⟩)
 (.ix 0 3 rfl<|
 .br (decide (c.1.Lo<(-268435456)))
 (.oo true)
 (.ix 0 3 rfl<|
 .ix 0 3 rfl<|
 .br (decide (c.1.Lo>c.1.Hi))
 (.oo true)
 (.ix 0 3 rfl<|
 .oo (decide (c.1.Hi>268435456))))) fun e=>
 .br e
 (.ret false)
 (.lit 3001 (1)<|
 .known true<|
 .cut 1 (fun (f:Bool)=>⟨[(1,.ptr 0 0),(3,pz 1),(30,.pure (.bool f))],[d],[],1⟩)
 (.ix 1 3 rfl<|
 .br (decide (c.2.1.Lo<(-268435456)))
 (.oo true)
 (.ix 1 3 rfl<|
 .ix 1 3 rfl<|
 .br (decide (c.2.1.Lo>c.2.1.Hi))
 (.oo true)
 (.ix 1 3 rfl<|
 .oo (decide (c.2.1.Hi>268435456))))) fun f=>
 .br f
 (.ret false)
 (.lit 3001 (2)<|
 .known true<|
 .cut 1 (fun (g:Bool)=>⟨[(1,.ptr 0 0),(3,pz 2),(30,.pure (.bool g))],[d],[],1⟩)
 (.ix 2 3 rfl<|
 .br (decide (c.2.2.Lo<(-268435456)))
 (.oo true)
 (.ix 2 3 rfl<|
 .ix 2 3 rfl<|
 .br (decide (c.2.2.Lo>c.2.2.Hi))
 (.oo true)
 (.ix 2 3 rfl<|
 .oo (decide (c.2.2.Hi>268435456))))) fun g=>
 .br g
 (.ret false)
 (.lit 3001 (3)<|
 .known false<|
 .ret true)))
noncomputable def pz4 (c):=
 mkD Tryz.func190 (pz5 c) 0 [.pure (az2 c)] [] (fun r=>.pure (.bool r)) (fun _=>[])
noncomputable def rzv (c:Az):T Bool:=let d:=encL 6 az2 c;let e:=(c.length:Int);.loop (fun (f:Int)=>⟨[(0,.pure d),(3,pz f)],[],[],0⟩)
 (.exit 0) (fun (_:U0)=>⟨[(0,.pure d)],[],[],0⟩)
 (fun f=>.cut 1 (fun (g:Bool)=>⟨[(0,.pure d),(3,pz f),(11,.pure (.bool g))],[],[],0⟩)
 (.br (decide (f<e))
 (.oo (decide (f≤8)))
 (.oo false)) fun g=>
 .br g
 (.gh f c.length<|
 .cc (pz4 (c.getD (f.toNat) default)) fun h=>
 .br (!h)
 (.ff false)
 (.nn (i64.wrap (f+1))))
 (.oo .u))
 0 [] fun _=>
 .br (decide (e≥1))
 (.ret (decide (e≤8)))
 (.ret false)
noncomputable def ez2 (c):=
 mkD Tryz.func158 (rzv c) 0 [.pure (encL 6 az2 c)] [] (fun r=>.pure (.bool r)) (fun _=>[])
noncomputable def izd (c:Int):T Bool:=
 .br (decide (c≥0))
 (.ret (decide (c≤1048576)))
 (.ret false)
noncomputable def ezu (c):=
 mkD Tryz.func184 (izd c) 0 [pz c] [] (fun r=>.pure (.bool r)) (fun _=>[])
noncomputable def rzx (c:Au):T Bool:=
 .br (!((c.1==0)&&((c.2.1==0)&&((c.2.2==0)&&true))))
 (.cc (fzh c 16384) fun d=>
 .ret d)
 (.ret false)
noncomputable def ezs (c):=
 mkD Tryz.func185 (rzx c) 0 [.pure (az1 c)] [] (fun r=>.pure (.bool r)) (fun _=>[])
noncomputable def Ezx (c:az0):T Int:=
 .cc (dzs c) fun d=>
 .br (!d)
 (.ret 0)
 (.cc (bzd (i64.wrap (c.Lo+c.Hi)) 2) fun e=>
 .ret e)
noncomputable def zz3 (c):=
 mkD Tryz.func159 (Ezx c) 0 [.pure (aza c)] [] (fun r=>pz r) (fun _=>[])
noncomputable def pz1 (c:Az):T Av:=
 .cc (ez2 c) fun d=>
 .br (!d)
 (.ret nl)
 (.loop (fun (e:Aw)=>⟨[(0,.pure (encL 6 az2 c)),(3,.vec 0),(4,pz e.2)],[(0,vecO 3 az1 e.1 78)],[],1⟩)
 (.exit 0) (fun (e:Av)=>⟨[(3,.vec 0)],[(0,vecO 3 az1 e 78)],[],1⟩)
 (fun e=>let f:=c.getD ((e.2).toNat) default;.br (decide (e.2<(c.length:Int)))
 (.gh e.2 c.length<|
 .ix 0 3 rfl<|
 .cc (zz3 (f.1)) fun g=>
 .gh e.2 c.length<|
 .ix 1 3 rfl<|
 .cc (zz3 (f.2.1)) fun h=>
 .gh e.2 c.length<|
 .ix 2 3 rfl<|
 .cc (zz3 (f.2.2)) fun i=>let j:=([(g,h,i)]:Av);let k:=e.1.length+j.length;
 .conv 7020 (czi 3 az1 j 78)<|
 .conv 7021 (ezf 3 az1 e.1 j 78)<|
 .grd (k * 24≤140737488355328/\k≤maxLen)<|
 .nn ((e.1++j),(i64.wrap (e.2+1))))
 (.oo e.1))
 (nl,0) [] fun e=>
 .ret e)
noncomputable def dzm (c):=
 mkD Tryz.func113 (pz1 c) 0 [.pure (encL 6 az2 c)] [] (fun r=>.pure (encL 3 az1 r)) (fun _=>[])
noncomputable def iza (c:Au):T Ax:=
 .br ((c.1==0)&&((c.2.1==0)&&((c.2.2==0)&&true)))
 (.ret (c,false))
 (.loop (fun (d:Int)=>⟨[(1,.ptr 0 0),(2,.ptr 1 0),(4,pz d)],[(0,.box [pz c.1,pz c.2.1,pz c.2.2]),(1,.box [pz 0,pz 0,pz 0])],[],2⟩)
 .ret (fun (_:U0)=>⟨[],[],[],0⟩)
 (fun d=>let e:=i64.wrap (c.1.tdiv d);let f:=i64.wrap (c.2.1.tdiv d);let g:=i64.wrap (c.2.2.tdiv d);.ix 0 3 rfl<|
 .grd (d≠0)<|
 .ix 1 3 rfl<|
 .grd (d≠0)<|
 .ix 2 3 rfl<|
 .grd (d≠0)<|
 .cc (fzh (e,f,g) 16384) fun h=>
 .br h
 (.ff ((e,f,g),true))
 (.nn (i64.wrap (d * 2))))
 1 [] fun _=>
 .stop)
noncomputable def gzn (c):=
 mkD Tryz.func153 (iza c) 0 [.pure (az1 c)] [] (fun r=>.tup [.pure (az1 r.1),.pure (.bool r.2)]) (fun _=>[])
set_option maxHeartbeats 8000000 in
set_option maxRecDepth 20000 in
noncomputable def xzn (c:Az)(d:Az):T Ax:=
 .cut 2 (fun (e:Bool)=>⟨[(0,.pure (encL 6 az2 c)),(1,.pure (encL 6 az2 d)),(4,.ptr 0 0),(19,.pure (.bool e))],[(0,.box [pz 0,pz 0,pz 0])],[],1⟩)
 (.cc (ez2 c) fun e=>
 .br (!e)
 (.oo true)
 (.cc (ez2 d) fun f=>
 .oo (!f))) fun e=>
 .br e
 (.ret ((0,0,0),false))
 (.cc (dzm c) fun f=>let g:=encL 3 az1 f;let h:=(f.length:Int);
 .cc (dzm d) fun i=>let j:=encL 3 az1 i;let k:=(i.length:Int);
 .unroll 4<|
 .known true<|
 .loop (fun (m:An)=>⟨[(4,.ptr 0 0),(6,.ptr 1 0),(7,.pure g),(8,.pure j),(9,pz 0),(10,pz m.2)],[(0,.box [pz 0,pz 0,pz 0]),(1,.box [pz m.1,pz 0,pz 0])],[],2⟩)
 (.exit 2) (fun (m:Int)=>⟨[(4,.ptr 0 0),(6,.ptr 1 0),(7,.pure g),(8,.pure j),(9,pz 0)],[(0,.box [pz 0,pz 0,pz 0]),(1,.box [pz m,pz 0,pz 0])],[],2⟩)
 (fun m=>.br (decide (m.2<h))
 (.ix 0 3 rfl<|
 .gh m.2 f.length<|
 .ix 0 3 rfl<|
 .name 11012 ((i64.wrap (m.1+(i64.wrap (((f.getD ((m.2).toNat) default).1) * k))))) fun n=>
 .ix 0 3 rfl<|
 .nn (n,(i64.wrap (m.2+1))))
 (.oo m.1))
 (0,0) [] fun m=>
 .loop (fun (n:An)=>⟨[(4,.ptr 0 0),(6,.ptr 1 0),(7,.pure g),(8,.pure j),(9,pz 0),(11,pz n.2)],[(0,.box [pz 0,pz 0,pz 0]),(1,.box [pz n.1,pz 0,pz 0])],[],2⟩)
 (.exit 4) (fun (n:Int)=>⟨[(4,.ptr 0 0),(6,.ptr 1 0),(7,.pure g),(8,.pure j),(9,pz 0)],[(0,.box [pz 0,pz 0,pz 0]),(1,.box [pz n,pz 0,pz 0])],[],2⟩)
 (fun n=>.br (decide (n.2<k))
 (.ix 0 3 rfl<|
 .gh n.2 i.length<|
 .ix 0 3 rfl<|
 .name 15012 ((i64.wrap (n.1- (i64.wrap (((i.getD ((n.2).toNat) default).1) * h))))) fun q=>
 .ix 0 3 rfl<|
 .nn (q,(i64.wrap (n.2+1))))
 (.oo n.1))
 (m,0) [] fun n=>
 .lit 7001 (1)<|
 .known true<|
 .loop (fun (q:An)=>⟨[(4,.ptr 0 0),(6,.ptr 1 0),(7,.pure g),(8,.pure j),(9,pz 1),(10,pz q.2)],[(0,.box [pz 0,pz 0,pz 0]),(1,.box [pz n,pz q.1,pz 0])],[],2⟩)
 (.exit 2) (fun (q:Int)=>⟨[(4,.ptr 0 0),(6,.ptr 1 0),(7,.pure g),(8,.pure j),(9,pz 1)],[(0,.box [pz 0,pz 0,pz 0]),(1,.box [pz n,pz q,pz 0])],[],2⟩)
 (fun q=>.br (decide (q.2<h))
 (.ix 1 3 rfl<|
 .gh q.2 f.length<|
 .ix 1 3 rfl<|
 .name 11012 ((i64.wrap (q.1+(i64.wrap (((f.getD ((q.2).toNat) default).2.1) * k))))) fun s=>
 .ix 1 3 rfl<|
 .nn (s,(i64.wrap (q.2+1))))
 (.oo q.1))
 (0,0) [] fun q=>
 .loop (fun (s:An)=>⟨[(4,.ptr 0 0),(6,.ptr 1 0),(7,.pure g),(8,.pure j),(9,pz 1),(11,pz s.2)],[(0,.box [pz 0,pz 0,pz 0]),(1,.box [pz n,pz s.1,pz 0])],[],2⟩)
 (.exit 4) (fun (s:Int)=>⟨[(4,.ptr 0 0),(6,.ptr 1 0),(7,.pure g),(8,.pure j),(9,pz 1)],[(0,.box [pz 0,pz 0,pz 0]),(1,.box [pz n,pz s,pz 0])],[],2⟩)
 (fun s=>.br (decide (s.2<k))
 (.ix 1 3 rfl<|
 .gh s.2 i.length<|
 .ix 1 3 rfl<|
 .name 15012 ((i64.wrap (s.1- (i64.wrap (((i.getD ((s.2).toNat) default).2.1) * h))))) fun t=>
 .ix 1 3 rfl<|
 .nn (t,(i64.wrap (s.2+1))))
 (.oo s.1))
 (q,0) [] fun s=>
 .lit 7001 (2)<|
 .known true<|
 .loop (fun (t:An)=>⟨[(4,.ptr 0 0),(6,.ptr 1 0),(7,.pure g),(8,.pure j),(9,pz 2),(10,pz t.2)],[(0,.box [pz 0,pz 0,pz 0]),(1,.box [pz n,pz s,pz t.1])],[],2⟩)
 (.exit 2) (fun (t:Int)=>⟨[(4,.ptr 0 0),(6,.ptr 1 0),(7,.pure g),(8,.pure j),(9,pz 2)],[(0,.box [pz 0,pz 0,pz 0]),(1,.box [pz n,pz s,pz t])],[],2⟩)
 (fun t=>.br (decide (t.2<h))
 (.ix 2 3 rfl<|
 .gh t.2 f.length<|
 .ix 2 3 rfl<|
 .name 11012 ((i64.wrap (t.1+(i64.wrap (((f.getD ((t.2).toNat) default).2.2) * k))))) fun w=>
 .ix 2 3 rfl<|
 .nn (w,(i64.wrap (t.2+1))))
 (.oo t.1))
 (0,0) [] fun t=>
 .loop (fun (w:An)=>⟨[(4,.ptr 0 0),(6,.ptr 1 0),(7,.pure g),(8,.pure j),(9,pz 2),(11,pz w.2)],[(0,.box [pz 0,pz 0,pz 0]),(1,.box [pz n,pz s,pz w.1])],[],2⟩)
 (.exit 4) (fun (w:Int)=>⟨[(4,.ptr 0 0),(6,.ptr 1 0),(7,.pure g),(8,.pure j),(9,pz 2)],[(0,.box [pz 0,pz 0,pz 0]),(1,.box [pz n,pz s,pz w])],[],2⟩)
 (fun w=>.br (decide (w.2<k))
 (.ix 2 3 rfl<|
 .gh w.2 i.length<|
 .ix 2 3 rfl<|
 .name 15012 ((i64.wrap (w.1- (i64.wrap (((i.getD ((w.2).toNat) default).2.2) * h))))) fun y=>
 .ix 2 3 rfl<|
 .nn (y,(i64.wrap (w.2+1))))
 (.oo w.1))
 (t,0) [] fun w=>
 .lit 7001 (3)<|
 .known false<|
 .cc (gzn (n,s,w)) fun y=>
 .ret (y.1,y.2))
noncomputable def Fzw (c)(d):=
 mkD Tryz.func186 (xzn c d) 0 [.pure (encL 6 az2 c),.pure (encL 6 az2 d)] [] (fun r=>.tup [.pure (az1 r.1),.pure (.bool r.2)]) (fun _=>[])
noncomputable def Qzv:T Av:=
 .conv 1006 (czi 3 az1 ([(1,0,0),((-1),0,0),(0,1,0),(0,(-1),0),(0,0,1),(0,0,(-1))]:Av) 78)<|
 .ret ([(1,0,0),((-1),0,0),(0,1,0),(0,(-1),0),(0,0,1),(0,0,(-1))]:Av)
noncomputable def ref14_Axes_C:CallS Av:=
 mkD Tryz.func187 (Qzv) 0 [] [] (fun r=>.pure (encL 3 az1 r)) (fun _=>[])
noncomputable def Bz9 (c:Av):T Bool:=let d:=encL 3 az1 c;let e:=(c.length:Int);.loop (fun (f:Int)=>⟨[(0,.pure d),(3,pz f)],[],[],0⟩)
 (.exit 0) (fun (_:U0)=>⟨[(0,.pure d)],[],[],0⟩)
 (fun f=>.cut 1 (fun (g:Bool)=>⟨[(0,.pure d),(3,pz f),(11,.pure (.bool g))],[],[],0⟩)
 (.br (decide (f<e))
 (.oo (decide (f≤8)))
 (.oo false)) fun g=>
 .br g
 (.gh f c.length<|
 .cc (fzh (c.getD (f.toNat) default) 268435456) fun h=>
 .br (!h)
 (.ff false)
 (.nn (i64.wrap (f+1))))
 (.oo .u))
 0 [] fun _=>
 .br (decide (e≥1))
 (.ret (decide (e≤8)))
 (.ret false)
noncomputable def Bz8 (c):=
 mkD Tryz.func149 (Bz9 c) 0 [.pure (encL 3 az1 c)] [] (fun r=>.pure (.bool r)) (fun _=>[])
noncomputable def pz7 (c:Av)(d:A0):T Au:=
 .loop (fun (e:B7)=>⟨[(0,.pure (encL 3 az1 c)),(1,.pure (encL 1 az3 d)),(4,.ptr 0 0),(5,.ptr 1 0),(6,pz e.2.2.2)],[(0,.box [pz 0,pz 0,pz 0]),(1,.box [pz e.1,pz e.2.1,pz e.2.2.1])],[],2⟩)
 (.exit 0) (fun (e:Au)=>⟨[(4,.ptr 0 0),(5,.ptr 1 0)],[(0,.box [pz 0,pz 0,pz 0]),(1,.box [pz e.1,pz e.2.1,pz e.2.2])],[],2⟩)
 (fun e=>let f:=(e.2.2.2).toNat;let g:=d.getD f default;let h:=c.getD f default;.br (decide (e.2.2.2<(c.length:Int)))
 (.unroll 4<|
 .known true<|
 .ix 0 3 rfl<|
 .gh e.2.2.2 d.length<|
 .gh e.2.2.2 c.length<|
 .ix 0 3 rfl<|
 .name 8014 ((i64.wrap (e.1+(i64.wrap (g * (h.1)))))) fun i=>
 .ix 0 3 rfl<|
 .lit 7001 (1)<|
 .known true<|
 .ix 1 3 rfl<|
 .gh e.2.2.2 d.length<|
 .gh e.2.2.2 c.length<|
 .ix 1 3 rfl<|
 .name 8014 ((i64.wrap (e.2.1+(i64.wrap (g * (h.2.1)))))) fun j=>
 .ix 1 3 rfl<|
 .lit 7001 (2)<|
 .known true<|
 .ix 2 3 rfl<|
 .gh e.2.2.2 d.length<|
 .gh e.2.2.2 c.length<|
 .ix 2 3 rfl<|
 .name 8014 ((i64.wrap (e.2.2.1+(i64.wrap (g * (h.2.2)))))) fun k=>
 .ix 2 3 rfl<|
 .lit 7001 (3)<|
 .known false<|
 .nn (i,j,k,(i64.wrap (e.2.2.2+1))))
 (.oo (e.1,e.2.1,e.2.2.1)))
 (0,0,0,0) [] fun e=>
 .ret (e.1,e.2.1,e.2.2)
noncomputable def pz6 (c)(d):=
 mkD Tryz.func151 (pz7 c d) 0 [.pure (encL 3 az1 c),.pure (encL 1 az3 d)] [] (fun r=>.pure (az1 r)) (fun _=>[])
noncomputable def Nzx (c:Au)(d:Au):T Au:=
 .ix 0 3 rfl<|
 .ix 0 3 rfl<|
 .ix 1 3 rfl<|
 .ix 1 3 rfl<|
 .ix 2 3 rfl<|
 .ix 2 3 rfl<|
 .ret ((i64.wrap (c.1-d.1)),(i64.wrap (c.2.1-d.2.1)),(i64.wrap (c.2.2-d.2.2)))
noncomputable def kza (c)(d):=
 mkD Tryz.func150 (Nzx c d) 0 [.pure (az1 c),.pure (az1 d)] [] (fun r=>.pure (az1 r)) (fun _=>[])
noncomputable def mzd (c:Au)(d:Int):T Bool:=
 .unroll 4<|
 .known true<|
 .ix 0 3 rfl<|
 .ix 0 3 rfl<|
 .cc (bz5 (max c.1 (i64.wrap (0-c.1))) 65536) fun e=>
 .name 6004 ((i64.wrap (0+(i64.wrap (e * e))))) fun f=>
 .lit 4001 (1)<|
 .known true<|
 .ix 1 3 rfl<|
 .ix 1 3 rfl<|
 .cc (bz5 (max c.2.1 (i64.wrap (0-c.2.1))) 65536) fun g=>
 .name 6004 ((i64.wrap (f+(i64.wrap (g * g))))) fun h=>
 .lit 4001 (2)<|
 .known true<|
 .ix 2 3 rfl<|
 .ix 2 3 rfl<|
 .cc (bz5 (max c.2.2 (i64.wrap (0-c.2.2))) 65536) fun i=>
 .name 6004 ((i64.wrap (h+(i64.wrap (i * i))))) fun j=>
 .lit 4001 (3)<|
 .known false<|
 .ret (decide (j≤(i64.wrap (d * d))))
noncomputable def qzl (c)(d):=
 mkD Tryz.func152 (mzd c d) 0 [.pure (az1 c),pz d] [] (fun r=>.pure (.bool r)) (fun _=>[])
noncomputable def Szy (c:Au)(d:Au):T Int:=
 .ix 0 3 rfl<|
 .ix 0 3 rfl<|
 .ix 1 3 rfl<|
 .ix 1 3 rfl<|
 .ix 2 3 rfl<|
 .ix 2 3 rfl<|
 .name 1016 ((i64.wrap ((i64.wrap ((i64.wrap (c.1 * d.1))+(i64.wrap (c.2.1 * d.2.1))))+(i64.wrap (c.2.2 * d.2.2))))) fun e=>
 .ret e
noncomputable def hz7 (c)(d):=
 mkD Tryz.func155 (Szy c d) 0 [.pure (az1 c),.pure (az1 d)] [] (fun r=>pz r) (fun _=>[])
noncomputable def hz6 (c:Au)(d:Av)(e:Int):T Int:=let f:=encL 3 az1 d;let g:Nat×Res:=(0,.box [pz c.1,pz c.2.1,pz c.2.2]);.loop (fun (h:An)=>⟨[(1,.pure f),(2,pz e),(3,.ptr 0 0),(7,pz h.1),(8,pz h.2)],[g],[],1⟩)
 (.exit 0) (fun (h:Int)=>⟨[(7,pz h)],[],[],0⟩)
 (fun h=>.br (decide (h.2<(d.length:Int)))
 (.cut 0 (fun (i:Int)=>⟨[(1,.pure f),(2,pz e),(3,.ptr 0 0),(7,pz i),(8,pz h.2)],[g],[],1⟩)
 (.gh h.2 d.length<|
 .cc (hz7 c (d.getD ((h.2).toNat) default)) fun i=>
 .gh h.1 d.length<|
 .cc (hz7 c (d.getD ((h.1).toNat) default)) fun j=>
 .br (decide ((i64.wrap (e * i))<(i64.wrap (e * j))))
 (.oo h.2)
 (.oo h.1)) fun i=>
 .nn (i,(i64.wrap (h.2+1))))
 (.oo h.1))
 (0,1) [] fun h=>
 .ret h
noncomputable def fz2 (c)(d)(e):=
 mkD Tryz.func154 (hz6 c d e) 0 [.pure (az1 c),.pure (encL 3 az1 d),pz e] [] (fun r=>pz r) (fun _=>[])
noncomputable def Bzc (c:Int):T Int:=
 .br (decide (c<1))
 (.ret 0)
 (.loop (fun (d:An)=>⟨[(0,pz c),(3,pz d.1),(4,pz d.2)],[],[],0⟩)
 (.exit 0) (fun (d:Int)=>⟨[(3,pz d)],[],[],0⟩)
 (fun d=>let e:=i64.wrap (d.2-d.1);let f:=i64.wrap (d.1+(i64.wrap (e.tdiv 2)));.br (decide (e>1))
 (.ok ((2:Int)≠0) (by decide)<|
 .grd (f≠0)<|
 .br (decide (f≤(i64.wrap (c.tdiv f))))
 (.nn (f,d.2))
 (.nn (d.1,f)))
 (.oo d.1))
 (1,4294967296) [] fun d=>
 .ret d)
noncomputable def pzb (c):=
 mkD Tryz.func231 (Bzc c) 0 [pz c] [] (fun r=>pz r) (fun _=>[])
noncomputable def uzu (c:Int):T Int:=
 .cc (pzb c) fun d=>
 .cut 0 (fun (e:Int)=>⟨[(3,pz e)],[],[],0⟩)
 (.cut 0 (fun (e:Bool)=>⟨[(3,pz d),(14,.pure (.bool e))],[],[],0⟩)
 (.br (decide (c>0))
 (.oo (decide ((i64.wrap (d * d))<c)))
 (.oo false)) fun e=>
 .br e
 (.oo (i64.wrap (d+1)))
 (.oo d)) fun e=>
 .ret e
noncomputable def Dz2 (c):=
 mkD Tryz.func189 (uzu c) 0 [pz c] [] (fun r=>pz r) (fun _=>[])
noncomputable def xzj (c:Au):T Int:=
 .cc (ezs (c.1,c.2.1,c.2.2)) fun d=>
 .br (!d)
 (.ret 0)
 (.ix 0 3 rfl<|
 .ix 0 3 rfl<|
 .ix 1 3 rfl<|
 .ix 1 3 rfl<|
 .ix 2 3 rfl<|
 .ix 2 3 rfl<|
 .name 3016 ((i64.wrap ((i64.wrap ((i64.wrap (c.1 * c.1))+(i64.wrap (c.2.1 * c.2.1))))+(i64.wrap (c.2.2 * c.2.2))))) fun e=>
 .cc (Dz2 e) fun f=>
 .ret f)
noncomputable def qzi (c):=
 mkD Tryz.func156 (xzj c) 0 [.pure (az1 c)] [] (fun r=>pz r) (fun _=>[])
noncomputable def kz9 (c:A0)(d:Int)(e:Int):T A0:=let f:=e.toNat;.grd (c.length * 8≤140737488355328/\c.length≤maxLen)<|
 .loop (fun (g:Ar)=>⟨[(1,pz d),(2,pz e),(7,.vec 0),(8,pz g.2.1),(9,pz g.2.2)],[(0,vecO 1 az3 g.1 2)],[],1⟩)
 (.exit 0) (fun (g:A2)=>⟨[(2,pz e),(7,.vec 0),(8,pz g.2)],[(0,vecO 1 az3 g.1 2)],[],1⟩)
 (fun g=>let h:=(g.2.2).toNat;let i:=g.1.getD h default;let j:=i64.wrap ((i64.wrap (i * d)).tdiv 256);.br (decide (g.2.2<(g.1.length:Int)))
 (.gg g.2.2 g.1.length<|
 .ok ((256:Int)≠0) (by decide)<|
 .gg g.2.2 g.1.length<|
 .name 7005 ((i64.wrap (i-j))) fun k=>
 .gh g.2.2 g.1.length<|
 .conv 7007 (fzg 1 az3 g.1 2 h k)<|
 .gi (g.2.2) g.1.length<|
 .name 8002 ((i64.wrap (g.2.1+j))) fun m=>
 .nn ((g.1.set h k),m,(i64.wrap (g.2.2+1))))
 (.oo (g.1,g.2.1)))
 (c,0,0) [] fun g=>let h:=i64.wrap ((g.1.getD f default)+g.2);
 .gg e g.1.length<|
 .gh e g.1.length<|
 .conv 9007 (fzg 1 az3 g.1 2 f h)<|
 .gi (e) g.1.length<|
 .ret (g.1.set f h)
noncomputable def kz8 (c)(d)(e):=
 mkD Tryz.func157 (kz9 c d e) 0 [.pure (encL 1 az3 c),pz d,pz e] [] (fun _=>.vec 0) (fun r=>[(0,vecO 1 az3 r 2)])
set_option maxHeartbeats 8000000 in
set_option maxRecDepth 20000 in
noncomputable def izc (c:Av)(d:Av)(e:Int)(f:Int):T dz9:=let g:=encL 3 az1 c;let h:=encL 3 az1 d;let i:=(c.length:Int);let j:=(d.length:Int);let k:=List.replicate i.toNat (0:Int);let m:=List.replicate j.toNat (0:Int);.cut 2 (fun (n:Bool)=>⟨[(0,.pure g),(1,.pure h),(2,pz e),(3,pz f),(8,.ptr 0 0),(43,.pure (.bool n))],[(0,.box [pz 0,pz 0,pz 0,pz 0,.vec 1,.vec 2,pz 0]),(1,.nilv),(2,.nilv)],[],3⟩)
 (.cc (Bz8 c) fun n=>
 .br (!n)
 (.oo true)
 (.cc (Bz8 d) fun q=>
 .br (!q)
 (.oo true)
 (.br (decide (e<0))
 (.oo true)
 (.br (decide (e>2097152))
 (.oo true)
 (.br (decide (f<0))
 (.oo true)
 (.oo (decide (f>64)))))))) fun n=>
 .br n
 (.ret (⟨0,(0,0,0),nl,nl,0⟩:dz9))
 (.conv 3002 (Hzj 1 az3 2 i.toNat 0)<|
 .grd (0≤i/\i≤i/\i≤9223372036854775807/\i * 8≤140737488355328)<|
 .conv 3005 (Hzj 1 az3 2 j.toNat 0)<|
 .grd (0≤j/\j≤j/\j≤9223372036854775807/\j * 8≤140737488355328)<|
 .gh (0:Int) (k.length)<|
 .conv 4005 (fzg 1 az3 k 2 ((0:Int).toNat) 65536)<|
 .gi (0:Int) (k.length)<|
 .gh (0:Int) (m.length)<|
 .conv 4007 (fzg 1 az3 m 2 ((0:Int).toNat) 65536)<|
 .gi (0:Int) (m.length)<|
 .loop (fun (q:(Int×Int×Int×A0×A0×Int))=>⟨[(0,.pure g),(1,.pure h),(2,pz e),(3,pz f),(8,.ptr 0 0),(9,.ptr 3 0)],[(0,.box [pz 0,pz 0,pz 0,pz 0,.vec 1,.vec 2,pz 0]),(1,.nilv),(2,.nilv),(3,.box [pz 0,pz q.1,pz q.2.1,pz q.2.2.1,.vec 4,.vec 5,pz q.2.2.2.2.2]),(4,vecO 1 az3 q.2.2.2.1 2),(5,vecO 1 az3 q.2.2.2.2.1 2)],[],6⟩)
 .ret (fun (_:U0)=>⟨[],[],[],0⟩)
 (fun q=>.cc (pz6 c q.2.2.2.1) fun s=>
 .cc (pz6 d q.2.2.2.2.1) fun t=>
 .cc (kza s t) fun w=>let y:=i64.wrap (w.1.tdiv 65536);let z:=i64.wrap (w.2.1.tdiv 65536);let aa:=i64.wrap (w.2.2.tdiv 65536);
 .cc (qzl w e) fun ab=>
 .br ab
 (.ff (⟨2,(q.1,q.2.1,q.2.2.1),q.2.2.2.1,q.2.2.2.2.1,q.2.2.2.2.2⟩:dz9))
 (.ix 0 3 rfl<|
 .ok ((65536:Int)≠0) (by decide)<|
 .ix 1 3 rfl<|
 .ok ((65536:Int)≠0) (by decide)<|
 .ix 2 3 rfl<|
 .ok ((65536:Int)≠0) (by decide)<|
 .cc (gzn (y,z,aa)) fun ac=>let ad:=(⟨0,ac.1,q.2.2.2.1,q.2.2.2.2.1,q.2.2.2.2.2⟩:dz9);
 .br (!ac.2)
 (.ff ad)
 (.cc (fz2 ac.1 c 1) fun ae=>let af:=c.getD (ae.toNat) default;
 .cc (fz2 ac.1 d (-1)) fun ag=>let ah:=d.getD (ag.toNat) default;
 .gh ae c.length<|
 .cc (hz7 ac.1 af) fun ai=>
 .gh ag d.length<|
 .cc (hz7 ac.1 ah) fun aj=>
 .cc (qzi ac.1) fun ak=>
 .br (decide ((i64.wrap (ai-aj))>(i64.wrap (ak * e))))
 (.ff (⟨1,ac.1,q.2.2.2.1,q.2.2.2.2.1,q.2.2.2.2.2⟩:dz9))
 (.gh ae c.length<|
 .gh ag d.length<|
 .cc (kza af ah) fun al=>
 .cc (kza (y,z,aa) al) fun am=>
 .cc (hz7 (y,z,aa) am) fun an=>
 .cc (hz7 am am) fun ao=>let ap:=max 1 (i64.wrap (ao.tdiv 256));let aq:=min 256 (i64.wrap (an.tdiv ap));
 .cut 1 (fun (ar:Bool)=>⟨[(0,.pure g),(1,.pure h),(2,pz e),(3,pz f),(8,.ptr 0 0),(9,.ptr 3 0),(14,pz ae),(15,pz ag),(17,pz an),(18,pz ao),(142,.pure (.bool ar))],[(0,.box [pz 0,pz 0,pz 0,pz 0,.vec 1,.vec 2,pz 0]),(1,.nilv),(2,.nilv),(3,.box [pz 0,pz ac.1.1,pz ac.1.2.1,pz ac.1.2.2,.vec 4,.vec 5,pz q.2.2.2.2.2]),(4,vecS 1 az3 q.2.2.2.1 2),(5,vecS 1 az3 q.2.2.2.2.1 2)],[],6⟩)
 (.br (decide (q.2.2.2.2.2≥f))
 (.oo true)
 (.oo (decide (an≤0)))) fun ar=>
 .br ar
 (.ff ad)
 (.ok ((256:Int)≠0) (by decide)<|
 .grd (ap≠0)<|
 .br (aq==0)
 (.ff ad)
 (.call (kz8 q.2.2.2.1 aq ae) [] fun au=>
 .call (kz8 q.2.2.2.2.1 aq ag) [] fun av=>
 .nn (ac.1.1,ac.1.2.1,ac.1.2.2,au,av,(i64.wrap (q.2.2.2.2.2+1)))))))))
 (0,0,0,(k.set ((0:Int).toNat) 65536),(m.set ((0:Int).toNat) 65536),0) [] fun _=>
 .stop)
noncomputable def ezt (c)(d)(e)(f):=
 mkD Tryz.func112 (izc c d e f) 0 [.pure (encL 3 az1 c),.pure (encL 3 az1 d),pz e,pz f] [] (fun r=>.pure (Hzp r)) (fun _=>[])
open Go.Proofs
noncomputable def kz6 (c:Az)(d:Int)(e:Az)(f:Int)(g:Av):T Av:=let h:=encL 6 az2 c;let i:=encL 6 az2 e;let j:=encL 3 az1 g;.cut 2 (fun (k:Bool)=>⟨[(0,.pure h),(1,pz d),(2,.pure i),(3,pz f),(4,.pure j),(33,.pure (.bool k))],[],[],0⟩)
 (.cc (ez2 c) fun k=>
 .br (!k)
 (.oo true)
 (.cc (ez2 e) fun m=>
 .br (!m)
 (.oo true)
 (.cc (ezu d) fun n=>
 .br (!n)
 (.oo true)
 (.cc (ezu f) fun q=>
 .oo (!q))))) fun k=>
 .br k
 (.ret nl)
 (.loop (fun (m:Aw)=>⟨[(0,.pure h),(1,pz d),(2,.pure i),(3,pz f),(4,.pure j),(11,.vec 0),(12,pz m.2)],[(0,vecO 3 az1 m.1 78)],[],1⟩)
 (.exit 0) (fun (m:Av)=>⟨[(0,.pure h),(1,pz d),(2,.pure i),(3,pz f),(11,.vec 0)],[(0,vecO 3 az1 m 78)],[],1⟩)
 (fun m=>let n:=g.getD ((m.2).toNat) default;let q:=([n]:Av);let s:=m.1.length+q.length;.br (decide (m.2<(g.length:Int)))
 (.cut 0 (fun (t:Av)=>⟨[(0,.pure h),(1,pz d),(2,.pure i),(3,pz f),(4,.pure j),(11,.vec 0),(12,pz m.2)],[(0,vecO 3 az1 t 78)],[],1⟩)
 (.gh m.2 g.length<|
 .cc (ezs n) fun t=>
 .br t
 (.gh m.2 g.length<|
 .conv 8005 (czi 3 az1 q 78)<|
 .conv 8006 (ezf 3 az1 m.1 q 78)<|
 .grd (s * 24≤140737488355328/\s≤maxLen)<|
 .oo (m.1++q))
 (.oo m.1)) fun t=>
 .nn (t,(i64.wrap (m.2+1))))
 (.oo m.1))
 (nl,0) [] fun m=>
 .cut 0 (fun (n:Av)=>⟨[(0,.pure h),(1,pz d),(2,.pure i),(3,pz f),(11,.vec 0)],[(0,vecO 3 az1 n 78)],[],1⟩)
 (.cc (Fzw c e) fun n=>let q:=([n.1]:Av);let s:=m.length+q.length;
 .br n.2
 (.conv 11002 (czi 3 az1 q 78)<|
 .conv 11003 (ezf 3 az1 m q 78)<|
 .grd (s * 24≤140737488355328/\s≤maxLen)<|
 .oo (m++q))
 (.oo m)) fun n=>
 .cc (ref14_Axes_C) fun q=>let s:=n++q;let t:=n.length+q.length;
 .conv 12002 (ezf 3 az1 n q 78)<|
 .grd (t * 24≤140737488355328/\t≤maxLen)<|
 .cc (dzm c) fun w=>
 .cc (dzm e) fun y=>
 .cc (ezt w y (i64.wrap (d+f)) 64) fun z=>let aa:=([z.Normal]:Av);let ab:=s.length+aa.length;
 .cut 0 (fun (ac:Av)=>⟨[(11,.vec 0)],[(0,vecO 3 az1 ac 78)],[],1⟩)
 (.cc (ezs z.Normal) fun ac=>
 .br ac
 (.conv 15003 (czi 3 az1 aa 78)<|
 .conv 15004 (ezf 3 az1 s aa 78)<|
 .grd (ab * 24≤140737488355328/\ab≤maxLen)<|
 .oo (s++aa))
 (.oo s)) fun ac=>
 .ret ac)
noncomputable def qzj (c)(d)(e)(f)(g):=
 mkD Tryz.func147 (kz6 c d e f g) 0 [.pure (encL 6 az2 c),pz d,.pure (encL 6 az2 e),pz f,.pure (encL 3 az1 g)] [] (fun r=>.pure (encL 3 az1 r)) (fun _=>[])
noncomputable def Bz7 (c:Au)(d:Ay):T An:=let e:=i64.wrap (c.1 * d.1.Lo);let f:=i64.wrap (c.1 * d.1.Hi);let g:=i64.wrap (c.2.1 * d.2.1.Lo);let h:=i64.wrap (c.2.1 * d.2.1.Hi);let i:=i64.wrap (c.2.2 * d.2.2.Lo);let j:=i64.wrap (c.2.2 * d.2.2.Hi);.cut 2 (fun (k:Bool)=>⟨[(2,.ptr 0 0),(3,.ptr 1 0),(18,.pure (.bool k))],[(0,.box [pz c.1,pz c.2.1,pz c.2.2]),(1,.box [pz d.1.Lo,pz d.1.Hi,pz d.2.1.Lo,pz d.2.1.Hi,pz d.2.2.Lo,pz d.2.2.Hi])],[],2⟩)
 (.cc (ezs c) fun k=>
 .br (!k)
 (.oo true)
 (.cc (pz4 d) fun m=>
 .oo (!m))) fun k=>
 .br k
 (.ret (0,0))
 (.unroll 4<|
 .known true<|
 .ix 0 3 rfl<|
 .ix 0 3 rfl<|
 .ix 0 3 rfl<|
 .ix 0 3 rfl<|
 .name 8004 ((i64.wrap (0+(min e f)))) fun m=>
 .name 9004 ((i64.wrap (0+(max e f)))) fun n=>
 .lit 6001 (1)<|
 .known true<|
 .ix 1 3 rfl<|
 .ix 1 3 rfl<|
 .ix 1 3 rfl<|
 .ix 1 3 rfl<|
 .name 8004 ((i64.wrap (m+(min g h)))) fun q=>
 .name 9004 ((i64.wrap (n+(max g h)))) fun s=>
 .lit 6001 (2)<|
 .known true<|
 .ix 2 3 rfl<|
 .ix 2 3 rfl<|
 .ix 2 3 rfl<|
 .ix 2 3 rfl<|
 .name 8004 ((i64.wrap (q+(min i j)))) fun t=>
 .name 9004 ((i64.wrap (s+(max i j)))) fun w=>
 .lit 6001 (3)<|
 .known false<|
 .ret (t,w))
noncomputable def Bz6 (c)(d):=
 mkD Tryz.func273 (Bz7 c d) 0 [.pure (az1 c),.pure (az2 d)] [] (fun r=>.tup [pz r.1,pz r.2]) (fun _=>[])
noncomputable def uzh (c:Au)(d:Az):T B2:=let e:=encL 6 az2 d;let f:Nat×Res:=(0,.box [pz c.1,pz c.2.1,pz c.2.2]);.cut 2 (fun (g:Bool)=>⟨[(1,.pure e),(2,.ptr 0 0),(19,.pure (.bool g))],[f],[],1⟩)
 (.cc (ezs c) fun g=>
 .br (!g)
 (.oo true)
 (.cc (ez2 d) fun h=>
 .oo (!h))) fun g=>
 .br g
 (.ret (0,0,false))
 (.loop (fun (h:Au)=>⟨[(1,.pure e),(2,.ptr 0 0),(7,pz h.1),(8,pz h.2.1),(9,pz h.2.2)],[f],[],1⟩)
 (.exit 0) (fun (h:An)=>⟨[(7,pz h.1),(8,pz h.2)],[],[],0⟩)
 (fun h=>.br (decide (h.2.2<(d.length:Int)))
 (.cut 0 (fun (i:An)=>⟨[(1,.pure e),(2,.ptr 0 0),(7,pz i.1),(8,pz i.2),(9,pz h.2.2)],[f],[],1⟩)
 (.gh h.2.2 d.length<|
 .cc (Bz6 c (d.getD ((h.2.2).toNat) default)) fun i=>
 .cut 0 (fun (j:Bool)=>⟨[(1,.pure e),(2,.ptr 0 0),(7,pz h.1),(8,pz h.2.1),(9,pz h.2.2),(10,pz i.1),(41,.pure (.bool j))],[f],[],1⟩)
 (.br (h.2.2==0)
 (.oo true)
 (.oo (decide (i.1<h.1)))) fun j=>
 .br j
 (.oo (i.1,h.2.2))
 (.oo (h.1,h.2.1))) fun i=>
 .nn (i.1,i.2,(i64.wrap (h.2.2+1))))
 (.oo (h.1,h.2.1)))
 (0,0,0) [] fun h=>
 .ret (h.1,h.2,true))
noncomputable def Czr (c)(d):=
 mkD Tryz.func257 (uzh c d) 0 [.pure (az1 c),.pure (encL 6 az2 d)] [] (fun r=>.tup [pz r.1,pz r.2.1,.pure (.bool r.2.2)]) (fun _=>[])
noncomputable def nz3 (c:Au)(d:Az):T B2:=let e:=encL 6 az2 d;let f:Nat×Res:=(0,.box [pz c.1,pz c.2.1,pz c.2.2]);.cut 2 (fun (g:Bool)=>⟨[(1,.pure e),(2,.ptr 0 0),(19,.pure (.bool g))],[f],[],1⟩)
 (.cc (ezs c) fun g=>
 .br (!g)
 (.oo true)
 (.cc (ez2 d) fun h=>
 .oo (!h))) fun g=>
 .br g
 (.ret (0,0,false))
 (.loop (fun (h:Au)=>⟨[(1,.pure e),(2,.ptr 0 0),(7,pz h.1),(8,pz h.2.1),(9,pz h.2.2)],[f],[],1⟩)
 (.exit 0) (fun (h:An)=>⟨[(7,pz h.1),(8,pz h.2)],[],[],0⟩)
 (fun h=>.br (decide (h.2.2<(d.length:Int)))
 (.cut 0 (fun (i:An)=>⟨[(1,.pure e),(2,.ptr 0 0),(7,pz i.1),(8,pz i.2),(9,pz h.2.2)],[f],[],1⟩)
 (.gh h.2.2 d.length<|
 .cc (Bz6 c (d.getD ((h.2.2).toNat) default)) fun i=>
 .cut 0 (fun (j:Bool)=>⟨[(1,.pure e),(2,.ptr 0 0),(7,pz h.1),(8,pz h.2.1),(9,pz h.2.2),(11,pz i.2),(41,.pure (.bool j))],[f],[],1⟩)
 (.br (h.2.2==0)
 (.oo true)
 (.oo (decide (i.2>h.1)))) fun j=>
 .br j
 (.oo (i.2,h.2.2))
 (.oo (h.1,h.2.1))) fun i=>
 .nn (i.1,i.2,(i64.wrap (h.2.2+1))))
 (.oo (h.1,h.2.1)))
 (0,0,0) [] fun h=>
 .ret (h.1,h.2,true))
noncomputable def vzy (c)(d):=
 mkD Tryz.func258 (nz3 c d) 0 [.pure (az1 c),.pure (encL 6 az2 d)] [] (fun r=>.tup [pz r.1,pz r.2.1,.pure (.bool r.2.2)]) (fun _=>[])
noncomputable def rzz (c:Au)(d:Az)(e:Int)(f:Az)(g:Int):T Ap:=
 .cc (Czr c d) fun h=>
 .cc (vzy c f) fun i=>
 .cut 1 (fun (j:Bool)=>⟨[(2,pz e),(4,pz g),(5,.ptr 0 0),(12,pz h.1),(15,pz i.1),(47,.pure (.bool j))],[(0,.box [pz c.1,pz c.2.1,pz c.2.2])],[],1⟩)
 (.br (!h.2.2)
 (.oo true)
 (.br (!i.2.2)
 (.oo true)
 (.cc (ezu e) fun j=>
 .br (!j)
 (.oo true)
 (.cc (ezu g) fun k=>
 .oo (!k))))) fun j=>
 .br j
 (.ret (0,false))
 (.cc (qzi c) fun k=>
 .ret ((i64.wrap ((i64.wrap (h.1-i.1))- (i64.wrap (k * (i64.wrap (e+g)))))),true))
noncomputable def Az7 (c)(d)(e)(f)(g):=
 mkD Tryz.func230 (rzz c d e f g) 0 [.pure (az1 c),.pure (encL 6 az2 d),pz e,.pure (encL 6 az2 f),pz g] [] (fun r=>.tup [pz r.1,.pure (.bool r.2)]) (fun _=>[])
noncomputable def lz6 (c:Au)(d:Az)(e:Int)(f:Az)(g:Int):T Bool:=
 .cc (Az7 c d e f g) fun h=>
 .br h.2
 (.ret (decide (h.1>0)))
 (.ret false)
noncomputable def tze (c)(d)(e)(f)(g):=
 mkD Tryz.func188 (lz6 c d e f g) 0 [.pure (az1 c),.pure (encL 6 az2 d),pz e,.pure (encL 6 az2 f),pz g] [] (fun r=>.pure (.bool r)) (fun _=>[])
noncomputable def uzm (c:Av)(d:Az)(e:Int)(f:Az)(g:Int):T Ap:=
 .loop (fun (h:Int)=>⟨[(0,.pure (encL 3 az1 c)),(1,.pure (encL 6 az2 d)),(2,pz e),(3,.pure (encL 6 az2 f)),(4,pz g),(12,pz h)],[],[],0⟩)
 (.exit 0) (fun (_:U0)=>⟨[],[],[],0⟩)
 (fun h=>.br (decide (h<(c.length:Int)))
 (.gh h c.length<|
 .cc (tze (c.getD (h.toNat) default) d e f g) fun i=>
 .br i
 (.ff (h,true))
 (.nn (i64.wrap (h+1))))
 (.oo .u))
 0 [] fun _=>
 .ret (0,false)
noncomputable def Czw (c)(d)(e)(f)(g):=
 mkD Tryz.func148 (uzm c d e f g) 0 [.pure (encL 3 az1 c),.pure (encL 6 az2 d),pz e,.pure (encL 6 az2 f),pz g] [] (fun r=>.tup [pz r.1,.pure (.bool r.2)]) (fun _=>[])
noncomputable def kz7 (c:Az)(d:Int)(e:Az)(f:Int)(g:Av):T Ax:=
 .cc (qzj c d e f g) fun h=>
 .cc (Czw h c d e f) fun i=>
 .br (!i.2)
 (.ret ((0,0,0),false))
 (.gh i.1 h.length<|
 .ret ((h.getD ((i.1).toNat) default),true))
noncomputable def qzk (c)(d)(e)(f)(g):=
 mkD Tryz.func111 (kz7 c d e f g) 0 [.pure (encL 6 az2 c),pz d,.pure (encL 6 az2 e),pz f,.pure (encL 3 az1 g)] [] (fun r=>.tup [.pure (az1 r.1),.pure (.bool r.2)]) (fun _=>[])
set_option maxHeartbeats 8000000 in
set_option maxRecDepth 20000 in
noncomputable def pz3 (c:Az)(d:A0):T (Ay×Int×Bool):=let e:=encL 6 az2 c;let f:=encL 1 az3 d;let g:=(d.length:Nat);let h:=(c.length:Nat);.cut 2 (fun (i:Bool)=>⟨[(0,.pure e),(1,.pure f),(4,.ptr 0 0),(21,.pure (.bool i))],[(0,.box [pz 0,pz 0,pz 0,pz 0,pz 0,pz 0])],[],1⟩)
 (.cc (ez2 c) fun i=>
 .br (!i)
 (.oo true)
 (.oo ((g:Int) !=(h:Int)))) fun i=>
 .br i
 (.ret (((⟨0,0⟩:az0),(⟨0,0⟩:az0),(⟨0,0⟩:az0)),0,false))
 (.loop (fun (j:An)=>⟨[(0,.pure e),(1,.pure f),(4,.ptr 0 0),(7,pz j.1),(8,pz j.2)],[(0,.box [pz 0,pz 0,pz 0,pz 0,pz 0,pz 0])],[],1⟩)
 (.exit 0) (fun (j:Int)=>⟨[(0,.pure e),(1,.pure f),(4,.ptr 0 0),(7,pz j)],[(0,.box [pz 0,pz 0,pz 0,pz 0,pz 0,pz 0])],[],1⟩)
 (fun j=>let k:=d.getD ((j.2).toNat) default;.br (decide (j.2<(g:Int)))
 (.cut 2 (fun (m:Bool)=>⟨[(0,.pure e),(1,.pure f),(4,.ptr 0 0),(7,pz j.1),(8,pz j.2),(42,.pure (.bool m))],[(0,.box [pz 0,pz 0,pz 0,pz 0,pz 0,pz 0])],[],1⟩)
 (.gh j.2 d.length<|
 .br (decide (k<0))
 (.oo true)
 (.gh j.2 d.length<|
 .oo (decide (k>(i64.wrap (65536-j.1)))))) fun m=>
 .br m
 (.ff (((⟨0,0⟩:az0),(⟨0,0⟩:az0),(⟨0,0⟩:az0)),0,false))
 (.gh j.2 d.length<|
 .nn ((i64.wrap (j.1+k)),(i64.wrap (j.2+1)))))
 (.oo j.1))
 (0,0) [] fun j=>
 .br (decide (j<1))
 (.ret (((⟨0,0⟩:az0),(⟨0,0⟩:az0),(⟨0,0⟩:az0)),0,false))
 (.loop (fun (k:Bc)=>⟨[(0,.pure e),(1,.pure f),(4,.ptr 0 0),(7,pz j),(9,.ptr 1 0),(10,pz k.2.2.2.2.2.2)],[(0,.box [pz 0,pz 0,pz 0,pz 0,pz 0,pz 0]),(1,.box [pz k.1,pz k.2.1,pz k.2.2.1,pz k.2.2.2.1,pz k.2.2.2.2.1,pz k.2.2.2.2.2.1])],[],2⟩)
 (.exit 2) (fun (k:Ba)=>⟨[(4,.ptr 0 0),(7,pz j),(9,.ptr 1 0)],[(0,.box [pz 0,pz 0,pz 0,pz 0,pz 0,pz 0]),(1,.box [pz k.1,pz k.2.1,pz k.2.2.1,pz k.2.2.2.1,pz k.2.2.2.2.1,pz k.2.2.2.2.2])],[],2⟩)
 (fun k=>let m:=(k.2.2.2.2.2.2).toNat;let n:=d.getD m default;let q:=c.getD m default;.br (decide (k.2.2.2.2.2.2<(h:Int)))
 (.unroll 4<|
 .known true<|
 .ix 0 3 rfl<|
 .gh k.2.2.2.2.2.2 d.length<|
 .gh k.2.2.2.2.2.2 c.length<|
 .ix 0 3 rfl<|
 .name 19015 ((i64.wrap (n * (q.1.Lo)))) fun s=>
 .name 19016 ((i64.wrap (k.1+s))) fun t=>
 .ix 0 3 rfl<|
 .ix 0 3 rfl<|
 .gh k.2.2.2.2.2.2 d.length<|
 .gh k.2.2.2.2.2.2 c.length<|
 .ix 0 3 rfl<|
 .name 20015 ((i64.wrap (n * (q.1.Hi)))) fun w=>
 .name 20016 ((i64.wrap (k.2.1+w))) fun y=>
 .ix 0 3 rfl<|
 .lit 18001 (1)<|
 .known true<|
 .ix 1 3 rfl<|
 .gh k.2.2.2.2.2.2 d.length<|
 .gh k.2.2.2.2.2.2 c.length<|
 .ix 1 3 rfl<|
 .name 19015 ((i64.wrap (n * (q.2.1.Lo)))) fun z=>
 .name 19016 ((i64.wrap (k.2.2.1+z))) fun aa=>
 .ix 1 3 rfl<|
 .ix 1 3 rfl<|
 .gh k.2.2.2.2.2.2 d.length<|
 .gh k.2.2.2.2.2.2 c.length<|
 .ix 1 3 rfl<|
 .name 20015 ((i64.wrap (n * (q.2.1.Hi)))) fun ab=>
 .name 20016 ((i64.wrap (k.2.2.2.1+ab))) fun ac=>
 .ix 1 3 rfl<|
 .lit 18001 (2)<|
 .known true<|
 .ix 2 3 rfl<|
 .gh k.2.2.2.2.2.2 d.length<|
 .gh k.2.2.2.2.2.2 c.length<|
 .ix 2 3 rfl<|
 .name 19015 ((i64.wrap (n * (q.2.2.Lo)))) fun ad=>
 .name 19016 ((i64.wrap (k.2.2.2.2.1+ad))) fun ae=>
 .ix 2 3 rfl<|
 .ix 2 3 rfl<|
 .gh k.2.2.2.2.2.2 d.length<|
 .gh k.2.2.2.2.2.2 c.length<|
 .ix 2 3 rfl<|
 .name 20015 ((i64.wrap (n * (q.2.2.Hi)))) fun af=>
 .name 20016 ((i64.wrap (k.2.2.2.2.2.1+af))) fun ag=>
 .ix 2 3 rfl<|
 .lit 18001 (3)<|
 .known false<|
 .nn (t,y,aa,ac,ae,ag,(i64.wrap (k.2.2.2.2.2.2+1))))
 (.oo (k.1,k.2.1,k.2.2.1,k.2.2.2.1,k.2.2.2.2.1,k.2.2.2.2.2.1)))
 (0,0,0,0,0,0,0) [] fun k=>
 .ret (((⟨k.1,k.2.1⟩:az0),(⟨k.2.2.1,k.2.2.2.1⟩:az0),(⟨k.2.2.2.2.1,k.2.2.2.2.2⟩:az0)),j,true)))
noncomputable def pz2 (c)(d):=
 mkD Tryz.func192 (pz3 c d) 0 [.pure (encL 6 az2 c),.pure (encL 1 az3 d)] [] (fun r=>.tup [.pure (az2 r.1),pz r.2.1,.pure (.bool r.2.2)]) (fun _=>[])
noncomputable def Qzy (c:Int):T Int:=
 .ret (max c (i64.wrap (0-c)))
noncomputable def hz8 (c):=
 mkD Tryz.func193 (Qzy c) 0 [pz c] [] (fun r=>pz r) (fun _=>[])
noncomputable def izb (c:A0)(d:A0)(e:Az)(f:Int)(g:Az)(h:Int):T Ap:=let i:=i64.wrap (f+h);.cc (pz2 e c) fun j=>
 .cc (pz2 g d) fun k=>
 .cut 1 (fun (m:Bool)=>⟨[(3,pz f),(5,pz h),(14,.ptr 0 0),(15,pz j.2.1),(17,.ptr 1 0),(57,.pure (.bool m))],[(0,.box [pz j.1.1.Lo,pz j.1.1.Hi,pz j.1.2.1.Lo,pz j.1.2.1.Hi,pz j.1.2.2.Lo,pz j.1.2.2.Hi]),(1,.box [pz k.1.1.Lo,pz k.1.1.Hi,pz k.1.2.1.Lo,pz k.1.2.1.Hi,pz k.1.2.2.Lo,pz k.1.2.2.Hi])],[],2⟩)
 (.br (!j.2.2)
 (.oo true)
 (.br (!k.2.2)
 (.oo true)
 (.br (j.2.1 !=k.2.1)
 (.oo true)
 (.cc (ezu f) fun m=>
 .br (!m)
 (.oo true)
 (.cc (ezu h) fun n=>
 .oo (!n)))))) fun m=>
 .br m
 (.ret (0,false))
 (.unroll 4<|
 .known true<|
 .ix 0 3 rfl<|
 .ix 0 3 rfl<|
 .cc (hz8 (i64.wrap (j.1.1.Lo-k.1.1.Hi))) fun n=>
 .ix 0 3 rfl<|
 .ix 0 3 rfl<|
 .cc (hz8 (i64.wrap (j.1.1.Hi-k.1.1.Lo))) fun q=>
 .cc (bz5 (max n q) j.2.1) fun s=>
 .br (decide (s>i))
 (.ret ((-1),true))
 (.name 12004 ((i64.wrap ((i64.wrap (i * i))- (i64.wrap (s * s))))) fun t=>
 .lit 8001 (1)<|
 .known true<|
 .ix 1 3 rfl<|
 .ix 1 3 rfl<|
 .cc (hz8 (i64.wrap (j.1.2.1.Lo-k.1.2.1.Hi))) fun w=>
 .ix 1 3 rfl<|
 .ix 1 3 rfl<|
 .cc (hz8 (i64.wrap (j.1.2.1.Hi-k.1.2.1.Lo))) fun y=>
 .cc (bz5 (max w y) j.2.1) fun z=>
 .br (decide (z>i))
 (.ret ((-1),true))
 (.name 12004 ((i64.wrap (t- (i64.wrap (z * z))))) fun aa=>
 .lit 8001 (2)<|
 .known true<|
 .ix 2 3 rfl<|
 .ix 2 3 rfl<|
 .cc (hz8 (i64.wrap (j.1.2.2.Lo-k.1.2.2.Hi))) fun ab=>
 .ix 2 3 rfl<|
 .ix 2 3 rfl<|
 .cc (hz8 (i64.wrap (j.1.2.2.Hi-k.1.2.2.Lo))) fun ac=>
 .cc (bz5 (max ab ac) j.2.1) fun ad=>
 .br (decide (ad>i))
 (.ret ((-1),true))
 (.name 12004 ((i64.wrap (aa- (i64.wrap (ad * ad))))) fun ae=>
 .lit 8001 (3)<|
 .known false<|
 .ret (ae,true)))))
noncomputable def lzw (c)(d)(e)(f)(g)(h):=
 mkD Tryz.func160 (izb c d e f g h) 0 [.pure (encL 1 az3 c),.pure (encL 1 az3 d),.pure (encL 6 az2 e),pz f,.pure (encL 6 az2 g),pz h] [] (fun r=>.tup [pz r.1,.pure (.bool r.2)]) (fun _=>[])
noncomputable def gzh (c:A0)(d:A0)(e:Az)(f:Int)(g:Az)(h:Int):T Bool:=
 .cc (lzw c d e f g h) fun i=>
 .br i.2
 (.ret (decide (i.1≥0)))
 (.ret false)
noncomputable def fz7 (c)(d)(e)(f)(g)(h):=
 mkD Tryz.func114 (gzh c d e f g h) 0 [.pure (encL 1 az3 c),.pure (encL 1 az3 d),.pure (encL 6 az2 e),pz f,.pure (encL 6 az2 g),pz h] [] (fun r=>.pure (.bool r)) (fun _=>[])
noncomputable def nz5 (c:azg)(d:Ag)(e:Av):T dza:=let f:=encL 3 az1 e;let g:=(e.length:Nat);.cc (Czx c d) fun h=>let i:=encL 2 bzv h.1;let j:=encL 2 bzv h.2.1;
 .br (!h.2.2)
 (.ret (⟨0,nl,(⟨0,nl,nl⟩:bz1)⟩:dza))
 (.loop (fun (k:(Int×Av×Int))=>⟨[(2,.pure f),(6,.ptr 0 0),(7,.pure i),(8,.pure j),(10,.ptr 4 0),(11,pz k.2.2)],[(0,.box [pz 0,.vec 1,pz 0,.vec 2,.vec 3]),(1,.nilv),(2,.nilv),(3,.nilv),(4,.box [pz k.1,.vec 5,pz 0,.vec 6,.vec 7]),(5,vecO 3 az1 k.2.1 78),(6,.nilv),(7,.nilv)],[],8⟩)
 (.exit 0) (fun (k:(Int×Av))=>⟨[(6,.ptr 0 0),(10,.ptr 4 0)],[(0,.box [pz 0,.vec 1,pz 0,.vec 2,.vec 3]),(1,.nilv),(2,.nilv),(3,.nilv),(4,.box [pz k.1,.vec 5,pz 0,.vec 6,.vec 7]),(5,vecO 3 az1 k.2 78),(6,.nilv),(7,.nilv)],[],8⟩)
 (fun k=>let m:=(k.2.2).toNat;let n:=i64.wrap (k.2.2+1);let q:=h.1.getD m default;let s:=q.points;let t:=q.radius;let w:=h.2.1.getD m default;let y:=w.points;let z:=w.radius;.br (decide (k.2.2<(h.1.length:Int)))
 (.cut 0 (fun (aa:(Int×Av))=>⟨[(2,.pure f),(6,.ptr 0 0),(7,.pure i),(8,.pure j),(10,.ptr 4 0),(11,pz k.2.2)],[(0,.box [pz 0,.vec 1,pz 0,.vec 2,.vec 3]),(1,.nilv),(2,.nilv),(3,.nilv),(4,.box [pz aa.1,.vec 5,pz 0,.vec 6,.vec 7]),(5,vecO 3 az1 aa.2 78),(6,.nilv),(7,.nilv)],[],8⟩)
 (.cut 1 (fun (aa:Av)=>⟨[(2,.pure f),(6,.ptr 0 0),(7,.pure i),(8,.pure j),(10,.ptr 4 0),(11,pz k.2.2),(12,.pure (encL 3 az1 aa))],[(0,.box [pz 0,.vec 1,pz 0,.vec 2,.vec 3]),(1,.nilv),(2,.nilv),(3,.nilv),(4,.box [pz k.1,.vec 5,pz 0,.vec 6,.vec 7]),(5,vecO 3 az1 k.2.1 78),(6,.nilv),(7,.nilv)],[],8⟩)
 (.br (decide (k.2.2<(g:Int)))
 (.conv 10004 (Xz3 3 az1 e k.2.2 n)<|
 .grd (0≤k.2.2/\k.2.2≤n/\n≤(g:Int))<|
 .oo ((e.drop m).take (n.toNat- (k.2.2).toNat)))
 (.oo nl)) fun aa=>
 .gh k.2.2 h.1.length<|
 .gh k.2.2 h.1.length<|
 .gh k.2.2 h.2.1.length<|
 .gh k.2.2 h.2.1.length<|
 .cc (qzk s t y z aa) fun ab=>let ac:=([ab.1]:Av);let ad:=k.2.1++ac;let ae:=k.2.1.length+ac.length;
 .conv 12003 (czi 3 az1 ac 78)<|
 .conv 12004 (ezf 3 az1 k.2.1 ac 78)<|
 .grd (ae * 24≤140737488355328/\ae≤maxLen)<|
 .br ab.2
 (.oo (k.1,ad))
 (.gh k.2.2 h.1.length<|
 .cc (dzm s) fun af=>
 .gh k.2.2 h.2.1.length<|
 .cc (dzm y) fun ag=>
 .gh k.2.2 h.1.length<|
 .gh k.2.2 h.2.1.length<|
 .call (ezt af ag (i64.wrap (t+z)) 64) [] fun ah=>
 .gh k.2.2 h.1.length<|
 .gh k.2.2 h.1.length<|
 .gh k.2.2 h.2.1.length<|
 .gh k.2.2 h.2.1.length<|
 .cc (fz7 ah.Left ah.Right s t y z) fun ai=>
 .br ai
 (.ff (.fin (⟨2,nl,(⟨k.2.2,ah.Left,ah.Right⟩:bz1)⟩:dza)))
 (.oo (0,ad)))) fun aa=>
 .nn (aa.1,aa.2,n))
 (.oo (k.1,k.2.1)))
 (1,nl,0) [] fun k=>
 .ret (⟨k.1,k.2,(⟨0,nl,nl⟩:bz1)⟩:dza))
noncomputable def wz0 (c)(d)(e):=
 mkD Tryz.func74 (nz5 c d e) 0 [.pure (cze c),.pure (encL 2 aza d),.pure (encL 3 az1 e)] [] (fun r=>.pure (tzz r)) (fun _=>[])
set_option maxHeartbeats 8000000 in
set_option maxRecDepth 20000 in
noncomputable def kzb (a0:azg)(a1:A0)(a2:A0)(a3:Int):T azi:=
 .cut 2 (fun (y141:Bool)=>⟨[(1,.pure (encL 1 az3 a1)),(2,.pure (encL 1 az3 a2)),(3,pz a3),(4,.ptr 0 0),(8,.ptr 1 0),(28,.pure (.bool y141))],[(0,.box [.pure (encL 12 azd a0.Robot.Joints),.pure (encL 5 azj a0.Robot.Masses),.pure (encL 3 azo a0.Shapes),.pure (encL 2 bz4 a0.Skips)]),(1,.box [pz 0,.vec 2,pz 0,pz 0,.vec 3,pz 0,.vec 4,.vec 5]),(2,.nilv),(3,.nilv),(4,.nilv),(5,.nilv)],[],6⟩)
 (.call (Czz (⟨a0.Robot,a0.Shapes,a0.Skips⟩:azg) a1 a2) [] fun y142=>
 .br (!y142)
 (.ret (.out true))
 (.br (decide (a3<0))
 (.ret (.out true))
 (.ret (.out (decide (a3>20)))))) fun y141=>
 .br y141
 (.ret (⟨0,nl,(⟨0,0,nl⟩:azk),(⟨0,nl,nl⟩:bz1)⟩:azi))
 (.conv 4001 (Uz4 3 hz1 ([(⟨0,0,nl⟩:azu)]:Am) 127 [.agg [.int .i64 0,.int .i64 0,.lst 0 0 fun _=>.unk]] (by kernel_rfl))<|
 .loop (fun (x227:(Ab×Am))=>⟨[(1,.pure (encL 1 az3 a1)),(2,.pure (encL 1 az3 a2)),(3,pz a3),(4,.ptr 0 0),(8,.ptr 1 0),(9,.vec 6),(10,.vec 7)],[(0,.box [.pure (encL 12 azd a0.Robot.Joints),.pure (encL 5 azj a0.Robot.Masses),.pure (encL 3 azo a0.Shapes),.pure (encL 2 bz4 a0.Skips)]),(1,.box [pz 0,.vec 2,pz 0,pz 0,.vec 3,pz 0,.vec 4,.vec 5]),(2,.nilv),(3,.nilv),(4,.nilv),(5,.nilv),(6,vecO 3 azy x227.1 58),(7,vecO 3 hz1 x227.2 127)],[],8⟩)
 (.exit 0) (fun (y248:Ab)=>⟨[(8,.ptr 0 0),(9,.vec 5)],[(0,.box [pz 0,.vec 1,pz 0,pz 0,.vec 2,pz 0,.vec 3,.vec 4]),(1,.nilv),(2,.nilv),(3,.nilv),(4,.nilv),(5,vecO 3 azy y248 58)],[],6⟩)
 (fun x227=>.br (decide ((x227.2.length:Int)>0))
 (.grd (0≤(i64.wrap ((x227.2.length:Int)-1))/\(i64.wrap ((x227.2.length:Int)-1))<(x227.2.length:Int))<|
 .grd (((i64.wrap ((x227.2.length:Int)-1))).toNat<x227.2.length)<|
 .conv 7004 (Xz4 3 hz1 x227.2 127 (i64.wrap ((x227.2.length:Int)-1)))<|
 .grd (0≤(i64.wrap ((x227.2.length:Int)-1))/\(i64.wrap ((x227.2.length:Int)-1))≤(x227.2.length:Int)/\0≤((i64.wrap ((x227.2.length:Int)-1))).toNat)<|
 .name 8001 ((x227.2.getD (((i64.wrap ((x227.2.length:Int)-1))).toNat) default).depth) fun z251=>
 .name 8003 ((x227.2.getD (((i64.wrap ((x227.2.length:Int)-1))).toNat) default).index) fun z252=>
 .br (decide ((x227.1.length:Int)≥4096))
 (.ret (.fin (⟨0,nl,(⟨z251,z252,nl⟩:azk),(⟨0,nl,nl⟩:bz1)⟩:azi)))
 (.name 11003 ((x227.2.getD (((i64.wrap ((x227.2.length:Int)-1))).toNat) default).depth) fun z256=>
 .name 11005 ((x227.2.getD (((i64.wrap ((x227.2.length:Int)-1))).toNat) default).index) fun z257=>
 .call (Czt a1 a2 z256 z257) [] fun y258=>
 .call (wz0 (⟨a0.Robot,a0.Shapes,a0.Skips⟩:azg) y258.1 ((x227.2.getD (((i64.wrap ((x227.2.length:Int)-1))).toNat) default).hints)) [] fun y260=>
 .br (y260.Kind==1)
 (.name 15002 ((x227.2.getD (((i64.wrap ((x227.2.length:Int)-1))).toNat) default).depth) fun z261=>
 .name 15004 ((x227.2.getD (((i64.wrap ((x227.2.length:Int)-1))).toNat) default).index) fun z262=>
 .conv 15008 (czi 3 azy ([(⟨z261,z262,y260.Normals⟩:azk)]:Ab) 58)<|
 .conv 15009 (ezf 3 azy x227.1 ([(⟨z261,z262,y260.Normals⟩:azk)]:Ab) 58)<|
 .grd ((x227.1.length+([(⟨z261,z262,y260.Normals⟩:azk)]:Ab).length) * 40≤140737488355328/\(x227.1.length+([(⟨z261,z262,y260.Normals⟩:azk)]:Ab).length)≤maxLen)<|
 .ret (.next ((x227.1++([(⟨z261,z262,y260.Normals⟩:azk)]:Ab)),(x227.2.take (((i64.wrap ((x227.2.length:Int)-1))).toNat)))))
 (.br (y260.Kind==2)
 (.ret (.fin (⟨2,nl,(⟨z251,z252,nl⟩:azk),y260.Witness⟩:azi)))
 (.name 18001 ((x227.2.getD (((i64.wrap ((x227.2.length:Int)-1))).toNat) default).depth) fun z264=>
 .br (z264==a3)
 (.ret (.fin (⟨0,nl,(⟨z251,z252,nl⟩:azk),(⟨0,nl,nl⟩:bz1)⟩:azi)))
 (.name 13002 ((x227.2.getD (((i64.wrap ((x227.2.length:Int)-1))).toNat) default).depth) fun z265=>
 .name 13005 ((x227.2.getD (((i64.wrap ((x227.2.length:Int)-1))).toNat) default).index) fun z266=>
 .name 13012 ((x227.2.getD (((i64.wrap ((x227.2.length:Int)-1))).toNat) default).depth) fun z267=>
 .name 13015 ((x227.2.getD (((i64.wrap ((x227.2.length:Int)-1))).toNat) default).index) fun z268=>
 .conv 13020 (czi 3 hz1 ([(⟨(i64.wrap (z265+1)),(i64.wrap ((i64.wrap (2 * z266))+1)),y260.Normals⟩:azu),(⟨(i64.wrap (z267+1)),(i64.wrap (2 * z268)),y260.Normals⟩:azu)]:Am) 127)<|
 .conv 13021 (ezf 3 hz1 (x227.2.take (((i64.wrap ((x227.2.length:Int)-1))).toNat)) ([(⟨(i64.wrap (z265+1)),(i64.wrap ((i64.wrap (2 * z266))+1)),y260.Normals⟩:azu),(⟨(i64.wrap (z267+1)),(i64.wrap (2 * z268)),y260.Normals⟩:azu)]:Am) 127)<|
 .grd (((x227.2.take (((i64.wrap ((x227.2.length:Int)-1))).toNat)).length+([(⟨(i64.wrap (z265+1)),(i64.wrap ((i64.wrap (2 * z266))+1)),y260.Normals⟩:azu),(⟨(i64.wrap (z267+1)),(i64.wrap (2 * z268)),y260.Normals⟩:azu)]:Am).length) * 40≤140737488355328/\((x227.2.take (((i64.wrap ((x227.2.length:Int)-1))).toNat)).length+([(⟨(i64.wrap (z265+1)),(i64.wrap ((i64.wrap (2 * z266))+1)),y260.Normals⟩:azu),(⟨(i64.wrap (z267+1)),(i64.wrap (2 * z268)),y260.Normals⟩:azu)]:Am).length)≤maxLen)<|
 .ret (.next (x227.1,((x227.2.take (((i64.wrap ((x227.2.length:Int)-1))).toNat))++([(⟨(i64.wrap (z265+1)),(i64.wrap ((i64.wrap (2 * z266))+1)),y260.Normals⟩:azu),(⟨(i64.wrap (z267+1)),(i64.wrap (2 * z268)),y260.Normals⟩:azu)]:Am)))))))))
 (.ret (.out x227.1)))
 (nl,([(⟨0,0,nl⟩:azu)]:Am)) [] fun y248=>
 .ret (⟨1,y248,(⟨0,0,nl⟩:azk),(⟨0,nl,nl⟩:bz1)⟩:azi))
noncomputable def Czy (c)(d)(e)(f):=
 mkD Tryz.func43 (kzb c d e f) 0 [.pure (cze c),.pure (encL 1 az3 d),.pure (encL 1 az3 e),pz f] [] (fun r=>.pure (dzg r)) (fun _=>[])
noncomputable def yz3 (c:az9)(d:Int)(e:azi):T (az9×Bool):=let f:=d.toNat;let g:=c.Edges.getD f default;let h:Nat×Res:=(0,.box [.pure (encL 1 (encL 1 az3) c.Points),.pure (encL 12 az5 c.Edges)]);let i:Nat×Res:=(1,.box [pz e.Kind,.pure (encL 3 azy e.Pieces),pz e.At.Depth,pz e.At.Index,.pure (encL 3 az1 e.At.Normals),pz e.Witness.Pair,.pure (encL 1 az3 e.Witness.Left),.pure (encL 1 az3 e.Witness.Right)]);.cut 2 (fun (j:Bool)=>⟨[(1,pz d),(3,.ptr 0 0),(5,.ptr 1 0),(6,.ptr 2 0),(36,.pure (.bool j))],[h,i,(2,.box [.vec 3,.vec 4]),(3,.nilv),(4,.nilv)],[],5⟩)
 (.br (decide (d<0))
 (.oo true)
 (.br (decide (d≥(c.Edges.length:Int)))
 (.oo true)
 (.gh d c.Edges.length<|
 .br ((g.State)==1)
 (.oo true)
 (.gh d c.Edges.length<|
 .oo ((g.State)==2))))) fun j=>
 .br j
 (.ret (c,false))
 (.cut 1 (fun (k:Int)=>⟨[(1,pz d),(3,.ptr 0 0),(5,.ptr 1 0),(6,.ptr 2 0),(8,pz k)],[h,i,(2,.box [.vec 3,.vec 4]),(3,.nilv),(4,.nilv)],[],5⟩)
 (.br (e.Kind==1)
 (.oo 1)
 (.br (e.Kind==2)
 (.oo 2)
 (.br (e.Kind==0)
 (.oo 3)
 (.ff (c,false))))) fun k=>let m:=(⟨g.U,g.V,g.Cost,k,g.Proof⟩:az4);let n:=c.Edges.set f m;let q:=n.getD f default;let s:=(⟨q.U,q.V,q.Cost,q.State,e⟩:az4);
 .grd (c.Edges.length * 160≤140737488355328/\c.Edges.length≤maxLen)<|
 .gh d c.Edges.length<|
 .conv 12010 (fzg 12 az5 c.Edges 65 f m)<|
 .gi (d) c.Edges.length<|
 .gh d (n.length)<|
 .conv 12013 (fzg 12 az5 n 65 f s)<|
 .gi (d) (n.length)<|
 .ret ((⟨c.Points,(n.set f s)⟩:az9),true))
noncomputable def yz2 (c)(d)(e):=
 mkD Tryz.func42 (yz3 c d e) 0 [.pure (bz7 c),pz d,.pure (dzg e)] [] (fun r=>.tup [.pure (bz7 r.1),.pure (.bool r.2)]) (fun _=>[])
noncomputable def yz6 (c:azg)(d:az9)(e:Int)(f:Int):T (az9×Bool):=let g:=d.Edges.getD (e.toNat) default;let h:=(⟨d.Points,d.Edges⟩:az9);.cut 2 (fun (i:Bool)=>⟨[(2,pz e),(3,pz f),(4,.ptr 0 0),(5,.ptr 1 0),(8,.ptr 2 0),(46,.pure (.bool i))],[(0,.box [.pure (encL 12 azd c.Robot.Joints),.pure (encL 5 azj c.Robot.Masses),.pure (encL 3 azo c.Shapes),.pure (encL 2 bz4 c.Skips)]),(1,.box [.pure (encL 1 (encL 1 az3) d.Points),.pure (encL 12 az5 d.Edges)]),(2,.box [.vec 3,.vec 4]),(3,.nilv),(4,.nilv)],[],5⟩)
 (.br (decide (e<0))
 (.oo true)
 (.br (decide (e≥(d.Edges.length:Int)))
 (.oo true)
 (.gh e d.Edges.length<|
 .cc (Dz5 h g) fun i=>
 .br (!i)
 (.oo true)
 (.gh e d.Edges.length<|
 .br ((g.State)==1)
 (.oo true)
 (.gh e d.Edges.length<|
 .oo ((g.State)==2)))))) fun i=>
 .br i
 (.ret (h,false))
 (.gh e d.Edges.length<|
 .gh (g.U) d.Points.length<|
 .gh e d.Edges.length<|
 .gh (g.V) d.Points.length<|
 .call (Czy (⟨c.Robot,c.Shapes,c.Skips⟩:azg) (d.Points.getD ((g.U).toNat) default) (d.Points.getD ((g.V).toNat) default) f) [] fun j=>
 .cc (yz2 h e j) fun k=>
 .ret (k.1,k.2))
noncomputable def yz5 (c)(d)(e)(f):=
 mkD Tryz.func16 (yz6 c d e f) 0 [.pure (cze c),.pure (bz7 d),pz e,pz f] [] (fun r=>.tup [.pure (bz7 r.1),.pure (.bool r.2)]) (fun _=>[])
noncomputable def izr (c:A0)(d:A0)(e:Int)(f:Int)(g:Int)(h:Int):T Bool:=
 .cc (jz1 c) fun i=>
 .cc (bzp e 5) fun j=>
 .cc (rzk i.Robot (i64.wrap (2+j)) d) fun k=>
 .cc (bzp f 2) fun m=>
 .cc (lzz i.Robot k (i64.wrap (1+m))) fun n=>let q:=(n.Points.length:Nat);
 .cc (bzp g (q:Int)) fun s=>
 .cc (bzp h (q:Int)) fun t=>
 .cc (hzr i n s t 3 100) fun w=>let y:=encL 1 az3 w.2.1.Vertices;
 .loop (fun (z:(A1×A7×Int))=>⟨[(13,.ptr 0 0),(15,pz s),(16,pz t),(18,.ptr 1 0),(19,pz w.2.2.1),(21,.ptr 2 0),(22,pz z.2.2)],[(0,.box [.pure (encL 12 azd i.Robot.Joints),.pure (encL 5 azj i.Robot.Masses),.pure (encL 3 azo i.Shapes),.pure (encL 2 bz4 i.Skips)]),(1,.box [.pure y,pz w.2.1.Cost]),(2,.box [.pure (encL 1 (encL 1 az3) z.1),.pure (encL 12 az5 z.2.1)])],[],3⟩)
 (.exit 0) (fun (z:A8)=>⟨[(15,pz s),(16,pz t),(18,.ptr 0 0),(19,pz w.2.2.1),(21,.ptr 1 0)],[(0,.box [.pure y,pz w.2.1.Cost]),(1,.box [.pure (encL 1 (encL 1 az3) z.1),.pure (encL 12 az5 z.2)])],[],2⟩)
 (fun z=>.br (decide (z.2.2<(z.2.1.length:Int)))
 (.cc (yz5 (⟨i.Robot,i.Shapes,i.Skips⟩:azg) (⟨z.1,z.2.1⟩:az9) z.2.2 3) fun aa=>
 .nn (aa.1.Points,aa.1.Edges,(i64.wrap (z.2.2+1))))
 (.oo (z.1,z.2.1)))
 (n.Points,n.Edges,0) [] fun z=>
 .cc (fz8 (⟨z.1,z.2⟩:az9) s t 0) fun aa=>
 .cc (nzv) fun ab=>
 .br ab
 (.br ((w.2.2.1==1)==aa.2)
 (.br ((w.2.2.1==2)==(!aa.2))
 (.cc (dzr (⟨w.2.1.Vertices,w.2.1.Cost⟩:bzf) aa.1) fun ac=>
 .ret ac)
 (.ret false))
 (.ret false))
 (.ret false)
noncomputable def dzv (c)(d)(e)(f)(g)(h):=
 mkD Tryz.func4 (izr c d e f g h) 0 [.pure (encL 1 az3 c),.pure (encL 1 az3 d),pz e,pz f,pz g,pz h] [] (fun r=>.pure (.bool r)) (fun _=>[])
noncomputable def ozz (c:az9):T Bool:=
 .br (decide ((c.Points.length:Int)≤30))
 (.ret (decide ((c.Edges.length:Int)≤60)))
 (.ret false)
noncomputable def xz6 (c):=
 mkD Tryz.func7 (ozz c) 0 [.pure (bz7 c)] [] (fun r=>.pure (.bool r)) (fun _=>[])
noncomputable def lz1 (c:azg):T Bool:=
 .br (decide ((c.Robot.Joints.length:Int)≤4))
 (.br (decide ((c.Robot.Masses.length:Int)≤6))
 (.br (decide ((c.Shapes.length:Int)≤6))
 (.ret (decide ((c.Skips.length:Int)≤8)))
 (.ret false))
 (.ret false))
 (.ret false)
noncomputable def tza (c):=
 mkD Tryz.func8 (lz1 c) 0 [.pure (cze c)] [] (fun r=>.pure (.bool r)) (fun _=>[])
noncomputable def sz7 (c:az9)(d:Int)(e:Int):T Int:=let f:Nat×Res:=(0,.box [.pure (encL 1 (encL 1 az3) c.Points),.pure (encL 12 az5 c.Edges)]);.loop (fun (g:Int)=>⟨[(1,pz d),(2,pz e),(3,.ptr 0 0),(7,pz g)],[f],[],1⟩)
 (.exit 0) (fun (_:U0)=>⟨[],[],[],0⟩)
 (fun g=>let h:=c.Edges.getD (g.toNat) default;.br (decide (g<(c.Edges.length:Int)))
 (.cut 1 (fun (i:Bool)=>⟨[(1,pz d),(2,pz e),(3,.ptr 0 0),(7,pz g),(36,.pure (.bool i))],[f],[],1⟩)
 (.gh g c.Edges.length<|
 .br ((h.U)==(min d e))
 (.gh g c.Edges.length<|
 .oo ((h.V)==(max d e)))
 (.oo false)) fun i=>
 .br i
 (.ff g)
 (.nn (i64.wrap (g+1))))
 (.oo .u))
 0 [] fun _=>
 .ret (-1)
noncomputable def lzy (c)(d)(e):=
 mkD Tryz.func93 (sz7 c d e) 0 [.pure (bz7 c),pz d,pz e] [] (fun r=>pz r) (fun _=>[])
noncomputable def yz4 (c:az9)(d:Int)(e:Int):T (Int×bzf×Int):=
 .cc (oz2 c d e) fun f=>
 .br (!f)
 (.ret ((-1),(⟨nl,0⟩:bzf),0))
 (.cc (fz8 c d e 1) fun g=>let h:=encL 1 az3 g.1.Vertices;
 .br (!g.2)
 (.ret ((-1),(⟨nl,0⟩:bzf),2))
 (.loop (fun (i:Int)=>⟨[(3,.ptr 0 0),(7,.ptr 1 0),(9,.ptr 3 0),(11,pz i)],[(0,.box [.pure (encL 1 (encL 1 az3) c.Points),.pure (encL 12 az5 c.Edges)]),(1,.box [.vec 2,pz 0]),(2,.nilv),(3,.box [.pure h,pz g.1.Cost])],[],4⟩)
 (.exit 0) (fun (_:U0)=>⟨[(7,.ptr 0 0),(9,.ptr 2 0)],[(0,.box [.vec 1,pz 0]),(1,.nilv),(2,.box [.pure h,pz g.1.Cost])],[],3⟩)
 (fun i=>let j:=i64.wrap (i-1);.br (decide (i<(g.1.Vertices.length:Int)))
 (.gh j g.1.Vertices.length<|
 .gh i g.1.Vertices.length<|
 .call (lzy c (g.1.Vertices.getD (j.toNat) default) (g.1.Vertices.getD (i.toNat) default)) [] fun k=>
 .gh k c.Edges.length<|
 .br (((c.Edges.getD (k.toNat) default).State)==0)
 (.ff (k,g.1,3))
 (.nn (i64.wrap (i+1))))
 (.oo .u))
 1 [] fun _=>
 .ret ((-1),g.1,1)))
noncomputable def qzn (c)(d)(e):=
 mkD Tryz.func65 (yz4 c d e) 0 [.pure (bz7 c),pz d,pz e] [] (fun r=>.tup [pz r.1,.pure (ozm r.2.1),pz r.2.2]) (fun _=>[])
noncomputable def mzg (c:azg)(d:az9)(e:Int)(f:Int)(g:Int)(h:Int):T B8:=
 .cc (ezw c) fun i=>
 .br (i !=0)
 (.ret (d,(⟨nl,0⟩:bzf),0,0))
 (.loop (fun (j:(A1×A7×Int))=>⟨[(2,pz e),(3,pz f),(4,pz g),(5,pz h),(6,.ptr 0 0),(7,.ptr 1 0),(12,.ptr 2 0),(13,.ptr 5 0),(16,pz j.2.2)],[(0,.box [.pure (encL 12 azd c.Robot.Joints),.pure (encL 5 azj c.Robot.Masses),.pure (encL 3 azo c.Shapes),.pure (encL 2 bz4 c.Skips)]),(1,.box [.pure (encL 1 (encL 1 az3) j.1),.pure (encL 12 az5 j.2.1)]),(2,.box [.vec 3,.vec 4]),(3,.nilv),(4,.nilv),(5,.box [.vec 6,pz 0]),(6,.nilv)],[],7⟩)
 .ret (fun (_:U0)=>⟨[],[],[],0⟩)
 (fun j=>let k:=(⟨j.1,j.2.1⟩:az9);.cc (qzn k e f) fun m=>
 .br (m.2.2 !=3)
 (.ff (k,m.2.1,m.2.2,j.2.2))
 (.br (decide (j.2.2≥h))
 (.ff (k,m.2.1,4,j.2.2))
 (.cc (yz5 (⟨c.Robot,c.Shapes,c.Skips⟩:azg) k m.1 g) fun n=>
 .nn (n.1.Points,n.1.Edges,(i64.wrap (j.2.2+1))))))
 (d.Points,d.Edges,0) [] fun _=>
 .stop)
noncomputable def yz1 (c)(d)(e)(f)(g)(h):=
 mkD Tryz.func36 (mzg c d e f g h) 0 [.pure (cze c),.pure (bz7 d),pz e,pz f,pz g,pz h] [] (fun r=>.tup [.pure (bz7 r.1),.pure (ozm r.2.1),pz r.2.2.1,pz r.2.2.2]) (fun _=>[])
noncomputable def wzy (c:azg)(d:az9)(e:Int)(f:Int)(g:Int)(h:Int):T Bool:=
 .cc (hzr c d e f g h) fun i=>
 .cc (yz1 (⟨c.Robot,c.Shapes,c.Skips⟩:azg) (⟨d.Points,d.Edges⟩:az9) e f g h) fun j=>
 .br (i.2.2.1==j.2.2.1)
 (.br (i.2.2.2==j.2.2.2)
 (.cc (dzr i.2.1 j.2.1) fun k=>
 .br k
 (.cc (iz5 i.1 j.1) fun m=>
 .ret m)
 (.ret false))
 (.ret false))
 (.ret false)
noncomputable def qza (c)(d)(e)(f)(g)(h):=
 mkD Tryz.func14 (wzy c d e f g h) 0 [.pure (cze c),.pure (bz7 d),pz e,pz f,pz g,pz h] [] (fun r=>.pure (.bool r)) (fun _=>[])
noncomputable def jzj (c:azg)(d:az9)(e:Int)(f:Int)(g:A0)(h:A0)(i:Int)(j:Int)(k:Int)(m:Int):T Bool:=let n:=(⟨d.Points,d.Edges⟩:az9);.cut 2 (fun (q:Bool)=>⟨[(2,pz e),(3,pz f),(4,.pure (encL 1 az3 g)),(5,.pure (encL 1 az3 h)),(6,pz i),(7,pz j),(8,pz k),(9,pz m),(10,.ptr 0 0),(11,.ptr 1 0),(34,.pure (.bool q))],[(0,.box [.pure (encL 12 azd c.Robot.Joints),.pure (encL 5 azj c.Robot.Masses),.pure (encL 3 azo c.Shapes),.pure (encL 2 bz4 c.Skips)]),(1,.box [.pure (encL 1 (encL 1 az3) d.Points),.pure (encL 12 az5 d.Edges)])],[],2⟩)
 (.cc (xz6 d) fun q=>
 .br (!q)
 (.oo true)
 (.cc (tza c) fun s=>
 .oo (!s))) fun q=>
 .br q
 (.cc (nzv) fun s=>
 .ret s)
 (.cc (jz1 g) fun s=>let t:=(⟨s.Robot,s.Shapes,s.Skips⟩:azg);
 .cc (bzp i 6) fun w=>
 .cc (rzk s.Robot (i64.wrap (2+w)) h) fun y=>
 .cc (bzp j 3) fun z=>
 .cc (lzz s.Robot y (i64.wrap (1+z))) fun aa=>let ab:=(aa.Points.length:Nat);
 .cc (bzp e (ab:Int)) fun ac=>
 .cc (bzp f (ab:Int)) fun ad=>
 .cc (bzp k 5) fun ae=>
 .cc (bzp m 12) fun af=>let ag:=i64.wrap (af-1);
 .cc (nzv) fun ah=>
 .br ah
 (.cc (qza (⟨c.Robot,c.Shapes,c.Skips⟩:azg) n e f ae ag) fun ai=>
 .br ai
 (.cc (qza t n ac ad ae ag) fun aj=>
 .br aj
 (.cc (qza t (⟨aa.Points,aa.Edges⟩:az9) ac ad ae ag) fun ak=>
 .ret ak)
 (.ret false))
 (.ret false))
 (.ret false))
noncomputable def ezd (c)(d)(e)(f)(g)(h)(i)(j)(k)(m):=
 mkD Tryz.func3 (jzj c d e f g h i j k m) 0 [.pure (cze c),.pure (bz7 d),pz e,pz f,.pure (encL 1 az3 g),.pure (encL 1 az3 h),pz i,pz j,pz k,pz m] [] (fun r=>.pure (.bool r)) (fun _=>[])
end Go.Abs
