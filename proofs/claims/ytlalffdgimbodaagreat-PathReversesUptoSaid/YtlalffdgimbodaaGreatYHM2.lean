/-
  M2 (a part of a claim: our own text).
-/
import Derived.Test.YtlalffdgimbodaaGreatYHM1
namespace Go.Abs
open IntKind (i64)
open Go.Proofs
set_option maxHeartbeats 8000000 in
set_option maxRecDepth 20000 in
noncomputable def mzy (c:Av)(d:Av):T Av:=
 .unroll 4<|
 .known true<|
 .unroll 4<|
 .known true<|
 .unroll 4<|
 .known true<|
 .ix 0 3 rfl<|
 .ix 0 3 rfl<|
 .ix 0 3 rfl<|
 .ix 0 3 rfl<|
 .cc (azl c.1.1 d.1.1) fun e=>
 .cc (azi (⟨0,0⟩:az0) e) fun f=>
 .lit 13000 (1)<|
 .known true<|
 .ix 0 3 rfl<|
 .ix 1 3 rfl<|
 .ix 1 3 rfl<|
 .ix 0 3 rfl<|
 .cc (azl c.1.2.1 d.2.1.1) fun g=>
 .cc (azi f g) fun h=>
 .lit 13000 (2)<|
 .known true<|
 .ix 0 3 rfl<|
 .ix 2 3 rfl<|
 .ix 2 3 rfl<|
 .ix 0 3 rfl<|
 .cc (azl c.1.2.2 d.2.2.1) fun i=>
 .cc (azi h i) fun j=>
 .lit 13000 (3)<|
 .known false<|
 .cc (bz0 j.Lo) fun k=>
 .cc (bz0 j.Hi) fun m=>
 .ix 0 3 rfl<|
 .ix 0 3 rfl<|
 .lit 15000 (1)<|
 .known true<|
 .unroll 4<|
 .known true<|
 .ix 0 3 rfl<|
 .ix 0 3 rfl<|
 .ix 0 3 rfl<|
 .ix 1 3 rfl<|
 .cc (azl c.1.1 d.1.2.1) fun n=>
 .cc (azi (⟨0,0⟩:az0) n) fun s=>
 .lit 13000 (1)<|
 .known true<|
 .ix 0 3 rfl<|
 .ix 1 3 rfl<|
 .ix 1 3 rfl<|
 .ix 1 3 rfl<|
 .cc (azl c.1.2.1 d.2.1.2.1) fun t=>
 .cc (azi s t) fun w=>
 .lit 13000 (2)<|
 .known true<|
 .ix 0 3 rfl<|
 .ix 2 3 rfl<|
 .ix 2 3 rfl<|
 .ix 1 3 rfl<|
 .cc (azl c.1.2.2 d.2.2.2.1) fun y=>
 .cc (azi w y) fun z=>
 .lit 13000 (3)<|
 .known false<|
 .cc (bz0 z.Lo) fun aa=>
 .cc (bz0 z.Hi) fun ab=>
 .ix 0 3 rfl<|
 .ix 1 3 rfl<|
 .lit 15000 (2)<|
 .known true<|
 .unroll 4<|
 .known true<|
 .ix 0 3 rfl<|
 .ix 0 3 rfl<|
 .ix 0 3 rfl<|
 .ix 2 3 rfl<|
 .cc (azl c.1.1 d.1.2.2) fun ac=>
 .cc (azi (⟨0,0⟩:az0) ac) fun ad=>
 .lit 13000 (1)<|
 .known true<|
 .ix 0 3 rfl<|
 .ix 1 3 rfl<|
 .ix 1 3 rfl<|
 .ix 2 3 rfl<|
 .cc (azl c.1.2.1 d.2.1.2.2) fun ae=>
 .cc (azi ad ae) fun af=>
 .lit 13000 (2)<|
 .known true<|
 .ix 0 3 rfl<|
 .ix 2 3 rfl<|
 .ix 2 3 rfl<|
 .ix 2 3 rfl<|
 .cc (azl c.1.2.2 d.2.2.2.2) fun ag=>
 .cc (azi af ag) fun ah=>
 .lit 13000 (3)<|
 .known false<|
 .cc (bz0 ah.Lo) fun ai=>
 .cc (bz0 ah.Hi) fun aj=>
 .ix 0 3 rfl<|
 .ix 2 3 rfl<|
 .lit 15000 (3)<|
 .known false<|
 .lit 16000 (1)<|
 .known true<|
 .unroll 4<|
 .known true<|
 .unroll 4<|
 .known true<|
 .ix 1 3 rfl<|
 .ix 0 3 rfl<|
 .ix 0 3 rfl<|
 .ix 0 3 rfl<|
 .cc (azl c.2.1.1 d.1.1) fun ak=>
 .cc (azi (⟨0,0⟩:az0) ak) fun al=>
 .lit 13000 (1)<|
 .known true<|
 .ix 1 3 rfl<|
 .ix 1 3 rfl<|
 .ix 1 3 rfl<|
 .ix 0 3 rfl<|
 .cc (azl c.2.1.2.1 d.2.1.1) fun am=>
 .cc (azi al am) fun an=>
 .lit 13000 (2)<|
 .known true<|
 .ix 1 3 rfl<|
 .ix 2 3 rfl<|
 .ix 2 3 rfl<|
 .ix 0 3 rfl<|
 .cc (azl c.2.1.2.2 d.2.2.1) fun ao=>
 .cc (azi an ao) fun ap=>
 .lit 13000 (3)<|
 .known false<|
 .cc (bz0 ap.Lo) fun aq=>
 .cc (bz0 ap.Hi) fun ar=>
 .ix 1 3 rfl<|
 .ix 0 3 rfl<|
 .lit 15000 (1)<|
 .known true<|
 .unroll 4<|
 .known true<|
 .ix 1 3 rfl<|
 .ix 0 3 rfl<|
 .ix 0 3 rfl<|
 .ix 1 3 rfl<|
 .cc (azl c.2.1.1 d.1.2.1) fun au=>
 .cc (azi (⟨0,0⟩:az0) au) fun av=>
 .lit 13000 (1)<|
 .known true<|
 .ix 1 3 rfl<|
 .ix 1 3 rfl<|
 .ix 1 3 rfl<|
 .ix 1 3 rfl<|
 .cc (azl c.2.1.2.1 d.2.1.2.1) fun aw=>
 .cc (azi av aw) fun ax=>
 .lit 13000 (2)<|
 .known true<|
 .ix 1 3 rfl<|
 .ix 2 3 rfl<|
 .ix 2 3 rfl<|
 .ix 1 3 rfl<|
 .cc (azl c.2.1.2.2 d.2.2.2.1) fun ay=>
 .cc (azi ax ay) fun az=>
 .lit 13000 (3)<|
 .known false<|
 .cc (bz0 az.Lo) fun a0=>
 .cc (bz0 az.Hi) fun a1=>
 .ix 1 3 rfl<|
 .ix 1 3 rfl<|
 .lit 15000 (2)<|
 .known true<|
 .unroll 4<|
 .known true<|
 .ix 1 3 rfl<|
 .ix 0 3 rfl<|
 .ix 0 3 rfl<|
 .ix 2 3 rfl<|
 .cc (azl c.2.1.1 d.1.2.2) fun a2=>
 .cc (azi (⟨0,0⟩:az0) a2) fun a3=>
 .lit 13000 (1)<|
 .known true<|
 .ix 1 3 rfl<|
 .ix 1 3 rfl<|
 .ix 1 3 rfl<|
 .ix 2 3 rfl<|
 .cc (azl c.2.1.2.1 d.2.1.2.2) fun a4=>
 .cc (azi a3 a4) fun a5=>
 .lit 13000 (2)<|
 .known true<|
 .ix 1 3 rfl<|
 .ix 2 3 rfl<|
 .ix 2 3 rfl<|
 .ix 2 3 rfl<|
 .cc (azl c.2.1.2.2 d.2.2.2.2) fun a6=>
 .cc (azi a5 a6) fun a7=>
 .lit 13000 (3)<|
 .known false<|
 .cc (bz0 a7.Lo) fun a8=>
 .cc (bz0 a7.Hi) fun a9=>
 .ix 1 3 rfl<|
 .ix 2 3 rfl<|
 .lit 15000 (3)<|
 .known false<|
 .lit 16000 (2)<|
 .known true<|
 .unroll 4<|
 .known true<|
 .unroll 4<|
 .known true<|
 .ix 2 3 rfl<|
 .ix 0 3 rfl<|
 .ix 0 3 rfl<|
 .ix 0 3 rfl<|
 .cc (azl c.2.2.1 d.1.1) fun ba=>
 .cc (azi (⟨0,0⟩:az0) ba) fun bb=>
 .lit 13000 (1)<|
 .known true<|
 .ix 2 3 rfl<|
 .ix 1 3 rfl<|
 .ix 1 3 rfl<|
 .ix 0 3 rfl<|
 .cc (azl c.2.2.2.1 d.2.1.1) fun bc=>
 .cc (azi bb bc) fun bd=>
 .lit 13000 (2)<|
 .known true<|
 .ix 2 3 rfl<|
 .ix 2 3 rfl<|
 .ix 2 3 rfl<|
 .ix 0 3 rfl<|
 .cc (azl c.2.2.2.2 d.2.2.1) fun be=>
 .cc (azi bd be) fun bf=>
 .lit 13000 (3)<|
 .known false<|
 .cc (bz0 bf.Lo) fun bg=>
 .cc (bz0 bf.Hi) fun bh=>
 .ix 2 3 rfl<|
 .ix 0 3 rfl<|
 .lit 15000 (1)<|
 .known true<|
 .unroll 4<|
 .known true<|
 .ix 2 3 rfl<|
 .ix 0 3 rfl<|
 .ix 0 3 rfl<|
 .ix 1 3 rfl<|
 .cc (azl c.2.2.1 d.1.2.1) fun bi=>
 .cc (azi (⟨0,0⟩:az0) bi) fun bj=>
 .lit 13000 (1)<|
 .known true<|
 .ix 2 3 rfl<|
 .ix 1 3 rfl<|
 .ix 1 3 rfl<|
 .ix 1 3 rfl<|
 .cc (azl c.2.2.2.1 d.2.1.2.1) fun bk=>
 .cc (azi bj bk) fun bl=>
 .lit 13000 (2)<|
 .known true<|
 .ix 2 3 rfl<|
 .ix 2 3 rfl<|
 .ix 2 3 rfl<|
 .ix 1 3 rfl<|
 .cc (azl c.2.2.2.2 d.2.2.2.1) fun bm=>
 .cc (azi bl bm) fun bn=>
 .lit 13000 (3)<|
 .known false<|
 .cc (bz0 bn.Lo) fun bo=>
 .cc (bz0 bn.Hi) fun bp=>
 .ix 2 3 rfl<|
 .ix 1 3 rfl<|
 .lit 15000 (2)<|
 .known true<|
 .unroll 4<|
 .known true<|
 .ix 2 3 rfl<|
 .ix 0 3 rfl<|
 .ix 0 3 rfl<|
 .ix 2 3 rfl<|
 .cc (azl c.2.2.1 d.1.2.2) fun bq=>
 .cc (azi (⟨0,0⟩:az0) bq) fun bs=>
 .lit 13000 (1)<|
 .known true<|
 .ix 2 3 rfl<|
 .ix 1 3 rfl<|
 .ix 1 3 rfl<|
 .ix 2 3 rfl<|
 .cc (azl c.2.2.2.1 d.2.1.2.2) fun bt=>
 .cc (azi bs bt) fun bu=>
 .lit 13000 (2)<|
 .known true<|
 .ix 2 3 rfl<|
 .ix 2 3 rfl<|
 .ix 2 3 rfl<|
 .ix 2 3 rfl<|
 .cc (azl c.2.2.2.2 d.2.2.2.2) fun bv=>
 .cc (azi bu bv) fun bw=>
 .lit 13000 (3)<|
 .known false<|
 .cc (bz0 bw.Lo) fun bx=>
 .cc (bz0 bw.Hi) fun bz=>
 .ix 2 3 rfl<|
 .ix 2 3 rfl<|
 .lit 15000 (3)<|
 .known false<|
 .lit 16000 (3)<|
 .known false<|
 .ret (((⟨k,m⟩:az0),(⟨aa,ab⟩:az0),(⟨ai,aj⟩:az0)),((⟨aq,ar⟩:az0),(⟨a0,a1⟩:az0),(⟨a8,a9⟩:az0)),((⟨bg,bh⟩:az0),(⟨bo,bp⟩:az0),(⟨bx,bz⟩:az0)))
noncomputable def vzw (c)(d):=
 mkD Tryz.func253 (mzy c d) 0 [.pure (bz9 c),.pure (bz9 d)] [] (fun r=>.pure (bz9 r)) (fun _=>[])
noncomputable def rza (c:Av)(d:Ar):T Ar:=
 .unroll 4<|
 .known true<|
 .unroll 4<|
 .known true<|
 .ix 0 3 rfl<|
 .ix 0 3 rfl<|
 .ix 0 3 rfl<|
 .ix 0 3 rfl<|
 .cc (azl c.1.1 d.1) fun e=>
 .cc (azi (⟨0,0⟩:az0) e) fun f=>
 .ix 0 3 rfl<|
 .lit 9000 (1)<|
 .known true<|
 .ix 0 3 rfl<|
 .ix 0 3 rfl<|
 .ix 1 3 rfl<|
 .ix 1 3 rfl<|
 .cc (azl c.1.2.1 d.2.1) fun g=>
 .cc (azi f g) fun h=>
 .ix 0 3 rfl<|
 .lit 9000 (2)<|
 .known true<|
 .ix 0 3 rfl<|
 .ix 0 3 rfl<|
 .ix 2 3 rfl<|
 .ix 2 3 rfl<|
 .cc (azl c.1.2.2 d.2.2) fun i=>
 .cc (azi h i) fun j=>
 .ix 0 3 rfl<|
 .lit 9000 (3)<|
 .known false<|
 .lit 10000 (1)<|
 .known true<|
 .unroll 4<|
 .known true<|
 .ix 1 3 rfl<|
 .ix 1 3 rfl<|
 .ix 0 3 rfl<|
 .ix 0 3 rfl<|
 .cc (azl c.2.1.1 d.1) fun k=>
 .cc (azi (⟨0,0⟩:az0) k) fun m=>
 .ix 1 3 rfl<|
 .lit 9000 (1)<|
 .known true<|
 .ix 1 3 rfl<|
 .ix 1 3 rfl<|
 .ix 1 3 rfl<|
 .ix 1 3 rfl<|
 .cc (azl c.2.1.2.1 d.2.1) fun n=>
 .cc (azi m n) fun s=>
 .ix 1 3 rfl<|
 .lit 9000 (2)<|
 .known true<|
 .ix 1 3 rfl<|
 .ix 1 3 rfl<|
 .ix 2 3 rfl<|
 .ix 2 3 rfl<|
 .cc (azl c.2.1.2.2 d.2.2) fun t=>
 .cc (azi s t) fun w=>
 .ix 1 3 rfl<|
 .lit 9000 (3)<|
 .known false<|
 .lit 10000 (2)<|
 .known true<|
 .unroll 4<|
 .known true<|
 .ix 2 3 rfl<|
 .ix 2 3 rfl<|
 .ix 0 3 rfl<|
 .ix 0 3 rfl<|
 .cc (azl c.2.2.1 d.1) fun y=>
 .cc (azi (⟨0,0⟩:az0) y) fun z=>
 .ix 2 3 rfl<|
 .lit 9000 (1)<|
 .known true<|
 .ix 2 3 rfl<|
 .ix 2 3 rfl<|
 .ix 1 3 rfl<|
 .ix 1 3 rfl<|
 .cc (azl c.2.2.2.1 d.2.1) fun aa=>
 .cc (azi z aa) fun ab=>
 .ix 2 3 rfl<|
 .lit 9000 (2)<|
 .known true<|
 .ix 2 3 rfl<|
 .ix 2 3 rfl<|
 .ix 2 3 rfl<|
 .ix 2 3 rfl<|
 .cc (azl c.2.2.2.2 d.2.2) fun ac=>
 .cc (azi ab ac) fun ad=>
 .ix 2 3 rfl<|
 .lit 9000 (3)<|
 .known false<|
 .lit 10000 (3)<|
 .known false<|
 .ret (j,w,ad)
noncomputable def zzt (c)(d):=
 mkD Tryz.func273 (rza c d) 0 [.pure (bz9 c),.pure (az2 d)] [] (fun r=>.pure (az2 r)) (fun _=>[])
noncomputable def xzb (c:Ar)(d:Ar):T Ar:=
 .unroll 4<|
 .known true<|
 .ix 0 3 rfl<|
 .ix 0 3 rfl<|
 .cc (azi c.1 d.1) fun e=>
 .ix 0 3 rfl<|
 .lit 6000 (1)<|
 .known true<|
 .ix 1 3 rfl<|
 .ix 1 3 rfl<|
 .cc (azi c.2.1 d.2.1) fun f=>
 .ix 1 3 rfl<|
 .lit 6000 (2)<|
 .known true<|
 .ix 2 3 rfl<|
 .ix 2 3 rfl<|
 .cc (azi c.2.2 d.2.2) fun g=>
 .ix 2 3 rfl<|
 .lit 6000 (3)<|
 .known false<|
 .ret (e,f,g)
noncomputable def Fza (c)(d):=
 mkD Tryz.func272 (xzb c d) 0 [.pure (az2 c),.pure (az2 d)] [] (fun r=>.pure (az2 r)) (fun _=>[])
noncomputable def izc (c:Ar)(d:Int)(e:Int)(f:Int)(g:Int)(h:Int)(i:Int)(j:Int)(k:Int)(m:Int)(n:Int)(s:Int)(t:Int)(w:Int)(y:Int)(z:Int)(aa:Int)(ab:Int)(ac:Int)(ad:Int)(ae:Int)(af:Int)(ag:Int)(ah:Int)(ai:Int):T (Ar×Int×Int×Int×Int×Int×Int×Int×Int×Int×Int×Int×Int×Int×Int×Int×Int×Int×Int×Int×Int×Int×Int×Int×Int):=
 .cc (zzt (((⟨d,e⟩:az0),(⟨f,g⟩:az0),(⟨h,i⟩:az0)),((⟨j,k⟩:az0),(⟨m,n⟩:az0),(⟨s,t⟩:az0)),((⟨w,y⟩:az0),(⟨z,aa⟩:az0),(⟨ab,ac⟩:az0))) ((⟨c.1.Lo,c.1.Hi⟩:az0),(⟨c.2.1.Lo,c.2.1.Hi⟩:az0),(⟨c.2.2.Lo,c.2.2.Hi⟩:az0))) fun aj=>
 .cc (Fza ((⟨ad,ae⟩:az0),(⟨af,ag⟩:az0),(⟨ah,ai⟩:az0)) aj) fun ak=>
 .ret (ak,d,e,f,g,h,i,j,k,m,n,s,t,w,y,z,aa,ab,ac,ad,ae,af,ag,ah,ai)
noncomputable def mz1 (c)(d)(e)(f)(g)(h)(i)(j)(k)(m)(n)(s)(t)(w)(y)(z)(aa)(ab)(ac)(ad)(ae)(af)(ag)(ah)(ai):=
 mkD Tryz.func271 (izc c d e f g h i j k m n s t w y z aa ab ac ad ae af ag ah ai) 1 [.pure (az2 c),.ptr 0 0] [(0,.box [pz d,pz e,pz f,pz g,pz h,pz i,pz j,pz k,pz m,pz n,pz s,pz t,pz w,pz y,pz z,pz aa,pz ab,pz ac,pz ad,pz ae,pz af,pz ag,pz ah,pz ai])] (fun r=>.pure (az2 r.1)) (fun r=>[(0,.box [pz r.2.1,pz r.2.2.1,pz r.2.2.2.1,pz r.2.2.2.2.1,pz r.2.2.2.2.2.1,pz r.2.2.2.2.2.2.1,pz r.2.2.2.2.2.2.2.1,pz r.2.2.2.2.2.2.2.2.1,pz r.2.2.2.2.2.2.2.2.2.1,pz r.2.2.2.2.2.2.2.2.2.2.1,pz r.2.2.2.2.2.2.2.2.2.2.2.1,pz r.2.2.2.2.2.2.2.2.2.2.2.2.1,pz r.2.2.2.2.2.2.2.2.2.2.2.2.2.1,pz r.2.2.2.2.2.2.2.2.2.2.2.2.2.2.1,pz r.2.2.2.2.2.2.2.2.2.2.2.2.2.2.2.1,pz r.2.2.2.2.2.2.2.2.2.2.2.2.2.2.2.2.1,pz r.2.2.2.2.2.2.2.2.2.2.2.2.2.2.2.2.2.1,pz r.2.2.2.2.2.2.2.2.2.2.2.2.2.2.2.2.2.2.1,pz r.2.2.2.2.2.2.2.2.2.2.2.2.2.2.2.2.2.2.2.1,pz r.2.2.2.2.2.2.2.2.2.2.2.2.2.2.2.2.2.2.2.2.1,pz r.2.2.2.2.2.2.2.2.2.2.2.2.2.2.2.2.2.2.2.2.2.1,pz r.2.2.2.2.2.2.2.2.2.2.2.2.2.2.2.2.2.2.2.2.2.2.1,pz r.2.2.2.2.2.2.2.2.2.2.2.2.2.2.2.2.2.2.2.2.2.2.2.1,pz r.2.2.2.2.2.2.2.2.2.2.2.2.2.2.2.2.2.2.2.2.2.2.2.2])])
noncomputable def rzj (c:azr)(d:azr):T azr:=
 .cc (qz6 c) fun e=>
 .cc (vzw c.R d.R) fun f=>
 .call (mz1 d.T e.1 e.2.1 e.2.2.1 e.2.2.2.1 e.2.2.2.2.1 e.2.2.2.2.2.1 e.2.2.2.2.2.2.1 e.2.2.2.2.2.2.2.1 e.2.2.2.2.2.2.2.2.1 e.2.2.2.2.2.2.2.2.2.1 e.2.2.2.2.2.2.2.2.2.2.1 e.2.2.2.2.2.2.2.2.2.2.2.1 e.2.2.2.2.2.2.2.2.2.2.2.2.1 e.2.2.2.2.2.2.2.2.2.2.2.2.2.1 e.2.2.2.2.2.2.2.2.2.2.2.2.2.2.1 e.2.2.2.2.2.2.2.2.2.2.2.2.2.2.2.1 e.2.2.2.2.2.2.2.2.2.2.2.2.2.2.2.2.1 e.2.2.2.2.2.2.2.2.2.2.2.2.2.2.2.2.2.1 e.2.2.2.2.2.2.2.2.2.2.2.2.2.2.2.2.2.2.1 e.2.2.2.2.2.2.2.2.2.2.2.2.2.2.2.2.2.2.2.1 e.2.2.2.2.2.2.2.2.2.2.2.2.2.2.2.2.2.2.2.2.1 e.2.2.2.2.2.2.2.2.2.2.2.2.2.2.2.2.2.2.2.2.2.1 e.2.2.2.2.2.2.2.2.2.2.2.2.2.2.2.2.2.2.2.2.2.2.1 e.2.2.2.2.2.2.2.2.2.2.2.2.2.2.2.2.2.2.2.2.2.2.2) [(0,256)] fun g=>
 .ret (⟨(f.1,f.2.1,f.2.2),g.1⟩:azr)
noncomputable def izb (c)(d):=
 mkD Tryz.func228 (rzj c d) 0 [.pure (bzg c),.pure (bzg d)] [] (fun r=>.pure (bzg r)) (fun _=>[])
noncomputable def wzh (c:Int)(d:az0):T azr:=
 .cut 2 (fun (e:B2)=>⟨[(4,.ptr 0 0),(5,.ptr 1 0)],[(0,.box [pz 0,pz 0,pz 0,pz 0,pz 0,pz 0,pz 0,pz 0,pz 0,pz 0,pz 0,pz 0,pz 0,pz 0,pz 0,pz 0,pz 0,pz 0,pz 0,pz 0,pz 0,pz 0,pz 0,pz 0]),(1,.box [pz e.1,pz e.2.1,pz e.2.2.1,pz e.2.2.2.1,pz e.2.2.2.2.1,pz e.2.2.2.2.2])],[],2⟩)
 (.cas 2000 c 0
 (.ix 0 3 rfl<|
 .oo (d.Lo,d.Hi,0,0,0,0))
 (.cas 2000 c 1
 (.ix 1 3 rfl<|
 .oo (0,0,d.Lo,d.Hi,0,0))
 (.cas 2000 c 2
 (.ix 2 3 rfl<|
 .oo (0,0,0,0,d.Lo,d.Hi))
 (.stop)))) fun e=>
 .cc (qz5 ((⟨e.1,e.2.1⟩:az0),(⟨e.2.2.1,e.2.2.2.1⟩:az0),(⟨e.2.2.2.2.1,e.2.2.2.2.2⟩:az0))) fun f=>
 .ret f
noncomputable def Ezz (c)(d):=
 mkD Tryz.func269 (wzh c d) 0 [pz c,.pure (az7 d)] [] (fun r=>.pure (bzg r)) (fun _=>[])
noncomputable def mzv (c:az0):T Int:=
 .cc (bzw c) fun d=>
 .br (!d)
 (.ret 0)
 (.ret (i64.wrap (c.Hi-c.Lo)))
noncomputable def mzu (c):=
 mkD Tryz.func315 (mzv c) 0 [.pure (az7 c)] [] (fun r=>pz r) (fun _=>[])
noncomputable def oz5 (c:Int):T Int:=
 .ret (i64.wrap (((BitVec.ofInt 64 c&&&BitVec.ofInt 64 65535).toNat:Int)))
noncomputable def jz7 (c):=
 mkD Tryz.func318 (oz5 c) 0 [pz c] [] (fun r=>pz r) (fun _=>[])
noncomputable def mzk (c:Int):T (B5×B5):=
 .ix 0 11 rfl<|
 .ix 0 11 rfl<|
 .cc (bz2 (i64.wrap (c * 6746518852)) 16) fun d=>
 .ix 1 11 rfl<|
 .cc (bz8 (i64.wrap (c * 6746518853)) 16) fun e=>
 .ix 1 11 rfl<|
 .unroll 10<|
 .known true<|
 .lit 8002 (1)<|
 .ix 1 11 rfl<|
 .ix 1 11 rfl<|
 .cc (bz2 (i64.wrap (d * d)) 30) fun f=>
 .ix 2 11 rfl<|
 .lit 9002 (1)<|
 .ix 1 11 rfl<|
 .ix 1 11 rfl<|
 .cc (bz8 (i64.wrap (e * e)) 30) fun g=>
 .ix 2 11 rfl<|
 .lit 7001 (3)<|
 .known true<|
 .lit 8002 (2)<|
 .ix 2 11 rfl<|
 .ix 1 11 rfl<|
 .cc (bz2 (i64.wrap (f * d)) 30) fun h=>
 .ix 3 11 rfl<|
 .lit 9002 (2)<|
 .ix 2 11 rfl<|
 .ix 1 11 rfl<|
 .cc (bz8 (i64.wrap (g * e)) 30) fun i=>
 .ix 3 11 rfl<|
 .lit 7001 (4)<|
 .known true<|
 .lit 8002 (3)<|
 .ix 3 11 rfl<|
 .ix 1 11 rfl<|
 .cc (bz2 (i64.wrap (h * d)) 30) fun j=>
 .ix 4 11 rfl<|
 .lit 9002 (3)<|
 .ix 3 11 rfl<|
 .ix 1 11 rfl<|
 .cc (bz8 (i64.wrap (i * e)) 30) fun k=>
 .ix 4 11 rfl<|
 .lit 7001 (5)<|
 .known true<|
 .lit 8002 (4)<|
 .ix 4 11 rfl<|
 .ix 1 11 rfl<|
 .cc (bz2 (i64.wrap (j * d)) 30) fun m=>
 .ix 5 11 rfl<|
 .lit 9002 (4)<|
 .ix 4 11 rfl<|
 .ix 1 11 rfl<|
 .cc (bz8 (i64.wrap (k * e)) 30) fun n=>
 .ix 5 11 rfl<|
 .lit 7001 (6)<|
 .known true<|
 .lit 8002 (5)<|
 .ix 5 11 rfl<|
 .ix 1 11 rfl<|
 .cc (bz2 (i64.wrap (m * d)) 30) fun s=>
 .ix 6 11 rfl<|
 .lit 9002 (5)<|
 .ix 5 11 rfl<|
 .ix 1 11 rfl<|
 .cc (bz8 (i64.wrap (n * e)) 30) fun t=>
 .ix 6 11 rfl<|
 .lit 7001 (7)<|
 .known true<|
 .lit 8002 (6)<|
 .ix 6 11 rfl<|
 .ix 1 11 rfl<|
 .cc (bz2 (i64.wrap (s * d)) 30) fun w=>
 .ix 7 11 rfl<|
 .lit 9002 (6)<|
 .ix 6 11 rfl<|
 .ix 1 11 rfl<|
 .cc (bz8 (i64.wrap (t * e)) 30) fun y=>
 .ix 7 11 rfl<|
 .lit 7001 (8)<|
 .known true<|
 .lit 8002 (7)<|
 .ix 7 11 rfl<|
 .ix 1 11 rfl<|
 .cc (bz2 (i64.wrap (w * d)) 30) fun z=>
 .ix 8 11 rfl<|
 .lit 9002 (7)<|
 .ix 7 11 rfl<|
 .ix 1 11 rfl<|
 .cc (bz8 (i64.wrap (y * e)) 30) fun aa=>
 .ix 8 11 rfl<|
 .lit 7001 (9)<|
 .known true<|
 .lit 8002 (8)<|
 .ix 8 11 rfl<|
 .ix 1 11 rfl<|
 .cc (bz2 (i64.wrap (z * d)) 30) fun ab=>
 .ix 9 11 rfl<|
 .lit 9002 (8)<|
 .ix 8 11 rfl<|
 .ix 1 11 rfl<|
 .cc (bz8 (i64.wrap (aa * e)) 30) fun ac=>
 .ix 9 11 rfl<|
 .lit 7001 (10)<|
 .known true<|
 .lit 8002 (9)<|
 .ix 9 11 rfl<|
 .ix 1 11 rfl<|
 .cc (bz2 (i64.wrap (ab * d)) 30) fun ad=>
 .ix 10 11 rfl<|
 .lit 9002 (9)<|
 .ix 9 11 rfl<|
 .ix 1 11 rfl<|
 .cc (bz8 (i64.wrap (ac * e)) 30) fun ae=>
 .ix 10 11 rfl<|
 .lit 7001 (11)<|
 .known false<|
 .ret ((1073741824,d,f,h,j,m,s,w,z,ab,ad),(1073741824,e,g,i,k,n,t,y,aa,ac,ae))
noncomputable def mzj (c):=
 mkD Tryz.func325 (mzk c) 0 [pz c] [] (fun r=>.tup [.pure (izl r.1),.pure (izl r.2)]) (fun _=>[])
noncomputable def oz4 (c:Int)(d:Int):T Int:=
 .grd (d≠0)<|
 .ret (i64.wrap ((i64.wrap ((i64.wrap (c+d))-1)).tdiv d))
noncomputable def czm (c)(d):=
 mkD Tryz.func327 (oz4 c d) 0 [pz c,pz d] [] (fun r=>pz r) (fun _=>[])
noncomputable def izs (c:A0):T Int:=let d:=(c.length:Nat);.loop (fun (e:Al)=>⟨[(3,pz e.1),(4,pz e.2.1),(7,.pure (encL 1 az3 c)),(8,pz (d:Int)),(9,pz e.2.2)],[],[],0⟩)
 (.exit 0) (fun (e:Int)=>⟨[(3,pz e)],[],[],0⟩)
 (fun e=>.br (decide (e.2.2<(d:Int)))
 (.gh e.2.2 c.length<|
 .nn ((i64.wrap (e.1+(i64.wrap (e.2.1 * (c.getD ((e.2.2).toNat) default))))),(i64.wrap (0-e.2.1)),(i64.wrap (e.2.2+1))))
 (.oo e.1))
 (0,1,0) [] fun e=>
 .ret e
noncomputable def cza (c):=
 mkD Tryz.func326 (izs c) 0 [.pure (encL 1 az3 c)] [] (fun r=>pz r) (fun _=>[])
noncomputable def kzs (c:Int)(d:Int):T az0:=
 .cc (bz2 c 14) fun e=>
 .cc (bz8 d 14) fun f=>
 .ret (⟨(max 0 e),(min 65536 f)⟩:az0)
noncomputable def kzr (c)(d):=
 mkD Tryz.func328 (kzs c d) 0 [pz c,pz d] [] (fun r=>.pure (az7 r)) (fun _=>[])
noncomputable def wzg (c:Int):T az0:=
 .cc (mzj c) fun d=>
 .ix 1 11 rfl<|
 .ix 3 11 rfl<|
 .cc (czm d.2.2.2.2.1 6) fun e=>
 .ix 5 11 rfl<|
 .ok ((120:Int)≠0) (by decide)<|
 .ix 7 11 rfl<|
 .cc (czm d.2.2.2.2.2.2.2.2.1 5040) fun f=>let g:=([d.1.2.1,e,(i64.wrap (d.1.2.2.2.2.2.1.tdiv 120)),f]:A0);
 .conv 2011 (cz5 1 az3 g 2)<|
 .cc (cza g) fun h=>
 .ix 1 11 rfl<|
 .ix 3 11 rfl<|
 .ok ((6:Int)≠0) (by decide)<|
 .ix 5 11 rfl<|
 .cc (czm d.2.2.2.2.2.2.1 120) fun i=>
 .ix 7 11 rfl<|
 .ok ((5040:Int)≠0) (by decide)<|
 .ix 9 11 rfl<|
 .cc (czm d.2.2.2.2.2.2.2.2.2.2.1 362880) fun j=>let k:=([d.2.2.1,(i64.wrap (d.1.2.2.2.1.tdiv 6)),i,(i64.wrap (d.1.2.2.2.2.2.2.2.1.tdiv 5040)),j]:A0);
 .conv 3014 (cz5 1 az3 k 2)<|
 .cc (cza k) fun m=>
 .cc (kzr h m) fun n=>
 .ret n
noncomputable def Ezy (c):=
 mkD Tryz.func323 (wzg c) 0 [pz c] [] (fun r=>.pure (az7 r)) (fun _=>[])
noncomputable def qzq (c:Int):T az0:=
 .cc (mzj c) fun d=>
 .ix 2 11 rfl<|
 .cc (czm d.2.2.2.1 2) fun e=>
 .ix 4 11 rfl<|
 .ok ((24:Int)≠0) (by decide)<|
 .ix 6 11 rfl<|
 .cc (czm d.2.2.2.2.2.2.2.1 720) fun f=>
 .ix 8 11 rfl<|
 .ok ((40320:Int)≠0) (by decide)<|
 .ix 10 11 rfl<|
 .cc (czm d.2.2.2.2.2.2.2.2.2.2.2 3628800) fun g=>let h:=([1073741824,e,(i64.wrap (d.1.2.2.2.2.1.tdiv 24)),f,(i64.wrap (d.1.2.2.2.2.2.2.2.2.1.tdiv 40320)),g]:A0);
 .conv 2015 (cz5 1 az3 h 2)<|
 .cc (cza h) fun i=>
 .ix 2 11 rfl<|
 .ok ((2:Int)≠0) (by decide)<|
 .ix 4 11 rfl<|
 .cc (czm d.2.2.2.2.2.1 24) fun j=>
 .ix 6 11 rfl<|
 .ok ((720:Int)≠0) (by decide)<|
 .ix 8 11 rfl<|
 .cc (czm d.2.2.2.2.2.2.2.2.2.1 40320) fun k=>let m:=([1073741824,(i64.wrap (d.1.2.2.1.tdiv 2)),j,(i64.wrap (d.1.2.2.2.2.2.2.1.tdiv 720)),k]:A0);
 .conv 3012 (cz5 1 az3 m 2)<|
 .cc (cza m) fun n=>
 .cc (kzr i n) fun s=>
 .ret s
noncomputable def zzg (c):=
 mkD Tryz.func324 (qzq c) 0 [pz c] [] (fun r=>.pure (az7 r)) (fun _=>[])
noncomputable def tzj (c:Int):T az0:=
 .br (decide (c≤8192))
 (.cc (Ezy c) fun d=>
 .ret d)
 (.cc (zzg (i64.wrap (16384-c))) fun d=>
 .ret d)
noncomputable def jz5 (c):=
 mkD Tryz.func319 (tzj c) 0 [pz c] [] (fun r=>.pure (az7 r)) (fun _=>[])
noncomputable def rz9 (c:az0):T az0:=
 .cc (bzw c) fun d=>
 .br (!d)
 (.ret (⟨0,0⟩:az0))
 (.ret (⟨(i64.wrap (0-c.Hi)),(i64.wrap (0-c.Lo))⟩:az0))
noncomputable def lzw (c):=
 mkD Tryz.func305 (rz9 c) 0 [.pure (az7 c)] [] (fun r=>.pure (az7 r)) (fun _=>[])
noncomputable def Azk (c:Int):T az0:=
 .cc (jz7 c) fun d=>let e:=d.tmod 16384;let f:=i64.wrap (d.tdiv 16384);let g:=i64.wrap (16384-e);
 .ok ((16384:Int)≠0) (by decide)<|
 .ok ((16384:Int)≠0) (by decide)<|
 .br (f==0)
 (.cc (jz5 e) fun h=>
 .ret h)
 (.br (f==1)
 (.cc (jz5 g) fun h=>
 .ret h)
 (.br (f==2)
 (.cc (jz5 e) fun h=>
 .cc (lzw h) fun i=>
 .ret i)
 (.cc (jz5 g) fun h=>
 .cc (lzw h) fun i=>
 .ret i)))
noncomputable def tzi (c):=
 mkD Tryz.func312 (Azk c) 0 [pz c] [] (fun r=>.pure (az7 r)) (fun _=>[])
noncomputable def Azj (c:Int):T az0:=
 .cc (jz7 c) fun d=>
 .cc (tzi (i64.wrap (d+16384))) fun e=>
 .ret e
noncomputable def Azi (c):=
 mkD Tryz.func311 (Azj c) 0 [pz c] [] (fun r=>.pure (az7 r)) (fun _=>[])
noncomputable def ozh (c:az0)(d:az0):T az0:=
 .cc (izm c d) fun e=>
 .br (!e)
 (.ret (⟨0,0⟩:az0))
 (.ret (⟨(min c.Lo d.Lo),(max c.Hi d.Hi)⟩:az0))
noncomputable def ezu (c)(d):=
 mkD Tryz.func316 (ozh c d) 0 [.pure (az7 c),.pure (az7 d)] [] (fun r=>.pure (az7 r)) (fun _=>[])
noncomputable def rz6 (c:az0)(d:Int):T Bool:=
 .cc (bzw c) fun e=>
 .br e
 (.br (decide (c.Lo≤d))
 (.ret (decide (d≤c.Hi)))
 (.ret false))
 (.ret false)
noncomputable def zzm (c)(d):=
 mkD Tryz.func322 (rz6 c d) 0 [.pure (az7 c),pz d] [] (fun r=>.pure (.bool r)) (fun _=>[])
noncomputable def tzk (c:az0)(d:Int):T Bool:=
 .cc (jz7 (i64.wrap (d-c.Lo))) fun e=>
 .cc (zzm c (i64.wrap (c.Lo+e))) fun f=>
 .ret f
noncomputable def jz6 (c)(d):=
 mkD Tryz.func317 (tzk c d) 0 [.pure (az7 c),pz d] [] (fun r=>.pure (.bool r)) (fun _=>[])
noncomputable def wzf (c:az0)(d:Int)(e:Int):T az0:=
 .cc (bzw c) fun f=>
 .br (!f)
 (.ret (⟨0,0⟩:az0))
 (.cc (mzu c) fun g=>
 .br (decide (g≥65536))
 (.ret (⟨(-65536),65536⟩:az0))
 (.cc (Azi c.Lo) fun h=>
 .cc (Azi c.Hi) fun i=>
 .cc (ezu h i) fun j=>
 .cut 0 (fun (k:Ah)=>⟨[(3,pz e),(4,.ptr 0 0),(8,.ptr 1 0),(9,.ptr 2 0)],[(0,.box [pz c.Lo,pz c.Hi]),(1,.box [pz 0,pz 0]),(2,.box [pz k.1,pz k.2])],[],3⟩)
 (.cc (jz6 c d) fun k=>
 .br k
 (.cc (czh 65536) fun m=>
 .cc (ezu j m) fun n=>
 .oo (n.Lo,n.Hi))
 (.oo (j.Lo,j.Hi))) fun k=>
 .cut 0 (fun (m:Ah)=>⟨[(8,.ptr 0 0),(9,.ptr 1 0)],[(0,.box [pz 0,pz 0]),(1,.box [pz m.1,pz m.2])],[],2⟩)
 (.cc (jz6 c e) fun m=>
 .br m
 (.cc (czh (-65536)) fun n=>
 .cc (ezu (⟨k.1,k.2⟩:az0) n) fun s=>
 .oo (s.Lo,s.Hi))
 (.oo (k.1,k.2))) fun m=>
 .ret (⟨m.1,m.2⟩:az0)))
noncomputable def Ezx (c)(d)(e):=
 mkD Tryz.func310 (wzf c d e) 0 [.pure (az7 c),.func 311 [] [],pz d,pz e] [] (fun r=>.pure (az7 r)) (fun _=>[])
noncomputable def oz2 (c:az0):T az0:=
 .cc (Ezx c 0 32768) fun d=>
 .ret d
noncomputable def wzd (c):=
 mkD Tryz.func303 (oz2 c) 0 [.pure (az7 c)] [] (fun r=>.pure (az7 r)) (fun _=>[])
noncomputable def qzr (c:az0)(d:Int)(e:Int):T az0:=
 .cc (bzw c) fun f=>
 .br (!f)
 (.ret (⟨0,0⟩:az0))
 (.cc (mzu c) fun g=>
 .br (decide (g≥65536))
 (.ret (⟨(-65536),65536⟩:az0))
 (.cc (tzi c.Lo) fun h=>
 .cc (tzi c.Hi) fun i=>
 .cc (ezu h i) fun j=>
 .cut 0 (fun (k:Ah)=>⟨[(3,pz e),(4,.ptr 0 0),(8,.ptr 1 0),(9,.ptr 2 0)],[(0,.box [pz c.Lo,pz c.Hi]),(1,.box [pz 0,pz 0]),(2,.box [pz k.1,pz k.2])],[],3⟩)
 (.cc (jz6 c d) fun k=>
 .br k
 (.cc (czh 65536) fun m=>
 .cc (ezu j m) fun n=>
 .oo (n.Lo,n.Hi))
 (.oo (j.Lo,j.Hi))) fun k=>
 .cut 0 (fun (m:Ah)=>⟨[(8,.ptr 0 0),(9,.ptr 1 0)],[(0,.box [pz 0,pz 0]),(1,.box [pz m.1,pz m.2])],[],2⟩)
 (.cc (jz6 c e) fun m=>
 .br m
 (.cc (czh (-65536)) fun n=>
 .cc (ezu (⟨k.1,k.2⟩:az0) n) fun s=>
 .oo (s.Lo,s.Hi))
 (.oo (k.1,k.2))) fun m=>
 .ret (⟨m.1,m.2⟩:az0)))
noncomputable def zzh (c)(d)(e):=
 mkD Tryz.func310 (qzr c d e) 0 [.pure (az7 c),.func 312 [] [],pz d,pz e] [] (fun r=>.pure (az7 r)) (fun _=>[])
noncomputable def oz3 (c:az0):T az0:=
 .cc (zzh c 16384 49152) fun d=>
 .ret d
noncomputable def wze (c):=
 mkD Tryz.func304 (oz3 c) 0 [.pure (az7 c)] [] (fun r=>.pure (az7 r)) (fun _=>[])
noncomputable def uzd (c:Int)(d:az0):T Av:=let e:=(⟨d.Lo,d.Hi⟩:az0);.cc (bzw d) fun f=>
 .br (!f)
 (.ret (((⟨0,0⟩:az0),(⟨0,0⟩:az0),(⟨0,0⟩:az0)),((⟨0,0⟩:az0),(⟨0,0⟩:az0),(⟨0,0⟩:az0)),((⟨0,0⟩:az0),(⟨0,0⟩:az0),(⟨0,0⟩:az0))))
 (.cc (wzd e) fun g=>
 .cc (wze e) fun h=>
 .cc (lzw h) fun i=>
 .cc (czh 65536) fun j=>
 .cc (czh 0) fun k=>
 .br (c==0)
 (.ret ((j,k,k),(k,g,i),(k,h,g)))
 (.br (c==1)
 (.ret ((g,k,h),(k,j,k),(i,k,g)))
 (.br (c==2)
 (.ret ((g,i,k),(h,g,k),(k,k,j)))
 (.ret (((⟨0,0⟩:az0),(⟨0,0⟩:az0),(⟨0,0⟩:az0)),((⟨0,0⟩:az0),(⟨0,0⟩:az0),(⟨0,0⟩:az0)),((⟨0,0⟩:az0),(⟨0,0⟩:az0),(⟨0,0⟩:az0)))))))
noncomputable def Cz5 (c)(d):=
 mkD Tryz.func299 (uzd c d) 0 [pz c,.pure (az7 d)] [] (fun r=>.pure (bz9 r)) (fun _=>[])
noncomputable def Azy (c:Int)(d:az0):T azr:=
 .cc (Cz5 c (⟨d.Lo,d.Hi⟩:az0)) fun e=>
 .cc (pose_still_C) fun f=>
 .ret (⟨e,f⟩:azr)
noncomputable def Izd (c)(d):=
 mkD Tryz.func286 (Azy c d) 0 [pz c,.pure (az7 d)] [] (fun r=>.pure (bzg r)) (fun _=>[])
noncomputable def Azm (c:Int)(d:az0):T azr:=
 .cc (Izd c (⟨d.Lo,d.Hi⟩:az0)) fun e=>
 .ret e
noncomputable def Hz8 (c)(d):=
 mkD Tryz.func268 (Azm c d) 0 [pz c,.pure (az7 d)] [] (fun r=>.pure (bzg r)) (fun _=>[])
noncomputable def jzj (c:azt)(d:az0):T azr:=
 .cc (lzx c.Offset) fun e=>
 .cc (qz5 ((⟨e.1.Lo,e.1.Hi⟩:az0),(⟨e.2.1.Lo,e.2.1.Hi⟩:az0),(⟨e.2.2.Lo,e.2.2.Hi⟩:az0))) fun f=>let g:=(⟨f.R,f.T⟩:azr);
 .split (((fzo c.Kind).o).isSome)
 (.cc (fzo c.Kind) fun h=>
 .cc (Hz8 h (⟨d.Lo,d.Hi⟩:az0)) fun i=>
 .cc (izb g i) fun j=>
 .ret j)
 (.split (((fzq c.Kind).o).isSome)
 (.cc (fzq c.Kind) fun h=>
 .cc (Ezz h d) fun i=>
 .cc (izb f i) fun j=>
 .ret j)
 (.cc (jz3 c.Kind) fun h=>
 .cc (Hz7 h d) fun i=>
 .cc (izb g (⟨i.R,i.T⟩:azr)) fun j=>
 .ret j))
noncomputable def pzu (c)(d):=
 mkD Tryz.func227 (jzj c d) 0 [.pure (azd c),.pure (az7 d)] [] (fun r=>.pure (bzg r)) (fun _=>[])
noncomputable def jzl (c:azm)(d:A7):T Aa:=let e:=encL 2 az7 d;let f:=encL 12 azd c.Joints;let g:=(c.Joints.length:Int);.conv 1003 (Lzt 24 bzg 256 g.toNat (⟨(((⟨0,0⟩:az0),(⟨0,0⟩:az0),(⟨0,0⟩:az0)),((⟨0,0⟩:az0),(⟨0,0⟩:az0),(⟨0,0⟩:az0)),((⟨0,0⟩:az0),(⟨0,0⟩:az0),(⟨0,0⟩:az0))),((⟨0,0⟩:az0),(⟨0,0⟩:az0),(⟨0,0⟩:az0))⟩:azr))<|
 .grd (0≤g/\g≤g/\g≤9223372036854775807/\g * 192≤140737488355328)<|
 .loop (fun (h:(Aa×Int))=>⟨[(1,.pure e),(5,.vec 0),(13,.pure f),(14,pz g),(15,pz h.2)],[(0,vecO 24 bzg h.1 256)],[],1⟩)
 (.exit 0) (fun (h:Aa)=>⟨[(5,.vec 0)],[(0,vecO 24 bzg h 256)],[],1⟩)
 (fun h=>let i:=(h.2).toNat;let j:=c.Joints.getD i default;let k:=j.Parent;.br (decide (h.2<g))
 (.cut 0 (fun (m:Aa)=>⟨[(1,.pure e),(5,.vec 0),(13,.pure f),(14,pz g),(15,pz h.2)],[(0,vecO 24 bzg m 256)],[],1⟩)
 (.gh h.2 c.Joints.length<|
 .gh h.2 d.length<|
 .cc (pzu j (d.getD i default)) fun m=>let n:=h.1.set i m;let s:=n.length;
 .gh h.2 h.1.length<|
 .conv 5009 (hz1 24 bzg h.1 256 i m)<|
 .gi (h.2) h.1.length<|
 .br (k !=(-1))
 (.gg k s<|
 .gg h.2 s<|
 .call (izb (n.getD (k.toNat) default) (n.getD i default)) [] fun t=>
 .gh h.2 s<|
 .conv 7013 (hz1 24 bzg n 256 i t)<|
 .gi (h.2) s<|
 .oo (n.set i t))
 (.oo n)) fun m=>
 .nn (m,(i64.wrap (h.2+1))))
 (.oo h.1))
 ((List.replicate g.toNat ((⟨(((⟨0,0⟩:az0),(⟨0,0⟩:az0),(⟨0,0⟩:az0)),((⟨0,0⟩:az0),(⟨0,0⟩:az0),(⟨0,0⟩:az0)),((⟨0,0⟩:az0),(⟨0,0⟩:az0),(⟨0,0⟩:az0))),((⟨0,0⟩:az0),(⟨0,0⟩:az0),(⟨0,0⟩:az0))⟩:azr):azr)),0) [] fun h=>
 .ret h
noncomputable def pzw (c)(d):=
 mkD Tryz.func183 (jzl c d) 0 [.pure (dzb c),.pure (encL 2 az7 d)] [] (fun r=>.pure (encL 24 bzg r)) (fun _=>[])
noncomputable def vzd (c:azw):T Bool:=let d:=encL 3 az1 c.Points;let e:=(c.Points.length:Int);.cut 2 (fun (f:Bool)=>⟨[(1,.ptr 0 0),(26,.pure (.bool f))],[(0,.box [pz c.Link,pz c.Radius,.pure d])],[],1⟩)
 (.br (decide (c.Radius<1))
 (.oo true)
 (.br (decide (c.Radius>1048576))
 (.oo true)
 (.br (decide (e<1))
 (.oo true)
 (.oo (decide (e>8)))))) fun f=>
 .br f
 (.ret false)
 (.loop (fun (g:Int)=>⟨[(28,.pure d),(29,pz e),(30,pz g)],[],[],0⟩)
 (.exit 0) (fun (_:U0)=>⟨[],[],[],0⟩)
 (fun g=>let h:=c.Points.getD (g.toNat) default;.br (decide (g<e))
 (.gh g c.Points.length<|
 .loop (fun (i:Int)=>⟨[(28,.pure d),(29,pz e),(30,pz g),(34,.pure (az1 h)),(35,pz i)],[],[],0⟩)
 (.exit 2) (fun (_:U0)=>⟨[(28,.pure d),(29,pz e),(30,pz g)],[],[],0⟩)
 (fun i=>.br (decide (i<3))
 (.gh i 3<|
 .name 8000 ((([h.1,h.2.1,h.2.2]:List Int).getD i.toNat 0)) fun j=>
 .cut 0 (fun (k:Bool)=>⟨[(28,.pure d),(29,pz e),(30,pz g),(34,.pure (az1 h)),(35,pz i),(43,.pure (.bool k))],[],[],0⟩)
 (.br (decide (j<(-4194304)))
 (.oo true)
 (.oo (decide (j>4194304)))) fun k=>
 .br k
 (.ff (.fin false))
 (.nn (i64.wrap (i+1))))
 (.oo .u))
 0 [] fun _=>
 .nn (i64.wrap (g+1)))
 (.oo .u))
 0 [] fun _=>
 .ret true)
noncomputable def Dz6 (c):=
 mkD Tryz.func231 (vzd c) 0 [.pure (azh c)] [] (fun r=>.pure (.bool r)) (fun _=>[])
noncomputable def xzj (c:azr)(d:Ar):T Ar:=
 .cc (qz6 c) fun e=>
 .call (mz1 d e.1 e.2.1 e.2.2.1 e.2.2.2.1 e.2.2.2.2.1 e.2.2.2.2.2.1 e.2.2.2.2.2.2.1 e.2.2.2.2.2.2.2.1 e.2.2.2.2.2.2.2.2.1 e.2.2.2.2.2.2.2.2.2.1 e.2.2.2.2.2.2.2.2.2.2.1 e.2.2.2.2.2.2.2.2.2.2.2.1 e.2.2.2.2.2.2.2.2.2.2.2.2.1 e.2.2.2.2.2.2.2.2.2.2.2.2.2.1 e.2.2.2.2.2.2.2.2.2.2.2.2.2.2.1 e.2.2.2.2.2.2.2.2.2.2.2.2.2.2.2.1 e.2.2.2.2.2.2.2.2.2.2.2.2.2.2.2.2.1 e.2.2.2.2.2.2.2.2.2.2.2.2.2.2.2.2.2.1 e.2.2.2.2.2.2.2.2.2.2.2.2.2.2.2.2.2.2.1 e.2.2.2.2.2.2.2.2.2.2.2.2.2.2.2.2.2.2.2.1 e.2.2.2.2.2.2.2.2.2.2.2.2.2.2.2.2.2.2.2.2.1 e.2.2.2.2.2.2.2.2.2.2.2.2.2.2.2.2.2.2.2.2.2.1 e.2.2.2.2.2.2.2.2.2.2.2.2.2.2.2.2.2.2.2.2.2.2.1 e.2.2.2.2.2.2.2.2.2.2.2.2.2.2.2.2.2.2.2.2.2.2.2) [(0,256)] fun f=>
 .ret f.1
noncomputable def Fzi (c)(d):=
 mkD Tryz.func232 (xzj c d) 0 [.pure (bzg c),.pure (az2 d)] [] (fun r=>.pure (az2 r)) (fun _=>[])
noncomputable def vze (c:azw)(d:azr):T As:=let e:=(c.Points.length:Int);.cc (Dz6 c) fun f=>
 .br (!f)
 (.ret nl)
 (.conv 3003 (Lzt 6 az2 229 e.toNat ((⟨0,0⟩:az0),(⟨0,0⟩:az0),(⟨0,0⟩:az0)))<|
 .grd (0≤e/\e≤e/\e≤9223372036854775807/\e * 48≤140737488355328)<|
 .loop (fun (g:(As×Int))=>⟨[(3,.ptr 0 0),(5,.vec 1),(16,.pure (encL 3 az1 c.Points)),(17,pz e),(18,pz g.2)],[(0,.box [pz d.R.1.1.Lo,pz d.R.1.1.Hi,pz d.R.1.2.1.Lo,pz d.R.1.2.1.Hi,pz d.R.1.2.2.Lo,pz d.R.1.2.2.Hi,pz d.R.2.1.1.Lo,pz d.R.2.1.1.Hi,pz d.R.2.1.2.1.Lo,pz d.R.2.1.2.1.Hi,pz d.R.2.1.2.2.Lo,pz d.R.2.1.2.2.Hi,pz d.R.2.2.1.Lo,pz d.R.2.2.1.Hi,pz d.R.2.2.2.1.Lo,pz d.R.2.2.2.1.Hi,pz d.R.2.2.2.2.Lo,pz d.R.2.2.2.2.Hi,pz d.T.1.Lo,pz d.T.1.Hi,pz d.T.2.1.Lo,pz d.T.2.1.Hi,pz d.T.2.2.Lo,pz d.T.2.2.Hi]),(1,vecO 6 az2 g.1 229)],[],2⟩)
 (.exit 0) (fun (g:As)=>⟨[(5,.vec 0)],[(0,vecO 6 az2 g 229)],[],1⟩)
 (fun g=>let h:=(g.2).toNat;.br (decide (g.2<e))
 (.gh g.2 c.Points.length<|
 .cc (lzx (c.Points.getD h default)) fun i=>
 .cc (Fzi (⟨d.R,d.T⟩:azr) i) fun j=>
 .gh g.2 g.1.length<|
 .conv 7007 (hz1 6 az2 g.1 229 h j)<|
 .gi (g.2) g.1.length<|
 .nn ((g.1.set h j),(i64.wrap (g.2+1))))
 (.oo g.1))
 ((List.replicate e.toNat (((⟨0,0⟩:az0),(⟨0,0⟩:az0),(⟨0,0⟩:az0)):Ar)),0) [] fun g=>
 .ret g)
noncomputable def Dz7 (c)(d):=
 mkD Tryz.func185 (vze c d) 0 [.pure (azh c),.pure (bzg d)] [] (fun r=>.pure (encL 6 az2 r)) (fun _=>[])
set_option maxHeartbeats 8000000 in
set_option maxRecDepth 20000 in
noncomputable def izu (a0:azb)(a1:A7):T Au:=
 .cut 2 (fun (y12:Bool)=>⟨[(1,.pure (encL 2 az7 a1)),(2,.ptr 0 0),(19,.pure (.bool y12))],[(0,.box [.pure (encL 12 azd a0.Robot.Joints),.pure (encL 5 azg a0.Robot.Masses),.pure (encL 3 azh a0.Shapes),.pure (encL 2 azo a0.Skips)])],[],1⟩)
 (.call (pzv a0.Robot a1) [] fun y13=>
 .br (!y13)
 (.ret (.out true))
 (.call (ezb (⟨a0.Robot,a0.Shapes,a0.Skips⟩:azb)) [] fun y14=>
 .ret (.out (y14 !=0)))) fun y12=>
 .br y12
 (.ret nl)
 (.call (pzw a0.Robot a1) [] fun y16=>
 .conv 4003 (az5k 1 (encL 6 az2) 176 ((a0.Shapes.length:Int)).toNat nl (.lst 0 0 fun _=>.unk) (by kernel_rfl))<|
 .grd (0≤(a0.Shapes.length:Int)/\(a0.Shapes.length:Int)≤(a0.Shapes.length:Int)/\(a0.Shapes.length:Int)≤9223372036854775807/\(a0.Shapes.length:Int) * 24≤140737488355328)<|
 .loop (fun (x53:(Au×Int))=>⟨[(5,.pure (encL 24 bzg y16)),(6,.vec 0),(29,.pure (encL 3 azh a0.Shapes)),(30,pz (a0.Shapes.length:Int)),(31,pz x53.2)],[(0,vecO 1 (encL 6 az2) x53.1 176)],[],1⟩)
 (.exit 0) (fun (y62:Au)=>⟨[(6,.vec 0)],[(0,vecO 1 (encL 6 az2) y62 176)],[],1⟩)
 (fun x53=>.br (decide (x53.2<(a0.Shapes.length:Int)))
 (.grd (0≤x53.2/\x53.2<(a0.Shapes.length:Int))<|
 .call (pose_Identity_C) [] fun y68=>
 .cut 0 (fun (y69:B7)=>⟨[(5,.pure (encL 24 bzg y16)),(6,.vec 0),(7,pz x53.2),(8,.ptr 1 0),(9,.ptr 2 0),(29,.pure (encL 3 azh a0.Shapes)),(30,pz (a0.Shapes.length:Int)),(31,pz x53.2)],[(0,vecO 1 (encL 6 az2) x53.1 176),(1,.box [pz ((a0.Shapes.getD ((x53.2).toNat) default).Link),pz ((a0.Shapes.getD ((x53.2).toNat) default).Radius),.pure (encL 3 az1 ((a0.Shapes.getD ((x53.2).toNat) default).Points))]),(2,.box [pz y69.1,pz y69.2.1,pz y69.2.2.1,pz y69.2.2.2.1,pz y69.2.2.2.2.1,pz y69.2.2.2.2.2.1,pz y69.2.2.2.2.2.2.1,pz y69.2.2.2.2.2.2.2.1,pz y69.2.2.2.2.2.2.2.2.1,pz y69.2.2.2.2.2.2.2.2.2.1,pz y69.2.2.2.2.2.2.2.2.2.2.1,pz y69.2.2.2.2.2.2.2.2.2.2.2.1,pz y69.2.2.2.2.2.2.2.2.2.2.2.2.1,pz y69.2.2.2.2.2.2.2.2.2.2.2.2.2.1,pz y69.2.2.2.2.2.2.2.2.2.2.2.2.2.2.1,pz y69.2.2.2.2.2.2.2.2.2.2.2.2.2.2.2.1,pz y69.2.2.2.2.2.2.2.2.2.2.2.2.2.2.2.2.1,pz y69.2.2.2.2.2.2.2.2.2.2.2.2.2.2.2.2.2.1,pz y69.2.2.2.2.2.2.2.2.2.2.2.2.2.2.2.2.2.2.1,pz y69.2.2.2.2.2.2.2.2.2.2.2.2.2.2.2.2.2.2.2.1,pz y69.2.2.2.2.2.2.2.2.2.2.2.2.2.2.2.2.2.2.2.2.1,pz y69.2.2.2.2.2.2.2.2.2.2.2.2.2.2.2.2.2.2.2.2.2.1,pz y69.2.2.2.2.2.2.2.2.2.2.2.2.2.2.2.2.2.2.2.2.2.2.1,pz y69.2.2.2.2.2.2.2.2.2.2.2.2.2.2.2.2.2.2.2.2.2.2.2])],[],3⟩)
 (.br (((a0.Shapes.getD ((x53.2).toNat) default).Link) !=(-1))
 (.grd (0≤((a0.Shapes.getD ((x53.2).toNat) default).Link)/\((a0.Shapes.getD ((x53.2).toNat) default).Link)<(y16.length:Int))<|
 .ret (.out ((y16.getD (((a0.Shapes.getD ((x53.2).toNat) default).Link).toNat) default).R.1.1.Lo,(y16.getD (((a0.Shapes.getD ((x53.2).toNat) default).Link).toNat) default).R.1.1.Hi,(y16.getD (((a0.Shapes.getD ((x53.2).toNat) default).Link).toNat) default).R.1.2.1.Lo,(y16.getD (((a0.Shapes.getD ((x53.2).toNat) default).Link).toNat) default).R.1.2.1.Hi,(y16.getD (((a0.Shapes.getD ((x53.2).toNat) default).Link).toNat) default).R.1.2.2.Lo,(y16.getD (((a0.Shapes.getD ((x53.2).toNat) default).Link).toNat) default).R.1.2.2.Hi,(y16.getD (((a0.Shapes.getD ((x53.2).toNat) default).Link).toNat) default).R.2.1.1.Lo,(y16.getD (((a0.Shapes.getD ((x53.2).toNat) default).Link).toNat) default).R.2.1.1.Hi,(y16.getD (((a0.Shapes.getD ((x53.2).toNat) default).Link).toNat) default).R.2.1.2.1.Lo,(y16.getD (((a0.Shapes.getD ((x53.2).toNat) default).Link).toNat) default).R.2.1.2.1.Hi,(y16.getD (((a0.Shapes.getD ((x53.2).toNat) default).Link).toNat) default).R.2.1.2.2.Lo,(y16.getD (((a0.Shapes.getD ((x53.2).toNat) default).Link).toNat) default).R.2.1.2.2.Hi,(y16.getD (((a0.Shapes.getD ((x53.2).toNat) default).Link).toNat) default).R.2.2.1.Lo,(y16.getD (((a0.Shapes.getD ((x53.2).toNat) default).Link).toNat) default).R.2.2.1.Hi,(y16.getD (((a0.Shapes.getD ((x53.2).toNat) default).Link).toNat) default).R.2.2.2.1.Lo,(y16.getD (((a0.Shapes.getD ((x53.2).toNat) default).Link).toNat) default).R.2.2.2.1.Hi,(y16.getD (((a0.Shapes.getD ((x53.2).toNat) default).Link).toNat) default).R.2.2.2.2.Lo,(y16.getD (((a0.Shapes.getD ((x53.2).toNat) default).Link).toNat) default).R.2.2.2.2.Hi,(y16.getD (((a0.Shapes.getD ((x53.2).toNat) default).Link).toNat) default).T.1.Lo,(y16.getD (((a0.Shapes.getD ((x53.2).toNat) default).Link).toNat) default).T.1.Hi,(y16.getD (((a0.Shapes.getD ((x53.2).toNat) default).Link).toNat) default).T.2.1.Lo,(y16.getD (((a0.Shapes.getD ((x53.2).toNat) default).Link).toNat) default).T.2.1.Hi,(y16.getD (((a0.Shapes.getD ((x53.2).toNat) default).Link).toNat) default).T.2.2.Lo,(y16.getD (((a0.Shapes.getD ((x53.2).toNat) default).Link).toNat) default).T.2.2.Hi)))
 (.ret (.out (y68.R.1.1.Lo,y68.R.1.1.Hi,y68.R.1.2.1.Lo,y68.R.1.2.1.Hi,y68.R.1.2.2.Lo,y68.R.1.2.2.Hi,y68.R.2.1.1.Lo,y68.R.2.1.1.Hi,y68.R.2.1.2.1.Lo,y68.R.2.1.2.1.Hi,y68.R.2.1.2.2.Lo,y68.R.2.1.2.2.Hi,y68.R.2.2.1.Lo,y68.R.2.2.1.Hi,y68.R.2.2.2.1.Lo,y68.R.2.2.2.1.Hi,y68.R.2.2.2.2.Lo,y68.R.2.2.2.2.Hi,y68.T.1.Lo,y68.T.1.Hi,y68.T.2.1.Lo,y68.T.2.1.Hi,y68.T.2.2.Lo,y68.T.2.2.Hi)))) fun y69=>
 .call (Dz7 (a0.Shapes.getD ((x53.2).toNat) default) (⟨(((⟨y69.1,y69.2.1⟩:az0),(⟨y69.2.2.1,y69.2.2.2.1⟩:az0),(⟨y69.2.2.2.2.1,y69.2.2.2.2.2.1⟩:az0)),((⟨y69.2.2.2.2.2.2.1,y69.2.2.2.2.2.2.2.1⟩:az0),(⟨y69.2.2.2.2.2.2.2.2.1,y69.2.2.2.2.2.2.2.2.2.1⟩:az0),(⟨y69.2.2.2.2.2.2.2.2.2.2.1,y69.2.2.2.2.2.2.2.2.2.2.2.1⟩:az0)),((⟨y69.2.2.2.2.2.2.2.2.2.2.2.2.1,y69.2.2.2.2.2.2.2.2.2.2.2.2.2.1⟩:az0),(⟨y69.2.2.2.2.2.2.2.2.2.2.2.2.2.2.1,y69.2.2.2.2.2.2.2.2.2.2.2.2.2.2.2.1⟩:az0),(⟨y69.2.2.2.2.2.2.2.2.2.2.2.2.2.2.2.2.1,y69.2.2.2.2.2.2.2.2.2.2.2.2.2.2.2.2.2.1⟩:az0))),((⟨y69.2.2.2.2.2.2.2.2.2.2.2.2.2.2.2.2.2.2.1,y69.2.2.2.2.2.2.2.2.2.2.2.2.2.2.2.2.2.2.2.1⟩:az0),(⟨y69.2.2.2.2.2.2.2.2.2.2.2.2.2.2.2.2.2.2.2.2.1,y69.2.2.2.2.2.2.2.2.2.2.2.2.2.2.2.2.2.2.2.2.2.1⟩:az0),(⟨y69.2.2.2.2.2.2.2.2.2.2.2.2.2.2.2.2.2.2.2.2.2.2.1,y69.2.2.2.2.2.2.2.2.2.2.2.2.2.2.2.2.2.2.2.2.2.2.2⟩:az0))⟩:azr)) [] fun y70=>
 .grd (0≤x53.2/\x53.2<(x53.1.length:Int))<|
 .conv 11006 (hz1 1 (encL 6 az2) x53.1 176 ((x53.2).toNat) y70)<|
 .grd ((x53.2).toNat<x53.1.length/\0≤(x53.2).toNat)<|
 .ret (.next ((x53.1.set ((x53.2).toNat) y70),(i64.wrap (x53.2+1)))))
 (.ret (.out x53.1)))
 ((List.replicate ((a0.Shapes.length:Int)).toNat (nl:As)),0) [] fun y62=>
 .ret y62)
noncomputable def ozj (c)(d):=
 mkD Tryz.func147 (izu c d) 0 [.pure (bzd c),.pure (encL 2 az7 d)] [] (fun r=>.pure (encL 1 (encL 6 az2) r)) (fun _=>[])
noncomputable def mzo (c:azb)(d:A7):T (bzx×Bool):=let e:=encL 2 az7 d;let f:=(d.length:Int);let g:Nat×Res:=(0,.box [.pure (encL 12 azd c.Robot.Joints),.pure (encL 5 azg c.Robot.Masses),.pure (encL 3 azh c.Shapes),.pure (encL 2 azo c.Skips)]);.cut 2 (fun (h:Bool)=>⟨[(1,.pure e),(2,.ptr 0 0),(4,.ptr 1 0),(19,.pure (.bool h))],[g,(1,.box [.vec 2,.vec 3,.vec 4]),(2,.nilv),(3,.nilv),(4,.nilv)],[],5⟩)
 (.cc (ezb c) fun h=>
 .br (h !=0)
 (.oo true)
 (.oo (f !=(c.Robot.Joints.length:Int)))) fun h=>
 .br h
 (.ret ((⟨nl,nl,nl⟩:bzx),false))
 (.loop (fun (i:Int)=>⟨[(1,.pure e),(2,.ptr 0 0),(4,.ptr 1 0),(21,.pure e),(22,pz f),(23,pz i)],[g,(1,.box [.vec 2,.vec 3,.vec 4]),(2,.nilv),(3,.nilv),(4,.nilv)],[],5⟩)
 (.exit 0) (fun (_:U0)=>⟨[(1,.pure e),(2,.ptr 0 0),(4,.ptr 1 0)],[g,(1,.box [.vec 2,.vec 3,.vec 4]),(2,.nilv),(3,.nilv),(4,.nilv)],[],5⟩)
 (fun i=>.br (decide (i<f))
 (.gh i d.length<|
 .cc (bzw (d.getD (i.toNat) default)) fun j=>
 .br (!j)
 (.ff ((⟨nl,nl,nl⟩:bzx),false))
 (.nn (i64.wrap (i+1))))
 (.oo .u))
 0 [] fun _=>
 .cc (Dz4 c) fun i=>
 .cc (ozj (⟨c.Robot,c.Shapes,c.Skips⟩:azb) d) fun j=>
 .ret ((⟨c.Shapes,i,j⟩:bzx),true))
noncomputable def mzn (c)(d):=
 mkD Tryz.func115 (mzo c d) 0 [.pure (bzd c),.pure (encL 2 az7 d)] [] (fun r=>.tup [.pure (kzy r.1),.pure (.bool r.2)]) (fun _=>[])
noncomputable def jz8 (c:bzx)(d:Int):T fzi:=let e:=c.pairs.getD (d.toNat) default;let f:=e.A;let g:=e.B;.gh d c.pairs.length<|
 .gh f c.points.length<|
 .gh f c.shapes.length<|
 .gh g c.points.length<|
 .gh g c.shapes.length<|
 .ret (⟨(c.points.getD (f.toNat) default),(c.points.getD (g.toNat) default),(c.shapes.getD (f.toNat) default).Radius,(c.shapes.getD (g.toNat) default).Radius⟩:fzi)
noncomputable def nzk (c)(d):=
 mkD Tryz.func116 (jz8 c d) 0 [.pure (kzy c),pz d] [] (fun r=>.pure (Azp r)) (fun _=>[])
noncomputable def zzd (c:As)(d:Int)(e:As)(f:Int)(g:Am):T (As×As×Int×Int×Am):=
 .ret (c,e,d,f,g)
noncomputable def hzy (c)(d)(e)(f)(g):=
 mkD Tryz.func149 (zzd c d e f g) 0 [.pure (encL 6 az2 c),pz d,.pure (encL 6 az2 e),pz f,.pure (encL 3 az1 g)] [] (fun _=>.func 186 [] [.ptr 0 0,.ptr 1 0,.ptr 2 0,.ptr 3 0,.ptr 4 0]) (fun r=>[(0,.box [.pure (encL 6 az2 r.1)]),(1,.box [.pure (encL 6 az2 r.2.1)]),(2,.box [pz r.2.2.1]),(3,.box [pz r.2.2.2.1]),(4,.box [.pure (encL 3 az1 r.2.2.2.2)])])
noncomputable def Pzm (c:As)(d:Int)(e:As)(f:Int):T dz6:=
 .ret (⟨(⟨c,d⟩:fz4),(⟨e,f⟩:fz4)⟩:dz6)
noncomputable def Fzh (c)(d)(e)(f):=
 mkD Tryz.func192 (Pzm c d e f) 0 [.pure (encL 6 az2 c),pz d,.pure (encL 6 az2 e),pz f] [] (fun r=>.pure (ozc r)) (fun _=>[])
noncomputable def sze (c:As):T Bool:=let d:=encL 6 az2 c;let e:=(c.length:Int);.cut 2 (fun (f:Bool)=>⟨[(0,.pure d),(14,.pure (.bool f))],[],[],0⟩)
 (.br (decide (e<1))
 (.oo true)
 (.oo (decide (e>8)))) fun f=>
 .br f
 (.ret false)
 (.loop (fun (g:Int)=>⟨[(15,.pure d),(16,pz e),(17,pz g)],[],[],0⟩)
 (.exit 0) (fun (_:U0)=>⟨[],[],[],0⟩)
 (fun g=>let h:=c.getD (g.toNat) default;let i:=az2 h;.br (decide (g<e))
 (.gh g c.length<|
 .unroll 4<|
 .known true<|
 .ix 0 3 rfl<|
 .cut 0 (fun (j:Bool)=>⟨[(15,.pure d),(16,pz e),(17,pz g),(21,.pure i),(22,pz 0),(39,.pure (.bool j))],[],[],0⟩)
 (.br (decide ((h.1.Lo)<(-268435456)))
 (.oo true)
 (.br (decide ((h.1.Lo)>(h.1.Hi)))
 (.oo true)
 (.oo (decide ((h.1.Hi)>268435456))))) fun j=>
 .br j
 (.ff false)
 (.lit 11000 (1)<|
 .known true<|
 .ix 1 3 rfl<|
 .cut 0 (fun (k:Bool)=>⟨[(15,.pure d),(16,pz e),(17,pz g),(21,.pure i),(22,pz 1),(39,.pure (.bool k))],[],[],0⟩)
 (.br (decide ((h.2.1.Lo)<(-268435456)))
 (.oo true)
 (.br (decide ((h.2.1.Lo)>(h.2.1.Hi)))
 (.oo true)
 (.oo (decide ((h.2.1.Hi)>268435456))))) fun k=>
 .br k
 (.ff false)
 (.lit 11000 (2)<|
 .known true<|
 .ix 2 3 rfl<|
 .cut 0 (fun (m:Bool)=>⟨[(15,.pure d),(16,pz e),(17,pz g),(21,.pure i),(22,pz 2),(39,.pure (.bool m))],[],[],0⟩)
 (.br (decide ((h.2.2.Lo)<(-268435456)))
 (.oo true)
 (.br (decide ((h.2.2.Lo)>(h.2.2.Hi)))
 (.oo true)
 (.oo (decide ((h.2.2.Hi)>268435456))))) fun m=>
 .br m
 (.ff false)
 (.lit 11000 (3)<|
 .known false<|
 .nn (i64.wrap (g+1))))))
 (.oo .u))
 0 [] fun _=>
 .ret true)
noncomputable def dz5 (c):=
 mkD Tryz.func154 (sze c) 0 [.pure (encL 6 az2 c)] [] (fun r=>.pure (.bool r)) (fun _=>[])
noncomputable def yzp (c:fz4):T Bool:=
 .cc (dz5 c.points) fun d=>
 .br d
 (.br (decide (0≤c.radius))
 (.ret (decide (c.radius≤1048576)))
 (.ret false))
 (.ret false)
noncomputable def yzo (c):=
 mkD Tryz.func256 (yzp c) 0 [.pure (Jzl c)] [] (fun r=>.pure (.bool r)) (fun _=>[])
noncomputable def lzp (c:Al):T Bool:=
 .loop (fun (d:Int)=>⟨[(5,.pure (az1 c)),(6,pz d)],[],[],0⟩)
 (.exit 0) (fun (_:U0)=>⟨[],[],[],0⟩)
 (fun d=>let e:=([c.1,c.2.1,c.2.2]:List Int).getD d.toNat 0;.br (decide (d<3))
 (.gh d 3<|
 .cut 0 (fun (f:Bool)=>⟨[(5,.pure (az1 c)),(6,pz d),(14,.pure (.bool f))],[],[],0⟩)
 (.br (decide (e<(-16384)))
 (.oo true)
 (.oo (decide (e>16384)))) fun f=>
 .br f
 (.ff false)
 (.nn (i64.wrap (d+1))))
 (.oo .u))
 0 [] fun _=>
 .ret true
noncomputable def ezq (c):=
 mkD Tryz.func234 (lzp c) 0 [.pure (az1 c)] [] (fun r=>.pure (.bool r)) (fun _=>[])
noncomputable def nzb (c:Al):T Bool:=
 .cc (ezq c) fun d=>
 .br d
 (.ret (!((c.1==0)&&((c.2.1==0)&&((c.2.2==0)&&true)))))
 (.ret false)
noncomputable def fz2 (c):=
 mkD Tryz.func188 (nzb c) 0 [.pure (az1 c)] [] (fun r=>.pure (.bool r)) (fun _=>[])
noncomputable def Dzj (c:Al):T Al:=
 .ret (c.1,c.2.1,c.2.2)
noncomputable def qzl (c):=
 mkD Tryz.func278 (Dzj c) 0 [.pure (az1 c)] [] (fun _=>.agg [.func 290 [] [.ptr 0 0],.func 292 [] []]) (fun r=>[(0,.box [pz r.1,pz r.2.1,pz r.2.2])])
noncomputable def vzi (c:Al)(d:Ar):T Ah:=let e:=i64.wrap (c.1 * d.1.Lo);let f:=i64.wrap (c.1 * d.1.Hi);let g:=i64.wrap (c.2.1 * d.2.1.Lo);let h:=i64.wrap (c.2.1 * d.2.1.Hi);let i:=i64.wrap (c.2.2 * d.2.2.Lo);let j:=i64.wrap (c.2.2 * d.2.2.Hi);.unroll 4<|
 .known true<|
 .ix 0 3 rfl<|
 .ix 0 3 rfl<|
 .ix 0 3 rfl<|
 .name 6004 ((i64.wrap (0+(min e f)))) fun k=>
 .name 7004 ((i64.wrap (0+(max e f)))) fun m=>
 .lit 8000 (1)<|
 .known true<|
 .ix 1 3 rfl<|
 .ix 1 3 rfl<|
 .ix 1 3 rfl<|
 .name 6004 ((i64.wrap (k+(min g h)))) fun n=>
 .name 7004 ((i64.wrap (m+(max g h)))) fun s=>
 .lit 8000 (2)<|
 .known true<|
 .ix 2 3 rfl<|
 .ix 2 3 rfl<|
 .ix 2 3 rfl<|
 .name 6004 ((i64.wrap (n+(min i j)))) fun t=>
 .name 7004 ((i64.wrap (s+(max i j)))) fun w=>
 .lit 8000 (3)<|
 .known false<|
 .ret (t,w)
noncomputable def vzh (c)(d):=
 mkD Tryz.func291 (vzi c d) 0 [.pure (az1 c),.pure (az2 d)] [] (fun r=>.tup [pz r.1,pz r.2]) (fun _=>[])
noncomputable def iz1 (c:Ar)(d:Int)(e:Int)(f:Int):T B0:=
 .cc (vzh (d,e,f) ((⟨c.1.Lo,c.1.Hi⟩:az0),(⟨c.2.1.Lo,c.2.1.Hi⟩:az0),(⟨c.2.2.Lo,c.2.2.Hi⟩:az0))) fun g=>
 .ret (g.1,d,e,f)
noncomputable def nzg (c)(d)(e)(f):=
 mkD Tryz.func290 (iz1 c d e f) 1 [.pure (az2 c),.ptr 0 0] [(0,.box [pz d,pz e,pz f])] (fun r=>pz r.1) (fun r=>[(0,.box [pz r.2.1,pz r.2.2.1,pz r.2.2.2])])
noncomputable def zze (c:Int)(d:Int):T Bool:=
 .ret (decide (c<d))
noncomputable def nzh (c)(d):=
 mkD Tryz.func292 (zze c d) 0 [pz c,pz d] [] (fun r=>.pure (.bool r)) (fun _=>[])
noncomputable def mzr (c:Int)(d:Int)(e:Int)(f:As):T B1:=let g:=encL 6 az2 f;let h:=(f.length:Int);.loop (fun (i:B2)=>⟨[(2,.ptr 1 0),(6,pz i.2.2.2.1),(7,pz i.2.2.2.2.1),(11,.pure g),(12,pz h),(13,pz i.2.2.2.2.2)],[(0,.box [pz i.1,pz i.2.1,pz i.2.2.1]),(1,.box [.func 290 [] [.ptr 0 0],.func 292 [] []])],[],2⟩)
 (.exit 0) (fun (i:B1)=>⟨[(6,pz i.2.2.2.1),(7,pz i.2.2.2.2)],[(0,.box [pz i.1,pz i.2.1,pz i.2.2.1])],[],1⟩)
 (fun i=>.br (decide (i.2.2.2.2.2<h))
 (.cut 0 (fun (j:B1)=>⟨[(2,.ptr 1 0),(6,pz j.2.2.2.1),(7,pz j.2.2.2.2),(11,.pure g),(12,pz h),(13,pz i.2.2.2.2.2)],[(0,.box [pz j.1,pz j.2.1,pz j.2.2.1]),(1,.box [.func 290 [] [.ptr 0 0],.func 292 [] []])],[],2⟩)
 (.gh i.2.2.2.2.2 f.length<|
 .call (nzg (f.getD ((i.2.2.2.2.2).toNat) default) i.1 i.2.1 i.2.2.1) [(0,0)] fun j=>
 .cut 0 (fun (k:Bool)=>⟨[(2,.ptr 1 0),(6,pz i.2.2.2.1),(7,pz i.2.2.2.2.1),(8,pz i.2.2.2.2.2),(10,pz j.1),(11,.pure g),(12,pz h),(13,pz i.2.2.2.2.2),(30,.pure (.bool k))],[(0,.box [pz j.2.1,pz j.2.2.1,pz j.2.2.2]),(1,.box [.func 290 [] [.ptr 0 0],.func 292 [] []])],[],2⟩)
 (.br (i.2.2.2.2.2==0)
 (.oo true)
 (.cc (nzh j.1 i.2.2.2.1) fun k=>
 .oo k)) fun k=>
 .br k
 (.oo (j.2.1,j.2.2.1,j.2.2.2,j.1,i.2.2.2.2.2))
 (.oo (j.2.1,j.2.2.1,j.2.2.2,i.2.2.2.1,i.2.2.2.2.1))) fun j=>
 .nn (j.1,j.2.1,j.2.2.1,j.2.2.2.1,j.2.2.2.2,(i64.wrap (i.2.2.2.2.2+1))))
 (.oo (i.1,i.2.1,i.2.2.1,i.2.2.2.1,i.2.2.2.2.1)))
 (c,d,e,0,0,0) [] fun i=>
 .ret (i.2.2.2.1,i.2.2.2.2,i.1,i.2.1,i.2.2.1)
noncomputable def vzs (c)(d)(e)(f):=
 mkD Tryz.func279 (mzr c d e f) 1 [.agg [.func 290 [] [.ptr 0 0],.func 292 [] []],.pure (encL 6 az2 f)] [(0,.box [pz c,pz d,pz e])] (fun r=>.tup [pz r.1,pz r.2.1]) (fun r=>[(0,.box [pz r.2.2.1,pz r.2.2.2.1,pz r.2.2.2.2])])
noncomputable def pzf (c:Al)(d:As):T Aw:=
 .cut 2 (fun (e:Bool)=>⟨[(1,.pure (encL 6 az2 d)),(2,.ptr 0 0),(16,.pure (.bool e))],[(0,.box [pz c.1,pz c.2.1,pz c.2.2])],[],1⟩)
 (.cc (fz2 c) fun e=>
 .br (!e)
 (.oo true)
 (.cc (dz5 d) fun f=>
 .oo (!f))) fun e=>
 .br e
 (.ret (0,0,false))
 (.cc (qzl (c.1,c.2.1,c.2.2)) fun f=>
 .call (vzs f.1 f.2.1 f.2.2 d) [(0,65)] fun g=>
 .ret (g.1,g.2.1,true))
noncomputable def yzr (c)(d):=
 mkD Tryz.func257 (pzf c d) 0 [.pure (az1 c),.pure (encL 6 az2 d)] [] (fun r=>.tup [pz r.1,pz r.2.1,.pure (.bool r.2.2)]) (fun _=>[])
noncomputable def Gzj (c:Al):T Al:=
 .ret (c.1,c.2.1,c.2.2)
noncomputable def wz7 (c):=
 mkD Tryz.func280 (Gzj c) 0 [.pure (az1 c)] [] (fun _=>.agg [.func 293 [] [.ptr 0 0],.func 294 [] []]) (fun r=>[(0,.box [pz r.1,pz r.2.1,pz r.2.2])])
noncomputable def kzn (c:Ar)(d:Int)(e:Int)(f:Int):T B0:=
 .cc (vzh (d,e,f) c) fun g=>
 .ret (g.2,d,e,f)
noncomputable def qzm (c)(d)(e)(f):=
 mkD Tryz.func293 (kzn c d e f) 1 [.pure (az2 c),.ptr 0 0] [(0,.box [pz d,pz e,pz f])] (fun r=>pz r.1) (fun r=>[(0,.box [pz r.2.1,pz r.2.2.1,pz r.2.2.2])])
noncomputable def Dzk (c:Int)(d:Int):T Bool:=
 .ret (decide (c>d))
noncomputable def qzn (c)(d):=
 mkD Tryz.func294 (Dzk c d) 0 [pz c,pz d] [] (fun r=>.pure (.bool r)) (fun _=>[])
noncomputable def jzc (c:Int)(d:Int)(e:Int)(f:As):T B1:=let g:=encL 6 az2 f;let h:=(f.length:Int);.loop (fun (i:B2)=>⟨[(2,.ptr 1 0),(6,pz i.2.2.2.1),(7,pz i.2.2.2.2.1),(11,.pure g),(12,pz h),(13,pz i.2.2.2.2.2)],[(0,.box [pz i.1,pz i.2.1,pz i.2.2.1]),(1,.box [.func 293 [] [.ptr 0 0],.func 294 [] []])],[],2⟩)
 (.exit 0) (fun (i:B1)=>⟨[(6,pz i.2.2.2.1),(7,pz i.2.2.2.2)],[(0,.box [pz i.1,pz i.2.1,pz i.2.2.1])],[],1⟩)
 (fun i=>.br (decide (i.2.2.2.2.2<h))
 (.cut 0 (fun (j:B1)=>⟨[(2,.ptr 1 0),(6,pz j.2.2.2.1),(7,pz j.2.2.2.2),(11,.pure g),(12,pz h),(13,pz i.2.2.2.2.2)],[(0,.box [pz j.1,pz j.2.1,pz j.2.2.1]),(1,.box [.func 293 [] [.ptr 0 0],.func 294 [] []])],[],2⟩)
 (.gh i.2.2.2.2.2 f.length<|
 .call (qzm (f.getD ((i.2.2.2.2.2).toNat) default) i.1 i.2.1 i.2.2.1) [(0,0)] fun j=>
 .cut 0 (fun (k:Bool)=>⟨[(2,.ptr 1 0),(6,pz i.2.2.2.1),(7,pz i.2.2.2.2.1),(8,pz i.2.2.2.2.2),(10,pz j.1),(11,.pure g),(12,pz h),(13,pz i.2.2.2.2.2),(30,.pure (.bool k))],[(0,.box [pz j.2.1,pz j.2.2.1,pz j.2.2.2]),(1,.box [.func 293 [] [.ptr 0 0],.func 294 [] []])],[],2⟩)
 (.br (i.2.2.2.2.2==0)
 (.oo true)
 (.cc (qzn j.1 i.2.2.2.1) fun k=>
 .oo k)) fun k=>
 .br k
 (.oo (j.2.1,j.2.2.1,j.2.2.2,j.1,i.2.2.2.2.2))
 (.oo (j.2.1,j.2.2.1,j.2.2.2,i.2.2.2.1,i.2.2.2.2.1))) fun j=>
 .nn (j.1,j.2.1,j.2.2.1,j.2.2.2.1,j.2.2.2.2,(i64.wrap (i.2.2.2.2.2+1))))
 (.oo (i.1,i.2.1,i.2.2.1,i.2.2.2.1,i.2.2.2.2.1)))
 (c,d,e,0,0,0) [] fun i=>
 .ret (i.2.2.2.1,i.2.2.2.2,i.1,i.2.1,i.2.2.1)
noncomputable def pzo (c)(d)(e)(f):=
 mkD Tryz.func279 (jzc c d e f) 1 [.agg [.func 293 [] [.ptr 0 0],.func 294 [] []],.pure (encL 6 az2 f)] [(0,.box [pz c,pz d,pz e])] (fun r=>.tup [pz r.1,pz r.2.1]) (fun r=>[(0,.box [pz r.2.2.1,pz r.2.2.2.1,pz r.2.2.2.2])])
noncomputable def kzm (c:Al)(d:As):T Aw:=
 .cut 2 (fun (e:Bool)=>⟨[(1,.pure (encL 6 az2 d)),(2,.ptr 0 0),(16,.pure (.bool e))],[(0,.box [pz c.1,pz c.2.1,pz c.2.2])],[],1⟩)
 (.cc (fz2 c) fun e=>
 .br (!e)
 (.oo true)
 (.cc (dz5 d) fun f=>
 .oo (!f))) fun e=>
 .br e
 (.ret (0,0,false))
 (.cc (wz7 (c.1,c.2.1,c.2.2)) fun f=>
 .call (pzo f.1 f.2.1 f.2.2 d) [(0,65)] fun g=>
 .ret (g.1,g.2.1,true))
noncomputable def qzk (c)(d):=
 mkD Tryz.func258 (kzm c d) 0 [.pure (az1 c),.pure (encL 6 az2 d)] [] (fun r=>.tup [pz r.1,pz r.2.1,.pure (.bool r.2.2)]) (fun _=>[])
noncomputable def Ez4 (c:Int):T Int:=
 .cut 1 (fun (d:Ah)=>⟨[(0,.pure (.int .u64 d.1)),(2,pz d.2)],[],[],0⟩)
 (.br (decide (c≥4294967296))
 (.ok (0≤(32:Int)) (by decide)<|
 .oo ((c.fdiv (2 ^ (min (32:Int).toNat 64))),32))
 (.oo (c,0))) fun d=>
 .cut 0 (fun (e:Ah)=>⟨[(0,.pure (.int .u64 e.1)),(2,pz e.2)],[],[],0⟩)
 (.br (decide (d.1≥65536))
 (.ok (0≤(16:Int)) (by decide)<|
 .oo ((d.1.fdiv (2 ^ (min (16:Int).toNat 64))),(i64.wrap (d.2+16))))
 (.oo (d.1,d.2))) fun e=>
 .cut 0 (fun (f:Ah)=>⟨[(0,.pure (.int .u64 f.1)),(2,pz f.2)],[],[],0⟩)
 (.br (decide (e.1≥256))
 (.ok (0≤(8:Int)) (by decide)<|
 .oo ((e.1.fdiv (2 ^ (min (8:Int).toNat 64))),(i64.wrap (e.2+8))))
 (.oo (e.1,e.2))) fun f=>let g:=IntKind.u8.wrap f.1;
 .gh g ((⟨#[0,1,2,2,3,3,3,3,4,4,4,4,4,4,4,4,5,5,5,5,5,5,5,5,5,5,5,5,5,5,5,5,6,6,6,6,6,6,6,6,6,6,6,6,6,6,6,6,6,6,6,6,6,6,6,6,6,6,6,6,6,6,6,6,7,7,7,7,7,7,7,7,7,7,7,7,7,7,7,7,7,7,7,7,7,7,7,7,7,7,7,7,7,7,7,7,7,7,7,7,7,7,7,7,7,7,7,7,7,7,7,7,7,7,7,7,7,7,7,7,7,7,7,7,7,7,7,7,8,8,8,8,8,8,8,8,8,8,8,8,8,8,8,8,8,8,8,8,8,8,8,8,8,8,8,8,8,8,8,8,8,8,8,8,8,8,8,8,8,8,8,8,8,8,8,8,8,8,8,8,8,8,8,8,8,8,8,8,8,8,8,8,8,8,8,8,8,8,8,8,8,8,8,8,8,8,8,8,8,8,8,8,8,8,8,8,8,8,8,8,8,8,8,8,8,8,8,8,8,8,8,8,8,8,8,8,8,8,8,8,8,8,8,8,8,8,8,8,8,8,8,8,8,8,8,8]⟩:ByteArray).size)<|
 .name 10003 ((((⟨#[0,1,2,2,3,3,3,3,4,4,4,4,4,4,4,4,5,5,5,5,5,5,5,5,5,5,5,5,5,5,5,5,6,6,6,6,6,6,6,6,6,6,6,6,6,6,6,6,6,6,6,6,6,6,6,6,6,6,6,6,6,6,6,6,7,7,7,7,7,7,7,7,7,7,7,7,7,7,7,7,7,7,7,7,7,7,7,7,7,7,7,7,7,7,7,7,7,7,7,7,7,7,7,7,7,7,7,7,7,7,7,7,7,7,7,7,7,7,7,7,7,7,7,7,7,7,7,7,8,8,8,8,8,8,8,8,8,8,8,8,8,8,8,8,8,8,8,8,8,8,8,8,8,8,8,8,8,8,8,8,8,8,8,8,8,8,8,8,8,8,8,8,8,8,8,8,8,8,8,8,8,8,8,8,8,8,8,8,8,8,8,8,8,8,8,8,8,8,8,8,8,8,8,8,8,8,8,8,8,8,8,8,8,8,8,8,8,8,8,8,8,8,8,8,8,8,8,8,8,8,8,8,8,8,8,8,8,8,8,8,8,8,8,8,8,8,8,8,8,8,8,8,8,8,8,8]⟩:ByteArray).data.getD g.toNat 0).toNat:Int)) fun h=>
 .ret (i64.wrap (f.2+(i64.wrap h)))
noncomputable def lz5 (c):=
 mkD Tryz.func281 (Ez4 c) 0 [.pure (.int .u64 c)] [] (fun r=>pz r) (fun _=>[])
noncomputable def wzv (c:Int):T Int:=let d:=IntKind.u64.wrap c;.br (decide (c≤0))
 (.ret 0)
 (.cc (lz5 d) fun e=>let f:=i64.wrap ((i64.wrap (e+1)).tdiv 2);
 .ok ((2:Int)≠0) (by decide)<|
 .grd (0≤f)<|
 .loop (fun (g:Al)=>⟨[(0,pz c),(4,.pure (.int .u64 g.1)),(5,.pure (.int .u64 g.2.1)),(16,pz f),(17,pz g.2.2)],[],[],0⟩)
 (.exit 0) (fun (g:Int)=>⟨[(4,.pure (.int .u64 g))],[],[],0⟩)
 (fun g=>.br (decide (g.2.2<f))
 (.cut 0 (fun (h:Ah)=>⟨[(0,pz c),(4,.pure (.int .u64 h.1)),(5,.pure (.int .u64 h.2)),(16,pz f),(17,pz g.2.2)],[],[],0⟩)
 (.ok ((2:Int)≠0) (by decide)<|
 .name 7001 ((IntKind.u64.wrap (g.2.1.tdiv 2))) fun h=>let i:=IntKind.u64.wrap (g.1+h);
 .br (decide ((IntKind.u64.wrap (i * i))≤d))
 (.oo (i,h))
 (.oo (g.1,h))) fun h=>
 .nn (h.1,h.2,(i64.wrap (g.2.2+1))))
 (.oo g.1))
 (0,(IntKind.u64.wrap (1 * 2 ^ (min f.toNat 64))),0) [] fun g=>
 .ret (i64.wrap g))
noncomputable def wzu (c):=
 mkD Tryz.func259 (wzv c) 0 [pz c] [] (fun r=>pz r) (fun _=>[])
noncomputable def rz3 (c:Int):T Int:=
 .cc (wzu c) fun d=>
 .cut 0 (fun (e:Int)=>⟨[(3,pz e)],[],[],0⟩)
 (.br (decide ((i64.wrap (d * d))<c))
 (.oo (i64.wrap (d+1)))
 (.oo d)) fun e=>
 .ret e
noncomputable def zzl (c):=
 mkD Tryz.func240 (rz3 c) 0 [pz c] [] (fun r=>pz r) (fun _=>[])
noncomputable def szi (c:Al):T Int:=
 .cc (fz2 (c.1,c.2.1,c.2.2)) fun d=>
 .br (!d)
 (.ret 0)
 (.ix 0 3 rfl<|
 .ix 0 3 rfl<|
 .ix 1 3 rfl<|
 .ix 1 3 rfl<|
 .ix 2 3 rfl<|
 .ix 2 3 rfl<|
 .name 3016 ((i64.wrap ((i64.wrap ((i64.wrap (c.1 * c.1))+(i64.wrap (c.2.1 * c.2.1))))+(i64.wrap (c.2.2 * c.2.2))))) fun e=>
 .cc (zzl e) fun f=>
 .ret f)
noncomputable def szh (c):=
 mkD Tryz.func199 (szi c) 0 [.pure (az1 c)] [] (fun r=>pz r) (fun _=>[])
noncomputable def szf (c:dz6)(d:Al):T Ai:=
 .cut 2 (fun (e:Bool)=>⟨[(2,.ptr 0 0),(3,.ptr 1 0),(20,.pure (.bool e))],[(0,.box [.pure (encL 6 az2 c.a.points),pz c.a.radius,.pure (encL 6 az2 c.b.points),pz c.b.radius]),(1,.box [pz d.1,pz d.2.1,pz d.2.2])],[],2⟩)
 (.cc (yzo c.a) fun e=>
 .br (!e)
 (.oo true)
 (.cc (yzo c.b) fun f=>
 .oo (!f))) fun e=>
 .br e
 (.ret (0,false))
 (.cc (yzr (d.1,d.2.1,d.2.2) c.a.points) fun f=>
 .br (!f.2.2)
 (.ret (0,false))
 (.cc (qzk (d.1,d.2.1,d.2.2) c.b.points) fun g=>
 .br (!g.2.2)
 (.ret (0,false))
 (.cc (szh (d.1,d.2.1,d.2.2)) fun h=>
 .name 9013 ((i64.wrap ((i64.wrap (f.1-g.1))- (i64.wrap (h * (i64.wrap (c.a.radius+c.b.radius))))))) fun i=>
 .ret (i,true))))
noncomputable def Azg (c)(d):=
 mkD Tryz.func237 (szf c d) 0 [.pure (ozc c),.pure (az1 d)] [] (fun r=>.tup [pz r.1,.pure (.bool r.2)]) (fun _=>[])
noncomputable def lzn (c:dz6)(d:Al):T Bool:=
 .cc (Azg (⟨c.a,c.b⟩:dz6) (d.1,d.2.1,d.2.2)) fun e=>
 .br e.2
 (.ret (decide (e.1>0)))
 (.ret false)
noncomputable def tzb (c)(d):=
 mkD Tryz.func191 (lzn c d) 0 [.pure (ozc c),.pure (az1 d)] [] (fun r=>.pure (.bool r)) (fun _=>[])
noncomputable def lz9 (c:Al)(d:As)(e:Int)(f:As)(g:Int):T Bool:=
 .cc (Fzh d e f g) fun h=>
 .cc (tzb (⟨h.a,h.b⟩:dz6) (c.1,c.2.1,c.2.2)) fun i=>
 .ret i
noncomputable def lz8 (c)(d)(e)(f)(g):=
 mkD Tryz.func150 (lz9 c d e f g) 0 [.pure (az1 c),.pure (encL 6 az2 d),pz e,.pure (encL 6 az2 f),pz g] [] (fun r=>.pure (.bool r)) (fun _=>[])
noncomputable def jzt (c:Int):T Bool:=
 .br (decide (c≥0))
 (.ret (decide (c≤1048576)))
 (.ret false)
noncomputable def jzs (c):=
 mkD Tryz.func187 (jzt c) 0 [pz c] [] (fun r=>.pure (.bool r)) (fun _=>[])
noncomputable def rz7 (c:az0):T Int:=
 .cc (bzw c) fun d=>
 .br (!d)
 (.ret 0)
 (.cc (bz2 (i64.wrap (c.Lo+c.Hi)) 1) fun e=>
 .ret e)
noncomputable def iz6 (c):=
 mkD Tryz.func155 (rz7 c) 0 [.pure (az7 c)] [] (fun r=>pz r) (fun _=>[])
set_option maxHeartbeats 8000000 in
set_option maxRecDepth 20000 in
noncomputable def hza (c:As):T Am:=let d:=(c.length:Int);.cc (dz5 c) fun e=>
 .br (!e)
 (.ret nl)
 (.conv 3002 (Lzt 3 az1 78 d.toNat (0,0,0))<|
 .grd (0≤d/\d≤d/\d≤9223372036854775807/\d * 24≤140737488355328)<|
 .loop (fun (f:An)=>⟨[(3,.vec 0),(14,.pure (encL 6 az2 c)),(15,pz d),(16,pz f.2)],[(0,vecO 3 az1 f.1 78)],[],1⟩)
 (.exit 0) (fun (f:Am)=>⟨[(3,.vec 0)],[(0,vecO 3 az1 f 78)],[],1⟩)
 (fun f=>let g:=f.2;let h:=g.toNat;let i:=c.getD h default;let j:=f.1.getD h default;.br (decide (f.2<d))
 (.gh f.2 c.length<|
 .unroll 4<|
 .known true<|
 .ix 0 3 rfl<|
 .cc (iz6 (i.1)) fun k=>let m:=f.1.set h (k,j.2.1,j.2.2);let n:=m.getD h default;
 .gh f.2 f.1.length<|
 .ix 0 3 rfl<|
 .conv 10007 (hz1 3 az1 f.1 78 h (k,j.2.1,j.2.2))<|
 .gi g f.1.length<|
 .lit 11000 (1)<|
 .known true<|
 .ix 1 3 rfl<|
 .cc (iz6 (i.2.1)) fun s=>let t:=m.set h (n.1,s,n.2.2);let w:=t.getD h default;
 .gh f.2 (m.length)<|
 .ix 1 3 rfl<|
 .conv 10007 (hz1 3 az1 m 78 h (n.1,s,n.2.2))<|
 .gi g (m.length)<|
 .lit 11000 (2)<|
 .known true<|
 .ix 2 3 rfl<|
 .cc (iz6 (i.2.2)) fun y=>
 .gh f.2 (t.length)<|
 .ix 2 3 rfl<|
 .conv 10007 (hz1 3 az1 t 78 h (w.1,w.2.1,y))<|
 .gi g (t.length)<|
 .lit 11000 (3)<|
 .known false<|
 .nn ((t.set h (w.1,w.2.1,y)),(i64.wrap (f.2+1))))
 (.oo f.1))
 ((List.replicate d.toNat ((0,0,0):Al)),0) [] fun f=>
 .ret f)
noncomputable def czp (c):=
 mkD Tryz.func119 (hza c) 0 [.pure (encL 6 az2 c)] [] (fun r=>.pure (encL 3 az1 r)) (fun _=>[])
noncomputable def jzu (c:Am):T Al:=let d:=(c.length:Nat);.loop (fun (e:B0)=>⟨[(2,.ptr 0 0),(3,.ptr 1 0),(7,.pure (encL 3 az1 c)),(8,pz (d:Int)),(9,pz e.2.2.2)],[(0,.box [pz 0,pz 0,pz 0]),(1,.box [pz e.1,pz e.2.1,pz e.2.2.1])],[],2⟩)
 (.exit 0) (fun (e:Al)=>⟨[(2,.ptr 0 0),(3,.ptr 1 0)],[(0,.box [pz 0,pz 0,pz 0]),(1,.box [pz e.1,pz e.2.1,pz e.2.2])],[],2⟩)
 (fun e=>let f:=c.getD ((e.2.2.2).toNat) default;.br (decide (e.2.2.2<(d:Int)))
 (.gh e.2.2.2 c.length<|
 .unroll 4<|
 .known true<|
 .ix 0 3 rfl<|
 .ix 0 3 rfl<|
 .ix 0 3 rfl<|
 .lit 9000 (1)<|
 .known true<|
 .ix 1 3 rfl<|
 .ix 1 3 rfl<|
 .ix 1 3 rfl<|
 .lit 9000 (2)<|
 .known true<|
 .ix 2 3 rfl<|
 .ix 2 3 rfl<|
 .ix 2 3 rfl<|
 .lit 9000 (3)<|
 .known false<|
 .nn ((i64.wrap (e.1+(f.1))),(i64.wrap (e.2.1+(f.2.1))),(i64.wrap (e.2.2.1+(f.2.2))),(i64.wrap (e.2.2.2+1))))
 (.oo (e.1,e.2.1,e.2.2.1)))
 (0,0,0,0) [] fun e=>
 .ret (e.1,e.2.1,e.2.2)
noncomputable def nzp (c):=
 mkD Tryz.func236 (jzu c) 0 [.pure (encL 3 az1 c)] [] (fun r=>.pure (az1 r)) (fun _=>[])
noncomputable def gzg (c:Al):T Aq:=
 .loop (fun (d:Al)=>⟨[(1,.ptr 0 0),(2,.ptr 1 0)],[(0,.box [pz d.1,pz d.2.1,pz d.2.2]),(1,.box [pz 0,pz 0,pz 0])],[],2⟩)
 (.exit 0) (fun (d:Al)=>⟨[(1,.ptr 0 0),(2,.ptr 1 0)],[(0,.box [pz d.1,pz d.2.1,pz d.2.2]),(1,.box [pz 0,pz 0,pz 0])],[],2⟩)
 (fun d=>.cc (ezq (d.1,d.2.1,d.2.2)) fun e=>
 .br (!e)
 (.unroll 4<|
 .known true<|
 .ix 0 3 rfl<|
 .ok ((2:Int)≠0) (by decide)<|
 .ix 0 3 rfl<|
 .lit 6000 (1)<|
 .known true<|
 .ix 1 3 rfl<|
 .ok ((2:Int)≠0) (by decide)<|
 .ix 1 3 rfl<|
 .lit 6000 (2)<|
 .known true<|
 .ix 2 3 rfl<|
 .ok ((2:Int)≠0) (by decide)<|
 .ix 2 3 rfl<|
 .lit 6000 (3)<|
 .known false<|
 .nn ((i64.wrap (d.1.tdiv 2)),(i64.wrap (d.2.1.tdiv 2)),(i64.wrap (d.2.2.tdiv 2))))
 (.oo (d.1,d.2.1,d.2.2)))
 (c.1,c.2.1,c.2.2) [] fun d=>
 .ret ((d.1,d.2.1,d.2.2),(!((d.1==0)&&((d.2.1==0)&&((d.2.2==0)&&true)))))
noncomputable def izp (c):=
 mkD Tryz.func196 (gzg c) 0 [.pure (az1 c)] [] (fun r=>.tup [.pure (az1 r.1),.pure (.bool r.2)]) (fun _=>[])
noncomputable def iza (c:As)(d:As):T Aq:=let e:=(d.length:Int);let f:=(c.length:Int);.cut 3 (fun (g:Bool)=>⟨[(0,.pure (encL 6 az2 c)),(1,.pure (encL 6 az2 d)),(4,.ptr 0 0),(5,.ptr 1 0),(18,.pure (.bool g))],[(0,.box [pz 0,pz 0,pz 0]),(1,.box [.ff])],[.func 235 [] [.ptr 0 0,.ptr 1 0]],2⟩)
 (.cc (dz5 c) fun g=>
 .br (!g)
 (.oo true)
 (.cc (dz5 d) fun h=>
 .oo (!h))) fun g=>
 .br g
 (.ret ((0,0,0),false))
 (.cc (czp c) fun h=>
 .cc (nzp h) fun i=>
 .cc (czp d) fun j=>
 .cc (nzp j) fun k=>
 .unroll 4<|
 .known true<|
 .ix 0 3 rfl<|
 .ix 0 3 rfl<|
 .name 9013 ((i64.wrap ((i64.wrap (i.1 * e))- (i64.wrap (k.1 * f))))) fun m=>
 .ix 0 3 rfl<|
 .lit 10000 (1)<|
 .known true<|
 .ix 1 3 rfl<|
 .ix 1 3 rfl<|
 .name 9013 ((i64.wrap ((i64.wrap (i.2.1 * e))- (i64.wrap (k.2.1 * f))))) fun n=>
 .ix 1 3 rfl<|
 .lit 10000 (2)<|
 .known true<|
 .ix 2 3 rfl<|
 .ix 2 3 rfl<|
 .name 9013 ((i64.wrap ((i64.wrap (i.2.2 * e))- (i64.wrap (k.2.2 * f))))) fun s=>
 .ix 2 3 rfl<|
 .lit 10000 (3)<|
 .known false<|
 .cc (izp (m,n,s)) fun t=>
 .ret (t.1,t.2))
noncomputable def lzz (c)(d):=
 mkC [⟨235,az01⟩] hd Tryz.func189 (by kernel_rfl) (iza c d) 0 [.pure (encL 6 az2 c),.pure (encL 6 az2 d)] [] (fun r=>.tup [.pure (az1 r.1),.pure (.bool r.2)]) (fun _=>[]) (by kernel_rfl)
noncomputable def Jzr:T Am:=
 .conv 1006 (cz5 3 az1 ([(1,0,0),((-1),0,0),(0,1,0),(0,(-1),0),(0,0,1),(0,0,(-1))]:Am) 78)<|
 .ret ([(1,0,0),((-1),0,0),(0,1,0),(0,(-1),0),(0,0,1),(0,0,(-1))]:Am)
noncomputable def rzf:CallS Am:=
 mkD Tryz.func190 (Jzr) 0 [] [] (fun r=>.pure (encL 3 az1 r)) (fun _=>[])
noncomputable def gzc (c:Am):T Bool:=let d:=encL 3 az1 c;let e:=(c.length:Int);.cut 2 (fun (f:Bool)=>⟨[(0,.pure d),(14,.pure (.bool f))],[],[],0⟩)
 (.br (decide (e<1))
 (.oo true)
 (.oo (decide (e>8)))) fun f=>
 .br f
 (.ret false)
 (.loop (fun (g:Int)=>⟨[(15,.pure d),(16,pz e),(17,pz g)],[],[],0⟩)
 (.exit 0) (fun (_:U0)=>⟨[],[],[],0⟩)
 (fun g=>let h:=c.getD (g.toNat) default;.br (decide (g<e))
 (.gh g c.length<|
 .loop (fun (i:Int)=>⟨[(15,.pure d),(16,pz e),(17,pz g),(21,.pure (az1 h)),(22,pz i)],[],[],0⟩)
 (.exit 2) (fun (_:U0)=>⟨[(15,.pure d),(16,pz e),(17,pz g)],[],[],0⟩)
 (fun i=>.br (decide (i<3))
 (.gh i 3<|
 .name 8000 ((([h.1,h.2.1,h.2.2]:List Int).getD i.toNat 0)) fun j=>
 .cut 0 (fun (k:Bool)=>⟨[(15,.pure d),(16,pz e),(17,pz g),(21,.pure (az1 h)),(22,pz i),(30,.pure (.bool k))],[],[],0⟩)
 (.br (decide (j<(-268435456)))
 (.oo true)
 (.oo (decide (j>268435456)))) fun k=>
 .br k
 (.ff (.fin false))
 (.nn (i64.wrap (i+1))))
 (.oo .u))
 0 [] fun _=>
 .nn (i64.wrap (g+1)))
 (.oo .u))
 0 [] fun _=>
 .ret true)
noncomputable def izo (c):=
 mkD Tryz.func151 (gzc c) 0 [.pure (encL 3 az1 c)] [] (fun r=>.pure (.bool r)) (fun _=>[])
noncomputable def fzv (c:Am):T (Am×A0):=let d:=(c.length:Int);let e:=List.replicate d.toNat (0:Int);.conv 1002 (Lzt 1 az3 2 d.toNat 0)<|
 .grd (0≤d/\d≤d/\d≤9223372036854775807/\d * 8≤140737488355328)<|
 .gh (0:Int) (e.length)<|
 .conv 2002 (hz1 1 az3 e 2 ((0:Int).toNat) 65536)<|
 .gi (0:Int) (e.length)<|
 .ret (c,(e.set ((0:Int).toNat) 65536))
noncomputable def hzi (c):=
 mkD Tryz.func152 (fzv c) 0 [.pure (encL 3 az1 c)] [] (fun r=>.agg [.pure (encL 3 az1 r.1),.vec 0]) (fun r=>[(0,vecO 1 az3 r.2 2)])
noncomputable def szv (c:Am)(d:A0):T Al:=let e:=encL 3 az1 c;let f:=(c.length:Nat);.loop (fun (g:B0)=>⟨[(1,.ptr 1 0),(2,.ptr 2 0),(3,.ptr 3 0),(9,.pure e),(10,pz (f:Int)),(11,pz g.2.2.2)],[(0,vecO 1 az3 d 2),(1,.box [.pure e,.vec 0]),(2,.box [pz 0,pz 0,pz 0]),(3,.box [pz g.1,pz g.2.1,pz g.2.2.1])],[],4⟩)
 (.exit 0) (fun (g:Al)=>⟨[(2,.ptr 1 0),(3,.ptr 2 0)],[(0,vecO 1 az3 d 2),(1,.box [pz 0,pz 0,pz 0]),(2,.box [pz g.1,pz g.2.1,pz g.2.2])],[],3⟩)
 (fun g=>let h:=(g.2.2.2).toNat;let i:=c.getD h default;let j:=d.getD h default;.br (decide (g.2.2.2<(f:Int)))
 (.gh g.2.2.2 c.length<|
 .unroll 4<|
 .known true<|
 .ix 0 3 rfl<|
 .name 7001 (i.1) fun k=>
 .ix 0 3 rfl<|
 .gg g.2.2.2 d.length<|
 .name 8010 ((i64.wrap (g.1+(i64.wrap (j * k))))) fun m=>
 .ix 0 3 rfl<|
 .lit 9000 (1)<|
 .known true<|
 .ix 1 3 rfl<|
 .name 7001 (i.2.1) fun n=>
 .ix 1 3 rfl<|
 .gg g.2.2.2 d.length<|
 .name 8010 ((i64.wrap (g.2.1+(i64.wrap (j * n))))) fun s=>
 .ix 1 3 rfl<|
 .lit 9000 (2)<|
 .known true<|
 .ix 2 3 rfl<|
 .name 7001 (i.2.2) fun t=>
 .ix 2 3 rfl<|
 .gg g.2.2.2 d.length<|
 .name 8010 ((i64.wrap (g.2.2.1+(i64.wrap (j * t))))) fun w=>
 .ix 2 3 rfl<|
 .lit 9000 (3)<|
 .known false<|
 .nn (m,s,w,(i64.wrap (g.2.2.2+1))))
 (.oo (g.1,g.2.1,g.2.2.1)))
 (0,0,0,0) [] fun g=>
 .ret (g.1,g.2.1,g.2.2)
noncomputable def yzy (c)(d):=
 mkD Tryz.func194 (szv c d) 1 [.agg [.pure (encL 3 az1 c),.vec 0]] [(0,vecO 1 az3 d 2)] (fun r=>.pure (az1 r)) (fun _=>[(0,vecO 1 az3 d 2)])
noncomputable def Iz7 (c:Al)(d:Al):T Al:=
 .ix 0 3 rfl<|
 .ix 0 3 rfl<|
 .ix 1 3 rfl<|
 .ix 1 3 rfl<|
 .ix 2 3 rfl<|
 .ix 2 3 rfl<|
 .ret ((i64.wrap (c.1-d.1)),(i64.wrap (c.2.1-d.2.1)),(i64.wrap (c.2.2-d.2.2)))
noncomputable def jzq (c)(d):=
 mkD Tryz.func193 (Iz7 c d) 0 [.pure (az1 c),.pure (az1 d)] [] (fun r=>.pure (az1 r)) (fun _=>[])
noncomputable def fzu (c:Al)(d:Int):T Bool:=
 .loop (fun (e:Ah)=>⟨[(1,pz d),(5,pz e.1),(9,.pure (az1 c)),(10,pz e.2)],[],[],0⟩)
 (.exit 0) (fun (e:Int)=>⟨[(1,pz d),(5,pz e)],[],[],0⟩)
 (fun e=>let f:=([c.1,c.2.1,c.2.2]:List Int).getD (e.2).toNat 0;.br (decide (e.2<3))
 (.gh e.2 3<|
 .name 5003 ((max f (i64.wrap (0-f)))) fun g=>
 .cc (bz8 g 16) fun h=>
 .nn ((i64.wrap (e.1+(i64.wrap (h * h)))),(i64.wrap (e.2+1))))
 (.oo e.1))
 (0,0) [] fun e=>
 .ret (decide (e≤(i64.wrap (d * d))))
noncomputable def lz6 (c)(d):=
 mkD Tryz.func195 (fzu c d) 0 [.pure (az1 c),pz d] [] (fun r=>.pure (.bool r)) (fun _=>[])
noncomputable def Mzs (c:Al)(d:Al):T Int:=
 .ix 0 3 rfl<|
 .ix 0 3 rfl<|
 .ix 1 3 rfl<|
 .ix 1 3 rfl<|
 .ix 2 3 rfl<|
 .ix 2 3 rfl<|
 .name 1016 ((i64.wrap ((i64.wrap ((i64.wrap (c.1 * d.1))+(i64.wrap (c.2.1 * d.2.1))))+(i64.wrap (c.2.2 * d.2.2))))) fun e=>
 .ret e
noncomputable def gz6 (c)(d):=
 mkD Tryz.func239 (Mzs c d) 0 [.pure (az1 c),.pure (az1 d)] [] (fun r=>pz r) (fun _=>[])
noncomputable def mz8 (c:Am)(d:A0)(e:Al):T Ah:=let f:=encL 3 az1 c;let g:=(c.length:Int);let h:Nat×Res:=(1,.box [pz e.1,pz e.2.1,pz e.2.2]);.gh (0:Int) c.length<|
 .cc (gz6 e (c.getD ((0:Int).toNat) default)) fun i=>
 .loop (fun (j:Al)=>⟨[(3,.ptr 1 0),(6,pz j.1),(7,pz j.2.1),(20,.pure f),(21,pz g),(22,pz j.2.2)],[(0,vecO 1 az3 d 2),h],[],2⟩)
 (.exit 0) (fun (j:Ah)=>⟨[(6,pz j.1),(7,pz j.2)],[(0,vecO 1 az3 d 2)],[],1⟩)
 (fun j=>.br (decide (j.2.2<g))
 (.cut 0 (fun (k:Ah)=>⟨[(3,.ptr 1 0),(6,pz k.1),(7,pz k.2),(20,.pure f),(21,pz g),(22,pz j.2.2)],[(0,vecO 1 az3 d 2),h],[],2⟩)
 (.gh j.2.2 c.length<|
 .cc (gz6 e (c.getD ((j.2.2).toNat) default)) fun k=>
 .br (decide (k<j.1))
 (.oo (k,j.2.2))
 (.oo (j.1,j.2.1))) fun k=>
 .nn (k.1,k.2,(i64.wrap (j.2.2+1))))
 (.oo (j.1,j.2.1)))
 (i,0,0) [] fun j=>
 .ret (j.1,j.2)
noncomputable def xz3 (c)(d)(e):=
 mkD Tryz.func197 (mz8 c d e) 1 [.agg [.pure (encL 3 az1 c),.vec 0],.pure (az1 e)] [(0,vecO 1 az3 d 2)] (fun r=>.tup [pz r.1,pz r.2]) (fun _=>[(0,vecO 1 az3 d 2)])
noncomputable def gzf (c:Am)(d:A0)(e:Al):T Ah:=let f:=encL 3 az1 c;let g:=(c.length:Int);let h:Nat×Res:=(1,.box [pz e.1,pz e.2.1,pz e.2.2]);.gh (0:Int) c.length<|
 .cc (gz6 e (c.getD ((0:Int).toNat) default)) fun i=>
 .loop (fun (j:Al)=>⟨[(3,.ptr 1 0),(6,pz j.1),(7,pz j.2.1),(20,.pure f),(21,pz g),(22,pz j.2.2)],[(0,vecO 1 az3 d 2),h],[],2⟩)
 (.exit 0) (fun (j:Ah)=>⟨[(6,pz j.1),(7,pz j.2)],[(0,vecO 1 az3 d 2)],[],1⟩)
 (fun j=>.br (decide (j.2.2<g))
 (.cut 0 (fun (k:Ah)=>⟨[(3,.ptr 1 0),(6,pz k.1),(7,pz k.2),(20,.pure f),(21,pz g),(22,pz j.2.2)],[(0,vecO 1 az3 d 2),h],[],2⟩)
 (.gh j.2.2 c.length<|
 .cc (gz6 e (c.getD ((j.2.2).toNat) default)) fun k=>
 .br (decide (k>j.1))
 (.oo (k,j.2.2))
 (.oo (j.1,j.2.1))) fun k=>
 .nn (k.1,k.2,(i64.wrap (j.2.2+1))))
 (.oo (j.1,j.2.1)))
 (i,0,0) [] fun j=>
 .ret (j.1,j.2)
noncomputable def nz8 (c)(d)(e):=
 mkD Tryz.func198 (gzf c d e) 1 [.agg [.pure (encL 3 az1 c),.vec 0],.pure (az1 e)] [(0,vecO 1 az3 d 2)] (fun r=>.tup [pz r.1,pz r.2]) (fun _=>[(0,vecO 1 az3 d 2)])
noncomputable def iz9 (c:Al)(d:Al):T Int:=
 .cc (jzq c d) fun e=>
 .cc (gz6 c e) fun f=>
 .cc (gz6 e e) fun g=>let h:=i64.wrap (g.tdiv 256);
 .br (decide (f≤0))
 (.ret 0)
 (.ok ((256:Int)≠0) (by decide)<|
 .grd ((max 1 h)≠0)<|
 .ret (min 256 (i64.wrap (f.tdiv (max 1 h)))))
noncomputable def rze (c)(d):=
 mkD Tryz.func200 (iz9 c d) 0 [.pure (az1 c),.pure (az1 d)] [] (fun r=>pz r) (fun _=>[])
end Go.Abs
