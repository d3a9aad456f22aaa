/-
  M2 (a part of a claim: our own text).
-/
import Derived.Test.YtlalffdgimbodaaGreatYFM1
namespace Go.Abs
open IntKind (i64)
open Go.Proofs
noncomputable def qzm (c:Av)(d:Ar):T Ar:=
 .unroll 4<|
 .known true<|
 .unroll 4<|
 .known true<|
 .ix 0 3 rfl<|
 .ix 0 3 rfl<|
 .ix 0 3 rfl<|
 .ix 0 3 rfl<|
 .cc (azj c.1.1 d.1) fun e=>
 .cc (azh (⟨0,0⟩:az0) e) fun f=>
 .ix 0 3 rfl<|
 .lit 9000 (1)<|
 .known true<|
 .ix 0 3 rfl<|
 .ix 0 3 rfl<|
 .ix 1 3 rfl<|
 .ix 1 3 rfl<|
 .cc (azj c.1.2.1 d.2.1) fun g=>
 .cc (azh f g) fun h=>
 .ix 0 3 rfl<|
 .lit 9000 (2)<|
 .known true<|
 .ix 0 3 rfl<|
 .ix 0 3 rfl<|
 .ix 2 3 rfl<|
 .ix 2 3 rfl<|
 .cc (azj c.1.2.2 d.2.2) fun i=>
 .cc (azh h i) fun j=>
 .ix 0 3 rfl<|
 .lit 9000 (3)<|
 .known false<|
 .lit 10000 (1)<|
 .known true<|
 .unroll 4<|
 .known true<|
 .ix 1 3 rfl<|
 .ix 1 3 rfl<|
 .ix 0 3 rfl<|
 .ix 0 3 rfl<|
 .cc (azj c.2.1.1 d.1) fun k=>
 .cc (azh (⟨0,0⟩:az0) k) fun m=>
 .ix 1 3 rfl<|
 .lit 9000 (1)<|
 .known true<|
 .ix 1 3 rfl<|
 .ix 1 3 rfl<|
 .ix 1 3 rfl<|
 .ix 1 3 rfl<|
 .cc (azj c.2.1.2.1 d.2.1) fun n=>
 .cc (azh m n) fun s=>
 .ix 1 3 rfl<|
 .lit 9000 (2)<|
 .known true<|
 .ix 1 3 rfl<|
 .ix 1 3 rfl<|
 .ix 2 3 rfl<|
 .ix 2 3 rfl<|
 .cc (azj c.2.1.2.2 d.2.2) fun t=>
 .cc (azh s t) fun w=>
 .ix 1 3 rfl<|
 .lit 9000 (3)<|
 .known false<|
 .lit 10000 (2)<|
 .known true<|
 .unroll 4<|
 .known true<|
 .ix 2 3 rfl<|
 .ix 2 3 rfl<|
 .ix 0 3 rfl<|
 .ix 0 3 rfl<|
 .cc (azj c.2.2.1 d.1) fun y=>
 .cc (azh (⟨0,0⟩:az0) y) fun z=>
 .ix 2 3 rfl<|
 .lit 9000 (1)<|
 .known true<|
 .ix 2 3 rfl<|
 .ix 2 3 rfl<|
 .ix 1 3 rfl<|
 .ix 1 3 rfl<|
 .cc (azj c.2.2.2.1 d.2.1) fun aa=>
 .cc (azh z aa) fun ab=>
 .ix 2 3 rfl<|
 .lit 9000 (2)<|
 .known true<|
 .ix 2 3 rfl<|
 .ix 2 3 rfl<|
 .ix 2 3 rfl<|
 .ix 2 3 rfl<|
 .cc (azj c.2.2.2.2 d.2.2) fun ac=>
 .cc (azh ab ac) fun ad=>
 .ix 2 3 rfl<|
 .lit 9000 (3)<|
 .known false<|
 .lit 10000 (3)<|
 .known false<|
 .ret (j,w,ad)
noncomputable def zz1 (c)(d):=
 mkD Tryz.func273 (qzm c d) 0 [.pure (bz6 c),.pure (az2 d)] [] (fun r=>.pure (az2 r)) (fun _=>[])
noncomputable def wzl (c:Ar)(d:Ar):T Ar:=
 .unroll 4<|
 .known true<|
 .ix 0 3 rfl<|
 .ix 0 3 rfl<|
 .cc (azh c.1 d.1) fun e=>
 .ix 0 3 rfl<|
 .lit 6000 (1)<|
 .known true<|
 .ix 1 3 rfl<|
 .ix 1 3 rfl<|
 .cc (azh c.2.1 d.2.1) fun f=>
 .ix 1 3 rfl<|
 .lit 6000 (2)<|
 .known true<|
 .ix 2 3 rfl<|
 .ix 2 3 rfl<|
 .cc (azh c.2.2 d.2.2) fun g=>
 .ix 2 3 rfl<|
 .lit 6000 (3)<|
 .known false<|
 .ret (e,f,g)
noncomputable def Ezi (c)(d):=
 mkD Tryz.func272 (wzl c d) 0 [.pure (az2 c),.pure (az2 d)] [] (fun r=>.pure (az2 r)) (fun _=>[])
noncomputable def hzm (c:Ar)(d:Int)(e:Int)(f:Int)(g:Int)(h:Int)(i:Int)(j:Int)(k:Int)(m:Int)(n:Int)(s:Int)(t:Int)(w:Int)(y:Int)(z:Int)(aa:Int)(ab:Int)(ac:Int)(ad:Int)(ae:Int)(af:Int)(ag:Int)(ah:Int)(ai:Int):T (Ar×Int×Int×Int×Int×Int×Int×Int×Int×Int×Int×Int×Int×Int×Int×Int×Int×Int×Int×Int×Int×Int×Int×Int×Int):=
 .cc (zz1 (((⟨d,e⟩:az0),(⟨f,g⟩:az0),(⟨h,i⟩:az0)),((⟨j,k⟩:az0),(⟨m,n⟩:az0),(⟨s,t⟩:az0)),((⟨w,y⟩:az0),(⟨z,aa⟩:az0),(⟨ab,ac⟩:az0))) ((⟨c.1.Lo,c.1.Hi⟩:az0),(⟨c.2.1.Lo,c.2.1.Hi⟩:az0),(⟨c.2.2.Lo,c.2.2.Hi⟩:az0))) fun aj=>
 .cc (Ezi ((⟨ad,ae⟩:az0),(⟨af,ag⟩:az0),(⟨ah,ai⟩:az0)) aj) fun ak=>
 .ret (ak,d,e,f,g,h,i,j,k,m,n,s,t,w,y,z,aa,ab,ac,ad,ae,af,ag,ah,ai)
noncomputable def lzc (c)(d)(e)(f)(g)(h)(i)(j)(k)(m)(n)(s)(t)(w)(y)(z)(aa)(ab)(ac)(ad)(ae)(af)(ag)(ah)(ai):=
 mkD Tryz.func271 (hzm c d e f g h i j k m n s t w y z aa ab ac ad ae af ag ah ai) 1 [.pure (az2 c),.ptr 0 0] [(0,.box [pz d,pz e,pz f,pz g,pz h,pz i,pz j,pz k,pz m,pz n,pz s,pz t,pz w,pz y,pz z,pz aa,pz ab,pz ac,pz ad,pz ae,pz af,pz ag,pz ah,pz ai])] (fun r=>.pure (az2 r.1)) (fun r=>[(0,.box [pz r.2.1,pz r.2.2.1,pz r.2.2.2.1,pz r.2.2.2.2.1,pz r.2.2.2.2.2.1,pz r.2.2.2.2.2.2.1,pz r.2.2.2.2.2.2.2.1,pz r.2.2.2.2.2.2.2.2.1,pz r.2.2.2.2.2.2.2.2.2.1,pz r.2.2.2.2.2.2.2.2.2.2.1,pz r.2.2.2.2.2.2.2.2.2.2.2.1,pz r.2.2.2.2.2.2.2.2.2.2.2.2.1,pz r.2.2.2.2.2.2.2.2.2.2.2.2.2.1,pz r.2.2.2.2.2.2.2.2.2.2.2.2.2.2.1,pz r.2.2.2.2.2.2.2.2.2.2.2.2.2.2.2.1,pz r.2.2.2.2.2.2.2.2.2.2.2.2.2.2.2.2.1,pz r.2.2.2.2.2.2.2.2.2.2.2.2.2.2.2.2.2.1,pz r.2.2.2.2.2.2.2.2.2.2.2.2.2.2.2.2.2.2.1,pz r.2.2.2.2.2.2.2.2.2.2.2.2.2.2.2.2.2.2.2.1,pz r.2.2.2.2.2.2.2.2.2.2.2.2.2.2.2.2.2.2.2.2.1,pz r.2.2.2.2.2.2.2.2.2.2.2.2.2.2.2.2.2.2.2.2.2.1,pz r.2.2.2.2.2.2.2.2.2.2.2.2.2.2.2.2.2.2.2.2.2.2.1,pz r.2.2.2.2.2.2.2.2.2.2.2.2.2.2.2.2.2.2.2.2.2.2.2.1,pz r.2.2.2.2.2.2.2.2.2.2.2.2.2.2.2.2.2.2.2.2.2.2.2.2])])
noncomputable def qzt (c:azq)(d:azq):T azq:=
 .cc (pzi c) fun e=>
 .cc (vz2 c.R d.R) fun f=>
 .call (lzc d.T e.1 e.2.1 e.2.2.1 e.2.2.2.1 e.2.2.2.2.1 e.2.2.2.2.2.1 e.2.2.2.2.2.2.1 e.2.2.2.2.2.2.2.1 e.2.2.2.2.2.2.2.2.1 e.2.2.2.2.2.2.2.2.2.1 e.2.2.2.2.2.2.2.2.2.2.1 e.2.2.2.2.2.2.2.2.2.2.2.1 e.2.2.2.2.2.2.2.2.2.2.2.2.1 e.2.2.2.2.2.2.2.2.2.2.2.2.2.1 e.2.2.2.2.2.2.2.2.2.2.2.2.2.2.1 e.2.2.2.2.2.2.2.2.2.2.2.2.2.2.2.1 e.2.2.2.2.2.2.2.2.2.2.2.2.2.2.2.2.1 e.2.2.2.2.2.2.2.2.2.2.2.2.2.2.2.2.2.1 e.2.2.2.2.2.2.2.2.2.2.2.2.2.2.2.2.2.2.1 e.2.2.2.2.2.2.2.2.2.2.2.2.2.2.2.2.2.2.2.1 e.2.2.2.2.2.2.2.2.2.2.2.2.2.2.2.2.2.2.2.2.1 e.2.2.2.2.2.2.2.2.2.2.2.2.2.2.2.2.2.2.2.2.2.1 e.2.2.2.2.2.2.2.2.2.2.2.2.2.2.2.2.2.2.2.2.2.2.1 e.2.2.2.2.2.2.2.2.2.2.2.2.2.2.2.2.2.2.2.2.2.2.2) [(0,256)] fun g=>
 .ret (⟨(f.1,f.2.1,f.2.2),g.1⟩:azq)
noncomputable def hzk (c)(d):=
 mkD Tryz.func228 (qzt c d) 0 [.pure (bzc c),.pure (bzc d)] [] (fun r=>.pure (bzc r)) (fun _=>[])
noncomputable def vzo (c:Int)(d:az0):T azq:=
 .cut 2 (fun (e:B2)=>⟨[(4,.ptr 0 0),(5,.ptr 1 0)],[(0,.box [pz 0,pz 0,pz 0,pz 0,pz 0,pz 0,pz 0,pz 0,pz 0,pz 0,pz 0,pz 0,pz 0,pz 0,pz 0,pz 0,pz 0,pz 0,pz 0,pz 0,pz 0,pz 0,pz 0,pz 0]),(1,.box [pz e.1,pz e.2.1,pz e.2.2.1,pz e.2.2.2.1,pz e.2.2.2.2.1,pz e.2.2.2.2.2])],[],2⟩)
 (.cas 2000 c 0
 (.ix 0 3 rfl<|
 .oo (d.Lo,d.Hi,0,0,0,0))
 (.cas 2000 c 1
 (.ix 1 3 rfl<|
 .oo (0,0,d.Lo,d.Hi,0,0))
 (.cas 2000 c 2
 (.ix 2 3 rfl<|
 .oo (0,0,0,0,d.Lo,d.Hi))
 (.stop)))) fun e=>
 .cc (pzh ((⟨e.1,e.2.1⟩:az0),(⟨e.2.2.1,e.2.2.2.1⟩:az0),(⟨e.2.2.2.2.1,e.2.2.2.2.2⟩:az0))) fun f=>
 .ret f
noncomputable def Ez9 (c)(d):=
 mkD Tryz.func269 (vzo c d) 0 [pz c,.pure (az6 d)] [] (fun r=>.pure (bzc r)) (fun _=>[])
noncomputable def mze (c:az0):T Int:=
 .cc (bzt c) fun d=>
 .br (!d)
 (.ret 0)
 (.ret (i64.wrap (c.Hi-c.Lo)))
noncomputable def mzd (c):=
 mkD Tryz.func315 (mze c) 0 [.pure (az6 c)] [] (fun r=>pz r) (fun _=>[])
noncomputable def nzq (c:Int):T Int:=
 .ret (i64.wrap (((BitVec.ofInt 64 c&&&BitVec.ofInt 64 65535).toNat:Int)))
noncomputable def izf (c):=
 mkD Tryz.func318 (nzq c) 0 [pz c] [] (fun r=>pz r) (fun _=>[])
noncomputable def mz3 (c:Int):T (B5×B5):=
 .ix 0 11 rfl<|
 .ix 0 11 rfl<|
 .cc (azy (i64.wrap (c * 6746518852)) 16) fun d=>
 .ix 1 11 rfl<|
 .cc (bz5 (i64.wrap (c * 6746518853)) 16) fun e=>
 .ix 1 11 rfl<|
 .unroll 10<|
 .known true<|
 .lit 8002 (1)<|
 .ix 1 11 rfl<|
 .ix 1 11 rfl<|
 .cc (azy (i64.wrap (d * d)) 30) fun f=>
 .ix 2 11 rfl<|
 .lit 9002 (1)<|
 .ix 1 11 rfl<|
 .ix 1 11 rfl<|
 .cc (bz5 (i64.wrap (e * e)) 30) fun g=>
 .ix 2 11 rfl<|
 .lit 7001 (3)<|
 .known true<|
 .lit 8002 (2)<|
 .ix 2 11 rfl<|
 .ix 1 11 rfl<|
 .cc (azy (i64.wrap (f * d)) 30) fun h=>
 .ix 3 11 rfl<|
 .lit 9002 (2)<|
 .ix 2 11 rfl<|
 .ix 1 11 rfl<|
 .cc (bz5 (i64.wrap (g * e)) 30) fun i=>
 .ix 3 11 rfl<|
 .lit 7001 (4)<|
 .known true<|
 .lit 8002 (3)<|
 .ix 3 11 rfl<|
 .ix 1 11 rfl<|
 .cc (azy (i64.wrap (h * d)) 30) fun j=>
 .ix 4 11 rfl<|
 .lit 9002 (3)<|
 .ix 3 11 rfl<|
 .ix 1 11 rfl<|
 .cc (bz5 (i64.wrap (i * e)) 30) fun k=>
 .ix 4 11 rfl<|
 .lit 7001 (5)<|
 .known true<|
 .lit 8002 (4)<|
 .ix 4 11 rfl<|
 .ix 1 11 rfl<|
 .cc (azy (i64.wrap (j * d)) 30) fun m=>
 .ix 5 11 rfl<|
 .lit 9002 (4)<|
 .ix 4 11 rfl<|
 .ix 1 11 rfl<|
 .cc (bz5 (i64.wrap (k * e)) 30) fun n=>
 .ix 5 11 rfl<|
 .lit 7001 (6)<|
 .known true<|
 .lit 8002 (5)<|
 .ix 5 11 rfl<|
 .ix 1 11 rfl<|
 .cc (azy (i64.wrap (m * d)) 30) fun s=>
 .ix 6 11 rfl<|
 .lit 9002 (5)<|
 .ix 5 11 rfl<|
 .ix 1 11 rfl<|
 .cc (bz5 (i64.wrap (n * e)) 30) fun t=>
 .ix 6 11 rfl<|
 .lit 7001 (7)<|
 .known true<|
 .lit 8002 (6)<|
 .ix 6 11 rfl<|
 .ix 1 11 rfl<|
 .cc (azy (i64.wrap (s * d)) 30) fun w=>
 .ix 7 11 rfl<|
 .lit 9002 (6)<|
 .ix 6 11 rfl<|
 .ix 1 11 rfl<|
 .cc (bz5 (i64.wrap (t * e)) 30) fun y=>
 .ix 7 11 rfl<|
 .lit 7001 (8)<|
 .known true<|
 .lit 8002 (7)<|
 .ix 7 11 rfl<|
 .ix 1 11 rfl<|
 .cc (azy (i64.wrap (w * d)) 30) fun z=>
 .ix 8 11 rfl<|
 .lit 9002 (7)<|
 .ix 7 11 rfl<|
 .ix 1 11 rfl<|
 .cc (bz5 (i64.wrap (y * e)) 30) fun aa=>
 .ix 8 11 rfl<|
 .lit 7001 (9)<|
 .known true<|
 .lit 8002 (8)<|
 .ix 8 11 rfl<|
 .ix 1 11 rfl<|
 .cc (azy (i64.wrap (z * d)) 30) fun ab=>
 .ix 9 11 rfl<|
 .lit 9002 (8)<|
 .ix 8 11 rfl<|
 .ix 1 11 rfl<|
 .cc (bz5 (i64.wrap (aa * e)) 30) fun ac=>
 .ix 9 11 rfl<|
 .lit 7001 (10)<|
 .known true<|
 .lit 8002 (9)<|
 .ix 9 11 rfl<|
 .ix 1 11 rfl<|
 .cc (azy (i64.wrap (ab * d)) 30) fun ad=>
 .ix 10 11 rfl<|
 .lit 9002 (9)<|
 .ix 9 11 rfl<|
 .ix 1 11 rfl<|
 .cc (bz5 (i64.wrap (ac * e)) 30) fun ae=>
 .ix 10 11 rfl<|
 .lit 7001 (11)<|
 .known false<|
 .ret ((1073741824,d,f,h,j,m,s,w,z,ab,ad),(1073741824,e,g,i,k,n,t,y,aa,ac,ae))
noncomputable def mz2 (c):=
 mkD Tryz.func325 (mz3 c) 0 [pz c] [] (fun r=>.tup [.pure (iz0 r.1),.pure (iz0 r.2)]) (fun _=>[])
noncomputable def nzp (c:Int)(d:Int):T Int:=
 .grd (d≠0)<|
 .ret (i64.wrap ((i64.wrap ((i64.wrap (c+d))-1)).tdiv d))
noncomputable def czi (c)(d):=
 mkD Tryz.func327 (nzp c d) 0 [pz c,pz d] [] (fun r=>pz r) (fun _=>[])
noncomputable def iz5 (c:A0):T Int:=let d:=(c.length:Nat);.loop (fun (e:Al)=>⟨[(3,pz e.1),(4,pz e.2.1),(7,.pure (encL 1 az3 c)),(8,pz (d:Int)),(9,pz e.2.2)],[],[],0⟩)
 (.exit 0) (fun (e:Int)=>⟨[(3,pz e)],[],[],0⟩)
 (fun e=>.br (decide (e.2.2<(d:Int)))
 (.gh e.2.2 c.length<|
 .nn ((i64.wrap (e.1+(i64.wrap (e.2.1 * (c.getD ((e.2.2).toNat) default))))),(i64.wrap (0-e.2.1)),(i64.wrap (e.2.2+1))))
 (.oo e.1))
 (0,1,0) [] fun e=>
 .ret e
noncomputable def cz5 (c):=
 mkD Tryz.func326 (iz5 c) 0 [.pure (encL 1 az3 c)] [] (fun r=>pz r) (fun _=>[])
noncomputable def kz0 (c:Int)(d:Int):T az0:=
 .cc (azy c 14) fun e=>
 .cc (bz5 d 14) fun f=>
 .ret (⟨(max 0 e),(min 65536 f)⟩:az0)
noncomputable def jzz (c)(d):=
 mkD Tryz.func328 (kz0 c d) 0 [pz c,pz d] [] (fun r=>.pure (az6 r)) (fun _=>[])
noncomputable def vzn (c:Int):T az0:=
 .cc (mz2 c) fun d=>
 .ix 1 11 rfl<|
 .ix 3 11 rfl<|
 .cc (czi d.2.2.2.2.1 6) fun e=>
 .ix 5 11 rfl<|
 .ok ((120:Int)≠0) (by decide)<|
 .ix 7 11 rfl<|
 .cc (czi d.2.2.2.2.2.2.2.2.1 5040) fun f=>let g:=([d.1.2.1,e,(i64.wrap (d.1.2.2.2.2.2.1.tdiv 120)),f]:A0);
 .conv 2011 (cz6 1 az3 g 2)<|
 .cc (cz5 g) fun h=>
 .ix 1 11 rfl<|
 .ix 3 11 rfl<|
 .ok ((6:Int)≠0) (by decide)<|
 .ix 5 11 rfl<|
 .cc (czi d.2.2.2.2.2.2.1 120) fun i=>
 .ix 7 11 rfl<|
 .ok ((5040:Int)≠0) (by decide)<|
 .ix 9 11 rfl<|
 .cc (czi d.2.2.2.2.2.2.2.2.2.2.1 362880) fun j=>let k:=([d.2.2.1,(i64.wrap (d.1.2.2.2.1.tdiv 6)),i,(i64.wrap (d.1.2.2.2.2.2.2.2.1.tdiv 5040)),j]:A0);
 .conv 3014 (cz6 1 az3 k 2)<|
 .cc (cz5 k) fun m=>
 .cc (jzz h m) fun n=>
 .ret n
noncomputable def Ez8 (c):=
 mkD Tryz.func323 (vzn c) 0 [pz c] [] (fun r=>.pure (az6 r)) (fun _=>[])
noncomputable def qz1 (c:Int):T az0:=
 .cc (mz2 c) fun d=>
 .ix 2 11 rfl<|
 .cc (czi d.2.2.2.1 2) fun e=>
 .ix 4 11 rfl<|
 .ok ((24:Int)≠0) (by decide)<|
 .ix 6 11 rfl<|
 .cc (czi d.2.2.2.2.2.2.2.1 720) fun f=>
 .ix 8 11 rfl<|
 .ok ((40320:Int)≠0) (by decide)<|
 .ix 10 11 rfl<|
 .cc (czi d.2.2.2.2.2.2.2.2.2.2.2 3628800) fun g=>let h:=([1073741824,e,(i64.wrap (d.1.2.2.2.2.1.tdiv 24)),f,(i64.wrap (d.1.2.2.2.2.2.2.2.2.1.tdiv 40320)),g]:A0);
 .conv 2015 (cz6 1 az3 h 2)<|
 .cc (cz5 h) fun i=>
 .ix 2 11 rfl<|
 .ok ((2:Int)≠0) (by decide)<|
 .ix 4 11 rfl<|
 .cc (czi d.2.2.2.2.2.1 24) fun j=>
 .ix 6 11 rfl<|
 .ok ((720:Int)≠0) (by decide)<|
 .ix 8 11 rfl<|
 .cc (czi d.2.2.2.2.2.2.2.2.2.1 40320) fun k=>let m:=([1073741824,(i64.wrap (d.1.2.2.1.tdiv 2)),j,(i64.wrap (d.1.2.2.2.2.2.2.1.tdiv 720)),k]:A0);
 .conv 3012 (cz6 1 az3 m 2)<|
 .cc (cz5 m) fun n=>
 .cc (jzz i n) fun s=>
 .ret s
noncomputable def yzn (c):=
 mkD Tryz.func324 (qz1 c) 0 [pz c] [] (fun r=>.pure (az6 r)) (fun _=>[])
noncomputable def szq (c:Int):T az0:=
 .br (decide (c≤8192))
 (.cc (Ez8 c) fun d=>
 .ret d)
 (.cc (yzn (i64.wrap (16384-c))) fun d=>
 .ret d)
noncomputable def izd (c):=
 mkD Tryz.func319 (szq c) 0 [pz c] [] (fun r=>.pure (az6 r)) (fun _=>[])
noncomputable def qzk (c:az0):T az0:=
 .cc (bzt c) fun d=>
 .br (!d)
 (.ret (⟨0,0⟩:az0))
 (.ret (⟨(i64.wrap (0-c.Hi)),(i64.wrap (0-c.Lo))⟩:az0))
noncomputable def lz7 (c):=
 mkD Tryz.func305 (qzk c) 0 [.pure (az6 c)] [] (fun r=>.pure (az6 r)) (fun _=>[])
noncomputable def zzr (c:Int):T az0:=
 .cc (izf c) fun d=>let e:=d.tmod 16384;let f:=i64.wrap (d.tdiv 16384);let g:=i64.wrap (16384-e);
 .ok ((16384:Int)≠0) (by decide)<|
 .ok ((16384:Int)≠0) (by decide)<|
 .br (f==0)
 (.cc (izd e) fun h=>
 .ret h)
 (.br (f==1)
 (.cc (izd g) fun h=>
 .ret h)
 (.br (f==2)
 (.cc (izd e) fun h=>
 .cc (lz7 h) fun i=>
 .ret i)
 (.cc (izd g) fun h=>
 .cc (lz7 h) fun i=>
 .ret i)))
noncomputable def szp (c):=
 mkD Tryz.func312 (zzr c) 0 [pz c] [] (fun r=>.pure (az6 r)) (fun _=>[])
noncomputable def zzq (c:Int):T az0:=
 .cc (izf c) fun d=>
 .cc (szp (i64.wrap (d+16384))) fun e=>
 .ret e
noncomputable def zzp (c):=
 mkD Tryz.func311 (zzq c) 0 [pz c] [] (fun r=>.pure (az6 r)) (fun _=>[])
noncomputable def oz2 (c:az0)(d:az0):T az0:=
 .cc (iz1 c d) fun e=>
 .br (!e)
 (.ret (⟨0,0⟩:az0))
 (.ret (⟨(min c.Lo d.Lo),(max c.Hi d.Hi)⟩:az0))
noncomputable def eza (c)(d):=
 mkD Tryz.func316 (oz2 c d) 0 [.pure (az6 c),.pure (az6 d)] [] (fun r=>.pure (az6 r)) (fun _=>[])
noncomputable def qzh (c:az0)(d:Int):T Bool:=
 .cc (bzt c) fun e=>
 .br e
 (.br (decide (c.Lo≤d))
 (.ret (decide (d≤c.Hi)))
 (.ret false))
 (.ret false)
noncomputable def yzu (c)(d):=
 mkD Tryz.func322 (qzh c d) 0 [.pure (az6 c),pz d] [] (fun r=>.pure (.bool r)) (fun _=>[])
noncomputable def szr (c:az0)(d:Int):T Bool:=
 .cc (izf (i64.wrap (d-c.Lo))) fun e=>
 .cc (yzu c (i64.wrap (c.Lo+e))) fun f=>
 .ret f
noncomputable def ize (c)(d):=
 mkD Tryz.func317 (szr c d) 0 [.pure (az6 c),pz d] [] (fun r=>.pure (.bool r)) (fun _=>[])
noncomputable def vzm (c:az0)(d:Int)(e:Int):T az0:=
 .cc (bzt c) fun f=>
 .br (!f)
 (.ret (⟨0,0⟩:az0))
 (.cc (mzd c) fun g=>
 .br (decide (g≥65536))
 (.ret (⟨(-65536),65536⟩:az0))
 (.cc (zzp c.Lo) fun h=>
 .cc (zzp c.Hi) fun i=>
 .cc (eza h i) fun j=>
 .cut 0 (fun (k:Ah)=>⟨[(3,pz e),(4,.ptr 0 0),(8,.ptr 1 0),(9,.ptr 2 0)],[(0,.box [pz c.Lo,pz c.Hi]),(1,.box [pz 0,pz 0]),(2,.box [pz k.1,pz k.2])],[],3⟩)
 (.cc (ize c d) fun k=>
 .br k
 (.cc (czb 65536) fun m=>
 .cc (eza j m) fun n=>
 .oo (n.Lo,n.Hi))
 (.oo (j.Lo,j.Hi))) fun k=>
 .cut 0 (fun (m:Ah)=>⟨[(8,.ptr 0 0),(9,.ptr 1 0)],[(0,.box [pz 0,pz 0]),(1,.box [pz m.1,pz m.2])],[],2⟩)
 (.cc (ize c e) fun m=>
 .br m
 (.cc (czb (-65536)) fun n=>
 .cc (eza (⟨k.1,k.2⟩:az0) n) fun s=>
 .oo (s.Lo,s.Hi))
 (.oo (k.1,k.2))) fun m=>
 .ret (⟨m.1,m.2⟩:az0)))
noncomputable def Ez7 (c)(d)(e):=
 mkD Tryz.func310 (vzm c d e) 0 [.pure (az6 c),.func 311 [] [],pz d,pz e] [] (fun r=>.pure (az6 r)) (fun _=>[])
noncomputable def nzn (c:az0):T az0:=
 .cc (Ez7 c 0 32768) fun d=>
 .ret d
noncomputable def vzk (c):=
 mkD Tryz.func303 (nzn c) 0 [.pure (az6 c)] [] (fun r=>.pure (az6 r)) (fun _=>[])
noncomputable def qz2 (c:az0)(d:Int)(e:Int):T az0:=
 .cc (bzt c) fun f=>
 .br (!f)
 (.ret (⟨0,0⟩:az0))
 (.cc (mzd c) fun g=>
 .br (decide (g≥65536))
 (.ret (⟨(-65536),65536⟩:az0))
 (.cc (szp c.Lo) fun h=>
 .cc (szp c.Hi) fun i=>
 .cc (eza h i) fun j=>
 .cut 0 (fun (k:Ah)=>⟨[(3,pz e),(4,.ptr 0 0),(8,.ptr 1 0),(9,.ptr 2 0)],[(0,.box [pz c.Lo,pz c.Hi]),(1,.box [pz 0,pz 0]),(2,.box [pz k.1,pz k.2])],[],3⟩)
 (.cc (ize c d) fun k=>
 .br k
 (.cc (czb 65536) fun m=>
 .cc (eza j m) fun n=>
 .oo (n.Lo,n.Hi))
 (.oo (j.Lo,j.Hi))) fun k=>
 .cut 0 (fun (m:Ah)=>⟨[(8,.ptr 0 0),(9,.ptr 1 0)],[(0,.box [pz 0,pz 0]),(1,.box [pz m.1,pz m.2])],[],2⟩)
 (.cc (ize c e) fun m=>
 .br m
 (.cc (czb (-65536)) fun n=>
 .cc (eza (⟨k.1,k.2⟩:az0) n) fun s=>
 .oo (s.Lo,s.Hi))
 (.oo (k.1,k.2))) fun m=>
 .ret (⟨m.1,m.2⟩:az0)))
noncomputable def yzo (c)(d)(e):=
 mkD Tryz.func310 (qz2 c d e) 0 [.pure (az6 c),.func 312 [] [],pz d,pz e] [] (fun r=>.pure (az6 r)) (fun _=>[])
noncomputable def nzo (c:az0):T az0:=
 .cc (yzo c 16384 49152) fun d=>
 .ret d
noncomputable def vzl (c):=
 mkD Tryz.func304 (nzo c) 0 [.pure (az6 c)] [] (fun r=>.pure (az6 r)) (fun _=>[])
noncomputable def tzi (c:Int)(d:az0):T Av:=let e:=(⟨d.Lo,d.Hi⟩:az0);.cc (bzt d) fun f=>
 .br (!f)
 (.ret (((⟨0,0⟩:az0),(⟨0,0⟩:az0),(⟨0,0⟩:az0)),((⟨0,0⟩:az0),(⟨0,0⟩:az0),(⟨0,0⟩:az0)),((⟨0,0⟩:az0),(⟨0,0⟩:az0),(⟨0,0⟩:az0))))
 (.cc (vzk e) fun g=>
 .cc (vzl e) fun h=>
 .cc (lz7 h) fun i=>
 .cc (czb 65536) fun j=>
 .cc (czb 0) fun k=>
 .br (c==0)
 (.ret ((j,k,k),(k,g,i),(k,h,g)))
 (.br (c==1)
 (.ret ((g,k,h),(k,j,k),(i,k,g)))
 (.br (c==2)
 (.ret ((g,i,k),(h,g,k),(k,k,j)))
 (.ret (((⟨0,0⟩:az0),(⟨0,0⟩:az0),(⟨0,0⟩:az0)),((⟨0,0⟩:az0),(⟨0,0⟩:az0),(⟨0,0⟩:az0)),((⟨0,0⟩:az0),(⟨0,0⟩:az0),(⟨0,0⟩:az0)))))))
noncomputable def Bzd (c)(d):=
 mkD Tryz.func299 (tzi c d) 0 [pz c,.pure (az6 d)] [] (fun r=>.pure (bz6 r)) (fun _=>[])
noncomputable def Az4 (c:Int)(d:az0):T azq:=
 .cc (Bzd c (⟨d.Lo,d.Hi⟩:az0)) fun e=>
 .cc (pose_still_C) fun f=>
 .ret (⟨e,f⟩:azq)
noncomputable def Hzr (c)(d):=
 mkD Tryz.func286 (Az4 c d) 0 [pz c,.pure (az6 d)] [] (fun r=>.pure (bzc r)) (fun _=>[])
noncomputable def zzt (c:Int)(d:az0):T azq:=
 .cc (Hzr c (⟨d.Lo,d.Hi⟩:az0)) fun e=>
 .ret e
noncomputable def Gze (c)(d):=
 mkD Tryz.func268 (zzt c d) 0 [pz c,.pure (az6 d)] [] (fun r=>.pure (bzc r)) (fun _=>[])
noncomputable def izq (c:azp)(d:az0):T azq:=
 .cc (lz8 c.Offset) fun e=>
 .cc (pzh ((⟨e.1.Lo,e.1.Hi⟩:az0),(⟨e.2.1.Lo,e.2.1.Hi⟩:az0),(⟨e.2.2.Lo,e.2.2.Hi⟩:az0))) fun f=>let g:=(⟨f.R,f.T⟩:azq);
 .split (((fz2 c.Kind).o).isSome)
 (.cc (fz2 c.Kind) fun h=>
 .cc (Gze h (⟨d.Lo,d.Hi⟩:az0)) fun i=>
 .cc (hzk g i) fun j=>
 .ret j)
 (.split (((fz4 c.Kind).o).isSome)
 (.cc (fz4 c.Kind) fun h=>
 .cc (Ez9 h d) fun i=>
 .cc (hzk f i) fun j=>
 .ret j)
 (.cc (izb c.Kind) fun h=>
 .cc (Gzd h d) fun i=>
 .cc (hzk g (⟨i.R,i.T⟩:azq)) fun j=>
 .ret j))
noncomputable def pz8 (c)(d):=
 mkD Tryz.func227 (izq c d) 0 [.pure (azb c),.pure (az6 d)] [] (fun r=>.pure (bzc r)) (fun _=>[])
noncomputable def izs (c:azn)(d:A7):T Aa:=let e:=encL 2 az6 d;let f:=encL 12 azb c.Joints;let g:=(c.Joints.length:Int);.conv 1003 (Kzx 24 bzc 256 g.toNat (⟨(((⟨0,0⟩:az0),(⟨0,0⟩:az0),(⟨0,0⟩:az0)),((⟨0,0⟩:az0),(⟨0,0⟩:az0),(⟨0,0⟩:az0)),((⟨0,0⟩:az0),(⟨0,0⟩:az0),(⟨0,0⟩:az0))),((⟨0,0⟩:az0),(⟨0,0⟩:az0),(⟨0,0⟩:az0))⟩:azq))<|
 .grd (0≤g/\g≤g/\g≤9223372036854775807/\g * 192≤140737488355328)<|
 .loop (fun (h:(Aa×Int))=>⟨[(1,.pure e),(5,.vec 0),(13,.pure f),(14,pz g),(15,pz h.2)],[(0,vecO 24 bzc h.1 256)],[],1⟩)
 (.exit 0) (fun (h:Aa)=>⟨[(5,.vec 0)],[(0,vecO 24 bzc h 256)],[],1⟩)
 (fun h=>let i:=(h.2).toNat;let j:=c.Joints.getD i default;let k:=j.Parent;.br (decide (h.2<g))
 (.cut 0 (fun (m:Aa)=>⟨[(1,.pure e),(5,.vec 0),(13,.pure f),(14,pz g),(15,pz h.2)],[(0,vecO 24 bzc m 256)],[],1⟩)
 (.gh h.2 c.Joints.length<|
 .gh h.2 d.length<|
 .cc (pz8 j (d.getD i default)) fun m=>let n:=h.1.set i m;let s:=n.length;
 .gh h.2 h.1.length<|
 .conv 5009 (ozy 24 bzc h.1 256 i m)<|
 .gi (h.2) h.1.length<|
 .br (k !=(-1))
 (.gg k s<|
 .gg h.2 s<|
 .call (hzk (n.getD (k.toNat) default) (n.getD i default)) [] fun t=>
 .gh h.2 s<|
 .conv 7013 (ozy 24 bzc n 256 i t)<|
 .gi (h.2) s<|
 .oo (n.set i t))
 (.oo n)) fun m=>
 .nn (m,(i64.wrap (h.2+1))))
 (.oo h.1))
 ((List.replicate g.toNat ((⟨(((⟨0,0⟩:az0),(⟨0,0⟩:az0),(⟨0,0⟩:az0)),((⟨0,0⟩:az0),(⟨0,0⟩:az0),(⟨0,0⟩:az0)),((⟨0,0⟩:az0),(⟨0,0⟩:az0),(⟨0,0⟩:az0))),((⟨0,0⟩:az0),(⟨0,0⟩:az0),(⟨0,0⟩:az0))⟩:azq):azq)),0) [] fun h=>
 .ret h
noncomputable def pza (c)(d):=
 mkD Tryz.func183 (izs c d) 0 [.pure (dz2 c),.pure (encL 2 az6 d)] [] (fun r=>.pure (encL 24 bzc r)) (fun _=>[])
noncomputable def uzj (c:azs):T Bool:=let d:=encL 3 az1 c.Points;let e:=(c.Points.length:Int);.cut 2 (fun (f:Bool)=>⟨[(1,.ptr 0 0),(26,.pure (.bool f))],[(0,.box [pz c.Link,pz c.Radius,.pure d])],[],1⟩)
 (.br (decide (c.Radius<1))
 (.oo true)
 (.br (decide (c.Radius>1048576))
 (.oo true)
 (.br (decide (e<1))
 (.oo true)
 (.oo (decide (e>8)))))) fun f=>
 .br f
 (.ret false)
 (.loop (fun (g:Int)=>⟨[(28,.pure d),(29,pz e),(30,pz g)],[],[],0⟩)
 (.exit 0) (fun (_:U0)=>⟨[],[],[],0⟩)
 (fun g=>let h:=c.Points.getD (g.toNat) default;.br (decide (g<e))
 (.gh g c.Points.length<|
 .loop (fun (i:Int)=>⟨[(28,.pure d),(29,pz e),(30,pz g),(34,.pure (az1 h)),(35,pz i)],[],[],0⟩)
 (.exit 2) (fun (_:U0)=>⟨[(28,.pure d),(29,pz e),(30,pz g)],[],[],0⟩)
 (fun i=>.br (decide (i<3))
 (.gh i 3<|
 .name 8000 ((([h.1,h.2.1,h.2.2]:List Int).getD i.toNat 0)) fun j=>
 .cut 0 (fun (k:Bool)=>⟨[(28,.pure d),(29,pz e),(30,pz g),(34,.pure (az1 h)),(35,pz i),(43,.pure (.bool k))],[],[],0⟩)
 (.br (decide (j<(-4194304)))
 (.oo true)
 (.oo (decide (j>4194304)))) fun k=>
 .br k
 (.ff (.fin false))
 (.nn (i64.wrap (i+1))))
 (.oo .u))
 0 [] fun _=>
 .nn (i64.wrap (g+1)))
 (.oo .u))
 0 [] fun _=>
 .ret true)
noncomputable def Czg (c):=
 mkD Tryz.func231 (uzj c) 0 [.pure (aze c)] [] (fun r=>.pure (.bool r)) (fun _=>[])
noncomputable def wzq (c:azq)(d:Ar):T Ar:=
 .cc (pzi c) fun e=>
 .call (lzc d e.1 e.2.1 e.2.2.1 e.2.2.2.1 e.2.2.2.2.1 e.2.2.2.2.2.1 e.2.2.2.2.2.2.1 e.2.2.2.2.2.2.2.1 e.2.2.2.2.2.2.2.2.1 e.2.2.2.2.2.2.2.2.2.1 e.2.2.2.2.2.2.2.2.2.2.1 e.2.2.2.2.2.2.2.2.2.2.2.1 e.2.2.2.2.2.2.2.2.2.2.2.2.1 e.2.2.2.2.2.2.2.2.2.2.2.2.2.1 e.2.2.2.2.2.2.2.2.2.2.2.2.2.2.1 e.2.2.2.2.2.2.2.2.2.2.2.2.2.2.2.1 e.2.2.2.2.2.2.2.2.2.2.2.2.2.2.2.2.1 e.2.2.2.2.2.2.2.2.2.2.2.2.2.2.2.2.2.1 e.2.2.2.2.2.2.2.2.2.2.2.2.2.2.2.2.2.2.1 e.2.2.2.2.2.2.2.2.2.2.2.2.2.2.2.2.2.2.2.1 e.2.2.2.2.2.2.2.2.2.2.2.2.2.2.2.2.2.2.2.2.1 e.2.2.2.2.2.2.2.2.2.2.2.2.2.2.2.2.2.2.2.2.2.1 e.2.2.2.2.2.2.2.2.2.2.2.2.2.2.2.2.2.2.2.2.2.2.1 e.2.2.2.2.2.2.2.2.2.2.2.2.2.2.2.2.2.2.2.2.2.2.2) [(0,256)] fun f=>
 .ret f.1
noncomputable def Ezp (c)(d):=
 mkD Tryz.func232 (wzq c d) 0 [.pure (bzc c),.pure (az2 d)] [] (fun r=>.pure (az2 r)) (fun _=>[])
noncomputable def uzk (c:azs)(d:azq):T As:=let e:=(c.Points.length:Int);.cc (Czg c) fun f=>
 .br (!f)
 (.ret nl)
 (.conv 3003 (Kzx 6 az2 229 e.toNat ((⟨0,0⟩:az0),(⟨0,0⟩:az0),(⟨0,0⟩:az0)))<|
 .grd (0≤e/\e≤e/\e≤9223372036854775807/\e * 48≤140737488355328)<|
 .loop (fun (g:(As×Int))=>⟨[(3,.ptr 0 0),(5,.vec 1),(16,.pure (encL 3 az1 c.Points)),(17,pz e),(18,pz g.2)],[(0,.box [pz d.R.1.1.Lo,pz d.R.1.1.Hi,pz d.R.1.2.1.Lo,pz d.R.1.2.1.Hi,pz d.R.1.2.2.Lo,pz d.R.1.2.2.Hi,pz d.R.2.1.1.Lo,pz d.R.2.1.1.Hi,pz d.R.2.1.2.1.Lo,pz d.R.2.1.2.1.Hi,pz d.R.2.1.2.2.Lo,pz d.R.2.1.2.2.Hi,pz d.R.2.2.1.Lo,pz d.R.2.2.1.Hi,pz d.R.2.2.2.1.Lo,pz d.R.2.2.2.1.Hi,pz d.R.2.2.2.2.Lo,pz d.R.2.2.2.2.Hi,pz d.T.1.Lo,pz d.T.1.Hi,pz d.T.2.1.Lo,pz d.T.2.1.Hi,pz d.T.2.2.Lo,pz d.T.2.2.Hi]),(1,vecO 6 az2 g.1 229)],[],2⟩)
 (.exit 0) (fun (g:As)=>⟨[(5,.vec 0)],[(0,vecO 6 az2 g 229)],[],1⟩)
 (fun g=>let h:=(g.2).toNat;.br (decide (g.2<e))
 (.gh g.2 c.Points.length<|
 .cc (lz8 (c.Points.getD h default)) fun i=>
 .cc (Ezp (⟨d.R,d.T⟩:azq) i) fun j=>
 .gh g.2 g.1.length<|
 .conv 7007 (ozy 6 az2 g.1 229 h j)<|
 .gi (g.2) g.1.length<|
 .nn ((g.1.set h j),(i64.wrap (g.2+1))))
 (.oo g.1))
 ((List.replicate e.toNat (((⟨0,0⟩:az0),(⟨0,0⟩:az0),(⟨0,0⟩:az0)):Ar)),0) [] fun g=>
 .ret g)
noncomputable def Czh (c)(d):=
 mkD Tryz.func185 (uzk c d) 0 [.pure (aze c),.pure (bzc d)] [] (fun r=>.pure (encL 6 az2 r)) (fun _=>[])
set_option maxHeartbeats 8000000 in
set_option maxRecDepth 20000 in
noncomputable def iz7 (a0:az8)(a1:A7):T Au:=
 .cut 2 (fun (y12:Bool)=>⟨[(1,.pure (encL 2 az6 a1)),(2,.ptr 0 0),(19,.pure (.bool y12))],[(0,.box [.pure (encL 12 azb a0.Robot.Joints),.pure (encL 5 azd a0.Robot.Masses),.pure (encL 3 aze a0.Shapes),.pure (encL 2 azk a0.Skips)])],[],1⟩)
 (.call (pz9 a0.Robot a1) [] fun y13=>
 .br (!y13)
 (.ret (.out true))
 (.call (dzy (⟨a0.Robot,a0.Shapes,a0.Skips⟩:az8)) [] fun y14=>
 .ret (.out (y14 !=0)))) fun y12=>
 .br y12
 (.ret nl)
 (.call (pza a0.Robot a1) [] fun y16=>
 .conv 4003 (az3d 1 (encL 6 az2) 176 ((a0.Shapes.length:Int)).toNat nl (.lst 0 0 fun _=>.unk) (by kernel_rfl))<|
 .grd (0≤(a0.Shapes.length:Int)/\(a0.Shapes.length:Int)≤(a0.Shapes.length:Int)/\(a0.Shapes.length:Int)≤9223372036854775807/\(a0.Shapes.length:Int) * 24≤140737488355328)<|
 .loop (fun (x53:(Au×Int))=>⟨[(5,.pure (encL 24 bzc y16)),(6,.vec 0),(29,.pure (encL 3 aze a0.Shapes)),(30,pz (a0.Shapes.length:Int)),(31,pz x53.2)],[(0,vecO 1 (encL 6 az2) x53.1 176)],[],1⟩)
 (.exit 0) (fun (y62:Au)=>⟨[(6,.vec 0)],[(0,vecO 1 (encL 6 az2) y62 176)],[],1⟩)
 (fun x53=>.br (decide (x53.2<(a0.Shapes.length:Int)))
 (.grd (0≤x53.2/\x53.2<(a0.Shapes.length:Int))<|
 .call (pose_Identity_C) [] fun y68=>
 .cut 0 (fun (y69:B7)=>⟨[(5,.pure (encL 24 bzc y16)),(6,.vec 0),(7,pz x53.2),(8,.ptr 1 0),(9,.ptr 2 0),(29,.pure (encL 3 aze a0.Shapes)),(30,pz (a0.Shapes.length:Int)),(31,pz x53.2)],[(0,vecO 1 (encL 6 az2) x53.1 176),(1,.box [pz ((a0.Shapes.getD ((x53.2).toNat) default).Link),pz ((a0.Shapes.getD ((x53.2).toNat) default).Radius),.pure (encL 3 az1 ((a0.Shapes.getD ((x53.2).toNat) default).Points))]),(2,.box [pz y69.1,pz y69.2.1,pz y69.2.2.1,pz y69.2.2.2.1,pz y69.2.2.2.2.1,pz y69.2.2.2.2.2.1,pz y69.2.2.2.2.2.2.1,pz y69.2.2.2.2.2.2.2.1,pz y69.2.2.2.2.2.2.2.2.1,pz y69.2.2.2.2.2.2.2.2.2.1,pz y69.2.2.2.2.2.2.2.2.2.2.1,pz y69.2.2.2.2.2.2.2.2.2.2.2.1,pz y69.2.2.2.2.2.2.2.2.2.2.2.2.1,pz y69.2.2.2.2.2.2.2.2.2.2.2.2.2.1,pz y69.2.2.2.2.2.2.2.2.2.2.2.2.2.2.1,pz y69.2.2.2.2.2.2.2.2.2.2.2.2.2.2.2.1,pz y69.2.2.2.2.2.2.2.2.2.2.2.2.2.2.2.2.1,pz y69.2.2.2.2.2.2.2.2.2.2.2.2.2.2.2.2.2.1,pz y69.2.2.2.2.2.2.2.2.2.2.2.2.2.2.2.2.2.2.1,pz y69.2.2.2.2.2.2.2.2.2.2.2.2.2.2.2.2.2.2.2.1,pz y69.2.2.2.2.2.2.2.2.2.2.2.2.2.2.2.2.2.2.2.2.1,pz y69.2.2.2.2.2.2.2.2.2.2.2.2.2.2.2.2.2.2.2.2.2.1,pz y69.2.2.2.2.2.2.2.2.2.2.2.2.2.2.2.2.2.2.2.2.2.2.1,pz y69.2.2.2.2.2.2.2.2.2.2.2.2.2.2.2.2.2.2.2.2.2.2.2])],[],3⟩)
 (.br (((a0.Shapes.getD ((x53.2).toNat) default).Link) !=(-1))
 (.grd (0≤((a0.Shapes.getD ((x53.2).toNat) default).Link)/\((a0.Shapes.getD ((x53.2).toNat) default).Link)<(y16.length:Int))<|
 .ret (.out ((y16.getD (((a0.Shapes.getD ((x53.2).toNat) default).Link).toNat) default).R.1.1.Lo,(y16.getD (((a0.Shapes.getD ((x53.2).toNat) default).Link).toNat) default).R.1.1.Hi,(y16.getD (((a0.Shapes.getD ((x53.2).toNat) default).Link).toNat) default).R.1.2.1.Lo,(y16.getD (((a0.Shapes.getD ((x53.2).toNat) default).Link).toNat) default).R.1.2.1.Hi,(y16.getD (((a0.Shapes.getD ((x53.2).toNat) default).Link).toNat) default).R.1.2.2.Lo,(y16.getD (((a0.Shapes.getD ((x53.2).toNat) default).Link).toNat) default).R.1.2.2.Hi,(y16.getD (((a0.Shapes.getD ((x53.2).toNat) default).Link).toNat) default).R.2.1.1.Lo,(y16.getD (((a0.Shapes.getD ((x53.2).toNat) default).Link).toNat) default).R.2.1.1.Hi,(y16.getD (((a0.Shapes.getD ((x53.2).toNat) default).Link).toNat) default).R.2.1.2.1.Lo,(y16.getD (((a0.Shapes.getD ((x53.2).toNat) default).Link).toNat) default).R.2.1.2.1.Hi,(y16.getD (((a0.Shapes.getD ((x53.2).toNat) default).Link).toNat) default).R.2.1.2.2.Lo,(y16.getD (((a0.Shapes.getD ((x53.2).toNat) default).Link).toNat) default).R.2.1.2.2.Hi,(y16.getD (((a0.Shapes.getD ((x53.2).toNat) default).Link).toNat) default).R.2.2.1.Lo,(y16.getD (((a0.Shapes.getD ((x53.2).toNat) default).Link).toNat) default).R.2.2.1.Hi,(y16.getD (((a0.Shapes.getD ((x53.2).toNat) default).Link).toNat) default).R.2.2.2.1.Lo,(y16.getD (((a0.Shapes.getD ((x53.2).toNat) default).Link).toNat) default).R.2.2.2.1.Hi,(y16.getD (((a0.Shapes.getD ((x53.2).toNat) default).Link).toNat) default).R.2.2.2.2.Lo,(y16.getD (((a0.Shapes.getD ((x53.2).toNat) default).Link).toNat) default).R.2.2.2.2.Hi,(y16.getD (((a0.Shapes.getD ((x53.2).toNat) default).Link).toNat) default).T.1.Lo,(y16.getD (((a0.Shapes.getD ((x53.2).toNat) default).Link).toNat) default).T.1.Hi,(y16.getD (((a0.Shapes.getD ((x53.2).toNat) default).Link).toNat) default).T.2.1.Lo,(y16.getD (((a0.Shapes.getD ((x53.2).toNat) default).Link).toNat) default).T.2.1.Hi,(y16.getD (((a0.Shapes.getD ((x53.2).toNat) default).Link).toNat) default).T.2.2.Lo,(y16.getD (((a0.Shapes.getD ((x53.2).toNat) default).Link).toNat) default).T.2.2.Hi)))
 (.ret (.out (y68.R.1.1.Lo,y68.R.1.1.Hi,y68.R.1.2.1.Lo,y68.R.1.2.1.Hi,y68.R.1.2.2.Lo,y68.R.1.2.2.Hi,y68.R.2.1.1.Lo,y68.R.2.1.1.Hi,y68.R.2.1.2.1.Lo,y68.R.2.1.2.1.Hi,y68.R.2.1.2.2.Lo,y68.R.2.1.2.2.Hi,y68.R.2.2.1.Lo,y68.R.2.2.1.Hi,y68.R.2.2.2.1.Lo,y68.R.2.2.2.1.Hi,y68.R.2.2.2.2.Lo,y68.R.2.2.2.2.Hi,y68.T.1.Lo,y68.T.1.Hi,y68.T.2.1.Lo,y68.T.2.1.Hi,y68.T.2.2.Lo,y68.T.2.2.Hi)))) fun y69=>
 .call (Czh (a0.Shapes.getD ((x53.2).toNat) default) (⟨(((⟨y69.1,y69.2.1⟩:az0),(⟨y69.2.2.1,y69.2.2.2.1⟩:az0),(⟨y69.2.2.2.2.1,y69.2.2.2.2.2.1⟩:az0)),((⟨y69.2.2.2.2.2.2.1,y69.2.2.2.2.2.2.2.1⟩:az0),(⟨y69.2.2.2.2.2.2.2.2.1,y69.2.2.2.2.2.2.2.2.2.1⟩:az0),(⟨y69.2.2.2.2.2.2.2.2.2.2.1,y69.2.2.2.2.2.2.2.2.2.2.2.1⟩:az0)),((⟨y69.2.2.2.2.2.2.2.2.2.2.2.2.1,y69.2.2.2.2.2.2.2.2.2.2.2.2.2.1⟩:az0),(⟨y69.2.2.2.2.2.2.2.2.2.2.2.2.2.2.1,y69.2.2.2.2.2.2.2.2.2.2.2.2.2.2.2.1⟩:az0),(⟨y69.2.2.2.2.2.2.2.2.2.2.2.2.2.2.2.2.1,y69.2.2.2.2.2.2.2.2.2.2.2.2.2.2.2.2.2.1⟩:az0))),((⟨y69.2.2.2.2.2.2.2.2.2.2.2.2.2.2.2.2.2.2.1,y69.2.2.2.2.2.2.2.2.2.2.2.2.2.2.2.2.2.2.2.1⟩:az0),(⟨y69.2.2.2.2.2.2.2.2.2.2.2.2.2.2.2.2.2.2.2.2.1,y69.2.2.2.2.2.2.2.2.2.2.2.2.2.2.2.2.2.2.2.2.2.1⟩:az0),(⟨y69.2.2.2.2.2.2.2.2.2.2.2.2.2.2.2.2.2.2.2.2.2.2.1,y69.2.2.2.2.2.2.2.2.2.2.2.2.2.2.2.2.2.2.2.2.2.2.2⟩:az0))⟩:azq)) [] fun y70=>
 .grd (0≤x53.2/\x53.2<(x53.1.length:Int))<|
 .conv 11006 (ozy 1 (encL 6 az2) x53.1 176 ((x53.2).toNat) y70)<|
 .grd ((x53.2).toNat<x53.1.length/\0≤(x53.2).toNat)<|
 .ret (.next ((x53.1.set ((x53.2).toNat) y70),(i64.wrap (x53.2+1)))))
 (.ret (.out x53.1)))
 ((List.replicate ((a0.Shapes.length:Int)).toNat (nl:As)),0) [] fun y62=>
 .ret y62)
noncomputable def oz3 (c)(d):=
 mkD Tryz.func147 (iz7 c d) 0 [.pure (bz2 c),.pure (encL 2 az6 d)] [] (fun r=>.pure (encL 1 (encL 6 az2) r)) (fun _=>[])
noncomputable def mz6 (c:az8)(d:A7):T (bzu×Bool):=let e:=encL 2 az6 d;let f:=(d.length:Int);let g:Nat×Res:=(0,.box [.pure (encL 12 azb c.Robot.Joints),.pure (encL 5 azd c.Robot.Masses),.pure (encL 3 aze c.Shapes),.pure (encL 2 azk c.Skips)]);.cut 2 (fun (h:Bool)=>⟨[(1,.pure e),(2,.ptr 0 0),(4,.ptr 1 0),(19,.pure (.bool h))],[g,(1,.box [.vec 2,.vec 3,.vec 4]),(2,.nilv),(3,.nilv),(4,.nilv)],[],5⟩)
 (.cc (dzy c) fun h=>
 .br (h !=0)
 (.oo true)
 (.oo (f !=(c.Robot.Joints.length:Int)))) fun h=>
 .br h
 (.ret ((⟨nl,nl,nl⟩:bzu),false))
 (.loop (fun (i:Int)=>⟨[(1,.pure e),(2,.ptr 0 0),(4,.ptr 1 0),(21,.pure e),(22,pz f),(23,pz i)],[g,(1,.box [.vec 2,.vec 3,.vec 4]),(2,.nilv),(3,.nilv),(4,.nilv)],[],5⟩)
 (.exit 0) (fun (_:U0)=>⟨[(1,.pure e),(2,.ptr 0 0),(4,.ptr 1 0)],[g,(1,.box [.vec 2,.vec 3,.vec 4]),(2,.nilv),(3,.nilv),(4,.nilv)],[],5⟩)
 (fun i=>.br (decide (i<f))
 (.gh i d.length<|
 .cc (bzt (d.getD (i.toNat) default)) fun j=>
 .br (!j)
 (.ff ((⟨nl,nl,nl⟩:bzu),false))
 (.nn (i64.wrap (i+1))))
 (.oo .u))
 0 [] fun _=>
 .cc (Cze c) fun i=>
 .cc (oz3 (⟨c.Robot,c.Shapes,c.Skips⟩:az8) d) fun j=>
 .ret ((⟨c.Shapes,i,j⟩:bzu),true))
noncomputable def mz5 (c)(d):=
 mkD Tryz.func115 (mz6 c d) 0 [.pure (bz2 c),.pure (encL 2 az6 d)] [] (fun r=>.tup [.pure (kz8 r.1),.pure (.bool r.2)]) (fun _=>[])
noncomputable def izg (c:bzu)(d:Int):T ezy:=let e:=c.pairs.getD (d.toNat) default;let f:=e.A;let g:=e.B;.gh d c.pairs.length<|
 .gh f c.points.length<|
 .gh f c.shapes.length<|
 .gh g c.points.length<|
 .gh g c.shapes.length<|
 .ret (⟨(c.points.getD (f.toNat) default),(c.points.getD (g.toNat) default),(c.shapes.getD (f.toNat) default).Radius,(c.shapes.getD (g.toNat) default).Radius⟩:ezy)
noncomputable def nz3 (c)(d):=
 mkD Tryz.func116 (izg c d) 0 [.pure (kz8 c),pz d] [] (fun r=>.pure (zzv r)) (fun _=>[])
noncomputable def yzl (c:As)(d:Int)(e:As)(f:Int)(g:Am):T (As×As×Int×Int×Am):=
 .ret (c,e,d,f,g)
noncomputable def hz8 (c)(d)(e)(f)(g):=
 mkD Tryz.func149 (yzl c d e f g) 0 [.pure (encL 6 az2 c),pz d,.pure (encL 6 az2 e),pz f,.pure (encL 3 az1 g)] [] (fun _=>.func 186 [] [.ptr 0 0,.ptr 1 0,.ptr 2 0,.ptr 3 0,.ptr 4 0]) (fun r=>[(0,.box [.pure (encL 6 az2 r.1)]),(1,.box [.pure (encL 6 az2 r.2.1)]),(2,.box [pz r.2.2.1]),(3,.box [pz r.2.2.2.1]),(4,.box [.pure (encL 3 az1 r.2.2.2.2)])])
noncomputable def Ozp (c:As)(d:Int)(e:As)(f:Int):T czv:=
 .ret (⟨(⟨c,d⟩:ezm),(⟨e,f⟩:ezm)⟩:czv)
noncomputable def Ezo (c)(d)(e)(f):=
 mkD Tryz.func192 (Ozp c d e f) 0 [.pure (encL 6 az2 c),pz d,.pure (encL 6 az2 e),pz f] [] (fun r=>.pure (nzx r)) (fun _=>[])
noncomputable def rzl (c:As):T Bool:=let d:=encL 6 az2 c;let e:=(c.length:Int);.cut 2 (fun (f:Bool)=>⟨[(0,.pure d),(14,.pure (.bool f))],[],[],0⟩)
 (.br (decide (e<1))
 (.oo true)
 (.oo (decide (e>8)))) fun f=>
 .br f
 (.ret false)
 (.loop (fun (g:Int)=>⟨[(15,.pure d),(16,pz e),(17,pz g)],[],[],0⟩)
 (.exit 0) (fun (_:U0)=>⟨[],[],[],0⟩)
 (fun g=>let h:=c.getD (g.toNat) default;let i:=az2 h;.br (decide (g<e))
 (.gh g c.length<|
 .unroll 4<|
 .known true<|
 .ix 0 3 rfl<|
 .cut 0 (fun (j:Bool)=>⟨[(15,.pure d),(16,pz e),(17,pz g),(21,.pure i),(22,pz 0),(39,.pure (.bool j))],[],[],0⟩)
 (.br (decide ((h.1.Lo)<(-268435456)))
 (.oo true)
 (.br (decide ((h.1.Lo)>(h.1.Hi)))
 (.oo true)
 (.oo (decide ((h.1.Hi)>268435456))))) fun j=>
 .br j
 (.ff false)
 (.lit 11000 (1)<|
 .known true<|
 .ix 1 3 rfl<|
 .cut 0 (fun (k:Bool)=>⟨[(15,.pure d),(16,pz e),(17,pz g),(21,.pure i),(22,pz 1),(39,.pure (.bool k))],[],[],0⟩)
 (.br (decide ((h.2.1.Lo)<(-268435456)))
 (.oo true)
 (.br (decide ((h.2.1.Lo)>(h.2.1.Hi)))
 (.oo true)
 (.oo (decide ((h.2.1.Hi)>268435456))))) fun k=>
 .br k
 (.ff false)
 (.lit 11000 (2)<|
 .known true<|
 .ix 2 3 rfl<|
 .cut 0 (fun (m:Bool)=>⟨[(15,.pure d),(16,pz e),(17,pz g),(21,.pure i),(22,pz 2),(39,.pure (.bool m))],[],[],0⟩)
 (.br (decide ((h.2.2.Lo)<(-268435456)))
 (.oo true)
 (.br (decide ((h.2.2.Lo)>(h.2.2.Hi)))
 (.oo true)
 (.oo (decide ((h.2.2.Hi)>268435456))))) fun m=>
 .br m
 (.ff false)
 (.lit 11000 (3)<|
 .known false<|
 .nn (i64.wrap (g+1))))))
 (.oo .u))
 0 [] fun _=>
 .ret true)
noncomputable def czu (c):=
 mkD Tryz.func154 (rzl c) 0 [.pure (encL 6 az2 c)] [] (fun r=>.pure (.bool r)) (fun _=>[])
noncomputable def xzv (c:ezm):T Bool:=
 .cc (czu c.points) fun d=>
 .br d
 (.br (decide (0≤c.radius))
 (.ret (decide (c.radius≤1048576)))
 (.ret false))
 (.ret false)
noncomputable def xzu (c):=
 mkD Tryz.func256 (xzv c) 0 [.pure (Izy c)] [] (fun r=>.pure (.bool r)) (fun _=>[])
noncomputable def kzz (c:Al):T Bool:=
 .loop (fun (d:Int)=>⟨[(5,.pure (az1 c)),(6,pz d)],[],[],0⟩)
 (.exit 0) (fun (_:U0)=>⟨[],[],[],0⟩)
 (fun d=>let e:=([c.1,c.2.1,c.2.2]:List Int).getD d.toNat 0;.br (decide (d<3))
 (.gh d 3<|
 .cut 0 (fun (f:Bool)=>⟨[(5,.pure (az1 c)),(6,pz d),(14,.pure (.bool f))],[],[],0⟩)
 (.br (decide (e<(-16384)))
 (.oo true)
 (.oo (decide (e>16384)))) fun f=>
 .br f
 (.ff false)
 (.nn (i64.wrap (d+1))))
 (.oo .u))
 0 [] fun _=>
 .ret true
noncomputable def ez6 (c):=
 mkD Tryz.func234 (kzz c) 0 [.pure (az1 c)] [] (fun r=>.pure (.bool r)) (fun _=>[])
noncomputable def mzu (c:Al):T Bool:=
 .cc (ez6 c) fun d=>
 .br d
 (.ret (!((c.1==0)&&((c.2.1==0)&&((c.2.2==0)&&true)))))
 (.ret false)
noncomputable def ezk (c):=
 mkD Tryz.func188 (mzu c) 0 [.pure (az1 c)] [] (fun r=>.pure (.bool r)) (fun _=>[])
noncomputable def Czt (c:Al):T Al:=
 .ret (c.1,c.2.1,c.2.2)
noncomputable def pzy (c):=
 mkD Tryz.func278 (Czt c) 0 [.pure (az1 c)] [] (fun _=>.agg [.func 290 [] [.ptr 0 0],.func 292 [] []]) (fun r=>[(0,.box [pz r.1,pz r.2.1,pz r.2.2])])
noncomputable def uzo (c:Al)(d:Ar):T Ah:=let e:=i64.wrap (c.1 * d.1.Lo);let f:=i64.wrap (c.1 * d.1.Hi);let g:=i64.wrap (c.2.1 * d.2.1.Lo);let h:=i64.wrap (c.2.1 * d.2.1.Hi);let i:=i64.wrap (c.2.2 * d.2.2.Lo);let j:=i64.wrap (c.2.2 * d.2.2.Hi);.unroll 4<|
 .known true<|
 .ix 0 3 rfl<|
 .ix 0 3 rfl<|
 .ix 0 3 rfl<|
 .name 6004 ((i64.wrap (0+(min e f)))) fun k=>
 .name 7004 ((i64.wrap (0+(max e f)))) fun m=>
 .lit 8000 (1)<|
 .known true<|
 .ix 1 3 rfl<|
 .ix 1 3 rfl<|
 .ix 1 3 rfl<|
 .name 6004 ((i64.wrap (k+(min g h)))) fun n=>
 .name 7004 ((i64.wrap (m+(max g h)))) fun s=>
 .lit 8000 (2)<|
 .known true<|
 .ix 2 3 rfl<|
 .ix 2 3 rfl<|
 .ix 2 3 rfl<|
 .name 6004 ((i64.wrap (n+(min i j)))) fun t=>
 .name 7004 ((i64.wrap (s+(max i j)))) fun w=>
 .lit 8000 (3)<|
 .known false<|
 .ret (t,w)
noncomputable def uzn (c)(d):=
 mkD Tryz.func291 (uzo c d) 0 [.pure (az1 c),.pure (az2 d)] [] (fun r=>.tup [pz r.1,pz r.2]) (fun _=>[])
noncomputable def hza (c:Ar)(d:Int)(e:Int)(f:Int):T B0:=
 .cc (uzn (d,e,f) ((⟨c.1.Lo,c.1.Hi⟩:az0),(⟨c.2.1.Lo,c.2.1.Hi⟩:az0),(⟨c.2.2.Lo,c.2.2.Hi⟩:az0))) fun g=>
 .ret (g.1,d,e,f)
noncomputable def nz0 (c)(d)(e)(f):=
 mkD Tryz.func290 (hza c d e f) 1 [.pure (az2 c),.ptr 0 0] [(0,.box [pz d,pz e,pz f])] (fun r=>pz r.1) (fun r=>[(0,.box [pz r.2.1,pz r.2.2.1,pz r.2.2.2])])
noncomputable def yzm (c:Int)(d:Int):T Bool:=
 .ret (decide (c<d))
noncomputable def nz1 (c)(d):=
 mkD Tryz.func292 (yzm c d) 0 [pz c,pz d] [] (fun r=>.pure (.bool r)) (fun _=>[])
noncomputable def mz9 (c:Int)(d:Int)(e:Int)(f:As):T B1:=let g:=encL 6 az2 f;let h:=(f.length:Int);.loop (fun (i:B2)=>⟨[(2,.ptr 1 0),(6,pz i.2.2.2.1),(7,pz i.2.2.2.2.1),(11,.pure g),(12,pz h),(13,pz i.2.2.2.2.2)],[(0,.box [pz i.1,pz i.2.1,pz i.2.2.1]),(1,.box [.func 290 [] [.ptr 0 0],.func 292 [] []])],[],2⟩)
 (.exit 0) (fun (i:B1)=>⟨[(6,pz i.2.2.2.1),(7,pz i.2.2.2.2)],[(0,.box [pz i.1,pz i.2.1,pz i.2.2.1])],[],1⟩)
 (fun i=>.br (decide (i.2.2.2.2.2<h))
 (.cut 0 (fun (j:B1)=>⟨[(2,.ptr 1 0),(6,pz j.2.2.2.1),(7,pz j.2.2.2.2),(11,.pure g),(12,pz h),(13,pz i.2.2.2.2.2)],[(0,.box [pz j.1,pz j.2.1,pz j.2.2.1]),(1,.box [.func 290 [] [.ptr 0 0],.func 292 [] []])],[],2⟩)
 (.gh i.2.2.2.2.2 f.length<|
 .call (nz0 (f.getD ((i.2.2.2.2.2).toNat) default) i.1 i.2.1 i.2.2.1) [(0,0)] fun j=>
 .cut 0 (fun (k:Bool)=>⟨[(2,.ptr 1 0),(6,pz i.2.2.2.1),(7,pz i.2.2.2.2.1),(8,pz i.2.2.2.2.2),(10,pz j.1),(11,.pure g),(12,pz h),(13,pz i.2.2.2.2.2),(30,.pure (.bool k))],[(0,.box [pz j.2.1,pz j.2.2.1,pz j.2.2.2]),(1,.box [.func 290 [] [.ptr 0 0],.func 292 [] []])],[],2⟩)
 (.br (i.2.2.2.2.2==0)
 (.oo true)
 (.cc (nz1 j.1 i.2.2.2.1) fun k=>
 .oo k)) fun k=>
 .br k
 (.oo (j.2.1,j.2.2.1,j.2.2.2,j.1,i.2.2.2.2.2))
 (.oo (j.2.1,j.2.2.1,j.2.2.2,i.2.2.2.1,i.2.2.2.2.1))) fun j=>
 .nn (j.1,j.2.1,j.2.2.1,j.2.2.2.1,j.2.2.2.2,(i64.wrap (i.2.2.2.2.2+1))))
 (.oo (i.1,i.2.1,i.2.2.1,i.2.2.2.1,i.2.2.2.2.1)))
 (c,d,e,0,0,0) [] fun i=>
 .ret (i.2.2.2.1,i.2.2.2.2,i.1,i.2.1,i.2.2.1)
noncomputable def uzy (c)(d)(e)(f):=
 mkD Tryz.func279 (mz9 c d e f) 1 [.agg [.func 290 [] [.ptr 0 0],.func 292 [] []],.pure (encL 6 az2 f)] [(0,.box [pz c,pz d,pz e])] (fun r=>.tup [pz r.1,pz r.2.1]) (fun r=>[(0,.box [pz r.2.2.1,pz r.2.2.2.1,pz r.2.2.2.2])])
noncomputable def ozv (c:Al)(d:As):T Aw:=
 .cut 2 (fun (e:Bool)=>⟨[(1,.pure (encL 6 az2 d)),(2,.ptr 0 0),(16,.pure (.bool e))],[(0,.box [pz c.1,pz c.2.1,pz c.2.2])],[],1⟩)
 (.cc (ezk c) fun e=>
 .br (!e)
 (.oo true)
 (.cc (czu d) fun f=>
 .oo (!f))) fun e=>
 .br e
 (.ret (0,0,false))
 (.cc (pzy (c.1,c.2.1,c.2.2)) fun f=>
 .call (uzy f.1 f.2.1 f.2.2 d) [(0,65)] fun g=>
 .ret (g.1,g.2.1,true))
noncomputable def xzx (c)(d):=
 mkD Tryz.func257 (ozv c d) 0 [.pure (az1 c),.pure (encL 6 az2 d)] [] (fun r=>.tup [pz r.1,pz r.2.1,.pure (.bool r.2.2)]) (fun _=>[])
noncomputable def Fzp (c:Al):T Al:=
 .ret (c.1,c.2.1,c.2.2)
noncomputable def vzf (c):=
 mkD Tryz.func280 (Fzp c) 0 [.pure (az1 c)] [] (fun _=>.agg [.func 293 [] [.ptr 0 0],.func 294 [] []]) (fun r=>[(0,.box [pz r.1,pz r.2.1,pz r.2.2])])
noncomputable def jzv (c:Ar)(d:Int)(e:Int)(f:Int):T B0:=
 .cc (uzn (d,e,f) c) fun g=>
 .ret (g.2,d,e,f)
noncomputable def pzz (c)(d)(e)(f):=
 mkD Tryz.func293 (jzv c d e f) 1 [.pure (az2 c),.ptr 0 0] [(0,.box [pz d,pz e,pz f])] (fun r=>pz r.1) (fun r=>[(0,.box [pz r.2.1,pz r.2.2.1,pz r.2.2.2])])
noncomputable def Czu (c:Int)(d:Int):T Bool:=
 .ret (decide (c>d))
noncomputable def qz0 (c)(d):=
 mkD Tryz.func294 (Czu c d) 0 [pz c,pz d] [] (fun r=>.pure (.bool r)) (fun _=>[])
noncomputable def izk (c:Int)(d:Int)(e:Int)(f:As):T B1:=let g:=encL 6 az2 f;let h:=(f.length:Int);.loop (fun (i:B2)=>⟨[(2,.ptr 1 0),(6,pz i.2.2.2.1),(7,pz i.2.2.2.2.1),(11,.pure g),(12,pz h),(13,pz i.2.2.2.2.2)],[(0,.box [pz i.1,pz i.2.1,pz i.2.2.1]),(1,.box [.func 293 [] [.ptr 0 0],.func 294 [] []])],[],2⟩)
 (.exit 0) (fun (i:B1)=>⟨[(6,pz i.2.2.2.1),(7,pz i.2.2.2.2)],[(0,.box [pz i.1,pz i.2.1,pz i.2.2.1])],[],1⟩)
 (fun i=>.br (decide (i.2.2.2.2.2<h))
 (.cut 0 (fun (j:B1)=>⟨[(2,.ptr 1 0),(6,pz j.2.2.2.1),(7,pz j.2.2.2.2),(11,.pure g),(12,pz h),(13,pz i.2.2.2.2.2)],[(0,.box [pz j.1,pz j.2.1,pz j.2.2.1]),(1,.box [.func 293 [] [.ptr 0 0],.func 294 [] []])],[],2⟩)
 (.gh i.2.2.2.2.2 f.length<|
 .call (pzz (f.getD ((i.2.2.2.2.2).toNat) default) i.1 i.2.1 i.2.2.1) [(0,0)] fun j=>
 .cut 0 (fun (k:Bool)=>⟨[(2,.ptr 1 0),(6,pz i.2.2.2.1),(7,pz i.2.2.2.2.1),(8,pz i.2.2.2.2.2),(10,pz j.1),(11,.pure g),(12,pz h),(13,pz i.2.2.2.2.2),(30,.pure (.bool k))],[(0,.box [pz j.2.1,pz j.2.2.1,pz j.2.2.2]),(1,.box [.func 293 [] [.ptr 0 0],.func 294 [] []])],[],2⟩)
 (.br (i.2.2.2.2.2==0)
 (.oo true)
 (.cc (qz0 j.1 i.2.2.2.1) fun k=>
 .oo k)) fun k=>
 .br k
 (.oo (j.2.1,j.2.2.1,j.2.2.2,j.1,i.2.2.2.2.2))
 (.oo (j.2.1,j.2.2.1,j.2.2.2,i.2.2.2.1,i.2.2.2.2.1))) fun j=>
 .nn (j.1,j.2.1,j.2.2.1,j.2.2.2.1,j.2.2.2.2,(i64.wrap (i.2.2.2.2.2+1))))
 (.oo (i.1,i.2.1,i.2.2.1,i.2.2.2.1,i.2.2.2.2.1)))
 (c,d,e,0,0,0) [] fun i=>
 .ret (i.2.2.2.1,i.2.2.2.2,i.1,i.2.1,i.2.2.1)
noncomputable def pz3 (c)(d)(e)(f):=
 mkD Tryz.func279 (izk c d e f) 1 [.agg [.func 293 [] [.ptr 0 0],.func 294 [] []],.pure (encL 6 az2 f)] [(0,.box [pz c,pz d,pz e])] (fun r=>.tup [pz r.1,pz r.2.1]) (fun r=>[(0,.box [pz r.2.2.1,pz r.2.2.2.1,pz r.2.2.2.2])])
noncomputable def jzu (c:Al)(d:As):T Aw:=
 .cut 2 (fun (e:Bool)=>⟨[(1,.pure (encL 6 az2 d)),(2,.ptr 0 0),(16,.pure (.bool e))],[(0,.box [pz c.1,pz c.2.1,pz c.2.2])],[],1⟩)
 (.cc (ezk c) fun e=>
 .br (!e)
 (.oo true)
 (.cc (czu d) fun f=>
 .oo (!f))) fun e=>
 .br e
 (.ret (0,0,false))
 (.cc (vzf (c.1,c.2.1,c.2.2)) fun f=>
 .call (pz3 f.1 f.2.1 f.2.2 d) [(0,65)] fun g=>
 .ret (g.1,g.2.1,true))
noncomputable def pzx (c)(d):=
 mkD Tryz.func258 (jzu c d) 0 [.pure (az1 c),.pure (encL 6 az2 d)] [] (fun r=>.tup [pz r.1,pz r.2.1,.pure (.bool r.2.2)]) (fun _=>[])
noncomputable def Dzf (c:Int):T Int:=
 .cut 1 (fun (d:Ah)=>⟨[(0,.pure (.int .u64 d.1)),(2,pz d.2)],[],[],0⟩)
 (.br (decide (c≥4294967296))
 (.ok (0≤(32:Int)) (by decide)<|
 .oo ((c.fdiv (2 ^ (min (32:Int).toNat 64))),32))
 (.oo (c,0))) fun d=>
 .cut 0 (fun (e:Ah)=>⟨[(0,.pure (.int .u64 e.1)),(2,pz e.2)],[],[],0⟩)
 (.br (decide (d.1≥65536))
 (.ok (0≤(16:Int)) (by decide)<|
 .oo ((d.1.fdiv (2 ^ (min (16:Int).toNat 64))),(i64.wrap (d.2+16))))
 (.oo (d.1,d.2))) fun e=>
 .cut 0 (fun (f:Ah)=>⟨[(0,.pure (.int .u64 f.1)),(2,pz f.2)],[],[],0⟩)
 (.br (decide (e.1≥256))
 (.ok (0≤(8:Int)) (by decide)<|
 .oo ((e.1.fdiv (2 ^ (min (8:Int).toNat 64))),(i64.wrap (e.2+8))))
 (.oo (e.1,e.2))) fun f=>let g:=IntKind.u8.wrap f.1;
 .gh g ((⟨#[0,1,2,2,3,3,3,3,4,4,4,4,4,4,4,4,5,5,5,5,5,5,5,5,5,5,5,5,5,5,5,5,6,6,6,6,6,6,6,6,6,6,6,6,6,6,6,6,6,6,6,6,6,6,6,6,6,6,6,6,6,6,6,6,7,7,7,7,7,7,7,7,7,7,7,7,7,7,7,7,7,7,7,7,7,7,7,7,7,7,7,7,7,7,7,7,7,7,7,7,7,7,7,7,7,7,7,7,7,7,7,7,7,7,7,7,7,7,7,7,7,7,7,7,7,7,7,7,8,8,8,8,8,8,8,8,8,8,8,8,8,8,8,8,8,8,8,8,8,8,8,8,8,8,8,8,8,8,8,8,8,8,8,8,8,8,8,8,8,8,8,8,8,8,8,8,8,8,8,8,8,8,8,8,8,8,8,8,8,8,8,8,8,8,8,8,8,8,8,8,8,8,8,8,8,8,8,8,8,8,8,8,8,8,8,8,8,8,8,8,8,8,8,8,8,8,8,8,8,8,8,8,8,8,8,8,8,8,8,8,8,8,8,8,8,8,8,8,8,8,8,8,8,8,8,8]⟩:ByteArray).size)<|
 .name 10003 ((((⟨#[0,1,2,2,3,3,3,3,4,4,4,4,4,4,4,4,5,5,5,5,5,5,5,5,5,5,5,5,5,5,5,5,6,6,6,6,6,6,6,6,6,6,6,6,6,6,6,6,6,6,6,6,6,6,6,6,6,6,6,6,6,6,6,6,7,7,7,7,7,7,7,7,7,7,7,7,7,7,7,7,7,7,7,7,7,7,7,7,7,7,7,7,7,7,7,7,7,7,7,7,7,7,7,7,7,7,7,7,7,7,7,7,7,7,7,7,7,7,7,7,7,7,7,7,7,7,7,7,8,8,8,8,8,8,8,8,8,8,8,8,8,8,8,8,8,8,8,8,8,8,8,8,8,8,8,8,8,8,8,8,8,8,8,8,8,8,8,8,8,8,8,8,8,8,8,8,8,8,8,8,8,8,8,8,8,8,8,8,8,8,8,8,8,8,8,8,8,8,8,8,8,8,8,8,8,8,8,8,8,8,8,8,8,8,8,8,8,8,8,8,8,8,8,8,8,8,8,8,8,8,8,8,8,8,8,8,8,8,8,8,8,8,8,8,8,8,8,8,8,8,8,8,8,8,8,8]⟩:ByteArray).data.getD g.toNat 0).toNat:Int)) fun h=>
 .ret (i64.wrap (f.2+(i64.wrap h)))
noncomputable def kzf (c):=
 mkD Tryz.func281 (Dzf c) 0 [.pure (.int .u64 c)] [] (fun r=>pz r) (fun _=>[])
noncomputable def wz3 (c:Int):T Int:=let d:=IntKind.u64.wrap c;.br (decide (c≤0))
 (.ret 0)
 (.cc (kzf d) fun e=>let f:=i64.wrap ((i64.wrap (e+1)).tdiv 2);
 .ok ((2:Int)≠0) (by decide)<|
 .grd (0≤f)<|
 .loop (fun (g:Al)=>⟨[(0,pz c),(4,.pure (.int .u64 g.1)),(5,.pure (.int .u64 g.2.1)),(16,pz f),(17,pz g.2.2)],[],[],0⟩)
 (.exit 0) (fun (g:Int)=>⟨[(4,.pure (.int .u64 g))],[],[],0⟩)
 (fun g=>.br (decide (g.2.2<f))
 (.cut 0 (fun (h:Ah)=>⟨[(0,pz c),(4,.pure (.int .u64 h.1)),(5,.pure (.int .u64 h.2)),(16,pz f),(17,pz g.2.2)],[],[],0⟩)
 (.ok ((2:Int)≠0) (by decide)<|
 .name 7001 ((IntKind.u64.wrap (g.2.1.tdiv 2))) fun h=>let i:=IntKind.u64.wrap (g.1+h);
 .br (decide ((IntKind.u64.wrap (i * i))≤d))
 (.oo (i,h))
 (.oo (g.1,h))) fun h=>
 .nn (h.1,h.2,(i64.wrap (g.2.2+1))))
 (.oo g.1))
 (0,(IntKind.u64.wrap (1 * 2 ^ (min f.toNat 64))),0) [] fun g=>
 .ret (i64.wrap g))
noncomputable def wz2 (c):=
 mkD Tryz.func259 (wz3 c) 0 [pz c] [] (fun r=>pz r) (fun _=>[])
noncomputable def qze (c:Int):T Int:=
 .cc (wz2 c) fun d=>
 .cut 0 (fun (e:Int)=>⟨[(3,pz e)],[],[],0⟩)
 (.br (decide ((i64.wrap (d * d))<c))
 (.oo (i64.wrap (d+1)))
 (.oo d)) fun e=>
 .ret e
noncomputable def yzt (c):=
 mkD Tryz.func240 (qze c) 0 [pz c] [] (fun r=>pz r) (fun _=>[])
noncomputable def rzp (c:Al):T Int:=
 .cc (ezk (c.1,c.2.1,c.2.2)) fun d=>
 .br (!d)
 (.ret 0)
 (.ix 0 3 rfl<|
 .ix 0 3 rfl<|
 .ix 1 3 rfl<|
 .ix 1 3 rfl<|
 .ix 2 3 rfl<|
 .ix 2 3 rfl<|
 .name 3016 ((i64.wrap ((i64.wrap ((i64.wrap (c.1 * c.1))+(i64.wrap (c.2.1 * c.2.1))))+(i64.wrap (c.2.2 * c.2.2))))) fun e=>
 .cc (yzt e) fun f=>
 .ret f)
noncomputable def rzo (c):=
 mkD Tryz.func199 (rzp c) 0 [.pure (az1 c)] [] (fun r=>pz r) (fun _=>[])
noncomputable def rzm (c:czv)(d:Al):T Ai:=
 .cut 2 (fun (e:Bool)=>⟨[(2,.ptr 0 0),(3,.ptr 1 0),(20,.pure (.bool e))],[(0,.box [.pure (encL 6 az2 c.a.points),pz c.a.radius,.pure (encL 6 az2 c.b.points),pz c.b.radius]),(1,.box [pz d.1,pz d.2.1,pz d.2.2])],[],2⟩)
 (.cc (xzu c.a) fun e=>
 .br (!e)
 (.oo true)
 (.cc (xzu c.b) fun f=>
 .oo (!f))) fun e=>
 .br e
 (.ret (0,false))
 (.cc (xzx (d.1,d.2.1,d.2.2) c.a.points) fun f=>
 .br (!f.2.2)
 (.ret (0,false))
 (.cc (pzx (d.1,d.2.1,d.2.2) c.b.points) fun g=>
 .br (!g.2.2)
 (.ret (0,false))
 (.cc (rzo (d.1,d.2.1,d.2.2)) fun h=>
 .name 9013 ((i64.wrap ((i64.wrap (f.1-g.1))- (i64.wrap (h * (i64.wrap (c.a.radius+c.b.radius))))))) fun i=>
 .ret (i,true))))
noncomputable def zzm (c)(d):=
 mkD Tryz.func237 (rzm c d) 0 [.pure (nzx c),.pure (az1 d)] [] (fun r=>.tup [pz r.1,.pure (.bool r.2)]) (fun _=>[])
noncomputable def kzx (c:czv)(d:Al):T Bool:=
 .cc (zzm (⟨c.a,c.b⟩:czv) (d.1,d.2.1,d.2.2)) fun e=>
 .br e.2
 (.ret (decide (e.1>0)))
 (.ret false)
noncomputable def szj (c)(d):=
 mkD Tryz.func191 (kzx c d) 0 [.pure (nzx c),.pure (az1 d)] [] (fun r=>.pure (.bool r)) (fun _=>[])
noncomputable def kzj (c:Al)(d:As)(e:Int)(f:As)(g:Int):T Bool:=
 .cc (Ezo d e f g) fun h=>
 .cc (szj (⟨h.a,h.b⟩:czv) (c.1,c.2.1,c.2.2)) fun i=>
 .ret i
noncomputable def kzi (c)(d)(e)(f)(g):=
 mkD Tryz.func150 (kzj c d e f g) 0 [.pure (az1 c),.pure (encL 6 az2 d),pz e,.pure (encL 6 az2 f),pz g] [] (fun r=>.pure (.bool r)) (fun _=>[])
noncomputable def jz2 (c:Int):T Bool:=
 .br (decide (c≥0))
 (.ret (decide (c≤1048576)))
 (.ret false)
noncomputable def jz1 (c):=
 mkD Tryz.func187 (jz2 c) 0 [pz c] [] (fun r=>.pure (.bool r)) (fun _=>[])
noncomputable def qzi (c:az0):T Int:=
 .cc (bzt c) fun d=>
 .br (!d)
 (.ret 0)
 (.cc (azy (i64.wrap (c.Lo+c.Hi)) 1) fun e=>
 .ret e)
noncomputable def hzf (c):=
 mkD Tryz.func155 (qzi c) 0 [.pure (az6 c)] [] (fun r=>pz r) (fun _=>[])
set_option maxHeartbeats 8000000 in
set_option maxRecDepth 20000 in
noncomputable def gzl (c:As):T Am:=let d:=(c.length:Int);.cc (czu c) fun e=>
 .br (!e)
 (.ret nl)
 (.conv 3002 (Kzx 3 az1 78 d.toNat (0,0,0))<|
 .grd (0≤d/\d≤d/\d≤9223372036854775807/\d * 24≤140737488355328)<|
 .loop (fun (f:An)=>⟨[(3,.vec 0),(14,.pure (encL 6 az2 c)),(15,pz d),(16,pz f.2)],[(0,vecO 3 az1 f.1 78)],[],1⟩)
 (.exit 0) (fun (f:Am)=>⟨[(3,.vec 0)],[(0,vecO 3 az1 f 78)],[],1⟩)
 (fun f=>let g:=f.2;let h:=g.toNat;let i:=c.getD h default;let j:=f.1.getD h default;.br (decide (f.2<d))
 (.gh f.2 c.length<|
 .unroll 4<|
 .known true<|
 .ix 0 3 rfl<|
 .cc (hzf (i.1)) fun k=>let m:=f.1.set h (k,j.2.1,j.2.2);let n:=m.getD h default;
 .gh f.2 f.1.length<|
 .ix 0 3 rfl<|
 .conv 10007 (ozy 3 az1 f.1 78 h (k,j.2.1,j.2.2))<|
 .gi g f.1.length<|
 .lit 11000 (1)<|
 .known true<|
 .ix 1 3 rfl<|
 .cc (hzf (i.2.1)) fun s=>let t:=m.set h (n.1,s,n.2.2);let w:=t.getD h default;
 .gh f.2 (m.length)<|
 .ix 1 3 rfl<|
 .conv 10007 (ozy 3 az1 m 78 h (n.1,s,n.2.2))<|
 .gi g (m.length)<|
 .lit 11000 (2)<|
 .known true<|
 .ix 2 3 rfl<|
 .cc (hzf (i.2.2)) fun y=>
 .gh f.2 (t.length)<|
 .ix 2 3 rfl<|
 .conv 10007 (ozy 3 az1 t 78 h (w.1,w.2.1,y))<|
 .gi g (t.length)<|
 .lit 11000 (3)<|
 .known false<|
 .nn ((t.set h (w.1,w.2.1,y)),(i64.wrap (f.2+1))))
 (.oo f.1))
 ((List.replicate d.toNat ((0,0,0):Al)),0) [] fun f=>
 .ret f)
noncomputable def czl (c):=
 mkD Tryz.func119 (gzl c) 0 [.pure (encL 6 az2 c)] [] (fun r=>.pure (encL 3 az1 r)) (fun _=>[])
noncomputable def jz3 (c:Am):T Al:=let d:=(c.length:Nat);.loop (fun (e:B0)=>⟨[(2,.ptr 0 0),(3,.ptr 1 0),(7,.pure (encL 3 az1 c)),(8,pz (d:Int)),(9,pz e.2.2.2)],[(0,.box [pz 0,pz 0,pz 0]),(1,.box [pz e.1,pz e.2.1,pz e.2.2.1])],[],2⟩)
 (.exit 0) (fun (e:Al)=>⟨[(2,.ptr 0 0),(3,.ptr 1 0)],[(0,.box [pz 0,pz 0,pz 0]),(1,.box [pz e.1,pz e.2.1,pz e.2.2])],[],2⟩)
 (fun e=>let f:=c.getD ((e.2.2.2).toNat) default;.br (decide (e.2.2.2<(d:Int)))
 (.gh e.2.2.2 c.length<|
 .unroll 4<|
 .known true<|
 .ix 0 3 rfl<|
 .ix 0 3 rfl<|
 .ix 0 3 rfl<|
 .lit 9000 (1)<|
 .known true<|
 .ix 1 3 rfl<|
 .ix 1 3 rfl<|
 .ix 1 3 rfl<|
 .lit 9000 (2)<|
 .known true<|
 .ix 2 3 rfl<|
 .ix 2 3 rfl<|
 .ix 2 3 rfl<|
 .lit 9000 (3)<|
 .known false<|
 .nn ((i64.wrap (e.1+(f.1))),(i64.wrap (e.2.1+(f.2.1))),(i64.wrap (e.2.2.1+(f.2.2))),(i64.wrap (e.2.2.2+1))))
 (.oo (e.1,e.2.1,e.2.2.1)))
 (0,0,0,0) [] fun e=>
 .ret (e.1,e.2.1,e.2.2)
noncomputable def nz9 (c):=
 mkD Tryz.func236 (jz3 c) 0 [.pure (encL 3 az1 c)] [] (fun r=>.pure (az1 r)) (fun _=>[])
noncomputable def fzt (c:Al):T Aq:=
 .loop (fun (d:Al)=>⟨[(1,.ptr 0 0),(2,.ptr 1 0)],[(0,.box [pz d.1,pz d.2.1,pz d.2.2]),(1,.box [pz 0,pz 0,pz 0])],[],2⟩)
 (.exit 0) (fun (d:Al)=>⟨[(1,.ptr 0 0),(2,.ptr 1 0)],[(0,.box [pz d.1,pz d.2.1,pz d.2.2]),(1,.box [pz 0,pz 0,pz 0])],[],2⟩)
 (fun d=>.cc (ez6 (d.1,d.2.1,d.2.2)) fun e=>
 .br (!e)
 (.unroll 4<|
 .known true<|
 .ix 0 3 rfl<|
 .ok ((2:Int)≠0) (by decide)<|
 .ix 0 3 rfl<|
 .lit 6000 (1)<|
 .known true<|
 .ix 1 3 rfl<|
 .ok ((2:Int)≠0) (by decide)<|
 .ix 1 3 rfl<|
 .lit 6000 (2)<|
 .known true<|
 .ix 2 3 rfl<|
 .ok ((2:Int)≠0) (by decide)<|
 .ix 2 3 rfl<|
 .lit 6000 (3)<|
 .known false<|
 .nn ((i64.wrap (d.1.tdiv 2)),(i64.wrap (d.2.1.tdiv 2)),(i64.wrap (d.2.2.tdiv 2))))
 (.oo (d.1,d.2.1,d.2.2)))
 (c.1,c.2.1,c.2.2) [] fun d=>
 .ret ((d.1,d.2.1,d.2.2),(!((d.1==0)&&((d.2.1==0)&&((d.2.2==0)&&true)))))
noncomputable def iz3 (c):=
 mkD Tryz.func196 (fzt c) 0 [.pure (az1 c)] [] (fun r=>.tup [.pure (az1 r.1),.pure (.bool r.2)]) (fun _=>[])
noncomputable def hzi (c:As)(d:As):T Aq:=let e:=(d.length:Int);let f:=(c.length:Int);.cut 3 (fun (g:Bool)=>⟨[(0,.pure (encL 6 az2 c)),(1,.pure (encL 6 az2 d)),(4,.ptr 0 0),(5,.ptr 1 0),(18,.pure (.bool g))],[(0,.box [pz 0,pz 0,pz 0]),(1,.box [.ff])],[.func 235 [] [.ptr 0 0,.ptr 1 0]],2⟩)
 (.cc (czu c) fun g=>
 .br (!g)
 (.oo true)
 (.cc (czu d) fun h=>
 .oo (!h))) fun g=>
 .br g
 (.ret ((0,0,0),false))
 (.cc (czl c) fun h=>
 .cc (nz9 h) fun i=>
 .cc (czl d) fun j=>
 .cc (nz9 j) fun k=>
 .unroll 4<|
 .known true<|
 .ix 0 3 rfl<|
 .ix 0 3 rfl<|
 .name 9013 ((i64.wrap ((i64.wrap (i.1 * e))- (i64.wrap (k.1 * f))))) fun m=>
 .ix 0 3 rfl<|
 .lit 10000 (1)<|
 .known true<|
 .ix 1 3 rfl<|
 .ix 1 3 rfl<|
 .name 9013 ((i64.wrap ((i64.wrap (i.2.1 * e))- (i64.wrap (k.2.1 * f))))) fun n=>
 .ix 1 3 rfl<|
 .lit 10000 (2)<|
 .known true<|
 .ix 2 3 rfl<|
 .ix 2 3 rfl<|
 .name 9013 ((i64.wrap ((i64.wrap (i.2.2 * e))- (i64.wrap (k.2.2 * f))))) fun s=>
 .ix 2 3 rfl<|
 .lit 10000 (3)<|
 .known false<|
 .cc (iz3 (m,n,s)) fun t=>
 .ret (t.1,t.2))
noncomputable def lza (c)(d):=
 mkC [⟨235,Yze⟩] hd Tryz.func189 (by kernel_rfl) (hzi c d) 0 [.pure (encL 6 az2 c),.pure (encL 6 az2 d)] [] (fun r=>.tup [.pure (az1 r.1),.pure (.bool r.2)]) (fun _=>[]) (by kernel_rfl)
noncomputable def Jz4:T Am:=
 .conv 1006 (cz6 3 az1 ([(1,0,0),((-1),0,0),(0,1,0),(0,(-1),0),(0,0,1),(0,0,(-1))]:Am) 78)<|
 .ret ([(1,0,0),((-1),0,0),(0,1,0),(0,(-1),0),(0,0,1),(0,0,(-1))]:Am)
noncomputable def qzq:CallS Am:=
 mkD Tryz.func190 (Jz4) 0 [] [] (fun r=>.pure (encL 3 az1 r)) (fun _=>[])
noncomputable def fzo (c:Am):T Bool:=let d:=encL 3 az1 c;let e:=(c.length:Int);.cut 2 (fun (f:Bool)=>⟨[(0,.pure d),(14,.pure (.bool f))],[],[],0⟩)
 (.br (decide (e<1))
 (.oo true)
 (.oo (decide (e>8)))) fun f=>
 .br f
 (.ret false)
 (.loop (fun (g:Int)=>⟨[(15,.pure d),(16,pz e),(17,pz g)],[],[],0⟩)
 (.exit 0) (fun (_:U0)=>⟨[],[],[],0⟩)
 (fun g=>let h:=c.getD (g.toNat) default;.br (decide (g<e))
 (.gh g c.length<|
 .loop (fun (i:Int)=>⟨[(15,.pure d),(16,pz e),(17,pz g),(21,.pure (az1 h)),(22,pz i)],[],[],0⟩)
 (.exit 2) (fun (_:U0)=>⟨[(15,.pure d),(16,pz e),(17,pz g)],[],[],0⟩)
 (fun i=>.br (decide (i<3))
 (.gh i 3<|
 .name 8000 ((([h.1,h.2.1,h.2.2]:List Int).getD i.toNat 0)) fun j=>
 .cut 0 (fun (k:Bool)=>⟨[(15,.pure d),(16,pz e),(17,pz g),(21,.pure (az1 h)),(22,pz i),(30,.pure (.bool k))],[],[],0⟩)
 (.br (decide (j<(-268435456)))
 (.oo true)
 (.oo (decide (j>268435456)))) fun k=>
 .br k
 (.ff (.fin false))
 (.nn (i64.wrap (i+1))))
 (.oo .u))
 0 [] fun _=>
 .nn (i64.wrap (g+1)))
 (.oo .u))
 0 [] fun _=>
 .ret true)
noncomputable def iz2 (c):=
 mkD Tryz.func151 (fzo c) 0 [.pure (encL 3 az1 c)] [] (fun r=>.pure (.bool r)) (fun _=>[])
noncomputable def fz8 (c:Am):T (Am×A0):=let d:=(c.length:Int);let e:=List.replicate d.toNat (0:Int);.conv 1002 (Kzx 1 az3 2 d.toNat 0)<|
 .grd (0≤d/\d≤d/\d≤9223372036854775807/\d * 8≤140737488355328)<|
 .gh (0:Int) (e.length)<|
 .conv 2002 (ozy 1 az3 e 2 ((0:Int).toNat) 65536)<|
 .gi (0:Int) (e.length)<|
 .ret (c,(e.set ((0:Int).toNat) 65536))
noncomputable def gzv (c):=
 mkD Tryz.func152 (fz8 c) 0 [.pure (encL 3 az1 c)] [] (fun r=>.agg [.pure (encL 3 az1 r.1),.vec 0]) (fun r=>[(0,vecO 1 az3 r.2 2)])
noncomputable def sz1 (c:Am)(d:A0):T Al:=let e:=encL 3 az1 c;let f:=(c.length:Nat);.loop (fun (g:B0)=>⟨[(1,.ptr 1 0),(2,.ptr 2 0),(3,.ptr 3 0),(9,.pure e),(10,pz (f:Int)),(11,pz g.2.2.2)],[(0,vecO 1 az3 d 2),(1,.box [.pure e,.vec 0]),(2,.box [pz 0,pz 0,pz 0]),(3,.box [pz g.1,pz g.2.1,pz g.2.2.1])],[],4⟩)
 (.exit 0) (fun (g:Al)=>⟨[(2,.ptr 1 0),(3,.ptr 2 0)],[(0,vecO 1 az3 d 2),(1,.box [pz 0,pz 0,pz 0]),(2,.box [pz g.1,pz g.2.1,pz g.2.2])],[],3⟩)
 (fun g=>let h:=(g.2.2.2).toNat;let i:=c.getD h default;let j:=d.getD h default;.br (decide (g.2.2.2<(f:Int)))
 (.gh g.2.2.2 c.length<|
 .unroll 4<|
 .known true<|
 .ix 0 3 rfl<|
 .name 7001 (i.1) fun k=>
 .ix 0 3 rfl<|
 .gg g.2.2.2 d.length<|
 .name 8010 ((i64.wrap (g.1+(i64.wrap (j * k))))) fun m=>
 .ix 0 3 rfl<|
 .lit 9000 (1)<|
 .known true<|
 .ix 1 3 rfl<|
 .name 7001 (i.2.1) fun n=>
 .ix 1 3 rfl<|
 .gg g.2.2.2 d.length<|
 .name 8010 ((i64.wrap (g.2.1+(i64.wrap (j * n))))) fun s=>
 .ix 1 3 rfl<|
 .lit 9000 (2)<|
 .known true<|
 .ix 2 3 rfl<|
 .name 7001 (i.2.2) fun t=>
 .ix 2 3 rfl<|
 .gg g.2.2.2 d.length<|
 .name 8010 ((i64.wrap (g.2.2.1+(i64.wrap (j * t))))) fun w=>
 .ix 2 3 rfl<|
 .lit 9000 (3)<|
 .known false<|
 .nn (m,s,w,(i64.wrap (g.2.2.2+1))))
 (.oo (g.1,g.2.1,g.2.2.1)))
 (0,0,0,0) [] fun g=>
 .ret (g.1,g.2.1,g.2.2)
noncomputable def yz6 (c)(d):=
 mkD Tryz.func194 (sz1 c d) 1 [.agg [.pure (encL 3 az1 c),.vec 0]] [(0,vecO 1 az3 d 2)] (fun r=>.pure (az1 r)) (fun _=>[(0,vecO 1 az3 d 2)])
noncomputable def Hzh (c:Al)(d:Al):T Al:=
 .ix 0 3 rfl<|
 .ix 0 3 rfl<|
 .ix 1 3 rfl<|
 .ix 1 3 rfl<|
 .ix 2 3 rfl<|
 .ix 2 3 rfl<|
 .ret ((i64.wrap (c.1-d.1)),(i64.wrap (c.2.1-d.2.1)),(i64.wrap (c.2.2-d.2.2)))
noncomputable def izz (c)(d):=
 mkD Tryz.func193 (Hzh c d) 0 [.pure (az1 c),.pure (az1 d)] [] (fun r=>.pure (az1 r)) (fun _=>[])
noncomputable def fz7 (c:Al)(d:Int):T Bool:=
 .loop (fun (e:Ah)=>⟨[(1,pz d),(5,pz e.1),(9,.pure (az1 c)),(10,pz e.2)],[],[],0⟩)
 (.exit 0) (fun (e:Int)=>⟨[(1,pz d),(5,pz e)],[],[],0⟩)
 (fun e=>let f:=([c.1,c.2.1,c.2.2]:List Int).getD (e.2).toNat 0;.br (decide (e.2<3))
 (.gh e.2 3<|
 .name 5003 ((max f (i64.wrap (0-f)))) fun g=>
 .cc (bz5 g 16) fun h=>
 .nn ((i64.wrap (e.1+(i64.wrap (h * h)))),(i64.wrap (e.2+1))))
 (.oo e.1))
 (0,0) [] fun e=>
 .ret (decide (e≤(i64.wrap (d * d))))
noncomputable def kzg (c)(d):=
 mkD Tryz.func195 (fz7 c d) 0 [.pure (az1 c),pz d] [] (fun r=>.pure (.bool r)) (fun _=>[])
noncomputable def Lzx (c:Al)(d:Al):T Int:=
 .ix 0 3 rfl<|
 .ix 0 3 rfl<|
 .ix 1 3 rfl<|
 .ix 1 3 rfl<|
 .ix 2 3 rfl<|
 .ix 2 3 rfl<|
 .name 1016 ((i64.wrap ((i64.wrap ((i64.wrap (c.1 * d.1))+(i64.wrap (c.2.1 * d.2.1))))+(i64.wrap (c.2.2 * d.2.2))))) fun e=>
 .ret e
noncomputable def fzi (c)(d):=
 mkD Tryz.func239 (Lzx c d) 0 [.pure (az1 c),.pure (az1 d)] [] (fun r=>pz r) (fun _=>[])
noncomputable def lzm (c:Am)(d:A0)(e:Al):T Ah:=let f:=encL 3 az1 c;let g:=(c.length:Int);let h:Nat×Res:=(1,.box [pz e.1,pz e.2.1,pz e.2.2]);.gh (0:Int) c.length<|
 .cc (fzi e (c.getD ((0:Int).toNat) default)) fun i=>
 .loop (fun (j:Al)=>⟨[(3,.ptr 1 0),(6,pz j.1),(7,pz j.2.1),(20,.pure f),(21,pz g),(22,pz j.2.2)],[(0,vecO 1 az3 d 2),h],[],2⟩)
 (.exit 0) (fun (j:Ah)=>⟨[(6,pz j.1),(7,pz j.2)],[(0,vecO 1 az3 d 2)],[],1⟩)
 (fun j=>.br (decide (j.2.2<g))
 (.cut 0 (fun (k:Ah)=>⟨[(3,.ptr 1 0),(6,pz k.1),(7,pz k.2),(20,.pure f),(21,pz g),(22,pz j.2.2)],[(0,vecO 1 az3 d 2),h],[],2⟩)
 (.gh j.2.2 c.length<|
 .cc (fzi e (c.getD ((j.2.2).toNat) default)) fun k=>
 .br (decide (k<j.1))
 (.oo (k,j.2.2))
 (.oo (j.1,j.2.1))) fun k=>
 .nn (k.1,k.2,(i64.wrap (j.2.2+1))))
 (.oo (j.1,j.2.1)))
 (i,0,0) [] fun j=>
 .ret (j.1,j.2)
noncomputable def wza (c)(d)(e):=
 mkD Tryz.func197 (lzm c d e) 1 [.agg [.pure (encL 3 az1 c),.vec 0],.pure (az1 e)] [(0,vecO 1 az3 d 2)] (fun r=>.tup [pz r.1,pz r.2]) (fun _=>[(0,vecO 1 az3 d 2)])
noncomputable def fzr (c:Am)(d:A0)(e:Al):T Ah:=let f:=encL 3 az1 c;let g:=(c.length:Int);let h:Nat×Res:=(1,.box [pz e.1,pz e.2.1,pz e.2.2]);.gh (0:Int) c.length<|
 .cc (fzi e (c.getD ((0:Int).toNat) default)) fun i=>
 .loop (fun (j:Al)=>⟨[(3,.ptr 1 0),(6,pz j.1),(7,pz j.2.1),(20,.pure f),(21,pz g),(22,pz j.2.2)],[(0,vecO 1 az3 d 2),h],[],2⟩)
 (.exit 0) (fun (j:Ah)=>⟨[(6,pz j.1),(7,pz j.2)],[(0,vecO 1 az3 d 2)],[],1⟩)
 (fun j=>.br (decide (j.2.2<g))
 (.cut 0 (fun (k:Ah)=>⟨[(3,.ptr 1 0),(6,pz k.1),(7,pz k.2),(20,.pure f),(21,pz g),(22,pz j.2.2)],[(0,vecO 1 az3 d 2),h],[],2⟩)
 (.gh j.2.2 c.length<|
 .cc (fzi e (c.getD ((j.2.2).toNat) default)) fun k=>
 .br (decide (k>j.1))
 (.oo (k,j.2.2))
 (.oo (j.1,j.2.1))) fun k=>
 .nn (k.1,k.2,(i64.wrap (j.2.2+1))))
 (.oo (j.1,j.2.1)))
 (i,0,0) [] fun j=>
 .ret (j.1,j.2)
noncomputable def mzq (c)(d)(e):=
 mkD Tryz.func198 (fzr c d e) 1 [.agg [.pure (encL 3 az1 c),.vec 0],.pure (az1 e)] [(0,vecO 1 az3 d 2)] (fun r=>.tup [pz r.1,pz r.2]) (fun _=>[(0,vecO 1 az3 d 2)])
noncomputable def hzh (c:Al)(d:Al):T Int:=
 .cc (izz c d) fun e=>
 .cc (fzi c e) fun f=>
 .cc (fzi e e) fun g=>let h:=i64.wrap (g.tdiv 256);
 .br (decide (f≤0))
 (.ret 0)
 (.ok ((256:Int)≠0) (by decide)<|
 .grd ((max 1 h)≠0)<|
 .ret (min 256 (i64.wrap (f.tdiv (max 1 h)))))
noncomputable def qzp (c)(d):=
 mkD Tryz.func200 (hzh c d) 0 [.pure (az1 c),.pure (az1 d)] [] (fun r=>pz r) (fun _=>[])
noncomputable def izu (c:Am)(d:A0)(e:Int)(f:Int):T A0:=let g:=e.toNat;let h:=(d.length:Nat);let i:Nat×Res:=(1,.box [.pure (encL 3 az1 c),.vec 0]);.loop (fun (j:Ak)=>⟨[(1,pz e),(2,pz f),(3,.ptr 1 0),(6,pz j.2.1),(11,.vec 0),(12,pz (h:Int)),(13,pz j.2.2)],[(0,vecO 1 az3 j.1 2),i],[],2⟩)
 (.exit 0) (fun (j:A2)=>⟨[(1,pz e),(3,.ptr 1 0),(6,pz j.2)],[(0,vecO 1 az3 j.1 2),i],[],2⟩)
 (fun j=>let k:=(j.2.2).toNat;let m:=j.1.getD k default;let n:=i64.wrap ((i64.wrap (m * f)).tdiv 256);.br (decide (j.2.2<(h:Int)))
 (.gg j.2.2 j.1.length<|
 .ok ((256:Int)≠0) (by decide)<|
 .gg j.2.2 j.1.length<|
 .name 6006 ((i64.wrap (m-n))) fun s=>
 .gh j.2.2 j.1.length<|
 .conv 6008 (ozy 1 az3 j.1 2 k s)<|
 .gi (j.2.2) j.1.length<|
 .name 7002 ((i64.wrap (j.2.1+n))) fun t=>
 .nn ((j.1.set k s),t,(i64.wrap (j.2.2+1))))
 (.oo (j.1,j.2.1)))
 (d,0,0) [] fun j=>let k:=i64.wrap ((j.1.getD g default)+j.2);
 .gg e j.1.length<|
 .gh e j.1.length<|
 .conv 9008 (ozy 1 az3 j.1 2 g k)<|
 .gi (e) j.1.length<|
 .ret (j.1.set g k)
noncomputable def nz6 (c)(d)(e)(f):=
 mkD Tryz.func201 (izu c d e f) 1 [.agg [.pure (encL 3 az1 c),.vec 0],pz e,pz f] [(0,vecO 1 az3 d 2)] (fun _=>.tup []) (fun r=>[(0,vecO 1 az3 r 2)])
noncomputable def ozu (c:Am)(d:A0)(e:Am)(f:A0)(g:Int)(h:Int)(i:Int)(j:Int)(k:Int)(m:Int):T (Int×Am×A0×Am×A0×Int×Int×Int×Int):=
 .loop (fun (n:(A0×A0×Int×Int×Int×Int))=>⟨[(0,.ptr 0 0),(1,pz k),(2,pz m)],[(0,.box [.pure (encL 3 az1 c),.vec 1,.pure (encL 3 az1 e),.vec 2,pz n.2.2.1,pz n.2.2.2.1,pz n.2.2.2.2.1,pz n.2.2.2.2.2]),(1,vecO 1 az3 n.1 2),(2,vecO 1 az3 n.2.1 2)],[],3⟩)
 .ret (fun (_:U0)=>⟨[],[],[],3⟩)
 (fun n=>.call (yz6 c n.1) [(0,1)] fun s=>
 .call (yz6 e n.2.1) [(0,2)] fun t=>
 .cc (izz s t) fun w=>let y:=i64.wrap (w.1.tdiv 65536);let z:=i64.wrap (w.2.1.tdiv 65536);let aa:=i64.wrap (w.2.2.tdiv 65536);
 .cc (kzg w k) fun ab=>
 .br ab
 (.ff (2,c,n.1,e,n.2.1,n.2.2.1,n.2.2.2.1,n.2.2.2.2.1,n.2.2.2.2.2))
 (.ix 0 3 rfl<|
 .ok ((65536:Int)≠0) (by decide)<|
 .ix 1 3 rfl<|
 .ok ((65536:Int)≠0) (by decide)<|
 .ix 2 3 rfl<|
 .ok ((65536:Int)≠0) (by decide)<|
 .cc (iz3 (y,z,aa)) fun ac=>
 .br (!ac.2)
 (.ff (0,c,n.1,e,n.2.1,ac.1.1,ac.1.2.1,ac.1.2.2,n.2.2.2.2.2))
 (.call (wza c n.1 ac.1) [(0,1)] fun ad=>
 .call (mzq e n.2.1 ac.1) [(0,2)] fun ae=>
 .cc (rzo ac.1) fun af=>
 .br (decide ((i64.wrap (ad.1-ae.1))>(i64.wrap (af * k))))
 (.ff (1,c,n.1,e,n.2.1,ac.1.1,ac.1.2.1,ac.1.2.2,n.2.2.2.2.2))
 (.br (n.2.2.2.2.2==m)
 (.ff (0,c,n.1,e,n.2.1,ac.1.1,ac.1.2.1,ac.1.2.2,n.2.2.2.2.2))
 (.gh ad.2 c.length<|
 .gh ae.2 e.length<|
 .cc (izz (c.getD ((ad.2).toNat) default) (e.getD ((ae.2).toNat) default)) fun ag=>
 .cc (qzp (y,z,aa) ag) fun ah=>
 .br (ah==0)
 (.ff (0,c,n.1,e,n.2.1,ac.1.1,ac.1.2.1,ac.1.2.2,n.2.2.2.2.2))
 (.call (nz6 c n.1 ad.2 ah) [(0,1)] fun ai=>
 .call (nz6 e n.2.1 ae.2 ah) [(0,2)] fun aj=>
 .nn (ai,aj,ac.1.1,ac.1.2.1,ac.1.2.2,(i64.wrap (n.2.2.2.2.2+1)))))))))
 (d,f,g,h,i,j) [] fun _=>
 .stop
noncomputable def Izg (c)(d)(e)(f)(g)(h)(i)(j)(k)(m):=
 mkD Tryz.func153 (ozu c d e f g h i j k m) 3 [.ptr 0 0,pz k,pz m] [(0,.box [.pure (encL 3 az1 c),.vec 1,.pure (encL 3 az1 e),.vec 2,pz g,pz h,pz i,pz j]),(1,vecO 1 az3 d 2),(2,vecO 1 az3 f 2)] (fun r=>pz r.1) (fun r=>[(0,.box [.pure (encL 3 az1 r.2.1),.vec 1,.pure (encL 3 az1 r.2.2.2.1),.vec 2,pz r.2.2.2.2.2.1,pz r.2.2.2.2.2.2.1,pz r.2.2.2.2.2.2.2.1,pz r.2.2.2.2.2.2.2.2]),(1,vecO 1 az3 r.2.2.1 2),(2,vecO 1 az3 r.2.2.2.2.1 2)])
noncomputable def fzn (c:Am)(d:Am)(e:Int)(f:Int):T czo:=
 .cut 2 (fun (g:Bool)=>⟨[(0,.pure (encL 3 az1 c)),(1,.pure (encL 3 az1 d)),(2,pz e),(3,pz f),(8,.ptr 0 0),(34,.pure (.bool g))],[(0,.box [pz 0,pz 0,pz 0,pz 0,.vec 1,.vec 2,pz 0]),(1,.nilv),(2,.nilv)],[],3⟩)
 (.cc (iz2 c) fun g=>
 .br (!g)
 (.oo true)
 (.cc (iz2 d) fun h=>
 .br (!h)
 (.oo true)
 (.br (decide (e<0))
 (.oo true)
 (.br (decide (e>2097152))
 (.oo true)
 (.br (decide (f<0))
 (.oo true)
 (.oo (decide (f>64)))))))) fun g=>
 .br g
 (.ret (⟨0,(0,0,0),nl,nl,0⟩:czo))
 (.cc (gzv c) fun h=>
 .cc (gzv d) fun i=>
 .call (Izg h.1 h.2 i.1 i.2 0 0 0 0 e f) [(0,451),(1,67),(2,259)] fun j=>
 .ret (⟨j.1,(j.2.2.2.2.2.1,j.2.2.2.2.2.2.1,j.2.2.2.2.2.2.2.1),j.2.2.1,j.2.2.2.2.1,j.2.2.2.2.2.2.2.2⟩:czo))
noncomputable def dzq (c)(d)(e)(f):=
 mkD Tryz.func118 (fzn c d e f) 0 [.pure (encL 3 az1 c),.pure (encL 3 az1 d),pz e,pz f] [] (fun r=>.pure (Gzr r)) (fun _=>[])
end Go.Abs
