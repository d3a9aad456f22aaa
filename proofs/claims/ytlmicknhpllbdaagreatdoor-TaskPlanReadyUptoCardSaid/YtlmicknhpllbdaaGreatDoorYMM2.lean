/-
  M2 (a part of a claim: our own text).
-/
import Derived.Test.YtlmicknhpllbdaaGreatDoorYMM1
namespace Go.Abs
set_option maxHeartbeats 8000000
set_option maxRecDepth 20000
open IntKind (i64)
open Go.Proofs
noncomputable def ez9 (k:A4):T Int:=
 .loop (ik 8 [0,1,7] [])
 (.exit 0) (jk [] [])
 (fun aa=>.br (decide (aa<(k.length:Int)))
 (.gh aa k.length<|
 .cc (zz0 (k.getD (aa.toNat) default)) fun ab=>
 .br ab
 (.ff aa)
 (.nn (i64.wrap (aa+1))))
 (.oo .u))
 0 [] fun _=>
 .ret (-1)
noncomputable def gzh (k):=
 mkD Tryz.func399 (ez9 k) 0 [q k,.func 301 [] []] [] (fun r=>pz r) (fun _=>[])
noncomputable def dzl (k:A4):T Bool:=
 .cc (gzh k) fun aa=>
 .ret (decide (aa≥0))
noncomputable def fzo (k):=
 mkD Tryz.func300 (dzl k) 0 [q k,.func 301 [] []] [] (fun r=>q r) (fun _=>[])
noncomputable def uz6 (k:A4):T Bool:=
 .cc (fzo k) fun aa=>
 .ret (!aa)
noncomputable def gzz:=
 mkp1 Tryz.func197 uz6
noncomputable def xz1 (k:Int):T Int:=
 .ret (min (max k (-2147483648)) 2147483648)
noncomputable def xz0:=
 mkp1 Tryz.func400 xz1
noncomputable def lz2 (k:Int)(aa:Int):T az0:=
 .cc (xz0 k) fun ab=>
 .cc (xz0 aa) fun ac=>
 .ret (⟨ab,ac⟩:az0)
noncomputable def hzi:=
 mkp2 Tryz.func302 lz2
noncomputable def xzd (k:Int):T az0:=
 .cc (hzi k k) fun aa=>
 .ret aa
noncomputable def cza:=
 mkp1 Tryz.func199 xzd
noncomputable def dz6 (k:A4):T Ae:=let aa:=(k.length:Int);.conv 1002 (zzm 2 tz3 106 aa.toNat (⟨0,0⟩:az0))<|
 .grd (0≤aa/\aa≤aa/\aa≤9223372036854775807/\aa * 16≤140737488355328)<|
 .loop (fun s (ab:Af)=>pk s [1,5,11,12] [] [(13,pz ab.2)] [(192,vO ab.1 106)])
 (.exit 0) (fun s (ab:Ae)=>pk s [5] [] [] [(192,vO ab 106)])
 (fun ab=>let ac:=(ab.2).toNat;.br (decide (ab.2<aa))
 (.gh ab.2 k.length<|
 .cc (cza (k.getD ac default)) fun ad=>
 .gh ab.2 ab.1.length<|
 .conv 5006 (kS ab.1 106 ac ad)<|
 .gi (ab.2) ab.1.length<|
 .nn ((ab.1.set ac ad),(i64.wrap (ab.2+1))))
 (.oo ab.1))
 ((List.replicate aa.toNat ((⟨0,0⟩:az0):az0)),0) [] fun ab=>
 .ret ab
noncomputable def fz7 (k):=
 mkD Tryz.func198 (dz6 k) 0 [q k,.func 199 [] []] [] (fun r=>q r) (fun _=>[])
noncomputable def Az3 (k:A4):T Ae:=
 .cc (gzz k) fun aa=>
 .br (!aa)
 (.ret nl)
 (.cc (fz7 k) fun ab=>
 .ret ab)
noncomputable def Az2:=
 mkp1 Tryz.func110 Az3
noncomputable def ozt (k:az0):T Bool:=
 .br (decide ((-2147483648)≤k.Lo))
 (.br (decide (k.Lo≤k.Hi))
 (.ret (decide (k.Hi≤2147483648)))
 (.ret false))
 (.ret false)
noncomputable def bzj:=
 mkp1 Tryz.func256 ozt
noncomputable def jz1 (k:az0):T Bool:=
 .cc (bzj k) fun aa=>
 .ret (!aa)
noncomputable def pzx:=
 mkp1 Tryz.func297 jz1
noncomputable def cz1 (k:Ae):T Int:=
 .loop (ik 8 [0,1,7] [])
 (.exit 0) (jk [] [])
 (fun aa=>.br (decide (aa<(k.length:Int)))
 (.gh aa k.length<|
 .cc (pzx (k.getD (aa.toNat) default)) fun ab=>
 .br ab
 (.ff aa)
 (.nn (i64.wrap (aa+1))))
 (.oo .u))
 0 [] fun _=>
 .ret (-1)
noncomputable def dza (k):=
 mkD Tryz.func395 (cz1 k) 0 [q k,.func 297 [] []] [] (fun r=>pz r) (fun _=>[])
noncomputable def bzv (k:Ae):T Bool:=
 .cc (dza k) fun aa=>
 .ret (decide (aa≥0))
noncomputable def czw (k):=
 mkD Tryz.func296 (bzv k) 0 [q k,.func 297 [] []] [] (fun r=>q r) (fun _=>[])
noncomputable def lz6 (k:azn)(aa:Ae):T Bool:=
 .br ((aa.length:Int)==(k.Joints.length:Int))
 (.cc (czw aa) fun ab=>
 .ret (!ab))
 (.ret false)
noncomputable def hzj:=
 mkp2 Tryz.func195 lz6
noncomputable def uzi (k:Bj):T Bp:=
 .unroll 4<|
 .known true<|
 .ix 0 3 rfl<|
 .cc (cza k.1) fun aa=>
 .ix 0 3 rfl<|
 .lit 6000 (1)<|
 .known true<|
 .ix 1 3 rfl<|
 .cc (cza k.2.1) fun ab=>
 .ix 1 3 rfl<|
 .lit 6000 (2)<|
 .known true<|
 .ix 2 3 rfl<|
 .cc (cza k.2.2) fun ac=>
 .ix 2 3 rfl<|
 .lit 6000 (3)<|
 .known false<|
 .ret (aa,ab,ac)
noncomputable def jzc:=
 mkp1 Tryz.func112 uzi
noncomputable def matrix_Identity_T:T Bs:=
 .unroll 4<|
 .known true<|
 .cc (cza 65536) fun k=>
 .ix 0 3 rfl<|
 .ix 0 3 rfl<|
 .lit 6000 (1)<|
 .known true<|
 .cc (cza 65536) fun aa=>
 .ix 1 3 rfl<|
 .ix 1 3 rfl<|
 .lit 6000 (2)<|
 .known true<|
 .cc (cza 65536) fun ab=>
 .ix 2 3 rfl<|
 .ix 2 3 rfl<|
 .lit 6000 (3)<|
 .known false<|
 .ret ((k,(⟨0,0⟩:az0),(⟨0,0⟩:az0)),((⟨0,0⟩:az0),aa,(⟨0,0⟩:az0)),((⟨0,0⟩:az0),(⟨0,0⟩:az0),ab))
noncomputable def matrix_Identity_C:CallS Bs:=
 mkD Tryz.func468 (matrix_Identity_T) 0 [] [] (fun r=>q r) (fun _=>[])
noncomputable def Bz8 (k:Bp):T bz2:=
 .cc (matrix_Identity_C) fun aa=>
 .ret (⟨aa,k⟩:bz2)
noncomputable def tzh:=
 mkp1 Tryz.func396 Bz8
noncomputable def gz2 (k:Int):T Int:=
 .cut 3 (fun s (aa:Bool)=>pk s [0,2,3] [] [(4,q aa)] [(0,.box [.any])])
 (.br (k==1)
 (.oo (k==1))
 (.br (k==2)
 (.oo (k==2))
 (.oo (k==3)))) fun aa=>
 .br aa
 (.ret (i64.wrap (k-1)))
 (.cub 0 12 [0,2] [0]
 (.br (k==4)
 (.oo (k==4))
 (.br (k==5)
 (.oo (k==5))
 (.oo (k==6)))) fun ab=>
 .br ab
 (.stop)
 (.stop))
noncomputable def gz1:=
 mkq1 Tryz.func397 gz2 (fun r=>.agg [.func 469 [pz r] []])
noncomputable def gz4 (k:Int):T Int:=
 .cut 3 (fun s (aa:Bool)=>pk s [0,2,3] [] [(4,q aa)] [(0,.box [.any])])
 (.br (k==1)
 (.oo (k==1))
 (.br (k==2)
 (.oo (k==2))
 (.oo (k==3)))) fun aa=>
 .br aa
 (.stop)
 (.cub 0 12 [0,2] [0]
 (.br (k==4)
 (.oo (k==4))
 (.br (k==5)
 (.oo (k==5))
 (.oo (k==6)))) fun ab=>
 .br ab
 (.ret (i64.wrap (k-4)))
 (.stop))
noncomputable def gz3:=
 mkq1 Tryz.func397 gz4 (fun r=>.agg [.func 470 [pz r] []])
noncomputable def gz5 (k:Int):T Int:=
 .cut 3 (fun s (aa:Bool)=>pk s [0,2,3] [] [(4,q aa)] [(0,.box [.any])])
 (.br (k==1)
 (.oo (k==1))
 (.br (k==2)
 (.oo (k==2))
 (.oo (k==3)))) fun aa=>
 .br aa
 (.stop)
 (.cub 0 12 [0,2] [0]
 (.br (k==4)
 (.oo (k==4))
 (.br (k==5)
 (.oo (k==5))
 (.oo (k==6)))) fun ab=>
 .br ab
 (.stop)
 (.ret 0))
noncomputable def kzi:=
 mkq1 Tryz.func397 gz5 (fun r=>.agg [.func 471 [pz r] []])
noncomputable def pose_still_T:T Bp:=
 .cc (jzc (0,0,0)) fun k=>
 .ret k
noncomputable def pose_still_C:CallS Bp:=
 mkD Tryz.func475 (pose_still_T) 0 [] [] (fun r=>q r) (fun _=>[])
noncomputable def pose_Identity_T:T bz2:=
 .cc (pose_still_C) fun k=>
 .cc (tzh k) fun aa=>
 .ret aa
noncomputable def pose_Identity_C:CallS bz2:=
 mkD Tryz.func405 (pose_Identity_T) 0 [] [] (fun r=>q r) (fun _=>[])
noncomputable def Ezn (_a0:Int)(_a1:az0):T bz2:=
 .cc (pose_Identity_C) fun k=>
 .ret k
noncomputable def Nzv:=
 mkp2 Tryz.func471 Ezn
noncomputable def oz6 (k:bz2):T Cn:=
 .ret (k.R.1.1.Lo,k.R.1.1.Hi,k.R.1.2.1.Lo,k.R.1.2.1.Hi,k.R.1.2.2.Lo,k.R.1.2.2.Hi,k.R.2.1.1.Lo,k.R.2.1.1.Hi,k.R.2.1.2.1.Lo,k.R.2.1.2.1.Hi,k.R.2.1.2.2.Lo,k.R.2.1.2.2.Hi,k.R.2.2.1.Lo,k.R.2.2.1.Hi,k.R.2.2.2.1.Lo,k.R.2.2.2.1.Hi,k.R.2.2.2.2.Lo,k.R.2.2.2.2.Hi,k.T.1.Lo,k.T.1.Hi,k.T.2.1.Lo,k.T.2.1.Hi,k.T.2.2.Lo,k.T.2.2.Hi)
noncomputable def tzi:=
 mkv1 Tryz.func200 oz6 (fun _=>.func 303 [] [.ptr 0 0]) (fun r=>[(0,.box [pz r.1,pz r.2.1,pz r.2.2.1,pz r.2.2.2.1,pz r.2.2.2.2.1,pz r.2.2.2.2.2.1,pz r.2.2.2.2.2.2.1,pz r.2.2.2.2.2.2.2.1,pz r.2.2.2.2.2.2.2.2.1,pz r.2.2.2.2.2.2.2.2.2.1,pz r.2.2.2.2.2.2.2.2.2.2.1,pz r.2.2.2.2.2.2.2.2.2.2.2.1,pz r.2.2.2.2.2.2.2.2.2.2.2.2.1,pz r.2.2.2.2.2.2.2.2.2.2.2.2.2.1,pz r.2.2.2.2.2.2.2.2.2.2.2.2.2.2.1,pz r.2.2.2.2.2.2.2.2.2.2.2.2.2.2.2.1,pz r.2.2.2.2.2.2.2.2.2.2.2.2.2.2.2.2.1,pz r.2.2.2.2.2.2.2.2.2.2.2.2.2.2.2.2.2.1,pz r.2.2.2.2.2.2.2.2.2.2.2.2.2.2.2.2.2.2.1,pz r.2.2.2.2.2.2.2.2.2.2.2.2.2.2.2.2.2.2.2.1,pz r.2.2.2.2.2.2.2.2.2.2.2.2.2.2.2.2.2.2.2.2.1,pz r.2.2.2.2.2.2.2.2.2.2.2.2.2.2.2.2.2.2.2.2.2.1,pz r.2.2.2.2.2.2.2.2.2.2.2.2.2.2.2.2.2.2.2.2.2.2.1,pz r.2.2.2.2.2.2.2.2.2.2.2.2.2.2.2.2.2.2.2.2.2.2.2])])
noncomputable def ozw (k:az0)(aa:az0):T Bool:=
 .cc (bzj k) fun ab=>
 .br ab
 (.cc (bzj aa) fun ac=>
 .ret ac)
 (.ret false)
noncomputable def jzz:=
 mkp2 Tryz.func473 ozw
noncomputable def mzq (k:Int)(aa:Int):T Int:=
 .br (decide (aa<0))
 (.ret k)
 (.grd (0≤aa)<|
 .ret (k.fdiv (2 ^ (min aa.toNat 64))))
noncomputable def bz1:=
 mkp2 Tryz.func423 mzq
noncomputable def rzc (k:Int)(aa:Int):T Int:=let ab:=min aa.toNat 64;let ac:=k.fdiv (2 ^ ab);.br (decide (aa<0))
 (.ret k)
 (.grd (0≤aa)<|
 .cut 0 (fun s (ad:Int)=>pk s [] [] [(5,pz ad)] [])
 (.grd (0≤aa)<|
 .br ((i64.wrap (ac * 2 ^ ab)) !=k)
 (.oo (i64.wrap (ac+1)))
 (.oo ac)) fun ad=>
 .ret ad)
noncomputable def bz6:=
 mkp2 Tryz.func480 rzc
noncomputable def mzr (k:Int)(aa:Int):T az0:=
 .cc (bz1 k 16) fun ab=>
 .cc (bz6 aa 16) fun ac=>
 .cc (hzi ab ac) fun ad=>
 .ret ad
noncomputable def vzs:=
 mkp2 Tryz.func474 mzr
noncomputable def uzf (k:az0)(aa:az0):T az0:=let ab:=i64.wrap (k.Lo * aa.Lo);.cc (jzz (⟨k.Lo,k.Hi⟩:az0) (⟨aa.Lo,aa.Hi⟩:az0)) fun ac=>
 .br (!ac)
 (.ret (⟨0,0⟩:az0))
 (.ix 0 4 rfl<|
 .ix 0 4 rfl<|
 .loop (fun s (ad:Bj)=>pk s [4,40] [128] [(6,pz ad.1),(7,pz ad.2.1),(41,pz ad.2.2)] [])
 (.exit 0) (fun s (ad:B1)=>pk s [4] [128] [(6,pz ad.1),(7,pz ad.2)] [])
 (fun ad=>.br (decide (ad.2.2<4))
 (.gh ad.2.2 4<|
 .name 7000 ((([ab,(i64.wrap (k.Lo * aa.Hi)),(i64.wrap (k.Hi * aa.Lo)),(i64.wrap (k.Hi * aa.Hi))]:List Int).getD (ad.2.2).toNat 0)) fun ae=>
 .nn ((min ad.1 ae),(max ad.2.1 ae),(i64.wrap (ad.2.2+1))))
 (.oo (ad.1,ad.2.1)))
 (ab,ab,0) [] fun ad=>
 .cc (vzs ad.1 ad.2) fun ae=>
 .ret ae)
noncomputable def azl:=
 mkp2 Tryz.func402 uzf
noncomputable def uzb (k:az0)(aa:az0):T az0:=
 .cc (jzz k aa) fun ab=>
 .br (!ab)
 (.ret (⟨0,0⟩:az0))
 (.cc (hzi (i64.wrap (k.Lo+aa.Lo)) (i64.wrap (k.Hi+aa.Hi))) fun ac=>
 .ret ac)
noncomputable def azj:=
 mkp2 Tryz.func401 uzb
noncomputable def pz0 (k:Int):T Int:=
 .ret (min (max k (-65536)) 65536)
noncomputable def azx:=
 mkp1 Tryz.func472 pz0
noncomputable def ozz (k:Bs)(aa:Bs):T Bs:=
 .unroll 4<|
 .known true<|
 .unroll 4<|
 .known true<|
 .unroll 4<|
 .known true<|
 .ix 0 3 rfl<|
 .ix 0 3 rfl<|
 .ix 0 3 rfl<|
 .ix 0 3 rfl<|
 .cc (azl k.1.1 aa.1.1) fun ab=>
 .cc (azj (⟨0,0⟩:az0) ab) fun ac=>
 .lit 13000 (1)<|
 .known true<|
 .ix 0 3 rfl<|
 .ix 1 3 rfl<|
 .ix 1 3 rfl<|
 .ix 0 3 rfl<|
 .cc (azl k.1.2.1 aa.2.1.1) fun ad=>
 .cc (azj ac ad) fun ae=>
 .lit 13000 (2)<|
 .known true<|
 .ix 0 3 rfl<|
 .ix 2 3 rfl<|
 .ix 2 3 rfl<|
 .ix 0 3 rfl<|
 .cc (azl k.1.2.2 aa.2.2.1) fun af=>
 .cc (azj ae af) fun ag=>
 .lit 13000 (3)<|
 .known false<|
 .cc (azx ag.Lo) fun ah=>
 .cc (azx ag.Hi) fun ai=>
 .ix 0 3 rfl<|
 .ix 0 3 rfl<|
 .lit 15000 (1)<|
 .known true<|
 .unroll 4<|
 .known true<|
 .ix 0 3 rfl<|
 .ix 0 3 rfl<|
 .ix 0 3 rfl<|
 .ix 1 3 rfl<|
 .cc (azl k.1.1 aa.1.2.1) fun aj=>
 .cc (azj (⟨0,0⟩:az0) aj) fun ak=>
 .lit 13000 (1)<|
 .known true<|
 .ix 0 3 rfl<|
 .ix 1 3 rfl<|
 .ix 1 3 rfl<|
 .ix 1 3 rfl<|
 .cc (azl k.1.2.1 aa.2.1.2.1) fun al=>
 .cc (azj ak al) fun am=>
 .lit 13000 (2)<|
 .known true<|
 .ix 0 3 rfl<|
 .ix 2 3 rfl<|
 .ix 2 3 rfl<|
 .ix 1 3 rfl<|
 .cc (azl k.1.2.2 aa.2.2.2.1) fun an=>
 .cc (azj am an) fun ao=>
 .lit 13000 (3)<|
 .known false<|
 .cc (azx ao.Lo) fun ap=>
 .cc (azx ao.Hi) fun aq=>
 .ix 0 3 rfl<|
 .ix 1 3 rfl<|
 .lit 15000 (2)<|
 .known true<|
 .unroll 4<|
 .known true<|
 .ix 0 3 rfl<|
 .ix 0 3 rfl<|
 .ix 0 3 rfl<|
 .ix 2 3 rfl<|
 .cc (azl k.1.1 aa.1.2.2) fun ar=>
 .cc (azj (⟨0,0⟩:az0) ar) fun au=>
 .lit 13000 (1)<|
 .known true<|
 .ix 0 3 rfl<|
 .ix 1 3 rfl<|
 .ix 1 3 rfl<|
 .ix 2 3 rfl<|
 .cc (azl k.1.2.1 aa.2.1.2.2) fun av=>
 .cc (azj au av) fun aw=>
 .lit 13000 (2)<|
 .known true<|
 .ix 0 3 rfl<|
 .ix 2 3 rfl<|
 .ix 2 3 rfl<|
 .ix 2 3 rfl<|
 .cc (azl k.1.2.2 aa.2.2.2.2) fun ax=>
 .cc (azj aw ax) fun ay=>
 .lit 13000 (3)<|
 .known false<|
 .cc (azx ay.Lo) fun az=>
 .cc (azx ay.Hi) fun a0=>
 .ix 0 3 rfl<|
 .ix 2 3 rfl<|
 .lit 15000 (3)<|
 .known false<|
 .lit 16000 (1)<|
 .known true<|
 .unroll 4<|
 .known true<|
 .unroll 4<|
 .known true<|
 .ix 1 3 rfl<|
 .ix 0 3 rfl<|
 .ix 0 3 rfl<|
 .ix 0 3 rfl<|
 .cc (azl k.2.1.1 aa.1.1) fun a1=>
 .cc (azj (⟨0,0⟩:az0) a1) fun a2=>
 .lit 13000 (1)<|
 .known true<|
 .ix 1 3 rfl<|
 .ix 1 3 rfl<|
 .ix 1 3 rfl<|
 .ix 0 3 rfl<|
 .cc (azl k.2.1.2.1 aa.2.1.1) fun a3=>
 .cc (azj a2 a3) fun a4=>
 .lit 13000 (2)<|
 .known true<|
 .ix 1 3 rfl<|
 .ix 2 3 rfl<|
 .ix 2 3 rfl<|
 .ix 0 3 rfl<|
 .cc (azl k.2.1.2.2 aa.2.2.1) fun a5=>
 .cc (azj a4 a5) fun a6=>
 .lit 13000 (3)<|
 .known false<|
 .cc (azx a6.Lo) fun a7=>
 .cc (azx a6.Hi) fun a8=>
 .ix 1 3 rfl<|
 .ix 0 3 rfl<|
 .lit 15000 (1)<|
 .known true<|
 .unroll 4<|
 .known true<|
 .ix 1 3 rfl<|
 .ix 0 3 rfl<|
 .ix 0 3 rfl<|
 .ix 1 3 rfl<|
 .cc (azl k.2.1.1 aa.1.2.1) fun a9=>
 .cc (azj (⟨0,0⟩:az0) a9) fun ba=>
 .lit 13000 (1)<|
 .known true<|
 .ix 1 3 rfl<|
 .ix 1 3 rfl<|
 .ix 1 3 rfl<|
 .ix 1 3 rfl<|
 .cc (azl k.2.1.2.1 aa.2.1.2.1) fun bb=>
 .cc (azj ba bb) fun bc=>
 .lit 13000 (2)<|
 .known true<|
 .ix 1 3 rfl<|
 .ix 2 3 rfl<|
 .ix 2 3 rfl<|
 .ix 1 3 rfl<|
 .cc (azl k.2.1.2.2 aa.2.2.2.1) fun bd=>
 .cc (azj bc bd) fun be=>
 .lit 13000 (3)<|
 .known false<|
 .cc (azx be.Lo) fun bf=>
 .cc (azx be.Hi) fun bg=>
 .ix 1 3 rfl<|
 .ix 1 3 rfl<|
 .lit 15000 (2)<|
 .known true<|
 .unroll 4<|
 .known true<|
 .ix 1 3 rfl<|
 .ix 0 3 rfl<|
 .ix 0 3 rfl<|
 .ix 2 3 rfl<|
 .cc (azl k.2.1.1 aa.1.2.2) fun bh=>
 .cc (azj (⟨0,0⟩:az0) bh) fun bi=>
 .lit 13000 (1)<|
 .known true<|
 .ix 1 3 rfl<|
 .ix 1 3 rfl<|
 .ix 1 3 rfl<|
 .ix 2 3 rfl<|
 .cc (azl k.2.1.2.1 aa.2.1.2.2) fun bj=>
 .cc (azj bi bj) fun bk=>
 .lit 13000 (2)<|
 .known true<|
 .ix 1 3 rfl<|
 .ix 2 3 rfl<|
 .ix 2 3 rfl<|
 .ix 2 3 rfl<|
 .cc (azl k.2.1.2.2 aa.2.2.2.2) fun bl=>
 .cc (azj bk bl) fun bm=>
 .lit 13000 (3)<|
 .known false<|
 .cc (azx bm.Lo) fun bn=>
 .cc (azx bm.Hi) fun bp=>
 .ix 1 3 rfl<|
 .ix 2 3 rfl<|
 .lit 15000 (3)<|
 .known false<|
 .lit 16000 (2)<|
 .known true<|
 .unroll 4<|
 .known true<|
 .unroll 4<|
 .known true<|
 .ix 2 3 rfl<|
 .ix 0 3 rfl<|
 .ix 0 3 rfl<|
 .ix 0 3 rfl<|
 .cc (azl k.2.2.1 aa.1.1) fun bq=>
 .cc (azj (⟨0,0⟩:az0) bq) fun bs=>
 .lit 13000 (1)<|
 .known true<|
 .ix 2 3 rfl<|
 .ix 1 3 rfl<|
 .ix 1 3 rfl<|
 .ix 0 3 rfl<|
 .cc (azl k.2.2.2.1 aa.2.1.1) fun bt=>
 .cc (azj bs bt) fun bu=>
 .lit 13000 (2)<|
 .known true<|
 .ix 2 3 rfl<|
 .ix 2 3 rfl<|
 .ix 2 3 rfl<|
 .ix 0 3 rfl<|
 .cc (azl k.2.2.2.2 aa.2.2.1) fun bv=>
 .cc (azj bu bv) fun bw=>
 .lit 13000 (3)<|
 .known false<|
 .cc (azx bw.Lo) fun bx=>
 .cc (azx bw.Hi) fun bz=>
 .ix 2 3 rfl<|
 .ix 0 3 rfl<|
 .lit 15000 (1)<|
 .known true<|
 .unroll 4<|
 .known true<|
 .ix 2 3 rfl<|
 .ix 0 3 rfl<|
 .ix 0 3 rfl<|
 .ix 1 3 rfl<|
 .cc (azl k.2.2.1 aa.1.2.1) fun b0=>
 .cc (azj (⟨0,0⟩:az0) b0) fun b1=>
 .lit 13000 (1)<|
 .known true<|
 .ix 2 3 rfl<|
 .ix 1 3 rfl<|
 .ix 1 3 rfl<|
 .ix 1 3 rfl<|
 .cc (azl k.2.2.2.1 aa.2.1.2.1) fun b2=>
 .cc (azj b1 b2) fun b3=>
 .lit 13000 (2)<|
 .known true<|
 .ix 2 3 rfl<|
 .ix 2 3 rfl<|
 .ix 2 3 rfl<|
 .ix 1 3 rfl<|
 .cc (azl k.2.2.2.2 aa.2.2.2.1) fun b4=>
 .cc (azj b3 b4) fun b5=>
 .lit 13000 (3)<|
 .known false<|
 .cc (azx b5.Lo) fun b6=>
 .cc (azx b5.Hi) fun b7=>
 .ix 2 3 rfl<|
 .ix 1 3 rfl<|
 .lit 15000 (2)<|
 .known true<|
 .unroll 4<|
 .known true<|
 .ix 2 3 rfl<|
 .ix 0 3 rfl<|
 .ix 0 3 rfl<|
 .ix 2 3 rfl<|
 .cc (azl k.2.2.1 aa.1.2.2) fun b8=>
 .cc (azj (⟨0,0⟩:az0) b8) fun b9=>
 .lit 13000 (1)<|
 .known true<|
 .ix 2 3 rfl<|
 .ix 1 3 rfl<|
 .ix 1 3 rfl<|
 .ix 2 3 rfl<|
 .cc (azl k.2.2.2.1 aa.2.1.2.2) fun ca=>
 .cc (azj b9 ca) fun cb=>
 .lit 13000 (2)<|
 .known true<|
 .ix 2 3 rfl<|
 .ix 2 3 rfl<|
 .ix 2 3 rfl<|
 .ix 2 3 rfl<|
 .cc (azl k.2.2.2.2 aa.2.2.2.2) fun cc=>
 .cc (azj cb cc) fun cd=>
 .lit 13000 (3)<|
 .known false<|
 .cc (azx cd.Lo) fun ce=>
 .cc (azx cd.Hi) fun cf=>
 .ix 2 3 rfl<|
 .ix 2 3 rfl<|
 .lit 15000 (3)<|
 .known false<|
 .lit 16000 (3)<|
 .known false<|
 .ret (((⟨ah,ai⟩:az0),(⟨ap,aq⟩:az0),(⟨az,a0⟩:az0)),((⟨a7,a8⟩:az0),(⟨bf,bg⟩:az0),(⟨bn,bp⟩:az0)),((⟨bx,bz⟩:az0),(⟨b6,b7⟩:az0),(⟨ce,cf⟩:az0)))
noncomputable def zz7:=
 mkp2 Tryz.func398 ozz
noncomputable def uzh (k:Bs)(aa:Bp):T Bp:=
 .unroll 4<|
 .known true<|
 .unroll 4<|
 .known true<|
 .ix 0 3 rfl<|
 .ix 0 3 rfl<|
 .ix 0 3 rfl<|
 .ix 0 3 rfl<|
 .cc (azl k.1.1 aa.1) fun ab=>
 .cc (azj (⟨0,0⟩:az0) ab) fun ac=>
 .ix 0 3 rfl<|
 .lit 9000 (1)<|
 .known true<|
 .ix 0 3 rfl<|
 .ix 0 3 rfl<|
 .ix 1 3 rfl<|
 .ix 1 3 rfl<|
 .cc (azl k.1.2.1 aa.2.1) fun ad=>
 .cc (azj ac ad) fun ae=>
 .ix 0 3 rfl<|
 .lit 9000 (2)<|
 .known true<|
 .ix 0 3 rfl<|
 .ix 0 3 rfl<|
 .ix 2 3 rfl<|
 .ix 2 3 rfl<|
 .cc (azl k.1.2.2 aa.2.2) fun af=>
 .cc (azj ae af) fun ag=>
 .ix 0 3 rfl<|
 .lit 9000 (3)<|
 .known false<|
 .lit 10000 (1)<|
 .known true<|
 .unroll 4<|
 .known true<|
 .ix 1 3 rfl<|
 .ix 1 3 rfl<|
 .ix 0 3 rfl<|
 .ix 0 3 rfl<|
 .cc (azl k.2.1.1 aa.1) fun ah=>
 .cc (azj (⟨0,0⟩:az0) ah) fun ai=>
 .ix 1 3 rfl<|
 .lit 9000 (1)<|
 .known true<|
 .ix 1 3 rfl<|
 .ix 1 3 rfl<|
 .ix 1 3 rfl<|
 .ix 1 3 rfl<|
 .cc (azl k.2.1.2.1 aa.2.1) fun aj=>
 .cc (azj ai aj) fun ak=>
 .ix 1 3 rfl<|
 .lit 9000 (2)<|
 .known true<|
 .ix 1 3 rfl<|
 .ix 1 3 rfl<|
 .ix 2 3 rfl<|
 .ix 2 3 rfl<|
 .cc (azl k.2.1.2.2 aa.2.2) fun al=>
 .cc (azj ak al) fun am=>
 .ix 1 3 rfl<|
 .lit 9000 (3)<|
 .known false<|
 .lit 10000 (2)<|
 .known true<|
 .unroll 4<|
 .known true<|
 .ix 2 3 rfl<|
 .ix 2 3 rfl<|
 .ix 0 3 rfl<|
 .ix 0 3 rfl<|
 .cc (azl k.2.2.1 aa.1) fun an=>
 .cc (azj (⟨0,0⟩:az0) an) fun ao=>
 .ix 2 3 rfl<|
 .lit 9000 (1)<|
 .known true<|
 .ix 2 3 rfl<|
 .ix 2 3 rfl<|
 .ix 1 3 rfl<|
 .ix 1 3 rfl<|
 .cc (azl k.2.2.2.1 aa.2.1) fun ap=>
 .cc (azj ao ap) fun aq=>
 .ix 2 3 rfl<|
 .lit 9000 (2)<|
 .known true<|
 .ix 2 3 rfl<|
 .ix 2 3 rfl<|
 .ix 2 3 rfl<|
 .ix 2 3 rfl<|
 .cc (azl k.2.2.2.2 aa.2.2) fun ar=>
 .cc (azj aq ar) fun au=>
 .ix 2 3 rfl<|
 .lit 9000 (3)<|
 .known false<|
 .lit 10000 (3)<|
 .known false<|
 .ret (ag,am,au)
noncomputable def Dzw:=
 mkp2 Tryz.func305 uzh
noncomputable def Bz0 (k:Bp)(aa:Bp):T Bp:=
 .unroll 4<|
 .known true<|
 .ix 0 3 rfl<|
 .ix 0 3 rfl<|
 .cc (azj k.1 aa.1) fun ab=>
 .ix 0 3 rfl<|
 .lit 6000 (1)<|
 .known true<|
 .ix 1 3 rfl<|
 .ix 1 3 rfl<|
 .cc (azj k.2.1 aa.2.1) fun ac=>
 .ix 1 3 rfl<|
 .lit 6000 (2)<|
 .known true<|
 .ix 2 3 rfl<|
 .ix 2 3 rfl<|
 .cc (azj k.2.2 aa.2.2) fun ad=>
 .ix 2 3 rfl<|
 .lit 6000 (3)<|
 .known false<|
 .ret (ab,ac,ad)
noncomputable def Lza:=
 mkp2 Tryz.func304 Bz0
noncomputable def jzg (k:Bp)(aa:Int)(ab:Int)(ac:Int)(ad:Int)(ae:Int)(af:Int)(ag:Int)(ah:Int)(ai:Int)(aj:Int)(ak:Int)(al:Int)(am:Int)(an:Int)(ao:Int)(ap:Int)(aq:Int)(ar:Int)(au:Int)(av:Int)(aw:Int)(ax:Int)(ay:Int)(az:Int):T (Bp×Int×Int×Int×Int×Int×Int×Int×Int×Int×Int×Int×Int×Int×Int×Int×Int×Int×Int×Int×Int×Int×Int×Int×Int):=
 .cc (Dzw (((⟨aa,ab⟩:az0),(⟨ac,ad⟩:az0),(⟨ae,af⟩:az0)),((⟨ag,ah⟩:az0),(⟨ai,aj⟩:az0),(⟨ak,al⟩:az0)),((⟨am,an⟩:az0),(⟨ao,ap⟩:az0),(⟨aq,ar⟩:az0))) ((⟨k.1.Lo,k.1.Hi⟩:az0),(⟨k.2.1.Lo,k.2.1.Hi⟩:az0),(⟨k.2.2.Lo,k.2.2.Hi⟩:az0))) fun a0=>
 .cc (Lza ((⟨au,av⟩:az0),(⟨aw,ax⟩:az0),(⟨ay,az⟩:az0)) a0) fun a1=>
 .ret (a1,aa,ab,ac,ad,ae,af,ag,ah,ai,aj,ak,al,am,an,ao,ap,aq,ar,au,av,aw,ax,ay,az)
noncomputable def nzt (k)(aa)(ab)(ac)(ad)(ae)(af)(ag)(ah)(ai)(aj)(ak)(al)(am)(an)(ao)(ap)(aq)(ar)(au)(av)(aw)(ax)(ay)(az):=
 mkD Tryz.func303 (jzg k aa ab ac ad ae af ag ah ai aj ak al am an ao ap aq ar au av aw ax ay az) 1 [q k,.ptr 0 0] [(0,.box [pz aa,pz ab,pz ac,pz ad,pz ae,pz af,pz ag,pz ah,pz ai,pz aj,pz ak,pz al,pz am,pz an,pz ao,pz ap,pz aq,pz ar,pz au,pz av,pz aw,pz ax,pz ay,pz az])] (fun r=>q r.1) (fun r=>[(0,.box [pz r.2.1,pz r.2.2.1,pz r.2.2.2.1,pz r.2.2.2.2.1,pz r.2.2.2.2.2.1,pz r.2.2.2.2.2.2.1,pz r.2.2.2.2.2.2.2.1,pz r.2.2.2.2.2.2.2.2.1,pz r.2.2.2.2.2.2.2.2.2.1,pz r.2.2.2.2.2.2.2.2.2.2.1,pz r.2.2.2.2.2.2.2.2.2.2.2.1,pz r.2.2.2.2.2.2.2.2.2.2.2.2.1,pz r.2.2.2.2.2.2.2.2.2.2.2.2.2.1,pz r.2.2.2.2.2.2.2.2.2.2.2.2.2.2.1,pz r.2.2.2.2.2.2.2.2.2.2.2.2.2.2.2.1,pz r.2.2.2.2.2.2.2.2.2.2.2.2.2.2.2.2.1,pz r.2.2.2.2.2.2.2.2.2.2.2.2.2.2.2.2.2.1,pz r.2.2.2.2.2.2.2.2.2.2.2.2.2.2.2.2.2.2.1,pz r.2.2.2.2.2.2.2.2.2.2.2.2.2.2.2.2.2.2.2.1,pz r.2.2.2.2.2.2.2.2.2.2.2.2.2.2.2.2.2.2.2.2.1,pz r.2.2.2.2.2.2.2.2.2.2.2.2.2.2.2.2.2.2.2.2.2.1,pz r.2.2.2.2.2.2.2.2.2.2.2.2.2.2.2.2.2.2.2.2.2.2.1,pz r.2.2.2.2.2.2.2.2.2.2.2.2.2.2.2.2.2.2.2.2.2.2.2.1,pz r.2.2.2.2.2.2.2.2.2.2.2.2.2.2.2.2.2.2.2.2.2.2.2.2])])
noncomputable def uzm (k:bz2)(aa:bz2):T bz2:=
 .cc (tzi k) fun ab=>
 .cc (zz7 k.R aa.R) fun ac=>
 .call (nzt aa.T ab.1 ab.2.1 ab.2.2.1 ab.2.2.2.1 ab.2.2.2.2.1 ab.2.2.2.2.2.1 ab.2.2.2.2.2.2.1 ab.2.2.2.2.2.2.2.1 ab.2.2.2.2.2.2.2.2.1 ab.2.2.2.2.2.2.2.2.2.1 ab.2.2.2.2.2.2.2.2.2.2.1 ab.2.2.2.2.2.2.2.2.2.2.2.1 ab.2.2.2.2.2.2.2.2.2.2.2.2.1 ab.2.2.2.2.2.2.2.2.2.2.2.2.2.1 ab.2.2.2.2.2.2.2.2.2.2.2.2.2.2.1 ab.2.2.2.2.2.2.2.2.2.2.2.2.2.2.2.1 ab.2.2.2.2.2.2.2.2.2.2.2.2.2.2.2.2.1 ab.2.2.2.2.2.2.2.2.2.2.2.2.2.2.2.2.2.1 ab.2.2.2.2.2.2.2.2.2.2.2.2.2.2.2.2.2.2.1 ab.2.2.2.2.2.2.2.2.2.2.2.2.2.2.2.2.2.2.2.1 ab.2.2.2.2.2.2.2.2.2.2.2.2.2.2.2.2.2.2.2.2.1 ab.2.2.2.2.2.2.2.2.2.2.2.2.2.2.2.2.2.2.2.2.2.1 ab.2.2.2.2.2.2.2.2.2.2.2.2.2.2.2.2.2.2.2.2.2.2.1 ab.2.2.2.2.2.2.2.2.2.2.2.2.2.2.2.2.2.2.2.2.2.2.2) [(0,256)] fun ad=>
 .ret (⟨(ac.1,ac.2.1,ac.2.2),ad.1⟩:bz2)
noncomputable def jzf:=
 mkp2 Tryz.func299 uzm
noncomputable def zzx (k:Int)(aa:az0):T bz2:=
 .cut 2 (fun s (ab:Ca)=>pk s [4,5] [64] [] [(128,.box [pz ab.1,pz ab.2.1,pz ab.2.2.1,pz ab.2.2.2.1,pz ab.2.2.2.2.1,pz ab.2.2.2.2.2])])
 (.cas 2000 k 0
 (.ix 0 3 rfl<|
 .oo (aa.Lo,aa.Hi,0,0,0,0))
 (.cas 2000 k 1
 (.ix 1 3 rfl<|
 .oo (0,0,aa.Lo,aa.Hi,0,0))
 (.cas 2000 k 2
 (.ix 2 3 rfl<|
 .oo (0,0,0,0,aa.Lo,aa.Hi))
 (.stop)))) fun ab=>
 .cc (tzh ((⟨ab.1,ab.2.1⟩:az0),(⟨ab.2.2.1,ab.2.2.2.1⟩:az0),(⟨ab.2.2.2.2.1,ab.2.2.2.2.2⟩:az0))) fun ac=>
 .ret ac
noncomputable def Kzy:=
 mkp2 Tryz.func470 zzx
noncomputable def ozv (k:az0):T Int:=
 .cc (bzj k) fun aa=>
 .br (!aa)
 (.ret 0)
 (.ret (i64.wrap (k.Hi-k.Lo)))
noncomputable def ozu:=
 mkp1 Tryz.func545 ozv
noncomputable def rz3 (k:Int):T Int:=
 .ret (i64.wrap (((BitVec.ofInt 64 k&&&BitVec.ofInt 64 65535).toNat:Int)))
noncomputable def kzu:=
 mkp1 Tryz.func548 rz3
noncomputable def ozn (k:Int):T (Cl×Cl):=
 .ix 0 11 rfl<|
 .ix 0 11 rfl<|
 .cc (bz1 (i64.wrap (k * 6746518852)) 16) fun aa=>
 .ix 1 11 rfl<|
 .cc (bz6 (i64.wrap (k * 6746518853)) 16) fun ab=>
 .ix 1 11 rfl<|
 .unroll 10<|
 .known true<|
 .lit 8002 (1)<|
 .ix 1 11 rfl<|
 .ix 1 11 rfl<|
 .cc (bz1 (i64.wrap (aa * aa)) 30) fun ac=>
 .ix 2 11 rfl<|
 .lit 9002 (1)<|
 .ix 1 11 rfl<|
 .ix 1 11 rfl<|
 .cc (bz6 (i64.wrap (ab * ab)) 30) fun ad=>
 .ix 2 11 rfl<|
 .lit 7001 (3)<|
 .known true<|
 .lit 8002 (2)<|
 .ix 2 11 rfl<|
 .ix 1 11 rfl<|
 .cc (bz1 (i64.wrap (ac * aa)) 30) fun ae=>
 .ix 3 11 rfl<|
 .lit 9002 (2)<|
 .ix 2 11 rfl<|
 .ix 1 11 rfl<|
 .cc (bz6 (i64.wrap (ad * ab)) 30) fun af=>
 .ix 3 11 rfl<|
 .lit 7001 (4)<|
 .known true<|
 .lit 8002 (3)<|
 .ix 3 11 rfl<|
 .ix 1 11 rfl<|
 .cc (bz1 (i64.wrap (ae * aa)) 30) fun ag=>
 .ix 4 11 rfl<|
 .lit 9002 (3)<|
 .ix 3 11 rfl<|
 .ix 1 11 rfl<|
 .cc (bz6 (i64.wrap (af * ab)) 30) fun ah=>
 .ix 4 11 rfl<|
 .lit 7001 (5)<|
 .known true<|
 .lit 8002 (4)<|
 .ix 4 11 rfl<|
 .ix 1 11 rfl<|
 .cc (bz1 (i64.wrap (ag * aa)) 30) fun ai=>
 .ix 5 11 rfl<|
 .lit 9002 (4)<|
 .ix 4 11 rfl<|
 .ix 1 11 rfl<|
 .cc (bz6 (i64.wrap (ah * ab)) 30) fun aj=>
 .ix 5 11 rfl<|
 .lit 7001 (6)<|
 .known true<|
 .lit 8002 (5)<|
 .ix 5 11 rfl<|
 .ix 1 11 rfl<|
 .cc (bz1 (i64.wrap (ai * aa)) 30) fun ak=>
 .ix 6 11 rfl<|
 .lit 9002 (5)<|
 .ix 5 11 rfl<|
 .ix 1 11 rfl<|
 .cc (bz6 (i64.wrap (aj * ab)) 30) fun al=>
 .ix 6 11 rfl<|
 .lit 7001 (7)<|
 .known true<|
 .lit 8002 (6)<|
 .ix 6 11 rfl<|
 .ix 1 11 rfl<|
 .cc (bz1 (i64.wrap (ak * aa)) 30) fun am=>
 .ix 7 11 rfl<|
 .lit 9002 (6)<|
 .ix 6 11 rfl<|
 .ix 1 11 rfl<|
 .cc (bz6 (i64.wrap (al * ab)) 30) fun an=>
 .ix 7 11 rfl<|
 .lit 7001 (8)<|
 .known true<|
 .lit 8002 (7)<|
 .ix 7 11 rfl<|
 .ix 1 11 rfl<|
 .cc (bz1 (i64.wrap (am * aa)) 30) fun ao=>
 .ix 8 11 rfl<|
 .lit 9002 (7)<|
 .ix 7 11 rfl<|
 .ix 1 11 rfl<|
 .cc (bz6 (i64.wrap (an * ab)) 30) fun ap=>
 .ix 8 11 rfl<|
 .lit 7001 (9)<|
 .known true<|
 .lit 8002 (8)<|
 .ix 8 11 rfl<|
 .ix 1 11 rfl<|
 .cc (bz1 (i64.wrap (ao * aa)) 30) fun aq=>
 .ix 9 11 rfl<|
 .lit 9002 (8)<|
 .ix 8 11 rfl<|
 .ix 1 11 rfl<|
 .cc (bz6 (i64.wrap (ap * ab)) 30) fun ar=>
 .ix 9 11 rfl<|
 .lit 7001 (10)<|
 .known true<|
 .lit 8002 (9)<|
 .ix 9 11 rfl<|
 .ix 1 11 rfl<|
 .cc (bz1 (i64.wrap (aq * aa)) 30) fun au=>
 .ix 10 11 rfl<|
 .lit 9002 (9)<|
 .ix 9 11 rfl<|
 .ix 1 11 rfl<|
 .cc (bz6 (i64.wrap (ar * ab)) 30) fun av=>
 .ix 10 11 rfl<|
 .lit 7001 (11)<|
 .known false<|
 .ret ((1073741824,aa,ac,ae,ag,ai,ak,am,ao,aq,au),(1073741824,ab,ad,af,ah,aj,al,an,ap,ar,av))
noncomputable def ozm:=
 mkq1 Tryz.func553 ozn (fun r=>.tup [.pure (jzx r.1),.pure (jzx r.2)])
noncomputable def rz2 (k:Int)(aa:Int):T Int:=
 .grd (aa≠0)<|
 .ret (i64.wrap ((i64.wrap ((i64.wrap (k+aa))-1)).tdiv aa))
noncomputable def czt:=
 mkp2 Tryz.func555 rz2
noncomputable def kz6 (k:A4):T Int:=
 .loop (fun s (aa:Bj)=>pk s [7,8] [] [(3,pz aa.1),(4,pz aa.2.1),(9,pz aa.2.2)] [])
 (.exit 0) (ik 3 [] [])
 (fun aa=>.br (decide (aa.2.2<(k.length:Int)))
 (.gh aa.2.2 k.length<|
 .nn ((i64.wrap (aa.1+(i64.wrap (aa.2.1 * (k.getD ((aa.2.2).toNat) default))))),(i64.wrap (0-aa.2.1)),(i64.wrap (aa.2.2+1))))
 (.oo aa.1))
 (0,1,0) [] fun aa=>
 .ret aa
noncomputable def czf:=
 mkp1 Tryz.func554 kz6
noncomputable def mzn (k:Int)(aa:Int):T az0:=
 .cc (bz1 k 14) fun ab=>
 .cc (bz6 aa 14) fun ac=>
 .ret (⟨(max 0 ab),(min 65536 ac)⟩:az0)
noncomputable def mzm:=
 mkp2 Tryz.func556 mzn
noncomputable def zzw (k:Int):T az0:=
 .cc (ozm k) fun aa=>
 .ix 1 11 rfl<|
 .ix 3 11 rfl<|
 .cc (czt aa.2.2.2.2.1 6) fun ab=>
 .ix 5 11 rfl<|
 .ok ((120:Int)≠0) (by decide)<|
 .ix 7 11 rfl<|
 .cc (czt aa.2.2.2.2.2.2.2.2.1 5040) fun ac=>let ad:=([aa.1.2.1,ab,(i64.wrap (aa.1.2.2.2.2.2.1.tdiv 120)),ac]:A4);
 .conv 2011 (kL ad 2)<|
 .cc (czf ad) fun ae=>
 .ix 1 11 rfl<|
 .ix 3 11 rfl<|
 .ok ((6:Int)≠0) (by decide)<|
 .ix 5 11 rfl<|
 .cc (czt aa.2.2.2.2.2.2.1 120) fun af=>
 .ix 7 11 rfl<|
 .ok ((5040:Int)≠0) (by decide)<|
 .ix 9 11 rfl<|
 .cc (czt aa.2.2.2.2.2.2.2.2.2.2.1 362880) fun ag=>let ah:=([aa.2.2.1,(i64.wrap (aa.1.2.2.2.1.tdiv 6)),af,(i64.wrap (aa.1.2.2.2.2.2.2.2.1.tdiv 5040)),ag]:A4);
 .conv 3014 (kL ah 2)<|
 .cc (czf ah) fun ai=>
 .cc (mzm ae ai) fun aj=>
 .ret aj
noncomputable def Kzx:=
 mkp1 Tryz.func551 zzw
noncomputable def uz1 (k:Int):T az0:=
 .cc (ozm k) fun aa=>
 .ix 2 11 rfl<|
 .cc (czt aa.2.2.2.1 2) fun ab=>
 .ix 4 11 rfl<|
 .ok ((24:Int)≠0) (by decide)<|
 .ix 6 11 rfl<|
 .cc (czt aa.2.2.2.2.2.2.2.1 720) fun ac=>
 .ix 8 11 rfl<|
 .ok ((40320:Int)≠0) (by decide)<|
 .ix 10 11 rfl<|
 .cc (czt aa.2.2.2.2.2.2.2.2.2.2.2 3628800) fun ad=>let ae:=([1073741824,ab,(i64.wrap (aa.1.2.2.2.2.1.tdiv 24)),ac,(i64.wrap (aa.1.2.2.2.2.2.2.2.2.1.tdiv 40320)),ad]:A4);
 .conv 2015 (kL ae 2)<|
 .cc (czf ae) fun af=>
 .ix 2 11 rfl<|
 .ok ((2:Int)≠0) (by decide)<|
 .ix 4 11 rfl<|
 .cc (czt aa.2.2.2.2.2.1 24) fun ag=>
 .ix 6 11 rfl<|
 .ok ((720:Int)≠0) (by decide)<|
 .ix 8 11 rfl<|
 .cc (czt aa.2.2.2.2.2.2.2.2.2.1 40320) fun ah=>let ai:=([1073741824,(i64.wrap (aa.1.2.2.1.tdiv 2)),ag,(i64.wrap (aa.1.2.2.2.2.2.2.1.tdiv 720)),ah]:A4);
 .conv 3012 (kL ai 2)<|
 .cc (czf ai) fun aj=>
 .cc (mzm af aj) fun ak=>
 .ret ak
noncomputable def Dzj:=
 mkp1 Tryz.func552 uz1
noncomputable def wzm (k:Int):T az0:=
 .br (decide (k≤8192))
 (.cc (Kzx k) fun aa=>
 .ret aa)
 (.cc (Dzj (i64.wrap (16384-k))) fun aa=>
 .ret aa)
noncomputable def kzs:=
 mkp1 Tryz.func549 wzm
noncomputable def uzg (k:az0):T az0:=
 .cc (bzj k) fun aa=>
 .br (!aa)
 (.ret (⟨0,0⟩:az0))
 (.ret (⟨(i64.wrap (0-k.Hi)),(i64.wrap (0-k.Lo))⟩:az0))
noncomputable def nzn:=
 mkp1 Tryz.func534 uzg
noncomputable def Ezm (k:Int):T az0:=
 .cc (kzu k) fun aa=>let ab:=aa.tmod 16384;let ac:=i64.wrap (aa.tdiv 16384);let ad:=i64.wrap (16384-ab);
 .ok ((16384:Int)≠0) (by decide)<|
 .ok ((16384:Int)≠0) (by decide)<|
 .br (ac==0)
 (.cc (kzs ab) fun ae=>
 .ret ae)
 (.br (ac==1)
 (.cc (kzs ad) fun ae=>
 .ret ae)
 (.br (ac==2)
 (.cc (kzs ab) fun ae=>
 .cc (nzn ae) fun af=>
 .ret af)
 (.cc (kzs ad) fun ae=>
 .cc (nzn ae) fun af=>
 .ret af)))
noncomputable def wzl:=
 mkp1 Tryz.func544 Ezm
noncomputable def Ezl (k:Int):T az0:=
 .cc (kzu k) fun aa=>
 .cc (wzl (i64.wrap (aa+16384))) fun ab=>
 .ret ab
noncomputable def Ezk:=
 mkp1 Tryz.func543 Ezl
noncomputable def rzh (k:az0)(aa:az0):T az0:=
 .cc (jzz k aa) fun ab=>
 .br (!ab)
 (.ret (⟨0,0⟩:az0))
 (.ret (⟨(min k.Lo aa.Lo),(max k.Hi aa.Hi)⟩:az0))
noncomputable def fz1:=
 mkp2 Tryz.func546 rzh
noncomputable def uzd (k:az0)(aa:Int):T Bool:=
 .cc (bzj k) fun ab=>
 .br ab
 (.br (decide (k.Lo≤aa))
 (.ret (decide (aa≤k.Hi)))
 (.ret false))
 (.ret false)
noncomputable def Dzp:=
 mkp2 Tryz.func550 uzd
noncomputable def wzn (k:az0)(aa:Int):T Bool:=
 .cc (kzu (i64.wrap (aa-k.Lo))) fun ab=>
 .cc (Dzp k (i64.wrap (k.Lo+ab))) fun ac=>
 .ret ac
noncomputable def kzt:=
 mkp2 Tryz.func547 wzn
noncomputable def zzv (k:az0)(aa:Int)(ab:Int):T az0:=
 .cc (bzj k) fun ac=>
 .br (!ac)
 (.ret (⟨0,0⟩:az0))
 (.cc (ozu k) fun ad=>
 .br (decide (ad≥65536))
 (.ret (⟨(-65536),65536⟩:az0))
 (.cc (Ezk k.Lo) fun ae=>
 .cc (Ezk k.Hi) fun af=>
 .cc (fz1 ae af) fun ag=>
 .cut 0 (fun s (ah:B1)=>pk s [3,4,8,9] [0,64] [] [(1088,.box [pz ah.1,pz ah.2])])
 (.cc (kzt k aa) fun ah=>
 .br ah
 (.cc (cza 65536) fun ai=>
 .cc (fz1 ag ai) fun aj=>
 .oo (aj.Lo,aj.Hi))
 (.oo (ag.Lo,ag.Hi))) fun ah=>
 .cut 0 (fun s (ai:B1)=>pk s [8,9] [64] [] [(1088,.box [pz ai.1,pz ai.2])])
 (.cc (kzt k ab) fun ai=>
 .br ai
 (.cc (cza (-65536)) fun aj=>
 .cc (fz1 (⟨ah.1,ah.2⟩:az0) aj) fun ak=>
 .oo (ak.Lo,ak.Hi))
 (.oo (ah.1,ah.2))) fun ai=>
 .ret (⟨ai.1,ai.2⟩:az0)))
noncomputable def Kzw (k)(aa)(ab):=
 mkD Tryz.func542 (zzv k aa ab) 0 [q k,.func 543 [] [],pz aa,pz ab] [] (fun r=>q r) (fun _=>[])
noncomputable def rz0 (k:az0):T az0:=
 .cc (Kzw k 0 32768) fun aa=>
 .ret aa
noncomputable def zzt:=
 mkp1 Tryz.func532 rz0
noncomputable def uz2 (k:az0)(aa:Int)(ab:Int):T az0:=
 .cc (bzj k) fun ac=>
 .br (!ac)
 (.ret (⟨0,0⟩:az0))
 (.cc (ozu k) fun ad=>
 .br (decide (ad≥65536))
 (.ret (⟨(-65536),65536⟩:az0))
 (.cc (wzl k.Lo) fun ae=>
 .cc (wzl k.Hi) fun af=>
 .cc (fz1 ae af) fun ag=>
 .cut 0 (fun s (ah:B1)=>pk s [3,4,8,9] [0,64] [] [(1088,.box [pz ah.1,pz ah.2])])
 (.cc (kzt k aa) fun ah=>
 .br ah
 (.cc (cza 65536) fun ai=>
 .cc (fz1 ag ai) fun aj=>
 .oo (aj.Lo,aj.Hi))
 (.oo (ag.Lo,ag.Hi))) fun ah=>
 .cut 0 (fun s (ai:B1)=>pk s [8,9] [64] [] [(1088,.box [pz ai.1,pz ai.2])])
 (.cc (kzt k ab) fun ai=>
 .br ai
 (.cc (cza (-65536)) fun aj=>
 .cc (fz1 (⟨ah.1,ah.2⟩:az0) aj) fun ak=>
 .oo (ak.Lo,ak.Hi))
 (.oo (ah.1,ah.2))) fun ai=>
 .ret (⟨ai.1,ai.2⟩:az0)))
noncomputable def Dzk (k)(aa)(ab):=
 mkD Tryz.func542 (uz2 k aa ab) 0 [q k,.func 544 [] [],pz aa,pz ab] [] (fun r=>q r) (fun _=>[])
noncomputable def rz1 (k:az0):T az0:=
 .cc (Dzk k 16384 49152) fun aa=>
 .ret aa
noncomputable def zzu:=
 mkp1 Tryz.func533 rz1
noncomputable def xzn (k:Int)(aa:az0):T Bs:=let ab:=(⟨aa.Lo,aa.Hi⟩:az0);.cc (bzj aa) fun ac=>
 .br (!ac)
 (.ret (((⟨0,0⟩:az0),(⟨0,0⟩:az0),(⟨0,0⟩:az0)),((⟨0,0⟩:az0),(⟨0,0⟩:az0),(⟨0,0⟩:az0)),((⟨0,0⟩:az0),(⟨0,0⟩:az0),(⟨0,0⟩:az0))))
 (.cc (zzt ab) fun ad=>
 .cc (zzu ab) fun ae=>
 .cc (nzn ae) fun af=>
 .cc (cza 65536) fun ag=>
 .cc (cza 0) fun ah=>
 .br (k==0)
 (.ret ((ag,ah,ah),(ah,ad,af),(ah,ae,ad)))
 (.br (k==1)
 (.ret ((ad,ah,ae),(ah,ag,ah),(af,ah,ad)))
 (.br (k==2)
 (.ret ((ad,af,ah),(ae,ad,ah),(ah,ah,ag)))
 (.ret (((⟨0,0⟩:az0),(⟨0,0⟩:az0),(⟨0,0⟩:az0)),((⟨0,0⟩:az0),(⟨0,0⟩:az0),(⟨0,0⟩:az0)),((⟨0,0⟩:az0),(⟨0,0⟩:az0),(⟨0,0⟩:az0)))))))
noncomputable def Gzu:=
 mkp2 Tryz.func525 xzn
noncomputable def Fz8 (k:Int)(aa:az0):T bz2:=
 .cc (Gzu k (⟨aa.Lo,aa.Hi⟩:az0)) fun ab=>
 .cc (pose_still_C) fun ac=>
 .ret (⟨ab,ac⟩:bz2)
noncomputable def Pzn:=
 mkp2 Tryz.func511 Fz8
noncomputable def Ezo (k:Int)(aa:az0):T bz2:=
 .cc (Pzn k (⟨aa.Lo,aa.Hi⟩:az0)) fun ab=>
 .ret ab
noncomputable def Nzw:=
 mkp2 Tryz.func469 Ezo
noncomputable def lz4 (k:azk)(aa:az0):T bz2:=
 .cc (jzc k.Offset) fun ab=>
 .cc (tzh ((⟨ab.1.Lo,ab.1.Hi⟩:az0),(⟨ab.2.1.Lo,ab.2.1.Hi⟩:az0),(⟨ab.2.2.Lo,ab.2.2.Hi⟩:az0))) fun ac=>let ad:=(⟨ac.R,ac.T⟩:bz2);
 .split (((gz1 k.Kind).o).isSome)
 (.cc (gz1 k.Kind) fun ae=>
 .cc (Nzw ae (⟨aa.Lo,aa.Hi⟩:az0)) fun af=>
 .cc (jzf ad af) fun ag=>
 .ret ag)
 (.split (((gz3 k.Kind).o).isSome)
 (.cc (gz3 k.Kind) fun ae=>
 .cc (Kzy ae aa) fun af=>
 .cc (jzf ac af) fun ag=>
 .ret ag)
 (.cc (kzi k.Kind) fun ae=>
 .cc (Nzv ae aa) fun af=>
 .cc (jzf ad (⟨af.R,af.T⟩:bz2)) fun ag=>
 .ret ag))
noncomputable def tz7:=
 mkp2 Tryz.func298 lz4
noncomputable def lz7 (k:azn)(aa:Ae):T Ag:=let ab:=(k.Joints.length:Int);.conv 1003 (zzm 24 az2i 178 ab.toNat (⟨(((⟨0,0⟩:az0),(⟨0,0⟩:az0),(⟨0,0⟩:az0)),((⟨0,0⟩:az0),(⟨0,0⟩:az0),(⟨0,0⟩:az0)),((⟨0,0⟩:az0),(⟨0,0⟩:az0),(⟨0,0⟩:az0))),((⟨0,0⟩:az0),(⟨0,0⟩:az0),(⟨0,0⟩:az0))⟩:bz2))<|
 .grd (0≤ab/\ab≤ab/\ab≤9223372036854775807/\ab * 192≤140737488355328)<|
 .loop (fun s (ac:(Ag×Int))=>pk s [1,5,13,14] [] [(15,pz ac.2)] [(320,vO ac.1 178)])
 (.exit 0) (fun s (ac:Ag)=>pk s [5] [] [] [(320,vO ac 178)])
 (fun ac=>let ad:=(ac.2).toNat;let ae:=k.Joints.getD ad default;let af:=ae.Parent;.br (decide (ac.2<ab))
 (.cut 0 (fun s (ag:Ag)=>pk s [1,5,13,14,15] [] [] [(320,vO ag 178)])
 (.gh ac.2 k.Joints.length<|
 .gh ac.2 aa.length<|
 .cc (tz7 ae (aa.getD ad default)) fun ag=>let ah:=ac.1.set ad ag;let ai:=ah.length;
 .gh ac.2 ac.1.length<|
 .conv 5009 (kS ac.1 178 ad ag)<|
 .gi (ac.2) ac.1.length<|
 .br (af !=(-1))
 (.gg af ai<|
 .gg ac.2 ai<|
 .call (jzf (ah.getD (af.toNat) default) (ah.getD ad default)) [] fun aj=>
 .gh ac.2 ai<|
 .conv 7013 (kS ah 178 ad aj)<|
 .gi (ac.2) ai<|
 .oo (ah.set ad aj))
 (.oo ah)) fun ag=>
 .nn (ag,(i64.wrap (ac.2+1))))
 (.oo ac.1))
 ((List.replicate ab.toNat ((⟨(((⟨0,0⟩:az0),(⟨0,0⟩:az0),(⟨0,0⟩:az0)),((⟨0,0⟩:az0),(⟨0,0⟩:az0),(⟨0,0⟩:az0)),((⟨0,0⟩:az0),(⟨0,0⟩:az0),(⟨0,0⟩:az0))),((⟨0,0⟩:az0),(⟨0,0⟩:az0),(⟨0,0⟩:az0))⟩:bz2):bz2)),0) [] fun ac=>
 .ret ac
noncomputable def hzk:=
 mkp2 Tryz.func196 lz7
noncomputable def lz5 (k:azn)(aa:Ae):T Ag:=let ab:=(⟨k.Joints,k.Masses⟩:azn);.cub 2 13 [1,2] [0]
 (.cc (hzj ab aa) fun ac=>
 .br (!ac)
 (.oo true)
 (.cc (ezp ab) fun ad=>
 .oo (ad !=0))) fun ac=>
 .br ac
 (.ret nl)
 (.cc (hzk ab aa) fun ad=>
 .ret ad)
noncomputable def tz8:=
 mkp2 Tryz.func109 lz5
noncomputable def Bz6 (k:bz2)(aa:Bp):T Bp:=
 .cc (tzi k) fun ab=>
 .call (nzt aa ab.1 ab.2.1 ab.2.2.1 ab.2.2.2.1 ab.2.2.2.2.1 ab.2.2.2.2.2.1 ab.2.2.2.2.2.2.1 ab.2.2.2.2.2.2.2.1 ab.2.2.2.2.2.2.2.2.1 ab.2.2.2.2.2.2.2.2.2.1 ab.2.2.2.2.2.2.2.2.2.2.1 ab.2.2.2.2.2.2.2.2.2.2.2.1 ab.2.2.2.2.2.2.2.2.2.2.2.2.1 ab.2.2.2.2.2.2.2.2.2.2.2.2.2.1 ab.2.2.2.2.2.2.2.2.2.2.2.2.2.2.1 ab.2.2.2.2.2.2.2.2.2.2.2.2.2.2.2.1 ab.2.2.2.2.2.2.2.2.2.2.2.2.2.2.2.2.1 ab.2.2.2.2.2.2.2.2.2.2.2.2.2.2.2.2.2.1 ab.2.2.2.2.2.2.2.2.2.2.2.2.2.2.2.2.2.2.1 ab.2.2.2.2.2.2.2.2.2.2.2.2.2.2.2.2.2.2.2.1 ab.2.2.2.2.2.2.2.2.2.2.2.2.2.2.2.2.2.2.2.2.1 ab.2.2.2.2.2.2.2.2.2.2.2.2.2.2.2.2.2.2.2.2.2.1 ab.2.2.2.2.2.2.2.2.2.2.2.2.2.2.2.2.2.2.2.2.2.2.1 ab.2.2.2.2.2.2.2.2.2.2.2.2.2.2.2.2.2.2.2.2.2.2.2) [(0,256)] fun ac=>
 .ret ac.1
noncomputable def Bz5:=
 mkp2 Tryz.func111 Bz6
noncomputable def Jzh (k:az1)(aa:Int)(ab:Int)(ac:A4):T Bool:=let ad:=i64.wrap (65536-k.Slack);let ae:=i64.wrap (0-k.Slack);let af:=k.Hands.getD (aa.toNat) default;let ag:=k.Places.getD (ab.toNat) default;.cub 2 35 [1,2,3,4] [0]
 (.cc (izm k) fun ah=>
 .br (ah !=0)
 (.oo true)
 (.cc (xz6 k aa ab) fun ai=>
 .br (!ai)
 (.oo true)
 (.cc (bzk k.Scene.Robot ac) fun aj=>
 .oo (!aj)))) fun ah=>
 .br ah
 (.ret false)
 (.gh aa k.Hands.length<|
 .cc (Az2 ac) fun ai=>
 .cc (tz8 k.Scene.Robot ai) fun aj=>let ak:=aj.getD ((af.Link).toNat) default;let al:=ak.R.1.2.1.Lo;let am:=ak.R.1.2.2.Lo;let an:=ak.R.2.1.1.Lo;let ao:=ak.R.2.2.1.Lo;let ap:=ak.R.2.1.2.2.Lo;let aq:=ak.R.2.2.2.1.Lo;let ar:=decide (al<ae);let au:=decide (am<ae);let av:=decide (an<ae);let aw:=decide (ap<ae);let ax:=decide (ao<ae);let ay:=decide (aq<ae);let az:=decide ((ak.R.1.2.1.Hi)>k.Slack);let a0:=decide ((ak.R.1.2.2.Hi)>k.Slack);let a1:=decide ((ak.R.2.1.1.Hi)>k.Slack);let a2:=decide ((ak.R.2.1.2.2.Hi)>k.Slack);let a3:=decide ((ak.R.2.2.1.Hi)>k.Slack);let a4:=decide ((ak.R.2.2.2.1.Hi)>k.Slack);
 .gh (af.Link) aj.length<|
 .unroll 4<|
 .known true<|
 .ix 0 3 rfl<|
 .unroll 4<|
 .known true<|
 .ix 0 3 rfl<|
 .known true<|
 .br (decide ((ak.R.1.1.Lo)<ad))
 (.ret false)
 (.known false<|
 .lit 15000 (1)<|
 .known true<|
 .ix 1 3 rfl<|
 .known false<|
 .cut 0 (fun s (a5:Bx)=>pk s [2,4,9,10,11,52,53,57,58,66,67,68,69,70,71] [0,512,1280,4672] [(77,.ptr 4672 0),(78,pz al),(79,.ptr 0 8),(80,pz k.Slack),(81,pz ae),(82,q ar),(83,q a5.1),(89,q a5.2.1),(90,q a5.2.2)] [])
 (.known true<|
 .br ar
 (.oo (true,true,true))
 (.oo (false,az,az))) fun a5=>
 .br a5.2.2
 (.ret false)
 (.lit 15000 (2)<|
 .known true<|
 .ix 2 3 rfl<|
 .known false<|
 .cut 0 (fun s (a6:Bx)=>pk s [2,4,9,10,11,52,53,57,58,66,67,68,69,70,71,79,80,81] [0,512,1280,5952] [(77,.ptr 5952 0),(78,pz am),(82,q au),(83,q a6.1),(89,q a6.2.1),(90,q a6.2.2)] [])
 (.known true<|
 .br au
 (.oo (true,true,true))
 (.oo (false,a0,a0))) fun a6=>
 .br a6.2.2
 (.ret false)
 (.lit 15000 (3)<|
 .known false<|
 .lit 16000 (1)<|
 .known true<|
 .ix 1 3 rfl<|
 .unroll 4<|
 .known true<|
 .ix 0 3 rfl<|
 .known false<|
 .cut 0 (fun s (a7:Bx)=>pk s [2,4,9,10,11,52,53,57,58,66,67,68,69,70,71,79,80,81] [0,512,1280,7936] [(77,.ptr 7936 0),(78,pz an),(82,q av),(83,q a7.1),(89,q a7.2.1),(90,q a7.2.2)] [])
 (.known true<|
 .br av
 (.oo (true,true,true))
 (.oo (false,a1,a1))) fun a7=>
 .br a7.2.2
 (.ret false)
 (.lit 15000 (1)<|
 .known true<|
 .ix 1 3 rfl<|
 .known true<|
 .br (decide ((ak.R.2.1.2.1.Lo)<ad))
 (.ret false)
 (.known false<|
 .lit 15000 (2)<|
 .known true<|
 .ix 2 3 rfl<|
 .known false<|
 .cut 0 (fun s (a8:Bx)=>pk s [2,4,9,10,11,52,53,57,58,66,67,68,69,70,71] [0,512,1280,11584] [(77,.ptr 11584 0),(78,pz ap),(79,.ptr 0 8),(80,pz k.Slack),(81,pz ae),(82,q aw),(83,q a8.1),(89,q a8.2.1),(90,q a8.2.2)] [])
 (.known true<|
 .br aw
 (.oo (true,true,true))
 (.oo (false,a2,a2))) fun a8=>
 .br a8.2.2
 (.ret false)
 (.lit 15000 (3)<|
 .known false<|
 .lit 16000 (2)<|
 .known true<|
 .ix 2 3 rfl<|
 .unroll 4<|
 .known true<|
 .ix 0 3 rfl<|
 .known false<|
 .cut 0 (fun s (a9:Bx)=>pk s [2,4,9,10,11,52,53,57,58,66,67,68,69,70,71,79,80,81] [0,512,1280,13568] [(77,.ptr 13568 0),(78,pz ao),(82,q ax),(83,q a9.1),(89,q a9.2.1),(90,q a9.2.2)] [])
 (.known true<|
 .br ax
 (.oo (true,true,true))
 (.oo (false,a3,a3))) fun a9=>
 .br a9.2.2
 (.ret false)
 (.lit 15000 (1)<|
 .known true<|
 .ix 1 3 rfl<|
 .known false<|
 .cut 0 (fun s (ba:Bx)=>pk s [2,4,9,10,11,52,53,57,58,66,67,68,69,70,71,79,80,81] [0,512,1280,14848] [(77,.ptr 14848 0),(78,pz aq),(82,q ay),(83,q ba.1),(89,q ba.2.1),(90,q ba.2.2)] [])
 (.known true<|
 .br ay
 (.oo (true,true,true))
 (.oo (false,a4,a4))) fun ba=>
 .br ba.2.2
 (.ret false)
 (.lit 15000 (2)<|
 .known true<|
 .ix 2 3 rfl<|
 .known true<|
 .br (decide ((ak.R.2.2.2.2.Lo)<ad))
 (.ret false)
 (.known false<|
 .lit 15000 (3)<|
 .known false<|
 .lit 16000 (3)<|
 .known false<|
 .gh ab k.Places.length<|
 .cc (jzc (af.Offset)) fun bb=>
 .call (Bz5 ak bb) [] fun bc=>
 .unroll 4<|
 .known true<|
 .ix 0 3 rfl<|
 .cub 0 126 [4,15,102,103] [0,18880]
 (.ix 0 3 rfl<|
 .br (decide (bc.1.Lo<(i64.wrap ((ag.1)-k.Slack))))
 (.oo true)
 (.ix 0 3 rfl<|
 .oo (decide (bc.1.Hi>(i64.wrap ((ag.1)+k.Slack)))))) fun bd=>
 .br bd
 (.ret false)
 (.lit 23000 (1)<|
 .known true<|
 .ix 1 3 rfl<|
 .cub 0 126 [4,15,102,103] [0,18880]
 (.ix 1 3 rfl<|
 .br (decide (bc.2.1.Lo<(i64.wrap ((ag.2.1)-k.Slack))))
 (.oo true)
 (.ix 1 3 rfl<|
 .oo (decide (bc.2.1.Hi>(i64.wrap ((ag.2.1)+k.Slack)))))) fun be=>
 .br be
 (.ret false)
 (.lit 23000 (2)<|
 .known true<|
 .ix 2 3 rfl<|
 .cub 0 126 [4,15,102,103] [0,18880]
 (.ix 2 3 rfl<|
 .br (decide (bc.2.2.Lo<(i64.wrap ((ag.2.2)-k.Slack))))
 (.oo true)
 (.ix 2 3 rfl<|
 .oo (decide (bc.2.2.Hi>(i64.wrap ((ag.2.2)+k.Slack)))))) fun bf=>
 .br bf
 (.ret false)
 (.lit 23000 (3)<|
 .known false<|
 .ret true)))))))))))))
noncomputable def qzs:=
 mkp4 Tryz.func54 Jzh
noncomputable def pzf (k:azn):T A4:=let aa:=(k.Joints.length:Int);let ab:=i64.wrap (aa+1);let ac:=List.replicate ab.toNat (0:Int);.conv 1004 (zzm 1 azs 3 ab.toNat 0)<|
 .grd (0≤ab/\ab≤ab/\ab≤9223372036854775807/\ab * 8≤140737488355328)<|
 .gh (0:Int) (ac.length)<|
 .conv 2002 (kS ac 3 ((0:Int).toNat) (-1))<|
 .gi (0:Int) (ac.length)<|
 .loop (fun s (ad:Ah)=>pk s [3,14,15] [] [(16,pz ad.2)] [(384,vO ad.1 3)])
 (.exit 0) (fun s (ad:A4)=>pk s [3] [] [] [(384,vO ad 3)])
 (fun ad=>let ae:=i64.wrap (ad.2+1);let af:=ae.toNat;let ag:=ad.1.set af ad.2;let ah:=ag.length;let ai:=k.Joints.getD ((ad.2).toNat) default;let aj:=i64.wrap ((ai.Parent)+1);.br (decide (ad.2<aa))
 (.cut 0 (fun s (ak:A4)=>pk s [3,14,15,16] [] [] [(384,vO ak 3)])
 (.gh ad.2 k.Joints.length<|
 .gh ae ad.1.length<|
 .conv 6005 (kS ad.1 3 af ad.2)<|
 .gi (ae) ad.1.length<|
 .br ((ai.Lo)==(ai.Hi))
 (.gg aj ah<|
 .name 8008 ((ag.getD (aj.toNat) default)) fun ak=>
 .gh ae ah<|
 .conv 8010 (kS ag 3 af ak)<|
 .gi (ae) ah<|
 .oo (ag.set af ak))
 (.oo ag)) fun ak=>
 .nn (ak,ae))
 (.oo ad.1))
 ((ac.set ((0:Int).toNat) (-1)),0) [] fun ad=>
 .ret ad
noncomputable def zzi:=
 mkp1 Tryz.func403 pzf
noncomputable def sz3 (k:azc)(aa:Int)(ab:Int):T Bool:=
 .loop (ik 12 [1,2,10,11] [])
 (.exit 0) (jk [] [])
 (fun ac=>let ad:=k.Skips.getD (ac.toNat) default;.br (decide (ac<(k.Skips.length:Int)))
 (.gh ac k.Skips.length<|
 .cub 0 27 [1,2,10,11,12] []
 (.br (((ad.A)==aa)&&(((ad.B)==ab)&&true))
 (.oo true)
 (.oo (((ad.A)==ab)&&(((ad.B)==aa)&&true)))) fun ae=>
 .br ae
 (.ff true)
 (.nn (i64.wrap (ac+1))))
 (.oo .u))
 0 [] fun _=>
 .ret false
noncomputable def Cz8:=
 mkp3 Tryz.func404 sz3
noncomputable def yzo (k:azc):T Ai:=let aa:=(k.Shapes.length:Nat);.cc (ez1 k) fun ab=>
 .br (ab !=0)
 (.ret nl)
 (.cc (zzi k.Robot) fun ac=>
 .loop (fun s (ad:Aj)=>pk s [1,3,4,17,18] [0] [(19,pz ad.2)] [(576,vO ad.1 347)])
 (.exit 0) (fun s (ad:Ai)=>pk s [4] [] [] [(576,vO ad 347)])
 (fun ad=>let ae:=(k.Shapes.getD ((ad.2).toNat) default).Link;let af:=i64.wrap (ae+1);let ag:=i64.wrap (ad.2+1);.br (decide (ad.2<(aa:Int)))
 (.gh ad.2 k.Shapes.length<|
 .loop (fun s (ah:Aj)=>pk s [1,3,4,5,6,17,18,19] [0,1216] [(7,pz ah.2)] [(576,vO ah.1 347)])
 (.exit 2) (fun s (ah:Ai)=>pk s [1,3,4,17,18,19] [0] [] [(576,vO ah 347)])
 (fun ah=>let ai:=([(⟨ad.2,ah.2⟩:bzx)]:Ai);let aj:=ah.1.length+ai.length;let ak:=(k.Shapes.getD ((ah.2).toNat) default).Link;let al:=i64.wrap (ak+1);.br (decide (ah.2<(aa:Int)))
 (.cut 0 (fun s (am:Ai)=>pk s [1,3,5,6,7,17,18,19] [0,1216] [(4,.vec 1984)] [(1984,vO am 347)])
 (.gh ah.2 k.Shapes.length<|
 .gh af ac.length<|
 .gh al ac.length<|
 .name 12011 ((ac.getD (al.toNat) default)) fun am=>
 .cub 0 61 [1,3,4,5,6,7,17,18,19] [0,576,1216]
 (.br (!((ac.getD (af.toNat) default)==am))
 (.cc (Cz8 k ae ak) fun an=>
 .oo (!an))
 (.oo false)) fun an=>
 .br an
 (.conv 14004 (kL ai 347)<|
 .conv 14005 (kA ah.1 ai 347)<|
 .grd (aj * 16≤140737488355328/\aj≤maxLen)<|
 .oo (ah.1++ai))
 (.oo ah.1)) fun am=>
 .nn (am,(i64.wrap (ah.2+1))))
 (.oo ah.1))
 (ad.1,ag) [] fun ah=>
 .nn (ah,ag))
 (.oo ad.1))
 (nl,0) [] fun ad=>
 .ret ad)
noncomputable def Iz6:=
 mkp1 Tryz.func307 yzo
noncomputable def yzr (k:aza)(aa:bz2):T Bq:=let ab:=(k.Points.length:Int);.cc (yzp k) fun ac=>
 .br (!ac)
 (.ret nl)
 (.conv 3003 (zzm 6 bzz 108 ab.toNat ((⟨0,0⟩:az0),(⟨0,0⟩:az0),(⟨0,0⟩:az0)))<|
 .grd (0≤ab/\ab≤ab/\ab≤9223372036854775807/\ab * 48≤140737488355328)<|
 .loop (fun s (ad:(Bq×Int))=>pk s [3,5,16,17] [64] [(18,pz ad.2)] [(576,vO ad.1 108)])
 (.exit 0) (fun s (ad:Bq)=>pk s [5] [] [] [(576,vO ad 108)])
 (fun ad=>let ae:=(ad.2).toNat;.br (decide (ad.2<ab))
 (.gh ad.2 k.Points.length<|
 .cc (jzc (k.Points.getD ae default)) fun af=>
 .cc (Bz5 aa af) fun ag=>
 .gh ad.2 ad.1.length<|
 .conv 7007 (kS ad.1 108 ae ag)<|
 .gi (ad.2) ad.1.length<|
 .nn ((ad.1.set ae ag),(i64.wrap (ad.2+1))))
 (.oo ad.1))
 ((List.replicate ab.toNat (((⟨0,0⟩:az0),(⟨0,0⟩:az0),(⟨0,0⟩:az0)):Bp)),0) [] fun ad=>
 .ret ad)
noncomputable def Izf:=
 mkp2 Tryz.func406 yzr
noncomputable def kz8 (k:azc)(aa:Ae):T Br:=let ab:=(k.Shapes.length:Int);.cub 2 19 [1,2] [0]
 (.cc (hzj k.Robot aa) fun ac=>
 .br (!ac)
 (.oo true)
 (.cc (ez1 k) fun ad=>
 .oo (ad !=0))) fun ac=>
 .br ac
 (.ret nl)
 (.cc (hzk k.Robot aa) fun ad=>
 .conv 4003 (azbv 1 (encL 6 bzz) 109 ab.toNat nl (.lst 0 0 fun _=>.unk) (by kernel_rfl))<|
 .grd (0≤ab/\ab≤ab/\ab≤9223372036854775807/\ab * 24≤140737488355328)<|
 .loop (fun s (ae:(Br×Int))=>pk s [5,6,29,30] [] [(31,pz ae.2)] [(704,vO ae.1 109)])
 (.exit 0) (fun s (ae:Br)=>pk s [6] [] [] [(704,vO ae 109)])
 (fun ae=>let af:=(ae.2).toNat;let ag:=k.Shapes.getD af default;let ah:=ag.Link;let ai:=ad.getD (ah.toNat) default;.br (decide (ae.2<ab))
 (.gh ae.2 k.Shapes.length<|
 .cc (pose_Identity_C) fun aj=>
 .cut 0 (fun s (ak:Cn)=>pk s [5,6,7,8,9,29,30,31] [704,1408] [] [(1664,.box [pz ak.1,pz ak.2.1,pz ak.2.2.1,pz ak.2.2.2.1,pz ak.2.2.2.2.1,pz ak.2.2.2.2.2.1,pz ak.2.2.2.2.2.2.1,pz ak.2.2.2.2.2.2.2.1,pz ak.2.2.2.2.2.2.2.2.1,pz ak.2.2.2.2.2.2.2.2.2.1,pz ak.2.2.2.2.2.2.2.2.2.2.1,pz ak.2.2.2.2.2.2.2.2.2.2.2.1,pz ak.2.2.2.2.2.2.2.2.2.2.2.2.1,pz ak.2.2.2.2.2.2.2.2.2.2.2.2.2.1,pz ak.2.2.2.2.2.2.2.2.2.2.2.2.2.2.1,pz ak.2.2.2.2.2.2.2.2.2.2.2.2.2.2.2.1,pz ak.2.2.2.2.2.2.2.2.2.2.2.2.2.2.2.2.1,pz ak.2.2.2.2.2.2.2.2.2.2.2.2.2.2.2.2.2.1,pz ak.2.2.2.2.2.2.2.2.2.2.2.2.2.2.2.2.2.2.1,pz ak.2.2.2.2.2.2.2.2.2.2.2.2.2.2.2.2.2.2.2.1,pz ak.2.2.2.2.2.2.2.2.2.2.2.2.2.2.2.2.2.2.2.2.1,pz ak.2.2.2.2.2.2.2.2.2.2.2.2.2.2.2.2.2.2.2.2.2.1,pz ak.2.2.2.2.2.2.2.2.2.2.2.2.2.2.2.2.2.2.2.2.2.2.1,pz ak.2.2.2.2.2.2.2.2.2.2.2.2.2.2.2.2.2.2.2.2.2.2.2])])
 (.br (ah !=(-1))
 (.gh ah ad.length<|
 .oo (ai.R.1.1.Lo,ai.R.1.1.Hi,ai.R.1.2.1.Lo,ai.R.1.2.1.Hi,ai.R.1.2.2.Lo,ai.R.1.2.2.Hi,ai.R.2.1.1.Lo,ai.R.2.1.1.Hi,ai.R.2.1.2.1.Lo,ai.R.2.1.2.1.Hi,ai.R.2.1.2.2.Lo,ai.R.2.1.2.2.Hi,ai.R.2.2.1.Lo,ai.R.2.2.1.Hi,ai.R.2.2.2.1.Lo,ai.R.2.2.2.1.Hi,ai.R.2.2.2.2.Lo,ai.R.2.2.2.2.Hi,ai.T.1.Lo,ai.T.1.Hi,ai.T.2.1.Lo,ai.T.2.1.Hi,ai.T.2.2.Lo,ai.T.2.2.Hi))
 (.oo (aj.R.1.1.Lo,aj.R.1.1.Hi,aj.R.1.2.1.Lo,aj.R.1.2.1.Hi,aj.R.1.2.2.Lo,aj.R.1.2.2.Hi,aj.R.2.1.1.Lo,aj.R.2.1.1.Hi,aj.R.2.1.2.1.Lo,aj.R.2.1.2.1.Hi,aj.R.2.1.2.2.Lo,aj.R.2.1.2.2.Hi,aj.R.2.2.1.Lo,aj.R.2.2.1.Hi,aj.R.2.2.2.1.Lo,aj.R.2.2.2.1.Hi,aj.R.2.2.2.2.Lo,aj.R.2.2.2.2.Hi,aj.T.1.Lo,aj.T.1.Hi,aj.T.2.1.Lo,aj.T.2.1.Hi,aj.T.2.2.Lo,aj.T.2.2.Hi))) fun ak=>
 .cc (Izf ag (⟨(((⟨ak.1,ak.2.1⟩:az0),(⟨ak.2.2.1,ak.2.2.2.1⟩:az0),(⟨ak.2.2.2.2.1,ak.2.2.2.2.2.1⟩:az0)),((⟨ak.2.2.2.2.2.2.1,ak.2.2.2.2.2.2.2.1⟩:az0),(⟨ak.2.2.2.2.2.2.2.2.1,ak.2.2.2.2.2.2.2.2.2.1⟩:az0),(⟨ak.2.2.2.2.2.2.2.2.2.2.1,ak.2.2.2.2.2.2.2.2.2.2.2.1⟩:az0)),((⟨ak.2.2.2.2.2.2.2.2.2.2.2.2.1,ak.2.2.2.2.2.2.2.2.2.2.2.2.2.1⟩:az0),(⟨ak.2.2.2.2.2.2.2.2.2.2.2.2.2.2.1,ak.2.2.2.2.2.2.2.2.2.2.2.2.2.2.2.1⟩:az0),(⟨ak.2.2.2.2.2.2.2.2.2.2.2.2.2.2.2.2.1,ak.2.2.2.2.2.2.2.2.2.2.2.2.2.2.2.2.2.1⟩:az0))),((⟨ak.2.2.2.2.2.2.2.2.2.2.2.2.2.2.2.2.2.2.1,ak.2.2.2.2.2.2.2.2.2.2.2.2.2.2.2.2.2.2.2.1⟩:az0),(⟨ak.2.2.2.2.2.2.2.2.2.2.2.2.2.2.2.2.2.2.2.2.1,ak.2.2.2.2.2.2.2.2.2.2.2.2.2.2.2.2.2.2.2.2.2.1⟩:az0),(⟨ak.2.2.2.2.2.2.2.2.2.2.2.2.2.2.2.2.2.2.2.2.2.2.1,ak.2.2.2.2.2.2.2.2.2.2.2.2.2.2.2.2.2.2.2.2.2.2.2⟩:az0))⟩:bz2)) fun al=>
 .gh ae.2 ae.1.length<|
 .conv 11006 (kS ae.1 109 af al)<|
 .gi (ae.2) ae.1.length<|
 .nn ((ae.1.set af al),(i64.wrap (ae.2+1))))
 (.oo ae.1))
 ((List.replicate ab.toNat (nl:Bq)),0) [] fun ae=>
 .ret ae)
noncomputable def rzi:=
 mkp2 Tryz.func308 kz8
noncomputable def ozp (k:azc)(aa:Ae):T (cze×Bool):=let ab:=(aa.length:Nat);.cub 2 19 [1,2,4] [0,64,65,66,67]
 (.cc (ez1 k) fun ac=>
 .br (ac !=0)
 (.oo true)
 (.oo ((ab:Int) !=(k.Robot.Joints.length:Int)))) fun ac=>
 .br ac
 (.ret ((⟨nl,nl,nl⟩:cze),false))
 (.loop (ik 23 [1,2,4,21,22] [0,64,65,66,67])
 (.exit 0) (jk [1,2,4] [0,64,65,66,67])
 (fun ad=>.br (decide (ad<(ab:Int)))
 (.gh ad aa.length<|
 .cc (bzj (aa.getD (ad.toNat) default)) fun ae=>
 .br (!ae)
 (.ff ((⟨nl,nl,nl⟩:cze),false))
 (.nn (i64.wrap (ad+1))))
 (.oo .u))
 0 [] fun _=>
 .cc (Iz6 k) fun ad=>
 .cc (rzi (⟨k.Robot,k.Shapes,k.Skips⟩:azc) aa) fun ae=>
 .ret ((⟨k.Shapes,ad,ae⟩:cze),true))
noncomputable def ozo:=
 mkq2 Tryz.func206 ozp (fun r=>.tup [q r.1,q r.2])
noncomputable def wzp (k:cze)(aa:Int):T fzx:=let ab:=k.pairs.getD (aa.toNat) default;let ac:=ab.A;let ad:=ab.B;.gh aa k.pairs.length<|
 .gh ac k.points.length<|
 .gh ac k.shapes.length<|
 .gh ad k.points.length<|
 .gh ad k.shapes.length<|
 .ret (⟨(k.points.getD (ac.toNat) default),(k.points.getD (ad.toNat) default),(k.shapes.getD (ac.toNat) default).Radius,(k.shapes.getD (ad.toNat) default).Radius⟩:fzx)
noncomputable def wzo:=
 mkp2 Tryz.func207 wzp
noncomputable def Dzf (k:Bq)(aa:Int)(ab:Bq)(ac:Int)(ad:Bk):T (Bq×Bq×Int×Int×Bk):=
 .ret (k,ab,aa,ac,ad)
noncomputable def jz2:=
 mkv5 Tryz.func310 Dzf (fun _=>.func 407 [] [.ptr 0 0,.ptr 1 0,.ptr 2 0,.ptr 3 0,.ptr 4 0]) (fun r=>[(0,.box [q r.1]),(1,.box [q r.2.1]),(2,.box [pz r.2.2.1]),(3,.box [pz r.2.2.2.1]),(4,.box [q r.2.2.2.2])])
noncomputable def Yzt (k:Bq)(aa:Int)(ab:Bq)(ac:Int):T ezk:=
 .ret (⟨(⟨k,aa⟩:fzi),(⟨ab,ac⟩:fzi)⟩:ezk)
noncomputable def Lzd:=
 mkp4 Tryz.func413 Yzt
noncomputable def vza (k:Bq):T Bool:=let aa:=(k.length:Int);.cub 2 14 [0] []
 (.br (decide (aa<1))
 (.oo true)
 (.oo (decide (aa>8)))) fun ab=>
 .br ab
 (.ret false)
 (.loop (ik 17 [15,16] [])
 (.exit 0) (jk [] [])
 (fun ac=>let ad:=k.getD (ac.toNat) default;.br (decide (ac<aa))
 (.gh ac k.length<|
 .unroll 4<|
 .known true<|
 .ix 0 3 rfl<|
 .cub 0 39 [15,16,17,21,22] []
 (.br (decide ((ad.1.Lo)<(-268435456)))
 (.oo true)
 (.br (decide ((ad.1.Lo)>(ad.1.Hi)))
 (.oo true)
 (.oo (decide ((ad.1.Hi)>268435456))))) fun ae=>
 .br ae
 (.ff false)
 (.lit 11000 (1)<|
 .known true<|
 .ix 1 3 rfl<|
 .cub 0 39 [15,16,17,21,22] []
 (.br (decide ((ad.2.1.Lo)<(-268435456)))
 (.oo true)
 (.br (decide ((ad.2.1.Lo)>(ad.2.1.Hi)))
 (.oo true)
 (.oo (decide ((ad.2.1.Hi)>268435456))))) fun af=>
 .br af
 (.ff false)
 (.lit 11000 (2)<|
 .known true<|
 .ix 2 3 rfl<|
 .cub 0 39 [15,16,17,21,22] []
 (.br (decide ((ad.2.2.Lo)<(-268435456)))
 (.oo true)
 (.br (decide ((ad.2.2.Lo)>(ad.2.2.Hi)))
 (.oo true)
 (.oo (decide ((ad.2.2.Hi)>268435456))))) fun ag=>
 .br ag
 (.ff false)
 (.lit 11000 (3)<|
 .known false<|
 .nn (i64.wrap (ac+1))))))
 (.oo .u))
 0 [] fun _=>
 .ret true)
noncomputable def dzb:=
 mkp1 Tryz.func315 vza
noncomputable def Czc (k:fzi):T Bool:=
 .cc (dzb k.points) fun aa=>
 .br aa
 (.br (decide (0≤k.radius))
 (.ret (decide (k.radius≤1048576)))
 (.ret false))
 (.ret false)
noncomputable def Czb:=
 mkp1 Tryz.func512 Czc
noncomputable def nzf (k:Bj):T Bool:=
 .loop (ik 6 [5] [])
 (.exit 0) (jk [] [])
 (fun aa=>let ab:=([k.1,k.2.1,k.2.2]:List Int).getD aa.toNat 0;.br (decide (aa<3))
 (.gh aa 3<|
 .cub 0 14 [5,6] []
 (.br (decide (ab<(-16384)))
 (.oo true)
 (.oo (decide (ab>16384)))) fun ac=>
 .br ac
 (.ff false)
 (.nn (i64.wrap (aa+1))))
 (.oo .u))
 0 [] fun _=>
 .ret true
noncomputable def ezz:=
 mkp1 Tryz.func476 nzf
noncomputable def pzp (k:Bj):T Bool:=
 .cc (ezz k) fun aa=>
 .br aa
 (.ret (!((k.1==0)&&((k.2.1==0)&&((k.2.2==0)&&true)))))
 (.ret false)
noncomputable def fzf:=
 mkp1 Tryz.func409 pzp
noncomputable def Izo (k:Bj):T Bj:=
 .ret (k.1,k.2.1,k.2.2)
noncomputable def tzv:=
 mkv1 Tryz.func526 Izo (fun _=>.agg [.func 535 [] [.ptr 0 0],.func 537 [] []]) (fun r=>[(0,.box [pz r.1,pz r.2.1,pz r.2.2])])
noncomputable def yzw (k:Bj)(aa:Bp):T B1:=let ab:=i64.wrap (k.1 * aa.1.Lo);let ac:=i64.wrap (k.1 * aa.1.Hi);let ad:=i64.wrap (k.2.1 * aa.2.1.Lo);let ae:=i64.wrap (k.2.1 * aa.2.1.Hi);let af:=i64.wrap (k.2.2 * aa.2.2.Lo);let ag:=i64.wrap (k.2.2 * aa.2.2.Hi);.unroll 4<|
 .known true<|
 .ix 0 3 rfl<|
 .ix 0 3 rfl<|
 .ix 0 3 rfl<|
 .name 6004 ((i64.wrap (0+(min ab ac)))) fun ah=>
 .name 7004 ((i64.wrap (0+(max ab ac)))) fun ai=>
 .lit 8000 (1)<|
 .known true<|
 .ix 1 3 rfl<|
 .ix 1 3 rfl<|
 .ix 1 3 rfl<|
 .name 6004 ((i64.wrap (ah+(min ad ae)))) fun aj=>
 .name 7004 ((i64.wrap (ai+(max ad ae)))) fun ak=>
 .lit 8000 (2)<|
 .known true<|
 .ix 2 3 rfl<|
 .ix 2 3 rfl<|
 .ix 2 3 rfl<|
 .name 6004 ((i64.wrap (aj+(min af ag)))) fun al=>
 .name 7004 ((i64.wrap (ak+(max af ag)))) fun am=>
 .lit 8000 (3)<|
 .known false<|
 .ret (al,am)
noncomputable def yzv:=
 mkq2 Tryz.func536 yzw (fun r=>.tup [pz r.1,pz r.2])
noncomputable def jz6 (k:Bp)(aa:Int)(ab:Int)(ac:Int):T C4:=
 .cc (yzv (aa,ab,ac) ((⟨k.1.Lo,k.1.Hi⟩:az0),(⟨k.2.1.Lo,k.2.1.Hi⟩:az0),(⟨k.2.2.Lo,k.2.2.Hi⟩:az0))) fun ad=>
 .ret (ad.1,aa,ab,ac)
noncomputable def qz0 (k)(aa)(ab)(ac):=
 mkD Tryz.func535 (jz6 k aa ab ac) 1 [q k,.ptr 0 0] [(0,.box [pz aa,pz ab,pz ac])] (fun r=>pz r.1) (fun r=>[(0,.box [pz r.2.1,pz r.2.2.1,pz r.2.2.2])])
noncomputable def Dzi (k:Int)(aa:Int):T Bool:=
 .ret (decide (k<aa))
noncomputable def qz1:=
 mkp2 Tryz.func537 Dzi
noncomputable def ozr (k:Int)(aa:Int)(ab:Int)(ac:Bq):T C8:=
 .loop (fun s (ad:Ca)=>pk s [2,11,12] [1] [(6,pz ad.2.2.2.1),(7,pz ad.2.2.2.2.1),(13,pz ad.2.2.2.2.2)] [(0,.box [pz ad.1,pz ad.2.1,pz ad.2.2.1])])
 (.exit 0) (fun s (ad:C8)=>pk s [] [] [(6,pz ad.2.2.2.1),(7,pz ad.2.2.2.2)] [(0,.box [pz ad.1,pz ad.2.1,pz ad.2.2.1])])
 (fun ad=>.br (decide (ad.2.2.2.2.2<(ac.length:Int)))
 (.cut 0 (fun s (ae:C8)=>pk s [2,11,12,13] [1] [(6,pz ae.2.2.2.1),(7,pz ae.2.2.2.2)] [(0,.box [pz ae.1,pz ae.2.1,pz ae.2.2.1])])
 (.gh ad.2.2.2.2.2 ac.length<|
 .call (qz0 (ac.getD ((ad.2.2.2.2.2).toNat) default) ad.1 ad.2.1 ad.2.2.1) [(0,0)] fun ae=>
 .cub 0 30 [2,6,7,8,10,11,12,13] [0,1]
 (.br (ad.2.2.2.2.2==0)
 (.oo true)
 (.cc (qz1 ae.1 ad.2.2.2.1) fun af=>
 .oo af)) fun af=>
 .br af
 (.oo (ae.2.1,ae.2.2.1,ae.2.2.2,ae.1,ad.2.2.2.2.2))
 (.oo (ae.2.1,ae.2.2.1,ae.2.2.2,ad.2.2.2.1,ad.2.2.2.2.1))) fun ae=>
 .nn (ae.1,ae.2.1,ae.2.2.1,ae.2.2.2.1,ae.2.2.2.2,(i64.wrap (ad.2.2.2.2.2+1))))
 (.oo (ad.1,ad.2.1,ad.2.2.1,ad.2.2.2.1,ad.2.2.2.2.1)))
 (k,aa,ab,0,0,0) [] fun ad=>
 .ret (ad.2.2.2.1,ad.2.2.2.2,ad.1,ad.2.1,ad.2.2.1)
noncomputable def zz1 (k)(aa)(ab)(ac):=
 mkD Tryz.func527 (ozr k aa ab ac) 1 [.agg [.func 535 [] [.ptr 0 0],.func 537 [] []],q ac] [(0,.box [pz k,pz aa,pz ab])] (fun r=>.tup [pz r.1,pz r.2.1]) (fun r=>[(0,.box [pz r.2.2.1,pz r.2.2.2.1,pz r.2.2.2.2])])
noncomputable def szg (k:Bj)(aa:Bq):T Bv:=
 .cub 2 16 [1,2] [0]
 (.cc (fzf k) fun ab=>
 .br (!ab)
 (.oo true)
 (.cc (dzb aa) fun ac=>
 .oo (!ac))) fun ab=>
 .br ab
 (.ret (0,0,false))
 (.cc (tzv (k.1,k.2.1,k.2.2)) fun ac=>
 .call (zz1 ac.1 ac.2.1 ac.2.2 aa) [(0,384)] fun ad=>
 .ret (ad.1,ad.2.1,true))
noncomputable def Czg:=
 mkq2 Tryz.func513 szg (fun r=>.tup [pz r.1,pz r.2.1,q r.2.2])
noncomputable def Nz7 (k:Bj):T Bj:=
 .ret (k.1,k.2.1,k.2.2)
noncomputable def zzk:=
 mkv1 Tryz.func528 Nz7 (fun _=>.agg [.func 538 [] [.ptr 0 0],.func 539 [] []]) (fun r=>[(0,.box [pz r.1,pz r.2.1,pz r.2.2])])
noncomputable def mzb (k:Bp)(aa:Int)(ab:Int)(ac:Int):T C4:=
 .cc (yzv (aa,ab,ac) k) fun ad=>
 .ret (ad.2,aa,ab,ac)
noncomputable def tzw (k)(aa)(ab)(ac):=
 mkD Tryz.func538 (mzb k aa ab ac) 1 [q k,.ptr 0 0] [(0,.box [pz aa,pz ab,pz ac])] (fun r=>pz r.1) (fun r=>[(0,.box [pz r.2.1,pz r.2.2.1,pz r.2.2.2])])
noncomputable def Izp (k:Int)(aa:Int):T Bool:=
 .ret (decide (k>aa))
noncomputable def tzx:=
 mkp2 Tryz.func539 Izp
noncomputable def kzx (k:Int)(aa:Int)(ab:Int)(ac:Bq):T C8:=
 .loop (fun s (ad:Ca)=>pk s [2,11,12] [1] [(6,pz ad.2.2.2.1),(7,pz ad.2.2.2.2.1),(13,pz ad.2.2.2.2.2)] [(0,.box [pz ad.1,pz ad.2.1,pz ad.2.2.1])])
 (.exit 0) (fun s (ad:C8)=>pk s [] [] [(6,pz ad.2.2.2.1),(7,pz ad.2.2.2.2)] [(0,.box [pz ad.1,pz ad.2.1,pz ad.2.2.1])])
 (fun ad=>.br (decide (ad.2.2.2.2.2<(ac.length:Int)))
 (.cut 0 (fun s (ae:C8)=>pk s [2,11,12,13] [1] [(6,pz ae.2.2.2.1),(7,pz ae.2.2.2.2)] [(0,.box [pz ae.1,pz ae.2.1,pz ae.2.2.1])])
 (.gh ad.2.2.2.2.2 ac.length<|
 .call (tzw (ac.getD ((ad.2.2.2.2.2).toNat) default) ad.1 ad.2.1 ad.2.2.1) [(0,0)] fun ae=>
 .cub 0 30 [2,6,7,8,10,11,12,13] [0,1]
 (.br (ad.2.2.2.2.2==0)
 (.oo true)
 (.cc (tzx ae.1 ad.2.2.2.1) fun af=>
 .oo af)) fun af=>
 .br af
 (.oo (ae.2.1,ae.2.2.1,ae.2.2.2,ae.1,ad.2.2.2.2.2))
 (.oo (ae.2.1,ae.2.2.1,ae.2.2.2,ad.2.2.2.1,ad.2.2.2.2.1))) fun ae=>
 .nn (ae.1,ae.2.1,ae.2.2.1,ae.2.2.2.1,ae.2.2.2.2,(i64.wrap (ad.2.2.2.2.2+1))))
 (.oo (ad.1,ad.2.1,ad.2.2.1,ad.2.2.2.1,ad.2.2.2.2.1)))
 (k,aa,ab,0,0,0) [] fun ad=>
 .ret (ad.2.2.2.1,ad.2.2.2.2,ad.1,ad.2.1,ad.2.2.1)
noncomputable def tz2 (k)(aa)(ab)(ac):=
 mkD Tryz.func527 (kzx k aa ab ac) 1 [.agg [.func 538 [] [.ptr 0 0],.func 539 [] []],q ac] [(0,.box [pz k,pz aa,pz ab])] (fun r=>.tup [pz r.1,pz r.2.1]) (fun r=>[(0,.box [pz r.2.2.1,pz r.2.2.2.1,pz r.2.2.2.2])])
noncomputable def mza (k:Bj)(aa:Bq):T Bv:=
 .cub 2 16 [1,2] [0]
 (.cc (fzf k) fun ab=>
 .br (!ab)
 (.oo true)
 (.cc (dzb aa) fun ac=>
 .oo (!ac))) fun ab=>
 .br ab
 (.ret (0,0,false))
 (.cc (zzk (k.1,k.2.1,k.2.2)) fun ac=>
 .call (tz2 ac.1 ac.2.1 ac.2.2 aa) [(0,384)] fun ad=>
 .ret (ad.1,ad.2.1,true))
noncomputable def tzu:=
 mkq2 Tryz.func514 mza (fun r=>.tup [pz r.1,pz r.2.1,q r.2.2])
noncomputable def Jzp (k:Int):T Int:=
 .cut 1 (fun s (aa:B1)=>pk s [] [] [(0,.pure (.int .u64 aa.1)),(2,pz aa.2)] [])
 (.br (decide (k≥4294967296))
 (.ok (0≤(32:Int)) (by decide)<|
 .oo ((k.fdiv (2 ^ (min (32:Int).toNat 64))),32))
 (.oo (k,0))) fun aa=>
 .cut 0 (fun s (ab:B1)=>pk s [] [] [(0,.pure (.int .u64 ab.1)),(2,pz ab.2)] [])
 (.br (decide (aa.1≥65536))
 (.ok (0≤(16:Int)) (by decide)<|
 .oo ((aa.1.fdiv (2 ^ (min (16:Int).toNat 64))),(i64.wrap (aa.2+16))))
 (.oo (aa.1,aa.2))) fun ab=>
 .cut 0 (fun s (ac:B1)=>pk s [] [] [(0,.pure (.int .u64 ac.1)),(2,pz ac.2)] [])
 (.br (decide (ab.1≥256))
 (.ok (0≤(8:Int)) (by decide)<|
 .oo ((ab.1.fdiv (2 ^ (min (8:Int).toNat 64))),(i64.wrap (ab.2+8))))
 (.oo (ab.1,ab.2))) fun ac=>let ad:=IntKind.u8.wrap ac.1;
 .gh ad ((⟨#[0,1,2,2,3,3,3,3,4,4,4,4,4,4,4,4,5,5,5,5,5,5,5,5,5,5,5,5,5,5,5,5,6,6,6,6,6,6,6,6,6,6,6,6,6,6,6,6,6,6,6,6,6,6,6,6,6,6,6,6,6,6,6,6,7,7,7,7,7,7,7,7,7,7,7,7,7,7,7,7,7,7,7,7,7,7,7,7,7,7,7,7,7,7,7,7,7,7,7,7,7,7,7,7,7,7,7,7,7,7,7,7,7,7,7,7,7,7,7,7,7,7,7,7,7,7,7,7,8,8,8,8,8,8,8,8,8,8,8,8,8,8,8,8,8,8,8,8,8,8,8,8,8,8,8,8,8,8,8,8,8,8,8,8,8,8,8,8,8,8,8,8,8,8,8,8,8,8,8,8,8,8,8,8,8,8,8,8,8,8,8,8,8,8,8,8,8,8,8,8,8,8,8,8,8,8,8,8,8,8,8,8,8,8,8,8,8,8,8,8,8,8,8,8,8,8,8,8,8,8,8,8,8,8,8,8,8,8,8,8,8,8,8,8,8,8,8,8,8,8,8,8,8,8,8,8]⟩:ByteArray).size)<|
 .name 10003 ((((⟨#[0,1,2,2,3,3,3,3,4,4,4,4,4,4,4,4,5,5,5,5,5,5,5,5,5,5,5,5,5,5,5,5,6,6,6,6,6,6,6,6,6,6,6,6,6,6,6,6,6,6,6,6,6,6,6,6,6,6,6,6,6,6,6,6,7,7,7,7,7,7,7,7,7,7,7,7,7,7,7,7,7,7,7,7,7,7,7,7,7,7,7,7,7,7,7,7,7,7,7,7,7,7,7,7,7,7,7,7,7,7,7,7,7,7,7,7,7,7,7,7,7,7,7,7,7,7,7,7,8,8,8,8,8,8,8,8,8,8,8,8,8,8,8,8,8,8,8,8,8,8,8,8,8,8,8,8,8,8,8,8,8,8,8,8,8,8,8,8,8,8,8,8,8,8,8,8,8,8,8,8,8,8,8,8,8,8,8,8,8,8,8,8,8,8,8,8,8,8,8,8,8,8,8,8,8,8,8,8,8,8,8,8,8,8,8,8,8,8,8,8,8,8,8,8,8,8,8,8,8,8,8,8,8,8,8,8,8,8,8,8,8,8,8,8,8,8,8,8,8,8,8,8,8,8,8,8]⟩:ByteArray).data.getD ad.toNat 0).toNat:Int)) fun ae=>
 .ret (i64.wrap (ac.2+(i64.wrap ae)))
noncomputable def gz6 (k):=
 mkD Tryz.func436 (Jzp k) 0 [.pure (.int .u64 k)] [] (fun r=>pz r) (fun _=>[])
noncomputable def Azn (k:Int):T Int:=let aa:=IntKind.u64.wrap k;.br (decide (k≤0))
 (.ret 0)
 (.cc (gz6 aa) fun ab=>let ac:=i64.wrap ((i64.wrap (ab+1)).tdiv 2);
 .ok ((2:Int)≠0) (by decide)<|
 .grd (0≤ac)<|
 .loop (fun s (ad:Bj)=>pk s [0,16] [] [(4,.pure (.int .u64 ad.1)),(5,.pure (.int .u64 ad.2.1)),(17,pz ad.2.2)] [])
 (.exit 0) (fun s (ad:Int)=>pk s [] [] [(4,.pure (.int .u64 ad))] [])
 (fun ad=>.br (decide (ad.2.2<ac))
 (.cut 0 (fun s (ae:B1)=>pk s [0,16,17] [] [(4,.pure (.int .u64 ae.1)),(5,.pure (.int .u64 ae.2))] [])
 (.ok ((2:Int)≠0) (by decide)<|
 .name 7001 ((IntKind.u64.wrap (ad.2.1.tdiv 2))) fun ae=>let af:=IntKind.u64.wrap (ad.1+ae);
 .br (decide ((IntKind.u64.wrap (af * af))≤aa))
 (.oo (af,ae))
 (.oo (ad.1,ae))) fun ae=>
 .nn (ae.1,ae.2,(i64.wrap (ad.2.2+1))))
 (.oo ad.1))
 (0,(IntKind.u64.wrap (1 * 2 ^ (min ac.toNat 64))),0) [] fun ad=>
 .ret (i64.wrap ad))
noncomputable def Azm:=
 mkp1 Tryz.func515 Azn
noncomputable def uz8 (k:Int):T Int:=
 .cc (Azm k) fun aa=>
 .cut 0 (fun s (ab:Int)=>pk s [] [] [(3,pz ab)] [])
 (.br (decide ((i64.wrap (aa * aa))<k))
 (.oo (i64.wrap (aa+1)))
 (.oo aa)) fun ab=>
 .ret ab
noncomputable def Dzn:=
 mkp1 Tryz.func482 uz8
noncomputable def vzg (k:Bj):T Int:=
 .cc (fzf (k.1,k.2.1,k.2.2)) fun aa=>
 .br (!aa)
 (.ret 0)
 (.ix 0 3 rfl<|
 .ix 0 3 rfl<|
 .ix 1 3 rfl<|
 .ix 1 3 rfl<|
 .ix 2 3 rfl<|
 .ix 2 3 rfl<|
 .name 3016 ((i64.wrap ((i64.wrap ((i64.wrap (k.1 * k.1))+(i64.wrap (k.2.1 * k.2.1))))+(i64.wrap (k.2.2 * k.2.2))))) fun ab=>
 .cc (Dzn ab) fun ac=>
 .ret ac)
noncomputable def vzf:=
 mkp1 Tryz.func420 vzg
noncomputable def vzb (k:ezk)(aa:Bj):T Ba:=
 .cub 2 20 [2,3] [0,64]
 (.cc (Czb k.a) fun ab=>
 .br (!ab)
 (.oo true)
 (.cc (Czb k.b) fun ac=>
 .oo (!ac))) fun ab=>
 .br ab
 (.ret (0,false))
 (.cc (Czg (aa.1,aa.2.1,aa.2.2) k.a.points) fun ac=>
 .br (!ac.2.2)
 (.ret (0,false))
 (.cc (tzu (aa.1,aa.2.1,aa.2.2) k.b.points) fun ad=>
 .br (!ad.2.2)
 (.ret (0,false))
 (.cc (vzf (aa.1,aa.2.1,aa.2.2)) fun ae=>
 .name 9013 ((i64.wrap ((i64.wrap (ac.1-ad.1))- (i64.wrap (ae * (i64.wrap (k.a.radius+k.b.radius))))))) fun af=>
 .ret (af,true))))
noncomputable def Ezh:=
 mkq2 Tryz.func479 vzb (fun r=>.tup [pz r.1,q r.2])
noncomputable def nz9 (k:ezk)(aa:Bj):T Bool:=
 .cc (Ezh (⟨k.a,k.b⟩:ezk) (aa.1,aa.2.1,aa.2.2)) fun ab=>
 .br ab.2
 (.ret (decide (ab.1>0)))
 (.ret false)
noncomputable def wz6:=
 mkp2 Tryz.func412 nz9
noncomputable def mzv (k:Bj)(aa:Bq)(ab:Int)(ac:Bq)(ad:Int):T Bool:=
 .cc (Lzd aa ab ac ad) fun ae=>
 .cc (wz6 (⟨ae.a,ae.b⟩:ezk) (k.1,k.2.1,k.2.2)) fun af=>
 .ret af
noncomputable def mzu:=
 mkp5 Tryz.func311 mzv
noncomputable def lzf (k:Int):T Bool:=
 .br (decide (k≥0))
 (.ret (decide (k≤1048576)))
 (.ret false)
noncomputable def lze:=
 mkp1 Tryz.func408 lzf
noncomputable def uze (k:az0):T Int:=
 .cc (bzj k) fun aa=>
 .br (!aa)
 (.ret 0)
 (.cc (bz1 (i64.wrap (k.Lo+k.Hi)) 1) fun ab=>
 .ret ab)
noncomputable def jzb:=
 mkp1 Tryz.func316 uze
noncomputable def izd (k:Bq):T Bk:=let aa:=(k.length:Int);.cc (dzb k) fun ab=>
 .br (!ab)
 (.ret nl)
 (.conv 3002 (zzm 3 azh 100 aa.toNat (0,0,0))<|
 .grd (0≤aa/\aa≤aa/\aa≤9223372036854775807/\aa * 24≤140737488355328)<|
 .loop (fun s (ac:Bl)=>pk s [3,14,15] [] [(16,pz ac.2)] [(384,vO ac.1 100)])
 (.exit 0) (fun s (ac:Bk)=>pk s [3] [] [] [(384,vO ac 100)])
 (fun ac=>let ad:=ac.2;let ae:=ad.toNat;let af:=k.getD ae default;let ag:=ac.1.getD ae default;.br (decide (ac.2<aa))
 (.gh ac.2 k.length<|
 .unroll 4<|
 .known true<|
 .ix 0 3 rfl<|
 .cc (jzb (af.1)) fun ah=>let ai:=ac.1.set ae (ah,ag.2.1,ag.2.2);let aj:=ai.getD ae default;
 .gh ac.2 ac.1.length<|
 .ix 0 3 rfl<|
 .conv 10007 (kS ac.1 100 ae (ah,ag.2.1,ag.2.2))<|
 .gi ad ac.1.length<|
 .lit 11000 (1)<|
 .known true<|
 .ix 1 3 rfl<|
 .cc (jzb (af.2.1)) fun ak=>let al:=ai.set ae (aj.1,ak,aj.2.2);let am:=al.getD ae default;
 .gh ac.2 (ai.length)<|
 .ix 1 3 rfl<|
 .conv 10007 (kS ai 100 ae (aj.1,ak,aj.2.2))<|
 .gi ad (ai.length)<|
 .lit 11000 (2)<|
 .known true<|
 .ix 2 3 rfl<|
 .cc (jzb (af.2.2)) fun an=>
 .gh ac.2 (al.length)<|
 .ix 2 3 rfl<|
 .conv 10007 (kS al 100 ae (am.1,am.2.1,an))<|
 .gi ad (al.length)<|
 .lit 11000 (3)<|
 .known false<|
 .nn ((al.set ae (am.1,am.2.1,an)),(i64.wrap (ac.2+1))))
 (.oo ac.1))
 ((List.replicate aa.toNat ((0,0,0):Bj)),0) [] fun ac=>
 .ret ac)
noncomputable def czv:=
 mkp1 Tryz.func210 izd
noncomputable def lzg (k:Bk):T Bj:=
 .loop (fun s (aa:C4)=>pk s [2,3,7,8] [0] [(9,pz aa.2.2.2)] [(64,.box [pz aa.1,pz aa.2.1,pz aa.2.2.1])])
 (.exit 0) (fun s (aa:Bj)=>pk s [2,3] [0] [] [(64,.box [pz aa.1,pz aa.2.1,pz aa.2.2])])
 (fun aa=>let ab:=k.getD ((aa.2.2.2).toNat) default;.br (decide (aa.2.2.2<(k.length:Int)))
 (.gh aa.2.2.2 k.length<|
 .unroll 4<|
 .known true<|
 .ix 0 3 rfl<|
 .ix 0 3 rfl<|
 .ix 0 3 rfl<|
 .lit 9000 (1)<|
 .known true<|
 .ix 1 3 rfl<|
 .ix 1 3 rfl<|
 .ix 1 3 rfl<|
 .lit 9000 (2)<|
 .known true<|
 .ix 2 3 rfl<|
 .ix 2 3 rfl<|
 .ix 2 3 rfl<|
 .lit 9000 (3)<|
 .known false<|
 .nn ((i64.wrap (aa.1+(ab.1))),(i64.wrap (aa.2.1+(ab.2.1))),(i64.wrap (aa.2.2.1+(ab.2.2))),(i64.wrap (aa.2.2.2+1))))
 (.oo (aa.1,aa.2.1,aa.2.2.1)))
 (0,0,0,0) [] fun aa=>
 .ret (aa.1,aa.2.1,aa.2.2)
noncomputable def qz9:=
 mkp1 Tryz.func478 lzg
noncomputable def gzy (k:Bj):T Bo:=
 .loop (fun s (aa:Bj)=>pk s [1,2] [64] [] [(0,.box [pz aa.1,pz aa.2.1,pz aa.2.2])])
 (.exit 0) (fun s (aa:Bj)=>pk s [1,2] [64] [] [(0,.box [pz aa.1,pz aa.2.1,pz aa.2.2])])
 (fun aa=>.cc (ezz (aa.1,aa.2.1,aa.2.2)) fun ab=>
 .br (!ab)
 (.unroll 4<|
 .known true<|
 .ix 0 3 rfl<|
 .ok ((2:Int)≠0) (by decide)<|
 .ix 0 3 rfl<|
 .lit 6000 (1)<|
 .known true<|
 .ix 1 3 rfl<|
 .ok ((2:Int)≠0) (by decide)<|
 .ix 1 3 rfl<|
 .lit 6000 (2)<|
 .known true<|
 .ix 2 3 rfl<|
 .ok ((2:Int)≠0) (by decide)<|
 .ix 2 3 rfl<|
 .lit 6000 (3)<|
 .known false<|
 .nn ((i64.wrap (aa.1.tdiv 2)),(i64.wrap (aa.2.1.tdiv 2)),(i64.wrap (aa.2.2.tdiv 2))))
 (.oo (aa.1,aa.2.1,aa.2.2)))
 (k.1,k.2.1,k.2.2) [] fun aa=>
 .ret ((aa.1,aa.2.1,aa.2.2),(!((aa.1==0)&&((aa.2.1==0)&&((aa.2.2==0)&&true)))))
noncomputable def kz2:=
 mkq1 Tryz.func417 gzy (fun r=>.tup [q r.1,q r.2])
noncomputable def jze (k:Bq)(aa:Bq):T Bo:=let ab:=(aa.length:Int);let ac:=(k.length:Int);.cub 3 18 [0,1,4,5] [0,64]
 (.cc (dzb k) fun ad=>
 .br (!ad)
 (.oo true)
 (.cc (dzb aa) fun ae=>
 .oo (!ae))) fun ad=>
 .br ad
 (.ret ((0,0,0),false))
 (.cc (czv k) fun ae=>
 .cc (qz9 ae) fun af=>
 .cc (czv aa) fun ag=>
 .cc (qz9 ag) fun ah=>
 .unroll 4<|
 .known true<|
 .ix 0 3 rfl<|
 .ix 0 3 rfl<|
 .name 9013 ((i64.wrap ((i64.wrap (af.1 * ab))- (i64.wrap (ah.1 * ac))))) fun ai=>
 .ix 0 3 rfl<|
 .lit 10000 (1)<|
 .known true<|
 .ix 1 3 rfl<|
 .ix 1 3 rfl<|
 .name 9013 ((i64.wrap ((i64.wrap (af.2.1 * ab))- (i64.wrap (ah.2.1 * ac))))) fun aj=>
 .ix 1 3 rfl<|
 .lit 10000 (2)<|
 .known true<|
 .ix 2 3 rfl<|
 .ix 2 3 rfl<|
 .name 9013 ((i64.wrap ((i64.wrap (af.2.2 * ab))- (i64.wrap (ah.2.2 * ac))))) fun ak=>
 .ix 2 3 rfl<|
 .lit 10000 (3)<|
 .known false<|
 .cc (kz2 (ai,aj,ak)) fun al=>
 .ret (al.1,al.2))
noncomputable def nzr (k)(aa):=
 mkC [⟨477,az9n⟩] hd Tryz.func410 (by kernel_rfl) (jze k aa) 0 [q k,q aa] [] (fun r=>.tup [q r.1,q r.2]) (fun _=>[]) (by kernel_rfl)
noncomputable def Rzz:T Bk:=
 .conv 1006 (kL ([(1,0,0),((-1),0,0),(0,1,0),(0,(-1),0),(0,0,1),(0,0,(-1))]:Bk) 100)<|
 .ret ([(1,0,0),((-1),0,0),(0,1,0),(0,(-1),0),(0,0,1),(0,0,(-1))]:Bk)
noncomputable def uzk:CallS Bk:=
 mkD Tryz.func411 (Rzz) 0 [] [] (fun r=>q r) (fun _=>[])
noncomputable def gzq (k:Bk):T Bool:=let aa:=(k.length:Int);.cub 2 14 [0] []
 (.br (decide (aa<1))
 (.oo true)
 (.oo (decide (aa>8)))) fun ab=>
 .br ab
 (.ret false)
 (.loop (ik 17 [15,16] [])
 (.exit 0) (jk [] [])
 (fun ac=>let ad:=k.getD (ac.toNat) default;.br (decide (ac<aa))
 (.gh ac k.length<|
 .loop (ik 22 [15,16,17,21] [])
 (.exit 2) (jk [15,16,17] [])
 (fun ae=>.br (decide (ae<3))
 (.gh ae 3<|
 .name 8000 ((([ad.1,ad.2.1,ad.2.2]:List Int).getD ae.toNat 0)) fun af=>
 .cub 0 30 [15,16,17,21,22] []
 (.br (decide (af<(-268435456)))
 (.oo true)
 (.oo (decide (af>268435456)))) fun ag=>
 .br ag
 (.ff (.fin false))
 (.nn (i64.wrap (ae+1))))
 (.oo .u))
 0 [] fun _=>
 .nn (i64.wrap (ac+1)))
 (.oo .u))
 0 [] fun _=>
 .ret true)
noncomputable def kz0:=
 mkp1 Tryz.func312 gzq
noncomputable def gz9 (k:Bk):T (Bk×A4):=let aa:=(k.length:Int);let ab:=List.replicate aa.toNat (0:Int);.conv 1002 (zzm 1 azs 2 aa.toNat 0)<|
 .grd (0≤aa/\aa≤aa/\aa≤9223372036854775807/\aa * 8≤140737488355328)<|
 .gh (0:Int) (ab.length)<|
 .conv 2002 (kS ab 2 ((0:Int).toNat) 65536)<|
 .gi (0:Int) (ab.length)<|
 .ret (k,(ab.set ((0:Int).toNat) 65536))
noncomputable def izp:=
 mkv1 Tryz.func313 gz9 (fun r=>.agg [q r.1,.vec 0]) (fun r=>[(0,vO r.2 2)])
noncomputable def vzt (k:Bk)(aa:A4):T Bj:=
 .loop (fun s (ab:C4)=>pk s [1,2,3,9,10] [0,1,65] [(11,pz ab.2.2.2)] [(129,.box [pz ab.1,pz ab.2.1,pz ab.2.2.1])])
 (.exit 0) (fun s (ab:Bj)=>pk s [2,3] [0,65] [] [(129,.box [pz ab.1,pz ab.2.1,pz ab.2.2])])
 (fun ab=>let ac:=(ab.2.2.2).toNat;let ad:=k.getD ac default;let ae:=aa.getD ac default;.br (decide (ab.2.2.2<(k.length:Int)))
 (.gh ab.2.2.2 k.length<|
 .unroll 4<|
 .known true<|
 .ix 0 3 rfl<|
 .name 7001 (ad.1) fun af=>
 .ix 0 3 rfl<|
 .gg ab.2.2.2 aa.length<|
 .name 8010 ((i64.wrap (ab.1+(i64.wrap (ae * af))))) fun ag=>
 .ix 0 3 rfl<|
 .lit 9000 (1)<|
 .known true<|
 .ix 1 3 rfl<|
 .name 7001 (ad.2.1) fun ah=>
 .ix 1 3 rfl<|
 .gg ab.2.2.2 aa.length<|
 .name 8010 ((i64.wrap (ab.2.1+(i64.wrap (ae * ah))))) fun ai=>
 .ix 1 3 rfl<|
 .lit 9000 (2)<|
 .known true<|
 .ix 2 3 rfl<|
 .name 7001 (ad.2.2) fun aj=>
 .ix 2 3 rfl<|
 .gg ab.2.2.2 aa.length<|
 .name 8010 ((i64.wrap (ab.2.2.1+(i64.wrap (ae * aj))))) fun ak=>
 .ix 2 3 rfl<|
 .lit 9000 (3)<|
 .known false<|
 .nn (ag,ai,ak,(i64.wrap (ab.2.2.2+1))))
 (.oo (ab.1,ab.2.1,ab.2.2.1)))
 (0,0,0,0) [] fun ab=>
 .ret (ab.1,ab.2.1,ab.2.2)
noncomputable def Czr (k)(aa):=
 mkD Tryz.func415 (vzt k aa) 1 [.agg [q k,.vec 0]] [(0,vO aa 2)] (fun r=>q r) (fun _=>[(0,vO aa 2)])
end Go.Abs
