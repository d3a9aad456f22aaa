/-
  D3 (a part of a claim: our own text).
-/
import Derived.Test.YtlmicknhpllbdaaGreatDoorYMM2
namespace Go.Abs
set_option maxHeartbeats 8000000
set_option maxRecDepth 20000
open IntKind (i64)
open Go.Proofs
noncomputable def Pz6 (k:Bj)(aa:Bj):T Bj:=
 .ix 0 3 rfl<|
 .ix 0 3 rfl<|
 .ix 1 3 rfl<|
 .ix 1 3 rfl<|
 .ix 2 3 rfl<|
 .ix 2 3 rfl<|
 .ret ((i64.wrap (k.1-aa.1)),(i64.wrap (k.2.1-aa.2.1)),(i64.wrap (k.2.2-aa.2.2)))
noncomputable def lzb:=
 mkp2 Tryz.func414 Pz6
noncomputable def gz8 (k:Bj)(aa:Int):T Bool:=
 .loop (fun s (ab:B1)=>pk s [1,9] [] [(5,pz ab.1),(10,pz ab.2)] [])
 (.exit 0) (ik 5 [1] [])
 (fun ab=>let ac:=([k.1,k.2.1,k.2.2]:List Int).getD (ab.2).toNat 0;.br (decide (ab.2<3))
 (.gh ab.2 3<|
 .name 5003 ((max ac (i64.wrap (0-ac)))) fun ad=>
 .cc (bz6 ad 16) fun ae=>
 .nn ((i64.wrap (ab.1+(i64.wrap (ae * ae)))),(i64.wrap (ab.2+1))))
 (.oo ab.1))
 (0,0) [] fun ab=>
 .ret (decide (ab≤(i64.wrap (aa * aa))))
noncomputable def mzt:=
 mkp2 Tryz.func416 gz8
noncomputable def Vzj (k:Bj)(aa:Bj):T Int:=
 .ix 0 3 rfl<|
 .ix 0 3 rfl<|
 .ix 1 3 rfl<|
 .ix 1 3 rfl<|
 .ix 2 3 rfl<|
 .ix 2 3 rfl<|
 .name 1016 ((i64.wrap ((i64.wrap ((i64.wrap (k.1 * aa.1))+(i64.wrap (k.2.1 * aa.2.1))))+(i64.wrap (k.2.2 * aa.2.2))))) fun ab=>
 .ret ab
noncomputable def gzl:=
 mkp2 Tryz.func481 Vzj
noncomputable def oz3 (k:Bk)(_a1:A4)(aa:Bj):T B1:=
 .gh (0:Int) k.length<|
 .cc (gzl aa (k.getD ((0:Int).toNat) default)) fun ab=>
 .loop (fun s (ac:Bj)=>pk s [3,20,21] [0,65] [(6,pz ac.1),(7,pz ac.2.1),(22,pz ac.2.2)] [])
 (.exit 0) (fun s (ac:B1)=>pk s [] [0] [(6,pz ac.1),(7,pz ac.2)] [])
 (fun ac=>.br (decide (ac.2.2<(k.length:Int)))
 (.cut 0 (fun s (ad:B1)=>pk s [3,20,21,22] [0,65] [(6,pz ad.1),(7,pz ad.2)] [])
 (.gh ac.2.2 k.length<|
 .cc (gzl aa (k.getD ((ac.2.2).toNat) default)) fun ad=>
 .br (decide (ad<ac.1))
 (.oo (ad,ac.2.2))
 (.oo (ac.1,ac.2.1))) fun ad=>
 .nn (ad.1,ad.2,(i64.wrap (ac.2.2+1))))
 (.oo (ac.1,ac.2.1)))
 (ab,0,0) [] fun ac=>
 .ret (ac.1,ac.2)
noncomputable def Azw (k)(aa)(ab):=
 mkD Tryz.func418 (oz3 k aa ab) 1 [.agg [q k,.vec 0],q ab] [(0,vO aa 2)] (fun r=>.tup [pz r.1,pz r.2]) (fun _=>[(0,vO aa 2)])
noncomputable def gzs (k:Bk)(_a1:A4)(aa:Bj):T B1:=
 .gh (0:Int) k.length<|
 .cc (gzl aa (k.getD ((0:Int).toNat) default)) fun ab=>
 .loop (fun s (ac:Bj)=>pk s [3,20,21] [0,65] [(6,pz ac.1),(7,pz ac.2.1),(22,pz ac.2.2)] [])
 (.exit 0) (fun s (ac:B1)=>pk s [] [0] [(6,pz ac.1),(7,pz ac.2)] [])
 (fun ac=>.br (decide (ac.2.2<(k.length:Int)))
 (.cut 0 (fun s (ad:B1)=>pk s [3,20,21,22] [0,65] [(6,pz ad.1),(7,pz ad.2)] [])
 (.gh ac.2.2 k.length<|
 .cc (gzl aa (k.getD ((ac.2.2).toNat) default)) fun ad=>
 .br (decide (ad>ac.1))
 (.oo (ad,ac.2.2))
 (.oo (ac.1,ac.2.1))) fun ad=>
 .nn (ad.1,ad.2,(i64.wrap (ac.2.2+1))))
 (.oo (ac.1,ac.2.1)))
 (ab,0,0) [] fun ac=>
 .ret (ac.1,ac.2)
noncomputable def pze (k)(aa)(ab):=
 mkD Tryz.func419 (gzs k aa ab) 1 [.agg [q k,.vec 0],q ab] [(0,vO aa 2)] (fun r=>.tup [pz r.1,pz r.2]) (fun _=>[(0,vO aa 2)])
noncomputable def jzd (k:Bj)(aa:Bj):T Int:=
 .cc (lzb k aa) fun ab=>
 .cc (gzl k ab) fun ac=>
 .cc (gzl ab ab) fun ad=>let ae:=i64.wrap (ad.tdiv 256);
 .br (decide (ac≤0))
 (.ret 0)
 (.ok ((256:Int)≠0) (by decide)<|
 .grd ((max 1 ae)≠0)<|
 .ret (min 256 (i64.wrap (ac.tdiv (max 1 ae)))))
noncomputable def uzj:=
 mkp2 Tryz.func421 jzd
noncomputable def lz9 (_a0:Bk)(k:A4)(aa:Int)(ab:Int):T A4:=let ac:=aa.toNat;.loop (fun s (ad:Bf)=>pk s [1,2,3,11,12] [1] [(6,pz ad.2.1),(13,pz ad.2.2)] [(0,vO ad.1 2)])
 (.exit 0) (fun s (ad:Ah)=>pk s [1,3] [1] [(6,pz ad.2)] [(0,vO ad.1 2)])
 (fun ad=>let ae:=(ad.2.2).toNat;let af:=ad.1.getD ae default;let ag:=i64.wrap ((i64.wrap (af * ab)).tdiv 256);.br (decide (ad.2.2<(k.length:Int)))
 (.gg ad.2.2 ad.1.length<|
 .ok ((256:Int)≠0) (by decide)<|
 .gg ad.2.2 ad.1.length<|
 .name 6006 ((i64.wrap (af-ag))) fun ah=>
 .gh ad.2.2 ad.1.length<|
 .conv 6008 (kS ad.1 2 ae ah)<|
 .gi (ad.2.2) ad.1.length<|
 .name 7002 ((i64.wrap (ad.2.1+ag))) fun ai=>
 .nn ((ad.1.set ae ah),ai,(i64.wrap (ad.2.2+1))))
 (.oo (ad.1,ad.2.1)))
 (k,0,0) [] fun ad=>let ae:=i64.wrap ((ad.1.getD ac default)+ad.2);
 .gg aa ad.1.length<|
 .gh aa ad.1.length<|
 .conv 9008 (kS ad.1 2 ac ae)<|
 .gi (aa) ad.1.length<|
 .ret (ad.1.set ac ae)
noncomputable def qz7 (k)(aa)(ab)(ac):=
 mkD Tryz.func422 (lz9 k aa ab ac) 1 [.agg [q k,.vec 0],pz ab,pz ac] [(0,vO aa 2)] (fun _=>.tup []) (fun r=>[(0,vO r 2)])
noncomputable def sze (k:Bk)(aa:A4)(ab:Bk)(ac:A4)(ad:Int)(ae:Int)(af:Int)(ag:Int)(ah:Int)(ai:Int):T (Int×Bk×A4×Bk×A4×Int×Int×Int×Int):=
 .loop (fun s (aj:(A4×A4×Int×Int×Int×Int))=>pk s [0,1,2] [] [] [(0,.box [q k,.vec 1,q ab,.vec 2,pz aj.2.2.1,pz aj.2.2.2.1,pz aj.2.2.2.2.1,pz aj.2.2.2.2.2]),(1,vO aj.1 2),(2,vO aj.2.1 2)])
 .ret (fun _ (_:U0)=>⟨[],[],[],3⟩)
 (fun aj=>.call (Czr k aj.1) [(0,1)] fun ak=>
 .call (Czr ab aj.2.1) [(0,2)] fun al=>
 .cc (lzb ak al) fun am=>let an:=i64.wrap (am.1.tdiv 65536);let ao:=i64.wrap (am.2.1.tdiv 65536);let ap:=i64.wrap (am.2.2.tdiv 65536);
 .cc (mzt am ah) fun aq=>
 .br aq
 (.ff (2,k,aj.1,ab,aj.2.1,aj.2.2.1,aj.2.2.2.1,aj.2.2.2.2.1,aj.2.2.2.2.2))
 (.ix 0 3 rfl<|
 .ok ((65536:Int)≠0) (by decide)<|
 .ix 1 3 rfl<|
 .ok ((65536:Int)≠0) (by decide)<|
 .ix 2 3 rfl<|
 .ok ((65536:Int)≠0) (by decide)<|
 .cc (kz2 (an,ao,ap)) fun ar=>
 .br (!ar.2)
 (.ff (0,k,aj.1,ab,aj.2.1,ar.1.1,ar.1.2.1,ar.1.2.2,aj.2.2.2.2.2))
 (.call (Azw k aj.1 ar.1) [(0,1)] fun au=>
 .call (pze ab aj.2.1 ar.1) [(0,2)] fun av=>
 .cc (vzf ar.1) fun aw=>
 .br (decide ((i64.wrap (au.1-av.1))>(i64.wrap (aw * ah))))
 (.ff (1,k,aj.1,ab,aj.2.1,ar.1.1,ar.1.2.1,ar.1.2.2,aj.2.2.2.2.2))
 (.br (aj.2.2.2.2.2==ai)
 (.ff (0,k,aj.1,ab,aj.2.1,ar.1.1,ar.1.2.1,ar.1.2.2,aj.2.2.2.2.2))
 (.gh au.2 k.length<|
 .gh av.2 ab.length<|
 .cc (lzb (k.getD ((au.2).toNat) default) (ab.getD ((av.2).toNat) default)) fun ax=>
 .cc (uzj (an,ao,ap) ax) fun ay=>
 .br (ay==0)
 (.ff (0,k,aj.1,ab,aj.2.1,ar.1.1,ar.1.2.1,ar.1.2.2,aj.2.2.2.2.2))
 (.call (qz7 k aj.1 au.2 ay) [(0,1)] fun az=>
 .call (qz7 ab aj.2.1 av.2 ay) [(0,2)] fun a0=>
 .nn (az,a0,ar.1.1,ar.1.2.1,ar.1.2.2,(i64.wrap (aj.2.2.2.2.2+1)))))))))
 (aa,ac,ad,ae,af,ag) [] fun _=>
 .stop
noncomputable def Qzu (k)(aa)(ab)(ac)(ad)(ae)(af)(ag)(ah)(ai):=
 mkD Tryz.func314 (sze k aa ab ac ad ae af ag ah ai) 3 [.ptr 0 0,pz ah,pz ai] [(0,.box [q k,.vec 1,q ab,.vec 2,pz ad,pz ae,pz af,pz ag]),(1,vO aa 2),(2,vO ac 2)] (fun r=>pz r.1) (fun r=>[(0,.box [q r.2.1,.vec 1,q r.2.2.2.1,.vec 2,pz r.2.2.2.2.2.1,pz r.2.2.2.2.2.2.1,pz r.2.2.2.2.2.2.2.1,pz r.2.2.2.2.2.2.2.2]),(1,vO r.2.2.1 2),(2,vO r.2.2.2.2.1 2)])
noncomputable def gzp (k:Bk)(aa:Bk)(ab:Int)(ac:Int):T dzc:=
 .cub 2 34 [0,1,2,3,8] [0,5,6]
 (.cc (kz0 k) fun ad=>
 .br (!ad)
 (.oo true)
 (.cc (kz0 aa) fun ae=>
 .br (!ae)
 (.oo true)
 (.br (decide (ab<0))
 (.oo true)
 (.br (decide (ab>2097152))
 (.oo true)
 (.br (decide (ac<0))
 (.oo true)
 (.oo (decide (ac>64)))))))) fun ad=>
 .br ad
 (.ret (⟨0,(0,0,0),nl,nl,0⟩:dzc))
 (.cc (izp k) fun ae=>
 .cc (izp aa) fun af=>
 .call (Qzu ae.1 ae.2 af.1 af.2 0 0 0 0 ab ac) [(0,576),(1,192),(2,384)] fun ag=>
 .ret (⟨ag.1,(ag.2.2.2.2.2.1,ag.2.2.2.2.2.2.1,ag.2.2.2.2.2.2.2.1),ag.2.2.1,ag.2.2.2.2.1,ag.2.2.2.2.2.2.2.2⟩:dzc))
noncomputable def ezf:=
 mkp4 Tryz.func209 gzp
noncomputable def hz9 {o:Bj->Option Bool}(Y:YldS Tryz.prog azh o)(a0:Bq)(a1:Bq)(a2:Int)(a3:Int)(a4:Bk):T Cg:=
 .cub 1 31 [0,1,2,3,4,5] [0,1,2,3,4,5]
 (.call (dzb a0) [] fun y23=>
 .br (!y23)
 (.ret (.out true))
 (.call (dzb a1) [] fun y24=>
 .br (!y24)
 (.ret (.out true))
 (.call (lze a2) [] fun y25=>
 .br (!y25)
 (.ret (.out true))
 (.call (lze a3) [] fun y26=>
 .ret (.out (!y26)))))) fun y22=>
 .br y22
 (.ret (false,default,a0,a1,a2,a3,a4))
 (.loop (fun s (x87:(Int×Bool×Bj))=>pk s [0,1,2,3,4,32,33] [1,2,3,4,5] [(34,pz x87.1)] [(0,.tok Y.τ (tokP x87.2.1 (azh x87.2.2)))])
 (.exit 0) (fun s (y102:(Bool×Bj))=>pk s [0,1,2,3,4] [1,2,3,4,5] [] [(0,.tok Y.τ (tokP y102.1 (azh y102.2)))])
 (fun x87=>.br (decide (x87.1<(a4.length:Int)))
 (.grd (0≤x87.1/\x87.1<(a4.length:Int))<|
 .cut 0 (fun s (y114:Bw)=>pk s [0,1,2,3,4,32,33,34] [1,2,3,4,5] [(45,q y114.1)] [(0,.tok Y.τ (tokP y114.2.1 (azh y114.2.2)))])
 (.call (fzf (a4.getD ((x87.1).toNat) default)) [] fun y115=>
 .br y115
 (.call (Y.C x87.2.1 x87.2.2 (a4.getD ((x87.1).toNat) default)) [(0,0)] fun y116=>
 .ret (.out ((!(!y116)),y116,(a4.getD ((x87.1).toNat) default))))
 (.ret (.out (false,x87.2.1,x87.2.2)))) fun y114=>
 .br y114.1
 (.ret (.fin (y114.2.1,y114.2.2,a0,a1,a2,a3,a4)))
 (.ret (.next ((i64.wrap (x87.1+1)),y114.2.1,y114.2.2))))
 (.ret (.out (x87.2.1,x87.2.2))))
 (0,false,default) [] fun y102=>
 .call (nzr a0 a1) [] fun y124=>
 .cut 0 (fun s (y127:Bw)=>pk s [0,1,2,3,4] [1,2,3,4,5] [(59,q y127.1)] [(0,.tok Y.τ (tokP y127.2.1 (azh y127.2.2)))])
 (.br y124.2
 (.call (Y.C y102.1 y102.2 y124.1) [(0,0)] fun y128=>
 .ret (.out ((!(!y128)),y128,y124.1)))
 (.ret (.out (false,y102.1,y102.2)))) fun y127=>
 .br y127.1
 (.ret (y127.2.1,y127.2.2,a0,a1,a2,a3,a4))
 (.call (uzk) [] fun y147=>
 .loop (fun s (x153:(Int×Bool×Bj))=>pk s [0,1,2,3,4,60,61] [1,2,3,4,5] [(62,pz x153.1)] [(0,.tok Y.τ (tokP x153.2.1 (azh x153.2.2)))])
 (.exit 2) (fun s (y158:(Bool×Bj))=>pk s [0,1,2,3,4] [1,2,3,4,5] [] [(0,.tok Y.τ (tokP y158.1 (azh y158.2)))])
 (fun x153=>.br (decide (x153.1<(y147.length:Int)))
 (.grd (0≤x153.1/\x153.1<(y147.length:Int))<|
 .call (Y.C x153.2.1 x153.2.2 (y147.getD ((x153.1).toNat) default)) [(0,0)] fun y162=>
 .br (!(!y162))
 (.ret (.fin (y162,(y147.getD ((x153.1).toNat) default),a0,a1,a2,a3,a4)))
 (.ret (.next ((i64.wrap (x153.1+1)),y162,(y147.getD ((x153.1).toNat) default)))))
 (.ret (.out (x153.2.1,x153.2.2))))
 (0,y127.2.1,y127.2.2) [] fun y158=>
 .call (czv a0) [] fun y166=>
 .call (czv a1) [] fun y167=>
 .call (ezf y166 y167 (i64.wrap (a2+a3)) 64) [] fun y168=>
 .call (fzf y168.Normal) [] fun y170=>
 .br y170
 (.call (Y.C y158.1 y158.2 y168.Normal) [(0,0)] fun y171=>
 .ret (y171,y168.Normal,a0,a1,a2,a3,a4))
 (.ret (y158.1,y158.2,a0,a1,a2,a3,a4))))
noncomputable def hz8 {o:Bj->Option Bool}(Y:YldS Tryz.prog azh o)(a0:Bq)(a1:Bq)(a2:Int)(a3:Int)(a4:Bk):CallS Cg:=
 mkD Tryz.func407 (hz9 Y a0 a1 a2 a3 a4) 6 [.yld Y.l,.ptr 1 0,.ptr 2 0,.ptr 3 0,.ptr 4 0,.ptr 5 0] [(0,.tok Y.τ (tokP false (azh default))),(1,.box [q a0]),(2,.box [q a1]),(3,.box [pz a2]),(4,.box [pz a3]),(5,.box [q a4])] (fun _=>.tup []) (fun r=>[(0,.tok Y.τ (tokP r.1 (azh r.2.1))),(1,.box [q r.2.2.1]),(2,.box [q r.2.2.2.1]),(3,.box [pz r.2.2.2.2.1]),(4,.box [pz r.2.2.2.2.2.1]),(5,.box [q r.2.2.2.2.2.2])])
noncomputable def nzq (k:Bq)(aa:Int)(ab:Bq)(ac:Int)(_a4:Bk)(x:Bj):T Bool:=
 .cc (mzu x k aa ab ac) fun ad=>
 .br ad
 (.ret true)
 (.ret false)
noncomputable def uzl (a0:Bq)(a1:Int)(a2:Bq)(a3:Int)(a4:Bk):CallS Bo:=
 mkR (encX:=azh) [⟨309,az9c⟩] hd Tryz.func208 (by kernel_rfl) (.call (jz2 a0 a1 a2 a3 a4) [] fun y1=>
 .ret y1)
 (nzq a0 a1 a2 a3 a4) [(0,.box [q a0]),(64,.box [pz a1]),(128,.box [q a2]),(192,.box [pz a3]),(256,.box [pz 0,pz 0,pz 0]),(320,.box [.ff])]
 (fun p=>[(0,.box [q a0]),(64,.box [pz a1]),(128,.box [q a2]),(192,.box [pz a3]),(256,.box (p.cells.map .pure)),(320,.box [.tt])]) [(0,960),(1,832),(2,833),(3,834),(4,835),(5,836)] (fun r=>r.1) (fun r=>r.2.1)
 (fun y1 Y=>hz8 Y y1.1 y1.2.1 y1.2.2.1 y1.2.2.2.1 y1.2.2.2.2)
 (.ret ((0,0,0),false)) (fun x=>(x,true)) (fun _ _=>rfl) 0 [q a0,pz a1,q a2,pz a3,q a4] [] (fun r=>.tup [q r.1,q r.2]) (fun _=>[]) (by kernel_rfl)
noncomputable def sz9 (k:Bq)(aa:A4):T (Bp×Int×Bool):=let ab:=(aa.length:Nat);.cub 2 22 [0,1,4] [0]
 (.cc (dzb k) fun ac=>
 .br (!ac)
 (.oo true)
 (.oo ((ab:Int) !=(k.length:Int)))) fun ac=>
 .br ac
 (.ret (((⟨0,0⟩:az0),(⟨0,0⟩:az0),(⟨0,0⟩:az0)),0,false))
 (.loop (fun s (ad:(Int×Int×Int×Int×Int×Int×Int×Int))=>pk s [0,4,7,24,25] [0] [(8,pz ad.2.2.2.2.2.2.1),(26,pz ad.2.2.2.2.2.2.2)] [(256,.box [pz ad.1,pz ad.2.1,pz ad.2.2.1,pz ad.2.2.2.1,pz ad.2.2.2.2.1,pz ad.2.2.2.2.2.1])])
 (.exit 0) (fun s (ad:Ci)=>pk s [4,7] [0] [(8,pz ad.2.2.2.2.2.2)] [(256,.box [pz ad.1,pz ad.2.1,pz ad.2.2.1,pz ad.2.2.2.1,pz ad.2.2.2.2.1,pz ad.2.2.2.2.2.1])])
 (fun ad=>let ae:=(ad.2.2.2.2.2.2.2).toNat;let af:=aa.getD ae default;let ag:=k.getD ae default;.br (decide (ad.2.2.2.2.2.2.2<(ab:Int)))
 (.gh ad.2.2.2.2.2.2.2 aa.length<|
 .cub 1 36 [0,4,7,8,9,10,24,25,26] [0,256]
 (.br (decide (af<0))
 (.oo true)
 (.oo (decide (af>65536)))) fun ah=>
 .br ah
 (.ff (((⟨0,0⟩:az0),(⟨0,0⟩:az0),(⟨0,0⟩:az0)),0,false))
 (.gh ad.2.2.2.2.2.2.2 k.length<|
 .unroll 4<|
 .known true<|
 .ix 0 3 rfl<|
 .ix 0 3 rfl<|
 .name 14007 ((i64.wrap (af * (ag.1.Lo)))) fun ai=>
 .name 14008 ((i64.wrap (ad.1+ai))) fun aj=>
 .ix 0 3 rfl<|
 .ix 0 3 rfl<|
 .name 15007 ((i64.wrap (af * (ag.1.Hi)))) fun ak=>
 .name 15008 ((i64.wrap (ad.2.1+ak))) fun al=>
 .ix 0 3 rfl<|
 .lit 16000 (1)<|
 .known true<|
 .ix 1 3 rfl<|
 .ix 1 3 rfl<|
 .name 14007 ((i64.wrap (af * (ag.2.1.Lo)))) fun am=>
 .name 14008 ((i64.wrap (ad.2.2.1+am))) fun an=>
 .ix 1 3 rfl<|
 .ix 1 3 rfl<|
 .name 15007 ((i64.wrap (af * (ag.2.1.Hi)))) fun ao=>
 .name 15008 ((i64.wrap (ad.2.2.2.1+ao))) fun ap=>
 .ix 1 3 rfl<|
 .lit 16000 (2)<|
 .known true<|
 .ix 2 3 rfl<|
 .ix 2 3 rfl<|
 .name 14007 ((i64.wrap (af * (ag.2.2.Lo)))) fun aq=>
 .name 14008 ((i64.wrap (ad.2.2.2.2.1+aq))) fun ar=>
 .ix 2 3 rfl<|
 .ix 2 3 rfl<|
 .name 15007 ((i64.wrap (af * (ag.2.2.Hi)))) fun au=>
 .name 15008 ((i64.wrap (ad.2.2.2.2.2.1+au))) fun av=>
 .ix 2 3 rfl<|
 .lit 16000 (3)<|
 .known false<|
 .nn (aj,al,an,ap,ar,av,(i64.wrap (ad.2.2.2.2.2.2.1+af)),(i64.wrap (ad.2.2.2.2.2.2.2+1)))))
 (.oo (ad.1,ad.2.1,ad.2.2.1,ad.2.2.2.1,ad.2.2.2.2.1,ad.2.2.2.2.2.1,ad.2.2.2.2.2.2.1)))
 (0,0,0,0,0,0,0,0) [] fun ad=>
 .cub 1 78 [4,7,8] [0,256]
 (.br (decide (ad.2.2.2.2.2.2<1))
 (.oo true)
 (.oo (decide (ad.2.2.2.2.2.2>65536)))) fun ae=>
 .br ae
 (.ret (((⟨0,0⟩:az0),(⟨0,0⟩:az0),(⟨0,0⟩:az0)),0,false))
 (.ret (((⟨ad.1,ad.2.1⟩:az0),(⟨ad.2.2.1,ad.2.2.2.1⟩:az0),(⟨ad.2.2.2.2.1,ad.2.2.2.2.2.1⟩:az0)),ad.2.2.2.2.2.2,true)))
noncomputable def sz8:=
 mkq2 Tryz.func425 sz9 (fun r=>.tup [q r.1,pz r.2.1,q r.2.2])
noncomputable def lzl (k:Int):T Bool:=
 .br (decide (k≥0))
 (.ret (decide (k≤1048576)))
 (.ret false)
noncomputable def lzk:=
 mkp1 Tryz.func426 lzl
noncomputable def lzj (k:A4):T Int:=
 .loop (fun s (aa:B1)=>pk s [6,7] [] [(3,pz aa.1),(8,pz aa.2)] [])
 (.exit 0) (ik 3 [] [])
 (fun aa=>let ab:=k.getD ((aa.2).toNat) default;.br (decide (aa.2<(k.length:Int)))
 (.gh aa.2 k.length<|
 .nn ((max (max aa.1 ab) (i64.wrap (0-ab))),(i64.wrap (aa.2+1))))
 (.oo aa.1))
 (0,0) [] fun aa=>
 .ret aa
noncomputable def hzm:=
 mkp1 Tryz.func427 lzj
noncomputable def pz2 (k:A4)(aa:A4)(ab:Bq)(ac:Int)(ad:Bq)(ae:Int):T Ba:=let af:=i64.wrap (ac+ae);.cc (sz8 ab k) fun ag=>
 .cc (sz8 ad aa) fun ah=>let ai:=([(i64.wrap (ag.1.1.Lo-ah.1.1.Hi)),(i64.wrap (ag.1.1.Hi-ah.1.1.Lo))]:A4);let aj:=([(i64.wrap (ag.1.2.1.Lo-ah.1.2.1.Hi)),(i64.wrap (ag.1.2.1.Hi-ah.1.2.1.Lo))]:A4);let ak:=([(i64.wrap (ag.1.2.2.Lo-ah.1.2.2.Hi)),(i64.wrap (ag.1.2.2.Hi-ah.1.2.2.Lo))]:A4);
 .cub 1 59 [3,5,12,13,14,15,17] [0,64,704,1408]
 (.br (!ag.2.2)
 (.oo true)
 (.br (!ah.2.2)
 (.oo true)
 (.br (ag.2.1 !=ah.2.1)
 (.oo true)
 (.cc (lzk ac) fun al=>
 .br (!al)
 (.oo true)
 (.cc (lzk ae) fun am=>
 .oo (!am)))))) fun al=>
 .br al
 (.ret (0,false))
 (.unroll 4<|
 .known true<|
 .ix 0 3 rfl<|
 .ix 0 3 rfl<|
 .ix 0 3 rfl<|
 .ix 0 3 rfl<|
 .conv 11018 (kL ai 2)<|
 .cc (hzm ai) fun am=>let an:=i64.wrap ((i64.wrap ((i64.wrap (am+ag.2.1))-1)).tdiv ag.2.1);
 .grd (ag.2.1≠0)<|
 .br (decide (an>af))
 (.ret ((-1),true))
 (.name 15003 ((i64.wrap (an * an))) fun ao=>
 .name 15004 ((i64.wrap ((i64.wrap (af * af))-ao))) fun ap=>
 .lit 16000 (1)<|
 .known true<|
 .ix 1 3 rfl<|
 .ix 1 3 rfl<|
 .ix 1 3 rfl<|
 .ix 1 3 rfl<|
 .conv 11018 (kL aj 2)<|
 .cc (hzm aj) fun aq=>let ar:=i64.wrap ((i64.wrap ((i64.wrap (aq+ag.2.1))-1)).tdiv ag.2.1);
 .grd (ag.2.1≠0)<|
 .br (decide (ar>af))
 (.ret ((-1),true))
 (.name 15003 ((i64.wrap (ar * ar))) fun au=>
 .name 15004 ((i64.wrap (ap-au))) fun av=>
 .lit 16000 (2)<|
 .known true<|
 .ix 2 3 rfl<|
 .ix 2 3 rfl<|
 .ix 2 3 rfl<|
 .ix 2 3 rfl<|
 .conv 11018 (kL ak 2)<|
 .cc (hzm ak) fun aw=>let ax:=i64.wrap ((i64.wrap ((i64.wrap (aw+ag.2.1))-1)).tdiv ag.2.1);
 .grd (ag.2.1≠0)<|
 .br (decide (ax>af))
 (.ret ((-1),true))
 (.name 15003 ((i64.wrap (ax * ax))) fun ay=>
 .name 15004 ((i64.wrap (av-ay))) fun az=>
 .lit 16000 (3)<|
 .known false<|
 .ret (az,true)))))
noncomputable def zzb (k)(aa)(ab)(ac)(ad)(ae):=
 mkC [⟨424,az9l⟩] hd Tryz.func318 (by kernel_rfl) (pz2 k aa ab ac ad ae) 0 [q k,q aa,q ab,pz ac,q ad,pz ae] [] (fun r=>.tup [pz r.1,q r.2]) (fun _=>[]) (by kernel_rfl)
noncomputable def lzi (k:A4)(aa:A4)(ab:Bq)(ac:Int)(ad:Bq)(ae:Int):T Bool:=
 .cc (zzb k aa ab ac ad ae) fun af=>
 .br af.2
 (.ret (decide (af.1≥0)))
 (.ret false)
noncomputable def lzh (k)(aa)(ab)(ac)(ad)(ae):=
 mkC [⟨317,az9d⟩] hd Tryz.func211 (by kernel_rfl) (lzi k aa ab ac ad ae) 0 [q k,q aa,q ab,pz ac,q ad,pz ae] [] (fun r=>q r) (fun _=>[]) (by kernel_rfl)
noncomputable def Gz7 (k:dzm):T dzd:=
 .ret (⟨2,nl,k.witness⟩:dzd)
noncomputable def Gz6 (k):=
 mkD Tryz.func212 (Gz7 k) 0 [.iface 327 (q k)] [] (fun r=>q r) (fun _=>[])
noncomputable def Dz2 (k:bzd):T dzd:=
 .ret (⟨1,k.normals,(⟨0,nl,nl⟩:czs)⟩:dzd)
noncomputable def Dz1 (k):=
 mkD Tryz.func212 (Dz2 k) 0 [.iface 329 (q k)] [] (fun r=>q r) (fun _=>[])
noncomputable def uz4 (k:azc)(aa:Ae)(ab:Bk):T dzd:=let ac:=(ab.length:Int);.cc (ozo (⟨k.Robot,k.Shapes,k.Skips⟩:azc) aa) fun ad=>let ae:=(ad.1.pairs.length:Int);
 .br (!ad.2)
 (.ret (⟨0,nl,(⟨0,nl,nl⟩:czs)⟩:dzd))
 (.conv 5003 (zzm 3 azh 100 ae.toNat (0,0,0))<|
 .grd (0≤ae/\ae≤ae/\ae≤9223372036854775807/\ae * 24≤140737488355328)<|
 .loop (fun s (af:(Bk×Bool×Int))=>pk s [2,6,7,9,33] [64,66,68,69,640] [(10,q af.2.1),(34,pz af.2.2)] [(1152,vO af.1 100)])
 (.exit 0) (fun s (af:(Bk×Bool))=>pk s [6,9] [64,66,68,69] [(10,q af.2)] [(1152,vO af.1 100)])
 (fun af=>let ag:=af.2.2;let ah:=min af.2.2 ac;let ai:=i64.wrap (af.2.2+1);let aj:=min ai ac;.br (decide (af.2.2<ae))
 (.cut 0 (fun s (ak:(Bk×Bool))=>pk s [2,6,7,9,33,34] [64,66,68,69,640] [(10,q ak.2)] [(1152,vO ak.1 100)])
 (.cc (wzo (⟨ad.1.shapes,ad.1.pairs,ad.1.points⟩:cze) af.2.2) fun ak=>
 .conv 11010 (Ezu 3 azh ab ah aj)<|
 .grd (0≤ah/\ah≤aj/\aj≤ac)<|
 .call (uzl ak.a ak.ra ak.b ak.rb ((ab.drop (ah.toNat)).take (aj.toNat-ah.toNat))) [] fun al=>
 .br al.2
 (.gh af.2.2 af.1.length<|
 .conv 14004 (kS af.1 100 (ag.toNat) al.1)<|
 .gi ag af.1.length<|
 .oo ((af.1.set (ag.toNat) al.1),af.2.1))
 (.cc (czv ak.a) fun am=>
 .cc (czv ak.b) fun an=>
 .cc (ezf am an (i64.wrap (ak.ra+ak.rb)) 64) fun ao=>
 .cc (lzh ao.Left ao.Right ak.a ak.ra ak.b ak.rb) fun ap=>
 .br ap
 (.cc (Gz6 (⟨(⟨af.2.2,ao.Left,ao.Right⟩:czs)⟩:dzm)) fun aq=>
 .ff (.fin aq))
 (.oo (af.1,false)))) fun ak=>
 .nn (ak.1,ak.2,ai))
 (.oo (af.1,af.2.1)))
 ((List.replicate ae.toNat ((0,0,0):Bj)),true,0) [] fun af=>
 .br (!af.2)
 (.ret (⟨0,af.1,(⟨0,nl,nl⟩:czs)⟩:dzd))
 (.cc (Dz1 (⟨af.1⟩:bzd)) fun ag=>
 .ret ag))
noncomputable def nzj (k)(aa)(ab):=
 mkC [⟨205,az94⟩] hd Tryz.func114 (by kernel_rfl) (uz4 k aa ab) 0 [q k,q aa,q ab] [] (fun r=>q r) (fun _=>[]) (by kernel_rfl)
noncomputable def pzt (k:az1)(aa:azg)(ab:A4):T Bool:=
 .cc (qz5 k aa) fun ac=>
 .br (ac.2==0)
 (.cc (Az2 ab) fun ad=>
 .cc (nzj (⟨ac.1.Robot,ac.1.Shapes,ac.1.Skips⟩:azc) ad nl) fun ae=>
 .ret (ae.Kind==1))
 (.ret false)
noncomputable def kz3:=
 mkp3 Tryz.func55 pzt
noncomputable def pzs (k:az1)(aa:azg)(ab:az6)(ac:Int):T Bool:=let ad:=(⟨aa.Where⟩:azg);let ae:=k.Grips.getD (ac.toNat) default;let af:=(⟨k.Scene,k.Objects,k.Places,k.Hands,k.Grips,k.Slack⟩:az1);.cc (kzj af ad ab) fun ag=>
 .cub 1 27 [3,4,5,6,9] [0,64,128,704]
 (.br (!ag.2)
 (.oo true)
 (.cc (kz4 k (⟨ab.Kind,ab.Hand,ab.Place⟩:az6) ac) fun ah=>
 .oo (!ah))) fun ah=>
 .br ah
 (.ret false)
 (.gh ac k.Grips.length<|
 .cc (qzs af ab.Hand ab.Place (ae.At)) fun ai=>
 .br ai
 (.cc (kz3 af ad (ae.At)) fun aj=>
 .br aj
 (.cc (kz3 af (⟨ag.1.Where⟩:azg) (ae.At)) fun ak=>
 .ret ak)
 (.ret false))
 (.ret false))
noncomputable def czn:=
 mkp4 Tryz.func22 pzs
noncomputable def Jz6 (k:azk):T az0:=
 .ret (⟨k.Lo,k.Hi⟩:az0)
noncomputable def Jz5:=
 mkp1 Tryz.func159 Jz6
noncomputable def izi (k:A0):T Ae:=let aa:=(k.length:Int);.conv 1002 (zzm 2 tz3 106 aa.toNat (⟨0,0⟩:az0))<|
 .grd (0≤aa/\aa≤aa/\aa≤9223372036854775807/\aa * 16≤140737488355328)<|
 .loop (fun s (ab:Af)=>pk s [1,5,11,12] [] [(13,pz ab.2)] [(192,vO ab.1 106)])
 (.exit 0) (fun s (ab:Ae)=>pk s [5] [] [] [(192,vO ab 106)])
 (fun ab=>let ac:=(ab.2).toNat;.br (decide (ab.2<aa))
 (.gh ab.2 k.length<|
 .cc (Jz5 (k.getD ac default)) fun ad=>
 .gh ab.2 ab.1.length<|
 .conv 5006 (kS ab.1 106 ac ad)<|
 .gi (ab.2) ab.1.length<|
 .nn ((ab.1.set ac ad),(i64.wrap (ab.2+1))))
 (.oo ab.1))
 ((List.replicate aa.toNat ((⟨0,0⟩:az0):az0)),0) [] fun ab=>
 .ret ab
noncomputable def izh (k):=
 mkD Tryz.func158 (izi k) 0 [q k,.func 159 [] []] [] (fun r=>q r) (fun _=>[])
noncomputable def Oz5 (k:azn):T Ae:=
 .cc (ezp k) fun aa=>
 .br (aa !=0)
 (.ret nl)
 (.cc (izh k.Joints) fun ab=>
 .ret ab)
noncomputable def Oz4:=
 mkp1 Tryz.func90 Oz5
noncomputable def Qzm (k:Ae):T Bool:=let aa:=(k.length:Int);.cub 2 12 [0] []
 (.br (decide (aa<1))
 (.oo true)
 (.oo (decide (aa>10)))) fun ab=>
 .br ab
 (.ret false)
 (.loop (ik 15 [13,14] [])
 (.exit 0) (jk [] [])
 (fun ac=>.br (decide (ac<aa))
 (.gh ac k.length<|
 .cc (bzj (k.getD (ac.toNat) default)) fun ad=>
 .br (!ad)
 (.ff false)
 (.nn (i64.wrap (ac+1))))
 (.oo .u))
 0 [] fun _=>
 .ret true)
noncomputable def Qzl:=
 mkp1 Tryz.func161 Qzm
noncomputable def Qzk (k:Int):T Int:=
 .cub 3 9 [0,2] [0]
 (.br (decide (k<0))
 (.oo true)
 (.oo (decide (k≥10)))) fun aa=>
 .br aa
 (.ret 0)
 (.gh k 10<|
 .ret (([2,3,5,7,11,13,17,19,23,29]:List Int).getD k.toNat 0))
noncomputable def Qzj (k):=
 mkC [⟨258,az97⟩] hd Tryz.func163 (by kernel_rfl) (Qzk k) 0 [pz k] [] (fun r=>.pure (.int .u64 r)) (fun _=>[]) (by kernel_rfl)
noncomputable def Kzj (k:Int)(aa:Int):T B1:=
 .br (decide (k<2))
 (.ret (0,1))
 (.ok ((4294967296:Int)≠0) (by decide)<|
 .loop (fun s (ab:Bj)=>pk s [0,4,5] [] [(1,.pure (.int .u64 ab.1))] [(0,.box [.pure (.int .u64 ab.2.1)]),(64,.box [.pure (.int .u64 ab.2.2)])])
 (.exit 0) (fun s (ab:B1)=>pk s [4,5] [] [] [(0,.box [.pure (.int .u64 ab.1)]),(64,.box [.pure (.int .u64 ab.2)])])
 (fun ab=>.br (decide (ab.1>0))
 (.grd (k≠0)<|
 .grd (k≠0)<|
 .nn ((IntKind.u64.wrap (ab.1.tdiv k)),(IntKind.u64.wrap ((IntKind.u64.wrap (ab.2.1 * k))+(ab.1.tmod k))),(IntKind.u64.wrap (ab.2.2 * k))))
 (.oo (ab.2.1,ab.2.2)))
 ((aa.tmod 4294967296),0,1) [] fun ab=>
 .ret (ab.1,ab.2))
noncomputable def Kzi (k)(aa):=
 mkC [⟨257,az96⟩] hd Tryz.func162 (by kernel_rfl) (Kzj k aa) 0 [.pure (.int .u64 k),.pure (.int .u64 aa)] [] (fun r=>.tup [.pure (.int .u64 r.1),.pure (.int .u64 r.2)]) (fun _=>[]) (by kernel_rfl)
noncomputable def Kzl (k:Int)(aa:Int):T Bool:=
 .cc (bzj (⟨k,aa⟩:az0)) fun ab=>
 .ret ab
noncomputable def Kzk:=
 mkp2 Tryz.func260 Kzl
noncomputable def Jzs (k:Int)(aa:Int):T B1:=let ab:=k.fdiv (2 ^ (min (32:Int).toNat 64));let ac:=aa.fdiv (2 ^ (min (32:Int).toNat 64));let ad:=IntKind.u64.wrap (((BitVec.ofInt 64 k&&&BitVec.ofInt 64 4294967295).toNat:Int));let ae:=IntKind.u64.wrap (((BitVec.ofInt 64 aa&&&BitVec.ofInt 64 4294967295).toNat:Int));.ok (0≤(32:Int)) (by decide)<|
 .ok (0≤(32:Int)) (by decide)<|
 .name 5002 ((IntKind.u64.wrap (ad * ae))) fun af=>
 .name 6002 ((IntKind.u64.wrap (ab * ae))) fun ag=>let ah:=IntKind.u64.wrap (ag+(af.fdiv (2 ^ (min (32:Int).toNat 64))));
 .ok (0≤(32:Int)) (by decide)<|
 .name 7001 ((IntKind.u64.wrap (((BitVec.ofInt 64 ah&&&BitVec.ofInt 64 4294967295).toNat:Int)))) fun ai=>
 .ok (0≤(32:Int)) (by decide)<|
 .name 9003 ((IntKind.u64.wrap (ad * ac))) fun aj=>
 .name 10004 ((IntKind.u64.wrap ((IntKind.u64.wrap (ab * ac))+(ah.fdiv (2 ^ (min (32:Int).toNat 64)))))) fun ak=>
 .ok (0≤(32:Int)) (by decide)<|
 .ret ((IntKind.u64.wrap (ak+((IntKind.u64.wrap (ai+aj)).fdiv (2 ^ (min (32:Int).toNat 64))))),(IntKind.u64.wrap (k * aa)))
noncomputable def Jzr (k)(aa):=
 mkD Tryz.func261 (Jzs k aa) 0 [.pure (.int .u64 k),.pure (.int .u64 aa)] [] (fun r=>.tup [.pure (.int .u64 r.1),.pure (.int .u64 r.2)]) (fun _=>[])
noncomputable def szs (k:Int):T Int:=
 .cc (gz6 k) fun aa=>
 .ret (i64.wrap (64-aa))
noncomputable def szr (k):=
 mkD Tryz.func348 (szs k) 0 [.pure (.int .u64 k)] [] (fun r=>pz r) (fun _=>[])
noncomputable def Jzo (k:Int)(aa:Int)(ab:Int):T B1:=
 .br (ab==0)
 (.stop)
 (.br (decide (ab≤k))
 (.stop)
 (.br (k==0)
 (.grd (ab≠0)<|
 .grd (ab≠0)<|
 .ret ((IntKind.u64.wrap (aa.tdiv ab)),(aa.tmod ab)))
 (.cc (szr ab) fun ac=>let ad:=IntKind.u64.wrap ac;let ae:=min ad.toNat 64;let af:=IntKind.u64.wrap (ab * 2 ^ ae);let ag:=IntKind.u64.wrap (aa * 2 ^ ae);let ah:=IntKind.u64.wrap (64-ad);let ai:=af.fdiv (2 ^ (min (32:Int).toNat 64));let aj:=ag.fdiv (2 ^ (min (32:Int).toNat 64));
 .grd (0≤ad)<|
 .ok (0≤(32:Int)) (by decide)<|
 .name 10001 ((IntKind.u64.wrap (((BitVec.ofInt 64 af&&&BitVec.ofInt 64 4294967295).toNat:Int)))) fun ak=>
 .grd (0≤ad)<|
 .grd (0≤ah)<|
 .name 11007 ((IntKind.u64.wrap (((BitVec.ofInt 64 (IntKind.u64.wrap (k * 2 ^ ae))|||BitVec.ofInt 64 (aa.fdiv (2 ^ (min ah.toNat 64)))).toNat:Int)))) fun al=>
 .grd (0≤ad)<|
 .ok (0≤(32:Int)) (by decide)<|
 .name 14001 ((IntKind.u64.wrap (((BitVec.ofInt 64 ag&&&BitVec.ofInt 64 4294967295).toNat:Int)))) fun am=>
 .grd (ai≠0)<|
 .name 15002 ((IntKind.u64.wrap (al.tdiv ai))) fun an=>
 .name 16003 ((IntKind.u64.wrap (an * ai))) fun ao=>
 .loop (fun s (ap:B1)=>pk s [2,8,9,10,11,13,14] [] [(15,.pure (.int .u64 ap.1)),(16,.pure (.int .u64 ap.2))] [])
 (.exit 0) (fun s (ap:Int)=>pk s [2,8,9,10,11,13,14] [] [(15,.pure (.int .u64 ap))] [])
 (fun ap=>let aq:=IntKind.u64.wrap (ap.1-1);.cub 1 78 [2,8,9,10,11,13,14,15,16] []
 (.br (decide (ap.1≥4294967296))
 (.oo true)
 (.name 17009 ((IntKind.u64.wrap ((IntKind.u64.wrap (4294967296 * ap.2))+aj))) fun ar=>
 .oo (decide ((IntKind.u64.wrap (ap.1 * ak))>ar)))) fun ar=>
 .br ar
 (.name 19002 ((IntKind.u64.wrap (ap.2+ai))) fun au=>
 .br (decide (au≥4294967296))
 (.oo aq)
 (.nn (aq,au)))
 (.oo ap.1))
 (an,(IntKind.u64.wrap (al-ao))) [] fun ap=>
 .name 21003 ((IntKind.u64.wrap ((IntKind.u64.wrap (al * 4294967296))+aj))) fun aq=>
 .name 21007 ((IntKind.u64.wrap (aq- (IntKind.u64.wrap (ap * af))))) fun ar=>
 .grd (ai≠0)<|
 .name 22002 ((IntKind.u64.wrap (ar.tdiv ai))) fun au=>
 .name 23003 ((IntKind.u64.wrap (au * ai))) fun av=>
 .loop (fun s (aw:B1)=>pk s [2,8,9,10,14,15,17] [] [(16,.pure (.int .u64 aw.1)),(18,.pure (.int .u64 aw.2))] [])
 (.exit 2) (fun s (aw:Int)=>pk s [2,8,14,15,17] [] [(18,.pure (.int .u64 aw))] [])
 (fun aw=>let ax:=IntKind.u64.wrap (aw.2-1);.cub 1 113 [2,8,9,10,14,15,16,17,18] []
 (.br (decide (aw.2≥4294967296))
 (.oo true)
 (.oo (decide ((IntKind.u64.wrap (aw.2 * ak))>(IntKind.u64.wrap ((IntKind.u64.wrap (4294967296 * aw.1))+am)))))) fun ay=>
 .br ay
 (.name 26002 ((IntKind.u64.wrap (aw.1+ai))) fun az=>
 .br (decide (az≥4294967296))
 (.oo ax)
 (.nn (az,ax)))
 (.oo aw.2))
 ((IntKind.u64.wrap (ar-av)),au) [] fun aw=>
 .name 28011 ((IntKind.u64.wrap ((IntKind.u64.wrap ((IntKind.u64.wrap (ar * 4294967296))+am))- (IntKind.u64.wrap (aw * af))))) fun ax=>
 .grd (0≤ad)<|
 .ret ((IntKind.u64.wrap ((IntKind.u64.wrap (ap * 4294967296))+aw)),(ax.fdiv (2 ^ ae))))))
noncomputable def Jzn (k)(aa)(ab):=
 mkD Tryz.func262 (Jzo k aa ab) 0 [.pure (.int .u64 k),.pure (.int .u64 aa),.pure (.int .u64 ab)] [] (fun r=>.tup [.pure (.int .u64 r.1),.pure (.int .u64 r.2)]) (fun _=>[])
noncomputable def Qzi (k:Int)(aa:Int)(ab:Int)(ac:Int):T Int:=
 .cub 3 22 [0,1,3,6,8] [0,64]
 (.cc (Kzk ab ac) fun ad=>
 .br (!ad)
 (.oo true)
 (.oo (decide (k≥aa)))) fun ad=>
 .br ad
 (.ret ab)
 (.call (Jzr k (IntKind.u64.wrap (i64.wrap ((i64.wrap (ac-ab))+1)))) [] fun ae=>
 .cc (Jzn ae.1 ae.2 aa) fun af=>
 .ret (i64.wrap (ab+(i64.wrap af.1))))
noncomputable def Qzh (k)(aa)(ab)(ac):=
 mkC [⟨259,az98⟩] hd Tryz.func164 (by kernel_rfl) (Qzi k aa ab ac) 0 [.pure (.int .u64 k),.pure (.int .u64 aa),pz ab,pz ac] [] (fun r=>pz r) (fun _=>[]) (by kernel_rfl)
noncomputable def Mzz (k:Ae)(aa:Int):T A4:=
 .cc (Qzl k) fun ab=>
 .br (!ab)
 (.ret nl)
 (.loop (fun s (ac:Ah)=>pk s [1,4,13,14] [0] [(15,pz ac.2)] [(1,vO ac.1 2)])
 (.exit 0) (fun s (ac:A4)=>pk s [4] [0] [] [(1,vO ac 2)])
 (fun ac=>let ad:=k.getD ((ac.2).toNat) default;.br (decide (ac.2<(k.length:Int)))
 (.gh ac.2 k.length<|
 .cc (Qzj ac.2) fun ae=>
 .cc (Kzi ae aa) fun af=>
 .cc (Qzh af.1 af.2 (ad.Lo) (ad.Hi)) fun ag=>let ah:=([ag]:A4);let ai:=ac.1.length+ah.length;
 .conv 8008 (kL ah 2)<|
 .conv 8009 (kA ac.1 ah 2)<|
 .grd (ai * 8≤140737488355328/\ai≤maxLen)<|
 .nn ((ac.1++ah),(i64.wrap (ac.2+1))))
 (.oo ac.1))
 (nl,0) [] fun ac=>
 .ret ac)
noncomputable def Mzy (k)(aa):=
 mkC [⟨160,az90⟩] hd Tryz.func91 (by kernel_rfl) (Mzz k aa) 0 [q k,.pure (.int .u64 aa)] [] (fun r=>q r) (fun _=>[]) (by kernel_rfl)
noncomputable def szy (k:A4)(aa:A4):T Bool:=let ab:=(k.length:Nat);.br ((ab:Int) !=(aa.length:Int))
 (.ret false)
 (.loop (ik 13 [0,1,12] [])
 (.exit 0) (jk [] [])
 (fun ac=>.br (decide (ac<(ab:Int)))
 (.gh ac k.length<|
 .gh ac aa.length<|
 .br ((k.getD (ac.toNat) default) !=(aa.getD (ac.toNat) default))
 (.ff false)
 (.nn (i64.wrap (ac+1))))
 (.oo .u))
 0 [] fun _=>
 .ret true)
noncomputable def fza:=
 mkp2 Tryz.func92 szy
noncomputable def szx (a0:A4):T A4:=
 (match a0 with
  |[]=>.unroll 1<|
  .grd (a0.length=0)<|
  .both
   (.ret nl)
   (.conv 3000 (kL ([]:A4) 2)<|
   .conv 3002 (kA ([]:A4) a0 2)<|
   .grd ((([]:A4).length+a0.length) * 8≤140737488355328/\(([]:A4).length+a0.length)≤maxLen)<|
   .ret (([]:A4)++a0))
  |_::_=>.grd (0<a0.length)<|
  .conv 3000 (kL ([]:A4) 2)<|
  .conv 3002 (kA ([]:A4) a0 2)<|
  .grd ((([]:A4).length+a0.length) * 8≤140737488355328/\(([]:A4).length+a0.length)≤maxLen)<|
  .ret (([]:A4)++a0))
noncomputable def bzp (a0:A4):CallS A4:=
 mkH [] hd Tryz.func176 (by kernel_rfl) (szx a0) 0 [q a0] [] (fun r=>q r) (fun _=>[]) (by cases a0<;>exact Ob.of_side (by kernel_rfl))
noncomputable def Iz0 (k:azn)(aa:A5):T A5:=
 .loop (fun s (ab:(A5×(List Ck)×Int))=>pk s [2,5,6,11,12] [0] [(13,pz ab.2.2)] [(128,vO ab.1 30),(192,Azz [.int .i64 0,.int .i64 0,.int .i64 0,.int .i64 0,.int .i64 0,.int .i64 0,.int .i64 0,.int .i64 0,.int .i64 0,.int .i64 0] cz9 ab.2.1)])
 (.exit 0) (fun s (ab:A5)=>pk s [5] [] [] [(128,vO ab 30)])
 (fun ab=>let ac:=aa.getD ((ab.2.2).toNat) default;let ad:=cz9 ((if 0<ac.length then ac.getD 0 default else 0),(if 1<ac.length then ac.getD 1 default else 0),(if 2<ac.length then ac.getD 2 default else 0),(if 3<ac.length then ac.getD 3 default else 0),(if 4<ac.length then ac.getD 4 default else 0),(if 5<ac.length then ac.getD 5 default else 0),(if 6<ac.length then ac.getD 6 default else 0),(if 7<ac.length then ac.getD 7 default else 0),(if 8<ac.length then ac.getD 8 default else 0),(if 9<ac.length then ac.getD 9 default else 0));let ae:=Gzw cz9 ab.2.1 ad;.br (decide (ab.2.2<(aa.length:Int)))
 (.cut 0 (fun s (af:(A5×(List Ck)))=>pk s [2,5,6,11,12,13] [0] [] [(128,vO af.1 30),(192,Azz [.int .i64 0,.int .i64 0,.int .i64 0,.int .i64 0,.int .i64 0,.int .i64 0,.int .i64 0,.int .i64 0,.int .i64 0,.int .i64 0] cz9 af.2)])
 (.gh ab.2.2 aa.length<|
 .br ((ab.1.length:Int)==1024)
 (.ff (.out ab.1))
 (.cc (bzk (⟨k.Joints,k.Masses⟩:azn) ac) fun af=>
 .br (!af)
 (.oo (ab.1,ab.2.1))
 (.ok ((mdom cz9 ab.2.1 ad)=false->PSub (.bool false) (PVal.bool ae)) az2v<|
 .br (!ae)
 (.conv 11002 (az5i [.int .i64 0,.int .i64 0,.int .i64 0,.int .i64 0,.int .i64 0,.int .i64 0,.int .i64 0,.int .i64 0,.int .i64 0,.int .i64 0] cz9 ab.2.1 ((if 0<ac.length then ac.getD 0 default else 0),(if 1<ac.length then ac.getD 1 default else 0),(if 2<ac.length then ac.getD 2 default else 0),(if 3<ac.length then ac.getD 3 default else 0),(if 4<ac.length then ac.getD 4 default else 0),(if 5<ac.length then ac.getD 5 default else 0),(if 6<ac.length then ac.getD 6 default else 0),(if 7<ac.length then ac.getD 7 default else 0),(if 8<ac.length then ac.getD 8 default else 0),(if 9<ac.length then ac.getD 9 default else 0)) true)<|
 .cc (bzp ac) fun ag=>let ah:=([ag]:A5);let ai:=ab.1.length+ah.length;
 .conv 12003 (kL ah 30)<|
 .conv 12004 (kA ab.1 ah 30)<|
 .grd (ai * 24≤140737488355328/\ai≤maxLen)<|
 .oo ((ab.1++ah),((((if 0<ac.length then ac.getD 0 default else 0),(if 1<ac.length then ac.getD 1 default else 0),(if 2<ac.length then ac.getD 2 default else 0),(if 3<ac.length then ac.getD 3 default else 0),(if 4<ac.length then ac.getD 4 default else 0),(if 5<ac.length then ac.getD 5 default else 0),(if 6<ac.length then ac.getD 6 default else 0),(if 7<ac.length then ac.getD 7 default else 0),(if 8<ac.length then ac.getD 8 default else 0),(if 9<ac.length then ac.getD 9 default else 0)),true)::ab.2.1)))
 (.oo (ab.1,ab.2.1))))) fun af=>
 .nn (af.1,af.2,(i64.wrap (ab.2.2+1))))
 (.oo ab.1))
 (nl,(nl:List Ck),0) [] fun ab=>
 .ret ab
noncomputable def Hzz:=
 mkp2 Tryz.func170 Iz0
noncomputable def Mzm (k:A4):T Bool:=
 .loop (ik 7 [5,6] [])
 (.exit 0) (jk [] [])
 (fun aa=>let ab:=k.getD (aa.toNat) default;.br (decide (aa<(k.length:Int)))
 (.gh aa k.length<|
 .cub 0 16 [5,6,7] []
 (.br (decide (ab<(-2147483648)))
 (.oo true)
 (.oo (decide (ab>2147483648)))) fun ac=>
 .br ac
 (.ff false)
 (.nn (i64.wrap (aa+1))))
 (.oo .u))
 0 [] fun _=>
 .ret true
noncomputable def zza:=
 mkp1 Tryz.func443 Mzm
noncomputable def zzp (k:A5):T Bool:=let aa:=(k.length:Nat);.br (decide ((aa:Int)>1024))
 (.ret false)
 (.loop (ik 10 [0,8,9] [])
 (.exit 0) (jk [] [])
 (fun ab=>let ac:=k.getD (ab.toNat) default;let ad:=(ac.length:Int);.br (decide (ab<(aa:Int)))
 (.gh ab k.length<|
 .cub 0 35 [0,8,9,10] []
 (.br (decide (ad<1))
 (.oo true)
 (.br (decide (ad>10))
 (.oo true)
 (.gh (0:Int) k.length<|
 .br (ad !=(((k.getD ((0:Int).toNat) default).length:Nat):Int))
 (.oo true)
 (.cc (zza ac) fun ae=>
 .oo (!ae))))) fun ae=>
 .br ae
 (.ff false)
 (.nn (i64.wrap (ab+1))))
 (.oo .u))
 0 [] fun _=>
 .ret true)
noncomputable def mzk:=
 mkp1 Tryz.func363 zzp
noncomputable def Pz0 (k:Int):T Int:=
 .cc (gz6 k) fun aa=>
 .ret aa
noncomputable def rzj (k):=
 mkD Tryz.func381 (Pz0 k) 0 [.pure (.int .u64 k)] [] (fun r=>pz r) (fun _=>[])
noncomputable def Jz0 (k:Int):T Bool:=
 .ret (k !=k)
noncomputable def vzn:=
 mkp1 Tryz.func446 Jz0
noncomputable def Ezq (k:Int)(aa:Int):T Int:=
 .cc (vzn k) fun ab=>
 .cc (vzn aa) fun ac=>
 .br ab
 (.br ac
 (.ret 0)
 (.ret (-1)))
 (.br ac
 (.ret 1)
 (.br (decide (k<aa))
 (.ret (-1))
 (.br (decide (k>aa))
 (.ret 1)
 (.ret 0))))
noncomputable def rz6:=
 mkp2 Tryz.func372 Ezq
noncomputable def Oz0 (k:Int):T Bool:=
 .ret (k !=k)
noncomputable def Az0:=
 mkp1 Tryz.func447 Oz0
noncomputable def Izz (k:Int)(aa:Int):T Int:=
 .cc (Az0 k) fun ab=>
 .cc (Az0 aa) fun ac=>
 .br ab
 (.br ac
 (.ret 0)
 (.ret (-1)))
 (.br ac
 (.ret 1)
 (.br (decide (k<aa))
 (.ret (-1))
 (.br (decide (k>aa))
 (.ret 1)
 (.ret 0))))
noncomputable def ezx:=
 mkp2 Tryz.func373 Izz
noncomputable def Xzf (k:A4):T Int:=
 .loop (ik 8 [3,6,7] [])
 (.exit 0) (jk [3] [])
 (fun aa=>let ab:=k.getD (aa.toNat) default;.br (decide (aa<(k.length:Int)))
 (.gh aa k.length<|
 .br (ab !=0)
 (.ff ab)
 (.nn (i64.wrap (aa+1))))
 (.oo .u))
 0 [] fun _=>
 .ret 0
noncomputable def zzz:=
 mkp1 Tryz.func371 Xzf
noncomputable def Mzl (k:A5)(aa:Int)(ab:Int)(ac:Int):T Int:=let ad:=k.getD (ab.toNat) default;let ae:=k.getD (ac.toNat) default;.gh ab k.length<|
 .gh aa (ad.length)<|
 .gh ac k.length<|
 .gh aa (ae.length)<|
 .cc (rz6 (ad.getD (aa.toNat) default) (ae.getD (aa.toNat) default)) fun af=>
 .cc (ezx ab ac) fun ag=>let ah:=([af,ag]:A4);
 .conv 1018 (kL ah 3)<|
 .cc (zzz ah) fun ai=>
 .ret ai
noncomputable def zz9:=
 mkp4 Tryz.func367 Mzl
noncomputable def Dz8 (k:Int)(aa:Int)(ab:A5)(ac:Int):T (Int×A5×Int):=
 .cc (zz9 ab ac k aa) fun ad=>
 .ret (ad,ab,ac)
noncomputable def bz0 (k)(aa)(ab)(ac):=
 mkD Tryz.func366 (Dz8 k aa ab ac) 2 [pz k,pz aa,.ptr 0 0,.ptr 1 0] [(0,.box [q ab]),(1,.box [pz ac])] (fun r=>pz r.1) (fun r=>[(0,.box [q r.2.1]),(1,.box [pz r.2.2])])
noncomputable def mz6 (k:A4)(aa:Nat)(ab:Nat)(ac:Int)(ad:Int)(ae:A5)(af:Int):T Bb:=
 .loop (fun s (ag:Bz)=>pk s [0,1,2,3] [] [(8,pz ag.2.2.2)] [(0,vO ag.2.2.1 3),(1,.box [q ag.1]),(2,.box [pz ag.2.1])])
 (.exit 0) (fun s (ag:Bc)=>pk s [] [] [] [(0,vO ag.2.2 3),(1,.box [q ag.1]),(2,.box [pz ag.2.1])])
 (fun ag=>.br (decide (ag.2.2.2<ad))
 (.loop (fun s (ah:Bz)=>pk s [0,1,2,3,8] [] [(9,pz ah.2.2.2)] [(0,vO ah.2.2.1 3),(1,.box [q ah.1]),(2,.box [pz ah.2.1])])
 (.exit 2) (fun s (ah:Bc)=>pk s [0,1,2,3,8] [] [] [(0,vO ah.2.2 3),(1,.box [q ah.1]),(2,.box [pz ah.2.1])])
 (fun ah=>let ai:=aa+((ah.2.2.2).toNat);let aj:=i64.wrap (ah.2.2.2-1);let ak:=aa+(aj.toNat);let al:=ah.2.2.1.getD ai default;let am:=ah.2.2.1.getD ak default;let an:=ah.2.2.1.set ai am;.cut 1 (fun s (ao:Bt)=>pk s [0,1,2,3,8,9] [0] [(34,q ao.2.2)] [(1,.box [q ao.1]),(2,.box [pz ao.2.1])])
 (.br (decide (ah.2.2.2>ac))
 (.gh ah.2.2.2 ab<|
 .grd (ai<ah.2.2.1.length)<|
 .gh aj ab<|
 .grd (ak<ah.2.2.1.length)<|
 .call (bz0 al am ah.1 ah.2.1) [(0,1),(1,2)] fun ao=>
 .oo (ao.2.1,ao.2.2,(decide (ao.1<0))))
 (.oo (ah.1,ah.2.1,false))) fun ao=>
 .br ao.2.2
 (.gh aj ab<|
 .grd (ak<ah.2.2.1.length)<|
 .gh ah.2.2.2 ab<|
 .grd (ai<ah.2.2.1.length)<|
 .gh ah.2.2.2 ab<|
 .conv 6015 (kS ah.2.2.1 3 ai am)<|
 .grd (ai<ah.2.2.1.length/\0≤ai)<|
 .gh aj ab<|
 .conv 6017 (kS an 3 ak al)<|
 .grd (ak<an.length/\0≤ak)<|
 .nn (ao.1,ao.2.1,(an.set ak al),aj))
 (.oo (ao.1,ao.2.1,ah.2.2.1)))
 (ag.1,ag.2.1,ag.2.2.1,ag.2.2.2) [] fun ah=>
 .nn (ah.1,ah.2.1,ah.2.2,(i64.wrap (ag.2.2.2+1))))
 (.oo (ag.1,ag.2.1,ag.2.2.1)))
 (ae,af,k,(i64.wrap (ac+1))) [] fun ag=>
 .ret (ag.2.2,ag.1,ag.2.1)
noncomputable def mz5 (k)(aa)(ab)(ac)(ad)(ae)(af):=
 mkD Tryz.func492 (mz6 k aa ab ac ad ae af) 3 [.view 0 1 aa ab,pz ac,pz ad,.func 366 [] [.ptr 1 0,.ptr 2 0]] [(0,vO k 3),(1,.box [q ae]),(2,.box [pz af])] (fun _=>.tup []) (fun r=>[(0,vO r.1 3),(1,.box [q r.2.1]),(2,.box [pz r.2.2])])
noncomputable def qzo (k:A4)(aa:Nat)(ab:Nat)(ac:Int)(ad:Int)(ae:Int)(af:A5)(ag:Int):T Bb:=
 .loop (fun s (ah:Bz)=>pk s [0,2,3,4] [] [(10,pz ah.2.2.2)] [(0,vO ah.2.2.1 3),(1,.box [q ah.1]),(2,.box [pz ah.2.1])])
 (.exit 0) (fun s (ah:Bc)=>pk s [] [] [] [(0,vO ah.2.2 3),(1,.box [q ah.1]),(2,.box [pz ah.2.1])])
 (fun ah=>let ai:=i64.wrap ((i64.wrap (2 * ah.2.2.2))+1);let aj:=i64.wrap (ae+ai);let ak:=aa+(aj.toNat);let al:=i64.wrap (aj+1);let am:=aa+(al.toNat);let an:=i64.wrap (ae+ah.2.2.2);let ao:=aa+(an.toNat);let ap:=ah.2.2.1.getD ao default;let aq:=i64.wrap (ai+1);.br (decide (ai≥ad))
 (.oo (ah.1,ah.2.1,ah.2.2.1))
 (.cut 0 (fun s (ar:Bg)=>pk s [0,2,3,4,10] [0] [(11,pz ar.2.2)] [(1,.box [q ar.1]),(2,.box [pz ar.2.1])])
 (.cut 0 (fun s (ar:Bt)=>pk s [0,2,3,4,10,11] [0] [(40,q ar.2.2)] [(1,.box [q ar.1]),(2,.box [pz ar.2.1])])
 (.br (decide (aq<ad))
 (.gh aj ab<|
 .grd (ak<ah.2.2.1.length)<|
 .name 3011 ((ah.2.2.1.getD ak default)) fun ar=>
 .gh al ab<|
 .grd (am<ah.2.2.1.length)<|
 .name 3018 ((ah.2.2.1.getD am default)) fun au=>
 .call (bz0 ar au ah.1 ah.2.1) [(0,1),(1,2)] fun av=>
 .oo (av.2.1,av.2.2,(decide (av.1<0))))
 (.oo (ah.1,ah.2.1,false))) fun ar=>
 .br ar.2.2
 (.oo (ar.1,ar.2.1,aq))
 (.oo (ar.1,ar.2.1,ai))) fun ar=>let au:=i64.wrap (ae+ar.2.2);let av:=aa+(au.toNat);let aw:=ah.2.2.1.getD av default;let ax:=ah.2.2.1.set ao aw;
 .gh an ab<|
 .grd (ao<ah.2.2.1.length)<|
 .gh au ab<|
 .grd (av<ah.2.2.1.length)<|
 .call (bz0 ap aw ar.1 ar.2.1) [(0,1),(1,2)] fun ay=>
 .br (!(decide (ay.1<0)))
 (.ff (ah.2.2.1,ay.2.1,ay.2.2))
 (.gh au ab<|
 .grd (av<ah.2.2.1.length)<|
 .gh an ab<|
 .grd (ao<ah.2.2.1.length)<|
 .gh an ab<|
 .conv 6021 (kS ah.2.2.1 3 ao aw)<|
 .grd (ao<ah.2.2.1.length/\0≤ao)<|
 .gh au ab<|
 .conv 6023 (kS ax 3 av ap)<|
 .grd (av<ax.length/\0≤av)<|
 .nn (ay.2.1,ay.2.2,(ax.set av ap),ar.2.2))))
 (af,ag,k,ac) [] fun ah=>
 .ret (ah.2.2,ah.1,ah.2.1)
noncomputable def hzq (k)(aa)(ab)(ac)(ad)(ae)(af)(ag):=
 mkD Tryz.func521 (qzo k aa ab ac ad ae af ag) 3 [.view 0 1 aa ab,pz ac,pz ad,pz ae,.func 366 [] [.ptr 1 0,.ptr 2 0]] [(0,vO k 3),(1,.box [q af]),(2,.box [pz ag])] (fun _=>.tup []) (fun r=>[(0,vO r.1 3),(1,.box [q r.2.1]),(2,.box [pz r.2.2])])
noncomputable def qzl (k:A4)(aa:Nat)(ab:Nat)(ac:Int)(ad:Int)(ae:A5)(af:Int):T Bb:=let ag:=aa+(ac.toNat);let ah:=i64.wrap (ad-ac);let ai:=i64.wrap (ah-1);.ok ((2:Int)≠0) (by decide)<|
 .loop (fun s (aj:Bz)=>pk s [0,3,8,9,10] [] [(11,pz aj.2.2.2)] [(0,vO aj.2.2.1 3),(1,.box [q aj.1]),(2,.box [pz aj.2.1])])
 (.exit 0) (fun s (aj:Bc)=>pk s [0,3,8,9,10] [] [] [(0,vO aj.2.2 3),(1,.box [q aj.1]),(2,.box [pz aj.2.1])])
 (fun aj=>.br (decide (aj.2.2.2≥0))
 (.call (hzq aj.2.2.1 aa ab aj.2.2.2 ah ac aj.1 aj.2.1) [(0,0),(1,1),(2,2)] fun ak=>
 .nn (ak.2.1,ak.2.2,ak.1,(i64.wrap (aj.2.2.2-1))))
 (.oo (aj.1,aj.2.1,aj.2.2.1)))
 (ae,af,k,(i64.wrap (ai.tdiv 2))) [] fun aj=>
 .loop (fun s (ak:Bz)=>pk s [0,3,8,9] [] [(12,pz ak.2.2.2)] [(0,vO ak.2.2.1 3),(1,.box [q ak.1]),(2,.box [pz ak.2.1])])
 (.exit 2) (fun s (ak:Bc)=>pk s [] [] [] [(0,vO ak.2.2 3),(1,.box [q ak.1]),(2,.box [pz ak.2.1])])
 (fun ak=>let al:=i64.wrap (ac+ak.2.2.2);let am:=aa+(al.toNat);let an:=ak.2.2.1.getD am default;let ao:=ak.2.2.1.set ag an;let ap:=ak.2.2.1.getD ag default;.br (decide (ak.2.2.2≥0))
 (.gh al ab<|
 .grd (am<ak.2.2.1.length)<|
 .gh ac ab<|
 .grd (ag<ak.2.2.1.length)<|
 .gh ac ab<|
 .conv 10017 (kS ak.2.2.1 3 ag an)<|
 .grd (ag<ak.2.2.1.length/\0≤ag)<|
 .gh al ab<|
 .conv 10019 (kS ao 3 am ap)<|
 .grd (am<ao.length/\0≤am)<|
 .call (hzq (ao.set am ap) aa ab 0 ak.2.2.2 ac ak.1 ak.2.1) [(0,0),(1,1),(2,2)] fun aq=>
 .nn (aq.2.1,aq.2.2,aq.1,(i64.wrap (ak.2.2.2-1))))
 (.oo (ak.1,ak.2.1,ak.2.2.1)))
 (aj.1,aj.2.1,aj.2.2,ai) [] fun ak=>
 .ret (ak.2.2,ak.1,ak.2.1)
noncomputable def qzk (k)(aa)(ab)(ac)(ad)(ae)(af):=
 mkD Tryz.func493 (qzl k aa ab ac ad ae af) 3 [.view 0 1 aa ab,pz ac,pz ad,.func 366 [] [.ptr 1 0,.ptr 2 0]] [(0,vO k 3),(1,.box [q ae]),(2,.box [pz af])] (fun _=>.tup []) (fun r=>[(0,vO r.1 3),(1,.box [q r.2.1]),(2,.box [pz r.2.2])])
noncomputable def tz0 (k:A4)(aa:Nat)(ab:Nat)(ac:Int)(ad:Int)(ae:Int)(af:A5)(ag:Int):T (Int×Int×Int×A5×Int):=let ah:=aa+(ad.toNat);let ai:=aa+(ac.toNat);.gh ad ab<|
 .grd (ah<k.length)<|
 .gh ac ab<|
 .grd (ai<k.length)<|
 .call (bz0 (k.getD ah default) (k.getD ai default) af ag) [(0,2),(1,3)] fun aj=>
 .br (decide (aj.1<0))
 (.ret (ad,ac,(i64.wrap (ae+1)),aj.2.1,aj.2.2))
 (.ret (ac,ad,ae,aj.2.1,aj.2.2))
noncomputable def fzb (k)(aa)(ab)(ac)(ad)(ae)(af)(ag):=
 mkD Tryz.func531 (tz0 k aa ab ac ad ae af ag) 4 [.view 0 1 aa ab,pz ac,pz ad,.ptr 1 0,.func 366 [] [.ptr 2 0,.ptr 3 0]] [(0,vO k 3),(1,.box [pz ae]),(2,.box [q af]),(3,.box [pz ag])] (fun r=>.tup [pz r.1,pz r.2.1]) (fun r=>[(0,vO k 3),(1,.box [pz r.2.2.1]),(2,.box [q r.2.2.2.1]),(3,.box [pz r.2.2.2.2])])
noncomputable def szz (k:A4)(aa:Nat)(ab:Nat)(ac:Int)(ad:Int)(ae:Int)(af:Int)(ag:A5)(ah:Int):T C2:=
 .call (fzb k aa ab ac ad af ag ah) [(0,0),(1,1),(2,2),(3,3)] fun ai=>
 .call (fzb k aa ab ai.2.1 ae ai.2.2.1 ai.2.2.2.1 ai.2.2.2.2) [(0,0),(1,1),(2,2),(3,3)] fun aj=>
 .call (fzb k aa ab ai.1 aj.1 aj.2.2.1 aj.2.2.2.1 aj.2.2.2.2) [(0,0),(1,1),(2,2),(3,3)] fun ak=>
 .ret (ak.2.1,ak.2.2.1,ak.2.2.2.1,ak.2.2.2.2)
noncomputable def izy (k)(aa)(ab)(ac)(ad)(ae)(af)(ag)(ah):=
 mkD Tryz.func523 (szz k aa ab ac ad ae af ag ah) 4 [.view 0 1 aa ab,pz ac,pz ad,pz ae,.ptr 1 0,.func 366 [] [.ptr 2 0,.ptr 3 0]] [(0,vO k 3),(1,.box [pz af]),(2,.box [q ag]),(3,.box [pz ah])] (fun r=>pz r.1) (fun r=>[(0,vO k 3),(1,.box [pz r.2.1]),(2,.box [q r.2.2.1]),(3,.box [pz r.2.2.2])])
noncomputable def kzl (k:A4)(aa:Nat)(ab:Nat)(ac:Int)(ad:Int)(ae:A5)(af:Int):T C2:=
 .call (izy k aa ab (i64.wrap (ac-1)) ac (i64.wrap (ac+1)) ad ae af) [(0,0),(1,1),(2,2),(3,3)] fun ag=>
 .ret (ag.1,ag.2.1,ag.2.2.1,ag.2.2.2)
noncomputable def dz8 (k)(aa)(ab)(ac)(ad)(ae)(af):=
 mkD Tryz.func522 (kzl k aa ab ac ad ae af) 4 [.view 0 1 aa ab,pz ac,.ptr 1 0,.func 366 [] [.ptr 2 0,.ptr 3 0]] [(0,vO k 3),(1,.box [pz ad]),(2,.box [q ae]),(3,.box [pz af])] (fun r=>pz r.1) (fun r=>[(0,vO k 3),(1,.box [pz r.2.1]),(2,.box [q r.2.2.1]),(3,.box [pz r.2.2.2])])
noncomputable def nzb (k:A4)(aa:Nat)(ab:Nat)(ac:Int)(ad:Int)(ae:A5)(af:Int):T C2:=let ag:=i64.wrap (ad-ac);let ah:=i64.wrap (ag.tdiv 4);let ai:=i64.wrap (ac+(i64.wrap (ah * 2)));let aj:=i64.wrap (ac+(i64.wrap (ah * 1)));let ak:=i64.wrap (ac+(i64.wrap (ah * 3)));.ok ((4:Int)≠0) (by decide)<|
 .ok ((4:Int)≠0) (by decide)<|
 .ok ((4:Int)≠0) (by decide)<|
 .cut 0 (fun s (al:(A5×Int×Int×Int))=>pk s [11] [0] [(13,pz al.2.2.2)] [(1,.box [q al.1]),(2,.box [pz al.2.1]),(387,.box [pz al.2.2.1])])
 (.br (decide (ag≥8))
 (.cut 0 (fun s (al:(A5×Int×Int×Int×Int×Int))=>pk s [0,3,11] [0] [(12,pz al.2.2.2.1),(13,pz al.2.2.2.2.1),(14,pz al.2.2.2.2.2)] [(1,.box [q al.1]),(2,.box [pz al.2.1]),(387,.box [pz al.2.2.1])])
 (.br (decide (ag≥50))
 (.call (dz8 k aa ab aj 0 ae af) [(0,0),(1,387),(2,1),(3,2)] fun al=>
 .call (dz8 k aa ab ai al.2.1 al.2.2.1 al.2.2.2) [(0,0),(1,387),(2,1),(3,2)] fun am=>
 .call (dz8 k aa ab ak am.2.1 am.2.2.1 am.2.2.2) [(0,0),(1,387),(2,1),(3,2)] fun an=>
 .oo (an.2.2.1,an.2.2.2,an.2.1,al.1,am.1,an.1))
 (.oo (ae,af,0,aj,ai,ak))) fun al=>
 .call (izy k aa ab al.2.2.2.1 al.2.2.2.2.1 al.2.2.2.2.2 al.2.2.1 al.1 al.2.1) [(0,0),(1,387),(2,1),(3,2)] fun am=>
 .oo (am.2.2.1,am.2.2.2,am.2.1,am.1))
 (.oo (ae,af,0,ai))) fun al=>
 .br (al.2.2.1==0)
 (.ret (al.2.2.2,1,al.1,al.2.1))
 (.br (al.2.2.1==12)
 (.ret (al.2.2.2,2,al.1,al.2.1))
 (.ret (al.2.2.2,0,al.1,al.2.1)))
noncomputable def nza (k)(aa)(ab)(ac)(ad)(ae)(af):=
 mkD Tryz.func495 (nzb k aa ab ac ad ae af) 3 [.view 0 1 aa ab,pz ac,pz ad,.func 366 [] [.ptr 1 0,.ptr 2 0]] [(0,vO k 3),(1,.box [q ae]),(2,.box [pz af])] (fun r=>.tup [pz r.1,pz r.2.1]) (fun r=>[(0,vO k 3),(1,.box [q r.2.2.1]),(2,.box [pz r.2.2.2])])
noncomputable def mzj (k:A4)(aa:Nat)(ab:Nat)(ac:Int)(ad:Int)(ae:A5)(af:Int):T Bb:=
 .loop (fun s (ag:Bf)=>pk s [0] [1,2] [(8,pz ag.2.1),(9,pz ag.2.2)] [(0,vO ag.1 3)])
 (.exit 0) (fun s (ag:A4)=>pk s [] [1,2] [] [(0,vO ag 3)])
 (fun ag=>let ah:=aa+((ag.2.2).toNat);let ai:=aa+((ag.2.1).toNat);let aj:=ag.1.getD ah default;let ak:=ag.1.set ai aj;let al:=ag.1.getD ai default;.br (decide (ag.2.1<ag.2.2))
 (.gh ag.2.2 ab<|
 .grd (ah<ag.1.length)<|
 .gh ag.2.1 ab<|
 .grd (ai<ag.1.length)<|
 .gh ag.2.1 ab<|
 .conv 3013 (kS ag.1 3 ai aj)<|
 .grd (ai<ag.1.length/\0≤ai)<|
 .gh ag.2.2 ab<|
 .conv 3015 (kS ak 3 ah al)<|
 .grd (ah<ak.length/\0≤ah)<|
 .nn ((ak.set ah al),(i64.wrap (ag.2.1+1)),(i64.wrap (ag.2.2-1))))
 (.oo ag.1))
 (k,ac,(i64.wrap (ad-1))) [] fun ag=>
 .ret (ag,ae,af)
noncomputable def mzi (k)(aa)(ab)(ac)(ad)(ae)(af):=
 mkD Tryz.func496 (mzj k aa ab ac ad ae af) 3 [.view 0 1 aa ab,pz ac,pz ad,.func 366 [] [.ptr 1 0,.ptr 2 0]] [(0,vO k 3),(1,.box [q ae]),(2,.box [pz af])] (fun _=>.tup []) (fun r=>[(0,vO r.1 3),(1,.box [q r.2.1]),(2,.box [pz r.2.2])])
noncomputable def iz0 (k:A4)(aa:Nat)(ab:Nat)(ac:Int)(ad:Int)(ae:A5)(af:Int):T (Bool×A4×A5×Int):=
 .loop (fun s (ag:C6)=>pk s [0,1,2,3] [] [(9,pz ag.2.2.2.1),(10,pz ag.2.2.2.2)] [(0,vO ag.2.2.1 3),(1,.box [q ag.1]),(2,.box [pz ag.2.1])])
 (.exit 0) (fun s (ag:Bc)=>pk s [] [] [] [(0,vO ag.2.2 3),(1,.box [q ag.1]),(2,.box [pz ag.2.1])])
 (fun ag=>.br (decide (ag.2.2.2.2<5))
 (.cut 0 (fun s (ah:Bz)=>pk s [0,1,2,3,10] [] [(9,pz ah.2.2.2)] [(0,vO ah.2.2.1 3),(1,.box [q ah.1]),(2,.box [pz ah.2.1])])
 (.loop (fun s (ah:Bg)=>pk s [0,1,2,3,10] [0] [(9,pz ah.2.2)] [(1,.box [q ah.1]),(2,.box [pz ah.2.1])])
 (.exit 2) (fun s (ah:Bg)=>pk s [0,1,2,3,10] [0] [(9,pz ah.2.2)] [(1,.box [q ah.1]),(2,.box [pz ah.2.1])])
 (fun ah=>let ai:=(ah.2.2).toNat;let aj:=i64.wrap (ah.2.2-1);let ak:=aa+(aj.toNat);.cut 1 (fun s (al:Bt)=>pk s [0,1,2,3,9,10] [0] [(36,q al.2.2)] [(1,.box [q al.1]),(2,.box [pz al.2.1])])
 (.br (decide (ah.2.2<ad))
 (.gh ah.2.2 ab<|
 .grd ((aa+ai)<ag.2.2.1.length)<|
 .gh aj ab<|
 .grd (ak<ag.2.2.1.length)<|
 .call (bz0 (ag.2.2.1.getD (aa+ai) default) (ag.2.2.1.getD ak default) ah.1 ah.2.1) [(0,1),(1,2)] fun al=>
 .oo (al.2.1,al.2.2,(!(decide (al.1<0)))))
 (.oo (ah.1,ah.2.1,false))) fun al=>
 .br al.2.2
 (.nn (al.1,al.2.1,(i64.wrap (ah.2.2+1))))
 (.oo (al.1,al.2.1,ah.2.2)))
 (ag.1,ag.2.1,ag.2.2.2.1) [] fun ah=>let ai:=aa+((ah.2.2).toNat);let aj:=i64.wrap (ah.2.2-1);let ak:=aa+(aj.toNat);let al:=ag.2.2.1.getD ak default;let am:=ag.2.2.1.set ai al;let an:=ag.2.2.1.getD ai default;let ao:=am.set ak an;
 .br (ah.2.2==ad)
 (.ff (.fin (true,ag.2.2.1,ah.1,ah.2.1)))
 (.br (decide ((i64.wrap (ad-ac))<50))
 (.ff (.fin (false,ag.2.2.1,ah.1,ah.2.1)))
 (.gh aj ab<|
 .grd (ak<ag.2.2.1.length)<|
 .gh ah.2.2 ab<|
 .grd (ai<ag.2.2.1.length)<|
 .gh ah.2.2 ab<|
 .conv 11015 (kS ag.2.2.1 3 ai al)<|
 .grd (ai<ag.2.2.1.length/\0≤ai)<|
 .gh aj ab<|
 .conv 11017 (kS am 3 ak an)<|
 .grd (ak<am.length/\0≤ak)<|
 .cut 0 (fun s (ap:Bc)=>pk s [0,1,2,3,9,10] [] [] [(0,vO ap.2.2 3),(1,.box [q ap.1]),(2,.box [pz ap.2.1])])
 (.br (decide ((i64.wrap (ah.2.2-ac))≥2))
 (.loop (fun s (ap:Bz)=>pk s [0,1,2,3,9,10] [] [(11,pz ap.2.2.2)] [(0,vO ap.2.2.1 3),(1,.box [q ap.1]),(2,.box [pz ap.2.1])])
 (.exit 4) (fun s (ap:Bc)=>pk s [0,1,2,3,9,10] [] [] [(0,vO ap.2.2 3),(1,.box [q ap.1]),(2,.box [pz ap.2.1])])
 (fun ap=>let aq:=aa+((ap.2.2.2).toNat);let ar:=i64.wrap (ap.2.2.2-1);let au:=aa+(ar.toNat);let av:=ap.2.2.1.getD aq default;let aw:=ap.2.2.1.getD au default;.br (decide (ap.2.2.2≥1))
 (.gh ap.2.2.2 ab<|
 .grd (aq<ap.2.2.1.length)<|
 .name 16004 (av) fun ax=>
 .gh ar ab<|
 .grd (au<ap.2.2.1.length)<|
 .name 16009 (aw) fun ay=>
 .call (bz0 ax ay ap.1 ap.2.1) [(0,1),(1,2)] fun az=>
 .br (!(decide (az.1<0)))
 (.oo (az.2.1,az.2.2,ap.2.2.1))
 (.gh ar ab<|
 .grd (au<ap.2.2.1.length)<|
 .name 17009 (aw) fun a0=>let a1:=ap.2.2.1.set aq a0;
 .gh ap.2.2.2 ab<|
 .grd (aq<ap.2.2.1.length)<|
 .name 17013 (av) fun a2=>
 .gh ap.2.2.2 ab<|
 .conv 17015 (kS ap.2.2.1 3 aq a0)<|
 .grd (aq<ap.2.2.1.length/\0≤aq)<|
 .gh ar ab<|
 .conv 17017 (kS a1 3 au a2)<|
 .grd (au<a1.length/\0≤au)<|
 .nn (az.2.1,az.2.2,(a1.set au a2),ar)))
 (.oo (ap.1,ap.2.1,ap.2.2.1)))
 (ah.1,ah.2.1,ao,aj) [] fun ap=>
 .oo (ap.1,ap.2.1,ap.2.2))
 (.oo (ah.1,ah.2.1,ao))) fun ap=>
 .br (decide ((i64.wrap (ad-ah.2.2))≥2))
 (.loop (fun s (aq:Bz)=>pk s [0,1,2,3,9,10] [] [(12,pz aq.2.2.2)] [(0,vO aq.2.2.1 3),(1,.box [q aq.1]),(2,.box [pz aq.2.1])])
 (.exit 6) (fun s (aq:Bc)=>pk s [0,1,2,3,9,10] [] [] [(0,vO aq.2.2 3),(1,.box [q aq.1]),(2,.box [pz aq.2.1])])
 (fun aq=>let ar:=aa+((aq.2.2.2).toNat);let au:=i64.wrap (aq.2.2.2-1);let av:=aa+(au.toNat);let aw:=aq.2.2.1.getD ar default;let ax:=aq.2.2.1.getD av default;let ay:=aq.2.2.1.set ar ax;.br (decide (aq.2.2.2<ad))
 (.gh aq.2.2.2 ab<|
 .grd (ar<aq.2.2.1.length)<|
 .gh au ab<|
 .grd (av<aq.2.2.1.length)<|
 .call (bz0 aw ax aq.1 aq.2.1) [(0,1),(1,2)] fun az=>
 .br (!(decide (az.1<0)))
 (.oo (az.2.1,az.2.2,aq.2.2.1))
 (.gh au ab<|
 .grd (av<aq.2.2.1.length)<|
 .gh aq.2.2.2 ab<|
 .grd (ar<aq.2.2.1.length)<|
 .gh aq.2.2.2 ab<|
 .conv 23015 (kS aq.2.2.1 3 ar ax)<|
 .grd (ar<aq.2.2.1.length/\0≤ar)<|
 .gh au ab<|
 .conv 23017 (kS ay 3 av aw)<|
 .grd (av<ay.length/\0≤av)<|
 .nn (az.2.1,az.2.2,(ay.set av aw),(i64.wrap (aq.2.2.2+1)))))
 (.oo (aq.1,aq.2.1,aq.2.2.1)))
 (ap.1,ap.2.1,ap.2.2,(i64.wrap (ah.2.2+1))) [] fun aq=>
 .oo (aq.1,aq.2.1,aq.2.2,ah.2.2))
 (.oo (ap.1,ap.2.1,ap.2.2,ah.2.2))))) fun ah=>
 .nn (ah.1,ah.2.1,ah.2.2.1,ah.2.2.2,(i64.wrap (ag.2.2.2.2+1))))
 (.oo (ag.1,ag.2.1,ag.2.2.1)))
 (ae,af,k,(i64.wrap (ac+1)),0) [] fun ag=>
 .ret (false,ag.2.2,ag.1,ag.2.1)
noncomputable def hzy (k)(aa)(ab)(ac)(ad)(ae)(af):=
 mkD Tryz.func497 (iz0 k aa ab ac ad ae af) 3 [.view 0 1 aa ab,pz ac,pz ad,.func 366 [] [.ptr 1 0,.ptr 2 0]] [(0,vO k 3),(1,.box [q ae]),(2,.box [pz af])] (fun r=>q r.1) (fun r=>[(0,vO r.2.1 3),(1,.box [q r.2.2.1]),(2,.box [pz r.2.2.2])])
noncomputable def kzn (k:A4)(aa:Nat)(ab:Nat)(ac:Int)(ad:Int)(ae:Int)(af:A5)(ag:Int):T (Int×A4×A5×Int):=let ah:=aa+(ae.toNat);let ai:=aa+(ac.toNat);let aj:=k.getD ah default;let ak:=k.set ai aj;let al:=k.getD ai default;.gh ae ab<|
 .grd (ah<k.length)<|
 .gh ac ab<|
 .grd (ai<k.length)<|
 .gh ac ab<|
 .conv 1013 (kS k 3 ai aj)<|
 .grd (ai<k.length/\0≤ai)<|
 .gh ae ab<|
 .conv 1015 (kS ak 3 ah al)<|
 .grd (ah<ak.length/\0≤ah)<|
 .loop (fun s (am:C6)=>pk s [0,1,4] [] [(11,pz am.2.2.2.1),(12,pz am.2.2.2.2)] [(0,vO am.2.2.1 3),(1,.box [q am.1]),(2,.box [pz am.2.1])])
 (.exit 0) (fun s (am:(A5×Int×Int×A4))=>pk s [] [] [(11,pz am.2.2.1)] [(0,vO am.2.2.2 3),(1,.box [q am.1]),(2,.box [pz am.2.1])])
 (fun am=>let an:=am.2.2.1.getD ai default;.loop (fun s (ao:Bg)=>pk s [0,1,4,12] [0] [(11,pz ao.2.2)] [(1,.box [q ao.1]),(2,.box [pz ao.2.1])])
 (.exit 2) (fun s (ao:Bg)=>pk s [0,1,4,12] [0] [(11,pz ao.2.2)] [(1,.box [q ao.1]),(2,.box [pz ao.2.1])])
 (fun ao=>let ap:=(ao.2.2).toNat;.cut 1 (fun s (aq:Bt)=>pk s [0,1,4,11,12] [0] [(47,q aq.2.2)] [(1,.box [q aq.1]),(2,.box [pz aq.2.1])])
 (.br (decide (ao.2.2≤am.2.2.2.2))
 (.gh ac ab<|
 .grd (ai<am.2.2.1.length)<|
 .name 3008 (an) fun aq=>
 .gh ao.2.2 ab<|
 .grd ((aa+ap)<am.2.2.1.length)<|
 .name 3012 ((am.2.2.1.getD (aa+ap) default)) fun ar=>
 .call (bz0 aq ar ao.1 ao.2.1) [(0,1),(1,2)] fun au=>
 .oo (au.2.1,au.2.2,(!(decide (au.1<0)))))
 (.oo (ao.1,ao.2.1,false))) fun aq=>
 .br aq.2.2
 (.nn (aq.1,aq.2.1,(i64.wrap (ao.2.2+1))))
 (.oo (aq.1,aq.2.1,ao.2.2)))
 (am.1,am.2.1,am.2.2.2.1) [] fun ao=>let ap:=aa+((ao.2.2).toNat);
 .loop (fun s (aq:Bg)=>pk s [0,1,4,11] [0] [(12,pz aq.2.2)] [(1,.box [q aq.1]),(2,.box [pz aq.2.1])])
 (.exit 4) (fun s (aq:Bg)=>pk s [0,1,4,11] [0] [(12,pz aq.2.2)] [(1,.box [q aq.1]),(2,.box [pz aq.2.1])])
 (fun aq=>let ar:=(aq.2.2).toNat;.cut 1 (fun s (au:Bt)=>pk s [0,1,4,11,12] [0] [(65,q au.2.2)] [(1,.box [q au.1]),(2,.box [pz au.2.1])])
 (.br (decide (ao.2.2≤aq.2.2))
 (.gh ac ab<|
 .grd (ai<am.2.2.1.length)<|
 .name 5008 (an) fun au=>
 .gh aq.2.2 ab<|
 .grd ((aa+ar)<am.2.2.1.length)<|
 .name 5012 ((am.2.2.1.getD (aa+ar) default)) fun av=>
 .call (bz0 au av aq.1 aq.2.1) [(0,1),(1,2)] fun aw=>
 .oo (aw.2.1,aw.2.2,(decide (aw.1<0))))
 (.oo (aq.1,aq.2.1,false))) fun au=>
 .br au.2.2
 (.nn (au.1,au.2.1,(i64.wrap (aq.2.2-1))))
 (.oo (au.1,au.2.1,aq.2.2)))
 (ao.1,ao.2.1,am.2.2.2.2) [] fun aq=>let ar:=aa+((aq.2.2).toNat);
 .br (decide (ao.2.2>aq.2.2))
 (.oo (aq.1,aq.2.1,ao.2.2,am.2.2.1))
 (.gh aq.2.2 ab<|
 .grd (ar<am.2.2.1.length)<|
 .name 8007 ((am.2.2.1.getD ar default)) fun au=>let av:=am.2.2.1.set ap au;
 .gh ao.2.2 ab<|
 .grd (ap<am.2.2.1.length)<|
 .name 8011 ((am.2.2.1.getD ap default)) fun aw=>
 .gh ao.2.2 ab<|
 .conv 8013 (kS am.2.2.1 3 ap au)<|
 .grd (ap<am.2.2.1.length/\0≤ap)<|
 .gh aq.2.2 ab<|
 .conv 8015 (kS av 3 ar aw)<|
 .grd (ar<av.length/\0≤ar)<|
 .nn (aq.1,aq.2.1,(av.set ar aw),(i64.wrap (ao.2.2+1)),(i64.wrap (aq.2.2-1)))))
 (af,ag,(ak.set ah al),(i64.wrap (ac+1)),(i64.wrap (ad-1))) [] fun am=>
 .ret (am.2.2.1,am.2.2.2,am.1,am.2.1)
noncomputable def kzm (k)(aa)(ab)(ac)(ad)(ae)(af)(ag):=
 mkD Tryz.func498 (kzn k aa ab ac ad ae af ag) 3 [.view 0 1 aa ab,pz ac,pz ad,pz ae,.func 366 [] [.ptr 1 0,.ptr 2 0]] [(0,vO k 3),(1,.box [q af]),(2,.box [pz ag])] (fun r=>pz r.1) (fun r=>[(0,vO r.2.1 3),(1,.box [q r.2.2.1]),(2,.box [pz r.2.2.2])])
noncomputable def pzk (k:A4)(aa:Nat)(ab:Nat)(ac:Int)(ad:Int)(ae:Int)(af:A5)(ag:Int):T (Int×Bool×A4×A5×Int):=let ah:=aa+(ae.toNat);let ai:=aa+(ac.toNat);let aj:=k.getD ah default;let ak:=k.set ai aj;let al:=k.getD ai default;let am:=ak.set ah al;let an:=am.getD ai default;let ao:=i64.wrap (ad-1);.gh ae ab<|
 .grd (ah<k.length)<|
 .gh ac ab<|
 .grd (ai<k.length)<|
 .gh ac ab<|
 .conv 1013 (kS k 3 ai aj)<|
 .grd (ai<k.length/\0≤ai)<|
 .gh ae ab<|
 .conv 1015 (kS ak 3 ah al)<|
 .grd (ah<ak.length/\0≤ah)<|
 .loop (fun s (ap:Bg)=>pk s [0,1,4,13] [0] [(12,pz ap.2.2)] [(1,.box [q ap.1]),(2,.box [pz ap.2.1])])
 (.exit 0) (fun s (ap:Bg)=>pk s [0,1,4,13] [0] [(12,pz ap.2.2)] [(1,.box [q ap.1]),(2,.box [pz ap.2.1])])
 (fun ap=>let aq:=(ap.2.2).toNat;.cut 1 (fun s (ar:Bt)=>pk s [0,1,4,12,13] [0] [(47,q ar.2.2)] [(1,.box [q ar.1]),(2,.box [pz ar.2.1])])
 (.br (decide (ap.2.2≤ao))
 (.gh ap.2.2 ab<|
 .grd ((aa+aq)<am.length)<|
 .name 3008 ((am.getD (aa+aq) default)) fun ar=>
 .gh ac ab<|
 .grd (ai<am.length)<|
 .name 3012 (an) fun au=>
 .call (bz0 ar au ap.1 ap.2.1) [(0,1),(1,2)] fun av=>
 .oo (av.2.1,av.2.2,(decide (av.1<0))))
 (.oo (ap.1,ap.2.1,false))) fun ar=>
 .br ar.2.2
 (.nn (ar.1,ar.2.1,(i64.wrap (ap.2.2+1))))
 (.oo (ar.1,ar.2.1,ap.2.2)))
 (af,ag,(i64.wrap (ac+1))) [] fun ap=>let aq:=aa+((ap.2.2).toNat);
 .loop (fun s (ar:Bg)=>pk s [0,1,4,12] [0] [(13,pz ar.2.2)] [(1,.box [q ar.1]),(2,.box [pz ar.2.1])])
 (.exit 2) (fun s (ar:Bg)=>pk s [0,1,4,12] [0] [(13,pz ar.2.2)] [(1,.box [q ar.1]),(2,.box [pz ar.2.1])])
 (fun ar=>let au:=(ar.2.2).toNat;.cut 1 (fun s (av:Bt)=>pk s [0,1,4,12,13] [0] [(66,q av.2.2)] [(1,.box [q av.1]),(2,.box [pz av.2.1])])
 (.br (decide (ap.2.2≤ar.2.2))
 (.gh ar.2.2 ab<|
 .grd ((aa+au)<am.length)<|
 .name 5008 ((am.getD (aa+au) default)) fun av=>
 .gh ac ab<|
 .grd (ai<am.length)<|
 .name 5012 (an) fun aw=>
 .call (bz0 av aw ar.1 ar.2.1) [(0,1),(1,2)] fun ax=>
 .oo (ax.2.1,ax.2.2,(!(decide (ax.1<0)))))
 (.oo (ar.1,ar.2.1,false))) fun av=>
 .br av.2.2
 (.nn (av.1,av.2.1,(i64.wrap (ar.2.2-1))))
 (.oo (av.1,av.2.1,ar.2.2)))
 (ap.1,ap.2.1,ao) [] fun ar=>let au:=aa+((ar.2.2).toNat);let av:=am.getD au default;
 .br (decide (ap.2.2>ar.2.2))
 (.gh ac ab<|
 .grd (ai<am.length)<|
 .name 8007 (an) fun aw=>let ax:=am.set au aw;
 .gh ar.2.2 ab<|
 .grd (au<am.length)<|
 .name 8011 (av) fun ay=>
 .gh ar.2.2 ab<|
 .conv 8013 (kS am 3 au aw)<|
 .grd (au<am.length/\0≤au)<|
 .gh ac ab<|
 .conv 8015 (kS ax 3 ai ay)<|
 .grd (ai<ax.length/\0≤ai)<|
 .ret (ar.2.2,true,(ax.set ai ay),ar.1,ar.2.1))
 (.gh ar.2.2 ab<|
 .grd (au<am.length)<|
 .name 10007 (av) fun aw=>let ax:=am.set aq aw;
 .gh ap.2.2 ab<|
 .grd (aq<am.length)<|
 .name 10011 ((am.getD aq default)) fun ay=>
 .gh ap.2.2 ab<|
 .conv 10013 (kS am 3 aq aw)<|
 .grd (aq<am.length/\0≤aq)<|
 .gh ar.2.2 ab<|
 .conv 10015 (kS ax 3 au ay)<|
 .grd (au<ax.length/\0≤au)<|
 .loop (fun s (az:C6)=>pk s [0,1,4] [] [(12,pz az.2.2.2.1),(13,pz az.2.2.2.2)] [(0,vO az.2.2.1 3),(1,.box [q az.1]),(2,.box [pz az.2.1])])
 (.exit 4) (fun s (az:Bz)=>pk s [0,1] [] [(13,pz az.2.2.2)] [(0,vO az.2.2.1 3),(1,.box [q az.1]),(2,.box [pz az.2.1])])
 (fun az=>let a0:=az.2.2.1.getD ai default;.loop (fun s (a1:Bg)=>pk s [0,1,4,13] [0] [(12,pz a1.2.2)] [(1,.box [q a1.1]),(2,.box [pz a1.2.1])])
 (.exit 6) (fun s (a1:Bg)=>pk s [0,1,4,13] [0] [(12,pz a1.2.2)] [(1,.box [q a1.1]),(2,.box [pz a1.2.1])])
 (fun a1=>let a2:=(a1.2.2).toNat;.cut 1 (fun s (a3:Bt)=>pk s [0,1,4,12,13] [0] [(120,q a3.2.2)] [(1,.box [q a3.1]),(2,.box [pz a3.2.1])])
 (.br (decide (a1.2.2≤az.2.2.2.2))
 (.gh a1.2.2 ab<|
 .grd ((aa+a2)<az.2.2.1.length)<|
 .name 13008 ((az.2.2.1.getD (aa+a2) default)) fun a3=>
 .gh ac ab<|
 .grd (ai<az.2.2.1.length)<|
 .name 13012 (a0) fun a4=>
 .call (bz0 a3 a4 a1.1 a1.2.1) [(0,1),(1,2)] fun a5=>
 .oo (a5.2.1,a5.2.2,(decide (a5.1<0))))
 (.oo (a1.1,a1.2.1,false))) fun a3=>
 .br a3.2.2
 (.nn (a3.1,a3.2.1,(i64.wrap (a1.2.2+1))))
 (.oo (a3.1,a3.2.1,a1.2.2)))
 (az.1,az.2.1,az.2.2.2.1) [] fun a1=>let a2:=aa+((a1.2.2).toNat);
 .loop (fun s (a3:Bg)=>pk s [0,1,4,12] [0] [(13,pz a3.2.2)] [(1,.box [q a3.1]),(2,.box [pz a3.2.1])])
 (.exit 8) (fun s (a3:Bg)=>pk s [0,1,4,12] [0] [(13,pz a3.2.2)] [(1,.box [q a3.1]),(2,.box [pz a3.2.1])])
 (fun a3=>let a4:=(a3.2.2).toNat;.cut 1 (fun s (a5:Bt)=>pk s [0,1,4,12,13] [0] [(139,q a5.2.2)] [(1,.box [q a5.1]),(2,.box [pz a5.2.1])])
 (.br (decide (a1.2.2≤a3.2.2))
 (.gh a3.2.2 ab<|
 .grd ((aa+a4)<az.2.2.1.length)<|
 .name 15008 ((az.2.2.1.getD (aa+a4) default)) fun a5=>
 .gh ac ab<|
 .grd (ai<az.2.2.1.length)<|
 .name 15012 (a0) fun a6=>
 .call (bz0 a5 a6 a3.1 a3.2.1) [(0,1),(1,2)] fun a7=>
 .oo (a7.2.1,a7.2.2,(!(decide (a7.1<0)))))
 (.oo (a3.1,a3.2.1,false))) fun a5=>
 .br a5.2.2
 (.nn (a5.1,a5.2.1,(i64.wrap (a3.2.2-1))))
 (.oo (a5.1,a5.2.1,a3.2.2)))
 (a1.1,a1.2.1,az.2.2.2.2) [] fun a3=>let a4:=aa+((a3.2.2).toNat);
 .br (decide (a1.2.2>a3.2.2))
 (.oo (a3.1,a3.2.1,az.2.2.1,a3.2.2))
 (.gh a3.2.2 ab<|
 .grd (a4<az.2.2.1.length)<|
 .name 18007 ((az.2.2.1.getD a4 default)) fun a5=>let a6:=az.2.2.1.set a2 a5;
 .gh a1.2.2 ab<|
 .grd (a2<az.2.2.1.length)<|
 .name 18011 ((az.2.2.1.getD a2 default)) fun a7=>
 .gh a1.2.2 ab<|
 .conv 18013 (kS az.2.2.1 3 a2 a5)<|
 .grd (a2<az.2.2.1.length/\0≤a2)<|
 .gh a3.2.2 ab<|
 .conv 18015 (kS a6 3 a4 a7)<|
 .grd (a4<a6.length/\0≤a4)<|
 .nn (a3.1,a3.2.1,(a6.set a4 a7),(i64.wrap (a1.2.2+1)),(i64.wrap (a3.2.2-1)))))
 (ar.1,ar.2.1,(ax.set au ay),(i64.wrap (ap.2.2+1)),(i64.wrap (ar.2.2-1))) [] fun az=>let a0:=aa+((az.2.2.2).toNat);let a1:=az.2.2.1.getD ai default;let a2:=az.2.2.1.set a0 a1;let a3:=az.2.2.1.getD a0 default;
 .gh ac ab<|
 .grd (ai<az.2.2.1.length)<|
 .gh az.2.2.2 ab<|
 .grd (a0<az.2.2.1.length)<|
 .gh az.2.2.2 ab<|
 .conv 21013 (kS az.2.2.1 3 a0 a1)<|
 .grd (a0<az.2.2.1.length/\0≤a0)<|
 .gh ac ab<|
 .conv 21015 (kS a2 3 ai a3)<|
 .grd (ai<a2.length/\0≤ai)<|
 .ret (az.2.2.2,false,(a2.set ai a3),az.1,az.2.1))
noncomputable def pzj (k)(aa)(ab)(ac)(ad)(ae)(af)(ag):=
 mkD Tryz.func499 (pzk k aa ab ac ad ae af ag) 3 [.view 0 1 aa ab,pz ac,pz ad,pz ae,.func 366 [] [.ptr 1 0,.ptr 2 0]] [(0,vO k 3),(1,.box [q af]),(2,.box [pz ag])] (fun r=>.tup [pz r.1,q r.2.1]) (fun r=>[(0,vO r.2.2.1 3),(1,.box [q r.2.2.2.1]),(2,.box [pz r.2.2.2.2])])
noncomputable def yzt (k:Int):T Int:=
 .cc (rzj (IntKind.u64.wrap k)) fun aa=>
 .grd (0≤aa)<|
 .ret (IntKind.u64.wrap (1 * 2 ^ (min aa.toNat 64)))
noncomputable def mz7:=
 mkq1 Tryz.func506 yzt (fun r=>.pure (.int .u64 r))
open Go.Proofs
noncomputable def Rz9 (k:Int):T B1:=
 .ok (0≤(13:Int)) (by decide)<|
 .name 1007 ((IntKind.u64.wrap (((BitVec.ofInt 64 k ^^^ BitVec.ofInt 64 (IntKind.u64.wrap (k * 2 ^ (min (13:Int).toNat 64)))).toNat:Int)))) fun aa=>let ab:=IntKind.u64.wrap (((BitVec.ofInt 64 aa ^^^ BitVec.ofInt 64 (aa.fdiv (2 ^ (min (7:Int).toNat 64)))).toNat:Int));
 .ok (0≤(7:Int)) (by decide)<|
 .ok (0≤(17:Int)) (by decide)<|
 .name 3006 ((IntKind.u64.wrap (ab * 2 ^ (min (17:Int).toNat 64)))) fun ac=>
 .name 3007 ((IntKind.u64.wrap (((BitVec.ofInt 64 ab ^^^ BitVec.ofInt 64 ac).toNat:Int)))) fun ad=>
 .ret (ad,ad)
noncomputable def Czn (k):=
 mkD Tryz.func507 (Rz9 k) 1 [.ptr 0 0] [(0,.box [.pure (.int .u64 k)])] (fun r=>.pure (.int .u64 r.1)) (fun r=>[(0,.box [.pure (.int .u64 r.2)])])
noncomputable def mz2 (k:A4)(aa:Nat)(ab:Nat)(ac:Int)(ad:Int)(ae:A5)(af:Int):T Bb:=let ag:=i64.wrap (ad-ac);let ah:=i64.wrap (ac+(i64.wrap ((i64.wrap (ag.tdiv 4)) * 2)));.br (decide (ag≥8))
 (.cc (mz7 ag) fun ai=>
 .ok ((4:Int)≠0) (by decide)<|
 .name 4005 ((i64.wrap (ah-1))) fun aj=>
 .loop (fun s (ak:Bf)=>pk s [0,1,8,9,10] [1,2] [(11,pz ak.2.2)] [(0,vO ak.1 3),(515,.box [.pure (.int .u64 ak.2.1)])])
 (.exit 0) (fun s (ak:A4)=>pk s [] [1,2] [] [(0,vO ak 3)])
 (fun ak=>let al:=aa+((ak.2.2).toNat);let am:=ak.1.getD al default;.ok ((4:Int)≠0) (by decide)<|
 .name 5006 ((i64.wrap (ah+1))) fun an=>
 .br (decide (ak.2.2≤an))
 (.call (Czn ak.2.1) [(0,515)] fun ao=>
 .name 7004 ((i64.wrap (IntKind.u64.wrap (((BitVec.ofInt 64 ao.1&&&BitVec.ofInt 64 (IntKind.u64.wrap (ai-1))).toNat:Int))))) fun ap=>
 .cut 0 (fun s (aq:Int)=>pk s [0,1,8,9,10,11] [0,1,2,515] [(12,pz aq)] [])
 (.br (decide (ap≥ag))
 (.oo (i64.wrap (ap-ag)))
 (.oo ap)) fun aq=>let ar:=i64.wrap (ac+aq);let au:=aa+(ar.toNat);let av:=ak.1.getD au default;let aw:=ak.1.set al av;
 .gh ar ab<|
 .grd (au<ak.1.length)<|
 .gh ak.2.2 ab<|
 .grd (al<ak.1.length)<|
 .gh ak.2.2 ab<|
 .conv 10017 (kS ak.1 3 al av)<|
 .grd (al<ak.1.length/\0≤al)<|
 .gh ar ab<|
 .conv 10019 (kS aw 3 au am)<|
 .grd (au<aw.length/\0≤au)<|
 .nn ((aw.set au am),ao.2,(i64.wrap (ak.2.2+1))))
 (.oo ak.1))
 (k,(IntKind.u64.wrap ag),aj) [] fun ak=>
 .ret (ak,ae,af))
 (.ret (k,ae,af))
noncomputable def mz1 (k)(aa)(ab)(ac)(ad)(ae)(af):=
 mkD Tryz.func494 (mz2 k aa ab ac ad ae af) 3 [.view 0 1 aa ab,pz ac,pz ad,.func 366 [] [.ptr 1 0,.ptr 2 0]] [(0,vO k 3),(1,.box [q ae]),(2,.box [pz af])] (fun _=>.tup []) (fun r=>[(0,vO r.1 3),(1,.box [q r.2.1]),(2,.box [pz r.2.2])])
abbrev fz3:=RecS Tryz.prog 444 3 (A4×Nat×Nat×Int×Int×Int×A5×Int) Bb (fun a=>[.view 0 1 a.2.1 a.2.2.1,pz a.2.2.2.1,pz a.2.2.2.2.1,pz a.2.2.2.2.2.1,.func 366 [] [.ptr 1 0,.ptr 2 0]]) (fun a=>[(0,vO a.1 3),(1,.box [q a.2.2.2.2.2.2.1]),(2,.box [pz a.2.2.2.2.2.2.2])]) (fun _ _=>.tup []) (fun _ r=>[(0,vO r.1 3),(1,.box [q r.2.1]),(2,.box [pz r.2.2])])
noncomputable def szd (rec:fz3)(k:A4)(aa:Nat)(ab:Nat)(ac:Int)(ad:Int)(ae:Int)(af:A5)(ag:Int):T Bb:=
 .loop (fun s (ah:(A5×Int×A4×Int×Int×Int×Bool×Bool))=>pk s [0,4] [] [(1,pz ah.2.2.2.1),(2,pz ah.2.2.2.2.1),(3,pz ah.2.2.2.2.2.1),(10,q ah.2.2.2.2.2.2.1),(11,q ah.2.2.2.2.2.2.2)] [(0,vO ah.2.2.1 3),(1,.box [q ah.1]),(2,.box [pz ah.2.1])])
 .ret (fun _ (_:U0)=>⟨[],[],[],3⟩)
 (fun ah=>let ai:=i64.wrap (ah.2.2.2.1-1);let aj:=aa+(ai.toNat);let ak:=i64.wrap (ah.2.2.2.2.1-ah.2.2.2.1);let al:=i64.wrap (ak.tdiv 8);.br (decide (ak≤12))
 (.call (mz5 ah.2.2.1 aa ab ah.2.2.2.1 ah.2.2.2.2.1 ah.1 ah.2.1) [(0,0),(1,1),(2,2)] fun am=>
 .ff (am.1,am.2.1,am.2.2))
 (.br (ah.2.2.2.2.2.1==0)
 (.call (qzk ah.2.2.1 aa ab ah.2.2.2.1 ah.2.2.2.2.1 ah.1 ah.2.1) [(0,0),(1,1),(2,2)] fun am=>
 .ff (am.1,am.2.1,am.2.2))
 (.cut 0 (fun s (am:Bz)=>pk s [0,1,2,4,10,11,12] [] [(3,pz am.2.2.2)] [(0,vO am.2.2.1 3),(1,.box [q am.1]),(2,.box [pz am.2.1])])
 (.br (!ah.2.2.2.2.2.2.1)
 (.call (mz1 ah.2.2.1 aa ab ah.2.2.2.1 ah.2.2.2.2.1 ah.1 ah.2.1) [(0,0),(1,1),(2,2)] fun am=>
 .oo (am.2.1,am.2.2,am.1,(i64.wrap (ah.2.2.2.2.2.1-1))))
 (.oo (ah.1,ah.2.1,ah.2.2.1,ah.2.2.2.2.2.1))) fun am=>
 .call (nza am.2.2.1 aa ab ah.2.2.2.1 ah.2.2.2.2.1 am.1 am.2.1) [(0,0),(1,1),(2,2)] fun an=>
 .cut 0 (fun s (ao:C6)=>pk s [0,1,2,3,4,10,11,12] [] [(13,pz ao.2.2.2.1),(14,pz ao.2.2.2.2)] [(0,vO ao.2.2.1 3),(1,.box [q ao.1]),(2,.box [pz ao.2.1])])
 (.br (an.2.1==2)
 (.call (mzi am.2.2.1 aa ab ah.2.2.2.1 ah.2.2.2.2.1 an.2.2.1 an.2.2.2) [(0,0),(1,1),(2,2)] fun ao=>
 .oo (ao.2.1,ao.2.2,ao.1,(i64.wrap ((i64.wrap (ah.2.2.2.2.1-1))- (i64.wrap (an.1-ah.2.2.2.1)))),1))
 (.oo (an.2.2.1,an.2.2.2,am.2.2.1,an.1,an.2.1))) fun ao=>let ap:=(ao.2.2.2.1).toNat;
 .cut 0 (fun s (aq:Bc)=>pk s [0,1,2,3,4,10,11,12,13] [] [] [(0,vO aq.2.2 3),(1,.box [q aq.1]),(2,.box [pz aq.2.1])])
 (.cub 0 75 [0,1,2,3,4,10,11,12,13] [0,1,2]
 (.br ah.2.2.2.2.2.2.1
 (.br ah.2.2.2.2.2.2.2
 (.oo (ao.2.2.2.2==1))
 (.oo false))
 (.oo false)) fun aq=>
 .br aq
 (.call (hzy ao.2.2.1 aa ab ah.2.2.2.1 ah.2.2.2.2.1 ao.1 ao.2.1) [(0,0),(1,1),(2,2)] fun ar=>
 .br ar.1
 (.ff (.fin (ar.2.1,ar.2.2.1,ar.2.2.2)))
 (.oo (ar.2.2.1,ar.2.2.2,ar.2.1)))
 (.oo (ao.1,ao.2.1,ao.2.2.1))) fun aq=>
 .cut 1 (fun s (ar:Bt)=>pk s [0,1,2,3,4,10,11,12,13] [0] [(97,q ar.2.2)] [(1,.box [q ar.1]),(2,.box [pz ar.2.1])])
 (.br (decide (ah.2.2.2.1>0))
 (.gh ai ab<|
 .grd (aj<aq.2.2.length)<|
 .gh ao.2.2.2.1 ab<|
 .grd ((aa+ap)<aq.2.2.length)<|
 .call (bz0 (aq.2.2.getD aj default) (aq.2.2.getD (aa+ap) default) aq.1 aq.2.1) [(0,1),(1,2)] fun ar=>
 .oo (ar.2.1,ar.2.2,(!(decide (ar.1<0)))))
 (.oo (aq.1,aq.2.1,false))) fun ar=>
 .br ar.2.2
 (.call (kzm aq.2.2 aa ab ah.2.2.2.1 ah.2.2.2.2.1 ao.2.2.2.1 ar.1 ar.2.1) [(0,0),(1,1),(2,2)] fun au=>
 .nn (au.2.2.1,au.2.2.2,au.2.1,au.1,ah.2.2.2.2.1,am.2.2.2,ah.2.2.2.2.2.2.1,ah.2.2.2.2.2.2.2))
 (.call (pzj aq.2.2 aa ab ah.2.2.2.1 ah.2.2.2.2.1 ao.2.2.2.1 ar.1 ar.2.1) [(0,0),(1,1),(2,2)] fun au=>let av:=i64.wrap (au.1-ah.2.2.2.1);let aw:=i64.wrap (ah.2.2.2.2.1-au.1);let ax:=i64.wrap (au.1+1);
 .ok ((8:Int)≠0) (by decide)<|
 .br (decide (av<aw))
 (.call (rec.C (au.2.2.1,aa,ab,ah.2.2.2.1,au.1,am.2.2.2,au.2.2.2.1,au.2.2.2.2)) [(0,0),(1,1),(2,2)] fun ay=>
 .nn (ay.2.1,ay.2.2,ay.1,ax,ah.2.2.2.2.1,am.2.2.2,(decide (av≥al)),au.2.1))
 (.call (rec.C (au.2.2.1,aa,ab,ax,ah.2.2.2.2.1,am.2.2.2,au.2.2.2.1,au.2.2.2.2)) [(0,0),(1,1),(2,2)] fun ay=>
 .nn (ay.2.1,ay.2.2,ay.1,ah.2.2.2.1,au.1,am.2.2.2,(decide (aw≥al)),au.2.1))))))
 (af,ag,k,ac,ad,ae,true,true) [] fun _=>
 .stop
noncomputable def szc:fz3->fz3:=RecS.next [] hd Tryz.func444 (by kernel_rfl) (fun rec a=>szd rec a.1 a.2.1 a.2.2.1 a.2.2.2.1 a.2.2.2.2.1 a.2.2.2.2.2.1 a.2.2.2.2.2.2.1 a.2.2.2.2.2.2.2) (fun rec a=>by kernel_rfl)
noncomputable def szb (a0:A4)(a1:Nat)(a2:Nat)(a3:Int)(a4:Int)(a5:Int)(a6:A5)(a7:Int):CallS Bb:=(RecS.fix szc NN).C (a0,a1,a2,a3,a4,a5,a6,a7)
noncomputable def vzd (k:A4)(aa:Nat)(ab:Nat)(ac:A5)(ad:Int):T Bb:=let ae:=(ab:Int);.cc (rzj (IntKind.u64.wrap ae)) fun af=>
 .call (szb k aa ab 0 ae af ac ad) [(0,0),(1,1),(2,2)] fun ag=>
 .ret (ag.1,ag.2.1,ag.2.2)
noncomputable def vzc (k)(aa)(ab)(ac)(ad):=
 mkD Tryz.func365 (vzd k aa ab ac ad) 3 [.view 0 1 aa ab,.func 366 [] [.ptr 1 0,.ptr 2 0]] [(0,vO k 3),(1,.box [q ac]),(2,.box [pz ad])] (fun _=>.tup []) (fun r=>[(0,vO r.1 3),(1,.box [q r.2.1]),(2,.box [pz r.2.2])])
abbrev lzd:=RecS Tryz.prog 364 5 (A4×Nat×Nat×Int×A5×Ak) By (fun a=>[.view 0 1 a.2.1 a.2.2.1,pz a.2.2.2.1,.ptr 1 0,.ptr 2 0,.ptr 4 0]) (fun a=>[(0,vO a.1 3),(1,.box [q a.2.2.2.2.1]),(2,.box [.vec 3]),(3,vO a.2.2.2.2.2 465),(4,.box [.func 364 [] [.ptr 1 0,.ptr 2 0,.ptr 4 0]])]) (fun _ r=>pz r.1) (fun _ r=>[(0,vO r.2.1 3),(1,.box [q r.2.2.1]),(2,.box [.vec 5]),(3,.gone),(4,.box [.func 364 [] [.ptr 1 0,.ptr 2 0,.ptr 4 0]]),(5,vO r.2.2.2 465)])
noncomputable def Gzz (rec:lzd)(k:A4)(aa:Nat)(ab:Nat)(ac:Int)(ad:A5)(ae:Ak):T By:=let af:=(ab:Int);let ag:=(ae.length:Int);let ah:=ag.toNat;let ai:=i64.wrap (af.tdiv 2);let aj:=aa+(ai.toNat);let ak:=i64.wrap (ai+1);let al:=i64.wrap (ac+1);let am:=((ad.getD ((0:Int).toNat) default).length:Nat);.br (af==0)
 (.ret ((-1),k,ad,ae))
 (.gh (0:Int) ad.length<|
 .grd ((am:Int)≠0)<|
 .call (vzc k aa ab ad (ac.tmod (am:Int))) [(0,0),(1,1),(2,645)] fun an=>let ao:=([(⟨(an.1.getD aj default),an.2.2,0,0⟩:bz3)]:Ak);let ap:=ae.length+ao.length;
 .ok ((2:Int)≠0) (by decide)<|
 .gh ai ab<|
 .grd (aj<an.1.length)<|
 .conv 6007 (kL ao 465)<|
 .conv 6008 (kA ae ao 465)<|
 .grd (ap * 32≤140737488355328/\ap≤maxLen)<|
 .grd (0≤(0:Int)/\(0:Int)≤ai/\ai≤af)<|
 .call (rec.C (an.1,(aa+((0:Int).toNat)),((ai.toNat)- ((0:Int).toNat)),al,an.2.1,(ae++ao))) [(0,0),(1,1),(2,2),(3,1925),(4,4)] fun aq=>
 .grd (0≤ak/\ak≤af/\af≤af)<|
 .call (rec.C (aq.2.1,(aa+(ak.toNat)),((af.toNat)- (ak.toNat)),al,aq.2.2.1,aq.2.2.2)) [(0,0),(1,1),(2,2),(3,2437),(4,4)] fun ar=>let au:=ar.2.2.2.getD ah default;let av:=(⟨au.Point,au.Axis,aq.1,au.High⟩:bz3);let aw:=ar.2.2.2.set ah av;let ax:=aw.getD ah default;let ay:=(⟨ax.Point,ax.Axis,ax.Low,ar.1⟩:bz3);
 .gh ag ar.2.2.2.length<|
 .conv 9008 (kS ar.2.2.2 465 ah av)<|
 .gi (ag) ar.2.2.2.length<|
 .gh ag (aw.length)<|
 .conv 9011 (kS aw 465 ah ay)<|
 .gi (ag) (aw.length)<|
 .ret (ag,ar.2.1,ar.2.2.1,(aw.set ah ay)))
noncomputable def Gzy:lzd->lzd:=RecS.next [] hd Tryz.func364 (by kernel_rfl) (fun rec a=>Gzz rec a.1 a.2.1 a.2.2.1 a.2.2.2.1 a.2.2.2.2.1 a.2.2.2.2.2) (fun rec a=>by kernel_rfl)
noncomputable def Gzx (a0:A4)(a1:Nat)(a2:Nat)(a3:Int)(a4:A5)(a5:Ak):CallS By:=(RecS.fix Gzy NN).C (a0,a1,a2,a3,a4,a5)
noncomputable def Mzi (k:A5):T Ak:=let aa:=(k.length:Int);let ab:=List.replicate aa.toNat (0:Int);.cc (mzk k) fun ac=>
 .br (!ac)
 (.ret nl)
 (.conv 4002 (zzm 1 azs 3 aa.toNat 0)<|
 .grd (0≤aa/\aa≤aa/\aa≤9223372036854775807/\aa * 8≤140737488355328)<|
 .loop (fun s (ad:Ah)=>pk s [1,2,3,14] [0,64,65] [(15,pz ad.2)] [(576,vO ad.1 3)])
 (.exit 0) (fun s (ad:A4)=>pk s [1,2,3] [0,64,65] [] [(576,vO ad 3)])
 (fun ad=>let ae:=(ad.2).toNat;.br (decide (ad.2<(ab.length:Int)))
 (.gh ad.2 ad.1.length<|
 .conv 8004 (kS ad.1 3 ae ad.2)<|
 .gi (ad.2) ad.1.length<|
 .nn ((ad.1.set ae ad.2),(i64.wrap (ad.2+1))))
 (.oo ad.1))
 (ab,0) [] fun ad=>
 .call (Gzx ad 0 ad.length 0 k nl) [(0,576),(1,0),(2,64),(3,65),(4,960)] fun ae=>
 .ret ae.2.2.2)
noncomputable def Mzh (k):=
 mkC [⟨362,az9h⟩] hd Tryz.func269 (by kernel_rfl) (Mzi k) 0 [q k] [] (fun r=>q r) (fun _=>[]) (by kernel_rfl)
noncomputable def Hz5 (k:A5)(aa:Ak):T (A4×Bool):=let ab:=(aa.length:Int);let ac:=(k.length:Int);let ad:=List.replicate ab.toNat (0:Int);.conv 1002 (zzm 1 azs 3 ab.toNat 0)<|
 .grd (0≤ab/\ab≤ab/\ab≤9223372036854775807/\ab * 8≤140737488355328)<|
 .loop (fun s (ae:Ah)=>pk s [0,1,6,17] [] [(18,pz ae.2)] [(256,vO ae.1 3)])
 (.exit 0) (fun s (ae:A4)=>pk s [0,1,6] [] [] [(256,vO ae 3)])
 (fun ae=>let af:=(ae.2).toNat;.br (decide (ae.2<(ad.length:Int)))
 (.gh ae.2 ae.1.length<|
 .conv 5003 (kS ae.1 3 af (-1))<|
 .gi (ae.2) ae.1.length<|
 .nn ((ae.1.set af (-1)),(i64.wrap (ae.2+1))))
 (.oo ae.1))
 (ad,0) [] fun ae=>
 .conv 7002 (zzm 1 encB 4 ac.toNat false)<|
 .grd (0≤ac/\ac≤ac/\ac≤9223372036854775807/\ac * 1≤140737488355328)<|
 .loop (fun s (af:(A4×(List Bool)×Int))=>pk s [0,1,6,8,28,29] [] [(30,pz af.2.2)] [(256,vO af.1 3),(768,vO af.2.1 4)])
 (.exit 2) (fun s (af:A4)=>pk s [6] [] [] [(256,vO af 3)])
 (fun af=>let ag:=(af.2.2).toNat;let ah:=aa.getD ag default;let ai:=ah.Point;let aj:=ai.toNat;let ak:=([ah.Low,ah.High]:A4);.br (decide (af.2.2<ab))
 (.gh af.2.2 aa.length<|
 .cub 1 51 [0,1,6,8,9,10,28,29,30] [256,768,1408]
 (.br (decide (ai<0))
 (.oo true)
 (.br (decide (ai≥ac))
 (.oo true)
 (.gg ai af.2.1.length<|
 .oo (af.2.1.getD aj default)))) fun al=>
 .br al
 (.ff (nl,false))
 (.gh ai af.2.1.length<|
 .conv 13004 (kS af.2.1 4 aj true)<|
 .gi ai af.2.1.length<|
 .cub 1 67 [0,1,6,8,9,10,28,29,30] [256,768,1408]
 (.br (decide ((ah.Axis)<0))
 (.oo true)
 (.gh (0:Int) k.length<|
 .oo (decide ((ah.Axis)≥(((k.getD ((0:Int).toNat) default).length:Nat):Int))))) fun am=>
 .br am
 (.ff (nl,false))
 (.conv 16004 (kL ak 3)<|
 .name 16005 ((ak.length:Int)) fun an=>
 .loop (fun s (ao:Ah)=>pk s [0,1,6,8,9,28,29,30,72,73] [768,2304] [(74,pz ao.2)] [(256,vO ao.1 3)])
 (.exit 4) (fun s (ao:A4)=>pk s [0,1,6,8,9,28,29,30] [768] [] [(256,vO ao 3)])
 (fun ao=>.br (decide (ao.2<an))
 (.cut 0 (fun s (ap:A4)=>pk s [0,1,6,8,9,28,29,30,72,73,74] [768,2304] [] [(256,vO ap 3)])
 (.gg ao.2 (ak.length)<|
 .name 18001 ((ak.getD ((ao.2).toNat) default)) fun ap=>let aq:=ap.toNat;
 .br (ap==(-1))
 (.oo ao.1)
 (.cub 1 95 [0,1,6,8,9,12,28,29,30,72,73,74] [256,768,2304]
 (.br (decide (ap≤af.2.2))
 (.oo true)
 (.br (decide (ap≥ab))
 (.oo true)
 (.gg ap ao.1.length<|
 .oo ((ao.1.getD aq default) !=(-1))))) fun ar=>
 .br ar
 (.ff (.fin (.fin (nl,false))))
 (.gh ap ao.1.length<|
 .conv 22004 (kS ao.1 3 aq af.2.2)<|
 .gi (ap) ao.1.length<|
 .oo (ao.1.set aq af.2.2)))) fun ap=>
 .nn (ap,(i64.wrap (ao.2+1))))
 (.oo ao.1))
 (af.1,0) [] fun ao=>
 .cub 0 109 [0,1,6,8,28,29,30] [256,768]
 (.br (decide (af.2.2>0))
 (.gg af.2.2 ao.length<|
 .oo ((ao.getD ag default)==(-1)))
 (.oo false)) fun ap=>
 .br ap
 (.ff (nl,false))
 (.nn (ao,(af.2.1.set aj true),(i64.wrap (af.2.2+1)))))))
 (.oo af.1))
 (ae,(List.replicate ac.toNat (false:Bool)),0) [] fun af=>
 .ret (af,true)
noncomputable def Hz4:=
 mkq2 Tryz.func501 Hz5 (fun r=>.tup [q r.1,q r.2])
noncomputable def Hz3 (k:A5)(aa:Ak)(ab:A4):T Bool:=
 .loop (ik 14 [0,1,2,12,13] [])
 (.exit 0) (jk [] [])
 (fun ac=>.br (decide (ac<(aa.length:Int)))
 (.gh ac aa.length<|
 .gh ac ab.length<|
 .loop (fun s (ad:B1)=>pk s [0,1,2,8,12,13,14] [576] [(9,pz ad.1),(10,pz ad.2)] [])
 (.exit 2) (jk [0,1,2,12,13,14] [])
 (fun ad=>let ae:=(ad.2).toNat;let af:=aa.getD ae default;.br (ad.2 !=(-1))
 (.gh ad.2 aa.length<|
 .gh ad.2 aa.length<|
 .cc (zz9 k (af.Axis) ((aa.getD (ac.toNat) default).Point) (af.Point)) fun ag=>
 .gh ad.2 aa.length<|
 .br (!((decide (ag<0))==(ad.1==(af.Low))))
 (.ff (.fin false))
 (.gh ad.2 ab.length<|
 .nn (ad.2,(ab.getD ae default))))
 (.oo .u))
 (ac,(ab.getD (ac.toNat) default)) [] fun _=>
 .nn (i64.wrap (ac+1)))
 (.oo .u))
 0 [] fun _=>
 .ret true
noncomputable def Hz2:=
 mkp3 Tryz.func502 Hz3
noncomputable def Mzk (k:A5)(aa:Ak):T Bool:=
 .cub 3 16 [0,1,4] [0]
 (.cc (mzk k) fun ab=>
 .br (!ab)
 (.oo true)
 (.oo ((aa.length:Int) !=(k.length:Int)))) fun ab=>
 .br ab
 (.ret false)
 (.cc (Hz4 k aa) fun ac=>
 .br ac.2
 (.cc (Hz2 k aa ac.1) fun ad=>
 .ret ad)
 (.ret false))
noncomputable def Mzj (k)(aa):=
 mkC [⟨500,az9p⟩] hd Tryz.func445 (by kernel_rfl) (Mzk k aa) 0 [q k,q aa] [] (fun r=>q r) (fun _=>[]) (by kernel_rfl)
noncomputable def Pz8 (k:azn)(aa:A5)(ab:Ak)(ac:A4):T Bool:=let ad:=(k.Joints.length:Nat);.cub 2 30 [1,4] [0]
 (.cc (ezp (⟨k.Joints,k.Masses⟩:azn)) fun ae=>
 .br (ae !=0)
 (.oo true)
 (.br ((ac.length:Int) !=(ad:Int))
 (.oo true)
 (.cc (zza ac) fun af=>
 .br (!af)
 (.oo true)
 (.cc (Mzj aa ab) fun ag=>
 .oo (!ag))))) fun ae=>
 .br ae
 (.ret false)
 (.br ((aa.length:Int)==0)
 (.ret true)
 (.gh (0:Int) aa.length<|
 .ret ((((aa.getD ((0:Int).toNat) default).length:Nat):Int)==(ad:Int))))
noncomputable def Pz7:=
 mkp4 Tryz.func369 Pz8
noncomputable def Kzn (k:dz5)(aa:Int):T Int:=let ab:=k.points.getD (aa.toNat) default;.gh aa k.points.length<|
 .loop (fun s (ac:B1)=>pk s [2,13,14] [0] [(5,pz ac.1),(15,pz ac.2)] [])
 (.exit 0) (ik 5 [] [])
 (fun ac=>let ad:=(ac.2).toNat;.br (decide (ac.2<(ab.length:Int)))
 (.gh ac.2 (ab.length)<|
 .gh ac.2 k.q.length<|
 .name 5006 ((i64.wrap ((k.q.getD ad default)- (ab.getD ad default)))) fun ae=>
 .gh ac.2 k.joints.length<|
 .name 6012 ((i64.wrap (ac.1+(i64.wrap (((k.joints.getD ad default).Weight) * (max ae (i64.wrap (0-ae)))))))) fun af=>
 .nn (af,(i64.wrap (ac.2+1))))
 (.oo ac.1))
 (0,0) [] fun ac=>
 .ret ac
noncomputable def Kzm:=
 mkp2 Tryz.func449 Kzn
noncomputable def Mzp (k:A4)(aa:A4)(ab:Int):T A6:=let ac:=([ab]:A4);let ad:=k.length+ac.length;.conv 7 (kL ac 3)<|
 .conv 8 (kA k ac 3)<|
 .grd (ad * 8≤140737488355328/\ad≤maxLen)<|
 .ret ((k++ac),aa)
noncomputable def Mzo (k)(aa)(ab):=
 mkD Tryz.func577 (Mzp k aa ab) 4 [.ptr 0 0,.iface 3 (pz ab)] [(0,.box [.vec 1,.func 370 [] [.ptr 2 0]]),(1,vO k 3),(2,.box [.vec 3]),(3,vO aa 2)] (fun _=>.tup []) (fun r=>[(0,.box [.vec 4,.func 370 [] [.ptr 2 0]]),(1,.gone),(2,.box [.vec 3]),(3,vO r.2 2),(4,vO r.1 3)])
noncomputable def Pzi (k:A4)(aa:A4):T Bd:=
 .ret ((k.length:Int),k,aa)
noncomputable def iz7 (k)(aa):=
 mkD Tryz.func376 (Pzi k aa) 4 [.ptr 0 0] [(0,.box [.vec 1,.func 370 [] [.ptr 2 0]]),(1,vO k 3),(2,.box [.vec 3]),(3,vO aa 2)] (fun r=>pz r.1) (fun r=>[(0,.box [.vec 1,.func 370 [] [.ptr 2 0]]),(1,vO r.2.1 3),(2,.box [.vec 3]),(3,vO r.2.2 2)])
noncomputable def Dza (k:Int)(aa:Int)(ab:A4):T (Bool×A4):=
 .gg k ab.length<|
 .gg aa ab.length<|
 .cc (rz6 (ab.getD (k.toNat) default) (ab.getD (aa.toNat) default)) fun ac=>
 .cc (ezx k aa) fun ad=>let ae:=([ac,ad]:A4);
 .conv 1012 (kL ae 3)<|
 .cc (zzz ae) fun af=>
 .ret ((decide (af>0)),ab)
noncomputable def Dz9 (k)(aa)(ab):=
 mkD Tryz.func370 (Dza k aa ab) 2 [pz k,pz aa,.ptr 0 0] [(0,.box [.vec 1]),(1,vO ab 2)] (fun r=>q r.1) (fun r=>[(0,.box [.vec 1]),(1,vO r.2 2)])
noncomputable def Mzn (k:A4)(aa:A4)(ab:Int)(ac:Int):T (Bool×A4×A4):=
 .gg ab k.length<|
 .gg ac k.length<|
 .call (Dz9 (k.getD (ab.toNat) default) (k.getD (ac.toNat) default) aa) [(0,2),(1,3)] fun ad=>
 .ret (ad.1,k,ad.2)
noncomputable def pz3 (k)(aa)(ab)(ac):=
 mkD Tryz.func575 (Mzn k aa ab ac) 4 [.ptr 0 0,pz ab,pz ac] [(0,.box [.vec 1,.func 370 [] [.ptr 2 0]]),(1,vO k 3),(2,.box [.vec 3]),(3,vO aa 2)] (fun r=>q r.1) (fun r=>[(0,.box [.vec 1,.func 370 [] [.ptr 2 0]]),(1,vO r.2.1 3),(2,.box [.vec 3]),(3,vO r.2.2 2)])
noncomputable def Mzq (k:A4)(aa:A4)(ab:Int)(ac:Int):T A6:=let ad:=ab.toNat;let ae:=ac.toNat;let af:=k.getD ae default;let ag:=k.set ad af;let ah:=k.getD ad default;.gg ac k.length<|
 .gg ab k.length<|
 .gh ab k.length<|
 .conv 25 (kS k 3 ad af)<|
 .gi (ab) k.length<|
 .gh ac (ag.length)<|
 .conv 27 (kS ag 3 ae ah)<|
 .gi (ac) (ag.length)<|
 .ret ((ag.set ae ah),aa)
noncomputable def pz4 (k)(aa)(ab)(ac):=
 mkD Tryz.func578 (Mzq k aa ab ac) 4 [.ptr 0 0,pz ab,pz ac] [(0,.box [.vec 1,.func 370 [] [.ptr 2 0]]),(1,vO k 3),(2,.box [.vec 3]),(3,vO aa 2)] (fun _=>.tup []) (fun r=>[(0,.box [.vec 1,.func 370 [] [.ptr 2 0]]),(1,vO r.1 3),(2,.box [.vec 3]),(3,vO r.2 2)])
noncomputable def Ezs (k:A4)(aa:A4)(ab:Int):T A6:=
 .loop (fun s (ac:Be)=>pk s [0] [0,2] [(1,pz ac.2.2)] [(1,vO ac.1 3),(3,vO ac.2.1 2)])
 (.exit 0) (fun s (ac:A6)=>pk s [] [0,2] [] [(1,vO ac.1 3),(3,vO ac.2 2)])
 (fun ac=>let ad:=i64.wrap ((i64.wrap (ac.2.2-1)).tdiv 2);.ok ((2:Int)≠0) (by decide)<|
 .cut 1 (fun s (ae:(A4×A4×Bool))=>pk s [0,1,4] [0,2] [(17,q ae.2.2)] [(1,vO ae.1 3),(3,vO ae.2.1 2)])
 (.br (ad==ac.2.2)
 (.oo (ac.1,ac.2.1,true))
 (.call (pz3 ac.1 ac.2.1 ac.2.2 ad) [(0,0),(1,1),(2,2),(3,3)] fun ae=>
 .oo (ae.2.1,ae.2.2,(!ae.1)))) fun ae=>
 .br ae.2.2
 (.oo (ae.1,ae.2.1))
 (.call (pz4 ae.1 ae.2.1 ad ac.2.2) [(0,0),(1,1),(2,2),(3,3)] fun af=>
 .nn (af.1,af.2,ad)))
 (k,aa,ab) [] fun ac=>
 .ret (ac.1,ac.2)
noncomputable def Ezr (k)(aa)(ab):=
 mkD Tryz.func503 (Ezs k aa ab) 4 [.iface 467 (.ptr 0 0),pz ab] [(0,.box [.vec 1,.func 370 [] [.ptr 2 0]]),(1,vO k 3),(2,.box [.vec 3]),(3,vO aa 2)] (fun _=>.tup []) (fun r=>[(0,.box [.vec 1,.func 370 [] [.ptr 2 0]]),(1,vO r.1 3),(2,.box [.vec 3]),(3,vO r.2 2)])
noncomputable def Az6 (k:A4)(aa:A4)(ab:Int):T A6:=
 .call (Mzo k aa ab) [(0,0),(1,1),(2,2),(3,3)] fun ac=>
 .call (iz7 ac.1 ac.2) [(0,0),(1,132),(2,2),(3,3)] fun ad=>
 .call (Ezr ad.2.1 ad.2.2 (i64.wrap (ad.1-1))) [(0,0),(1,132),(2,2),(3,3)] fun ae=>
 .ret (ae.1,ae.2)
noncomputable def Az5 (k)(aa)(ab):=
 mkD Tryz.func450 (Az6 k aa ab) 4 [.iface 467 (.ptr 0 0),.iface 3 (pz ab)] [(0,.box [.vec 1,.func 370 [] [.ptr 2 0]]),(1,vO k 3),(2,.box [.vec 3]),(3,vO aa 2)] (fun _=>.tup []) (fun r=>[(0,.box [.vec 4,.func 370 [] [.ptr 2 0]]),(1,.gone),(2,.box [.vec 3]),(3,vO r.2 2),(4,vO r.1 3)])
noncomputable def Mzs (k:A4)(aa:A4)(ab:Int):T A6:=
 .call (Az5 k aa ab) [(0,0),(1,1),(2,2),(3,3)] fun ac=>
 .ret (ac.1,ac.2)
noncomputable def Mzr (k)(aa)(ab):=
 mkD Tryz.func378 (Mzs k aa ab) 4 [.ptr 0 0,pz ab] [(0,.box [.vec 1,.func 370 [] [.ptr 2 0]]),(1,vO k 3),(2,.box [.vec 3]),(3,vO aa 2)] (fun _=>.tup []) (fun r=>[(0,.box [.vec 4,.func 370 [] [.ptr 2 0]]),(1,.gone),(2,.box [.vec 3]),(3,vO r.2 2),(4,vO r.1 3)])
noncomputable def Az8 (k:A4)(aa:A4)(ab:Int)(ac:Int):T (Bool×A4×A4):=
 .loop (fun s (ad:Be)=>pk s [0,1,2] [0,2] [(7,pz ad.2.2)] [(1,vO ad.1 3),(3,vO ad.2.1 2)])
 (.exit 0) (fun s (ad:Be)=>pk s [1] [0,2] [(7,pz ad.2.2)] [(1,vO ad.1 3),(3,vO ad.2.1 2)])
 (fun ad=>let ae:=i64.wrap ((i64.wrap (2 * ad.2.2))+1);let af:=i64.wrap (ae+1);.cub 2 21 [0,1,2,7,8] [0,1,2,3]
 (.br (decide (ae≥ac))
 (.oo true)
 (.oo (decide (ae<0)))) fun ag=>
 .br ag
 (.oo (ad.1,ad.2.1,ad.2.2))
 (.cut 1 (fun s (ah:Be)=>pk s [0,1,2,7] [0,2] [(9,pz ah.2.2)] [(1,vO ah.1 3),(3,vO ah.2.1 2)])
 (.cut 1 (fun s (ah:(A4×A4×Bool))=>pk s [0,1,2,7,9,10] [0,2] [(33,q ah.2.2)] [(1,vO ah.1 3),(3,vO ah.2.1 2)])
 (.br (decide (af<ac))
 (.call (pz3 ad.1 ad.2.1 af ae) [(0,0),(1,1),(2,2),(3,3)] fun ah=>
 .oo (ah.2.1,ah.2.2,ah.1))
 (.oo (ad.1,ad.2.1,false))) fun ah=>
 .br ah.2.2
 (.oo (ah.1,ah.2.1,af))
 (.oo (ah.1,ah.2.1,ae))) fun ah=>
 .call (pz3 ah.1 ah.2.1 ah.2.2 ad.2.2) [(0,0),(1,1),(2,2),(3,3)] fun ai=>
 .br (!ai.1)
 (.oo (ai.2.1,ai.2.2,ad.2.2))
 (.call (pz4 ai.2.1 ai.2.2 ad.2.2 ah.2.2) [(0,0),(1,1),(2,2),(3,3)] fun aj=>
 .nn (aj.1,aj.2,ah.2.2))))
 (k,aa,ab) [] fun ad=>
 .ret ((decide (ad.2.2>ab)),ad.1,ad.2.1)
noncomputable def Az7 (k)(aa)(ab)(ac):=
 mkD Tryz.func504 (Az8 k aa ab ac) 4 [.iface 467 (.ptr 0 0),pz ab,pz ac] [(0,.box [.vec 1,.func 370 [] [.ptr 2 0]]),(1,vO k 3),(2,.box [.vec 3]),(3,vO aa 2)] (fun r=>q r.1) (fun r=>[(0,.box [.vec 1,.func 370 [] [.ptr 2 0]]),(1,vO r.2.1 3),(2,.box [.vec 3]),(3,vO r.2.2 2)])
noncomputable def Pzk (k:A4)(aa:A4):T Bd:=let ab:=(k.length:Int);let ac:=i64.wrap (ab-1);.gg ac k.length<|
 .conv 3006 (az5j 1 azs k 3 ac)<|
 .grd (0≤ac/\ac≤ab/\0≤ac.toNat)<|
 .ret ((k.getD (ac.toNat) default),(k.take (ac.toNat)),aa)
noncomputable def Pzj (k)(aa):=
 mkD Tryz.func576 (Pzk k aa) 4 [.ptr 0 0] [(0,.box [.vec 1,.func 370 [] [.ptr 2 0]]),(1,vO k 3),(2,.box [.vec 3]),(3,vO aa 2)] (fun r=>.iface 3 (pz r.1)) (fun r=>[(0,.box [.vec 4,.func 370 [] [.ptr 2 0]]),(1,.gone),(2,.box [.vec 3]),(3,vO r.2.2 2),(4,vO r.2.1 3)])
noncomputable def Dz4 (k:A4)(aa:A4):T Bd:=
 .call (iz7 k aa) [(0,0),(1,1),(2,2),(3,3)] fun ab=>let ac:=i64.wrap (ab.1-1);
 .call (pz4 ab.2.1 ab.2.2 0 ac) [(0,0),(1,1),(2,2),(3,3)] fun ad=>
 .call (Az7 ad.1 ad.2 0 ac) [(0,0),(1,1),(2,2),(3,3)] fun ae=>
 .call (Pzj ae.2.1 ae.2.2) [(0,0),(1,1),(2,2),(3,3)] fun af=>
 .ret (af.1,af.2.1,af.2.2)
noncomputable def Dz3 (k)(aa):=
 mkD Tryz.func451 (Dz4 k aa) 4 [.iface 467 (.ptr 0 0)] [(0,.box [.vec 1,.func 370 [] [.ptr 2 0]]),(1,vO k 3),(2,.box [.vec 3]),(3,vO aa 2)] (fun r=>.iface 3 (pz r.1)) (fun r=>[(0,.box [.vec 4,.func 370 [] [.ptr 2 0]]),(1,.gone),(2,.box [.vec 3]),(3,vO r.2.2 2),(4,vO r.2.1 3)])
noncomputable def Pzl (k:A4)(aa:A4):T Bd:=
 .call (Dz3 k aa) [(0,0),(1,1),(2,2),(3,3)] fun ab=>
 .ret (ab.1,ab.2.1,ab.2.2)
noncomputable def Bz4 (k)(aa):=
 mkD Tryz.func379 (Pzl k aa) 4 [.ptr 0 0] [(0,.box [.vec 1,.func 370 [] [.ptr 2 0]]),(1,vO k 3),(2,.box [.vec 3]),(3,vO aa 2)] (fun r=>pz r.1) (fun r=>[(0,.box [.vec 4,.func 370 [] [.ptr 2 0]]),(1,.gone),(2,.box [.vec 3]),(3,vO r.2.2 2),(4,vO r.2.1 3)])
noncomputable def Dze (k:Int)(aa:Int)(ab:A4)(ac:A4)(ad:Int):T Be:=
 .gh k ab.length<|
 .conv 4 (kS ab 2 (k.toNat) aa)<|
 .gi (k) ab.length<|
 .call (Mzr ac (ab.set (k.toNat) aa) k) [(0,3),(1,4),(2,0),(3,1)] fun ae=>
 .call (iz7 ae.1 ae.2) [(0,3),(1,454),(2,0),(3,1)] fun af=>
 .br (decide (af.1>ad))
 (.call (Bz4 af.2.1 af.2.2) [(0,3),(1,454),(2,0),(3,1)] fun ag=>
 .ret (ag.2.2,ag.2.1,ad))
 (.ret (af.2.2,af.2.1,ad))
noncomputable def Dzd (k)(aa)(ab)(ac)(ad):=
 mkD Tryz.func377 (Dze k aa ab ac ad) 6 [pz k,pz aa,.ptr 0 0,.ptr 2 0,.ptr 5 0] [(0,.box [.vec 1]),(1,vO ab 2),(2,.box [.ptr 3 0]),(3,.box [.vec 4,.func 370 [] [.ptr 0 0]]),(4,vO ac 3),(5,.box [pz ad])] (fun _=>.tup []) (fun r=>[(0,.box [.vec 1]),(1,vO r.1 2),(2,.box [.ptr 3 0]),(3,.box [.vec 6,.func 370 [] [.ptr 0 0]]),(4,.gone),(5,.box [pz r.2.2]),(6,vO r.2.1 3)])
noncomputable def Dzc (k:A4)(aa:A4)(ab:Int):T (Int×Bool×A4×A4×Int):=
 .call (iz7 k aa) [(0,1),(1,2),(2,3),(3,4)] fun ac=>let ad:=ac.2.1.getD ((0:Int).toNat) default;
 .br (decide (ac.1<ab))
 (.ret (0,false,ac.2.1,ac.2.2,ab))
 (.gg (0:Int) ac.2.1.length<|
 .gg ad ac.2.2.length<|
 .ret ((ac.2.2.getD (ad.toNat) default),true,ac.2.1,ac.2.2,ab))
noncomputable def Dzb (k)(aa)(ab):=
 mkD Tryz.func375 (Dzc k aa ab) 6 [.ptr 0 0,.ptr 5 0,.ptr 3 0] [(0,.box [.ptr 1 0]),(1,.box [.vec 2,.func 370 [] [.ptr 3 0]]),(2,vO k 3),(3,.box [.vec 4]),(4,vO aa 2),(5,.box [pz ab])] (fun r=>.tup [pz r.1,q r.2.1]) (fun r=>[(0,.box [.ptr 1 0]),(1,.box [.vec 2,.func 370 [] [.ptr 3 0]]),(2,vO r.2.2.1 3),(3,.box [.vec 4]),(4,vO r.2.2.2.1 2),(5,.box [pz r.2.2.2.2])])
abbrev pzg:=RecS Tryz.prog 448 10 (Int×A0×A5×Ak×A4×A4×A4×Int) Cf (fun a=>[pz a.1,.ptr 0 0,.ptr 1 0,.ptr 8 0,.ptr 9 0]) (fun a=>[(0,.box [q a.2.1,q a.2.2.1,q a.2.2.2.1,q a.2.2.2.2.1]),(1,.box [.func 377 [] [.ptr 2 0,.ptr 4 0,.ptr 7 0]]),(2,.box [.vec 3]),(3,vO a.2.2.2.2.2.1 2),(4,.box [.ptr 5 0]),(5,.box [.vec 6,.func 370 [] [.ptr 2 0]]),(6,vO a.2.2.2.2.2.2.1 3),(7,.box [pz a.2.2.2.2.2.2.2]),(8,.box [.func 448 [] [.ptr 0 0,.ptr 1 0,.ptr 8 0,.ptr 9 0]]),(9,.box [.func 375 [] [.ptr 4 0,.ptr 7 0,.ptr 2 0]])]) (fun _ _=>.tup []) (fun _ r=>[(0,.box [q r.1,q r.2.1,q r.2.2.1,q r.2.2.2.1]),(1,.box [.func 377 [] [.ptr 2 0,.ptr 4 0,.ptr 7 0]]),(2,.box [.vec 3]),(3,vO r.2.2.2.2.1 2),(4,.box [.ptr 5 0]),(5,.box [.vec 10,.func 370 [] [.ptr 2 0]]),(6,.gone),(7,.box [pz r.2.2.2.2.2.2]),(8,.box [.func 448 [] [.ptr 0 0,.ptr 1 0,.ptr 8 0,.ptr 9 0]]),(9,.box [.func 375 [] [.ptr 4 0,.ptr 7 0,.ptr 2 0]]),(10,vO r.2.2.2.2.2.1 3)])
noncomputable def Nz5 (rec:pzg)(k:Int)(aa:A0)(ab:A5)(ac:Ak)(ad:A4)(ae:A4)(af:A4)(ag:Int):T Cf:=let ah:=ac.getD (k.toNat) default;let ai:=ah.Axis;let aj:=ah.Point;let ak:=ai.toNat;let al:=ab.getD (aj.toNat) default;.br (k==(-1))
 (.ret (aa,ab,ac,ad,ae,af,ag))
 (.gh k ac.length<|
 .cc (Kzm (⟨aa,ab,ac,ad⟩:dz5) aj) fun am=>
 .call (Dzd aj am ae af ag) [(0,2),(1,3),(2,4),(3,5),(4,6),(5,7)] fun an=>
 .gh ai ad.length<|
 .gh aj ab.length<|
 .gh ai (al.length)<|
 .name 3015 ((al.getD ak default)) fun ao=>let ap:=i64.wrap ((ad.getD ak default)-ao);
 .cut 1 (fun s (aq:B1)=>pk s [1,3,4,6,7] [0,1,2,3,4,5,6,7,8,9,458,1034] [(8,pz aq.1),(9,pz aq.2)] [])
 (.br (decide (ap>0))
 (.oo (ah.High,ah.Low))
 (.oo (ah.Low,ah.High))) fun aq=>
 .call (rec.C (aq.1,aa,ab,ac,ad,an.1,an.2.1,an.2.2)) [(0,0),(1,1),(2,2),(3,3),(4,4),(5,5),(6,1034),(7,7),(8,8),(9,9)] fun ar=>
 .gh ai ar.1.length<|
 .name 8010 ((max ap (i64.wrap (0-ap)))) fun au=>
 .call (Dzb ar.2.2.2.2.2.1 ar.2.2.2.2.1 ar.2.2.2.2.2.2) [(0,4),(1,5),(2,2826),(3,2),(4,3),(5,7)] fun av=>
 .cub 0 79 [3,9] [0,1,2,3,4,5,6,7,8,9,2826]
 (.br (!av.2.1)
 (.oo true)
 (.oo (decide ((i64.wrap (((ar.1.getD ak default).Weight) * au))≤av.1)))) fun aw=>
 .br aw
 (.call (rec.C (aq.2,ar.1,ar.2.1,ar.2.2.1,ar.2.2.2.1,av.2.2.2.1,av.2.2.1,av.2.2.2.2)) [(0,0),(1,1),(2,2),(3,3),(4,4),(5,5),(6,2826),(7,7),(8,8),(9,9)] fun ax=>
 .ret (ax.1,ax.2.1,ax.2.2.1,ax.2.2.2.1,ax.2.2.2.2.1,ax.2.2.2.2.2.1,ax.2.2.2.2.2.2))
 (.ret (ar.1,ar.2.1,ar.2.2.1,ar.2.2.2.1,av.2.2.2.1,av.2.2.1,av.2.2.2.2)))
noncomputable def Nz4:pzg->pzg:=RecS.next [] hd Tryz.func448 (by kernel_rfl) (fun rec a=>Nz5 rec a.1 a.2.1 a.2.2.1 a.2.2.2.1 a.2.2.2.2.1 a.2.2.2.2.2.1 a.2.2.2.2.2.2.1 a.2.2.2.2.2.2.2) (fun rec a=>by kernel_rfl)
noncomputable def Nz3 (a0:Int)(a1:A0)(a2:A5)(a3:Ak)(a4:A4)(a5:A4)(a6:A4)(a7:Int):CallS Cf:=(RecS.fix Nz4 NN).C (a0,a1,a2,a3,a4,a5,a6,a7)
noncomputable def Szs (k:dz5)(aa:A4)(ab:A4)(ac:Int):T Be:=
 .br (decide ((k.tree.length:Int)>0))
 (.call (Nz3 0 k.joints k.points k.tree k.q ab aa ac) [(0,6),(1,134),(2,3),(3,4),(4,0),(5,1),(6,2),(7,5),(8,198),(9,70)] fun ad=>
 .ret (ad.2.2.2.2.2.1,ad.2.2.2.2.1,ad.2.2.2.2.2.2))
 (.ret (aa,ab,ac))
noncomputable def Szr (k)(aa)(ab)(ac):=
 mkD Tryz.func374 (Szs k aa ab ac) 6 [q k,.func 375 [] [.ptr 0 0,.ptr 5 0,.ptr 3 0],.func 377 [] [.ptr 3 0,.ptr 0 0,.ptr 5 0]] [(0,.box [.ptr 1 0]),(1,.box [.vec 2,.func 370 [] [.ptr 3 0]]),(2,vO aa 3),(3,.box [.vec 4]),(4,vO ab 2),(5,.box [pz ac])] (fun _=>.tup []) (fun r=>[(0,.box [.ptr 1 0]),(1,.box [.vec 6,.func 370 [] [.ptr 3 0]]),(2,.gone),(3,.box [.vec 4]),(4,vO r.2.1 2),(5,.box [pz r.2.2]),(6,vO r.1 3)])
noncomputable def Hz1 (k:azn)(aa:A5)(ab:Ak)(ac:A4)(ad:Int):T A4:=let ae:=(aa.length:Int);.cub 3 24 [1,2,3,5,9,10] [0,64,128,129]
 (.br (decide (ad<1))
 (.oo true)
 (.cc (Pz7 (⟨k.Joints,k.Masses⟩:azn) aa ab ac) fun af=>
 .oo (!af))) fun af=>
 .br af
 (.ret nl)
 (.conv 4002 (zzm 1 azs 2 ae.toNat 0)<|
 .grd (0≤ae/\ae≤ae/\ae≤9223372036854775807/\ae * 8≤140737488355328)<|
 .call (Szr (⟨k.Joints,aa,ab,ac⟩:dz5) nl (List.replicate ae.toNat (0:Int)) ad) [(0,896),(1,832),(2,768),(3,576),(4,512),(5,64)] fun ag=>
 .call (iz7 ag.1 ag.2.1) [(0,832),(1,1536),(2,576),(3,512)] fun ah=>let ai:=List.replicate (ah.1).toNat (0:Int);
 .conv 7002 (zzm 1 azs 3 (ah.1).toNat 0)<|
 .grd (0≤ah.1/\ah.1≤ah.1/\ah.1≤9223372036854775807/\ah.1 * 8≤140737488355328)<|
 .loop (fun s (aj:(A4×A4×A4×Int))=>pk s [10,12] [128,576,832,896] [(13,pz aj.2.2.2)] [(512,vO aj.2.2.1 2),(1536,vO aj.2.1 3),(1728,vO aj.1 3)])
 (.exit 0) (fun s (aj:A4)=>pk s [10] [128] [] [(1728,vO aj 3)])
 (fun aj=>let ak:=aj.2.2.2;.br (decide (aj.2.2.2≥0))
 (.call (Bz4 aj.2.1 aj.2.2.1) [(0,832),(1,1536),(2,576),(3,512)] fun al=>
 .gh aj.2.2.2 aj.1.length<|
 .conv 11005 (kS aj.1 3 (ak.toNat) al.1)<|
 .gi ak aj.1.length<|
 .nn ((aj.1.set (ak.toNat) al.1),al.2.1,al.2.2,(i64.wrap (aj.2.2.2-1))))
 (.oo aj.1))
 (ai,ah.2.1,ah.2.2,(i64.wrap ((ai.length:Int)-1))) [] fun aj=>
 .ret aj)
noncomputable def Hz0 (k)(aa)(ab)(ac)(ad):=
 mkC [⟨368,az9i⟩] hd Tryz.func270 (by kernel_rfl) (Hz1 k aa ab ac ad) 0 [q k,q aa,q ab,q ac,pz ad] [] (fun r=>q r) (fun _=>[]) (by kernel_rfl)
noncomputable def wz8 (k:Int)(aa:Int)(ab:Int)(ac:Int):T C8:=
 .unroll 3<|
 .known true<|
 .gh (0:Int) 2<|
 .known false<|
 .gh (0:Int) 2<|
 .cc (ezx k ab) fun ad=>
 .br (ad !=0)
 (.ret (ad,k,aa,ab,ac))
 (.lit 10000 (1)<|
 .known true<|
 .gh (1:Int) 2<|
 .known false<|
 .gh (1:Int) 2<|
 .cc (ezx aa ac) fun ae=>
 .br (ae !=0)
 (.ret (ae,k,aa,ab,ac))
 (.lit 10000 (2)<|
 .known false<|
 .known false<|
 .ret (0,k,aa,ab,ac)))
noncomputable def wz7 (k)(aa)(ab)(ac):=
 mkD Tryz.func273 (wz8 k aa ab ac) 2 [.bsl 0 2,.bsl 1 2] [(0,.box [pz k,pz aa]),(1,.box [pz ab,pz ac])] (fun r=>pz r.1) (fun r=>[(0,.box [pz r.2.1,pz r.2.2.1]),(1,.box [pz r.2.2.2.1,pz r.2.2.2.2])])
noncomputable def Cz3 (k:B1)(aa:B1):T Int:=
 .call (wz7 k.1 k.2 aa.1 aa.2) [(0,0),(1,64)] fun ab=>
 .ret ab.1
noncomputable def azv:=
 mkp2 Tryz.func272 Cz3
noncomputable def kze (k:B2)(aa:Nat)(ab:Nat)(ac:Int)(ad:Int):T B2:=
 .loop (fun s (ae:B3)=>pk s [0,1,2,3] [] [(8,pz ae.2)] [(0,vO ae.1 290)])
 (.exit 0) (fun s (ae:B2)=>pk s [] [] [] [(0,vO ae 290)])
 (fun ae=>.br (decide (ae.2<ad))
 (.loop (fun s (af:B3)=>pk s [0,1,2,3,8] [] [(9,pz af.2)] [(0,vO af.1 290)])
 (.exit 2) (fun s (af:B2)=>pk s [0,1,2,3,8] [] [] [(0,vO af 290)])
 (fun af=>let ag:=aa+((af.2).toNat);let ah:=i64.wrap (af.2-1);let ai:=aa+(ah.toNat);let aj:=af.1.getD ag default;let ak:=af.1.getD ai default;let al:=af.1.set ag ak;.cub 1 34 [0,1,2,3,8,9] [0]
 (.br (decide (af.2>ac))
 (.gh af.2 ab<|
 .grd (ag<af.1.length)<|
 .gh ah ab<|
 .grd (ai<af.1.length)<|
 .call (azv aj ak) [] fun am=>
 .oo (decide (am<0)))
 (.oo false)) fun am=>
 .br am
 (.gh ah ab<|
 .grd (ai<af.1.length)<|
 .gh af.2 ab<|
 .grd (ag<af.1.length)<|
 .gh af.2 ab<|
 .conv 6015 (kS af.1 290 ag ak)<|
 .grd (ag<af.1.length/\0≤ag)<|
 .gh ah ab<|
 .conv 6017 (kS al 290 ai aj)<|
 .grd (ai<al.length/\0≤ai)<|
 .nn ((al.set ai aj),ah))
 (.oo af.1))
 (ae.1,ae.2) [] fun af=>
 .nn (af,(i64.wrap (ae.2+1))))
 (.oo ae.1))
 (k,(i64.wrap (ac+1))) [] fun ae=>
 .ret ae
noncomputable def kzd (k)(aa)(ab)(ac)(ad):=
 mkD Tryz.func452 (kze k aa ab ac ad) 1 [.view 0 2 aa ab,pz ac,pz ad,.func 272 [] []] [(0,vO k 290)] (fun _=>.tup []) (fun r=>[(0,vO r 290)])
noncomputable def ozj (k:B2)(aa:Nat)(ab:Nat)(ac:Int)(ad:Int)(ae:Int):T B2:=
 .loop (fun s (af:B3)=>pk s [0,2,3,4] [] [(10,pz af.2)] [(0,vO af.1 290)])
 (.exit 0) (fun s (af:B2)=>pk s [] [] [] [(0,vO af 290)])
 (fun af=>let ag:=i64.wrap ((i64.wrap (2 * af.2))+1);let ah:=i64.wrap (ae+ag);let ai:=aa+(ah.toNat);let aj:=i64.wrap (ah+1);let ak:=aa+(aj.toNat);let al:=i64.wrap (ae+af.2);let am:=aa+(al.toNat);let an:=af.1.getD am default;let ao:=i64.wrap (ag+1);.br (decide (ag≥ad))
 (.oo af.1)
 (.cut 0 (fun s (ap:Int)=>pk s [0,2,3,4,10] [0] [(11,pz ap)] [])
 (.cub 0 40 [0,2,3,4,10,11] [0]
 (.br (decide (ao<ad))
 (.gh ah ab<|
 .grd (ai<af.1.length)<|
 .gh aj ab<|
 .grd (ak<af.1.length)<|
 .call (azv (af.1.getD ai default) (af.1.getD ak default)) [] fun ap=>
 .oo (decide (ap<0)))
 (.oo false)) fun ap=>
 .br ap
 (.oo ao)
 (.oo ag)) fun ap=>let aq:=i64.wrap (ae+ap);let ar:=aa+(aq.toNat);let au:=af.1.getD ar default;let av:=af.1.set am au;
 .gh al ab<|
 .grd (am<af.1.length)<|
 .gh aq ab<|
 .grd (ar<af.1.length)<|
 .call (azv an au) [] fun aw=>
 .br (!(decide (aw<0)))
 (.ff af.1)
 (.gh aq ab<|
 .grd (ar<af.1.length)<|
 .gh al ab<|
 .grd (am<af.1.length)<|
 .gh al ab<|
 .conv 6021 (kS af.1 290 am au)<|
 .grd (am<af.1.length/\0≤am)<|
 .gh aq ab<|
 .conv 6023 (kS av 290 ar an)<|
 .grd (ar<av.length/\0≤ar)<|
 .nn ((av.set ar an),ap))))
 (k,ac) [] fun af=>
 .ret af
noncomputable def gzi (k)(aa)(ab)(ac)(ad)(ae):=
 mkD Tryz.func505 (ozj k aa ab ac ad ae) 1 [.view 0 2 aa ab,pz ac,pz ad,pz ae,.func 272 [] []] [(0,vO k 290)] (fun _=>.tup []) (fun r=>[(0,vO r 290)])
noncomputable def ozi (k:B2)(aa:Nat)(ab:Nat)(ac:Int)(ad:Int):T B2:=let ae:=aa+(ac.toNat);let af:=i64.wrap (ad-ac);let ag:=i64.wrap (af-1);.ok ((2:Int)≠0) (by decide)<|
 .loop (fun s (ah:B3)=>pk s [0,3,8,9,10] [] [(11,pz ah.2)] [(0,vO ah.1 290)])
 (.exit 0) (fun s (ah:B2)=>pk s [0,3,8,9,10] [] [] [(0,vO ah 290)])
 (fun ah=>.br (decide (ah.2≥0))
 (.call (gzi ah.1 aa ab ah.2 af ac) [(0,0)] fun ai=>
 .nn (ai,(i64.wrap (ah.2-1))))
 (.oo ah.1))
 (k,(i64.wrap (ag.tdiv 2))) [] fun ah=>
 .loop (fun s (ai:B3)=>pk s [0,3,8,9] [] [(12,pz ai.2)] [(0,vO ai.1 290)])
 (.exit 2) (fun s (ai:B2)=>pk s [] [] [] [(0,vO ai 290)])
 (fun ai=>let aj:=i64.wrap (ac+ai.2);let ak:=aa+(aj.toNat);let al:=ai.1.getD ak default;let am:=ai.1.set ae al;let an:=ai.1.getD ae default;.br (decide (ai.2≥0))
 (.gh aj ab<|
 .grd (ak<ai.1.length)<|
 .gh ac ab<|
 .grd (ae<ai.1.length)<|
 .gh ac ab<|
 .conv 10017 (kS ai.1 290 ae al)<|
 .grd (ae<ai.1.length/\0≤ae)<|
 .gh aj ab<|
 .conv 10019 (kS am 290 ak an)<|
 .grd (ak<am.length/\0≤ak)<|
 .call (gzi (am.set ak an) aa ab 0 ai.2 ac) [(0,0)] fun ao=>
 .nn (ao,(i64.wrap (ai.2-1))))
 (.oo ai.1))
 (ah,ag) [] fun ai=>
 .ret ai
noncomputable def ozh (k)(aa)(ab)(ac)(ad):=
 mkD Tryz.func453 (ozi k aa ab ac ad) 1 [.view 0 2 aa ab,pz ac,pz ad,.func 272 [] []] [(0,vO k 290)] (fun _=>.tup []) (fun r=>[(0,vO r 290)])
noncomputable def qzn (k:B2)(aa:Nat)(ab:Nat)(ac:Int)(ad:Int)(ae:Int):T Bj:=let af:=aa+(ad.toNat);let ag:=aa+(ac.toNat);.gh ad ab<|
 .grd (af<k.length)<|
 .gh ac ab<|
 .grd (ag<k.length)<|
 .cc (azv (k.getD af default) (k.getD ag default)) fun ah=>
 .br (decide (ah<0))
 (.ret (ad,ac,(i64.wrap (ae+1))))
 (.ret (ac,ad,ae))
noncomputable def ezq (k)(aa)(ab)(ac)(ad)(ae):=
 mkD Tryz.func524 (qzn k aa ab ac ad ae) 2 [.view 0 2 aa ab,pz ac,pz ad,.ptr 1 0,.func 272 [] []] [(0,vO k 290),(1,.box [pz ae])] (fun r=>.tup [pz r.1,pz r.2.1]) (fun r=>[(0,vO k 290),(1,.box [pz r.2.2])])
noncomputable def qzm (k:B2)(aa:Nat)(ab:Nat)(ac:Int)(ad:Int)(ae:Int)(af:Int):T B1:=
 .call (ezq k aa ab ac ad af) [(0,0),(1,1)] fun ag=>
 .call (ezq k aa ab ag.2.1 ae ag.2.2) [(0,0),(1,1)] fun ah=>
 .call (ezq k aa ab ag.1 ah.1 ah.2.2) [(0,0),(1,1)] fun ai=>
 .ret (ai.2.1,ai.2.2)
noncomputable def hzp (k)(aa)(ab)(ac)(ad)(ae)(af):=
 mkD Tryz.func509 (qzm k aa ab ac ad ae af) 2 [.view 0 2 aa ab,pz ac,pz ad,pz ae,.ptr 1 0,.func 272 [] []] [(0,vO k 290),(1,.box [pz af])] (fun r=>pz r.1) (fun r=>[(0,vO k 290),(1,.box [pz r.2])])
noncomputable def jzt (k:B2)(aa:Nat)(ab:Nat)(ac:Int)(ad:Int):T B1:=
 .call (hzp k aa ab (i64.wrap (ac-1)) ac (i64.wrap (ac+1)) ad) [(0,0),(1,1)] fun ae=>
 .ret (ae.1,ae.2)
noncomputable def dz0 (k)(aa)(ab)(ac)(ad):=
 mkD Tryz.func508 (jzt k aa ab ac ad) 2 [.view 0 2 aa ab,pz ac,.ptr 1 0,.func 272 [] []] [(0,vO k 290),(1,.box [pz ad])] (fun r=>pz r.1) (fun r=>[(0,vO k 290),(1,.box [pz r.2])])
noncomputable def mz4 (k:B2)(aa:Nat)(ab:Nat)(ac:Int)(ad:Int):T B1:=let ae:=i64.wrap (ad-ac);let af:=i64.wrap (ae.tdiv 4);let ag:=i64.wrap (ac+(i64.wrap (af * 2)));let ah:=i64.wrap (ac+(i64.wrap (af * 1)));let ai:=i64.wrap (ac+(i64.wrap (af * 3)));.ok ((4:Int)≠0) (by decide)<|
 .ok ((4:Int)≠0) (by decide)<|
 .ok ((4:Int)≠0) (by decide)<|
 .cut 0 (fun s (aj:B1)=>pk s [11] [0] [(13,pz aj.2)] [(385,.box [pz aj.1])])
 (.br (decide (ae≥8))
 (.cut 0 (fun s (aj:C4)=>pk s [0,3,11] [0] [(12,pz aj.2.1),(13,pz aj.2.2.1),(14,pz aj.2.2.2)] [(385,.box [pz aj.1])])
 (.br (decide (ae≥50))
 (.call (dz0 k aa ab ah 0) [(0,0),(1,385)] fun aj=>
 .call (dz0 k aa ab ag aj.2) [(0,0),(1,385)] fun ak=>
 .call (dz0 k aa ab ai ak.2) [(0,0),(1,385)] fun al=>
 .oo (al.2,aj.1,ak.1,al.1))
 (.oo (0,ah,ag,ai))) fun aj=>
 .call (hzp k aa ab aj.2.1 aj.2.2.1 aj.2.2.2 aj.1) [(0,0),(1,385)] fun ak=>
 .oo (ak.2,ak.1))
 (.oo (0,ag))) fun aj=>
 .br (aj.1==0)
 (.ret (aj.2,1))
 (.br (aj.1==12)
 (.ret (aj.2,2))
 (.ret (aj.2,0)))
noncomputable def mz3 (k)(aa)(ab)(ac)(ad):=
 mkD Tryz.func455 (mz4 k aa ab ac ad) 1 [.view 0 2 aa ab,pz ac,pz ad,.func 272 [] []] [(0,vO k 290)] (fun r=>.tup [pz r.1,pz r.2]) (fun _=>[(0,vO k 290)])
noncomputable def kzp (k:B2)(aa:Nat)(ab:Nat)(ac:Int)(ad:Int):T B2:=
 .loop (fun s (ae:Bh)=>pk s [0] [] [(8,pz ae.2.1),(9,pz ae.2.2)] [(0,vO ae.1 290)])
 (.exit 0) (fun s (ae:B2)=>pk s [] [] [] [(0,vO ae 290)])
 (fun ae=>let af:=aa+((ae.2.2).toNat);let ag:=aa+((ae.2.1).toNat);let ah:=ae.1.getD af default;let ai:=ae.1.set ag ah;let aj:=ae.1.getD ag default;.br (decide (ae.2.1<ae.2.2))
 (.gh ae.2.2 ab<|
 .grd (af<ae.1.length)<|
 .gh ae.2.1 ab<|
 .grd (ag<ae.1.length)<|
 .gh ae.2.1 ab<|
 .conv 3013 (kS ae.1 290 ag ah)<|
 .grd (ag<ae.1.length/\0≤ag)<|
 .gh ae.2.2 ab<|
 .conv 3015 (kS ai 290 af aj)<|
 .grd (af<ai.length/\0≤af)<|
 .nn ((ai.set af aj),(i64.wrap (ae.2.1+1)),(i64.wrap (ae.2.2-1))))
 (.oo ae.1))
 (k,ac,(i64.wrap (ad-1))) [] fun ae=>
 .ret ae
noncomputable def kzo (k)(aa)(ab)(ac)(ad):=
 mkD Tryz.func456 (kzp k aa ab ac ad) 1 [.view 0 2 aa ab,pz ac,pz ad,.func 272 [] []] [(0,vO k 290)] (fun _=>.tup []) (fun r=>[(0,vO r 290)])
noncomputable def gzx (k:B2)(aa:Nat)(ab:Nat)(ac:Int)(ad:Int):T (Bool×B2):=
 .loop (fun s (ae:Bh)=>pk s [0,1,2,3] [] [(9,pz ae.2.1),(10,pz ae.2.2)] [(0,vO ae.1 290)])
 (.exit 0) (fun s (ae:B2)=>pk s [] [] [] [(0,vO ae 290)])
 (fun ae=>.br (decide (ae.2.2<5))
 (.cut 0 (fun s (af:B3)=>pk s [0,1,2,3,10] [] [(9,pz af.2)] [(0,vO af.1 290)])
 (.loop (ik 9 [0,1,2,3,10] [0])
 (.exit 2) (ik 9 [0,1,2,3,10] [0])
 (fun af=>let ag:=aa+(af.toNat);let ah:=i64.wrap (af-1);let ai:=aa+(ah.toNat);.cub 1 36 [0,1,2,3,9,10] [0]
 (.br (decide (af<ad))
 (.gh af ab<|
 .grd (ag<ae.1.length)<|
 .gh ah ab<|
 .grd (ai<ae.1.length)<|
 .call (azv (ae.1.getD ag default) (ae.1.getD ai default)) [] fun aj=>
 .oo (!(decide (aj<0))))
 (.oo false)) fun aj=>
 .br aj
 (.nn (i64.wrap (af+1)))
 (.oo af))
 ae.2.1 [] fun af=>let ag:=aa+(af.toNat);let ah:=i64.wrap (af-1);let ai:=aa+(ah.toNat);let aj:=ae.1.getD ai default;let ak:=ae.1.set ag aj;let al:=ae.1.getD ag default;let am:=ak.set ai al;
 .br (af==ad)
 (.ff (.fin (true,ae.1)))
 (.br (decide ((i64.wrap (ad-ac))<50))
 (.ff (.fin (false,ae.1)))
 (.gh ah ab<|
 .grd (ai<ae.1.length)<|
 .gh af ab<|
 .grd (ag<ae.1.length)<|
 .gh af ab<|
 .conv 11015 (kS ae.1 290 ag aj)<|
 .grd (ag<ae.1.length/\0≤ag)<|
 .gh ah ab<|
 .conv 11017 (kS ak 290 ai al)<|
 .grd (ai<ak.length/\0≤ai)<|
 .cut 0 (fun s (an:B2)=>pk s [0,1,2,3,9,10] [] [] [(0,vO an 290)])
 (.br (decide ((i64.wrap (af-ac))≥2))
 (.loop (fun s (an:B3)=>pk s [0,1,2,3,9,10] [] [(11,pz an.2)] [(0,vO an.1 290)])
 (.exit 4) (fun s (an:B2)=>pk s [0,1,2,3,9,10] [] [] [(0,vO an 290)])
 (fun an=>let ao:=aa+((an.2).toNat);let ap:=i64.wrap (an.2-1);let aq:=aa+(ap.toNat);let ar:=an.1.getD ao default;let au:=an.1.getD aq default;let av:=an.1.set ao au;.br (decide (an.2≥1))
 (.gh an.2 ab<|
 .grd (ao<an.1.length)<|
 .gh ap ab<|
 .grd (aq<an.1.length)<|
 .call (azv ar au) [] fun aw=>
 .br (!(decide (aw<0)))
 (.oo an.1)
 (.gh ap ab<|
 .grd (aq<an.1.length)<|
 .gh an.2 ab<|
 .grd (ao<an.1.length)<|
 .gh an.2 ab<|
 .conv 17015 (kS an.1 290 ao au)<|
 .grd (ao<an.1.length/\0≤ao)<|
 .gh ap ab<|
 .conv 17017 (kS av 290 aq ar)<|
 .grd (aq<av.length/\0≤aq)<|
 .nn ((av.set aq ar),ap)))
 (.oo an.1))
 (am,ah) [] fun an=>
 .oo an)
 (.oo am)) fun an=>
 .br (decide ((i64.wrap (ad-af))≥2))
 (.loop (fun s (ao:B3)=>pk s [0,1,2,3,9,10] [] [(12,pz ao.2)] [(0,vO ao.1 290)])
 (.exit 6) (fun s (ao:B2)=>pk s [0,1,2,3,9,10] [] [] [(0,vO ao 290)])
 (fun ao=>let ap:=aa+((ao.2).toNat);let aq:=i64.wrap (ao.2-1);let ar:=aa+(aq.toNat);let au:=ao.1.getD ap default;let av:=ao.1.getD ar default;let aw:=ao.1.set ap av;.br (decide (ao.2<ad))
 (.gh ao.2 ab<|
 .grd (ap<ao.1.length)<|
 .gh aq ab<|
 .grd (ar<ao.1.length)<|
 .call (azv au av) [] fun ax=>
 .br (!(decide (ax<0)))
 (.oo ao.1)
 (.gh aq ab<|
 .grd (ar<ao.1.length)<|
 .gh ao.2 ab<|
 .grd (ap<ao.1.length)<|
 .gh ao.2 ab<|
 .conv 23015 (kS ao.1 290 ap av)<|
 .grd (ap<ao.1.length/\0≤ap)<|
 .gh aq ab<|
 .conv 23017 (kS aw 290 ar au)<|
 .grd (ar<aw.length/\0≤ar)<|
 .nn ((aw.set ar au),(i64.wrap (ao.2+1)))))
 (.oo ao.1))
 (an,(i64.wrap (af+1))) [] fun ao=>
 .oo (ao,af))
 (.oo (an,af))))) fun af=>
 .nn (af.1,af.2,(i64.wrap (ae.2.2+1))))
 (.oo ae.1))
 (k,(i64.wrap (ac+1)),0) [] fun ae=>
 .ret (false,ae)
noncomputable def gzw (k)(aa)(ab)(ac)(ad):=
 mkD Tryz.func457 (gzx k aa ab ac ad) 1 [.view 0 2 aa ab,pz ac,pz ad,.func 272 [] []] [(0,vO k 290)] (fun r=>q r.1) (fun r=>[(0,vO r.2 290)])
noncomputable def jzv (k:B2)(aa:Nat)(ab:Nat)(ac:Int)(ad:Int)(ae:Int):T (Int×B2):=let af:=aa+(ae.toNat);let ag:=aa+(ac.toNat);let ah:=k.getD af default;let ai:=k.set ag ah;let aj:=k.getD ag default;.gh ae ab<|
 .grd (af<k.length)<|
 .gh ac ab<|
 .grd (ag<k.length)<|
 .gh ac ab<|
 .conv 1013 (kS k 290 ag ah)<|
 .grd (ag<k.length/\0≤ag)<|
 .gh ae ab<|
 .conv 1015 (kS ai 290 af aj)<|
 .grd (af<ai.length/\0≤af)<|
 .loop (fun s (ak:Bh)=>pk s [0,1,4] [] [(11,pz ak.2.1),(12,pz ak.2.2)] [(0,vO ak.1 290)])
 (.exit 0) (fun s (ak:(Int×B2))=>pk s [] [] [(11,pz ak.1)] [(0,vO ak.2 290)])
 (fun ak=>let al:=ak.1.getD ag default;.loop (ik 11 [0,1,4,12] [0])
 (.exit 2) (ik 11 [0,1,4,12] [0])
 (fun am=>let an:=aa+(am.toNat);.cub 1 47 [0,1,4,11,12] [0]
 (.br (decide (am≤ak.2.2))
 (.gh ac ab<|
 .grd (ag<ak.1.length)<|
 .gh am ab<|
 .grd (an<ak.1.length)<|
 .cc (azv al (ak.1.getD an default)) fun ao=>
 .oo (!(decide (ao<0))))
 (.oo false)) fun ao=>
 .br ao
 (.nn (i64.wrap (am+1)))
 (.oo am))
 ak.2.1 [] fun am=>let an:=aa+(am.toNat);let ao:=ak.1.getD an default;
 .loop (ik 12 [0,1,4,11] [0])
 (.exit 4) (ik 12 [0,1,4,11] [0])
 (fun ap=>let aq:=aa+(ap.toNat);.cub 1 65 [0,1,4,11,12] [0]
 (.br (decide (am≤ap))
 (.gh ac ab<|
 .grd (ag<ak.1.length)<|
 .gh ap ab<|
 .grd (aq<ak.1.length)<|
 .cc (azv al (ak.1.getD aq default)) fun ar=>
 .oo (decide (ar<0)))
 (.oo false)) fun ar=>
 .br ar
 (.nn (i64.wrap (ap-1)))
 (.oo ap))
 ak.2.2 [] fun ap=>let aq:=aa+(ap.toNat);let ar:=ak.1.getD aq default;let au:=ak.1.set an ar;
 .br (decide (am>ap))
 (.oo (am,ak.1))
 (.gh ap ab<|
 .grd (aq<ak.1.length)<|
 .gh am ab<|
 .grd (an<ak.1.length)<|
 .gh am ab<|
 .conv 8013 (kS ak.1 290 an ar)<|
 .grd (an<ak.1.length/\0≤an)<|
 .gh ap ab<|
 .conv 8015 (kS au 290 aq ao)<|
 .grd (aq<au.length/\0≤aq)<|
 .nn ((au.set aq ao),(i64.wrap (am+1)),(i64.wrap (ap-1)))))
 ((ai.set af aj),(i64.wrap (ac+1)),(i64.wrap (ad-1))) [] fun ak=>
 .ret (ak.1,ak.2)
noncomputable def jzu (k)(aa)(ab)(ac)(ad)(ae):=
 mkD Tryz.func458 (jzv k aa ab ac ad ae) 1 [.view 0 2 aa ab,pz ac,pz ad,pz ae,.func 272 [] []] [(0,vO k 290)] (fun r=>pz r.1) (fun r=>[(0,vO r.2 290)])
noncomputable def nzd (k:B2)(aa:Nat)(ab:Nat)(ac:Int)(ad:Int)(ae:Int):T (Int×Bool×B2):=let af:=aa+(ae.toNat);let ag:=aa+(ac.toNat);let ah:=k.getD af default;let ai:=k.set ag ah;let aj:=k.getD ag default;let ak:=ai.set af aj;let al:=ak.getD ag default;let am:=i64.wrap (ad-1);.gh ae ab<|
 .grd (af<k.length)<|
 .gh ac ab<|
 .grd (ag<k.length)<|
 .gh ac ab<|
 .conv 1013 (kS k 290 ag ah)<|
 .grd (ag<k.length/\0≤ag)<|
 .gh ae ab<|
 .conv 1015 (kS ai 290 af aj)<|
 .grd (af<ai.length/\0≤af)<|
 .loop (ik 12 [0,1,4,13] [0])
 (.exit 0) (ik 12 [0,1,4,13] [0])
 (fun an=>let ao:=aa+(an.toNat);.cub 1 47 [0,1,4,12,13] [0]
 (.br (decide (an≤am))
 (.gh an ab<|
 .grd (ao<ak.length)<|
 .gh ac ab<|
 .grd (ag<ak.length)<|
 .call (azv (ak.getD ao default) al) [] fun ap=>
 .oo (decide (ap<0)))
 (.oo false)) fun ap=>
 .br ap
 (.nn (i64.wrap (an+1)))
 (.oo an))
 (i64.wrap (ac+1)) [] fun an=>let ao:=aa+(an.toNat);let ap:=ak.getD ao default;
 .loop (ik 13 [0,1,4,12] [0])
 (.exit 2) (ik 13 [0,1,4,12] [0])
 (fun aq=>let ar:=aa+(aq.toNat);.cub 1 66 [0,1,4,12,13] [0]
 (.br (decide (an≤aq))
 (.gh aq ab<|
 .grd (ar<ak.length)<|
 .gh ac ab<|
 .grd (ag<ak.length)<|
 .call (azv (ak.getD ar default) al) [] fun au=>
 .oo (!(decide (au<0))))
 (.oo false)) fun au=>
 .br au
 (.nn (i64.wrap (aq-1)))
 (.oo aq))
 am [] fun aq=>let ar:=aa+(aq.toNat);let au:=ak.set ar al;let av:=ak.getD ar default;let aw:=ak.set ao av;
 .br (decide (an>aq))
 (.gh ac ab<|
 .grd (ag<ak.length)<|
 .gh aq ab<|
 .grd (ar<ak.length)<|
 .gh aq ab<|
 .conv 8013 (kS ak 290 ar al)<|
 .grd (ar<ak.length/\0≤ar)<|
 .gh ac ab<|
 .conv 8015 (kS au 290 ag av)<|
 .grd (ag<au.length/\0≤ag)<|
 .ret (aq,true,(au.set ag av)))
 (.gh aq ab<|
 .grd (ar<ak.length)<|
 .gh an ab<|
 .grd (ao<ak.length)<|
 .gh an ab<|
 .conv 10013 (kS ak 290 ao av)<|
 .grd (ao<ak.length/\0≤ao)<|
 .gh aq ab<|
 .conv 10015 (kS aw 290 ar ap)<|
 .grd (ar<aw.length/\0≤ar)<|
 .loop (fun s (ax:Bh)=>pk s [0,1,4] [] [(12,pz ax.2.1),(13,pz ax.2.2)] [(0,vO ax.1 290)])
 (.exit 4) (fun s (ax:B3)=>pk s [0,1] [] [(13,pz ax.2)] [(0,vO ax.1 290)])
 (fun ax=>let ay:=ax.1.getD ag default;.loop (ik 12 [0,1,4,13] [0])
 (.exit 6) (ik 12 [0,1,4,13] [0])
 (fun az=>let a0:=aa+(az.toNat);.cub 1 120 [0,1,4,12,13] [0]
 (.br (decide (az≤ax.2.2))
 (.gh az ab<|
 .grd (a0<ax.1.length)<|
 .gh ac ab<|
 .grd (ag<ax.1.length)<|
 .cc (azv (ax.1.getD a0 default) ay) fun a1=>
 .oo (decide (a1<0)))
 (.oo false)) fun a1=>
 .br a1
 (.nn (i64.wrap (az+1)))
 (.oo az))
 ax.2.1 [] fun az=>let a0:=aa+(az.toNat);let a1:=ax.1.getD a0 default;
 .loop (ik 13 [0,1,4,12] [0])
 (.exit 8) (ik 13 [0,1,4,12] [0])
 (fun a2=>let a3:=aa+(a2.toNat);.cub 1 139 [0,1,4,12,13] [0]
 (.br (decide (az≤a2))
 (.gh a2 ab<|
 .grd (a3<ax.1.length)<|
 .gh ac ab<|
 .grd (ag<ax.1.length)<|
 .cc (azv (ax.1.getD a3 default) ay) fun a4=>
 .oo (!(decide (a4<0))))
 (.oo false)) fun a4=>
 .br a4
 (.nn (i64.wrap (a2-1)))
 (.oo a2))
 ax.2.2 [] fun a2=>let a3:=aa+(a2.toNat);let a4:=ax.1.getD a3 default;let a5:=ax.1.set a0 a4;
 .br (decide (az>a2))
 (.oo (ax.1,a2))
 (.gh a2 ab<|
 .grd (a3<ax.1.length)<|
 .gh az ab<|
 .grd (a0<ax.1.length)<|
 .gh az ab<|
 .conv 18013 (kS ax.1 290 a0 a4)<|
 .grd (a0<ax.1.length/\0≤a0)<|
 .gh a2 ab<|
 .conv 18015 (kS a5 290 a3 a1)<|
 .grd (a3<a5.length/\0≤a3)<|
 .nn ((a5.set a3 a1),(i64.wrap (az+1)),(i64.wrap (a2-1)))))
 ((aw.set ar ap),(i64.wrap (an+1)),(i64.wrap (aq-1))) [] fun ax=>let ay:=aa+((ax.2).toNat);let az:=ax.1.getD ag default;let a0:=ax.1.set ay az;let a1:=ax.1.getD ay default;
 .gh ac ab<|
 .grd (ag<ax.1.length)<|
 .gh ax.2 ab<|
 .grd (ay<ax.1.length)<|
 .gh ax.2 ab<|
 .conv 21013 (kS ax.1 290 ay az)<|
 .grd (ay<ax.1.length/\0≤ay)<|
 .gh ac ab<|
 .conv 21015 (kS a0 290 ag a1)<|
 .grd (ag<a0.length/\0≤ag)<|
 .ret (ax.2,false,(a0.set ag a1)))
noncomputable def nzc (k)(aa)(ab)(ac)(ad)(ae):=
 mkD Tryz.func459 (nzd k aa ab ac ad ae) 1 [.view 0 2 aa ab,pz ac,pz ad,pz ae,.func 272 [] []] [(0,vO k 290)] (fun r=>.tup [pz r.1,q r.2.1]) (fun r=>[(0,vO r.2.2 290)])
noncomputable def kzc (k:B2)(aa:Nat)(ab:Nat)(ac:Int)(ad:Int):T B2:=let ae:=i64.wrap (ad-ac);let af:=i64.wrap (ac+(i64.wrap ((i64.wrap (ae.tdiv 4)) * 2)));.br (decide (ae≥8))
 (.cc (mz7 ae) fun ag=>
 .ok ((4:Int)≠0) (by decide)<|
 .name 4005 ((i64.wrap (af-1))) fun ah=>
 .loop (fun s (ai:Bh)=>pk s [0,1,8,9,10] [] [(11,pz ai.2.2)] [(0,vO ai.1 290),(513,.box [.pure (.int .u64 ai.2.1)])])
 (.exit 0) (fun s (ai:B2)=>pk s [] [] [] [(0,vO ai 290)])
 (fun ai=>let aj:=aa+((ai.2.2).toNat);let ak:=ai.1.getD aj default;.ok ((4:Int)≠0) (by decide)<|
 .name 5006 ((i64.wrap (af+1))) fun al=>
 .br (decide (ai.2.2≤al))
 (.call (Czn ai.2.1) [(0,513)] fun am=>
 .name 7004 ((i64.wrap (IntKind.u64.wrap (((BitVec.ofInt 64 am.1&&&BitVec.ofInt 64 (IntKind.u64.wrap (ag-1))).toNat:Int))))) fun an=>
 .cut 0 (fun s (ao:Int)=>pk s [0,1,8,9,10,11] [0,513] [(12,pz ao)] [])
 (.br (decide (an≥ae))
 (.oo (i64.wrap (an-ae)))
 (.oo an)) fun ao=>let ap:=i64.wrap (ac+ao);let aq:=aa+(ap.toNat);let ar:=ai.1.getD aq default;let au:=ai.1.set aj ar;
 .gh ap ab<|
 .grd (aq<ai.1.length)<|
 .gh ai.2.2 ab<|
 .grd (aj<ai.1.length)<|
 .gh ai.2.2 ab<|
 .conv 10017 (kS ai.1 290 aj ar)<|
 .grd (aj<ai.1.length/\0≤aj)<|
 .gh ap ab<|
 .conv 10019 (kS au 290 aq ak)<|
 .grd (aq<au.length/\0≤aq)<|
 .nn ((au.set aq ak),am.2,(i64.wrap (ai.2.2+1))))
 (.oo ai.1))
 (k,(IntKind.u64.wrap ae),ah) [] fun ai=>
 .ret ai)
 (.ret k)
noncomputable def kzb (k)(aa)(ab)(ac)(ad):=
 mkD Tryz.func454 (kzc k aa ab ac ad) 1 [.view 0 2 aa ab,pz ac,pz ad,.func 272 [] []] [(0,vO k 290)] (fun _=>.tup []) (fun r=>[(0,vO r 290)])
abbrev ezi:=RecS Tryz.prog 380 1 (B2×Nat×Nat×Int×Int×Int) B2 (fun a=>[.view 0 2 a.2.1 a.2.2.1,pz a.2.2.2.1,pz a.2.2.2.2.1,pz a.2.2.2.2.2,.func 272 [] []]) (fun a=>[(0,vO a.1 290)]) (fun _ _=>.tup []) (fun _ r=>[(0,vO r 290)])
noncomputable def pzn (rec:ezi)(k:B2)(aa:Nat)(ab:Nat)(ac:Int)(ad:Int)(ae:Int):T B2:=
 .loop (fun s (af:(B2×Int×Int×Int×Bool×Bool))=>pk s [0,4] [] [(1,pz af.2.1),(2,pz af.2.2.1),(3,pz af.2.2.2.1),(10,q af.2.2.2.2.1),(11,q af.2.2.2.2.2)] [(0,vO af.1 290)])
 .ret (fun _ (_:U0)=>⟨[],[],[],1⟩)
 (fun af=>let ag:=i64.wrap (af.2.2.1-af.2.1);let ah:=i64.wrap (af.2.1-1);let ai:=aa+(ah.toNat);let aj:=i64.wrap (ag.tdiv 8);.br (decide (ag≤12))
 (.call (kzd af.1 aa ab af.2.1 af.2.2.1) [(0,0)] fun ak=>
 .ff ak)
 (.br (af.2.2.2.1==0)
 (.call (ozh af.1 aa ab af.2.1 af.2.2.1) [(0,0)] fun ak=>
 .ff ak)
 (.cut 0 (fun s (ak:B3)=>pk s [0,1,2,4,10,11,12] [] [(3,pz ak.2)] [(0,vO ak.1 290)])
 (.br (!af.2.2.2.2.1)
 (.call (kzb af.1 aa ab af.2.1 af.2.2.1) [(0,0)] fun ak=>
 .oo (ak,(i64.wrap (af.2.2.2.1-1))))
 (.oo (af.1,af.2.2.2.1))) fun ak=>
 .call (mz3 ak.1 aa ab af.2.1 af.2.2.1) [(0,0)] fun al=>
 .cut 0 (fun s (am:Bh)=>pk s [0,1,2,3,4,10,11,12] [] [(13,pz am.2.1),(14,pz am.2.2)] [(0,vO am.1 290)])
 (.br (al.2==2)
 (.call (kzo ak.1 aa ab af.2.1 af.2.2.1) [(0,0)] fun am=>
 .oo (am,(i64.wrap ((i64.wrap (af.2.2.1-1))- (i64.wrap (al.1-af.2.1)))),1))
 (.oo (ak.1,al.1,al.2))) fun am=>let an:=(am.2.1).toNat;
 .cut 0 (fun s (ao:B2)=>pk s [0,1,2,3,4,10,11,12,13] [] [] [(0,vO ao 290)])
 (.cub 0 75 [0,1,2,3,4,10,11,12,13] [0]
 (.br af.2.2.2.2.1
 (.br af.2.2.2.2.2
 (.oo (am.2.2==1))
 (.oo false))
 (.oo false)) fun ao=>
 .br ao
 (.call (gzw am.1 aa ab af.2.1 af.2.2.1) [(0,0)] fun ap=>
 .br ap.1
 (.ff (.fin ap.2))
 (.oo ap.2))
 (.oo am.1)) fun ao=>
 .cub 1 97 [0,1,2,3,4,10,11,12,13] [0]
 (.br (decide (af.2.1>0))
 (.gh ah ab<|
 .grd (ai<ao.length)<|
 .gh am.2.1 ab<|
 .grd ((aa+an)<ao.length)<|
 .call (azv (ao.getD ai default) (ao.getD (aa+an) default)) [] fun ap=>
 .oo (!(decide (ap<0))))
 (.oo false)) fun ap=>
 .br ap
 (.call (jzu ao aa ab af.2.1 af.2.2.1 am.2.1) [(0,0)] fun aq=>
 .nn (aq.2,aq.1,af.2.2.1,ak.2,af.2.2.2.2.1,af.2.2.2.2.2))
 (.call (nzc ao aa ab af.2.1 af.2.2.1 am.2.1) [(0,0)] fun aq=>let ar:=i64.wrap (aq.1-af.2.1);let au:=i64.wrap (af.2.2.1-aq.1);let av:=i64.wrap (aq.1+1);
 .ok ((8:Int)≠0) (by decide)<|
 .br (decide (ar<au))
 (.call (rec.C (aq.2.2,aa,ab,af.2.1,aq.1,ak.2)) [(0,0)] fun aw=>
 .nn (aw,av,af.2.2.1,ak.2,(decide (ar≥aj)),aq.2.1))
 (.call (rec.C (aq.2.2,aa,ab,av,af.2.2.1,ak.2)) [(0,0)] fun aw=>
 .nn (aw,af.2.1,aq.1,ak.2,(decide (au≥aj)),aq.2.1))))))
 (k,ac,ad,ae,true,true) [] fun _=>
 .stop
noncomputable def pzm:ezi->ezi:=RecS.next [] hd Tryz.func380 (by kernel_rfl) (fun rec a=>pzn rec a.1 a.2.1 a.2.2.1 a.2.2.2.1 a.2.2.2.2.1 a.2.2.2.2.2) (fun rec a=>by kernel_rfl)
noncomputable def pzl (a0:B2)(a1:Nat)(a2:Nat)(a3:Int)(a4:Int)(a5:Int):CallS B2:=(RecS.fix pzm NN).C (a0,a1,a2,a3,a4,a5)
noncomputable def pzi (k:B2)(aa:Nat)(ab:Nat):T B2:=let ac:=(ab:Int);.cc (rzj (IntKind.u64.wrap ac)) fun ad=>
 .call (pzl k aa ab 0 ac ad) [(0,0)] fun ae=>
 .ret ae
noncomputable def pzh (k)(aa)(ab):=
 mkD Tryz.func271 (pzi k aa ab) 1 [.view 0 2 aa ab,.func 272 [] []] [(0,vO k 290)] (fun _=>.tup []) (fun r=>[(0,vO r 290)])
noncomputable def Fzt (k:azn)(aa:A5)(ab:Int):T B2:=let ac:=(aa.length:Nat);.cc (Mzh aa) fun ad=>
 .loop (fun s (ae:(B2×B5×Int))=>pk s [1,2,3,7,8,9,18,19] [0] [(20,pz ae.2.2)] [(128,vO ae.1 290),(192,Azz [.int .i64 0,.int .i64 0] czg ae.2.1)])
 (.exit 0) (fun s (ae:B2)=>pk s [7] [] [] [(128,vO ae 290)])
 (fun ae=>.br (decide (ae.2.2<(ac:Int)))
 (.gh ae.2.2 aa.length<|
 .call (Hz0 (⟨k.Joints,k.Masses⟩:azn) aa ad (aa.getD ((ae.2.2).toNat) default) (i64.wrap ((min ab (ac:Int))+1))) [] fun af=>
 .loop (fun s (ag:(B2×B5×Int))=>pk s [1,2,3,7,8,9,10,18,19,20,34,35] [0] [(36,pz ag.2.2)] [(128,vO ag.1 290),(192,Azz [.int .i64 0,.int .i64 0] czg ag.2.1)])
 (.exit 2) (fun s (ag:(B2×B5))=>pk s [1,2,3,7,8,9,18,19,20] [0] [] [(128,vO ag.1 290),(192,Azz [.int .i64 0,.int .i64 0] czg ag.2)])
 (fun ag=>let ah:=af.getD ((ag.2.2).toNat) default;let ai:=min ae.2.2 ah;let aj:=max ae.2.2 ah;let ak:=czg (ai,aj);let al:=Gzw czg ag.2.1 ak;let am:=([(ai,aj)]:B2);let an:=ag.1.length+am.length;.br (decide (ag.2.2<(af.length:Int)))
 (.cut 0 (fun s (ao:(B2×B5))=>pk s [1,2,3,8,9,10,18,19,20,34,35,36] [0] [(7,.vec 2048)] [(192,Azz [.int .i64 0,.int .i64 0] czg ao.2),(2048,vO ao.1 290)])
 (.gh ag.2.2 af.length<|
 .cub 1 55 [1,2,3,7,8,9,10,14,18,19,20,34,35,36] [0,128,192,2688]
 (.br (ae.2.2 !=ah)
 (.ok ((mdom czg ag.2.1 ak)=false->PSub (.bool false) (PVal.bool al)) az2v<|
 .oo (!al))
 (.oo false)) fun ao=>
 .br ao
 (.conv 12002 (az5i [.int .i64 0,.int .i64 0] czg ag.2.1 (ai,aj) true)<|
 .conv 13002 (kL am 290)<|
 .conv 13003 (kA ag.1 am 290)<|
 .grd (an * 16≤140737488355328/\an≤maxLen)<|
 .oo ((ag.1++am),(((ai,aj),true)::ag.2.1)))
 (.oo (ag.1,ag.2.1))) fun ao=>
 .nn (ao.1,ao.2,(i64.wrap (ag.2.2+1))))
 (.oo (ag.1,ag.2.1)))
 (ae.1,ae.2.1,0) [] fun ag=>
 .nn (ag.1,ag.2,(i64.wrap (ae.2.2+1))))
 (.oo ae.1))
 (nl,(nl:List (B1×Bool)),0) [] fun ae=>
 .call (pzh ae 0 ae.length) [(0,128)] fun af=>
 .ret af
noncomputable def Fzs:=
 mkp3 Tryz.func171 Fzt
noncomputable def Jz2 (k:azn)(aa:A4)(ab:A4):T Int:=let ac:=(k.Joints.length:Int);.cub 3 38 [1,2,3] [0]
 (.br ((aa.length:Int) !=ac)
 (.oo true)
 (.br ((ab.length:Int) !=ac)
 (.oo true)
 (.cc (gzz aa) fun ad=>
 .br (!ad)
 (.oo true)
 (.cc (gzz ab) fun ae=>
 .br (!ae)
 (.oo true)
 (.cc (ezp k) fun af=>
 .oo (af !=0)))))) fun ad=>
 .br ad
 (.ret 0)
 (.loop (fun s (ae:B1)=>pk s [1,2,40,41] [] [(8,pz ae.1),(42,pz ae.2)] [])
 (.exit 0) (ik 8 [] [])
 (fun ae=>let af:=(ae.2).toNat;let ag:=ab.getD af default;let ah:=aa.getD af default;.br (decide (ae.2<ac))
 (.gh ae.2 k.Joints.length<|
 .gh ae.2 ab.length<|
 .gh ae.2 aa.length<|
 .gh ae.2 aa.length<|
 .gh ae.2 ab.length<|
 .name 8021 ((max (i64.wrap (ag-ah)) (i64.wrap (ah-ag)))) fun ai=>
 .nn ((i64.wrap (ae.1+(i64.wrap (((k.Joints.getD af default).Weight) * ai)))),(i64.wrap (ae.2+1))))
 (.oo ae.1))
 (0,0) [] fun ae=>
 .ret ae)
noncomputable def Jz1:=
 mkp3 Tryz.func274 Jz2
noncomputable def Iz2 (k:azn)(aa:A5)(ab:Int)(ac:Int):T az4:=
 .gh ab aa.length<|
 .gh ac aa.length<|
 .cc (Jz1 k (aa.getD (ab.toNat) default) (aa.getD (ac.toNat) default)) fun ad=>
 .ret (⟨ab,ac,ad,0,(⟨0,nl,(⟨0,0,nl⟩:azi),(⟨0,nl,nl⟩:czs)⟩:bzq)⟩:az4)
noncomputable def Iz1:=
 mkp4 Tryz.func172 Iz2
noncomputable def Wz5 (k:azn)(aa:A5)(ab:Int):T azu:=
 .cc (ezp k) fun ac=>
 .br (ac !=0)
 (.ret (⟨nl,nl⟩:azu))
 (.cc (Hzz k aa) fun ad=>
 .br (decide (ab<1))
 (.ret (⟨ad,nl⟩:azu))
 (.cc (Fzs k ad ab) fun ae=>let af:=(ae.length:Int);let ag:=min af 8192;let ah:=(ae.drop ((0:Int).toNat)).take (ag.toNat- (0:Int).toNat);
 .conv 8004 (Ezu 2 Gzd ae (0:Int) ag)<|
 .grd (0≤(0:Int)/\(0:Int)≤ag/\ag≤af)<|
 .name 8005 ((ah.length:Int)) fun ai=>
 .loop (fun s (aj:An)=>pk s [3,6,31,32] [0,64] [(33,pz aj.2)] [(66,vO aj.1 286)])
 (.exit 0) (fun s (aj:Al)=>pk s [6] [64] [] [(66,vO aj 286)])
 (fun aj=>let ak:=ah.getD ((aj.2).toNat) default;.br (decide (aj.2<ai))
 (.gh aj.2 (ah.length)<|
 .ix 0 2 rfl<|
 .name 11006 (ak.1) fun al=>
 .ix 1 2 rfl<|
 .name 11008 (ak.2) fun am=>
 .cc (Iz1 k ad al am) fun an=>let ao:=([an]:Al);let ap:=aj.1.length+ao.length;
 .conv 11010 (kL ao 286)<|
 .conv 11011 (kA aj.1 ao 286)<|
 .grd (ap * 160≤140737488355328/\ap≤maxLen)<|
 .nn ((aj.1++ao),(i64.wrap (aj.2+1))))
 (.oo aj.1))
 (nl,0) [] fun aj=>
 .ret (⟨ad,aj⟩:azu)))
noncomputable def Wz4 (k)(aa)(ab):=
 mkC [⟨169,az92⟩] hd Tryz.func94 (by kernel_rfl) (Wz5 k aa ab) 0 [q k,q aa,pz ab] [] (fun r=>q r) (fun _=>[]) (by kernel_rfl)
open Go.Proofs
noncomputable def qzf (a0:A5):T A5:=
 (match a0 with
  |[]=>.unroll 1<|
  .grd (a0.length=0)<|
  .both
   (.ret nl)
   (.conv 3000 (kL ([]:A5) 30)<|
   .conv 3002 (kA ([]:A5) a0 30)<|
   .grd ((([]:A5).length+a0.length) * 24≤140737488355328/\(([]:A5).length+a0.length)≤maxLen)<|
   .ret (([]:A5)++a0))
  |_::_=>.grd (0<a0.length)<|
  .conv 3000 (kL ([]:A5) 30)<|
  .conv 3002 (kA ([]:A5) a0 30)<|
  .grd ((([]:A5).length+a0.length) * 24≤140737488355328/\(([]:A5).length+a0.length)≤maxLen)<|
  .ret (([]:A5)++a0))
noncomputable def hzo (a0:A5):CallS A5:=
 mkH [] hd Tryz.func383 (by kernel_rfl) (qzf a0) 0 [q a0] [] (fun _=>.vec 0) (fun r=>[(0,vO r 30)]) (by cases a0<;>exact Ob.of_side (by kernel_rfl))
noncomputable def fzv (a0:Al):T Al:=
 (match a0 with
  |[]=>.unroll 1<|
  .grd (a0.length=0)<|
  .both
   (.ret nl)
   (.conv 3000 (kL ([]:Al) 286)<|
   .conv 3002 (kA ([]:Al) a0 286)<|
   .grd ((([]:Al).length+a0.length) * 160≤140737488355328/\(([]:Al).length+a0.length)≤maxLen)<|
   .ret (([]:Al)++a0))
  |_::_=>.grd (0<a0.length)<|
  .conv 3000 (kL ([]:Al) 286)<|
  .conv 3002 (kA ([]:Al) a0 286)<|
  .grd ((([]:Al).length+a0.length) * 160≤140737488355328/\(([]:Al).length+a0.length)≤maxLen)<|
  .ret (([]:Al)++a0))
noncomputable def fzu (a0:Al):CallS Al:=
 mkH [] hd Tryz.func437 (by kernel_rfl) (fzv a0) 0 [q a0] [] (fun _=>.vec 0) (fun r=>[(0,vO r 286)]) (by cases a0<;>exact Ob.of_side (by kernel_rfl))
noncomputable def kzk (a0:Ao):T Ao:=
 (match a0 with
  |[]=>.unroll 1<|
  .grd (a0.length=0)<|
  .both
   (.ret nl)
   (.conv 3000 (kL ([]:Ao) 87)<|
   .conv 3002 (kA ([]:Ao) a0 87)<|
   .grd ((([]:Ao).length+a0.length) * 40≤140737488355328/\(([]:Ao).length+a0.length)≤maxLen)<|
   .ret (([]:Ao)++a0))
  |_::_=>.grd (0<a0.length)<|
  .conv 3000 (kL ([]:Ao) 87)<|
  .conv 3002 (kA ([]:Ao) a0 87)<|
  .grd ((([]:Ao).length+a0.length) * 40≤140737488355328/\(([]:Ao).length+a0.length)≤maxLen)<|
  .ret (([]:Ao)++a0))
noncomputable def fz9 (a0:Ao):CallS Ao:=
 mkH [] hd Tryz.func438 (by kernel_rfl) (kzk a0) 0 [q a0] [] (fun _=>.vec 0) (fun r=>[(0,vO r 87)]) (by cases a0<;>exact Ob.of_side (by kernel_rfl))
noncomputable def mzf (a0:Bk):T Bk:=
 (match a0 with
  |[]=>.unroll 1<|
  .grd (a0.length=0)<|
  .both
   (.ret nl)
   (.conv 3000 (kL ([]:Bk) 100)<|
   .conv 3002 (kA ([]:Bk) a0 100)<|
   .grd ((([]:Bk).length+a0.length) * 24≤140737488355328/\(([]:Bk).length+a0.length)≤maxLen)<|
   .ret (([]:Bk)++a0))
  |_::_=>.grd (0<a0.length)<|
  .conv 3000 (kL ([]:Bk) 100)<|
  .conv 3002 (kA ([]:Bk) a0 100)<|
  .grd ((([]:Bk).length+a0.length) * 24≤140737488355328/\(([]:Bk).length+a0.length)≤maxLen)<|
  .ret (([]:Bk)++a0))
noncomputable def czd (a0:Bk):CallS Bk:=
 mkH [] hd Tryz.func306 (by kernel_rfl) (mzf a0) 0 [q a0] [] (fun r=>q r) (fun _=>[]) (by cases a0<;>exact Ob.of_side (by kernel_rfl))
noncomputable def Cz2 (k:bzq):T bzq:=
 .cc (fz9 k.Pieces) fun aa=>
 .unroll 998<|
 .loop (fun s (ab:Ap)=>pk s [1,2,10,11] [0,64,66,69,71,72] [(12,pz ab.2)] [(256,vO ab.1 87)])
 (.exit 0) (fun s (ab:Ao)=>pk s [1,2] [0,64,66,69,71,72] [] [(256,vO ab 87)])
 (fun ab=>let ac:=(ab.2).toNat;let ad:=ab.1.getD ac default;.br (decide (ab.2<(aa.length:Int)))
 (.gg ab.2 ab.1.length<|
 .cc (czd (ad.Normals)) fun ae=>let af:=(⟨ad.Depth,ad.Index,ae⟩:azi);
 .gh ab.2 ab.1.length<|
 .conv 5008 (kS ab.1 87 ac af)<|
 .gi (ab.2) ab.1.length<|
 .nn ((ab.1.set ac af),(i64.wrap (ab.2+1))))
 (.oo ab.1))
 (aa,0) [] fun ab=>
 .cc (czd k.At.Normals) fun ac=>
 .cc (bzp k.Witness.Left) fun ad=>
 .cc (bzp k.Witness.Right) fun ae=>
 .ret (⟨k.Kind,ab,(⟨k.At.Depth,k.At.Index,ac⟩:azi),(⟨k.Witness.Pair,ad,ae⟩:czs)⟩:bzq)
noncomputable def fzl:=
 mkp1 Tryz.func352 Cz2
noncomputable def Qzc (k:azu):T Am:=
 .cc (hzo k.Points) fun aa=>
 .cc (fzu k.Edges) fun ab=>
 .loop (fun s (ac:Aq)=>pk s [2,3,4,15,16] [64,65,66,448] [(17,pz ac.2)] [(256,vO ac.1 30)])
 (.exit 0) (fun s (ac:A5)=>pk s [2,3,4] [64,65,66,448] [] [(256,vO ac 30)])
 (fun ac=>let ad:=(ac.2).toNat;.br (decide (ac.2<(aa.length:Int)))
 (.gg ac.2 ac.1.length<|
 .cc (bzp (ac.1.getD ad default)) fun ae=>
 .gh ac.2 ac.1.length<|
 .conv 5005 (kS ac.1 30 ad ae)<|
 .gi (ac.2) ac.1.length<|
 .nn ((ac.1.set ad ae),(i64.wrap (ac.2+1))))
 (.oo ac.1))
 (aa,0) [] fun ac=>
 .loop (fun s (ad:An)=>pk s [2,3,4,28,29] [64,65,66,256] [(30,pz ad.2)] [(448,vO ad.1 286)])
 (.exit 2) (fun s (ad:Al)=>pk s [2,3,4] [64,65,66,256] [] [(448,vO ad 286)])
 (fun ad=>let ae:=(ad.2).toNat;let af:=ad.1.getD ae default;.br (decide (ad.2<(ab.length:Int)))
 (.gg ad.2 ad.1.length<|
 .cc (fzl (af.Proof)) fun ag=>let ah:=(⟨af.U,af.V,af.Cost,af.State,ag⟩:az4);
 .gh ad.2 ad.1.length<|
 .conv 10007 (kS ad.1 286 ae ah)<|
 .gi (ad.2) ad.1.length<|
 .nn ((ad.1.set ae ah),(i64.wrap (ad.2+1))))
 (.oo ad.1))
 (ab,0) [] fun ad=>
 .ret (ac,ad)
noncomputable def Qzb:=
 mkv1 Tryz.func350 Qzc (fun _=>.agg [.vec 0,.vec 1]) (fun r=>[(0,vO r.1 30),(1,vO r.2 286)])
noncomputable def Szm (k:Int):T Int:=
 .br (k==1)
 (.ret 1)
 (.br (k==2)
 (.ret 2)
 (.ret 0))
noncomputable def Eze:=
 mkp1 Tryz.func351 Szm
noncomputable def Szl (k:azu)(aa:Int)(ab:bzq):T Bi:=let ac:=aa.toNat;let ad:=k.Edges.getD ac default;.cc (Qzb (⟨k.Points,k.Edges⟩:azu)) fun ae=>let af:=ae.2.getD ac default;
 .cub 1 22 [1,3,5,6,7] [0,64,128,192,448,449]
 (.br (decide (aa<0))
 (.oo true)
 (.oo (decide (aa≥(k.Edges.length:Int))))) fun ag=>
 .br ag
 (.ret (ae.1,ae.2,false))
 (.gh aa k.Edges.length<|
 .cub 0 35 [1,5,6,7] [64,128,192,448,449]
 (.br ((ad.State)==1)
 (.oo true)
 (.oo ((ad.State)==2))) fun ah=>
 .br ah
 (.ret (ae.1,ae.2,false))
 (.conv 8000 (kL ([1,2,3]:A4) 3)<|
 .loop (ik 39 [1,5,6,7,37,38] [64,128,192,448,449,1152])
 (.exit 0) (jk [6,7] [128,192,448,449])
 (fun ai=>let aj:=([1,2,3]:A4).getD (ai.toNat) default;let ak:=(⟨af.U,af.V,af.Cost,aj,af.Proof⟩:az4);let al:=ae.2.set ac ak;let am:=al.getD ac default;.br (decide (ai<((([1,2,3]:A4).length:Nat):Int)))
 (.gg ai (([1,2,3]:A4).length)<|
 .cc (Eze aj) fun an=>
 .br (an==ab.Kind)
 (.gh aa ae.2.length<|
 .conv 12006 (kS ae.2 286 ac ak)<|
 .gi (aa) ae.2.length<|
 .cc (fzl ab) fun ao=>let ap:=(⟨am.U,am.V,am.Cost,am.State,ao⟩:az4);
 .gh aa (al.length)<|
 .conv 13007 (kS al 286 ac ap)<|
 .gi (aa) (al.length)<|
 .ff (ae.1,(al.set ac ap),true))
 (.nn (i64.wrap (ai+1))))
 (.oo .u))
 0 [] fun _=>
 .ret (ae.1,ae.2,false)))
noncomputable def Szk (k)(aa)(ab):=
 mkC [⟨349,az2p⟩] hd Tryz.func263 (by kernel_rfl) (Szl k aa ab) 0 [q k,pz aa,q ab] [] (fun r=>.tup [.agg [.vec 0,.vec 1],q r.2.2]) (fun r=>[(0,vO r.1 30),(1,vO r.2.1 286)]) (by kernel_rfl)
noncomputable def Izb (k:azu):T Am:=
 .cc (Szk (⟨k.Points,k.Edges⟩:azu) (-1) (⟨0,nl,(⟨0,0,nl⟩:azi),(⟨0,nl,nl⟩:czs)⟩:bzq)) fun aa=>
 .unroll 998<|
 .ret (aa.1,aa.2.1)
noncomputable def Iza:=
 mkv1 Tryz.func166 Izb (fun _=>.agg [.vec 0,.vec 1]) (fun r=>[(0,vO r.1 30),(1,vO r.2 286)])
noncomputable def Nz2 (k:azu)(aa:Int):T Bool:=
 .br (decide (aa≥0))
 (.ret (decide (aa<(k.Points.length:Int))))
 (.ret false)
noncomputable def gzt:=
 mkp2 Tryz.func175 Nz2
noncomputable def Dzg (k:az4)(aa:B1):T Int:=
 .ix 0 2 rfl<|
 .cc (ezx k.U aa.1) fun ab=>
 .ix 1 2 rfl<|
 .cc (ezx k.V aa.2) fun ac=>let ad:=([ab,ac]:A4);
 .conv 1010 (kL ad 3)<|
 .cc (zzz ad) fun ae=>
 .ret ae
noncomputable def jz4:=
 mkp2 Tryz.func275 Dzg
noncomputable def Fzx (k:azu):T Bool:=let aa:=(k.Edges.length:Nat);let ab:=(⟨k.Points,k.Edges⟩:azu);.cub 2 14 [1] [0]
 (.br (decide ((k.Points.length:Int)>1024))
 (.oo true)
 (.oo (decide ((aa:Int)>8192)))) fun ac=>
 .br ac
 (.ret false)
 (.loop (ik 18 [1,17] [0])
 (.exit 0) (jk [] [])
 (fun ad=>let ae:=k.Edges.getD (ad.toNat) default;let af:=i64.wrap (ad-1);.br (decide (ad<(aa:Int)))
 (.gh ad k.Edges.length<|
 .cub 1 65 [1,3,4,17,18] [0]
 (.cc (gzt ab (ae.U)) fun ag=>
 .br (!ag)
 (.oo true)
 (.cc (gzt ab (ae.V)) fun ah=>
 .br (!ah)
 (.oo true)
 (.br (decide ((ae.U)≥(ae.V)))
 (.oo true)
 (.br (decide ((ae.Cost)<0))
 (.oo true)
 (.oo (decide ((ae.Cost)>1099511627776))))))) fun ag=>
 .br ag
 (.ff false)
 (.cub 0 86 [1,17,18] [0]
 (.br (decide (ad>0))
 (.gh af k.Edges.length<|
 .call (jz4 (k.Edges.getD (af.toNat) default) (ae.U,ae.V)) [] fun ah=>
 .oo (decide (ah≥0)))
 (.oo false)) fun ah=>
 .br ah
 (.ff false)
 (.nn (i64.wrap (ad+1)))))
 (.oo .u))
 0 [] fun _=>
 .ret true)
noncomputable def sz4:=
 mkp1 Tryz.func174 Fzx
noncomputable def Qzq (k:Int)(aa:Int):T Bool:=
 .br (aa==0)
 (.ret (k==1))
 (.br (aa==1)
 (.br (k==1)
 (.ret true)
 (.ret (k==0)))
 (.br (aa==2)
 (.ret (k !=2))
 (.ret false)))
noncomputable def Qzp:=
 mkp2 Tryz.func358 Qzq
noncomputable def Szo (k:azu)(aa:Int):T As:=let ab:=(k.Points.length:Int);.unroll 1<|
 .conv 1003 (azfk 2 fz0 452 ab.toNat 454)<|
 .grd (0≤ab/\ab≤ab/\ab≤9223372036854775807/\ab * 24≤140737488355328)<|
 .loop (fun s (ac:(As×Int))=>pk s [1,2,5,14] [0] [(15,pz ac.2)] [(320,az86 2 fz0 ac.1 452 454)])
 (.exit 0) (fun s (ac:As)=>pk s [5] [] [] [(320,az86 2 fz0 ac 452 454)])
 (fun ac=>let ad:=k.Edges.getD ((ac.2).toNat) default;let ae:=ad.U;let af:=ad.V;let ag:=ae.toNat;let ah:=af.toNat;let ai:=ac.1.getD ag default;let aj:=([(⟨ad.V,ad.Cost⟩:azb)]:Ar);let ak:=ac.1.set ag (ai++aj);let al:=ak.getD ah default;let am:=ai.length+aj.length;let an:=([(⟨ad.U,ad.Cost⟩:azb)]:Ar);let ao:=al.length+an.length;.br (decide (ac.2<(k.Edges.length:Int)))
 (.cut 0 (fun s (ap:As)=>pk s [1,2,5,14,15] [0] [] [(320,az86 2 fz0 ap 452 454)])
 (.gh ac.2 k.Edges.length<|
 .cc (Qzp (ad.State) aa) fun ap=>
 .br ap
 (.gg ae ac.1.length<|
 .conv 7021 (kL aj 454)<|
 .conv 7022 (kA ai aj 454)<|
 .grd (am * 16≤140737488355328/\am≤maxLen)<|
 .gh ae ac.1.length<|
 .conv 7024 (azbw 2 fz0 (ai++aj) 452 ac.1 ag 454)<|
 .grd (ae.toNat<ac.1.length/\ae.toNat=ae.toNat)<|
 .gg af (ak.length)<|
 .conv 8021 (kL an 454)<|
 .conv 8022 (kA al an 454)<|
 .grd (ao * 16≤140737488355328/\ao≤maxLen)<|
 .gh af (ak.length)<|
 .conv 8024 (azbw 2 fz0 (al++an) 452 ak ah 454)<|
 .grd (af.toNat<ak.length/\af.toNat=af.toNat)<|
 .oo (ak.set ah (al++an)))
 (.oo ac.1)) fun ap=>
 .nn (ap,(i64.wrap (ac.2+1))))
 (.oo ac.1))
 ((List.replicate ab.toNat (nl:Ar)),0) [] fun ac=>
 .ret ac
noncomputable def Szn:=
 mkp2 Tryz.func266 Szo
noncomputable def Vzr (k:aze)(aa:aze):T Bool:=
 .br (aa.points==0)
 (.ret true)
 (.br (decide (k.cost<aa.cost))
 (.ret true)
 (.br (k.cost==aa.cost)
 (.ret (decide (k.points<aa.points)))
 (.ret false)))
noncomputable def qza:=
 mkp2 Tryz.func354 Vzr
noncomputable def az1b (k:Au):T (azm×Au):=let aa:=i64.wrap ((k.length:Int)-1);let ab:=k.getD (aa.toNat) default;let ac:=k.set ((0:Int).toNat) ab;.gg (0:Int) k.length<|
 .gg aa k.length<|
 .gh (0:Int) k.length<|
 .conv 3006 (kS k 448 ((0:Int).toNat) ab)<|
 .gi (0:Int) k.length<|
 .conv 4002 (az5j 3 zz2 ac 448 aa)<|
 .grd (0≤aa/\aa≤(ac.length:Int)/\0≤aa.toNat)<|
 .loop (fun s (ad:(Au×Int))=>pk s [0,2,3,4,5] [0,1,2,706] [(6,pz ad.2)] [(1474,vO ad.1 448)])
 (.exit 0) (fun s (ad:Au)=>pk s [0,2,3,4] [0,1,2,706] [] [(1474,vO ad 448)])
 (fun ad=>let ae:=(ad.2).toNat;let af:=i64.wrap ((i64.wrap (2 * ad.2))+1);let ag:=i64.wrap (af+1);let ah:=ad.1.getD ae default;.br (decide (af<aa))
 (.cut 1 (fun s (ai:Int)=>pk s [0,2,3,4,5,6] [0,1,2,706,1474] [(7,pz ai)] [])
 (.cub 0 51 [0,2,3,4,5,6,7] [0,1,2,706,1474]
 (.br (decide (ag<aa))
 (.gg ag ad.1.length<|
 .gg af ad.1.length<|
 .call (qza ((ad.1.getD (ag.toNat) default).rank) ((ad.1.getD (af.toNat) default).rank)) [] fun ai=>
 .oo ai)
 (.oo false)) fun ai=>
 .br ai
 (.oo ag)
 (.oo af)) fun ai=>let aj:=ai.toNat;let ak:=ad.1.getD aj default;let al:=ad.1.set ae ak;
 .gg ai ad.1.length<|
 .gg ad.2 ad.1.length<|
 .cc (qza (ak.rank) (ah.rank)) fun am=>
 .br (!am)
 (.oo ad.1)
 (.gg ai ad.1.length<|
 .gg ad.2 ad.1.length<|
 .gh ad.2 ad.1.length<|
 .conv 11013 (kS ad.1 448 ae ak)<|
 .gi (ad.2) ad.1.length<|
 .gh ai (al.length)<|
 .conv 11015 (kS al 448 aj ah)<|
 .gi (ai) (al.length)<|
 .nn ((al.set aj ah),ai)))
 (.oo ad.1))
 ((ac.take (aa.toNat)),0) [] fun ad=>
 .ret ((k.getD ((0:Int).toNat) default),ad)
noncomputable def az1a (k):=
 mkD Tryz.func353 (az1b k) 2 [.ptr 0 0] [(0,.box [.vec 1]),(1,vO k 448)] (fun r=>q r.1) (fun r=>[(0,.box [.vec 2]),(1,.gone),(2,vO r.2 448)])
noncomputable def Yzy (k:Au)(aa:azm):T Au:=let ab:=([aa]:Au);let ac:=k.length+ab.length;.conv 1004 (kL ab 448)<|
 .conv 1005 (kA k ab 448)<|
 .grd (ac * 24≤140737488355328/\ac≤maxLen)<|
 .loop (fun s (ad:(Au×Int))=>pk s [0,4] [0,1] [(5,pz ad.2)] [(386,vO ad.1 448)])
 (.exit 0) (fun s (ad:Au)=>pk s [0,4] [0,1] [] [(386,vO ad 448)])
 (fun ad=>let ae:=(ad.2).toNat;let af:=ad.1.getD ae default;.br (decide (ad.2>0))
 (.ok ((2:Int)≠0) (by decide)<|
 .name 4002 ((i64.wrap ((i64.wrap (ad.2-1)).tdiv 2))) fun ag=>let ah:=ag.toNat;let ai:=ad.1.getD ah default;let aj:=ad.1.set ae ai;
 .gg ad.2 ad.1.length<|
 .gg ag ad.1.length<|
 .cc (qza (af.rank) (ai.rank)) fun ak=>
 .br (!ak)
 (.oo ad.1)
 (.gg ag ad.1.length<|
 .gg ad.2 ad.1.length<|
 .gh ad.2 ad.1.length<|
 .conv 6013 (kS ad.1 448 ae ai)<|
 .gi (ad.2) ad.1.length<|
 .gh ag (aj.length)<|
 .conv 6015 (kS aj 448 ah af)<|
 .gi (ag) (aj.length)<|
 .nn ((aj.set ah af),ag)))
 (.oo ad.1))
 ((k++ab),(i64.wrap ((((k++ab).length:Nat):Int)-1))) [] fun ad=>
 .ret ad
noncomputable def Yzx (k)(aa):=
 mkD Tryz.func355 (Yzy k aa) 2 [.ptr 0 0,q aa] [(0,.box [.vec 1]),(1,vO k 448)] (fun _=>.tup []) (fun r=>[(0,.box [.vec 2]),(1,.gone),(2,vO r 448)])
noncomputable def Fzw (k:azb)(aa:Av)(ab:Int):T (Bool×Av×Int):=let ac:=aa.getD ((k.to).toNat) default;let ad:=aa.getD (ab.toNat) default;.gg k.to aa.length<|
 .gg ab aa.length<|
 .br ((ac.points)==(i64.wrap ((ad.points)-1)))
 (.gg ab aa.length<|
 .ret (((i64.wrap ((ac.cost)+k.cost))==(ad.cost)),aa,ab))
 (.ret (false,aa,ab))
noncomputable def Fzv (k)(aa)(ab):=
 mkD Tryz.func357 (Fzw k aa ab) 3 [q k,.ptr 0 0,.ptr 2 0] [(0,.box [.vec 1]),(1,vO aa 446),(2,.box [pz ab])] (fun r=>q r.1) (fun r=>[(0,.box [.vec 1]),(1,vO r.2.1 446),(2,.box [pz r.2.2])])
noncomputable def gzv (k:Ar)(aa:Av)(ab:Int):T (Int×Av×Int):=
 .loop (fun s (ac:(Av×Int×Int))=>pk s [0,1,7] [0] [(8,pz ac.2.2)] [(1,vO ac.1 446),(2,.box [pz ac.2.1])])
 (.exit 0) (fun s (ac:(Av×Int))=>pk s [] [0] [] [(1,vO ac.1 446),(2,.box [pz ac.2])])
 (fun ac=>.br (decide (ac.2.2<(k.length:Int)))
 (.gh ac.2.2 k.length<|
 .call (Fzv (k.getD ((ac.2.2).toNat) default) ac.1 ac.2.1) [(0,0),(1,1),(2,2)] fun ad=>
 .br ad.1
 (.ff (ac.2.2,ad.2.1,ad.2.2))
 (.nn (ad.2.1,ad.2.2,(i64.wrap (ac.2.2+1)))))
 (.oo (ac.1,ac.2.1)))
 (aa,ab,0) [] fun ac=>
 .ret ((-1),ac.1,ac.2)
noncomputable def gzu (k)(aa)(ab):=
 mkD Tryz.func356 (gzv k aa ab) 3 [q k,.func 357 [] [.ptr 0 0,.ptr 2 0]] [(0,.box [.vec 1]),(1,vO aa 446),(2,.box [pz ab])] (fun r=>pz r.1) (fun r=>[(0,.box [.vec 1]),(1,vO r.2.1 446),(2,.box [pz r.2.2])])
noncomputable def Kzp (k:As)(aa:Int)(ab:Int):T (A4×Int×Bool):=let ac:=ab.toNat;let ad:=(k.length:Int);let ae:=([aa]:A4);let af:=List.replicate ad.toNat ((⟨0,0⟩:aze):aze);let ag:=af.set ac (⟨0,1⟩:aze);let ah:=([(⟨(ag.getD ac default),ab⟩:azm)]:Au);.conv 1002 (zzm 2 Azc 446 ad.toNat (⟨0,0⟩:aze))<|
 .grd (0≤ad/\ad≤ad/\ad≤9223372036854775807/\ad * 16≤140737488355328)<|
 .gh ab (af.length)<|
 .conv 2004 (kS af 446 ac (⟨0,1⟩:aze))<|
 .gi (ab) (af.length)<|
 .gg ab (ag.length)<|
 .conv 3006 (kL ah 448)<|
 .loop (fun s (ai:(Av×Au))=>pk s [0,1,2,6,8,9] [0,1,320,1216] [] [(256,vO ai.1 446),(1152,vO ai.2 448)])
 (.exit 0) (fun s (ai:Av)=>pk s [0,1,2,6,8] [0,1,320] [] [(256,vO ai 446)])
 (fun ai=>.name 4001 ((ai.2.length:Int)) fun aj=>
 .br (decide (aj>0))
 (.call (az1a ai.2) [(0,1216),(1,1152)] fun ak=>let al:=(ak.1.point).toNat;let am:=k.getD al default;let an:=ai.1.getD al default;
 .br (ak.1.point==aa)
 (.oo ai.1)
 (.gg ak.1.point ai.1.length<|
 .br (!((ak.1.rank.cost==(an.cost))&&((ak.1.rank.points==(an.points))&&true)))
 (.nn (ai.1,ak.2))
 (.gh ak.1.point k.length<|
 .loop (fun s (ao:(Av×Au×Int))=>pk s [0,1,2,6,8,9,10,53,54] [0,1,320,1216,1664] [(55,pz ao.2.2)] [(256,vO ao.1 446),(1600,vO ao.2.1 448)])
 (.exit 3) (fun s (ao:(Av×Au))=>pk s [0,1,2,6,8,9] [0,1,320,1216] [] [(256,vO ao.1 446),(1600,vO ao.2 448)])
 (fun ao=>let ap:=am.getD ((ao.2.2).toNat) default;let aq:=ap.to;let ar:=aq.toNat;.br (decide (ao.2.2<(am.length:Int)))
 (.cut 0 (fun s (au:(Av×Au))=>pk s [0,1,2,6,8,9,10,53,54,55] [0,1,320,1664] [] [(256,vO au.1 446),(1216,.box [.vec 3264]),(3264,vO au.2 448)])
 (.gh ao.2.2 (am.length)<|
 .name 11005 ((i64.wrap (ak.1.rank.cost+(ap.cost)))) fun au=>let av:=(⟨au,(i64.wrap (ak.1.rank.points+1))⟩:aze);
 .gg aq ao.1.length<|
 .call (qza av (ao.1.getD ar default)) [] fun aw=>
 .br aw
 (.gh aq ao.1.length<|
 .conv 13005 (kS ao.1 446 ar av)<|
 .gi aq ao.1.length<|
 .call (Yzx ao.2.1 (⟨av,ap.to⟩:azm)) [(0,1216),(1,1600)] fun ax=>
 .oo ((ao.1.set ar av),ax))
 (.oo (ao.1,ao.2.1))) fun au=>
 .nn (au.1,au.2,(i64.wrap (ao.2.2+1))))
 (.oo (ao.1,ao.2.1)))
 (ai.1,ak.2,0) [] fun ao=>
 .nn (ao.1,ao.2))))
 (.oo ai.1))
 (ag,ah) [] fun ai=>let aj:=ai.getD (aa.toNat) default;
 .gg aa ai.length<|
 .br ((aj.points)==0)
 (.ret (nl,0,false))
 (.conv 18001 (kL ae 3)<|
 .gg aa ai.length<|
 .loop (fun s (ak:(Av×A4×Int))=>pk s [0,2,6,8,14,15] [0,1,320,2304] [] [(256,vO ak.1 446),(1856,vO ak.2.1 3),(2496,.box [pz ak.2.2])])
 (.exit 5) (fun s (ak:A4)=>pk s [6,14] [0,1,2304] [] [(1856,vO ak 3)])
 (fun ak=>.br (ak.2.2 !=ab)
 (.gh ak.2.2 k.length<|
 .call (gzu (k.getD ((ak.2.2).toNat) default) ak.1 ak.2.2) [(0,320),(1,256),(2,2496)] fun al=>let am:=k.getD ((al.2.2).toNat) default;let an:=am.getD ((al.1).toNat) default;let ao:=([an.to]:A4);let ap:=ak.2.1.length+ao.length;
 .gh al.2.2 k.length<|
 .gh al.1 (am.length)<|
 .conv 23003 (kL ao 3)<|
 .conv 23004 (kA ak.2.1 ao 3)<|
 .grd (ap * 8≤140737488355328/\ap≤maxLen)<|
 .nn (al.2.1,(ak.2.1++ao),an.to))
 (.oo ak.2.1))
 (ai,ae,aa) [] fun ak=>
 .ret (ak,aj.cost,true))
noncomputable def Kzo:=
 mkv3 Tryz.func265 Kzp (fun r=>.tup [.agg [.vec 0,pz r.2.1],q r.2.2]) (fun r=>[(0,vO r.1 3)])
noncomputable def dzj (k:Al)(aa:B1):T Ba:=let ab:=(k.length:Nat);.loop (fun s (ac:B1)=>pk s [0,2,4,8] [0] [(9,pz ac.1),(10,pz ac.2)] [])
 (.exit 0) (ik 9 [0,2,4,8] [0])
 (fun ac=>.br (decide (ac.1<ac.2))
 (.ok (0≤(1:Int)) (by decide)<|
 .name 4005 ((i64.wrap ((IntKind.u64.wrap (i64.wrap (ac.1+ac.2))).fdiv (2 ^ (min (1:Int).toNat 64))))) fun ad=>
 .gh ad k.length<|
 .cc (jz4 (k.getD (ad.toNat) default) aa) fun ae=>
 .br (decide (ae<0))
 (.nn ((i64.wrap (ad+1)),ac.2))
 (.nn (ac.1,ad)))
 (.oo ac.1))
 (0,(ab:Int)) [] fun ac=>
 .br (decide (ac<(ab:Int)))
 (.gh ac k.length<|
 .cc (jz4 (k.getD (ac.toNat) default) aa) fun ad=>
 .ret (ac,(ad==0)))
 (.ret (ac,false))
noncomputable def dzi (k)(aa):=
 mkD Tryz.func280 (dzj k aa) 0 [q k,q aa,.func 275 [] []] [] (fun r=>.tup [pz r.1,q r.2]) (fun _=>[])
noncomputable def Nz1 (k:azu)(aa:Int)(ab:Int):T Ba:=
 .cc (dzi k.Edges ((min aa ab),(max aa ab))) fun ac=>
 .ret (ac.1,ac.2)
noncomputable def zzj:=
 mkq3 Tryz.func178 Nz1 (fun r=>.tup [pz r.1,q r.2])
noncomputable def Wzh (k:azu)(aa:Int)(ab:Int):T C3:=let ac:=(⟨k.Points,k.Edges⟩:azu);.cub 3 29 [1,2,3,6,7,8] [0,64,128,129,192]
 (.cc (sz4 ac) fun ad=>
 .br (!ad)
 (.oo true)
 (.cc (gzt ac aa) fun ae=>
 .br (!ae)
 (.oo true)
 (.cc (gzt ac ab) fun af=>
 .oo (!af)))) fun ad=>
 .br ad
 (.ret ((-1),nl,0,0))
 (.cc (Szn ac 1) fun ae=>
 .cc (Kzo ae aa ab) fun af=>let ag:=(af.1.length:Int);let ah:=ag.toNat- (1:Int).toNat;
 .br (!af.2.2)
 (.ret ((-1),nl,0,2))
 (.unroll 2<|
 .grd (0≤(1:Int)/\(1:Int)≤ag/\ag≤ag)<|
 .loop (ik 46 [3,6,7,8,44,45] [0,64,128,192,704])
 (.exit 0) (jk [6,7,8] [64,128,192,704])
 (fun ai=>let aj:=((1:Int).toNat)+(ai.toNat);.br (decide (ai<(ah:Int)))
 (.gh ai ah<|
 .grd (aj<af.1.length)<|
 .gg ai af.1.length<|
 .cc (zzj ac (af.1.getD (ai.toNat) default) (af.1.getD aj default)) fun ak=>
 .gh ak.1 k.Edges.length<|
 .br (((k.Edges.getD ((ak.1).toNat) default).State)==0)
 (.ff (ak.1,af.1,af.2.1,3))
 (.nn (i64.wrap (ai+1))))
 (.oo .u))
 0 [] fun _=>
 .ret ((-1),af.1,af.2.1,1)))
noncomputable def Wzg (k)(aa)(ab):=
 mkC [⟨264,az99⟩] hd Tryz.func167 (by kernel_rfl) (Wzh k aa ab) 0 [q k,pz aa,pz ab] [] (fun r=>.tup [pz r.1,.agg [.vec 0,pz r.2.2.1],pz r.2.2.2]) (fun r=>[(0,vO r.2.1 3)]) (by kernel_rfl)
noncomputable def Qzo (a0:A5)(a1:Al)(a2:Int)(a3:Int):CallS C3:=
 azh6 (Wzg (⟨a0,a1⟩:azu) a2 a3) 167 2 [.agg [.vec 0,.vec 1],pz a2,pz a3] [(0,vO a0 30),(1,vO a1 286)] rfl rfl rfl rfl (by kernel_rfl) rfl (fun _=>rfl) (fun _=>⟨fun _=>rfl,trivial⟩)
noncomputable def qzh (a0:A5):T A5:=
 (match a0 with
  |[]=>.unroll 1<|
  .grd (a0.length=0)<|
  .both
   (.ret nl)
   (.conv 3000 (kL ([]:A5) 30)<|
   .conv 3002 (kA ([]:A5) a0 30)<|
   .grd ((([]:A5).length+a0.length) * 24≤140737488355328/\(([]:A5).length+a0.length)≤maxLen)<|
   .ret (([]:A5)++a0))
  |_::_=>.grd (0<a0.length)<|
  .conv 3000 (kL ([]:A5) 30)<|
  .conv 3002 (kA ([]:A5) a0 30)<|
  .grd ((([]:A5).length+a0.length) * 24≤140737488355328/\(([]:A5).length+a0.length)≤maxLen)<|
  .ret (([]:A5)++a0))
noncomputable def qzg (a0:A5):CallS A5:=
 mkH [] hd Tryz.func383 (by kernel_rfl) (qzh a0) 1 [.vec 0] [(0,vO a0 30)] (fun _=>.vec 1) (fun r=>[(0,vO a0 30),(1,vO r 30)]) (by cases a0<;>exact Ob.of_side (by kernel_rfl))
noncomputable def fzn (k:Al)(aa:Nat)(ab:Nat):T Al:=let ac:=([]:Al).length+ab;.grd (0<k.length)<|
 .conv 3000 (kL ([]:Al) 286)<|
 .conv 3002 (azd5 12 rz8 k ([]:Al) 286 ab aa 160)<|
 .grd (ac * 160≤140737488355328/\ac≤maxLen/\aa+ab≤k.length)<|
 .ret (([]:Al)++((k.drop aa).take ab))
noncomputable def fzm (k)(aa)(ab):=
 mkD Tryz.func437 (fzn k aa ab) 1 [.view 0 12 aa ab] [(0,vO k 286)] (fun _=>.vec 1) (fun r=>[(0,vO k 286),(1,vO r 286)])
noncomputable def Kzf (k:A5)(aa:Al)(ab:Nat)(ac:Nat):T Am:=
 .call (qzg k) [(0,0)] fun ad=>
 .call (fzm aa ab ac) [(0,1)] fun ae=>
 .loop (fun s (af:Aq)=>pk s [2,3,4,15,16] [0,1,66,67,68,450] [(17,pz af.2)] [(258,vO af.1 30)])
 (.exit 0) (fun s (af:A5)=>pk s [2,3,4] [0,1,66,67,68,450] [] [(258,vO af 30)])
 (fun af=>let ag:=(af.2).toNat;.br (decide (af.2<(ad.length:Int)))
 (.gg af.2 af.1.length<|
 .cc (bzp (af.1.getD ag default)) fun ah=>
 .gh af.2 af.1.length<|
 .conv 5005 (kS af.1 30 ag ah)<|
 .gi (af.2) af.1.length<|
 .nn ((af.1.set ag ah),(i64.wrap (af.2+1))))
 (.oo af.1))
 (ad,0) [] fun af=>
 .loop (fun s (ag:An)=>pk s [2,3,4,28,29] [0,1,66,67,68,258] [(30,pz ag.2)] [(450,vO ag.1 286)])
 (.exit 2) (fun s (ag:Al)=>pk s [2,3,4] [0,1,66,67,68,258] [] [(450,vO ag 286)])
 (fun ag=>let ah:=(ag.2).toNat;let ai:=ag.1.getD ah default;.br (decide (ag.2<(ae.length:Int)))
 (.gg ag.2 ag.1.length<|
 .cc (fzl (ai.Proof)) fun aj=>let ak:=(⟨ai.U,ai.V,ai.Cost,ai.State,aj⟩:az4);
 .gh ag.2 ag.1.length<|
 .conv 10007 (kS ag.1 286 ah ak)<|
 .gi (ag.2) ag.1.length<|
 .nn ((ag.1.set ah ak),(i64.wrap (ag.2+1))))
 (.oo ag.1))
 (ae,0) [] fun ag=>
 .ret (af,ag)
noncomputable def Kze (k)(aa)(ab)(ac):=
 mkD Tryz.func350 (Kzf k aa ab ac) 2 [.agg [.vec 0,.view 1 12 ab ac]] [(0,vO k 30),(1,vO aa 286)] (fun _=>.agg [.vec 2,.vec 3]) (fun r=>[(0,vO k 30),(1,vO aa 286),(2,vO r.1 30),(3,vO r.2 286)])
noncomputable def Mzx (k:A5)(aa:Al)(ab:Nat)(ac:Nat)(ad:Int)(ae:bzq):T Bi:=let af:=ad.toNat;let ag:=aa.getD (ab+af) default;.call (Kze k aa ab ac) [(0,0),(1,1)] fun ah=>let ai:=ah.2.getD af default;
 .cub 1 22 [1,3,5,6,7] [0,1,2,66,130,194,450,451]
 (.br (decide (ad<0))
 (.oo true)
 (.oo (decide (ad≥(ac:Int))))) fun aj=>
 .br aj
 (.ret (ah.1,ah.2,false))
 (.gh ad ac<|
 .grd ((ab+af)<aa.length)<|
 .cub 0 35 [1,5,6,7] [0,1,66,130,194,450,451]
 (.br ((ag.State)==1)
 (.oo true)
 (.oo ((ag.State)==2))) fun ak=>
 .br ak
 (.ret (ah.1,ah.2,false))
 (.conv 8000 (kL ([1,2,3]:A4) 3)<|
 .loop (ik 39 [1,5,6,7,37,38] [0,1,66,130,194,450,451,1154])
 (.exit 0) (jk [6,7] [0,1,130,194,450,451])
 (fun al=>let am:=([1,2,3]:A4).getD (al.toNat) default;let an:=(⟨ai.U,ai.V,ai.Cost,am,ai.Proof⟩:az4);let ao:=ah.2.set af an;let ap:=ao.getD af default;.br (decide (al<((([1,2,3]:A4).length:Nat):Int)))
 (.gg al (([1,2,3]:A4).length)<|
 .cc (Eze am) fun aq=>
 .br (aq==ae.Kind)
 (.gh ad ah.2.length<|
 .conv 12006 (kS ah.2 286 af an)<|
 .gi (ad) ah.2.length<|
 .cc (fzl ae) fun ar=>let au:=(⟨ap.U,ap.V,ap.Cost,ap.State,ar⟩:az4);
 .gh ad (ao.length)<|
 .conv 13007 (kS ao 286 af au)<|
 .gi (ad) (ao.length)<|
 .ff (ah.1,(ao.set af au),true))
 (.nn (i64.wrap (al+1))))
 (.oo .u))
 0 [] fun _=>
 .ret (ah.1,ah.2,false)))
noncomputable def zzh (k)(aa)(ab)(ac)(ad)(ae):=
 mkC [⟨349,az2p⟩] hd Tryz.func263 (by kernel_rfl) (Mzx k aa ab ac ad ae) 2 [.agg [.vec 0,.view 1 12 ab ac],pz ad,q ae] [(0,vO k 30),(1,vO aa 286)] (fun r=>.tup [.agg [.vec 2,.vec 3],q r.2.2]) (fun r=>[(0,vO k 30),(1,vO aa 286),(2,vO r.1 30),(3,vO r.2.1 286)]) (by kernel_rfl)
noncomputable def Dzh (k:A5)(aa:Al)(ab:Nat)(ac:Nat):T Am:=
 .call (zzh k aa ab ac (-1) (⟨0,nl,(⟨0,0,nl⟩:azi),(⟨0,nl,nl⟩:czs)⟩:bzq)) [(0,0),(1,1)] fun ad=>
 .ret (ad.1,ad.2.1)
noncomputable def pzz (k)(aa)(ab)(ac):=
 mkD Tryz.func166 (Dzh k aa ab ac) 2 [.agg [.vec 0,.view 1 12 ab ac]] [(0,vO k 30),(1,vO aa 286)] (fun _=>.agg [.vec 2,.vec 3]) (fun r=>[(0,vO k 30),(1,vO aa 286),(2,vO r.1 30),(3,vO r.2 286)])
noncomputable def Iz9 (k:A5)(_a1:Al)(_a2:Nat)(_a3:Nat)(aa:Int):T Bool:=
 .br (decide (aa≥0))
 (.ret (decide (aa<(k.length:Int))))
 (.ret false)
noncomputable def tzs (k)(aa)(ab)(ac)(ad):=
 mkD Tryz.func175 (Iz9 k aa ab ac ad) 2 [.agg [.vec 0,.view 1 12 ab ac],pz ad] [(0,vO k 30),(1,vO aa 286)] (fun r=>q r) (fun _=>[(0,vO k 30),(1,vO aa 286)])
noncomputable def Jz4 (k:A4)(aa:A4)(ab:Int):T Bool:=
 .br ((k.length:Int)==(aa.length:Int))
 (.cc (gzz k) fun ac=>
 .br ac
 (.cc (gzz aa) fun ad=>
 .br ad
 (.br (decide (0≤ab))
 (.ret (decide (ab≤20)))
 (.ret false))
 (.ret false))
 (.ret false))
 (.ret false)
noncomputable def Jz3:=
 mkp3 Tryz.func439 Jz4
noncomputable def Uze (k:Int)(aa:Int):T Int:=
 .grd (0≤aa)<|
 .ret (k.fdiv (2 ^ (min aa.toNat 64)))
noncomputable def Gz8:=
 mkp2 Tryz.func442 Uze
noncomputable def Mz6 (k:Int)(aa:Int)(ab:Int)(ac:Int):T (az0×Int×Int):=let ad:=i64.wrap (aa-k);let ae:=i64.wrap (ab * ad);let af:=i64.wrap ((i64.wrap (ab+1)) * ad);.name 2003 ((min ae af)) fun ag=>
 .cc (Gz8 ag ac) fun ah=>
 .name 2010 ((max ae af)) fun ai=>
 .cc (Gz8 (i64.wrap (0-ai)) ac) fun aj=>
 .ret ((⟨(i64.wrap (k+ah)),(i64.wrap (k-aj))⟩:az0),ab,ac)
noncomputable def Mz5 (k)(aa)(ab)(ac):=
 mkD Tryz.func441 (Mz6 k aa ab ac) 2 [pz k,pz aa,.ptr 0 0,.ptr 1 0] [(0,.box [pz ab]),(1,.box [pz ac])] (fun r=>q r.1) (fun r=>[(0,.box [pz r.2.1]),(1,.box [pz r.2.2])])
noncomputable def hzu (k:A4)(aa:A4)(ab:Int)(ac:Int):T (Ae×Int×Int):=let ad:=(k.length:Int);.conv 1002 (zzm 2 tz3 106 ad.toNat (⟨0,0⟩:az0))<|
 .grd (0≤ad/\ad≤ad/\ad≤9223372036854775807/\ad * 16≤140737488355328)<|
 .loop (fun s (ae:(Int×Int×Ae×Int))=>pk s [1,2,7,13,14] [] [(15,pz ae.2.2.2)] [(0,.box [pz ae.1]),(1,.box [pz ae.2.1]),(194,vO ae.2.2.1 106)])
 (.exit 0) (fun s (ae:(Int×Int×Ae))=>pk s [7] [] [] [(0,.box [pz ae.1]),(1,.box [pz ae.2.1]),(194,vO ae.2.2 106)])
 (fun ae=>let af:=(ae.2.2.2).toNat;.br (decide (ae.2.2.2<ad))
 (.gh ae.2.2.2 k.length<|
 .gh ae.2.2.2 aa.length<|
 .call (Mz5 (k.getD af default) (aa.getD af default) ae.1 ae.2.1) [(0,0),(1,1)] fun ag=>
 .gh ae.2.2.2 ae.2.2.1.length<|
 .conv 5010 (kS ae.2.2.1 106 af ag.1)<|
 .gi (ae.2.2.2) ae.2.2.1.length<|
 .nn (ag.2.1,ag.2.2,(ae.2.2.1.set af ag.1),(i64.wrap (ae.2.2.2+1))))
 (.oo (ae.1,ae.2.1,ae.2.2.1)))
 (ab,ac,(List.replicate ad.toNat ((⟨0,0⟩:az0):az0)),0) [] fun ae=>
 .ret (ae.2.2,ae.1,ae.2.1)
noncomputable def hzt (k)(aa)(ab)(ac):=
 mkD Tryz.func440 (hzu k aa ab ac) 2 [q k,q aa,.func 441 [] [.ptr 0 0,.ptr 1 0]] [(0,.box [pz ab]),(1,.box [pz ac])] (fun r=>q r.1) (fun r=>[(0,.box [pz r.2.1]),(1,.box [pz r.2.2])])
noncomputable def Rzh (k:A4)(aa:A4)(ab:Int)(ac:Int):T (Ae×Bool):=
 .cub 2 24 [0,1,6,7] [0,64]
 (.cc (Jz3 k aa ab) fun ad=>
 .br (!ad)
 (.oo true)
 (.br (decide (ac<0))
 (.oo true)
 (.grd (0≤ab)<|
 .oo (decide (ac≥(i64.wrap (1 * 2 ^ (min ab.toNat 64)))))))) fun ad=>
 .br ad
 (.ret (nl,false))
 (.call (hzt k aa ac ab) [(0,64),(1,0)] fun ae=>
 .ret (ae.1,true))
noncomputable def uz5:=
 mkq4 Tryz.func361 Rzh (fun r=>.tup [q r.1,q r.2])
abbrev uz7:=RecS Tryz.prog 360 8 (Int×Int×Bk×Ao×Int×Ao×Int×Int×Bk×Int×A4×A4×A4×A4×A0×A8×A2×Ad×Int) Cm (fun a=>[pz a.1,pz a.2.1,q a.2.2.1,.ptr 0 0,.ptr 2 0,.ptr 3 0,.ptr 4 0,.ptr 5 0,.ptr 6 0,.ptr 7 0]) (fun a=>[(0,.box [.vec 1]),(1,vO a.2.2.2.1 87),(2,.box [pz a.2.2.2.2.1,q a.2.2.2.2.2.1,pz a.2.2.2.2.2.2.1,pz a.2.2.2.2.2.2.2.1,q a.2.2.2.2.2.2.2.2.1,pz a.2.2.2.2.2.2.2.2.2.1,q a.2.2.2.2.2.2.2.2.2.2.1,q a.2.2.2.2.2.2.2.2.2.2.2.1]),(3,.box [q a.2.2.2.2.2.2.2.2.2.2.2.2.1]),(4,.box [q a.2.2.2.2.2.2.2.2.2.2.2.2.2.1]),(5,.box [q a.2.2.2.2.2.2.2.2.2.2.2.2.2.2.1,q a.2.2.2.2.2.2.2.2.2.2.2.2.2.2.2.1,q a.2.2.2.2.2.2.2.2.2.2.2.2.2.2.2.2.1,q a.2.2.2.2.2.2.2.2.2.2.2.2.2.2.2.2.2.1]),(6,.box [pz a.2.2.2.2.2.2.2.2.2.2.2.2.2.2.2.2.2.2]),(7,.box [.func 360 [] [.ptr 0 0,.ptr 2 0,.ptr 3 0,.ptr 4 0,.ptr 5 0,.ptr 6 0,.ptr 7 0]])]) (fun _ r=>q r.1) (fun _ r=>[(0,.box [.vec 8]),(1,.gone),(2,.box [pz r.2.2.1,q r.2.2.2.1,pz r.2.2.2.2.1,pz r.2.2.2.2.2.1,q r.2.2.2.2.2.2.1,pz r.2.2.2.2.2.2.2.1,q r.2.2.2.2.2.2.2.2.1,q r.2.2.2.2.2.2.2.2.2.1]),(3,.box [q r.2.2.2.2.2.2.2.2.2.2.1]),(4,.box [q r.2.2.2.2.2.2.2.2.2.2.2.1]),(5,.box [q r.2.2.2.2.2.2.2.2.2.2.2.2.1,q r.2.2.2.2.2.2.2.2.2.2.2.2.2.1,q r.2.2.2.2.2.2.2.2.2.2.2.2.2.2.1,q r.2.2.2.2.2.2.2.2.2.2.2.2.2.2.2.1]),(6,.box [pz r.2.2.2.2.2.2.2.2.2.2.2.2.2.2.2.2]),(7,.box [.func 360 [] [.ptr 0 0,.ptr 2 0,.ptr 3 0,.ptr 4 0,.ptr 5 0,.ptr 6 0,.ptr 7 0]]),(8,vO r.2.1 87)])
noncomputable def Rzm (rec:uz7)(k:Int)(aa:Int)(ab:Bk)(ac:Ao)(ad:Int)(ae:Ao)(af:Int)(ag:Int)(ah:Bk)(ai:Int)(aj:A4)(ak:A4)(al:A4)(am:A4)(an:A0)(ao:A8)(ap:A2)(aq:Ad)(ar:Int):T Cm:=let au:=i64.wrap (k+1);let av:=i64.wrap (2 * aa);.br (decide ((ac.length:Int)≥4096))
 (.ret (false,ac,0,nl,k,aa,nl,0,nl,nl,al,am,an,ao,ap,aq,ar))
 (.cc (uz5 al am k aa) fun aw=>
 .cc (nzj (⟨(⟨an,ao⟩:azn),ap,aq⟩:azc) aw.1 ab) fun ax=>let ay:=([(⟨k,aa,ax.Normals⟩:azi)]:Ao);let az:=ac.length+ay.length;
 .br (ax.Kind==1)
 (.conv 8006 (kL ay 87)<|
 .conv 8007 (kA ac ay 87)<|
 .grd (az * 40≤140737488355328/\az≤maxLen)<|
 .ret (true,(ac++ay),ad,ae,af,ag,ah,ai,aj,ak,al,am,an,ao,ap,aq,ar))
 (.br (ax.Kind==2)
 (.ret (false,ac,2,nl,k,aa,nl,ax.Witness.Pair,ax.Witness.Left,ax.Witness.Right,al,am,an,ao,ap,aq,ar))
 (.br (decide (k<ar))
 (.call (rec.C (au,av,ax.Normals,ac,ad,ae,af,ag,ah,ai,aj,ak,al,am,an,ao,ap,aq,ar)) [(0,0),(1,1),(2,2),(3,3),(4,4),(5,5),(6,6),(7,7)] fun a0=>
 .br a0.1
 (.call (rec.C (au,(i64.wrap (av+1)),ax.Normals,a0.2.1,a0.2.2.1,a0.2.2.2.1,a0.2.2.2.2.1,a0.2.2.2.2.2.1,a0.2.2.2.2.2.2.1,a0.2.2.2.2.2.2.2.1,a0.2.2.2.2.2.2.2.2.1,a0.2.2.2.2.2.2.2.2.2.1,a0.2.2.2.2.2.2.2.2.2.2.1,a0.2.2.2.2.2.2.2.2.2.2.2.1,a0.2.2.2.2.2.2.2.2.2.2.2.2.1,a0.2.2.2.2.2.2.2.2.2.2.2.2.2.1,a0.2.2.2.2.2.2.2.2.2.2.2.2.2.2.1,a0.2.2.2.2.2.2.2.2.2.2.2.2.2.2.2.1,a0.2.2.2.2.2.2.2.2.2.2.2.2.2.2.2.2)) [(0,0),(1,2824),(2,2),(3,3),(4,4),(5,5),(6,6),(7,7)] fun a1=>
 .ret (a1.1,a1.2.1,a1.2.2.1,a1.2.2.2.1,a1.2.2.2.2.1,a1.2.2.2.2.2.1,a1.2.2.2.2.2.2.1,a1.2.2.2.2.2.2.2.1,a1.2.2.2.2.2.2.2.2.1,a1.2.2.2.2.2.2.2.2.2.1,a1.2.2.2.2.2.2.2.2.2.2.1,a1.2.2.2.2.2.2.2.2.2.2.2.1,a1.2.2.2.2.2.2.2.2.2.2.2.2.1,a1.2.2.2.2.2.2.2.2.2.2.2.2.2.1,a1.2.2.2.2.2.2.2.2.2.2.2.2.2.2.1,a1.2.2.2.2.2.2.2.2.2.2.2.2.2.2.2.1,a1.2.2.2.2.2.2.2.2.2.2.2.2.2.2.2.2))
 (.ret (false,a0.2.1,a0.2.2.1,a0.2.2.2.1,a0.2.2.2.2.1,a0.2.2.2.2.2.1,a0.2.2.2.2.2.2.1,a0.2.2.2.2.2.2.2.1,a0.2.2.2.2.2.2.2.2.1,a0.2.2.2.2.2.2.2.2.2.1,a0.2.2.2.2.2.2.2.2.2.2.1,a0.2.2.2.2.2.2.2.2.2.2.2.1,a0.2.2.2.2.2.2.2.2.2.2.2.2.1,a0.2.2.2.2.2.2.2.2.2.2.2.2.2.1,a0.2.2.2.2.2.2.2.2.2.2.2.2.2.2.1,a0.2.2.2.2.2.2.2.2.2.2.2.2.2.2.2.1,a0.2.2.2.2.2.2.2.2.2.2.2.2.2.2.2.2)))
 (.ret (false,ac,0,nl,k,aa,nl,0,nl,nl,al,am,an,ao,ap,aq,ar)))))
noncomputable def Rzl:uz7->uz7:=RecS.next [] hd Tryz.func360 (by kernel_rfl) (fun rec a=>Rzm rec a.1 a.2.1 a.2.2.1 a.2.2.2.1 a.2.2.2.2.1 a.2.2.2.2.2.1 a.2.2.2.2.2.2.1 a.2.2.2.2.2.2.2.1 a.2.2.2.2.2.2.2.2.1 a.2.2.2.2.2.2.2.2.2.1 a.2.2.2.2.2.2.2.2.2.2.1 a.2.2.2.2.2.2.2.2.2.2.2.1 a.2.2.2.2.2.2.2.2.2.2.2.2.1 a.2.2.2.2.2.2.2.2.2.2.2.2.2.1 a.2.2.2.2.2.2.2.2.2.2.2.2.2.2.1 a.2.2.2.2.2.2.2.2.2.2.2.2.2.2.2.1 a.2.2.2.2.2.2.2.2.2.2.2.2.2.2.2.2.1 a.2.2.2.2.2.2.2.2.2.2.2.2.2.2.2.2.2.1 a.2.2.2.2.2.2.2.2.2.2.2.2.2.2.2.2.2.2) (fun rec a=>by kernel_rfl)
noncomputable def Rzk (a0:Int)(a1:Int)(a2:Bk)(a3:Ao)(a4:Int)(a5:Ao)(a6:Int)(a7:Int)(a8:Bk)(a9:Int)(a10:A4)(a11:A4)(a12:A4)(a13:A4)(a14:A0)(a15:A8)(a16:A2)(a17:Ad)(a18:Int):CallS Cm:=(RecS.fix Rzl NN).C (a0,a1,a2,a3,a4,a5,a6,a7,a8,a9,a10,a11,a12,a13,a14,a15,a16,a17,a18)
noncomputable def Xzj (k:azc)(aa:A4)(ab:A4)(ac:Int):T bzq:=
 .unroll 1000<|
 .cub 2 28 [4,5,6,7,8] [0,64,128,192,256]
 (.cc (ez1 k) fun ad=>
 .br (ad !=0)
 (.oo true)
 (.cc (bzk k.Robot aa) fun ae=>
 .br (!ae)
 (.oo true)
 (.cc (bzk k.Robot ab) fun af=>
 .oo (!af)))) fun ad=>
 .br ad
 (.ret (⟨0,nl,(⟨0,0,nl⟩:azi),(⟨0,nl,nl⟩:czs)⟩:bzq))
 (.cub 1 35 [4,5,6,7,8] [0,64,128,192,256]
 (.br (decide (ac<0))
 (.oo true)
 (.oo (decide (ac>20)))) fun ae=>
 .br ae
 (.ret (⟨0,nl,(⟨0,0,nl⟩:azi),(⟨0,nl,nl⟩:czs)⟩:bzq))
 (.cut 3 (fun s (af:(Int×Ao×Int×Int×Bk×Int×A4×A4))=>pk s [8] [] [] [(256,.box [pz af.1,q af.2.1,pz af.2.2.1,pz af.2.2.2.1,q af.2.2.2.2.1,pz af.2.2.2.2.2.1,q af.2.2.2.2.2.2.1,q af.2.2.2.2.2.2.2])])
 (.call (Rzk 0 0 nl nl 0 nl 0 0 nl 0 nl nl aa ab k.Robot.Joints k.Robot.Masses k.Shapes k.Skips ac) [(0,576),(1,577),(2,256),(3,64),(4,128),(5,0),(6,192),(7,640)] fun af=>
 .br af.1
 (.oo (1,af.2.1,0,0,nl,0,nl,nl))
 (.oo (af.2.2.1,af.2.2.2.1,af.2.2.2.2.1,af.2.2.2.2.2.1,af.2.2.2.2.2.2.1,af.2.2.2.2.2.2.2.1,af.2.2.2.2.2.2.2.2.1,af.2.2.2.2.2.2.2.2.2.1))) fun af=>
 .ret (⟨af.1,af.2.1,(⟨af.2.2.1,af.2.2.2.1,af.2.2.2.2.1⟩:azi),(⟨af.2.2.2.2.2.1,af.2.2.2.2.2.2.1,af.2.2.2.2.2.2.2⟩:czs)⟩:bzq)))
noncomputable def Lz1 (k)(aa)(ab)(ac):=
 mkC [⟨359,az9g⟩] hd Tryz.func268 (by kernel_rfl) (Xzj k aa ab ac) 0 [q k,q aa,q ab,pz ac] [] (fun r=>q r) (fun _=>[]) (by kernel_rfl)
noncomputable def Wzl (k:azc)(aa:A5)(ab:Al)(ac:Nat)(ad:Nat)(ae:Int)(af:Int):T Bi:=let ag:=ac+(ae.toNat);let ah:=pzz aa ab ac ad;let ai:=ab.getD ag default;.cub 3 20 [2,3,4,5,8,9] [0,1,2,66,130,131,132,194]
 (.br (decide (ae<0))
 (.oo true)
 (.oo (decide (ae≥(ad:Int))))) fun aj=>
 .br aj
 (.call ah [(0,0),(1,1)] fun ak=>
 .ret (ak.1,ak.2,false))
 (.gh ae ad<|
 .grd (ag<ab.length)<|
 .cub 1 49 [2,3,4,5,8,9,10] [0,1,2,66,130,131,132,194,770]
 (.call (tzs aa ab ac ad (ai.U)) [(0,0),(1,1)] fun ak=>
 .br (!ak)
 (.oo true)
 (.call (tzs aa ab ac ad (ai.V)) [(0,0),(1,1)] fun al=>
 .br (!al)
 (.oo true)
 (.br ((ai.State)==1)
 (.oo true)
 (.oo ((ai.State)==2))))) fun ak=>
 .br ak
 (.call ah [(0,0),(1,1)] fun al=>
 .ret (al.1,al.2,false))
 (.gg (ai.U) aa.length<|
 .gg (ai.V) aa.length<|
 .call (Lz1 (⟨k.Robot,k.Shapes,k.Skips⟩:azc) (aa.getD ((ai.U).toNat) default) (aa.getD ((ai.V).toNat) default) af) [] fun al=>
 .call (zzh aa ab ac ad ae al) [(0,0),(1,1)] fun am=>
 .ret (am.1,am.2.1,am.2.2)))
noncomputable def Wzk (k)(aa)(ab)(ac)(ad)(ae)(af):=
 mkC [⟨267,az9a⟩] hd Tryz.func168 (by kernel_rfl) (Wzl k aa ab ac ad ae af) 2 [q k,.agg [.vec 0,.view 1 12 ac ad],pz ae,pz af] [(0,vO aa 30),(1,vO ab 286)] (fun r=>.tup [.agg [.vec 2,.vec 3],q r.2.2]) (fun r=>[(0,vO aa 30),(1,vO ab 286),(2,vO r.1 30),(3,vO r.2.1 286)]) (by kernel_rfl)
noncomputable def Wzf (k:azc)(aa:azu)(ab:Int)(ac:Int)(ad:Int)(ae:Int):T (azu×qzw×Int×Int):=let af:=(⟨k.Robot,k.Shapes,k.Skips⟩:azc);.cc (Iza (⟨aa.Points,aa.Edges⟩:azu)) fun ag=>
 .cc (ez1 af) fun ah=>
 .br (ah !=0)
 (.ret ((⟨ag.1,ag.2⟩:azu),(⟨nl,0⟩:qzw),0,0))
 (.loop (fun s (ai:An)=>pk s [2,3,4,5,6,12,13,14,15] [0,128,192,193,256,576] [] [(320,.box [pz ai.2]),(577,vO ai.1 286)])
 .ret (fun _ (_:U0)=>⟨[],[],[],0⟩)
 (fun ai=>let aj:=(⟨ag.1,ai.1⟩:azu);.call (Qzo ag.1 ai.1 ab ac) [(0,576),(1,577)] fun ak=>let al:=(ak.1).toNat;let am:=i64.wrap (ak.1+1);let an:=(⟨ak.2.1,ak.2.2.1⟩:qzw);
 .br (ak.2.2.2 !=3)
 (.ff (aj,an,ak.2.2.2,ai.2))
 (.br (decide (ai.2≥ae))
 (.ff (aj,an,4,ai.2))
 (.unroll 2<|
 .grd (0≤ak.1/\ak.1≤am/\am≤(ai.1.length:Int))<|
 .cut 0 (fun s (ao:Al)=>pk s [2,3,4,5,6,12,13,14,15] [0,128,192,193,256,320,576] [] [(577,vO ao 286)])
 (.call (Wzk af ag.1 ai.1 al (am.toNat- (ak.1).toNat) 0 ad) [(0,576),(1,577)] fun ao=>let ap:=ao.2.1.getD ((0:Int).toNat) default;
 .br ao.2.2
 (.gg (0:Int) ao.2.1.length<|
 .gh ak.1 ai.1.length<|
 .conv 13008 (kS ai.1 286 al ap)<|
 .gi (ak.1) ai.1.length<|
 .oo (ai.1.set al ap))
 (.oo ai.1)) fun ao=>
 .nn (ao,(i64.wrap (ai.2+1))))))
 (ag.2,0) [] fun _=>
 .stop)
noncomputable def Wze (k)(aa)(ab)(ac)(ad)(ae):=
 mkC [⟨165,az91⟩] hd Tryz.func93 (by kernel_rfl) (Wzf k aa ab ac ad ae) 0 [q k,q aa,pz ab,pz ac,pz ad,pz ae] [] (fun r=>.tup [q r.1,q r.2.1,pz r.2.2.1,pz r.2.2.2]) (fun _=>[]) (by kernel_rfl)
noncomputable def Hzc (k:azc)(aa:A5):T B1:=let ab:=(aa.length:Int);.cc (ez1 k) fun ac=>
 .br (ac !=0)
 (.ret (0,904))
 (.cub 1 18 [1,2] [0]
 (.br (decide (ab<2))
 (.oo true)
 (.oo (decide (ab>256)))) fun ad=>
 .br ad
 (.ret (0,2201))
 (.loop (ik 21 [2,19,20] [0])
 (.exit 0) (jk [] [])
 (fun ae=>.br (decide (ae<ab))
 (.gh ae aa.length<|
 .cc (bzk k.Robot (aa.getD (ae.toNat) default)) fun af=>
 .br (!af)
 (.ff (ae,1201))
 (.nn (i64.wrap (ae+1))))
 (.oo .u))
 0 [] fun _=>
 .ret (0,0)))
noncomputable def tzf:=
 mkq2 Tryz.func234 Hzc (fun r=>.tup [pz r.1,pz r.2])
noncomputable def Szj (k:bzr):T B1:=
 .cc (ez1 k.scene) fun aa=>
 .br (aa !=0)
 (.ret (0,904))
 (.ret (0,0))
noncomputable def Szi:=
 mkq1 Tryz.func333 Szj (fun r=>.tup [pz r.1,pz r.2])
noncomputable def Qz7 (k:bzr):T B1:=
 .cub 2 19 [] []
 (.cc (bzk k.scene.Robot k.p) fun aa=>
 .br (!aa)
 (.oo true)
 (.cc (bzk k.scene.Robot k.q) fun ab=>
 .oo (!ab))) fun aa=>
 .br aa
 (.ret (0,1201))
 (.ret (0,0))
noncomputable def Qz6:=
 mkq1 Tryz.func334 Qz7 (fun r=>.tup [pz r.1,pz r.2])
noncomputable def Qz9 (k:bzr):T B1:=let aa:=(k.pieces.length:Nat);.loop (fun s (ab:B1)=>pk s [1,9,10] [0] [(4,pz ab.1),(11,pz ab.2)] [])
 (.exit 0) (ik 4 [1] [0])
 (fun ab=>let ac:=k.pieces.getD ((ab.2).toNat) default;let ad:=ac.Depth;let ae:=ac.Index;let af:=min ad.toNat 64;let ag:=(1048576:Int).fdiv (2 ^ af);.br (decide (ab.2<(aa:Int)))
 (.gh ab.2 k.pieces.length<|
 .cub 1 27 [1,4,5,6,9,10,11] [0,832]
 (.br (ab.2==4096)
 (.oo true)
 (.br (decide (ad<0))
 (.oo true)
 (.oo (decide (ad>20))))) fun ah=>
 .br ah
 (.ff (ab.2,2001))
 (.cub 1 39 [1,4,5,6,9,10,11] [0,832]
 (.br (decide (ae<0))
 (.oo true)
 (.grd (0≤ad)<|
 .oo (decide (ae≥(i64.wrap (1 * 2 ^ af)))))) fun ai=>
 .br ai
 (.ff (ab.2,2001))
 (.grd (0≤ad)<|
 .name 10003 ((i64.wrap (ae * ag))) fun aj=>
 .br (aj !=ab.1)
 (.ff (ab.2,2001))
 (.name 12002 ((i64.wrap (ab.1+ag))) fun ak=>
 .nn (ak,(i64.wrap (ab.2+1)))))))
 (.oo ab.1))
 (0,0) [] fun ab=>
 .br (ab !=1048576)
 (.ret ((aa:Int),2001))
 (.ret (0,0))
noncomputable def Qz8:=
 mkq1 Tryz.func335 Qz9 (fun r=>.tup [pz r.1,pz r.2])
noncomputable def Izd (k:bzd)(aa:cze):T Bool:=let ab:=(k.normals.length:Nat);.br ((ab:Int) !=(aa.pairs.length:Int))
 (.ret false)
 (.loop (ik 18 [3,16,17] [64])
 (.exit 0) (jk [] [])
 (fun ac=>.br (decide (ac<(ab:Int)))
 (.gh ac k.normals.length<|
 .cc (wzo aa ac) fun ad=>
 .cc (mzu (k.normals.getD (ac.toNat) default) ad.a ad.ra ad.b ad.rb) fun ae=>
 .br (!ae)
 (.ff false)
 (.nn (i64.wrap (ac+1))))
 (.oo .u))
 0 [] fun _=>
 .ret true)
noncomputable def Izc:=
 mkp2 Tryz.func574 Izd
noncomputable def Mz1 (k:azc)(aa:Ae)(ab:bzd):T Bool:=
 .cc (ozo k aa) fun ac=>
 .br ac.2
 (.cc (Izc ab ac.1) fun ad=>
 .ret ad)
 (.ret false)
noncomputable def Mz0 (k)(aa)(ab):=
 mkD Tryz.func486 (Mz1 k aa ab) 0 [q k,q aa,.iface 329 (q ab)] [] (fun r=>q r) (fun _=>[])
noncomputable def Dz0 (k:azc)(aa:Ae)(ab:Bk):T Bool:=
 .cc (Mz0 (⟨k.Robot,k.Shapes,k.Skips⟩:azc) aa (⟨ab⟩:bzd)) fun ac=>
 .ret ac
noncomputable def pzw (k)(aa)(ab):=
 mkC [⟨485,az9o⟩] hd Tryz.func430 (by kernel_rfl) (Dz0 k aa ab) 0 [q k,q aa,q ab] [] (fun r=>q r) (fun _=>[]) (by kernel_rfl)
noncomputable def Hzy (k:bzr):T B1:=
 .loop (ik 11 [1,9,10] [0])
 (.exit 0) (jk [] [])
 (fun aa=>let ab:=k.pieces.getD (aa.toNat) default;.br (decide (aa<(k.pieces.length:Int)))
 (.gh aa k.pieces.length<|
 .cc (uz5 k.p k.q (ab.Depth) (ab.Index)) fun ac=>
 .cub 0 38 [1,4,9,10,11] [0]
 (.br (!ac.2)
 (.oo true)
 (.cc (pzw k.scene ac.1 (ab.Normals)) fun ad=>
 .oo (!ad))) fun ad=>
 .br ad
 (.ff (aa,2002))
 (.nn (i64.wrap (aa+1))))
 (.oo .u))
 0 [] fun _=>
 .ret (0,0)
noncomputable def Hzx:=
 mkq1 Tryz.func336 Hzy (fun r=>.tup [pz r.1,pz r.2])
noncomputable def Jz8 (k:azc)(aa:A4)(ab:A4)(ac:Ao):T B1:=let ad:=(⟨(⟨k.Robot,k.Shapes,k.Skips⟩:azc),aa,ab,ac⟩:bzr);.unroll 5<|
 .known true<|
 .gh (0:Int) 4<|
 .cc (Szi ad) fun ae=>
 .br (ae.2 !=0)
 (.ret (ae.1,ae.2))
 (.lit 9000 (1)<|
 .known true<|
 .gh (1:Int) 4<|
 .cc (Qz6 ad) fun af=>
 .br (af.2 !=0)
 (.ret (af.1,af.2))
 (.lit 9000 (2)<|
 .known true<|
 .gh (2:Int) 4<|
 .cc (Qz8 ad) fun ag=>
 .br (ag.2 !=0)
 (.ret (ag.1,ag.2))
 (.lit 9000 (3)<|
 .known true<|
 .gh (3:Int) 4<|
 .cc (Hzx ad) fun ah=>
 .br (ah.2 !=0)
 (.ret (ah.1,ah.2))
 (.lit 9000 (4)<|
 .known false<|
 .ret (0,0)))))
noncomputable def vzq (k)(aa)(ab)(ac):=
 mkC [⟨332,az9f⟩] hd Tryz.func236 (by kernel_rfl) (Jz8 k aa ab ac) 0 [q k,q aa,q ab,q ac] [] (fun r=>.tup [pz r.1,pz r.2]) (fun _=>[]) (by kernel_rfl)
noncomputable def Oz3 (k:Ao):T Ao:=
 .cc (fz9 k) fun aa=>
 .loop (fun s (ab:Ap)=>pk s [0,7] [] [(8,pz ab.2)] [(128,vO ab.1 87)])
 (.exit 0) (fun s (ab:Ao)=>pk s [0] [] [] [(128,vO ab 87)])
 (fun ab=>let ac:=(ab.2).toNat;let ad:=ab.1.getD ac default;.br (decide (ab.2<(aa.length:Int)))
 (.gg ab.2 ab.1.length<|
 .cc (czd (ad.Normals)) fun ae=>let af:=(⟨ad.Depth,ad.Index,ae⟩:azi);
 .gh ab.2 ab.1.length<|
 .conv 5010 (kS ab.1 87 ac af)<|
 .gi (ab.2) ab.1.length<|
 .nn ((ab.1.set ac af),(i64.wrap (ab.2+1))))
 (.oo ab.1))
 (aa,0) [] fun ab=>
 .ret ab
noncomputable def Az1:=
 mkp1 Tryz.func462 Oz3
noncomputable def Rzg (k:azc)(aa:A4)(ab:A4)(ac:azi)(ad:azi):T (azi×Bool):=let ae:=i64.wrap (ac.Depth-1);let af:=i64.wrap (ac.Index.tdiv 2);let ag:=([ac,ad]:Ao);.cub 2 40 [1,2,5,8,9,10] [0,64,128,192,195]
 (.br (ac.Depth !=ad.Depth)
 (.oo true)
 (.br (decide (ac.Depth≤0))
 (.oo true)
 (.ok ((2:Int)≠0) (by decide)<|
 .br ((ac.Index.tmod 2) !=0)
 (.oo true)
 (.oo (ad.Index !=(i64.wrap (ac.Index+1))))))) fun ah=>
 .br ah
 (.ret ((⟨0,0,nl⟩:azi),false))
 (.ok ((2:Int)≠0) (by decide)<|
 .cc (uz5 aa ab ae af) fun ai=>
 .br (!ai.2)
 (.ret ((⟨0,0,nl⟩:azi),false))
 (.conv 7002 (kL ag 87)<|
 .loop (ik 66 [5,10,12,13,64,65] [0,192,195,770,832,1984])
 (.exit 0) (jk [10] [192,195])
 (fun aj=>let ak:=ag.getD (aj.toNat) default;.br (decide (aj<(ag.length:Int)))
 (.gg aj (ag.length)<|
 .cc (pzw k ai.1 (ak.Normals)) fun al=>
 .br al
 (.ff ((⟨ae,af,ak.Normals⟩:azi),true))
 (.nn (i64.wrap (aj+1))))
 (.oo .u))
 0 [] fun _=>
 .ret ((⟨0,0,nl⟩:azi),false)))
noncomputable def Rzf:=
 mkq5 Tryz.func463 Rzg (fun r=>.tup [q r.1,q r.2])
noncomputable def Oz2 (k:azc)(aa:A4)(ab:A4)(ac:Ao):T Ao:=
 .cc (vzq (⟨k.Robot,k.Shapes,k.Skips⟩:azc) aa ab ac) fun ad=>
 .br (ad.2 !=0)
 (.cc (Az1 ac) fun ae=>
 .ret ae)
 (.loop (fun s (ae:Ap)=>pk s [1,2,4,8,29,30] [0,64] [(31,pz ae.2)] [(65,vO ae.1 87)])
 (.exit 0) (fun s (ae:Ao)=>pk s [8] [64] [] [(65,vO ae 87)])
 (fun ae=>let af:=ac.getD ((ae.2).toNat) default;.br (decide (ae.2<(ac.length:Int)))
 (.gh ae.2 ac.length<|
 .loop (fun s (ag:C0)=>pk s [1,2,4,8,12,29,30,31] [0,64] [] [(65,vO ag.1 87),(1472,.box [pz ag.2.1,pz ag.2.2.1,q ag.2.2.2])])
 (.exit 2) (fun s (ag:C0)=>pk s [1,2,4,8,12,29,30,31] [0,64] [] [(65,vO ag.1 87),(1472,.box [pz ag.2.1,pz ag.2.2.1,q ag.2.2.2])])
 (fun ag=>let ah:=(ag.1.length:Int);let ai:=i64.wrap (ah-1);.br (decide (ah>0))
 (.gg ai ag.1.length<|
 .call (Rzf k aa ab (ag.1.getD (ai.toNat) default) (⟨ag.2.1,ag.2.2.1,ag.2.2.2⟩:azi)) [] fun aj=>
 .br (!aj.2)
 (.oo (ag.1,ag.2.1,ag.2.2.1,ag.2.2.2))
 (.conv 12002 (az5j 3 Azb ag.1 87 ai)<|
 .grd (0≤ai/\ai≤ah/\0≤ai.toNat)<|
 .nn ((ag.1.take (ai.toNat)),aj.1.Depth,aj.1.Index,aj.1.Normals)))
 (.oo (ag.1,ag.2.1,ag.2.2.1,ag.2.2.2)))
 (ae.1,af.Depth,af.Index,af.Normals) [] fun ag=>let ah:=([(⟨ag.2.1,ag.2.2.1,ag.2.2.2⟩:azi)]:Ao);let ai:=ag.1.length+ah.length;
 .conv 13002 (kL ah 87)<|
 .conv 13003 (kA ag.1 ah 87)<|
 .grd (ai * 40≤140737488355328/\ai≤maxLen)<|
 .nn ((ag.1++ah),(i64.wrap (ae.2+1))))
 (.oo ae.1))
 (nl,0) [] fun ae=>
 .cc (Az1 ae) fun af=>
 .ret af)
noncomputable def Oz1 (k)(aa)(ab)(ac):=
 mkC [⟨461,az9m⟩] hd Tryz.func382 (by kernel_rfl) (Oz2 k aa ab ac) 0 [q k,q aa,q ab,q ac] [] (fun r=>q r) (fun _=>[]) (by kernel_rfl)
noncomputable def Rze (k:Ao):T azo:=
 .loop (fun s (aa:(Bk×Aw×Bn×Int))=>pk s [2,3,13,14] [0] [(15,pz aa.2.2.2)] [(1,vO aa.1 100),(2,vO aa.2.1 305),(192,Gzt [.int .i64 0,.int .i64 0,.int .i64 0] bzf aa.2.2.1)])
 (.exit 0) (fun s (aa:(Bk×Aw))=>pk s [2] [0] [] [(1,vO aa.1 100),(2,vO aa.2 305)])
 (fun aa=>let ab:=k.getD ((aa.2.2.2).toNat) default;.br (decide (aa.2.2.2<(k.length:Int)))
 (.gh aa.2.2.2 k.length<|
 .loop (fun s (ac:(Bk×Bn×A4×Int))=>pk s [2,3,6,13,14,15,25,26] [0,2,1216] [(27,pz ac.2.2.2)] [(1,vO ac.1 100),(192,Gzt [.int .i64 0,.int .i64 0,.int .i64 0] bzf ac.2.1),(1154,vO ac.2.2.1 3)])
 (.exit 2) (fun s (ac:(Bk×Bn×A4))=>pk s [2,3,6,13,14,15] [0,2,1216] [] [(1,vO ac.1 100),(192,Gzt [.int .i64 0,.int .i64 0,.int .i64 0] bzf ac.2.1),(1154,vO ac.2.2 3)])
 (fun ac=>let ad:=(ac.1.length:Int);let ae:=(ab.Normals).getD ((ac.2.2.2).toNat) default;let af:=mdom bzf ac.2.1 (bzf ae);let ag:=mget bzf ac.2.1 (bzf ae);let ah:=([ae]:Bk);let ai:=ac.1.length+ah.length;.br (decide (ac.2.2.2<(ab.Normals.length:Int)))
 (.gh ac.2.2.2 (ab.Normals.length)<|
 .ok (af=false->PSub (.int .i64 0) (PVal.int .i64 ag)) azg3<|
 .name 10004 (ag) fun aj=>
 .cut 0 (fun s (ak:(Bk×Bn×Int))=>pk s [2,3,6,13,14,15,25,26,27] [2,1154,1216] [(9,pz ak.2.2)] [(0,.box [.vec 2496,.vec 2]),(192,Gzt [.int .i64 0,.int .i64 0,.int .i64 0] bzf ak.2.1),(2496,vO ak.1 100)])
 (.br (!af)
 (.conv 13003 (azh0 [.int .i64 0,.int .i64 0,.int .i64 0] bzf ac.2.1 ae ad)<|
 .conv 14003 (kL ah 100)<|
 .conv 14004 (kA ac.1 ah 100)<|
 .grd (ai * 24≤140737488355328/\ai≤maxLen)<|
 .oo ((ac.1++ah),((ae,ad)::ac.2.1),ad))
 (.oo (ac.1,ac.2.1,aj))) fun ak=>let al:=([ak.2.2]:A4);let am:=ac.2.2.1.length+al.length;
 .conv 15003 (kL al 3)<|
 .conv 15004 (kA ac.2.2.1 al 3)<|
 .grd (am * 8≤140737488355328/\am≤maxLen)<|
 .nn (ak.1,ak.2.1,(ac.2.2.1++al),(i64.wrap (ac.2.2.2+1))))
 (.oo (ac.1,ac.2.1,ac.2.2.1)))
 (aa.1,aa.2.2.1,nl,0) [] fun ac=>let ad:=([(⟨ab.Depth,ab.Index,ac.2.2⟩:fz5)]:Aw);let ae:=aa.2.1.length+ad.length;
 .conv 17003 (kL ad 305)<|
 .conv 17004 (kA aa.2.1 ad 305)<|
 .grd (ae * 40≤140737488355328/\ae≤maxLen)<|
 .nn (ac.1,(aa.2.1++ad),ac.2.1,(i64.wrap (aa.2.2.2+1))))
 (.oo (aa.1,aa.2.1)))
 (nl,nl,(nl:List (Bj×Int)),0) [] fun aa=>
 .ret (⟨aa.1,aa.2⟩:azo)
noncomputable def Dzl (k):=
 mkC [⟨384,az9j⟩] hd Tryz.func281 (by kernel_rfl) (Rze k) 0 [q k] [] (fun r=>q r) (fun _=>[]) (by kernel_rfl)
noncomputable def Sz7 (k:fzh)(aa:A4)(ab:A4):T (azo×Bool):=
 .cc (Lz1 k.scene aa ab k.depth) fun ac=>
 .br (ac.Kind !=1)
 (.ret ((⟨nl,nl⟩:azo),false))
 (.cc (Oz1 k.scene aa ab ac.Pieces) fun ad=>
 .cc (Dzl ad) fun ae=>
 .ret (ae,true))
noncomputable def Sz6:=
 mkq3 Tryz.func278 Sz7 (fun r=>.tup [q r.1,q r.2])
noncomputable def Sz5 (k:A5)(aa:fzh):T (Ax×Int×Int):=let ab:=(k.length:Int);let ac:=(k.drop ((1:Int).toNat)).take (ab.toNat- (1:Int).toNat);.conv 2001 (Ezu 1 (encL 1 azs) k (1:Int) ab)<|
 .grd (0≤(1:Int)/\(1:Int)≤ab/\ab≤ab)<|
 .loop (fun s (ad:Ay)=>pk s [0,1,7,13,14] [] [(15,pz ad.2)] [(192,vO ad.1 207)])
 (.exit 0) (fun s (ad:Ax)=>pk s [7] [] [] [(192,vO ad 207)])
 (fun ad=>let ae:=(ad.2).toNat;.br (decide (ad.2<(ac.length:Int)))
 (.gh ad.2 (ac.length)<|
 .gh ad.2 k.length<|
 .call (Sz6 (⟨aa.scene,aa.depth⟩:fzh) (k.getD ae default) (ac.getD ae default)) [] fun af=>let ag:=([af.1]:Ax);let ah:=ad.1.length+ag.length;
 .br (!af.2)
 (.ff (nl,ad.2,2204))
 (.conv 8002 (kL ag 207)<|
 .conv 8003 (kA ad.1 ag 207)<|
 .grd (ah * 48≤140737488355328/\ah≤maxLen)<|
 .nn ((ad.1++ag),(i64.wrap (ad.2+1)))))
 (.oo ad.1))
 (nl,0) [] fun ad=>
 .ret (ad,0,0)
noncomputable def Sz4 (k)(aa):=
 mkD Tryz.func277 (Sz5 k aa) 0 [q k,.func 278 [q aa] []] [] (fun r=>.tup [q r.1,pz r.2.1,pz r.2.2]) (fun _=>[])
noncomputable def Hzf (k:A5):T A5:=
 .cc (hzo k) fun aa=>
 .loop (fun s (ab:Aq)=>pk s [0,7,8] [] [(9,pz ab.2)] [(128,vO ab.1 30)])
 (.exit 0) (fun s (ab:A5)=>pk s [0] [] [] [(128,vO ab 30)])
 (fun ab=>let ac:=(ab.2).toNat;.br (decide (ab.2<(aa.length:Int)))
 (.gg ab.2 ab.1.length<|
 .cc (bzp (ab.1.getD ac default)) fun ad=>
 .gh ab.2 ab.1.length<|
 .conv 5005 (kS ab.1 30 ac ad)<|
 .gi (ab.2) ab.1.length<|
 .nn ((ab.1.set ac ad),(i64.wrap (ab.2+1))))
 (.oo ab.1))
 (aa,0) [] fun ab=>
 .ret ab
noncomputable def tzg:=
 mkv1 Tryz.func279 Hzf (fun _=>.vec 0) (fun r=>[(0,vO r 30)])
noncomputable def Yzo (k:azc)(aa:A5)(ab:Int):T (czr×Int×Int):=
 .cc (tzf k aa) fun ac=>
 .br (ac.2 !=0)
 (.ret ((⟨nl,nl⟩:czr),ac.1,ac.2))
 (.cc (Sz4 aa (⟨(⟨k.Robot,k.Shapes,k.Skips⟩:azc),ab⟩:fzh)) fun ad=>
 .br (ad.2.2 !=0)
 (.ret ((⟨nl,nl⟩:czr),ad.2.1,ad.2.2))
 (.cc (tzg aa) fun ae=>
 .ret ((⟨ae,ad.1⟩:czr),0,0)))
noncomputable def Yzn (k)(aa)(ab):=
 mkC [⟨276,az9b⟩] hd Tryz.func177 (by kernel_rfl) (Yzo k aa ab) 0 [q k,q aa,pz ab] [] (fun r=>.tup [q r.1,pz r.2.1,pz r.2.2]) (fun _=>[]) (by kernel_rfl)
noncomputable def jzr (a0:Ax):T Ax:=
 (match a0 with
  |[]=>.unroll 1<|
  .grd (a0.length=0)<|
  .both
   (.ret nl)
   (.conv 3000 (kL ([]:Ax) 207)<|
   .conv 3002 (kA ([]:Ax) a0 207)<|
   .grd ((([]:Ax).length+a0.length) * 48≤140737488355328/\(([]:Ax).length+a0.length)≤maxLen)<|
   .ret (([]:Ax)++a0))
  |_::_=>.grd (0<a0.length)<|
  .conv 3000 (kL ([]:Ax) 207)<|
  .conv 3002 (kA ([]:Ax) a0 207)<|
  .grd ((([]:Ax).length+a0.length) * 48≤140737488355328/\(([]:Ax).length+a0.length)≤maxLen)<|
  .ret (([]:Ax)++a0))
noncomputable def jzq (a0:Ax):CallS Ax:=
 mkH [] hd Tryz.func464 (by kernel_rfl) (jzr a0) 0 [q a0] [] (fun _=>.vec 0) (fun r=>[(0,vO r 207)]) (by cases a0<;>exact Ob.of_side (by kernel_rfl))
noncomputable def ozg (a0:Aw):T Aw:=
 (match a0 with
  |[]=>.unroll 1<|
  .grd (a0.length=0)<|
  .both
   (.ret nl)
   (.conv 3000 (kL ([]:Aw) 305)<|
   .conv 3002 (kA ([]:Aw) a0 305)<|
   .grd ((([]:Aw).length+a0.length) * 40≤140737488355328/\(([]:Aw).length+a0.length)≤maxLen)<|
   .ret (([]:Aw)++a0))
  |_::_=>.grd (0<a0.length)<|
  .conv 3000 (kL ([]:Aw) 305)<|
  .conv 3002 (kA ([]:Aw) a0 305)<|
  .grd ((([]:Aw).length+a0.length) * 40≤140737488355328/\(([]:Aw).length+a0.length)≤maxLen)<|
  .ret (([]:Aw)++a0))
noncomputable def ozf (a0:Aw):CallS Aw:=
 mkH [] hd Tryz.func510 (by kernel_rfl) (ozg a0) 0 [q a0] [] (fun _=>.vec 0) (fun r=>[(0,vO r 305)]) (by cases a0<;>exact Ob.of_side (by kernel_rfl))
noncomputable def Hze (k:azo):T (Bk×Aw):=
 .cc (ozf k.Uses) fun aa=>
 .loop (fun s (ab:(Aw×Int))=>pk s [1,2,3,9,10] [0,64,65,66] [(11,pz ab.2)] [(256,vO ab.1 305)])
 (.exit 0) (fun s (ab:Aw)=>pk s [1,2,3] [0,64,65,66] [] [(256,vO ab 305)])
 (fun ab=>let ac:=(ab.2).toNat;let ad:=ab.1.getD ac default;.br (decide (ab.2<(aa.length:Int)))
 (.gg ab.2 ab.1.length<|
 .cc (hzb (ad.Numbers)) fun ae=>let af:=(⟨ad.Depth,ad.Index,ae⟩:fz5);
 .gh ab.2 ab.1.length<|
 .conv 5007 (kS ab.1 305 ac af)<|
 .gi (ab.2) ab.1.length<|
 .nn ((ab.1.set ac af),(i64.wrap (ab.2+1))))
 (.oo ab.1))
 (aa,0) [] fun ab=>
 .cc (czd k.Table) fun ac=>
 .ret (ac,ab)
noncomputable def Hzd:=
 mkv1 Tryz.func465 Hze (fun r=>.agg [q r.1,.vec 0]) (fun r=>[(0,vO r.2 305)])
noncomputable def Yzs (k:czr):T (A5×Ax):=
 .cc (jzq k.Edges) fun aa=>
 .gst 3 256 (0) (azh2 2 czo aa 207 1 3 305 rfl)<|
 .loop (fun s (ab:(Ax×Nat×Int))=>pk s [1,2,3,9,10] [0,64,65,66] [(11,pz ab.2.2)] [(256,azbm 2 czo ab.1 ab.2.1 207 1 3 305 [])])
 (.exit 0) (fun s (ab:Ax)=>pk s [1,2,3] [0,64,65,66] [] [(256,Rz5 2 czo ab 207 1 3 305)])
 (fun ab=>let ac:=ab.2.2;let ad:=ac.toNat;.br (decide (ab.2.2<(aa.length:Int)))
 (.gh ab.2.2 ab.1.length<|
 .unroll 1100<|
 .grd (ab.2.1≤ac.toNat/\ac.toNat<ab.1.length)<|
 .cc (Hzd (ab.1.getD ad default)) fun ae=>let af:=(⟨ae.1,ae.2⟩:azo);
 .gh ab.2.2 ab.1.length<|
 .unroll 1100<|
 .grd (ac.toNat<ab.1.length)<|
 .gst 2 256 (0) (azfi 2 czo ab.1 207 1 3 305 (ab.2.1+1) ad [encL 3 azh ae.1,.unk] (encL 3 Jz9 ae.2) af rfl)<|
 .grd (ac.toNat=ab.2.1)<|
 .nn ((ab.1.set ad af),(ab.2.1+1),(i64.wrap (ab.2.2+1))))
 (.gst 3 256 (0) (azfh 2 czo ab.1 207 1 3 305 ab.2.1)<|
 .grd (ab.2.1=ab.1.length)<|
 .oo ab.1))
 (aa,0,0) [] fun ab=>
 .cc (tzg k.Points) fun ac=>
 .ret (ac,ab)
noncomputable def Yzr:=
 mkv1 Tryz.func386 Yzs (fun _=>.agg [.vec 0,.vec 1]) (fun r=>[(0,vO r.1 30),(1,Rz5 2 czo r.2 207 1 3 305)])
noncomputable def qzj (k:A5):T A5:=
 .loop (fun s (aa:Bg)=>pk s [0] [] [(2,pz aa.2.1),(3,pz aa.2.2)] [(0,vO aa.1 30)])
 (.exit 0) (fun s (aa:A5)=>pk s [] [] [] [(0,vO aa 30)])
 (fun aa=>let ab:=(aa.2.1).toNat;let ac:=(aa.2.2).toNat;let ad:=aa.1.getD ac default;let ae:=aa.1.set ab ad;let af:=aa.1.getD ab default;.br (decide (aa.2.1<aa.2.2))
 (.gg aa.2.2 aa.1.length<|
 .gg aa.2.1 aa.1.length<|
 .gh aa.2.1 aa.1.length<|
 .conv 3013 (kS aa.1 30 ab ad)<|
 .gi (aa.2.1) aa.1.length<|
 .gh aa.2.2 (ae.length)<|
 .conv 3015 (kS ae 30 ac af)<|
 .gi (aa.2.2) (ae.length)<|
 .nn ((ae.set ac af),(i64.wrap (aa.2.1+1)),(i64.wrap (aa.2.2-1))))
 (.oo aa.1))
 (k,0,(i64.wrap ((k.length:Int)-1))) [] fun aa=>
 .ret aa
noncomputable def qzi (k):=
 mkD Tryz.func387 (qzj k) 1 [.vec 0] [(0,vO k 30)] (fun _=>.tup []) (fun r=>[(0,vO r 30)])
noncomputable def izu (k:Ax):T Ax:=
 .loop (fun s (aa:(Ax×Int×Int))=>pk s [0] [] [(2,pz aa.2.1),(3,pz aa.2.2)] [(0,Rz5 2 czo aa.1 207 1 3 305)])
 (.exit 0) (fun s (aa:Ax)=>pk s [] [] [] [(0,Rz5 2 czo aa 207 1 3 305)])
 (fun aa=>let ab:=aa.2.2;let ac:=aa.2.1;let ad:=ab.toNat;let ae:=ac.toNat;let af:=aa.1.getD ae default;let ag:=aa.1.getD ad default;.br (decide (aa.2.1<aa.2.2))
 (.gst 0 0 ad .none<|
 .grd (ab.toNat<aa.1.length)<|
 .gst 0 0 ae .none<|
 .grd (ab.toNat≠ac.toNat/\ac.toNat<aa.1.length)<|
 .gh aa.2.2 aa.1.length<|
 .unroll 1101<|
 .ok (ab.toNat=ab.toNat) rfl<|
 .gh aa.2.1 aa.1.length<|
 .unroll 1102<|
 .ok (ac.toNat=ac.toNat) rfl<|
 .gh aa.2.1 aa.1.length<|
 .unroll 1102<|
 .ok (ac.toNat=ac.toNat) rfl<|
 .gh aa.2.2 aa.1.length<|
 .unroll 1101<|
 .ok (ab.toNat=ab.toNat) rfl<|
 .gst 1 0 (0) .none<|
 .gst 1 0 (0) .none<|
 .gst 3 0 (0) (azd6 2 czo aa.1 207 1 3 305 ae ad [encL 3 azh (af.Table),.unk] [encL 3 azh (ag.Table),.unk] (encL 3 Jz9 (af.Uses)) (encL 3 Jz9 (ag.Uses)) ag af rfl rfl)<|
 .grd (ab.toNat≠ac.toNat)<|
 .nn (((aa.1.set ae ag).set ad af),(i64.wrap (aa.2.1+1)),(i64.wrap (aa.2.2-1))))
 (.oo aa.1))
 (k,0,(i64.wrap ((k.length:Int)-1))) [] fun aa=>
 .ret aa
noncomputable def izt (k):=
 mkD Tryz.func388 (izu k) 1 [.vec 0] [(0,Rz5 2 czo k 207 1 3 305)] (fun _=>.tup []) (fun r=>[(0,Rz5 2 czo r 207 1 3 305)])
noncomputable def mzh (k:Aw):T Aw:=
 .loop (fun s (aa:(Aw×Int×Int))=>pk s [0] [] [(2,pz aa.2.1),(3,pz aa.2.2)] [(0,vO aa.1 305)])
 (.exit 0) (fun s (aa:Aw)=>pk s [] [] [] [(0,vO aa 305)])
 (fun aa=>let ab:=(aa.2.1).toNat;let ac:=(aa.2.2).toNat;let ad:=aa.1.getD ac default;let ae:=aa.1.set ab ad;let af:=aa.1.getD ab default;.br (decide (aa.2.1<aa.2.2))
 (.gg aa.2.2 aa.1.length<|
 .gg aa.2.1 aa.1.length<|
 .gh aa.2.1 aa.1.length<|
 .conv 3013 (kS aa.1 305 ab ad)<|
 .gi (aa.2.1) aa.1.length<|
 .gh aa.2.2 (ae.length)<|
 .conv 3015 (kS ae 305 ac af)<|
 .gi (aa.2.2) (ae.length)<|
 .nn ((ae.set ac af),(i64.wrap (aa.2.1+1)),(i64.wrap (aa.2.2-1))))
 (.oo aa.1))
 (k,0,(i64.wrap ((k.length:Int)-1))) [] fun aa=>
 .ret aa
noncomputable def mzg (k):=
 mkD Tryz.func389 (mzh k) 1 [.vec 0] [(0,vO k 305)] (fun _=>.tup []) (fun r=>[(0,vO r 305)])
noncomputable def Sz3 (k:czr):T czr:=
 .cc (Yzr (⟨k.Points,k.Edges⟩:czr)) fun aa=>
 .unroll 998<|
 .call (qzi aa.1) [(0,320)] fun ab=>
 .call (izt aa.2) [(0,321)] fun ac=>
 .loop (fun s (ad:Ay)=>pk s [1,2,17,18] [0,64,65,66,320] [(19,pz ad.2)] [(321,Rz5 2 czo ad.1 207 1 3 305)])
 (.exit 0) (fun s (ad:Ax)=>pk s [1,2] [0,64,65,66,320] [] [(321,Rz5 2 czo ad 207 1 3 305)])
 (fun ad=>let ae:=ad.2;let af:=ae.toNat;let ag:=ad.1.getD af default;.br (decide (ad.2<(ac.length:Int)))
 (.gst 0 321 af .none<|
 .grd (ae.toNat<ad.1.length)<|
 .gh ad.2 ad.1.length<|
 .unroll 1101<|
 .ok (ae.toNat=ae.toNat) rfl<|
 .call (mzg (ag.Uses)) [(0,1216)] fun ah=>
 .loop (fun s (ai:(Aw×Int))=>pk s [1,2,4,17,18,19,27,28] [0,64,65,66,320,321,1408] [(29,pz ai.2)] [(1216,vO ai.1 305)])
 (.exit 2) (fun s (ai:Aw)=>pk s [1,2,17,18,19] [0,64,65,66,320,321] [] [(1216,vO ai 305)])
 (fun ai=>let aj:=(ai.2).toNat;let ak:=ai.1.getD aj default;let al:=ak.Depth;.br (decide (ai.2<(ah.length:Int)))
 (.cut 0 (fun s (am:Aw)=>pk s [1,2,4,17,18,19,27,28,29] [0,64,65,66,320,321,1408] [] [(1216,vO am 305)])
 (.gg ai.2 ai.1.length<|
 .cub 0 41 [1,2,4,5,6,17,18,19,27,28,29] [0,64,65,66,320,321,1216,1408,2304]
 (.br (decide (al≥0))
 (.oo (decide (al≤20)))
 (.oo false)) fun am=>
 .br am
 (.grd (0≤al)<|
 .name 13009 ((i64.wrap ((i64.wrap ((i64.wrap (1 * 2 ^ (min al.toNat 64)))-1))- (ak.Index)))) fun an=>let ao:=(⟨ak.Depth,an,ak.Numbers⟩:fz5);
 .gh ai.2 ai.1.length<|
 .conv 13012 (kS ai.1 305 aj ao)<|
 .gi (ai.2) ai.1.length<|
 .oo (ai.1.set aj ao))
 (.oo ai.1)) fun am=>
 .nn (am,(i64.wrap (ai.2+1))))
 (.oo ai.1))
 (ah,0) [] fun ai=>let aj:=(⟨ag.Table,ai⟩:azo);
 .gst 1 321 (0) (azfj 2 czo ad.1 207 1 3 305 af (encL 3 Jz9 ai) aj rfl)<|
 .nn ((ad.1.set af aj),(i64.wrap (ad.2+1))))
 (.oo ad.1))
 (ac,0) [] fun ad=>
 .ret (⟨ab,ad⟩:czr)
noncomputable def Sz2 (k):=
 mkC [⟨385,az9k⟩] hd Tryz.func282 (by kernel_rfl) (Sz3 k) 0 [q k] [] (fun r=>q r) (fun _=>[]) (by kernel_rfl)
noncomputable def Szq (k:azu)(aa:Int)(ab:Int):T azo:=let ac:=k.Edges.getD (aa.toNat) default;let ad:=([(k.Points.getD ((ac.U).toNat) default),(k.Points.getD ((ac.V).toNat) default)]:A5);.gh aa k.Edges.length<|
 .cc (Dzl (ac.Proof.Pieces)) fun ae=>let af:=([ae]:Ax);
 .br (ab==(ac.U))
 (.ret ae)
 (.gh (ac.U) k.Points.length<|
 .gh (ac.V) k.Points.length<|
 .conv 5012 (kL ad 30)<|
 .conv 5014 (kL af 207)<|
 .call (Sz2 (⟨ad,af⟩:czr)) [] fun ag=>
 .gh (0:Int) ag.Edges.length<|
 .ret (ag.Edges.getD ((0:Int).toNat) default))
noncomputable def Szp:=
 mkp3 Tryz.func179 Szq
end Go.Abs
