/-
  D3 (a part of a claim: our own text).
-/
import Derived.Test.YtlalffdgimbodaaGreatYHM2
namespace Go.Abs
open IntKind (i64)
open Go.Proofs
noncomputable def jzm (c:Am)(d:A0)(e:Int)(f:Int):T A0:=let g:=e.toNat;let h:=(d.length:Nat);let i:Nat×Res:=(1,.box [.pure (encL 3 az1 c),.vec 0]);.loop (fun (j:Ak)=>⟨[(1,pz e),(2,pz f),(3,.ptr 1 0),(6,pz j.2.1),(11,.vec 0),(12,pz (h:Int)),(13,pz j.2.2)],[(0,vecO 1 az3 j.1 2),i],[],2⟩)
 (.exit 0) (fun (j:A2)=>⟨[(1,pz e),(3,.ptr 1 0),(6,pz j.2)],[(0,vecO 1 az3 j.1 2),i],[],2⟩)
 (fun j=>let k:=(j.2.2).toNat;let m:=j.1.getD k default;let n:=i64.wrap ((i64.wrap (m * f)).tdiv 256);.br (decide (j.2.2<(h:Int)))
 (.gg j.2.2 j.1.length<|
 .ok ((256:Int)≠0) (by decide)<|
 .gg j.2.2 j.1.length<|
 .name 6006 ((i64.wrap (m-n))) fun s=>
 .gh j.2.2 j.1.length<|
 .conv 6008 (hz1 1 az3 j.1 2 k s)<|
 .gi (j.2.2) j.1.length<|
 .name 7002 ((i64.wrap (j.2.1+n))) fun t=>
 .nn ((j.1.set k s),t,(i64.wrap (j.2.2+1))))
 (.oo (j.1,j.2.1)))
 (d,0,0) [] fun j=>let k:=i64.wrap ((j.1.getD g default)+j.2);
 .gg e j.1.length<|
 .gh e j.1.length<|
 .conv 9008 (hz1 1 az3 j.1 2 g k)<|
 .gi (e) j.1.length<|
 .ret (j.1.set g k)
noncomputable def nzm (c)(d)(e)(f):=
 mkD Tryz.func201 (jzm c d e f) 1 [.agg [.pure (encL 3 az1 c),.vec 0],pz e,pz f] [(0,vecO 1 az3 d 2)] (fun _=>.tup []) (fun r=>[(0,vecO 1 az3 r 2)])
noncomputable def pze (c:Am)(d:A0)(e:Am)(f:A0)(g:Int)(h:Int)(i:Int)(j:Int)(k:Int)(m:Int):T (Int×Am×A0×Am×A0×Int×Int×Int×Int):=
 .loop (fun (n:(A0×A0×Int×Int×Int×Int))=>⟨[(0,.ptr 0 0),(1,pz k),(2,pz m)],[(0,.box [.pure (encL 3 az1 c),.vec 1,.pure (encL 3 az1 e),.vec 2,pz n.2.2.1,pz n.2.2.2.1,pz n.2.2.2.2.1,pz n.2.2.2.2.2]),(1,vecO 1 az3 n.1 2),(2,vecO 1 az3 n.2.1 2)],[],3⟩)
 .ret (fun (_:U0)=>⟨[],[],[],3⟩)
 (fun n=>.call (yzy c n.1) [(0,1)] fun s=>
 .call (yzy e n.2.1) [(0,2)] fun t=>
 .cc (jzq s t) fun w=>let y:=i64.wrap (w.1.tdiv 65536);let z:=i64.wrap (w.2.1.tdiv 65536);let aa:=i64.wrap (w.2.2.tdiv 65536);
 .cc (lz6 w k) fun ab=>
 .br ab
 (.ff (2,c,n.1,e,n.2.1,n.2.2.1,n.2.2.2.1,n.2.2.2.2.1,n.2.2.2.2.2))
 (.ix 0 3 rfl<|
 .ok ((65536:Int)≠0) (by decide)<|
 .ix 1 3 rfl<|
 .ok ((65536:Int)≠0) (by decide)<|
 .ix 2 3 rfl<|
 .ok ((65536:Int)≠0) (by decide)<|
 .cc (izp (y,z,aa)) fun ac=>
 .br (!ac.2)
 (.ff (0,c,n.1,e,n.2.1,ac.1.1,ac.1.2.1,ac.1.2.2,n.2.2.2.2.2))
 (.call (xz3 c n.1 ac.1) [(0,1)] fun ad=>
 .call (nz8 e n.2.1 ac.1) [(0,2)] fun ae=>
 .cc (szh ac.1) fun af=>
 .br (decide ((i64.wrap (ad.1-ae.1))>(i64.wrap (af * k))))
 (.ff (1,c,n.1,e,n.2.1,ac.1.1,ac.1.2.1,ac.1.2.2,n.2.2.2.2.2))
 (.br (n.2.2.2.2.2==m)
 (.ff (0,c,n.1,e,n.2.1,ac.1.1,ac.1.2.1,ac.1.2.2,n.2.2.2.2.2))
 (.gh ad.2 c.length<|
 .gh ae.2 e.length<|
 .cc (jzq (c.getD ((ad.2).toNat) default) (e.getD ((ae.2).toNat) default)) fun ag=>
 .cc (rze (y,z,aa) ag) fun ah=>
 .br (ah==0)
 (.ff (0,c,n.1,e,n.2.1,ac.1.1,ac.1.2.1,ac.1.2.2,n.2.2.2.2.2))
 (.call (nzm c n.1 ad.2 ah) [(0,1)] fun ai=>
 .call (nzm e n.2.1 ae.2 ah) [(0,2)] fun aj=>
 .nn (ai,aj,ac.1.1,ac.1.2.1,ac.1.2.2,(i64.wrap (n.2.2.2.2.2+1)))))))))
 (d,f,g,h,i,j) [] fun _=>
 .stop
noncomputable def Jz1 (c)(d)(e)(f)(g)(h)(i)(j)(k)(m):=
 mkD Tryz.func153 (pze c d e f g h i j k m) 3 [.ptr 0 0,pz k,pz m] [(0,.box [.pure (encL 3 az1 c),.vec 1,.pure (encL 3 az1 e),.vec 2,pz g,pz h,pz i,pz j]),(1,vecO 1 az3 d 2),(2,vecO 1 az3 f 2)] (fun r=>pz r.1) (fun r=>[(0,.box [.pure (encL 3 az1 r.2.1),.vec 1,.pure (encL 3 az1 r.2.2.2.1),.vec 2,pz r.2.2.2.2.2.1,pz r.2.2.2.2.2.2.1,pz r.2.2.2.2.2.2.2.1,pz r.2.2.2.2.2.2.2.2]),(1,vecO 1 az3 r.2.2.1 2),(2,vecO 1 az3 r.2.2.2.2.1 2)])
noncomputable def gzb (c:Am)(d:Am)(e:Int)(f:Int):T czu:=
 .cut 2 (fun (g:Bool)=>⟨[(0,.pure (encL 3 az1 c)),(1,.pure (encL 3 az1 d)),(2,pz e),(3,pz f),(8,.ptr 0 0),(34,.pure (.bool g))],[(0,.box [pz 0,pz 0,pz 0,pz 0,.vec 1,.vec 2,pz 0]),(1,.nilv),(2,.nilv)],[],3⟩)
 (.cc (izo c) fun g=>
 .br (!g)
 (.oo true)
 (.cc (izo d) fun h=>
 .br (!h)
 (.oo true)
 (.br (decide (e<0))
 (.oo true)
 (.br (decide (e>2097152))
 (.oo true)
 (.br (decide (f<0))
 (.oo true)
 (.oo (decide (f>64)))))))) fun g=>
 .br g
 (.ret (⟨0,(0,0,0),nl,nl,0⟩:czu))
 (.cc (hzi c) fun h=>
 .cc (hzi d) fun i=>
 .call (Jz1 h.1 h.2 i.1 i.2 0 0 0 0 e f) [(0,451),(1,67),(2,259)] fun j=>
 .ret (⟨j.1,(j.2.2.2.2.2.1,j.2.2.2.2.2.2.1,j.2.2.2.2.2.2.2.1),j.2.2.1,j.2.2.2.2.1,j.2.2.2.2.2.2.2.2⟩:czu))
noncomputable def ez4 (c)(d)(e)(f):=
 mkD Tryz.func118 (gzb c d e f) 0 [.pure (encL 3 az1 c),.pure (encL 3 az1 d),pz e,pz f] [] (fun r=>.pure (Hzo r)) (fun _=>[])
noncomputable def gzo {o:Al->Option Bool}(Y:YldS Tryz.prog az1 o)(a0:As)(a1:As)(a2:Int)(a3:Int)(a4:Am):T B3:=
 .cut 1 (fun (y22:Bool)=>⟨[(0,.yld Y.l),(1,.ptr 1 0),(2,.ptr 2 0),(3,.ptr 3 0),(4,.ptr 4 0),(5,.ptr 5 0),(31,.pure (.bool y22))],[(0,.tok Y.τ (tokP false (az1 default))),(1,.box [.pure (encL 6 az2 a0)]),(2,.box [.pure (encL 6 az2 a1)]),(3,.box [pz a2]),(4,.box [pz a3]),(5,.box [.pure (encL 3 az1 a4)])],[],6⟩)
 (.call (dz5 a0) [] fun y23=>
 .br (!y23)
 (.ret (.out true))
 (.call (dz5 a1) [] fun y24=>
 .br (!y24)
 (.ret (.out true))
 (.call (jzs a2) [] fun y25=>
 .br (!y25)
 (.ret (.out true))
 (.call (jzs a3) [] fun y26=>
 .ret (.out (!y26)))))) fun y22=>
 .br y22
 (.ret (false,default,a0,a1,a2,a3,a4))
 (.loop (fun (x87:(Int×Bool×Al))=>⟨[(0,.yld Y.l),(1,.ptr 1 0),(2,.ptr 2 0),(3,.ptr 3 0),(4,.ptr 4 0),(32,.pure (encL 3 az1 a4)),(33,pz (a4.length:Int)),(34,pz x87.1)],[(0,.tok Y.τ (tokP x87.2.1 (az1 x87.2.2))),(1,.box [.pure (encL 6 az2 a0)]),(2,.box [.pure (encL 6 az2 a1)]),(3,.box [pz a2]),(4,.box [pz a3]),(5,.box [.pure (encL 3 az1 a4)])],[],6⟩)
 (.exit 0) (fun (y102:(Bool×Al))=>⟨[(0,.yld Y.l),(1,.ptr 1 0),(2,.ptr 2 0),(3,.ptr 3 0),(4,.ptr 4 0)],[(0,.tok Y.τ (tokP y102.1 (az1 y102.2))),(1,.box [.pure (encL 6 az2 a0)]),(2,.box [.pure (encL 6 az2 a1)]),(3,.box [pz a2]),(4,.box [pz a3]),(5,.box [.pure (encL 3 az1 a4)])],[],6⟩)
 (fun x87=>.br (decide (x87.1<(a4.length:Int)))
 (.grd (0≤x87.1/\x87.1<(a4.length:Int))<|
 .cut 0 (fun (y114:Ax)=>⟨[(0,.yld Y.l),(1,.ptr 1 0),(2,.ptr 2 0),(3,.ptr 3 0),(4,.ptr 4 0),(32,.pure (encL 3 az1 a4)),(33,pz (a4.length:Int)),(34,pz x87.1),(45,.pure (.bool y114.1))],[(0,.tok Y.τ (tokP y114.2.1 (az1 y114.2.2))),(1,.box [.pure (encL 6 az2 a0)]),(2,.box [.pure (encL 6 az2 a1)]),(3,.box [pz a2]),(4,.box [pz a3]),(5,.box [.pure (encL 3 az1 a4)])],[],6⟩)
 (.call (fz2 (a4.getD ((x87.1).toNat) default)) [] fun y115=>
 .br y115
 (.call (Y.C x87.2.1 x87.2.2 (a4.getD ((x87.1).toNat) default)) [(0,0)] fun y116=>
 .ret (.out ((!(!y116)),y116,(a4.getD ((x87.1).toNat) default))))
 (.ret (.out (false,x87.2.1,x87.2.2)))) fun y114=>
 .br y114.1
 (.ret (.fin (y114.2.1,y114.2.2,a0,a1,a2,a3,a4)))
 (.ret (.next ((i64.wrap (x87.1+1)),y114.2.1,y114.2.2))))
 (.ret (.out (x87.2.1,x87.2.2))))
 (0,false,default) [] fun y102=>
 .call (lzz a0 a1) [] fun y124=>
 .cut 0 (fun (y127:Ax)=>⟨[(0,.yld Y.l),(1,.ptr 1 0),(2,.ptr 2 0),(3,.ptr 3 0),(4,.ptr 4 0),(59,.pure (.bool y127.1))],[(0,.tok Y.τ (tokP y127.2.1 (az1 y127.2.2))),(1,.box [.pure (encL 6 az2 a0)]),(2,.box [.pure (encL 6 az2 a1)]),(3,.box [pz a2]),(4,.box [pz a3]),(5,.box [.pure (encL 3 az1 a4)])],[],6⟩)
 (.br y124.2
 (.call (Y.C y102.1 y102.2 y124.1) [(0,0)] fun y128=>
 .ret (.out ((!(!y128)),y128,y124.1)))
 (.ret (.out (false,y102.1,y102.2)))) fun y127=>
 .br y127.1
 (.ret (y127.2.1,y127.2.2,a0,a1,a2,a3,a4))
 (.call (rzf) [] fun y147=>
 .loop (fun (x153:(Int×Bool×Al))=>⟨[(0,.yld Y.l),(1,.ptr 1 0),(2,.ptr 2 0),(3,.ptr 3 0),(4,.ptr 4 0),(60,.pure (encL 3 az1 y147)),(61,pz (y147.length:Int)),(62,pz x153.1)],[(0,.tok Y.τ (tokP x153.2.1 (az1 x153.2.2))),(1,.box [.pure (encL 6 az2 a0)]),(2,.box [.pure (encL 6 az2 a1)]),(3,.box [pz a2]),(4,.box [pz a3]),(5,.box [.pure (encL 3 az1 a4)])],[],6⟩)
 (.exit 2) (fun (y158:(Bool×Al))=>⟨[(0,.yld Y.l),(1,.ptr 1 0),(2,.ptr 2 0),(3,.ptr 3 0),(4,.ptr 4 0)],[(0,.tok Y.τ (tokP y158.1 (az1 y158.2))),(1,.box [.pure (encL 6 az2 a0)]),(2,.box [.pure (encL 6 az2 a1)]),(3,.box [pz a2]),(4,.box [pz a3]),(5,.box [.pure (encL 3 az1 a4)])],[],6⟩)
 (fun x153=>.br (decide (x153.1<(y147.length:Int)))
 (.grd (0≤x153.1/\x153.1<(y147.length:Int))<|
 .call (Y.C x153.2.1 x153.2.2 (y147.getD ((x153.1).toNat) default)) [(0,0)] fun y162=>
 .br (!(!y162))
 (.ret (.fin (y162,(y147.getD ((x153.1).toNat) default),a0,a1,a2,a3,a4)))
 (.ret (.next ((i64.wrap (x153.1+1)),y162,(y147.getD ((x153.1).toNat) default)))))
 (.ret (.out (x153.2.1,x153.2.2))))
 (0,y127.2.1,y127.2.2) [] fun y158=>
 .call (czp a0) [] fun y166=>
 .call (czp a1) [] fun y167=>
 .call (ez4 y166 y167 (i64.wrap (a2+a3)) 64) [] fun y168=>
 .call (fz2 y168.Normal) [] fun y170=>
 .br y170
 (.call (Y.C y158.1 y158.2 y168.Normal) [(0,0)] fun y171=>
 .ret (y171,y168.Normal,a0,a1,a2,a3,a4))
 (.ret (y158.1,y158.2,a0,a1,a2,a3,a4))))
noncomputable def gzn {o:Al->Option Bool}(Y:YldS Tryz.prog az1 o)(a0:As)(a1:As)(a2:Int)(a3:Int)(a4:Am):CallS B3:=
 mkD Tryz.func186 (gzo Y a0 a1 a2 a3 a4) 6 [.yld Y.l,.ptr 1 0,.ptr 2 0,.ptr 3 0,.ptr 4 0,.ptr 5 0] [(0,.tok Y.τ (tokP false (az1 default))),(1,.box [.pure (encL 6 az2 a0)]),(2,.box [.pure (encL 6 az2 a1)]),(3,.box [pz a2]),(4,.box [pz a3]),(5,.box [.pure (encL 3 az1 a4)])] (fun _=>.tup []) (fun r=>[(0,.tok Y.τ (tokP r.1 (az1 r.2.1))),(1,.box [.pure (encL 6 az2 r.2.2.1)]),(2,.box [.pure (encL 6 az2 r.2.2.2.1)]),(3,.box [pz r.2.2.2.2.1]),(4,.box [pz r.2.2.2.2.2.1]),(5,.box [.pure (encL 3 az1 r.2.2.2.2.2.2)])])
noncomputable def lzy (c:As)(d:Int)(e:As)(f:Int)(_a4:Am)(x:Al):T Bool:=
 .cc (lz8 x c d e f) fun g=>
 .br g
 (.ret true)
 (.ret false)
noncomputable def rzg (a0:As)(a1:Int)(a2:As)(a3:Int)(a4:Am):CallS Aq:=
 mkR (encX:=az1) [⟨148,Zzy⟩] hd Tryz.func117 (by kernel_rfl) (.call (hzy a0 a1 a2 a3 a4) [] fun y1=>
 .ret y1)
 (lzy a0 a1 a2 a3 a4) [(0,.box [.pure (encL 6 az2 a0)]),(64,.box [pz a1]),(128,.box [.pure (encL 6 az2 a2)]),(192,.box [pz a3]),(256,.box [pz 0,pz 0,pz 0]),(320,.box [.ff])]
 (fun p=>[(0,.box [.pure (encL 6 az2 a0)]),(64,.box [pz a1]),(128,.box [.pure (encL 6 az2 a2)]),(192,.box [pz a3]),(256,.box (p.cells.map .pure)),(320,.box [.tt])]) [(0,960),(1,832),(2,833),(3,834),(4,835),(5,836)] (fun r=>r.1) (fun r=>r.2.1)
 (fun y1 Y=>gzn Y y1.1 y1.2.1 y1.2.2.1 y1.2.2.2.1 y1.2.2.2.2)
 (.ret ((0,0,0),false)) (fun x=>(x,true)) (fun _ _=>rfl) 0 [.pure (encL 6 az2 a0),pz a1,.pure (encL 6 az2 a2),pz a3,.pure (encL 3 az1 a4)] [] (fun r=>.tup [.pure (az1 r.1),.pure (.bool r.2)]) (fun _=>[]) (by kernel_rfl)
set_option maxHeartbeats 8000000 in
set_option maxRecDepth 20000 in
noncomputable def pzc (c:As)(d:A0):T (Ar×Int×Bool):=let e:=encL 6 az2 c;let f:=encL 1 az3 d;let g:=(d.length:Int);.cut 2 (fun (h:Bool)=>⟨[(0,.pure e),(1,.pure f),(4,.ptr 0 0),(22,.pure (.bool h))],[(0,.box [pz 0,pz 0,pz 0,pz 0,pz 0,pz 0])],[],1⟩)
 (.cc (dz5 c) fun h=>
 .br (!h)
 (.oo true)
 (.oo (g !=(c.length:Int)))) fun h=>
 .br h
 (.ret (((⟨0,0⟩:az0),(⟨0,0⟩:az0),(⟨0,0⟩:az0)),0,false))
 (.loop (fun (i:(Int×Int×Int×Int×Int×Int×Int×Int))=>⟨[(0,.pure e),(4,.ptr 0 0),(7,.ptr 1 0),(8,pz i.2.2.2.2.2.2.1),(24,.pure f),(25,pz g),(26,pz i.2.2.2.2.2.2.2)],[(0,.box [pz 0,pz 0,pz 0,pz 0,pz 0,pz 0]),(1,.box [pz i.1,pz i.2.1,pz i.2.2.1,pz i.2.2.2.1,pz i.2.2.2.2.1,pz i.2.2.2.2.2.1])],[],2⟩)
 (.exit 0) (fun (i:B4)=>⟨[(4,.ptr 0 0),(7,.ptr 1 0),(8,pz i.2.2.2.2.2.2)],[(0,.box [pz 0,pz 0,pz 0,pz 0,pz 0,pz 0]),(1,.box [pz i.1,pz i.2.1,pz i.2.2.1,pz i.2.2.2.1,pz i.2.2.2.2.1,pz i.2.2.2.2.2.1])],[],2⟩)
 (fun i=>let j:=(i.2.2.2.2.2.2.2).toNat;let k:=d.getD j default;let m:=c.getD j default;.br (decide (i.2.2.2.2.2.2.2<g))
 (.gh i.2.2.2.2.2.2.2 d.length<|
 .cut 1 (fun (n:Bool)=>⟨[(0,.pure e),(4,.ptr 0 0),(7,.ptr 1 0),(8,pz i.2.2.2.2.2.2.1),(9,pz i.2.2.2.2.2.2.2),(10,pz k),(24,.pure f),(25,pz g),(26,pz i.2.2.2.2.2.2.2),(36,.pure (.bool n))],[(0,.box [pz 0,pz 0,pz 0,pz 0,pz 0,pz 0]),(1,.box [pz i.1,pz i.2.1,pz i.2.2.1,pz i.2.2.2.1,pz i.2.2.2.2.1,pz i.2.2.2.2.2.1])],[],2⟩)
 (.br (decide (k<0))
 (.oo true)
 (.oo (decide (k>65536)))) fun n=>
 .br n
 (.ff (((⟨0,0⟩:az0),(⟨0,0⟩:az0),(⟨0,0⟩:az0)),0,false))
 (.gh i.2.2.2.2.2.2.2 c.length<|
 .unroll 4<|
 .known true<|
 .ix 0 3 rfl<|
 .ix 0 3 rfl<|
 .name 14007 ((i64.wrap (k * (m.1.Lo)))) fun s=>
 .name 14008 ((i64.wrap (i.1+s))) fun t=>
 .ix 0 3 rfl<|
 .ix 0 3 rfl<|
 .name 15007 ((i64.wrap (k * (m.1.Hi)))) fun w=>
 .name 15008 ((i64.wrap (i.2.1+w))) fun y=>
 .ix 0 3 rfl<|
 .lit 16000 (1)<|
 .known true<|
 .ix 1 3 rfl<|
 .ix 1 3 rfl<|
 .name 14007 ((i64.wrap (k * (m.2.1.Lo)))) fun z=>
 .name 14008 ((i64.wrap (i.2.2.1+z))) fun aa=>
 .ix 1 3 rfl<|
 .ix 1 3 rfl<|
 .name 15007 ((i64.wrap (k * (m.2.1.Hi)))) fun ab=>
 .name 15008 ((i64.wrap (i.2.2.2.1+ab))) fun ac=>
 .ix 1 3 rfl<|
 .lit 16000 (2)<|
 .known true<|
 .ix 2 3 rfl<|
 .ix 2 3 rfl<|
 .name 14007 ((i64.wrap (k * (m.2.2.Lo)))) fun ad=>
 .name 14008 ((i64.wrap (i.2.2.2.2.1+ad))) fun ae=>
 .ix 2 3 rfl<|
 .ix 2 3 rfl<|
 .name 15007 ((i64.wrap (k * (m.2.2.Hi)))) fun af=>
 .name 15008 ((i64.wrap (i.2.2.2.2.2.1+af))) fun ag=>
 .ix 2 3 rfl<|
 .lit 16000 (3)<|
 .known false<|
 .nn (t,y,aa,ac,ae,ag,(i64.wrap (i.2.2.2.2.2.2.1+k)),(i64.wrap (i.2.2.2.2.2.2.2+1)))))
 (.oo (i.1,i.2.1,i.2.2.1,i.2.2.2.1,i.2.2.2.2.1,i.2.2.2.2.2.1,i.2.2.2.2.2.2.1)))
 (0,0,0,0,0,0,0,0) [] fun i=>
 .cut 1 (fun (j:Bool)=>⟨[(4,.ptr 0 0),(7,.ptr 1 0),(8,pz i.2.2.2.2.2.2),(78,.pure (.bool j))],[(0,.box [pz 0,pz 0,pz 0,pz 0,pz 0,pz 0]),(1,.box [pz i.1,pz i.2.1,pz i.2.2.1,pz i.2.2.2.1,pz i.2.2.2.2.1,pz i.2.2.2.2.2.1])],[],2⟩)
 (.br (decide (i.2.2.2.2.2.2<1))
 (.oo true)
 (.oo (decide (i.2.2.2.2.2.2>65536)))) fun j=>
 .br j
 (.ret (((⟨0,0⟩:az0),(⟨0,0⟩:az0),(⟨0,0⟩:az0)),0,false))
 (.ret (((⟨i.1,i.2.1⟩:az0),(⟨i.2.2.1,i.2.2.2.1⟩:az0),(⟨i.2.2.2.2.1,i.2.2.2.2.2.1⟩:az0)),i.2.2.2.2.2.2,true)))
noncomputable def pzb (c)(d):=
 mkD Tryz.func204 (pzc c d) 0 [.pure (encL 6 az2 c),.pure (encL 1 az3 d)] [] (fun r=>.tup [.pure (az2 r.1),pz r.2.1,.pure (.bool r.2.2)]) (fun _=>[])
noncomputable def jzz (c:Int):T Bool:=
 .br (decide (c≥0))
 (.ret (decide (c≤1048576)))
 (.ret false)
noncomputable def jzy (c):=
 mkD Tryz.func205 (jzz c) 0 [pz c] [] (fun r=>.pure (.bool r)) (fun _=>[])
noncomputable def jzx (c:A0):T Int:=let d:=(c.length:Nat);.loop (fun (e:Ah)=>⟨[(3,pz e.1),(6,.pure (encL 1 az3 c)),(7,pz (d:Int)),(8,pz e.2)],[],[],0⟩)
 (.exit 0) (fun (e:Int)=>⟨[(3,pz e)],[],[],0⟩)
 (fun e=>let f:=c.getD ((e.2).toNat) default;.br (decide (e.2<(d:Int)))
 (.gh e.2 c.length<|
 .nn ((max (max e.1 f) (i64.wrap (0-f))),(i64.wrap (e.2+1))))
 (.oo e.1))
 (0,0) [] fun e=>
 .ret e
noncomputable def gzs (c):=
 mkD Tryz.func206 (jzx c) 0 [.pure (encL 1 az3 c)] [] (fun r=>pz r) (fun _=>[])
noncomputable def nz2 (c:A0)(d:A0)(e:As)(f:Int)(g:As)(h:Int):T Ai:=let i:=i64.wrap (f+h);.cc (pzb e c) fun j=>
 .cc (pzb g d) fun k=>let m:=([(i64.wrap (j.1.1.Lo-k.1.1.Hi)),(i64.wrap (j.1.1.Hi-k.1.1.Lo))]:A0);let n:=([(i64.wrap (j.1.2.1.Lo-k.1.2.1.Hi)),(i64.wrap (j.1.2.1.Hi-k.1.2.1.Lo))]:A0);let s:=([(i64.wrap (j.1.2.2.Lo-k.1.2.2.Hi)),(i64.wrap (j.1.2.2.Hi-k.1.2.2.Lo))]:A0);
 .cut 1 (fun (t:Bool)=>⟨[(3,pz f),(5,pz h),(12,.ptr 0 0),(13,.ptr 1 0),(14,.ptr 2 0),(15,pz j.2.1),(17,.ptr 3 0),(59,.pure (.bool t))],[(0,.box [pz 0]),(1,.box [.ff]),(2,.box [pz j.1.1.Lo,pz j.1.1.Hi,pz j.1.2.1.Lo,pz j.1.2.1.Hi,pz j.1.2.2.Lo,pz j.1.2.2.Hi]),(3,.box [pz k.1.1.Lo,pz k.1.1.Hi,pz k.1.2.1.Lo,pz k.1.2.1.Hi,pz k.1.2.2.Lo,pz k.1.2.2.Hi])],[.func 203 [] [.ptr 0 0,.ptr 1 0]],4⟩)
 (.br (!j.2.2)
 (.oo true)
 (.br (!k.2.2)
 (.oo true)
 (.br (j.2.1 !=k.2.1)
 (.oo true)
 (.cc (jzy f) fun t=>
 .br (!t)
 (.oo true)
 (.cc (jzy h) fun w=>
 .oo (!w)))))) fun t=>
 .br t
 (.ret (0,false))
 (.unroll 4<|
 .known true<|
 .ix 0 3 rfl<|
 .ix 0 3 rfl<|
 .ix 0 3 rfl<|
 .ix 0 3 rfl<|
 .conv 11018 (cz5 1 az3 m 2)<|
 .cc (gzs m) fun w=>let y:=i64.wrap ((i64.wrap ((i64.wrap (w+j.2.1))-1)).tdiv j.2.1);
 .grd (j.2.1≠0)<|
 .br (decide (y>i))
 (.ret ((-1),true))
 (.name 15003 ((i64.wrap (y * y))) fun z=>
 .name 15004 ((i64.wrap ((i64.wrap (i * i))-z))) fun aa=>
 .lit 16000 (1)<|
 .known true<|
 .ix 1 3 rfl<|
 .ix 1 3 rfl<|
 .ix 1 3 rfl<|
 .ix 1 3 rfl<|
 .conv 11018 (cz5 1 az3 n 2)<|
 .cc (gzs n) fun ab=>let ac:=i64.wrap ((i64.wrap ((i64.wrap (ab+j.2.1))-1)).tdiv j.2.1);
 .grd (j.2.1≠0)<|
 .br (decide (ac>i))
 (.ret ((-1),true))
 (.name 15003 ((i64.wrap (ac * ac))) fun ad=>
 .name 15004 ((i64.wrap (aa-ad))) fun ae=>
 .lit 16000 (2)<|
 .known true<|
 .ix 2 3 rfl<|
 .ix 2 3 rfl<|
 .ix 2 3 rfl<|
 .ix 2 3 rfl<|
 .conv 11018 (cz5 1 az3 s 2)<|
 .cc (gzs s) fun af=>let ag:=i64.wrap ((i64.wrap ((i64.wrap (af+j.2.1))-1)).tdiv j.2.1);
 .grd (j.2.1≠0)<|
 .br (decide (ag>i))
 (.ret ((-1),true))
 (.name 15003 ((i64.wrap (ag * ag))) fun ah=>
 .name 15004 ((i64.wrap (ae-ah))) fun ai=>
 .lit 16000 (3)<|
 .known false<|
 .ret (ai,true)))))
noncomputable def wz0 (c)(d)(e)(f)(g)(h):=
 mkC [⟨203,az00⟩] hd Tryz.func157 (by kernel_rfl) (nz2 c d e f g h) 0 [.pure (encL 1 az3 c),.pure (encL 1 az3 d),.pure (encL 6 az2 e),pz f,.pure (encL 6 az2 g),pz h] [] (fun r=>.tup [pz r.1,.pure (.bool r.2)]) (fun _=>[]) (by kernel_rfl)
noncomputable def jzw (c:A0)(d:A0)(e:As)(f:Int)(g:As)(h:Int):T Bool:=
 .cc (wz0 c d e f g h) fun i=>
 .br i.2
 (.ret (decide (i.1≥0)))
 (.ret false)
noncomputable def jzv (c)(d)(e)(f)(g)(h):=
 mkC [⟨156,Zzz⟩] hd Tryz.func120 (by kernel_rfl) (jzw c d e f g h) 0 [.pure (encL 1 az3 c),.pure (encL 1 az3 d),.pure (encL 6 az2 e),pz f,.pure (encL 6 az2 g),pz h] [] (fun r=>.pure (.bool r)) (fun _=>[]) (by kernel_rfl)
noncomputable def Bzm (c:ez8):T czv:=
 .ret (⟨2,nl,c.witness⟩:czv)
noncomputable def Bzl (c):=
 mkD Tryz.func121 (Bzm c) 0 [.iface 189 (.pure (wz9 c))] [] (fun r=>.pure (tzr r)) (fun _=>[])
noncomputable def zzb (c:bzh):T czv:=
 .ret (⟨1,c.normals,(⟨0,nl,nl⟩:czk)⟩:czv)
noncomputable def zza (c):=
 mkD Tryz.func121 (zzb c) 0 [.iface 191 (.pure (gz4 c))] [] (fun r=>.pure (tzr r)) (fun _=>[])
noncomputable def qzu (c:azb)(d:A7)(e:Am):T czv:=let f:=encL 3 az1 e;let g:=(e.length:Int);.cc (mzn (⟨c.Robot,c.Shapes,c.Skips⟩:azb) d) fun h=>let i:=(h.1.pairs.length:Int);let j:Nat×Res:=(4,.box [.pure (encL 3 azh h.1.shapes),.pure (encL 2 dza h.1.pairs),.pure (encL 1 (encL 6 az2) h.1.points)]);
 .br (!h.2)
 (.ret (⟨0,nl,(⟨0,nl,nl⟩:czk)⟩:czv))
 (.conv 5003 (Lzt 3 az1 78 i.toNat (0,0,0))<|
 .grd (0≤i/\i≤i/\i≤9223372036854775807/\i * 24≤140737488355328)<|
 .loop (fun (k:(Am×Bool×Int))=>⟨[(2,.pure f),(6,.ptr 0 0),(7,.ptr 4 0),(9,.vec 5),(10,.pure (.bool k.2.1)),(33,pz i),(34,pz k.2.2)],[(0,.box [pz 0,.vec 1,pz 0,.vec 2,.vec 3]),(1,.nilv),(2,.nilv),(3,.nilv),j,(5,vecO 3 az1 k.1 78)],[.func 114 [] [.ptr 0 0]],6⟩)
 (.exit 0) (fun (k:(Am×Bool))=>⟨[(6,.ptr 0 0),(9,.vec 4),(10,.pure (.bool k.2))],[(0,.box [pz 0,.vec 1,pz 0,.vec 2,.vec 3]),(1,.nilv),(2,.nilv),(3,.nilv),(4,vecO 3 az1 k.1 78)],[.func 114 [] [.ptr 0 0]],5⟩)
 (fun k=>let m:=k.2.2;let n:=min k.2.2 g;let s:=i64.wrap (k.2.2+1);let t:=min s g;.br (decide (k.2.2<i))
 (.cut 0 (fun (w:(Am×Bool))=>⟨[(2,.pure f),(6,.ptr 0 0),(7,.ptr 4 0),(9,.vec 5),(10,.pure (.bool w.2)),(33,pz i),(34,pz k.2.2)],[(0,.box [pz 0,.vec 1,pz 0,.vec 2,.vec 3]),(1,.nilv),(2,.nilv),(3,.nilv),j,(5,vecO 3 az1 w.1 78)],[.func 114 [] [.ptr 0 0]],6⟩)
 (.cc (nzk (⟨h.1.shapes,h.1.pairs,h.1.points⟩:bzx) k.2.2) fun w=>
 .conv 11010 (Dzt 3 az1 e n t)<|
 .grd (0≤n/\n≤t/\t≤g)<|
 .call (rzg w.a w.ra w.b w.rb ((e.drop (n.toNat)).take (t.toNat-n.toNat))) [] fun y=>
 .br y.2
 (.gh k.2.2 k.1.length<|
 .conv 14004 (hz1 3 az1 k.1 78 (m.toNat) y.1)<|
 .gi m k.1.length<|
 .oo ((k.1.set (m.toNat) y.1),k.2.1))
 (.cc (czp w.a) fun z=>
 .cc (czp w.b) fun aa=>
 .cc (ez4 z aa (i64.wrap (w.ra+w.rb)) 64) fun ab=>
 .cc (jzv ab.Left ab.Right w.a w.ra w.b w.rb) fun ac=>
 .br ac
 (.cc (Bzl (⟨(⟨k.2.2,ab.Left,ab.Right⟩:czk)⟩:ez8)) fun ad=>
 .ff (.fin ad))
 (.oo (k.1,false)))) fun w=>
 .nn (w.1,w.2,s))
 (.oo (k.1,k.2.1)))
 ((List.replicate i.toNat ((0,0,0):Al)),true,0) [] fun k=>
 .br (!k.2)
 (.ret (⟨0,k.1,(⟨0,nl,nl⟩:czk)⟩:czv))
 (.cc (zza (⟨k.1⟩:bzh)) fun m=>
 .ret m))
noncomputable def lzr (c)(d)(e):=
 mkC [⟨114,Zzw⟩] hd Tryz.func84 (by kernel_rfl) (qzu c d e) 0 [.pure (bzd c),.pure (encL 2 az7 d),.pure (encL 3 az1 e)] [] (fun r=>.pure (tzr r)) (fun _=>[]) (by kernel_rfl)
abbrev rz1:=RecS Tryz.prog 82 8 (Int×Int×Am×Ab×Int×Ab×Int×Int×Am×Int×A0×A0×A0×A0×A3×A4×A5×A6×Int) B6 (fun a=>[pz a.1,pz a.2.1,.pure (encL 3 az1 a.2.2.1),.ptr 0 0,.ptr 2 0,.ptr 3 0,.ptr 4 0,.ptr 5 0,.ptr 6 0,.ptr 7 0]) (fun a=>[(0,.box [.vec 1]),(1,vecO 3 azf a.2.2.2.1 106),(2,.box [pz a.2.2.2.2.1,.pure (encL 3 azf a.2.2.2.2.2.1),pz a.2.2.2.2.2.2.1,pz a.2.2.2.2.2.2.2.1,.pure (encL 3 az1 a.2.2.2.2.2.2.2.2.1),pz a.2.2.2.2.2.2.2.2.2.1,.pure (encL 1 az3 a.2.2.2.2.2.2.2.2.2.2.1),.pure (encL 1 az3 a.2.2.2.2.2.2.2.2.2.2.2.1)]),(3,.box [.pure (encL 1 az3 a.2.2.2.2.2.2.2.2.2.2.2.2.1)]),(4,.box [.pure (encL 1 az3 a.2.2.2.2.2.2.2.2.2.2.2.2.2.1)]),(5,.box [.pure (encL 12 azd a.2.2.2.2.2.2.2.2.2.2.2.2.2.2.1),.pure (encL 5 azg a.2.2.2.2.2.2.2.2.2.2.2.2.2.2.2.1),.pure (encL 3 azh a.2.2.2.2.2.2.2.2.2.2.2.2.2.2.2.2.1),.pure (encL 2 azo a.2.2.2.2.2.2.2.2.2.2.2.2.2.2.2.2.2.1)]),(6,.box [pz a.2.2.2.2.2.2.2.2.2.2.2.2.2.2.2.2.2.2]),(7,.box [.func 82 [] [.ptr 0 0,.ptr 2 0,.ptr 3 0,.ptr 4 0,.ptr 5 0,.ptr 6 0,.ptr 7 0]])]) (fun _ r=>.pure (.bool r.1)) (fun _ r=>[(0,.box [.vec 8]),(1,.gone),(2,.box [pz r.2.2.1,.pure (encL 3 azf r.2.2.2.1),pz r.2.2.2.2.1,pz r.2.2.2.2.2.1,.pure (encL 3 az1 r.2.2.2.2.2.2.1),pz r.2.2.2.2.2.2.2.1,.pure (encL 1 az3 r.2.2.2.2.2.2.2.2.1),.pure (encL 1 az3 r.2.2.2.2.2.2.2.2.2.1)]),(3,.box [.pure (encL 1 az3 r.2.2.2.2.2.2.2.2.2.2.1)]),(4,.box [.pure (encL 1 az3 r.2.2.2.2.2.2.2.2.2.2.2.1)]),(5,.box [.pure (encL 12 azd r.2.2.2.2.2.2.2.2.2.2.2.2.1),.pure (encL 5 azg r.2.2.2.2.2.2.2.2.2.2.2.2.2.1),.pure (encL 3 azh r.2.2.2.2.2.2.2.2.2.2.2.2.2.2.1),.pure (encL 2 azo r.2.2.2.2.2.2.2.2.2.2.2.2.2.2.2.1)]),(6,.box [pz r.2.2.2.2.2.2.2.2.2.2.2.2.2.2.2.2]),(7,.box [.func 82 [] [.ptr 0 0,.ptr 2 0,.ptr 3 0,.ptr 4 0,.ptr 5 0,.ptr 6 0,.ptr 7 0]]),(8,vecO 3 azf r.2.1 106)])
noncomputable def rz2 (rec:rz1)(c:Int)(d:Int)(e:Am)(f:Ab)(g:Int)(h:Ab)(i:Int)(j:Int)(k:Am)(m:Int)(n:A0)(s:A0)(t:A0)(w:A0)(y:A3)(z:A4)(aa:A5)(ab:A6)(ac:Int):T B6:=let ad:=i64.wrap (c+1);let ae:=i64.wrap (2 * d);.br (decide ((f.length:Int)≥4096))
 (.ret (false,f,0,nl,c,d,nl,0,nl,nl,t,w,y,z,aa,ab,ac))
 (.cc (lzs t w c d) fun af=>
 .cc (lzr (⟨(⟨y,z⟩:azm),aa,ab⟩:azb) af.1 e) fun ag=>let ah:=([(⟨c,d,ag.Normals⟩:az4)]:Ab);let ai:=f.length+ah.length;
 .br (ag.Kind==1)
 (.conv 8006 (cz5 3 azf ah 106)<|
 .conv 8007 (dzi 3 azf f ah 106)<|
 .grd (ai * 40≤140737488355328/\ai≤maxLen)<|
 .ret (true,(f++ah),g,h,i,j,k,m,n,s,t,w,y,z,aa,ab,ac))
 (.br (ag.Kind==2)
 (.ret (false,f,2,nl,c,d,nl,ag.Witness.Pair,ag.Witness.Left,ag.Witness.Right,t,w,y,z,aa,ab,ac))
 (.br (decide (c<ac))
 (.call (rec.C (ad,ae,ag.Normals,f,g,h,i,j,k,m,n,s,t,w,y,z,aa,ab,ac)) [(0,0),(1,1),(2,2),(3,3),(4,4),(5,5),(6,6),(7,7)] fun aj=>
 .br aj.1
 (.call (rec.C (ad,(i64.wrap (ae+1)),ag.Normals,aj.2.1,aj.2.2.1,aj.2.2.2.1,aj.2.2.2.2.1,aj.2.2.2.2.2.1,aj.2.2.2.2.2.2.1,aj.2.2.2.2.2.2.2.1,aj.2.2.2.2.2.2.2.2.1,aj.2.2.2.2.2.2.2.2.2.1,aj.2.2.2.2.2.2.2.2.2.2.1,aj.2.2.2.2.2.2.2.2.2.2.2.1,aj.2.2.2.2.2.2.2.2.2.2.2.2.1,aj.2.2.2.2.2.2.2.2.2.2.2.2.2.1,aj.2.2.2.2.2.2.2.2.2.2.2.2.2.2.1,aj.2.2.2.2.2.2.2.2.2.2.2.2.2.2.2.1,aj.2.2.2.2.2.2.2.2.2.2.2.2.2.2.2.2)) [(0,0),(1,2824),(2,2),(3,3),(4,4),(5,5),(6,6),(7,7)] fun ak=>
 .ret (ak.1,ak.2.1,ak.2.2.1,ak.2.2.2.1,ak.2.2.2.2.1,ak.2.2.2.2.2.1,ak.2.2.2.2.2.2.1,ak.2.2.2.2.2.2.2.1,ak.2.2.2.2.2.2.2.2.1,ak.2.2.2.2.2.2.2.2.2.1,ak.2.2.2.2.2.2.2.2.2.2.1,ak.2.2.2.2.2.2.2.2.2.2.2.1,ak.2.2.2.2.2.2.2.2.2.2.2.2.1,ak.2.2.2.2.2.2.2.2.2.2.2.2.2.1,ak.2.2.2.2.2.2.2.2.2.2.2.2.2.2.1,ak.2.2.2.2.2.2.2.2.2.2.2.2.2.2.2.1,ak.2.2.2.2.2.2.2.2.2.2.2.2.2.2.2.2))
 (.ret (false,aj.2.1,aj.2.2.1,aj.2.2.2.1,aj.2.2.2.2.1,aj.2.2.2.2.2.1,aj.2.2.2.2.2.2.1,aj.2.2.2.2.2.2.2.1,aj.2.2.2.2.2.2.2.2.1,aj.2.2.2.2.2.2.2.2.2.1,aj.2.2.2.2.2.2.2.2.2.2.1,aj.2.2.2.2.2.2.2.2.2.2.2.1,aj.2.2.2.2.2.2.2.2.2.2.2.2.1,aj.2.2.2.2.2.2.2.2.2.2.2.2.2.1,aj.2.2.2.2.2.2.2.2.2.2.2.2.2.2.1,aj.2.2.2.2.2.2.2.2.2.2.2.2.2.2.2.1,aj.2.2.2.2.2.2.2.2.2.2.2.2.2.2.2.2)))
 (.ret (false,f,0,nl,c,d,nl,0,nl,nl,t,w,y,z,aa,ab,ac)))))
noncomputable def gzi:rz1->rz1:=RecS.next [] hd Tryz.func82 (by kernel_rfl) (fun rec a=>rz2 rec a.1 a.2.1 a.2.2.1 a.2.2.2.1 a.2.2.2.2.1 a.2.2.2.2.2.1 a.2.2.2.2.2.2.1 a.2.2.2.2.2.2.2.1 a.2.2.2.2.2.2.2.2.1 a.2.2.2.2.2.2.2.2.2.1 a.2.2.2.2.2.2.2.2.2.2.1 a.2.2.2.2.2.2.2.2.2.2.2.1 a.2.2.2.2.2.2.2.2.2.2.2.2.1 a.2.2.2.2.2.2.2.2.2.2.2.2.2.1 a.2.2.2.2.2.2.2.2.2.2.2.2.2.2.1 a.2.2.2.2.2.2.2.2.2.2.2.2.2.2.2.1 a.2.2.2.2.2.2.2.2.2.2.2.2.2.2.2.2.1 a.2.2.2.2.2.2.2.2.2.2.2.2.2.2.2.2.2.1 a.2.2.2.2.2.2.2.2.2.2.2.2.2.2.2.2.2.2) (fun rec a=>by kernel_rfl)
noncomputable def zzi (a0:Int)(a1:Int)(a2:Am)(a3:Ab)(a4:Int)(a5:Ab)(a6:Int)(a7:Int)(a8:Am)(a9:Int)(a10:A0)(a11:A0)(a12:A0)(a13:A0)(a14:A3)(a15:A4)(a16:A5)(a17:A6)(a18:Int):CallS B6:=(RecS.fix gzi NN).C (a0,a1,a2,a3,a4,a5,a6,a7,a8,a9,a10,a11,a12,a13,a14,a15,a16,a17,a18)
noncomputable def mz7 (c:azb)(d:A0)(e:A0)(f:Int):T bza:=let g:=encL 1 az3 d;let h:=encL 1 az3 e;let i:Nat×Res:=(0,.box [.pure (encL 12 azd c.Robot.Joints),.pure (encL 5 azg c.Robot.Masses),.pure (encL 3 azh c.Shapes),.pure (encL 2 azo c.Skips)]);.unroll 1000<|
 .cut 2 (fun (j:Bool)=>⟨[(4,.ptr 0 0),(5,.ptr 1 0),(6,.ptr 2 0),(7,.ptr 3 0),(8,.ptr 4 0),(28,.pure (.bool j))],[i,(1,.box [.pure g]),(2,.box [.pure h]),(3,.box [pz f]),(4,.box [pz 0,.pure (.lst 0 0 fun _=>.unk),pz 0,pz 0,.pure (.lst 0 0 fun _=>.unk),pz 0,.pure (.lst 0 0 fun _=>.unk),.pure (.lst 0 0 fun _=>.unk)])],[.func 81 [] [.ptr 4 0]],5⟩)
 (.cc (ezb c) fun j=>
 .br (j !=0)
 (.oo true)
 (.cc (fzm c.Robot d) fun k=>
 .br (!k)
 (.oo true)
 (.cc (fzm c.Robot e) fun m=>
 .oo (!m)))) fun j=>
 .br j
 (.ret (⟨0,nl,(⟨0,0,nl⟩:az4),(⟨0,nl,nl⟩:czk)⟩:bza))
 (.cut 1 (fun (k:Bool)=>⟨[(4,.ptr 0 0),(5,.ptr 1 0),(6,.ptr 2 0),(7,.ptr 3 0),(8,.ptr 4 0),(35,.pure (.bool k))],[i,(1,.box [.pure g]),(2,.box [.pure h]),(3,.box [pz f]),(4,.box [pz 0,.pure (.lst 0 0 fun _=>.unk),pz 0,pz 0,.pure (.lst 0 0 fun _=>.unk),pz 0,.pure (.lst 0 0 fun _=>.unk),.pure (.lst 0 0 fun _=>.unk)])],[.func 81 [] [.ptr 4 0]],5⟩)
 (.br (decide (f<0))
 (.oo true)
 (.oo (decide (f>20)))) fun k=>
 .br k
 (.ret (⟨0,nl,(⟨0,0,nl⟩:az4),(⟨0,nl,nl⟩:czk)⟩:bza))
 (.cut 3 (fun (m:(Int×Ab×Int×Int×Am×Int×A0×A0))=>⟨[(8,.ptr 0 0)],[(0,.box [pz m.1,.pure (encL 3 azf m.2.1),pz m.2.2.1,pz m.2.2.2.1,.pure (encL 3 az1 m.2.2.2.2.1),pz m.2.2.2.2.2.1,.pure (encL 1 az3 m.2.2.2.2.2.2.1),.pure (encL 1 az3 m.2.2.2.2.2.2.2)])],[.func 81 [] [.ptr 0 0]],1⟩)
 (.call (zzi 0 0 nl nl 0 nl 0 0 nl 0 nl nl d e c.Robot.Joints c.Robot.Masses c.Shapes c.Skips f) [(0,5),(1,6),(2,4),(3,1),(4,2),(5,0),(6,3),(7,69)] fun m=>
 .br m.1
 (.oo (1,m.2.1,0,0,nl,0,nl,nl))
 (.oo (m.2.2.1,m.2.2.2.1,m.2.2.2.2.1,m.2.2.2.2.2.1,m.2.2.2.2.2.2.1,m.2.2.2.2.2.2.2.1,m.2.2.2.2.2.2.2.2.1,m.2.2.2.2.2.2.2.2.2.1))) fun m=>
 .ret (⟨m.1,m.2.1,(⟨m.2.2.1,m.2.2.2.1,m.2.2.2.2.1⟩:az4),(⟨m.2.2.2.2.2.1,m.2.2.2.2.2.2.1,m.2.2.2.2.2.2.2⟩:czk)⟩:bza)))
noncomputable def pzp (c)(d)(e)(f):=
 mkC [⟨81,az3c⟩] hd Tryz.func52 (by kernel_rfl) (mz7 c d e f) 0 [.pure (bzd c),.pure (encL 1 az3 d),.pure (encL 1 az3 e),pz f] [] (fun r=>.pure (zzj r)) (fun _=>[]) (by kernel_rfl)
noncomputable def sza (c:bz4):T Ah:=
 .cc (ezb c.scene) fun d=>
 .br (d !=0)
 (.ret (0,904))
 (.ret (0,0))
noncomputable def Azc (c):=
 mkD Tryz.func59 (sza c) 0 [.pure (fzg c)] [] (fun r=>.tup [pz r.1,pz r.2]) (fun _=>[])
noncomputable def pz4 (c:bz4):T Ah:=
 .cut 2 (fun (d:Bool)=>⟨[(19,.pure (.bool d))],[],[],0⟩)
 (.cc (fzm c.scene.Robot c.p) fun d=>
 .br (!d)
 (.oo true)
 (.cc (fzm c.scene.Robot c.q) fun e=>
 .oo (!e))) fun d=>
 .br d
 (.ret (0,1201))
 (.ret (0,0))
noncomputable def yze (c):=
 mkD Tryz.func60 (pz4 c) 0 [.pure (fzg c)] [] (fun r=>.tup [pz r.1,pz r.2]) (fun _=>[])
noncomputable def pz5 (c:bz4):T Ah:=let d:=encL 3 azf c.pieces;let e:=(c.pieces.length:Int);let f:Nat×Res:=(0,.box [.pure (encL 12 azd c.scene.Robot.Joints),.pure (encL 5 azg c.scene.Robot.Masses),.pure (encL 3 azh c.scene.Shapes),.pure (encL 2 azo c.scene.Skips),.pure (encL 1 az3 c.p),.pure (encL 1 az3 c.q),.pure d]);.loop (fun (g:Ah)=>⟨[(1,.ptr 0 0),(4,pz g.1),(9,.pure d),(10,pz e),(11,pz g.2)],[f],[],1⟩)
 (.exit 0) (fun (g:Int)=>⟨[(1,.ptr 0 0),(4,pz g)],[f],[],1⟩)
 (fun g=>let h:=c.pieces.getD ((g.2).toNat) default;let i:=h.Depth;let j:=h.Index;let k:=min i.toNat 64;let m:=(1048576:Int).fdiv (2 ^ k);let n:Nat×Res:=(1,.box [pz i,pz j,.pure (encL 3 az1 (h.Normals))]);.br (decide (g.2<e))
 (.gh g.2 c.pieces.length<|
 .cut 1 (fun (s:Bool)=>⟨[(1,.ptr 0 0),(4,pz g.1),(5,pz g.2),(6,.ptr 1 0),(9,.pure d),(10,pz e),(11,pz g.2),(27,.pure (.bool s))],[f,n],[],2⟩)
 (.br (g.2==4096)
 (.oo true)
 (.br (decide (i<0))
 (.oo true)
 (.oo (decide (i>20))))) fun s=>
 .br s
 (.ff (g.2,2001))
 (.cut 1 (fun (t:Bool)=>⟨[(1,.ptr 0 0),(4,pz g.1),(5,pz g.2),(6,.ptr 1 0),(9,.pure d),(10,pz e),(11,pz g.2),(39,.pure (.bool t))],[f,n],[],2⟩)
 (.br (decide (j<0))
 (.oo true)
 (.grd (0≤i)<|
 .oo (decide (j≥(i64.wrap (1 * 2 ^ k)))))) fun t=>
 .br t
 (.ff (g.2,2001))
 (.grd (0≤i)<|
 .name 10003 ((i64.wrap (j * m))) fun w=>
 .br (w !=g.1)
 (.ff (g.2,2001))
 (.name 12002 ((i64.wrap (g.1+m))) fun y=>
 .nn (y,(i64.wrap (g.2+1)))))))
 (.oo g.1))
 (0,0) [] fun g=>
 .br (g !=1048576)
 (.ret (e,2001))
 (.ret (0,0))
noncomputable def yzf (c):=
 mkD Tryz.func61 (pz5 c) 0 [.pure (fzg c)] [] (fun r=>.tup [pz r.1,pz r.2]) (fun _=>[])
noncomputable def kzi (c:bzh)(d:bzx):T Bool:=let e:=(c.normals.length:Int);.br (e !=(d.pairs.length:Int))
 (.ret false)
 (.loop (fun (f:Int)=>⟨[(3,.ptr 0 0),(16,.pure (encL 3 az1 c.normals)),(17,pz e),(18,pz f)],[(0,.box [.pure (encL 3 azh d.shapes),.pure (encL 2 dza d.pairs),.pure (encL 1 (encL 6 az2) d.points)])],[],1⟩)
 (.exit 0) (fun (_:U0)=>⟨[],[],[],0⟩)
 (fun f=>.br (decide (f<e))
 (.gh f c.normals.length<|
 .cc (nzk d f) fun g=>
 .cc (lz8 (c.normals.getD (f.toNat) default) g.a g.ra g.b g.rb) fun h=>
 .br (!h)
 (.ff false)
 (.nn (i64.wrap (f+1))))
 (.oo .u))
 0 [] fun _=>
 .ret true)
noncomputable def qzj (c)(d):=
 mkD Tryz.func345 (kzi c d) 0 [.pure (gz4 c),.pure (kzy d)] [] (fun r=>.pure (.bool r)) (fun _=>[])
noncomputable def mzm (c:azb)(d:A7)(e:bzh):T Bool:=
 .cc (mzn c d) fun f=>
 .br f.2
 (.cc (qzj e f.1) fun g=>
 .ret g)
 (.ret false)
noncomputable def vzo (c)(d)(e):=
 mkD Tryz.func124 (mzm c d e) 0 [.pure (bzd c),.pure (encL 2 az7 d),.iface 191 (.pure (gz4 e))] [] (fun r=>.pure (.bool r)) (fun _=>[])
noncomputable def hzu (c:azb)(d:A7)(e:Am):T Bool:=
 .cc (vzo (⟨c.Robot,c.Shapes,c.Skips⟩:azb) d (⟨e⟩:bzh)) fun f=>
 .ret f
noncomputable def hzt (c)(d)(e):=
 mkC [⟨123,Zzx⟩] hd Tryz.func89 (by kernel_rfl) (hzu c d e) 0 [.pure (bzd c),.pure (encL 2 az7 d),.pure (encL 3 az1 e)] [] (fun r=>.pure (.bool r)) (fun _=>[]) (by kernel_rfl)
noncomputable def kzf (c:bz4):T Ah:=let d:=encL 3 azf c.pieces;let e:=(c.pieces.length:Int);let f:Nat×Res:=(0,.box [.pure (encL 12 azd c.scene.Robot.Joints),.pure (encL 5 azg c.scene.Robot.Masses),.pure (encL 3 azh c.scene.Shapes),.pure (encL 2 azo c.scene.Skips),.pure (encL 1 az3 c.p),.pure (encL 1 az3 c.q),.pure d]);.loop (fun (g:Int)=>⟨[(1,.ptr 0 0),(9,.pure d),(10,pz e),(11,pz g)],[f],[],1⟩)
 (.exit 0) (fun (_:U0)=>⟨[],[],[],0⟩)
 (fun g=>let h:=c.pieces.getD (g.toNat) default;.br (decide (g<e))
 (.gh g c.pieces.length<|
 .cc (lzs c.p c.q (h.Depth) (h.Index)) fun i=>
 .cut 0 (fun (j:Bool)=>⟨[(1,.ptr 0 0),(4,pz g),(9,.pure d),(10,pz e),(11,pz g),(38,.pure (.bool j))],[f],[],1⟩)
 (.br (!i.2)
 (.oo true)
 (.cc (hzt c.scene i.1 (h.Normals)) fun j=>
 .oo (!j))) fun j=>
 .br j
 (.ff (g,2002))
 (.nn (i64.wrap (g+1))))
 (.oo .u))
 0 [] fun _=>
 .ret (0,0)
noncomputable def qzf (c):=
 mkD Tryz.func62 (kzf c) 0 [.pure (fzg c)] [] (fun r=>.tup [pz r.1,pz r.2]) (fun _=>[])
noncomputable def kzx (c:azb)(d:A0)(e:A0)(f:Ab):T Ah:=let g:=(⟨(⟨c.Robot,c.Shapes,c.Skips⟩:azb),d,e,f⟩:bz4);.unroll 5<|
 .known true<|
 .gh (0:Int) 4<|
 .cc (Azc g) fun h=>
 .br (h.2 !=0)
 (.ret (h.1,h.2))
 (.lit 9000 (1)<|
 .known true<|
 .gh (1:Int) 4<|
 .cc (yze g) fun i=>
 .br (i.2 !=0)
 (.ret (i.1,i.2))
 (.lit 9000 (2)<|
 .known true<|
 .gh (2:Int) 4<|
 .cc (yzf g) fun j=>
 .br (j.2 !=0)
 (.ret (j.1,j.2))
 (.lit 9000 (3)<|
 .known true<|
 .gh (3:Int) 4<|
 .cc (qzf g) fun k=>
 .br (k.2 !=0)
 (.ret (k.1,k.2))
 (.lit 9000 (4)<|
 .known false<|
 .ret (0,0)))))
noncomputable def kzw (c)(d)(e)(f):=
 mkC [⟨58,az3b⟩] hd Tryz.func30 (by kernel_rfl) (kzx c d e f) 0 [.pure (bzd c),.pure (encL 1 az3 d),.pure (encL 1 az3 e),.pure (encL 3 azf f)] [] (fun r=>.tup [pz r.1,pz r.2]) (fun _=>[]) (by kernel_rfl)
noncomputable def dz0 (a0:Ab):T Ab:=
 (match a0 with
  |[]=>.unroll 1<|
  .grd (a0.length=0)<|
  .both
   (.ret nl)
   (.conv 3000 (cz5 3 azf ([]:Ab) 106)<|
   .conv 3002 (dzi 3 azf ([]:Ab) a0 106)<|
   .grd ((([]:Ab).length+a0.length) * 40≤140737488355328/\(([]:Ab).length+a0.length)≤maxLen)<|
   .ret (([]:Ab)++a0))
  |_::_=>.grd (0<a0.length)<|
  .conv 3000 (cz5 3 azf ([]:Ab) 106)<|
  .conv 3002 (dzi 3 azf ([]:Ab) a0 106)<|
  .grd ((([]:Ab).length+a0.length) * 40≤140737488355328/\(([]:Ab).length+a0.length)≤maxLen)<|
  .ret (([]:Ab)++a0))
noncomputable def ezz (a0:Ab):CallS Ab:=
 mkH [] hd Tryz.func122 (by kernel_rfl) (dz0 a0) 0 [.pure (encL 3 azf a0)] [] (fun _=>.vec 0) (fun r=>[(0,vecO 3 azf r 106)]) (by cases a0<;>exact Ob.of_side (by kernel_rfl))
noncomputable def dzx (a0:Am):T Am:=
 (match a0 with
  |[]=>.unroll 1<|
  .grd (a0.length=0)<|
  .both
   (.ret nl)
   (.conv 3000 (cz5 3 az1 ([]:Am) 78)<|
   .conv 3002 (dzi 3 az1 ([]:Am) a0 78)<|
   .grd ((([]:Am).length+a0.length) * 24≤140737488355328/\(([]:Am).length+a0.length)≤maxLen)<|
   .ret (([]:Am)++a0))
  |_::_=>.grd (0<a0.length)<|
  .conv 3000 (cz5 3 az1 ([]:Am) 78)<|
  .conv 3002 (dzi 3 az1 ([]:Am) a0 78)<|
  .grd ((([]:Am).length+a0.length) * 24≤140737488355328/\(([]:Am).length+a0.length)≤maxLen)<|
  .ret (([]:Am)++a0))
noncomputable def dzw (a0:Am):CallS Am:=
 mkH [] hd Tryz.func95 (by kernel_rfl) (dzx a0) 0 [.pure (encL 3 az1 a0)] [] (fun r=>.pure (encL 3 az1 r)) (fun _=>[]) (by cases a0<;>exact Ob.of_side (by kernel_rfl))
noncomputable def oz9 (c:Ab):T Ab:=
 .cc (ezz c) fun d=>let e:=(d.length:Nat);
 .loop (fun (f:Ac)=>⟨[(0,.vec 0),(7,pz (e:Int)),(8,pz f.2)],[(0,vecO 3 azf f.1 106)],[],1⟩)
 (.exit 0) (fun (f:Ab)=>⟨[(0,.vec 0)],[(0,vecO 3 azf f 106)],[],1⟩)
 (fun f=>let g:=(f.2).toNat;let h:=f.1.getD g default;.br (decide (f.2<(e:Int)))
 (.gg f.2 f.1.length<|
 .cc (dzw (h.Normals)) fun i=>let j:=(⟨h.Depth,h.Index,i⟩:az4);
 .gh f.2 f.1.length<|
 .conv 5010 (hz1 3 azf f.1 106 g j)<|
 .gi (f.2) f.1.length<|
 .nn ((f.1.set g j),(i64.wrap (f.2+1))))
 (.oo f.1))
 (d,0) [] fun f=>
 .ret f
noncomputable def jza (c):=
 mkD Tryz.func87 (oz9 c) 0 [.pure (encL 3 azf c)] [] (fun r=>.pure (encL 3 azf r)) (fun _=>[])
noncomputable def qzx (c:azb)(d:A0)(e:A0)(f:az4)(g:az4):T (az4×Bool):=let h:=i64.wrap (f.Depth-1);let i:=i64.wrap (f.Index.tdiv 2);let j:=([f,g]:Ab);let k:=(j.length:Nat);let m:Nat×Res:=(0,.box [.pure (encL 12 azd c.Robot.Joints),.pure (encL 5 azg c.Robot.Masses),.pure (encL 3 azh c.Shapes),.pure (encL 2 azo c.Skips)]);.cut 2 (fun (n:Bool)=>⟨[(1,.pure (encL 1 az3 d)),(2,.pure (encL 1 az3 e)),(5,.ptr 0 0),(8,.ptr 1 0),(9,.ptr 2 0),(10,.ptr 3 0),(40,.pure (.bool n))],[m,(1,.box [pz f.Depth,pz f.Index,.pure (encL 3 az1 f.Normals)]),(2,.box [pz g.Depth,pz g.Index,.pure (encL 3 az1 g.Normals)]),(3,.box [pz 0,pz 0,.vec 4]),(4,.nilv)],[],5⟩)
 (.br (f.Depth !=g.Depth)
 (.oo true)
 (.br (decide (f.Depth≤0))
 (.oo true)
 (.ok ((2:Int)≠0) (by decide)<|
 .br ((f.Index.tmod 2) !=0)
 (.oo true)
 (.oo (g.Index !=(i64.wrap (f.Index+1))))))) fun n=>
 .br n
 (.ret ((⟨0,0,nl⟩:az4),false))
 (.ok ((2:Int)≠0) (by decide)<|
 .cc (lzs d e h i) fun s=>
 .br (!s.2)
 (.ret ((⟨0,0,nl⟩:az4),false))
 (.conv 7002 (cz5 3 azf j 106)<|
 .loop (fun (t:Int)=>⟨[(5,.ptr 0 0),(10,.ptr 1 0),(12,.ptr 3 0),(13,.pure (encL 2 az7 s.1)),(64,.vec 5),(65,pz (k:Int)),(66,pz t)],[m,(1,.box [pz 0,pz 0,.vec 2]),(2,.nilv),(3,.box [pz h,pz i,.vec 4]),(4,.nilv),(5,vecO 3 azf j 106)],[],6⟩)
 (.exit 0) (fun (_:U0)=>⟨[(10,.ptr 0 0)],[(0,.box [pz 0,pz 0,.vec 1]),(1,.nilv)],[],2⟩)
 (fun t=>let w:=j.getD (t.toNat) default;.br (decide (t<(k:Int)))
 (.gg t (j.length)<|
 .cc (hzt c s.1 (w.Normals)) fun y=>
 .br y
 (.ff ((⟨h,i,w.Normals⟩:az4),true))
 (.nn (i64.wrap (t+1))))
 (.oo .u))
 0 [] fun _=>
 .ret ((⟨0,0,nl⟩:az4),false)))
noncomputable def qzw (c)(d)(e)(f)(g):=
 mkD Tryz.func88 (qzx c d e f g) 0 [.pure (bzd c),.pure (encL 1 az3 d),.pure (encL 1 az3 e),.pure (azf f),.pure (azf g)] [] (fun r=>.tup [.pure (azf r.1),.pure (.bool r.2)]) (fun _=>[])
noncomputable def oz8 (c:azb)(d:A0)(e:A0)(f:Ab):T Ab:=let g:=encL 1 az3 d;let h:=encL 1 az3 e;let i:=encL 3 azf f;let j:=(f.length:Int);let k:Nat×Res:=(0,.box [.pure (encL 12 azd c.Robot.Joints),.pure (encL 5 azg c.Robot.Masses),.pure (encL 3 azh c.Shapes),.pure (encL 2 azo c.Skips)]);.cc (kzw (⟨c.Robot,c.Shapes,c.Skips⟩:azb) d e f) fun m=>
 .br (m.2 !=0)
 (.cc (jza f) fun n=>
 .ret n)
 (.loop (fun (n:Ac)=>⟨[(1,.pure g),(2,.pure h),(4,.ptr 0 0),(8,.ptr 1 0),(29,.pure i),(30,pz j),(31,pz n.2)],[k,(1,.box [.vec 2]),(2,vecO 3 azf n.1 106)],[.func 86 [] [.ptr 1 0]],3⟩)
 (.exit 0) (fun (n:Ab)=>⟨[(8,.ptr 0 0)],[(0,.box [.vec 1]),(1,vecO 3 azf n 106)],[.func 86 [] [.ptr 0 0]],2⟩)
 (fun n=>let s:=f.getD ((n.2).toNat) default;.br (decide (n.2<j))
 (.gh n.2 f.length<|
 .loop (fun (t:Az)=>⟨[(1,.pure g),(2,.pure h),(4,.ptr 0 0),(8,.ptr 1 0),(12,.ptr 3 0),(29,.pure i),(30,pz j),(31,pz n.2)],[k,(1,.box [.vec 2]),(2,vecO 3 azf t.1 106),(3,.box [pz t.2.1,pz t.2.2.1,.pure (encL 3 az1 t.2.2.2)])],[.func 86 [] [.ptr 1 0]],4⟩)
 (.exit 2) (fun (t:Az)=>⟨[(1,.pure g),(2,.pure h),(4,.ptr 0 0),(8,.ptr 1 0),(12,.ptr 3 0),(29,.pure i),(30,pz j),(31,pz n.2)],[k,(1,.box [.vec 2]),(2,vecO 3 azf t.1 106),(3,.box [pz t.2.1,pz t.2.2.1,.pure (encL 3 az1 t.2.2.2)])],[.func 86 [] [.ptr 1 0]],4⟩)
 (fun t=>let w:=(t.1.length:Int);let y:=i64.wrap (w-1);.br (decide (w>0))
 (.gg y t.1.length<|
 .call (qzw c d e (t.1.getD (y.toNat) default) (⟨t.2.1,t.2.2.1,t.2.2.2⟩:az4)) [] fun z=>
 .br (!z.2)
 (.oo (t.1,t.2.1,t.2.2.1,t.2.2.2))
 (.conv 12002 (Wz7 3 azf t.1 106 y)<|
 .grd (0≤y/\y≤w/\0≤y.toNat)<|
 .nn ((t.1.take (y.toNat)),z.1.Depth,z.1.Index,z.1.Normals)))
 (.oo (t.1,t.2.1,t.2.2.1,t.2.2.2)))
 (n.1,s.Depth,s.Index,s.Normals) [] fun t=>let w:=([(⟨t.2.1,t.2.2.1,t.2.2.2⟩:az4)]:Ab);let y:=t.1.length+w.length;
 .conv 13002 (cz5 3 azf w 106)<|
 .conv 13003 (dzi 3 azf t.1 w 106)<|
 .grd (y * 40≤140737488355328/\y≤maxLen)<|
 .nn ((t.1++w),(i64.wrap (n.2+1))))
 (.oo n.1))
 (nl,0) [] fun n=>
 .cc (jza n) fun s=>
 .ret s)
noncomputable def wzj (c)(d)(e)(f):=
 mkC [⟨86,az3e⟩] hd Tryz.func54 (by kernel_rfl) (oz8 c d e f) 0 [.pure (bzd c),.pure (encL 1 az3 d),.pure (encL 1 az3 e),.pure (encL 3 azf f)] [] (fun r=>.pure (encL 3 azf r)) (fun _=>[]) (by kernel_rfl)
set_option maxHeartbeats 8000000 in
set_option maxRecDepth 20000 in
noncomputable def iz4 (c:Ab):T aze:=let d:=encL 3 azf c;let e:=(c.length:Int);.loop (fun (f:(Am×Ad×Ap×Int))=>⟨[(2,.ptr 0 0),(3,.map 3),(13,.pure d),(14,pz e),(15,pz f.2.2.2)],[(0,.box [.vec 1,.vec 2]),(1,vecO 3 az1 f.1 78),(2,vecO 3 azy f.2.1 81),(3,Cz4 [.int .i64 0,.int .i64 0,.int .i64 0] azn f.2.2.1)],[.func 85 [] [.ptr 0 0]],4⟩)
 (.exit 0) (fun (f:(Am×Ad))=>⟨[(2,.ptr 0 0)],[(0,.box [.vec 1,.vec 2]),(1,vecO 3 az1 f.1 78),(2,vecO 3 azy f.2 81)],[.func 85 [] [.ptr 0 0]],3⟩)
 (fun f=>let g:=c.getD ((f.2.2.2).toNat) default;let h:=encL 3 az1 (g.Normals);let i:=(g.Normals.length:Int);let j:Nat×Res:=(4,.box [pz (g.Depth),pz (g.Index),.vec 5]);.br (decide (f.2.2.2<e))
 (.gh f.2.2.2 c.length<|
 .loop (fun (k:(Am×Ap×A0×Int))=>⟨[(2,.ptr 0 0),(3,.map 3),(6,.ptr 4 0),(13,.pure d),(14,pz e),(15,pz f.2.2.2),(25,.pure h),(26,pz i),(27,pz k.2.2.2)],[(0,.box [.vec 1,.vec 2]),(1,vecO 3 az1 k.1 78),(2,vecO 3 azy f.2.1 81),(3,Cz4 [.int .i64 0,.int .i64 0,.int .i64 0] azn k.2.1),j,(5,vecO 1 az3 k.2.2.1 3)],[.func 85 [] [.ptr 0 0]],6⟩)
 (.exit 2) (fun (k:(Am×Ap×A0))=>⟨[(2,.ptr 0 0),(3,.map 3),(6,.ptr 4 0),(13,.pure d),(14,pz e),(15,pz f.2.2.2)],[(0,.box [.vec 1,.vec 2]),(1,vecO 3 az1 k.1 78),(2,vecO 3 azy f.2.1 81),(3,Cz4 [.int .i64 0,.int .i64 0,.int .i64 0] azn k.2.1),j,(5,vecO 1 az3 k.2.2 3)],[.func 85 [] [.ptr 0 0]],6⟩)
 (fun k=>let m:=(k.1.length:Int);let n:=(g.Normals).getD ((k.2.2.2).toNat) default;let s:=mdom azn k.2.1 (azn n);let t:=mget azn k.2.1 (azn n);let w:=([n]:Am);let y:=k.1.length+w.length;.br (decide (k.2.2.2<i))
 (.gh k.2.2.2 (g.Normals.length)<|
 .ok (s=false->PVal.int .i64 t=.int .i64 0) az62<|
 .name 10004 (t) fun z=>
 .cut 0 (fun (aa:(Am×Ap×Int))=>⟨[(2,.ptr 0 0),(3,.map 3),(6,.ptr 4 0),(9,pz aa.2.2),(13,.pure d),(14,pz e),(15,pz f.2.2.2),(25,.pure h),(26,pz i),(27,pz k.2.2.2)],[(0,.box [.vec 1,.vec 2]),(1,vecO 3 az1 aa.1 78),(2,vecO 3 azy f.2.1 81),(3,Cz4 [.int .i64 0,.int .i64 0,.int .i64 0] azn aa.2.1),j,(5,vecO 1 az3 k.2.2.1 3)],[.func 85 [] [.ptr 0 0]],6⟩)
 (.br (!s)
 (.conv 13003 (az6y [.int .i64 0,.int .i64 0,.int .i64 0] azn k.2.1 n m)<|
 .conv 14003 (cz5 3 az1 w 78)<|
 .conv 14004 (dzi 3 az1 k.1 w 78)<|
 .grd (y * 24≤140737488355328/\y≤maxLen)<|
 .oo ((k.1++w),((n,m)::k.2.1),m))
 (.oo (k.1,k.2.1,z))) fun aa=>let ab:=([aa.2.2]:A0);let ac:=k.2.2.1.length+ab.length;
 .conv 15003 (cz5 1 az3 ab 3)<|
 .conv 15004 (dzi 1 az3 k.2.2.1 ab 3)<|
 .grd (ac * 8≤140737488355328/\ac≤maxLen)<|
 .nn (aa.1,aa.2.1,(k.2.2.1++ab),(i64.wrap (k.2.2.2+1))))
 (.oo (k.1,k.2.1,k.2.2.1)))
 (f.1,f.2.2.1,nl,0) [] fun k=>let m:=([(⟨g.Depth,g.Index,k.2.2⟩:bzv)]:Ad);let n:=f.2.1.length+m.length;
 .conv 17003 (cz5 3 azy m 81)<|
 .conv 17004 (dzi 3 azy f.2.1 m 81)<|
 .grd (n * 40≤140737488355328/\n≤maxLen)<|
 .nn (k.1,(f.2.1++m),k.2.1,(i64.wrap (f.2.2.2+1))))
 (.oo (f.1,f.2.1)))
 (nl,nl,(nl:List (Al×Int)),0) [] fun f=>
 .ret (⟨f.1,f.2⟩:aze)
noncomputable def iz3 (c):=
 mkC [⟨85,az3d⟩] hd Tryz.func53 (by kernel_rfl) (iz4 c) 0 [.pure (encL 3 azf c)] [] (fun r=>.pure (azk r)) (fun _=>[]) (by kernel_rfl)
noncomputable def rzk (c:ez9)(d:A0)(e:A0):T (aze×Bool):=
 .cc (pzp c.scene d e c.depth) fun f=>
 .br (f.Kind !=1)
 (.ret ((⟨nl,nl⟩:aze),false))
 (.cc (wzj c.scene d e f.Pieces) fun g=>
 .cc (iz3 g) fun h=>
 .ret (h,true))
noncomputable def izd (c)(d)(e):=
 mkD Tryz.func26 (rzk c d e) 0 [.pure (ozb c),.pure (encL 1 az3 d),.pure (encL 1 az3 e)] [] (fun r=>.tup [.pure (azk r.1),.pure (.bool r.2)]) (fun _=>[])
noncomputable def rzi (c:A1)(d:ez9):T (Ae×Int×Int):=let e:=(c.length:Int);let f:=(c.drop ((1:Int).toNat)).take (e.toNat- (1:Int).toNat);let g:=(f.length:Nat);let h:=(⟨d.scene,d.depth⟩:ez9);.conv 2001 (Dzt 1 (encL 1 az3) c (1:Int) e)<|
 .grd (0≤(1:Int)/\(1:Int)≤e/\e≤e)<|
 .loop (fun (i:(Ae×Int))=>⟨[(0,.pure (encL 1 (encL 1 az3) c)),(1,.func 26 [.pure (ozb h)] []),(7,.vec 0),(13,.pure (encL 1 (encL 1 az3) f)),(14,pz (g:Int)),(15,pz i.2)],[(0,vecO 2 azk i.1 71)],[],1⟩)
 (.exit 0) (fun (i:Ae)=>⟨[(7,.vec 0)],[(0,vecO 2 azk i 71)],[],1⟩)
 (fun i=>let j:=(i.2).toNat;.br (decide (i.2<(g:Int)))
 (.gh i.2 (f.length)<|
 .gh i.2 c.length<|
 .call (izd h (c.getD j default) (f.getD j default)) [] fun k=>let m:=([k.1]:Ae);let n:=i.1.length+m.length;
 .br (!k.2)
 (.ff (nl,i.2,2204))
 (.conv 8002 (cz5 2 azk m 71)<|
 .conv 8003 (dzi 2 azk i.1 m 71)<|
 .grd (n * 48≤140737488355328/\n≤maxLen)<|
 .nn ((i.1++m),(i64.wrap (i.2+1)))))
 (.oo i.1))
 (nl,0) [] fun i=>
 .ret (i,0,0)
noncomputable def zzy (c)(d):=
 mkD Tryz.func25 (rzi c d) 0 [.pure (encL 1 (encL 1 az3) c),.func 26 [.pure (ozb d)] []] [] (fun r=>.tup [.pure (encL 2 azk r.1),pz r.2.1,pz r.2.2]) (fun _=>[])
noncomputable def fz0 (a0:A1):T A1:=
 (match a0 with
  |[]=>.unroll 1<|
  .grd (a0.length=0)<|
  .both
   (.ret nl)
   (.conv 3000 (cz5 1 (encL 1 az3) ([]:A1) 53)<|
   .conv 3002 (dzi 1 (encL 1 az3) ([]:A1) a0 53)<|
   .grd ((([]:A1).length+a0.length) * 24≤140737488355328/\(([]:A1).length+a0.length)≤maxLen)<|
   .ret (([]:A1)++a0))
  |_::_=>.grd (0<a0.length)<|
  .conv 3000 (cz5 1 (encL 1 az3) ([]:A1) 53)<|
  .conv 3002 (dzi 1 (encL 1 az3) ([]:A1) a0 53)<|
  .grd ((([]:A1).length+a0.length) * 24≤140737488355328/\(([]:A1).length+a0.length)≤maxLen)<|
  .ret (([]:A1)++a0))
noncomputable def hzq (a0:A1):CallS A1:=
 mkH [] hd Tryz.func55 (by kernel_rfl) (fz0 a0) 0 [.pure (encL 1 (encL 1 az3) a0)] [] (fun _=>.vec 0) (fun r=>[(0,vecO 1 (encL 1 az3) r 53)]) (by cases a0<;>exact Ob.of_side (by kernel_rfl))
noncomputable def ezc (a0:A0):T A0:=
 (match a0 with
  |[]=>.unroll 1<|
  .grd (a0.length=0)<|
  .both
   (.ret nl)
   (.conv 3000 (cz5 1 az3 ([]:A0) 2)<|
   .conv 3002 (dzi 1 az3 ([]:A0) a0 2)<|
   .grd ((([]:A0).length+a0.length) * 8≤140737488355328/\(([]:A0).length+a0.length)≤maxLen)<|
   .ret (([]:A0)++a0))
  |_::_=>.grd (0<a0.length)<|
  .conv 3000 (cz5 1 az3 ([]:A0) 2)<|
  .conv 3002 (dzi 1 az3 ([]:A0) a0 2)<|
  .grd ((([]:A0).length+a0.length) * 8≤140737488355328/\(([]:A0).length+a0.length)≤maxLen)<|
  .ret (([]:A0)++a0))
noncomputable def gzu (a0:A0):CallS A0:=
 mkH [] hd Tryz.func56 (by kernel_rfl) (ezc a0) 0 [.pure (encL 1 az3 a0)] [] (fun r=>.pure (encL 1 az3 r)) (fun _=>[]) (by cases a0<;>exact Ob.of_side (by kernel_rfl))
noncomputable def fz5 (c:A1):T A1:=
 .cc (hzq c) fun d=>let e:=(d.length:Nat);
 .loop (fun (f:(A1×Int))=>⟨[(0,.vec 0),(7,.vec 0),(8,pz (e:Int)),(9,pz f.2)],[(0,vecO 1 (encL 1 az3) f.1 53)],[],1⟩)
 (.exit 0) (fun (f:A1)=>⟨[(0,.vec 0)],[(0,vecO 1 (encL 1 az3) f 53)],[],1⟩)
 (fun f=>let g:=(f.2).toNat;.br (decide (f.2<(e:Int)))
 (.gg f.2 f.1.length<|
 .cc (gzu (f.1.getD g default)) fun h=>
 .gh f.2 f.1.length<|
 .conv 5005 (hz1 1 (encL 1 az3) f.1 53 g h)<|
 .gi (f.2) f.1.length<|
 .nn ((f.1.set g h),(i64.wrap (f.2+1))))
 (.oo f.1))
 (d,0) [] fun f=>
 .ret f
noncomputable def gzt (c):=
 mkD Tryz.func27 (fz5 c) 0 [.pure (encL 1 (encL 1 az3) c)] [] (fun _=>.vec 0) (fun r=>[(0,vecO 1 (encL 1 az3) r 53)])
noncomputable def xzf (c:azb)(d:A1)(e:Int):T (azv×Int×Int):=let f:=(⟨c.Robot,c.Shapes,c.Skips⟩:azb);.cc (kz0 f d) fun g=>
 .br (g.2 !=0)
 (.ret ((⟨nl,nl⟩:azv),g.1,g.2))
 (.cc (zzy d (⟨f,e⟩:ez9)) fun h=>
 .br (h.2.2 !=0)
 (.ret ((⟨nl,nl⟩:azv),h.2.1,h.2.2))
 (.cc (gzt d) fun i=>
 .ret ((⟨i,h.1⟩:azv),0,0)))
noncomputable def xze (c)(d)(e):=
 mkC [⟨23,az36⟩] hd Tryz.func7 (by kernel_rfl) (xzf c d e) 0 [.pure (bzd c),.pure (encL 1 (encL 1 az3) d),pz e] [] (fun r=>.tup [.pure (jzd r.1),pz r.2.1,pz r.2.2]) (fun _=>[]) (by kernel_rfl)
noncomputable def Bzb (c:Al)(d:Int):T Bool:=let e:=i64.wrap (0-d);let f:Nat×Res:=(0,.box [pz c.1,pz c.2.1,pz c.2.2]);.unroll 4<|
 .known true<|
 .cut 1 (fun (g:Bool)=>⟨[(1,pz d),(2,.ptr 0 0),(5,pz 0),(22,.pure (.bool g))],[f],[],1⟩)
 (.ix 0 3 rfl<|
 .br (decide (c.1<e))
 (.oo true)
 (.ix 0 3 rfl<|
 .oo (decide (c.1>d)))) fun g=>
 .br g
 (.ret false)
 (.lit 3001 (1)<|
 .known true<|
 .cut 1 (fun (h:Bool)=>⟨[(1,pz d),(2,.ptr 0 0),(5,pz 1),(22,.pure (.bool h))],[f],[],1⟩)
 (.ix 1 3 rfl<|
 .br (decide (c.2.1<e))
 (.oo true)
 (.ix 1 3 rfl<|
 .oo (decide (c.2.1>d)))) fun h=>
 .br h
 (.ret false)
 (.lit 3001 (2)<|
 .known true<|
 .cut 1 (fun (i:Bool)=>⟨[(1,pz d),(2,.ptr 0 0),(5,pz 2),(22,.pure (.bool i))],[f],[],1⟩)
 (.ix 2 3 rfl<|
 .br (decide (c.2.2<e))
 (.oo true)
 (.ix 2 3 rfl<|
 .oo (decide (c.2.2>d)))) fun i=>
 .br i
 (.ret false)
 (.lit 3001 (3)<|
 .known false<|
 .ret true)))
noncomputable def fzb (c)(d):=
 mkD Tryz.func92 (Bzb c d) 0 [.pure (az1 c),pz d] [] (fun r=>.pure (.bool r)) (fun _=>[])
noncomputable def rzp (c:Al):T Bool:=
 .br (!((c.1==0)&&((c.2.1==0)&&((c.2.2==0)&&true))))
 (.cc (fzb c 16384) fun d=>
 .ret d)
 (.ret false)
noncomputable def dz4 (c):=
 mkD Tryz.func64 (rzp c) 0 [.pure (az1 c)] [] (fun r=>.pure (.bool r)) (fun _=>[])
noncomputable def uz9 (c:Int)(d:Int)(e:Int):T Al:=
 .cc (bzi c 41) fun f=>
 .cc (bzi d 41) fun g=>
 .cc (bzi e 41) fun h=>
 .cut 0 (fun (i:Al)=>⟨[(6,.ptr 0 0),(7,.ptr 1 0)],[(0,.box [pz 0,pz 0,pz 0]),(1,.box [pz i.1,pz i.2.1,pz i.2.2])],[],2⟩)
 (.br ((i64.wrap (((BitVec.ofInt 64 c&&&BitVec.ofInt 64 8).toNat:Int)))==8)
 (.cc (bzi c 32769) fun i=>
 .cc (bzi d 32769) fun j=>
 .cc (bzi e 32769) fun k=>
 .oo ((i64.wrap (i-16384)),(i64.wrap (j-16384)),(i64.wrap (k-16384))))
 (.oo ((i64.wrap (f-20)),(i64.wrap (g-20)),(i64.wrap (h-20))))) fun i=>
 .cc (dz4 (i.1,i.2.1,i.2.2)) fun j=>
 .br (!j)
 (.ret (1,0,0))
 (.ret (i.1,i.2.1,i.2.2))
noncomputable def uz8 (c)(d)(e):=
 mkD Tryz.func33 (uz9 c d e) 0 [pz c,pz d,pz e] [] (fun r=>.pure (az1 r)) (fun _=>[])
set_option maxHeartbeats 8000000 in
set_option maxRecDepth 20000 in
noncomputable def ozl (c:azv)(d:Int)(e:Int)(f:Int):T azv:=let g:=(c.Edges.length:Nat);let h:=(c.Points.length:Int);let i:=i64.wrap (h-1);let j:=i.toNat;let k:=c.Points.getD j default;let m:=c.Points.set ((0:Int).toNat) k;let n:=c.Points.getD ((0:Int).toNat) default;.grd (c.Points.length * 24≤140737488355328/\c.Points.length≤maxLen)<|
 .grd (c.Edges.length * 48≤140737488355328/\c.Edges.length≤maxLen)<|
 .cut 1 (fun (s:Bool)=>⟨[(1,pz d),(2,pz e),(3,pz f),(8,.ptr 0 0),(9,.ptr 3 0),(31,.pure (.bool s))],[(0,.box [.vec 1,.vec 2]),(1,.nilv),(2,.nilv),(3,.box [.vec 4,.vec 5]),(4,vecO 1 (encL 1 az3) c.Points 53),(5,vecO 2 azk c.Edges 71)],[],6⟩)
 (.br ((g:Int)==0)
 (.oo true)
 (.oo (h==0))) fun s=>
 .br s
 (.ret (⟨c.Points,c.Edges⟩:azv))
 (.cc (bzi e (g:Int)) fun t=>let w:=t.toNat;let y:=c.Edges.getD w default;let z:=y.Uses;let aa:=y.Table;let ab:=y.Uses.length;let ac:=y.Table.length;let ad:=([y]:Ae);let ae:=(y.Uses.length:Nat);let af:=(y.Table.length:Int);let ag:=i64.wrap (af.tdiv 2);let ah:=c.Edges.length+ad.length;
 .gg t c.Edges.length<|
 .cut 0 (fun (ai:(A1×Ae×Am×Ad))=>⟨[(8,.ptr 0 0),(9,.ptr 3 0),(10,pz t),(11,.ptr 6 0)],[(0,.box [.vec 1,.vec 2]),(1,.nilv),(2,.nilv),(3,.box [.vec 4,.vec 5]),(4,vecO 1 (encL 1 az3) ai.1 53),(5,vecO 2 azk ai.2.1 71),(6,.box [.pure (encL 3 az1 ai.2.2.1),.pure (encL 3 azy ai.2.2.2)])],[],7⟩)
 (.cc (bzi d 7) fun ai=>
 .br (ai==0)
 (.cc (bzi e h) fun aj=>let ak:=aj.toNat;let al:=c.Points.getD ak default;let am:=al.length;
 .gg aj c.Points.length<|
 .grd (al.length * 8≤140737488355328/\al.length≤maxLen)<|
 .gg aj c.Points.length<|
 .gh aj c.Points.length<|
 .grd (aj.toNat=aj.toNat)<|
 .gg (0:Int) am<|
 .cc (bzi f 2001) fun an=>
 .name 11010 ((i64.wrap ((al.getD ((0:Int).toNat) default)+(i64.wrap (an-1000))))) fun ao=>let ap:=al.set ((0:Int).toNat) ao;
 .gh (0:Int) am<|
 .conv 11012 (hz1 1 az3 al 2 ((0:Int).toNat) ao)<|
 .gi (0:Int) am<|
 .clo 4 (hz1 1 (encL 1 az3) c.Points 53 ak ap)<|
 .oo ((c.Points.set ak ap),c.Edges,y.Table,y.Uses))
 (.br (ai==1)
 (.conv 13006 (Wz7 1 (encL 1 az3) c.Points 53 i)<|
 .grd (0≤i/\i≤h/\0≤i.toNat)<|
 .oo ((c.Points.take j),c.Edges,y.Table,y.Uses))
 (.br (ai==2)
 (.conv 15003 (cz5 2 azk ad 71)<|
 .conv 15004 (dzi 2 azk c.Edges ad 71)<|
 .grd (ah * 48≤140737488355328/\ah≤maxLen)<|
 .oo (c.Points,(c.Edges++ad),y.Table,y.Uses))
 (.br (ai==3)
 (.grd (y.Table.length * 24≤140737488355328/\y.Table.length≤maxLen)<|
 .unroll 998<|
 .br (decide (af>0))
 (.call (bzi f af) [] fun aj=>
 .cc (uz8 f d e) fun ak=>
 .gh aj ac<|
 .conv 20010 (hz1 3 az1 aa 78 (aj.toNat) ak)<|
 .gi (aj) ac<|
 .clo 710 .none<|
 .oo (c.Points,c.Edges,(aa.set (aj.toNat) ak),y.Uses))
 (.clo 710 .none<|
 .oo (c.Points,c.Edges,y.Table,y.Uses)))
 (.br (ai==4)
 (.ok ((2:Int)≠0) (by decide)<|
 .conv 22006 (Dzt 3 az1 aa (0:Int) ag)<|
 .grd (0≤(0:Int)/\(0:Int)≤ag/\ag≤af)<|
 .oo (c.Points,c.Edges,((aa.drop ((0:Int).toNat)).take (ag.toNat- (0:Int).toNat)),y.Uses))
 (.br (ai==5)
 (.grd (y.Uses.length * 40≤140737488355328/\y.Uses.length≤maxLen)<|
 .unroll 998<|
 .br (decide ((ae:Int)>0))
 (.call (bzi f (ae:Int)) [] fun aj=>let ak:=aj.toNat;let al:=z.getD ak default;let am:=(⟨al.Depth,(i64.wrap ((al.Index)+1)),al.Numbers⟩:bzv);
 .gg aj ab<|
 .gh aj ab<|
 .conv 27011 (hz1 3 azy z 81 ak am)<|
 .gi (aj) ab<|
 .clo 710 .none<|
 .oo (c.Points,c.Edges,y.Table,(z.set ak am)))
 (.clo 710 .none<|
 .oo (c.Points,c.Edges,y.Table,y.Uses)))
 (.gg i c.Points.length<|
 .gg (0:Int) c.Points.length<|
 .gh (0:Int) c.Points.length<|
 .conv 7021 (hz1 1 (encL 1 az3) c.Points 53 ((0:Int).toNat) k)<|
 .gi (0:Int) c.Points.length<|
 .gh i (m.length)<|
 .conv 7023 (hz1 1 (encL 1 az3) m 53 j n)<|
 .gi (i) (m.length)<|
 .oo ((m.set j n),c.Edges,y.Table,y.Uses)))))))) fun ai=>let aj:=(⟨ai.2.2.1,ai.2.2.2⟩:aze);
 .cut 0 (fun (ak:Ae)=>⟨[(8,.ptr 0 0),(9,.ptr 3 0)],[(0,.box [.vec 1,.vec 2]),(1,.nilv),(2,.nilv),(3,.box [.vec 4,.vec 5]),(4,vecO 1 (encL 1 az3) ai.1 53),(5,vecO 2 azk ak 71)],[],6⟩)
 (.br (decide ((ai.2.1.length:Int)>t))
 (.gh t ai.2.1.length<|
 .conv 29005 (hz1 2 azk ai.2.1 71 w aj)<|
 .gi (t) ai.2.1.length<|
 .oo (ai.2.1.set w aj))
 (.oo ai.2.1)) fun ak=>
 .ret (⟨ai.1,ak⟩:azv))
noncomputable def ozk (c)(d)(e)(f):=
 mkD Tryz.func11 (ozl c d e f) 0 [.pure (jzd c),pz d,pz e,pz f] [] (fun r=>.pure (jzd r)) (fun _=>[])
noncomputable def czq (a0:Ae):T Ae:=
 (match a0 with
  |[]=>.unroll 1<|
  .grd (a0.length=0)<|
  .both
   (.ret nl)
   (.conv 3000 (cz5 2 azk ([]:Ae) 71)<|
   .conv 3002 (dzi 2 azk ([]:Ae) a0 71)<|
   .grd ((([]:Ae).length+a0.length) * 48≤140737488355328/\(([]:Ae).length+a0.length)≤maxLen)<|
   .ret (([]:Ae)++a0))
  |_::_=>.grd (0<a0.length)<|
  .conv 3000 (cz5 2 azk ([]:Ae) 71)<|
  .conv 3002 (dzi 2 azk ([]:Ae) a0 71)<|
  .grd ((([]:Ae).length+a0.length) * 48≤140737488355328/\(([]:Ae).length+a0.length)≤maxLen)<|
  .ret (([]:Ae)++a0))
noncomputable def ezk (a0:Ae):CallS Ae:=
 mkH [] hd Tryz.func65 (by kernel_rfl) (czq a0) 0 [.pure (encL 2 azk a0)] [] (fun _=>.vec 0) (fun r=>[(0,vecO 2 azk r 71)]) (by cases a0<;>exact Ob.of_side (by kernel_rfl))
noncomputable def dzv (a0:Ad):T Ad:=
 (match a0 with
  |[]=>.unroll 1<|
  .grd (a0.length=0)<|
  .both
   (.ret nl)
   (.conv 3000 (cz5 3 azy ([]:Ad) 81)<|
   .conv 3002 (dzi 3 azy ([]:Ad) a0 81)<|
   .grd ((([]:Ad).length+a0.length) * 40≤140737488355328/\(([]:Ad).length+a0.length)≤maxLen)<|
   .ret (([]:Ad)++a0))
  |_::_=>.grd (0<a0.length)<|
  .conv 3000 (cz5 3 azy ([]:Ad) 81)<|
  .conv 3002 (dzi 3 azy ([]:Ad) a0 81)<|
  .grd ((([]:Ad).length+a0.length) * 40≤140737488355328/\(([]:Ad).length+a0.length)≤maxLen)<|
  .ret (([]:Ad)++a0))
noncomputable def gz0 (a0:Ad):CallS Ad:=
 mkH [] hd Tryz.func93 (by kernel_rfl) (dzv a0) 0 [.pure (encL 3 azy a0)] [] (fun _=>.vec 0) (fun r=>[(0,vecO 3 azy r 81)]) (by cases a0<;>exact Ob.of_side (by kernel_rfl))
noncomputable def gzp (a0:A0):T A0:=
 (match a0 with
  |[]=>.unroll 1<|
  .grd (a0.length=0)<|
  .both
   (.ret nl)
   (.conv 3000 (cz5 1 az3 ([]:A0) 3)<|
   .conv 3002 (dzi 1 az3 ([]:A0) a0 3)<|
   .grd ((([]:A0).length+a0.length) * 8≤140737488355328/\(([]:A0).length+a0.length)≤maxLen)<|
   .ret (([]:A0)++a0))
  |_::_=>.grd (0<a0.length)<|
  .conv 3000 (cz5 1 az3 ([]:A0) 3)<|
  .conv 3002 (dzi 1 az3 ([]:A0) a0 3)<|
  .grd ((([]:A0).length+a0.length) * 8≤140737488355328/\(([]:A0).length+a0.length)≤maxLen)<|
  .ret (([]:A0)++a0))
noncomputable def kzq (a0:A0):CallS A0:=
 mkH [] hd Tryz.func94 (by kernel_rfl) (gzp a0) 0 [.pure (encL 1 az3 a0)] [] (fun r=>.pure (encL 1 az3 r)) (fun _=>[]) (by cases a0<;>exact Ob.of_side (by kernel_rfl))
noncomputable def kz2 (c:aze):T (Am×Ad):=let d:Nat×Res:=(0,.box [.pure (encL 3 az1 c.Table),.pure (encL 3 azy c.Uses)]);.cc (gz0 c.Uses) fun e=>let f:=(e.length:Nat);
 .loop (fun (g:(Ad×Int))=>⟨[(1,.ptr 0 0),(2,.ptr 1 0),(3,.vec 4),(9,.vec 4),(10,pz (f:Int)),(11,pz g.2)],[d,(1,.box [.vec 2,.vec 3]),(2,.nilv),(3,.nilv),(4,vecO 3 azy g.1 81)],[],5⟩)
 (.exit 0) (fun (g:Ad)=>⟨[(1,.ptr 0 0),(2,.ptr 1 0),(3,.vec 4)],[d,(1,.box [.vec 2,.vec 3]),(2,.nilv),(3,.nilv),(4,vecO 3 azy g 81)],[],5⟩)
 (fun g=>let h:=(g.2).toNat;let i:=g.1.getD h default;.br (decide (g.2<(f:Int)))
 (.gg g.2 g.1.length<|
 .cc (kzq (i.Numbers)) fun j=>let k:=(⟨i.Depth,i.Index,j⟩:bzv);
 .gh g.2 g.1.length<|
 .conv 5007 (hz1 3 azy g.1 81 h k)<|
 .gi (g.2) g.1.length<|
 .nn ((g.1.set h k),(i64.wrap (g.2+1))))
 (.oo g.1))
 (e,0) [] fun g=>
 .cc (dzw c.Table) fun h=>
 .ret (h,g)
noncomputable def qz4 (c):=
 mkD Tryz.func66 (kz2 c) 0 [.pure (azk c)] [] (fun r=>.agg [.pure (encL 3 az1 r.1),.vec 0]) (fun r=>[(0,vecO 3 azy r.2 81)])
noncomputable def xzh (c:azv):T (A1×Ae):=let d:Nat×Res:=(0,.box [.pure (encL 1 (encL 1 az3) c.Points),.pure (encL 2 azk c.Edges)]);.cc (ezk c.Edges) fun e=>let f:=(e.length:Nat);
 .gst 3 256 (0) (az6z 2 azk e 71 1 3 81 rfl)<|
 .loop (fun (g:(Ae×Nat×Int))=>⟨[(1,.ptr 0 0),(2,.ptr 1 0),(3,.vec 4),(9,.vec 4),(10,pz (f:Int)),(11,pz g.2.2)],[d,(1,.box [.vec 2,.vec 3]),(2,.nilv),(3,.nilv),(4,Qzo 2 azk g.1 g.2.1 71 1 3 81 [])],[],5⟩)
 (.exit 0) (fun (g:Ae)=>⟨[(1,.ptr 0 0),(2,.ptr 1 0),(3,.vec 4)],[d,(1,.box [.vec 2,.vec 3]),(2,.nilv),(3,.nilv),(4,Jzb 2 azk g 71 1 3 81)],[],5⟩)
 (fun g=>let h:=g.2.2;let i:=h.toNat;.br (decide (g.2.2<(f:Int)))
 (.gh g.2.2 g.1.length<|
 .unroll 1100<|
 .grd (g.2.1≤h.toNat/\h.toNat<g.1.length)<|
 .cc (qz4 (g.1.getD i default)) fun j=>let k:=(⟨j.1,j.2⟩:aze);
 .gh g.2.2 g.1.length<|
 .unroll 1100<|
 .grd (h.toNat<g.1.length)<|
 .gst 2 4 (0) (az5i 2 azk g.1 71 1 3 81 (g.2.1+1) i [encL 3 az1 j.1,.unk] (encL 3 azy j.2) k rfl)<|
 .grd (h.toNat=g.2.1)<|
 .nn ((g.1.set i k),(g.2.1+1),(i64.wrap (g.2.2+1))))
 (.gst 3 4 (0) (az5f 2 azk g.1 71 1 3 81 g.2.1)<|
 .grd (g.2.1=g.1.length)<|
 .oo g.1))
 (e,0,0) [] fun g=>
 .cc (gzt c.Points) fun h=>
 .ret (h,g)
noncomputable def Fzg (c):=
 mkD Tryz.func35 (xzh c) 0 [.pure (jzd c)] [] (fun _=>.agg [.vec 0,.vec 1]) (fun r=>[(0,vecO 1 (encL 1 az3) r.1 53),(1,Jzb 2 azk r.2 71 1 3 81)])
noncomputable def ezd (c:A1):T A1:=
 .loop (fun (d:(A1×Int×Int))=>⟨[(0,.vec 0),(2,pz d.2.1),(3,pz d.2.2)],[(0,vecO 1 (encL 1 az3) d.1 53)],[],1⟩)
 (.exit 0) (fun (d:A1)=>⟨[],[(0,vecO 1 (encL 1 az3) d 53)],[],1⟩)
 (fun d=>let e:=(d.2.1).toNat;let f:=(d.2.2).toNat;let g:=d.1.getD f default;let h:=d.1.set e g;let i:=d.1.getD e default;.br (decide (d.2.1<d.2.2))
 (.gg d.2.2 d.1.length<|
 .gg d.2.1 d.1.length<|
 .gh d.2.1 d.1.length<|
 .conv 3013 (hz1 1 (encL 1 az3) d.1 53 e g)<|
 .gi (d.2.1) d.1.length<|
 .gh d.2.2 (h.length)<|
 .conv 3015 (hz1 1 (encL 1 az3) h 53 f i)<|
 .gi (d.2.2) (h.length)<|
 .nn ((h.set f i),(i64.wrap (d.2.1+1)),(i64.wrap (d.2.2-1))))
 (.oo d.1))
 (c,0,(i64.wrap ((c.length:Int)-1))) [] fun d=>
 .ret d
noncomputable def gzv (c):=
 mkD Tryz.func36 (ezd c) 1 [.vec 0] [(0,vecO 1 (encL 1 az3) c 53)] (fun _=>.tup []) (fun r=>[(0,vecO 1 (encL 1 az3) r 53)])
noncomputable def czi (c:Ae):T Ae:=
 .loop (fun (d:(Ae×Int×Int))=>⟨[(0,.vec 0),(2,pz d.2.1),(3,pz d.2.2)],[(0,Jzb 2 azk d.1 71 1 3 81)],[],1⟩)
 (.exit 0) (fun (d:Ae)=>⟨[],[(0,Jzb 2 azk d 71 1 3 81)],[],1⟩)
 (fun d=>let e:=d.2.2;let f:=d.2.1;let g:=e.toNat;let h:=f.toNat;let i:=d.1.getD h default;let j:=d.1.getD g default;.br (decide (d.2.1<d.2.2))
 (.gst 0 0 g .none<|
 .grd (e.toNat<d.1.length)<|
 .gst 0 0 h .none<|
 .grd (e.toNat≠f.toNat/\f.toNat<d.1.length)<|
 .gh d.2.2 d.1.length<|
 .unroll 1101<|
 .ok (e.toNat=e.toNat) rfl<|
 .gh d.2.1 d.1.length<|
 .unroll 1102<|
 .ok (f.toNat=f.toNat) rfl<|
 .gh d.2.1 d.1.length<|
 .unroll 1102<|
 .ok (f.toNat=f.toNat) rfl<|
 .gh d.2.2 d.1.length<|
 .unroll 1101<|
 .ok (e.toNat=e.toNat) rfl<|
 .gst 1 0 (0) .none<|
 .gst 1 0 (0) .none<|
 .gst 3 0 (0) (az2x 2 azk d.1 71 1 3 81 h g [encL 3 az1 (i.Table),.unk] [encL 3 az1 (j.Table),.unk] (encL 3 azy (i.Uses)) (encL 3 azy (j.Uses)) j i rfl rfl)<|
 .grd (e.toNat≠f.toNat)<|
 .nn (((d.1.set h j).set g i),(i64.wrap (d.2.1+1)),(i64.wrap (d.2.2-1))))
 (.oo d.1))
 (c,0,(i64.wrap ((c.length:Int)-1))) [] fun d=>
 .ret d
noncomputable def ez2 (c):=
 mkD Tryz.func37 (czi c) 1 [.vec 0] [(0,Jzb 2 azk c 71 1 3 81)] (fun _=>.tup []) (fun r=>[(0,Jzb 2 azk r 71 1 3 81)])
noncomputable def dzh (c:Ad):T Ad:=
 .loop (fun (d:(Ad×Int×Int))=>⟨[(0,.vec 0),(2,pz d.2.1),(3,pz d.2.2)],[(0,vecO 3 azy d.1 81)],[],1⟩)
 (.exit 0) (fun (d:Ad)=>⟨[],[(0,vecO 3 azy d 81)],[],1⟩)
 (fun d=>let e:=(d.2.1).toNat;let f:=(d.2.2).toNat;let g:=d.1.getD f default;let h:=d.1.set e g;let i:=d.1.getD e default;.br (decide (d.2.1<d.2.2))
 (.gg d.2.2 d.1.length<|
 .gg d.2.1 d.1.length<|
 .gh d.2.1 d.1.length<|
 .conv 3013 (hz1 3 azy d.1 81 e g)<|
 .gi (d.2.1) d.1.length<|
 .gh d.2.2 (h.length)<|
 .conv 3015 (hz1 3 azy h 81 f i)<|
 .gi (d.2.2) (h.length)<|
 .nn ((h.set f i),(i64.wrap (d.2.1+1)),(i64.wrap (d.2.2-1))))
 (.oo d.1))
 (c,0,(i64.wrap ((c.length:Int)-1))) [] fun d=>
 .ret d
noncomputable def fze (c):=
 mkD Tryz.func38 (dzh c) 1 [.vec 0] [(0,vecO 3 azy c 81)] (fun _=>.tup []) (fun r=>[(0,vecO 3 azy r 81)])
noncomputable def rzh (c:azv):T azv:=
 .cc (Fzg (⟨c.Points,c.Edges⟩:azv)) fun d=>
 .unroll 998<|
 .call (gzv d.1) [(0,320)] fun e=>
 .call (ez2 d.2) [(0,321)] fun f=>let g:=(f.length:Int);
 .loop (fun (h:(Ae×Int))=>⟨[(1,.ptr 0 0),(2,.ptr 3 0),(17,.vec 2),(18,pz g),(19,pz h.2)],[(0,.box [.vec 1,.vec 2]),(1,vecO 1 (encL 1 az3) e 53),(2,Jzb 2 azk h.1 71 1 3 81),(3,.box [.vec 4,.vec 5]),(4,.nilv),(5,.nilv)],[.func 34 [] [.ptr 3 0]],6⟩)
 (.exit 0) (fun (h:Ae)=>⟨[(1,.ptr 0 0),(2,.ptr 3 0)],[(0,.box [.vec 1,.vec 2]),(1,vecO 1 (encL 1 az3) e 53),(2,Jzb 2 azk h 71 1 3 81),(3,.box [.vec 4,.vec 5]),(4,.nilv),(5,.nilv)],[.func 34 [] [.ptr 3 0]],6⟩)
 (fun h=>let i:=h.2;let j:=i.toNat;let k:=h.1.getD j default;let m:Nat×Res:=(7,.box [.pure (encL 3 az1 (k.Table)),.vec 3]);.br (decide (h.2<g))
 (.gst 0 2 j .none<|
 .grd (i.toNat<h.1.length)<|
 .gh h.2 h.1.length<|
 .unroll 1101<|
 .ok (i.toNat=i.toNat) rfl<|
 .call (fze (k.Uses)) [(0,70)] fun n=>let s:=(n.length:Int);
 .loop (fun (t:(Ad×Int))=>⟨[(1,.ptr 0 0),(2,.ptr 4 0),(4,.ptr 7 0),(17,.vec 2),(18,pz g),(19,pz h.2),(27,.vec 3),(28,pz s),(29,pz t.2)],[(0,.box [.vec 1,.vec 2]),(1,vecO 1 (encL 1 az3) e 53),(2,Qzo 2 azk h.1 h.1.length 71 1 3 81 [(i.toNat,3)]),(3,vecO 3 azy t.1 81),(4,.box [.vec 5,.vec 6]),(5,.nilv),(6,.nilv),m],[.func 34 [] [.ptr 4 0]],8⟩)
 (.exit 2) (fun (t:Ad)=>⟨[(1,.ptr 0 0),(2,.ptr 4 0),(17,.vec 2),(18,pz g),(19,pz h.2)],[(0,.box [.vec 1,.vec 2]),(1,vecO 1 (encL 1 az3) e 53),(2,Qzo 2 azk h.1 h.1.length 71 1 3 81 [(i.toNat,3)]),(3,vecO 3 azy t 81),(4,.box [.vec 5,.vec 6]),(5,.nilv),(6,.nilv)],[.func 34 [] [.ptr 4 0]],7⟩)
 (fun t=>let w:=(t.2).toNat;let y:=t.1.getD w default;let z:=y.Depth;.br (decide (t.2<s))
 (.cut 0 (fun (aa:Ad)=>⟨[(1,.ptr 0 0),(2,.ptr 4 0),(4,.ptr 7 0),(17,.vec 2),(18,pz g),(19,pz h.2),(27,.vec 3),(28,pz s),(29,pz t.2)],[(0,.box [.vec 1,.vec 2]),(1,vecO 1 (encL 1 az3) e 53),(2,Qzo 2 azk h.1 h.1.length 71 1 3 81 [(i.toNat,3)]),(3,vecO 3 azy aa 81),(4,.box [.vec 5,.vec 6]),(5,.nilv),(6,.nilv),m],[.func 34 [] [.ptr 4 0]],8⟩)
 (.gg t.2 t.1.length<|
 .cut 0 (fun (aa:Bool)=>⟨[(1,.ptr 0 0),(2,.ptr 4 0),(4,.ptr 7 0),(5,pz t.2),(6,.ptr 8 0),(17,.vec 2),(18,pz g),(19,pz h.2),(27,.vec 3),(28,pz s),(29,pz t.2),(41,.pure (.bool aa))],[(0,.box [.vec 1,.vec 2]),(1,vecO 1 (encL 1 az3) e 53),(2,Qzo 2 azk h.1 h.1.length 71 1 3 81 [(i.toNat,3)]),(3,vecO 3 azy t.1 81),(4,.box [.vec 5,.vec 6]),(5,.nilv),(6,.nilv),m,(8,.box [pz z,pz (y.Index),.pure (encL 1 az3 (y.Numbers))])],[.func 34 [] [.ptr 4 0]],9⟩)
 (.br (decide (z≥0))
 (.oo (decide (z≤20)))
 (.oo false)) fun aa=>
 .br aa
 (.grd (0≤z)<|
 .name 13009 ((i64.wrap ((i64.wrap ((i64.wrap (1 * 2 ^ (min z.toNat 64)))-1))- (y.Index)))) fun ab=>let ac:=(⟨y.Depth,ab,y.Numbers⟩:bzv);
 .gh t.2 t.1.length<|
 .conv 13012 (hz1 3 azy t.1 81 w ac)<|
 .gi (t.2) t.1.length<|
 .oo (t.1.set w ac))
 (.oo t.1)) fun aa=>
 .nn (aa,(i64.wrap (t.2+1))))
 (.oo t.1))
 (n,0) [] fun t=>let w:=(⟨k.Table,t⟩:aze);
 .gst 1 2 (0) (az5j 2 azk h.1 71 1 3 81 j (encL 3 azy t) w rfl)<|
 .nn ((h.1.set j w),(i64.wrap (h.2+1))))
 (.oo h.1))
 (f,0) [] fun h=>
 .ret (⟨e,h⟩:azv)
noncomputable def dz3 (c):=
 mkC [⟨34,az38⟩] hd Tryz.func12 (by kernel_rfl) (rzh c) 0 [.pure (jzd c)] [] (fun r=>.pure (jzd r)) (fun _=>[]) (by kernel_rfl)
open Go.Proofs
set_option maxHeartbeats 8000000 in
set_option maxRecDepth 20000 in
noncomputable def gz9 (c:aze):T (Ab×Bool):=let d:=encL 3 azy c.Uses;let e:=(c.Uses.length:Int);let f:Nat×Res:=(0,.box [.pure (encL 3 az1 c.Table),.pure d]);.loop (fun (g:Ac)=>⟨[(1,.ptr 0 0),(2,.ptr 1 0),(3,.ptr 3 0),(11,.pure d),(12,pz e),(13,pz g.2)],[f,(1,.box [.vec 2]),(2,vecO 3 azf g.1 106),(3,.box [.ff])],[.func 57 [] [.ptr 1 0,.ptr 3 0]],4⟩)
 (.exit 0) (fun (g:Ab)=>⟨[(2,.ptr 0 0),(3,.ptr 2 0)],[(0,.box [.vec 1]),(1,vecO 3 azf g 106),(2,.box [.ff])],[.func 57 [] [.ptr 0 0,.ptr 2 0]],3⟩)
 (fun g=>let h:=c.Uses.getD ((g.2).toNat) default;let i:=encL 1 az3 (h.Numbers);let j:=(h.Numbers.length:Int);let k:Nat×Res:=(4,.box [pz (h.Depth),pz (h.Index),.vec 5]);.br (decide (g.2<e))
 (.gh g.2 c.Uses.length<|
 .loop (fun (m:An)=>⟨[(1,.ptr 0 0),(2,.ptr 1 0),(3,.ptr 3 0),(6,.ptr 4 0),(11,.pure d),(12,pz e),(13,pz g.2),(23,.pure i),(24,pz j),(25,pz m.2)],[f,(1,.box [.vec 2]),(2,vecO 3 azf g.1 106),(3,.box [.ff]),k,(5,vecO 3 az1 m.1 78)],[.func 57 [] [.ptr 1 0,.ptr 3 0]],6⟩)
 (.exit 2) (fun (m:Am)=>⟨[(1,.ptr 0 0),(2,.ptr 1 0),(3,.ptr 3 0),(6,.ptr 4 0),(11,.pure d),(12,pz e),(13,pz g.2)],[f,(1,.box [.vec 2]),(2,vecO 3 azf g.1 106),(3,.box [.ff]),k,(5,vecO 3 az1 m 78)],[.func 57 [] [.ptr 1 0,.ptr 3 0]],6⟩)
 (fun m=>let n:=(h.Numbers).getD ((m.2).toNat) default;let s:=([(c.Table.getD (n.toNat) default)]:Am);let t:=m.1.length+s.length;.br (decide (m.2<j))
 (.gh m.2 (h.Numbers.length)<|
 .cut 1 (fun (w:Bool)=>⟨[(1,.ptr 0 0),(2,.ptr 1 0),(3,.ptr 3 0),(6,.ptr 4 0),(8,pz n),(11,.pure d),(12,pz e),(13,pz g.2),(23,.pure i),(24,pz j),(25,pz m.2),(37,.pure (.bool w))],[f,(1,.box [.vec 2]),(2,vecO 3 azf g.1 106),(3,.box [.ff]),k,(5,vecO 3 az1 m.1 78)],[.func 57 [] [.ptr 1 0,.ptr 3 0]],6⟩)
 (.br (decide (n<0))
 (.oo true)
 (.oo (decide (n≥(c.Table.length:Int))))) fun w=>
 .br w
 (.ff (.fin (nl,false)))
 (.gh n c.Table.length<|
 .conv 11007 (cz5 3 az1 s 78)<|
 .conv 11008 (dzi 3 az1 m.1 s 78)<|
 .grd (t * 24≤140737488355328/\t≤maxLen)<|
 .nn ((m.1++s),(i64.wrap (m.2+1)))))
 (.oo m.1))
 (nl,0) [] fun m=>let n:=([(⟨h.Depth,h.Index,m⟩:az4)]:Ab);let s:=g.1.length+n.length;
 .conv 13002 (cz5 3 azf n 106)<|
 .conv 13003 (dzi 3 azf g.1 n 106)<|
 .grd (s * 40≤140737488355328/\s≤maxLen)<|
 .nn ((g.1++n),(i64.wrap (g.2+1))))
 (.oo g.1))
 (nl,0) [] fun g=>
 .ret (g,true)
noncomputable def ez3 (c):=
 mkC [⟨57,az3a⟩] hd Tryz.func29 (by kernel_rfl) (gz9 c) 0 [.pure (azk c)] [] (fun r=>.tup [.pure (encL 3 azf r.1),.pure (.bool r.2)]) (fun _=>[]) (by kernel_rfl)
noncomputable def xzg (c:azb)(d:azv):T Ah:=let e:=encL 2 azk d.Edges;let f:=(d.Edges.length:Int);.cc (kz0 c d.Points) fun g=>
 .br (g.2 !=0)
 (.ret (g.1,g.2))
 (.br (f !=(i64.wrap ((d.Points.length:Int)-1)))
 (.ret (0,2202))
 (.loop (fun (h:Int)=>⟨[(2,.ptr 0 0),(3,.ptr 1 0),(4,.ptr 2 0),(5,.ptr 3 0),(35,.pure e),(36,pz f),(37,pz h)],[(0,.box [.pure (encL 12 azd c.Robot.Joints),.pure (encL 5 azg c.Robot.Masses),.pure (encL 3 azh c.Shapes),.pure (encL 2 azo c.Skips)]),(1,.box [.pure (encL 1 (encL 1 az3) d.Points),.pure e]),(2,.box [pz 0]),(3,.box [pz 0])],[.func 28 [] [.ptr 2 0,.ptr 3 0]],4⟩)
 (.exit 0) (fun (_:U0)=>⟨[(4,.ptr 0 0),(5,.ptr 1 0)],[(0,.box [pz 0]),(1,.box [pz 0])],[.func 28 [] [.ptr 0 0,.ptr 1 0]],2⟩)
 (fun h=>let i:=i64.wrap (h+1);.br (decide (h<f))
 (.gh h d.Edges.length<|
 .cc (ez3 (d.Edges.getD (h.toNat) default)) fun j=>
 .br (!j.2)
 (.ff (h,2203))
 (.gh h d.Points.length<|
 .gh i d.Points.length<|
 .call (kzw (⟨c.Robot,c.Shapes,c.Skips⟩:azb) (d.Points.getD (h.toNat) default) (d.Points.getD (i.toNat) default) j.1) [] fun k=>
 .br (k.2 !=0)
 (.ff (h,k.2))
 (.nn i)))
 (.oo .u))
 0 [] fun _=>
 .ret (0,0)))
noncomputable def ezh (c)(d):=
 mkC [⟨28,az37⟩] hd Tryz.func8 (by kernel_rfl) (xzg c d) 0 [.pure (bzd c),.pure (jzd d)] [] (fun r=>.tup [pz r.1,pz r.2]) (fun _=>[]) (by kernel_rfl)
noncomputable def Rzn:T azb:=
 .conv 1001 (cz5 12 azd ([(⟨(⟨#[97]⟩:ByteArray),4,(-1),(0,0,0),0,90000,2,1,1,1⟩:azt)]:A3) 101)<|
 .conv 2002 (cz5 3 az1 ([(0,0,0)]:Am) 78)<|
 .conv 2005 (cz5 3 az1 ([(50000,0,0)]:Am) 78)<|
 .conv 2007 (cz5 3 azh ([(⟨0,9,([(0,0,0)]:Am)⟩:azw),(⟨(-1),9,([(50000,0,0)]:Am)⟩:azw)]:A5) 94)<|
 .ret (⟨(⟨([(⟨(⟨#[97]⟩:ByteArray),4,(-1),(0,0,0),0,90000,2,1,1,1⟩:azt)]:A3),nl⟩:azm),([(⟨0,9,([(0,0,0)]:Am)⟩:azw),(⟨(-1),9,([(50000,0,0)]:Am)⟩:azw)]:A5),nl⟩:azb)
noncomputable def Azu:CallS azb:=
 mkD Tryz.func31 (Rzn) 0 [] [] (fun r=>.pure (bzd r)) (fun _=>[])
noncomputable def fzl (c:azm)(d:A0)(e:A0):T Int:=let f:=encL 1 az3 d;let g:=encL 1 az3 e;let h:=encL 12 azd c.Joints;let i:=(c.Joints.length:Int);.cut 3 (fun (j:Bool)=>⟨[(1,.pure f),(2,.pure g),(3,.ptr 0 0),(38,.pure (.bool j))],[(0,.box [.pure h,.pure (encL 5 azg c.Masses)])],[],1⟩)
 (.br ((d.length:Int) !=i)
 (.oo true)
 (.br ((e.length:Int) !=i)
 (.oo true)
 (.cc (iz5 d) fun j=>
 .br (!j)
 (.oo true)
 (.cc (iz5 e) fun k=>
 .br (!k)
 (.oo true)
 (.cc (nzu c) fun m=>
 .oo (m !=0)))))) fun j=>
 .br j
 (.ret 0)
 (.loop (fun (k:Ah)=>⟨[(1,.pure f),(2,.pure g),(8,pz k.1),(40,.pure h),(41,pz i),(42,pz k.2)],[],[],0⟩)
 (.exit 0) (fun (k:Int)=>⟨[(8,pz k)],[],[],0⟩)
 (fun k=>let m:=(k.2).toNat;let n:=e.getD m default;let s:=d.getD m default;.br (decide (k.2<i))
 (.gh k.2 c.Joints.length<|
 .gh k.2 e.length<|
 .gh k.2 d.length<|
 .gh k.2 d.length<|
 .gh k.2 e.length<|
 .name 8021 ((max (i64.wrap (n-s)) (i64.wrap (s-n)))) fun t=>
 .nn ((i64.wrap (k.1+(i64.wrap (((c.Joints.getD m default).Weight) * t)))),(i64.wrap (k.2+1))))
 (.oo k.1))
 (0,0) [] fun k=>
 .ret k)
noncomputable def ezm (c)(d)(e):=
 mkD Tryz.func40 (fzl c d e) 0 [.pure (dzb c),.pure (encL 1 az3 d),.pure (encL 1 az3 e)] [] (fun r=>pz r) (fun _=>[])
noncomputable def uze (c:azb)(d:azv):T Int:=let e:=(d.Edges.length:Nat);.cc (ezh c d) fun f=>
 .br (f.2 !=0)
 (.ret 0)
 (.loop (fun (g:Ah)=>⟨[(2,.ptr 0 0),(3,.ptr 1 0),(4,.ptr 2 0),(19,pz (e:Int)),(20,pz g.2)],[(0,.box [.pure (encL 12 azd c.Robot.Joints),.pure (encL 5 azg c.Robot.Masses),.pure (encL 3 azh c.Shapes),.pure (encL 2 azo c.Skips)]),(1,.box [.pure (encL 1 (encL 1 az3) d.Points),.pure (encL 2 azk d.Edges)]),(2,.box [pz g.1])],[.func 39 [] [.ptr 2 0]],3⟩)
 (.exit 0) (fun (g:Int)=>⟨[(4,.ptr 0 0)],[(0,.box [pz g])],[.func 39 [] [.ptr 0 0]],1⟩)
 (fun g=>let h:=i64.wrap (g.2+1);.br (decide (g.2<(e:Int)))
 (.gh g.2 d.Points.length<|
 .gh h d.Points.length<|
 .call (ezm c.Robot (d.Points.getD ((g.2).toNat) default) (d.Points.getD (h.toNat) default)) [] fun i=>
 .nn ((i64.wrap (g.1+i)),h))
 (.oo g.1))
 (0,0) [] fun g=>
 .ret g)
noncomputable def czt (c)(d):=
 mkC [⟨39,az39⟩] hd Tryz.func13 (by kernel_rfl) (uze c d) 0 [.pure (bzd c),.pure (jzd d)] [] (fun r=>pz r) (fun _=>[]) (by kernel_rfl)
noncomputable def Mzf:T Bool:=
 .cc (Azu) fun c=>
 .conv 1001 (cz5 1 az3 ([0]:A0) 2)<|
 .conv 1002 (cz5 1 az3 ([40000]:A0) 2)<|
 .conv 1003 (cz5 1 az3 ([30000]:A0) 2)<|
 .conv 1004 (cz5 1 (encL 1 az3) ([([0]:A0),([40000]:A0),([30000]:A0)]:A1) 53)<|
 .cc (xze c ([([0]:A0),([40000]:A0),([30000]:A0)]:A1) 3) fun d=>
 .cc (Azu) fun e=>
 .cc (ezh e d.1) fun f=>
 .br (d.2.2==0)
 (.br (f.2==0)
 (.br ((d.1.Edges.length:Int)==2)
 (.cc (Azu) fun g=>
 .cc (czt (⟨g.Robot,g.Shapes,g.Skips⟩:azb) (⟨d.1.Points,d.1.Edges⟩:azv)) fun h=>
 .ret (h==100000))
 (.ret false))
 (.ret false))
 (.ret false)
noncomputable def law22_awake_C:CallS Bool:=
 mkD Tryz.func9 (Mzf) 0 [] [] (fun r=>.pure (.bool r)) (fun _=>[])
noncomputable def lz4 (c:A0)(d:A0):T Bool:=let e:=(c.length:Nat);.br ((e:Int) !=(d.length:Int))
 (.ret false)
 (.loop (fun (f:Int)=>⟨[(0,.pure (encL 1 az3 c)),(1,.pure (encL 1 az3 d)),(5,pz f)],[],[],0⟩)
 (.exit 0) (fun (_:U0)=>⟨[],[],[],0⟩)
 (fun f=>.br (decide (f<(e:Int)))
 (.gh f c.length<|
 .gh f d.length<|
 .br ((c.getD (f.toNat) default) !=(d.getD (f.toNat) default))
 (.ff false)
 (.nn (i64.wrap (f+1))))
 (.oo .u))
 0 [] fun _=>
 .ret true)
noncomputable def szx (c)(d):=
 mkD Tryz.func17 (lz4 c d) 0 [.pure (encL 1 az3 c),.pure (encL 1 az3 d)] [] (fun r=>.pure (.bool r)) (fun _=>[])
noncomputable def gzm (c:A1)(d:A1):T Bool:=let e:=(c.length:Nat);.br ((e:Int) !=(d.length:Int))
 (.ret false)
 (.loop (fun (f:Int)=>⟨[(0,.pure (encL 1 (encL 1 az3) c)),(1,.pure (encL 1 (encL 1 az3) d)),(5,pz f)],[],[],0⟩)
 (.exit 0) (fun (_:U0)=>⟨[],[],[],0⟩)
 (fun f=>.br (decide (f<(e:Int)))
 (.gh f c.length<|
 .gh f d.length<|
 .cc (szx (c.getD (f.toNat) default) (d.getD (f.toNat) default)) fun g=>
 .br (!g)
 (.ff false)
 (.nn (i64.wrap (f+1))))
 (.oo .u))
 0 [] fun _=>
 .ret true)
noncomputable def kzp (c)(d):=
 mkD Tryz.func41 (gzm c d) 0 [.pure (encL 1 (encL 1 az3) c),.pure (encL 1 (encL 1 az3) d)] [] (fun r=>.pure (.bool r)) (fun _=>[])
noncomputable def izw (c:Am)(d:Am):T Bool:=let e:=(c.length:Nat);.br ((e:Int) !=(d.length:Int))
 (.ret false)
 (.loop (fun (f:Int)=>⟨[(0,.pure (encL 3 az1 c)),(1,.pure (encL 3 az1 d)),(5,pz f)],[],[],0⟩)
 (.exit 0) (fun (_:U0)=>⟨[],[],[],0⟩)
 (fun f=>let g:=c.getD (f.toNat) default;let h:=d.getD (f.toNat) default;.br (decide (f<(e:Int)))
 (.gh f c.length<|
 .gh f d.length<|
 .br (!(((g.1)==(h.1))&&(((g.2.1)==(h.2.1))&&(((g.2.2)==(h.2.2))&&true))))
 (.ff false)
 (.nn (i64.wrap (f+1))))
 (.oo .u))
 0 [] fun _=>
 .ret true)
noncomputable def ozp (c)(d):=
 mkD Tryz.func69 (izw c d) 0 [.pure (encL 3 az1 c),.pure (encL 3 az1 d)] [] (fun r=>.pure (.bool r)) (fun _=>[])
noncomputable def ozq (c:A0)(d:A0):T Bool:=let e:=(c.length:Nat);.br ((e:Int) !=(d.length:Int))
 (.ret false)
 (.loop (fun (f:Int)=>⟨[(0,.pure (encL 1 az3 c)),(1,.pure (encL 1 az3 d)),(5,pz f)],[],[],0⟩)
 (.exit 0) (fun (_:U0)=>⟨[],[],[],0⟩)
 (fun f=>.br (decide (f<(e:Int)))
 (.gh f c.length<|
 .gh f d.length<|
 .br ((c.getD (f.toNat) default) !=(d.getD (f.toNat) default))
 (.ff false)
 (.nn (i64.wrap (f+1))))
 (.oo .u))
 0 [] fun _=>
 .ret true)
noncomputable def xz5 (c)(d):=
 mkD Tryz.func70 (ozq c d) 0 [.pure (encL 1 az3 c),.pure (encL 1 az3 d)] [] (fun r=>.pure (.bool r)) (fun _=>[])
noncomputable def lz3 (c:aze)(d:aze):T Bool:=let e:=(c.Uses.length:Nat);let f:Nat×Res:=(0,.box [.pure (encL 3 az1 c.Table),.pure (encL 3 azy c.Uses)]);let g:Nat×Res:=(1,.box [.pure (encL 3 az1 d.Table),.pure (encL 3 azy d.Uses)]);.cut 2 (fun (h:Bool)=>⟨[(2,.ptr 0 0),(3,.ptr 1 0),(22,.pure (.bool h))],[f,g],[],2⟩)
 (.cc (ozp c.Table d.Table) fun h=>
 .br (!h)
 (.oo true)
 (.oo ((e:Int) !=(d.Uses.length:Int)))) fun h=>
 .br h
 (.ret false)
 (.loop (fun (i:Int)=>⟨[(2,.ptr 0 0),(3,.ptr 1 0),(5,pz i)],[f,g],[],2⟩)
 (.exit 0) (fun (_:U0)=>⟨[],[],[],0⟩)
 (fun i=>let j:=c.Uses.getD (i.toNat) default;let k:=d.Uses.getD (i.toNat) default;.br (decide (i<(e:Int)))
 (.gh i c.Uses.length<|
 .gh i d.Uses.length<|
 .cut 0 (fun (m:Bool)=>⟨[(2,.ptr 0 0),(3,.ptr 1 0),(5,pz i),(59,.pure (.bool m))],[f,g],[],2⟩)
 (.br ((j.Depth) !=(k.Depth))
 (.oo true)
 (.br ((j.Index) !=(k.Index))
 (.oo true)
 (.cc (xz5 (j.Numbers) (k.Numbers)) fun m=>
 .oo (!m)))) fun m=>
 .br m
 (.ff false)
 (.nn (i64.wrap (i+1))))
 (.oo .u))
 0 [] fun _=>
 .ret true)
noncomputable def szw (c)(d):=
 mkD Tryz.func42 (lz3 c d) 0 [.pure (azk c),.pure (azk d)] [] (fun r=>.pure (.bool r)) (fun _=>[])
noncomputable def ozo (c:azv)(d:azv):T Bool:=let e:=(c.Edges.length:Nat);let f:Nat×Res:=(0,.box [.pure (encL 1 (encL 1 az3) c.Points),.pure (encL 2 azk c.Edges)]);let g:Nat×Res:=(1,.box [.pure (encL 1 (encL 1 az3) d.Points),.pure (encL 2 azk d.Edges)]);.cut 2 (fun (h:Bool)=>⟨[(2,.ptr 0 0),(3,.ptr 1 0),(20,.pure (.bool h))],[f,g],[],2⟩)
 (.cc (kzp c.Points d.Points) fun h=>
 .br (!h)
 (.oo true)
 (.oo ((e:Int) !=(d.Edges.length:Int)))) fun h=>
 .br h
 (.ret false)
 (.loop (fun (i:Int)=>⟨[(2,.ptr 0 0),(3,.ptr 1 0),(5,pz i)],[f,g],[],2⟩)
 (.exit 0) (fun (_:U0)=>⟨[],[],[],0⟩)
 (fun i=>.br (decide (i<(e:Int)))
 (.gh i c.Edges.length<|
 .gh i d.Edges.length<|
 .cc (szw (c.Edges.getD (i.toNat) default) (d.Edges.getD (i.toNat) default)) fun j=>
 .br (!j)
 (.ff false)
 (.nn (i64.wrap (i+1))))
 (.oo .u))
 0 [] fun _=>
 .ret true)
noncomputable def jzn (c)(d):=
 mkD Tryz.func14 (ozo c d) 0 [.pure (jzd c),.pure (jzd d)] [] (fun r=>.pure (.bool r)) (fun _=>[])
noncomputable def hzx (c:azv)(d:A0)(e:A0)(f:Int)(g:Int)(h:Int)(i:Int):T Bool:=let j:=(⟨c.Points,c.Edges⟩:azv);.cc (ozm d e f) fun k=>let m:=(⟨k.1.Robot,k.1.Shapes,k.1.Skips⟩:azb);
 .cc (xze m k.2.1 k.2.2) fun n=>
 .cut 0 (fun (s:(A1×Ae))=>⟨[(7,.ptr 0 0),(15,.ptr 1 0),(18,.ptr 2 0)],[(0,.box [.pure (encL 1 (encL 1 az3) c.Points),.pure (encL 2 azk c.Edges)]),(1,.box [.pure (encL 12 azd k.1.Robot.Joints),.pure (encL 5 azg k.1.Robot.Masses),.pure (encL 3 azh k.1.Shapes),.pure (encL 2 azo k.1.Skips)]),(2,.box [.pure (encL 1 (encL 1 az3) s.1),.pure (encL 2 azk s.2)])],[],3⟩)
 (.br ((i64.wrap (((BitVec.ofInt 64 g&&&BitVec.ofInt 64 1).toNat:Int)))==1)
 (.ok (0≤(1:Int)) (by decide)<|
 .cc (ozk n.1 (g.fdiv (2 ^ (min (1:Int).toNat 64))) h i) fun s=>
 .oo (s.Points,s.Edges))
 (.oo (n.1.Points,n.1.Edges))) fun s=>let t:=(⟨s.1,s.2⟩:azv);
 .cc (dz3 t) fun w=>let y:=(⟨w.Points,w.Edges⟩:azv);
 .cc (ezh m t) fun z=>
 .cc (ezh m y) fun aa=>
 .cc (law22_awake_C) fun ab=>
 .br ab
 (.br ((z.2==0)==(aa.2==0))
 (.cc (czt m t) fun ac=>
 .cc (czt m y) fun ad=>
 .br (ac==ad)
 (.cc (dz3 y) fun ae=>
 .cc (jzn (⟨ae.Points,ae.Edges⟩:azv) t) fun af=>
 .br af
 (.cc (dz3 j) fun ag=>
 .cc (dz3 ag) fun ah=>
 .cc (jzn ah j) fun ai=>
 .ret ai)
 (.ret false))
 (.ret false))
 (.ret false))
 (.ret false)
noncomputable def dze (c)(d)(e)(f)(g)(h)(i):=
 mkD Tryz.func4 (hzx c d e f g h i) 0 [.pure (jzd c),.pure (encL 1 az3 d),.pure (encL 1 az3 e),pz f,pz g,pz h,pz i] [] (fun r=>.pure (.bool r)) (fun _=>[])
noncomputable def Bza (c:ByteArray):T Bool:=let d:=(c.size:Int);.cut 2 (fun (e:Bool)=>⟨[(0,.pure (.str c)),(16,.pure (.bool e))],[],[],0⟩)
 (.br (decide (d<1))
 (.oo true)
 (.br (decide (d>16))
 (.oo true)
 (.oo (c==(⟨#[119,111,114,108,100]⟩:ByteArray))))) fun e=>
 .br e
 (.ret false)
 (.loop (fun (f:Int)=>⟨[(0,.pure (.str c)),(3,pz f)],[],[],0⟩)
 (.exit 0) (fun (_:U0)=>⟨[],[],[],0⟩)
 (fun f=>let g:=((c.data.getD f.toNat 0).toNat:Int);.br (decide (f<d))
 (.cut 1 (fun (h:Bool)=>⟨[(0,.pure (.str c)),(3,pz f),(4,.pure (.bool h))],[],[],0⟩)
 (.gh f c.size<|
 .br (decide (g≥97))
 (.gh f c.size<|
 .oo (decide (g≤122)))
 (.oo false)) fun h=>
 .cut 0 (fun (i:Bool)=>⟨[(0,.pure (.str c)),(3,pz f),(56,.pure (.bool i))],[],[],0⟩)
 (.br (!h)
 (.br (f==0)
 (.oo true)
 (.gh f c.size<|
 .br (g !=95)
 (.gh f c.size<|
 .br (decide (g<48))
 (.oo true)
 (.gh f c.size<|
 .oo (decide (g>57))))
 (.oo false)))
 (.oo false)) fun i=>
 .br i
 (.ff false)
 (.nn (i64.wrap (f+1))))
 (.oo .u))
 0 [] fun _=>
 .ret true)
noncomputable def Izn (c):=
 mkD Tryz.func207 (Bza c) 0 [.pure (.str c)] [] (fun r=>.pure (.bool r)) (fun _=>[])
noncomputable def yzc (c:Int):T Int:=
 .br (c==0)
 (.ret 0)
 (.cut 0 (fun (d:Bool)=>⟨[(6,.pure (.bool d))],[],[],0⟩)
 (.br (c==1)
 (.oo (c==1))
 (.br (c==2)
 (.oo (c==2))
 (.oo (c==3)))) fun d=>
 .br d
 (.ret 524288)
 (.ret 4194304))
noncomputable def Fzt (c):=
 mkD Tryz.func208 (yzc c) 0 [pz c] [] (fun r=>pz r) (fun _=>[])
noncomputable def sz8 (c:Int)(d:Int)(e:Int):T Bool:=
 .br (decide (d≤c))
 (.ret (decide (c≤e)))
 (.ret false)
noncomputable def fzc (c)(d)(e):=
 mkD Tryz.func127 (sz8 c d e) 0 [pz c,pz d,pz e] [] (fun r=>.pure (.bool r)) (fun _=>[])
set_option maxHeartbeats 8000000 in
set_option maxRecDepth 20000 in
noncomputable def lzj (c:A3)(d:Int):T Int:=let e:=c.getD (d.toNat) default;let f:=e.Name;let g:=e.Kind;let h:=e.Parent;let i:Nat×Res:=(0,.box [.pure (.str f),pz g,pz h,pz (e.Offset.1),pz (e.Offset.2.1),pz (e.Offset.2.2),pz (e.Lo),pz (e.Hi),pz (e.Weight),pz (e.Speed),pz (e.Accel),pz (e.Torque)]);.gh d c.length<|
 .cc (Izn f) fun j=>
 .br (!j)
 (.ret 802)
 (.loop (fun (k:Int)=>⟨[(0,.pure (encL 12 azd c)),(1,pz d),(5,.ptr 0 0),(6,pz k)],[i],[],1⟩)
 (.exit 0) (fun (_:U0)=>⟨[(1,pz d),(5,.ptr 0 0)],[i],[],1⟩)
 (fun k=>.br (decide (k<d))
 (.gh k c.length<|
 .br (((c.getD (k.toNat) default).Name)==f)
 (.ff 802)
 (.nn (i64.wrap (k+1))))
 (.oo .u))
 0 [] fun _=>
 .cut 1 (fun (k:Bool)=>⟨[(1,pz d),(5,.ptr 0 0),(36,.pure (.bool k))],[i],[],1⟩)
 (.br (decide (g<0))
 (.oo true)
 (.oo (decide (g>6)))) fun k=>
 .br k
 (.ret 803)
 (.cut 1 (fun (m:Bool)=>⟨[(5,.ptr 0 0),(45,.pure (.bool m))],[i],[],1⟩)
 (.br (decide (h<(-1)))
 (.oo true)
 (.oo (decide (h≥d)))) fun m=>
 .br m
 (.ret 804)
 (.cc (fzb (e.Offset) 4194304) fun n=>
 .br (!n)
 (.ret 805)
 (.cc (Fzt g) fun s=>
 .cut 0 (fun (t:Bool)=>⟨[(5,.ptr 0 0),(70,.pure (.bool t))],[i],[],1⟩)
 (.br (decide ((e.Lo)>(e.Hi)))
 (.oo true)
 (.br (decide ((e.Lo)<(i64.wrap (0-s))))
 (.oo true)
 (.oo (decide ((e.Hi)>s))))) fun t=>
 .br t
 (.ret 806)
 (.cut 1 (fun (w:Bool)=>⟨[(92,.pure (.bool w))],[],[],0⟩)
 (.cc (fzc (e.Weight) 1 1024) fun w=>
 .br (!w)
 (.oo true)
 (.cc (fzc (e.Speed) 1 1048576) fun y=>
 .br (!y)
 (.oo true)
 (.cc (fzc (e.Accel) 1 1048576) fun z=>
 .br (!z)
 (.oo true)
 (.cc (fzc (e.Torque) 1 1099511627776) fun aa=>
 .oo (!aa))))) fun w=>
 .br w
 (.ret 807)
 (.ret 0))))))
noncomputable def tz5 (c)(d):=
 mkD Tryz.func158 (lzj c d) 0 [.pure (encL 12 azd c),pz d] [] (fun r=>pz r) (fun _=>[])
noncomputable def lzh (c:azm):T Int:=let d:=(c.Joints.length:Int);let e:=(c.Masses.length:Nat);let f:Nat×Res:=(0,.box [.pure (encL 12 azd c.Joints),.pure (encL 5 azg c.Masses)]);.cut 2 (fun (g:Bool)=>⟨[(1,.ptr 0 0),(16,.pure (.bool g))],[f],[],1⟩)
 (.br (decide (d<1))
 (.oo true)
 (.oo (decide (d>10)))) fun g=>
 .br g
 (.ret 801)
 (.loop (fun (h:Int)=>⟨[(1,.ptr 0 0),(3,pz h)],[f],[],1⟩)
 (.exit 0) (fun (_:U0)=>⟨[(1,.ptr 0 0)],[f],[],1⟩)
 (fun h=>.br (decide (h<d))
 (.cc (tz5 c.Joints h) fun i=>
 .br (i !=0)
 (.ff i)
 (.nn (i64.wrap (h+1))))
 (.oo .u))
 0 [] fun _=>
 .br (decide ((e:Int)>32))
 (.ret 808)
 (.loop (fun (h:Int)=>⟨[(1,.ptr 0 0),(5,pz h)],[f],[],1⟩)
 (.exit 2) (fun (_:U0)=>⟨[],[],[],0⟩)
 (fun h=>let i:=c.Masses.getD (h.toNat) default;.br (decide (h<(e:Int)))
 (.gh h c.Masses.length<|
 .cut 0 (fun (j:Bool)=>⟨[(1,.ptr 0 0),(5,pz h),(69,.pure (.bool j))],[f],[],1⟩)
 (.br (decide ((i.Link)<0))
 (.oo true)
 (.br (decide ((i.Link)≥d))
 (.oo true)
 (.cc (fzc (i.Mass) 1 65536) fun j=>
 .br (!j)
 (.oo true)
 (.cc (fzb (i.Point) 4194304) fun k=>
 .oo (!k))))) fun j=>
 .br j
 (.ff 808)
 (.nn (i64.wrap (h+1))))
 (.oo .u))
 0 [] fun _=>
 .ret 0))
noncomputable def dzl (c):=
 mkD Tryz.func125 (lzh c) 0 [.pure (dzb c)] [] (fun r=>pz r) (fun _=>[])
noncomputable def vz5 (c:azm)(d:Int):T Bool:=
 .br (decide (d≥(-1)))
 (.ret (decide (d<(c.Joints.length:Int))))
 (.ret false)
noncomputable def eza (c)(d):=
 mkD Tryz.func126 (vz5 c d) 0 [.pure (dzb c),pz d] [] (fun r=>.pure (.bool r)) (fun _=>[])
noncomputable def lzi (c:azb):T Int:=let d:=(c.Skips.length:Nat);let e:=(c.Shapes.length:Nat);let f:Nat×Res:=(0,.box [.pure (encL 12 azd c.Robot.Joints),.pure (encL 5 azg c.Robot.Masses),.pure (encL 3 azh c.Shapes),.pure (encL 2 azo c.Skips)]);.cc (dzl c.Robot) fun g=>
 .br (g !=0)
 (.ret g)
 (.br (decide ((e:Int)>24))
 (.ret 901)
 (.loop (fun (h:Int)=>⟨[(1,.ptr 0 0),(4,pz h)],[f],[],1⟩)
 (.exit 0) (fun (_:U0)=>⟨[(1,.ptr 0 0)],[f],[],1⟩)
 (fun h=>let i:=c.Shapes.getD (h.toNat) default;let j:=(i.Points.length:Int);let k:Nat×Res:=(1,.box [pz (i.Link),pz (i.Radius),.pure (encL 3 az1 (i.Points))]);.br (decide (h<(e:Int)))
 (.gh h c.Shapes.length<|
 .cut 1 (fun (m:Bool)=>⟨[(1,.ptr 0 0),(4,pz h),(5,.ptr 1 0),(53,.pure (.bool m))],[f,k],[],2⟩)
 (.cc (eza c.Robot (i.Link)) fun m=>
 .br (!m)
 (.oo true)
 (.cc (fzc (i.Radius) 1 1048576) fun n=>
 .br (!n)
 (.oo true)
 (.br (decide (j<1))
 (.oo true)
 (.oo (decide (j>8)))))) fun m=>
 .br m
 (.ff 902)
 (.loop (fun (n:Int)=>⟨[(1,.ptr 0 0),(4,pz h),(5,.ptr 1 0),(6,pz n)],[f,k],[],2⟩)
 (.exit 2) (fun (_:U0)=>⟨[(1,.ptr 0 0),(4,pz h)],[f],[],1⟩)
 (fun n=>.br (decide (n<j))
 (.gh n (i.Points.length)<|
 .call (fzb ((i.Points).getD (n.toNat) default) 4194304) [] fun s=>
 .br (!s)
 (.ff (.fin 805))
 (.nn (i64.wrap (n+1))))
 (.oo .u))
 0 [] fun _=>
 .nn (i64.wrap (h+1))))
 (.oo .u))
 0 [] fun _=>
 .br (decide ((d:Int)>64))
 (.ret 903)
 (.loop (fun (h:Int)=>⟨[(1,.ptr 0 0),(7,pz h)],[f],[],1⟩)
 (.exit 4) (fun (_:U0)=>⟨[],[],[],0⟩)
 (fun h=>let i:=c.Skips.getD (h.toNat) default;.br (decide (h<(d:Int)))
 (.cut 1 (fun (j:Bool)=>⟨[(1,.ptr 0 0),(7,pz h),(100,.pure (.bool j))],[f],[],1⟩)
 (.gh h c.Skips.length<|
 .cc (eza c.Robot (i.A)) fun j=>
 .br (!j)
 (.oo true)
 (.gh h c.Skips.length<|
 .cc (eza c.Robot (i.B)) fun k=>
 .oo (!k))) fun j=>
 .br j
 (.ff 903)
 (.nn (i64.wrap (h+1))))
 (.oo .u))
 0 [] fun _=>
 .ret 0)))
noncomputable def ezo (c):=
 mkD Tryz.func90 (lzi c) 0 [.pure (bzd c)] [] (fun r=>pz r) (fun _=>[])
noncomputable def rzm (c:azm)(d:A0):T Bool:=let e:=encL 1 az3 d;let f:=(d.length:Nat);let g:Nat×Res:=(0,.box [.pure (encL 12 azd c.Joints),.pure (encL 5 azg c.Masses)]);.cut 2 (fun (h:Bool)=>⟨[(1,.pure e),(2,.ptr 0 0),(16,.pure (.bool h))],[g],[],1⟩)
 (.cc (dzl c) fun h=>
 .br (h !=0)
 (.oo true)
 (.oo ((f:Int) !=(c.Joints.length:Int)))) fun h=>
 .br h
 (.ret false)
 (.loop (fun (i:Int)=>⟨[(1,.pure e),(2,.ptr 0 0),(5,pz i)],[g],[],1⟩)
 (.exit 0) (fun (_:U0)=>⟨[],[],[],0⟩)
 (fun i=>let j:=d.getD (i.toNat) default;let k:=c.Joints.getD (i.toNat) default;.br (decide (i<(f:Int)))
 (.cut 1 (fun (m:Bool)=>⟨[(1,.pure e),(2,.ptr 0 0),(5,pz i),(46,.pure (.bool m))],[g],[],1⟩)
 (.gh i d.length<|
 .gh i c.Joints.length<|
 .br (decide (j<(k.Lo)))
 (.oo true)
 (.gh i d.length<|
 .gh i c.Joints.length<|
 .oo (decide (j>(k.Hi))))) fun m=>
 .br m
 (.ff false)
 (.nn (i64.wrap (i+1))))
 (.oo .u))
 0 [] fun _=>
 .ret true)
noncomputable def rzl (c)(d):=
 mkD Tryz.func91 (rzm c d) 0 [.pure (dzb c),.pure (encL 1 az3 d)] [] (fun r=>.pure (.bool r)) (fun _=>[])
noncomputable def kzc (c:azb)(d:A0)(e:A0):T Bool:=
 .cc (ezo c) fun f=>
 .br (f==0)
 (.cc (rzl c.Robot d) fun g=>
 .br g
 (.cc (rzl c.Robot e) fun h=>
 .ret h)
 (.ret false))
 (.ret false)
noncomputable def nzt (c)(d)(e):=
 mkD Tryz.func102 (kzc c d e) 0 [.pure (bzd c),.pure (encL 1 az3 d),.pure (encL 1 az3 e)] [] (fun r=>.pure (.bool r)) (fun _=>[])
noncomputable def uzo (c:A0):T Bool:=let d:=encL 1 az3 c;.loop (fun (e:Int)=>⟨[(0,.pure d),(3,pz e)],[],[],0⟩)
 (.exit 0) (fun (_:U0)=>⟨[],[],[],0⟩)
 (fun e=>let f:=c.getD (e.toNat) default;.br (decide (e<(c.length:Int)))
 (.cut 1 (fun (g:Bool)=>⟨[(0,.pure d),(3,pz e),(21,.pure (.bool g))],[],[],0⟩)
 (.gh e c.length<|
 .br (decide (f<(-2147483648)))
 (.oo true)
 (.gh e c.length<|
 .oo (decide (f>2147483648)))) fun g=>
 .br g
 (.ff false)
 (.nn (i64.wrap (e+1))))
 (.oo .u))
 0 [] fun _=>
 .ret true
noncomputable def uzn (c):=
 mkD Tryz.func161 (uzo c) 0 [.pure (encL 1 az3 c)] [] (fun r=>.pure (.bool r)) (fun _=>[])
noncomputable def rzq (c:A0)(d:A0)(e:Int):T Bool:=
 .cc (uzn c) fun f=>
 .br f
 (.cc (uzn d) fun g=>
 .br g
 (.br ((c.length:Int)==(d.length:Int))
 (.br (decide (e≥0))
 (.ret (decide (e≤20)))
 (.ret false))
 (.ret false))
 (.ret false))
 (.ret false)
noncomputable def Az3 (c)(d)(e):=
 mkD Tryz.func136 (rzq c d e) 0 [.pure (encL 1 az3 c),.pure (encL 1 az3 d),pz e] [] (fun r=>.pure (.bool r)) (fun _=>[])
noncomputable def xzz (c:Int)(d:Int):T Int:=let e:=i64.wrap (c.tdiv d);.grd (d≠0)<|
 .cut 0 (fun (f:Int)=>⟨[(5,pz f)],[],[],0⟩)
 (.grd (d≠0)<|
 .br (decide ((c.tmod d)<0))
 (.oo (i64.wrap (e-1)))
 (.oo e)) fun f=>
 .ret f
noncomputable def bz6 (c)(d):=
 mkD Tryz.func137 (xzz c d) 0 [pz c,pz d] [] (fun r=>pz r) (fun _=>[])
noncomputable def Bz3 (c:Int)(d:Int):T Int:=let e:=i64.wrap (c.tdiv d);.grd (d≠0)<|
 .cut 0 (fun (f:Int)=>⟨[(5,pz f)],[],[],0⟩)
 (.grd (d≠0)<|
 .br (decide ((c.tmod d)>0))
 (.oo (i64.wrap (e+1)))
 (.oo e)) fun f=>
 .ret f
noncomputable def azu (c)(d):=
 mkD Tryz.func138 (Bz3 c d) 0 [pz c,pz d] [] (fun r=>pz r) (fun _=>[])
noncomputable def uzk (c:A0)(d:A0)(e:Int)(f:Int):T (A7×Bool):=let g:=encL 1 az3 c;let h:=encL 1 az3 d;let i:=IntKind.u64.wrap e;let j:=i64.wrap (1 * 2 ^ (min i.toNat 64));.cut 2 (fun (k:Bool)=>⟨[(0,.pure g),(1,.pure h),(2,pz e),(3,pz f),(31,.pure (.bool k))],[],[],0⟩)
 (.cc (Az3 c d e) fun k=>
 .br (!k)
 (.oo true)
 (.br (decide (f<0))
 (.oo true)
 (.grd (0≤i)<|
 .oo (decide (f≥j))))) fun k=>
 .br k
 (.ret (nl,false))
 (.grd (0≤i)<|
 .loop (fun (m:(A7×Int))=>⟨[(0,.pure g),(1,.pure h),(3,pz f),(10,pz j),(11,.vec 0),(12,pz m.2)],[(0,vecO 2 az7 m.1 167)],[],1⟩)
 (.exit 0) (fun (m:A7)=>⟨[(11,.vec 0)],[(0,vecO 2 az7 m 167)],[],1⟩)
 (fun m=>let n:=(m.2).toNat;let s:=c.getD n default;let t:=i64.wrap ((d.getD n default)-s);let w:=i64.wrap (f * t);.br (decide (m.2<(c.length:Int)))
 (.gh m.2 d.length<|
 .gh m.2 c.length<|
 .name 9006 ((i64.wrap ((i64.wrap (f+1)) * t))) fun y=>
 .gh m.2 c.length<|
 .name 10007 ((min w y)) fun z=>
 .call (bz6 z j) [] fun aa=>
 .gh m.2 c.length<|
 .name 10017 ((max w y)) fun ab=>
 .call (azu ab j) [] fun ac=>let ad:=([(⟨(i64.wrap (s+aa)),(i64.wrap (s+ac))⟩:az0)]:A7);let ae:=m.1.length+ad.length;
 .conv 10022 (cz5 2 az7 ad 167)<|
 .conv 10023 (dzi 2 az7 m.1 ad 167)<|
 .grd (ae * 16≤140737488355328/\ae≤maxLen)<|
 .nn ((m.1++ad),(i64.wrap (m.2+1))))
 (.oo m.1))
 (nl,0) [] fun m=>
 .ret (m,true))
noncomputable def nzr (c)(d)(e)(f):=
 mkD Tryz.func104 (uzk c d e f) 0 [.pure (encL 1 az3 c),.pure (encL 1 az3 d),pz e,pz f] [] (fun r=>.tup [.pure (encL 2 az7 r.1),.pure (.bool r.2)]) (fun _=>[])
noncomputable def yz6 (c:az0):T Bool:=
 .br (decide ((-2147483648)≤c.Lo))
 (.br (decide (c.Lo≤c.Hi))
 (.ret (decide (c.Hi≤2147483648)))
 (.ret false))
 (.ret false)
noncomputable def dzg (c):=
 mkD Tryz.func222 (yz6 c) 0 [.pure (az7 c)] [] (fun r=>.pure (.bool r)) (fun _=>[])
noncomputable def nz4 (c:A7):T Bool:=
 .loop (fun (d:Int)=>⟨[(0,.pure (encL 2 az7 c)),(3,pz d)],[],[],0⟩)
 (.exit 0) (fun (_:U0)=>⟨[],[],[],0⟩)
 (fun d=>.br (decide (d<(c.length:Int)))
 (.gh d c.length<|
 .cc (dzg (c.getD (d.toNat) default)) fun e=>
 .br (!e)
 (.ff false)
 (.nn (i64.wrap (d+1))))
 (.oo .u))
 0 [] fun _=>
 .ret true
noncomputable def wz2 (c):=
 mkD Tryz.func209 (nz4 c) 0 [.pure (encL 2 az7 c)] [] (fun r=>.pure (.bool r)) (fun _=>[])
noncomputable def uzf (c:azm)(d:A7):T Bool:=
 .br ((d.length:Int)==(c.Joints.length:Int))
 (.cc (wz2 d) fun e=>
 .ret e)
 (.ret false)
noncomputable def nzq (c)(d):=
 mkD Tryz.func162 (uzf c d) 0 [.pure (dzb c),.pure (encL 2 az7 d)] [] (fun r=>.pure (.bool r)) (fun _=>[])
noncomputable def xzy (c:Int):T Int:=
 .ret (max (-2147483648) (min c 2147483648))
noncomputable def mzf (c):=
 mkD Tryz.func285 (xzy c) 0 [pz c] [] (fun r=>pz r) (fun _=>[])
noncomputable def Izg (c:Int):T az0:=
 .cc (mzf c) fun d=>
 .cc (mzf c) fun e=>
 .ret (⟨d,e⟩:az0)
noncomputable def mzg (c):=
 mkD Tryz.func265 (Izg c) 0 [pz c] [] (fun r=>.pure (az7 r)) (fun _=>[])
noncomputable def ref1_Unit_T:T Av:=
 .cc (mzg 65536) fun c=>
 .ret ((c,(⟨0,0⟩:az0),(⟨0,0⟩:az0)),((⟨0,0⟩:az0),c,(⟨0,0⟩:az0)),((⟨0,0⟩:az0),(⟨0,0⟩:az0),c))
noncomputable def ref1_Unit_C:CallS Av:=
 mkD Tryz.func243 (ref1_Unit_T) 0 [] [] (fun r=>.pure (bz9 r)) (fun _=>[])
noncomputable def ref1_Rest_T:T azr:=
 .cc (ref1_Unit_C) fun c=>
 .ret (⟨c,((⟨0,0⟩:az0),(⟨0,0⟩:az0),(⟨0,0⟩:az0))⟩:azr)
noncomputable def ref1_Rest_C:CallS azr:=
 mkD Tryz.func211 (ref1_Rest_T) 0 [] [] (fun r=>.pure (bzg r)) (fun _=>[])
noncomputable def Ezm (c:Int):T Int:=
 .ok ((65536:Int)≠0) (by decide)<|
 .ok ((65536:Int)≠0) (by decide)<|
 .ret ((i64.wrap ((c.tmod 65536)+65536)).tmod 65536)
noncomputable def zz1 (c):=
 mkD Tryz.func308 (Ezm c) 0 [pz c] [] (fun r=>pz r) (fun _=>[])
noncomputable def vz4 (c:Int):T (B5×B5):=
 .cc (bz6 (i64.wrap (c * 6746518852)) 65536) fun d=>
 .ix 1 11 rfl<|
 .cc (azu (i64.wrap (c * 6746518853)) 65536) fun e=>
 .ix 1 11 rfl<|
 .unroll 10<|
 .known true<|
 .lit 7002 (1)<|
 .ix 1 11 rfl<|
 .ix 1 11 rfl<|
 .cc (bz6 (i64.wrap (d * d)) 1073741824) fun f=>
 .ix 2 11 rfl<|
 .lit 8002 (1)<|
 .ix 1 11 rfl<|
 .ix 1 11 rfl<|
 .cc (azu (i64.wrap (e * e)) 1073741824) fun g=>
 .ix 2 11 rfl<|
 .lit 6001 (3)<|
 .known true<|
 .lit 7002 (2)<|
 .ix 2 11 rfl<|
 .ix 1 11 rfl<|
 .cc (bz6 (i64.wrap (f * d)) 1073741824) fun h=>
 .ix 3 11 rfl<|
 .lit 8002 (2)<|
 .ix 2 11 rfl<|
 .ix 1 11 rfl<|
 .cc (azu (i64.wrap (g * e)) 1073741824) fun i=>
 .ix 3 11 rfl<|
 .lit 6001 (4)<|
 .known true<|
 .lit 7002 (3)<|
 .ix 3 11 rfl<|
 .ix 1 11 rfl<|
 .cc (bz6 (i64.wrap (h * d)) 1073741824) fun j=>
 .ix 4 11 rfl<|
 .lit 8002 (3)<|
 .ix 3 11 rfl<|
 .ix 1 11 rfl<|
 .cc (azu (i64.wrap (i * e)) 1073741824) fun k=>
 .ix 4 11 rfl<|
 .lit 6001 (5)<|
 .known true<|
 .lit 7002 (4)<|
 .ix 4 11 rfl<|
 .ix 1 11 rfl<|
 .cc (bz6 (i64.wrap (j * d)) 1073741824) fun m=>
 .ix 5 11 rfl<|
 .lit 8002 (4)<|
 .ix 4 11 rfl<|
 .ix 1 11 rfl<|
 .cc (azu (i64.wrap (k * e)) 1073741824) fun n=>
 .ix 5 11 rfl<|
 .lit 6001 (6)<|
 .known true<|
 .lit 7002 (5)<|
 .ix 5 11 rfl<|
 .ix 1 11 rfl<|
 .cc (bz6 (i64.wrap (m * d)) 1073741824) fun s=>
 .ix 6 11 rfl<|
 .lit 8002 (5)<|
 .ix 5 11 rfl<|
 .ix 1 11 rfl<|
 .cc (azu (i64.wrap (n * e)) 1073741824) fun t=>
 .ix 6 11 rfl<|
 .lit 6001 (7)<|
 .known true<|
 .lit 7002 (6)<|
 .ix 6 11 rfl<|
 .ix 1 11 rfl<|
 .cc (bz6 (i64.wrap (s * d)) 1073741824) fun w=>
 .ix 7 11 rfl<|
 .lit 8002 (6)<|
 .ix 6 11 rfl<|
 .ix 1 11 rfl<|
 .cc (azu (i64.wrap (t * e)) 1073741824) fun y=>
 .ix 7 11 rfl<|
 .lit 6001 (8)<|
 .known true<|
 .lit 7002 (7)<|
 .ix 7 11 rfl<|
 .ix 1 11 rfl<|
 .cc (bz6 (i64.wrap (w * d)) 1073741824) fun z=>
 .ix 8 11 rfl<|
 .lit 8002 (7)<|
 .ix 7 11 rfl<|
 .ix 1 11 rfl<|
 .cc (azu (i64.wrap (y * e)) 1073741824) fun aa=>
 .ix 8 11 rfl<|
 .lit 6001 (9)<|
 .known true<|
 .lit 7002 (8)<|
 .ix 8 11 rfl<|
 .ix 1 11 rfl<|
 .cc (bz6 (i64.wrap (z * d)) 1073741824) fun ab=>
 .ix 9 11 rfl<|
 .lit 8002 (8)<|
 .ix 8 11 rfl<|
 .ix 1 11 rfl<|
 .cc (azu (i64.wrap (aa * e)) 1073741824) fun ac=>
 .ix 9 11 rfl<|
 .lit 6001 (10)<|
 .known true<|
 .lit 7002 (9)<|
 .ix 9 11 rfl<|
 .ix 1 11 rfl<|
 .cc (bz6 (i64.wrap (ab * d)) 1073741824) fun ad=>
 .ix 10 11 rfl<|
 .lit 8002 (9)<|
 .ix 9 11 rfl<|
 .ix 1 11 rfl<|
 .cc (azu (i64.wrap (ac * e)) 1073741824) fun ae=>
 .ix 10 11 rfl<|
 .lit 6001 (11)<|
 .known false<|
 .ret ((0,d,f,h,j,m,s,w,z,ab,ad),(0,e,g,i,k,n,t,y,aa,ac,ae))
noncomputable def vz3 (c):=
 mkD Tryz.func320 (vz4 c) 0 [pz c] [] (fun r=>.tup [.pure (izl r.1),.pure (izl r.2)]) (fun _=>[])
noncomputable def nz7 (c:Int)(d:Int):T az0:=
 .cc (bz6 c 16384) fun e=>
 .cc (azu d 16384) fun f=>
 .ret (⟨(max 0 e),(min 65536 f)⟩:az0)
noncomputable def nz6 (c)(d):=
 mkD Tryz.func321 (nz7 c d) 0 [pz c,pz d] [] (fun r=>.pure (az7 r)) (fun _=>[])
noncomputable def Bz9 (c:Int):T az0:=
 .cc (vz3 c) fun d=>
 .ix 1 11 rfl<|
 .ix 3 11 rfl<|
 .cc (azu d.2.2.2.2.1 6) fun e=>
 .ix 5 11 rfl<|
 .cc (bz6 d.1.2.2.2.2.2.1 120) fun f=>
 .ix 7 11 rfl<|
 .cc (azu d.2.2.2.2.2.2.2.2.1 5040) fun g=>
 .ix 1 11 rfl<|
 .ix 3 11 rfl<|
 .cc (bz6 d.1.2.2.2.1 6) fun h=>
 .ix 5 11 rfl<|
 .cc (azu d.2.2.2.2.2.2.1 120) fun i=>
 .ix 7 11 rfl<|
 .cc (bz6 d.1.2.2.2.2.2.2.2.1 5040) fun j=>
 .ix 9 11 rfl<|
 .cc (azu d.2.2.2.2.2.2.2.2.2.2.1 362880) fun k=>
 .call (nz6 (i64.wrap ((i64.wrap ((i64.wrap (d.1.2.1-e))+f))-g)) (i64.wrap ((i64.wrap ((i64.wrap ((i64.wrap (d.2.2.1-h))+i))-j))+k))) [] fun m=>
 .ret m
noncomputable def Izm (c):=
 mkD Tryz.func313 (Bz9 c) 0 [pz c] [] (fun r=>.pure (az7 r)) (fun _=>[])
noncomputable def vz2 (c:Int):T az0:=
 .cc (vz3 c) fun d=>
 .ix 2 11 rfl<|
 .cc (azu d.2.2.2.1 2) fun e=>
 .ix 4 11 rfl<|
 .cc (bz6 d.1.2.2.2.2.1 24) fun f=>
 .ix 6 11 rfl<|
 .cc (azu d.2.2.2.2.2.2.2.1 720) fun g=>
 .ix 8 11 rfl<|
 .cc (bz6 d.1.2.2.2.2.2.2.2.2.1 40320) fun h=>
 .ix 10 11 rfl<|
 .cc (azu d.2.2.2.2.2.2.2.2.2.2.2 3628800) fun i=>
 .name 2019 ((i64.wrap ((i64.wrap ((i64.wrap ((i64.wrap ((i64.wrap (1073741824-e))+f))-g))+h))-i))) fun j=>
 .ix 2 11 rfl<|
 .cc (bz6 d.1.2.2.1 2) fun k=>
 .ix 4 11 rfl<|
 .cc (azu d.2.2.2.2.2.1 24) fun m=>
 .ix 6 11 rfl<|
 .cc (bz6 d.1.2.2.2.2.2.2.1 720) fun n=>
 .ix 8 11 rfl<|
 .cc (azu d.2.2.2.2.2.2.2.2.2.1 40320) fun s=>
 .call (nz6 j (i64.wrap ((i64.wrap ((i64.wrap ((i64.wrap (1073741824-k))+m))-n))+s))) [] fun t=>
 .ret t
noncomputable def Czw (c):=
 mkD Tryz.func314 (vz2 c) 0 [pz c] [] (fun r=>.pure (az7 r)) (fun _=>[])
noncomputable def sz1 (c:Int):T az0:=
 .br (decide (c≤8192))
 (.cc (Izm c) fun d=>
 .ret d)
 (.cc (Czw (i64.wrap (16384-c))) fun d=>
 .ret d)
noncomputable def izj (c):=
 mkD Tryz.func309 (sz1 c) 0 [pz c] [] (fun r=>.pure (az7 r)) (fun _=>[])
noncomputable def Ezp (c:az0):T az0:=
 .cc (dzg c) fun d=>
 .br (!d)
 (.ret (⟨0,0⟩:az0))
 (.ret (⟨(i64.wrap (0-c.Hi)),(i64.wrap (0-c.Lo))⟩:az0))
noncomputable def zz2 (c):=
 mkD Tryz.func297 (Ezp c) 0 [.pure (az7 c)] [] (fun r=>.pure (az7 r)) (fun _=>[])
noncomputable def Ezq (c:Int):T az0:=
 .cc (zz1 c) fun d=>let e:=d.tmod 16384;let f:=i64.wrap (d.tdiv 16384);let g:=i64.wrap (16384-e);
 .ok ((16384:Int)≠0) (by decide)<|
 .ok ((16384:Int)≠0) (by decide)<|
 .br (f==0)
 (.cc (izj e) fun h=>
 .ret h)
 (.br (f==1)
 (.cc (izj g) fun h=>
 .ret h)
 (.br (f==2)
 (.cc (izj e) fun h=>
 .cc (zz2 h) fun i=>
 .ret i)
 (.cc (izj g) fun h=>
 .cc (zz2 h) fun i=>
 .ret i)))
noncomputable def zz3 (c):=
 mkD Tryz.func302 (Ezq c) 0 [pz c] [] (fun r=>.pure (az7 r)) (fun _=>[])
noncomputable def Ezk (c:Int):T az0:=
 .cc (zz1 c) fun d=>
 .cc (zz3 (i64.wrap (d+16384))) fun e=>
 .ret e
noncomputable def Ezj (c):=
 mkD Tryz.func301 (Ezk c) 0 [pz c] [] (fun r=>.pure (az7 r)) (fun _=>[])
noncomputable def Bz4 (c:az0)(d:az0):T az0:=
 .cut 2 (fun (e:Bool)=>⟨[(2,.ptr 0 0),(3,.ptr 1 0),(4,.ptr 2 0),(12,.pure (.bool e))],[(0,.box [pz c.Lo,pz c.Hi]),(1,.box [pz d.Lo,pz d.Hi]),(2,.box [pz 0,pz 0])],[],3⟩)
 (.cc (dzg c) fun e=>
 .br (!e)
 (.oo true)
 (.cc (dzg d) fun f=>
 .oo (!f))) fun e=>
 .br e
 (.ret (⟨0,0⟩:az0))
 (.ret (⟨(min c.Lo d.Lo),(max c.Hi d.Hi)⟩:az0))
noncomputable def vz0 (c)(d):=
 mkD Tryz.func306 (Bz4 c d) 0 [.pure (az7 c),.pure (az7 d)] [] (fun r=>.pure (az7 r)) (fun _=>[])
noncomputable def yz8 (c:az0)(d:Int):T Bool:=
 .cc (zz1 (i64.wrap (d-c.Lo))) fun e=>
 .ret (decide ((i64.wrap (c.Lo+e))≤c.Hi))
noncomputable def yz7 (c)(d):=
 mkD Tryz.func307 (yz8 c d) 0 [.pure (az7 c),pz d] [] (fun r=>.pure (.bool r)) (fun _=>[])
noncomputable def Bz8 (c:az0)(d:az0)(e:az0)(f:Int)(g:Int):T az0:=
 .cc (dzg c) fun h=>
 .br (!h)
 (.ret (⟨0,0⟩:az0))
 (.br (decide ((i64.wrap (c.Hi-c.Lo))≥65536))
 (.ret (⟨(-65536),65536⟩:az0))
 (.cc (vz0 d e) fun i=>
 .cut 0 (fun (j:Ah)=>⟨[(4,pz g),(5,.ptr 0 0),(10,.ptr 1 0),(11,.ptr 2 0)],[(0,.box [pz c.Lo,pz c.Hi]),(1,.box [pz 0,pz 0]),(2,.box [pz j.1,pz j.2])],[],3⟩)
 (.cc (yz7 c f) fun j=>
 .br j
 (.cc (mzg 65536) fun k=>
 .cc (vz0 i k) fun m=>
 .oo (m.Lo,m.Hi))
 (.oo (i.Lo,i.Hi))) fun j=>
 .cut 0 (fun (k:Ah)=>⟨[(10,.ptr 0 0),(11,.ptr 1 0)],[(0,.box [pz 0,pz 0]),(1,.box [pz k.1,pz k.2])],[],2⟩)
 (.cc (yz7 c g) fun k=>
 .br k
 (.cc (mzg (-65536)) fun m=>
 .cc (vz0 (⟨j.1,j.2⟩:az0) m) fun n=>
 .oo (n.Lo,n.Hi))
 (.oo (j.1,j.2))) fun k=>
 .ret (⟨k.1,k.2⟩:az0)))
noncomputable def Bz7 (c)(d)(e)(f)(g):=
 mkD Tryz.func300 (Bz8 c d e f g) 0 [.pure (az7 c),.pure (az7 d),.pure (az7 e),pz f,pz g] [] (fun r=>.pure (az7 r)) (fun _=>[])
noncomputable def sz0 (c:az0):T az0:=
 .cc (Ezj c.Lo) fun d=>
 .cc (Ezj c.Hi) fun e=>
 .cc (Bz7 c (⟨d.Lo,d.Hi⟩:az0) (⟨e.Lo,e.Hi⟩:az0) 0 32768) fun f=>
 .ret f
noncomputable def Az5 (c):=
 mkD Tryz.func295 (sz0 c) 0 [.pure (az7 c)] [] (fun r=>.pure (az7 r)) (fun _=>[])
noncomputable def sz3 (c:az0):T az0:=
 .cc (zz3 c.Lo) fun d=>
 .cc (zz3 c.Hi) fun e=>
 .cc (Bz7 c d e 16384 49152) fun f=>
 .ret f
noncomputable def Az7 (c):=
 mkD Tryz.func296 (sz3 c) 0 [.pure (az7 c)] [] (fun r=>.pure (az7 r)) (fun _=>[])
noncomputable def Bz6 (c:Int)(d:az0):T Av:=let e:=(⟨d.Lo,d.Hi⟩:az0);.cc (dzg d) fun f=>
 .br (!f)
 (.ret (((⟨0,0⟩:az0),(⟨0,0⟩:az0),(⟨0,0⟩:az0)),((⟨0,0⟩:az0),(⟨0,0⟩:az0),(⟨0,0⟩:az0)),((⟨0,0⟩:az0),(⟨0,0⟩:az0),(⟨0,0⟩:az0))))
 (.cc (mzg 65536) fun g=>
 .cc (Az5 e) fun h=>
 .cc (Az7 e) fun i=>
 .cc (zz2 i) fun j=>
 .br (c==0)
 (.ret ((g,(⟨0,0⟩:az0),(⟨0,0⟩:az0)),((⟨0,0⟩:az0),h,j),((⟨0,0⟩:az0),i,h)))
 (.br (c==1)
 (.ret ((h,(⟨0,0⟩:az0),i),((⟨0,0⟩:az0),g,(⟨0,0⟩:az0)),(j,(⟨0,0⟩:az0),h)))
 (.br (c==2)
 (.ret ((h,j,(⟨0,0⟩:az0)),(i,h,(⟨0,0⟩:az0)),((⟨0,0⟩:az0),(⟨0,0⟩:az0),g)))
 (.ret (((⟨0,0⟩:az0),(⟨0,0⟩:az0),(⟨0,0⟩:az0)),((⟨0,0⟩:az0),(⟨0,0⟩:az0),(⟨0,0⟩:az0)),((⟨0,0⟩:az0),(⟨0,0⟩:az0),(⟨0,0⟩:az0)))))))
noncomputable def Izj (c)(d):=
 mkD Tryz.func282 (Bz6 c d) 0 [pz c,.pure (az7 d)] [] (fun r=>.pure (bz9 r)) (fun _=>[])
noncomputable def pz3 (c:Int)(d:az0):T azr:=
 .cc (Izj c (⟨d.Lo,d.Hi⟩:az0)) fun e=>
 .ret (⟨e,((⟨0,0⟩:az0),(⟨0,0⟩:az0),(⟨0,0⟩:az0))⟩:azr)
noncomputable def yz5 (c)(d):=
 mkD Tryz.func260 (pz3 c d) 0 [pz c,.pure (az7 d)] [] (fun r=>.pure (bzg r)) (fun _=>[])
noncomputable def yz3 (c:Ar):T azr:=
 .cc (ref1_Unit_C) fun d=>
 .ret (⟨d,c⟩:azr)
noncomputable def yz2 (c):=
 mkD Tryz.func261 (yz3 c) 0 [.pure (az2 c)] [] (fun r=>.pure (bzg r)) (fun _=>[])
noncomputable def yz1 (c:Al):T Ar:=
 .ix 0 3 rfl<|
 .cc (mzg c.1) fun d=>
 .ix 1 3 rfl<|
 .cc (mzg c.2.1) fun e=>
 .ix 2 3 rfl<|
 .cc (mzg c.2.2) fun f=>
 .ret (d,e,f)
noncomputable def yz0 (c):=
 mkD Tryz.func246 (yz1 c) 0 [.pure (az1 c)] [] (fun r=>.pure (az2 r)) (fun _=>[])
noncomputable def sz5 (c:Int)(d:Int):T az0:=
 .cc (mzf c) fun e=>
 .cc (mzf d) fun f=>
 .ret (⟨e,f⟩:az0)
noncomputable def sz4 (c)(d):=
 mkD Tryz.func298 (sz5 c d) 0 [pz c,pz d] [] (fun r=>.pure (az7 r)) (fun _=>[])
noncomputable def Ezo (c:az0)(d:az0):T az0:=let e:=i64.wrap (c.Lo * d.Lo);let f:=i64.wrap (c.Lo * d.Hi);let g:=i64.wrap (c.Hi * d.Lo);let h:=i64.wrap (c.Hi * d.Hi);.cut 2 (fun (i:Bool)=>⟨[(2,.ptr 0 0),(3,.ptr 1 0),(4,.ptr 2 0),(16,.pure (.bool i))],[(0,.box [pz c.Lo,pz c.Hi]),(1,.box [pz d.Lo,pz d.Hi]),(2,.box [pz 0,pz 0])],[],3⟩)
 (.cc (dzg (⟨c.Lo,c.Hi⟩:az0)) fun i=>
 .br (!i)
 (.oo true)
 (.cc (dzg (⟨d.Lo,d.Hi⟩:az0)) fun j=>
 .oo (!j))) fun i=>
 .br i
 (.ret (⟨0,0⟩:az0))
 (.name 4004 ((min (min (min e f) g) h)) fun j=>
 .cc (bz6 j 65536) fun k=>
 .name 4010 ((max (max (max e f) g) h)) fun m=>
 .cc (azu m 65536) fun n=>
 .cc (sz4 k n) fun s=>
 .ret s)
noncomputable def azx (c)(d):=
 mkD Tryz.func284 (Ezo c d) 0 [.pure (az7 c),.pure (az7 d)] [] (fun r=>.pure (az7 r)) (fun _=>[])
noncomputable def Ezg (c:az0)(d:az0):T az0:=
 .cut 2 (fun (e:Bool)=>⟨[(2,.ptr 0 0),(3,.ptr 1 0),(4,.ptr 2 0),(12,.pure (.bool e))],[(0,.box [pz c.Lo,pz c.Hi]),(1,.box [pz d.Lo,pz d.Hi]),(2,.box [pz 0,pz 0])],[],3⟩)
 (.cc (dzg c) fun e=>
 .br (!e)
 (.oo true)
 (.cc (dzg d) fun f=>
 .oo (!f))) fun e=>
 .br e
 (.ret (⟨0,0⟩:az0))
 (.cc (sz4 (i64.wrap (c.Lo+d.Lo)) (i64.wrap (c.Hi+d.Hi))) fun f=>
 .ret f)
noncomputable def bzf (c)(d):=
 mkD Tryz.func283 (Ezg c d) 0 [.pure (az7 c),.pure (az7 d)] [] (fun r=>.pure (az7 r)) (fun _=>[])
noncomputable def lzg (c:Av)(d:Av):T Av:=
 .unroll 4<|
 .known true<|
 .unroll 4<|
 .known true<|
 .ix 0 3 rfl<|
 .ix 0 3 rfl<|
 .ix 0 3 rfl<|
 .ix 0 3 rfl<|
 .cc (azx c.1.1 d.1.1) fun e=>
 .ix 0 3 rfl<|
 .ix 1 3 rfl<|
 .ix 1 3 rfl<|
 .ix 0 3 rfl<|
 .cc (azx c.1.2.1 d.2.1.1) fun f=>
 .cc (bzf e f) fun g=>
 .ix 0 3 rfl<|
 .ix 2 3 rfl<|
 .ix 2 3 rfl<|
 .ix 0 3 rfl<|
 .cc (azx c.1.2.2 d.2.2.1) fun h=>
 .cc (bzf g h) fun i=>
 .ix 0 3 rfl<|
 .ix 0 3 rfl<|
 .lit 7001 (1)<|
 .known true<|
 .ix 0 3 rfl<|
 .ix 0 3 rfl<|
 .ix 0 3 rfl<|
 .ix 1 3 rfl<|
 .cc (azx c.1.1 d.1.2.1) fun j=>
 .ix 0 3 rfl<|
 .ix 1 3 rfl<|
 .ix 1 3 rfl<|
 .ix 1 3 rfl<|
 .cc (azx c.1.2.1 d.2.1.2.1) fun k=>
 .cc (bzf j k) fun m=>
 .ix 0 3 rfl<|
 .ix 2 3 rfl<|
 .ix 2 3 rfl<|
 .ix 1 3 rfl<|
 .cc (azx c.1.2.2 d.2.2.2.1) fun n=>
 .cc (bzf m n) fun s=>
 .ix 0 3 rfl<|
 .ix 1 3 rfl<|
 .lit 7001 (2)<|
 .known true<|
 .ix 0 3 rfl<|
 .ix 0 3 rfl<|
 .ix 0 3 rfl<|
 .ix 2 3 rfl<|
 .cc (azx c.1.1 d.1.2.2) fun t=>
 .ix 0 3 rfl<|
 .ix 1 3 rfl<|
 .ix 1 3 rfl<|
 .ix 2 3 rfl<|
 .cc (azx c.1.2.1 d.2.1.2.2) fun w=>
 .cc (bzf t w) fun y=>
 .ix 0 3 rfl<|
 .ix 2 3 rfl<|
 .ix 2 3 rfl<|
 .ix 2 3 rfl<|
 .cc (azx c.1.2.2 d.2.2.2.2) fun z=>
 .cc (bzf y z) fun aa=>
 .ix 0 3 rfl<|
 .ix 2 3 rfl<|
 .lit 7001 (3)<|
 .known false<|
 .lit 4001 (1)<|
 .known true<|
 .unroll 4<|
 .known true<|
 .ix 1 3 rfl<|
 .ix 0 3 rfl<|
 .ix 0 3 rfl<|
 .ix 0 3 rfl<|
 .cc (azx c.2.1.1 d.1.1) fun ab=>
 .ix 1 3 rfl<|
 .ix 1 3 rfl<|
 .ix 1 3 rfl<|
 .ix 0 3 rfl<|
 .cc (azx c.2.1.2.1 d.2.1.1) fun ac=>
 .cc (bzf ab ac) fun ad=>
 .ix 1 3 rfl<|
 .ix 2 3 rfl<|
 .ix 2 3 rfl<|
 .ix 0 3 rfl<|
 .cc (azx c.2.1.2.2 d.2.2.1) fun ae=>
 .cc (bzf ad ae) fun af=>
 .ix 1 3 rfl<|
 .ix 0 3 rfl<|
 .lit 7001 (1)<|
 .known true<|
 .ix 1 3 rfl<|
 .ix 0 3 rfl<|
 .ix 0 3 rfl<|
 .ix 1 3 rfl<|
 .cc (azx c.2.1.1 d.1.2.1) fun ag=>
 .ix 1 3 rfl<|
 .ix 1 3 rfl<|
 .ix 1 3 rfl<|
 .ix 1 3 rfl<|
 .cc (azx c.2.1.2.1 d.2.1.2.1) fun ah=>
 .cc (bzf ag ah) fun ai=>
 .ix 1 3 rfl<|
 .ix 2 3 rfl<|
 .ix 2 3 rfl<|
 .ix 1 3 rfl<|
 .cc (azx c.2.1.2.2 d.2.2.2.1) fun aj=>
 .cc (bzf ai aj) fun ak=>
 .ix 1 3 rfl<|
 .ix 1 3 rfl<|
 .lit 7001 (2)<|
 .known true<|
 .ix 1 3 rfl<|
 .ix 0 3 rfl<|
 .ix 0 3 rfl<|
 .ix 2 3 rfl<|
 .cc (azx c.2.1.1 d.1.2.2) fun al=>
 .ix 1 3 rfl<|
 .ix 1 3 rfl<|
 .ix 1 3 rfl<|
 .ix 2 3 rfl<|
 .cc (azx c.2.1.2.1 d.2.1.2.2) fun am=>
 .cc (bzf al am) fun an=>
 .ix 1 3 rfl<|
 .ix 2 3 rfl<|
 .ix 2 3 rfl<|
 .ix 2 3 rfl<|
 .cc (azx c.2.1.2.2 d.2.2.2.2) fun ao=>
 .cc (bzf an ao) fun ap=>
 .ix 1 3 rfl<|
 .ix 2 3 rfl<|
 .lit 7001 (3)<|
 .known false<|
 .lit 4001 (2)<|
 .known true<|
 .unroll 4<|
 .known true<|
 .ix 2 3 rfl<|
 .ix 0 3 rfl<|
 .ix 0 3 rfl<|
 .ix 0 3 rfl<|
 .cc (azx c.2.2.1 d.1.1) fun aq=>
 .ix 2 3 rfl<|
 .ix 1 3 rfl<|
 .ix 1 3 rfl<|
 .ix 0 3 rfl<|
 .cc (azx c.2.2.2.1 d.2.1.1) fun ar=>
 .cc (bzf aq ar) fun au=>
 .ix 2 3 rfl<|
 .ix 2 3 rfl<|
 .ix 2 3 rfl<|
 .ix 0 3 rfl<|
 .cc (azx c.2.2.2.2 d.2.2.1) fun av=>
 .cc (bzf au av) fun aw=>
 .ix 2 3 rfl<|
 .ix 0 3 rfl<|
 .lit 7001 (1)<|
 .known true<|
 .ix 2 3 rfl<|
 .ix 0 3 rfl<|
 .ix 0 3 rfl<|
 .ix 1 3 rfl<|
 .cc (azx c.2.2.1 d.1.2.1) fun ax=>
 .ix 2 3 rfl<|
 .ix 1 3 rfl<|
 .ix 1 3 rfl<|
 .ix 1 3 rfl<|
 .cc (azx c.2.2.2.1 d.2.1.2.1) fun ay=>
 .cc (bzf ax ay) fun az=>
 .ix 2 3 rfl<|
 .ix 2 3 rfl<|
 .ix 2 3 rfl<|
 .ix 1 3 rfl<|
 .cc (azx c.2.2.2.2 d.2.2.2.1) fun a0=>
 .cc (bzf az a0) fun a1=>
 .ix 2 3 rfl<|
 .ix 1 3 rfl<|
 .lit 7001 (2)<|
 .known true<|
 .ix 2 3 rfl<|
 .ix 0 3 rfl<|
 .ix 0 3 rfl<|
 .ix 2 3 rfl<|
 .cc (azx c.2.2.1 d.1.2.2) fun a2=>
 .ix 2 3 rfl<|
 .ix 1 3 rfl<|
 .ix 1 3 rfl<|
 .ix 2 3 rfl<|
 .cc (azx c.2.2.2.1 d.2.1.2.2) fun a3=>
 .cc (bzf a2 a3) fun a4=>
 .ix 2 3 rfl<|
 .ix 2 3 rfl<|
 .ix 2 3 rfl<|
 .ix 2 3 rfl<|
 .cc (azx c.2.2.2.2 d.2.2.2.2) fun a5=>
 .cc (bzf a4 a5) fun a6=>
 .ix 2 3 rfl<|
 .ix 2 3 rfl<|
 .lit 7001 (3)<|
 .known false<|
 .lit 4001 (3)<|
 .known false<|
 .ret (((⟨(max (-65536) (min i.Lo 65536)),(max (-65536) (min i.Hi 65536))⟩:az0),(⟨(max (-65536) (min s.Lo 65536)),(max (-65536) (min s.Hi 65536))⟩:az0),(⟨(max (-65536) (min aa.Lo 65536)),(max (-65536) (min aa.Hi 65536))⟩:az0)),((⟨(max (-65536) (min af.Lo 65536)),(max (-65536) (min af.Hi 65536))⟩:az0),(⟨(max (-65536) (min ak.Lo 65536)),(max (-65536) (min ak.Hi 65536))⟩:az0),(⟨(max (-65536) (min ap.Lo 65536)),(max (-65536) (min ap.Hi 65536))⟩:az0)),((⟨(max (-65536) (min aw.Lo 65536)),(max (-65536) (min aw.Hi 65536))⟩:az0),(⟨(max (-65536) (min a1.Lo 65536)),(max (-65536) (min a1.Hi 65536))⟩:az0),(⟨(max (-65536) (min a6.Lo 65536)),(max (-65536) (min a6.Hi 65536))⟩:az0)))
noncomputable def tz4 (c)(d):=
 mkD Tryz.func262 (lzg c d) 0 [.pure (bz9 c),.pure (bz9 d)] [] (fun r=>.pure (bz9 r)) (fun _=>[])
noncomputable def pz1 (c:Av)(d:Ar):T Ar:=
 .unroll 4<|
 .known true<|
 .ix 0 3 rfl<|
 .ix 0 3 rfl<|
 .ix 0 3 rfl<|
 .cc (azx c.1.1 d.1) fun e=>
 .ix 0 3 rfl<|
 .ix 1 3 rfl<|
 .ix 1 3 rfl<|
 .cc (azx c.1.2.1 d.2.1) fun f=>
 .cc (bzf e f) fun g=>
 .ix 0 3 rfl<|
 .ix 2 3 rfl<|
 .ix 2 3 rfl<|
 .cc (azx c.1.2.2 d.2.2) fun h=>
 .cc (bzf g h) fun i=>
 .ix 0 3 rfl<|
 .lit 4001 (1)<|
 .known true<|
 .ix 1 3 rfl<|
 .ix 0 3 rfl<|
 .ix 0 3 rfl<|
 .cc (azx c.2.1.1 d.1) fun j=>
 .ix 1 3 rfl<|
 .ix 1 3 rfl<|
 .ix 1 3 rfl<|
 .cc (azx c.2.1.2.1 d.2.1) fun k=>
 .cc (bzf j k) fun m=>
 .ix 1 3 rfl<|
 .ix 2 3 rfl<|
 .ix 2 3 rfl<|
 .cc (azx c.2.1.2.2 d.2.2) fun n=>
 .cc (bzf m n) fun s=>
 .ix 1 3 rfl<|
 .lit 4001 (2)<|
 .known true<|
 .ix 2 3 rfl<|
 .ix 0 3 rfl<|
 .ix 0 3 rfl<|
 .cc (azx c.2.2.1 d.1) fun t=>
 .ix 2 3 rfl<|
 .ix 1 3 rfl<|
 .ix 1 3 rfl<|
 .cc (azx c.2.2.2.1 d.2.1) fun w=>
 .cc (bzf t w) fun y=>
 .ix 2 3 rfl<|
 .ix 2 3 rfl<|
 .ix 2 3 rfl<|
 .cc (azx c.2.2.2.2 d.2.2) fun z=>
 .cc (bzf y z) fun aa=>
 .ix 2 3 rfl<|
 .lit 4001 (3)<|
 .known false<|
 .ret (i,s,aa)
noncomputable def pz0 (c)(d):=
 mkD Tryz.func264 (pz1 c d) 0 [.pure (bz9 c),.pure (az2 d)] [] (fun r=>.pure (az2 r)) (fun _=>[])
noncomputable def uzz (c:Ar)(d:Ar):T Ar:=
 .ix 0 3 rfl<|
 .ix 0 3 rfl<|
 .cc (bzf c.1 d.1) fun e=>
 .ix 1 3 rfl<|
 .ix 1 3 rfl<|
 .cc (bzf c.2.1 d.2.1) fun f=>
 .ix 2 3 rfl<|
 .ix 2 3 rfl<|
 .cc (bzf c.2.2 d.2.2) fun g=>
 .ret (e,f,g)
noncomputable def uzy (c)(d):=
 mkD Tryz.func263 (uzz c d) 0 [.pure (az2 c),.pure (az2 d)] [] (fun r=>.pure (az2 r)) (fun _=>[])
noncomputable def rzz (c:azr)(d:azr):T azr:=
 .cc (tz4 c.R d.R) fun e=>
 .cc (pz0 c.R d.T) fun f=>
 .cc (uzy c.T (f.1,f.2.1,f.2.2)) fun g=>
 .ret (⟨(e.1,e.2.1,e.2.2),g⟩:azr)
noncomputable def rzy (c)(d):=
 mkD Tryz.func242 (rzz c d) 0 [.pure (bzg c),.pure (bzg d)] [] (fun r=>.pure (bzg r)) (fun _=>[])
set_option maxHeartbeats 8000000 in
set_option maxRecDepth 20000 in
noncomputable def uzh (c:azt)(d:az0):T azr:=let e:=i64.wrap (c.Kind-4);let f:Nat×Res:=(1,.box [pz d.Lo,pz d.Hi]);let g:Nat×Res:=(0,.box [.pure (.str c.Name),pz c.Kind,pz c.Parent,pz c.Offset.1,pz c.Offset.2.1,pz c.Offset.2.2,pz c.Lo,pz c.Hi,pz c.Weight,pz c.Speed,pz c.Accel,pz c.Torque]);.cc (ref1_Rest_C) fun h=>let i:Nat×Res:=(3,.box [pz h.R.1.1.Lo,pz h.R.1.1.Hi,pz h.R.1.2.1.Lo,pz h.R.1.2.1.Hi,pz h.R.1.2.2.Lo,pz h.R.1.2.2.Hi,pz h.R.2.1.1.Lo,pz h.R.2.1.1.Hi,pz h.R.2.1.2.1.Lo,pz h.R.2.1.2.1.Hi,pz h.R.2.1.2.2.Lo,pz h.R.2.1.2.2.Hi,pz h.R.2.2.1.Lo,pz h.R.2.2.1.Hi,pz h.R.2.2.2.1.Lo,pz h.R.2.2.2.1.Hi,pz h.R.2.2.2.2.Lo,pz h.R.2.2.2.2.Hi,pz h.T.1.Lo,pz h.T.1.Hi,pz h.T.2.1.Lo,pz h.T.2.1.Hi,pz h.T.2.2.Lo,pz h.T.2.2.Hi]);
 .cut 0 (fun (j:B7)=>⟨[(2,.ptr 0 0),(4,.ptr 1 0),(5,.ptr 2 0)],[g,(1,.box [pz 0,pz 0,pz 0,pz 0,pz 0,pz 0,pz 0,pz 0,pz 0,pz 0,pz 0,pz 0,pz 0,pz 0,pz 0,pz 0,pz 0,pz 0,pz 0,pz 0,pz 0,pz 0,pz 0,pz 0]),(2,.box [pz j.1,pz j.2.1,pz j.2.2.1,pz j.2.2.2.1,pz j.2.2.2.2.1,pz j.2.2.2.2.2.1,pz j.2.2.2.2.2.2.1,pz j.2.2.2.2.2.2.2.1,pz j.2.2.2.2.2.2.2.2.1,pz j.2.2.2.2.2.2.2.2.2.1,pz j.2.2.2.2.2.2.2.2.2.2.1,pz j.2.2.2.2.2.2.2.2.2.2.2.1,pz j.2.2.2.2.2.2.2.2.2.2.2.2.1,pz j.2.2.2.2.2.2.2.2.2.2.2.2.2.1,pz j.2.2.2.2.2.2.2.2.2.2.2.2.2.2.1,pz j.2.2.2.2.2.2.2.2.2.2.2.2.2.2.2.1,pz j.2.2.2.2.2.2.2.2.2.2.2.2.2.2.2.2.1,pz j.2.2.2.2.2.2.2.2.2.2.2.2.2.2.2.2.2.1,pz j.2.2.2.2.2.2.2.2.2.2.2.2.2.2.2.2.2.2.1,pz j.2.2.2.2.2.2.2.2.2.2.2.2.2.2.2.2.2.2.2.1,pz j.2.2.2.2.2.2.2.2.2.2.2.2.2.2.2.2.2.2.2.2.1,pz j.2.2.2.2.2.2.2.2.2.2.2.2.2.2.2.2.2.2.2.2.2.1,pz j.2.2.2.2.2.2.2.2.2.2.2.2.2.2.2.2.2.2.2.2.2.2.1,pz j.2.2.2.2.2.2.2.2.2.2.2.2.2.2.2.2.2.2.2.2.2.2.2])],[],3⟩)
 (.cut 1 (fun (j:Bool)=>⟨[(2,.ptr 0 0),(3,.ptr 1 0),(4,.ptr 2 0),(5,.ptr 3 0),(9,pz c.Kind),(10,.pure (.bool j))],[g,f,(2,.box [pz 0,pz 0,pz 0,pz 0,pz 0,pz 0,pz 0,pz 0,pz 0,pz 0,pz 0,pz 0,pz 0,pz 0,pz 0,pz 0,pz 0,pz 0,pz 0,pz 0,pz 0,pz 0,pz 0,pz 0]),i],[],4⟩)
 (.br (c.Kind==1)
 (.oo (c.Kind==1))
 (.br (c.Kind==2)
 (.oo (c.Kind==2))
 (.oo (c.Kind==3)))) fun j=>
 .br j
 (.cc (yz5 (i64.wrap (c.Kind-1)) (⟨d.Lo,d.Hi⟩:az0)) fun k=>
 .oo (k.R.1.1.Lo,k.R.1.1.Hi,k.R.1.2.1.Lo,k.R.1.2.1.Hi,k.R.1.2.2.Lo,k.R.1.2.2.Hi,k.R.2.1.1.Lo,k.R.2.1.1.Hi,k.R.2.1.2.1.Lo,k.R.2.1.2.1.Hi,k.R.2.1.2.2.Lo,k.R.2.1.2.2.Hi,k.R.2.2.1.Lo,k.R.2.2.1.Hi,k.R.2.2.2.1.Lo,k.R.2.2.2.1.Hi,k.R.2.2.2.2.Lo,k.R.2.2.2.2.Hi,k.T.1.Lo,k.T.1.Hi,k.T.2.1.Lo,k.T.2.1.Hi,k.T.2.2.Lo,k.T.2.2.Hi))
 (.cut 0 (fun (k:Bool)=>⟨[(2,.ptr 0 0),(3,.ptr 1 0),(4,.ptr 2 0),(5,.ptr 3 0),(19,.pure (.bool k))],[g,f,(2,.box [pz 0,pz 0,pz 0,pz 0,pz 0,pz 0,pz 0,pz 0,pz 0,pz 0,pz 0,pz 0,pz 0,pz 0,pz 0,pz 0,pz 0,pz 0,pz 0,pz 0,pz 0,pz 0,pz 0,pz 0]),i],[],4⟩)
 (.br (c.Kind==4)
 (.oo (c.Kind==4))
 (.br (c.Kind==5)
 (.oo (c.Kind==5))
 (.oo (c.Kind==6)))) fun k=>
 .br k
 (.cut 1 (fun (m:B2)=>⟨[(2,.ptr 0 0),(4,.ptr 1 0),(5,.ptr 2 0),(6,.ptr 3 0)],[g,(1,.box [pz 0,pz 0,pz 0,pz 0,pz 0,pz 0,pz 0,pz 0,pz 0,pz 0,pz 0,pz 0,pz 0,pz 0,pz 0,pz 0,pz 0,pz 0,pz 0,pz 0,pz 0,pz 0,pz 0,pz 0]),(2,.box [pz h.R.1.1.Lo,pz h.R.1.1.Hi,pz h.R.1.2.1.Lo,pz h.R.1.2.1.Hi,pz h.R.1.2.2.Lo,pz h.R.1.2.2.Hi,pz h.R.2.1.1.Lo,pz h.R.2.1.1.Hi,pz h.R.2.1.2.1.Lo,pz h.R.2.1.2.1.Hi,pz h.R.2.1.2.2.Lo,pz h.R.2.1.2.2.Hi,pz h.R.2.2.1.Lo,pz h.R.2.2.1.Hi,pz h.R.2.2.2.1.Lo,pz h.R.2.2.2.1.Hi,pz h.R.2.2.2.2.Lo,pz h.R.2.2.2.2.Hi,pz h.T.1.Lo,pz h.T.1.Hi,pz h.T.2.1.Lo,pz h.T.2.1.Hi,pz h.T.2.2.Lo,pz h.T.2.2.Hi]),(3,.box [pz m.1,pz m.2.1,pz m.2.2.1,pz m.2.2.2.1,pz m.2.2.2.2.1,pz m.2.2.2.2.2])],[],4⟩)
 (.cas 11002 e 0
 (.ix 0 3 rfl<|
 .oo (d.Lo,d.Hi,0,0,0,0))
 (.cas 11002 e 1
 (.ix 1 3 rfl<|
 .oo (0,0,d.Lo,d.Hi,0,0))
 (.cas 11002 e 2
 (.ix 2 3 rfl<|
 .oo (0,0,0,0,d.Lo,d.Hi))
 (.stop)))) fun m=>
 .cc (yz2 ((⟨m.1,m.2.1⟩:az0),(⟨m.2.2.1,m.2.2.2.1⟩:az0),(⟨m.2.2.2.2.1,m.2.2.2.2.2⟩:az0))) fun n=>
 .oo (n.R.1.1.Lo,n.R.1.1.Hi,n.R.1.2.1.Lo,n.R.1.2.1.Hi,n.R.1.2.2.Lo,n.R.1.2.2.Hi,n.R.2.1.1.Lo,n.R.2.1.1.Hi,n.R.2.1.2.1.Lo,n.R.2.1.2.1.Hi,n.R.2.1.2.2.Lo,n.R.2.1.2.2.Hi,n.R.2.2.1.Lo,n.R.2.2.1.Hi,n.R.2.2.2.1.Lo,n.R.2.2.2.1.Hi,n.R.2.2.2.2.Lo,n.R.2.2.2.2.Hi,n.T.1.Lo,n.T.1.Hi,n.T.2.1.Lo,n.T.2.1.Hi,n.T.2.2.Lo,n.T.2.2.Hi))
 (.oo (h.R.1.1.Lo,h.R.1.1.Hi,h.R.1.2.1.Lo,h.R.1.2.1.Hi,h.R.1.2.2.Lo,h.R.1.2.2.Hi,h.R.2.1.1.Lo,h.R.2.1.1.Hi,h.R.2.1.2.1.Lo,h.R.2.1.2.1.Hi,h.R.2.1.2.2.Lo,h.R.2.1.2.2.Hi,h.R.2.2.1.Lo,h.R.2.2.1.Hi,h.R.2.2.2.1.Lo,h.R.2.2.2.1.Hi,h.R.2.2.2.2.Lo,h.R.2.2.2.2.Hi,h.T.1.Lo,h.T.1.Hi,h.T.2.1.Lo,h.T.2.1.Hi,h.T.2.2.Lo,h.T.2.2.Hi)))) fun j=>
 .cc (yz0 c.Offset) fun k=>
 .cc (yz2 k) fun m=>
 .cc (rzy (⟨m.R,m.T⟩:azr) (⟨(((⟨j.1,j.2.1⟩:az0),(⟨j.2.2.1,j.2.2.2.1⟩:az0),(⟨j.2.2.2.2.1,j.2.2.2.2.2.1⟩:az0)),((⟨j.2.2.2.2.2.2.1,j.2.2.2.2.2.2.2.1⟩:az0),(⟨j.2.2.2.2.2.2.2.2.1,j.2.2.2.2.2.2.2.2.2.1⟩:az0),(⟨j.2.2.2.2.2.2.2.2.2.2.1,j.2.2.2.2.2.2.2.2.2.2.2.1⟩:az0)),((⟨j.2.2.2.2.2.2.2.2.2.2.2.2.1,j.2.2.2.2.2.2.2.2.2.2.2.2.2.1⟩:az0),(⟨j.2.2.2.2.2.2.2.2.2.2.2.2.2.2.1,j.2.2.2.2.2.2.2.2.2.2.2.2.2.2.2.1⟩:az0),(⟨j.2.2.2.2.2.2.2.2.2.2.2.2.2.2.2.2.1,j.2.2.2.2.2.2.2.2.2.2.2.2.2.2.2.2.2.1⟩:az0))),((⟨j.2.2.2.2.2.2.2.2.2.2.2.2.2.2.2.2.2.2.1,j.2.2.2.2.2.2.2.2.2.2.2.2.2.2.2.2.2.2.2.1⟩:az0),(⟨j.2.2.2.2.2.2.2.2.2.2.2.2.2.2.2.2.2.2.2.2.1,j.2.2.2.2.2.2.2.2.2.2.2.2.2.2.2.2.2.2.2.2.2.1⟩:az0),(⟨j.2.2.2.2.2.2.2.2.2.2.2.2.2.2.2.2.2.2.2.2.2.2.1,j.2.2.2.2.2.2.2.2.2.2.2.2.2.2.2.2.2.2.2.2.2.2.2⟩:az0))⟩:azr)) fun n=>
 .ret n
noncomputable def Czh (c)(d):=
 mkD Tryz.func241 (uzh c d) 0 [.pure (azd c),.pure (az7 d)] [] (fun r=>.pure (bzg r)) (fun _=>[])
set_option maxHeartbeats 8000000 in
set_option maxRecDepth 20000 in
noncomputable def uzj (c:azm)(d:A7):T Aa:=let e:=encL 2 az7 d;let f:Nat×Res:=(0,.box [.pure (encL 12 azd c.Joints),.pure (encL 5 azg c.Masses)]);.cut 2 (fun (g:Bool)=>⟨[(1,.pure e),(2,.ptr 0 0),(16,.pure (.bool g))],[f],[],1⟩)
 (.cc (dzl c) fun g=>
 .br (g !=0)
 (.oo true)
 (.cc (nzq c d) fun h=>
 .oo (!h))) fun g=>
 .br g
 (.ret nl)
 (.loop (fun (h:(Aa×Int))=>⟨[(1,.pure e),(2,.ptr 0 0),(5,.vec 1),(6,pz h.2)],[f,(1,vecO 24 bzg h.1 256)],[],2⟩)
 (.exit 0) (fun (h:Aa)=>⟨[(5,.vec 0)],[(0,vecO 24 bzg h 256)],[],1⟩)
 (fun h=>let i:=(h.2).toNat;let j:=c.Joints.getD i default;let k:=j.Parent;.br (decide (h.2<(d.length:Int)))
 (.gh h.2 c.Joints.length<|
 .gh h.2 d.length<|
 .cc (Czh j (d.getD i default)) fun m=>
 .cut 0 (fun (n:B7)=>⟨[(1,.pure e),(2,.ptr 0 0),(5,.vec 1),(6,pz h.2),(7,.ptr 2 0)],[f,(1,vecO 24 bzg h.1 256),(2,.box [pz n.1,pz n.2.1,pz n.2.2.1,pz n.2.2.2.1,pz n.2.2.2.2.1,pz n.2.2.2.2.2.1,pz n.2.2.2.2.2.2.1,pz n.2.2.2.2.2.2.2.1,pz n.2.2.2.2.2.2.2.2.1,pz n.2.2.2.2.2.2.2.2.2.1,pz n.2.2.2.2.2.2.2.2.2.2.1,pz n.2.2.2.2.2.2.2.2.2.2.2.1,pz n.2.2.2.2.2.2.2.2.2.2.2.2.1,pz n.2.2.2.2.2.2.2.2.2.2.2.2.2.1,pz n.2.2.2.2.2.2.2.2.2.2.2.2.2.2.1,pz n.2.2.2.2.2.2.2.2.2.2.2.2.2.2.2.1,pz n.2.2.2.2.2.2.2.2.2.2.2.2.2.2.2.2.1,pz n.2.2.2.2.2.2.2.2.2.2.2.2.2.2.2.2.2.1,pz n.2.2.2.2.2.2.2.2.2.2.2.2.2.2.2.2.2.2.1,pz n.2.2.2.2.2.2.2.2.2.2.2.2.2.2.2.2.2.2.2.1,pz n.2.2.2.2.2.2.2.2.2.2.2.2.2.2.2.2.2.2.2.2.1,pz n.2.2.2.2.2.2.2.2.2.2.2.2.2.2.2.2.2.2.2.2.2.1,pz n.2.2.2.2.2.2.2.2.2.2.2.2.2.2.2.2.2.2.2.2.2.2.1,pz n.2.2.2.2.2.2.2.2.2.2.2.2.2.2.2.2.2.2.2.2.2.2.2])],[],3⟩)
 (.gh h.2 c.Joints.length<|
 .br (k !=(-1))
 (.gh h.2 c.Joints.length<|
 .gg k h.1.length<|
 .call (rzy (h.1.getD (k.toNat) default) m) [] fun n=>
 .oo (n.R.1.1.Lo,n.R.1.1.Hi,n.R.1.2.1.Lo,n.R.1.2.1.Hi,n.R.1.2.2.Lo,n.R.1.2.2.Hi,n.R.2.1.1.Lo,n.R.2.1.1.Hi,n.R.2.1.2.1.Lo,n.R.2.1.2.1.Hi,n.R.2.1.2.2.Lo,n.R.2.1.2.2.Hi,n.R.2.2.1.Lo,n.R.2.2.1.Hi,n.R.2.2.2.1.Lo,n.R.2.2.2.1.Hi,n.R.2.2.2.2.Lo,n.R.2.2.2.2.Hi,n.T.1.Lo,n.T.1.Hi,n.T.2.1.Lo,n.T.2.1.Hi,n.T.2.2.Lo,n.T.2.2.Hi))
 (.oo (m.R.1.1.Lo,m.R.1.1.Hi,m.R.1.2.1.Lo,m.R.1.2.1.Hi,m.R.1.2.2.Lo,m.R.1.2.2.Hi,m.R.2.1.1.Lo,m.R.2.1.1.Hi,m.R.2.1.2.1.Lo,m.R.2.1.2.1.Hi,m.R.2.1.2.2.Lo,m.R.2.1.2.2.Hi,m.R.2.2.1.Lo,m.R.2.2.1.Hi,m.R.2.2.2.1.Lo,m.R.2.2.2.1.Hi,m.R.2.2.2.2.Lo,m.R.2.2.2.2.Hi,m.T.1.Lo,m.T.1.Hi,m.T.2.1.Lo,m.T.2.1.Hi,m.T.2.2.Lo,m.T.2.2.Hi))) fun n=>let s:=([(⟨(((⟨n.1,n.2.1⟩:az0),(⟨n.2.2.1,n.2.2.2.1⟩:az0),(⟨n.2.2.2.2.1,n.2.2.2.2.2.1⟩:az0)),((⟨n.2.2.2.2.2.2.1,n.2.2.2.2.2.2.2.1⟩:az0),(⟨n.2.2.2.2.2.2.2.2.1,n.2.2.2.2.2.2.2.2.2.1⟩:az0),(⟨n.2.2.2.2.2.2.2.2.2.2.1,n.2.2.2.2.2.2.2.2.2.2.2.1⟩:az0)),((⟨n.2.2.2.2.2.2.2.2.2.2.2.2.1,n.2.2.2.2.2.2.2.2.2.2.2.2.2.1⟩:az0),(⟨n.2.2.2.2.2.2.2.2.2.2.2.2.2.2.1,n.2.2.2.2.2.2.2.2.2.2.2.2.2.2.2.1⟩:az0),(⟨n.2.2.2.2.2.2.2.2.2.2.2.2.2.2.2.2.1,n.2.2.2.2.2.2.2.2.2.2.2.2.2.2.2.2.2.1⟩:az0))),((⟨n.2.2.2.2.2.2.2.2.2.2.2.2.2.2.2.2.2.2.1,n.2.2.2.2.2.2.2.2.2.2.2.2.2.2.2.2.2.2.2.1⟩:az0),(⟨n.2.2.2.2.2.2.2.2.2.2.2.2.2.2.2.2.2.2.2.2.1,n.2.2.2.2.2.2.2.2.2.2.2.2.2.2.2.2.2.2.2.2.2.1⟩:az0),(⟨n.2.2.2.2.2.2.2.2.2.2.2.2.2.2.2.2.2.2.2.2.2.2.1,n.2.2.2.2.2.2.2.2.2.2.2.2.2.2.2.2.2.2.2.2.2.2.2⟩:az0))⟩:azr)]:Aa);let t:=h.1.length+s.length;
 .conv 10002 (cz5 24 bzg s 256)<|
 .conv 10003 (dzi 24 bzg h.1 s 256)<|
 .grd (t * 192≤140737488355328/\t≤maxLen)<|
 .nn ((h.1++s),(i64.wrap (h.2+1))))
 (.oo h.1))
 (nl,0) [] fun h=>
 .ret h)
noncomputable def Czj (c)(d):=
 mkD Tryz.func210 (uzj c d) 0 [.pure (dzb c),.pure (encL 2 az7 d)] [] (fun r=>.pure (encL 24 bzg r)) (fun _=>[])
noncomputable def kz5 (c:azw):T Bool:=let d:=(c.Points.length:Int);let e:Nat×Res:=(0,.box [pz c.Link,pz c.Radius,.pure (encL 3 az1 c.Points)]);.cut 2 (fun (f:Bool)=>⟨[(1,.ptr 0 0),(23,.pure (.bool f))],[e],[],1⟩)
 (.br (decide (c.Radius<1))
 (.oo true)
 (.br (decide (c.Radius>1048576))
 (.oo true)
 (.br (decide (d<1))
 (.oo true)
 (.oo (decide (d>8)))))) fun f=>
 .br f
 (.ret false)
 (.loop (fun (g:Int)=>⟨[(1,.ptr 0 0),(3,pz g)],[e],[],1⟩)
 (.exit 0) (fun (_:U0)=>⟨[],[],[],0⟩)
 (fun g=>.br (decide (g<d))
 (.gh g c.Points.length<|
 .cc (fzb (c.Points.getD (g.toNat) default) 4194304) fun h=>
 .br (!h)
 (.ff false)
 (.nn (i64.wrap (g+1))))
 (.oo .u))
 0 [] fun _=>
 .ret true)
noncomputable def qz7 (c):=
 mkD Tryz.func244 (kz5 c) 0 [.pure (azh c)] [] (fun r=>.pure (.bool r)) (fun _=>[])
noncomputable def xzx (c:azr)(d:Ar):T Ar:=
 .cc (pz0 c.R d) fun e=>
 .cc (uzy c.T e) fun f=>
 .ret f
noncomputable def Fzn (c)(d):=
 mkD Tryz.func245 (xzx c d) 0 [.pure (bzg c),.pure (az2 d)] [] (fun r=>.pure (az2 r)) (fun _=>[])
noncomputable def uzm (c:azw)(d:azr):T As:=
 .cc (qz7 c) fun e=>
 .br (!e)
 (.ret nl)
 (.loop (fun (f:(As×Int))=>⟨[(2,.ptr 0 0),(3,.ptr 1 0),(5,.vec 2),(6,pz f.2)],[(0,.box [pz c.Link,pz c.Radius,.pure (encL 3 az1 c.Points)]),(1,.box [pz d.R.1.1.Lo,pz d.R.1.1.Hi,pz d.R.1.2.1.Lo,pz d.R.1.2.1.Hi,pz d.R.1.2.2.Lo,pz d.R.1.2.2.Hi,pz d.R.2.1.1.Lo,pz d.R.2.1.1.Hi,pz d.R.2.1.2.1.Lo,pz d.R.2.1.2.1.Hi,pz d.R.2.1.2.2.Lo,pz d.R.2.1.2.2.Hi,pz d.R.2.2.1.Lo,pz d.R.2.2.1.Hi,pz d.R.2.2.2.1.Lo,pz d.R.2.2.2.1.Hi,pz d.R.2.2.2.2.Lo,pz d.R.2.2.2.2.Hi,pz d.T.1.Lo,pz d.T.1.Hi,pz d.T.2.1.Lo,pz d.T.2.1.Hi,pz d.T.2.2.Lo,pz d.T.2.2.Hi]),(2,vecO 6 az2 f.1 229)],[],3⟩)
 (.exit 0) (fun (f:As)=>⟨[(5,.vec 0)],[(0,vecO 6 az2 f 229)],[],1⟩)
 (fun f=>.br (decide (f.2<(c.Points.length:Int)))
 (.gh f.2 c.Points.length<|
 .cc (yz0 (c.Points.getD ((f.2).toNat) default)) fun g=>
 .cc (Fzn (⟨d.R,d.T⟩:azr) g) fun h=>let i:=([h]:As);let j:=f.1.length+i.length;
 .conv 7009 (cz5 6 az2 i 229)<|
 .conv 7010 (dzi 6 az2 f.1 i 229)<|
 .grd (j * 48≤140737488355328/\j≤maxLen)<|
 .nn ((f.1++i),(i64.wrap (f.2+1))))
 (.oo f.1))
 (nl,0) [] fun f=>
 .ret f)
noncomputable def Czk (c)(d):=
 mkD Tryz.func212 (uzm c d) 0 [.pure (azh c),.pure (bzg d)] [] (fun r=>.pure (encL 6 az2 r)) (fun _=>[])
set_option maxHeartbeats 8000000 in
set_option maxRecDepth 20000 in
noncomputable def rzo (c:azb)(d:A7):T Au:=let e:Nat×Res:=(0,.box [.pure (encL 12 azd c.Robot.Joints),.pure (encL 5 azg c.Robot.Masses),.pure (encL 3 azh c.Shapes),.pure (encL 2 azo c.Skips)]);.cut 2 (fun (f:Bool)=>⟨[(1,.pure (encL 2 az7 d)),(2,.ptr 0 0),(18,.pure (.bool f))],[e],[],1⟩)
 (.cc (ezo c) fun f=>
 .br (f !=0)
 (.oo true)
 (.cc (nzq c.Robot d) fun g=>
 .oo (!g))) fun f=>
 .br f
 (.ret nl)
 (.cc (Czj c.Robot d) fun g=>let h:=encL 24 bzg g;
 .loop (fun (i:(Au×Int))=>⟨[(2,.ptr 0 0),(5,.pure h),(6,.vec 1),(7,pz i.2)],[e,(1,vecO 1 (encL 6 az2) i.1 176)],[],2⟩)
 (.exit 0) (fun (i:Au)=>⟨[(6,.vec 0)],[(0,vecO 1 (encL 6 az2) i 176)],[],1⟩)
 (fun i=>let j:=c.Shapes.getD ((i.2).toNat) default;let k:=j.Link;let m:=g.getD (k.toNat) default;.br (decide (i.2<(c.Shapes.length:Int)))
 (.cc (ref1_Rest_C) fun n=>
 .cut 0 (fun (s:B7)=>⟨[(2,.ptr 0 0),(5,.pure h),(6,.vec 1),(7,pz i.2),(8,.ptr 2 0)],[e,(1,vecO 1 (encL 6 az2) i.1 176),(2,.box [pz s.1,pz s.2.1,pz s.2.2.1,pz s.2.2.2.1,pz s.2.2.2.2.1,pz s.2.2.2.2.2.1,pz s.2.2.2.2.2.2.1,pz s.2.2.2.2.2.2.2.1,pz s.2.2.2.2.2.2.2.2.1,pz s.2.2.2.2.2.2.2.2.2.1,pz s.2.2.2.2.2.2.2.2.2.2.1,pz s.2.2.2.2.2.2.2.2.2.2.2.1,pz s.2.2.2.2.2.2.2.2.2.2.2.2.1,pz s.2.2.2.2.2.2.2.2.2.2.2.2.2.1,pz s.2.2.2.2.2.2.2.2.2.2.2.2.2.2.1,pz s.2.2.2.2.2.2.2.2.2.2.2.2.2.2.2.1,pz s.2.2.2.2.2.2.2.2.2.2.2.2.2.2.2.2.1,pz s.2.2.2.2.2.2.2.2.2.2.2.2.2.2.2.2.2.1,pz s.2.2.2.2.2.2.2.2.2.2.2.2.2.2.2.2.2.2.1,pz s.2.2.2.2.2.2.2.2.2.2.2.2.2.2.2.2.2.2.2.1,pz s.2.2.2.2.2.2.2.2.2.2.2.2.2.2.2.2.2.2.2.2.1,pz s.2.2.2.2.2.2.2.2.2.2.2.2.2.2.2.2.2.2.2.2.2.1,pz s.2.2.2.2.2.2.2.2.2.2.2.2.2.2.2.2.2.2.2.2.2.2.1,pz s.2.2.2.2.2.2.2.2.2.2.2.2.2.2.2.2.2.2.2.2.2.2.2])],[],3⟩)
 (.gh i.2 c.Shapes.length<|
 .br (k !=(-1))
 (.gh i.2 c.Shapes.length<|
 .gh k g.length<|
 .oo (m.R.1.1.Lo,m.R.1.1.Hi,m.R.1.2.1.Lo,m.R.1.2.1.Hi,m.R.1.2.2.Lo,m.R.1.2.2.Hi,m.R.2.1.1.Lo,m.R.2.1.1.Hi,m.R.2.1.2.1.Lo,m.R.2.1.2.1.Hi,m.R.2.1.2.2.Lo,m.R.2.1.2.2.Hi,m.R.2.2.1.Lo,m.R.2.2.1.Hi,m.R.2.2.2.1.Lo,m.R.2.2.2.1.Hi,m.R.2.2.2.2.Lo,m.R.2.2.2.2.Hi,m.T.1.Lo,m.T.1.Hi,m.T.2.1.Lo,m.T.2.1.Hi,m.T.2.2.Lo,m.T.2.2.Hi))
 (.oo (n.R.1.1.Lo,n.R.1.1.Hi,n.R.1.2.1.Lo,n.R.1.2.1.Hi,n.R.1.2.2.Lo,n.R.1.2.2.Hi,n.R.2.1.1.Lo,n.R.2.1.1.Hi,n.R.2.1.2.1.Lo,n.R.2.1.2.1.Hi,n.R.2.1.2.2.Lo,n.R.2.1.2.2.Hi,n.R.2.2.1.Lo,n.R.2.2.1.Hi,n.R.2.2.2.1.Lo,n.R.2.2.2.1.Hi,n.R.2.2.2.2.Lo,n.R.2.2.2.2.Hi,n.T.1.Lo,n.T.1.Hi,n.T.2.1.Lo,n.T.2.1.Hi,n.T.2.2.Lo,n.T.2.2.Hi))) fun s=>
 .gh i.2 c.Shapes.length<|
 .cc (Czk j (⟨(((⟨s.1,s.2.1⟩:az0),(⟨s.2.2.1,s.2.2.2.1⟩:az0),(⟨s.2.2.2.2.1,s.2.2.2.2.2.1⟩:az0)),((⟨s.2.2.2.2.2.2.1,s.2.2.2.2.2.2.2.1⟩:az0),(⟨s.2.2.2.2.2.2.2.2.1,s.2.2.2.2.2.2.2.2.2.1⟩:az0),(⟨s.2.2.2.2.2.2.2.2.2.2.1,s.2.2.2.2.2.2.2.2.2.2.2.1⟩:az0)),((⟨s.2.2.2.2.2.2.2.2.2.2.2.2.1,s.2.2.2.2.2.2.2.2.2.2.2.2.2.1⟩:az0),(⟨s.2.2.2.2.2.2.2.2.2.2.2.2.2.2.1,s.2.2.2.2.2.2.2.2.2.2.2.2.2.2.2.1⟩:az0),(⟨s.2.2.2.2.2.2.2.2.2.2.2.2.2.2.2.2.1,s.2.2.2.2.2.2.2.2.2.2.2.2.2.2.2.2.2.1⟩:az0))),((⟨s.2.2.2.2.2.2.2.2.2.2.2.2.2.2.2.2.2.2.1,s.2.2.2.2.2.2.2.2.2.2.2.2.2.2.2.2.2.2.2.1⟩:az0),(⟨s.2.2.2.2.2.2.2.2.2.2.2.2.2.2.2.2.2.2.2.2.1,s.2.2.2.2.2.2.2.2.2.2.2.2.2.2.2.2.2.2.2.2.2.1⟩:az0),(⟨s.2.2.2.2.2.2.2.2.2.2.2.2.2.2.2.2.2.2.2.2.2.2.1,s.2.2.2.2.2.2.2.2.2.2.2.2.2.2.2.2.2.2.2.2.2.2.2⟩:az0))⟩:azr)) fun t=>let w:=([t]:Au);let y:=i.1.length+w.length;
 .conv 11008 (cz5 1 (encL 6 az2) w 176)<|
 .conv 11009 (dzi 1 (encL 6 az2) i.1 w 176)<|
 .grd (y * 24≤140737488355328/\y≤maxLen)<|
 .nn ((i.1++w),(i64.wrap (i.2+1))))
 (.oo i.1))
 (nl,0) [] fun i=>
 .ret i)
noncomputable def Az2 (c)(d):=
 mkD Tryz.func163 (rzo c d) 0 [.pure (bzd c),.pure (encL 2 az7 d)] [] (fun r=>.pure (encL 1 (encL 6 az2) r)) (fun _=>[])
open Go.Proofs
noncomputable def yz9 (c:azm)(d:Int):T A0:=let e:Nat×Res:=(0,.box [.pure (encL 12 azd c.Joints),.pure (encL 5 azg c.Masses)]);.cut 2 (fun (f:Bool)=>⟨[(1,pz d),(2,.ptr 0 0),(15,.pure (.bool f))],[e],[],1⟩)
 (.cc (dzl c) fun f=>
 .br (f !=0)
 (.oo true)
 (.cc (eza c d) fun g=>
 .oo (!g))) fun f=>
 .br f
 (.ret nl)
 (.loop (fun (g:A2)=>⟨[(2,.ptr 0 0),(5,.vec 1),(6,pz g.2)],[e,(1,vecO 1 az3 g.1 3)],[],2⟩)
 (.exit 0) (fun (g:A0)=>⟨[(5,.vec 0)],[(0,vecO 1 az3 g 3)],[],1⟩)
 (fun g=>let h:=([g.2]:A0);let i:=h.length+g.1.length;.br (g.2 !=(-1))
 (.conv 7001 (cz5 1 az3 h 3)<|
 .conv 7003 (dzi 1 az3 h g.1 3)<|
 .grd (i * 8≤140737488355328/\i≤maxLen)<|
 .gh g.2 c.Joints.length<|
 .nn ((h++g.1),(c.Joints.getD ((g.2).toNat) default).Parent))
 (.oo g.1))
 (nl,d) [] fun g=>
 .ret g)
noncomputable def qze (c)(d):=
 mkD Tryz.func266 (yz9 c d) 0 [.pure (dzb c),pz d] [] (fun r=>.pure (encL 1 az3 r)) (fun _=>[])
noncomputable def vz7 (c:A0)(d:Int):T Bool:=
 .loop (fun (e:Int)=>⟨[(0,.pure (encL 1 az3 c)),(1,pz d),(5,pz e)],[],[],0⟩)
 (.exit 0) (fun (_:U0)=>⟨[],[],[],0⟩)
 (fun e=>.br (decide (e<(c.length:Int)))
 (.gh e c.length<|
 .br ((c.getD (e.toNat) default)==d)
 (.ff true)
 (.nn (i64.wrap (e+1))))
 (.oo .u))
 0 [] fun _=>
 .ret false
noncomputable def vz6 (c)(d):=
 mkD Tryz.func267 (vz7 c d) 0 [.pure (encL 1 az3 c),pz d] [] (fun r=>.pure (.bool r)) (fun _=>[])
noncomputable def sz6 (c:azm)(d:Int)(e:Int):T A0:=let f:Nat×Res:=(0,.box [.pure (encL 12 azd c.Joints),.pure (encL 5 azg c.Masses)]);.cut 2 (fun (g:Bool)=>⟨[(1,pz d),(2,pz e),(3,.ptr 0 0),(25,.pure (.bool g))],[f],[],1⟩)
 (.cc (dzl c) fun g=>
 .br (g !=0)
 (.oo true)
 (.cc (eza c d) fun h=>
 .br (!h)
 (.oo true)
 (.cc (eza c e) fun i=>
 .oo (!i)))) fun g=>
 .br g
 (.ret nl)
 (.cc (qze c d) fun h=>let i:=encL 1 az3 h;
 .cc (qze c e) fun j=>let k:=encL 1 az3 j;
 .loop (fun (m:A2)=>⟨[(3,.ptr 0 0),(7,.pure i),(8,.pure k),(9,.vec 1),(10,pz m.2)],[f,(1,vecO 1 az3 m.1 3)],[],2⟩)
 (.exit 0) (fun (m:A0)=>⟨[(9,.vec 0)],[(0,vecO 1 az3 m 3)],[],1⟩)
 (fun m=>let n:=([m.2]:A0);let s:=m.1.length+n.length;.br (decide (m.2<(c.Joints.length:Int)))
 (.cut 0 (fun (t:A0)=>⟨[(3,.ptr 0 0),(7,.pure i),(8,.pure k),(9,.vec 1),(10,pz m.2)],[f,(1,vecO 1 az3 t 3)],[],2⟩)
 (.cc (vz6 h m.2) fun t=>
 .cc (vz6 j m.2) fun w=>
 .br (!(t==w))
 (.conv 9002 (cz5 1 az3 n 3)<|
 .conv 9003 (dzi 1 az3 m.1 n 3)<|
 .grd (s * 8≤140737488355328/\s≤maxLen)<|
 .oo (m.1++n))
 (.oo m.1)) fun t=>
 .nn (t,(i64.wrap (m.2+1))))
 (.oo m.1))
 (nl,0) [] fun m=>
 .ret m)
noncomputable def Az9 (c)(d)(e):=
 mkD Tryz.func247 (sz6 c d e) 0 [.pure (dzb c),pz d,pz e] [] (fun r=>.pure (encL 1 az3 r)) (fun _=>[])
noncomputable def yzb (c:azm)(d:Int)(e:Int):T Bool:=let f:Nat×Res:=(0,.box [.pure (encL 12 azd c.Joints),.pure (encL 5 azg c.Masses)]);.cut 2 (fun (g:Bool)=>⟨[(1,pz d),(2,pz e),(3,.ptr 0 0),(23,.pure (.bool g))],[f],[],1⟩)
 (.cc (dzl c) fun g=>
 .br (g !=0)
 (.oo true)
 (.cc (eza c d) fun h=>
 .br (!h)
 (.oo true)
 (.cc (eza c e) fun i=>
 .oo (!i)))) fun g=>
 .br g
 (.ret false)
 (.cc (Az9 (⟨c.Joints,c.Masses⟩:azm) d e) fun h=>
 .loop (fun (i:Int)=>⟨[(3,.ptr 0 0),(7,.pure (encL 1 az3 h)),(8,pz i)],[f],[],1⟩)
 (.exit 0) (fun (_:U0)=>⟨[],[],[],0⟩)
 (fun i=>let j:=h.getD (i.toNat) default;let k:=c.Joints.getD (j.toNat) default;.br (decide (i<(h.length:Int)))
 (.gh i h.length<|
 .gh j c.Joints.length<|
 .gh i h.length<|
 .gh j c.Joints.length<|
 .br (decide ((k.Lo)<(k.Hi)))
 (.ff false)
 (.nn (i64.wrap (i+1))))
 (.oo .u))
 0 [] fun _=>
 .ret true)
noncomputable def Fzs (c)(d)(e):=
 mkD Tryz.func213 (yzb c d e) 0 [.pure (dzb c),pz d,pz e] [] (fun r=>.pure (.bool r)) (fun _=>[])
noncomputable def sz7 (c:azb)(d:Int)(e:Int):T Bool:=let f:Nat×Res:=(0,.box [.pure (encL 12 azd c.Robot.Joints),.pure (encL 5 azg c.Robot.Masses),.pure (encL 3 azh c.Shapes),.pure (encL 2 azo c.Skips)]);.loop (fun (g:Int)=>⟨[(1,pz d),(2,pz e),(3,.ptr 0 0),(7,pz g)],[f],[],1⟩)
 (.exit 0) (fun (_:U0)=>⟨[],[],[],0⟩)
 (fun g=>let h:=c.Skips.getD (g.toNat) default;.br (decide (g<(c.Skips.length:Int)))
 (.gh g c.Skips.length<|
 .cut 0 (fun (i:Bool)=>⟨[(1,pz d),(2,pz e),(3,.ptr 0 0),(7,pz g),(42,.pure (.bool i))],[f],[],1⟩)
 (.br ((h.A)==d)
 (.br ((h.B)==e)
 (.oo true)
 (.br ((h.A)==e)
 (.oo ((h.B)==d))
 (.oo false)))
 (.br ((h.A)==e)
 (.oo ((h.B)==d))
 (.oo false))) fun i=>
 .br i
 (.ff true)
 (.nn (i64.wrap (g+1))))
 (.oo .u))
 0 [] fun _=>
 .ret false
noncomputable def Aza (c)(d)(e):=
 mkD Tryz.func214 (sz7 c d e) 0 [.pure (bzd c),pz d,pz e] [] (fun r=>.pure (.bool r)) (fun _=>[])
noncomputable def yza (c:azb):T A8:=let d:=(c.Shapes.length:Nat);let e:Nat×Res:=(0,.box [.pure (encL 12 azd c.Robot.Joints),.pure (encL 5 azg c.Robot.Masses),.pure (encL 3 azh c.Shapes),.pure (encL 2 azo c.Skips)]);.cc (ezo c) fun f=>
 .br (f !=0)
 (.ret nl)
 (.loop (fun (g:A9)=>⟨[(1,.ptr 0 0),(3,.vec 1),(4,pz g.2)],[e,(1,vecO 2 dza g.1 213)],[],2⟩)
 (.exit 0) (fun (g:A8)=>⟨[(3,.vec 0)],[(0,vecO 2 dza g 213)],[],1⟩)
 (fun g=>let h:=(c.Shapes.getD ((g.2).toNat) default).Link;let i:=i64.wrap (g.2+1);.br (decide (g.2<(d:Int)))
 (.loop (fun (j:A9)=>⟨[(1,.ptr 0 0),(3,.vec 1),(4,pz g.2),(5,pz j.2)],[e,(1,vecO 2 dza j.1 213)],[],2⟩)
 (.exit 2) (fun (j:A8)=>⟨[(1,.ptr 0 0),(3,.vec 1),(4,pz g.2)],[e,(1,vecO 2 dza j 213)],[],2⟩)
 (fun j=>let k:=([(⟨g.2,j.2⟩:bzt)]:A8);let m:=j.1.length+k.length;let n:=(c.Shapes.getD ((j.2).toNat) default).Link;.br (decide (j.2<(d:Int)))
 (.cut 0 (fun (s:A8)=>⟨[(1,.ptr 0 0),(3,.vec 1),(4,pz g.2),(5,pz j.2)],[e,(1,vecO 2 dza s 213)],[],2⟩)
 (.gh g.2 c.Shapes.length<|
 .gh j.2 c.Shapes.length<|
 .cut 0 (fun (s:Bool)=>⟨[(1,.ptr 0 0),(3,.vec 1),(4,pz g.2),(5,pz j.2),(56,.pure (.bool s))],[e,(1,vecO 2 dza j.1 213)],[],2⟩)
 (.br (h !=n)
 (.cc (Fzs c.Robot h n) fun s=>
 .br (!s)
 (.cc (Aza c h n) fun t=>
 .oo (!t))
 (.oo false))
 (.oo false)) fun s=>
 .br s
 (.conv 12004 (cz5 2 dza k 213)<|
 .conv 12005 (dzi 2 dza j.1 k 213)<|
 .grd (m * 16≤140737488355328/\m≤maxLen)<|
 .oo (j.1++k))
 (.oo j.1)) fun s=>
 .nn (s,(i64.wrap (j.2+1))))
 (.oo j.1))
 (g.1,i) [] fun j=>
 .nn (j,i))
 (.oo g.1))
 (nl,0) [] fun g=>
 .ret g)
noncomputable def Fzr (c):=
 mkD Tryz.func164 (yza c) 0 [.pure (bzd c)] [] (fun r=>.pure (encL 2 dza r)) (fun _=>[])
noncomputable def uzt (c:azb)(d:A7):T (Af×Af×Bool):=let e:=(⟨c.Robot,c.Shapes,c.Skips⟩:azb);let f:Nat×Res:=(0,.box [.pure (encL 12 azd c.Robot.Joints),.pure (encL 5 azg c.Robot.Masses),.pure (encL 3 azh c.Shapes),.pure (encL 2 azo c.Skips)]);.cut 2 (fun (g:Bool)=>⟨[(1,.pure (encL 2 az7 d)),(2,.ptr 0 0),(23,.pure (.bool g))],[f],[],1⟩)
 (.cc (ezo e) fun g=>
 .br (g !=0)
 (.oo true)
 (.cc (nzq c.Robot d) fun h=>
 .oo (!h))) fun g=>
 .br g
 (.ret (nl,nl,false))
 (.cc (Az2 e d) fun h=>
 .cc (Fzr c) fun i=>
 .loop (fun (j:(Af×Af×Int))=>⟨[(2,.ptr 0 0),(7,.pure (encL 1 (encL 6 az2) h)),(8,.vec 1),(9,.vec 2),(10,.pure (encL 2 dza i)),(11,pz j.2.2)],[f,(1,vecO 2 bz7 j.1 208),(2,vecO 2 bz7 j.2.1 208)],[],3⟩)
 (.exit 0) (fun (j:(Af×Af))=>⟨[(8,.vec 0),(9,.vec 1)],[(0,vecO 2 bz7 j.1 208),(1,vecO 2 bz7 j.2 208)],[],2⟩)
 (fun j=>let k:=i.getD ((j.2.2).toNat) default;let m:=(k.A).toNat;let n:=(k.B).toNat;let s:=([(⟨(h.getD m default),(c.Shapes.getD m default).Radius⟩:azs)]:Af);let t:=j.1.length+s.length;let w:=([(⟨(h.getD n default),(c.Shapes.getD n default).Radius⟩:azs)]:Af);let y:=j.2.1.length+w.length;.br (decide (j.2.2<(i.length:Int)))
 (.gh j.2.2 i.length<|
 .gh j.2.2 i.length<|
 .gh (k.A) h.length<|
 .gh (k.A) c.Shapes.length<|
 .conv 10012 (cz5 2 bz7 s 208)<|
 .conv 10013 (dzi 2 bz7 j.1 s 208)<|
 .grd (t * 32≤140737488355328/\t≤maxLen)<|
 .gh (k.B) h.length<|
 .gh (k.B) c.Shapes.length<|
 .conv 11012 (cz5 2 bz7 w 208)<|
 .conv 11013 (dzi 2 bz7 j.2.1 w 208)<|
 .grd (y * 32≤140737488355328/\y≤maxLen)<|
 .nn ((j.1++s),(j.2.1++w),(i64.wrap (j.2.2+1))))
 (.oo (j.1,j.2.1)))
 (nl,nl,0) [] fun j=>
 .ret (j.1,j.2,true))
noncomputable def uzs (c)(d):=
 mkD Tryz.func139 (uzt c d) 0 [.pure (bzd c),.pure (encL 2 az7 d)] [] (fun r=>.tup [.pure (encL 2 bz7 r.1),.pure (encL 2 bz7 r.2.1),.pure (.bool r.2.2)]) (fun _=>[])
noncomputable def ozx (c:Ar):T Bool:=let d:Nat×Res:=(0,.box [pz c.1.Lo,pz c.1.Hi,pz c.2.1.Lo,pz c.2.1.Hi,pz c.2.2.Lo,pz c.2.2.Hi]);.unroll 4<|
 .known true<|
 .cut 1 (fun (e:Bool)=>⟨[(1,.ptr 0 0),(3,pz 0),(30,.pure (.bool e))],[d],[],1⟩)
 (.ix 0 3 rfl<|
 .br (decide (c.1.Lo<(-268435456)))
 (.oo true)
 (.ix 0 3 rfl<|
 .ix 0 3 rfl<|
 .br (decide (c.1.Lo>c.1.Hi))
 (.oo true)
 (.ix 0 3 rfl<|
 .oo (decide (c.1.Hi>268435456))))) fun e=>
 .br e
 (.ret false)
 (.lit 3001 (1)<|
 .known true<|
 .cut 1 (fun (f:Bool)=>⟨[(1,.ptr 0 0),(3,pz 1),(30,.pure (.bool f))],[d],[],1⟩)
 (.ix 1 3 rfl<|
 .br (decide (c.2.1.Lo<(-268435456)))
 (.oo true)
 (.ix 1 3 rfl<|
 .ix 1 3 rfl<|
 .br (decide (c.2.1.Lo>c.2.1.Hi))
 (.oo true)
 (.ix 1 3 rfl<|
 .oo (decide (c.2.1.Hi>268435456))))) fun f=>
 .br f
 (.ret false)
 (.lit 3001 (2)<|
 .known true<|
 .cut 1 (fun (g:Bool)=>⟨[(1,.ptr 0 0),(3,pz 2),(30,.pure (.bool g))],[d],[],1⟩)
 (.ix 2 3 rfl<|
 .br (decide (c.2.2.Lo<(-268435456)))
 (.oo true)
 (.ix 2 3 rfl<|
 .ix 2 3 rfl<|
 .br (decide (c.2.2.Lo>c.2.2.Hi))
 (.oo true)
 (.ix 2 3 rfl<|
 .oo (decide (c.2.2.Hi>268435456))))) fun g=>
 .br g
 (.ret false)
 (.lit 3001 (3)<|
 .known false<|
 .ret true)))
noncomputable def ozw (c):=
 mkD Tryz.func221 (ozx c) 0 [.pure (az2 c)] [] (fun r=>.pure (.bool r)) (fun _=>[])
noncomputable def rzn (c:As):T Bool:=let d:=encL 6 az2 c;let e:=(c.length:Int);.loop (fun (f:Int)=>⟨[(0,.pure d),(3,pz f)],[],[],0⟩)
 (.exit 0) (fun (_:U0)=>⟨[(0,.pure d)],[],[],0⟩)
 (fun f=>.cut 1 (fun (g:Bool)=>⟨[(0,.pure d),(3,pz f),(11,.pure (.bool g))],[],[],0⟩)
 (.br (decide (f<e))
 (.oo (decide (f≤8)))
 (.oo false)) fun g=>
 .br g
 (.gh f c.length<|
 .cc (ozw (c.getD (f.toNat) default)) fun h=>
 .br (!h)
 (.ff false)
 (.nn (i64.wrap (f+1))))
 (.oo .u))
 0 [] fun _=>
 .br (decide (e≥1))
 (.ret (decide (e≤8)))
 (.ret false)
noncomputable def dzr (c):=
 mkD Tryz.func177 (rzn c) 0 [.pure (encL 6 az2 c)] [] (fun r=>.pure (.bool r)) (fun _=>[])
noncomputable def izh (c:Int):T Bool:=
 .br (decide (c≥0))
 (.ret (decide (c≤1048576)))
 (.ret false)
noncomputable def ezj (c):=
 mkD Tryz.func217 (izh c) 0 [pz c] [] (fun r=>.pure (.bool r)) (fun _=>[])
noncomputable def Ezl (c:az0):T Int:=
 .cc (dzg c) fun d=>
 .br (!d)
 (.ret 0)
 (.cc (bz6 (i64.wrap (c.Lo+c.Hi)) 2) fun e=>
 .ret e)
noncomputable def zz0 (c):=
 mkD Tryz.func178 (Ezl c) 0 [.pure (az7 c)] [] (fun r=>pz r) (fun _=>[])
noncomputable def ozt (c:As):T Am:=
 .cc (dzr c) fun d=>
 .br (!d)
 (.ret nl)
 (.loop (fun (e:An)=>⟨[(0,.pure (encL 6 az2 c)),(3,.vec 0),(4,pz e.2)],[(0,vecO 3 az1 e.1 78)],[],1⟩)
 (.exit 0) (fun (e:Am)=>⟨[(3,.vec 0)],[(0,vecO 3 az1 e 78)],[],1⟩)
 (fun e=>let f:=c.getD ((e.2).toNat) default;.br (decide (e.2<(c.length:Int)))
 (.gh e.2 c.length<|
 .ix 0 3 rfl<|
 .cc (zz0 (f.1)) fun g=>
 .gh e.2 c.length<|
 .ix 1 3 rfl<|
 .cc (zz0 (f.2.1)) fun h=>
 .gh e.2 c.length<|
 .ix 2 3 rfl<|
 .cc (zz0 (f.2.2)) fun i=>let j:=([(g,h,i)]:Am);let k:=e.1.length+j.length;
 .conv 7020 (cz5 3 az1 j 78)<|
 .conv 7021 (dzi 3 az1 e.1 j 78)<|
 .grd (k * 24≤140737488355328/\k≤maxLen)<|
 .nn ((e.1++j),(i64.wrap (e.2+1))))
 (.oo e.1))
 (nl,0) [] fun e=>
 .ret e)
noncomputable def dzc (c):=
 mkD Tryz.func143 (ozt c) 0 [.pure (encL 6 az2 c)] [] (fun r=>.pure (encL 3 az1 r)) (fun _=>[])
noncomputable def ize (c:Al):T Aq:=
 .br ((c.1==0)&&((c.2.1==0)&&((c.2.2==0)&&true)))
 (.ret (c,false))
 (.loop (fun (d:Int)=>⟨[(1,.ptr 0 0),(2,.ptr 1 0),(4,pz d)],[(0,.box [pz c.1,pz c.2.1,pz c.2.2]),(1,.box [pz 0,pz 0,pz 0])],[],2⟩)
 .ret (fun (_:U0)=>⟨[],[],[],0⟩)
 (fun d=>let e:=i64.wrap (c.1.tdiv d);let f:=i64.wrap (c.2.1.tdiv d);let g:=i64.wrap (c.2.2.tdiv d);.ix 0 3 rfl<|
 .grd (d≠0)<|
 .ix 1 3 rfl<|
 .grd (d≠0)<|
 .ix 2 3 rfl<|
 .grd (d≠0)<|
 .cc (fzb (e,f,g) 16384) fun h=>
 .br h
 (.ff ((e,f,g),true))
 (.nn (i64.wrap (d * 2))))
 1 [] fun _=>
 .stop)
noncomputable def gzk (c):=
 mkD Tryz.func172 (ize c) 0 [.pure (az1 c)] [] (fun r=>.tup [.pure (az1 r.1),.pure (.bool r.2)]) (fun _=>[])
set_option maxHeartbeats 8000000 in
set_option maxRecDepth 20000 in
noncomputable def xzs (c:As)(d:As):T Aq:=
 .cut 2 (fun (e:Bool)=>⟨[(0,.pure (encL 6 az2 c)),(1,.pure (encL 6 az2 d)),(4,.ptr 0 0),(19,.pure (.bool e))],[(0,.box [pz 0,pz 0,pz 0])],[],1⟩)
 (.cc (dzr c) fun e=>
 .br (!e)
 (.oo true)
 (.cc (dzr d) fun f=>
 .oo (!f))) fun e=>
 .br e
 (.ret ((0,0,0),false))
 (.cc (dzc c) fun f=>let g:=encL 3 az1 f;let h:=(f.length:Int);
 .cc (dzc d) fun i=>let j:=encL 3 az1 i;let k:=(i.length:Int);
 .unroll 4<|
 .known true<|
 .loop (fun (m:Ah)=>⟨[(4,.ptr 0 0),(6,.ptr 1 0),(7,.pure g),(8,.pure j),(9,pz 0),(10,pz m.2)],[(0,.box [pz 0,pz 0,pz 0]),(1,.box [pz m.1,pz 0,pz 0])],[],2⟩)
 (.exit 2) (fun (m:Int)=>⟨[(4,.ptr 0 0),(6,.ptr 1 0),(7,.pure g),(8,.pure j),(9,pz 0)],[(0,.box [pz 0,pz 0,pz 0]),(1,.box [pz m,pz 0,pz 0])],[],2⟩)
 (fun m=>.br (decide (m.2<h))
 (.ix 0 3 rfl<|
 .gh m.2 f.length<|
 .ix 0 3 rfl<|
 .name 11012 ((i64.wrap (m.1+(i64.wrap (((f.getD ((m.2).toNat) default).1) * k))))) fun n=>
 .ix 0 3 rfl<|
 .nn (n,(i64.wrap (m.2+1))))
 (.oo m.1))
 (0,0) [] fun m=>
 .loop (fun (n:Ah)=>⟨[(4,.ptr 0 0),(6,.ptr 1 0),(7,.pure g),(8,.pure j),(9,pz 0),(11,pz n.2)],[(0,.box [pz 0,pz 0,pz 0]),(1,.box [pz n.1,pz 0,pz 0])],[],2⟩)
 (.exit 4) (fun (n:Int)=>⟨[(4,.ptr 0 0),(6,.ptr 1 0),(7,.pure g),(8,.pure j),(9,pz 0)],[(0,.box [pz 0,pz 0,pz 0]),(1,.box [pz n,pz 0,pz 0])],[],2⟩)
 (fun n=>.br (decide (n.2<k))
 (.ix 0 3 rfl<|
 .gh n.2 i.length<|
 .ix 0 3 rfl<|
 .name 15012 ((i64.wrap (n.1- (i64.wrap (((i.getD ((n.2).toNat) default).1) * h))))) fun s=>
 .ix 0 3 rfl<|
 .nn (s,(i64.wrap (n.2+1))))
 (.oo n.1))
 (m,0) [] fun n=>
 .lit 7001 (1)<|
 .known true<|
 .loop (fun (s:Ah)=>⟨[(4,.ptr 0 0),(6,.ptr 1 0),(7,.pure g),(8,.pure j),(9,pz 1),(10,pz s.2)],[(0,.box [pz 0,pz 0,pz 0]),(1,.box [pz n,pz s.1,pz 0])],[],2⟩)
 (.exit 2) (fun (s:Int)=>⟨[(4,.ptr 0 0),(6,.ptr 1 0),(7,.pure g),(8,.pure j),(9,pz 1)],[(0,.box [pz 0,pz 0,pz 0]),(1,.box [pz n,pz s,pz 0])],[],2⟩)
 (fun s=>.br (decide (s.2<h))
 (.ix 1 3 rfl<|
 .gh s.2 f.length<|
 .ix 1 3 rfl<|
 .name 11012 ((i64.wrap (s.1+(i64.wrap (((f.getD ((s.2).toNat) default).2.1) * k))))) fun t=>
 .ix 1 3 rfl<|
 .nn (t,(i64.wrap (s.2+1))))
 (.oo s.1))
 (0,0) [] fun s=>
 .loop (fun (t:Ah)=>⟨[(4,.ptr 0 0),(6,.ptr 1 0),(7,.pure g),(8,.pure j),(9,pz 1),(11,pz t.2)],[(0,.box [pz 0,pz 0,pz 0]),(1,.box [pz n,pz t.1,pz 0])],[],2⟩)
 (.exit 4) (fun (t:Int)=>⟨[(4,.ptr 0 0),(6,.ptr 1 0),(7,.pure g),(8,.pure j),(9,pz 1)],[(0,.box [pz 0,pz 0,pz 0]),(1,.box [pz n,pz t,pz 0])],[],2⟩)
 (fun t=>.br (decide (t.2<k))
 (.ix 1 3 rfl<|
 .gh t.2 i.length<|
 .ix 1 3 rfl<|
 .name 15012 ((i64.wrap (t.1- (i64.wrap (((i.getD ((t.2).toNat) default).2.1) * h))))) fun w=>
 .ix 1 3 rfl<|
 .nn (w,(i64.wrap (t.2+1))))
 (.oo t.1))
 (s,0) [] fun t=>
 .lit 7001 (2)<|
 .known true<|
 .loop (fun (w:Ah)=>⟨[(4,.ptr 0 0),(6,.ptr 1 0),(7,.pure g),(8,.pure j),(9,pz 2),(10,pz w.2)],[(0,.box [pz 0,pz 0,pz 0]),(1,.box [pz n,pz t,pz w.1])],[],2⟩)
 (.exit 2) (fun (w:Int)=>⟨[(4,.ptr 0 0),(6,.ptr 1 0),(7,.pure g),(8,.pure j),(9,pz 2)],[(0,.box [pz 0,pz 0,pz 0]),(1,.box [pz n,pz t,pz w])],[],2⟩)
 (fun w=>.br (decide (w.2<h))
 (.ix 2 3 rfl<|
 .gh w.2 f.length<|
 .ix 2 3 rfl<|
 .name 11012 ((i64.wrap (w.1+(i64.wrap (((f.getD ((w.2).toNat) default).2.2) * k))))) fun y=>
 .ix 2 3 rfl<|
 .nn (y,(i64.wrap (w.2+1))))
 (.oo w.1))
 (0,0) [] fun w=>
 .loop (fun (y:Ah)=>⟨[(4,.ptr 0 0),(6,.ptr 1 0),(7,.pure g),(8,.pure j),(9,pz 2),(11,pz y.2)],[(0,.box [pz 0,pz 0,pz 0]),(1,.box [pz n,pz t,pz y.1])],[],2⟩)
 (.exit 4) (fun (y:Int)=>⟨[(4,.ptr 0 0),(6,.ptr 1 0),(7,.pure g),(8,.pure j),(9,pz 2)],[(0,.box [pz 0,pz 0,pz 0]),(1,.box [pz n,pz t,pz y])],[],2⟩)
 (fun y=>.br (decide (y.2<k))
 (.ix 2 3 rfl<|
 .gh y.2 i.length<|
 .ix 2 3 rfl<|
 .name 15012 ((i64.wrap (y.1- (i64.wrap (((i.getD ((y.2).toNat) default).2.2) * h))))) fun z=>
 .ix 2 3 rfl<|
 .nn (z,(i64.wrap (y.2+1))))
 (.oo y.1))
 (w,0) [] fun y=>
 .lit 7001 (3)<|
 .known false<|
 .cc (gzk (n,t,y)) fun z=>
 .ret (z.1,z.2))
noncomputable def Fzk (c)(d):=
 mkD Tryz.func218 (xzs c d) 0 [.pure (encL 6 az2 c),.pure (encL 6 az2 d)] [] (fun r=>.tup [.pure (az1 r.1),.pure (.bool r.2)]) (fun _=>[])
noncomputable def Pzs:T Am:=
 .conv 1006 (cz5 3 az1 ([(1,0,0),((-1),0,0),(0,1,0),(0,(-1),0),(0,0,1),(0,0,(-1))]:Am) 78)<|
 .ret ([(1,0,0),((-1),0,0),(0,1,0),(0,(-1),0),(0,0,1),(0,0,(-1))]:Am)
noncomputable def ref14_Axes_C:CallS Am:=
 mkD Tryz.func219 (Pzs) 0 [] [] (fun r=>.pure (encL 3 az1 r)) (fun _=>[])
noncomputable def Bz2 (c:Am):T Bool:=let d:=encL 3 az1 c;let e:=(c.length:Int);.loop (fun (f:Int)=>⟨[(0,.pure d),(3,pz f)],[],[],0⟩)
 (.exit 0) (fun (_:U0)=>⟨[(0,.pure d)],[],[],0⟩)
 (fun f=>.cut 1 (fun (g:Bool)=>⟨[(0,.pure d),(3,pz f),(11,.pure (.bool g))],[],[],0⟩)
 (.br (decide (f<e))
 (.oo (decide (f≤8)))
 (.oo false)) fun g=>
 .br g
 (.gh f c.length<|
 .cc (fzb (c.getD (f.toNat) default) 268435456) fun h=>
 .br (!h)
 (.ff false)
 (.nn (i64.wrap (f+1))))
 (.oo .u))
 0 [] fun _=>
 .br (decide (e≥1))
 (.ret (decide (e≤8)))
 (.ret false)
noncomputable def Bz1 (c):=
 mkD Tryz.func168 (Bz2 c) 0 [.pure (encL 3 az1 c)] [] (fun r=>.pure (.bool r)) (fun _=>[])
noncomputable def ozz (c:Am)(d:A0):T Al:=
 .loop (fun (e:B0)=>⟨[(0,.pure (encL 3 az1 c)),(1,.pure (encL 1 az3 d)),(4,.ptr 0 0),(5,.ptr 1 0),(6,pz e.2.2.2)],[(0,.box [pz 0,pz 0,pz 0]),(1,.box [pz e.1,pz e.2.1,pz e.2.2.1])],[],2⟩)
 (.exit 0) (fun (e:Al)=>⟨[(4,.ptr 0 0),(5,.ptr 1 0)],[(0,.box [pz 0,pz 0,pz 0]),(1,.box [pz e.1,pz e.2.1,pz e.2.2])],[],2⟩)
 (fun e=>let f:=(e.2.2.2).toNat;let g:=d.getD f default;let h:=c.getD f default;.br (decide (e.2.2.2<(c.length:Int)))
 (.unroll 4<|
 .known true<|
 .ix 0 3 rfl<|
 .gh e.2.2.2 d.length<|
 .gh e.2.2.2 c.length<|
 .ix 0 3 rfl<|
 .name 8014 ((i64.wrap (e.1+(i64.wrap (g * (h.1)))))) fun i=>
 .ix 0 3 rfl<|
 .lit 7001 (1)<|
 .known true<|
 .ix 1 3 rfl<|
 .gh e.2.2.2 d.length<|
 .gh e.2.2.2 c.length<|
 .ix 1 3 rfl<|
 .name 8014 ((i64.wrap (e.2.1+(i64.wrap (g * (h.2.1)))))) fun j=>
 .ix 1 3 rfl<|
 .lit 7001 (2)<|
 .known true<|
 .ix 2 3 rfl<|
 .gh e.2.2.2 d.length<|
 .gh e.2.2.2 c.length<|
 .ix 2 3 rfl<|
 .name 8014 ((i64.wrap (e.2.2.1+(i64.wrap (g * (h.2.2)))))) fun k=>
 .ix 2 3 rfl<|
 .lit 7001 (3)<|
 .known false<|
 .nn (i,j,k,(i64.wrap (e.2.2.2+1))))
 (.oo (e.1,e.2.1,e.2.2.1)))
 (0,0,0,0) [] fun e=>
 .ret (e.1,e.2.1,e.2.2)
noncomputable def ozy (c)(d):=
 mkD Tryz.func170 (ozz c d) 0 [.pure (encL 3 az1 c),.pure (encL 1 az3 d)] [] (fun r=>.pure (az1 r)) (fun _=>[])
noncomputable def Nz7 (c:Al)(d:Al):T Al:=
 .ix 0 3 rfl<|
 .ix 0 3 rfl<|
 .ix 1 3 rfl<|
 .ix 1 3 rfl<|
 .ix 2 3 rfl<|
 .ix 2 3 rfl<|
 .ret ((i64.wrap (c.1-d.1)),(i64.wrap (c.2.1-d.2.1)),(i64.wrap (c.2.2-d.2.2)))
noncomputable def kza (c)(d):=
 mkD Tryz.func169 (Nz7 c d) 0 [.pure (az1 c),.pure (az1 d)] [] (fun r=>.pure (az1 r)) (fun _=>[])
noncomputable def mze (c:Al)(d:Int):T Bool:=
 .unroll 4<|
 .known true<|
 .ix 0 3 rfl<|
 .ix 0 3 rfl<|
 .cc (azu (max c.1 (i64.wrap (0-c.1))) 65536) fun e=>
 .name 6004 ((i64.wrap (0+(i64.wrap (e * e))))) fun f=>
 .lit 4001 (1)<|
 .known true<|
 .ix 1 3 rfl<|
 .ix 1 3 rfl<|
 .cc (azu (max c.2.1 (i64.wrap (0-c.2.1))) 65536) fun g=>
 .name 6004 ((i64.wrap (f+(i64.wrap (g * g))))) fun h=>
 .lit 4001 (2)<|
 .known true<|
 .ix 2 3 rfl<|
 .ix 2 3 rfl<|
 .cc (azu (max c.2.2 (i64.wrap (0-c.2.2))) 65536) fun i=>
 .name 6004 ((i64.wrap (h+(i64.wrap (i * i))))) fun j=>
 .lit 4001 (3)<|
 .known false<|
 .ret (decide (j≤(i64.wrap (d * d))))
noncomputable def qzb (c)(d):=
 mkD Tryz.func171 (mze c d) 0 [.pure (az1 c),pz d] [] (fun r=>.pure (.bool r)) (fun _=>[])
noncomputable def Sz1 (c:Al)(d:Al):T Int:=
 .ix 0 3 rfl<|
 .ix 0 3 rfl<|
 .ix 1 3 rfl<|
 .ix 1 3 rfl<|
 .ix 2 3 rfl<|
 .ix 2 3 rfl<|
 .name 1016 ((i64.wrap ((i64.wrap ((i64.wrap (c.1 * d.1))+(i64.wrap (c.2.1 * d.2.1))))+(i64.wrap (c.2.2 * d.2.2))))) fun e=>
 .ret e
noncomputable def hz8 (c)(d):=
 mkD Tryz.func174 (Sz1 c d) 0 [.pure (az1 c),.pure (az1 d)] [] (fun r=>pz r) (fun _=>[])
noncomputable def hz7 (c:Al)(d:Am)(e:Int):T Int:=let f:=encL 3 az1 d;let g:Nat×Res:=(0,.box [pz c.1,pz c.2.1,pz c.2.2]);.loop (fun (h:Ah)=>⟨[(1,.pure f),(2,pz e),(3,.ptr 0 0),(7,pz h.1),(8,pz h.2)],[g],[],1⟩)
 (.exit 0) (fun (h:Int)=>⟨[(7,pz h)],[],[],0⟩)
 (fun h=>.br (decide (h.2<(d.length:Int)))
 (.cut 0 (fun (i:Int)=>⟨[(1,.pure f),(2,pz e),(3,.ptr 0 0),(7,pz i),(8,pz h.2)],[g],[],1⟩)
 (.gh h.2 d.length<|
 .cc (hz8 c (d.getD ((h.2).toNat) default)) fun i=>
 .gh h.1 d.length<|
 .cc (hz8 c (d.getD ((h.1).toNat) default)) fun j=>
 .br (decide ((i64.wrap (e * i))<(i64.wrap (e * j))))
 (.oo h.2)
 (.oo h.1)) fun i=>
 .nn (i,(i64.wrap (h.2+1))))
 (.oo h.1))
 (0,1) [] fun h=>
 .ret h
noncomputable def ezv (c)(d)(e):=
 mkD Tryz.func173 (hz7 c d e) 0 [.pure (az1 c),.pure (encL 3 az1 d),pz e] [] (fun r=>pz r) (fun _=>[])
noncomputable def Bz5 (c:Int):T Int:=
 .br (decide (c<1))
 (.ret 0)
 (.loop (fun (d:Ah)=>⟨[(0,pz c),(3,pz d.1),(4,pz d.2)],[],[],0⟩)
 (.exit 0) (fun (d:Int)=>⟨[(3,pz d)],[],[],0⟩)
 (fun d=>let e:=i64.wrap (d.2-d.1);let f:=i64.wrap (d.1+(i64.wrap (e.tdiv 2)));.br (decide (e>1))
 (.ok ((2:Int)≠0) (by decide)<|
 .grd (f≠0)<|
 .br (decide (f≤(i64.wrap (c.tdiv f))))
 (.nn (f,d.2))
 (.nn (d.1,f)))
 (.oo d.1))
 (1,4294967296) [] fun d=>
 .ret d)
noncomputable def pz2 (c):=
 mkD Tryz.func249 (Bz5 c) 0 [pz c] [] (fun r=>pz r) (fun _=>[])
noncomputable def vz1 (c:Int):T Int:=
 .cc (pz2 c) fun d=>
 .cut 0 (fun (e:Int)=>⟨[(3,pz e)],[],[],0⟩)
 (.cut 0 (fun (e:Bool)=>⟨[(3,pz d),(14,.pure (.bool e))],[],[],0⟩)
 (.br (decide (c>0))
 (.oo (decide ((i64.wrap (d * d))<c)))
 (.oo false)) fun e=>
 .br e
 (.oo (i64.wrap (d+1)))
 (.oo d)) fun e=>
 .ret e
noncomputable def Czv (c):=
 mkD Tryz.func220 (vz1 c) 0 [pz c] [] (fun r=>pz r) (fun _=>[])
noncomputable def xzo (c:Al):T Int:=
 .cc (dz4 (c.1,c.2.1,c.2.2)) fun d=>
 .br (!d)
 (.ret 0)
 (.ix 0 3 rfl<|
 .ix 0 3 rfl<|
 .ix 1 3 rfl<|
 .ix 1 3 rfl<|
 .ix 2 3 rfl<|
 .ix 2 3 rfl<|
 .name 3016 ((i64.wrap ((i64.wrap ((i64.wrap (c.1 * c.1))+(i64.wrap (c.2.1 * c.2.1))))+(i64.wrap (c.2.2 * c.2.2))))) fun e=>
 .cc (Czv e) fun f=>
 .ret f)
noncomputable def qz8 (c):=
 mkD Tryz.func175 (xzo c) 0 [.pure (az1 c)] [] (fun r=>pz r) (fun _=>[])
noncomputable def kz9 (c:A0)(d:Int)(e:Int):T A0:=let f:=e.toNat;.grd (c.length * 8≤140737488355328/\c.length≤maxLen)<|
 .loop (fun (g:Ak)=>⟨[(1,pz d),(2,pz e),(7,.vec 0),(8,pz g.2.1),(9,pz g.2.2)],[(0,vecO 1 az3 g.1 2)],[],1⟩)
 (.exit 0) (fun (g:A2)=>⟨[(2,pz e),(7,.vec 0),(8,pz g.2)],[(0,vecO 1 az3 g.1 2)],[],1⟩)
 (fun g=>let h:=(g.2.2).toNat;let i:=g.1.getD h default;let j:=i64.wrap ((i64.wrap (i * d)).tdiv 256);.br (decide (g.2.2<(g.1.length:Int)))
 (.gg g.2.2 g.1.length<|
 .ok ((256:Int)≠0) (by decide)<|
 .gg g.2.2 g.1.length<|
 .name 7005 ((i64.wrap (i-j))) fun k=>
 .gh g.2.2 g.1.length<|
 .conv 7007 (hz1 1 az3 g.1 2 h k)<|
 .gi (g.2.2) g.1.length<|
 .name 8002 ((i64.wrap (g.2.1+j))) fun m=>
 .nn ((g.1.set h k),m,(i64.wrap (g.2.2+1))))
 (.oo (g.1,g.2.1)))
 (c,0,0) [] fun g=>let h:=i64.wrap ((g.1.getD f default)+g.2);
 .gg e g.1.length<|
 .gh e g.1.length<|
 .conv 9007 (hz1 1 az3 g.1 2 f h)<|
 .gi (e) g.1.length<|
 .ret (g.1.set f h)
noncomputable def kz8 (c)(d)(e):=
 mkD Tryz.func176 (kz9 c d e) 0 [.pure (encL 1 az3 c),pz d,pz e] [] (fun _=>.vec 0) (fun r=>[(0,vecO 1 az3 r 2)])
set_option maxHeartbeats 8000000 in
set_option maxRecDepth 20000 in
noncomputable def izg (c:Am)(d:Am)(e:Int)(f:Int):T czu:=let g:=encL 3 az1 c;let h:=encL 3 az1 d;let i:=(c.length:Int);let j:=(d.length:Int);let k:=List.replicate i.toNat (0:Int);let m:=List.replicate j.toNat (0:Int);.cut 2 (fun (n:Bool)=>⟨[(0,.pure g),(1,.pure h),(2,pz e),(3,pz f),(8,.ptr 0 0),(43,.pure (.bool n))],[(0,.box [pz 0,pz 0,pz 0,pz 0,.vec 1,.vec 2,pz 0]),(1,.nilv),(2,.nilv)],[],3⟩)
 (.cc (Bz1 c) fun n=>
 .br (!n)
 (.oo true)
 (.cc (Bz1 d) fun s=>
 .br (!s)
 (.oo true)
 (.br (decide (e<0))
 (.oo true)
 (.br (decide (e>2097152))
 (.oo true)
 (.br (decide (f<0))
 (.oo true)
 (.oo (decide (f>64)))))))) fun n=>
 .br n
 (.ret (⟨0,(0,0,0),nl,nl,0⟩:czu))
 (.conv 3002 (Lzt 1 az3 2 i.toNat 0)<|
 .grd (0≤i/\i≤i/\i≤9223372036854775807/\i * 8≤140737488355328)<|
 .conv 3005 (Lzt 1 az3 2 j.toNat 0)<|
 .grd (0≤j/\j≤j/\j≤9223372036854775807/\j * 8≤140737488355328)<|
 .gh (0:Int) (k.length)<|
 .conv 4005 (hz1 1 az3 k 2 ((0:Int).toNat) 65536)<|
 .gi (0:Int) (k.length)<|
 .gh (0:Int) (m.length)<|
 .conv 4007 (hz1 1 az3 m 2 ((0:Int).toNat) 65536)<|
 .gi (0:Int) (m.length)<|
 .loop (fun (s:(Int×Int×Int×A0×A0×Int))=>⟨[(0,.pure g),(1,.pure h),(2,pz e),(3,pz f),(8,.ptr 0 0),(9,.ptr 3 0)],[(0,.box [pz 0,pz 0,pz 0,pz 0,.vec 1,.vec 2,pz 0]),(1,.nilv),(2,.nilv),(3,.box [pz 0,pz s.1,pz s.2.1,pz s.2.2.1,.vec 4,.vec 5,pz s.2.2.2.2.2]),(4,vecO 1 az3 s.2.2.2.1 2),(5,vecO 1 az3 s.2.2.2.2.1 2)],[],6⟩)
 .ret (fun (_:U0)=>⟨[],[],[],0⟩)
 (fun s=>.cc (ozy c s.2.2.2.1) fun t=>
 .cc (ozy d s.2.2.2.2.1) fun w=>
 .cc (kza t w) fun y=>let z:=i64.wrap (y.1.tdiv 65536);let aa:=i64.wrap (y.2.1.tdiv 65536);let ab:=i64.wrap (y.2.2.tdiv 65536);
 .cc (qzb y e) fun ac=>
 .br ac
 (.ff (⟨2,(s.1,s.2.1,s.2.2.1),s.2.2.2.1,s.2.2.2.2.1,s.2.2.2.2.2⟩:czu))
 (.ix 0 3 rfl<|
 .ok ((65536:Int)≠0) (by decide)<|
 .ix 1 3 rfl<|
 .ok ((65536:Int)≠0) (by decide)<|
 .ix 2 3 rfl<|
 .ok ((65536:Int)≠0) (by decide)<|
 .cc (gzk (z,aa,ab)) fun ad=>let ae:=(⟨0,ad.1,s.2.2.2.1,s.2.2.2.2.1,s.2.2.2.2.2⟩:czu);
 .br (!ad.2)
 (.ff ae)
 (.cc (ezv ad.1 c 1) fun af=>let ag:=c.getD (af.toNat) default;
 .cc (ezv ad.1 d (-1)) fun ah=>let ai:=d.getD (ah.toNat) default;
 .gh af c.length<|
 .cc (hz8 ad.1 ag) fun aj=>
 .gh ah d.length<|
 .cc (hz8 ad.1 ai) fun ak=>
 .cc (qz8 ad.1) fun al=>
 .br (decide ((i64.wrap (aj-ak))>(i64.wrap (al * e))))
 (.ff (⟨1,ad.1,s.2.2.2.1,s.2.2.2.2.1,s.2.2.2.2.2⟩:czu))
 (.gh af c.length<|
 .gh ah d.length<|
 .cc (kza ag ai) fun am=>
 .cc (kza (z,aa,ab) am) fun an=>
 .cc (hz8 (z,aa,ab) an) fun ao=>
 .cc (hz8 an an) fun ap=>let aq:=max 1 (i64.wrap (ap.tdiv 256));let ar:=min 256 (i64.wrap (ao.tdiv aq));
 .cut 1 (fun (au:Bool)=>⟨[(0,.pure g),(1,.pure h),(2,pz e),(3,pz f),(8,.ptr 0 0),(9,.ptr 3 0),(14,pz af),(15,pz ah),(17,pz ao),(18,pz ap),(142,.pure (.bool au))],[(0,.box [pz 0,pz 0,pz 0,pz 0,.vec 1,.vec 2,pz 0]),(1,.nilv),(2,.nilv),(3,.box [pz 0,pz ad.1.1,pz ad.1.2.1,pz ad.1.2.2,.vec 4,.vec 5,pz s.2.2.2.2.2]),(4,vecS 1 az3 s.2.2.2.1 2),(5,vecS 1 az3 s.2.2.2.2.1 2)],[],6⟩)
 (.br (decide (s.2.2.2.2.2≥f))
 (.oo true)
 (.oo (decide (ao≤0)))) fun au=>
 .br au
 (.ff ae)
 (.ok ((256:Int)≠0) (by decide)<|
 .grd (aq≠0)<|
 .br (ar==0)
 (.ff ae)
 (.call (kz8 s.2.2.2.1 ar af) [] fun av=>
 .call (kz8 s.2.2.2.2.1 ar ah) [] fun aw=>
 .nn (ad.1.1,ad.1.2.1,ad.1.2.2,av,aw,(i64.wrap (s.2.2.2.2.2+1)))))))))
 (0,0,0,(k.set ((0:Int).toNat) 65536),(m.set ((0:Int).toNat) 65536),0) [] fun _=>
 .stop)
noncomputable def ezi (c)(d)(e)(f):=
 mkD Tryz.func142 (izg c d e f) 0 [.pure (encL 3 az1 c),.pure (encL 3 az1 d),pz e,pz f] [] (fun r=>.pure (Hzo r)) (fun _=>[])
noncomputable def kz6 (c:As)(d:Int)(e:As)(f:Int)(g:Am):T Am:=let h:=encL 6 az2 c;let i:=encL 6 az2 e;let j:=encL 3 az1 g;.cut 2 (fun (k:Bool)=>⟨[(0,.pure h),(1,pz d),(2,.pure i),(3,pz f),(4,.pure j),(33,.pure (.bool k))],[],[],0⟩)
 (.cc (dzr c) fun k=>
 .br (!k)
 (.oo true)
 (.cc (dzr e) fun m=>
 .br (!m)
 (.oo true)
 (.cc (ezj d) fun n=>
 .br (!n)
 (.oo true)
 (.cc (ezj f) fun s=>
 .oo (!s))))) fun k=>
 .br k
 (.ret nl)
 (.loop (fun (m:An)=>⟨[(0,.pure h),(1,pz d),(2,.pure i),(3,pz f),(4,.pure j),(11,.vec 0),(12,pz m.2)],[(0,vecO 3 az1 m.1 78)],[],1⟩)
 (.exit 0) (fun (m:Am)=>⟨[(0,.pure h),(1,pz d),(2,.pure i),(3,pz f),(11,.vec 0)],[(0,vecO 3 az1 m 78)],[],1⟩)
 (fun m=>let n:=g.getD ((m.2).toNat) default;let s:=([n]:Am);let t:=m.1.length+s.length;.br (decide (m.2<(g.length:Int)))
 (.cut 0 (fun (w:Am)=>⟨[(0,.pure h),(1,pz d),(2,.pure i),(3,pz f),(4,.pure j),(11,.vec 0),(12,pz m.2)],[(0,vecO 3 az1 w 78)],[],1⟩)
 (.gh m.2 g.length<|
 .cc (dz4 n) fun w=>
 .br w
 (.gh m.2 g.length<|
 .conv 8005 (cz5 3 az1 s 78)<|
 .conv 8006 (dzi 3 az1 m.1 s 78)<|
 .grd (t * 24≤140737488355328/\t≤maxLen)<|
 .oo (m.1++s))
 (.oo m.1)) fun w=>
 .nn (w,(i64.wrap (m.2+1))))
 (.oo m.1))
 (nl,0) [] fun m=>
 .cut 0 (fun (n:Am)=>⟨[(0,.pure h),(1,pz d),(2,.pure i),(3,pz f),(11,.vec 0)],[(0,vecO 3 az1 n 78)],[],1⟩)
 (.cc (Fzk c e) fun n=>let s:=([n.1]:Am);let t:=m.length+s.length;
 .br n.2
 (.conv 11002 (cz5 3 az1 s 78)<|
 .conv 11003 (dzi 3 az1 m s 78)<|
 .grd (t * 24≤140737488355328/\t≤maxLen)<|
 .oo (m++s))
 (.oo m)) fun n=>
 .cc (ref14_Axes_C) fun s=>let t:=n++s;let w:=n.length+s.length;
 .conv 12002 (dzi 3 az1 n s 78)<|
 .grd (w * 24≤140737488355328/\w≤maxLen)<|
 .cc (dzc c) fun y=>
 .cc (dzc e) fun z=>
 .cc (ezi y z (i64.wrap (d+f)) 64) fun aa=>let ab:=([aa.Normal]:Am);let ac:=t.length+ab.length;
 .cut 0 (fun (ad:Am)=>⟨[(11,.vec 0)],[(0,vecO 3 az1 ad 78)],[],1⟩)
 (.cc (dz4 aa.Normal) fun ad=>
 .br ad
 (.conv 15003 (cz5 3 az1 ab 78)<|
 .conv 15004 (dzi 3 az1 t ab 78)<|
 .grd (ac * 24≤140737488355328/\ac≤maxLen)<|
 .oo (t++ab))
 (.oo t)) fun ad=>
 .ret ad)
noncomputable def qz9 (c)(d)(e)(f)(g):=
 mkD Tryz.func166 (kz6 c d e f g) 0 [.pure (encL 6 az2 c),pz d,.pure (encL 6 az2 e),pz f,.pure (encL 3 az1 g)] [] (fun r=>.pure (encL 3 az1 r)) (fun _=>[])
noncomputable def Bz0 (c:Al)(d:Ar):T Ah:=let e:=i64.wrap (c.1 * d.1.Lo);let f:=i64.wrap (c.1 * d.1.Hi);let g:=i64.wrap (c.2.1 * d.2.1.Lo);let h:=i64.wrap (c.2.1 * d.2.1.Hi);let i:=i64.wrap (c.2.2 * d.2.2.Lo);let j:=i64.wrap (c.2.2 * d.2.2.Hi);.cut 2 (fun (k:Bool)=>⟨[(2,.ptr 0 0),(3,.ptr 1 0),(18,.pure (.bool k))],[(0,.box [pz c.1,pz c.2.1,pz c.2.2]),(1,.box [pz d.1.Lo,pz d.1.Hi,pz d.2.1.Lo,pz d.2.1.Hi,pz d.2.2.Lo,pz d.2.2.Hi])],[],2⟩)
 (.cc (dz4 c) fun k=>
 .br (!k)
 (.oo true)
 (.cc (ozw d) fun m=>
 .oo (!m))) fun k=>
 .br k
 (.ret (0,0))
 (.unroll 4<|
 .known true<|
 .ix 0 3 rfl<|
 .ix 0 3 rfl<|
 .ix 0 3 rfl<|
 .ix 0 3 rfl<|
 .name 8004 ((i64.wrap (0+(min e f)))) fun m=>
 .name 9004 ((i64.wrap (0+(max e f)))) fun n=>
 .lit 6001 (1)<|
 .known true<|
 .ix 1 3 rfl<|
 .ix 1 3 rfl<|
 .ix 1 3 rfl<|
 .ix 1 3 rfl<|
 .name 8004 ((i64.wrap (m+(min g h)))) fun s=>
 .name 9004 ((i64.wrap (n+(max g h)))) fun t=>
 .lit 6001 (2)<|
 .known true<|
 .ix 2 3 rfl<|
 .ix 2 3 rfl<|
 .ix 2 3 rfl<|
 .ix 2 3 rfl<|
 .name 8004 ((i64.wrap (s+(min i j)))) fun w=>
 .name 9004 ((i64.wrap (t+(max i j)))) fun y=>
 .lit 6001 (3)<|
 .known false<|
 .ret (w,y))
noncomputable def Azz (c)(d):=
 mkD Tryz.func248 (Bz0 c d) 0 [.pure (az1 c),.pure (az2 d)] [] (fun r=>.tup [pz r.1,pz r.2]) (fun _=>[])
noncomputable def uzi (c:Al)(d:As):T Aw:=let e:=encL 6 az2 d;let f:Nat×Res:=(0,.box [pz c.1,pz c.2.1,pz c.2.2]);.cut 2 (fun (g:Bool)=>⟨[(1,.pure e),(2,.ptr 0 0),(19,.pure (.bool g))],[f],[],1⟩)
 (.cc (dz4 c) fun g=>
 .br (!g)
 (.oo true)
 (.cc (dzr d) fun h=>
 .oo (!h))) fun g=>
 .br g
 (.ret (0,0,false))
 (.loop (fun (h:Al)=>⟨[(1,.pure e),(2,.ptr 0 0),(7,pz h.1),(8,pz h.2.1),(9,pz h.2.2)],[f],[],1⟩)
 (.exit 0) (fun (h:Ah)=>⟨[(7,pz h.1),(8,pz h.2)],[],[],0⟩)
 (fun h=>.br (decide (h.2.2<(d.length:Int)))
 (.cut 0 (fun (i:Ah)=>⟨[(1,.pure e),(2,.ptr 0 0),(7,pz i.1),(8,pz i.2),(9,pz h.2.2)],[f],[],1⟩)
 (.gh h.2.2 d.length<|
 .cc (Azz c (d.getD ((h.2.2).toNat) default)) fun i=>
 .cut 0 (fun (j:Bool)=>⟨[(1,.pure e),(2,.ptr 0 0),(7,pz h.1),(8,pz h.2.1),(9,pz h.2.2),(10,pz i.1),(41,.pure (.bool j))],[f],[],1⟩)
 (.br (h.2.2==0)
 (.oo true)
 (.oo (decide (i.1<h.1)))) fun j=>
 .br j
 (.oo (i.1,h.2.2))
 (.oo (h.1,h.2.1))) fun i=>
 .nn (i.1,i.2,(i64.wrap (h.2.2+1))))
 (.oo (h.1,h.2.1)))
 (0,0,0) [] fun h=>
 .ret (h.1,h.2,true))
noncomputable def Czi (c)(d):=
 mkD Tryz.func215 (uzi c d) 0 [.pure (az1 c),.pure (encL 6 az2 d)] [] (fun r=>.tup [pz r.1,pz r.2.1,.pure (.bool r.2.2)]) (fun _=>[])
noncomputable def nz3 (c:Al)(d:As):T Aw:=let e:=encL 6 az2 d;let f:Nat×Res:=(0,.box [pz c.1,pz c.2.1,pz c.2.2]);.cut 2 (fun (g:Bool)=>⟨[(1,.pure e),(2,.ptr 0 0),(19,.pure (.bool g))],[f],[],1⟩)
 (.cc (dz4 c) fun g=>
 .br (!g)
 (.oo true)
 (.cc (dzr d) fun h=>
 .oo (!h))) fun g=>
 .br g
 (.ret (0,0,false))
 (.loop (fun (h:Al)=>⟨[(1,.pure e),(2,.ptr 0 0),(7,pz h.1),(8,pz h.2.1),(9,pz h.2.2)],[f],[],1⟩)
 (.exit 0) (fun (h:Ah)=>⟨[(7,pz h.1),(8,pz h.2)],[],[],0⟩)
 (fun h=>.br (decide (h.2.2<(d.length:Int)))
 (.cut 0 (fun (i:Ah)=>⟨[(1,.pure e),(2,.ptr 0 0),(7,pz i.1),(8,pz i.2),(9,pz h.2.2)],[f],[],1⟩)
 (.gh h.2.2 d.length<|
 .cc (Azz c (d.getD ((h.2.2).toNat) default)) fun i=>
 .cut 0 (fun (j:Bool)=>⟨[(1,.pure e),(2,.ptr 0 0),(7,pz h.1),(8,pz h.2.1),(9,pz h.2.2),(11,pz i.2),(41,.pure (.bool j))],[f],[],1⟩)
 (.br (h.2.2==0)
 (.oo true)
 (.oo (decide (i.2>h.1)))) fun j=>
 .br j
 (.oo (i.2,h.2.2))
 (.oo (h.1,h.2.1))) fun i=>
 .nn (i.1,i.2,(i64.wrap (h.2.2+1))))
 (.oo (h.1,h.2.1)))
 (0,0,0) [] fun h=>
 .ret (h.1,h.2,true))
noncomputable def wz1 (c)(d):=
 mkD Tryz.func216 (nz3 c d) 0 [.pure (az1 c),.pure (encL 6 az2 d)] [] (fun r=>.tup [pz r.1,pz r.2.1,.pure (.bool r.2.2)]) (fun _=>[])
noncomputable def rzr (c:Al)(d:As)(e:Int)(f:As)(g:Int):T Ai:=
 .cc (Czi c d) fun h=>
 .cc (wz1 c f) fun i=>
 .cut 1 (fun (j:Bool)=>⟨[(2,pz e),(4,pz g),(5,.ptr 0 0),(12,pz h.1),(15,pz i.1),(47,.pure (.bool j))],[(0,.box [pz c.1,pz c.2.1,pz c.2.2])],[],1⟩)
 (.br (!h.2.2)
 (.oo true)
 (.br (!i.2.2)
 (.oo true)
 (.cc (ezj e) fun j=>
 .br (!j)
 (.oo true)
 (.cc (ezj g) fun k=>
 .oo (!k))))) fun j=>
 .br j
 (.ret (0,false))
 (.cc (qz8 c) fun k=>
 .ret ((i64.wrap ((i64.wrap (h.1-i.1))- (i64.wrap (k * (i64.wrap (e+g)))))),true))
noncomputable def Az4 (c)(d)(e)(f)(g):=
 mkD Tryz.func165 (rzr c d e f g) 0 [.pure (az1 c),.pure (encL 6 az2 d),pz e,.pure (encL 6 az2 f),pz g] [] (fun r=>.tup [pz r.1,.pure (.bool r.2)]) (fun _=>[])
noncomputable def lzd (c:Al)(d:As)(e:Int)(f:As)(g:Int):T Bool:=
 .cc (Az4 c d e f g) fun h=>
 .br h.2
 (.ret (decide (h.1>0)))
 (.ret false)
noncomputable def lzc (c)(d)(e)(f)(g):=
 mkD Tryz.func140 (lzd c d e f g) 0 [.pure (az1 c),.pure (encL 6 az2 d),pz e,.pure (encL 6 az2 f),pz g] [] (fun r=>.pure (.bool r)) (fun _=>[])
noncomputable def uzp (c:Am)(d:As)(e:Int)(f:As)(g:Int):T Ai:=
 .loop (fun (h:Int)=>⟨[(0,.pure (encL 3 az1 c)),(1,.pure (encL 6 az2 d)),(2,pz e),(3,.pure (encL 6 az2 f)),(4,pz g),(12,pz h)],[],[],0⟩)
 (.exit 0) (fun (_:U0)=>⟨[],[],[],0⟩)
 (fun h=>.br (decide (h<(c.length:Int)))
 (.gh h c.length<|
 .cc (lzc (c.getD (h.toNat) default) d e f g) fun i=>
 .br i
 (.ff (h,true))
 (.nn (i64.wrap (h+1))))
 (.oo .u))
 0 [] fun _=>
 .ret (0,false)
noncomputable def Czn (c)(d)(e)(f)(g):=
 mkD Tryz.func167 (uzp c d e f g) 0 [.pure (encL 3 az1 c),.pure (encL 6 az2 d),pz e,.pure (encL 6 az2 f),pz g] [] (fun r=>.tup [pz r.1,.pure (.bool r.2)]) (fun _=>[])
noncomputable def kz7 (c:As)(d:Int)(e:As)(f:Int)(g:Am):T Aq:=
 .cc (qz9 c d e f g) fun h=>
 .cc (Czn h c d e f) fun i=>
 .br (!i.2)
 (.ret ((0,0,0),false))
 (.gh i.1 h.length<|
 .ret ((h.getD ((i.1).toNat) default),true))
noncomputable def qza (c)(d)(e)(f)(g):=
 mkD Tryz.func141 (kz7 c d e f g) 0 [.pure (encL 6 az2 c),pz d,.pure (encL 6 az2 e),pz f,.pure (encL 3 az1 g)] [] (fun r=>.tup [.pure (az1 r.1),.pure (.bool r.2)]) (fun _=>[])
set_option maxHeartbeats 8000000 in
set_option maxRecDepth 20000 in
noncomputable def ozv (c:As)(d:A0):T (Ar×Int×Bool):=let e:=encL 6 az2 c;let f:=encL 1 az3 d;let g:=(d.length:Nat);let h:=(c.length:Nat);.cut 2 (fun (i:Bool)=>⟨[(0,.pure e),(1,.pure f),(4,.ptr 0 0),(21,.pure (.bool i))],[(0,.box [pz 0,pz 0,pz 0,pz 0,pz 0,pz 0])],[],1⟩)
 (.cc (dzr c) fun i=>
 .br (!i)
 (.oo true)
 (.oo ((g:Int) !=(h:Int)))) fun i=>
 .br i
 (.ret (((⟨0,0⟩:az0),(⟨0,0⟩:az0),(⟨0,0⟩:az0)),0,false))
 (.loop (fun (j:Ah)=>⟨[(0,.pure e),(1,.pure f),(4,.ptr 0 0),(7,pz j.1),(8,pz j.2)],[(0,.box [pz 0,pz 0,pz 0,pz 0,pz 0,pz 0])],[],1⟩)
 (.exit 0) (fun (j:Int)=>⟨[(0,.pure e),(1,.pure f),(4,.ptr 0 0),(7,pz j)],[(0,.box [pz 0,pz 0,pz 0,pz 0,pz 0,pz 0])],[],1⟩)
 (fun j=>let k:=d.getD ((j.2).toNat) default;.br (decide (j.2<(g:Int)))
 (.cut 2 (fun (m:Bool)=>⟨[(0,.pure e),(1,.pure f),(4,.ptr 0 0),(7,pz j.1),(8,pz j.2),(42,.pure (.bool m))],[(0,.box [pz 0,pz 0,pz 0,pz 0,pz 0,pz 0])],[],1⟩)
 (.gh j.2 d.length<|
 .br (decide (k<0))
 (.oo true)
 (.gh j.2 d.length<|
 .oo (decide (k>(i64.wrap (65536-j.1)))))) fun m=>
 .br m
 (.ff (((⟨0,0⟩:az0),(⟨0,0⟩:az0),(⟨0,0⟩:az0)),0,false))
 (.gh j.2 d.length<|
 .nn ((i64.wrap (j.1+k)),(i64.wrap (j.2+1)))))
 (.oo j.1))
 (0,0) [] fun j=>
 .br (decide (j<1))
 (.ret (((⟨0,0⟩:az0),(⟨0,0⟩:az0),(⟨0,0⟩:az0)),0,false))
 (.loop (fun (k:B4)=>⟨[(0,.pure e),(1,.pure f),(4,.ptr 0 0),(7,pz j),(9,.ptr 1 0),(10,pz k.2.2.2.2.2.2)],[(0,.box [pz 0,pz 0,pz 0,pz 0,pz 0,pz 0]),(1,.box [pz k.1,pz k.2.1,pz k.2.2.1,pz k.2.2.2.1,pz k.2.2.2.2.1,pz k.2.2.2.2.2.1])],[],2⟩)
 (.exit 2) (fun (k:B2)=>⟨[(4,.ptr 0 0),(7,pz j),(9,.ptr 1 0)],[(0,.box [pz 0,pz 0,pz 0,pz 0,pz 0,pz 0]),(1,.box [pz k.1,pz k.2.1,pz k.2.2.1,pz k.2.2.2.1,pz k.2.2.2.2.1,pz k.2.2.2.2.2])],[],2⟩)
 (fun k=>let m:=(k.2.2.2.2.2.2).toNat;let n:=d.getD m default;let s:=c.getD m default;.br (decide (k.2.2.2.2.2.2<(h:Int)))
 (.unroll 4<|
 .known true<|
 .ix 0 3 rfl<|
 .gh k.2.2.2.2.2.2 d.length<|
 .gh k.2.2.2.2.2.2 c.length<|
 .ix 0 3 rfl<|
 .name 19015 ((i64.wrap (n * (s.1.Lo)))) fun t=>
 .name 19016 ((i64.wrap (k.1+t))) fun w=>
 .ix 0 3 rfl<|
 .ix 0 3 rfl<|
 .gh k.2.2.2.2.2.2 d.length<|
 .gh k.2.2.2.2.2.2 c.length<|
 .ix 0 3 rfl<|
 .name 20015 ((i64.wrap (n * (s.1.Hi)))) fun y=>
 .name 20016 ((i64.wrap (k.2.1+y))) fun z=>
 .ix 0 3 rfl<|
 .lit 18001 (1)<|
 .known true<|
 .ix 1 3 rfl<|
 .gh k.2.2.2.2.2.2 d.length<|
 .gh k.2.2.2.2.2.2 c.length<|
 .ix 1 3 rfl<|
 .name 19015 ((i64.wrap (n * (s.2.1.Lo)))) fun aa=>
 .name 19016 ((i64.wrap (k.2.2.1+aa))) fun ab=>
 .ix 1 3 rfl<|
 .ix 1 3 rfl<|
 .gh k.2.2.2.2.2.2 d.length<|
 .gh k.2.2.2.2.2.2 c.length<|
 .ix 1 3 rfl<|
 .name 20015 ((i64.wrap (n * (s.2.1.Hi)))) fun ac=>
 .name 20016 ((i64.wrap (k.2.2.2.1+ac))) fun ad=>
 .ix 1 3 rfl<|
 .lit 18001 (2)<|
 .known true<|
 .ix 2 3 rfl<|
 .gh k.2.2.2.2.2.2 d.length<|
 .gh k.2.2.2.2.2.2 c.length<|
 .ix 2 3 rfl<|
 .name 19015 ((i64.wrap (n * (s.2.2.Lo)))) fun ae=>
 .name 19016 ((i64.wrap (k.2.2.2.2.1+ae))) fun af=>
 .ix 2 3 rfl<|
 .ix 2 3 rfl<|
 .gh k.2.2.2.2.2.2 d.length<|
 .gh k.2.2.2.2.2.2 c.length<|
 .ix 2 3 rfl<|
 .name 20015 ((i64.wrap (n * (s.2.2.Hi)))) fun ag=>
 .name 20016 ((i64.wrap (k.2.2.2.2.2.1+ag))) fun ah=>
 .ix 2 3 rfl<|
 .lit 18001 (3)<|
 .known false<|
 .nn (w,z,ab,ad,af,ah,(i64.wrap (k.2.2.2.2.2.2+1))))
 (.oo (k.1,k.2.1,k.2.2.1,k.2.2.2.1,k.2.2.2.2.1,k.2.2.2.2.2.1)))
 (0,0,0,0,0,0,0) [] fun k=>
 .ret (((⟨k.1,k.2.1⟩:az0),(⟨k.2.2.1,k.2.2.2.1⟩:az0),(⟨k.2.2.2.2.1,k.2.2.2.2.2⟩:az0)),j,true)))
noncomputable def ozu (c)(d):=
 mkD Tryz.func223 (ozv c d) 0 [.pure (encL 6 az2 c),.pure (encL 1 az3 d)] [] (fun r=>.tup [.pure (az2 r.1),pz r.2.1,.pure (.bool r.2.2)]) (fun _=>[])
noncomputable def Pzv (c:Int):T Int:=
 .ret (max c (i64.wrap (0-c)))
noncomputable def hz9 (c):=
 mkD Tryz.func224 (Pzv c) 0 [pz c] [] (fun r=>pz r) (fun _=>[])
noncomputable def izf (c:A0)(d:A0)(e:As)(f:Int)(g:As)(h:Int):T Ai:=let i:=i64.wrap (f+h);.cc (ozu e c) fun j=>
 .cc (ozu g d) fun k=>
 .cut 1 (fun (m:Bool)=>⟨[(3,pz f),(5,pz h),(14,.ptr 0 0),(15,pz j.2.1),(17,.ptr 1 0),(57,.pure (.bool m))],[(0,.box [pz j.1.1.Lo,pz j.1.1.Hi,pz j.1.2.1.Lo,pz j.1.2.1.Hi,pz j.1.2.2.Lo,pz j.1.2.2.Hi]),(1,.box [pz k.1.1.Lo,pz k.1.1.Hi,pz k.1.2.1.Lo,pz k.1.2.1.Hi,pz k.1.2.2.Lo,pz k.1.2.2.Hi])],[],2⟩)
 (.br (!j.2.2)
 (.oo true)
 (.br (!k.2.2)
 (.oo true)
 (.br (j.2.1 !=k.2.1)
 (.oo true)
 (.cc (ezj f) fun m=>
 .br (!m)
 (.oo true)
 (.cc (ezj h) fun n=>
 .oo (!n)))))) fun m=>
 .br m
 (.ret (0,false))
 (.unroll 4<|
 .known true<|
 .ix 0 3 rfl<|
 .ix 0 3 rfl<|
 .cc (hz9 (i64.wrap (j.1.1.Lo-k.1.1.Hi))) fun n=>
 .ix 0 3 rfl<|
 .ix 0 3 rfl<|
 .cc (hz9 (i64.wrap (j.1.1.Hi-k.1.1.Lo))) fun s=>
 .cc (azu (max n s) j.2.1) fun t=>
 .br (decide (t>i))
 (.ret ((-1),true))
 (.name 12004 ((i64.wrap ((i64.wrap (i * i))- (i64.wrap (t * t))))) fun w=>
 .lit 8001 (1)<|
 .known true<|
 .ix 1 3 rfl<|
 .ix 1 3 rfl<|
 .cc (hz9 (i64.wrap (j.1.2.1.Lo-k.1.2.1.Hi))) fun y=>
 .ix 1 3 rfl<|
 .ix 1 3 rfl<|
 .cc (hz9 (i64.wrap (j.1.2.1.Hi-k.1.2.1.Lo))) fun z=>
 .cc (azu (max y z) j.2.1) fun aa=>
 .br (decide (aa>i))
 (.ret ((-1),true))
 (.name 12004 ((i64.wrap (w- (i64.wrap (aa * aa))))) fun ab=>
 .lit 8001 (2)<|
 .known true<|
 .ix 2 3 rfl<|
 .ix 2 3 rfl<|
 .cc (hz9 (i64.wrap (j.1.2.2.Lo-k.1.2.2.Hi))) fun ac=>
 .ix 2 3 rfl<|
 .ix 2 3 rfl<|
 .cc (hz9 (i64.wrap (j.1.2.2.Hi-k.1.2.2.Lo))) fun ad=>
 .cc (azu (max ac ad) j.2.1) fun ae=>
 .br (decide (ae>i))
 (.ret ((-1),true))
 (.name 12004 ((i64.wrap (ab- (i64.wrap (ae * ae))))) fun af=>
 .lit 8001 (3)<|
 .known false<|
 .ret (af,true)))))
noncomputable def mz2 (c)(d)(e)(f)(g)(h):=
 mkD Tryz.func179 (izf c d e f g h) 0 [.pure (encL 1 az3 c),.pure (encL 1 az3 d),.pure (encL 6 az2 e),pz f,.pure (encL 6 az2 g),pz h] [] (fun r=>.tup [pz r.1,.pure (.bool r.2)]) (fun _=>[])
noncomputable def gze (c:A0)(d:A0)(e:As)(f:Int)(g:As)(h:Int):T Bool:=
 .cc (mz2 c d e f g h) fun i=>
 .br i.2
 (.ret (decide (i.1≥0)))
 (.ret false)
noncomputable def fz1 (c)(d)(e)(f)(g)(h):=
 mkD Tryz.func144 (gze c d e f g h) 0 [.pure (encL 1 az3 c),.pure (encL 1 az3 d),.pure (encL 6 az2 e),pz f,.pure (encL 6 az2 g),pz h] [] (fun r=>.pure (.bool r)) (fun _=>[])
noncomputable def nz5 (c:azb)(d:A7)(e:Am):T czv:=let f:=encL 3 az1 e;let g:=(e.length:Nat);.cc (uzs c d) fun h=>let i:=encL 2 bz7 h.1;let j:=encL 2 bz7 h.2.1;
 .br (!h.2.2)
 (.ret (⟨0,nl,(⟨0,nl,nl⟩:czk)⟩:czv))
 (.loop (fun (k:(Int×Am×Int))=>⟨[(2,.pure f),(6,.ptr 0 0),(7,.pure i),(8,.pure j),(10,.ptr 4 0),(11,pz k.2.2)],[(0,.box [pz 0,.vec 1,pz 0,.vec 2,.vec 3]),(1,.nilv),(2,.nilv),(3,.nilv),(4,.box [pz k.1,.vec 5,pz 0,.vec 6,.vec 7]),(5,vecO 3 az1 k.2.1 78),(6,.nilv),(7,.nilv)],[],8⟩)
 (.exit 0) (fun (k:(Int×Am))=>⟨[(6,.ptr 0 0),(10,.ptr 4 0)],[(0,.box [pz 0,.vec 1,pz 0,.vec 2,.vec 3]),(1,.nilv),(2,.nilv),(3,.nilv),(4,.box [pz k.1,.vec 5,pz 0,.vec 6,.vec 7]),(5,vecO 3 az1 k.2 78),(6,.nilv),(7,.nilv)],[],8⟩)
 (fun k=>let m:=(k.2.2).toNat;let n:=i64.wrap (k.2.2+1);let s:=h.1.getD m default;let t:=s.points;let w:=s.radius;let y:=h.2.1.getD m default;let z:=y.points;let aa:=y.radius;.br (decide (k.2.2<(h.1.length:Int)))
 (.cut 0 (fun (ab:(Int×Am))=>⟨[(2,.pure f),(6,.ptr 0 0),(7,.pure i),(8,.pure j),(10,.ptr 4 0),(11,pz k.2.2)],[(0,.box [pz 0,.vec 1,pz 0,.vec 2,.vec 3]),(1,.nilv),(2,.nilv),(3,.nilv),(4,.box [pz ab.1,.vec 5,pz 0,.vec 6,.vec 7]),(5,vecO 3 az1 ab.2 78),(6,.nilv),(7,.nilv)],[],8⟩)
 (.cut 1 (fun (ab:Am)=>⟨[(2,.pure f),(6,.ptr 0 0),(7,.pure i),(8,.pure j),(10,.ptr 4 0),(11,pz k.2.2),(12,.pure (encL 3 az1 ab))],[(0,.box [pz 0,.vec 1,pz 0,.vec 2,.vec 3]),(1,.nilv),(2,.nilv),(3,.nilv),(4,.box [pz k.1,.vec 5,pz 0,.vec 6,.vec 7]),(5,vecO 3 az1 k.2.1 78),(6,.nilv),(7,.nilv)],[],8⟩)
 (.br (decide (k.2.2<(g:Int)))
 (.conv 10004 (Dzt 3 az1 e k.2.2 n)<|
 .grd (0≤k.2.2/\k.2.2≤n/\n≤(g:Int))<|
 .oo ((e.drop m).take (n.toNat- (k.2.2).toNat)))
 (.oo nl)) fun ab=>
 .gh k.2.2 h.1.length<|
 .gh k.2.2 h.1.length<|
 .gh k.2.2 h.2.1.length<|
 .gh k.2.2 h.2.1.length<|
 .cc (qza t w z aa ab) fun ac=>let ad:=([ac.1]:Am);let ae:=k.2.1++ad;let af:=k.2.1.length+ad.length;
 .conv 12003 (cz5 3 az1 ad 78)<|
 .conv 12004 (dzi 3 az1 k.2.1 ad 78)<|
 .grd (af * 24≤140737488355328/\af≤maxLen)<|
 .br ac.2
 (.oo (k.1,ae))
 (.gh k.2.2 h.1.length<|
 .cc (dzc t) fun ag=>
 .gh k.2.2 h.2.1.length<|
 .cc (dzc z) fun ah=>
 .gh k.2.2 h.1.length<|
 .gh k.2.2 h.2.1.length<|
 .call (ezi ag ah (i64.wrap (w+aa)) 64) [] fun ai=>
 .gh k.2.2 h.1.length<|
 .gh k.2.2 h.1.length<|
 .gh k.2.2 h.2.1.length<|
 .gh k.2.2 h.2.1.length<|
 .cc (fz1 ai.Left ai.Right t w z aa) fun aj=>
 .br aj
 (.ff (.fin (⟨2,nl,(⟨k.2.2,ai.Left,ai.Right⟩:czk)⟩:czv)))
 (.oo (0,ae)))) fun ab=>
 .nn (ab.1,ab.2,n))
 (.oo (k.1,k.2.1)))
 (1,nl,0) [] fun k=>
 .ret (⟨k.1,k.2,(⟨0,nl,nl⟩:czk)⟩:czv))
noncomputable def wz3 (c)(d)(e):=
 mkD Tryz.func106 (nz5 c d e) 0 [.pure (bzd c),.pure (encL 2 az7 d),.pure (encL 3 az1 e)] [] (fun r=>.pure (tzr r)) (fun _=>[])
set_option maxHeartbeats 8000000 in
set_option maxRecDepth 20000 in
noncomputable def kzb (a0:azb)(a1:A0)(a2:A0)(a3:Int):T bza:=
 .cut 2 (fun (y141:Bool)=>⟨[(1,.pure (encL 1 az3 a1)),(2,.pure (encL 1 az3 a2)),(3,pz a3),(4,.ptr 0 0),(8,.ptr 1 0),(28,.pure (.bool y141))],[(0,.box [.pure (encL 12 azd a0.Robot.Joints),.pure (encL 5 azg a0.Robot.Masses),.pure (encL 3 azh a0.Shapes),.pure (encL 2 azo a0.Skips)]),(1,.box [pz 0,.vec 2,pz 0,pz 0,.vec 3,pz 0,.vec 4,.vec 5]),(2,.nilv),(3,.nilv),(4,.nilv),(5,.nilv)],[],6⟩)
 (.call (nzt (⟨a0.Robot,a0.Shapes,a0.Skips⟩:azb) a1 a2) [] fun y142=>
 .br (!y142)
 (.ret (.out true))
 (.br (decide (a3<0))
 (.ret (.out true))
 (.ret (.out (decide (a3>20)))))) fun y141=>
 .br y141
 (.ret (⟨0,nl,(⟨0,0,nl⟩:az4),(⟨0,nl,nl⟩:czk)⟩:bza))
 (.conv 4001 (az5h 3 hz3 ([(⟨0,0,nl⟩:azp)]:Ag) 159 [.agg [.int .i64 0,.int .i64 0,.lst 0 0 fun _=>.unk]] (by kernel_rfl))<|
 .loop (fun (x227:(Ab×Ag))=>⟨[(1,.pure (encL 1 az3 a1)),(2,.pure (encL 1 az3 a2)),(3,pz a3),(4,.ptr 0 0),(8,.ptr 1 0),(9,.vec 6),(10,.vec 7)],[(0,.box [.pure (encL 12 azd a0.Robot.Joints),.pure (encL 5 azg a0.Robot.Masses),.pure (encL 3 azh a0.Shapes),.pure (encL 2 azo a0.Skips)]),(1,.box [pz 0,.vec 2,pz 0,pz 0,.vec 3,pz 0,.vec 4,.vec 5]),(2,.nilv),(3,.nilv),(4,.nilv),(5,.nilv),(6,vecO 3 azf x227.1 106),(7,vecO 3 hz3 x227.2 159)],[],8⟩)
 (.exit 0) (fun (y248:Ab)=>⟨[(8,.ptr 0 0),(9,.vec 5)],[(0,.box [pz 0,.vec 1,pz 0,pz 0,.vec 2,pz 0,.vec 3,.vec 4]),(1,.nilv),(2,.nilv),(3,.nilv),(4,.nilv),(5,vecO 3 azf y248 106)],[],6⟩)
 (fun x227=>.br (decide ((x227.2.length:Int)>0))
 (.grd (0≤(i64.wrap ((x227.2.length:Int)-1))/\(i64.wrap ((x227.2.length:Int)-1))<(x227.2.length:Int))<|
 .grd (((i64.wrap ((x227.2.length:Int)-1))).toNat<x227.2.length)<|
 .conv 7004 (Wz7 3 hz3 x227.2 159 (i64.wrap ((x227.2.length:Int)-1)))<|
 .grd (0≤(i64.wrap ((x227.2.length:Int)-1))/\(i64.wrap ((x227.2.length:Int)-1))≤(x227.2.length:Int)/\0≤((i64.wrap ((x227.2.length:Int)-1))).toNat)<|
 .name 8001 ((x227.2.getD (((i64.wrap ((x227.2.length:Int)-1))).toNat) default).depth) fun z251=>
 .name 8003 ((x227.2.getD (((i64.wrap ((x227.2.length:Int)-1))).toNat) default).index) fun z252=>
 .br (decide ((x227.1.length:Int)≥4096))
 (.ret (.fin (⟨0,nl,(⟨z251,z252,nl⟩:az4),(⟨0,nl,nl⟩:czk)⟩:bza)))
 (.name 11003 ((x227.2.getD (((i64.wrap ((x227.2.length:Int)-1))).toNat) default).depth) fun z256=>
 .name 11005 ((x227.2.getD (((i64.wrap ((x227.2.length:Int)-1))).toNat) default).index) fun z257=>
 .call (nzr a1 a2 z256 z257) [] fun y258=>
 .call (wz3 (⟨a0.Robot,a0.Shapes,a0.Skips⟩:azb) y258.1 ((x227.2.getD (((i64.wrap ((x227.2.length:Int)-1))).toNat) default).hints)) [] fun y260=>
 .br (y260.Kind==1)
 (.name 15002 ((x227.2.getD (((i64.wrap ((x227.2.length:Int)-1))).toNat) default).depth) fun z261=>
 .name 15004 ((x227.2.getD (((i64.wrap ((x227.2.length:Int)-1))).toNat) default).index) fun z262=>
 .conv 15008 (cz5 3 azf ([(⟨z261,z262,y260.Normals⟩:az4)]:Ab) 106)<|
 .conv 15009 (dzi 3 azf x227.1 ([(⟨z261,z262,y260.Normals⟩:az4)]:Ab) 106)<|
 .grd ((x227.1.length+([(⟨z261,z262,y260.Normals⟩:az4)]:Ab).length) * 40≤140737488355328/\(x227.1.length+([(⟨z261,z262,y260.Normals⟩:az4)]:Ab).length)≤maxLen)<|
 .ret (.next ((x227.1++([(⟨z261,z262,y260.Normals⟩:az4)]:Ab)),(x227.2.take (((i64.wrap ((x227.2.length:Int)-1))).toNat)))))
 (.br (y260.Kind==2)
 (.ret (.fin (⟨2,nl,(⟨z251,z252,nl⟩:az4),y260.Witness⟩:bza)))
 (.name 18001 ((x227.2.getD (((i64.wrap ((x227.2.length:Int)-1))).toNat) default).depth) fun z264=>
 .br (z264==a3)
 (.ret (.fin (⟨0,nl,(⟨z251,z252,nl⟩:az4),(⟨0,nl,nl⟩:czk)⟩:bza)))
 (.name 13002 ((x227.2.getD (((i64.wrap ((x227.2.length:Int)-1))).toNat) default).depth) fun z265=>
 .name 13005 ((x227.2.getD (((i64.wrap ((x227.2.length:Int)-1))).toNat) default).index) fun z266=>
 .name 13012 ((x227.2.getD (((i64.wrap ((x227.2.length:Int)-1))).toNat) default).depth) fun z267=>
 .name 13015 ((x227.2.getD (((i64.wrap ((x227.2.length:Int)-1))).toNat) default).index) fun z268=>
 .conv 13020 (cz5 3 hz3 ([(⟨(i64.wrap (z265+1)),(i64.wrap ((i64.wrap (2 * z266))+1)),y260.Normals⟩:azp),(⟨(i64.wrap (z267+1)),(i64.wrap (2 * z268)),y260.Normals⟩:azp)]:Ag) 159)<|
 .conv 13021 (dzi 3 hz3 (x227.2.take (((i64.wrap ((x227.2.length:Int)-1))).toNat)) ([(⟨(i64.wrap (z265+1)),(i64.wrap ((i64.wrap (2 * z266))+1)),y260.Normals⟩:azp),(⟨(i64.wrap (z267+1)),(i64.wrap (2 * z268)),y260.Normals⟩:azp)]:Ag) 159)<|
 .grd (((x227.2.take (((i64.wrap ((x227.2.length:Int)-1))).toNat)).length+([(⟨(i64.wrap (z265+1)),(i64.wrap ((i64.wrap (2 * z266))+1)),y260.Normals⟩:azp),(⟨(i64.wrap (z267+1)),(i64.wrap (2 * z268)),y260.Normals⟩:azp)]:Ag).length) * 40≤140737488355328/\((x227.2.take (((i64.wrap ((x227.2.length:Int)-1))).toNat)).length+([(⟨(i64.wrap (z265+1)),(i64.wrap ((i64.wrap (2 * z266))+1)),y260.Normals⟩:azp),(⟨(i64.wrap (z267+1)),(i64.wrap (2 * z268)),y260.Normals⟩:azp)]:Ag).length)≤maxLen)<|
 .ret (.next (x227.1,((x227.2.take (((i64.wrap ((x227.2.length:Int)-1))).toNat))++([(⟨(i64.wrap (z265+1)),(i64.wrap ((i64.wrap (2 * z266))+1)),y260.Normals⟩:azp),(⟨(i64.wrap (z267+1)),(i64.wrap (2 * z268)),y260.Normals⟩:azp)]:Ag)))))))))
 (.ret (.out x227.1)))
 (nl,([(⟨0,0,nl⟩:azp)]:Ag)) [] fun y248=>
 .ret (⟨1,y248,(⟨0,0,nl⟩:az4),(⟨0,nl,nl⟩:czk)⟩:bza))
noncomputable def Czq (c)(d)(e)(f):=
 mkD Tryz.func73 (kzb c d e f) 0 [.pure (bzd c),.pure (encL 1 az3 d),.pure (encL 1 az3 e),pz f] [] (fun r=>.pure (zzj r)) (fun _=>[])
noncomputable def uzw (c:az4):T Aw:=let d:=IntKind.u64.wrap (i64.wrap (20-c.Depth));let e:=IntKind.u64.wrap c.Depth;let f:=i64.wrap (1 * 2 ^ (min d.toNat 64));.cut 2 (fun (g:Bool)=>⟨[(1,.ptr 0 0),(27,.pure (.bool g))],[(0,.box [pz c.Depth,pz c.Index,.pure (encL 3 az1 c.Normals)])],[],1⟩)
 (.br (decide (c.Depth<0))
 (.oo true)
 (.br (decide (c.Depth>20))
 (.oo true)
 (.br (decide (c.Index<0))
 (.oo true)
 (.grd (0≤e)<|
 .oo (decide (c.Index≥(i64.wrap (1 * 2 ^ (min e.toNat 64))))))))) fun g=>
 .br g
 (.ret (0,0,false))
 (.grd (0≤d)<|
 .name 4003 ((i64.wrap (c.Index * f))) fun h=>
 .ret (h,f,true))
noncomputable def uzv (c):=
 mkD Tryz.func135 (uzw c) 0 [.pure (azf c)] [] (fun r=>.tup [pz r.1,pz r.2.1,.pure (.bool r.2.2)]) (fun _=>[])
noncomputable def uzx (c:Ab):T Ai:=let d:=encL 3 azf c;let e:=(c.length:Nat);.loop (fun (f:Ah)=>⟨[(0,.pure d),(4,pz f.1),(5,pz f.2)],[],[],0⟩)
 (.exit 0) (fun (f:Int)=>⟨[(0,.pure d),(4,pz f)],[],[],0⟩)
 (fun f=>.br (decide (f.2<(e:Int)))
 (.gh f.2 c.length<|
 .cc (uzv (c.getD ((f.2).toNat) default)) fun g=>
 .cut 1 (fun (h:Bool)=>⟨[(0,.pure d),(5,pz f.2),(6,pz g.1),(7,pz g.2.1),(34,.pure (.bool h))],[],[],0⟩)
 (.br (!g.2.2)
 (.oo true)
 (.br (g.1 !=f.1)
 (.oo true)
 (.oo (decide (f.2≥4096))))) fun h=>
 .br h
 (.ff (f.2,false))
 (.nn ((i64.wrap (g.1+g.2.1)),(i64.wrap (f.2+1)))))
 (.oo f.1))
 (0,0) [] fun f=>
 .ret ((e:Int),(f==1048576))
noncomputable def Czs (c):=
 mkD Tryz.func103 (uzx c) 0 [.pure (encL 3 azf c)] [] (fun r=>.tup [pz r.1,.pure (.bool r.2)]) (fun _=>[])
noncomputable def lzb (c:azb)(d:A7)(e:Am):T Bool:=let f:=encL 3 az1 e;.cc (uzs c d) fun g=>let h:=encL 2 bz7 g.1;let i:=encL 2 bz7 g.2.1;let j:=(g.1.length:Nat);
 .cut 1 (fun (k:Bool)=>⟨[(2,.pure f),(7,.pure h),(8,.pure i),(26,.pure (.bool k))],[],[],0⟩)
 (.br (!g.2.2)
 (.oo true)
 (.oo ((e.length:Int) !=(j:Int)))) fun k=>
 .br k
 (.ret false)
 (.loop (fun (m:Int)=>⟨[(2,.pure f),(7,.pure h),(8,.pure i),(10,pz m)],[],[],0⟩)
 (.exit 0) (fun (_:U0)=>⟨[],[],[],0⟩)
 (fun m=>let n:=m.toNat;let s:=g.1.getD n default;let t:=g.2.1.getD n default;.br (decide (m<(j:Int)))
 (.gh m e.length<|
 .gh m g.1.length<|
 .gh m g.1.length<|
 .gh m g.2.1.length<|
 .gh m g.2.1.length<|
 .cc (lzc (e.getD n default) (s.points) (s.radius) (t.points) (t.radius)) fun w=>
 .br (!w)
 (.ff false)
 (.nn (i64.wrap (m+1))))
 (.oo .u))
 0 [] fun _=>
 .ret true)
noncomputable def hzn (c)(d)(e):=
 mkD Tryz.func105 (lzb c d e) 0 [.pure (bzd c),.pure (encL 2 az7 d),.pure (encL 3 az1 e)] [] (fun r=>.pure (.bool r)) (fun _=>[])
noncomputable def lzf (c:azb)(d:A0)(e:A0)(f:Ab):T Ah:=
 .cc (ezo c) fun g=>
 .br (g !=0)
 (.ret (0,904))
 (.cc (nzt c d e) fun h=>
 .br (!h)
 (.ret (0,1201))
 (.cc (Czs f) fun i=>
 .br (!i.2)
 (.ret (i.1,2001))
 (.loop (fun (j:Int)=>⟨[(1,.pure (encL 1 az3 d)),(2,.pure (encL 1 az3 e)),(3,.pure (encL 3 azf f)),(4,.ptr 0 0),(12,pz j)],[(0,.box [.pure (encL 12 azd c.Robot.Joints),.pure (encL 5 azg c.Robot.Masses),.pure (encL 3 azh c.Shapes),.pure (encL 2 azo c.Skips)])],[],1⟩)
 (.exit 0) (fun (_:U0)=>⟨[],[],[],0⟩)
 (fun j=>let k:=f.getD (j.toNat) default;.br (decide (j<(f.length:Int)))
 (.gh j f.length<|
 .gh j f.length<|
 .cc (nzr d e (k.Depth) (k.Index)) fun m=>
 .gh j f.length<|
 .cc (hzn c m.1 (k.Normals)) fun n=>
 .br (!n)
 (.ff (j,2002))
 (.nn (i64.wrap (j+1))))
 (.oo .u))
 0 [] fun _=>
 .ret (0,0))))
noncomputable def tz3 (c)(d)(e)(f):=
 mkD Tryz.func72 (lzf c d e f) 0 [.pure (bzd c),.pure (encL 1 az3 d),.pure (encL 1 az3 e),.pure (encL 3 azf f)] [] (fun r=>.tup [pz r.1,pz r.2]) (fun _=>[])
noncomputable def rzv (c:azb)(d:A0)(e:A0)(f:az4)(g:az4):T (az4×Bool):=let h:=i64.wrap (f.Depth-1);let i:=i64.wrap (f.Index.tdiv 2);let j:=encL 3 az1 f.Normals;let k:=encL 3 az1 g.Normals;let m:=(⟨h,i,g.Normals⟩:az4);let n:Nat×Res:=(0,.box [.pure (encL 12 azd c.Robot.Joints),.pure (encL 5 azg c.Robot.Masses),.pure (encL 3 azh c.Shapes),.pure (encL 2 azo c.Skips)]);.cut 2 (fun (s:Bool)=>⟨[(1,.pure (encL 1 az3 d)),(2,.pure (encL 1 az3 e)),(5,.ptr 0 0),(8,.ptr 1 0),(9,.ptr 2 0),(10,.ptr 3 0),(38,.pure (.bool s))],[n,(1,.box [pz f.Depth,pz f.Index,.pure j]),(2,.box [pz g.Depth,pz g.Index,.pure k]),(3,.box [pz 0,pz 0,.vec 4]),(4,.nilv)],[],5⟩)
 (.br (f.Depth !=g.Depth)
 (.oo true)
 (.br (decide (f.Depth<1))
 (.oo true)
 (.ok ((2:Int)≠0) (by decide)<|
 .br ((f.Index.tmod 2) !=0)
 (.oo true)
 (.oo (g.Index !=(i64.wrap (f.Index+1))))))) fun s=>
 .br s
 (.ret ((⟨0,0,nl⟩:az4),false))
 (.ok ((2:Int)≠0) (by decide)<|
 .cc (nzr d e h i) fun t=>
 .cut 1 (fun (w:Bool)=>⟨[(5,.ptr 0 0),(9,.ptr 1 0),(10,.ptr 2 0),(12,.ptr 4 0),(13,.pure (encL 2 az7 t.1)),(14,.pure (.bool t.2)),(66,.pure (.bool w))],[n,(1,.box [pz g.Depth,pz g.Index,.pure k]),(2,.box [pz 0,pz 0,.vec 3]),(3,.nilv),(4,.box [pz h,pz i,.pure j])],[],5⟩)
 (.br t.2
 (.cc (hzn c t.1 f.Normals) fun w=>
 .oo w)
 (.oo false)) fun w=>
 .br w
 (.ret ((⟨h,i,f.Normals⟩:az4),true))
 (.br t.2
 (.cc (hzn c t.1 g.Normals) fun y=>
 .ret (m,y))
 (.ret (m,false))))
noncomputable def rzu (c)(d)(e)(f)(g):=
 mkD Tryz.func108 (rzv c d e f g) 0 [.pure (bzd c),.pure (encL 1 az3 d),.pure (encL 1 az3 e),.pure (azf f),.pure (azf g)] [] (fun r=>.tup [.pure (azf r.1),.pure (.bool r.2)]) (fun _=>[])
noncomputable def uzu (c:azb)(d:A0)(e:A0)(f:Ab):T Ab:=
 .cc (tz3 c d e f) fun g=>
 .br (g.2 !=0)
 (.ret f)
 (.grd (f.length * 40≤140737488355328/\f.length≤maxLen)<|
 .loop (fun (h:Ac)=>⟨[(1,.pure (encL 1 az3 d)),(2,.pure (encL 1 az3 e)),(4,.ptr 0 0),(11,.vec 1),(12,pz h.2)],[(0,.box [.pure (encL 12 azd c.Robot.Joints),.pure (encL 5 azg c.Robot.Masses),.pure (encL 3 azh c.Shapes),.pure (encL 2 azo c.Skips)]),(1,vecO 3 azf h.1 106)],[],2⟩)
 (.exit 0) (fun (h:Ab)=>⟨[(11,.vec 0)],[(0,vecO 3 azf h 106)],[],1⟩)
 (fun h=>let i:=(h.1.length:Int);let j:=i64.wrap (h.2+1);let k:=i64.wrap (h.2+2);let m:=(h.1.drop (k.toNat)).take (i.toNat-k.toNat);let n:=(h.1.drop ((0:Int).toNat)).take ((h.2).toNat- (0:Int).toNat);.br (decide (j<i))
 (.gg h.2 h.1.length<|
 .gg j h.1.length<|
 .call (rzu c d e (h.1.getD ((h.2).toNat) default) (h.1.getD (j.toNat) default)) [] fun s=>let t:=([s.1]:Ab);let w:=n++t;let y:=n.length+t.length;let z:=w.length+m.length;
 .br (!s.2)
 (.nn (h.1,j))
 (.unroll 1<|
 .conv 10002 (Dzt 3 azf h.1 (0:Int) h.2)<|
 .grd (0≤(0:Int)/\(0:Int)≤h.2/\h.2≤i)<|
 .grd (n.length * 40≤140737488355328/\n.length≤maxLen)<|
 .conv 11002 (cz5 3 azf t 106)<|
 .conv 11003 (dzi 3 azf n t 106)<|
 .grd (y * 40≤140737488355328/\y≤maxLen)<|
 .unroll 1<|
 .conv 12004 (Dzt 3 azf h.1 k i)<|
 .grd (0≤k/\k≤i/\i≤i)<|
 .conv 12005 (dzi 3 azf w m 106)<|
 .grd (z * 40≤140737488355328/\z≤maxLen)<|
 .nn ((w++m),0)))
 (.oo h.1))
 (f,0) [] fun h=>
 .ret h)
noncomputable def Czp (c)(d)(e)(f):=
 mkD Tryz.func75 (uzu c d e f) 0 [.pure (bzd c),.pure (encL 1 az3 d),.pure (encL 1 az3 e),.pure (encL 3 azf f)] [] (fun r=>.pure (encL 3 azf r)) (fun _=>[])
noncomputable def rzx (c:Am)(d:Al):T Int:=
 .loop (fun (e:Int)=>⟨[(0,.pure (encL 3 az1 c)),(3,.ptr 0 0),(5,pz e)],[(0,.box [pz d.1,pz d.2.1,pz d.2.2])],[],1⟩)
 (.exit 0) (fun (_:U0)=>⟨[],[],[],0⟩)
 (fun e=>let f:=c.getD (e.toNat) default;.br (decide (e<(c.length:Int)))
 (.gh e c.length<|
 .br (((f.1)==d.1)&&(((f.2.1)==d.2.1)&&(((f.2.2)==d.2.2)&&true)))
 (.ff e)
 (.nn (i64.wrap (e+1))))
 (.oo .u))
 0 [] fun _=>
 .ret (-1)
noncomputable def rzw (c)(d):=
 mkD Tryz.func107 (rzx c d) 0 [.pure (encL 3 az1 c),.pure (az1 d)] [] (fun r=>pz r) (fun _=>[])
noncomputable def xzv (c:Ab):T aze:=let d:=encL 3 azf c;.loop (fun (e:(Am×Ad×Int))=>⟨[(0,.pure d),(2,.ptr 0 0),(3,.ptr 3 0),(4,pz e.2.2)],[(0,.box [.vec 1,.vec 2]),(1,.nilv),(2,.nilv),(3,.box [.vec 4,.vec 5]),(4,vecS 3 az1 e.1 78),(5,vecO 3 azy e.2.1 81)],[],6⟩)
 (.exit 0) (fun (e:(Am×Ad))=>⟨[(2,.ptr 0 0),(3,.ptr 3 0)],[(0,.box [.vec 1,.vec 2]),(1,.nilv),(2,.nilv),(3,.box [.vec 4,.vec 5]),(4,vecS 3 az1 e.1 78),(5,vecO 3 azy e.2 81)],[],6⟩)
 (fun e=>let f:=c.getD ((e.2.2).toNat) default;let g:=f.Normals.length;let h:Nat×Res:=(6,.box [pz (f.Depth),pz (f.Index),.vec 7]);.br (decide (e.2.2<(c.length:Int)))
 (.gh e.2.2 c.length<|
 .gh e.2.2 c.length<|
 .loop (fun (i:(Am×A0×Int))=>⟨[(0,.pure d),(2,.ptr 0 0),(3,.ptr 3 0),(4,pz e.2.2),(5,.ptr 6 0),(6,pz i.2.2)],[(0,.box [.vec 1,.vec 2]),(1,.nilv),(2,.nilv),(3,.box [.vec 4,.vec 5]),(4,vecS 3 az1 i.1 78),(5,vecO 3 azy e.2.1 81),h,(7,vecO 1 az3 i.2.1 3)],[],8⟩)
 (.exit 2) (fun (i:(Am×A0))=>⟨[(0,.pure d),(2,.ptr 0 0),(3,.ptr 3 0),(4,pz e.2.2),(5,.ptr 6 0)],[(0,.box [.vec 1,.vec 2]),(1,.nilv),(2,.nilv),(3,.box [.vec 4,.vec 5]),(4,vecS 3 az1 i.1 78),(5,vecO 3 azy e.2.1 81),h,(7,vecO 1 az3 i.2 3)],[],8⟩)
 (fun i=>let j:=(f.Normals).getD ((i.2.2).toNat) default;let k:=([j]:Am);let m:=i.1.length+k.length;.gh e.2.2 c.length<|
 .br (decide (i.2.2<(f.Normals.length:Int)))
 (.gh e.2.2 c.length<|
 .gh i.2.2 g<|
 .call (rzw i.1 j) [] fun n=>
 .cut 0 (fun (s:An)=>⟨[(0,.pure d),(2,.ptr 0 0),(3,.ptr 3 0),(4,pz e.2.2),(5,.ptr 6 0),(6,pz i.2.2),(7,pz s.2)],[(0,.box [.vec 1,.vec 2]),(1,.nilv),(2,.nilv),(3,.box [.vec 4,.vec 5]),(4,vecS 3 az1 s.1 78),(5,vecO 3 azy e.2.1 81),h,(7,vecO 1 az3 i.2.1 3)],[],8⟩)
 (.br (decide (n<0))
 (.gh e.2.2 c.length<|
 .gh i.2.2 g<|
 .conv 12010 (cz5 3 az1 k 78)<|
 .conv 12011 (az5g 3 az1 i.1 k 78)<|
 .grd (m * 24≤140737488355328/\m≤maxLen)<|
 .oo ((i.1++k),(i.1.length:Int)))
 (.oo (i.1,n))) fun s=>let t:=([s.2]:A0);let w:=i.2.1.length+t.length;
 .conv 13003 (cz5 1 az3 t 3)<|
 .conv 13004 (dzi 1 az3 i.2.1 t 3)<|
 .grd (w * 8≤140737488355328/\w≤maxLen)<|
 .nn (s.1,(i.2.1++t),(i64.wrap (i.2.2+1))))
 (.oo (i.1,i.2.1)))
 (e.1,nl,0) [] fun i=>let j:=([(⟨f.Depth,f.Index,i.2⟩:bzv)]:Ad);let k:=e.2.1.length+j.length;
 .conv 14003 (cz5 3 azy j 81)<|
 .conv 14004 (dzi 3 azy e.2.1 j 81)<|
 .grd (k * 40≤140737488355328/\k≤maxLen)<|
 .nn (i.1,(e.2.1++j),(i64.wrap (e.2.2+1))))
 (.oo (e.1,e.2.1)))
 (nl,nl,0) [] fun e=>
 .ret (⟨e.1,e.2⟩:aze)
noncomputable def qzc (c):=
 mkD Tryz.func74 (xzv c) 0 [.pure (encL 3 azf c)] [] (fun r=>.pure (azk r)) (fun _=>[])
noncomputable def xzu (c:azb)(d:A0)(e:A0)(f:Int):T (aze×Bool):=
 .cc (Czq (⟨c.Robot,c.Shapes,c.Skips⟩:azb) d e f) fun g=>
 .br (g.Kind !=1)
 (.ret ((⟨nl,nl⟩:aze),false))
 (.cc (Czp c d e g.Pieces) fun h=>
 .cc (qzc h) fun i=>
 .ret (i,true))
noncomputable def xzt (c)(d)(e)(f):=
 mkD Tryz.func46 (xzu c d e f) 0 [.pure (bzd c),.pure (encL 1 az3 d),.pure (encL 1 az3 e),pz f] [] (fun r=>.tup [.pure (azk r.1),.pure (.bool r.2)]) (fun _=>[])
open Go.Proofs
noncomputable def rzt (c:aze):T (Ab×Bool):=let d:Nat×Res:=(0,.box [.pure (encL 3 az1 c.Table),.pure (encL 3 azy c.Uses)]);.loop (fun (e:Ac)=>⟨[(1,.ptr 0 0),(4,.vec 1),(5,pz e.2)],[d,(1,vecO 3 azf e.1 106)],[],2⟩)
 (.exit 0) (fun (e:Ab)=>⟨[(4,.vec 0)],[(0,vecO 3 azf e 106)],[],1⟩)
 (fun e=>let f:=c.Uses.getD ((e.2).toNat) default;let g:=f.Depth;let h:=f.Index;let i:=f.Numbers.length;let j:Nat×Res:=(3,.box [pz g,pz h,.vec 4]);let k:Nat×Res:=(2,.box [pz g,pz h,.pure (encL 1 az3 (f.Numbers))]);.br (decide (e.2<(c.Uses.length:Int)))
 (.gh e.2 c.Uses.length<|
 .loop (fun (m:An)=>⟨[(1,.ptr 0 0),(4,.vec 1),(5,pz e.2),(6,.ptr 2 0),(7,.ptr 3 0),(8,pz m.2)],[d,(1,vecO 3 azf e.1 106),k,j,(4,vecO 3 az1 m.1 78)],[],5⟩)
 (.exit 2) (fun (m:Am)=>⟨[(1,.ptr 0 0),(4,.vec 1),(5,pz e.2),(7,.ptr 2 0)],[d,(1,vecO 3 azf e.1 106),(2,.box [pz g,pz h,.vec 3]),(3,vecO 3 az1 m 78)],[],4⟩)
 (fun m=>let n:=(f.Numbers).getD ((m.2).toNat) default;let s:=([(c.Table.getD (n.toNat) default)]:Am);let t:=m.1.length+s.length;.br (decide (m.2<(f.Numbers.length:Int)))
 (.cut 2 (fun (w:Bool)=>⟨[(1,.ptr 0 0),(4,.vec 1),(5,pz e.2),(6,.ptr 2 0),(7,.ptr 3 0),(8,pz m.2),(49,.pure (.bool w))],[d,(1,vecO 3 azf e.1 106),k,j,(4,vecO 3 az1 m.1 78)],[],5⟩)
 (.gh m.2 i<|
 .br (decide (n<0))
 (.oo true)
 (.gh m.2 i<|
 .oo (decide (n≥(c.Table.length:Int))))) fun w=>
 .br w
 (.ff (.fin (nl,false)))
 (.gh m.2 i<|
 .gh n c.Table.length<|
 .conv 12011 (cz5 3 az1 s 78)<|
 .conv 12012 (dzi 3 az1 m.1 s 78)<|
 .grd (t * 24≤140737488355328/\t≤maxLen)<|
 .nn ((m.1++s),(i64.wrap (m.2+1)))))
 (.oo m.1))
 (nl,0) [] fun m=>let n:=([(⟨f.Depth,f.Index,m⟩:az4)]:Ab);let s:=e.1.length+n.length;
 .conv 13002 (cz5 3 azf n 106)<|
 .conv 13003 (dzi 3 azf e.1 n 106)<|
 .grd (s * 40≤140737488355328/\s≤maxLen)<|
 .nn ((e.1++n),(i64.wrap (e.2+1))))
 (.oo e.1))
 (nl,0) [] fun e=>
 .ret (e,true)
noncomputable def rzs (c):=
 mkD Tryz.func71 (rzt c) 0 [.pure (azk c)] [] (fun r=>.tup [.pure (encL 3 azf r.1),.pure (.bool r.2)]) (fun _=>[])
end Go.Abs
