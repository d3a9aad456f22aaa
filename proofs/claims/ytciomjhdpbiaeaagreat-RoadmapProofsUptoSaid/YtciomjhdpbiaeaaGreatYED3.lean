/-
  D3 (a part of a claim: our own text).
-/
import Derived.Test.YtciomjhdpbiaeaaGreatYEM2
namespace Go.Abs
open IntKind (i64)
open Go.Proofs
noncomputable def kzj (c:Aw)(d:B0)(e:Int)(f:B0)(g:Int):T Bool:=
 .cc (zzt c d e f g) fun h=>
 .br h.2
 (.ret (decide (h.1>0)))
 (.ret false)
noncomputable def szk (c)(d)(e)(f)(g):=
 mkD Tryz.func162 (kzj c d e f g) 0 [.pure (az3 c),.pure (encL 6 az2 d),pz e,.pure (encL 6 az2 f),pz g] [] (fun r=>.pure (.bool r)) (fun _=>[])
noncomputable def uz0 (c:Ax)(d:B0)(e:Int)(f:B0)(g:Int):T Am:=
 .loop (fun (h:Int)=>⟨[(0,.pure (encL 3 az3 c)),(1,.pure (encL 6 az2 d)),(2,pz e),(3,.pure (encL 6 az2 f)),(4,pz g),(12,pz h)],[],[],0⟩)
 (.exit 0) (fun (_:U0)=>⟨[],[],[],0⟩)
 (fun h=>.br (decide (h<(c.length:Int)))
 (.gh h c.length<|
 .cc (szk (c.getD (h.toNat) default) d e f g) fun i=>
 .br i
 (.ff (h,true))
 (.nn (i64.wrap (h+1))))
 (.oo .u))
 0 [] fun _=>
 .ret (0,false)
noncomputable def Czt (c)(d)(e)(f)(g):=
 mkD Tryz.func101 (uz0 c d e f g) 0 [.pure (encL 3 az3 c),.pure (encL 6 az2 d),pz e,.pure (encL 6 az2 f),pz g] [] (fun r=>.tup [pz r.1,.pure (.bool r.2)]) (fun _=>[])
noncomputable def jza (c:B0)(d:Int)(e:B0)(f:Int)(g:Ax):T Ay:=
 .cc (qz2 c d e f g) fun h=>
 .cc (Czt h c d e f) fun i=>
 .br (!i.2)
 (.ret ((0,0,0),false))
 (.gh i.1 h.length<|
 .ret ((h.getD ((i.1).toNat) default),true))
noncomputable def qz3 (c)(d)(e)(f)(g):=
 mkD Tryz.func63 (jza c d e f g) 0 [.pure (encL 6 az2 c),pz d,.pure (encL 6 az2 e),pz f,.pure (encL 3 az3 g)] [] (fun r=>.tup [.pure (az3 r.1),.pure (.bool r.2)]) (fun _=>[])
set_option maxHeartbeats 8000000 in
set_option maxRecDepth 20000 in
noncomputable def ozo (c:B0)(d:A0):T (Az×Int×Bool):=let e:=encL 6 az2 c;let f:=encL 1 az1 d;let g:=(d.length:Nat);let h:=(c.length:Nat);.cut 2 (fun (i:Bool)=>⟨[(0,.pure e),(1,.pure f),(4,.ptr 0 0),(21,.pure (.bool i))],[(0,.box [pz 0,pz 0,pz 0,pz 0,pz 0,pz 0])],[],1⟩)
 (.cc (dzp c) fun i=>
 .br (!i)
 (.oo true)
 (.oo ((g:Int) !=(h:Int)))) fun i=>
 .br i
 (.ret (((⟨0,0⟩:az0),(⟨0,0⟩:az0),(⟨0,0⟩:az0)),0,false))
 (.loop (fun (j:Ah)=>⟨[(0,.pure e),(1,.pure f),(4,.ptr 0 0),(7,pz j.1),(8,pz j.2)],[(0,.box [pz 0,pz 0,pz 0,pz 0,pz 0,pz 0])],[],1⟩)
 (.exit 0) (fun (j:Int)=>⟨[(0,.pure e),(1,.pure f),(4,.ptr 0 0),(7,pz j)],[(0,.box [pz 0,pz 0,pz 0,pz 0,pz 0,pz 0])],[],1⟩)
 (fun j=>let k:=d.getD ((j.2).toNat) default;.br (decide (j.2<(g:Int)))
 (.cut 2 (fun (l:Bool)=>⟨[(0,.pure e),(1,.pure f),(4,.ptr 0 0),(7,pz j.1),(8,pz j.2),(42,.pure (.bool l))],[(0,.box [pz 0,pz 0,pz 0,pz 0,pz 0,pz 0])],[],1⟩)
 (.gh j.2 d.length<|
 .br (decide (k<0))
 (.oo true)
 (.gh j.2 d.length<|
 .oo (decide (k>(i64.wrap (65536-j.1)))))) fun l=>
 .br l
 (.ff (((⟨0,0⟩:az0),(⟨0,0⟩:az0),(⟨0,0⟩:az0)),0,false))
 (.gh j.2 d.length<|
 .nn ((i64.wrap (j.1+k)),(i64.wrap (j.2+1)))))
 (.oo j.1))
 (0,0) [] fun j=>
 .br (decide (j<1))
 (.ret (((⟨0,0⟩:az0),(⟨0,0⟩:az0),(⟨0,0⟩:az0)),0,false))
 (.loop (fun (k:Bf)=>⟨[(0,.pure e),(1,.pure f),(4,.ptr 0 0),(7,pz j),(9,.ptr 1 0),(10,pz k.2.2.2.2.2.2)],[(0,.box [pz 0,pz 0,pz 0,pz 0,pz 0,pz 0]),(1,.box [pz k.1,pz k.2.1,pz k.2.2.1,pz k.2.2.2.1,pz k.2.2.2.2.1,pz k.2.2.2.2.2.1])],[],2⟩)
 (.exit 2) (fun (k:Bd)=>⟨[(4,.ptr 0 0),(7,pz j),(9,.ptr 1 0)],[(0,.box [pz 0,pz 0,pz 0,pz 0,pz 0,pz 0]),(1,.box [pz k.1,pz k.2.1,pz k.2.2.1,pz k.2.2.2.1,pz k.2.2.2.2.1,pz k.2.2.2.2.2])],[],2⟩)
 (fun k=>let l:=(k.2.2.2.2.2.2).toNat;let m:=d.getD l default;let n:=c.getD l default;.br (decide (k.2.2.2.2.2.2<(h:Int)))
 (.unroll 4<|
 .known true<|
 .ix 0 3 rfl<|
 .gh k.2.2.2.2.2.2 d.length<|
 .gh k.2.2.2.2.2.2 c.length<|
 .ix 0 3 rfl<|
 .name 19015 ((i64.wrap (m * (n.1.Lo)))) fun s=>
 .name 19016 ((i64.wrap (k.1+s))) fun t=>
 .ix 0 3 rfl<|
 .ix 0 3 rfl<|
 .gh k.2.2.2.2.2.2 d.length<|
 .gh k.2.2.2.2.2.2 c.length<|
 .ix 0 3 rfl<|
 .name 20015 ((i64.wrap (m * (n.1.Hi)))) fun w=>
 .name 20016 ((i64.wrap (k.2.1+w))) fun y=>
 .ix 0 3 rfl<|
 .lit 18001 (1)<|
 .known true<|
 .ix 1 3 rfl<|
 .gh k.2.2.2.2.2.2 d.length<|
 .gh k.2.2.2.2.2.2 c.length<|
 .ix 1 3 rfl<|
 .name 19015 ((i64.wrap (m * (n.2.1.Lo)))) fun z=>
 .name 19016 ((i64.wrap (k.2.2.1+z))) fun aa=>
 .ix 1 3 rfl<|
 .ix 1 3 rfl<|
 .gh k.2.2.2.2.2.2 d.length<|
 .gh k.2.2.2.2.2.2 c.length<|
 .ix 1 3 rfl<|
 .name 20015 ((i64.wrap (m * (n.2.1.Hi)))) fun ab=>
 .name 20016 ((i64.wrap (k.2.2.2.1+ab))) fun ac=>
 .ix 1 3 rfl<|
 .lit 18001 (2)<|
 .known true<|
 .ix 2 3 rfl<|
 .gh k.2.2.2.2.2.2 d.length<|
 .gh k.2.2.2.2.2.2 c.length<|
 .ix 2 3 rfl<|
 .name 19015 ((i64.wrap (m * (n.2.2.Lo)))) fun ad=>
 .name 19016 ((i64.wrap (k.2.2.2.2.1+ad))) fun ae=>
 .ix 2 3 rfl<|
 .ix 2 3 rfl<|
 .gh k.2.2.2.2.2.2 d.length<|
 .gh k.2.2.2.2.2.2 c.length<|
 .ix 2 3 rfl<|
 .name 20015 ((i64.wrap (m * (n.2.2.Hi)))) fun af=>
 .name 20016 ((i64.wrap (k.2.2.2.2.2.1+af))) fun ag=>
 .ix 2 3 rfl<|
 .lit 18001 (3)<|
 .known false<|
 .nn (t,y,aa,ac,ae,ag,(i64.wrap (k.2.2.2.2.2.2+1))))
 (.oo (k.1,k.2.1,k.2.2.1,k.2.2.2.1,k.2.2.2.2.1,k.2.2.2.2.2.1)))
 (0,0,0,0,0,0,0) [] fun k=>
 .ret (((⟨k.1,k.2.1⟩:az0),(⟨k.2.2.1,k.2.2.2.1⟩:az0),(⟨k.2.2.2.2.1,k.2.2.2.2.2⟩:az0)),j,true)))
noncomputable def ozn (c)(d):=
 mkD Tryz.func166 (ozo c d) 0 [.pure (encL 6 az2 c),.pure (encL 1 az1 d)] [] (fun r=>.tup [.pure (az2 r.1),pz r.2.1,.pure (.bool r.2.2)]) (fun _=>[])
noncomputable def Pzf (c:Int):T Int:=
 .ret (max c (i64.wrap (0-c)))
noncomputable def gze (c):=
 mkD Tryz.func167 (Pzf c) 0 [pz c] [] (fun r=>pz r) (fun _=>[])
noncomputable def fz2 (c:A0)(d:A0)(e:B0)(f:Int)(g:B0)(h:Int):T Am:=let i:=i64.wrap (f+h);.cc (ozn e c) fun j=>
 .cc (ozn g d) fun k=>
 .cut 1 (fun (l:Bool)=>⟨[(3,pz f),(5,pz h),(14,.ptr 0 0),(15,pz j.2.1),(17,.ptr 1 0),(57,.pure (.bool l))],[(0,.box [pz j.1.1.Lo,pz j.1.1.Hi,pz j.1.2.1.Lo,pz j.1.2.1.Hi,pz j.1.2.2.Lo,pz j.1.2.2.Hi]),(1,.box [pz k.1.1.Lo,pz k.1.1.Hi,pz k.1.2.1.Lo,pz k.1.2.1.Hi,pz k.1.2.2.Lo,pz k.1.2.2.Hi])],[],2⟩)
 (.br (!j.2.2)
 (.oo true)
 (.br (!k.2.2)
 (.oo true)
 (.br (j.2.1 !=k.2.1)
 (.oo true)
 (.cc (eze f) fun l=>
 .br (!l)
 (.oo true)
 (.cc (eze h) fun m=>
 .oo (!m)))))) fun l=>
 .br l
 (.ret (0,false))
 (.unroll 4<|
 .known true<|
 .ix 0 3 rfl<|
 .ix 0 3 rfl<|
 .cc (gze (i64.wrap (j.1.1.Lo-k.1.1.Hi))) fun m=>
 .ix 0 3 rfl<|
 .ix 0 3 rfl<|
 .cc (gze (i64.wrap (j.1.1.Hi-k.1.1.Lo))) fun n=>
 .cc (azv (max m n) j.2.1) fun s=>
 .br (decide (s>i))
 (.ret ((-1),true))
 (.name 12004 ((i64.wrap ((i64.wrap (i * i))- (i64.wrap (s * s))))) fun t=>
 .lit 8001 (1)<|
 .known true<|
 .ix 1 3 rfl<|
 .ix 1 3 rfl<|
 .cc (gze (i64.wrap (j.1.2.1.Lo-k.1.2.1.Hi))) fun w=>
 .ix 1 3 rfl<|
 .ix 1 3 rfl<|
 .cc (gze (i64.wrap (j.1.2.1.Hi-k.1.2.1.Lo))) fun y=>
 .cc (azv (max w y) j.2.1) fun z=>
 .br (decide (z>i))
 (.ret ((-1),true))
 (.name 12004 ((i64.wrap (t- (i64.wrap (z * z))))) fun aa=>
 .lit 8001 (2)<|
 .known true<|
 .ix 2 3 rfl<|
 .ix 2 3 rfl<|
 .cc (gze (i64.wrap (j.1.2.2.Lo-k.1.2.2.Hi))) fun ab=>
 .ix 2 3 rfl<|
 .ix 2 3 rfl<|
 .cc (gze (i64.wrap (j.1.2.2.Hi-k.1.2.2.Lo))) fun ac=>
 .cc (azv (max ab ac) j.2.1) fun ad=>
 .br (decide (ad>i))
 (.ret ((-1),true))
 (.name 12004 ((i64.wrap (aa- (i64.wrap (ad * ad))))) fun ae=>
 .lit 8001 (3)<|
 .known false<|
 .ret (ae,true)))))
noncomputable def hz7 (c)(d)(e)(f)(g)(h):=
 mkD Tryz.func113 (fz2 c d e f g h) 0 [.pure (encL 1 az1 c),.pure (encL 1 az1 d),.pure (encL 6 az2 e),pz f,.pure (encL 6 az2 g),pz h] [] (fun r=>.tup [pz r.1,.pure (.bool r.2)]) (fun _=>[])
noncomputable def dzz (c:A0)(d:A0)(e:B0)(f:Int)(g:B0)(h:Int):T Bool:=
 .cc (hz7 c d e f g h) fun i=>
 .br i.2
 (.ret (decide (i.1≥0)))
 (.ret false)
noncomputable def dzy (c)(d)(e)(f)(g)(h):=
 mkD Tryz.func66 (dzz c d e f g h) 0 [.pure (encL 1 az1 c),.pure (encL 1 az1 d),.pure (encL 6 az2 e),pz f,.pure (encL 6 az2 g),pz h] [] (fun r=>.pure (.bool r)) (fun _=>[])
noncomputable def mzn (c:azd)(d:A9)(e:Ax):T gz6:=let f:=encL 3 az3 e;let g:=(e.length:Nat);.cc (Czv c d) fun h=>let i:=encL 2 bzn h.1;let j:=encL 2 bzn h.2.1;
 .br (!h.2.2)
 (.ret (⟨0,nl,(⟨0,nl,nl⟩:azu)⟩:gz6))
 (.loop (fun (k:(Int×Ax×Int))=>⟨[(2,.pure f),(6,.ptr 0 0),(7,.pure i),(8,.pure j),(10,.ptr 4 0),(11,pz k.2.2)],[(0,.box [pz 0,.vec 1,pz 0,.vec 2,.vec 3]),(1,.nilv),(2,.nilv),(3,.nilv),(4,.box [pz k.1,.vec 5,pz 0,.vec 6,.vec 7]),(5,vecO 3 az3 k.2.1 62),(6,.nilv),(7,.nilv)],[],8⟩)
 (.exit 0) (fun (k:(Int×Ax))=>⟨[(6,.ptr 0 0),(10,.ptr 4 0)],[(0,.box [pz 0,.vec 1,pz 0,.vec 2,.vec 3]),(1,.nilv),(2,.nilv),(3,.nilv),(4,.box [pz k.1,.vec 5,pz 0,.vec 6,.vec 7]),(5,vecO 3 az3 k.2 62),(6,.nilv),(7,.nilv)],[],8⟩)
 (fun k=>let l:=(k.2.2).toNat;let m:=i64.wrap (k.2.2+1);let n:=h.1.getD l default;let s:=n.points;let t:=n.radius;let w:=h.2.1.getD l default;let y:=w.points;let z:=w.radius;.br (decide (k.2.2<(h.1.length:Int)))
 (.cut 0 (fun (aa:(Int×Ax))=>⟨[(2,.pure f),(6,.ptr 0 0),(7,.pure i),(8,.pure j),(10,.ptr 4 0),(11,pz k.2.2)],[(0,.box [pz 0,.vec 1,pz 0,.vec 2,.vec 3]),(1,.nilv),(2,.nilv),(3,.nilv),(4,.box [pz aa.1,.vec 5,pz 0,.vec 6,.vec 7]),(5,vecO 3 az3 aa.2 62),(6,.nilv),(7,.nilv)],[],8⟩)
 (.cut 1 (fun (aa:Ax)=>⟨[(2,.pure f),(6,.ptr 0 0),(7,.pure i),(8,.pure j),(10,.ptr 4 0),(11,pz k.2.2),(12,.pure (encL 3 az3 aa))],[(0,.box [pz 0,.vec 1,pz 0,.vec 2,.vec 3]),(1,.nilv),(2,.nilv),(3,.nilv),(4,.box [pz k.1,.vec 5,pz 0,.vec 6,.vec 7]),(5,vecO 3 az3 k.2.1 62),(6,.nilv),(7,.nilv)],[],8⟩)
 (.br (decide (k.2.2<(g:Int)))
 (.conv 10004 (Uzr 3 az3 e k.2.2 m)<|
 .grd (0≤k.2.2/\k.2.2≤m/\m≤(g:Int))<|
 .oo ((e.drop l).take (m.toNat- (k.2.2).toNat)))
 (.oo nl)) fun aa=>
 .gh k.2.2 h.1.length<|
 .gh k.2.2 h.1.length<|
 .gh k.2.2 h.2.1.length<|
 .gh k.2.2 h.2.1.length<|
 .cc (qz3 s t y z aa) fun ab=>let ac:=([ab.1]:Ax);let ad:=k.2.1++ac;let ae:=k.2.1.length+ac.length;
 .conv 12003 (czk 3 az3 ac 62)<|
 .conv 12004 (ez5 3 az3 k.2.1 ac 62)<|
 .grd (ae * 24≤140737488355328/\ae≤maxLen)<|
 .br ab.2
 (.oo (k.1,ad))
 (.gh k.2.2 h.1.length<|
 .cc (dzd s) fun af=>
 .gh k.2.2 h.2.1.length<|
 .cc (dzd y) fun ag=>
 .gh k.2.2 h.1.length<|
 .gh k.2.2 h.2.1.length<|
 .call (fz3 af ag (i64.wrap (t+z)) 64) [] fun ah=>
 .gh k.2.2 h.1.length<|
 .gh k.2.2 h.1.length<|
 .gh k.2.2 h.2.1.length<|
 .gh k.2.2 h.2.1.length<|
 .cc (dzy ah.Left ah.Right s t y z) fun ai=>
 .br ai
 (.ff (.fin (⟨2,nl,(⟨k.2.2,ah.Left,ah.Right⟩:azu)⟩:gz6)))
 (.oo (0,ad)))) fun aa=>
 .nn (aa.1,aa.2,m))
 (.oo (k.1,k.2.1)))
 (1,nl,0) [] fun k=>
 .ret (⟨k.1,k.2,(⟨0,nl,nl⟩:azu)⟩:gz6))
noncomputable def vze (c)(d)(e):=
 mkD Tryz.func28 (mzn c d e) 0 [.pure (cz6 c),.pure (encL 2 az7 d),.pure (encL 3 az3 e)] [] (fun r=>.pure (Qzl r)) (fun _=>[])
set_option maxHeartbeats 8000000 in
set_option maxRecDepth 20000 in
noncomputable def uz5 (a0:azd)(a1:A0)(a2:A0)(a3:Int):T azg:=
 .cut 2 (fun (y141:Bool)=>⟨[(1,.pure (encL 1 az1 a1)),(2,.pure (encL 1 az1 a2)),(3,pz a3),(4,.ptr 0 0),(8,.ptr 1 0),(28,.pure (.bool y141))],[(0,.box [.pure (encL 12 az9 a0.Robot.Joints),.pure (encL 5 aze a0.Robot.Masses),.pure (encL 3 azj a0.Shapes),.pure (encL 2 azw a0.Skips)]),(1,.box [pz 0,.vec 2,pz 0,pz 0,.vec 3,pz 0,.vec 4,.vec 5]),(2,.nilv),(3,.nilv),(4,.nilv),(5,.nilv)],[],6⟩)
 (.call (Czw (⟨a0.Robot,a0.Shapes,a0.Skips⟩:azd) a1 a2) [] fun y142=>
 .br (!y142)
 (.ret (.out true))
 (.br (decide (a3<0))
 (.ret (.out true))
 (.ret (.out (decide (a3>20)))))) fun y141=>
 .br y141
 (.ret (⟨0,nl,(⟨0,0,nl⟩:azh),(⟨0,nl,nl⟩:azu)⟩:azg))
 (.conv 4001 (Sz7 3 gz8 ([(⟨0,0,nl⟩:azq)]:Ae) 77 [.agg [.int .i64 0,.int .i64 0,.lst 0 0 fun _=>.unk]] (by kernel_rfl))<|
 .loop (fun (x227:(Af×Ae))=>⟨[(1,.pure (encL 1 az1 a1)),(2,.pure (encL 1 az1 a2)),(3,pz a3),(4,.ptr 0 0),(8,.ptr 1 0),(9,.vec 6),(10,.vec 7)],[(0,.box [.pure (encL 12 az9 a0.Robot.Joints),.pure (encL 5 aze a0.Robot.Masses),.pure (encL 3 azj a0.Shapes),.pure (encL 2 azw a0.Skips)]),(1,.box [pz 0,.vec 2,pz 0,pz 0,.vec 3,pz 0,.vec 4,.vec 5]),(2,.nilv),(3,.nilv),(4,.nilv),(5,.nilv),(6,vecO 3 azx x227.1 42),(7,vecO 3 gz8 x227.2 77)],[],8⟩)
 (.exit 0) (fun (y248:Af)=>⟨[(8,.ptr 0 0),(9,.vec 5)],[(0,.box [pz 0,.vec 1,pz 0,pz 0,.vec 2,pz 0,.vec 3,.vec 4]),(1,.nilv),(2,.nilv),(3,.nilv),(4,.nilv),(5,vecO 3 azx y248 42)],[],6⟩)
 (fun x227=>.br (decide ((x227.2.length:Int)>0))
 (.grd (0≤(i64.wrap ((x227.2.length:Int)-1))/\(i64.wrap ((x227.2.length:Int)-1))<(x227.2.length:Int))<|
 .grd (((i64.wrap ((x227.2.length:Int)-1))).toNat<x227.2.length)<|
 .conv 7004 (Uzs 3 gz8 x227.2 77 (i64.wrap ((x227.2.length:Int)-1)))<|
 .grd (0≤(i64.wrap ((x227.2.length:Int)-1))/\(i64.wrap ((x227.2.length:Int)-1))≤(x227.2.length:Int)/\0≤((i64.wrap ((x227.2.length:Int)-1))).toNat)<|
 .name 8001 ((x227.2.getD (((i64.wrap ((x227.2.length:Int)-1))).toNat) default).depth) fun z251=>
 .name 8003 ((x227.2.getD (((i64.wrap ((x227.2.length:Int)-1))).toNat) default).index) fun z252=>
 .br (decide ((x227.1.length:Int)≥4096))
 (.ret (.fin (⟨0,nl,(⟨z251,z252,nl⟩:azh),(⟨0,nl,nl⟩:azu)⟩:azg)))
 (.name 11003 ((x227.2.getD (((i64.wrap ((x227.2.length:Int)-1))).toNat) default).depth) fun z256=>
 .name 11005 ((x227.2.getD (((i64.wrap ((x227.2.length:Int)-1))).toNat) default).index) fun z257=>
 .call (Czq a1 a2 z256 z257) [] fun y258=>
 .call (vze (⟨a0.Robot,a0.Shapes,a0.Skips⟩:azd) y258.1 ((x227.2.getD (((i64.wrap ((x227.2.length:Int)-1))).toNat) default).hints)) [] fun y260=>
 .br (y260.Kind==1)
 (.name 15002 ((x227.2.getD (((i64.wrap ((x227.2.length:Int)-1))).toNat) default).depth) fun z261=>
 .name 15004 ((x227.2.getD (((i64.wrap ((x227.2.length:Int)-1))).toNat) default).index) fun z262=>
 .conv 15008 (czk 3 azx ([(⟨z261,z262,y260.Normals⟩:azh)]:Af) 42)<|
 .conv 15009 (ez5 3 azx x227.1 ([(⟨z261,z262,y260.Normals⟩:azh)]:Af) 42)<|
 .grd ((x227.1.length+([(⟨z261,z262,y260.Normals⟩:azh)]:Af).length) * 40≤140737488355328/\(x227.1.length+([(⟨z261,z262,y260.Normals⟩:azh)]:Af).length)≤maxLen)<|
 .ret (.next ((x227.1++([(⟨z261,z262,y260.Normals⟩:azh)]:Af)),(x227.2.take (((i64.wrap ((x227.2.length:Int)-1))).toNat)))))
 (.br (y260.Kind==2)
 (.ret (.fin (⟨2,nl,(⟨z251,z252,nl⟩:azh),y260.Witness⟩:azg)))
 (.name 18001 ((x227.2.getD (((i64.wrap ((x227.2.length:Int)-1))).toNat) default).depth) fun z264=>
 .br (z264==a3)
 (.ret (.fin (⟨0,nl,(⟨z251,z252,nl⟩:azh),(⟨0,nl,nl⟩:azu)⟩:azg)))
 (.name 13002 ((x227.2.getD (((i64.wrap ((x227.2.length:Int)-1))).toNat) default).depth) fun z265=>
 .name 13005 ((x227.2.getD (((i64.wrap ((x227.2.length:Int)-1))).toNat) default).index) fun z266=>
 .name 13012 ((x227.2.getD (((i64.wrap ((x227.2.length:Int)-1))).toNat) default).depth) fun z267=>
 .name 13015 ((x227.2.getD (((i64.wrap ((x227.2.length:Int)-1))).toNat) default).index) fun z268=>
 .conv 13020 (czk 3 gz8 ([(⟨(i64.wrap (z265+1)),(i64.wrap ((i64.wrap (2 * z266))+1)),y260.Normals⟩:azq),(⟨(i64.wrap (z267+1)),(i64.wrap (2 * z268)),y260.Normals⟩:azq)]:Ae) 77)<|
 .conv 13021 (ez5 3 gz8 (x227.2.take (((i64.wrap ((x227.2.length:Int)-1))).toNat)) ([(⟨(i64.wrap (z265+1)),(i64.wrap ((i64.wrap (2 * z266))+1)),y260.Normals⟩:azq),(⟨(i64.wrap (z267+1)),(i64.wrap (2 * z268)),y260.Normals⟩:azq)]:Ae) 77)<|
 .grd (((x227.2.take (((i64.wrap ((x227.2.length:Int)-1))).toNat)).length+([(⟨(i64.wrap (z265+1)),(i64.wrap ((i64.wrap (2 * z266))+1)),y260.Normals⟩:azq),(⟨(i64.wrap (z267+1)),(i64.wrap (2 * z268)),y260.Normals⟩:azq)]:Ae).length) * 40≤140737488355328/\((x227.2.take (((i64.wrap ((x227.2.length:Int)-1))).toNat)).length+([(⟨(i64.wrap (z265+1)),(i64.wrap ((i64.wrap (2 * z266))+1)),y260.Normals⟩:azq),(⟨(i64.wrap (z267+1)),(i64.wrap (2 * z268)),y260.Normals⟩:azq)]:Ae).length)≤maxLen)<|
 .ret (.next (x227.1,((x227.2.take (((i64.wrap ((x227.2.length:Int)-1))).toNat))++([(⟨(i64.wrap (z265+1)),(i64.wrap ((i64.wrap (2 * z266))+1)),y260.Normals⟩:azq),(⟨(i64.wrap (z267+1)),(i64.wrap (2 * z268)),y260.Normals⟩:azq)]:Ae)))))))))
 (.ret (.out x227.1)))
 (nl,([(⟨0,0,nl⟩:azq)]:Ae)) [] fun y248=>
 .ret (⟨1,y248,(⟨0,0,nl⟩:azh),(⟨0,nl,nl⟩:azu)⟩:azg))
noncomputable def gzs (c)(d)(e)(f):=
 mkD Tryz.func8 (uz5 c d e f) 0 [.pure (cz6 c),.pure (encL 1 az1 d),.pure (encL 1 az1 e),pz f] [] (fun r=>.pure (ezc r)) (fun _=>[])
noncomputable def xzl (c:azk)(d:Int)(e:azg):T (azk×Bool):=let f:=d.toNat;let g:=c.Edges.getD f default;let h:Nat×Res:=(0,.box [.pure (encL 1 (encL 1 az1) c.Points),.pure (encL 12 az6 c.Edges)]);let i:Nat×Res:=(1,.box [pz e.Kind,.pure (encL 3 azx e.Pieces),pz e.At.Depth,pz e.At.Index,.pure (encL 3 az3 e.At.Normals),pz e.Witness.Pair,.pure (encL 1 az1 e.Witness.Left),.pure (encL 1 az1 e.Witness.Right)]);.cut 2 (fun (j:Bool)=>⟨[(1,pz d),(3,.ptr 0 0),(5,.ptr 1 0),(6,.ptr 2 0),(36,.pure (.bool j))],[h,i,(2,.box [.vec 3,.vec 4]),(3,.nilv),(4,.nilv)],[],5⟩)
 (.br (decide (d<0))
 (.oo true)
 (.br (decide (d≥(c.Edges.length:Int)))
 (.oo true)
 (.gh d c.Edges.length<|
 .br ((g.State)==1)
 (.oo true)
 (.gh d c.Edges.length<|
 .oo ((g.State)==2))))) fun j=>
 .br j
 (.ret (c,false))
 (.cut 1 (fun (k:Int)=>⟨[(1,pz d),(3,.ptr 0 0),(5,.ptr 1 0),(6,.ptr 2 0),(8,pz k)],[h,i,(2,.box [.vec 3,.vec 4]),(3,.nilv),(4,.nilv)],[],5⟩)
 (.br (e.Kind==1)
 (.oo 1)
 (.br (e.Kind==2)
 (.oo 2)
 (.br (e.Kind==0)
 (.oo 3)
 (.ff (c,false))))) fun k=>let l:=(⟨g.U,g.V,g.Cost,k,g.Proof⟩:az4);let m:=c.Edges.set f l;let n:=m.getD f default;let s:=(⟨n.U,n.V,n.Cost,n.State,e⟩:az4);
 .grd (c.Edges.length * 160≤140737488355328/\c.Edges.length≤maxLen)<|
 .gh d c.Edges.length<|
 .conv 12010 (bzm 12 az6 c.Edges 49 f l)<|
 .gi (d) c.Edges.length<|
 .gh d (m.length)<|
 .conv 12013 (bzm 12 az6 m 49 f s)<|
 .gi (d) (m.length)<|
 .ret ((⟨c.Points,(m.set f s)⟩:azk),true))
noncomputable def xzk (c)(d)(e):=
 mkD Tryz.func43 (xzl c d e) 0 [.pure (czq c),pz d,.pure (ezc e)] [] (fun r=>.tup [.pure (czq r.1),.pure (.bool r.2)]) (fun _=>[])
noncomputable def xzm (c:azd)(d:azk)(e:Int)(f:Int):T (azk×Bool):=let g:=d.Edges.getD (e.toNat) default;let h:=(⟨d.Points,d.Edges⟩:azk);.cut 2 (fun (i:Bool)=>⟨[(2,pz e),(3,pz f),(4,.ptr 0 0),(5,.ptr 1 0),(8,.ptr 2 0),(46,.pure (.bool i))],[(0,.box [.pure (encL 12 az9 c.Robot.Joints),.pure (encL 5 aze c.Robot.Masses),.pure (encL 3 azj c.Shapes),.pure (encL 2 azw c.Skips)]),(1,.box [.pure (encL 1 (encL 1 az1) d.Points),.pure (encL 12 az6 d.Edges)]),(2,.box [.vec 3,.vec 4]),(3,.nilv),(4,.nilv)],[],5⟩)
 (.br (decide (e<0))
 (.oo true)
 (.br (decide (e≥(d.Edges.length:Int)))
 (.oo true)
 (.gh e d.Edges.length<|
 .cc (Dz2 h g) fun i=>
 .br (!i)
 (.oo true)
 (.gh e d.Edges.length<|
 .br ((g.State)==1)
 (.oo true)
 (.gh e d.Edges.length<|
 .oo ((g.State)==2)))))) fun i=>
 .br i
 (.ret (h,false))
 (.gh e d.Edges.length<|
 .gh (g.U) d.Points.length<|
 .gh e d.Edges.length<|
 .gh (g.V) d.Points.length<|
 .call (gzs (⟨c.Robot,c.Shapes,c.Skips⟩:azd) (d.Points.getD ((g.U).toNat) default) (d.Points.getD ((g.V).toNat) default) f) [] fun j=>
 .cc (xzk h e j) fun k=>
 .ret (k.1,k.2))
noncomputable def Fzr (c)(d)(e)(f):=
 mkD Tryz.func19 (xzm c d e f) 0 [.pure (cz6 c),.pure (czq d),pz e,pz f] [] (fun r=>.tup [.pure (czq r.1),.pure (.bool r.2)]) (fun _=>[])
noncomputable def qzw (c:azd)(d:A0):T azk:=let e:Nat×Res:=(0,.box [.pure (encL 12 az9 c.Robot.Joints),.pure (encL 5 aze c.Robot.Masses),.pure (encL 3 azj c.Shapes),.pure (encL 2 azw c.Skips)]);.cc (qzx c.Robot 4 d) fun f=>
 .cc (zzz c.Robot f 2) fun g=>
 .loop (fun (h:(A1×A7×Int))=>⟨[(2,.ptr 0 0),(4,.ptr 1 0),(5,.ptr 4 0),(6,pz h.2.2)],[e,(1,.box [.vec 2,.vec 3]),(2,.nilv),(3,.nilv),(4,.box [.pure (encL 1 (encL 1 az1) h.1),.pure (encL 12 az6 h.2.1)])],[],5⟩)
 (.exit 0) (fun (h:(A1×A7))=>⟨[(4,.ptr 0 0),(5,.ptr 3 0)],[(0,.box [.vec 1,.vec 2]),(1,.nilv),(2,.nilv),(3,.box [.pure (encL 1 (encL 1 az1) h.1),.pure (encL 12 az6 h.2)])],[],4⟩)
 (fun h=>.br (decide (h.2.2<(h.2.1.length:Int)))
 (.cut 0 (fun (i:(A1×A7))=>⟨[(2,.ptr 0 0),(4,.ptr 1 0),(5,.ptr 4 0),(6,pz h.2.2)],[e,(1,.box [.vec 2,.vec 3]),(2,.nilv),(3,.nilv),(4,.box [.pure (encL 1 (encL 1 az1) i.1),.pure (encL 12 az6 i.2)])],[],5⟩)
 (.ok ((3:Int)≠0) (by decide)<|
 .br (decide ((h.2.2.tmod 3)<2))
 (.cc (Fzr (⟨c.Robot,c.Shapes,c.Skips⟩:azd) (⟨h.1,h.2.1⟩:azk) h.2.2 3) fun i=>
 .oo (i.1.Points,i.1.Edges))
 (.oo (h.1,h.2.1))) fun i=>
 .nn (i.1,i.2,(i64.wrap (h.2.2+1))))
 (.oo (h.1,h.2.1)))
 (g.Points,g.Edges,0) [] fun h=>
 .ret (⟨h.1,h.2⟩:azk)
noncomputable def qzv (c)(d):=
 mkD Tryz.func5 (qzw c d) 0 [.pure (cz6 c),.pure (encL 1 az1 d)] [] (fun r=>.pure (czq r)) (fun _=>[])
noncomputable def Mze (c:Int)(d:Int):T azf:=
 .loop (fun (e:(A4×Int))=>⟨[(0,pz c),(1,pz d),(4,.ptr 0 0),(5,.ptr 3 0),(6,pz e.2)],[(0,.box [.vec 1,.vec 2]),(1,.nilv),(2,.nilv),(3,.box [.vec 4,.vec 5]),(4,vecO 12 az9 e.1 91),(5,.nilv)],[],6⟩)
 (.exit 0) (fun (e:A4)=>⟨[(4,.ptr 0 0),(5,.ptr 3 0)],[(0,.box [.vec 1,.vec 2]),(1,.nilv),(2,.nilv),(3,.box [.vec 4,.vec 5]),(4,vecO 12 az9 e 91),(5,.nilv)],[],6⟩)
 (fun e=>.br (decide (e.2<c))
 (.cc (gzo e.2) fun f=>let g:=([(⟨f,(i64.wrap (4+(e.2.tmod 2))),(i64.wrap (e.2-1)),(0,0,0),0,d,1,65536,65536,65536⟩:azo)]:A4);let h:=e.1.length+g.length;
 .ok ((2:Int)≠0) (by decide)<|
 .conv 5011 (czk 12 az9 g 91)<|
 .conv 5012 (ez5 12 az9 e.1 g 91)<|
 .grd (h * 104≤140737488355328/\h≤maxLen)<|
 .nn ((e.1++g),(i64.wrap (e.2+1))))
 (.oo e.1))
 (nl,0) [] fun e=>
 .ret (⟨e,nl⟩:azf)
noncomputable def Mzd (c)(d):=
 mkD Tryz.func20 (Mze c d) 0 [pz c,pz d] [] (fun r=>.pure (bzg r)) (fun _=>[])
noncomputable def nz2 (c:Int):T Bool:=
 .br (decide (97≤c))
 (.ret (decide (c≤122)))
 (.ret false)
noncomputable def vzk (c):=
 mkD Tryz.func176 (nz2 c) 0 [.pure (.int .i32 c)] [] (fun r=>.pure (.bool r)) (fun _=>[])
noncomputable def pzg (c:Int):T Bool:=
 .br (decide (48≤c))
 (.ret (decide (c≤57)))
 (.ret false)
noncomputable def yz8 (c):=
 mkD Tryz.func177 (pzg c) 0 [.pure (.int .i32 c)] [] (fun r=>.pure (.bool r)) (fun _=>[])
noncomputable def yz7 (c:ByteArray):T Bool:=let d:=(c.size:Nat);.cut 2 (fun (e:Bool)=>⟨[(0,.pure (.str c)),(16,.pure (.bool e))],[],[],0⟩)
 (.br ((d:Int)==0)
 (.oo true)
 (.br (decide ((d:Int)>16))
 (.oo true)
 (.oo (c==(⟨#[119,111,114,108,100]⟩:ByteArray))))) fun e=>
 .br e
 (.ret false)
 (.loop (fun (f:Nat)=>⟨[(18,.ptr 0 0)],[(0,.iter c f)],[],1⟩)
 (.exit 0) (fun (_:U0)=>⟨[],[],[],0⟩)
 (fun f=>let g:=Utf8.decode c f;let h:=(g.1:Int);.brP (f<c.size)
 (.cut 2 (fun (i:Bool)=>⟨[(18,.ptr 0 0),(38,.pure (.bool i))],[(0,.iter c (f+g.2))],[],1⟩)
 (.cc (vzk h) fun i=>
 .br (!i)
 (.br ((f:Int)==0)
 (.oo true)
 (.cc (yz8 h) fun j=>
 .br (!j)
 (.oo (h !=95))
 (.oo false)))
 (.oo false)) fun i=>
 .br i
 (.ff false)
 (.nn (f+g.2)))
 (.oo .u))
 0 [] fun _=>
 .ret true)
noncomputable def Gz2 (c):=
 mkD Tryz.func124 (yz7 c) 0 [.pure (.str c)] [] (fun r=>.pure (.bool r)) (fun _=>[])
noncomputable def xzw (c:azf)(d:ByteArray):T Int:=let e:=(c.Joints.length:Nat);.loop (fun (f:Int)=>⟨[(1,.pure (.str d)),(2,.ptr 0 0),(8,pz (e:Int)),(9,pz f)],[(0,.box [.pure (encL 12 az9 c.Joints),.pure (encL 5 aze c.Masses)])],[],1⟩)
 (.exit 0) (fun (_:U0)=>⟨[],[],[],0⟩)
 (fun f=>.br (decide (f<(e:Int)))
 (.gh f c.Joints.length<|
 .br (((c.Joints.getD (f.toNat) default).Name)==d)
 (.ff f)
 (.nn (i64.wrap (f+1))))
 (.oo .u))
 0 [] fun _=>
 .ret (-1)
noncomputable def Fzx (c)(d):=
 mkD Tryz.func125 (xzw c d) 0 [.pure (bzg c),.pure (.str d)] [] (fun r=>pz r) (fun _=>[])
noncomputable def rzq (c:Aw):T Bool:=
 .loop (fun (d:Int)=>⟨[(5,.pure (az3 c)),(6,pz d)],[],[],0⟩)
 (.exit 0) (fun (_:U0)=>⟨[],[],[],0⟩)
 (fun d=>let e:=([c.1,c.2.1,c.2.2]:List Int).getD d.toNat 0;.br (decide (d<3))
 (.gh d 3<|
 .cut 0 (fun (f:Bool)=>⟨[(5,.pure (az3 c)),(6,pz d),(14,.pure (.bool f))],[],[],0⟩)
 (.br (decide (e<(-4194304)))
 (.oo true)
 (.oo (decide (e>4194304)))) fun f=>
 .br f
 (.ff true)
 (.nn (i64.wrap (d+1))))
 (.oo .u))
 0 [] fun _=>
 .ret false
noncomputable def rzp (c):=
 mkD Tryz.func126 (rzq c) 0 [.pure (az3 c)] [] (fun r=>.pure (.bool r)) (fun _=>[])
noncomputable def uzk (c:Int):T Int:=
 .cut 3 (fun (d:Bool)=>⟨[(3,pz c),(4,.pure (.bool d))],[],[],0⟩)
 (.br (c==1)
 (.oo (c==1))
 (.br (c==2)
 (.oo (c==2))
 (.oo (c==3)))) fun d=>
 .br d
 (.ret 524288)
 (.cut 0 (fun (e:Bool)=>⟨[(8,.pure (.bool e))],[],[],0⟩)
 (.br (c==4)
 (.oo (c==4))
 (.br (c==5)
 (.oo (c==5))
 (.oo (c==6)))) fun e=>
 .br e
 (.ret 4194304)
 (.ret 0))
noncomputable def Dzc (c):=
 mkD Tryz.func127 (uzk c) 0 [pz c] [] (fun r=>pz r) (fun _=>[])
noncomputable def uzj (c:Int)(d:Int):T Bool:=
 .br (decide (1≤c))
 (.ret (decide (c≤d)))
 (.ret false)
noncomputable def gzv (c)(d):=
 mkD Tryz.func128 (uzj c d) 0 [pz c,pz d] [] (fun r=>.pure (.bool r)) (fun _=>[])
noncomputable def jzi (c:azf)(d:Int):T Int:=let e:=c.Joints.getD (d.toNat) default;let f:=e.Name;let g:=e.Kind;let h:=e.Parent;let i:Nat×Res:=(0,.box [.pure (.str f),pz g,pz h,pz (e.Offset.1),pz (e.Offset.2.1),pz (e.Offset.2.2),pz (e.Lo),pz (e.Hi),pz (e.Weight),pz (e.Speed),pz (e.Accel),pz (e.Torque)]);.gh d c.Joints.length<|
 .cut 1 (fun (j:Bool)=>⟨[(1,pz d),(5,.ptr 0 0),(12,.pure (.bool j))],[i],[],1⟩)
 (.cc (Gz2 f) fun j=>
 .br (!j)
 (.oo true)
 (.cc (Fzx (⟨c.Joints,c.Masses⟩:azf) f) fun k=>
 .oo (k !=d))) fun j=>
 .br j
 (.ret 802)
 (.cut 0 (fun (k:Bool)=>⟨[(1,pz d),(5,.ptr 0 0),(25,.pure (.bool k))],[i],[],1⟩)
 (.br (decide (g<0))
 (.oo true)
 (.oo (decide (g>6)))) fun k=>
 .br k
 (.ret 803)
 (.cut 0 (fun (l:Bool)=>⟨[(5,.ptr 0 0),(34,.pure (.bool l))],[i],[],1⟩)
 (.br (decide (h<(-1)))
 (.oo true)
 (.oo (decide (h≥d)))) fun l=>
 .br l
 (.ret 804)
 (.cc (rzp (e.Offset)) fun m=>
 .br m
 (.ret 805)
 (.cc (Dzc g) fun n=>
 .cut 1 (fun (s:Bool)=>⟨[(5,.ptr 0 0),(68,.pure (.bool s))],[i],[],1⟩)
 (.br (decide ((e.Lo)>(e.Hi)))
 (.oo true)
 (.br (decide ((e.Lo)<(i64.wrap (0-n))))
 (.oo true)
 (.oo (decide ((e.Hi)>n))))) fun s=>
 .br s
 (.ret 806)
 (.cut 1 (fun (t:Bool)=>⟨[(90,.pure (.bool t))],[],[],0⟩)
 (.cc (gzv (e.Weight) 1024) fun t=>
 .br (!t)
 (.oo true)
 (.cc (gzv (e.Speed) 1048576) fun w=>
 .br (!w)
 (.oo true)
 (.cc (gzv (e.Accel) 1048576) fun y=>
 .br (!y)
 (.oo true)
 (.cc (gzv (e.Torque) 1099511627776) fun z=>
 .oo (!z))))) fun t=>
 .br t
 (.ret 807)
 (.ret 0))))))
noncomputable def qz8 (c)(d):=
 mkD Tryz.func81 (jzi c d) 0 [.pure (bzg c),pz d] [] (fun r=>pz r) (fun _=>[])
noncomputable def kzt (c:azf)(d:cze):T Bool:=
 .br (decide (0≤d.Link))
 (.br (decide (d.Link<(c.Joints.length:Int)))
 (.cc (gzv d.Mass 65536) fun e=>
 .br e
 (.cc (rzp d.Point) fun f=>
 .ret (!f))
 (.ret false))
 (.ret false))
 (.ret false)
noncomputable def szp (c)(d):=
 mkD Tryz.func84 (kzt c d) 0 [.pure (bzg c),.pure (aze d)] [] (fun r=>.pure (.bool r)) (fun _=>[])
noncomputable def pz6 (c:cze)(d:A4)(e:A5):T (Bool×A4×A5):=
 .cc (szp (⟨d,e⟩:azf) (⟨c.Link,c.Mass,c.Point⟩:cze)) fun f=>
 .ret ((!f),d,e)
noncomputable def xzv (c)(d)(e):=
 mkD Tryz.func83 (pz6 c d e) 1 [.pure (aze c),.ptr 0 0] [(0,.box [.pure (encL 12 az9 d),.pure (encL 5 aze e)])] (fun r=>.pure (.bool r.1)) (fun r=>[(0,.box [.pure (encL 12 az9 r.2.1),.pure (encL 5 aze r.2.2)])])
noncomputable def czu (c:A5)(d:A4)(e:A5):T (Int×A4×A5):=let f:=(c.length:Nat);.loop (fun (g:(A4×A5×Int))=>⟨[(0,.pure (encL 5 aze c)),(1,.func 83 [] [.ptr 0 0]),(7,pz (f:Int)),(8,pz g.2.2)],[(0,.box [.pure (encL 12 az9 g.1),.pure (encL 5 aze g.2.1)])],[],1⟩)
 (.exit 0) (fun (g:(A4×A5))=>⟨[],[(0,.box [.pure (encL 12 az9 g.1),.pure (encL 5 aze g.2)])],[],1⟩)
 (fun g=>.br (decide (g.2.2<(f:Int)))
 (.gh g.2.2 c.length<|
 .call (xzv (c.getD ((g.2.2).toNat) default) g.1 g.2.1) [(0,0)] fun h=>
 .br h.1
 (.ff (g.2.2,h.2.1,h.2.2))
 (.nn (h.2.1,h.2.2,(i64.wrap (g.2.2+1)))))
 (.oo (g.1,g.2.1)))
 (d,e,0) [] fun g=>
 .ret ((-1),g.1,g.2)
noncomputable def ezf (c)(d)(e):=
 mkD Tryz.func129 (czu c d e) 1 [.pure (encL 5 aze c),.func 83 [] [.ptr 0 0]] [(0,.box [.pure (encL 12 az9 d),.pure (encL 5 aze e)])] (fun r=>pz r.1) (fun r=>[(0,.box [.pure (encL 12 az9 r.2.1),.pure (encL 5 aze r.2.2)])])
noncomputable def czi (c:A5)(d:A4)(e:A5):T (Bool×A4×A5):=
 .call (ezf c d e) [(0,0)] fun f=>
 .ret ((decide (f.1≥0)),f.2.1,f.2.2)
noncomputable def dzu (c)(d)(e):=
 mkD Tryz.func82 (czi c d e) 1 [.pure (encL 5 aze c),.func 83 [] [.ptr 0 0]] [(0,.box [.pure (encL 12 az9 d),.pure (encL 5 aze e)])] (fun r=>.pure (.bool r.1)) (fun r=>[(0,.box [.pure (encL 12 az9 r.2.1),.pure (encL 5 aze r.2.2)])])
noncomputable def uzi (c:azf):T Int:=let d:=(c.Joints.length:Int);let e:Nat×Res:=(0,.box [.pure (encL 12 az9 c.Joints),.pure (encL 5 aze c.Masses)]);.cut 2 (fun (f:Bool)=>⟨[(1,.ptr 0 0),(14,.pure (.bool f))],[e],[],1⟩)
 (.br (d==0)
 (.oo true)
 (.oo (decide (d>10)))) fun f=>
 .br f
 (.ret 801)
 (.loop (fun (g:Int)=>⟨[(1,.ptr 0 0),(17,pz d),(18,pz g)],[e],[],1⟩)
 (.exit 0) (fun (_:U0)=>⟨[(1,.ptr 0 0)],[e],[],1⟩)
 (fun g=>.br (decide (g<d))
 (.cc (qz8 (⟨c.Joints,c.Masses⟩:azf) g) fun h=>
 .br (h !=0)
 (.ff h)
 (.nn (i64.wrap (g+1))))
 (.oo .u))
 0 [] fun _=>
 .cut 1 (fun (g:Bool)=>⟨[(37,.pure (.bool g))],[],[],0⟩)
 (.br (decide ((c.Masses.length:Int)>32))
 (.oo true)
 (.call (dzu c.Masses c.Joints c.Masses) [(0,0)] fun g=>
 .oo g.1)) fun g=>
 .br g
 (.ret 808)
 (.ret 0))
noncomputable def fzj (c):=
 mkD Tryz.func46 (uzi c) 0 [.pure (bzg c)] [] (fun r=>pz r) (fun _=>[])
noncomputable def kz8 (c:azo)(d:Int):T Bool:=
 .br (decide (c.Lo≤d))
 (.ret (decide (d≤c.Hi)))
 (.ret false)
noncomputable def sz6 (c)(d):=
 mkD Tryz.func131 (kz8 c d) 0 [.pure (az9 c),pz d] [] (fun r=>.pure (.bool r)) (fun _=>[])
noncomputable def dzq (c:A4)(d:A0):T Bool:=let e:=(c.length:Int);.br (e !=(d.length:Int))
 (.ret false)
 (.loop (fun (f:Int)=>⟨[(1,.pure (encL 1 az1 d)),(2,.func 131 [] []),(14,.pure (encL 12 az9 c)),(15,pz e),(16,pz f)],[],[],0⟩)
 (.exit 0) (fun (_:U0)=>⟨[],[],[],0⟩)
 (fun f=>.br (decide (f<e))
 (.gh f c.length<|
 .gh f d.length<|
 .cc (sz6 (c.getD (f.toNat) default) (d.getD (f.toNat) default)) fun g=>
 .br (!g)
 (.ff false)
 (.nn (i64.wrap (f+1))))
 (.oo .u))
 0 [] fun _=>
 .ret true)
noncomputable def fze (c)(d):=
 mkD Tryz.func130 (dzq c d) 0 [.pure (encL 12 az9 c),.pure (encL 1 az1 d),.func 131 [] []] [] (fun r=>.pure (.bool r)) (fun _=>[])
noncomputable def oz5 (c:azf)(d:A0):T Bool:=
 .cc (fzj c) fun e=>
 .br (e==0)
 (.cc (fze c.Joints d) fun f=>
 .ret f)
 (.ret false)
noncomputable def izm (c)(d):=
 mkD Tryz.func85 (oz5 c d) 0 [.pure (bzg c),.pure (encL 1 az1 d)] [] (fun r=>.pure (.bool r)) (fun _=>[])
noncomputable def ezr (a0:A0):T A0:=
 (match a0 with
  |[]=>.unroll 1<|
  .grd (a0.length=0)<|
  .both
   (.ret nl)
   (.conv 3000 (czk 1 az1 ([]:A0) 2)<|
   .conv 3002 (ez5 1 az1 ([]:A0) a0 2)<|
   .grd ((([]:A0).length+a0.length) * 8≤140737488355328/\(([]:A0).length+a0.length)≤maxLen)<|
   .ret (([]:A0)++a0))
  |_::_=>.grd (0<a0.length)<|
  .conv 3000 (czk 1 az1 ([]:A0) 2)<|
  .conv 3002 (ez5 1 az1 ([]:A0) a0 2)<|
  .grd ((([]:A0).length+a0.length) * 8≤140737488355328/\(([]:A0).length+a0.length)≤maxLen)<|
  .ret (([]:A0)++a0))
noncomputable def czp (a0:A0):CallS A0:=
 mkH [] hd Tryz.func69 (by kernel_rfl) (ezr a0) 0 [.pure (encL 1 az1 a0)] [] (fun r=>.pure (encL 1 az1 r)) (fun _=>[]) (by cases a0<;>exact Ob.of_side (by kernel_rfl))
set_option maxHeartbeats 8000000 in
set_option maxRecDepth 20000 in
noncomputable def jzh (c:azf)(d:A1):T A1:=let e:=(d.length:Int);let f:=encL 1 (encL 1 az1) d;let g:Nat×Res:=(0,.box [.pure (encL 12 az9 c.Joints),.pure (encL 5 aze c.Masses)]);.loop (fun (h:(A1×(List Bh)×Int))=>⟨[(2,.ptr 0 0),(5,.vec 1),(6,.map 2),(11,.pure f),(12,pz e),(13,pz h.2.2)],[g,(1,vecO 1 (encL 1 az1) h.1 43),(2,Fzf [.int .i64 0,.int .i64 0,.int .i64 0,.int .i64 0,.int .i64 0,.int .i64 0,.int .i64 0,.int .i64 0,.int .i64 0,.int .i64 0] bz4 h.2.1)],[],3⟩)
 (.exit 0) (fun (h:A1)=>⟨[(5,.vec 0)],[(0,vecO 1 (encL 1 az1) h 43)],[],1⟩)
 (fun h=>let i:=d.getD ((h.2.2).toNat) default;let j:=bz4 ((if 0<i.length then i.getD 0 default else 0),(if 1<i.length then i.getD 1 default else 0),(if 2<i.length then i.getD 2 default else 0),(if 3<i.length then i.getD 3 default else 0),(if 4<i.length then i.getD 4 default else 0),(if 5<i.length then i.getD 5 default else 0),(if 6<i.length then i.getD 6 default else 0),(if 7<i.length then i.getD 7 default else 0),(if 8<i.length then i.getD 8 default else 0),(if 9<i.length then i.getD 9 default else 0));let k:=Azu bz4 h.2.1 j;.br (decide (h.2.2<e))
 (.cut 0 (fun (l:(A1×(List Bh)))=>⟨[(2,.ptr 0 0),(5,.vec 1),(6,.map 2),(11,.pure f),(12,pz e),(13,pz h.2.2)],[g,(1,vecO 1 (encL 1 az1) l.1 43),(2,Fzf [.int .i64 0,.int .i64 0,.int .i64 0,.int .i64 0,.int .i64 0,.int .i64 0,.int .i64 0,.int .i64 0,.int .i64 0,.int .i64 0] bz4 l.2)],[],3⟩)
 (.gh h.2.2 d.length<|
 .br ((h.1.length:Int)==1024)
 (.ff (.out h.1))
 (.cc (izm (⟨c.Joints,c.Masses⟩:azf) i) fun l=>
 .br (!l)
 (.oo (h.1,h.2.1))
 (.ok ((mdom bz4 h.2.1 j)=false->PVal.bool k=.bool false) Vzv<|
 .br (!k)
 (.conv 11002 (Zzw [.int .i64 0,.int .i64 0,.int .i64 0,.int .i64 0,.int .i64 0,.int .i64 0,.int .i64 0,.int .i64 0,.int .i64 0,.int .i64 0] bz4 h.2.1 ((if 0<i.length then i.getD 0 default else 0),(if 1<i.length then i.getD 1 default else 0),(if 2<i.length then i.getD 2 default else 0),(if 3<i.length then i.getD 3 default else 0),(if 4<i.length then i.getD 4 default else 0),(if 5<i.length then i.getD 5 default else 0),(if 6<i.length then i.getD 6 default else 0),(if 7<i.length then i.getD 7 default else 0),(if 8<i.length then i.getD 8 default else 0),(if 9<i.length then i.getD 9 default else 0)) true)<|
 .cc (czp i) fun m=>let n:=([m]:A1);let s:=h.1.length+n.length;
 .conv 12003 (czk 1 (encL 1 az1) n 43)<|
 .conv 12004 (ez5 1 (encL 1 az1) h.1 n 43)<|
 .grd (s * 24≤140737488355328/\s≤maxLen)<|
 .oo ((h.1++n),((((if 0<i.length then i.getD 0 default else 0),(if 1<i.length then i.getD 1 default else 0),(if 2<i.length then i.getD 2 default else 0),(if 3<i.length then i.getD 3 default else 0),(if 4<i.length then i.getD 4 default else 0),(if 5<i.length then i.getD 5 default else 0),(if 6<i.length then i.getD 6 default else 0),(if 7<i.length then i.getD 7 default else 0),(if 8<i.length then i.getD 8 default else 0),(if 9<i.length then i.getD 9 default else 0)),true)::h.2.1)))
 (.oo (h.1,h.2.1))))) fun l=>
 .nn (l.1,l.2,(i64.wrap (h.2.2+1))))
 (.oo h.1))
 (nl,(nl:List Bh),0) [] fun h=>
 .ret h
noncomputable def jzg (c)(d):=
 mkD Tryz.func47 (jzh c d) 0 [.pure (bzg c),.pure (encL 1 (encL 1 az1) d)] [] (fun r=>.pure (encL 1 (encL 1 az1) r)) (fun _=>[])
noncomputable def Gze (c:A0):T Bool:=let d:=encL 1 az1 c;let e:=(c.length:Int);.loop (fun (f:Int)=>⟨[(5,.pure d),(6,pz e),(7,pz f)],[],[],0⟩)
 (.exit 0) (fun (_:U0)=>⟨[],[],[],0⟩)
 (fun f=>let g:=c.getD (f.toNat) default;.br (decide (f<e))
 (.gh f c.length<|
 .cut 0 (fun (h:Bool)=>⟨[(5,.pure d),(6,pz e),(7,pz f),(16,.pure (.bool h))],[],[],0⟩)
 (.br (decide (g<(-2147483648)))
 (.oo true)
 (.oo (decide (g>2147483648)))) fun h=>
 .br h
 (.ff false)
 (.nn (i64.wrap (f+1))))
 (.oo .u))
 0 [] fun _=>
 .ret true
noncomputable def vz9 (c):=
 mkD Tryz.func178 (Gze c) 0 [.pure (encL 1 az1 c)] [] (fun r=>.pure (.bool r)) (fun _=>[])
noncomputable def vzp (c:A1):T Bool:=let d:=(c.length:Int);let e:=encL 1 (encL 1 az1) c;.br (decide (d>1024))
 (.ret false)
 (.loop (fun (f:Int)=>⟨[(0,.pure e),(8,.pure e),(9,pz d),(10,pz f)],[],[],0⟩)
 (.exit 0) (fun (_:U0)=>⟨[],[],[],0⟩)
 (fun f=>let g:=c.getD (f.toNat) default;let h:=(g.length:Int);.br (decide (f<d))
 (.gh f c.length<|
 .cut 0 (fun (i:Bool)=>⟨[(0,.pure e),(8,.pure e),(9,pz d),(10,pz f),(35,.pure (.bool i))],[],[],0⟩)
 (.br (decide (h<1))
 (.oo true)
 (.br (decide (h>10))
 (.oo true)
 (.gh (0:Int) c.length<|
 .br (h !=(((c.getD ((0:Int).toNat) default).length:Nat):Int))
 (.oo true)
 (.cc (vz9 g) fun i=>
 .oo (!i))))) fun i=>
 .br i
 (.ff false)
 (.nn (i64.wrap (f+1))))
 (.oo .u))
 0 [] fun _=>
 .ret true)
noncomputable def kz1 (c):=
 mkD Tryz.func133 (vzp c) 0 [.pure (encL 1 (encL 1 az1) c)] [] (fun r=>.pure (.bool r)) (fun _=>[])
noncomputable def Ezc (c:Int):T Int:=
 .cut 1 (fun (d:Ah)=>⟨[(0,.pure (.int .u64 d.1)),(2,pz d.2)],[],[],0⟩)
 (.br (decide (c≥4294967296))
 (.ok (0≤(32:Int)) (by decide)<|
 .oo ((c.fdiv (2 ^ (min (32:Int).toNat 64))),32))
 (.oo (c,0))) fun d=>
 .cut 0 (fun (e:Ah)=>⟨[(0,.pure (.int .u64 e.1)),(2,pz e.2)],[],[],0⟩)
 (.br (decide (d.1≥65536))
 (.ok (0≤(16:Int)) (by decide)<|
 .oo ((d.1.fdiv (2 ^ (min (16:Int).toNat 64))),(i64.wrap (d.2+16))))
 (.oo (d.1,d.2))) fun e=>
 .cut 0 (fun (f:Ah)=>⟨[(0,.pure (.int .u64 f.1)),(2,pz f.2)],[],[],0⟩)
 (.br (decide (e.1≥256))
 (.ok (0≤(8:Int)) (by decide)<|
 .oo ((e.1.fdiv (2 ^ (min (8:Int).toNat 64))),(i64.wrap (e.2+8))))
 (.oo (e.1,e.2))) fun f=>let g:=IntKind.u8.wrap f.1;
 .gh g ((⟨#[0,1,2,2,3,3,3,3,4,4,4,4,4,4,4,4,5,5,5,5,5,5,5,5,5,5,5,5,5,5,5,5,6,6,6,6,6,6,6,6,6,6,6,6,6,6,6,6,6,6,6,6,6,6,6,6,6,6,6,6,6,6,6,6,7,7,7,7,7,7,7,7,7,7,7,7,7,7,7,7,7,7,7,7,7,7,7,7,7,7,7,7,7,7,7,7,7,7,7,7,7,7,7,7,7,7,7,7,7,7,7,7,7,7,7,7,7,7,7,7,7,7,7,7,7,7,7,7,8,8,8,8,8,8,8,8,8,8,8,8,8,8,8,8,8,8,8,8,8,8,8,8,8,8,8,8,8,8,8,8,8,8,8,8,8,8,8,8,8,8,8,8,8,8,8,8,8,8,8,8,8,8,8,8,8,8,8,8,8,8,8,8,8,8,8,8,8,8,8,8,8,8,8,8,8,8,8,8,8,8,8,8,8,8,8,8,8,8,8,8,8,8,8,8,8,8,8,8,8,8,8,8,8,8,8,8,8,8,8,8,8,8,8,8,8,8,8,8,8,8,8,8,8,8,8,8]⟩:ByteArray).size)<|
 .name 10003 ((((⟨#[0,1,2,2,3,3,3,3,4,4,4,4,4,4,4,4,5,5,5,5,5,5,5,5,5,5,5,5,5,5,5,5,6,6,6,6,6,6,6,6,6,6,6,6,6,6,6,6,6,6,6,6,6,6,6,6,6,6,6,6,6,6,6,6,7,7,7,7,7,7,7,7,7,7,7,7,7,7,7,7,7,7,7,7,7,7,7,7,7,7,7,7,7,7,7,7,7,7,7,7,7,7,7,7,7,7,7,7,7,7,7,7,7,7,7,7,7,7,7,7,7,7,7,7,7,7,7,7,8,8,8,8,8,8,8,8,8,8,8,8,8,8,8,8,8,8,8,8,8,8,8,8,8,8,8,8,8,8,8,8,8,8,8,8,8,8,8,8,8,8,8,8,8,8,8,8,8,8,8,8,8,8,8,8,8,8,8,8,8,8,8,8,8,8,8,8,8,8,8,8,8,8,8,8,8,8,8,8,8,8,8,8,8,8,8,8,8,8,8,8,8,8,8,8,8,8,8,8,8,8,8,8,8,8,8,8,8,8,8,8,8,8,8,8,8,8,8,8,8,8,8,8,8,8,8,8]⟩:ByteArray).data.getD g.toNat 0).toNat:Int)) fun h=>
 .ret (i64.wrap (f.2+(i64.wrap h)))
noncomputable def gzp (c):=
 mkD Tryz.func195 (Ezc c) 0 [.pure (.int .u64 c)] [] (fun r=>pz r) (fun _=>[])
noncomputable def Izb (c:Int):T Int:=
 .cc (gzp c) fun d=>
 .ret d
noncomputable def ozj (c):=
 mkD Tryz.func149 (Izb c) 0 [.pure (.int .u64 c)] [] (fun r=>pz r) (fun _=>[])
noncomputable def Ez2 (c:Int):T Bool:=
 .ret (c !=c)
noncomputable def sz4 (c):=
 mkD Tryz.func181 (Ez2 c) 0 [pz c] [] (fun r=>.pure (.bool r)) (fun _=>[])
noncomputable def Azd (c:Int)(d:Int):T Int:=
 .cc (sz4 c) fun e=>
 .cc (sz4 d) fun f=>
 .br e
 (.br f
 (.ret 0)
 (.ret (-1)))
 (.br f
 (.ret 1)
 (.br (decide (c<d))
 (.ret (-1))
 (.br (decide (c>d))
 (.ret 1)
 (.ret 0))))
noncomputable def oz3 (c)(d):=
 mkD Tryz.func141 (Azd c d) 0 [pz c,pz d] [] (fun r=>pz r) (fun _=>[])
noncomputable def Hzl (c:Int):T Bool:=
 .ret (c !=c)
noncomputable def oz4 (c):=
 mkD Tryz.func151 (Hzl c) 0 [pz c] [] (fun r=>.pure (.bool r)) (fun _=>[])
noncomputable def kz4 (c:Int)(d:Int):T Int:=
 .cc (oz4 c) fun e=>
 .cc (oz4 d) fun f=>
 .br e
 (.br f
 (.ret 0)
 (.ret (-1)))
 (.br f
 (.ret 1)
 (.br (decide (c<d))
 (.ret (-1))
 (.br (decide (c>d))
 (.ret 1)
 (.ret 0))))
noncomputable def dzl (c)(d):=
 mkD Tryz.func94 (kz4 c d) 0 [pz c,pz d] [] (fun r=>pz r) (fun _=>[])
noncomputable def wz0 (c:A0):T Int:=let d:=(c.length:Nat);.loop (fun (e:Int)=>⟨[(3,pz 0),(6,.pure (encL 1 az1 c)),(7,pz (d:Int)),(8,pz e)],[],[],0⟩)
 (.exit 0) (fun (_:U0)=>⟨[(3,pz 0)],[],[],0⟩)
 (fun e=>let f:=c.getD (e.toNat) default;.br (decide (e<(d:Int)))
 (.gh e c.length<|
 .br (f !=0)
 (.ff f)
 (.nn (i64.wrap (e+1))))
 (.oo .u))
 0 [] fun _=>
 .ret 0
noncomputable def pzn (c):=
 mkD Tryz.func93 (wz0 c) 0 [.pure (encL 1 az1 c)] [] (fun r=>pz r) (fun _=>[])
noncomputable def Gzd (c:A1)(d:Int)(e:Int)(f:Int):T Int:=let g:=c.getD (e.toNat) default;let h:=c.getD (f.toNat) default;.gh e c.length<|
 .gh d (g.length)<|
 .gh f c.length<|
 .gh d (h.length)<|
 .cc (oz3 (g.getD (d.toNat) default) (h.getD (d.toNat) default)) fun i=>
 .cc (dzl e f) fun j=>let k:=([i,j]:A0);
 .conv 1018 (czk 1 az1 k 3)<|
 .cc (pzn k) fun l=>
 .ret l
noncomputable def vz8 (c)(d)(e)(f):=
 mkD Tryz.func137 (Gzd c d e f) 0 [.pure (encL 1 (encL 1 az1) c),pz d,pz e,pz f] [] (fun r=>pz r) (fun _=>[])
noncomputable def yzy (c:Int)(d:Int)(e:A1)(f:Int):T (Int×A1×Int):=
 .cc (vz8 e f c d) fun g=>
 .ret (g,e,f)
noncomputable def bz5 (c)(d)(e)(f):=
 mkD Tryz.func136 (yzy c d e f) 2 [pz c,pz d,.ptr 0 0,.ptr 1 0] [(0,.box [.pure (encL 1 (encL 1 az1) e)]),(1,.box [pz f])] (fun r=>pz r.1) (fun r=>[(0,.box [.pure (encL 1 (encL 1 az1) r.2.1)]),(1,.box [pz r.2.2])])
noncomputable def jzu (c:A0)(d:Nat)(e:Nat)(f:Int)(g:Int)(h:A1)(i:Int):T Ao:=
 .loop (fun (j:B8)=>⟨[(0,.view 0 1 d e),(1,pz f),(2,pz g),(3,.func 136 [] [.ptr 1 0,.ptr 2 0]),(8,pz j.2.2.2)],[(0,vecO 1 az1 j.2.2.1 3),(1,.box [.pure (encL 1 (encL 1 az1) j.1)]),(2,.box [pz j.2.1])],[],3⟩)
 (.exit 0) (fun (j:Ap)=>⟨[],[(0,vecO 1 az1 j.2.2 3),(1,.box [.pure (encL 1 (encL 1 az1) j.1)]),(2,.box [pz j.2.1])],[],3⟩)
 (fun j=>.br (decide (j.2.2.2<g))
 (.loop (fun (k:B8)=>⟨[(0,.view 0 1 d e),(1,pz f),(2,pz g),(3,.func 136 [] [.ptr 1 0,.ptr 2 0]),(8,pz j.2.2.2),(9,pz k.2.2.2)],[(0,vecO 1 az1 k.2.2.1 3),(1,.box [.pure (encL 1 (encL 1 az1) k.1)]),(2,.box [pz k.2.1])],[],3⟩)
 (.exit 2) (fun (k:Ap)=>⟨[(0,.view 0 1 d e),(1,pz f),(2,pz g),(3,.func 136 [] [.ptr 1 0,.ptr 2 0]),(8,pz j.2.2.2)],[(0,vecO 1 az1 k.2.2 3),(1,.box [.pure (encL 1 (encL 1 az1) k.1)]),(2,.box [pz k.2.1])],[],3⟩)
 (fun k=>let l:=d+((k.2.2.2).toNat);let m:=i64.wrap (k.2.2.2-1);let n:=d+(m.toNat);let s:=k.2.2.1.getD l default;let t:=k.2.2.1.getD n default;let w:=k.2.2.1.set l t;.cut 1 (fun (y:B3)=>⟨[(0,.view 0 1 d e),(1,pz f),(2,pz g),(3,.func 136 [] [.ptr 1 0,.ptr 2 0]),(8,pz j.2.2.2),(9,pz k.2.2.2),(34,.pure (.bool y.2.2))],[(0,vecO 1 az1 k.2.2.1 3),(1,.box [.pure (encL 1 (encL 1 az1) y.1)]),(2,.box [pz y.2.1])],[],3⟩)
 (.br (decide (k.2.2.2>f))
 (.gh k.2.2.2 e<|
 .grd (l<k.2.2.1.length)<|
 .gh m e<|
 .grd (n<k.2.2.1.length)<|
 .call (bz5 s t k.1 k.2.1) [(0,1),(1,2)] fun y=>
 .oo (y.2.1,y.2.2,(decide (y.1<0))))
 (.oo (k.1,k.2.1,false))) fun y=>
 .br y.2.2
 (.gh m e<|
 .grd (n<k.2.2.1.length)<|
 .gh k.2.2.2 e<|
 .grd (l<k.2.2.1.length)<|
 .gh k.2.2.2 e<|
 .conv 6015 (bzm 1 az1 k.2.2.1 3 l t)<|
 .grd (l<k.2.2.1.length/\0≤l)<|
 .gh m e<|
 .conv 6017 (bzm 1 az1 w 3 n s)<|
 .grd (n<w.length/\0≤n)<|
 .nn (y.1,y.2.1,(w.set n s),m))
 (.oo (y.1,y.2.1,k.2.2.1)))
 (j.1,j.2.1,j.2.2.1,j.2.2.2) [] fun k=>
 .nn (k.1,k.2.1,k.2.2,(i64.wrap (j.2.2.2+1))))
 (.oo (j.1,j.2.1,j.2.2.1)))
 (h,i,c,(i64.wrap (f+1))) [] fun j=>
 .ret (j.2.2,j.1,j.2.1)
noncomputable def jzt (c)(d)(e)(f)(g)(h)(i):=
 mkD Tryz.func211 (jzu c d e f g h i) 3 [.view 0 1 d e,pz f,pz g,.func 136 [] [.ptr 1 0,.ptr 2 0]] [(0,vecO 1 az1 c 3),(1,.box [.pure (encL 1 (encL 1 az1) h)]),(2,.box [pz i])] (fun _=>.tup []) (fun r=>[(0,vecO 1 az1 r.1 3),(1,.box [.pure (encL 1 (encL 1 az1) r.2.1)]),(2,.box [pz r.2.2])])
set_option maxHeartbeats 8000000 in
set_option maxRecDepth 20000 in
noncomputable def nzp (c:A0)(d:Nat)(e:Nat)(f:Int)(g:Int)(h:Int)(i:A1)(j:Int):T Ao:=
 .loop (fun (k:B8)=>⟨[(0,.view 0 1 d e),(2,pz g),(3,pz h),(4,.func 136 [] [.ptr 1 0,.ptr 2 0]),(10,pz k.2.2.2)],[(0,vecO 1 az1 k.2.2.1 3),(1,.box [.pure (encL 1 (encL 1 az1) k.1)]),(2,.box [pz k.2.1])],[],3⟩)
 (.exit 0) (fun (k:Ap)=>⟨[],[(0,vecO 1 az1 k.2.2 3),(1,.box [.pure (encL 1 (encL 1 az1) k.1)]),(2,.box [pz k.2.1])],[],3⟩)
 (fun k=>let l:=i64.wrap ((i64.wrap (2 * k.2.2.2))+1);let m:=i64.wrap (h+l);let n:=d+(m.toNat);let s:=i64.wrap (m+1);let t:=d+(s.toNat);let w:=i64.wrap (h+k.2.2.2);let y:=d+(w.toNat);let z:=k.2.2.1.getD y default;let aa:=i64.wrap (l+1);.br (decide (l≥g))
 (.oo (k.1,k.2.1,k.2.2.1))
 (.cut 0 (fun (ab:Au)=>⟨[(0,.view 0 1 d e),(2,pz g),(3,pz h),(4,.func 136 [] [.ptr 1 0,.ptr 2 0]),(10,pz k.2.2.2),(11,pz ab.2.2)],[(0,vecO 1 az1 k.2.2.1 3),(1,.box [.pure (encL 1 (encL 1 az1) ab.1)]),(2,.box [pz ab.2.1])],[],3⟩)
 (.cut 0 (fun (ab:B3)=>⟨[(0,.view 0 1 d e),(2,pz g),(3,pz h),(4,.func 136 [] [.ptr 1 0,.ptr 2 0]),(10,pz k.2.2.2),(11,pz l),(40,.pure (.bool ab.2.2))],[(0,vecO 1 az1 k.2.2.1 3),(1,.box [.pure (encL 1 (encL 1 az1) ab.1)]),(2,.box [pz ab.2.1])],[],3⟩)
 (.br (decide (aa<g))
 (.gh m e<|
 .grd (n<k.2.2.1.length)<|
 .name 3011 ((k.2.2.1.getD n default)) fun ab=>
 .gh s e<|
 .grd (t<k.2.2.1.length)<|
 .name 3018 ((k.2.2.1.getD t default)) fun ac=>
 .call (bz5 ab ac k.1 k.2.1) [(0,1),(1,2)] fun ad=>
 .oo (ad.2.1,ad.2.2,(decide (ad.1<0))))
 (.oo (k.1,k.2.1,false))) fun ab=>
 .br ab.2.2
 (.oo (ab.1,ab.2.1,aa))
 (.oo (ab.1,ab.2.1,l))) fun ab=>let ac:=i64.wrap (h+ab.2.2);let ad:=d+(ac.toNat);let ae:=k.2.2.1.getD ad default;let af:=k.2.2.1.set y ae;
 .gh w e<|
 .grd (y<k.2.2.1.length)<|
 .gh ac e<|
 .grd (ad<k.2.2.1.length)<|
 .call (bz5 z ae ab.1 ab.2.1) [(0,1),(1,2)] fun ag=>
 .br (!(decide (ag.1<0)))
 (.ff (k.2.2.1,ag.2.1,ag.2.2))
 (.gh ac e<|
 .grd (ad<k.2.2.1.length)<|
 .gh w e<|
 .grd (y<k.2.2.1.length)<|
 .gh w e<|
 .conv 6021 (bzm 1 az1 k.2.2.1 3 y ae)<|
 .grd (y<k.2.2.1.length/\0≤y)<|
 .gh ac e<|
 .conv 6023 (bzm 1 az1 af 3 ad z)<|
 .grd (ad<af.length/\0≤ad)<|
 .nn (ag.2.1,ag.2.2,(af.set ad z),ab.2.2))))
 (i,j,c,f) [] fun k=>
 .ret (k.2.2,k.1,k.2.1)
noncomputable def gz2 (c)(d)(e)(f)(g)(h)(i)(j):=
 mkD Tryz.func243 (nzp c d e f g h i j) 3 [.view 0 1 d e,pz f,pz g,pz h,.func 136 [] [.ptr 1 0,.ptr 2 0]] [(0,vecO 1 az1 c 3),(1,.box [.pure (encL 1 (encL 1 az1) i)]),(2,.box [pz j])] (fun _=>.tup []) (fun r=>[(0,vecO 1 az1 r.1 3),(1,.box [.pure (encL 1 (encL 1 az1) r.2.1)]),(2,.box [pz r.2.2])])
noncomputable def nzm (c:A0)(d:Nat)(e:Nat)(f:Int)(g:Int)(h:A1)(i:Int):T Ao:=let j:=d+(f.toNat);let k:=i64.wrap (g-f);let l:=i64.wrap (k-1);.ok ((2:Int)≠0) (by decide)<|
 .loop (fun (m:B8)=>⟨[(0,.view 0 1 d e),(3,.func 136 [] [.ptr 1 0,.ptr 2 0]),(8,pz f),(9,pz 0),(10,pz k),(11,pz m.2.2.2)],[(0,vecO 1 az1 m.2.2.1 3),(1,.box [.pure (encL 1 (encL 1 az1) m.1)]),(2,.box [pz m.2.1])],[],3⟩)
 (.exit 0) (fun (m:Ap)=>⟨[(0,.view 0 1 d e),(3,.func 136 [] [.ptr 1 0,.ptr 2 0]),(8,pz f),(9,pz 0),(10,pz k)],[(0,vecO 1 az1 m.2.2 3),(1,.box [.pure (encL 1 (encL 1 az1) m.1)]),(2,.box [pz m.2.1])],[],3⟩)
 (fun m=>.br (decide (m.2.2.2≥0))
 (.call (gz2 m.2.2.1 d e m.2.2.2 k f m.1 m.2.1) [(0,0),(1,1),(2,2)] fun n=>
 .nn (n.2.1,n.2.2,n.1,(i64.wrap (m.2.2.2-1))))
 (.oo (m.1,m.2.1,m.2.2.1)))
 (h,i,c,(i64.wrap (l.tdiv 2))) [] fun m=>
 .loop (fun (n:B8)=>⟨[(0,.view 0 1 d e),(3,.func 136 [] [.ptr 1 0,.ptr 2 0]),(8,pz f),(9,pz 0),(12,pz n.2.2.2)],[(0,vecO 1 az1 n.2.2.1 3),(1,.box [.pure (encL 1 (encL 1 az1) n.1)]),(2,.box [pz n.2.1])],[],3⟩)
 (.exit 2) (fun (n:Ap)=>⟨[],[(0,vecO 1 az1 n.2.2 3),(1,.box [.pure (encL 1 (encL 1 az1) n.1)]),(2,.box [pz n.2.1])],[],3⟩)
 (fun n=>let s:=i64.wrap (f+n.2.2.2);let t:=d+(s.toNat);let w:=n.2.2.1.getD t default;let y:=n.2.2.1.set j w;let z:=n.2.2.1.getD j default;.br (decide (n.2.2.2≥0))
 (.gh s e<|
 .grd (t<n.2.2.1.length)<|
 .gh f e<|
 .grd (j<n.2.2.1.length)<|
 .gh f e<|
 .conv 10017 (bzm 1 az1 n.2.2.1 3 j w)<|
 .grd (j<n.2.2.1.length/\0≤j)<|
 .gh s e<|
 .conv 10019 (bzm 1 az1 y 3 t z)<|
 .grd (t<y.length/\0≤t)<|
 .call (gz2 (y.set t z) d e 0 n.2.2.2 f n.1 n.2.1) [(0,0),(1,1),(2,2)] fun aa=>
 .nn (aa.2.1,aa.2.2,aa.1,(i64.wrap (n.2.2.2-1))))
 (.oo (n.1,n.2.1,n.2.2.1)))
 (m.1,m.2.1,m.2.2,l) [] fun n=>
 .ret (n.2.2,n.1,n.2.1)
noncomputable def nzl (c)(d)(e)(f)(g)(h)(i):=
 mkD Tryz.func212 (nzm c d e f g h i) 3 [.view 0 1 d e,pz f,pz g,.func 136 [] [.ptr 1 0,.ptr 2 0]] [(0,vecO 1 az1 c 3),(1,.box [.pure (encL 1 (encL 1 az1) h)]),(2,.box [pz i])] (fun _=>.tup []) (fun r=>[(0,vecO 1 az1 r.1 3),(1,.box [.pure (encL 1 (encL 1 az1) r.2.1)]),(2,.box [pz r.2.2])])
noncomputable def pzl (c:A0)(d:Nat)(e:Nat)(f:Int)(g:Int)(h:Int)(i:A1)(j:Int):T (Int×Int×Int×A1×Int):=let k:=d+(g.toNat);let l:=d+(f.toNat);.gh g e<|
 .grd (k<c.length)<|
 .gh f e<|
 .grd (l<c.length)<|
 .call (bz5 (c.getD k default) (c.getD l default) i j) [(0,2),(1,3)] fun m=>
 .br (decide (m.1<0))
 (.ret (g,f,(i64.wrap (h+1)),m.2.1,m.2.2))
 (.ret (f,g,h,m.2.1,m.2.2))
noncomputable def ezs (c)(d)(e)(f)(g)(h)(i)(j):=
 mkD Tryz.func258 (pzl c d e f g h i j) 4 [.view 0 1 d e,pz f,pz g,.ptr 1 0,.func 136 [] [.ptr 2 0,.ptr 3 0]] [(0,vecO 1 az1 c 3),(1,.box [pz h]),(2,.box [.pure (encL 1 (encL 1 az1) i)]),(3,.box [pz j])] (fun r=>.tup [pz r.1,pz r.2.1]) (fun r=>[(0,vecO 1 az1 c 3),(1,.box [pz r.2.2.1]),(2,.box [.pure (encL 1 (encL 1 az1) r.2.2.2.1)]),(3,.box [pz r.2.2.2.2])])
noncomputable def pzk (c:A0)(d:Nat)(e:Nat)(f:Int)(g:Int)(h:Int)(i:Int)(j:A1)(k:Int):T B9:=
 .call (ezs c d e f g i j k) [(0,0),(1,1),(2,2),(3,3)] fun l=>
 .call (ezs c d e l.2.1 h l.2.2.1 l.2.2.2.1 l.2.2.2.2) [(0,0),(1,1),(2,2),(3,3)] fun m=>
 .call (ezs c d e l.1 m.1 m.2.2.1 m.2.2.2.1 m.2.2.2.2) [(0,0),(1,1),(2,2),(3,3)] fun n=>
 .ret (n.2.1,n.2.2.1,n.2.2.2.1,n.2.2.2.2)
noncomputable def gzw (c)(d)(e)(f)(g)(h)(i)(j)(k):=
 mkD Tryz.func245 (pzk c d e f g h i j k) 4 [.view 0 1 d e,pz f,pz g,pz h,.ptr 1 0,.func 136 [] [.ptr 2 0,.ptr 3 0]] [(0,vecO 1 az1 c 3),(1,.box [pz i]),(2,.box [.pure (encL 1 (encL 1 az1) j)]),(3,.box [pz k])] (fun r=>pz r.1) (fun r=>[(0,vecO 1 az1 c 3),(1,.box [pz r.2.1]),(2,.box [.pure (encL 1 (encL 1 az1) r.2.2.1)]),(3,.box [pz r.2.2.2])])
noncomputable def iza (c:A0)(d:Nat)(e:Nat)(f:Int)(g:Int)(h:A1)(i:Int):T B9:=
 .call (gzw c d e (i64.wrap (f-1)) f (i64.wrap (f+1)) g h i) [(0,0),(1,1),(2,2),(3,3)] fun j=>
 .ret (j.1,j.2.1,j.2.2.1,j.2.2.2)
noncomputable def dz6 (c)(d)(e)(f)(g)(h)(i):=
 mkD Tryz.func244 (iza c d e f g h i) 4 [.view 0 1 d e,pz f,.ptr 1 0,.func 136 [] [.ptr 2 0,.ptr 3 0]] [(0,vecO 1 az1 c 3),(1,.box [pz g]),(2,.box [.pure (encL 1 (encL 1 az1) h)]),(3,.box [pz i])] (fun r=>pz r.1) (fun r=>[(0,vecO 1 az1 c 3),(1,.box [pz r.2.1]),(2,.box [.pure (encL 1 (encL 1 az1) r.2.2.1)]),(3,.box [pz r.2.2.2])])
noncomputable def kzw (c:A0)(d:Nat)(e:Nat)(f:Int)(g:Int)(h:A1)(i:Int):T B9:=let j:=i64.wrap (g-f);let k:=i64.wrap (j.tdiv 4);let l:=i64.wrap (f+(i64.wrap (k * 2)));let m:=i64.wrap (f+(i64.wrap (k * 1)));let n:=i64.wrap (f+(i64.wrap (k * 3)));.ok ((4:Int)≠0) (by decide)<|
 .ok ((4:Int)≠0) (by decide)<|
 .ok ((4:Int)≠0) (by decide)<|
 .cut 0 (fun (s:(A1×Int×Int×Int))=>⟨[(11,.ptr 3 0),(13,pz s.2.2.2)],[(0,vecO 1 az1 c 3),(1,.box [.pure (encL 1 (encL 1 az1) s.1)]),(2,.box [pz s.2.1]),(3,.box [pz s.2.2.1])],[],4⟩)
 (.br (decide (j≥8))
 (.cut 0 (fun (s:(A1×Int×Int×Int×Int×Int))=>⟨[(0,.view 0 1 d e),(3,.func 136 [] [.ptr 1 0,.ptr 2 0]),(11,.ptr 3 0),(12,pz s.2.2.2.1),(13,pz s.2.2.2.2.1),(14,pz s.2.2.2.2.2)],[(0,vecO 1 az1 c 3),(1,.box [.pure (encL 1 (encL 1 az1) s.1)]),(2,.box [pz s.2.1]),(3,.box [pz s.2.2.1])],[],4⟩)
 (.br (decide (j≥50))
 (.call (dz6 c d e m 0 h i) [(0,0),(1,387),(2,1),(3,2)] fun s=>
 .call (dz6 c d e l s.2.1 s.2.2.1 s.2.2.2) [(0,0),(1,387),(2,1),(3,2)] fun t=>
 .call (dz6 c d e n t.2.1 t.2.2.1 t.2.2.2) [(0,0),(1,387),(2,1),(3,2)] fun w=>
 .oo (w.2.2.1,w.2.2.2,w.2.1,s.1,t.1,w.1))
 (.oo (h,i,0,m,l,n))) fun s=>
 .call (gzw c d e s.2.2.2.1 s.2.2.2.2.1 s.2.2.2.2.2 s.2.2.1 s.1 s.2.1) [(0,0),(1,3),(2,1),(3,2)] fun t=>
 .oo (t.2.2.1,t.2.2.2,t.2.1,t.1))
 (.oo (h,i,0,l))) fun s=>
 .br (s.2.2.1==0)
 (.ret (s.2.2.2,1,s.1,s.2.1))
 (.br (s.2.2.1==12)
 (.ret (s.2.2.2,2,s.1,s.2.1))
 (.ret (s.2.2.2,0,s.1,s.2.1)))
noncomputable def kzv (c)(d)(e)(f)(g)(h)(i):=
 mkD Tryz.func214 (kzw c d e f g h i) 3 [.view 0 1 d e,pz f,pz g,.func 136 [] [.ptr 1 0,.ptr 2 0]] [(0,vecO 1 az1 c 3),(1,.box [.pure (encL 1 (encL 1 az1) h)]),(2,.box [pz i])] (fun r=>.tup [pz r.1,pz r.2.1]) (fun r=>[(0,vecO 1 az1 c 3),(1,.box [.pure (encL 1 (encL 1 az1) r.2.2.1)]),(2,.box [pz r.2.2.2])])
noncomputable def jzz (c:A0)(d:Nat)(e:Nat)(f:Int)(g:Int)(h:A1)(i:Int):T Ao:=let j:=encL 1 (encL 1 az1) h;.loop (fun (k:As)=>⟨[(0,.view 0 1 d e),(8,pz k.2.1),(9,pz k.2.2)],[(0,vecO 1 az1 k.1 3),(1,.box [.pure j]),(2,.box [pz i])],[],3⟩)
 (.exit 0) (fun (k:A0)=>⟨[],[(0,vecO 1 az1 k 3),(1,.box [.pure j]),(2,.box [pz i])],[],3⟩)
 (fun k=>let l:=d+((k.2.2).toNat);let m:=d+((k.2.1).toNat);let n:=k.1.getD l default;let s:=k.1.set m n;let t:=k.1.getD m default;.br (decide (k.2.1<k.2.2))
 (.gh k.2.2 e<|
 .grd (l<k.1.length)<|
 .gh k.2.1 e<|
 .grd (m<k.1.length)<|
 .gh k.2.1 e<|
 .conv 3013 (bzm 1 az1 k.1 3 m n)<|
 .grd (m<k.1.length/\0≤m)<|
 .gh k.2.2 e<|
 .conv 3015 (bzm 1 az1 s 3 l t)<|
 .grd (l<s.length/\0≤l)<|
 .nn ((s.set l t),(i64.wrap (k.2.1+1)),(i64.wrap (k.2.2-1))))
 (.oo k.1))
 (c,f,(i64.wrap (g-1))) [] fun k=>
 .ret (k,h,i)
noncomputable def jzy (c)(d)(e)(f)(g)(h)(i):=
 mkD Tryz.func215 (jzz c d e f g h i) 3 [.view 0 1 d e,pz f,pz g,.func 136 [] [.ptr 1 0,.ptr 2 0]] [(0,vecO 1 az1 c 3),(1,.box [.pure (encL 1 (encL 1 az1) h)]),(2,.box [pz i])] (fun _=>.tup []) (fun r=>[(0,vecO 1 az1 r.1 3),(1,.box [.pure (encL 1 (encL 1 az1) r.2.1)]),(2,.box [pz r.2.2])])
set_option maxHeartbeats 8000000 in
set_option maxRecDepth 20000 in
noncomputable def gz5 (c:A0)(d:Nat)(e:Nat)(f:Int)(g:Int)(h:A1)(i:Int):T (Bool×A0×A1×Int):=
 .loop (fun (j:Bb)=>⟨[(0,.view 0 1 d e),(1,pz f),(2,pz g),(3,.func 136 [] [.ptr 1 0,.ptr 2 0]),(9,pz j.2.2.2.1),(10,pz j.2.2.2.2)],[(0,vecO 1 az1 j.2.2.1 3),(1,.box [.pure (encL 1 (encL 1 az1) j.1)]),(2,.box [pz j.2.1])],[],3⟩)
 (.exit 0) (fun (j:Ap)=>⟨[],[(0,vecO 1 az1 j.2.2 3),(1,.box [.pure (encL 1 (encL 1 az1) j.1)]),(2,.box [pz j.2.1])],[],3⟩)
 (fun j=>.br (decide (j.2.2.2.2<5))
 (.cut 0 (fun (k:B8)=>⟨[(0,.view 0 1 d e),(1,pz f),(2,pz g),(3,.func 136 [] [.ptr 1 0,.ptr 2 0]),(9,pz k.2.2.2),(10,pz j.2.2.2.2)],[(0,vecO 1 az1 k.2.2.1 3),(1,.box [.pure (encL 1 (encL 1 az1) k.1)]),(2,.box [pz k.2.1])],[],3⟩)
 (.loop (fun (k:Au)=>⟨[(0,.view 0 1 d e),(1,pz f),(2,pz g),(3,.func 136 [] [.ptr 1 0,.ptr 2 0]),(9,pz k.2.2),(10,pz j.2.2.2.2)],[(0,vecO 1 az1 j.2.2.1 3),(1,.box [.pure (encL 1 (encL 1 az1) k.1)]),(2,.box [pz k.2.1])],[],3⟩)
 (.exit 2) (fun (k:Au)=>⟨[(0,.view 0 1 d e),(1,pz f),(2,pz g),(3,.func 136 [] [.ptr 1 0,.ptr 2 0]),(9,pz k.2.2),(10,pz j.2.2.2.2)],[(0,vecO 1 az1 j.2.2.1 3),(1,.box [.pure (encL 1 (encL 1 az1) k.1)]),(2,.box [pz k.2.1])],[],3⟩)
 (fun k=>let l:=(k.2.2).toNat;let m:=i64.wrap (k.2.2-1);let n:=d+(m.toNat);.cut 1 (fun (s:B3)=>⟨[(0,.view 0 1 d e),(1,pz f),(2,pz g),(3,.func 136 [] [.ptr 1 0,.ptr 2 0]),(9,pz k.2.2),(10,pz j.2.2.2.2),(36,.pure (.bool s.2.2))],[(0,vecO 1 az1 j.2.2.1 3),(1,.box [.pure (encL 1 (encL 1 az1) s.1)]),(2,.box [pz s.2.1])],[],3⟩)
 (.br (decide (k.2.2<g))
 (.gh k.2.2 e<|
 .grd ((d+l)<j.2.2.1.length)<|
 .gh m e<|
 .grd (n<j.2.2.1.length)<|
 .call (bz5 (j.2.2.1.getD (d+l) default) (j.2.2.1.getD n default) k.1 k.2.1) [(0,1),(1,2)] fun s=>
 .oo (s.2.1,s.2.2,(!(decide (s.1<0)))))
 (.oo (k.1,k.2.1,false))) fun s=>
 .br s.2.2
 (.nn (s.1,s.2.1,(i64.wrap (k.2.2+1))))
 (.oo (s.1,s.2.1,k.2.2)))
 (j.1,j.2.1,j.2.2.2.1) [] fun k=>let l:=d+((k.2.2).toNat);let m:=i64.wrap (k.2.2-1);let n:=d+(m.toNat);let s:=j.2.2.1.getD n default;let t:=j.2.2.1.set l s;let w:=j.2.2.1.getD l default;let y:=t.set n w;
 .br (k.2.2==g)
 (.ff (.fin (true,j.2.2.1,k.1,k.2.1)))
 (.br (decide ((i64.wrap (g-f))<50))
 (.ff (.fin (false,j.2.2.1,k.1,k.2.1)))
 (.gh m e<|
 .grd (n<j.2.2.1.length)<|
 .gh k.2.2 e<|
 .grd (l<j.2.2.1.length)<|
 .gh k.2.2 e<|
 .conv 11015 (bzm 1 az1 j.2.2.1 3 l s)<|
 .grd (l<j.2.2.1.length/\0≤l)<|
 .gh m e<|
 .conv 11017 (bzm 1 az1 t 3 n w)<|
 .grd (n<t.length/\0≤n)<|
 .cut 0 (fun (z:Ap)=>⟨[(0,.view 0 1 d e),(1,pz f),(2,pz g),(3,.func 136 [] [.ptr 1 0,.ptr 2 0]),(9,pz k.2.2),(10,pz j.2.2.2.2)],[(0,vecO 1 az1 z.2.2 3),(1,.box [.pure (encL 1 (encL 1 az1) z.1)]),(2,.box [pz z.2.1])],[],3⟩)
 (.br (decide ((i64.wrap (k.2.2-f))≥2))
 (.loop (fun (z:B8)=>⟨[(0,.view 0 1 d e),(1,pz f),(2,pz g),(3,.func 136 [] [.ptr 1 0,.ptr 2 0]),(9,pz k.2.2),(10,pz j.2.2.2.2),(11,pz z.2.2.2)],[(0,vecO 1 az1 z.2.2.1 3),(1,.box [.pure (encL 1 (encL 1 az1) z.1)]),(2,.box [pz z.2.1])],[],3⟩)
 (.exit 4) (fun (z:Ap)=>⟨[(0,.view 0 1 d e),(1,pz f),(2,pz g),(3,.func 136 [] [.ptr 1 0,.ptr 2 0]),(9,pz k.2.2),(10,pz j.2.2.2.2)],[(0,vecO 1 az1 z.2.2 3),(1,.box [.pure (encL 1 (encL 1 az1) z.1)]),(2,.box [pz z.2.1])],[],3⟩)
 (fun z=>let aa:=d+((z.2.2.2).toNat);let ab:=i64.wrap (z.2.2.2-1);let ac:=d+(ab.toNat);let ad:=z.2.2.1.getD aa default;let ae:=z.2.2.1.getD ac default;.br (decide (z.2.2.2≥1))
 (.gh z.2.2.2 e<|
 .grd (aa<z.2.2.1.length)<|
 .name 16004 (ad) fun af=>
 .gh ab e<|
 .grd (ac<z.2.2.1.length)<|
 .name 16009 (ae) fun ag=>
 .call (bz5 af ag z.1 z.2.1) [(0,1),(1,2)] fun ah=>
 .br (!(decide (ah.1<0)))
 (.oo (ah.2.1,ah.2.2,z.2.2.1))
 (.gh ab e<|
 .grd (ac<z.2.2.1.length)<|
 .name 17009 (ae) fun ai=>let aj:=z.2.2.1.set aa ai;
 .gh z.2.2.2 e<|
 .grd (aa<z.2.2.1.length)<|
 .name 17013 (ad) fun ak=>
 .gh z.2.2.2 e<|
 .conv 17015 (bzm 1 az1 z.2.2.1 3 aa ai)<|
 .grd (aa<z.2.2.1.length/\0≤aa)<|
 .gh ab e<|
 .conv 17017 (bzm 1 az1 aj 3 ac ak)<|
 .grd (ac<aj.length/\0≤ac)<|
 .nn (ah.2.1,ah.2.2,(aj.set ac ak),ab)))
 (.oo (z.1,z.2.1,z.2.2.1)))
 (k.1,k.2.1,y,m) [] fun z=>
 .oo (z.1,z.2.1,z.2.2))
 (.oo (k.1,k.2.1,y))) fun z=>
 .br (decide ((i64.wrap (g-k.2.2))≥2))
 (.loop (fun (aa:B8)=>⟨[(0,.view 0 1 d e),(1,pz f),(2,pz g),(3,.func 136 [] [.ptr 1 0,.ptr 2 0]),(9,pz k.2.2),(10,pz j.2.2.2.2),(12,pz aa.2.2.2)],[(0,vecO 1 az1 aa.2.2.1 3),(1,.box [.pure (encL 1 (encL 1 az1) aa.1)]),(2,.box [pz aa.2.1])],[],3⟩)
 (.exit 6) (fun (aa:Ap)=>⟨[(0,.view 0 1 d e),(1,pz f),(2,pz g),(3,.func 136 [] [.ptr 1 0,.ptr 2 0]),(9,pz k.2.2),(10,pz j.2.2.2.2)],[(0,vecO 1 az1 aa.2.2 3),(1,.box [.pure (encL 1 (encL 1 az1) aa.1)]),(2,.box [pz aa.2.1])],[],3⟩)
 (fun aa=>let ab:=d+((aa.2.2.2).toNat);let ac:=i64.wrap (aa.2.2.2-1);let ad:=d+(ac.toNat);let ae:=aa.2.2.1.getD ab default;let af:=aa.2.2.1.getD ad default;let ag:=aa.2.2.1.set ab af;.br (decide (aa.2.2.2<g))
 (.gh aa.2.2.2 e<|
 .grd (ab<aa.2.2.1.length)<|
 .gh ac e<|
 .grd (ad<aa.2.2.1.length)<|
 .call (bz5 ae af aa.1 aa.2.1) [(0,1),(1,2)] fun ah=>
 .br (!(decide (ah.1<0)))
 (.oo (ah.2.1,ah.2.2,aa.2.2.1))
 (.gh ac e<|
 .grd (ad<aa.2.2.1.length)<|
 .gh aa.2.2.2 e<|
 .grd (ab<aa.2.2.1.length)<|
 .gh aa.2.2.2 e<|
 .conv 23015 (bzm 1 az1 aa.2.2.1 3 ab af)<|
 .grd (ab<aa.2.2.1.length/\0≤ab)<|
 .gh ac e<|
 .conv 23017 (bzm 1 az1 ag 3 ad ae)<|
 .grd (ad<ag.length/\0≤ad)<|
 .nn (ah.2.1,ah.2.2,(ag.set ad ae),(i64.wrap (aa.2.2.2+1)))))
 (.oo (aa.1,aa.2.1,aa.2.2.1)))
 (z.1,z.2.1,z.2.2,(i64.wrap (k.2.2+1))) [] fun aa=>
 .oo (aa.1,aa.2.1,aa.2.2,k.2.2))
 (.oo (z.1,z.2.1,z.2.2,k.2.2))))) fun k=>
 .nn (k.1,k.2.1,k.2.2.1,k.2.2.2,(i64.wrap (j.2.2.2.2+1))))
 (.oo (j.1,j.2.1,j.2.2.1)))
 (h,i,c,(i64.wrap (f+1)),0) [] fun j=>
 .ret (false,j.2.2,j.1,j.2.1)
noncomputable def gz4 (c)(d)(e)(f)(g)(h)(i):=
 mkD Tryz.func216 (gz5 c d e f g h i) 3 [.view 0 1 d e,pz f,pz g,.func 136 [] [.ptr 1 0,.ptr 2 0]] [(0,vecO 1 az1 c 3),(1,.box [.pure (encL 1 (encL 1 az1) h)]),(2,.box [pz i])] (fun r=>.pure (.bool r.1)) (fun r=>[(0,vecO 1 az1 r.2.1 3),(1,.box [.pure (encL 1 (encL 1 az1) r.2.2.1)]),(2,.box [pz r.2.2.2])])
open Go.Proofs
set_option maxHeartbeats 8000000 in
set_option maxRecDepth 20000 in
noncomputable def izc (c:A0)(d:Nat)(e:Nat)(f:Int)(g:Int)(h:Int)(i:A1)(j:Int):T (Int×A0×A1×Int):=let k:=d+(h.toNat);let l:=d+(f.toNat);let m:=c.getD k default;let n:=c.set l m;let s:=c.getD l default;.gh h e<|
 .grd (k<c.length)<|
 .gh f e<|
 .grd (l<c.length)<|
 .gh f e<|
 .conv 1013 (bzm 1 az1 c 3 l m)<|
 .grd (l<c.length/\0≤l)<|
 .gh h e<|
 .conv 1015 (bzm 1 az1 n 3 k s)<|
 .grd (k<n.length/\0≤k)<|
 .loop (fun (t:Bb)=>⟨[(0,.view 0 1 d e),(1,pz f),(4,.func 136 [] [.ptr 1 0,.ptr 2 0]),(11,pz t.2.2.2.1),(12,pz t.2.2.2.2)],[(0,vecO 1 az1 t.2.2.1 3),(1,.box [.pure (encL 1 (encL 1 az1) t.1)]),(2,.box [pz t.2.1])],[],3⟩)
 (.exit 0) (fun (t:(A1×Int×Int×A0))=>⟨[(11,pz t.2.2.1)],[(0,vecO 1 az1 t.2.2.2 3),(1,.box [.pure (encL 1 (encL 1 az1) t.1)]),(2,.box [pz t.2.1])],[],3⟩)
 (fun t=>let w:=t.2.2.1.getD l default;.loop (fun (y:Au)=>⟨[(0,.view 0 1 d e),(1,pz f),(4,.func 136 [] [.ptr 1 0,.ptr 2 0]),(11,pz y.2.2),(12,pz t.2.2.2.2)],[(0,vecO 1 az1 t.2.2.1 3),(1,.box [.pure (encL 1 (encL 1 az1) y.1)]),(2,.box [pz y.2.1])],[],3⟩)
 (.exit 2) (fun (y:Au)=>⟨[(0,.view 0 1 d e),(1,pz f),(4,.func 136 [] [.ptr 1 0,.ptr 2 0]),(11,pz y.2.2),(12,pz t.2.2.2.2)],[(0,vecO 1 az1 t.2.2.1 3),(1,.box [.pure (encL 1 (encL 1 az1) y.1)]),(2,.box [pz y.2.1])],[],3⟩)
 (fun y=>let z:=(y.2.2).toNat;.cut 1 (fun (aa:B3)=>⟨[(0,.view 0 1 d e),(1,pz f),(4,.func 136 [] [.ptr 1 0,.ptr 2 0]),(11,pz y.2.2),(12,pz t.2.2.2.2),(47,.pure (.bool aa.2.2))],[(0,vecO 1 az1 t.2.2.1 3),(1,.box [.pure (encL 1 (encL 1 az1) aa.1)]),(2,.box [pz aa.2.1])],[],3⟩)
 (.br (decide (y.2.2≤t.2.2.2.2))
 (.gh f e<|
 .grd (l<t.2.2.1.length)<|
 .name 3008 (w) fun aa=>
 .gh y.2.2 e<|
 .grd ((d+z)<t.2.2.1.length)<|
 .name 3012 ((t.2.2.1.getD (d+z) default)) fun ab=>
 .call (bz5 aa ab y.1 y.2.1) [(0,1),(1,2)] fun ac=>
 .oo (ac.2.1,ac.2.2,(!(decide (ac.1<0)))))
 (.oo (y.1,y.2.1,false))) fun aa=>
 .br aa.2.2
 (.nn (aa.1,aa.2.1,(i64.wrap (y.2.2+1))))
 (.oo (aa.1,aa.2.1,y.2.2)))
 (t.1,t.2.1,t.2.2.2.1) [] fun y=>let z:=d+((y.2.2).toNat);
 .loop (fun (aa:Au)=>⟨[(0,.view 0 1 d e),(1,pz f),(4,.func 136 [] [.ptr 1 0,.ptr 2 0]),(11,pz y.2.2),(12,pz aa.2.2)],[(0,vecO 1 az1 t.2.2.1 3),(1,.box [.pure (encL 1 (encL 1 az1) aa.1)]),(2,.box [pz aa.2.1])],[],3⟩)
 (.exit 4) (fun (aa:Au)=>⟨[(0,.view 0 1 d e),(1,pz f),(4,.func 136 [] [.ptr 1 0,.ptr 2 0]),(11,pz y.2.2),(12,pz aa.2.2)],[(0,vecO 1 az1 t.2.2.1 3),(1,.box [.pure (encL 1 (encL 1 az1) aa.1)]),(2,.box [pz aa.2.1])],[],3⟩)
 (fun aa=>let ab:=(aa.2.2).toNat;.cut 1 (fun (ac:B3)=>⟨[(0,.view 0 1 d e),(1,pz f),(4,.func 136 [] [.ptr 1 0,.ptr 2 0]),(11,pz y.2.2),(12,pz aa.2.2),(65,.pure (.bool ac.2.2))],[(0,vecO 1 az1 t.2.2.1 3),(1,.box [.pure (encL 1 (encL 1 az1) ac.1)]),(2,.box [pz ac.2.1])],[],3⟩)
 (.br (decide (y.2.2≤aa.2.2))
 (.gh f e<|
 .grd (l<t.2.2.1.length)<|
 .name 5008 (w) fun ac=>
 .gh aa.2.2 e<|
 .grd ((d+ab)<t.2.2.1.length)<|
 .name 5012 ((t.2.2.1.getD (d+ab) default)) fun ad=>
 .call (bz5 ac ad aa.1 aa.2.1) [(0,1),(1,2)] fun ae=>
 .oo (ae.2.1,ae.2.2,(decide (ae.1<0))))
 (.oo (aa.1,aa.2.1,false))) fun ac=>
 .br ac.2.2
 (.nn (ac.1,ac.2.1,(i64.wrap (aa.2.2-1))))
 (.oo (ac.1,ac.2.1,aa.2.2)))
 (y.1,y.2.1,t.2.2.2.2) [] fun aa=>let ab:=d+((aa.2.2).toNat);
 .br (decide (y.2.2>aa.2.2))
 (.oo (aa.1,aa.2.1,y.2.2,t.2.2.1))
 (.gh aa.2.2 e<|
 .grd (ab<t.2.2.1.length)<|
 .name 8007 ((t.2.2.1.getD ab default)) fun ac=>let ad:=t.2.2.1.set z ac;
 .gh y.2.2 e<|
 .grd (z<t.2.2.1.length)<|
 .name 8011 ((t.2.2.1.getD z default)) fun ae=>
 .gh y.2.2 e<|
 .conv 8013 (bzm 1 az1 t.2.2.1 3 z ac)<|
 .grd (z<t.2.2.1.length/\0≤z)<|
 .gh aa.2.2 e<|
 .conv 8015 (bzm 1 az1 ad 3 ab ae)<|
 .grd (ab<ad.length/\0≤ab)<|
 .nn (aa.1,aa.2.1,(ad.set ab ae),(i64.wrap (y.2.2+1)),(i64.wrap (aa.2.2-1)))))
 (i,j,(n.set k s),(i64.wrap (f+1)),(i64.wrap (g-1))) [] fun t=>
 .ret (t.2.2.1,t.2.2.2,t.1,t.2.1)
noncomputable def izb (c)(d)(e)(f)(g)(h)(i)(j):=
 mkD Tryz.func217 (izc c d e f g h i j) 3 [.view 0 1 d e,pz f,pz g,pz h,.func 136 [] [.ptr 1 0,.ptr 2 0]] [(0,vecO 1 az1 c 3),(1,.box [.pure (encL 1 (encL 1 az1) i)]),(2,.box [pz j])] (fun r=>pz r.1) (fun r=>[(0,vecO 1 az1 r.2.1 3),(1,.box [.pure (encL 1 (encL 1 az1) r.2.2.1)]),(2,.box [pz r.2.2.2])])
set_option maxHeartbeats 8000000 in
set_option maxRecDepth 20000 in
noncomputable def mzv (c:A0)(d:Nat)(e:Nat)(f:Int)(g:Int)(h:Int)(i:A1)(j:Int):T (Int×Bool×A0×A1×Int):=let k:=d+(h.toNat);let l:=d+(f.toNat);let m:=c.getD k default;let n:=c.set l m;let s:=c.getD l default;let t:=n.set k s;let w:=t.getD l default;let y:=i64.wrap (g-1);.gh h e<|
 .grd (k<c.length)<|
 .gh f e<|
 .grd (l<c.length)<|
 .gh f e<|
 .conv 1013 (bzm 1 az1 c 3 l m)<|
 .grd (l<c.length/\0≤l)<|
 .gh h e<|
 .conv 1015 (bzm 1 az1 n 3 k s)<|
 .grd (k<n.length/\0≤k)<|
 .loop (fun (z:Au)=>⟨[(0,.view 0 1 d e),(1,pz f),(4,.func 136 [] [.ptr 1 0,.ptr 2 0]),(12,pz z.2.2),(13,pz y)],[(0,vecO 1 az1 t 3),(1,.box [.pure (encL 1 (encL 1 az1) z.1)]),(2,.box [pz z.2.1])],[],3⟩)
 (.exit 0) (fun (z:Au)=>⟨[(0,.view 0 1 d e),(1,pz f),(4,.func 136 [] [.ptr 1 0,.ptr 2 0]),(12,pz z.2.2),(13,pz y)],[(0,vecO 1 az1 t 3),(1,.box [.pure (encL 1 (encL 1 az1) z.1)]),(2,.box [pz z.2.1])],[],3⟩)
 (fun z=>let aa:=(z.2.2).toNat;.cut 1 (fun (ab:B3)=>⟨[(0,.view 0 1 d e),(1,pz f),(4,.func 136 [] [.ptr 1 0,.ptr 2 0]),(12,pz z.2.2),(13,pz y),(47,.pure (.bool ab.2.2))],[(0,vecO 1 az1 t 3),(1,.box [.pure (encL 1 (encL 1 az1) ab.1)]),(2,.box [pz ab.2.1])],[],3⟩)
 (.br (decide (z.2.2≤y))
 (.gh z.2.2 e<|
 .grd ((d+aa)<t.length)<|
 .name 3008 ((t.getD (d+aa) default)) fun ab=>
 .gh f e<|
 .grd (l<t.length)<|
 .name 3012 (w) fun ac=>
 .call (bz5 ab ac z.1 z.2.1) [(0,1),(1,2)] fun ad=>
 .oo (ad.2.1,ad.2.2,(decide (ad.1<0))))
 (.oo (z.1,z.2.1,false))) fun ab=>
 .br ab.2.2
 (.nn (ab.1,ab.2.1,(i64.wrap (z.2.2+1))))
 (.oo (ab.1,ab.2.1,z.2.2)))
 (i,j,(i64.wrap (f+1))) [] fun z=>let aa:=d+((z.2.2).toNat);
 .loop (fun (ab:Au)=>⟨[(0,.view 0 1 d e),(1,pz f),(4,.func 136 [] [.ptr 1 0,.ptr 2 0]),(12,pz z.2.2),(13,pz ab.2.2)],[(0,vecO 1 az1 t 3),(1,.box [.pure (encL 1 (encL 1 az1) ab.1)]),(2,.box [pz ab.2.1])],[],3⟩)
 (.exit 2) (fun (ab:Au)=>⟨[(0,.view 0 1 d e),(1,pz f),(4,.func 136 [] [.ptr 1 0,.ptr 2 0]),(12,pz z.2.2),(13,pz ab.2.2)],[(0,vecO 1 az1 t 3),(1,.box [.pure (encL 1 (encL 1 az1) ab.1)]),(2,.box [pz ab.2.1])],[],3⟩)
 (fun ab=>let ac:=(ab.2.2).toNat;.cut 1 (fun (ad:B3)=>⟨[(0,.view 0 1 d e),(1,pz f),(4,.func 136 [] [.ptr 1 0,.ptr 2 0]),(12,pz z.2.2),(13,pz ab.2.2),(66,.pure (.bool ad.2.2))],[(0,vecO 1 az1 t 3),(1,.box [.pure (encL 1 (encL 1 az1) ad.1)]),(2,.box [pz ad.2.1])],[],3⟩)
 (.br (decide (z.2.2≤ab.2.2))
 (.gh ab.2.2 e<|
 .grd ((d+ac)<t.length)<|
 .name 5008 ((t.getD (d+ac) default)) fun ad=>
 .gh f e<|
 .grd (l<t.length)<|
 .name 5012 (w) fun ae=>
 .call (bz5 ad ae ab.1 ab.2.1) [(0,1),(1,2)] fun af=>
 .oo (af.2.1,af.2.2,(!(decide (af.1<0)))))
 (.oo (ab.1,ab.2.1,false))) fun ad=>
 .br ad.2.2
 (.nn (ad.1,ad.2.1,(i64.wrap (ab.2.2-1))))
 (.oo (ad.1,ad.2.1,ab.2.2)))
 (z.1,z.2.1,y) [] fun ab=>let ac:=d+((ab.2.2).toNat);let ad:=t.getD ac default;
 .br (decide (z.2.2>ab.2.2))
 (.gh f e<|
 .grd (l<t.length)<|
 .name 8007 (w) fun ae=>let af:=t.set ac ae;
 .gh ab.2.2 e<|
 .grd (ac<t.length)<|
 .name 8011 (ad) fun ag=>
 .gh ab.2.2 e<|
 .conv 8013 (bzm 1 az1 t 3 ac ae)<|
 .grd (ac<t.length/\0≤ac)<|
 .gh f e<|
 .conv 8015 (bzm 1 az1 af 3 l ag)<|
 .grd (l<af.length/\0≤l)<|
 .ret (ab.2.2,true,(af.set l ag),ab.1,ab.2.1))
 (.gh ab.2.2 e<|
 .grd (ac<t.length)<|
 .name 10007 (ad) fun ae=>let af:=t.set aa ae;
 .gh z.2.2 e<|
 .grd (aa<t.length)<|
 .name 10011 ((t.getD aa default)) fun ag=>
 .gh z.2.2 e<|
 .conv 10013 (bzm 1 az1 t 3 aa ae)<|
 .grd (aa<t.length/\0≤aa)<|
 .gh ab.2.2 e<|
 .conv 10015 (bzm 1 az1 af 3 ac ag)<|
 .grd (ac<af.length/\0≤ac)<|
 .loop (fun (ah:Bb)=>⟨[(0,.view 0 1 d e),(1,pz f),(4,.func 136 [] [.ptr 1 0,.ptr 2 0]),(12,pz ah.2.2.2.1),(13,pz ah.2.2.2.2)],[(0,vecO 1 az1 ah.2.2.1 3),(1,.box [.pure (encL 1 (encL 1 az1) ah.1)]),(2,.box [pz ah.2.1])],[],3⟩)
 (.exit 4) (fun (ah:B8)=>⟨[(0,.view 0 1 d e),(1,pz f),(13,pz ah.2.2.2)],[(0,vecO 1 az1 ah.2.2.1 3),(1,.box [.pure (encL 1 (encL 1 az1) ah.1)]),(2,.box [pz ah.2.1])],[],3⟩)
 (fun ah=>let ai:=ah.2.2.1.getD l default;.loop (fun (aj:Au)=>⟨[(0,.view 0 1 d e),(1,pz f),(4,.func 136 [] [.ptr 1 0,.ptr 2 0]),(12,pz aj.2.2),(13,pz ah.2.2.2.2)],[(0,vecO 1 az1 ah.2.2.1 3),(1,.box [.pure (encL 1 (encL 1 az1) aj.1)]),(2,.box [pz aj.2.1])],[],3⟩)
 (.exit 6) (fun (aj:Au)=>⟨[(0,.view 0 1 d e),(1,pz f),(4,.func 136 [] [.ptr 1 0,.ptr 2 0]),(12,pz aj.2.2),(13,pz ah.2.2.2.2)],[(0,vecO 1 az1 ah.2.2.1 3),(1,.box [.pure (encL 1 (encL 1 az1) aj.1)]),(2,.box [pz aj.2.1])],[],3⟩)
 (fun aj=>let ak:=(aj.2.2).toNat;.cut 1 (fun (al:B3)=>⟨[(0,.view 0 1 d e),(1,pz f),(4,.func 136 [] [.ptr 1 0,.ptr 2 0]),(12,pz aj.2.2),(13,pz ah.2.2.2.2),(120,.pure (.bool al.2.2))],[(0,vecO 1 az1 ah.2.2.1 3),(1,.box [.pure (encL 1 (encL 1 az1) al.1)]),(2,.box [pz al.2.1])],[],3⟩)
 (.br (decide (aj.2.2≤ah.2.2.2.2))
 (.gh aj.2.2 e<|
 .grd ((d+ak)<ah.2.2.1.length)<|
 .name 13008 ((ah.2.2.1.getD (d+ak) default)) fun al=>
 .gh f e<|
 .grd (l<ah.2.2.1.length)<|
 .name 13012 (ai) fun am=>
 .call (bz5 al am aj.1 aj.2.1) [(0,1),(1,2)] fun an=>
 .oo (an.2.1,an.2.2,(decide (an.1<0))))
 (.oo (aj.1,aj.2.1,false))) fun al=>
 .br al.2.2
 (.nn (al.1,al.2.1,(i64.wrap (aj.2.2+1))))
 (.oo (al.1,al.2.1,aj.2.2)))
 (ah.1,ah.2.1,ah.2.2.2.1) [] fun aj=>let ak:=d+((aj.2.2).toNat);
 .loop (fun (al:Au)=>⟨[(0,.view 0 1 d e),(1,pz f),(4,.func 136 [] [.ptr 1 0,.ptr 2 0]),(12,pz aj.2.2),(13,pz al.2.2)],[(0,vecO 1 az1 ah.2.2.1 3),(1,.box [.pure (encL 1 (encL 1 az1) al.1)]),(2,.box [pz al.2.1])],[],3⟩)
 (.exit 8) (fun (al:Au)=>⟨[(0,.view 0 1 d e),(1,pz f),(4,.func 136 [] [.ptr 1 0,.ptr 2 0]),(12,pz aj.2.2),(13,pz al.2.2)],[(0,vecO 1 az1 ah.2.2.1 3),(1,.box [.pure (encL 1 (encL 1 az1) al.1)]),(2,.box [pz al.2.1])],[],3⟩)
 (fun al=>let am:=(al.2.2).toNat;.cut 1 (fun (an:B3)=>⟨[(0,.view 0 1 d e),(1,pz f),(4,.func 136 [] [.ptr 1 0,.ptr 2 0]),(12,pz aj.2.2),(13,pz al.2.2),(139,.pure (.bool an.2.2))],[(0,vecO 1 az1 ah.2.2.1 3),(1,.box [.pure (encL 1 (encL 1 az1) an.1)]),(2,.box [pz an.2.1])],[],3⟩)
 (.br (decide (aj.2.2≤al.2.2))
 (.gh al.2.2 e<|
 .grd ((d+am)<ah.2.2.1.length)<|
 .name 15008 ((ah.2.2.1.getD (d+am) default)) fun an=>
 .gh f e<|
 .grd (l<ah.2.2.1.length)<|
 .name 15012 (ai) fun ao=>
 .call (bz5 an ao al.1 al.2.1) [(0,1),(1,2)] fun ap=>
 .oo (ap.2.1,ap.2.2,(!(decide (ap.1<0)))))
 (.oo (al.1,al.2.1,false))) fun an=>
 .br an.2.2
 (.nn (an.1,an.2.1,(i64.wrap (al.2.2-1))))
 (.oo (an.1,an.2.1,al.2.2)))
 (aj.1,aj.2.1,ah.2.2.2.2) [] fun al=>let am:=d+((al.2.2).toNat);
 .br (decide (aj.2.2>al.2.2))
 (.oo (al.1,al.2.1,ah.2.2.1,al.2.2))
 (.gh al.2.2 e<|
 .grd (am<ah.2.2.1.length)<|
 .name 18007 ((ah.2.2.1.getD am default)) fun an=>let ao:=ah.2.2.1.set ak an;
 .gh aj.2.2 e<|
 .grd (ak<ah.2.2.1.length)<|
 .name 18011 ((ah.2.2.1.getD ak default)) fun ap=>
 .gh aj.2.2 e<|
 .conv 18013 (bzm 1 az1 ah.2.2.1 3 ak an)<|
 .grd (ak<ah.2.2.1.length/\0≤ak)<|
 .gh al.2.2 e<|
 .conv 18015 (bzm 1 az1 ao 3 am ap)<|
 .grd (am<ao.length/\0≤am)<|
 .nn (al.1,al.2.1,(ao.set am ap),(i64.wrap (aj.2.2+1)),(i64.wrap (al.2.2-1)))))
 (ab.1,ab.2.1,(af.set ac ag),(i64.wrap (z.2.2+1)),(i64.wrap (ab.2.2-1))) [] fun ah=>let ai:=d+((ah.2.2.2).toNat);let aj:=ah.2.2.1.getD l default;let ak:=ah.2.2.1.set ai aj;let al:=ah.2.2.1.getD ai default;
 .gh f e<|
 .grd (l<ah.2.2.1.length)<|
 .gh ah.2.2.2 e<|
 .grd (ai<ah.2.2.1.length)<|
 .gh ah.2.2.2 e<|
 .conv 21013 (bzm 1 az1 ah.2.2.1 3 ai aj)<|
 .grd (ai<ah.2.2.1.length/\0≤ai)<|
 .gh f e<|
 .conv 21015 (bzm 1 az1 ak 3 l al)<|
 .grd (l<ak.length/\0≤l)<|
 .ret (ah.2.2.2,false,(ak.set l al),ah.1,ah.2.1))
noncomputable def mzu (c)(d)(e)(f)(g)(h)(i)(j):=
 mkD Tryz.func218 (mzv c d e f g h i j) 3 [.view 0 1 d e,pz f,pz g,pz h,.func 136 [] [.ptr 1 0,.ptr 2 0]] [(0,vecO 1 az1 c 3),(1,.box [.pure (encL 1 (encL 1 az1) i)]),(2,.box [pz j])] (fun r=>.tup [pz r.1,.pure (.bool r.2.1)]) (fun r=>[(0,vecO 1 az1 r.2.2.1 3),(1,.box [.pure (encL 1 (encL 1 az1) r.2.2.2.1)]),(2,.box [pz r.2.2.2.2])])
noncomputable def uzr (c:Int):T Int:=
 .cc (ozj (IntKind.u64.wrap c)) fun d=>
 .grd (0≤d)<|
 .ret (IntKind.u64.wrap (1 * 2 ^ (min d.toNat 64)))
noncomputable def jzv (c):=
 mkD Tryz.func225 (uzr c) 0 [pz c] [] (fun r=>.pure (.int .u64 r)) (fun _=>[])
noncomputable def Jzr (c:Int):T Ah:=
 .ok (0≤(13:Int)) (by decide)<|
 .name 1007 ((IntKind.u64.wrap (((BitVec.ofInt 64 c ^^^ BitVec.ofInt 64 (IntKind.u64.wrap (c * 2 ^ (min (13:Int).toNat 64)))).toNat:Int)))) fun d=>let e:=IntKind.u64.wrap (((BitVec.ofInt 64 d ^^^ BitVec.ofInt 64 (d.fdiv (2 ^ (min (7:Int).toNat 64)))).toNat:Int));
 .ok (0≤(7:Int)) (by decide)<|
 .ok (0≤(17:Int)) (by decide)<|
 .name 3006 ((IntKind.u64.wrap (e * 2 ^ (min (17:Int).toNat 64)))) fun f=>
 .name 3007 ((IntKind.u64.wrap (((BitVec.ofInt 64 e ^^^ BitVec.ofInt 64 f).toNat:Int)))) fun g=>
 .ret (g,g)
noncomputable def yza (c):=
 mkD Tryz.func226 (Jzr c) 1 [.ptr 0 0] [(0,.box [.pure (.int .u64 c)])] (fun r=>.pure (.int .u64 r.1)) (fun r=>[(0,.box [.pure (.int .u64 r.2)])])
noncomputable def jzq (c:A0)(d:Nat)(e:Nat)(f:Int)(g:Int)(h:A1)(i:Int):T Ao:=let j:Nat×Res:=(2,.box [pz i]);let k:=i64.wrap (g-f);let l:Nat×Res:=(1,.box [.pure (encL 1 (encL 1 az1) h)]);let m:=i64.wrap (f+(i64.wrap ((i64.wrap (k.tdiv 4)) * 2)));.br (decide (k≥8))
 (.cc (jzv k) fun n=>
 .ok ((4:Int)≠0) (by decide)<|
 .name 4005 ((i64.wrap (m-1))) fun s=>
 .loop (fun (t:As)=>⟨[(0,.view 0 1 d e),(1,pz f),(8,pz k),(9,.ptr 3 0),(10,.pure (.int .u64 n)),(11,pz t.2.2)],[(0,vecO 1 az1 t.1 3),l,j,(3,.box [.pure (.int .u64 t.2.1)])],[],4⟩)
 (.exit 0) (fun (t:A0)=>⟨[],[(0,vecO 1 az1 t 3),l,j],[],3⟩)
 (fun t=>let w:=d+((t.2.2).toNat);let y:=t.1.getD w default;.ok ((4:Int)≠0) (by decide)<|
 .name 5006 ((i64.wrap (m+1))) fun z=>
 .br (decide (t.2.2≤z))
 (.call (yza t.2.1) [(0,3)] fun aa=>
 .name 7004 ((i64.wrap (IntKind.u64.wrap (((BitVec.ofInt 64 aa.1&&&BitVec.ofInt 64 (IntKind.u64.wrap (n-1))).toNat:Int))))) fun ab=>
 .cut 0 (fun (ac:Int)=>⟨[(0,.view 0 1 d e),(1,pz f),(8,pz k),(9,.ptr 3 0),(10,.pure (.int .u64 n)),(11,pz t.2.2),(12,pz ac)],[(0,vecO 1 az1 t.1 3),l,j,(3,.box [.pure (.int .u64 aa.2)])],[],4⟩)
 (.br (decide (ab≥k))
 (.oo (i64.wrap (ab-k)))
 (.oo ab)) fun ac=>let ad:=i64.wrap (f+ac);let ae:=d+(ad.toNat);let af:=t.1.getD ae default;let ag:=t.1.set w af;
 .gh ad e<|
 .grd (ae<t.1.length)<|
 .gh t.2.2 e<|
 .grd (w<t.1.length)<|
 .gh t.2.2 e<|
 .conv 10017 (bzm 1 az1 t.1 3 w af)<|
 .grd (w<t.1.length/\0≤w)<|
 .gh ad e<|
 .conv 10019 (bzm 1 az1 ag 3 ae y)<|
 .grd (ae<ag.length/\0≤ae)<|
 .nn ((ag.set ae y),aa.2,(i64.wrap (t.2.2+1))))
 (.oo t.1))
 (c,(IntKind.u64.wrap k),s) [] fun t=>
 .ret (t,h,i))
 (.ret (c,h,i))
noncomputable def jzp (c)(d)(e)(f)(g)(h)(i):=
 mkD Tryz.func213 (jzq c d e f g h i) 3 [.view 0 1 d e,pz f,pz g,.func 136 [] [.ptr 1 0,.ptr 2 0]] [(0,vecO 1 az1 c 3),(1,.box [.pure (encL 1 (encL 1 az1) h)]),(2,.box [pz i])] (fun _=>.tup []) (fun r=>[(0,vecO 1 az1 r.1 3),(1,.box [.pure (encL 1 (encL 1 az1) r.2.1)]),(2,.box [pz r.2.2])])
abbrev ezn:=RecS Tryz.prog 179 3 (A0×Nat×Nat×Int×Int×Int×A1×Int) Ao (fun a=>[.view 0 1 a.2.1 a.2.2.1,pz a.2.2.2.1,pz a.2.2.2.2.1,pz a.2.2.2.2.2.1,.func 136 [] [.ptr 1 0,.ptr 2 0]]) (fun a=>[(0,vecO 1 az1 a.1 3),(1,.box [.pure (encL 1 (encL 1 az1) a.2.2.2.2.2.2.1)]),(2,.box [pz a.2.2.2.2.2.2.2])]) (fun _ _=>.tup []) (fun _ r=>[(0,vecO 1 az1 r.1 3),(1,.box [.pure (encL 1 (encL 1 az1) r.2.1)]),(2,.box [pz r.2.2])])
noncomputable def pze (rec:ezn)(c:A0)(d:Nat)(e:Nat)(f:Int)(g:Int)(h:Int)(i:A1)(j:Int):T Ao:=
 .loop (fun (k:(A1×Int×A0×Int×Int×Int×Bool×Bool))=>⟨[(0,.view 0 1 d e),(1,pz k.2.2.2.1),(2,pz k.2.2.2.2.1),(3,pz k.2.2.2.2.2.1),(4,.func 136 [] [.ptr 1 0,.ptr 2 0]),(10,.pure (.bool k.2.2.2.2.2.2.1)),(11,.pure (.bool k.2.2.2.2.2.2.2))],[(0,vecO 1 az1 k.2.2.1 3),(1,.box [.pure (encL 1 (encL 1 az1) k.1)]),(2,.box [pz k.2.1])],[],3⟩)
 .ret (fun (_:U0)=>⟨[],[],[],3⟩)
 (fun k=>let l:=i64.wrap (k.2.2.2.1-1);let m:=d+(l.toNat);let n:=i64.wrap (k.2.2.2.2.1-k.2.2.2.1);let s:=i64.wrap (n.tdiv 8);.br (decide (n≤12))
 (.call (jzt k.2.2.1 d e k.2.2.2.1 k.2.2.2.2.1 k.1 k.2.1) [(0,0),(1,1),(2,2)] fun t=>
 .ff (t.1,t.2.1,t.2.2))
 (.br (k.2.2.2.2.2.1==0)
 (.call (nzl k.2.2.1 d e k.2.2.2.1 k.2.2.2.2.1 k.1 k.2.1) [(0,0),(1,1),(2,2)] fun t=>
 .ff (t.1,t.2.1,t.2.2))
 (.cut 0 (fun (t:B8)=>⟨[(0,.view 0 1 d e),(1,pz k.2.2.2.1),(2,pz k.2.2.2.2.1),(3,pz t.2.2.2),(4,.func 136 [] [.ptr 1 0,.ptr 2 0]),(10,.pure (.bool k.2.2.2.2.2.2.1)),(11,.pure (.bool k.2.2.2.2.2.2.2)),(12,pz n)],[(0,vecO 1 az1 t.2.2.1 3),(1,.box [.pure (encL 1 (encL 1 az1) t.1)]),(2,.box [pz t.2.1])],[],3⟩)
 (.br (!k.2.2.2.2.2.2.1)
 (.call (jzp k.2.2.1 d e k.2.2.2.1 k.2.2.2.2.1 k.1 k.2.1) [(0,0),(1,1),(2,2)] fun t=>
 .oo (t.2.1,t.2.2,t.1,(i64.wrap (k.2.2.2.2.2.1-1))))
 (.oo (k.1,k.2.1,k.2.2.1,k.2.2.2.2.2.1))) fun t=>
 .call (kzv t.2.2.1 d e k.2.2.2.1 k.2.2.2.2.1 t.1 t.2.1) [(0,0),(1,1),(2,2)] fun w=>
 .cut 0 (fun (y:Bb)=>⟨[(0,.view 0 1 d e),(1,pz k.2.2.2.1),(2,pz k.2.2.2.2.1),(3,pz t.2.2.2),(4,.func 136 [] [.ptr 1 0,.ptr 2 0]),(10,.pure (.bool k.2.2.2.2.2.2.1)),(11,.pure (.bool k.2.2.2.2.2.2.2)),(12,pz n),(13,pz y.2.2.2.1),(14,pz y.2.2.2.2)],[(0,vecO 1 az1 y.2.2.1 3),(1,.box [.pure (encL 1 (encL 1 az1) y.1)]),(2,.box [pz y.2.1])],[],3⟩)
 (.br (w.2.1==2)
 (.call (jzy t.2.2.1 d e k.2.2.2.1 k.2.2.2.2.1 w.2.2.1 w.2.2.2) [(0,0),(1,1),(2,2)] fun y=>
 .oo (y.2.1,y.2.2,y.1,(i64.wrap ((i64.wrap (k.2.2.2.2.1-1))- (i64.wrap (w.1-k.2.2.2.1)))),1))
 (.oo (w.2.2.1,w.2.2.2,t.2.2.1,w.1,w.2.1))) fun y=>let z:=(y.2.2.2.1).toNat;
 .cut 0 (fun (aa:Ap)=>⟨[(0,.view 0 1 d e),(1,pz k.2.2.2.1),(2,pz k.2.2.2.2.1),(3,pz t.2.2.2),(4,.func 136 [] [.ptr 1 0,.ptr 2 0]),(10,.pure (.bool k.2.2.2.2.2.2.1)),(11,.pure (.bool k.2.2.2.2.2.2.2)),(12,pz n),(13,pz y.2.2.2.1)],[(0,vecO 1 az1 aa.2.2 3),(1,.box [.pure (encL 1 (encL 1 az1) aa.1)]),(2,.box [pz aa.2.1])],[],3⟩)
 (.cut 0 (fun (aa:Bool)=>⟨[(0,.view 0 1 d e),(1,pz k.2.2.2.1),(2,pz k.2.2.2.2.1),(3,pz t.2.2.2),(4,.func 136 [] [.ptr 1 0,.ptr 2 0]),(10,.pure (.bool k.2.2.2.2.2.2.1)),(11,.pure (.bool k.2.2.2.2.2.2.2)),(12,pz n),(13,pz y.2.2.2.1),(75,.pure (.bool aa))],[(0,vecO 1 az1 y.2.2.1 3),(1,.box [.pure (encL 1 (encL 1 az1) y.1)]),(2,.box [pz y.2.1])],[],3⟩)
 (.br k.2.2.2.2.2.2.1
 (.br k.2.2.2.2.2.2.2
 (.oo (y.2.2.2.2==1))
 (.oo false))
 (.oo false)) fun aa=>
 .br aa
 (.call (gz4 y.2.2.1 d e k.2.2.2.1 k.2.2.2.2.1 y.1 y.2.1) [(0,0),(1,1),(2,2)] fun ab=>
 .br ab.1
 (.ff (.fin (ab.2.1,ab.2.2.1,ab.2.2.2)))
 (.oo (ab.2.2.1,ab.2.2.2,ab.2.1)))
 (.oo (y.1,y.2.1,y.2.2.1))) fun aa=>
 .cut 1 (fun (ab:B3)=>⟨[(0,.view 0 1 d e),(1,pz k.2.2.2.1),(2,pz k.2.2.2.2.1),(3,pz t.2.2.2),(4,.func 136 [] [.ptr 1 0,.ptr 2 0]),(10,.pure (.bool k.2.2.2.2.2.2.1)),(11,.pure (.bool k.2.2.2.2.2.2.2)),(12,pz n),(13,pz y.2.2.2.1),(97,.pure (.bool ab.2.2))],[(0,vecO 1 az1 aa.2.2 3),(1,.box [.pure (encL 1 (encL 1 az1) ab.1)]),(2,.box [pz ab.2.1])],[],3⟩)
 (.br (decide (k.2.2.2.1>0))
 (.gh l e<|
 .grd (m<aa.2.2.length)<|
 .gh y.2.2.2.1 e<|
 .grd ((d+z)<aa.2.2.length)<|
 .call (bz5 (aa.2.2.getD m default) (aa.2.2.getD (d+z) default) aa.1 aa.2.1) [(0,1),(1,2)] fun ab=>
 .oo (ab.2.1,ab.2.2,(!(decide (ab.1<0)))))
 (.oo (aa.1,aa.2.1,false))) fun ab=>
 .br ab.2.2
 (.call (izb aa.2.2 d e k.2.2.2.1 k.2.2.2.2.1 y.2.2.2.1 ab.1 ab.2.1) [(0,0),(1,1),(2,2)] fun ac=>
 .nn (ac.2.2.1,ac.2.2.2,ac.2.1,ac.1,k.2.2.2.2.1,t.2.2.2,k.2.2.2.2.2.2.1,k.2.2.2.2.2.2.2))
 (.call (mzu aa.2.2 d e k.2.2.2.1 k.2.2.2.2.1 y.2.2.2.1 ab.1 ab.2.1) [(0,0),(1,1),(2,2)] fun ac=>let ad:=i64.wrap (ac.1-k.2.2.2.1);let ae:=i64.wrap (k.2.2.2.2.1-ac.1);let af:=i64.wrap (ac.1+1);
 .ok ((8:Int)≠0) (by decide)<|
 .br (decide (ad<ae))
 (.call (rec.C (ac.2.2.1,d,e,k.2.2.2.1,ac.1,t.2.2.2,ac.2.2.2.1,ac.2.2.2.2)) [(0,0),(1,1),(2,2)] fun ag=>
 .nn (ag.2.1,ag.2.2,ag.1,af,k.2.2.2.2.1,t.2.2.2,(decide (ad≥s)),ac.2.1))
 (.call (rec.C (ac.2.2.1,d,e,af,k.2.2.2.2.1,t.2.2.2,ac.2.2.2.1,ac.2.2.2.2)) [(0,0),(1,1),(2,2)] fun ag=>
 .nn (ag.2.1,ag.2.2,ag.1,k.2.2.2.1,ac.1,t.2.2.2,(decide (ae≥s)),ac.2.1))))))
 (i,j,c,f,g,h,true,true) [] fun _=>
 .stop
noncomputable def pzd:ezn->ezn:=RecS.next [] hd Tryz.func179 (by kernel_rfl) (fun rec a=>pze rec a.1 a.2.1 a.2.2.1 a.2.2.2.1 a.2.2.2.2.1 a.2.2.2.2.2.1 a.2.2.2.2.2.2.1 a.2.2.2.2.2.2.2) (fun rec a=>by kernel_rfl)
noncomputable def pzc (a0:A0)(a1:Nat)(a2:Nat)(a3:Int)(a4:Int)(a5:Int)(a6:A1)(a7:Int):CallS Ao:=(RecS.fix pzd NN).C (a0,a1,a2,a3,a4,a5,a6,a7)
noncomputable def rzv (c:A0)(d:Nat)(e:Nat)(f:A1)(g:Int):T Ao:=let h:=(e:Int);.cc (ozj (IntKind.u64.wrap h)) fun i=>
 .call (pzc c d e 0 h i f g) [(0,0),(1,1),(2,2)] fun j=>
 .ret (j.1,j.2.1,j.2.2)
noncomputable def rzu (c)(d)(e)(f)(g):=
 mkD Tryz.func135 (rzv c d e f g) 3 [.view 0 1 d e,.func 136 [] [.ptr 1 0,.ptr 2 0]] [(0,vecO 1 az1 c 3),(1,.box [.pure (encL 1 (encL 1 az1) f)]),(2,.box [pz g])] (fun _=>.tup []) (fun r=>[(0,vecO 1 az1 r.1 3),(1,.box [.pure (encL 1 (encL 1 az1) r.2.1)]),(2,.box [pz r.2.2])])
abbrev izz:=RecS Tryz.prog 134 5 (A0×Nat×Nat×Int×A1×Ag) B5 (fun a=>[.view 0 1 a.2.1 a.2.2.1,pz a.2.2.2.1,.ptr 1 0,.ptr 2 0,.ptr 4 0]) (fun a=>[(0,vecO 1 az1 a.1 3),(1,.box [.pure (encL 1 (encL 1 az1) a.2.2.2.2.1)]),(2,.box [.vec 3]),(3,vecO 4 azp a.2.2.2.2.2 203),(4,.box [.func 134 [] [.ptr 1 0,.ptr 2 0,.ptr 4 0]])]) (fun _ r=>pz r.1) (fun _ r=>[(0,vecO 1 az1 r.2.1 3),(1,.box [.pure (encL 1 (encL 1 az1) r.2.2.1)]),(2,.box [.vec 5]),(3,.gone),(4,.box [.func 134 [] [.ptr 1 0,.ptr 2 0,.ptr 4 0]]),(5,vecO 4 azp r.2.2.2 203)])
noncomputable def Cz9 (rec:izz)(c:A0)(d:Nat)(e:Nat)(f:Int)(g:A1)(h:Ag):T B5:=let i:=(e:Int);let j:=(h.length:Int);let k:=j.toNat;let l:=i64.wrap (i.tdiv 2);let m:=d+(l.toNat);let n:=i64.wrap (l+1);let s:=i64.wrap (f+1);let t:=((g.getD ((0:Int).toNat) default).length:Nat);.br (i==0)
 (.ret ((-1),c,g,h))
 (.gh (0:Int) g.length<|
 .grd ((t:Int)≠0)<|
 .call (rzu c d e g (f.tmod (t:Int))) [(0,0),(1,1),(2,645)] fun w=>let y:=([(⟨(w.1.getD m default),w.2.2,0,0⟩:bz3)]:Ag);let z:=h.length+y.length;
 .ok ((2:Int)≠0) (by decide)<|
 .gh l e<|
 .grd (m<w.1.length)<|
 .conv 6007 (czk 4 azp y 203)<|
 .conv 6008 (ez5 4 azp h y 203)<|
 .grd (z * 32≤140737488355328/\z≤maxLen)<|
 .grd (0≤(0:Int)/\(0:Int)≤l/\l≤i)<|
 .call (rec.C (w.1,(d+((0:Int).toNat)),((l.toNat)- ((0:Int).toNat)),s,w.2.1,(h++y))) [(0,0),(1,1),(2,2),(3,1925),(4,4)] fun aa=>
 .grd (0≤n/\n≤i/\i≤i)<|
 .call (rec.C (aa.2.1,(d+(n.toNat)),((i.toNat)- (n.toNat)),s,aa.2.2.1,aa.2.2.2)) [(0,0),(1,1),(2,2),(3,2437),(4,4)] fun ab=>let ac:=ab.2.2.2.getD k default;let ad:=(⟨ac.Point,ac.Axis,aa.1,ac.High⟩:bz3);let ae:=ab.2.2.2.set k ad;let af:=ae.getD k default;let ag:=(⟨af.Point,af.Axis,af.Low,ab.1⟩:bz3);
 .gh j ab.2.2.2.length<|
 .conv 9008 (bzm 4 azp ab.2.2.2 203 k ad)<|
 .gi (j) ab.2.2.2.length<|
 .gh j (ae.length)<|
 .conv 9011 (bzm 4 azp ae 203 k ag)<|
 .gi (j) (ae.length)<|
 .ret (j,ab.2.1,ab.2.2.1,(ae.set k ag)))
noncomputable def Cz8:izz->izz:=RecS.next [] hd Tryz.func134 (by kernel_rfl) (fun rec a=>Cz9 rec a.1 a.2.1 a.2.2.1 a.2.2.2.1 a.2.2.2.2.1 a.2.2.2.2.2) (fun rec a=>by kernel_rfl)
noncomputable def Cz7 (a0:A0)(a1:Nat)(a2:Nat)(a3:Int)(a4:A1)(a5:Ag):CallS B5:=(RecS.fix Cz8 NN).C (a0,a1,a2,a3,a4,a5)
noncomputable def Gza (c:A1):T Ag:=let d:=(c.length:Int);let e:=encL 1 (encL 1 az1) c;let f:=List.replicate d.toNat (0:Int);let g:=(f.length:Nat);.cc (kz1 c) fun h=>
 .br (!h)
 (.ret nl)
 (.conv 4002 (Gz5 1 az1 3 d.toNat 0)<|
 .grd (0≤d/\d≤d/\d≤9223372036854775807/\d * 8≤140737488355328)<|
 .loop (fun (i:A3)=>⟨[(1,.ptr 0 0),(2,.ptr 1 0),(3,.vec 3),(14,pz (g:Int)),(15,pz i.2)],[(0,.box [.pure e]),(1,.box [.vec 2]),(2,.nilv),(3,vecO 1 az1 i.1 3)],[.func 132 [] [.ptr 1 0]],4⟩)
 (.exit 0) (fun (i:A0)=>⟨[(1,.ptr 0 0),(2,.ptr 1 0),(3,.vec 3)],[(0,.box [.pure e]),(1,.box [.vec 2]),(2,.nilv),(3,vecO 1 az1 i 3)],[.func 132 [] [.ptr 1 0]],4⟩)
 (fun i=>let j:=(i.2).toNat;.br (decide (i.2<(g:Int)))
 (.gh i.2 i.1.length<|
 .conv 8004 (bzm 1 az1 i.1 3 j i.2)<|
 .gi (i.2) i.1.length<|
 .nn ((i.1.set j i.2),(i64.wrap (i.2+1))))
 (.oo i.1))
 (f,0) [] fun i=>
 .call (Cz7 i 0 i.length 0 c nl) [(0,3),(1,0),(2,1),(3,2),(4,4)] fun j=>
 .ret j.2.2.2)
noncomputable def Gz9 (c):=
 mkC [⟨132,Yz1⟩] hd Tryz.func86 (by kernel_rfl) (Gza c) 0 [.pure (encL 1 (encL 1 az1) c)] [] (fun r=>.pure (encL 4 azp r)) (fun _=>[]) (by kernel_rfl)
set_option maxHeartbeats 8000000 in
set_option maxRecDepth 20000 in
noncomputable def Czf (c:A1)(d:Ag):T (A0×Bool):=let e:=encL 4 azp d;let f:=(d.length:Int);let g:=(c.length:Int);let h:=encL 1 (encL 1 az1) c;let i:=List.replicate f.toNat (0:Int);let j:=(i.length:Nat);.conv 1002 (Gz5 1 az1 3 f.toNat 0)<|
 .grd (0≤f/\f≤f/\f≤9223372036854775807/\f * 8≤140737488355328)<|
 .loop (fun (k:A3)=>⟨[(0,.pure h),(1,.pure e),(6,.vec 0),(17,pz (j:Int)),(18,pz k.2)],[(0,vecO 1 az1 k.1 3)],[],1⟩)
 (.exit 0) (fun (k:A0)=>⟨[(0,.pure h),(1,.pure e),(6,.vec 0)],[(0,vecO 1 az1 k 3)],[],1⟩)
 (fun k=>let l:=(k.2).toNat;.br (decide (k.2<(j:Int)))
 (.gh k.2 k.1.length<|
 .conv 5003 (bzm 1 az1 k.1 3 l (-1))<|
 .gi (k.2) k.1.length<|
 .nn ((k.1.set l (-1)),(i64.wrap (k.2+1))))
 (.oo k.1))
 (i,0) [] fun k=>
 .conv 7002 (Gz5 1 encB 4 g.toNat false)<|
 .grd (0≤g/\g≤g/\g≤9223372036854775807/\g * 1≤140737488355328)<|
 .loop (fun (l:(A0×(List Bool)×Int))=>⟨[(0,.pure h),(1,.pure e),(6,.vec 0),(8,.vec 1),(28,.pure e),(29,pz f),(30,pz l.2.2)],[(0,vecO 1 az1 l.1 3),(1,vecO 1 encB l.2.1 4)],[],2⟩)
 (.exit 2) (fun (l:A0)=>⟨[(6,.vec 0)],[(0,vecO 1 az1 l 3)],[],1⟩)
 (fun l=>let m:=(l.2.2).toNat;let n:=d.getD m default;let s:=n.Axis;let t:=n.Point;let w:=t.toNat;let y:=l.2.1.set w true;let z:=([n.Low,n.High]:A0);let aa:Nat×Res:=(2,.box [pz t,pz s,pz (n.Low),pz (n.High)]);.br (decide (l.2.2<f))
 (.gh l.2.2 d.length<|
 .cut 1 (fun (ab:Bool)=>⟨[(0,.pure h),(1,.pure e),(6,.vec 0),(8,.vec 1),(9,pz l.2.2),(10,.ptr 2 0),(28,.pure e),(29,pz f),(30,pz l.2.2),(51,.pure (.bool ab))],[(0,vecO 1 az1 l.1 3),(1,vecO 1 encB l.2.1 4),aa],[],3⟩)
 (.br (decide (t<0))
 (.oo true)
 (.br (decide (t≥g))
 (.oo true)
 (.gg t l.2.1.length<|
 .oo (l.2.1.getD w default)))) fun ab=>
 .br ab
 (.ff (nl,false))
 (.gh t l.2.1.length<|
 .conv 13004 (bzm 1 encB l.2.1 4 w true)<|
 .gi t l.2.1.length<|
 .cut 1 (fun (ac:Bool)=>⟨[(0,.pure h),(1,.pure e),(6,.vec 0),(8,.vec 1),(9,pz l.2.2),(10,.ptr 2 0),(28,.pure e),(29,pz f),(30,pz l.2.2),(67,.pure (.bool ac))],[(0,vecO 1 az1 l.1 3),(1,vecO 1 encB y 4),aa],[],3⟩)
 (.br (decide (s<0))
 (.oo true)
 (.gh (0:Int) c.length<|
 .oo (decide (s≥(((c.getD ((0:Int).toNat) default).length:Nat):Int))))) fun ac=>
 .br ac
 (.ff (nl,false))
 (.conv 16004 (czk 1 az1 z 3)<|
 .name 16005 ((z.length:Int)) fun ad=>
 .loop (fun (ae:A3)=>⟨[(0,.pure h),(1,.pure e),(6,.vec 0),(8,.vec 1),(9,pz l.2.2),(28,.pure e),(29,pz f),(30,pz l.2.2),(72,.vec 2),(73,pz ad),(74,pz ae.2)],[(0,vecO 1 az1 ae.1 3),(1,vecO 1 encB y 4),(2,vecO 1 az1 z 3)],[],3⟩)
 (.exit 4) (fun (ae:A0)=>⟨[(0,.pure h),(1,.pure e),(6,.vec 0),(8,.vec 1),(9,pz l.2.2),(28,.pure e),(29,pz f),(30,pz l.2.2)],[(0,vecO 1 az1 ae 3),(1,vecO 1 encB y 4)],[],2⟩)
 (fun ae=>.br (decide (ae.2<ad))
 (.cut 0 (fun (af:A0)=>⟨[(0,.pure h),(1,.pure e),(6,.vec 0),(8,.vec 1),(9,pz l.2.2),(28,.pure e),(29,pz f),(30,pz l.2.2),(72,.vec 2),(73,pz ad),(74,pz ae.2)],[(0,vecO 1 az1 af 3),(1,vecO 1 encB y 4),(2,vecO 1 az1 z 3)],[],3⟩)
 (.gg ae.2 (z.length)<|
 .name 18001 ((z.getD ((ae.2).toNat) default)) fun af=>let ag:=af.toNat;
 .br (af==(-1))
 (.oo ae.1)
 (.cut 1 (fun (ah:Bool)=>⟨[(0,.pure h),(1,.pure e),(6,.vec 0),(8,.vec 1),(9,pz l.2.2),(12,pz af),(28,.pure e),(29,pz f),(30,pz l.2.2),(72,.vec 2),(73,pz ad),(74,pz ae.2),(95,.pure (.bool ah))],[(0,vecO 1 az1 ae.1 3),(1,vecO 1 encB y 4),(2,vecO 1 az1 z 3)],[],3⟩)
 (.br (decide (af≤l.2.2))
 (.oo true)
 (.br (decide (af≥f))
 (.oo true)
 (.gg af ae.1.length<|
 .oo ((ae.1.getD ag default) !=(-1))))) fun ah=>
 .br ah
 (.ff (.fin (.fin (nl,false))))
 (.gh af ae.1.length<|
 .conv 22004 (bzm 1 az1 ae.1 3 ag l.2.2)<|
 .gi (af) ae.1.length<|
 .oo (ae.1.set ag l.2.2)))) fun af=>
 .nn (af,(i64.wrap (ae.2+1))))
 (.oo ae.1))
 (l.1,0) [] fun ae=>
 .cut 0 (fun (af:Bool)=>⟨[(0,.pure h),(1,.pure e),(6,.vec 0),(8,.vec 1),(28,.pure e),(29,pz f),(30,pz l.2.2),(109,.pure (.bool af))],[(0,vecO 1 az1 ae 3),(1,vecO 1 encB y 4)],[],2⟩)
 (.br (decide (l.2.2>0))
 (.gg l.2.2 ae.length<|
 .oo ((ae.getD m default)==(-1)))
 (.oo false)) fun af=>
 .br af
 (.ff (nl,false))
 (.nn (ae,y,(i64.wrap (l.2.2+1)))))))
 (.oo l.1))
 (k,(List.replicate g.toNat (false:Bool)),0) [] fun l=>
 .ret (l,true)
noncomputable def Cze (c)(d):=
 mkD Tryz.func220 (Czf c d) 0 [.pure (encL 1 (encL 1 az1) c),.pure (encL 4 azp d)] [] (fun r=>.tup [.pure (encL 1 az1 r.1),.pure (.bool r.2)]) (fun _=>[])
noncomputable def Czd (c:A1)(d:Ag)(e:A0):T Bool:=let f:=encL 4 azp d;let g:=encL 1 az1 e;let h:=(d.length:Int);let i:=encL 1 (encL 1 az1) c;.loop (fun (j:Int)=>⟨[(0,.pure i),(1,.pure f),(2,.pure g),(12,.pure f),(13,pz h),(14,pz j)],[],[],0⟩)
 (.exit 0) (fun (_:U0)=>⟨[],[],[],0⟩)
 (fun j=>let k:=d.getD (j.toNat) default;.br (decide (j<h))
 (.gh j d.length<|
 .gh j e.length<|
 .loop (fun (l:Ah)=>⟨[(0,.pure i),(1,.pure f),(2,.pure g),(8,.ptr 0 0),(9,pz l.1),(10,pz l.2),(12,.pure f),(13,pz h),(14,pz j)],[(0,.box [pz (k.Point),pz (k.Axis),pz (k.Low),pz (k.High)])],[],1⟩)
 (.exit 2) (fun (_:U0)=>⟨[(0,.pure i),(1,.pure f),(2,.pure g),(12,.pure f),(13,pz h),(14,pz j)],[],[],0⟩)
 (fun l=>let m:=(l.2).toNat;let n:=d.getD m default;.br (l.2 !=(-1))
 (.gh l.2 d.length<|
 .gh l.2 d.length<|
 .cc (vz8 c (n.Axis) (k.Point) (n.Point)) fun s=>
 .gh l.2 d.length<|
 .br (!((decide (s<0))==(l.1==(n.Low))))
 (.ff (.fin false))
 (.gh l.2 e.length<|
 .nn (l.2,(e.getD m default))))
 (.oo .u))
 (j,(e.getD (j.toNat) default)) [] fun _=>
 .nn (i64.wrap (j+1)))
 (.oo .u))
 0 [] fun _=>
 .ret true
noncomputable def Czc (c)(d)(e):=
 mkD Tryz.func221 (Czd c d e) 0 [.pure (encL 1 (encL 1 az1) c),.pure (encL 4 azp d),.pure (encL 1 az1 e)] [] (fun r=>.pure (.bool r)) (fun _=>[])
noncomputable def Gzc (c:A1)(d:Ag):T Bool:=
 .cut 3 (fun (e:Bool)=>⟨[(0,.pure (encL 1 (encL 1 az1) c)),(1,.pure (encL 4 azp d)),(4,.ptr 0 0),(16,.pure (.bool e))],[(0,.box [.ff])],[.func 219 [] [.ptr 0 0]],1⟩)
 (.cc (kz1 c) fun e=>
 .br (!e)
 (.oo true)
 (.oo ((d.length:Int) !=(c.length:Int)))) fun e=>
 .br e
 (.ret false)
 (.cc (Cze c d) fun f=>
 .br f.2
 (.cc (Czc c d f.1) fun g=>
 .ret g)
 (.ret false))
noncomputable def Gzb (c)(d):=
 mkC [⟨219,Yz5⟩] hd Tryz.func180 (by kernel_rfl) (Gzc c d) 0 [.pure (encL 1 (encL 1 az1) c),.pure (encL 4 azp d)] [] (fun r=>.pure (.bool r)) (fun _=>[]) (by kernel_rfl)
noncomputable def Izi (c:azf)(d:A1)(e:Ag)(f:A0):T Bool:=let g:=(c.Joints.length:Nat);.cut 2 (fun (h:Bool)=>⟨[(1,.pure (encL 1 (encL 1 az1) d)),(4,.ptr 0 0),(30,.pure (.bool h))],[(0,.box [.pure (encL 12 az9 c.Joints),.pure (encL 5 aze c.Masses)])],[],1⟩)
 (.cc (fzj (⟨c.Joints,c.Masses⟩:azf)) fun h=>
 .br (h !=0)
 (.oo true)
 (.br ((f.length:Int) !=(g:Int))
 (.oo true)
 (.cc (vz9 f) fun i=>
 .br (!i)
 (.oo true)
 (.cc (Gzb d e) fun j=>
 .oo (!j))))) fun h=>
 .br h
 (.ret false)
 (.br ((d.length:Int)==0)
 (.ret true)
 (.gh (0:Int) d.length<|
 .ret ((((d.getD ((0:Int).toNat) default).length:Nat):Int)==(g:Int))))
noncomputable def Izh (c)(d)(e)(f):=
 mkD Tryz.func139 (Izi c d e f) 0 [.pure (bzg c),.pure (encL 1 (encL 1 az1) d),.pure (encL 4 azp e),.pure (encL 1 az1 f)] [] (fun r=>.pure (.bool r)) (fun _=>[])
noncomputable def Ezx (c:dz0)(d:Int):T Int:=let e:=c.points.getD (d.toNat) default;let f:=(e.length:Nat);.gh d c.points.length<|
 .loop (fun (g:Ah)=>⟨[(2,.ptr 0 0),(5,pz g.1),(13,.pure (encL 1 az1 e)),(14,pz (f:Int)),(15,pz g.2)],[(0,.box [.pure (encL 12 az9 c.joints),.pure (encL 1 (encL 1 az1) c.points),.pure (encL 4 azp c.tree),.pure (encL 1 az1 c.q)])],[],1⟩)
 (.exit 0) (fun (g:Int)=>⟨[(5,pz g)],[],[],0⟩)
 (fun g=>let h:=(g.2).toNat;.br (decide (g.2<(f:Int)))
 (.gh g.2 (e.length)<|
 .gh g.2 c.q.length<|
 .name 5006 ((i64.wrap ((c.q.getD h default)- (e.getD h default)))) fun i=>
 .gh g.2 c.joints.length<|
 .name 6012 ((i64.wrap (g.1+(i64.wrap (((c.joints.getD h default).Weight) * (max i (i64.wrap (0-i)))))))) fun j=>
 .nn (j,(i64.wrap (g.2+1))))
 (.oo g.1))
 (0,0) [] fun g=>
 .ret g
noncomputable def Ezw (c)(d):=
 mkD Tryz.func183 (Ezx c d) 0 [.pure (oza c),pz d] [] (fun r=>pz r) (fun _=>[])
noncomputable def Gzh (c:A0)(d:A0)(e:Int):T A2:=let f:=([e]:A0);let g:=c.length+f.length;.conv 7 (czk 1 az1 f 3)<|
 .conv 8 (ez5 1 az1 c f 3)<|
 .grd (g * 8≤140737488355328/\g≤maxLen)<|
 .ret ((c++f),d)
noncomputable def Gzg (c)(d)(e):=
 mkD Tryz.func342 (Gzh c d e) 4 [.ptr 0 0,.iface 3 (pz e)] [(0,.box [.vec 1,.func 140 [] [.ptr 2 0]]),(1,vecO 1 az1 c 3),(2,.box [.vec 3]),(3,vecO 1 az1 d 2)] (fun _=>.tup []) (fun r=>[(0,.box [.vec 4,.func 140 [] [.ptr 2 0]]),(1,.gone),(2,.box [.vec 3]),(3,vecO 1 az1 r.2 2),(4,vecO 1 az1 r.1 3)])
noncomputable def Izp (c:A0)(d:A0):T Aq:=
 .ret ((c.length:Int),c,d)
noncomputable def gzc (c)(d):=
 mkD Tryz.func144 (Izp c d) 4 [.ptr 0 0] [(0,.box [.vec 1,.func 140 [] [.ptr 2 0]]),(1,vecO 1 az1 c 3),(2,.box [.vec 3]),(3,vecO 1 az1 d 2)] (fun r=>pz r.1) (fun r=>[(0,.box [.vec 1,.func 140 [] [.ptr 2 0]]),(1,vecO 1 az1 r.2.1 3),(2,.box [.vec 3]),(3,vecO 1 az1 r.2.2 2)])
noncomputable def zz0 (c:Int)(d:Int)(e:A0):T (Bool×A0):=
 .gg c e.length<|
 .gg d e.length<|
 .cc (oz3 (e.getD (c.toNat) default) (e.getD (d.toNat) default)) fun f=>
 .cc (dzl c d) fun g=>let h:=([f,g]:A0);
 .conv 1012 (czk 1 az1 h 3)<|
 .cc (pzn h) fun i=>
 .ret ((decide (i>0)),e)
noncomputable def yzz (c)(d)(e):=
 mkD Tryz.func140 (zz0 c d e) 2 [pz c,pz d,.ptr 0 0] [(0,.box [.vec 1]),(1,vecO 1 az1 e 2)] (fun r=>.pure (.bool r.1)) (fun r=>[(0,.box [.vec 1]),(1,vecO 1 az1 r.2 2)])
noncomputable def Gzf (c:A0)(d:A0)(e:Int)(f:Int):T (Bool×A0×A0):=
 .gg e c.length<|
 .gg f c.length<|
 .call (yzz (c.getD (e.toNat) default) (c.getD (f.toNat) default) d) [(0,2),(1,3)] fun g=>
 .ret (g.1,c,g.2)
noncomputable def mzi (c)(d)(e)(f):=
 mkD Tryz.func340 (Gzf c d e f) 4 [.ptr 0 0,pz e,pz f] [(0,.box [.vec 1,.func 140 [] [.ptr 2 0]]),(1,vecO 1 az1 c 3),(2,.box [.vec 3]),(3,vecO 1 az1 d 2)] (fun r=>.pure (.bool r.1)) (fun r=>[(0,.box [.vec 1,.func 140 [] [.ptr 2 0]]),(1,vecO 1 az1 r.2.1 3),(2,.box [.vec 3]),(3,vecO 1 az1 r.2.2 2)])
noncomputable def Gzi (c:A0)(d:A0)(e:Int)(f:Int):T A2:=let g:=e.toNat;let h:=f.toNat;let i:=c.getD h default;let j:=c.set g i;let k:=c.getD g default;.gg f c.length<|
 .gg e c.length<|
 .gh e c.length<|
 .conv 25 (bzm 1 az1 c 3 g i)<|
 .gi (e) c.length<|
 .gh f (j.length)<|
 .conv 27 (bzm 1 az1 j 3 h k)<|
 .gi (f) (j.length)<|
 .ret ((j.set h k),d)
noncomputable def mzj (c)(d)(e)(f):=
 mkD Tryz.func343 (Gzi c d e f) 4 [.ptr 0 0,pz e,pz f] [(0,.box [.vec 1,.func 140 [] [.ptr 2 0]]),(1,vecO 1 az1 c 3),(2,.box [.vec 3]),(3,vecO 1 az1 d 2)] (fun _=>.tup []) (fun r=>[(0,.box [.vec 1,.func 140 [] [.ptr 2 0]]),(1,vecO 1 az1 r.1 3),(2,.box [.vec 3]),(3,vecO 1 az1 r.2 2)])
noncomputable def Azf (c:A0)(d:A0)(e:Int):T A2:=
 .loop (fun (f:Ar)=>⟨[(0,.iface 205 (.ptr 0 0)),(1,pz f.2.2)],[(0,.box [.vec 1,.func 140 [] [.ptr 2 0]]),(1,vecO 1 az1 f.1 3),(2,.box [.vec 3]),(3,vecO 1 az1 f.2.1 2)],[],4⟩)
 (.exit 0) (fun (f:A2)=>⟨[],[(0,.box [.vec 1,.func 140 [] [.ptr 2 0]]),(1,vecO 1 az1 f.1 3),(2,.box [.vec 3]),(3,vecO 1 az1 f.2 2)],[],4⟩)
 (fun f=>let g:=i64.wrap ((i64.wrap (f.2.2-1)).tdiv 2);.ok ((2:Int)≠0) (by decide)<|
 .cut 1 (fun (h:(A0×A0×Bool))=>⟨[(0,.iface 205 (.ptr 0 0)),(1,pz f.2.2),(4,pz g),(17,.pure (.bool h.2.2))],[(0,.box [.vec 1,.func 140 [] [.ptr 2 0]]),(1,vecO 1 az1 h.1 3),(2,.box [.vec 3]),(3,vecO 1 az1 h.2.1 2)],[],4⟩)
 (.br (g==f.2.2)
 (.oo (f.1,f.2.1,true))
 (.call (mzi f.1 f.2.1 f.2.2 g) [(0,0),(1,1),(2,2),(3,3)] fun h=>
 .oo (h.2.1,h.2.2,(!h.1)))) fun h=>
 .br h.2.2
 (.oo (h.1,h.2.1))
 (.call (mzj h.1 h.2.1 g f.2.2) [(0,0),(1,1),(2,2),(3,3)] fun i=>
 .nn (i.1,i.2,g)))
 (c,d,e) [] fun f=>
 .ret (f.1,f.2)
noncomputable def Aze (c)(d)(e):=
 mkD Tryz.func222 (Azf c d e) 4 [.iface 205 (.ptr 0 0),pz e] [(0,.box [.vec 1,.func 140 [] [.ptr 2 0]]),(1,vecO 1 az1 c 3),(2,.box [.vec 3]),(3,vecO 1 az1 d 2)] (fun _=>.tup []) (fun r=>[(0,.box [.vec 1,.func 140 [] [.ptr 2 0]]),(1,vecO 1 az1 r.1 3),(2,.box [.vec 3]),(3,vecO 1 az1 r.2 2)])
noncomputable def wz2 (c:A0)(d:A0)(e:Int):T A2:=
 .call (Gzg c d e) [(0,0),(1,1),(2,2),(3,3)] fun f=>
 .call (gzc f.1 f.2) [(0,0),(1,132),(2,2),(3,3)] fun g=>
 .call (Aze g.2.1 g.2.2 (i64.wrap (g.1-1))) [(0,0),(1,132),(2,2),(3,3)] fun h=>
 .ret (h.1,h.2)
noncomputable def wz1 (c)(d)(e):=
 mkD Tryz.func184 (wz2 c d e) 4 [.iface 205 (.ptr 0 0),.iface 3 (pz e)] [(0,.box [.vec 1,.func 140 [] [.ptr 2 0]]),(1,vecO 1 az1 c 3),(2,.box [.vec 3]),(3,vecO 1 az1 d 2)] (fun _=>.tup []) (fun r=>[(0,.box [.vec 4,.func 140 [] [.ptr 2 0]]),(1,.gone),(2,.box [.vec 3]),(3,vecO 1 az1 r.2 2),(4,vecO 1 az1 r.1 3)])
noncomputable def Gzk (c:A0)(d:A0)(e:Int):T A2:=
 .call (wz1 c d e) [(0,0),(1,1),(2,2),(3,3)] fun f=>
 .ret (f.1,f.2)
noncomputable def Gzj (c)(d)(e):=
 mkD Tryz.func146 (Gzk c d e) 4 [.ptr 0 0,pz e] [(0,.box [.vec 1,.func 140 [] [.ptr 2 0]]),(1,vecO 1 az1 c 3),(2,.box [.vec 3]),(3,vecO 1 az1 d 2)] (fun _=>.tup []) (fun r=>[(0,.box [.vec 4,.func 140 [] [.ptr 2 0]]),(1,.gone),(2,.box [.vec 3]),(3,vecO 1 az1 r.2 2),(4,vecO 1 az1 r.1 3)])
noncomputable def wz4 (c:A0)(d:A0)(e:Int)(f:Int):T (Bool×A0×A0):=
 .loop (fun (g:Ar)=>⟨[(0,.iface 205 (.ptr 0 0)),(1,pz e),(2,pz f),(7,pz g.2.2)],[(0,.box [.vec 1,.func 140 [] [.ptr 2 0]]),(1,vecO 1 az1 g.1 3),(2,.box [.vec 3]),(3,vecO 1 az1 g.2.1 2)],[],4⟩)
 (.exit 0) (fun (g:Ar)=>⟨[(1,pz e),(7,pz g.2.2)],[(0,.box [.vec 1,.func 140 [] [.ptr 2 0]]),(1,vecO 1 az1 g.1 3),(2,.box [.vec 3]),(3,vecO 1 az1 g.2.1 2)],[],4⟩)
 (fun g=>let h:=i64.wrap ((i64.wrap (2 * g.2.2))+1);let i:=i64.wrap (h+1);.cut 2 (fun (j:Bool)=>⟨[(0,.iface 205 (.ptr 0 0)),(1,pz e),(2,pz f),(7,pz g.2.2),(8,pz h),(21,.pure (.bool j))],[(0,.box [.vec 1,.func 140 [] [.ptr 2 0]]),(1,vecO 1 az1 g.1 3),(2,.box [.vec 3]),(3,vecO 1 az1 g.2.1 2)],[],4⟩)
 (.br (decide (h≥f))
 (.oo true)
 (.oo (decide (h<0)))) fun j=>
 .br j
 (.oo (g.1,g.2.1,g.2.2))
 (.cut 1 (fun (k:Ar)=>⟨[(0,.iface 205 (.ptr 0 0)),(1,pz e),(2,pz f),(7,pz g.2.2),(9,pz k.2.2)],[(0,.box [.vec 1,.func 140 [] [.ptr 2 0]]),(1,vecO 1 az1 k.1 3),(2,.box [.vec 3]),(3,vecO 1 az1 k.2.1 2)],[],4⟩)
 (.cut 1 (fun (k:(A0×A0×Bool))=>⟨[(0,.iface 205 (.ptr 0 0)),(1,pz e),(2,pz f),(7,pz g.2.2),(9,pz h),(10,pz i),(33,.pure (.bool k.2.2))],[(0,.box [.vec 1,.func 140 [] [.ptr 2 0]]),(1,vecO 1 az1 k.1 3),(2,.box [.vec 3]),(3,vecO 1 az1 k.2.1 2)],[],4⟩)
 (.br (decide (i<f))
 (.call (mzi g.1 g.2.1 i h) [(0,0),(1,1),(2,2),(3,3)] fun k=>
 .oo (k.2.1,k.2.2,k.1))
 (.oo (g.1,g.2.1,false))) fun k=>
 .br k.2.2
 (.oo (k.1,k.2.1,i))
 (.oo (k.1,k.2.1,h))) fun k=>
 .call (mzi k.1 k.2.1 k.2.2 g.2.2) [(0,0),(1,1),(2,2),(3,3)] fun l=>
 .br (!l.1)
 (.oo (l.2.1,l.2.2,g.2.2))
 (.call (mzj l.2.1 l.2.2 g.2.2 k.2.2) [(0,0),(1,1),(2,2),(3,3)] fun m=>
 .nn (m.1,m.2,k.2.2))))
 (c,d,e) [] fun g=>
 .ret ((decide (g.2.2>e)),g.1,g.2.1)
noncomputable def wz3 (c)(d)(e)(f):=
 mkD Tryz.func223 (wz4 c d e f) 4 [.iface 205 (.ptr 0 0),pz e,pz f] [(0,.box [.vec 1,.func 140 [] [.ptr 2 0]]),(1,vecO 1 az1 c 3),(2,.box [.vec 3]),(3,vecO 1 az1 d 2)] (fun r=>.pure (.bool r.1)) (fun r=>[(0,.box [.vec 1,.func 140 [] [.ptr 2 0]]),(1,vecO 1 az1 r.2.1 3),(2,.box [.vec 3]),(3,vecO 1 az1 r.2.2 2)])
noncomputable def Izr (c:A0)(d:A0):T Aq:=let e:=(c.length:Int);let f:=i64.wrap (e-1);.gg f c.length<|
 .conv 3006 (Uzs 1 az1 c 3 f)<|
 .grd (0≤f/\f≤e/\0≤f.toNat)<|
 .ret ((c.getD (f.toNat) default),(c.take (f.toNat)),d)
noncomputable def Izq (c)(d):=
 mkD Tryz.func341 (Izr c d) 4 [.ptr 0 0] [(0,.box [.vec 1,.func 140 [] [.ptr 2 0]]),(1,vecO 1 az1 c 3),(2,.box [.vec 3]),(3,vecO 1 az1 d 2)] (fun r=>.iface 3 (pz r.1)) (fun r=>[(0,.box [.vec 4,.func 140 [] [.ptr 2 0]]),(1,.gone),(2,.box [.vec 3]),(3,vecO 1 az1 r.2.2 2),(4,vecO 1 az1 r.2.1 3)])
noncomputable def yzu (c:A0)(d:A0):T Aq:=
 .call (gzc c d) [(0,0),(1,1),(2,2),(3,3)] fun e=>let f:=i64.wrap (e.1-1);
 .call (mzj e.2.1 e.2.2 0 f) [(0,0),(1,1),(2,2),(3,3)] fun g=>
 .call (wz3 g.1 g.2 0 f) [(0,0),(1,1),(2,2),(3,3)] fun h=>
 .call (Izq h.2.1 h.2.2) [(0,0),(1,1),(2,2),(3,3)] fun i=>
 .ret (i.1,i.2.1,i.2.2)
noncomputable def yzt (c)(d):=
 mkD Tryz.func185 (yzu c d) 4 [.iface 205 (.ptr 0 0)] [(0,.box [.vec 1,.func 140 [] [.ptr 2 0]]),(1,vecO 1 az1 c 3),(2,.box [.vec 3]),(3,vecO 1 az1 d 2)] (fun r=>.iface 3 (pz r.1)) (fun r=>[(0,.box [.vec 4,.func 140 [] [.ptr 2 0]]),(1,.gone),(2,.box [.vec 3]),(3,vecO 1 az1 r.2.2 2),(4,vecO 1 az1 r.2.1 3)])
noncomputable def Izs (c:A0)(d:A0):T Aq:=
 .call (yzt c d) [(0,0),(1,1),(2,2),(3,3)] fun e=>
 .ret (e.1,e.2.1,e.2.2)
noncomputable def wzw (c)(d):=
 mkD Tryz.func147 (Izs c d) 4 [.ptr 0 0] [(0,.box [.vec 1,.func 140 [] [.ptr 2 0]]),(1,vecO 1 az1 c 3),(2,.box [.vec 3]),(3,vecO 1 az1 d 2)] (fun r=>pz r.1) (fun r=>[(0,.box [.vec 4,.func 140 [] [.ptr 2 0]]),(1,.gone),(2,.box [.vec 3]),(3,vecO 1 az1 r.2.2 2),(4,vecO 1 az1 r.2.1 3)])
noncomputable def zz4 (c:Int)(d:Int)(e:A0)(f:A0)(g:Int):T Ar:=
 .gh c e.length<|
 .conv 4 (bzm 1 az1 e 2 (c.toNat) d)<|
 .gi (c) e.length<|
 .call (Gzj f (e.set (c.toNat) d) c) [(0,3),(1,4),(2,0),(3,1)] fun h=>
 .call (gzc h.1 h.2) [(0,3),(1,454),(2,0),(3,1)] fun i=>
 .br (decide (i.1>g))
 (.call (wzw i.2.1 i.2.2) [(0,3),(1,454),(2,0),(3,1)] fun j=>
 .ret (j.2.2,j.2.1,g))
 (.ret (i.2.2,i.2.1,g))
noncomputable def zz3 (c)(d)(e)(f)(g):=
 mkD Tryz.func145 (zz4 c d e f g) 6 [pz c,pz d,.ptr 0 0,.ptr 2 0,.ptr 5 0] [(0,.box [.vec 1]),(1,vecO 1 az1 e 2),(2,.box [.ptr 3 0]),(3,.box [.vec 4,.func 140 [] [.ptr 0 0]]),(4,vecO 1 az1 f 3),(5,.box [pz g])] (fun _=>.tup []) (fun r=>[(0,.box [.vec 1]),(1,vecO 1 az1 r.1 2),(2,.box [.ptr 3 0]),(3,.box [.vec 6,.func 140 [] [.ptr 0 0]]),(4,.gone),(5,.box [pz r.2.2]),(6,vecO 1 az1 r.2.1 3)])
noncomputable def zz2 (c:A0)(d:A0)(e:Int):T (Int×Bool×A0×A0×Int):=
 .call (gzc c d) [(0,1),(1,2),(2,3),(3,4)] fun f=>let g:=f.2.1.getD ((0:Int).toNat) default;
 .br (decide (f.1<e))
 (.ret (0,false,f.2.1,f.2.2,e))
 (.gg (0:Int) f.2.1.length<|
 .gg g f.2.2.length<|
 .ret ((f.2.2.getD (g.toNat) default),true,f.2.1,f.2.2,e))
noncomputable def zz1 (c)(d)(e):=
 mkD Tryz.func143 (zz2 c d e) 6 [.ptr 0 0,.ptr 5 0,.ptr 3 0] [(0,.box [.ptr 1 0]),(1,.box [.vec 2,.func 140 [] [.ptr 3 0]]),(2,vecO 1 az1 c 3),(3,.box [.vec 4]),(4,vecO 1 az1 d 2),(5,.box [pz e])] (fun r=>.tup [pz r.1,.pure (.bool r.2.1)]) (fun r=>[(0,.box [.ptr 1 0]),(1,.box [.vec 2,.func 140 [] [.ptr 3 0]]),(2,vecO 1 az1 r.2.2.1 3),(3,.box [.vec 4]),(4,vecO 1 az1 r.2.2.2.1 2),(5,.box [pz r.2.2.2.2])])
abbrev mzr:=RecS Tryz.prog 182 10 (Int×A4×A1×Ag×A0×A0×A0×Int) Be (fun a=>[pz a.1,.ptr 0 0,.ptr 1 0,.ptr 8 0,.ptr 9 0]) (fun a=>[(0,.box [.pure (encL 12 az9 a.2.1),.pure (encL 1 (encL 1 az1) a.2.2.1),.pure (encL 4 azp a.2.2.2.1),.pure (encL 1 az1 a.2.2.2.2.1)]),(1,.box [.func 145 [] [.ptr 2 0,.ptr 4 0,.ptr 7 0]]),(2,.box [.vec 3]),(3,vecO 1 az1 a.2.2.2.2.2.1 2),(4,.box [.ptr 5 0]),(5,.box [.vec 6,.func 140 [] [.ptr 2 0]]),(6,vecO 1 az1 a.2.2.2.2.2.2.1 3),(7,.box [pz a.2.2.2.2.2.2.2]),(8,.box [.func 182 [] [.ptr 0 0,.ptr 1 0,.ptr 8 0,.ptr 9 0]]),(9,.box [.func 143 [] [.ptr 4 0,.ptr 7 0,.ptr 2 0]])]) (fun _ _=>.tup []) (fun _ r=>[(0,.box [.pure (encL 12 az9 r.1),.pure (encL 1 (encL 1 az1) r.2.1),.pure (encL 4 azp r.2.2.1),.pure (encL 1 az1 r.2.2.2.1)]),(1,.box [.func 145 [] [.ptr 2 0,.ptr 4 0,.ptr 7 0]]),(2,.box [.vec 3]),(3,vecO 1 az1 r.2.2.2.2.1 2),(4,.box [.ptr 5 0]),(5,.box [.vec 10,.func 140 [] [.ptr 2 0]]),(6,.gone),(7,.box [pz r.2.2.2.2.2.2]),(8,.box [.func 182 [] [.ptr 0 0,.ptr 1 0,.ptr 8 0,.ptr 9 0]]),(9,.box [.func 143 [] [.ptr 4 0,.ptr 7 0,.ptr 2 0]]),(10,vecO 1 az1 r.2.2.2.2.2.1 3)])
noncomputable def Gzt (rec:mzr)(c:Int)(d:A4)(e:A1)(f:Ag)(g:A0)(h:A0)(i:A0)(j:Int):T Be:=let k:=f.getD (c.toNat) default;let l:=k.Axis;let m:=k.Point;let n:=l.toNat;let s:=e.getD (m.toNat) default;.br (c==(-1))
 (.ret (d,e,f,g,h,i,j))
 (.gh c f.length<|
 .cc (Ezw (⟨d,e,f,g⟩:dz0) m) fun t=>
 .call (zz3 m t h i j) [(0,2),(1,3),(2,4),(3,5),(4,6),(5,7)] fun w=>
 .gh l g.length<|
 .gh m e.length<|
 .gh l (s.length)<|
 .name 3015 ((s.getD n default)) fun y=>let z:=i64.wrap ((g.getD n default)-y);
 .cut 1 (fun (aa:Ah)=>⟨[(1,.ptr 0 0),(3,.ptr 8 0),(4,.ptr 9 0),(6,.ptr 11 0),(7,pz z),(8,pz aa.1),(9,pz aa.2)],[(0,.box [.pure (encL 12 az9 d),.pure (encL 1 (encL 1 az1) e),.pure (encL 4 azp f),.pure (encL 1 az1 g)]),(1,.box [.func 145 [] [.ptr 2 0,.ptr 4 0,.ptr 7 0]]),(2,.box [.vec 3]),(3,vecO 1 az1 w.1 2),(4,.box [.ptr 5 0]),(5,.box [.vec 10,.func 140 [] [.ptr 2 0]]),(6,.gone),(7,.box [pz w.2.2]),(8,.box [.func 182 [] [.ptr 0 0,.ptr 1 0,.ptr 8 0,.ptr 9 0]]),(9,.box [.func 143 [] [.ptr 4 0,.ptr 7 0,.ptr 2 0]]),(10,vecO 1 az1 w.2.1 3),(11,.box [pz m,pz l,pz (k.Low),pz (k.High)])],[],12⟩)
 (.br (decide (z>0))
 (.oo (k.High,k.Low))
 (.oo (k.Low,k.High))) fun aa=>
 .call (rec.C (aa.1,d,e,f,g,w.1,w.2.1,w.2.2)) [(0,0),(1,1),(2,2),(3,3),(4,4),(5,5),(6,10),(7,7),(8,8),(9,9)] fun ab=>
 .gh l ab.1.length<|
 .name 8010 ((max z (i64.wrap (0-z)))) fun ac=>
 .call (zz1 ab.2.2.2.2.2.1 ab.2.2.2.2.1 ab.2.2.2.2.2.2) [(0,4),(1,5),(2,140),(3,2),(4,3),(5,7)] fun ad=>
 .cut 0 (fun (ae:Bool)=>⟨[(3,.ptr 8 0),(9,pz aa.2),(79,.pure (.bool ae))],[(0,.box [.pure (encL 12 az9 ab.1),.pure (encL 1 (encL 1 az1) ab.2.1),.pure (encL 4 azp ab.2.2.1),.pure (encL 1 az1 ab.2.2.2.1)]),(1,.box [.func 145 [] [.ptr 2 0,.ptr 4 0,.ptr 7 0]]),(2,.box [.vec 3]),(3,vecO 1 az1 ad.2.2.2.1 2),(4,.box [.ptr 5 0]),(5,.box [.vec 10,.func 140 [] [.ptr 2 0]]),(6,.gone),(7,.box [pz ad.2.2.2.2]),(8,.box [.func 182 [] [.ptr 0 0,.ptr 1 0,.ptr 8 0,.ptr 9 0]]),(9,.box [.func 143 [] [.ptr 4 0,.ptr 7 0,.ptr 2 0]]),(10,vecO 1 az1 ad.2.2.1 3)],[],11⟩)
 (.br (!ad.2.1)
 (.oo true)
 (.oo (decide ((i64.wrap (((ab.1.getD n default).Weight) * ac))≤ad.1)))) fun ae=>
 .br ae
 (.call (rec.C (aa.2,ab.1,ab.2.1,ab.2.2.1,ab.2.2.2.1,ad.2.2.2.1,ad.2.2.1,ad.2.2.2.2)) [(0,0),(1,1),(2,2),(3,3),(4,4),(5,5),(6,10),(7,7),(8,8),(9,9)] fun af=>
 .ret (af.1,af.2.1,af.2.2.1,af.2.2.2.1,af.2.2.2.2.1,af.2.2.2.2.2.1,af.2.2.2.2.2.2))
 (.ret (ab.1,ab.2.1,ab.2.2.1,ab.2.2.2.1,ad.2.2.2.1,ad.2.2.1,ad.2.2.2.2)))
noncomputable def Gzs:mzr->mzr:=RecS.next [] hd Tryz.func182 (by kernel_rfl) (fun rec a=>Gzt rec a.1 a.2.1 a.2.2.1 a.2.2.2.1 a.2.2.2.2.1 a.2.2.2.2.2.1 a.2.2.2.2.2.2.1 a.2.2.2.2.2.2.2) (fun rec a=>by kernel_rfl)
noncomputable def Gzr (a0:Int)(a1:A4)(a2:A1)(a3:Ag)(a4:A0)(a5:A0)(a6:A0)(a7:Int):CallS Be:=(RecS.fix Gzs NN).C (a0,a1,a2,a3,a4,a5,a6,a7)
noncomputable def Kzd (c:dz0)(d:A0)(e:A0)(f:Int):T Ar:=
 .br (decide ((c.tree.length:Int)>0))
 (.call (Gzr 0 c.joints c.points c.tree c.q e d f) [(0,6),(1,134),(2,3),(3,4),(4,0),(5,1),(6,2),(7,5),(8,198),(9,70)] fun g=>
 .ret (g.2.2.2.2.2.1,g.2.2.2.2.1,g.2.2.2.2.2.2))
 (.ret (d,e,f))
noncomputable def Kzc (c)(d)(e)(f):=
 mkD Tryz.func142 (Kzd c d e f) 6 [.pure (oza c),.func 143 [] [.ptr 0 0,.ptr 5 0,.ptr 3 0],.func 145 [] [.ptr 3 0,.ptr 0 0,.ptr 5 0]] [(0,.box [.ptr 1 0]),(1,.box [.vec 2,.func 140 [] [.ptr 3 0]]),(2,vecO 1 az1 d 3),(3,.box [.vec 4]),(4,vecO 1 az1 e 2),(5,.box [pz f])] (fun _=>.tup []) (fun r=>[(0,.box [.ptr 1 0]),(1,.box [.vec 6,.func 140 [] [.ptr 3 0]]),(2,.gone),(3,.box [.vec 4]),(4,vecO 1 az1 r.2.1 2),(5,.box [pz r.2.2]),(6,vecO 1 az1 r.1 3)])
noncomputable def Czb (c:azf)(d:A1)(e:Ag)(f:A0)(g:Int):T A0:=let h:=(d.length:Int);.cut 3 (fun (i:Bool)=>⟨[(1,.pure (encL 1 (encL 1 az1) d)),(2,.pure (encL 4 azp e)),(3,.pure (encL 1 az1 f)),(5,.ptr 0 0),(9,.ptr 1 0),(10,.ptr 2 0),(24,.pure (.bool i))],[(0,.box [.pure (encL 12 az9 c.Joints),.pure (encL 5 aze c.Masses)]),(1,.box [pz g]),(2,.box [.vec 3]),(3,.nilv)],[.func 138 [] [.ptr 2 0]],4⟩)
 (.br (decide (g<1))
 (.oo true)
 (.cc (Izh (⟨c.Joints,c.Masses⟩:azf) d e f) fun i=>
 .oo (!i))) fun i=>
 .br i
 (.ret nl)
 (.conv 4002 (Gz5 1 az1 2 h.toNat 0)<|
 .grd (0≤h/\h≤h/\h≤9223372036854775807/\h * 8≤140737488355328)<|
 .call (Kzc (⟨c.Joints,d,e,f⟩:dz0) nl (List.replicate h.toNat (0:Int)) g) [(0,516),(1,452),(2,388),(3,196),(4,132),(5,1)] fun j=>
 .call (gzc j.1 j.2.1) [(0,452),(1,1156),(2,196),(3,132)] fun k=>let l:=List.replicate (k.1).toNat (0:Int);
 .conv 7002 (Gz5 1 az1 3 (k.1).toNat 0)<|
 .grd (0≤k.1/\k.1≤k.1/\k.1≤9223372036854775807/\k.1 * 8≤140737488355328)<|
 .loop (fun (m:(A0×A0×A0×Int))=>⟨[(10,.ptr 0 0),(12,.ptr 2 0),(13,pz m.2.2.2)],[(0,.box [.vec 1]),(1,vecO 1 az1 m.1 3),(2,.box [.ptr 3 0]),(3,.box [.vec 4,.func 140 [] [.ptr 5 0]]),(4,vecO 1 az1 m.2.1 3),(5,.box [.vec 6]),(6,vecO 1 az1 m.2.2.1 2)],[.func 138 [] [.ptr 0 0]],7⟩)
 (.exit 0) (fun (m:A0)=>⟨[(10,.ptr 0 0)],[(0,.box [.vec 1]),(1,vecO 1 az1 m 3)],[.func 138 [] [.ptr 0 0]],2⟩)
 (fun m=>let n:=m.2.2.2;.br (decide (m.2.2.2≥0))
 (.call (wzw m.2.1 m.2.2.1) [(0,3),(1,4),(2,5),(3,6)] fun s=>
 .gh m.2.2.2 m.1.length<|
 .conv 11005 (bzm 1 az1 m.1 3 (n.toNat) s.1)<|
 .gi n m.1.length<|
 .nn ((m.1.set (n.toNat) s.1),s.2.1,s.2.2,(i64.wrap (m.2.2.2-1))))
 (.oo m.1))
 (l,k.2.1,k.2.2,(i64.wrap ((l.length:Int)-1))) [] fun m=>
 .ret m)
noncomputable def Cza (c)(d)(e)(f)(g):=
 mkC [⟨138,Yz2⟩] hd Tryz.func87 (by kernel_rfl) (Czb c d e f g) 0 [.pure (bzg c),.pure (encL 1 (encL 1 az1) d),.pure (encL 4 azp e),.pure (encL 1 az1 f),pz g] [] (fun r=>.pure (encL 1 az1 r)) (fun _=>[]) (by kernel_rfl)
noncomputable def szu (c:Int)(d:Int)(e:Int)(f:Int):T Bc:=
 .unroll 3<|
 .known true<|
 .gh (0:Int) 2<|
 .known false<|
 .gh (0:Int) 2<|
 .cc (dzl c e) fun g=>
 .br (g !=0)
 (.ret (g,c,d,e,f))
 (.lit 10000 (1)<|
 .known true<|
 .gh (1:Int) 2<|
 .known false<|
 .gh (1:Int) 2<|
 .cc (dzl d f) fun h=>
 .br (h !=0)
 (.ret (h,c,d,e,f))
 (.lit 10000 (2)<|
 .known false<|
 .known false<|
 .ret (0,c,d,e,f)))
noncomputable def szt (c)(d)(e)(f):=
 mkD Tryz.func90 (szu c d e f) 2 [.bsl 0 2,.bsl 1 2] [(0,.box [pz c,pz d]),(1,.box [pz e,pz f])] (fun r=>pz r.1) (fun r=>[(0,.box [pz r.2.1,pz r.2.2.1]),(1,.box [pz r.2.2.2.1,pz r.2.2.2.2])])
noncomputable def xzu (c:Ah)(d:Ah):T Int:=
 .call (szt c.1 c.2 d.1 d.2) [(0,0),(1,64)] fun e=>
 .ret e.1
noncomputable def bz0 (c)(d):=
 mkD Tryz.func89 (xzu c d) 0 [.pure (az5 c),.pure (az5 d)] [] (fun r=>pz r) (fun _=>[])
noncomputable def iz5 (c:Ai)(d:Nat)(e:Nat)(f:Int)(g:Int):T Ai:=
 .loop (fun (h:Aj)=>⟨[(0,.view 0 2 d e),(1,pz f),(2,pz g),(3,.func 89 [] []),(8,pz h.2)],[(0,vecO 2 az5 h.1 107)],[],1⟩)
 (.exit 0) (fun (h:Ai)=>⟨[],[(0,vecO 2 az5 h 107)],[],1⟩)
 (fun h=>.br (decide (h.2<g))
 (.loop (fun (i:Aj)=>⟨[(0,.view 0 2 d e),(1,pz f),(2,pz g),(3,.func 89 [] []),(8,pz h.2),(9,pz i.2)],[(0,vecO 2 az5 i.1 107)],[],1⟩)
 (.exit 2) (fun (i:Ai)=>⟨[(0,.view 0 2 d e),(1,pz f),(2,pz g),(3,.func 89 [] []),(8,pz h.2)],[(0,vecO 2 az5 i 107)],[],1⟩)
 (fun i=>let j:=d+((i.2).toNat);let k:=i64.wrap (i.2-1);let l:=d+(k.toNat);let m:=i.1.getD j default;let n:=i.1.getD l default;let s:=i.1.set j n;.cut 1 (fun (t:Bool)=>⟨[(0,.view 0 2 d e),(1,pz f),(2,pz g),(3,.func 89 [] []),(8,pz h.2),(9,pz i.2),(34,.pure (.bool t))],[(0,vecO 2 az5 i.1 107)],[],1⟩)
 (.br (decide (i.2>f))
 (.gh i.2 e<|
 .grd (j<i.1.length)<|
 .gh k e<|
 .grd (l<i.1.length)<|
 .call (bz0 m n) [] fun t=>
 .oo (decide (t<0)))
 (.oo false)) fun t=>
 .br t
 (.gh k e<|
 .grd (l<i.1.length)<|
 .gh i.2 e<|
 .grd (j<i.1.length)<|
 .gh i.2 e<|
 .conv 6015 (bzm 2 az5 i.1 107 j n)<|
 .grd (j<i.1.length/\0≤j)<|
 .gh k e<|
 .conv 6017 (bzm 2 az5 s 107 l m)<|
 .grd (l<s.length/\0≤l)<|
 .nn ((s.set l m),k))
 (.oo i.1))
 (h.1,h.2) [] fun i=>
 .nn (i,(i64.wrap (h.2+1))))
 (.oo h.1))
 (c,(i64.wrap (f+1))) [] fun h=>
 .ret h
noncomputable def iz4 (c)(d)(e)(f)(g):=
 mkD Tryz.func186 (iz5 c d e f g) 1 [.view 0 2 d e,pz f,pz g,.func 89 [] []] [(0,vecO 2 az5 c 107)] (fun _=>.tup []) (fun r=>[(0,vecO 2 az5 r 107)])
noncomputable def lzv (c:Ai)(d:Nat)(e:Nat)(f:Int)(g:Int)(h:Int):T Ai:=
 .loop (fun (i:Aj)=>⟨[(0,.view 0 2 d e),(2,pz g),(3,pz h),(4,.func 89 [] []),(10,pz i.2)],[(0,vecO 2 az5 i.1 107)],[],1⟩)
 (.exit 0) (fun (i:Ai)=>⟨[],[(0,vecO 2 az5 i 107)],[],1⟩)
 (fun i=>let j:=i64.wrap ((i64.wrap (2 * i.2))+1);let k:=i64.wrap (h+j);let l:=d+(k.toNat);let m:=i64.wrap (k+1);let n:=d+(m.toNat);let s:=i64.wrap (h+i.2);let t:=d+(s.toNat);let w:=i.1.getD t default;let y:=i64.wrap (j+1);.br (decide (j≥g))
 (.oo i.1)
 (.cut 0 (fun (z:Int)=>⟨[(0,.view 0 2 d e),(2,pz g),(3,pz h),(4,.func 89 [] []),(10,pz i.2),(11,pz z)],[(0,vecO 2 az5 i.1 107)],[],1⟩)
 (.cut 0 (fun (z:Bool)=>⟨[(0,.view 0 2 d e),(2,pz g),(3,pz h),(4,.func 89 [] []),(10,pz i.2),(11,pz j),(40,.pure (.bool z))],[(0,vecO 2 az5 i.1 107)],[],1⟩)
 (.br (decide (y<g))
 (.gh k e<|
 .grd (l<i.1.length)<|
 .gh m e<|
 .grd (n<i.1.length)<|
 .call (bz0 (i.1.getD l default) (i.1.getD n default)) [] fun z=>
 .oo (decide (z<0)))
 (.oo false)) fun z=>
 .br z
 (.oo y)
 (.oo j)) fun z=>let aa:=i64.wrap (h+z);let ab:=d+(aa.toNat);let ac:=i.1.getD ab default;let ad:=i.1.set t ac;
 .gh s e<|
 .grd (t<i.1.length)<|
 .gh aa e<|
 .grd (ab<i.1.length)<|
 .call (bz0 w ac) [] fun ae=>
 .br (!(decide (ae<0)))
 (.ff i.1)
 (.gh aa e<|
 .grd (ab<i.1.length)<|
 .gh s e<|
 .grd (t<i.1.length)<|
 .gh s e<|
 .conv 6021 (bzm 2 az5 i.1 107 t ac)<|
 .grd (t<i.1.length/\0≤t)<|
 .gh aa e<|
 .conv 6023 (bzm 2 az5 ad 107 ab w)<|
 .grd (ab<ad.length/\0≤ab)<|
 .nn ((ad.set ab w),z))))
 (c,f) [] fun i=>
 .ret i
noncomputable def fzh (c)(d)(e)(f)(g)(h):=
 mkD Tryz.func224 (lzv c d e f g h) 1 [.view 0 2 d e,pz f,pz g,pz h,.func 89 [] []] [(0,vecO 2 az5 c 107)] (fun _=>.tup []) (fun r=>[(0,vecO 2 az5 r 107)])
noncomputable def lzu (c:Ai)(d:Nat)(e:Nat)(f:Int)(g:Int):T Ai:=let h:=d+(f.toNat);let i:=i64.wrap (g-f);let j:=i64.wrap (i-1);.ok ((2:Int)≠0) (by decide)<|
 .loop (fun (k:Aj)=>⟨[(0,.view 0 2 d e),(3,.func 89 [] []),(8,pz f),(9,pz 0),(10,pz i),(11,pz k.2)],[(0,vecO 2 az5 k.1 107)],[],1⟩)
 (.exit 0) (fun (k:Ai)=>⟨[(0,.view 0 2 d e),(3,.func 89 [] []),(8,pz f),(9,pz 0),(10,pz i)],[(0,vecO 2 az5 k 107)],[],1⟩)
 (fun k=>.br (decide (k.2≥0))
 (.call (fzh k.1 d e k.2 i f) [(0,0)] fun l=>
 .nn (l,(i64.wrap (k.2-1))))
 (.oo k.1))
 (c,(i64.wrap (j.tdiv 2))) [] fun k=>
 .loop (fun (l:Aj)=>⟨[(0,.view 0 2 d e),(3,.func 89 [] []),(8,pz f),(9,pz 0),(12,pz l.2)],[(0,vecO 2 az5 l.1 107)],[],1⟩)
 (.exit 2) (fun (l:Ai)=>⟨[],[(0,vecO 2 az5 l 107)],[],1⟩)
 (fun l=>let m:=i64.wrap (f+l.2);let n:=d+(m.toNat);let s:=l.1.getD n default;let t:=l.1.set h s;let w:=l.1.getD h default;.br (decide (l.2≥0))
 (.gh m e<|
 .grd (n<l.1.length)<|
 .gh f e<|
 .grd (h<l.1.length)<|
 .gh f e<|
 .conv 10017 (bzm 2 az5 l.1 107 h s)<|
 .grd (h<l.1.length/\0≤h)<|
 .gh m e<|
 .conv 10019 (bzm 2 az5 t 107 n w)<|
 .grd (n<t.length/\0≤n)<|
 .call (fzh (t.set n w) d e 0 l.2 f) [(0,0)] fun y=>
 .nn (y,(i64.wrap (l.2-1))))
 (.oo l.1))
 (k,j) [] fun l=>
 .ret l
noncomputable def lzt (c)(d)(e)(f)(g):=
 mkD Tryz.func187 (lzu c d e f g) 1 [.view 0 2 d e,pz f,pz g,.func 89 [] []] [(0,vecO 2 az5 c 107)] (fun _=>.tup []) (fun r=>[(0,vecO 2 az5 r 107)])
noncomputable def nzo (c:Ai)(d:Nat)(e:Nat)(f:Int)(g:Int)(h:Int):T Aw:=let i:=d+(g.toNat);let j:=d+(f.toNat);.gh g e<|
 .grd (i<c.length)<|
 .gh f e<|
 .grd (j<c.length)<|
 .cc (bz0 (c.getD i default) (c.getD j default)) fun k=>
 .br (decide (k<0))
 (.ret (g,f,(i64.wrap (h+1))))
 (.ret (f,g,h))
noncomputable def eza (c)(d)(e)(f)(g)(h):=
 mkD Tryz.func246 (nzo c d e f g h) 2 [.view 0 2 d e,pz f,pz g,.ptr 1 0,.func 89 [] []] [(0,vecO 2 az5 c 107),(1,.box [pz h])] (fun r=>.tup [pz r.1,pz r.2.1]) (fun r=>[(0,vecO 2 az5 c 107),(1,.box [pz r.2.2])])
noncomputable def nzn (c:Ai)(d:Nat)(e:Nat)(f:Int)(g:Int)(h:Int)(i:Int):T Ah:=
 .call (eza c d e f g i) [(0,0),(1,1)] fun j=>
 .call (eza c d e j.2.1 h j.2.2) [(0,0),(1,1)] fun k=>
 .call (eza c d e j.1 k.1 k.2.2) [(0,0),(1,1)] fun l=>
 .ret (l.2.1,l.2.2)
noncomputable def gz1 (c)(d)(e)(f)(g)(h)(i):=
 mkD Tryz.func228 (nzn c d e f g h i) 2 [.view 0 2 d e,pz f,pz g,pz h,.ptr 1 0,.func 89 [] []] [(0,vecO 2 az5 c 107),(1,.box [pz i])] (fun r=>pz r.1) (fun r=>[(0,vecO 2 az5 c 107),(1,.box [pz r.2])])
noncomputable def hze (c:Ai)(d:Nat)(e:Nat)(f:Int)(g:Int):T Ah:=
 .call (gz1 c d e (i64.wrap (f-1)) f (i64.wrap (f+1)) g) [(0,0),(1,1)] fun h=>
 .ret (h.1,h.2)
noncomputable def czv (c)(d)(e)(f)(g):=
 mkD Tryz.func227 (hze c d e f g) 2 [.view 0 2 d e,pz f,.ptr 1 0,.func 89 [] []] [(0,vecO 2 az5 c 107),(1,.box [pz g])] (fun r=>pz r.1) (fun r=>[(0,vecO 2 az5 c 107),(1,.box [pz r.2])])
noncomputable def jzs (c:Ai)(d:Nat)(e:Nat)(f:Int)(g:Int):T Ah:=let h:=i64.wrap (g-f);let i:=i64.wrap (h.tdiv 4);let j:=i64.wrap (f+(i64.wrap (i * 2)));let k:=i64.wrap (f+(i64.wrap (i * 1)));let l:=i64.wrap (f+(i64.wrap (i * 3)));.ok ((4:Int)≠0) (by decide)<|
 .ok ((4:Int)≠0) (by decide)<|
 .ok ((4:Int)≠0) (by decide)<|
 .cut 0 (fun (m:Ah)=>⟨[(11,.ptr 1 0),(13,pz m.2)],[(0,vecO 2 az5 c 107),(1,.box [pz m.1])],[],2⟩)
 (.br (decide (h≥8))
 (.cut 0 (fun (m:Ba)=>⟨[(0,.view 0 2 d e),(3,.func 89 [] []),(11,.ptr 1 0),(12,pz m.2.1),(13,pz m.2.2.1),(14,pz m.2.2.2)],[(0,vecO 2 az5 c 107),(1,.box [pz m.1])],[],2⟩)
 (.br (decide (h≥50))
 (.call (czv c d e k 0) [(0,0),(1,385)] fun m=>
 .call (czv c d e j m.2) [(0,0),(1,385)] fun n=>
 .call (czv c d e l n.2) [(0,0),(1,385)] fun s=>
 .oo (s.2,m.1,n.1,s.1))
 (.oo (0,k,j,l))) fun m=>
 .call (gz1 c d e m.2.1 m.2.2.1 m.2.2.2 m.1) [(0,0),(1,1)] fun n=>
 .oo (n.2,n.1))
 (.oo (0,j))) fun m=>
 .br (m.1==0)
 (.ret (m.2,1))
 (.br (m.1==12)
 (.ret (m.2,2))
 (.ret (m.2,0)))
noncomputable def jzr (c)(d)(e)(f)(g):=
 mkD Tryz.func189 (jzs c d e f g) 1 [.view 0 2 d e,pz f,pz g,.func 89 [] []] [(0,vecO 2 az5 c 107)] (fun r=>.tup [pz r.1,pz r.2]) (fun _=>[(0,vecO 2 az5 c 107)])
noncomputable def ize (c:Ai)(d:Nat)(e:Nat)(f:Int)(g:Int):T Ai:=
 .loop (fun (h:Av)=>⟨[(0,.view 0 2 d e),(8,pz h.2.1),(9,pz h.2.2)],[(0,vecO 2 az5 h.1 107)],[],1⟩)
 (.exit 0) (fun (h:Ai)=>⟨[],[(0,vecO 2 az5 h 107)],[],1⟩)
 (fun h=>let i:=d+((h.2.2).toNat);let j:=d+((h.2.1).toNat);let k:=h.1.getD i default;let l:=h.1.set j k;let m:=h.1.getD j default;.br (decide (h.2.1<h.2.2))
 (.gh h.2.2 e<|
 .grd (i<h.1.length)<|
 .gh h.2.1 e<|
 .grd (j<h.1.length)<|
 .gh h.2.1 e<|
 .conv 3013 (bzm 2 az5 h.1 107 j k)<|
 .grd (j<h.1.length/\0≤j)<|
 .gh h.2.2 e<|
 .conv 3015 (bzm 2 az5 l 107 i m)<|
 .grd (i<l.length/\0≤i)<|
 .nn ((l.set i m),(i64.wrap (h.2.1+1)),(i64.wrap (h.2.2-1))))
 (.oo h.1))
 (c,f,(i64.wrap (g-1))) [] fun h=>
 .ret h
noncomputable def izd (c)(d)(e)(f)(g):=
 mkD Tryz.func190 (ize c d e f g) 1 [.view 0 2 d e,pz f,pz g,.func 89 [] []] [(0,vecO 2 az5 c 107)] (fun _=>.tup []) (fun r=>[(0,vecO 2 az5 r 107)])
open Go.Proofs
set_option maxHeartbeats 8000000 in
set_option maxRecDepth 20000 in
noncomputable def fzq (c:Ai)(d:Nat)(e:Nat)(f:Int)(g:Int):T (Bool×Ai):=
 .loop (fun (h:Av)=>⟨[(0,.view 0 2 d e),(1,pz f),(2,pz g),(3,.func 89 [] []),(9,pz h.2.1),(10,pz h.2.2)],[(0,vecO 2 az5 h.1 107)],[],1⟩)
 (.exit 0) (fun (h:Ai)=>⟨[],[(0,vecO 2 az5 h 107)],[],1⟩)
 (fun h=>.br (decide (h.2.2<5))
 (.cut 0 (fun (i:Aj)=>⟨[(0,.view 0 2 d e),(1,pz f),(2,pz g),(3,.func 89 [] []),(9,pz i.2),(10,pz h.2.2)],[(0,vecO 2 az5 i.1 107)],[],1⟩)
 (.loop (fun (i:Int)=>⟨[(0,.view 0 2 d e),(1,pz f),(2,pz g),(3,.func 89 [] []),(9,pz i),(10,pz h.2.2)],[(0,vecO 2 az5 h.1 107)],[],1⟩)
 (.exit 2) (fun (i:Int)=>⟨[(0,.view 0 2 d e),(1,pz f),(2,pz g),(3,.func 89 [] []),(9,pz i),(10,pz h.2.2)],[(0,vecO 2 az5 h.1 107)],[],1⟩)
 (fun i=>let j:=d+(i.toNat);let k:=i64.wrap (i-1);let l:=d+(k.toNat);.cut 1 (fun (m:Bool)=>⟨[(0,.view 0 2 d e),(1,pz f),(2,pz g),(3,.func 89 [] []),(9,pz i),(10,pz h.2.2),(36,.pure (.bool m))],[(0,vecO 2 az5 h.1 107)],[],1⟩)
 (.br (decide (i<g))
 (.gh i e<|
 .grd (j<h.1.length)<|
 .gh k e<|
 .grd (l<h.1.length)<|
 .call (bz0 (h.1.getD j default) (h.1.getD l default)) [] fun m=>
 .oo (!(decide (m<0))))
 (.oo false)) fun m=>
 .br m
 (.nn (i64.wrap (i+1)))
 (.oo i))
 h.2.1 [] fun i=>let j:=d+(i.toNat);let k:=i64.wrap (i-1);let l:=d+(k.toNat);let m:=h.1.getD l default;let n:=h.1.set j m;let s:=h.1.getD j default;let t:=n.set l s;
 .br (i==g)
 (.ff (.fin (true,h.1)))
 (.br (decide ((i64.wrap (g-f))<50))
 (.ff (.fin (false,h.1)))
 (.gh k e<|
 .grd (l<h.1.length)<|
 .gh i e<|
 .grd (j<h.1.length)<|
 .gh i e<|
 .conv 11015 (bzm 2 az5 h.1 107 j m)<|
 .grd (j<h.1.length/\0≤j)<|
 .gh k e<|
 .conv 11017 (bzm 2 az5 n 107 l s)<|
 .grd (l<n.length/\0≤l)<|
 .cut 0 (fun (w:Ai)=>⟨[(0,.view 0 2 d e),(1,pz f),(2,pz g),(3,.func 89 [] []),(9,pz i),(10,pz h.2.2)],[(0,vecO 2 az5 w 107)],[],1⟩)
 (.br (decide ((i64.wrap (i-f))≥2))
 (.loop (fun (w:Aj)=>⟨[(0,.view 0 2 d e),(1,pz f),(2,pz g),(3,.func 89 [] []),(9,pz i),(10,pz h.2.2),(11,pz w.2)],[(0,vecO 2 az5 w.1 107)],[],1⟩)
 (.exit 4) (fun (w:Ai)=>⟨[(0,.view 0 2 d e),(1,pz f),(2,pz g),(3,.func 89 [] []),(9,pz i),(10,pz h.2.2)],[(0,vecO 2 az5 w 107)],[],1⟩)
 (fun w=>let y:=d+((w.2).toNat);let z:=i64.wrap (w.2-1);let aa:=d+(z.toNat);let ab:=w.1.getD y default;let ac:=w.1.getD aa default;let ad:=w.1.set y ac;.br (decide (w.2≥1))
 (.gh w.2 e<|
 .grd (y<w.1.length)<|
 .gh z e<|
 .grd (aa<w.1.length)<|
 .call (bz0 ab ac) [] fun ae=>
 .br (!(decide (ae<0)))
 (.oo w.1)
 (.gh z e<|
 .grd (aa<w.1.length)<|
 .gh w.2 e<|
 .grd (y<w.1.length)<|
 .gh w.2 e<|
 .conv 17015 (bzm 2 az5 w.1 107 y ac)<|
 .grd (y<w.1.length/\0≤y)<|
 .gh z e<|
 .conv 17017 (bzm 2 az5 ad 107 aa ab)<|
 .grd (aa<ad.length/\0≤aa)<|
 .nn ((ad.set aa ab),z)))
 (.oo w.1))
 (t,k) [] fun w=>
 .oo w)
 (.oo t)) fun w=>
 .br (decide ((i64.wrap (g-i))≥2))
 (.loop (fun (y:Aj)=>⟨[(0,.view 0 2 d e),(1,pz f),(2,pz g),(3,.func 89 [] []),(9,pz i),(10,pz h.2.2),(12,pz y.2)],[(0,vecO 2 az5 y.1 107)],[],1⟩)
 (.exit 6) (fun (y:Ai)=>⟨[(0,.view 0 2 d e),(1,pz f),(2,pz g),(3,.func 89 [] []),(9,pz i),(10,pz h.2.2)],[(0,vecO 2 az5 y 107)],[],1⟩)
 (fun y=>let z:=d+((y.2).toNat);let aa:=i64.wrap (y.2-1);let ab:=d+(aa.toNat);let ac:=y.1.getD z default;let ad:=y.1.getD ab default;let ae:=y.1.set z ad;.br (decide (y.2<g))
 (.gh y.2 e<|
 .grd (z<y.1.length)<|
 .gh aa e<|
 .grd (ab<y.1.length)<|
 .call (bz0 ac ad) [] fun af=>
 .br (!(decide (af<0)))
 (.oo y.1)
 (.gh aa e<|
 .grd (ab<y.1.length)<|
 .gh y.2 e<|
 .grd (z<y.1.length)<|
 .gh y.2 e<|
 .conv 23015 (bzm 2 az5 y.1 107 z ad)<|
 .grd (z<y.1.length/\0≤z)<|
 .gh aa e<|
 .conv 23017 (bzm 2 az5 ae 107 ab ac)<|
 .grd (ab<ae.length/\0≤ab)<|
 .nn ((ae.set ab ac),(i64.wrap (y.2+1)))))
 (.oo y.1))
 (w,(i64.wrap (i+1))) [] fun y=>
 .oo (y,i))
 (.oo (w,i))))) fun i=>
 .nn (i.1,i.2,(i64.wrap (h.2.2+1))))
 (.oo h.1))
 (c,(i64.wrap (f+1)),0) [] fun h=>
 .ret (false,h)
noncomputable def fzp (c)(d)(e)(f)(g):=
 mkD Tryz.func191 (fzq c d e f g) 1 [.view 0 2 d e,pz f,pz g,.func 89 [] []] [(0,vecO 2 az5 c 107)] (fun r=>.pure (.bool r.1)) (fun r=>[(0,vecO 2 az5 r.2 107)])
noncomputable def hzg (c:Ai)(d:Nat)(e:Nat)(f:Int)(g:Int)(h:Int):T (Int×Ai):=let i:=d+(h.toNat);let j:=d+(f.toNat);let k:=c.getD i default;let l:=c.set j k;let m:=c.getD j default;.gh h e<|
 .grd (i<c.length)<|
 .gh f e<|
 .grd (j<c.length)<|
 .gh f e<|
 .conv 1013 (bzm 2 az5 c 107 j k)<|
 .grd (j<c.length/\0≤j)<|
 .gh h e<|
 .conv 1015 (bzm 2 az5 l 107 i m)<|
 .grd (i<l.length/\0≤i)<|
 .loop (fun (n:Av)=>⟨[(0,.view 0 2 d e),(1,pz f),(4,.func 89 [] []),(11,pz n.2.1),(12,pz n.2.2)],[(0,vecO 2 az5 n.1 107)],[],1⟩)
 (.exit 0) (fun (n:(Int×Ai))=>⟨[(11,pz n.1)],[(0,vecO 2 az5 n.2 107)],[],1⟩)
 (fun n=>let s:=n.1.getD j default;.loop (fun (t:Int)=>⟨[(0,.view 0 2 d e),(1,pz f),(4,.func 89 [] []),(11,pz t),(12,pz n.2.2)],[(0,vecO 2 az5 n.1 107)],[],1⟩)
 (.exit 2) (fun (t:Int)=>⟨[(0,.view 0 2 d e),(1,pz f),(4,.func 89 [] []),(11,pz t),(12,pz n.2.2)],[(0,vecO 2 az5 n.1 107)],[],1⟩)
 (fun t=>let w:=d+(t.toNat);.cut 1 (fun (y:Bool)=>⟨[(0,.view 0 2 d e),(1,pz f),(4,.func 89 [] []),(11,pz t),(12,pz n.2.2),(47,.pure (.bool y))],[(0,vecO 2 az5 n.1 107)],[],1⟩)
 (.br (decide (t≤n.2.2))
 (.gh f e<|
 .grd (j<n.1.length)<|
 .gh t e<|
 .grd (w<n.1.length)<|
 .cc (bz0 s (n.1.getD w default)) fun y=>
 .oo (!(decide (y<0))))
 (.oo false)) fun y=>
 .br y
 (.nn (i64.wrap (t+1)))
 (.oo t))
 n.2.1 [] fun t=>let w:=d+(t.toNat);let y:=n.1.getD w default;
 .loop (fun (z:Int)=>⟨[(0,.view 0 2 d e),(1,pz f),(4,.func 89 [] []),(11,pz t),(12,pz z)],[(0,vecO 2 az5 n.1 107)],[],1⟩)
 (.exit 4) (fun (z:Int)=>⟨[(0,.view 0 2 d e),(1,pz f),(4,.func 89 [] []),(11,pz t),(12,pz z)],[(0,vecO 2 az5 n.1 107)],[],1⟩)
 (fun z=>let aa:=d+(z.toNat);.cut 1 (fun (ab:Bool)=>⟨[(0,.view 0 2 d e),(1,pz f),(4,.func 89 [] []),(11,pz t),(12,pz z),(65,.pure (.bool ab))],[(0,vecO 2 az5 n.1 107)],[],1⟩)
 (.br (decide (t≤z))
 (.gh f e<|
 .grd (j<n.1.length)<|
 .gh z e<|
 .grd (aa<n.1.length)<|
 .cc (bz0 s (n.1.getD aa default)) fun ab=>
 .oo (decide (ab<0)))
 (.oo false)) fun ab=>
 .br ab
 (.nn (i64.wrap (z-1)))
 (.oo z))
 n.2.2 [] fun z=>let aa:=d+(z.toNat);let ab:=n.1.getD aa default;let ac:=n.1.set w ab;
 .br (decide (t>z))
 (.oo (t,n.1))
 (.gh z e<|
 .grd (aa<n.1.length)<|
 .gh t e<|
 .grd (w<n.1.length)<|
 .gh t e<|
 .conv 8013 (bzm 2 az5 n.1 107 w ab)<|
 .grd (w<n.1.length/\0≤w)<|
 .gh z e<|
 .conv 8015 (bzm 2 az5 ac 107 aa y)<|
 .grd (aa<ac.length/\0≤aa)<|
 .nn ((ac.set aa y),(i64.wrap (t+1)),(i64.wrap (z-1)))))
 ((l.set i m),(i64.wrap (f+1)),(i64.wrap (g-1))) [] fun n=>
 .ret (n.1,n.2)
noncomputable def hzf (c)(d)(e)(f)(g)(h):=
 mkD Tryz.func192 (hzg c d e f g h) 1 [.view 0 2 d e,pz f,pz g,pz h,.func 89 [] []] [(0,vecO 2 az5 c 107)] (fun r=>pz r.1) (fun r=>[(0,vecO 2 az5 r.2 107)])
set_option maxHeartbeats 8000000 in
set_option maxRecDepth 20000 in
noncomputable def kzy (c:Ai)(d:Nat)(e:Nat)(f:Int)(g:Int)(h:Int):T (Int×Bool×Ai):=let i:=d+(h.toNat);let j:=d+(f.toNat);let k:=c.getD i default;let l:=c.set j k;let m:=c.getD j default;let n:=l.set i m;let s:=n.getD j default;let t:=i64.wrap (g-1);.gh h e<|
 .grd (i<c.length)<|
 .gh f e<|
 .grd (j<c.length)<|
 .gh f e<|
 .conv 1013 (bzm 2 az5 c 107 j k)<|
 .grd (j<c.length/\0≤j)<|
 .gh h e<|
 .conv 1015 (bzm 2 az5 l 107 i m)<|
 .grd (i<l.length/\0≤i)<|
 .loop (fun (w:Int)=>⟨[(0,.view 0 2 d e),(1,pz f),(4,.func 89 [] []),(12,pz w),(13,pz t)],[(0,vecO 2 az5 n 107)],[],1⟩)
 (.exit 0) (fun (w:Int)=>⟨[(0,.view 0 2 d e),(1,pz f),(4,.func 89 [] []),(12,pz w),(13,pz t)],[(0,vecO 2 az5 n 107)],[],1⟩)
 (fun w=>let y:=d+(w.toNat);.cut 1 (fun (z:Bool)=>⟨[(0,.view 0 2 d e),(1,pz f),(4,.func 89 [] []),(12,pz w),(13,pz t),(47,.pure (.bool z))],[(0,vecO 2 az5 n 107)],[],1⟩)
 (.br (decide (w≤t))
 (.gh w e<|
 .grd (y<n.length)<|
 .gh f e<|
 .grd (j<n.length)<|
 .call (bz0 (n.getD y default) s) [] fun z=>
 .oo (decide (z<0)))
 (.oo false)) fun z=>
 .br z
 (.nn (i64.wrap (w+1)))
 (.oo w))
 (i64.wrap (f+1)) [] fun w=>let y:=d+(w.toNat);let z:=n.getD y default;
 .loop (fun (aa:Int)=>⟨[(0,.view 0 2 d e),(1,pz f),(4,.func 89 [] []),(12,pz w),(13,pz aa)],[(0,vecO 2 az5 n 107)],[],1⟩)
 (.exit 2) (fun (aa:Int)=>⟨[(0,.view 0 2 d e),(1,pz f),(4,.func 89 [] []),(12,pz w),(13,pz aa)],[(0,vecO 2 az5 n 107)],[],1⟩)
 (fun aa=>let ab:=d+(aa.toNat);.cut 1 (fun (ac:Bool)=>⟨[(0,.view 0 2 d e),(1,pz f),(4,.func 89 [] []),(12,pz w),(13,pz aa),(66,.pure (.bool ac))],[(0,vecO 2 az5 n 107)],[],1⟩)
 (.br (decide (w≤aa))
 (.gh aa e<|
 .grd (ab<n.length)<|
 .gh f e<|
 .grd (j<n.length)<|
 .call (bz0 (n.getD ab default) s) [] fun ac=>
 .oo (!(decide (ac<0))))
 (.oo false)) fun ac=>
 .br ac
 (.nn (i64.wrap (aa-1)))
 (.oo aa))
 t [] fun aa=>let ab:=d+(aa.toNat);let ac:=n.set ab s;let ad:=n.getD ab default;let ae:=n.set y ad;
 .br (decide (w>aa))
 (.gh f e<|
 .grd (j<n.length)<|
 .gh aa e<|
 .grd (ab<n.length)<|
 .gh aa e<|
 .conv 8013 (bzm 2 az5 n 107 ab s)<|
 .grd (ab<n.length/\0≤ab)<|
 .gh f e<|
 .conv 8015 (bzm 2 az5 ac 107 j ad)<|
 .grd (j<ac.length/\0≤j)<|
 .ret (aa,true,(ac.set j ad)))
 (.gh aa e<|
 .grd (ab<n.length)<|
 .gh w e<|
 .grd (y<n.length)<|
 .gh w e<|
 .conv 10013 (bzm 2 az5 n 107 y ad)<|
 .grd (y<n.length/\0≤y)<|
 .gh aa e<|
 .conv 10015 (bzm 2 az5 ae 107 ab z)<|
 .grd (ab<ae.length/\0≤ab)<|
 .loop (fun (af:Av)=>⟨[(0,.view 0 2 d e),(1,pz f),(4,.func 89 [] []),(12,pz af.2.1),(13,pz af.2.2)],[(0,vecO 2 az5 af.1 107)],[],1⟩)
 (.exit 4) (fun (af:Aj)=>⟨[(0,.view 0 2 d e),(1,pz f),(13,pz af.2)],[(0,vecO 2 az5 af.1 107)],[],1⟩)
 (fun af=>let ag:=af.1.getD j default;.loop (fun (ah:Int)=>⟨[(0,.view 0 2 d e),(1,pz f),(4,.func 89 [] []),(12,pz ah),(13,pz af.2.2)],[(0,vecO 2 az5 af.1 107)],[],1⟩)
 (.exit 6) (fun (ah:Int)=>⟨[(0,.view 0 2 d e),(1,pz f),(4,.func 89 [] []),(12,pz ah),(13,pz af.2.2)],[(0,vecO 2 az5 af.1 107)],[],1⟩)
 (fun ah=>let ai:=d+(ah.toNat);.cut 1 (fun (aj:Bool)=>⟨[(0,.view 0 2 d e),(1,pz f),(4,.func 89 [] []),(12,pz ah),(13,pz af.2.2),(120,.pure (.bool aj))],[(0,vecO 2 az5 af.1 107)],[],1⟩)
 (.br (decide (ah≤af.2.2))
 (.gh ah e<|
 .grd (ai<af.1.length)<|
 .gh f e<|
 .grd (j<af.1.length)<|
 .cc (bz0 (af.1.getD ai default) ag) fun aj=>
 .oo (decide (aj<0)))
 (.oo false)) fun aj=>
 .br aj
 (.nn (i64.wrap (ah+1)))
 (.oo ah))
 af.2.1 [] fun ah=>let ai:=d+(ah.toNat);let aj:=af.1.getD ai default;
 .loop (fun (ak:Int)=>⟨[(0,.view 0 2 d e),(1,pz f),(4,.func 89 [] []),(12,pz ah),(13,pz ak)],[(0,vecO 2 az5 af.1 107)],[],1⟩)
 (.exit 8) (fun (ak:Int)=>⟨[(0,.view 0 2 d e),(1,pz f),(4,.func 89 [] []),(12,pz ah),(13,pz ak)],[(0,vecO 2 az5 af.1 107)],[],1⟩)
 (fun ak=>let al:=d+(ak.toNat);.cut 1 (fun (am:Bool)=>⟨[(0,.view 0 2 d e),(1,pz f),(4,.func 89 [] []),(12,pz ah),(13,pz ak),(139,.pure (.bool am))],[(0,vecO 2 az5 af.1 107)],[],1⟩)
 (.br (decide (ah≤ak))
 (.gh ak e<|
 .grd (al<af.1.length)<|
 .gh f e<|
 .grd (j<af.1.length)<|
 .cc (bz0 (af.1.getD al default) ag) fun am=>
 .oo (!(decide (am<0))))
 (.oo false)) fun am=>
 .br am
 (.nn (i64.wrap (ak-1)))
 (.oo ak))
 af.2.2 [] fun ak=>let al:=d+(ak.toNat);let am:=af.1.getD al default;let an:=af.1.set ai am;
 .br (decide (ah>ak))
 (.oo (af.1,ak))
 (.gh ak e<|
 .grd (al<af.1.length)<|
 .gh ah e<|
 .grd (ai<af.1.length)<|
 .gh ah e<|
 .conv 18013 (bzm 2 az5 af.1 107 ai am)<|
 .grd (ai<af.1.length/\0≤ai)<|
 .gh ak e<|
 .conv 18015 (bzm 2 az5 an 107 al aj)<|
 .grd (al<an.length/\0≤al)<|
 .nn ((an.set al aj),(i64.wrap (ah+1)),(i64.wrap (ak-1)))))
 ((ae.set ab z),(i64.wrap (w+1)),(i64.wrap (aa-1))) [] fun af=>let ag:=d+((af.2).toNat);let ah:=af.1.getD j default;let ai:=af.1.set ag ah;let aj:=af.1.getD ag default;
 .gh f e<|
 .grd (j<af.1.length)<|
 .gh af.2 e<|
 .grd (ag<af.1.length)<|
 .gh af.2 e<|
 .conv 21013 (bzm 2 az5 af.1 107 ag ah)<|
 .grd (ag<af.1.length/\0≤ag)<|
 .gh f e<|
 .conv 21015 (bzm 2 az5 ai 107 j aj)<|
 .grd (j<ai.length/\0≤j)<|
 .ret (af.2,false,(ai.set j aj)))
noncomputable def kzx (c)(d)(e)(f)(g)(h):=
 mkD Tryz.func193 (kzy c d e f g h) 1 [.view 0 2 d e,pz f,pz g,pz h,.func 89 [] []] [(0,vecO 2 az5 c 107)] (fun r=>.tup [pz r.1,.pure (.bool r.2.1)]) (fun r=>[(0,vecO 2 az5 r.2.2 107)])
noncomputable def iz3 (c:Ai)(d:Nat)(e:Nat)(f:Int)(g:Int):T Ai:=let h:=i64.wrap (g-f);let i:=i64.wrap (f+(i64.wrap ((i64.wrap (h.tdiv 4)) * 2)));.br (decide (h≥8))
 (.cc (jzv h) fun j=>
 .ok ((4:Int)≠0) (by decide)<|
 .name 4005 ((i64.wrap (i-1))) fun k=>
 .loop (fun (l:Av)=>⟨[(0,.view 0 2 d e),(1,pz f),(8,pz h),(9,.ptr 1 0),(10,.pure (.int .u64 j)),(11,pz l.2.2)],[(0,vecO 2 az5 l.1 107),(1,.box [.pure (.int .u64 l.2.1)])],[],2⟩)
 (.exit 0) (fun (l:Ai)=>⟨[],[(0,vecO 2 az5 l 107)],[],1⟩)
 (fun l=>let m:=d+((l.2.2).toNat);let n:=l.1.getD m default;.ok ((4:Int)≠0) (by decide)<|
 .name 5006 ((i64.wrap (i+1))) fun s=>
 .br (decide (l.2.2≤s))
 (.call (yza l.2.1) [(0,1)] fun t=>
 .name 7004 ((i64.wrap (IntKind.u64.wrap (((BitVec.ofInt 64 t.1&&&BitVec.ofInt 64 (IntKind.u64.wrap (j-1))).toNat:Int))))) fun w=>
 .cut 0 (fun (y:Int)=>⟨[(0,.view 0 2 d e),(1,pz f),(8,pz h),(9,.ptr 1 0),(10,.pure (.int .u64 j)),(11,pz l.2.2),(12,pz y)],[(0,vecO 2 az5 l.1 107),(1,.box [.pure (.int .u64 t.2)])],[],2⟩)
 (.br (decide (w≥h))
 (.oo (i64.wrap (w-h)))
 (.oo w)) fun y=>let z:=i64.wrap (f+y);let aa:=d+(z.toNat);let ab:=l.1.getD aa default;let ac:=l.1.set m ab;
 .gh z e<|
 .grd (aa<l.1.length)<|
 .gh l.2.2 e<|
 .grd (m<l.1.length)<|
 .gh l.2.2 e<|
 .conv 10017 (bzm 2 az5 l.1 107 m ab)<|
 .grd (m<l.1.length/\0≤m)<|
 .gh z e<|
 .conv 10019 (bzm 2 az5 ac 107 aa n)<|
 .grd (aa<ac.length/\0≤aa)<|
 .nn ((ac.set aa n),t.2,(i64.wrap (l.2.2+1))))
 (.oo l.1))
 (c,(IntKind.u64.wrap h),k) [] fun l=>
 .ret l)
 (.ret c)
noncomputable def iz2 (c)(d)(e)(f)(g):=
 mkD Tryz.func188 (iz3 c d e f g) 1 [.view 0 2 d e,pz f,pz g,.func 89 [] []] [(0,vecO 2 az5 c 107)] (fun _=>.tup []) (fun r=>[(0,vecO 2 az5 r 107)])
abbrev ez1:=RecS Tryz.prog 148 1 (Ai×Nat×Nat×Int×Int×Int) Ai (fun a=>[.view 0 2 a.2.1 a.2.2.1,pz a.2.2.2.1,pz a.2.2.2.2.1,pz a.2.2.2.2.2,.func 89 [] []]) (fun a=>[(0,vecO 2 az5 a.1 107)]) (fun _ _=>.tup []) (fun _ r=>[(0,vecO 2 az5 r 107)])
noncomputable def mzy (rec:ez1)(c:Ai)(d:Nat)(e:Nat)(f:Int)(g:Int)(h:Int):T Ai:=
 .loop (fun (i:(Ai×Int×Int×Int×Bool×Bool))=>⟨[(0,.view 0 2 d e),(1,pz i.2.1),(2,pz i.2.2.1),(3,pz i.2.2.2.1),(4,.func 89 [] []),(10,.pure (.bool i.2.2.2.2.1)),(11,.pure (.bool i.2.2.2.2.2))],[(0,vecO 2 az5 i.1 107)],[],1⟩)
 .ret (fun (_:U0)=>⟨[],[],[],1⟩)
 (fun i=>let j:=i64.wrap (i.2.2.1-i.2.1);let k:=i64.wrap (i.2.1-1);let l:=d+(k.toNat);let m:=i64.wrap (j.tdiv 8);.br (decide (j≤12))
 (.call (iz4 i.1 d e i.2.1 i.2.2.1) [(0,0)] fun n=>
 .ff n)
 (.br (i.2.2.2.1==0)
 (.call (lzt i.1 d e i.2.1 i.2.2.1) [(0,0)] fun n=>
 .ff n)
 (.cut 0 (fun (n:Aj)=>⟨[(0,.view 0 2 d e),(1,pz i.2.1),(2,pz i.2.2.1),(3,pz n.2),(4,.func 89 [] []),(10,.pure (.bool i.2.2.2.2.1)),(11,.pure (.bool i.2.2.2.2.2)),(12,pz j)],[(0,vecO 2 az5 n.1 107)],[],1⟩)
 (.br (!i.2.2.2.2.1)
 (.call (iz2 i.1 d e i.2.1 i.2.2.1) [(0,0)] fun n=>
 .oo (n,(i64.wrap (i.2.2.2.1-1))))
 (.oo (i.1,i.2.2.2.1))) fun n=>
 .call (jzr n.1 d e i.2.1 i.2.2.1) [(0,0)] fun s=>
 .cut 0 (fun (t:Av)=>⟨[(0,.view 0 2 d e),(1,pz i.2.1),(2,pz i.2.2.1),(3,pz n.2),(4,.func 89 [] []),(10,.pure (.bool i.2.2.2.2.1)),(11,.pure (.bool i.2.2.2.2.2)),(12,pz j),(13,pz t.2.1),(14,pz t.2.2)],[(0,vecO 2 az5 t.1 107)],[],1⟩)
 (.br (s.2==2)
 (.call (izd n.1 d e i.2.1 i.2.2.1) [(0,0)] fun t=>
 .oo (t,(i64.wrap ((i64.wrap (i.2.2.1-1))- (i64.wrap (s.1-i.2.1)))),1))
 (.oo (n.1,s.1,s.2))) fun t=>let w:=(t.2.1).toNat;
 .cut 0 (fun (y:Ai)=>⟨[(0,.view 0 2 d e),(1,pz i.2.1),(2,pz i.2.2.1),(3,pz n.2),(4,.func 89 [] []),(10,.pure (.bool i.2.2.2.2.1)),(11,.pure (.bool i.2.2.2.2.2)),(12,pz j),(13,pz t.2.1)],[(0,vecO 2 az5 y 107)],[],1⟩)
 (.cut 0 (fun (y:Bool)=>⟨[(0,.view 0 2 d e),(1,pz i.2.1),(2,pz i.2.2.1),(3,pz n.2),(4,.func 89 [] []),(10,.pure (.bool i.2.2.2.2.1)),(11,.pure (.bool i.2.2.2.2.2)),(12,pz j),(13,pz t.2.1),(75,.pure (.bool y))],[(0,vecO 2 az5 t.1 107)],[],1⟩)
 (.br i.2.2.2.2.1
 (.br i.2.2.2.2.2
 (.oo (t.2.2==1))
 (.oo false))
 (.oo false)) fun y=>
 .br y
 (.call (fzp t.1 d e i.2.1 i.2.2.1) [(0,0)] fun z=>
 .br z.1
 (.ff (.fin z.2))
 (.oo z.2))
 (.oo t.1)) fun y=>
 .cut 1 (fun (z:Bool)=>⟨[(0,.view 0 2 d e),(1,pz i.2.1),(2,pz i.2.2.1),(3,pz n.2),(4,.func 89 [] []),(10,.pure (.bool i.2.2.2.2.1)),(11,.pure (.bool i.2.2.2.2.2)),(12,pz j),(13,pz t.2.1),(97,.pure (.bool z))],[(0,vecO 2 az5 y 107)],[],1⟩)
 (.br (decide (i.2.1>0))
 (.gh k e<|
 .grd (l<y.length)<|
 .gh t.2.1 e<|
 .grd ((d+w)<y.length)<|
 .call (bz0 (y.getD l default) (y.getD (d+w) default)) [] fun z=>
 .oo (!(decide (z<0))))
 (.oo false)) fun z=>
 .br z
 (.call (hzf y d e i.2.1 i.2.2.1 t.2.1) [(0,0)] fun aa=>
 .nn (aa.2,aa.1,i.2.2.1,n.2,i.2.2.2.2.1,i.2.2.2.2.2))
 (.call (kzx y d e i.2.1 i.2.2.1 t.2.1) [(0,0)] fun aa=>let ab:=i64.wrap (aa.1-i.2.1);let ac:=i64.wrap (i.2.2.1-aa.1);let ad:=i64.wrap (aa.1+1);
 .ok ((8:Int)≠0) (by decide)<|
 .br (decide (ab<ac))
 (.call (rec.C (aa.2.2,d,e,i.2.1,aa.1,n.2)) [(0,0)] fun ae=>
 .nn (ae,ad,i.2.2.1,n.2,(decide (ab≥m)),aa.2.1))
 (.call (rec.C (aa.2.2,d,e,ad,i.2.2.1,n.2)) [(0,0)] fun ae=>
 .nn (ae,i.2.1,aa.1,n.2,(decide (ac≥m)),aa.2.1))))))
 (c,f,g,h,true,true) [] fun _=>
 .stop
noncomputable def mzx:ez1->ez1:=RecS.next [] hd Tryz.func148 (by kernel_rfl) (fun rec a=>mzy rec a.1 a.2.1 a.2.2.1 a.2.2.2.1 a.2.2.2.2.1 a.2.2.2.2.2) (fun rec a=>by kernel_rfl)
noncomputable def mzw (a0:Ai)(a1:Nat)(a2:Nat)(a3:Int)(a4:Int)(a5:Int):CallS Ai:=(RecS.fix mzx NN).C (a0,a1,a2,a3,a4,a5)
noncomputable def mzt (c:Ai)(d:Nat)(e:Nat):T Ai:=let f:=(e:Int);.cc (ozj (IntKind.u64.wrap f)) fun g=>
 .call (mzw c d e 0 f g) [(0,0)] fun h=>
 .ret h
noncomputable def mzs (c)(d)(e):=
 mkD Tryz.func88 (mzt c d e) 1 [.view 0 2 d e,.func 89 [] []] [(0,vecO 2 az5 c 107)] (fun _=>.tup []) (fun r=>[(0,vecO 2 az5 r 107)])
set_option maxHeartbeats 8000000 in
set_option maxRecDepth 20000 in
noncomputable def Bzg (c:azf)(d:A1)(e:Int):T Ai:=let f:=(d.length:Int);let g:=encL 1 (encL 1 az1) d;let h:Nat×Res:=(0,.box [.pure (encL 12 az9 c.Joints),.pure (encL 5 aze c.Masses)]);.cc (Gz9 d) fun i=>let j:=encL 4 azp i;
 .loop (fun (k:(Ai×Al×Int))=>⟨[(1,.pure g),(2,pz e),(3,.ptr 0 0),(7,.vec 1),(8,.map 2),(9,.pure j),(18,.pure g),(19,pz f),(20,pz k.2.2)],[h,(1,vecO 2 az5 k.1 107),(2,Fzf [.int .i64 0,.int .i64 0] cza k.2.1)],[],3⟩)
 (.exit 0) (fun (k:Ai)=>⟨[(7,.vec 0)],[(0,vecO 2 az5 k 107)],[],1⟩)
 (fun k=>.br (decide (k.2.2<f))
 (.gh k.2.2 d.length<|
 .call (Cza (⟨c.Joints,c.Masses⟩:azf) d i (d.getD ((k.2.2).toNat) default) (i64.wrap ((min e f)+1))) [] fun l=>let m:=encL 1 az1 l;let n:=(l.length:Int);
 .loop (fun (s:(Ai×Al×Int))=>⟨[(1,.pure g),(2,pz e),(3,.ptr 0 0),(7,.vec 1),(8,.map 2),(9,.pure j),(10,pz k.2.2),(18,.pure g),(19,pz f),(20,pz k.2.2),(34,.pure m),(35,pz n),(36,pz s.2.2)],[h,(1,vecO 2 az5 s.1 107),(2,Fzf [.int .i64 0,.int .i64 0] cza s.2.1)],[],3⟩)
 (.exit 2) (fun (s:(Ai×Al))=>⟨[(1,.pure g),(2,pz e),(3,.ptr 0 0),(7,.vec 1),(8,.map 2),(9,.pure j),(18,.pure g),(19,pz f),(20,pz k.2.2)],[h,(1,vecO 2 az5 s.1 107),(2,Fzf [.int .i64 0,.int .i64 0] cza s.2)],[],3⟩)
 (fun s=>let t:=l.getD ((s.2.2).toNat) default;let w:=min k.2.2 t;let y:=max k.2.2 t;let z:=cza (w,y);let aa:=Azu cza s.2.1 z;let ab:=([(w,y)]:Ai);let ac:=s.1.length+ab.length;.br (decide (s.2.2<n))
 (.cut 0 (fun (ad:(Ai×Al))=>⟨[(1,.pure g),(2,pz e),(3,.ptr 0 0),(7,.vec 1),(8,.map 2),(9,.pure j),(10,pz k.2.2),(18,.pure g),(19,pz f),(20,pz k.2.2),(34,.pure m),(35,pz n),(36,pz s.2.2)],[h,(1,vecO 2 az5 ad.1 107),(2,Fzf [.int .i64 0,.int .i64 0] cza ad.2)],[],3⟩)
 (.gh s.2.2 l.length<|
 .cut 1 (fun (ad:Bool)=>⟨[(1,.pure g),(2,pz e),(3,.ptr 0 0),(7,.vec 1),(8,.map 2),(9,.pure j),(10,pz k.2.2),(14,.ptr 3 0),(18,.pure g),(19,pz f),(20,pz k.2.2),(34,.pure m),(35,pz n),(36,pz s.2.2),(55,.pure (.bool ad))],[h,(1,vecO 2 az5 s.1 107),(2,Fzf [.int .i64 0,.int .i64 0] cza s.2.1),(3,.box [pz w,pz y])],[],4⟩)
 (.br (k.2.2 !=t)
 (.ok ((mdom cza s.2.1 z)=false->PVal.bool aa=.bool false) Vzv<|
 .oo (!aa))
 (.oo false)) fun ad=>
 .br ad
 (.conv 12002 (Zzw [.int .i64 0,.int .i64 0] cza s.2.1 (w,y) true)<|
 .conv 13002 (czk 2 az5 ab 107)<|
 .conv 13003 (ez5 2 az5 s.1 ab 107)<|
 .grd (ac * 16≤140737488355328/\ac≤maxLen)<|
 .oo ((s.1++ab),(((w,y),true)::s.2.1)))
 (.oo (s.1,s.2.1))) fun ad=>
 .nn (ad.1,ad.2,(i64.wrap (s.2.2+1))))
 (.oo (s.1,s.2.1)))
 (k.1,k.2.1,0) [] fun s=>
 .nn (s.1,s.2,(i64.wrap (k.2.2+1))))
 (.oo k.1))
 (nl,(nl:List (Ah×Bool)),0) [] fun k=>
 .call (mzs k 0 k.length) [(0,0)] fun l=>
 .ret l
noncomputable def Bzf (c)(d)(e):=
 mkD Tryz.func48 (Bzg c d e) 0 [.pure (bzg c),.pure (encL 1 (encL 1 az1) d),pz e] [] (fun r=>.pure (encL 2 az5 r)) (fun _=>[])
noncomputable def mz5 (c:Int):T Bool:=
 .br (decide (c<(-2147483648)))
 (.ret true)
 (.ret (decide (c>2147483648)))
noncomputable def vz1 (c):=
 mkD Tryz.func197 (mz5 c) 0 [pz c] [] (fun r=>.pure (.bool r)) (fun _=>[])
noncomputable def dzv (c:A0):T Int:=let d:=(c.length:Nat);.loop (fun (e:Int)=>⟨[(0,.pure (encL 1 az1 c)),(1,.func 197 [] []),(7,pz (d:Int)),(8,pz e)],[],[],0⟩)
 (.exit 0) (fun (_:U0)=>⟨[],[],[],0⟩)
 (fun e=>.br (decide (e<(d:Int)))
 (.gh e c.length<|
 .cc (vz1 (c.getD (e.toNat) default)) fun f=>
 .br f
 (.ff e)
 (.nn (i64.wrap (e+1))))
 (.oo .u))
 0 [] fun _=>
 .ret (-1)
noncomputable def fzg (c):=
 mkD Tryz.func229 (dzv c) 0 [.pure (encL 1 az1 c),.func 197 [] []] [] (fun r=>pz r) (fun _=>[])
noncomputable def dze (c:A0):T Bool:=
 .cc (fzg c) fun d=>
 .ret (decide (d≥0))
noncomputable def ezx (c):=
 mkD Tryz.func196 (dze c) 0 [.pure (encL 1 az1 c),.func 197 [] []] [] (fun r=>.pure (.bool r)) (fun _=>[])
noncomputable def qzo (c:A0):T Bool:=
 .cc (ezx c) fun d=>
 .ret (!d)
noncomputable def hz3 (c):=
 mkD Tryz.func150 (qzo c) 0 [.pure (encL 1 az1 c)] [] (fun r=>.pure (.bool r)) (fun _=>[])
noncomputable def kz7 (c:azf)(d:A0)(e:A0):T Int:=let f:=encL 1 az1 d;let g:=encL 1 az1 e;let h:=encL 12 az9 c.Joints;let i:=(c.Joints.length:Int);.cut 3 (fun (j:Bool)=>⟨[(1,.pure f),(2,.pure g),(3,.ptr 0 0),(38,.pure (.bool j))],[(0,.box [.pure h,.pure (encL 5 aze c.Masses)])],[],1⟩)
 (.br ((d.length:Int) !=i)
 (.oo true)
 (.br ((e.length:Int) !=i)
 (.oo true)
 (.cc (hz3 d) fun j=>
 .br (!j)
 (.oo true)
 (.cc (hz3 e) fun k=>
 .br (!k)
 (.oo true)
 (.cc (fzj (⟨c.Joints,c.Masses⟩:azf)) fun l=>
 .oo (l !=0)))))) fun j=>
 .br j
 (.ret 0)
 (.loop (fun (k:Ah)=>⟨[(1,.pure f),(2,.pure g),(8,pz k.1),(40,.pure h),(41,pz i),(42,pz k.2)],[],[],0⟩)
 (.exit 0) (fun (k:Int)=>⟨[(8,pz k)],[],[],0⟩)
 (fun k=>let l:=(k.2).toNat;let m:=e.getD l default;let n:=d.getD l default;.br (decide (k.2<i))
 (.gh k.2 c.Joints.length<|
 .gh k.2 e.length<|
 .gh k.2 d.length<|
 .gh k.2 d.length<|
 .gh k.2 e.length<|
 .name 8021 ((max (i64.wrap (m-n)) (i64.wrap (n-m)))) fun s=>
 .nn ((i64.wrap (k.1+(i64.wrap (((c.Joints.getD l default).Weight) * s)))),(i64.wrap (k.2+1))))
 (.oo k.1))
 (0,0) [] fun k=>
 .ret k)
noncomputable def kz6 (c)(d)(e):=
 mkD Tryz.func91 (kz7 c d e) 0 [.pure (bzg c),.pure (encL 1 az1 d),.pure (encL 1 az1 e)] [] (fun r=>pz r) (fun _=>[])
noncomputable def Dz9 (c:azf)(d:A1)(e:Int)(f:Int):T az4:=
 .gh e d.length<|
 .gh f d.length<|
 .cc (kz6 (⟨c.Joints,c.Masses⟩:azf) (d.getD (e.toNat) default) (d.getD (f.toNat) default)) fun g=>
 .ret (⟨e,f,g,0,(⟨0,nl,(⟨0,0,nl⟩:azh),(⟨0,nl,nl⟩:azu)⟩:azg)⟩:az4)
noncomputable def Dz8 (c)(d)(e)(f):=
 mkD Tryz.func49 (Dz9 c d e f) 0 [.pure (bzg c),.pure (encL 1 (encL 1 az1) d),pz e,pz f] [] (fun r=>.pure (az6 r)) (fun _=>[])
noncomputable def Nz4 (c:azf)(d:A1)(e:Int):T azk:=let f:=(⟨c.Joints,c.Masses⟩:azf);.cc (fzj f) fun g=>
 .br (g !=0)
 (.ret (⟨nl,nl⟩:azk))
 (.cc (jzg f d) fun h=>let i:=encL 1 (encL 1 az1) h;
 .br (decide (e<1))
 (.ret (⟨h,nl⟩:azk))
 (.cc (Bzf f h e) fun j=>let k:=(j.length:Int);let l:=min k 8192;let m:=(j.drop ((0:Int).toNat)).take (l.toNat- (0:Int).toNat);
 .conv 8004 (Uzr 2 az5 j (0:Int) l)<|
 .grd (0≤(0:Int)/\(0:Int)≤l/\l≤k)<|
 .name 8005 ((m.length:Int)) fun n=>
 .loop (fun (s:A8)=>⟨[(3,.ptr 0 0),(6,.ptr 1 0),(31,.pure (encL 2 az5 m)),(32,pz n),(33,pz s.2)],[(0,.box [.pure (encL 12 az9 c.Joints),.pure (encL 5 aze c.Masses)]),(1,.box [.pure i,.vec 2]),(2,vecO 12 az6 s.1 49)],[.func 45 [] [.ptr 1 0]],3⟩)
 (.exit 0) (fun (s:A7)=>⟨[(6,.ptr 0 0)],[(0,.box [.pure i,.vec 1]),(1,vecO 12 az6 s 49)],[.func 45 [] [.ptr 0 0]],2⟩)
 (fun s=>let t:=m.getD ((s.2).toNat) default;.br (decide (s.2<n))
 (.gh s.2 (m.length)<|
 .ix 0 2 rfl<|
 .name 11006 (t.1) fun w=>
 .ix 1 2 rfl<|
 .name 11008 (t.2) fun y=>
 .cc (Dz8 f h w y) fun z=>let aa:=([z]:A7);let ab:=s.1.length+aa.length;
 .conv 11010 (czk 12 az6 aa 49)<|
 .conv 11011 (ez5 12 az6 s.1 aa 49)<|
 .grd (ab * 160≤140737488355328/\ab≤maxLen)<|
 .nn ((s.1++aa),(i64.wrap (s.2+1))))
 (.oo s.1))
 (nl,0) [] fun s=>
 .ret (⟨h,s⟩:azk)))
noncomputable def Nz3 (c)(d)(e):=
 mkC [⟨45,az0u⟩] hd Tryz.func21 (by kernel_rfl) (Nz4 c d e) 0 [.pure (bzg c),.pure (encL 1 (encL 1 az1) d),pz e] [] (fun r=>.pure (czq r)) (fun _=>[]) (by kernel_rfl)
noncomputable def Ozq (a0:Int):T azg:=
 .br (a0==1)
 (.conv 3001 (Sz7 3 azx ([(⟨0,0,nl⟩:azh)]:Af) 42 [.agg [.int .i64 0,.int .i64 0,.lst 0 0 fun _=>.unk]] (by kernel_rfl))<|
 .ret (⟨1,([(⟨0,0,nl⟩:azh)]:Af),(⟨0,0,nl⟩:azh),(⟨0,nl,nl⟩:azu)⟩:azg))
 (.br (a0==2)
 (.conv 5000 (czk 1 az1 ([1]:A0) 2)<|
 .conv 5001 (czk 1 az1 ([1]:A0) 2)<|
 .ret (⟨2,nl,(⟨0,0,nl⟩:azh),(⟨0,([1]:A0),([1]:A0)⟩:azu)⟩:azg))
 (.br (a0==3)
 (.ret (⟨0,nl,(⟨1,0,nl⟩:azh),(⟨0,nl,nl⟩:azu)⟩:azg))
 (.ret (⟨0,nl,(⟨0,0,nl⟩:azh),(⟨0,nl,nl⟩:azu)⟩:azg))))
noncomputable def lzj (c):=
 mkD Tryz.func10 (Ozq c) 0 [pz c] [] (fun r=>.pure (ezc r)) (fun _=>[])
noncomputable def ez9 (a0:A1):T A1:=
 (match a0 with
  |[]=>.unroll 1<|
  .grd (a0.length=0)<|
  .both
   (.ret nl)
   (.conv 3000 (czk 1 (encL 1 az1) ([]:A1) 43)<|
   .conv 3002 (ez5 1 (encL 1 az1) ([]:A1) a0 43)<|
   .grd ((([]:A1).length+a0.length) * 24≤140737488355328/\(([]:A1).length+a0.length)≤maxLen)<|
   .ret (([]:A1)++a0))
  |_::_=>.grd (0<a0.length)<|
  .conv 3000 (czk 1 (encL 1 az1) ([]:A1) 43)<|
  .conv 3002 (ez5 1 (encL 1 az1) ([]:A1) a0 43)<|
  .grd ((([]:A1).length+a0.length) * 24≤140737488355328/\(([]:A1).length+a0.length)≤maxLen)<|
  .ret (([]:A1)++a0))
noncomputable def gz0 (a0:A1):CallS A1:=
 mkH [] hd Tryz.func67 (by kernel_rfl) (ez9 a0) 0 [.pure (encL 1 (encL 1 az1) a0)] [] (fun _=>.vec 0) (fun r=>[(0,vecO 1 (encL 1 az1) r 43)]) (by cases a0<;>exact Ob.of_side (by kernel_rfl))
noncomputable def bzz (a0:A7):T A7:=
 (match a0 with
  |[]=>.unroll 1<|
  .grd (a0.length=0)<|
  .both
   (.ret nl)
   (.conv 3000 (czk 12 az6 ([]:A7) 49)<|
   .conv 3002 (ez5 12 az6 ([]:A7) a0 49)<|
   .grd ((([]:A7).length+a0.length) * 160≤140737488355328/\(([]:A7).length+a0.length)≤maxLen)<|
   .ret (([]:A7)++a0))
  |_::_=>.grd (0<a0.length)<|
  .conv 3000 (czk 12 az6 ([]:A7) 49)<|
  .conv 3002 (ez5 12 az6 ([]:A7) a0 49)<|
  .grd ((([]:A7).length+a0.length) * 160≤140737488355328/\(([]:A7).length+a0.length)≤maxLen)<|
  .ret (([]:A7)++a0))
noncomputable def czy (a0:A7):CallS A7:=
 mkH [] hd Tryz.func68 (by kernel_rfl) (bzz a0) 0 [.pure (encL 12 az6 a0)] [] (fun _=>.vec 0) (fun r=>[(0,vecO 12 az6 r 49)]) (by cases a0<;>exact Ob.of_side (by kernel_rfl))
noncomputable def dz5 (a0:Af):T Af:=
 (match a0 with
  |[]=>.unroll 1<|
  .grd (a0.length=0)<|
  .both
   (.ret nl)
   (.conv 3000 (czk 3 azx ([]:Af) 42)<|
   .conv 3002 (ez5 3 azx ([]:Af) a0 42)<|
   .grd ((([]:Af).length+a0.length) * 40≤140737488355328/\(([]:Af).length+a0.length)≤maxLen)<|
   .ret (([]:Af)++a0))
  |_::_=>.grd (0<a0.length)<|
  .conv 3000 (czk 3 azx ([]:Af) 42)<|
  .conv 3002 (ez5 3 azx ([]:Af) a0 42)<|
  .grd ((([]:Af).length+a0.length) * 40≤140737488355328/\(([]:Af).length+a0.length)≤maxLen)<|
  .ret (([]:Af)++a0))
noncomputable def ezq (a0:Af):CallS Af:=
 mkH [] hd Tryz.func70 (by kernel_rfl) (dz5 a0) 0 [.pure (encL 3 azx a0)] [] (fun _=>.vec 0) (fun r=>[(0,vecO 3 azx r 42)]) (by cases a0<;>exact Ob.of_side (by kernel_rfl))
noncomputable def dzt (a0:Ax):T Ax:=
 (match a0 with
  |[]=>.unroll 1<|
  .grd (a0.length=0)<|
  .both
   (.ret nl)
   (.conv 3000 (czk 3 az3 ([]:Ax) 62)<|
   .conv 3002 (ez5 3 az3 ([]:Ax) a0 62)<|
   .grd ((([]:Ax).length+a0.length) * 24≤140737488355328/\(([]:Ax).length+a0.length)≤maxLen)<|
   .ret (([]:Ax)++a0))
  |_::_=>.grd (0<a0.length)<|
  .conv 3000 (czk 3 az3 ([]:Ax) 62)<|
  .conv 3002 (ez5 3 az3 ([]:Ax) a0 62)<|
  .grd ((([]:Ax).length+a0.length) * 24≤140737488355328/\(([]:Ax).length+a0.length)≤maxLen)<|
  .ret (([]:Ax)++a0))
noncomputable def dzs (a0:Ax):CallS Ax:=
 mkH [] hd Tryz.func71 (by kernel_rfl) (dzt a0) 0 [.pure (encL 3 az3 a0)] [] (fun r=>.pure (encL 3 az3 r)) (fun _=>[]) (by cases a0<;>exact Ob.of_side (by kernel_rfl))
noncomputable def gzi (c:azg):T azg:=let d:Nat×Res:=(0,.box [pz c.Kind,.vec 1,pz c.At.Depth,pz c.At.Index,.pure (encL 3 az3 c.At.Normals),pz c.Witness.Pair,.pure (encL 1 az1 c.Witness.Left),.pure (encL 1 az1 c.Witness.Right)]);.cc (ezq c.Pieces) fun e=>let f:=(e.length:Nat);
 .unroll 998<|
 .loop (fun (g:(Af×Int))=>⟨[(1,.ptr 0 0),(2,.ptr 2 0),(10,.vec 1),(11,pz (f:Int)),(12,pz g.2)],[d,(1,vecO 3 azx g.1 42),(2,.box [pz 0,.vec 3,pz 0,pz 0,.vec 4,pz 0,.vec 5,.vec 6]),(3,.nilv),(4,.nilv),(5,.nilv),(6,.nilv)],[],7⟩)
 (.exit 0) (fun (g:Af)=>⟨[(1,.ptr 0 0),(2,.ptr 2 0)],[d,(1,vecO 3 azx g 42),(2,.box [pz 0,.vec 3,pz 0,pz 0,.vec 4,pz 0,.vec 5,.vec 6]),(3,.nilv),(4,.nilv),(5,.nilv),(6,.nilv)],[],7⟩)
 (fun g=>let h:=(g.2).toNat;let i:=g.1.getD h default;.br (decide (g.2<(f:Int)))
 (.gg g.2 g.1.length<|
 .cc (dzs (i.Normals)) fun j=>let k:=(⟨i.Depth,i.Index,j⟩:azh);
 .gh g.2 g.1.length<|
 .conv 5008 (bzm 3 azx g.1 42 h k)<|
 .gi (g.2) g.1.length<|
 .nn ((g.1.set h k),(i64.wrap (g.2+1))))
 (.oo g.1))
 (e,0) [] fun g=>
 .cc (dzs c.At.Normals) fun h=>
 .cc (czp c.Witness.Left) fun i=>
 .cc (czp c.Witness.Right) fun j=>
 .ret (⟨c.Kind,g,(⟨c.At.Depth,c.At.Index,h⟩:azh),(⟨c.Witness.Pair,i,j⟩:azu)⟩:azg)
noncomputable def gzh (c):=
 mkD Tryz.func32 (gzi c) 0 [.pure (ezc c)] [] (fun r=>.pure (ezc r)) (fun _=>[])
noncomputable def pz4 (c:azk):T (A1×A7):=
 .cc (gz0 c.Points) fun d=>let e:=(d.length:Nat);
 .cc (czy c.Edges) fun f=>let g:=(f.length:Nat);
 .loop (fun (h:(A1×Int))=>⟨[(2,.ptr 0 0),(3,.vec 3),(4,.vec 4),(15,.vec 3),(16,pz (e:Int)),(17,pz h.2)],[(0,.box [.vec 1,.vec 2]),(1,.nilv),(2,.nilv),(3,vecO 1 (encL 1 az1) h.1 43),(4,vecO 12 az6 f 49)],[],5⟩)
 (.exit 0) (fun (h:A1)=>⟨[(2,.ptr 0 0),(3,.vec 3),(4,.vec 4)],[(0,.box [.vec 1,.vec 2]),(1,.nilv),(2,.nilv),(3,vecO 1 (encL 1 az1) h 43),(4,vecO 12 az6 f 49)],[],5⟩)
 (fun h=>let i:=(h.2).toNat;.br (decide (h.2<(e:Int)))
 (.gg h.2 h.1.length<|
 .cc (czp (h.1.getD i default)) fun j=>
 .gh h.2 h.1.length<|
 .conv 5005 (bzm 1 (encL 1 az1) h.1 43 i j)<|
 .gi (h.2) h.1.length<|
 .nn ((h.1.set i j),(i64.wrap (h.2+1))))
 (.oo h.1))
 (d,0) [] fun h=>
 .loop (fun (i:A8)=>⟨[(2,.ptr 0 0),(3,.vec 3),(4,.vec 4),(28,.vec 4),(29,pz (g:Int)),(30,pz i.2)],[(0,.box [.vec 1,.vec 2]),(1,.nilv),(2,.nilv),(3,vecO 1 (encL 1 az1) h 43),(4,vecO 12 az6 i.1 49)],[],5⟩)
 (.exit 2) (fun (i:A7)=>⟨[(2,.ptr 0 0),(3,.vec 3),(4,.vec 4)],[(0,.box [.vec 1,.vec 2]),(1,.nilv),(2,.nilv),(3,vecO 1 (encL 1 az1) h 43),(4,vecO 12 az6 i 49)],[],5⟩)
 (fun i=>let j:=(i.2).toNat;let k:=i.1.getD j default;.br (decide (i.2<(g:Int)))
 (.gg i.2 i.1.length<|
 .cc (gzh (k.Proof)) fun l=>let m:=(⟨k.U,k.V,k.Cost,k.State,l⟩:az4);
 .gh i.2 i.1.length<|
 .conv 10007 (bzm 12 az6 i.1 49 j m)<|
 .gi (i.2) i.1.length<|
 .nn ((i.1.set j m),(i64.wrap (i.2+1))))
 (.oo i.1))
 (f,0) [] fun i=>
 .ret (h,i)
noncomputable def xzt (c):=
 mkD Tryz.func30 (pz4 c) 0 [.pure (czq c)] [] (fun _=>.agg [.vec 0,.vec 1]) (fun r=>[(0,vecO 1 (encL 1 az1) r.1 43),(1,vecO 12 az6 r.2 49)])
noncomputable def rzo (c:Int):T Int:=
 .br (c==1)
 (.ret 1)
 (.br (c==2)
 (.ret 2)
 (.ret 0))
noncomputable def fzv (c):=
 mkD Tryz.func31 (rzo c) 0 [pz c] [] (fun r=>pz r) (fun _=>[])
set_option maxHeartbeats 8000000 in
set_option maxRecDepth 20000 in
noncomputable def hzc (c:azk)(d:Int)(e:azg):T (A1×A7×Bool):=let f:=d.toNat;let g:=encL 3 azx e.Pieces;let h:=encL 3 az3 e.At.Normals;let i:=c.Edges.getD f default;let j:=encL 1 az1 e.Witness.Left;let k:=encL 1 az1 e.Witness.Right;let l:Nat×Res:=(0,.box [pz e.Kind,.pure g,pz e.At.Depth,pz e.At.Index,.pure h,pz e.Witness.Pair,.pure j,.pure k]);.cc (xzt (⟨c.Points,c.Edges⟩:azk)) fun m=>let n:=m.2.getD f default;
 .cut 1 (fun (s:Bool)=>⟨[(1,pz d),(3,.ptr 0 0),(5,.ptr 1 0),(6,.ptr 2 0),(7,.ptr 5 0),(22,.pure (.bool s))],[(0,.box [.pure (encL 1 (encL 1 az1) c.Points),.pure (encL 12 az6 c.Edges)]),(1,.box [pz e.Kind,.pure g,pz e.At.Depth,pz e.At.Index,.pure h,pz e.Witness.Pair,.pure j,.pure k]),(2,.box [.vec 3,.vec 4]),(3,vecO 1 (encL 1 az1) m.1 43),(4,vecO 12 az6 m.2 49),(5,.box [.ff])],[.func 29 [] [.ptr 2 0,.ptr 5 0]],6⟩)
 (.br (decide (d<0))
 (.oo true)
 (.oo (decide (d≥(c.Edges.length:Int))))) fun s=>
 .br s
 (.ret (m.1,m.2,false))
 (.gh d c.Edges.length<|
 .cut 0 (fun (t:Bool)=>⟨[(1,pz d),(5,.ptr 0 0),(6,.ptr 1 0),(7,.ptr 4 0),(35,.pure (.bool t))],[l,(1,.box [.vec 2,.vec 3]),(2,vecO 1 (encL 1 az1) m.1 43),(3,vecO 12 az6 m.2 49),(4,.box [.ff])],[.func 29 [] [.ptr 1 0,.ptr 4 0]],5⟩)
 (.br ((i.State)==1)
 (.oo true)
 (.oo ((i.State)==2))) fun t=>
 .br t
 (.ret (m.1,m.2,false))
 (.conv 8000 (czk 1 az1 ([1,2,3]:A0) 3)<|
 .loop (fun (w:Int)=>⟨[(1,pz d),(5,.ptr 0 0),(6,.ptr 1 0),(7,.ptr 4 0),(37,.vec 5),(38,pz ((([1,2,3]:A0).length:Nat):Int)),(39,pz w)],[l,(1,.box [.vec 2,.vec 3]),(2,vecO 1 (encL 1 az1) m.1 43),(3,vecO 12 az6 m.2 49),(4,.box [.ff]),(5,vecO 1 az1 ([1,2,3]:A0) 3)],[.func 29 [] [.ptr 1 0,.ptr 4 0]],6⟩)
 (.exit 0) (fun (_:U0)=>⟨[(6,.ptr 0 0),(7,.ptr 3 0)],[(0,.box [.vec 1,.vec 2]),(1,vecO 1 (encL 1 az1) m.1 43),(2,vecO 12 az6 m.2 49),(3,.box [.ff])],[.func 29 [] [.ptr 0 0,.ptr 3 0]],4⟩)
 (fun w=>let y:=([1,2,3]:A0).getD (w.toNat) default;let z:=(⟨n.U,n.V,n.Cost,y,n.Proof⟩:az4);let aa:=m.2.set f z;let ab:=aa.getD f default;.br (decide (w<((([1,2,3]:A0).length:Nat):Int)))
 (.gg w (([1,2,3]:A0).length)<|
 .cc (fzv y) fun ac=>
 .br (ac==e.Kind)
 (.gh d m.2.length<|
 .conv 12006 (bzm 12 az6 m.2 49 f z)<|
 .gi (d) m.2.length<|
 .cc (gzh e) fun ad=>let ae:=(⟨ab.U,ab.V,ab.Cost,ab.State,ad⟩:az4);
 .gh d (aa.length)<|
 .conv 13007 (bzm 12 az6 aa 49 f ae)<|
 .gi (d) (aa.length)<|
 .ff (m.1,(aa.set f ae),true))
 (.nn (i64.wrap (w+1))))
 (.oo .u))
 0 [] fun _=>
 .ret (m.1,m.2,false)))
noncomputable def hzb (c)(d)(e):=
 mkC [⟨29,az0s⟩] hd Tryz.func9 (by kernel_rfl) (hzc c d e) 0 [.pure (czq c),pz d,.pure (ezc e)] [] (fun r=>.tup [.agg [.vec 0,.vec 1],.pure (.bool r.2.2)]) (fun r=>[(0,vecO 1 (encL 1 az1) r.1 43),(1,vecO 12 az6 r.2.1 49)]) (by kernel_rfl)
noncomputable def kzr (c:azk)(d:az4):T Bool:=let e:=(c.Points.length:Nat);.br (decide (d.U≥0))
 (.br (decide (d.U<(e:Int)))
 (.br (decide (d.V≥0))
 (.ret (decide (d.V<(e:Int))))
 (.ret false))
 (.ret false))
 (.ret false)
noncomputable def gzu (c)(d):=
 mkD Tryz.func52 (kzr c d) 0 [.pure (czq c),.pure (az6 d)] [] (fun r=>.pure (.bool r)) (fun _=>[])
noncomputable def Gzp (c:Int)(d:Int):T Bool:=
 .br (d==0)
 (.ret (c==1))
 (.br (d==1)
 (.br (c==1)
 (.ret true)
 (.ret (c==0)))
 (.br (d==2)
 (.ret (c !=2))
 (.ret false)))
noncomputable def Gzo (c)(d):=
 mkD Tryz.func53 (Gzp c d) 0 [pz c,pz d] [] (fun r=>.pure (.bool r)) (fun _=>[])
noncomputable def vzq (c:Int)(d:A0):T (Int×A0):=
 .loop (fun (e:A3)=>⟨[(0,pz e.2),(1,.ptr 0 0)],[(0,.box [.vec 1]),(1,vecO 1 az1 e.1 3)],[],2⟩)
 (.exit 0) (fun (e:A3)=>⟨[(0,pz e.2)],[(0,.box [.vec 1]),(1,vecO 1 az1 e.1 3)],[],2⟩)
 (fun e=>let f:=(e.2).toNat;let g:=e.1.getD f default;let h:=e.1.getD (g.toNat) default;let i:=e.1.set f h;.gg e.2 e.1.length<|
 .br (g !=e.2)
 (.gg e.2 e.1.length<|
 .gg g e.1.length<|
 .gh e.2 e.1.length<|
 .conv 2010 (bzm 1 az1 e.1 3 f h)<|
 .gi (e.2) e.1.length<|
 .gg e.2 (i.length)<|
 .nn (i,(i.getD f default)))
 (.oo (e.1,e.2)))
 (d,c) [] fun e=>
 .ret (e.2,e.1)
noncomputable def fzx (c)(d):=
 mkD Tryz.func51 (vzq c d) 2 [pz c,.ptr 0 0] [(0,.box [.vec 1]),(1,vecO 1 az1 d 3)] (fun r=>pz r.1) (fun r=>[(0,.box [.vec 1]),(1,vecO 1 az1 r.2 3)])
set_option maxHeartbeats 8000000 in
set_option maxRecDepth 20000 in
noncomputable def zz6 (c:azk)(d:Int):T A0:=let e:=encL 12 az6 c.Edges;let f:=(c.Edges.length:Int);let g:=(c.Points.length:Int);let h:Nat×Res:=(0,.box [.pure (encL 1 (encL 1 az1) c.Points),.pure e]);let i:=List.replicate g.toNat (0:Int);let j:=(i.length:Nat);.conv 2003 (Gz5 1 az1 3 g.toNat 0)<|
 .grd (0≤g/\g≤g/\g≤9223372036854775807/\g * 8≤140737488355328)<|
 .loop (fun (k:A3)=>⟨[(1,pz d),(2,.ptr 0 0),(4,.ptr 1 0),(18,pz (j:Int)),(19,pz k.2)],[h,(1,.box [.vec 2]),(2,vecO 1 az1 k.1 3)],[.func 50 [] [.ptr 1 0]],3⟩)
 (.exit 0) (fun (k:A0)=>⟨[(1,pz d),(2,.ptr 0 0),(4,.ptr 1 0)],[h,(1,.box [.vec 2]),(2,vecO 1 az1 k 3)],[.func 50 [] [.ptr 1 0]],3⟩)
 (fun k=>let l:=(k.2).toNat;.br (decide (k.2<(j:Int)))
 (.gh k.2 k.1.length<|
 .conv 6004 (bzm 1 az1 k.1 3 l k.2)<|
 .gi (k.2) k.1.length<|
 .nn ((k.1.set l k.2),(i64.wrap (k.2+1))))
 (.oo k.1))
 (i,0) [] fun k=>
 .loop (fun (l:A3)=>⟨[(1,pz d),(2,.ptr 0 0),(4,.ptr 1 0),(6,.func 51 [] [.ptr 1 0]),(29,.pure e),(30,pz f),(31,pz l.2)],[h,(1,.box [.vec 2]),(2,vecO 1 az1 l.1 3)],[.func 50 [] [.ptr 1 0]],3⟩)
 (.exit 2) (fun (l:A0)=>⟨[(4,.ptr 0 0),(6,.func 51 [] [.ptr 0 0])],[(0,.box [.vec 1]),(1,vecO 1 az1 l 3)],[.func 50 [] [.ptr 0 0]],2⟩)
 (fun l=>let m:=c.Edges.getD ((l.2).toNat) default;.br (decide (l.2<f))
 (.cut 0 (fun (n:A0)=>⟨[(1,pz d),(2,.ptr 0 0),(4,.ptr 1 0),(6,.func 51 [] [.ptr 1 0]),(29,.pure e),(30,pz f),(31,pz l.2)],[h,(1,.box [.vec 2]),(2,vecO 1 az1 n 3)],[.func 50 [] [.ptr 1 0]],3⟩)
 (.gh l.2 c.Edges.length<|
 .cut 0 (fun (n:Bool)=>⟨[(1,pz d),(2,.ptr 0 0),(4,.ptr 1 0),(6,.func 51 [] [.ptr 1 0]),(8,.ptr 3 0),(29,.pure e),(30,pz f),(31,pz l.2),(43,.pure (.bool n))],[h,(1,.box [.vec 2]),(2,vecO 1 az1 l.1 3),(3,.box [pz (m.U),pz (m.V),pz (m.Cost),pz (m.State),pz (m.Proof.Kind),.pure (encL 3 azx (m.Proof.Pieces)),pz (m.Proof.At.Depth),pz (m.Proof.At.Index),.pure (encL 3 az3 (m.Proof.At.Normals)),pz (m.Proof.Witness.Pair),.pure (encL 1 az1 (m.Proof.Witness.Left)),.pure (encL 1 az1 (m.Proof.Witness.Right))])],[.func 50 [] [.ptr 1 0]],4⟩)
 (.cc (gzu (⟨c.Points,c.Edges⟩:azk) m) fun n=>
 .br n
 (.cc (Gzo (m.State) d) fun s=>
 .oo s)
 (.oo false)) fun n=>
 .br n
 (.call (fzx (m.U) l.1) [(0,1),(1,2)] fun s=>
 .call (fzx (m.V) s.2) [(0,1),(1,2)] fun t=>let w:=max s.1 t.1;let y:=min s.1 t.1;
 .gh w t.2.length<|
 .conv 14008 (bzm 1 az1 t.2 3 (w.toNat) y)<|
 .gi (w) t.2.length<|
 .oo (t.2.set (w.toNat) y))
 (.oo l.1)) fun n=>
 .nn (n,(i64.wrap (l.2+1))))
 (.oo l.1))
 (k,0) [] fun l=>let m:=(l.length:Nat);
 .loop (fun (n:A3)=>⟨[(4,.ptr 0 0),(6,.func 51 [] [.ptr 0 0]),(62,pz (m:Int)),(63,pz n.2)],[(0,.box [.vec 1]),(1,vecO 1 az1 n.1 3)],[.func 50 [] [.ptr 0 0]],2⟩)
 (.exit 4) (fun (n:A0)=>⟨[(4,.ptr 0 0)],[(0,.box [.vec 1]),(1,vecO 1 az1 n 3)],[.func 50 [] [.ptr 0 0]],2⟩)
 (fun n=>let s:=(n.2).toNat;.br (decide (n.2<(m:Int)))
 (.call (fzx n.2 n.1) [(0,0),(1,1)] fun t=>
 .gh n.2 t.2.length<|
 .conv 19006 (bzm 1 az1 t.2 3 s t.1)<|
 .gi (n.2) t.2.length<|
 .nn ((t.2.set s t.1),(i64.wrap (n.2+1))))
 (.oo n.1))
 (l,0) [] fun n=>
 .ret n
noncomputable def zz5 (c)(d):=
 mkC [⟨50,az0v⟩] hd Tryz.func22 (by kernel_rfl) (zz6 c d) 0 [.pure (czq c),pz d] [] (fun r=>.pure (encL 1 az1 r)) (fun _=>[]) (by kernel_rfl)
noncomputable def kzs (c:azg):T Bool:=
 .br (c.Kind==0)
 (.br ((c.Pieces.length:Int)==0)
 (.br (c.At.Depth==0)
 (.br (c.At.Index==0)
 (.br ((c.At.Normals.length:Int)==0)
 (.br (c.Witness.Pair==0)
 (.br ((c.Witness.Left.length:Int)==0)
 (.ret ((c.Witness.Right.length:Int)==0))
 (.ret false))
 (.ret false))
 (.ret false))
 (.ret false))
 (.ret false))
 (.ret false))
 (.ret false)
noncomputable def szo (c):=
 mkD Tryz.func92 (kzs c) 0 [.pure (ezc c)] [] (fun r=>.pure (.bool r)) (fun _=>[])
noncomputable def iz1 (c:azf)(d:azk)(e:az4):T Bool:=let f:Nat×Res:=(0,.box [pz e.U,pz e.V,pz e.Cost,pz e.State,pz e.Proof.Kind,.pure (encL 3 azx e.Proof.Pieces),pz e.Proof.At.Depth,pz e.Proof.At.Index,.pure (encL 3 az3 e.Proof.At.Normals),pz e.Proof.Witness.Pair,.pure (encL 1 az1 e.Proof.Witness.Left),.pure (encL 1 az1 e.Proof.Witness.Right)]);.cut 2 (fun (g:Bool)=>⟨[(5,.ptr 0 0),(36,.pure (.bool g))],[f],[],1⟩)
 (.cc (gzu d e) fun g=>
 .br (!g)
 (.oo true)
 (.br (decide (e.U≥e.V))
 (.oo true)
 (.gh e.U d.Points.length<|
 .gh e.V d.Points.length<|
 .cc (kz6 c (d.Points.getD ((e.U).toNat) default) (d.Points.getD ((e.V).toNat) default)) fun h=>
 .oo (e.Cost !=h)))) fun g=>
 .br g
 (.ret false)
 (.cut 1 (fun (h:Bool)=>⟨[(5,.ptr 0 0),(53,.pure (.bool h))],[f],[],1⟩)
 (.br (decide (e.State<0))
 (.oo true)
 (.br (decide (e.State>3))
 (.oo true)
 (.cc (fzv e.State) fun h=>
 .oo (e.Proof.Kind !=h)))) fun h=>
 .br h
 (.ret false)
 (.br (e.State !=0)
 (.ret true)
 (.cc (szo e.Proof) fun i=>
 .ret i)))
noncomputable def pz5 (c)(d)(e):=
 mkD Tryz.func55 (iz1 c d e) 0 [.pure (bzg c),.pure (czq d),.pure (az6 e)] [] (fun r=>.pure (.bool r)) (fun _=>[])
noncomputable def kzq (c:az4)(d:az4):T Int:=
 .cc (dzl c.U d.U) fun e=>
 .cc (dzl c.V d.V) fun f=>let g:=([e,f]:A0);
 .conv 1010 (czk 1 az1 g 3)<|
 .cc (pzn g) fun h=>
 .ret h
noncomputable def szn (c)(d):=
 mkD Tryz.func56 (kzq c d) 0 [.pure (az6 c),.pure (az6 d)] [] (fun r=>pz r) (fun _=>[])
noncomputable def pz3 (c:azf)(d:azk):T Bool:=let e:=encL 12 az6 d.Edges;let f:=(d.Edges.length:Int);let g:=(d.Points.length:Nat);let h:Nat×Res:=(0,.box [.pure (encL 12 az9 c.Joints),.pure (encL 5 aze c.Masses)]);let i:Nat×Res:=(1,.box [.pure (encL 1 (encL 1 az1) d.Points),.pure e]);.cut 3 (fun (j:Bool)=>⟨[(2,.ptr 0 0),(3,.ptr 1 0),(4,.ptr 2 0),(22,.pure (.bool j))],[h,i,(2,.box [.ff])],[.func 54 [] [.ptr 2 0]],3⟩)
 (.cc (fzj c) fun j=>
 .br (j !=0)
 (.oo true)
 (.br (decide ((g:Int)>1024))
 (.oo true)
 (.oo (decide (f>8192))))) fun j=>
 .br j
 (.ret false)
 (.cc (jzg c d.Points) fun k=>
 .br ((k.length:Int) !=(g:Int))
 (.ret false)
 (.loop (fun (l:Int)=>⟨[(2,.ptr 0 0),(3,.ptr 1 0),(4,.ptr 2 0),(33,.pure e),(34,pz f),(35,pz l)],[h,i,(2,.box [.ff])],[.func 54 [] [.ptr 2 0]],3⟩)
 (.exit 0) (fun (_:U0)=>⟨[(4,.ptr 0 0)],[(0,.box [.ff])],[.func 54 [] [.ptr 0 0]],1⟩)
 (fun l=>let m:=i64.wrap (l-1);let n:=d.Edges.getD (l.toNat) default;.br (decide (l<f))
 (.gh l d.Edges.length<|
 .cut 0 (fun (s:Bool)=>⟨[(2,.ptr 0 0),(3,.ptr 1 0),(4,.ptr 2 0),(33,.pure e),(34,pz f),(35,pz l),(59,.pure (.bool s))],[h,i,(2,.box [.ff])],[.func 54 [] [.ptr 2 0]],3⟩)
 (.cc (pz5 (⟨c.Joints,c.Masses⟩:azf) (⟨d.Points,d.Edges⟩:azk) n) fun s=>
 .br (!s)
 (.oo true)
 (.br (decide (l>0))
 (.gh m d.Edges.length<|
 .call (szn (d.Edges.getD (m.toNat) default) n) [] fun t=>
 .oo (decide (t≥0)))
 (.oo false))) fun s=>
 .br s
 (.ff false)
 (.nn (i64.wrap (l+1))))
 (.oo .u))
 0 [] fun _=>
 .ret true))
noncomputable def pz2 (c)(d):=
 mkC [⟨54,az0w⟩] hd Tryz.func23 (by kernel_rfl) (pz3 c d) 0 [.pure (bzg c),.pure (czq d)] [] (fun r=>.pure (.bool r)) (fun _=>[]) (by kernel_rfl)
noncomputable def Iz8 (c:A0)(d:A0):T Bool:=let e:=(c.length:Nat);.br ((e:Int) !=(d.length:Int))
 (.ret false)
 (.loop (fun (f:Int)=>⟨[(0,.pure (encL 1 az1 c)),(1,.pure (encL 1 az1 d)),(5,pz f)],[],[],0⟩)
 (.exit 0) (fun (_:U0)=>⟨[],[],[],0⟩)
 (fun f=>.br (decide (f<(e:Int)))
 (.gh f c.length<|
 .gh f d.length<|
 .br ((c.getD (f.toNat) default) !=(d.getD (f.toNat) default))
 (.ff false)
 (.nn (i64.wrap (f+1))))
 (.oo .u))
 0 [] fun _=>
 .ret true)
noncomputable def wzp (c)(d):=
 mkD Tryz.func24 (Iz8 c d) 0 [.pure (encL 1 az1 c),.pure (encL 1 az1 d)] [] (fun r=>.pure (.bool r)) (fun _=>[])
noncomputable def Dz7 (c:azk)(d:Int):T A0:=let e:=encL 12 az6 c.Edges;let f:=(c.Edges.length:Int);let g:Nat×Res:=(0,.box [.pure (encL 1 (encL 1 az1) c.Points),.pure e]);.loop (fun (h:A3)=>⟨[(1,pz d),(2,.ptr 0 0),(4,.ptr 1 0),(9,.pure e),(10,pz f),(11,pz h.2)],[g,(1,.box [.vec 2]),(2,vecO 1 az1 h.1 3)],[.func 57 [] [.ptr 1 0]],3⟩)
 (.exit 0) (fun (h:A0)=>⟨[(4,.ptr 0 0)],[(0,.box [.vec 1]),(1,vecO 1 az1 h 3)],[.func 57 [] [.ptr 0 0]],2⟩)
 (fun h=>let i:=([h.2]:A0);let j:=h.1.length+i.length;let k:=c.Edges.getD ((h.2).toNat) default;.br (decide (h.2<f))
 (.cut 0 (fun (l:A0)=>⟨[(1,pz d),(2,.ptr 0 0),(4,.ptr 1 0),(9,.pure e),(10,pz f),(11,pz h.2)],[g,(1,.box [.vec 2]),(2,vecO 1 az1 l 3)],[.func 57 [] [.ptr 1 0]],3⟩)
 (.gh h.2 c.Edges.length<|
 .cut 0 (fun (l:Bool)=>⟨[(1,pz d),(2,.ptr 0 0),(4,.ptr 1 0),(5,pz h.2),(9,.pure e),(10,pz f),(11,pz h.2),(30,.pure (.bool l))],[g,(1,.box [.vec 2]),(2,vecO 1 az1 h.1 3)],[.func 57 [] [.ptr 1 0]],3⟩)
 (.cc (gzu c k) fun l=>
 .br l
 (.br ((k.U)==d)
 (.oo true)
 (.oo ((k.V)==d)))
 (.oo false)) fun l=>
 .br l
 (.conv 6002 (czk 1 az1 i 3)<|
 .conv 6003 (ez5 1 az1 h.1 i 3)<|
 .grd (j * 8≤140737488355328/\j≤maxLen)<|
 .oo (h.1++i))
 (.oo h.1)) fun l=>
 .nn (l,(i64.wrap (h.2+1))))
 (.oo h.1))
 (nl,0) [] fun h=>
 .ret h
noncomputable def Dz6 (c)(d):=
 mkC [⟨57,az0x⟩] hd Tryz.func25 (by kernel_rfl) (Dz7 c d) 0 [.pure (czq c),pz d] [] (fun r=>.pure (encL 1 az1 r)) (fun _=>[]) (by kernel_rfl)
noncomputable def Mz9:T Bool:=
 .cc (Mzd 1 9) fun c=>let d:=(⟨c.Joints,c.Masses⟩:azf);
 .conv 2001 (czk 1 az1 ([0]:A0) 2)<|
 .conv 2002 (czk 1 az1 ([5]:A0) 2)<|
 .conv 2003 (czk 1 az1 ([9]:A0) 2)<|
 .conv 2004 (czk 1 (encL 1 az1) ([([0]:A0),([5]:A0),([9]:A0)]:A1) 43)<|
 .cc (Nz3 d ([([0]:A0),([5]:A0),([9]:A0)]:A1) 1) fun e=>
 .cut 1 (fun (f:Bool)=>⟨[(1,.ptr 0 0),(2,.ptr 1 0),(22,.pure (.bool f))],[(0,.box [.pure (encL 12 az9 c.Joints),.pure (encL 5 aze c.Masses)]),(1,.box [.pure (encL 1 (encL 1 az1) e.Points),.pure (encL 12 az6 e.Edges)])],[],2⟩)
 (.br ((e.Edges.length:Int) !=2)
 (.oo true)
 (.oo ((e.Points.length:Int) !=3))) fun f=>
 .br f
 (.ret false)
 (.cc (lzj 1) fun g=>
 .cc (hzb (⟨e.Points,e.Edges⟩:azk) 1 g) fun h=>let i:=(⟨h.1,h.2.1⟩:azk);
 .cc (zz5 i 0) fun j=>
 .br h.2.2
 (.cc (pz2 d i) fun k=>
 .br k
 (.conv 7008 (czk 1 az1 ([0,1,1]:A0) 3)<|
 .cc (wzp j ([0,1,1]:A0)) fun l=>
 .br l
 (.cc (Dz6 i 1) fun m=>
 .conv 7014 (czk 1 az1 ([0,1]:A0) 3)<|
 .cc (wzp m ([0,1]:A0)) fun n=>
 .ret n)
 (.ret false))
 (.ret false))
 (.ret false))
noncomputable def law25_awake_C:CallS Bool:=
 mkD Tryz.func6 (Mz9) 0 [] [] (fun r=>.pure (.bool r)) (fun _=>[])
noncomputable def hzu (c:azh)(d:azu):T Bool:=
 .br (c.Depth==0)
 (.br (c.Index==0)
 (.br ((c.Normals.length:Int)==0)
 (.br (d.Pair==0)
 (.br ((d.Left.length:Int)==0)
 (.ret ((d.Right.length:Int)==0))
 (.ret false))
 (.ret false))
 (.ret false))
 (.ret false))
 (.ret false)
noncomputable def oz9 (c)(d):=
 mkD Tryz.func73 (hzu c d) 0 [.pure (azx c),.pure (Azk d)] [] (fun r=>.pure (.bool r)) (fun _=>[])
noncomputable def rzr (c:azd)(d:Int):T Bool:=
 .br (decide ((-1)≤d))
 (.ret (decide (d<(c.Robot.Joints.length:Int))))
 (.ret false)
noncomputable def lzc (c)(d):=
 mkD Tryz.func208 (rzr c d) 0 [.pure (cz6 c),pz d] [] (fun r=>.pure (.bool r)) (fun _=>[])
noncomputable def jzn (c:azd)(d:bz8):T Int:=let e:=encL 3 az3 d.Points;let f:=(d.Points.length:Int);.cut 3 (fun (g:Bool)=>⟨[(3,.ptr 0 0),(35,.pure (.bool g))],[(0,.box [pz d.Link,pz d.Radius,.pure e])],[],1⟩)
 (.cc (lzc c d.Link) fun g=>
 .br (!g)
 (.oo true)
 (.br (decide (d.Radius<1))
 (.oo true)
 (.br (decide (d.Radius>1048576))
 (.oo true)
 (.br (decide (f<1))
 (.oo true)
 (.oo (decide (f>8))))))) fun g=>
 .br g
 (.ret 902)
 (.loop (fun (h:Int)=>⟨[(37,.pure e),(38,pz f),(39,pz h)],[],[],0⟩)
 (.exit 0) (fun (_:U0)=>⟨[],[],[],0⟩)
 (fun h=>let i:=d.Points.getD (h.toNat) default;.br (decide (h<f))
 (.gh h d.Points.length<|
 .loop (fun (j:Int)=>⟨[(37,.pure e),(38,pz f),(39,pz h),(43,.pure (az3 i)),(44,pz j)],[],[],0⟩)
 (.exit 2) (fun (_:U0)=>⟨[(37,.pure e),(38,pz f),(39,pz h)],[],[],0⟩)
 (fun j=>.br (decide (j<3))
 (.gh j 3<|
 .name 9000 ((([i.1,i.2.1,i.2.2]:List Int).getD j.toNat 0)) fun k=>
 .cut 0 (fun (l:Bool)=>⟨[(37,.pure e),(38,pz f),(39,pz h),(43,.pure (az3 i)),(44,pz j),(52,.pure (.bool l))],[],[],0⟩)
 (.br (decide (k<(-4194304)))
 (.oo true)
 (.oo (decide (k>4194304)))) fun l=>
 .br l
 (.ff (.fin 805))
 (.nn (i64.wrap (j+1))))
 (.oo .u))
 0 [] fun _=>
 .nn (i64.wrap (h+1)))
 (.oo .u))
 0 [] fun _=>
 .ret 0)
noncomputable def qza (c)(d):=
 mkD Tryz.func207 (jzn c d) 0 [.pure (cz6 c),.pure (azj d)] [] (fun r=>pz r) (fun _=>[])
noncomputable def uzl (c:azd):T Int:=let d:=encL 2 azw c.Skips;let e:=encL 3 azj c.Shapes;let f:=(c.Skips.length:Int);let g:=(c.Shapes.length:Int);let h:Nat×Res:=(0,.box [.pure (encL 12 az9 c.Robot.Joints),.pure (encL 5 aze c.Robot.Masses),.pure e,.pure d]);.cc (fzj c.Robot) fun i=>
 .br (i !=0)
 (.ret i)
 (.br (decide (g>24))
 (.ret 901)
 (.loop (fun (j:Int)=>⟨[(1,.ptr 0 0),(20,.pure e),(21,pz g),(22,pz j)],[h],[],1⟩)
 (.exit 0) (fun (_:U0)=>⟨[(1,.ptr 0 0)],[h],[],1⟩)
 (fun j=>.br (decide (j<g))
 (.gh j c.Shapes.length<|
 .cc (qza c (c.Shapes.getD (j.toNat) default)) fun k=>
 .br (k !=0)
 (.ff k)
 (.nn (i64.wrap (j+1))))
 (.oo .u))
 0 [] fun _=>
 .br (decide (f>64))
 (.ret 903)
 (.loop (fun (j:Int)=>⟨[(1,.ptr 0 0),(38,.pure d),(39,pz f),(40,pz j)],[h],[],1⟩)
 (.exit 2) (fun (_:U0)=>⟨[],[],[],0⟩)
 (fun j=>let k:=c.Skips.getD (j.toNat) default;.br (decide (j<f))
 (.gh j c.Skips.length<|
 .cut 0 (fun (l:Bool)=>⟨[(1,.ptr 0 0),(38,.pure d),(39,pz f),(40,pz j),(55,.pure (.bool l))],[h],[],1⟩)
 (.cc (lzc c (k.A)) fun l=>
 .br (!l)
 (.oo true)
 (.cc (lzc c (k.B)) fun m=>
 .oo (!m))) fun l=>
 .br l
 (.ff 903)
 (.nn (i64.wrap (j+1))))
 (.oo .u))
 0 [] fun _=>
 .ret 0)))
noncomputable def jzl (c):=
 mkD Tryz.func168 (uzl c) 0 [.pure (cz6 c)] [] (fun r=>pz r) (fun _=>[])
noncomputable def hza (c:azz):T Ah:=
 .cc (jzl c.scene) fun d=>
 .br (d !=0)
 (.ret (0,904))
 (.ret (0,0))
noncomputable def lzb (c):=
 mkD Tryz.func115 (hza c) 0 [.pure (fz5 c)] [] (fun r=>.tup [pz r.1,pz r.2]) (fun _=>[])
noncomputable def gzg (c:azz):T Ah:=
 .cut 2 (fun (d:Bool)=>⟨[(19,.pure (.bool d))],[],[],0⟩)
 (.cc (izm c.scene.Robot c.p) fun d=>
 .br (!d)
 (.oo true)
 (.cc (izm c.scene.Robot c.q) fun e=>
 .oo (!e))) fun d=>
 .br d
 (.ret (0,1201))
 (.ret (0,0))
noncomputable def jze (c):=
 mkD Tryz.func116 (gzg c) 0 [.pure (fz5 c)] [] (fun r=>.tup [pz r.1,pz r.2]) (fun _=>[])
noncomputable def pz0 (c:azz):T Ah:=let d:=encL 3 azx c.pieces;let e:=(c.pieces.length:Int);let f:Nat×Res:=(0,.box [.pure (encL 12 az9 c.scene.Robot.Joints),.pure (encL 5 aze c.scene.Robot.Masses),.pure (encL 3 azj c.scene.Shapes),.pure (encL 2 azw c.scene.Skips),.pure (encL 1 az1 c.p),.pure (encL 1 az1 c.q),.pure d]);.loop (fun (g:Ah)=>⟨[(1,.ptr 0 0),(4,pz g.1),(9,.pure d),(10,pz e),(11,pz g.2)],[f],[],1⟩)
 (.exit 0) (fun (g:Int)=>⟨[(1,.ptr 0 0),(4,pz g)],[f],[],1⟩)
 (fun g=>let h:=c.pieces.getD ((g.2).toNat) default;let i:=h.Depth;let j:=h.Index;let k:=min i.toNat 64;let l:=(1048576:Int).fdiv (2 ^ k);let m:Nat×Res:=(1,.box [pz i,pz j,.pure (encL 3 az3 (h.Normals))]);.br (decide (g.2<e))
 (.gh g.2 c.pieces.length<|
 .cut 1 (fun (n:Bool)=>⟨[(1,.ptr 0 0),(4,pz g.1),(5,pz g.2),(6,.ptr 1 0),(9,.pure d),(10,pz e),(11,pz g.2),(27,.pure (.bool n))],[f,m],[],2⟩)
 (.br (g.2==4096)
 (.oo true)
 (.br (decide (i<0))
 (.oo true)
 (.oo (decide (i>20))))) fun n=>
 .br n
 (.ff (g.2,2001))
 (.cut 1 (fun (s:Bool)=>⟨[(1,.ptr 0 0),(4,pz g.1),(5,pz g.2),(6,.ptr 1 0),(9,.pure d),(10,pz e),(11,pz g.2),(39,.pure (.bool s))],[f,m],[],2⟩)
 (.br (decide (j<0))
 (.oo true)
 (.grd (0≤i)<|
 .oo (decide (j≥(i64.wrap (1 * 2 ^ k)))))) fun s=>
 .br s
 (.ff (g.2,2001))
 (.grd (0≤i)<|
 .name 10003 ((i64.wrap (j * l))) fun t=>
 .br (t !=g.1)
 (.ff (g.2,2001))
 (.name 12002 ((i64.wrap (g.1+l))) fun w=>
 .nn (w,(i64.wrap (g.2+1)))))))
 (.oo g.1))
 (0,0) [] fun g=>
 .br (g !=1048576)
 (.ret (e,2001))
 (.ret (0,0))
noncomputable def xzs (c):=
 mkD Tryz.func117 (pz0 c) 0 [.pure (fz5 c)] [] (fun r=>.tup [pz r.1,pz r.2]) (fun _=>[])
noncomputable def kz9 (c:A0)(d:A0)(e:Int):T Bool:=
 .br ((c.length:Int)==(d.length:Int))
 (.cc (hz3 c) fun f=>
 .br f
 (.cc (hz3 d) fun g=>
 .br g
 (.br (decide (0≤e))
 (.ret (decide (e≤20)))
 (.ret false))
 (.ret false))
 (.ret false))
 (.ret false)
noncomputable def sz7 (c)(d)(e):=
 mkD Tryz.func170 (kz9 c d e) 0 [.pure (encL 1 az1 c),.pure (encL 1 az1 d),pz e] [] (fun r=>.pure (.bool r)) (fun _=>[])
noncomputable def tz5 (c:Int)(d:Int):T Int:=
 .grd (0≤d)<|
 .ret (c.fdiv (2 ^ (min d.toNat 64)))
noncomputable def tz4 (c)(d):=
 mkD Tryz.func173 (tz5 c d) 0 [pz c,pz d] [] (fun r=>pz r) (fun _=>[])
noncomputable def mz4 (c:Int)(d:Int)(e:Int)(f:Int):T (az0×Int×Int):=let g:=i64.wrap (d-c);let h:=i64.wrap (e * g);let i:=i64.wrap ((i64.wrap (e+1)) * g);.name 2003 ((min h i)) fun j=>
 .cc (tz4 j f) fun k=>
 .name 2010 ((max h i)) fun l=>
 .cc (tz4 (i64.wrap (0-l)) f) fun m=>
 .ret ((⟨(i64.wrap (c+k)),(i64.wrap (c-m))⟩:az0),e,f)
noncomputable def vz0 (c)(d)(e)(f):=
 mkD Tryz.func172 (mz4 c d e f) 2 [pz c,pz d,.ptr 0 0,.ptr 1 0] [(0,.box [pz e]),(1,.box [pz f])] (fun r=>.pure (az7 r.1)) (fun r=>[(0,.box [pz r.2.1]),(1,.box [pz r.2.2])])
noncomputable def czf (c:A0)(d:A0)(e:Int)(f:Int):T (A9×Int×Int):=let g:=(c.length:Int);.conv 1002 (Gz5 2 az7 117 g.toNat (⟨0,0⟩:az0))<|
 .grd (0≤g/\g≤g/\g≤9223372036854775807/\g * 16≤140737488355328)<|
 .loop (fun (h:(Int×Int×A9×Int))=>⟨[(1,.pure (encL 1 az1 d)),(2,.func 172 [] [.ptr 0 0,.ptr 1 0]),(7,.vec 2),(13,.pure (encL 1 az1 c)),(14,pz g),(15,pz h.2.2.2)],[(0,.box [pz h.1]),(1,.box [pz h.2.1]),(2,vecO 2 az7 h.2.2.1 117)],[],3⟩)
 (.exit 0) (fun (h:(Int×Int×A9))=>⟨[(7,.vec 2)],[(0,.box [pz h.1]),(1,.box [pz h.2.1]),(2,vecO 2 az7 h.2.2 117)],[],3⟩)
 (fun h=>let i:=(h.2.2.2).toNat;.br (decide (h.2.2.2<g))
 (.gh h.2.2.2 c.length<|
 .gh h.2.2.2 d.length<|
 .call (vz0 (c.getD i default) (d.getD i default) h.1 h.2.1) [(0,0),(1,1)] fun j=>
 .gh h.2.2.2 h.2.2.1.length<|
 .conv 5010 (bzm 2 az7 h.2.2.1 117 i j.1)<|
 .gi (h.2.2.2) h.2.2.1.length<|
 .nn (j.2.1,j.2.2,(h.2.2.1.set i j.1),(i64.wrap (h.2.2.2+1))))
 (.oo (h.1,h.2.1,h.2.2.1)))
 (e,f,(List.replicate g.toNat ((⟨0,0⟩:az0):az0)),0) [] fun h=>
 .ret (h.2.2,h.1,h.2.1)
noncomputable def dzo (c)(d)(e)(f):=
 mkD Tryz.func171 (czf c d e f) 2 [.pure (encL 1 az1 c),.pure (encL 1 az1 d),.func 172 [] [.ptr 0 0,.ptr 1 0]] [(0,.box [pz e]),(1,.box [pz f])] (fun r=>.pure (encL 2 az7 r.1)) (fun r=>[(0,.box [pz r.2.1]),(1,.box [pz r.2.2])])
noncomputable def qzn (c:A0)(d:A0)(e:Int)(f:Int):T (A9×Bool):=
 .cut 2 (fun (g:Bool)=>⟨[(0,.pure (encL 1 az1 c)),(1,.pure (encL 1 az1 d)),(6,.ptr 0 0),(7,.ptr 1 0),(24,.pure (.bool g))],[(0,.box [pz e]),(1,.box [pz f])],[],2⟩)
 (.cc (sz7 c d e) fun g=>
 .br (!g)
 (.oo true)
 (.br (decide (f<0))
 (.oo true)
 (.grd (0≤e)<|
 .oo (decide (f≥(i64.wrap (1 * 2 ^ (min e.toNat 64)))))))) fun g=>
 .br g
 (.ret (nl,false))
 (.call (dzo c d f e) [(0,1),(1,0)] fun h=>
 .ret (h.1,true))
noncomputable def qzm (c)(d)(e)(f):=
 mkD Tryz.func120 (qzn c d e f) 0 [.pure (encL 1 az1 c),.pure (encL 1 az1 d),pz e,pz f] [] (fun r=>.tup [.pure (encL 2 az7 r.1),.pure (.bool r.2)]) (fun _=>[])
noncomputable def mz9 (c:az0):T Bool:=
 .br (decide ((-2147483648)≤c.Lo))
 (.br (decide (c.Lo≤c.Hi))
 (.ret (decide (c.Hi≤2147483648)))
 (.ret false))
 (.ret false)
noncomputable def czc (c):=
 mkD Tryz.func240 (mz9 c) 0 [.pure (az7 c)] [] (fun r=>.pure (.bool r)) (fun _=>[])
end Go.Abs
