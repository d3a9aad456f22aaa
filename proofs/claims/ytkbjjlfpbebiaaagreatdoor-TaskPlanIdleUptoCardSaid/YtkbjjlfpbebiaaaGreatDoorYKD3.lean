/-
  D3 (a part of a claim: our own text).
-/
import Derived.Test.YtkbjjlfpbebiaaaGreatDoorYKM2
namespace Go.Abs
open IntKind (i64)
open Go.Proofs
noncomputable def Bzm (c:az0)(d:az0):T az0:=
 .cc (jzv c d) fun e=>
 .br (!e)
 (.ret (⟨0,0⟩:az0))
 (.ret (⟨(min c.Lo d.Lo),(max c.Hi d.Hi)⟩:az0))
noncomputable def ezu (c)(d):=
 mkD Tryz.func465 (Bzm c d) 0 [.pure (azd c),.pure (azd d)] [] (fun r=>.pure (azd r)) (fun _=>[])
noncomputable def Ez3 (c:az0)(d:Int):T Bool:=
 .cc (bzz c) fun e=>
 .br e
 (.br (decide (c.Lo≤d))
 (.ret (decide (d≤c.Hi)))
 (.ret false))
 (.ret false)
noncomputable def Ez2 (c)(d):=
 mkD Tryz.func470 (Ez3 c d) 0 [.pure (azd c),pz d] [] (fun r=>.pure (.bool r)) (fun _=>[])
noncomputable def Gz2 (c:az0)(d:Int):T Bool:=
 .cc (lz0 (i64.wrap (d-c.Lo))) fun e=>
 .cc (Ez2 c (i64.wrap (c.Lo+e))) fun f=>
 .ret f
noncomputable def kzf (c)(d):=
 mkD Tryz.func466 (Gz2 c d) 0 [.pure (azd c),pz d] [] (fun r=>.pure (.bool r)) (fun _=>[])
noncomputable def Izf (c:az0)(d:Int)(e:Int):T az0:=
 .cc (bzz c) fun f=>
 .br (!f)
 (.ret (⟨0,0⟩:az0))
 (.cc (ozy c) fun g=>
 .br (decide (g≥65536))
 (.ret (⟨(-65536),65536⟩:az0))
 (.cc (Azh c.Lo) fun h=>
 .cc (Azh c.Hi) fun i=>
 .cc (ezu h i) fun j=>
 .cut 0 (fun (k:Ay)=>⟨[(3,pz e),(4,.ptr 0 0),(8,.ptr 1 0),(9,.ptr 2 0)],[(0,.box [pz c.Lo,pz c.Hi]),(1,.box [pz 0,pz 0]),(2,.box [pz k.1,pz k.2])],[],3⟩)
 (.cc (kzf c d) fun k=>
 .br k
 (.cc (czi 65536) fun m=>
 .cc (ezu j m) fun n=>
 .oo (n.Lo,n.Hi))
 (.oo (j.Lo,j.Hi))) fun k=>
 .cut 0 (fun (m:Ay)=>⟨[(8,.ptr 0 0),(9,.ptr 1 0)],[(0,.box [pz 0,pz 0]),(1,.box [pz m.1,pz m.2])],[],2⟩)
 (.cc (kzf c e) fun m=>
 .br m
 (.cc (czi (-65536)) fun n=>
 .cc (ezu (⟨k.1,k.2⟩:az0) n) fun s=>
 .oo (s.Lo,s.Hi))
 (.oo (k.1,k.2))) fun m=>
 .ret (⟨m.1,m.2⟩:az0)))
noncomputable def Ize (c)(d)(e):=
 mkD Tryz.func455 (Izf c d e) 0 [.pure (azd c),.func 456 [] [],pz d,pz e] [] (fun r=>.pure (azd r)) (fun _=>[])
noncomputable def Azg (c:az0):T az0:=
 .cc (Ize c 0 32768) fun d=>
 .ret d
noncomputable def Azf (c):=
 mkD Tryz.func426 (Azg c) 0 [.pure (azd c)] [] (fun r=>.pure (azd r)) (fun _=>[])
noncomputable def Dzl (c:az0)(d:Int)(e:Int):T az0:=
 .cc (bzz c) fun f=>
 .br (!f)
 (.ret (⟨0,0⟩:az0))
 (.cc (ozy c) fun g=>
 .br (decide (g≥65536))
 (.ret (⟨(-65536),65536⟩:az0))
 (.cc (szj c.Lo) fun h=>
 .cc (szj c.Hi) fun i=>
 .cc (ezu h i) fun j=>
 .cut 0 (fun (k:Ay)=>⟨[(3,pz e),(4,.ptr 0 0),(8,.ptr 1 0),(9,.ptr 2 0)],[(0,.box [pz c.Lo,pz c.Hi]),(1,.box [pz 0,pz 0]),(2,.box [pz k.1,pz k.2])],[],3⟩)
 (.cc (kzf c d) fun k=>
 .br k
 (.cc (czi 65536) fun m=>
 .cc (ezu j m) fun n=>
 .oo (n.Lo,n.Hi))
 (.oo (j.Lo,j.Hi))) fun k=>
 .cut 0 (fun (m:Ay)=>⟨[(8,.ptr 0 0),(9,.ptr 1 0)],[(0,.box [pz 0,pz 0]),(1,.box [pz m.1,pz m.2])],[],2⟩)
 (.cc (kzf c e) fun m=>
 .br m
 (.cc (czi (-65536)) fun n=>
 .cc (ezu (⟨k.1,k.2⟩:az0) n) fun s=>
 .oo (s.Lo,s.Hi))
 (.oo (k.1,k.2))) fun m=>
 .ret (⟨m.1,m.2⟩:az0)))
noncomputable def Dzk (c)(d)(e):=
 mkD Tryz.func455 (Dzl c d e) 0 [.pure (azd c),.func 457 [] [],pz d,pz e] [] (fun r=>.pure (azd r)) (fun _=>[])
noncomputable def Azj (c:az0):T az0:=
 .cc (Dzk c 16384 49152) fun d=>
 .ret d
noncomputable def Azi (c):=
 mkD Tryz.func427 (Azj c) 0 [.pure (azd c)] [] (fun r=>.pure (azd r)) (fun _=>[])
noncomputable def Hza (c:Int)(d:az0):T Bo:=let e:=(⟨d.Lo,d.Hi⟩:az0);.cc (bzz d) fun f=>
 .br (!f)
 (.ret (((⟨0,0⟩:az0),(⟨0,0⟩:az0),(⟨0,0⟩:az0)),((⟨0,0⟩:az0),(⟨0,0⟩:az0),(⟨0,0⟩:az0)),((⟨0,0⟩:az0),(⟨0,0⟩:az0),(⟨0,0⟩:az0))))
 (.cc (Azf e) fun g=>
 .cc (Azi e) fun h=>
 .cc (mzq h) fun i=>
 .cc (czi 65536) fun j=>
 .cc (czi 0) fun k=>
 .br (c==0)
 (.ret ((j,k,k),(k,g,i),(k,h,g)))
 (.br (c==1)
 (.ret ((g,k,h),(k,j,k),(i,k,g)))
 (.br (c==2)
 (.ret ((g,i,k),(h,g,k),(k,k,j)))
 (.ret (((⟨0,0⟩:az0),(⟨0,0⟩:az0),(⟨0,0⟩:az0)),((⟨0,0⟩:az0),(⟨0,0⟩:az0),(⟨0,0⟩:az0)),((⟨0,0⟩:az0),(⟨0,0⟩:az0),(⟨0,0⟩:az0)))))))
noncomputable def Hz9 (c)(d):=
 mkD Tryz.func391 (Hza c d) 0 [pz c,.pure (azd d)] [] (fun r=>.pure (bzj r)) (fun _=>[])
noncomputable def Lzi (c:Int)(d:az0):T czk:=
 .cc (Hz9 c (⟨d.Lo,d.Hi⟩:az0)) fun e=>
 .cc (yz0) fun f=>
 .ret (⟨e,f⟩:czk)
noncomputable def Lzh (c)(d):=
 mkD Tryz.func338 (Lzi c d) 0 [pz c,.pure (azd d)] [] (fun r=>.pure (dz1 r)) (fun _=>[])
noncomputable def Kzr (c:Int)(d:az0):T czk:=
 .cc (Lzh c (⟨d.Lo,d.Hi⟩:az0)) fun e=>
 .ret e
noncomputable def Kzq (c)(d):=
 mkD Tryz.func286 (Kzr c d) 0 [pz c,.pure (azd d)] [] (fun r=>.pure (dz1 r)) (fun _=>[])
noncomputable def uz2 (c:azs)(d:az0):T czk:=
 .cc (jz7 c.Offset) fun e=>
 .cc (qzg ((⟨e.1.Lo,e.1.Hi⟩:az0),(⟨e.2.1.Lo,e.2.1.Hi⟩:az0),(⟨e.2.2.Lo,e.2.2.Hi⟩:az0))) fun f=>let g:=(⟨f.R,f.T⟩:czk);
 .split (((hz7 c.Kind).o).isSome)
 (.cc (hz7 c.Kind) fun h=>
 .cc (Kzq h (⟨d.Lo,d.Hi⟩:az0)) fun i=>
 .cc (jz8 g i) fun j=>
 .ret j)
 (.split (((hz8 c.Kind).o).isSome)
 (.cc (hz8 c.Kind) fun h=>
 .cc (Izj h d) fun i=>
 .cc (jz8 f i) fun j=>
 .ret j)
 (.cc (nz8 c.Kind) fun h=>
 .cc (Kzo h d) fun i=>
 .cc (jz8 g (⟨i.R,i.T⟩:czk)) fun j=>
 .ret j))
noncomputable def uz1 (c)(d):=
 mkD Tryz.func146 (uz2 c d) 0 [.pure (az7 c),.pure (azd d)] [] (fun r=>.pure (dz1 r)) (fun _=>[])
noncomputable def uz6 (c:bz1)(d:Af):T Ag:=let e:=encL 2 azd d;let f:=encL 12 az7 c.Joints;let g:=(c.Joints.length:Int);.conv 1003 (rzh 24 dz1 132 g.toNat (⟨(((⟨0,0⟩:az0),(⟨0,0⟩:az0),(⟨0,0⟩:az0)),((⟨0,0⟩:az0),(⟨0,0⟩:az0),(⟨0,0⟩:az0)),((⟨0,0⟩:az0),(⟨0,0⟩:az0),(⟨0,0⟩:az0))),((⟨0,0⟩:az0),(⟨0,0⟩:az0),(⟨0,0⟩:az0))⟩:czk))<|
 .grd (0≤g/\g≤g/\g≤9223372036854775807/\g * 192≤140737488355328)<|
 .loop (fun (h:(Ag×Int))=>⟨[(1,.pure e),(5,.vec 0),(13,.pure f),(14,pz g),(15,pz h.2)],[(0,vecO 24 dz1 h.1 132)],[],1⟩)
 (.exit 0) (fun (h:Ag)=>⟨[(5,.vec 0)],[(0,vecO 24 dz1 h 132)],[],1⟩)
 (fun h=>let i:=(h.2).toNat;let j:=c.Joints.getD i default;let k:=j.Parent;.br (decide (h.2<g))
 (.cut 0 (fun (m:Ag)=>⟨[(1,.pure e),(5,.vec 0),(13,.pure f),(14,pz g),(15,pz h.2)],[(0,vecO 24 dz1 m 132)],[],1⟩)
 (.gh h.2 c.Joints.length<|
 .gh h.2 d.length<|
 .cc (uz1 j (d.getD i default)) fun m=>let n:=h.1.set i m;let s:=n.length;
 .gh h.2 h.1.length<|
 .conv 5009 (bze 24 dz1 h.1 132 i m)<|
 .gi (h.2) h.1.length<|
 .br (k !=(-1))
 (.gg k s<|
 .gg h.2 s<|
 .call (jz8 (n.getD (k.toNat) default) (n.getD i default)) [] fun t=>
 .gh h.2 s<|
 .conv 7013 (bze 24 dz1 n 132 i t)<|
 .gi (h.2) s<|
 .oo (n.set i t))
 (.oo n)) fun m=>
 .nn (m,(i64.wrap (h.2+1))))
 (.oo h.1))
 ((List.replicate g.toNat ((⟨(((⟨0,0⟩:az0),(⟨0,0⟩:az0),(⟨0,0⟩:az0)),((⟨0,0⟩:az0),(⟨0,0⟩:az0),(⟨0,0⟩:az0)),((⟨0,0⟩:az0),(⟨0,0⟩:az0),(⟨0,0⟩:az0))),((⟨0,0⟩:az0),(⟨0,0⟩:az0),(⟨0,0⟩:az0))⟩:czk):czk)),0) [] fun h=>
 .ret h
noncomputable def mz5 (c)(d):=
 mkD Tryz.func89 (uz6 c d) 0 [.pure (dz2 c),.pure (encL 2 azd d)] [] (fun r=>.pure (encL 24 dz1 r)) (fun _=>[])
noncomputable def uz4 (c:bz1)(d:Af):T Ag:=let e:=(⟨c.Joints,c.Masses⟩:bz1);.cut 2 (fun (f:Bool)=>⟨[(1,.pure (encL 2 azd d)),(2,.ptr 0 0),(13,.pure (.bool f))],[(0,.box [.pure (encL 12 az7 c.Joints),.pure (encL 5 azc c.Masses)])],[],1⟩)
 (.cc (mz4 e d) fun f=>
 .br (!f)
 (.oo true)
 (.cc (eze e) fun g=>
 .oo (g !=0))) fun f=>
 .br f
 (.ret nl)
 (.cc (mz5 e d) fun g=>
 .ret g)
noncomputable def uz3 (c)(d):=
 mkD Tryz.func52 (uz4 c d) 0 [.pure (dz2 c),.pure (encL 2 azd d)] [] (fun r=>.pure (encL 24 dz1 r)) (fun _=>[])
noncomputable def Jzs (c:czk)(d:Bm):T Bm:=
 .cc (xzz c) fun e=>
 .call (sza d e.1 e.2.1 e.2.2.1 e.2.2.2.1 e.2.2.2.2.1 e.2.2.2.2.2.1 e.2.2.2.2.2.2.1 e.2.2.2.2.2.2.2.1 e.2.2.2.2.2.2.2.2.1 e.2.2.2.2.2.2.2.2.2.1 e.2.2.2.2.2.2.2.2.2.2.1 e.2.2.2.2.2.2.2.2.2.2.2.1 e.2.2.2.2.2.2.2.2.2.2.2.2.1 e.2.2.2.2.2.2.2.2.2.2.2.2.2.1 e.2.2.2.2.2.2.2.2.2.2.2.2.2.2.1 e.2.2.2.2.2.2.2.2.2.2.2.2.2.2.2.1 e.2.2.2.2.2.2.2.2.2.2.2.2.2.2.2.2.1 e.2.2.2.2.2.2.2.2.2.2.2.2.2.2.2.2.2.1 e.2.2.2.2.2.2.2.2.2.2.2.2.2.2.2.2.2.2.1 e.2.2.2.2.2.2.2.2.2.2.2.2.2.2.2.2.2.2.2.1 e.2.2.2.2.2.2.2.2.2.2.2.2.2.2.2.2.2.2.2.2.1 e.2.2.2.2.2.2.2.2.2.2.2.2.2.2.2.2.2.2.2.2.2.1 e.2.2.2.2.2.2.2.2.2.2.2.2.2.2.2.2.2.2.2.2.2.2.1 e.2.2.2.2.2.2.2.2.2.2.2.2.2.2.2.2.2.2.2.2.2.2.2) [(0,256)] fun f=>
 .ret f.1
noncomputable def xzy (c)(d):=
 mkD Tryz.func54 (Jzs c d) 0 [.pure (dz1 c),.pure (az3 d)] [] (fun r=>.pure (az3 r)) (fun _=>[])
set_option maxHeartbeats 8000000 in
set_option maxRecDepth 20000 in
noncomputable def Nz5 (c:azb)(d:Int)(e:Int)(f:A0):T Bool:=let g:=i64.wrap (65536-c.Slack);let h:=i64.wrap (0-c.Slack);let i:=c.Hands.getD (d.toNat) default;let j:=i.Link;let k:=c.Places.getD (e.toNat) default;let m:=k.2.1;let n:=k.2.2;let s:Nat×Res:=(1,.box [pz (k.1),pz m,pz n]);let t:Nat×Res:=(1,.box [pz j,pz (i.Offset.1),pz (i.Offset.2.1),pz (i.Offset.2.2)]);let w:Nat×Res:=(0,.box [.pure (encL 12 az7 c.Scene.Robot.Joints),.pure (encL 5 azc c.Scene.Robot.Masses),.pure (encL 3 az8 c.Scene.Shapes),.pure (encL 2 aze c.Scene.Skips),.pure (encL 2 azh c.Objects),.pure (encL 3 az2 c.Places),.pure (encL 4 azv c.Hands),.pure (encL 3 azu c.Grips),pz c.Slack]);.cut 2 (fun (y:Bool)=>⟨[(1,pz d),(2,pz e),(3,.pure (encL 1 az1 f)),(4,.ptr 0 0),(35,.pure (.bool y))],[w],[],1⟩)
 (.cc (gz4 c) fun y=>
 .br (y !=0)
 (.oo true)
 (.cc (oz2 c d e) fun z=>
 .br (!z)
 (.oo true)
 (.cc (bzv c.Scene.Robot f) fun aa=>
 .oo (!aa)))) fun y=>
 .br y
 (.ret false)
 (.gh d c.Hands.length<|
 .cc (xzo f) fun z=>
 .cc (uz3 c.Scene.Robot z) fun aa=>let ab:=aa.getD (j.toNat) default;let ac:=bzj (ab.R);let ad:=az3 (ab.R.1);let ae:=ab.R.1.2.1.Lo;let af:=ab.R.1.2.1.Hi;let ag:=ab.R.1.2.2.Lo;let ah:=ab.R.1.2.2.Hi;let ai:=ab.R.2.1.1.Lo;let aj:=ab.R.2.1.1.Hi;let ak:=ab.R.2.2.1.Lo;let al:=ab.R.2.2.1.Hi;let am:=az3 (ab.R.2.1);let an:=az3 (ab.R.2.2);let ao:=ab.R.2.1.2.1.Lo;let ap:=ab.R.2.1.2.2.Lo;let aq:=ab.R.2.1.2.2.Hi;let ar:=ab.R.2.2.2.1.Lo;let au:=ab.R.2.2.2.1.Hi;let av:=ab.R.2.2.2.2.Lo;let aw:=decide (ae<h);let ax:=decide (ag<h);let ay:=decide (ai<h);let az:=decide (ap<h);let a0:=decide (ak<h);let a1:=decide (ar<h);let a2:=decide (af>c.Slack);let a3:=decide (ah>c.Slack);let a4:=decide (aj>c.Slack);let a5:=decide (aq>c.Slack);let a6:=decide (al>c.Slack);let a7:=decide (au>c.Slack);let a8:Nat×Res:=(2,.box [pz (ab.R.1.1.Lo),pz (ab.R.1.1.Hi),pz ae,pz af,pz ag,pz ah,pz ai,pz aj,pz ao,pz (ab.R.2.1.2.1.Hi),pz ap,pz aq,pz ak,pz al,pz ar,pz au,pz av,pz (ab.R.2.2.2.2.Hi),pz (ab.T.1.Lo),pz (ab.T.1.Hi),pz (ab.T.2.1.Lo),pz (ab.T.2.1.Hi),pz (ab.T.2.2.Lo),pz (ab.T.2.2.Hi)]);
 .gh j aa.length<|
 .unroll 4<|
 .known true<|
 .ix 0 3 rfl<|
 .unroll 4<|
 .known true<|
 .ix 0 3 rfl<|
 .known true<|
 .br (decide ((ab.R.1.1.Lo)<g))
 (.ret false)
 (.known false<|
 .lit 15000 (1)<|
 .known true<|
 .ix 1 3 rfl<|
 .known false<|
 .cut 0 (fun (a9:Bt)=>⟨[(2,pz e),(4,.ptr 0 0),(9,.ptr 1 0),(10,.ptr 2 0),(11,pz 0),(52,.pure ac),(53,pz 0),(57,.pure ad),(58,pz 1),(66,.tup []),(67,.tup []),(68,.tup []),(69,.tup []),(70,.tup []),(71,.tup []),(77,.ptr 3 0),(78,pz ae),(79,.ptr 0 8),(80,pz c.Slack),(81,pz h),(82,.pure (.bool aw)),(83,.pure (.bool a9.1)),(89,.pure (.bool a9.2.1)),(90,.pure (.bool a9.2.2))],[w,t,a8,(3,.box [pz ae,pz af])],[],4⟩)
 (.known true<|
 .br aw
 (.oo (true,true,true))
 (.oo (false,a2,a2))) fun a9=>
 .br a9.2.2
 (.ret false)
 (.lit 15000 (2)<|
 .known true<|
 .ix 2 3 rfl<|
 .known false<|
 .cut 0 (fun (ba:Bt)=>⟨[(2,pz e),(4,.ptr 0 0),(9,.ptr 1 0),(10,.ptr 2 0),(11,pz 0),(52,.pure ac),(53,pz 0),(57,.pure ad),(58,pz 2),(66,.tup []),(67,.tup []),(68,.tup []),(69,.tup []),(70,.tup []),(71,.tup []),(77,.ptr 3 0),(78,pz ag),(79,.ptr 0 8),(80,pz c.Slack),(81,pz h),(82,.pure (.bool ax)),(83,.pure (.bool ba.1)),(89,.pure (.bool ba.2.1)),(90,.pure (.bool ba.2.2))],[w,t,a8,(3,.box [pz ag,pz ah])],[],4⟩)
 (.known true<|
 .br ax
 (.oo (true,true,true))
 (.oo (false,a3,a3))) fun ba=>
 .br ba.2.2
 (.ret false)
 (.lit 15000 (3)<|
 .known false<|
 .lit 16000 (1)<|
 .known true<|
 .ix 1 3 rfl<|
 .unroll 4<|
 .known true<|
 .ix 0 3 rfl<|
 .known false<|
 .cut 0 (fun (bb:Bt)=>⟨[(2,pz e),(4,.ptr 0 0),(9,.ptr 1 0),(10,.ptr 2 0),(11,pz 1),(52,.pure ac),(53,pz 1),(57,.pure am),(58,pz 0),(66,.tup []),(67,.tup []),(68,.tup []),(69,.tup []),(70,.tup []),(71,.tup []),(77,.ptr 3 0),(78,pz ai),(79,.ptr 0 8),(80,pz c.Slack),(81,pz h),(82,.pure (.bool ay)),(83,.pure (.bool bb.1)),(89,.pure (.bool bb.2.1)),(90,.pure (.bool bb.2.2))],[w,t,a8,(3,.box [pz ai,pz aj])],[],4⟩)
 (.known true<|
 .br ay
 (.oo (true,true,true))
 (.oo (false,a4,a4))) fun bb=>
 .br bb.2.2
 (.ret false)
 (.lit 15000 (1)<|
 .known true<|
 .ix 1 3 rfl<|
 .known true<|
 .br (decide (ao<g))
 (.ret false)
 (.known false<|
 .lit 15000 (2)<|
 .known true<|
 .ix 2 3 rfl<|
 .known false<|
 .cut 0 (fun (bc:Bt)=>⟨[(2,pz e),(4,.ptr 0 0),(9,.ptr 1 0),(10,.ptr 2 0),(11,pz 1),(52,.pure ac),(53,pz 1),(57,.pure am),(58,pz 2),(66,.tup []),(67,.tup []),(68,.tup []),(69,.tup []),(70,.tup []),(71,.tup []),(77,.ptr 3 0),(78,pz ap),(79,.ptr 0 8),(80,pz c.Slack),(81,pz h),(82,.pure (.bool az)),(83,.pure (.bool bc.1)),(89,.pure (.bool bc.2.1)),(90,.pure (.bool bc.2.2))],[w,t,a8,(3,.box [pz ap,pz aq])],[],4⟩)
 (.known true<|
 .br az
 (.oo (true,true,true))
 (.oo (false,a5,a5))) fun bc=>
 .br bc.2.2
 (.ret false)
 (.lit 15000 (3)<|
 .known false<|
 .lit 16000 (2)<|
 .known true<|
 .ix 2 3 rfl<|
 .unroll 4<|
 .known true<|
 .ix 0 3 rfl<|
 .known false<|
 .cut 0 (fun (bd:Bt)=>⟨[(2,pz e),(4,.ptr 0 0),(9,.ptr 1 0),(10,.ptr 2 0),(11,pz 2),(52,.pure ac),(53,pz 2),(57,.pure an),(58,pz 0),(66,.tup []),(67,.tup []),(68,.tup []),(69,.tup []),(70,.tup []),(71,.tup []),(77,.ptr 3 0),(78,pz ak),(79,.ptr 0 8),(80,pz c.Slack),(81,pz h),(82,.pure (.bool a0)),(83,.pure (.bool bd.1)),(89,.pure (.bool bd.2.1)),(90,.pure (.bool bd.2.2))],[w,t,a8,(3,.box [pz ak,pz al])],[],4⟩)
 (.known true<|
 .br a0
 (.oo (true,true,true))
 (.oo (false,a6,a6))) fun bd=>
 .br bd.2.2
 (.ret false)
 (.lit 15000 (1)<|
 .known true<|
 .ix 1 3 rfl<|
 .known false<|
 .cut 0 (fun (be:Bt)=>⟨[(2,pz e),(4,.ptr 0 0),(9,.ptr 1 0),(10,.ptr 2 0),(11,pz 2),(52,.pure ac),(53,pz 2),(57,.pure an),(58,pz 1),(66,.tup []),(67,.tup []),(68,.tup []),(69,.tup []),(70,.tup []),(71,.tup []),(77,.ptr 3 0),(78,pz ar),(79,.ptr 0 8),(80,pz c.Slack),(81,pz h),(82,.pure (.bool a1)),(83,.pure (.bool be.1)),(89,.pure (.bool be.2.1)),(90,.pure (.bool be.2.2))],[w,t,a8,(3,.box [pz ar,pz au])],[],4⟩)
 (.known true<|
 .br a1
 (.oo (true,true,true))
 (.oo (false,a7,a7))) fun be=>
 .br be.2.2
 (.ret false)
 (.lit 15000 (2)<|
 .known true<|
 .ix 2 3 rfl<|
 .known true<|
 .br (decide (av<g))
 (.ret false)
 (.known false<|
 .lit 15000 (3)<|
 .known false<|
 .lit 16000 (3)<|
 .known false<|
 .gh e c.Places.length<|
 .cc (jz7 (i.Offset)) fun bf=>
 .call (xzy ab bf) [] fun bg=>let bh:=az3 bg;
 .unroll 4<|
 .known true<|
 .ix 0 3 rfl<|
 .cut 0 (fun (bi:Bool)=>⟨[(4,.ptr 0 0),(15,.ptr 1 0),(102,.pure bh),(103,pz 0),(126,.pure (.bool bi))],[w,s],[],2⟩)
 (.ix 0 3 rfl<|
 .br (decide (bg.1.Lo<(i64.wrap ((k.1)-c.Slack))))
 (.oo true)
 (.ix 0 3 rfl<|
 .oo (decide (bg.1.Hi>(i64.wrap ((k.1)+c.Slack)))))) fun bi=>
 .br bi
 (.ret false)
 (.lit 23000 (1)<|
 .known true<|
 .ix 1 3 rfl<|
 .cut 0 (fun (bj:Bool)=>⟨[(4,.ptr 0 0),(15,.ptr 1 0),(102,.pure bh),(103,pz 1),(126,.pure (.bool bj))],[w,s],[],2⟩)
 (.ix 1 3 rfl<|
 .br (decide (bg.2.1.Lo<(i64.wrap (m-c.Slack))))
 (.oo true)
 (.ix 1 3 rfl<|
 .oo (decide (bg.2.1.Hi>(i64.wrap (m+c.Slack)))))) fun bj=>
 .br bj
 (.ret false)
 (.lit 23000 (2)<|
 .known true<|
 .ix 2 3 rfl<|
 .cut 0 (fun (bk:Bool)=>⟨[(4,.ptr 0 0),(15,.ptr 1 0),(102,.pure bh),(103,pz 2),(126,.pure (.bool bk))],[w,s],[],2⟩)
 (.ix 2 3 rfl<|
 .br (decide (bg.2.2.Lo<(i64.wrap (n-c.Slack))))
 (.oo true)
 (.ix 2 3 rfl<|
 .oo (decide (bg.2.2.Hi>(i64.wrap (n+c.Slack)))))) fun bk=>
 .br bk
 (.ret false)
 (.lit 23000 (3)<|
 .known false<|
 .ret true)))))))))))))
noncomputable def Fzm (c)(d)(e)(f):=
 mkD Tryz.func29 (Nz5 c d e f) 0 [.pure (bzm c),pz d,pz e,.pure (encL 1 az1 f)] [] (fun r=>.pure (.bool r)) (fun _=>[])
noncomputable def zzh (c:bz1):T A0:=let d:=encL 12 az7 c.Joints;let e:=(c.Joints.length:Int);let f:=i64.wrap (e+1);let g:=List.replicate f.toNat (0:Int);.conv 1004 (rzh 1 az1 3 f.toNat 0)<|
 .grd (0≤f/\f≤f/\f≤9223372036854775807/\f * 8≤140737488355328)<|
 .gh (0:Int) (g.length)<|
 .conv 2002 (bze 1 az1 g 3 ((0:Int).toNat) (-1))<|
 .gi (0:Int) (g.length)<|
 .loop (fun (h:A3)=>⟨[(3,.vec 0),(14,.pure d),(15,pz e),(16,pz h.2)],[(0,vecO 1 az1 h.1 3)],[],1⟩)
 (.exit 0) (fun (h:A0)=>⟨[(3,.vec 0)],[(0,vecO 1 az1 h 3)],[],1⟩)
 (fun h=>let i:=i64.wrap (h.2+1);let j:=i.toNat;let k:=h.1.set j h.2;let m:=k.length;let n:=c.Joints.getD ((h.2).toNat) default;let s:=i64.wrap ((n.Parent)+1);.br (decide (h.2<e))
 (.cut 0 (fun (t:A0)=>⟨[(3,.vec 0),(14,.pure d),(15,pz e),(16,pz h.2)],[(0,vecO 1 az1 t 3)],[],1⟩)
 (.gh h.2 c.Joints.length<|
 .gh i h.1.length<|
 .conv 6005 (bze 1 az1 h.1 3 j h.2)<|
 .gi (i) h.1.length<|
 .br ((n.Lo)==(n.Hi))
 (.gg s m<|
 .name 8008 ((k.getD (s.toNat) default)) fun t=>
 .gh i m<|
 .conv 8010 (bze 1 az1 k 3 j t)<|
 .gi (i) m<|
 .oo (k.set j t))
 (.oo k)) fun t=>
 .nn (t,i))
 (.oo h.1))
 ((g.set ((0:Int).toNat) (-1)),0) [] fun h=>
 .ret h
noncomputable def zzg (c):=
 mkD Tryz.func217 (zzh c) 0 [.pure (dz2 c)] [] (fun r=>.pure (encL 1 az1 r)) (fun _=>[])
noncomputable def Czu (c:azx)(d:Int)(e:Int):T Bool:=let f:=encL 2 aze c.Skips;let g:=(c.Skips.length:Int);.loop (fun (h:Int)=>⟨[(1,pz d),(2,pz e),(10,.pure f),(11,pz g),(12,pz h)],[],[],0⟩)
 (.exit 0) (fun (_:U0)=>⟨[],[],[],0⟩)
 (fun h=>let i:=c.Skips.getD (h.toNat) default;.br (decide (h<g))
 (.gh h c.Skips.length<|
 .cut 0 (fun (j:Bool)=>⟨[(1,pz d),(2,pz e),(10,.pure f),(11,pz g),(12,pz h),(27,.pure (.bool j))],[],[],0⟩)
 (.br (((i.A)==d)&&(((i.B)==e)&&true))
 (.oo true)
 (.oo (((i.A)==e)&&(((i.B)==d)&&true)))) fun j=>
 .br j
 (.ff true)
 (.nn (i64.wrap (h+1))))
 (.oo .u))
 0 [] fun _=>
 .ret false
noncomputable def Czt (c)(d)(e):=
 mkD Tryz.func218 (Czu c d e) 0 [.pure (czl c),pz d,pz e] [] (fun r=>.pure (.bool r)) (fun _=>[])
noncomputable def Hzv (c:azx):T Ah:=let d:=encL 3 az8 c.Shapes;let e:=(c.Shapes.length:Int);let f:Nat×Res:=(0,.box [.pure (encL 12 az7 c.Robot.Joints),.pure (encL 5 azc c.Robot.Masses),.pure d,.pure (encL 2 aze c.Skips)]);.cc (dze c) fun g=>
 .br (g !=0)
 (.ret nl)
 (.cc (zzg c.Robot) fun h=>let i:=encL 1 az1 h;
 .loop (fun (j:(Ah×Int))=>⟨[(1,.ptr 0 0),(3,.pure i),(4,.vec 1),(17,.pure d),(18,pz e),(19,pz j.2)],[f,(1,vecO 2 gz3 j.1 254)],[],2⟩)
 (.exit 0) (fun (j:Ah)=>⟨[(4,.vec 0)],[(0,vecO 2 gz3 j 254)],[],1⟩)
 (fun j=>let k:=c.Shapes.getD ((j.2).toNat) default;let m:=k.Link;let n:=i64.wrap (m+1);let s:=i64.wrap (j.2+1);let t:Nat×Res:=(2,.box [pz m,pz (k.Radius),.pure (encL 3 az2 (k.Points))]);.br (decide (j.2<e))
 (.gh j.2 c.Shapes.length<|
 .loop (fun (w:(Ah×Int))=>⟨[(1,.ptr 0 0),(3,.pure i),(4,.vec 1),(5,pz j.2),(6,.ptr 2 0),(7,pz w.2),(17,.pure d),(18,pz e),(19,pz j.2)],[f,(1,vecO 2 gz3 w.1 254),t],[],3⟩)
 (.exit 2) (fun (w:Ah)=>⟨[(1,.ptr 0 0),(3,.pure i),(4,.vec 1),(17,.pure d),(18,pz e),(19,pz j.2)],[f,(1,vecO 2 gz3 w 254)],[],2⟩)
 (fun w=>let y:=([(⟨j.2,w.2⟩:hz5)]:Ah);let z:=w.1.length+y.length;let aa:=(c.Shapes.getD ((w.2).toNat) default).Link;let ab:=i64.wrap (aa+1);.br (decide (w.2<e))
 (.cut 0 (fun (ac:Ah)=>⟨[(1,.ptr 0 0),(3,.pure i),(4,.vec 1),(5,pz j.2),(6,.ptr 2 0),(7,pz w.2),(17,.pure d),(18,pz e),(19,pz j.2)],[f,(1,vecO 2 gz3 ac 254),t],[],3⟩)
 (.gh w.2 c.Shapes.length<|
 .gh n h.length<|
 .gh ab h.length<|
 .name 12011 ((h.getD (ab.toNat) default)) fun ac=>
 .cut 0 (fun (ad:Bool)=>⟨[(1,.ptr 0 0),(3,.pure i),(4,.vec 1),(5,pz j.2),(6,.ptr 2 0),(7,pz w.2),(17,.pure d),(18,pz e),(19,pz j.2),(61,.pure (.bool ad))],[f,(1,vecO 2 gz3 w.1 254),t],[],3⟩)
 (.br (!((h.getD (n.toNat) default)==ac))
 (.cc (Czt c m aa) fun ad=>
 .oo (!ad))
 (.oo false)) fun ad=>
 .br ad
 (.conv 14004 (bzl 2 gz3 y 254)<|
 .conv 14005 (czq 2 gz3 w.1 y 254)<|
 .grd (z * 16≤140737488355328/\z≤maxLen)<|
 .oo (w.1++y))
 (.oo w.1)) fun ac=>
 .nn (ac,(i64.wrap (w.2+1))))
 (.oo w.1))
 (j.1,s) [] fun w=>
 .nn (w,s))
 (.oo j.1))
 (nl,0) [] fun j=>
 .ret j)
noncomputable def Hzu (c):=
 mkD Tryz.func155 (Hzv c) 0 [.pure (czl c)] [] (fun r=>.pure (encL 2 gz3 r)) (fun _=>[])
noncomputable def Iz6 (c:azg)(d:czk):T Bn:=let e:=(c.Points.length:Int);.cc (ozn c) fun f=>
 .br (!f)
 (.ret nl)
 (.conv 3003 (rzh 6 az3 130 e.toNat ((⟨0,0⟩:az0),(⟨0,0⟩:az0),(⟨0,0⟩:az0)))<|
 .grd (0≤e/\e≤e/\e≤9223372036854775807/\e * 48≤140737488355328)<|
 .loop (fun (g:(Bn×Int))=>⟨[(3,.ptr 0 0),(5,.vec 1),(16,.pure (encL 3 az2 c.Points)),(17,pz e),(18,pz g.2)],[(0,.box [pz d.R.1.1.Lo,pz d.R.1.1.Hi,pz d.R.1.2.1.Lo,pz d.R.1.2.1.Hi,pz d.R.1.2.2.Lo,pz d.R.1.2.2.Hi,pz d.R.2.1.1.Lo,pz d.R.2.1.1.Hi,pz d.R.2.1.2.1.Lo,pz d.R.2.1.2.1.Hi,pz d.R.2.1.2.2.Lo,pz d.R.2.1.2.2.Hi,pz d.R.2.2.1.Lo,pz d.R.2.2.1.Hi,pz d.R.2.2.2.1.Lo,pz d.R.2.2.2.1.Hi,pz d.R.2.2.2.2.Lo,pz d.R.2.2.2.2.Hi,pz d.T.1.Lo,pz d.T.1.Hi,pz d.T.2.1.Lo,pz d.T.2.1.Hi,pz d.T.2.2.Lo,pz d.T.2.2.Hi]),(1,vecO 6 az3 g.1 130)],[],2⟩)
 (.exit 0) (fun (g:Bn)=>⟨[(5,.vec 0)],[(0,vecO 6 az3 g 130)],[],1⟩)
 (fun g=>let h:=(g.2).toNat;.br (decide (g.2<e))
 (.gh g.2 c.Points.length<|
 .cc (jz7 (c.Points.getD h default)) fun i=>
 .cc (xzy d i) fun j=>
 .gh g.2 g.1.length<|
 .conv 7007 (bze 6 az3 g.1 130 h j)<|
 .gi (g.2) g.1.length<|
 .nn ((g.1.set h j),(i64.wrap (g.2+1))))
 (.oo g.1))
 ((List.replicate e.toNat (((⟨0,0⟩:az0),(⟨0,0⟩:az0),(⟨0,0⟩:az0)):Bm)),0) [] fun g=>
 .ret g)
noncomputable def Iz5 (c)(d):=
 mkD Tryz.func220 (Iz6 c d) 0 [.pure (az8 c),.pure (dz1 d)] [] (fun r=>.pure (encL 6 az3 r)) (fun _=>[])
set_option maxHeartbeats 8000000 in
set_option maxRecDepth 20000 in
noncomputable def szz (a0:azx)(a1:Af):T (List Bn):=
 .cut 2 (fun (y12:Bool)=>⟨[(1,.pure (encL 2 azd a1)),(2,.ptr 0 0),(19,.pure (.bool y12))],[(0,.box [.pure (encL 12 az7 a0.Robot.Joints),.pure (encL 5 azc a0.Robot.Masses),.pure (encL 3 az8 a0.Shapes),.pure (encL 2 aze a0.Skips)])],[],1⟩)
 (.call (mz4 a0.Robot a1) [] fun y13=>
 .br (!y13)
 (.ret (.out true))
 (.call (dze a0) [] fun y14=>
 .ret (.out (y14 !=0)))) fun y12=>
 .br y12
 (.ret nl)
 (.call (mz5 a0.Robot a1) [] fun y16=>
 .conv 4003 (Szo 1 (encL 6 az3) 194 ((a0.Shapes.length:Int)).toNat nl (.lst 0 0 fun _=>.unk) (by kernel_rfl))<|
 .grd (0≤(a0.Shapes.length:Int)/\(a0.Shapes.length:Int)≤(a0.Shapes.length:Int)/\(a0.Shapes.length:Int)≤9223372036854775807/\(a0.Shapes.length:Int) * 24≤140737488355328)<|
 .loop (fun (x53:((List Bn)×Int))=>⟨[(5,.pure (encL 24 dz1 y16)),(6,.vec 0),(29,.pure (encL 3 az8 a0.Shapes)),(30,pz (a0.Shapes.length:Int)),(31,pz x53.2)],[(0,vecO 1 (encL 6 az3) x53.1 194)],[],1⟩)
 (.exit 0) (fun (y62:(List Bn))=>⟨[(6,.vec 0)],[(0,vecO 1 (encL 6 az3) y62 194)],[],1⟩)
 (fun x53=>.br (decide (x53.2<(a0.Shapes.length:Int)))
 (.grd (0≤x53.2/\x53.2<(a0.Shapes.length:Int))<|
 .call (qzf) [] fun y68=>
 .cut 0 (fun (y69:Ci)=>⟨[(5,.pure (encL 24 dz1 y16)),(6,.vec 0),(7,pz x53.2),(8,.ptr 1 0),(9,.ptr 2 0),(29,.pure (encL 3 az8 a0.Shapes)),(30,pz (a0.Shapes.length:Int)),(31,pz x53.2)],[(0,vecO 1 (encL 6 az3) x53.1 194),(1,.box [pz ((a0.Shapes.getD ((x53.2).toNat) default).Link),pz ((a0.Shapes.getD ((x53.2).toNat) default).Radius),.pure (encL 3 az2 ((a0.Shapes.getD ((x53.2).toNat) default).Points))]),(2,.box [pz y69.1,pz y69.2.1,pz y69.2.2.1,pz y69.2.2.2.1,pz y69.2.2.2.2.1,pz y69.2.2.2.2.2.1,pz y69.2.2.2.2.2.2.1,pz y69.2.2.2.2.2.2.2.1,pz y69.2.2.2.2.2.2.2.2.1,pz y69.2.2.2.2.2.2.2.2.2.1,pz y69.2.2.2.2.2.2.2.2.2.2.1,pz y69.2.2.2.2.2.2.2.2.2.2.2.1,pz y69.2.2.2.2.2.2.2.2.2.2.2.2.1,pz y69.2.2.2.2.2.2.2.2.2.2.2.2.2.1,pz y69.2.2.2.2.2.2.2.2.2.2.2.2.2.2.1,pz y69.2.2.2.2.2.2.2.2.2.2.2.2.2.2.2.1,pz y69.2.2.2.2.2.2.2.2.2.2.2.2.2.2.2.2.1,pz y69.2.2.2.2.2.2.2.2.2.2.2.2.2.2.2.2.2.1,pz y69.2.2.2.2.2.2.2.2.2.2.2.2.2.2.2.2.2.2.1,pz y69.2.2.2.2.2.2.2.2.2.2.2.2.2.2.2.2.2.2.2.1,pz y69.2.2.2.2.2.2.2.2.2.2.2.2.2.2.2.2.2.2.2.2.1,pz y69.2.2.2.2.2.2.2.2.2.2.2.2.2.2.2.2.2.2.2.2.2.1,pz y69.2.2.2.2.2.2.2.2.2.2.2.2.2.2.2.2.2.2.2.2.2.2.1,pz y69.2.2.2.2.2.2.2.2.2.2.2.2.2.2.2.2.2.2.2.2.2.2.2])],[],3⟩)
 (.br (((a0.Shapes.getD ((x53.2).toNat) default).Link) !=(-1))
 (.grd (0≤((a0.Shapes.getD ((x53.2).toNat) default).Link)/\((a0.Shapes.getD ((x53.2).toNat) default).Link)<(y16.length:Int))<|
 .ret (.out ((y16.getD (((a0.Shapes.getD ((x53.2).toNat) default).Link).toNat) default).R.1.1.Lo,(y16.getD (((a0.Shapes.getD ((x53.2).toNat) default).Link).toNat) default).R.1.1.Hi,(y16.getD (((a0.Shapes.getD ((x53.2).toNat) default).Link).toNat) default).R.1.2.1.Lo,(y16.getD (((a0.Shapes.getD ((x53.2).toNat) default).Link).toNat) default).R.1.2.1.Hi,(y16.getD (((a0.Shapes.getD ((x53.2).toNat) default).Link).toNat) default).R.1.2.2.Lo,(y16.getD (((a0.Shapes.getD ((x53.2).toNat) default).Link).toNat) default).R.1.2.2.Hi,(y16.getD (((a0.Shapes.getD ((x53.2).toNat) default).Link).toNat) default).R.2.1.1.Lo,(y16.getD (((a0.Shapes.getD ((x53.2).toNat) default).Link).toNat) default).R.2.1.1.Hi,(y16.getD (((a0.Shapes.getD ((x53.2).toNat) default).Link).toNat) default).R.2.1.2.1.Lo,(y16.getD (((a0.Shapes.getD ((x53.2).toNat) default).Link).toNat) default).R.2.1.2.1.Hi,(y16.getD (((a0.Shapes.getD ((x53.2).toNat) default).Link).toNat) default).R.2.1.2.2.Lo,(y16.getD (((a0.Shapes.getD ((x53.2).toNat) default).Link).toNat) default).R.2.1.2.2.Hi,(y16.getD (((a0.Shapes.getD ((x53.2).toNat) default).Link).toNat) default).R.2.2.1.Lo,(y16.getD (((a0.Shapes.getD ((x53.2).toNat) default).Link).toNat) default).R.2.2.1.Hi,(y16.getD (((a0.Shapes.getD ((x53.2).toNat) default).Link).toNat) default).R.2.2.2.1.Lo,(y16.getD (((a0.Shapes.getD ((x53.2).toNat) default).Link).toNat) default).R.2.2.2.1.Hi,(y16.getD (((a0.Shapes.getD ((x53.2).toNat) default).Link).toNat) default).R.2.2.2.2.Lo,(y16.getD (((a0.Shapes.getD ((x53.2).toNat) default).Link).toNat) default).R.2.2.2.2.Hi,(y16.getD (((a0.Shapes.getD ((x53.2).toNat) default).Link).toNat) default).T.1.Lo,(y16.getD (((a0.Shapes.getD ((x53.2).toNat) default).Link).toNat) default).T.1.Hi,(y16.getD (((a0.Shapes.getD ((x53.2).toNat) default).Link).toNat) default).T.2.1.Lo,(y16.getD (((a0.Shapes.getD ((x53.2).toNat) default).Link).toNat) default).T.2.1.Hi,(y16.getD (((a0.Shapes.getD ((x53.2).toNat) default).Link).toNat) default).T.2.2.Lo,(y16.getD (((a0.Shapes.getD ((x53.2).toNat) default).Link).toNat) default).T.2.2.Hi)))
 (.ret (.out (y68.R.1.1.Lo,y68.R.1.1.Hi,y68.R.1.2.1.Lo,y68.R.1.2.1.Hi,y68.R.1.2.2.Lo,y68.R.1.2.2.Hi,y68.R.2.1.1.Lo,y68.R.2.1.1.Hi,y68.R.2.1.2.1.Lo,y68.R.2.1.2.1.Hi,y68.R.2.1.2.2.Lo,y68.R.2.1.2.2.Hi,y68.R.2.2.1.Lo,y68.R.2.2.1.Hi,y68.R.2.2.2.1.Lo,y68.R.2.2.2.1.Hi,y68.R.2.2.2.2.Lo,y68.R.2.2.2.2.Hi,y68.T.1.Lo,y68.T.1.Hi,y68.T.2.1.Lo,y68.T.2.1.Hi,y68.T.2.2.Lo,y68.T.2.2.Hi)))) fun y69=>
 .call (Iz5 (a0.Shapes.getD ((x53.2).toNat) default) (⟨(((⟨y69.1,y69.2.1⟩:az0),(⟨y69.2.2.1,y69.2.2.2.1⟩:az0),(⟨y69.2.2.2.2.1,y69.2.2.2.2.2.1⟩:az0)),((⟨y69.2.2.2.2.2.2.1,y69.2.2.2.2.2.2.2.1⟩:az0),(⟨y69.2.2.2.2.2.2.2.2.1,y69.2.2.2.2.2.2.2.2.2.1⟩:az0),(⟨y69.2.2.2.2.2.2.2.2.2.2.1,y69.2.2.2.2.2.2.2.2.2.2.2.1⟩:az0)),((⟨y69.2.2.2.2.2.2.2.2.2.2.2.2.1,y69.2.2.2.2.2.2.2.2.2.2.2.2.2.1⟩:az0),(⟨y69.2.2.2.2.2.2.2.2.2.2.2.2.2.2.1,y69.2.2.2.2.2.2.2.2.2.2.2.2.2.2.2.1⟩:az0),(⟨y69.2.2.2.2.2.2.2.2.2.2.2.2.2.2.2.2.1,y69.2.2.2.2.2.2.2.2.2.2.2.2.2.2.2.2.2.1⟩:az0))),((⟨y69.2.2.2.2.2.2.2.2.2.2.2.2.2.2.2.2.2.2.1,y69.2.2.2.2.2.2.2.2.2.2.2.2.2.2.2.2.2.2.2.1⟩:az0),(⟨y69.2.2.2.2.2.2.2.2.2.2.2.2.2.2.2.2.2.2.2.2.1,y69.2.2.2.2.2.2.2.2.2.2.2.2.2.2.2.2.2.2.2.2.2.1⟩:az0),(⟨y69.2.2.2.2.2.2.2.2.2.2.2.2.2.2.2.2.2.2.2.2.2.2.1,y69.2.2.2.2.2.2.2.2.2.2.2.2.2.2.2.2.2.2.2.2.2.2.2⟩:az0))⟩:czk)) [] fun y70=>
 .grd (0≤x53.2/\x53.2<(x53.1.length:Int))<|
 .conv 11006 (bze 1 (encL 6 az3) x53.1 194 ((x53.2).toNat) y70)<|
 .grd ((x53.2).toNat<x53.1.length/\0≤(x53.2).toNat)<|
 .ret (.next ((x53.1.set ((x53.2).toNat) y70),(i64.wrap (x53.2+1)))))
 (.ret (.out x53.1)))
 ((List.replicate ((a0.Shapes.length:Int)).toNat (nl:Bn)),0) [] fun y62=>
 .ret y62)
noncomputable def szy (c)(d):=
 mkD Tryz.func156 (szz c d) 0 [.pure (czl c),.pure (encL 2 azd d)] [] (fun r=>.pure (encL 1 (encL 6 az3) r)) (fun _=>[])
noncomputable def yze (c:azx)(d:Af):T (cz7×Bool):=let e:=encL 2 azd d;let f:=(d.length:Int);let g:Nat×Res:=(0,.box [.pure (encL 12 az7 c.Robot.Joints),.pure (encL 5 azc c.Robot.Masses),.pure (encL 3 az8 c.Shapes),.pure (encL 2 aze c.Skips)]);.cut 2 (fun (h:Bool)=>⟨[(1,.pure e),(2,.ptr 0 0),(4,.ptr 1 0),(19,.pure (.bool h))],[g,(1,.box [.vec 2,.vec 3,.vec 4]),(2,.nilv),(3,.nilv),(4,.nilv)],[],5⟩)
 (.cc (dze c) fun h=>
 .br (h !=0)
 (.oo true)
 (.oo (f !=(c.Robot.Joints.length:Int)))) fun h=>
 .br h
 (.ret ((⟨nl,nl,nl⟩:cz7),false))
 (.loop (fun (i:Int)=>⟨[(1,.pure e),(2,.ptr 0 0),(4,.ptr 1 0),(21,.pure e),(22,pz f),(23,pz i)],[g,(1,.box [.vec 2,.vec 3,.vec 4]),(2,.nilv),(3,.nilv),(4,.nilv)],[],5⟩)
 (.exit 0) (fun (_:U0)=>⟨[(1,.pure e),(2,.ptr 0 0),(4,.ptr 1 0)],[g,(1,.box [.vec 2,.vec 3,.vec 4]),(2,.nilv),(3,.nilv),(4,.nilv)],[],5⟩)
 (fun i=>.br (decide (i<f))
 (.gh i d.length<|
 .cc (bzz (d.getD (i.toNat) default)) fun j=>
 .br (!j)
 (.ff ((⟨nl,nl,nl⟩:cz7),false))
 (.nn (i64.wrap (i+1))))
 (.oo .u))
 0 [] fun _=>
 .cc (Hzu c) fun i=>
 .cc (szy (⟨c.Robot,c.Shapes,c.Skips⟩:azx) d) fun j=>
 .ret ((⟨c.Shapes,i,j⟩:cz7),true))
noncomputable def ozw (c)(d):=
 mkD Tryz.func99 (yze c d) 0 [.pure (czl c),.pure (encL 2 azd d)] [] (fun r=>.tup [.pure (izt r.1),.pure (.bool r.2)]) (fun _=>[])
noncomputable def Gz5 (c:cz7)(d:Int):T ezq:=let e:=c.pairs.getD (d.toNat) default;let f:=e.A;let g:=e.B;.gh d c.pairs.length<|
 .gh f c.points.length<|
 .gh f c.shapes.length<|
 .gh g c.points.length<|
 .gh g c.shapes.length<|
 .ret (⟨(c.points.getD (f.toNat) default),(c.points.getD (g.toNat) default),(c.shapes.getD (f.toNat) default).Radius,(c.shapes.getD (g.toNat) default).Radius⟩:ezq)
noncomputable def tzi (c)(d):=
 mkD Tryz.func100 (Gz5 c d) 0 [.pure (izt c),pz d] [] (fun r=>.pure (szr r)) (fun _=>[])
noncomputable def rzt (c:Bn)(d:Int)(e:Bn)(f:Int)(g:Bh):T (Bn×Bn×Int×Int×Bh):=
 .ret (c,e,d,f,g)
noncomputable def rzs (c)(d)(e)(f)(g):=
 mkD Tryz.func158 (rzt c d e f g) 0 [.pure (encL 6 az3 c),pz d,.pure (encL 6 az3 e),pz f,.pure (encL 3 az2 g)] [] (fun _=>.func 221 [] [.ptr 0 0,.ptr 1 0,.ptr 2 0,.ptr 3 0,.ptr 4 0]) (fun r=>[(0,.box [.pure (encL 6 az3 r.1)]),(1,.box [.pure (encL 6 az3 r.2.1)]),(2,.box [pz r.2.2.1]),(3,.box [pz r.2.2.2.1]),(4,.box [.pure (encL 3 az2 r.2.2.2.2)])])
noncomputable def Jzr (c:Bn)(d:Int)(e:Bn)(f:Int):T czz:=
 .ret (⟨(⟨c,d⟩:ezz),(⟨e,f⟩:ezz)⟩:czz)
noncomputable def Jzq (c)(d)(e)(f):=
 mkD Tryz.func227 (Jzr c d e f) 0 [.pure (encL 6 az3 c),pz d,.pure (encL 6 az3 e),pz f] [] (fun r=>.pure (lz6 r)) (fun _=>[])
noncomputable def Fz6 (c:Bn):T Bool:=let d:=encL 6 az3 c;let e:=(c.length:Int);.cut 2 (fun (f:Bool)=>⟨[(0,.pure d),(14,.pure (.bool f))],[],[],0⟩)
 (.br (decide (e<1))
 (.oo true)
 (.oo (decide (e>8)))) fun f=>
 .br f
 (.ret false)
 (.loop (fun (g:Int)=>⟨[(15,.pure d),(16,pz e),(17,pz g)],[],[],0⟩)
 (.exit 0) (fun (_:U0)=>⟨[],[],[],0⟩)
 (fun g=>let h:=c.getD (g.toNat) default;let i:=az3 h;.br (decide (g<e))
 (.gh g c.length<|
 .unroll 4<|
 .known true<|
 .ix 0 3 rfl<|
 .cut 0 (fun (j:Bool)=>⟨[(15,.pure d),(16,pz e),(17,pz g),(21,.pure i),(22,pz 0),(39,.pure (.bool j))],[],[],0⟩)
 (.br (decide ((h.1.Lo)<(-268435456)))
 (.oo true)
 (.br (decide ((h.1.Lo)>(h.1.Hi)))
 (.oo true)
 (.oo (decide ((h.1.Hi)>268435456))))) fun j=>
 .br j
 (.ff false)
 (.lit 11000 (1)<|
 .known true<|
 .ix 1 3 rfl<|
 .cut 0 (fun (k:Bool)=>⟨[(15,.pure d),(16,pz e),(17,pz g),(21,.pure i),(22,pz 1),(39,.pure (.bool k))],[],[],0⟩)
 (.br (decide ((h.2.1.Lo)<(-268435456)))
 (.oo true)
 (.br (decide ((h.2.1.Lo)>(h.2.1.Hi)))
 (.oo true)
 (.oo (decide ((h.2.1.Hi)>268435456))))) fun k=>
 .br k
 (.ff false)
 (.lit 11000 (2)<|
 .known true<|
 .ix 2 3 rfl<|
 .cut 0 (fun (m:Bool)=>⟨[(15,.pure d),(16,pz e),(17,pz g),(21,.pure i),(22,pz 2),(39,.pure (.bool m))],[],[],0⟩)
 (.br (decide ((h.2.2.Lo)<(-268435456)))
 (.oo true)
 (.br (decide ((h.2.2.Lo)>(h.2.2.Hi)))
 (.oo true)
 (.oo (decide ((h.2.2.Hi)>268435456))))) fun m=>
 .br m
 (.ff false)
 (.lit 11000 (3)<|
 .known false<|
 .nn (i64.wrap (g+1))))))
 (.oo .u))
 0 [] fun _=>
 .ret true)
noncomputable def dzf (c):=
 mkD Tryz.func163 (Fz6 c) 0 [.pure (encL 6 az3 c)] [] (fun r=>.pure (.bool r)) (fun _=>[])
noncomputable def Kzb (c:ezz):T Bool:=
 .cc (dzf c.points) fun d=>
 .br d
 (.br (decide (0≤c.radius))
 (.ret (decide (c.radius≤1048576)))
 (.ret false))
 (.ret false)
noncomputable def yz5 (c):=
 mkD Tryz.func339 (Kzb c) 0 [.pure (Dzx c)] [] (fun r=>.pure (.bool r)) (fun _=>[])
noncomputable def xzd (c:Bg):T Bool:=
 .loop (fun (d:Int)=>⟨[(5,.pure (az2 c)),(6,pz d)],[],[],0⟩)
 (.exit 0) (fun (_:U0)=>⟨[],[],[],0⟩)
 (fun d=>let e:=([c.1,c.2.1,c.2.2]:List Int).getD d.toNat 0;.br (decide (d<3))
 (.gh d 3<|
 .cut 0 (fun (f:Bool)=>⟨[(5,.pure (az2 c)),(6,pz d),(14,.pure (.bool f))],[],[],0⟩)
 (.br (decide (e<(-16384)))
 (.oo true)
 (.oo (decide (e>16384)))) fun f=>
 .br f
 (.ff false)
 (.nn (i64.wrap (d+1))))
 (.oo .u))
 0 [] fun _=>
 .ret true
noncomputable def nzl (c):=
 mkD Tryz.func293 (xzd c) 0 [.pure (az2 c)] [] (fun r=>.pure (.bool r)) (fun _=>[])
noncomputable def zzo (c:Bg):T Bool:=
 .cc (nzl c) fun d=>
 .br d
 (.ret (!((c.1==0)&&((c.2.1==0)&&((c.2.2==0)&&true)))))
 (.ret false)
noncomputable def fzc (c):=
 mkD Tryz.func223 (zzo c) 0 [.pure (az2 c)] [] (fun r=>.pure (.bool r)) (fun _=>[])
noncomputable def vzq (c:Bg):T Bg:=
 .ret (c.1,c.2.1,c.2.2)
noncomputable def vzp (c):=
 mkD Tryz.func392 (vzq c) 0 [.pure (az2 c)] [] (fun _=>.agg [.func 429 [] [.ptr 0 0],.func 431 [] []]) (fun r=>[(0,.box [pz r.1,pz r.2.1,pz r.2.2])])
noncomputable def Iza (c:Bg)(d:Bm):T Ay:=let e:=i64.wrap (c.1 * d.1.Lo);let f:=i64.wrap (c.1 * d.1.Hi);let g:=i64.wrap (c.2.1 * d.2.1.Lo);let h:=i64.wrap (c.2.1 * d.2.1.Hi);let i:=i64.wrap (c.2.2 * d.2.2.Lo);let j:=i64.wrap (c.2.2 * d.2.2.Hi);.unroll 4<|
 .known true<|
 .ix 0 3 rfl<|
 .ix 0 3 rfl<|
 .ix 0 3 rfl<|
 .name 6004 ((i64.wrap (0+(min e f)))) fun k=>
 .name 7004 ((i64.wrap (0+(max e f)))) fun m=>
 .lit 8000 (1)<|
 .known true<|
 .ix 1 3 rfl<|
 .ix 1 3 rfl<|
 .ix 1 3 rfl<|
 .name 6004 ((i64.wrap (k+(min g h)))) fun n=>
 .name 7004 ((i64.wrap (m+(max g h)))) fun s=>
 .lit 8000 (2)<|
 .known true<|
 .ix 2 3 rfl<|
 .ix 2 3 rfl<|
 .ix 2 3 rfl<|
 .name 6004 ((i64.wrap (n+(min i j)))) fun t=>
 .name 7004 ((i64.wrap (s+(max i j)))) fun w=>
 .lit 8000 (3)<|
 .known false<|
 .ret (t,w)
noncomputable def vzo (c)(d):=
 mkD Tryz.func430 (Iza c d) 0 [.pure (az2 c),.pure (az3 d)] [] (fun r=>.tup [pz r.1,pz r.2]) (fun _=>[])
noncomputable def rzx (c:Bm)(d:Int)(e:Int)(f:Int):T C1:=
 .cc (vzo (d,e,f) ((⟨c.1.Lo,c.1.Hi⟩:az0),(⟨c.2.1.Lo,c.2.1.Hi⟩:az0),(⟨c.2.2.Lo,c.2.2.Hi⟩:az0))) fun g=>
 .ret (g.1,d,e,f)
noncomputable def rzw (c)(d)(e)(f):=
 mkD Tryz.func429 (rzx c d e f) 1 [.pure (az3 c),.ptr 0 0] [(0,.box [pz d,pz e,pz f])] (fun r=>pz r.1) (fun r=>[(0,.box [pz r.2.1,pz r.2.2.1,pz r.2.2.2])])
noncomputable def rzz (c:Int)(d:Int):T Bool:=
 .ret (decide (c<d))
noncomputable def rzy (c)(d):=
 mkD Tryz.func431 (rzz c d) 0 [pz c,pz d] [] (fun r=>.pure (.bool r)) (fun _=>[])
noncomputable def yzm (c:Int)(d:Int)(e:Int)(f:Bn):T C4:=let g:=encL 6 az3 f;let h:=(f.length:Int);.loop (fun (i:C6)=>⟨[(2,.ptr 1 0),(6,pz i.2.2.2.1),(7,pz i.2.2.2.2.1),(11,.pure g),(12,pz h),(13,pz i.2.2.2.2.2)],[(0,.box [pz i.1,pz i.2.1,pz i.2.2.1]),(1,.box [.func 429 [] [.ptr 0 0],.func 431 [] []])],[],2⟩)
 (.exit 0) (fun (i:C4)=>⟨[(6,pz i.2.2.2.1),(7,pz i.2.2.2.2)],[(0,.box [pz i.1,pz i.2.1,pz i.2.2.1])],[],1⟩)
 (fun i=>.br (decide (i.2.2.2.2.2<h))
 (.cut 0 (fun (j:C4)=>⟨[(2,.ptr 1 0),(6,pz j.2.2.2.1),(7,pz j.2.2.2.2),(11,.pure g),(12,pz h),(13,pz i.2.2.2.2.2)],[(0,.box [pz j.1,pz j.2.1,pz j.2.2.1]),(1,.box [.func 429 [] [.ptr 0 0],.func 431 [] []])],[],2⟩)
 (.gh i.2.2.2.2.2 f.length<|
 .call (rzw (f.getD ((i.2.2.2.2.2).toNat) default) i.1 i.2.1 i.2.2.1) [(0,0)] fun j=>
 .cut 0 (fun (k:Bool)=>⟨[(2,.ptr 1 0),(6,pz i.2.2.2.1),(7,pz i.2.2.2.2.1),(8,pz i.2.2.2.2.2),(10,pz j.1),(11,.pure g),(12,pz h),(13,pz i.2.2.2.2.2),(30,.pure (.bool k))],[(0,.box [pz j.2.1,pz j.2.2.1,pz j.2.2.2]),(1,.box [.func 429 [] [.ptr 0 0],.func 431 [] []])],[],2⟩)
 (.br (i.2.2.2.2.2==0)
 (.oo true)
 (.cc (rzy j.1 i.2.2.2.1) fun k=>
 .oo k)) fun k=>
 .br k
 (.oo (j.2.1,j.2.2.1,j.2.2.2,j.1,i.2.2.2.2.2))
 (.oo (j.2.1,j.2.2.1,j.2.2.2,i.2.2.2.1,i.2.2.2.2.1))) fun j=>
 .nn (j.1,j.2.1,j.2.2.1,j.2.2.2.1,j.2.2.2.2,(i64.wrap (i.2.2.2.2.2+1))))
 (.oo (i.1,i.2.1,i.2.2.1,i.2.2.2.1,i.2.2.2.2.1)))
 (c,d,e,0,0,0) [] fun i=>
 .ret (i.2.2.2.1,i.2.2.2.2,i.1,i.2.1,i.2.2.1)
noncomputable def yzl (c)(d)(e)(f):=
 mkD Tryz.func393 (yzm c d e f) 1 [.agg [.func 429 [] [.ptr 0 0],.func 431 [] []],.pure (encL 6 az3 f)] [(0,.box [pz c,pz d,pz e])] (fun r=>.tup [pz r.1,pz r.2.1]) (fun r=>[(0,.box [pz r.2.2.1,pz r.2.2.2.1,pz r.2.2.2.2])])
noncomputable def Dz5 (c:Bg)(d:Bn):T Br:=
 .cut 2 (fun (e:Bool)=>⟨[(1,.pure (encL 6 az3 d)),(2,.ptr 0 0),(16,.pure (.bool e))],[(0,.box [pz c.1,pz c.2.1,pz c.2.2])],[],1⟩)
 (.cc (fzc c) fun e=>
 .br (!e)
 (.oo true)
 (.cc (dzf d) fun f=>
 .oo (!f))) fun e=>
 .br e
 (.ret (0,0,false))
 (.cc (vzp (c.1,c.2.1,c.2.2)) fun f=>
 .call (yzl f.1 f.2.1 f.2.2 d) [(0,65)] fun g=>
 .ret (g.1,g.2.1,true))
noncomputable def Dz4 (c)(d):=
 mkD Tryz.func340 (Dz5 c d) 0 [.pure (az2 c),.pure (encL 6 az3 d)] [] (fun r=>.tup [pz r.1,pz r.2.1,.pure (.bool r.2.2)]) (fun _=>[])
noncomputable def zzq (c:Bg):T Bg:=
 .ret (c.1,c.2.1,c.2.2)
noncomputable def zzp (c):=
 mkD Tryz.func394 (zzq c) 0 [.pure (az2 c)] [] (fun _=>.agg [.func 432 [] [.ptr 0 0],.func 433 [] []]) (fun r=>[(0,.box [pz r.1,pz r.2.1,pz r.2.2])])
noncomputable def vzs (c:Bm)(d:Int)(e:Int)(f:Int):T C1:=
 .cc (vzo (d,e,f) c) fun g=>
 .ret (g.2,d,e,f)
noncomputable def vzr (c)(d)(e)(f):=
 mkD Tryz.func432 (vzs c d e f) 1 [.pure (az3 c),.ptr 0 0] [(0,.box [pz d,pz e,pz f])] (fun r=>pz r.1) (fun r=>[(0,.box [pz r.2.1,pz r.2.2.1,pz r.2.2.2])])
noncomputable def vzu (c:Int)(d:Int):T Bool:=
 .ret (decide (c>d))
noncomputable def vzt (c)(d):=
 mkD Tryz.func433 (vzu c d) 0 [pz c,pz d] [] (fun r=>.pure (.bool r)) (fun _=>[])
noncomputable def tzq (c:Int)(d:Int)(e:Int)(f:Bn):T C4:=let g:=encL 6 az3 f;let h:=(f.length:Int);.loop (fun (i:C6)=>⟨[(2,.ptr 1 0),(6,pz i.2.2.2.1),(7,pz i.2.2.2.2.1),(11,.pure g),(12,pz h),(13,pz i.2.2.2.2.2)],[(0,.box [pz i.1,pz i.2.1,pz i.2.2.1]),(1,.box [.func 432 [] [.ptr 0 0],.func 433 [] []])],[],2⟩)
 (.exit 0) (fun (i:C4)=>⟨[(6,pz i.2.2.2.1),(7,pz i.2.2.2.2)],[(0,.box [pz i.1,pz i.2.1,pz i.2.2.1])],[],1⟩)
 (fun i=>.br (decide (i.2.2.2.2.2<h))
 (.cut 0 (fun (j:C4)=>⟨[(2,.ptr 1 0),(6,pz j.2.2.2.1),(7,pz j.2.2.2.2),(11,.pure g),(12,pz h),(13,pz i.2.2.2.2.2)],[(0,.box [pz j.1,pz j.2.1,pz j.2.2.1]),(1,.box [.func 432 [] [.ptr 0 0],.func 433 [] []])],[],2⟩)
 (.gh i.2.2.2.2.2 f.length<|
 .call (vzr (f.getD ((i.2.2.2.2.2).toNat) default) i.1 i.2.1 i.2.2.1) [(0,0)] fun j=>
 .cut 0 (fun (k:Bool)=>⟨[(2,.ptr 1 0),(6,pz i.2.2.2.1),(7,pz i.2.2.2.2.1),(8,pz i.2.2.2.2.2),(10,pz j.1),(11,.pure g),(12,pz h),(13,pz i.2.2.2.2.2),(30,.pure (.bool k))],[(0,.box [pz j.2.1,pz j.2.2.1,pz j.2.2.2]),(1,.box [.func 432 [] [.ptr 0 0],.func 433 [] []])],[],2⟩)
 (.br (i.2.2.2.2.2==0)
 (.oo true)
 (.cc (vzt j.1 i.2.2.2.1) fun k=>
 .oo k)) fun k=>
 .br k
 (.oo (j.2.1,j.2.2.1,j.2.2.2,j.1,i.2.2.2.2.2))
 (.oo (j.2.1,j.2.2.1,j.2.2.2,i.2.2.2.1,i.2.2.2.2.1))) fun j=>
 .nn (j.1,j.2.1,j.2.2.1,j.2.2.2.1,j.2.2.2.2,(i64.wrap (i.2.2.2.2.2+1))))
 (.oo (i.1,i.2.1,i.2.2.1,i.2.2.2.1,i.2.2.2.2.1)))
 (c,d,e,0,0,0) [] fun i=>
 .ret (i.2.2.2.1,i.2.2.2.2,i.1,i.2.1,i.2.2.1)
noncomputable def tzp (c)(d)(e)(f):=
 mkD Tryz.func393 (tzq c d e f) 1 [.agg [.func 432 [] [.ptr 0 0],.func 433 [] []],.pure (encL 6 az3 f)] [(0,.box [pz c,pz d,pz e])] (fun r=>.tup [pz r.1,pz r.2.1]) (fun r=>[(0,.box [pz r.2.2.1,pz r.2.2.2.1,pz r.2.2.2.2])])
noncomputable def vzn (c:Bg)(d:Bn):T Br:=
 .cut 2 (fun (e:Bool)=>⟨[(1,.pure (encL 6 az3 d)),(2,.ptr 0 0),(16,.pure (.bool e))],[(0,.box [pz c.1,pz c.2.1,pz c.2.2])],[],1⟩)
 (.cc (fzc c) fun e=>
 .br (!e)
 (.oo true)
 (.cc (dzf d) fun f=>
 .oo (!f))) fun e=>
 .br e
 (.ret (0,0,false))
 (.cc (zzp (c.1,c.2.1,c.2.2)) fun f=>
 .call (tzp f.1 f.2.1 f.2.2 d) [(0,65)] fun g=>
 .ret (g.1,g.2.1,true))
noncomputable def vzm (c)(d):=
 mkD Tryz.func341 (vzn c d) 0 [.pure (az2 c),.pure (encL 6 az3 d)] [] (fun r=>.tup [pz r.1,pz r.2.1,.pure (.bool r.2.2)]) (fun _=>[])
noncomputable def wzl (c:Int):T Int:=
 .cut 1 (fun (d:Ay)=>⟨[(0,.pure (.int .u64 d.1)),(2,pz d.2)],[],[],0⟩)
 (.br (decide (c≥4294967296))
 (.ok (0≤(32:Int)) (by decide)<|
 .oo ((c.fdiv (2 ^ (min (32:Int).toNat 64))),32))
 (.oo (c,0))) fun d=>
 .cut 0 (fun (e:Ay)=>⟨[(0,.pure (.int .u64 e.1)),(2,pz e.2)],[],[],0⟩)
 (.br (decide (d.1≥65536))
 (.ok (0≤(16:Int)) (by decide)<|
 .oo ((d.1.fdiv (2 ^ (min (16:Int).toNat 64))),(i64.wrap (d.2+16))))
 (.oo (d.1,d.2))) fun e=>
 .cut 0 (fun (f:Ay)=>⟨[(0,.pure (.int .u64 f.1)),(2,pz f.2)],[],[],0⟩)
 (.br (decide (e.1≥256))
 (.ok (0≤(8:Int)) (by decide)<|
 .oo ((e.1.fdiv (2 ^ (min (8:Int).toNat 64))),(i64.wrap (e.2+8))))
 (.oo (e.1,e.2))) fun f=>let g:=IntKind.u8.wrap f.1;
 .gh g ((⟨#[0,1,2,2,3,3,3,3,4,4,4,4,4,4,4,4,5,5,5,5,5,5,5,5,5,5,5,5,5,5,5,5,6,6,6,6,6,6,6,6,6,6,6,6,6,6,6,6,6,6,6,6,6,6,6,6,6,6,6,6,6,6,6,6,7,7,7,7,7,7,7,7,7,7,7,7,7,7,7,7,7,7,7,7,7,7,7,7,7,7,7,7,7,7,7,7,7,7,7,7,7,7,7,7,7,7,7,7,7,7,7,7,7,7,7,7,7,7,7,7,7,7,7,7,7,7,7,7,8,8,8,8,8,8,8,8,8,8,8,8,8,8,8,8,8,8,8,8,8,8,8,8,8,8,8,8,8,8,8,8,8,8,8,8,8,8,8,8,8,8,8,8,8,8,8,8,8,8,8,8,8,8,8,8,8,8,8,8,8,8,8,8,8,8,8,8,8,8,8,8,8,8,8,8,8,8,8,8,8,8,8,8,8,8,8,8,8,8,8,8,8,8,8,8,8,8,8,8,8,8,8,8,8,8,8,8,8,8,8,8,8,8,8,8,8,8,8,8,8,8,8,8,8,8,8,8]⟩:ByteArray).size)<|
 .name 10003 ((((⟨#[0,1,2,2,3,3,3,3,4,4,4,4,4,4,4,4,5,5,5,5,5,5,5,5,5,5,5,5,5,5,5,5,6,6,6,6,6,6,6,6,6,6,6,6,6,6,6,6,6,6,6,6,6,6,6,6,6,6,6,6,6,6,6,6,7,7,7,7,7,7,7,7,7,7,7,7,7,7,7,7,7,7,7,7,7,7,7,7,7,7,7,7,7,7,7,7,7,7,7,7,7,7,7,7,7,7,7,7,7,7,7,7,7,7,7,7,7,7,7,7,7,7,7,7,7,7,7,7,8,8,8,8,8,8,8,8,8,8,8,8,8,8,8,8,8,8,8,8,8,8,8,8,8,8,8,8,8,8,8,8,8,8,8,8,8,8,8,8,8,8,8,8,8,8,8,8,8,8,8,8,8,8,8,8,8,8,8,8,8,8,8,8,8,8,8,8,8,8,8,8,8,8,8,8,8,8,8,8,8,8,8,8,8,8,8,8,8,8,8,8,8,8,8,8,8,8,8,8,8,8,8,8,8,8,8,8,8,8,8,8,8,8,8,8,8,8,8,8,8,8,8,8,8,8,8,8]⟩:ByteArray).data.getD g.toNat 0).toNat:Int)) fun h=>
 .ret (i64.wrap (f.2+(i64.wrap h)))
noncomputable def izw (c):=
 mkD Tryz.func395 (wzl c) 0 [.pure (.int .u64 c)] [] (fun r=>pz r) (fun _=>[])
noncomputable def Izw (c:Int):T Int:=let d:=IntKind.u64.wrap c;.br (decide (c≤0))
 (.ret 0)
 (.cc (izw d) fun e=>let f:=i64.wrap ((i64.wrap (e+1)).tdiv 2);
 .ok ((2:Int)≠0) (by decide)<|
 .grd (0≤f)<|
 .loop (fun (g:Bg)=>⟨[(0,pz c),(4,.pure (.int .u64 g.1)),(5,.pure (.int .u64 g.2.1)),(16,pz f),(17,pz g.2.2)],[],[],0⟩)
 (.exit 0) (fun (g:Int)=>⟨[(4,.pure (.int .u64 g))],[],[],0⟩)
 (fun g=>.br (decide (g.2.2<f))
 (.cut 0 (fun (h:Ay)=>⟨[(0,pz c),(4,.pure (.int .u64 h.1)),(5,.pure (.int .u64 h.2)),(16,pz f),(17,pz g.2.2)],[],[],0⟩)
 (.ok ((2:Int)≠0) (by decide)<|
 .name 7001 ((IntKind.u64.wrap (g.2.1.tdiv 2))) fun h=>let i:=IntKind.u64.wrap (g.1+h);
 .br (decide ((IntKind.u64.wrap (i * i))≤d))
 (.oo (i,h))
 (.oo (g.1,h))) fun h=>
 .nn (h.1,h.2,(i64.wrap (g.2.2+1))))
 (.oo g.1))
 (0,(IntKind.u64.wrap (1 * 2 ^ (min f.toNat 64))),0) [] fun g=>
 .ret (i64.wrap g))
noncomputable def Izv (c):=
 mkD Tryz.func342 (Izw c) 0 [pz c] [] (fun r=>pz r) (fun _=>[])
noncomputable def Dzz (c:Int):T Int:=
 .cc (Izv c) fun d=>
 .cut 0 (fun (e:Int)=>⟨[(3,pz e)],[],[],0⟩)
 (.br (decide ((i64.wrap (d * d))<c))
 (.oo (i64.wrap (d+1)))
 (.oo d)) fun e=>
 .ret e
noncomputable def Dzy (c):=
 mkD Tryz.func299 (Dzz c) 0 [pz c] [] (fun r=>pz r) (fun _=>[])
noncomputable def Fza (c:Bg):T Int:=
 .cc (fzc (c.1,c.2.1,c.2.2)) fun d=>
 .br (!d)
 (.ret 0)
 (.ix 0 3 rfl<|
 .ix 0 3 rfl<|
 .ix 1 3 rfl<|
 .ix 1 3 rfl<|
 .ix 2 3 rfl<|
 .ix 2 3 rfl<|
 .name 3016 ((i64.wrap ((i64.wrap ((i64.wrap (c.1 * c.1))+(i64.wrap (c.2.1 * c.2.1))))+(i64.wrap (c.2.2 * c.2.2))))) fun e=>
 .cc (Dzy e) fun f=>
 .ret f)
noncomputable def szh (c):=
 mkD Tryz.func234 (Fza c) 0 [.pure (az2 c)] [] (fun r=>pz r) (fun _=>[])
noncomputable def Fz8 (c:czz)(d:Bg):T B7:=
 .cut 2 (fun (e:Bool)=>⟨[(2,.ptr 0 0),(3,.ptr 1 0),(20,.pure (.bool e))],[(0,.box [.pure (encL 6 az3 c.a.points),pz c.a.radius,.pure (encL 6 az3 c.b.points),pz c.b.radius]),(1,.box [pz d.1,pz d.2.1,pz d.2.2])],[],2⟩)
 (.cc (yz5 c.a) fun e=>
 .br (!e)
 (.oo true)
 (.cc (yz5 c.b) fun f=>
 .oo (!f))) fun e=>
 .br e
 (.ret (0,false))
 (.cc (Dz4 (d.1,d.2.1,d.2.2) c.a.points) fun f=>
 .br (!f.2.2)
 (.ret (0,false))
 (.cc (vzm (d.1,d.2.1,d.2.2) c.b.points) fun g=>
 .br (!g.2.2)
 (.ret (0,false))
 (.cc (szh (d.1,d.2.1,d.2.2)) fun h=>
 .name 9013 ((i64.wrap ((i64.wrap (f.1-g.1))- (i64.wrap (h * (i64.wrap (c.a.radius+c.b.radius))))))) fun i=>
 .ret (i,true))))
noncomputable def Fz7 (c)(d):=
 mkD Tryz.func296 (Fz8 c d) 0 [.pure (lz6 c),.pure (az2 d)] [] (fun r=>.tup [pz r.1,.pure (.bool r.2)]) (fun _=>[])
noncomputable def xzc (c:czz)(d:Bg):T Bool:=
 .cc (Fz7 (⟨c.a,c.b⟩:czz) (d.1,d.2.1,d.2.2)) fun e=>
 .br e.2
 (.ret (decide (e.1>0)))
 (.ret false)
noncomputable def xzb (c)(d):=
 mkD Tryz.func226 (xzc c d) 0 [.pure (lz6 c),.pure (az2 d)] [] (fun r=>.pure (.bool r)) (fun _=>[])
noncomputable def wzy (c:Bg)(d:Bn)(e:Int)(f:Bn)(g:Int):T Bool:=
 .cc (Jzq d e f g) fun h=>
 .cc (xzb (⟨h.a,h.b⟩:czz) (c.1,c.2.1,c.2.2)) fun i=>
 .ret i
noncomputable def nzd (c)(d)(e)(f)(g):=
 mkD Tryz.func159 (wzy c d e f g) 0 [.pure (az2 c),.pure (encL 6 az3 d),pz e,.pure (encL 6 az3 f),pz g] [] (fun r=>.pure (.bool r)) (fun _=>[])
noncomputable def uzm (c:Int):T Bool:=
 .br (decide (c≥0))
 (.ret (decide (c≤1048576)))
 (.ret false)
noncomputable def mza (c):=
 mkD Tryz.func222 (uzm c) 0 [pz c] [] (fun r=>.pure (.bool r)) (fun _=>[])
noncomputable def Ez4 (c:az0):T Int:=
 .cc (bzz c) fun d=>
 .br (!d)
 (.ret 0)
 (.cc (bzt (i64.wrap (c.Lo+c.Hi)) 1) fun e=>
 .ret e)
noncomputable def mzp (c):=
 mkD Tryz.func164 (Ez4 c) 0 [.pure (azd c)] [] (fun r=>pz r) (fun _=>[])
set_option maxHeartbeats 8000000 in
set_option maxRecDepth 20000 in
noncomputable def Czz (c:Bn):T Bh:=let d:=(c.length:Int);.cc (dzf c) fun e=>
 .br (!e)
 (.ret nl)
 (.conv 3002 (rzh 3 az2 68 d.toNat (0,0,0))<|
 .grd (0≤d/\d≤d/\d≤9223372036854775807/\d * 24≤140737488355328)<|
 .loop (fun (f:Bi)=>⟨[(3,.vec 0),(14,.pure (encL 6 az3 c)),(15,pz d),(16,pz f.2)],[(0,vecO 3 az2 f.1 68)],[],1⟩)
 (.exit 0) (fun (f:Bh)=>⟨[(3,.vec 0)],[(0,vecO 3 az2 f 68)],[],1⟩)
 (fun f=>let g:=f.2;let h:=g.toNat;let i:=c.getD h default;let j:=f.1.getD h default;.br (decide (f.2<d))
 (.gh f.2 c.length<|
 .unroll 4<|
 .known true<|
 .ix 0 3 rfl<|
 .cc (mzp (i.1)) fun k=>let m:=f.1.set h (k,j.2.1,j.2.2);let n:=m.getD h default;
 .gh f.2 f.1.length<|
 .ix 0 3 rfl<|
 .conv 10007 (bze 3 az2 f.1 68 h (k,j.2.1,j.2.2))<|
 .gi g f.1.length<|
 .lit 11000 (1)<|
 .known true<|
 .ix 1 3 rfl<|
 .cc (mzp (i.2.1)) fun s=>let t:=m.set h (n.1,s,n.2.2);let w:=t.getD h default;
 .gh f.2 (m.length)<|
 .ix 1 3 rfl<|
 .conv 10007 (bze 3 az2 m 68 h (n.1,s,n.2.2))<|
 .gi g (m.length)<|
 .lit 11000 (2)<|
 .known true<|
 .ix 2 3 rfl<|
 .cc (mzp (i.2.2)) fun y=>
 .gh f.2 (t.length)<|
 .ix 2 3 rfl<|
 .conv 10007 (bze 3 az2 t 68 h (w.1,w.2.1,y))<|
 .gi g (t.length)<|
 .lit 11000 (3)<|
 .known false<|
 .nn ((t.set h (w.1,w.2.1,y)),(i64.wrap (f.2+1))))
 (.oo f.1))
 ((List.replicate d.toNat ((0,0,0):Bg)),0) [] fun f=>
 .ret f)
noncomputable def ezw (c):=
 mkD Tryz.func103 (Czz c) 0 [.pure (encL 6 az3 c)] [] (fun r=>.pure (encL 3 az2 r)) (fun _=>[])
noncomputable def Hzf (c:Bh):T Bg:=let d:=(c.length:Nat);.loop (fun (e:C1)=>⟨[(2,.ptr 0 0),(3,.ptr 1 0),(7,.pure (encL 3 az2 c)),(8,pz (d:Int)),(9,pz e.2.2.2)],[(0,.box [pz 0,pz 0,pz 0]),(1,.box [pz e.1,pz e.2.1,pz e.2.2.1])],[],2⟩)
 (.exit 0) (fun (e:Bg)=>⟨[(2,.ptr 0 0),(3,.ptr 1 0)],[(0,.box [pz 0,pz 0,pz 0]),(1,.box [pz e.1,pz e.2.1,pz e.2.2])],[],2⟩)
 (fun e=>let f:=c.getD ((e.2.2.2).toNat) default;.br (decide (e.2.2.2<(d:Int)))
 (.gh e.2.2.2 c.length<|
 .unroll 4<|
 .known true<|
 .ix 0 3 rfl<|
 .ix 0 3 rfl<|
 .ix 0 3 rfl<|
 .lit 9000 (1)<|
 .known true<|
 .ix 1 3 rfl<|
 .ix 1 3 rfl<|
 .ix 1 3 rfl<|
 .lit 9000 (2)<|
 .known true<|
 .ix 2 3 rfl<|
 .ix 2 3 rfl<|
 .ix 2 3 rfl<|
 .lit 9000 (3)<|
 .known false<|
 .nn ((i64.wrap (e.1+(f.1))),(i64.wrap (e.2.1+(f.2.1))),(i64.wrap (e.2.2.1+(f.2.2))),(i64.wrap (e.2.2.2+1))))
 (.oo (e.1,e.2.1,e.2.2.1)))
 (0,0,0,0) [] fun e=>
 .ret (e.1,e.2.1,e.2.2)
noncomputable def uzn (c):=
 mkD Tryz.func295 (Hzf c) 0 [.pure (encL 3 az2 c)] [] (fun r=>.pure (az2 r)) (fun _=>[])
noncomputable def zzn (c:Bg):T Bl:=
 .loop (fun (d:Bg)=>⟨[(1,.ptr 0 0),(2,.ptr 1 0)],[(0,.box [pz d.1,pz d.2.1,pz d.2.2]),(1,.box [pz 0,pz 0,pz 0])],[],2⟩)
 (.exit 0) (fun (d:Bg)=>⟨[(1,.ptr 0 0),(2,.ptr 1 0)],[(0,.box [pz d.1,pz d.2.1,pz d.2.2]),(1,.box [pz 0,pz 0,pz 0])],[],2⟩)
 (fun d=>.cc (nzl (d.1,d.2.1,d.2.2)) fun e=>
 .br (!e)
 (.unroll 4<|
 .known true<|
 .ix 0 3 rfl<|
 .ok ((2:Int)≠0) (by decide)<|
 .ix 0 3 rfl<|
 .lit 6000 (1)<|
 .known true<|
 .ix 1 3 rfl<|
 .ok ((2:Int)≠0) (by decide)<|
 .ix 1 3 rfl<|
 .lit 6000 (2)<|
 .known true<|
 .ix 2 3 rfl<|
 .ok ((2:Int)≠0) (by decide)<|
 .ix 2 3 rfl<|
 .lit 6000 (3)<|
 .known false<|
 .nn ((i64.wrap (d.1.tdiv 2)),(i64.wrap (d.2.1.tdiv 2)),(i64.wrap (d.2.2.tdiv 2))))
 (.oo (d.1,d.2.1,d.2.2)))
 (c.1,c.2.1,c.2.2) [] fun d=>
 .ret ((d.1,d.2.1,d.2.2),(!((d.1==0)&&((d.2.1==0)&&((d.2.2==0)&&true)))))
noncomputable def pz9 (c):=
 mkD Tryz.func231 (zzn c) 0 [.pure (az2 c)] [] (fun r=>.tup [.pure (az2 r.1),.pure (.bool r.2)]) (fun _=>[])
noncomputable def Ezl (c:Bn)(d:Bn):T Bl:=let e:=(d.length:Int);let f:=(c.length:Int);.cut 3 (fun (g:Bool)=>⟨[(0,.pure (encL 6 az3 c)),(1,.pure (encL 6 az3 d)),(4,.ptr 0 0),(5,.ptr 1 0),(18,.pure (.bool g))],[(0,.box [pz 0,pz 0,pz 0]),(1,.box [.ff])],[.func 294 [] [.ptr 0 0,.ptr 1 0]],2⟩)
 (.cc (dzf c) fun g=>
 .br (!g)
 (.oo true)
 (.cc (dzf d) fun h=>
 .oo (!h))) fun g=>
 .br g
 (.ret ((0,0,0),false))
 (.cc (ezw c) fun h=>
 .cc (uzn h) fun i=>
 .cc (ezw d) fun j=>
 .cc (uzn j) fun k=>
 .unroll 4<|
 .known true<|
 .ix 0 3 rfl<|
 .ix 0 3 rfl<|
 .name 9013 ((i64.wrap ((i64.wrap (i.1 * e))- (i64.wrap (k.1 * f))))) fun m=>
 .ix 0 3 rfl<|
 .lit 10000 (1)<|
 .known true<|
 .ix 1 3 rfl<|
 .ix 1 3 rfl<|
 .name 9013 ((i64.wrap ((i64.wrap (i.2.1 * e))- (i64.wrap (k.2.1 * f))))) fun n=>
 .ix 1 3 rfl<|
 .lit 10000 (2)<|
 .known true<|
 .ix 2 3 rfl<|
 .ix 2 3 rfl<|
 .name 9013 ((i64.wrap ((i64.wrap (i.2.2 * e))- (i64.wrap (k.2.2 * f))))) fun s=>
 .ix 2 3 rfl<|
 .lit 10000 (3)<|
 .known false<|
 .cc (pz9 (m,n,s)) fun t=>
 .ret (t.1,t.2))
noncomputable def Ezk (c)(d):=
 mkC [⟨294,Qzk⟩] hd Tryz.func224 (by kernel_rfl) (Ezl c d) 0 [.pure (encL 6 az3 c),.pure (encL 6 az3 d)] [] (fun r=>.tup [.pure (az2 r.1),.pure (.bool r.2)]) (fun _=>[]) (by kernel_rfl)
noncomputable def Ezh:T Bh:=
 .conv 1006 (bzl 3 az2 ([(1,0,0),((-1),0,0),(0,1,0),(0,(-1),0),(0,0,1),(0,0,(-1))]:Bh) 68)<|
 .ret ([(1,0,0),((-1),0,0),(0,1,0),(0,(-1),0),(0,0,1),(0,0,(-1))]:Bh)
noncomputable def Ezg:CallS Bh:=
 mkD Tryz.func225 (Ezh) 0 [] [] (fun r=>.pure (encL 3 az2 r)) (fun _=>[])
open Go.Proofs
noncomputable def yzw (c:Bh):T Bool:=let d:=encL 3 az2 c;let e:=(c.length:Int);.cut 2 (fun (f:Bool)=>⟨[(0,.pure d),(14,.pure (.bool f))],[],[],0⟩)
 (.br (decide (e<1))
 (.oo true)
 (.oo (decide (e>8)))) fun f=>
 .br f
 (.ret false)
 (.loop (fun (g:Int)=>⟨[(15,.pure d),(16,pz e),(17,pz g)],[],[],0⟩)
 (.exit 0) (fun (_:U0)=>⟨[],[],[],0⟩)
 (fun g=>let h:=c.getD (g.toNat) default;.br (decide (g<e))
 (.gh g c.length<|
 .loop (fun (i:Int)=>⟨[(15,.pure d),(16,pz e),(17,pz g),(21,.pure (az2 h)),(22,pz i)],[],[],0⟩)
 (.exit 2) (fun (_:U0)=>⟨[(15,.pure d),(16,pz e),(17,pz g)],[],[],0⟩)
 (fun i=>.br (decide (i<3))
 (.gh i 3<|
 .name 8000 ((([h.1,h.2.1,h.2.2]:List Int).getD i.toNat 0)) fun j=>
 .cut 0 (fun (k:Bool)=>⟨[(15,.pure d),(16,pz e),(17,pz g),(21,.pure (az2 h)),(22,pz i),(30,.pure (.bool k))],[],[],0⟩)
 (.br (decide (j<(-268435456)))
 (.oo true)
 (.oo (decide (j>268435456)))) fun k=>
 .br k
 (.ff (.fin false))
 (.nn (i64.wrap (i+1))))
 (.oo .u))
 0 [] fun _=>
 .nn (i64.wrap (g+1)))
 (.oo .u))
 0 [] fun _=>
 .ret true)
noncomputable def pz3 (c):=
 mkD Tryz.func160 (yzw c) 0 [.pure (encL 3 az2 c)] [] (fun r=>.pure (.bool r)) (fun _=>[])
noncomputable def wzt (c:Bh):T (Bh×A0):=let d:=(c.length:Int);let e:=List.replicate d.toNat (0:Int);.conv 1002 (rzh 1 az1 2 d.toNat 0)<|
 .grd (0≤d/\d≤d/\d≤9223372036854775807/\d * 8≤140737488355328)<|
 .gh (0:Int) (e.length)<|
 .conv 2002 (bze 1 az1 e 2 ((0:Int).toNat) 65536)<|
 .gi (0:Int) (e.length)<|
 .ret (c,(e.set ((0:Int).toNat) 65536))
noncomputable def nzb (c):=
 mkD Tryz.func161 (wzt c) 0 [.pure (encL 3 az2 c)] [] (fun r=>.agg [.pure (encL 3 az2 r.1),.vec 0]) (fun r=>[(0,vecO 1 az1 r.2 2)])
noncomputable def Nz9 (c:Bh)(d:A0):T Bg:=let e:=encL 3 az2 c;let f:=(c.length:Nat);.loop (fun (g:C1)=>⟨[(1,.ptr 1 0),(2,.ptr 2 0),(3,.ptr 3 0),(9,.pure e),(10,pz (f:Int)),(11,pz g.2.2.2)],[(0,vecO 1 az1 d 2),(1,.box [.pure e,.vec 0]),(2,.box [pz 0,pz 0,pz 0]),(3,.box [pz g.1,pz g.2.1,pz g.2.2.1])],[],4⟩)
 (.exit 0) (fun (g:Bg)=>⟨[(2,.ptr 1 0),(3,.ptr 2 0)],[(0,vecO 1 az1 d 2),(1,.box [pz 0,pz 0,pz 0]),(2,.box [pz g.1,pz g.2.1,pz g.2.2])],[],3⟩)
 (fun g=>let h:=(g.2.2.2).toNat;let i:=c.getD h default;let j:=d.getD h default;.br (decide (g.2.2.2<(f:Int)))
 (.gh g.2.2.2 c.length<|
 .unroll 4<|
 .known true<|
 .ix 0 3 rfl<|
 .name 7001 (i.1) fun k=>
 .ix 0 3 rfl<|
 .gg g.2.2.2 d.length<|
 .name 8010 ((i64.wrap (g.1+(i64.wrap (j * k))))) fun m=>
 .ix 0 3 rfl<|
 .lit 9000 (1)<|
 .known true<|
 .ix 1 3 rfl<|
 .name 7001 (i.2.1) fun n=>
 .ix 1 3 rfl<|
 .gg g.2.2.2 d.length<|
 .name 8010 ((i64.wrap (g.2.1+(i64.wrap (j * n))))) fun s=>
 .ix 1 3 rfl<|
 .lit 9000 (2)<|
 .known true<|
 .ix 2 3 rfl<|
 .name 7001 (i.2.2) fun t=>
 .ix 2 3 rfl<|
 .gg g.2.2.2 d.length<|
 .name 8010 ((i64.wrap (g.2.2.1+(i64.wrap (j * t))))) fun w=>
 .ix 2 3 rfl<|
 .lit 9000 (3)<|
 .known false<|
 .nn (m,s,w,(i64.wrap (g.2.2.2+1))))
 (.oo (g.1,g.2.1,g.2.2.1)))
 (0,0,0,0) [] fun g=>
 .ret (g.1,g.2.1,g.2.2)
noncomputable def Fzo (c)(d):=
 mkD Tryz.func229 (Nz9 c d) 1 [.agg [.pure (encL 3 az2 c),.vec 0]] [(0,vecO 1 az1 d 2)] (fun r=>.pure (az2 r)) (fun _=>[(0,vecO 1 az1 d 2)])
noncomputable def Bzw (c:Bg)(d:Bg):T Bg:=
 .ix 0 3 rfl<|
 .ix 0 3 rfl<|
 .ix 1 3 rfl<|
 .ix 1 3 rfl<|
 .ix 2 3 rfl<|
 .ix 2 3 rfl<|
 .ret ((i64.wrap (c.1-d.1)),(i64.wrap (c.2.1-d.2.1)),(i64.wrap (c.2.2-d.2.2)))
noncomputable def lzf (c)(d):=
 mkD Tryz.func228 (Bzw c d) 0 [.pure (az2 c),.pure (az2 d)] [] (fun r=>.pure (az2 r)) (fun _=>[])
noncomputable def wzs (c:Bg)(d:Int):T Bool:=
 .loop (fun (e:Ay)=>⟨[(1,pz d),(5,pz e.1),(9,.pure (az2 c)),(10,pz e.2)],[],[],0⟩)
 (.exit 0) (fun (e:Int)=>⟨[(1,pz d),(5,pz e)],[],[],0⟩)
 (fun e=>let f:=([c.1,c.2.1,c.2.2]:List Int).getD (e.2).toNat 0;.br (decide (e.2<3))
 (.gh e.2 3<|
 .name 5003 ((max f (i64.wrap (0-f)))) fun g=>
 .cc (cz5 g 16) fun h=>
 .nn ((i64.wrap (e.1+(i64.wrap (h * h)))),(i64.wrap (e.2+1))))
 (.oo e.1))
 (0,0) [] fun e=>
 .ret (decide (e≤(i64.wrap (d * d))))
noncomputable def wzr (c)(d):=
 mkD Tryz.func230 (wzs c d) 0 [.pure (az2 c),pz d] [] (fun r=>.pure (.bool r)) (fun _=>[])
noncomputable def Hzd (c:Bg)(d:Bg):T Int:=
 .ix 0 3 rfl<|
 .ix 0 3 rfl<|
 .ix 1 3 rfl<|
 .ix 1 3 rfl<|
 .ix 2 3 rfl<|
 .ix 2 3 rfl<|
 .name 1016 ((i64.wrap ((i64.wrap ((i64.wrap (c.1 * d.1))+(i64.wrap (c.2.1 * d.2.1))))+(i64.wrap (c.2.2 * d.2.2))))) fun e=>
 .ret e
noncomputable def gz6 (c)(d):=
 mkD Tryz.func298 (Hzd c d) 0 [.pure (az2 c),.pure (az2 d)] [] (fun r=>pz r) (fun _=>[])
noncomputable def Jzc (c:Bh)(d:A0)(e:Bg):T Ay:=let f:=encL 3 az2 c;let g:=(c.length:Int);let h:Nat×Res:=(1,.box [pz e.1,pz e.2.1,pz e.2.2]);.gh (0:Int) c.length<|
 .cc (gz6 e (c.getD ((0:Int).toNat) default)) fun i=>
 .loop (fun (j:Bg)=>⟨[(3,.ptr 1 0),(6,pz j.1),(7,pz j.2.1),(20,.pure f),(21,pz g),(22,pz j.2.2)],[(0,vecO 1 az1 d 2),h],[],2⟩)
 (.exit 0) (fun (j:Ay)=>⟨[(6,pz j.1),(7,pz j.2)],[(0,vecO 1 az1 d 2)],[],1⟩)
 (fun j=>.br (decide (j.2.2<g))
 (.cut 0 (fun (k:Ay)=>⟨[(3,.ptr 1 0),(6,pz k.1),(7,pz k.2),(20,.pure f),(21,pz g),(22,pz j.2.2)],[(0,vecO 1 az1 d 2),h],[],2⟩)
 (.gh j.2.2 c.length<|
 .cc (gz6 e (c.getD ((j.2.2).toNat) default)) fun k=>
 .br (decide (k<j.1))
 (.oo (k,j.2.2))
 (.oo (j.1,j.2.1))) fun k=>
 .nn (k.1,k.2,(i64.wrap (j.2.2+1))))
 (.oo (j.1,j.2.1)))
 (i,0,0) [] fun j=>
 .ret (j.1,j.2)
noncomputable def Jzb (c)(d)(e):=
 mkD Tryz.func232 (Jzc c d e) 1 [.agg [.pure (encL 3 az2 c),.vec 0],.pure (az2 e)] [(0,vecO 1 az1 d 2)] (fun r=>.tup [pz r.1,pz r.2]) (fun _=>[(0,vecO 1 az1 d 2)])
noncomputable def zzc (c:Bh)(d:A0)(e:Bg):T Ay:=let f:=encL 3 az2 c;let g:=(c.length:Int);let h:Nat×Res:=(1,.box [pz e.1,pz e.2.1,pz e.2.2]);.gh (0:Int) c.length<|
 .cc (gz6 e (c.getD ((0:Int).toNat) default)) fun i=>
 .loop (fun (j:Bg)=>⟨[(3,.ptr 1 0),(6,pz j.1),(7,pz j.2.1),(20,.pure f),(21,pz g),(22,pz j.2.2)],[(0,vecO 1 az1 d 2),h],[],2⟩)
 (.exit 0) (fun (j:Ay)=>⟨[(6,pz j.1),(7,pz j.2)],[(0,vecO 1 az1 d 2)],[],1⟩)
 (fun j=>.br (decide (j.2.2<g))
 (.cut 0 (fun (k:Ay)=>⟨[(3,.ptr 1 0),(6,pz k.1),(7,pz k.2),(20,.pure f),(21,pz g),(22,pz j.2.2)],[(0,vecO 1 az1 d 2),h],[],2⟩)
 (.gh j.2.2 c.length<|
 .cc (gz6 e (c.getD ((j.2.2).toNat) default)) fun k=>
 .br (decide (k>j.1))
 (.oo (k,j.2.2))
 (.oo (j.1,j.2.1))) fun k=>
 .nn (k.1,k.2,(i64.wrap (j.2.2+1))))
 (.oo (j.1,j.2.1)))
 (i,0,0) [] fun j=>
 .ret (j.1,j.2)
noncomputable def zzb (c)(d)(e):=
 mkD Tryz.func233 (zzc c d e) 1 [.agg [.pure (encL 3 az2 c),.vec 0],.pure (az2 e)] [(0,vecO 1 az1 d 2)] (fun r=>.tup [pz r.1,pz r.2]) (fun _=>[(0,vecO 1 az1 d 2)])
noncomputable def Eze (c:Bg)(d:Bg):T Int:=
 .cc (lzf c d) fun e=>
 .cc (gz6 c e) fun f=>
 .cc (gz6 e e) fun g=>let h:=i64.wrap (g.tdiv 256);
 .br (decide (f≤0))
 (.ret 0)
 (.ok ((256:Int)≠0) (by decide)<|
 .grd ((max 1 h)≠0)<|
 .ret (min 256 (i64.wrap (f.tdiv (max 1 h)))))
noncomputable def Ezd (c)(d):=
 mkD Tryz.func235 (Eze c d) 0 [.pure (az2 c),.pure (az2 d)] [] (fun r=>pz r) (fun _=>[])
noncomputable def Hz3 (c:Bh)(d:A0)(e:Int)(f:Int):T A0:=let g:=e.toNat;let h:=(d.length:Nat);let i:Nat×Res:=(1,.box [.pure (encL 3 az2 c),.vec 0]);.loop (fun (j:Bc)=>⟨[(1,pz e),(2,pz f),(3,.ptr 1 0),(6,pz j.2.1),(11,.vec 0),(12,pz (h:Int)),(13,pz j.2.2)],[(0,vecO 1 az1 j.1 2),i],[],2⟩)
 (.exit 0) (fun (j:A3)=>⟨[(1,pz e),(3,.ptr 1 0),(6,pz j.2)],[(0,vecO 1 az1 j.1 2),i],[],2⟩)
 (fun j=>let k:=(j.2.2).toNat;let m:=j.1.getD k default;let n:=i64.wrap ((i64.wrap (m * f)).tdiv 256);.br (decide (j.2.2<(h:Int)))
 (.gg j.2.2 j.1.length<|
 .ok ((256:Int)≠0) (by decide)<|
 .gg j.2.2 j.1.length<|
 .name 6006 ((i64.wrap (m-n))) fun s=>
 .gh j.2.2 j.1.length<|
 .conv 6008 (bze 1 az1 j.1 2 k s)<|
 .gi (j.2.2) j.1.length<|
 .name 7002 ((i64.wrap (j.2.1+n))) fun t=>
 .nn ((j.1.set k s),t,(i64.wrap (j.2.2+1))))
 (.oo (j.1,j.2.1)))
 (d,0,0) [] fun j=>let k:=i64.wrap ((j.1.getD g default)+j.2);
 .gg e j.1.length<|
 .gh e j.1.length<|
 .conv 9008 (bze 1 az1 j.1 2 g k)<|
 .gi (e) j.1.length<|
 .ret (j.1.set g k)
noncomputable def uz7 (c)(d)(e)(f):=
 mkD Tryz.func236 (Hz3 c d e f) 1 [.agg [.pure (encL 3 az2 c),.vec 0],pz e,pz f] [(0,vecO 1 az1 d 2)] (fun _=>.tup []) (fun r=>[(0,vecO 1 az1 r 2)])
noncomputable def Mz0 (c:Bh)(d:A0)(e:Bh)(f:A0)(g:Int)(h:Int)(i:Int)(j:Int)(k:Int)(m:Int):T (Int×Bh×A0×Bh×A0×Int×Int×Int×Int):=
 .loop (fun (n:(A0×A0×Int×Int×Int×Int))=>⟨[(0,.ptr 0 0),(1,pz k),(2,pz m)],[(0,.box [.pure (encL 3 az2 c),.vec 1,.pure (encL 3 az2 e),.vec 2,pz n.2.2.1,pz n.2.2.2.1,pz n.2.2.2.2.1,pz n.2.2.2.2.2]),(1,vecO 1 az1 n.1 2),(2,vecO 1 az1 n.2.1 2)],[],3⟩)
 .ret (fun (_:U0)=>⟨[],[],[],3⟩)
 (fun n=>.call (Fzo c n.1) [(0,1)] fun s=>
 .call (Fzo e n.2.1) [(0,2)] fun t=>
 .cc (lzf s t) fun w=>let y:=i64.wrap (w.1.tdiv 65536);let z:=i64.wrap (w.2.1.tdiv 65536);let aa:=i64.wrap (w.2.2.tdiv 65536);
 .cc (wzr w k) fun ab=>
 .br ab
 (.ff (2,c,n.1,e,n.2.1,n.2.2.1,n.2.2.2.1,n.2.2.2.2.1,n.2.2.2.2.2))
 (.ix 0 3 rfl<|
 .ok ((65536:Int)≠0) (by decide)<|
 .ix 1 3 rfl<|
 .ok ((65536:Int)≠0) (by decide)<|
 .ix 2 3 rfl<|
 .ok ((65536:Int)≠0) (by decide)<|
 .cc (pz9 (y,z,aa)) fun ac=>
 .br (!ac.2)
 (.ff (0,c,n.1,e,n.2.1,ac.1.1,ac.1.2.1,ac.1.2.2,n.2.2.2.2.2))
 (.call (Jzb c n.1 ac.1) [(0,1)] fun ad=>
 .call (zzb e n.2.1 ac.1) [(0,2)] fun ae=>
 .cc (szh ac.1) fun af=>
 .br (decide ((i64.wrap (ad.1-ae.1))>(i64.wrap (af * k))))
 (.ff (1,c,n.1,e,n.2.1,ac.1.1,ac.1.2.1,ac.1.2.2,n.2.2.2.2.2))
 (.br (n.2.2.2.2.2==m)
 (.ff (0,c,n.1,e,n.2.1,ac.1.1,ac.1.2.1,ac.1.2.2,n.2.2.2.2.2))
 (.gh ad.2 c.length<|
 .gh ae.2 e.length<|
 .cc (lzf (c.getD ((ad.2).toNat) default) (e.getD ((ae.2).toNat) default)) fun ag=>
 .cc (Ezd (y,z,aa) ag) fun ah=>
 .br (ah==0)
 (.ff (0,c,n.1,e,n.2.1,ac.1.1,ac.1.2.1,ac.1.2.2,n.2.2.2.2.2))
 (.call (uz7 c n.1 ad.2 ah) [(0,1)] fun ai=>
 .call (uz7 e n.2.1 ae.2 ah) [(0,2)] fun aj=>
 .nn (ai,aj,ac.1.1,ac.1.2.1,ac.1.2.2,(i64.wrap (n.2.2.2.2.2+1)))))))))
 (d,f,g,h,i,j) [] fun _=>
 .stop
noncomputable def Lzz (c)(d)(e)(f)(g)(h)(i)(j)(k)(m):=
 mkD Tryz.func162 (Mz0 c d e f g h i j k m) 3 [.ptr 0 0,pz k,pz m] [(0,.box [.pure (encL 3 az2 c),.vec 1,.pure (encL 3 az2 e),.vec 2,pz g,pz h,pz i,pz j]),(1,vecO 1 az1 d 2),(2,vecO 1 az1 f 2)] (fun r=>pz r.1) (fun r=>[(0,.box [.pure (encL 3 az2 r.2.1),.vec 1,.pure (encL 3 az2 r.2.2.2.1),.vec 2,pz r.2.2.2.2.2.1,pz r.2.2.2.2.2.2.1,pz r.2.2.2.2.2.2.2.1,pz r.2.2.2.2.2.2.2.2]),(1,vecO 1 az1 r.2.2.1 2),(2,vecO 1 az1 r.2.2.2.2.1 2)])
noncomputable def yzv (c:Bh)(d:Bh)(e:Int)(f:Int):T mzz:=
 .cut 2 (fun (g:Bool)=>⟨[(0,.pure (encL 3 az2 c)),(1,.pure (encL 3 az2 d)),(2,pz e),(3,pz f),(8,.ptr 0 0),(34,.pure (.bool g))],[(0,.box [pz 0,pz 0,pz 0,pz 0,.vec 1,.vec 2,pz 0]),(1,.nilv),(2,.nilv)],[],3⟩)
 (.cc (pz3 c) fun g=>
 .br (!g)
 (.oo true)
 (.cc (pz3 d) fun h=>
 .br (!h)
 (.oo true)
 (.br (decide (e<0))
 (.oo true)
 (.br (decide (e>2097152))
 (.oo true)
 (.br (decide (f<0))
 (.oo true)
 (.oo (decide (f>64)))))))) fun g=>
 .br g
 (.ret (⟨0,(0,0,0),nl,nl,0⟩:mzz))
 (.cc (nzb c) fun h=>
 .cc (nzb d) fun i=>
 .call (Lzz h.1 h.2 i.1 i.2 0 0 0 0 e f) [(0,451),(1,67),(2,259)] fun j=>
 .ret (⟨j.1,(j.2.2.2.2.2.1,j.2.2.2.2.2.2.1,j.2.2.2.2.2.2.2.1),j.2.2.1,j.2.2.2.2.1,j.2.2.2.2.2.2.2.2⟩:mzz))
noncomputable def pz2 (c)(d)(e)(f):=
 mkD Tryz.func102 (yzv c d e f) 0 [.pure (encL 3 az2 c),.pure (encL 3 az2 d),pz e,pz f] [] (fun r=>.pure (Kzu r)) (fun _=>[])
noncomputable def pzh {o:Bg->Option Bool}(Y:YldS Tryz.prog az2 o)(a0:Bn)(a1:Bn)(a2:Int)(a3:Int)(a4:Bh):T Cc:=
 .cut 1 (fun (y22:Bool)=>⟨[(0,.yld Y.l),(1,.ptr 1 0),(2,.ptr 2 0),(3,.ptr 3 0),(4,.ptr 4 0),(5,.ptr 5 0),(31,.pure (.bool y22))],[(0,.tok Y.τ (tokP false (az2 default))),(1,.box [.pure (encL 6 az3 a0)]),(2,.box [.pure (encL 6 az3 a1)]),(3,.box [pz a2]),(4,.box [pz a3]),(5,.box [.pure (encL 3 az2 a4)])],[],6⟩)
 (.call (dzf a0) [] fun y23=>
 .br (!y23)
 (.ret (.out true))
 (.call (dzf a1) [] fun y24=>
 .br (!y24)
 (.ret (.out true))
 (.call (mza a2) [] fun y25=>
 .br (!y25)
 (.ret (.out true))
 (.call (mza a3) [] fun y26=>
 .ret (.out (!y26)))))) fun y22=>
 .br y22
 (.ret (false,default,a0,a1,a2,a3,a4))
 (.loop (fun (x87:(Int×Bool×Bg))=>⟨[(0,.yld Y.l),(1,.ptr 1 0),(2,.ptr 2 0),(3,.ptr 3 0),(4,.ptr 4 0),(32,.pure (encL 3 az2 a4)),(33,pz (a4.length:Int)),(34,pz x87.1)],[(0,.tok Y.τ (tokP x87.2.1 (az2 x87.2.2))),(1,.box [.pure (encL 6 az3 a0)]),(2,.box [.pure (encL 6 az3 a1)]),(3,.box [pz a2]),(4,.box [pz a3]),(5,.box [.pure (encL 3 az2 a4)])],[],6⟩)
 (.exit 0) (fun (y102:(Bool×Bg))=>⟨[(0,.yld Y.l),(1,.ptr 1 0),(2,.ptr 2 0),(3,.ptr 3 0),(4,.ptr 4 0)],[(0,.tok Y.τ (tokP y102.1 (az2 y102.2))),(1,.box [.pure (encL 6 az3 a0)]),(2,.box [.pure (encL 6 az3 a1)]),(3,.box [pz a2]),(4,.box [pz a3]),(5,.box [.pure (encL 3 az2 a4)])],[],6⟩)
 (fun x87=>.br (decide (x87.1<(a4.length:Int)))
 (.grd (0≤x87.1/\x87.1<(a4.length:Int))<|
 .cut 0 (fun (y114:Bs)=>⟨[(0,.yld Y.l),(1,.ptr 1 0),(2,.ptr 2 0),(3,.ptr 3 0),(4,.ptr 4 0),(32,.pure (encL 3 az2 a4)),(33,pz (a4.length:Int)),(34,pz x87.1),(45,.pure (.bool y114.1))],[(0,.tok Y.τ (tokP y114.2.1 (az2 y114.2.2))),(1,.box [.pure (encL 6 az3 a0)]),(2,.box [.pure (encL 6 az3 a1)]),(3,.box [pz a2]),(4,.box [pz a3]),(5,.box [.pure (encL 3 az2 a4)])],[],6⟩)
 (.call (fzc (a4.getD ((x87.1).toNat) default)) [] fun y115=>
 .br y115
 (.call (Y.C x87.2.1 x87.2.2 (a4.getD ((x87.1).toNat) default)) [(0,0)] fun y116=>
 .ret (.out ((!(!y116)),y116,(a4.getD ((x87.1).toNat) default))))
 (.ret (.out (false,x87.2.1,x87.2.2)))) fun y114=>
 .br y114.1
 (.ret (.fin (y114.2.1,y114.2.2,a0,a1,a2,a3,a4)))
 (.ret (.next ((i64.wrap (x87.1+1)),y114.2.1,y114.2.2))))
 (.ret (.out (x87.2.1,x87.2.2))))
 (0,false,default) [] fun y102=>
 .call (Ezk a0 a1) [] fun y124=>
 .cut 0 (fun (y127:Bs)=>⟨[(0,.yld Y.l),(1,.ptr 1 0),(2,.ptr 2 0),(3,.ptr 3 0),(4,.ptr 4 0),(59,.pure (.bool y127.1))],[(0,.tok Y.τ (tokP y127.2.1 (az2 y127.2.2))),(1,.box [.pure (encL 6 az3 a0)]),(2,.box [.pure (encL 6 az3 a1)]),(3,.box [pz a2]),(4,.box [pz a3]),(5,.box [.pure (encL 3 az2 a4)])],[],6⟩)
 (.br y124.2
 (.call (Y.C y102.1 y102.2 y124.1) [(0,0)] fun y128=>
 .ret (.out ((!(!y128)),y128,y124.1)))
 (.ret (.out (false,y102.1,y102.2)))) fun y127=>
 .br y127.1
 (.ret (y127.2.1,y127.2.2,a0,a1,a2,a3,a4))
 (.call (Ezg) [] fun y147=>
 .loop (fun (x153:(Int×Bool×Bg))=>⟨[(0,.yld Y.l),(1,.ptr 1 0),(2,.ptr 2 0),(3,.ptr 3 0),(4,.ptr 4 0),(60,.pure (encL 3 az2 y147)),(61,pz (y147.length:Int)),(62,pz x153.1)],[(0,.tok Y.τ (tokP x153.2.1 (az2 x153.2.2))),(1,.box [.pure (encL 6 az3 a0)]),(2,.box [.pure (encL 6 az3 a1)]),(3,.box [pz a2]),(4,.box [pz a3]),(5,.box [.pure (encL 3 az2 a4)])],[],6⟩)
 (.exit 2) (fun (y158:(Bool×Bg))=>⟨[(0,.yld Y.l),(1,.ptr 1 0),(2,.ptr 2 0),(3,.ptr 3 0),(4,.ptr 4 0)],[(0,.tok Y.τ (tokP y158.1 (az2 y158.2))),(1,.box [.pure (encL 6 az3 a0)]),(2,.box [.pure (encL 6 az3 a1)]),(3,.box [pz a2]),(4,.box [pz a3]),(5,.box [.pure (encL 3 az2 a4)])],[],6⟩)
 (fun x153=>.br (decide (x153.1<(y147.length:Int)))
 (.grd (0≤x153.1/\x153.1<(y147.length:Int))<|
 .call (Y.C x153.2.1 x153.2.2 (y147.getD ((x153.1).toNat) default)) [(0,0)] fun y162=>
 .br (!(!y162))
 (.ret (.fin (y162,(y147.getD ((x153.1).toNat) default),a0,a1,a2,a3,a4)))
 (.ret (.next ((i64.wrap (x153.1+1)),y162,(y147.getD ((x153.1).toNat) default)))))
 (.ret (.out (x153.2.1,x153.2.2))))
 (0,y127.2.1,y127.2.2) [] fun y158=>
 .call (ezw a0) [] fun y166=>
 .call (ezw a1) [] fun y167=>
 .call (pz2 y166 y167 (i64.wrap (a2+a3)) 64) [] fun y168=>
 .call (fzc y168.Normal) [] fun y170=>
 .br y170
 (.call (Y.C y158.1 y158.2 y168.Normal) [(0,0)] fun y171=>
 .ret (y171,y168.Normal,a0,a1,a2,a3,a4))
 (.ret (y158.1,y158.2,a0,a1,a2,a3,a4))))
noncomputable def pzg {o:Bg->Option Bool}(Y:YldS Tryz.prog az2 o)(a0:Bn)(a1:Bn)(a2:Int)(a3:Int)(a4:Bh):CallS Cc:=
 mkD Tryz.func221 (pzh Y a0 a1 a2 a3 a4) 6 [.yld Y.l,.ptr 1 0,.ptr 2 0,.ptr 3 0,.ptr 4 0,.ptr 5 0] [(0,.tok Y.τ (tokP false (az2 default))),(1,.box [.pure (encL 6 az3 a0)]),(2,.box [.pure (encL 6 az3 a1)]),(3,.box [pz a2]),(4,.box [pz a3]),(5,.box [.pure (encL 3 az2 a4)])] (fun _=>.tup []) (fun r=>[(0,.tok Y.τ (tokP r.1 (az2 r.2.1))),(1,.box [.pure (encL 6 az3 r.2.2.1)]),(2,.box [.pure (encL 6 az3 r.2.2.2.1)]),(3,.box [pz r.2.2.2.2.1]),(4,.box [pz r.2.2.2.2.2.1]),(5,.box [.pure (encL 3 az2 r.2.2.2.2.2.2)])])
noncomputable def Ezi (c:Bn)(d:Int)(e:Bn)(f:Int)(_a4:Bh)(x:Bg):T Bool:=
 .cc (nzd x c d e f) fun g=>
 .br g
 (.ret true)
 (.ret false)
noncomputable def Ezj (a0:Bn)(a1:Int)(a2:Bn)(a3:Int)(a4:Bh):CallS Bl:=
 mkR (encX:=az2) [⟨157,Qzb⟩] hd Tryz.func101 (by kernel_rfl) (.call (rzs a0 a1 a2 a3 a4) [] fun y1=>
 .ret y1)
 (Ezi a0 a1 a2 a3 a4) [(0,.box [.pure (encL 6 az3 a0)]),(64,.box [pz a1]),(128,.box [.pure (encL 6 az3 a2)]),(192,.box [pz a3]),(256,.box [pz 0,pz 0,pz 0]),(320,.box [.ff])]
 (fun p=>[(0,.box [.pure (encL 6 az3 a0)]),(64,.box [pz a1]),(128,.box [.pure (encL 6 az3 a2)]),(192,.box [pz a3]),(256,.box (p.cells.map .pure)),(320,.box [.tt])]) [(0,960),(1,832),(2,833),(3,834),(4,835),(5,836)] (fun r=>r.1) (fun r=>r.2.1)
 (fun y1 Y=>pzg Y y1.1 y1.2.1 y1.2.2.1 y1.2.2.2.1 y1.2.2.2.2)
 (.ret ((0,0,0),false)) (fun x=>(x,true)) (fun _ _=>rfl) 0 [.pure (encL 6 az3 a0),pz a1,.pure (encL 6 az3 a2),pz a3,.pure (encL 3 az2 a4)] [] (fun r=>.tup [.pure (az2 r.1),.pure (.bool r.2)]) (fun _=>[]) (by kernel_rfl)
set_option maxHeartbeats 8000000 in
set_option maxRecDepth 20000 in
noncomputable def Dz0 (c:Bn)(d:A0):T (Bm×Int×Bool):=let e:=encL 6 az3 c;let f:=encL 1 az1 d;let g:=(d.length:Int);.cut 2 (fun (h:Bool)=>⟨[(0,.pure e),(1,.pure f),(4,.ptr 0 0),(22,.pure (.bool h))],[(0,.box [pz 0,pz 0,pz 0,pz 0,pz 0,pz 0])],[],1⟩)
 (.cc (dzf c) fun h=>
 .br (!h)
 (.oo true)
 (.oo (g !=(c.length:Int)))) fun h=>
 .br h
 (.ret (((⟨0,0⟩:az0),(⟨0,0⟩:az0),(⟨0,0⟩:az0)),0,false))
 (.loop (fun (i:(Int×Int×Int×Int×Int×Int×Int×Int))=>⟨[(0,.pure e),(4,.ptr 0 0),(7,.ptr 1 0),(8,pz i.2.2.2.2.2.2.1),(24,.pure f),(25,pz g),(26,pz i.2.2.2.2.2.2.2)],[(0,.box [pz 0,pz 0,pz 0,pz 0,pz 0,pz 0]),(1,.box [pz i.1,pz i.2.1,pz i.2.2.1,pz i.2.2.2.1,pz i.2.2.2.2.1,pz i.2.2.2.2.2.1])],[],2⟩)
 (.exit 0) (fun (i:(Int×Int×Int×Int×Int×Int×Int))=>⟨[(4,.ptr 0 0),(7,.ptr 1 0),(8,pz i.2.2.2.2.2.2)],[(0,.box [pz 0,pz 0,pz 0,pz 0,pz 0,pz 0]),(1,.box [pz i.1,pz i.2.1,pz i.2.2.1,pz i.2.2.2.1,pz i.2.2.2.2.1,pz i.2.2.2.2.2.1])],[],2⟩)
 (fun i=>let j:=(i.2.2.2.2.2.2.2).toNat;let k:=d.getD j default;let m:=c.getD j default;.br (decide (i.2.2.2.2.2.2.2<g))
 (.gh i.2.2.2.2.2.2.2 d.length<|
 .cut 1 (fun (n:Bool)=>⟨[(0,.pure e),(4,.ptr 0 0),(7,.ptr 1 0),(8,pz i.2.2.2.2.2.2.1),(9,pz i.2.2.2.2.2.2.2),(10,pz k),(24,.pure f),(25,pz g),(26,pz i.2.2.2.2.2.2.2),(36,.pure (.bool n))],[(0,.box [pz 0,pz 0,pz 0,pz 0,pz 0,pz 0]),(1,.box [pz i.1,pz i.2.1,pz i.2.2.1,pz i.2.2.2.1,pz i.2.2.2.2.1,pz i.2.2.2.2.2.1])],[],2⟩)
 (.br (decide (k<0))
 (.oo true)
 (.oo (decide (k>65536)))) fun n=>
 .br n
 (.ff (((⟨0,0⟩:az0),(⟨0,0⟩:az0),(⟨0,0⟩:az0)),0,false))
 (.gh i.2.2.2.2.2.2.2 c.length<|
 .unroll 4<|
 .known true<|
 .ix 0 3 rfl<|
 .ix 0 3 rfl<|
 .name 14007 ((i64.wrap (k * (m.1.Lo)))) fun s=>
 .name 14008 ((i64.wrap (i.1+s))) fun t=>
 .ix 0 3 rfl<|
 .ix 0 3 rfl<|
 .name 15007 ((i64.wrap (k * (m.1.Hi)))) fun w=>
 .name 15008 ((i64.wrap (i.2.1+w))) fun y=>
 .ix 0 3 rfl<|
 .lit 16000 (1)<|
 .known true<|
 .ix 1 3 rfl<|
 .ix 1 3 rfl<|
 .name 14007 ((i64.wrap (k * (m.2.1.Lo)))) fun z=>
 .name 14008 ((i64.wrap (i.2.2.1+z))) fun aa=>
 .ix 1 3 rfl<|
 .ix 1 3 rfl<|
 .name 15007 ((i64.wrap (k * (m.2.1.Hi)))) fun ab=>
 .name 15008 ((i64.wrap (i.2.2.2.1+ab))) fun ac=>
 .ix 1 3 rfl<|
 .lit 16000 (2)<|
 .known true<|
 .ix 2 3 rfl<|
 .ix 2 3 rfl<|
 .name 14007 ((i64.wrap (k * (m.2.2.Lo)))) fun ad=>
 .name 14008 ((i64.wrap (i.2.2.2.2.1+ad))) fun ae=>
 .ix 2 3 rfl<|
 .ix 2 3 rfl<|
 .name 15007 ((i64.wrap (k * (m.2.2.Hi)))) fun af=>
 .name 15008 ((i64.wrap (i.2.2.2.2.2.1+af))) fun ag=>
 .ix 2 3 rfl<|
 .lit 16000 (3)<|
 .known false<|
 .nn (t,y,aa,ac,ae,ag,(i64.wrap (i.2.2.2.2.2.2.1+k)),(i64.wrap (i.2.2.2.2.2.2.2+1)))))
 (.oo (i.1,i.2.1,i.2.2.1,i.2.2.2.1,i.2.2.2.2.1,i.2.2.2.2.2.1,i.2.2.2.2.2.2.1)))
 (0,0,0,0,0,0,0,0) [] fun i=>
 .cut 1 (fun (j:Bool)=>⟨[(4,.ptr 0 0),(7,.ptr 1 0),(8,pz i.2.2.2.2.2.2),(78,.pure (.bool j))],[(0,.box [pz 0,pz 0,pz 0,pz 0,pz 0,pz 0]),(1,.box [pz i.1,pz i.2.1,pz i.2.2.1,pz i.2.2.2.1,pz i.2.2.2.2.1,pz i.2.2.2.2.2.1])],[],2⟩)
 (.br (decide (i.2.2.2.2.2.2<1))
 (.oo true)
 (.oo (decide (i.2.2.2.2.2.2>65536)))) fun j=>
 .br j
 (.ret (((⟨0,0⟩:az0),(⟨0,0⟩:az0),(⟨0,0⟩:az0)),0,false))
 (.ret (((⟨i.1,i.2.1⟩:az0),(⟨i.2.2.1,i.2.2.2.1⟩:az0),(⟨i.2.2.2.2.1,i.2.2.2.2.2.1⟩:az0)),i.2.2.2.2.2.2,true)))
noncomputable def qzq (c)(d):=
 mkD Tryz.func239 (Dz0 c d) 0 [.pure (encL 6 az3 c),.pure (encL 1 az1 d)] [] (fun r=>.tup [.pure (az3 r.1),pz r.2.1,.pure (.bool r.2.2)]) (fun _=>[])
noncomputable def uzr (c:Int):T Bool:=
 .br (decide (c≥0))
 (.ret (decide (c≤1048576)))
 (.ret false)
noncomputable def mzb (c):=
 mkD Tryz.func240 (uzr c) 0 [pz c] [] (fun r=>.pure (.bool r)) (fun _=>[])
noncomputable def uzq (c:A0):T Int:=let d:=(c.length:Nat);.loop (fun (e:Ay)=>⟨[(3,pz e.1),(6,.pure (encL 1 az1 c)),(7,pz (d:Int)),(8,pz e.2)],[],[],0⟩)
 (.exit 0) (fun (e:Int)=>⟨[(3,pz e)],[],[],0⟩)
 (fun e=>let f:=c.getD ((e.2).toNat) default;.br (decide (e.2<(d:Int)))
 (.gh e.2 c.length<|
 .nn ((max (max e.1 f) (i64.wrap (0-f))),(i64.wrap (e.2+1))))
 (.oo e.1))
 (0,0) [] fun e=>
 .ret e
noncomputable def hzt (c):=
 mkD Tryz.func241 (uzq c) 0 [.pure (encL 1 az1 c)] [] (fun r=>pz r) (fun _=>[])
noncomputable def zz4 (c:A0)(d:A0)(e:Bn)(f:Int)(g:Bn)(h:Int):T B7:=let i:=i64.wrap (f+h);.cc (qzq e c) fun j=>
 .cc (qzq g d) fun k=>let m:=([(i64.wrap (j.1.1.Lo-k.1.1.Hi)),(i64.wrap (j.1.1.Hi-k.1.1.Lo))]:A0);let n:=([(i64.wrap (j.1.2.1.Lo-k.1.2.1.Hi)),(i64.wrap (j.1.2.1.Hi-k.1.2.1.Lo))]:A0);let s:=([(i64.wrap (j.1.2.2.Lo-k.1.2.2.Hi)),(i64.wrap (j.1.2.2.Hi-k.1.2.2.Lo))]:A0);
 .cut 1 (fun (t:Bool)=>⟨[(3,pz f),(5,pz h),(12,.ptr 0 0),(13,.ptr 1 0),(14,.ptr 2 0),(15,pz j.2.1),(17,.ptr 3 0),(59,.pure (.bool t))],[(0,.box [pz 0]),(1,.box [.ff]),(2,.box [pz j.1.1.Lo,pz j.1.1.Hi,pz j.1.2.1.Lo,pz j.1.2.1.Hi,pz j.1.2.2.Lo,pz j.1.2.2.Hi]),(3,.box [pz k.1.1.Lo,pz k.1.1.Hi,pz k.1.2.1.Lo,pz k.1.2.1.Hi,pz k.1.2.2.Lo,pz k.1.2.2.Hi])],[.func 238 [] [.ptr 0 0,.ptr 1 0]],4⟩)
 (.br (!j.2.2)
 (.oo true)
 (.br (!k.2.2)
 (.oo true)
 (.br (j.2.1 !=k.2.1)
 (.oo true)
 (.cc (mzb f) fun t=>
 .br (!t)
 (.oo true)
 (.cc (mzb h) fun w=>
 .oo (!w)))))) fun t=>
 .br t
 (.ret (0,false))
 (.unroll 4<|
 .known true<|
 .ix 0 3 rfl<|
 .ix 0 3 rfl<|
 .ix 0 3 rfl<|
 .ix 0 3 rfl<|
 .conv 11018 (bzl 1 az1 m 2)<|
 .cc (hzt m) fun w=>let y:=i64.wrap ((i64.wrap ((i64.wrap (w+j.2.1))-1)).tdiv j.2.1);
 .grd (j.2.1≠0)<|
 .br (decide (y>i))
 (.ret ((-1),true))
 (.name 15003 ((i64.wrap (y * y))) fun z=>
 .name 15004 ((i64.wrap ((i64.wrap (i * i))-z))) fun aa=>
 .lit 16000 (1)<|
 .known true<|
 .ix 1 3 rfl<|
 .ix 1 3 rfl<|
 .ix 1 3 rfl<|
 .ix 1 3 rfl<|
 .conv 11018 (bzl 1 az1 n 2)<|
 .cc (hzt n) fun ab=>let ac:=i64.wrap ((i64.wrap ((i64.wrap (ab+j.2.1))-1)).tdiv j.2.1);
 .grd (j.2.1≠0)<|
 .br (decide (ac>i))
 (.ret ((-1),true))
 (.name 15003 ((i64.wrap (ac * ac))) fun ad=>
 .name 15004 ((i64.wrap (aa-ad))) fun ae=>
 .lit 16000 (2)<|
 .known true<|
 .ix 2 3 rfl<|
 .ix 2 3 rfl<|
 .ix 2 3 rfl<|
 .ix 2 3 rfl<|
 .conv 11018 (bzl 1 az1 s 2)<|
 .cc (hzt s) fun af=>let ag:=i64.wrap ((i64.wrap ((i64.wrap (af+j.2.1))-1)).tdiv j.2.1);
 .grd (j.2.1≠0)<|
 .br (decide (ag>i))
 (.ret ((-1),true))
 (.name 15003 ((i64.wrap (ag * ag))) fun ah=>
 .name 15004 ((i64.wrap (ae-ah))) fun ai=>
 .lit 16000 (3)<|
 .known false<|
 .ret (ai,true)))))
noncomputable def zz3 (c)(d)(e)(f)(g)(h):=
 mkC [⟨238,Qzf⟩] hd Tryz.func166 (by kernel_rfl) (zz4 c d e f g h) 0 [.pure (encL 1 az1 c),.pure (encL 1 az1 d),.pure (encL 6 az3 e),pz f,.pure (encL 6 az3 g),pz h] [] (fun r=>.tup [pz r.1,.pure (.bool r.2)]) (fun _=>[]) (by kernel_rfl)
noncomputable def uzp (c:A0)(d:A0)(e:Bn)(f:Int)(g:Bn)(h:Int):T Bool:=
 .cc (zz3 c d e f g h) fun i=>
 .br i.2
 (.ret (decide (i.1≥0)))
 (.ret false)
noncomputable def uzo (c)(d)(e)(f)(g)(h):=
 mkC [⟨165,Qzc⟩] hd Tryz.func104 (by kernel_rfl) (uzp c d e f g h) 0 [.pure (encL 1 az1 c),.pure (encL 1 az1 d),.pure (encL 6 az3 e),pz f,.pure (encL 6 az3 g),pz h] [] (fun r=>.pure (.bool r)) (fun _=>[]) (by kernel_rfl)
noncomputable def tzl (c:dzp):T fz5:=
 .ret (⟨2,nl,c.witness⟩:fz5)
noncomputable def tzk (c):=
 mkD Tryz.func105 (tzl c) 0 [.iface 207 (.pure (pze c))] [] (fun r=>.pure (szq r)) (fun _=>[])
noncomputable def rze (c:bzr):T fz5:=
 .ret (⟨1,c.normals,(⟨0,nl,nl⟩:dzx)⟩:fz5)
noncomputable def rzd (c):=
 mkD Tryz.func105 (rze c) 0 [.iface 209 (.pure (fz3 c))] [] (fun r=>.pure (szq r)) (fun _=>[])
noncomputable def Dzn (c:azx)(d:Af)(e:Bh):T fz5:=let f:=encL 3 az2 e;let g:=(e.length:Int);.cc (ozw (⟨c.Robot,c.Shapes,c.Skips⟩:azx) d) fun h=>let i:=(h.1.pairs.length:Int);let j:Nat×Res:=(4,.box [.pure (encL 3 az8 h.1.shapes),.pure (encL 2 gz3 h.1.pairs),.pure (encL 1 (encL 6 az3) h.1.points)]);
 .br (!h.2)
 (.ret (⟨0,nl,(⟨0,nl,nl⟩:dzx)⟩:fz5))
 (.conv 5003 (rzh 3 az2 68 i.toNat (0,0,0))<|
 .grd (0≤i/\i≤i/\i≤9223372036854775807/\i * 24≤140737488355328)<|
 .loop (fun (k:(Bh×Bool×Int))=>⟨[(2,.pure f),(6,.ptr 0 0),(7,.ptr 4 0),(9,.vec 5),(10,.pure (.bool k.2.1)),(33,pz i),(34,pz k.2.2)],[(0,.box [pz 0,.vec 1,pz 0,.vec 2,.vec 3]),(1,.nilv),(2,.nilv),(3,.nilv),j,(5,vecO 3 az2 k.1 68)],[.func 98 [] [.ptr 0 0]],6⟩)
 (.exit 0) (fun (k:(Bh×Bool))=>⟨[(6,.ptr 0 0),(9,.vec 4),(10,.pure (.bool k.2))],[(0,.box [pz 0,.vec 1,pz 0,.vec 2,.vec 3]),(1,.nilv),(2,.nilv),(3,.nilv),(4,vecO 3 az2 k.1 68)],[.func 98 [] [.ptr 0 0]],5⟩)
 (fun k=>let m:=k.2.2;let n:=min k.2.2 g;let s:=i64.wrap (k.2.2+1);let t:=min s g;.br (decide (k.2.2<i))
 (.cut 0 (fun (w:(Bh×Bool))=>⟨[(2,.pure f),(6,.ptr 0 0),(7,.ptr 4 0),(9,.vec 5),(10,.pure (.bool w.2)),(33,pz i),(34,pz k.2.2)],[(0,.box [pz 0,.vec 1,pz 0,.vec 2,.vec 3]),(1,.nilv),(2,.nilv),(3,.nilv),j,(5,vecO 3 az2 w.1 68)],[.func 98 [] [.ptr 0 0]],6⟩)
 (.cc (tzi (⟨h.1.shapes,h.1.pairs,h.1.points⟩:cz7) k.2.2) fun w=>
 .conv 11010 (wzc 3 az2 e n t)<|
 .grd (0≤n/\n≤t/\t≤g)<|
 .call (Ezj w.a w.ra w.b w.rb ((e.drop (n.toNat)).take (t.toNat-n.toNat))) [] fun y=>
 .br y.2
 (.gh k.2.2 k.1.length<|
 .conv 14004 (bze 3 az2 k.1 68 (m.toNat) y.1)<|
 .gi m k.1.length<|
 .oo ((k.1.set (m.toNat) y.1),k.2.1))
 (.cc (ezw w.a) fun z=>
 .cc (ezw w.b) fun aa=>
 .cc (pz2 z aa (i64.wrap (w.ra+w.rb)) 64) fun ab=>
 .cc (uzo ab.Left ab.Right w.a w.ra w.b w.rb) fun ac=>
 .br ac
 (.cc (tzk (⟨(⟨k.2.2,ab.Left,ab.Right⟩:dzx)⟩:dzp)) fun ad=>
 .ff (.fin ad))
 (.oo (k.1,false)))) fun w=>
 .nn (w.1,w.2,s))
 (.oo (k.1,k.2.1)))
 ((List.replicate i.toNat ((0,0,0):Bg)),true,0) [] fun k=>
 .br (!k.2)
 (.ret (⟨0,k.1,(⟨0,nl,nl⟩:dzx)⟩:fz5))
 (.cc (rzd (⟨k.1⟩:bzr)) fun m=>
 .ret m))
noncomputable def sz1 (c)(d)(e):=
 mkC [⟨98,Tzj⟩] hd Tryz.func57 (by kernel_rfl) (Dzn c d e) 0 [.pure (czl c),.pure (encL 2 azd d),.pure (encL 3 az2 e)] [] (fun r=>.pure (szq r)) (fun _=>[]) (by kernel_rfl)
noncomputable def zzw (c:azb)(d:bz5)(e:A0):T Bool:=
 .cc (oz0 c d) fun f=>
 .br (f.2==0)
 (.cc (xzo e) fun g=>
 .cc (sz1 (⟨f.1.Robot,f.1.Shapes,f.1.Skips⟩:azx) g nl) fun h=>
 .ret (h.Kind==1))
 (.ret false)
noncomputable def pza (c)(d)(e):=
 mkD Tryz.func30 (zzw c d e) 0 [.pure (bzm c),.pure (ezb d),.pure (encL 1 az1 e)] [] (fun r=>.pure (.bool r)) (fun _=>[])
noncomputable def zzt (c:azb)(d:bz5)(e:azi)(f:Int):T Bool:=let g:=(⟨d.Where⟩:bz5);let h:=c.Grips.getD (f.toNat) default;let i:=(⟨c.Scene,c.Objects,c.Places,c.Hands,c.Grips,c.Slack⟩:azb);.cc (mzj i g e) fun j=>
 .cut 1 (fun (k:Bool)=>⟨[(3,pz f),(4,.ptr 0 0),(5,.ptr 1 0),(6,.ptr 2 0),(9,.ptr 3 0),(27,.pure (.bool k))],[(0,.box [.pure (encL 12 az7 c.Scene.Robot.Joints),.pure (encL 5 azc c.Scene.Robot.Masses),.pure (encL 3 az8 c.Scene.Shapes),.pure (encL 2 aze c.Scene.Skips),.pure (encL 2 azh c.Objects),.pure (encL 3 az2 c.Places),.pure (encL 4 azv c.Hands),.pure (encL 3 azu c.Grips),pz c.Slack]),(1,.box [.pure (encL 1 az1 d.Where)]),(2,.box [pz e.Kind,pz e.Hand,pz e.Place]),(3,.box [.pure (encL 1 az1 j.1.Where)])],[],4⟩)
 (.br (!j.2)
 (.oo true)
 (.cc (pzb c (⟨e.Kind,e.Hand,e.Place⟩:azi) f) fun k=>
 .oo (!k))) fun k=>
 .br k
 (.ret false)
 (.gh f c.Grips.length<|
 .cc (Fzm i e.Hand e.Place (h.At)) fun m=>
 .br m
 (.cc (pza i g (h.At)) fun n=>
 .br n
 (.cc (pza i (⟨j.1.Where⟩:bz5) (h.At)) fun s=>
 .ret s)
 (.ret false))
 (.ret false))
noncomputable def zzs (c)(d)(e)(f):=
 mkD Tryz.func11 (zzt c d e f) 0 [.pure (bzm c),.pure (ezb d),.pure (azn e),pz f] [] (fun r=>.pure (.bool r)) (fun _=>[])
noncomputable def wza (c:azs):T az0:=
 .ret (⟨c.Lo,c.Hi⟩:az0)
noncomputable def wz9 (c):=
 mkD Tryz.func262 (wza c) 0 [.pure (az7 c)] [] (fun r=>.pure (azd r)) (fun _=>[])
noncomputable def gz1 (c:A4):T Af:=let d:=(c.length:Int);.conv 1002 (rzh 2 azd 126 d.toNat (⟨0,0⟩:az0))<|
 .grd (0≤d/\d≤d/\d≤9223372036854775807/\d * 16≤140737488355328)<|
 .loop (fun (e:(Af×Int))=>⟨[(1,.func 262 [] []),(5,.vec 0),(11,.pure (encL 12 az7 c)),(12,pz d),(13,pz e.2)],[(0,vecO 2 azd e.1 126)],[],1⟩)
 (.exit 0) (fun (e:Af)=>⟨[(5,.vec 0)],[(0,vecO 2 azd e 126)],[],1⟩)
 (fun e=>let f:=(e.2).toNat;.br (decide (e.2<d))
 (.gh e.2 c.length<|
 .cc (wz9 (c.getD f default)) fun g=>
 .gh e.2 e.1.length<|
 .conv 5006 (bze 2 azd e.1 126 f g)<|
 .gi (e.2) e.1.length<|
 .nn ((e.1.set f g),(i64.wrap (e.2+1))))
 (.oo e.1))
 ((List.replicate d.toNat ((⟨0,0⟩:az0):az0)),0) [] fun e=>
 .ret e
noncomputable def gz0 (c):=
 mkD Tryz.func261 (gz1 c) 0 [.pure (encL 12 az7 c),.func 262 [] []] [] (fun r=>.pure (encL 2 azd r)) (fun _=>[])
noncomputable def Azy (c:bz1):T Af:=
 .cc (eze c) fun d=>
 .br (d !=0)
 (.ret nl)
 (.cc (gz0 c.Joints) fun e=>
 .ret e)
noncomputable def Azx (c):=
 mkD Tryz.func198 (Azy c) 0 [.pure (dz2 c)] [] (fun r=>.pure (encL 2 azd r)) (fun _=>[])
noncomputable def Czs (c:Af):T Bool:=let d:=encL 2 azd c;let e:=(c.length:Int);.cut 2 (fun (f:Bool)=>⟨[(0,.pure d),(12,.pure (.bool f))],[],[],0⟩)
 (.br (decide (e<1))
 (.oo true)
 (.oo (decide (e>10)))) fun f=>
 .br f
 (.ret false)
 (.loop (fun (g:Int)=>⟨[(13,.pure d),(14,pz e),(15,pz g)],[],[],0⟩)
 (.exit 0) (fun (_:U0)=>⟨[],[],[],0⟩)
 (fun g=>.br (decide (g<e))
 (.gh g c.length<|
 .cc (bzz (c.getD (g.toNat) default)) fun h=>
 .br (!h)
 (.ff false)
 (.nn (i64.wrap (g+1))))
 (.oo .u))
 0 [] fun _=>
 .ret true)
noncomputable def Czr (c):=
 mkD Tryz.func264 (Czs c) 0 [.pure (encL 2 azd c)] [] (fun r=>.pure (.bool r)) (fun _=>[])
noncomputable def Czq (c:Int):T Int:=
 .cut 3 (fun (d:Bool)=>⟨[(0,pz c),(2,.ptr 0 0),(9,.pure (.bool d))],[(0,.box [.pure (.int .u64 0)])],[.func 307 [] [.ptr 0 0]],1⟩)
 (.br (decide (c<0))
 (.oo true)
 (.oo (decide (c≥10)))) fun d=>
 .br d
 (.ret 0)
 (.gh c 10<|
 .ret (([2,3,5,7,11,13,17,19,23,29]:List Int).getD c.toNat 0))
noncomputable def Czp (c):=
 mkC [⟨307,Qzm⟩] hd Tryz.func266 (by kernel_rfl) (Czq c) 0 [pz c] [] (fun r=>.pure (.int .u64 r)) (fun _=>[]) (by kernel_rfl)
noncomputable def xz4 (c:Int)(d:Int):T Ay:=
 .br (decide (c<2))
 (.ret (0,1))
 (.ok ((4294967296:Int)≠0) (by decide)<|
 .loop (fun (e:Bg)=>⟨[(0,.pure (.int .u64 c)),(1,.pure (.int .u64 e.1)),(4,.ptr 0 0),(5,.ptr 1 0)],[(0,.box [.pure (.int .u64 e.2.1)]),(1,.box [.pure (.int .u64 e.2.2)])],[.func 306 [] [.ptr 0 0,.ptr 1 0]],2⟩)
 (.exit 0) (fun (e:Ay)=>⟨[(4,.ptr 0 0),(5,.ptr 1 0)],[(0,.box [.pure (.int .u64 e.1)]),(1,.box [.pure (.int .u64 e.2)])],[.func 306 [] [.ptr 0 0,.ptr 1 0]],2⟩)
 (fun e=>.br (decide (e.1>0))
 (.grd (c≠0)<|
 .grd (c≠0)<|
 .nn ((IntKind.u64.wrap (e.1.tdiv c)),(IntKind.u64.wrap ((IntKind.u64.wrap (e.2.1 * c))+(e.1.tmod c))),(IntKind.u64.wrap (e.2.2 * c))))
 (.oo (e.2.1,e.2.2)))
 ((d.tmod 4294967296),0,1) [] fun e=>
 .ret (e.1,e.2))
noncomputable def xz3 (c)(d):=
 mkC [⟨306,Qzl⟩] hd Tryz.func265 (by kernel_rfl) (xz4 c d) 0 [.pure (.int .u64 c),.pure (.int .u64 d)] [] (fun r=>.tup [.pure (.int .u64 r.1),.pure (.int .u64 r.2)]) (fun _=>[]) (by kernel_rfl)
noncomputable def xz6 (c:Int)(d:Int):T Bool:=
 .cc (bzz (⟨c,d⟩:az0)) fun e=>
 .ret e
noncomputable def xz5 (c)(d):=
 mkD Tryz.func309 (xz6 c d) 0 [pz c,pz d] [] (fun r=>.pure (.bool r)) (fun _=>[])
noncomputable def wzn (c:Int)(d:Int):T Ay:=let e:=c.fdiv (2 ^ (min (32:Int).toNat 64));let f:=d.fdiv (2 ^ (min (32:Int).toNat 64));let g:=IntKind.u64.wrap (((BitVec.ofInt 64 c&&&BitVec.ofInt 64 4294967295).toNat:Int));let h:=IntKind.u64.wrap (((BitVec.ofInt 64 d&&&BitVec.ofInt 64 4294967295).toNat:Int));.ok (0≤(32:Int)) (by decide)<|
 .ok (0≤(32:Int)) (by decide)<|
 .name 5002 ((IntKind.u64.wrap (g * h))) fun i=>
 .name 6002 ((IntKind.u64.wrap (e * h))) fun j=>let k:=IntKind.u64.wrap (j+(i.fdiv (2 ^ (min (32:Int).toNat 64))));
 .ok (0≤(32:Int)) (by decide)<|
 .name 7001 ((IntKind.u64.wrap (((BitVec.ofInt 64 k&&&BitVec.ofInt 64 4294967295).toNat:Int)))) fun m=>
 .ok (0≤(32:Int)) (by decide)<|
 .name 9003 ((IntKind.u64.wrap (g * f))) fun n=>
 .name 10004 ((IntKind.u64.wrap ((IntKind.u64.wrap (e * f))+(k.fdiv (2 ^ (min (32:Int).toNat 64)))))) fun s=>
 .ok (0≤(32:Int)) (by decide)<|
 .ret ((IntKind.u64.wrap (s+((IntKind.u64.wrap (m+n)).fdiv (2 ^ (min (32:Int).toNat 64))))),(IntKind.u64.wrap (c * d)))
noncomputable def wzm (c)(d):=
 mkD Tryz.func310 (wzn c d) 0 [.pure (.int .u64 c),.pure (.int .u64 d)] [] (fun r=>.tup [.pure (.int .u64 r.1),.pure (.int .u64 r.2)]) (fun _=>[])
noncomputable def lzu (c:Int):T Int:=
 .cc (izw c) fun d=>
 .ret (i64.wrap (64-d))
noncomputable def lzt (c):=
 mkD Tryz.func350 (lzu c) 0 [.pure (.int .u64 c)] [] (fun r=>pz r) (fun _=>[])
set_option maxHeartbeats 8000000 in
set_option maxRecDepth 20000 in
noncomputable def wzk (c:Int)(d:Int)(e:Int):T Ay:=
 .br (e==0)
 (.stop)
 (.br (decide (e≤c))
 (.stop)
 (.br (c==0)
 (.grd (e≠0)<|
 .grd (e≠0)<|
 .ret ((IntKind.u64.wrap (d.tdiv e)),(d.tmod e)))
 (.cc (lzt e) fun f=>let g:=IntKind.u64.wrap f;let h:=min g.toNat 64;let i:=IntKind.u64.wrap (e * 2 ^ h);let j:=IntKind.u64.wrap (d * 2 ^ h);let k:=IntKind.u64.wrap (64-g);let m:=i.fdiv (2 ^ (min (32:Int).toNat 64));let n:=j.fdiv (2 ^ (min (32:Int).toNat 64));
 .grd (0≤g)<|
 .ok (0≤(32:Int)) (by decide)<|
 .name 10001 ((IntKind.u64.wrap (((BitVec.ofInt 64 i&&&BitVec.ofInt 64 4294967295).toNat:Int)))) fun s=>
 .grd (0≤g)<|
 .grd (0≤k)<|
 .name 11007 ((IntKind.u64.wrap (((BitVec.ofInt 64 (IntKind.u64.wrap (c * 2 ^ h))|||BitVec.ofInt 64 (d.fdiv (2 ^ (min k.toNat 64)))).toNat:Int)))) fun t=>
 .grd (0≤g)<|
 .ok (0≤(32:Int)) (by decide)<|
 .name 14001 ((IntKind.u64.wrap (((BitVec.ofInt 64 j&&&BitVec.ofInt 64 4294967295).toNat:Int)))) fun w=>
 .grd (m≠0)<|
 .name 15002 ((IntKind.u64.wrap (t.tdiv m))) fun y=>
 .name 16003 ((IntKind.u64.wrap (y * m))) fun z=>
 .loop (fun (aa:Ay)=>⟨[(2,.pure (.int .u64 i)),(8,.pure (.int .u64 g)),(9,.pure (.int .u64 m)),(10,.pure (.int .u64 s)),(11,.pure (.int .u64 t)),(13,.pure (.int .u64 n)),(14,.pure (.int .u64 w)),(15,.pure (.int .u64 aa.1)),(16,.pure (.int .u64 aa.2))],[],[],0⟩)
 (.exit 0) (fun (aa:Int)=>⟨[(2,.pure (.int .u64 i)),(8,.pure (.int .u64 g)),(9,.pure (.int .u64 m)),(10,.pure (.int .u64 s)),(11,.pure (.int .u64 t)),(13,.pure (.int .u64 n)),(14,.pure (.int .u64 w)),(15,.pure (.int .u64 aa))],[],[],0⟩)
 (fun aa=>let ab:=IntKind.u64.wrap (aa.1-1);.cut 1 (fun (ac:Bool)=>⟨[(2,.pure (.int .u64 i)),(8,.pure (.int .u64 g)),(9,.pure (.int .u64 m)),(10,.pure (.int .u64 s)),(11,.pure (.int .u64 t)),(13,.pure (.int .u64 n)),(14,.pure (.int .u64 w)),(15,.pure (.int .u64 aa.1)),(16,.pure (.int .u64 aa.2)),(78,.pure (.bool ac))],[],[],0⟩)
 (.br (decide (aa.1≥4294967296))
 (.oo true)
 (.name 17009 ((IntKind.u64.wrap ((IntKind.u64.wrap (4294967296 * aa.2))+n))) fun ac=>
 .oo (decide ((IntKind.u64.wrap (aa.1 * s))>ac)))) fun ac=>
 .br ac
 (.name 19002 ((IntKind.u64.wrap (aa.2+m))) fun ad=>
 .br (decide (ad≥4294967296))
 (.oo ab)
 (.nn (ab,ad)))
 (.oo aa.1))
 (y,(IntKind.u64.wrap (t-z))) [] fun aa=>
 .name 21003 ((IntKind.u64.wrap ((IntKind.u64.wrap (t * 4294967296))+n))) fun ab=>
 .name 21007 ((IntKind.u64.wrap (ab- (IntKind.u64.wrap (aa * i))))) fun ac=>
 .grd (m≠0)<|
 .name 22002 ((IntKind.u64.wrap (ac.tdiv m))) fun ad=>
 .name 23003 ((IntKind.u64.wrap (ad * m))) fun ae=>
 .loop (fun (af:Ay)=>⟨[(2,.pure (.int .u64 i)),(8,.pure (.int .u64 g)),(9,.pure (.int .u64 m)),(10,.pure (.int .u64 s)),(14,.pure (.int .u64 w)),(15,.pure (.int .u64 aa)),(16,.pure (.int .u64 af.1)),(17,.pure (.int .u64 ac)),(18,.pure (.int .u64 af.2))],[],[],0⟩)
 (.exit 2) (fun (af:Int)=>⟨[(2,.pure (.int .u64 i)),(8,.pure (.int .u64 g)),(14,.pure (.int .u64 w)),(15,.pure (.int .u64 aa)),(17,.pure (.int .u64 ac)),(18,.pure (.int .u64 af))],[],[],0⟩)
 (fun af=>let ag:=IntKind.u64.wrap (af.2-1);.cut 1 (fun (ah:Bool)=>⟨[(2,.pure (.int .u64 i)),(8,.pure (.int .u64 g)),(9,.pure (.int .u64 m)),(10,.pure (.int .u64 s)),(14,.pure (.int .u64 w)),(15,.pure (.int .u64 aa)),(16,.pure (.int .u64 af.1)),(17,.pure (.int .u64 ac)),(18,.pure (.int .u64 af.2)),(113,.pure (.bool ah))],[],[],0⟩)
 (.br (decide (af.2≥4294967296))
 (.oo true)
 (.oo (decide ((IntKind.u64.wrap (af.2 * s))>(IntKind.u64.wrap ((IntKind.u64.wrap (4294967296 * af.1))+w)))))) fun ah=>
 .br ah
 (.name 26002 ((IntKind.u64.wrap (af.1+m))) fun ai=>
 .br (decide (ai≥4294967296))
 (.oo ag)
 (.nn (ai,ag)))
 (.oo af.2))
 ((IntKind.u64.wrap (ac-ae)),ad) [] fun af=>
 .name 28011 ((IntKind.u64.wrap ((IntKind.u64.wrap ((IntKind.u64.wrap (ac * 4294967296))+w))- (IntKind.u64.wrap (af * i))))) fun ag=>
 .grd (0≤g)<|
 .ret ((IntKind.u64.wrap ((IntKind.u64.wrap (aa * 4294967296))+af)),(ag.fdiv (2 ^ h))))))
noncomputable def wzj (c)(d)(e):=
 mkD Tryz.func311 (wzk c d e) 0 [.pure (.int .u64 c),.pure (.int .u64 d),.pure (.int .u64 e)] [] (fun r=>.tup [.pure (.int .u64 r.1),.pure (.int .u64 r.2)]) (fun _=>[])
noncomputable def Czo (c:Int)(d:Int)(e:Int)(f:Int):T Int:=
 .cut 3 (fun (g:Bool)=>⟨[(0,.pure (.int .u64 c)),(1,.pure (.int .u64 d)),(3,pz f),(6,.ptr 0 0),(8,.ptr 1 0),(22,.pure (.bool g))],[(0,.box [pz e]),(1,.box [pz 0])],[.func 308 [] [.ptr 0 0,.ptr 1 0]],2⟩)
 (.cc (xz5 e f) fun g=>
 .br (!g)
 (.oo true)
 (.oo (decide (c≥d)))) fun g=>
 .br g
 (.ret e)
 (.call (wzm c (IntKind.u64.wrap (i64.wrap ((i64.wrap (f-e))+1)))) [] fun h=>
 .cc (wzj h.1 h.2 d) fun i=>
 .ret (i64.wrap (e+(i64.wrap i.1))))
noncomputable def Czn (c)(d)(e)(f):=
 mkC [⟨308,Qzn⟩] hd Tryz.func267 (by kernel_rfl) (Czo c d e f) 0 [.pure (.int .u64 c),.pure (.int .u64 d),pz e,pz f] [] (fun r=>pz r) (fun _=>[]) (by kernel_rfl)
noncomputable def zzf (c:Af)(d:Int):T A0:=let e:=(c.length:Nat);.cc (Czr c) fun f=>
 .br (!f)
 (.ret nl)
 (.loop (fun (g:A3)=>⟨[(1,.pure (.int .u64 d)),(4,.ptr 0 0),(13,.pure (encL 2 azd c)),(14,pz (e:Int)),(15,pz g.2)],[(0,.box [.vec 1]),(1,vecO 1 az1 g.1 2)],[.func 263 [] [.ptr 0 0]],2⟩)
 (.exit 0) (fun (g:A0)=>⟨[(4,.ptr 0 0)],[(0,.box [.vec 1]),(1,vecO 1 az1 g 2)],[.func 263 [] [.ptr 0 0]],2⟩)
 (fun g=>let h:=c.getD ((g.2).toNat) default;.br (decide (g.2<(e:Int)))
 (.gh g.2 c.length<|
 .cc (Czp g.2) fun i=>
 .cc (xz3 i d) fun j=>
 .cc (Czn j.1 j.2 (h.Lo) (h.Hi)) fun k=>let m:=([k]:A0);let n:=g.1.length+m.length;
 .conv 8008 (bzl 1 az1 m 2)<|
 .conv 8009 (czq 1 az1 g.1 m 2)<|
 .grd (n * 8≤140737488355328/\n≤maxLen)<|
 .nn ((g.1++m),(i64.wrap (g.2+1))))
 (.oo g.1))
 (nl,0) [] fun g=>
 .ret g)
noncomputable def zze (c)(d):=
 mkC [⟨263,Qzg⟩] hd Tryz.func199 (by kernel_rfl) (zzf c d) 0 [.pure (encL 2 azd c),.pure (.int .u64 d)] [] (fun r=>.pure (encL 1 az1 r)) (fun _=>[]) (by kernel_rfl)
noncomputable def lzw (c:A0)(d:A0):T Bool:=let e:=(c.length:Int);.br (e !=(d.length:Int))
 (.ret false)
 (.loop (fun (f:Int)=>⟨[(0,.pure (encL 1 az1 c)),(1,.pure (encL 1 az1 d)),(12,pz e),(13,pz f)],[],[],0⟩)
 (.exit 0) (fun (_:U0)=>⟨[],[],[],0⟩)
 (fun f=>.br (decide (f<e))
 (.gh f c.length<|
 .gh f d.length<|
 .br ((c.getD (f.toNat) default) !=(d.getD (f.toNat) default))
 (.ff false)
 (.nn (i64.wrap (f+1))))
 (.oo .u))
 0 [] fun _=>
 .ret true)
noncomputable def ez7 (c)(d):=
 mkD Tryz.func82 (lzw c d) 0 [.pure (encL 1 az1 c),.pure (encL 1 az1 d)] [] (fun r=>.pure (.bool r)) (fun _=>[])
noncomputable def lzv (a0:A0):T A0:=
 (match a0 with
  |[]=>.unroll 1<|
  .grd (a0.length=0)<|
  .both
   (.ret nl)
   (.conv 3000 (bzl 1 az1 ([]:A0) 2)<|
   .conv 3002 (czq 1 az1 ([]:A0) a0 2)<|
   .grd ((([]:A0).length+a0.length) * 8≤140737488355328/\(([]:A0).length+a0.length)≤maxLen)<|
   .ret (([]:A0)++a0))
  |_::_=>.grd (0<a0.length)<|
  .conv 3000 (bzl 1 az1 ([]:A0) 2)<|
  .conv 3002 (czq 1 az1 ([]:A0) a0 2)<|
  .grd ((([]:A0).length+a0.length) * 8≤140737488355328/\(([]:A0).length+a0.length)≤maxLen)<|
  .ret (([]:A0)++a0))
noncomputable def bzy (a0:A0):CallS A0:=
 mkH [] hd Tryz.func279 (by kernel_rfl) (lzv a0) 0 [.pure (encL 1 az1 a0)] [] (fun r=>.pure (encL 1 az1 r)) (fun _=>[]) (by cases a0<;>exact Ob.of_side (by kernel_rfl))
set_option maxHeartbeats 8000000 in
set_option maxRecDepth 20000 in
noncomputable def vz2 (c:bz1)(d:A1):T A1:=let e:=(d.length:Int);let f:=encL 1 (encL 1 az1) d;let g:Nat×Res:=(0,.box [.pure (encL 12 az7 c.Joints),.pure (encL 5 azc c.Masses)]);.loop (fun (h:(A1×(List Cf)×Int))=>⟨[(2,.ptr 0 0),(5,.vec 1),(6,.map 2),(11,.pure f),(12,pz e),(13,pz h.2.2)],[g,(1,vecO 1 (encL 1 az1) h.1 50),(2,hz9 [.int .i64 0,.int .i64 0,.int .i64 0,.int .i64 0,.int .i64 0,.int .i64 0,.int .i64 0,.int .i64 0,.int .i64 0,.int .i64 0] czb h.2.1)],[],3⟩)
 (.exit 0) (fun (h:A1)=>⟨[(5,.vec 0)],[(0,vecO 1 (encL 1 az1) h 50)],[],1⟩)
 (fun h=>let i:=d.getD ((h.2.2).toNat) default;let j:=czb ((if 0<i.length then i.getD 0 default else 0),(if 1<i.length then i.getD 1 default else 0),(if 2<i.length then i.getD 2 default else 0),(if 3<i.length then i.getD 3 default else 0),(if 4<i.length then i.getD 4 default else 0),(if 5<i.length then i.getD 5 default else 0),(if 6<i.length then i.getD 6 default else 0),(if 7<i.length then i.getD 7 default else 0),(if 8<i.length then i.getD 8 default else 0),(if 9<i.length then i.getD 9 default else 0));let k:=uzc czb h.2.1 j;.br (decide (h.2.2<e))
 (.cut 0 (fun (m:(A1×(List Cf)))=>⟨[(2,.ptr 0 0),(5,.vec 1),(6,.map 2),(11,.pure f),(12,pz e),(13,pz h.2.2)],[g,(1,vecO 1 (encL 1 az1) m.1 50),(2,hz9 [.int .i64 0,.int .i64 0,.int .i64 0,.int .i64 0,.int .i64 0,.int .i64 0,.int .i64 0,.int .i64 0,.int .i64 0,.int .i64 0] czb m.2)],[],3⟩)
 (.gh h.2.2 d.length<|
 .br ((h.1.length:Int)==1024)
 (.ff (.out h.1))
 (.cc (bzv (⟨c.Joints,c.Masses⟩:bz1) i) fun m=>
 .br (!m)
 (.oo (h.1,h.2.1))
 (.ok ((mdom czb h.2.1 j)=false->PSub (.bool false) (PVal.bool k)) Mzg<|
 .br (!k)
 (.conv 11002 (Nzz [.int .i64 0,.int .i64 0,.int .i64 0,.int .i64 0,.int .i64 0,.int .i64 0,.int .i64 0,.int .i64 0,.int .i64 0,.int .i64 0] czb h.2.1 ((if 0<i.length then i.getD 0 default else 0),(if 1<i.length then i.getD 1 default else 0),(if 2<i.length then i.getD 2 default else 0),(if 3<i.length then i.getD 3 default else 0),(if 4<i.length then i.getD 4 default else 0),(if 5<i.length then i.getD 5 default else 0),(if 6<i.length then i.getD 6 default else 0),(if 7<i.length then i.getD 7 default else 0),(if 8<i.length then i.getD 8 default else 0),(if 9<i.length then i.getD 9 default else 0)) true)<|
 .cc (bzy i) fun n=>let s:=([n]:A1);let t:=h.1.length+s.length;
 .conv 12003 (bzl 1 (encL 1 az1) s 50)<|
 .conv 12004 (czq 1 (encL 1 az1) h.1 s 50)<|
 .grd (t * 24≤140737488355328/\t≤maxLen)<|
 .oo ((h.1++s),((((if 0<i.length then i.getD 0 default else 0),(if 1<i.length then i.getD 1 default else 0),(if 2<i.length then i.getD 2 default else 0),(if 3<i.length then i.getD 3 default else 0),(if 4<i.length then i.getD 4 default else 0),(if 5<i.length then i.getD 5 default else 0),(if 6<i.length then i.getD 6 default else 0),(if 7<i.length then i.getD 7 default else 0),(if 8<i.length then i.getD 8 default else 0),(if 9<i.length then i.getD 9 default else 0)),true)::h.2.1)))
 (.oo (h.1,h.2.1))))) fun m=>
 .nn (m.1,m.2,(i64.wrap (h.2.2+1))))
 (.oo h.1))
 (nl,(nl:List Cf),0) [] fun h=>
 .ret h
noncomputable def vz1 (c)(d):=
 mkD Tryz.func273 (vz2 c d) 0 [.pure (dz2 c),.pure (encL 1 (encL 1 az1) d)] [] (fun r=>.pure (encL 1 (encL 1 az1) r)) (fun _=>[])
noncomputable def zz2 (c:A0):T Bool:=let d:=encL 1 az1 c;let e:=(c.length:Int);.loop (fun (f:Int)=>⟨[(5,.pure d),(6,pz e),(7,pz f)],[],[],0⟩)
 (.exit 0) (fun (_:U0)=>⟨[],[],[],0⟩)
 (fun f=>let g:=c.getD (f.toNat) default;.br (decide (f<e))
 (.gh f c.length<|
 .cut 0 (fun (h:Bool)=>⟨[(5,.pure d),(6,pz e),(7,pz f),(16,.pure (.bool h))],[],[],0⟩)
 (.br (decide (g<(-2147483648)))
 (.oo true)
 (.oo (decide (g>2147483648)))) fun h=>
 .br h
 (.ff false)
 (.nn (i64.wrap (f+1))))
 (.oo .u))
 0 [] fun _=>
 .ret true
noncomputable def pz5 (c):=
 mkD Tryz.func403 (zz2 c) 0 [.pure (encL 1 az1 c)] [] (fun r=>.pure (.bool r)) (fun _=>[])
noncomputable def pzf (c:A1):T Bool:=let d:=(c.length:Int);let e:=encL 1 (encL 1 az1) c;.br (decide (d>1024))
 (.ret false)
 (.loop (fun (f:Int)=>⟨[(0,.pure e),(8,.pure e),(9,pz d),(10,pz f)],[],[],0⟩)
 (.exit 0) (fun (_:U0)=>⟨[],[],[],0⟩)
 (fun f=>let g:=c.getD (f.toNat) default;let h:=(g.length:Int);.br (decide (f<d))
 (.gh f c.length<|
 .cut 0 (fun (i:Bool)=>⟨[(0,.pure e),(8,.pure e),(9,pz d),(10,pz f),(35,.pure (.bool i))],[],[],0⟩)
 (.br (decide (h<1))
 (.oo true)
 (.br (decide (h>10))
 (.oo true)
 (.gh (0:Int) c.length<|
 .br (h !=(((c.getD ((0:Int).toNat) default).length:Nat):Int))
 (.oo true)
 (.cc (pz5 g) fun i=>
 .oo (!i))))) fun i=>
 .br i
 (.ff false)
 (.nn (i64.wrap (f+1))))
 (.oo .u))
 0 [] fun _=>
 .ret true)
noncomputable def izp (c):=
 mkD Tryz.func364 (pzf c) 0 [.pure (encL 1 (encL 1 az1) c)] [] (fun r=>.pure (.bool r)) (fun _=>[])
noncomputable def Bzr (c:Int):T Int:=
 .cc (izw c) fun d=>
 .ret d
noncomputable def lzd (c):=
 mkD Tryz.func382 (Bzr c) 0 [.pure (.int .u64 c)] [] (fun r=>pz r) (fun _=>[])
noncomputable def wz4 (c:Int):T Bool:=
 .ret (c !=c)
noncomputable def nz2 (c):=
 mkD Tryz.func406 (wz4 c) 0 [pz c] [] (fun r=>.pure (.bool r)) (fun _=>[])
noncomputable def szl (c:Int)(d:Int):T Int:=
 .cc (nz2 c) fun e=>
 .cc (nz2 d) fun f=>
 .br e
 (.br f
 (.ret 0)
 (.ret (-1)))
 (.br f
 (.ret 1)
 (.br (decide (c<d))
 (.ret (-1))
 (.br (decide (c>d))
 (.ret 1)
 (.ret 0))))
noncomputable def lz2 (c)(d):=
 mkD Tryz.func373 (szl c d) 0 [pz c,pz d] [] (fun r=>pz r) (fun _=>[])
noncomputable def Azt (c:Int):T Bool:=
 .ret (c !=c)
noncomputable def pzm (c):=
 mkD Tryz.func407 (Azt c) 0 [pz c] [] (fun r=>.pure (.bool r)) (fun _=>[])
noncomputable def wz3 (c:Int)(d:Int):T Int:=
 .cc (pzm c) fun e=>
 .cc (pzm d) fun f=>
 .br e
 (.br f
 (.ret 0)
 (.ret (-1)))
 (.br f
 (.ret 1)
 (.br (decide (c<d))
 (.ret (-1))
 (.br (decide (c>d))
 (.ret 1)
 (.ret 0))))
noncomputable def dzw (c)(d):=
 mkD Tryz.func374 (wz3 c d) 0 [pz c,pz d] [] (fun r=>pz r) (fun _=>[])
noncomputable def Izn (c:A0):T Int:=let d:=(c.length:Nat);.loop (fun (e:Int)=>⟨[(3,pz 0),(6,.pure (encL 1 az1 c)),(7,pz (d:Int)),(8,pz e)],[],[],0⟩)
 (.exit 0) (fun (_:U0)=>⟨[(3,pz 0)],[],[],0⟩)
 (fun e=>let f:=c.getD (e.toNat) default;.br (decide (e<(d:Int)))
 (.gh e c.length<|
 .br (f !=0)
 (.ff f)
 (.nn (i64.wrap (e+1))))
 (.oo .u))
 0 [] fun _=>
 .ret 0
noncomputable def pzl (c):=
 mkD Tryz.func372 (Izn c) 0 [.pure (encL 1 az1 c)] [] (fun r=>pz r) (fun _=>[])
noncomputable def zz1 (c:A1)(d:Int)(e:Int)(f:Int):T Int:=let g:=c.getD (e.toNat) default;let h:=c.getD (f.toNat) default;.gh e c.length<|
 .gh d (g.length)<|
 .gh f c.length<|
 .gh d (h.length)<|
 .cc (lz2 (g.getD (d.toNat) default) (h.getD (d.toNat) default)) fun i=>
 .cc (dzw e f) fun j=>let k:=([i,j]:A0);
 .conv 1018 (bzl 1 az1 k 3)<|
 .cc (pzl k) fun m=>
 .ret m
noncomputable def pz4 (c)(d)(e)(f):=
 mkD Tryz.func368 (zz1 c d e f) 0 [.pure (encL 1 (encL 1 az1) c),pz d,pz e,pz f] [] (fun r=>pz r) (fun _=>[])
noncomputable def rzl (c:Int)(d:Int)(e:A1)(f:Int):T (Int×A1×Int):=
 .cc (pz4 e f c d) fun g=>
 .ret (g,e,f)
noncomputable def bz8 (c)(d)(e)(f):=
 mkD Tryz.func367 (rzl c d e f) 2 [pz c,pz d,.ptr 0 0,.ptr 1 0] [(0,.box [.pure (encL 1 (encL 1 az1) e)]),(1,.box [pz f])] (fun r=>pz r.1) (fun r=>[(0,.box [.pure (encL 1 (encL 1 az1) r.2.1)]),(1,.box [pz r.2.2])])
noncomputable def izc (c:A0)(d:Nat)(e:Nat)(f:Int)(g:Int)(h:A1)(i:Int):T B8:=
 .loop (fun (j:Bx)=>⟨[(0,.view 0 1 d e),(1,pz f),(2,pz g),(3,.func 367 [] [.ptr 1 0,.ptr 2 0]),(8,pz j.2.2.2)],[(0,vecO 1 az1 j.2.2.1 3),(1,.box [.pure (encL 1 (encL 1 az1) j.1)]),(2,.box [pz j.2.1])],[],3⟩)
 (.exit 0) (fun (j:B9)=>⟨[],[(0,vecO 1 az1 j.2.2 3),(1,.box [.pure (encL 1 (encL 1 az1) j.1)]),(2,.box [pz j.2.1])],[],3⟩)
 (fun j=>.br (decide (j.2.2.2<g))
 (.loop (fun (k:Bx)=>⟨[(0,.view 0 1 d e),(1,pz f),(2,pz g),(3,.func 367 [] [.ptr 1 0,.ptr 2 0]),(8,pz j.2.2.2),(9,pz k.2.2.2)],[(0,vecO 1 az1 k.2.2.1 3),(1,.box [.pure (encL 1 (encL 1 az1) k.1)]),(2,.box [pz k.2.1])],[],3⟩)
 (.exit 2) (fun (k:B9)=>⟨[(0,.view 0 1 d e),(1,pz f),(2,pz g),(3,.func 367 [] [.ptr 1 0,.ptr 2 0]),(8,pz j.2.2.2)],[(0,vecO 1 az1 k.2.2 3),(1,.box [.pure (encL 1 (encL 1 az1) k.1)]),(2,.box [pz k.2.1])],[],3⟩)
 (fun k=>let m:=d+((k.2.2.2).toNat);let n:=i64.wrap (k.2.2.2-1);let s:=d+(n.toNat);let t:=k.2.2.1.getD m default;let w:=k.2.2.1.getD s default;let y:=k.2.2.1.set m w;.cut 1 (fun (z:Bp)=>⟨[(0,.view 0 1 d e),(1,pz f),(2,pz g),(3,.func 367 [] [.ptr 1 0,.ptr 2 0]),(8,pz j.2.2.2),(9,pz k.2.2.2),(34,.pure (.bool z.2.2))],[(0,vecO 1 az1 k.2.2.1 3),(1,.box [.pure (encL 1 (encL 1 az1) z.1)]),(2,.box [pz z.2.1])],[],3⟩)
 (.br (decide (k.2.2.2>f))
 (.gh k.2.2.2 e<|
 .grd (m<k.2.2.1.length)<|
 .gh n e<|
 .grd (s<k.2.2.1.length)<|
 .call (bz8 t w k.1 k.2.1) [(0,1),(1,2)] fun z=>
 .oo (z.2.1,z.2.2,(decide (z.1<0))))
 (.oo (k.1,k.2.1,false))) fun z=>
 .br z.2.2
 (.gh n e<|
 .grd (s<k.2.2.1.length)<|
 .gh k.2.2.2 e<|
 .grd (m<k.2.2.1.length)<|
 .gh k.2.2.2 e<|
 .conv 6015 (bze 1 az1 k.2.2.1 3 m w)<|
 .grd (m<k.2.2.1.length/\0≤m)<|
 .gh n e<|
 .conv 6017 (bze 1 az1 y 3 s t)<|
 .grd (s<y.length/\0≤s)<|
 .nn (z.1,z.2.1,(y.set s t),n))
 (.oo (z.1,z.2.1,k.2.2.1)))
 (j.1,j.2.1,j.2.2.1,j.2.2.2) [] fun k=>
 .nn (k.1,k.2.1,k.2.2,(i64.wrap (j.2.2.2+1))))
 (.oo (j.1,j.2.1,j.2.2.1)))
 (h,i,c,(i64.wrap (f+1))) [] fun j=>
 .ret (j.2.2,j.1,j.2.1)
noncomputable def izb (c)(d)(e)(f)(g)(h)(i):=
 mkD Tryz.func436 (izc c d e f g h i) 3 [.view 0 1 d e,pz f,pz g,.func 367 [] [.ptr 1 0,.ptr 2 0]] [(0,vecO 1 az1 c 3),(1,.box [.pure (encL 1 (encL 1 az1) h)]),(2,.box [pz i])] (fun _=>.tup []) (fun r=>[(0,vecO 1 az1 r.1 3),(1,.box [.pure (encL 1 (encL 1 az1) r.2.1)]),(2,.box [pz r.2.2])])
set_option maxHeartbeats 8000000 in
set_option maxRecDepth 20000 in
noncomputable def kzt (c:A0)(d:Nat)(e:Nat)(f:Int)(g:Int)(h:Int)(i:A1)(j:Int):T B8:=
 .loop (fun (k:Bx)=>⟨[(0,.view 0 1 d e),(2,pz g),(3,pz h),(4,.func 367 [] [.ptr 1 0,.ptr 2 0]),(10,pz k.2.2.2)],[(0,vecO 1 az1 k.2.2.1 3),(1,.box [.pure (encL 1 (encL 1 az1) k.1)]),(2,.box [pz k.2.1])],[],3⟩)
 (.exit 0) (fun (k:B9)=>⟨[],[(0,vecO 1 az1 k.2.2 3),(1,.box [.pure (encL 1 (encL 1 az1) k.1)]),(2,.box [pz k.2.1])],[],3⟩)
 (fun k=>let m:=i64.wrap ((i64.wrap (2 * k.2.2.2))+1);let n:=i64.wrap (h+m);let s:=d+(n.toNat);let t:=i64.wrap (n+1);let w:=d+(t.toNat);let y:=i64.wrap (h+k.2.2.2);let z:=d+(y.toNat);let aa:=k.2.2.1.getD z default;let ab:=i64.wrap (m+1);.br (decide (m≥g))
 (.oo (k.1,k.2.1,k.2.2.1))
 (.cut 0 (fun (ac:Bd)=>⟨[(0,.view 0 1 d e),(2,pz g),(3,pz h),(4,.func 367 [] [.ptr 1 0,.ptr 2 0]),(10,pz k.2.2.2),(11,pz ac.2.2)],[(0,vecO 1 az1 k.2.2.1 3),(1,.box [.pure (encL 1 (encL 1 az1) ac.1)]),(2,.box [pz ac.2.1])],[],3⟩)
 (.cut 0 (fun (ac:Bp)=>⟨[(0,.view 0 1 d e),(2,pz g),(3,pz h),(4,.func 367 [] [.ptr 1 0,.ptr 2 0]),(10,pz k.2.2.2),(11,pz m),(40,.pure (.bool ac.2.2))],[(0,vecO 1 az1 k.2.2.1 3),(1,.box [.pure (encL 1 (encL 1 az1) ac.1)]),(2,.box [pz ac.2.1])],[],3⟩)
 (.br (decide (ab<g))
 (.gh n e<|
 .grd (s<k.2.2.1.length)<|
 .name 3011 ((k.2.2.1.getD s default)) fun ac=>
 .gh t e<|
 .grd (w<k.2.2.1.length)<|
 .name 3018 ((k.2.2.1.getD w default)) fun ad=>
 .call (bz8 ac ad k.1 k.2.1) [(0,1),(1,2)] fun ae=>
 .oo (ae.2.1,ae.2.2,(decide (ae.1<0))))
 (.oo (k.1,k.2.1,false))) fun ac=>
 .br ac.2.2
 (.oo (ac.1,ac.2.1,ab))
 (.oo (ac.1,ac.2.1,m))) fun ac=>let ad:=i64.wrap (h+ac.2.2);let ae:=d+(ad.toNat);let af:=k.2.2.1.getD ae default;let ag:=k.2.2.1.set z af;
 .gh y e<|
 .grd (z<k.2.2.1.length)<|
 .gh ad e<|
 .grd (ae<k.2.2.1.length)<|
 .call (bz8 aa af ac.1 ac.2.1) [(0,1),(1,2)] fun ah=>
 .br (!(decide (ah.1<0)))
 (.ff (k.2.2.1,ah.2.1,ah.2.2))
 (.gh ad e<|
 .grd (ae<k.2.2.1.length)<|
 .gh y e<|
 .grd (z<k.2.2.1.length)<|
 .gh y e<|
 .conv 6021 (bze 1 az1 k.2.2.1 3 z af)<|
 .grd (z<k.2.2.1.length/\0≤z)<|
 .gh ad e<|
 .conv 6023 (bze 1 az1 ag 3 ae aa)<|
 .grd (ae<ag.length/\0≤ae)<|
 .nn (ah.2.1,ah.2.2,(ag.set ae aa),ac.2.2))))
 (i,j,c,f) [] fun k=>
 .ret (k.2.2,k.1,k.2.1)
noncomputable def fzj (c)(d)(e)(f)(g)(h)(i)(j):=
 mkD Tryz.func460 (kzt c d e f g h i j) 3 [.view 0 1 d e,pz f,pz g,pz h,.func 367 [] [.ptr 1 0,.ptr 2 0]] [(0,vecO 1 az1 c 3),(1,.box [.pure (encL 1 (encL 1 az1) i)]),(2,.box [pz j])] (fun _=>.tup []) (fun r=>[(0,vecO 1 az1 r.1 3),(1,.box [.pure (encL 1 (encL 1 az1) r.2.1)]),(2,.box [pz r.2.2])])
noncomputable def kzq (c:A0)(d:Nat)(e:Nat)(f:Int)(g:Int)(h:A1)(i:Int):T B8:=let j:=d+(f.toNat);let k:=i64.wrap (g-f);let m:=i64.wrap (k-1);.ok ((2:Int)≠0) (by decide)<|
 .loop (fun (n:Bx)=>⟨[(0,.view 0 1 d e),(3,.func 367 [] [.ptr 1 0,.ptr 2 0]),(8,pz f),(9,pz 0),(10,pz k),(11,pz n.2.2.2)],[(0,vecO 1 az1 n.2.2.1 3),(1,.box [.pure (encL 1 (encL 1 az1) n.1)]),(2,.box [pz n.2.1])],[],3⟩)
 (.exit 0) (fun (n:B9)=>⟨[(0,.view 0 1 d e),(3,.func 367 [] [.ptr 1 0,.ptr 2 0]),(8,pz f),(9,pz 0),(10,pz k)],[(0,vecO 1 az1 n.2.2 3),(1,.box [.pure (encL 1 (encL 1 az1) n.1)]),(2,.box [pz n.2.1])],[],3⟩)
 (fun n=>.br (decide (n.2.2.2≥0))
 (.call (fzj n.2.2.1 d e n.2.2.2 k f n.1 n.2.1) [(0,0),(1,1),(2,2)] fun s=>
 .nn (s.2.1,s.2.2,s.1,(i64.wrap (n.2.2.2-1))))
 (.oo (n.1,n.2.1,n.2.2.1)))
 (h,i,c,(i64.wrap (m.tdiv 2))) [] fun n=>
 .loop (fun (s:Bx)=>⟨[(0,.view 0 1 d e),(3,.func 367 [] [.ptr 1 0,.ptr 2 0]),(8,pz f),(9,pz 0),(12,pz s.2.2.2)],[(0,vecO 1 az1 s.2.2.1 3),(1,.box [.pure (encL 1 (encL 1 az1) s.1)]),(2,.box [pz s.2.1])],[],3⟩)
 (.exit 2) (fun (s:B9)=>⟨[],[(0,vecO 1 az1 s.2.2 3),(1,.box [.pure (encL 1 (encL 1 az1) s.1)]),(2,.box [pz s.2.1])],[],3⟩)
 (fun s=>let t:=i64.wrap (f+s.2.2.2);let w:=d+(t.toNat);let y:=s.2.2.1.getD w default;let z:=s.2.2.1.set j y;let aa:=s.2.2.1.getD j default;.br (decide (s.2.2.2≥0))
 (.gh t e<|
 .grd (w<s.2.2.1.length)<|
 .gh f e<|
 .grd (j<s.2.2.1.length)<|
 .gh f e<|
 .conv 10017 (bze 1 az1 s.2.2.1 3 j y)<|
 .grd (j<s.2.2.1.length/\0≤j)<|
 .gh t e<|
 .conv 10019 (bze 1 az1 z 3 w aa)<|
 .grd (w<z.length/\0≤w)<|
 .call (fzj (z.set w aa) d e 0 s.2.2.2 f s.1 s.2.1) [(0,0),(1,1),(2,2)] fun ab=>
 .nn (ab.2.1,ab.2.2,ab.1,(i64.wrap (s.2.2.2-1))))
 (.oo (s.1,s.2.1,s.2.2.1)))
 (n.1,n.2.1,n.2.2,m) [] fun s=>
 .ret (s.2.2,s.1,s.2.1)
noncomputable def kzp (c)(d)(e)(f)(g)(h)(i):=
 mkD Tryz.func437 (kzq c d e f g h i) 3 [.view 0 1 d e,pz f,pz g,.func 367 [] [.ptr 1 0,.ptr 2 0]] [(0,vecO 1 az1 c 3),(1,.box [.pure (encL 1 (encL 1 az1) h)]),(2,.box [pz i])] (fun _=>.tup []) (fun r=>[(0,vecO 1 az1 r.1 3),(1,.box [.pure (encL 1 (encL 1 az1) r.2.1)]),(2,.box [pz r.2.2])])
noncomputable def lzy (c:A0)(d:Nat)(e:Nat)(f:Int)(g:Int)(h:Int)(i:A1)(j:Int):T (Int×Int×Int×A1×Int):=let k:=d+(g.toNat);let m:=d+(f.toNat);.gh g e<|
 .grd (k<c.length)<|
 .gh f e<|
 .grd (m<c.length)<|
 .call (bz8 (c.getD k default) (c.getD m default) i j) [(0,2),(1,3)] fun n=>
 .br (decide (n.1<0))
 (.ret (g,f,(i64.wrap (h+1)),n.2.1,n.2.2))
 (.ret (f,g,h,n.2.1,n.2.2))
noncomputable def ez8 (c)(d)(e)(f)(g)(h)(i)(j):=
 mkD Tryz.func469 (lzy c d e f g h i j) 4 [.view 0 1 d e,pz f,pz g,.ptr 1 0,.func 367 [] [.ptr 2 0,.ptr 3 0]] [(0,vecO 1 az1 c 3),(1,.box [pz h]),(2,.box [.pure (encL 1 (encL 1 az1) i)]),(3,.box [pz j])] (fun r=>.tup [pz r.1,pz r.2.1]) (fun r=>[(0,vecO 1 az1 c 3),(1,.box [pz r.2.2.1]),(2,.box [.pure (encL 1 (encL 1 az1) r.2.2.2.1)]),(3,.box [pz r.2.2.2.2])])
noncomputable def lzx (c:A0)(d:Nat)(e:Nat)(f:Int)(g:Int)(h:Int)(i:Int)(j:A1)(k:Int):T Bz:=
 .call (ez8 c d e f g i j k) [(0,0),(1,1),(2,2),(3,3)] fun m=>
 .call (ez8 c d e m.2.1 h m.2.2.1 m.2.2.2.1 m.2.2.2.2) [(0,0),(1,1),(2,2),(3,3)] fun n=>
 .call (ez8 c d e m.1 n.1 n.2.2.1 n.2.2.2.1 n.2.2.2.2) [(0,0),(1,1),(2,2),(3,3)] fun s=>
 .ret (s.2.1,s.2.2.1,s.2.2.2.1,s.2.2.2.2)
noncomputable def gza (c)(d)(e)(f)(g)(h)(i)(j)(k):=
 mkD Tryz.func462 (lzx c d e f g h i j k) 4 [.view 0 1 d e,pz f,pz g,pz h,.ptr 1 0,.func 367 [] [.ptr 2 0,.ptr 3 0]] [(0,vecO 1 az1 c 3),(1,.box [pz i]),(2,.box [.pure (encL 1 (encL 1 az1) j)]),(3,.box [pz k])] (fun r=>pz r.1) (fun r=>[(0,vecO 1 az1 c 3),(1,.box [pz r.2.1]),(2,.box [.pure (encL 1 (encL 1 az1) r.2.2.1)]),(3,.box [pz r.2.2.2])])
noncomputable def hzf (c:A0)(d:Nat)(e:Nat)(f:Int)(g:Int)(h:A1)(i:Int):T Bz:=
 .call (gza c d e (i64.wrap (f-1)) f (i64.wrap (f+1)) g h i) [(0,0),(1,1),(2,2),(3,3)] fun j=>
 .ret (j.1,j.2.1,j.2.2.1,j.2.2.2)
noncomputable def czy (c)(d)(e)(f)(g)(h)(i):=
 mkD Tryz.func461 (hzf c d e f g h i) 4 [.view 0 1 d e,pz f,.ptr 1 0,.func 367 [] [.ptr 2 0,.ptr 3 0]] [(0,vecO 1 az1 c 3),(1,.box [pz g]),(2,.box [.pure (encL 1 (encL 1 az1) h)]),(3,.box [pz i])] (fun r=>pz r.1) (fun r=>[(0,vecO 1 az1 c 3),(1,.box [pz r.2.1]),(2,.box [.pure (encL 1 (encL 1 az1) r.2.2.1)]),(3,.box [pz r.2.2.2])])
noncomputable def jz1 (c:A0)(d:Nat)(e:Nat)(f:Int)(g:Int)(h:A1)(i:Int):T Bz:=let j:=i64.wrap (g-f);let k:=i64.wrap (j.tdiv 4);let m:=i64.wrap (f+(i64.wrap (k * 2)));let n:=i64.wrap (f+(i64.wrap (k * 1)));let s:=i64.wrap (f+(i64.wrap (k * 3)));.ok ((4:Int)≠0) (by decide)<|
 .ok ((4:Int)≠0) (by decide)<|
 .ok ((4:Int)≠0) (by decide)<|
 .cut 0 (fun (t:(A1×Int×Int×Int))=>⟨[(11,.ptr 3 0),(13,pz t.2.2.2)],[(0,vecO 1 az1 c 3),(1,.box [.pure (encL 1 (encL 1 az1) t.1)]),(2,.box [pz t.2.1]),(3,.box [pz t.2.2.1])],[],4⟩)
 (.br (decide (j≥8))
 (.cut 0 (fun (t:(A1×Int×Int×Int×Int×Int))=>⟨[(0,.view 0 1 d e),(3,.func 367 [] [.ptr 1 0,.ptr 2 0]),(11,.ptr 3 0),(12,pz t.2.2.2.1),(13,pz t.2.2.2.2.1),(14,pz t.2.2.2.2.2)],[(0,vecO 1 az1 c 3),(1,.box [.pure (encL 1 (encL 1 az1) t.1)]),(2,.box [pz t.2.1]),(3,.box [pz t.2.2.1])],[],4⟩)
 (.br (decide (j≥50))
 (.call (czy c d e n 0 h i) [(0,0),(1,387),(2,1),(3,2)] fun t=>
 .call (czy c d e m t.2.1 t.2.2.1 t.2.2.2) [(0,0),(1,387),(2,1),(3,2)] fun w=>
 .call (czy c d e s w.2.1 w.2.2.1 w.2.2.2) [(0,0),(1,387),(2,1),(3,2)] fun y=>
 .oo (y.2.2.1,y.2.2.2,y.2.1,t.1,w.1,y.1))
 (.oo (h,i,0,n,m,s))) fun t=>
 .call (gza c d e t.2.2.2.1 t.2.2.2.2.1 t.2.2.2.2.2 t.2.2.1 t.1 t.2.1) [(0,0),(1,3),(2,1),(3,2)] fun w=>
 .oo (w.2.2.1,w.2.2.2,w.2.1,w.1))
 (.oo (h,i,0,m))) fun t=>
 .br (t.2.2.1==0)
 (.ret (t.2.2.2,1,t.1,t.2.1))
 (.br (t.2.2.1==12)
 (.ret (t.2.2.2,2,t.1,t.2.1))
 (.ret (t.2.2.2,0,t.1,t.2.1)))
noncomputable def jz0 (c)(d)(e)(f)(g)(h)(i):=
 mkD Tryz.func439 (jz1 c d e f g h i) 3 [.view 0 1 d e,pz f,pz g,.func 367 [] [.ptr 1 0,.ptr 2 0]] [(0,vecO 1 az1 c 3),(1,.box [.pure (encL 1 (encL 1 az1) h)]),(2,.box [pz i])] (fun r=>.tup [pz r.1,pz r.2.1]) (fun r=>[(0,vecO 1 az1 c 3),(1,.box [.pure (encL 1 (encL 1 az1) r.2.2.1)]),(2,.box [pz r.2.2.2])])
noncomputable def izo (c:A0)(d:Nat)(e:Nat)(f:Int)(g:Int)(h:A1)(i:Int):T B8:=let j:=encL 1 (encL 1 az1) h;.loop (fun (k:Bc)=>⟨[(0,.view 0 1 d e),(8,pz k.2.1),(9,pz k.2.2)],[(0,vecO 1 az1 k.1 3),(1,.box [.pure j]),(2,.box [pz i])],[],3⟩)
 (.exit 0) (fun (k:A0)=>⟨[],[(0,vecO 1 az1 k 3),(1,.box [.pure j]),(2,.box [pz i])],[],3⟩)
 (fun k=>let m:=d+((k.2.2).toNat);let n:=d+((k.2.1).toNat);let s:=k.1.getD m default;let t:=k.1.set n s;let w:=k.1.getD n default;.br (decide (k.2.1<k.2.2))
 (.gh k.2.2 e<|
 .grd (m<k.1.length)<|
 .gh k.2.1 e<|
 .grd (n<k.1.length)<|
 .gh k.2.1 e<|
 .conv 3013 (bze 1 az1 k.1 3 n s)<|
 .grd (n<k.1.length/\0≤n)<|
 .gh k.2.2 e<|
 .conv 3015 (bze 1 az1 t 3 m w)<|
 .grd (m<t.length/\0≤m)<|
 .nn ((t.set m w),(i64.wrap (k.2.1+1)),(i64.wrap (k.2.2-1))))
 (.oo k.1))
 (c,f,(i64.wrap (g-1))) [] fun k=>
 .ret (k,h,i)
noncomputable def izn (c)(d)(e)(f)(g)(h)(i):=
 mkD Tryz.func440 (izo c d e f g h i) 3 [.view 0 1 d e,pz f,pz g,.func 367 [] [.ptr 1 0,.ptr 2 0]] [(0,vecO 1 az1 c 3),(1,.box [.pure (encL 1 (encL 1 az1) h)]),(2,.box [pz i])] (fun _=>.tup []) (fun r=>[(0,vecO 1 az1 r.1 3),(1,.box [.pure (encL 1 (encL 1 az1) r.2.1)]),(2,.box [pz r.2.2])])
open Go.Proofs
set_option maxHeartbeats 8000000 in
set_option maxRecDepth 20000 in
noncomputable def fzn (c:A0)(d:Nat)(e:Nat)(f:Int)(g:Int)(h:A1)(i:Int):T (Bool×A0×A1×Int):=
 .loop (fun (j:C3)=>⟨[(0,.view 0 1 d e),(1,pz f),(2,pz g),(3,.func 367 [] [.ptr 1 0,.ptr 2 0]),(9,pz j.2.2.2.1),(10,pz j.2.2.2.2)],[(0,vecO 1 az1 j.2.2.1 3),(1,.box [.pure (encL 1 (encL 1 az1) j.1)]),(2,.box [pz j.2.1])],[],3⟩)
 (.exit 0) (fun (j:B9)=>⟨[],[(0,vecO 1 az1 j.2.2 3),(1,.box [.pure (encL 1 (encL 1 az1) j.1)]),(2,.box [pz j.2.1])],[],3⟩)
 (fun j=>.br (decide (j.2.2.2.2<5))
 (.cut 0 (fun (k:Bx)=>⟨[(0,.view 0 1 d e),(1,pz f),(2,pz g),(3,.func 367 [] [.ptr 1 0,.ptr 2 0]),(9,pz k.2.2.2),(10,pz j.2.2.2.2)],[(0,vecO 1 az1 k.2.2.1 3),(1,.box [.pure (encL 1 (encL 1 az1) k.1)]),(2,.box [pz k.2.1])],[],3⟩)
 (.loop (fun (k:Bd)=>⟨[(0,.view 0 1 d e),(1,pz f),(2,pz g),(3,.func 367 [] [.ptr 1 0,.ptr 2 0]),(9,pz k.2.2),(10,pz j.2.2.2.2)],[(0,vecO 1 az1 j.2.2.1 3),(1,.box [.pure (encL 1 (encL 1 az1) k.1)]),(2,.box [pz k.2.1])],[],3⟩)
 (.exit 2) (fun (k:Bd)=>⟨[(0,.view 0 1 d e),(1,pz f),(2,pz g),(3,.func 367 [] [.ptr 1 0,.ptr 2 0]),(9,pz k.2.2),(10,pz j.2.2.2.2)],[(0,vecO 1 az1 j.2.2.1 3),(1,.box [.pure (encL 1 (encL 1 az1) k.1)]),(2,.box [pz k.2.1])],[],3⟩)
 (fun k=>let m:=(k.2.2).toNat;let n:=i64.wrap (k.2.2-1);let s:=d+(n.toNat);.cut 1 (fun (t:Bp)=>⟨[(0,.view 0 1 d e),(1,pz f),(2,pz g),(3,.func 367 [] [.ptr 1 0,.ptr 2 0]),(9,pz k.2.2),(10,pz j.2.2.2.2),(36,.pure (.bool t.2.2))],[(0,vecO 1 az1 j.2.2.1 3),(1,.box [.pure (encL 1 (encL 1 az1) t.1)]),(2,.box [pz t.2.1])],[],3⟩)
 (.br (decide (k.2.2<g))
 (.gh k.2.2 e<|
 .grd ((d+m)<j.2.2.1.length)<|
 .gh n e<|
 .grd (s<j.2.2.1.length)<|
 .call (bz8 (j.2.2.1.getD (d+m) default) (j.2.2.1.getD s default) k.1 k.2.1) [(0,1),(1,2)] fun t=>
 .oo (t.2.1,t.2.2,(!(decide (t.1<0)))))
 (.oo (k.1,k.2.1,false))) fun t=>
 .br t.2.2
 (.nn (t.1,t.2.1,(i64.wrap (k.2.2+1))))
 (.oo (t.1,t.2.1,k.2.2)))
 (j.1,j.2.1,j.2.2.2.1) [] fun k=>let m:=d+((k.2.2).toNat);let n:=i64.wrap (k.2.2-1);let s:=d+(n.toNat);let t:=j.2.2.1.getD s default;let w:=j.2.2.1.set m t;let y:=j.2.2.1.getD m default;let z:=w.set s y;
 .br (k.2.2==g)
 (.ff (.fin (true,j.2.2.1,k.1,k.2.1)))
 (.br (decide ((i64.wrap (g-f))<50))
 (.ff (.fin (false,j.2.2.1,k.1,k.2.1)))
 (.gh n e<|
 .grd (s<j.2.2.1.length)<|
 .gh k.2.2 e<|
 .grd (m<j.2.2.1.length)<|
 .gh k.2.2 e<|
 .conv 11015 (bze 1 az1 j.2.2.1 3 m t)<|
 .grd (m<j.2.2.1.length/\0≤m)<|
 .gh n e<|
 .conv 11017 (bze 1 az1 w 3 s y)<|
 .grd (s<w.length/\0≤s)<|
 .cut 0 (fun (aa:B9)=>⟨[(0,.view 0 1 d e),(1,pz f),(2,pz g),(3,.func 367 [] [.ptr 1 0,.ptr 2 0]),(9,pz k.2.2),(10,pz j.2.2.2.2)],[(0,vecO 1 az1 aa.2.2 3),(1,.box [.pure (encL 1 (encL 1 az1) aa.1)]),(2,.box [pz aa.2.1])],[],3⟩)
 (.br (decide ((i64.wrap (k.2.2-f))≥2))
 (.loop (fun (aa:Bx)=>⟨[(0,.view 0 1 d e),(1,pz f),(2,pz g),(3,.func 367 [] [.ptr 1 0,.ptr 2 0]),(9,pz k.2.2),(10,pz j.2.2.2.2),(11,pz aa.2.2.2)],[(0,vecO 1 az1 aa.2.2.1 3),(1,.box [.pure (encL 1 (encL 1 az1) aa.1)]),(2,.box [pz aa.2.1])],[],3⟩)
 (.exit 4) (fun (aa:B9)=>⟨[(0,.view 0 1 d e),(1,pz f),(2,pz g),(3,.func 367 [] [.ptr 1 0,.ptr 2 0]),(9,pz k.2.2),(10,pz j.2.2.2.2)],[(0,vecO 1 az1 aa.2.2 3),(1,.box [.pure (encL 1 (encL 1 az1) aa.1)]),(2,.box [pz aa.2.1])],[],3⟩)
 (fun aa=>let ab:=d+((aa.2.2.2).toNat);let ac:=i64.wrap (aa.2.2.2-1);let ad:=d+(ac.toNat);let ae:=aa.2.2.1.getD ab default;let af:=aa.2.2.1.getD ad default;.br (decide (aa.2.2.2≥1))
 (.gh aa.2.2.2 e<|
 .grd (ab<aa.2.2.1.length)<|
 .name 16004 (ae) fun ag=>
 .gh ac e<|
 .grd (ad<aa.2.2.1.length)<|
 .name 16009 (af) fun ah=>
 .call (bz8 ag ah aa.1 aa.2.1) [(0,1),(1,2)] fun ai=>
 .br (!(decide (ai.1<0)))
 (.oo (ai.2.1,ai.2.2,aa.2.2.1))
 (.gh ac e<|
 .grd (ad<aa.2.2.1.length)<|
 .name 17009 (af) fun aj=>let ak:=aa.2.2.1.set ab aj;
 .gh aa.2.2.2 e<|
 .grd (ab<aa.2.2.1.length)<|
 .name 17013 (ae) fun al=>
 .gh aa.2.2.2 e<|
 .conv 17015 (bze 1 az1 aa.2.2.1 3 ab aj)<|
 .grd (ab<aa.2.2.1.length/\0≤ab)<|
 .gh ac e<|
 .conv 17017 (bze 1 az1 ak 3 ad al)<|
 .grd (ad<ak.length/\0≤ad)<|
 .nn (ai.2.1,ai.2.2,(ak.set ad al),ac)))
 (.oo (aa.1,aa.2.1,aa.2.2.1)))
 (k.1,k.2.1,z,n) [] fun aa=>
 .oo (aa.1,aa.2.1,aa.2.2))
 (.oo (k.1,k.2.1,z))) fun aa=>
 .br (decide ((i64.wrap (g-k.2.2))≥2))
 (.loop (fun (ab:Bx)=>⟨[(0,.view 0 1 d e),(1,pz f),(2,pz g),(3,.func 367 [] [.ptr 1 0,.ptr 2 0]),(9,pz k.2.2),(10,pz j.2.2.2.2),(12,pz ab.2.2.2)],[(0,vecO 1 az1 ab.2.2.1 3),(1,.box [.pure (encL 1 (encL 1 az1) ab.1)]),(2,.box [pz ab.2.1])],[],3⟩)
 (.exit 6) (fun (ab:B9)=>⟨[(0,.view 0 1 d e),(1,pz f),(2,pz g),(3,.func 367 [] [.ptr 1 0,.ptr 2 0]),(9,pz k.2.2),(10,pz j.2.2.2.2)],[(0,vecO 1 az1 ab.2.2 3),(1,.box [.pure (encL 1 (encL 1 az1) ab.1)]),(2,.box [pz ab.2.1])],[],3⟩)
 (fun ab=>let ac:=d+((ab.2.2.2).toNat);let ad:=i64.wrap (ab.2.2.2-1);let ae:=d+(ad.toNat);let af:=ab.2.2.1.getD ac default;let ag:=ab.2.2.1.getD ae default;let ah:=ab.2.2.1.set ac ag;.br (decide (ab.2.2.2<g))
 (.gh ab.2.2.2 e<|
 .grd (ac<ab.2.2.1.length)<|
 .gh ad e<|
 .grd (ae<ab.2.2.1.length)<|
 .call (bz8 af ag ab.1 ab.2.1) [(0,1),(1,2)] fun ai=>
 .br (!(decide (ai.1<0)))
 (.oo (ai.2.1,ai.2.2,ab.2.2.1))
 (.gh ad e<|
 .grd (ae<ab.2.2.1.length)<|
 .gh ab.2.2.2 e<|
 .grd (ac<ab.2.2.1.length)<|
 .gh ab.2.2.2 e<|
 .conv 23015 (bze 1 az1 ab.2.2.1 3 ac ag)<|
 .grd (ac<ab.2.2.1.length/\0≤ac)<|
 .gh ad e<|
 .conv 23017 (bze 1 az1 ah 3 ae af)<|
 .grd (ae<ah.length/\0≤ae)<|
 .nn (ai.2.1,ai.2.2,(ah.set ae af),(i64.wrap (ab.2.2.2+1)))))
 (.oo (ab.1,ab.2.1,ab.2.2.1)))
 (aa.1,aa.2.1,aa.2.2,(i64.wrap (k.2.2+1))) [] fun ab=>
 .oo (ab.1,ab.2.1,ab.2.2,k.2.2))
 (.oo (aa.1,aa.2.1,aa.2.2,k.2.2))))) fun k=>
 .nn (k.1,k.2.1,k.2.2.1,k.2.2.2,(i64.wrap (j.2.2.2.2+1))))
 (.oo (j.1,j.2.1,j.2.2.1)))
 (h,i,c,(i64.wrap (f+1)),0) [] fun j=>
 .ret (false,j.2.2,j.1,j.2.1)
noncomputable def fzm (c)(d)(e)(f)(g)(h)(i):=
 mkD Tryz.func441 (fzn c d e f g h i) 3 [.view 0 1 d e,pz f,pz g,.func 367 [] [.ptr 1 0,.ptr 2 0]] [(0,vecO 1 az1 c 3),(1,.box [.pure (encL 1 (encL 1 az1) h)]),(2,.box [pz i])] (fun r=>.pure (.bool r.1)) (fun r=>[(0,vecO 1 az1 r.2.1 3),(1,.box [.pure (encL 1 (encL 1 az1) r.2.2.1)]),(2,.box [pz r.2.2.2])])
set_option maxHeartbeats 8000000 in
set_option maxRecDepth 20000 in
noncomputable def hzh (c:A0)(d:Nat)(e:Nat)(f:Int)(g:Int)(h:Int)(i:A1)(j:Int):T (Int×A0×A1×Int):=let k:=d+(h.toNat);let m:=d+(f.toNat);let n:=c.getD k default;let s:=c.set m n;let t:=c.getD m default;.gh h e<|
 .grd (k<c.length)<|
 .gh f e<|
 .grd (m<c.length)<|
 .gh f e<|
 .conv 1013 (bze 1 az1 c 3 m n)<|
 .grd (m<c.length/\0≤m)<|
 .gh h e<|
 .conv 1015 (bze 1 az1 s 3 k t)<|
 .grd (k<s.length/\0≤k)<|
 .loop (fun (w:C3)=>⟨[(0,.view 0 1 d e),(1,pz f),(4,.func 367 [] [.ptr 1 0,.ptr 2 0]),(11,pz w.2.2.2.1),(12,pz w.2.2.2.2)],[(0,vecO 1 az1 w.2.2.1 3),(1,.box [.pure (encL 1 (encL 1 az1) w.1)]),(2,.box [pz w.2.1])],[],3⟩)
 (.exit 0) (fun (w:(A1×Int×Int×A0))=>⟨[(11,pz w.2.2.1)],[(0,vecO 1 az1 w.2.2.2 3),(1,.box [.pure (encL 1 (encL 1 az1) w.1)]),(2,.box [pz w.2.1])],[],3⟩)
 (fun w=>let y:=w.2.2.1.getD m default;.loop (fun (z:Bd)=>⟨[(0,.view 0 1 d e),(1,pz f),(4,.func 367 [] [.ptr 1 0,.ptr 2 0]),(11,pz z.2.2),(12,pz w.2.2.2.2)],[(0,vecO 1 az1 w.2.2.1 3),(1,.box [.pure (encL 1 (encL 1 az1) z.1)]),(2,.box [pz z.2.1])],[],3⟩)
 (.exit 2) (fun (z:Bd)=>⟨[(0,.view 0 1 d e),(1,pz f),(4,.func 367 [] [.ptr 1 0,.ptr 2 0]),(11,pz z.2.2),(12,pz w.2.2.2.2)],[(0,vecO 1 az1 w.2.2.1 3),(1,.box [.pure (encL 1 (encL 1 az1) z.1)]),(2,.box [pz z.2.1])],[],3⟩)
 (fun z=>let aa:=(z.2.2).toNat;.cut 1 (fun (ab:Bp)=>⟨[(0,.view 0 1 d e),(1,pz f),(4,.func 367 [] [.ptr 1 0,.ptr 2 0]),(11,pz z.2.2),(12,pz w.2.2.2.2),(47,.pure (.bool ab.2.2))],[(0,vecO 1 az1 w.2.2.1 3),(1,.box [.pure (encL 1 (encL 1 az1) ab.1)]),(2,.box [pz ab.2.1])],[],3⟩)
 (.br (decide (z.2.2≤w.2.2.2.2))
 (.gh f e<|
 .grd (m<w.2.2.1.length)<|
 .name 3008 (y) fun ab=>
 .gh z.2.2 e<|
 .grd ((d+aa)<w.2.2.1.length)<|
 .name 3012 ((w.2.2.1.getD (d+aa) default)) fun ac=>
 .call (bz8 ab ac z.1 z.2.1) [(0,1),(1,2)] fun ad=>
 .oo (ad.2.1,ad.2.2,(!(decide (ad.1<0)))))
 (.oo (z.1,z.2.1,false))) fun ab=>
 .br ab.2.2
 (.nn (ab.1,ab.2.1,(i64.wrap (z.2.2+1))))
 (.oo (ab.1,ab.2.1,z.2.2)))
 (w.1,w.2.1,w.2.2.2.1) [] fun z=>let aa:=d+((z.2.2).toNat);
 .loop (fun (ab:Bd)=>⟨[(0,.view 0 1 d e),(1,pz f),(4,.func 367 [] [.ptr 1 0,.ptr 2 0]),(11,pz z.2.2),(12,pz ab.2.2)],[(0,vecO 1 az1 w.2.2.1 3),(1,.box [.pure (encL 1 (encL 1 az1) ab.1)]),(2,.box [pz ab.2.1])],[],3⟩)
 (.exit 4) (fun (ab:Bd)=>⟨[(0,.view 0 1 d e),(1,pz f),(4,.func 367 [] [.ptr 1 0,.ptr 2 0]),(11,pz z.2.2),(12,pz ab.2.2)],[(0,vecO 1 az1 w.2.2.1 3),(1,.box [.pure (encL 1 (encL 1 az1) ab.1)]),(2,.box [pz ab.2.1])],[],3⟩)
 (fun ab=>let ac:=(ab.2.2).toNat;.cut 1 (fun (ad:Bp)=>⟨[(0,.view 0 1 d e),(1,pz f),(4,.func 367 [] [.ptr 1 0,.ptr 2 0]),(11,pz z.2.2),(12,pz ab.2.2),(65,.pure (.bool ad.2.2))],[(0,vecO 1 az1 w.2.2.1 3),(1,.box [.pure (encL 1 (encL 1 az1) ad.1)]),(2,.box [pz ad.2.1])],[],3⟩)
 (.br (decide (z.2.2≤ab.2.2))
 (.gh f e<|
 .grd (m<w.2.2.1.length)<|
 .name 5008 (y) fun ad=>
 .gh ab.2.2 e<|
 .grd ((d+ac)<w.2.2.1.length)<|
 .name 5012 ((w.2.2.1.getD (d+ac) default)) fun ae=>
 .call (bz8 ad ae ab.1 ab.2.1) [(0,1),(1,2)] fun af=>
 .oo (af.2.1,af.2.2,(decide (af.1<0))))
 (.oo (ab.1,ab.2.1,false))) fun ad=>
 .br ad.2.2
 (.nn (ad.1,ad.2.1,(i64.wrap (ab.2.2-1))))
 (.oo (ad.1,ad.2.1,ab.2.2)))
 (z.1,z.2.1,w.2.2.2.2) [] fun ab=>let ac:=d+((ab.2.2).toNat);
 .br (decide (z.2.2>ab.2.2))
 (.oo (ab.1,ab.2.1,z.2.2,w.2.2.1))
 (.gh ab.2.2 e<|
 .grd (ac<w.2.2.1.length)<|
 .name 8007 ((w.2.2.1.getD ac default)) fun ad=>let ae:=w.2.2.1.set aa ad;
 .gh z.2.2 e<|
 .grd (aa<w.2.2.1.length)<|
 .name 8011 ((w.2.2.1.getD aa default)) fun af=>
 .gh z.2.2 e<|
 .conv 8013 (bze 1 az1 w.2.2.1 3 aa ad)<|
 .grd (aa<w.2.2.1.length/\0≤aa)<|
 .gh ab.2.2 e<|
 .conv 8015 (bze 1 az1 ae 3 ac af)<|
 .grd (ac<ae.length/\0≤ac)<|
 .nn (ab.1,ab.2.1,(ae.set ac af),(i64.wrap (z.2.2+1)),(i64.wrap (ab.2.2-1)))))
 (i,j,(s.set k t),(i64.wrap (f+1)),(i64.wrap (g-1))) [] fun w=>
 .ret (w.2.2.1,w.2.2.2,w.1,w.2.1)
noncomputable def hzg (c)(d)(e)(f)(g)(h)(i)(j):=
 mkD Tryz.func442 (hzh c d e f g h i j) 3 [.view 0 1 d e,pz f,pz g,pz h,.func 367 [] [.ptr 1 0,.ptr 2 0]] [(0,vecO 1 az1 c 3),(1,.box [.pure (encL 1 (encL 1 az1) i)]),(2,.box [pz j])] (fun r=>pz r.1) (fun r=>[(0,vecO 1 az1 r.2.1 3),(1,.box [.pure (encL 1 (encL 1 az1) r.2.2.1)]),(2,.box [pz r.2.2.2])])
set_option maxHeartbeats 8000000 in
set_option maxRecDepth 20000 in
noncomputable def kz4 (c:A0)(d:Nat)(e:Nat)(f:Int)(g:Int)(h:Int)(i:A1)(j:Int):T (Int×Bool×A0×A1×Int):=let k:=d+(h.toNat);let m:=d+(f.toNat);let n:=c.getD k default;let s:=c.set m n;let t:=c.getD m default;let w:=s.set k t;let y:=w.getD m default;let z:=i64.wrap (g-1);.gh h e<|
 .grd (k<c.length)<|
 .gh f e<|
 .grd (m<c.length)<|
 .gh f e<|
 .conv 1013 (bze 1 az1 c 3 m n)<|
 .grd (m<c.length/\0≤m)<|
 .gh h e<|
 .conv 1015 (bze 1 az1 s 3 k t)<|
 .grd (k<s.length/\0≤k)<|
 .loop (fun (aa:Bd)=>⟨[(0,.view 0 1 d e),(1,pz f),(4,.func 367 [] [.ptr 1 0,.ptr 2 0]),(12,pz aa.2.2),(13,pz z)],[(0,vecO 1 az1 w 3),(1,.box [.pure (encL 1 (encL 1 az1) aa.1)]),(2,.box [pz aa.2.1])],[],3⟩)
 (.exit 0) (fun (aa:Bd)=>⟨[(0,.view 0 1 d e),(1,pz f),(4,.func 367 [] [.ptr 1 0,.ptr 2 0]),(12,pz aa.2.2),(13,pz z)],[(0,vecO 1 az1 w 3),(1,.box [.pure (encL 1 (encL 1 az1) aa.1)]),(2,.box [pz aa.2.1])],[],3⟩)
 (fun aa=>let ab:=(aa.2.2).toNat;.cut 1 (fun (ac:Bp)=>⟨[(0,.view 0 1 d e),(1,pz f),(4,.func 367 [] [.ptr 1 0,.ptr 2 0]),(12,pz aa.2.2),(13,pz z),(47,.pure (.bool ac.2.2))],[(0,vecO 1 az1 w 3),(1,.box [.pure (encL 1 (encL 1 az1) ac.1)]),(2,.box [pz ac.2.1])],[],3⟩)
 (.br (decide (aa.2.2≤z))
 (.gh aa.2.2 e<|
 .grd ((d+ab)<w.length)<|
 .name 3008 ((w.getD (d+ab) default)) fun ac=>
 .gh f e<|
 .grd (m<w.length)<|
 .name 3012 (y) fun ad=>
 .call (bz8 ac ad aa.1 aa.2.1) [(0,1),(1,2)] fun ae=>
 .oo (ae.2.1,ae.2.2,(decide (ae.1<0))))
 (.oo (aa.1,aa.2.1,false))) fun ac=>
 .br ac.2.2
 (.nn (ac.1,ac.2.1,(i64.wrap (aa.2.2+1))))
 (.oo (ac.1,ac.2.1,aa.2.2)))
 (i,j,(i64.wrap (f+1))) [] fun aa=>let ab:=d+((aa.2.2).toNat);
 .loop (fun (ac:Bd)=>⟨[(0,.view 0 1 d e),(1,pz f),(4,.func 367 [] [.ptr 1 0,.ptr 2 0]),(12,pz aa.2.2),(13,pz ac.2.2)],[(0,vecO 1 az1 w 3),(1,.box [.pure (encL 1 (encL 1 az1) ac.1)]),(2,.box [pz ac.2.1])],[],3⟩)
 (.exit 2) (fun (ac:Bd)=>⟨[(0,.view 0 1 d e),(1,pz f),(4,.func 367 [] [.ptr 1 0,.ptr 2 0]),(12,pz aa.2.2),(13,pz ac.2.2)],[(0,vecO 1 az1 w 3),(1,.box [.pure (encL 1 (encL 1 az1) ac.1)]),(2,.box [pz ac.2.1])],[],3⟩)
 (fun ac=>let ad:=(ac.2.2).toNat;.cut 1 (fun (ae:Bp)=>⟨[(0,.view 0 1 d e),(1,pz f),(4,.func 367 [] [.ptr 1 0,.ptr 2 0]),(12,pz aa.2.2),(13,pz ac.2.2),(66,.pure (.bool ae.2.2))],[(0,vecO 1 az1 w 3),(1,.box [.pure (encL 1 (encL 1 az1) ae.1)]),(2,.box [pz ae.2.1])],[],3⟩)
 (.br (decide (aa.2.2≤ac.2.2))
 (.gh ac.2.2 e<|
 .grd ((d+ad)<w.length)<|
 .name 5008 ((w.getD (d+ad) default)) fun ae=>
 .gh f e<|
 .grd (m<w.length)<|
 .name 5012 (y) fun af=>
 .call (bz8 ae af ac.1 ac.2.1) [(0,1),(1,2)] fun ag=>
 .oo (ag.2.1,ag.2.2,(!(decide (ag.1<0)))))
 (.oo (ac.1,ac.2.1,false))) fun ae=>
 .br ae.2.2
 (.nn (ae.1,ae.2.1,(i64.wrap (ac.2.2-1))))
 (.oo (ae.1,ae.2.1,ac.2.2)))
 (aa.1,aa.2.1,z) [] fun ac=>let ad:=d+((ac.2.2).toNat);let ae:=w.getD ad default;
 .br (decide (aa.2.2>ac.2.2))
 (.gh f e<|
 .grd (m<w.length)<|
 .name 8007 (y) fun af=>let ag:=w.set ad af;
 .gh ac.2.2 e<|
 .grd (ad<w.length)<|
 .name 8011 (ae) fun ah=>
 .gh ac.2.2 e<|
 .conv 8013 (bze 1 az1 w 3 ad af)<|
 .grd (ad<w.length/\0≤ad)<|
 .gh f e<|
 .conv 8015 (bze 1 az1 ag 3 m ah)<|
 .grd (m<ag.length/\0≤m)<|
 .ret (ac.2.2,true,(ag.set m ah),ac.1,ac.2.1))
 (.gh ac.2.2 e<|
 .grd (ad<w.length)<|
 .name 10007 (ae) fun af=>let ag:=w.set ab af;
 .gh aa.2.2 e<|
 .grd (ab<w.length)<|
 .name 10011 ((w.getD ab default)) fun ah=>
 .gh aa.2.2 e<|
 .conv 10013 (bze 1 az1 w 3 ab af)<|
 .grd (ab<w.length/\0≤ab)<|
 .gh ac.2.2 e<|
 .conv 10015 (bze 1 az1 ag 3 ad ah)<|
 .grd (ad<ag.length/\0≤ad)<|
 .loop (fun (ai:C3)=>⟨[(0,.view 0 1 d e),(1,pz f),(4,.func 367 [] [.ptr 1 0,.ptr 2 0]),(12,pz ai.2.2.2.1),(13,pz ai.2.2.2.2)],[(0,vecO 1 az1 ai.2.2.1 3),(1,.box [.pure (encL 1 (encL 1 az1) ai.1)]),(2,.box [pz ai.2.1])],[],3⟩)
 (.exit 4) (fun (ai:Bx)=>⟨[(0,.view 0 1 d e),(1,pz f),(13,pz ai.2.2.2)],[(0,vecO 1 az1 ai.2.2.1 3),(1,.box [.pure (encL 1 (encL 1 az1) ai.1)]),(2,.box [pz ai.2.1])],[],3⟩)
 (fun ai=>let aj:=ai.2.2.1.getD m default;.loop (fun (ak:Bd)=>⟨[(0,.view 0 1 d e),(1,pz f),(4,.func 367 [] [.ptr 1 0,.ptr 2 0]),(12,pz ak.2.2),(13,pz ai.2.2.2.2)],[(0,vecO 1 az1 ai.2.2.1 3),(1,.box [.pure (encL 1 (encL 1 az1) ak.1)]),(2,.box [pz ak.2.1])],[],3⟩)
 (.exit 6) (fun (ak:Bd)=>⟨[(0,.view 0 1 d e),(1,pz f),(4,.func 367 [] [.ptr 1 0,.ptr 2 0]),(12,pz ak.2.2),(13,pz ai.2.2.2.2)],[(0,vecO 1 az1 ai.2.2.1 3),(1,.box [.pure (encL 1 (encL 1 az1) ak.1)]),(2,.box [pz ak.2.1])],[],3⟩)
 (fun ak=>let al:=(ak.2.2).toNat;.cut 1 (fun (am:Bp)=>⟨[(0,.view 0 1 d e),(1,pz f),(4,.func 367 [] [.ptr 1 0,.ptr 2 0]),(12,pz ak.2.2),(13,pz ai.2.2.2.2),(120,.pure (.bool am.2.2))],[(0,vecO 1 az1 ai.2.2.1 3),(1,.box [.pure (encL 1 (encL 1 az1) am.1)]),(2,.box [pz am.2.1])],[],3⟩)
 (.br (decide (ak.2.2≤ai.2.2.2.2))
 (.gh ak.2.2 e<|
 .grd ((d+al)<ai.2.2.1.length)<|
 .name 13008 ((ai.2.2.1.getD (d+al) default)) fun am=>
 .gh f e<|
 .grd (m<ai.2.2.1.length)<|
 .name 13012 (aj) fun an=>
 .call (bz8 am an ak.1 ak.2.1) [(0,1),(1,2)] fun ao=>
 .oo (ao.2.1,ao.2.2,(decide (ao.1<0))))
 (.oo (ak.1,ak.2.1,false))) fun am=>
 .br am.2.2
 (.nn (am.1,am.2.1,(i64.wrap (ak.2.2+1))))
 (.oo (am.1,am.2.1,ak.2.2)))
 (ai.1,ai.2.1,ai.2.2.2.1) [] fun ak=>let al:=d+((ak.2.2).toNat);
 .loop (fun (am:Bd)=>⟨[(0,.view 0 1 d e),(1,pz f),(4,.func 367 [] [.ptr 1 0,.ptr 2 0]),(12,pz ak.2.2),(13,pz am.2.2)],[(0,vecO 1 az1 ai.2.2.1 3),(1,.box [.pure (encL 1 (encL 1 az1) am.1)]),(2,.box [pz am.2.1])],[],3⟩)
 (.exit 8) (fun (am:Bd)=>⟨[(0,.view 0 1 d e),(1,pz f),(4,.func 367 [] [.ptr 1 0,.ptr 2 0]),(12,pz ak.2.2),(13,pz am.2.2)],[(0,vecO 1 az1 ai.2.2.1 3),(1,.box [.pure (encL 1 (encL 1 az1) am.1)]),(2,.box [pz am.2.1])],[],3⟩)
 (fun am=>let an:=(am.2.2).toNat;.cut 1 (fun (ao:Bp)=>⟨[(0,.view 0 1 d e),(1,pz f),(4,.func 367 [] [.ptr 1 0,.ptr 2 0]),(12,pz ak.2.2),(13,pz am.2.2),(139,.pure (.bool ao.2.2))],[(0,vecO 1 az1 ai.2.2.1 3),(1,.box [.pure (encL 1 (encL 1 az1) ao.1)]),(2,.box [pz ao.2.1])],[],3⟩)
 (.br (decide (ak.2.2≤am.2.2))
 (.gh am.2.2 e<|
 .grd ((d+an)<ai.2.2.1.length)<|
 .name 15008 ((ai.2.2.1.getD (d+an) default)) fun ao=>
 .gh f e<|
 .grd (m<ai.2.2.1.length)<|
 .name 15012 (aj) fun ap=>
 .call (bz8 ao ap am.1 am.2.1) [(0,1),(1,2)] fun aq=>
 .oo (aq.2.1,aq.2.2,(!(decide (aq.1<0)))))
 (.oo (am.1,am.2.1,false))) fun ao=>
 .br ao.2.2
 (.nn (ao.1,ao.2.1,(i64.wrap (am.2.2-1))))
 (.oo (ao.1,ao.2.1,am.2.2)))
 (ak.1,ak.2.1,ai.2.2.2.2) [] fun am=>let an:=d+((am.2.2).toNat);
 .br (decide (ak.2.2>am.2.2))
 (.oo (am.1,am.2.1,ai.2.2.1,am.2.2))
 (.gh am.2.2 e<|
 .grd (an<ai.2.2.1.length)<|
 .name 18007 ((ai.2.2.1.getD an default)) fun ao=>let ap:=ai.2.2.1.set al ao;
 .gh ak.2.2 e<|
 .grd (al<ai.2.2.1.length)<|
 .name 18011 ((ai.2.2.1.getD al default)) fun aq=>
 .gh ak.2.2 e<|
 .conv 18013 (bze 1 az1 ai.2.2.1 3 al ao)<|
 .grd (al<ai.2.2.1.length/\0≤al)<|
 .gh am.2.2 e<|
 .conv 18015 (bze 1 az1 ap 3 an aq)<|
 .grd (an<ap.length/\0≤an)<|
 .nn (am.1,am.2.1,(ap.set an aq),(i64.wrap (ak.2.2+1)),(i64.wrap (am.2.2-1)))))
 (ac.1,ac.2.1,(ag.set ad ah),(i64.wrap (aa.2.2+1)),(i64.wrap (ac.2.2-1))) [] fun ai=>let aj:=d+((ai.2.2.2).toNat);let ak:=ai.2.2.1.getD m default;let al:=ai.2.2.1.set aj ak;let am:=ai.2.2.1.getD aj default;
 .gh f e<|
 .grd (m<ai.2.2.1.length)<|
 .gh ai.2.2.2 e<|
 .grd (aj<ai.2.2.1.length)<|
 .gh ai.2.2.2 e<|
 .conv 21013 (bze 1 az1 ai.2.2.1 3 aj ak)<|
 .grd (aj<ai.2.2.1.length/\0≤aj)<|
 .gh f e<|
 .conv 21015 (bze 1 az1 al 3 m am)<|
 .grd (m<al.length/\0≤m)<|
 .ret (ai.2.2.2,false,(al.set m am),ai.1,ai.2.1))
noncomputable def kz3 (c)(d)(e)(f)(g)(h)(i)(j):=
 mkD Tryz.func443 (kz4 c d e f g h i j) 3 [.view 0 1 d e,pz f,pz g,pz h,.func 367 [] [.ptr 1 0,.ptr 2 0]] [(0,vecO 1 az1 c 3),(1,.box [.pure (encL 1 (encL 1 az1) i)]),(2,.box [pz j])] (fun r=>.tup [pz r.1,.pure (.bool r.2.1)]) (fun r=>[(0,vecO 1 az1 r.2.2.1 3),(1,.box [.pure (encL 1 (encL 1 az1) r.2.2.2.1)]),(2,.box [pz r.2.2.2.2])])
noncomputable def ozq (c:Int):T Int:=
 .cc (lzd (IntKind.u64.wrap c)) fun d=>
 .grd (0≤d)<|
 .ret (IntKind.u64.wrap (1 * 2 ^ (min d.toNat 64)))
noncomputable def izd (c):=
 mkD Tryz.func450 (ozq c) 0 [pz c] [] (fun r=>.pure (.int .u64 r)) (fun _=>[])
noncomputable def Dzh (c:Int):T Ay:=
 .ok (0≤(13:Int)) (by decide)<|
 .name 1007 ((IntKind.u64.wrap (((BitVec.ofInt 64 c ^^^ BitVec.ofInt 64 (IntKind.u64.wrap (c * 2 ^ (min (13:Int).toNat 64)))).toNat:Int)))) fun d=>let e:=IntKind.u64.wrap (((BitVec.ofInt 64 d ^^^ BitVec.ofInt 64 (d.fdiv (2 ^ (min (7:Int).toNat 64)))).toNat:Int));
 .ok (0≤(7:Int)) (by decide)<|
 .ok (0≤(17:Int)) (by decide)<|
 .name 3006 ((IntKind.u64.wrap (e * 2 ^ (min (17:Int).toNat 64)))) fun f=>
 .name 3007 ((IntKind.u64.wrap (((BitVec.ofInt 64 e ^^^ BitVec.ofInt 64 f).toNat:Int)))) fun g=>
 .ret (g,g)
noncomputable def rz0 (c):=
 mkD Tryz.func451 (Dzh c) 1 [.ptr 0 0] [(0,.box [.pure (.int .u64 c)])] (fun r=>.pure (.int .u64 r.1)) (fun r=>[(0,.box [.pure (.int .u64 r.2)])])
noncomputable def iz8 (c:A0)(d:Nat)(e:Nat)(f:Int)(g:Int)(h:A1)(i:Int):T B8:=let j:Nat×Res:=(2,.box [pz i]);let k:=i64.wrap (g-f);let m:Nat×Res:=(1,.box [.pure (encL 1 (encL 1 az1) h)]);let n:=i64.wrap (f+(i64.wrap ((i64.wrap (k.tdiv 4)) * 2)));.br (decide (k≥8))
 (.cc (izd k) fun s=>
 .ok ((4:Int)≠0) (by decide)<|
 .name 4005 ((i64.wrap (n-1))) fun t=>
 .loop (fun (w:Bc)=>⟨[(0,.view 0 1 d e),(1,pz f),(8,pz k),(9,.ptr 3 0),(10,.pure (.int .u64 s)),(11,pz w.2.2)],[(0,vecO 1 az1 w.1 3),m,j,(3,.box [.pure (.int .u64 w.2.1)])],[],4⟩)
 (.exit 0) (fun (w:A0)=>⟨[],[(0,vecO 1 az1 w 3),m,j],[],3⟩)
 (fun w=>let y:=d+((w.2.2).toNat);let z:=w.1.getD y default;.ok ((4:Int)≠0) (by decide)<|
 .name 5006 ((i64.wrap (n+1))) fun aa=>
 .br (decide (w.2.2≤aa))
 (.call (rz0 w.2.1) [(0,3)] fun ab=>
 .name 7004 ((i64.wrap (IntKind.u64.wrap (((BitVec.ofInt 64 ab.1&&&BitVec.ofInt 64 (IntKind.u64.wrap (s-1))).toNat:Int))))) fun ac=>
 .cut 0 (fun (ad:Int)=>⟨[(0,.view 0 1 d e),(1,pz f),(8,pz k),(9,.ptr 3 0),(10,.pure (.int .u64 s)),(11,pz w.2.2),(12,pz ad)],[(0,vecO 1 az1 w.1 3),m,j,(3,.box [.pure (.int .u64 ab.2)])],[],4⟩)
 (.br (decide (ac≥k))
 (.oo (i64.wrap (ac-k)))
 (.oo ac)) fun ad=>let ae:=i64.wrap (f+ad);let af:=d+(ae.toNat);let ag:=w.1.getD af default;let ah:=w.1.set y ag;
 .gh ae e<|
 .grd (af<w.1.length)<|
 .gh w.2.2 e<|
 .grd (y<w.1.length)<|
 .gh w.2.2 e<|
 .conv 10017 (bze 1 az1 w.1 3 y ag)<|
 .grd (y<w.1.length/\0≤y)<|
 .gh ae e<|
 .conv 10019 (bze 1 az1 ah 3 af z)<|
 .grd (af<ah.length/\0≤af)<|
 .nn ((ah.set af z),ab.2,(i64.wrap (w.2.2+1))))
 (.oo w.1))
 (c,(IntKind.u64.wrap k),t) [] fun w=>
 .ret (w,h,i))
 (.ret (c,h,i))
noncomputable def iz7 (c)(d)(e)(f)(g)(h)(i):=
 mkD Tryz.func438 (iz8 c d e f g h i) 3 [.view 0 1 d e,pz f,pz g,.func 367 [] [.ptr 1 0,.ptr 2 0]] [(0,vecO 1 az1 c 3),(1,.box [.pure (encL 1 (encL 1 az1) h)]),(2,.box [pz i])] (fun _=>.tup []) (fun r=>[(0,vecO 1 az1 r.1 3),(1,.box [.pure (encL 1 (encL 1 az1) r.2.1)]),(2,.box [pz r.2.2])])
abbrev dzy:=RecS Tryz.prog 404 3 (A0×Nat×Nat×Int×Int×Int×A1×Int) B8 (fun a=>[.view 0 1 a.2.1 a.2.2.1,pz a.2.2.2.1,pz a.2.2.2.2.1,pz a.2.2.2.2.2.1,.func 367 [] [.ptr 1 0,.ptr 2 0]]) (fun a=>[(0,vecO 1 az1 a.1 3),(1,.box [.pure (encL 1 (encL 1 az1) a.2.2.2.2.2.2.1)]),(2,.box [pz a.2.2.2.2.2.2.2])]) (fun _ _=>.tup []) (fun _ r=>[(0,vecO 1 az1 r.1 3),(1,.box [.pure (encL 1 (encL 1 az1) r.2.1)]),(2,.box [pz r.2.2])])
noncomputable def lzl (rec:dzy)(c:A0)(d:Nat)(e:Nat)(f:Int)(g:Int)(h:Int)(i:A1)(j:Int):T B8:=
 .loop (fun (k:(A1×Int×A0×Int×Int×Int×Bool×Bool))=>⟨[(0,.view 0 1 d e),(1,pz k.2.2.2.1),(2,pz k.2.2.2.2.1),(3,pz k.2.2.2.2.2.1),(4,.func 367 [] [.ptr 1 0,.ptr 2 0]),(10,.pure (.bool k.2.2.2.2.2.2.1)),(11,.pure (.bool k.2.2.2.2.2.2.2))],[(0,vecO 1 az1 k.2.2.1 3),(1,.box [.pure (encL 1 (encL 1 az1) k.1)]),(2,.box [pz k.2.1])],[],3⟩)
 .ret (fun (_:U0)=>⟨[],[],[],3⟩)
 (fun k=>let m:=i64.wrap (k.2.2.2.1-1);let n:=d+(m.toNat);let s:=i64.wrap (k.2.2.2.2.1-k.2.2.2.1);let t:=i64.wrap (s.tdiv 8);.br (decide (s≤12))
 (.call (izb k.2.2.1 d e k.2.2.2.1 k.2.2.2.2.1 k.1 k.2.1) [(0,0),(1,1),(2,2)] fun w=>
 .ff (w.1,w.2.1,w.2.2))
 (.br (k.2.2.2.2.2.1==0)
 (.call (kzp k.2.2.1 d e k.2.2.2.1 k.2.2.2.2.1 k.1 k.2.1) [(0,0),(1,1),(2,2)] fun w=>
 .ff (w.1,w.2.1,w.2.2))
 (.cut 0 (fun (w:Bx)=>⟨[(0,.view 0 1 d e),(1,pz k.2.2.2.1),(2,pz k.2.2.2.2.1),(3,pz w.2.2.2),(4,.func 367 [] [.ptr 1 0,.ptr 2 0]),(10,.pure (.bool k.2.2.2.2.2.2.1)),(11,.pure (.bool k.2.2.2.2.2.2.2)),(12,pz s)],[(0,vecO 1 az1 w.2.2.1 3),(1,.box [.pure (encL 1 (encL 1 az1) w.1)]),(2,.box [pz w.2.1])],[],3⟩)
 (.br (!k.2.2.2.2.2.2.1)
 (.call (iz7 k.2.2.1 d e k.2.2.2.1 k.2.2.2.2.1 k.1 k.2.1) [(0,0),(1,1),(2,2)] fun w=>
 .oo (w.2.1,w.2.2,w.1,(i64.wrap (k.2.2.2.2.2.1-1))))
 (.oo (k.1,k.2.1,k.2.2.1,k.2.2.2.2.2.1))) fun w=>
 .call (jz0 w.2.2.1 d e k.2.2.2.1 k.2.2.2.2.1 w.1 w.2.1) [(0,0),(1,1),(2,2)] fun y=>
 .cut 0 (fun (z:C3)=>⟨[(0,.view 0 1 d e),(1,pz k.2.2.2.1),(2,pz k.2.2.2.2.1),(3,pz w.2.2.2),(4,.func 367 [] [.ptr 1 0,.ptr 2 0]),(10,.pure (.bool k.2.2.2.2.2.2.1)),(11,.pure (.bool k.2.2.2.2.2.2.2)),(12,pz s),(13,pz z.2.2.2.1),(14,pz z.2.2.2.2)],[(0,vecO 1 az1 z.2.2.1 3),(1,.box [.pure (encL 1 (encL 1 az1) z.1)]),(2,.box [pz z.2.1])],[],3⟩)
 (.br (y.2.1==2)
 (.call (izn w.2.2.1 d e k.2.2.2.1 k.2.2.2.2.1 y.2.2.1 y.2.2.2) [(0,0),(1,1),(2,2)] fun z=>
 .oo (z.2.1,z.2.2,z.1,(i64.wrap ((i64.wrap (k.2.2.2.2.1-1))- (i64.wrap (y.1-k.2.2.2.1)))),1))
 (.oo (y.2.2.1,y.2.2.2,w.2.2.1,y.1,y.2.1))) fun z=>let aa:=(z.2.2.2.1).toNat;
 .cut 0 (fun (ab:B9)=>⟨[(0,.view 0 1 d e),(1,pz k.2.2.2.1),(2,pz k.2.2.2.2.1),(3,pz w.2.2.2),(4,.func 367 [] [.ptr 1 0,.ptr 2 0]),(10,.pure (.bool k.2.2.2.2.2.2.1)),(11,.pure (.bool k.2.2.2.2.2.2.2)),(12,pz s),(13,pz z.2.2.2.1)],[(0,vecO 1 az1 ab.2.2 3),(1,.box [.pure (encL 1 (encL 1 az1) ab.1)]),(2,.box [pz ab.2.1])],[],3⟩)
 (.cut 0 (fun (ab:Bool)=>⟨[(0,.view 0 1 d e),(1,pz k.2.2.2.1),(2,pz k.2.2.2.2.1),(3,pz w.2.2.2),(4,.func 367 [] [.ptr 1 0,.ptr 2 0]),(10,.pure (.bool k.2.2.2.2.2.2.1)),(11,.pure (.bool k.2.2.2.2.2.2.2)),(12,pz s),(13,pz z.2.2.2.1),(75,.pure (.bool ab))],[(0,vecO 1 az1 z.2.2.1 3),(1,.box [.pure (encL 1 (encL 1 az1) z.1)]),(2,.box [pz z.2.1])],[],3⟩)
 (.br k.2.2.2.2.2.2.1
 (.br k.2.2.2.2.2.2.2
 (.oo (z.2.2.2.2==1))
 (.oo false))
 (.oo false)) fun ab=>
 .br ab
 (.call (fzm z.2.2.1 d e k.2.2.2.1 k.2.2.2.2.1 z.1 z.2.1) [(0,0),(1,1),(2,2)] fun ac=>
 .br ac.1
 (.ff (.fin (ac.2.1,ac.2.2.1,ac.2.2.2)))
 (.oo (ac.2.2.1,ac.2.2.2,ac.2.1)))
 (.oo (z.1,z.2.1,z.2.2.1))) fun ab=>
 .cut 1 (fun (ac:Bp)=>⟨[(0,.view 0 1 d e),(1,pz k.2.2.2.1),(2,pz k.2.2.2.2.1),(3,pz w.2.2.2),(4,.func 367 [] [.ptr 1 0,.ptr 2 0]),(10,.pure (.bool k.2.2.2.2.2.2.1)),(11,.pure (.bool k.2.2.2.2.2.2.2)),(12,pz s),(13,pz z.2.2.2.1),(97,.pure (.bool ac.2.2))],[(0,vecO 1 az1 ab.2.2 3),(1,.box [.pure (encL 1 (encL 1 az1) ac.1)]),(2,.box [pz ac.2.1])],[],3⟩)
 (.br (decide (k.2.2.2.1>0))
 (.gh m e<|
 .grd (n<ab.2.2.length)<|
 .gh z.2.2.2.1 e<|
 .grd ((d+aa)<ab.2.2.length)<|
 .call (bz8 (ab.2.2.getD n default) (ab.2.2.getD (d+aa) default) ab.1 ab.2.1) [(0,1),(1,2)] fun ac=>
 .oo (ac.2.1,ac.2.2,(!(decide (ac.1<0)))))
 (.oo (ab.1,ab.2.1,false))) fun ac=>
 .br ac.2.2
 (.call (hzg ab.2.2 d e k.2.2.2.1 k.2.2.2.2.1 z.2.2.2.1 ac.1 ac.2.1) [(0,0),(1,1),(2,2)] fun ad=>
 .nn (ad.2.2.1,ad.2.2.2,ad.2.1,ad.1,k.2.2.2.2.1,w.2.2.2,k.2.2.2.2.2.2.1,k.2.2.2.2.2.2.2))
 (.call (kz3 ab.2.2 d e k.2.2.2.1 k.2.2.2.2.1 z.2.2.2.1 ac.1 ac.2.1) [(0,0),(1,1),(2,2)] fun ad=>let ae:=i64.wrap (ad.1-k.2.2.2.1);let af:=i64.wrap (k.2.2.2.2.1-ad.1);let ag:=i64.wrap (ad.1+1);
 .ok ((8:Int)≠0) (by decide)<|
 .br (decide (ae<af))
 (.call (rec.C (ad.2.2.1,d,e,k.2.2.2.1,ad.1,w.2.2.2,ad.2.2.2.1,ad.2.2.2.2)) [(0,0),(1,1),(2,2)] fun ah=>
 .nn (ah.2.1,ah.2.2,ah.1,ag,k.2.2.2.2.1,w.2.2.2,(decide (ae≥t)),ad.2.1))
 (.call (rec.C (ad.2.2.1,d,e,ag,k.2.2.2.2.1,w.2.2.2,ad.2.2.2.1,ad.2.2.2.2)) [(0,0),(1,1),(2,2)] fun ah=>
 .nn (ah.2.1,ah.2.2,ah.1,k.2.2.2.1,ad.1,w.2.2.2,(decide (af≥t)),ad.2.1))))))
 (i,j,c,f,g,h,true,true) [] fun _=>
 .stop
noncomputable def lzk:dzy->dzy:=RecS.next [] hd Tryz.func404 (by kernel_rfl) (fun rec a=>lzl rec a.1 a.2.1 a.2.2.1 a.2.2.2.1 a.2.2.2.2.1 a.2.2.2.2.2.1 a.2.2.2.2.2.2.1 a.2.2.2.2.2.2.2) (fun rec a=>by kernel_rfl)
noncomputable def lzj (a0:A0)(a1:Nat)(a2:Nat)(a3:Int)(a4:Int)(a5:Int)(a6:A1)(a7:Int):CallS B8:=(RecS.fix lzk NN).C (a0,a1,a2,a3,a4,a5,a6,a7)
noncomputable def mzv (c:A0)(d:Nat)(e:Nat)(f:A1)(g:Int):T B8:=let h:=(e:Int);.cc (lzd (IntKind.u64.wrap h)) fun i=>
 .call (lzj c d e 0 h i f g) [(0,0),(1,1),(2,2)] fun j=>
 .ret (j.1,j.2.1,j.2.2)
noncomputable def mzu (c)(d)(e)(f)(g):=
 mkD Tryz.func366 (mzv c d e f g) 3 [.view 0 1 d e,.func 367 [] [.ptr 1 0,.ptr 2 0]] [(0,vecO 1 az1 c 3),(1,.box [.pure (encL 1 (encL 1 az1) f)]),(2,.box [pz g])] (fun _=>.tup []) (fun r=>[(0,vecO 1 az1 r.1 3),(1,.box [.pure (encL 1 (encL 1 az1) r.2.1)]),(2,.box [pz r.2.2])])
abbrev hzq:=RecS Tryz.prog 365 5 (A0×Nat×Nat×Int×A1×Ai) Bu (fun a=>[.view 0 1 a.2.1 a.2.2.1,pz a.2.2.2.1,.ptr 1 0,.ptr 2 0,.ptr 4 0]) (fun a=>[(0,vecO 1 az1 a.1 3),(1,.box [.pure (encL 1 (encL 1 az1) a.2.2.2.2.1)]),(2,.box [.vec 3]),(3,vecO 4 azy a.2.2.2.2.2 450),(4,.box [.func 365 [] [.ptr 1 0,.ptr 2 0,.ptr 4 0]])]) (fun _ r=>pz r.1) (fun _ r=>[(0,vecO 1 az1 r.2.1 3),(1,.box [.pure (encL 1 (encL 1 az1) r.2.2.1)]),(2,.box [.vec 5]),(3,.gone),(4,.box [.func 365 [] [.ptr 1 0,.ptr 2 0,.ptr 4 0]]),(5,vecO 4 azy r.2.2.2 450)])
noncomputable def uzf (rec:hzq)(c:A0)(d:Nat)(e:Nat)(f:Int)(g:A1)(h:Ai):T Bu:=let i:=(e:Int);let j:=(h.length:Int);let k:=j.toNat;let m:=i64.wrap (i.tdiv 2);let n:=d+(m.toNat);let s:=i64.wrap (m+1);let t:=i64.wrap (f+1);let w:=((g.getD ((0:Int).toNat) default).length:Nat);.br (i==0)
 (.ret ((-1),c,g,h))
 (.gh (0:Int) g.length<|
 .grd ((w:Int)≠0)<|
 .call (mzu c d e g (f.tmod (w:Int))) [(0,0),(1,1),(2,645)] fun y=>let z:=([(⟨(y.1.getD n default),y.2.2,0,0⟩:bz7)]:Ai);let aa:=h.length+z.length;
 .ok ((2:Int)≠0) (by decide)<|
 .gh m e<|
 .grd (n<y.1.length)<|
 .conv 6007 (bzl 4 azy z 450)<|
 .conv 6008 (czq 4 azy h z 450)<|
 .grd (aa * 32≤140737488355328/\aa≤maxLen)<|
 .grd (0≤(0:Int)/\(0:Int)≤m/\m≤i)<|
 .call (rec.C (y.1,(d+((0:Int).toNat)),((m.toNat)- ((0:Int).toNat)),t,y.2.1,(h++z))) [(0,0),(1,1),(2,2),(3,1925),(4,4)] fun ab=>
 .grd (0≤s/\s≤i/\i≤i)<|
 .call (rec.C (ab.2.1,(d+(s.toNat)),((i.toNat)- (s.toNat)),t,ab.2.2.1,ab.2.2.2)) [(0,0),(1,1),(2,2),(3,2437),(4,4)] fun ac=>let ad:=ac.2.2.2.getD k default;let ae:=(⟨ad.Point,ad.Axis,ab.1,ad.High⟩:bz7);let af:=ac.2.2.2.set k ae;let ag:=af.getD k default;let ah:=(⟨ag.Point,ag.Axis,ag.Low,ac.1⟩:bz7);
 .gh j ac.2.2.2.length<|
 .conv 9008 (bze 4 azy ac.2.2.2 450 k ae)<|
 .gi (j) ac.2.2.2.length<|
 .gh j (af.length)<|
 .conv 9011 (bze 4 azy af 450 k ah)<|
 .gi (j) (af.length)<|
 .ret (j,ac.2.1,ac.2.2.1,(af.set k ah)))
noncomputable def uze:hzq->hzq:=RecS.next [] hd Tryz.func365 (by kernel_rfl) (fun rec a=>uzf rec a.1 a.2.1 a.2.2.1 a.2.2.2.1 a.2.2.2.2.1 a.2.2.2.2.2) (fun rec a=>by kernel_rfl)
noncomputable def uzd (a0:A0)(a1:Nat)(a2:Nat)(a3:Int)(a4:A1)(a5:Ai):CallS Bu:=(RecS.fix uze NN).C (a0,a1,a2,a3,a4,a5)
noncomputable def yzy (c:A1):T Ai:=let d:=(c.length:Int);let e:=encL 1 (encL 1 az1) c;let f:=List.replicate d.toNat (0:Int);let g:=(f.length:Nat);.cc (izp c) fun h=>
 .br (!h)
 (.ret nl)
 (.conv 4002 (rzh 1 az1 3 d.toNat 0)<|
 .grd (0≤d/\d≤d/\d≤9223372036854775807/\d * 8≤140737488355328)<|
 .loop (fun (i:A3)=>⟨[(1,.ptr 0 0),(2,.ptr 1 0),(3,.vec 3),(14,pz (g:Int)),(15,pz i.2)],[(0,.box [.pure e]),(1,.box [.vec 2]),(2,.nilv),(3,vecO 1 az1 i.1 3)],[.func 363 [] [.ptr 1 0]],4⟩)
 (.exit 0) (fun (i:A0)=>⟨[(1,.ptr 0 0),(2,.ptr 1 0),(3,.vec 3)],[(0,.box [.pure e]),(1,.box [.vec 2]),(2,.nilv),(3,vecO 1 az1 i 3)],[.func 363 [] [.ptr 1 0]],4⟩)
 (fun i=>let j:=(i.2).toNat;.br (decide (i.2<(g:Int)))
 (.gh i.2 i.1.length<|
 .conv 8004 (bze 1 az1 i.1 3 j i.2)<|
 .gi (i.2) i.1.length<|
 .nn ((i.1.set j i.2),(i64.wrap (i.2+1))))
 (.oo i.1))
 (f,0) [] fun i=>
 .call (uzd i 0 i.length 0 c nl) [(0,3),(1,0),(2,1),(3,2),(4,4)] fun j=>
 .ret j.2.2.2)
noncomputable def yzx (c):=
 mkC [⟨363,Qzt⟩] hd Tryz.func318 (by kernel_rfl) (yzy c) 0 [.pure (encL 1 (encL 1 az1) c)] [] (fun r=>.pure (encL 4 azy r)) (fun _=>[]) (by kernel_rfl)
set_option maxHeartbeats 8000000 in
set_option maxRecDepth 20000 in
noncomputable def uzl (c:A1)(d:Ai):T (A0×Bool):=let e:=encL 4 azy d;let f:=(d.length:Int);let g:=(c.length:Int);let h:=encL 1 (encL 1 az1) c;let i:=List.replicate f.toNat (0:Int);let j:=(i.length:Nat);.conv 1002 (rzh 1 az1 3 f.toNat 0)<|
 .grd (0≤f/\f≤f/\f≤9223372036854775807/\f * 8≤140737488355328)<|
 .loop (fun (k:A3)=>⟨[(0,.pure h),(1,.pure e),(6,.vec 0),(17,pz (j:Int)),(18,pz k.2)],[(0,vecO 1 az1 k.1 3)],[],1⟩)
 (.exit 0) (fun (k:A0)=>⟨[(0,.pure h),(1,.pure e),(6,.vec 0)],[(0,vecO 1 az1 k 3)],[],1⟩)
 (fun k=>let m:=(k.2).toNat;.br (decide (k.2<(j:Int)))
 (.gh k.2 k.1.length<|
 .conv 5003 (bze 1 az1 k.1 3 m (-1))<|
 .gi (k.2) k.1.length<|
 .nn ((k.1.set m (-1)),(i64.wrap (k.2+1))))
 (.oo k.1))
 (i,0) [] fun k=>
 .conv 7002 (rzh 1 encB 4 g.toNat false)<|
 .grd (0≤g/\g≤g/\g≤9223372036854775807/\g * 1≤140737488355328)<|
 .loop (fun (m:(A0×(List Bool)×Int))=>⟨[(0,.pure h),(1,.pure e),(6,.vec 0),(8,.vec 1),(28,.pure e),(29,pz f),(30,pz m.2.2)],[(0,vecO 1 az1 m.1 3),(1,vecO 1 encB m.2.1 4)],[],2⟩)
 (.exit 2) (fun (m:A0)=>⟨[(6,.vec 0)],[(0,vecO 1 az1 m 3)],[],1⟩)
 (fun m=>let n:=(m.2.2).toNat;let s:=d.getD n default;let t:=s.Axis;let w:=s.Point;let y:=w.toNat;let z:=m.2.1.set y true;let aa:=([s.Low,s.High]:A0);let ab:Nat×Res:=(2,.box [pz w,pz t,pz (s.Low),pz (s.High)]);.br (decide (m.2.2<f))
 (.gh m.2.2 d.length<|
 .cut 1 (fun (ac:Bool)=>⟨[(0,.pure h),(1,.pure e),(6,.vec 0),(8,.vec 1),(9,pz m.2.2),(10,.ptr 2 0),(28,.pure e),(29,pz f),(30,pz m.2.2),(51,.pure (.bool ac))],[(0,vecO 1 az1 m.1 3),(1,vecO 1 encB m.2.1 4),ab],[],3⟩)
 (.br (decide (w<0))
 (.oo true)
 (.br (decide (w≥g))
 (.oo true)
 (.gg w m.2.1.length<|
 .oo (m.2.1.getD y default)))) fun ac=>
 .br ac
 (.ff (nl,false))
 (.gh w m.2.1.length<|
 .conv 13004 (bze 1 encB m.2.1 4 y true)<|
 .gi w m.2.1.length<|
 .cut 1 (fun (ad:Bool)=>⟨[(0,.pure h),(1,.pure e),(6,.vec 0),(8,.vec 1),(9,pz m.2.2),(10,.ptr 2 0),(28,.pure e),(29,pz f),(30,pz m.2.2),(67,.pure (.bool ad))],[(0,vecO 1 az1 m.1 3),(1,vecO 1 encB z 4),ab],[],3⟩)
 (.br (decide (t<0))
 (.oo true)
 (.gh (0:Int) c.length<|
 .oo (decide (t≥(((c.getD ((0:Int).toNat) default).length:Nat):Int))))) fun ad=>
 .br ad
 (.ff (nl,false))
 (.conv 16004 (bzl 1 az1 aa 3)<|
 .name 16005 ((aa.length:Int)) fun ae=>
 .loop (fun (af:A3)=>⟨[(0,.pure h),(1,.pure e),(6,.vec 0),(8,.vec 1),(9,pz m.2.2),(28,.pure e),(29,pz f),(30,pz m.2.2),(72,.vec 2),(73,pz ae),(74,pz af.2)],[(0,vecO 1 az1 af.1 3),(1,vecO 1 encB z 4),(2,vecO 1 az1 aa 3)],[],3⟩)
 (.exit 4) (fun (af:A0)=>⟨[(0,.pure h),(1,.pure e),(6,.vec 0),(8,.vec 1),(9,pz m.2.2),(28,.pure e),(29,pz f),(30,pz m.2.2)],[(0,vecO 1 az1 af 3),(1,vecO 1 encB z 4)],[],2⟩)
 (fun af=>.br (decide (af.2<ae))
 (.cut 0 (fun (ag:A0)=>⟨[(0,.pure h),(1,.pure e),(6,.vec 0),(8,.vec 1),(9,pz m.2.2),(28,.pure e),(29,pz f),(30,pz m.2.2),(72,.vec 2),(73,pz ae),(74,pz af.2)],[(0,vecO 1 az1 ag 3),(1,vecO 1 encB z 4),(2,vecO 1 az1 aa 3)],[],3⟩)
 (.gg af.2 (aa.length)<|
 .name 18001 ((aa.getD ((af.2).toNat) default)) fun ag=>let ah:=ag.toNat;
 .br (ag==(-1))
 (.oo af.1)
 (.cut 1 (fun (ai:Bool)=>⟨[(0,.pure h),(1,.pure e),(6,.vec 0),(8,.vec 1),(9,pz m.2.2),(12,pz ag),(28,.pure e),(29,pz f),(30,pz m.2.2),(72,.vec 2),(73,pz ae),(74,pz af.2),(95,.pure (.bool ai))],[(0,vecO 1 az1 af.1 3),(1,vecO 1 encB z 4),(2,vecO 1 az1 aa 3)],[],3⟩)
 (.br (decide (ag≤m.2.2))
 (.oo true)
 (.br (decide (ag≥f))
 (.oo true)
 (.gg ag af.1.length<|
 .oo ((af.1.getD ah default) !=(-1))))) fun ai=>
 .br ai
 (.ff (.fin (.fin (nl,false))))
 (.gh ag af.1.length<|
 .conv 22004 (bze 1 az1 af.1 3 ah m.2.2)<|
 .gi (ag) af.1.length<|
 .oo (af.1.set ah m.2.2)))) fun ag=>
 .nn (ag,(i64.wrap (af.2+1))))
 (.oo af.1))
 (m.1,0) [] fun af=>
 .cut 0 (fun (ag:Bool)=>⟨[(0,.pure h),(1,.pure e),(6,.vec 0),(8,.vec 1),(28,.pure e),(29,pz f),(30,pz m.2.2),(109,.pure (.bool ag))],[(0,vecO 1 az1 af 3),(1,vecO 1 encB z 4)],[],2⟩)
 (.br (decide (m.2.2>0))
 (.gg m.2.2 af.length<|
 .oo ((af.getD n default)==(-1)))
 (.oo false)) fun ag=>
 .br ag
 (.ff (nl,false))
 (.nn (af,z,(i64.wrap (m.2.2+1)))))))
 (.oo m.1))
 (k,(List.replicate g.toNat (false:Bool)),0) [] fun m=>
 .ret (m,true)
noncomputable def uzk (c)(d):=
 mkD Tryz.func445 (uzl c d) 0 [.pure (encL 1 (encL 1 az1) c),.pure (encL 4 azy d)] [] (fun r=>.tup [.pure (encL 1 az1 r.1),.pure (.bool r.2)]) (fun _=>[])
noncomputable def uzj (c:A1)(d:Ai)(e:A0):T Bool:=let f:=encL 4 azy d;let g:=encL 1 az1 e;let h:=(d.length:Int);let i:=encL 1 (encL 1 az1) c;.loop (fun (j:Int)=>⟨[(0,.pure i),(1,.pure f),(2,.pure g),(12,.pure f),(13,pz h),(14,pz j)],[],[],0⟩)
 (.exit 0) (fun (_:U0)=>⟨[],[],[],0⟩)
 (fun j=>let k:=d.getD (j.toNat) default;.br (decide (j<h))
 (.gh j d.length<|
 .gh j e.length<|
 .loop (fun (m:Ay)=>⟨[(0,.pure i),(1,.pure f),(2,.pure g),(8,.ptr 0 0),(9,pz m.1),(10,pz m.2),(12,.pure f),(13,pz h),(14,pz j)],[(0,.box [pz (k.Point),pz (k.Axis),pz (k.Low),pz (k.High)])],[],1⟩)
 (.exit 2) (fun (_:U0)=>⟨[(0,.pure i),(1,.pure f),(2,.pure g),(12,.pure f),(13,pz h),(14,pz j)],[],[],0⟩)
 (fun m=>let n:=(m.2).toNat;let s:=d.getD n default;.br (m.2 !=(-1))
 (.gh m.2 d.length<|
 .gh m.2 d.length<|
 .cc (pz4 c (s.Axis) (k.Point) (s.Point)) fun t=>
 .gh m.2 d.length<|
 .br (!((decide (t<0))==(m.1==(s.Low))))
 (.ff (.fin false))
 (.gh m.2 e.length<|
 .nn (m.2,(e.getD n default))))
 (.oo .u))
 (j,(e.getD (j.toNat) default)) [] fun _=>
 .nn (i64.wrap (j+1)))
 (.oo .u))
 0 [] fun _=>
 .ret true
noncomputable def uzi (c)(d)(e):=
 mkD Tryz.func446 (uzj c d e) 0 [.pure (encL 1 (encL 1 az1) c),.pure (encL 4 azy d),.pure (encL 1 az1 e)] [] (fun r=>.pure (.bool r)) (fun _=>[])
noncomputable def zz0 (c:A1)(d:Ai):T Bool:=
 .cut 3 (fun (e:Bool)=>⟨[(0,.pure (encL 1 (encL 1 az1) c)),(1,.pure (encL 4 azy d)),(4,.ptr 0 0),(16,.pure (.bool e))],[(0,.box [.ff])],[.func 444 [] [.ptr 0 0]],1⟩)
 (.cc (izp c) fun e=>
 .br (!e)
 (.oo true)
 (.oo ((d.length:Int) !=(c.length:Int)))) fun e=>
 .br e
 (.ret false)
 (.cc (uzk c d) fun f=>
 .br f.2
 (.cc (uzi c d f.1) fun g=>
 .ret g)
 (.ret false))
noncomputable def yzz (c)(d):=
 mkC [⟨444,Qzy⟩] hd Tryz.func405 (by kernel_rfl) (zz0 c d) 0 [.pure (encL 1 (encL 1 az1) c),.pure (encL 4 azy d)] [] (fun r=>.pure (.bool r)) (fun _=>[]) (by kernel_rfl)
noncomputable def Bzy (c:bz1)(d:A1)(e:Ai)(f:A0):T Bool:=let g:=(c.Joints.length:Nat);.cut 2 (fun (h:Bool)=>⟨[(1,.pure (encL 1 (encL 1 az1) d)),(4,.ptr 0 0),(30,.pure (.bool h))],[(0,.box [.pure (encL 12 az7 c.Joints),.pure (encL 5 azc c.Masses)])],[],1⟩)
 (.cc (eze (⟨c.Joints,c.Masses⟩:bz1)) fun h=>
 .br (h !=0)
 (.oo true)
 (.br ((f.length:Int) !=(g:Int))
 (.oo true)
 (.cc (pz5 f) fun i=>
 .br (!i)
 (.oo true)
 (.cc (yzz d e) fun j=>
 .oo (!j))))) fun h=>
 .br h
 (.ret false)
 (.br ((d.length:Int)==0)
 (.ret true)
 (.gh (0:Int) d.length<|
 .ret ((((d.getD ((0:Int).toNat) default).length:Nat):Int)==(g:Int))))
noncomputable def Bzx (c)(d)(e)(f):=
 mkD Tryz.func370 (Bzy c d e f) 0 [.pure (dz2 c),.pure (encL 1 (encL 1 az1) d),.pure (encL 4 azy e),.pure (encL 1 az1 f)] [] (fun r=>.pure (.bool r)) (fun _=>[])
noncomputable def xz8 (c:czw)(d:Int):T Int:=let e:=c.points.getD (d.toNat) default;let f:=(e.length:Nat);.gh d c.points.length<|
 .loop (fun (g:Ay)=>⟨[(2,.ptr 0 0),(5,pz g.1),(13,.pure (encL 1 az1 e)),(14,pz (f:Int)),(15,pz g.2)],[(0,.box [.pure (encL 12 az7 c.joints),.pure (encL 1 (encL 1 az1) c.points),.pure (encL 4 azy c.tree),.pure (encL 1 az1 c.q)])],[],1⟩)
 (.exit 0) (fun (g:Int)=>⟨[(5,pz g)],[],[],0⟩)
 (fun g=>let h:=(g.2).toNat;.br (decide (g.2<(f:Int)))
 (.gh g.2 (e.length)<|
 .gh g.2 c.q.length<|
 .name 5006 ((i64.wrap ((c.q.getD h default)- (e.getD h default)))) fun i=>
 .gh g.2 c.joints.length<|
 .name 6012 ((i64.wrap (g.1+(i64.wrap (((c.joints.getD h default).Weight) * (max i (i64.wrap (0-i)))))))) fun j=>
 .nn (j,(i64.wrap (g.2+1))))
 (.oo g.1))
 (0,0) [] fun g=>
 .ret g
noncomputable def xz7 (c)(d):=
 mkD Tryz.func409 (xz8 c d) 0 [.pure (lz4 c),pz d] [] (fun r=>pz r) (fun _=>[])
noncomputable def zz7 (c:A0)(d:A0)(e:Int):T A2:=let f:=([e]:A0);let g:=c.length+f.length;.conv 7 (bzl 1 az1 f 3)<|
 .conv 8 (czq 1 az1 c f 3)<|
 .grd (g * 8≤140737488355328/\g≤maxLen)<|
 .ret ((c++f),d)
noncomputable def zz6 (c)(d)(e):=
 mkD Tryz.func497 (zz7 c d e) 4 [.ptr 0 0,.iface 3 (pz e)] [(0,.box [.vec 1,.func 371 [] [.ptr 2 0]]),(1,vecO 1 az1 c 3),(2,.box [.vec 3]),(3,vecO 1 az1 d 2)] (fun _=>.tup []) (fun r=>[(0,.box [.vec 4,.func 371 [] [.ptr 2 0]]),(1,.gone),(2,.box [.vec 3]),(3,vecO 1 az1 r.2 2),(4,vecO 1 az1 r.1 3)])
noncomputable def Cz4 (c:A0)(d:A0):T Ba:=
 .ret ((c.length:Int),c,d)
noncomputable def fzt (c)(d):=
 mkD Tryz.func377 (Cz4 c d) 4 [.ptr 0 0] [(0,.box [.vec 1,.func 371 [] [.ptr 2 0]]),(1,vecO 1 az1 c 3),(2,.box [.vec 3]),(3,vecO 1 az1 d 2)] (fun r=>pz r.1) (fun r=>[(0,.box [.vec 1,.func 371 [] [.ptr 2 0]]),(1,vecO 1 az1 r.2.1 3),(2,.box [.vec 3]),(3,vecO 1 az1 r.2.2 2)])
noncomputable def rzn (c:Int)(d:Int)(e:A0):T (Bool×A0):=
 .gg c e.length<|
 .gg d e.length<|
 .cc (lz2 (e.getD (c.toNat) default) (e.getD (d.toNat) default)) fun f=>
 .cc (dzw c d) fun g=>let h:=([f,g]:A0);
 .conv 1012 (bzl 1 az1 h 3)<|
 .cc (pzl h) fun i=>
 .ret ((decide (i>0)),e)
noncomputable def rzm (c)(d)(e):=
 mkD Tryz.func371 (rzn c d e) 2 [pz c,pz d,.ptr 0 0] [(0,.box [.vec 1]),(1,vecO 1 az1 e 2)] (fun r=>.pure (.bool r.1)) (fun r=>[(0,.box [.vec 1]),(1,vecO 1 az1 r.2 2)])
noncomputable def zz5 (c:A0)(d:A0)(e:Int)(f:Int):T (Bool×A0×A0):=
 .gg e c.length<|
 .gg f c.length<|
 .call (rzm (c.getD (e.toNat) default) (c.getD (f.toNat) default) d) [(0,2),(1,3)] fun g=>
 .ret (g.1,c,g.2)
noncomputable def jzy (c)(d)(e)(f):=
 mkD Tryz.func495 (zz5 c d e f) 4 [.ptr 0 0,pz e,pz f] [(0,.box [.vec 1,.func 371 [] [.ptr 2 0]]),(1,vecO 1 az1 c 3),(2,.box [.vec 3]),(3,vecO 1 az1 d 2)] (fun r=>.pure (.bool r.1)) (fun r=>[(0,.box [.vec 1,.func 371 [] [.ptr 2 0]]),(1,vecO 1 az1 r.2.1 3),(2,.box [.vec 3]),(3,vecO 1 az1 r.2.2 2)])
noncomputable def zz8 (c:A0)(d:A0)(e:Int)(f:Int):T A2:=let g:=e.toNat;let h:=f.toNat;let i:=c.getD h default;let j:=c.set g i;let k:=c.getD g default;.gg f c.length<|
 .gg e c.length<|
 .gh e c.length<|
 .conv 25 (bze 1 az1 c 3 g i)<|
 .gi (e) c.length<|
 .gh f (j.length)<|
 .conv 27 (bze 1 az1 j 3 h k)<|
 .gi (f) (j.length)<|
 .ret ((j.set h k),d)
noncomputable def jzz (c)(d)(e)(f):=
 mkD Tryz.func498 (zz8 c d e f) 4 [.ptr 0 0,pz e,pz f] [(0,.box [.vec 1,.func 371 [] [.ptr 2 0]]),(1,vecO 1 az1 c 3),(2,.box [.vec 3]),(3,vecO 1 az1 d 2)] (fun _=>.tup []) (fun r=>[(0,.box [.vec 1,.func 371 [] [.ptr 2 0]]),(1,vecO 1 az1 r.1 3),(2,.box [.vec 3]),(3,vecO 1 az1 r.2 2)])
noncomputable def szn (c:A0)(d:A0)(e:Int):T A2:=
 .loop (fun (f:Bb)=>⟨[(0,.iface 452 (.ptr 0 0)),(1,pz f.2.2)],[(0,.box [.vec 1,.func 371 [] [.ptr 2 0]]),(1,vecO 1 az1 f.1 3),(2,.box [.vec 3]),(3,vecO 1 az1 f.2.1 2)],[],4⟩)
 (.exit 0) (fun (f:A2)=>⟨[],[(0,.box [.vec 1,.func 371 [] [.ptr 2 0]]),(1,vecO 1 az1 f.1 3),(2,.box [.vec 3]),(3,vecO 1 az1 f.2 2)],[],4⟩)
 (fun f=>let g:=i64.wrap ((i64.wrap (f.2.2-1)).tdiv 2);.ok ((2:Int)≠0) (by decide)<|
 .cut 1 (fun (h:(A0×A0×Bool))=>⟨[(0,.iface 452 (.ptr 0 0)),(1,pz f.2.2),(4,pz g),(17,.pure (.bool h.2.2))],[(0,.box [.vec 1,.func 371 [] [.ptr 2 0]]),(1,vecO 1 az1 h.1 3),(2,.box [.vec 3]),(3,vecO 1 az1 h.2.1 2)],[],4⟩)
 (.br (g==f.2.2)
 (.oo (f.1,f.2.1,true))
 (.call (jzy f.1 f.2.1 f.2.2 g) [(0,0),(1,1),(2,2),(3,3)] fun h=>
 .oo (h.2.1,h.2.2,(!h.1)))) fun h=>
 .br h.2.2
 (.oo (h.1,h.2.1))
 (.call (jzz h.1 h.2.1 g f.2.2) [(0,0),(1,1),(2,2),(3,3)] fun i=>
 .nn (i.1,i.2,g)))
 (c,d,e) [] fun f=>
 .ret (f.1,f.2)
noncomputable def szm (c)(d)(e):=
 mkD Tryz.func447 (szn c d e) 4 [.iface 452 (.ptr 0 0),pz e] [(0,.box [.vec 1,.func 371 [] [.ptr 2 0]]),(1,vecO 1 az1 c 3),(2,.box [.vec 3]),(3,vecO 1 az1 d 2)] (fun _=>.tup []) (fun r=>[(0,.box [.vec 1,.func 371 [] [.ptr 2 0]]),(1,vecO 1 az1 r.1 3),(2,.box [.vec 3]),(3,vecO 1 az1 r.2 2)])
noncomputable def pzq (c:A0)(d:A0)(e:Int):T A2:=
 .call (zz6 c d e) [(0,0),(1,1),(2,2),(3,3)] fun f=>
 .call (fzt f.1 f.2) [(0,0),(1,132),(2,2),(3,3)] fun g=>
 .call (szm g.2.1 g.2.2 (i64.wrap (g.1-1))) [(0,0),(1,132),(2,2),(3,3)] fun h=>
 .ret (h.1,h.2)
noncomputable def pzp (c)(d)(e):=
 mkD Tryz.func410 (pzq c d e) 4 [.iface 452 (.ptr 0 0),.iface 3 (pz e)] [(0,.box [.vec 1,.func 371 [] [.ptr 2 0]]),(1,vecO 1 az1 c 3),(2,.box [.vec 3]),(3,vecO 1 az1 d 2)] (fun _=>.tup []) (fun r=>[(0,.box [.vec 4,.func 371 [] [.ptr 2 0]]),(1,.gone),(2,.box [.vec 3]),(3,vecO 1 az1 r.2 2),(4,vecO 1 az1 r.1 3)])
noncomputable def zza (c:A0)(d:A0)(e:Int):T A2:=
 .call (pzp c d e) [(0,0),(1,1),(2,2),(3,3)] fun f=>
 .ret (f.1,f.2)
noncomputable def zz9 (c)(d)(e):=
 mkD Tryz.func379 (zza c d e) 4 [.ptr 0 0,pz e] [(0,.box [.vec 1,.func 371 [] [.ptr 2 0]]),(1,vecO 1 az1 c 3),(2,.box [.vec 3]),(3,vecO 1 az1 d 2)] (fun _=>.tup []) (fun r=>[(0,.box [.vec 4,.func 371 [] [.ptr 2 0]]),(1,.gone),(2,.box [.vec 3]),(3,vecO 1 az1 r.2 2),(4,vecO 1 az1 r.1 3)])
noncomputable def pzs (c:A0)(d:A0)(e:Int)(f:Int):T (Bool×A0×A0):=
 .loop (fun (g:Bb)=>⟨[(0,.iface 452 (.ptr 0 0)),(1,pz e),(2,pz f),(7,pz g.2.2)],[(0,.box [.vec 1,.func 371 [] [.ptr 2 0]]),(1,vecO 1 az1 g.1 3),(2,.box [.vec 3]),(3,vecO 1 az1 g.2.1 2)],[],4⟩)
 (.exit 0) (fun (g:Bb)=>⟨[(1,pz e),(7,pz g.2.2)],[(0,.box [.vec 1,.func 371 [] [.ptr 2 0]]),(1,vecO 1 az1 g.1 3),(2,.box [.vec 3]),(3,vecO 1 az1 g.2.1 2)],[],4⟩)
 (fun g=>let h:=i64.wrap ((i64.wrap (2 * g.2.2))+1);let i:=i64.wrap (h+1);.cut 2 (fun (j:Bool)=>⟨[(0,.iface 452 (.ptr 0 0)),(1,pz e),(2,pz f),(7,pz g.2.2),(8,pz h),(21,.pure (.bool j))],[(0,.box [.vec 1,.func 371 [] [.ptr 2 0]]),(1,vecO 1 az1 g.1 3),(2,.box [.vec 3]),(3,vecO 1 az1 g.2.1 2)],[],4⟩)
 (.br (decide (h≥f))
 (.oo true)
 (.oo (decide (h<0)))) fun j=>
 .br j
 (.oo (g.1,g.2.1,g.2.2))
 (.cut 1 (fun (k:Bb)=>⟨[(0,.iface 452 (.ptr 0 0)),(1,pz e),(2,pz f),(7,pz g.2.2),(9,pz k.2.2)],[(0,.box [.vec 1,.func 371 [] [.ptr 2 0]]),(1,vecO 1 az1 k.1 3),(2,.box [.vec 3]),(3,vecO 1 az1 k.2.1 2)],[],4⟩)
 (.cut 1 (fun (k:(A0×A0×Bool))=>⟨[(0,.iface 452 (.ptr 0 0)),(1,pz e),(2,pz f),(7,pz g.2.2),(9,pz h),(10,pz i),(33,.pure (.bool k.2.2))],[(0,.box [.vec 1,.func 371 [] [.ptr 2 0]]),(1,vecO 1 az1 k.1 3),(2,.box [.vec 3]),(3,vecO 1 az1 k.2.1 2)],[],4⟩)
 (.br (decide (i<f))
 (.call (jzy g.1 g.2.1 i h) [(0,0),(1,1),(2,2),(3,3)] fun k=>
 .oo (k.2.1,k.2.2,k.1))
 (.oo (g.1,g.2.1,false))) fun k=>
 .br k.2.2
 (.oo (k.1,k.2.1,i))
 (.oo (k.1,k.2.1,h))) fun k=>
 .call (jzy k.1 k.2.1 k.2.2 g.2.2) [(0,0),(1,1),(2,2),(3,3)] fun m=>
 .br (!m.1)
 (.oo (m.2.1,m.2.2,g.2.2))
 (.call (jzz m.2.1 m.2.2 g.2.2 k.2.2) [(0,0),(1,1),(2,2),(3,3)] fun n=>
 .nn (n.1,n.2,k.2.2))))
 (c,d,e) [] fun g=>
 .ret ((decide (g.2.2>e)),g.1,g.2.1)
noncomputable def pzr (c)(d)(e)(f):=
 mkD Tryz.func448 (pzs c d e f) 4 [.iface 452 (.ptr 0 0),pz e,pz f] [(0,.box [.vec 1,.func 371 [] [.ptr 2 0]]),(1,vecO 1 az1 c 3),(2,.box [.vec 3]),(3,vecO 1 az1 d 2)] (fun r=>.pure (.bool r.1)) (fun r=>[(0,.box [.vec 1,.func 371 [] [.ptr 2 0]]),(1,vecO 1 az1 r.2.1 3),(2,.box [.vec 3]),(3,vecO 1 az1 r.2.2 2)])
noncomputable def Cz6 (c:A0)(d:A0):T Ba:=let e:=(c.length:Int);let f:=i64.wrap (e-1);.gg f c.length<|
 .conv 3006 (Oz0 1 az1 c 3 f)<|
 .grd (0≤f/\f≤e/\0≤f.toNat)<|
 .ret ((c.getD (f.toNat) default),(c.take (f.toNat)),d)
noncomputable def Cz5 (c)(d):=
 mkD Tryz.func496 (Cz6 c d) 4 [.ptr 0 0] [(0,.box [.vec 1,.func 371 [] [.ptr 2 0]]),(1,vecO 1 az1 c 3),(2,.box [.vec 3]),(3,vecO 1 az1 d 2)] (fun r=>.iface 3 (pz r.1)) (fun r=>[(0,.box [.vec 4,.func 371 [] [.ptr 2 0]]),(1,.gone),(2,.box [.vec 3]),(3,vecO 1 az1 r.2.2 2),(4,vecO 1 az1 r.2.1 3)])
noncomputable def rzg (c:A0)(d:A0):T Ba:=
 .call (fzt c d) [(0,0),(1,1),(2,2),(3,3)] fun e=>let f:=i64.wrap (e.1-1);
 .call (jzz e.2.1 e.2.2 0 f) [(0,0),(1,1),(2,2),(3,3)] fun g=>
 .call (pzr g.1 g.2 0 f) [(0,0),(1,1),(2,2),(3,3)] fun h=>
 .call (Cz5 h.2.1 h.2.2) [(0,0),(1,1),(2,2),(3,3)] fun i=>
 .ret (i.1,i.2.1,i.2.2)
noncomputable def rzf (c)(d):=
 mkD Tryz.func411 (rzg c d) 4 [.iface 452 (.ptr 0 0)] [(0,.box [.vec 1,.func 371 [] [.ptr 2 0]]),(1,vecO 1 az1 c 3),(2,.box [.vec 3]),(3,vecO 1 az1 d 2)] (fun r=>.iface 3 (pz r.1)) (fun r=>[(0,.box [.vec 4,.func 371 [] [.ptr 2 0]]),(1,.gone),(2,.box [.vec 3]),(3,vecO 1 az1 r.2.2 2),(4,vecO 1 az1 r.2.1 3)])
noncomputable def Cz7 (c:A0)(d:A0):T Ba:=
 .call (rzf c d) [(0,0),(1,1),(2,2),(3,3)] fun e=>
 .ret (e.1,e.2.1,e.2.2)
noncomputable def qze (c)(d):=
 mkD Tryz.func380 (Cz7 c d) 4 [.ptr 0 0] [(0,.box [.vec 1,.func 371 [] [.ptr 2 0]]),(1,vecO 1 az1 c 3),(2,.box [.vec 3]),(3,vecO 1 az1 d 2)] (fun r=>pz r.1) (fun r=>[(0,.box [.vec 4,.func 371 [] [.ptr 2 0]]),(1,.gone),(2,.box [.vec 3]),(3,vecO 1 az1 r.2.2 2),(4,vecO 1 az1 r.2.1 3)])
noncomputable def rzr (c:Int)(d:Int)(e:A0)(f:A0)(g:Int):T Bb:=
 .gh c e.length<|
 .conv 4 (bze 1 az1 e 2 (c.toNat) d)<|
 .gi (c) e.length<|
 .call (zz9 f (e.set (c.toNat) d) c) [(0,3),(1,4),(2,0),(3,1)] fun h=>
 .call (fzt h.1 h.2) [(0,3),(1,454),(2,0),(3,1)] fun i=>
 .br (decide (i.1>g))
 (.call (qze i.2.1 i.2.2) [(0,3),(1,454),(2,0),(3,1)] fun j=>
 .ret (j.2.2,j.2.1,g))
 (.ret (i.2.2,i.2.1,g))
noncomputable def rzq (c)(d)(e)(f)(g):=
 mkD Tryz.func378 (rzr c d e f g) 6 [pz c,pz d,.ptr 0 0,.ptr 2 0,.ptr 5 0] [(0,.box [.vec 1]),(1,vecO 1 az1 e 2),(2,.box [.ptr 3 0]),(3,.box [.vec 4,.func 371 [] [.ptr 0 0]]),(4,vecO 1 az1 f 3),(5,.box [pz g])] (fun _=>.tup []) (fun r=>[(0,.box [.vec 1]),(1,vecO 1 az1 r.1 2),(2,.box [.ptr 3 0]),(3,.box [.vec 6,.func 371 [] [.ptr 0 0]]),(4,.gone),(5,.box [pz r.2.2]),(6,vecO 1 az1 r.2.1 3)])
noncomputable def rzp (c:A0)(d:A0)(e:Int):T (Int×Bool×A0×A0×Int):=
 .call (fzt c d) [(0,1),(1,2),(2,3),(3,4)] fun f=>let g:=f.2.1.getD ((0:Int).toNat) default;
 .br (decide (f.1<e))
 (.ret (0,false,f.2.1,f.2.2,e))
 (.gg (0:Int) f.2.1.length<|
 .gg g f.2.2.length<|
 .ret ((f.2.2.getD (g.toNat) default),true,f.2.1,f.2.2,e))
noncomputable def rzo (c)(d)(e):=
 mkD Tryz.func376 (rzp c d e) 6 [.ptr 0 0,.ptr 5 0,.ptr 3 0] [(0,.box [.ptr 1 0]),(1,.box [.vec 2,.func 371 [] [.ptr 3 0]]),(2,vecO 1 az1 c 3),(3,.box [.vec 4]),(4,vecO 1 az1 d 2),(5,.box [pz e])] (fun r=>.tup [pz r.1,.pure (.bool r.2.1)]) (fun r=>[(0,.box [.ptr 1 0]),(1,.box [.vec 2,.func 371 [] [.ptr 3 0]]),(2,vecO 1 az1 r.2.2.1 3),(3,.box [.vec 4]),(4,vecO 1 az1 r.2.2.2.1 2),(5,.box [pz r.2.2.2.2])])
abbrev kz0:=RecS Tryz.prog 408 10 (Int×A4×A1×Ai×A0×A0×A0×Int) Cb (fun a=>[pz a.1,.ptr 0 0,.ptr 1 0,.ptr 8 0,.ptr 9 0]) (fun a=>[(0,.box [.pure (encL 12 az7 a.2.1),.pure (encL 1 (encL 1 az1) a.2.2.1),.pure (encL 4 azy a.2.2.2.1),.pure (encL 1 az1 a.2.2.2.2.1)]),(1,.box [.func 378 [] [.ptr 2 0,.ptr 4 0,.ptr 7 0]]),(2,.box [.vec 3]),(3,vecO 1 az1 a.2.2.2.2.2.1 2),(4,.box [.ptr 5 0]),(5,.box [.vec 6,.func 371 [] [.ptr 2 0]]),(6,vecO 1 az1 a.2.2.2.2.2.2.1 3),(7,.box [pz a.2.2.2.2.2.2.2]),(8,.box [.func 408 [] [.ptr 0 0,.ptr 1 0,.ptr 8 0,.ptr 9 0]]),(9,.box [.func 376 [] [.ptr 4 0,.ptr 7 0,.ptr 2 0]])]) (fun _ _=>.tup []) (fun _ r=>[(0,.box [.pure (encL 12 az7 r.1),.pure (encL 1 (encL 1 az1) r.2.1),.pure (encL 4 azy r.2.2.1),.pure (encL 1 az1 r.2.2.2.1)]),(1,.box [.func 378 [] [.ptr 2 0,.ptr 4 0,.ptr 7 0]]),(2,.box [.vec 3]),(3,vecO 1 az1 r.2.2.2.2.1 2),(4,.box [.ptr 5 0]),(5,.box [.vec 10,.func 371 [] [.ptr 2 0]]),(6,.gone),(7,.box [pz r.2.2.2.2.2.2]),(8,.box [.func 408 [] [.ptr 0 0,.ptr 1 0,.ptr 8 0,.ptr 9 0]]),(9,.box [.func 376 [] [.ptr 4 0,.ptr 7 0,.ptr 2 0]]),(10,vecO 1 az1 r.2.2.2.2.2.1 3)])
noncomputable def zzm (rec:kz0)(c:Int)(d:A4)(e:A1)(f:Ai)(g:A0)(h:A0)(i:A0)(j:Int):T Cb:=let k:=f.getD (c.toNat) default;let m:=k.Axis;let n:=k.Point;let s:=m.toNat;let t:=e.getD (n.toNat) default;.br (c==(-1))
 (.ret (d,e,f,g,h,i,j))
 (.gh c f.length<|
 .cc (xz7 (⟨d,e,f,g⟩:czw) n) fun w=>
 .call (rzq n w h i j) [(0,2),(1,3),(2,4),(3,5),(4,6),(5,7)] fun y=>
 .gh m g.length<|
 .gh n e.length<|
 .gh m (t.length)<|
 .name 3015 ((t.getD s default)) fun z=>let aa:=i64.wrap ((g.getD s default)-z);
 .cut 1 (fun (ab:Ay)=>⟨[(1,.ptr 0 0),(3,.ptr 8 0),(4,.ptr 9 0),(6,.ptr 11 0),(7,pz aa),(8,pz ab.1),(9,pz ab.2)],[(0,.box [.pure (encL 12 az7 d),.pure (encL 1 (encL 1 az1) e),.pure (encL 4 azy f),.pure (encL 1 az1 g)]),(1,.box [.func 378 [] [.ptr 2 0,.ptr 4 0,.ptr 7 0]]),(2,.box [.vec 3]),(3,vecO 1 az1 y.1 2),(4,.box [.ptr 5 0]),(5,.box [.vec 10,.func 371 [] [.ptr 2 0]]),(6,.gone),(7,.box [pz y.2.2]),(8,.box [.func 408 [] [.ptr 0 0,.ptr 1 0,.ptr 8 0,.ptr 9 0]]),(9,.box [.func 376 [] [.ptr 4 0,.ptr 7 0,.ptr 2 0]]),(10,vecO 1 az1 y.2.1 3),(11,.box [pz n,pz m,pz (k.Low),pz (k.High)])],[],12⟩)
 (.br (decide (aa>0))
 (.oo (k.High,k.Low))
 (.oo (k.Low,k.High))) fun ab=>
 .call (rec.C (ab.1,d,e,f,g,y.1,y.2.1,y.2.2)) [(0,0),(1,1),(2,2),(3,3),(4,4),(5,5),(6,10),(7,7),(8,8),(9,9)] fun ac=>
 .gh m ac.1.length<|
 .name 8010 ((max aa (i64.wrap (0-aa)))) fun ad=>
 .call (rzo ac.2.2.2.2.2.1 ac.2.2.2.2.1 ac.2.2.2.2.2.2) [(0,4),(1,5),(2,140),(3,2),(4,3),(5,7)] fun ae=>
 .cut 0 (fun (af:Bool)=>⟨[(3,.ptr 8 0),(9,pz ab.2),(79,.pure (.bool af))],[(0,.box [.pure (encL 12 az7 ac.1),.pure (encL 1 (encL 1 az1) ac.2.1),.pure (encL 4 azy ac.2.2.1),.pure (encL 1 az1 ac.2.2.2.1)]),(1,.box [.func 378 [] [.ptr 2 0,.ptr 4 0,.ptr 7 0]]),(2,.box [.vec 3]),(3,vecO 1 az1 ae.2.2.2.1 2),(4,.box [.ptr 5 0]),(5,.box [.vec 10,.func 371 [] [.ptr 2 0]]),(6,.gone),(7,.box [pz ae.2.2.2.2]),(8,.box [.func 408 [] [.ptr 0 0,.ptr 1 0,.ptr 8 0,.ptr 9 0]]),(9,.box [.func 376 [] [.ptr 4 0,.ptr 7 0,.ptr 2 0]]),(10,vecO 1 az1 ae.2.2.1 3)],[],11⟩)
 (.br (!ae.2.1)
 (.oo true)
 (.oo (decide ((i64.wrap (((ac.1.getD s default).Weight) * ad))≤ae.1)))) fun af=>
 .br af
 (.call (rec.C (ab.2,ac.1,ac.2.1,ac.2.2.1,ac.2.2.2.1,ae.2.2.2.1,ae.2.2.1,ae.2.2.2.2)) [(0,0),(1,1),(2,2),(3,3),(4,4),(5,5),(6,10),(7,7),(8,8),(9,9)] fun ag=>
 .ret (ag.1,ag.2.1,ag.2.2.1,ag.2.2.2.1,ag.2.2.2.2.1,ag.2.2.2.2.2.1,ag.2.2.2.2.2.2))
 (.ret (ac.1,ac.2.1,ac.2.2.1,ac.2.2.2.1,ae.2.2.2.1,ae.2.2.1,ae.2.2.2.2)))
noncomputable def zzl:kz0->kz0:=RecS.next [] hd Tryz.func408 (by kernel_rfl) (fun rec a=>zzm rec a.1 a.2.1 a.2.2.1 a.2.2.2.1 a.2.2.2.2.1 a.2.2.2.2.2.1 a.2.2.2.2.2.2.1 a.2.2.2.2.2.2.2) (fun rec a=>by kernel_rfl)
noncomputable def zzk (a0:Int)(a1:A4)(a2:A1)(a3:Ai)(a4:A0)(a5:A0)(a6:A0)(a7:Int):CallS Cb:=(RecS.fix zzl NN).C (a0,a1,a2,a3,a4,a5,a6,a7)
noncomputable def Fz5 (c:czw)(d:A0)(e:A0)(f:Int):T Bb:=
 .br (decide ((c.tree.length:Int)>0))
 (.call (zzk 0 c.joints c.points c.tree c.q e d f) [(0,6),(1,134),(2,3),(3,4),(4,0),(5,1),(6,2),(7,5),(8,198),(9,70)] fun g=>
 .ret (g.2.2.2.2.2.1,g.2.2.2.2.1,g.2.2.2.2.2.2))
 (.ret (d,e,f))
noncomputable def Fz4 (c)(d)(e)(f):=
 mkD Tryz.func375 (Fz5 c d e f) 6 [.pure (lz4 c),.func 376 [] [.ptr 0 0,.ptr 5 0,.ptr 3 0],.func 378 [] [.ptr 3 0,.ptr 0 0,.ptr 5 0]] [(0,.box [.ptr 1 0]),(1,.box [.vec 2,.func 371 [] [.ptr 3 0]]),(2,vecO 1 az1 d 3),(3,.box [.vec 4]),(4,vecO 1 az1 e 2),(5,.box [pz f])] (fun _=>.tup []) (fun r=>[(0,.box [.ptr 1 0]),(1,.box [.vec 6,.func 371 [] [.ptr 3 0]]),(2,.gone),(3,.box [.vec 4]),(4,vecO 1 az1 r.2.1 2),(5,.box [pz r.2.2]),(6,vecO 1 az1 r.1 3)])
noncomputable def uzh (c:bz1)(d:A1)(e:Ai)(f:A0)(g:Int):T A0:=let h:=(d.length:Int);.cut 3 (fun (i:Bool)=>⟨[(1,.pure (encL 1 (encL 1 az1) d)),(2,.pure (encL 4 azy e)),(3,.pure (encL 1 az1 f)),(5,.ptr 0 0),(9,.ptr 1 0),(10,.ptr 2 0),(24,.pure (.bool i))],[(0,.box [.pure (encL 12 az7 c.Joints),.pure (encL 5 azc c.Masses)]),(1,.box [pz g]),(2,.box [.vec 3]),(3,.nilv)],[.func 369 [] [.ptr 2 0]],4⟩)
 (.br (decide (g<1))
 (.oo true)
 (.cc (Bzx (⟨c.Joints,c.Masses⟩:bz1) d e f) fun i=>
 .oo (!i))) fun i=>
 .br i
 (.ret nl)
 (.conv 4002 (rzh 1 az1 2 h.toNat 0)<|
 .grd (0≤h/\h≤h/\h≤9223372036854775807/\h * 8≤140737488355328)<|
 .call (Fz4 (⟨c.Joints,d,e,f⟩:czw) nl (List.replicate h.toNat (0:Int)) g) [(0,516),(1,452),(2,388),(3,196),(4,132),(5,1)] fun j=>
 .call (fzt j.1 j.2.1) [(0,452),(1,1156),(2,196),(3,132)] fun k=>let m:=List.replicate (k.1).toNat (0:Int);
 .conv 7002 (rzh 1 az1 3 (k.1).toNat 0)<|
 .grd (0≤k.1/\k.1≤k.1/\k.1≤9223372036854775807/\k.1 * 8≤140737488355328)<|
 .loop (fun (n:(A0×A0×A0×Int))=>⟨[(10,.ptr 0 0),(12,.ptr 2 0),(13,pz n.2.2.2)],[(0,.box [.vec 1]),(1,vecO 1 az1 n.1 3),(2,.box [.ptr 3 0]),(3,.box [.vec 4,.func 371 [] [.ptr 5 0]]),(4,vecO 1 az1 n.2.1 3),(5,.box [.vec 6]),(6,vecO 1 az1 n.2.2.1 2)],[.func 369 [] [.ptr 0 0]],7⟩)
 (.exit 0) (fun (n:A0)=>⟨[(10,.ptr 0 0)],[(0,.box [.vec 1]),(1,vecO 1 az1 n 3)],[.func 369 [] [.ptr 0 0]],2⟩)
 (fun n=>let s:=n.2.2.2;.br (decide (n.2.2.2≥0))
 (.call (qze n.2.1 n.2.2.1) [(0,3),(1,4),(2,5),(3,6)] fun t=>
 .gh n.2.2.2 n.1.length<|
 .conv 11005 (bze 1 az1 n.1 3 (s.toNat) t.1)<|
 .gi s n.1.length<|
 .nn ((n.1.set (s.toNat) t.1),t.2.1,t.2.2,(i64.wrap (n.2.2.2-1))))
 (.oo n.1))
 (m,k.2.1,k.2.2,(i64.wrap ((m.length:Int)-1))) [] fun n=>
 .ret n)
noncomputable def uzg (c)(d)(e)(f)(g):=
 mkC [⟨369,Qzu⟩] hd Tryz.func319 (by kernel_rfl) (uzh c d e f g) 0 [.pure (dz2 c),.pure (encL 1 (encL 1 az1) d),.pure (encL 4 azy e),.pure (encL 1 az1 f),pz g] [] (fun r=>.pure (encL 1 az1 r)) (fun _=>[]) (by kernel_rfl)
noncomputable def nzk (c:Int)(d:Int)(e:Int)(f:Int):T C4:=
 .unroll 3<|
 .known true<|
 .gh (0:Int) 2<|
 .known false<|
 .gh (0:Int) 2<|
 .cc (dzw c e) fun g=>
 .br (g !=0)
 (.ret (g,c,d,e,f))
 (.lit 10000 (1)<|
 .known true<|
 .gh (1:Int) 2<|
 .known false<|
 .gh (1:Int) 2<|
 .cc (dzw d f) fun h=>
 .br (h !=0)
 (.ret (h,c,d,e,f))
 (.lit 10000 (2)<|
 .known false<|
 .known false<|
 .ret (0,c,d,e,f)))
noncomputable def nzj (c)(d)(e)(f):=
 mkD Tryz.func322 (nzk c d e f) 2 [.bsl 0 2,.bsl 1 2] [(0,.box [pz c,pz d]),(1,.box [pz e,pz f])] (fun r=>pz r.1) (fun r=>[(0,.box [pz r.2.1,pz r.2.2.1]),(1,.box [pz r.2.2.2.1,pz r.2.2.2.2])])
noncomputable def qzj (c:Ay)(d:Ay):T Int:=
 .call (nzj c.1 c.2 d.1 d.2) [(0,0),(1,64)] fun e=>
 .ret e.1
noncomputable def bz4 (c)(d):=
 mkD Tryz.func321 (qzj c d) 0 [.pure (az4 c),.pure (az4 d)] [] (fun r=>pz r) (fun _=>[])
noncomputable def hz1 (c:Az)(d:Nat)(e:Nat)(f:Int)(g:Int):T Az:=
 .loop (fun (h:B0)=>⟨[(0,.view 0 2 d e),(1,pz f),(2,pz g),(3,.func 321 [] []),(8,pz h.2)],[(0,vecO 2 az4 h.1 367)],[],1⟩)
 (.exit 0) (fun (h:Az)=>⟨[],[(0,vecO 2 az4 h 367)],[],1⟩)
 (fun h=>.br (decide (h.2<g))
 (.loop (fun (i:B0)=>⟨[(0,.view 0 2 d e),(1,pz f),(2,pz g),(3,.func 321 [] []),(8,pz h.2),(9,pz i.2)],[(0,vecO 2 az4 i.1 367)],[],1⟩)
 (.exit 2) (fun (i:Az)=>⟨[(0,.view 0 2 d e),(1,pz f),(2,pz g),(3,.func 321 [] []),(8,pz h.2)],[(0,vecO 2 az4 i 367)],[],1⟩)
 (fun i=>let j:=d+((i.2).toNat);let k:=i64.wrap (i.2-1);let m:=d+(k.toNat);let n:=i.1.getD j default;let s:=i.1.getD m default;let t:=i.1.set j s;.cut 1 (fun (w:Bool)=>⟨[(0,.view 0 2 d e),(1,pz f),(2,pz g),(3,.func 321 [] []),(8,pz h.2),(9,pz i.2),(34,.pure (.bool w))],[(0,vecO 2 az4 i.1 367)],[],1⟩)
 (.br (decide (i.2>f))
 (.gh i.2 e<|
 .grd (j<i.1.length)<|
 .gh k e<|
 .grd (m<i.1.length)<|
 .call (bz4 n s) [] fun w=>
 .oo (decide (w<0)))
 (.oo false)) fun w=>
 .br w
 (.gh k e<|
 .grd (m<i.1.length)<|
 .gh i.2 e<|
 .grd (j<i.1.length)<|
 .gh i.2 e<|
 .conv 6015 (bze 2 az4 i.1 367 j s)<|
 .grd (j<i.1.length/\0≤j)<|
 .gh k e<|
 .conv 6017 (bze 2 az4 t 367 m n)<|
 .grd (m<t.length/\0≤m)<|
 .nn ((t.set m n),k))
 (.oo i.1))
 (h.1,h.2) [] fun i=>
 .nn (i,(i64.wrap (h.2+1))))
 (.oo h.1))
 (c,(i64.wrap (f+1))) [] fun h=>
 .ret h
noncomputable def gzz (c)(d)(e)(f)(g):=
 mkD Tryz.func412 (hz1 c d e f g) 1 [.view 0 2 d e,pz f,pz g,.func 321 [] []] [(0,vecO 2 az4 c 367)] (fun _=>.tup []) (fun r=>[(0,vecO 2 az4 r 367)])
end Go.Abs
