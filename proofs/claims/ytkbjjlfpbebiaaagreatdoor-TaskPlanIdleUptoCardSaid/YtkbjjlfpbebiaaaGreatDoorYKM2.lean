/-
  M2 (a part of a claim: our own text).
-/
import Derived.Test.YtkbjjlfpbebiaaaGreatDoorYKM1
namespace Go.Abs
open IntKind (i64)
open Go.Proofs
noncomputable def Dz9 (c:azb):T Aa:=let d:=(c.Hands.length:Int);let e:=(c.Places.length:Int);let f:Nat×Res:=(0,.box [.pure (encL 12 az7 c.Scene.Robot.Joints),.pure (encL 5 azc c.Scene.Robot.Masses),.pure (encL 3 az8 c.Scene.Shapes),.pure (encL 2 aze c.Scene.Skips),.pure (encL 2 azh c.Objects),.pure (encL 3 az2 c.Places),.pure (encL 4 azv c.Hands),.pure (encL 3 azu c.Grips),pz c.Slack]);.loop (fun (g:Ab)=>⟨[(1,.ptr 0 0),(3,.vec 1),(9,pz d),(10,pz g.2)],[f,(1,vecO 3 azn g.1 40)],[],2⟩)
 (.exit 0) (fun (g:Aa)=>⟨[(3,.vec 0)],[(0,vecO 3 azn g 40)],[],1⟩)
 (fun g=>.br (decide (g.2<d))
 (.loop (fun (h:(Aa×Int×Int))=>⟨[(1,.ptr 0 0),(3,.vec 1),(4,.ptr 2 0),(9,pz d),(10,pz g.2),(15,pz e),(16,pz h.2.2)],[f,(1,vecO 3 azn h.1 40),(2,.box [pz h.2.1])],[],3⟩)
 (.exit 2) (fun (h:Aa)=>⟨[(1,.ptr 0 0),(3,.vec 1),(9,pz d),(10,pz g.2)],[f,(1,vecO 3 azn h 40)],[],2⟩)
 (fun h=>.br (decide (h.2.2<e))
 (.cut 0 (fun (i:Ab)=>⟨[(1,.ptr 0 0),(3,.vec 1),(4,.ptr 2 0),(9,pz d),(10,pz g.2),(15,pz e),(16,pz h.2.2)],[f,(1,vecO 3 azn i.1 40),(2,.box [pz i.2])],[],3⟩)
 (.call (fzu c.Grips h.2.1 h.2.2) [(0,2),(1,131)] fun i=>let j:=([(⟨0,i.2.1,i.2.2⟩:azi)]:Aa);let k:=h.1.length+j.length;
 .br i.1
 (.conv 10004 (bzl 3 azn j 40)<|
 .conv 10005 (czq 3 azn h.1 j 40)<|
 .grd (k * 24≤140737488355328/\k≤maxLen)<|
 .oo ((h.1++j),i.2.1))
 (.oo (h.1,i.2.1))) fun i=>
 .nn (i.1,i.2,(i64.wrap (h.2.2+1))))
 (.oo h.1))
 (g.1,g.2,0) [] fun h=>
 .nn (h,(i64.wrap (g.2+1))))
 (.oo g.1))
 (nl,0) [] fun g=>
 .ret g
noncomputable def qzv (c):=
 mkD Tryz.func70 (Dz9 c) 0 [.pure (bzm c)] [] (fun r=>.pure (encL 3 azn r)) (fun _=>[])
noncomputable def Dz8 (c:azb)(d:Ac):T B6:=let e:=encL 4 pzv d;let f:=(d.length:Int);let g:Nat×Res:=(0,.box [.pure (encL 12 az7 c.Scene.Robot.Joints),.pure (encL 5 azc c.Scene.Robot.Masses),.pure (encL 3 az8 c.Scene.Shapes),.pure (encL 2 aze c.Scene.Skips),.pure (encL 2 azh c.Objects),.pure (encL 3 az2 c.Places),.pure (encL 4 azv c.Hands),.pure (encL 3 azu c.Grips),pz c.Slack]);.loop (fun (h:(B6×Int))=>⟨[(2,.ptr 0 0),(5,.map 1),(9,.pure e),(10,pz f),(11,pz h.2)],[g,(1,hz9 [.int .i64 0,.int .i64 0,.int .i64 0,.int .i64 0,.int .i64 0,.int .i64 0,.int .i64 0,.int .i64 0,.int .i64 0] bzk h.1)],[],2⟩)
 (.exit 0) (fun (h:B6)=>⟨[(5,.map 0)],[(0,hz9 [.int .i64 0,.int .i64 0,.int .i64 0,.int .i64 0,.int .i64 0,.int .i64 0,.int .i64 0,.int .i64 0,.int .i64 0] bzk h)],[],1⟩)
 (fun h=>let i:=d.getD ((h.2).toNat) default;.br (decide (h.2<f))
 (.cut 0 (fun (j:B6)=>⟨[(2,.ptr 0 0),(5,.map 1),(9,.pure e),(10,pz f),(11,pz h.2)],[g,(1,hz9 [.int .i64 0,.int .i64 0,.int .i64 0,.int .i64 0,.int .i64 0,.int .i64 0,.int .i64 0,.int .i64 0,.int .i64 0] bzk j)],[],2⟩)
 (.gh h.2 d.length<|
 .br ((i.Mode.Where.length:Int)==(c.Objects.length:Int))
 (.cc (dzz (i.Mode)) fun j=>let k:=(⟨j,i.Action⟩:dzv);
 .conv 6007 (Nzz [.int .i64 0,.int .i64 0,.int .i64 0,.int .i64 0,.int .i64 0,.int .i64 0,.int .i64 0,.int .i64 0,.int .i64 0] bzk h.1 k true)<|
 .oo ((k,true)::h.1))
 (.oo h.1)) fun j=>
 .nn (j,(i64.wrap (h.2+1))))
 (.oo h.1))
 ((nl:List (dzv×Bool)),0) [] fun h=>
 .ret h
noncomputable def Dz7 (c)(d):=
 mkD Tryz.func71 (Dz8 c d) 0 [.pure (bzm c),.pure (encL 4 pzv d)] [] (fun _=>.map 0) (fun r=>[(0,hz9 [.int .i64 0,.int .i64 0,.int .i64 0,.int .i64 0,.int .i64 0,.int .i64 0,.int .i64 0,.int .i64 0,.int .i64 0] bzk r)])
noncomputable def Hzh (c:C6)(d:Int):T Int:=
 .loop (fun (e:Int)=>⟨[(1,pz d),(7,.pure (bzb c)),(8,pz e)],[],[],0⟩)
 (.exit 0) (fun (_:U0)=>⟨[],[],[],0⟩)
 (fun e=>.br (decide (e<6))
 (.gh e 6<|
 .br ((([c.1,c.2.1,c.2.2.1,c.2.2.2.1,c.2.2.2.2.1,c.2.2.2.2.2]:List Int).getD e.toNat 0)==d)
 (.ff e)
 (.nn (i64.wrap (e+1))))
 (.oo .u))
 0 [] fun _=>
 .ret (-1)
noncomputable def hzu (c)(d):=
 mkD Tryz.func87 (Hzh c d) 0 [.pure (bzb c),pz d] [] (fun r=>pz r) (fun _=>[])
set_option maxHeartbeats 8000000 in
set_option maxRecDepth 20000 in
noncomputable def Dz6 (c:Aa)(d:C6):T Aa:=let e:=encL 3 azn c;let f:=(c.length:Int);let g:Nat×Res:=(0,.box [pz d.1,pz d.2.1,pz d.2.2.1,pz d.2.2.2.1,pz d.2.2.2.2.1,pz d.2.2.2.2.2]);.loop (fun (h:Ab)=>⟨[(0,.pure e),(3,.ptr 0 0),(5,.vec 1),(10,.pure e),(11,pz f),(12,pz h.2)],[g,(1,vecO 3 azn h.1 40)],[],2⟩)
 (.exit 0) (fun (h:Aa)=>⟨[(0,.pure e),(3,.ptr 0 0),(5,.vec 1)],[g,(1,vecO 3 azn h 40)],[],2⟩)
 (fun h=>let i:=c.getD ((h.2).toNat) default;let j:=([(⟨1,i.Hand,i.Place⟩:azi)]:Aa);let k:=h.1.length+j.length;.br (decide (h.2<f))
 (.cut 0 (fun (m:Aa)=>⟨[(0,.pure e),(3,.ptr 0 0),(5,.vec 1),(10,.pure e),(11,pz f),(12,pz h.2)],[g,(1,vecO 3 azn m 40)],[],2⟩)
 (.gh h.2 c.length<|
 .cut 0 (fun (m:Bool)=>⟨[(0,.pure e),(3,.ptr 0 0),(5,.vec 1),(7,.ptr 2 0),(10,.pure e),(11,pz f),(12,pz h.2),(28,.pure (.bool m))],[g,(1,vecO 3 azn h.1 40),(2,.box [pz (i.Kind),pz (i.Hand),pz (i.Place)])],[],3⟩)
 (.call (hzu (d.1,d.2.1,d.2.2.1,d.2.2.2.1,d.2.2.2.2.1,d.2.2.2.2.2) (i64.wrap ((-1)- (i.Hand)))) [] fun m=>
 .br (decide (m<0))
 (.cc (hzu (d.1,d.2.1,d.2.2.1,d.2.2.2.1,d.2.2.2.2.1,d.2.2.2.2.2) (i.Place)) fun n=>
 .oo (decide (n≥0)))
 (.oo false)) fun m=>
 .br m
 (.conv 7002 (bzl 3 azn j 40)<|
 .conv 7003 (czq 3 azn h.1 j 40)<|
 .grd (k * 24≤140737488355328/\k≤maxLen)<|
 .oo (h.1++j))
 (.oo h.1)) fun m=>
 .nn (m,(i64.wrap (h.2+1))))
 (.oo h.1))
 (nl,0) [] fun h=>
 .loop (fun (i:Ab)=>⟨[(3,.ptr 0 0),(5,.vec 1),(35,.pure e),(36,pz f),(37,pz i.2)],[g,(1,vecO 3 azn i.1 40)],[],2⟩)
 (.exit 2) (fun (i:Aa)=>⟨[(5,.vec 0)],[(0,vecO 3 azn i 40)],[],1⟩)
 (fun i=>let j:=c.getD ((i.2).toNat) default;let k:=([(⟨2,j.Hand,j.Place⟩:azi)]:Aa);let m:=i.1.length+k.length;.br (decide (i.2<f))
 (.cut 0 (fun (n:Aa)=>⟨[(3,.ptr 0 0),(5,.vec 1),(35,.pure e),(36,pz f),(37,pz i.2)],[g,(1,vecO 3 azn n 40)],[],2⟩)
 (.gh i.2 c.length<|
 .cut 0 (fun (n:Bool)=>⟨[(3,.ptr 0 0),(5,.vec 1),(9,.ptr 2 0),(35,.pure e),(36,pz f),(37,pz i.2),(53,.pure (.bool n))],[g,(1,vecO 3 azn i.1 40),(2,.box [pz (j.Kind),pz (j.Hand),pz (j.Place)])],[],3⟩)
 (.call (hzu (d.1,d.2.1,d.2.2.1,d.2.2.2.1,d.2.2.2.2.1,d.2.2.2.2.2) (i64.wrap ((-1)- (j.Hand)))) [] fun n=>
 .br (decide (n≥0))
 (.cc (hzu (d.1,d.2.1,d.2.2.1,d.2.2.2.1,d.2.2.2.2.1,d.2.2.2.2.2) (j.Place)) fun s=>
 .oo (decide (s<0)))
 (.oo false)) fun n=>
 .br n
 (.conv 14002 (bzl 3 azn k 40)<|
 .conv 14003 (czq 3 azn i.1 k 40)<|
 .grd (m * 24≤140737488355328/\m≤maxLen)<|
 .oo (i.1++k))
 (.oo i.1)) fun n=>
 .nn (n,(i64.wrap (i.2+1))))
 (.oo i.1))
 (h,0) [] fun i=>
 .ret i
noncomputable def qzt (c)(d):=
 mkD Tryz.func72 (Dz6 c d) 0 [.pure (encL 3 azn c),.pure (bzb d)] [] (fun r=>.pure (encL 3 azn r)) (fun _=>[])
noncomputable def Kzd (c:C6)(d:azi):T C6:=let e:=i64.wrap ((-1)-d.Hand);.cut 2 (fun (f:Ay)=>⟨[(2,.ptr 0 0),(4,.ptr 1 0),(5,pz f.1),(6,pz f.2)],[(0,.box [pz c.1,pz c.2.1,pz c.2.2.1,pz c.2.2.2.1,pz c.2.2.2.2.1,pz c.2.2.2.2.2]),(1,.box [pz 0,pz 0,pz 0,pz 0,pz 0,pz 0])],[],2⟩)
 (.br (d.Kind==2)
 (.oo (e,d.Place))
 (.oo (d.Place,e))) fun f=>
 .cut 0 (fun (g:C6)=>⟨[(2,.ptr 0 0),(4,.ptr 1 0)],[(0,.box [pz g.1,pz g.2.1,pz g.2.2.1,pz g.2.2.2.1,pz g.2.2.2.2.1,pz g.2.2.2.2.2]),(1,.box [pz 0,pz 0,pz 0,pz 0,pz 0,pz 0])],[],2⟩)
 (.cc (hzu c f.1) fun g=>
 .cas 4002 g 0
 (.ix 0 6 rfl<|
 .oo (f.2,c.2.1,c.2.2.1,c.2.2.2.1,c.2.2.2.2.1,c.2.2.2.2.2))
 (.cas 4002 g 1
 (.ix 1 6 rfl<|
 .oo (c.1,f.2,c.2.2.1,c.2.2.2.1,c.2.2.2.2.1,c.2.2.2.2.2))
 (.cas 4002 g 2
 (.ix 2 6 rfl<|
 .oo (c.1,c.2.1,f.2,c.2.2.2.1,c.2.2.2.2.1,c.2.2.2.2.2))
 (.cas 4002 g 3
 (.ix 3 6 rfl<|
 .oo (c.1,c.2.1,c.2.2.1,f.2,c.2.2.2.2.1,c.2.2.2.2.2))
 (.cas 4002 g 4
 (.ix 4 6 rfl<|
 .oo (c.1,c.2.1,c.2.2.1,c.2.2.2.1,f.2,c.2.2.2.2.2))
 (.cas 4002 g 5
 (.ix 5 6 rfl<|
 .oo (c.1,c.2.1,c.2.2.1,c.2.2.2.1,c.2.2.2.2.1,f.2))
 (.stop))))))) fun g=>
 .ret (g.1,g.2.1,g.2.2.1,g.2.2.2.1,g.2.2.2.2.1,g.2.2.2.2.2)
noncomputable def yz8 (c)(d):=
 mkD Tryz.func48 (Kzd c d) 0 [.pure (bzb c),.pure (azn d)] [] (fun r=>.pure (bzb r)) (fun _=>[])
noncomputable def Nzo (a0:C9)(a1:C6)(a2:Int):T Aa:=
 .conv 1001 (rzh 3 azn 40 a2.toNat (⟨0,0,0⟩:azi))<|
 .grd (0≤a2/\a2≤a2/\a2≤9223372036854775807/\a2 * 24≤140737488355328)<|
 .loop (fun (x5:(Int×Int×Int×Int×Int×Int×Aa×Int))=>⟨[(0,.map 0),(4,.ptr 1 0),(7,.vec 2),(8,pz x5.2.2.2.2.2.2.2)],[(0,mapG [.int .i64 0,.int .i64 0,.int .i64 0,.int .i64 0,.int .i64 0,.int .i64 0] azj bzg a0),(1,.box [pz x5.1,pz x5.2.1,pz x5.2.2.1,pz x5.2.2.2.1,pz x5.2.2.2.2.1,pz x5.2.2.2.2.2.1]),(2,vecO 3 azn x5.2.2.2.2.2.2.1 40)],[],3⟩)
 (.exit 0) (fun (y6:Aa)=>⟨[(7,.vec 1)],[(0,mapG [.int .i64 0,.int .i64 0,.int .i64 0,.int .i64 0,.int .i64 0,.int .i64 0] azj bzg a0),(1,vecO 3 azn y6 40)],[],2⟩)
 (fun x5=>.br (decide (x5.2.2.2.2.2.2.2≥0))
 (.ok ((mdom azj a0 (azj (x5.1,x5.2.1,x5.2.2.1,x5.2.2.2.1,x5.2.2.2.2.1,x5.2.2.2.2.2.1)))=false->PSub (.agg [.int .i64 0,.int .i64 0,.int .i64 0,.int .i64 0,.int .i64 0,.int .i64 0,.int .i64 0,.int .i64 0,.int .i64 0]) (bzg (gzw azj a0 (azj (x5.1,x5.2.1,x5.2.2.1,x5.2.2.2.1,x5.2.2.2.2.1,x5.2.2.2.2.2.1))))) (Fzr (by kernel_rfl))<|
 .grd (0≤x5.2.2.2.2.2.2.2/\x5.2.2.2.2.2.2.2<(x5.2.2.2.2.2.2.1.length:Int))<|
 .conv 5007 (bze 3 azn x5.2.2.2.2.2.2.1 40 ((x5.2.2.2.2.2.2.2).toNat) ((gzw azj a0 (azj (x5.1,x5.2.1,x5.2.2.1,x5.2.2.2.1,x5.2.2.2.2.1,x5.2.2.2.2.2.1))).by_))<|
 .grd ((x5.2.2.2.2.2.2.2).toNat<x5.2.2.2.2.2.2.1.length/\0≤(x5.2.2.2.2.2.2.2).toNat)<|
 .ok ((mdom azj a0 (azj (x5.1,x5.2.1,x5.2.2.1,x5.2.2.2.1,x5.2.2.2.2.1,x5.2.2.2.2.2.1)))=false->PSub (.agg [.int .i64 0,.int .i64 0,.int .i64 0,.int .i64 0,.int .i64 0,.int .i64 0,.int .i64 0,.int .i64 0,.int .i64 0]) (bzg (gzw azj a0 (azj (x5.1,x5.2.1,x5.2.2.1,x5.2.2.2.1,x5.2.2.2.2.1,x5.2.2.2.2.2.1))))) (Fzr (by kernel_rfl))<|
 .ret (.next ((gzw azj a0 (azj (x5.1,x5.2.1,x5.2.2.1,x5.2.2.2.1,x5.2.2.2.2.1,x5.2.2.2.2.2.1))).before.1,(gzw azj a0 (azj (x5.1,x5.2.1,x5.2.2.1,x5.2.2.2.1,x5.2.2.2.2.1,x5.2.2.2.2.2.1))).before.2.1,(gzw azj a0 (azj (x5.1,x5.2.1,x5.2.2.1,x5.2.2.2.1,x5.2.2.2.2.1,x5.2.2.2.2.2.1))).before.2.2.1,(gzw azj a0 (azj (x5.1,x5.2.1,x5.2.2.1,x5.2.2.2.1,x5.2.2.2.2.1,x5.2.2.2.2.2.1))).before.2.2.2.1,(gzw azj a0 (azj (x5.1,x5.2.1,x5.2.2.1,x5.2.2.2.1,x5.2.2.2.2.1,x5.2.2.2.2.2.1))).before.2.2.2.2.1,(gzw azj a0 (azj (x5.1,x5.2.1,x5.2.2.1,x5.2.2.2.1,x5.2.2.2.2.1,x5.2.2.2.2.2.1))).before.2.2.2.2.2,(x5.2.2.2.2.2.2.1.set ((x5.2.2.2.2.2.2.2).toNat) ((gzw azj a0 (azj (x5.1,x5.2.1,x5.2.2.1,x5.2.2.2.1,x5.2.2.2.2.1,x5.2.2.2.2.2.1))).by_)),(i64.wrap (x5.2.2.2.2.2.2.2-1)))))
 (.ret (.out x5.2.2.2.2.2.2.1)))
 (a1.1,a1.2.1,a1.2.2.1,a1.2.2.2.1,a1.2.2.2.2.1,a1.2.2.2.2.2,(List.replicate a2.toNat ((⟨0,0,0⟩:azi):azi)),(i64.wrap (a2-1))) [] fun y6=>
 .ret y6
noncomputable def Nzn (c)(d)(e):=
 mkD Tryz.func73 (Nzo c d e) 1 [.map 0,.pure (bzb d),pz e] [(0,mapG [.int .i64 0,.int .i64 0,.int .i64 0,.int .i64 0,.int .i64 0,.int .i64 0] azj bzg c)] (fun r=>.pure (encL 3 azn r)) (fun _=>[(0,mapG [.int .i64 0,.int .i64 0,.int .i64 0,.int .i64 0,.int .i64 0,.int .i64 0] azj bzg c)])
set_option maxHeartbeats 8000000 in
set_option maxRecDepth 20000 in
noncomputable def qzu (a0:azb)(a1:bz5)(a2:A0)(a3:Int)(a4:Ac):T (Aa×Bool):=
 .cut 2 (fun (y7:Bool)=>⟨[(2,.pure (encL 1 az1 a2)),(3,pz a3),(4,.pure (encL 4 pzv a4)),(5,.ptr 0 0),(6,.ptr 1 0),(45,.pure (.bool y7))],[(0,.box [.pure (encL 12 az7 a0.Scene.Robot.Joints),.pure (encL 5 azc a0.Scene.Robot.Masses),.pure (encL 3 az8 a0.Scene.Shapes),.pure (encL 2 aze a0.Scene.Skips),.pure (encL 2 azh a0.Objects),.pure (encL 3 az2 a0.Places),.pure (encL 4 azv a0.Hands),.pure (encL 3 azu a0.Grips),pz a0.Slack]),(1,.box [.pure (encL 1 az1 a1.Where)])],[],2⟩)
 (.call (dz3 a0 a1) [] fun y8=>
 .br (!y8)
 (.ret (.out true))
 (.br ((a2.length:Int) !=(a0.Objects.length:Int))
 (.ret (.out true))
 (.br (decide (a3<0))
 (.ret (.out true))
 (.ret (.out (decide (a3>16))))))) fun y7=>
 .br y7
 (.ret (nl,false))
 (.call (dzz a1) [] fun y10=>
 .call (hzw (y10.1,y10.2.1,y10.2.2.1,y10.2.2.2.1,y10.2.2.2.2.1,y10.2.2.2.2.2) a2) [] fun y14=>
 .br y14
 (.ret (nl,true))
 (.call (qzv (⟨a0.Scene,a0.Objects,a0.Places,a0.Hands,a0.Grips,a0.Slack⟩:azb)) [] fun y16=>
 .call (Dz7 a0 a4) [] fun y18=>
 .conv 8000 (Szn [.int .i64 0,.int .i64 0,.int .i64 0,.int .i64 0,.int .i64 0,.int .i64 0] azj bzg (.agg [.int .i64 0,.int .i64 0,.int .i64 0,.int .i64 0,.int .i64 0,.int .i64 0,.int .i64 0,.int .i64 0,.int .i64 0]))<|
 .conv 8003 (Mz7 [.int .i64 0,.int .i64 0,.int .i64 0,.int .i64 0,.int .i64 0,.int .i64 0] azj bzg (nl:List C8) y10 (⟨(0,0,0,0,0,0),(⟨0,0,0⟩:azi)⟩:cz0) (.agg [.int .i64 0,.int .i64 0,.int .i64 0,.int .i64 0,.int .i64 0,.int .i64 0,.int .i64 0,.int .i64 0,.int .i64 0]) (by kernel_rfl))<|
 .conv 9001 (bzl 6 bzb ([y10]:C7) 121)<|
 .loop (fun (x9487:Ca)=>⟨[(2,.pure (encL 1 az1 a2)),(3,pz a3),(13,.pure (encL 3 azn y16)),(14,.map 0),(15,.map 1),(16,.vec 2),(17,pz x9487.2.2)],[(0,hz9 [.int .i64 0,.int .i64 0,.int .i64 0,.int .i64 0,.int .i64 0,.int .i64 0,.int .i64 0,.int .i64 0,.int .i64 0] bzk y18),(1,mapG [.int .i64 0,.int .i64 0,.int .i64 0,.int .i64 0,.int .i64 0,.int .i64 0] azj bzg x9487.1),(2,vecO 6 bzb x9487.2.1 121)],[],3⟩)
 (.exit 0) (fun (_:U0)=>⟨[],[],[],0⟩)
 (fun x9487=>.cut 1 (fun (y11856:Bool)=>⟨[(2,.pure (encL 1 az1 a2)),(3,pz a3),(13,.pure (encL 3 azn y16)),(14,.map 0),(15,.map 1),(16,.vec 2),(17,pz x9487.2.2),(69,.pure (.bool y11856))],[(0,hz9 [.int .i64 0,.int .i64 0,.int .i64 0,.int .i64 0,.int .i64 0,.int .i64 0,.int .i64 0,.int .i64 0,.int .i64 0] bzk y18),(1,mapG [.int .i64 0,.int .i64 0,.int .i64 0,.int .i64 0,.int .i64 0,.int .i64 0] azj bzg x9487.1),(2,vecO 6 bzb x9487.2.1 121)],[],3⟩)
 (.br (decide (x9487.2.2≤a3))
 (.ret (.out (decide ((x9487.2.1.length:Int)>0))))
 (.ret (.out false))) fun y11856=>
 .br y11856
 (.loop (fun (x13827:Ca)=>⟨[(2,.pure (encL 1 az1 a2)),(3,pz a3),(13,.pure (encL 3 azn y16)),(14,.map 0),(15,.map 1),(17,pz x9487.2.2),(18,.vec 2),(72,.vec 3),(73,pz (x9487.2.1.length:Int)),(74,pz x13827.2.2)],[(0,hz9 [.int .i64 0,.int .i64 0,.int .i64 0,.int .i64 0,.int .i64 0,.int .i64 0,.int .i64 0,.int .i64 0,.int .i64 0] bzk y18),(1,mapG [.int .i64 0,.int .i64 0,.int .i64 0,.int .i64 0,.int .i64 0,.int .i64 0] azj bzg x13827.1),(2,vecO 6 bzb x13827.2.1 121),(3,vecO 6 bzb x9487.2.1 121)],[],4⟩)
 (.exit 2) (fun (y14024:(C9×C7))=>⟨[(2,.pure (encL 1 az1 a2)),(3,pz a3),(13,.pure (encL 3 azn y16)),(14,.map 0),(15,.map 1),(17,pz x9487.2.2),(18,.vec 2)],[(0,hz9 [.int .i64 0,.int .i64 0,.int .i64 0,.int .i64 0,.int .i64 0,.int .i64 0,.int .i64 0,.int .i64 0,.int .i64 0] bzk y18),(1,mapG [.int .i64 0,.int .i64 0,.int .i64 0,.int .i64 0,.int .i64 0,.int .i64 0] azj bzg y14024.1),(2,vecO 6 bzb y14024.2 121)],[],3⟩)
 (fun x13827=>.br (decide (x13827.2.2<(x9487.2.1.length:Int)))
 (.grd (0≤x13827.2.2/\x13827.2.2<(x9487.2.1.length:Int))<|
 .grd ((x13827.2.2).toNat<x9487.2.1.length)<|
 .call (qzt y16 (x9487.2.1.getD ((x13827.2.2).toNat) default)) [] fun y14124=>
 .loop (fun (x14157:Ca)=>⟨[(2,.pure (encL 1 az1 a2)),(3,pz a3),(13,.pure (encL 3 azn y16)),(14,.map 0),(15,.map 1),(17,pz x9487.2.2),(18,.vec 2),(20,.ptr 3 0),(72,.vec 4),(73,pz (x9487.2.1.length:Int)),(74,pz x13827.2.2),(80,.pure (encL 3 azn y14124)),(81,pz (y14124.length:Int)),(82,pz x14157.2.2)],[(0,hz9 [.int .i64 0,.int .i64 0,.int .i64 0,.int .i64 0,.int .i64 0,.int .i64 0,.int .i64 0,.int .i64 0,.int .i64 0] bzk y18),(1,mapG [.int .i64 0,.int .i64 0,.int .i64 0,.int .i64 0,.int .i64 0,.int .i64 0] azj bzg x14157.1),(2,vecO 6 bzb x14157.2.1 121),(3,.box [pz ((x9487.2.1.getD ((x13827.2.2).toNat) default).1),pz ((x9487.2.1.getD ((x13827.2.2).toNat) default).2.1),pz ((x9487.2.1.getD ((x13827.2.2).toNat) default).2.2.1),pz ((x9487.2.1.getD ((x13827.2.2).toNat) default).2.2.2.1),pz ((x9487.2.1.getD ((x13827.2.2).toNat) default).2.2.2.2.1),pz ((x9487.2.1.getD ((x13827.2.2).toNat) default).2.2.2.2.2)]),(4,vecO 6 bzb x9487.2.1 121)],[],5⟩)
 (.exit 4) (fun (y14189:(C9×C7))=>⟨[(2,.pure (encL 1 az1 a2)),(3,pz a3),(13,.pure (encL 3 azn y16)),(14,.map 0),(15,.map 1),(17,pz x9487.2.2),(18,.vec 2),(72,.vec 3),(73,pz (x9487.2.1.length:Int)),(74,pz x13827.2.2)],[(0,hz9 [.int .i64 0,.int .i64 0,.int .i64 0,.int .i64 0,.int .i64 0,.int .i64 0,.int .i64 0,.int .i64 0,.int .i64 0] bzk y18),(1,mapG [.int .i64 0,.int .i64 0,.int .i64 0,.int .i64 0,.int .i64 0,.int .i64 0] azj bzg y14189.1),(2,vecO 6 bzb y14189.2 121),(3,vecO 6 bzb x9487.2.1 121)],[],4⟩)
 (fun x14157=>.br (decide (x14157.2.2<(y14124.length:Int)))
 (.cut 0 (fun (y14210:(C9×C7))=>⟨[(2,.pure (encL 1 az1 a2)),(3,pz a3),(13,.pure (encL 3 azn y16)),(14,.map 0),(15,.map 1),(17,pz x9487.2.2),(18,.vec 2),(20,.ptr 3 0),(72,.vec 4),(73,pz (x9487.2.1.length:Int)),(74,pz x13827.2.2),(80,.pure (encL 3 azn y14124)),(81,pz (y14124.length:Int)),(82,pz x14157.2.2)],[(0,hz9 [.int .i64 0,.int .i64 0,.int .i64 0,.int .i64 0,.int .i64 0,.int .i64 0,.int .i64 0,.int .i64 0,.int .i64 0] bzk y18),(1,mapG [.int .i64 0,.int .i64 0,.int .i64 0,.int .i64 0,.int .i64 0,.int .i64 0] azj bzg y14210.1),(2,vecO 6 bzb y14210.2 121),(3,.box [pz ((x9487.2.1.getD ((x13827.2.2).toNat) default).1),pz ((x9487.2.1.getD ((x13827.2.2).toNat) default).2.1),pz ((x9487.2.1.getD ((x13827.2.2).toNat) default).2.2.1),pz ((x9487.2.1.getD ((x13827.2.2).toNat) default).2.2.2.1),pz ((x9487.2.1.getD ((x13827.2.2).toNat) default).2.2.2.2.1),pz ((x9487.2.1.getD ((x13827.2.2).toNat) default).2.2.2.2.2)]),(4,vecO 6 bzb x9487.2.1 121)],[],5⟩)
 (.grd (0≤x14157.2.2/\x14157.2.2<(y14124.length:Int))<|
 .call (yz8 (x9487.2.1.getD ((x13827.2.2).toNat) default) (y14124.getD ((x14157.2.2).toNat) default)) [] fun y14212=>
 .ok ((mdom azj x14157.1 (azj y14212))=false->PSub (.agg [.int .i64 0,.int .i64 0,.int .i64 0,.int .i64 0,.int .i64 0,.int .i64 0,.int .i64 0,.int .i64 0,.int .i64 0]) (bzg (gzw azj x14157.1 (azj y14212)))) (Fzr (by kernel_rfl))<|
 .cut 0 (fun (y14214:Bool)=>⟨[(2,.pure (encL 1 az1 a2)),(3,pz a3),(13,.pure (encL 3 azn y16)),(14,.map 0),(15,.map 1),(17,pz x9487.2.2),(18,.vec 2),(20,.ptr 3 0),(22,.ptr 4 0),(23,.ptr 5 0),(72,.vec 6),(73,pz (x9487.2.1.length:Int)),(74,pz x13827.2.2),(80,.pure (encL 3 azn y14124)),(81,pz (y14124.length:Int)),(82,pz x14157.2.2),(102,.pure (.bool y14214))],[(0,hz9 [.int .i64 0,.int .i64 0,.int .i64 0,.int .i64 0,.int .i64 0,.int .i64 0,.int .i64 0,.int .i64 0,.int .i64 0] bzk y18),(1,mapG [.int .i64 0,.int .i64 0,.int .i64 0,.int .i64 0,.int .i64 0,.int .i64 0] azj bzg x14157.1),(2,vecO 6 bzb x14157.2.1 121),(3,.box [pz ((x9487.2.1.getD ((x13827.2.2).toNat) default).1),pz ((x9487.2.1.getD ((x13827.2.2).toNat) default).2.1),pz ((x9487.2.1.getD ((x13827.2.2).toNat) default).2.2.1),pz ((x9487.2.1.getD ((x13827.2.2).toNat) default).2.2.2.1),pz ((x9487.2.1.getD ((x13827.2.2).toNat) default).2.2.2.2.1),pz ((x9487.2.1.getD ((x13827.2.2).toNat) default).2.2.2.2.2)]),(4,.box [pz ((y14124.getD ((x14157.2.2).toNat) default).Kind),pz ((y14124.getD ((x14157.2.2).toNat) default).Hand),pz ((y14124.getD ((x14157.2.2).toNat) default).Place)]),(5,.box [pz y14212.1,pz y14212.2.1,pz y14212.2.2.1,pz y14212.2.2.2.1,pz y14212.2.2.2.2.1,pz y14212.2.2.2.2.2]),(6,vecO 6 bzb x9487.2.1 121)],[],7⟩)
 (.br (mdom azj x14157.1 (azj y14212))
 (.ret (.out true))
 (.ok ((mdom bzk y18 (bzk (⟨(x9487.2.1.getD ((x13827.2.2).toNat) default),(y14124.getD ((x14157.2.2).toNat) default)⟩:dzv)))=false->PSub (.bool false) (PVal.bool (uzc bzk y18 (bzk (⟨(x9487.2.1.getD ((x13827.2.2).toNat) default),(y14124.getD ((x14157.2.2).toNat) default)⟩:dzv))))) Mzg<|
 .ret (.out (uzc bzk y18 (bzk (⟨(x9487.2.1.getD ((x13827.2.2).toNat) default),(y14124.getD ((x14157.2.2).toNat) default)⟩:dzv)))))) fun y14214=>
 .br y14214
 (.ret (.out (x14157.1,x14157.2.1)))
 (.conv 23005 (Mz7 [.int .i64 0,.int .i64 0,.int .i64 0,.int .i64 0,.int .i64 0,.int .i64 0] azj bzg x14157.1 y14212 (⟨(x9487.2.1.getD ((x13827.2.2).toNat) default),(y14124.getD ((x14157.2.2).toNat) default)⟩:cz0) (.agg [.int .i64 ((x9487.2.1.getD ((x13827.2.2).toNat) default).1),.int .i64 ((x9487.2.1.getD ((x13827.2.2).toNat) default).2.1),.int .i64 ((x9487.2.1.getD ((x13827.2.2).toNat) default).2.2.1),.int .i64 ((x9487.2.1.getD ((x13827.2.2).toNat) default).2.2.2.1),.int .i64 ((x9487.2.1.getD ((x13827.2.2).toNat) default).2.2.2.2.1),.int .i64 ((x9487.2.1.getD ((x13827.2.2).toNat) default).2.2.2.2.2),.int .i64 ((y14124.getD ((x14157.2.2).toNat) default).Kind),.int .i64 ((y14124.getD ((x14157.2.2).toNat) default).Hand),.int .i64 ((y14124.getD ((x14157.2.2).toNat) default).Place)]) (by kernel_rfl))<|
 .call (hzw y14212 a2) [] fun y14219=>
 .br y14219
 (.call (Nzn ((y14212,(⟨(x9487.2.1.getD ((x13827.2.2).toNat) default),(y14124.getD ((x14157.2.2).toNat) default)⟩:cz0))::x14157.1) y14212 x9487.2.2) [(0,1)] fun y14220=>
 .ret (.fin (.fin (.fin (.fin (y14220,true))))))
 (.conv 26002 (bzl 6 bzb ([y14212]:C7) 121)<|
 .conv 26003 (czq 6 bzb x14157.2.1 ([y14212]:C7) 121)<|
 .grd ((x14157.2.1.length+([y14212]:C7).length) * 48≤140737488355328/\(x14157.2.1.length+([y14212]:C7).length)≤maxLen)<|
 .ret (.out (((y14212,(⟨(x9487.2.1.getD ((x13827.2.2).toNat) default),(y14124.getD ((x14157.2.2).toNat) default)⟩:cz0))::x14157.1),(x14157.2.1++([y14212]:C7))))))) fun y14210=>
 .ret (.next (y14210.1,y14210.2,(i64.wrap (x14157.2.2+1)))))
 (.ret (.out (x14157.1,x14157.2.1))))
 (x13827.1,x13827.2.1,0) [] fun y14189=>
 .ret (.next (y14189.1,y14189.2,(i64.wrap (x13827.2.2+1)))))
 (.ret (.out (x13827.1,x13827.2.1))))
 (x9487.1,nl,0) [] fun y14024=>
 .ret (.next (y14024.1,y14024.2,(i64.wrap (x9487.2.2+1)))))
 (.ret (.out .u)))
 (((y10,(⟨(0,0,0,0,0,0),(⟨0,0,0⟩:azi)⟩:cz0))::(nl:List C8)),([y10]:C7),1) [] fun _=>
 .ret (nl,false)))
noncomputable def jzs (c)(d)(e)(f)(g):=
 mkD Tryz.func38 (qzu c d e f g) 0 [.pure (bzm c),.pure (ezb d),.pure (encL 1 az1 e),pz f,.pure (encL 4 pzv g)] [] (fun r=>.tup [.pure (encL 3 azn r.1),.pure (.bool r.2)]) (fun _=>[])
noncomputable def hzd (a0:A4):T A4:=
 (match a0 with
  |[]=>.unroll 1<|
  .grd (a0.length=0)<|
  .both
   (.ret nl)
   (.conv 3000 (bzl 12 az7 ([]:A4) 92)<|
   .conv 3002 (czq 12 az7 ([]:A4) a0 92)<|
   .grd ((([]:A4).length+a0.length) * 104≤140737488355328/\(([]:A4).length+a0.length)≤maxLen)<|
   .ret (([]:A4)++a0))
  |_::_=>.grd (0<a0.length)<|
  .conv 3000 (bzl 12 az7 ([]:A4) 92)<|
  .conv 3002 (czq 12 az7 ([]:A4) a0 92)<|
  .grd ((([]:A4).length+a0.length) * 104≤140737488355328/\(([]:A4).length+a0.length)≤maxLen)<|
  .ret (([]:A4)++a0))
noncomputable def hzc (a0:A4):CallS A4:=
 mkH [] hd Tryz.func94 (by kernel_rfl) (hzd a0) 0 [.pure (encL 12 az7 a0)] [] (fun r=>.pure (encL 12 az7 r)) (fun _=>[]) (by cases a0<;>exact Ob.of_side (by kernel_rfl))
noncomputable def izh (a0:A9):T A9:=
 (match a0 with
  |[]=>.unroll 1<|
  .grd (a0.length=0)<|
  .both
   (.ret nl)
   (.conv 3000 (bzl 5 azc ([]:A9) 183)<|
   .conv 3002 (czq 5 azc ([]:A9) a0 183)<|
   .grd ((([]:A9).length+a0.length) * 40≤140737488355328/\(([]:A9).length+a0.length)≤maxLen)<|
   .ret (([]:A9)++a0))
  |_::_=>.grd (0<a0.length)<|
  .conv 3000 (bzl 5 azc ([]:A9) 183)<|
  .conv 3002 (czq 5 azc ([]:A9) a0 183)<|
  .grd ((([]:A9).length+a0.length) * 40≤140737488355328/\(([]:A9).length+a0.length)≤maxLen)<|
  .ret (([]:A9)++a0))
noncomputable def izg (a0:A9):CallS A9:=
 mkH [] hd Tryz.func95 (by kernel_rfl) (izh a0) 0 [.pure (encL 5 azc a0)] [] (fun r=>.pure (encL 5 azc r)) (fun _=>[]) (by cases a0<;>exact Ob.of_side (by kernel_rfl))
noncomputable def jzl (a0:Bh):T Bh:=
 (match a0 with
  |[]=>.unroll 1<|
  .grd (a0.length=0)<|
  .both
   (.ret nl)
   (.conv 3000 (bzl 3 az2 ([]:Bh) 68)<|
   .conv 3002 (czq 3 az2 ([]:Bh) a0 68)<|
   .grd ((([]:Bh).length+a0.length) * 24≤140737488355328/\(([]:Bh).length+a0.length)≤maxLen)<|
   .ret (([]:Bh)++a0))
  |_::_=>.grd (0<a0.length)<|
  .conv 3000 (bzl 3 az2 ([]:Bh) 68)<|
  .conv 3002 (czq 3 az2 ([]:Bh) a0 68)<|
  .grd ((([]:Bh).length+a0.length) * 24≤140737488355328/\(([]:Bh).length+a0.length)≤maxLen)<|
  .ret (([]:Bh)++a0))
noncomputable def jzk (a0:Bh):CallS Bh:=
 mkH [] hd Tryz.func154 (by kernel_rfl) (jzl a0) 0 [.pure (encL 3 az2 a0)] [] (fun _=>.vec 0) (fun r=>[(0,vecO 3 az2 r 68)]) (by cases a0<;>exact Ob.of_side (by kernel_rfl))
set_option maxHeartbeats 8000000 in
set_option maxRecDepth 20000 in
noncomputable def Ez0 (a0:A5)(a1:Bg):T A5:=
 .conv 1002 (Szo 3 az8 70 (0:Int).toNat (⟨0,0,nl⟩:azg) (.agg [.int .i64 0,.int .i64 0,.lst 0 0 fun _=>.unk]) (by kernel_rfl))<|
 .grd (0≤(0:Int)/\(0:Int)≤(a0.length:Int)/\(a0.length:Int)≤9223372036854775807/\(a0.length:Int) * 40≤140737488355328)<|
 .loop (fun (x2567:Ad)=>⟨[(3,.ptr 0 0),(5,.vec 1),(14,.pure (encL 3 az8 a0)),(15,pz (a0.length:Int)),(16,pz x2567.2)],[(0,.box [pz a1.1,pz a1.2.1,pz a1.2.2]),(1,vecO 3 az8 x2567.1 70)],[],2⟩)
 (.exit 0) (fun (y2824:A5)=>⟨[(5,.vec 0)],[(0,vecO 3 az8 y2824 70)],[],1⟩)
 (fun x2567=>.br (decide (x2567.2<(a0.length:Int)))
 (.grd (0≤x2567.2/\x2567.2<(a0.length:Int))<|
 .call (jzk ((a0.getD ((x2567.2).toNat) default).Points)) [] fun y2954=>
 .unroll 998<|
 .loop (fun (x3039:Bi)=>⟨[(3,.ptr 0 0),(5,.vec 1),(7,.ptr 2 0),(14,.pure (encL 3 az8 a0)),(15,pz (a0.length:Int)),(16,pz x2567.2),(26,pz (y2954.length:Int)),(27,pz x3039.2)],[(0,.box [pz a1.1,pz a1.2.1,pz a1.2.2]),(1,vecO 3 az8 x2567.1 70),(2,.box [pz ((a0.getD ((x2567.2).toNat) default).Link),pz ((a0.getD ((x2567.2).toNat) default).Radius),.vec 3]),(3,vecO 3 az2 x3039.1 68)],[],4⟩)
 (.exit 2) (fun (y3060:Bh)=>⟨[(3,.ptr 0 0),(5,.vec 1),(7,.ptr 2 0),(14,.pure (encL 3 az8 a0)),(15,pz (a0.length:Int)),(16,pz x2567.2)],[(0,.box [pz a1.1,pz a1.2.1,pz a1.2.2]),(1,vecO 3 az8 x2567.1 70),(2,.box [pz ((a0.getD ((x2567.2).toNat) default).Link),pz ((a0.getD ((x2567.2).toNat) default).Radius),.vec 3]),(3,vecO 3 az2 y3060 68)],[],4⟩)
 (fun x3039=>.br (decide (x3039.2<(y2954.length:Int)))
 (.unroll 4<|
 .known true<|
 .ix 0 3 rfl<|
 .grd (0≤x3039.2/\x3039.2<(x3039.1.length:Int))<|
 .ix 0 3 rfl<|
 .grd ((x3039.2).toNat<x3039.1.length)<|
 .name 12006 ((x3039.1.getD ((x3039.2).toNat) default).1) fun z3076=>
 .grd (0≤x3039.2/\x3039.2<(x3039.1.length:Int))<|
 .ix 0 3 rfl<|
 .conv 12011 (bze 3 az2 x3039.1 68 ((x3039.2).toNat) ((i64.wrap (z3076+a1.1)),(x3039.1.getD ((x3039.2).toNat) default).2.1,(x3039.1.getD ((x3039.2).toNat) default).2.2))<|
 .grd ((x3039.2).toNat<x3039.1.length/\0≤(x3039.2).toNat)<|
 .lit 13000 (1)<|
 .known true<|
 .ix 1 3 rfl<|
 .grd (0≤x3039.2/\x3039.2<(((x3039.1.set ((x3039.2).toNat) ((i64.wrap (z3076+a1.1)),(x3039.1.getD ((x3039.2).toNat) default).2.1,(x3039.1.getD ((x3039.2).toNat) default).2.2)).length:Nat):Int))<|
 .ix 1 3 rfl<|
 .grd ((x3039.2).toNat<(x3039.1.set ((x3039.2).toNat) ((i64.wrap (z3076+a1.1)),(x3039.1.getD ((x3039.2).toNat) default).2.1,(x3039.1.getD ((x3039.2).toNat) default).2.2)).length)<|
 .name 12006 (((x3039.1.set ((x3039.2).toNat) ((i64.wrap (z3076+a1.1)),(x3039.1.getD ((x3039.2).toNat) default).2.1,(x3039.1.getD ((x3039.2).toNat) default).2.2)).getD ((x3039.2).toNat) default).2.1) fun z3078=>
 .grd (0≤x3039.2/\x3039.2<(((x3039.1.set ((x3039.2).toNat) ((i64.wrap (z3076+a1.1)),(x3039.1.getD ((x3039.2).toNat) default).2.1,(x3039.1.getD ((x3039.2).toNat) default).2.2)).length:Nat):Int))<|
 .ix 1 3 rfl<|
 .conv 12011 (bze 3 az2 (x3039.1.set ((x3039.2).toNat) ((i64.wrap (z3076+a1.1)),(x3039.1.getD ((x3039.2).toNat) default).2.1,(x3039.1.getD ((x3039.2).toNat) default).2.2)) 68 ((x3039.2).toNat) (((x3039.1.set ((x3039.2).toNat) ((i64.wrap (z3076+a1.1)),(x3039.1.getD ((x3039.2).toNat) default).2.1,(x3039.1.getD ((x3039.2).toNat) default).2.2)).getD ((x3039.2).toNat) default).1,(i64.wrap (z3078+a1.2.1)),((x3039.1.set ((x3039.2).toNat) ((i64.wrap (z3076+a1.1)),(x3039.1.getD ((x3039.2).toNat) default).2.1,(x3039.1.getD ((x3039.2).toNat) default).2.2)).getD ((x3039.2).toNat) default).2.2))<|
 .grd ((x3039.2).toNat<(x3039.1.set ((x3039.2).toNat) ((i64.wrap (z3076+a1.1)),(x3039.1.getD ((x3039.2).toNat) default).2.1,(x3039.1.getD ((x3039.2).toNat) default).2.2)).length/\0≤(x3039.2).toNat)<|
 .lit 13000 (2)<|
 .known true<|
 .ix 2 3 rfl<|
 .grd (0≤x3039.2/\x3039.2<((((x3039.1.set ((x3039.2).toNat) ((i64.wrap (z3076+a1.1)),(x3039.1.getD ((x3039.2).toNat) default).2.1,(x3039.1.getD ((x3039.2).toNat) default).2.2)).set ((x3039.2).toNat) (((x3039.1.set ((x3039.2).toNat) ((i64.wrap (z3076+a1.1)),(x3039.1.getD ((x3039.2).toNat) default).2.1,(x3039.1.getD ((x3039.2).toNat) default).2.2)).getD ((x3039.2).toNat) default).1,(i64.wrap (z3078+a1.2.1)),((x3039.1.set ((x3039.2).toNat) ((i64.wrap (z3076+a1.1)),(x3039.1.getD ((x3039.2).toNat) default).2.1,(x3039.1.getD ((x3039.2).toNat) default).2.2)).getD ((x3039.2).toNat) default).2.2)).length:Nat):Int))<|
 .ix 2 3 rfl<|
 .grd ((x3039.2).toNat<((x3039.1.set ((x3039.2).toNat) ((i64.wrap (z3076+a1.1)),(x3039.1.getD ((x3039.2).toNat) default).2.1,(x3039.1.getD ((x3039.2).toNat) default).2.2)).set ((x3039.2).toNat) (((x3039.1.set ((x3039.2).toNat) ((i64.wrap (z3076+a1.1)),(x3039.1.getD ((x3039.2).toNat) default).2.1,(x3039.1.getD ((x3039.2).toNat) default).2.2)).getD ((x3039.2).toNat) default).1,(i64.wrap (z3078+a1.2.1)),((x3039.1.set ((x3039.2).toNat) ((i64.wrap (z3076+a1.1)),(x3039.1.getD ((x3039.2).toNat) default).2.1,(x3039.1.getD ((x3039.2).toNat) default).2.2)).getD ((x3039.2).toNat) default).2.2)).length)<|
 .name 12006 ((((x3039.1.set ((x3039.2).toNat) ((i64.wrap (z3076+a1.1)),(x3039.1.getD ((x3039.2).toNat) default).2.1,(x3039.1.getD ((x3039.2).toNat) default).2.2)).set ((x3039.2).toNat) (((x3039.1.set ((x3039.2).toNat) ((i64.wrap (z3076+a1.1)),(x3039.1.getD ((x3039.2).toNat) default).2.1,(x3039.1.getD ((x3039.2).toNat) default).2.2)).getD ((x3039.2).toNat) default).1,(i64.wrap (z3078+a1.2.1)),((x3039.1.set ((x3039.2).toNat) ((i64.wrap (z3076+a1.1)),(x3039.1.getD ((x3039.2).toNat) default).2.1,(x3039.1.getD ((x3039.2).toNat) default).2.2)).getD ((x3039.2).toNat) default).2.2)).getD ((x3039.2).toNat) default).2.2) fun z3080=>
 .grd (0≤x3039.2/\x3039.2<((((x3039.1.set ((x3039.2).toNat) ((i64.wrap (z3076+a1.1)),(x3039.1.getD ((x3039.2).toNat) default).2.1,(x3039.1.getD ((x3039.2).toNat) default).2.2)).set ((x3039.2).toNat) (((x3039.1.set ((x3039.2).toNat) ((i64.wrap (z3076+a1.1)),(x3039.1.getD ((x3039.2).toNat) default).2.1,(x3039.1.getD ((x3039.2).toNat) default).2.2)).getD ((x3039.2).toNat) default).1,(i64.wrap (z3078+a1.2.1)),((x3039.1.set ((x3039.2).toNat) ((i64.wrap (z3076+a1.1)),(x3039.1.getD ((x3039.2).toNat) default).2.1,(x3039.1.getD ((x3039.2).toNat) default).2.2)).getD ((x3039.2).toNat) default).2.2)).length:Nat):Int))<|
 .ix 2 3 rfl<|
 .conv 12011 (bze 3 az2 ((x3039.1.set ((x3039.2).toNat) ((i64.wrap (z3076+a1.1)),(x3039.1.getD ((x3039.2).toNat) default).2.1,(x3039.1.getD ((x3039.2).toNat) default).2.2)).set ((x3039.2).toNat) (((x3039.1.set ((x3039.2).toNat) ((i64.wrap (z3076+a1.1)),(x3039.1.getD ((x3039.2).toNat) default).2.1,(x3039.1.getD ((x3039.2).toNat) default).2.2)).getD ((x3039.2).toNat) default).1,(i64.wrap (z3078+a1.2.1)),((x3039.1.set ((x3039.2).toNat) ((i64.wrap (z3076+a1.1)),(x3039.1.getD ((x3039.2).toNat) default).2.1,(x3039.1.getD ((x3039.2).toNat) default).2.2)).getD ((x3039.2).toNat) default).2.2)) 68 ((x3039.2).toNat) ((((x3039.1.set ((x3039.2).toNat) ((i64.wrap (z3076+a1.1)),(x3039.1.getD ((x3039.2).toNat) default).2.1,(x3039.1.getD ((x3039.2).toNat) default).2.2)).set ((x3039.2).toNat) (((x3039.1.set ((x3039.2).toNat) ((i64.wrap (z3076+a1.1)),(x3039.1.getD ((x3039.2).toNat) default).2.1,(x3039.1.getD ((x3039.2).toNat) default).2.2)).getD ((x3039.2).toNat) default).1,(i64.wrap (z3078+a1.2.1)),((x3039.1.set ((x3039.2).toNat) ((i64.wrap (z3076+a1.1)),(x3039.1.getD ((x3039.2).toNat) default).2.1,(x3039.1.getD ((x3039.2).toNat) default).2.2)).getD ((x3039.2).toNat) default).2.2)).getD ((x3039.2).toNat) default).1,(((x3039.1.set ((x3039.2).toNat) ((i64.wrap (z3076+a1.1)),(x3039.1.getD ((x3039.2).toNat) default).2.1,(x3039.1.getD ((x3039.2).toNat) default).2.2)).set ((x3039.2).toNat) (((x3039.1.set ((x3039.2).toNat) ((i64.wrap (z3076+a1.1)),(x3039.1.getD ((x3039.2).toNat) default).2.1,(x3039.1.getD ((x3039.2).toNat) default).2.2)).getD ((x3039.2).toNat) default).1,(i64.wrap (z3078+a1.2.1)),((x3039.1.set ((x3039.2).toNat) ((i64.wrap (z3076+a1.1)),(x3039.1.getD ((x3039.2).toNat) default).2.1,(x3039.1.getD ((x3039.2).toNat) default).2.2)).getD ((x3039.2).toNat) default).2.2)).getD ((x3039.2).toNat) default).2.1,(i64.wrap (z3080+a1.2.2))))<|
 .grd ((x3039.2).toNat<((x3039.1.set ((x3039.2).toNat) ((i64.wrap (z3076+a1.1)),(x3039.1.getD ((x3039.2).toNat) default).2.1,(x3039.1.getD ((x3039.2).toNat) default).2.2)).set ((x3039.2).toNat) (((x3039.1.set ((x3039.2).toNat) ((i64.wrap (z3076+a1.1)),(x3039.1.getD ((x3039.2).toNat) default).2.1,(x3039.1.getD ((x3039.2).toNat) default).2.2)).getD ((x3039.2).toNat) default).1,(i64.wrap (z3078+a1.2.1)),((x3039.1.set ((x3039.2).toNat) ((i64.wrap (z3076+a1.1)),(x3039.1.getD ((x3039.2).toNat) default).2.1,(x3039.1.getD ((x3039.2).toNat) default).2.2)).getD ((x3039.2).toNat) default).2.2)).length/\0≤(x3039.2).toNat)<|
 .lit 13000 (3)<|
 .known false<|
 .ret (.next ((((x3039.1.set ((x3039.2).toNat) ((i64.wrap (z3076+a1.1)),(x3039.1.getD ((x3039.2).toNat) default).2.1,(x3039.1.getD ((x3039.2).toNat) default).2.2)).set ((x3039.2).toNat) (((x3039.1.set ((x3039.2).toNat) ((i64.wrap (z3076+a1.1)),(x3039.1.getD ((x3039.2).toNat) default).2.1,(x3039.1.getD ((x3039.2).toNat) default).2.2)).getD ((x3039.2).toNat) default).1,(i64.wrap (z3078+a1.2.1)),((x3039.1.set ((x3039.2).toNat) ((i64.wrap (z3076+a1.1)),(x3039.1.getD ((x3039.2).toNat) default).2.1,(x3039.1.getD ((x3039.2).toNat) default).2.2)).getD ((x3039.2).toNat) default).2.2)).set ((x3039.2).toNat) ((((x3039.1.set ((x3039.2).toNat) ((i64.wrap (z3076+a1.1)),(x3039.1.getD ((x3039.2).toNat) default).2.1,(x3039.1.getD ((x3039.2).toNat) default).2.2)).set ((x3039.2).toNat) (((x3039.1.set ((x3039.2).toNat) ((i64.wrap (z3076+a1.1)),(x3039.1.getD ((x3039.2).toNat) default).2.1,(x3039.1.getD ((x3039.2).toNat) default).2.2)).getD ((x3039.2).toNat) default).1,(i64.wrap (z3078+a1.2.1)),((x3039.1.set ((x3039.2).toNat) ((i64.wrap (z3076+a1.1)),(x3039.1.getD ((x3039.2).toNat) default).2.1,(x3039.1.getD ((x3039.2).toNat) default).2.2)).getD ((x3039.2).toNat) default).2.2)).getD ((x3039.2).toNat) default).1,(((x3039.1.set ((x3039.2).toNat) ((i64.wrap (z3076+a1.1)),(x3039.1.getD ((x3039.2).toNat) default).2.1,(x3039.1.getD ((x3039.2).toNat) default).2.2)).set ((x3039.2).toNat) (((x3039.1.set ((x3039.2).toNat) ((i64.wrap (z3076+a1.1)),(x3039.1.getD ((x3039.2).toNat) default).2.1,(x3039.1.getD ((x3039.2).toNat) default).2.2)).getD ((x3039.2).toNat) default).1,(i64.wrap (z3078+a1.2.1)),((x3039.1.set ((x3039.2).toNat) ((i64.wrap (z3076+a1.1)),(x3039.1.getD ((x3039.2).toNat) default).2.1,(x3039.1.getD ((x3039.2).toNat) default).2.2)).getD ((x3039.2).toNat) default).2.2)).getD ((x3039.2).toNat) default).2.1,(i64.wrap (z3080+a1.2.2)))),(i64.wrap (x3039.2+1)))))
 (.ret (.out x3039.1)))
 (y2954,0) [] fun y3060=>
 .conv 15002 (bzl 3 az8 ([(⟨(a0.getD ((x2567.2).toNat) default).Link,(a0.getD ((x2567.2).toNat) default).Radius,y3060⟩:azg)]:A5) 70)<|
 .conv 15003 (czq 3 az8 x2567.1 ([(⟨(a0.getD ((x2567.2).toNat) default).Link,(a0.getD ((x2567.2).toNat) default).Radius,y3060⟩:azg)]:A5) 70)<|
 .grd ((x2567.1.length+([(⟨(a0.getD ((x2567.2).toNat) default).Link,(a0.getD ((x2567.2).toNat) default).Radius,y3060⟩:azg)]:A5).length) * 40≤140737488355328/\(x2567.1.length+([(⟨(a0.getD ((x2567.2).toNat) default).Link,(a0.getD ((x2567.2).toNat) default).Radius,y3060⟩:azg)]:A5).length)≤maxLen)<|
 .ret (.next ((x2567.1++([(⟨(a0.getD ((x2567.2).toNat) default).Link,(a0.getD ((x2567.2).toNat) default).Radius,y3060⟩:azg)]:A5)),(i64.wrap (x2567.2+1)))))
 (.ret (.out x2567.1)))
 ((List.replicate (0:Int).toNat ((⟨0,0,nl⟩:azg):azg)),0) [] fun y2824=>
 .ret y2824
noncomputable def sz5 (c)(d):=
 mkD Tryz.func96 (Ez0 c d) 0 [.pure (encL 3 az8 c),.pure (az2 d)] [] (fun _=>.vec 0) (fun r=>[(0,vecO 3 az8 r 70)])
noncomputable def izj (a0:Ae):T Ae:=
 (match a0 with
  |[]=>.unroll 1<|
  .grd (a0.length=0)<|
  .both
   (.ret nl)
   (.conv 3000 (bzl 2 aze ([]:Ae) 187)<|
   .conv 3002 (czq 2 aze ([]:Ae) a0 187)<|
   .grd ((([]:Ae).length+a0.length) * 16≤140737488355328/\(([]:Ae).length+a0.length)≤maxLen)<|
   .ret (([]:Ae)++a0))
  |_::_=>.grd (0<a0.length)<|
  .conv 3000 (bzl 2 aze ([]:Ae) 187)<|
  .conv 3002 (czq 2 aze ([]:Ae) a0 187)<|
  .grd ((([]:Ae).length+a0.length) * 16≤140737488355328/\(([]:Ae).length+a0.length)≤maxLen)<|
  .ret (([]:Ae)++a0))
noncomputable def izi (a0:Ae):CallS Ae:=
 mkH [] hd Tryz.func97 (by kernel_rfl) (izj a0) 0 [.pure (encL 2 aze a0)] [] (fun r=>.pure (encL 2 aze r)) (fun _=>[]) (by cases a0<;>exact Ob.of_side (by kernel_rfl))
set_option maxHeartbeats 8000000 in
set_option maxRecDepth 20000 in
noncomputable def Gzy (c:azb)(d:bz5):T (azx×Int):=let e:Nat×Res:=(1,.box [.pure (encL 1 az1 d.Where)]);let f:=encL 2 azh c.Objects;let g:=(c.Objects.length:Int);let h:Nat×Res:=(0,.box [.pure (encL 12 az7 c.Scene.Robot.Joints),.pure (encL 5 azc c.Scene.Robot.Masses),.pure (encL 3 az8 c.Scene.Shapes),.pure (encL 2 aze c.Scene.Skips),.pure f,.pure (encL 3 az2 c.Places),.pure (encL 4 azv c.Hands),.pure (encL 3 azu c.Grips),pz c.Slack]);.cc (gz4 c) fun i=>
 .br (i !=0)
 (.ret ((⟨(⟨nl,nl⟩:bz1),nl,nl⟩:azx),i))
 (.cc (dz3 c d) fun j=>
 .br (!j)
 (.ret ((⟨(⟨nl,nl⟩:bz1),nl,nl⟩:azx),3403))
 (.cc (hzc c.Scene.Robot.Joints) fun k=>let m:=encL 12 az7 k;
 .cc (izg c.Scene.Robot.Masses) fun n=>let s:=encL 5 azc n;
 .cc (sz5 c.Scene.Shapes (0,0,0)) fun t=>
 .cc (izi c.Scene.Skips) fun w=>let y:=encL 2 aze w;let z:Nat×Res:=(7,.box [.pure m,.pure s,.vec 8,.pure y]);
 .loop (fun (aa:Ad)=>⟨[(2,.ptr 0 0),(3,.ptr 1 0),(4,.ptr 2 0),(7,.ptr 7 0),(48,.pure f),(49,pz g),(50,pz aa.2)],[h,e,(2,.box [.vec 3,.vec 4,.vec 5,.vec 6]),(3,.nilv),(4,.nilv),(5,.nilv),(6,.nilv),z,(8,vecO 3 az8 aa.1 70)],[],9⟩)
 (.exit 0) (fun (aa:A5)=>⟨[(4,.ptr 0 0),(7,.ptr 5 0)],[(0,.box [.vec 1,.vec 2,.vec 3,.vec 4]),(1,.nilv),(2,.nilv),(3,.nilv),(4,.nilv),(5,.box [.pure m,.pure s,.vec 6,.pure y]),(6,vecO 3 az8 aa 70)],[],7⟩)
 (fun aa=>let ab:=(aa.2).toNat;let ac:=d.Where.getD ab default;let ad:=i64.wrap ((-1)-ac);let ae:=c.Hands.getD (ad.toNat) default;let af:=c.Places.getD (ac.toNat) default;let ag:=c.Objects.getD ab default;.br (decide (aa.2<g))
 (.gh aa.2 c.Objects.length<|
 .cut 1 (fun (ah:C1)=>⟨[(2,.ptr 0 0),(3,.ptr 1 0),(4,.ptr 2 0),(7,.ptr 7 0),(9,.ptr 9 0),(10,pz ah.1),(11,.ptr 10 0),(48,.pure f),(49,pz g),(50,pz aa.2)],[h,e,(2,.box [.vec 3,.vec 4,.vec 5,.vec 6]),(3,.nilv),(4,.nilv),(5,.nilv),(6,.nilv),z,(8,vecO 3 az8 aa.1 70),(9,.box [.pure (.str (ag.Name)),.pure (encL 3 az8 (ag.Shapes))]),(10,.box [pz ah.2.1,pz ah.2.2.1,pz ah.2.2.2])],[],11⟩)
 (.gh aa.2 d.Where.length<|
 .br (decide (ac≥0))
 (.gh ac c.Places.length<|
 .oo ((-1),af.1,af.2.1,af.2.2))
 (.gh ad c.Hands.length<|
 .gh ad c.Hands.length<|
 .oo (ae.Link,ae.Offset.1,ae.Offset.2.1,ae.Offset.2.2))) fun ah=>
 .cc (sz5 (ag.Shapes) (ah.2.1,ah.2.2.1,ah.2.2.2)) fun ai=>let aj:=(ai.length:Nat);
 .loop (fun (ak:Ad)=>⟨[(2,.ptr 0 0),(3,.ptr 1 0),(4,.ptr 2 0),(7,.ptr 7 0),(10,pz ah.1),(48,.pure f),(49,pz g),(50,pz aa.2),(85,.vec 9),(86,pz (aj:Int)),(87,pz ak.2)],[h,e,(2,.box [.vec 3,.vec 4,.vec 5,.vec 6]),(3,.nilv),(4,.nilv),(5,.nilv),(6,.nilv),z,(8,vecO 3 az8 ak.1 70),(9,vecO 3 az8 ai 70)],[],10⟩)
 (.exit 2) (fun (ak:A5)=>⟨[(2,.ptr 0 0),(3,.ptr 1 0),(4,.ptr 2 0),(7,.ptr 7 0),(48,.pure f),(49,pz g),(50,pz aa.2)],[h,e,(2,.box [.vec 3,.vec 4,.vec 5,.vec 6]),(3,.nilv),(4,.nilv),(5,.nilv),(6,.nilv),z,(8,vecO 3 az8 ak 70)],[],9⟩)
 (fun ak=>let al:=ai.getD ((ak.2).toNat) default;let am:=([(⟨ah.1,al.Radius,al.Points⟩:azg)]:A5);let an:=ak.1.length+am.length;.br (decide (ak.2<(aj:Int)))
 (.gg ak.2 ai.length<|
 .conv 19003 (bzl 3 az8 am 70)<|
 .conv 19004 (czq 3 az8 ak.1 am 70)<|
 .grd (an * 40≤140737488355328/\an≤maxLen)<|
 .nn ((ak.1++am),(i64.wrap (ak.2+1))))
 (.oo ak.1))
 (aa.1,0) [] fun ak=>
 .nn (ak,(i64.wrap (aa.2+1))))
 (.oo aa.1))
 (t,0) [] fun aa=>
 .ret ((⟨(⟨k,n⟩:bz1),aa,w⟩:azx),0)))
noncomputable def oz0 (c)(d):=
 mkD Tryz.func56 (Gzy c d) 0 [.pure (bzm c),.pure (ezb d)] [] (fun r=>.tup [.pure (czl r.1),pz r.2]) (fun _=>[])
noncomputable def Fzc (c:azb)(d:bz5):T Aa:=
 .cc (dz3 c d) fun e=>
 .br (!e)
 (.ret nl)
 (.cc (qzv c) fun f=>
 .cc (dzz d) fun g=>
 .cc (qzt f g) fun h=>
 .ret h)
noncomputable def Fzb (c)(d):=
 mkD Tryz.func47 (Fzc c d) 0 [.pure (bzm c),.pure (ezb d)] [] (fun r=>.pure (encL 3 azn r)) (fun _=>[])
noncomputable def gzp (c:Aa)(d:azi):T Int:=let e:=(c.length:Nat);.loop (fun (f:Int)=>⟨[(0,.pure (encL 3 azn c)),(3,.ptr 0 0),(7,pz (e:Int)),(8,pz f)],[(0,.box [pz d.Kind,pz d.Hand,pz d.Place])],[],1⟩)
 (.exit 0) (fun (_:U0)=>⟨[],[],[],0⟩)
 (fun f=>let g:=c.getD (f.toNat) default;.br (decide (f<(e:Int)))
 (.gh f c.length<|
 .br ((d.Kind==(g.Kind))&&((d.Hand==(g.Hand))&&((d.Place==(g.Place))&&true)))
 (.ff f)
 (.nn (i64.wrap (f+1))))
 (.oo .u))
 0 [] fun _=>
 .ret (-1)
noncomputable def gzo (c)(d):=
 mkD Tryz.func86 (gzp c d) 0 [.pure (encL 3 azn c),.pure (azn d)] [] (fun r=>pz r) (fun _=>[])
noncomputable def fzx (c:Aa)(d:azi):T Bool:=
 .cc (gzo c d) fun e=>
 .ret (decide (e≥0))
noncomputable def fzw (c)(d):=
 mkD Tryz.func46 (fzx c d) 0 [.pure (encL 3 azn c),.pure (azn d)] [] (fun r=>.pure (.bool r)) (fun _=>[])
noncomputable def pzi (a0:A0):T A0:=
 (match a0 with
  |[]=>.unroll 1<|
  .grd (a0.length=0)<|
  .both
   (.ret nl)
   (.conv 3000 (bzl 1 az1 ([]:A0) 3)<|
   .conv 3002 (czq 1 az1 ([]:A0) a0 3)<|
   .grd ((([]:A0).length+a0.length) * 8≤140737488355328/\(([]:A0).length+a0.length)≤maxLen)<|
   .ret (([]:A0)++a0))
  |_::_=>.grd (0<a0.length)<|
  .conv 3000 (bzl 1 az1 ([]:A0) 3)<|
  .conv 3002 (czq 1 az1 ([]:A0) a0 3)<|
  .grd ((([]:A0).length+a0.length) * 8≤140737488355328/\(([]:A0).length+a0.length)≤maxLen)<|
  .ret (([]:A0)++a0))
noncomputable def izq (a0:A0):CallS A0:=
 mkH [] hd Tryz.func50 (by kernel_rfl) (pzi a0) 0 [.pure (encL 1 az1 a0)] [] (fun r=>.pure (encL 1 az1 r)) (fun _=>[]) (by cases a0<;>exact Ob.of_side (by kernel_rfl))
noncomputable def Kzc (c:azb)(d:bz5)(e:azi):T (bz5×Bool):=let f:=(⟨d.Where⟩:bz5);let g:=(d.Where.length:Int);.cc (Fzb (⟨c.Scene,c.Objects,c.Places,c.Hands,c.Grips,c.Slack⟩:azb) f) fun h=>
 .cc (fzw h e) fun i=>
 .br (!i)
 (.ret ((⟨nl⟩:bz5),false))
 (.cc (dzz f) fun j=>
 .cc (yz8 j e) fun k=>let m:=([k.1,k.2.1,k.2.2.1,k.2.2.2.1,k.2.2.2.2.1,k.2.2.2.2.2]:List Int);
 .conv 4003 (Vzt az1 m g)<|
 .grd (0≤g/\g≤(6:Int))<|
 .call (izq (m.take (g.toNat))) [] fun n=>
 .ret ((⟨n⟩:bz5),true))
noncomputable def mzj (c)(d)(e):=
 mkD Tryz.func27 (Kzc c d e) 0 [.pure (bzm c),.pure (ezb d),.pure (azn e)] [] (fun r=>.tup [.pure (ezb r.1),.pure (.bool r.2)]) (fun _=>[])
noncomputable def zzx (c:azb)(d:azi)(e:Int):T Bool:=let f:=c.Grips.getD (e.toNat) default;.br (decide (0≤e))
 (.br (decide (e<(c.Grips.length:Int)))
 (.gh e c.Grips.length<|
 .br ((f.Hand)==d.Hand)
 (.gh e c.Grips.length<|
 .ret ((f.Place)==d.Place))
 (.ret false))
 (.ret false))
 (.ret false)
noncomputable def pzb (c)(d)(e):=
 mkD Tryz.func28 (zzx c d e) 0 [.pure (bzm c),.pure (azn d),pz e] [] (fun r=>.pure (.bool r)) (fun _=>[])
noncomputable def yzk (c:Int):T Bool:=
 .br (decide (c<(-2147483648)))
 (.ret true)
 (.ret (decide (c>2147483648)))
noncomputable def yzj (c):=
 mkD Tryz.func149 (yzk c) 0 [pz c] [] (fun r=>.pure (.bool r)) (fun _=>[])
noncomputable def jzn (c:A0):T Int:=let d:=(c.length:Nat);.loop (fun (e:Int)=>⟨[(0,.pure (encL 1 az1 c)),(1,.func 149 [] []),(7,pz (d:Int)),(8,pz e)],[],[],0⟩)
 (.exit 0) (fun (_:U0)=>⟨[],[],[],0⟩)
 (fun e=>.br (decide (e<(d:Int)))
 (.gh e c.length<|
 .cc (yzj (c.getD (e.toNat) default)) fun f=>
 .br f
 (.ff e)
 (.nn (i64.wrap (e+1))))
 (.oo .u))
 0 [] fun _=>
 .ret (-1)
noncomputable def jzm (c):=
 mkD Tryz.func213 (jzn c) 0 [.pure (encL 1 az1 c),.func 149 [] []] [] (fun r=>pz r) (fun _=>[])
noncomputable def iz6 (c:A0):T Bool:=
 .cc (jzm c) fun d=>
 .ret (decide (d≥0))
noncomputable def iz5 (c):=
 mkD Tryz.func148 (iz6 c) 0 [.pure (encL 1 az1 c),.func 149 [] []] [] (fun r=>.pure (.bool r)) (fun _=>[])
noncomputable def Dzt (c:A0):T Bool:=
 .cc (iz5 c) fun d=>
 .ret (!d)
noncomputable def gzg (c):=
 mkD Tryz.func90 (Dzt c) 0 [.pure (encL 1 az1 c)] [] (fun r=>.pure (.bool r)) (fun _=>[])
noncomputable def Gzt (c:Int):T Int:=
 .ret (min (max c (-2147483648)) 2147483648)
noncomputable def tzw (c):=
 mkD Tryz.func214 (Gzt c) 0 [pz c] [] (fun r=>pz r) (fun _=>[])
noncomputable def uz0 (c:Int)(d:Int):T az0:=
 .cc (tzw c) fun e=>
 .cc (tzw d) fun f=>
 .ret (⟨e,f⟩:az0)
noncomputable def hzo (c)(d):=
 mkD Tryz.func150 (uz0 c d) 0 [pz c,pz d] [] (fun r=>.pure (azd r)) (fun _=>[])
noncomputable def Hz2 (c:Int):T az0:=
 .cc (hzo c c) fun d=>
 .ret d
noncomputable def czi (c):=
 mkD Tryz.func92 (Hz2 c) 0 [pz c] [] (fun r=>.pure (azd r)) (fun _=>[])
noncomputable def hzb (c:A0):T Af:=let d:=(c.length:Int);.conv 1002 (rzh 2 azd 126 d.toNat (⟨0,0⟩:az0))<|
 .grd (0≤d/\d≤d/\d≤9223372036854775807/\d * 16≤140737488355328)<|
 .loop (fun (e:(Af×Int))=>⟨[(1,.func 92 [] []),(5,.vec 0),(11,.pure (encL 1 az1 c)),(12,pz d),(13,pz e.2)],[(0,vecO 2 azd e.1 126)],[],1⟩)
 (.exit 0) (fun (e:Af)=>⟨[(5,.vec 0)],[(0,vecO 2 azd e 126)],[],1⟩)
 (fun e=>let f:=(e.2).toNat;.br (decide (e.2<d))
 (.gh e.2 c.length<|
 .cc (czi (c.getD f default)) fun g=>
 .gh e.2 e.1.length<|
 .conv 5006 (bze 2 azd e.1 126 f g)<|
 .gi (e.2) e.1.length<|
 .nn ((e.1.set f g),(i64.wrap (e.2+1))))
 (.oo e.1))
 ((List.replicate d.toNat ((⟨0,0⟩:az0):az0)),0) [] fun e=>
 .ret e
noncomputable def hza (c):=
 mkD Tryz.func91 (hzb c) 0 [.pure (encL 1 az1 c),.func 92 [] []] [] (fun r=>.pure (encL 2 azd r)) (fun _=>[])
noncomputable def Izo (c:A0):T Af:=
 .cc (gzg c) fun d=>
 .br (!d)
 (.ret nl)
 (.cc (hza c) fun e=>
 .ret e)
noncomputable def xzo (c):=
 mkD Tryz.func53 (Izo c) 0 [.pure (encL 1 az1 c)] [] (fun r=>.pure (encL 2 azd r)) (fun _=>[])
noncomputable def yzo (c:az0):T Bool:=
 .br (decide ((-2147483648)≤c.Lo))
 (.br (decide (c.Lo≤c.Hi))
 (.ret (decide (c.Hi≤2147483648)))
 (.ret false))
 (.ret false)
noncomputable def bzz (c):=
 mkD Tryz.func145 (yzo c) 0 [.pure (azd c)] [] (fun r=>.pure (.bool r)) (fun _=>[])
noncomputable def rzk (c:az0):T Bool:=
 .cc (bzz c) fun d=>
 .ret (!d)
noncomputable def rzj (c):=
 mkD Tryz.func144 (rzk c) 0 [.pure (azd c)] [] (fun r=>.pure (.bool r)) (fun _=>[])
noncomputable def ezy (c:Af):T Int:=let d:=(c.length:Nat);.loop (fun (e:Int)=>⟨[(0,.pure (encL 2 azd c)),(1,.func 144 [] []),(7,pz (d:Int)),(8,pz e)],[],[],0⟩)
 (.exit 0) (fun (_:U0)=>⟨[],[],[],0⟩)
 (fun e=>.br (decide (e<(d:Int)))
 (.gh e c.length<|
 .cc (rzj (c.getD (e.toNat) default)) fun f=>
 .br f
 (.ff e)
 (.nn (i64.wrap (e+1))))
 (.oo .u))
 0 [] fun _=>
 .ret (-1)
noncomputable def ezx (c):=
 mkD Tryz.func209 (ezy c) 0 [.pure (encL 2 azd c),.func 144 [] []] [] (fun r=>pz r) (fun _=>[])
noncomputable def ezj (c:Af):T Bool:=
 .cc (ezx c) fun d=>
 .ret (decide (d≥0))
noncomputable def ezi (c):=
 mkD Tryz.func143 (ezj c) 0 [.pure (encL 2 azd c),.func 144 [] []] [] (fun r=>.pure (.bool r)) (fun _=>[])
noncomputable def uz5 (c:bz1)(d:Af):T Bool:=
 .br ((d.length:Int)==(c.Joints.length:Int))
 (.cc (ezi d) fun e=>
 .ret (!e))
 (.ret false)
noncomputable def mz4 (c)(d):=
 mkD Tryz.func88 (uz5 c d) 0 [.pure (dz2 c),.pure (encL 2 azd d)] [] (fun r=>.pure (.bool r)) (fun _=>[])
noncomputable def Ezb (c:Bg):T Bm:=
 .unroll 4<|
 .known true<|
 .ix 0 3 rfl<|
 .cc (czi c.1) fun d=>
 .ix 0 3 rfl<|
 .lit 6000 (1)<|
 .known true<|
 .ix 1 3 rfl<|
 .cc (czi c.2.1) fun e=>
 .ix 1 3 rfl<|
 .lit 6000 (2)<|
 .known true<|
 .ix 2 3 rfl<|
 .cc (czi c.2.2) fun f=>
 .ix 2 3 rfl<|
 .lit 6000 (3)<|
 .known false<|
 .ret (d,e,f)
noncomputable def jz7 (c):=
 mkD Tryz.func55 (Ezb c) 0 [.pure (az2 c)] [] (fun r=>.pure (az3 r)) (fun _=>[])
noncomputable def wzp:T Bo:=
 .unroll 4<|
 .known true<|
 .cc (czi 65536) fun c=>
 .ix 0 3 rfl<|
 .ix 0 3 rfl<|
 .lit 6000 (1)<|
 .known true<|
 .cc (czi 65536) fun d=>
 .ix 1 3 rfl<|
 .ix 1 3 rfl<|
 .lit 6000 (2)<|
 .known true<|
 .cc (czi 65536) fun e=>
 .ix 2 3 rfl<|
 .ix 2 3 rfl<|
 .lit 6000 (3)<|
 .known false<|
 .ret ((c,(⟨0,0⟩:az0),(⟨0,0⟩:az0)),((⟨0,0⟩:az0),d,(⟨0,0⟩:az0)),((⟨0,0⟩:az0),(⟨0,0⟩:az0),e))
noncomputable def wzo:CallS Bo:=
 mkD Tryz.func285 (wzp) 0 [] [] (fun r=>.pure (bzj r)) (fun _=>[])
noncomputable def Jzt (c:Bm):T czk:=
 .cc (wzo) fun d=>
 .ret (⟨d,c⟩:czk)
noncomputable def qzg (c):=
 mkD Tryz.func210 (Jzt c) 0 [.pure (az3 c)] [] (fun r=>.pure (dz1 r)) (fun _=>[])
noncomputable def nz6 (c:Int):T Int:=
 .cut 3 (fun (d:Bool)=>⟨[(0,pz c),(2,.ptr 0 0),(3,pz c),(4,.pure (.bool d))],[(0,.box [.any])],[],1⟩)
 (.br (c==1)
 (.oo (c==1))
 (.br (c==2)
 (.oo (c==2))
 (.oo (c==3)))) fun d=>
 .br d
 (.ret (i64.wrap (c-1)))
 (.cut 0 (fun (e:Bool)=>⟨[(0,pz c),(2,.ptr 0 0),(12,.pure (.bool e))],[(0,.box [.any])],[],1⟩)
 (.br (c==4)
 (.oo (c==4))
 (.br (c==5)
 (.oo (c==5))
 (.oo (c==6)))) fun e=>
 .br e
 (.stop)
 (.stop))
noncomputable def hz7 (c):=
 mkD Tryz.func211 (nz6 c) 0 [pz c] [] (fun r=>.agg [.func 286 [pz r] []]) (fun _=>[])
noncomputable def nz7 (c:Int):T Int:=
 .cut 3 (fun (d:Bool)=>⟨[(0,pz c),(2,.ptr 0 0),(3,pz c),(4,.pure (.bool d))],[(0,.box [.any])],[],1⟩)
 (.br (c==1)
 (.oo (c==1))
 (.br (c==2)
 (.oo (c==2))
 (.oo (c==3)))) fun d=>
 .br d
 (.stop)
 (.cut 0 (fun (e:Bool)=>⟨[(0,pz c),(2,.ptr 0 0),(12,.pure (.bool e))],[(0,.box [.any])],[],1⟩)
 (.br (c==4)
 (.oo (c==4))
 (.br (c==5)
 (.oo (c==5))
 (.oo (c==6)))) fun e=>
 .br e
 (.ret (i64.wrap (c-4)))
 (.stop))
noncomputable def hz8 (c):=
 mkD Tryz.func211 (nz7 c) 0 [pz c] [] (fun r=>.agg [.func 287 [pz r] []]) (fun _=>[])
noncomputable def nz9 (c:Int):T Int:=
 .cut 3 (fun (d:Bool)=>⟨[(0,pz c),(2,.ptr 0 0),(3,pz c),(4,.pure (.bool d))],[(0,.box [.any])],[],1⟩)
 (.br (c==1)
 (.oo (c==1))
 (.br (c==2)
 (.oo (c==2))
 (.oo (c==3)))) fun d=>
 .br d
 (.stop)
 (.cut 0 (fun (e:Bool)=>⟨[(0,pz c),(2,.ptr 0 0),(12,.pure (.bool e))],[(0,.box [.any])],[],1⟩)
 (.br (c==4)
 (.oo (c==4))
 (.br (c==5)
 (.oo (c==5))
 (.oo (c==6)))) fun e=>
 .br e
 (.stop)
 (.ret 0))
noncomputable def nz8 (c):=
 mkD Tryz.func211 (nz9 c) 0 [pz c] [] (fun r=>.agg [.func 288 [pz r] []]) (fun _=>[])
noncomputable def Jzv:T Bm:=
 .cc (jz7 (0,0,0)) fun c=>
 .ret c
noncomputable def yz0:CallS Bm:=
 mkD Tryz.func292 (Jzv) 0 [] [] (fun r=>.pure (az3 r)) (fun _=>[])
noncomputable def Cz8:T czk:=
 .cc (yz0) fun c=>
 .cc (qzg c) fun d=>
 .ret d
noncomputable def qzf:CallS czk:=
 mkD Tryz.func219 (Cz8) 0 [] [] (fun r=>.pure (dz1 r)) (fun _=>[])
noncomputable def Kzp (_a0:Int)(_a1:az0):T czk:=
 .cc (qzf) fun c=>
 .ret c
noncomputable def Kzo (c)(d):=
 mkD Tryz.func288 (Kzp c d) 0 [pz c,.pure (azd d)] [] (fun r=>.pure (dz1 r)) (fun _=>[])
noncomputable def Jzu (c:czk):T Ci:=
 .ret (c.R.1.1.Lo,c.R.1.1.Hi,c.R.1.2.1.Lo,c.R.1.2.1.Hi,c.R.1.2.2.Lo,c.R.1.2.2.Hi,c.R.2.1.1.Lo,c.R.2.1.1.Hi,c.R.2.1.2.1.Lo,c.R.2.1.2.1.Hi,c.R.2.1.2.2.Lo,c.R.2.1.2.2.Hi,c.R.2.2.1.Lo,c.R.2.2.1.Hi,c.R.2.2.2.1.Lo,c.R.2.2.2.1.Hi,c.R.2.2.2.2.Lo,c.R.2.2.2.2.Hi,c.T.1.Lo,c.T.1.Hi,c.T.2.1.Lo,c.T.2.1.Hi,c.T.2.2.Lo,c.T.2.2.Hi)
noncomputable def xzz (c):=
 mkD Tryz.func93 (Jzu c) 0 [.pure (dz1 c)] [] (fun _=>.func 151 [] [.ptr 0 0]) (fun r=>[(0,.box [pz r.1,pz r.2.1,pz r.2.2.1,pz r.2.2.2.1,pz r.2.2.2.2.1,pz r.2.2.2.2.2.1,pz r.2.2.2.2.2.2.1,pz r.2.2.2.2.2.2.2.1,pz r.2.2.2.2.2.2.2.2.1,pz r.2.2.2.2.2.2.2.2.2.1,pz r.2.2.2.2.2.2.2.2.2.2.1,pz r.2.2.2.2.2.2.2.2.2.2.2.1,pz r.2.2.2.2.2.2.2.2.2.2.2.2.1,pz r.2.2.2.2.2.2.2.2.2.2.2.2.2.1,pz r.2.2.2.2.2.2.2.2.2.2.2.2.2.2.1,pz r.2.2.2.2.2.2.2.2.2.2.2.2.2.2.2.1,pz r.2.2.2.2.2.2.2.2.2.2.2.2.2.2.2.2.1,pz r.2.2.2.2.2.2.2.2.2.2.2.2.2.2.2.2.2.1,pz r.2.2.2.2.2.2.2.2.2.2.2.2.2.2.2.2.2.2.1,pz r.2.2.2.2.2.2.2.2.2.2.2.2.2.2.2.2.2.2.2.1,pz r.2.2.2.2.2.2.2.2.2.2.2.2.2.2.2.2.2.2.2.2.1,pz r.2.2.2.2.2.2.2.2.2.2.2.2.2.2.2.2.2.2.2.2.2.1,pz r.2.2.2.2.2.2.2.2.2.2.2.2.2.2.2.2.2.2.2.2.2.2.1,pz r.2.2.2.2.2.2.2.2.2.2.2.2.2.2.2.2.2.2.2.2.2.2.2])])
noncomputable def yzq (c:az0)(d:az0):T Bool:=
 .cc (bzz c) fun e=>
 .br e
 (.cc (bzz d) fun f=>
 .ret f)
 (.ret false)
noncomputable def jzv (c)(d):=
 mkD Tryz.func290 (yzq c d) 0 [.pure (azd c),.pure (azd d)] [] (fun r=>.pure (.bool r)) (fun _=>[])
noncomputable def wze (c:Int)(d:Int):T Int:=
 .br (decide (d<0))
 (.ret c)
 (.grd (0≤d)<|
 .ret (c.fdiv (2 ^ (min d.toNat 64))))
noncomputable def bzt (c)(d):=
 mkD Tryz.func237 (wze c d) 0 [pz c,pz d] [] (fun r=>pz r) (fun _=>[])
noncomputable def Bzc (c:Int)(d:Int):T Int:=let e:=min d.toNat 64;let f:=c.fdiv (2 ^ e);.br (decide (d<0))
 (.ret c)
 (.grd (0≤d)<|
 .cut 0 (fun (g:Int)=>⟨[(5,pz g)],[],[],0⟩)
 (.grd (0≤d)<|
 .br ((i64.wrap (f * 2 ^ e)) !=c)
 (.oo (i64.wrap (f+1)))
 (.oo f)) fun g=>
 .ret g)
noncomputable def cz5 (c)(d):=
 mkD Tryz.func297 (Bzc c d) 0 [pz c,pz d] [] (fun r=>pz r) (fun _=>[])
noncomputable def wzi (c:Int)(d:Int):T az0:=
 .cc (bzt c 16) fun e=>
 .cc (cz5 d 16) fun f=>
 .cc (hzo e f) fun g=>
 .ret g
noncomputable def wzh (c)(d):=
 mkD Tryz.func291 (wzi c d) 0 [pz c,pz d] [] (fun r=>.pure (azd r)) (fun _=>[])
noncomputable def Ez5 (c:az0)(d:az0):T az0:=let e:=i64.wrap (c.Lo * d.Lo);let f:=i64.wrap (c.Lo * d.Hi);let g:=i64.wrap (c.Hi * d.Lo);let h:=i64.wrap (c.Hi * d.Hi);.cc (jzv (⟨c.Lo,c.Hi⟩:az0) (⟨d.Lo,d.Hi⟩:az0)) fun i=>
 .br (!i)
 (.ret (⟨0,0⟩:az0))
 (.ix 0 4 rfl<|
 .ix 0 4 rfl<|
 .loop (fun (j:Bg)=>⟨[(4,.ptr 0 0),(6,pz j.1),(7,pz j.2.1),(40,.pure (Bz3 (e,f,g,h))),(41,pz j.2.2)],[(0,.box [pz 0,pz 0])],[],1⟩)
 (.exit 0) (fun (j:Ay)=>⟨[(4,.ptr 0 0),(6,pz j.1),(7,pz j.2)],[(0,.box [pz 0,pz 0])],[],1⟩)
 (fun j=>.br (decide (j.2.2<4))
 (.gh j.2.2 4<|
 .name 7000 ((([e,f,g,h]:List Int).getD (j.2.2).toNat 0)) fun k=>
 .nn ((min j.1 k),(max j.2.1 k),(i64.wrap (j.2.2+1))))
 (.oo (j.1,j.2.1)))
 (e,e,0) [] fun j=>
 .cc (wzh j.1 j.2) fun k=>
 .ret k)
noncomputable def azq (c)(d):=
 mkD Tryz.func216 (Ez5 c d) 0 [.pure (azd c),.pure (azd d)] [] (fun r=>.pure (azd r)) (fun _=>[])
noncomputable def Ez1 (c:az0)(d:az0):T az0:=
 .cc (jzv c d) fun e=>
 .br (!e)
 (.ret (⟨0,0⟩:az0))
 (.cc (hzo (i64.wrap (c.Lo+d.Lo)) (i64.wrap (c.Hi+d.Hi))) fun f=>
 .ret f)
noncomputable def azp (c)(d):=
 mkD Tryz.func215 (Ez1 c d) 0 [.pure (azd c),.pure (azd d)] [] (fun r=>.pure (azd r)) (fun _=>[])
noncomputable def yzu (c:Int):T Int:=
 .ret (min (max c (-65536)) 65536)
noncomputable def bzd (c):=
 mkD Tryz.func289 (yzu c) 0 [pz c] [] (fun r=>pz r) (fun _=>[])
set_option maxHeartbeats 8000000 in
set_option maxRecDepth 20000 in
noncomputable def yzt (c:Bo)(d:Bo):T Bo:=
 .unroll 4<|
 .known true<|
 .unroll 4<|
 .known true<|
 .unroll 4<|
 .known true<|
 .ix 0 3 rfl<|
 .ix 0 3 rfl<|
 .ix 0 3 rfl<|
 .ix 0 3 rfl<|
 .cc (azq c.1.1 d.1.1) fun e=>
 .cc (azp (⟨0,0⟩:az0) e) fun f=>
 .lit 13000 (1)<|
 .known true<|
 .ix 0 3 rfl<|
 .ix 1 3 rfl<|
 .ix 1 3 rfl<|
 .ix 0 3 rfl<|
 .cc (azq c.1.2.1 d.2.1.1) fun g=>
 .cc (azp f g) fun h=>
 .lit 13000 (2)<|
 .known true<|
 .ix 0 3 rfl<|
 .ix 2 3 rfl<|
 .ix 2 3 rfl<|
 .ix 0 3 rfl<|
 .cc (azq c.1.2.2 d.2.2.1) fun i=>
 .cc (azp h i) fun j=>
 .lit 13000 (3)<|
 .known false<|
 .cc (bzd j.Lo) fun k=>
 .cc (bzd j.Hi) fun m=>
 .ix 0 3 rfl<|
 .ix 0 3 rfl<|
 .lit 15000 (1)<|
 .known true<|
 .unroll 4<|
 .known true<|
 .ix 0 3 rfl<|
 .ix 0 3 rfl<|
 .ix 0 3 rfl<|
 .ix 1 3 rfl<|
 .cc (azq c.1.1 d.1.2.1) fun n=>
 .cc (azp (⟨0,0⟩:az0) n) fun s=>
 .lit 13000 (1)<|
 .known true<|
 .ix 0 3 rfl<|
 .ix 1 3 rfl<|
 .ix 1 3 rfl<|
 .ix 1 3 rfl<|
 .cc (azq c.1.2.1 d.2.1.2.1) fun t=>
 .cc (azp s t) fun w=>
 .lit 13000 (2)<|
 .known true<|
 .ix 0 3 rfl<|
 .ix 2 3 rfl<|
 .ix 2 3 rfl<|
 .ix 1 3 rfl<|
 .cc (azq c.1.2.2 d.2.2.2.1) fun y=>
 .cc (azp w y) fun z=>
 .lit 13000 (3)<|
 .known false<|
 .cc (bzd z.Lo) fun aa=>
 .cc (bzd z.Hi) fun ab=>
 .ix 0 3 rfl<|
 .ix 1 3 rfl<|
 .lit 15000 (2)<|
 .known true<|
 .unroll 4<|
 .known true<|
 .ix 0 3 rfl<|
 .ix 0 3 rfl<|
 .ix 0 3 rfl<|
 .ix 2 3 rfl<|
 .cc (azq c.1.1 d.1.2.2) fun ac=>
 .cc (azp (⟨0,0⟩:az0) ac) fun ad=>
 .lit 13000 (1)<|
 .known true<|
 .ix 0 3 rfl<|
 .ix 1 3 rfl<|
 .ix 1 3 rfl<|
 .ix 2 3 rfl<|
 .cc (azq c.1.2.1 d.2.1.2.2) fun ae=>
 .cc (azp ad ae) fun af=>
 .lit 13000 (2)<|
 .known true<|
 .ix 0 3 rfl<|
 .ix 2 3 rfl<|
 .ix 2 3 rfl<|
 .ix 2 3 rfl<|
 .cc (azq c.1.2.2 d.2.2.2.2) fun ag=>
 .cc (azp af ag) fun ah=>
 .lit 13000 (3)<|
 .known false<|
 .cc (bzd ah.Lo) fun ai=>
 .cc (bzd ah.Hi) fun aj=>
 .ix 0 3 rfl<|
 .ix 2 3 rfl<|
 .lit 15000 (3)<|
 .known false<|
 .lit 16000 (1)<|
 .known true<|
 .unroll 4<|
 .known true<|
 .unroll 4<|
 .known true<|
 .ix 1 3 rfl<|
 .ix 0 3 rfl<|
 .ix 0 3 rfl<|
 .ix 0 3 rfl<|
 .cc (azq c.2.1.1 d.1.1) fun ak=>
 .cc (azp (⟨0,0⟩:az0) ak) fun al=>
 .lit 13000 (1)<|
 .known true<|
 .ix 1 3 rfl<|
 .ix 1 3 rfl<|
 .ix 1 3 rfl<|
 .ix 0 3 rfl<|
 .cc (azq c.2.1.2.1 d.2.1.1) fun am=>
 .cc (azp al am) fun an=>
 .lit 13000 (2)<|
 .known true<|
 .ix 1 3 rfl<|
 .ix 2 3 rfl<|
 .ix 2 3 rfl<|
 .ix 0 3 rfl<|
 .cc (azq c.2.1.2.2 d.2.2.1) fun ao=>
 .cc (azp an ao) fun ap=>
 .lit 13000 (3)<|
 .known false<|
 .cc (bzd ap.Lo) fun aq=>
 .cc (bzd ap.Hi) fun ar=>
 .ix 1 3 rfl<|
 .ix 0 3 rfl<|
 .lit 15000 (1)<|
 .known true<|
 .unroll 4<|
 .known true<|
 .ix 1 3 rfl<|
 .ix 0 3 rfl<|
 .ix 0 3 rfl<|
 .ix 1 3 rfl<|
 .cc (azq c.2.1.1 d.1.2.1) fun au=>
 .cc (azp (⟨0,0⟩:az0) au) fun av=>
 .lit 13000 (1)<|
 .known true<|
 .ix 1 3 rfl<|
 .ix 1 3 rfl<|
 .ix 1 3 rfl<|
 .ix 1 3 rfl<|
 .cc (azq c.2.1.2.1 d.2.1.2.1) fun aw=>
 .cc (azp av aw) fun ax=>
 .lit 13000 (2)<|
 .known true<|
 .ix 1 3 rfl<|
 .ix 2 3 rfl<|
 .ix 2 3 rfl<|
 .ix 1 3 rfl<|
 .cc (azq c.2.1.2.2 d.2.2.2.1) fun ay=>
 .cc (azp ax ay) fun az=>
 .lit 13000 (3)<|
 .known false<|
 .cc (bzd az.Lo) fun a0=>
 .cc (bzd az.Hi) fun a1=>
 .ix 1 3 rfl<|
 .ix 1 3 rfl<|
 .lit 15000 (2)<|
 .known true<|
 .unroll 4<|
 .known true<|
 .ix 1 3 rfl<|
 .ix 0 3 rfl<|
 .ix 0 3 rfl<|
 .ix 2 3 rfl<|
 .cc (azq c.2.1.1 d.1.2.2) fun a2=>
 .cc (azp (⟨0,0⟩:az0) a2) fun a3=>
 .lit 13000 (1)<|
 .known true<|
 .ix 1 3 rfl<|
 .ix 1 3 rfl<|
 .ix 1 3 rfl<|
 .ix 2 3 rfl<|
 .cc (azq c.2.1.2.1 d.2.1.2.2) fun a4=>
 .cc (azp a3 a4) fun a5=>
 .lit 13000 (2)<|
 .known true<|
 .ix 1 3 rfl<|
 .ix 2 3 rfl<|
 .ix 2 3 rfl<|
 .ix 2 3 rfl<|
 .cc (azq c.2.1.2.2 d.2.2.2.2) fun a6=>
 .cc (azp a5 a6) fun a7=>
 .lit 13000 (3)<|
 .known false<|
 .cc (bzd a7.Lo) fun a8=>
 .cc (bzd a7.Hi) fun a9=>
 .ix 1 3 rfl<|
 .ix 2 3 rfl<|
 .lit 15000 (3)<|
 .known false<|
 .lit 16000 (2)<|
 .known true<|
 .unroll 4<|
 .known true<|
 .unroll 4<|
 .known true<|
 .ix 2 3 rfl<|
 .ix 0 3 rfl<|
 .ix 0 3 rfl<|
 .ix 0 3 rfl<|
 .cc (azq c.2.2.1 d.1.1) fun ba=>
 .cc (azp (⟨0,0⟩:az0) ba) fun bb=>
 .lit 13000 (1)<|
 .known true<|
 .ix 2 3 rfl<|
 .ix 1 3 rfl<|
 .ix 1 3 rfl<|
 .ix 0 3 rfl<|
 .cc (azq c.2.2.2.1 d.2.1.1) fun bc=>
 .cc (azp bb bc) fun bd=>
 .lit 13000 (2)<|
 .known true<|
 .ix 2 3 rfl<|
 .ix 2 3 rfl<|
 .ix 2 3 rfl<|
 .ix 0 3 rfl<|
 .cc (azq c.2.2.2.2 d.2.2.1) fun be=>
 .cc (azp bd be) fun bf=>
 .lit 13000 (3)<|
 .known false<|
 .cc (bzd bf.Lo) fun bg=>
 .cc (bzd bf.Hi) fun bh=>
 .ix 2 3 rfl<|
 .ix 0 3 rfl<|
 .lit 15000 (1)<|
 .known true<|
 .unroll 4<|
 .known true<|
 .ix 2 3 rfl<|
 .ix 0 3 rfl<|
 .ix 0 3 rfl<|
 .ix 1 3 rfl<|
 .cc (azq c.2.2.1 d.1.2.1) fun bi=>
 .cc (azp (⟨0,0⟩:az0) bi) fun bj=>
 .lit 13000 (1)<|
 .known true<|
 .ix 2 3 rfl<|
 .ix 1 3 rfl<|
 .ix 1 3 rfl<|
 .ix 1 3 rfl<|
 .cc (azq c.2.2.2.1 d.2.1.2.1) fun bk=>
 .cc (azp bj bk) fun bl=>
 .lit 13000 (2)<|
 .known true<|
 .ix 2 3 rfl<|
 .ix 2 3 rfl<|
 .ix 2 3 rfl<|
 .ix 1 3 rfl<|
 .cc (azq c.2.2.2.2 d.2.2.2.1) fun bm=>
 .cc (azp bl bm) fun bn=>
 .lit 13000 (3)<|
 .known false<|
 .cc (bzd bn.Lo) fun bo=>
 .cc (bzd bn.Hi) fun bp=>
 .ix 2 3 rfl<|
 .ix 1 3 rfl<|
 .lit 15000 (2)<|
 .known true<|
 .unroll 4<|
 .known true<|
 .ix 2 3 rfl<|
 .ix 0 3 rfl<|
 .ix 0 3 rfl<|
 .ix 2 3 rfl<|
 .cc (azq c.2.2.1 d.1.2.2) fun bq=>
 .cc (azp (⟨0,0⟩:az0) bq) fun bs=>
 .lit 13000 (1)<|
 .known true<|
 .ix 2 3 rfl<|
 .ix 1 3 rfl<|
 .ix 1 3 rfl<|
 .ix 2 3 rfl<|
 .cc (azq c.2.2.2.1 d.2.1.2.2) fun bt=>
 .cc (azp bs bt) fun bu=>
 .lit 13000 (2)<|
 .known true<|
 .ix 2 3 rfl<|
 .ix 2 3 rfl<|
 .ix 2 3 rfl<|
 .ix 2 3 rfl<|
 .cc (azq c.2.2.2.2 d.2.2.2.2) fun bv=>
 .cc (azp bu bv) fun bw=>
 .lit 13000 (3)<|
 .known false<|
 .cc (bzd bw.Lo) fun bx=>
 .cc (bzd bw.Hi) fun bz=>
 .ix 2 3 rfl<|
 .ix 2 3 rfl<|
 .lit 15000 (3)<|
 .known false<|
 .lit 16000 (3)<|
 .known false<|
 .ret (((⟨k,m⟩:az0),(⟨aa,ab⟩:az0),(⟨ai,aj⟩:az0)),((⟨aq,ar⟩:az0),(⟨a0,a1⟩:az0),(⟨a8,a9⟩:az0)),((⟨bg,bh⟩:az0),(⟨bo,bp⟩:az0),(⟨bx,bz⟩:az0)))
noncomputable def yzs (c)(d):=
 mkD Tryz.func212 (yzt c d) 0 [.pure (bzj c),.pure (bzj d)] [] (fun r=>.pure (bzj r)) (fun _=>[])
noncomputable def Eza (c:Bo)(d:Bm):T Bm:=
 .unroll 4<|
 .known true<|
 .unroll 4<|
 .known true<|
 .ix 0 3 rfl<|
 .ix 0 3 rfl<|
 .ix 0 3 rfl<|
 .ix 0 3 rfl<|
 .cc (azq c.1.1 d.1) fun e=>
 .cc (azp (⟨0,0⟩:az0) e) fun f=>
 .ix 0 3 rfl<|
 .lit 9000 (1)<|
 .known true<|
 .ix 0 3 rfl<|
 .ix 0 3 rfl<|
 .ix 1 3 rfl<|
 .ix 1 3 rfl<|
 .cc (azq c.1.2.1 d.2.1) fun g=>
 .cc (azp f g) fun h=>
 .ix 0 3 rfl<|
 .lit 9000 (2)<|
 .known true<|
 .ix 0 3 rfl<|
 .ix 0 3 rfl<|
 .ix 2 3 rfl<|
 .ix 2 3 rfl<|
 .cc (azq c.1.2.2 d.2.2) fun i=>
 .cc (azp h i) fun j=>
 .ix 0 3 rfl<|
 .lit 9000 (3)<|
 .known false<|
 .lit 10000 (1)<|
 .known true<|
 .unroll 4<|
 .known true<|
 .ix 1 3 rfl<|
 .ix 1 3 rfl<|
 .ix 0 3 rfl<|
 .ix 0 3 rfl<|
 .cc (azq c.2.1.1 d.1) fun k=>
 .cc (azp (⟨0,0⟩:az0) k) fun m=>
 .ix 1 3 rfl<|
 .lit 9000 (1)<|
 .known true<|
 .ix 1 3 rfl<|
 .ix 1 3 rfl<|
 .ix 1 3 rfl<|
 .ix 1 3 rfl<|
 .cc (azq c.2.1.2.1 d.2.1) fun n=>
 .cc (azp m n) fun s=>
 .ix 1 3 rfl<|
 .lit 9000 (2)<|
 .known true<|
 .ix 1 3 rfl<|
 .ix 1 3 rfl<|
 .ix 2 3 rfl<|
 .ix 2 3 rfl<|
 .cc (azq c.2.1.2.2 d.2.2) fun t=>
 .cc (azp s t) fun w=>
 .ix 1 3 rfl<|
 .lit 9000 (3)<|
 .known false<|
 .lit 10000 (2)<|
 .known true<|
 .unroll 4<|
 .known true<|
 .ix 2 3 rfl<|
 .ix 2 3 rfl<|
 .ix 0 3 rfl<|
 .ix 0 3 rfl<|
 .cc (azq c.2.2.1 d.1) fun y=>
 .cc (azp (⟨0,0⟩:az0) y) fun z=>
 .ix 2 3 rfl<|
 .lit 9000 (1)<|
 .known true<|
 .ix 2 3 rfl<|
 .ix 2 3 rfl<|
 .ix 1 3 rfl<|
 .ix 1 3 rfl<|
 .cc (azq c.2.2.2.1 d.2.1) fun aa=>
 .cc (azp z aa) fun ab=>
 .ix 2 3 rfl<|
 .lit 9000 (2)<|
 .known true<|
 .ix 2 3 rfl<|
 .ix 2 3 rfl<|
 .ix 2 3 rfl<|
 .ix 2 3 rfl<|
 .cc (azq c.2.2.2.2 d.2.2) fun ac=>
 .cc (azp ab ac) fun ad=>
 .ix 2 3 rfl<|
 .lit 9000 (3)<|
 .known false<|
 .lit 10000 (3)<|
 .known false<|
 .ret (j,w,ad)
noncomputable def Ez9 (c)(d):=
 mkD Tryz.func153 (Eza c d) 0 [.pure (bzj c),.pure (az3 d)] [] (fun r=>.pure (az3 r)) (fun _=>[])
noncomputable def Jzf (c:Bm)(d:Bm):T Bm:=
 .unroll 4<|
 .known true<|
 .ix 0 3 rfl<|
 .ix 0 3 rfl<|
 .cc (azp c.1 d.1) fun e=>
 .ix 0 3 rfl<|
 .lit 6000 (1)<|
 .known true<|
 .ix 1 3 rfl<|
 .ix 1 3 rfl<|
 .cc (azp c.2.1 d.2.1) fun f=>
 .ix 1 3 rfl<|
 .lit 6000 (2)<|
 .known true<|
 .ix 2 3 rfl<|
 .ix 2 3 rfl<|
 .cc (azp c.2.2 d.2.2) fun g=>
 .ix 2 3 rfl<|
 .lit 6000 (3)<|
 .known false<|
 .ret (e,f,g)
noncomputable def Jze (c)(d):=
 mkD Tryz.func152 (Jzf c d) 0 [.pure (az3 c),.pure (az3 d)] [] (fun r=>.pure (az3 r)) (fun _=>[])
noncomputable def Ezr (c:Bm)(d:Int)(e:Int)(f:Int)(g:Int)(h:Int)(i:Int)(j:Int)(k:Int)(m:Int)(n:Int)(s:Int)(t:Int)(w:Int)(y:Int)(z:Int)(aa:Int)(ab:Int)(ac:Int)(ad:Int)(ae:Int)(af:Int)(ag:Int)(ah:Int)(ai:Int):T (Bm×Int×Int×Int×Int×Int×Int×Int×Int×Int×Int×Int×Int×Int×Int×Int×Int×Int×Int×Int×Int×Int×Int×Int×Int):=
 .cc (Ez9 (((⟨d,e⟩:az0),(⟨f,g⟩:az0),(⟨h,i⟩:az0)),((⟨j,k⟩:az0),(⟨m,n⟩:az0),(⟨s,t⟩:az0)),((⟨w,y⟩:az0),(⟨z,aa⟩:az0),(⟨ab,ac⟩:az0))) ((⟨c.1.Lo,c.1.Hi⟩:az0),(⟨c.2.1.Lo,c.2.1.Hi⟩:az0),(⟨c.2.2.Lo,c.2.2.Hi⟩:az0))) fun aj=>
 .cc (Jze ((⟨ad,ae⟩:az0),(⟨af,ag⟩:az0),(⟨ah,ai⟩:az0)) aj) fun ak=>
 .ret (ak,d,e,f,g,h,i,j,k,m,n,s,t,w,y,z,aa,ab,ac,ad,ae,af,ag,ah,ai)
noncomputable def sza (c)(d)(e)(f)(g)(h)(i)(j)(k)(m)(n)(s)(t)(w)(y)(z)(aa)(ab)(ac)(ad)(ae)(af)(ag)(ah)(ai):=
 mkD Tryz.func151 (Ezr c d e f g h i j k m n s t w y z aa ab ac ad ae af ag ah ai) 1 [.pure (az3 c),.ptr 0 0] [(0,.box [pz d,pz e,pz f,pz g,pz h,pz i,pz j,pz k,pz m,pz n,pz s,pz t,pz w,pz y,pz z,pz aa,pz ab,pz ac,pz ad,pz ae,pz af,pz ag,pz ah,pz ai])] (fun r=>.pure (az3 r.1)) (fun r=>[(0,.box [pz r.2.1,pz r.2.2.1,pz r.2.2.2.1,pz r.2.2.2.2.1,pz r.2.2.2.2.2.1,pz r.2.2.2.2.2.2.1,pz r.2.2.2.2.2.2.2.1,pz r.2.2.2.2.2.2.2.2.1,pz r.2.2.2.2.2.2.2.2.2.1,pz r.2.2.2.2.2.2.2.2.2.2.1,pz r.2.2.2.2.2.2.2.2.2.2.2.1,pz r.2.2.2.2.2.2.2.2.2.2.2.2.1,pz r.2.2.2.2.2.2.2.2.2.2.2.2.2.1,pz r.2.2.2.2.2.2.2.2.2.2.2.2.2.2.1,pz r.2.2.2.2.2.2.2.2.2.2.2.2.2.2.2.1,pz r.2.2.2.2.2.2.2.2.2.2.2.2.2.2.2.2.1,pz r.2.2.2.2.2.2.2.2.2.2.2.2.2.2.2.2.2.1,pz r.2.2.2.2.2.2.2.2.2.2.2.2.2.2.2.2.2.2.1,pz r.2.2.2.2.2.2.2.2.2.2.2.2.2.2.2.2.2.2.2.1,pz r.2.2.2.2.2.2.2.2.2.2.2.2.2.2.2.2.2.2.2.2.1,pz r.2.2.2.2.2.2.2.2.2.2.2.2.2.2.2.2.2.2.2.2.2.1,pz r.2.2.2.2.2.2.2.2.2.2.2.2.2.2.2.2.2.2.2.2.2.2.1,pz r.2.2.2.2.2.2.2.2.2.2.2.2.2.2.2.2.2.2.2.2.2.2.2.1,pz r.2.2.2.2.2.2.2.2.2.2.2.2.2.2.2.2.2.2.2.2.2.2.2.2])])
noncomputable def Ezq (c:czk)(d:czk):T czk:=
 .cc (xzz c) fun e=>
 .cc (yzs c.R d.R) fun f=>
 .call (sza d.T e.1 e.2.1 e.2.2.1 e.2.2.2.1 e.2.2.2.2.1 e.2.2.2.2.2.1 e.2.2.2.2.2.2.1 e.2.2.2.2.2.2.2.1 e.2.2.2.2.2.2.2.2.1 e.2.2.2.2.2.2.2.2.2.1 e.2.2.2.2.2.2.2.2.2.2.1 e.2.2.2.2.2.2.2.2.2.2.2.1 e.2.2.2.2.2.2.2.2.2.2.2.2.1 e.2.2.2.2.2.2.2.2.2.2.2.2.2.1 e.2.2.2.2.2.2.2.2.2.2.2.2.2.2.1 e.2.2.2.2.2.2.2.2.2.2.2.2.2.2.2.1 e.2.2.2.2.2.2.2.2.2.2.2.2.2.2.2.2.1 e.2.2.2.2.2.2.2.2.2.2.2.2.2.2.2.2.2.1 e.2.2.2.2.2.2.2.2.2.2.2.2.2.2.2.2.2.2.1 e.2.2.2.2.2.2.2.2.2.2.2.2.2.2.2.2.2.2.2.1 e.2.2.2.2.2.2.2.2.2.2.2.2.2.2.2.2.2.2.2.2.1 e.2.2.2.2.2.2.2.2.2.2.2.2.2.2.2.2.2.2.2.2.2.1 e.2.2.2.2.2.2.2.2.2.2.2.2.2.2.2.2.2.2.2.2.2.2.1 e.2.2.2.2.2.2.2.2.2.2.2.2.2.2.2.2.2.2.2.2.2.2.2) [(0,256)] fun g=>
 .ret (⟨(f.1,f.2.1,f.2.2),g.1⟩:czk)
noncomputable def jz8 (c)(d):=
 mkD Tryz.func147 (Ezq c d) 0 [.pure (dz1 c),.pure (dz1 d)] [] (fun r=>.pure (dz1 r)) (fun _=>[])
noncomputable def Izk (c:Int)(d:az0):T czk:=
 .cut 2 (fun (e:C6)=>⟨[(4,.ptr 0 0),(5,.ptr 1 0)],[(0,.box [pz 0,pz 0,pz 0,pz 0,pz 0,pz 0,pz 0,pz 0,pz 0,pz 0,pz 0,pz 0,pz 0,pz 0,pz 0,pz 0,pz 0,pz 0,pz 0,pz 0,pz 0,pz 0,pz 0,pz 0]),(1,.box [pz e.1,pz e.2.1,pz e.2.2.1,pz e.2.2.2.1,pz e.2.2.2.2.1,pz e.2.2.2.2.2])],[],2⟩)
 (.cas 2000 c 0
 (.ix 0 3 rfl<|
 .oo (d.Lo,d.Hi,0,0,0,0))
 (.cas 2000 c 1
 (.ix 1 3 rfl<|
 .oo (0,0,d.Lo,d.Hi,0,0))
 (.cas 2000 c 2
 (.ix 2 3 rfl<|
 .oo (0,0,0,0,d.Lo,d.Hi))
 (.stop)))) fun e=>
 .cc (qzg ((⟨e.1,e.2.1⟩:az0),(⟨e.2.2.1,e.2.2.2.1⟩:az0),(⟨e.2.2.2.2.1,e.2.2.2.2.2⟩:az0))) fun f=>
 .ret f
noncomputable def Izj (c)(d):=
 mkD Tryz.func287 (Izk c d) 0 [pz c,.pure (azd d)] [] (fun r=>.pure (dz1 r)) (fun _=>[])
noncomputable def yzp (c:az0):T Int:=
 .cc (bzz c) fun d=>
 .br (!d)
 (.ret 0)
 (.ret (i64.wrap (c.Hi-c.Lo)))
noncomputable def ozy (c):=
 mkD Tryz.func464 (yzp c) 0 [.pure (azd c)] [] (fun r=>pz r) (fun _=>[])
noncomputable def Azl (c:Int):T Int:=
 .ret (i64.wrap (((BitVec.ofInt 64 c&&&BitVec.ofInt 64 65535).toNat:Int)))
noncomputable def lz0 (c):=
 mkD Tryz.func467 (Azl c) 0 [pz c] [] (fun r=>pz r) (fun _=>[])
noncomputable def yzb (c:Int):T (Cg×Cg):=
 .ix 0 11 rfl<|
 .ix 0 11 rfl<|
 .cc (bzt (i64.wrap (c * 6746518852)) 16) fun d=>
 .ix 1 11 rfl<|
 .cc (cz5 (i64.wrap (c * 6746518853)) 16) fun e=>
 .ix 1 11 rfl<|
 .unroll 10<|
 .known true<|
 .lit 8002 (1)<|
 .ix 1 11 rfl<|
 .ix 1 11 rfl<|
 .cc (bzt (i64.wrap (d * d)) 30) fun f=>
 .ix 2 11 rfl<|
 .lit 9002 (1)<|
 .ix 1 11 rfl<|
 .ix 1 11 rfl<|
 .cc (cz5 (i64.wrap (e * e)) 30) fun g=>
 .ix 2 11 rfl<|
 .lit 7001 (3)<|
 .known true<|
 .lit 8002 (2)<|
 .ix 2 11 rfl<|
 .ix 1 11 rfl<|
 .cc (bzt (i64.wrap (f * d)) 30) fun h=>
 .ix 3 11 rfl<|
 .lit 9002 (2)<|
 .ix 2 11 rfl<|
 .ix 1 11 rfl<|
 .cc (cz5 (i64.wrap (g * e)) 30) fun i=>
 .ix 3 11 rfl<|
 .lit 7001 (4)<|
 .known true<|
 .lit 8002 (3)<|
 .ix 3 11 rfl<|
 .ix 1 11 rfl<|
 .cc (bzt (i64.wrap (h * d)) 30) fun j=>
 .ix 4 11 rfl<|
 .lit 9002 (3)<|
 .ix 3 11 rfl<|
 .ix 1 11 rfl<|
 .cc (cz5 (i64.wrap (i * e)) 30) fun k=>
 .ix 4 11 rfl<|
 .lit 7001 (5)<|
 .known true<|
 .lit 8002 (4)<|
 .ix 4 11 rfl<|
 .ix 1 11 rfl<|
 .cc (bzt (i64.wrap (j * d)) 30) fun m=>
 .ix 5 11 rfl<|
 .lit 9002 (4)<|
 .ix 4 11 rfl<|
 .ix 1 11 rfl<|
 .cc (cz5 (i64.wrap (k * e)) 30) fun n=>
 .ix 5 11 rfl<|
 .lit 7001 (6)<|
 .known true<|
 .lit 8002 (5)<|
 .ix 5 11 rfl<|
 .ix 1 11 rfl<|
 .cc (bzt (i64.wrap (m * d)) 30) fun s=>
 .ix 6 11 rfl<|
 .lit 9002 (5)<|
 .ix 5 11 rfl<|
 .ix 1 11 rfl<|
 .cc (cz5 (i64.wrap (n * e)) 30) fun t=>
 .ix 6 11 rfl<|
 .lit 7001 (7)<|
 .known true<|
 .lit 8002 (6)<|
 .ix 6 11 rfl<|
 .ix 1 11 rfl<|
 .cc (bzt (i64.wrap (s * d)) 30) fun w=>
 .ix 7 11 rfl<|
 .lit 9002 (6)<|
 .ix 6 11 rfl<|
 .ix 1 11 rfl<|
 .cc (cz5 (i64.wrap (t * e)) 30) fun y=>
 .ix 7 11 rfl<|
 .lit 7001 (8)<|
 .known true<|
 .lit 8002 (7)<|
 .ix 7 11 rfl<|
 .ix 1 11 rfl<|
 .cc (bzt (i64.wrap (w * d)) 30) fun z=>
 .ix 8 11 rfl<|
 .lit 9002 (7)<|
 .ix 7 11 rfl<|
 .ix 1 11 rfl<|
 .cc (cz5 (i64.wrap (y * e)) 30) fun aa=>
 .ix 8 11 rfl<|
 .lit 7001 (9)<|
 .known true<|
 .lit 8002 (8)<|
 .ix 8 11 rfl<|
 .ix 1 11 rfl<|
 .cc (bzt (i64.wrap (z * d)) 30) fun ab=>
 .ix 9 11 rfl<|
 .lit 9002 (8)<|
 .ix 8 11 rfl<|
 .ix 1 11 rfl<|
 .cc (cz5 (i64.wrap (aa * e)) 30) fun ac=>
 .ix 9 11 rfl<|
 .lit 7001 (10)<|
 .known true<|
 .lit 8002 (9)<|
 .ix 9 11 rfl<|
 .ix 1 11 rfl<|
 .cc (bzt (i64.wrap (ab * d)) 30) fun ad=>
 .ix 10 11 rfl<|
 .lit 9002 (9)<|
 .ix 9 11 rfl<|
 .ix 1 11 rfl<|
 .cc (cz5 (i64.wrap (ac * e)) 30) fun ae=>
 .ix 10 11 rfl<|
 .lit 7001 (11)<|
 .known false<|
 .ret ((1073741824,d,f,h,j,m,s,w,z,ab,ad),(1073741824,e,g,i,k,n,t,y,aa,ac,ae))
noncomputable def ozu (c):=
 mkD Tryz.func473 (yzb c) 0 [pz c] [] (fun r=>.tup [.pure (ozx r.1),.pure (ozx r.2)]) (fun _=>[])
noncomputable def Azk (c:Int)(d:Int):T Int:=
 .grd (d≠0)<|
 .ret (i64.wrap ((i64.wrap ((i64.wrap (c+d))-1)).tdiv d))
noncomputable def dz0 (c)(d):=
 mkD Tryz.func475 (Azk c d) 0 [pz c,pz d] [] (fun r=>pz r) (fun _=>[])
noncomputable def szk (c:A0):T Int:=let d:=(c.length:Nat);.loop (fun (e:Bg)=>⟨[(3,pz e.1),(4,pz e.2.1),(7,.pure (encL 1 az1 c)),(8,pz (d:Int)),(9,pz e.2.2)],[],[],0⟩)
 (.exit 0) (fun (e:Int)=>⟨[(3,pz e)],[],[],0⟩)
 (fun e=>.br (decide (e.2.2<(d:Int)))
 (.gh e.2.2 c.length<|
 .nn ((i64.wrap (e.1+(i64.wrap (e.2.1 * (c.getD ((e.2.2).toNat) default))))),(i64.wrap (0-e.2.1)),(i64.wrap (e.2.2+1))))
 (.oo e.1))
 (0,1,0) [] fun e=>
 .ret e
noncomputable def fz2 (c):=
 mkD Tryz.func474 (szk c) 0 [.pure (encL 1 az1 c)] [] (fun r=>pz r) (fun _=>[])
noncomputable def vzz (c:Int)(d:Int):T az0:=
 .cc (bzt c 14) fun e=>
 .cc (cz5 d 14) fun f=>
 .ret (⟨(max 0 e),(min 65536 f)⟩:az0)
noncomputable def nz1 (c)(d):=
 mkD Tryz.func476 (vzz c d) 0 [pz c,pz d] [] (fun r=>.pure (azd r)) (fun _=>[])
noncomputable def Izh (c:Int):T az0:=
 .cc (ozu c) fun d=>
 .ix 1 11 rfl<|
 .ix 3 11 rfl<|
 .cc (dz0 d.2.2.2.2.1 6) fun e=>
 .ix 5 11 rfl<|
 .ok ((120:Int)≠0) (by decide)<|
 .ix 7 11 rfl<|
 .cc (dz0 d.2.2.2.2.2.2.2.2.1 5040) fun f=>let g:=([d.1.2.1,e,(i64.wrap (d.1.2.2.2.2.2.1.tdiv 120)),f]:A0);
 .conv 2011 (bzl 1 az1 g 2)<|
 .cc (fz2 g) fun h=>
 .ix 1 11 rfl<|
 .ix 3 11 rfl<|
 .ok ((6:Int)≠0) (by decide)<|
 .ix 5 11 rfl<|
 .cc (dz0 d.2.2.2.2.2.2.1 120) fun i=>
 .ix 7 11 rfl<|
 .ok ((5040:Int)≠0) (by decide)<|
 .ix 9 11 rfl<|
 .cc (dz0 d.2.2.2.2.2.2.2.2.2.2.1 362880) fun j=>let k:=([d.2.2.1,(i64.wrap (d.1.2.2.2.1.tdiv 6)),i,(i64.wrap (d.1.2.2.2.2.2.2.2.1.tdiv 5040)),j]:A0);
 .conv 3014 (bzl 1 az1 k 2)<|
 .cc (fz2 k) fun m=>
 .cc (nz1 h m) fun n=>
 .ret n
noncomputable def Izg (c):=
 mkD Tryz.func471 (Izh c) 0 [pz c] [] (fun r=>.pure (azd r)) (fun _=>[])
noncomputable def Dzj (c:Int):T az0:=
 .cc (ozu c) fun d=>
 .ix 2 11 rfl<|
 .cc (dz0 d.2.2.2.1 2) fun e=>
 .ix 4 11 rfl<|
 .ok ((24:Int)≠0) (by decide)<|
 .ix 6 11 rfl<|
 .cc (dz0 d.2.2.2.2.2.2.2.1 720) fun f=>
 .ix 8 11 rfl<|
 .ok ((40320:Int)≠0) (by decide)<|
 .ix 10 11 rfl<|
 .cc (dz0 d.2.2.2.2.2.2.2.2.2.2.2 3628800) fun g=>let h:=([1073741824,e,(i64.wrap (d.1.2.2.2.2.1.tdiv 24)),f,(i64.wrap (d.1.2.2.2.2.2.2.2.2.1.tdiv 40320)),g]:A0);
 .conv 2015 (bzl 1 az1 h 2)<|
 .cc (fz2 h) fun i=>
 .ix 2 11 rfl<|
 .ok ((2:Int)≠0) (by decide)<|
 .ix 4 11 rfl<|
 .cc (dz0 d.2.2.2.2.2.1 24) fun j=>
 .ix 6 11 rfl<|
 .ok ((720:Int)≠0) (by decide)<|
 .ix 8 11 rfl<|
 .cc (dz0 d.2.2.2.2.2.2.2.2.2.1 40320) fun k=>let m:=([1073741824,(i64.wrap (d.1.2.2.1.tdiv 2)),j,(i64.wrap (d.1.2.2.2.2.2.2.1.tdiv 720)),k]:A0);
 .conv 3012 (bzl 1 az1 m 2)<|
 .cc (fz2 m) fun n=>
 .cc (nz1 i n) fun s=>
 .ret s
noncomputable def Dzi (c):=
 mkD Tryz.func472 (Dzj c) 0 [pz c] [] (fun r=>.pure (azd r)) (fun _=>[])
noncomputable def Gz1 (c:Int):T az0:=
 .br (decide (c≤8192))
 (.cc (Izg c) fun d=>
 .ret d)
 (.cc (Dzi (i64.wrap (16384-c))) fun d=>
 .ret d)
noncomputable def kze (c):=
 mkD Tryz.func468 (Gz1 c) 0 [pz c] [] (fun r=>.pure (azd r)) (fun _=>[])
noncomputable def Ez6 (c:az0):T az0:=
 .cc (bzz c) fun d=>
 .br (!d)
 (.ret (⟨0,0⟩:az0))
 (.ret (⟨(i64.wrap (0-c.Hi)),(i64.wrap (0-c.Lo))⟩:az0))
noncomputable def mzq (c):=
 mkD Tryz.func428 (Ez6 c) 0 [.pure (azd c)] [] (fun r=>.pure (azd r)) (fun _=>[])
noncomputable def Kzl (c:Int):T az0:=
 .cc (lz0 c) fun d=>let e:=d.tmod 16384;let f:=i64.wrap (d.tdiv 16384);let g:=i64.wrap (16384-e);
 .ok ((16384:Int)≠0) (by decide)<|
 .ok ((16384:Int)≠0) (by decide)<|
 .br (f==0)
 (.cc (kze e) fun h=>
 .ret h)
 (.br (f==1)
 (.cc (kze g) fun h=>
 .ret h)
 (.br (f==2)
 (.cc (kze e) fun h=>
 .cc (mzq h) fun i=>
 .ret i)
 (.cc (kze g) fun h=>
 .cc (mzq h) fun i=>
 .ret i)))
noncomputable def szj (c):=
 mkD Tryz.func457 (Kzl c) 0 [pz c] [] (fun r=>.pure (azd r)) (fun _=>[])
noncomputable def Kzk (c:Int):T az0:=
 .cc (lz0 c) fun d=>
 .cc (szj (i64.wrap (d+16384))) fun e=>
 .ret e
noncomputable def Azh (c):=
 mkD Tryz.func456 (Kzk c) 0 [pz c] [] (fun r=>.pure (azd r)) (fun _=>[])
end Go.Abs
