/-
  M2 (a part of a claim: our own text).
-/
import Derived.Test.YtfodaccgmcljoaaGreatYDM1
namespace Go.Abs
open IntKind (i64)
open Go.Proofs
noncomputable def kzf (c:azl)(d:Int):T Int:=let e:=c.Joints.getD (d.toNat) default;let f:=e.Name;let g:=e.Kind;let h:=e.Parent;let i:Nat×Res:=(0,.box [.pure (.str f),pz g,pz h,pz (e.Offset.1),pz (e.Offset.2.1),pz (e.Offset.2.2),pz (e.Lo),pz (e.Hi),pz (e.Weight),pz (e.Speed),pz (e.Accel),pz (e.Torque)]);.gh d c.Joints.length<|
 .cut 1 (fun (j:Bool)=>⟨[(1,pz d),(5,.ptr 0 0),(12,.pure (.bool j))],[i],[],1⟩)
 (.cc (Gzc f) fun j=>
 .br (!j)
 (.oo true)
 (.cc (Gz7 (⟨c.Joints,c.Masses⟩:azl) f) fun k=>
 .oo (k !=d))) fun j=>
 .br j
 (.ret 802)
 (.cut 0 (fun (k:Bool)=>⟨[(1,pz d),(5,.ptr 0 0),(25,.pure (.bool k))],[i],[],1⟩)
 (.br (decide (g<0))
 (.oo true)
 (.oo (decide (g>6)))) fun k=>
 .br k
 (.ret 803)
 (.cut 0 (fun (m:Bool)=>⟨[(5,.ptr 0 0),(34,.pure (.bool m))],[i],[],1⟩)
 (.br (decide (h<(-1)))
 (.oo true)
 (.oo (decide (h≥d)))) fun m=>
 .br m
 (.ret 804)
 (.cc (szk (e.Offset)) fun n=>
 .br n
 (.ret 805)
 (.cc (Dzb g) fun q=>
 .cut 1 (fun (s:Bool)=>⟨[(5,.ptr 0 0),(68,.pure (.bool s))],[i],[],1⟩)
 (.br (decide ((e.Lo)>(e.Hi)))
 (.oo true)
 (.br (decide ((e.Lo)<(i64.wrap (0-q))))
 (.oo true)
 (.oo (decide ((e.Hi)>q))))) fun s=>
 .br s
 (.ret 806)
 (.cut 1 (fun (t:Bool)=>⟨[(90,.pure (.bool t))],[],[],0⟩)
 (.cc (hzq (e.Weight) 1024) fun t=>
 .br (!t)
 (.oo true)
 (.cc (hzq (e.Speed) 1048576) fun w=>
 .br (!w)
 (.oo true)
 (.cc (hzq (e.Accel) 1048576) fun y=>
 .br (!y)
 (.oo true)
 (.cc (hzq (e.Torque) 1099511627776) fun z=>
 .oo (!z))))) fun t=>
 .br t
 (.ret 807)
 (.ret 0))))))
noncomputable def qzs (c)(d):=
 mkD Tryz.func98 (kzf c d) 0 [.pure (czp c),pz d] [] (fun r=>pz r) (fun _=>[])
noncomputable def lzf (c:azl)(d:bzw):T Bool:=
 .br (decide (0≤d.Link))
 (.br (decide (d.Link<(c.Joints.length:Int)))
 (.cc (hzq d.Mass 65536) fun e=>
 .br e
 (.cc (szk d.Point) fun f=>
 .ret (!f))
 (.ret false))
 (.ret false))
 (.ret false)
noncomputable def tzi (c)(d):=
 mkD Tryz.func101 (lzf c d) 0 [.pure (czp c),.pure (azj d)] [] (fun r=>.pure (.bool r)) (fun _=>[])
noncomputable def pzi (c:bzw)(d:A3)(e:A4):T (Bool×A3×A4):=
 .cc (tzi (⟨d,e⟩:azl) (⟨c.Link,c.Mass,c.Point⟩:bzw)) fun f=>
 .ret ((!f),d,e)
noncomputable def yzg (c)(d)(e):=
 mkD Tryz.func100 (pzi c d e) 1 [.pure (azj c),.ptr 0 0] [(0,.box [.pure (encL 12 azd d),.pure (encL 5 azj e)])] (fun r=>.pure (.bool r.1)) (fun r=>[(0,.box [.pure (encL 12 azd r.2.1),.pure (encL 5 azj r.2.2)])])
noncomputable def dz3 (c:A4)(d:A3)(e:A4):T (Int×A3×A4):=let f:=(c.length:Nat);.loop (fun (g:(A3×A4×Int))=>⟨[(0,.pure (encL 5 azj c)),(1,.func 100 [] [.ptr 0 0]),(7,pz (f:Int)),(8,pz g.2.2)],[(0,.box [.pure (encL 12 azd g.1),.pure (encL 5 azj g.2.1)])],[],1⟩)
 (.exit 0) (fun (g:(A3×A4))=>⟨[],[(0,.box [.pure (encL 12 azd g.1),.pure (encL 5 azj g.2)])],[],1⟩)
 (fun g=>.br (decide (g.2.2<(f:Int)))
 (.gh g.2.2 c.length<|
 .call (yzg (c.getD ((g.2.2).toNat) default) g.1 g.2.1) [(0,0)] fun h=>
 .br h.1
 (.ff (g.2.2,h.2.1,h.2.2))
 (.nn (h.2.1,h.2.2,(i64.wrap (g.2.2+1)))))
 (.oo (g.1,g.2.1)))
 (d,e,0) [] fun g=>
 .ret ((-1),g.1,g.2)
noncomputable def ezv (c)(d)(e):=
 mkD Tryz.func129 (dz3 c d e) 1 [.pure (encL 5 azj c),.func 100 [] [.ptr 0 0]] [(0,.box [.pure (encL 12 azd d),.pure (encL 5 azj e)])] (fun r=>pz r.1) (fun r=>[(0,.box [.pure (encL 12 azd r.2.1),.pure (encL 5 azj r.2.2)])])
noncomputable def czq (c:A4)(d:A3)(e:A4):T (Bool×A3×A4):=
 .call (ezv c d e) [(0,0)] fun f=>
 .ret ((decide (f.1≥0)),f.2.1,f.2.2)
noncomputable def ezb (c)(d)(e):=
 mkD Tryz.func99 (czq c d e) 1 [.pure (encL 5 azj c),.func 100 [] [.ptr 0 0]] [(0,.box [.pure (encL 12 azd d),.pure (encL 5 azj e)])] (fun r=>.pure (.bool r.1)) (fun r=>[(0,.box [.pure (encL 12 azd r.2.1),.pure (encL 5 azj r.2.2)])])
noncomputable def vz4 (c:azl):T Int:=let d:=(c.Joints.length:Int);let e:Nat×Res:=(0,.box [.pure (encL 12 azd c.Joints),.pure (encL 5 azj c.Masses)]);.cut 2 (fun (f:Bool)=>⟨[(1,.ptr 0 0),(14,.pure (.bool f))],[e],[],1⟩)
 (.br (d==0)
 (.oo true)
 (.oo (decide (d>10)))) fun f=>
 .br f
 (.ret 801)
 (.loop (fun (g:Int)=>⟨[(1,.ptr 0 0),(17,pz d),(18,pz g)],[e],[],1⟩)
 (.exit 0) (fun (_:U0)=>⟨[(1,.ptr 0 0)],[e],[],1⟩)
 (fun g=>.br (decide (g<d))
 (.cc (qzs (⟨c.Joints,c.Masses⟩:azl) g) fun h=>
 .br (h !=0)
 (.ff h)
 (.nn (i64.wrap (g+1))))
 (.oo .u))
 0 [] fun _=>
 .cut 1 (fun (g:Bool)=>⟨[(37,.pure (.bool g))],[],[],0⟩)
 (.br (decide ((c.Masses.length:Int)>32))
 (.oo true)
 (.call (ezb c.Masses c.Joints c.Masses) [(0,0)] fun g=>
 .oo g.1)) fun g=>
 .br g
 (.ret 808)
 (.ret 0))
noncomputable def vz3 (c):=
 mkD Tryz.func67 (vz4 c) 0 [.pure (czp c)] [] (fun r=>pz r) (fun _=>[])
noncomputable def szm (c:azg)(d:Int):T Bool:=
 .br (decide ((-1)≤d))
 (.ret (decide (d<(c.Robot.Joints.length:Int))))
 (.ret false)
noncomputable def mz0 (c)(d):=
 mkD Tryz.func69 (szm c d) 0 [.pure (cze c),pz d] [] (fun r=>.pure (.bool r)) (fun _=>[])
noncomputable def kzg (c:azg)(d:azx):T Int:=let e:=encL 3 az1 d.Points;let f:=(d.Points.length:Int);.cut 3 (fun (g:Bool)=>⟨[(3,.ptr 0 0),(35,.pure (.bool g))],[(0,.box [pz d.Link,pz d.Radius,.pure e])],[],1⟩)
 (.cc (mz0 c d.Link) fun g=>
 .br (!g)
 (.oo true)
 (.br (decide (d.Radius<1))
 (.oo true)
 (.br (decide (d.Radius>1048576))
 (.oo true)
 (.br (decide (f<1))
 (.oo true)
 (.oo (decide (f>8))))))) fun g=>
 .br g
 (.ret 902)
 (.loop (fun (h:Int)=>⟨[(37,.pure e),(38,pz f),(39,pz h)],[],[],0⟩)
 (.exit 0) (fun (_:U0)=>⟨[],[],[],0⟩)
 (fun h=>let i:=d.Points.getD (h.toNat) default;.br (decide (h<f))
 (.gh h d.Points.length<|
 .loop (fun (j:Int)=>⟨[(37,.pure e),(38,pz f),(39,pz h),(43,.pure (az1 i)),(44,pz j)],[],[],0⟩)
 (.exit 2) (fun (_:U0)=>⟨[(37,.pure e),(38,pz f),(39,pz h)],[],[],0⟩)
 (fun j=>.br (decide (j<3))
 (.gh j 3<|
 .name 9000 ((([i.1,i.2.1,i.2.2]:List Int).getD j.toNat 0)) fun k=>
 .cut 0 (fun (m:Bool)=>⟨[(37,.pure e),(38,pz f),(39,pz h),(43,.pure (az1 i)),(44,pz j),(52,.pure (.bool m))],[],[],0⟩)
 (.br (decide (k<(-4194304)))
 (.oo true)
 (.oo (decide (k>4194304)))) fun m=>
 .br m
 (.ff (.fin 805))
 (.nn (i64.wrap (j+1))))
 (.oo .u))
 0 [] fun _=>
 .nn (i64.wrap (h+1)))
 (.oo .u))
 0 [] fun _=>
 .ret 0)
noncomputable def qzu (c)(d):=
 mkD Tryz.func68 (kzg c d) 0 [.pure (cze c),.pure (azo d)] [] (fun r=>pz r) (fun _=>[])
noncomputable def vz7 (c:azg):T Int:=let d:=encL 2 bz4 c.Skips;let e:=encL 3 azo c.Shapes;let f:=(c.Skips.length:Int);let g:=(c.Shapes.length:Int);let h:Nat×Res:=(0,.box [.pure (encL 12 azd c.Robot.Joints),.pure (encL 5 azj c.Robot.Masses),.pure e,.pure d]);.cc (vz3 c.Robot) fun i=>
 .br (i !=0)
 (.ret i)
 (.br (decide (g>24))
 (.ret 901)
 (.loop (fun (j:Int)=>⟨[(1,.ptr 0 0),(20,.pure e),(21,pz g),(22,pz j)],[h],[],1⟩)
 (.exit 0) (fun (_:U0)=>⟨[(1,.ptr 0 0)],[h],[],1⟩)
 (fun j=>.br (decide (j<g))
 (.gh j c.Shapes.length<|
 .cc (qzu c (c.Shapes.getD (j.toNat) default)) fun k=>
 .br (k !=0)
 (.ff k)
 (.nn (i64.wrap (j+1))))
 (.oo .u))
 0 [] fun _=>
 .br (decide (f>64))
 (.ret 903)
 (.loop (fun (j:Int)=>⟨[(1,.ptr 0 0),(38,.pure d),(39,pz f),(40,pz j)],[h],[],1⟩)
 (.exit 2) (fun (_:U0)=>⟨[],[],[],0⟩)
 (fun j=>let k:=c.Skips.getD (j.toNat) default;.br (decide (j<f))
 (.gh j c.Skips.length<|
 .cut 0 (fun (m:Bool)=>⟨[(1,.ptr 0 0),(38,.pure d),(39,pz f),(40,pz j),(55,.pure (.bool m))],[h],[],1⟩)
 (.cc (mz0 c (k.A)) fun m=>
 .br (!m)
 (.oo true)
 (.cc (mz0 c (k.B)) fun n=>
 .oo (!n))) fun m=>
 .br m
 (.ff 903)
 (.nn (i64.wrap (j+1))))
 (.oo .u))
 0 [] fun _=>
 .ret 0)))
noncomputable def dzn (c):=
 mkD Tryz.func39 (vz7 c) 0 [.pure (cze c)] [] (fun r=>pz r) (fun _=>[])
noncomputable def nzf (c:az9)(d:Int):T Bool:=
 .br (decide (d≥0))
 (.ret (decide (d<(c.Points.length:Int))))
 (.ret false)
noncomputable def dzt (c)(d):=
 mkD Tryz.func52 (nzf c d) 0 [.pure (bz7 c),pz d] [] (fun r=>.pure (.bool r)) (fun _=>[])
noncomputable def ozj (c:Int):T Bool:=
 .ret (c !=c)
noncomputable def ozi (c):=
 mkD Tryz.func161 (ozj c) 0 [pz c] [] (fun r=>.pure (.bool r)) (fun _=>[])
noncomputable def kzs (c:Int)(d:Int):T Int:=
 .cc (ozi c) fun e=>
 .cc (ozi d) fun f=>
 .br e
 (.br f
 (.ret 0)
 (.ret (-1)))
 (.br f
 (.ret 1)
 (.br (decide (c<d))
 (.ret (-1))
 (.br (decide (c>d))
 (.ret 1)
 (.ret 0))))
noncomputable def hzf (c)(d):=
 mkD Tryz.func118 (kzs c d) 0 [pz c,pz d] [] (fun r=>pz r) (fun _=>[])
noncomputable def wzi (c:A0):T Int:=let d:=(c.length:Nat);.loop (fun (e:Int)=>⟨[(3,pz 0),(6,.pure (encL 1 az3 c)),(7,pz (d:Int)),(8,pz e)],[],[],0⟩)
 (.exit 0) (fun (_:U0)=>⟨[(3,pz 0)],[],[],0⟩)
 (fun e=>let f:=c.getD (e.toNat) default;.br (decide (e<(d:Int)))
 (.gh e c.length<|
 .br (f !=0)
 (.ff f)
 (.nn (i64.wrap (e+1))))
 (.oo .u))
 0 [] fun _=>
 .ret 0
noncomputable def wzh (c):=
 mkD Tryz.func117 (wzi c) 0 [.pure (encL 1 az3 c)] [] (fun r=>pz r) (fun _=>[])
noncomputable def iz1 (c:az4)(d:An):T Int:=
 .ix 0 2 rfl<|
 .cc (hzf c.U d.1) fun e=>
 .ix 1 2 rfl<|
 .cc (hzf c.V d.2) fun f=>let g:=([e,f]:A0);
 .conv 1010 (czi 1 az3 g 3)<|
 .cc (wzh g) fun h=>
 .ret h
noncomputable def ezk (c)(d):=
 mkD Tryz.func80 (iz1 c d) 0 [.pure (az5 c),.pure (jz9 d)] [] (fun r=>pz r) (fun _=>[])
noncomputable def izx (c:az9):T Bool:=let d:=(c.Edges.length:Int);let e:Nat×Res:=(0,.box [.pure (encL 1 (encL 1 az3) c.Points),.pure (encL 12 az5 c.Edges)]);let f:=(⟨c.Points,c.Edges⟩:az9);.cut 2 (fun (g:Bool)=>⟨[(1,.ptr 0 0),(14,.pure (.bool g))],[e],[],1⟩)
 (.br (decide ((c.Points.length:Int)>1024))
 (.oo true)
 (.oo (decide (d>8192)))) fun g=>
 .br g
 (.ret false)
 (.loop (fun (h:Int)=>⟨[(1,.ptr 0 0),(17,pz d),(18,pz h)],[e],[],1⟩)
 (.exit 0) (fun (_:U0)=>⟨[],[],[],0⟩)
 (fun h=>let i:=c.Edges.getD (h.toNat) default;let j:=i64.wrap (h-1);.br (decide (h<d))
 (.gh h c.Edges.length<|
 .cut 1 (fun (k:Bool)=>⟨[(1,.ptr 0 0),(3,pz h),(4,.ref (az5 i)),(17,pz d),(18,pz h),(65,.pure (.bool k))],[e],[],1⟩)
 (.cc (dzt f (i.U)) fun k=>
 .br (!k)
 (.oo true)
 (.cc (dzt f (i.V)) fun m=>
 .br (!m)
 (.oo true)
 (.br (decide ((i.U)≥(i.V)))
 (.oo true)
 (.br (decide ((i.Cost)<0))
 (.oo true)
 (.oo (decide ((i.Cost)>1099511627776))))))) fun k=>
 .br k
 (.ff false)
 (.cut 0 (fun (m:Bool)=>⟨[(1,.ptr 0 0),(17,pz d),(18,pz h),(86,.pure (.bool m))],[e],[],1⟩)
 (.br (decide (h>0))
 (.gh j c.Edges.length<|
 .call (ezk (c.Edges.getD (j.toNat) default) (i.U,i.V)) [] fun m=>
 .oo (decide (m≥0)))
 (.oo false)) fun m=>
 .br m
 (.ff false)
 (.nn (i64.wrap (h+1)))))
 (.oo .u))
 0 [] fun _=>
 .ret true)
noncomputable def gza (c):=
 mkD Tryz.func51 (izx c) 0 [.pure (bz7 c)] [] (fun r=>.pure (.bool r)) (fun _=>[])
noncomputable def pzn (c:Int)(d:Int):T Bool:=
 .br (d==0)
 (.ret (c==1))
 (.br (d==1)
 (.br (c==1)
 (.ret true)
 (.ret (c==0)))
 (.br (d==2)
 (.ret (c !=2))
 (.ret false)))
noncomputable def pzm (c)(d):=
 mkD Tryz.func86 (pzn c d) 0 [pz c,pz d] [] (fun r=>.pure (.bool r)) (fun _=>[])
set_option maxHeartbeats 8000000 in
set_option maxRecDepth 20000 in
noncomputable def szn (c:az9)(d:Int):T Ad:=let e:=(c.Edges.length:Int);let f:=(c.Points.length:Int);let g:Nat×Res:=(0,.box [.pure (encL 1 (encL 1 az3) c.Points),.pure (encL 12 az5 c.Edges)]);.unroll 1<|
 .conv 1003 (az5m 2 bz3 151 f.toNat 153)<|
 .grd (0≤f/\f≤f/\f≤9223372036854775807/\f * 24≤140737488355328)<|
 .loop (fun (h:(Ad×Int))=>⟨[(1,pz d),(2,.ptr 0 0),(5,.vec 1),(14,pz e),(15,pz h.2)],[g,(1,Zzq 2 bz3 h.1 151 153)],[],2⟩)
 (.exit 0) (fun (h:Ad)=>⟨[(5,.vec 0)],[(0,Zzq 2 bz3 h 151 153)],[],1⟩)
 (fun h=>let i:=c.Edges.getD ((h.2).toNat) default;let j:=i.U;let k:=i.V;let m:=j.toNat;let n:=k.toNat;let q:=h.1.getD m default;let s:=([(⟨i.V,i.Cost⟩:aze)]:Ac);let t:=h.1.set m (q++s);let w:=t.getD n default;let y:=q.length+s.length;let z:=([(⟨i.U,i.Cost⟩:aze)]:Ac);let aa:=w.length+z.length;.br (decide (h.2<e))
 (.cut 0 (fun (ab:Ad)=>⟨[(1,pz d),(2,.ptr 0 0),(5,.vec 1),(14,pz e),(15,pz h.2)],[g,(1,Zzq 2 bz3 ab 151 153)],[],2⟩)
 (.gh h.2 c.Edges.length<|
 .cc (pzm (i.State) d) fun ab=>
 .br ab
 (.gg j h.1.length<|
 .conv 7021 (czi 2 bz3 s 153)<|
 .conv 7022 (ezf 2 bz3 q s 153)<|
 .grd (y * 16≤140737488355328/\y≤maxLen)<|
 .gh j h.1.length<|
 .conv 7024 (az1v 2 bz3 (q++s) 151 h.1 m 153)<|
 .grd (j.toNat<h.1.length/\j.toNat=j.toNat)<|
 .gg k (t.length)<|
 .conv 8021 (czi 2 bz3 z 153)<|
 .conv 8022 (ezf 2 bz3 w z 153)<|
 .grd (aa * 16≤140737488355328/\aa≤maxLen)<|
 .gh k (t.length)<|
 .conv 8024 (az1v 2 bz3 (w++z) 151 t n 153)<|
 .grd (k.toNat<t.length/\k.toNat=k.toNat)<|
 .oo (t.set n (w++z)))
 (.oo h.1)) fun ab=>
 .nn (ab,(i64.wrap (h.2+1))))
 (.oo h.1))
 ((List.replicate f.toNat (nl:Ac)),0) [] fun h=>
 .ret h
noncomputable def izi (c)(d):=
 mkD Tryz.func54 (szn c d) 0 [.pure (bz7 c),pz d] [] (fun r=>.pure (encL 1 (encL 2 bz3) r)) (fun _=>[])
noncomputable def nzy (c:azc)(d:azc):T Bool:=
 .br (d.points==0)
 (.ret true)
 (.br (decide (c.cost<d.cost))
 (.ret true)
 (.br (c.cost==d.cost)
 (.ret (decide (c.points<d.points)))
 (.ret false)))
noncomputable def fzc (c)(d):=
 mkD Tryz.func82 (nzy c d) 0 [.pure (bzi c),.pure (bzi d)] [] (fun r=>.pure (.bool r)) (fun _=>[])
set_option maxHeartbeats 8000000 in
set_option maxRecDepth 20000 in
noncomputable def Bz5 (c:Ae):T (azf×Ae):=let d:=i64.wrap ((c.length:Int)-1);let e:=c.getD (d.toNat) default;let f:=c.set ((0:Int).toNat) e;let g:=c.getD ((0:Int).toNat) default;let h:Nat×Res:=(4,.box [pz (g.rank.cost),pz (g.rank.points),pz (g.point)]);.gg (0:Int) c.length<|
 .gg d c.length<|
 .gh (0:Int) c.length<|
 .conv 3006 (fzg 3 azv c 147 ((0:Int).toNat) e)<|
 .gi (0:Int) c.length<|
 .conv 4002 (Xz4 3 azv f 147 d)<|
 .grd (0≤d/\d≤(f.length:Int)/\0≤d.toNat)<|
 .loop (fun (i:(Ae×Int))=>⟨[(0,.ptr 0 0),(2,.ptr 2 0),(3,.vec 3),(4,.ptr 4 0),(5,pz d),(6,pz i.2)],[(0,.box [.vec 1]),(1,.gone),(2,.box [pz 0,pz 0,pz 0]),(3,vecO 3 azv i.1 147),h],[],5⟩)
 (.exit 0) (fun (i:Ae)=>⟨[(0,.ptr 0 0),(2,.ptr 2 0),(3,.vec 3),(4,.ptr 4 0)],[(0,.box [.vec 1]),(1,.gone),(2,.box [pz 0,pz 0,pz 0]),(3,vecO 3 azv i 147),h],[],5⟩)
 (fun i=>let j:=(i.2).toNat;let k:=i64.wrap ((i64.wrap (2 * i.2))+1);let m:=i64.wrap (k+1);let n:=i.1.getD j default;.br (decide (k<d))
 (.cut 1 (fun (q:Int)=>⟨[(0,.ptr 0 0),(2,.ptr 2 0),(3,.vec 3),(4,.ptr 4 0),(5,pz d),(6,pz i.2),(7,pz q)],[(0,.box [.vec 1]),(1,.gone),(2,.box [pz 0,pz 0,pz 0]),(3,vecO 3 azv i.1 147),h],[],5⟩)
 (.cut 0 (fun (q:Bool)=>⟨[(0,.ptr 0 0),(2,.ptr 2 0),(3,.vec 3),(4,.ptr 4 0),(5,pz d),(6,pz i.2),(7,pz k),(51,.pure (.bool q))],[(0,.box [.vec 1]),(1,.gone),(2,.box [pz 0,pz 0,pz 0]),(3,vecO 3 azv i.1 147),h],[],5⟩)
 (.br (decide (m<d))
 (.gg m i.1.length<|
 .gg k i.1.length<|
 .call (fzc ((i.1.getD (m.toNat) default).rank) ((i.1.getD (k.toNat) default).rank)) [] fun q=>
 .oo q)
 (.oo false)) fun q=>
 .br q
 (.oo m)
 (.oo k)) fun q=>let s:=q.toNat;let t:=i.1.getD s default;let w:=i.1.set j t;
 .gg q i.1.length<|
 .gg i.2 i.1.length<|
 .cc (fzc (t.rank) (n.rank)) fun y=>
 .br (!y)
 (.oo i.1)
 (.gg q i.1.length<|
 .gg i.2 i.1.length<|
 .gh i.2 i.1.length<|
 .conv 11013 (fzg 3 azv i.1 147 j t)<|
 .gi (i.2) i.1.length<|
 .gh q (w.length)<|
 .conv 11015 (fzg 3 azv w 147 s n)<|
 .gi (q) (w.length)<|
 .nn ((w.set s n),q)))
 (.oo i.1))
 ((f.take (d.toNat)),0) [] fun i=>
 .ret (g,i)
noncomputable def Bz4 (c):=
 mkD Tryz.func81 (Bz5 c) 2 [.ptr 0 0] [(0,.box [.vec 1]),(1,vecO 3 azv c 147)] (fun r=>.pure (azv r.1)) (fun r=>[(0,.box [.vec 2]),(1,.gone),(2,vecO 3 azv r.2 147)])
noncomputable def xzh (c:Ae)(d:azf):T Ae:=let e:=([d]:Ae);let f:=c.length+e.length;.conv 1004 (czi 3 azv e 147)<|
 .conv 1005 (ezf 3 azv c e 147)<|
 .grd (f * 24≤140737488355328/\f≤maxLen)<|
 .loop (fun (g:(Ae×Int))=>⟨[(0,.ptr 0 0),(4,.vec 2),(5,pz g.2)],[(0,.box [.vec 1]),(1,.gone),(2,vecO 3 azv g.1 147)],[],3⟩)
 (.exit 0) (fun (g:Ae)=>⟨[(0,.ptr 0 0),(4,.vec 2)],[(0,.box [.vec 1]),(1,.gone),(2,vecO 3 azv g 147)],[],3⟩)
 (fun g=>let h:=(g.2).toNat;let i:=g.1.getD h default;.br (decide (g.2>0))
 (.ok ((2:Int)≠0) (by decide)<|
 .name 4002 ((i64.wrap ((i64.wrap (g.2-1)).tdiv 2))) fun j=>let k:=j.toNat;let m:=g.1.getD k default;let n:=g.1.set h m;
 .gg g.2 g.1.length<|
 .gg j g.1.length<|
 .cc (fzc (i.rank) (m.rank)) fun q=>
 .br (!q)
 (.oo g.1)
 (.gg j g.1.length<|
 .gg g.2 g.1.length<|
 .gh g.2 g.1.length<|
 .conv 6013 (fzg 3 azv g.1 147 h m)<|
 .gi (g.2) g.1.length<|
 .gh j (n.length)<|
 .conv 6015 (fzg 3 azv n 147 k i)<|
 .gi (j) (n.length)<|
 .nn ((n.set k i),j)))
 (.oo g.1))
 ((c++e),(i64.wrap ((((c++e).length:Nat):Int)-1))) [] fun g=>
 .ret g
noncomputable def xzg (c)(d):=
 mkD Tryz.func83 (xzh c d) 2 [.ptr 0 0,.pure (azv d)] [(0,.box [.vec 1]),(1,vecO 3 azv c 147)] (fun _=>.tup []) (fun r=>[(0,.box [.vec 2]),(1,.gone),(2,vecO 3 azv r 147)])
noncomputable def izw (c:aze)(d:Af)(e:Int):T (Bool×Af×Int):=let f:=d.getD ((c.to).toNat) default;let g:=d.getD (e.toNat) default;.gg c.to d.length<|
 .gg e d.length<|
 .br ((f.points)==(i64.wrap ((g.points)-1)))
 (.gg e d.length<|
 .ret (((i64.wrap ((f.cost)+c.cost))==(g.cost)),d,e))
 (.ret (false,d,e))
noncomputable def fz3 (c)(d)(e):=
 mkD Tryz.func85 (izw c d e) 3 [.pure (bz3 c),.ptr 0 0,.ptr 2 0] [(0,.box [.vec 1]),(1,vecO 2 bzi d 145),(2,.box [pz e])] (fun r=>.pure (.bool r.1)) (fun r=>[(0,.box [.vec 1]),(1,vecO 2 bzi r.2.1 145),(2,.box [pz r.2.2])])
noncomputable def czg (c:Ac)(d:Af)(e:Int):T (Int×Af×Int):=let f:=(c.length:Nat);.loop (fun (g:(Af×Int×Int))=>⟨[(0,.pure (encL 2 bz3 c)),(1,.func 85 [] [.ptr 0 0,.ptr 2 0]),(7,pz (f:Int)),(8,pz g.2.2)],[(0,.box [.vec 1]),(1,vecO 2 bzi g.1 145),(2,.box [pz g.2.1])],[],3⟩)
 (.exit 0) (fun (g:(Af×Int))=>⟨[],[(0,.box [.vec 1]),(1,vecO 2 bzi g.1 145),(2,.box [pz g.2])],[],3⟩)
 (fun g=>.br (decide (g.2.2<(f:Int)))
 (.gh g.2.2 c.length<|
 .call (fz3 (c.getD ((g.2.2).toNat) default) g.1 g.2.1) [(0,0),(1,1),(2,2)] fun h=>
 .br h.1
 (.ff (g.2.2,h.2.1,h.2.2))
 (.nn (h.2.1,h.2.2,(i64.wrap (g.2.2+1)))))
 (.oo (g.1,g.2.1)))
 (d,e,0) [] fun g=>
 .ret ((-1),g.1,g.2)
noncomputable def bzr (c)(d)(e):=
 mkD Tryz.func84 (czg c d e) 3 [.pure (encL 2 bz3 c),.func 85 [] [.ptr 0 0,.ptr 2 0]] [(0,.box [.vec 1]),(1,vecO 2 bzi d 145),(2,.box [pz e])] (fun r=>pz r.1) (fun r=>[(0,.box [.vec 1]),(1,vecO 2 bzi r.2.1 145),(2,.box [pz r.2.2])])
set_option maxHeartbeats 8000000 in
set_option maxRecDepth 20000 in
noncomputable def lzg (c:Ad)(d:Int)(e:Int):T (A0×Int×Bool):=let f:=e.toNat;let g:=(c.length:Int);let h:=([d]:A0);let i:=encL 1 (encL 2 bz3) c;let j:=List.replicate g.toNat ((⟨0,0⟩:azc):azc);let k:=j.set f (⟨0,1⟩:azc);let m:=([(⟨(k.getD f default),e⟩:azf)]:Ae);.conv 1002 (Hzj 2 bzi 145 g.toNat (⟨0,0⟩:azc))<|
 .grd (0≤g/\g≤g/\g≤9223372036854775807/\g * 16≤140737488355328)<|
 .gh e (j.length)<|
 .conv 2004 (fzg 2 bzi j 145 f (⟨0,1⟩:azc))<|
 .gi (e) (j.length)<|
 .gg e (k.length)<|
 .conv 3006 (czi 3 azv m 147)<|
 .loop (fun (n:(Af×Ae))=>⟨[(0,.pure i),(1,pz d),(2,pz e),(6,.ptr 0 0),(8,.ptr 2 0),(9,.ptr 4 0)],[(0,.box [.vec 1,pz 0]),(1,.nilv),(2,.box [.vec 3]),(3,vecO 2 bzi n.1 145),(4,.box [.vec 5]),(5,vecO 3 azv n.2 147)],[],6⟩)
 (.exit 0) (fun (n:Af)=>⟨[(0,.pure i),(1,pz d),(2,pz e),(6,.ptr 0 0),(8,.ptr 2 0)],[(0,.box [.vec 1,pz 0]),(1,.nilv),(2,.box [.vec 3]),(3,vecO 2 bzi n 145)],[],4⟩)
 (fun n=>.name 4001 ((n.2.length:Int)) fun q=>
 .br (decide (q>0))
 (.call (Bz4 n.2) [(0,4),(1,5)] fun s=>let t:=(s.1.point).toNat;let w:=c.getD t default;let y:=encL 2 bz3 w;let z:=(w.length:Int);let aa:=n.1.getD t default;let ab:Nat×Res:=(6,.box [pz s.1.rank.cost,pz s.1.rank.points,pz s.1.point]);
 .br (s.1.point==d)
 (.oo n.1)
 (.gg s.1.point n.1.length<|
 .br (!((s.1.rank.cost==(aa.cost))&&((s.1.rank.points==(aa.points))&&true)))
 (.nn (n.1,s.2))
 (.gh s.1.point c.length<|
 .loop (fun (ac:(Af×Ae×Int))=>⟨[(0,.pure i),(1,pz d),(2,pz e),(6,.ptr 0 0),(8,.ptr 2 0),(9,.ptr 4 0),(10,.ptr 6 0),(53,.pure y),(54,pz z),(55,pz ac.2.2)],[(0,.box [.vec 1,pz 0]),(1,.nilv),(2,.box [.vec 3]),(3,vecO 2 bzi ac.1 145),(4,.box [.vec 5]),(5,vecO 3 azv ac.2.1 147),ab],[],7⟩)
 (.exit 3) (fun (ac:(Af×Ae))=>⟨[(0,.pure i),(1,pz d),(2,pz e),(6,.ptr 0 0),(8,.ptr 2 0),(9,.ptr 4 0)],[(0,.box [.vec 1,pz 0]),(1,.nilv),(2,.box [.vec 3]),(3,vecO 2 bzi ac.1 145),(4,.box [.vec 5]),(5,vecO 3 azv ac.2 147)],[],6⟩)
 (fun ac=>let ad:=w.getD ((ac.2.2).toNat) default;let ae:=ad.to;let af:=ae.toNat;.br (decide (ac.2.2<z))
 (.cut 0 (fun (ag:(Af×Ae))=>⟨[(0,.pure i),(1,pz d),(2,pz e),(6,.ptr 0 0),(8,.ptr 2 0),(9,.ptr 4 0),(10,.ptr 6 0),(53,.pure y),(54,pz z),(55,pz ac.2.2)],[(0,.box [.vec 1,pz 0]),(1,.nilv),(2,.box [.vec 3]),(3,vecO 2 bzi ag.1 145),(4,.box [.vec 5]),(5,vecO 3 azv ag.2 147),ab],[],7⟩)
 (.gh ac.2.2 (w.length)<|
 .name 11005 ((i64.wrap (s.1.rank.cost+(ad.cost)))) fun ag=>let ah:=(⟨ag,(i64.wrap (s.1.rank.points+1))⟩:azc);
 .gg ae ac.1.length<|
 .call (fzc ah (ac.1.getD af default)) [] fun ai=>
 .br ai
 (.gh ae ac.1.length<|
 .conv 13005 (fzg 2 bzi ac.1 145 af ah)<|
 .gi ae ac.1.length<|
 .call (xzg ac.2.1 (⟨ah,ad.to⟩:azf)) [(0,4),(1,5)] fun aj=>
 .oo ((ac.1.set af ah),aj))
 (.oo (ac.1,ac.2.1))) fun ag=>
 .nn (ag.1,ag.2,(i64.wrap (ac.2.2+1))))
 (.oo (ac.1,ac.2.1)))
 (n.1,s.2,0) [] fun ac=>
 .nn (ac.1,ac.2))))
 (.oo n.1))
 (k,m) [] fun n=>let q:=n.getD (d.toNat) default;
 .gg d n.length<|
 .br ((q.points)==0)
 (.ret (nl,0,false))
 (.conv 18001 (czi 1 az3 h 3)<|
 .gg d n.length<|
 .loop (fun (s:(Af×A0×Int))=>⟨[(0,.pure i),(2,pz e),(6,.ptr 0 0),(8,.ptr 2 0),(14,.ptr 4 0),(15,.ptr 6 0)],[(0,.box [.vec 1,pz 0]),(1,.nilv),(2,.box [.vec 3]),(3,vecO 2 bzi s.1 145),(4,.box [.vec 5,pz (q.cost)]),(5,vecO 1 az3 s.2.1 3),(6,.box [pz s.2.2])],[],7⟩)
 (.exit 5) (fun (s:A0)=>⟨[(6,.ptr 0 0),(14,.ptr 2 0)],[(0,.box [.vec 1,pz 0]),(1,.nilv),(2,.box [.vec 3,pz (q.cost)]),(3,vecO 1 az3 s 3)],[],4⟩)
 (fun s=>.br (s.2.2 !=e)
 (.gh s.2.2 c.length<|
 .call (bzr (c.getD ((s.2.2).toNat) default) s.1 s.2.2) [(0,2),(1,3),(2,6)] fun t=>let w:=c.getD ((t.2.2).toNat) default;let y:=w.getD ((t.1).toNat) default;let z:=([y.to]:A0);let aa:=s.2.1.length+z.length;
 .gh t.2.2 c.length<|
 .gh t.1 (w.length)<|
 .conv 23003 (czi 1 az3 z 3)<|
 .conv 23004 (ezf 1 az3 s.2.1 z 3)<|
 .grd (aa * 8≤140737488355328/\aa≤maxLen)<|
 .nn (t.2.1,(s.2.1++z),y.to))
 (.oo s.2.1))
 (n,h,d) [] fun s=>
 .ret (s,q.cost,true))
noncomputable def ezy (c)(d)(e):=
 mkD Tryz.func53 (lzg c d e) 0 [.pure (encL 1 (encL 2 bz3) c),pz d,pz e] [] (fun r=>.tup [.agg [.vec 0,pz r.2.1],.pure (.bool r.2.2)]) (fun r=>[(0,vecO 1 az3 r.1 3)])
noncomputable def bzc (c:A7)(d:An):T Ap:=let e:=encL 12 az5 c;let f:=(c.length:Int);let g:Nat×Res:=(0,.box [pz d.1,pz d.2]);.loop (fun (h:An)=>⟨[(0,.pure e),(2,.func 80 [] []),(4,.ptr 0 0),(8,pz f),(9,pz h.1),(10,pz h.2)],[g],[],1⟩)
 (.exit 0) (fun (h:Int)=>⟨[(0,.pure e),(2,.func 80 [] []),(4,.ptr 0 0),(8,pz f),(9,pz h)],[g],[],1⟩)
 (fun h=>.br (decide (h.1<h.2))
 (.ok (0≤(1:Int)) (by decide)<|
 .name 4005 ((i64.wrap ((IntKind.u64.wrap (i64.wrap (h.1+h.2))).fdiv (2 ^ (min (1:Int).toNat 64))))) fun i=>
 .gh i c.length<|
 .cc (ezk (c.getD (i.toNat) default) d) fun j=>
 .br (decide (j<0))
 (.nn ((i64.wrap (i+1)),h.2))
 (.nn (h.1,i)))
 (.oo h.1))
 (0,f) [] fun h=>
 .br (decide (h<f))
 (.gh h c.length<|
 .cc (ezk (c.getD (h.toNat) default) d) fun i=>
 .ret (h,(i==0)))
 (.ret (h,false))
noncomputable def azz (c)(d):=
 mkD Tryz.func87 (bzc c d) 0 [.pure (encL 12 az5 c),.pure (jz9 d),.func 80 [] []] [] (fun r=>.tup [pz r.1,.pure (.bool r.2)]) (fun _=>[])
noncomputable def nze (c:az9)(d:Int)(e:Int):T Ap:=
 .cc (azz c.Edges ((min d e),(max d e))) fun f=>
 .ret (f.1,f.2)
noncomputable def nzd (c)(d)(e):=
 mkD Tryz.func55 (nze c d e) 0 [.pure (bz7 c),pz d,pz e] [] (fun r=>.tup [pz r.1,.pure (.bool r.2)]) (fun _=>[])
noncomputable def vz9 (c:az9)(d:Int)(e:Int):T B6:=let f:Nat×Res:=(0,.box [.pure (encL 1 (encL 1 az3) c.Points),.pure (encL 12 az5 c.Edges)]);let g:=(⟨c.Points,c.Edges⟩:az9);.cut 3 (fun (h:Bool)=>⟨[(1,pz d),(2,pz e),(3,.ptr 0 0),(6,.ptr 1 0),(7,.ptr 2 0),(8,.ptr 4 0),(29,.pure (.bool h))],[f,(1,.box [pz 0]),(2,.box [.vec 3,pz 0]),(3,.nilv),(4,.box [pz 0])],[.func 50 [] [.ptr 1 0,.ptr 2 0,.ptr 4 0]],5⟩)
 (.cc (gza g) fun h=>
 .br (!h)
 (.oo true)
 (.cc (dzt g d) fun i=>
 .br (!i)
 (.oo true)
 (.cc (dzt g e) fun j=>
 .oo (!j)))) fun h=>
 .br h
 (.ret ((-1),nl,0,0))
 (.cc (izi g 1) fun i=>
 .cc (ezy i d e) fun j=>let k:=(j.1.length:Int);let m:=k.toNat- (1:Int).toNat;let n:=(m:Int);
 .br (!j.2.2)
 (.ret ((-1),nl,0,2))
 (.unroll 2<|
 .grd (0≤(1:Int)/\(1:Int)≤k/\k≤k)<|
 .loop (fun (q:Int)=>⟨[(3,.ptr 0 0),(6,.ptr 1 0),(7,.ptr 2 0),(8,.ptr 4 0),(44,.view 3 1 ((1:Int).toNat) m),(45,pz n),(46,pz q)],[f,(1,.box [pz 0]),(2,.box [.vec 3,pz j.2.1]),(3,vecO 1 az3 j.1 3),(4,.box [pz 0])],[.func 50 [] [.ptr 1 0,.ptr 2 0,.ptr 4 0]],5⟩)
 (.exit 0) (fun (_:U0)=>⟨[(6,.ptr 0 0),(7,.ptr 1 0),(8,.ptr 3 0)],[(0,.box [pz 0]),(1,.box [.vec 2,pz j.2.1]),(2,vecO 1 az3 j.1 3),(3,.box [pz 0])],[.func 50 [] [.ptr 0 0,.ptr 1 0,.ptr 3 0]],4⟩)
 (fun q=>let s:=((1:Int).toNat)+(q.toNat);.br (decide (q<n))
 (.gh q m<|
 .grd (s<j.1.length)<|
 .gg q j.1.length<|
 .cc (nzd g (j.1.getD (q.toNat) default) (j.1.getD s default)) fun t=>
 .gh t.1 c.Edges.length<|
 .br (((c.Edges.getD ((t.1).toNat) default).State)==0)
 (.ff (t.1,j.1,j.2.1,3))
 (.nn (i64.wrap (q+1))))
 (.oo .u))
 0 [] fun _=>
 .ret ((-1),j.1,j.2.1,1)))
noncomputable def gz9 (c)(d)(e):=
 mkC [⟨50,az3g⟩] hd Tryz.func22 (by kernel_rfl) (vz9 c d e) 0 [.pure (bz7 c),pz d,pz e] [] (fun r=>.tup [pz r.1,.agg [.vec 0,pz r.2.2.1],pz r.2.2.2]) (fun r=>[(0,vecO 1 az3 r.2.1 3)]) (by kernel_rfl)
noncomputable def pzl (a0:A1)(a1:A7)(a2:Int)(a3:Int):CallS B6:=
 az7a (gz9 (⟨a0,a1⟩:az9) a2 a3) 22 2 [.agg [.vec 0,.vec 1],pz a2,pz a3] [(0,vecO 1 (encL 1 az3) a0 59),(1,vecO 12 az5 a1 65)] rfl rfl rfl rfl (by kernel_rfl) rfl (fun _=>rfl) (fun _=>⟨fun _=>rfl,trivial⟩)
noncomputable def ezo (a0:A1):T A1:=
 (match a0 with
  |[]=>.unroll 1<|
  .grd (a0.length=0)<|
  .both
   (.ret nl)
   (.conv 3000 (czi 1 (encL 1 az3) ([]:A1) 59)<|
   .conv 3002 (ezf 1 (encL 1 az3) ([]:A1) a0 59)<|
   .grd ((([]:A1).length+a0.length) * 24≤140737488355328/\(([]:A1).length+a0.length)≤maxLen)<|
   .ret (([]:A1)++a0))
  |_::_=>.grd (0<a0.length)<|
  .conv 3000 (czi 1 (encL 1 az3) ([]:A1) 59)<|
  .conv 3002 (ezf 1 (encL 1 az3) ([]:A1) a0 59)<|
  .grd ((([]:A1).length+a0.length) * 24≤140737488355328/\(([]:A1).length+a0.length)≤maxLen)<|
  .ret (([]:A1)++a0))
noncomputable def gzx (a0:A1):CallS A1:=
 mkH [] hd Tryz.func119 (by kernel_rfl) (ezo a0) 1 [.vec 0] [(0,vecO 1 (encL 1 az3) a0 59)] (fun _=>.vec 1) (fun r=>[(0,vecO 1 (encL 1 az3) a0 59),(1,vecO 1 (encL 1 az3) r 59)]) (by cases a0<;>exact Ob.of_side (by kernel_rfl))
noncomputable def cz0 (c:A7)(d:Nat)(e:Nat):T A7:=let f:=([]:A7).length+e;.grd (0<c.length)<|
 .conv 3000 (czi 12 az5 ([]:A7) 65)<|
 .conv 3002 (az35 12 az5 c ([]:A7) 65 e d 160)<|
 .grd (f * 160≤140737488355328/\f≤maxLen/\d+e≤c.length)<|
 .ret (([]:A7)++((c.drop d).take e))
noncomputable def czz (c)(d)(e):=
 mkD Tryz.func120 (cz0 c d e) 1 [.view 0 12 d e] [(0,vecO 12 az5 c 65)] (fun _=>.vec 1) (fun r=>[(0,vecO 12 az5 c 65),(1,vecO 12 az5 r 65)])
noncomputable def lze (c:A1)(d:A7)(e:Nat)(f:Nat):T A8:=
 .call (gzx c) [(0,0)] fun g=>let h:=(g.length:Nat);
 .call (czz d e f) [(0,1)] fun i=>let j:=(i.length:Nat);
 .loop (fun (k:A9)=>⟨[(2,.ptr 2 0),(3,.vec 5),(4,.vec 6),(15,.vec 5),(16,pz (h:Int)),(17,pz k.2)],[(0,vecO 1 (encL 1 az3) c 59),(1,vecO 12 az5 d 65),(2,.box [.vec 3,.vec 4]),(3,.nilv),(4,.nilv),(5,vecO 1 (encL 1 az3) k.1 59),(6,vecO 12 az5 i 65)],[],7⟩)
 (.exit 0) (fun (k:A1)=>⟨[(2,.ptr 2 0),(3,.vec 5),(4,.vec 6)],[(0,vecO 1 (encL 1 az3) c 59),(1,vecO 12 az5 d 65),(2,.box [.vec 3,.vec 4]),(3,.nilv),(4,.nilv),(5,vecO 1 (encL 1 az3) k 59),(6,vecO 12 az5 i 65)],[],7⟩)
 (fun k=>let m:=(k.2).toNat;.br (decide (k.2<(h:Int)))
 (.gg k.2 k.1.length<|
 .cc (czk (k.1.getD m default)) fun n=>
 .gh k.2 k.1.length<|
 .conv 5005 (fzg 1 (encL 1 az3) k.1 59 m n)<|
 .gi (k.2) k.1.length<|
 .nn ((k.1.set m n),(i64.wrap (k.2+1))))
 (.oo k.1))
 (g,0) [] fun k=>
 .loop (fun (m:Aa)=>⟨[(2,.ptr 2 0),(3,.vec 5),(4,.vec 6),(28,.vec 6),(29,pz (j:Int)),(30,pz m.2)],[(0,vecO 1 (encL 1 az3) c 59),(1,vecO 12 az5 d 65),(2,.box [.vec 3,.vec 4]),(3,.nilv),(4,.nilv),(5,vecO 1 (encL 1 az3) k 59),(6,vecO 12 az5 m.1 65)],[],7⟩)
 (.exit 2) (fun (m:A7)=>⟨[(2,.ptr 2 0),(3,.vec 5),(4,.vec 6)],[(0,vecO 1 (encL 1 az3) c 59),(1,vecO 12 az5 d 65),(2,.box [.vec 3,.vec 4]),(3,.nilv),(4,.nilv),(5,vecO 1 (encL 1 az3) k 59),(6,vecO 12 az5 m 65)],[],7⟩)
 (fun m=>let n:=(m.2).toNat;let q:=m.1.getD n default;.br (decide (m.2<(j:Int)))
 (.gg m.2 m.1.length<|
 .cc (ez8 (q.Proof)) fun s=>let t:=(⟨q.U,q.V,q.Cost,q.State,s⟩:az4);
 .gh m.2 m.1.length<|
 .conv 10007 (fzg 12 az5 m.1 65 n t)<|
 .gi (m.2) m.1.length<|
 .nn ((m.1.set n t),(i64.wrap (m.2+1))))
 (.oo m.1))
 (i,0) [] fun m=>
 .ret (k,m)
noncomputable def tzh (c)(d)(e)(f):=
 mkD Tryz.func95 (lze c d e f) 2 [.agg [.vec 0,.view 1 12 e f]] [(0,vecO 1 (encL 1 az3) c 59),(1,vecO 12 az5 d 65)] (fun _=>.agg [.vec 2,.vec 3]) (fun r=>[(0,vecO 1 (encL 1 az3) c 59),(1,vecO 12 az5 d 65),(2,vecO 1 (encL 1 az3) r.1 59),(3,vecO 12 az5 r.2 65)])
set_option maxHeartbeats 8000000 in
set_option maxRecDepth 20000 in
noncomputable def nzb (c:A1)(d:A7)(e:Nat)(f:Nat)(g:Int)(h:azi):T As:=let i:=g.toNat;let j:=d.getD (e+i) default;let k:=encL 3 azy h.Pieces;let m:=encL 3 az1 h.At.Normals;let n:=encL 1 az3 h.Witness.Left;let q:=encL 1 az3 h.Witness.Right;let s:Nat×Res:=(2,.box [pz h.Kind,.pure k,pz h.At.Depth,pz h.At.Index,.pure m,pz h.Witness.Pair,.pure n,.pure q]);.call (tzh c d e f) [(0,0),(1,1)] fun t=>let w:=t.2.getD i default;
 .cut 1 (fun (y:Bool)=>⟨[(1,pz g),(3,.ptr 2 0),(5,.ptr 3 0),(6,.ptr 4 0),(7,.ptr 7 0),(22,.pure (.bool y))],[(0,vecO 1 (encL 1 az3) c 59),(1,vecO 12 az5 d 65),(2,.box [.vec 0,.view 1 12 e f]),(3,.box [pz h.Kind,.pure k,pz h.At.Depth,pz h.At.Index,.pure m,pz h.Witness.Pair,.pure n,.pure q]),(4,.box [.vec 5,.vec 6]),(5,vecO 1 (encL 1 az3) t.1 59),(6,vecO 12 az5 t.2 65),(7,.box [.ff])],[.func 94 [] [.ptr 4 0,.ptr 7 0]],8⟩)
 (.br (decide (g<0))
 (.oo true)
 (.oo (decide (g≥(f:Int))))) fun y=>
 .br y
 (.ret (t.1,t.2,false))
 (.gh g f<|
 .grd ((e+i)<d.length)<|
 .cut 0 (fun (z:Bool)=>⟨[(1,pz g),(5,.ptr 2 0),(6,.ptr 3 0),(7,.ptr 6 0),(35,.pure (.bool z))],[(0,vecO 1 (encL 1 az3) c 59),(1,vecO 12 az5 d 65),s,(3,.box [.vec 4,.vec 5]),(4,vecO 1 (encL 1 az3) t.1 59),(5,vecO 12 az5 t.2 65),(6,.box [.ff])],[.func 94 [] [.ptr 3 0,.ptr 6 0]],7⟩)
 (.br ((j.State)==1)
 (.oo true)
 (.oo ((j.State)==2))) fun z=>
 .br z
 (.ret (t.1,t.2,false))
 (.conv 8000 (czi 1 az3 ([1,2,3]:A0) 3)<|
 .loop (fun (aa:Int)=>⟨[(1,pz g),(5,.ptr 2 0),(6,.ptr 3 0),(7,.ptr 6 0),(37,.vec 7),(38,pz ((([1,2,3]:A0).length:Nat):Int)),(39,pz aa)],[(0,vecO 1 (encL 1 az3) c 59),(1,vecO 12 az5 d 65),s,(3,.box [.vec 4,.vec 5]),(4,vecO 1 (encL 1 az3) t.1 59),(5,vecO 12 az5 t.2 65),(6,.box [.ff]),(7,vecO 1 az3 ([1,2,3]:A0) 3)],[.func 94 [] [.ptr 3 0,.ptr 6 0]],8⟩)
 (.exit 0) (fun (_:U0)=>⟨[(6,.ptr 2 0),(7,.ptr 5 0)],[(0,vecO 1 (encL 1 az3) c 59),(1,vecO 12 az5 d 65),(2,.box [.vec 3,.vec 4]),(3,vecO 1 (encL 1 az3) t.1 59),(4,vecO 12 az5 t.2 65),(5,.box [.ff])],[.func 94 [] [.ptr 2 0,.ptr 5 0]],6⟩)
 (fun aa=>let ab:=([1,2,3]:A0).getD (aa.toNat) default;let ac:=(⟨w.U,w.V,w.Cost,ab,w.Proof⟩:az4);let ad:=t.2.set i ac;let ae:=ad.getD i default;.br (decide (aa<((([1,2,3]:A0).length:Nat):Int)))
 (.gg aa (([1,2,3]:A0).length)<|
 .cc (izg ab) fun af=>
 .br (af==h.Kind)
 (.gh g t.2.length<|
 .conv 12006 (fzg 12 az5 t.2 65 i ac)<|
 .gi (g) t.2.length<|
 .cc (ez8 h) fun ag=>let ah:=(⟨ae.U,ae.V,ae.Cost,ae.State,ag⟩:az4);
 .gh g (ad.length)<|
 .conv 13007 (fzg 12 az5 ad 65 i ah)<|
 .gi (g) (ad.length)<|
 .ff (t.1,(ad.set i ah),true))
 (.nn (i64.wrap (aa+1))))
 (.oo .u))
 0 [] fun _=>
 .ret (t.1,t.2,false)))
noncomputable def nza (c)(d)(e)(f)(g)(h):=
 mkC [⟨94,Xzi⟩] hd Tryz.func66 (by kernel_rfl) (nzb c d e f g h) 2 [.agg [.vec 0,.view 1 12 e f],pz g,.pure (dzg h)] [(0,vecO 1 (encL 1 az3) c 59),(1,vecO 12 az5 d 65)] (fun r=>.tup [.agg [.vec 2,.vec 3],.pure (.bool r.2.2)]) (fun r=>[(0,vecO 1 (encL 1 az3) c 59),(1,vecO 12 az5 d 65),(2,vecO 1 (encL 1 az3) r.1 59),(3,vecO 12 az5 r.2.1 65)]) (by kernel_rfl)
noncomputable def zzh (c:A1)(d:A7)(e:Nat)(f:Nat):T A8:=
 .call (nza c d e f (-1) (⟨0,nl,(⟨0,0,nl⟩:azk),(⟨0,nl,nl⟩:bz1)⟩:azi)) [(0,0),(1,1)] fun g=>
 .ret (g.1,g.2.1)
noncomputable def nzn (c)(d)(e)(f):=
 mkD Tryz.func38 (zzh c d e f) 2 [.agg [.vec 0,.view 1 12 e f]] [(0,vecO 1 (encL 1 az3) c 59),(1,vecO 12 az5 d 65)] (fun _=>.agg [.vec 2,.vec 3]) (fun r=>[(0,vecO 1 (encL 1 az3) c 59),(1,vecO 12 az5 d 65),(2,vecO 1 (encL 1 az3) r.1 59),(3,vecO 12 az5 r.2 65)])
noncomputable def kzi (c:A1)(_a1:A7)(_a2:Nat)(_a3:Nat)(d:Int):T Bool:=
 .br (decide (d≥0))
 (.ret (decide (d<(c.length:Int))))
 (.ret false)
noncomputable def kzh (c)(d)(e)(f)(g):=
 mkD Tryz.func52 (kzi c d e f g) 2 [.agg [.vec 0,.view 1 12 e f],pz g] [(0,vecO 1 (encL 1 az3) c 59),(1,vecO 12 az5 d 65)] (fun r=>.pure (.bool r)) (fun _=>[(0,vecO 1 (encL 1 az3) c 59),(1,vecO 12 az5 d 65)])
noncomputable def kzt (c:azt)(d:Int):T Bool:=
 .br (decide (c.Lo≤d))
 (.ret (decide (d≤c.Hi)))
 (.ret false)
noncomputable def tz0 (c)(d):=
 mkD Tryz.func131 (kzt c d) 0 [.pure (azd c),pz d] [] (fun r=>.pure (.bool r)) (fun _=>[])
noncomputable def ez6 (c:A3)(d:A0):T Bool:=let e:=(c.length:Int);.br (e !=(d.length:Int))
 (.ret false)
 (.loop (fun (f:Int)=>⟨[(1,.pure (encL 1 az3 d)),(2,.func 131 [] []),(14,.pure (encL 12 azd c)),(15,pz e),(16,pz f)],[],[],0⟩)
 (.exit 0) (fun (_:U0)=>⟨[],[],[],0⟩)
 (fun f=>.br (decide (f<e))
 (.gh f c.length<|
 .gh f d.length<|
 .cc (tz0 (c.getD (f.toNat) default) (d.getD (f.toNat) default)) fun g=>
 .br (!g)
 (.ff false)
 (.nn (i64.wrap (f+1))))
 (.oo .u))
 0 [] fun _=>
 .ret true)
noncomputable def gz0 (c)(d):=
 mkD Tryz.func130 (ez6 c d) 0 [.pure (encL 12 azd c),.pure (encL 1 az3 d),.func 131 [] []] [] (fun r=>.pure (.bool r)) (fun _=>[])
noncomputable def ozl (c:azl)(d:A0):T Bool:=
 .cc (vz3 c) fun e=>
 .br (e==0)
 (.cc (gz0 c.Joints d) fun f=>
 .ret f)
 (.ret false)
noncomputable def ozk (c)(d):=
 mkD Tryz.func103 (ozl c d) 0 [.pure (czp c),.pure (encL 1 az3 d)] [] (fun r=>.pure (.bool r)) (fun _=>[])
noncomputable def mzo (c:Int):T Bool:=
 .br (decide (c<(-2147483648)))
 (.ret true)
 (.ret (decide (c>2147483648)))
noncomputable def vzn (c):=
 mkD Tryz.func195 (mzo c) 0 [pz c] [] (fun r=>.pure (.bool r)) (fun _=>[])
noncomputable def ezc (c:A0):T Int:=let d:=(c.length:Nat);.loop (fun (e:Int)=>⟨[(0,.pure (encL 1 az3 c)),(1,.func 195 [] []),(7,pz (d:Int)),(8,pz e)],[],[],0⟩)
 (.exit 0) (fun (_:U0)=>⟨[],[],[],0⟩)
 (fun e=>.br (decide (e<(d:Int)))
 (.gh e c.length<|
 .cc (vzn (c.getD (e.toNat) default)) fun f=>
 .br f
 (.ff e)
 (.nn (i64.wrap (e+1))))
 (.oo .u))
 0 [] fun _=>
 .ret (-1)
noncomputable def gz2 (c):=
 mkD Tryz.func232 (ezc c) 0 [.pure (encL 1 az3 c),.func 195 [] []] [] (fun r=>pz r) (fun _=>[])
noncomputable def dzp (c:A0):T Bool:=
 .cc (gz2 c) fun d=>
 .ret (decide (d≥0))
noncomputable def fze (c):=
 mkD Tryz.func194 (dzp c) 0 [.pure (encL 1 az3 c),.func 195 [] []] [] (fun r=>.pure (.bool r)) (fun _=>[])
noncomputable def rz9 (c:A0):T Bool:=
 .cc (fze c) fun d=>
 .ret (!d)
noncomputable def rz8 (c):=
 mkD Tryz.func164 (rz9 c) 0 [.pure (encL 1 az3 c)] [] (fun r=>.pure (.bool r)) (fun _=>[])
noncomputable def kzu (c:A0)(d:A0)(e:Int):T Bool:=
 .br ((c.length:Int)==(d.length:Int))
 (.cc (rz8 c) fun f=>
 .br f
 (.cc (rz8 d) fun g=>
 .br g
 (.br (decide (0≤e))
 (.ret (decide (e≤20)))
 (.ret false))
 (.ret false))
 (.ret false))
 (.ret false)
noncomputable def tz1 (c)(d)(e):=
 mkD Tryz.func132 (kzu c d e) 0 [.pure (encL 1 az3 c),.pure (encL 1 az3 d),pz e] [] (fun r=>.pure (.bool r)) (fun _=>[])
noncomputable def tzy (c:Int)(d:Int):T Int:=
 .grd (0≤d)<|
 .ret (c.fdiv (2 ^ (min d.toNat 64)))
noncomputable def tzx (c)(d):=
 mkD Tryz.func135 (tzy c d) 0 [pz c,pz d] [] (fun r=>pz r) (fun _=>[])
noncomputable def mzn (c:Int)(d:Int)(e:Int)(f:Int):T (az0×Int×Int):=let g:=i64.wrap (d-c);let h:=i64.wrap (e * g);let i:=i64.wrap ((i64.wrap (e+1)) * g);.name 2003 ((min h i)) fun j=>
 .cc (tzx j f) fun k=>
 .name 2010 ((max h i)) fun m=>
 .cc (tzx (i64.wrap (0-m)) f) fun n=>
 .ret ((⟨(i64.wrap (c+k)),(i64.wrap (c-n))⟩:az0),e,f)
noncomputable def vzm (c)(d)(e)(f):=
 mkD Tryz.func134 (mzn c d e f) 2 [pz c,pz d,.ptr 0 0,.ptr 1 0] [(0,.box [pz e]),(1,.box [pz f])] (fun r=>.pure (aza r.1)) (fun r=>[(0,.box [pz r.2.1]),(1,.box [pz r.2.2])])
noncomputable def czl (c:A0)(d:A0)(e:Int)(f:Int):T (Ag×Int×Int):=let g:=(c.length:Int);.conv 1002 (Hzj 2 aza 176 g.toNat (⟨0,0⟩:az0))<|
 .grd (0≤g/\g≤g/\g≤9223372036854775807/\g * 16≤140737488355328)<|
 .loop (fun (h:(Int×Int×Ag×Int))=>⟨[(1,.pure (encL 1 az3 d)),(2,.func 134 [] [.ptr 0 0,.ptr 1 0]),(7,.vec 2),(13,.pure (encL 1 az3 c)),(14,pz g),(15,pz h.2.2.2)],[(0,.box [pz h.1]),(1,.box [pz h.2.1]),(2,vecO 2 aza h.2.2.1 176)],[],3⟩)
 (.exit 0) (fun (h:(Int×Int×Ag))=>⟨[(7,.vec 2)],[(0,.box [pz h.1]),(1,.box [pz h.2.1]),(2,vecO 2 aza h.2.2 176)],[],3⟩)
 (fun h=>let i:=(h.2.2.2).toNat;.br (decide (h.2.2.2<g))
 (.gh h.2.2.2 c.length<|
 .gh h.2.2.2 d.length<|
 .call (vzm (c.getD i default) (d.getD i default) h.1 h.2.1) [(0,0),(1,1)] fun j=>
 .gh h.2.2.2 h.2.2.1.length<|
 .conv 5010 (fzg 2 aza h.2.2.1 176 i j.1)<|
 .gi (h.2.2.2) h.2.2.1.length<|
 .nn (j.2.1,j.2.2,(h.2.2.1.set i j.1),(i64.wrap (h.2.2.2+1))))
 (.oo (h.1,h.2.1,h.2.2.1)))
 (e,f,(List.replicate g.toNat ((⟨0,0⟩:az0):az0)),0) [] fun h=>
 .ret (h.2.2,h.1,h.2.1)
noncomputable def ez0 (c)(d)(e)(f):=
 mkD Tryz.func133 (czl c d e f) 2 [.pure (encL 1 az3 c),.pure (encL 1 az3 d),.func 134 [] [.ptr 0 0,.ptr 1 0]] [(0,.box [pz e]),(1,.box [pz f])] (fun r=>.pure (encL 2 aza r.1)) (fun r=>[(0,.box [pz r.2.1]),(1,.box [pz r.2.2])])
noncomputable def rz7 (c:A0)(d:A0)(e:Int)(f:Int):T (Ag×Bool):=
 .cut 2 (fun (g:Bool)=>⟨[(0,.pure (encL 1 az3 c)),(1,.pure (encL 1 az3 d)),(6,.ptr 0 0),(7,.ptr 1 0),(24,.pure (.bool g))],[(0,.box [pz e]),(1,.box [pz f])],[],2⟩)
 (.cc (tz1 c d e) fun g=>
 .br (!g)
 (.oo true)
 (.br (decide (f<0))
 (.oo true)
 (.grd (0≤e)<|
 .oo (decide (f≥(i64.wrap (1 * 2 ^ (min e.toNat 64)))))))) fun g=>
 .br g
 (.ret (nl,false))
 (.call (ez0 c d f e) [(0,1),(1,0)] fun h=>
 .ret (h.1,true))
noncomputable def zzl (c)(d)(e)(f):=
 mkD Tryz.func105 (rz7 c d e f) 0 [.pure (encL 1 az3 c),.pure (encL 1 az3 d),pz e,pz f] [] (fun r=>.tup [.pure (encL 2 aza r.1),.pure (.bool r.2)]) (fun _=>[])
noncomputable def mzq (c:az0):T Bool:=
 .br (decide ((-2147483648)≤c.Lo))
 (.br (decide (c.Lo≤c.Hi))
 (.ret (decide (c.Hi≤2147483648)))
 (.ret false))
 (.ret false)
noncomputable def cz5 (c):=
 mkD Tryz.func165 (mzq c) 0 [.pure (aza c)] [] (fun r=>.pure (.bool r)) (fun _=>[])
noncomputable def nzc (c:azl):T A0:=let d:=encL 12 azd c.Joints;let e:=(c.Joints.length:Int);let f:=i64.wrap (e+1);let g:=List.replicate f.toNat (0:Int);.conv 1004 (Hzj 1 az3 3 f.toNat 0)<|
 .grd (0≤f/\f≤f/\f≤9223372036854775807/\f * 8≤140737488355328)<|
 .gh (0:Int) (g.length)<|
 .conv 2002 (fzg 1 az3 g 3 ((0:Int).toNat) (-1))<|
 .gi (0:Int) (g.length)<|
 .loop (fun (h:A2)=>⟨[(3,.vec 0),(14,.pure d),(15,pz e),(16,pz h.2)],[(0,vecO 1 az3 h.1 3)],[],1⟩)
 (.exit 0) (fun (h:A0)=>⟨[(3,.vec 0)],[(0,vecO 1 az3 h 3)],[],1⟩)
 (fun h=>let i:=i64.wrap (h.2+1);let j:=i.toNat;let k:=h.1.set j h.2;let m:=k.length;let n:=c.Joints.getD ((h.2).toNat) default;let q:=i64.wrap ((n.Parent)+1);.br (decide (h.2<e))
 (.cut 0 (fun (s:A0)=>⟨[(3,.vec 0),(14,.pure d),(15,pz e),(16,pz h.2)],[(0,vecO 1 az3 s 3)],[],1⟩)
 (.gh h.2 c.Joints.length<|
 .gh i h.1.length<|
 .conv 6005 (fzg 1 az3 h.1 3 j h.2)<|
 .gi (i) h.1.length<|
 .br ((n.Lo)==(n.Hi))
 (.gg q m<|
 .name 8008 ((k.getD (q.toNat) default)) fun s=>
 .gh i m<|
 .conv 8010 (fzg 1 az3 k 3 j s)<|
 .gi (i) m<|
 .oo (k.set j s))
 (.oo k)) fun s=>
 .nn (s,i))
 (.oo h.1))
 ((g.set ((0:Int).toNat) (-1)),0) [] fun h=>
 .ret h
noncomputable def wz4 (c):=
 mkD Tryz.func196 (nzc c) 0 [.pure (czp c)] [] (fun r=>.pure (encL 1 az3 r)) (fun _=>[])
noncomputable def pzk (c:azg)(d:Int)(e:Int):T Bool:=let f:=encL 2 bz4 c.Skips;let g:=(c.Skips.length:Int);.loop (fun (h:Int)=>⟨[(1,pz d),(2,pz e),(10,.pure f),(11,pz g),(12,pz h)],[],[],0⟩)
 (.exit 0) (fun (_:U0)=>⟨[],[],[],0⟩)
 (fun h=>let i:=c.Skips.getD (h.toNat) default;.br (decide (h<g))
 (.gh h c.Skips.length<|
 .cut 0 (fun (j:Bool)=>⟨[(1,pz d),(2,pz e),(10,.pure f),(11,pz g),(12,pz h),(27,.pure (.bool j))],[],[],0⟩)
 (.br (((i.A)==d)&&(((i.B)==e)&&true))
 (.oo true)
 (.oo (((i.A)==e)&&(((i.B)==d)&&true)))) fun j=>
 .br j
 (.ff true)
 (.nn (i64.wrap (h+1))))
 (.oo .u))
 0 [] fun _=>
 .ret false
noncomputable def yzl (c)(d)(e):=
 mkD Tryz.func197 (pzk c d e) 0 [.pure (cze c),pz d,pz e] [] (fun r=>.pure (.bool r)) (fun _=>[])
noncomputable def vz8 (c:azg):T Ah:=let d:=encL 3 azo c.Shapes;let e:=(c.Shapes.length:Int);let f:Nat×Res:=(0,.box [.pure (encL 12 azd c.Robot.Joints),.pure (encL 5 azj c.Robot.Masses),.pure d,.pure (encL 2 bz4 c.Skips)]);.cc (dzn c) fun g=>
 .br (g !=0)
 (.ret nl)
 (.cc (wz4 c.Robot) fun h=>let i:=encL 1 az3 h;
 .loop (fun (j:Ai)=>⟨[(1,.ptr 0 0),(3,.pure i),(4,.vec 1),(17,.pure d),(18,pz e),(19,pz j.2)],[f,(1,vecO 2 dzu j.1 225)],[],2⟩)
 (.exit 0) (fun (j:Ah)=>⟨[(4,.vec 0)],[(0,vecO 2 dzu j 225)],[],1⟩)
 (fun j=>let k:=c.Shapes.getD ((j.2).toNat) default;let m:=k.Link;let n:=i64.wrap (m+1);let q:=i64.wrap (j.2+1);let s:Nat×Res:=(2,.box [pz m,pz (k.Radius),.pure (encL 3 az1 (k.Points))]);.br (decide (j.2<e))
 (.gh j.2 c.Shapes.length<|
 .loop (fun (t:Ai)=>⟨[(1,.ptr 0 0),(3,.pure i),(4,.vec 1),(5,pz j.2),(6,.ptr 2 0),(7,pz t.2),(17,.pure d),(18,pz e),(19,pz j.2)],[f,(1,vecO 2 dzu t.1 225),s],[],3⟩)
 (.exit 2) (fun (t:Ah)=>⟨[(1,.ptr 0 0),(3,.pure i),(4,.vec 1),(17,.pure d),(18,pz e),(19,pz j.2)],[f,(1,vecO 2 dzu t 225)],[],2⟩)
 (fun t=>let w:=([(⟨j.2,t.2⟩:cz2)]:Ah);let y:=t.1.length+w.length;let z:=(c.Shapes.getD ((t.2).toNat) default).Link;let aa:=i64.wrap (z+1);.br (decide (t.2<e))
 (.cut 0 (fun (ab:Ah)=>⟨[(1,.ptr 0 0),(3,.pure i),(4,.vec 1),(5,pz j.2),(6,.ptr 2 0),(7,pz t.2),(17,.pure d),(18,pz e),(19,pz j.2)],[f,(1,vecO 2 dzu ab 225),s],[],3⟩)
 (.gh t.2 c.Shapes.length<|
 .gh n h.length<|
 .gh aa h.length<|
 .name 12011 ((h.getD (aa.toNat) default)) fun ab=>
 .cut 0 (fun (ac:Bool)=>⟨[(1,.ptr 0 0),(3,.pure i),(4,.vec 1),(5,pz j.2),(6,.ptr 2 0),(7,pz t.2),(17,.pure d),(18,pz e),(19,pz j.2),(61,.pure (.bool ac))],[f,(1,vecO 2 dzu t.1 225),s],[],3⟩)
 (.br (!((h.getD (n.toNat) default)==ab))
 (.cc (yzl c m z) fun ac=>
 .oo (!ac))
 (.oo false)) fun ac=>
 .br ac
 (.conv 14004 (czi 2 dzu w 225)<|
 .conv 14005 (ezf 2 dzu t.1 w 225)<|
 .grd (y * 16≤140737488355328/\y≤maxLen)<|
 .oo (t.1++w))
 (.oo t.1)) fun ab=>
 .nn (ab,(i64.wrap (t.2+1))))
 (.oo t.1))
 (j.1,q) [] fun t=>
 .nn (t,q))
 (.oo j.1))
 (nl,0) [] fun j=>
 .ret j)
noncomputable def Dzd (c):=
 mkD Tryz.func166 (vz8 c) 0 [.pure (cze c)] [] (fun r=>.pure (encL 2 dzu r)) (fun _=>[])
noncomputable def hzx (c:az0):T Bool:=
 .cc (cz5 c) fun d=>
 .ret (!d)
noncomputable def nzm (c):=
 mkD Tryz.func234 (hzx c) 0 [.pure (aza c)] [] (fun r=>.pure (.bool r)) (fun _=>[])
noncomputable def cza (c:Ag):T Int:=let d:=(c.length:Nat);.loop (fun (e:Int)=>⟨[(0,.pure (encL 2 aza c)),(1,.func 234 [] []),(7,pz (d:Int)),(8,pz e)],[],[],0⟩)
 (.exit 0) (fun (_:U0)=>⟨[],[],[],0⟩)
 (fun e=>.br (decide (e<(d:Int)))
 (.gh e c.length<|
 .cc (nzm (c.getD (e.toNat) default)) fun f=>
 .br f
 (.ff e)
 (.nn (i64.wrap (e+1))))
 (.oo .u))
 0 [] fun _=>
 .ret (-1)
noncomputable def dzf (c):=
 mkD Tryz.func259 (cza c) 0 [.pure (encL 2 aza c),.func 234 [] []] [] (fun r=>pz r) (fun _=>[])
noncomputable def cz1 (c:Ag):T Bool:=
 .cc (dzf c) fun d=>
 .ret (decide (d≥0))
noncomputable def dz2 (c):=
 mkD Tryz.func233 (cz1 c) 0 [.pure (encL 2 aza c),.func 234 [] []] [] (fun r=>.pure (.bool r)) (fun _=>[])
noncomputable def jzh (c:azl)(d:Ag):T Bool:=
 .br ((d.length:Int)==(c.Joints.length:Int))
 (.cc (dz2 d) fun e=>
 .ret (!e))
 (.ret false)
noncomputable def qz8 (c)(d):=
 mkD Tryz.func198 (jzh c d) 0 [.pure (czp c),.pure (encL 2 aza d)] [] (fun r=>.pure (.bool r)) (fun _=>[])
noncomputable def uz3 (c:Int):T Int:=
 .ret (min (max c (-2147483648)) 2147483648)
noncomputable def uz2 (c):=
 mkD Tryz.func295 (uz3 c) 0 [pz c] [] (fun r=>pz r) (fun _=>[])
noncomputable def jze (c:Int)(d:Int):T az0:=
 .cc (uz2 c) fun e=>
 .cc (uz2 d) fun f=>
 .ret (⟨e,f⟩:az0)
noncomputable def gzu (c)(d):=
 mkD Tryz.func283 (jze c d) 0 [pz c,pz d] [] (fun r=>.pure (aza r)) (fun _=>[])
noncomputable def uz6 (c:Int):T az0:=
 .cc (gzu c c) fun d=>
 .ret d
noncomputable def czu (c):=
 mkD Tryz.func264 (uz6 c) 0 [pz c] [] (fun r=>.pure (aza r)) (fun _=>[])
noncomputable def rzo (c:Au):T Ay:=
 .unroll 4<|
 .known true<|
 .ix 0 3 rfl<|
 .cc (czu c.1) fun d=>
 .ix 0 3 rfl<|
 .lit 6000 (1)<|
 .known true<|
 .ix 1 3 rfl<|
 .cc (czu c.2.1) fun e=>
 .ix 1 3 rfl<|
 .lit 6000 (2)<|
 .known true<|
 .ix 2 3 rfl<|
 .cc (czu c.2.2) fun f=>
 .ix 2 3 rfl<|
 .lit 6000 (3)<|
 .known false<|
 .ret (d,e,f)
noncomputable def lzq (c):=
 mkD Tryz.func241 (rzo c) 0 [.pure (az1 c)] [] (fun r=>.pure (az2 r)) (fun _=>[])
noncomputable def matrix_Identity_T:T B1:=
 .unroll 4<|
 .known true<|
 .cc (czu 65536) fun c=>
 .ix 0 3 rfl<|
 .ix 0 3 rfl<|
 .lit 6000 (1)<|
 .known true<|
 .cc (czu 65536) fun d=>
 .ix 1 3 rfl<|
 .ix 1 3 rfl<|
 .lit 6000 (2)<|
 .known true<|
 .cc (czu 65536) fun e=>
 .ix 2 3 rfl<|
 .ix 2 3 rfl<|
 .lit 6000 (3)<|
 .known false<|
 .ret ((c,(⟨0,0⟩:az0),(⟨0,0⟩:az0)),((⟨0,0⟩:az0),d,(⟨0,0⟩:az0)),((⟨0,0⟩:az0),(⟨0,0⟩:az0),e))
noncomputable def matrix_Identity_C:CallS B1:=
 mkD Tryz.func263 (matrix_Identity_T) 0 [] [] (fun r=>.pure (bzh r)) (fun _=>[])
noncomputable def xzd (c:Ay):T azw:=
 .cc (matrix_Identity_C) fun d=>
 .ret (⟨d,c⟩:azw)
noncomputable def qzf (c):=
 mkD Tryz.func237 (xzd c) 0 [.pure (az2 c)] [] (fun r=>.pure (bzn r)) (fun _=>[])
noncomputable def fzr (c:Int):T Int:=
 .cut 3 (fun (d:Bool)=>⟨[(0,pz c),(2,.ptr 0 0),(3,pz c),(4,.pure (.bool d))],[(0,.box [.any])],[],1⟩)
 (.br (c==1)
 (.oo (c==1))
 (.br (c==2)
 (.oo (c==2))
 (.oo (c==3)))) fun d=>
 .br d
 (.ret (i64.wrap (c-1)))
 (.cut 0 (fun (e:Bool)=>⟨[(0,pz c),(2,.ptr 0 0),(12,.pure (.bool e))],[(0,.box [.any])],[],1⟩)
 (.br (c==4)
 (.oo (c==4))
 (.br (c==5)
 (.oo (c==5))
 (.oo (c==6)))) fun e=>
 .br e
 (.stop)
 (.stop))
noncomputable def fzq (c):=
 mkD Tryz.func260 (fzr c) 0 [pz c] [] (fun r=>.agg [.func 274 [pz r] []]) (fun _=>[])
noncomputable def fzt (c:Int):T Int:=
 .cut 3 (fun (d:Bool)=>⟨[(0,pz c),(2,.ptr 0 0),(3,pz c),(4,.pure (.bool d))],[(0,.box [.any])],[],1⟩)
 (.br (c==1)
 (.oo (c==1))
 (.br (c==2)
 (.oo (c==2))
 (.oo (c==3)))) fun d=>
 .br d
 (.stop)
 (.cut 0 (fun (e:Bool)=>⟨[(0,pz c),(2,.ptr 0 0),(12,.pure (.bool e))],[(0,.box [.any])],[],1⟩)
 (.br (c==4)
 (.oo (c==4))
 (.br (c==5)
 (.oo (c==5))
 (.oo (c==6)))) fun e=>
 .br e
 (.ret (i64.wrap (c-4)))
 (.stop))
noncomputable def fzs (c):=
 mkD Tryz.func260 (fzt c) 0 [pz c] [] (fun r=>.agg [.func 275 [pz r] []]) (fun _=>[])
noncomputable def fzu (c:Int):T Int:=
 .cut 3 (fun (d:Bool)=>⟨[(0,pz c),(2,.ptr 0 0),(3,pz c),(4,.pure (.bool d))],[(0,.box [.any])],[],1⟩)
 (.br (c==1)
 (.oo (c==1))
 (.br (c==2)
 (.oo (c==2))
 (.oo (c==3)))) fun d=>
 .br d
 (.stop)
 (.cut 0 (fun (e:Bool)=>⟨[(0,pz c),(2,.ptr 0 0),(12,.pure (.bool e))],[(0,.box [.any])],[],1⟩)
 (.br (c==4)
 (.oo (c==4))
 (.br (c==5)
 (.oo (c==5))
 (.oo (c==6)))) fun e=>
 .br e
 (.stop)
 (.ret 0))
noncomputable def jz0 (c):=
 mkD Tryz.func260 (fzu c) 0 [pz c] [] (fun r=>.agg [.func 276 [pz r] []]) (fun _=>[])
noncomputable def pose_still_T:T Ay:=
 .cc (lzq (0,0,0)) fun c=>
 .ret c
noncomputable def pose_still_C:CallS Ay:=
 mkD Tryz.func238 (pose_still_T) 0 [] [] (fun r=>.pure (az2 r)) (fun _=>[])
noncomputable def pose_Identity_T:T azw:=
 .cc (pose_still_C) fun c=>
 .cc (qzf c) fun d=>
 .ret d
noncomputable def pose_Identity_C:CallS azw:=
 mkD Tryz.func200 (pose_Identity_T) 0 [] [] (fun r=>.pure (bzn r)) (fun _=>[])
noncomputable def Azo (_a0:Int)(_a1:az0):T azw:=
 .cc (pose_Identity_C) fun c=>
 .ret c
noncomputable def Hzc (c)(d):=
 mkD Tryz.func276 (Azo c d) 0 [pz c,.pure (aza d)] [] (fun r=>.pure (bzn r)) (fun _=>[])
noncomputable def mzc (c:azw):T Bf:=
 .ret (c.R.1.1.Lo,c.R.1.1.Hi,c.R.1.2.1.Lo,c.R.1.2.1.Hi,c.R.1.2.2.Lo,c.R.1.2.2.Hi,c.R.2.1.1.Lo,c.R.2.1.1.Hi,c.R.2.1.2.1.Lo,c.R.2.1.2.1.Hi,c.R.2.1.2.2.Lo,c.R.2.1.2.2.Hi,c.R.2.2.1.Lo,c.R.2.2.1.Hi,c.R.2.2.2.1.Lo,c.R.2.2.2.1.Hi,c.R.2.2.2.2.Lo,c.R.2.2.2.2.Hi,c.T.1.Lo,c.T.1.Hi,c.T.2.1.Lo,c.T.2.1.Hi,c.T.2.2.Lo,c.T.2.2.Hi)
noncomputable def qzg (c):=
 mkD Tryz.func261 (mzc c) 0 [.pure (bzn c)] [] (fun _=>.func 277 [] [.ptr 0 0]) (fun r=>[(0,.box [pz r.1,pz r.2.1,pz r.2.2.1,pz r.2.2.2.1,pz r.2.2.2.2.1,pz r.2.2.2.2.2.1,pz r.2.2.2.2.2.2.1,pz r.2.2.2.2.2.2.2.1,pz r.2.2.2.2.2.2.2.2.1,pz r.2.2.2.2.2.2.2.2.2.1,pz r.2.2.2.2.2.2.2.2.2.2.1,pz r.2.2.2.2.2.2.2.2.2.2.2.1,pz r.2.2.2.2.2.2.2.2.2.2.2.2.1,pz r.2.2.2.2.2.2.2.2.2.2.2.2.2.1,pz r.2.2.2.2.2.2.2.2.2.2.2.2.2.2.1,pz r.2.2.2.2.2.2.2.2.2.2.2.2.2.2.2.1,pz r.2.2.2.2.2.2.2.2.2.2.2.2.2.2.2.2.1,pz r.2.2.2.2.2.2.2.2.2.2.2.2.2.2.2.2.2.1,pz r.2.2.2.2.2.2.2.2.2.2.2.2.2.2.2.2.2.2.1,pz r.2.2.2.2.2.2.2.2.2.2.2.2.2.2.2.2.2.2.2.1,pz r.2.2.2.2.2.2.2.2.2.2.2.2.2.2.2.2.2.2.2.2.1,pz r.2.2.2.2.2.2.2.2.2.2.2.2.2.2.2.2.2.2.2.2.2.1,pz r.2.2.2.2.2.2.2.2.2.2.2.2.2.2.2.2.2.2.2.2.2.2.1,pz r.2.2.2.2.2.2.2.2.2.2.2.2.2.2.2.2.2.2.2.2.2.2.2])])
noncomputable def mzt (c:az0)(d:az0):T Bool:=
 .cc (cz5 c) fun e=>
 .br e
 (.cc (cz5 d) fun f=>
 .ret f)
 (.ret false)
noncomputable def izk (c)(d):=
 mkD Tryz.func293 (mzt c d) 0 [.pure (aza c),.pure (aza d)] [] (fun r=>.pure (.bool r)) (fun _=>[])
noncomputable def kzw (c:Int)(d:Int):T Int:=
 .br (decide (d<0))
 (.ret c)
 (.grd (0≤d)<|
 .ret (c.fdiv (2 ^ (min d.toNat 64))))
noncomputable def bza (c)(d):=
 mkD Tryz.func218 (kzw c d) 0 [pz c,pz d] [] (fun r=>pz r) (fun _=>[])
noncomputable def ozp (c:Int)(d:Int):T Int:=let e:=min d.toNat 64;let f:=c.fdiv (2 ^ e);.br (decide (d<0))
 (.ret c)
 (.grd (0≤d)<|
 .cut 0 (fun (g:Int)=>⟨[(5,pz g)],[],[],0⟩)
 (.grd (0≤d)<|
 .br ((i64.wrap (f * 2 ^ e)) !=c)
 (.oo (i64.wrap (f+1)))
 (.oo f)) fun g=>
 .ret g)
noncomputable def bzg (c)(d):=
 mkD Tryz.func246 (ozp c d) 0 [pz c,pz d] [] (fun r=>pz r) (fun _=>[])
noncomputable def kzx (c:Int)(d:Int):T az0:=
 .cc (bza c 16) fun e=>
 .cc (bzg d 16) fun f=>
 .cc (gzu e f) fun g=>
 .ret g
noncomputable def tz5 (c)(d):=
 mkD Tryz.func294 (kzx c d) 0 [pz c,pz d] [] (fun r=>.pure (aza r)) (fun _=>[])
noncomputable def rzi (c:az0)(d:az0):T az0:=let e:=i64.wrap (c.Lo * d.Lo);let f:=i64.wrap (c.Lo * d.Hi);let g:=i64.wrap (c.Hi * d.Lo);let h:=i64.wrap (c.Hi * d.Hi);.cc (izk (⟨c.Lo,c.Hi⟩:az0) (⟨d.Lo,d.Hi⟩:az0)) fun i=>
 .br (!i)
 (.ret (⟨0,0⟩:az0))
 (.ix 0 4 rfl<|
 .ix 0 4 rfl<|
 .loop (fun (j:Au)=>⟨[(4,.ptr 0 0),(6,pz j.1),(7,pz j.2.1),(40,.pure (Hzr (e,f,g,h))),(41,pz j.2.2)],[(0,.box [pz 0,pz 0])],[],1⟩)
 (.exit 0) (fun (j:An)=>⟨[(4,.ptr 0 0),(6,pz j.1),(7,pz j.2)],[(0,.box [pz 0,pz 0])],[],1⟩)
 (fun j=>.br (decide (j.2.2<4))
 (.gh j.2.2 4<|
 .name 7000 ((([e,f,g,h]:List Int).getD (j.2.2).toNat 0)) fun k=>
 .nn ((min j.1 k),(max j.2.1 k),(i64.wrap (j.2.2+1))))
 (.oo (j.1,j.2.1)))
 (e,e,0) [] fun j=>
 .cc (tz5 j.1 j.2) fun k=>
 .ret k)
noncomputable def azq (c)(d):=
 mkD Tryz.func281 (rzi c d) 0 [.pure (aza c),.pure (aza d)] [] (fun r=>.pure (aza r)) (fun _=>[])
noncomputable def rze (c:az0)(d:az0):T az0:=
 .cc (izk c d) fun e=>
 .br (!e)
 (.ret (⟨0,0⟩:az0))
 (.cc (gzu (i64.wrap (c.Lo+d.Lo)) (i64.wrap (c.Hi+d.Hi))) fun f=>
 .ret f)
noncomputable def azp (c)(d):=
 mkD Tryz.func280 (rze c d) 0 [.pure (aza c),.pure (aza d)] [] (fun r=>.pure (aza r)) (fun _=>[])
noncomputable def mzz (c:Int):T Int:=
 .ret (min (max c (-65536)) 65536)
noncomputable def bz8 (c):=
 mkD Tryz.func282 (mzz c) 0 [pz c] [] (fun r=>pz r) (fun _=>[])
end Go.Abs
