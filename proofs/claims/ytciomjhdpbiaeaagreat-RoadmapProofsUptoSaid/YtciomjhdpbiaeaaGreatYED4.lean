/-
  D4 (a part of a claim: our own text).
-/
import Derived.Test.YtciomjhdpbiaeaaGreatYED3
namespace Go.Abs
open IntKind (i64)
open Go.Proofs
noncomputable def mzq (c:azf):T A0:=let d:=encL 12 az9 c.Joints;let e:=(c.Joints.length:Int);let f:=i64.wrap (e+1);let g:=List.replicate f.toNat (0:Int);.conv 1004 (Gz5 1 az1 3 f.toNat 0)<|
 .grd (0≤f/\f≤f/\f≤9223372036854775807/\f * 8≤140737488355328)<|
 .gh (0:Int) (g.length)<|
 .conv 2002 (bzm 1 az1 g 3 ((0:Int).toNat) (-1))<|
 .gi (0:Int) (g.length)<|
 .loop (fun (h:A3)=>⟨[(3,.vec 0),(14,.pure d),(15,pz e),(16,pz h.2)],[(0,vecO 1 az1 h.1 3)],[],1⟩)
 (.exit 0) (fun (h:A0)=>⟨[(3,.vec 0)],[(0,vecO 1 az1 h 3)],[],1⟩)
 (fun h=>let i:=i64.wrap (h.2+1);let j:=i.toNat;let k:=h.1.set j h.2;let l:=k.length;let m:=c.Joints.getD ((h.2).toNat) default;let n:=i64.wrap ((m.Parent)+1);.br (decide (h.2<e))
 (.cut 0 (fun (s:A0)=>⟨[(3,.vec 0),(14,.pure d),(15,pz e),(16,pz h.2)],[(0,vecO 1 az1 s 3)],[],1⟩)
 (.gh h.2 c.Joints.length<|
 .gh i h.1.length<|
 .conv 6005 (bzm 1 az1 h.1 3 j h.2)<|
 .gi (i) h.1.length<|
 .br ((m.Lo)==(m.Hi))
 (.gg n l<|
 .name 8008 ((k.getD (n.toNat) default)) fun s=>
 .gh i l<|
 .conv 8010 (bzm 1 az1 k 3 j s)<|
 .gi (i) l<|
 .oo (k.set j s))
 (.oo k)) fun s=>
 .nn (s,i))
 (.oo h.1))
 ((g.set ((0:Int).toNat) (-1)),0) [] fun h=>
 .ret h
noncomputable def vzh (c):=
 mkD Tryz.func252 (mzq c) 0 [.pure (bzg c)] [] (fun r=>.pure (encL 1 az1 r)) (fun _=>[])
noncomputable def pz7 (c:azd)(d:Int)(e:Int):T Bool:=let f:=encL 2 azw c.Skips;let g:=(c.Skips.length:Int);.loop (fun (h:Int)=>⟨[(1,pz d),(2,pz e),(10,.pure f),(11,pz g),(12,pz h)],[],[],0⟩)
 (.exit 0) (fun (_:U0)=>⟨[],[],[],0⟩)
 (fun h=>let i:=c.Skips.getD (h.toNat) default;.br (decide (h<g))
 (.gh h c.Skips.length<|
 .cut 0 (fun (j:Bool)=>⟨[(1,pz d),(2,pz e),(10,.pure f),(11,pz g),(12,pz h),(27,.pure (.bool j))],[],[],0⟩)
 (.br (((i.A)==d)&&(((i.B)==e)&&true))
 (.oo true)
 (.oo (((i.A)==e)&&(((i.B)==d)&&true)))) fun j=>
 .br j
 (.ff true)
 (.nn (i64.wrap (h+1))))
 (.oo .u))
 0 [] fun _=>
 .ret false
noncomputable def xzz (c)(d)(e):=
 mkD Tryz.func253 (pz7 c d e) 0 [.pure (cz6 c),pz d,pz e] [] (fun r=>.pure (.bool r)) (fun _=>[])
noncomputable def uzm (c:azd):T Ab:=let d:=encL 3 azj c.Shapes;let e:=(c.Shapes.length:Int);let f:Nat×Res:=(0,.box [.pure (encL 12 az9 c.Robot.Joints),.pure (encL 5 aze c.Robot.Masses),.pure d,.pure (encL 2 azw c.Skips)]);.cc (jzl c) fun g=>
 .br (g !=0)
 (.ret nl)
 (.cc (vzh c.Robot) fun h=>let i:=encL 1 az1 h;
 .loop (fun (j:Ac)=>⟨[(1,.ptr 0 0),(3,.pure i),(4,.vec 1),(17,.pure d),(18,pz e),(19,pz j.2)],[f,(1,vecO 2 dzi j.1 168)],[],2⟩)
 (.exit 0) (fun (j:Ab)=>⟨[(4,.vec 0)],[(0,vecO 2 dzi j 168)],[],1⟩)
 (fun j=>let k:=c.Shapes.getD ((j.2).toNat) default;let l:=k.Link;let m:=i64.wrap (l+1);let n:=i64.wrap (j.2+1);let s:Nat×Res:=(2,.box [pz l,pz (k.Radius),.pure (encL 3 az3 (k.Points))]);.br (decide (j.2<e))
 (.gh j.2 c.Shapes.length<|
 .loop (fun (t:Ac)=>⟨[(1,.ptr 0 0),(3,.pure i),(4,.vec 1),(5,pz j.2),(6,.ptr 2 0),(7,pz t.2),(17,.pure d),(18,pz e),(19,pz j.2)],[f,(1,vecO 2 dzi t.1 168),s],[],3⟩)
 (.exit 2) (fun (t:Ab)=>⟨[(1,.ptr 0 0),(3,.pure i),(4,.vec 1),(17,.pure d),(18,pz e),(19,pz j.2)],[f,(1,vecO 2 dzi t 168)],[],2⟩)
 (fun t=>let w:=([(⟨j.2,t.2⟩:bzx)]:Ab);let y:=t.1.length+w.length;let z:=(c.Shapes.getD ((t.2).toNat) default).Link;let aa:=i64.wrap (z+1);.br (decide (t.2<e))
 (.cut 0 (fun (ab:Ab)=>⟨[(1,.ptr 0 0),(3,.pure i),(4,.vec 1),(5,pz j.2),(6,.ptr 2 0),(7,pz t.2),(17,.pure d),(18,pz e),(19,pz j.2)],[f,(1,vecO 2 dzi ab 168),s],[],3⟩)
 (.gh t.2 c.Shapes.length<|
 .gh m h.length<|
 .gh aa h.length<|
 .name 12011 ((h.getD (aa.toNat) default)) fun ab=>
 .cut 0 (fun (ac:Bool)=>⟨[(1,.ptr 0 0),(3,.pure i),(4,.vec 1),(5,pz j.2),(6,.ptr 2 0),(7,pz t.2),(17,.pure d),(18,pz e),(19,pz j.2),(61,.pure (.bool ac))],[f,(1,vecO 2 dzi t.1 168),s],[],3⟩)
 (.br (!((h.getD (m.toNat) default)==ab))
 (.cc (xzz c l z) fun ac=>
 .oo (!ac))
 (.oo false)) fun ac=>
 .br ac
 (.conv 14004 (czk 2 dzi w 168)<|
 .conv 14005 (ez5 2 dzi t.1 w 168)<|
 .grd (y * 16≤140737488355328/\y≤maxLen)<|
 .oo (t.1++w))
 (.oo t.1)) fun ab=>
 .nn (ab,(i64.wrap (t.2+1))))
 (.oo t.1))
 (j.1,n) [] fun t=>
 .nn (t,n))
 (.oo j.1))
 (nl,0) [] fun j=>
 .ret j)
noncomputable def Dze (c):=
 mkD Tryz.func241 (uzm c) 0 [.pure (cz6 c)] [] (fun r=>.pure (encL 2 dzi r)) (fun _=>[])
noncomputable def gzy (c:az0):T Bool:=
 .cc (czc c) fun d=>
 .ret (!d)
noncomputable def nz4 (c):=
 mkD Tryz.func264 (gzy c) 0 [.pure (az7 c)] [] (fun r=>.pure (.bool r)) (fun _=>[])
noncomputable def cz4 (c:A9):T Int:=let d:=(c.length:Nat);.loop (fun (e:Int)=>⟨[(0,.pure (encL 2 az7 c)),(1,.func 264 [] []),(7,pz (d:Int)),(8,pz e)],[],[],0⟩)
 (.exit 0) (fun (_:U0)=>⟨[],[],[],0⟩)
 (fun e=>.br (decide (e<(d:Int)))
 (.gh e c.length<|
 .cc (nz4 (c.getD (e.toNat) default)) fun f=>
 .br f
 (.ff e)
 (.nn (i64.wrap (e+1))))
 (.oo .u))
 0 [] fun _=>
 .ret (-1)
noncomputable def dz7 (c):=
 mkD Tryz.func275 (cz4 c) 0 [.pure (encL 2 az7 c),.func 264 [] []] [] (fun r=>pz r) (fun _=>[])
noncomputable def bzt (c:A9):T Bool:=
 .cc (dz7 c) fun d=>
 .ret (decide (d≥0))
noncomputable def czt (c):=
 mkD Tryz.func263 (bzt c) 0 [.pure (encL 2 az7 c),.func 264 [] []] [] (fun r=>.pure (.bool r)) (fun _=>[])
noncomputable def izt (c:azf)(d:A9):T Bool:=
 .br ((d.length:Int)==(c.Joints.length:Int))
 (.cc (czt d) fun e=>
 .ret (!e))
 (.ret false)
noncomputable def pzt (c)(d):=
 mkD Tryz.func254 (izt c d) 0 [.pure (bzg c),.pure (encL 2 az7 d)] [] (fun r=>.pure (.bool r)) (fun _=>[])
noncomputable def tzg (c:Int):T Int:=
 .ret (min (max c (-2147483648)) 2147483648)
noncomputable def tzf (c):=
 mkD Tryz.func300 (tzg c) 0 [pz c] [] (fun r=>pz r) (fun _=>[])
noncomputable def izq (c:Int)(d:Int):T az0:=
 .cc (tzf c) fun e=>
 .cc (tzf d) fun f=>
 .ret (⟨e,f⟩:az0)
noncomputable def fzy (c)(d):=
 mkD Tryz.func294 (izq c d) 0 [pz c,pz d] [] (fun r=>.pure (az7 r)) (fun _=>[])
noncomputable def tzj (c:Int):T az0:=
 .cc (fzy c c) fun d=>
 .ret d
noncomputable def czm (c):=
 mkD Tryz.func280 (tzj c) 0 [pz c] [] (fun r=>.pure (az7 r)) (fun _=>[])
noncomputable def rz0 (c:Aw):T Az:=
 .unroll 4<|
 .known true<|
 .ix 0 3 rfl<|
 .cc (czm c.1) fun d=>
 .ix 0 3 rfl<|
 .lit 6000 (1)<|
 .known true<|
 .ix 1 3 rfl<|
 .cc (czm c.2.1) fun e=>
 .ix 1 3 rfl<|
 .lit 6000 (2)<|
 .known true<|
 .ix 2 3 rfl<|
 .cc (czm c.2.2) fun f=>
 .ix 2 3 rfl<|
 .lit 6000 (3)<|
 .known false<|
 .ret (d,e,f)
noncomputable def lz5 (c):=
 mkD Tryz.func271 (rz0 c) 0 [.pure (az3 c)] [] (fun r=>.pure (az2 r)) (fun _=>[])
noncomputable def matrix_Identity_T:T B2:=
 .unroll 4<|
 .known true<|
 .cc (czm 65536) fun c=>
 .ix 0 3 rfl<|
 .ix 0 3 rfl<|
 .lit 6000 (1)<|
 .known true<|
 .cc (czm 65536) fun d=>
 .ix 1 3 rfl<|
 .ix 1 3 rfl<|
 .lit 6000 (2)<|
 .known true<|
 .cc (czm 65536) fun e=>
 .ix 2 3 rfl<|
 .ix 2 3 rfl<|
 .lit 6000 (3)<|
 .known false<|
 .ret ((c,(⟨0,0⟩:az0),(⟨0,0⟩:az0)),((⟨0,0⟩:az0),d,(⟨0,0⟩:az0)),((⟨0,0⟩:az0),(⟨0,0⟩:az0),e))
noncomputable def matrix_Identity_C:CallS B2:=
 mkD Tryz.func279 (matrix_Identity_T) 0 [] [] (fun r=>.pure (bza r)) (fun _=>[])
noncomputable def wzz (c:Az):T azr:=
 .cc (matrix_Identity_C) fun d=>
 .ret (⟨d,c⟩:azr)
noncomputable def pzy (c):=
 mkD Tryz.func267 (wzz c) 0 [.pure (az2 c)] [] (fun r=>.pure (bzj r)) (fun _=>[])
noncomputable def fz9 (c:Int):T Int:=
 .cut 3 (fun (d:Bool)=>⟨[(0,pz c),(2,.ptr 0 0),(3,pz c),(4,.pure (.bool d))],[(0,.box [.any])],[],1⟩)
 (.br (c==1)
 (.oo (c==1))
 (.br (c==2)
 (.oo (c==2))
 (.oo (c==3)))) fun d=>
 .br d
 (.ret (i64.wrap (c-1)))
 (.cut 0 (fun (e:Bool)=>⟨[(0,pz c),(2,.ptr 0 0),(12,.pure (.bool e))],[(0,.box [.any])],[],1⟩)
 (.br (c==4)
 (.oo (c==4))
 (.br (c==5)
 (.oo (c==5))
 (.oo (c==6)))) fun e=>
 .br e
 (.stop)
 (.stop))
noncomputable def fz8 (c):=
 mkD Tryz.func276 (fz9 c) 0 [pz c] [] (fun r=>.agg [.func 285 [pz r] []]) (fun _=>[])
noncomputable def fzb (c:Int):T Int:=
 .cut 3 (fun (d:Bool)=>⟨[(0,pz c),(2,.ptr 0 0),(3,pz c),(4,.pure (.bool d))],[(0,.box [.any])],[],1⟩)
 (.br (c==1)
 (.oo (c==1))
 (.br (c==2)
 (.oo (c==2))
 (.oo (c==3)))) fun d=>
 .br d
 (.stop)
 (.cut 0 (fun (e:Bool)=>⟨[(0,pz c),(2,.ptr 0 0),(12,.pure (.bool e))],[(0,.box [.any])],[],1⟩)
 (.br (c==4)
 (.oo (c==4))
 (.br (c==5)
 (.oo (c==5))
 (.oo (c==6)))) fun e=>
 .br e
 (.ret (i64.wrap (c-4)))
 (.stop))
noncomputable def fza (c):=
 mkD Tryz.func276 (fzb c) 0 [pz c] [] (fun r=>.agg [.func 286 [pz r] []]) (fun _=>[])
noncomputable def fzc (c:Int):T Int:=
 .cut 3 (fun (d:Bool)=>⟨[(0,pz c),(2,.ptr 0 0),(3,pz c),(4,.pure (.bool d))],[(0,.box [.any])],[],1⟩)
 (.br (c==1)
 (.oo (c==1))
 (.br (c==2)
 (.oo (c==2))
 (.oo (c==3)))) fun d=>
 .br d
 (.stop)
 (.cut 0 (fun (e:Bool)=>⟨[(0,pz c),(2,.ptr 0 0),(12,.pure (.bool e))],[(0,.box [.any])],[],1⟩)
 (.br (c==4)
 (.oo (c==4))
 (.br (c==5)
 (.oo (c==5))
 (.oo (c==6)))) fun e=>
 .br e
 (.stop)
 (.ret 0))
noncomputable def iz8 (c):=
 mkD Tryz.func276 (fzc c) 0 [pz c] [] (fun r=>.agg [.func 287 [pz r] []]) (fun _=>[])
noncomputable def pose_still_T:T Az:=
 .cc (lz5 (0,0,0)) fun c=>
 .ret c
noncomputable def pose_still_C:CallS Az:=
 mkD Tryz.func268 (pose_still_T) 0 [] [] (fun r=>.pure (az2 r)) (fun _=>[])
noncomputable def pose_Identity_T:T azr:=
 .cc (pose_still_C) fun c=>
 .cc (pzy c) fun d=>
 .ret d
noncomputable def pose_Identity_C:CallS azr:=
 mkD Tryz.func256 (pose_Identity_T) 0 [] [] (fun r=>.pure (bzj r)) (fun _=>[])
noncomputable def Azb (_a0:Int)(_a1:az0):T azr:=
 .cc (pose_Identity_C) fun c=>
 .ret c
noncomputable def Hzg (c)(d):=
 mkD Tryz.func287 (Azb c d) 0 [pz c,.pure (az7 d)] [] (fun r=>.pure (bzj r)) (fun _=>[])
noncomputable def lzp (c:azr):T Bj:=
 .ret (c.R.1.1.Lo,c.R.1.1.Hi,c.R.1.2.1.Lo,c.R.1.2.1.Hi,c.R.1.2.2.Lo,c.R.1.2.2.Hi,c.R.2.1.1.Lo,c.R.2.1.1.Hi,c.R.2.1.2.1.Lo,c.R.2.1.2.1.Hi,c.R.2.1.2.2.Lo,c.R.2.1.2.2.Hi,c.R.2.2.1.Lo,c.R.2.2.1.Hi,c.R.2.2.2.1.Lo,c.R.2.2.2.1.Hi,c.R.2.2.2.2.Lo,c.R.2.2.2.2.Hi,c.T.1.Lo,c.T.1.Hi,c.T.2.1.Lo,c.T.2.1.Hi,c.T.2.2.Lo,c.T.2.2.Hi)
noncomputable def pzz (c):=
 mkD Tryz.func277 (lzp c) 0 [.pure (bzj c)] [] (fun _=>.func 288 [] [.ptr 0 0]) (fun r=>[(0,.box [pz r.1,pz r.2.1,pz r.2.2.1,pz r.2.2.2.1,pz r.2.2.2.2.1,pz r.2.2.2.2.2.1,pz r.2.2.2.2.2.2.1,pz r.2.2.2.2.2.2.2.1,pz r.2.2.2.2.2.2.2.2.1,pz r.2.2.2.2.2.2.2.2.2.1,pz r.2.2.2.2.2.2.2.2.2.2.1,pz r.2.2.2.2.2.2.2.2.2.2.2.1,pz r.2.2.2.2.2.2.2.2.2.2.2.2.1,pz r.2.2.2.2.2.2.2.2.2.2.2.2.2.1,pz r.2.2.2.2.2.2.2.2.2.2.2.2.2.2.1,pz r.2.2.2.2.2.2.2.2.2.2.2.2.2.2.2.1,pz r.2.2.2.2.2.2.2.2.2.2.2.2.2.2.2.2.1,pz r.2.2.2.2.2.2.2.2.2.2.2.2.2.2.2.2.2.1,pz r.2.2.2.2.2.2.2.2.2.2.2.2.2.2.2.2.2.2.1,pz r.2.2.2.2.2.2.2.2.2.2.2.2.2.2.2.2.2.2.2.1,pz r.2.2.2.2.2.2.2.2.2.2.2.2.2.2.2.2.2.2.2.2.1,pz r.2.2.2.2.2.2.2.2.2.2.2.2.2.2.2.2.2.2.2.2.2.1,pz r.2.2.2.2.2.2.2.2.2.2.2.2.2.2.2.2.2.2.2.2.2.2.1,pz r.2.2.2.2.2.2.2.2.2.2.2.2.2.2.2.2.2.2.2.2.2.2.2])])
noncomputable def mzc (c:az0)(d:az0):T Bool:=
 .cc (czc c) fun e=>
 .br e
 (.cc (czc d) fun f=>
 .ret f)
 (.ret false)
noncomputable def hzk (c)(d):=
 mkD Tryz.func298 (mzc c d) 0 [.pure (az7 c),.pure (az7 d)] [] (fun r=>.pure (.bool r)) (fun _=>[])
noncomputable def kzc (c:Int)(d:Int):T Int:=
 .br (decide (d<0))
 (.ret c)
 (.grd (0≤d)<|
 .ret (c.fdiv (2 ^ (min d.toNat 64))))
noncomputable def bz7 (c)(d):=
 mkD Tryz.func304 (kzc c d) 0 [pz c,pz d] [] (fun r=>pz r) (fun _=>[])
noncomputable def ozd (c:Int)(d:Int):T Int:=let e:=min d.toNat 64;let f:=c.fdiv (2 ^ e);.br (decide (d<0))
 (.ret c)
 (.grd (0≤d)<|
 .cut 0 (fun (g:Int)=>⟨[(5,pz g)],[],[],0⟩)
 (.grd (0≤d)<|
 .br ((i64.wrap (f * 2 ^ e)) !=c)
 (.oo (i64.wrap (f+1)))
 (.oo f)) fun g=>
 .ret g)
noncomputable def bzh (c)(d):=
 mkD Tryz.func305 (ozd c d) 0 [pz c,pz d] [] (fun r=>pz r) (fun _=>[])
noncomputable def kzf (c:Int)(d:Int):T az0:=
 .cc (bz7 c 16) fun e=>
 .cc (bzh d 16) fun f=>
 .cc (fzy e f) fun g=>
 .ret g
noncomputable def szb (c)(d):=
 mkD Tryz.func299 (kzf c d) 0 [pz c,pz d] [] (fun r=>.pure (az7 r)) (fun _=>[])
noncomputable def qzt (c:az0)(d:az0):T az0:=let e:=i64.wrap (c.Lo * d.Lo);let f:=i64.wrap (c.Lo * d.Hi);let g:=i64.wrap (c.Hi * d.Lo);let h:=i64.wrap (c.Hi * d.Hi);.cc (hzk (⟨c.Lo,c.Hi⟩:az0) (⟨d.Lo,d.Hi⟩:az0)) fun i=>
 .br (!i)
 (.ret (⟨0,0⟩:az0))
 (.ix 0 4 rfl<|
 .ix 0 4 rfl<|
 .loop (fun (j:Aw)=>⟨[(4,.ptr 0 0),(6,pz j.1),(7,pz j.2.1),(40,.pure (Hzt (e,f,g,h))),(41,pz j.2.2)],[(0,.box [pz 0,pz 0])],[],1⟩)
 (.exit 0) (fun (j:Ah)=>⟨[(4,.ptr 0 0),(6,pz j.1),(7,pz j.2)],[(0,.box [pz 0,pz 0])],[],1⟩)
 (fun j=>.br (decide (j.2.2<4))
 (.gh j.2.2 4<|
 .name 7000 ((([e,f,g,h]:List Int).getD (j.2.2).toNat 0)) fun k=>
 .nn ((min j.1 k),(max j.2.1 k),(i64.wrap (j.2.2+1))))
 (.oo (j.1,j.2.1)))
 (e,e,0) [] fun j=>
 .cc (szb j.1 j.2) fun k=>
 .ret k)
noncomputable def azm (c)(d):=
 mkD Tryz.func292 (qzt c d) 0 [.pure (az7 c),.pure (az7 d)] [] (fun r=>.pure (az7 r)) (fun _=>[])
noncomputable def qzq (c:az0)(d:az0):T az0:=
 .cc (hzk c d) fun e=>
 .br (!e)
 (.ret (⟨0,0⟩:az0))
 (.cc (fzy (i64.wrap (c.Lo+d.Lo)) (i64.wrap (c.Hi+d.Hi))) fun f=>
 .ret f)
noncomputable def azl (c)(d):=
 mkD Tryz.func291 (qzq c d) 0 [.pure (az7 c),.pure (az7 d)] [] (fun r=>.pure (az7 r)) (fun _=>[])
noncomputable def mzf (c:Int):T Int:=
 .ret (min (max c (-65536)) 65536)
noncomputable def bz2 (c):=
 mkD Tryz.func293 (mzf c) 0 [pz c] [] (fun r=>pz r) (fun _=>[])
set_option maxHeartbeats 8000000 in
set_option maxRecDepth 20000 in
noncomputable def mze (c:B2)(d:B2):T B2:=
 .unroll 4<|
 .known true<|
 .unroll 4<|
 .known true<|
 .unroll 4<|
 .known true<|
 .ix 0 3 rfl<|
 .ix 0 3 rfl<|
 .ix 0 3 rfl<|
 .ix 0 3 rfl<|
 .cc (azm c.1.1 d.1.1) fun e=>
 .cc (azl (⟨0,0⟩:az0) e) fun f=>
 .lit 13000 (1)<|
 .known true<|
 .ix 0 3 rfl<|
 .ix 1 3 rfl<|
 .ix 1 3 rfl<|
 .ix 0 3 rfl<|
 .cc (azm c.1.2.1 d.2.1.1) fun g=>
 .cc (azl f g) fun h=>
 .lit 13000 (2)<|
 .known true<|
 .ix 0 3 rfl<|
 .ix 2 3 rfl<|
 .ix 2 3 rfl<|
 .ix 0 3 rfl<|
 .cc (azm c.1.2.2 d.2.2.1) fun i=>
 .cc (azl h i) fun j=>
 .lit 13000 (3)<|
 .known false<|
 .cc (bz2 j.Lo) fun k=>
 .cc (bz2 j.Hi) fun l=>
 .ix 0 3 rfl<|
 .ix 0 3 rfl<|
 .lit 15000 (1)<|
 .known true<|
 .unroll 4<|
 .known true<|
 .ix 0 3 rfl<|
 .ix 0 3 rfl<|
 .ix 0 3 rfl<|
 .ix 1 3 rfl<|
 .cc (azm c.1.1 d.1.2.1) fun m=>
 .cc (azl (⟨0,0⟩:az0) m) fun n=>
 .lit 13000 (1)<|
 .known true<|
 .ix 0 3 rfl<|
 .ix 1 3 rfl<|
 .ix 1 3 rfl<|
 .ix 1 3 rfl<|
 .cc (azm c.1.2.1 d.2.1.2.1) fun s=>
 .cc (azl n s) fun t=>
 .lit 13000 (2)<|
 .known true<|
 .ix 0 3 rfl<|
 .ix 2 3 rfl<|
 .ix 2 3 rfl<|
 .ix 1 3 rfl<|
 .cc (azm c.1.2.2 d.2.2.2.1) fun w=>
 .cc (azl t w) fun y=>
 .lit 13000 (3)<|
 .known false<|
 .cc (bz2 y.Lo) fun z=>
 .cc (bz2 y.Hi) fun aa=>
 .ix 0 3 rfl<|
 .ix 1 3 rfl<|
 .lit 15000 (2)<|
 .known true<|
 .unroll 4<|
 .known true<|
 .ix 0 3 rfl<|
 .ix 0 3 rfl<|
 .ix 0 3 rfl<|
 .ix 2 3 rfl<|
 .cc (azm c.1.1 d.1.2.2) fun ab=>
 .cc (azl (⟨0,0⟩:az0) ab) fun ac=>
 .lit 13000 (1)<|
 .known true<|
 .ix 0 3 rfl<|
 .ix 1 3 rfl<|
 .ix 1 3 rfl<|
 .ix 2 3 rfl<|
 .cc (azm c.1.2.1 d.2.1.2.2) fun ad=>
 .cc (azl ac ad) fun ae=>
 .lit 13000 (2)<|
 .known true<|
 .ix 0 3 rfl<|
 .ix 2 3 rfl<|
 .ix 2 3 rfl<|
 .ix 2 3 rfl<|
 .cc (azm c.1.2.2 d.2.2.2.2) fun af=>
 .cc (azl ae af) fun ag=>
 .lit 13000 (3)<|
 .known false<|
 .cc (bz2 ag.Lo) fun ah=>
 .cc (bz2 ag.Hi) fun ai=>
 .ix 0 3 rfl<|
 .ix 2 3 rfl<|
 .lit 15000 (3)<|
 .known false<|
 .lit 16000 (1)<|
 .known true<|
 .unroll 4<|
 .known true<|
 .unroll 4<|
 .known true<|
 .ix 1 3 rfl<|
 .ix 0 3 rfl<|
 .ix 0 3 rfl<|
 .ix 0 3 rfl<|
 .cc (azm c.2.1.1 d.1.1) fun aj=>
 .cc (azl (⟨0,0⟩:az0) aj) fun ak=>
 .lit 13000 (1)<|
 .known true<|
 .ix 1 3 rfl<|
 .ix 1 3 rfl<|
 .ix 1 3 rfl<|
 .ix 0 3 rfl<|
 .cc (azm c.2.1.2.1 d.2.1.1) fun al=>
 .cc (azl ak al) fun am=>
 .lit 13000 (2)<|
 .known true<|
 .ix 1 3 rfl<|
 .ix 2 3 rfl<|
 .ix 2 3 rfl<|
 .ix 0 3 rfl<|
 .cc (azm c.2.1.2.2 d.2.2.1) fun an=>
 .cc (azl am an) fun ao=>
 .lit 13000 (3)<|
 .known false<|
 .cc (bz2 ao.Lo) fun ap=>
 .cc (bz2 ao.Hi) fun aq=>
 .ix 1 3 rfl<|
 .ix 0 3 rfl<|
 .lit 15000 (1)<|
 .known true<|
 .unroll 4<|
 .known true<|
 .ix 1 3 rfl<|
 .ix 0 3 rfl<|
 .ix 0 3 rfl<|
 .ix 1 3 rfl<|
 .cc (azm c.2.1.1 d.1.2.1) fun ar=>
 .cc (azl (⟨0,0⟩:az0) ar) fun au=>
 .lit 13000 (1)<|
 .known true<|
 .ix 1 3 rfl<|
 .ix 1 3 rfl<|
 .ix 1 3 rfl<|
 .ix 1 3 rfl<|
 .cc (azm c.2.1.2.1 d.2.1.2.1) fun av=>
 .cc (azl au av) fun aw=>
 .lit 13000 (2)<|
 .known true<|
 .ix 1 3 rfl<|
 .ix 2 3 rfl<|
 .ix 2 3 rfl<|
 .ix 1 3 rfl<|
 .cc (azm c.2.1.2.2 d.2.2.2.1) fun ax=>
 .cc (azl aw ax) fun ay=>
 .lit 13000 (3)<|
 .known false<|
 .cc (bz2 ay.Lo) fun az=>
 .cc (bz2 ay.Hi) fun a0=>
 .ix 1 3 rfl<|
 .ix 1 3 rfl<|
 .lit 15000 (2)<|
 .known true<|
 .unroll 4<|
 .known true<|
 .ix 1 3 rfl<|
 .ix 0 3 rfl<|
 .ix 0 3 rfl<|
 .ix 2 3 rfl<|
 .cc (azm c.2.1.1 d.1.2.2) fun a1=>
 .cc (azl (⟨0,0⟩:az0) a1) fun a2=>
 .lit 13000 (1)<|
 .known true<|
 .ix 1 3 rfl<|
 .ix 1 3 rfl<|
 .ix 1 3 rfl<|
 .ix 2 3 rfl<|
 .cc (azm c.2.1.2.1 d.2.1.2.2) fun a3=>
 .cc (azl a2 a3) fun a4=>
 .lit 13000 (2)<|
 .known true<|
 .ix 1 3 rfl<|
 .ix 2 3 rfl<|
 .ix 2 3 rfl<|
 .ix 2 3 rfl<|
 .cc (azm c.2.1.2.2 d.2.2.2.2) fun a5=>
 .cc (azl a4 a5) fun a6=>
 .lit 13000 (3)<|
 .known false<|
 .cc (bz2 a6.Lo) fun a7=>
 .cc (bz2 a6.Hi) fun a8=>
 .ix 1 3 rfl<|
 .ix 2 3 rfl<|
 .lit 15000 (3)<|
 .known false<|
 .lit 16000 (2)<|
 .known true<|
 .unroll 4<|
 .known true<|
 .unroll 4<|
 .known true<|
 .ix 2 3 rfl<|
 .ix 0 3 rfl<|
 .ix 0 3 rfl<|
 .ix 0 3 rfl<|
 .cc (azm c.2.2.1 d.1.1) fun a9=>
 .cc (azl (⟨0,0⟩:az0) a9) fun ba=>
 .lit 13000 (1)<|
 .known true<|
 .ix 2 3 rfl<|
 .ix 1 3 rfl<|
 .ix 1 3 rfl<|
 .ix 0 3 rfl<|
 .cc (azm c.2.2.2.1 d.2.1.1) fun bb=>
 .cc (azl ba bb) fun bc=>
 .lit 13000 (2)<|
 .known true<|
 .ix 2 3 rfl<|
 .ix 2 3 rfl<|
 .ix 2 3 rfl<|
 .ix 0 3 rfl<|
 .cc (azm c.2.2.2.2 d.2.2.1) fun bd=>
 .cc (azl bc bd) fun be=>
 .lit 13000 (3)<|
 .known false<|
 .cc (bz2 be.Lo) fun bf=>
 .cc (bz2 be.Hi) fun bg=>
 .ix 2 3 rfl<|
 .ix 0 3 rfl<|
 .lit 15000 (1)<|
 .known true<|
 .unroll 4<|
 .known true<|
 .ix 2 3 rfl<|
 .ix 0 3 rfl<|
 .ix 0 3 rfl<|
 .ix 1 3 rfl<|
 .cc (azm c.2.2.1 d.1.2.1) fun bh=>
 .cc (azl (⟨0,0⟩:az0) bh) fun bi=>
 .lit 13000 (1)<|
 .known true<|
 .ix 2 3 rfl<|
 .ix 1 3 rfl<|
 .ix 1 3 rfl<|
 .ix 1 3 rfl<|
 .cc (azm c.2.2.2.1 d.2.1.2.1) fun bj=>
 .cc (azl bi bj) fun bk=>
 .lit 13000 (2)<|
 .known true<|
 .ix 2 3 rfl<|
 .ix 2 3 rfl<|
 .ix 2 3 rfl<|
 .ix 1 3 rfl<|
 .cc (azm c.2.2.2.2 d.2.2.2.1) fun bl=>
 .cc (azl bk bl) fun bm=>
 .lit 13000 (3)<|
 .known false<|
 .cc (bz2 bm.Lo) fun bn=>
 .cc (bz2 bm.Hi) fun bo=>
 .ix 2 3 rfl<|
 .ix 1 3 rfl<|
 .lit 15000 (2)<|
 .known true<|
 .unroll 4<|
 .known true<|
 .ix 2 3 rfl<|
 .ix 0 3 rfl<|
 .ix 0 3 rfl<|
 .ix 2 3 rfl<|
 .cc (azm c.2.2.1 d.1.2.2) fun bp=>
 .cc (azl (⟨0,0⟩:az0) bp) fun bq=>
 .lit 13000 (1)<|
 .known true<|
 .ix 2 3 rfl<|
 .ix 1 3 rfl<|
 .ix 1 3 rfl<|
 .ix 2 3 rfl<|
 .cc (azm c.2.2.2.1 d.2.1.2.2) fun bs=>
 .cc (azl bq bs) fun bt=>
 .lit 13000 (2)<|
 .known true<|
 .ix 2 3 rfl<|
 .ix 2 3 rfl<|
 .ix 2 3 rfl<|
 .ix 2 3 rfl<|
 .cc (azm c.2.2.2.2 d.2.2.2.2) fun bu=>
 .cc (azl bt bu) fun bv=>
 .lit 13000 (3)<|
 .known false<|
 .cc (bz2 bv.Lo) fun bw=>
 .cc (bz2 bv.Hi) fun bx=>
 .ix 2 3 rfl<|
 .ix 2 3 rfl<|
 .lit 15000 (3)<|
 .known false<|
 .lit 16000 (3)<|
 .known false<|
 .ret (((⟨k,l⟩:az0),(⟨z,aa⟩:az0),(⟨ah,ai⟩:az0)),((⟨ap,aq⟩:az0),(⟨az,a0⟩:az0),(⟨a7,a8⟩:az0)),((⟨bf,bg⟩:az0),(⟨bn,bo⟩:az0),(⟨bw,bx⟩:az0)))
noncomputable def vz6 (c)(d):=
 mkD Tryz.func278 (mze c d) 0 [.pure (bza c),.pure (bza d)] [] (fun r=>.pure (bza r)) (fun _=>[])
noncomputable def qzz (c:B2)(d:Az):T Az:=
 .unroll 4<|
 .known true<|
 .unroll 4<|
 .known true<|
 .ix 0 3 rfl<|
 .ix 0 3 rfl<|
 .ix 0 3 rfl<|
 .ix 0 3 rfl<|
 .cc (azm c.1.1 d.1) fun e=>
 .cc (azl (⟨0,0⟩:az0) e) fun f=>
 .ix 0 3 rfl<|
 .lit 9000 (1)<|
 .known true<|
 .ix 0 3 rfl<|
 .ix 0 3 rfl<|
 .ix 1 3 rfl<|
 .ix 1 3 rfl<|
 .cc (azm c.1.2.1 d.2.1) fun g=>
 .cc (azl f g) fun h=>
 .ix 0 3 rfl<|
 .lit 9000 (2)<|
 .known true<|
 .ix 0 3 rfl<|
 .ix 0 3 rfl<|
 .ix 2 3 rfl<|
 .ix 2 3 rfl<|
 .cc (azm c.1.2.2 d.2.2) fun i=>
 .cc (azl h i) fun j=>
 .ix 0 3 rfl<|
 .lit 9000 (3)<|
 .known false<|
 .lit 10000 (1)<|
 .known true<|
 .unroll 4<|
 .known true<|
 .ix 1 3 rfl<|
 .ix 1 3 rfl<|
 .ix 0 3 rfl<|
 .ix 0 3 rfl<|
 .cc (azm c.2.1.1 d.1) fun k=>
 .cc (azl (⟨0,0⟩:az0) k) fun l=>
 .ix 1 3 rfl<|
 .lit 9000 (1)<|
 .known true<|
 .ix 1 3 rfl<|
 .ix 1 3 rfl<|
 .ix 1 3 rfl<|
 .ix 1 3 rfl<|
 .cc (azm c.2.1.2.1 d.2.1) fun m=>
 .cc (azl l m) fun n=>
 .ix 1 3 rfl<|
 .lit 9000 (2)<|
 .known true<|
 .ix 1 3 rfl<|
 .ix 1 3 rfl<|
 .ix 2 3 rfl<|
 .ix 2 3 rfl<|
 .cc (azm c.2.1.2.2 d.2.2) fun s=>
 .cc (azl n s) fun t=>
 .ix 1 3 rfl<|
 .lit 9000 (3)<|
 .known false<|
 .lit 10000 (2)<|
 .known true<|
 .unroll 4<|
 .known true<|
 .ix 2 3 rfl<|
 .ix 2 3 rfl<|
 .ix 0 3 rfl<|
 .ix 0 3 rfl<|
 .cc (azm c.2.2.1 d.1) fun w=>
 .cc (azl (⟨0,0⟩:az0) w) fun y=>
 .ix 2 3 rfl<|
 .lit 9000 (1)<|
 .known true<|
 .ix 2 3 rfl<|
 .ix 2 3 rfl<|
 .ix 1 3 rfl<|
 .ix 1 3 rfl<|
 .cc (azm c.2.2.2.1 d.2.1) fun z=>
 .cc (azl y z) fun aa=>
 .ix 2 3 rfl<|
 .lit 9000 (2)<|
 .known true<|
 .ix 2 3 rfl<|
 .ix 2 3 rfl<|
 .ix 2 3 rfl<|
 .ix 2 3 rfl<|
 .cc (azm c.2.2.2.2 d.2.2) fun ab=>
 .cc (azl aa ab) fun ac=>
 .ix 2 3 rfl<|
 .lit 9000 (3)<|
 .known false<|
 .lit 10000 (3)<|
 .known false<|
 .ret (j,t,ac)
noncomputable def zzk (c)(d):=
 mkD Tryz.func290 (qzz c d) 0 [.pure (bza c),.pure (az2 d)] [] (fun r=>.pure (az2 r)) (fun _=>[])
noncomputable def wzs (c:Az)(d:Az):T Az:=
 .unroll 4<|
 .known true<|
 .ix 0 3 rfl<|
 .ix 0 3 rfl<|
 .cc (azl c.1 d.1) fun e=>
 .ix 0 3 rfl<|
 .lit 6000 (1)<|
 .known true<|
 .ix 1 3 rfl<|
 .ix 1 3 rfl<|
 .cc (azl c.2.1 d.2.1) fun f=>
 .ix 1 3 rfl<|
 .lit 6000 (2)<|
 .known true<|
 .ix 2 3 rfl<|
 .ix 2 3 rfl<|
 .cc (azl c.2.2 d.2.2) fun g=>
 .ix 2 3 rfl<|
 .lit 6000 (3)<|
 .known false<|
 .ret (e,f,g)
noncomputable def Fzh (c)(d):=
 mkD Tryz.func289 (wzs c d) 0 [.pure (az2 c),.pure (az2 d)] [] (fun r=>.pure (az2 r)) (fun _=>[])
noncomputable def hz5 (c:Az)(d:Int)(e:Int)(f:Int)(g:Int)(h:Int)(i:Int)(j:Int)(k:Int)(l:Int)(m:Int)(n:Int)(s:Int)(t:Int)(w:Int)(y:Int)(z:Int)(aa:Int)(ab:Int)(ac:Int)(ad:Int)(ae:Int)(af:Int)(ag:Int)(ah:Int):T (Az×Int×Int×Int×Int×Int×Int×Int×Int×Int×Int×Int×Int×Int×Int×Int×Int×Int×Int×Int×Int×Int×Int×Int×Int):=
 .cc (zzk (((⟨d,e⟩:az0),(⟨f,g⟩:az0),(⟨h,i⟩:az0)),((⟨j,k⟩:az0),(⟨l,m⟩:az0),(⟨n,s⟩:az0)),((⟨t,w⟩:az0),(⟨y,z⟩:az0),(⟨aa,ab⟩:az0))) ((⟨c.1.Lo,c.1.Hi⟩:az0),(⟨c.2.1.Lo,c.2.1.Hi⟩:az0),(⟨c.2.2.Lo,c.2.2.Hi⟩:az0))) fun ai=>
 .cc (Fzh ((⟨ac,ad⟩:az0),(⟨ae,af⟩:az0),(⟨ag,ah⟩:az0)) ai) fun aj=>
 .ret (aj,d,e,f,g,h,i,j,k,l,m,n,s,t,w,y,z,aa,ab,ac,ad,ae,af,ag,ah)
noncomputable def lz7 (c)(d)(e)(f)(g)(h)(i)(j)(k)(l)(m)(n)(s)(t)(w)(y)(z)(aa)(ab)(ac)(ad)(ae)(af)(ag)(ah):=
 mkD Tryz.func288 (hz5 c d e f g h i j k l m n s t w y z aa ab ac ad ae af ag ah) 1 [.pure (az2 c),.ptr 0 0] [(0,.box [pz d,pz e,pz f,pz g,pz h,pz i,pz j,pz k,pz l,pz m,pz n,pz s,pz t,pz w,pz y,pz z,pz aa,pz ab,pz ac,pz ad,pz ae,pz af,pz ag,pz ah])] (fun r=>.pure (az2 r.1)) (fun r=>[(0,.box [pz r.2.1,pz r.2.2.1,pz r.2.2.2.1,pz r.2.2.2.2.1,pz r.2.2.2.2.2.1,pz r.2.2.2.2.2.2.1,pz r.2.2.2.2.2.2.2.1,pz r.2.2.2.2.2.2.2.2.1,pz r.2.2.2.2.2.2.2.2.2.1,pz r.2.2.2.2.2.2.2.2.2.2.1,pz r.2.2.2.2.2.2.2.2.2.2.2.1,pz r.2.2.2.2.2.2.2.2.2.2.2.2.1,pz r.2.2.2.2.2.2.2.2.2.2.2.2.2.1,pz r.2.2.2.2.2.2.2.2.2.2.2.2.2.2.1,pz r.2.2.2.2.2.2.2.2.2.2.2.2.2.2.2.1,pz r.2.2.2.2.2.2.2.2.2.2.2.2.2.2.2.2.1,pz r.2.2.2.2.2.2.2.2.2.2.2.2.2.2.2.2.2.1,pz r.2.2.2.2.2.2.2.2.2.2.2.2.2.2.2.2.2.2.1,pz r.2.2.2.2.2.2.2.2.2.2.2.2.2.2.2.2.2.2.2.1,pz r.2.2.2.2.2.2.2.2.2.2.2.2.2.2.2.2.2.2.2.2.1,pz r.2.2.2.2.2.2.2.2.2.2.2.2.2.2.2.2.2.2.2.2.2.1,pz r.2.2.2.2.2.2.2.2.2.2.2.2.2.2.2.2.2.2.2.2.2.2.1,pz r.2.2.2.2.2.2.2.2.2.2.2.2.2.2.2.2.2.2.2.2.2.2.2.1,pz r.2.2.2.2.2.2.2.2.2.2.2.2.2.2.2.2.2.2.2.2.2.2.2.2])])
noncomputable def rz2 (c:azr)(d:azr):T azr:=
 .cc (pzz c) fun e=>
 .cc (vz6 c.R d.R) fun f=>
 .call (lz7 d.T e.1 e.2.1 e.2.2.1 e.2.2.2.1 e.2.2.2.2.1 e.2.2.2.2.2.1 e.2.2.2.2.2.2.1 e.2.2.2.2.2.2.2.1 e.2.2.2.2.2.2.2.2.1 e.2.2.2.2.2.2.2.2.2.1 e.2.2.2.2.2.2.2.2.2.2.1 e.2.2.2.2.2.2.2.2.2.2.2.1 e.2.2.2.2.2.2.2.2.2.2.2.2.1 e.2.2.2.2.2.2.2.2.2.2.2.2.2.1 e.2.2.2.2.2.2.2.2.2.2.2.2.2.2.1 e.2.2.2.2.2.2.2.2.2.2.2.2.2.2.2.1 e.2.2.2.2.2.2.2.2.2.2.2.2.2.2.2.2.1 e.2.2.2.2.2.2.2.2.2.2.2.2.2.2.2.2.2.1 e.2.2.2.2.2.2.2.2.2.2.2.2.2.2.2.2.2.2.1 e.2.2.2.2.2.2.2.2.2.2.2.2.2.2.2.2.2.2.2.1 e.2.2.2.2.2.2.2.2.2.2.2.2.2.2.2.2.2.2.2.2.1 e.2.2.2.2.2.2.2.2.2.2.2.2.2.2.2.2.2.2.2.2.2.1 e.2.2.2.2.2.2.2.2.2.2.2.2.2.2.2.2.2.2.2.2.2.2.1 e.2.2.2.2.2.2.2.2.2.2.2.2.2.2.2.2.2.2.2.2.2.2.2) [(0,256)] fun g=>
 .ret (⟨(f.1,f.2.1,f.2.2),g.1⟩:azr)
noncomputable def hz4 (c)(d):=
 mkD Tryz.func266 (rz2 c d) 0 [.pure (bzj c),.pure (bzj d)] [] (fun r=>.pure (bzj r)) (fun _=>[])
noncomputable def vzw (c:Int)(d:az0):T azr:=
 .cut 2 (fun (e:Bd)=>⟨[(4,.ptr 0 0),(5,.ptr 1 0)],[(0,.box [pz 0,pz 0,pz 0,pz 0,pz 0,pz 0,pz 0,pz 0,pz 0,pz 0,pz 0,pz 0,pz 0,pz 0,pz 0,pz 0,pz 0,pz 0,pz 0,pz 0,pz 0,pz 0,pz 0,pz 0]),(1,.box [pz e.1,pz e.2.1,pz e.2.2.1,pz e.2.2.2.1,pz e.2.2.2.2.1,pz e.2.2.2.2.2])],[],2⟩)
 (.cas 2000 c 0
 (.ix 0 3 rfl<|
 .oo (d.Lo,d.Hi,0,0,0,0))
 (.cas 2000 c 1
 (.ix 1 3 rfl<|
 .oo (0,0,d.Lo,d.Hi,0,0))
 (.cas 2000 c 2
 (.ix 2 3 rfl<|
 .oo (0,0,0,0,d.Lo,d.Hi))
 (.stop)))) fun e=>
 .cc (pzy ((⟨e.1,e.2.1⟩:az0),(⟨e.2.2.1,e.2.2.2.1⟩:az0),(⟨e.2.2.2.2.1,e.2.2.2.2.2⟩:az0))) fun f=>
 .ret f
noncomputable def Fz8 (c)(d):=
 mkD Tryz.func286 (vzw c d) 0 [pz c,.pure (az7 d)] [] (fun r=>.pure (bzj r)) (fun _=>[])
noncomputable def mzb (c:az0):T Int:=
 .cc (czc c) fun d=>
 .br (!d)
 (.ret 0)
 (.ret (i64.wrap (c.Hi-c.Lo)))
noncomputable def mza (c):=
 mkD Tryz.func312 (mzb c) 0 [.pure (az7 c)] [] (fun r=>pz r) (fun _=>[])
noncomputable def oz1 (c:Int):T Int:=
 .ret (i64.wrap (((BitVec.ofInt 64 c&&&BitVec.ofInt 64 65535).toNat:Int)))
noncomputable def izi (c):=
 mkD Tryz.func315 (oz1 c) 0 [pz c] [] (fun r=>pz r) (fun _=>[])
noncomputable def mz0 (c:Int):T (Bi×Bi):=
 .ix 0 11 rfl<|
 .ix 0 11 rfl<|
 .cc (bz7 (i64.wrap (c * 6746518852)) 16) fun d=>
 .ix 1 11 rfl<|
 .cc (bzh (i64.wrap (c * 6746518853)) 16) fun e=>
 .ix 1 11 rfl<|
 .unroll 10<|
 .known true<|
 .lit 8002 (1)<|
 .ix 1 11 rfl<|
 .ix 1 11 rfl<|
 .cc (bz7 (i64.wrap (d * d)) 30) fun f=>
 .ix 2 11 rfl<|
 .lit 9002 (1)<|
 .ix 1 11 rfl<|
 .ix 1 11 rfl<|
 .cc (bzh (i64.wrap (e * e)) 30) fun g=>
 .ix 2 11 rfl<|
 .lit 7001 (3)<|
 .known true<|
 .lit 8002 (2)<|
 .ix 2 11 rfl<|
 .ix 1 11 rfl<|
 .cc (bz7 (i64.wrap (f * d)) 30) fun h=>
 .ix 3 11 rfl<|
 .lit 9002 (2)<|
 .ix 2 11 rfl<|
 .ix 1 11 rfl<|
 .cc (bzh (i64.wrap (g * e)) 30) fun i=>
 .ix 3 11 rfl<|
 .lit 7001 (4)<|
 .known true<|
 .lit 8002 (3)<|
 .ix 3 11 rfl<|
 .ix 1 11 rfl<|
 .cc (bz7 (i64.wrap (h * d)) 30) fun j=>
 .ix 4 11 rfl<|
 .lit 9002 (3)<|
 .ix 3 11 rfl<|
 .ix 1 11 rfl<|
 .cc (bzh (i64.wrap (i * e)) 30) fun k=>
 .ix 4 11 rfl<|
 .lit 7001 (5)<|
 .known true<|
 .lit 8002 (4)<|
 .ix 4 11 rfl<|
 .ix 1 11 rfl<|
 .cc (bz7 (i64.wrap (j * d)) 30) fun l=>
 .ix 5 11 rfl<|
 .lit 9002 (4)<|
 .ix 4 11 rfl<|
 .ix 1 11 rfl<|
 .cc (bzh (i64.wrap (k * e)) 30) fun m=>
 .ix 5 11 rfl<|
 .lit 7001 (6)<|
 .known true<|
 .lit 8002 (5)<|
 .ix 5 11 rfl<|
 .ix 1 11 rfl<|
 .cc (bz7 (i64.wrap (l * d)) 30) fun n=>
 .ix 6 11 rfl<|
 .lit 9002 (5)<|
 .ix 5 11 rfl<|
 .ix 1 11 rfl<|
 .cc (bzh (i64.wrap (m * e)) 30) fun s=>
 .ix 6 11 rfl<|
 .lit 7001 (7)<|
 .known true<|
 .lit 8002 (6)<|
 .ix 6 11 rfl<|
 .ix 1 11 rfl<|
 .cc (bz7 (i64.wrap (n * d)) 30) fun t=>
 .ix 7 11 rfl<|
 .lit 9002 (6)<|
 .ix 6 11 rfl<|
 .ix 1 11 rfl<|
 .cc (bzh (i64.wrap (s * e)) 30) fun w=>
 .ix 7 11 rfl<|
 .lit 7001 (8)<|
 .known true<|
 .lit 8002 (7)<|
 .ix 7 11 rfl<|
 .ix 1 11 rfl<|
 .cc (bz7 (i64.wrap (t * d)) 30) fun y=>
 .ix 8 11 rfl<|
 .lit 9002 (7)<|
 .ix 7 11 rfl<|
 .ix 1 11 rfl<|
 .cc (bzh (i64.wrap (w * e)) 30) fun z=>
 .ix 8 11 rfl<|
 .lit 7001 (9)<|
 .known true<|
 .lit 8002 (8)<|
 .ix 8 11 rfl<|
 .ix 1 11 rfl<|
 .cc (bz7 (i64.wrap (y * d)) 30) fun aa=>
 .ix 9 11 rfl<|
 .lit 9002 (8)<|
 .ix 8 11 rfl<|
 .ix 1 11 rfl<|
 .cc (bzh (i64.wrap (z * e)) 30) fun ab=>
 .ix 9 11 rfl<|
 .lit 7001 (10)<|
 .known true<|
 .lit 8002 (9)<|
 .ix 9 11 rfl<|
 .ix 1 11 rfl<|
 .cc (bz7 (i64.wrap (aa * d)) 30) fun ac=>
 .ix 10 11 rfl<|
 .lit 9002 (9)<|
 .ix 9 11 rfl<|
 .ix 1 11 rfl<|
 .cc (bzh (i64.wrap (ab * e)) 30) fun ad=>
 .ix 10 11 rfl<|
 .lit 7001 (11)<|
 .known false<|
 .ret ((1073741824,d,f,h,j,l,n,t,y,aa,ac),(1073741824,e,g,i,k,m,s,w,z,ab,ad))
noncomputable def lzz (c):=
 mkD Tryz.func320 (mz0 c) 0 [pz c] [] (fun r=>.tup [.pure (hzi r.1),.pure (hzi r.2)]) (fun _=>[])
noncomputable def oz0 (c:Int)(d:Int):T Int:=
 .grd (d≠0)<|
 .ret (i64.wrap ((i64.wrap ((i64.wrap (c+d))-1)).tdiv d))
noncomputable def czs (c)(d):=
 mkD Tryz.func322 (oz0 c d) 0 [pz c,pz d] [] (fun r=>pz r) (fun _=>[])
noncomputable def hzo (c:A0):T Int:=let d:=(c.length:Nat);.loop (fun (e:Aw)=>⟨[(3,pz e.1),(4,pz e.2.1),(7,.pure (encL 1 az1 c)),(8,pz (d:Int)),(9,pz e.2.2)],[],[],0⟩)
 (.exit 0) (fun (e:Int)=>⟨[(3,pz e)],[],[],0⟩)
 (fun e=>.br (decide (e.2.2<(d:Int)))
 (.gh e.2.2 c.length<|
 .nn ((i64.wrap (e.1+(i64.wrap (e.2.1 * (c.getD ((e.2.2).toNat) default))))),(i64.wrap (0-e.2.1)),(i64.wrap (e.2.2+1))))
 (.oo e.1))
 (0,1,0) [] fun e=>
 .ret e
noncomputable def czh (c):=
 mkD Tryz.func321 (hzo c) 0 [.pure (encL 1 az1 c)] [] (fun r=>pz r) (fun _=>[])
noncomputable def kz3 (c:Int)(d:Int):T az0:=
 .cc (bz7 c 14) fun e=>
 .cc (bzh d 14) fun f=>
 .ret (⟨(max 0 e),(min 65536 f)⟩:az0)
noncomputable def kz2 (c)(d):=
 mkD Tryz.func323 (kz3 c d) 0 [pz c,pz d] [] (fun r=>.pure (az7 r)) (fun _=>[])
noncomputable def vzv (c:Int):T az0:=
 .cc (lzz c) fun d=>
 .ix 1 11 rfl<|
 .ix 3 11 rfl<|
 .cc (czs d.2.2.2.2.1 6) fun e=>
 .ix 5 11 rfl<|
 .ok ((120:Int)≠0) (by decide)<|
 .ix 7 11 rfl<|
 .cc (czs d.2.2.2.2.2.2.2.2.1 5040) fun f=>let g:=([d.1.2.1,e,(i64.wrap (d.1.2.2.2.2.2.1.tdiv 120)),f]:A0);
 .conv 2011 (czk 1 az1 g 2)<|
 .cc (czh g) fun h=>
 .ix 1 11 rfl<|
 .ix 3 11 rfl<|
 .ok ((6:Int)≠0) (by decide)<|
 .ix 5 11 rfl<|
 .cc (czs d.2.2.2.2.2.2.1 120) fun i=>
 .ix 7 11 rfl<|
 .ok ((5040:Int)≠0) (by decide)<|
 .ix 9 11 rfl<|
 .cc (czs d.2.2.2.2.2.2.2.2.2.2.1 362880) fun j=>let k:=([d.2.2.1,(i64.wrap (d.1.2.2.2.1.tdiv 6)),i,(i64.wrap (d.1.2.2.2.2.2.2.2.1.tdiv 5040)),j]:A0);
 .conv 3014 (czk 1 az1 k 2)<|
 .cc (czh k) fun l=>
 .cc (kz2 h l) fun m=>
 .ret m
noncomputable def Fz5 (c):=
 mkD Tryz.func318 (vzv c) 0 [pz c] [] (fun r=>.pure (az7 r)) (fun _=>[])
noncomputable def qzh (c:Int):T az0:=
 .cc (lzz c) fun d=>
 .ix 2 11 rfl<|
 .cc (czs d.2.2.2.1 2) fun e=>
 .ix 4 11 rfl<|
 .ok ((24:Int)≠0) (by decide)<|
 .ix 6 11 rfl<|
 .cc (czs d.2.2.2.2.2.2.2.1 720) fun f=>
 .ix 8 11 rfl<|
 .ok ((40320:Int)≠0) (by decide)<|
 .ix 10 11 rfl<|
 .cc (czs d.2.2.2.2.2.2.2.2.2.2.2 3628800) fun g=>let h:=([1073741824,e,(i64.wrap (d.1.2.2.2.2.1.tdiv 24)),f,(i64.wrap (d.1.2.2.2.2.2.2.2.2.1.tdiv 40320)),g]:A0);
 .conv 2015 (czk 1 az1 h 2)<|
 .cc (czh h) fun i=>
 .ix 2 11 rfl<|
 .ok ((2:Int)≠0) (by decide)<|
 .ix 4 11 rfl<|
 .cc (czs d.2.2.2.2.2.1 24) fun j=>
 .ix 6 11 rfl<|
 .ok ((720:Int)≠0) (by decide)<|
 .ix 8 11 rfl<|
 .cc (czs d.2.2.2.2.2.2.2.2.2.1 40320) fun k=>let l:=([1073741824,(i64.wrap (d.1.2.2.1.tdiv 2)),j,(i64.wrap (d.1.2.2.2.2.2.2.1.tdiv 720)),k]:A0);
 .conv 3012 (czk 1 az1 l 2)<|
 .cc (czh l) fun m=>
 .cc (kz2 i m) fun n=>
 .ret n
noncomputable def zz8 (c):=
 mkD Tryz.func319 (qzh c) 0 [pz c] [] (fun r=>.pure (az7 r)) (fun _=>[])
noncomputable def tz1 (c:Int):T az0:=
 .br (decide (c≤8192))
 (.cc (Fz5 c) fun d=>
 .ret d)
 (.cc (zz8 (i64.wrap (16384-c))) fun d=>
 .ret d)
noncomputable def izg (c):=
 mkD Tryz.func316 (tz1 c) 0 [pz c] [] (fun r=>.pure (az7 r)) (fun _=>[])
noncomputable def qzu (c:az0):T az0:=
 .cc (czc c) fun d=>
 .br (!d)
 (.ret (⟨0,0⟩:az0))
 (.ret (⟨(i64.wrap (0-c.Hi)),(i64.wrap (0-c.Lo))⟩:az0))
noncomputable def lz4 (c):=
 mkD Tryz.func308 (qzu c) 0 [.pure (az7 c)] [] (fun r=>.pure (az7 r)) (fun _=>[])
noncomputable def Aza (c:Int):T az0:=
 .cc (izi c) fun d=>let e:=d.tmod 16384;let f:=i64.wrap (d.tdiv 16384);let g:=i64.wrap (16384-e);
 .ok ((16384:Int)≠0) (by decide)<|
 .ok ((16384:Int)≠0) (by decide)<|
 .br (f==0)
 (.cc (izg e) fun h=>
 .ret h)
 (.br (f==1)
 (.cc (izg g) fun h=>
 .ret h)
 (.br (f==2)
 (.cc (izg e) fun h=>
 .cc (lz4 h) fun i=>
 .ret i)
 (.cc (izg g) fun h=>
 .cc (lz4 h) fun i=>
 .ret i)))
noncomputable def tz0 (c):=
 mkD Tryz.func311 (Aza c) 0 [pz c] [] (fun r=>.pure (az7 r)) (fun _=>[])
noncomputable def Az9 (c:Int):T az0:=
 .cc (izi c) fun d=>
 .cc (tz0 (i64.wrap (d+16384))) fun e=>
 .ret e
noncomputable def Az8 (c):=
 mkD Tryz.func310 (Az9 c) 0 [pz c] [] (fun r=>.pure (az7 r)) (fun _=>[])
noncomputable def ozf (c:az0)(d:az0):T az0:=
 .cc (hzk c d) fun e=>
 .br (!e)
 (.ret (⟨0,0⟩:az0))
 (.ret (⟨(min c.Lo d.Lo),(max c.Hi d.Hi)⟩:az0))
noncomputable def ezh (c)(d):=
 mkD Tryz.func313 (ozf c d) 0 [.pure (az7 c),.pure (az7 d)] [] (fun r=>.pure (az7 r)) (fun _=>[])
noncomputable def qzs (c:az0)(d:Int):T Bool:=
 .cc (czc c) fun e=>
 .br e
 (.br (decide (c.Lo≤d))
 (.ret (decide (d≤c.Hi)))
 (.ret false))
 (.ret false)
noncomputable def zze (c)(d):=
 mkD Tryz.func317 (qzs c d) 0 [.pure (az7 c),pz d] [] (fun r=>.pure (.bool r)) (fun _=>[])
noncomputable def tz2 (c:az0)(d:Int):T Bool:=
 .cc (izi (i64.wrap (d-c.Lo))) fun e=>
 .cc (zze c (i64.wrap (c.Lo+e))) fun f=>
 .ret f
noncomputable def izh (c)(d):=
 mkD Tryz.func314 (tz2 c d) 0 [.pure (az7 c),pz d] [] (fun r=>.pure (.bool r)) (fun _=>[])
noncomputable def vzu (c:az0)(d:Int)(e:Int):T az0:=
 .cc (czc c) fun f=>
 .br (!f)
 (.ret (⟨0,0⟩:az0))
 (.cc (mza c) fun g=>
 .br (decide (g≥65536))
 (.ret (⟨(-65536),65536⟩:az0))
 (.cc (Az8 c.Lo) fun h=>
 .cc (Az8 c.Hi) fun i=>
 .cc (ezh h i) fun j=>
 .cut 0 (fun (k:Ah)=>⟨[(3,pz e),(4,.ptr 0 0),(8,.ptr 1 0),(9,.ptr 2 0)],[(0,.box [pz c.Lo,pz c.Hi]),(1,.box [pz 0,pz 0]),(2,.box [pz k.1,pz k.2])],[],3⟩)
 (.cc (izh c d) fun k=>
 .br k
 (.cc (czm 65536) fun l=>
 .cc (ezh j l) fun m=>
 .oo (m.Lo,m.Hi))
 (.oo (j.Lo,j.Hi))) fun k=>
 .cut 0 (fun (l:Ah)=>⟨[(8,.ptr 0 0),(9,.ptr 1 0)],[(0,.box [pz 0,pz 0]),(1,.box [pz l.1,pz l.2])],[],2⟩)
 (.cc (izh c e) fun l=>
 .br l
 (.cc (czm (-65536)) fun m=>
 .cc (ezh (⟨k.1,k.2⟩:az0) m) fun n=>
 .oo (n.Lo,n.Hi))
 (.oo (k.1,k.2))) fun l=>
 .ret (⟨l.1,l.2⟩:az0)))
noncomputable def Fz4 (c)(d)(e):=
 mkD Tryz.func309 (vzu c d e) 0 [.pure (az7 c),.func 310 [] [],pz d,pz e] [] (fun r=>.pure (az7 r)) (fun _=>[])
noncomputable def nzy (c:az0):T az0:=
 .cc (Fz4 c 0 32768) fun d=>
 .ret d
noncomputable def vzs (c):=
 mkD Tryz.func306 (nzy c) 0 [.pure (az7 c)] [] (fun r=>.pure (az7 r)) (fun _=>[])
noncomputable def qzi (c:az0)(d:Int)(e:Int):T az0:=
 .cc (czc c) fun f=>
 .br (!f)
 (.ret (⟨0,0⟩:az0))
 (.cc (mza c) fun g=>
 .br (decide (g≥65536))
 (.ret (⟨(-65536),65536⟩:az0))
 (.cc (tz0 c.Lo) fun h=>
 .cc (tz0 c.Hi) fun i=>
 .cc (ezh h i) fun j=>
 .cut 0 (fun (k:Ah)=>⟨[(3,pz e),(4,.ptr 0 0),(8,.ptr 1 0),(9,.ptr 2 0)],[(0,.box [pz c.Lo,pz c.Hi]),(1,.box [pz 0,pz 0]),(2,.box [pz k.1,pz k.2])],[],3⟩)
 (.cc (izh c d) fun k=>
 .br k
 (.cc (czm 65536) fun l=>
 .cc (ezh j l) fun m=>
 .oo (m.Lo,m.Hi))
 (.oo (j.Lo,j.Hi))) fun k=>
 .cut 0 (fun (l:Ah)=>⟨[(8,.ptr 0 0),(9,.ptr 1 0)],[(0,.box [pz 0,pz 0]),(1,.box [pz l.1,pz l.2])],[],2⟩)
 (.cc (izh c e) fun l=>
 .br l
 (.cc (czm (-65536)) fun m=>
 .cc (ezh (⟨k.1,k.2⟩:az0) m) fun n=>
 .oo (n.Lo,n.Hi))
 (.oo (k.1,k.2))) fun l=>
 .ret (⟨l.1,l.2⟩:az0)))
noncomputable def zz9 (c)(d)(e):=
 mkD Tryz.func309 (qzi c d e) 0 [.pure (az7 c),.func 311 [] [],pz d,pz e] [] (fun r=>.pure (az7 r)) (fun _=>[])
noncomputable def nzz (c:az0):T az0:=
 .cc (zz9 c 16384 49152) fun d=>
 .ret d
noncomputable def vzt (c):=
 mkD Tryz.func307 (nzz c) 0 [.pure (az7 c)] [] (fun r=>.pure (az7 r)) (fun _=>[])
noncomputable def tzr (c:Int)(d:az0):T B2:=let e:=(⟨d.Lo,d.Hi⟩:az0);.cc (czc d) fun f=>
 .br (!f)
 (.ret (((⟨0,0⟩:az0),(⟨0,0⟩:az0),(⟨0,0⟩:az0)),((⟨0,0⟩:az0),(⟨0,0⟩:az0),(⟨0,0⟩:az0)),((⟨0,0⟩:az0),(⟨0,0⟩:az0),(⟨0,0⟩:az0))))
 (.cc (vzs e) fun g=>
 .cc (vzt e) fun h=>
 .cc (lz4 h) fun i=>
 .cc (czm 65536) fun j=>
 .cc (czm 0) fun k=>
 .br (c==0)
 (.ret ((j,k,k),(k,g,i),(k,h,g)))
 (.br (c==1)
 (.ret ((g,k,h),(k,j,k),(i,k,g)))
 (.br (c==2)
 (.ret ((g,i,k),(h,g,k),(k,k,j)))
 (.ret (((⟨0,0⟩:az0),(⟨0,0⟩:az0),(⟨0,0⟩:az0)),((⟨0,0⟩:az0),(⟨0,0⟩:az0),(⟨0,0⟩:az0)),((⟨0,0⟩:az0),(⟨0,0⟩:az0),(⟨0,0⟩:az0)))))))
noncomputable def Cz3 (c)(d):=
 mkD Tryz.func303 (tzr c d) 0 [pz c,.pure (az7 d)] [] (fun r=>.pure (bza r)) (fun _=>[])
noncomputable def Azx (c:Int)(d:az0):T azr:=
 .cc (Cz3 c (⟨d.Lo,d.Hi⟩:az0)) fun e=>
 .cc (pose_still_C) fun f=>
 .ret (⟨e,f⟩:azr)
noncomputable def Izt (c)(d):=
 mkD Tryz.func297 (Azx c d) 0 [pz c,.pure (az7 d)] [] (fun r=>.pure (bzj r)) (fun _=>[])
noncomputable def Azc (c:Int)(d:az0):T azr:=
 .cc (Izt c (⟨d.Lo,d.Hi⟩:az0)) fun e=>
 .ret e
noncomputable def Hzh (c)(d):=
 mkD Tryz.func285 (Azc c d) 0 [pz c,.pure (az7 d)] [] (fun r=>.pure (bzj r)) (fun _=>[])
noncomputable def izs (c:azo)(d:az0):T azr:=
 .cc (lz5 c.Offset) fun e=>
 .cc (pzy ((⟨e.1.Lo,e.1.Hi⟩:az0),(⟨e.2.1.Lo,e.2.1.Hi⟩:az0),(⟨e.2.2.Lo,e.2.2.Hi⟩:az0))) fun f=>let g:=(⟨f.R,f.T⟩:azr);
 .split (((fz8 c.Kind).o).isSome)
 (.cc (fz8 c.Kind) fun h=>
 .cc (Hzh h (⟨d.Lo,d.Hi⟩:az0)) fun i=>
 .cc (hz4 g i) fun j=>
 .ret j)
 (.split (((fza c.Kind).o).isSome)
 (.cc (fza c.Kind) fun h=>
 .cc (Fz8 h d) fun i=>
 .cc (hz4 f i) fun j=>
 .ret j)
 (.cc (iz8 c.Kind) fun h=>
 .cc (Hzg h d) fun i=>
 .cc (hz4 g (⟨i.R,i.T⟩:azr)) fun j=>
 .ret j))
noncomputable def pzs (c)(d):=
 mkD Tryz.func265 (izs c d) 0 [.pure (az9 c),.pure (az7 d)] [] (fun r=>.pure (bzj r)) (fun _=>[])
noncomputable def izu (c:azf)(d:A9):T Aa:=let e:=encL 2 az7 d;let f:=encL 12 az9 c.Joints;let g:=(c.Joints.length:Int);.conv 1003 (Gz5 24 bzj 225 g.toNat (⟨(((⟨0,0⟩:az0),(⟨0,0⟩:az0),(⟨0,0⟩:az0)),((⟨0,0⟩:az0),(⟨0,0⟩:az0),(⟨0,0⟩:az0)),((⟨0,0⟩:az0),(⟨0,0⟩:az0),(⟨0,0⟩:az0))),((⟨0,0⟩:az0),(⟨0,0⟩:az0),(⟨0,0⟩:az0))⟩:azr))<|
 .grd (0≤g/\g≤g/\g≤9223372036854775807/\g * 192≤140737488355328)<|
 .loop (fun (h:(Aa×Int))=>⟨[(1,.pure e),(5,.vec 0),(13,.pure f),(14,pz g),(15,pz h.2)],[(0,vecO 24 bzj h.1 225)],[],1⟩)
 (.exit 0) (fun (h:Aa)=>⟨[(5,.vec 0)],[(0,vecO 24 bzj h 225)],[],1⟩)
 (fun h=>let i:=(h.2).toNat;let j:=c.Joints.getD i default;let k:=j.Parent;.br (decide (h.2<g))
 (.cut 0 (fun (l:Aa)=>⟨[(1,.pure e),(5,.vec 0),(13,.pure f),(14,pz g),(15,pz h.2)],[(0,vecO 24 bzj l 225)],[],1⟩)
 (.gh h.2 c.Joints.length<|
 .gh h.2 d.length<|
 .cc (pzs j (d.getD i default)) fun l=>let m:=h.1.set i l;let n:=m.length;
 .gh h.2 h.1.length<|
 .conv 5009 (bzm 24 bzj h.1 225 i l)<|
 .gi (h.2) h.1.length<|
 .br (k !=(-1))
 (.gg k n<|
 .gg h.2 n<|
 .call (hz4 (m.getD (k.toNat) default) (m.getD i default)) [] fun s=>
 .gh h.2 n<|
 .conv 7013 (bzm 24 bzj m 225 i s)<|
 .gi (h.2) n<|
 .oo (m.set i s))
 (.oo m)) fun l=>
 .nn (l,(i64.wrap (h.2+1))))
 (.oo h.1))
 ((List.replicate g.toNat ((⟨(((⟨0,0⟩:az0),(⟨0,0⟩:az0),(⟨0,0⟩:az0)),((⟨0,0⟩:az0),(⟨0,0⟩:az0),(⟨0,0⟩:az0)),((⟨0,0⟩:az0),(⟨0,0⟩:az0),(⟨0,0⟩:az0))),((⟨0,0⟩:az0),(⟨0,0⟩:az0),(⟨0,0⟩:az0))⟩:azr):azr)),0) [] fun h=>
 .ret h
noncomputable def pzu (c)(d):=
 mkD Tryz.func255 (izu c d) 0 [.pure (bzg c),.pure (encL 2 az7 d)] [] (fun r=>.pure (encL 24 bzj r)) (fun _=>[])
noncomputable def uzn (c:bz8):T Bool:=let d:=encL 3 az3 c.Points;let e:=(c.Points.length:Int);.cut 2 (fun (f:Bool)=>⟨[(1,.ptr 0 0),(26,.pure (.bool f))],[(0,.box [pz c.Link,pz c.Radius,.pure d])],[],1⟩)
 (.br (decide (c.Radius<1))
 (.oo true)
 (.br (decide (c.Radius>1048576))
 (.oo true)
 (.br (decide (e<1))
 (.oo true)
 (.oo (decide (e>8)))))) fun f=>
 .br f
 (.ret false)
 (.loop (fun (g:Int)=>⟨[(28,.pure d),(29,pz e),(30,pz g)],[],[],0⟩)
 (.exit 0) (fun (_:U0)=>⟨[],[],[],0⟩)
 (fun g=>let h:=c.Points.getD (g.toNat) default;.br (decide (g<e))
 (.gh g c.Points.length<|
 .loop (fun (i:Int)=>⟨[(28,.pure d),(29,pz e),(30,pz g),(34,.pure (az3 h)),(35,pz i)],[],[],0⟩)
 (.exit 2) (fun (_:U0)=>⟨[(28,.pure d),(29,pz e),(30,pz g)],[],[],0⟩)
 (fun i=>.br (decide (i<3))
 (.gh i 3<|
 .name 8000 ((([h.1,h.2.1,h.2.2]:List Int).getD i.toNat 0)) fun j=>
 .cut 0 (fun (k:Bool)=>⟨[(28,.pure d),(29,pz e),(30,pz g),(34,.pure (az3 h)),(35,pz i),(43,.pure (.bool k))],[],[],0⟩)
 (.br (decide (j<(-4194304)))
 (.oo true)
 (.oo (decide (j>4194304)))) fun k=>
 .br k
 (.ff (.fin false))
 (.nn (i64.wrap (i+1))))
 (.oo .u))
 0 [] fun _=>
 .nn (i64.wrap (g+1)))
 (.oo .u))
 0 [] fun _=>
 .ret true)
noncomputable def Dzg (c):=
 mkD Tryz.func269 (uzn c) 0 [.pure (azj c)] [] (fun r=>.pure (.bool r)) (fun _=>[])
noncomputable def wzx (c:azr)(d:Az):T Az:=
 .cc (pzz c) fun e=>
 .call (lz7 d e.1 e.2.1 e.2.2.1 e.2.2.2.1 e.2.2.2.2.1 e.2.2.2.2.2.1 e.2.2.2.2.2.2.1 e.2.2.2.2.2.2.2.1 e.2.2.2.2.2.2.2.2.1 e.2.2.2.2.2.2.2.2.2.1 e.2.2.2.2.2.2.2.2.2.2.1 e.2.2.2.2.2.2.2.2.2.2.2.1 e.2.2.2.2.2.2.2.2.2.2.2.2.1 e.2.2.2.2.2.2.2.2.2.2.2.2.2.1 e.2.2.2.2.2.2.2.2.2.2.2.2.2.2.1 e.2.2.2.2.2.2.2.2.2.2.2.2.2.2.2.1 e.2.2.2.2.2.2.2.2.2.2.2.2.2.2.2.2.1 e.2.2.2.2.2.2.2.2.2.2.2.2.2.2.2.2.2.1 e.2.2.2.2.2.2.2.2.2.2.2.2.2.2.2.2.2.2.1 e.2.2.2.2.2.2.2.2.2.2.2.2.2.2.2.2.2.2.2.1 e.2.2.2.2.2.2.2.2.2.2.2.2.2.2.2.2.2.2.2.2.1 e.2.2.2.2.2.2.2.2.2.2.2.2.2.2.2.2.2.2.2.2.2.1 e.2.2.2.2.2.2.2.2.2.2.2.2.2.2.2.2.2.2.2.2.2.2.1 e.2.2.2.2.2.2.2.2.2.2.2.2.2.2.2.2.2.2.2.2.2.2.2) [(0,256)] fun f=>
 .ret f.1
noncomputable def Fzl (c)(d):=
 mkD Tryz.func270 (wzx c d) 0 [.pure (bzj c),.pure (az2 d)] [] (fun r=>.pure (az2 r)) (fun _=>[])
noncomputable def uzo (c:bz8)(d:azr):T B0:=let e:=(c.Points.length:Int);.cc (Dzg c) fun f=>
 .br (!f)
 (.ret nl)
 (.conv 3003 (Gz5 6 az2 183 e.toNat ((⟨0,0⟩:az0),(⟨0,0⟩:az0),(⟨0,0⟩:az0)))<|
 .grd (0≤e/\e≤e/\e≤9223372036854775807/\e * 48≤140737488355328)<|
 .loop (fun (g:(B0×Int))=>⟨[(3,.ptr 0 0),(5,.vec 1),(16,.pure (encL 3 az3 c.Points)),(17,pz e),(18,pz g.2)],[(0,.box [pz d.R.1.1.Lo,pz d.R.1.1.Hi,pz d.R.1.2.1.Lo,pz d.R.1.2.1.Hi,pz d.R.1.2.2.Lo,pz d.R.1.2.2.Hi,pz d.R.2.1.1.Lo,pz d.R.2.1.1.Hi,pz d.R.2.1.2.1.Lo,pz d.R.2.1.2.1.Hi,pz d.R.2.1.2.2.Lo,pz d.R.2.1.2.2.Hi,pz d.R.2.2.1.Lo,pz d.R.2.2.1.Hi,pz d.R.2.2.2.1.Lo,pz d.R.2.2.2.1.Hi,pz d.R.2.2.2.2.Lo,pz d.R.2.2.2.2.Hi,pz d.T.1.Lo,pz d.T.1.Hi,pz d.T.2.1.Lo,pz d.T.2.1.Hi,pz d.T.2.2.Lo,pz d.T.2.2.Hi]),(1,vecO 6 az2 g.1 183)],[],2⟩)
 (.exit 0) (fun (g:B0)=>⟨[(5,.vec 0)],[(0,vecO 6 az2 g 183)],[],1⟩)
 (fun g=>let h:=(g.2).toNat;.br (decide (g.2<e))
 (.gh g.2 c.Points.length<|
 .cc (lz5 (c.Points.getD h default)) fun i=>
 .cc (Fzl (⟨d.R,d.T⟩:azr) i) fun j=>
 .gh g.2 g.1.length<|
 .conv 7007 (bzm 6 az2 g.1 183 h j)<|
 .gi (g.2) g.1.length<|
 .nn ((g.1.set h j),(i64.wrap (g.2+1))))
 (.oo g.1))
 ((List.replicate e.toNat (((⟨0,0⟩:az0),(⟨0,0⟩:az0),(⟨0,0⟩:az0)):Az)),0) [] fun g=>
 .ret g)
noncomputable def Dzh (c)(d):=
 mkD Tryz.func257 (uzo c d) 0 [.pure (azj c),.pure (bzj d)] [] (fun r=>.pure (encL 6 az2 r)) (fun _=>[])
set_option maxHeartbeats 8000000 in
set_option maxRecDepth 20000 in
noncomputable def hzw (a0:azd)(a1:A9):T B1:=
 .cut 2 (fun (y12:Bool)=>⟨[(1,.pure (encL 2 az7 a1)),(2,.ptr 0 0),(19,.pure (.bool y12))],[(0,.box [.pure (encL 12 az9 a0.Robot.Joints),.pure (encL 5 aze a0.Robot.Masses),.pure (encL 3 azj a0.Shapes),.pure (encL 2 azw a0.Skips)])],[],1⟩)
 (.call (pzt a0.Robot a1) [] fun y13=>
 .br (!y13)
 (.ret (.out true))
 (.call (jzl (⟨a0.Robot,a0.Shapes,a0.Skips⟩:azd)) [] fun y14=>
 .ret (.out (y14 !=0)))) fun y12=>
 .br y12
 (.ret nl)
 (.call (pzu a0.Robot a1) [] fun y16=>
 .conv 4003 (az2j 1 (encL 6 az2) 123 ((a0.Shapes.length:Int)).toNat nl (.lst 0 0 fun _=>.unk) (by kernel_rfl))<|
 .grd (0≤(a0.Shapes.length:Int)/\(a0.Shapes.length:Int)≤(a0.Shapes.length:Int)/\(a0.Shapes.length:Int)≤9223372036854775807/\(a0.Shapes.length:Int) * 24≤140737488355328)<|
 .loop (fun (x53:(B1×Int))=>⟨[(5,.pure (encL 24 bzj y16)),(6,.vec 0),(29,.pure (encL 3 azj a0.Shapes)),(30,pz (a0.Shapes.length:Int)),(31,pz x53.2)],[(0,vecO 1 (encL 6 az2) x53.1 123)],[],1⟩)
 (.exit 0) (fun (y62:B1)=>⟨[(6,.vec 0)],[(0,vecO 1 (encL 6 az2) y62 123)],[],1⟩)
 (fun x53=>.br (decide (x53.2<(a0.Shapes.length:Int)))
 (.grd (0≤x53.2/\x53.2<(a0.Shapes.length:Int))<|
 .call (pose_Identity_C) [] fun y68=>
 .cut 0 (fun (y69:Bj)=>⟨[(5,.pure (encL 24 bzj y16)),(6,.vec 0),(7,pz x53.2),(8,.ptr 1 0),(9,.ptr 2 0),(29,.pure (encL 3 azj a0.Shapes)),(30,pz (a0.Shapes.length:Int)),(31,pz x53.2)],[(0,vecO 1 (encL 6 az2) x53.1 123),(1,.box [pz ((a0.Shapes.getD ((x53.2).toNat) default).Link),pz ((a0.Shapes.getD ((x53.2).toNat) default).Radius),.pure (encL 3 az3 ((a0.Shapes.getD ((x53.2).toNat) default).Points))]),(2,.box [pz y69.1,pz y69.2.1,pz y69.2.2.1,pz y69.2.2.2.1,pz y69.2.2.2.2.1,pz y69.2.2.2.2.2.1,pz y69.2.2.2.2.2.2.1,pz y69.2.2.2.2.2.2.2.1,pz y69.2.2.2.2.2.2.2.2.1,pz y69.2.2.2.2.2.2.2.2.2.1,pz y69.2.2.2.2.2.2.2.2.2.2.1,pz y69.2.2.2.2.2.2.2.2.2.2.2.1,pz y69.2.2.2.2.2.2.2.2.2.2.2.2.1,pz y69.2.2.2.2.2.2.2.2.2.2.2.2.2.1,pz y69.2.2.2.2.2.2.2.2.2.2.2.2.2.2.1,pz y69.2.2.2.2.2.2.2.2.2.2.2.2.2.2.2.1,pz y69.2.2.2.2.2.2.2.2.2.2.2.2.2.2.2.2.1,pz y69.2.2.2.2.2.2.2.2.2.2.2.2.2.2.2.2.2.1,pz y69.2.2.2.2.2.2.2.2.2.2.2.2.2.2.2.2.2.2.1,pz y69.2.2.2.2.2.2.2.2.2.2.2.2.2.2.2.2.2.2.2.1,pz y69.2.2.2.2.2.2.2.2.2.2.2.2.2.2.2.2.2.2.2.2.1,pz y69.2.2.2.2.2.2.2.2.2.2.2.2.2.2.2.2.2.2.2.2.2.1,pz y69.2.2.2.2.2.2.2.2.2.2.2.2.2.2.2.2.2.2.2.2.2.2.1,pz y69.2.2.2.2.2.2.2.2.2.2.2.2.2.2.2.2.2.2.2.2.2.2.2])],[],3⟩)
 (.br (((a0.Shapes.getD ((x53.2).toNat) default).Link) !=(-1))
 (.grd (0≤((a0.Shapes.getD ((x53.2).toNat) default).Link)/\((a0.Shapes.getD ((x53.2).toNat) default).Link)<(y16.length:Int))<|
 .ret (.out ((y16.getD (((a0.Shapes.getD ((x53.2).toNat) default).Link).toNat) default).R.1.1.Lo,(y16.getD (((a0.Shapes.getD ((x53.2).toNat) default).Link).toNat) default).R.1.1.Hi,(y16.getD (((a0.Shapes.getD ((x53.2).toNat) default).Link).toNat) default).R.1.2.1.Lo,(y16.getD (((a0.Shapes.getD ((x53.2).toNat) default).Link).toNat) default).R.1.2.1.Hi,(y16.getD (((a0.Shapes.getD ((x53.2).toNat) default).Link).toNat) default).R.1.2.2.Lo,(y16.getD (((a0.Shapes.getD ((x53.2).toNat) default).Link).toNat) default).R.1.2.2.Hi,(y16.getD (((a0.Shapes.getD ((x53.2).toNat) default).Link).toNat) default).R.2.1.1.Lo,(y16.getD (((a0.Shapes.getD ((x53.2).toNat) default).Link).toNat) default).R.2.1.1.Hi,(y16.getD (((a0.Shapes.getD ((x53.2).toNat) default).Link).toNat) default).R.2.1.2.1.Lo,(y16.getD (((a0.Shapes.getD ((x53.2).toNat) default).Link).toNat) default).R.2.1.2.1.Hi,(y16.getD (((a0.Shapes.getD ((x53.2).toNat) default).Link).toNat) default).R.2.1.2.2.Lo,(y16.getD (((a0.Shapes.getD ((x53.2).toNat) default).Link).toNat) default).R.2.1.2.2.Hi,(y16.getD (((a0.Shapes.getD ((x53.2).toNat) default).Link).toNat) default).R.2.2.1.Lo,(y16.getD (((a0.Shapes.getD ((x53.2).toNat) default).Link).toNat) default).R.2.2.1.Hi,(y16.getD (((a0.Shapes.getD ((x53.2).toNat) default).Link).toNat) default).R.2.2.2.1.Lo,(y16.getD (((a0.Shapes.getD ((x53.2).toNat) default).Link).toNat) default).R.2.2.2.1.Hi,(y16.getD (((a0.Shapes.getD ((x53.2).toNat) default).Link).toNat) default).R.2.2.2.2.Lo,(y16.getD (((a0.Shapes.getD ((x53.2).toNat) default).Link).toNat) default).R.2.2.2.2.Hi,(y16.getD (((a0.Shapes.getD ((x53.2).toNat) default).Link).toNat) default).T.1.Lo,(y16.getD (((a0.Shapes.getD ((x53.2).toNat) default).Link).toNat) default).T.1.Hi,(y16.getD (((a0.Shapes.getD ((x53.2).toNat) default).Link).toNat) default).T.2.1.Lo,(y16.getD (((a0.Shapes.getD ((x53.2).toNat) default).Link).toNat) default).T.2.1.Hi,(y16.getD (((a0.Shapes.getD ((x53.2).toNat) default).Link).toNat) default).T.2.2.Lo,(y16.getD (((a0.Shapes.getD ((x53.2).toNat) default).Link).toNat) default).T.2.2.Hi)))
 (.ret (.out (y68.R.1.1.Lo,y68.R.1.1.Hi,y68.R.1.2.1.Lo,y68.R.1.2.1.Hi,y68.R.1.2.2.Lo,y68.R.1.2.2.Hi,y68.R.2.1.1.Lo,y68.R.2.1.1.Hi,y68.R.2.1.2.1.Lo,y68.R.2.1.2.1.Hi,y68.R.2.1.2.2.Lo,y68.R.2.1.2.2.Hi,y68.R.2.2.1.Lo,y68.R.2.2.1.Hi,y68.R.2.2.2.1.Lo,y68.R.2.2.2.1.Hi,y68.R.2.2.2.2.Lo,y68.R.2.2.2.2.Hi,y68.T.1.Lo,y68.T.1.Hi,y68.T.2.1.Lo,y68.T.2.1.Hi,y68.T.2.2.Lo,y68.T.2.2.Hi)))) fun y69=>
 .call (Dzh (a0.Shapes.getD ((x53.2).toNat) default) (⟨(((⟨y69.1,y69.2.1⟩:az0),(⟨y69.2.2.1,y69.2.2.2.1⟩:az0),(⟨y69.2.2.2.2.1,y69.2.2.2.2.2.1⟩:az0)),((⟨y69.2.2.2.2.2.2.1,y69.2.2.2.2.2.2.2.1⟩:az0),(⟨y69.2.2.2.2.2.2.2.2.1,y69.2.2.2.2.2.2.2.2.2.1⟩:az0),(⟨y69.2.2.2.2.2.2.2.2.2.2.1,y69.2.2.2.2.2.2.2.2.2.2.2.1⟩:az0)),((⟨y69.2.2.2.2.2.2.2.2.2.2.2.2.1,y69.2.2.2.2.2.2.2.2.2.2.2.2.2.1⟩:az0),(⟨y69.2.2.2.2.2.2.2.2.2.2.2.2.2.2.1,y69.2.2.2.2.2.2.2.2.2.2.2.2.2.2.2.1⟩:az0),(⟨y69.2.2.2.2.2.2.2.2.2.2.2.2.2.2.2.2.1,y69.2.2.2.2.2.2.2.2.2.2.2.2.2.2.2.2.2.1⟩:az0))),((⟨y69.2.2.2.2.2.2.2.2.2.2.2.2.2.2.2.2.2.2.1,y69.2.2.2.2.2.2.2.2.2.2.2.2.2.2.2.2.2.2.2.1⟩:az0),(⟨y69.2.2.2.2.2.2.2.2.2.2.2.2.2.2.2.2.2.2.2.2.1,y69.2.2.2.2.2.2.2.2.2.2.2.2.2.2.2.2.2.2.2.2.2.1⟩:az0),(⟨y69.2.2.2.2.2.2.2.2.2.2.2.2.2.2.2.2.2.2.2.2.2.2.1,y69.2.2.2.2.2.2.2.2.2.2.2.2.2.2.2.2.2.2.2.2.2.2.2⟩:az0))⟩:azr)) [] fun y70=>
 .grd (0≤x53.2/\x53.2<(x53.1.length:Int))<|
 .conv 11006 (bzm 1 (encL 6 az2) x53.1 123 ((x53.2).toNat) y70)<|
 .grd ((x53.2).toNat<x53.1.length/\0≤(x53.2).toNat)<|
 .ret (.next ((x53.1.set ((x53.2).toNat) y70),(i64.wrap (x53.2+1)))))
 (.ret (.out x53.1)))
 ((List.replicate ((a0.Shapes.length:Int)).toNat (nl:B0)),0) [] fun y62=>
 .ret y62)
noncomputable def ozg (c)(d):=
 mkD Tryz.func242 (hzw c d) 0 [.pure (cz6 c),.pure (encL 2 az7 d)] [] (fun r=>.pure (encL 1 (encL 6 az2) r)) (fun _=>[])
noncomputable def mz3 (c:azd)(d:A9):T (bzb×Bool):=let e:=encL 2 az7 d;let f:=(d.length:Int);let g:Nat×Res:=(0,.box [.pure (encL 12 az9 c.Robot.Joints),.pure (encL 5 aze c.Robot.Masses),.pure (encL 3 azj c.Shapes),.pure (encL 2 azw c.Skips)]);.cut 2 (fun (h:Bool)=>⟨[(1,.pure e),(2,.ptr 0 0),(4,.ptr 1 0),(19,.pure (.bool h))],[g,(1,.box [.vec 2,.vec 3,.vec 4]),(2,.nilv),(3,.nilv),(4,.nilv)],[],5⟩)
 (.cc (jzl c) fun h=>
 .br (h !=0)
 (.oo true)
 (.oo (f !=(c.Robot.Joints.length:Int)))) fun h=>
 .br h
 (.ret ((⟨nl,nl,nl⟩:bzb),false))
 (.loop (fun (i:Int)=>⟨[(1,.pure e),(2,.ptr 0 0),(4,.ptr 1 0),(21,.pure e),(22,pz f),(23,pz i)],[g,(1,.box [.vec 2,.vec 3,.vec 4]),(2,.nilv),(3,.nilv),(4,.nilv)],[],5⟩)
 (.exit 0) (fun (_:U0)=>⟨[(1,.pure e),(2,.ptr 0 0),(4,.ptr 1 0)],[g,(1,.box [.vec 2,.vec 3,.vec 4]),(2,.nilv),(3,.nilv),(4,.nilv)],[],5⟩)
 (fun i=>.br (decide (i<f))
 (.gh i d.length<|
 .cc (czc (d.getD (i.toNat) default)) fun j=>
 .br (!j)
 (.ff ((⟨nl,nl,nl⟩:bzb),false))
 (.nn (i64.wrap (i+1))))
 (.oo .u))
 0 [] fun _=>
 .cc (Dze c) fun i=>
 .cc (ozg (⟨c.Robot,c.Shapes,c.Skips⟩:azd) d) fun j=>
 .ret ((⟨c.Shapes,i,j⟩:bzb),true))
noncomputable def mz2 (c)(d):=
 mkD Tryz.func210 (mz3 c d) 0 [.pure (cz6 c),.pure (encL 2 az7 d)] [] (fun r=>.tup [.pure (gzm r.1),.pure (.bool r.2)]) (fun _=>[])
noncomputable def izj (c:bzb)(d:Int):T fz6:=let e:=c.pairs.getD (d.toNat) default;let f:=e.A;let g:=e.B;.gh d c.pairs.length<|
 .gh f c.points.length<|
 .gh f c.shapes.length<|
 .gh g c.points.length<|
 .gh g c.shapes.length<|
 .ret (⟨(c.points.getD (f.toNat) default),(c.points.getD (g.toNat) default),(c.shapes.getD (f.toNat) default).Radius,(c.shapes.getD (g.toNat) default).Radius⟩:fz6)
noncomputable def nz9 (c)(d):=
 mkD Tryz.func345 (izj c d) 0 [.pure (gzm c),pz d] [] (fun r=>.pure (Azl r)) (fun _=>[])
noncomputable def Pz7 (c:B0)(d:Int)(e:B0)(f:Int):T dz9:=
 .ret (⟨(⟨c,d⟩:ezt),(⟨e,f⟩:ezt)⟩:dz9)
noncomputable def Fzk (c)(d)(e)(f):=
 mkD Tryz.func357 (Pz7 c d e f) 0 [.pure (encL 6 az2 c),pz d,.pure (encL 6 az2 e),pz f] [] (fun r=>.pure (ozb r)) (fun _=>[])
noncomputable def rzs (c:B0):T Bool:=let d:=encL 6 az2 c;let e:=(c.length:Int);.cut 2 (fun (f:Bool)=>⟨[(0,.pure d),(14,.pure (.bool f))],[],[],0⟩)
 (.br (decide (e<1))
 (.oo true)
 (.oo (decide (e>8)))) fun f=>
 .br f
 (.ret false)
 (.loop (fun (g:Int)=>⟨[(15,.pure d),(16,pz e),(17,pz g)],[],[],0⟩)
 (.exit 0) (fun (_:U0)=>⟨[],[],[],0⟩)
 (fun g=>let h:=c.getD (g.toNat) default;let i:=az2 h;.br (decide (g<e))
 (.gh g c.length<|
 .unroll 4<|
 .known true<|
 .ix 0 3 rfl<|
 .cut 0 (fun (j:Bool)=>⟨[(15,.pure d),(16,pz e),(17,pz g),(21,.pure i),(22,pz 0),(39,.pure (.bool j))],[],[],0⟩)
 (.br (decide ((h.1.Lo)<(-268435456)))
 (.oo true)
 (.br (decide ((h.1.Lo)>(h.1.Hi)))
 (.oo true)
 (.oo (decide ((h.1.Hi)>268435456))))) fun j=>
 .br j
 (.ff false)
 (.lit 11000 (1)<|
 .known true<|
 .ix 1 3 rfl<|
 .cut 0 (fun (k:Bool)=>⟨[(15,.pure d),(16,pz e),(17,pz g),(21,.pure i),(22,pz 1),(39,.pure (.bool k))],[],[],0⟩)
 (.br (decide ((h.2.1.Lo)<(-268435456)))
 (.oo true)
 (.br (decide ((h.2.1.Lo)>(h.2.1.Hi)))
 (.oo true)
 (.oo (decide ((h.2.1.Hi)>268435456))))) fun k=>
 .br k
 (.ff false)
 (.lit 11000 (2)<|
 .known true<|
 .ix 2 3 rfl<|
 .cut 0 (fun (l:Bool)=>⟨[(15,.pure d),(16,pz e),(17,pz g),(21,.pure i),(22,pz 2),(39,.pure (.bool l))],[],[],0⟩)
 (.br (decide ((h.2.2.Lo)<(-268435456)))
 (.oo true)
 (.br (decide ((h.2.2.Lo)>(h.2.2.Hi)))
 (.oo true)
 (.oo (decide ((h.2.2.Hi)>268435456))))) fun l=>
 .br l
 (.ff false)
 (.lit 11000 (3)<|
 .known false<|
 .nn (i64.wrap (g+1))))))
 (.oo .u))
 0 [] fun _=>
 .ret true)
noncomputable def hzd (c):=
 mkD Tryz.func353 (rzs c) 0 [.pure (encL 6 az2 c)] [] (fun r=>.pure (.bool r)) (fun _=>[])
noncomputable def yz2 (c:ezt):T Bool:=
 .cc (hzd c.points) fun d=>
 .br d
 (.br (decide (0≤c.radius))
 (.ret (decide (c.radius≤1048576)))
 (.ret false))
 (.ret false)
noncomputable def yz1 (c):=
 mkD Tryz.func359 (yz2 c) 0 [.pure (Jzw c)] [] (fun r=>.pure (.bool r)) (fun _=>[])
noncomputable def lz0 (c:Aw):T Bool:=
 .loop (fun (d:Int)=>⟨[(5,.pure (az3 c)),(6,pz d)],[],[],0⟩)
 (.exit 0) (fun (_:U0)=>⟨[],[],[],0⟩)
 (fun d=>let e:=([c.1,c.2.1,c.2.2]:List Int).getD d.toNat 0;.br (decide (d<3))
 (.gh d 3<|
 .cut 0 (fun (f:Bool)=>⟨[(5,.pure (az3 c)),(6,pz d),(14,.pure (.bool f))],[],[],0⟩)
 (.br (decide (e<(-16384)))
 (.oo true)
 (.oo (decide (e>16384)))) fun f=>
 .br f
 (.ff false)
 (.nn (i64.wrap (d+1))))
 (.oo .u))
 0 [] fun _=>
 .ret true
noncomputable def szx (c):=
 mkD Tryz.func368 (lz0 c) 0 [.pure (az3 c)] [] (fun r=>.pure (.bool r)) (fun _=>[])
noncomputable def nz0 (c:Aw):T Bool:=
 .cc (szx c) fun d=>
 .br d
 (.ret (!((c.1==0)&&((c.2.1==0)&&((c.2.2==0)&&true)))))
 (.ret false)
noncomputable def hzm (c):=
 mkD Tryz.func363 (nz0 c) 0 [.pure (az3 c)] [] (fun r=>.pure (.bool r)) (fun _=>[])
noncomputable def Dzr (c:Aw):T Aw:=
 .ret (c.1,c.2.1,c.2.2)
noncomputable def qze (c):=
 mkD Tryz.func364 (Dzr c) 0 [.pure (az3 c)] [] (fun _=>.agg [.func 369 [] [.ptr 0 0],.func 371 [] []]) (fun r=>[(0,.box [pz r.1,pz r.2.1,pz r.2.2])])
noncomputable def uzt (c:Aw)(d:Az):T Ah:=let e:=i64.wrap (c.1 * d.1.Lo);let f:=i64.wrap (c.1 * d.1.Hi);let g:=i64.wrap (c.2.1 * d.2.1.Lo);let h:=i64.wrap (c.2.1 * d.2.1.Hi);let i:=i64.wrap (c.2.2 * d.2.2.Lo);let j:=i64.wrap (c.2.2 * d.2.2.Hi);.unroll 4<|
 .known true<|
 .ix 0 3 rfl<|
 .ix 0 3 rfl<|
 .ix 0 3 rfl<|
 .name 6004 ((i64.wrap (0+(min e f)))) fun k=>
 .name 7004 ((i64.wrap (0+(max e f)))) fun l=>
 .lit 8000 (1)<|
 .known true<|
 .ix 1 3 rfl<|
 .ix 1 3 rfl<|
 .ix 1 3 rfl<|
 .name 6004 ((i64.wrap (k+(min g h)))) fun m=>
 .name 7004 ((i64.wrap (l+(max g h)))) fun n=>
 .lit 8000 (2)<|
 .known true<|
 .ix 2 3 rfl<|
 .ix 2 3 rfl<|
 .ix 2 3 rfl<|
 .name 6004 ((i64.wrap (m+(min i j)))) fun s=>
 .name 7004 ((i64.wrap (n+(max i j)))) fun t=>
 .lit 8000 (3)<|
 .known false<|
 .ret (s,t)
noncomputable def uzs (c)(d):=
 mkD Tryz.func370 (uzt c d) 0 [.pure (az3 c),.pure (az2 d)] [] (fun r=>.tup [pz r.1,pz r.2]) (fun _=>[])
noncomputable def hz1 (c:Az)(d:Int)(e:Int)(f:Int):T Ba:=
 .cc (uzs (d,e,f) ((⟨c.1.Lo,c.1.Hi⟩:az0),(⟨c.2.1.Lo,c.2.1.Hi⟩:az0),(⟨c.2.2.Lo,c.2.2.Hi⟩:az0))) fun g=>
 .ret (g.1,d,e,f)
noncomputable def nz6 (c)(d)(e)(f):=
 mkD Tryz.func369 (hz1 c d e f) 1 [.pure (az2 c),.ptr 0 0] [(0,.box [pz d,pz e,pz f])] (fun r=>pz r.1) (fun r=>[(0,.box [pz r.2.1,pz r.2.2.1,pz r.2.2.2])])
noncomputable def zz7 (c:Int)(d:Int):T Bool:=
 .ret (decide (c<d))
noncomputable def nz7 (c)(d):=
 mkD Tryz.func371 (zz7 c d) 0 [pz c,pz d] [] (fun r=>.pure (.bool r)) (fun _=>[])
noncomputable def mz6 (c:Int)(d:Int)(e:Int)(f:B0):T Bc:=let g:=encL 6 az2 f;let h:=(f.length:Int);.loop (fun (i:Bd)=>⟨[(2,.ptr 1 0),(6,pz i.2.2.2.1),(7,pz i.2.2.2.2.1),(11,.pure g),(12,pz h),(13,pz i.2.2.2.2.2)],[(0,.box [pz i.1,pz i.2.1,pz i.2.2.1]),(1,.box [.func 369 [] [.ptr 0 0],.func 371 [] []])],[],2⟩)
 (.exit 0) (fun (i:Bc)=>⟨[(6,pz i.2.2.2.1),(7,pz i.2.2.2.2)],[(0,.box [pz i.1,pz i.2.1,pz i.2.2.1])],[],1⟩)
 (fun i=>.br (decide (i.2.2.2.2.2<h))
 (.cut 0 (fun (j:Bc)=>⟨[(2,.ptr 1 0),(6,pz j.2.2.2.1),(7,pz j.2.2.2.2),(11,.pure g),(12,pz h),(13,pz i.2.2.2.2.2)],[(0,.box [pz j.1,pz j.2.1,pz j.2.2.1]),(1,.box [.func 369 [] [.ptr 0 0],.func 371 [] []])],[],2⟩)
 (.gh i.2.2.2.2.2 f.length<|
 .call (nz6 (f.getD ((i.2.2.2.2.2).toNat) default) i.1 i.2.1 i.2.2.1) [(0,0)] fun j=>
 .cut 0 (fun (k:Bool)=>⟨[(2,.ptr 1 0),(6,pz i.2.2.2.1),(7,pz i.2.2.2.2.1),(8,pz i.2.2.2.2.2),(10,pz j.1),(11,.pure g),(12,pz h),(13,pz i.2.2.2.2.2),(30,.pure (.bool k))],[(0,.box [pz j.2.1,pz j.2.2.1,pz j.2.2.2]),(1,.box [.func 369 [] [.ptr 0 0],.func 371 [] []])],[],2⟩)
 (.br (i.2.2.2.2.2==0)
 (.oo true)
 (.cc (nz7 j.1 i.2.2.2.1) fun k=>
 .oo k)) fun k=>
 .br k
 (.oo (j.2.1,j.2.2.1,j.2.2.2,j.1,i.2.2.2.2.2))
 (.oo (j.2.1,j.2.2.1,j.2.2.2,i.2.2.2.1,i.2.2.2.2.1))) fun j=>
 .nn (j.1,j.2.1,j.2.2.1,j.2.2.2.1,j.2.2.2.2,(i64.wrap (i.2.2.2.2.2+1))))
 (.oo (i.1,i.2.1,i.2.2.1,i.2.2.2.1,i.2.2.2.2.1)))
 (c,d,e,0,0,0) [] fun i=>
 .ret (i.2.2.2.1,i.2.2.2.2,i.1,i.2.1,i.2.2.1)
noncomputable def vz2 (c)(d)(e)(f):=
 mkD Tryz.func365 (mz6 c d e f) 1 [.agg [.func 369 [] [.ptr 0 0],.func 371 [] []],.pure (encL 6 az2 f)] [(0,.box [pz c,pz d,pz e])] (fun r=>.tup [pz r.1,pz r.2.1]) (fun r=>[(0,.box [pz r.2.2.1,pz r.2.2.2.1,pz r.2.2.2.2])])
noncomputable def pzf (c:Aw)(d:B0):T B4:=
 .cut 2 (fun (e:Bool)=>⟨[(1,.pure (encL 6 az2 d)),(2,.ptr 0 0),(16,.pure (.bool e))],[(0,.box [pz c.1,pz c.2.1,pz c.2.2])],[],1⟩)
 (.cc (hzm c) fun e=>
 .br (!e)
 (.oo true)
 (.cc (hzd d) fun f=>
 .oo (!f))) fun e=>
 .br e
 (.ret (0,0,false))
 (.cc (qze (c.1,c.2.1,c.2.2)) fun f=>
 .call (vz2 f.1 f.2.1 f.2.2 d) [(0,65)] fun g=>
 .ret (g.1,g.2.1,true))
noncomputable def yz6 (c)(d):=
 mkD Tryz.func360 (pzf c d) 0 [.pure (az3 c),.pure (encL 6 az2 d)] [] (fun r=>.tup [pz r.1,pz r.2.1,.pure (.bool r.2.2)]) (fun _=>[])
noncomputable def Gzu (c:Aw):T Aw:=
 .ret (c.1,c.2.1,c.2.2)
noncomputable def vzj (c):=
 mkD Tryz.func366 (Gzu c) 0 [.pure (az3 c)] [] (fun _=>.agg [.func 372 [] [.ptr 0 0],.func 373 [] []]) (fun r=>[(0,.box [pz r.1,pz r.2.1,pz r.2.2])])
noncomputable def jzx (c:Az)(d:Int)(e:Int)(f:Int):T Ba:=
 .cc (uzs (d,e,f) c) fun g=>
 .ret (g.2,d,e,f)
noncomputable def qzf (c)(d)(e)(f):=
 mkD Tryz.func372 (jzx c d e f) 1 [.pure (az2 c),.ptr 0 0] [(0,.box [pz d,pz e,pz f])] (fun r=>pz r.1) (fun r=>[(0,.box [pz r.2.1,pz r.2.2.1,pz r.2.2.2])])
noncomputable def Dzs (c:Int)(d:Int):T Bool:=
 .ret (decide (c>d))
noncomputable def qzg (c)(d):=
 mkD Tryz.func373 (Dzs c d) 0 [pz c,pz d] [] (fun r=>.pure (.bool r)) (fun _=>[])
noncomputable def izn (c:Int)(d:Int)(e:Int)(f:B0):T Bc:=let g:=encL 6 az2 f;let h:=(f.length:Int);.loop (fun (i:Bd)=>⟨[(2,.ptr 1 0),(6,pz i.2.2.2.1),(7,pz i.2.2.2.2.1),(11,.pure g),(12,pz h),(13,pz i.2.2.2.2.2)],[(0,.box [pz i.1,pz i.2.1,pz i.2.2.1]),(1,.box [.func 372 [] [.ptr 0 0],.func 373 [] []])],[],2⟩)
 (.exit 0) (fun (i:Bc)=>⟨[(6,pz i.2.2.2.1),(7,pz i.2.2.2.2)],[(0,.box [pz i.1,pz i.2.1,pz i.2.2.1])],[],1⟩)
 (fun i=>.br (decide (i.2.2.2.2.2<h))
 (.cut 0 (fun (j:Bc)=>⟨[(2,.ptr 1 0),(6,pz j.2.2.2.1),(7,pz j.2.2.2.2),(11,.pure g),(12,pz h),(13,pz i.2.2.2.2.2)],[(0,.box [pz j.1,pz j.2.1,pz j.2.2.1]),(1,.box [.func 372 [] [.ptr 0 0],.func 373 [] []])],[],2⟩)
 (.gh i.2.2.2.2.2 f.length<|
 .call (qzf (f.getD ((i.2.2.2.2.2).toNat) default) i.1 i.2.1 i.2.2.1) [(0,0)] fun j=>
 .cut 0 (fun (k:Bool)=>⟨[(2,.ptr 1 0),(6,pz i.2.2.2.1),(7,pz i.2.2.2.2.1),(8,pz i.2.2.2.2.2),(10,pz j.1),(11,.pure g),(12,pz h),(13,pz i.2.2.2.2.2),(30,.pure (.bool k))],[(0,.box [pz j.2.1,pz j.2.2.1,pz j.2.2.2]),(1,.box [.func 372 [] [.ptr 0 0],.func 373 [] []])],[],2⟩)
 (.br (i.2.2.2.2.2==0)
 (.oo true)
 (.cc (qzg j.1 i.2.2.2.1) fun k=>
 .oo k)) fun k=>
 .br k
 (.oo (j.2.1,j.2.2.1,j.2.2.2,j.1,i.2.2.2.2.2))
 (.oo (j.2.1,j.2.2.1,j.2.2.2,i.2.2.2.1,i.2.2.2.2.1))) fun j=>
 .nn (j.1,j.2.1,j.2.2.1,j.2.2.2.1,j.2.2.2.2,(i64.wrap (i.2.2.2.2.2+1))))
 (.oo (i.1,i.2.1,i.2.2.1,i.2.2.2.1,i.2.2.2.2.1)))
 (c,d,e,0,0,0) [] fun i=>
 .ret (i.2.2.2.1,i.2.2.2.2,i.1,i.2.1,i.2.2.1)
noncomputable def pzo (c)(d)(e)(f):=
 mkD Tryz.func365 (izn c d e f) 1 [.agg [.func 372 [] [.ptr 0 0],.func 373 [] []],.pure (encL 6 az2 f)] [(0,.box [pz c,pz d,pz e])] (fun r=>.tup [pz r.1,pz r.2.1]) (fun r=>[(0,.box [pz r.2.2.1,pz r.2.2.2.1,pz r.2.2.2.2])])
noncomputable def jzw (c:Aw)(d:B0):T B4:=
 .cut 2 (fun (e:Bool)=>⟨[(1,.pure (encL 6 az2 d)),(2,.ptr 0 0),(16,.pure (.bool e))],[(0,.box [pz c.1,pz c.2.1,pz c.2.2])],[],1⟩)
 (.cc (hzm c) fun e=>
 .br (!e)
 (.oo true)
 (.cc (hzd d) fun f=>
 .oo (!f))) fun e=>
 .br e
 (.ret (0,0,false))
 (.cc (vzj (c.1,c.2.1,c.2.2)) fun f=>
 .call (pzo f.1 f.2.1 f.2.2 d) [(0,65)] fun g=>
 .ret (g.1,g.2.1,true))
noncomputable def qzd (c)(d):=
 mkD Tryz.func361 (jzw c d) 0 [.pure (az3 c),.pure (encL 6 az2 d)] [] (fun r=>.tup [pz r.1,pz r.2.1,.pure (.bool r.2.2)]) (fun _=>[])
noncomputable def wzg (c:Int):T Int:=let d:=IntKind.u64.wrap c;.br (decide (c≤0))
 (.ret 0)
 (.cc (gzp d) fun e=>let f:=i64.wrap ((i64.wrap (e+1)).tdiv 2);
 .ok ((2:Int)≠0) (by decide)<|
 .grd (0≤f)<|
 .loop (fun (g:Aw)=>⟨[(0,pz c),(4,.pure (.int .u64 g.1)),(5,.pure (.int .u64 g.2.1)),(16,pz f),(17,pz g.2.2)],[],[],0⟩)
 (.exit 0) (fun (g:Int)=>⟨[(4,.pure (.int .u64 g))],[],[],0⟩)
 (fun g=>.br (decide (g.2.2<f))
 (.cut 0 (fun (h:Ah)=>⟨[(0,pz c),(4,.pure (.int .u64 h.1)),(5,.pure (.int .u64 h.2)),(16,pz f),(17,pz g.2.2)],[],[],0⟩)
 (.ok ((2:Int)≠0) (by decide)<|
 .name 7001 ((IntKind.u64.wrap (g.2.1.tdiv 2))) fun h=>let i:=IntKind.u64.wrap (g.1+h);
 .br (decide ((IntKind.u64.wrap (i * i))≤d))
 (.oo (i,h))
 (.oo (g.1,h))) fun h=>
 .nn (h.1,h.2,(i64.wrap (g.2.2+1))))
 (.oo g.1))
 (0,(IntKind.u64.wrap (1 * 2 ^ (min f.toNat 64))),0) [] fun g=>
 .ret (i64.wrap g))
noncomputable def wzf (c):=
 mkD Tryz.func374 (wzg c) 0 [pz c] [] (fun r=>pz r) (fun _=>[])
noncomputable def qzp (c:Int):T Int:=
 .cc (wzf c) fun d=>
 .cut 0 (fun (e:Int)=>⟨[(3,pz e)],[],[],0⟩)
 (.br (decide ((i64.wrap (d * d))<c))
 (.oo (i64.wrap (d+1)))
 (.oo d)) fun e=>
 .ret e
noncomputable def zzc (c):=
 mkD Tryz.func367 (qzp c) 0 [pz c] [] (fun r=>pz r) (fun _=>[])
noncomputable def rzw (c:Aw):T Int:=
 .cc (hzm (c.1,c.2.1,c.2.2)) fun d=>
 .br (!d)
 (.ret 0)
 (.ix 0 3 rfl<|
 .ix 0 3 rfl<|
 .ix 1 3 rfl<|
 .ix 1 3 rfl<|
 .ix 2 3 rfl<|
 .ix 2 3 rfl<|
 .name 3016 ((i64.wrap ((i64.wrap ((i64.wrap (c.1 * c.1))+(i64.wrap (c.2.1 * c.2.1))))+(i64.wrap (c.2.2 * c.2.2))))) fun e=>
 .cc (zzc e) fun f=>
 .ret f)
noncomputable def Az7 (c):=
 mkD Tryz.func362 (rzw c) 0 [.pure (az3 c)] [] (fun r=>pz r) (fun _=>[])
noncomputable def rzt (c:dz9)(d:Aw):T Am:=
 .cut 2 (fun (e:Bool)=>⟨[(2,.ptr 0 0),(3,.ptr 1 0),(20,.pure (.bool e))],[(0,.box [.pure (encL 6 az2 c.a.points),pz c.a.radius,.pure (encL 6 az2 c.b.points),pz c.b.radius]),(1,.box [pz d.1,pz d.2.1,pz d.2.2])],[],2⟩)
 (.cc (yz1 c.a) fun e=>
 .br (!e)
 (.oo true)
 (.cc (yz1 c.b) fun f=>
 .oo (!f))) fun e=>
 .br e
 (.ret (0,false))
 (.cc (yz6 (d.1,d.2.1,d.2.2) c.a.points) fun f=>
 .br (!f.2.2)
 (.ret (0,false))
 (.cc (qzd (d.1,d.2.1,d.2.2) c.b.points) fun g=>
 .br (!g.2.2)
 (.ret (0,false))
 (.cc (Az7 (d.1,d.2.1,d.2.2)) fun h=>
 .name 9013 ((i64.wrap ((i64.wrap (f.1-g.1))- (i64.wrap (h * (i64.wrap (c.a.radius+c.b.radius))))))) fun i=>
 .ret (i,true))))
noncomputable def Az6 (c)(d):=
 mkD Tryz.func358 (rzt c d) 0 [.pure (ozb c),.pure (az3 d)] [] (fun r=>.tup [pz r.1,.pure (.bool r.2)]) (fun _=>[])
noncomputable def kzu (c:dz9)(d:Aw):T Bool:=
 .cc (Az6 (⟨c.a,c.b⟩:dz9) (d.1,d.2.1,d.2.2)) fun e=>
 .br e.2
 (.ret (decide (e.1>0)))
 (.ret false)
noncomputable def szs (c)(d):=
 mkD Tryz.func356 (kzu c d) 0 [.pure (ozb c),.pure (az3 d)] [] (fun r=>.pure (.bool r)) (fun _=>[])
noncomputable def kzi (c:Aw)(d:B0)(e:Int)(f:B0)(g:Int):T Bool:=
 .cc (Fzk d e f g) fun h=>
 .cc (szs (⟨h.a,h.b⟩:dz9) (c.1,c.2.1,c.2.2)) fun i=>
 .ret i
noncomputable def szg (c)(d)(e)(f)(g):=
 mkD Tryz.func355 (kzi c d e f g) 0 [.pure (az3 c),.pure (encL 6 az2 d),pz e,.pure (encL 6 az2 f),pz g] [] (fun r=>.pure (.bool r)) (fun _=>[])
noncomputable def jzo (c:cz5)(d:bzb):T Bool:=let e:=(c.normals.length:Int);.br (e !=(d.pairs.length:Int))
 (.ret false)
 (.loop (fun (f:Int)=>⟨[(3,.ptr 0 0),(16,.pure (encL 3 az3 c.normals)),(17,pz e),(18,pz f)],[(0,.box [.pure (encL 3 azj d.shapes),.pure (encL 2 dzi d.pairs),.pure (encL 1 (encL 6 az2) d.points)])],[],1⟩)
 (.exit 0) (fun (_:U0)=>⟨[],[],[],0⟩)
 (fun f=>.br (decide (f<e))
 (.gh f c.normals.length<|
 .cc (nz9 (⟨d.shapes,d.pairs,d.points⟩:bzb) f) fun g=>
 .cc (szg (c.normals.getD (f.toNat) default) g.a g.ra g.b g.rb) fun h=>
 .br (!h)
 (.ff false)
 (.nn (i64.wrap (f+1))))
 (.oo .u))
 0 [] fun _=>
 .ret true)
noncomputable def qzb (c)(d):=
 mkD Tryz.func354 (jzo c d) 0 [.pure (izo c),.pure (gzm d)] [] (fun r=>.pure (.bool r)) (fun _=>[])
noncomputable def mz1 (c:azd)(d:A9)(e:cz5):T Bool:=
 .cc (mz2 (⟨c.Robot,c.Shapes,c.Skips⟩:azd) d) fun f=>
 .br f.2
 (.cc (qzb (⟨e.normals⟩:cz5) (⟨f.1.shapes,f.1.pairs,f.1.points⟩:bzb)) fun g=>
 .ret g)
 (.ret false)
noncomputable def uzy (c)(d)(e):=
 mkD Tryz.func175 (mz1 c d e) 0 [.pure (cz6 c),.pure (encL 2 az7 d),.iface 274 (.pure (izo e))] [] (fun r=>.pure (.bool r)) (fun _=>[])
noncomputable def gzx (c:azd)(d:A9)(e:Ax):T Bool:=
 .cc (uzy (⟨c.Robot,c.Shapes,c.Skips⟩:azd) d (⟨e⟩:cz5)) fun f=>
 .ret f
noncomputable def nz3 (c)(d)(e):=
 mkC [⟨209,Yz4⟩] hd Tryz.func169 (by kernel_rfl) (gzx c d e) 0 [.pure (cz6 c),.pure (encL 2 az7 d),.pure (encL 3 az3 e)] [] (fun r=>.pure (.bool r)) (fun _=>[]) (by kernel_rfl)
noncomputable def jzf (c:azz):T Ah:=let d:=encL 3 azx c.pieces;let e:=(c.pieces.length:Int);let f:Nat×Res:=(0,.box [.pure (encL 12 az9 c.scene.Robot.Joints),.pure (encL 5 aze c.scene.Robot.Masses),.pure (encL 3 azj c.scene.Shapes),.pure (encL 2 azw c.scene.Skips),.pure (encL 1 az1 c.p),.pure (encL 1 az1 c.q),.pure d]);.loop (fun (g:Int)=>⟨[(1,.ptr 0 0),(9,.pure d),(10,pz e),(11,pz g)],[f],[],1⟩)
 (.exit 0) (fun (_:U0)=>⟨[],[],[],0⟩)
 (fun g=>let h:=c.pieces.getD (g.toNat) default;.br (decide (g<e))
 (.gh g c.pieces.length<|
 .cc (qzm c.p c.q (h.Depth) (h.Index)) fun i=>
 .cut 0 (fun (j:Bool)=>⟨[(1,.ptr 0 0),(4,pz g),(9,.pure d),(10,pz e),(11,pz g),(38,.pure (.bool j))],[f],[],1⟩)
 (.br (!i.2)
 (.oo true)
 (.cc (nz3 c.scene i.1 (h.Normals)) fun j=>
 .oo (!j))) fun j=>
 .br j
 (.ff (g,2002))
 (.nn (i64.wrap (g+1))))
 (.oo .u))
 0 [] fun _=>
 .ret (0,0)
noncomputable def qz7 (c):=
 mkD Tryz.func118 (jzf c) 0 [.pure (fz5 c)] [] (fun r=>.tup [pz r.1,pz r.2]) (fun _=>[])
open Go.Proofs
noncomputable def kza (c:azd)(d:A0)(e:A0)(f:Af):T Ah:=let g:=(⟨(⟨c.Robot,c.Shapes,c.Skips⟩:azd),d,e,f⟩:azz);.unroll 5<|
 .known true<|
 .gh (0:Int) 4<|
 .cc (lzb g) fun h=>
 .br (h.2 !=0)
 (.ret (h.1,h.2))
 (.lit 9000 (1)<|
 .known true<|
 .gh (1:Int) 4<|
 .cc (jze g) fun i=>
 .br (i.2 !=0)
 (.ret (i.1,i.2))
 (.lit 9000 (2)<|
 .known true<|
 .gh (2:Int) 4<|
 .cc (xzs g) fun j=>
 .br (j.2 !=0)
 (.ret (j.1,j.2))
 (.lit 9000 (3)<|
 .known true<|
 .gh (3:Int) 4<|
 .cc (qz7 g) fun k=>
 .br (k.2 !=0)
 (.ret (k.1,k.2))
 (.lit 9000 (4)<|
 .known false<|
 .ret (0,0)))))
noncomputable def sz9 (c)(d)(e)(f):=
 mkC [⟨114,Xzz⟩] hd Tryz.func74 (by kernel_rfl) (kza c d e f) 0 [.pure (cz6 c),.pure (encL 1 az1 d),.pure (encL 1 az1 e),.pure (encL 3 azx f)] [] (fun r=>.tup [pz r.1,pz r.2]) (fun _=>[]) (by kernel_rfl)
set_option maxHeartbeats 8000000 in
set_option maxRecDepth 20000 in
noncomputable def pzb (c:B0)(d:A0):T (Az×Int×Bool):=let e:=encL 6 az2 c;let f:=encL 1 az1 d;let g:=(d.length:Int);.cut 2 (fun (h:Bool)=>⟨[(0,.pure e),(1,.pure f),(4,.ptr 0 0),(22,.pure (.bool h))],[(0,.box [pz 0,pz 0,pz 0,pz 0,pz 0,pz 0])],[],1⟩)
 (.cc (hzd c) fun h=>
 .br (!h)
 (.oo true)
 (.oo (g !=(c.length:Int)))) fun h=>
 .br h
 (.ret (((⟨0,0⟩:az0),(⟨0,0⟩:az0),(⟨0,0⟩:az0)),0,false))
 (.loop (fun (i:(Int×Int×Int×Int×Int×Int×Int×Int))=>⟨[(0,.pure e),(4,.ptr 0 0),(7,.ptr 1 0),(8,pz i.2.2.2.2.2.2.1),(24,.pure f),(25,pz g),(26,pz i.2.2.2.2.2.2.2)],[(0,.box [pz 0,pz 0,pz 0,pz 0,pz 0,pz 0]),(1,.box [pz i.1,pz i.2.1,pz i.2.2.1,pz i.2.2.2.1,pz i.2.2.2.2.1,pz i.2.2.2.2.2.1])],[],2⟩)
 (.exit 0) (fun (i:Bf)=>⟨[(4,.ptr 0 0),(7,.ptr 1 0),(8,pz i.2.2.2.2.2.2)],[(0,.box [pz 0,pz 0,pz 0,pz 0,pz 0,pz 0]),(1,.box [pz i.1,pz i.2.1,pz i.2.2.1,pz i.2.2.2.1,pz i.2.2.2.2.1,pz i.2.2.2.2.2.1])],[],2⟩)
 (fun i=>let j:=(i.2.2.2.2.2.2.2).toNat;let k:=d.getD j default;let l:=c.getD j default;.br (decide (i.2.2.2.2.2.2.2<g))
 (.gh i.2.2.2.2.2.2.2 d.length<|
 .cut 1 (fun (m:Bool)=>⟨[(0,.pure e),(4,.ptr 0 0),(7,.ptr 1 0),(8,pz i.2.2.2.2.2.2.1),(9,pz i.2.2.2.2.2.2.2),(10,pz k),(24,.pure f),(25,pz g),(26,pz i.2.2.2.2.2.2.2),(36,.pure (.bool m))],[(0,.box [pz 0,pz 0,pz 0,pz 0,pz 0,pz 0]),(1,.box [pz i.1,pz i.2.1,pz i.2.2.1,pz i.2.2.2.1,pz i.2.2.2.2.1,pz i.2.2.2.2.2.1])],[],2⟩)
 (.br (decide (k<0))
 (.oo true)
 (.oo (decide (k>65536)))) fun m=>
 .br m
 (.ff (((⟨0,0⟩:az0),(⟨0,0⟩:az0),(⟨0,0⟩:az0)),0,false))
 (.gh i.2.2.2.2.2.2.2 c.length<|
 .unroll 4<|
 .known true<|
 .ix 0 3 rfl<|
 .ix 0 3 rfl<|
 .name 14007 ((i64.wrap (k * (l.1.Lo)))) fun n=>
 .name 14008 ((i64.wrap (i.1+n))) fun s=>
 .ix 0 3 rfl<|
 .ix 0 3 rfl<|
 .name 15007 ((i64.wrap (k * (l.1.Hi)))) fun t=>
 .name 15008 ((i64.wrap (i.2.1+t))) fun w=>
 .ix 0 3 rfl<|
 .lit 16000 (1)<|
 .known true<|
 .ix 1 3 rfl<|
 .ix 1 3 rfl<|
 .name 14007 ((i64.wrap (k * (l.2.1.Lo)))) fun y=>
 .name 14008 ((i64.wrap (i.2.2.1+y))) fun z=>
 .ix 1 3 rfl<|
 .ix 1 3 rfl<|
 .name 15007 ((i64.wrap (k * (l.2.1.Hi)))) fun aa=>
 .name 15008 ((i64.wrap (i.2.2.2.1+aa))) fun ab=>
 .ix 1 3 rfl<|
 .lit 16000 (2)<|
 .known true<|
 .ix 2 3 rfl<|
 .ix 2 3 rfl<|
 .name 14007 ((i64.wrap (k * (l.2.2.Lo)))) fun ac=>
 .name 14008 ((i64.wrap (i.2.2.2.2.1+ac))) fun ad=>
 .ix 2 3 rfl<|
 .ix 2 3 rfl<|
 .name 15007 ((i64.wrap (k * (l.2.2.Hi)))) fun ae=>
 .name 15008 ((i64.wrap (i.2.2.2.2.2.1+ae))) fun af=>
 .ix 2 3 rfl<|
 .lit 16000 (3)<|
 .known false<|
 .nn (s,w,z,ab,ad,af,(i64.wrap (i.2.2.2.2.2.2.1+k)),(i64.wrap (i.2.2.2.2.2.2.2+1)))))
 (.oo (i.1,i.2.1,i.2.2.1,i.2.2.2.1,i.2.2.2.2.1,i.2.2.2.2.2.1,i.2.2.2.2.2.2.1)))
 (0,0,0,0,0,0,0,0) [] fun i=>
 .cut 1 (fun (j:Bool)=>⟨[(4,.ptr 0 0),(7,.ptr 1 0),(8,pz i.2.2.2.2.2.2),(78,.pure (.bool j))],[(0,.box [pz 0,pz 0,pz 0,pz 0,pz 0,pz 0]),(1,.box [pz i.1,pz i.2.1,pz i.2.2.1,pz i.2.2.2.1,pz i.2.2.2.2.1,pz i.2.2.2.2.2.1])],[],2⟩)
 (.br (decide (i.2.2.2.2.2.2<1))
 (.oo true)
 (.oo (decide (i.2.2.2.2.2.2>65536)))) fun j=>
 .br j
 (.ret (((⟨0,0⟩:az0),(⟨0,0⟩:az0),(⟨0,0⟩:az0)),0,false))
 (.ret (((⟨i.1,i.2.1⟩:az0),(⟨i.2.2.1,i.2.2.2.1⟩:az0),(⟨i.2.2.2.2.1,i.2.2.2.2.2.1⟩:az0)),i.2.2.2.2.2.2,true)))
noncomputable def pza (c)(d):=
 mkD Tryz.func350 (pzb c d) 0 [.pure (encL 6 az2 c),.pure (encL 1 az1 d)] [] (fun r=>.tup [.pure (az2 r.1),pz r.2.1,.pure (.bool r.2.2)]) (fun _=>[])
noncomputable def jz4 (c:Int):T Bool:=
 .br (decide (c≥0))
 (.ret (decide (c≤1048576)))
 (.ret false)
noncomputable def jz3 (c):=
 mkD Tryz.func351 (jz4 c) 0 [pz c] [] (fun r=>.pure (.bool r)) (fun _=>[])
noncomputable def jz2 (c:A0):T Int:=let d:=(c.length:Nat);.loop (fun (e:Ah)=>⟨[(3,pz e.1),(6,.pure (encL 1 az1 c)),(7,pz (d:Int)),(8,pz e.2)],[],[],0⟩)
 (.exit 0) (fun (e:Int)=>⟨[(3,pz e)],[],[],0⟩)
 (fun e=>let f:=c.getD ((e.2).toNat) default;.br (decide (e.2<(d:Int)))
 (.gh e.2 c.length<|
 .nn ((max (max e.1 f) (i64.wrap (0-f))),(i64.wrap (e.2+1))))
 (.oo e.1))
 (0,0) [] fun e=>
 .ret e
noncomputable def fzz (c):=
 mkD Tryz.func352 (jz2 c) 0 [.pure (encL 1 az1 c)] [] (fun r=>pz r) (fun _=>[])
noncomputable def mzh (c:A0)(d:A0)(e:B0)(f:Int)(g:B0)(h:Int):T Am:=let i:=i64.wrap (f+h);.cc (pza e c) fun j=>
 .cc (pza g d) fun k=>let l:=([(i64.wrap (j.1.1.Lo-k.1.1.Hi)),(i64.wrap (j.1.1.Hi-k.1.1.Lo))]:A0);let m:=([(i64.wrap (j.1.2.1.Lo-k.1.2.1.Hi)),(i64.wrap (j.1.2.1.Hi-k.1.2.1.Lo))]:A0);let n:=([(i64.wrap (j.1.2.2.Lo-k.1.2.2.Hi)),(i64.wrap (j.1.2.2.Hi-k.1.2.2.Lo))]:A0);
 .cut 1 (fun (s:Bool)=>⟨[(3,pz f),(5,pz h),(12,.ptr 0 0),(13,.ptr 1 0),(14,.ptr 2 0),(15,pz j.2.1),(17,.ptr 3 0),(59,.pure (.bool s))],[(0,.box [pz 0]),(1,.box [.ff]),(2,.box [pz j.1.1.Lo,pz j.1.1.Hi,pz j.1.2.1.Lo,pz j.1.2.1.Hi,pz j.1.2.2.Lo,pz j.1.2.2.Hi]),(3,.box [pz k.1.1.Lo,pz k.1.1.Hi,pz k.1.2.1.Lo,pz k.1.2.1.Hi,pz k.1.2.2.Lo,pz k.1.2.2.Hi])],[.func 349 [] [.ptr 0 0,.ptr 1 0]],4⟩)
 (.br (!j.2.2)
 (.oo true)
 (.br (!k.2.2)
 (.oo true)
 (.br (j.2.1 !=k.2.1)
 (.oo true)
 (.cc (jz3 f) fun s=>
 .br (!s)
 (.oo true)
 (.cc (jz3 h) fun t=>
 .oo (!t)))))) fun s=>
 .br s
 (.ret (0,false))
 (.unroll 4<|
 .known true<|
 .ix 0 3 rfl<|
 .ix 0 3 rfl<|
 .ix 0 3 rfl<|
 .ix 0 3 rfl<|
 .conv 11018 (czk 1 az1 l 2)<|
 .cc (fzz l) fun t=>let w:=i64.wrap ((i64.wrap ((i64.wrap (t+j.2.1))-1)).tdiv j.2.1);
 .grd (j.2.1≠0)<|
 .br (decide (w>i))
 (.ret ((-1),true))
 (.name 15003 ((i64.wrap (w * w))) fun y=>
 .name 15004 ((i64.wrap ((i64.wrap (i * i))-y))) fun z=>
 .lit 16000 (1)<|
 .known true<|
 .ix 1 3 rfl<|
 .ix 1 3 rfl<|
 .ix 1 3 rfl<|
 .ix 1 3 rfl<|
 .conv 11018 (czk 1 az1 m 2)<|
 .cc (fzz m) fun aa=>let ab:=i64.wrap ((i64.wrap ((i64.wrap (aa+j.2.1))-1)).tdiv j.2.1);
 .grd (j.2.1≠0)<|
 .br (decide (ab>i))
 (.ret ((-1),true))
 (.name 15003 ((i64.wrap (ab * ab))) fun ac=>
 .name 15004 ((i64.wrap (z-ac))) fun ad=>
 .lit 16000 (2)<|
 .known true<|
 .ix 2 3 rfl<|
 .ix 2 3 rfl<|
 .ix 2 3 rfl<|
 .ix 2 3 rfl<|
 .conv 11018 (czk 1 az1 n 2)<|
 .cc (fzz n) fun ae=>let af:=i64.wrap ((i64.wrap ((i64.wrap (ae+j.2.1))-1)).tdiv j.2.1);
 .grd (j.2.1≠0)<|
 .br (decide (af>i))
 (.ret ((-1),true))
 (.name 15003 ((i64.wrap (af * af))) fun ag=>
 .name 15004 ((i64.wrap (ad-ag))) fun ah=>
 .lit 16000 (3)<|
 .known false<|
 .ret (ah,true)))))
noncomputable def vzb (c)(d)(e)(f)(g)(h):=
 mkC [⟨349,Yz7⟩] hd Tryz.func348 (by kernel_rfl) (mzh c d e f g h) 0 [.pure (encL 1 az1 c),.pure (encL 1 az1 d),.pure (encL 6 az2 e),pz f,.pure (encL 6 az2 g),pz h] [] (fun r=>.tup [pz r.1,.pure (.bool r.2)]) (fun _=>[]) (by kernel_rfl)
noncomputable def jz1 (c:A0)(d:A0)(e:B0)(f:Int)(g:B0)(h:Int):T Bool:=
 .cc (vzb c d e f g h) fun i=>
 .br i.2
 (.ret (decide (i.1≥0)))
 (.ret false)
noncomputable def jz0 (c)(d)(e)(f)(g)(h):=
 mkC [⟨347,Yz6⟩] hd Tryz.func346 (by kernel_rfl) (jz1 c d e f g h) 0 [.pure (encL 1 az1 c),.pure (encL 1 az1 d),.pure (encL 6 az2 e),pz f,.pure (encL 6 az2 g),pz h] [] (fun r=>.pure (.bool r)) (fun _=>[]) (by kernel_rfl)
noncomputable def kz5 (c:czd)(d:bzb):T Bool:=
 .cut 3 (fun (e:Bool)=>⟨[(3,.ptr 0 0),(5,.ptr 1 0),(19,.pure (.bool e))],[(0,.box [.pure (encL 3 azj d.shapes),.pure (encL 2 dzi d.pairs),.pure (encL 1 (encL 6 az2) d.points)]),(1,.box [pz c.witness.Pair,.pure (encL 1 az1 c.witness.Left),.pure (encL 1 az1 c.witness.Right)])],[],2⟩)
 (.br (decide (c.witness.Pair<0))
 (.oo true)
 (.oo (decide (c.witness.Pair≥(d.pairs.length:Int))))) fun e=>
 .br e
 (.ret false)
 (.cc (nz9 d c.witness.Pair) fun f=>
 .cc (jz0 c.witness.Left c.witness.Right f.a f.ra f.b f.rb) fun g=>
 .ret g)
noncomputable def sz5 (c)(d):=
 mkD Tryz.func344 (kz5 c d) 0 [.pure (kz0 c),.pure (gzm d)] [] (fun r=>.pure (.bool r)) (fun _=>[])
noncomputable def izl (c:azd)(d:A9)(e:czd):T Bool:=
 .cc (mz2 c d) fun f=>
 .br f.2
 (.cc (sz5 (⟨e.witness⟩:czd) (⟨f.1.shapes,f.1.pairs,f.1.points⟩:bzb)) fun g=>
 .ret g)
 (.ret false)
noncomputable def pzm (c)(d)(e):=
 mkD Tryz.func175 (izl c d e) 0 [.pure (cz6 c),.pure (encL 2 az7 d),.iface 245 (.pure (kz0 e))] [] (fun r=>.pure (.bool r)) (fun _=>[])
noncomputable def fz0 (c:azd)(d:A9)(e:azu):T Bool:=
 .cc (pzm (⟨c.Robot,c.Shapes,c.Skips⟩:azd) d (⟨(⟨e.Pair,e.Left,e.Right⟩:azu)⟩:czd)) fun f=>
 .ret f
noncomputable def hz2 (c)(d)(e):=
 mkC [⟨174,Yz3⟩] hd Tryz.func121 (by kernel_rfl) (fz0 c d e) 0 [.pure (cz6 c),.pure (encL 2 az7 d),.pure (Azk e)] [] (fun r=>.pure (.bool r)) (fun _=>[]) (by kernel_rfl)
noncomputable def hzt (c:azd)(d:A0)(e:A0)(f:azh)(g:azu):T Bool:=let h:=(⟨c,d,e,nl⟩:azz);.unroll 3<|
 .known true<|
 .gh (0:Int) 2<|
 .cc (lzb h) fun i=>
 .br (i.2 !=0)
 (.ret false)
 (.lit 9000 (1)<|
 .known true<|
 .gh (1:Int) 2<|
 .cc (jze h) fun j=>
 .br (j.2 !=0)
 (.ret false)
 (.lit 9000 (2)<|
 .known false<|
 .cc (qzm d e f.Depth f.Index) fun k=>
 .br k.2
 (.br ((f.Normals.length:Int)==0)
 (.cc (hz2 (⟨c.Robot,c.Shapes,c.Skips⟩:azd) k.1 (⟨g.Pair,g.Left,g.Right⟩:azu)) fun l=>
 .ret l)
 (.ret false))
 (.ret false)))
noncomputable def oz8 (c)(d)(e)(f)(g):=
 mkC [⟨119,Yz0⟩] hd Tryz.func75 (by kernel_rfl) (hzt c d e f g) 0 [.pure (cz6 c),.pure (encL 1 az1 d),.pure (encL 1 az1 e),.pure (azx f),.pure (Azk g)] [] (fun r=>.pure (.bool r)) (fun _=>[]) (by kernel_rfl)
noncomputable def hzq (c:azd)(d:A0)(e:A0)(f:azg):T Bool:=let g:=(⟨c.Robot,c.Shapes,c.Skips⟩:azd);.br (f.Kind==1)
 (.cc (oz9 f.At f.Witness) fun h=>
 .br (!h)
 (.ret false)
 (.cc (sz9 g d e f.Pieces) fun i=>
 .ret (i.2==0)))
 (.br (f.Kind==2)
 (.br ((f.Pieces.length:Int)==0)
 (.cc (oz8 g d e f.At f.Witness) fun h=>
 .ret h)
 (.ret false))
 (.ret false))
noncomputable def oz7 (c)(d)(e)(f):=
 mkC [⟨72,az0y⟩] hd Tryz.func34 (by kernel_rfl) (hzq c d e f) 0 [.pure (cz6 c),.pure (encL 1 az1 d),.pure (encL 1 az1 e),.pure (ezc f)] [] (fun r=>.pure (.bool r)) (fun _=>[]) (by kernel_rfl)
noncomputable def pz1 (c:azd)(d:azk):T Bool:=let e:=encL 12 az6 d.Edges;let f:=(d.Edges.length:Int);let g:Nat×Res:=(1,.box [.pure (encL 1 (encL 1 az1) d.Points),.pure e]);let h:Nat×Res:=(0,.box [.pure (encL 12 az9 c.Robot.Joints),.pure (encL 5 aze c.Robot.Masses),.pure (encL 3 azj c.Shapes),.pure (encL 2 azw c.Skips)]);.cc (pz2 c.Robot d) fun i=>
 .br (!i)
 (.ret false)
 (.loop (fun (j:Int)=>⟨[(2,.ptr 0 0),(3,.ptr 1 0),(4,.ptr 2 0),(14,.pure e),(15,pz f),(16,pz j)],[h,g,(2,.box [.ff])],[.func 33 [] [.ptr 2 0]],3⟩)
 (.exit 0) (fun (_:U0)=>⟨[(4,.ptr 0 0)],[(0,.box [.ff])],[.func 33 [] [.ptr 0 0]],1⟩)
 (fun j=>let k:=d.Edges.getD (j.toNat) default;let l:=k.State;.br (decide (j<f))
 (.cut 0 (fun (_:U0)=>⟨[(2,.ptr 0 0),(3,.ptr 1 0),(4,.ptr 2 0),(14,.pure e),(15,pz f),(16,pz j)],[h,g,(2,.box [.ff])],[.func 33 [] [.ptr 2 0]],3⟩)
 (.gh j d.Edges.length<|
 .cut 1 (fun (m:Bool)=>⟨[(2,.ptr 0 0),(3,.ptr 1 0),(4,.ptr 2 0),(6,.ptr 3 0),(14,.pure e),(15,pz f),(16,pz j),(27,.pure (.bool m))],[h,g,(2,.box [.ff]),(3,.box [pz (k.U),pz (k.V),pz (k.Cost),pz l,pz (k.Proof.Kind),.pure (encL 3 azx (k.Proof.Pieces)),pz (k.Proof.At.Depth),pz (k.Proof.At.Index),.pure (encL 3 az3 (k.Proof.At.Normals)),pz (k.Proof.Witness.Pair),.pure (encL 1 az1 (k.Proof.Witness.Left)),.pure (encL 1 az1 (k.Proof.Witness.Right))])],[.func 33 [] [.ptr 2 0]],4⟩)
 (.br (l !=1)
 (.oo (l !=2))
 (.oo false)) fun m=>
 .br m
 (.oo .u)
 (.gh (k.U) d.Points.length<|
 .gh (k.V) d.Points.length<|
 .call (oz7 (⟨c.Robot,c.Shapes,c.Skips⟩:azd) (d.Points.getD ((k.U).toNat) default) (d.Points.getD ((k.V).toNat) default) (k.Proof)) [] fun n=>
 .br (!n)
 (.ff (.fin false))
 (.oo .u))) fun _=>
 .nn (i64.wrap (j+1)))
 (.oo .u))
 0 [] fun _=>
 .ret true)
noncomputable def ezj (c)(d):=
 mkC [⟨33,az0t⟩] hd Tryz.func11 (by kernel_rfl) (pz1 c d) 0 [.pure (cz6 c),.pure (czq d)] [] (fun r=>.pure (.bool r)) (fun _=>[]) (by kernel_rfl)
noncomputable def gza (c:A0)(d:A0)(e:Int):T Bool:=
 .cc (wzq c) fun f=>let g:=(⟨f.Robot,f.Shapes,f.Skips⟩:azd);let h:Nat×Res:=(0,.box [.pure (encL 12 az9 f.Robot.Joints),.pure (encL 5 aze f.Robot.Masses),.pure (encL 3 azj f.Shapes),.pure (encL 2 azw f.Skips)]);
 .cc (qzv g d) fun i=>let j:=(i.Edges.length:Nat);let k:Nat×Res:=(1,.box [.pure (encL 1 (encL 1 az1) i.Points),.pure (encL 12 az6 i.Edges)]);let l:=(⟨i.Points,i.Edges⟩:azk);
 .br ((j:Int)==0)
 (.cc (law25_awake_C) fun m=>
 .ret m)
 (.cc (pzv e (j:Int)) fun m=>let n:=i.Edges.getD (m.toNat) default;
 .gh m i.Edges.length<|
 .gh (n.U) i.Points.length<|
 .gh (n.V) i.Points.length<|
 .call (gzs g (i.Points.getD ((n.U).toNat) default) (i.Points.getD ((n.V).toNat) default) 3) [] fun s=>
 .cc (hzb l m s) fun t=>let w:=(⟨t.1,t.2.1⟩:azk);
 .cut 1 (fun (y:Bool)=>⟨[(7,.ptr 0 0),(8,.ptr 1 0),(9,pz m),(11,.ptr 2 0),(12,.ptr 3 0),(13,.pure (.bool t.2.2)),(67,.pure (.bool y))],[h,k,(2,.box [pz s.Kind,.pure (encL 3 azx s.Pieces),pz s.At.Depth,pz s.At.Index,.pure (encL 3 az3 s.At.Normals),pz s.Witness.Pair,.pure (encL 1 az1 s.Witness.Left),.pure (encL 1 az1 s.Witness.Right)]),(3,.box [.vec 4,.vec 5]),(4,vecO 1 (encL 1 az1) t.1 43),(5,vecO 12 az6 t.2.1 49)],[],6⟩)
 (.br ((n.State)==0)
 (.oo (!(t.2.2==true)))
 (.oo (!(t.2.2==((n.State)==3))))) fun y=>
 .br y
 (.ret false)
 (.cut 1 (fun (z:(Int×Af×Int×Int×Ax×Int×A0×A0))=>⟨[(7,.ptr 0 0),(8,.ptr 1 0),(9,pz m),(12,.ptr 2 0),(13,.pure (.bool t.2.2)),(14,.ptr 5 0)],[h,k,(2,.box [.vec 3,.vec 4]),(3,vecO 1 (encL 1 az1) t.1 43),(4,vecO 12 az6 t.2.1 49),(5,.box [pz z.1,.pure (encL 3 azx z.2.1),pz z.2.2.1,pz z.2.2.2.1,.pure (encL 3 az3 z.2.2.2.2.1),pz z.2.2.2.2.2.1,.pure (encL 1 az1 z.2.2.2.2.2.2.1),.pure (encL 1 az1 z.2.2.2.2.2.2.2)])],[],6⟩)
 (.br (s.Kind==1)
 (.cc (lzj 2) fun z=>
 .oo (z.Kind,z.Pieces,z.At.Depth,z.At.Index,z.At.Normals,z.Witness.Pair,z.Witness.Left,z.Witness.Right))
 (.br (s.Kind==2)
 (.cc (lzj 1) fun z=>
 .oo (z.Kind,z.Pieces,z.At.Depth,z.At.Index,z.At.Normals,z.Witness.Pair,z.Witness.Left,z.Witness.Right))
 (.cc (law25_awake_C) fun z=>
 .br z
 (.cc (ezj g w) fun aa=>
 .ff aa)
 (.ff false)))) fun z=>
 .cc (hzb l m (⟨z.1,z.2.1,(⟨z.2.2.1,z.2.2.2.1,z.2.2.2.2.1⟩:azh),(⟨z.2.2.2.2.2.1,z.2.2.2.2.2.2.1,z.2.2.2.2.2.2.2⟩:azu)⟩:azg)) fun aa=>
 .cc (law25_awake_C) fun ab=>
 .br ab
 (.cc (ezj g w) fun ac=>
 .br ac
 (.br (t.2.2==aa.2.2)
 (.br (!aa.2.2)
 (.ret true)
 (.cc (ezj g (⟨aa.1,aa.2.1⟩:azk)) fun ad=>
 .ret (!ad)))
 (.ret false))
 (.ret false))
 (.ret false)))
noncomputable def dz1 (c)(d)(e):=
 mkD Tryz.func3 (gza c d e) 0 [.pure (encL 1 az1 c),.pure (encL 1 az1 d),pz e] [] (fun r=>.pure (.bool r)) (fun _=>[])
end Go.Abs
