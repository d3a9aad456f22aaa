/-
  D4 (a part of a claim: our own text).
-/
import Derived.Test.YtkbjjlfpbebiaaaGreatDoorYKD3
namespace Go.Abs
open IntKind (i64)
open Go.Proofs
noncomputable def jzq (c:Az)(d:Nat)(e:Nat)(f:Int)(g:Int)(h:Int):T Az:=
 .loop (fun (i:B0)=>⟨[(0,.view 0 2 d e),(2,pz g),(3,pz h),(4,.func 321 [] []),(10,pz i.2)],[(0,vecO 2 az4 i.1 367)],[],1⟩)
 (.exit 0) (fun (i:Az)=>⟨[],[(0,vecO 2 az4 i 367)],[],1⟩)
 (fun i=>let j:=i64.wrap ((i64.wrap (2 * i.2))+1);let k:=i64.wrap (h+j);let m:=d+(k.toNat);let n:=i64.wrap (k+1);let s:=d+(n.toNat);let t:=i64.wrap (h+i.2);let w:=d+(t.toNat);let y:=i.1.getD w default;let z:=i64.wrap (j+1);.br (decide (j≥g))
 (.oo i.1)
 (.cut 0 (fun (aa:Int)=>⟨[(0,.view 0 2 d e),(2,pz g),(3,pz h),(4,.func 321 [] []),(10,pz i.2),(11,pz aa)],[(0,vecO 2 az4 i.1 367)],[],1⟩)
 (.cut 0 (fun (aa:Bool)=>⟨[(0,.view 0 2 d e),(2,pz g),(3,pz h),(4,.func 321 [] []),(10,pz i.2),(11,pz j),(40,.pure (.bool aa))],[(0,vecO 2 az4 i.1 367)],[],1⟩)
 (.br (decide (z<g))
 (.gh k e<|
 .grd (m<i.1.length)<|
 .gh n e<|
 .grd (s<i.1.length)<|
 .call (bz4 (i.1.getD m default) (i.1.getD s default)) [] fun aa=>
 .oo (decide (aa<0)))
 (.oo false)) fun aa=>
 .br aa
 (.oo z)
 (.oo j)) fun aa=>let ab:=i64.wrap (h+aa);let ac:=d+(ab.toNat);let ad:=i.1.getD ac default;let ae:=i.1.set w ad;
 .gh t e<|
 .grd (w<i.1.length)<|
 .gh ab e<|
 .grd (ac<i.1.length)<|
 .call (bz4 y ad) [] fun af=>
 .br (!(decide (af<0)))
 (.ff i.1)
 (.gh ab e<|
 .grd (ac<i.1.length)<|
 .gh t e<|
 .grd (w<i.1.length)<|
 .gh t e<|
 .conv 6021 (bze 2 az4 i.1 367 w ad)<|
 .grd (w<i.1.length/\0≤w)<|
 .gh ab e<|
 .conv 6023 (bze 2 az4 ae 367 ac y)<|
 .grd (ac<ae.length/\0≤ac)<|
 .nn ((ae.set ac y),aa))))
 (c,f) [] fun i=>
 .ret i
noncomputable def fz1 (c)(d)(e)(f)(g)(h):=
 mkD Tryz.func449 (jzq c d e f g h) 1 [.view 0 2 d e,pz f,pz g,pz h,.func 321 [] []] [(0,vecO 2 az4 c 367)] (fun _=>.tup []) (fun r=>[(0,vecO 2 az4 r 367)])
noncomputable def jzp (c:Az)(d:Nat)(e:Nat)(f:Int)(g:Int):T Az:=let h:=d+(f.toNat);let i:=i64.wrap (g-f);let j:=i64.wrap (i-1);.ok ((2:Int)≠0) (by decide)<|
 .loop (fun (k:B0)=>⟨[(0,.view 0 2 d e),(3,.func 321 [] []),(8,pz f),(9,pz 0),(10,pz i),(11,pz k.2)],[(0,vecO 2 az4 k.1 367)],[],1⟩)
 (.exit 0) (fun (k:Az)=>⟨[(0,.view 0 2 d e),(3,.func 321 [] []),(8,pz f),(9,pz 0),(10,pz i)],[(0,vecO 2 az4 k 367)],[],1⟩)
 (fun k=>.br (decide (k.2≥0))
 (.call (fz1 k.1 d e k.2 i f) [(0,0)] fun m=>
 .nn (m,(i64.wrap (k.2-1))))
 (.oo k.1))
 (c,(i64.wrap (j.tdiv 2))) [] fun k=>
 .loop (fun (m:B0)=>⟨[(0,.view 0 2 d e),(3,.func 321 [] []),(8,pz f),(9,pz 0),(12,pz m.2)],[(0,vecO 2 az4 m.1 367)],[],1⟩)
 (.exit 2) (fun (m:Az)=>⟨[],[(0,vecO 2 az4 m 367)],[],1⟩)
 (fun m=>let n:=i64.wrap (f+m.2);let s:=d+(n.toNat);let t:=m.1.getD s default;let w:=m.1.set h t;let y:=m.1.getD h default;.br (decide (m.2≥0))
 (.gh n e<|
 .grd (s<m.1.length)<|
 .gh f e<|
 .grd (h<m.1.length)<|
 .gh f e<|
 .conv 10017 (bze 2 az4 m.1 367 h t)<|
 .grd (h<m.1.length/\0≤h)<|
 .gh n e<|
 .conv 10019 (bze 2 az4 w 367 s y)<|
 .grd (s<w.length/\0≤s)<|
 .call (fz1 (w.set s y) d e 0 m.2 f) [(0,0)] fun z=>
 .nn (z,(i64.wrap (m.2-1))))
 (.oo m.1))
 (k,j) [] fun m=>
 .ret m
noncomputable def jzo (c)(d)(e)(f)(g):=
 mkD Tryz.func413 (jzp c d e f g) 1 [.view 0 2 d e,pz f,pz g,.func 321 [] []] [(0,vecO 2 az4 c 367)] (fun _=>.tup []) (fun r=>[(0,vecO 2 az4 r 367)])
noncomputable def kzs (c:Az)(d:Nat)(e:Nat)(f:Int)(g:Int)(h:Int):T Bg:=let i:=d+(g.toNat);let j:=d+(f.toNat);.gh g e<|
 .grd (i<c.length)<|
 .gh f e<|
 .grd (j<c.length)<|
 .cc (bz4 (c.getD i default) (c.getD j default)) fun k=>
 .br (decide (k<0))
 (.ret (g,f,(i64.wrap (h+1))))
 (.ret (f,g,h))
noncomputable def dzs (c)(d)(e)(f)(g)(h):=
 mkD Tryz.func463 (kzs c d e f g h) 2 [.view 0 2 d e,pz f,pz g,.ptr 1 0,.func 321 [] []] [(0,vecO 2 az4 c 367),(1,.box [pz h])] (fun r=>.tup [pz r.1,pz r.2.1]) (fun r=>[(0,vecO 2 az4 c 367),(1,.box [pz r.2.2])])
noncomputable def kzr (c:Az)(d:Nat)(e:Nat)(f:Int)(g:Int)(h:Int)(i:Int):T Ay:=
 .call (dzs c d e f g i) [(0,0),(1,1)] fun j=>
 .call (dzs c d e j.2.1 h j.2.2) [(0,0),(1,1)] fun k=>
 .call (dzs c d e j.1 k.1 k.2.2) [(0,0),(1,1)] fun m=>
 .ret (m.2.1,m.2.2)
noncomputable def fzi (c)(d)(e)(f)(g)(h)(i):=
 mkD Tryz.func453 (kzr c d e f g h i) 2 [.view 0 2 d e,pz f,pz g,pz h,.ptr 1 0,.func 321 [] []] [(0,vecO 2 az4 c 367),(1,.box [pz i])] (fun r=>pz r.1) (fun r=>[(0,vecO 2 az4 c 367),(1,.box [pz r.2])])
noncomputable def gzq (c:Az)(d:Nat)(e:Nat)(f:Int)(g:Int):T Ay:=
 .call (fzi c d e (i64.wrap (f-1)) f (i64.wrap (f+1)) g) [(0,0),(1,1)] fun h=>
 .ret (h.1,h.2)
noncomputable def czs (c)(d)(e)(f)(g):=
 mkD Tryz.func452 (gzq c d e f g) 2 [.view 0 2 d e,pz f,.ptr 1 0,.func 321 [] []] [(0,vecO 2 az4 c 367),(1,.box [pz g])] (fun r=>pz r.1) (fun r=>[(0,vecO 2 az4 c 367),(1,.box [pz r.2])])
noncomputable def iza (c:Az)(d:Nat)(e:Nat)(f:Int)(g:Int):T Ay:=let h:=i64.wrap (g-f);let i:=i64.wrap (h.tdiv 4);let j:=i64.wrap (f+(i64.wrap (i * 2)));let k:=i64.wrap (f+(i64.wrap (i * 1)));let m:=i64.wrap (f+(i64.wrap (i * 3)));.ok ((4:Int)≠0) (by decide)<|
 .ok ((4:Int)≠0) (by decide)<|
 .ok ((4:Int)≠0) (by decide)<|
 .cut 0 (fun (n:Ay)=>⟨[(11,.ptr 1 0),(13,pz n.2)],[(0,vecO 2 az4 c 367),(1,.box [pz n.1])],[],2⟩)
 (.br (decide (h≥8))
 (.cut 0 (fun (n:C1)=>⟨[(0,.view 0 2 d e),(3,.func 321 [] []),(11,.ptr 1 0),(12,pz n.2.1),(13,pz n.2.2.1),(14,pz n.2.2.2)],[(0,vecO 2 az4 c 367),(1,.box [pz n.1])],[],2⟩)
 (.br (decide (h≥50))
 (.call (czs c d e k 0) [(0,0),(1,385)] fun n=>
 .call (czs c d e j n.2) [(0,0),(1,385)] fun s=>
 .call (czs c d e m s.2) [(0,0),(1,385)] fun t=>
 .oo (t.2,n.1,s.1,t.1))
 (.oo (0,k,j,m))) fun n=>
 .call (fzi c d e n.2.1 n.2.2.1 n.2.2.2 n.1) [(0,0),(1,1)] fun s=>
 .oo (s.2,s.1))
 (.oo (0,j))) fun n=>
 .br (n.1==0)
 (.ret (n.2,1))
 (.br (n.1==12)
 (.ret (n.2,2))
 (.ret (n.2,0)))
noncomputable def iz9 (c)(d)(e)(f)(g):=
 mkD Tryz.func415 (iza c d e f g) 1 [.view 0 2 d e,pz f,pz g,.func 321 [] []] [(0,vecO 2 az4 c 367)] (fun r=>.tup [pz r.1,pz r.2]) (fun _=>[(0,vecO 2 az4 c 367)])
noncomputable def hzk (c:Az)(d:Nat)(e:Nat)(f:Int)(g:Int):T Az:=
 .loop (fun (h:Be)=>⟨[(0,.view 0 2 d e),(8,pz h.2.1),(9,pz h.2.2)],[(0,vecO 2 az4 h.1 367)],[],1⟩)
 (.exit 0) (fun (h:Az)=>⟨[],[(0,vecO 2 az4 h 367)],[],1⟩)
 (fun h=>let i:=d+((h.2.2).toNat);let j:=d+((h.2.1).toNat);let k:=h.1.getD i default;let m:=h.1.set j k;let n:=h.1.getD j default;.br (decide (h.2.1<h.2.2))
 (.gh h.2.2 e<|
 .grd (i<h.1.length)<|
 .gh h.2.1 e<|
 .grd (j<h.1.length)<|
 .gh h.2.1 e<|
 .conv 3013 (bze 2 az4 h.1 367 j k)<|
 .grd (j<h.1.length/\0≤j)<|
 .gh h.2.2 e<|
 .conv 3015 (bze 2 az4 m 367 i n)<|
 .grd (i<m.length/\0≤i)<|
 .nn ((m.set i n),(i64.wrap (h.2.1+1)),(i64.wrap (h.2.2-1))))
 (.oo h.1))
 (c,f,(i64.wrap (g-1))) [] fun h=>
 .ret h
noncomputable def hzi (c)(d)(e)(f)(g):=
 mkD Tryz.func416 (hzk c d e f g) 1 [.view 0 2 d e,pz f,pz g,.func 321 [] []] [(0,vecO 2 az4 c 367)] (fun _=>.tup []) (fun r=>[(0,vecO 2 az4 r 367)])
set_option maxHeartbeats 8000000 in
set_option maxRecDepth 20000 in
noncomputable def fzb (c:Az)(d:Nat)(e:Nat)(f:Int)(g:Int):T (Bool×Az):=
 .loop (fun (h:Be)=>⟨[(0,.view 0 2 d e),(1,pz f),(2,pz g),(3,.func 321 [] []),(9,pz h.2.1),(10,pz h.2.2)],[(0,vecO 2 az4 h.1 367)],[],1⟩)
 (.exit 0) (fun (h:Az)=>⟨[],[(0,vecO 2 az4 h 367)],[],1⟩)
 (fun h=>.br (decide (h.2.2<5))
 (.cut 0 (fun (i:B0)=>⟨[(0,.view 0 2 d e),(1,pz f),(2,pz g),(3,.func 321 [] []),(9,pz i.2),(10,pz h.2.2)],[(0,vecO 2 az4 i.1 367)],[],1⟩)
 (.loop (fun (i:Int)=>⟨[(0,.view 0 2 d e),(1,pz f),(2,pz g),(3,.func 321 [] []),(9,pz i),(10,pz h.2.2)],[(0,vecO 2 az4 h.1 367)],[],1⟩)
 (.exit 2) (fun (i:Int)=>⟨[(0,.view 0 2 d e),(1,pz f),(2,pz g),(3,.func 321 [] []),(9,pz i),(10,pz h.2.2)],[(0,vecO 2 az4 h.1 367)],[],1⟩)
 (fun i=>let j:=d+(i.toNat);let k:=i64.wrap (i-1);let m:=d+(k.toNat);.cut 1 (fun (n:Bool)=>⟨[(0,.view 0 2 d e),(1,pz f),(2,pz g),(3,.func 321 [] []),(9,pz i),(10,pz h.2.2),(36,.pure (.bool n))],[(0,vecO 2 az4 h.1 367)],[],1⟩)
 (.br (decide (i<g))
 (.gh i e<|
 .grd (j<h.1.length)<|
 .gh k e<|
 .grd (m<h.1.length)<|
 .call (bz4 (h.1.getD j default) (h.1.getD m default)) [] fun n=>
 .oo (!(decide (n<0))))
 (.oo false)) fun n=>
 .br n
 (.nn (i64.wrap (i+1)))
 (.oo i))
 h.2.1 [] fun i=>let j:=d+(i.toNat);let k:=i64.wrap (i-1);let m:=d+(k.toNat);let n:=h.1.getD m default;let s:=h.1.set j n;let t:=h.1.getD j default;let w:=s.set m t;
 .br (i==g)
 (.ff (.fin (true,h.1)))
 (.br (decide ((i64.wrap (g-f))<50))
 (.ff (.fin (false,h.1)))
 (.gh k e<|
 .grd (m<h.1.length)<|
 .gh i e<|
 .grd (j<h.1.length)<|
 .gh i e<|
 .conv 11015 (bze 2 az4 h.1 367 j n)<|
 .grd (j<h.1.length/\0≤j)<|
 .gh k e<|
 .conv 11017 (bze 2 az4 s 367 m t)<|
 .grd (m<s.length/\0≤m)<|
 .cut 0 (fun (y:Az)=>⟨[(0,.view 0 2 d e),(1,pz f),(2,pz g),(3,.func 321 [] []),(9,pz i),(10,pz h.2.2)],[(0,vecO 2 az4 y 367)],[],1⟩)
 (.br (decide ((i64.wrap (i-f))≥2))
 (.loop (fun (y:B0)=>⟨[(0,.view 0 2 d e),(1,pz f),(2,pz g),(3,.func 321 [] []),(9,pz i),(10,pz h.2.2),(11,pz y.2)],[(0,vecO 2 az4 y.1 367)],[],1⟩)
 (.exit 4) (fun (y:Az)=>⟨[(0,.view 0 2 d e),(1,pz f),(2,pz g),(3,.func 321 [] []),(9,pz i),(10,pz h.2.2)],[(0,vecO 2 az4 y 367)],[],1⟩)
 (fun y=>let z:=d+((y.2).toNat);let aa:=i64.wrap (y.2-1);let ab:=d+(aa.toNat);let ac:=y.1.getD z default;let ad:=y.1.getD ab default;let ae:=y.1.set z ad;.br (decide (y.2≥1))
 (.gh y.2 e<|
 .grd (z<y.1.length)<|
 .gh aa e<|
 .grd (ab<y.1.length)<|
 .call (bz4 ac ad) [] fun af=>
 .br (!(decide (af<0)))
 (.oo y.1)
 (.gh aa e<|
 .grd (ab<y.1.length)<|
 .gh y.2 e<|
 .grd (z<y.1.length)<|
 .gh y.2 e<|
 .conv 17015 (bze 2 az4 y.1 367 z ad)<|
 .grd (z<y.1.length/\0≤z)<|
 .gh aa e<|
 .conv 17017 (bze 2 az4 ae 367 ab ac)<|
 .grd (ab<ae.length/\0≤ab)<|
 .nn ((ae.set ab ac),aa)))
 (.oo y.1))
 (w,k) [] fun y=>
 .oo y)
 (.oo w)) fun y=>
 .br (decide ((i64.wrap (g-i))≥2))
 (.loop (fun (z:B0)=>⟨[(0,.view 0 2 d e),(1,pz f),(2,pz g),(3,.func 321 [] []),(9,pz i),(10,pz h.2.2),(12,pz z.2)],[(0,vecO 2 az4 z.1 367)],[],1⟩)
 (.exit 6) (fun (z:Az)=>⟨[(0,.view 0 2 d e),(1,pz f),(2,pz g),(3,.func 321 [] []),(9,pz i),(10,pz h.2.2)],[(0,vecO 2 az4 z 367)],[],1⟩)
 (fun z=>let aa:=d+((z.2).toNat);let ab:=i64.wrap (z.2-1);let ac:=d+(ab.toNat);let ad:=z.1.getD aa default;let ae:=z.1.getD ac default;let af:=z.1.set aa ae;.br (decide (z.2<g))
 (.gh z.2 e<|
 .grd (aa<z.1.length)<|
 .gh ab e<|
 .grd (ac<z.1.length)<|
 .call (bz4 ad ae) [] fun ag=>
 .br (!(decide (ag<0)))
 (.oo z.1)
 (.gh ab e<|
 .grd (ac<z.1.length)<|
 .gh z.2 e<|
 .grd (aa<z.1.length)<|
 .gh z.2 e<|
 .conv 23015 (bze 2 az4 z.1 367 aa ae)<|
 .grd (aa<z.1.length/\0≤aa)<|
 .gh ab e<|
 .conv 23017 (bze 2 az4 af 367 ac ad)<|
 .grd (ac<af.length/\0≤ac)<|
 .nn ((af.set ac ad),(i64.wrap (z.2+1)))))
 (.oo z.1))
 (y,(i64.wrap (i+1))) [] fun z=>
 .oo (z,i))
 (.oo (y,i))))) fun i=>
 .nn (i.1,i.2,(i64.wrap (h.2.2+1))))
 (.oo h.1))
 (c,(i64.wrap (f+1)),0) [] fun h=>
 .ret (false,h)
noncomputable def fza (c)(d)(e)(f)(g):=
 mkD Tryz.func417 (fzb c d e f g) 1 [.view 0 2 d e,pz f,pz g,.func 321 [] []] [(0,vecO 2 az4 c 367)] (fun r=>.pure (.bool r.1)) (fun r=>[(0,vecO 2 az4 r.2 367)])
noncomputable def gzs (c:Az)(d:Nat)(e:Nat)(f:Int)(g:Int)(h:Int):T (Int×Az):=let i:=d+(h.toNat);let j:=d+(f.toNat);let k:=c.getD i default;let m:=c.set j k;let n:=c.getD j default;.gh h e<|
 .grd (i<c.length)<|
 .gh f e<|
 .grd (j<c.length)<|
 .gh f e<|
 .conv 1013 (bze 2 az4 c 367 j k)<|
 .grd (j<c.length/\0≤j)<|
 .gh h e<|
 .conv 1015 (bze 2 az4 m 367 i n)<|
 .grd (i<m.length/\0≤i)<|
 .loop (fun (s:Be)=>⟨[(0,.view 0 2 d e),(1,pz f),(4,.func 321 [] []),(11,pz s.2.1),(12,pz s.2.2)],[(0,vecO 2 az4 s.1 367)],[],1⟩)
 (.exit 0) (fun (s:(Int×Az))=>⟨[(11,pz s.1)],[(0,vecO 2 az4 s.2 367)],[],1⟩)
 (fun s=>let t:=s.1.getD j default;.loop (fun (w:Int)=>⟨[(0,.view 0 2 d e),(1,pz f),(4,.func 321 [] []),(11,pz w),(12,pz s.2.2)],[(0,vecO 2 az4 s.1 367)],[],1⟩)
 (.exit 2) (fun (w:Int)=>⟨[(0,.view 0 2 d e),(1,pz f),(4,.func 321 [] []),(11,pz w),(12,pz s.2.2)],[(0,vecO 2 az4 s.1 367)],[],1⟩)
 (fun w=>let y:=d+(w.toNat);.cut 1 (fun (z:Bool)=>⟨[(0,.view 0 2 d e),(1,pz f),(4,.func 321 [] []),(11,pz w),(12,pz s.2.2),(47,.pure (.bool z))],[(0,vecO 2 az4 s.1 367)],[],1⟩)
 (.br (decide (w≤s.2.2))
 (.gh f e<|
 .grd (j<s.1.length)<|
 .gh w e<|
 .grd (y<s.1.length)<|
 .cc (bz4 t (s.1.getD y default)) fun z=>
 .oo (!(decide (z<0))))
 (.oo false)) fun z=>
 .br z
 (.nn (i64.wrap (w+1)))
 (.oo w))
 s.2.1 [] fun w=>let y:=d+(w.toNat);let z:=s.1.getD y default;
 .loop (fun (aa:Int)=>⟨[(0,.view 0 2 d e),(1,pz f),(4,.func 321 [] []),(11,pz w),(12,pz aa)],[(0,vecO 2 az4 s.1 367)],[],1⟩)
 (.exit 4) (fun (aa:Int)=>⟨[(0,.view 0 2 d e),(1,pz f),(4,.func 321 [] []),(11,pz w),(12,pz aa)],[(0,vecO 2 az4 s.1 367)],[],1⟩)
 (fun aa=>let ab:=d+(aa.toNat);.cut 1 (fun (ac:Bool)=>⟨[(0,.view 0 2 d e),(1,pz f),(4,.func 321 [] []),(11,pz w),(12,pz aa),(65,.pure (.bool ac))],[(0,vecO 2 az4 s.1 367)],[],1⟩)
 (.br (decide (w≤aa))
 (.gh f e<|
 .grd (j<s.1.length)<|
 .gh aa e<|
 .grd (ab<s.1.length)<|
 .cc (bz4 t (s.1.getD ab default)) fun ac=>
 .oo (decide (ac<0)))
 (.oo false)) fun ac=>
 .br ac
 (.nn (i64.wrap (aa-1)))
 (.oo aa))
 s.2.2 [] fun aa=>let ab:=d+(aa.toNat);let ac:=s.1.getD ab default;let ad:=s.1.set y ac;
 .br (decide (w>aa))
 (.oo (w,s.1))
 (.gh aa e<|
 .grd (ab<s.1.length)<|
 .gh w e<|
 .grd (y<s.1.length)<|
 .gh w e<|
 .conv 8013 (bze 2 az4 s.1 367 y ac)<|
 .grd (y<s.1.length/\0≤y)<|
 .gh aa e<|
 .conv 8015 (bze 2 az4 ad 367 ab z)<|
 .grd (ab<ad.length/\0≤ab)<|
 .nn ((ad.set ab z),(i64.wrap (w+1)),(i64.wrap (aa-1)))))
 ((m.set i n),(i64.wrap (f+1)),(i64.wrap (g-1))) [] fun s=>
 .ret (s.1,s.2)
noncomputable def gzr (c)(d)(e)(f)(g)(h):=
 mkD Tryz.func418 (gzs c d e f g h) 1 [.view 0 2 d e,pz f,pz g,pz h,.func 321 [] []] [(0,vecO 2 az4 c 367)] (fun r=>pz r.1) (fun r=>[(0,vecO 2 az4 r.2 367)])
set_option maxHeartbeats 8000000 in
set_option maxRecDepth 20000 in
noncomputable def jz3 (c:Az)(d:Nat)(e:Nat)(f:Int)(g:Int)(h:Int):T (Int×Bool×Az):=let i:=d+(h.toNat);let j:=d+(f.toNat);let k:=c.getD i default;let m:=c.set j k;let n:=c.getD j default;let s:=m.set i n;let t:=s.getD j default;let w:=i64.wrap (g-1);.gh h e<|
 .grd (i<c.length)<|
 .gh f e<|
 .grd (j<c.length)<|
 .gh f e<|
 .conv 1013 (bze 2 az4 c 367 j k)<|
 .grd (j<c.length/\0≤j)<|
 .gh h e<|
 .conv 1015 (bze 2 az4 m 367 i n)<|
 .grd (i<m.length/\0≤i)<|
 .loop (fun (y:Int)=>⟨[(0,.view 0 2 d e),(1,pz f),(4,.func 321 [] []),(12,pz y),(13,pz w)],[(0,vecO 2 az4 s 367)],[],1⟩)
 (.exit 0) (fun (y:Int)=>⟨[(0,.view 0 2 d e),(1,pz f),(4,.func 321 [] []),(12,pz y),(13,pz w)],[(0,vecO 2 az4 s 367)],[],1⟩)
 (fun y=>let z:=d+(y.toNat);.cut 1 (fun (aa:Bool)=>⟨[(0,.view 0 2 d e),(1,pz f),(4,.func 321 [] []),(12,pz y),(13,pz w),(47,.pure (.bool aa))],[(0,vecO 2 az4 s 367)],[],1⟩)
 (.br (decide (y≤w))
 (.gh y e<|
 .grd (z<s.length)<|
 .gh f e<|
 .grd (j<s.length)<|
 .call (bz4 (s.getD z default) t) [] fun aa=>
 .oo (decide (aa<0)))
 (.oo false)) fun aa=>
 .br aa
 (.nn (i64.wrap (y+1)))
 (.oo y))
 (i64.wrap (f+1)) [] fun y=>let z:=d+(y.toNat);let aa:=s.getD z default;
 .loop (fun (ab:Int)=>⟨[(0,.view 0 2 d e),(1,pz f),(4,.func 321 [] []),(12,pz y),(13,pz ab)],[(0,vecO 2 az4 s 367)],[],1⟩)
 (.exit 2) (fun (ab:Int)=>⟨[(0,.view 0 2 d e),(1,pz f),(4,.func 321 [] []),(12,pz y),(13,pz ab)],[(0,vecO 2 az4 s 367)],[],1⟩)
 (fun ab=>let ac:=d+(ab.toNat);.cut 1 (fun (ad:Bool)=>⟨[(0,.view 0 2 d e),(1,pz f),(4,.func 321 [] []),(12,pz y),(13,pz ab),(66,.pure (.bool ad))],[(0,vecO 2 az4 s 367)],[],1⟩)
 (.br (decide (y≤ab))
 (.gh ab e<|
 .grd (ac<s.length)<|
 .gh f e<|
 .grd (j<s.length)<|
 .call (bz4 (s.getD ac default) t) [] fun ad=>
 .oo (!(decide (ad<0))))
 (.oo false)) fun ad=>
 .br ad
 (.nn (i64.wrap (ab-1)))
 (.oo ab))
 w [] fun ab=>let ac:=d+(ab.toNat);let ad:=s.set ac t;let ae:=s.getD ac default;let af:=s.set z ae;
 .br (decide (y>ab))
 (.gh f e<|
 .grd (j<s.length)<|
 .gh ab e<|
 .grd (ac<s.length)<|
 .gh ab e<|
 .conv 8013 (bze 2 az4 s 367 ac t)<|
 .grd (ac<s.length/\0≤ac)<|
 .gh f e<|
 .conv 8015 (bze 2 az4 ad 367 j ae)<|
 .grd (j<ad.length/\0≤j)<|
 .ret (ab,true,(ad.set j ae)))
 (.gh ab e<|
 .grd (ac<s.length)<|
 .gh y e<|
 .grd (z<s.length)<|
 .gh y e<|
 .conv 10013 (bze 2 az4 s 367 z ae)<|
 .grd (z<s.length/\0≤z)<|
 .gh ab e<|
 .conv 10015 (bze 2 az4 af 367 ac aa)<|
 .grd (ac<af.length/\0≤ac)<|
 .loop (fun (ag:Be)=>⟨[(0,.view 0 2 d e),(1,pz f),(4,.func 321 [] []),(12,pz ag.2.1),(13,pz ag.2.2)],[(0,vecO 2 az4 ag.1 367)],[],1⟩)
 (.exit 4) (fun (ag:B0)=>⟨[(0,.view 0 2 d e),(1,pz f),(13,pz ag.2)],[(0,vecO 2 az4 ag.1 367)],[],1⟩)
 (fun ag=>let ah:=ag.1.getD j default;.loop (fun (ai:Int)=>⟨[(0,.view 0 2 d e),(1,pz f),(4,.func 321 [] []),(12,pz ai),(13,pz ag.2.2)],[(0,vecO 2 az4 ag.1 367)],[],1⟩)
 (.exit 6) (fun (ai:Int)=>⟨[(0,.view 0 2 d e),(1,pz f),(4,.func 321 [] []),(12,pz ai),(13,pz ag.2.2)],[(0,vecO 2 az4 ag.1 367)],[],1⟩)
 (fun ai=>let aj:=d+(ai.toNat);.cut 1 (fun (ak:Bool)=>⟨[(0,.view 0 2 d e),(1,pz f),(4,.func 321 [] []),(12,pz ai),(13,pz ag.2.2),(120,.pure (.bool ak))],[(0,vecO 2 az4 ag.1 367)],[],1⟩)
 (.br (decide (ai≤ag.2.2))
 (.gh ai e<|
 .grd (aj<ag.1.length)<|
 .gh f e<|
 .grd (j<ag.1.length)<|
 .cc (bz4 (ag.1.getD aj default) ah) fun ak=>
 .oo (decide (ak<0)))
 (.oo false)) fun ak=>
 .br ak
 (.nn (i64.wrap (ai+1)))
 (.oo ai))
 ag.2.1 [] fun ai=>let aj:=d+(ai.toNat);let ak:=ag.1.getD aj default;
 .loop (fun (al:Int)=>⟨[(0,.view 0 2 d e),(1,pz f),(4,.func 321 [] []),(12,pz ai),(13,pz al)],[(0,vecO 2 az4 ag.1 367)],[],1⟩)
 (.exit 8) (fun (al:Int)=>⟨[(0,.view 0 2 d e),(1,pz f),(4,.func 321 [] []),(12,pz ai),(13,pz al)],[(0,vecO 2 az4 ag.1 367)],[],1⟩)
 (fun al=>let am:=d+(al.toNat);.cut 1 (fun (an:Bool)=>⟨[(0,.view 0 2 d e),(1,pz f),(4,.func 321 [] []),(12,pz ai),(13,pz al),(139,.pure (.bool an))],[(0,vecO 2 az4 ag.1 367)],[],1⟩)
 (.br (decide (ai≤al))
 (.gh al e<|
 .grd (am<ag.1.length)<|
 .gh f e<|
 .grd (j<ag.1.length)<|
 .cc (bz4 (ag.1.getD am default) ah) fun an=>
 .oo (!(decide (an<0))))
 (.oo false)) fun an=>
 .br an
 (.nn (i64.wrap (al-1)))
 (.oo al))
 ag.2.2 [] fun al=>let am:=d+(al.toNat);let an:=ag.1.getD am default;let ao:=ag.1.set aj an;
 .br (decide (ai>al))
 (.oo (ag.1,al))
 (.gh al e<|
 .grd (am<ag.1.length)<|
 .gh ai e<|
 .grd (aj<ag.1.length)<|
 .gh ai e<|
 .conv 18013 (bze 2 az4 ag.1 367 aj an)<|
 .grd (aj<ag.1.length/\0≤aj)<|
 .gh al e<|
 .conv 18015 (bze 2 az4 ao 367 am ak)<|
 .grd (am<ao.length/\0≤am)<|
 .nn ((ao.set am ak),(i64.wrap (ai+1)),(i64.wrap (al-1)))))
 ((af.set ac aa),(i64.wrap (y+1)),(i64.wrap (ab-1))) [] fun ag=>let ah:=d+((ag.2).toNat);let ai:=ag.1.getD j default;let aj:=ag.1.set ah ai;let ak:=ag.1.getD ah default;
 .gh f e<|
 .grd (j<ag.1.length)<|
 .gh ag.2 e<|
 .grd (ah<ag.1.length)<|
 .gh ag.2 e<|
 .conv 21013 (bze 2 az4 ag.1 367 ah ai)<|
 .grd (ah<ag.1.length/\0≤ah)<|
 .gh f e<|
 .conv 21015 (bze 2 az4 aj 367 j ak)<|
 .grd (j<aj.length/\0≤j)<|
 .ret (ag.2,false,(aj.set j ak)))
noncomputable def jz2 (c)(d)(e)(f)(g)(h):=
 mkD Tryz.func419 (jz3 c d e f g h) 1 [.view 0 2 d e,pz f,pz g,pz h,.func 321 [] []] [(0,vecO 2 az4 c 367)] (fun r=>.tup [pz r.1,.pure (.bool r.2.1)]) (fun r=>[(0,vecO 2 az4 r.2.2 367)])
noncomputable def gzy (c:Az)(d:Nat)(e:Nat)(f:Int)(g:Int):T Az:=let h:=i64.wrap (g-f);let i:=i64.wrap (f+(i64.wrap ((i64.wrap (h.tdiv 4)) * 2)));.br (decide (h≥8))
 (.cc (izd h) fun j=>
 .ok ((4:Int)≠0) (by decide)<|
 .name 4005 ((i64.wrap (i-1))) fun k=>
 .loop (fun (m:Be)=>⟨[(0,.view 0 2 d e),(1,pz f),(8,pz h),(9,.ptr 1 0),(10,.pure (.int .u64 j)),(11,pz m.2.2)],[(0,vecO 2 az4 m.1 367),(1,.box [.pure (.int .u64 m.2.1)])],[],2⟩)
 (.exit 0) (fun (m:Az)=>⟨[],[(0,vecO 2 az4 m 367)],[],1⟩)
 (fun m=>let n:=d+((m.2.2).toNat);let s:=m.1.getD n default;.ok ((4:Int)≠0) (by decide)<|
 .name 5006 ((i64.wrap (i+1))) fun t=>
 .br (decide (m.2.2≤t))
 (.call (rz0 m.2.1) [(0,1)] fun w=>
 .name 7004 ((i64.wrap (IntKind.u64.wrap (((BitVec.ofInt 64 w.1&&&BitVec.ofInt 64 (IntKind.u64.wrap (j-1))).toNat:Int))))) fun y=>
 .cut 0 (fun (z:Int)=>⟨[(0,.view 0 2 d e),(1,pz f),(8,pz h),(9,.ptr 1 0),(10,.pure (.int .u64 j)),(11,pz m.2.2),(12,pz z)],[(0,vecO 2 az4 m.1 367),(1,.box [.pure (.int .u64 w.2)])],[],2⟩)
 (.br (decide (y≥h))
 (.oo (i64.wrap (y-h)))
 (.oo y)) fun z=>let aa:=i64.wrap (f+z);let ab:=d+(aa.toNat);let ac:=m.1.getD ab default;let ad:=m.1.set n ac;
 .gh aa e<|
 .grd (ab<m.1.length)<|
 .gh m.2.2 e<|
 .grd (n<m.1.length)<|
 .gh m.2.2 e<|
 .conv 10017 (bze 2 az4 m.1 367 n ac)<|
 .grd (n<m.1.length/\0≤n)<|
 .gh aa e<|
 .conv 10019 (bze 2 az4 ad 367 ab s)<|
 .grd (ab<ad.length/\0≤ab)<|
 .nn ((ad.set ab s),w.2,(i64.wrap (m.2.2+1))))
 (.oo m.1))
 (c,(IntKind.u64.wrap h),k) [] fun m=>
 .ret m)
 (.ret c)
noncomputable def gzx (c)(d)(e)(f)(g):=
 mkD Tryz.func414 (gzy c d e f g) 1 [.view 0 2 d e,pz f,pz g,.func 321 [] []] [(0,vecO 2 az4 c 367)] (fun _=>.tup []) (fun r=>[(0,vecO 2 az4 r 367)])
abbrev dzm:=RecS Tryz.prog 381 1 (Az×Nat×Nat×Int×Int×Int) Az (fun a=>[.view 0 2 a.2.1 a.2.2.1,pz a.2.2.2.1,pz a.2.2.2.2.1,pz a.2.2.2.2.2,.func 321 [] []]) (fun a=>[(0,vecO 2 az4 a.1 367)]) (fun _ _=>.tup []) (fun _ r=>[(0,vecO 2 az4 r 367)])
noncomputable def kz7 (rec:dzm)(c:Az)(d:Nat)(e:Nat)(f:Int)(g:Int)(h:Int):T Az:=
 .loop (fun (i:(Az×Int×Int×Int×Bool×Bool))=>⟨[(0,.view 0 2 d e),(1,pz i.2.1),(2,pz i.2.2.1),(3,pz i.2.2.2.1),(4,.func 321 [] []),(10,.pure (.bool i.2.2.2.2.1)),(11,.pure (.bool i.2.2.2.2.2))],[(0,vecO 2 az4 i.1 367)],[],1⟩)
 .ret (fun (_:U0)=>⟨[],[],[],1⟩)
 (fun i=>let j:=i64.wrap (i.2.2.1-i.2.1);let k:=i64.wrap (i.2.1-1);let m:=d+(k.toNat);let n:=i64.wrap (j.tdiv 8);.br (decide (j≤12))
 (.call (gzz i.1 d e i.2.1 i.2.2.1) [(0,0)] fun s=>
 .ff s)
 (.br (i.2.2.2.1==0)
 (.call (jzo i.1 d e i.2.1 i.2.2.1) [(0,0)] fun s=>
 .ff s)
 (.cut 0 (fun (s:B0)=>⟨[(0,.view 0 2 d e),(1,pz i.2.1),(2,pz i.2.2.1),(3,pz s.2),(4,.func 321 [] []),(10,.pure (.bool i.2.2.2.2.1)),(11,.pure (.bool i.2.2.2.2.2)),(12,pz j)],[(0,vecO 2 az4 s.1 367)],[],1⟩)
 (.br (!i.2.2.2.2.1)
 (.call (gzx i.1 d e i.2.1 i.2.2.1) [(0,0)] fun s=>
 .oo (s,(i64.wrap (i.2.2.2.1-1))))
 (.oo (i.1,i.2.2.2.1))) fun s=>
 .call (iz9 s.1 d e i.2.1 i.2.2.1) [(0,0)] fun t=>
 .cut 0 (fun (w:Be)=>⟨[(0,.view 0 2 d e),(1,pz i.2.1),(2,pz i.2.2.1),(3,pz s.2),(4,.func 321 [] []),(10,.pure (.bool i.2.2.2.2.1)),(11,.pure (.bool i.2.2.2.2.2)),(12,pz j),(13,pz w.2.1),(14,pz w.2.2)],[(0,vecO 2 az4 w.1 367)],[],1⟩)
 (.br (t.2==2)
 (.call (hzi s.1 d e i.2.1 i.2.2.1) [(0,0)] fun w=>
 .oo (w,(i64.wrap ((i64.wrap (i.2.2.1-1))- (i64.wrap (t.1-i.2.1)))),1))
 (.oo (s.1,t.1,t.2))) fun w=>let y:=(w.2.1).toNat;
 .cut 0 (fun (z:Az)=>⟨[(0,.view 0 2 d e),(1,pz i.2.1),(2,pz i.2.2.1),(3,pz s.2),(4,.func 321 [] []),(10,.pure (.bool i.2.2.2.2.1)),(11,.pure (.bool i.2.2.2.2.2)),(12,pz j),(13,pz w.2.1)],[(0,vecO 2 az4 z 367)],[],1⟩)
 (.cut 0 (fun (z:Bool)=>⟨[(0,.view 0 2 d e),(1,pz i.2.1),(2,pz i.2.2.1),(3,pz s.2),(4,.func 321 [] []),(10,.pure (.bool i.2.2.2.2.1)),(11,.pure (.bool i.2.2.2.2.2)),(12,pz j),(13,pz w.2.1),(75,.pure (.bool z))],[(0,vecO 2 az4 w.1 367)],[],1⟩)
 (.br i.2.2.2.2.1
 (.br i.2.2.2.2.2
 (.oo (w.2.2==1))
 (.oo false))
 (.oo false)) fun z=>
 .br z
 (.call (fza w.1 d e i.2.1 i.2.2.1) [(0,0)] fun aa=>
 .br aa.1
 (.ff (.fin aa.2))
 (.oo aa.2))
 (.oo w.1)) fun z=>
 .cut 1 (fun (aa:Bool)=>⟨[(0,.view 0 2 d e),(1,pz i.2.1),(2,pz i.2.2.1),(3,pz s.2),(4,.func 321 [] []),(10,.pure (.bool i.2.2.2.2.1)),(11,.pure (.bool i.2.2.2.2.2)),(12,pz j),(13,pz w.2.1),(97,.pure (.bool aa))],[(0,vecO 2 az4 z 367)],[],1⟩)
 (.br (decide (i.2.1>0))
 (.gh k e<|
 .grd (m<z.length)<|
 .gh w.2.1 e<|
 .grd ((d+y)<z.length)<|
 .call (bz4 (z.getD m default) (z.getD (d+y) default)) [] fun aa=>
 .oo (!(decide (aa<0))))
 (.oo false)) fun aa=>
 .br aa
 (.call (gzr z d e i.2.1 i.2.2.1 w.2.1) [(0,0)] fun ab=>
 .nn (ab.2,ab.1,i.2.2.1,s.2,i.2.2.2.2.1,i.2.2.2.2.2))
 (.call (jz2 z d e i.2.1 i.2.2.1 w.2.1) [(0,0)] fun ab=>let ac:=i64.wrap (ab.1-i.2.1);let ad:=i64.wrap (i.2.2.1-ab.1);let ae:=i64.wrap (ab.1+1);
 .ok ((8:Int)≠0) (by decide)<|
 .br (decide (ac<ad))
 (.call (rec.C (ab.2.2,d,e,i.2.1,ab.1,s.2)) [(0,0)] fun af=>
 .nn (af,ae,i.2.2.1,s.2,(decide (ac≥n)),ab.2.1))
 (.call (rec.C (ab.2.2,d,e,ae,i.2.2.1,s.2)) [(0,0)] fun af=>
 .nn (af,i.2.1,ab.1,s.2,(decide (ad≥n)),ab.2.1))))))
 (c,f,g,h,true,true) [] fun _=>
 .stop
noncomputable def kz6:dzm->dzm:=RecS.next [] hd Tryz.func381 (by kernel_rfl) (fun rec a=>kz7 rec a.1 a.2.1 a.2.2.1 a.2.2.2.1 a.2.2.2.2.1 a.2.2.2.2.2) (fun rec a=>by kernel_rfl)
noncomputable def kz5 (a0:Az)(a1:Nat)(a2:Nat)(a3:Int)(a4:Int)(a5:Int):CallS Az:=(RecS.fix kz6 NN).C (a0,a1,a2,a3,a4,a5)
noncomputable def kz2 (c:Az)(d:Nat)(e:Nat):T Az:=let f:=(e:Int);.cc (lzd (IntKind.u64.wrap f)) fun g=>
 .call (kz5 c d e 0 f g) [(0,0)] fun h=>
 .ret h
noncomputable def kz1 (c)(d)(e):=
 mkD Tryz.func320 (kz2 c d e) 1 [.view 0 2 d e,.func 321 [] []] [(0,vecO 2 az4 c 367)] (fun _=>.tup []) (fun r=>[(0,vecO 2 az4 r 367)])
set_option maxHeartbeats 8000000 in
set_option maxRecDepth 20000 in
noncomputable def tz8 (c:bz1)(d:A1)(e:Int):T Az:=let f:=(d.length:Int);let g:=encL 1 (encL 1 az1) d;let h:Nat×Res:=(0,.box [.pure (encL 12 az7 c.Joints),.pure (encL 5 azc c.Masses)]);.cc (yzx d) fun i=>let j:=encL 4 azy i;
 .loop (fun (k:(Az×B2×Int))=>⟨[(1,.pure g),(2,pz e),(3,.ptr 0 0),(7,.vec 1),(8,.map 2),(9,.pure j),(18,.pure g),(19,pz f),(20,pz k.2.2)],[h,(1,vecO 2 az4 k.1 367),(2,hz9 [.int .i64 0,.int .i64 0] cz8 k.2.1)],[],3⟩)
 (.exit 0) (fun (k:Az)=>⟨[(7,.vec 0)],[(0,vecO 2 az4 k 367)],[],1⟩)
 (fun k=>.br (decide (k.2.2<f))
 (.gh k.2.2 d.length<|
 .call (uzg (⟨c.Joints,c.Masses⟩:bz1) d i (d.getD ((k.2.2).toNat) default) (i64.wrap ((min e f)+1))) [] fun m=>let n:=encL 1 az1 m;let s:=(m.length:Int);
 .loop (fun (t:(Az×B2×Int))=>⟨[(1,.pure g),(2,pz e),(3,.ptr 0 0),(7,.vec 1),(8,.map 2),(9,.pure j),(10,pz k.2.2),(18,.pure g),(19,pz f),(20,pz k.2.2),(34,.pure n),(35,pz s),(36,pz t.2.2)],[h,(1,vecO 2 az4 t.1 367),(2,hz9 [.int .i64 0,.int .i64 0] cz8 t.2.1)],[],3⟩)
 (.exit 2) (fun (t:(Az×B2))=>⟨[(1,.pure g),(2,pz e),(3,.ptr 0 0),(7,.vec 1),(8,.map 2),(9,.pure j),(18,.pure g),(19,pz f),(20,pz k.2.2)],[h,(1,vecO 2 az4 t.1 367),(2,hz9 [.int .i64 0,.int .i64 0] cz8 t.2)],[],3⟩)
 (fun t=>let w:=m.getD ((t.2.2).toNat) default;let y:=min k.2.2 w;let z:=max k.2.2 w;let aa:=cz8 (y,z);let ab:=uzc cz8 t.2.1 aa;let ac:=([(y,z)]:Az);let ad:=t.1.length+ac.length;.br (decide (t.2.2<s))
 (.cut 0 (fun (ae:(Az×B2))=>⟨[(1,.pure g),(2,pz e),(3,.ptr 0 0),(7,.vec 1),(8,.map 2),(9,.pure j),(10,pz k.2.2),(18,.pure g),(19,pz f),(20,pz k.2.2),(34,.pure n),(35,pz s),(36,pz t.2.2)],[h,(1,vecO 2 az4 ae.1 367),(2,hz9 [.int .i64 0,.int .i64 0] cz8 ae.2)],[],3⟩)
 (.gh t.2.2 m.length<|
 .cut 1 (fun (ae:Bool)=>⟨[(1,.pure g),(2,pz e),(3,.ptr 0 0),(7,.vec 1),(8,.map 2),(9,.pure j),(10,pz k.2.2),(14,.ptr 3 0),(18,.pure g),(19,pz f),(20,pz k.2.2),(34,.pure n),(35,pz s),(36,pz t.2.2),(55,.pure (.bool ae))],[h,(1,vecO 2 az4 t.1 367),(2,hz9 [.int .i64 0,.int .i64 0] cz8 t.2.1),(3,.box [pz y,pz z])],[],4⟩)
 (.br (k.2.2 !=w)
 (.ok ((mdom cz8 t.2.1 aa)=false->PSub (.bool false) (PVal.bool ab)) Mzg<|
 .oo (!ab))
 (.oo false)) fun ae=>
 .br ae
 (.conv 12002 (Nzz [.int .i64 0,.int .i64 0] cz8 t.2.1 (y,z) true)<|
 .conv 13002 (bzl 2 az4 ac 367)<|
 .conv 13003 (czq 2 az4 t.1 ac 367)<|
 .grd (ad * 16≤140737488355328/\ad≤maxLen)<|
 .oo ((t.1++ac),(((y,z),true)::t.2.1)))
 (.oo (t.1,t.2.1))) fun ae=>
 .nn (ae.1,ae.2,(i64.wrap (t.2.2+1))))
 (.oo (t.1,t.2.1)))
 (k.1,k.2.1,0) [] fun t=>
 .nn (t.1,t.2,(i64.wrap (k.2.2+1))))
 (.oo k.1))
 (nl,(nl:List (Ay×Bool)),0) [] fun k=>
 .call (kz1 k 0 k.length) [(0,0)] fun m=>
 .ret m
noncomputable def tz7 (c)(d)(e):=
 mkD Tryz.func274 (tz8 c d e) 0 [.pure (dz2 c),.pure (encL 1 (encL 1 az1) d),pz e] [] (fun r=>.pure (encL 2 az4 r)) (fun _=>[])
noncomputable def wz6 (c:bz1)(d:A0)(e:A0):T Int:=let f:=encL 1 az1 d;let g:=encL 1 az1 e;let h:=encL 12 az7 c.Joints;let i:=(c.Joints.length:Int);.cut 3 (fun (j:Bool)=>⟨[(1,.pure f),(2,.pure g),(3,.ptr 0 0),(38,.pure (.bool j))],[(0,.box [.pure h,.pure (encL 5 azc c.Masses)])],[],1⟩)
 (.br ((d.length:Int) !=i)
 (.oo true)
 (.br ((e.length:Int) !=i)
 (.oo true)
 (.cc (gzg d) fun j=>
 .br (!j)
 (.oo true)
 (.cc (gzg e) fun k=>
 .br (!k)
 (.oo true)
 (.cc (eze c) fun m=>
 .oo (m !=0)))))) fun j=>
 .br j
 (.ret 0)
 (.loop (fun (k:Ay)=>⟨[(1,.pure f),(2,.pure g),(8,pz k.1),(40,.pure h),(41,pz i),(42,pz k.2)],[],[],0⟩)
 (.exit 0) (fun (k:Int)=>⟨[(8,pz k)],[],[],0⟩)
 (fun k=>let m:=(k.2).toNat;let n:=e.getD m default;let s:=d.getD m default;.br (decide (k.2<i))
 (.gh k.2 c.Joints.length<|
 .gh k.2 e.length<|
 .gh k.2 d.length<|
 .gh k.2 d.length<|
 .gh k.2 e.length<|
 .name 8021 ((max (i64.wrap (n-s)) (i64.wrap (s-n)))) fun t=>
 .nn ((i64.wrap (k.1+(i64.wrap (((c.Joints.getD m default).Weight) * t)))),(i64.wrap (k.2+1))))
 (.oo k.1))
 (0,0) [] fun k=>
 .ret k)
noncomputable def wz5 (c)(d)(e):=
 mkD Tryz.func323 (wz6 c d e) 0 [.pure (dz2 c),.pure (encL 1 az1 d),.pure (encL 1 az1 e)] [] (fun r=>pz r) (fun _=>[])
noncomputable def vz4 (c:bz1)(d:A1)(e:Int)(f:Int):T az9:=
 .gh e d.length<|
 .gh f d.length<|
 .cc (wz5 c (d.getD (e.toNat) default) (d.getD (f.toNat) default)) fun g=>
 .ret (⟨e,f,g,0,(⟨0,nl,(⟨0,0,nl⟩:azm),(⟨0,nl,nl⟩:dzx)⟩:bzw)⟩:az9)
noncomputable def vz3 (c)(d)(e)(f):=
 mkD Tryz.func275 (vz4 c d e f) 0 [.pure (dz2 c),.pure (encL 1 (encL 1 az1) d),pz e,pz f] [] (fun r=>.pure (az6 r)) (fun _=>[])
noncomputable def Hzo (c:bz1)(d:A1)(e:Int):T bz2:=
 .cc (eze c) fun f=>
 .br (f !=0)
 (.ret (⟨nl,nl⟩:bz2))
 (.cc (vz1 c d) fun g=>let h:=encL 1 (encL 1 az1) g;
 .br (decide (e<1))
 (.ret (⟨g,nl⟩:bz2))
 (.cc (tz7 c g e) fun i=>let j:=(i.length:Int);let k:=min j 8192;let m:=(i.drop ((0:Int).toNat)).take (k.toNat- (0:Int).toNat);
 .conv 8004 (wzc 2 az4 i (0:Int) k)<|
 .grd (0≤(0:Int)/\(0:Int)≤k/\k≤j)<|
 .name 8005 ((m.length:Int)) fun n=>
 .loop (fun (s:Al)=>⟨[(3,.ptr 0 0),(6,.ptr 1 0),(31,.pure (encL 2 az4 m)),(32,pz n),(33,pz s.2)],[(0,.box [.pure (encL 12 az7 c.Joints),.pure (encL 5 azc c.Masses)]),(1,.box [.pure h,.vec 2]),(2,vecO 12 az6 s.1 363)],[.func 272 [] [.ptr 1 0]],3⟩)
 (.exit 0) (fun (s:Aj)=>⟨[(6,.ptr 0 0)],[(0,.box [.pure h,.vec 1]),(1,vecO 12 az6 s 363)],[.func 272 [] [.ptr 0 0]],2⟩)
 (fun s=>let t:=m.getD ((s.2).toNat) default;.br (decide (s.2<n))
 (.gh s.2 (m.length)<|
 .ix 0 2 rfl<|
 .name 11006 (t.1) fun w=>
 .ix 1 2 rfl<|
 .name 11008 (t.2) fun y=>
 .cc (vz3 c g w y) fun z=>let aa:=([z]:Aj);let ab:=s.1.length+aa.length;
 .conv 11010 (bzl 12 az6 aa 363)<|
 .conv 11011 (czq 12 az6 s.1 aa 363)<|
 .grd (ab * 160≤140737488355328/\ab≤maxLen)<|
 .nn ((s.1++aa),(i64.wrap (s.2+1))))
 (.oo s.1))
 (nl,0) [] fun s=>
 .ret (⟨g,s⟩:bz2)))
noncomputable def Hzn (c)(d)(e):=
 mkC [⟨272,Qzi⟩] hd Tryz.func201 (by kernel_rfl) (Hzo c d e) 0 [.pure (dz2 c),.pure (encL 1 (encL 1 az1) d),pz e] [] (fun r=>.pure (dz9 r)) (fun _=>[]) (by kernel_rfl)
noncomputable def kzk (a0:A1):T A1:=
 (match a0 with
  |[]=>.unroll 1<|
  .grd (a0.length=0)<|
  .both
   (.ret nl)
   (.conv 3000 (bzl 1 (encL 1 az1) ([]:A1) 50)<|
   .conv 3002 (czq 1 (encL 1 az1) ([]:A1) a0 50)<|
   .grd ((([]:A1).length+a0.length) * 24≤140737488355328/\(([]:A1).length+a0.length)≤maxLen)<|
   .ret (([]:A1)++a0))
  |_::_=>.grd (0<a0.length)<|
  .conv 3000 (bzl 1 (encL 1 az1) ([]:A1) 50)<|
  .conv 3002 (czq 1 (encL 1 az1) ([]:A1) a0 50)<|
  .grd ((([]:A1).length+a0.length) * 24≤140737488355328/\(([]:A1).length+a0.length)≤maxLen)<|
  .ret (([]:A1)++a0))
noncomputable def fzh (a0:A1):CallS A1:=
 mkH [] hd Tryz.func384 (by kernel_rfl) (kzk a0) 0 [.pure (encL 1 (encL 1 az1) a0)] [] (fun _=>.vec 0) (fun r=>[(0,vecO 1 (encL 1 az1) r 50)]) (by cases a0<;>exact Ob.of_side (by kernel_rfl))
noncomputable def ezn (a0:Aj):T Aj:=
 (match a0 with
  |[]=>.unroll 1<|
  .grd (a0.length=0)<|
  .both
   (.ret nl)
   (.conv 3000 (bzl 12 az6 ([]:Aj) 363)<|
   .conv 3002 (czq 12 az6 ([]:Aj) a0 363)<|
   .grd ((([]:Aj).length+a0.length) * 160≤140737488355328/\(([]:Aj).length+a0.length)≤maxLen)<|
   .ret (([]:Aj)++a0))
  |_::_=>.grd (0<a0.length)<|
  .conv 3000 (bzl 12 az6 ([]:Aj) 363)<|
  .conv 3002 (czq 12 az6 ([]:Aj) a0 363)<|
  .grd ((([]:Aj).length+a0.length) * 160≤140737488355328/\(([]:Aj).length+a0.length)≤maxLen)<|
  .ret (([]:Aj)++a0))
noncomputable def ezm (a0:Aj):CallS Aj:=
 mkH [] hd Tryz.func401 (by kernel_rfl) (ezn a0) 0 [.pure (encL 12 az6 a0)] [] (fun _=>.vec 0) (fun r=>[(0,vecO 12 az6 r 363)]) (by cases a0<;>exact Ob.of_side (by kernel_rfl))
noncomputable def hze (a0:Am):T Am:=
 (match a0 with
  |[]=>.unroll 1<|
  .grd (a0.length=0)<|
  .both
   (.ret nl)
   (.conv 3000 (bzl 3 azo ([]:Am) 313)<|
   .conv 3002 (czq 3 azo ([]:Am) a0 313)<|
   .grd ((([]:Am).length+a0.length) * 40≤140737488355328/\(([]:Am).length+a0.length)≤maxLen)<|
   .ret (([]:Am)++a0))
  |_::_=>.grd (0<a0.length)<|
  .conv 3000 (bzl 3 azo ([]:Am) 313)<|
  .conv 3002 (czq 3 azo ([]:Am) a0 313)<|
  .grd ((([]:Am).length+a0.length) * 40≤140737488355328/\(([]:Am).length+a0.length)≤maxLen)<|
  .ret (([]:Am)++a0))
noncomputable def ez5 (a0:Am):CallS Am:=
 mkH [] hd Tryz.func402 (by kernel_rfl) (hze a0) 0 [.pure (encL 3 azo a0)] [] (fun _=>.vec 0) (fun r=>[(0,vecO 3 azo r 313)]) (by cases a0<;>exact Ob.of_side (by kernel_rfl))
noncomputable def izk (a0:Bh):T Bh:=
 (match a0 with
  |[]=>.unroll 1<|
  .grd (a0.length=0)<|
  .both
   (.ret nl)
   (.conv 3000 (bzl 3 az2 ([]:Bh) 68)<|
   .conv 3002 (czq 3 az2 ([]:Bh) a0 68)<|
   .grd ((([]:Bh).length+a0.length) * 24≤140737488355328/\(([]:Bh).length+a0.length)≤maxLen)<|
   .ret (([]:Bh)++a0))
  |_::_=>.grd (0<a0.length)<|
  .conv 3000 (bzl 3 az2 ([]:Bh) 68)<|
  .conv 3002 (czq 3 az2 ([]:Bh) a0 68)<|
  .grd ((([]:Bh).length+a0.length) * 24≤140737488355328/\(([]:Bh).length+a0.length)≤maxLen)<|
  .ret (([]:Bh)++a0))
noncomputable def czd (a0:Bh):CallS Bh:=
 mkH [] hd Tryz.func154 (by kernel_rfl) (izk a0) 0 [.pure (encL 3 az2 a0)] [] (fun r=>.pure (encL 3 az2 r)) (fun _=>[]) (by cases a0<;>exact Ob.of_side (by kernel_rfl))
noncomputable def qzi (c:bzw):T bzw:=let d:Nat×Res:=(0,.box [pz c.Kind,.vec 1,pz c.At.Depth,pz c.At.Index,.pure (encL 3 az2 c.At.Normals),pz c.Witness.Pair,.pure (encL 1 az1 c.Witness.Left),.pure (encL 1 az1 c.Witness.Right)]);.cc (ez5 c.Pieces) fun e=>let f:=(e.length:Nat);
 .unroll 998<|
 .loop (fun (g:An)=>⟨[(1,.ptr 0 0),(2,.ptr 2 0),(10,.vec 1),(11,pz (f:Int)),(12,pz g.2)],[d,(1,vecO 3 azo g.1 313),(2,.box [pz 0,.vec 3,pz 0,pz 0,.vec 4,pz 0,.vec 5,.vec 6]),(3,.nilv),(4,.nilv),(5,.nilv),(6,.nilv)],[],7⟩)
 (.exit 0) (fun (g:Am)=>⟨[(1,.ptr 0 0),(2,.ptr 2 0)],[d,(1,vecO 3 azo g 313),(2,.box [pz 0,.vec 3,pz 0,pz 0,.vec 4,pz 0,.vec 5,.vec 6]),(3,.nilv),(4,.nilv),(5,.nilv),(6,.nilv)],[],7⟩)
 (fun g=>let h:=(g.2).toNat;let i:=g.1.getD h default;.br (decide (g.2<(f:Int)))
 (.gg g.2 g.1.length<|
 .cc (czd (i.Normals)) fun j=>let k:=(⟨i.Depth,i.Index,j⟩:azm);
 .gh g.2 g.1.length<|
 .conv 5008 (bze 3 azo g.1 313 h k)<|
 .gi (g.2) g.1.length<|
 .nn ((g.1.set h k),(i64.wrap (g.2+1))))
 (.oo g.1))
 (e,0) [] fun g=>
 .cc (czd c.At.Normals) fun h=>
 .cc (bzy c.Witness.Left) fun i=>
 .cc (bzy c.Witness.Right) fun j=>
 .ret (⟨c.Kind,g,(⟨c.At.Depth,c.At.Index,h⟩:azm),(⟨c.Witness.Pair,i,j⟩:dzx)⟩:bzw)
noncomputable def ezd (c):=
 mkD Tryz.func354 (qzi c) 0 [.pure (gzh c)] [] (fun r=>.pure (gzh r)) (fun _=>[])
noncomputable def Czi (c:bz2):T Ak:=
 .cc (fzh c.Points) fun d=>let e:=(d.length:Nat);
 .cc (ezm c.Edges) fun f=>let g:=(f.length:Nat);
 .loop (fun (h:Ao)=>⟨[(2,.ptr 0 0),(3,.vec 3),(4,.vec 4),(15,.vec 3),(16,pz (e:Int)),(17,pz h.2)],[(0,.box [.vec 1,.vec 2]),(1,.nilv),(2,.nilv),(3,vecO 1 (encL 1 az1) h.1 50),(4,vecO 12 az6 f 363)],[],5⟩)
 (.exit 0) (fun (h:A1)=>⟨[(2,.ptr 0 0),(3,.vec 3),(4,.vec 4)],[(0,.box [.vec 1,.vec 2]),(1,.nilv),(2,.nilv),(3,vecO 1 (encL 1 az1) h 50),(4,vecO 12 az6 f 363)],[],5⟩)
 (fun h=>let i:=(h.2).toNat;.br (decide (h.2<(e:Int)))
 (.gg h.2 h.1.length<|
 .cc (bzy (h.1.getD i default)) fun j=>
 .gh h.2 h.1.length<|
 .conv 5005 (bze 1 (encL 1 az1) h.1 50 i j)<|
 .gi (h.2) h.1.length<|
 .nn ((h.1.set i j),(i64.wrap (h.2+1))))
 (.oo h.1))
 (d,0) [] fun h=>
 .loop (fun (i:Al)=>⟨[(2,.ptr 0 0),(3,.vec 3),(4,.vec 4),(28,.vec 4),(29,pz (g:Int)),(30,pz i.2)],[(0,.box [.vec 1,.vec 2]),(1,.nilv),(2,.nilv),(3,vecO 1 (encL 1 az1) h 50),(4,vecO 12 az6 i.1 363)],[],5⟩)
 (.exit 2) (fun (i:Aj)=>⟨[(2,.ptr 0 0),(3,.vec 3),(4,.vec 4)],[(0,.box [.vec 1,.vec 2]),(1,.nilv),(2,.nilv),(3,vecO 1 (encL 1 az1) h 50),(4,vecO 12 az6 i 363)],[],5⟩)
 (fun i=>let j:=(i.2).toNat;let k:=i.1.getD j default;.br (decide (i.2<(g:Int)))
 (.gg i.2 i.1.length<|
 .cc (ezd (k.Proof)) fun m=>let n:=(⟨k.U,k.V,k.Cost,k.State,m⟩:az9);
 .gh i.2 i.1.length<|
 .conv 10007 (bze 12 az6 i.1 363 j n)<|
 .gi (i.2) i.1.length<|
 .nn ((i.1.set j n),(i64.wrap (i.2+1))))
 (.oo i.1))
 (f,0) [] fun i=>
 .ret (h,i)
noncomputable def Czh (c):=
 mkD Tryz.func352 (Czi c) 0 [.pure (dz9 c)] [] (fun _=>.agg [.vec 0,.vec 1]) (fun r=>[(0,vecO 1 (encL 1 az1) r.1 50),(1,vecO 12 az6 r.2 363)])
noncomputable def Ezz (c:Int):T Int:=
 .br (c==1)
 (.ret 1)
 (.br (c==2)
 (.ret 2)
 (.ret 0))
noncomputable def szd (c):=
 mkD Tryz.func353 (Ezz c) 0 [pz c] [] (fun r=>pz r) (fun _=>[])
set_option maxHeartbeats 8000000 in
set_option maxRecDepth 20000 in
noncomputable def Ezy (c:bz2)(d:Int)(e:bzw):T Bf:=let f:=d.toNat;let g:=encL 3 azo e.Pieces;let h:=encL 3 az2 e.At.Normals;let i:=c.Edges.getD f default;let j:=encL 1 az1 e.Witness.Left;let k:=encL 1 az1 e.Witness.Right;let m:Nat×Res:=(0,.box [pz e.Kind,.pure g,pz e.At.Depth,pz e.At.Index,.pure h,pz e.Witness.Pair,.pure j,.pure k]);.cc (Czh (⟨c.Points,c.Edges⟩:bz2)) fun n=>let s:=n.2.getD f default;
 .cut 1 (fun (t:Bool)=>⟨[(1,pz d),(3,.ptr 0 0),(5,.ptr 1 0),(6,.ptr 2 0),(7,.ptr 5 0),(22,.pure (.bool t))],[(0,.box [.pure (encL 1 (encL 1 az1) c.Points),.pure (encL 12 az6 c.Edges)]),(1,.box [pz e.Kind,.pure g,pz e.At.Depth,pz e.At.Index,.pure h,pz e.Witness.Pair,.pure j,.pure k]),(2,.box [.vec 3,.vec 4]),(3,vecO 1 (encL 1 az1) n.1 50),(4,vecO 12 az6 n.2 363),(5,.box [.ff])],[.func 351 [] [.ptr 2 0,.ptr 5 0]],6⟩)
 (.br (decide (d<0))
 (.oo true)
 (.oo (decide (d≥(c.Edges.length:Int))))) fun t=>
 .br t
 (.ret (n.1,n.2,false))
 (.gh d c.Edges.length<|
 .cut 0 (fun (w:Bool)=>⟨[(1,pz d),(5,.ptr 0 0),(6,.ptr 1 0),(7,.ptr 4 0),(35,.pure (.bool w))],[m,(1,.box [.vec 2,.vec 3]),(2,vecO 1 (encL 1 az1) n.1 50),(3,vecO 12 az6 n.2 363),(4,.box [.ff])],[.func 351 [] [.ptr 1 0,.ptr 4 0]],5⟩)
 (.br ((i.State)==1)
 (.oo true)
 (.oo ((i.State)==2))) fun w=>
 .br w
 (.ret (n.1,n.2,false))
 (.conv 8000 (bzl 1 az1 ([1,2,3]:A0) 3)<|
 .loop (fun (y:Int)=>⟨[(1,pz d),(5,.ptr 0 0),(6,.ptr 1 0),(7,.ptr 4 0),(37,.vec 5),(38,pz ((([1,2,3]:A0).length:Nat):Int)),(39,pz y)],[m,(1,.box [.vec 2,.vec 3]),(2,vecO 1 (encL 1 az1) n.1 50),(3,vecO 12 az6 n.2 363),(4,.box [.ff]),(5,vecO 1 az1 ([1,2,3]:A0) 3)],[.func 351 [] [.ptr 1 0,.ptr 4 0]],6⟩)
 (.exit 0) (fun (_:U0)=>⟨[(6,.ptr 0 0),(7,.ptr 3 0)],[(0,.box [.vec 1,.vec 2]),(1,vecO 1 (encL 1 az1) n.1 50),(2,vecO 12 az6 n.2 363),(3,.box [.ff])],[.func 351 [] [.ptr 0 0,.ptr 3 0]],4⟩)
 (fun y=>let z:=([1,2,3]:A0).getD (y.toNat) default;let aa:=(⟨s.U,s.V,s.Cost,z,s.Proof⟩:az9);let ab:=n.2.set f aa;let ac:=ab.getD f default;.br (decide (y<((([1,2,3]:A0).length:Nat):Int)))
 (.gg y (([1,2,3]:A0).length)<|
 .cc (szd z) fun ad=>
 .br (ad==e.Kind)
 (.gh d n.2.length<|
 .conv 12006 (bze 12 az6 n.2 363 f aa)<|
 .gi (d) n.2.length<|
 .cc (ezd e) fun ae=>let af:=(⟨ac.U,ac.V,ac.Cost,ac.State,ae⟩:az9);
 .gh d (ab.length)<|
 .conv 13007 (bze 12 az6 ab 363 f af)<|
 .gi (d) (ab.length)<|
 .ff (n.1,(ab.set f af),true))
 (.nn (i64.wrap (y+1))))
 (.oo .u))
 0 [] fun _=>
 .ret (n.1,n.2,false)))
noncomputable def Ezx (c)(d)(e):=
 mkC [⟨351,Mzd⟩] hd Tryz.func312 (by kernel_rfl) (Ezy c d e) 0 [.pure (dz9 c),pz d,.pure (gzh e)] [] (fun r=>.tup [.agg [.vec 0,.vec 1],.pure (.bool r.2.2)]) (fun r=>[(0,vecO 1 (encL 1 az1) r.1 50),(1,vecO 12 az6 r.2.1 363)]) (by kernel_rfl)
noncomputable def vzd (c:bz2):T Ak:=
 .cc (Ezx (⟨c.Points,c.Edges⟩:bz2) (-1) (⟨0,nl,(⟨0,0,nl⟩:azm),(⟨0,nl,nl⟩:dzx)⟩:bzw)) fun d=>
 .unroll 998<|
 .ret (d.1,d.2.1)
noncomputable def vzc (c):=
 mkD Tryz.func269 (vzd c) 0 [.pure (dz9 c)] [] (fun _=>.agg [.vec 0,.vec 1]) (fun r=>[(0,vecO 1 (encL 1 az1) r.1 50),(1,vecO 12 az6 r.2 363)])
noncomputable def zzj (c:bz2)(d:Int):T Bool:=
 .br (decide (d≥0))
 (.ret (decide (d<(c.Points.length:Int))))
 (.ret false)
noncomputable def fz7 (c)(d):=
 mkD Tryz.func278 (zzj c d) 0 [.pure (dz9 c),pz d] [] (fun r=>.pure (.bool r)) (fun _=>[])
noncomputable def rzu (c:az9)(d:Ay):T Int:=
 .ix 0 2 rfl<|
 .cc (dzw c.U d.1) fun e=>
 .ix 1 2 rfl<|
 .cc (dzw c.V d.2) fun f=>let g:=([e,f]:A0);
 .conv 1010 (bzl 1 az1 g 3)<|
 .cc (pzl g) fun h=>
 .ret h
noncomputable def gzf (c)(d):=
 mkD Tryz.func324 (rzu c d) 0 [.pure (az6 c),.pure (az4 d)] [] (fun r=>pz r) (fun _=>[])
noncomputable def tzd (c:bz2):T Bool:=let d:=(c.Edges.length:Int);let e:Nat×Res:=(0,.box [.pure (encL 1 (encL 1 az1) c.Points),.pure (encL 12 az6 c.Edges)]);let f:=(⟨c.Points,c.Edges⟩:bz2);.cut 2 (fun (g:Bool)=>⟨[(1,.ptr 0 0),(14,.pure (.bool g))],[e],[],1⟩)
 (.br (decide ((c.Points.length:Int)>1024))
 (.oo true)
 (.oo (decide (d>8192)))) fun g=>
 .br g
 (.ret false)
 (.loop (fun (h:Int)=>⟨[(1,.ptr 0 0),(17,pz d),(18,pz h)],[e],[],1⟩)
 (.exit 0) (fun (_:U0)=>⟨[],[],[],0⟩)
 (fun h=>let i:=c.Edges.getD (h.toNat) default;let j:=i64.wrap (h-1);.br (decide (h<d))
 (.gh h c.Edges.length<|
 .cut 1 (fun (k:Bool)=>⟨[(1,.ptr 0 0),(3,pz h),(4,.ref (az6 i)),(17,pz d),(18,pz h),(65,.pure (.bool k))],[e],[],1⟩)
 (.cc (fz7 f (i.U)) fun k=>
 .br (!k)
 (.oo true)
 (.cc (fz7 f (i.V)) fun m=>
 .br (!m)
 (.oo true)
 (.br (decide ((i.U)≥(i.V)))
 (.oo true)
 (.br (decide ((i.Cost)<0))
 (.oo true)
 (.oo (decide ((i.Cost)>1099511627776))))))) fun k=>
 .br k
 (.ff false)
 (.cut 0 (fun (m:Bool)=>⟨[(1,.ptr 0 0),(17,pz d),(18,pz h),(86,.pure (.bool m))],[e],[],1⟩)
 (.br (decide (h>0))
 (.gh j c.Edges.length<|
 .call (gzf (c.Edges.getD (j.toNat) default) (i.U,i.V)) [] fun m=>
 .oo (decide (m≥0)))
 (.oo false)) fun m=>
 .br m
 (.ff false)
 (.nn (i64.wrap (h+1)))))
 (.oo .u))
 0 [] fun _=>
 .ret true)
noncomputable def lzh (c):=
 mkD Tryz.func277 (tzd c) 0 [.pure (dz9 c)] [] (fun r=>.pure (.bool r)) (fun _=>[])
noncomputable def Czx (c:Int)(d:Int):T Bool:=
 .br (d==0)
 (.ret (c==1))
 (.br (d==1)
 (.br (c==1)
 (.ret true)
 (.ret (c==0)))
 (.br (d==2)
 (.ret (c !=2))
 (.ret false)))
noncomputable def Czw (c)(d):=
 mkD Tryz.func360 (Czx c d) 0 [pz c,pz d] [] (fun r=>.pure (.bool r)) (fun _=>[])
set_option maxHeartbeats 8000000 in
set_option maxRecDepth 20000 in
noncomputable def Fz1 (c:bz2)(d:Int):T Aq:=let e:=(c.Edges.length:Int);let f:=(c.Points.length:Int);let g:Nat×Res:=(0,.box [.pure (encL 1 (encL 1 az1) c.Points),.pure (encL 12 az6 c.Edges)]);.unroll 1<|
 .conv 1003 (Uzt 2 bz3 437 f.toNat 439)<|
 .grd (0≤f/\f≤f/\f≤9223372036854775807/\f * 24≤140737488355328)<|
 .loop (fun (h:(Aq×Int))=>⟨[(1,pz d),(2,.ptr 0 0),(5,.vec 1),(14,pz e),(15,pz h.2)],[g,(1,Pzu 2 bz3 h.1 437 439)],[],2⟩)
 (.exit 0) (fun (h:Aq)=>⟨[(5,.vec 0)],[(0,Pzu 2 bz3 h 437 439)],[],1⟩)
 (fun h=>let i:=c.Edges.getD ((h.2).toNat) default;let j:=i.U;let k:=i.V;let m:=j.toNat;let n:=k.toNat;let s:=h.1.getD m default;let t:=([(⟨i.V,i.Cost⟩:azf)]:Ap);let w:=h.1.set m (s++t);let y:=w.getD n default;let z:=s.length+t.length;let aa:=([(⟨i.U,i.Cost⟩:azf)]:Ap);let ab:=y.length+aa.length;.br (decide (h.2<e))
 (.cut 0 (fun (ac:Aq)=>⟨[(1,pz d),(2,.ptr 0 0),(5,.vec 1),(14,pz e),(15,pz h.2)],[g,(1,Pzu 2 bz3 ac 437 439)],[],2⟩)
 (.gh h.2 c.Edges.length<|
 .cc (Czw (i.State) d) fun ac=>
 .br ac
 (.gg j h.1.length<|
 .conv 7021 (bzl 2 bz3 t 439)<|
 .conv 7022 (czq 2 bz3 s t 439)<|
 .grd (z * 16≤140737488355328/\z≤maxLen)<|
 .gh j h.1.length<|
 .conv 7024 (Szp 2 bz3 (s++t) 437 h.1 m 439)<|
 .grd (j.toNat<h.1.length/\j.toNat=j.toNat)<|
 .gg k (w.length)<|
 .conv 8021 (bzl 2 bz3 aa 439)<|
 .conv 8022 (czq 2 bz3 y aa 439)<|
 .grd (ab * 16≤140737488355328/\ab≤maxLen)<|
 .gh k (w.length)<|
 .conv 8024 (Szp 2 bz3 (y++aa) 437 w n 439)<|
 .grd (k.toNat<w.length/\k.toNat=k.toNat)<|
 .oo (w.set n (y++aa)))
 (.oo h.1)) fun ac=>
 .nn (ac,(i64.wrap (h.2+1))))
 (.oo h.1))
 ((List.replicate f.toNat (nl:Ap)),0) [] fun h=>
 .ret h
noncomputable def Fz0 (c)(d):=
 mkD Tryz.func315 (Fz1 c d) 0 [.pure (dz9 c),pz d] [] (fun r=>.pure (encL 1 (encL 2 bz3) r)) (fun _=>[])
noncomputable def Hzj (c:azk)(d:azk):T Bool:=
 .br (d.points==0)
 (.ret true)
 (.br (decide (c.cost<d.cost))
 (.ret true)
 (.br (c.cost==d.cost)
 (.ret (decide (c.points<d.points)))
 (.ret false)))
noncomputable def kzi (c)(d):=
 mkD Tryz.func356 (Hzj c d) 0 [.pure (bzn c),.pure (bzn d)] [] (fun r=>.pure (.bool r)) (fun _=>[])
set_option maxHeartbeats 8000000 in
set_option maxRecDepth 20000 in
noncomputable def Lzl (c:Ar):T (azt×Ar):=let d:=i64.wrap ((c.length:Int)-1);let e:=c.getD (d.toNat) default;let f:=c.set ((0:Int).toNat) e;let g:=c.getD ((0:Int).toNat) default;let h:Nat×Res:=(4,.box [pz (g.rank.cost),pz (g.rank.points),pz (g.point)]);.gg (0:Int) c.length<|
 .gg d c.length<|
 .gh (0:Int) c.length<|
 .conv 3006 (bze 3 azz c 433 ((0:Int).toNat) e)<|
 .gi (0:Int) c.length<|
 .conv 4002 (Oz0 3 azz f 433 d)<|
 .grd (0≤d/\d≤(f.length:Int)/\0≤d.toNat)<|
 .loop (fun (i:(Ar×Int))=>⟨[(0,.ptr 0 0),(2,.ptr 2 0),(3,.vec 3),(4,.ptr 4 0),(5,pz d),(6,pz i.2)],[(0,.box [.vec 1]),(1,.gone),(2,.box [pz 0,pz 0,pz 0]),(3,vecO 3 azz i.1 433),h],[],5⟩)
 (.exit 0) (fun (i:Ar)=>⟨[(0,.ptr 0 0),(2,.ptr 2 0),(3,.vec 3),(4,.ptr 4 0)],[(0,.box [.vec 1]),(1,.gone),(2,.box [pz 0,pz 0,pz 0]),(3,vecO 3 azz i 433),h],[],5⟩)
 (fun i=>let j:=(i.2).toNat;let k:=i64.wrap ((i64.wrap (2 * i.2))+1);let m:=i64.wrap (k+1);let n:=i.1.getD j default;.br (decide (k<d))
 (.cut 1 (fun (s:Int)=>⟨[(0,.ptr 0 0),(2,.ptr 2 0),(3,.vec 3),(4,.ptr 4 0),(5,pz d),(6,pz i.2),(7,pz s)],[(0,.box [.vec 1]),(1,.gone),(2,.box [pz 0,pz 0,pz 0]),(3,vecO 3 azz i.1 433),h],[],5⟩)
 (.cut 0 (fun (s:Bool)=>⟨[(0,.ptr 0 0),(2,.ptr 2 0),(3,.vec 3),(4,.ptr 4 0),(5,pz d),(6,pz i.2),(7,pz k),(51,.pure (.bool s))],[(0,.box [.vec 1]),(1,.gone),(2,.box [pz 0,pz 0,pz 0]),(3,vecO 3 azz i.1 433),h],[],5⟩)
 (.br (decide (m<d))
 (.gg m i.1.length<|
 .gg k i.1.length<|
 .call (kzi ((i.1.getD (m.toNat) default).rank) ((i.1.getD (k.toNat) default).rank)) [] fun s=>
 .oo s)
 (.oo false)) fun s=>
 .br s
 (.oo m)
 (.oo k)) fun s=>let t:=s.toNat;let w:=i.1.getD t default;let y:=i.1.set j w;
 .gg s i.1.length<|
 .gg i.2 i.1.length<|
 .cc (kzi (w.rank) (n.rank)) fun z=>
 .br (!z)
 (.oo i.1)
 (.gg s i.1.length<|
 .gg i.2 i.1.length<|
 .gh i.2 i.1.length<|
 .conv 11013 (bze 3 azz i.1 433 j w)<|
 .gi (i.2) i.1.length<|
 .gh s (y.length)<|
 .conv 11015 (bze 3 azz y 433 t n)<|
 .gi (s) (y.length)<|
 .nn ((y.set t n),s)))
 (.oo i.1))
 ((f.take (d.toNat)),0) [] fun i=>
 .ret (g,i)
noncomputable def Lzk (c):=
 mkD Tryz.func355 (Lzl c) 2 [.ptr 0 0] [(0,.box [.vec 1]),(1,vecO 3 azz c 433)] (fun r=>.pure (azz r.1)) (fun r=>[(0,.box [.vec 2]),(1,.gone),(2,vecO 3 azz r.2 433)])
noncomputable def Kz0 (c:Ar)(d:azt):T Ar:=let e:=([d]:Ar);let f:=c.length+e.length;.conv 1004 (bzl 3 azz e 433)<|
 .conv 1005 (czq 3 azz c e 433)<|
 .grd (f * 24≤140737488355328/\f≤maxLen)<|
 .loop (fun (g:(Ar×Int))=>⟨[(0,.ptr 0 0),(4,.vec 2),(5,pz g.2)],[(0,.box [.vec 1]),(1,.gone),(2,vecO 3 azz g.1 433)],[],3⟩)
 (.exit 0) (fun (g:Ar)=>⟨[(0,.ptr 0 0),(4,.vec 2)],[(0,.box [.vec 1]),(1,.gone),(2,vecO 3 azz g 433)],[],3⟩)
 (fun g=>let h:=(g.2).toNat;let i:=g.1.getD h default;.br (decide (g.2>0))
 (.ok ((2:Int)≠0) (by decide)<|
 .name 4002 ((i64.wrap ((i64.wrap (g.2-1)).tdiv 2))) fun j=>let k:=j.toNat;let m:=g.1.getD k default;let n:=g.1.set h m;
 .gg g.2 g.1.length<|
 .gg j g.1.length<|
 .cc (kzi (i.rank) (m.rank)) fun s=>
 .br (!s)
 (.oo g.1)
 (.gg j g.1.length<|
 .gg g.2 g.1.length<|
 .gh g.2 g.1.length<|
 .conv 6013 (bze 3 azz g.1 433 h m)<|
 .gi (g.2) g.1.length<|
 .gh j (n.length)<|
 .conv 6015 (bze 3 azz n 433 k i)<|
 .gi (j) (n.length)<|
 .nn ((n.set k i),j)))
 (.oo g.1))
 ((c++e),(i64.wrap ((((c++e).length:Nat):Int)-1))) [] fun g=>
 .ret g
noncomputable def Jzz (c)(d):=
 mkD Tryz.func357 (Kz0 c d) 2 [.ptr 0 0,.pure (azz d)] [(0,.box [.vec 1]),(1,vecO 3 azz c 433)] (fun _=>.tup []) (fun r=>[(0,.box [.vec 2]),(1,.gone),(2,vecO 3 azz r 433)])
noncomputable def tzc (c:azf)(d:As)(e:Int):T (Bool×As×Int):=let f:=d.getD ((c.to).toNat) default;let g:=d.getD (e.toNat) default;.gg c.to d.length<|
 .gg e d.length<|
 .br ((f.points)==(i64.wrap ((g.points)-1)))
 (.gg e d.length<|
 .ret (((i64.wrap ((f.cost)+c.cost))==(g.cost)),d,e))
 (.ret (false,d,e))
noncomputable def tzb (c)(d)(e):=
 mkD Tryz.func359 (tzc c d e) 3 [.pure (bz3 c),.ptr 0 0,.ptr 2 0] [(0,.box [.vec 1]),(1,vecO 2 bzn d 431),(2,.box [pz e])] (fun r=>.pure (.bool r.1)) (fun r=>[(0,.box [.vec 1]),(1,vecO 2 bzn r.2.1 431),(2,.box [pz r.2.2])])
noncomputable def fz9 (c:Ap)(d:As)(e:Int):T (Int×As×Int):=let f:=(c.length:Nat);.loop (fun (g:(As×Int×Int))=>⟨[(0,.pure (encL 2 bz3 c)),(1,.func 359 [] [.ptr 0 0,.ptr 2 0]),(7,pz (f:Int)),(8,pz g.2.2)],[(0,.box [.vec 1]),(1,vecO 2 bzn g.1 431),(2,.box [pz g.2.1])],[],3⟩)
 (.exit 0) (fun (g:(As×Int))=>⟨[],[(0,.box [.vec 1]),(1,vecO 2 bzn g.1 431),(2,.box [pz g.2])],[],3⟩)
 (fun g=>.br (decide (g.2.2<(f:Int)))
 (.gh g.2.2 c.length<|
 .call (tzb (c.getD ((g.2.2).toNat) default) g.1 g.2.1) [(0,0),(1,1),(2,2)] fun h=>
 .br h.1
 (.ff (g.2.2,h.2.1,h.2.2))
 (.nn (h.2.1,h.2.2,(i64.wrap (g.2.2+1)))))
 (.oo (g.1,g.2.1)))
 (d,e,0) [] fun g=>
 .ret ((-1),g.1,g.2)
noncomputable def fz8 (c)(d)(e):=
 mkD Tryz.func358 (fz9 c d e) 3 [.pure (encL 2 bz3 c),.func 359 [] [.ptr 0 0,.ptr 2 0]] [(0,.box [.vec 1]),(1,vecO 2 bzn d 431),(2,.box [pz e])] (fun r=>pz r.1) (fun r=>[(0,.box [.vec 1]),(1,vecO 2 bzn r.2.1 431),(2,.box [pz r.2.2])])
open Go.Proofs
set_option maxHeartbeats 8000000 in
set_option maxRecDepth 20000 in
noncomputable def xza (c:Aq)(d:Int)(e:Int):T (A0×Int×Bool):=let f:=e.toNat;let g:=(c.length:Int);let h:=([d]:A0);let i:=encL 1 (encL 2 bz3) c;let j:=List.replicate g.toNat ((⟨0,0⟩:azk):azk);let k:=j.set f (⟨0,1⟩:azk);let m:=([(⟨(k.getD f default),e⟩:azt)]:Ar);.conv 1002 (rzh 2 bzn 431 g.toNat (⟨0,0⟩:azk))<|
 .grd (0≤g/\g≤g/\g≤9223372036854775807/\g * 16≤140737488355328)<|
 .gh e (j.length)<|
 .conv 2004 (bze 2 bzn j 431 f (⟨0,1⟩:azk))<|
 .gi (e) (j.length)<|
 .gg e (k.length)<|
 .conv 3006 (bzl 3 azz m 433)<|
 .loop (fun (n:(As×Ar))=>⟨[(0,.pure i),(1,pz d),(2,pz e),(6,.ptr 0 0),(8,.ptr 2 0),(9,.ptr 4 0)],[(0,.box [.vec 1,pz 0]),(1,.nilv),(2,.box [.vec 3]),(3,vecO 2 bzn n.1 431),(4,.box [.vec 5]),(5,vecO 3 azz n.2 433)],[],6⟩)
 (.exit 0) (fun (n:As)=>⟨[(0,.pure i),(1,pz d),(2,pz e),(6,.ptr 0 0),(8,.ptr 2 0)],[(0,.box [.vec 1,pz 0]),(1,.nilv),(2,.box [.vec 3]),(3,vecO 2 bzn n 431)],[],4⟩)
 (fun n=>.name 4001 ((n.2.length:Int)) fun s=>
 .br (decide (s>0))
 (.call (Lzk n.2) [(0,4),(1,5)] fun t=>let w:=(t.1.point).toNat;let y:=c.getD w default;let z:=encL 2 bz3 y;let aa:=(y.length:Int);let ab:=n.1.getD w default;let ac:Nat×Res:=(6,.box [pz t.1.rank.cost,pz t.1.rank.points,pz t.1.point]);
 .br (t.1.point==d)
 (.oo n.1)
 (.gg t.1.point n.1.length<|
 .br (!((t.1.rank.cost==(ab.cost))&&((t.1.rank.points==(ab.points))&&true)))
 (.nn (n.1,t.2))
 (.gh t.1.point c.length<|
 .loop (fun (ad:(As×Ar×Int))=>⟨[(0,.pure i),(1,pz d),(2,pz e),(6,.ptr 0 0),(8,.ptr 2 0),(9,.ptr 4 0),(10,.ptr 6 0),(53,.pure z),(54,pz aa),(55,pz ad.2.2)],[(0,.box [.vec 1,pz 0]),(1,.nilv),(2,.box [.vec 3]),(3,vecO 2 bzn ad.1 431),(4,.box [.vec 5]),(5,vecO 3 azz ad.2.1 433),ac],[],7⟩)
 (.exit 3) (fun (ad:(As×Ar))=>⟨[(0,.pure i),(1,pz d),(2,pz e),(6,.ptr 0 0),(8,.ptr 2 0),(9,.ptr 4 0)],[(0,.box [.vec 1,pz 0]),(1,.nilv),(2,.box [.vec 3]),(3,vecO 2 bzn ad.1 431),(4,.box [.vec 5]),(5,vecO 3 azz ad.2 433)],[],6⟩)
 (fun ad=>let ae:=y.getD ((ad.2.2).toNat) default;let af:=ae.to;let ag:=af.toNat;.br (decide (ad.2.2<aa))
 (.cut 0 (fun (ah:(As×Ar))=>⟨[(0,.pure i),(1,pz d),(2,pz e),(6,.ptr 0 0),(8,.ptr 2 0),(9,.ptr 4 0),(10,.ptr 6 0),(53,.pure z),(54,pz aa),(55,pz ad.2.2)],[(0,.box [.vec 1,pz 0]),(1,.nilv),(2,.box [.vec 3]),(3,vecO 2 bzn ah.1 431),(4,.box [.vec 5]),(5,vecO 3 azz ah.2 433),ac],[],7⟩)
 (.gh ad.2.2 (y.length)<|
 .name 11005 ((i64.wrap (t.1.rank.cost+(ae.cost)))) fun ah=>let ai:=(⟨ah,(i64.wrap (t.1.rank.points+1))⟩:azk);
 .gg af ad.1.length<|
 .call (kzi ai (ad.1.getD ag default)) [] fun aj=>
 .br aj
 (.gh af ad.1.length<|
 .conv 13005 (bze 2 bzn ad.1 431 ag ai)<|
 .gi af ad.1.length<|
 .call (Jzz ad.2.1 (⟨ai,ae.to⟩:azt)) [(0,4),(1,5)] fun ak=>
 .oo ((ad.1.set ag ai),ak))
 (.oo (ad.1,ad.2.1))) fun ah=>
 .nn (ah.1,ah.2,(i64.wrap (ad.2.2+1))))
 (.oo (ad.1,ad.2.1)))
 (n.1,t.2,0) [] fun ad=>
 .nn (ad.1,ad.2))))
 (.oo n.1))
 (k,m) [] fun n=>let s:=n.getD (d.toNat) default;
 .gg d n.length<|
 .br ((s.points)==0)
 (.ret (nl,0,false))
 (.conv 18001 (bzl 1 az1 h 3)<|
 .gg d n.length<|
 .loop (fun (t:(As×A0×Int))=>⟨[(0,.pure i),(2,pz e),(6,.ptr 0 0),(8,.ptr 2 0),(14,.ptr 4 0),(15,.ptr 6 0)],[(0,.box [.vec 1,pz 0]),(1,.nilv),(2,.box [.vec 3]),(3,vecO 2 bzn t.1 431),(4,.box [.vec 5,pz (s.cost)]),(5,vecO 1 az1 t.2.1 3),(6,.box [pz t.2.2])],[],7⟩)
 (.exit 5) (fun (t:A0)=>⟨[(6,.ptr 0 0),(14,.ptr 2 0)],[(0,.box [.vec 1,pz 0]),(1,.nilv),(2,.box [.vec 3,pz (s.cost)]),(3,vecO 1 az1 t 3)],[],4⟩)
 (fun t=>.br (t.2.2 !=e)
 (.gh t.2.2 c.length<|
 .call (fz8 (c.getD ((t.2.2).toNat) default) t.1 t.2.2) [(0,2),(1,3),(2,6)] fun w=>let y:=c.getD ((w.2.2).toNat) default;let z:=y.getD ((w.1).toNat) default;let aa:=([z.to]:A0);let ab:=t.2.1.length+aa.length;
 .gh w.2.2 c.length<|
 .gh w.1 (y.length)<|
 .conv 23003 (bzl 1 az1 aa 3)<|
 .conv 23004 (czq 1 az1 t.2.1 aa 3)<|
 .grd (ab * 8≤140737488355328/\ab≤maxLen)<|
 .nn (w.2.1,(t.2.1++aa),z.to))
 (.oo t.2.1))
 (n,h,d) [] fun t=>
 .ret (t,s.cost,true))
noncomputable def xz9 (c)(d)(e):=
 mkD Tryz.func314 (xza c d e) 0 [.pure (encL 1 (encL 2 bz3) c),pz d,pz e] [] (fun r=>.tup [.agg [.vec 0,pz r.2.1],.pure (.bool r.2.2)]) (fun r=>[(0,vecO 1 az1 r.1 3)])
noncomputable def dz6 (c:Aj)(d:Ay):T B7:=let e:=encL 12 az6 c;let f:=(c.length:Int);let g:Nat×Res:=(0,.box [pz d.1,pz d.2]);.loop (fun (h:Ay)=>⟨[(0,.pure e),(2,.func 324 [] []),(4,.ptr 0 0),(8,pz f),(9,pz h.1),(10,pz h.2)],[g],[],1⟩)
 (.exit 0) (fun (h:Int)=>⟨[(0,.pure e),(2,.func 324 [] []),(4,.ptr 0 0),(8,pz f),(9,pz h)],[g],[],1⟩)
 (fun h=>.br (decide (h.1<h.2))
 (.ok (0≤(1:Int)) (by decide)<|
 .name 4005 ((i64.wrap ((IntKind.u64.wrap (i64.wrap (h.1+h.2))).fdiv (2 ^ (min (1:Int).toNat 64))))) fun i=>
 .gh i c.length<|
 .cc (gzf (c.getD (i.toNat) default) d) fun j=>
 .br (decide (j<0))
 (.nn ((i64.wrap (i+1)),h.2))
 (.nn (h.1,i)))
 (.oo h.1))
 (0,f) [] fun h=>
 .br (decide (h<f))
 (.gh h c.length<|
 .cc (gzf (c.getD (h.toNat) default) d) fun i=>
 .ret (h,(i==0)))
 (.ret (h,false))
noncomputable def dz5 (c)(d):=
 mkD Tryz.func329 (dz6 c d) 0 [.pure (encL 12 az6 c),.pure (az4 d),.func 324 [] []] [] (fun r=>.tup [pz r.1,.pure (.bool r.2)]) (fun _=>[])
noncomputable def zzi (c:bz2)(d:Int)(e:Int):T B7:=
 .cc (dz5 c.Edges ((min d e),(max d e))) fun f=>
 .ret (f.1,f.2)
noncomputable def pz8 (c)(d)(e):=
 mkD Tryz.func281 (zzi c d e) 0 [.pure (dz9 c),pz d,pz e] [] (fun r=>.tup [pz r.1,.pure (.bool r.2)]) (fun _=>[])
noncomputable def Hzz (c:bz2)(d:Int)(e:Int):T C0:=let f:Nat×Res:=(0,.box [.pure (encL 1 (encL 1 az1) c.Points),.pure (encL 12 az6 c.Edges)]);let g:=(⟨c.Points,c.Edges⟩:bz2);.cut 3 (fun (h:Bool)=>⟨[(1,pz d),(2,pz e),(3,.ptr 0 0),(6,.ptr 1 0),(7,.ptr 2 0),(8,.ptr 4 0),(29,.pure (.bool h))],[f,(1,.box [pz 0]),(2,.box [.vec 3,pz 0]),(3,.nilv),(4,.box [pz 0])],[.func 313 [] [.ptr 1 0,.ptr 2 0,.ptr 4 0]],5⟩)
 (.cc (lzh g) fun h=>
 .br (!h)
 (.oo true)
 (.cc (fz7 g d) fun i=>
 .br (!i)
 (.oo true)
 (.cc (fz7 g e) fun j=>
 .oo (!j)))) fun h=>
 .br h
 (.ret ((-1),nl,0,0))
 (.cc (Fz0 g 1) fun i=>
 .cc (xz9 i d e) fun j=>let k:=(j.1.length:Int);let m:=k.toNat- (1:Int).toNat;let n:=(m:Int);
 .br (!j.2.2)
 (.ret ((-1),nl,0,2))
 (.unroll 2<|
 .grd (0≤(1:Int)/\(1:Int)≤k/\k≤k)<|
 .loop (fun (s:Int)=>⟨[(3,.ptr 0 0),(6,.ptr 1 0),(7,.ptr 2 0),(8,.ptr 4 0),(44,.view 3 1 ((1:Int).toNat) m),(45,pz n),(46,pz s)],[f,(1,.box [pz 0]),(2,.box [.vec 3,pz j.2.1]),(3,vecO 1 az1 j.1 3),(4,.box [pz 0])],[.func 313 [] [.ptr 1 0,.ptr 2 0,.ptr 4 0]],5⟩)
 (.exit 0) (fun (_:U0)=>⟨[(6,.ptr 0 0),(7,.ptr 1 0),(8,.ptr 3 0)],[(0,.box [pz 0]),(1,.box [.vec 2,pz j.2.1]),(2,vecO 1 az1 j.1 3),(3,.box [pz 0])],[.func 313 [] [.ptr 0 0,.ptr 1 0,.ptr 3 0]],4⟩)
 (fun s=>let t:=((1:Int).toNat)+(s.toNat);.br (decide (s<n))
 (.gh s m<|
 .grd (t<j.1.length)<|
 .gg s j.1.length<|
 .cc (pz8 g (j.1.getD (s.toNat) default) (j.1.getD t default)) fun w=>
 .gh w.1 c.Edges.length<|
 .br (((c.Edges.getD ((w.1).toNat) default).State)==0)
 (.ff (w.1,j.1,j.2.1,3))
 (.nn (i64.wrap (s+1))))
 (.oo .u))
 0 [] fun _=>
 .ret ((-1),j.1,j.2.1,1)))
noncomputable def Hzy (c)(d)(e):=
 mkC [⟨313,Qzo⟩] hd Tryz.func270 (by kernel_rfl) (Hzz c d e) 0 [.pure (dz9 c),pz d,pz e] [] (fun r=>.tup [pz r.1,.agg [.vec 0,pz r.2.2.1],pz r.2.2.2]) (fun r=>[(0,vecO 1 az1 r.2.1 3)]) (by kernel_rfl)
noncomputable def Czv (a0:A1)(a1:Aj)(a2:Int)(a3:Int):CallS C0:=
 Wz1 (Hzy (⟨a0,a1⟩:bz2) a2 a3) 270 2 [.agg [.vec 0,.vec 1],pz a2,pz a3] [(0,vecO 1 (encL 1 az1) a0 50),(1,vecO 12 az6 a1 363)] rfl rfl rfl rfl (by kernel_rfl) rfl (fun _=>rfl) (fun _=>⟨fun _=>rfl,trivial⟩)
noncomputable def kzm (a0:A1):T A1:=
 (match a0 with
  |[]=>.unroll 1<|
  .grd (a0.length=0)<|
  .both
   (.ret nl)
   (.conv 3000 (bzl 1 (encL 1 az1) ([]:A1) 50)<|
   .conv 3002 (czq 1 (encL 1 az1) ([]:A1) a0 50)<|
   .grd ((([]:A1).length+a0.length) * 24≤140737488355328/\(([]:A1).length+a0.length)≤maxLen)<|
   .ret (([]:A1)++a0))
  |_::_=>.grd (0<a0.length)<|
  .conv 3000 (bzl 1 (encL 1 az1) ([]:A1) 50)<|
  .conv 3002 (czq 1 (encL 1 az1) ([]:A1) a0 50)<|
  .grd ((([]:A1).length+a0.length) * 24≤140737488355328/\(([]:A1).length+a0.length)≤maxLen)<|
  .ret (([]:A1)++a0))
noncomputable def kzl (a0:A1):CallS A1:=
 mkH [] hd Tryz.func384 (by kernel_rfl) (kzm a0) 1 [.vec 0] [(0,vecO 1 (encL 1 az1) a0 50)] (fun _=>.vec 1) (fun r=>[(0,vecO 1 (encL 1 az1) a0 50),(1,vecO 1 (encL 1 az1) r 50)]) (by cases a0<;>exact Ob.of_side (by kernel_rfl))
noncomputable def ezg (c:Aj)(d:Nat)(e:Nat):T Aj:=let f:=([]:Aj).length+e;.grd (0<c.length)<|
 .conv 3000 (bzl 12 az6 ([]:Aj) 363)<|
 .conv 3002 (Tzb 12 az6 c ([]:Aj) 363 e d 160)<|
 .grd (f * 160≤140737488355328/\f≤maxLen/\d+e≤c.length)<|
 .ret (([]:Aj)++((c.drop d).take e))
noncomputable def ezf (c)(d)(e):=
 mkD Tryz.func401 (ezg c d e) 1 [.view 0 12 d e] [(0,vecO 12 az6 c 363)] (fun _=>.vec 1) (fun r=>[(0,vecO 12 az6 c 363),(1,vecO 12 az6 r 363)])
noncomputable def xz1 (c:A1)(d:Aj)(e:Nat)(f:Nat):T Ak:=
 .call (kzl c) [(0,0)] fun g=>let h:=(g.length:Nat);
 .call (ezf d e f) [(0,1)] fun i=>let j:=(i.length:Nat);
 .loop (fun (k:Ao)=>⟨[(2,.ptr 2 0),(3,.vec 5),(4,.vec 6),(15,.vec 5),(16,pz (h:Int)),(17,pz k.2)],[(0,vecO 1 (encL 1 az1) c 50),(1,vecO 12 az6 d 363),(2,.box [.vec 3,.vec 4]),(3,.nilv),(4,.nilv),(5,vecO 1 (encL 1 az1) k.1 50),(6,vecO 12 az6 i 363)],[],7⟩)
 (.exit 0) (fun (k:A1)=>⟨[(2,.ptr 2 0),(3,.vec 5),(4,.vec 6)],[(0,vecO 1 (encL 1 az1) c 50),(1,vecO 12 az6 d 363),(2,.box [.vec 3,.vec 4]),(3,.nilv),(4,.nilv),(5,vecO 1 (encL 1 az1) k 50),(6,vecO 12 az6 i 363)],[],7⟩)
 (fun k=>let m:=(k.2).toNat;.br (decide (k.2<(h:Int)))
 (.gg k.2 k.1.length<|
 .cc (bzy (k.1.getD m default)) fun n=>
 .gh k.2 k.1.length<|
 .conv 5005 (bze 1 (encL 1 az1) k.1 50 m n)<|
 .gi (k.2) k.1.length<|
 .nn ((k.1.set m n),(i64.wrap (k.2+1))))
 (.oo k.1))
 (g,0) [] fun k=>
 .loop (fun (m:Al)=>⟨[(2,.ptr 2 0),(3,.vec 5),(4,.vec 6),(28,.vec 6),(29,pz (j:Int)),(30,pz m.2)],[(0,vecO 1 (encL 1 az1) c 50),(1,vecO 12 az6 d 363),(2,.box [.vec 3,.vec 4]),(3,.nilv),(4,.nilv),(5,vecO 1 (encL 1 az1) k 50),(6,vecO 12 az6 m.1 363)],[],7⟩)
 (.exit 2) (fun (m:Aj)=>⟨[(2,.ptr 2 0),(3,.vec 5),(4,.vec 6)],[(0,vecO 1 (encL 1 az1) c 50),(1,vecO 12 az6 d 363),(2,.box [.vec 3,.vec 4]),(3,.nilv),(4,.nilv),(5,vecO 1 (encL 1 az1) k 50),(6,vecO 12 az6 m 363)],[],7⟩)
 (fun m=>let n:=(m.2).toNat;let s:=m.1.getD n default;.br (decide (m.2<(j:Int)))
 (.gg m.2 m.1.length<|
 .cc (ezd (s.Proof)) fun t=>let w:=(⟨s.U,s.V,s.Cost,s.State,t⟩:az9);
 .gh m.2 m.1.length<|
 .conv 10007 (bze 12 az6 m.1 363 n w)<|
 .gi (m.2) m.1.length<|
 .nn ((m.1.set n w),(i64.wrap (m.2+1))))
 (.oo m.1))
 (i,0) [] fun m=>
 .ret (k,m)
noncomputable def xz0 (c)(d)(e)(f):=
 mkD Tryz.func352 (xz1 c d e f) 2 [.agg [.vec 0,.view 1 12 e f]] [(0,vecO 1 (encL 1 az1) c 50),(1,vecO 12 az6 d 363)] (fun _=>.agg [.vec 2,.vec 3]) (fun r=>[(0,vecO 1 (encL 1 az1) c 50),(1,vecO 12 az6 d 363),(2,vecO 1 (encL 1 az1) r.1 50),(3,vecO 12 az6 r.2 363)])
set_option maxHeartbeats 8000000 in
set_option maxRecDepth 20000 in
noncomputable def zzd (c:A1)(d:Aj)(e:Nat)(f:Nat)(g:Int)(h:bzw):T Bf:=let i:=g.toNat;let j:=d.getD (e+i) default;let k:=encL 3 azo h.Pieces;let m:=encL 3 az2 h.At.Normals;let n:=encL 1 az1 h.Witness.Left;let s:=encL 1 az1 h.Witness.Right;let t:Nat×Res:=(2,.box [pz h.Kind,.pure k,pz h.At.Depth,pz h.At.Index,.pure m,pz h.Witness.Pair,.pure n,.pure s]);.call (xz0 c d e f) [(0,0),(1,1)] fun w=>let y:=w.2.getD i default;
 .cut 1 (fun (z:Bool)=>⟨[(1,pz g),(3,.ptr 2 0),(5,.ptr 3 0),(6,.ptr 4 0),(7,.ptr 7 0),(22,.pure (.bool z))],[(0,vecO 1 (encL 1 az1) c 50),(1,vecO 12 az6 d 363),(2,.box [.vec 0,.view 1 12 e f]),(3,.box [pz h.Kind,.pure k,pz h.At.Depth,pz h.At.Index,.pure m,pz h.Witness.Pair,.pure n,.pure s]),(4,.box [.vec 5,.vec 6]),(5,vecO 1 (encL 1 az1) w.1 50),(6,vecO 12 az6 w.2 363),(7,.box [.ff])],[.func 351 [] [.ptr 4 0,.ptr 7 0]],8⟩)
 (.br (decide (g<0))
 (.oo true)
 (.oo (decide (g≥(f:Int))))) fun z=>
 .br z
 (.ret (w.1,w.2,false))
 (.gh g f<|
 .grd ((e+i)<d.length)<|
 .cut 0 (fun (aa:Bool)=>⟨[(1,pz g),(5,.ptr 2 0),(6,.ptr 3 0),(7,.ptr 6 0),(35,.pure (.bool aa))],[(0,vecO 1 (encL 1 az1) c 50),(1,vecO 12 az6 d 363),t,(3,.box [.vec 4,.vec 5]),(4,vecO 1 (encL 1 az1) w.1 50),(5,vecO 12 az6 w.2 363),(6,.box [.ff])],[.func 351 [] [.ptr 3 0,.ptr 6 0]],7⟩)
 (.br ((j.State)==1)
 (.oo true)
 (.oo ((j.State)==2))) fun aa=>
 .br aa
 (.ret (w.1,w.2,false))
 (.conv 8000 (bzl 1 az1 ([1,2,3]:A0) 3)<|
 .loop (fun (ab:Int)=>⟨[(1,pz g),(5,.ptr 2 0),(6,.ptr 3 0),(7,.ptr 6 0),(37,.vec 7),(38,pz ((([1,2,3]:A0).length:Nat):Int)),(39,pz ab)],[(0,vecO 1 (encL 1 az1) c 50),(1,vecO 12 az6 d 363),t,(3,.box [.vec 4,.vec 5]),(4,vecO 1 (encL 1 az1) w.1 50),(5,vecO 12 az6 w.2 363),(6,.box [.ff]),(7,vecO 1 az1 ([1,2,3]:A0) 3)],[.func 351 [] [.ptr 3 0,.ptr 6 0]],8⟩)
 (.exit 0) (fun (_:U0)=>⟨[(6,.ptr 2 0),(7,.ptr 5 0)],[(0,vecO 1 (encL 1 az1) c 50),(1,vecO 12 az6 d 363),(2,.box [.vec 3,.vec 4]),(3,vecO 1 (encL 1 az1) w.1 50),(4,vecO 12 az6 w.2 363),(5,.box [.ff])],[.func 351 [] [.ptr 2 0,.ptr 5 0]],6⟩)
 (fun ab=>let ac:=([1,2,3]:A0).getD (ab.toNat) default;let ad:=(⟨y.U,y.V,y.Cost,ac,y.Proof⟩:az9);let ae:=w.2.set i ad;let af:=ae.getD i default;.br (decide (ab<((([1,2,3]:A0).length:Nat):Int)))
 (.gg ab (([1,2,3]:A0).length)<|
 .cc (szd ac) fun ag=>
 .br (ag==h.Kind)
 (.gh g w.2.length<|
 .conv 12006 (bze 12 az6 w.2 363 i ad)<|
 .gi (g) w.2.length<|
 .cc (ezd h) fun ah=>let ai:=(⟨af.U,af.V,af.Cost,af.State,ah⟩:az9);
 .gh g (ae.length)<|
 .conv 13007 (bze 12 az6 ae 363 i ai)<|
 .gi (g) (ae.length)<|
 .ff (w.1,(ae.set i ai),true))
 (.nn (i64.wrap (ab+1))))
 (.oo .u))
 0 [] fun _=>
 .ret (w.1,w.2,false)))
noncomputable def pz6 (c)(d)(e)(f)(g)(h):=
 mkC [⟨351,Mzd⟩] hd Tryz.func312 (by kernel_rfl) (zzd c d e f g h) 2 [.agg [.vec 0,.view 1 12 e f],pz g,.pure (gzh h)] [(0,vecO 1 (encL 1 az1) c 50),(1,vecO 12 az6 d 363)] (fun r=>.tup [.agg [.vec 2,.vec 3],.pure (.bool r.2.2)]) (fun r=>[(0,vecO 1 (encL 1 az1) c 50),(1,vecO 12 az6 d 363),(2,vecO 1 (encL 1 az1) r.1 50),(3,vecO 12 az6 r.2.1 363)]) (by kernel_rfl)
noncomputable def rzv (c:A1)(d:Aj)(e:Nat)(f:Nat):T Ak:=
 .call (pz6 c d e f (-1) (⟨0,nl,(⟨0,0,nl⟩:azm),(⟨0,nl,nl⟩:dzx)⟩:bzw)) [(0,0),(1,1)] fun g=>
 .ret (g.1,g.2.1)
noncomputable def kzc (c)(d)(e)(f):=
 mkD Tryz.func269 (rzv c d e f) 2 [.agg [.vec 0,.view 1 12 e f]] [(0,vecO 1 (encL 1 az1) c 50),(1,vecO 12 az6 d 363)] (fun _=>.agg [.vec 2,.vec 3]) (fun r=>[(0,vecO 1 (encL 1 az1) c 50),(1,vecO 12 az6 d 363),(2,vecO 1 (encL 1 az1) r.1 50),(3,vecO 12 az6 r.2 363)])
noncomputable def vzb (c:A1)(_a1:Aj)(_a2:Nat)(_a3:Nat)(d:Int):T Bool:=
 .br (decide (d≥0))
 (.ret (decide (d<(c.length:Int))))
 (.ret false)
noncomputable def mzi (c)(d)(e)(f)(g):=
 mkD Tryz.func278 (vzb c d e f g) 2 [.agg [.vec 0,.view 1 12 e f],pz g] [(0,vecO 1 (encL 1 az1) c 50),(1,vecO 12 az6 d 363)] (fun r=>.pure (.bool r)) (fun _=>[(0,vecO 1 (encL 1 az1) c 50),(1,vecO 12 az6 d 363)])
noncomputable def wz8 (c:A0)(d:A0)(e:Int):T Bool:=
 .br ((c.length:Int)==(d.length:Int))
 (.cc (gzg c) fun f=>
 .br f
 (.cc (gzg d) fun g=>
 .br g
 (.br (decide (0≤e))
 (.ret (decide (e≤20)))
 (.ret false))
 (.ret false))
 (.ret false))
 (.ret false)
noncomputable def wz7 (c)(d)(e):=
 mkD Tryz.func332 (wz8 c d e) 0 [.pure (encL 1 az1 c),.pure (encL 1 az1 d),pz e] [] (fun r=>.pure (.bool r)) (fun _=>[])
noncomputable def Gz9 (c:Int)(d:Int):T Int:=
 .grd (0≤d)<|
 .ret (c.fdiv (2 ^ (min d.toNat 64)))
noncomputable def tzn (c)(d):=
 mkD Tryz.func335 (Gz9 c d) 0 [pz c,pz d] [] (fun r=>pz r) (fun _=>[])
noncomputable def yzi (c:Int)(d:Int)(e:Int)(f:Int):T (az0×Int×Int):=let g:=i64.wrap (d-c);let h:=i64.wrap (e * g);let i:=i64.wrap ((i64.wrap (e+1)) * g);.name 2003 ((min h i)) fun j=>
 .cc (tzn j f) fun k=>
 .name 2010 ((max h i)) fun m=>
 .cc (tzn (i64.wrap (0-m)) f) fun n=>
 .ret ((⟨(i64.wrap (c+k)),(i64.wrap (c-n))⟩:az0),e,f)
noncomputable def yzh (c)(d)(e)(f):=
 mkD Tryz.func334 (yzi c d e f) 2 [pz c,pz d,.ptr 0 0,.ptr 1 0] [(0,.box [pz e]),(1,.box [pz f])] (fun r=>.pure (azd r.1)) (fun r=>[(0,.box [pz r.2.1]),(1,.box [pz r.2.2])])
noncomputable def fzl (c:A0)(d:A0)(e:Int)(f:Int):T (Af×Int×Int):=let g:=(c.length:Int);.conv 1002 (rzh 2 azd 126 g.toNat (⟨0,0⟩:az0))<|
 .grd (0≤g/\g≤g/\g≤9223372036854775807/\g * 16≤140737488355328)<|
 .loop (fun (h:(Int×Int×Af×Int))=>⟨[(1,.pure (encL 1 az1 d)),(2,.func 334 [] [.ptr 0 0,.ptr 1 0]),(7,.vec 2),(13,.pure (encL 1 az1 c)),(14,pz g),(15,pz h.2.2.2)],[(0,.box [pz h.1]),(1,.box [pz h.2.1]),(2,vecO 2 azd h.2.2.1 126)],[],3⟩)
 (.exit 0) (fun (h:(Int×Int×Af))=>⟨[(7,.vec 2)],[(0,.box [pz h.1]),(1,.box [pz h.2.1]),(2,vecO 2 azd h.2.2 126)],[],3⟩)
 (fun h=>let i:=(h.2.2.2).toNat;.br (decide (h.2.2.2<g))
 (.gh h.2.2.2 c.length<|
 .gh h.2.2.2 d.length<|
 .call (yzh (c.getD i default) (d.getD i default) h.1 h.2.1) [(0,0),(1,1)] fun j=>
 .gh h.2.2.2 h.2.2.1.length<|
 .conv 5010 (bze 2 azd h.2.2.1 126 i j.1)<|
 .gi (h.2.2.2) h.2.2.1.length<|
 .nn (j.2.1,j.2.2,(h.2.2.1.set i j.1),(i64.wrap (h.2.2.2+1))))
 (.oo (h.1,h.2.1,h.2.2.1)))
 (e,f,(List.replicate g.toNat ((⟨0,0⟩:az0):az0)),0) [] fun h=>
 .ret (h.2.2,h.1,h.2.1)
noncomputable def fzk (c)(d)(e)(f):=
 mkD Tryz.func333 (fzl c d e f) 2 [.pure (encL 1 az1 c),.pure (encL 1 az1 d),.func 334 [] [.ptr 0 0,.ptr 1 0]] [(0,.box [pz e]),(1,.box [pz f])] (fun r=>.pure (encL 2 azd r.1)) (fun r=>[(0,.box [pz r.2.1]),(1,.box [pz r.2.2])])
noncomputable def Dzr (c:A0)(d:A0)(e:Int)(f:Int):T (Af×Bool):=
 .cut 2 (fun (g:Bool)=>⟨[(0,.pure (encL 1 az1 c)),(1,.pure (encL 1 az1 d)),(6,.ptr 0 0),(7,.ptr 1 0),(24,.pure (.bool g))],[(0,.box [pz e]),(1,.box [pz f])],[],2⟩)
 (.cc (wz7 c d e) fun g=>
 .br (!g)
 (.oo true)
 (.br (decide (f<0))
 (.oo true)
 (.grd (0≤e)<|
 .oo (decide (f≥(i64.wrap (1 * 2 ^ (min e.toNat 64)))))))) fun g=>
 .br g
 (.ret (nl,false))
 (.call (fzk c d f e) [(0,1),(1,0)] fun h=>
 .ret (h.1,true))
noncomputable def mzn (c)(d)(e)(f):=
 mkD Tryz.func283 (Dzr c d e f) 0 [.pure (encL 1 az1 c),.pure (encL 1 az1 d),pz e,pz f] [] (fun r=>.tup [.pure (encL 2 azd r.1),.pure (.bool r.2)]) (fun _=>[])
abbrev mzo:=RecS Tryz.prog 362 8 (Int×Int×Bh×Am×Int×Am×Int×Int×Bh×Int×A0×A0×A0×A0×A4×A9×A5×Ae×Int) Ch (fun a=>[pz a.1,pz a.2.1,.pure (encL 3 az2 a.2.2.1),.ptr 0 0,.ptr 2 0,.ptr 3 0,.ptr 4 0,.ptr 5 0,.ptr 6 0,.ptr 7 0]) (fun a=>[(0,.box [.vec 1]),(1,vecO 3 azo a.2.2.2.1 313),(2,.box [pz a.2.2.2.2.1,.pure (encL 3 azo a.2.2.2.2.2.1),pz a.2.2.2.2.2.2.1,pz a.2.2.2.2.2.2.2.1,.pure (encL 3 az2 a.2.2.2.2.2.2.2.2.1),pz a.2.2.2.2.2.2.2.2.2.1,.pure (encL 1 az1 a.2.2.2.2.2.2.2.2.2.2.1),.pure (encL 1 az1 a.2.2.2.2.2.2.2.2.2.2.2.1)]),(3,.box [.pure (encL 1 az1 a.2.2.2.2.2.2.2.2.2.2.2.2.1)]),(4,.box [.pure (encL 1 az1 a.2.2.2.2.2.2.2.2.2.2.2.2.2.1)]),(5,.box [.pure (encL 12 az7 a.2.2.2.2.2.2.2.2.2.2.2.2.2.2.1),.pure (encL 5 azc a.2.2.2.2.2.2.2.2.2.2.2.2.2.2.2.1),.pure (encL 3 az8 a.2.2.2.2.2.2.2.2.2.2.2.2.2.2.2.2.1),.pure (encL 2 aze a.2.2.2.2.2.2.2.2.2.2.2.2.2.2.2.2.2.1)]),(6,.box [pz a.2.2.2.2.2.2.2.2.2.2.2.2.2.2.2.2.2.2]),(7,.box [.func 362 [] [.ptr 0 0,.ptr 2 0,.ptr 3 0,.ptr 4 0,.ptr 5 0,.ptr 6 0,.ptr 7 0]])]) (fun _ r=>.pure (.bool r.1)) (fun _ r=>[(0,.box [.vec 8]),(1,.gone),(2,.box [pz r.2.2.1,.pure (encL 3 azo r.2.2.2.1),pz r.2.2.2.2.1,pz r.2.2.2.2.2.1,.pure (encL 3 az2 r.2.2.2.2.2.2.1),pz r.2.2.2.2.2.2.2.1,.pure (encL 1 az1 r.2.2.2.2.2.2.2.2.1),.pure (encL 1 az1 r.2.2.2.2.2.2.2.2.2.1)]),(3,.box [.pure (encL 1 az1 r.2.2.2.2.2.2.2.2.2.2.1)]),(4,.box [.pure (encL 1 az1 r.2.2.2.2.2.2.2.2.2.2.2.1)]),(5,.box [.pure (encL 12 az7 r.2.2.2.2.2.2.2.2.2.2.2.2.1),.pure (encL 5 azc r.2.2.2.2.2.2.2.2.2.2.2.2.2.1),.pure (encL 3 az8 r.2.2.2.2.2.2.2.2.2.2.2.2.2.2.1),.pure (encL 2 aze r.2.2.2.2.2.2.2.2.2.2.2.2.2.2.2.1)]),(6,.box [pz r.2.2.2.2.2.2.2.2.2.2.2.2.2.2.2.2]),(7,.box [.func 362 [] [.ptr 0 0,.ptr 2 0,.ptr 3 0,.ptr 4 0,.ptr 5 0,.ptr 6 0,.ptr 7 0]]),(8,vecO 3 azo r.2.1 313)])
noncomputable def Dzw (rec:mzo)(c:Int)(d:Int)(e:Bh)(f:Am)(g:Int)(h:Am)(i:Int)(j:Int)(k:Bh)(m:Int)(n:A0)(s:A0)(t:A0)(w:A0)(y:A4)(z:A9)(aa:A5)(ab:Ae)(ac:Int):T Ch:=let ad:=i64.wrap (c+1);let ae:=i64.wrap (2 * d);.br (decide ((f.length:Int)≥4096))
 (.ret (false,f,0,nl,c,d,nl,0,nl,nl,t,w,y,z,aa,ab,ac))
 (.cc (mzn t w c d) fun af=>
 .cc (sz1 (⟨(⟨y,z⟩:bz1),aa,ab⟩:azx) af.1 e) fun ag=>let ah:=([(⟨c,d,ag.Normals⟩:azm)]:Am);let ai:=f.length+ah.length;
 .br (ag.Kind==1)
 (.conv 8006 (bzl 3 azo ah 313)<|
 .conv 8007 (czq 3 azo f ah 313)<|
 .grd (ai * 40≤140737488355328/\ai≤maxLen)<|
 .ret (true,(f++ah),g,h,i,j,k,m,n,s,t,w,y,z,aa,ab,ac))
 (.br (ag.Kind==2)
 (.ret (false,f,2,nl,c,d,nl,ag.Witness.Pair,ag.Witness.Left,ag.Witness.Right,t,w,y,z,aa,ab,ac))
 (.br (decide (c<ac))
 (.call (rec.C (ad,ae,ag.Normals,f,g,h,i,j,k,m,n,s,t,w,y,z,aa,ab,ac)) [(0,0),(1,1),(2,2),(3,3),(4,4),(5,5),(6,6),(7,7)] fun aj=>
 .br aj.1
 (.call (rec.C (ad,(i64.wrap (ae+1)),ag.Normals,aj.2.1,aj.2.2.1,aj.2.2.2.1,aj.2.2.2.2.1,aj.2.2.2.2.2.1,aj.2.2.2.2.2.2.1,aj.2.2.2.2.2.2.2.1,aj.2.2.2.2.2.2.2.2.1,aj.2.2.2.2.2.2.2.2.2.1,aj.2.2.2.2.2.2.2.2.2.2.1,aj.2.2.2.2.2.2.2.2.2.2.2.1,aj.2.2.2.2.2.2.2.2.2.2.2.2.1,aj.2.2.2.2.2.2.2.2.2.2.2.2.2.1,aj.2.2.2.2.2.2.2.2.2.2.2.2.2.2.1,aj.2.2.2.2.2.2.2.2.2.2.2.2.2.2.2.1,aj.2.2.2.2.2.2.2.2.2.2.2.2.2.2.2.2)) [(0,0),(1,2824),(2,2),(3,3),(4,4),(5,5),(6,6),(7,7)] fun ak=>
 .ret (ak.1,ak.2.1,ak.2.2.1,ak.2.2.2.1,ak.2.2.2.2.1,ak.2.2.2.2.2.1,ak.2.2.2.2.2.2.1,ak.2.2.2.2.2.2.2.1,ak.2.2.2.2.2.2.2.2.1,ak.2.2.2.2.2.2.2.2.2.1,ak.2.2.2.2.2.2.2.2.2.2.1,ak.2.2.2.2.2.2.2.2.2.2.2.1,ak.2.2.2.2.2.2.2.2.2.2.2.2.1,ak.2.2.2.2.2.2.2.2.2.2.2.2.2.1,ak.2.2.2.2.2.2.2.2.2.2.2.2.2.2.1,ak.2.2.2.2.2.2.2.2.2.2.2.2.2.2.2.1,ak.2.2.2.2.2.2.2.2.2.2.2.2.2.2.2.2))
 (.ret (false,aj.2.1,aj.2.2.1,aj.2.2.2.1,aj.2.2.2.2.1,aj.2.2.2.2.2.1,aj.2.2.2.2.2.2.1,aj.2.2.2.2.2.2.2.1,aj.2.2.2.2.2.2.2.2.1,aj.2.2.2.2.2.2.2.2.2.1,aj.2.2.2.2.2.2.2.2.2.2.1,aj.2.2.2.2.2.2.2.2.2.2.2.1,aj.2.2.2.2.2.2.2.2.2.2.2.2.1,aj.2.2.2.2.2.2.2.2.2.2.2.2.2.1,aj.2.2.2.2.2.2.2.2.2.2.2.2.2.2.1,aj.2.2.2.2.2.2.2.2.2.2.2.2.2.2.2.1,aj.2.2.2.2.2.2.2.2.2.2.2.2.2.2.2.2)))
 (.ret (false,f,0,nl,c,d,nl,0,nl,nl,t,w,y,z,aa,ab,ac)))))
noncomputable def Dzv:mzo->mzo:=RecS.next [] hd Tryz.func362 (by kernel_rfl) (fun rec a=>Dzw rec a.1 a.2.1 a.2.2.1 a.2.2.2.1 a.2.2.2.2.1 a.2.2.2.2.2.1 a.2.2.2.2.2.2.1 a.2.2.2.2.2.2.2.1 a.2.2.2.2.2.2.2.2.1 a.2.2.2.2.2.2.2.2.2.1 a.2.2.2.2.2.2.2.2.2.2.1 a.2.2.2.2.2.2.2.2.2.2.2.1 a.2.2.2.2.2.2.2.2.2.2.2.2.1 a.2.2.2.2.2.2.2.2.2.2.2.2.2.1 a.2.2.2.2.2.2.2.2.2.2.2.2.2.2.1 a.2.2.2.2.2.2.2.2.2.2.2.2.2.2.2.1 a.2.2.2.2.2.2.2.2.2.2.2.2.2.2.2.2.1 a.2.2.2.2.2.2.2.2.2.2.2.2.2.2.2.2.2.1 a.2.2.2.2.2.2.2.2.2.2.2.2.2.2.2.2.2.2) (fun rec a=>by kernel_rfl)
noncomputable def Dzu (a0:Int)(a1:Int)(a2:Bh)(a3:Am)(a4:Int)(a5:Am)(a6:Int)(a7:Int)(a8:Bh)(a9:Int)(a10:A0)(a11:A0)(a12:A0)(a13:A0)(a14:A4)(a15:A9)(a16:A5)(a17:Ae)(a18:Int):CallS Ch:=(RecS.fix Dzv NN).C (a0,a1,a2,a3,a4,a5,a6,a7,a8,a9,a10,a11,a12,a13,a14,a15,a16,a17,a18)
noncomputable def Izr (c:azx)(d:A0)(e:A0)(f:Int):T bzw:=let g:=encL 1 az1 d;let h:=encL 1 az1 e;let i:Nat×Res:=(0,.box [.pure (encL 12 az7 c.Robot.Joints),.pure (encL 5 azc c.Robot.Masses),.pure (encL 3 az8 c.Shapes),.pure (encL 2 aze c.Skips)]);.unroll 1000<|
 .cut 2 (fun (j:Bool)=>⟨[(4,.ptr 0 0),(5,.ptr 1 0),(6,.ptr 2 0),(7,.ptr 3 0),(8,.ptr 4 0),(28,.pure (.bool j))],[i,(1,.box [.pure g]),(2,.box [.pure h]),(3,.box [pz f]),(4,.box [pz 0,.pure (.lst 0 0 fun _=>.unk),pz 0,pz 0,.pure (.lst 0 0 fun _=>.unk),pz 0,.pure (.lst 0 0 fun _=>.unk),.pure (.lst 0 0 fun _=>.unk)])],[.func 361 [] [.ptr 4 0]],5⟩)
 (.cc (dze c) fun j=>
 .br (j !=0)
 (.oo true)
 (.cc (bzv c.Robot d) fun k=>
 .br (!k)
 (.oo true)
 (.cc (bzv c.Robot e) fun m=>
 .oo (!m)))) fun j=>
 .br j
 (.ret (⟨0,nl,(⟨0,0,nl⟩:azm),(⟨0,nl,nl⟩:dzx)⟩:bzw))
 (.cut 1 (fun (k:Bool)=>⟨[(4,.ptr 0 0),(5,.ptr 1 0),(6,.ptr 2 0),(7,.ptr 3 0),(8,.ptr 4 0),(35,.pure (.bool k))],[i,(1,.box [.pure g]),(2,.box [.pure h]),(3,.box [pz f]),(4,.box [pz 0,.pure (.lst 0 0 fun _=>.unk),pz 0,pz 0,.pure (.lst 0 0 fun _=>.unk),pz 0,.pure (.lst 0 0 fun _=>.unk),.pure (.lst 0 0 fun _=>.unk)])],[.func 361 [] [.ptr 4 0]],5⟩)
 (.br (decide (f<0))
 (.oo true)
 (.oo (decide (f>20)))) fun k=>
 .br k
 (.ret (⟨0,nl,(⟨0,0,nl⟩:azm),(⟨0,nl,nl⟩:dzx)⟩:bzw))
 (.cut 3 (fun (m:(Int×Am×Int×Int×Bh×Int×A0×A0))=>⟨[(8,.ptr 0 0)],[(0,.box [pz m.1,.pure (encL 3 azo m.2.1),pz m.2.2.1,pz m.2.2.2.1,.pure (encL 3 az2 m.2.2.2.2.1),pz m.2.2.2.2.2.1,.pure (encL 1 az1 m.2.2.2.2.2.2.1),.pure (encL 1 az1 m.2.2.2.2.2.2.2)])],[.func 361 [] [.ptr 0 0]],1⟩)
 (.call (Dzu 0 0 nl nl 0 nl 0 0 nl 0 nl nl d e c.Robot.Joints c.Robot.Masses c.Shapes c.Skips f) [(0,5),(1,6),(2,4),(3,1),(4,2),(5,0),(6,3),(7,69)] fun m=>
 .br m.1
 (.oo (1,m.2.1,0,0,nl,0,nl,nl))
 (.oo (m.2.2.1,m.2.2.2.1,m.2.2.2.2.1,m.2.2.2.2.2.1,m.2.2.2.2.2.2.1,m.2.2.2.2.2.2.2.1,m.2.2.2.2.2.2.2.2.1,m.2.2.2.2.2.2.2.2.2.1))) fun m=>
 .ret (⟨m.1,m.2.1,(⟨m.2.2.1,m.2.2.2.1,m.2.2.2.2.1⟩:azm),(⟨m.2.2.2.2.2.1,m.2.2.2.2.2.2.1,m.2.2.2.2.2.2.2⟩:dzx)⟩:bzw)))
noncomputable def xzp (c)(d)(e)(f):=
 mkC [⟨361,Qzs⟩] hd Tryz.func317 (by kernel_rfl) (Izr c d e f) 0 [.pure (czl c),.pure (encL 1 az1 d),.pure (encL 1 az1 e),pz f] [] (fun r=>.pure (gzh r)) (fun _=>[]) (by kernel_rfl)
noncomputable def Iz3 (c:azx)(d:A1)(e:Aj)(f:Nat)(g:Nat)(h:Int)(i:Int):T Bf:=let j:=f+(h.toNat);let k:=kzc d e f g;let m:=e.getD j default;let n:=m.U;let s:=m.V;let t:=m.State;let w:Nat×Res:=(3,.box [.vec 0,.view 1 12 f g]);let y:Nat×Res:=(2,.box [.pure (encL 12 az7 c.Robot.Joints),.pure (encL 5 azc c.Robot.Masses),.pure (encL 3 az8 c.Shapes),.pure (encL 2 aze c.Skips)]);.cut 3 (fun (z:Bool)=>⟨[(2,pz h),(3,pz i),(4,.ptr 2 0),(5,.ptr 3 0),(8,.ptr 4 0),(9,.ptr 7 0),(20,.pure (.bool z))],[(0,vecO 1 (encL 1 az1) d 50),(1,vecO 12 az6 e 363),y,w,(4,.box [.vec 5,.vec 6]),(5,.nilv),(6,.nilv),(7,.box [.ff])],[.func 316 [] [.ptr 4 0,.ptr 7 0]],8⟩)
 (.br (decide (h<0))
 (.oo true)
 (.oo (decide (h≥(g:Int))))) fun z=>
 .br z
 (.call k [(0,0),(1,1)] fun aa=>
 .ret (aa.1,aa.2,false))
 (.gh h g<|
 .grd (j<e.length)<|
 .cut 1 (fun (aa:Bool)=>⟨[(2,pz h),(3,pz i),(4,.ptr 2 0),(5,.ptr 3 0),(8,.ptr 4 0),(9,.ptr 7 0),(10,.ptr 8 0),(49,.pure (.bool aa))],[(0,vecO 1 (encL 1 az1) d 50),(1,vecO 12 az6 e 363),y,w,(4,.box [.vec 5,.vec 6]),(5,.nilv),(6,.nilv),(7,.box [.ff]),(8,.box [pz n,pz s,pz (m.Cost),pz t,pz (m.Proof.Kind),.pure (encL 3 azo (m.Proof.Pieces)),pz (m.Proof.At.Depth),pz (m.Proof.At.Index),.pure (encL 3 az2 (m.Proof.At.Normals)),pz (m.Proof.Witness.Pair),.pure (encL 1 az1 (m.Proof.Witness.Left)),.pure (encL 1 az1 (m.Proof.Witness.Right))])],[.func 316 [] [.ptr 4 0,.ptr 7 0]],9⟩)
 (.call (mzi d e f g n) [(0,0),(1,1)] fun aa=>
 .br (!aa)
 (.oo true)
 (.call (mzi d e f g s) [(0,0),(1,1)] fun ab=>
 .br (!ab)
 (.oo true)
 (.br (t==1)
 (.oo true)
 (.oo (t==2))))) fun aa=>
 .br aa
 (.call k [(0,0),(1,1)] fun ab=>
 .ret (ab.1,ab.2,false))
 (.gg n d.length<|
 .gg s d.length<|
 .call (xzp (⟨c.Robot,c.Shapes,c.Skips⟩:azx) (d.getD (n.toNat) default) (d.getD (s.toNat) default) i) [] fun ab=>
 .call (pz6 d e f g h ab) [(0,0),(1,1)] fun ac=>
 .ret (ac.1,ac.2.1,ac.2.2)))
noncomputable def Iz2 (c)(d)(e)(f)(g)(h)(i):=
 mkC [⟨316,Qzp⟩] hd Tryz.func271 (by kernel_rfl) (Iz3 c d e f g h i) 2 [.pure (czl c),.agg [.vec 0,.view 1 12 f g],pz h,pz i] [(0,vecO 1 (encL 1 az1) d 50),(1,vecO 12 az6 e 363)] (fun r=>.tup [.agg [.vec 2,.vec 3],.pure (.bool r.2.2)]) (fun r=>[(0,vecO 1 (encL 1 az1) d 50),(1,vecO 12 az6 e 363),(2,vecO 1 (encL 1 az1) r.1 50),(3,vecO 12 az6 r.2.1 363)]) (by kernel_rfl)
noncomputable def Hzx (c:azx)(d:bz2)(e:Int)(f:Int)(g:Int)(h:Int):T (bz2×mzk×Int×Int):=let i:=(⟨c.Robot,c.Shapes,c.Skips⟩:azx);let j:Nat×Res:=(0,.box [.pure (encL 12 az7 c.Robot.Joints),.pure (encL 5 azc c.Robot.Masses),.pure (encL 3 az8 c.Shapes),.pure (encL 2 aze c.Skips)]);.cc (vzc (⟨d.Points,d.Edges⟩:bz2)) fun k=>
 .cc (dze i) fun m=>
 .br (m !=0)
 (.ret ((⟨k.1,k.2⟩:bz2),(⟨nl,0⟩:mzk),0,0))
 (.loop (fun (n:Al)=>⟨[(2,pz e),(3,pz f),(4,pz g),(5,pz h),(6,.ptr 0 0),(12,.ptr 1 0),(13,.ptr 4 0),(14,.ptr 6 0),(15,.ptr 7 0)],[j,(1,.box [.vec 2,.vec 3]),(2,vecO 1 (encL 1 az1) k.1 50),(3,vecO 12 az6 n.1 363),(4,.box [.vec 5,pz 0]),(5,.nilv),(6,.box [pz 0]),(7,.box [pz n.2])],[.func 268 [] [.ptr 1 0,.ptr 4 0,.ptr 6 0,.ptr 7 0]],8⟩)
 .ret (fun (_:U0)=>⟨[],[],[],0⟩)
 (fun n=>let s:=(⟨k.1,n.1⟩:bz2);.call (Czv k.1 n.1 e f) [(0,2),(1,3)] fun t=>let w:=(t.1).toNat;let y:=i64.wrap (t.1+1);let z:=(⟨t.2.1,t.2.2.1⟩:mzk);
 .br (t.2.2.2 !=3)
 (.ff (s,z,t.2.2.2,n.2))
 (.br (decide (n.2≥h))
 (.ff (s,z,4,n.2))
 (.unroll 2<|
 .grd (0≤t.1/\t.1≤y/\y≤(n.1.length:Int))<|
 .cut 0 (fun (aa:Aj)=>⟨[(2,pz e),(3,pz f),(4,pz g),(5,pz h),(6,.ptr 0 0),(12,.ptr 1 0),(13,.ptr 4 0),(14,.ptr 6 0),(15,.ptr 7 0)],[j,(1,.box [.vec 2,.vec 3]),(2,vecO 1 (encL 1 az1) k.1 50),(3,vecO 12 az6 aa 363),(4,.box [.vec 5,pz 0]),(5,.nilv),(6,.box [pz 0]),(7,.box [pz n.2])],[.func 268 [] [.ptr 1 0,.ptr 4 0,.ptr 6 0,.ptr 7 0]],8⟩)
 (.call (Iz2 i k.1 n.1 w (y.toNat- (t.1).toNat) 0 g) [(0,2),(1,3)] fun aa=>let ab:=aa.2.1.getD ((0:Int).toNat) default;
 .br aa.2.2
 (.gg (0:Int) aa.2.1.length<|
 .gh t.1 n.1.length<|
 .conv 13008 (bze 12 az6 n.1 363 w ab)<|
 .gi (t.1) n.1.length<|
 .oo (n.1.set w ab))
 (.oo n.1)) fun aa=>
 .nn (aa,(i64.wrap (n.2+1))))))
 (k.2,0) [] fun _=>
 .stop)
noncomputable def Hzw (c)(d)(e)(f)(g)(h):=
 mkC [⟨268,Qzh⟩] hd Tryz.func200 (by kernel_rfl) (Hzx c d e f g h) 0 [.pure (czl c),.pure (dz9 d),pz e,pz f,pz g,pz h] [] (fun r=>.tup [.pure (dz9 r.1),.pure (Izs r.2.1),pz r.2.2.1,pz r.2.2.2]) (fun _=>[]) (by kernel_rfl)
noncomputable def uzt (c:azx)(d:A1):T Ay:=let e:=(d.length:Int);let f:=encL 1 (encL 1 az1) d;let g:Nat×Res:=(0,.box [.pure (encL 12 az7 c.Robot.Joints),.pure (encL 5 azc c.Robot.Masses),.pure (encL 3 az8 c.Shapes),.pure (encL 2 aze c.Skips)]);.cc (dze c) fun h=>
 .br (h !=0)
 (.ret (0,904))
 (.cut 1 (fun (i:Bool)=>⟨[(1,.pure f),(2,.ptr 0 0),(18,.pure (.bool i))],[g],[],1⟩)
 (.br (decide (e<2))
 (.oo true)
 (.oo (decide (e>256)))) fun i=>
 .br i
 (.ret (0,2201))
 (.loop (fun (j:Int)=>⟨[(2,.ptr 0 0),(19,.pure f),(20,pz e),(21,pz j)],[g],[],1⟩)
 (.exit 0) (fun (_:U0)=>⟨[],[],[],0⟩)
 (fun j=>.br (decide (j<e))
 (.gh j d.length<|
 .cc (bzv c.Robot (d.getD (j.toNat) default)) fun k=>
 .br (!k)
 (.ff (j,1201))
 (.nn (i64.wrap (j+1))))
 (.oo .u))
 0 [] fun _=>
 .ret (0,0)))
noncomputable def mzd (c)(d):=
 mkD Tryz.func136 (uzt c d) 0 [.pure (czl c),.pure (encL 1 (encL 1 az1) d)] [] (fun r=>.tup [pz r.1,pz r.2]) (fun _=>[])
noncomputable def Ezw (c:bzh):T Ay:=
 .cc (dze c.scene) fun d=>
 .br (d !=0)
 (.ret (0,904))
 (.ret (0,0))
noncomputable def Ezv (c):=
 mkD Tryz.func205 (Ezw c) 0 [.pure (ezo c)] [] (fun r=>.tup [pz r.1,pz r.2]) (fun _=>[])
noncomputable def Czd (c:bzh):T Ay:=
 .cut 2 (fun (d:Bool)=>⟨[(19,.pure (.bool d))],[],[],0⟩)
 (.cc (bzv c.scene.Robot c.p) fun d=>
 .br (!d)
 (.oo true)
 (.cc (bzv c.scene.Robot c.q) fun e=>
 .oo (!e))) fun d=>
 .br d
 (.ret (0,1201))
 (.ret (0,0))
noncomputable def Czc (c):=
 mkD Tryz.func206 (Czd c) 0 [.pure (ezo c)] [] (fun r=>.tup [pz r.1,pz r.2]) (fun _=>[])
noncomputable def Czf (c:bzh):T Ay:=let d:=encL 3 azo c.pieces;let e:=(c.pieces.length:Int);let f:Nat×Res:=(0,.box [.pure (encL 12 az7 c.scene.Robot.Joints),.pure (encL 5 azc c.scene.Robot.Masses),.pure (encL 3 az8 c.scene.Shapes),.pure (encL 2 aze c.scene.Skips),.pure (encL 1 az1 c.p),.pure (encL 1 az1 c.q),.pure d]);.loop (fun (g:Ay)=>⟨[(1,.ptr 0 0),(4,pz g.1),(9,.pure d),(10,pz e),(11,pz g.2)],[f],[],1⟩)
 (.exit 0) (fun (g:Int)=>⟨[(1,.ptr 0 0),(4,pz g)],[f],[],1⟩)
 (fun g=>let h:=c.pieces.getD ((g.2).toNat) default;let i:=h.Depth;let j:=h.Index;let k:=min i.toNat 64;let m:=(1048576:Int).fdiv (2 ^ k);let n:Nat×Res:=(1,.box [pz i,pz j,.pure (encL 3 az2 (h.Normals))]);.br (decide (g.2<e))
 (.gh g.2 c.pieces.length<|
 .cut 1 (fun (s:Bool)=>⟨[(1,.ptr 0 0),(4,pz g.1),(5,pz g.2),(6,.ptr 1 0),(9,.pure d),(10,pz e),(11,pz g.2),(27,.pure (.bool s))],[f,n],[],2⟩)
 (.br (g.2==4096)
 (.oo true)
 (.br (decide (i<0))
 (.oo true)
 (.oo (decide (i>20))))) fun s=>
 .br s
 (.ff (g.2,2001))
 (.cut 1 (fun (t:Bool)=>⟨[(1,.ptr 0 0),(4,pz g.1),(5,pz g.2),(6,.ptr 1 0),(9,.pure d),(10,pz e),(11,pz g.2),(39,.pure (.bool t))],[f,n],[],2⟩)
 (.br (decide (j<0))
 (.oo true)
 (.grd (0≤i)<|
 .oo (decide (j≥(i64.wrap (1 * 2 ^ k)))))) fun t=>
 .br t
 (.ff (g.2,2001))
 (.grd (0≤i)<|
 .name 10003 ((i64.wrap (j * m))) fun w=>
 .br (w !=g.1)
 (.ff (g.2,2001))
 (.name 12002 ((i64.wrap (g.1+m))) fun y=>
 .nn (y,(i64.wrap (g.2+1)))))))
 (.oo g.1))
 (0,0) [] fun g=>
 .br (g !=1048576)
 (.ret (e,2001))
 (.ret (0,0))
noncomputable def Cze (c):=
 mkD Tryz.func207 (Czf c) 0 [.pure (ezo c)] [] (fun r=>.tup [pz r.1,pz r.2]) (fun _=>[])
noncomputable def vzf (c:bzr)(d:cz7):T Bool:=let e:=(c.normals.length:Int);.br (e !=(d.pairs.length:Int))
 (.ret false)
 (.loop (fun (f:Int)=>⟨[(3,.ptr 0 0),(16,.pure (encL 3 az2 c.normals)),(17,pz e),(18,pz f)],[(0,.box [.pure (encL 3 az8 d.shapes),.pure (encL 2 gz3 d.pairs),.pure (encL 1 (encL 6 az3) d.points)])],[],1⟩)
 (.exit 0) (fun (_:U0)=>⟨[],[],[],0⟩)
 (fun f=>.br (decide (f<e))
 (.gh f c.normals.length<|
 .cc (tzi d f) fun g=>
 .cc (nzd (c.normals.getD (f.toNat) default) g.a g.ra g.b g.rb) fun h=>
 .br (!h)
 (.ff false)
 (.nn (i64.wrap (f+1))))
 (.oo .u))
 0 [] fun _=>
 .ret true)
noncomputable def vze (c)(d):=
 mkD Tryz.func494 (vzf c d) 0 [.pure (fz3 c),.pure (izt d)] [] (fun r=>.pure (.bool r)) (fun _=>[])
noncomputable def yzd (c:azx)(d:Af)(e:bzr):T Bool:=
 .cc (ozw c d) fun f=>
 .br f.2
 (.cc (vze e f.1) fun g=>
 .ret g)
 (.ret false)
noncomputable def yzc (c)(d)(e):=
 mkD Tryz.func337 (yzd c d e) 0 [.pure (czl c),.pure (encL 2 azd d),.iface 209 (.pure (fz3 e))] [] (fun r=>.pure (.bool r)) (fun _=>[])
noncomputable def rzc (c:azx)(d:Af)(e:Bh):T Bool:=
 .cc (yzc (⟨c.Robot,c.Shapes,c.Skips⟩:azx) d (⟨e⟩:bzr)) fun f=>
 .ret f
noncomputable def kza (c)(d)(e):=
 mkC [⟨336,Qzr⟩] hd Tryz.func284 (by kernel_rfl) (rzc c d e) 0 [.pure (czl c),.pure (encL 2 azd d),.pure (encL 3 az2 e)] [] (fun r=>.pure (.bool r)) (fun _=>[]) (by kernel_rfl)
noncomputable def vz0 (c:bzh):T Ay:=let d:=encL 3 azo c.pieces;let e:=(c.pieces.length:Int);let f:Nat×Res:=(0,.box [.pure (encL 12 az7 c.scene.Robot.Joints),.pure (encL 5 azc c.scene.Robot.Masses),.pure (encL 3 az8 c.scene.Shapes),.pure (encL 2 aze c.scene.Skips),.pure (encL 1 az1 c.p),.pure (encL 1 az1 c.q),.pure d]);.loop (fun (g:Int)=>⟨[(1,.ptr 0 0),(9,.pure d),(10,pz e),(11,pz g)],[f],[],1⟩)
 (.exit 0) (fun (_:U0)=>⟨[],[],[],0⟩)
 (fun g=>let h:=c.pieces.getD (g.toNat) default;.br (decide (g<e))
 (.gh g c.pieces.length<|
 .cc (mzn c.p c.q (h.Depth) (h.Index)) fun i=>
 .cut 0 (fun (j:Bool)=>⟨[(1,.ptr 0 0),(4,pz g),(9,.pure d),(10,pz e),(11,pz g),(38,.pure (.bool j))],[f],[],1⟩)
 (.br (!i.2)
 (.oo true)
 (.cc (kza c.scene i.1 (h.Normals)) fun j=>
 .oo (!j))) fun j=>
 .br j
 (.ff (g,2002))
 (.nn (i64.wrap (g+1))))
 (.oo .u))
 0 [] fun _=>
 .ret (0,0)
noncomputable def uzz (c):=
 mkD Tryz.func208 (vz0 c) 0 [.pure (ezo c)] [] (fun r=>.tup [pz r.1,pz r.2]) (fun _=>[])
noncomputable def wzd (c:azx)(d:A0)(e:A0)(f:Am):T Ay:=let g:=(⟨(⟨c.Robot,c.Shapes,c.Skips⟩:azx),d,e,f⟩:bzh);.unroll 5<|
 .known true<|
 .gh (0:Int) 4<|
 .cc (Ezv g) fun h=>
 .br (h.2 !=0)
 (.ret (h.1,h.2))
 (.lit 9000 (1)<|
 .known true<|
 .gh (1:Int) 4<|
 .cc (Czc g) fun i=>
 .br (i.2 !=0)
 (.ret (i.1,i.2))
 (.lit 9000 (2)<|
 .known true<|
 .gh (2:Int) 4<|
 .cc (Cze g) fun j=>
 .br (j.2 !=0)
 (.ret (j.1,j.2))
 (.lit 9000 (3)<|
 .known true<|
 .gh (3:Int) 4<|
 .cc (uzz g) fun k=>
 .br (k.2 !=0)
 (.ret (k.1,k.2))
 (.lit 9000 (4)<|
 .known false<|
 .ret (0,0)))))
noncomputable def nz4 (c)(d)(e)(f):=
 mkC [⟨204,Qze⟩] hd Tryz.func138 (by kernel_rfl) (wzd c d e f) 0 [.pure (czl c),.pure (encL 1 az1 d),.pure (encL 1 az1 e),.pure (encL 3 azo f)] [] (fun r=>.tup [pz r.1,pz r.2]) (fun _=>[]) (by kernel_rfl)
noncomputable def Azw (c:Am):T Am:=
 .cc (ez5 c) fun d=>let e:=(d.length:Nat);
 .loop (fun (f:An)=>⟨[(0,.vec 0),(7,pz (e:Int)),(8,pz f.2)],[(0,vecO 3 azo f.1 313)],[],1⟩)
 (.exit 0) (fun (f:Am)=>⟨[(0,.vec 0)],[(0,vecO 3 azo f 313)],[],1⟩)
 (fun f=>let g:=(f.2).toNat;let h:=f.1.getD g default;.br (decide (f.2<(e:Int)))
 (.gg f.2 f.1.length<|
 .cc (czd (h.Normals)) fun i=>let j:=(⟨h.Depth,h.Index,i⟩:azm);
 .gh f.2 f.1.length<|
 .conv 5010 (bze 3 azo f.1 313 g j)<|
 .gi (f.2) f.1.length<|
 .nn ((f.1.set g j),(i64.wrap (f.2+1))))
 (.oo f.1))
 (d,0) [] fun f=>
 .ret f
noncomputable def pzn (c):=
 mkD Tryz.func422 (Azw c) 0 [.pure (encL 3 azo c)] [] (fun r=>.pure (encL 3 azo r)) (fun _=>[])
noncomputable def Dzq (c:azx)(d:A0)(e:A0)(f:azm)(g:azm):T (azm×Bool):=let h:=i64.wrap (f.Depth-1);let i:=i64.wrap (f.Index.tdiv 2);let j:=([f,g]:Am);let k:=(j.length:Nat);let m:Nat×Res:=(0,.box [.pure (encL 12 az7 c.Robot.Joints),.pure (encL 5 azc c.Robot.Masses),.pure (encL 3 az8 c.Shapes),.pure (encL 2 aze c.Skips)]);.cut 2 (fun (n:Bool)=>⟨[(1,.pure (encL 1 az1 d)),(2,.pure (encL 1 az1 e)),(5,.ptr 0 0),(8,.ptr 1 0),(9,.ptr 2 0),(10,.ptr 3 0),(40,.pure (.bool n))],[m,(1,.box [pz f.Depth,pz f.Index,.pure (encL 3 az2 f.Normals)]),(2,.box [pz g.Depth,pz g.Index,.pure (encL 3 az2 g.Normals)]),(3,.box [pz 0,pz 0,.vec 4]),(4,.nilv)],[],5⟩)
 (.br (f.Depth !=g.Depth)
 (.oo true)
 (.br (decide (f.Depth≤0))
 (.oo true)
 (.ok ((2:Int)≠0) (by decide)<|
 .br ((f.Index.tmod 2) !=0)
 (.oo true)
 (.oo (g.Index !=(i64.wrap (f.Index+1))))))) fun n=>
 .br n
 (.ret ((⟨0,0,nl⟩:azm),false))
 (.ok ((2:Int)≠0) (by decide)<|
 .cc (mzn d e h i) fun s=>
 .br (!s.2)
 (.ret ((⟨0,0,nl⟩:azm),false))
 (.conv 7002 (bzl 3 azo j 313)<|
 .loop (fun (t:Int)=>⟨[(5,.ptr 0 0),(10,.ptr 1 0),(12,.ptr 3 0),(13,.pure (encL 2 azd s.1)),(64,.vec 5),(65,pz (k:Int)),(66,pz t)],[m,(1,.box [pz 0,pz 0,.vec 2]),(2,.nilv),(3,.box [pz h,pz i,.vec 4]),(4,.nilv),(5,vecO 3 azo j 313)],[],6⟩)
 (.exit 0) (fun (_:U0)=>⟨[(10,.ptr 0 0)],[(0,.box [pz 0,pz 0,.vec 1]),(1,.nilv)],[],2⟩)
 (fun t=>let w:=j.getD (t.toNat) default;.br (decide (t<(k:Int)))
 (.gg t (j.length)<|
 .cc (kza c s.1 (w.Normals)) fun y=>
 .br y
 (.ff ((⟨h,i,w.Normals⟩:azm),true))
 (.nn (i64.wrap (t+1))))
 (.oo .u))
 0 [] fun _=>
 .ret ((⟨0,0,nl⟩:azm),false)))
noncomputable def Dzp (c)(d)(e)(f)(g):=
 mkD Tryz.func423 (Dzq c d e f g) 0 [.pure (czl c),.pure (encL 1 az1 d),.pure (encL 1 az1 e),.pure (azo f),.pure (azo g)] [] (fun r=>.tup [.pure (azo r.1),.pure (.bool r.2)]) (fun _=>[])
noncomputable def Azv (c:azx)(d:A0)(e:A0)(f:Am):T Am:=let g:=encL 1 az1 d;let h:=encL 1 az1 e;let i:=encL 3 azo f;let j:=(f.length:Int);let k:Nat×Res:=(0,.box [.pure (encL 12 az7 c.Robot.Joints),.pure (encL 5 azc c.Robot.Masses),.pure (encL 3 az8 c.Shapes),.pure (encL 2 aze c.Skips)]);.cc (nz4 (⟨c.Robot,c.Shapes,c.Skips⟩:azx) d e f) fun m=>
 .br (m.2 !=0)
 (.cc (pzn f) fun n=>
 .ret n)
 (.loop (fun (n:An)=>⟨[(1,.pure g),(2,.pure h),(4,.ptr 0 0),(8,.ptr 1 0),(29,.pure i),(30,pz j),(31,pz n.2)],[k,(1,.box [.vec 2]),(2,vecO 3 azo n.1 313)],[.func 421 [] [.ptr 1 0]],3⟩)
 (.exit 0) (fun (n:Am)=>⟨[(8,.ptr 0 0)],[(0,.box [.vec 1]),(1,vecO 3 azo n 313)],[.func 421 [] [.ptr 0 0]],2⟩)
 (fun n=>let s:=f.getD ((n.2).toNat) default;.br (decide (n.2<j))
 (.gh n.2 f.length<|
 .loop (fun (t:By)=>⟨[(1,.pure g),(2,.pure h),(4,.ptr 0 0),(8,.ptr 1 0),(12,.ptr 3 0),(29,.pure i),(30,pz j),(31,pz n.2)],[k,(1,.box [.vec 2]),(2,vecO 3 azo t.1 313),(3,.box [pz t.2.1,pz t.2.2.1,.pure (encL 3 az2 t.2.2.2)])],[.func 421 [] [.ptr 1 0]],4⟩)
 (.exit 2) (fun (t:By)=>⟨[(1,.pure g),(2,.pure h),(4,.ptr 0 0),(8,.ptr 1 0),(12,.ptr 3 0),(29,.pure i),(30,pz j),(31,pz n.2)],[k,(1,.box [.vec 2]),(2,vecO 3 azo t.1 313),(3,.box [pz t.2.1,pz t.2.2.1,.pure (encL 3 az2 t.2.2.2)])],[.func 421 [] [.ptr 1 0]],4⟩)
 (fun t=>let w:=(t.1.length:Int);let y:=i64.wrap (w-1);.br (decide (w>0))
 (.gg y t.1.length<|
 .call (Dzp c d e (t.1.getD (y.toNat) default) (⟨t.2.1,t.2.2.1,t.2.2.2⟩:azm)) [] fun z=>
 .br (!z.2)
 (.oo (t.1,t.2.1,t.2.2.1,t.2.2.2))
 (.conv 12002 (Oz0 3 azo t.1 313 y)<|
 .grd (0≤y/\y≤w/\0≤y.toNat)<|
 .nn ((t.1.take (y.toNat)),z.1.Depth,z.1.Index,z.1.Normals)))
 (.oo (t.1,t.2.1,t.2.2.1,t.2.2.2)))
 (n.1,s.Depth,s.Index,s.Normals) [] fun t=>let w:=([(⟨t.2.1,t.2.2.1,t.2.2.2⟩:azm)]:Am);let y:=t.1.length+w.length;
 .conv 13002 (bzl 3 azo w 313)<|
 .conv 13003 (czq 3 azo t.1 w 313)<|
 .grd (y * 40≤140737488355328/\y≤maxLen)<|
 .nn ((t.1++w),(i64.wrap (n.2+1))))
 (.oo n.1))
 (nl,0) [] fun n=>
 .cc (pzn n) fun s=>
 .ret s)
noncomputable def Azu (c)(d)(e)(f):=
 mkC [⟨421,Qzx⟩] hd Tryz.func383 (by kernel_rfl) (Azv c d e f) 0 [.pure (czl c),.pure (encL 1 az1 d),.pure (encL 1 az1 e),.pure (encL 3 azo f)] [] (fun r=>.pure (encL 3 azo r)) (fun _=>[]) (by kernel_rfl)
set_option maxHeartbeats 8000000 in
set_option maxRecDepth 20000 in
noncomputable def Dzo (c:Am):T bz0:=let d:=encL 3 azo c;let e:=(c.length:Int);.loop (fun (f:(Bh×Au×Bk×Int))=>⟨[(2,.ptr 0 0),(3,.map 3),(13,.pure d),(14,pz e),(15,pz f.2.2.2)],[(0,.box [.vec 1,.vec 2]),(1,vecO 3 az2 f.1 68),(2,vecO 3 cz3 f.2.1 311),(3,uza [.int .i64 0,.int .i64 0,.int .i64 0] bzs f.2.2.1)],[.func 385 [] [.ptr 0 0]],4⟩)
 (.exit 0) (fun (f:(Bh×Au))=>⟨[(2,.ptr 0 0)],[(0,.box [.vec 1,.vec 2]),(1,vecO 3 az2 f.1 68),(2,vecO 3 cz3 f.2 311)],[.func 385 [] [.ptr 0 0]],3⟩)
 (fun f=>let g:=c.getD ((f.2.2.2).toNat) default;let h:=encL 3 az2 (g.Normals);let i:=(g.Normals.length:Int);let j:Nat×Res:=(4,.box [pz (g.Depth),pz (g.Index),.vec 5]);.br (decide (f.2.2.2<e))
 (.gh f.2.2.2 c.length<|
 .loop (fun (k:(Bh×Bk×A0×Int))=>⟨[(2,.ptr 0 0),(3,.map 3),(6,.ptr 4 0),(13,.pure d),(14,pz e),(15,pz f.2.2.2),(25,.pure h),(26,pz i),(27,pz k.2.2.2)],[(0,.box [.vec 1,.vec 2]),(1,vecO 3 az2 k.1 68),(2,vecO 3 cz3 f.2.1 311),(3,uza [.int .i64 0,.int .i64 0,.int .i64 0] bzs k.2.1),j,(5,vecO 1 az1 k.2.2.1 3)],[.func 385 [] [.ptr 0 0]],6⟩)
 (.exit 2) (fun (k:(Bh×Bk×A0))=>⟨[(2,.ptr 0 0),(3,.map 3),(6,.ptr 4 0),(13,.pure d),(14,pz e),(15,pz f.2.2.2)],[(0,.box [.vec 1,.vec 2]),(1,vecO 3 az2 k.1 68),(2,vecO 3 cz3 f.2.1 311),(3,uza [.int .i64 0,.int .i64 0,.int .i64 0] bzs k.2.1),j,(5,vecO 1 az1 k.2.2 3)],[.func 385 [] [.ptr 0 0]],6⟩)
 (fun k=>let m:=(k.1.length:Int);let n:=(g.Normals).getD ((k.2.2.2).toNat) default;let s:=mdom bzs k.2.1 (bzs n);let t:=mget bzs k.2.1 (bzs n);let w:=([n]:Bh);let y:=k.1.length+w.length;.br (decide (k.2.2.2<i))
 (.gh k.2.2.2 (g.Normals.length)<|
 .ok (s=false->PSub (.int .i64 0) (PVal.int .i64 t)) Vz5<|
 .name 10004 (t) fun z=>
 .cut 0 (fun (aa:(Bh×Bk×Int))=>⟨[(2,.ptr 0 0),(3,.map 3),(6,.ptr 4 0),(9,pz aa.2.2),(13,.pure d),(14,pz e),(15,pz f.2.2.2),(25,.pure h),(26,pz i),(27,pz k.2.2.2)],[(0,.box [.vec 1,.vec 2]),(1,vecO 3 az2 aa.1 68),(2,vecO 3 cz3 f.2.1 311),(3,uza [.int .i64 0,.int .i64 0,.int .i64 0] bzs aa.2.1),j,(5,vecO 1 az1 k.2.2.1 3)],[.func 385 [] [.ptr 0 0]],6⟩)
 (.br (!s)
 (.conv 13003 (Vzu [.int .i64 0,.int .i64 0,.int .i64 0] bzs k.2.1 n m)<|
 .conv 14003 (bzl 3 az2 w 68)<|
 .conv 14004 (czq 3 az2 k.1 w 68)<|
 .grd (y * 24≤140737488355328/\y≤maxLen)<|
 .oo ((k.1++w),((n,m)::k.2.1),m))
 (.oo (k.1,k.2.1,z))) fun aa=>let ab:=([aa.2.2]:A0);let ac:=k.2.2.1.length+ab.length;
 .conv 15003 (bzl 1 az1 ab 3)<|
 .conv 15004 (czq 1 az1 k.2.2.1 ab 3)<|
 .grd (ac * 8≤140737488355328/\ac≤maxLen)<|
 .nn (aa.1,aa.2.1,(k.2.2.1++ab),(i64.wrap (k.2.2.2+1))))
 (.oo (k.1,k.2.1,k.2.2.1)))
 (f.1,f.2.2.1,nl,0) [] fun k=>let m:=([(⟨g.Depth,g.Index,k.2.2⟩:ez3)]:Au);let n:=f.2.1.length+m.length;
 .conv 17003 (bzl 3 cz3 m 311)<|
 .conv 17004 (czq 3 cz3 f.2.1 m 311)<|
 .grd (n * 40≤140737488355328/\n≤maxLen)<|
 .nn (k.1,(f.2.1++m),k.2.1,(i64.wrap (f.2.2.2+1))))
 (.oo (f.1,f.2.1)))
 (nl,nl,(nl:List (Bg×Int)),0) [] fun f=>
 .ret (⟨f.1,f.2⟩:bz0)
noncomputable def sz3 (c):=
 mkC [⟨385,Qzv⟩] hd Tryz.func330 (by kernel_rfl) (Dzo c) 0 [.pure (encL 3 azo c)] [] (fun r=>.pure (azw r)) (fun _=>[]) (by kernel_rfl)
noncomputable def Ezt (c:dzr)(d:A0)(e:A0):T (bz0×Bool):=
 .cc (xzp c.scene d e c.depth) fun f=>
 .br (f.Kind !=1)
 (.ret ((⟨nl,nl⟩:bz0),false))
 (.cc (Azu c.scene d e f.Pieces) fun g=>
 .cc (sz3 g) fun h=>
 .ret (h,true))
noncomputable def Ezs (c)(d)(e):=
 mkD Tryz.func327 (Ezt c d e) 0 [.pure (lz5 c),.pure (encL 1 az1 d),.pure (encL 1 az1 e)] [] (fun r=>.tup [.pure (azw r.1),.pure (.bool r.2)]) (fun _=>[])
noncomputable def Ezp (c:A1)(d:dzr):T (Av×Int×Int):=let e:=(c.length:Int);let f:=(c.drop ((1:Int).toNat)).take (e.toNat- (1:Int).toNat);let g:=(f.length:Nat);let h:=(⟨d.scene,d.depth⟩:dzr);.conv 2001 (wzc 1 (encL 1 az1) c (1:Int) e)<|
 .grd (0≤(1:Int)/\(1:Int)≤e/\e≤e)<|
 .loop (fun (i:Aw)=>⟨[(0,.pure (encL 1 (encL 1 az1) c)),(1,.func 327 [.pure (lz5 h)] []),(7,.vec 0),(13,.pure (encL 1 (encL 1 az1) f)),(14,pz (g:Int)),(15,pz i.2)],[(0,vecO 2 azw i.1 239)],[],1⟩)
 (.exit 0) (fun (i:Av)=>⟨[(7,.vec 0)],[(0,vecO 2 azw i 239)],[],1⟩)
 (fun i=>let j:=(i.2).toNat;.br (decide (i.2<(g:Int)))
 (.gh i.2 (f.length)<|
 .gh i.2 c.length<|
 .call (Ezs h (c.getD j default) (f.getD j default)) [] fun k=>let m:=([k.1]:Av);let n:=i.1.length+m.length;
 .br (!k.2)
 (.ff (nl,i.2,2204))
 (.conv 8002 (bzl 2 azw m 239)<|
 .conv 8003 (czq 2 azw i.1 m 239)<|
 .grd (n * 48≤140737488355328/\n≤maxLen)<|
 .nn ((i.1++m),(i64.wrap (i.2+1)))))
 (.oo i.1))
 (nl,0) [] fun i=>
 .ret (i,0,0)
noncomputable def Ezo (c)(d):=
 mkD Tryz.func326 (Ezp c d) 0 [.pure (encL 1 (encL 1 az1) c),.func 327 [.pure (lz5 d)] []] [] (fun r=>.tup [.pure (encL 2 azw r.1),pz r.2.1,pz r.2.2]) (fun _=>[])
noncomputable def uzw (c:A1):T A1:=
 .cc (fzh c) fun d=>let e:=(d.length:Nat);
 .loop (fun (f:Ao)=>⟨[(0,.vec 0),(7,.vec 0),(8,pz (e:Int)),(9,pz f.2)],[(0,vecO 1 (encL 1 az1) f.1 50)],[],1⟩)
 (.exit 0) (fun (f:A1)=>⟨[(0,.vec 0)],[(0,vecO 1 (encL 1 az1) f 50)],[],1⟩)
 (fun f=>let g:=(f.2).toNat;.br (decide (f.2<(e:Int)))
 (.gg f.2 f.1.length<|
 .cc (bzy (f.1.getD g default)) fun h=>
 .gh f.2 f.1.length<|
 .conv 5005 (bze 1 (encL 1 az1) f.1 50 g h)<|
 .gi (f.2) f.1.length<|
 .nn ((f.1.set g h),(i64.wrap (f.2+1))))
 (.oo f.1))
 (d,0) [] fun f=>
 .ret f
noncomputable def mze (c):=
 mkD Tryz.func328 (uzw c) 0 [.pure (encL 1 (encL 1 az1) c)] [] (fun _=>.vec 0) (fun r=>[(0,vecO 1 (encL 1 az1) r 50)])
noncomputable def Jzl (c:azx)(d:A1)(e:Int):T (czj×Int×Int):=
 .cc (mzd c d) fun f=>
 .br (f.2 !=0)
 (.ret ((⟨nl,nl⟩:czj),f.1,f.2))
 (.cc (Ezo d (⟨(⟨c.Robot,c.Shapes,c.Skips⟩:azx),e⟩:dzr)) fun g=>
 .br (g.2.2 !=0)
 (.ret ((⟨nl,nl⟩:czj),g.2.1,g.2.2))
 (.cc (mze d) fun h=>
 .ret ((⟨h,g.1⟩:czj),0,0)))
noncomputable def Jzk (c)(d)(e):=
 mkC [⟨325,Qzq⟩] hd Tryz.func280 (by kernel_rfl) (Jzl c d e) 0 [.pure (czl c),.pure (encL 1 (encL 1 az1) d),pz e] [] (fun r=>.tup [.pure (mz1 r.1),pz r.2.1,pz r.2.2]) (fun _=>[]) (by kernel_rfl)
noncomputable def gzk (a0:Av):T Av:=
 (match a0 with
  |[]=>.unroll 1<|
  .grd (a0.length=0)<|
  .both
   (.ret nl)
   (.conv 3000 (bzl 2 azw ([]:Av) 239)<|
   .conv 3002 (czq 2 azw ([]:Av) a0 239)<|
   .grd ((([]:Av).length+a0.length) * 48≤140737488355328/\(([]:Av).length+a0.length)≤maxLen)<|
   .ret (([]:Av)++a0))
  |_::_=>.grd (0<a0.length)<|
  .conv 3000 (bzl 2 azw ([]:Av) 239)<|
  .conv 3002 (czq 2 azw ([]:Av) a0 239)<|
  .grd ((([]:Av).length+a0.length) * 48≤140737488355328/\(([]:Av).length+a0.length)≤maxLen)<|
  .ret (([]:Av)++a0))
noncomputable def gzj (a0:Av):CallS Av:=
 mkH [] hd Tryz.func424 (by kernel_rfl) (gzk a0) 0 [.pure (encL 2 azw a0)] [] (fun _=>.vec 0) (fun r=>[(0,vecO 2 azw r 239)]) (by cases a0<;>exact Ob.of_side (by kernel_rfl))
noncomputable def jzj (a0:Au):T Au:=
 (match a0 with
  |[]=>.unroll 1<|
  .grd (a0.length=0)<|
  .both
   (.ret nl)
   (.conv 3000 (bzl 3 cz3 ([]:Au) 311)<|
   .conv 3002 (czq 3 cz3 ([]:Au) a0 311)<|
   .grd ((([]:Au).length+a0.length) * 40≤140737488355328/\(([]:Au).length+a0.length)≤maxLen)<|
   .ret (([]:Au)++a0))
  |_::_=>.grd (0<a0.length)<|
  .conv 3000 (bzl 3 cz3 ([]:Au) 311)<|
  .conv 3002 (czq 3 cz3 ([]:Au) a0 311)<|
  .grd ((([]:Au).length+a0.length) * 40≤140737488355328/\(([]:Au).length+a0.length)≤maxLen)<|
  .ret (([]:Au)++a0))
noncomputable def jzi (a0:Au):CallS Au:=
 mkH [] hd Tryz.func454 (by kernel_rfl) (jzj a0) 0 [.pure (encL 3 cz3 a0)] [] (fun _=>.vec 0) (fun r=>[(0,vecO 3 cz3 r 311)]) (by cases a0<;>exact Ob.of_side (by kernel_rfl))
noncomputable def uzv (c:bz0):T (Bh×Au):=let d:Nat×Res:=(0,.box [.pure (encL 3 az2 c.Table),.pure (encL 3 cz3 c.Uses)]);.cc (jzi c.Uses) fun e=>let f:=(e.length:Nat);
 .loop (fun (g:(Au×Int))=>⟨[(1,.ptr 0 0),(2,.ptr 1 0),(3,.vec 4),(9,.vec 4),(10,pz (f:Int)),(11,pz g.2)],[d,(1,.box [.vec 2,.vec 3]),(2,.nilv),(3,.nilv),(4,vecO 3 cz3 g.1 311)],[],5⟩)
 (.exit 0) (fun (g:Au)=>⟨[(1,.ptr 0 0),(2,.ptr 1 0),(3,.vec 4)],[d,(1,.box [.vec 2,.vec 3]),(2,.nilv),(3,.nilv),(4,vecO 3 cz3 g 311)],[],5⟩)
 (fun g=>let h:=(g.2).toNat;let i:=g.1.getD h default;.br (decide (g.2<(f:Int)))
 (.gg g.2 g.1.length<|
 .cc (izq (i.Numbers)) fun j=>let k:=(⟨i.Depth,i.Index,j⟩:ez3);
 .gh g.2 g.1.length<|
 .conv 5007 (bze 3 cz3 g.1 311 h k)<|
 .gi (g.2) g.1.length<|
 .nn ((g.1.set h k),(i64.wrap (g.2+1))))
 (.oo g.1))
 (e,0) [] fun g=>
 .cc (czd c.Table) fun h=>
 .ret (h,g)
noncomputable def uzu (c):=
 mkD Tryz.func425 (uzv c) 0 [.pure (azw c)] [] (fun r=>.agg [.pure (encL 3 az2 r.1),.vec 0]) (fun r=>[(0,vecO 3 cz3 r.2 311)])
noncomputable def Jzp (c:czj):T (A1×Av):=let d:Nat×Res:=(0,.box [.pure (encL 1 (encL 1 az1) c.Points),.pure (encL 2 azw c.Edges)]);.cc (gzj c.Edges) fun e=>let f:=(e.length:Nat);
 .gst 3 256 (0) (Vzv 2 azw e 239 1 3 311 rfl)<|
 .loop (fun (g:(Av×Nat×Int))=>⟨[(1,.ptr 0 0),(2,.ptr 1 0),(3,.vec 4),(9,.vec 4),(10,pz (f:Int)),(11,pz g.2.2)],[d,(1,.box [.vec 2,.vec 3]),(2,.nilv),(3,.nilv),(4,Kzf 2 azw g.1 g.2.1 239 1 3 311 [])],[],5⟩)
 (.exit 0) (fun (g:Av)=>⟨[(1,.ptr 0 0),(2,.ptr 1 0),(3,.vec 4)],[d,(1,.box [.vec 2,.vec 3]),(2,.nilv),(3,.nilv),(4,Dze 2 azw g 239 1 3 311)],[],5⟩)
 (fun g=>let h:=g.2.2;let i:=h.toNat;.br (decide (g.2.2<(f:Int)))
 (.gh g.2.2 g.1.length<|
 .unroll 1100<|
 .grd (g.2.1≤h.toNat/\h.toNat<g.1.length)<|
 .cc (uzu (g.1.getD i default)) fun j=>let k:=(⟨j.1,j.2⟩:bz0);
 .gh g.2.2 g.1.length<|
 .unroll 1100<|
 .grd (h.toNat<g.1.length)<|
 .gst 2 4 (0) (Uzr 2 azw g.1 239 1 3 311 (g.2.1+1) i [encL 3 az2 j.1,.unk] (encL 3 cz3 j.2) k rfl)<|
 .grd (h.toNat=g.2.1)<|
 .nn ((g.1.set i k),(g.2.1+1),(i64.wrap (g.2.2+1))))
 (.gst 3 4 (0) (Uzq 2 azw g.1 239 1 3 311 g.2.1)<|
 .grd (g.2.1=g.1.length)<|
 .oo g.1))
 (e,0,0) [] fun g=>
 .cc (mze c.Points) fun h=>
 .ret (h,g)
noncomputable def Jzo (c):=
 mkD Tryz.func387 (Jzp c) 0 [.pure (mz1 c)] [] (fun _=>.agg [.vec 0,.vec 1]) (fun r=>[(0,vecO 1 (encL 1 az1) r.1 50),(1,Dze 2 azw r.2 239 1 3 311)])
noncomputable def kzo (c:A1):T A1:=
 .loop (fun (d:Bd)=>⟨[(0,.vec 0),(2,pz d.2.1),(3,pz d.2.2)],[(0,vecO 1 (encL 1 az1) d.1 50)],[],1⟩)
 (.exit 0) (fun (d:A1)=>⟨[],[(0,vecO 1 (encL 1 az1) d 50)],[],1⟩)
 (fun d=>let e:=(d.2.1).toNat;let f:=(d.2.2).toNat;let g:=d.1.getD f default;let h:=d.1.set e g;let i:=d.1.getD e default;.br (decide (d.2.1<d.2.2))
 (.gg d.2.2 d.1.length<|
 .gg d.2.1 d.1.length<|
 .gh d.2.1 d.1.length<|
 .conv 3013 (bze 1 (encL 1 az1) d.1 50 e g)<|
 .gi (d.2.1) d.1.length<|
 .gh d.2.2 (h.length)<|
 .conv 3015 (bze 1 (encL 1 az1) h 50 f i)<|
 .gi (d.2.2) (h.length)<|
 .nn ((h.set f i),(i64.wrap (d.2.1+1)),(i64.wrap (d.2.2-1))))
 (.oo d.1))
 (c,0,(i64.wrap ((c.length:Int)-1))) [] fun d=>
 .ret d
noncomputable def kzn (c):=
 mkD Tryz.func388 (kzo c) 1 [.vec 0] [(0,vecO 1 (encL 1 az1) c 50)] (fun _=>.tup []) (fun r=>[(0,vecO 1 (encL 1 az1) r 50)])
noncomputable def gz9 (c:Av):T Av:=
 .loop (fun (d:(Av×Int×Int))=>⟨[(0,.vec 0),(2,pz d.2.1),(3,pz d.2.2)],[(0,Dze 2 azw d.1 239 1 3 311)],[],1⟩)
 (.exit 0) (fun (d:Av)=>⟨[],[(0,Dze 2 azw d 239 1 3 311)],[],1⟩)
 (fun d=>let e:=d.2.2;let f:=d.2.1;let g:=e.toNat;let h:=f.toNat;let i:=d.1.getD h default;let j:=d.1.getD g default;.br (decide (d.2.1<d.2.2))
 (.gst 0 0 g .none<|
 .grd (e.toNat<d.1.length)<|
 .gst 0 0 h .none<|
 .grd (e.toNat≠f.toNat/\f.toNat<d.1.length)<|
 .gh d.2.2 d.1.length<|
 .unroll 1101<|
 .ok (e.toNat=e.toNat) rfl<|
 .gh d.2.1 d.1.length<|
 .unroll 1102<|
 .ok (f.toNat=f.toNat) rfl<|
 .gh d.2.1 d.1.length<|
 .unroll 1102<|
 .ok (f.toNat=f.toNat) rfl<|
 .gh d.2.2 d.1.length<|
 .unroll 1101<|
 .ok (e.toNat=e.toNat) rfl<|
 .gst 1 0 (0) .none<|
 .gst 1 0 (0) .none<|
 .gst 3 0 (0) (Tzc 2 azw d.1 239 1 3 311 h g [encL 3 az2 (i.Table),.unk] [encL 3 az2 (j.Table),.unk] (encL 3 cz3 (i.Uses)) (encL 3 cz3 (j.Uses)) j i rfl rfl)<|
 .grd (e.toNat≠f.toNat)<|
 .nn (((d.1.set h j).set g i),(i64.wrap (d.2.1+1)),(i64.wrap (d.2.2-1))))
 (.oo d.1))
 (c,0,(i64.wrap ((c.length:Int)-1))) [] fun d=>
 .ret d
noncomputable def gz8 (c):=
 mkD Tryz.func389 (gz9 c) 1 [.vec 0] [(0,Dze 2 azw c 239 1 3 311)] (fun _=>.tup []) (fun r=>[(0,Dze 2 azw r 239 1 3 311)])
noncomputable def izm (c:Au):T Au:=
 .loop (fun (d:(Au×Int×Int))=>⟨[(0,.vec 0),(2,pz d.2.1),(3,pz d.2.2)],[(0,vecO 3 cz3 d.1 311)],[],1⟩)
 (.exit 0) (fun (d:Au)=>⟨[],[(0,vecO 3 cz3 d 311)],[],1⟩)
 (fun d=>let e:=(d.2.1).toNat;let f:=(d.2.2).toNat;let g:=d.1.getD f default;let h:=d.1.set e g;let i:=d.1.getD e default;.br (decide (d.2.1<d.2.2))
 (.gg d.2.2 d.1.length<|
 .gg d.2.1 d.1.length<|
 .gh d.2.1 d.1.length<|
 .conv 3013 (bze 3 cz3 d.1 311 e g)<|
 .gi (d.2.1) d.1.length<|
 .gh d.2.2 (h.length)<|
 .conv 3015 (bze 3 cz3 h 311 f i)<|
 .gi (d.2.2) (h.length)<|
 .nn ((h.set f i),(i64.wrap (d.2.1+1)),(i64.wrap (d.2.2-1))))
 (.oo d.1))
 (c,0,(i64.wrap ((c.length:Int)-1))) [] fun d=>
 .ret d
noncomputable def izl (c):=
 mkD Tryz.func390 (izm c) 1 [.vec 0] [(0,vecO 3 cz3 c 311)] (fun _=>.tup []) (fun r=>[(0,vecO 3 cz3 r 311)])
noncomputable def Ezn (c:czj):T czj:=
 .cc (Jzo (⟨c.Points,c.Edges⟩:czj)) fun d=>
 .unroll 998<|
 .call (kzn d.1) [(0,320)] fun e=>
 .call (gz8 d.2) [(0,321)] fun f=>let g:=(f.length:Int);
 .loop (fun (h:Aw)=>⟨[(1,.ptr 0 0),(2,.ptr 3 0),(17,.vec 2),(18,pz g),(19,pz h.2)],[(0,.box [.vec 1,.vec 2]),(1,vecO 1 (encL 1 az1) e 50),(2,Dze 2 azw h.1 239 1 3 311),(3,.box [.vec 4,.vec 5]),(4,.nilv),(5,.nilv)],[.func 386 [] [.ptr 3 0]],6⟩)
 (.exit 0) (fun (h:Av)=>⟨[(1,.ptr 0 0),(2,.ptr 3 0)],[(0,.box [.vec 1,.vec 2]),(1,vecO 1 (encL 1 az1) e 50),(2,Dze 2 azw h 239 1 3 311),(3,.box [.vec 4,.vec 5]),(4,.nilv),(5,.nilv)],[.func 386 [] [.ptr 3 0]],6⟩)
 (fun h=>let i:=h.2;let j:=i.toNat;let k:=h.1.getD j default;let m:Nat×Res:=(7,.box [.pure (encL 3 az2 (k.Table)),.vec 3]);.br (decide (h.2<g))
 (.gst 0 2 j .none<|
 .grd (i.toNat<h.1.length)<|
 .gh h.2 h.1.length<|
 .unroll 1101<|
 .ok (i.toNat=i.toNat) rfl<|
 .call (izl (k.Uses)) [(0,70)] fun n=>let s:=(n.length:Int);
 .loop (fun (t:(Au×Int))=>⟨[(1,.ptr 0 0),(2,.ptr 4 0),(4,.ptr 7 0),(17,.vec 2),(18,pz g),(19,pz h.2),(27,.vec 3),(28,pz s),(29,pz t.2)],[(0,.box [.vec 1,.vec 2]),(1,vecO 1 (encL 1 az1) e 50),(2,Kzf 2 azw h.1 h.1.length 239 1 3 311 [(i.toNat,3)]),(3,vecO 3 cz3 t.1 311),(4,.box [.vec 5,.vec 6]),(5,.nilv),(6,.nilv),m],[.func 386 [] [.ptr 4 0]],8⟩)
 (.exit 2) (fun (t:Au)=>⟨[(1,.ptr 0 0),(2,.ptr 4 0),(17,.vec 2),(18,pz g),(19,pz h.2)],[(0,.box [.vec 1,.vec 2]),(1,vecO 1 (encL 1 az1) e 50),(2,Kzf 2 azw h.1 h.1.length 239 1 3 311 [(i.toNat,3)]),(3,vecO 3 cz3 t 311),(4,.box [.vec 5,.vec 6]),(5,.nilv),(6,.nilv)],[.func 386 [] [.ptr 4 0]],7⟩)
 (fun t=>let w:=(t.2).toNat;let y:=t.1.getD w default;let z:=y.Depth;.br (decide (t.2<s))
 (.cut 0 (fun (aa:Au)=>⟨[(1,.ptr 0 0),(2,.ptr 4 0),(4,.ptr 7 0),(17,.vec 2),(18,pz g),(19,pz h.2),(27,.vec 3),(28,pz s),(29,pz t.2)],[(0,.box [.vec 1,.vec 2]),(1,vecO 1 (encL 1 az1) e 50),(2,Kzf 2 azw h.1 h.1.length 239 1 3 311 [(i.toNat,3)]),(3,vecO 3 cz3 aa 311),(4,.box [.vec 5,.vec 6]),(5,.nilv),(6,.nilv),m],[.func 386 [] [.ptr 4 0]],8⟩)
 (.gg t.2 t.1.length<|
 .cut 0 (fun (aa:Bool)=>⟨[(1,.ptr 0 0),(2,.ptr 4 0),(4,.ptr 7 0),(5,pz t.2),(6,.ptr 8 0),(17,.vec 2),(18,pz g),(19,pz h.2),(27,.vec 3),(28,pz s),(29,pz t.2),(41,.pure (.bool aa))],[(0,.box [.vec 1,.vec 2]),(1,vecO 1 (encL 1 az1) e 50),(2,Kzf 2 azw h.1 h.1.length 239 1 3 311 [(i.toNat,3)]),(3,vecO 3 cz3 t.1 311),(4,.box [.vec 5,.vec 6]),(5,.nilv),(6,.nilv),m,(8,.box [pz z,pz (y.Index),.pure (encL 1 az1 (y.Numbers))])],[.func 386 [] [.ptr 4 0]],9⟩)
 (.br (decide (z≥0))
 (.oo (decide (z≤20)))
 (.oo false)) fun aa=>
 .br aa
 (.grd (0≤z)<|
 .name 13009 ((i64.wrap ((i64.wrap ((i64.wrap (1 * 2 ^ (min z.toNat 64)))-1))- (y.Index)))) fun ab=>let ac:=(⟨y.Depth,ab,y.Numbers⟩:ez3);
 .gh t.2 t.1.length<|
 .conv 13012 (bze 3 cz3 t.1 311 w ac)<|
 .gi (t.2) t.1.length<|
 .oo (t.1.set w ac))
 (.oo t.1)) fun aa=>
 .nn (aa,(i64.wrap (t.2+1))))
 (.oo t.1))
 (n,0) [] fun t=>let w:=(⟨k.Table,t⟩:bz0);
 .gst 1 2 (0) (Uzs 2 azw h.1 239 1 3 311 j (encL 3 cz3 t) w rfl)<|
 .nn ((h.1.set j w),(i64.wrap (h.2+1))))
 (.oo h.1))
 (f,0) [] fun h=>
 .ret (⟨e,h⟩:czj)
noncomputable def Ezm (c):=
 mkC [⟨386,Qzw⟩] hd Tryz.func331 (by kernel_rfl) (Ezn c) 0 [.pure (mz1 c)] [] (fun r=>.pure (mz1 r)) (fun _=>[]) (by kernel_rfl)
noncomputable def Fz3 (c:bz2)(d:Int)(e:Int):T bz0:=let f:=c.Edges.getD (d.toNat) default;let g:=([(c.Points.getD ((f.U).toNat) default),(c.Points.getD ((f.V).toNat) default)]:A1);.gh d c.Edges.length<|
 .cc (sz3 (f.Proof.Pieces)) fun h=>let i:=([h]:Av);
 .br (e==(f.U))
 (.ret h)
 (.gh (f.U) c.Points.length<|
 .gh (f.V) c.Points.length<|
 .conv 5012 (bzl 1 (encL 1 az1) g 50)<|
 .conv 5014 (bzl 2 azw i 239)<|
 .call (Ezm (⟨g,i⟩:czj)) [] fun j=>
 .gh (0:Int) j.Edges.length<|
 .ret (j.Edges.getD ((0:Int).toNat) default))
noncomputable def Fz2 (c)(d)(e):=
 mkD Tryz.func282 (Fz3 c d e) 0 [.pure (dz9 c),pz d,pz e] [] (fun r=>.pure (azw r)) (fun _=>[])
set_option maxHeartbeats 8000000 in
set_option maxRecDepth 20000 in
noncomputable def Iz1 (c:azx)(d:bz2)(e:mzk):T (czj×Bool):=let f:=encL 12 az6 d.Edges;let g:=encL 1 az1 e.Vertices;let h:=(e.Vertices.length:Int);let i:=encL 1 (encL 1 az1) d.Points;let j:Nat×Res:=(1,.box [.pure i,.pure f]);let k:Nat×Res:=(0,.box [.pure i,.pure f]);let m:Nat×Res:=(2,.box [.pure g,pz e.Cost]);let n:Nat×Res:=(1,.box [.pure g,pz e.Cost]);let s:=(⟨d.Points,d.Edges⟩:bz2);let t:=(e.Vertices.drop ((1:Int).toNat)).take (h.toNat- (1:Int).toNat);let w:=encL 1 az1 t;let y:Nat×Res:=(0,.box [.pure (encL 12 az7 c.Robot.Joints),.pure (encL 5 azc c.Robot.Masses),.pure (encL 3 az8 c.Shapes),.pure (encL 2 aze c.Skips)]);.cut 4 (fun (z:Bool)=>⟨[(3,.ptr 0 0),(4,.ptr 1 0),(5,.ptr 2 0),(6,.ptr 3 0),(7,.ptr 6 0),(8,pz h),(33,.pure (.bool z))],[y,j,m,(3,.box [.vec 4,.vec 5]),(4,.nilv),(5,.nilv),(6,.box [.ff])],[.func 276 [] [.ptr 3 0,.ptr 6 0]],7⟩)
 (.br (decide (h<1))
 (.oo true)
 (.br (decide (h>256))
 (.oo true)
 (.cc (lzh s) fun z=>
 .oo (!z)))) fun z=>
 .br z
 (.ret ((⟨nl,nl⟩:czj),false))
 (.loop (fun (aa:Ao)=>⟨[(3,.ptr 0 0),(4,.ptr 1 0),(5,.ptr 2 0),(6,.ptr 3 0),(7,.ptr 6 0),(8,pz h),(36,.pure g),(37,pz h),(38,pz aa.2)],[y,j,m,(3,.box [.vec 4,.vec 5]),(4,vecO 1 (encL 1 az1) aa.1 50),(5,.nilv),(6,.box [.ff])],[.func 276 [] [.ptr 3 0,.ptr 6 0]],7⟩)
 (.exit 0) (fun (aa:A1)=>⟨[(3,.ptr 0 0),(4,.ptr 1 0),(5,.ptr 2 0),(6,.ptr 3 0),(7,.ptr 6 0),(8,pz h)],[y,j,m,(3,.box [.vec 4,.vec 5]),(4,vecO 1 (encL 1 az1) aa 50),(5,.nilv),(6,.box [.ff])],[.func 276 [] [.ptr 3 0,.ptr 6 0]],7⟩)
 (fun aa=>let ab:=e.Vertices.getD ((aa.2).toNat) default;.br (decide (aa.2<h))
 (.gh aa.2 e.Vertices.length<|
 .cc (fz7 s ab) fun ac=>
 .br (!ac)
 (.ff ((⟨nl,nl⟩:czj),false))
 (.gh ab d.Points.length<|
 .call (bzy (d.Points.getD (ab.toNat) default)) [] fun ad=>let ae:=([ad]:A1);let af:=aa.1.length+ae.length;
 .conv 10008 (bzl 1 (encL 1 az1) ae 50)<|
 .conv 10009 (czq 1 (encL 1 az1) aa.1 ae 50)<|
 .grd (af * 24≤140737488355328/\af≤maxLen)<|
 .nn ((aa.1++ae),(i64.wrap (aa.2+1)))))
 (.oo aa.1))
 (nl,0) [] fun aa=>let ab:=aa.getD ((0:Int).toNat) default;let ac:=([ab,ab]:A1);
 .br (h==1)
 (.gg (0:Int) aa.length<|
 .gg (0:Int) aa.length<|
 .conv 13009 (bzl 1 (encL 1 az1) ac 50)<|
 .cc (Jzk (⟨c.Robot,c.Shapes,c.Skips⟩:azx) ac 0) fun ad=>
 .ret (ad.1,(ad.2.2==0)))
 (.conv 15002 (wzc 1 az1 e.Vertices (1:Int) h)<|
 .grd (0≤(1:Int)/\(1:Int)≤h/\h≤h)<|
 .name 15003 ((t.length:Int)) fun ad=>
 .loop (fun (ae:Aw)=>⟨[(4,.ptr 0 0),(5,.ptr 1 0),(6,.ptr 2 0),(7,.ptr 5 0),(81,.pure w),(82,pz ad),(83,pz ae.2)],[k,n,(2,.box [.vec 3,.vec 4]),(3,vecO 1 (encL 1 az1) aa 50),(4,vecO 2 azw ae.1 239),(5,.box [.ff])],[.func 276 [] [.ptr 2 0,.ptr 5 0]],6⟩)
 (.exit 2) (fun (ae:Av)=>⟨[(6,.ptr 0 0),(7,.ptr 3 0)],[(0,.box [.vec 1,.vec 2]),(1,vecO 1 (encL 1 az1) aa 50),(2,vecO 2 azw ae 239),(3,.box [.ff])],[.func 276 [] [.ptr 0 0,.ptr 3 0]],4⟩)
 (fun ae=>let af:=(ae.2).toNat;let ag:=e.Vertices.getD af default;.br (decide (ae.2<ad))
 (.gh ae.2 (t.length)<|
 .name 17002 ((t.getD af default)) fun ah=>
 .gh ae.2 e.Vertices.length<|
 .cc (pz8 s ag ah) fun ai=>
 .cut 1 (fun (aj:Bool)=>⟨[(4,.ptr 0 0),(5,.ptr 1 0),(6,.ptr 2 0),(7,.ptr 5 0),(16,pz ag),(17,pz ai.1),(81,.pure w),(82,pz ad),(83,pz ae.2),(110,.pure (.bool aj))],[k,n,(2,.box [.vec 3,.vec 4]),(3,vecO 1 (encL 1 az1) aa 50),(4,vecO 2 azw ae.1 239),(5,.box [.ff])],[.func 276 [] [.ptr 2 0,.ptr 5 0]],6⟩)
 (.br (!ai.2)
 (.oo true)
 (.gh ai.1 d.Edges.length<|
 .oo (((d.Edges.getD ((ai.1).toNat) default).State) !=1))) fun aj=>
 .br aj
 (.ff ((⟨nl,nl⟩:czj),false))
 (.cc (Fz2 s ai.1 ag) fun ak=>let al:=([ak]:Av);let am:=ae.1.length+al.length;
 .conv 22006 (bzl 2 azw al 239)<|
 .conv 22007 (czq 2 azw ae.1 al 239)<|
 .grd (am * 48≤140737488355328/\am≤maxLen)<|
 .nn ((ae.1++al),(i64.wrap (ae.2+1)))))
 (.oo ae.1))
 (nl,0) [] fun ae=>
 .ret ((⟨aa,ae⟩:czj),true)))
noncomputable def Iz0 (c)(d)(e):=
 mkC [⟨276,Qzj⟩] hd Tryz.func202 (by kernel_rfl) (Iz1 c d e) 0 [.pure (czl c),.pure (dz9 d),.pure (Izs e)] [] (fun r=>.tup [.pure (mz1 r.1),.pure (.bool r.2)]) (fun _=>[]) (by kernel_rfl)
open Go.Proofs
noncomputable def xzi (c:azx)(d:A0)(e:A0)(f:dzd):T (czj×Int×Bool):=let g:=encL 1 az1 d;let h:=encL 1 az1 e;let i:=([d,e]:A1);let j:=(⟨c.Robot,c.Shapes,c.Skips⟩:azx);let k:Nat×Res:=(0,.box [.pure (encL 12 az7 c.Robot.Joints),.pure (encL 5 azc c.Robot.Masses),.pure (encL 3 az8 c.Shapes),.pure (encL 2 aze c.Skips)]);let m:Nat×Res:=(1,.box [pz f.Samples,pz f.Degree,pz f.Depth,pz f.Tests]);.cut 2 (fun (n:Bool)=>⟨[(1,.pure g),(2,.pure h),(4,.ptr 0 0),(7,.ptr 1 0),(8,.ptr 2 0),(42,.pure (.bool n))],[k,m,(2,.box [.vec 3,.vec 4]),(3,.nilv),(4,.nilv)],[],5⟩)
 (.cc (dze c) fun n=>
 .br (n !=0)
 (.oo true)
 (.cc (bzv c.Robot d) fun s=>
 .br (!s)
 (.oo true)
 (.cc (bzv c.Robot e) fun t=>
 .br (!t)
 (.oo true)
 (.cc (ez1 f) fun w=>
 .oo (!w))))) fun n=>
 .br n
 (.ret ((⟨nl,nl⟩:czj),0,false))
 (.conv 3002 (bzl 1 (encL 1 az1) i 50)<|
 .cc (Azx c.Robot) fun s=>
 .loop (fun (t:Ao)=>⟨[(1,.pure g),(2,.pure h),(4,.ptr 0 0),(7,.ptr 1 0),(8,.ptr 2 0),(11,.vec 5),(12,.pure (encL 2 azd s)),(51,pz f.Samples),(52,pz t.2)],[k,m,(2,.box [.vec 3,.vec 4]),(3,.nilv),(4,.nilv),(5,vecO 1 (encL 1 az1) t.1 50)],[],6⟩)
 (.exit 0) (fun (t:A1)=>⟨[(1,.pure g),(2,.pure h),(4,.ptr 0 0),(7,.ptr 1 0),(8,.ptr 2 0),(11,.vec 5)],[k,m,(2,.box [.vec 3,.vec 4]),(3,.nilv),(4,.nilv),(5,vecO 1 (encL 1 az1) t 50)],[],6⟩)
 (fun t=>.br (decide (t.2<f.Samples))
 (.cc (zze s (IntKind.u64.wrap ((IntKind.u64.wrap t.2)+1))) fun w=>let y:=([w]:A1);let z:=t.1.length+y.length;
 .conv 8006 (bzl 1 (encL 1 az1) y 50)<|
 .conv 8007 (czq 1 (encL 1 az1) t.1 y 50)<|
 .grd (z * 24≤140737488355328/\z≤maxLen)<|
 .nn ((t.1++y),(i64.wrap (t.2+1))))
 (.oo t.1))
 (i,0) [] fun t=>
 .cut 1 (fun (w:Int)=>⟨[(4,.ptr 0 0),(7,.ptr 1 0),(8,.ptr 2 0),(11,.vec 5),(14,pz w)],[k,m,(2,.box [.vec 3,.vec 4]),(3,.nilv),(4,.nilv),(5,vecO 1 (encL 1 az1) t 50)],[],6⟩)
 (.cc (ez7 d e) fun w=>
 .br w
 (.oo 0)
 (.oo 1)) fun w=>
 .cc (Hzn c.Robot t f.Degree) fun y=>
 .cc (Hzw j y 0 w f.Depth f.Tests) fun z=>
 .br (z.2.2.1 !=1)
 (.ret ((⟨nl,nl⟩:czj),z.2.2.2,false))
 (.cc (Iz0 j (⟨z.1.Points,z.1.Edges⟩:bz2) (⟨z.2.1.Vertices,z.2.1.Cost⟩:mzk)) fun aa=>
 .br (!aa.2)
 (.ret ((⟨nl,nl⟩:czj),z.2.2.2,false))
 (.ret (aa.1,z.2.2.2,true))))
noncomputable def xzh (c)(d)(e)(f):=
 mkD Tryz.func127 (xzi c d e f) 0 [.pure (czl c),.pure (encL 1 az1 d),.pure (encL 1 az1 e),.pure (rz2 f)] [] (fun r=>.tup [.pure (mz1 r.1),pz r.2.1,.pure (.bool r.2.2)]) (fun _=>[])
noncomputable def Bzb (c:Int)(d:A4)(e:A9)(f:A5)(g:Ae)(h:A7)(i:Bh)(j:A6)(k:A8)(m:Int)(n:Int)(s:Int)(t:Int)(w:Int)(_a14:B4)(y:A0)(z:Int)(aa:Int)(ab:Int)(ac:A4)(ad:A9)(ae:A5)(af:Ae)(ag:A0):T (azl×Bool×A4×A9×A5×Ae×A7×Bh×A6×A8×Int×Int×Int×Int×Int×A0×Int×Int×Int×A4×A9×A5×Ae×A0):=let ah:=(⟨z,aa,ab⟩:azi);.cc (zzs (⟨(⟨(⟨d,e⟩:bz1),f,g⟩:azx),h,i,j,k,m⟩:azb) (⟨y⟩:bz5) ah c) fun ai=>
 .br (!ai)
 (.ret ((⟨(⟨0,0,0⟩:azi),0,(⟨nl,nl⟩:czj)⟩:azl),false,d,e,f,g,h,i,j,k,m,n,s,t,w,y,z,aa,ab,ac,ad,ae,af,ag))
 (.gh c k.length<|
 .cc (xzh (⟨(⟨ac,ad⟩:bz1),ae,af⟩:azx) ag ((k.getD (c.toNat) default).At) (⟨n,s,t,w⟩:dzd)) fun aj=>
 .ret ((⟨ah,c,aj.1⟩:azl),aj.2.2,d,e,f,g,h,i,j,k,m,n,s,t,w,y,z,aa,ab,ac,ad,ae,af,ag))
noncomputable def Bza (c)(d)(e)(f)(g)(h)(i)(j)(k)(m)(n)(s)(t)(w)(y)(z)(aa)(ab)(ac)(ad)(ae)(af)(ag)(ah):=
 mkD Tryz.func126 (Bzb c d e f g h i j k m n s t w y z aa ab ac ad ae af ag ah) 6 [pz c,.ptr 0 0,.ptr 2 0,.ptr 3 0,.ptr 4 0,.ptr 5 0] [(0,.box [.pure (encL 12 az7 d),.pure (encL 5 azc e),.pure (encL 3 az8 f),.pure (encL 2 aze g),.pure (encL 2 azh h),.pure (encL 3 az2 i),.pure (encL 4 azv j),.pure (encL 3 azu k),pz m,pz n,pz s,pz t,pz w,.map 1]),(1,mapG [.int .i64 0,.int .i64 0,.int .i64 0,.int .i64 0,.int .i64 0,.int .i64 0,.int .i64 0,.int .i64 0,.int .i64 0,.int .i64 0] az5 azr y),(2,.box [.pure (encL 1 az1 z)]),(3,.box [pz aa,pz ab,pz ac]),(4,.box [.pure (encL 12 az7 ad),.pure (encL 5 azc ae),.pure (encL 3 az8 af),.pure (encL 2 aze ag)]),(5,.box [.pure (encL 1 az1 ah)])] (fun r=>.tup [.pure (azr r.1),.pure (.bool r.2.1)]) (fun r=>[(0,.box [.pure (encL 12 az7 r.2.2.1),.pure (encL 5 azc r.2.2.2.1),.pure (encL 3 az8 r.2.2.2.2.1),.pure (encL 2 aze r.2.2.2.2.2.1),.pure (encL 2 azh r.2.2.2.2.2.2.1),.pure (encL 3 az2 r.2.2.2.2.2.2.2.1),.pure (encL 4 azv r.2.2.2.2.2.2.2.2.1),.pure (encL 3 azu r.2.2.2.2.2.2.2.2.2.1),pz r.2.2.2.2.2.2.2.2.2.2.1,pz r.2.2.2.2.2.2.2.2.2.2.2.1,pz r.2.2.2.2.2.2.2.2.2.2.2.2.1,pz r.2.2.2.2.2.2.2.2.2.2.2.2.2.1,pz r.2.2.2.2.2.2.2.2.2.2.2.2.2.2.1,.map 1]),(1,mapG [.int .i64 0,.int .i64 0,.int .i64 0,.int .i64 0,.int .i64 0,.int .i64 0,.int .i64 0,.int .i64 0,.int .i64 0,.int .i64 0] az5 azr y),(2,.box [.pure (encL 1 az1 r.2.2.2.2.2.2.2.2.2.2.2.2.2.2.2.1)]),(3,.box [pz r.2.2.2.2.2.2.2.2.2.2.2.2.2.2.2.2.1,pz r.2.2.2.2.2.2.2.2.2.2.2.2.2.2.2.2.2.1,pz r.2.2.2.2.2.2.2.2.2.2.2.2.2.2.2.2.2.2.1]),(4,.box [.pure (encL 12 az7 r.2.2.2.2.2.2.2.2.2.2.2.2.2.2.2.2.2.2.2.1),.pure (encL 5 azc r.2.2.2.2.2.2.2.2.2.2.2.2.2.2.2.2.2.2.2.2.1),.pure (encL 3 az8 r.2.2.2.2.2.2.2.2.2.2.2.2.2.2.2.2.2.2.2.2.2.1),.pure (encL 2 aze r.2.2.2.2.2.2.2.2.2.2.2.2.2.2.2.2.2.2.2.2.2.2.1)]),(5,.box [.pure (encL 1 az1 r.2.2.2.2.2.2.2.2.2.2.2.2.2.2.2.2.2.2.2.2.2.2.2)])])
noncomputable def Gzs (c:A4)(d:A9)(e:A5)(f:Ae)(g:A7)(h:Bh)(i:A6)(j:A8)(k:Int)(m:Int)(n:Int)(s:Int)(t:Int)(w:B4)(y:bz5)(z:A0)(aa:azi):T (azl×Bool):=let ab:=(j.length:Nat);.cc (oz0 (⟨(⟨(⟨c,d⟩:bz1),e,f⟩:azx),g,h,i,j,k⟩:azb) y) fun ac=>
 .br (ac.2 !=0)
 (.ret ((⟨(⟨0,0,0⟩:azi),0,(⟨nl,nl⟩:czj)⟩:azl),false))
 (.loop (fun (ad:(A4×A9×A5×Ae×A7×Bh×A6×A8×Int×Int×Int×Int×Int×A0×Int×Int×Int×A4×A9×A5×Ae×A0×Int))=>⟨[(8,.ptr 1 0),(12,.func 126 [] [.ptr 4 0,.ptr 5 0,.ptr 6 0,.ptr 7 0,.ptr 8 0]),(30,pz (ab:Int)),(31,pz ad.2.2.2.2.2.2.2.2.2.2.2.2.2.2.2.2.2.2.2.2.2.2)],[(0,mapG [.int .i64 0,.int .i64 0,.int .i64 0,.int .i64 0,.int .i64 0,.int .i64 0,.int .i64 0,.int .i64 0,.int .i64 0,.int .i64 0] az5 azr w),(1,.box [pz 0,pz 0,pz 0,pz 0,.vec 2,.vec 3]),(2,.nilv),(3,.nilv),(4,.box [.pure (encL 12 az7 ad.1),.pure (encL 5 azc ad.2.1),.pure (encL 3 az8 ad.2.2.1),.pure (encL 2 aze ad.2.2.2.1),.pure (encL 2 azh ad.2.2.2.2.1),.pure (encL 3 az2 ad.2.2.2.2.2.1),.pure (encL 4 azv ad.2.2.2.2.2.2.1),.pure (encL 3 azu ad.2.2.2.2.2.2.2.1),pz ad.2.2.2.2.2.2.2.2.1,pz ad.2.2.2.2.2.2.2.2.2.1,pz ad.2.2.2.2.2.2.2.2.2.2.1,pz ad.2.2.2.2.2.2.2.2.2.2.2.1,pz ad.2.2.2.2.2.2.2.2.2.2.2.2.1,.map 0]),(5,.box [.pure (encL 1 az1 ad.2.2.2.2.2.2.2.2.2.2.2.2.2.1)]),(6,.box [pz ad.2.2.2.2.2.2.2.2.2.2.2.2.2.2.1,pz ad.2.2.2.2.2.2.2.2.2.2.2.2.2.2.2.1,pz ad.2.2.2.2.2.2.2.2.2.2.2.2.2.2.2.2.1]),(7,.box [.pure (encL 12 az7 ad.2.2.2.2.2.2.2.2.2.2.2.2.2.2.2.2.2.1),.pure (encL 5 azc ad.2.2.2.2.2.2.2.2.2.2.2.2.2.2.2.2.2.2.1),.pure (encL 3 az8 ad.2.2.2.2.2.2.2.2.2.2.2.2.2.2.2.2.2.2.2.1),.pure (encL 2 aze ad.2.2.2.2.2.2.2.2.2.2.2.2.2.2.2.2.2.2.2.2.1)]),(8,.box [.pure (encL 1 az1 ad.2.2.2.2.2.2.2.2.2.2.2.2.2.2.2.2.2.2.2.2.2.1)])],[],9⟩)
 (.exit 0) (fun (_:U0)=>⟨[(8,.ptr 1 0)],[(0,mapG [.int .i64 0,.int .i64 0,.int .i64 0,.int .i64 0,.int .i64 0,.int .i64 0,.int .i64 0,.int .i64 0,.int .i64 0,.int .i64 0] az5 azr w),(1,.box [pz 0,pz 0,pz 0,pz 0,.vec 2,.vec 3]),(2,.nilv),(3,.nilv)],[],4⟩)
 (fun ad=>.br (decide (ad.2.2.2.2.2.2.2.2.2.2.2.2.2.2.2.2.2.2.2.2.2.2<(ab:Int)))
 (.call (Bza ad.2.2.2.2.2.2.2.2.2.2.2.2.2.2.2.2.2.2.2.2.2.2 ad.1 ad.2.1 ad.2.2.1 ad.2.2.2.1 ad.2.2.2.2.1 ad.2.2.2.2.2.1 ad.2.2.2.2.2.2.1 ad.2.2.2.2.2.2.2.1 ad.2.2.2.2.2.2.2.2.1 ad.2.2.2.2.2.2.2.2.2.1 ad.2.2.2.2.2.2.2.2.2.2.1 ad.2.2.2.2.2.2.2.2.2.2.2.1 ad.2.2.2.2.2.2.2.2.2.2.2.2.1 w ad.2.2.2.2.2.2.2.2.2.2.2.2.2.1 ad.2.2.2.2.2.2.2.2.2.2.2.2.2.2.1 ad.2.2.2.2.2.2.2.2.2.2.2.2.2.2.2.1 ad.2.2.2.2.2.2.2.2.2.2.2.2.2.2.2.2.1 ad.2.2.2.2.2.2.2.2.2.2.2.2.2.2.2.2.2.1 ad.2.2.2.2.2.2.2.2.2.2.2.2.2.2.2.2.2.2.1 ad.2.2.2.2.2.2.2.2.2.2.2.2.2.2.2.2.2.2.2.1 ad.2.2.2.2.2.2.2.2.2.2.2.2.2.2.2.2.2.2.2.2.1 ad.2.2.2.2.2.2.2.2.2.2.2.2.2.2.2.2.2.2.2.2.2.1) [(0,4),(1,0),(2,5),(3,6),(4,7),(5,8)] fun ae=>
 .br ae.2.1
 (.ff (ae.1,true))
 (.nn (ae.2.2.1,ae.2.2.2.1,ae.2.2.2.2.1,ae.2.2.2.2.2.1,ae.2.2.2.2.2.2.1,ae.2.2.2.2.2.2.2.1,ae.2.2.2.2.2.2.2.2.1,ae.2.2.2.2.2.2.2.2.2.1,ae.2.2.2.2.2.2.2.2.2.2.1,ae.2.2.2.2.2.2.2.2.2.2.2.1,ae.2.2.2.2.2.2.2.2.2.2.2.2.1,ae.2.2.2.2.2.2.2.2.2.2.2.2.2.1,ae.2.2.2.2.2.2.2.2.2.2.2.2.2.2.1,ae.2.2.2.2.2.2.2.2.2.2.2.2.2.2.2.1,ae.2.2.2.2.2.2.2.2.2.2.2.2.2.2.2.2.1,ae.2.2.2.2.2.2.2.2.2.2.2.2.2.2.2.2.2.1,ae.2.2.2.2.2.2.2.2.2.2.2.2.2.2.2.2.2.2.1,ae.2.2.2.2.2.2.2.2.2.2.2.2.2.2.2.2.2.2.2.1,ae.2.2.2.2.2.2.2.2.2.2.2.2.2.2.2.2.2.2.2.2.1,ae.2.2.2.2.2.2.2.2.2.2.2.2.2.2.2.2.2.2.2.2.2.1,ae.2.2.2.2.2.2.2.2.2.2.2.2.2.2.2.2.2.2.2.2.2.2.1,ae.2.2.2.2.2.2.2.2.2.2.2.2.2.2.2.2.2.2.2.2.2.2.2,(i64.wrap (ad.2.2.2.2.2.2.2.2.2.2.2.2.2.2.2.2.2.2.2.2.2.2+1)))))
 (.oo .u))
 (c,d,e,f,g,h,i,j,k,m,n,s,t,y.Where,aa.Kind,aa.Hand,aa.Place,ac.1.Robot.Joints,ac.1.Robot.Masses,ac.1.Shapes,ac.1.Skips,z,0) [] fun _=>
 .ret ((⟨(⟨0,0,0⟩:azi),0,(⟨nl,nl⟩:czj)⟩:azl),false))
noncomputable def tzv (c)(d)(e)(f)(g)(h)(i)(j)(k)(m)(n)(s)(t)(w)(y)(z)(aa):=
 mkD Tryz.func74 (Gzs c d e f g h i j k m n s t w y z aa) 1 [.agg [.pure (encL 12 az7 c),.pure (encL 5 azc d),.pure (encL 3 az8 e),.pure (encL 2 aze f),.pure (encL 2 azh g),.pure (encL 3 az2 h),.pure (encL 4 azv i),.pure (encL 3 azu j),pz k,pz m,pz n,pz s,pz t,.map 0],.pure (ezb y),.pure (encL 1 az1 z),.pure (azn aa)] [(0,mapG [.int .i64 0,.int .i64 0,.int .i64 0,.int .i64 0,.int .i64 0,.int .i64 0,.int .i64 0,.int .i64 0,.int .i64 0,.int .i64 0] az5 azr w)] (fun r=>.tup [.pure (azr r.1),.pure (.bool r.2)]) (fun _=>[(0,mapG [.int .i64 0,.int .i64 0,.int .i64 0,.int .i64 0,.int .i64 0,.int .i64 0,.int .i64 0,.int .i64 0,.int .i64 0,.int .i64 0] az5 azr w)])
set_option maxHeartbeats 8000000 in
set_option maxRecDepth 20000 in
noncomputable def fzp (a0:A4)(a1:A9)(a2:A5)(a3:Ae)(a4:A7)(a5:Bh)(a6:A6)(a7:A8)(a8:Int)(a9:Int)(a10:Int)(a11:Int)(a12:Int)(a13:B4)(a14:bz5)(a15:A0)(a16:Aa):T (Ax×A0×Int×Int×Int×B4):=
 .loop (fun (x291:C5)=>⟨[(2,.pure (encL 1 az1 x291.1)),(4,.ptr 1 0),(5,.ptr 2 0),(10,.vec 3),(11,pz x291.2.2.2.2.1),(17,.pure (encL 3 azn a16)),(18,pz (a16.length:Int)),(19,pz x291.2.2.2.2.2)],[(0,mapG [.int .i64 0,.int .i64 0,.int .i64 0,.int .i64 0,.int .i64 0,.int .i64 0,.int .i64 0,.int .i64 0,.int .i64 0,.int .i64 0] az5 azr x291.2.1),(1,.box [.pure (encL 12 az7 a0),.pure (encL 5 azc a1),.pure (encL 3 az8 a2),.pure (encL 2 aze a3),.pure (encL 2 azh a4),.pure (encL 3 az2 a5),.pure (encL 4 azv a6),.pure (encL 3 azu a7),pz a8,pz a9,pz a10,pz a11,pz a12,.map 0]),(2,.box [.pure (encL 1 az1 x291.2.2.1)]),(3,vecO 6 azr x291.2.2.2.1 112)],[],4⟩)
 (.exit 0) (fun (y320:(Ax×B4))=>⟨[(10,.vec 1)],[(0,mapG [.int .i64 0,.int .i64 0,.int .i64 0,.int .i64 0,.int .i64 0,.int .i64 0,.int .i64 0,.int .i64 0,.int .i64 0,.int .i64 0] az5 azr y320.2),(1,vecO 6 azr y320.1 112)],[],2⟩)
 (fun x291=>.br (decide (x291.2.2.2.2.2<(a16.length:Int)))
 (.grd (0≤x291.2.2.2.2.2/\x291.2.2.2.2.2<(a16.length:Int))<|
 .ok ((mdom az5 x291.2.1 (az5 (⟨((if 0<x291.2.2.1.length then x291.2.2.1.getD 0 default else 0),(if 1<x291.2.2.1.length then x291.2.2.1.getD 1 default else 0),(if 2<x291.2.2.1.length then x291.2.2.1.getD 2 default else 0),(if 3<x291.2.2.1.length then x291.2.2.1.getD 3 default else 0),(if 4<x291.2.2.1.length then x291.2.2.1.getD 4 default else 0),(if 5<x291.2.2.1.length then x291.2.2.1.getD 5 default else 0)),x291.2.2.2.2.1,(a16.getD ((x291.2.2.2.2.2).toNat) default)⟩:aza)))=false->PSub (.agg [.int .i64 0,.int .i64 0,.int .i64 0,.int .i64 0,.lst 0 0 fun _=>.unk,.lst 0 0 fun _=>.unk]) (azr (gzw az5 x291.2.1 (az5 (⟨((if 0<x291.2.2.1.length then x291.2.2.1.getD 0 default else 0),(if 1<x291.2.2.1.length then x291.2.2.1.getD 1 default else 0),(if 2<x291.2.2.1.length then x291.2.2.1.getD 2 default else 0),(if 3<x291.2.2.1.length then x291.2.2.1.getD 3 default else 0),(if 4<x291.2.2.1.length then x291.2.2.1.getD 4 default else 0),(if 5<x291.2.2.1.length then x291.2.2.1.getD 5 default else 0)),x291.2.2.2.2.1,(a16.getD ((x291.2.2.2.2.2).toNat) default)⟩:aza))))) (Fzr (by kernel_rfl))<|
 .cut 0 (fun (y343:Cd)=>⟨[(4,.ptr 1 0),(5,.ptr 2 0),(10,.vec 3),(13,.ptr 4 0),(15,.ptr 5 0),(17,.pure (encL 3 azn a16)),(18,pz (a16.length:Int)),(19,pz x291.2.2.2.2.2)],[(0,mapG [.int .i64 0,.int .i64 0,.int .i64 0,.int .i64 0,.int .i64 0,.int .i64 0,.int .i64 0,.int .i64 0,.int .i64 0,.int .i64 0] az5 azr y343.1),(1,.box [.pure (encL 12 az7 a0),.pure (encL 5 azc a1),.pure (encL 3 az8 a2),.pure (encL 2 aze a3),.pure (encL 2 azh a4),.pure (encL 3 az2 a5),.pure (encL 4 azv a6),.pure (encL 3 azu a7),pz a8,pz a9,pz a10,pz a11,pz a12,.map 0]),(2,.box [.pure (encL 1 az1 x291.2.2.1)]),(3,vecO 6 azr x291.2.2.2.1 112),(4,.box [pz ((a16.getD ((x291.2.2.2.2.2).toNat) default).Kind),pz ((a16.getD ((x291.2.2.2.2.2).toNat) default).Hand),pz ((a16.getD ((x291.2.2.2.2.2).toNat) default).Place)]),(5,.box [pz y343.2.1,pz y343.2.2.1,pz y343.2.2.2.1,pz y343.2.2.2.2.1,.pure (encL 1 (encL 1 az1) y343.2.2.2.2.2.1),.pure (encL 2 azw y343.2.2.2.2.2.2)])],[],6⟩)
 (.br (!(mdom az5 x291.2.1 (az5 (⟨((if 0<x291.2.2.1.length then x291.2.2.1.getD 0 default else 0),(if 1<x291.2.2.1.length then x291.2.2.1.getD 1 default else 0),(if 2<x291.2.2.1.length then x291.2.2.1.getD 2 default else 0),(if 3<x291.2.2.1.length then x291.2.2.1.getD 3 default else 0),(if 4<x291.2.2.1.length then x291.2.2.1.getD 4 default else 0),(if 5<x291.2.2.1.length then x291.2.2.1.getD 5 default else 0)),x291.2.2.2.2.1,(a16.getD ((x291.2.2.2.2.2).toNat) default)⟩:aza))))
 (.call (tzv a0 a1 a2 a3 a4 a5 a6 a7 a8 a9 a10 a11 a12 x291.2.1 (⟨x291.2.2.1⟩:bz5) x291.1 (a16.getD ((x291.2.2.2.2.2).toNat) default)) [(0,0)] fun y347=>
 .br (!y347.2)
 (.ret (.fin (.fin (nl,x291.2.2.1,(a16.getD ((x291.2.2.2.2.2).toNat) default).Kind,(a16.getD ((x291.2.2.2.2.2).toNat) default).Hand,(a16.getD ((x291.2.2.2.2.2).toNat) default).Place,x291.2.1))))
 (.conv 13004 (Mz7 [.int .i64 0,.int .i64 0,.int .i64 0,.int .i64 0,.int .i64 0,.int .i64 0,.int .i64 0,.int .i64 0,.int .i64 0,.int .i64 0] az5 azr x291.2.1 (⟨((if 0<x291.2.2.1.length then x291.2.2.1.getD 0 default else 0),(if 1<x291.2.2.1.length then x291.2.2.1.getD 1 default else 0),(if 2<x291.2.2.1.length then x291.2.2.1.getD 2 default else 0),(if 3<x291.2.2.1.length then x291.2.2.1.getD 3 default else 0),(if 4<x291.2.2.1.length then x291.2.2.1.getD 4 default else 0),(if 5<x291.2.2.1.length then x291.2.2.1.getD 5 default else 0)),x291.2.2.2.2.1,(a16.getD ((x291.2.2.2.2.2).toNat) default)⟩:aza) y347.1 (.agg [.int .i64 y347.1.Action.Kind,.int .i64 y347.1.Action.Hand,.int .i64 y347.1.Action.Place,.int .i64 y347.1.Grip,encL 1 (encL 1 az1) y347.1.Path.Points,encL 2 azw y347.1.Path.Edges]) (by kernel_rfl))<|
 .ret (.out ((((⟨((if 0<x291.2.2.1.length then x291.2.2.1.getD 0 default else 0),(if 1<x291.2.2.1.length then x291.2.2.1.getD 1 default else 0),(if 2<x291.2.2.1.length then x291.2.2.1.getD 2 default else 0),(if 3<x291.2.2.1.length then x291.2.2.1.getD 3 default else 0),(if 4<x291.2.2.1.length then x291.2.2.1.getD 4 default else 0),(if 5<x291.2.2.1.length then x291.2.2.1.getD 5 default else 0)),x291.2.2.2.2.1,(a16.getD ((x291.2.2.2.2.2).toNat) default)⟩:aza),y347.1)::x291.2.1),y347.1.Action.Kind,y347.1.Action.Hand,y347.1.Action.Place,y347.1.Grip,y347.1.Path.Points,y347.1.Path.Edges))))
 (.ret (.out (x291.2.1,(gzw az5 x291.2.1 (az5 (⟨((if 0<x291.2.2.1.length then x291.2.2.1.getD 0 default else 0),(if 1<x291.2.2.1.length then x291.2.2.1.getD 1 default else 0),(if 2<x291.2.2.1.length then x291.2.2.1.getD 2 default else 0),(if 3<x291.2.2.1.length then x291.2.2.1.getD 3 default else 0),(if 4<x291.2.2.1.length then x291.2.2.1.getD 4 default else 0),(if 5<x291.2.2.1.length then x291.2.2.1.getD 5 default else 0)),x291.2.2.2.2.1,(a16.getD ((x291.2.2.2.2.2).toNat) default)⟩:aza))).Action.Kind,(gzw az5 x291.2.1 (az5 (⟨((if 0<x291.2.2.1.length then x291.2.2.1.getD 0 default else 0),(if 1<x291.2.2.1.length then x291.2.2.1.getD 1 default else 0),(if 2<x291.2.2.1.length then x291.2.2.1.getD 2 default else 0),(if 3<x291.2.2.1.length then x291.2.2.1.getD 3 default else 0),(if 4<x291.2.2.1.length then x291.2.2.1.getD 4 default else 0),(if 5<x291.2.2.1.length then x291.2.2.1.getD 5 default else 0)),x291.2.2.2.2.1,(a16.getD ((x291.2.2.2.2.2).toNat) default)⟩:aza))).Action.Hand,(gzw az5 x291.2.1 (az5 (⟨((if 0<x291.2.2.1.length then x291.2.2.1.getD 0 default else 0),(if 1<x291.2.2.1.length then x291.2.2.1.getD 1 default else 0),(if 2<x291.2.2.1.length then x291.2.2.1.getD 2 default else 0),(if 3<x291.2.2.1.length then x291.2.2.1.getD 3 default else 0),(if 4<x291.2.2.1.length then x291.2.2.1.getD 4 default else 0),(if 5<x291.2.2.1.length then x291.2.2.1.getD 5 default else 0)),x291.2.2.2.2.1,(a16.getD ((x291.2.2.2.2.2).toNat) default)⟩:aza))).Action.Place,(gzw az5 x291.2.1 (az5 (⟨((if 0<x291.2.2.1.length then x291.2.2.1.getD 0 default else 0),(if 1<x291.2.2.1.length then x291.2.2.1.getD 1 default else 0),(if 2<x291.2.2.1.length then x291.2.2.1.getD 2 default else 0),(if 3<x291.2.2.1.length then x291.2.2.1.getD 3 default else 0),(if 4<x291.2.2.1.length then x291.2.2.1.getD 4 default else 0),(if 5<x291.2.2.1.length then x291.2.2.1.getD 5 default else 0)),x291.2.2.2.2.1,(a16.getD ((x291.2.2.2.2.2).toNat) default)⟩:aza))).Grip,(gzw az5 x291.2.1 (az5 (⟨((if 0<x291.2.2.1.length then x291.2.2.1.getD 0 default else 0),(if 1<x291.2.2.1.length then x291.2.2.1.getD 1 default else 0),(if 2<x291.2.2.1.length then x291.2.2.1.getD 2 default else 0),(if 3<x291.2.2.1.length then x291.2.2.1.getD 3 default else 0),(if 4<x291.2.2.1.length then x291.2.2.1.getD 4 default else 0),(if 5<x291.2.2.1.length then x291.2.2.1.getD 5 default else 0)),x291.2.2.2.2.1,(a16.getD ((x291.2.2.2.2.2).toNat) default)⟩:aza))).Path.Points,(gzw az5 x291.2.1 (az5 (⟨((if 0<x291.2.2.1.length then x291.2.2.1.getD 0 default else 0),(if 1<x291.2.2.1.length then x291.2.2.1.getD 1 default else 0),(if 2<x291.2.2.1.length then x291.2.2.1.getD 2 default else 0),(if 3<x291.2.2.1.length then x291.2.2.1.getD 3 default else 0),(if 4<x291.2.2.1.length then x291.2.2.1.getD 4 default else 0),(if 5<x291.2.2.1.length then x291.2.2.1.getD 5 default else 0)),x291.2.2.2.2.1,(a16.getD ((x291.2.2.2.2.2).toNat) default)⟩:aza))).Path.Edges)))) fun y343=>
 .conv 14002 (bzl 6 azr ([(⟨(⟨y343.2.1,y343.2.2.1,y343.2.2.2.1⟩:azi),y343.2.2.2.2.1,(⟨y343.2.2.2.2.2.1,y343.2.2.2.2.2.2⟩:czj)⟩:azl)]:Ax) 112)<|
 .conv 14003 (czq 6 azr x291.2.2.2.1 ([(⟨(⟨y343.2.1,y343.2.2.1,y343.2.2.2.1⟩:azi),y343.2.2.2.2.1,(⟨y343.2.2.2.2.2.1,y343.2.2.2.2.2.2⟩:czj)⟩:azl)]:Ax) 112)<|
 .grd ((x291.2.2.2.1.length+([(⟨(⟨y343.2.1,y343.2.2.1,y343.2.2.2.1⟩:azi),y343.2.2.2.2.1,(⟨y343.2.2.2.2.2.1,y343.2.2.2.2.2.2⟩:czj)⟩:azl)]:Ax).length) * 80≤140737488355328/\(x291.2.2.2.1.length+([(⟨(⟨y343.2.1,y343.2.2.1,y343.2.2.2.1⟩:azi),y343.2.2.2.2.1,(⟨y343.2.2.2.2.2.1,y343.2.2.2.2.2.2⟩:czj)⟩:azl)]:Ax).length)≤maxLen)<|
 .grd (0≤y343.2.2.2.2.1/\y343.2.2.2.2.1<(a7.length:Int))<|
 .call (mzj (⟨(⟨(⟨a0,a1⟩:bz1),a2,a3⟩:azx),a4,a5,a6,a7,a8⟩:azb) (⟨x291.2.2.1⟩:bz5) (a16.getD ((x291.2.2.2.2.2).toNat) default)) [] fun y348=>
 .ret (.next ((a7.getD ((y343.2.2.2.2.1).toNat) default).At,y343.1,y348.1.Where,(x291.2.2.2.1++([(⟨(⟨y343.2.1,y343.2.2.1,y343.2.2.2.1⟩:azi),y343.2.2.2.2.1,(⟨y343.2.2.2.2.2.1,y343.2.2.2.2.2.2⟩:czj)⟩:azl)]:Ax)),y343.2.2.2.2.1,(i64.wrap (x291.2.2.2.2.2+1)))))
 (.ret (.out (x291.2.2.2.1,x291.2.1))))
 (a15,a13,a14.Where,nl,(-1),0) [] fun _=>
 .stop
noncomputable def ezt (c)(d)(e)(f)(g)(h)(i)(j)(k)(m)(n)(s)(t)(w)(y)(z)(aa):=
 mkD Tryz.func39 (fzp c d e f g h i j k m n s t w y z aa) 1 [.agg [.pure (encL 12 az7 c),.pure (encL 5 azc d),.pure (encL 3 az8 e),.pure (encL 2 aze f),.pure (encL 2 azh g),.pure (encL 3 az2 h),.pure (encL 4 azv i),.pure (encL 3 azu j),pz k,pz m,pz n,pz s,pz t,.map 0],.pure (ezb y),.pure (encL 1 az1 z),.pure (encL 3 azn aa)] [(0,mapG [.int .i64 0,.int .i64 0,.int .i64 0,.int .i64 0,.int .i64 0,.int .i64 0,.int .i64 0,.int .i64 0,.int .i64 0,.int .i64 0] az5 azr w)] (fun r=>.tup [.pure (encL 6 azr r.1),.ptr 1 0]) (fun r=>[(0,mapG [.int .i64 0,.int .i64 0,.int .i64 0,.int .i64 0,.int .i64 0,.int .i64 0,.int .i64 0,.int .i64 0,.int .i64 0,.int .i64 0] az5 azr r.2.2.2.2.2),(1,.box [.pure (encL 1 az1 r.2.1),pz r.2.2.1,pz r.2.2.2.1,pz r.2.2.2.2.1])])
set_option maxHeartbeats 8000000 in
set_option maxRecDepth 20000 in
noncomputable def fzr (a0:A4)(a1:A9)(a2:A5)(a3:Ae)(a4:A7)(a5:Bh)(a6:A6)(a7:A8)(a8:Int)(a9:Int)(a10:Int)(a11:Int)(a12:Int)(a13:B4)(a14:bz5)(a15:A0)(a16:Aa):T (Ax×B4):=
 .loop (fun (x291:C5)=>⟨[(2,.pure (encL 1 az1 x291.1)),(4,.ptr 1 0),(5,.ptr 2 0),(10,.vec 3),(11,pz x291.2.2.2.2.1),(17,.pure (encL 3 azn a16)),(18,pz (a16.length:Int)),(19,pz x291.2.2.2.2.2)],[(0,mapG [.int .i64 0,.int .i64 0,.int .i64 0,.int .i64 0,.int .i64 0,.int .i64 0,.int .i64 0,.int .i64 0,.int .i64 0,.int .i64 0] az5 azr x291.2.1),(1,.box [.pure (encL 12 az7 a0),.pure (encL 5 azc a1),.pure (encL 3 az8 a2),.pure (encL 2 aze a3),.pure (encL 2 azh a4),.pure (encL 3 az2 a5),.pure (encL 4 azv a6),.pure (encL 3 azu a7),pz a8,pz a9,pz a10,pz a11,pz a12,.map 0]),(2,.box [.pure (encL 1 az1 x291.2.2.1)]),(3,vecO 6 azr x291.2.2.2.1 112)],[],4⟩)
 (.exit 0) (fun (y320:(Ax×B4))=>⟨[(10,.vec 1)],[(0,mapG [.int .i64 0,.int .i64 0,.int .i64 0,.int .i64 0,.int .i64 0,.int .i64 0,.int .i64 0,.int .i64 0,.int .i64 0,.int .i64 0] az5 azr y320.2),(1,vecO 6 azr y320.1 112)],[],2⟩)
 (fun x291=>.br (decide (x291.2.2.2.2.2<(a16.length:Int)))
 (.grd (0≤x291.2.2.2.2.2/\x291.2.2.2.2.2<(a16.length:Int))<|
 .ok ((mdom az5 x291.2.1 (az5 (⟨((if 0<x291.2.2.1.length then x291.2.2.1.getD 0 default else 0),(if 1<x291.2.2.1.length then x291.2.2.1.getD 1 default else 0),(if 2<x291.2.2.1.length then x291.2.2.1.getD 2 default else 0),(if 3<x291.2.2.1.length then x291.2.2.1.getD 3 default else 0),(if 4<x291.2.2.1.length then x291.2.2.1.getD 4 default else 0),(if 5<x291.2.2.1.length then x291.2.2.1.getD 5 default else 0)),x291.2.2.2.2.1,(a16.getD ((x291.2.2.2.2.2).toNat) default)⟩:aza)))=false->PSub (.agg [.int .i64 0,.int .i64 0,.int .i64 0,.int .i64 0,.lst 0 0 fun _=>.unk,.lst 0 0 fun _=>.unk]) (azr (gzw az5 x291.2.1 (az5 (⟨((if 0<x291.2.2.1.length then x291.2.2.1.getD 0 default else 0),(if 1<x291.2.2.1.length then x291.2.2.1.getD 1 default else 0),(if 2<x291.2.2.1.length then x291.2.2.1.getD 2 default else 0),(if 3<x291.2.2.1.length then x291.2.2.1.getD 3 default else 0),(if 4<x291.2.2.1.length then x291.2.2.1.getD 4 default else 0),(if 5<x291.2.2.1.length then x291.2.2.1.getD 5 default else 0)),x291.2.2.2.2.1,(a16.getD ((x291.2.2.2.2.2).toNat) default)⟩:aza))))) (Fzr (by kernel_rfl))<|
 .cut 0 (fun (y343:Cd)=>⟨[(4,.ptr 1 0),(5,.ptr 2 0),(10,.vec 3),(13,.ptr 4 0),(15,.ptr 5 0),(17,.pure (encL 3 azn a16)),(18,pz (a16.length:Int)),(19,pz x291.2.2.2.2.2)],[(0,mapG [.int .i64 0,.int .i64 0,.int .i64 0,.int .i64 0,.int .i64 0,.int .i64 0,.int .i64 0,.int .i64 0,.int .i64 0,.int .i64 0] az5 azr y343.1),(1,.box [.pure (encL 12 az7 a0),.pure (encL 5 azc a1),.pure (encL 3 az8 a2),.pure (encL 2 aze a3),.pure (encL 2 azh a4),.pure (encL 3 az2 a5),.pure (encL 4 azv a6),.pure (encL 3 azu a7),pz a8,pz a9,pz a10,pz a11,pz a12,.map 0]),(2,.box [.pure (encL 1 az1 x291.2.2.1)]),(3,vecO 6 azr x291.2.2.2.1 112),(4,.box [pz ((a16.getD ((x291.2.2.2.2.2).toNat) default).Kind),pz ((a16.getD ((x291.2.2.2.2.2).toNat) default).Hand),pz ((a16.getD ((x291.2.2.2.2.2).toNat) default).Place)]),(5,.box [pz y343.2.1,pz y343.2.2.1,pz y343.2.2.2.1,pz y343.2.2.2.2.1,.pure (encL 1 (encL 1 az1) y343.2.2.2.2.2.1),.pure (encL 2 azw y343.2.2.2.2.2.2)])],[],6⟩)
 (.br (!(mdom az5 x291.2.1 (az5 (⟨((if 0<x291.2.2.1.length then x291.2.2.1.getD 0 default else 0),(if 1<x291.2.2.1.length then x291.2.2.1.getD 1 default else 0),(if 2<x291.2.2.1.length then x291.2.2.1.getD 2 default else 0),(if 3<x291.2.2.1.length then x291.2.2.1.getD 3 default else 0),(if 4<x291.2.2.1.length then x291.2.2.1.getD 4 default else 0),(if 5<x291.2.2.1.length then x291.2.2.1.getD 5 default else 0)),x291.2.2.2.2.1,(a16.getD ((x291.2.2.2.2.2).toNat) default)⟩:aza))))
 (.call (tzv a0 a1 a2 a3 a4 a5 a6 a7 a8 a9 a10 a11 a12 x291.2.1 (⟨x291.2.2.1⟩:bz5) x291.1 (a16.getD ((x291.2.2.2.2.2).toNat) default)) [(0,0)] fun y347=>
 .br (!y347.2)
 (.stop)
 (.conv 13004 (Mz7 [.int .i64 0,.int .i64 0,.int .i64 0,.int .i64 0,.int .i64 0,.int .i64 0,.int .i64 0,.int .i64 0,.int .i64 0,.int .i64 0] az5 azr x291.2.1 (⟨((if 0<x291.2.2.1.length then x291.2.2.1.getD 0 default else 0),(if 1<x291.2.2.1.length then x291.2.2.1.getD 1 default else 0),(if 2<x291.2.2.1.length then x291.2.2.1.getD 2 default else 0),(if 3<x291.2.2.1.length then x291.2.2.1.getD 3 default else 0),(if 4<x291.2.2.1.length then x291.2.2.1.getD 4 default else 0),(if 5<x291.2.2.1.length then x291.2.2.1.getD 5 default else 0)),x291.2.2.2.2.1,(a16.getD ((x291.2.2.2.2.2).toNat) default)⟩:aza) y347.1 (.agg [.int .i64 y347.1.Action.Kind,.int .i64 y347.1.Action.Hand,.int .i64 y347.1.Action.Place,.int .i64 y347.1.Grip,encL 1 (encL 1 az1) y347.1.Path.Points,encL 2 azw y347.1.Path.Edges]) (by kernel_rfl))<|
 .ret (.out ((((⟨((if 0<x291.2.2.1.length then x291.2.2.1.getD 0 default else 0),(if 1<x291.2.2.1.length then x291.2.2.1.getD 1 default else 0),(if 2<x291.2.2.1.length then x291.2.2.1.getD 2 default else 0),(if 3<x291.2.2.1.length then x291.2.2.1.getD 3 default else 0),(if 4<x291.2.2.1.length then x291.2.2.1.getD 4 default else 0),(if 5<x291.2.2.1.length then x291.2.2.1.getD 5 default else 0)),x291.2.2.2.2.1,(a16.getD ((x291.2.2.2.2.2).toNat) default)⟩:aza),y347.1)::x291.2.1),y347.1.Action.Kind,y347.1.Action.Hand,y347.1.Action.Place,y347.1.Grip,y347.1.Path.Points,y347.1.Path.Edges))))
 (.ret (.out (x291.2.1,(gzw az5 x291.2.1 (az5 (⟨((if 0<x291.2.2.1.length then x291.2.2.1.getD 0 default else 0),(if 1<x291.2.2.1.length then x291.2.2.1.getD 1 default else 0),(if 2<x291.2.2.1.length then x291.2.2.1.getD 2 default else 0),(if 3<x291.2.2.1.length then x291.2.2.1.getD 3 default else 0),(if 4<x291.2.2.1.length then x291.2.2.1.getD 4 default else 0),(if 5<x291.2.2.1.length then x291.2.2.1.getD 5 default else 0)),x291.2.2.2.2.1,(a16.getD ((x291.2.2.2.2.2).toNat) default)⟩:aza))).Action.Kind,(gzw az5 x291.2.1 (az5 (⟨((if 0<x291.2.2.1.length then x291.2.2.1.getD 0 default else 0),(if 1<x291.2.2.1.length then x291.2.2.1.getD 1 default else 0),(if 2<x291.2.2.1.length then x291.2.2.1.getD 2 default else 0),(if 3<x291.2.2.1.length then x291.2.2.1.getD 3 default else 0),(if 4<x291.2.2.1.length then x291.2.2.1.getD 4 default else 0),(if 5<x291.2.2.1.length then x291.2.2.1.getD 5 default else 0)),x291.2.2.2.2.1,(a16.getD ((x291.2.2.2.2.2).toNat) default)⟩:aza))).Action.Hand,(gzw az5 x291.2.1 (az5 (⟨((if 0<x291.2.2.1.length then x291.2.2.1.getD 0 default else 0),(if 1<x291.2.2.1.length then x291.2.2.1.getD 1 default else 0),(if 2<x291.2.2.1.length then x291.2.2.1.getD 2 default else 0),(if 3<x291.2.2.1.length then x291.2.2.1.getD 3 default else 0),(if 4<x291.2.2.1.length then x291.2.2.1.getD 4 default else 0),(if 5<x291.2.2.1.length then x291.2.2.1.getD 5 default else 0)),x291.2.2.2.2.1,(a16.getD ((x291.2.2.2.2.2).toNat) default)⟩:aza))).Action.Place,(gzw az5 x291.2.1 (az5 (⟨((if 0<x291.2.2.1.length then x291.2.2.1.getD 0 default else 0),(if 1<x291.2.2.1.length then x291.2.2.1.getD 1 default else 0),(if 2<x291.2.2.1.length then x291.2.2.1.getD 2 default else 0),(if 3<x291.2.2.1.length then x291.2.2.1.getD 3 default else 0),(if 4<x291.2.2.1.length then x291.2.2.1.getD 4 default else 0),(if 5<x291.2.2.1.length then x291.2.2.1.getD 5 default else 0)),x291.2.2.2.2.1,(a16.getD ((x291.2.2.2.2.2).toNat) default)⟩:aza))).Grip,(gzw az5 x291.2.1 (az5 (⟨((if 0<x291.2.2.1.length then x291.2.2.1.getD 0 default else 0),(if 1<x291.2.2.1.length then x291.2.2.1.getD 1 default else 0),(if 2<x291.2.2.1.length then x291.2.2.1.getD 2 default else 0),(if 3<x291.2.2.1.length then x291.2.2.1.getD 3 default else 0),(if 4<x291.2.2.1.length then x291.2.2.1.getD 4 default else 0),(if 5<x291.2.2.1.length then x291.2.2.1.getD 5 default else 0)),x291.2.2.2.2.1,(a16.getD ((x291.2.2.2.2.2).toNat) default)⟩:aza))).Path.Points,(gzw az5 x291.2.1 (az5 (⟨((if 0<x291.2.2.1.length then x291.2.2.1.getD 0 default else 0),(if 1<x291.2.2.1.length then x291.2.2.1.getD 1 default else 0),(if 2<x291.2.2.1.length then x291.2.2.1.getD 2 default else 0),(if 3<x291.2.2.1.length then x291.2.2.1.getD 3 default else 0),(if 4<x291.2.2.1.length then x291.2.2.1.getD 4 default else 0),(if 5<x291.2.2.1.length then x291.2.2.1.getD 5 default else 0)),x291.2.2.2.2.1,(a16.getD ((x291.2.2.2.2.2).toNat) default)⟩:aza))).Path.Edges)))) fun y343=>
 .conv 14002 (bzl 6 azr ([(⟨(⟨y343.2.1,y343.2.2.1,y343.2.2.2.1⟩:azi),y343.2.2.2.2.1,(⟨y343.2.2.2.2.2.1,y343.2.2.2.2.2.2⟩:czj)⟩:azl)]:Ax) 112)<|
 .conv 14003 (czq 6 azr x291.2.2.2.1 ([(⟨(⟨y343.2.1,y343.2.2.1,y343.2.2.2.1⟩:azi),y343.2.2.2.2.1,(⟨y343.2.2.2.2.2.1,y343.2.2.2.2.2.2⟩:czj)⟩:azl)]:Ax) 112)<|
 .grd ((x291.2.2.2.1.length+([(⟨(⟨y343.2.1,y343.2.2.1,y343.2.2.2.1⟩:azi),y343.2.2.2.2.1,(⟨y343.2.2.2.2.2.1,y343.2.2.2.2.2.2⟩:czj)⟩:azl)]:Ax).length) * 80≤140737488355328/\(x291.2.2.2.1.length+([(⟨(⟨y343.2.1,y343.2.2.1,y343.2.2.2.1⟩:azi),y343.2.2.2.2.1,(⟨y343.2.2.2.2.2.1,y343.2.2.2.2.2.2⟩:czj)⟩:azl)]:Ax).length)≤maxLen)<|
 .grd (0≤y343.2.2.2.2.1/\y343.2.2.2.2.1<(a7.length:Int))<|
 .call (mzj (⟨(⟨(⟨a0,a1⟩:bz1),a2,a3⟩:azx),a4,a5,a6,a7,a8⟩:azb) (⟨x291.2.2.1⟩:bz5) (a16.getD ((x291.2.2.2.2.2).toNat) default)) [] fun y348=>
 .ret (.next ((a7.getD ((y343.2.2.2.2.1).toNat) default).At,y343.1,y348.1.Where,(x291.2.2.2.1++([(⟨(⟨y343.2.1,y343.2.2.1,y343.2.2.2.1⟩:azi),y343.2.2.2.2.1,(⟨y343.2.2.2.2.2.1,y343.2.2.2.2.2.2⟩:czj)⟩:azl)]:Ax)),y343.2.2.2.2.1,(i64.wrap (x291.2.2.2.2.2+1)))))
 (.ret (.out (x291.2.2.2.1,x291.2.1))))
 (a15,a13,a14.Where,nl,(-1),0) [] fun y320=>
 .ret (y320.1,y320.2)
noncomputable def fzq (c)(d)(e)(f)(g)(h)(i)(j)(k)(m)(n)(s)(t)(w)(y)(z)(aa):=
 mkD Tryz.func39 (fzr c d e f g h i j k m n s t w y z aa) 1 [.agg [.pure (encL 12 az7 c),.pure (encL 5 azc d),.pure (encL 3 az8 e),.pure (encL 2 aze f),.pure (encL 2 azh g),.pure (encL 3 az2 h),.pure (encL 4 azv i),.pure (encL 3 azu j),pz k,pz m,pz n,pz s,pz t,.map 0],.pure (ezb y),.pure (encL 1 az1 z),.pure (encL 3 azn aa)] [(0,mapG [.int .i64 0,.int .i64 0,.int .i64 0,.int .i64 0,.int .i64 0,.int .i64 0,.int .i64 0,.int .i64 0,.int .i64 0,.int .i64 0] az5 azr w)] (fun r=>.tup [.pure (encL 6 azr r.1),.nilp]) (fun r=>[(0,mapG [.int .i64 0,.int .i64 0,.int .i64 0,.int .i64 0,.int .i64 0,.int .i64 0,.int .i64 0,.int .i64 0,.int .i64 0,.int .i64 0] az5 azr r.2)])
noncomputable def lzo (c:azb)(d:bz5)(e:A0)(f:A0)(g:dzd)(h:Int):T (Ax×Int):=let i:=encL 1 az1 e;let j:=encL 1 az1 f;let k:=encL 4 azv c.Hands;let m:=encL 3 azu c.Grips;let n:Nat×Res:=(1,.box [.pure (encL 1 az1 d.Where)]);let s:=encL 3 az2 c.Places;let t:=(⟨d.Where⟩:bz5);let w:=encL 2 azh c.Objects;let y:=encL 2 aze c.Scene.Skips;let z:=encL 3 az8 c.Scene.Shapes;let aa:=encL 5 azc c.Scene.Robot.Masses;let ab:=encL 12 az7 c.Scene.Robot.Joints;let ac:Nat×Res:=(2,.box [pz g.Samples,pz g.Degree,pz g.Depth,pz g.Tests]);let ad:=(⟨c.Scene,c.Objects,c.Places,c.Hands,c.Grips,c.Slack⟩:azb);let ae:Nat×Res:=(0,.box [.pure ab,.pure aa,.pure z,.pure y,.pure w,.pure s,.pure k,.pure m,pz c.Slack]);.cut 2 (fun (af:Bool)=>⟨[(2,.pure i),(3,.pure j),(5,pz h),(6,.ptr 0 0),(7,.ptr 1 0),(10,.ptr 2 0),(39,.pure (.bool af))],[ae,n,ac],[],3⟩)
 (.cc (dz3 ad t) fun af=>
 .br (!af)
 (.oo true)
 (.cc (bzv c.Scene.Robot e) fun ag=>
 .br (!ag)
 (.oo true)
 (.oo ((f.length:Int) !=(c.Objects.length:Int))))) fun af=>
 .br af
 (.ret (nl,0))
 (.cut 1 (fun (ag:Bool)=>⟨[(2,.pure i),(3,.pure j),(5,pz h),(6,.ptr 0 0),(7,.ptr 1 0),(10,.ptr 2 0),(50,.pure (.bool ag))],[ae,n,ac],[],3⟩)
 (.br (decide (h<1))
 (.oo true)
 (.br (decide (h>64))
 (.oo true)
 (.cc (ez1 g) fun ag=>
 .oo (!ag)))) fun ag=>
 .br ag
 (.ret (nl,0))
 (.conv 5002 (Szn [.int .i64 0,.int .i64 0,.int .i64 0,.int .i64 0,.int .i64 0,.int .i64 0,.int .i64 0,.int .i64 0,.int .i64 0,.int .i64 0] az5 azr (.agg [.int .i64 0,.int .i64 0,.int .i64 0,.int .i64 0,.lst 0 0 fun _=>.unk,.lst 0 0 fun _=>.unk]))<|
 .loop (fun (ah:(B4×Ac×Int))=>⟨[(2,.pure i),(3,.pure j),(6,.ptr 0 0),(7,.ptr 1 0),(14,.ptr 2 0),(15,.vec 4),(55,pz h),(56,pz ah.2.2)],[ae,n,(2,.box [.pure ab,.pure aa,.pure z,.pure y,.pure w,.pure s,.pure k,.pure m,pz c.Slack,pz g.Samples,pz g.Degree,pz g.Depth,pz g.Tests,.map 3]),(3,mapG [.int .i64 0,.int .i64 0,.int .i64 0,.int .i64 0,.int .i64 0,.int .i64 0,.int .i64 0,.int .i64 0,.int .i64 0,.int .i64 0] az5 azr ah.1),(4,vecS 4 pzv ah.2.1 105)],[],5⟩)
 (.exit 0) (fun (_:U0)=>⟨[],[],[],0⟩)
 (fun ah=>.br (decide (ah.2.2<h))
 (.cc (jzs ad t f 16 ah.2.1) fun ai=>let aj:=ezt c.Scene.Robot.Joints c.Scene.Robot.Masses c.Scene.Shapes c.Scene.Skips c.Objects c.Places c.Hands c.Grips c.Slack g.Samples g.Degree g.Depth g.Tests ah.1 t e ai.1;
 .br (!ai.2)
 (.ff (nl,2))
 (.split ((aj.o).isSome)
 (.call aj [(0,3)] fun ak=>let al:=([(⟨(⟨ak.2.1⟩:bz5),(⟨ak.2.2.1,ak.2.2.2.1,ak.2.2.2.2.1⟩:azi)⟩:pzd)]:Ac);let am:=ah.2.1.length+al.length;
 .conv 15004 (bzl 4 pzv al 105)<|
 .conv 15005 (Szm 4 pzv ah.2.1 al 105)<|
 .grd (am * 48≤140737488355328/\am≤maxLen)<|
 .nn (ak.2.2.2.2.2,(ah.2.1++al),(i64.wrap (ah.2.2+1))))
 (.call (fzq c.Scene.Robot.Joints c.Scene.Robot.Masses c.Scene.Shapes c.Scene.Skips c.Objects c.Places c.Hands c.Grips c.Slack g.Samples g.Degree g.Depth g.Tests ah.1 t e ai.1) [(0,3)] fun ak=>
 .ff (ak.1,1))))
 (.oo .u))
 ((nl:List (aza×azl)),nl,0) [] fun _=>
 .ret (nl,4)))
noncomputable def ez0 (c)(d)(e)(f)(g)(h):=
 mkD Tryz.func14 (lzo c d e f g h) 0 [.pure (bzm c),.pure (ezb d),.pure (encL 1 az1 e),.pure (encL 1 az1 f),.pure (rz2 g),pz h] [] (fun r=>.tup [.pure (encL 6 azr r.1),pz r.2]) (fun _=>[])
noncomputable def Lzc:T azb:=
 .cc (oze 2 64) fun c=>
 .conv 3002 (bzl 3 az2 ([(16,0,0),(32,0,0)]:Bh) 68)<|
 .conv 4001 (bzl 4 azv ([(⟨1,(0,0,0)⟩:dzo)]:A6) 73)<|
 .conv 5001 (bzl 3 az2 ([(0,0,0)]:Bh) 68)<|
 .conv 5003 (bzl 3 az8 ([(⟨0,1,([(0,0,0)]:Bh)⟩:azg)]:A5) 70)<|
 .conv 5005 (bzl 2 azh ([(⟨(⟨#[111]⟩:ByteArray),([(⟨0,1,([(0,0,0)]:Bh)⟩:azg)]:A5)⟩:bz9)]:A7) 76)<|
 .conv 6000 (bzl 1 az1 ([16,0]:A0) 2)<|
 .conv 6002 (bzl 1 az1 ([32,0]:A0) 2)<|
 .conv 6004 (bzl 3 azu ([(⟨0,0,([16,0]:A0)⟩:cze),(⟨0,1,([32,0]:A0)⟩:cze)]:A8) 79)<|
 .ret (⟨(⟨c,nl,nl⟩:azx),([(⟨(⟨#[111]⟩:ByteArray),([(⟨0,1,([(0,0,0)]:Bh)⟩:azg)]:A5)⟩:bz9)]:A7),([(16,0,0),(32,0,0)]:Bh),([(⟨1,(0,0,0)⟩:dzo)]:A6),([(⟨0,0,([16,0]:A0)⟩:cze),(⟨0,1,([32,0]:A0)⟩:cze)]:A8),0⟩:azb)
noncomputable def law39_one_C:CallS azb:=
 mkD Tryz.func17 (Lzc) 0 [] [] (fun r=>.pure (bzm r)) (fun _=>[])
set_option maxHeartbeats 8000000 in
set_option maxRecDepth 20000 in
noncomputable def yzg (c:bz0):T (Am×Bool):=let d:=encL 3 cz3 c.Uses;let e:=(c.Uses.length:Int);let f:Nat×Res:=(0,.box [.pure (encL 3 az2 c.Table),.pure d]);.loop (fun (g:An)=>⟨[(1,.ptr 0 0),(2,.ptr 1 0),(3,.ptr 3 0),(11,.pure d),(12,pz e),(13,pz g.2)],[f,(1,.box [.vec 2]),(2,vecO 3 azo g.1 313),(3,.box [.ff])],[.func 203 [] [.ptr 1 0,.ptr 3 0]],4⟩)
 (.exit 0) (fun (g:Am)=>⟨[(2,.ptr 0 0),(3,.ptr 2 0)],[(0,.box [.vec 1]),(1,vecO 3 azo g 313),(2,.box [.ff])],[.func 203 [] [.ptr 0 0,.ptr 2 0]],3⟩)
 (fun g=>let h:=c.Uses.getD ((g.2).toNat) default;let i:=encL 1 az1 (h.Numbers);let j:=(h.Numbers.length:Int);let k:Nat×Res:=(4,.box [pz (h.Depth),pz (h.Index),.vec 5]);.br (decide (g.2<e))
 (.gh g.2 c.Uses.length<|
 .loop (fun (m:Bi)=>⟨[(1,.ptr 0 0),(2,.ptr 1 0),(3,.ptr 3 0),(6,.ptr 4 0),(11,.pure d),(12,pz e),(13,pz g.2),(23,.pure i),(24,pz j),(25,pz m.2)],[f,(1,.box [.vec 2]),(2,vecO 3 azo g.1 313),(3,.box [.ff]),k,(5,vecO 3 az2 m.1 68)],[.func 203 [] [.ptr 1 0,.ptr 3 0]],6⟩)
 (.exit 2) (fun (m:Bh)=>⟨[(1,.ptr 0 0),(2,.ptr 1 0),(3,.ptr 3 0),(6,.ptr 4 0),(11,.pure d),(12,pz e),(13,pz g.2)],[f,(1,.box [.vec 2]),(2,vecO 3 azo g.1 313),(3,.box [.ff]),k,(5,vecO 3 az2 m 68)],[.func 203 [] [.ptr 1 0,.ptr 3 0]],6⟩)
 (fun m=>let n:=(h.Numbers).getD ((m.2).toNat) default;let s:=([(c.Table.getD (n.toNat) default)]:Bh);let t:=m.1.length+s.length;.br (decide (m.2<j))
 (.gh m.2 (h.Numbers.length)<|
 .cut 1 (fun (w:Bool)=>⟨[(1,.ptr 0 0),(2,.ptr 1 0),(3,.ptr 3 0),(6,.ptr 4 0),(8,pz n),(11,.pure d),(12,pz e),(13,pz g.2),(23,.pure i),(24,pz j),(25,pz m.2),(37,.pure (.bool w))],[f,(1,.box [.vec 2]),(2,vecO 3 azo g.1 313),(3,.box [.ff]),k,(5,vecO 3 az2 m.1 68)],[.func 203 [] [.ptr 1 0,.ptr 3 0]],6⟩)
 (.br (decide (n<0))
 (.oo true)
 (.oo (decide (n≥(c.Table.length:Int))))) fun w=>
 .br w
 (.ff (.fin (nl,false)))
 (.gh n c.Table.length<|
 .conv 11007 (bzl 3 az2 s 68)<|
 .conv 11008 (czq 3 az2 m.1 s 68)<|
 .grd (t * 24≤140737488355328/\t≤maxLen)<|
 .nn ((m.1++s),(i64.wrap (m.2+1)))))
 (.oo m.1))
 (nl,0) [] fun m=>let n:=([(⟨h.Depth,h.Index,m⟩:azm)]:Am);let s:=g.1.length+n.length;
 .conv 13002 (bzl 3 azo n 313)<|
 .conv 13003 (czq 3 azo g.1 n 313)<|
 .grd (s * 40≤140737488355328/\s≤maxLen)<|
 .nn ((g.1++n),(i64.wrap (g.2+1))))
 (.oo g.1))
 (nl,0) [] fun g=>
 .ret (g,true)
noncomputable def yzf (c):=
 mkC [⟨203,Qzd⟩] hd Tryz.func137 (by kernel_rfl) (yzg c) 0 [.pure (azw c)] [] (fun r=>.tup [.pure (encL 3 azo r.1),.pure (.bool r.2)]) (fun _=>[]) (by kernel_rfl)
noncomputable def Jzn (c:azx)(d:czj):T Ay:=let e:=encL 2 azw d.Edges;let f:=(d.Edges.length:Int);.cc (mzd c d.Points) fun g=>
 .br (g.2 !=0)
 (.ret (g.1,g.2))
 (.br (f !=(i64.wrap ((d.Points.length:Int)-1)))
 (.ret (0,2202))
 (.loop (fun (h:Int)=>⟨[(2,.ptr 0 0),(3,.ptr 1 0),(4,.ptr 2 0),(5,.ptr 3 0),(35,.pure e),(36,pz f),(37,pz h)],[(0,.box [.pure (encL 12 az7 c.Robot.Joints),.pure (encL 5 azc c.Robot.Masses),.pure (encL 3 az8 c.Shapes),.pure (encL 2 aze c.Skips)]),(1,.box [.pure (encL 1 (encL 1 az1) d.Points),.pure e]),(2,.box [pz 0]),(3,.box [pz 0])],[.func 135 [] [.ptr 2 0,.ptr 3 0]],4⟩)
 (.exit 0) (fun (_:U0)=>⟨[(4,.ptr 0 0),(5,.ptr 1 0)],[(0,.box [pz 0]),(1,.box [pz 0])],[.func 135 [] [.ptr 0 0,.ptr 1 0]],2⟩)
 (fun h=>let i:=i64.wrap (h+1);.br (decide (h<f))
 (.gh h d.Edges.length<|
 .cc (yzf (d.Edges.getD (h.toNat) default)) fun j=>
 .br (!j.2)
 (.ff (h,2203))
 (.gh h d.Points.length<|
 .gh i d.Points.length<|
 .call (nz4 (⟨c.Robot,c.Shapes,c.Skips⟩:azx) (d.Points.getD (h.toNat) default) (d.Points.getD (i.toNat) default) j.1) [] fun k=>
 .br (k.2 !=0)
 (.ff (h,k.2))
 (.nn i)))
 (.oo .u))
 0 [] fun _=>
 .ret (0,0)))
noncomputable def Jzm (c)(d):=
 mkC [⟨135,Qza⟩] hd Tryz.func81 (by kernel_rfl) (Jzn c d) 0 [.pure (czl c),.pure (mz1 d)] [] (fun r=>.tup [pz r.1,pz r.2]) (fun _=>[]) (by kernel_rfl)
noncomputable def zzv (c:azb)(d:bz5)(e:czj)(f:A0)(g:A0):T Bool:=let h:=i64.wrap ((e.Points.length:Int)-1);.cc (oz0 c d) fun i=>
 .br (i.2 !=0)
 (.ret false)
 (.cc (Jzm (⟨i.1.Robot,i.1.Shapes,i.1.Skips⟩:azx) e) fun j=>
 .br (j.2 !=0)
 (.ret false)
 (.gh (0:Int) e.Points.length<|
 .cc (ez7 (e.Points.getD ((0:Int).toNat) default) f) fun k=>
 .br k
 (.gh h e.Points.length<|
 .call (ez7 (e.Points.getD (h.toNat) default) g) [] fun m=>
 .ret m)
 (.ret false)))
noncomputable def zzu (c)(d)(e)(f)(g):=
 mkD Tryz.func41 (zzv c d e f g) 0 [.pure (bzm c),.pure (ezb d),.pure (mz1 e),.pure (encL 1 az1 f),.pure (encL 1 az1 g)] [] (fun r=>.pure (.bool r)) (fun _=>[])
noncomputable def Fze (c:azb)(d:bz5)(e:A0):T Bool:=
 .cc (dz3 c d) fun f=>
 .br f
 (.br ((e.length:Int)==(d.Where.length:Int))
 (.cc (dzz d) fun g=>
 .cc (hzw g e) fun h=>
 .ret h)
 (.ret false))
 (.ret false)
noncomputable def Fzd (c)(d)(e):=
 mkD Tryz.func42 (Fze c d e) 0 [.pure (bzm c),.pure (ezb d),.pure (encL 1 az1 e)] [] (fun r=>.pure (.bool r)) (fun _=>[])
noncomputable def zzr (c:azb)(d:bz5)(e:A0)(f:A0)(g:Ax):T Ay:=let h:=encL 1 az1 f;let i:=encL 6 azr g;let j:=(g.length:Int);let k:=(⟨c.Scene,c.Objects,c.Places,c.Hands,c.Grips,c.Slack⟩:azb);let m:Nat×Res:=(0,.box [.pure (encL 12 az7 c.Scene.Robot.Joints),.pure (encL 5 azc c.Scene.Robot.Masses),.pure (encL 3 az8 c.Scene.Shapes),.pure (encL 2 aze c.Scene.Skips),.pure (encL 2 azh c.Objects),.pure (encL 3 az2 c.Places),.pure (encL 4 azv c.Hands),.pure (encL 3 azu c.Grips),pz c.Slack]);.cc (gz4 c) fun n=>
 .br (n !=0)
 (.ret (0,n))
 (.cc (dz3 c d) fun s=>
 .br (!s)
 (.ret (0,3403))
 (.cut 1 (fun (t:Bool)=>⟨[(2,.pure (encL 1 az1 e)),(3,.pure h),(4,.pure i),(5,.ptr 0 0),(6,.ptr 1 0),(40,.pure (.bool t))],[m,(1,.box [.pure (encL 1 az1 d.Where)])],[],2⟩)
 (.cc (bzv c.Scene.Robot e) fun t=>
 .br (!t)
 (.oo true)
 (.oo ((f.length:Int) !=(c.Objects.length:Int)))) fun t=>
 .br t
 (.ret (0,4501))
 (.loop (fun (w:Bb)=>⟨[(2,.pure (encL 1 az1 w.1)),(3,.pure h),(4,.pure i),(5,.ptr 0 0),(6,.ptr 1 0),(41,.pure i),(42,pz j),(43,pz w.2.2)],[m,(1,.box [.pure (encL 1 az1 w.2.1)])],[],2⟩)
 (.exit 0) (fun (w:A0)=>⟨[(3,.pure h),(4,.pure i),(5,.ptr 0 0),(6,.ptr 1 0)],[m,(1,.box [.pure (encL 1 az1 w)])],[],2⟩)
 (fun w=>let y:=(⟨w.2.1⟩:bz5);let z:=g.getD ((w.2.2).toNat) default;let aa:=z.Grip;let ab:=z.Action.Hand;let ac:=z.Action.Place;let ad:=c.Grips.getD (aa.toNat) default;.br (decide (w.2.2<j))
 (.gh w.2.2 g.length<|
 .cc (mzj k y (z.Action)) fun ae=>
 .cut 1 (fun (af:Bool)=>⟨[(2,.pure (encL 1 az1 w.1)),(3,.pure h),(4,.pure i),(5,.ptr 0 0),(6,.ptr 1 0),(13,pz w.2.2),(14,.ptr 2 0),(16,.ptr 3 0),(41,.pure i),(42,pz j),(43,pz w.2.2),(82,.pure (.bool af))],[m,(1,.box [.pure (encL 1 az1 w.2.1)]),(2,.box [pz (z.Action.Kind),pz ab,pz ac,pz aa,.pure (encL 1 (encL 1 az1) (z.Path.Points)),.pure (encL 2 azw (z.Path.Edges))]),(3,.box [.pure (encL 1 az1 ae.1.Where)])],[],4⟩)
 (.br (!ae.2)
 (.oo true)
 (.cc (pzb k (z.Action) aa) fun af=>
 .br (!af)
 (.oo true)
 (.gh aa c.Grips.length<|
 .call (Fzm k ab ac (ad.At)) [] fun ag=>
 .oo (!ag)))) fun af=>
 .br af
 (.ff (w.2.2,3901))
 (.gh aa c.Grips.length<|
 .call (zzu k y (z.Path) w.1 (ad.At)) [] fun ag=>
 .br (!ag)
 (.ff (w.2.2,4401))
 (.gh aa c.Grips.length<|
 .nn (ad.At,ae.1.Where,(i64.wrap (w.2.2+1))))))
 (.oo w.2.1))
 (e,d.Where,0) [] fun w=>
 .cc (Fzd c (⟨w⟩:bz5) f) fun y=>
 .br (!y)
 (.ret (j,3902))
 (.ret (j,0)))))
noncomputable def kz8 (c)(d)(e)(f)(g):=
 mkD Tryz.func18 (zzr c d e f g) 0 [.pure (bzm c),.pure (ezb d),.pure (encL 1 az1 e),.pure (encL 1 az1 f),.pure (encL 6 azr g)] [] (fun r=>.tup [pz r.1,pz r.2]) (fun _=>[])
noncomputable def law39_awake_T:T Bool:=
 .cc (law39_one_C) fun c=>
 .conv 1001 (bzl 1 az1 ([0]:A0) 3)<|
 .conv 2002 (bzl 1 az1 ([0,0]:A0) 2)<|
 .conv 2003 (bzl 1 az1 ([1]:A0) 3)<|
 .cc (fzd 1 9) fun d=>
 .cc (ez0 c (⟨([0]:A0)⟩:bz5) ([0,0]:A0) ([1]:A0) d 3) fun e=>
 .conv 3002 (bzl 1 az1 ([0,0]:A0) 2)<|
 .conv 3003 (bzl 1 az1 ([1]:A0) 3)<|
 .cc (kz8 (⟨c.Scene,c.Objects,c.Places,c.Hands,c.Grips,c.Slack⟩:azb) (⟨([0]:A0)⟩:bz5) ([0,0]:A0) ([1]:A0) e.1) fun f=>
 .br (e.2==1)
 (.br ((e.1.length:Int)==2)
 (.br (f.1==2)
 (.ret (f.2==0))
 (.ret false))
 (.ret false))
 (.ret false)
noncomputable def law39_awake_C:CallS Bool:=
 mkD Tryz.func6 (law39_awake_T) 0 [] [] (fun r=>.pure (.bool r)) (fun _=>[])
noncomputable def gzc (c:A0)(d:A0)(e:A0):T Bool:=
 .cc (pz0 c) fun f=>let g:=(⟨f.Scene,f.Objects,f.Places,f.Hands,f.Grips,f.Slack⟩:azb);
 .cc (tz0 g d) fun h=>
 .cc (ozc f.Scene.Robot e) fun i=>
 .cc (fzd 0 0) fun j=>
 .cc (ez0 g (⟨h.Where⟩:bz5) i h.Where j 1) fun k=>
 .cc (law39_awake_C) fun m=>
 .br m
 (.br (k.2==1)
 (.ret ((k.1.length:Int)==0))
 (.ret false))
 (.ret false)
noncomputable def czo (c)(d)(e):=
 mkD Tryz.func4 (gzc c d e) 0 [.pure (encL 1 az1 c),.pure (encL 1 az1 d),.pure (encL 1 az1 e)] [] (fun r=>.pure (.bool r)) (fun _=>[])
end Go.Abs
