import Derived.Test.YtjonhijmljhjlaaGreatYIM2
open Decidable renaming decide->qx
open Go.IntKind renaming i64->qv
open Inhabited renaming default->qw
open List renaming replicate->qu
open Int renaming toNat->XI
noncomputable section
set_option maxHeartbeats 8000000
set_option maxRecDepth 20000
namespace Go.Abs
open Go.Proofs
def xz0 (c:azd)(d:Af):T (Aj×Aj×Bool):=let e:=(⟨c.Xf,c.Xd,c.Xj⟩:azd);let f:Nat×Res:=(0,.box [XK 12 azc c.Xf.Xb,XK 5 azf c.Xf.Xh,XK 3 azk c.Xd,XK 2 azu c.Xj]);.cut 2 (λ(g:Bool)=>⟨[(1,XK 2 azb d),(2,XM 0),(23,XJ g)],[f],[],1⟩) (.cc (ez9 e) λg=>.br (g !=0) (.oo true) (.cc (pzg c.Xf d) λh=>.oo (!h))) λg=>.br g (.kj (nl,nl,false)) (.cc (Czy e d) λh=>.cc (Izz c) λi=>.loop (λ(j:(Aj×Aj×Int))=>⟨[(2,XM 0),(7,XK 1 (encL 6 az3) h),(8,.vec 1),(9,.vec 2),(10,XK 2 dzy i),(11,pz j.2.2)],[f,(1,vecO 2 bzl j.1 225),(2,vecO 2 bzl j.2.1 225)],[],3⟩) (.exit 0) (λ(j:(Aj×Aj))=>⟨[(8,.vec 0),(9,.vec 1)],[(0,vecO 2 bzl j.1 225),(1,vecO 2 bzl j.2 225)],[],2⟩) (λj=>let k:=i.getD (XI j.2.2) qw;let m:=(k.A).toNat;let n:=(k.B).toNat;let s:=([(⟨(h.getD m qw),(c.Xd.getD m qw).Xs⟩:bz4)]:Aj);let t:=j.1.length+s.length;let w:=([(⟨(h.getD n qw),(c.Xd.getD n qw).Xs⟩:bz4)]:Aj);let y:=j.2.1.length+w.length;.br (qx (j.2.2<(i.length:Int))) (.gh j.2.2 i.length<|.gh j.2.2 i.length<|.gh (k.A) h.length<|.gh (k.A) c.Xd.length<|.conv 10012 (bzx 2 bzl s 225)<|.conv 10013 (czx 2 bzl j.1 s 225)<|.grd (t * 32<=140737488355328/\t<=maxLen)<|.gh (k.B) h.length<|.gh (k.B) c.Xd.length<|.conv 11012 (bzx 2 bzl w 225)<|.conv 11013 (czx 2 bzl j.2.1 w 225)<|.grd (y * 32<=140737488355328/\y<=maxLen)<|.nn ((j.1++s),(j.2.1++w),(qv.wrap (j.2.2+1)))) (.oo (j.1,j.2.1))) (nl,nl,0) [] λj=>.kj (j.1,j.2,true))
def wzz (c)(d):=
 mkD Tryz.func142 (xz0 c d) 0 [.pure (bzh c),XK 2 azb d] [] (λr=>.tup [XK 2 bzl r.1,XK 2 bzl r.2.1,XJ r.2.2]) XL
def qzn (c:B4):T Bool:=let d:Nat×Res:=(0,.box [pz c.1.Lo,pz c.1.Hi,pz c.2.1.Lo,pz c.2.1.Hi,pz c.2.2.Lo,pz c.2.2.Hi]);.unroll 4<|.kh<|.cut 1 (λ(e:Bool)=>⟨[(1,XM 0),(3,pz 0),(30,XJ e)],[d],[],1⟩) (.jW<|.br (qx (c.1.Lo<(-268435456))) (.oo true) (.jW<|.jW<|.br (qx (c.1.Lo>c.1.Hi)) (.oo true) (.jW<|.oo (qx (c.1.Hi>268435456))))) λe=>.br e (.kj false) (.lit 3001 1<|.kh<|.cut 1 (λ(f:Bool)=>⟨[(1,XM 0),(3,pz 1),(30,XJ f)],[d],[],1⟩) (.jX<|.br (qx (c.2.1.Lo<(-268435456))) (.oo true) (.jX<|.jX<|.br (qx (c.2.1.Lo>c.2.1.Hi)) (.oo true) (.jX<|.oo (qx (c.2.1.Hi>268435456))))) λf=>.br f (.kj false) (.lit 3001 2<|.kh<|.cut 1 (λ(g:Bool)=>⟨[(1,XM 0),(3,pz 2),(30,XJ g)],[d],[],1⟩) (.jY<|.br (qx (c.2.2.Lo<(-268435456))) (.oo true) (.jY<|.jY<|.br (qx (c.2.2.Lo>c.2.2.Hi)) (.oo true) (.jY<|.oo (qx (c.2.2.Hi>268435456))))) λg=>.br g (.kj false) (.lit 3001 3<|.ki<|.kj true)))
def qzm (c):=
 mkD Tryz.func235 (qzn c) 0 [.pure (az3 c)] [] XJ XL
def tzn (c:B5):T Bool:=let d:=encL 6 az3 c;let e:=(c.length:Int);.loop (λ(f:Int)=>⟨[(0,.pure d),(3,pz f)],[],[],0⟩) (.exit 0) (λ(_:U0)=>⟨[(0,.pure d)],[],[],0⟩) (λf=>.cut 1 (λ(g:Bool)=>⟨[(0,.pure d),(3,pz f),(11,XJ g)],[],[],0⟩) (.br (qx (f<e)) (.oo (qx (f<=8))) (.oo false)) λg=>.br g (.gh f c.length<|.cc (qzm (c.getD (f.toNat) qw)) λh=>.br (!h) (.ff false) (.nn (qv.wrap (f+1)))) (.oo .u))
 0 [] λ_=>.br (qx (e>=1)) (.kj (qx (e<=8))) (.kj false)
def eze (c):=
 mkD Tryz.func194 (tzn c) 0 [XK 6 az3 c] [] XJ XL
def jza (c:Int):T Bool:=
 .br (qx (c>=0)) (.kj (qx (c<=1048576))) (.kj false)
def fz5 (c):=
 mkD Tryz.func230 (jza c) 0 [pz c] [] XJ XL
def tzp (c:Ax):T Bool:=
 .br (!((c.1==0)&&((c.2.1==0)&&((c.2.2==0)&&true)))) (.cc (fzu c 16384) λd=>.kj d) (.kj false)
def fz3 (c):=
 mkD Tryz.func231 (tzp c) 0 [.pure (az1 c)] [] XJ XL
def Hzp (c:az0):T Int:=
 .cc (ez2 c) λd=>.br (!d) (.kj 0) (.cc (bzk (qv.wrap (c.Lo+c.Hi)) 2) λe=>.kj e)
def Bzr (c):=
 mkD Tryz.func195 (Hzp c) 0 [.pure (azb c)] [] pz XL
def qzj (c:B5):T Ay:=
 .cc (eze c) λd=>.br (!d) (.kj nl) (.loop (λ(e:B0)=>⟨[(0,XK 6 az3 c),(3,.vec 0),(4,pz e.2)],[(0,vecO 3 az1 e.1 96)],[],1⟩) (.exit 0) (λ(e:Ay)=>⟨[(3,.vec 0)],[(0,vecO 3 az1 e 96)],[],1⟩) (λe=>let f:=c.getD (XI e.2) qw;.br (qx (e.2<(c.length:Int))) (.gh e.2 c.length<|.jW<|.cc (Bzr (f.1)) λg=>.gh e.2 c.length<|.jX<|.cc (Bzr (f.2.1)) λh=>.gh e.2 c.length<|.jY<|.cc (Bzr (f.2.2)) λi=>let j:=([(g,h,i)]:Ay);let k:=e.1.length+j.length;
 .conv 7020 (bzx 3 az1 j 96)<|.conv 7021 (czx 3 az1 e.1 j 96)<|.grd (k * 24<=140737488355328/\k<=maxLen)<|.nn ((e.1++j),(qv.wrap (e.2+1)))) (.oo e.1)) (nl,0) [] λe=>.kj e)
def dzz (c):=
 mkD Tryz.func146 (qzj c) 0 [XK 6 az3 c] [] (λr=>XK 3 az1 r) XL
def jz7 (c:Ax):T B3:=
 .br ((c.1==0)&&((c.2.1==0)&&((c.2.2==0)&&true))) (.kj (c,false)) (.loop (λ(d:Int)=>⟨[(1,XM 0),(2,XM 1),(4,pz d)],[(0,.box [pz c.1,pz c.2.1,pz c.2.2]),(1,.box [pz 0,pz 0,pz 0])],[],2⟩)
 .ret XN (λd=>let e:=qv.wrap (c.1.tdiv d);let f:=qv.wrap (c.2.1.tdiv d);let g:=qv.wrap (c.2.2.tdiv d);.jW<|.grd (d≠0)<|.jX<|.grd (d≠0)<|.jY<|.grd (d≠0)<|.cc (fzu (e,f,g) 16384) λh=>.br h (.ff ((e,f,g),true)) (.nn (qv.wrap (d * 2))))
 1 [] λ_=>.stop)
def hza (c):=
 mkD Tryz.func189 (jz7 c) 0 [.pure (az1 c)] [] (λr=>.tup [.pure (az1 r.1),XJ r.2]) XL
def Azb (c:B5)(d:B5):T B3:=
 .cut 2 (λ(e:Bool)=>⟨[(0,XK 6 az3 c),(1,XK 6 az3 d),(4,XM 0),(19,XJ e)],[(0,.box [pz 0,pz 0,pz 0])],[],1⟩) (.cc (eze c) λe=>.br (!e) (.oo true) (.cc (eze d) λf=>.oo (!f))) λe=>.br e (.kj ((0,0,0),false)) (.cc (dzz c) λf=>let g:=encL 3 az1 f;let h:=(f.length:Int);
 .cc (dzz d) λi=>let j:=encL 3 az1 i;let k:=(i.length:Int);
 .unroll 4<|.kh<|.loop (λ(m:Ar)=>⟨[(4,XM 0),(6,XM 1),(7,.pure g),(8,.pure j),(9,pz 0),(10,pz m.2)],[(0,.box [pz 0,pz 0,pz 0]),(1,.box [pz m.1,pz 0,pz 0])],[],2⟩) (.exit 2) (λ(m:Int)=>⟨[(4,XM 0),(6,XM 1),(7,.pure g),(8,.pure j),(9,pz 0)],[(0,.box [pz 0,pz 0,pz 0]),(1,.box [pz m,pz 0,pz 0])],[],2⟩) (λm=>.br (qx (m.2<h)) (.jW<|.gh m.2 f.length<|.jW<|.name 11012 ((qv.wrap (m.1+(qv.wrap (((f.getD (XI m.2) qw).1) * k))))) λn=>.jW<|.nn (n,(qv.wrap (m.2+1)))) (.oo m.1)) (0,0) [] λm=>.loop (λ(n:Ar)=>⟨[(4,XM 0),(6,XM 1),(7,.pure g),(8,.pure j),(9,pz 0),(11,pz n.2)],[(0,.box [pz 0,pz 0,pz 0]),(1,.box [pz n.1,pz 0,pz 0])],[],2⟩) (.exit 4) (λ(n:Int)=>⟨[(4,XM 0),(6,XM 1),(7,.pure g),(8,.pure j),(9,pz 0)],[(0,.box [pz 0,pz 0,pz 0]),(1,.box [pz n,pz 0,pz 0])],[],2⟩) (λn=>.br (qx (n.2<k)) (.jW<|.gh n.2 i.length<|.jW<|.name 15012 ((qv.wrap (n.1- (qv.wrap (((i.getD (XI n.2) qw).1) * h))))) λs=>.jW<|.nn (s,(qv.wrap (n.2+1)))) (.oo n.1)) (m,0) [] λn=>.lit 7001 1<|.kh<|.loop (λ(s:Ar)=>⟨[(4,XM 0),(6,XM 1),(7,.pure g),(8,.pure j),(9,pz 1),(10,pz s.2)],[(0,.box [pz 0,pz 0,pz 0]),(1,.box [pz n,pz s.1,pz 0])],[],2⟩) (.exit 2) (λ(s:Int)=>⟨[(4,XM 0),(6,XM 1),(7,.pure g),(8,.pure j),(9,pz 1)],[(0,.box [pz 0,pz 0,pz 0]),(1,.box [pz n,pz s,pz 0])],[],2⟩) (λs=>.br (qx (s.2<h)) (.jX<|.gh s.2 f.length<|.jX<|.name 11012 ((qv.wrap (s.1+(qv.wrap (((f.getD (XI s.2) qw).2.1) * k))))) λt=>.jX<|.nn (t,(qv.wrap (s.2+1)))) (.oo s.1)) (0,0) [] λs=>.loop (λ(t:Ar)=>⟨[(4,XM 0),(6,XM 1),(7,.pure g),(8,.pure j),(9,pz 1),(11,pz t.2)],[(0,.box [pz 0,pz 0,pz 0]),(1,.box [pz n,pz t.1,pz 0])],[],2⟩) (.exit 4) (λ(t:Int)=>⟨[(4,XM 0),(6,XM 1),(7,.pure g),(8,.pure j),(9,pz 1)],[(0,.box [pz 0,pz 0,pz 0]),(1,.box [pz n,pz t,pz 0])],[],2⟩) (λt=>.br (qx (t.2<k)) (.jX<|.gh t.2 i.length<|.jX<|.name 15012 ((qv.wrap (t.1- (qv.wrap (((i.getD (XI t.2) qw).2.1) * h))))) λw=>.jX<|.nn (w,(qv.wrap (t.2+1)))) (.oo t.1)) (s,0) [] λt=>.lit 7001 2<|.kh<|.loop (λ(w:Ar)=>⟨[(4,XM 0),(6,XM 1),(7,.pure g),(8,.pure j),(9,pz 2),(10,pz w.2)],[(0,.box [pz 0,pz 0,pz 0]),(1,.box [pz n,pz t,pz w.1])],[],2⟩) (.exit 2) (λ(w:Int)=>⟨[(4,XM 0),(6,XM 1),(7,.pure g),(8,.pure j),(9,pz 2)],[(0,.box [pz 0,pz 0,pz 0]),(1,.box [pz n,pz t,pz w])],[],2⟩) (λw=>.br (qx (w.2<h)) (.jY<|.gh w.2 f.length<|.jY<|.name 11012 ((qv.wrap (w.1+(qv.wrap (((f.getD (XI w.2) qw).2.2) * k))))) λy=>.jY<|.nn (y,(qv.wrap (w.2+1)))) (.oo w.1)) (0,0) [] λw=>.loop (λ(y:Ar)=>⟨[(4,XM 0),(6,XM 1),(7,.pure g),(8,.pure j),(9,pz 2),(11,pz y.2)],[(0,.box [pz 0,pz 0,pz 0]),(1,.box [pz n,pz t,pz y.1])],[],2⟩) (.exit 4) (λ(y:Int)=>⟨[(4,XM 0),(6,XM 1),(7,.pure g),(8,.pure j),(9,pz 2)],[(0,.box [pz 0,pz 0,pz 0]),(1,.box [pz n,pz t,pz y])],[],2⟩) (λy=>.br (qx (y.2<k)) (.jY<|.gh y.2 i.length<|.jY<|.name 15012 ((qv.wrap (y.1- (qv.wrap (((i.getD (XI y.2) qw).2.2) * h))))) λz=>.jY<|.nn (z,(qv.wrap (y.2+1)))) (.oo y.1)) (w,0) [] λy=>.lit 7001 3<|.ki<|.cc (hza (n,t,y)) λz=>.kj (z.1,z.2))
def Izr (c)(d):=
 mkD Tryz.func232 (Azb c d) 0 [XK 6 az3 c,XK 6 az3 d] [] (λr=>.tup [.pure (az1 r.1),XJ r.2]) XL
def Uzg:T Ay:=
 .conv 1006 (bzx 3 az1 ([(1,0,0),((-1),0,0),(0,1,0),(0,(-1),0),(0,0,1),(0,0,(-1))]:Ay) 96)<|.kj ([(1,0,0),((-1),0,0),(0,1,0),(0,(-1),0),(0,0,1),(0,0,(-1))]:Ay)
def ref14_Axes_C:CallS Ay:=
 mkD Tryz.func233 (Uzg) 0 [] [] (λr=>XK 3 az1 r) XL
def Dzy (c:Ay):T Bool:=let d:=encL 3 az1 c;let e:=(c.length:Int);.loop (λ(f:Int)=>⟨[(0,.pure d),(3,pz f)],[],[],0⟩) (.exit 0) (λ(_:U0)=>⟨[(0,.pure d)],[],[],0⟩) (λf=>.cut 1 (λ(g:Bool)=>⟨[(0,.pure d),(3,pz f),(11,XJ g)],[],[],0⟩) (.br (qx (f<e)) (.oo (qx (f<=8))) (.oo false)) λg=>.br g (.gh f c.length<|.cc (fzu (c.getD (f.toNat) qw) 268435456) λh=>.br (!h) (.ff false) (.nn (qv.wrap (f+1)))) (.oo .u))
 0 [] λ_=>.br (qx (e>=1)) (.kj (qx (e<=8))) (.kj false)
def Dzx (c):=
 mkD Tryz.func185 (Dzy c) 0 [XK 3 az1 c] [] XJ XL
def qzp (c:Ay)(d:A1):T Ax:=
 .loop (λ(e:Bd)=>⟨[(0,XK 3 az1 c),(1,XK 1 az2 d),(4,XM 0),(5,XM 1),(6,pz e.2.2.2)],[(0,.box [pz 0,pz 0,pz 0]),(1,.box [pz e.1,pz e.2.1,pz e.2.2.1])],[],2⟩) (.exit 0) (λ(e:Ax)=>⟨[(4,XM 0),(5,XM 1)],[(0,.box [pz 0,pz 0,pz 0]),(1,.box [pz e.1,pz e.2.1,pz e.2.2])],[],2⟩) (λe=>let f:=(e.2.2.2).toNat;let g:=d.getD f qw;let h:=c.getD f qw;.br (qx (e.2.2.2<(c.length:Int))) (.unroll 4<|.kh<|.jW<|.gh e.2.2.2 d.length<|.gh e.2.2.2 c.length<|.jW<|.name 8014 ((qv.wrap (e.1+(qv.wrap (g * (h.1)))))) λi=>.jW<|.lit 7001 1<|.kh<|.jX<|.gh e.2.2.2 d.length<|.gh e.2.2.2 c.length<|.jX<|.name 8014 ((qv.wrap (e.2.1+(qv.wrap (g * (h.2.1)))))) λj=>.jX<|.lit 7001 2<|.kh<|.jY<|.gh e.2.2.2 d.length<|.gh e.2.2.2 c.length<|.jY<|.name 8014 ((qv.wrap (e.2.2.1+(qv.wrap (g * (h.2.2)))))) λk=>.jY<|.lit 7001 3<|.ki<|.nn (i,j,k,(qv.wrap (e.2.2.2+1)))) (.oo (e.1,e.2.1,e.2.2.1))) (0,0,0,0) [] λe=>.kj (e.1,e.2.1,e.2.2)
def qzo (c)(d):=
 mkD Tryz.func187 (qzp c d) 0 [XK 3 az1 c,XK 1 az2 d] [] (λr=>.pure (az1 r)) XL
def Rz8 (c:Ax)(d:Ax):T Ax:=
 .jW<|.jW<|.jX<|.jX<|.jY<|.jY<|.kj ((qv.wrap (c.1-d.1)),(qv.wrap (c.2.1-d.2.1)),(qv.wrap (c.2.2-d.2.2)))
def lze (c)(d):=
 mkD Tryz.func186 (Rz8 c d) 0 [.pure (az1 c),.pure (az1 d)] [] (λr=>.pure (az1 r)) XL
def nzx (c:Ax)(d:Int):T Bool:=
 .unroll 4<|.kh<|.jW<|.jW<|.cc (bz9 (max c.1 (qv.wrap (0-c.1))) 65536) λe=>.name 6004 ((qv.wrap (0+(qv.wrap (e * e))))) λf=>.lit 4001 1<|.kh<|.jX<|.jX<|.cc (bz9 (max c.2.1 (qv.wrap (0-c.2.1))) 65536) λg=>.name 6004 ((qv.wrap (f+(qv.wrap (g * g))))) λh=>.lit 4001 2<|.kh<|.jY<|.jY<|.cc (bz9 (max c.2.2 (qv.wrap (0-c.2.2))) 65536) λi=>.name 6004 ((qv.wrap (h+(qv.wrap (i * i))))) λj=>.lit 4001 3<|.ki<|.kj (qx (j<=(qv.wrap (d * d))))
def sz6 (c)(d):=
 mkD Tryz.func188 (nzx c d) 0 [.pure (az1 c),pz d] [] XJ XL
def Wzs (c:Ax)(d:Ax):T Int:=
 .jW<|.jW<|.jX<|.jX<|.jY<|.jY<|.name 1016 ((qv.wrap ((qv.wrap ((qv.wrap (c.1 * d.1))+(qv.wrap (c.2.1 * d.2.1))))+(qv.wrap (c.2.2 * d.2.2))))) λe=>.kj e
def iz2 (c)(d):=
 mkD Tryz.func191 (Wzs c d) 0 [.pure (az1 c),.pure (az1 d)] [] pz XL
def iz1 (c:Ax)(d:Ay)(e:Int):T Int:=let f:=encL 3 az1 d;let g:Nat×Res:=(0,.box [pz c.1,pz c.2.1,pz c.2.2]);.loop (λ(h:Ar)=>⟨[(1,.pure f),(2,pz e),(3,XM 0),(7,pz h.1),(8,pz h.2)],[g],[],1⟩) (.exit 0) (λ(h:Int)=>⟨[(7,pz h)],[],[],0⟩) (λh=>.br (qx (h.2<(d.length:Int))) (.cut 0 (λ(i:Int)=>⟨[(1,.pure f),(2,pz e),(3,XM 0),(7,pz i),(8,pz h.2)],[g],[],1⟩) (.gh h.2 d.length<|.cc (iz2 c (d.getD (XI h.2) qw)) λi=>.gh h.1 d.length<|.cc (iz2 c (d.getD (XI h.1) qw)) λj=>.br (qx ((qv.wrap (e * i))<(qv.wrap (e * j)))) (.oo h.2) (.oo h.1)) λi=>.nn (i,(qv.wrap (h.2+1)))) (.oo h.1)) (0,1) [] λh=>.kj h
def fzc (c)(d)(e):=
 mkD Tryz.func190 (iz1 c d e) 0 [.pure (az1 c),XK 3 az1 d,pz e] [] pz XL
def Ez1 (c:Int):T Int:=
 .br (qx (c<1)) (.kj 0) (.loop (λ(d:Ar)=>⟨[(0,pz c),(3,pz d.1),(4,pz d.2)],[],[],0⟩) (.exit 0) (λ(d:Int)=>⟨[(3,pz d)],[],[],0⟩) (λd=>let e:=qv.wrap (d.2-d.1);let f:=qv.wrap (d.1+(qv.wrap (e.tdiv 2)));.br (qx (e>1)) (.ok ((2:Int)≠0) (by decide)<|.grd (f≠0)<|.br (qx (f<=(qv.wrap (c.tdiv f)))) (.nn (f,d.2)) (.nn (d.1,f))) (.oo d.1)) (1,4294967296) [] λd=>.kj d)
def qzv (c):=
 mkD Tryz.func278 (Ez1 c) 0 [pz c] [] pz XL
def xza (c:Int):T Int:=
 .cc (qzv c) λd=>.cut 0 (λ(e:Int)=>⟨[(3,pz e)],[],[],0⟩) (.cut 0 (λ(e:Bool)=>⟨[(3,pz d),(14,XJ e)],[],[],0⟩) (.br (qx (c>0)) (.oo (qx ((qv.wrap (d * d))<c))) (.oo false)) λe=>.br e (.oo (qv.wrap (d+1))) (.oo d)) λe=>.kj e
def Fzu (c):=
 mkD Tryz.func234 (xza c) 0 [pz c] [] pz XL
def Az7 (c:Ax):T Int:=
 .cc (fz3 (c.1,c.2.1,c.2.2)) λd=>.br (!d) (.kj 0) (.jW<|.jW<|.jX<|.jX<|.jY<|.jY<|.name 3016 ((qv.wrap ((qv.wrap ((qv.wrap (c.1 * c.1))+(qv.wrap (c.2.1 * c.2.1))))+(qv.wrap (c.2.2 * c.2.2))))) λe=>.cc (Fzu e) λf=>.kj f)
def sz3 (c):=
 mkD Tryz.func192 (Az7 c) 0 [.pure (az1 c)] [] pz XL
def lzd (c:A1)(d:Int)(e:Int):T A1:=let f:=e.toNat;.grd (c.length * 8<=140737488355328/\c.length<=maxLen)<|.loop (λ(g:Aw)=>⟨[(1,pz d),(2,pz e),(7,.vec 0),(8,pz g.2.1),(9,pz g.2.2)],[(0,vecO 1 az2 g.1 2)],[],1⟩) (.exit 0) (λ(g:A8)=>⟨[(2,pz e),(7,.vec 0),(8,pz g.2)],[(0,vecO 1 az2 g.1 2)],[],1⟩) (λg=>let h:=(g.2.2).toNat;let i:=g.1.getD h qw;let j:=qv.wrap ((qv.wrap (i * d)).tdiv 256);.br (qx (g.2.2<(g.1.length:Int))) (.gg g.2.2 g.1.length<|.ok ((256:Int)≠0) (by decide)<|.gg g.2.2 g.1.length<|.name 7005 ((qv.wrap (i-j))) λk=>.gh g.2.2 g.1.length<|.conv 7007 (fzr 1 az2 g.1 2 h k)<|.gi (g.2.2) g.1.length<|.name 8002 ((qv.wrap (g.2.1+j))) λm=>.nn ((g.1.set h k),m,(qv.wrap (g.2.2+1)))) (.oo (g.1,g.2.1))) (c,0,0) [] λg=>let h:=qv.wrap ((g.1.getD f qw)+g.2);
 .gg e g.1.length<|.gh e g.1.length<|.conv 9007 (fzr 1 az2 g.1 2 f h)<|.gi (e) g.1.length<|.kj (g.1.set f h)
def lzc (c)(d)(e):=
 mkD Tryz.func193 (lzd c d e) 0 [XK 1 az2 c,pz d,pz e] [] (λ_=>.vec 0) (λr=>[(0,vecO 1 az2 r 2)])
def jz9 (c:Ay)(d:Ay)(e:Int)(f:Int):T dzk:=let g:=encL 3 az1 c;let h:=encL 3 az1 d;let i:=(c.length:Int);let j:=(d.length:Int);let k:=qu i.toNat (0:Int);let m:=qu j.toNat (0:Int);.cut 2 (λ(n:Bool)=>⟨[(0,.pure g),(1,.pure h),(2,pz e),(3,pz f),(8,XM 0),(43,XJ n)],[(0,.box [pz 0,pz 0,pz 0,pz 0,.vec 1,.vec 2,pz 0]),(1,.nilv),(2,.nilv)],[],3⟩) (.cc (Dzx c) λn=>.br (!n) (.oo true) (.cc (Dzx d) λs=>.br (!s) (.oo true) (.br (qx (e<0)) (.oo true) (.br (qx (e>2097152)) (.oo true) (.br (qx (f<0)) (.oo true) (.oo (qx (f>64)))))))) λn=>.br n (.kj (⟨0,(0,0,0),nl,nl,0⟩:dzk)) (.conv 3002 (Kzr 1 az2 2 i.toNat 0)<|.grd (0<=i/\i<=i/\i<=9223372036854775807/\i * 8<=140737488355328)<|.conv 3005 (Kzr 1 az2 2 j.toNat 0)<|.grd (0<=j/\j<=j/\j<=9223372036854775807/\j * 8<=140737488355328)<|.gh (0:Int) (k.length)<|.conv 4005 (fzr 1 az2 k 2 (XI (0:Int)) 65536)<|.gi (0:Int) (k.length)<|.gh (0:Int) (m.length)<|.conv 4007 (fzr 1 az2 m 2 (XI (0:Int)) 65536)<|.gi (0:Int) (m.length)<|.loop (λ(s:(Int×Int×Int×A1×A1×Int))=>⟨[(0,.pure g),(1,.pure h),(2,pz e),(3,pz f),(8,XM 0),(9,XM 3)],[(0,.box [pz 0,pz 0,pz 0,pz 0,.vec 1,.vec 2,pz 0]),(1,.nilv),(2,.nilv),(3,.box [pz 0,pz s.1,pz s.2.1,pz s.2.2.1,.vec 4,.vec 5,pz s.2.2.2.2.2]),(4,vecO 1 az2 s.2.2.2.1 2),(5,vecO 1 az2 s.2.2.2.2.1 2)],[],6⟩)
 .ret XN (λs=>.cc (qzo c s.2.2.2.1) λt=>.cc (qzo d s.2.2.2.2.1) λw=>.cc (lze t w) λy=>let z:=qv.wrap (y.1.tdiv 65536);let aa:=qv.wrap (y.2.1.tdiv 65536);let ab:=qv.wrap (y.2.2.tdiv 65536);
 .cc (sz6 y e) λac=>.br ac (.ff (⟨2,(s.1,s.2.1,s.2.2.1),s.2.2.2.1,s.2.2.2.2.1,s.2.2.2.2.2⟩:dzk)) (.jW<|.ok ((65536:Int)≠0) (by decide)<|.jX<|.ok ((65536:Int)≠0) (by decide)<|.jY<|.ok ((65536:Int)≠0) (by decide)<|.cc (hza (z,aa,ab)) λad=>let ae:=(⟨0,ad.1,s.2.2.2.1,s.2.2.2.2.1,s.2.2.2.2.2⟩:dzk);
 .br (!ad.2) (.ff ae) (.cc (fzc ad.1 c 1) λaf=>let ag:=c.getD (af.toNat) qw;
 .cc (fzc ad.1 d (-1)) λah=>let ai:=d.getD (ah.toNat) qw;
 .gh af c.length<|.cc (iz2 ad.1 ag) λaj=>.gh ah d.length<|.cc (iz2 ad.1 ai) λak=>.cc (sz3 ad.1) λal=>.br (qx ((qv.wrap (aj-ak))>(qv.wrap (al * e)))) (.ff (⟨1,ad.1,s.2.2.2.1,s.2.2.2.2.1,s.2.2.2.2.2⟩:dzk)) (.gh af c.length<|.gh ah d.length<|.cc (lze ag ai) λam=>.cc (lze (z,aa,ab) am) λan=>.cc (iz2 (z,aa,ab) an) λao=>.cc (iz2 an an) λap=>let aq:=max 1 (qv.wrap (ap.tdiv 256));let ar:=min 256 (qv.wrap (ao.tdiv aq));
 .cut 1 (λ(au:Bool)=>⟨[(0,.pure g),(1,.pure h),(2,pz e),(3,pz f),(8,XM 0),(9,XM 3),(14,pz af),(15,pz ah),(17,pz ao),(18,pz ap),(142,XJ au)],[(0,.box [pz 0,pz 0,pz 0,pz 0,.vec 1,.vec 2,pz 0]),(1,.nilv),(2,.nilv),(3,.box [pz 0,pz ad.1.1,pz ad.1.2.1,pz ad.1.2.2,.vec 4,.vec 5,pz s.2.2.2.2.2]),(4,vecS 1 az2 s.2.2.2.1 2),(5,vecS 1 az2 s.2.2.2.2.1 2)],[],6⟩) (.br (qx (s.2.2.2.2.2>=f)) (.oo true) (.oo (qx (ao<=0)))) λau=>.br au (.ff ae) (.ok ((256:Int)≠0) (by decide)<|.grd (aq≠0)<|.br (ar==0) (.ff ae) (.call (lzc s.2.2.2.1 ar af) [] λav=>.call (lzc s.2.2.2.2.1 ar ah) [] λaw=>.nn (ad.1.1,ad.1.2.1,ad.1.2.2,av,aw,(qv.wrap (s.2.2.2.2.2+1))))))))) (0,0,0,(k.set (XI (0:Int)) 65536),(m.set (XI (0:Int)) 65536),0) [] λ_=>.stop)
def fz4 (c)(d)(e)(f):=
 mkD Tryz.func145 (jz9 c d e f) 0 [XK 3 az1 c,XK 3 az1 d,pz e,pz f] [] (λr=>.pure (Kzx r)) XL
def lza (c:B5)(d:Int)(e:B5)(f:Int)(g:Ay):T Ay:=let h:=encL 6 az3 c;let i:=encL 6 az3 e;let j:=encL 3 az1 g;.cut 2 (λ(k:Bool)=>⟨[(0,.pure h),(1,pz d),(2,.pure i),(3,pz f),(4,.pure j),(33,XJ k)],[],[],0⟩) (.cc (eze c) λk=>.br (!k) (.oo true) (.cc (eze e) λm=>.br (!m) (.oo true) (.cc (fz5 d) λn=>.br (!n) (.oo true) (.cc (fz5 f) λs=>.oo (!s))))) λk=>.br k (.kj nl) (.loop (λ(m:B0)=>⟨[(0,.pure h),(1,pz d),(2,.pure i),(3,pz f),(4,.pure j),(11,.vec 0),(12,pz m.2)],[(0,vecO 3 az1 m.1 96)],[],1⟩) (.exit 0) (λ(m:Ay)=>⟨[(0,.pure h),(1,pz d),(2,.pure i),(3,pz f),(11,.vec 0)],[(0,vecO 3 az1 m 96)],[],1⟩) (λm=>let n:=g.getD (XI m.2) qw;let s:=([n]:Ay);let t:=m.1.length+s.length;.br (qx (m.2<(g.length:Int))) (.cut 0 (λ(w:Ay)=>⟨[(0,.pure h),(1,pz d),(2,.pure i),(3,pz f),(4,.pure j),(11,.vec 0),(12,pz m.2)],[(0,vecO 3 az1 w 96)],[],1⟩) (.gh m.2 g.length<|.cc (fz3 n) λw=>.br w (.gh m.2 g.length<|.conv 8005 (bzx 3 az1 s 96)<|.conv 8006 (czx 3 az1 m.1 s 96)<|.grd (t * 24<=140737488355328/\t<=maxLen)<|.oo (m.1++s)) (.oo m.1)) λw=>.nn (w,(qv.wrap (m.2+1)))) (.oo m.1)) (nl,0) [] λm=>.cut 0 (λ(n:Ay)=>⟨[(0,.pure h),(1,pz d),(2,.pure i),(3,pz f),(11,.vec 0)],[(0,vecO 3 az1 n 96)],[],1⟩) (.cc (Izr c e) λn=>let s:=([n.1]:Ay);let t:=m.length+s.length;
 .br n.2 (.conv 11002 (bzx 3 az1 s 96)<|.conv 11003 (czx 3 az1 m s 96)<|.grd (t * 24<=140737488355328/\t<=maxLen)<|.oo (m++s)) (.oo m)) λn=>.cc (ref14_Axes_C) λs=>let t:=n++s;let w:=n.length+s.length;
 .conv 12002 (czx 3 az1 n s 96)<|.grd (w * 24<=140737488355328/\w<=maxLen)<|.cc (dzz c) λy=>.cc (dzz e) λz=>.cc (fz4 y z (qv.wrap (d+f)) 64) λaa=>let ab:=([aa.Xx]:Ay);let ac:=t.length+ab.length;
 .cut 0 (λ(ad:Ay)=>⟨[(11,.vec 0)],[(0,vecO 3 az1 ad 96)],[],1⟩) (.cc (fz3 aa.Xx) λad=>.br ad (.conv 15003 (bzx 3 az1 ab 96)<|.conv 15004 (czx 3 az1 t ab 96)<|.grd (ac * 24<=140737488355328/\ac<=maxLen)<|.oo (t++ab)) (.oo t)) λad=>.kj ad)
def sz4 (c)(d)(e)(f)(g):=
 mkD Tryz.func183 (lza c d e f g) 0 [XK 6 az3 c,pz d,XK 6 az3 e,pz f,XK 3 az1 g] [] (λr=>XK 3 az1 r) XL
def Dzw (c:Ax)(d:B4):T Ar:=let e:=qv.wrap (c.1 * d.1.Lo);let f:=qv.wrap (c.1 * d.1.Hi);let g:=qv.wrap (c.2.1 * d.2.1.Lo);let h:=qv.wrap (c.2.1 * d.2.1.Hi);let i:=qv.wrap (c.2.2 * d.2.2.Lo);let j:=qv.wrap (c.2.2 * d.2.2.Hi);.cut 2 (λ(k:Bool)=>⟨[(2,XM 0),(3,XM 1),(18,XJ k)],[(0,.box [pz c.1,pz c.2.1,pz c.2.2]),(1,.box [pz d.1.Lo,pz d.1.Hi,pz d.2.1.Lo,pz d.2.1.Hi,pz d.2.2.Lo,pz d.2.2.Hi])],[],2⟩) (.cc (fz3 c) λk=>.br (!k) (.oo true) (.cc (qzm d) λm=>.oo (!m))) λk=>.br k (.kj (0,0)) (.unroll 4<|.kh<|.jW<|.jW<|.jW<|.jW<|.name 8004 ((qv.wrap (0+(min e f)))) λm=>.name 9004 ((qv.wrap (0+(max e f)))) λn=>.lit 6001 1<|.kh<|.jX<|.jX<|.jX<|.jX<|.name 8004 ((qv.wrap (m+(min g h)))) λs=>.name 9004 ((qv.wrap (n+(max g h)))) λt=>.lit 6001 2<|.kh<|.jY<|.jY<|.jY<|.jY<|.name 8004 ((qv.wrap (s+(min i j)))) λw=>.name 9004 ((qv.wrap (t+(max i j)))) λy=>.lit 6001 3<|.ki<|.kj (w,y))
def Dzv (c)(d):=
 mkD Tryz.func277 (Dzw c d) 0 [.pure (az1 c),.pure (az3 d)] [] (λr=>.tup [pz r.1,pz r.2]) XL
def wzq (c:Ax)(d:B5):T B8:=let e:=encL 6 az3 d;let f:Nat×Res:=(0,.box [pz c.1,pz c.2.1,pz c.2.2]);.cut 2 (λ(g:Bool)=>⟨[(1,.pure e),(2,XM 0),(19,XJ g)],[f],[],1⟩) (.cc (fz3 c) λg=>.br (!g) (.oo true) (.cc (eze d) λh=>.oo (!h))) λg=>.br g (.kj (0,0,false)) (.loop (λ(h:Ax)=>⟨[(1,.pure e),(2,XM 0),(7,pz h.1),(8,pz h.2.1),(9,pz h.2.2)],[f],[],1⟩) (.exit 0) (λ(h:Ar)=>⟨[(7,pz h.1),(8,pz h.2)],[],[],0⟩) (λh=>.br (qx (h.2.2<(d.length:Int))) (.cut 0 (λ(i:Ar)=>⟨[(1,.pure e),(2,XM 0),(7,pz i.1),(8,pz i.2),(9,pz h.2.2)],[f],[],1⟩) (.gh h.2.2 d.length<|.cc (Dzv c (d.getD (XI h.2.2) qw)) λi=>.cut 0 (λ(j:Bool)=>⟨[(1,.pure e),(2,XM 0),(7,pz h.1),(8,pz h.2.1),(9,pz h.2.2),(10,pz i.1),(41,XJ j)],[f],[],1⟩) (.br (h.2.2==0) (.oo true) (.oo (qx (i.1<h.1)))) λj=>.br j (.oo (i.1,h.2.2)) (.oo (h.1,h.2.1))) λi=>.nn (i.1,i.2,(qv.wrap (h.2.2+1)))) (.oo (h.1,h.2.1))) (0,0,0) [] λh=>.kj (h.1,h.2,true))
def Fzi (c)(d):=
 mkD Tryz.func228 (wzq c d) 0 [.pure (az1 c),XK 6 az3 d] [] (λr=>.tup [pz r.1,pz r.2.1,XJ r.2.2]) XL
def ozo (c:Ax)(d:B5):T B8:=let e:=encL 6 az3 d;let f:Nat×Res:=(0,.box [pz c.1,pz c.2.1,pz c.2.2]);.cut 2 (λ(g:Bool)=>⟨[(1,.pure e),(2,XM 0),(19,XJ g)],[f],[],1⟩) (.cc (fz3 c) λg=>.br (!g) (.oo true) (.cc (eze d) λh=>.oo (!h))) λg=>.br g (.kj (0,0,false)) (.loop (λ(h:Ax)=>⟨[(1,.pure e),(2,XM 0),(7,pz h.1),(8,pz h.2.1),(9,pz h.2.2)],[f],[],1⟩) (.exit 0) (λ(h:Ar)=>⟨[(7,pz h.1),(8,pz h.2)],[],[],0⟩) (λh=>.br (qx (h.2.2<(d.length:Int))) (.cut 0 (λ(i:Ar)=>⟨[(1,.pure e),(2,XM 0),(7,pz i.1),(8,pz i.2),(9,pz h.2.2)],[f],[],1⟩) (.gh h.2.2 d.length<|.cc (Dzv c (d.getD (XI h.2.2) qw)) λi=>.cut 0 (λ(j:Bool)=>⟨[(1,.pure e),(2,XM 0),(7,pz h.1),(8,pz h.2.1),(9,pz h.2.2),(11,pz i.2),(41,XJ j)],[f],[],1⟩) (.br (h.2.2==0) (.oo true) (.oo (qx (i.2>h.1)))) λj=>.br j (.oo (i.2,h.2.2)) (.oo (h.1,h.2.1))) λi=>.nn (i.1,i.2,(qv.wrap (h.2.2+1)))) (.oo (h.1,h.2.1))) (0,0,0) [] λh=>.kj (h.1,h.2,true))
def yze (c)(d):=
 mkD Tryz.func229 (ozo c d) 0 [.pure (az1 c),XK 6 az3 d] [] (λr=>.tup [pz r.1,pz r.2.1,XJ r.2.2]) XL
def tzr (c:Ax)(d:B5)(e:Int)(f:B5)(g:Int):T Au:=
 .cc (Fzi c d) λh=>.cc (yze c f) λi=>.cut 1 (λ(j:Bool)=>⟨[(2,pz e),(4,pz g),(5,XM 0),(12,pz h.1),(15,pz i.1),(47,XJ j)],[(0,.box [pz c.1,pz c.2.1,pz c.2.2])],[],1⟩) (.br (!h.2.2) (.oo true) (.br (!i.2.2) (.oo true) (.cc (fz5 e) λj=>.br (!j) (.oo true) (.cc (fz5 g) λk=>.oo (!k))))) λj=>.br j (.kj (0,false)) (.cc (sz3 c) λk=>.kj ((qv.wrap ((qv.wrap (h.1-i.1))- (qv.wrap (k * (qv.wrap (e+g)))))),true))
def Dz0 (c)(d)(e)(f)(g):=
 mkD Tryz.func182 (tzr c d e f g) 0 [.pure (az1 c),XK 6 az3 d,pz e,XK 6 az3 f,pz g] [] (λr=>.tup [pz r.1,XJ r.2]) XL
def mzl (c:Ax)(d:B5)(e:Int)(f:B5)(g:Int):T Bool:=
 .cc (Dz0 c d e f g) λh=>.br h.2 (.kj (qx (h.1>0))) (.kj false)
def mzk (c)(d)(e)(f)(g):=
 mkD Tryz.func143 (mzl c d e f g) 0 [.pure (az1 c),XK 6 az3 d,pz e,XK 6 az3 f,pz g] [] XJ XL
def wzw (c:Ay)(d:B5)(e:Int)(f:B5)(g:Int):T Au:=
 .loop (λ(h:Int)=>⟨[(0,XK 3 az1 c),(1,XK 6 az3 d),(2,pz e),(3,XK 6 az3 f),(4,pz g),(12,pz h)],[],[],0⟩) (.exit 0) XN (λh=>.br (qx (h<(c.length:Int))) (.gh h c.length<|.cc (mzk (c.getD (h.toNat) qw) d e f g) λi=>.br i (.ff (h,true)) (.nn (qv.wrap (h+1)))) (.oo .u))
 0 [] λ_=>.kj (0,false)
def Fzm (c)(d)(e)(f)(g):=
 mkD Tryz.func184 (wzw c d e f g) 0 [XK 3 az1 c,XK 6 az3 d,pz e,XK 6 az3 f,pz g] [] (λr=>.tup [pz r.1,XJ r.2]) XL
def lzb (c:B5)(d:Int)(e:B5)(f:Int)(g:Ay):T B3:=
 .cc (sz4 c d e f g) λh=>.cc (Fzm h c d e f) λi=>.br (!i.2) (.kj ((0,0,0),false)) (.gh i.1 h.length<|.kj ((h.getD (XI i.1) qw),true))
def sz5 (c)(d)(e)(f)(g):=
 mkD Tryz.func144 (lzb c d e f g) 0 [XK 6 az3 c,pz d,XK 6 az3 e,pz f,XK 3 az1 g] [] (λr=>.tup [.pure (az1 r.1),XJ r.2]) XL
def qzl (c:B5)(d:A1):T (B4×Int×Bool):=let e:=encL 6 az3 c;let f:=encL 1 az2 d;let g:=(d.length:Int);let h:=(c.length:Int);.cut 2 (λ(i:Bool)=>⟨[(0,.pure e),(1,.pure f),(4,XM 0),(21,XJ i)],[(0,.box [pz 0,pz 0,pz 0,pz 0,pz 0,pz 0])],[],1⟩) (.cc (eze c) λi=>.br (!i) (.oo true) (.oo (g !=h))) λi=>.br i (.kj (((⟨0,0⟩:az0),(⟨0,0⟩:az0),(⟨0,0⟩:az0)),0,false)) (.loop (λ(j:Ar)=>⟨[(0,.pure e),(1,.pure f),(4,XM 0),(7,pz j.1),(8,pz j.2)],[(0,.box [pz 0,pz 0,pz 0,pz 0,pz 0,pz 0])],[],1⟩) (.exit 0) (λ(j:Int)=>⟨[(0,.pure e),(1,.pure f),(4,XM 0),(7,pz j)],[(0,.box [pz 0,pz 0,pz 0,pz 0,pz 0,pz 0])],[],1⟩) (λj=>let k:=d.getD (XI j.2) qw;.br (qx (j.2<g)) (.cut 2 (λ(m:Bool)=>⟨[(0,.pure e),(1,.pure f),(4,XM 0),(7,pz j.1),(8,pz j.2),(42,XJ m)],[(0,.box [pz 0,pz 0,pz 0,pz 0,pz 0,pz 0])],[],1⟩) (.gh j.2 d.length<|.br (qx (k<0)) (.oo true) (.gh j.2 d.length<|.oo (qx (k>(qv.wrap (65536-j.1)))))) λm=>.br m (.ff (((⟨0,0⟩:az0),(⟨0,0⟩:az0),(⟨0,0⟩:az0)),0,false)) (.gh j.2 d.length<|.nn ((qv.wrap (j.1+k)),(qv.wrap (j.2+1))))) (.oo j.1)) (0,0) [] λj=>.br (qx (j<1)) (.kj (((⟨0,0⟩:az0),(⟨0,0⟩:az0),(⟨0,0⟩:az0)),0,false)) (.loop (λ(k:Bh)=>⟨[(0,.pure e),(1,.pure f),(4,XM 0),(7,pz j),(9,XM 1),(10,pz k.2.2.2.2.2.2)],[(0,.box [pz 0,pz 0,pz 0,pz 0,pz 0,pz 0]),(1,.box [pz k.1,pz k.2.1,pz k.2.2.1,pz k.2.2.2.1,pz k.2.2.2.2.1,pz k.2.2.2.2.2.1])],[],2⟩) (.exit 2) (λ(k:Bf)=>⟨[(4,XM 0),(7,pz j),(9,XM 1)],[(0,.box [pz 0,pz 0,pz 0,pz 0,pz 0,pz 0]),(1,.box [pz k.1,pz k.2.1,pz k.2.2.1,pz k.2.2.2.1,pz k.2.2.2.2.1,pz k.2.2.2.2.2])],[],2⟩) (λk=>let m:=(k.2.2.2.2.2.2).toNat;let n:=d.getD m qw;let s:=c.getD m qw;.br (qx (k.2.2.2.2.2.2<h)) (.unroll 4<|.kh<|.jW<|.gh k.2.2.2.2.2.2 d.length<|.gh k.2.2.2.2.2.2 c.length<|.jW<|.name 19015 ((qv.wrap (n * (s.1.Lo)))) λt=>.name 19016 ((qv.wrap (k.1+t))) λw=>.jW<|.jW<|.gh k.2.2.2.2.2.2 d.length<|.gh k.2.2.2.2.2.2 c.length<|.jW<|.name 20015 ((qv.wrap (n * (s.1.Hi)))) λy=>.name 20016 ((qv.wrap (k.2.1+y))) λz=>.jW<|.lit 18001 1<|.kh<|.jX<|.gh k.2.2.2.2.2.2 d.length<|.gh k.2.2.2.2.2.2 c.length<|.jX<|.name 19015 ((qv.wrap (n * (s.2.1.Lo)))) λaa=>.name 19016 ((qv.wrap (k.2.2.1+aa))) λab=>.jX<|.jX<|.gh k.2.2.2.2.2.2 d.length<|.gh k.2.2.2.2.2.2 c.length<|.jX<|.name 20015 ((qv.wrap (n * (s.2.1.Hi)))) λac=>.name 20016 ((qv.wrap (k.2.2.2.1+ac))) λad=>.jX<|.lit 18001 2<|.kh<|.jY<|.gh k.2.2.2.2.2.2 d.length<|.gh k.2.2.2.2.2.2 c.length<|.jY<|.name 19015 ((qv.wrap (n * (s.2.2.Lo)))) λae=>.name 19016 ((qv.wrap (k.2.2.2.2.1+ae))) λaf=>.jY<|.jY<|.gh k.2.2.2.2.2.2 d.length<|.gh k.2.2.2.2.2.2 c.length<|.jY<|.name 20015 ((qv.wrap (n * (s.2.2.Hi)))) λag=>.name 20016 ((qv.wrap (k.2.2.2.2.2.1+ag))) λah=>.jY<|.lit 18001 3<|.ki<|.nn (w,z,ab,ad,af,ah,(qv.wrap (k.2.2.2.2.2.2+1)))) (.oo (k.1,k.2.1,k.2.2.1,k.2.2.2.1,k.2.2.2.2.1,k.2.2.2.2.2.1))) (0,0,0,0,0,0,0) [] λk=>.kj (((⟨k.1,k.2.1⟩:az0),(⟨k.2.2.1,k.2.2.2.1⟩:az0),(⟨k.2.2.2.2.1,k.2.2.2.2.2⟩:az0)),j,true)))
def qzk (c)(d):=
 mkD Tryz.func237 (qzl c d) 0 [XK 6 az3 c,XK 1 az2 d] [] (λr=>.tup [.pure (az3 r.1),pz r.2.1,XJ r.2.2]) XL
def Uzj (c:Int):T Int:=
 .kj (max c (qv.wrap (0-c)))
def iz3 (c):=
 mkD Tryz.func238 (Uzj c) 0 [pz c] [] pz XL
def jz8 (c:A1)(d:A1)(e:B5)(f:Int)(g:B5)(h:Int):T Au:=let i:=qv.wrap (f+h);.cc (qzk e c) λj=>.cc (qzk g d) λk=>.cut 1 (λ(m:Bool)=>⟨[(3,pz f),(5,pz h),(14,XM 0),(15,pz j.2.1),(17,XM 1),(57,XJ m)],[(0,.box [pz j.1.1.Lo,pz j.1.1.Hi,pz j.1.2.1.Lo,pz j.1.2.1.Hi,pz j.1.2.2.Lo,pz j.1.2.2.Hi]),(1,.box [pz k.1.1.Lo,pz k.1.1.Hi,pz k.1.2.1.Lo,pz k.1.2.1.Hi,pz k.1.2.2.Lo,pz k.1.2.2.Hi])],[],2⟩) (.br (!j.2.2) (.oo true) (.br (!k.2.2) (.oo true) (.br (j.2.1 !=k.2.1) (.oo true) (.cc (fz5 f) λm=>.br (!m) (.oo true) (.cc (fz5 h) λn=>.oo (!n)))))) λm=>.br m (.kj (0,false)) (.unroll 4<|.kh<|.jW<|.jW<|.cc (iz3 (qv.wrap (j.1.1.Lo-k.1.1.Hi))) λn=>.jW<|.jW<|.cc (iz3 (qv.wrap (j.1.1.Hi-k.1.1.Lo))) λs=>.cc (bz9 (max n s) j.2.1) λt=>.br (qx (t>i)) (.kj ((-1),true)) (.name 12004 ((qv.wrap ((qv.wrap (i * i))- (qv.wrap (t * t))))) λw=>.lit 8001 1<|.kh<|.jX<|.jX<|.cc (iz3 (qv.wrap (j.1.2.1.Lo-k.1.2.1.Hi))) λy=>.jX<|.jX<|.cc (iz3 (qv.wrap (j.1.2.1.Hi-k.1.2.1.Lo))) λz=>.cc (bz9 (max y z) j.2.1) λaa=>.br (qx (aa>i)) (.kj ((-1),true)) (.name 12004 ((qv.wrap (w- (qv.wrap (aa * aa))))) λab=>.lit 8001 2<|.kh<|.jY<|.jY<|.cc (iz3 (qv.wrap (j.1.2.2.Lo-k.1.2.2.Hi))) λac=>.jY<|.jY<|.cc (iz3 (qv.wrap (j.1.2.2.Hi-k.1.2.2.Lo))) λad=>.cc (bz9 (max ac ad) j.2.1) λae=>.br (qx (ae>i)) (.kj ((-1),true)) (.name 12004 ((qv.wrap (ab- (qv.wrap (ae * ae))))) λaf=>.lit 8001 3<|.ki<|.kj (af,true)))))
def nzd (c)(d)(e)(f)(g)(h):=
 mkD Tryz.func196 (jz8 c d e f g h) 0 [XK 1 az2 c,XK 1 az2 d,XK 6 az3 e,pz f,XK 6 az3 g,pz h] [] (λr=>.tup [pz r.1,XJ r.2]) XL
def gzy (c:A1)(d:A1)(e:B5)(f:Int)(g:B5)(h:Int):T Bool:=
 .cc (nzd c d e f g h) λi=>.br i.2 (.kj (qx (i.1>=0))) (.kj false)
def fzi (c)(d)(e)(f)(g)(h):=
 mkD Tryz.func147 (gzy c d e f g h) 0 [XK 1 az2 c,XK 1 az2 d,XK 6 az3 e,pz f,XK 6 az3 g,pz h] [] XJ XL
def ozq (c:azd)(d:Af)(e:Ay):T dzl:=let f:=encL 3 az1 e;let g:=(e.length:Int);.cc (wzz c d) λh=>let i:=encL 2 bzl h.1;let j:=encL 2 bzl h.2.1;
 .br (!h.2.2) (.kj (⟨0,nl,(⟨0,nl,nl⟩:bzj)⟩:dzl)) (.loop (λ(k:(Int×Ay×Int))=>⟨[(2,.pure f),(6,XM 0),(7,.pure i),(8,.pure j),(10,XM 4),(11,pz k.2.2)],[(0,.box [pz 0,.vec 1,pz 0,.vec 2,.vec 3]),(1,.nilv),(2,.nilv),(3,.nilv),(4,.box [pz k.1,.vec 5,pz 0,.vec 6,.vec 7]),(5,vecO 3 az1 k.2.1 96),(6,.nilv),(7,.nilv)],[],8⟩) (.exit 0) (λ(k:(Int×Ay))=>⟨[(6,XM 0),(10,XM 4)],[(0,.box [pz 0,.vec 1,pz 0,.vec 2,.vec 3]),(1,.nilv),(2,.nilv),(3,.nilv),(4,.box [pz k.1,.vec 5,pz 0,.vec 6,.vec 7]),(5,vecO 3 az1 k.2 96),(6,.nilv),(7,.nilv)],[],8⟩) (λk=>let m:=(k.2.2).toNat;let n:=qv.wrap (k.2.2+1);let s:=h.1.getD m qw;let t:=s.points;let w:=s.radius;let y:=h.2.1.getD m qw;let z:=y.points;let aa:=y.radius;.br (qx (k.2.2<(h.1.length:Int))) (.cut 0 (λ(ab:(Int×Ay))=>⟨[(2,.pure f),(6,XM 0),(7,.pure i),(8,.pure j),(10,XM 4),(11,pz k.2.2)],[(0,.box [pz 0,.vec 1,pz 0,.vec 2,.vec 3]),(1,.nilv),(2,.nilv),(3,.nilv),(4,.box [pz ab.1,.vec 5,pz 0,.vec 6,.vec 7]),(5,vecO 3 az1 ab.2 96),(6,.nilv),(7,.nilv)],[],8⟩) (.cut 1 (λ(ab:Ay)=>⟨[(2,.pure f),(6,XM 0),(7,.pure i),(8,.pure j),(10,XM 4),(11,pz k.2.2),(12,XK 3 az1 ab)],[(0,.box [pz 0,.vec 1,pz 0,.vec 2,.vec 3]),(1,.nilv),(2,.nilv),(3,.nilv),(4,.box [pz k.1,.vec 5,pz 0,.vec 6,.vec 7]),(5,vecO 3 az1 k.2.1 96),(6,.nilv),(7,.nilv)],[],8⟩) (.br (qx (k.2.2<g)) (.conv 10004 (Gzx 3 az1 e k.2.2 n)<|.grd (0<=k.2.2/\k.2.2<=n/\n<=g)<|.oo ((e.drop m).take (n.toNat- (k.2.2).toNat))) (.oo nl)) λab=>.gh k.2.2 h.1.length<|.gh k.2.2 h.1.length<|.gh k.2.2 h.2.1.length<|.gh k.2.2 h.2.1.length<|.cc (sz5 t w z aa ab) λac=>let ad:=([ac.1]:Ay);let ae:=k.2.1++ad;let af:=k.2.1.length+ad.length;
 .conv 12003 (bzx 3 az1 ad 96)<|.conv 12004 (czx 3 az1 k.2.1 ad 96)<|.grd (af * 24<=140737488355328/\af<=maxLen)<|.br ac.2 (.oo (k.1,ae)) (.gh k.2.2 h.1.length<|.cc (dzz t) λag=>.gh k.2.2 h.2.1.length<|.cc (dzz z) λah=>.gh k.2.2 h.1.length<|.gh k.2.2 h.2.1.length<|.call (fz4 ag ah (qv.wrap (w+aa)) 64) [] λai=>.gh k.2.2 h.1.length<|.gh k.2.2 h.1.length<|.gh k.2.2 h.2.1.length<|.gh k.2.2 h.2.1.length<|.cc (fzi ai.Left ai.Xv t w z aa) λaj=>.br aj (.ff (.fin (⟨2,nl,(⟨k.2.2,ai.Left,ai.Xv⟩:bzj)⟩:dzl))) (.oo (0,ae)))) λab=>.nn (ab.1,ab.2,n)) (.oo (k.1,k.2.1))) (1,nl,0) [] λk=>.kj (⟨k.1,k.2,(⟨0,nl,nl⟩:bzj)⟩:dzl))
def yzg (c)(d)(e):=
 mkD Tryz.func106 (ozq c d e) 0 [.pure (bzh c),XK 2 azb d,XK 3 az1 e] [] (λr=>.pure (wz2 r)) XL
def lzf (a0:azd)(a1:A1)(a2:A1)(a3:Int):T azr:=
 .cut 2 (λ(y141:Bool)=>⟨[(1,XK 1 az2 a1),(2,XK 1 az2 a2),(3,pz a3),(4,XM 0),(8,XM 1),(28,XJ y141)],[(0,.box [XK 12 azc a0.Xf.Xb,XK 5 azf a0.Xf.Xh,XK 3 azk a0.Xd,XK 2 azu a0.Xj]),(1,.box [pz 0,.vec 2,pz 0,pz 0,.vec 3,pz 0,.vec 4,.vec 5]),(2,.nilv),(3,.nilv),(4,.nilv),(5,.nilv)],[],6⟩) (.call (pzk (⟨a0.Xf,a0.Xd,a0.Xj⟩:azd) a1 a2) [] λy142=>.br (!y142) (.kj (.out true)) (.br (qx (a3<0)) (.kj (.out true)) (.kj (.out (qx (a3>20)))))) λy141=>.br y141 (.kj (⟨0,nl,(⟨0,0,nl⟩:az8),(⟨0,nl,nl⟩:bzj)⟩:azr)) (.conv 4001 (Yz2 3 hzu ([(⟨0,0,nl⟩:bz0)]:Ak) 186 [.agg [.int .i64 0,.int .i64 0,.lst 0 0 λ_=>.unk]] (by kernel_rfl))<|.loop (λ(x227:(A0×Ak))=>⟨[(1,XK 1 az2 a1),(2,XK 1 az2 a2),(3,pz a3),(4,XM 0),(8,XM 1),(9,.vec 6),(10,.vec 7)],[(0,.box [XK 12 azc a0.Xf.Xb,XK 5 azf a0.Xf.Xh,XK 3 azk a0.Xd,XK 2 azu a0.Xj]),(1,.box [pz 0,.vec 2,pz 0,pz 0,.vec 3,pz 0,.vec 4,.vec 5]),(2,.nilv),(3,.nilv),(4,.nilv),(5,.nilv),(6,vecO 3 azl x227.1 80),(7,vecO 3 hzu x227.2 186)],[],8⟩) (.exit 0) (λ(y248:A0)=>⟨[(8,XM 0),(9,.vec 5)],[(0,.box [pz 0,.vec 1,pz 0,pz 0,.vec 2,pz 0,.vec 3,.vec 4]),(1,.nilv),(2,.nilv),(3,.nilv),(4,.nilv),(5,vecO 3 azl y248 80)],[],6⟩) (λx227=>.br (qx ((x227.2.length:Int)>0)) (.grd (0<=(qv.wrap ((x227.2.length:Int)-1))/\(qv.wrap ((x227.2.length:Int)-1))<(x227.2.length:Int))<|.grd (((qv.wrap ((x227.2.length:Int)-1))).toNat<x227.2.length)<|.conv 7004 (Szo 3 hzu x227.2 186 (qv.wrap ((x227.2.length:Int)-1)))<|.grd (0<=(qv.wrap ((x227.2.length:Int)-1))/\(qv.wrap ((x227.2.length:Int)-1))<=(x227.2.length:Int)/\0<=((qv.wrap ((x227.2.length:Int)-1))).toNat)<|.name 8001 ((x227.2.getD (XI (qv.wrap ((x227.2.length:Int)-1))) qw).depth) λz251=>.name 8003 ((x227.2.getD (XI (qv.wrap ((x227.2.length:Int)-1))) qw).index) λz252=>.br (qx ((x227.1.length:Int)>=4096)) (.kj (.fin (⟨0,nl,(⟨z251,z252,nl⟩:az8),(⟨0,nl,nl⟩:bzj)⟩:azr))) (.name 11003 ((x227.2.getD (XI (qv.wrap ((x227.2.length:Int)-1))) qw).depth) λz256=>.name 11005 ((x227.2.getD (XI (qv.wrap ((x227.2.length:Int)-1))) qw).index) λz257=>.call (pzh a1 a2 z256 z257) [] λy258=>.call (yzg (⟨a0.Xf,a0.Xd,a0.Xj⟩:azd) y258.1 ((x227.2.getD (XI (qv.wrap ((x227.2.length:Int)-1))) qw).hints)) [] λy260=>.br (y260.Xm==1) (.name 15002 ((x227.2.getD (XI (qv.wrap ((x227.2.length:Int)-1))) qw).depth) λz261=>.name 15004 ((x227.2.getD (XI (qv.wrap ((x227.2.length:Int)-1))) qw).index) λz262=>.conv 15008 (bzx 3 azl ([(⟨z261,z262,y260.Xe⟩:az8)]:A0) 80)<|.conv 15009 (czx 3 azl x227.1 ([(⟨z261,z262,y260.Xe⟩:az8)]:A0) 80)<|.grd ((x227.1.length+([(⟨z261,z262,y260.Xe⟩:az8)]:A0).length) * 40<=140737488355328/\(x227.1.length+([(⟨z261,z262,y260.Xe⟩:az8)]:A0).length)<=maxLen)<|.kj (.next ((x227.1++([(⟨z261,z262,y260.Xe⟩:az8)]:A0)),(x227.2.take (XI (qv.wrap ((x227.2.length:Int)-1))))))) (.br (y260.Xm==2) (.kj (.fin (⟨2,nl,(⟨z251,z252,nl⟩:az8),y260.Xl⟩:azr))) (.name 18001 ((x227.2.getD (XI (qv.wrap ((x227.2.length:Int)-1))) qw).depth) λz264=>.br (z264==a3) (.kj (.fin (⟨0,nl,(⟨z251,z252,nl⟩:az8),(⟨0,nl,nl⟩:bzj)⟩:azr))) (.name 13002 ((x227.2.getD (XI (qv.wrap ((x227.2.length:Int)-1))) qw).depth) λz265=>.name 13005 ((x227.2.getD (XI (qv.wrap ((x227.2.length:Int)-1))) qw).index) λz266=>.name 13012 ((x227.2.getD (XI (qv.wrap ((x227.2.length:Int)-1))) qw).depth) λz267=>.name 13015 ((x227.2.getD (XI (qv.wrap ((x227.2.length:Int)-1))) qw).index) λz268=>.conv 13020 (bzx 3 hzu ([(⟨(qv.wrap (z265+1)),(qv.wrap ((qv.wrap (2 * z266))+1)),y260.Xe⟩:bz0),(⟨(qv.wrap (z267+1)),(qv.wrap (2 * z268)),y260.Xe⟩:bz0)]:Ak) 186)<|.conv 13021 (czx 3 hzu (x227.2.take (XI (qv.wrap ((x227.2.length:Int)-1)))) ([(⟨(qv.wrap (z265+1)),(qv.wrap ((qv.wrap (2 * z266))+1)),y260.Xe⟩:bz0),(⟨(qv.wrap (z267+1)),(qv.wrap (2 * z268)),y260.Xe⟩:bz0)]:Ak) 186)<|.grd (((x227.2.take (XI (qv.wrap ((x227.2.length:Int)-1)))).length+([(⟨(qv.wrap (z265+1)),(qv.wrap ((qv.wrap (2 * z266))+1)),y260.Xe⟩:bz0),(⟨(qv.wrap (z267+1)),(qv.wrap (2 * z268)),y260.Xe⟩:bz0)]:Ak).length) * 40<=140737488355328/\((x227.2.take (XI (qv.wrap ((x227.2.length:Int)-1)))).length+([(⟨(qv.wrap (z265+1)),(qv.wrap ((qv.wrap (2 * z266))+1)),y260.Xe⟩:bz0),(⟨(qv.wrap (z267+1)),(qv.wrap (2 * z268)),y260.Xe⟩:bz0)]:Ak).length)<=maxLen)<|.kj (.next (x227.1,((x227.2.take (XI (qv.wrap ((x227.2.length:Int)-1))))++([(⟨(qv.wrap (z265+1)),(qv.wrap ((qv.wrap (2 * z266))+1)),y260.Xe⟩:bz0),(⟨(qv.wrap (z267+1)),(qv.wrap (2 * z268)),y260.Xe⟩:bz0)]:Ak))))))))) (.kj (.out x227.1))) (nl,([(⟨0,0,nl⟩:bz0)]:Ak)) [] λy248=>.kj (⟨1,y248,(⟨0,0,nl⟩:az8),(⟨0,nl,nl⟩:bzj)⟩:azr))
def xz3 (c)(d)(e)(f):=
 mkD Tryz.func66 (lzf c d e f) 0 [.pure (bzh c),XK 1 az2 d,XK 1 az2 e,pz f] [] (λr=>.pure (nz2 r)) XL
def Azu (c:aze)(d:Int)(e:azr):T (aze×Bool):=let f:=d.toNat;let g:=c.Xa.getD f qw;let h:Nat×Res:=(0,.box [XK 1 (encL 1 az2) c.Xc,XK 12 az9 c.Xa]);let i:Nat×Res:=(1,.box [pz e.Xm,XK 3 azl e.Xo,pz e.At.Xg,pz e.At.Xk,XK 3 az1 e.At.Xe,pz e.Xl.XC,XK 1 az2 e.Xl.Left,XK 1 az2 e.Xl.Xv]);.cut 2 (λ(j:Bool)=>⟨[(1,pz d),(3,XM 0),(5,XM 1),(6,XM 2),(36,XJ j)],[h,i,(2,.box [.vec 3,.vec 4]),(3,.nilv),(4,.nilv)],[],5⟩) (.br (qx (d<0)) (.oo true) (.br (qx (d>=(c.Xa.length:Int))) (.oo true) (.gh d c.Xa.length<|.br ((g.Xr)==1) (.oo true) (.gh d c.Xa.length<|.oo ((g.Xr)==2))))) λj=>.br j (.kj (c,false)) (.cut 1 (λ(k:Int)=>⟨[(1,pz d),(3,XM 0),(5,XM 1),(6,XM 2),(8,pz k)],[h,i,(2,.box [.vec 3,.vec 4]),(3,.nilv),(4,.nilv)],[],5⟩) (.br (e.Xm==1) (.oo 1) (.br (e.Xm==2) (.oo 2) (.br (e.Xm==0) (.oo 3) (.ff (c,false))))) λk=>let m:=(⟨g.U,g.V,g.Xi,k,g.Xn⟩:az4);let n:=c.Xa.set f m;let s:=n.getD f qw;let t:=(⟨s.U,s.V,s.Xi,s.Xr,e⟩:az4);
 .grd (c.Xa.length * 160<=140737488355328/\c.Xa.length<=maxLen)<|.gh d c.Xa.length<|.conv 12010 (fzr 12 az9 c.Xa 86 f m)<|.gi (d) c.Xa.length<|.gh d (n.length)<|.conv 12013 (fzr 12 az9 n 86 f t)<|.gi (d) (n.length)<|.kj ((⟨c.Xc,(n.set f t)⟩:aze),true))
def Azt (c)(d)(e):=
 mkD Tryz.func65 (Azu c d e) 0 [.pure (bzn c),pz d,.pure (nz2 e)] [] (λr=>.tup [.pure (bzn r.1),XJ r.2]) XL
def Azv (c:azd)(d:aze)(e:Int)(f:Int):T (aze×Bool):=let g:=d.Xa.getD (e.toNat) qw;let h:=(⟨d.Xc,d.Xa⟩:aze);.cut 2 (λ(i:Bool)=>⟨[(2,pz e),(3,pz f),(4,XM 0),(5,XM 1),(8,XM 2),(46,XJ i)],[(0,.box [XK 12 azc c.Xf.Xb,XK 5 azf c.Xf.Xh,XK 3 azk c.Xd,XK 2 azu c.Xj]),(1,.box [XK 1 (encL 1 az2) d.Xc,XK 12 az9 d.Xa]),(2,.box [.vec 3,.vec 4]),(3,.nilv),(4,.nilv)],[],5⟩) (.br (qx (e<0)) (.oo true) (.br (qx (e>=(d.Xa.length:Int))) (.oo true) (.gh e d.Xa.length<|.cc (Fzx h g) λi=>.br (!i) (.oo true) (.gh e d.Xa.length<|.br ((g.Xr)==1) (.oo true) (.gh e d.Xa.length<|.oo ((g.Xr)==2)))))) λi=>.br i (.kj (h,false)) (.gh e d.Xa.length<|.gh (g.U) d.Xc.length<|.gh e d.Xa.length<|.gh (g.V) d.Xc.length<|.call (xz3 (⟨c.Xf,c.Xd,c.Xj⟩:azd) (d.Xc.getD (XI g.U) qw) (d.Xc.getD (XI g.V) qw) f) [] λj=>.cc (Azt h e j) λk=>.kj (k.1,k.2))
def Izx (c)(d)(e)(f):=
 mkD Tryz.func26 (Azv c d e f) 0 [.pure (bzh c),.pure (bzn d),pz e,pz f] [] (λr=>.tup [.pure (bzn r.1),XJ r.2]) XL
def tza (c:A1)(d:A1):T (azd×aze):=
 .cc (zzs c) λe=>let f:=(⟨e.Xf,e.Xd,e.Xj⟩:azd);let g:Nat×Res:=(8,.box [XK 12 azc e.Xf.Xb,XK 5 azf e.Xf.Xh,XK 3 azk e.Xd,XK 2 azu e.Xj]);
 .cc (izz e.Xf 5 d) λh=>.cc (uz4 e.Xf h 2) λi=>.loop (λ(j:(A2×A3×Int))=>⟨[(4,XM 0),(5,XM 5),(6,XM 8),(7,XM 9),(8,pz j.2.2)],[(0,.box [.vec 1,.vec 2,.vec 3,.vec 4]),(1,.nilv),(2,.nilv),(3,.nilv),(4,.nilv),(5,.box [.vec 6,.vec 7]),(6,.nilv),(7,.nilv),g,(9,.box [XK 1 (encL 1 az2) j.1,XK 12 az9 j.2.1])],[],10⟩) (.exit 0) (λ(j:(A2×A3))=>⟨[(4,XM 0),(5,XM 5),(6,XM 8),(7,XM 9)],[(0,.box [.vec 1,.vec 2,.vec 3,.vec 4]),(1,.nilv),(2,.nilv),(3,.nilv),(4,.nilv),(5,.box [.vec 6,.vec 7]),(6,.nilv),(7,.nilv),g,(9,.box [XK 1 (encL 1 az2) j.1,XK 12 az9 j.2])],[],10⟩) (λj=>.br (qx (j.2.2<(j.2.1.length:Int))) (.cc (Izx f (⟨j.1,j.2.1⟩:aze) j.2.2 3) λk=>.nn (k.1.Xc,k.1.Xa,(qv.wrap (j.2.2+1)))) (.oo (j.1,j.2.1))) (i.Xc,i.Xa,0) [] λj=>.kj (f,(⟨j.1,j.2⟩:aze))
def Czn (c)(d):=
 mkD Tryz.func8 (tza c d) 0 [XK 1 az2 c,XK 1 az2 d] [] (λr=>.tup [.pure (bzh r.1),.pure (bzn r.2)]) XL
def qzz (c:aze):T Bool:=let d:=(c.Xa.length:Int);let e:=(c.Xc.length:Int);let f:Nat×Res:=(0,.box [XK 1 (encL 1 az2) c.Xc,XK 12 az9 c.Xa]);.loop (λ(g:Int)=>⟨[(1,XM 0),(3,pz g)],[f],[],1⟩) (.exit 0) (λ(_:U0)=>⟨[(1,XM 0)],[f],[],1⟩) (λg=>let h:=qv.wrap (g-1);let i:=c.Xa.getD (g.toNat) qw;let j:=i.U;let k:=i.V;let m:=c.Xa.getD (h.toNat) qw;.br (qx (g<d)) (.gh g c.Xa.length<|.cut 1 (λ(n:Bool)=>⟨[(1,XM 0),(3,pz g),(4,XM 1),(34,XJ n)],[f,(1,.box [pz j,pz k,pz (i.Xi),pz (i.Xr),pz (i.Xn.Xm),XK 3 azl (i.Xn.Xo),pz (i.Xn.At.Xg),pz (i.Xn.At.Xk),XK 3 az1 (i.Xn.At.Xe),pz (i.Xn.Xl.XC),XK 1 az2 (i.Xn.Xl.Left),XK 1 az2 (i.Xn.Xl.Xv)])],[],2⟩) (.br (qx (j<0)) (.oo true) (.br (qx (j>=k)) (.oo true) (.oo (qx (k>=e))))) λn=>.br n (.ff false) (.cut 0 (λ(s:Bool)=>⟨[(1,XM 0),(3,pz g),(72,XJ s)],[f],[],1⟩) (.br (qx (g>0)) (.gh h c.Xa.length<|.br (qx ((m.U)>j)) (.oo true) (.gh h c.Xa.length<|.br ((m.U)==j) (.gh h c.Xa.length<|.oo (qx ((m.V)>=k))) (.oo false))) (.oo false)) λs=>.br s (.ff false) (.nn (qv.wrap (g+1))))) (.oo .u))
 0 [] λ_=>.br (qx (e<=1024)) (.kj (qx (d<=8192))) (.kj false)
def qzy (c):=
 mkD Tryz.func107 (qzz c) 0 [.pure (bzn c)] [] XJ XL
def uz3 (c:aze):T Bool:=let d:Nat×Res:=(0,.box [XK 1 (encL 1 az2) c.Xc,XK 12 az9 c.Xa]);.loop (λ(e:Int)=>⟨[(1,XM 0),(3,pz e)],[d],[],1⟩) (.exit 0) (λ(_:U0)=>⟨[(1,XM 0)],[d],[],1⟩) (λe=>let f:=c.Xa.getD (e.toNat) qw;.br (qx (e<(c.Xa.length:Int))) (.cut 1 (λ(g:Bool)=>⟨[(1,XM 0),(3,pz e),(26,XJ g)],[d],[],1⟩) (.gh e c.Xa.length<|.br (qx ((f.Xi)<0)) (.oo true) (.gh e c.Xa.length<|.oo (qx ((f.Xi)>1099511627776)))) λg=>.br g (.ff false) (.nn (qv.wrap (e+1)))) (.oo .u))
 0 [] λ_=>.cc (qzy c) λe=>.kj e
def nzf (c):=
 mkD Tryz.func67 (uz3 c) 0 [.pure (bzn c)] [] XJ XL
def xzf (c:aze)(d:Int)(e:Int):T Bool:=let f:=(c.Xc.length:Int);.cc (nzf c) λg=>.br g (.br (qx (d>=0)) (.br (qx (d<f)) (.br (qx (e>=0)) (.kj (qx (e<f))) (.kj false)) (.kj false)) (.kj false)) (.kj false)
def xze (c)(d)(e):=
 mkD Tryz.func27 (xzf c d e) 0 [.pure (bzn c),pz d,pz e] [] XJ XL
def Jzp (c:az4)(d:Int):T Bool:=
 .br (d==0) (.kj (c.Xr==1)) (.br (d==1) (.br (c.Xr==1) (.kj true) (.kj (c.Xr==0))) (.br (d==2) (.kj (c.Xr !=2)) (.kj false)))
def ozu (c)(d):=
 mkD Tryz.func29 (Jzp c d) 0 [.pure (az9 c),pz d] [] XJ XL
def Azw (c:azh)(d:azh):T Bool:=let e:=qx (d.Xi<0);.cut 2 (λ(f:Bool)=>⟨[(2,XM 0),(3,XM 1),(12,XJ f)],[(0,.box [pz c.Xi,pz c.Xa]),(1,.box [pz d.Xi,pz d.Xa])],[],2⟩) (.br e (.oo true) (.oo (qx (c.Xi<0)))) λf=>.br f (.br (qx (c.Xi>=0)) (.kj e) (.kj false)) (.br (qx (c.Xi<d.Xi)) (.kj true) (.br (c.Xi==d.Xi) (.kj (qx (c.Xa<d.Xa))) (.kj false)))
def sz9 (c)(d):=
 mkD Tryz.func68 (Azw c d) 0 [.pure (bz5 c),.pure (bz5 d)] [] XJ XL
def uza (c:aze)(d:Int)(e:Int):T Al:=let f:=(c.Xc.length:Int);let g:Nat×Res:=(0,.box [XK 1 (encL 1 az2) c.Xc,XK 12 az9 c.Xa]);.conv 1003 (Kzr 2 bz5 76 f.toNat (⟨0,0⟩:azh))<|.grd (0<=f/\f<=f/\f<=9223372036854775807/\f * 16<=140737488355328)<|.loop (λ(h:(Al×Int))=>⟨[(1,pz d),(2,pz e),(3,XM 0),(7,.vec 1),(8,pz h.2)],[g,(1,vecO 2 bz5 h.1 76)],[],2⟩) (.exit 0) (λ(h:Al)=>⟨[(1,pz d),(2,pz e),(3,XM 0),(7,.vec 1)],[g,(1,vecO 2 bz5 h 76)],[],2⟩) (λh=>let i:=(h.2).toNat;let j:=(⟨(-1),(h.1.getD i qw).Xa⟩:azh);.name 3002 ((h.1.length:Int)) λk=>.br (qx (h.2<k)) (.gh h.2 h.1.length<|.conv 5004 (fzr 2 bz5 h.1 76 i j)<|.gi (h.2) h.1.length<|.nn ((h.1.set i j),(qv.wrap (h.2+1)))) (.oo h.1)) ((qu f.toNat ((⟨0,0⟩:azh):azh)),0) [] λh=>.gh d h.length<|.conv 6004 (fzr 2 bz5 h 76 (d.toNat) (⟨0,0⟩:azh))<|.gi (d) h.length<|.loop (λ(i:As)=>⟨[(2,pz e),(3,XM 0),(7,.vec 1),(9,XJ i.2)],[g,(1,vecO 2 bz5 i.1 76)],[],2⟩) (.exit 2) (λ(i:Al)=>⟨[(7,.vec 0)],[(0,vecO 2 bz5 i 76)],[],1⟩) (λi=>.br i.2 (.loop (λ(j:(Al×Bool×Int))=>⟨[(2,pz e),(3,XM 0),(7,.vec 1),(9,XJ j.2.1),(10,pz j.2.2)],[g,(1,vecO 2 bz5 j.1 76)],[],2⟩) (.exit 4) (λ(j:As)=>⟨[(2,pz e),(3,XM 0),(7,.vec 1),(9,XJ j.2)],[g,(1,vecO 2 bz5 j.1 76)],[],2⟩) (λj=>let k:=c.Xa.getD (XI j.2.2) qw;let m:=([(k.U,k.V),(k.V,k.U)]:(List Ar));let n:Nat×Res:=(2,.box [pz (k.U),pz (k.V),pz (k.Xi),pz (k.Xr),pz (k.Xn.Xm),XK 3 azl (k.Xn.Xo),pz (k.Xn.At.Xg),pz (k.Xn.At.Xk),XK 3 az1 (k.Xn.At.Xe),pz (k.Xn.Xl.XC),XK 1 az2 (k.Xn.Xl.Left),XK 1 az2 (k.Xn.Xl.Xv)]);.br (qx (j.2.2<(c.Xa.length:Int))) (.cut 0 (λ(s:As)=>⟨[(2,pz e),(3,XM 0),(7,.vec 1),(9,XJ s.2),(10,pz j.2.2)],[g,(1,vecO 2 bz5 s.1 76)],[],2⟩) (.gh j.2.2 c.Xa.length<|.cc (ozu k e) λs=>.br (!s) (.oo (j.1,j.2.1)) (.conv 15010 (bzx 2 kze m 134)<|.name 15011 ((m.length:Int)) λt=>.loop (λ(w:(Al×Bool×Int))=>⟨[(2,pz e),(3,XM 0),(7,.vec 1),(9,XJ w.2.1),(10,pz j.2.2),(11,XM 2),(60,.vec 3),(61,pz t),(62,pz w.2.2)],[g,(1,vecO 2 bz5 w.1 76),n,(3,vecO 2 kze m 134)],[],4⟩) (.exit 6) (λ(w:As)=>⟨[(2,pz e),(3,XM 0),(7,.vec 1),(9,XJ w.2),(10,pz j.2.2)],[g,(1,vecO 2 bz5 w.1 76)],[],2⟩) (λw=>let y:=m.getD (XI w.2.2) qw;.br (qx (w.2.2<t)) (.cut 0 (λ(z:As)=>⟨[(2,pz e),(3,XM 0),(7,.vec 1),(9,XJ z.2),(10,pz j.2.2),(11,XM 2),(60,.vec 3),(61,pz t),(62,pz w.2.2)],[g,(1,vecO 2 bz5 z.1 76),n,(3,vecO 2 kze m 134)],[],4⟩) (.gg w.2.2 (m.length)<|.ix 0 2 rfl<|.name 18002 (y.1) λz=>let aa:=w.1.getD (z.toNat) qw;
 .gg z w.1.length<|.br (qx ((aa.Xi)<0)) (.oo (w.1,w.2.1)) (.name 20004 ((qv.wrap ((aa.Xi)+(k.Xi)))) λab=>let ac:=(⟨ab,(qv.wrap ((aa.Xa)+1))⟩:azh);
 .ix 1 2 rfl<|.name 21003 (y.2) λad=>.gg ad w.1.length<|.call (sz9 ac (w.1.getD (ad.toNat) qw)) [] λae=>.br ae (.ix 1 2 rfl<|.name 22002 (y.2) λaf=>.gh af w.1.length<|.conv 22005 (fzr 2 bz5 w.1 76 (af.toNat) ac)<|.gi (af) w.1.length<|.oo ((w.1.set (af.toNat) ac),true)) (.oo (w.1,w.2.1)))) λz=>.nn (z.1,z.2,(qv.wrap (w.2.2+1)))) (.oo (w.1,w.2.1))) (j.1,j.2.1,0) [] λw=>.oo (w.1,w.2))) λs=>.nn (s.1,s.2,(qv.wrap (j.2.2+1)))) (.oo (j.1,j.2.1))) (i.1,false,0) [] λj=>.nn (j.1,j.2)) (.oo i.1)) ((h.set (d.toNat) (⟨0,0⟩:azh)),true) [] λi=>.kj i
def uz9 (c)(d)(e):=
 mkD Tryz.func28 (uza c d e) 0 [.pure (bzn c),pz d,pz e] [] (λr=>XK 2 bz5 r) XL
open Go.Proofs
def jzk (c:aze)(d:Int)(e:Int)(f:Int):T (bzy×Bool):=let g:=([d]:A1);let h:Nat×Res:=(0,.box [XK 1 (encL 1 az2) c.Xc,XK 12 az9 c.Xa]);let i:=(⟨c.Xc,c.Xa⟩:aze);.cut 2 (λ(j:Bool)=>⟨[(1,pz d),(2,pz e),(3,pz f),(4,XM 0),(8,XM 1),(29,XJ j)],[h,(1,.box [.vec 2,pz 0]),(2,.nilv)],[],3⟩) (.cc (xze i d e) λj=>.br (!j) (.oo true) (.br (qx (f<0)) (.oo true) (.oo (qx (f>2))))) λj=>.br j (.kj ((⟨nl,0⟩:bzy),false)) (.cc (uz9 i e f) λk=>let m:=encL 2 bz5 k;let n:=k.getD (d.toNat) qw;let s:=n.Xi;let t:Nat×Res:=(3,.box [.vec 4,pz s]);
 .gh d k.length<|.br (qx (s<0)) (.kj ((⟨nl,0⟩:bzy),false)) (.conv 6001 (bzx 1 az2 g 3)<|.gh d k.length<|.loop (λ(w:A8)=>⟨[(2,pz e),(3,pz f),(4,XM 0),(8,XM 1),(10,.pure m),(11,XM 3),(12,pz w.2)],[h,(1,.box [.vec 2,pz 0]),(2,.nilv),t,(4,vecO 1 az2 w.1 3)],[],5⟩) (.exit 0) (λ(w:A1)=>⟨[(8,XM 0),(11,XM 2)],[(0,.box [.vec 1,pz 0]),(1,.nilv),(2,.box [.vec 3,pz s]),(3,vecO 1 az2 w 3)],[],4⟩) (λw=>let y:=k.getD (XI w.2) qw;.br (w.2 !=e) (.loop (λ(z:Ar)=>⟨[(2,pz e),(3,pz f),(4,XM 0),(8,XM 1),(10,.pure m),(11,XM 3),(12,pz w.2),(13,pz z.1),(14,pz z.2)],[h,(1,.box [.vec 2,pz 0]),(2,.nilv),t,(4,vecO 1 az2 w.1 3)],[],5⟩) (.exit 2) (λ(z:Int)=>⟨[(2,pz e),(3,pz f),(4,XM 0),(8,XM 1),(10,.pure m),(11,XM 3),(13,pz z)],[h,(1,.box [.vec 2,pz 0]),(2,.nilv),t,(4,vecO 1 az2 w.1 3)],[],5⟩) (λz=>let aa:=c.Xa.getD (XI z.2) qw;.br (qx (z.2<(c.Xa.length:Int))) (.cut 0 (λ(ab:Int)=>⟨[(2,pz e),(3,pz f),(4,XM 0),(8,XM 1),(10,.pure m),(11,XM 3),(12,pz w.2),(13,pz ab),(14,pz z.2)],[h,(1,.box [.vec 2,pz 0]),(2,.nilv),t,(4,vecO 1 az2 w.1 3)],[],5⟩) (.gh z.2 c.Xa.length<|.cut 1 (λ(ab:Bool)=>⟨[(2,pz e),(3,pz f),(4,XM 0),(8,XM 1),(10,.pure m),(11,XM 3),(12,pz w.2),(13,pz z.1),(14,pz z.2),(15,XM 5),(81,XJ ab)],[h,(1,.box [.vec 2,pz 0]),(2,.nilv),t,(4,vecO 1 az2 w.1 3),(5,.box [pz (aa.U),pz (aa.V),pz (aa.Xi),pz (aa.Xr),pz (aa.Xn.Xm),XK 3 azl (aa.Xn.Xo),pz (aa.Xn.At.Xg),pz (aa.Xn.At.Xk),XK 3 az1 (aa.Xn.At.Xe),pz (aa.Xn.Xl.XC),XK 1 az2 (aa.Xn.Xl.Left),XK 1 az2 (aa.Xn.Xl.Xv)])],[],6⟩) (.cc (ozu aa f) λab=>.br (!ab) (.oo true) (.br ((aa.U) !=w.2) (.oo ((aa.V) !=w.2)) (.oo false))) λab=>.br ab (.oo z.1) (.name 15006 ((qv.wrap ((qv.wrap ((aa.U)+(aa.V)))-w.2))) λac=>let ad:=k.getD (ac.toNat) qw;
 .cut 0 (λ(ae:Bool)=>⟨[(2,pz e),(3,pz f),(4,XM 0),(8,XM 1),(10,.pure m),(11,XM 3),(12,pz w.2),(13,pz z.1),(14,pz z.2),(16,pz ac),(133,XJ ae)],[h,(1,.box [.vec 2,pz 0]),(2,.nilv),t,(4,vecO 1 az2 w.1 3)],[],5⟩) (.gh ac k.length<|.br (qx ((ad.Xi)>=0)) (.gh ac k.length<|.gh w.2 k.length<|.br ((qv.wrap ((ad.Xi)+(aa.Xi)))==(y.Xi)) (.gh ac k.length<|.gh w.2 k.length<|.br ((qv.wrap ((ad.Xa)+1))==(y.Xa)) (.br (qx (z.1<0)) (.oo true) (.oo (qx (ac<z.1)))) (.oo false)) (.oo false)) (.oo false)) λae=>.br ae (.oo ac) (.oo z.1))) λab=>.nn (ab,(qv.wrap (z.2+1)))) (.oo z.1)) ((-1),0) [] λz=>let aa:=([z]:A1);let ab:=w.1.length+aa.length;
 .conv 19003 (bzx 1 az2 aa 3)<|.conv 19004 (czx 1 az2 w.1 aa 3)<|.grd (ab * 8<=140737488355328/\ab<=maxLen)<|.nn ((w.1++aa),z)) (.oo w.1)) (g,d) [] λw=>.kj ((⟨w,n.Xi⟩:bzy),true)))
def jzj (c)(d)(e)(f):=
 mkD Tryz.func9 (jzk c d e f) 0 [.pure (bzn c),pz d,pz e,pz f] [] (λr=>.tup [.pure (nzn r.1),XJ r.2]) XL
def dz7 (a0:A1):T A1:= (match a0 with
  |[]=>.unroll 1<|.grd (a0.length=0)<|.both (.kj nl) (.conv 3000 (bzx 1 az2 ([]:A1) 2)<|.conv 3002 (czx 1 az2 ([]:A1) a0 2)<|.grd ((([]:A1).length+a0.length) * 8<=140737488355328/\(([]:A1).length+a0.length)<=maxLen)<|.kj (([]:A1)++a0))
  |_::_=>.grd (0<a0.length)<|.conv 3000 (bzx 1 az2 ([]:A1) 2)<|.conv 3002 (czx 1 az2 ([]:A1) a0 2)<|.grd ((([]:A1).length+a0.length) * 8<=140737488355328/\(([]:A1).length+a0.length)<=maxLen)<|.kj (([]:A1)++a0))
def ez5 (a0:A1):CallS A1:=
 mkH [] hd Tryz.func51 (by kernel_rfl) (dz7 a0) 0 [XK 1 az2 a0] [] (λr=>XK 1 az2 r) XL (by cases a0<;>exact Ob.of_side (by kernel_rfl))
def pz0 (c:Int):T Bool:=
 .br (qx (97<=c)) (.kj (qx (c<=122))) (.kj false)
def yzp (c):=
 mkD Tryz.func198 (pz0 c) 0 [.pure (.int .i32 c)] [] XJ XL
def rzf (c:Int):T Bool:=
 .br (qx (48<=c)) (.kj (qx (c<=57))) (.kj false)
def Bzh (c):=
 mkD Tryz.func199 (rzf c) 0 [.pure (.int .i32 c)] [] XJ XL
def Bzg (c:ByteArray):T Bool:=let d:=(c.size:Nat);.cut 2 (λ(e:Bool)=>⟨[(0,.pure (.str c)),(16,XJ e)],[],[],0⟩) (.br ((d:Int)==0) (.oo true) (.br (qx ((d:Int)>16)) (.oo true) (.oo (c==(⟨#[119,111,114,108,100]⟩:ByteArray))))) λe=>.br e (.kj false) (.loop (λ(f:Nat)=>⟨[(18,XM 0)],[(0,.iter c f)],[],1⟩) (.exit 0) XN (λf=>let g:=Utf8.decode c f;let h:=(g.1:Int);.brP (f<c.size) (.cut 2 (λ(i:Bool)=>⟨[(18,XM 0),(38,XJ i)],[(0,.iter c (f+g.2))],[],1⟩) (.cc (yzp h) λi=>.br (!i) (.br ((f:Int)==0) (.oo true) (.cc (Bzh h) λj=>.br (!j) (.oo (h !=95)) (.oo false))) (.oo false)) λi=>.br i (.ff false) (.nn (f+g.2))) (.oo .u))
 0 [] λ_=>.kj true)
def Jz8 (c):=
 mkD Tryz.func152 (Bzg c) 0 [.pure (.str c)] [] XJ XL
def Bz5 (c:azo)(d:ByteArray):T Int:=let e:=(c.Xb.length:Int);.loop (λ(f:Int)=>⟨[(1,.pure (.str d)),(2,XM 0),(8,pz e),(9,pz f)],[(0,.box [XK 12 azc c.Xb,XK 5 azf c.Xh])],[],1⟩) (.exit 0) XN (λf=>.br (qx (f<e)) (.gh f c.Xb.length<|.br (((c.Xb.getD (f.toNat) qw).XA)==d) (.ff f) (.nn (qv.wrap (f+1)))) (.oo .u))
 0 [] λ_=>.kj (-1)
def Jz3 (c)(d):=
 mkD Tryz.func153 (Bz5 c d) 0 [.pure (czq c),.pure (.str d)] [] pz XL
def uzh (c:Ax):T Bool:=
 .loop (λ(d:Int)=>⟨[(5,.pure (az1 c)),(6,pz d)],[],[],0⟩) (.exit 0) XN (λd=>let e:=([c.1,c.2.1,c.2.2]:List Int).getD d.toNat 0;.br (qx (d<3)) (.gh d 3<|.cut 0 (λ(f:Bool)=>⟨[(5,.pure (az1 c)),(6,pz d),(14,XJ f)],[],[],0⟩) (.br (qx (e<(-4194304))) (.oo true) (.oo (qx (e>4194304)))) λf=>.br f (.ff true) (.nn (qv.wrap (d+1)))) (.oo .u))
 0 [] λ_=>.kj false
def uzg (c):=
 mkD Tryz.func154 (uzh c) 0 [.pure (az1 c)] [] XJ XL
def xzn (c:Int):T Int:=
 .cut 3 (λ(d:Bool)=>⟨[(3,pz c),(4,XJ d)],[],[],0⟩) (.br (c==1) (.oo (c==1)) (.br (c==2) (.oo (c==2)) (.oo (c==3)))) λd=>.br d (.kj 524288) (.cut 0 (λ(e:Bool)=>⟨[(8,XJ e)],[],[],0⟩) (.br (c==4) (.oo (c==4)) (.br (c==5) (.oo (c==5)) (.oo (c==6)))) λe=>.br e (.kj 4194304) (.kj 0))
def Gz3 (c):=
 mkD Tryz.func155 (xzn c) 0 [pz c] [] pz XL
def xzm (c:Int)(d:Int):T Bool:=
 .br (qx (1<=c)) (.kj (qx (c<=d))) (.kj false)
def izi (c)(d):=
 mkD Tryz.func156 (xzm c d) 0 [pz c,pz d] [] XJ XL
def lzn (c:azo)(d:Int):T Int:=let e:=c.Xb.getD (d.toNat) qw;let f:=e.XA;let g:=e.Xm;let h:=e.Xt;let i:Nat×Res:=(0,.box [.pure (.str f),pz g,pz h,pz (e.Xw.1),pz (e.Xw.2.1),pz (e.Xw.2.2),pz (e.Lo),pz (e.Hi),pz (e.XB),pz (e.XF),pz (e.XG),pz (e.XE)]);.gh d c.Xb.length<|.cut 1 (λ(j:Bool)=>⟨[(1,pz d),(5,XM 0),(12,XJ j)],[i],[],1⟩) (.cc (Jz8 f) λj=>.br (!j) (.oo true) (.cc (Jz3 (⟨c.Xb,c.Xh⟩:azo) f) λk=>.oo (k !=d))) λj=>.br j (.kj 802) (.cut 0 (λ(k:Bool)=>⟨[(1,pz d),(5,XM 0),(25,XJ k)],[i],[],1⟩) (.br (qx (g<0)) (.oo true) (.oo (qx (g>6)))) λk=>.br k (.kj 803) (.cut 0 (λ(m:Bool)=>⟨[(5,XM 0),(34,XJ m)],[i],[],1⟩) (.br (qx (h<(-1))) (.oo true) (.oo (qx (h>=d)))) λm=>.br m (.kj 804) (.cc (uzg (e.Xw)) λn=>.br n (.kj 805) (.cc (Gz3 g) λs=>.cut 1 (λ(t:Bool)=>⟨[(5,XM 0),(68,XJ t)],[i],[],1⟩) (.br (qx ((e.Lo)>(e.Hi))) (.oo true) (.br (qx ((e.Lo)<(qv.wrap (0-s)))) (.oo true) (.oo (qx ((e.Hi)>s))))) λt=>.br t (.kj 806) (.cut 1 (λ(w:Bool)=>⟨[(90,XJ w)],[],[],0⟩) (.cc (izi (e.XB) 1024) λw=>.br (!w) (.oo true) (.cc (izi (e.XF) 1048576) λy=>.br (!y) (.oo true) (.cc (izi (e.XG) 1048576) λz=>.br (!z) (.oo true) (.cc (izi (e.XE) 1099511627776) λaa=>.oo (!aa))))) λw=>.br w (.kj 807) (.kj 0))))))
def szc (c)(d):=
 mkD Tryz.func118 (lzn c d) 0 [.pure (czq c),pz d] [] pz XL
def mzu (c:azo)(d:cz6):T Bool:=
 .br (qx (0<=d.Xp)) (.br (qx (d.Xp<(c.Xb.length:Int))) (.cc (izi d.XH 65536) λe=>.br e (.cc (uzg d.XD) λf=>.kj (!f)) (.kj false)) (.kj false)) (.kj false)
def vzh (c)(d):=
 mkD Tryz.func121 (mzu c d) 0 [.pure (czq c),.pure (azf d)] [] XJ XL
def rz4 (c:cz6)(d:A9)(e:Aa):T (Bool×A9×Aa):=
 .cc (vzh (⟨d,e⟩:azo) (⟨c.Xp,c.XH,c.XD⟩:cz6)) λf=>.kj ((!f),d,e)
def Bz4 (c)(d)(e):=
 mkD Tryz.func120 (rz4 c d e) 1 [.pure (azf c),XM 0] [(0,.box [XK 12 azc d,XK 5 azf e])] (λr=>XJ r.1) (λr=>[(0,.box [XK 12 azc r.2.1,XK 5 azf r.2.2])])
def dzi (c:Aa)(d:A9)(e:Aa):T (Int×A9×Aa):=let f:=(c.length:Int);.loop (λ(g:(A9×Aa×Int))=>⟨[(0,XK 5 azf c),(1,.func 120 [] [XM 0]),(7,pz f),(8,pz g.2.2)],[(0,.box [XK 12 azc g.1,XK 5 azf g.2.1])],[],1⟩) (.exit 0) (λ(g:(A9×Aa))=>⟨[],[(0,.box [XK 12 azc g.1,XK 5 azf g.2])],[],1⟩) (λg=>.br (qx (g.2.2<f)) (.gh g.2.2 c.length<|.call (Bz4 (c.getD (XI g.2.2) qw) g.1 g.2.1) [(0,0)] λh=>.br h.1 (.ff (g.2.2,h.2.1,h.2.2)) (.nn (h.2.1,h.2.2,(qv.wrap (g.2.2+1))))) (.oo (g.1,g.2.1))) (d,e,0) [] λg=>.kj ((-1),g.1,g.2)
def fz7 (c)(d)(e):=
 mkD Tryz.func157 (dzi c d e) 1 [XK 5 azf c,.func 120 [] [XM 0]] [(0,.box [XK 12 azc d,XK 5 azf e])] (λr=>pz r.1) (λr=>[(0,.box [XK 12 azc r.2.1,XK 5 azf r.2.2])])
def czz (c:Aa)(d:A9)(e:Aa):T (Bool×A9×Aa):=
 .call (fz7 c d e) [(0,0)] λf=>.kj ((qx (f.1>=0)),f.2.1,f.2.2)
def ezm (c)(d)(e):=
 mkD Tryz.func119 (czz c d e) 1 [XK 5 azf c,.func 120 [] [XM 0]] [(0,.box [XK 12 azc d,XK 5 azf e])] (λr=>XJ r.1) (λr=>[(0,.box [XK 12 azc r.2.1,XK 5 azf r.2.2])])
def xzl (c:azo):T Int:=let d:=(c.Xb.length:Int);let e:Nat×Res:=(0,.box [XK 12 azc c.Xb,XK 5 azf c.Xh]);.cut 2 (λ(f:Bool)=>⟨[(1,XM 0),(14,XJ f)],[e],[],1⟩) (.br (d==0) (.oo true) (.oo (qx (d>10)))) λf=>.br f (.kj 801) (.loop (λ(g:Int)=>⟨[(1,XM 0),(17,pz d),(18,pz g)],[e],[],1⟩) (.exit 0) (λ(_:U0)=>⟨[(1,XM 0)],[e],[],1⟩) (λg=>.br (qx (g<d)) (.cc (szc (⟨c.Xb,c.Xh⟩:azo) g) λh=>.br (h !=0) (.ff h) (.nn (qv.wrap (g+1)))) (.oo .u))
 0 [] λ_=>.cut 1 (λ(g:Bool)=>⟨[(37,XJ g)],[],[],0⟩) (.br (qx ((c.Xh.length:Int)>32)) (.oo true) (.call (ezm c.Xh c.Xb c.Xh) [(0,0)] λg=>.oo g.1)) λg=>.br g (.kj 808) (.kj 0))
def xzk (c):=
 mkD Tryz.func81 (xzl c) 0 [.pure (czq c)] [] pz XL
def uzi (c:azd)(d:Int):T Bool:=
 .br (qx ((-1)<=d)) (.kj (qx (d<(c.Xf.Xb.length:Int)))) (.kj false)
def nzh (c)(d):=
 mkD Tryz.func83 (uzi c d) 0 [.pure (bzh c),pz d] [] XJ XL
def lzp (c:azd)(d:bz7):T Int:=let e:=encL 3 az1 d.Xc;let f:=(d.Xc.length:Int);.cut 3 (λ(g:Bool)=>⟨[(3,XM 0),(35,XJ g)],[(0,.box [pz d.Xp,pz d.Xs,.pure e])],[],1⟩) (.cc (nzh c d.Xp) λg=>.br (!g) (.oo true) (.br (qx (d.Xs<1)) (.oo true) (.br (qx (d.Xs>1048576)) (.oo true) (.br (qx (f<1)) (.oo true) (.oo (qx (f>8))))))) λg=>.br g (.kj 902) (.loop (λ(h:Int)=>⟨[(37,.pure e),(38,pz f),(39,pz h)],[],[],0⟩) (.exit 0) XN (λh=>let i:=d.Xc.getD (h.toNat) qw;.br (qx (h<f)) (.gh h d.Xc.length<|.loop (λ(j:Int)=>⟨[(37,.pure e),(38,pz f),(39,pz h),(43,.pure (az1 i)),(44,pz j)],[],[],0⟩) (.exit 2) (λ(_:U0)=>⟨[(37,.pure e),(38,pz f),(39,pz h)],[],[],0⟩) (λj=>.br (qx (j<3)) (.gh j 3<|.name 9000 ((([i.1,i.2.1,i.2.2]:List Int).getD j.toNat 0)) λk=>.cut 0 (λ(m:Bool)=>⟨[(37,.pure e),(38,pz f),(39,pz h),(43,.pure (az1 i)),(44,pz j),(52,XJ m)],[],[],0⟩) (.br (qx (k<(-4194304))) (.oo true) (.oo (qx (k>4194304)))) λm=>.br m (.ff (.fin 805)) (.nn (qv.wrap (j+1)))) (.oo .u))
 0 [] λ_=>.nn (qv.wrap (h+1))) (.oo .u))
 0 [] λ_=>.kj 0)
def szd (c)(d):=
 mkD Tryz.func82 (lzp c d) 0 [.pure (bzh c),.pure (azk d)] [] pz XL
def xzo (c:azd):T Int:=let d:=encL 2 azu c.Xj;let e:=encL 3 azk c.Xd;let f:=(c.Xj.length:Int);let g:=(c.Xd.length:Int);let h:Nat×Res:=(0,.box [XK 12 azc c.Xf.Xb,XK 5 azf c.Xf.Xh,.pure e,.pure d]);.cc (xzk c.Xf) λi=>.br (i !=0) (.kj i) (.br (qx (g>24)) (.kj 901) (.loop (λ(j:Int)=>⟨[(1,XM 0),(20,.pure e),(21,pz g),(22,pz j)],[h],[],1⟩) (.exit 0) (λ(_:U0)=>⟨[(1,XM 0)],[h],[],1⟩) (λj=>.br (qx (j<g)) (.gh j c.Xd.length<|.cc (szd c (c.Xd.getD (j.toNat) qw)) λk=>.br (k !=0) (.ff k) (.nn (qv.wrap (j+1)))) (.oo .u))
 0 [] λ_=>.br (qx (f>64)) (.kj 903) (.loop (λ(j:Int)=>⟨[(1,XM 0),(38,.pure d),(39,pz f),(40,pz j)],[h],[],1⟩) (.exit 2) XN (λj=>let k:=c.Xj.getD (j.toNat) qw;.br (qx (j<f)) (.gh j c.Xj.length<|.cut 0 (λ(m:Bool)=>⟨[(1,XM 0),(38,.pure d),(39,pz f),(40,pz j),(55,XJ m)],[h],[],1⟩) (.cc (nzh c (k.A)) λm=>.br (!m) (.oo true) (.cc (nzh c (k.B)) λn=>.oo (!n))) λm=>.br m (.ff 903) (.nn (qv.wrap (j+1)))) (.oo .u))
 0 [] λ_=>.kj 0)))
def ezz (c):=
 mkD Tryz.func46 (xzo c) 0 [.pure (bzh c)] [] pz XL
def mz3 (c:azz)(d:Int):T Bool:=
 .br (qx (c.Lo<=d)) (.kj (qx (d<=c.Hi))) (.kj false)
def uzt (c)(d):=
 mkD Tryz.func159 (mz3 c d) 0 [.pure (azc c),pz d] [] XJ XL
def ezg (c:A9)(d:A1):T Bool:=let e:=(c.length:Int);.br (e !=(d.length:Int)) (.kj false) (.loop (λ(f:Int)=>⟨[(1,XK 1 az2 d),(2,.func 159 [] []),(14,XK 12 azc c),(15,pz e),(16,pz f)],[],[],0⟩) (.exit 0) XN (λf=>.br (qx (f<e)) (.gh f c.length<|.gh f d.length<|.cc (uzt (c.getD (f.toNat) qw) (d.getD (f.toNat) qw)) λg=>.br (!g) (.ff false) (.nn (qv.wrap (f+1)))) (.oo .u))
 0 [] λ_=>.kj true)
def gzg (c)(d):=
 mkD Tryz.func158 (ezg c d) 0 [XK 12 azc c,XK 1 az2 d,.func 159 [] []] [] XJ XL
def qz2 (c:azo)(d:A1):T Bool:=
 .cc (xzk c) λe=>.br (e==0) (.cc (gzg c.Xb d) λf=>.kj f) (.kj false)
def gz6 (c)(d):=
 mkD Tryz.func123 (qz2 c d) 0 [.pure (czq c),XK 1 az2 d] [] XJ XL
def lz4 (c:azd)(d:A2):T Ar:=let e:=(d.length:Int);let f:=encL 1 (encL 1 az2) d;let g:Nat×Res:=(0,.box [XK 12 azc c.Xf.Xb,XK 5 azf c.Xf.Xh,XK 3 azk c.Xd,XK 2 azu c.Xj]);.cc (ezz c) λh=>.br (h !=0) (.kj (0,904)) (.cut 1 (λ(i:Bool)=>⟨[(1,.pure f),(2,XM 0),(18,XJ i)],[g],[],1⟩) (.br (qx (e<2)) (.oo true) (.oo (qx (e>256)))) λi=>.br i (.kj (0,2201)) (.loop (λ(j:Int)=>⟨[(2,XM 0),(19,.pure f),(20,pz e),(21,pz j)],[g],[],1⟩) (.exit 0) XN (λj=>.br (qx (j<e)) (.gh j d.length<|.cc (gz6 c.Xf (d.getD (j.toNat) qw)) λk=>.br (!k) (.ff (j,1201)) (.nn (qv.wrap (j+1)))) (.oo .u))
 0 [] λ_=>.kj (0,0)))
def rzx (c)(d):=
 mkD Tryz.func88 (lz4 c d) 0 [.pure (bzh c),XK 1 (encL 1 az2) d] [] (λr=>.tup [pz r.1,pz r.2]) XL
def oza (c:Int):T Bool:=
 .br (qx (c<(-2147483648))) (.kj true) (.kj (qx (c>2147483648)))
def yz3 (c):=
 mkD Tryz.func240 (oza c) 0 [pz c] [] XJ XL
def ezn (c:A1):T Int:=let d:=(c.length:Int);.loop (λ(e:Int)=>⟨[(0,XK 1 az2 c),(1,.func 240 [] []),(7,pz d),(8,pz e)],[],[],0⟩) (.exit 0) XN (λe=>.br (qx (e<d)) (.gh e c.length<|.cc (yz3 (c.getD (e.toNat) qw)) λf=>.br f (.ff e) (.nn (qv.wrap (e+1)))) (.oo .u))
 0 [] λ_=>.kj (-1)
def gzj (c):=
 mkD Tryz.func279 (ezn c) 0 [XK 1 az2 c,.func 240 [] []] [] pz XL
def ez0 (c:A1):T Bool:=
 .cc (gzj c) λd=>.kj (qx (d>=0))
def fzo (c):=
 mkD Tryz.func239 (ez0 c) 0 [XK 1 az2 c,.func 240 [] []] [] XJ XL
def tz0 (c:A1):T Bool:=
 .cc (fzo c) λd=>.kj (!d)
def szz (c):=
 mkD Tryz.func200 (tz0 c) 0 [XK 1 az2 c] [] XJ XL
def mz4 (c:A1)(d:A1)(e:Int):T Bool:=
 .br ((c.length:Int)==(d.length:Int)) (.cc (szz c) λf=>.br f (.cc (szz d) λg=>.br g (.br (qx (0<=e)) (.kj (qx (e<=20))) (.kj false)) (.kj false)) (.kj false)) (.kj false)
def uzu (c)(d)(e):=
 mkD Tryz.func160 (mz4 c d e) 0 [XK 1 az2 c,XK 1 az2 d,pz e] [] XJ XL
def wz0 (c:Int)(d:Int):T Int:=
 .grd (0<=d)<|.kj (c.fdiv (2 ^ (min d.toNat 64)))
def vzz (c)(d):=
 mkD Tryz.func163 (wz0 c d) 0 [pz c,pz d] [] pz XL
def oz9 (c:Int)(d:Int)(e:Int)(f:Int):T (az0×Int×Int):=let g:=qv.wrap (d-c);let h:=qv.wrap (e * g);let i:=qv.wrap ((qv.wrap (e+1)) * g);.name 2003 ((min h i)) λj=>.cc (vzz j f) λk=>.name 2010 ((max h i)) λm=>.cc (vzz (qv.wrap (0-m)) f) λn=>.kj ((⟨(qv.wrap (c+k)),(qv.wrap (c-n))⟩:az0),e,f)
def yz2 (c)(d)(e)(f):=
 mkD Tryz.func162 (oz9 c d e f) 2 [pz c,pz d,XM 0,XM 1] [(0,.box [pz e]),(1,.box [pz f])] (λr=>.pure (azb r.1)) (λr=>[(0,.box [pz r.2.1]),(1,.box [pz r.2.2])])
def czv (c:A1)(d:A1)(e:Int)(f:Int):T (Af×Int×Int):=let g:=(c.length:Int);.conv 1002 (Kzr 2 azb 218 g.toNat (⟨0,0⟩:az0))<|.grd (0<=g/\g<=g/\g<=9223372036854775807/\g * 16<=140737488355328)<|.loop (λ(h:(Int×Int×Af×Int))=>⟨[(1,XK 1 az2 d),(2,.func 162 [] [XM 0,XM 1]),(7,.vec 2),(13,XK 1 az2 c),(14,pz g),(15,pz h.2.2.2)],[(0,.box [pz h.1]),(1,.box [pz h.2.1]),(2,vecO 2 azb h.2.2.1 218)],[],3⟩) (.exit 0) (λ(h:(Int×Int×Af))=>⟨[(7,.vec 2)],[(0,.box [pz h.1]),(1,.box [pz h.2.1]),(2,vecO 2 azb h.2.2 218)],[],3⟩) (λh=>let i:=(h.2.2.2).toNat;.br (qx (h.2.2.2<g)) (.gh h.2.2.2 c.length<|.gh h.2.2.2 d.length<|.call (yz2 (c.getD i qw) (d.getD i qw) h.1 h.2.1) [(0,0),(1,1)] λj=>.gh h.2.2.2 h.2.2.1.length<|.conv 5010 (fzr 2 azb h.2.2.1 218 i j.1)<|.gi (h.2.2.2) h.2.2.1.length<|.nn (j.2.1,j.2.2,(h.2.2.1.set i j.1),(qv.wrap (h.2.2.2+1)))) (.oo (h.1,h.2.1,h.2.2.1))) (e,f,(qu g.toNat ((⟨0,0⟩:az0):az0)),0) [] λh=>.kj (h.2.2,h.1,h.2.1)
def ezd (c)(d)(e)(f):=
 mkD Tryz.func161 (czv c d e f) 2 [XK 1 az2 c,XK 1 az2 d,.func 162 [] [XM 0,XM 1]] [(0,.box [pz e]),(1,.box [pz f])] (λr=>XK 2 azb r.1) (λr=>[(0,.box [pz r.2.1]),(1,.box [pz r.2.2])])
def szx (c:A1)(d:A1)(e:Int)(f:Int):T (Af×Bool):=
 .cut 2 (λ(g:Bool)=>⟨[(0,XK 1 az2 c),(1,XK 1 az2 d),(6,XM 0),(7,XM 1),(24,XJ g)],[(0,.box [pz e]),(1,.box [pz f])],[],2⟩) (.cc (uzu c d e) λg=>.br (!g) (.oo true) (.br (qx (f<0)) (.oo true) (.grd (0<=e)<|.oo (qx (f>=(qv.wrap (1 * 2 ^ (min e.toNat 64)))))))) λg=>.br g (.kj (nl,false)) (.call (ezd c d f e) [(0,1),(1,0)] λh=>.kj (h.1,true))
def nz1 (c)(d)(e)(f):=
 mkD Tryz.func125 (szx c d e f) 0 [XK 1 az2 c,XK 1 az2 d,pz e,pz f] [] (λr=>.tup [XK 2 azb r.1,XJ r.2]) XL
def ozd (c:az0):T Bool:=
 .br (qx ((-2147483648)<=c.Lo)) (.br (qx (c.Lo<=c.Hi)) (.kj (qx (c.Hi<=2147483648))) (.kj false)) (.kj false)
def czj (c):=
 mkD Tryz.func201 (ozd c) 0 [.pure (azb c)] [] XJ XL
def ozw (c:azo):T A1:=let d:=encL 12 azc c.Xb;let e:=(c.Xb.length:Int);let f:=qv.wrap (e+1);let g:=qu f.toNat (0:Int);.conv 1004 (Kzr 1 az2 3 f.toNat 0)<|.grd (0<=f/\f<=f/\f<=9223372036854775807/\f * 8<=140737488355328)<|.gh (0:Int) (g.length)<|.conv 2002 (fzr 1 az2 g 3 (XI (0:Int)) (-1))<|.gi (0:Int) (g.length)<|.loop (λ(h:A8)=>⟨[(3,.vec 0),(14,.pure d),(15,pz e),(16,pz h.2)],[(0,vecO 1 az2 h.1 3)],[],1⟩) (.exit 0) (λ(h:A1)=>⟨[(3,.vec 0)],[(0,vecO 1 az2 h 3)],[],1⟩) (λh=>let i:=qv.wrap (h.2+1);let j:=i.toNat;let k:=h.1.set j h.2;let m:=k.length;let n:=c.Xb.getD (XI h.2) qw;let s:=qv.wrap ((n.Xt)+1);.br (qx (h.2<e)) (.cut 0 (λ(t:A1)=>⟨[(3,.vec 0),(14,.pure d),(15,pz e),(16,pz h.2)],[(0,vecO 1 az2 t 3)],[],1⟩) (.gh h.2 c.Xb.length<|.gh i h.1.length<|.conv 6005 (fzr 1 az2 h.1 3 j h.2)<|.gi (i) h.1.length<|.br ((n.Lo)==(n.Hi)) (.gg s m<|.name 8008 ((k.getD (s.toNat) qw)) λt=>.gh i m<|.conv 8010 (fzr 1 az2 k 3 j t)<|.gi (i) m<|.oo (k.set j t)) (.oo k)) λt=>.nn (t,i)) (.oo h.1)) ((g.set (XI (0:Int)) (-1)),0) [] λh=>.kj h
def yzl (c):=
 mkD Tryz.func241 (ozw c) 0 [.pure (czq c)] [] (λr=>XK 1 az2 r) XL
def rz5 (c:azd)(d:Int)(e:Int):T Bool:=let f:=encL 2 azu c.Xj;let g:=(c.Xj.length:Int);.loop (λ(h:Int)=>⟨[(1,pz d),(2,pz e),(10,.pure f),(11,pz g),(12,pz h)],[],[],0⟩) (.exit 0) XN (λh=>let i:=c.Xj.getD (h.toNat) qw;.br (qx (h<g)) (.gh h c.Xj.length<|.cut 0 (λ(j:Bool)=>⟨[(1,pz d),(2,pz e),(10,.pure f),(11,pz g),(12,pz h),(27,XJ j)],[],[],0⟩) (.br (((i.A)==d)&&(((i.B)==e)&&true)) (.oo true) (.oo (((i.A)==e)&&(((i.B)==d)&&true)))) λj=>.br j (.ff true) (.nn (qv.wrap (h+1)))) (.oo .u))
 0 [] λ_=>.kj false
def Bz9 (c)(d)(e):=
 mkD Tryz.func242 (rz5 c d e) 0 [.pure (bzh c),pz d,pz e] [] XJ XL
def xzp (c:azd):T Ah:=let d:=encL 3 azk c.Xd;let e:=(c.Xd.length:Int);let f:Nat×Res:=(0,.box [XK 12 azc c.Xf.Xb,XK 5 azf c.Xf.Xh,.pure d,XK 2 azu c.Xj]);.cc (ezz c) λg=>.br (g !=0) (.kj nl) (.cc (yzl c.Xf) λh=>let i:=encL 1 az2 h;
 .loop (λ(j:Ai)=>⟨[(1,XM 0),(3,.pure i),(4,.vec 1),(17,.pure d),(18,pz e),(19,pz j.2)],[f,(1,vecO 2 dzy j.1 269)],[],2⟩) (.exit 0) (λ(j:Ah)=>⟨[(4,.vec 0)],[(0,vecO 2 dzy j 269)],[],1⟩) (λj=>let k:=c.Xd.getD (XI j.2) qw;let m:=k.Xp;let n:=qv.wrap (m+1);let s:=qv.wrap (j.2+1);let t:Nat×Res:=(2,.box [pz m,pz (k.Xs),XK 3 az1 (k.Xc)]);.br (qx (j.2<e)) (.gh j.2 c.Xd.length<|.loop (λ(w:Ai)=>⟨[(1,XM 0),(3,.pure i),(4,.vec 1),(5,pz j.2),(6,XM 2),(7,pz w.2),(17,.pure d),(18,pz e),(19,pz j.2)],[f,(1,vecO 2 dzy w.1 269),t],[],3⟩) (.exit 2) (λ(w:Ah)=>⟨[(1,XM 0),(3,.pure i),(4,.vec 1),(17,.pure d),(18,pz e),(19,pz j.2)],[f,(1,vecO 2 dzy w 269)],[],2⟩) (λw=>let y:=([(⟨j.2,w.2⟩:czg)]:Ah);let z:=w.1.length+y.length;let aa:=(c.Xd.getD (XI w.2) qw).Xp;let ab:=qv.wrap (aa+1);.br (qx (w.2<e)) (.cut 0 (λ(ac:Ah)=>⟨[(1,XM 0),(3,.pure i),(4,.vec 1),(5,pz j.2),(6,XM 2),(7,pz w.2),(17,.pure d),(18,pz e),(19,pz j.2)],[f,(1,vecO 2 dzy ac 269),t],[],3⟩) (.gh w.2 c.Xd.length<|.gh n h.length<|.gh ab h.length<|.name 12011 ((h.getD (ab.toNat) qw)) λac=>.cut 0 (λ(ad:Bool)=>⟨[(1,XM 0),(3,.pure i),(4,.vec 1),(5,pz j.2),(6,XM 2),(7,pz w.2),(17,.pure d),(18,pz e),(19,pz j.2),(61,XJ ad)],[f,(1,vecO 2 dzy w.1 269),t],[],3⟩) (.br (!((h.getD (n.toNat) qw)==ac)) (.cc (Bz9 c m aa) λad=>.oo (!ad)) (.oo false)) λad=>.br ad (.conv 14004 (bzx 2 dzy y 269)<|.conv 14005 (czx 2 dzy w.1 y 269)<|.grd (z * 16<=140737488355328/\z<=maxLen)<|.oo (w.1++y)) (.oo w.1)) λac=>.nn (ac,(qv.wrap (w.2+1)))) (.oo w.1)) (j.1,s) [] λw=>.nn (w,s)) (.oo j.1)) (nl,0) [] λj=>.kj j)
def Gz5 (c):=
 mkD Tryz.func202 (xzp c) 0 [.pure (bzh c)] [] (λr=>XK 2 dzy r) XL
def izp (c:az0):T Bool:=
 .cc (czj c) λd=>.kj (!d)
def pz3 (c):=
 mkD Tryz.func281 (izp c) 0 [.pure (azb c)] [] XJ XL
def czm (c:Af):T Int:=let d:=(c.length:Int);.loop (λ(e:Int)=>⟨[(0,XK 2 azb c),(1,.func 281 [] []),(7,pz d),(8,pz e)],[],[],0⟩) (.exit 0) XN (λe=>.br (qx (e<d)) (.gh e c.length<|.cc (pz3 (c.getD (e.toNat) qw)) λf=>.br f (.ff e) (.nn (qv.wrap (e+1)))) (.oo .u))
 0 [] λ_=>.kj (-1)
def dzq (c):=
 mkD Tryz.func304 (czm c) 0 [XK 2 azb c,.func 281 [] []] [] pz XL
def cze (c:Af):T Bool:=
 .cc (dzq c) λd=>.kj (qx (d>=0))
def dzh (c):=
 mkD Tryz.func280 (cze c) 0 [XK 2 azb c,.func 281 [] []] [] XJ XL
def kzl (c:azo)(d:Af):T Bool:=
 .br ((d.length:Int)==(c.Xb.length:Int)) (.cc (dzh d) λe=>.kj (!e)) (.kj false)
def rzq (c)(d):=
 mkD Tryz.func243 (kzl c d) 0 [.pure (czq c),XK 2 azb d] [] XJ XL
def wza (c:Int):T Int:=
 .kj (min (max c (-2147483648)) 2147483648)
def wz9 (c):=
 mkD Tryz.func339 (wza c) 0 [pz c] [] pz XL
def kzi (c:Int)(d:Int):T az0:=
 .cc (wz9 c) λe=>.cc (wz9 d) λf=>.kj (⟨e,f⟩:az0)
def hzk (c)(d):=
 mkD Tryz.func327 (kzi c d) 0 [pz c,pz d] [] (λr=>.pure (azb r)) XL
def wze (c:Int):T az0:=
 .cc (hzk c c) λd=>.kj d
def dz3 (c):=
 mkD Tryz.func309 (wze c) 0 [pz c] [] (λr=>.pure (azb r)) XL
def tzd (c:Ax):T B4:=
 .unroll 4<|.kh<|.jW<|.cc (dz3 c.1) λd=>.jW<|.lit 6000 1<|.kh<|.jX<|.cc (dz3 c.2.1) λe=>.jX<|.lit 6000 2<|.kh<|.jY<|.cc (dz3 c.2.2) λf=>.jY<|.lit 6000 3<|.ki<|.kj (d,e,f)
def nz8 (c):=
 mkD Tryz.func288 (tzd c) 0 [.pure (az1 c)] [] (λr=>.pure (az3 r)) XL
def matrix_Identity_T:T B7:=
 .unroll 4<|.kh<|.cc (dz3 65536) λc=>.jW<|.jW<|.lit 6000 1<|.kh<|.cc (dz3 65536) λd=>.jX<|.jX<|.lit 6000 2<|.kh<|.cc (dz3 65536) λe=>.jY<|.jY<|.lit 6000 3<|.ki<|.kj ((c,(⟨0,0⟩:az0),(⟨0,0⟩:az0)),((⟨0,0⟩:az0),d,(⟨0,0⟩:az0)),((⟨0,0⟩:az0),(⟨0,0⟩:az0),e))
def matrix_Identity_C:CallS B7:=
 mkD Tryz.func308 (matrix_Identity_T) 0 [] [] (λr=>.pure (bzp r)) XL
def Az4 (c:B4):T bz2:=
 .cc (matrix_Identity_C) λd=>.kj (⟨d,c⟩:bz2)
def rzz (c):=
 mkD Tryz.func284 (Az4 c) 0 [.pure (az3 c)] [] (λr=>.pure (bzz r)) XL
def gz9 (c:Int):T Int:=
 .cut 3 (λ(d:Bool)=>⟨[(0,pz c),(2,XM 0),(3,pz c),(4,XJ d)],[(0,.box [.any])],[],1⟩) (.br (c==1) (.oo (c==1)) (.br (c==2) (.oo (c==2)) (.oo (c==3)))) λd=>.br d (.kj (qv.wrap (c-1))) (.cut 0 (λ(e:Bool)=>⟨[(0,pz c),(2,XM 0),(12,XJ e)],[(0,.box [.any])],[],1⟩) (.br (c==4) (.oo (c==4)) (.br (c==5) (.oo (c==5)) (.oo (c==6)))) λe=>.br e (.stop) (.stop))
def gz8 (c):=
 mkD Tryz.func305 (gz9 c) 0 [pz c] [] (λr=>.agg [.func 318 [pz r] []]) XL
def gzb (c:Int):T Int:=
 .cut 3 (λ(d:Bool)=>⟨[(0,pz c),(2,XM 0),(3,pz c),(4,XJ d)],[(0,.box [.any])],[],1⟩) (.br (c==1) (.oo (c==1)) (.br (c==2) (.oo (c==2)) (.oo (c==3)))) λd=>.br d (.stop) (.cut 0 (λ(e:Bool)=>⟨[(0,pz c),(2,XM 0),(12,XJ e)],[(0,.box [.any])],[],1⟩) (.br (c==4) (.oo (c==4)) (.br (c==5) (.oo (c==5)) (.oo (c==6)))) λe=>.br e (.kj (qv.wrap (c-4))) (.stop))
def gza (c):=
 mkD Tryz.func305 (gzb c) 0 [pz c] [] (λr=>.agg [.func 319 [pz r] []]) XL
def gzc (c:Int):T Int:=
 .cut 3 (λ(d:Bool)=>⟨[(0,pz c),(2,XM 0),(3,pz c),(4,XJ d)],[(0,.box [.any])],[],1⟩) (.br (c==1) (.oo (c==1)) (.br (c==2) (.oo (c==2)) (.oo (c==3)))) λd=>.br d (.stop) (.cut 0 (λ(e:Bool)=>⟨[(0,pz c),(2,XM 0),(12,XJ e)],[(0,.box [.any])],[],1⟩) (.br (c==4) (.oo (c==4)) (.br (c==5) (.oo (c==5)) (.oo (c==6)))) λe=>.br e (.stop) (.kj 0))
def jzz (c):=
 mkD Tryz.func305 (gzc c) 0 [pz c] [] (λr=>.agg [.func 320 [pz r] []]) XL
def pose_still_T:T B4:=
 .cc (nz8 (0,0,0)) λc=>.kj c
def pose_still_C:CallS B4:=
 mkD Tryz.func285 (pose_still_T) 0 [] [] (λr=>.pure (az3 r)) XL
def pose_Identity_T:T bz2:=
 .cc (pose_still_C) λc=>.cc (rzz c) λd=>.kj d
def pose_Identity_C:CallS bz2:=
 mkD Tryz.func245 (pose_Identity_T) 0 [] [] (λr=>.pure (bzz r)) XL
def Dzj (_a0:Int)(_a1:az0):T bz2:=
 .cc (pose_Identity_C) λc=>.kj c
def Kzg (c)(d):=
 mkD Tryz.func320 (Dzj c d) 0 [pz c,.pure (azb d)] [] (λr=>.pure (bzz r)) XL
def nzw (c:bz2):T Bk:=
 .kj (c.R.1.1.Lo,c.R.1.1.Hi,c.R.1.2.1.Lo,c.R.1.2.1.Hi,c.R.1.2.2.Lo,c.R.1.2.2.Hi,c.R.2.1.1.Lo,c.R.2.1.1.Hi,c.R.2.1.2.1.Lo,c.R.2.1.2.1.Hi,c.R.2.1.2.2.Lo,c.R.2.1.2.2.Hi,c.R.2.2.1.Lo,c.R.2.2.1.Hi,c.R.2.2.2.1.Lo,c.R.2.2.2.1.Hi,c.R.2.2.2.2.Lo,c.R.2.2.2.2.Hi,c.T.1.Lo,c.T.1.Hi,c.T.2.1.Lo,c.T.2.1.Hi,c.T.2.2.Lo,c.T.2.2.Hi)
def sz0 (c):=
 mkD Tryz.func306 (nzw c) 0 [.pure (bzz c)] [] (λ_=>.func 321 [] [XM 0]) (λr=>[(0,.box [pz r.1,pz r.2.1,pz r.2.2.1,pz r.2.2.2.1,pz r.2.2.2.2.1,pz r.2.2.2.2.2.1,pz r.2.2.2.2.2.2.1,pz r.2.2.2.2.2.2.2.1,pz r.2.2.2.2.2.2.2.2.1,pz r.2.2.2.2.2.2.2.2.2.1,pz r.2.2.2.2.2.2.2.2.2.2.1,pz r.2.2.2.2.2.2.2.2.2.2.2.1,pz r.2.2.2.2.2.2.2.2.2.2.2.2.1,pz r.2.2.2.2.2.2.2.2.2.2.2.2.2.1,pz r.2.2.2.2.2.2.2.2.2.2.2.2.2.2.1,pz r.2.2.2.2.2.2.2.2.2.2.2.2.2.2.2.1,pz r.2.2.2.2.2.2.2.2.2.2.2.2.2.2.2.2.1,pz r.2.2.2.2.2.2.2.2.2.2.2.2.2.2.2.2.2.1,pz r.2.2.2.2.2.2.2.2.2.2.2.2.2.2.2.2.2.2.1,pz r.2.2.2.2.2.2.2.2.2.2.2.2.2.2.2.2.2.2.2.1,pz r.2.2.2.2.2.2.2.2.2.2.2.2.2.2.2.2.2.2.2.2.1,pz r.2.2.2.2.2.2.2.2.2.2.2.2.2.2.2.2.2.2.2.2.2.1,pz r.2.2.2.2.2.2.2.2.2.2.2.2.2.2.2.2.2.2.2.2.2.2.1,pz r.2.2.2.2.2.2.2.2.2.2.2.2.2.2.2.2.2.2.2.2.2.2.2])])
def ozg (c:az0)(d:az0):T Bool:=
 .cc (czj c) λe=>.br e (.cc (czj d) λf=>.kj f) (.kj false)
def jzh (c)(d):=
 mkD Tryz.func337 (ozg c d) 0 [.pure (azb c),.pure (azb d)] [] XJ XL
def mz7 (c:Int)(d:Int):T Int:=
 .br (qx (d<0)) (.kj c) (.grd (0<=d)<|.kj (c.fdiv (2 ^ (min d.toNat 64))))
def bze (c)(d):=
 mkD Tryz.func263 (mz7 c d) 0 [pz c,pz d] [] pz XL
def qz7 (c:Int)(d:Int):T Int:=let e:=min d.toNat 64;let f:=c.fdiv (2 ^ e);.br (qx (d<0)) (.kj c) (.grd (0<=d)<|.cut 0 (λ(g:Int)=>⟨[(5,pz g)],[],[],0⟩) (.grd (0<=d)<|.br ((qv.wrap (f * 2 ^ e)) !=c) (.oo (qv.wrap (f+1))) (.oo f)) λg=>.kj g)
def bzm (c)(d):=
 mkD Tryz.func293 (qz7 c d) 0 [pz c,pz d] [] pz XL
def mz8 (c:Int)(d:Int):T az0:=
 .cc (bze c 16) λe=>.cc (bzm d 16) λf=>.cc (hzk e f) λg=>.kj g
def uzy (c)(d):=
 mkD Tryz.func338 (mz8 c d) 0 [pz c,pz d] [] (λr=>.pure (azb r)) XL
def tz8 (c:az0)(d:az0):T az0:=let e:=qv.wrap (c.Lo * d.Lo);let f:=qv.wrap (c.Lo * d.Hi);let g:=qv.wrap (c.Hi * d.Lo);let h:=qv.wrap (c.Hi * d.Hi);.cc (jzh (⟨c.Lo,c.Hi⟩:az0) (⟨d.Lo,d.Hi⟩:az0)) λi=>.br (!i) (.kj (⟨0,0⟩:az0)) (.ix 0 4 rfl<|.ix 0 4 rfl<|.loop (λ(j:Ax)=>⟨[(4,XM 0),(6,pz j.1),(7,pz j.2.1),(40,.pure (Kzy (e,f,g,h))),(41,pz j.2.2)],[(0,.box [pz 0,pz 0])],[],1⟩) (.exit 0) (λ(j:Ar)=>⟨[(4,XM 0),(6,pz j.1),(7,pz j.2)],[(0,.box [pz 0,pz 0])],[],1⟩) (λj=>.br (qx (j.2.2<4)) (.gh j.2.2 4<|.name 7000 ((([e,f,g,h]:List Int).getD (j.2.2).toNat 0)) λk=>.nn ((min j.1 k),(max j.2.1 k),(qv.wrap (j.2.2+1)))) (.oo (j.1,j.2.1))) (e,e,0) [] λj=>.cc (uzy j.1 j.2) λk=>.kj k)
def azw (c)(d):=
 mkD Tryz.func325 (tz8 c d) 0 [.pure (azb c),.pure (azb d)] [] (λr=>.pure (azb r)) XL
def tz4 (c:az0)(d:az0):T az0:=
 .cc (jzh c d) λe=>.br (!e) (.kj (⟨0,0⟩:az0)) (.cc (hzk (qv.wrap (c.Lo+d.Lo)) (qv.wrap (c.Hi+d.Hi))) λf=>.kj f)
def azs (c)(d):=
 mkD Tryz.func324 (tz4 c d) 0 [.pure (azb c),.pure (azb d)] [] (λr=>.pure (azb r)) XL
def ozj (c:Int):T Int:=
 .kj (min (max c (-65536)) 65536)
def bzd (c):=
 mkD Tryz.func326 (ozj c) 0 [pz c] [] pz XL
def ozi (c:B7)(d:B7):T B7:=
 .unroll 4<|.kh<|.unroll 4<|.kh<|.unroll 4<|.kh<|.jW<|.jW<|.jW<|.jW<|.cc (azw c.1.1 d.1.1) λe=>.cc (azs (⟨0,0⟩:az0) e) λf=>.lit 13000 1<|.kh<|.jW<|.jX<|.jX<|.jW<|.cc (azw c.1.2.1 d.2.1.1) λg=>.cc (azs f g) λh=>.lit 13000 2<|.kh<|.jW<|.jY<|.jY<|.jW<|.cc (azw c.1.2.2 d.2.2.1) λi=>.cc (azs h i) λj=>.lit 13000 3<|.ki<|.cc (bzd j.Lo) λk=>.cc (bzd j.Hi) λm=>.jW<|.jW<|.lit 15000 1<|.kh<|.unroll 4<|.kh<|.jW<|.jW<|.jW<|.jX<|.cc (azw c.1.1 d.1.2.1) λn=>.cc (azs (⟨0,0⟩:az0) n) λs=>.lit 13000 1<|.kh<|.jW<|.jX<|.jX<|.jX<|.cc (azw c.1.2.1 d.2.1.2.1) λt=>.cc (azs s t) λw=>.lit 13000 2<|.kh<|.jW<|.jY<|.jY<|.jX<|.cc (azw c.1.2.2 d.2.2.2.1) λy=>.cc (azs w y) λz=>.lit 13000 3<|.ki<|.cc (bzd z.Lo) λaa=>.cc (bzd z.Hi) λab=>.jW<|.jX<|.lit 15000 2<|.kh<|.unroll 4<|.kh<|.jW<|.jW<|.jW<|.jY<|.cc (azw c.1.1 d.1.2.2) λac=>.cc (azs (⟨0,0⟩:az0) ac) λad=>.lit 13000 1<|.kh<|.jW<|.jX<|.jX<|.jY<|.cc (azw c.1.2.1 d.2.1.2.2) λae=>.cc (azs ad ae) λaf=>.lit 13000 2<|.kh<|.jW<|.jY<|.jY<|.jY<|.cc (azw c.1.2.2 d.2.2.2.2) λag=>.cc (azs af ag) λah=>.lit 13000 3<|.ki<|.cc (bzd ah.Lo) λai=>.cc (bzd ah.Hi) λaj=>.jW<|.jY<|.lit 15000 3<|.ki<|.lit 16000 1<|.kh<|.unroll 4<|.kh<|.unroll 4<|.kh<|.jX<|.jW<|.jW<|.jW<|.cc (azw c.2.1.1 d.1.1) λak=>.cc (azs (⟨0,0⟩:az0) ak) λal=>.lit 13000 1<|.kh<|.jX<|.jX<|.jX<|.jW<|.cc (azw c.2.1.2.1 d.2.1.1) λam=>.cc (azs al am) λan=>.lit 13000 2<|.kh<|.jX<|.jY<|.jY<|.jW<|.cc (azw c.2.1.2.2 d.2.2.1) λao=>.cc (azs an ao) λap=>.lit 13000 3<|.ki<|.cc (bzd ap.Lo) λaq=>.cc (bzd ap.Hi) λar=>.jX<|.jW<|.lit 15000 1<|.kh<|.unroll 4<|.kh<|.jX<|.jW<|.jW<|.jX<|.cc (azw c.2.1.1 d.1.2.1) λau=>.cc (azs (⟨0,0⟩:az0) au) λav=>.lit 13000 1<|.kh<|.jX<|.jX<|.jX<|.jX<|.cc (azw c.2.1.2.1 d.2.1.2.1) λaw=>.cc (azs av aw) λax=>.lit 13000 2<|.kh<|.jX<|.jY<|.jY<|.jX<|.cc (azw c.2.1.2.2 d.2.2.2.1) λay=>.cc (azs ax ay) λaz=>.lit 13000 3<|.ki<|.cc (bzd az.Lo) λa0=>.cc (bzd az.Hi) λa1=>.jX<|.jX<|.lit 15000 2<|.kh<|.unroll 4<|.kh<|.jX<|.jW<|.jW<|.jY<|.cc (azw c.2.1.1 d.1.2.2) λa2=>.cc (azs (⟨0,0⟩:az0) a2) λa3=>.lit 13000 1<|.kh<|.jX<|.jX<|.jX<|.jY<|.cc (azw c.2.1.2.1 d.2.1.2.2) λa4=>.cc (azs a3 a4) λa5=>.lit 13000 2<|.kh<|.jX<|.jY<|.jY<|.jY<|.cc (azw c.2.1.2.2 d.2.2.2.2) λa6=>.cc (azs a5 a6) λa7=>.lit 13000 3<|.ki<|.cc (bzd a7.Lo) λa8=>.cc (bzd a7.Hi) λa9=>.jX<|.jY<|.lit 15000 3<|.ki<|.lit 16000 2<|.kh<|.unroll 4<|.kh<|.unroll 4<|.kh<|.jY<|.jW<|.jW<|.jW<|.cc (azw c.2.2.1 d.1.1) λba=>.cc (azs (⟨0,0⟩:az0) ba) λbb=>.lit 13000 1<|.kh<|.jY<|.jX<|.jX<|.jW<|.cc (azw c.2.2.2.1 d.2.1.1) λbc=>.cc (azs bb bc) λbd=>.lit 13000 2<|.kh<|.jY<|.jY<|.jY<|.jW<|.cc (azw c.2.2.2.2 d.2.2.1) λbe=>.cc (azs bd be) λbf=>.lit 13000 3<|.ki<|.cc (bzd bf.Lo) λbg=>.cc (bzd bf.Hi) λbh=>.jY<|.jW<|.lit 15000 1<|.kh<|.unroll 4<|.kh<|.jY<|.jW<|.jW<|.jX<|.cc (azw c.2.2.1 d.1.2.1) λbi=>.cc (azs (⟨0,0⟩:az0) bi) λbj=>.lit 13000 1<|.kh<|.jY<|.jX<|.jX<|.jX<|.cc (azw c.2.2.2.1 d.2.1.2.1) λbk=>.cc (azs bj bk) λbl=>.lit 13000 2<|.kh<|.jY<|.jY<|.jY<|.jX<|.cc (azw c.2.2.2.2 d.2.2.2.1) λbm=>.cc (azs bl bm) λbn=>.lit 13000 3<|.ki<|.cc (bzd bn.Lo) λbo=>.cc (bzd bn.Hi) λbp=>.jY<|.jX<|.lit 15000 2<|.kh<|.unroll 4<|.kh<|.jY<|.jW<|.jW<|.jY<|.cc (azw c.2.2.1 d.1.2.2) λbq=>.cc (azs (⟨0,0⟩:az0) bq) λbs=>.lit 13000 1<|.kh<|.jY<|.jX<|.jX<|.jY<|.cc (azw c.2.2.2.1 d.2.1.2.2) λbt=>.cc (azs bs bt) λbu=>.lit 13000 2<|.kh<|.jY<|.jY<|.jY<|.jY<|.cc (azw c.2.2.2.2 d.2.2.2.2) λbv=>.cc (azs bu bv) λbw=>.lit 13000 3<|.ki<|.cc (bzd bw.Lo) λbx=>.cc (bzd bw.Hi) λbz=>.jY<|.jY<|.lit 15000 3<|.ki<|.lit 16000 3<|.ki<|.kj (((⟨k,m⟩:az0),(⟨aa,ab⟩:az0),(⟨ai,aj⟩:az0)),((⟨aq,ar⟩:az0),(⟨a0,a1⟩:az0),(⟨a8,a9⟩:az0)),((⟨bg,bh⟩:az0),(⟨bo,bp⟩:az0),(⟨bx,bz⟩:az0)))
def yz9 (c)(d):=
 mkD Tryz.func307 (ozi c d) 0 [.pure (bzp c),.pure (bzp d)] [] (λr=>.pure (bzp r)) XL
def tzc (c:B7)(d:B4):T B4:=
 .unroll 4<|.kh<|.unroll 4<|.kh<|.jW<|.jW<|.jW<|.jW<|.cc (azw c.1.1 d.1) λe=>.cc (azs (⟨0,0⟩:az0) e) λf=>.jW<|.lit 9000 1<|.kh<|.jW<|.jW<|.jX<|.jX<|.cc (azw c.1.2.1 d.2.1) λg=>.cc (azs f g) λh=>.jW<|.lit 9000 2<|.kh<|.jW<|.jW<|.jY<|.jY<|.cc (azw c.1.2.2 d.2.2) λi=>.cc (azs h i) λj=>.jW<|.lit 9000 3<|.ki<|.lit 10000 1<|.kh<|.unroll 4<|.kh<|.jX<|.jX<|.jW<|.jW<|.cc (azw c.2.1.1 d.1) λk=>.cc (azs (⟨0,0⟩:az0) k) λm=>.jX<|.lit 9000 1<|.kh<|.jX<|.jX<|.jX<|.jX<|.cc (azw c.2.1.2.1 d.2.1) λn=>.cc (azs m n) λs=>.jX<|.lit 9000 2<|.kh<|.jX<|.jX<|.jY<|.jY<|.cc (azw c.2.1.2.2 d.2.2) λt=>.cc (azs s t) λw=>.jX<|.lit 9000 3<|.ki<|.lit 10000 2<|.kh<|.unroll 4<|.kh<|.jY<|.jY<|.jW<|.jW<|.cc (azw c.2.2.1 d.1) λy=>.cc (azs (⟨0,0⟩:az0) y) λz=>.jY<|.lit 9000 1<|.kh<|.jY<|.jY<|.jX<|.jX<|.cc (azw c.2.2.2.1 d.2.1) λaa=>.cc (azs z aa) λab=>.jY<|.lit 9000 2<|.kh<|.jY<|.jY<|.jY<|.jY<|.cc (azw c.2.2.2.2 d.2.2) λac=>.cc (azs ab ac) λad=>.jY<|.lit 9000 3<|.ki<|.lit 10000 3<|.ki<|.kj (j,w,ad)
def Czq (c)(d):=
 mkD Tryz.func323 (tzc c d) 0 [.pure (bzp c),.pure (az3 d)] [] (λr=>.pure (az3 r)) XL
def zzv (c:B4)(d:B4):T B4:=
 .unroll 4<|.kh<|.jW<|.jW<|.cc (azs c.1 d.1) λe=>.jW<|.lit 6000 1<|.kh<|.jX<|.jX<|.cc (azs c.2.1 d.2.1) λf=>.jX<|.lit 6000 2<|.kh<|.jY<|.jY<|.cc (azs c.2.2 d.2.2) λg=>.jY<|.lit 6000 3<|.ki<|.kj (e,f,g)
def Izg (c)(d):=
 mkD Tryz.func322 (zzv c d) 0 [.pure (az3 c),.pure (az3 d)] [] (λr=>.pure (az3 r)) XL
def jz4 (c:B4)(d:Int)(e:Int)(f:Int)(g:Int)(h:Int)(i:Int)(j:Int)(k:Int)(m:Int)(n:Int)(s:Int)(t:Int)(w:Int)(y:Int)(z:Int)(aa:Int)(ab:Int)(ac:Int)(ad:Int)(ae:Int)(af:Int)(ag:Int)(ah:Int)(ai:Int):T (B4×Int×Int×Int×Int×Int×Int×Int×Int×Int×Int×Int×Int×Int×Int×Int×Int×Int×Int×Int×Int×Int×Int×Int×Int):=
 .cc (Czq (((⟨d,e⟩:az0),(⟨f,g⟩:az0),(⟨h,i⟩:az0)),((⟨j,k⟩:az0),(⟨m,n⟩:az0),(⟨s,t⟩:az0)),((⟨w,y⟩:az0),(⟨z,aa⟩:az0),(⟨ab,ac⟩:az0))) ((⟨c.1.Lo,c.1.Hi⟩:az0),(⟨c.2.1.Lo,c.2.1.Hi⟩:az0),(⟨c.2.2.Lo,c.2.2.Hi⟩:az0))) λaj=>.cc (Izg ((⟨ad,ae⟩:az0),(⟨af,ag⟩:az0),(⟨ah,ai⟩:az0)) aj) λak=>.kj (ak,d,e,f,g,h,i,j,k,m,n,s,t,w,y,z,aa,ab,ac,ad,ae,af,ag,ah,ai)
def nzc (c)(d)(e)(f)(g)(h)(i)(j)(k)(m)(n)(s)(t)(w)(y)(z)(aa)(ab)(ac)(ad)(ae)(af)(ag)(ah)(ai):=
 mkD Tryz.func321 (jz4 c d e f g h i j k m n s t w y z aa ab ac ad ae af ag ah ai) 1 [.pure (az3 c),XM 0] [(0,.box [pz d,pz e,pz f,pz g,pz h,pz i,pz j,pz k,pz m,pz n,pz s,pz t,pz w,pz y,pz z,pz aa,pz ab,pz ac,pz ad,pz ae,pz af,pz ag,pz ah,pz ai])] (λr=>.pure (az3 r.1)) (λr=>[(0,.box [pz r.2.1,pz r.2.2.1,pz r.2.2.2.1,pz r.2.2.2.2.1,pz r.2.2.2.2.2.1,pz r.2.2.2.2.2.2.1,pz r.2.2.2.2.2.2.2.1,pz r.2.2.2.2.2.2.2.2.1,pz r.2.2.2.2.2.2.2.2.2.1,pz r.2.2.2.2.2.2.2.2.2.2.1,pz r.2.2.2.2.2.2.2.2.2.2.2.1,pz r.2.2.2.2.2.2.2.2.2.2.2.2.1,pz r.2.2.2.2.2.2.2.2.2.2.2.2.2.1,pz r.2.2.2.2.2.2.2.2.2.2.2.2.2.2.1,pz r.2.2.2.2.2.2.2.2.2.2.2.2.2.2.2.1,pz r.2.2.2.2.2.2.2.2.2.2.2.2.2.2.2.2.1,pz r.2.2.2.2.2.2.2.2.2.2.2.2.2.2.2.2.2.1,pz r.2.2.2.2.2.2.2.2.2.2.2.2.2.2.2.2.2.2.1,pz r.2.2.2.2.2.2.2.2.2.2.2.2.2.2.2.2.2.2.2.1,pz r.2.2.2.2.2.2.2.2.2.2.2.2.2.2.2.2.2.2.2.2.1,pz r.2.2.2.2.2.2.2.2.2.2.2.2.2.2.2.2.2.2.2.2.2.1,pz r.2.2.2.2.2.2.2.2.2.2.2.2.2.2.2.2.2.2.2.2.2.2.1,pz r.2.2.2.2.2.2.2.2.2.2.2.2.2.2.2.2.2.2.2.2.2.2.2.1,pz r.2.2.2.2.2.2.2.2.2.2.2.2.2.2.2.2.2.2.2.2.2.2.2.2])])
def tzk (c:bz2)(d:bz2):T bz2:=
 .cc (sz0 c) λe=>.cc (yz9 c.R d.R) λf=>.call (nzc d.T e.1 e.2.1 e.2.2.1 e.2.2.2.1 e.2.2.2.2.1 e.2.2.2.2.2.1 e.2.2.2.2.2.2.1 e.2.2.2.2.2.2.2.1 e.2.2.2.2.2.2.2.2.1 e.2.2.2.2.2.2.2.2.2.1 e.2.2.2.2.2.2.2.2.2.2.1 e.2.2.2.2.2.2.2.2.2.2.2.1 e.2.2.2.2.2.2.2.2.2.2.2.2.1 e.2.2.2.2.2.2.2.2.2.2.2.2.2.1 e.2.2.2.2.2.2.2.2.2.2.2.2.2.2.1 e.2.2.2.2.2.2.2.2.2.2.2.2.2.2.2.1 e.2.2.2.2.2.2.2.2.2.2.2.2.2.2.2.2.1 e.2.2.2.2.2.2.2.2.2.2.2.2.2.2.2.2.2.1 e.2.2.2.2.2.2.2.2.2.2.2.2.2.2.2.2.2.2.1 e.2.2.2.2.2.2.2.2.2.2.2.2.2.2.2.2.2.2.2.1 e.2.2.2.2.2.2.2.2.2.2.2.2.2.2.2.2.2.2.2.2.1 e.2.2.2.2.2.2.2.2.2.2.2.2.2.2.2.2.2.2.2.2.2.1 e.2.2.2.2.2.2.2.2.2.2.2.2.2.2.2.2.2.2.2.2.2.2.1 e.2.2.2.2.2.2.2.2.2.2.2.2.2.2.2.2.2.2.2.2.2.2.2) [(0,256)] λg=>.kj (⟨(f.1,f.2.1,f.2.2),g.1⟩:bz2)
def jz3 (c)(d):=
 mkD Tryz.func283 (tzk c d) 0 [.pure (bzz c),.pure (bzz d)] [] (λr=>.pure (bzz r)) XL
def yzz (c:Int)(d:az0):T bz2:=
 .cut 2 (λ(e:Bf)=>⟨[(4,XM 0),(5,XM 1)],[(0,.box [pz 0,pz 0,pz 0,pz 0,pz 0,pz 0,pz 0,pz 0,pz 0,pz 0,pz 0,pz 0,pz 0,pz 0,pz 0,pz 0,pz 0,pz 0,pz 0,pz 0,pz 0,pz 0,pz 0,pz 0]),(1,.box [pz e.1,pz e.2.1,pz e.2.2.1,pz e.2.2.2.1,pz e.2.2.2.2.1,pz e.2.2.2.2.2])],[],2⟩) (.cas 2000 c 0 (.jW<|.oo (d.Lo,d.Hi,0,0,0,0)) (.cas 2000 c 1 (.jX<|.oo (0,0,d.Lo,d.Hi,0,0)) (.cas 2000 c 2 (.jY<|.oo (0,0,0,0,d.Lo,d.Hi)) (.stop)))) λe=>.cc (rzz ((⟨e.1,e.2.1⟩:az0),(⟨e.2.2.1,e.2.2.2.1⟩:az0),(⟨e.2.2.2.2.1,e.2.2.2.2.2⟩:az0))) λf=>.kj f
def Iz6 (c)(d):=
 mkD Tryz.func319 (yzz c d) 0 [pz c,.pure (azb d)] [] (λr=>.pure (bzz r)) XL
def ozf (c:az0):T Int:=
 .cc (czj c) λd=>.br (!d) (.kj 0) (.kj (qv.wrap (c.Hi-c.Lo)))
def oze (c):=
 mkD Tryz.func363 (ozf c) 0 [.pure (azb c)] [] pz XL
def pzv (c:Int):T Int:=
 .kj (qv.wrap (((BitVec.ofInt 64 c&&&BitVec.ofInt 64 65535).toNat:Int)))
def kz6 (c):=
 mkD Tryz.func366 (pzv c) 0 [pz c] [] pz XL
def oz5 (c:Int):T (Bi×Bi):=
 .ix 0 11 rfl<|.ix 0 11 rfl<|.cc (bze (qv.wrap (c * 6746518852)) 16) λd=>.jZ<|.cc (bzm (qv.wrap (c * 6746518853)) 16) λe=>.jZ<|.unroll 10<|.kh<|.lit 8002 1<|.jZ<|.jZ<|.cc (bze (qv.wrap (d * d)) 30) λf=>.j8<|.lit 9002 1<|.jZ<|.jZ<|.cc (bzm (qv.wrap (e * e)) 30) λg=>.j8<|.lit 7001 3<|.kh<|.lit 8002 2<|.j8<|.jZ<|.cc (bze (qv.wrap (f * d)) 30) λh=>.j9<|.lit 9002 2<|.j8<|.jZ<|.cc (bzm (qv.wrap (g * e)) 30) λi=>.j9<|.lit 7001 4<|.kh<|.lit 8002 3<|.j9<|.jZ<|.cc (bze (qv.wrap (h * d)) 30) λj=>.ka<|.lit 9002 3<|.j9<|.jZ<|.cc (bzm (qv.wrap (i * e)) 30) λk=>.ka<|.lit 7001 5<|.kh<|.lit 8002 4<|.ka<|.jZ<|.cc (bze (qv.wrap (j * d)) 30) λm=>.kc<|.lit 9002 4<|.ka<|.jZ<|.cc (bzm (qv.wrap (k * e)) 30) λn=>.kc<|.lit 7001 6<|.kh<|.lit 8002 5<|.kc<|.jZ<|.cc (bze (qv.wrap (m * d)) 30) λs=>.kd<|.lit 9002 5<|.kc<|.jZ<|.cc (bzm (qv.wrap (n * e)) 30) λt=>.kd<|.lit 7001 7<|.kh<|.lit 8002 6<|.kd<|.jZ<|.cc (bze (qv.wrap (s * d)) 30) λw=>.ke<|.lit 9002 6<|.kd<|.jZ<|.cc (bzm (qv.wrap (t * e)) 30) λy=>.ke<|.lit 7001 8<|.kh<|.lit 8002 7<|.ke<|.jZ<|.cc (bze (qv.wrap (w * d)) 30) λz=>.kg<|.lit 9002 7<|.ke<|.jZ<|.cc (bzm (qv.wrap (y * e)) 30) λaa=>.kg<|.lit 7001 9<|.kh<|.lit 8002 8<|.kg<|.jZ<|.cc (bze (qv.wrap (z * d)) 30) λab=>.ix 9 11 rfl<|.lit 9002 8<|.kg<|.jZ<|.cc (bzm (qv.wrap (aa * e)) 30) λac=>.ix 9 11 rfl<|.lit 7001 10<|.kh<|.lit 8002 9<|.ix 9 11 rfl<|.jZ<|.cc (bze (qv.wrap (ab * d)) 30) λad=>.ix 10 11 rfl<|.lit 9002 9<|.ix 9 11 rfl<|.jZ<|.cc (bzm (qv.wrap (ac * e)) 30) λae=>.ix 10 11 rfl<|.lit 7001 11<|.ki<|.kj ((1073741824,d,f,h,j,m,s,w,z,ab,ad),(1073741824,e,g,i,k,n,t,y,aa,ac,ae))
def oz4 (c):=
 mkD Tryz.func371 (oz5 c) 0 [pz c] [] (λr=>.tup [.pure (jzg r.1),.pure (jzg r.2)]) XL
def pzu (c:Int)(d:Int):T Int:=
 .grd (d≠0)<|.kj (qv.wrap ((qv.wrap ((qv.wrap (c+d))-1)).tdiv d))
def dzc (c)(d):=
 mkD Tryz.func373 (pzu c d) 0 [pz c,pz d] [] pz XL
def jzo (c:A1):T Int:=let d:=(c.length:Int);.loop (λ(e:Ax)=>⟨[(3,pz e.1),(4,pz e.2.1),(7,XK 1 az2 c),(8,pz d),(9,pz e.2.2)],[],[],0⟩) (.exit 0) (λ(e:Int)=>⟨[(3,pz e)],[],[],0⟩) (λe=>.br (qx (e.2.2<d)) (.gh e.2.2 c.length<|.nn ((qv.wrap (e.1+(qv.wrap (e.2.1 * (c.getD (XI e.2.2) qw))))),(qv.wrap (0-e.2.1)),(qv.wrap (e.2.2+1)))) (.oo e.1)) (0,1,0) [] λe=>.kj e
def czy (c):=
 mkD Tryz.func372 (jzo c) 0 [XK 1 az2 c] [] pz XL
def mz0 (c:Int)(d:Int):T az0:=
 .cc (bze c 14) λe=>.cc (bzm d 14) λf=>.kj (⟨(max 0 e),(min 65536 f)⟩:az0)
def lzz (c)(d):=
 mkD Tryz.func374 (mz0 c d) 0 [pz c,pz d] [] (λr=>.pure (azb r)) XL
def yzy (c:Int):T az0:=
 .cc (oz4 c) λd=>.jZ<|.j9<|.cc (dzc d.2.2.2.2.1 6) λe=>.kc<|.ok ((120:Int)≠0) (by decide)<|.ke<|.cc (dzc d.2.2.2.2.2.2.2.2.1 5040) λf=>let g:=([d.1.2.1,e,(qv.wrap (d.1.2.2.2.2.2.1.tdiv 120)),f]:A1);
 .conv 2011 (bzx 1 az2 g 2)<|.cc (czy g) λh=>.jZ<|.j9<|.ok ((6:Int)≠0) (by decide)<|.kc<|.cc (dzc d.2.2.2.2.2.2.1 120) λi=>.ke<|.ok ((5040:Int)≠0) (by decide)<|.ix 9 11 rfl<|.cc (dzc d.2.2.2.2.2.2.2.2.2.2.1 362880) λj=>let k:=([d.2.2.1,(qv.wrap (d.1.2.2.2.1.tdiv 6)),i,(qv.wrap (d.1.2.2.2.2.2.2.2.1.tdiv 5040)),j]:A1);
 .conv 3014 (bzx 1 az2 k 2)<|.cc (czy k) λm=>.cc (lzz h m) λn=>.kj n
def Iz5 (c):=
 mkD Tryz.func369 (yzy c) 0 [pz c] [] (λr=>.pure (azb r)) XL
def szn (c:Int):T az0:=
 .cc (oz4 c) λd=>.j8<|.cc (dzc d.2.2.2.1 2) λe=>.ka<|.ok ((24:Int)≠0) (by decide)<|.kd<|.cc (dzc d.2.2.2.2.2.2.2.1 720) λf=>.kg<|.ok ((40320:Int)≠0) (by decide)<|.ix 10 11 rfl<|.cc (dzc d.2.2.2.2.2.2.2.2.2.2.2 3628800) λg=>let h:=([1073741824,e,(qv.wrap (d.1.2.2.2.2.1.tdiv 24)),f,(qv.wrap (d.1.2.2.2.2.2.2.2.2.1.tdiv 40320)),g]:A1);
 .conv 2015 (bzx 1 az2 h 2)<|.cc (czy h) λi=>.j8<|.ok ((2:Int)≠0) (by decide)<|.ka<|.cc (dzc d.2.2.2.2.2.1 24) λj=>.kd<|.ok ((720:Int)≠0) (by decide)<|.kg<|.cc (dzc d.2.2.2.2.2.2.2.2.2.1 40320) λk=>let m:=([1073741824,(qv.wrap (d.1.2.2.1.tdiv 2)),j,(qv.wrap (d.1.2.2.2.2.2.2.1.tdiv 720)),k]:A1);
 .conv 3012 (bzx 1 az2 m 2)<|.cc (czy m) λn=>.cc (lzz i n) λs=>.kj s
def Czb (c):=
 mkD Tryz.func370 (szn c) 0 [pz c] [] (λr=>.pure (azb r)) XL
def vzt (c:Int):T az0:=
 .br (qx (c<=8192)) (.cc (Iz5 c) λd=>.kj d) (.cc (Czb (qv.wrap (16384-c))) λd=>.kj d)
def kz4 (c):=
 mkD Tryz.func367 (vzt c) 0 [pz c] [] (λr=>.pure (azb r)) XL
def tz9 (c:az0):T az0:=
 .cc (czj c) λd=>.br (!d) (.kj (⟨0,0⟩:az0)) (.kj (⟨(qv.wrap (0-c.Hi)),(qv.wrap (0-c.Lo))⟩:az0))
def nz6 (c):=
 mkD Tryz.func355 (tz9 c) 0 [.pure (azb c)] [] (λr=>.pure (azb r)) XL
def Dzi (c:Int):T az0:=
 .cc (kz6 c) λd=>let e:=d.tmod 16384;let f:=qv.wrap (d.tdiv 16384);let g:=qv.wrap (16384-e);
 .ok ((16384:Int)≠0) (by decide)<|.ok ((16384:Int)≠0) (by decide)<|.br (f==0) (.cc (kz4 e) λh=>.kj h) (.br (f==1) (.cc (kz4 g) λh=>.kj h) (.br (f==2) (.cc (kz4 e) λh=>.cc (nz6 h) λi=>.kj i) (.cc (kz4 g) λh=>.cc (nz6 h) λi=>.kj i)))
def vzs (c):=
 mkD Tryz.func360 (Dzi c) 0 [pz c] [] (λr=>.pure (azb r)) XL
def Dzh (c:Int):T az0:=
 .cc (kz6 c) λd=>.cc (vzs (qv.wrap (d+16384))) λe=>.kj e
def Dzg (c):=
 mkD Tryz.func359 (Dzh c) 0 [pz c] [] (λr=>.pure (azb r)) XL
def qza (c:az0)(d:az0):T az0:=
 .cc (jzh c d) λe=>.br (!e) (.kj (⟨0,0⟩:az0)) (.kj (⟨(min c.Lo d.Lo),(max c.Hi d.Hi)⟩:az0))
def fza (c)(d):=
 mkD Tryz.func364 (qza c d) 0 [.pure (azb c),.pure (azb d)] [] (λr=>.pure (azb r)) XL
def tz6 (c:az0)(d:Int):T Bool:=
 .cc (czj c) λe=>.br e (.br (qx (c.Lo<=d)) (.kj (qx (d<=c.Hi))) (.kj false)) (.kj false)
def Czh (c)(d):=
 mkD Tryz.func368 (tz6 c d) 0 [.pure (azb c),pz d] [] XJ XL
def vzu (c:az0)(d:Int):T Bool:=
 .cc (kz6 (qv.wrap (d-c.Lo))) λe=>.cc (Czh c (qv.wrap (c.Lo+e))) λf=>.kj f
def kz5 (c)(d):=
 mkD Tryz.func365 (vzu c d) 0 [.pure (azb c),pz d] [] XJ XL
def yzx (c:az0)(d:Int)(e:Int):T az0:=
 .cc (czj c) λf=>.br (!f) (.kj (⟨0,0⟩:az0)) (.cc (oze c) λg=>.br (qx (g>=65536)) (.kj (⟨(-65536),65536⟩:az0)) (.cc (Dzg c.Lo) λh=>.cc (Dzg c.Hi) λi=>.cc (fza h i) λj=>.cut 0 (λ(k:Ar)=>⟨[(3,pz e),(4,XM 0),(8,XM 1),(9,XM 2)],[(0,.box [pz c.Lo,pz c.Hi]),(1,.box [pz 0,pz 0]),(2,.box [pz k.1,pz k.2])],[],3⟩) (.cc (kz5 c d) λk=>.br k (.cc (dz3 65536) λm=>.cc (fza j m) λn=>.oo (n.Lo,n.Hi)) (.oo (j.Lo,j.Hi))) λk=>.cut 0 (λ(m:Ar)=>⟨[(8,XM 0),(9,XM 1)],[(0,.box [pz 0,pz 0]),(1,.box [pz m.1,pz m.2])],[],2⟩) (.cc (kz5 c e) λm=>.br m (.cc (dz3 (-65536)) λn=>.cc (fza (⟨k.1,k.2⟩:az0) n) λs=>.oo (s.Lo,s.Hi)) (.oo (k.1,k.2))) λm=>.kj (⟨m.1,m.2⟩:az0)))
def Iz4 (c)(d)(e):=
 mkD Tryz.func358 (yzx c d e) 0 [.pure (azb c),.func 359 [] [],pz d,pz e] [] (λr=>.pure (azb r)) XL
def pzs (c:az0):T az0:=
 .cc (Iz4 c 0 32768) λd=>.kj d
def yzv (c):=
 mkD Tryz.func353 (pzs c) 0 [.pure (azb c)] [] (λr=>.pure (azb r)) XL
def szo (c:az0)(d:Int)(e:Int):T az0:=
 .cc (czj c) λf=>.br (!f) (.kj (⟨0,0⟩:az0)) (.cc (oze c) λg=>.br (qx (g>=65536)) (.kj (⟨(-65536),65536⟩:az0)) (.cc (vzs c.Lo) λh=>.cc (vzs c.Hi) λi=>.cc (fza h i) λj=>.cut 0 (λ(k:Ar)=>⟨[(3,pz e),(4,XM 0),(8,XM 1),(9,XM 2)],[(0,.box [pz c.Lo,pz c.Hi]),(1,.box [pz 0,pz 0]),(2,.box [pz k.1,pz k.2])],[],3⟩) (.cc (kz5 c d) λk=>.br k (.cc (dz3 65536) λm=>.cc (fza j m) λn=>.oo (n.Lo,n.Hi)) (.oo (j.Lo,j.Hi))) λk=>.cut 0 (λ(m:Ar)=>⟨[(8,XM 0),(9,XM 1)],[(0,.box [pz 0,pz 0]),(1,.box [pz m.1,pz m.2])],[],2⟩) (.cc (kz5 c e) λm=>.br m (.cc (dz3 (-65536)) λn=>.cc (fza (⟨k.1,k.2⟩:az0) n) λs=>.oo (s.Lo,s.Hi)) (.oo (k.1,k.2))) λm=>.kj (⟨m.1,m.2⟩:az0)))
def Czc (c)(d)(e):=
 mkD Tryz.func358 (szo c d e) 0 [.pure (azb c),.func 360 [] [],pz d,pz e] [] (λr=>.pure (azb r)) XL
def pzt (c:az0):T az0:=
 .cc (Czc c 16384 49152) λd=>.kj d
def yzw (c):=
 mkD Tryz.func354 (pzt c) 0 [.pure (azb c)] [] (λr=>.pure (azb r)) XL
def wzl (c:Int)(d:az0):T B7:=let e:=(⟨d.Lo,d.Hi⟩:az0);.cc (czj d) λf=>.br (!f) (.kj (((⟨0,0⟩:az0),(⟨0,0⟩:az0),(⟨0,0⟩:az0)),((⟨0,0⟩:az0),(⟨0,0⟩:az0),(⟨0,0⟩:az0)),((⟨0,0⟩:az0),(⟨0,0⟩:az0),(⟨0,0⟩:az0)))) (.cc (yzv e) λg=>.cc (yzw e) λh=>.cc (nz6 h) λi=>.cc (dz3 65536) λj=>.cc (dz3 0) λk=>.br (c==0) (.kj ((j,k,k),(k,g,i),(k,h,g))) (.br (c==1) (.kj ((g,k,h),(k,j,k),(i,k,g))) (.br (c==2) (.kj ((g,i,k),(h,g,k),(k,k,j))) (.kj (((⟨0,0⟩:az0),(⟨0,0⟩:az0),(⟨0,0⟩:az0)),((⟨0,0⟩:az0),(⟨0,0⟩:az0),(⟨0,0⟩:az0)),((⟨0,0⟩:az0),(⟨0,0⟩:az0),(⟨0,0⟩:az0)))))))
def Fz3 (c)(d):=
 mkD Tryz.func348 (wzl c d) 0 [pz c,.pure (azb d)] [] (λr=>.pure (bzp r)) XL
def Dzu (c:Int)(d:az0):T bz2:=
 .cc (Fz3 c (⟨d.Lo,d.Hi⟩:az0)) λe=>.cc (pose_still_C) λf=>.kj (⟨e,f⟩:bz2)
def Lzu (c)(d):=
 mkD Tryz.func336 (Dzu c d) 0 [pz c,.pure (azb d)] [] (λr=>.pure (bzz r)) XL
def Dzk (c:Int)(d:az0):T bz2:=
 .cc (Lzu c (⟨d.Lo,d.Hi⟩:az0)) λe=>.kj e
def Kzh (c)(d):=
 mkD Tryz.func318 (Dzk c d) 0 [pz c,.pure (azb d)] [] (λr=>.pure (bzz r)) XL
def kzk (c:azz)(d:az0):T bz2:=
 .cc (nz8 c.Xw) λe=>.cc (rzz ((⟨e.1.Lo,e.1.Hi⟩:az0),(⟨e.2.1.Lo,e.2.1.Hi⟩:az0),(⟨e.2.2.Lo,e.2.2.Hi⟩:az0))) λf=>let g:=(⟨f.R,f.T⟩:bz2);
 .split (((gz8 c.Xm).o).isSome) (.cc (gz8 c.Xm) λh=>.cc (Kzh h (⟨d.Lo,d.Hi⟩:az0)) λi=>.cc (jz3 g i) λj=>.kj j) (.split (((gza c.Xm).o).isSome) (.cc (gza c.Xm) λh=>.cc (Iz6 h d) λi=>.cc (jz3 f i) λj=>.kj j) (.cc (jzz c.Xm) λh=>.cc (Kzg h d) λi=>.cc (jz3 g (⟨i.R,i.T⟩:bz2)) λj=>.kj j))
def rzp (c)(d):=
 mkD Tryz.func282 (kzk c d) 0 [.pure (azc c),.pure (azb d)] [] (λr=>.pure (bzz r)) XL
def kzm (c:azo)(d:Af):T Ag:=let e:=encL 2 azb d;let f:=encL 12 azc c.Xb;let g:=(c.Xb.length:Int);.conv 1003 (Kzr 24 bzz 315 g.toNat (⟨(((⟨0,0⟩:az0),(⟨0,0⟩:az0),(⟨0,0⟩:az0)),((⟨0,0⟩:az0),(⟨0,0⟩:az0),(⟨0,0⟩:az0)),((⟨0,0⟩:az0),(⟨0,0⟩:az0),(⟨0,0⟩:az0))),((⟨0,0⟩:az0),(⟨0,0⟩:az0),(⟨0,0⟩:az0))⟩:bz2))<|.grd (0<=g/\g<=g/\g<=9223372036854775807/\g * 192<=140737488355328)<|.loop (λ(h:(Ag×Int))=>⟨[(1,.pure e),(5,.vec 0),(13,.pure f),(14,pz g),(15,pz h.2)],[(0,vecO 24 bzz h.1 315)],[],1⟩) (.exit 0) (λ(h:Ag)=>⟨[(5,.vec 0)],[(0,vecO 24 bzz h 315)],[],1⟩) (λh=>let i:=(h.2).toNat;let j:=c.Xb.getD i qw;let k:=j.Xt;.br (qx (h.2<g)) (.cut 0 (λ(m:Ag)=>⟨[(1,.pure e),(5,.vec 0),(13,.pure f),(14,pz g),(15,pz h.2)],[(0,vecO 24 bzz m 315)],[],1⟩) (.gh h.2 c.Xb.length<|.gh h.2 d.length<|.cc (rzp j (d.getD i qw)) λm=>let n:=h.1.set i m;let s:=n.length;
 .gh h.2 h.1.length<|.conv 5009 (fzr 24 bzz h.1 315 i m)<|.gi (h.2) h.1.length<|.br (k !=(-1)) (.gg k s<|.gg h.2 s<|.call (jz3 (n.getD (k.toNat) qw) (n.getD i qw)) [] λt=>.gh h.2 s<|.conv 7013 (fzr 24 bzz n 315 i t)<|.gi (h.2) s<|.oo (n.set i t)) (.oo n)) λm=>.nn (m,(qv.wrap (h.2+1)))) (.oo h.1)) ((qu g.toNat ((⟨(((⟨0,0⟩:az0),(⟨0,0⟩:az0),(⟨0,0⟩:az0)),((⟨0,0⟩:az0),(⟨0,0⟩:az0),(⟨0,0⟩:az0)),((⟨0,0⟩:az0),(⟨0,0⟩:az0),(⟨0,0⟩:az0))),((⟨0,0⟩:az0),(⟨0,0⟩:az0),(⟨0,0⟩:az0))⟩:bz2):bz2)),0) [] λh=>.kj h
def rzr (c)(d):=
 mkD Tryz.func244 (kzm c d) 0 [.pure (czq c),XK 2 azb d] [] (λr=>XK 24 bzz r) XL
def xzr (c:bz7):T Bool:=let d:=encL 3 az1 c.Xc;let e:=(c.Xc.length:Int);.cut 2 (λ(f:Bool)=>⟨[(1,XM 0),(26,XJ f)],[(0,.box [pz c.Xp,pz c.Xs,.pure d])],[],1⟩) (.br (qx (c.Xs<1)) (.oo true) (.br (qx (c.Xs>1048576)) (.oo true) (.br (qx (e<1)) (.oo true) (.oo (qx (e>8)))))) λf=>.br f (.kj false) (.loop (λ(g:Int)=>⟨[(28,.pure d),(29,pz e),(30,pz g)],[],[],0⟩) (.exit 0) XN (λg=>let h:=c.Xc.getD (g.toNat) qw;.br (qx (g<e)) (.gh g c.Xc.length<|.loop (λ(i:Int)=>⟨[(28,.pure d),(29,pz e),(30,pz g),(34,.pure (az1 h)),(35,pz i)],[],[],0⟩) (.exit 2) (λ(_:U0)=>⟨[(28,.pure d),(29,pz e),(30,pz g)],[],[],0⟩) (λi=>.br (qx (i<3)) (.gh i 3<|.name 8000 ((([h.1,h.2.1,h.2.2]:List Int).getD i.toNat 0)) λj=>.cut 0 (λ(k:Bool)=>⟨[(28,.pure d),(29,pz e),(30,pz g),(34,.pure (az1 h)),(35,pz i),(43,XJ k)],[],[],0⟩) (.br (qx (j<(-4194304))) (.oo true) (.oo (qx (j>4194304)))) λk=>.br k (.ff (.fin false)) (.nn (qv.wrap (i+1)))) (.oo .u))
 0 [] λ_=>.nn (qv.wrap (g+1))) (.oo .u))
 0 [] λ_=>.kj true)
def Gz8 (c):=
 mkD Tryz.func286 (xzr c) 0 [.pure (azk c)] [] XJ XL
def Az2 (c:bz2)(d:B4):T B4:=
 .cc (sz0 c) λe=>.call (nzc d e.1 e.2.1 e.2.2.1 e.2.2.2.1 e.2.2.2.2.1 e.2.2.2.2.2.1 e.2.2.2.2.2.2.1 e.2.2.2.2.2.2.2.1 e.2.2.2.2.2.2.2.2.1 e.2.2.2.2.2.2.2.2.2.1 e.2.2.2.2.2.2.2.2.2.2.1 e.2.2.2.2.2.2.2.2.2.2.2.1 e.2.2.2.2.2.2.2.2.2.2.2.2.1 e.2.2.2.2.2.2.2.2.2.2.2.2.2.1 e.2.2.2.2.2.2.2.2.2.2.2.2.2.2.1 e.2.2.2.2.2.2.2.2.2.2.2.2.2.2.2.1 e.2.2.2.2.2.2.2.2.2.2.2.2.2.2.2.2.1 e.2.2.2.2.2.2.2.2.2.2.2.2.2.2.2.2.2.1 e.2.2.2.2.2.2.2.2.2.2.2.2.2.2.2.2.2.2.1 e.2.2.2.2.2.2.2.2.2.2.2.2.2.2.2.2.2.2.2.1 e.2.2.2.2.2.2.2.2.2.2.2.2.2.2.2.2.2.2.2.2.1 e.2.2.2.2.2.2.2.2.2.2.2.2.2.2.2.2.2.2.2.2.2.1 e.2.2.2.2.2.2.2.2.2.2.2.2.2.2.2.2.2.2.2.2.2.2.1 e.2.2.2.2.2.2.2.2.2.2.2.2.2.2.2.2.2.2.2.2.2.2.2) [(0,256)] λf=>.kj f.1
def Izp (c)(d):=
 mkD Tryz.func287 (Az2 c d) 0 [.pure (bzz c),.pure (az3 d)] [] (λr=>.pure (az3 r)) XL
open Go.Proofs
def xzs (c:bz7)(d:bz2):T B5:=let e:=(c.Xc.length:Int);.cc (Gz8 c) λf=>.br (!f) (.kj nl) (.conv 3003 (Kzr 6 az3 285 e.toNat ((⟨0,0⟩:az0),(⟨0,0⟩:az0),(⟨0,0⟩:az0)))<|.grd (0<=e/\e<=e/\e<=9223372036854775807/\e * 48<=140737488355328)<|.loop (λ(g:(B5×Int))=>⟨[(3,XM 0),(5,.vec 1),(16,XK 3 az1 c.Xc),(17,pz e),(18,pz g.2)],[(0,.box [pz d.R.1.1.Lo,pz d.R.1.1.Hi,pz d.R.1.2.1.Lo,pz d.R.1.2.1.Hi,pz d.R.1.2.2.Lo,pz d.R.1.2.2.Hi,pz d.R.2.1.1.Lo,pz d.R.2.1.1.Hi,pz d.R.2.1.2.1.Lo,pz d.R.2.1.2.1.Hi,pz d.R.2.1.2.2.Lo,pz d.R.2.1.2.2.Hi,pz d.R.2.2.1.Lo,pz d.R.2.2.1.Hi,pz d.R.2.2.2.1.Lo,pz d.R.2.2.2.1.Hi,pz d.R.2.2.2.2.Lo,pz d.R.2.2.2.2.Hi,pz d.T.1.Lo,pz d.T.1.Hi,pz d.T.2.1.Lo,pz d.T.2.1.Hi,pz d.T.2.2.Lo,pz d.T.2.2.Hi]),(1,vecO 6 az3 g.1 285)],[],2⟩) (.exit 0) (λ(g:B5)=>⟨[(5,.vec 0)],[(0,vecO 6 az3 g 285)],[],1⟩) (λg=>let h:=(g.2).toNat;.br (qx (g.2<e)) (.gh g.2 c.Xc.length<|.cc (nz8 (c.Xc.getD h qw)) λi=>.cc (Izp (⟨d.R,d.T⟩:bz2) i) λj=>.gh g.2 g.1.length<|.conv 7007 (fzr 6 az3 g.1 285 h j)<|.gi (g.2) g.1.length<|.nn ((g.1.set h j),(qv.wrap (g.2+1)))) (.oo g.1)) ((qu e.toNat (((⟨0,0⟩:az0),(⟨0,0⟩:az0),(⟨0,0⟩:az0)):B4)),0) [] λg=>.kj g)
def Gz9 (c)(d):=
 mkD Tryz.func246 (xzs c d) 0 [.pure (azk c),.pure (bzz d)] [] (λr=>XK 6 az3 r) XL
def jzq (a0:azd)(a1:Af):T B6:=
 .cut 2 (λ(y12:Bool)=>⟨[(1,XK 2 azb a1),(2,XM 0),(19,XJ y12)],[(0,.box [XK 12 azc a0.Xf.Xb,XK 5 azf a0.Xf.Xh,XK 3 azk a0.Xd,XK 2 azu a0.Xj])],[],1⟩) (.call (rzq a0.Xf a1) [] λy13=>.br (!y13) (.kj (.out true)) (.call (ezz (⟨a0.Xf,a0.Xd,a0.Xj⟩:azd)) [] λy14=>.kj (.out (y14 !=0)))) λy12=>.br y12 (.kj nl) (.call (rzr a0.Xf a1) [] λy16=>.conv 4003 (azca 1 (encL 6 az3) 223 ((a0.Xd.length:Int)).toNat nl (.lst 0 0 λ_=>.unk) (by kernel_rfl))<|.grd (0<=(a0.Xd.length:Int)/\(a0.Xd.length:Int)<=(a0.Xd.length:Int)/\(a0.Xd.length:Int)<=9223372036854775807/\(a0.Xd.length:Int) * 24<=140737488355328)<|.loop (λ(x53:(B6×Int))=>⟨[(5,XK 24 bzz y16),(6,.vec 0),(29,XK 3 azk a0.Xd),(30,pz (a0.Xd.length:Int)),(31,pz x53.2)],[(0,vecO 1 (encL 6 az3) x53.1 223)],[],1⟩) (.exit 0) (λ(y62:B6)=>⟨[(6,.vec 0)],[(0,vecO 1 (encL 6 az3) y62 223)],[],1⟩) (λx53=>.br (qx (x53.2<(a0.Xd.length:Int))) (.grd (0<=x53.2/\x53.2<(a0.Xd.length:Int))<|.call (pose_Identity_C) [] λy68=>.cut 0 (λ(y69:Bk)=>⟨[(5,XK 24 bzz y16),(6,.vec 0),(7,pz x53.2),(8,XM 1),(9,XM 2),(29,XK 3 azk a0.Xd),(30,pz (a0.Xd.length:Int)),(31,pz x53.2)],[(0,vecO 1 (encL 6 az3) x53.1 223),(1,.box [pz ((a0.Xd.getD (XI x53.2) qw).Xp),pz ((a0.Xd.getD (XI x53.2) qw).Xs),XK 3 az1 ((a0.Xd.getD (XI x53.2) qw).Xc)]),(2,.box [pz y69.1,pz y69.2.1,pz y69.2.2.1,pz y69.2.2.2.1,pz y69.2.2.2.2.1,pz y69.2.2.2.2.2.1,pz y69.2.2.2.2.2.2.1,pz y69.2.2.2.2.2.2.2.1,pz y69.2.2.2.2.2.2.2.2.1,pz y69.2.2.2.2.2.2.2.2.2.1,pz y69.2.2.2.2.2.2.2.2.2.2.1,pz y69.2.2.2.2.2.2.2.2.2.2.2.1,pz y69.2.2.2.2.2.2.2.2.2.2.2.2.1,pz y69.2.2.2.2.2.2.2.2.2.2.2.2.2.1,pz y69.2.2.2.2.2.2.2.2.2.2.2.2.2.2.1,pz y69.2.2.2.2.2.2.2.2.2.2.2.2.2.2.2.1,pz y69.2.2.2.2.2.2.2.2.2.2.2.2.2.2.2.2.1,pz y69.2.2.2.2.2.2.2.2.2.2.2.2.2.2.2.2.2.1,pz y69.2.2.2.2.2.2.2.2.2.2.2.2.2.2.2.2.2.2.1,pz y69.2.2.2.2.2.2.2.2.2.2.2.2.2.2.2.2.2.2.2.1,pz y69.2.2.2.2.2.2.2.2.2.2.2.2.2.2.2.2.2.2.2.2.1,pz y69.2.2.2.2.2.2.2.2.2.2.2.2.2.2.2.2.2.2.2.2.2.1,pz y69.2.2.2.2.2.2.2.2.2.2.2.2.2.2.2.2.2.2.2.2.2.2.1,pz y69.2.2.2.2.2.2.2.2.2.2.2.2.2.2.2.2.2.2.2.2.2.2.2])],[],3⟩) (.br (((a0.Xd.getD (XI x53.2) qw).Xp) !=(-1)) (.grd (0<=((a0.Xd.getD (XI x53.2) qw).Xp)/\((a0.Xd.getD (XI x53.2) qw).Xp)<(y16.length:Int))<|.kj (.out ((y16.getD (((a0.Xd.getD (XI x53.2) qw).Xp).toNat) qw).R.1.1.Lo,(y16.getD (((a0.Xd.getD (XI x53.2) qw).Xp).toNat) qw).R.1.1.Hi,(y16.getD (((a0.Xd.getD (XI x53.2) qw).Xp).toNat) qw).R.1.2.1.Lo,(y16.getD (((a0.Xd.getD (XI x53.2) qw).Xp).toNat) qw).R.1.2.1.Hi,(y16.getD (((a0.Xd.getD (XI x53.2) qw).Xp).toNat) qw).R.1.2.2.Lo,(y16.getD (((a0.Xd.getD (XI x53.2) qw).Xp).toNat) qw).R.1.2.2.Hi,(y16.getD (((a0.Xd.getD (XI x53.2) qw).Xp).toNat) qw).R.2.1.1.Lo,(y16.getD (((a0.Xd.getD (XI x53.2) qw).Xp).toNat) qw).R.2.1.1.Hi,(y16.getD (((a0.Xd.getD (XI x53.2) qw).Xp).toNat) qw).R.2.1.2.1.Lo,(y16.getD (((a0.Xd.getD (XI x53.2) qw).Xp).toNat) qw).R.2.1.2.1.Hi,(y16.getD (((a0.Xd.getD (XI x53.2) qw).Xp).toNat) qw).R.2.1.2.2.Lo,(y16.getD (((a0.Xd.getD (XI x53.2) qw).Xp).toNat) qw).R.2.1.2.2.Hi,(y16.getD (((a0.Xd.getD (XI x53.2) qw).Xp).toNat) qw).R.2.2.1.Lo,(y16.getD (((a0.Xd.getD (XI x53.2) qw).Xp).toNat) qw).R.2.2.1.Hi,(y16.getD (((a0.Xd.getD (XI x53.2) qw).Xp).toNat) qw).R.2.2.2.1.Lo,(y16.getD (((a0.Xd.getD (XI x53.2) qw).Xp).toNat) qw).R.2.2.2.1.Hi,(y16.getD (((a0.Xd.getD (XI x53.2) qw).Xp).toNat) qw).R.2.2.2.2.Lo,(y16.getD (((a0.Xd.getD (XI x53.2) qw).Xp).toNat) qw).R.2.2.2.2.Hi,(y16.getD (((a0.Xd.getD (XI x53.2) qw).Xp).toNat) qw).T.1.Lo,(y16.getD (((a0.Xd.getD (XI x53.2) qw).Xp).toNat) qw).T.1.Hi,(y16.getD (((a0.Xd.getD (XI x53.2) qw).Xp).toNat) qw).T.2.1.Lo,(y16.getD (((a0.Xd.getD (XI x53.2) qw).Xp).toNat) qw).T.2.1.Hi,(y16.getD (((a0.Xd.getD (XI x53.2) qw).Xp).toNat) qw).T.2.2.Lo,(y16.getD (((a0.Xd.getD (XI x53.2) qw).Xp).toNat) qw).T.2.2.Hi))) (.kj (.out (y68.R.1.1.Lo,y68.R.1.1.Hi,y68.R.1.2.1.Lo,y68.R.1.2.1.Hi,y68.R.1.2.2.Lo,y68.R.1.2.2.Hi,y68.R.2.1.1.Lo,y68.R.2.1.1.Hi,y68.R.2.1.2.1.Lo,y68.R.2.1.2.1.Hi,y68.R.2.1.2.2.Lo,y68.R.2.1.2.2.Hi,y68.R.2.2.1.Lo,y68.R.2.2.1.Hi,y68.R.2.2.2.1.Lo,y68.R.2.2.2.1.Hi,y68.R.2.2.2.2.Lo,y68.R.2.2.2.2.Hi,y68.T.1.Lo,y68.T.1.Hi,y68.T.2.1.Lo,y68.T.2.1.Hi,y68.T.2.2.Lo,y68.T.2.2.Hi)))) λy69=>.call (Gz9 (a0.Xd.getD (XI x53.2) qw) (⟨(((⟨y69.1,y69.2.1⟩:az0),(⟨y69.2.2.1,y69.2.2.2.1⟩:az0),(⟨y69.2.2.2.2.1,y69.2.2.2.2.2.1⟩:az0)),((⟨y69.2.2.2.2.2.2.1,y69.2.2.2.2.2.2.2.1⟩:az0),(⟨y69.2.2.2.2.2.2.2.2.1,y69.2.2.2.2.2.2.2.2.2.1⟩:az0),(⟨y69.2.2.2.2.2.2.2.2.2.2.1,y69.2.2.2.2.2.2.2.2.2.2.2.1⟩:az0)),((⟨y69.2.2.2.2.2.2.2.2.2.2.2.2.1,y69.2.2.2.2.2.2.2.2.2.2.2.2.2.1⟩:az0),(⟨y69.2.2.2.2.2.2.2.2.2.2.2.2.2.2.1,y69.2.2.2.2.2.2.2.2.2.2.2.2.2.2.2.1⟩:az0),(⟨y69.2.2.2.2.2.2.2.2.2.2.2.2.2.2.2.2.1,y69.2.2.2.2.2.2.2.2.2.2.2.2.2.2.2.2.2.1⟩:az0))),((⟨y69.2.2.2.2.2.2.2.2.2.2.2.2.2.2.2.2.2.2.1,y69.2.2.2.2.2.2.2.2.2.2.2.2.2.2.2.2.2.2.2.1⟩:az0),(⟨y69.2.2.2.2.2.2.2.2.2.2.2.2.2.2.2.2.2.2.2.2.1,y69.2.2.2.2.2.2.2.2.2.2.2.2.2.2.2.2.2.2.2.2.2.1⟩:az0),(⟨y69.2.2.2.2.2.2.2.2.2.2.2.2.2.2.2.2.2.2.2.2.2.2.1,y69.2.2.2.2.2.2.2.2.2.2.2.2.2.2.2.2.2.2.2.2.2.2.2⟩:az0))⟩:bz2)) [] λy70=>.grd (0<=x53.2/\x53.2<(x53.1.length:Int))<|.conv 11006 (fzr 1 (encL 6 az3) x53.1 223 (XI x53.2) y70)<|.grd ((x53.2).toNat<x53.1.length/\0<=(x53.2).toNat)<|.kj (.next ((x53.1.set (XI x53.2) y70),(qv.wrap (x53.2+1))))) (.kj (.out x53.1))) ((qu ((a0.Xd.length:Int)).toNat (nl:B5)),0) [] λy62=>.kj y62)
def qzc (c)(d):=
 mkD Tryz.func203 (jzq c d) 0 [.pure (bzh c),XK 2 azb d] [] (λr=>XK 1 (encL 6 az3) r) XL
def oz8 (c:azd)(d:Af):T (czk×Bool):=let e:=encL 2 azb d;let f:=(d.length:Int);let g:Nat×Res:=(0,.box [XK 12 azc c.Xf.Xb,XK 5 azf c.Xf.Xh,XK 3 azk c.Xd,XK 2 azu c.Xj]);.cut 2 (λ(h:Bool)=>⟨[(1,.pure e),(2,XM 0),(4,XM 1),(19,XJ h)],[g,(1,.box [.vec 2,.vec 3,.vec 4]),(2,.nilv),(3,.nilv),(4,.nilv)],[],5⟩) (.cc (ezz c) λh=>.br (h !=0) (.oo true) (.oo (f !=(c.Xf.Xb.length:Int)))) λh=>.br h (.kj ((⟨nl,nl,nl⟩:czk),false)) (.loop (λ(i:Int)=>⟨[(1,.pure e),(2,XM 0),(4,XM 1),(21,.pure e),(22,pz f),(23,pz i)],[g,(1,.box [.vec 2,.vec 3,.vec 4]),(2,.nilv),(3,.nilv),(4,.nilv)],[],5⟩) (.exit 0) (λ(_:U0)=>⟨[(1,.pure e),(2,XM 0),(4,XM 1)],[g,(1,.box [.vec 2,.vec 3,.vec 4]),(2,.nilv),(3,.nilv),(4,.nilv)],[],5⟩) (λi=>.br (qx (i<f)) (.gh i d.length<|.cc (czj (d.getD (i.toNat) qw)) λj=>.br (!j) (.ff ((⟨nl,nl,nl⟩:czk),false)) (.nn (qv.wrap (i+1)))) (.oo .u))
 0 [] λ_=>.cc (Gz5 c) λi=>.cc (qzc (⟨c.Xf,c.Xd,c.Xj⟩:azd) d) λj=>.kj ((⟨c.Xd,i,j⟩:czk),true))
def oz7 (c)(d):=
 mkD Tryz.func165 (oz8 c d) 0 [.pure (bzh c),XK 2 azb d] [] (λr=>.tup [.pure (mz6 r.1),XJ r.2]) XL
def kz7 (c:czk)(d:Int):T gz4:=let e:=c.pairs.getD (d.toNat) qw;let f:=e.A;let g:=e.B;.gh d c.pairs.length<|.gh f c.points.length<|.gh f c.shapes.length<|.gh g c.points.length<|.gh g c.shapes.length<|.kj (⟨(c.points.getD (f.toNat) qw),(c.points.getD (g.toNat) qw),(c.shapes.getD (f.toNat) qw).Xs,(c.shapes.getD (g.toNat) qw).Xs⟩:gz4)
def pz7 (c)(d):=
 mkD Tryz.func166 (kz7 c d) 0 [.pure (mz6 c),pz d] [] (λr=>.pure (Dzn r)) XL
def Cz6 (c:B5)(d:Int)(e:B5)(f:Int)(g:Ay):T (B5×B5×Int×Int×Ay):=
 .kj (c,e,d,f,g)
def izq (c)(d)(e)(f)(g):=
 mkD Tryz.func205 (Cz6 c d e f g) 0 [XK 6 az3 c,pz d,XK 6 az3 e,pz f,XK 3 az1 g] [] (λ_=>.func 247 [] [XM 0,XM 1,XM 2,XM 3,XM 4]) (λr=>[(0,.box [XK 6 az3 r.1]),(1,.box [XK 6 az3 r.2.1]),(2,.box [pz r.2.2.1]),(3,.box [pz r.2.2.2.1]),(4,.box [XK 3 az1 r.2.2.2.2])])
def Uz7 (c:B5)(d:Int)(e:B5)(f:Int):T dzt:=
 .kj (⟨(⟨c,d⟩:fzm),(⟨e,f⟩:fzm)⟩:dzt)
def Izo (c)(d)(e)(f):=
 mkD Tryz.func253 (Uz7 c d e f) 0 [XK 6 az3 c,pz d,XK 6 az3 e,pz f] [] (λr=>.pure (qz5 r)) XL
def uzk (c:B5):T Bool:=let d:=encL 6 az3 c;let e:=(c.length:Int);.cut 2 (λ(f:Bool)=>⟨[(0,.pure d),(14,XJ f)],[],[],0⟩) (.br (qx (e<1)) (.oo true) (.oo (qx (e>8)))) λf=>.br f (.kj false) (.loop (λ(g:Int)=>⟨[(15,.pure d),(16,pz e),(17,pz g)],[],[],0⟩) (.exit 0) XN (λg=>let h:=c.getD (g.toNat) qw;let i:=az3 h;.br (qx (g<e)) (.gh g c.length<|.unroll 4<|.kh<|.jW<|.cut 0 (λ(j:Bool)=>⟨[(15,.pure d),(16,pz e),(17,pz g),(21,.pure i),(22,pz 0),(39,XJ j)],[],[],0⟩) (.br (qx ((h.1.Lo)<(-268435456))) (.oo true) (.br (qx ((h.1.Lo)>(h.1.Hi))) (.oo true) (.oo (qx ((h.1.Hi)>268435456))))) λj=>.br j (.ff false) (.lit 11000 1<|.kh<|.jX<|.cut 0 (λ(k:Bool)=>⟨[(15,.pure d),(16,pz e),(17,pz g),(21,.pure i),(22,pz 1),(39,XJ k)],[],[],0⟩) (.br (qx ((h.2.1.Lo)<(-268435456))) (.oo true) (.br (qx ((h.2.1.Lo)>(h.2.1.Hi))) (.oo true) (.oo (qx ((h.2.1.Hi)>268435456))))) λk=>.br k (.ff false) (.lit 11000 2<|.kh<|.jY<|.cut 0 (λ(m:Bool)=>⟨[(15,.pure d),(16,pz e),(17,pz g),(21,.pure i),(22,pz 2),(39,XJ m)],[],[],0⟩) (.br (qx ((h.2.2.Lo)<(-268435456))) (.oo true) (.br (qx ((h.2.2.Lo)>(h.2.2.Hi))) (.oo true) (.oo (qx ((h.2.2.Hi)>268435456))))) λm=>.br m (.ff false) (.lit 11000 3<|.ki<|.nn (qv.wrap (g+1)))))) (.oo .u))
 0 [] λ_=>.kj true)
def dzs (c):=
 mkD Tryz.func210 (uzk c) 0 [XK 6 az3 c] [] XJ XL
def Bzd (c:fzm):T Bool:=
 .cc (dzs c.points) λd=>.br d (.br (qx (0<=c.radius)) (.kj (qx (c.radius<=1048576))) (.kj false)) (.kj false)
def Bzc (c):=
 mkD Tryz.func310 (Bzd c) 0 [.pure (Nz5 c)] [] XJ XL
def mzx (c:Ax):T Bool:=
 .loop (λ(d:Int)=>⟨[(5,.pure (az1 c)),(6,pz d)],[],[],0⟩) (.exit 0) XN (λd=>let e:=([c.1,c.2.1,c.2.2]:List Int).getD d.toNat 0;.br (qx (d<3)) (.gh d 3<|.cut 0 (λ(f:Bool)=>⟨[(5,.pure (az1 c)),(6,pz d),(14,XJ f)],[],[],0⟩) (.br (qx (e<(-16384))) (.oo true) (.oo (qx (e>16384)))) λf=>.br f (.ff false) (.nn (qv.wrap (d+1)))) (.oo .u))
 0 [] λ_=>.kj true
def fz8 (c):=
 mkD Tryz.func289 (mzx c) 0 [.pure (az1 c)] [] XJ XL
def ozz (c:Ax):T Bool:=
 .cc (fz8 c) λd=>.br d (.kj (!((c.1==0)&&((c.2.1==0)&&((c.2.2==0)&&true))))) (.kj false)
def fzk (c):=
 mkD Tryz.func249 (ozz c) 0 [.pure (az1 c)] [] XJ XL
def Gzl (c:Ax):T Ax:=
 .kj (c.1,c.2.1,c.2.2)
def szh (c):=
 mkD Tryz.func328 (Gzl c) 0 [.pure (az1 c)] [] (λ_=>.agg [.func 340 [] [XM 0],.func 342 [] []]) (λr=>[(0,.box [pz r.1,pz r.2.1,pz r.2.2])])
def xzw (c:Ax)(d:B4):T Ar:=let e:=qv.wrap (c.1 * d.1.Lo);let f:=qv.wrap (c.1 * d.1.Hi);let g:=qv.wrap (c.2.1 * d.2.1.Lo);let h:=qv.wrap (c.2.1 * d.2.1.Hi);let i:=qv.wrap (c.2.2 * d.2.2.Lo);let j:=qv.wrap (c.2.2 * d.2.2.Hi);.unroll 4<|.kh<|.jW<|.jW<|.jW<|.name 6004 ((qv.wrap (0+(min e f)))) λk=>.name 7004 ((qv.wrap (0+(max e f)))) λm=>.lit 8000 1<|.kh<|.jX<|.jX<|.jX<|.name 6004 ((qv.wrap (k+(min g h)))) λn=>.name 7004 ((qv.wrap (m+(max g h)))) λs=>.lit 8000 2<|.kh<|.jY<|.jY<|.jY<|.name 6004 ((qv.wrap (n+(min i j)))) λt=>.name 7004 ((qv.wrap (s+(max i j)))) λw=>.lit 8000 3<|.ki<|.kj (t,w)
def xzv (c)(d):=
 mkD Tryz.func341 (xzw c d) 0 [.pure (az1 c),.pure (az3 d)] [] (λr=>.tup [pz r.1,pz r.2]) XL
def izt (c:B4)(d:Int)(e:Int)(f:Int):T Bd:=
 .cc (xzv (d,e,f) ((⟨c.1.Lo,c.1.Hi⟩:az0),(⟨c.2.1.Lo,c.2.1.Hi⟩:az0),(⟨c.2.2.Lo,c.2.2.Hi⟩:az0))) λg=>.kj (g.1,d,e,f)
def pz4 (c)(d)(e)(f):=
 mkD Tryz.func340 (izt c d e f) 1 [.pure (az3 c),XM 0] [(0,.box [pz d,pz e,pz f])] (λr=>pz r.1) (λr=>[(0,.box [pz r.2.1,pz r.2.2.1,pz r.2.2.2])])
def Cz9 (c:Int)(d:Int):T Bool:=
 .kj (qx (c<d))
def pz5 (c)(d):=
 mkD Tryz.func342 (Cz9 c d) 0 [pz c,pz d] [] XJ XL
def ozb (c:Int)(d:Int)(e:Int)(f:B5):T Be:=let g:=encL 6 az3 f;let h:=(f.length:Int);.loop (λ(i:Bf)=>⟨[(2,XM 1),(6,pz i.2.2.2.1),(7,pz i.2.2.2.2.1),(11,.pure g),(12,pz h),(13,pz i.2.2.2.2.2)],[(0,.box [pz i.1,pz i.2.1,pz i.2.2.1]),(1,.box [.func 340 [] [XM 0],.func 342 [] []])],[],2⟩) (.exit 0) (λ(i:Be)=>⟨[(6,pz i.2.2.2.1),(7,pz i.2.2.2.2)],[(0,.box [pz i.1,pz i.2.1,pz i.2.2.1])],[],1⟩) (λi=>.br (qx (i.2.2.2.2.2<h)) (.cut 0 (λ(j:Be)=>⟨[(2,XM 1),(6,pz j.2.2.2.1),(7,pz j.2.2.2.2),(11,.pure g),(12,pz h),(13,pz i.2.2.2.2.2)],[(0,.box [pz j.1,pz j.2.1,pz j.2.2.1]),(1,.box [.func 340 [] [XM 0],.func 342 [] []])],[],2⟩) (.gh i.2.2.2.2.2 f.length<|.call (pz4 (f.getD (XI i.2.2.2.2.2) qw) i.1 i.2.1 i.2.2.1) [(0,0)] λj=>.cut 0 (λ(k:Bool)=>⟨[(2,XM 1),(6,pz i.2.2.2.1),(7,pz i.2.2.2.2.1),(8,pz i.2.2.2.2.2),(10,pz j.1),(11,.pure g),(12,pz h),(13,pz i.2.2.2.2.2),(30,XJ k)],[(0,.box [pz j.2.1,pz j.2.2.1,pz j.2.2.2]),(1,.box [.func 340 [] [XM 0],.func 342 [] []])],[],2⟩) (.br (i.2.2.2.2.2==0) (.oo true) (.cc (pz5 j.1 i.2.2.2.1) λk=>.oo k)) λk=>.br k (.oo (j.2.1,j.2.2.1,j.2.2.2,j.1,i.2.2.2.2.2)) (.oo (j.2.1,j.2.2.1,j.2.2.2,i.2.2.2.1,i.2.2.2.2.1))) λj=>.nn (j.1,j.2.1,j.2.2.1,j.2.2.2.1,j.2.2.2.2,(qv.wrap (i.2.2.2.2.2+1)))) (.oo (i.1,i.2.1,i.2.2.1,i.2.2.2.1,i.2.2.2.2.1))) (c,d,e,0,0,0) [] λi=>.kj (i.2.2.2.1,i.2.2.2.2,i.1,i.2.1,i.2.2.1)
def yz4 (c)(d)(e)(f):=
 mkD Tryz.func329 (ozb c d e f) 1 [.agg [.func 340 [] [XM 0],.func 342 [] []],XK 6 az3 f] [(0,.box [pz c,pz d,pz e])] (λr=>.tup [pz r.1,pz r.2.1]) (λr=>[(0,.box [pz r.2.2.1,pz r.2.2.2.1,pz r.2.2.2.2])])
def rze (c:Ax)(d:B5):T B8:=
 .cut 2 (λ(e:Bool)=>⟨[(1,XK 6 az3 d),(2,XM 0),(16,XJ e)],[(0,.box [pz c.1,pz c.2.1,pz c.2.2])],[],1⟩) (.cc (fzk c) λe=>.br (!e) (.oo true) (.cc (dzs d) λf=>.oo (!f))) λe=>.br e (.kj (0,0,false)) (.cc (szh (c.1,c.2.1,c.2.2)) λf=>.call (yz4 f.1 f.2.1 f.2.2 d) [(0,65)] λg=>.kj (g.1,g.2.1,true))
def Bzf (c)(d):=
 mkD Tryz.func311 (rze c d) 0 [.pure (az1 c),XK 6 az3 d] [] (λr=>.tup [pz r.1,pz r.2.1,XJ r.2.2]) XL
def Jzu (c:Ax):T Ax:=
 .kj (c.1,c.2.1,c.2.2)
def yzo (c):=
 mkD Tryz.func330 (Jzu c) 0 [.pure (az1 c)] [] (λ_=>.agg [.func 343 [] [XM 0],.func 344 [] []]) (λr=>[(0,.box [pz r.1,pz r.2.1,pz r.2.2])])
def lzu (c:B4)(d:Int)(e:Int)(f:Int):T Bd:=
 .cc (xzv (d,e,f) c) λg=>.kj (g.2,d,e,f)
def szi (c)(d)(e)(f):=
 mkD Tryz.func343 (lzu c d e f) 1 [.pure (az3 c),XM 0] [(0,.box [pz d,pz e,pz f])] (λr=>pz r.1) (λr=>[(0,.box [pz r.2.1,pz r.2.2.1,pz r.2.2.2])])
def Gzm (c:Int)(d:Int):T Bool:=
 .kj (qx (c>d))
def szj (c)(d):=
 mkD Tryz.func344 (Gzm c d) 0 [pz c,pz d] [] XJ XL
def kzc (c:Int)(d:Int)(e:Int)(f:B5):T Be:=let g:=encL 6 az3 f;let h:=(f.length:Int);.loop (λ(i:Bf)=>⟨[(2,XM 1),(6,pz i.2.2.2.1),(7,pz i.2.2.2.2.1),(11,.pure g),(12,pz h),(13,pz i.2.2.2.2.2)],[(0,.box [pz i.1,pz i.2.1,pz i.2.2.1]),(1,.box [.func 343 [] [XM 0],.func 344 [] []])],[],2⟩) (.exit 0) (λ(i:Be)=>⟨[(6,pz i.2.2.2.1),(7,pz i.2.2.2.2)],[(0,.box [pz i.1,pz i.2.1,pz i.2.2.1])],[],1⟩) (λi=>.br (qx (i.2.2.2.2.2<h)) (.cut 0 (λ(j:Be)=>⟨[(2,XM 1),(6,pz j.2.2.2.1),(7,pz j.2.2.2.2),(11,.pure g),(12,pz h),(13,pz i.2.2.2.2.2)],[(0,.box [pz j.1,pz j.2.1,pz j.2.2.1]),(1,.box [.func 343 [] [XM 0],.func 344 [] []])],[],2⟩) (.gh i.2.2.2.2.2 f.length<|.call (szi (f.getD (XI i.2.2.2.2.2) qw) i.1 i.2.1 i.2.2.1) [(0,0)] λj=>.cut 0 (λ(k:Bool)=>⟨[(2,XM 1),(6,pz i.2.2.2.1),(7,pz i.2.2.2.2.1),(8,pz i.2.2.2.2.2),(10,pz j.1),(11,.pure g),(12,pz h),(13,pz i.2.2.2.2.2),(30,XJ k)],[(0,.box [pz j.2.1,pz j.2.2.1,pz j.2.2.2]),(1,.box [.func 343 [] [XM 0],.func 344 [] []])],[],2⟩) (.br (i.2.2.2.2.2==0) (.oo true) (.cc (szj j.1 i.2.2.2.1) λk=>.oo k)) λk=>.br k (.oo (j.2.1,j.2.2.1,j.2.2.2,j.1,i.2.2.2.2.2)) (.oo (j.2.1,j.2.2.1,j.2.2.2,i.2.2.2.1,i.2.2.2.2.1))) λj=>.nn (j.1,j.2.1,j.2.2.1,j.2.2.2.1,j.2.2.2.2,(qv.wrap (i.2.2.2.2.2+1)))) (.oo (i.1,i.2.1,i.2.2.1,i.2.2.2.1,i.2.2.2.2.1))) (c,d,e,0,0,0) [] λi=>.kj (i.2.2.2.1,i.2.2.2.2,i.1,i.2.1,i.2.2.1)
def rzl (c)(d)(e)(f):=
 mkD Tryz.func329 (kzc c d e f) 1 [.agg [.func 343 [] [XM 0],.func 344 [] []],XK 6 az3 f] [(0,.box [pz c,pz d,pz e])] (λr=>.tup [pz r.1,pz r.2.1]) (λr=>[(0,.box [pz r.2.2.1,pz r.2.2.2.1,pz r.2.2.2.2])])
def lzt (c:Ax)(d:B5):T B8:=
 .cut 2 (λ(e:Bool)=>⟨[(1,XK 6 az3 d),(2,XM 0),(16,XJ e)],[(0,.box [pz c.1,pz c.2.1,pz c.2.2])],[],1⟩) (.cc (fzk c) λe=>.br (!e) (.oo true) (.cc (dzs d) λf=>.oo (!f))) λe=>.br e (.kj (0,0,false)) (.cc (yzo (c.1,c.2.1,c.2.2)) λf=>.call (rzl f.1 f.2.1 f.2.2 d) [(0,65)] λg=>.kj (g.1,g.2.1,true))
def szg (c)(d):=
 mkD Tryz.func312 (lzt c d) 0 [.pure (az1 c),XK 6 az3 d] [] (λr=>.tup [pz r.1,pz r.2.1,XJ r.2.2]) XL
def Hza (c:Int):T Int:=
 .cut 1 (λ(d:Ar)=>⟨[(0,.pure (.int .u64 d.1)),(2,pz d.2)],[],[],0⟩) (.br (qx (c>=4294967296)) (.ok (0<=(32:Int)) (by decide)<|.oo ((c.fdiv (2 ^ (min (32:Int).toNat 64))),32)) (.oo (c,0))) λd=>.cut 0 (λ(e:Ar)=>⟨[(0,.pure (.int .u64 e.1)),(2,pz e.2)],[],[],0⟩) (.br (qx (d.1>=65536)) (.ok (0<=(16:Int)) (by decide)<|.oo ((d.1.fdiv (2 ^ (min (16:Int).toNat 64))),(qv.wrap (d.2+16)))) (.oo (d.1,d.2))) λe=>.cut 0 (λ(f:Ar)=>⟨[(0,.pure (.int .u64 f.1)),(2,pz f.2)],[],[],0⟩) (.br (qx (e.1>=256)) (.ok (0<=(8:Int)) (by decide)<|.oo ((e.1.fdiv (2 ^ (min (8:Int).toNat 64))),(qv.wrap (e.2+8)))) (.oo (e.1,e.2))) λf=>let g:=IntKind.u8.wrap f.1;
 .gh g ((⟨#[0,1,2,2,3,3,3,3,4,4,4,4,4,4,4,4,5,5,5,5,5,5,5,5,5,5,5,5,5,5,5,5,6,6,6,6,6,6,6,6,6,6,6,6,6,6,6,6,6,6,6,6,6,6,6,6,6,6,6,6,6,6,6,6,7,7,7,7,7,7,7,7,7,7,7,7,7,7,7,7,7,7,7,7,7,7,7,7,7,7,7,7,7,7,7,7,7,7,7,7,7,7,7,7,7,7,7,7,7,7,7,7,7,7,7,7,7,7,7,7,7,7,7,7,7,7,7,7,8,8,8,8,8,8,8,8,8,8,8,8,8,8,8,8,8,8,8,8,8,8,8,8,8,8,8,8,8,8,8,8,8,8,8,8,8,8,8,8,8,8,8,8,8,8,8,8,8,8,8,8,8,8,8,8,8,8,8,8,8,8,8,8,8,8,8,8,8,8,8,8,8,8,8,8,8,8,8,8,8,8,8,8,8,8,8,8,8,8,8,8,8,8,8,8,8,8,8,8,8,8,8,8,8,8,8,8,8,8,8,8,8,8,8,8,8,8,8,8,8,8,8,8,8,8,8,8]⟩:ByteArray).size)<|.name 10003 ((((⟨#[0,1,2,2,3,3,3,3,4,4,4,4,4,4,4,4,5,5,5,5,5,5,5,5,5,5,5,5,5,5,5,5,6,6,6,6,6,6,6,6,6,6,6,6,6,6,6,6,6,6,6,6,6,6,6,6,6,6,6,6,6,6,6,6,7,7,7,7,7,7,7,7,7,7,7,7,7,7,7,7,7,7,7,7,7,7,7,7,7,7,7,7,7,7,7,7,7,7,7,7,7,7,7,7,7,7,7,7,7,7,7,7,7,7,7,7,7,7,7,7,7,7,7,7,7,7,7,7,8,8,8,8,8,8,8,8,8,8,8,8,8,8,8,8,8,8,8,8,8,8,8,8,8,8,8,8,8,8,8,8,8,8,8,8,8,8,8,8,8,8,8,8,8,8,8,8,8,8,8,8,8,8,8,8,8,8,8,8,8,8,8,8,8,8,8,8,8,8,8,8,8,8,8,8,8,8,8,8,8,8,8,8,8,8,8,8,8,8,8,8,8,8,8,8,8,8,8,8,8,8,8,8,8,8,8,8,8,8,8,8,8,8,8,8,8,8,8,8,8,8,8,8,8,8,8,8]⟩:ByteArray).data.getD g.toNat 0).toNat:Int)) λh=>.kj (qv.wrap (f.2+(qv.wrap h)))
def mzd (c):=
 mkD Tryz.func331 (Hza c) 0 [.pure (.int .u64 c)] [] pz XL
def zzg (c:Int):T Int:=let d:=IntKind.u64.wrap c;.br (qx (c<=0)) (.kj 0) (.cc (mzd d) λe=>let f:=qv.wrap ((qv.wrap (e+1)).tdiv 2);
 .ok ((2:Int)≠0) (by decide)<|.grd (0<=f)<|.loop (λ(g:Ax)=>⟨[(0,pz c),(4,.pure (.int .u64 g.1)),(5,.pure (.int .u64 g.2.1)),(16,pz f),(17,pz g.2.2)],[],[],0⟩) (.exit 0) (λ(g:Int)=>⟨[(4,.pure (.int .u64 g))],[],[],0⟩) (λg=>.br (qx (g.2.2<f)) (.cut 0 (λ(h:Ar)=>⟨[(0,pz c),(4,.pure (.int .u64 h.1)),(5,.pure (.int .u64 h.2)),(16,pz f),(17,pz g.2.2)],[],[],0⟩) (.ok ((2:Int)≠0) (by decide)<|.name 7001 ((IntKind.u64.wrap (g.2.1.tdiv 2))) λh=>let i:=IntKind.u64.wrap (g.1+h);
 .br (qx ((IntKind.u64.wrap (i * i))<=d)) (.oo (i,h)) (.oo (g.1,h))) λh=>.nn (h.1,h.2,(qv.wrap (g.2.2+1)))) (.oo g.1)) (0,(IntKind.u64.wrap (1 * 2 ^ (min f.toNat 64))),0) [] λg=>.kj (qv.wrap g))
def zzf (c):=
 mkD Tryz.func313 (zzg c) 0 [pz c] [] pz XL
def tz3 (c:Int):T Int:=
 .cc (zzf c) λd=>.cut 0 (λ(e:Int)=>⟨[(3,pz e)],[],[],0⟩) (.br (qx ((qv.wrap (d * d))<c)) (.oo (qv.wrap (d+1))) (.oo d)) λe=>.kj e
def Czg (c):=
 mkD Tryz.func295 (tz3 c) 0 [pz c] [] pz XL
def uzo (c:Ax):T Int:=
 .cc (fzk (c.1,c.2.1,c.2.2)) λd=>.br (!d) (.kj 0) (.jW<|.jW<|.jX<|.jX<|.jY<|.jY<|.name 3016 ((qv.wrap ((qv.wrap ((qv.wrap (c.1 * c.1))+(qv.wrap (c.2.1 * c.2.1))))+(qv.wrap (c.2.2 * c.2.2))))) λe=>.cc (Czg e) λf=>.kj f)
def uzn (c):=
 mkD Tryz.func260 (uzo c) 0 [.pure (az1 c)] [] pz XL
def uzl (c:dzt)(d:Ax):T Au:=
 .cut 2 (λ(e:Bool)=>⟨[(2,XM 0),(3,XM 1),(20,XJ e)],[(0,.box [XK 6 az3 c.a.points,pz c.a.radius,XK 6 az3 c.b.points,pz c.b.radius]),(1,.box [pz d.1,pz d.2.1,pz d.2.2])],[],2⟩) (.cc (Bzc c.a) λe=>.br (!e) (.oo true) (.cc (Bzc c.b) λf=>.oo (!f))) λe=>.br e (.kj (0,false)) (.cc (Bzf (d.1,d.2.1,d.2.2) c.a.points) λf=>.br (!f.2.2) (.kj (0,false)) (.cc (szg (d.1,d.2.1,d.2.2) c.b.points) λg=>.br (!g.2.2) (.kj (0,false)) (.cc (uzn (d.1,d.2.1,d.2.2)) λh=>.name 9013 ((qv.wrap ((qv.wrap (f.1-g.1))- (qv.wrap (h * (qv.wrap (c.a.radius+c.b.radius))))))) λi=>.kj (i,true))))
def Dze (c)(d):=
 mkD Tryz.func292 (uzl c d) 0 [.pure (qz5 c),.pure (az1 d)] [] (λr=>.tup [pz r.1,XJ r.2]) XL
def mzv (c:dzt)(d:Ax):T Bool:=
 .cc (Dze (⟨c.a,c.b⟩:dzt) (d.1,d.2.1,d.2.2)) λe=>.br e.2 (.kj (qx (e.1>0))) (.kj false)
def vzl (c)(d):=
 mkD Tryz.func252 (mzv c d) 0 [.pure (qz5 c),.pure (az1 d)] [] XJ XL
def mzh (c:Ax)(d:B5)(e:Int)(f:B5)(g:Int):T Bool:=
 .cc (Izo d e f g) λh=>.cc (vzl (⟨h.a,h.b⟩:dzt) (c.1,c.2.1,c.2.2)) λi=>.kj i
def mzg (c)(d)(e)(f)(g):=
 mkD Tryz.func206 (mzh c d e f g) 0 [.pure (az1 c),XK 6 az3 d,pz e,XK 6 az3 f,pz g] [] XJ XL
def kzx (c:Int):T Bool:=
 .br (qx (c>=0)) (.kj (qx (c<=1048576))) (.kj false)
def kzw (c):=
 mkD Tryz.func248 (kzx c) 0 [pz c] [] XJ XL
def tz7 (c:az0):T Int:=
 .cc (czj c) λd=>.br (!d) (.kj 0) (.cc (bze (qv.wrap (c.Lo+c.Hi)) 1) λe=>.kj e)
def izy (c):=
 mkD Tryz.func211 (tz7 c) 0 [.pure (azb c)] [] pz XL
def iz4 (c:B5):T Ay:=let d:=(c.length:Int);.cc (dzs c) λe=>.br (!e) (.kj nl) (.conv 3002 (Kzr 3 az1 96 d.toNat (0,0,0))<|.grd (0<=d/\d<=d/\d<=9223372036854775807/\d * 24<=140737488355328)<|.loop (λ(f:B0)=>⟨[(3,.vec 0),(14,XK 6 az3 c),(15,pz d),(16,pz f.2)],[(0,vecO 3 az1 f.1 96)],[],1⟩) (.exit 0) (λ(f:Ay)=>⟨[(3,.vec 0)],[(0,vecO 3 az1 f 96)],[],1⟩) (λf=>let g:=f.2;let h:=g.toNat;let i:=c.getD h qw;let j:=f.1.getD h qw;.br (qx (f.2<d)) (.gh f.2 c.length<|.unroll 4<|.kh<|.jW<|.cc (izy (i.1)) λk=>let m:=f.1.set h (k,j.2.1,j.2.2);let n:=m.getD h qw;
 .gh f.2 f.1.length<|.jW<|.conv 10007 (fzr 3 az1 f.1 96 h (k,j.2.1,j.2.2))<|.gi g f.1.length<|.lit 11000 1<|.kh<|.jX<|.cc (izy (i.2.1)) λs=>let t:=m.set h (n.1,s,n.2.2);let w:=t.getD h qw;
 .gh f.2 (m.length)<|.jX<|.conv 10007 (fzr 3 az1 m 96 h (n.1,s,n.2.2))<|.gi g (m.length)<|.lit 11000 2<|.kh<|.jY<|.cc (izy (i.2.2)) λy=>.gh f.2 (t.length)<|.jY<|.conv 10007 (fzr 3 az1 t 96 h (w.1,w.2.1,y))<|.gi g (t.length)<|.lit 11000 3<|.ki<|.nn ((t.set h (w.1,w.2.1,y)),(qv.wrap (f.2+1)))) (.oo f.1)) ((qu d.toNat ((0,0,0):Ax)),0) [] λf=>.kj f)
def dzf (c):=
 mkD Tryz.func169 (iz4 c) 0 [XK 6 az3 c] [] (λr=>XK 3 az1 r) XL
def kzy (c:Ay):T Ax:=let d:=(c.length:Int);.loop (λ(e:Bd)=>⟨[(2,XM 0),(3,XM 1),(7,XK 3 az1 c),(8,pz d),(9,pz e.2.2.2)],[(0,.box [pz 0,pz 0,pz 0]),(1,.box [pz e.1,pz e.2.1,pz e.2.2.1])],[],2⟩) (.exit 0) (λ(e:Ax)=>⟨[(2,XM 0),(3,XM 1)],[(0,.box [pz 0,pz 0,pz 0]),(1,.box [pz e.1,pz e.2.1,pz e.2.2])],[],2⟩) (λe=>let f:=c.getD (XI e.2.2.2) qw;.br (qx (e.2.2.2<d)) (.gh e.2.2.2 c.length<|.unroll 4<|.kh<|.jW<|.jW<|.jW<|.lit 9000 1<|.kh<|.jX<|.jX<|.jX<|.lit 9000 2<|.kh<|.jY<|.jY<|.jY<|.lit 9000 3<|.ki<|.nn ((qv.wrap (e.1+(f.1))),(qv.wrap (e.2.1+(f.2.1))),(qv.wrap (e.2.2.1+(f.2.2))),(qv.wrap (e.2.2.2+1)))) (.oo (e.1,e.2.1,e.2.2.1))) (0,0,0,0) [] λe=>.kj (e.1,e.2.1,e.2.2)
def pze (c):=
 mkD Tryz.func291 (kzy c) 0 [XK 3 az1 c] [] (λr=>.pure (az1 r)) XL
def hz6 (c:Ax):T B3:=
 .loop (λ(d:Ax)=>⟨[(1,XM 0),(2,XM 1)],[(0,.box [pz d.1,pz d.2.1,pz d.2.2]),(1,.box [pz 0,pz 0,pz 0])],[],2⟩) (.exit 0) (λ(d:Ax)=>⟨[(1,XM 0),(2,XM 1)],[(0,.box [pz d.1,pz d.2.1,pz d.2.2]),(1,.box [pz 0,pz 0,pz 0])],[],2⟩) (λd=>.cc (fz8 (d.1,d.2.1,d.2.2)) λe=>.br (!e) (.unroll 4<|.kh<|.jW<|.ok ((2:Int)≠0) (by decide)<|.jW<|.lit 6000 1<|.kh<|.jX<|.ok ((2:Int)≠0) (by decide)<|.jX<|.lit 6000 2<|.kh<|.jY<|.ok ((2:Int)≠0) (by decide)<|.jY<|.lit 6000 3<|.ki<|.nn ((qv.wrap (d.1.tdiv 2)),(qv.wrap (d.2.1.tdiv 2)),(qv.wrap (d.2.2.tdiv 2)))) (.oo (d.1,d.2.1,d.2.2))) (c.1,c.2.1,c.2.2) [] λd=>.kj ((d.1,d.2.1,d.2.2),(!((d.1==0)&&((d.2.1==0)&&((d.2.2==0)&&true)))))
def jzm (c):=
 mkD Tryz.func257 (hz6 c) 0 [.pure (az1 c)] [] (λr=>.tup [.pure (az1 r.1),XJ r.2]) XL
def jz2 (c:B5)(d:B5):T B3:=let e:=(d.length:Int);let f:=(c.length:Int);.cut 3 (λ(g:Bool)=>⟨[(0,XK 6 az3 c),(1,XK 6 az3 d),(4,XM 0),(5,XM 1),(18,XJ g)],[(0,.box [pz 0,pz 0,pz 0]),(1,.box [.ff])],[.func 290 [] [XM 0,XM 1]],2⟩) (.cc (dzs c) λg=>.br (!g) (.oo true) (.cc (dzs d) λh=>.oo (!h))) λg=>.br g (.kj ((0,0,0),false)) (.cc (dzf c) λh=>.cc (pze h) λi=>.cc (dzf d) λj=>.cc (pze j) λk=>.unroll 4<|.kh<|.jW<|.jW<|.name 9013 ((qv.wrap ((qv.wrap (i.1 * e))- (qv.wrap (k.1 * f))))) λm=>.jW<|.lit 10000 1<|.kh<|.jX<|.jX<|.name 9013 ((qv.wrap ((qv.wrap (i.2.1 * e))- (qv.wrap (k.2.1 * f))))) λn=>.jX<|.lit 10000 2<|.kh<|.jY<|.jY<|.name 9013 ((qv.wrap ((qv.wrap (i.2.2 * e))- (qv.wrap (k.2.2 * f))))) λs=>.jY<|.lit 10000 3<|.ki<|.cc (jzm (m,n,s)) λt=>.kj (t.1,t.2))
def nza (c)(d):=
 mkC [⟨290,az6e⟩] hd Tryz.func250 (by kernel_rfl) (jz2 c d) 0 [XK 6 az3 c,XK 6 az3 d] [] (λr=>.tup [.pure (az1 r.1),XJ r.2]) XL (by kernel_rfl)
def Nzg:T Ay:=
 .conv 1006 (bzx 3 az1 ([(1,0,0),((-1),0,0),(0,1,0),(0,(-1),0),(0,0,1),(0,0,(-1))]:Ay) 96)<|.kj ([(1,0,0),((-1),0,0),(0,1,0),(0,(-1),0),(0,0,1),(0,0,(-1))]:Ay)
def tzg:CallS Ay:=
 mkD Tryz.func251 (Nzg) 0 [] [] (λr=>XK 3 az1 r) XL
def gzv (c:Ay):T Bool:=let d:=encL 3 az1 c;let e:=(c.length:Int);.cut 2 (λ(f:Bool)=>⟨[(0,.pure d),(14,XJ f)],[],[],0⟩) (.br (qx (e<1)) (.oo true) (.oo (qx (e>8)))) λf=>.br f (.kj false) (.loop (λ(g:Int)=>⟨[(15,.pure d),(16,pz e),(17,pz g)],[],[],0⟩) (.exit 0) XN (λg=>let h:=c.getD (g.toNat) qw;.br (qx (g<e)) (.gh g c.length<|.loop (λ(i:Int)=>⟨[(15,.pure d),(16,pz e),(17,pz g),(21,.pure (az1 h)),(22,pz i)],[],[],0⟩) (.exit 2) (λ(_:U0)=>⟨[(15,.pure d),(16,pz e),(17,pz g)],[],[],0⟩) (λi=>.br (qx (i<3)) (.gh i 3<|.name 8000 ((([h.1,h.2.1,h.2.2]:List Int).getD i.toNat 0)) λj=>.cut 0 (λ(k:Bool)=>⟨[(15,.pure d),(16,pz e),(17,pz g),(21,.pure (az1 h)),(22,pz i),(30,XJ k)],[],[],0⟩) (.br (qx (j<(-268435456))) (.oo true) (.oo (qx (j>268435456)))) λk=>.br k (.ff (.fin false)) (.nn (qv.wrap (i+1)))) (.oo .u))
 0 [] λ_=>.nn (qv.wrap (g+1))) (.oo .u))
 0 [] λ_=>.kj true)
def jzi (c):=
 mkD Tryz.func207 (gzv c) 0 [XK 3 az1 c] [] XJ XL
def gzf (c:Ay):T (Ay×A1):=let d:=(c.length:Int);let e:=qu d.toNat (0:Int);.conv 1002 (Kzr 1 az2 2 d.toNat 0)<|.grd (0<=d/\d<=d/\d<=9223372036854775807/\d * 8<=140737488355328)<|.gh (0:Int) (e.length)<|.conv 2002 (fzr 1 az2 e 2 (XI (0:Int)) 65536)<|.gi (0:Int) (e.length)<|.kj (c,(e.set (XI (0:Int)) 65536))
def ize (c):=
 mkD Tryz.func208 (gzf c) 0 [XK 3 az1 c] [] (λr=>.agg [XK 3 az1 r.1,.vec 0]) (λr=>[(0,vecO 1 az2 r.2 2)])
def vz2 (c:Ay)(d:A1):T Ax:=let e:=encL 3 az1 c;let f:=(c.length:Int);.loop (λ(g:Bd)=>⟨[(1,XM 1),(2,XM 2),(3,XM 3),(9,.pure e),(10,pz f),(11,pz g.2.2.2)],[(0,vecO 1 az2 d 2),(1,.box [.pure e,.vec 0]),(2,.box [pz 0,pz 0,pz 0]),(3,.box [pz g.1,pz g.2.1,pz g.2.2.1])],[],4⟩) (.exit 0) (λ(g:Ax)=>⟨[(2,XM 1),(3,XM 2)],[(0,vecO 1 az2 d 2),(1,.box [pz 0,pz 0,pz 0]),(2,.box [pz g.1,pz g.2.1,pz g.2.2])],[],3⟩) (λg=>let h:=(g.2.2.2).toNat;let i:=c.getD h qw;let j:=d.getD h qw;.br (qx (g.2.2.2<f)) (.gh g.2.2.2 c.length<|.unroll 4<|.kh<|.jW<|.name 7001 (i.1) λk=>.jW<|.gg g.2.2.2 d.length<|.name 8010 ((qv.wrap (g.1+(qv.wrap (j * k))))) λm=>.jW<|.lit 9000 1<|.kh<|.jX<|.name 7001 (i.2.1) λn=>.jX<|.gg g.2.2.2 d.length<|.name 8010 ((qv.wrap (g.2.1+(qv.wrap (j * n))))) λs=>.jX<|.lit 9000 2<|.kh<|.jY<|.name 7001 (i.2.2) λt=>.jY<|.gg g.2.2.2 d.length<|.name 8010 ((qv.wrap (g.2.2.1+(qv.wrap (j * t))))) λw=>.jY<|.lit 9000 3<|.ki<|.nn (m,s,w,(qv.wrap (g.2.2.2+1)))) (.oo (g.1,g.2.1,g.2.2.1))) (0,0,0,0) [] λg=>.kj (g.1,g.2.1,g.2.2)
def Bzn (c)(d):=
 mkD Tryz.func255 (vz2 c d) 1 [.agg [XK 3 az1 c,.vec 0]] [(0,vecO 1 az2 d 2)] (λr=>.pure (az1 r)) (λ_=>[(0,vecO 1 az2 d 2)])
def Lzh (c:Ax)(d:Ax):T Ax:=
 .jW<|.jW<|.jX<|.jX<|.jY<|.jY<|.kj ((qv.wrap (c.1-d.1)),(qv.wrap (c.2.1-d.2.1)),(qv.wrap (c.2.2-d.2.2)))
def kzu (c)(d):=
 mkD Tryz.func254 (Lzh c d) 0 [.pure (az1 c),.pure (az1 d)] [] (λr=>.pure (az1 r)) XL
def gze (c:Ax)(d:Int):T Bool:=
 .loop (λ(e:Ar)=>⟨[(1,pz d),(5,pz e.1),(9,.pure (az1 c)),(10,pz e.2)],[],[],0⟩) (.exit 0) (λ(e:Int)=>⟨[(1,pz d),(5,pz e)],[],[],0⟩) (λe=>let f:=([c.1,c.2.1,c.2.2]:List Int).getD (e.2).toNat 0;.br (qx (e.2<3)) (.gh e.2 3<|.name 5003 ((max f (qv.wrap (0-f)))) λg=>.cc (bzm g 16) λh=>.nn ((qv.wrap (e.1+(qv.wrap (h * h)))),(qv.wrap (e.2+1)))) (.oo e.1)) (0,0) [] λe=>.kj (qx (e<=(qv.wrap (d * d))))
def mze (c)(d):=
 mkD Tryz.func256 (gze c d) 0 [.pure (az1 c),pz d] [] XJ XL
def Qzs (c:Ax)(d:Ax):T Int:=
 .jW<|.jW<|.jX<|.jX<|.jY<|.jY<|.name 1016 ((qv.wrap ((qv.wrap ((qv.wrap (c.1 * d.1))+(qv.wrap (c.2.1 * d.2.1))))+(qv.wrap (c.2.2 * d.2.2))))) λe=>.kj e
def gzp (c)(d):=
 mkD Tryz.func294 (Qzs c d) 0 [.pure (az1 c),.pure (az1 d)] [] pz XL
def nzo (c:Ay)(d:A1)(e:Ax):T Ar:=let f:=encL 3 az1 c;let g:=(c.length:Int);let h:Nat×Res:=(1,.box [pz e.1,pz e.2.1,pz e.2.2]);.gh (0:Int) c.length<|.cc (gzp e (c.getD (XI (0:Int)) qw)) λi=>.loop (λ(j:Ax)=>⟨[(3,XM 1),(6,pz j.1),(7,pz j.2.1),(20,.pure f),(21,pz g),(22,pz j.2.2)],[(0,vecO 1 az2 d 2),h],[],2⟩) (.exit 0) (λ(j:Ar)=>⟨[(6,pz j.1),(7,pz j.2)],[(0,vecO 1 az2 d 2)],[],1⟩) (λj=>.br (qx (j.2.2<g)) (.cut 0 (λ(k:Ar)=>⟨[(3,XM 1),(6,pz k.1),(7,pz k.2),(20,.pure f),(21,pz g),(22,pz j.2.2)],[(0,vecO 1 az2 d 2),h],[],2⟩) (.gh j.2.2 c.length<|.cc (gzp e (c.getD (XI j.2.2) qw)) λk=>.br (qx (k<j.1)) (.oo (k,j.2.2)) (.oo (j.1,j.2.1))) λk=>.nn (k.1,k.2,(qv.wrap (j.2.2+1)))) (.oo (j.1,j.2.1))) (i,0,0) [] λj=>.kj (j.1,j.2)
def zzm (c)(d)(e):=
 mkD Tryz.func258 (nzo c d e) 1 [.agg [XK 3 az1 c,.vec 0],.pure (az1 e)] [(0,vecO 1 az2 d 2)] (λr=>.tup [pz r.1,pz r.2]) (λ_=>[(0,vecO 1 az2 d 2)])
def gzz (c:Ay)(d:A1)(e:Ax):T Ar:=let f:=encL 3 az1 c;let g:=(c.length:Int);let h:Nat×Res:=(1,.box [pz e.1,pz e.2.1,pz e.2.2]);.gh (0:Int) c.length<|.cc (gzp e (c.getD (XI (0:Int)) qw)) λi=>.loop (λ(j:Ax)=>⟨[(3,XM 1),(6,pz j.1),(7,pz j.2.1),(20,.pure f),(21,pz g),(22,pz j.2.2)],[(0,vecO 1 az2 d 2),h],[],2⟩) (.exit 0) (λ(j:Ar)=>⟨[(6,pz j.1),(7,pz j.2)],[(0,vecO 1 az2 d 2)],[],1⟩) (λj=>.br (qx (j.2.2<g)) (.cut 0 (λ(k:Ar)=>⟨[(3,XM 1),(6,pz k.1),(7,pz k.2),(20,.pure f),(21,pz g),(22,pz j.2.2)],[(0,vecO 1 az2 d 2),h],[],2⟩) (.gh j.2.2 c.length<|.cc (gzp e (c.getD (XI j.2.2) qw)) λk=>.br (qx (k>j.1)) (.oo (k,j.2.2)) (.oo (j.1,j.2.1))) λk=>.nn (k.1,k.2,(qv.wrap (j.2.2+1)))) (.oo (j.1,j.2.1))) (i,0,0) [] λj=>.kj (j.1,j.2)
def ozv (c)(d)(e):=
 mkD Tryz.func259 (gzz c d e) 1 [.agg [XK 3 az1 c,.vec 0],.pure (az1 e)] [(0,vecO 1 az2 d 2)] (λr=>.tup [pz r.1,pz r.2]) (λ_=>[(0,vecO 1 az2 d 2)])
def jz1 (c:Ax)(d:Ax):T Int:=
 .cc (kzu c d) λe=>.cc (gzp c e) λf=>.cc (gzp e e) λg=>let h:=qv.wrap (g.tdiv 256);
 .br (qx (f<=0)) (.kj 0) (.ok ((256:Int)≠0) (by decide)<|.grd ((max 1 h)≠0)<|.kj (min 256 (qv.wrap (f.tdiv (max 1 h)))))
def tzf (c)(d):=
 mkD Tryz.func261 (jz1 c d) 0 [.pure (az1 c),.pure (az1 d)] [] pz XL
def kzo (c:Ay)(d:A1)(e:Int)(f:Int):T A1:=let g:=e.toNat;let h:=(d.length:Int);let i:Nat×Res:=(1,.box [XK 3 az1 c,.vec 0]);.loop (λ(j:Aw)=>⟨[(1,pz e),(2,pz f),(3,XM 1),(6,pz j.2.1),(11,.vec 0),(12,pz h),(13,pz j.2.2)],[(0,vecO 1 az2 j.1 2),i],[],2⟩) (.exit 0) (λ(j:A8)=>⟨[(1,pz e),(3,XM 1),(6,pz j.2)],[(0,vecO 1 az2 j.1 2),i],[],2⟩) (λj=>let k:=(j.2.2).toNat;let m:=j.1.getD k qw;let n:=qv.wrap ((qv.wrap (m * f)).tdiv 256);.br (qx (j.2.2<h)) (.gg j.2.2 j.1.length<|.ok ((256:Int)≠0) (by decide)<|.gg j.2.2 j.1.length<|.name 6006 ((qv.wrap (m-n))) λs=>.gh j.2.2 j.1.length<|.conv 6008 (fzr 1 az2 j.1 2 k s)<|.gi (j.2.2) j.1.length<|.name 7002 ((qv.wrap (j.2.1+n))) λt=>.nn ((j.1.set k s),t,(qv.wrap (j.2.2+1)))) (.oo (j.1,j.2.1))) (d,0,0) [] λj=>let k:=qv.wrap ((j.1.getD g qw)+j.2);
 .gg e j.1.length<|.gh e j.1.length<|.conv 9008 (fzr 1 az2 j.1 2 g k)<|.gi (e) j.1.length<|.kj (j.1.set g k)
def pzb (c)(d)(e)(f):=
 mkD Tryz.func262 (kzo c d e f) 1 [.agg [XK 3 az1 c,.vec 0],pz e,pz f] [(0,vecO 1 az2 d 2)] (λ_=>.tup []) (λr=>[(0,vecO 1 az2 r 2)])
def rzd (c:Ay)(d:A1)(e:Ay)(f:A1)(g:Int)(h:Int)(i:Int)(j:Int)(k:Int)(m:Int):T (Int×Ay×A1×Ay×A1×Int×Int×Int×Int):=
 .loop (λ(n:(A1×A1×Int×Int×Int×Int))=>⟨[(0,XM 0),(1,pz k),(2,pz m)],[(0,.box [XK 3 az1 c,.vec 1,XK 3 az1 e,.vec 2,pz n.2.2.1,pz n.2.2.2.1,pz n.2.2.2.2.1,pz n.2.2.2.2.2]),(1,vecO 1 az2 n.1 2),(2,vecO 1 az2 n.2.1 2)],[],3⟩)
 .ret (λ(_:U0)=>⟨[],[],[],3⟩) (λn=>.call (Bzn c n.1) [(0,1)] λs=>.call (Bzn e n.2.1) [(0,2)] λt=>.cc (kzu s t) λw=>let y:=qv.wrap (w.1.tdiv 65536);let z:=qv.wrap (w.2.1.tdiv 65536);let aa:=qv.wrap (w.2.2.tdiv 65536);
 .cc (mze w k) λab=>.br ab (.ff (2,c,n.1,e,n.2.1,n.2.2.1,n.2.2.2.1,n.2.2.2.2.1,n.2.2.2.2.2)) (.jW<|.ok ((65536:Int)≠0) (by decide)<|.jX<|.ok ((65536:Int)≠0) (by decide)<|.jY<|.ok ((65536:Int)≠0) (by decide)<|.cc (jzm (y,z,aa)) λac=>.br (!ac.2) (.ff (0,c,n.1,e,n.2.1,ac.1.1,ac.1.2.1,ac.1.2.2,n.2.2.2.2.2)) (.call (zzm c n.1 ac.1) [(0,1)] λad=>.call (ozv e n.2.1 ac.1) [(0,2)] λae=>.cc (uzn ac.1) λaf=>.br (qx ((qv.wrap (ad.1-ae.1))>(qv.wrap (af * k)))) (.ff (1,c,n.1,e,n.2.1,ac.1.1,ac.1.2.1,ac.1.2.2,n.2.2.2.2.2)) (.br (n.2.2.2.2.2==m) (.ff (0,c,n.1,e,n.2.1,ac.1.1,ac.1.2.1,ac.1.2.2,n.2.2.2.2.2)) (.gh ad.2 c.length<|.gh ae.2 e.length<|.cc (kzu (c.getD (XI ad.2) qw) (e.getD (XI ae.2) qw)) λag=>.cc (tzf (y,z,aa) ag) λah=>.br (ah==0) (.ff (0,c,n.1,e,n.2.1,ac.1.1,ac.1.2.1,ac.1.2.2,n.2.2.2.2.2)) (.call (pzb c n.1 ad.2 ah) [(0,1)] λai=>.call (pzb e n.2.1 ae.2 ah) [(0,2)] λaj=>.nn (ai,aj,ac.1.1,ac.1.2.1,ac.1.2.2,(qv.wrap (n.2.2.2.2.2+1))))))))) (d,f,g,h,i,j) [] λ_=>.stop
def Mzm (c)(d)(e)(f)(g)(h)(i)(j)(k)(m):=
 mkD Tryz.func209 (rzd c d e f g h i j k m) 3 [XM 0,pz k,pz m] [(0,.box [XK 3 az1 c,.vec 1,XK 3 az1 e,.vec 2,pz g,pz h,pz i,pz j]),(1,vecO 1 az2 d 2),(2,vecO 1 az2 f 2)] (λr=>pz r.1) (λr=>[(0,.box [XK 3 az1 r.2.1,.vec 1,XK 3 az1 r.2.2.2.1,.vec 2,pz r.2.2.2.2.2.1,pz r.2.2.2.2.2.2.1,pz r.2.2.2.2.2.2.2.1,pz r.2.2.2.2.2.2.2.2]),(1,vecO 1 az2 r.2.2.1 2),(2,vecO 1 az2 r.2.2.2.2.1 2)])
def gzu (c:Ay)(d:Ay)(e:Int)(f:Int):T dzk:=
 .cut 2 (λ(g:Bool)=>⟨[(0,XK 3 az1 c),(1,XK 3 az1 d),(2,pz e),(3,pz f),(8,XM 0),(34,XJ g)],[(0,.box [pz 0,pz 0,pz 0,pz 0,.vec 1,.vec 2,pz 0]),(1,.nilv),(2,.nilv)],[],3⟩) (.cc (jzi c) λg=>.br (!g) (.oo true) (.cc (jzi d) λh=>.br (!h) (.oo true) (.br (qx (e<0)) (.oo true) (.br (qx (e>2097152)) (.oo true) (.br (qx (f<0)) (.oo true) (.oo (qx (f>64)))))))) λg=>.br g (.kj (⟨0,(0,0,0),nl,nl,0⟩:dzk)) (.cc (ize c) λh=>.cc (ize d) λi=>.call (Mzm h.1 h.2 i.1 i.2 0 0 0 0 e f) [(0,451),(1,67),(2,259)] λj=>.kj (⟨j.1,(j.2.2.2.2.2.1,j.2.2.2.2.2.2.1,j.2.2.2.2.2.2.2.1),j.2.2.1,j.2.2.2.2.1,j.2.2.2.2.2.2.2.2⟩:dzk))
def ezr (c)(d)(e)(f):=
 mkD Tryz.func168 (gzu c d e f) 0 [XK 3 az1 c,XK 3 az1 d,pz e,pz f] [] (λr=>.pure (Kzx r)) XL
def hzg {o:Ax->Option Bool}(Y:YldS Tryz.prog az1 o)(a0:B5)(a1:B5)(a2:Int)(a3:Int)(a4:Ay):T Bg:=
 .cut 1 (λ(y22:Bool)=>⟨[(0,.yld Y.l),(1,XM 1),(2,XM 2),(3,XM 3),(4,XM 4),(5,XM 5),(31,XJ y22)],[(0,.tok Y.τ (tokP false (az1 qw))),(1,.box [XK 6 az3 a0]),(2,.box [XK 6 az3 a1]),(3,.box [pz a2]),(4,.box [pz a3]),(5,.box [XK 3 az1 a4])],[],6⟩) (.call (dzs a0) [] λy23=>.br (!y23) (.kj (.out true)) (.call (dzs a1) [] λy24=>.br (!y24) (.kj (.out true)) (.call (kzw a2) [] λy25=>.br (!y25) (.kj (.out true)) (.call (kzw a3) [] λy26=>.kj (.out (!y26)))))) λy22=>.br y22 (.kj (false,qw,a0,a1,a2,a3,a4)) (.loop (λ(x87:(Int×Bool×Ax))=>⟨[(0,.yld Y.l),(1,XM 1),(2,XM 2),(3,XM 3),(4,XM 4),(32,XK 3 az1 a4),(33,pz (a4.length:Int)),(34,pz x87.1)],[(0,.tok Y.τ (tokP x87.2.1 (az1 x87.2.2))),(1,.box [XK 6 az3 a0]),(2,.box [XK 6 az3 a1]),(3,.box [pz a2]),(4,.box [pz a3]),(5,.box [XK 3 az1 a4])],[],6⟩) (.exit 0) (λ(y102:(Bool×Ax))=>⟨[(0,.yld Y.l),(1,XM 1),(2,XM 2),(3,XM 3),(4,XM 4)],[(0,.tok Y.τ (tokP y102.1 (az1 y102.2))),(1,.box [XK 6 az3 a0]),(2,.box [XK 6 az3 a1]),(3,.box [pz a2]),(4,.box [pz a3]),(5,.box [XK 3 az1 a4])],[],6⟩) (λx87=>.br (qx (x87.1<(a4.length:Int))) (.grd (0<=x87.1/\x87.1<(a4.length:Int))<|.cut 0 (λ(y114:B9)=>⟨[(0,.yld Y.l),(1,XM 1),(2,XM 2),(3,XM 3),(4,XM 4),(32,XK 3 az1 a4),(33,pz (a4.length:Int)),(34,pz x87.1),(45,XJ y114.1)],[(0,.tok Y.τ (tokP y114.2.1 (az1 y114.2.2))),(1,.box [XK 6 az3 a0]),(2,.box [XK 6 az3 a1]),(3,.box [pz a2]),(4,.box [pz a3]),(5,.box [XK 3 az1 a4])],[],6⟩) (.call (fzk (a4.getD (XI x87.1) qw)) [] λy115=>.br y115 (.call (Y.C x87.2.1 x87.2.2 (a4.getD (XI x87.1) qw)) [(0,0)] λy116=>.kj (.out ((!(!y116)),y116,(a4.getD (XI x87.1) qw)))) (.kj (.out (false,x87.2.1,x87.2.2)))) λy114=>.br y114.1 (.kj (.fin (y114.2.1,y114.2.2,a0,a1,a2,a3,a4))) (.kj (.next ((qv.wrap (x87.1+1)),y114.2.1,y114.2.2)))) (.kj (.out (x87.2.1,x87.2.2)))) (0,false,qw) [] λy102=>.call (nza a0 a1) [] λy124=>.cut 0 (λ(y127:B9)=>⟨[(0,.yld Y.l),(1,XM 1),(2,XM 2),(3,XM 3),(4,XM 4),(59,XJ y127.1)],[(0,.tok Y.τ (tokP y127.2.1 (az1 y127.2.2))),(1,.box [XK 6 az3 a0]),(2,.box [XK 6 az3 a1]),(3,.box [pz a2]),(4,.box [pz a3]),(5,.box [XK 3 az1 a4])],[],6⟩) (.br y124.2 (.call (Y.C y102.1 y102.2 y124.1) [(0,0)] λy128=>.kj (.out ((!(!y128)),y128,y124.1))) (.kj (.out (false,y102.1,y102.2)))) λy127=>.br y127.1 (.kj (y127.2.1,y127.2.2,a0,a1,a2,a3,a4)) (.call (tzg) [] λy147=>.loop (λ(x153:(Int×Bool×Ax))=>⟨[(0,.yld Y.l),(1,XM 1),(2,XM 2),(3,XM 3),(4,XM 4),(60,XK 3 az1 y147),(61,pz (y147.length:Int)),(62,pz x153.1)],[(0,.tok Y.τ (tokP x153.2.1 (az1 x153.2.2))),(1,.box [XK 6 az3 a0]),(2,.box [XK 6 az3 a1]),(3,.box [pz a2]),(4,.box [pz a3]),(5,.box [XK 3 az1 a4])],[],6⟩) (.exit 2) (λ(y158:(Bool×Ax))=>⟨[(0,.yld Y.l),(1,XM 1),(2,XM 2),(3,XM 3),(4,XM 4)],[(0,.tok Y.τ (tokP y158.1 (az1 y158.2))),(1,.box [XK 6 az3 a0]),(2,.box [XK 6 az3 a1]),(3,.box [pz a2]),(4,.box [pz a3]),(5,.box [XK 3 az1 a4])],[],6⟩) (λx153=>.br (qx (x153.1<(y147.length:Int))) (.grd (0<=x153.1/\x153.1<(y147.length:Int))<|.call (Y.C x153.2.1 x153.2.2 (y147.getD (XI x153.1) qw)) [(0,0)] λy162=>.br (!(!y162)) (.kj (.fin (y162,(y147.getD (XI x153.1) qw),a0,a1,a2,a3,a4))) (.kj (.next ((qv.wrap (x153.1+1)),y162,(y147.getD (XI x153.1) qw))))) (.kj (.out (x153.2.1,x153.2.2)))) (0,y127.2.1,y127.2.2) [] λy158=>.call (dzf a0) [] λy166=>.call (dzf a1) [] λy167=>.call (ezr y166 y167 (qv.wrap (a2+a3)) 64) [] λy168=>.call (fzk y168.Xx) [] λy170=>.br y170 (.call (Y.C y158.1 y158.2 y168.Xx) [(0,0)] λy171=>.kj (y171,y168.Xx,a0,a1,a2,a3,a4)) (.kj (y158.1,y158.2,a0,a1,a2,a3,a4))))
def hzf {o:Ax->Option Bool}(Y:YldS Tryz.prog az1 o)(a0:B5)(a1:B5)(a2:Int)(a3:Int)(a4:Ay):CallS Bg:=
 mkD Tryz.func247 (hzg Y a0 a1 a2 a3 a4) 6 [.yld Y.l,XM 1,XM 2,XM 3,XM 4,XM 5] [(0,.tok Y.τ (tokP false (az1 qw))),(1,.box [XK 6 az3 a0]),(2,.box [XK 6 az3 a1]),(3,.box [pz a2]),(4,.box [pz a3]),(5,.box [XK 3 az1 a4])] (λ_=>.tup []) (λr=>[(0,.tok Y.τ (tokP r.1 (az1 r.2.1))),(1,.box [XK 6 az3 r.2.2.1]),(2,.box [XK 6 az3 r.2.2.2.1]),(3,.box [pz r.2.2.2.2.1]),(4,.box [pz r.2.2.2.2.2.1]),(5,.box [XK 3 az1 r.2.2.2.2.2.2])])
def nz9 (c:B5)(d:Int)(e:B5)(f:Int)(_a4:Ay)(x:Ax):T Bool:=
 .cc (mzg x c d e f) λg=>.br g (.kj true) (.kj false)
def tzh (a0:B5)(a1:Int)(a2:B5)(a3:Int)(a4:Ay):CallS B3:=
 mkR (encX:=az1) [⟨204,az69⟩] hd Tryz.func167 (by kernel_rfl) (.call (izq a0 a1 a2 a3 a4) [] λy1=>.kj y1) (nz9 a0 a1 a2 a3 a4) [(0,.box [XK 6 az3 a0]),(64,.box [pz a1]),(128,.box [XK 6 az3 a2]),(192,.box [pz a3]),(256,.box [pz 0,pz 0,pz 0]),(320,.box [.ff])] (λp=>[(0,.box [XK 6 az3 a0]),(64,.box [pz a1]),(128,.box [XK 6 az3 a2]),(192,.box [pz a3]),(256,.box (p.cells.map .pure)),(320,.box [.tt])]) [(0,960),(1,832),(2,833),(3,834),(4,835),(5,836)] (λr=>r.1) (λr=>r.2.1) (λy1 Y=>hzf Y y1.1 y1.2.1 y1.2.2.1 y1.2.2.2.1 y1.2.2.2.2) (.kj ((0,0,0),false)) (λx=>(x,true)) (λ_ _=>rfl) 0 [XK 6 az3 a0,pz a1,XK 6 az3 a2,pz a3,XK 3 az1 a4] [] (λr=>.tup [.pure (az1 r.1),XJ r.2]) XL (by kernel_rfl)
def rzb (c:B5)(d:A1):T (B4×Int×Bool):=let e:=encL 6 az3 c;let f:=encL 1 az2 d;let g:=(d.length:Int);.cut 2 (λ(h:Bool)=>⟨[(0,.pure e),(1,.pure f),(4,XM 0),(22,XJ h)],[(0,.box [pz 0,pz 0,pz 0,pz 0,pz 0,pz 0])],[],1⟩) (.cc (dzs c) λh=>.br (!h) (.oo true) (.oo (g !=(c.length:Int)))) λh=>.br h (.kj (((⟨0,0⟩:az0),(⟨0,0⟩:az0),(⟨0,0⟩:az0)),0,false)) (.loop (λ(i:(Int×Int×Int×Int×Int×Int×Int×Int))=>⟨[(0,.pure e),(4,XM 0),(7,XM 1),(8,pz i.2.2.2.2.2.2.1),(24,.pure f),(25,pz g),(26,pz i.2.2.2.2.2.2.2)],[(0,.box [pz 0,pz 0,pz 0,pz 0,pz 0,pz 0]),(1,.box [pz i.1,pz i.2.1,pz i.2.2.1,pz i.2.2.2.1,pz i.2.2.2.2.1,pz i.2.2.2.2.2.1])],[],2⟩) (.exit 0) (λ(i:Bh)=>⟨[(4,XM 0),(7,XM 1),(8,pz i.2.2.2.2.2.2)],[(0,.box [pz 0,pz 0,pz 0,pz 0,pz 0,pz 0]),(1,.box [pz i.1,pz i.2.1,pz i.2.2.1,pz i.2.2.2.1,pz i.2.2.2.2.1,pz i.2.2.2.2.2.1])],[],2⟩) (λi=>let j:=(i.2.2.2.2.2.2.2).toNat;let k:=d.getD j qw;let m:=c.getD j qw;.br (qx (i.2.2.2.2.2.2.2<g)) (.gh i.2.2.2.2.2.2.2 d.length<|.cut 1 (λ(n:Bool)=>⟨[(0,.pure e),(4,XM 0),(7,XM 1),(8,pz i.2.2.2.2.2.2.1),(9,pz i.2.2.2.2.2.2.2),(10,pz k),(24,.pure f),(25,pz g),(26,pz i.2.2.2.2.2.2.2),(36,XJ n)],[(0,.box [pz 0,pz 0,pz 0,pz 0,pz 0,pz 0]),(1,.box [pz i.1,pz i.2.1,pz i.2.2.1,pz i.2.2.2.1,pz i.2.2.2.2.1,pz i.2.2.2.2.2.1])],[],2⟩) (.br (qx (k<0)) (.oo true) (.oo (qx (k>65536)))) λn=>.br n (.ff (((⟨0,0⟩:az0),(⟨0,0⟩:az0),(⟨0,0⟩:az0)),0,false)) (.gh i.2.2.2.2.2.2.2 c.length<|.unroll 4<|.kh<|.jW<|.jW<|.name 14007 ((qv.wrap (k * (m.1.Lo)))) λs=>.name 14008 ((qv.wrap (i.1+s))) λt=>.jW<|.jW<|.name 15007 ((qv.wrap (k * (m.1.Hi)))) λw=>.name 15008 ((qv.wrap (i.2.1+w))) λy=>.jW<|.lit 16000 1<|.kh<|.jX<|.jX<|.name 14007 ((qv.wrap (k * (m.2.1.Lo)))) λz=>.name 14008 ((qv.wrap (i.2.2.1+z))) λaa=>.jX<|.jX<|.name 15007 ((qv.wrap (k * (m.2.1.Hi)))) λab=>.name 15008 ((qv.wrap (i.2.2.2.1+ab))) λac=>.jX<|.lit 16000 2<|.kh<|.jY<|.jY<|.name 14007 ((qv.wrap (k * (m.2.2.Lo)))) λad=>.name 14008 ((qv.wrap (i.2.2.2.2.1+ad))) λae=>.jY<|.jY<|.name 15007 ((qv.wrap (k * (m.2.2.Hi)))) λaf=>.name 15008 ((qv.wrap (i.2.2.2.2.2.1+af))) λag=>.jY<|.lit 16000 3<|.ki<|.nn (t,y,aa,ac,ae,ag,(qv.wrap (i.2.2.2.2.2.2.1+k)),(qv.wrap (i.2.2.2.2.2.2.2+1))))) (.oo (i.1,i.2.1,i.2.2.1,i.2.2.2.1,i.2.2.2.2.1,i.2.2.2.2.2.1,i.2.2.2.2.2.2.1))) (0,0,0,0,0,0,0,0) [] λi=>.cut 1 (λ(j:Bool)=>⟨[(4,XM 0),(7,XM 1),(8,pz i.2.2.2.2.2.2),(78,XJ j)],[(0,.box [pz 0,pz 0,pz 0,pz 0,pz 0,pz 0]),(1,.box [pz i.1,pz i.2.1,pz i.2.2.1,pz i.2.2.2.1,pz i.2.2.2.2.1,pz i.2.2.2.2.2.1])],[],2⟩) (.br (qx (i.2.2.2.2.2.2<1)) (.oo true) (.oo (qx (i.2.2.2.2.2.2>65536)))) λj=>.br j (.kj (((⟨0,0⟩:az0),(⟨0,0⟩:az0),(⟨0,0⟩:az0)),0,false)) (.kj (((⟨i.1,i.2.1⟩:az0),(⟨i.2.2.1,i.2.2.2.1⟩:az0),(⟨i.2.2.2.2.1,i.2.2.2.2.2.1⟩:az0)),i.2.2.2.2.2.2,true)))
def rza (c)(d):=
 mkD Tryz.func265 (rzb c d) 0 [XK 6 az3 c,XK 1 az2 d] [] (λr=>.tup [.pure (az3 r.1),pz r.2.1,XJ r.2.2]) XL
def lz3 (c:Int):T Bool:=
 .br (qx (c>=0)) (.kj (qx (c<=1048576))) (.kj false)
def lz2 (c):=
 mkD Tryz.func266 (lz3 c) 0 [pz c] [] XJ XL
def lz1 (c:A1):T Int:=let d:=(c.length:Int);.loop (λ(e:Ar)=>⟨[(3,pz e.1),(6,XK 1 az2 c),(7,pz d),(8,pz e.2)],[],[],0⟩) (.exit 0) (λ(e:Int)=>⟨[(3,pz e)],[],[],0⟩) (λe=>let f:=c.getD (XI e.2) qw;.br (qx (e.2<d)) (.gh e.2 c.length<|.nn ((max (max e.1 f) (qv.wrap (0-f))),(qv.wrap (e.2+1)))) (.oo e.1)) (0,0) [] λe=>.kj e
def hzn (c):=
 mkD Tryz.func267 (lz1 c) 0 [XK 1 az2 c] [] pz XL
def ozm (c:A1)(d:A1)(e:B5)(f:Int)(g:B5)(h:Int):T Au:=let i:=qv.wrap (f+h);.cc (rza e c) λj=>.cc (rza g d) λk=>let m:=([(qv.wrap (j.1.1.Lo-k.1.1.Hi)),(qv.wrap (j.1.1.Hi-k.1.1.Lo))]:A1);let n:=([(qv.wrap (j.1.2.1.Lo-k.1.2.1.Hi)),(qv.wrap (j.1.2.1.Hi-k.1.2.1.Lo))]:A1);let s:=([(qv.wrap (j.1.2.2.Lo-k.1.2.2.Hi)),(qv.wrap (j.1.2.2.Hi-k.1.2.2.Lo))]:A1);
 .cut 1 (λ(t:Bool)=>⟨[(3,pz f),(5,pz h),(12,XM 0),(13,XM 1),(14,XM 2),(15,pz j.2.1),(17,XM 3),(59,XJ t)],[(0,.box [pz 0]),(1,.box [.ff]),(2,.box [pz j.1.1.Lo,pz j.1.1.Hi,pz j.1.2.1.Lo,pz j.1.2.1.Hi,pz j.1.2.2.Lo,pz j.1.2.2.Hi]),(3,.box [pz k.1.1.Lo,pz k.1.1.Hi,pz k.1.2.1.Lo,pz k.1.2.1.Hi,pz k.1.2.2.Lo,pz k.1.2.2.Hi])],[.func 264 [] [XM 0,XM 1]],4⟩) (.br (!j.2.2) (.oo true) (.br (!k.2.2) (.oo true) (.br (j.2.1 !=k.2.1) (.oo true) (.cc (lz2 f) λt=>.br (!t) (.oo true) (.cc (lz2 h) λw=>.oo (!w)))))) λt=>.br t (.kj (0,false)) (.unroll 4<|.kh<|.jW<|.jW<|.jW<|.jW<|.conv 11018 (bzx 1 az2 m 2)<|.cc (hzn m) λw=>let y:=qv.wrap ((qv.wrap ((qv.wrap (w+j.2.1))-1)).tdiv j.2.1);
 .grd (j.2.1≠0)<|.br (qx (y>i)) (.kj ((-1),true)) (.name 15003 ((qv.wrap (y * y))) λz=>.name 15004 ((qv.wrap ((qv.wrap (i * i))-z))) λaa=>.lit 16000 1<|.kh<|.jX<|.jX<|.jX<|.jX<|.conv 11018 (bzx 1 az2 n 2)<|.cc (hzn n) λab=>let ac:=qv.wrap ((qv.wrap ((qv.wrap (ab+j.2.1))-1)).tdiv j.2.1);
 .grd (j.2.1≠0)<|.br (qx (ac>i)) (.kj ((-1),true)) (.name 15003 ((qv.wrap (ac * ac))) λad=>.name 15004 ((qv.wrap (aa-ad))) λae=>.lit 16000 2<|.kh<|.jY<|.jY<|.jY<|.jY<|.conv 11018 (bzx 1 az2 s 2)<|.cc (hzn s) λaf=>let ag:=qv.wrap ((qv.wrap ((qv.wrap (af+j.2.1))-1)).tdiv j.2.1);
 .grd (j.2.1≠0)<|.br (qx (ag>i)) (.kj ((-1),true)) (.name 15003 ((qv.wrap (ag * ag))) λah=>.name 15004 ((qv.wrap (ae-ah))) λai=>.lit 16000 3<|.ki<|.kj (ai,true)))))
def yzd (c)(d)(e)(f)(g)(h):=
 mkC [⟨264,az6c⟩] hd Tryz.func213 (by kernel_rfl) (ozm c d e f g h) 0 [XK 1 az2 c,XK 1 az2 d,XK 6 az3 e,pz f,XK 6 az3 g,pz h] [] (λr=>.tup [pz r.1,XJ r.2]) XL (by kernel_rfl)
def lz0 (c:A1)(d:A1)(e:B5)(f:Int)(g:B5)(h:Int):T Bool:=
 .cc (yzd c d e f g h) λi=>.br i.2 (.kj (qx (i.1>=0))) (.kj false)
def kzz (c)(d)(e)(f)(g)(h):=
 mkC [⟨212,az6a⟩] hd Tryz.func170 (by kernel_rfl) (lz0 c d e f g h) 0 [XK 1 az2 c,XK 1 az2 d,XK 6 az3 e,pz f,XK 6 az3 g,pz h] [] XJ XL (by kernel_rfl)
def Ezo (c:ezu):T dzl:=
 .kj (⟨2,nl,c.witness⟩:dzl)
def Ezn (c):=
 mkD Tryz.func171 (Ezo c) 0 [.iface 258 (.pure (yzq c))] [] (λr=>.pure (wz2 r)) XL
def Cz3 (c:cz1):T dzl:=
 .kj (⟨1,c.normals,(⟨0,nl,nl⟩:bzj)⟩:dzl)
def Cz2 (c):=
 mkD Tryz.func171 (Cz3 c) 0 [.iface 260 (.pure (gzn c))] [] (λr=>.pure (wz2 r)) XL
def szr (c:azd)(d:Af)(e:Ay):T dzl:=let f:=encL 3 az1 e;let g:=(e.length:Int);.cc (oz7 (⟨c.Xf,c.Xd,c.Xj⟩:azd) d) λh=>let i:=(h.1.pairs.length:Int);let j:Nat×Res:=(4,.box [XK 3 azk h.1.shapes,XK 2 dzy h.1.pairs,XK 1 (encL 6 az3) h.1.points]);
 .br (!h.2) (.kj (⟨0,nl,(⟨0,nl,nl⟩:bzj)⟩:dzl)) (.conv 5003 (Kzr 3 az1 96 i.toNat (0,0,0))<|.grd (0<=i/\i<=i/\i<=9223372036854775807/\i * 24<=140737488355328)<|.loop (λ(k:(Ay×Bool×Int))=>⟨[(2,.pure f),(6,XM 0),(7,XM 4),(9,.vec 5),(10,XJ k.2.1),(33,pz i),(34,pz k.2.2)],[(0,.box [pz 0,.vec 1,pz 0,.vec 2,.vec 3]),(1,.nilv),(2,.nilv),(3,.nilv),j,(5,vecO 3 az1 k.1 96)],[.func 164 [] [XM 0]],6⟩) (.exit 0) (λ(k:(Ay×Bool))=>⟨[(6,XM 0),(9,.vec 4),(10,XJ k.2)],[(0,.box [pz 0,.vec 1,pz 0,.vec 2,.vec 3]),(1,.nilv),(2,.nilv),(3,.nilv),(4,vecO 3 az1 k.1 96)],[.func 164 [] [XM 0]],5⟩) (λk=>let m:=k.2.2;let n:=min k.2.2 g;let s:=qv.wrap (k.2.2+1);let t:=min s g;.br (qx (k.2.2<i)) (.cut 0 (λ(w:(Ay×Bool))=>⟨[(2,.pure f),(6,XM 0),(7,XM 4),(9,.vec 5),(10,XJ w.2),(33,pz i),(34,pz k.2.2)],[(0,.box [pz 0,.vec 1,pz 0,.vec 2,.vec 3]),(1,.nilv),(2,.nilv),(3,.nilv),j,(5,vecO 3 az1 w.1 96)],[.func 164 [] [XM 0]],6⟩) (.cc (pz7 (⟨h.1.shapes,h.1.pairs,h.1.points⟩:czk) k.2.2) λw=>.conv 11010 (Gzx 3 az1 e n t)<|.grd (0<=n/\n<=t/\t<=g)<|.call (tzh w.a w.ra w.b w.rb ((e.drop (n.toNat)).take (t.toNat-n.toNat))) [] λy=>.br y.2 (.gh k.2.2 k.1.length<|.conv 14004 (fzr 3 az1 k.1 96 (m.toNat) y.1)<|.gi m k.1.length<|.oo ((k.1.set (m.toNat) y.1),k.2.1)) (.cc (dzf w.a) λz=>.cc (dzf w.b) λaa=>.cc (ezr z aa (qv.wrap (w.ra+w.rb)) 64) λab=>.cc (kzz ab.Left ab.Xv w.a w.ra w.b w.rb) λac=>.br ac (.cc (Ezn (⟨(⟨k.2.2,ab.Left,ab.Xv⟩:bzj)⟩:ezu)) λad=>.ff (.fin ad)) (.oo (k.1,false)))) λw=>.nn (w.1,w.2,s)) (.oo (k.1,k.2.1))) ((qu i.toNat ((0,0,0):Ax)),true,0) [] λk=>.br (!k.2) (.kj (⟨0,k.1,(⟨0,nl,nl⟩:bzj)⟩:dzl)) (.cc (Cz2 (⟨k.1⟩:cz1)) λm=>.kj m))
def nz0 (c)(d)(e):=
 mkC [⟨164,az67⟩] hd Tryz.func126 (by kernel_rfl) (szr c d e) 0 [.pure (bzh c),XK 2 azb d,XK 3 az1 e] [] (λr=>.pure (wz2 r)) XL (by kernel_rfl)
abbrev tz1:=RecS Tryz.prog 124 8 (Int×Int×Ay×A0×Int×A0×Int×Int×Ay×Int×A1×A1×A1×A1×A9×Aa×Ab×Ac×Int) Bj (λa=>[pz a.1,pz a.2.1,XK 3 az1 a.2.2.1,XM 0,XM 2,XM 3,XM 4,XM 5,XM 6,XM 7]) (λa=>[(0,.box [.vec 1]),(1,vecO 3 azl a.2.2.2.1 80),(2,.box [pz a.2.2.2.2.1,XK 3 azl a.2.2.2.2.2.1,pz a.2.2.2.2.2.2.1,pz a.2.2.2.2.2.2.2.1,XK 3 az1 a.2.2.2.2.2.2.2.2.1,pz a.2.2.2.2.2.2.2.2.2.1,XK 1 az2 a.2.2.2.2.2.2.2.2.2.2.1,XK 1 az2 a.2.2.2.2.2.2.2.2.2.2.2.1]),(3,.box [XK 1 az2 a.2.2.2.2.2.2.2.2.2.2.2.2.1]),(4,.box [XK 1 az2 a.2.2.2.2.2.2.2.2.2.2.2.2.2.1]),(5,.box [XK 12 azc a.2.2.2.2.2.2.2.2.2.2.2.2.2.2.1,XK 5 azf a.2.2.2.2.2.2.2.2.2.2.2.2.2.2.2.1,XK 3 azk a.2.2.2.2.2.2.2.2.2.2.2.2.2.2.2.2.1,XK 2 azu a.2.2.2.2.2.2.2.2.2.2.2.2.2.2.2.2.2.1]),(6,.box [pz a.2.2.2.2.2.2.2.2.2.2.2.2.2.2.2.2.2.2]),(7,.box [.func 124 [] [XM 0,XM 2,XM 3,XM 4,XM 5,XM 6,XM 7]])]) (λ_ r=>XJ r.1) (λ_ r=>[(0,.box [.vec 8]),(1,.gone),(2,.box [pz r.2.2.1,XK 3 azl r.2.2.2.1,pz r.2.2.2.2.1,pz r.2.2.2.2.2.1,XK 3 az1 r.2.2.2.2.2.2.1,pz r.2.2.2.2.2.2.2.1,XK 1 az2 r.2.2.2.2.2.2.2.2.1,XK 1 az2 r.2.2.2.2.2.2.2.2.2.1]),(3,.box [XK 1 az2 r.2.2.2.2.2.2.2.2.2.2.1]),(4,.box [XK 1 az2 r.2.2.2.2.2.2.2.2.2.2.2.1]),(5,.box [XK 12 azc r.2.2.2.2.2.2.2.2.2.2.2.2.1,XK 5 azf r.2.2.2.2.2.2.2.2.2.2.2.2.2.1,XK 3 azk r.2.2.2.2.2.2.2.2.2.2.2.2.2.2.1,XK 2 azu r.2.2.2.2.2.2.2.2.2.2.2.2.2.2.2.1]),(6,.box [pz r.2.2.2.2.2.2.2.2.2.2.2.2.2.2.2.2]),(7,.box [.func 124 [] [XM 0,XM 2,XM 3,XM 4,XM 5,XM 6,XM 7]]),(8,vecO 3 azl r.2.1 80)])
def tz2 (rec:tz1)(c:Int)(d:Int)(e:Ay)(f:A0)(g:Int)(h:A0)(i:Int)(j:Int)(k:Ay)(m:Int)(n:A1)(s:A1)(t:A1)(w:A1)(y:A9)(z:Aa)(aa:Ab)(ab:Ac)(ac:Int):T Bj:=let ad:=qv.wrap (c+1);let ae:=qv.wrap (2 * d);.br (qx ((f.length:Int)>=4096)) (.kj (false,f,0,nl,c,d,nl,0,nl,nl,t,w,y,z,aa,ab,ac)) (.cc (nz1 t w c d) λaf=>.cc (nz0 (⟨(⟨y,z⟩:azo),aa,ab⟩:azd) af.1 e) λag=>let ah:=([(⟨c,d,ag.Xe⟩:az8)]:A0);let ai:=f.length+ah.length;
 .br (ag.Xm==1) (.conv 8006 (bzx 3 azl ah 80)<|.conv 8007 (czx 3 azl f ah 80)<|.grd (ai * 40<=140737488355328/\ai<=maxLen)<|.kj (true,(f++ah),g,h,i,j,k,m,n,s,t,w,y,z,aa,ab,ac)) (.br (ag.Xm==2) (.kj (false,f,2,nl,c,d,nl,ag.Xl.XC,ag.Xl.Left,ag.Xl.Xv,t,w,y,z,aa,ab,ac)) (.br (qx (c<ac)) (.call (rec.C (ad,ae,ag.Xe,f,g,h,i,j,k,m,n,s,t,w,y,z,aa,ab,ac)) [(0,0),(1,1),(2,2),(3,3),(4,4),(5,5),(6,6),(7,7)] λaj=>.br aj.1 (.call (rec.C (ad,(qv.wrap (ae+1)),ag.Xe,aj.2.1,aj.2.2.1,aj.2.2.2.1,aj.2.2.2.2.1,aj.2.2.2.2.2.1,aj.2.2.2.2.2.2.1,aj.2.2.2.2.2.2.2.1,aj.2.2.2.2.2.2.2.2.1,aj.2.2.2.2.2.2.2.2.2.1,aj.2.2.2.2.2.2.2.2.2.2.1,aj.2.2.2.2.2.2.2.2.2.2.2.1,aj.2.2.2.2.2.2.2.2.2.2.2.2.1,aj.2.2.2.2.2.2.2.2.2.2.2.2.2.1,aj.2.2.2.2.2.2.2.2.2.2.2.2.2.2.1,aj.2.2.2.2.2.2.2.2.2.2.2.2.2.2.2.1,aj.2.2.2.2.2.2.2.2.2.2.2.2.2.2.2.2)) [(0,0),(1,2824),(2,2),(3,3),(4,4),(5,5),(6,6),(7,7)] λak=>.kj (ak.1,ak.2.1,ak.2.2.1,ak.2.2.2.1,ak.2.2.2.2.1,ak.2.2.2.2.2.1,ak.2.2.2.2.2.2.1,ak.2.2.2.2.2.2.2.1,ak.2.2.2.2.2.2.2.2.1,ak.2.2.2.2.2.2.2.2.2.1,ak.2.2.2.2.2.2.2.2.2.2.1,ak.2.2.2.2.2.2.2.2.2.2.2.1,ak.2.2.2.2.2.2.2.2.2.2.2.2.1,ak.2.2.2.2.2.2.2.2.2.2.2.2.2.1,ak.2.2.2.2.2.2.2.2.2.2.2.2.2.2.1,ak.2.2.2.2.2.2.2.2.2.2.2.2.2.2.2.1,ak.2.2.2.2.2.2.2.2.2.2.2.2.2.2.2.2)) (.kj (false,aj.2.1,aj.2.2.1,aj.2.2.2.1,aj.2.2.2.2.1,aj.2.2.2.2.2.1,aj.2.2.2.2.2.2.1,aj.2.2.2.2.2.2.2.1,aj.2.2.2.2.2.2.2.2.1,aj.2.2.2.2.2.2.2.2.2.1,aj.2.2.2.2.2.2.2.2.2.2.1,aj.2.2.2.2.2.2.2.2.2.2.2.1,aj.2.2.2.2.2.2.2.2.2.2.2.2.1,aj.2.2.2.2.2.2.2.2.2.2.2.2.2.1,aj.2.2.2.2.2.2.2.2.2.2.2.2.2.2.1,aj.2.2.2.2.2.2.2.2.2.2.2.2.2.2.2.1,aj.2.2.2.2.2.2.2.2.2.2.2.2.2.2.2.2))) (.kj (false,f,0,nl,c,d,nl,0,nl,nl,t,w,y,z,aa,ab,ac)))))
def hz8:tz1->tz1:=RecS.next [] hd Tryz.func124 (by kernel_rfl) (λrec a=>tz2 rec a.1 a.2.1 a.2.2.1 a.2.2.2.1 a.2.2.2.2.1 a.2.2.2.2.2.1 a.2.2.2.2.2.2.1 a.2.2.2.2.2.2.2.1 a.2.2.2.2.2.2.2.2.1 a.2.2.2.2.2.2.2.2.2.1 a.2.2.2.2.2.2.2.2.2.2.1 a.2.2.2.2.2.2.2.2.2.2.2.1 a.2.2.2.2.2.2.2.2.2.2.2.2.1 a.2.2.2.2.2.2.2.2.2.2.2.2.2.1 a.2.2.2.2.2.2.2.2.2.2.2.2.2.2.1 a.2.2.2.2.2.2.2.2.2.2.2.2.2.2.2.1 a.2.2.2.2.2.2.2.2.2.2.2.2.2.2.2.2.1 a.2.2.2.2.2.2.2.2.2.2.2.2.2.2.2.2.2.1 a.2.2.2.2.2.2.2.2.2.2.2.2.2.2.2.2.2.2) (λrec a=>by kernel_rfl)
def Cze (a0:Int)(a1:Int)(a2:Ay)(a3:A0)(a4:Int)(a5:A0)(a6:Int)(a7:Int)(a8:Ay)(a9:Int)(a10:A1)(a11:A1)(a12:A1)(a13:A1)(a14:A9)(a15:Aa)(a16:Ab)(a17:Ac)(a18:Int):CallS Bj:=(RecS.fix hz8 NN).C (a0,a1,a2,a3,a4,a5,a6,a7,a8,a9,a10,a11,a12,a13,a14,a15,a16,a17,a18)
def nzm (c:azd)(d:A1)(e:A1)(f:Int):T azr:=let g:=encL 1 az2 d;let h:=encL 1 az2 e;let i:Nat×Res:=(0,.box [XK 12 azc c.Xf.Xb,XK 5 azf c.Xf.Xh,XK 3 azk c.Xd,XK 2 azu c.Xj]);.unroll 1000<|.cut 2 (λ(j:Bool)=>⟨[(4,XM 0),(5,XM 1),(6,XM 2),(7,XM 3),(8,XM 4),(28,XJ j)],[i,(1,.box [.pure g]),(2,.box [.pure h]),(3,.box [pz f]),(4,.box [pz 0,.pure (.lst 0 0 λ_=>.unk),pz 0,pz 0,.pure (.lst 0 0 λ_=>.unk),pz 0,.pure (.lst 0 0 λ_=>.unk),.pure (.lst 0 0 λ_=>.unk)])],[.func 122 [] [XM 4]],5⟩) (.cc (ezz c) λj=>.br (j !=0) (.oo true) (.cc (gz6 c.Xf d) λk=>.br (!k) (.oo true) (.cc (gz6 c.Xf e) λm=>.oo (!m)))) λj=>.br j (.kj (⟨0,nl,(⟨0,0,nl⟩:az8),(⟨0,nl,nl⟩:bzj)⟩:azr)) (.cut 1 (λ(k:Bool)=>⟨[(4,XM 0),(5,XM 1),(6,XM 2),(7,XM 3),(8,XM 4),(35,XJ k)],[i,(1,.box [.pure g]),(2,.box [.pure h]),(3,.box [pz f]),(4,.box [pz 0,.pure (.lst 0 0 λ_=>.unk),pz 0,pz 0,.pure (.lst 0 0 λ_=>.unk),pz 0,.pure (.lst 0 0 λ_=>.unk),.pure (.lst 0 0 λ_=>.unk)])],[.func 122 [] [XM 4]],5⟩) (.br (qx (f<0)) (.oo true) (.oo (qx (f>20)))) λk=>.br k (.kj (⟨0,nl,(⟨0,0,nl⟩:az8),(⟨0,nl,nl⟩:bzj)⟩:azr)) (.cut 3 (λ(m:(Int×A0×Int×Int×Ay×Int×A1×A1))=>⟨[(8,XM 0)],[(0,.box [pz m.1,XK 3 azl m.2.1,pz m.2.2.1,pz m.2.2.2.1,XK 3 az1 m.2.2.2.2.1,pz m.2.2.2.2.2.1,XK 1 az2 m.2.2.2.2.2.2.1,XK 1 az2 m.2.2.2.2.2.2.2])],[.func 122 [] [XM 0]],1⟩) (.call (Cze 0 0 nl nl 0 nl 0 0 nl 0 nl nl d e c.Xf.Xb c.Xf.Xh c.Xd c.Xj f) [(0,5),(1,6),(2,4),(3,1),(4,2),(5,0),(6,3),(7,69)] λm=>.br m.1 (.oo (1,m.2.1,0,0,nl,0,nl,nl)) (.oo (m.2.2.1,m.2.2.2.1,m.2.2.2.2.1,m.2.2.2.2.2.1,m.2.2.2.2.2.2.1,m.2.2.2.2.2.2.2.1,m.2.2.2.2.2.2.2.2.1,m.2.2.2.2.2.2.2.2.2.1))) λm=>.kj (⟨m.1,m.2.1,(⟨m.2.2.1,m.2.2.2.1,m.2.2.2.2.1⟩:az8),(⟨m.2.2.2.2.2.1,m.2.2.2.2.2.2.1,m.2.2.2.2.2.2.2⟩:bzj)⟩:azr)))
def jzx (c)(d)(e)(f):=
 mkC [⟨122,az64⟩] hd Tryz.func85 (by kernel_rfl) (nzm c d e f) 0 [.pure (bzh c),XK 1 az2 d,XK 1 az2 e,pz f] [] (λr=>.pure (nz2 r)) XL (by kernel_rfl)
def uzf (c:bzg):T Ar:=
 .cc (ezz c.scene) λd=>.br (d !=0) (.kj (0,904)) (.kj (0,0))
def Dz9 (c):=
 mkD Tryz.func215 (uzf c) 0 [.pure (fzz c)] [] (λr=>.tup [pz r.1,pz r.2]) XL
def rz2 (c:bzg):T Ar:=
 .cut 2 (λ(d:Bool)=>⟨[(19,XJ d)],[],[],0⟩) (.cc (gz6 c.scene.Xf c.p) λd=>.br (!d) (.oo true) (.cc (gz6 c.scene.Xf c.q) λe=>.oo (!e))) λd=>.br d (.kj (0,1201)) (.kj (0,0))
def Bz2 (c):=
 mkD Tryz.func216 (rz2 c) 0 [.pure (fzz c)] [] (λr=>.tup [pz r.1,pz r.2]) XL
open Go.Proofs
def rz3 (c:bzg):T Ar:=let d:=encL 3 azl c.pieces;let e:=(c.pieces.length:Int);let f:Nat×Res:=(0,.box [XK 12 azc c.scene.Xf.Xb,XK 5 azf c.scene.Xf.Xh,XK 3 azk c.scene.Xd,XK 2 azu c.scene.Xj,XK 1 az2 c.p,XK 1 az2 c.q,.pure d]);.loop (λ(g:Ar)=>⟨[(1,XM 0),(4,pz g.1),(9,.pure d),(10,pz e),(11,pz g.2)],[f],[],1⟩) (.exit 0) (λ(g:Int)=>⟨[(1,XM 0),(4,pz g)],[f],[],1⟩) (λg=>let h:=c.pieces.getD (XI g.2) qw;let i:=h.Xg;let j:=h.Xk;let k:=min i.toNat 64;let m:=(1048576:Int).fdiv (2 ^ k);let n:Nat×Res:=(1,.box [pz i,pz j,XK 3 az1 (h.Xe)]);.br (qx (g.2<e)) (.gh g.2 c.pieces.length<|.cut 1 (λ(s:Bool)=>⟨[(1,XM 0),(4,pz g.1),(5,pz g.2),(6,XM 1),(9,.pure d),(10,pz e),(11,pz g.2),(27,XJ s)],[f,n],[],2⟩) (.br (g.2==4096) (.oo true) (.br (qx (i<0)) (.oo true) (.oo (qx (i>20))))) λs=>.br s (.ff (g.2,2001)) (.cut 1 (λ(t:Bool)=>⟨[(1,XM 0),(4,pz g.1),(5,pz g.2),(6,XM 1),(9,.pure d),(10,pz e),(11,pz g.2),(39,XJ t)],[f,n],[],2⟩) (.br (qx (j<0)) (.oo true) (.grd (0<=i)<|.oo (qx (j>=(qv.wrap (1 * 2 ^ k)))))) λt=>.br t (.ff (g.2,2001)) (.grd (0<=i)<|.name 10003 ((qv.wrap (j * m))) λw=>.br (w !=g.1) (.ff (g.2,2001)) (.name 12002 ((qv.wrap (g.1+m))) λy=>.nn (y,(qv.wrap (g.2+1))))))) (.oo g.1)) (0,0) [] λg=>.br (g !=1048576) (.kj (e,2001)) (.kj (0,0))
def Bz3 (c):=
 mkD Tryz.func217 (rz3 c) 0 [.pure (fzz c)] [] (λr=>.tup [pz r.1,pz r.2]) XL
def lzq (c:cz1)(d:czk):T Bool:=let e:=(c.normals.length:Int);.br (e !=(d.pairs.length:Int)) (.kj false) (.loop (λ(f:Int)=>⟨[(3,XM 0),(16,XK 3 az1 c.normals),(17,pz e),(18,pz f)],[(0,.box [XK 3 azk d.shapes,XK 2 dzy d.pairs,XK 1 (encL 6 az3) d.points])],[],1⟩) (.exit 0) XN (λf=>.br (qx (f<e)) (.gh f c.normals.length<|.cc (pz7 d f) λg=>.cc (mzg (c.normals.getD (f.toNat) qw) g.a g.ra g.b g.rb) λh=>.br (!h) (.ff false) (.nn (qv.wrap (f+1)))) (.oo .u))
 0 [] λ_=>.kj true)
def sze (c)(d):=
 mkD Tryz.func391 (lzq c d) 0 [.pure (gzn c),.pure (mz6 d)] [] XJ XL
def oz6 (c:azd)(d:Af)(e:cz1):T Bool:=
 .cc (oz7 c d) λf=>.br f.2 (.cc (sze e f.1) λg=>.kj g) (.kj false)
def yz0 (c)(d)(e):=
 mkD Tryz.func269 (oz6 c d e) 0 [.pure (bzh c),XK 2 azb d,.iface 260 (.pure (gzn e))] [] XJ XL
def izn (c:azd)(d:Af)(e:Ay):T Bool:=
 .cc (yz0 (⟨c.Xf,c.Xd,c.Xj⟩:azd) d (⟨e⟩:cz1)) λf=>.kj f
def izm (c)(d)(e):=
 mkC [⟨268,az6d⟩] hd Tryz.func219 (by kernel_rfl) (izn c d e) 0 [.pure (bzh c),XK 2 azb d,XK 3 az1 e] [] XJ XL (by kernel_rfl)
def lzm (c:bzg):T Ar:=let d:=encL 3 azl c.pieces;let e:=(c.pieces.length:Int);let f:Nat×Res:=(0,.box [XK 12 azc c.scene.Xf.Xb,XK 5 azf c.scene.Xf.Xh,XK 3 azk c.scene.Xd,XK 2 azu c.scene.Xj,XK 1 az2 c.p,XK 1 az2 c.q,.pure d]);.loop (λ(g:Int)=>⟨[(1,XM 0),(9,.pure d),(10,pz e),(11,pz g)],[f],[],1⟩) (.exit 0) XN (λg=>let h:=c.pieces.getD (g.toNat) qw;.br (qx (g<e)) (.gh g c.pieces.length<|.cc (nz1 c.p c.q (h.Xg) (h.Xk)) λi=>.cut 0 (λ(j:Bool)=>⟨[(1,XM 0),(4,pz g),(9,.pure d),(10,pz e),(11,pz g),(38,XJ j)],[f],[],1⟩) (.br (!i.2) (.oo true) (.cc (izm c.scene i.1 (h.Xe)) λj=>.oo (!j))) λj=>.br j (.ff (g,2002)) (.nn (qv.wrap (g+1)))) (.oo .u))
 0 [] λ_=>.kj (0,0)
def szb (c):=
 mkD Tryz.func218 (lzm c) 0 [.pure (fzz c)] [] (λr=>.tup [pz r.1,pz r.2]) XL
def mz5 (c:azd)(d:A1)(e:A1)(f:A0):T Ar:=let g:=(⟨(⟨c.Xf,c.Xd,c.Xj⟩:azd),d,e,f⟩:bzg);.unroll 5<|.kh<|.gh (0:Int) 4<|.cc (Dz9 g) λh=>.br (h.2 !=0) (.kj (h.1,h.2)) (.lit 9000 1<|.kh<|.gh (1:Int) 4<|.cc (Bz2 g) λi=>.br (i.2 !=0) (.kj (i.1,i.2)) (.lit 9000 2<|.kh<|.gh (2:Int) 4<|.cc (Bz3 g) λj=>.br (j.2 !=0) (.kj (j.1,j.2)) (.lit 9000 3<|.kh<|.gh (3:Int) 4<|.cc (szb g) λk=>.br (k.2 !=0) (.kj (k.1,k.2)) (.lit 9000 4<|.ki<|.kj (0,0)))))
def uzw (c)(d)(e)(f):=
 mkC [⟨214,az6b⟩] hd Tryz.func174 (by kernel_rfl) (mz5 c d e f) 0 [.pure (bzh c),XK 1 az2 d,XK 1 az2 e,XK 3 azl f] [] (λr=>.tup [pz r.1,pz r.2]) XL (by kernel_rfl)
def dzp (a0:A0):T A0:= (match a0 with
  |[]=>.unroll 1<|.grd (a0.length=0)<|.both (.kj nl) (.conv 3000 (bzx 3 azl ([]:A0) 80)<|.conv 3002 (czx 3 azl ([]:A0) a0 80)<|.grd ((([]:A0).length+a0.length) * 40<=140737488355328/\(([]:A0).length+a0.length)<=maxLen)<|.kj (([]:A0)++a0))
  |_::_=>.grd (0<a0.length)<|.conv 3000 (bzx 3 azl ([]:A0) 80)<|.conv 3002 (czx 3 azl ([]:A0) a0 80)<|.grd ((([]:A0).length+a0.length) * 40<=140737488355328/\(([]:A0).length+a0.length)<=maxLen)<|.kj (([]:A0)++a0))
def fzh (a0:A0):CallS A0:=
 mkH [] hd Tryz.func150 (by kernel_rfl) (dzp a0) 0 [XK 3 azl a0] [] (λ_=>.vec 0) (λr=>[(0,vecO 3 azl r 80)]) (by cases a0<;>exact Ob.of_side (by kernel_rfl))
def ezl (a0:Ay):T Ay:= (match a0 with
  |[]=>.unroll 1<|.grd (a0.length=0)<|.both (.kj nl) (.conv 3000 (bzx 3 az1 ([]:Ay) 96)<|.conv 3002 (czx 3 az1 ([]:Ay) a0 96)<|.grd ((([]:Ay).length+a0.length) * 24<=140737488355328/\(([]:Ay).length+a0.length)<=maxLen)<|.kj (([]:Ay)++a0))
  |_::_=>.grd (0<a0.length)<|.conv 3000 (bzx 3 az1 ([]:Ay) 96)<|.conv 3002 (czx 3 az1 ([]:Ay) a0 96)<|.grd ((([]:Ay).length+a0.length) * 24<=140737488355328/\(([]:Ay).length+a0.length)<=maxLen)<|.kj (([]:Ay)++a0))
def ezk (a0:Ay):CallS Ay:=
 mkH [] hd Tryz.func151 (by kernel_rfl) (ezl a0) 0 [XK 3 az1 a0] [] (λr=>XK 3 az1 r) XL (by cases a0<;>exact Ob.of_side (by kernel_rfl))
def qz1 (c:A0):T A0:=
 .cc (fzh c) λd=>let e:=(d.length:Int);
 .loop (λ(f:Am)=>⟨[(0,.vec 0),(7,pz e),(8,pz f.2)],[(0,vecO 3 azl f.1 80)],[],1⟩) (.exit 0) (λ(f:A0)=>⟨[(0,.vec 0)],[(0,vecO 3 azl f 80)],[],1⟩) (λf=>let g:=(f.2).toNat;let h:=f.1.getD g qw;.br (qx (f.2<e)) (.gg f.2 f.1.length<|.cc (ezk (h.Xe)) λi=>let j:=(⟨h.Xg,h.Xk,i⟩:az8);
 .gh f.2 f.1.length<|.conv 5010 (fzr 3 azl f.1 80 g j)<|.gi (f.2) f.1.length<|.nn ((f.1.set g j),(qv.wrap (f.2+1)))) (.oo f.1)) (d,0) [] λf=>.kj f
def kza (c):=
 mkD Tryz.func175 (qz1 c) 0 [XK 3 azl c] [] (λr=>XK 3 azl r) XL
def szu (c:azd)(d:A1)(e:A1)(f:az8)(g:az8):T (az8×Bool):=let h:=qv.wrap (f.Xg-1);let i:=qv.wrap (f.Xk.tdiv 2);let j:=([f,g]:A0);let k:=(j.length:Int);let m:Nat×Res:=(0,.box [XK 12 azc c.Xf.Xb,XK 5 azf c.Xf.Xh,XK 3 azk c.Xd,XK 2 azu c.Xj]);.cut 2 (λ(n:Bool)=>⟨[(1,XK 1 az2 d),(2,XK 1 az2 e),(5,XM 0),(8,XM 1),(9,XM 2),(10,XM 3),(40,XJ n)],[m,(1,.box [pz f.Xg,pz f.Xk,XK 3 az1 f.Xe]),(2,.box [pz g.Xg,pz g.Xk,XK 3 az1 g.Xe]),(3,.box [pz 0,pz 0,.vec 4]),(4,.nilv)],[],5⟩) (.br (f.Xg !=g.Xg) (.oo true) (.br (qx (f.Xg<=0)) (.oo true) (.ok ((2:Int)≠0) (by decide)<|.br ((f.Xk.tmod 2) !=0) (.oo true) (.oo (g.Xk !=(qv.wrap (f.Xk+1))))))) λn=>.br n (.kj ((⟨0,0,nl⟩:az8),false)) (.ok ((2:Int)≠0) (by decide)<|.cc (nz1 d e h i) λs=>.br (!s.2) (.kj ((⟨0,0,nl⟩:az8),false)) (.conv 7002 (bzx 3 azl j 80)<|.loop (λ(t:Int)=>⟨[(5,XM 0),(10,XM 1),(12,XM 3),(13,XK 2 azb s.1),(64,.vec 5),(65,pz k),(66,pz t)],[m,(1,.box [pz 0,pz 0,.vec 2]),(2,.nilv),(3,.box [pz h,pz i,.vec 4]),(4,.nilv),(5,vecO 3 azl j 80)],[],6⟩) (.exit 0) (λ(_:U0)=>⟨[(10,XM 0)],[(0,.box [pz 0,pz 0,.vec 1]),(1,.nilv)],[],2⟩) (λt=>let w:=j.getD (t.toNat) qw;.br (qx (t<k)) (.gg t (j.length)<|.cc (izm c s.1 (w.Xe)) λy=>.br y (.ff ((⟨h,i,w.Xe⟩:az8),true)) (.nn (qv.wrap (t+1)))) (.oo .u))
 0 [] λ_=>.kj ((⟨0,0,nl⟩:az8),false)))
def szt (c)(d)(e)(f)(g):=
 mkD Tryz.func176 (szu c d e f g) 0 [.pure (bzh c),XK 1 az2 d,XK 1 az2 e,.pure (azl f),.pure (azl g)] [] (λr=>.tup [.pure (azl r.1),XJ r.2]) XL
def qz0 (c:azd)(d:A1)(e:A1)(f:A0):T A0:=let g:=encL 1 az2 d;let h:=encL 1 az2 e;let i:=encL 3 azl f;let j:=(f.length:Int);let k:Nat×Res:=(0,.box [XK 12 azc c.Xf.Xb,XK 5 azf c.Xf.Xh,XK 3 azk c.Xd,XK 2 azu c.Xj]);.cc (uzw (⟨c.Xf,c.Xd,c.Xj⟩:azd) d e f) λm=>.br (m.2 !=0) (.cc (kza f) λn=>.kj n) (.loop (λ(n:Am)=>⟨[(1,.pure g),(2,.pure h),(4,XM 0),(8,XM 1),(29,.pure i),(30,pz j),(31,pz n.2)],[k,(1,.box [.vec 2]),(2,vecO 3 azl n.1 80)],[.func 173 [] [XM 1]],3⟩) (.exit 0) (λ(n:A0)=>⟨[(8,XM 0)],[(0,.box [.vec 1]),(1,vecO 3 azl n 80)],[.func 173 [] [XM 0]],2⟩) (λn=>let s:=f.getD (XI n.2) qw;.br (qx (n.2<j)) (.gh n.2 f.length<|.loop (λ(t:Bc)=>⟨[(1,.pure g),(2,.pure h),(4,XM 0),(8,XM 1),(12,XM 3),(29,.pure i),(30,pz j),(31,pz n.2)],[k,(1,.box [.vec 2]),(2,vecO 3 azl t.1 80),(3,.box [pz t.2.1,pz t.2.2.1,XK 3 az1 t.2.2.2])],[.func 173 [] [XM 1]],4⟩) (.exit 2) (λ(t:Bc)=>⟨[(1,.pure g),(2,.pure h),(4,XM 0),(8,XM 1),(12,XM 3),(29,.pure i),(30,pz j),(31,pz n.2)],[k,(1,.box [.vec 2]),(2,vecO 3 azl t.1 80),(3,.box [pz t.2.1,pz t.2.2.1,XK 3 az1 t.2.2.2])],[.func 173 [] [XM 1]],4⟩) (λt=>let w:=(t.1.length:Int);let y:=qv.wrap (w-1);.br (qx (w>0)) (.gg y t.1.length<|.call (szt c d e (t.1.getD (y.toNat) qw) (⟨t.2.1,t.2.2.1,t.2.2.2⟩:az8)) [] λz=>.br (!z.2) (.oo (t.1,t.2.1,t.2.2.1,t.2.2.2)) (.conv 12002 (Szo 3 azl t.1 80 y)<|.grd (0<=y/\y<=w/\0<=y.toNat)<|.nn ((t.1.take (y.toNat)),z.1.Xg,z.1.Xk,z.1.Xe))) (.oo (t.1,t.2.1,t.2.2.1,t.2.2.2))) (n.1,s.Xg,s.Xk,s.Xe) [] λt=>let w:=([(⟨t.2.1,t.2.2.1,t.2.2.2⟩:az8)]:A0);let y:=t.1.length+w.length;
 .conv 13002 (bzx 3 azl w 80)<|.conv 13003 (czx 3 azl t.1 w 80)<|.grd (y * 40<=140737488355328/\y<=maxLen)<|.nn ((t.1++w),(qv.wrap (n.2+1)))) (.oo n.1)) (nl,0) [] λn=>.cc (kza n) λs=>.kj s)
def zz2 (c)(d)(e)(f):=
 mkC [⟨173,az68⟩] hd Tryz.func129 (by kernel_rfl) (qz0 c d e f) 0 [.pure (bzh c),XK 1 az2 d,XK 1 az2 e,XK 3 azl f] [] (λr=>XK 3 azl r) XL (by kernel_rfl)
def izw (c:A0):T azi:=let d:=encL 3 azl c;let e:=(c.length:Int);.loop (λ(f:(Ay×An×B2×Int))=>⟨[(2,XM 0),(3,.map 3),(13,.pure d),(14,pz e),(15,pz f.2.2.2)],[(0,.box [.vec 1,.vec 2]),(1,vecO 3 az1 f.1 96),(2,vecO 3 bzo f.2.1 162),(3,Fz2 [.int .i64 0,.int .i64 0,.int .i64 0] azx f.2.2.1)],[.func 131 [] [XM 0]],4⟩) (.exit 0) (λ(f:Az)=>⟨[(2,XM 0)],[(0,.box [.vec 1,.vec 2]),(1,vecO 3 az1 f.1 96),(2,vecO 3 bzo f.2 162)],[.func 131 [] [XM 0]],3⟩) (λf=>let g:=c.getD (XI f.2.2.2) qw;let h:=encL 3 az1 (g.Xe);let i:=(g.Xe.length:Int);let j:Nat×Res:=(4,.box [pz (g.Xg),pz (g.Xk),.vec 5]);.br (qx (f.2.2.2<e)) (.gh f.2.2.2 c.length<|.loop (λ(k:(Ay×B2×A1×Int))=>⟨[(2,XM 0),(3,.map 3),(6,XM 4),(13,.pure d),(14,pz e),(15,pz f.2.2.2),(25,.pure h),(26,pz i),(27,pz k.2.2.2)],[(0,.box [.vec 1,.vec 2]),(1,vecO 3 az1 k.1 96),(2,vecO 3 bzo f.2.1 162),(3,Fz2 [.int .i64 0,.int .i64 0,.int .i64 0] azx k.2.1),j,(5,vecO 1 az2 k.2.2.1 3)],[.func 131 [] [XM 0]],6⟩) (.exit 2) (λ(k:(Ay×B2×A1))=>⟨[(2,XM 0),(3,.map 3),(6,XM 4),(13,.pure d),(14,pz e),(15,pz f.2.2.2)],[(0,.box [.vec 1,.vec 2]),(1,vecO 3 az1 k.1 96),(2,vecO 3 bzo f.2.1 162),(3,Fz2 [.int .i64 0,.int .i64 0,.int .i64 0] azx k.2.1),j,(5,vecO 1 az2 k.2.2 3)],[.func 131 [] [XM 0]],6⟩) (λk=>let m:=(k.1.length:Int);let n:=(g.Xe).getD (XI k.2.2.2) qw;let s:=mdom azx k.2.1 (azx n);let t:=mget azx k.2.1 (azx n);let w:=([n]:Ay);let y:=k.1.length+w.length;.br (qx (k.2.2.2<i)) (.gh k.2.2.2 (g.Xe.length)<|.ok (s=false->PVal.int .i64 t=.int .i64 0) azcw<|.name 10004 (t) λz=>.cut 0 (λ(aa:(Ay×B2×Int))=>⟨[(2,XM 0),(3,.map 3),(6,XM 4),(9,pz aa.2.2),(13,.pure d),(14,pz e),(15,pz f.2.2.2),(25,.pure h),(26,pz i),(27,pz k.2.2.2)],[(0,.box [.vec 1,.vec 2]),(1,vecO 3 az1 aa.1 96),(2,vecO 3 bzo f.2.1 162),(3,Fz2 [.int .i64 0,.int .i64 0,.int .i64 0] azx aa.2.1),j,(5,vecO 1 az2 k.2.2.1 3)],[.func 131 [] [XM 0]],6⟩) (.br (!s) (.conv 13003 (azdx [.int .i64 0,.int .i64 0,.int .i64 0] azx k.2.1 n m)<|.conv 14003 (bzx 3 az1 w 96)<|.conv 14004 (czx 3 az1 k.1 w 96)<|.grd (y * 24<=140737488355328/\y<=maxLen)<|.oo ((k.1++w),((n,m)::k.2.1),m)) (.oo (k.1,k.2.1,z))) λaa=>let ab:=([aa.2.2]:A1);let ac:=k.2.2.1.length+ab.length;
 .conv 15003 (bzx 1 az2 ab 3)<|.conv 15004 (czx 1 az2 k.2.2.1 ab 3)<|.grd (ac * 8<=140737488355328/\ac<=maxLen)<|.nn (aa.1,aa.2.1,(k.2.2.1++ab),(qv.wrap (k.2.2.2+1)))) (.oo (k.1,k.2.1,k.2.2.1))) (f.1,f.2.2.1,nl,0) [] λk=>let m:=([(⟨g.Xg,g.Xk,k.2.2⟩:cza)]:An);let n:=f.2.1.length+m.length;
 .conv 17003 (bzx 3 bzo m 162)<|.conv 17004 (czx 3 bzo f.2.1 m 162)<|.grd (n * 40<=140737488355328/\n<=maxLen)<|.nn (k.1,(f.2.1++m),k.2.1,(qv.wrap (f.2.2.2+1)))) (.oo (f.1,f.2.1))) (nl,nl,(nl:List (Ax×Int)),0) [] λf=>.kj (⟨f.1,f.2⟩:azi)
def fzq (c):=
 mkC [⟨131,az65⟩] hd Tryz.func93 (by kernel_rfl) (izw c) 0 [XK 3 azl c] [] (λr=>.pure (azn r)) XL (by kernel_rfl)
def tzl (c:ezw)(d:A1)(e:A1):T (azi×Bool):=
 .cc (jzx c.scene d e c.depth) λf=>.br (f.Xm !=1) (.kj ((⟨nl,nl⟩:azi),false)) (.cc (zz2 c.scene d e f.Xo) λg=>.cc (fzq g) λh=>.kj (h,true))
def jz5 (c)(d)(e):=
 mkD Tryz.func90 (tzl c d e) 0 [.pure (qz4 c),XK 1 az2 d,XK 1 az2 e] [] (λr=>.tup [.pure (azn r.1),XJ r.2]) XL
def tzj (c:A2)(d:ezw):T (Ao×Int×Int):=let e:=(c.length:Int);let f:=(c.drop (XI (1:Int))).take (e.toNat- (1:Int).toNat);let g:=(f.length:Int);let h:=(⟨d.scene,d.depth⟩:ezw);.conv 2001 (Gzx 1 (encL 1 az2) c (1:Int) e)<|.grd (0<=(1:Int)/\(1:Int)<=e/\e<=e)<|.loop (λ(i:Ap)=>⟨[(0,XK 1 (encL 1 az2) c),(1,.func 90 [.pure (qz4 h)] []),(7,.vec 0),(13,XK 1 (encL 1 az2) f),(14,pz g),(15,pz i.2)],[(0,vecO 2 azn i.1 118)],[],1⟩) (.exit 0) (λ(i:Ao)=>⟨[(7,.vec 0)],[(0,vecO 2 azn i 118)],[],1⟩) (λi=>let j:=(i.2).toNat;.br (qx (i.2<g)) (.gh i.2 (f.length)<|.gh i.2 c.length<|.call (jz5 h (c.getD j qw) (f.getD j qw)) [] λk=>let m:=([k.1]:Ao);let n:=i.1.length+m.length;
 .br (!k.2) (.ff (nl,i.2,2204)) (.conv 8002 (bzx 2 azn m 118)<|.conv 8003 (czx 2 azn i.1 m 118)<|.grd (n * 48<=140737488355328/\n<=maxLen)<|.nn ((i.1++m),(qv.wrap (i.2+1))))) (.oo i.1)) (nl,0) [] λi=>.kj (i,0,0)
def Czw (c)(d):=
 mkD Tryz.func89 (tzj c d) 0 [XK 1 (encL 1 az2) c,.func 90 [.pure (qz4 d)] []] [] (λr=>.tup [XK 2 azn r.1,pz r.2.1,pz r.2.2]) XL
def fz0 (a0:A2):T A2:= (match a0 with
  |[]=>.unroll 1<|.grd (a0.length=0)<|.both (.kj nl) (.conv 3000 (bzx 1 (encL 1 az2) ([]:A2) 62)<|.conv 3002 (czx 1 (encL 1 az2) ([]:A2) a0 62)<|.grd ((([]:A2).length+a0.length) * 24<=140737488355328/\(([]:A2).length+a0.length)<=maxLen)<|.kj (([]:A2)++a0))
  |_::_=>.grd (0<a0.length)<|.conv 3000 (bzx 1 (encL 1 az2) ([]:A2) 62)<|.conv 3002 (czx 1 (encL 1 az2) ([]:A2) a0 62)<|.grd ((([]:A2).length+a0.length) * 24<=140737488355328/\(([]:A2).length+a0.length)<=maxLen)<|.kj (([]:A2)++a0))
def hzp (a0:A2):CallS A2:=
 mkH [] hd Tryz.func130 (by kernel_rfl) (fz0 a0) 0 [XK 1 (encL 1 az2) a0] [] (λ_=>.vec 0) (λr=>[(0,vecO 1 (encL 1 az2) r 62)]) (by cases a0<;>exact Ob.of_side (by kernel_rfl))
def fzn (c:A2):T A2:=
 .cc (hzp c) λd=>let e:=(d.length:Int);
 .loop (λ(f:Ad)=>⟨[(0,.vec 0),(7,.vec 0),(8,pz e),(9,pz f.2)],[(0,vecO 1 (encL 1 az2) f.1 62)],[],1⟩) (.exit 0) (λ(f:A2)=>⟨[(0,.vec 0)],[(0,vecO 1 (encL 1 az2) f 62)],[],1⟩) (λf=>let g:=(f.2).toNat;.br (qx (f.2<e)) (.gg f.2 f.1.length<|.cc (ez5 (f.1.getD g qw)) λh=>.gh f.2 f.1.length<|.conv 5005 (fzr 1 (encL 1 az2) f.1 62 g h)<|.gi (f.2) f.1.length<|.nn ((f.1.set g h),(qv.wrap (f.2+1)))) (.oo f.1)) (d,0) [] λf=>.kj f
def hzo (c):=
 mkD Tryz.func91 (fzn c) 0 [XK 1 (encL 1 az2) c] [] (λ_=>.vec 0) (λr=>[(0,vecO 1 (encL 1 az2) r 62)])
def zzz (c:azd)(d:A2)(e:Int):T (bzu×Int×Int):=let f:=(⟨c.Xf,c.Xd,c.Xj⟩:azd);.cc (rzx f d) λg=>.br (g.2 !=0) (.kj ((⟨nl,nl⟩:bzu),g.1,g.2)) (.cc (Czw d (⟨f,e⟩:ezw)) λh=>.br (h.2.2 !=0) (.kj ((⟨nl,nl⟩:bzu),h.2.1,h.2.2)) (.cc (hzo d) λi=>.kj ((⟨i,h.1⟩:bzu),0,0)))
def Izm (c)(d)(e):=
 mkC [⟨87,az9v⟩] hd Tryz.func52 (by kernel_rfl) (zzz c d e) 0 [.pure (bzh c),XK 1 (encL 1 az2) d,pz e] [] (λr=>.tup [.pure (kzd r.1),pz r.2.1,pz r.2.2]) XL (by kernel_rfl)
def dzg (a0:Ao):T Ao:= (match a0 with
  |[]=>.unroll 1<|.grd (a0.length=0)<|.both (.kj nl) (.conv 3000 (bzx 2 azn ([]:Ao) 118)<|.conv 3002 (czx 2 azn ([]:Ao) a0 118)<|.grd ((([]:Ao).length+a0.length) * 48<=140737488355328/\(([]:Ao).length+a0.length)<=maxLen)<|.kj (([]:Ao)++a0))
  |_::_=>.grd (0<a0.length)<|.conv 3000 (bzx 2 azn ([]:Ao) 118)<|.conv 3002 (czx 2 azn ([]:Ao) a0 118)<|.grd ((([]:Ao).length+a0.length) * 48<=140737488355328/\(([]:Ao).length+a0.length)<=maxLen)<|.kj (([]:Ao)++a0))
def fz6 (a0:Ao):CallS Ao:=
 mkH [] hd Tryz.func177 (by kernel_rfl) (dzg a0) 0 [XK 2 azn a0] [] (λ_=>.vec 0) (λr=>[(0,vecO 2 azn r 118)]) (by cases a0<;>exact Ob.of_side (by kernel_rfl))
def ezj (a0:An):T An:= (match a0 with
  |[]=>.unroll 1<|.grd (a0.length=0)<|.both (.kj nl) (.conv 3000 (bzx 3 bzo ([]:An) 162)<|.conv 3002 (czx 3 bzo ([]:An) a0 162)<|.grd ((([]:An).length+a0.length) * 40<=140737488355328/\(([]:An).length+a0.length)<=maxLen)<|.kj (([]:An)++a0))
  |_::_=>.grd (0<a0.length)<|.conv 3000 (bzx 3 bzo ([]:An) 162)<|.conv 3002 (czx 3 bzo ([]:An) a0 162)<|.grd ((([]:An).length+a0.length) * 40<=140737488355328/\(([]:An).length+a0.length)<=maxLen)<|.kj (([]:An)++a0))
def gzi (a0:An):CallS An:=
 mkH [] hd Tryz.func220 (by kernel_rfl) (ezj a0) 0 [XK 3 bzo a0] [] (λ_=>.vec 0) (λr=>[(0,vecO 3 bzo r 162)]) (by cases a0<;>exact Ob.of_side (by kernel_rfl))
def hzh (a0:A1):T A1:= (match a0 with
  |[]=>.unroll 1<|.grd (a0.length=0)<|.both (.kj nl) (.conv 3000 (bzx 1 az2 ([]:A1) 3)<|.conv 3002 (czx 1 az2 ([]:A1) a0 3)<|.grd ((([]:A1).length+a0.length) * 8<=140737488355328/\(([]:A1).length+a0.length)<=maxLen)<|.kj (([]:A1)++a0))
  |_::_=>.grd (0<a0.length)<|.conv 3000 (bzx 1 az2 ([]:A1) 3)<|.conv 3002 (czx 1 az2 ([]:A1) a0 3)<|.grd ((([]:A1).length+a0.length) * 8<=140737488355328/\(([]:A1).length+a0.length)<=maxLen)<|.kj (([]:A1)++a0))
def lzy (a0:A1):CallS A1:=
 mkH [] hd Tryz.func221 (by kernel_rfl) (hzh a0) 0 [XK 1 az2 a0] [] (λr=>XK 1 az2 r) XL (by cases a0<;>exact Ob.of_side (by kernel_rfl))
def lz5 (c:azi):T Az:=let d:Nat×Res:=(0,.box [XK 3 az1 c.Xz,XK 3 bzo c.Xy]);.cc (gzi c.Xy) λe=>let f:=(e.length:Int);
 .loop (λ(g:Aq)=>⟨[(1,XM 0),(2,XM 1),(3,.vec 4),(9,.vec 4),(10,pz f),(11,pz g.2)],[d,(1,.box [.vec 2,.vec 3]),(2,.nilv),(3,.nilv),(4,vecO 3 bzo g.1 162)],[],5⟩) (.exit 0) (λ(g:An)=>⟨[(1,XM 0),(2,XM 1),(3,.vec 4)],[d,(1,.box [.vec 2,.vec 3]),(2,.nilv),(3,.nilv),(4,vecO 3 bzo g 162)],[],5⟩) (λg=>let h:=(g.2).toNat;let i:=g.1.getD h qw;.br (qx (g.2<f)) (.gg g.2 g.1.length<|.cc (lzy (i.Xu)) λj=>let k:=(⟨i.Xg,i.Xk,j⟩:cza);
 .gh g.2 g.1.length<|.conv 5007 (fzr 3 bzo g.1 162 h k)<|.gi (g.2) g.1.length<|.nn ((g.1.set h k),(qv.wrap (g.2+1)))) (.oo g.1)) (e,0) [] λg=>.cc (ezk c.Xz) λh=>.kj (h,g)
def rzy (c):=
 mkD Tryz.func178 (lz5 c) 0 [.pure (azn c)] [] (λr=>.agg [XK 3 az1 r.1,.vec 0]) (λr=>[(0,vecO 3 bzo r.2 162)])
def Az0 (c:bzu):T (A2×Ao):=let d:Nat×Res:=(0,.box [XK 1 (encL 1 az2) c.Xc,XK 2 azn c.Xa]);.cc (fz6 c.Xa) λe=>let f:=(e.length:Int);
 .gst 3 256 (0) (azdy 2 azn e 118 1 3 162 rfl)<|.loop (λ(g:(Ao×Nat×Int))=>⟨[(1,XM 0),(2,XM 1),(3,.vec 4),(9,.vec 4),(10,pz f),(11,pz g.2.2)],[d,(1,.box [.vec 2,.vec 3]),(2,.nilv),(3,.nilv),(4,Vzb 2 azn g.1 g.2.1 118 1 3 162 [])],[],5⟩) (.exit 0) (λ(g:Ao)=>⟨[(1,XM 0),(2,XM 1),(3,.vec 4)],[d,(1,.box [.vec 2,.vec 3]),(2,.nilv),(3,.nilv),(4,Mzv 2 azn g 118 1 3 162)],[],5⟩) (λg=>let h:=g.2.2;let i:=h.toNat;.br (qx (g.2.2<f)) (.gh g.2.2 g.1.length<|.unroll 1100<|.grd (g.2.1<=h.toNat/\h.toNat<g.1.length)<|.cc (rzy (g.1.getD i qw)) λj=>let k:=(⟨j.1,j.2⟩:azi);
 .gh g.2.2 g.1.length<|.unroll 1100<|.grd (h.toNat<g.1.length)<|.gst 2 4 (0) (azc8 2 azn g.1 118 1 3 162 (g.2.1+1) i [encL 3 az1 j.1,.unk] (encL 3 bzo j.2) k rfl)<|.grd (h.toNat=g.2.1)<|.nn ((g.1.set i k),(g.2.1+1),(qv.wrap (g.2.2+1)))) (.gst 3 4 (0) (azc6 2 azn g.1 118 1 3 162 g.2.1)<|.grd (g.2.1=g.1.length)<|.oo g.1)) (e,0,0) [] λg=>.cc (hzo c.Xc) λh=>.kj (h,g)
def Izn (c):=
 mkD Tryz.func133 (Az0 c) 0 [.pure (kzd c)] [] (λ_=>.agg [.vec 0,.vec 1]) (λr=>[(0,vecO 1 (encL 1 az2) r.1 62),(1,Mzv 2 azn r.2 118 1 3 162)])
def fz1 (c:A2):T A2:=
 .loop (λ(d:(A2×Int×Int))=>⟨[(0,.vec 0),(2,pz d.2.1),(3,pz d.2.2)],[(0,vecO 1 (encL 1 az2) d.1 62)],[],1⟩) (.exit 0) (λ(d:A2)=>⟨[],[(0,vecO 1 (encL 1 az2) d 62)],[],1⟩) (λd=>let e:=(d.2.1).toNat;let f:=(d.2.2).toNat;let g:=d.1.getD f qw;let h:=d.1.set e g;let i:=d.1.getD e qw;.br (qx (d.2.1<d.2.2)) (.gg d.2.2 d.1.length<|.gg d.2.1 d.1.length<|.gh d.2.1 d.1.length<|.conv 3013 (fzr 1 (encL 1 az2) d.1 62 e g)<|.gi (d.2.1) d.1.length<|.gh d.2.2 (h.length)<|.conv 3015 (fzr 1 (encL 1 az2) h 62 f i)<|.gi (d.2.2) (h.length)<|.nn ((h.set f i),(qv.wrap (d.2.1+1)),(qv.wrap (d.2.2-1)))) (.oo d.1)) (c,0,(qv.wrap ((c.length:Int)-1))) [] λd=>.kj d
def hzq (c):=
 mkD Tryz.func134 (fz1 c) 1 [.vec 0] [(0,vecO 1 (encL 1 az2) c 62)] (λ_=>.tup []) (λr=>[(0,vecO 1 (encL 1 az2) r 62)])
def dz5 (c:Ao):T Ao:=
 .loop (λ(d:(Ao×Int×Int))=>⟨[(0,.vec 0),(2,pz d.2.1),(3,pz d.2.2)],[(0,Mzv 2 azn d.1 118 1 3 162)],[],1⟩) (.exit 0) (λ(d:Ao)=>⟨[],[(0,Mzv 2 azn d 118 1 3 162)],[],1⟩) (λd=>let e:=d.2.2;let f:=d.2.1;let g:=e.toNat;let h:=f.toNat;let i:=d.1.getD h qw;let j:=d.1.getD g qw;.br (qx (d.2.1<d.2.2)) (.gst 0 0 g .none<|.grd (e.toNat<d.1.length)<|.gst 0 0 h .none<|.grd (e.toNat≠f.toNat/\f.toNat<d.1.length)<|.gh d.2.2 d.1.length<|.unroll 1101<|.ok (e.toNat=e.toNat) rfl<|.gh d.2.1 d.1.length<|.unroll 1102<|.ok (f.toNat=f.toNat) rfl<|.gh d.2.1 d.1.length<|.unroll 1102<|.ok (f.toNat=f.toNat) rfl<|.gh d.2.2 d.1.length<|.unroll 1101<|.ok (e.toNat=e.toNat) rfl<|.gst 1 0 (0) .none<|.gst 1 0 (0) .none<|.gst 3 0 (0) (az9j 2 azn d.1 118 1 3 162 h g [encL 3 az1 (i.Xz),.unk] [encL 3 az1 (j.Xz),.unk] (encL 3 bzo (i.Xy)) (encL 3 bzo (j.Xy)) j i rfl rfl)<|.grd (e.toNat≠f.toNat)<|.nn (((d.1.set h j).set g i),(qv.wrap (d.2.1+1)),(qv.wrap (d.2.2-1)))) (.oo d.1)) (c,0,(qv.wrap ((c.length:Int)-1))) [] λd=>.kj d
def ezq (c):=
 mkD Tryz.func135 (dz5 c) 1 [.vec 0] [(0,Mzv 2 azn c 118 1 3 162)] (λ_=>.tup []) (λr=>[(0,Mzv 2 azn r 118 1 3 162)])
def ez4 (c:An):T An:=
 .loop (λ(d:(An×Int×Int))=>⟨[(0,.vec 0),(2,pz d.2.1),(3,pz d.2.2)],[(0,vecO 3 bzo d.1 162)],[],1⟩) (.exit 0) (λ(d:An)=>⟨[],[(0,vecO 3 bzo d 162)],[],1⟩) (λd=>let e:=(d.2.1).toNat;let f:=(d.2.2).toNat;let g:=d.1.getD f qw;let h:=d.1.set e g;let i:=d.1.getD e qw;.br (qx (d.2.1<d.2.2)) (.gg d.2.2 d.1.length<|.gg d.2.1 d.1.length<|.gh d.2.1 d.1.length<|.conv 3013 (fzr 3 bzo d.1 162 e g)<|.gi (d.2.1) d.1.length<|.gh d.2.2 (h.length)<|.conv 3015 (fzr 3 bzo h 162 f i)<|.gi (d.2.2) (h.length)<|.nn ((h.set f i),(qv.wrap (d.2.1+1)),(qv.wrap (d.2.2-1)))) (.oo d.1)) (c,0,(qv.wrap ((c.length:Int)-1))) [] λd=>.kj d
def fzx (c):=
 mkD Tryz.func136 (ez4 c) 1 [.vec 0] [(0,vecO 3 bzo c 162)] (λ_=>.tup []) (λr=>[(0,vecO 3 bzo r 162)])
def tzi (c:bzu):T bzu:=
 .cc (Izn (⟨c.Xc,c.Xa⟩:bzu)) λd=>.unroll 998<|.call (hzq d.1) [(0,320)] λe=>.call (ezq d.2) [(0,321)] λf=>let g:=(f.length:Int);
 .loop (λ(h:Ap)=>⟨[(1,XM 0),(2,XM 3),(17,.vec 2),(18,pz g),(19,pz h.2)],[(0,.box [.vec 1,.vec 2]),(1,vecO 1 (encL 1 az2) e 62),(2,Mzv 2 azn h.1 118 1 3 162),(3,.box [.vec 4,.vec 5]),(4,.nilv),(5,.nilv)],[.func 132 [] [XM 3]],6⟩) (.exit 0) (λ(h:Ao)=>⟨[(1,XM 0),(2,XM 3)],[(0,.box [.vec 1,.vec 2]),(1,vecO 1 (encL 1 az2) e 62),(2,Mzv 2 azn h 118 1 3 162),(3,.box [.vec 4,.vec 5]),(4,.nilv),(5,.nilv)],[.func 132 [] [XM 3]],6⟩) (λh=>let i:=h.2;let j:=i.toNat;let k:=h.1.getD j qw;let m:Nat×Res:=(7,.box [XK 3 az1 (k.Xz),.vec 3]);.br (qx (h.2<g)) (.gst 0 2 j .none<|.grd (i.toNat<h.1.length)<|.gh h.2 h.1.length<|.unroll 1101<|.ok (i.toNat=i.toNat) rfl<|.call (fzx (k.Xy)) [(0,70)] λn=>let s:=(n.length:Int);
 .loop (λ(t:Aq)=>⟨[(1,XM 0),(2,XM 4),(4,XM 7),(17,.vec 2),(18,pz g),(19,pz h.2),(27,.vec 3),(28,pz s),(29,pz t.2)],[(0,.box [.vec 1,.vec 2]),(1,vecO 1 (encL 1 az2) e 62),(2,Vzb 2 azn h.1 h.1.length 118 1 3 162 [(i.toNat,3)]),(3,vecO 3 bzo t.1 162),(4,.box [.vec 5,.vec 6]),(5,.nilv),(6,.nilv),m],[.func 132 [] [XM 4]],8⟩) (.exit 2) (λ(t:An)=>⟨[(1,XM 0),(2,XM 4),(17,.vec 2),(18,pz g),(19,pz h.2)],[(0,.box [.vec 1,.vec 2]),(1,vecO 1 (encL 1 az2) e 62),(2,Vzb 2 azn h.1 h.1.length 118 1 3 162 [(i.toNat,3)]),(3,vecO 3 bzo t 162),(4,.box [.vec 5,.vec 6]),(5,.nilv),(6,.nilv)],[.func 132 [] [XM 4]],7⟩) (λt=>let w:=(t.2).toNat;let y:=t.1.getD w qw;let z:=y.Xg;.br (qx (t.2<s)) (.cut 0 (λ(aa:An)=>⟨[(1,XM 0),(2,XM 4),(4,XM 7),(17,.vec 2),(18,pz g),(19,pz h.2),(27,.vec 3),(28,pz s),(29,pz t.2)],[(0,.box [.vec 1,.vec 2]),(1,vecO 1 (encL 1 az2) e 62),(2,Vzb 2 azn h.1 h.1.length 118 1 3 162 [(i.toNat,3)]),(3,vecO 3 bzo aa 162),(4,.box [.vec 5,.vec 6]),(5,.nilv),(6,.nilv),m],[.func 132 [] [XM 4]],8⟩) (.gg t.2 t.1.length<|.cut 0 (λ(aa:Bool)=>⟨[(1,XM 0),(2,XM 4),(4,XM 7),(5,pz t.2),(6,XM 8),(17,.vec 2),(18,pz g),(19,pz h.2),(27,.vec 3),(28,pz s),(29,pz t.2),(41,XJ aa)],[(0,.box [.vec 1,.vec 2]),(1,vecO 1 (encL 1 az2) e 62),(2,Vzb 2 azn h.1 h.1.length 118 1 3 162 [(i.toNat,3)]),(3,vecO 3 bzo t.1 162),(4,.box [.vec 5,.vec 6]),(5,.nilv),(6,.nilv),m,(8,.box [pz z,pz (y.Xk),XK 1 az2 (y.Xu)])],[.func 132 [] [XM 4]],9⟩) (.br (qx (z>=0)) (.oo (qx (z<=20))) (.oo false)) λaa=>.br aa (.grd (0<=z)<|.name 13009 ((qv.wrap ((qv.wrap ((qv.wrap (1 * 2 ^ (min z.toNat 64)))-1))- (y.Xk)))) λab=>let ac:=(⟨y.Xg,ab,y.Xu⟩:cza);
 .gh t.2 t.1.length<|.conv 13012 (fzr 3 bzo t.1 162 w ac)<|.gi (t.2) t.1.length<|.oo (t.1.set w ac)) (.oo t.1)) λaa=>.nn (aa,(qv.wrap (t.2+1)))) (.oo t.1)) (n,0) [] λt=>let w:=(⟨k.Xz,t⟩:azi);
 .gst 1 2 (0) (azc9 2 azn h.1 118 1 3 162 j (encL 3 bzo t) w rfl)<|.nn ((h.1.set j w),(qv.wrap (h.2+1)))) (.oo h.1)) (f,0) [] λh=>.kj (⟨e,h⟩:bzu)
def Czv (c):=
 mkC [⟨132,az66⟩] hd Tryz.func94 (by kernel_rfl) (tzi c) 0 [.pure (kzd c)] [] (λr=>.pure (kzd r)) XL (by kernel_rfl)
def uzj (c:aze)(d:Int)(e:Int):T azi:=let f:=c.Xa.getD (d.toNat) qw;let g:=([(c.Xc.getD (XI f.U) qw),(c.Xc.getD (XI f.V) qw)]:A2);.gh d c.Xa.length<|.cc (fzq (f.Xn.Xo)) λh=>let i:=([h]:Ao);
 .br (e==(f.U)) (.kj h) (.gh (f.U) c.Xc.length<|.gh (f.V) c.Xc.length<|.conv 5012 (bzx 1 (encL 1 az2) g 62)<|.conv 5014 (bzx 2 azn i 118)<|.call (Czv (⟨g,i⟩:bzu)) [] λj=>.gh (0:Int) j.Xa.length<|.kj (j.Xa.getD (XI (0:Int)) qw))
def Dzd (c)(d)(e):=
 mkD Tryz.func54 (uzj c d e) 0 [.pure (bzn c),pz d,pz e] [] (λr=>.pure (azn r)) XL
def pzm (c:azd)(d:aze)(e:bzy):T (bzu×Bool):=let f:=encL 12 az9 d.Xa;let g:=encL 1 az2 e.Xq;let h:=(e.Xq.length:Int);let i:=encL 1 (encL 1 az2) d.Xc;let j:Nat×Res:=(1,.box [.pure i,.pure f]);let k:Nat×Res:=(0,.box [.pure i,.pure f]);let m:Nat×Res:=(2,.box [.pure g,pz e.Xi]);let n:Nat×Res:=(1,.box [.pure g,pz e.Xi]);let s:=(⟨d.Xc,d.Xa⟩:aze);let t:=(e.Xq.drop (XI (1:Int))).take (h.toNat- (1:Int).toNat);let w:=encL 1 az2 t;let y:Nat×Res:=(0,.box [XK 12 azc c.Xf.Xb,XK 5 azf c.Xf.Xh,XK 3 azk c.Xd,XK 2 azu c.Xj]);.cut 4 (λ(z:Bool)=>⟨[(3,XM 0),(4,XM 1),(5,XM 2),(6,XM 3),(7,XM 6),(8,pz h),(33,XJ z)],[y,j,m,(3,.box [.vec 4,.vec 5]),(4,.nilv),(5,.nilv),(6,.box [.ff])],[.func 48 [] [XM 3,XM 6]],7⟩) (.br (qx (h<1)) (.oo true) (.br (qx (h>256)) (.oo true) (.cc (fzf s) λz=>.oo (!z)))) λz=>.br z (.kj ((⟨nl,nl⟩:bzu),false)) (.loop (λ(aa:Ad)=>⟨[(3,XM 0),(4,XM 1),(5,XM 2),(6,XM 3),(7,XM 6),(8,pz h),(36,.pure g),(37,pz h),(38,pz aa.2)],[y,j,m,(3,.box [.vec 4,.vec 5]),(4,vecO 1 (encL 1 az2) aa.1 62),(5,.nilv),(6,.box [.ff])],[.func 48 [] [XM 3,XM 6]],7⟩) (.exit 0) (λ(aa:A2)=>⟨[(3,XM 0),(4,XM 1),(5,XM 2),(6,XM 3),(7,XM 6),(8,pz h)],[y,j,m,(3,.box [.vec 4,.vec 5]),(4,vecO 1 (encL 1 az2) aa 62),(5,.nilv),(6,.box [.ff])],[.func 48 [] [XM 3,XM 6]],7⟩) (λaa=>let ab:=e.Xq.getD (XI aa.2) qw;.br (qx (aa.2<h)) (.gh aa.2 e.Xq.length<|.cc (dzj s ab) λac=>.br (!ac) (.ff ((⟨nl,nl⟩:bzu),false)) (.gh ab d.Xc.length<|.call (ez5 (d.Xc.getD (ab.toNat) qw)) [] λad=>let ae:=([ad]:A2);let af:=aa.1.length+ae.length;
 .conv 10008 (bzx 1 (encL 1 az2) ae 62)<|.conv 10009 (czx 1 (encL 1 az2) aa.1 ae 62)<|.grd (af * 24<=140737488355328/\af<=maxLen)<|.nn ((aa.1++ae),(qv.wrap (aa.2+1))))) (.oo aa.1)) (nl,0) [] λaa=>let ab:=aa.getD (XI (0:Int)) qw;let ac:=([ab,ab]:A2);
 .br (h==1) (.gg (0:Int) aa.length<|.gg (0:Int) aa.length<|.conv 13009 (bzx 1 (encL 1 az2) ac 62)<|.cc (Izm (⟨c.Xf,c.Xd,c.Xj⟩:azd) ac 0) λad=>.kj (ad.1,(ad.2.2==0))) (.conv 15002 (Gzx 1 az2 e.Xq (1:Int) h)<|.grd (0<=(1:Int)/\(1:Int)<=h/\h<=h)<|.name 15003 ((t.length:Int)) λad=>.loop (λ(ae:Ap)=>⟨[(4,XM 0),(5,XM 1),(6,XM 2),(7,XM 5),(81,.pure w),(82,pz ad),(83,pz ae.2)],[k,n,(2,.box [.vec 3,.vec 4]),(3,vecO 1 (encL 1 az2) aa 62),(4,vecO 2 azn ae.1 118),(5,.box [.ff])],[.func 48 [] [XM 2,XM 5]],6⟩) (.exit 2) (λ(ae:Ao)=>⟨[(6,XM 0),(7,XM 3)],[(0,.box [.vec 1,.vec 2]),(1,vecO 1 (encL 1 az2) aa 62),(2,vecO 2 azn ae 118),(3,.box [.ff])],[.func 48 [] [XM 0,XM 3]],4⟩) (λae=>let af:=(ae.2).toNat;let ag:=e.Xq.getD af qw;.br (qx (ae.2<ad)) (.gh ae.2 (t.length)<|.name 17002 ((t.getD af qw)) λah=>.gh ae.2 e.Xq.length<|.cc (hz1 s ag ah) λai=>.cut 1 (λ(aj:Bool)=>⟨[(4,XM 0),(5,XM 1),(6,XM 2),(7,XM 5),(16,pz ag),(17,pz ai.1),(81,.pure w),(82,pz ad),(83,pz ae.2),(110,XJ aj)],[k,n,(2,.box [.vec 3,.vec 4]),(3,vecO 1 (encL 1 az2) aa 62),(4,vecO 2 azn ae.1 118),(5,.box [.ff])],[.func 48 [] [XM 2,XM 5]],6⟩) (.br (!ai.2) (.oo true) (.gh ai.1 d.Xa.length<|.oo (((d.Xa.getD (XI ai.1) qw).Xr) !=1))) λaj=>.br aj (.ff ((⟨nl,nl⟩:bzu),false)) (.cc (Dzd s ai.1 ag) λak=>let al:=([ak]:Ao);let am:=ae.1.length+al.length;
 .conv 22006 (bzx 2 azn al 118)<|.conv 22007 (czx 2 azn ae.1 al 118)<|.grd (am * 48<=140737488355328/\am<=maxLen)<|.nn ((ae.1++al),(qv.wrap (ae.2+1))))) (.oo ae.1)) (nl,0) [] λae=>.kj ((⟨aa,ae⟩:bzu),true)))
def xzq (c)(d)(e):=
 mkC [⟨48,az9s⟩] hd Tryz.func17 (by kernel_rfl) (pzm c d e) 0 [.pure (bzh c),.pure (bzn d),.pure (nzn e)] [] (λr=>.tup [.pure (kzd r.1),XJ r.2]) XL (by kernel_rfl)
def fzt (c:aze)(d:Int)(e:Int):T Int:=let f:Nat×Res:=(0,.box [XK 1 (encL 1 az2) c.Xc,XK 12 az9 c.Xa]);.loop (λ(g:Int)=>⟨[(1,pz d),(2,pz e),(3,XM 0),(7,pz g)],[f],[],1⟩) (.exit 0) XN (λg=>let h:=c.Xa.getD (g.toNat) qw;.br (qx (g<(c.Xa.length:Int))) (.cut 1 (λ(i:Bool)=>⟨[(1,pz d),(2,pz e),(3,XM 0),(7,pz g),(36,XJ i)],[f],[],1⟩) (.gh g c.Xa.length<|.br ((h.U)==(min d e)) (.gh g c.Xa.length<|.oo ((h.V)==(max d e))) (.oo false)) λi=>.br i (.ff g) (.nn (qv.wrap (g+1)))) (.oo .u))
 0 [] λ_=>.kj (-1)
def jzd (c)(d)(e):=
 mkD Tryz.func69 (fzt c d e) 0 [.pure (bzn c),pz d,pz e] [] pz XL
def tzv (c:Ay)(d:Ax):T Int:=
 .loop (λ(e:Int)=>⟨[(0,XK 3 az1 c),(3,XM 0),(5,pz e)],[(0,.box [pz d.1,pz d.2.1,pz d.2.2])],[],1⟩) (.exit 0) XN (λe=>let f:=c.getD (e.toNat) qw;.br (qx (e<(c.length:Int))) (.gh e c.length<|.br (((f.1)==d.1)&&(((f.2.1)==d.2.1)&&(((f.2.2)==d.2.2)&&true))) (.ff e) (.nn (qv.wrap (e+1)))) (.oo .u))
 0 [] λ_=>.kj (-1)
def tzu (c)(d):=
 mkD Tryz.func108 (tzv c d) 0 [XK 3 az1 c,.pure (az1 d)] [] pz XL
def Azd (c:A0):T azi:=let d:=encL 3 azl c;.loop (λ(e:(Ay×An×Int))=>⟨[(0,.pure d),(2,XM 0),(3,XM 3),(4,pz e.2.2)],[(0,.box [.vec 1,.vec 2]),(1,.nilv),(2,.nilv),(3,.box [.vec 4,.vec 5]),(4,vecS 3 az1 e.1 96),(5,vecO 3 bzo e.2.1 162)],[],6⟩) (.exit 0) (λ(e:Az)=>⟨[(2,XM 0),(3,XM 3)],[(0,.box [.vec 1,.vec 2]),(1,.nilv),(2,.nilv),(3,.box [.vec 4,.vec 5]),(4,vecS 3 az1 e.1 96),(5,vecO 3 bzo e.2 162)],[],6⟩) (λe=>let f:=c.getD (XI e.2.2) qw;let g:=f.Xe.length;let h:Nat×Res:=(6,.box [pz (f.Xg),pz (f.Xk),.vec 7]);.br (qx (e.2.2<(c.length:Int))) (.gh e.2.2 c.length<|.gh e.2.2 c.length<|.loop (λ(i:(Ay×A1×Int))=>⟨[(0,.pure d),(2,XM 0),(3,XM 3),(4,pz e.2.2),(5,XM 6),(6,pz i.2.2)],[(0,.box [.vec 1,.vec 2]),(1,.nilv),(2,.nilv),(3,.box [.vec 4,.vec 5]),(4,vecS 3 az1 i.1 96),(5,vecO 3 bzo e.2.1 162),h,(7,vecO 1 az2 i.2.1 3)],[],8⟩) (.exit 2) (λ(i:(Ay×A1))=>⟨[(0,.pure d),(2,XM 0),(3,XM 3),(4,pz e.2.2),(5,XM 6)],[(0,.box [.vec 1,.vec 2]),(1,.nilv),(2,.nilv),(3,.box [.vec 4,.vec 5]),(4,vecS 3 az1 i.1 96),(5,vecO 3 bzo e.2.1 162),h,(7,vecO 1 az2 i.2 3)],[],8⟩) (λi=>let j:=(f.Xe).getD (XI i.2.2) qw;let k:=([j]:Ay);let m:=i.1.length+k.length;.gh e.2.2 c.length<|.br (qx (i.2.2<(f.Xe.length:Int))) (.gh e.2.2 c.length<|.gh i.2.2 g<|.call (tzu i.1 j) [] λn=>.cut 0 (λ(s:B0)=>⟨[(0,.pure d),(2,XM 0),(3,XM 3),(4,pz e.2.2),(5,XM 6),(6,pz i.2.2),(7,pz s.2)],[(0,.box [.vec 1,.vec 2]),(1,.nilv),(2,.nilv),(3,.box [.vec 4,.vec 5]),(4,vecS 3 az1 s.1 96),(5,vecO 3 bzo e.2.1 162),h,(7,vecO 1 az2 i.2.1 3)],[],8⟩) (.br (qx (n<0)) (.gh e.2.2 c.length<|.gh i.2.2 g<|.conv 12010 (bzx 3 az1 k 96)<|.conv 12011 (azc7 3 az1 i.1 k 96)<|.grd (m * 24<=140737488355328/\m<=maxLen)<|.oo ((i.1++k),(i.1.length:Int))) (.oo (i.1,n))) λs=>let t:=([s.2]:A1);let w:=i.2.1.length+t.length;
 .conv 13003 (bzx 1 az2 t 3)<|.conv 13004 (czx 1 az2 i.2.1 t 3)<|.grd (w * 8<=140737488355328/\w<=maxLen)<|.nn (s.1,(i.2.1++t),(qv.wrap (i.2.2+1)))) (.oo (i.1,i.2.1))) (e.1,nl,0) [] λi=>let j:=([(⟨f.Xg,f.Xk,i.2⟩:cza)]:An);let k:=e.2.1.length+j.length;
 .conv 14003 (bzx 3 bzo j 162)<|.conv 14004 (czx 3 bzo e.2.1 j 162)<|.grd (k * 40<=140737488355328/\k<=maxLen)<|.nn (i.1,(e.2.1++j),(qv.wrap (e.2.2+1)))) (.oo (e.1,e.2.1))) (nl,nl,0) [] λe=>.kj (⟨e.1,e.2⟩:azi)
def kz2 (c):=
 mkD Tryz.func70 (Azd c) 0 [XK 3 azl c] [] (λr=>.pure (azn r)) XL
def qzq (c:bzu):T bzu:=let d:Nat×Res:=(0,.box [XK 1 (encL 1 az2) c.Xc,XK 2 azn c.Xa]);.loop (λ(e:Ad)=>⟨[(1,XM 0),(2,XM 1),(3,XM 4),(4,pz e.2)],[d,(1,.box [.vec 2,.vec 3]),(2,.nilv),(3,.nilv),(4,.box [.vec 5,.vec 6]),(5,vecO 1 (encL 1 az2) e.1 62),(6,.nilv)],[],7⟩) (.exit 0) (λ(e:A2)=>⟨[(1,XM 0),(2,XM 1),(3,XM 4)],[d,(1,.box [.vec 2,.vec 3]),(2,.nilv),(3,.nilv),(4,.box [.vec 5,.vec 6]),(5,vecO 1 (encL 1 az2) e 62),(6,.nilv)],[],7⟩) (λe=>let f:=([(c.Xc.getD (XI e.2) qw)]:A2);let g:=e.1.length+f.length;.br (qx (e.2>=0)) (.gh e.2 c.Xc.length<|.conv 5007 (bzx 1 (encL 1 az2) f 62)<|.conv 5008 (czx 1 (encL 1 az2) e.1 f 62)<|.grd (g * 24<=140737488355328/\g<=maxLen)<|.nn ((e.1++f),(qv.wrap (e.2-1)))) (.oo e.1)) (nl,(qv.wrap ((c.Xc.length:Int)-1))) [] λe=>.loop (λ(f:Ap)=>⟨[(1,XM 0),(2,XM 1),(3,XM 4),(5,pz f.2)],[d,(1,.box [.vec 2,.vec 3]),(2,.nilv),(3,.nilv),(4,.box [.vec 5,.vec 6]),(5,vecO 1 (encL 1 az2) e 62),(6,vecO 2 azn f.1 118)],[],7⟩) (.exit 2) (λ(f:Ao)=>⟨[(2,XM 0),(3,XM 3)],[(0,.box [.vec 1,.vec 2]),(1,.nilv),(2,.nilv),(3,.box [.vec 4,.vec 5]),(4,vecO 1 (encL 1 az2) e 62),(5,vecO 2 azn f 118)],[],6⟩) (λf=>let g:=c.Xa.getD (XI f.2) qw;let h:Nat×Res:=(7,.box [XK 3 az1 (g.Xz),.vec 8]);.br (qx (f.2>=0)) (.gh f.2 c.Xa.length<|.gh f.2 c.Xa.length<|.name 10007 ((qv.wrap ((g.Xy.length:Int)-1))) λi=>.loop (λ(j:Aq)=>⟨[(1,XM 0),(2,XM 1),(3,XM 4),(5,pz f.2),(6,XM 7),(7,pz j.2)],[d,(1,.box [.vec 2,.vec 3]),(2,.nilv),(3,.nilv),(4,.box [.vec 5,.vec 6]),(5,vecO 1 (encL 1 az2) e 62),(6,vecO 2 azn f.1 118),h,(8,vecO 3 bzo j.1 162)],[],9⟩) (.exit 4) (λ(j:An)=>⟨[(1,XM 0),(2,XM 1),(3,XM 4),(5,pz f.2),(6,XM 7)],[d,(1,.box [.vec 2,.vec 3]),(2,.nilv),(3,.nilv),(4,.box [.vec 5,.vec 6]),(5,vecO 1 (encL 1 az2) e 62),(6,vecO 2 azn f.1 118),h,(8,vecO 3 bzo j 162)],[],9⟩) (λj=>let k:=(g.Xy).getD (XI j.2) qw;let m:=k.Xg;let n:=k.Xk;let s:=encL 1 az2 (k.Xu);.br (qx (j.2>=0)) (.gh f.2 c.Xa.length<|.gh j.2 (g.Xy.length)<|.cut 0 (λ(t:Int)=>⟨[(1,XM 0),(2,XM 1),(3,XM 4),(5,pz f.2),(6,XM 7),(7,pz j.2),(8,XM 9)],[d,(1,.box [.vec 2,.vec 3]),(2,.nilv),(3,.nilv),(4,.box [.vec 5,.vec 6]),(5,vecO 1 (encL 1 az2) e 62),(6,vecO 2 azn f.1 118),h,(8,vecO 3 bzo j.1 162),(9,.box [pz m,pz t,.pure s])],[],10⟩) (.cut 0 (λ(t:Bool)=>⟨[(1,XM 0),(2,XM 1),(3,XM 4),(5,pz f.2),(6,XM 7),(7,pz j.2),(8,XM 9),(70,XJ t)],[d,(1,.box [.vec 2,.vec 3]),(2,.nilv),(3,.nilv),(4,.box [.vec 5,.vec 6]),(5,vecO 1 (encL 1 az2) e 62),(6,vecO 2 azn f.1 118),h,(8,vecO 3 bzo j.1 162),(9,.box [pz m,pz n,.pure s])],[],10⟩) (.name 14001 m λt=>.br (qx (t>=0)) (.name 14005 m λw=>.oo (qx (w<=20))) (.oo false)) λt=>.br t (.name 15001 m λw=>let y:=IntKind.u64.wrap w;
 .grd (0<=y)<|.name 15006 n λz=>.name 15007 ((qv.wrap ((qv.wrap ((qv.wrap (1 * 2 ^ (min y.toNat 64)))-1))-z))) λaa=>.oo aa) (.oo n)) λt=>let w:=([(⟨k.Xg,t,k.Xu⟩:cza)]:An);let y:=j.1.length+w.length;
 .conv 16003 (bzx 3 bzo w 162)<|.conv 16004 (czx 3 bzo j.1 w 162)<|.grd (y * 40<=140737488355328/\y<=maxLen)<|.nn ((j.1++w),(qv.wrap (j.2-1)))) (.oo j.1)) (nl,i) [] λj=>let k:=([(⟨g.Xz,j⟩:azi)]:Ao);let m:=f.1.length+k.length;
 .conv 17003 (bzx 2 azn k 118)<|.conv 17004 (czx 2 azn f.1 k 118)<|.grd (m * 48<=140737488355328/\m<=maxLen)<|.nn ((f.1++k),(qv.wrap (f.2-1)))) (.oo f.1)) (nl,(qv.wrap ((c.Xa.length:Int)-1))) [] λf=>.kj (⟨e,f⟩:bzu)
def Aze (c):=
 mkD Tryz.func71 (qzq c) 0 [.pure (kzd c)] [] (λr=>.pure (kzd r)) XL
def qzs (c:azd)(d:A2):T Ar:=let e:=(d.length:Int);let f:=encL 1 (encL 1 az2) d;let g:Nat×Res:=(0,.box [XK 12 azc c.Xf.Xb,XK 5 azf c.Xf.Xh,XK 3 azk c.Xd,XK 2 azu c.Xj]);.cc (ez9 c) λh=>.br (h !=0) (.kj (0,904)) (.cut 1 (λ(i:Bool)=>⟨[(1,.pure f),(2,XM 0),(17,XJ i)],[g],[],1⟩) (.br (qx (e<2)) (.oo true) (.oo (qx (e>256)))) λi=>.br i (.kj (0,2201)) (.loop (λ(j:Int)=>⟨[(1,.pure f),(2,XM 0),(6,pz j)],[g],[],1⟩) (.exit 0) XN (λj=>.br (qx (j<e)) (.gh j d.length<|.cc (hz9 c.Xf (d.getD (j.toNat) qw)) λk=>.br (!k) (.ff (j,1201)) (.nn (qv.wrap (j+1)))) (.oo .u))
 0 [] λ_=>.kj (0,0)))
def Azf (c)(d):=
 mkD Tryz.func55 (qzs c d) 0 [.pure (bzh c),XK 1 (encL 1 az2) d] [] (λr=>.tup [pz r.1,pz r.2]) XL
def xz5 (c:az8):T B8:=let d:=IntKind.u64.wrap (qv.wrap (20-c.Xg));let e:=IntKind.u64.wrap c.Xg;let f:=qv.wrap (1 * 2 ^ (min d.toNat 64));.cut 2 (λ(g:Bool)=>⟨[(1,XM 0),(27,XJ g)],[(0,.box [pz c.Xg,pz c.Xk,XK 3 az1 c.Xe])],[],1⟩) (.br (qx (c.Xg<0)) (.oo true) (.br (qx (c.Xg>20)) (.oo true) (.br (qx (c.Xk<0)) (.oo true) (.grd (0<=e)<|.oo (qx (c.Xk>=(qv.wrap (1 * 2 ^ (min e.toNat 64))))))))) λg=>.br g (.kj (0,0,false)) (.grd (0<=d)<|.name 4003 ((qv.wrap (c.Xk * f))) λh=>.kj (h,f,true))
def xz4 (c):=
 mkD Tryz.func138 (xz5 c) 0 [.pure (azl c)] [] (λr=>.tup [pz r.1,pz r.2.1,XJ r.2.2]) XL
def xz6 (c:A0):T Au:=let d:=encL 3 azl c;let e:=(c.length:Int);.loop (λ(f:Ar)=>⟨[(0,.pure d),(4,pz f.1),(5,pz f.2)],[],[],0⟩) (.exit 0) (λ(f:Int)=>⟨[(0,.pure d),(4,pz f)],[],[],0⟩) (λf=>.br (qx (f.2<e)) (.gh f.2 c.length<|.cc (xz4 (c.getD (XI f.2) qw)) λg=>.cut 1 (λ(h:Bool)=>⟨[(0,.pure d),(5,pz f.2),(6,pz g.1),(7,pz g.2.1),(34,XJ h)],[],[],0⟩) (.br (!g.2.2) (.oo true) (.br (g.1 !=f.1) (.oo true) (.oo (qx (f.2>=4096))))) λh=>.br h (.ff (f.2,false)) (.nn ((qv.wrap (g.1+g.2.1)),(qv.wrap (f.2+1))))) (.oo f.1)) (0,0) [] λf=>.kj (e,(f==1048576))
def Fzr (c):=
 mkD Tryz.func97 (xz6 c) 0 [XK 3 azl c] [] (λr=>.tup [pz r.1,XJ r.2]) XL
def mzj (c:azd)(d:Af)(e:Ay):T Bool:=let f:=encL 3 az1 e;.cc (wzz c d) λg=>let h:=encL 2 bzl g.1;let i:=encL 2 bzl g.2.1;let j:=(g.1.length:Int);
 .cut 1 (λ(k:Bool)=>⟨[(2,.pure f),(7,.pure h),(8,.pure i),(26,XJ k)],[],[],0⟩) (.br (!g.2.2) (.oo true) (.oo ((e.length:Int) !=j))) λk=>.br k (.kj false) (.loop (λ(m:Int)=>⟨[(2,.pure f),(7,.pure h),(8,.pure i),(10,pz m)],[],[],0⟩) (.exit 0) XN (λm=>let n:=m.toNat;let s:=g.1.getD n qw;let t:=g.2.1.getD n qw;.br (qx (m<j)) (.gh m e.length<|.gh m g.1.length<|.gh m g.1.length<|.gh m g.2.1.length<|.gh m g.2.1.length<|.cc (mzk (e.getD n qw) (s.points) (s.radius) (t.points) (t.radius)) λw=>.br (!w) (.ff false) (.nn (qv.wrap (m+1)))) (.oo .u))
 0 [] λ_=>.kj true)
def izh (c)(d)(e):=
 mkD Tryz.func99 (mzj c d e) 0 [.pure (bzh c),XK 2 azb d,XK 3 az1 e] [] XJ XL
def mzn (c:azd)(d:A1)(e:A1)(f:A0):T Ar:=
 .cc (ez9 c) λg=>.br (g !=0) (.kj (0,904)) (.cc (pzk c d e) λh=>.br (!h) (.kj (0,1201)) (.cc (Fzr f) λi=>.br (!i.2) (.kj (i.1,2001)) (.loop (λ(j:Int)=>⟨[(1,XK 1 az2 d),(2,XK 1 az2 e),(3,XK 3 azl f),(4,XM 0),(12,pz j)],[(0,.box [XK 12 azc c.Xf.Xb,XK 5 azf c.Xf.Xh,XK 3 azk c.Xd,XK 2 azu c.Xj])],[],1⟩) (.exit 0) XN (λj=>let k:=f.getD (j.toNat) qw;.br (qx (j<(f.length:Int))) (.gh j f.length<|.gh j f.length<|.cc (pzh d e (k.Xg) (k.Xk)) λm=>.gh j f.length<|.cc (izh c m.1 (k.Xe)) λn=>.br (!n) (.ff (j,2002)) (.nn (qv.wrap (j+1)))) (.oo .u))
 0 [] λ_=>.kj (0,0))))
def vzd (c)(d)(e)(f):=
 mkD Tryz.func57 (mzn c d e f) 0 [.pure (bzh c),XK 1 az2 d,XK 1 az2 e,XK 3 azl f] [] (λr=>.tup [pz r.1,pz r.2]) XL
def tzt (c:azd)(d:A1)(e:A1)(f:az8)(g:az8):T (az8×Bool):=let h:=qv.wrap (f.Xg-1);let i:=qv.wrap (f.Xk.tdiv 2);let j:=encL 3 az1 f.Xe;let k:=encL 3 az1 g.Xe;let m:=(⟨h,i,g.Xe⟩:az8);let n:Nat×Res:=(0,.box [XK 12 azc c.Xf.Xb,XK 5 azf c.Xf.Xh,XK 3 azk c.Xd,XK 2 azu c.Xj]);.cut 2 (λ(s:Bool)=>⟨[(1,XK 1 az2 d),(2,XK 1 az2 e),(5,XM 0),(8,XM 1),(9,XM 2),(10,XM 3),(38,XJ s)],[n,(1,.box [pz f.Xg,pz f.Xk,.pure j]),(2,.box [pz g.Xg,pz g.Xk,.pure k]),(3,.box [pz 0,pz 0,.vec 4]),(4,.nilv)],[],5⟩) (.br (f.Xg !=g.Xg) (.oo true) (.br (qx (f.Xg<1)) (.oo true) (.ok ((2:Int)≠0) (by decide)<|.br ((f.Xk.tmod 2) !=0) (.oo true) (.oo (g.Xk !=(qv.wrap (f.Xk+1))))))) λs=>.br s (.kj ((⟨0,0,nl⟩:az8),false)) (.ok ((2:Int)≠0) (by decide)<|.cc (pzh d e h i) λt=>.cut 1 (λ(w:Bool)=>⟨[(5,XM 0),(9,XM 1),(10,XM 2),(12,XM 4),(13,XK 2 azb t.1),(14,XJ t.2),(66,XJ w)],[n,(1,.box [pz g.Xg,pz g.Xk,.pure k]),(2,.box [pz 0,pz 0,.vec 3]),(3,.nilv),(4,.box [pz h,pz i,.pure j])],[],5⟩) (.br t.2 (.cc (izh c t.1 f.Xe) λw=>.oo w) (.oo false)) λw=>.br w (.kj ((⟨h,i,f.Xe⟩:az8),true)) (.br t.2 (.cc (izh c t.1 g.Xe) λy=>.kj (m,y)) (.kj (m,false))))
def tzs (c)(d)(e)(f)(g):=
 mkD Tryz.func197 (tzt c d e f g) 0 [.pure (bzh c),XK 1 az2 d,XK 1 az2 e,.pure (azl f),.pure (azl g)] [] (λr=>.tup [.pure (azl r.1),XJ r.2]) XL
def xz2 (c:azd)(d:A1)(e:A1)(f:A0):T A0:=
 .cc (vzd c d e f) λg=>.br (g.2 !=0) (.kj f) (.grd (f.length * 40<=140737488355328/\f.length<=maxLen)<|.loop (λ(h:Am)=>⟨[(1,XK 1 az2 d),(2,XK 1 az2 e),(4,XM 0),(11,.vec 1),(12,pz h.2)],[(0,.box [XK 12 azc c.Xf.Xb,XK 5 azf c.Xf.Xh,XK 3 azk c.Xd,XK 2 azu c.Xj]),(1,vecO 3 azl h.1 80)],[],2⟩) (.exit 0) (λ(h:A0)=>⟨[(11,.vec 0)],[(0,vecO 3 azl h 80)],[],1⟩) (λh=>let i:=(h.1.length:Int);let j:=qv.wrap (h.2+1);let k:=qv.wrap (h.2+2);let m:=(h.1.drop (k.toNat)).take (i.toNat-k.toNat);let n:=(h.1.drop (XI (0:Int))).take ((h.2).toNat- (0:Int).toNat);.br (qx (j<i)) (.gg h.2 h.1.length<|.gg j h.1.length<|.call (tzs c d e (h.1.getD (XI h.2) qw) (h.1.getD (j.toNat) qw)) [] λs=>let t:=([s.1]:A0);let w:=n++t;let y:=n.length+t.length;let z:=w.length+m.length;
 .br (!s.2) (.nn (h.1,j)) (.unroll 1<|.conv 10002 (Gzx 3 azl h.1 (0:Int) h.2)<|.grd (0<=(0:Int)/\(0:Int)<=h.2/\h.2<=i)<|.grd (n.length * 40<=140737488355328/\n.length<=maxLen)<|.conv 11002 (bzx 3 azl t 80)<|.conv 11003 (czx 3 azl n t 80)<|.grd (y * 40<=140737488355328/\y<=maxLen)<|.unroll 1<|.conv 12004 (Gzx 3 azl h.1 k i)<|.grd (0<=k/\k<=i/\i<=i)<|.conv 12005 (czx 3 azl w m 80)<|.grd (z * 40<=140737488355328/\z<=maxLen)<|.nn ((w++m),0))) (.oo h.1)) (f,0) [] λh=>.kj h)
def Fzp (c)(d)(e)(f):=
 mkD Tryz.func148 (xz2 c d e f) 0 [.pure (bzh c),XK 1 az2 d,XK 1 az2 e,XK 3 azl f] [] (λr=>XK 3 azl r) XL
def Azc (c:azd)(d:A1)(e:A1)(f:Int):T (azi×Bool):=
 .cc (xz3 c d e f) λg=>.br (g.Xm !=1) (.kj ((⟨nl,nl⟩:azi),false)) (.cc (Fzp c d e g.Xo) λh=>.cc (kz2 h) λi=>.kj (i,true))
def sz7 (c)(d)(e)(f):=
 mkD Tryz.func109 (Azc c d e f) 0 [.pure (bzh c),XK 1 az2 d,XK 1 az2 e,pz f] [] (λr=>.tup [.pure (azn r.1),XJ r.2]) XL
def xz1 (c:azd)(d:A2)(e:Int):T (bzu×Int×Int):=let f:=encL 1 (encL 1 az2) d;let g:Nat×Res:=(0,.box [XK 12 azc c.Xf.Xb,XK 5 azf c.Xf.Xh,XK 3 azk c.Xd,XK 2 azu c.Xj]);.cc (Azf c d) λh=>.br (h.2 !=0) (.kj ((⟨nl,nl⟩:bzu),h.1,h.2)) (.loop (λ(i:(A2×Ao×Int))=>⟨[(1,.pure f),(2,pz e),(3,XM 0),(6,XM 1),(11,XM 4),(12,pz i.2.2)],[g,(1,.box [.vec 2,.vec 3]),(2,.nilv),(3,.nilv),(4,.box [.vec 5,.vec 6]),(5,vecO 1 (encL 1 az2) i.1 62),(6,vecO 2 azn i.2.1 118)],[],7⟩) (.exit 0) (λ(i:(A2×Ao))=>⟨[(6,XM 0),(11,XM 3)],[(0,.box [.vec 1,.vec 2]),(1,.nilv),(2,.nilv),(3,.box [.vec 4,.vec 5]),(4,vecO 1 (encL 1 az2) i.1 62),(5,vecO 2 azn i.2 118)],[],6⟩) (λi=>let j:=d.getD (XI i.2.2) qw;let k:=qv.wrap (i.2.2-1);let m:=([j]:A2);let n:=i.1.length+m.length;.br (qx (i.2.2<(d.length:Int))) (.cut 0 (λ(s:Ao)=>⟨[(1,.pure f),(2,pz e),(3,XM 0),(6,XM 1),(11,XM 4),(12,pz i.2.2)],[g,(1,.box [.vec 2,.vec 3]),(2,.nilv),(3,.nilv),(4,.box [.vec 5,.vec 6]),(5,vecO 1 (encL 1 az2) (i.1++m) 62),(6,vecO 2 azn s 118)],[],7⟩) (.gh i.2.2 d.length<|.grd (j.length * 8<=140737488355328/\j.length<=maxLen)<|.conv 8007 (bzx 1 (encL 1 az2) m 62)<|.conv 8008 (czx 1 (encL 1 az2) i.1 m 62)<|.grd (n * 24<=140737488355328/\n<=maxLen)<|.br (i.2.2==0) (.oo i.2.1) (.gh k d.length<|.gh i.2.2 d.length<|.call (sz7 c (d.getD (k.toNat) qw) j e) [] λs=>let t:=([s.1]:Ao);let w:=i.2.1.length+t.length;
 .br (!s.2) (.ff (.fin ((⟨nl,nl⟩:bzu),k,2204))) (.conv 13003 (bzx 2 azn t 118)<|.conv 13004 (czx 2 azn i.2.1 t 118)<|.grd (w * 48<=140737488355328/\w<=maxLen)<|.oo (i.2.1++t)))) λs=>.nn ((i.1++m),s,(qv.wrap (i.2.2+1)))) (.oo (i.1,i.2.1))) (nl,nl,0) [] λi=>.kj ((⟨i.1,i.2⟩:bzu),0,0))
def Fzo (c)(d)(e):=
 mkD Tryz.func72 (xz1 c d e) 0 [.pure (bzh c),XK 1 (encL 1 az2) d,pz e] [] (λr=>.tup [.pure (kzd r.1),pz r.2.1,pz r.2.2]) XL
def nzg (c:azd)(d:aze)(e:bzy):T (bzu×Bool):=let f:=(e.Xq.length:Int);let g:Nat×Res:=(1,.box [XK 1 (encL 1 az2) d.Xc,XK 12 az9 d.Xa]);let h:Nat×Res:=(2,.box [XK 1 az2 e.Xq,pz e.Xi]);let i:Nat×Res:=(0,.box [XK 12 azc c.Xf.Xb,XK 5 azf c.Xf.Xh,XK 3 azk c.Xd,XK 2 azu c.Xj]);.cut 2 (λ(j:Bool)=>⟨[(3,XM 0),(4,XM 1),(5,XM 2),(6,XM 3),(31,XJ j)],[i,g,h,(3,.box [.vec 4,.vec 5]),(4,.nilv),(5,.nilv)],[],6⟩) (.cc (nzf d) λj=>.br (!j) (.oo true) (.br (qx (f<1)) (.oo true) (.oo (qx (f>256))))) λj=>.br j (.kj ((⟨nl,nl⟩:bzu),false)) (.loop (λ(k:(A2×Ao×Int))=>⟨[(3,XM 0),(4,XM 1),(5,XM 2),(6,XM 3),(8,XM 6),(9,pz k.2.2)],[i,g,h,(3,.box [.vec 4,.vec 5]),(4,.nilv),(5,.nilv),(6,.box [.vec 7,.vec 8]),(7,vecO 1 (encL 1 az2) k.1 62),(8,vecO 2 azn k.2.1 118)],[],9⟩) (.exit 0) (λ(k:(A2×Ao))=>⟨[(3,XM 0),(6,XM 1),(8,XM 4)],[i,(1,.box [.vec 2,.vec 3]),(2,.nilv),(3,.nilv),(4,.box [.vec 5,.vec 6]),(5,vecO 1 (encL 1 az2) k.1 62),(6,vecO 2 azn k.2 118)],[],7⟩) (λk=>let m:=qv.wrap (k.2.2-1);let n:=e.Xq.getD (XI k.2.2) qw;let s:=d.Xc.getD (n.toNat) qw;let t:=([s]:A2);let w:=k.1++t;let y:=k.1.length+t.length;let z:=e.Xq.getD (m.toNat) qw;let aa:=([s,(d.Xc.getD (z.toNat) qw)]:A2);.br (qx (k.2.2<f)) (.cut 0 (λ(ab:Ao)=>⟨[(3,XM 0),(4,XM 1),(5,XM 2),(6,XM 3),(8,XM 6),(9,pz k.2.2)],[i,g,h,(3,.box [.vec 4,.vec 5]),(4,.nilv),(5,.nilv),(6,.box [.vec 7,.vec 8]),(7,vecO 1 (encL 1 az2) w 62),(8,vecO 2 azn ab 118)],[],9⟩) (.gh k.2.2 e.Xq.length<|.cut 1 (λ(ab:Bool)=>⟨[(3,XM 0),(4,XM 1),(5,XM 2),(6,XM 3),(8,XM 6),(9,pz k.2.2),(10,pz n),(53,XJ ab)],[i,g,h,(3,.box [.vec 4,.vec 5]),(4,.nilv),(5,.nilv),(6,.box [.vec 7,.vec 8]),(7,vecO 1 (encL 1 az2) k.1 62),(8,vecO 2 azn k.2.1 118)],[],9⟩) (.br (qx (n<0)) (.oo true) (.oo (qx (n>=(d.Xc.length:Int))))) λab=>.br ab (.ff (.fin ((⟨nl,nl⟩:bzu),false))) (.gh n d.Xc.length<|.conv 10007 (bzx 1 (encL 1 az2) t 62)<|.conv 10008 (czx 1 (encL 1 az2) k.1 t 62)<|.grd (y * 24<=140737488355328/\y<=maxLen)<|.br (k.2.2==0) (.oo k.2.1) (.gh m e.Xq.length<|.call (jzd (⟨d.Xc,d.Xa⟩:aze) z n) [] λac=>let ad:=d.Xa.getD (ac.toNat) qw;
 .cut 1 (λ(ae:Bool)=>⟨[(3,XM 0),(4,XM 1),(5,XM 2),(6,XM 3),(8,XM 6),(9,pz k.2.2),(10,pz n),(11,pz z),(12,pz ac),(87,XJ ae)],[i,g,h,(3,.box [.vec 4,.vec 5]),(4,.nilv),(5,.nilv),(6,.box [.vec 7,.vec 8]),(7,vecO 1 (encL 1 az2) w 62),(8,vecO 2 azn k.2.1 118)],[],9⟩) (.br (qx (ac<0)) (.oo true) (.gh ac d.Xa.length<|.oo ((ad.Xr) !=1))) λae=>.br ae (.ff (.fin ((⟨nl,nl⟩:bzu),false))) (.gh ac d.Xa.length<|.cc (kz2 (ad.Xn.Xo)) λaf=>let ag:=([af]:Ao);
 .cut 0 (λ(ah:Az)=>⟨[(3,XM 0),(4,XM 1),(5,XM 2),(6,XM 3),(8,XM 6),(9,pz k.2.2),(13,XM 9)],[i,g,h,(3,.box [.vec 4,.vec 5]),(4,.nilv),(5,.nilv),(6,.box [.vec 7,.vec 8]),(7,vecO 1 (encL 1 az2) w 62),(8,vecO 2 azn k.2.1 118),(9,.box [XK 3 az1 ah.1,XK 3 bzo ah.2])],[],10⟩) (.br (qx (z>n)) (.gh n d.Xc.length<|.gh z d.Xc.length<|.conv 18010 (bzx 1 (encL 1 az2) aa 62)<|.conv 18012 (bzx 2 azn ag 118)<|.call (Aze (⟨aa,ag⟩:bzu)) [] λah=>let ai:=ah.Xa.getD (XI (0:Int)) qw;
 .gh (0:Int) ah.Xa.length<|.oo (ai.Xz,ai.Xy)) (.oo (af.Xz,af.Xy))) λah=>let ai:=([(⟨ah.1,ah.2⟩:azi)]:Ao);let aj:=k.2.1.length+ai.length;
 .conv 19003 (bzx 2 azn ai 118)<|.conv 19004 (czx 2 azn k.2.1 ai 118)<|.grd (aj * 48<=140737488355328/\aj<=maxLen)<|.oo (k.2.1++ai))))) λab=>.nn (w,ab,(qv.wrap (k.2.2+1)))) (.oo (k.1,k.2.1))) (nl,nl,0) [] λk=>let m:=k.1.getD (XI (0:Int)) qw;let n:=([m,m]:A2);
 .br ((k.1.length:Int)==1) (.gg (0:Int) k.1.length<|.gg (0:Int) k.1.length<|.conv 21009 (bzx 1 (encL 1 az2) n 62)<|.cc (Fzo c n 0) λs=>.kj (s.1,(s.2.2==0))) (.kj ((⟨k.1,k.2⟩:bzu),true)))
def uz6 (c)(d)(e):=
 mkD Tryz.func30 (nzg c d e) 0 [.pure (bzh c),.pure (bzn d),.pure (nzn e)] [] (λr=>.tup [.pure (kzd r.1),XJ r.2]) XL
def mzb (c:A1)(d:A1):T Bool:=let e:=(c.length:Int);.br (e !=(d.length:Int)) (.kj false) (.loop (λ(f:Int)=>⟨[(0,XK 1 az2 c),(1,XK 1 az2 d),(5,pz f)],[],[],0⟩) (.exit 0) XN (λf=>.br (qx (f<e)) (.gh f c.length<|.gh f d.length<|.br ((c.getD (f.toNat) qw) !=(d.getD (f.toNat) qw)) (.ff false) (.nn (qv.wrap (f+1)))) (.oo .u))
 0 [] λ_=>.kj true)
def vz4 (c)(d):=
 mkD Tryz.func19 (mzb c d) 0 [XK 1 az2 c,XK 1 az2 d] [] XJ XL
def hzd (c:A2)(d:A2):T Bool:=let e:=(c.length:Int);.br (e !=(d.length:Int)) (.kj false) (.loop (λ(f:Int)=>⟨[(0,XK 1 (encL 1 az2) c),(1,XK 1 (encL 1 az2) d),(5,pz f)],[],[],0⟩) (.exit 0) XN (λf=>.br (qx (f<e)) (.gh f c.length<|.gh f d.length<|.cc (vz4 (c.getD (f.toNat) qw) (d.getD (f.toNat) qw)) λg=>.br (!g) (.ff false) (.nn (qv.wrap (f+1)))) (.oo .u))
 0 [] λ_=>.kj true)
def lzw (c)(d):=
 mkD Tryz.func73 (hzd c d) 0 [XK 1 (encL 1 az2) c,XK 1 (encL 1 az2) d] [] XJ XL
def jzs (c:Ay)(d:Ay):T Bool:=let e:=(c.length:Int);.br (e !=(d.length:Int)) (.kj false) (.loop (λ(f:Int)=>⟨[(0,XK 3 az1 c),(1,XK 3 az1 d),(5,pz f)],[],[],0⟩) (.exit 0) XN (λf=>let g:=c.getD (f.toNat) qw;let h:=d.getD (f.toNat) qw;.br (qx (f<e)) (.gh f c.length<|.gh f d.length<|.br (!(((g.1)==(h.1))&&(((g.2.1)==(h.2.1))&&(((g.2.2)==(h.2.2))&&true)))) (.ff false) (.nn (qv.wrap (f+1)))) (.oo .u))
 0 [] λ_=>.kj true)
def qze (c)(d):=
 mkD Tryz.func110 (jzs c d) 0 [XK 3 az1 c,XK 3 az1 d] [] XJ XL
def mza (c:azi)(d:azi):T Bool:=let e:=(c.Xy.length:Int);let f:Nat×Res:=(0,.box [XK 3 az1 c.Xz,XK 3 bzo c.Xy]);let g:Nat×Res:=(1,.box [XK 3 az1 d.Xz,XK 3 bzo d.Xy]);.cut 2 (λ(h:Bool)=>⟨[(2,XM 0),(3,XM 1),(22,XJ h)],[f,g],[],2⟩) (.cc (qze c.Xz d.Xz) λh=>.br (!h) (.oo true) (.oo (e !=(d.Xy.length:Int)))) λh=>.br h (.kj false) (.loop (λ(i:Int)=>⟨[(2,XM 0),(3,XM 1),(5,pz i)],[f,g],[],2⟩) (.exit 0) XN (λi=>let j:=c.Xy.getD (i.toNat) qw;let k:=d.Xy.getD (i.toNat) qw;.br (qx (i<e)) (.gh i c.Xy.length<|.gh i d.Xy.length<|.cut 0 (λ(m:Bool)=>⟨[(2,XM 0),(3,XM 1),(5,pz i),(59,XJ m)],[f,g],[],2⟩) (.br ((j.Xg) !=(k.Xg)) (.oo true) (.br ((j.Xk) !=(k.Xk)) (.oo true) (.cc (qzf (j.Xu) (k.Xu)) λm=>.oo (!m)))) λm=>.br m (.ff false) (.nn (qv.wrap (i+1)))) (.oo .u))
 0 [] λ_=>.kj true)
def vz3 (c)(d):=
 mkD Tryz.func74 (mza c d) 0 [.pure (azn c),.pure (azn d)] [] XJ XL
def qzd (c:bzu)(d:bzu):T Bool:=let e:=(c.Xa.length:Int);let f:Nat×Res:=(0,.box [XK 1 (encL 1 az2) c.Xc,XK 2 azn c.Xa]);let g:Nat×Res:=(1,.box [XK 1 (encL 1 az2) d.Xc,XK 2 azn d.Xa]);.cut 2 (λ(h:Bool)=>⟨[(2,XM 0),(3,XM 1),(20,XJ h)],[f,g],[],2⟩) (.cc (lzw c.Xc d.Xc) λh=>.br (!h) (.oo true) (.oo (e !=(d.Xa.length:Int)))) λh=>.br h (.kj false) (.loop (λ(i:Int)=>⟨[(2,XM 0),(3,XM 1),(5,pz i)],[f,g],[],2⟩) (.exit 0) XN (λi=>.br (qx (i<e)) (.gh i c.Xa.length<|.gh i d.Xa.length<|.cc (vz3 (c.Xa.getD (i.toNat) qw) (d.Xa.getD (i.toNat) qw)) λj=>.br (!j) (.ff false) (.nn (qv.wrap (i+1)))) (.oo .u))
 0 [] λ_=>.kj true)
def zzr (c)(d):=
 mkD Tryz.func31 (qzd c d) 0 [.pure (kzd c),.pure (kzd d)] [] XJ XL
open Go.Proofs
def wzi (c:azd)(d:aze)(e:bzy):T Bool:=let f:=(⟨d.Xc,d.Xa⟩:aze);let g:=(⟨e.Xq,e.Xi⟩:bzy);.cc (xzq (⟨c.Xf,c.Xd,c.Xj⟩:azd) f g) λh=>.cc (uz6 c f g) λi=>.br (h.2==i.2) (.cc (zzr (⟨h.1.Xc,h.1.Xa⟩:bzu) i.1) λj=>.kj j) (.kj false)
def izc (c)(d)(e):=
 mkD Tryz.func11 (wzi c d e) 0 [.pure (bzh c),.pure (bzn d),.pure (nzn e)] [] XJ XL
def ozt (c:azo)(d:A2)(e:Int):T (A2×A3):=let f:=encL 1 (encL 1 az2) d;let g:Nat×Res:=(0,.box [XK 12 azc c.Xb,XK 5 azf c.Xh]);.cc (czs c) λh=>.br (h !=0) (.kj (nl,nl)) (.loop (λ(i:Ad)=>⟨[(1,.pure f),(2,pz e),(3,XM 0),(6,XM 1),(7,XM 4),(8,pz i.2)],[g,(1,.box [.vec 2,.vec 3]),(2,.nilv),(3,.nilv),(4,.box [.vec 5,.vec 6]),(5,vecO 1 (encL 1 az2) i.1 62),(6,.nilv)],[],7⟩) (.exit 0) (λ(i:A2)=>⟨[(2,pz e),(3,XM 0),(6,XM 1),(7,XM 4)],[g,(1,.box [.vec 2,.vec 3]),(2,.nilv),(3,.nilv),(4,.box [.vec 5,.vec 6]),(5,vecO 1 (encL 1 az2) i 62),(6,.nilv)],[],7⟩) (λi=>let j:=d.getD (XI i.2) qw;let k:=([j]:A2);let m:=i.1.length+k.length;.cut 1 (λ(n:Bool)=>⟨[(1,.pure f),(2,pz e),(3,XM 0),(6,XM 1),(7,XM 4),(8,pz i.2),(25,XJ n)],[g,(1,.box [.vec 2,.vec 3]),(2,.nilv),(3,.nilv),(4,.box [.vec 5,.vec 6]),(5,vecO 1 (encL 1 az2) i.1 62),(6,.nilv)],[],7⟩) (.br (qx (i.2<(d.length:Int))) (.oo (qx ((i.1.length:Int)<1024))) (.oo false)) λn=>.br n (.cut 0 (λ(s:A2)=>⟨[(1,.pure f),(2,pz e),(3,XM 0),(6,XM 1),(7,XM 4),(8,pz i.2)],[g,(1,.box [.vec 2,.vec 3]),(2,.nilv),(3,.nilv),(4,.box [.vec 5,.vec 6]),(5,vecO 1 (encL 1 az2) s 62),(6,.nilv)],[],7⟩) (.cut 0 (λ(s:Bool)=>⟨[(1,.pure f),(2,pz e),(3,XM 0),(6,XM 1),(7,XM 4),(8,pz i.2),(43,XJ s)],[g,(1,.box [.vec 2,.vec 3]),(2,.nilv),(3,.nilv),(4,.box [.vec 5,.vec 6]),(5,vecO 1 (encL 1 az2) i.1 62),(6,.nilv)],[],7⟩) (.gh i.2 d.length<|.cc (hz9 c j) λs=>.br s (.gh i.2 d.length<|.call (lzh i.1 j) [(0,5)] λt=>.oo (qx (t<0))) (.oo false)) λs=>.br s (.gh i.2 d.length<|.grd (j.length * 8<=140737488355328/\j.length<=maxLen)<|.conv 8007 (bzx 1 (encL 1 az2) k 62)<|.conv 8008 (czx 1 (encL 1 az2) i.1 k 62)<|.grd (m * 24<=140737488355328/\m<=maxLen)<|.oo (i.1++k)) (.oo i.1)) λs=>.nn (s,(qv.wrap (i.2+1)))) (.oo i.1)) (nl,0) [] λi=>.loop (λ(j:Ae)=>⟨[(2,pz e),(3,XM 0),(6,XM 1),(7,XM 4),(9,pz j.2)],[g,(1,.box [.vec 2,.vec 3]),(2,.nilv),(3,.nilv),(4,.box [.vec 5,.vec 6]),(5,vecO 1 (encL 1 az2) i 62),(6,vecO 12 az9 j.1 86)],[],7⟩) (.exit 2) (λ(j:A3)=>⟨[(6,XM 0),(7,XM 3)],[(0,.box [.vec 1,.vec 2]),(1,.nilv),(2,.nilv),(3,.box [.vec 4,.vec 5]),(4,vecO 1 (encL 1 az2) i 62),(5,vecO 12 az9 j 86)],[],6⟩) (λj=>.br (qx (j.2<(i.length:Int))) (.gg j.2 i.length<|.call (lzi c i (i.getD (XI j.2) qw) j.2) [(0,5)] λk=>let m:=encL 1 az2 k;
 .loop (λ(n:Ae)=>⟨[(2,pz e),(3,XM 0),(6,XM 1),(7,XM 4),(9,pz j.2),(10,.pure m),(11,pz n.2)],[g,(1,.box [.vec 2,.vec 3]),(2,.nilv),(3,.nilv),(4,.box [.vec 5,.vec 6]),(5,vecO 1 (encL 1 az2) i 62),(6,vecO 12 az9 n.1 86)],[],7⟩) (.exit 4) (λ(n:A3)=>⟨[(2,pz e),(3,XM 0),(6,XM 1),(7,XM 4),(9,pz j.2)],[g,(1,.box [.vec 2,.vec 3]),(2,.nilv),(3,.nilv),(4,.box [.vec 5,.vec 6]),(5,vecO 1 (encL 1 az2) i 62),(6,vecO 12 az9 n 86)],[],7⟩) (λn=>.cut 1 (λ(s:Bool)=>⟨[(2,pz e),(3,XM 0),(6,XM 1),(7,XM 4),(9,pz j.2),(10,.pure m),(11,pz n.2),(79,XJ s)],[g,(1,.box [.vec 2,.vec 3]),(2,.nilv),(3,.nilv),(4,.box [.vec 5,.vec 6]),(5,vecO 1 (encL 1 az2) i 62),(6,vecO 12 az9 n.1 86)],[],7⟩) (.br (qx (n.2<(k.length:Int))) (.oo (qx (n.2<e))) (.oo false)) λs=>.br s (.gh n.2 k.length<|.call (uz7 c i n.1 j.2 (k.getD (XI n.2) qw)) [(0,5),(1,6)] λt=>.nn (t,(qv.wrap (n.2+1)))) (.oo n.1)) (j.1,0) [] λn=>.nn (n,(qv.wrap (j.2+1)))) (.oo j.1)) (nl,0) [] λj=>let k:=(j.length:Nat);
 .cut 0 (λ(m:A3)=>⟨[(6,XM 0),(7,XM 3)],[(0,.box [.vec 1,.vec 2]),(1,.nilv),(2,.nilv),(3,.box [.vec 4,.vec 5]),(4,vecO 1 (encL 1 az2) i 62),(5,vecO 12 az9 m 86)],[],6⟩) (.br (qx ((k:Int)>8192)) (.conv 18002 (Szo 12 az9 j 86 (8192:Int))<|.grd (0<=(8192:Int)/\(8192:Int)<=(k:Int)/\0<=(8192:Int).toNat)<|.oo (j.take (XI (8192:Int)))) (.oo j)) λm=>.kj (i,m))
def yzj (c)(d)(e):=
 mkD Tryz.func14 (ozt c d e) 0 [.pure (czq c),XK 1 (encL 1 az2) d,pz e] [] (λ_=>.agg [.vec 0,.vec 1]) (λr=>[(0,vecO 1 (encL 1 az2) r.1 62),(1,vecO 12 az9 r.2 86)])
def tzb (c:azo)(d:A1):T aze:=
 .cc (fzs d) λe=>.call (azq e.1 e.2 6) [(0,192)] λf=>.call (azq f.2.1 f.2.2 3) [(0,192)] λg=>.cc (izz c (qv.wrap (2+f.1)) d) λh=>.cc (yzj c h (qv.wrap (1+g.1))) λi=>.loop (λ(j:(A1×Int×A3×Int))=>⟨[(4,XM 0),(5,XM 3),(8,XM 4),(9,pz j.2.2.2)],[(0,.box [.vec 1,.vec 2]),(1,.nilv),(2,.nilv),(3,.box [XK 1 az2 j.1,pz j.2.1]),(4,.box [.vec 5,.vec 6]),(5,vecO 1 (encL 1 az2) i.1 62),(6,vecO 12 az9 j.2.2.1 86)],[],7⟩) (.exit 0) (λ(j:A3)=>⟨[(4,XM 0),(8,XM 3)],[(0,.box [.vec 1,.vec 2]),(1,.nilv),(2,.nilv),(3,.box [.vec 4,.vec 5]),(4,vecO 1 (encL 1 az2) i.1 62),(5,vecO 12 az9 j 86)],[],6⟩) (λj=>let k:=j.2.2.2;let m:=k.toNat;let n:=j.2.2.1.getD m qw;.br (qx (j.2.2.2<(j.2.2.1.length:Int))) (.call (azq j.1 j.2.1 4) [(0,3)] λs=>let t:=(⟨n.U,n.V,n.Xi,s.1,n.Xn⟩:az4);let w:=j.2.2.1.set m t;let y:=w.length;let z:=w.getD m qw;
 .gh j.2.2.2 j.2.2.1.length<|.conv 7007 (fzr 12 az9 j.2.2.1 86 m t)<|.gi k j.2.2.1.length<|.gg j.2.2.2 y<|.name 8008 (z.Xr) λaa=>.cc (nzp aa) λab=>let ac:=(⟨z.U,z.V,z.Xi,z.Xr,ab⟩:az4);
 .gh j.2.2.2 y<|.conv 8012 (fzr 12 az9 w 86 m ac)<|.gi k y<|.nn (s.2.1,s.2.2,(w.set m ac),(qv.wrap (j.2.2.2+1)))) (.oo j.2.2.1)) (g.2.1,g.2.2,i.2,0) [] λj=>.kj (⟨i.1,j⟩:aze)
def Czp (c)(d):=
 mkD Tryz.func12 (tzb c d) 0 [.pure (czq c),XK 1 az2 d] [] (λr=>.pure (bzn r)) XL
def jzr (c:azd)(d:aze)(e:bzy)(f:A1)(g:A1)(h:Int)(i:Int):T Bool:=let j:=(⟨d.Xc,d.Xa⟩:aze);let k:=(⟨e.Xq,e.Xi⟩:bzy);let m:=(⟨c.Xf,c.Xd,c.Xj⟩:azd);.cut 2 (λ(n:Bool)=>⟨[(3,XK 1 az2 f),(4,XK 1 az2 g),(5,pz h),(6,pz i),(7,XM 0),(8,XM 1),(9,XM 2),(32,XJ n)],[(0,.box [XK 12 azc c.Xf.Xb,XK 5 azf c.Xf.Xh,XK 3 azk c.Xd,XK 2 azu c.Xj]),(1,.box [XK 1 (encL 1 az2) d.Xc,XK 12 az9 d.Xa]),(2,.box [XK 1 az2 e.Xq,pz e.Xi])],[],3⟩) (.cc (zzu j) λn=>.br (!n) (.oo true) (.cc (vz5 m) λs=>.br (!s) (.oo true) (.oo (qx ((e.Xq.length:Int)>20))))) λn=>.br n (.cc (wzh) λs=>.kj s) (.cc (Czn f g) λs=>let t:=(s.2.Xc.length:Int);let w:=(⟨s.2.Xc,s.2.Xa⟩:aze);let y:=(⟨s.1.Xf,s.1.Xd,s.1.Xj⟩:azd);
 .cc (kz0 h t) λz=>.cc (kz0 i t) λaa=>.cc (jzj s.2 z aa 0) λab=>let ac:=(⟨ab.1.Xq,ab.1.Xi⟩:bzy);
 .cc (wzh) λad=>.br ad (.cc (izc m j k) λae=>.br ae (.cc (izc y w k) λaf=>.br af (.cc (izc y w ac) λag=>.br ag (.cc (Czp s.1.Xf g) λah=>.cc (izc y ah ac) λai=>.kj ai) (.kj false)) (.kj false)) (.kj false)) (.kj false))
def ez7 (c)(d)(e)(f)(g)(h)(i):=
 mkD Tryz.func3 (jzr c d e f g h i) 0 [.pure (bzh c),.pure (bzn d),.pure (nzn e),XK 1 az2 f,XK 1 az2 g,pz h,pz i] [] XJ XL
end Go.Abs
