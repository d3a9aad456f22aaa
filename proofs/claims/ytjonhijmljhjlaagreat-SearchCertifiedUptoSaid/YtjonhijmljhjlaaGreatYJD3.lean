import Derived.Test.YtjonhijmljhjlaaGreatYJM2
open Decidable renaming decide->qw
open Go.IntKind renaming i64->qu
open Inhabited renaming default->qv
open List renaming replicate->qt
open Int renaming toNat->XI
noncomputable section
set_option maxHeartbeats 8000000
set_option maxRecDepth 20000
namespace Go.Abs
open Go.Proofs
def wzq (c:azd)(d:Ag):T (Ak×Ak×Bool):=let e:=(⟨c.Xe,c.Xc,c.Xj⟩:azd);let f:Nat×Res:=(0,.box [XK 12 aze c.Xe.Xa,XK 5 azk c.Xe.Xi,XK 3 azm c.Xc,XK 2 azu c.Xj]);.cut 2 (λ(g:Bool)=>⟨[(1,XK 2 azb d),(2,XM 0),(23,XJ g)],[f],[],1⟩) (.cc (ezi e) λg=>.br (g !=0) (.oo true) (.cc (pzj c.Xe d) λh=>.oo (!h))) λg=>.br g (.km (nl,nl,false)) (.cc (Czm e d) λh=>.cc (Izy c) λi=>.loop (λ(j:(Ak×Ak×Int))=>⟨[(2,XM 0),(7,XK 1 (encL 6 az3) h),(8,.vec 1),(9,.vec 2),(10,XK 2 ez9 i),(11,pz j.2.2)],[f,(1,vecO 2 bzi j.1 225),(2,vecO 2 bzi j.2.1 225)],[],3⟩) (.exit 0) (λ(j:(Ak×Ak))=>⟨[(8,.vec 0),(9,.vec 1)],[(0,vecO 2 bzi j.1 225),(1,vecO 2 bzi j.2 225)],[],2⟩) (λj=>let k:=i.getD (XI j.2.2) qv;let m:=(k.A).toNat;let n:=(k.B).toNat;let s:=([(⟨(h.getD m qv),(c.Xc.getD m qv).Xs⟩:bz5)]:Ak);let t:=j.1.length+s.length;let w:=([(⟨(h.getD n qv),(c.Xc.getD n qv).Xs⟩:bz5)]:Ak);let y:=j.2.1.length+w.length;.br (qw (j.2.2<(i.length:Int))) (.gh j.2.2 i.length<|.gh j.2.2 i.length<|.gh (k.A) h.length<|.gh (k.A) c.Xc.length<|.conv 10012 (cz0 2 bzi s 225)<|.conv 10013 (dz6 2 bzi j.1 s 225)<|.grd (t * 32<=140737488355328/\t<=maxLen)<|.gh (k.B) h.length<|.gh (k.B) c.Xc.length<|.conv 11012 (cz0 2 bzi w 225)<|.conv 11013 (dz6 2 bzi j.2.1 w 225)<|.grd (y * 32<=140737488355328/\y<=maxLen)<|.nn ((j.1++s),(j.2.1++w),(qu.wrap (j.2.2+1)))) (.oo (j.1,j.2.1))) (nl,nl,0) [] λj=>.km (j.1,j.2,true))
def wzp (c)(d):=
 mkD Tryz.func142 (wzq c d) 0 [.pure (bzk c),XK 2 azb d] [] (λr=>.tup [XK 2 bzi r.1,XK 2 bzi r.2.1,XJ r.2.2]) XL
def qzo (c:B2):T Bool:=let d:Nat×Res:=(0,.box [pz c.1.Lo,pz c.1.Hi,pz c.2.1.Lo,pz c.2.1.Hi,pz c.2.2.Lo,pz c.2.2.Hi]);.unroll 4<|.kj<|.cut 1 (λ(e:Bool)=>⟨[(1,XM 0),(3,pz 0),(30,XJ e)],[d],[],1⟩) (.j8<|.br (qw (c.1.Lo<(-268435456))) (.oo true) (.j8<|.j8<|.br (qw (c.1.Lo>c.1.Hi)) (.oo true) (.j8<|.oo (qw (c.1.Hi>268435456))))) λe=>.br e (.km false) (.lit 3001 1<|.kj<|.cut 1 (λ(f:Bool)=>⟨[(1,XM 0),(3,pz 1),(30,XJ f)],[d],[],1⟩) (.j9<|.br (qw (c.2.1.Lo<(-268435456))) (.oo true) (.j9<|.j9<|.br (qw (c.2.1.Lo>c.2.1.Hi)) (.oo true) (.j9<|.oo (qw (c.2.1.Hi>268435456))))) λf=>.br f (.km false) (.lit 3001 2<|.kj<|.cut 1 (λ(g:Bool)=>⟨[(1,XM 0),(3,pz 2),(30,XJ g)],[d],[],1⟩) (.ka<|.br (qw (c.2.2.Lo<(-268435456))) (.oo true) (.ka<|.ka<|.br (qw (c.2.2.Lo>c.2.2.Hi)) (.oo true) (.ka<|.oo (qw (c.2.2.Hi>268435456))))) λg=>.br g (.km false) (.lit 3001 3<|.kl<|.km true)))
def qzn (c):=
 mkD Tryz.func235 (qzo c) 0 [.pure (az3 c)] [] XJ XL
def tzk (c:B3):T Bool:=let d:=encL 6 az3 c;let e:=(c.length:Int);.loop (λ(f:Int)=>⟨[(0,.pure d),(3,pz f)],[],[],0⟩) (.exit 0) (λ(_:U0)=>⟨[(0,.pure d)],[],[],0⟩) (λf=>.cut 1 (λ(g:Bool)=>⟨[(0,.pure d),(3,pz f),(11,XJ g)],[],[],0⟩) (.br (qw (f<e)) (.oo (qw (f<=8))) (.oo false)) λg=>.br g (.gh f c.length<|.cc (qzn (c.getD (f.toNat) qv)) λh=>.br (!h) (.ff false) (.nn (qu.wrap (f+1)))) (.oo .u))
 0 [] λ_=>.br (qw (e>=1)) (.km (qw (e<=8))) (.km false)
def ezn (c):=
 mkD Tryz.func194 (tzk c) 0 [XK 6 az3 c] [] XJ XL
def jzm (c:Int):T Bool:=
 .br (qw (c>=0)) (.km (qw (c<=1048576))) (.km false)
def fzg (c):=
 mkD Tryz.func230 (jzm c) 0 [pz c] [] XJ XL
def tzm (c:Aw):T Bool:=
 .br (!((c.1==0)&&((c.2.1==0)&&((c.2.2==0)&&true)))) (.cc (gz7 c 16384) λd=>.km d) (.km false)
def fze (c):=
 mkD Tryz.func231 (tzm c) 0 [.pure (az1 c)] [] XJ XL
def Hzp (c:az0):T Int:=
 .cc (eze c) λd=>.br (!d) (.km 0) (.cc (bzh (qu.wrap (c.Lo+c.Hi)) 2) λe=>.km e)
def Bzd (c):=
 mkD Tryz.func195 (Hzp c) 0 [.pure (azb c)] [] pz XL
def qzk (c:B3):T Ax:=
 .cc (ezn c) λd=>.br (!d) (.km nl) (.loop (λ(e:Ay)=>⟨[(0,XK 6 az3 c),(3,.vec 0),(4,pz e.2)],[(0,vecO 3 az1 e.1 96)],[],1⟩) (.exit 0) (λ(e:Ax)=>⟨[(3,.vec 0)],[(0,vecO 3 az1 e 96)],[],1⟩) (λe=>let f:=c.getD (XI e.2) qv;.br (qw (e.2<(c.length:Int))) (.gh e.2 c.length<|.j8<|.cc (Bzd (f.1)) λg=>.gh e.2 c.length<|.j9<|.cc (Bzd (f.2.1)) λh=>.gh e.2 c.length<|.ka<|.cc (Bzd (f.2.2)) λi=>let j:=([(g,h,i)]:Ax);let k:=e.1.length+j.length;
 .conv 7020 (cz0 3 az1 j 96)<|.conv 7021 (dz6 3 az1 e.1 j 96)<|.grd (k * 24<=140737488355328/\k<=maxLen)<|.nn ((e.1++j),(qu.wrap (e.2+1)))) (.oo e.1)) (nl,0) [] λe=>.km e)
def eza (c):=
 mkD Tryz.func146 (qzk c) 0 [XK 6 az3 c] [] (λr=>XK 3 az1 r) XL
def jzj (c:Aw):T B1:=
 .br ((c.1==0)&&((c.2.1==0)&&((c.2.2==0)&&true))) (.km (c,false)) (.loop (λ(d:Int)=>⟨[(1,XM 0),(2,XM 1),(4,pz d)],[(0,.box [pz c.1,pz c.2.1,pz c.2.2]),(1,.box [pz 0,pz 0,pz 0])],[],2⟩)
 .ret XN (λd=>let e:=qu.wrap (c.1.tdiv d);let f:=qu.wrap (c.2.1.tdiv d);let g:=qu.wrap (c.2.2.tdiv d);.j8<|.grd (d≠0)<|.j9<|.grd (d≠0)<|.ka<|.grd (d≠0)<|.cc (gz7 (e,f,g) 16384) λh=>.br h (.ff ((e,f,g),true)) (.nn (qu.wrap (d * 2))))
 1 [] λ_=>.stop)
def hzn (c):=
 mkD Tryz.func189 (jzj c) 0 [.pure (az1 c)] [] (λr=>.tup [.pure (az1 r.1),XJ r.2]) XL
def Az0 (c:B3)(d:B3):T B1:=
 .cut 2 (λ(e:Bool)=>⟨[(0,XK 6 az3 c),(1,XK 6 az3 d),(4,XM 0),(19,XJ e)],[(0,.box [pz 0,pz 0,pz 0])],[],1⟩) (.cc (ezn c) λe=>.br (!e) (.oo true) (.cc (ezn d) λf=>.oo (!f))) λe=>.br e (.km ((0,0,0),false)) (.cc (eza c) λf=>let g:=encL 3 az1 f;let h:=(f.length:Int);
 .cc (eza d) λi=>let j:=encL 3 az1 i;let k:=(i.length:Int);
 .unroll 4<|.kj<|.loop (λ(m:Aq)=>⟨[(4,XM 0),(6,XM 1),(7,.pure g),(8,.pure j),(9,pz 0),(10,pz m.2)],[(0,.box [pz 0,pz 0,pz 0]),(1,.box [pz m.1,pz 0,pz 0])],[],2⟩) (.exit 2) (λ(m:Int)=>⟨[(4,XM 0),(6,XM 1),(7,.pure g),(8,.pure j),(9,pz 0)],[(0,.box [pz 0,pz 0,pz 0]),(1,.box [pz m,pz 0,pz 0])],[],2⟩) (λm=>.br (qw (m.2<h)) (.j8<|.gh m.2 f.length<|.j8<|.name 11012 ((qu.wrap (m.1+(qu.wrap (((f.getD (XI m.2) qv).1) * k))))) λn=>.j8<|.nn (n,(qu.wrap (m.2+1)))) (.oo m.1)) (0,0) [] λm=>.loop (λ(n:Aq)=>⟨[(4,XM 0),(6,XM 1),(7,.pure g),(8,.pure j),(9,pz 0),(11,pz n.2)],[(0,.box [pz 0,pz 0,pz 0]),(1,.box [pz n.1,pz 0,pz 0])],[],2⟩) (.exit 4) (λ(n:Int)=>⟨[(4,XM 0),(6,XM 1),(7,.pure g),(8,.pure j),(9,pz 0)],[(0,.box [pz 0,pz 0,pz 0]),(1,.box [pz n,pz 0,pz 0])],[],2⟩) (λn=>.br (qw (n.2<k)) (.j8<|.gh n.2 i.length<|.j8<|.name 15012 ((qu.wrap (n.1- (qu.wrap (((i.getD (XI n.2) qv).1) * h))))) λs=>.j8<|.nn (s,(qu.wrap (n.2+1)))) (.oo n.1)) (m,0) [] λn=>.lit 7001 1<|.kj<|.loop (λ(s:Aq)=>⟨[(4,XM 0),(6,XM 1),(7,.pure g),(8,.pure j),(9,pz 1),(10,pz s.2)],[(0,.box [pz 0,pz 0,pz 0]),(1,.box [pz n,pz s.1,pz 0])],[],2⟩) (.exit 2) (λ(s:Int)=>⟨[(4,XM 0),(6,XM 1),(7,.pure g),(8,.pure j),(9,pz 1)],[(0,.box [pz 0,pz 0,pz 0]),(1,.box [pz n,pz s,pz 0])],[],2⟩) (λs=>.br (qw (s.2<h)) (.j9<|.gh s.2 f.length<|.j9<|.name 11012 ((qu.wrap (s.1+(qu.wrap (((f.getD (XI s.2) qv).2.1) * k))))) λt=>.j9<|.nn (t,(qu.wrap (s.2+1)))) (.oo s.1)) (0,0) [] λs=>.loop (λ(t:Aq)=>⟨[(4,XM 0),(6,XM 1),(7,.pure g),(8,.pure j),(9,pz 1),(11,pz t.2)],[(0,.box [pz 0,pz 0,pz 0]),(1,.box [pz n,pz t.1,pz 0])],[],2⟩) (.exit 4) (λ(t:Int)=>⟨[(4,XM 0),(6,XM 1),(7,.pure g),(8,.pure j),(9,pz 1)],[(0,.box [pz 0,pz 0,pz 0]),(1,.box [pz n,pz t,pz 0])],[],2⟩) (λt=>.br (qw (t.2<k)) (.j9<|.gh t.2 i.length<|.j9<|.name 15012 ((qu.wrap (t.1- (qu.wrap (((i.getD (XI t.2) qv).2.1) * h))))) λw=>.j9<|.nn (w,(qu.wrap (t.2+1)))) (.oo t.1)) (s,0) [] λt=>.lit 7001 2<|.kj<|.loop (λ(w:Aq)=>⟨[(4,XM 0),(6,XM 1),(7,.pure g),(8,.pure j),(9,pz 2),(10,pz w.2)],[(0,.box [pz 0,pz 0,pz 0]),(1,.box [pz n,pz t,pz w.1])],[],2⟩) (.exit 2) (λ(w:Int)=>⟨[(4,XM 0),(6,XM 1),(7,.pure g),(8,.pure j),(9,pz 2)],[(0,.box [pz 0,pz 0,pz 0]),(1,.box [pz n,pz t,pz w])],[],2⟩) (λw=>.br (qw (w.2<h)) (.ka<|.gh w.2 f.length<|.ka<|.name 11012 ((qu.wrap (w.1+(qu.wrap (((f.getD (XI w.2) qv).2.2) * k))))) λy=>.ka<|.nn (y,(qu.wrap (w.2+1)))) (.oo w.1)) (0,0) [] λw=>.loop (λ(y:Aq)=>⟨[(4,XM 0),(6,XM 1),(7,.pure g),(8,.pure j),(9,pz 2),(11,pz y.2)],[(0,.box [pz 0,pz 0,pz 0]),(1,.box [pz n,pz t,pz y.1])],[],2⟩) (.exit 4) (λ(y:Int)=>⟨[(4,XM 0),(6,XM 1),(7,.pure g),(8,.pure j),(9,pz 2)],[(0,.box [pz 0,pz 0,pz 0]),(1,.box [pz n,pz t,pz y])],[],2⟩) (λy=>.br (qw (y.2<k)) (.ka<|.gh y.2 i.length<|.ka<|.name 15012 ((qu.wrap (y.1- (qu.wrap (((i.getD (XI y.2) qv).2.2) * h))))) λz=>.ka<|.nn (z,(qu.wrap (y.2+1)))) (.oo y.1)) (w,0) [] λy=>.lit 7001 3<|.kl<|.cc (hzn (n,t,y)) λz=>.km (z.1,z.2))
def Izr (c)(d):=
 mkD Tryz.func232 (Az0 c d) 0 [XK 6 az3 c,XK 6 az3 d] [] (λr=>.tup [.pure (az1 r.1),XJ r.2]) XL
def Tzz:T Ax:=
 .conv 1006 (cz0 3 az1 ([(1,0,0),((-1),0,0),(0,1,0),(0,(-1),0),(0,0,1),(0,0,(-1))]:Ax) 96)<|.km ([(1,0,0),((-1),0,0),(0,1,0),(0,(-1),0),(0,0,1),(0,0,(-1))]:Ax)
def ref14_Axes_C:CallS Ax:=
 mkD Tryz.func233 (Tzz) 0 [] [] (λr=>XK 3 az1 r) XL
def Dzs (c:Ax):T Bool:=let d:=encL 3 az1 c;let e:=(c.length:Int);.loop (λ(f:Int)=>⟨[(0,.pure d),(3,pz f)],[],[],0⟩) (.exit 0) (λ(_:U0)=>⟨[(0,.pure d)],[],[],0⟩) (λf=>.cut 1 (λ(g:Bool)=>⟨[(0,.pure d),(3,pz f),(11,XJ g)],[],[],0⟩) (.br (qw (f<e)) (.oo (qw (f<=8))) (.oo false)) λg=>.br g (.gh f c.length<|.cc (gz7 (c.getD (f.toNat) qv) 268435456) λh=>.br (!h) (.ff false) (.nn (qu.wrap (f+1)))) (.oo .u))
 0 [] λ_=>.br (qw (e>=1)) (.km (qw (e<=8))) (.km false)
def Dzr (c):=
 mkD Tryz.func185 (Dzs c) 0 [XK 3 az1 c] [] XJ XL
def qzq (c:Ax)(d:A1):T Aw:=
 .loop (λ(e:Bc)=>⟨[(0,XK 3 az1 c),(1,XK 1 az2 d),(4,XM 0),(5,XM 1),(6,pz e.2.2.2)],[(0,.box [pz 0,pz 0,pz 0]),(1,.box [pz e.1,pz e.2.1,pz e.2.2.1])],[],2⟩) (.exit 0) (λ(e:Aw)=>⟨[(4,XM 0),(5,XM 1)],[(0,.box [pz 0,pz 0,pz 0]),(1,.box [pz e.1,pz e.2.1,pz e.2.2])],[],2⟩) (λe=>let f:=(e.2.2.2).toNat;let g:=d.getD f qv;let h:=c.getD f qv;.br (qw (e.2.2.2<(c.length:Int))) (.unroll 4<|.kj<|.j8<|.gh e.2.2.2 d.length<|.gh e.2.2.2 c.length<|.j8<|.name 8014 ((qu.wrap (e.1+(qu.wrap (g * (h.1)))))) λi=>.j8<|.lit 7001 1<|.kj<|.j9<|.gh e.2.2.2 d.length<|.gh e.2.2.2 c.length<|.j9<|.name 8014 ((qu.wrap (e.2.1+(qu.wrap (g * (h.2.1)))))) λj=>.j9<|.lit 7001 2<|.kj<|.ka<|.gh e.2.2.2 d.length<|.gh e.2.2.2 c.length<|.ka<|.name 8014 ((qu.wrap (e.2.2.1+(qu.wrap (g * (h.2.2)))))) λk=>.ka<|.lit 7001 3<|.kl<|.nn (i,j,k,(qu.wrap (e.2.2.2+1)))) (.oo (e.1,e.2.1,e.2.2.1))) (0,0,0,0) [] λe=>.km (e.1,e.2.1,e.2.2)
def qzp (c)(d):=
 mkD Tryz.func187 (qzq c d) 0 [XK 3 az1 c,XK 1 az2 d] [] (λr=>.pure (az1 r)) XL
def Rz0 (c:Aw)(d:Aw):T Aw:=
 .j8<|.j8<|.j9<|.j9<|.ka<|.ka<|.km ((qu.wrap (c.1-d.1)),(qu.wrap (c.2.1-d.2.1)),(qu.wrap (c.2.2-d.2.2)))
def lzd (c)(d):=
 mkD Tryz.func186 (Rz0 c d) 0 [.pure (az1 c),.pure (az1 d)] [] (λr=>.pure (az1 r)) XL
def nzx (c:Aw)(d:Int):T Bool:=
 .unroll 4<|.kj<|.j8<|.j8<|.cc (bz7 (max c.1 (qu.wrap (0-c.1))) 65536) λe=>.name 6004 ((qu.wrap (0+(qu.wrap (e * e))))) λf=>.lit 4001 1<|.kj<|.j9<|.j9<|.cc (bz7 (max c.2.1 (qu.wrap (0-c.2.1))) 65536) λg=>.name 6004 ((qu.wrap (f+(qu.wrap (g * g))))) λh=>.lit 4001 2<|.kj<|.ka<|.ka<|.cc (bz7 (max c.2.2 (qu.wrap (0-c.2.2))) 65536) λi=>.name 6004 ((qu.wrap (h+(qu.wrap (i * i))))) λj=>.lit 4001 3<|.kl<|.km (qw (j<=(qu.wrap (d * d))))
def sz5 (c)(d):=
 mkD Tryz.func188 (nzx c d) 0 [.pure (az1 c),pz d] [] XJ XL
def Wze (c:Aw)(d:Aw):T Int:=
 .j8<|.j8<|.j9<|.j9<|.ka<|.ka<|.name 1016 ((qu.wrap ((qu.wrap ((qu.wrap (c.1 * d.1))+(qu.wrap (c.2.1 * d.2.1))))+(qu.wrap (c.2.2 * d.2.2))))) λe=>.km e
def izd (c)(d):=
 mkD Tryz.func191 (Wze c d) 0 [.pure (az1 c),.pure (az1 d)] [] pz XL
def izc (c:Aw)(d:Ax)(e:Int):T Int:=let f:=encL 3 az1 d;let g:Nat×Res:=(0,.box [pz c.1,pz c.2.1,pz c.2.2]);.loop (λ(h:Aq)=>⟨[(1,.pure f),(2,pz e),(3,XM 0),(7,pz h.1),(8,pz h.2)],[g],[],1⟩) (.exit 0) (λ(h:Int)=>⟨[(7,pz h)],[],[],0⟩) (λh=>.br (qw (h.2<(d.length:Int))) (.cut 0 (λ(i:Int)=>⟨[(1,.pure f),(2,pz e),(3,XM 0),(7,pz i),(8,pz h.2)],[g],[],1⟩) (.gh h.2 d.length<|.cc (izd c (d.getD (XI h.2) qv)) λi=>.gh h.1 d.length<|.cc (izd c (d.getD (XI h.1) qv)) λj=>.br (qw ((qu.wrap (e * i))<(qu.wrap (e * j)))) (.oo h.2) (.oo h.1)) λi=>.nn (i,(qu.wrap (h.2+1)))) (.oo h.1)) (0,1) [] λh=>.km h
def fzo (c)(d)(e):=
 mkD Tryz.func190 (izc c d e) 0 [.pure (az1 c),XK 3 az1 d,pz e] [] pz XL
def Dzv (c:Int):T Int:=
 .br (qw (c<1)) (.km 0) (.loop (λ(d:Aq)=>⟨[(0,pz c),(3,pz d.1),(4,pz d.2)],[],[],0⟩) (.exit 0) (λ(d:Int)=>⟨[(3,pz d)],[],[],0⟩) (λd=>let e:=qu.wrap (d.2-d.1);let f:=qu.wrap (d.1+(qu.wrap (e.tdiv 2)));.br (qw (e>1)) (.ok ((2:Int)≠0) (by decide)<|.grd (f≠0)<|.br (qw (f<=(qu.wrap (c.tdiv f)))) (.nn (f,d.2)) (.nn (d.1,f))) (.oo d.1)) (1,4294967296) [] λd=>.km d)
def qzv (c):=
 mkD Tryz.func278 (Dzv c) 0 [pz c] [] pz XL
def wzy (c:Int):T Int:=
 .cc (qzv c) λd=>.cut 0 (λ(e:Int)=>⟨[(3,pz e)],[],[],0⟩) (.cut 0 (λ(e:Bool)=>⟨[(3,pz d),(14,XJ e)],[],[],0⟩) (.br (qw (c>0)) (.oo (qw ((qu.wrap (d * d))<c))) (.oo false)) λe=>.br e (.oo (qu.wrap (d+1))) (.oo d)) λe=>.km e
def Fzo (c):=
 mkD Tryz.func234 (wzy c) 0 [pz c] [] pz XL
def zzw (c:Aw):T Int:=
 .cc (fze (c.1,c.2.1,c.2.2)) λd=>.br (!d) (.km 0) (.j8<|.j8<|.j9<|.j9<|.ka<|.ka<|.name 3016 ((qu.wrap ((qu.wrap ((qu.wrap (c.1 * c.1))+(qu.wrap (c.2.1 * c.2.1))))+(qu.wrap (c.2.2 * c.2.2))))) λe=>.cc (Fzo e) λf=>.km f)
def sz1 (c):=
 mkD Tryz.func192 (zzw c) 0 [.pure (az1 c)] [] pz XL
def lzc (c:A1)(d:Int)(e:Int):T A1:=let f:=e.toNat;.grd (c.length * 8<=140737488355328/\c.length<=maxLen)<|.loop (λ(g:Au)=>⟨[(1,pz d),(2,pz e),(7,.vec 0),(8,pz g.2.1),(9,pz g.2.2)],[(0,vecO 1 az2 g.1 2)],[],1⟩) (.exit 0) (λ(g:A9)=>⟨[(2,pz e),(7,.vec 0),(8,pz g.2)],[(0,vecO 1 az2 g.1 2)],[],1⟩) (λg=>let h:=(g.2.2).toNat;let i:=g.1.getD h qv;let j:=qu.wrap ((qu.wrap (i * d)).tdiv 256);.br (qw (g.2.2<(g.1.length:Int))) (.gg g.2.2 g.1.length<|.ok ((256:Int)≠0) (by decide)<|.gg g.2.2 g.1.length<|.name 7005 ((qu.wrap (i-j))) λk=>.gh g.2.2 g.1.length<|.conv 7007 (fzs 1 az2 g.1 2 h k)<|.gi (g.2.2) g.1.length<|.name 8002 ((qu.wrap (g.2.1+j))) λm=>.nn ((g.1.set h k),m,(qu.wrap (g.2.2+1)))) (.oo (g.1,g.2.1))) (c,0,0) [] λg=>let h:=qu.wrap ((g.1.getD f qv)+g.2);
 .gg e g.1.length<|.gh e g.1.length<|.conv 9007 (fzs 1 az2 g.1 2 f h)<|.gi (e) g.1.length<|.km (g.1.set f h)
def lzb (c)(d)(e):=
 mkD Tryz.func193 (lzc c d e) 0 [XK 1 az2 c,pz d,pz e] [] (λ_=>.vec 0) (λr=>[(0,vecO 1 az2 r 2)])
def jzl (c:Ax)(d:Ax)(e:Int)(f:Int):T dzu:=let g:=encL 3 az1 c;let h:=encL 3 az1 d;let i:=(c.length:Int);let j:=(d.length:Int);let k:=qt i.toNat (0:Int);let m:=qt j.toNat (0:Int);.cut 2 (λ(n:Bool)=>⟨[(0,.pure g),(1,.pure h),(2,pz e),(3,pz f),(8,XM 0),(43,XJ n)],[(0,.box [pz 0,pz 0,pz 0,pz 0,.vec 1,.vec 2,pz 0]),(1,.nilv),(2,.nilv)],[],3⟩) (.cc (Dzr c) λn=>.br (!n) (.oo true) (.cc (Dzr d) λs=>.br (!s) (.oo true) (.br (qw (e<0)) (.oo true) (.br (qw (e>2097152)) (.oo true) (.br (qw (f<0)) (.oo true) (.oo (qw (f>64)))))))) λn=>.br n (.km (⟨0,(0,0,0),nl,nl,0⟩:dzu)) (.conv 3002 (Nz5 1 az2 2 i.toNat 0)<|.grd (0<=i/\i<=i/\i<=9223372036854775807/\i * 8<=140737488355328)<|.conv 3005 (Nz5 1 az2 2 j.toNat 0)<|.grd (0<=j/\j<=j/\j<=9223372036854775807/\j * 8<=140737488355328)<|.gh (0:Int) (k.length)<|.conv 4005 (fzs 1 az2 k 2 (XI (0:Int)) 65536)<|.gi (0:Int) (k.length)<|.gh (0:Int) (m.length)<|.conv 4007 (fzs 1 az2 m 2 (XI (0:Int)) 65536)<|.gi (0:Int) (m.length)<|.loop (λ(s:(Int×Int×Int×A1×A1×Int))=>⟨[(0,.pure g),(1,.pure h),(2,pz e),(3,pz f),(8,XM 0),(9,XM 3)],[(0,.box [pz 0,pz 0,pz 0,pz 0,.vec 1,.vec 2,pz 0]),(1,.nilv),(2,.nilv),(3,.box [pz 0,pz s.1,pz s.2.1,pz s.2.2.1,.vec 4,.vec 5,pz s.2.2.2.2.2]),(4,vecO 1 az2 s.2.2.2.1 2),(5,vecO 1 az2 s.2.2.2.2.1 2)],[],6⟩)
 .ret XN (λs=>.cc (qzp c s.2.2.2.1) λt=>.cc (qzp d s.2.2.2.2.1) λw=>.cc (lzd t w) λy=>let z:=qu.wrap (y.1.tdiv 65536);let aa:=qu.wrap (y.2.1.tdiv 65536);let ab:=qu.wrap (y.2.2.tdiv 65536);
 .cc (sz5 y e) λac=>.br ac (.ff (⟨2,(s.1,s.2.1,s.2.2.1),s.2.2.2.1,s.2.2.2.2.1,s.2.2.2.2.2⟩:dzu)) (.j8<|.ok ((65536:Int)≠0) (by decide)<|.j9<|.ok ((65536:Int)≠0) (by decide)<|.ka<|.ok ((65536:Int)≠0) (by decide)<|.cc (hzn (z,aa,ab)) λad=>let ae:=(⟨0,ad.1,s.2.2.2.1,s.2.2.2.2.1,s.2.2.2.2.2⟩:dzu);
 .br (!ad.2) (.ff ae) (.cc (fzo ad.1 c 1) λaf=>let ag:=c.getD (af.toNat) qv;
 .cc (fzo ad.1 d (-1)) λah=>let ai:=d.getD (ah.toNat) qv;
 .gh af c.length<|.cc (izd ad.1 ag) λaj=>.gh ah d.length<|.cc (izd ad.1 ai) λak=>.cc (sz1 ad.1) λal=>.br (qw ((qu.wrap (aj-ak))>(qu.wrap (al * e)))) (.ff (⟨1,ad.1,s.2.2.2.1,s.2.2.2.2.1,s.2.2.2.2.2⟩:dzu)) (.gh af c.length<|.gh ah d.length<|.cc (lzd ag ai) λam=>.cc (lzd (z,aa,ab) am) λan=>.cc (izd (z,aa,ab) an) λao=>.cc (izd an an) λap=>let aq:=max 1 (qu.wrap (ap.tdiv 256));let ar:=min 256 (qu.wrap (ao.tdiv aq));
 .cut 1 (λ(au:Bool)=>⟨[(0,.pure g),(1,.pure h),(2,pz e),(3,pz f),(8,XM 0),(9,XM 3),(14,pz af),(15,pz ah),(17,pz ao),(18,pz ap),(142,XJ au)],[(0,.box [pz 0,pz 0,pz 0,pz 0,.vec 1,.vec 2,pz 0]),(1,.nilv),(2,.nilv),(3,.box [pz 0,pz ad.1.1,pz ad.1.2.1,pz ad.1.2.2,.vec 4,.vec 5,pz s.2.2.2.2.2]),(4,vecS 1 az2 s.2.2.2.1 2),(5,vecS 1 az2 s.2.2.2.2.1 2)],[],6⟩) (.br (qw (s.2.2.2.2.2>=f)) (.oo true) (.oo (qw (ao<=0)))) λau=>.br au (.ff ae) (.ok ((256:Int)≠0) (by decide)<|.grd (aq≠0)<|.br (ar==0) (.ff ae) (.call (lzb s.2.2.2.1 ar af) [] λav=>.call (lzb s.2.2.2.2.1 ar ah) [] λaw=>.nn (ad.1.1,ad.1.2.1,ad.1.2.2,av,aw,(qu.wrap (s.2.2.2.2.2+1))))))))) (0,0,0,(k.set (XI (0:Int)) 65536),(m.set (XI (0:Int)) 65536),0) [] λ_=>.stop)
def fzf (c)(d)(e)(f):=
 mkD Tryz.func145 (jzl c d e f) 0 [XK 3 az1 c,XK 3 az1 d,pz e,pz f] [] (λr=>.pure (Kzs r)) XL
def lz9 (c:B3)(d:Int)(e:B3)(f:Int)(g:Ax):T Ax:=let h:=encL 6 az3 c;let i:=encL 6 az3 e;let j:=encL 3 az1 g;.cut 2 (λ(k:Bool)=>⟨[(0,.pure h),(1,pz d),(2,.pure i),(3,pz f),(4,.pure j),(33,XJ k)],[],[],0⟩) (.cc (ezn c) λk=>.br (!k) (.oo true) (.cc (ezn e) λm=>.br (!m) (.oo true) (.cc (fzg d) λn=>.br (!n) (.oo true) (.cc (fzg f) λs=>.oo (!s))))) λk=>.br k (.km nl) (.loop (λ(m:Ay)=>⟨[(0,.pure h),(1,pz d),(2,.pure i),(3,pz f),(4,.pure j),(11,.vec 0),(12,pz m.2)],[(0,vecO 3 az1 m.1 96)],[],1⟩) (.exit 0) (λ(m:Ax)=>⟨[(0,.pure h),(1,pz d),(2,.pure i),(3,pz f),(11,.vec 0)],[(0,vecO 3 az1 m 96)],[],1⟩) (λm=>let n:=g.getD (XI m.2) qv;let s:=([n]:Ax);let t:=m.1.length+s.length;.br (qw (m.2<(g.length:Int))) (.cut 0 (λ(w:Ax)=>⟨[(0,.pure h),(1,pz d),(2,.pure i),(3,pz f),(4,.pure j),(11,.vec 0),(12,pz m.2)],[(0,vecO 3 az1 w 96)],[],1⟩) (.gh m.2 g.length<|.cc (fze n) λw=>.br w (.gh m.2 g.length<|.conv 8005 (cz0 3 az1 s 96)<|.conv 8006 (dz6 3 az1 m.1 s 96)<|.grd (t * 24<=140737488355328/\t<=maxLen)<|.oo (m.1++s)) (.oo m.1)) λw=>.nn (w,(qu.wrap (m.2+1)))) (.oo m.1)) (nl,0) [] λm=>.cut 0 (λ(n:Ax)=>⟨[(0,.pure h),(1,pz d),(2,.pure i),(3,pz f),(11,.vec 0)],[(0,vecO 3 az1 n 96)],[],1⟩) (.cc (Izr c e) λn=>let s:=([n.1]:Ax);let t:=m.length+s.length;
 .br n.2 (.conv 11002 (cz0 3 az1 s 96)<|.conv 11003 (dz6 3 az1 m s 96)<|.grd (t * 24<=140737488355328/\t<=maxLen)<|.oo (m++s)) (.oo m)) λn=>.cc (ref14_Axes_C) λs=>let t:=n++s;let w:=n.length+s.length;
 .conv 12002 (dz6 3 az1 n s 96)<|.grd (w * 24<=140737488355328/\w<=maxLen)<|.cc (eza c) λy=>.cc (eza e) λz=>.cc (fzf y z (qu.wrap (d+f)) 64) λaa=>let ab:=([aa.Xz]:Ax);let ac:=t.length+ab.length;
 .cut 0 (λ(ad:Ax)=>⟨[(11,.vec 0)],[(0,vecO 3 az1 ad 96)],[],1⟩) (.cc (fze aa.Xz) λad=>.br ad (.conv 15003 (cz0 3 az1 ab 96)<|.conv 15004 (dz6 3 az1 t ab 96)<|.grd (ac * 24<=140737488355328/\ac<=maxLen)<|.oo (t++ab)) (.oo t)) λad=>.km ad)
def sz3 (c)(d)(e)(f)(g):=
 mkD Tryz.func183 (lz9 c d e f g) 0 [XK 6 az3 c,pz d,XK 6 az3 e,pz f,XK 3 az1 g] [] (λr=>XK 3 az1 r) XL
def Dzq (c:Aw)(d:B2):T Aq:=let e:=qu.wrap (c.1 * d.1.Lo);let f:=qu.wrap (c.1 * d.1.Hi);let g:=qu.wrap (c.2.1 * d.2.1.Lo);let h:=qu.wrap (c.2.1 * d.2.1.Hi);let i:=qu.wrap (c.2.2 * d.2.2.Lo);let j:=qu.wrap (c.2.2 * d.2.2.Hi);.cut 2 (λ(k:Bool)=>⟨[(2,XM 0),(3,XM 1),(18,XJ k)],[(0,.box [pz c.1,pz c.2.1,pz c.2.2]),(1,.box [pz d.1.Lo,pz d.1.Hi,pz d.2.1.Lo,pz d.2.1.Hi,pz d.2.2.Lo,pz d.2.2.Hi])],[],2⟩) (.cc (fze c) λk=>.br (!k) (.oo true) (.cc (qzn d) λm=>.oo (!m))) λk=>.br k (.km (0,0)) (.unroll 4<|.kj<|.j8<|.j8<|.j8<|.j8<|.name 8004 ((qu.wrap (0+(min e f)))) λm=>.name 9004 ((qu.wrap (0+(max e f)))) λn=>.lit 6001 1<|.kj<|.j9<|.j9<|.j9<|.j9<|.name 8004 ((qu.wrap (m+(min g h)))) λs=>.name 9004 ((qu.wrap (n+(max g h)))) λt=>.lit 6001 2<|.kj<|.ka<|.ka<|.ka<|.ka<|.name 8004 ((qu.wrap (s+(min i j)))) λw=>.name 9004 ((qu.wrap (t+(max i j)))) λy=>.lit 6001 3<|.kl<|.km (w,y))
def Dzp (c)(d):=
 mkD Tryz.func277 (Dzq c d) 0 [.pure (az1 c),.pure (az3 d)] [] (λr=>.tup [pz r.1,pz r.2]) XL
def wzg (c:Aw)(d:B3):T B6:=let e:=encL 6 az3 d;let f:Nat×Res:=(0,.box [pz c.1,pz c.2.1,pz c.2.2]);.cut 2 (λ(g:Bool)=>⟨[(1,.pure e),(2,XM 0),(19,XJ g)],[f],[],1⟩) (.cc (fze c) λg=>.br (!g) (.oo true) (.cc (ezn d) λh=>.oo (!h))) λg=>.br g (.km (0,0,false)) (.loop (λ(h:Aw)=>⟨[(1,.pure e),(2,XM 0),(7,pz h.1),(8,pz h.2.1),(9,pz h.2.2)],[f],[],1⟩) (.exit 0) (λ(h:Aq)=>⟨[(7,pz h.1),(8,pz h.2)],[],[],0⟩) (λh=>.br (qw (h.2.2<(d.length:Int))) (.cut 0 (λ(i:Aq)=>⟨[(1,.pure e),(2,XM 0),(7,pz i.1),(8,pz i.2),(9,pz h.2.2)],[f],[],1⟩) (.gh h.2.2 d.length<|.cc (Dzp c (d.getD (XI h.2.2) qv)) λi=>.cut 0 (λ(j:Bool)=>⟨[(1,.pure e),(2,XM 0),(7,pz h.1),(8,pz h.2.1),(9,pz h.2.2),(10,pz i.1),(41,XJ j)],[f],[],1⟩) (.br (h.2.2==0) (.oo true) (.oo (qw (i.1<h.1)))) λj=>.br j (.oo (i.1,h.2.2)) (.oo (h.1,h.2.1))) λi=>.nn (i.1,i.2,(qu.wrap (h.2.2+1)))) (.oo (h.1,h.2.1))) (0,0,0) [] λh=>.km (h.1,h.2,true))
def Fzc (c)(d):=
 mkD Tryz.func228 (wzg c d) 0 [.pure (az1 c),XK 6 az3 d] [] (λr=>.tup [pz r.1,pz r.2.1,XJ r.2.2]) XL
def ozq (c:Aw)(d:B3):T B6:=let e:=encL 6 az3 d;let f:Nat×Res:=(0,.box [pz c.1,pz c.2.1,pz c.2.2]);.cut 2 (λ(g:Bool)=>⟨[(1,.pure e),(2,XM 0),(19,XJ g)],[f],[],1⟩) (.cc (fze c) λg=>.br (!g) (.oo true) (.cc (ezn d) λh=>.oo (!h))) λg=>.br g (.km (0,0,false)) (.loop (λ(h:Aw)=>⟨[(1,.pure e),(2,XM 0),(7,pz h.1),(8,pz h.2.1),(9,pz h.2.2)],[f],[],1⟩) (.exit 0) (λ(h:Aq)=>⟨[(7,pz h.1),(8,pz h.2)],[],[],0⟩) (λh=>.br (qw (h.2.2<(d.length:Int))) (.cut 0 (λ(i:Aq)=>⟨[(1,.pure e),(2,XM 0),(7,pz i.1),(8,pz i.2),(9,pz h.2.2)],[f],[],1⟩) (.gh h.2.2 d.length<|.cc (Dzp c (d.getD (XI h.2.2) qv)) λi=>.cut 0 (λ(j:Bool)=>⟨[(1,.pure e),(2,XM 0),(7,pz h.1),(8,pz h.2.1),(9,pz h.2.2),(11,pz i.2),(41,XJ j)],[f],[],1⟩) (.br (h.2.2==0) (.oo true) (.oo (qw (i.2>h.1)))) λj=>.br j (.oo (i.2,h.2.2)) (.oo (h.1,h.2.1))) λi=>.nn (i.1,i.2,(qu.wrap (h.2.2+1)))) (.oo (h.1,h.2.1))) (0,0,0) [] λh=>.km (h.1,h.2,true))
def yz2 (c)(d):=
 mkD Tryz.func229 (ozq c d) 0 [.pure (az1 c),XK 6 az3 d] [] (λr=>.tup [pz r.1,pz r.2.1,XJ r.2.2]) XL
def tzo (c:Aw)(d:B3)(e:Int)(f:B3)(g:Int):T Ar:=
 .cc (Fzc c d) λh=>.cc (yz2 c f) λi=>.cut 1 (λ(j:Bool)=>⟨[(2,pz e),(4,pz g),(5,XM 0),(12,pz h.1),(15,pz i.1),(47,XJ j)],[(0,.box [pz c.1,pz c.2.1,pz c.2.2])],[],1⟩) (.br (!h.2.2) (.oo true) (.br (!i.2.2) (.oo true) (.cc (fzg e) λj=>.br (!j) (.oo true) (.cc (fzg g) λk=>.oo (!k))))) λj=>.br j (.km (0,false)) (.cc (sz1 c) λk=>.km ((qu.wrap ((qu.wrap (h.1-i.1))- (qu.wrap (k * (qu.wrap (e+g)))))),true))
def Czo (c)(d)(e)(f)(g):=
 mkD Tryz.func182 (tzo c d e f g) 0 [.pure (az1 c),XK 6 az3 d,pz e,XK 6 az3 f,pz g] [] (λr=>.tup [pz r.1,XJ r.2]) XL
def mzi (c:Aw)(d:B3)(e:Int)(f:B3)(g:Int):T Bool:=
 .cc (Czo c d e f g) λh=>.br h.2 (.km (qw (h.1>0))) (.km false)
def mzh (c)(d)(e)(f)(g):=
 mkD Tryz.func143 (mzi c d e f g) 0 [.pure (az1 c),XK 6 az3 d,pz e,XK 6 az3 f,pz g] [] XJ XL
def wzm (c:Ax)(d:B3)(e:Int)(f:B3)(g:Int):T Ar:=
 .loop (λ(h:Int)=>⟨[(0,XK 3 az1 c),(1,XK 6 az3 d),(2,pz e),(3,XK 6 az3 f),(4,pz g),(12,pz h)],[],[],0⟩) (.exit 0) XN (λh=>.br (qw (h<(c.length:Int))) (.gh h c.length<|.cc (mzh (c.getD (h.toNat) qv) d e f g) λi=>.br i (.ff (h,true)) (.nn (qu.wrap (h+1)))) (.oo .u))
 0 [] λ_=>.km (0,false)
def Fzg (c)(d)(e)(f)(g):=
 mkD Tryz.func184 (wzm c d e f g) 0 [XK 3 az1 c,XK 6 az3 d,pz e,XK 6 az3 f,pz g] [] (λr=>.tup [pz r.1,XJ r.2]) XL
def lza (c:B3)(d:Int)(e:B3)(f:Int)(g:Ax):T B1:=
 .cc (sz3 c d e f g) λh=>.cc (Fzg h c d e f) λi=>.br (!i.2) (.km ((0,0,0),false)) (.gh i.1 h.length<|.km ((h.getD (XI i.1) qv),true))
def sz4 (c)(d)(e)(f)(g):=
 mkD Tryz.func144 (lza c d e f g) 0 [XK 6 az3 c,pz d,XK 6 az3 e,pz f,XK 3 az1 g] [] (λr=>.tup [.pure (az1 r.1),XJ r.2]) XL
def qzm (c:B3)(d:A1):T (B2×Int×Bool):=let e:=encL 6 az3 c;let f:=encL 1 az2 d;let g:=(d.length:Int);let h:=(c.length:Int);.cut 2 (λ(i:Bool)=>⟨[(0,.pure e),(1,.pure f),(4,XM 0),(21,XJ i)],[(0,.box [pz 0,pz 0,pz 0,pz 0,pz 0,pz 0])],[],1⟩) (.cc (ezn c) λi=>.br (!i) (.oo true) (.oo (g !=h))) λi=>.br i (.km (((⟨0,0⟩:az0),(⟨0,0⟩:az0),(⟨0,0⟩:az0)),0,false)) (.loop (λ(j:Aq)=>⟨[(0,.pure e),(1,.pure f),(4,XM 0),(7,pz j.1),(8,pz j.2)],[(0,.box [pz 0,pz 0,pz 0,pz 0,pz 0,pz 0])],[],1⟩) (.exit 0) (λ(j:Int)=>⟨[(0,.pure e),(1,.pure f),(4,XM 0),(7,pz j)],[(0,.box [pz 0,pz 0,pz 0,pz 0,pz 0,pz 0])],[],1⟩) (λj=>let k:=d.getD (XI j.2) qv;.br (qw (j.2<g)) (.cut 2 (λ(m:Bool)=>⟨[(0,.pure e),(1,.pure f),(4,XM 0),(7,pz j.1),(8,pz j.2),(42,XJ m)],[(0,.box [pz 0,pz 0,pz 0,pz 0,pz 0,pz 0])],[],1⟩) (.gh j.2 d.length<|.br (qw (k<0)) (.oo true) (.gh j.2 d.length<|.oo (qw (k>(qu.wrap (65536-j.1)))))) λm=>.br m (.ff (((⟨0,0⟩:az0),(⟨0,0⟩:az0),(⟨0,0⟩:az0)),0,false)) (.gh j.2 d.length<|.nn ((qu.wrap (j.1+k)),(qu.wrap (j.2+1))))) (.oo j.1)) (0,0) [] λj=>.br (qw (j<1)) (.km (((⟨0,0⟩:az0),(⟨0,0⟩:az0),(⟨0,0⟩:az0)),0,false)) (.loop (λ(k:Bg)=>⟨[(0,.pure e),(1,.pure f),(4,XM 0),(7,pz j),(9,XM 1),(10,pz k.2.2.2.2.2.2)],[(0,.box [pz 0,pz 0,pz 0,pz 0,pz 0,pz 0]),(1,.box [pz k.1,pz k.2.1,pz k.2.2.1,pz k.2.2.2.1,pz k.2.2.2.2.1,pz k.2.2.2.2.2.1])],[],2⟩) (.exit 2) (λ(k:Be)=>⟨[(4,XM 0),(7,pz j),(9,XM 1)],[(0,.box [pz 0,pz 0,pz 0,pz 0,pz 0,pz 0]),(1,.box [pz k.1,pz k.2.1,pz k.2.2.1,pz k.2.2.2.1,pz k.2.2.2.2.1,pz k.2.2.2.2.2])],[],2⟩) (λk=>let m:=(k.2.2.2.2.2.2).toNat;let n:=d.getD m qv;let s:=c.getD m qv;.br (qw (k.2.2.2.2.2.2<h)) (.unroll 4<|.kj<|.j8<|.gh k.2.2.2.2.2.2 d.length<|.gh k.2.2.2.2.2.2 c.length<|.j8<|.name 19015 ((qu.wrap (n * (s.1.Lo)))) λt=>.name 19016 ((qu.wrap (k.1+t))) λw=>.j8<|.j8<|.gh k.2.2.2.2.2.2 d.length<|.gh k.2.2.2.2.2.2 c.length<|.j8<|.name 20015 ((qu.wrap (n * (s.1.Hi)))) λy=>.name 20016 ((qu.wrap (k.2.1+y))) λz=>.j8<|.lit 18001 1<|.kj<|.j9<|.gh k.2.2.2.2.2.2 d.length<|.gh k.2.2.2.2.2.2 c.length<|.j9<|.name 19015 ((qu.wrap (n * (s.2.1.Lo)))) λaa=>.name 19016 ((qu.wrap (k.2.2.1+aa))) λab=>.j9<|.j9<|.gh k.2.2.2.2.2.2 d.length<|.gh k.2.2.2.2.2.2 c.length<|.j9<|.name 20015 ((qu.wrap (n * (s.2.1.Hi)))) λac=>.name 20016 ((qu.wrap (k.2.2.2.1+ac))) λad=>.j9<|.lit 18001 2<|.kj<|.ka<|.gh k.2.2.2.2.2.2 d.length<|.gh k.2.2.2.2.2.2 c.length<|.ka<|.name 19015 ((qu.wrap (n * (s.2.2.Lo)))) λae=>.name 19016 ((qu.wrap (k.2.2.2.2.1+ae))) λaf=>.ka<|.ka<|.gh k.2.2.2.2.2.2 d.length<|.gh k.2.2.2.2.2.2 c.length<|.ka<|.name 20015 ((qu.wrap (n * (s.2.2.Hi)))) λag=>.name 20016 ((qu.wrap (k.2.2.2.2.2.1+ag))) λah=>.ka<|.lit 18001 3<|.kl<|.nn (w,z,ab,ad,af,ah,(qu.wrap (k.2.2.2.2.2.2+1)))) (.oo (k.1,k.2.1,k.2.2.1,k.2.2.2.1,k.2.2.2.2.1,k.2.2.2.2.2.1))) (0,0,0,0,0,0,0) [] λk=>.km (((⟨k.1,k.2.1⟩:az0),(⟨k.2.2.1,k.2.2.2.1⟩:az0),(⟨k.2.2.2.2.1,k.2.2.2.2.2⟩:az0)),j,true)))
def qzl (c)(d):=
 mkD Tryz.func237 (qzm c d) 0 [XK 6 az3 c,XK 1 az2 d] [] (λr=>.tup [.pure (az3 r.1),pz r.2.1,XJ r.2.2]) XL
def Uz2 (c:Int):T Int:=
 .km (max c (qu.wrap (0-c)))
def ize (c):=
 mkD Tryz.func238 (Uz2 c) 0 [pz c] [] pz XL
def jzk (c:A1)(d:A1)(e:B3)(f:Int)(g:B3)(h:Int):T Ar:=let i:=qu.wrap (f+h);.cc (qzl e c) λj=>.cc (qzl g d) λk=>.cut 1 (λ(m:Bool)=>⟨[(3,pz f),(5,pz h),(14,XM 0),(15,pz j.2.1),(17,XM 1),(57,XJ m)],[(0,.box [pz j.1.1.Lo,pz j.1.1.Hi,pz j.1.2.1.Lo,pz j.1.2.1.Hi,pz j.1.2.2.Lo,pz j.1.2.2.Hi]),(1,.box [pz k.1.1.Lo,pz k.1.1.Hi,pz k.1.2.1.Lo,pz k.1.2.1.Hi,pz k.1.2.2.Lo,pz k.1.2.2.Hi])],[],2⟩) (.br (!j.2.2) (.oo true) (.br (!k.2.2) (.oo true) (.br (j.2.1 !=k.2.1) (.oo true) (.cc (fzg f) λm=>.br (!m) (.oo true) (.cc (fzg h) λn=>.oo (!n)))))) λm=>.br m (.km (0,false)) (.unroll 4<|.kj<|.j8<|.j8<|.cc (ize (qu.wrap (j.1.1.Lo-k.1.1.Hi))) λn=>.j8<|.j8<|.cc (ize (qu.wrap (j.1.1.Hi-k.1.1.Lo))) λs=>.cc (bz7 (max n s) j.2.1) λt=>.br (qw (t>i)) (.km ((-1),true)) (.name 12004 ((qu.wrap ((qu.wrap (i * i))- (qu.wrap (t * t))))) λw=>.lit 8001 1<|.kj<|.j9<|.j9<|.cc (ize (qu.wrap (j.1.2.1.Lo-k.1.2.1.Hi))) λy=>.j9<|.j9<|.cc (ize (qu.wrap (j.1.2.1.Hi-k.1.2.1.Lo))) λz=>.cc (bz7 (max y z) j.2.1) λaa=>.br (qw (aa>i)) (.km ((-1),true)) (.name 12004 ((qu.wrap (w- (qu.wrap (aa * aa))))) λab=>.lit 8001 2<|.kj<|.ka<|.ka<|.cc (ize (qu.wrap (j.1.2.2.Lo-k.1.2.2.Hi))) λac=>.ka<|.ka<|.cc (ize (qu.wrap (j.1.2.2.Hi-k.1.2.2.Lo))) λad=>.cc (bz7 (max ac ad) j.2.1) λae=>.br (qw (ae>i)) (.km ((-1),true)) (.name 12004 ((qu.wrap (ab- (qu.wrap (ae * ae))))) λaf=>.lit 8001 3<|.kl<|.km (af,true)))))
def nzf (c)(d)(e)(f)(g)(h):=
 mkD Tryz.func196 (jzk c d e f g h) 0 [XK 1 az2 c,XK 1 az2 d,XK 6 az3 e,pz f,XK 6 az3 g,pz h] [] (λr=>.tup [pz r.1,XJ r.2]) XL
def hzd (c:A1)(d:A1)(e:B3)(f:Int)(g:B3)(h:Int):T Bool:=
 .cc (nzf c d e f g h) λi=>.br i.2 (.km (qw (i.1>=0))) (.km false)
def fzv (c)(d)(e)(f)(g)(h):=
 mkD Tryz.func147 (hzd c d e f g h) 0 [XK 1 az2 c,XK 1 az2 d,XK 6 az3 e,pz f,XK 6 az3 g,pz h] [] XJ XL
def ozs (c:azd)(d:Ag)(e:Ax):T dzv:=let f:=encL 3 az1 e;let g:=(e.length:Int);.cc (wzp c d) λh=>let i:=encL 2 bzi h.1;let j:=encL 2 bzi h.2.1;
 .br (!h.2.2) (.km (⟨0,nl,(⟨0,nl,nl⟩:bze)⟩:dzv)) (.loop (λ(k:(Int×Ax×Int))=>⟨[(2,.pure f),(6,XM 0),(7,.pure i),(8,.pure j),(10,XM 4),(11,pz k.2.2)],[(0,.box [pz 0,.vec 1,pz 0,.vec 2,.vec 3]),(1,.nilv),(2,.nilv),(3,.nilv),(4,.box [pz k.1,.vec 5,pz 0,.vec 6,.vec 7]),(5,vecO 3 az1 k.2.1 96),(6,.nilv),(7,.nilv)],[],8⟩) (.exit 0) (λ(k:(Int×Ax))=>⟨[(6,XM 0),(10,XM 4)],[(0,.box [pz 0,.vec 1,pz 0,.vec 2,.vec 3]),(1,.nilv),(2,.nilv),(3,.nilv),(4,.box [pz k.1,.vec 5,pz 0,.vec 6,.vec 7]),(5,vecO 3 az1 k.2 96),(6,.nilv),(7,.nilv)],[],8⟩) (λk=>let m:=(k.2.2).toNat;let n:=qu.wrap (k.2.2+1);let s:=h.1.getD m qv;let t:=s.points;let w:=s.radius;let y:=h.2.1.getD m qv;let z:=y.points;let aa:=y.radius;.br (qw (k.2.2<(h.1.length:Int))) (.cut 0 (λ(ab:(Int×Ax))=>⟨[(2,.pure f),(6,XM 0),(7,.pure i),(8,.pure j),(10,XM 4),(11,pz k.2.2)],[(0,.box [pz 0,.vec 1,pz 0,.vec 2,.vec 3]),(1,.nilv),(2,.nilv),(3,.nilv),(4,.box [pz ab.1,.vec 5,pz 0,.vec 6,.vec 7]),(5,vecO 3 az1 ab.2 96),(6,.nilv),(7,.nilv)],[],8⟩) (.cut 1 (λ(ab:Ax)=>⟨[(2,.pure f),(6,XM 0),(7,.pure i),(8,.pure j),(10,XM 4),(11,pz k.2.2),(12,XK 3 az1 ab)],[(0,.box [pz 0,.vec 1,pz 0,.vec 2,.vec 3]),(1,.nilv),(2,.nilv),(3,.nilv),(4,.box [pz k.1,.vec 5,pz 0,.vec 6,.vec 7]),(5,vecO 3 az1 k.2.1 96),(6,.nilv),(7,.nilv)],[],8⟩) (.br (qw (k.2.2<g)) (.conv 10004 (Gzw 3 az1 e k.2.2 n)<|.grd (0<=k.2.2/\k.2.2<=n/\n<=g)<|.oo ((e.drop m).take (n.toNat- (k.2.2).toNat))) (.oo nl)) λab=>.gh k.2.2 h.1.length<|.gh k.2.2 h.1.length<|.gh k.2.2 h.2.1.length<|.gh k.2.2 h.2.1.length<|.cc (sz4 t w z aa ab) λac=>let ad:=([ac.1]:Ax);let ae:=k.2.1++ad;let af:=k.2.1.length+ad.length;
 .conv 12003 (cz0 3 az1 ad 96)<|.conv 12004 (dz6 3 az1 k.2.1 ad 96)<|.grd (af * 24<=140737488355328/\af<=maxLen)<|.br ac.2 (.oo (k.1,ae)) (.gh k.2.2 h.1.length<|.cc (eza t) λag=>.gh k.2.2 h.2.1.length<|.cc (eza z) λah=>.gh k.2.2 h.1.length<|.gh k.2.2 h.2.1.length<|.call (fzf ag ah (qu.wrap (w+aa)) 64) [] λai=>.gh k.2.2 h.1.length<|.gh k.2.2 h.1.length<|.gh k.2.2 h.2.1.length<|.gh k.2.2 h.2.1.length<|.cc (fzv ai.Left ai.Xx t w z aa) λaj=>.br aj (.ff (.fin (⟨2,nl,(⟨k.2.2,ai.Left,ai.Xx⟩:bze)⟩:dzv))) (.oo (0,ae)))) λab=>.nn (ab.1,ab.2,n)) (.oo (k.1,k.2.1))) (1,nl,0) [] λk=>.km (⟨k.1,k.2,(⟨0,nl,nl⟩:bze)⟩:dzv))
def yz4 (c)(d)(e):=
 mkD Tryz.func106 (ozs c d e) 0 [.pure (bzk c),XK 2 azb d,XK 3 az1 e] [] (λr=>.pure (vzs r)) XL
def lze (a0:azd)(a1:A1)(a2:A1)(a3:Int):T azo:=
 .cut 2 (λ(y141:Bool)=>⟨[(1,XK 1 az2 a1),(2,XK 1 az2 a2),(3,pz a3),(4,XM 0),(8,XM 1),(28,XJ y141)],[(0,.box [XK 12 aze a0.Xe.Xa,XK 5 azk a0.Xe.Xi,XK 3 azm a0.Xc,XK 2 azu a0.Xj]),(1,.box [pz 0,.vec 2,pz 0,pz 0,.vec 3,pz 0,.vec 4,.vec 5]),(2,.nilv),(3,.nilv),(4,.nilv),(5,.nilv)],[],6⟩) (.call (pzn (⟨a0.Xe,a0.Xc,a0.Xj⟩:azd) a1 a2) [] λy142=>.br (!y142) (.km (.out true)) (.br (qw (a3<0)) (.km (.out true)) (.km (.out (qw (a3>20)))))) λy141=>.br y141 (.km (⟨0,nl,(⟨0,0,nl⟩:az6),(⟨0,nl,nl⟩:bze)⟩:azo)) (.conv 4001 (Xzc 3 iz7 ([(⟨0,0,nl⟩:azz)]:Al) 186 [.agg [.int .i64 0,.int .i64 0,.lst 0 0 λ_=>.unk]] (by kernel_rfl))<|.loop (λ(x227:(A0×Al))=>⟨[(1,XK 1 az2 a1),(2,XK 1 az2 a2),(3,pz a3),(4,XM 0),(8,XM 1),(9,.vec 6),(10,.vec 7)],[(0,.box [XK 12 aze a0.Xe.Xa,XK 5 azk a0.Xe.Xi,XK 3 azm a0.Xc,XK 2 azu a0.Xj]),(1,.box [pz 0,.vec 2,pz 0,pz 0,.vec 3,pz 0,.vec 4,.vec 5]),(2,.nilv),(3,.nilv),(4,.nilv),(5,.nilv),(6,vecO 3 azl x227.1 80),(7,vecO 3 iz7 x227.2 186)],[],8⟩) (.exit 0) (λ(y248:A0)=>⟨[(8,XM 0),(9,.vec 5)],[(0,.box [pz 0,.vec 1,pz 0,pz 0,.vec 2,pz 0,.vec 3,.vec 4]),(1,.nilv),(2,.nilv),(3,.nilv),(4,.nilv),(5,vecO 3 azl y248 80)],[],6⟩) (λx227=>.br (qw ((x227.2.length:Int)>0)) (.grd (0<=(qu.wrap ((x227.2.length:Int)-1))/\(qu.wrap ((x227.2.length:Int)-1))<(x227.2.length:Int))<|.grd (((qu.wrap ((x227.2.length:Int)-1))).toNat<x227.2.length)<|.conv 7004 (Xzd 3 iz7 x227.2 186 (qu.wrap ((x227.2.length:Int)-1)))<|.grd (0<=(qu.wrap ((x227.2.length:Int)-1))/\(qu.wrap ((x227.2.length:Int)-1))<=(x227.2.length:Int)/\0<=((qu.wrap ((x227.2.length:Int)-1))).toNat)<|.name 8001 ((x227.2.getD (XI (qu.wrap ((x227.2.length:Int)-1))) qv).depth) λz251=>.name 8003 ((x227.2.getD (XI (qu.wrap ((x227.2.length:Int)-1))) qv).index) λz252=>.br (qw ((x227.1.length:Int)>=4096)) (.km (.fin (⟨0,nl,(⟨z251,z252,nl⟩:az6),(⟨0,nl,nl⟩:bze)⟩:azo))) (.name 11003 ((x227.2.getD (XI (qu.wrap ((x227.2.length:Int)-1))) qv).depth) λz256=>.name 11005 ((x227.2.getD (XI (qu.wrap ((x227.2.length:Int)-1))) qv).index) λz257=>.call (pzk a1 a2 z256 z257) [] λy258=>.call (yz4 (⟨a0.Xe,a0.Xc,a0.Xj⟩:azd) y258.1 ((x227.2.getD (XI (qu.wrap ((x227.2.length:Int)-1))) qv).hints)) [] λy260=>.br (y260.Xl==1) (.name 15002 ((x227.2.getD (XI (qu.wrap ((x227.2.length:Int)-1))) qv).depth) λz261=>.name 15004 ((x227.2.getD (XI (qu.wrap ((x227.2.length:Int)-1))) qv).index) λz262=>.conv 15008 (cz0 3 azl ([(⟨z261,z262,y260.Xf⟩:az6)]:A0) 80)<|.conv 15009 (dz6 3 azl x227.1 ([(⟨z261,z262,y260.Xf⟩:az6)]:A0) 80)<|.grd ((x227.1.length+([(⟨z261,z262,y260.Xf⟩:az6)]:A0).length) * 40<=140737488355328/\(x227.1.length+([(⟨z261,z262,y260.Xf⟩:az6)]:A0).length)<=maxLen)<|.km (.next ((x227.1++([(⟨z261,z262,y260.Xf⟩:az6)]:A0)),(x227.2.take (XI (qu.wrap ((x227.2.length:Int)-1))))))) (.br (y260.Xl==2) (.km (.fin (⟨2,nl,(⟨z251,z252,nl⟩:az6),y260.Xk⟩:azo))) (.name 18001 ((x227.2.getD (XI (qu.wrap ((x227.2.length:Int)-1))) qv).depth) λz264=>.br (z264==a3) (.km (.fin (⟨0,nl,(⟨z251,z252,nl⟩:az6),(⟨0,nl,nl⟩:bze)⟩:azo))) (.name 13002 ((x227.2.getD (XI (qu.wrap ((x227.2.length:Int)-1))) qv).depth) λz265=>.name 13005 ((x227.2.getD (XI (qu.wrap ((x227.2.length:Int)-1))) qv).index) λz266=>.name 13012 ((x227.2.getD (XI (qu.wrap ((x227.2.length:Int)-1))) qv).depth) λz267=>.name 13015 ((x227.2.getD (XI (qu.wrap ((x227.2.length:Int)-1))) qv).index) λz268=>.conv 13020 (cz0 3 iz7 ([(⟨(qu.wrap (z265+1)),(qu.wrap ((qu.wrap (2 * z266))+1)),y260.Xf⟩:azz),(⟨(qu.wrap (z267+1)),(qu.wrap (2 * z268)),y260.Xf⟩:azz)]:Al) 186)<|.conv 13021 (dz6 3 iz7 (x227.2.take (XI (qu.wrap ((x227.2.length:Int)-1)))) ([(⟨(qu.wrap (z265+1)),(qu.wrap ((qu.wrap (2 * z266))+1)),y260.Xf⟩:azz),(⟨(qu.wrap (z267+1)),(qu.wrap (2 * z268)),y260.Xf⟩:azz)]:Al) 186)<|.grd (((x227.2.take (XI (qu.wrap ((x227.2.length:Int)-1)))).length+([(⟨(qu.wrap (z265+1)),(qu.wrap ((qu.wrap (2 * z266))+1)),y260.Xf⟩:azz),(⟨(qu.wrap (z267+1)),(qu.wrap (2 * z268)),y260.Xf⟩:azz)]:Al).length) * 40<=140737488355328/\((x227.2.take (XI (qu.wrap ((x227.2.length:Int)-1)))).length+([(⟨(qu.wrap (z265+1)),(qu.wrap ((qu.wrap (2 * z266))+1)),y260.Xf⟩:azz),(⟨(qu.wrap (z267+1)),(qu.wrap (2 * z268)),y260.Xf⟩:azz)]:Al).length)<=maxLen)<|.km (.next (x227.1,((x227.2.take (XI (qu.wrap ((x227.2.length:Int)-1))))++([(⟨(qu.wrap (z265+1)),(qu.wrap ((qu.wrap (2 * z266))+1)),y260.Xf⟩:azz),(⟨(qu.wrap (z267+1)),(qu.wrap (2 * z268)),y260.Xf⟩:azz)]:Al))))))))) (.km (.out x227.1))) (nl,([(⟨0,0,nl⟩:azz)]:Al)) [] λy248=>.km (⟨1,y248,(⟨0,0,nl⟩:az6),(⟨0,nl,nl⟩:bze)⟩:azo))
def Fzj (c)(d)(e)(f):=
 mkD Tryz.func66 (lze c d e f) 0 [.pure (bzk c),XK 1 az2 d,XK 1 az2 e,pz f] [] (λr=>.pure (gz6 r)) XL
open Go.Proofs
def dzb (a0:A1):T A1:= (match a0 with
  |[]=>.unroll 1<|.grd (a0.length=0)<|.both (.km nl) (.conv 3000 (cz0 1 az2 ([]:A1) 2)<|.conv 3002 (dz6 1 az2 ([]:A1) a0 2)<|.grd ((([]:A1).length+a0.length) * 8<=140737488355328/\(([]:A1).length+a0.length)<=maxLen)<|.km (([]:A1)++a0))
  |_::_=>.grd (0<a0.length)<|.conv 3000 (cz0 1 az2 ([]:A1) 2)<|.conv 3002 (dz6 1 az2 ([]:A1) a0 2)<|.grd ((([]:A1).length+a0.length) * 8<=140737488355328/\(([]:A1).length+a0.length)<=maxLen)<|.km (([]:A1)++a0))
def bzr (a0:A1):CallS A1:=
 mkH [] hd Tryz.func51 (by kernel_rfl) (dzb a0) 0 [XK 1 az2 a0] [] (λr=>XK 1 az2 r) XL (by cases a0<;>exact Ob.of_side (by kernel_rfl))
def pz2 (c:Int):T Bool:=
 .br (qw (97<=c)) (.km (qw (c<=122))) (.km false)
def yzb (c):=
 mkD Tryz.func198 (pz2 c) 0 [.pure (.int .i32 c)] [] XJ XL
def rzd (c:Int):T Bool:=
 .br (qw (48<=c)) (.km (qw (c<=57))) (.km false)
def Bz5 (c):=
 mkD Tryz.func199 (rzd c) 0 [.pure (.int .i32 c)] [] XJ XL
def Bz4 (c:ByteArray):T Bool:=let d:=(c.size:Nat);.cut 2 (λ(e:Bool)=>⟨[(0,.pure (.str c)),(16,XJ e)],[],[],0⟩) (.br ((d:Int)==0) (.oo true) (.br (qw ((d:Int)>16)) (.oo true) (.oo (c==(⟨#[119,111,114,108,100]⟩:ByteArray))))) λe=>.br e (.km false) (.loop (λ(f:Nat)=>⟨[(18,XM 0)],[(0,.iter c f)],[],1⟩) (.exit 0) XN (λf=>let g:=Utf8.decode c f;let h:=(g.1:Int);.brP (f<c.size) (.cut 2 (λ(i:Bool)=>⟨[(18,XM 0),(38,XJ i)],[(0,.iter c (f+g.2))],[],1⟩) (.cc (yzb h) λi=>.br (!i) (.br ((f:Int)==0) (.oo true) (.cc (Bz5 h) λj=>.br (!j) (.oo (h !=95)) (.oo false))) (.oo false)) λi=>.br i (.ff false) (.nn (f+g.2))) (.oo .u))
 0 [] λ_=>.km true)
def Jz7 (c):=
 mkD Tryz.func152 (Bz4 c) 0 [.pure (.str c)] [] XJ XL
def Azs (c:azn)(d:ByteArray):T Int:=let e:=(c.Xa.length:Int);.loop (λ(f:Int)=>⟨[(1,.pure (.str d)),(2,XM 0),(8,pz e),(9,pz f)],[(0,.box [XK 12 aze c.Xa,XK 5 azk c.Xi])],[],1⟩) (.exit 0) XN (λf=>.br (qw (f<e)) (.gh f c.Xa.length<|.br (((c.Xa.getD (f.toNat) qv).XB)==d) (.ff f) (.nn (qu.wrap (f+1)))) (.oo .u))
 0 [] λ_=>.km (-1)
def Jz2 (c)(d):=
 mkD Tryz.func153 (Azs c d) 0 [.pure (dz0 c),.pure (.str d)] [] pz XL
def uzc (c:Aw):T Bool:=
 .loop (λ(d:Int)=>⟨[(5,.pure (az1 c)),(6,pz d)],[],[],0⟩) (.exit 0) XN (λd=>let e:=([c.1,c.2.1,c.2.2]:List Int).getD d.toNat 0;.br (qw (d<3)) (.gh d 3<|.cut 0 (λ(f:Bool)=>⟨[(5,.pure (az1 c)),(6,pz d),(14,XJ f)],[],[],0⟩) (.br (qw (e<(-4194304))) (.oo true) (.oo (qw (e>4194304)))) λf=>.br f (.ff true) (.nn (qu.wrap (d+1)))) (.oo .u))
 0 [] λ_=>.km false
def uzb (c):=
 mkD Tryz.func154 (uzc c) 0 [.pure (az1 c)] [] XJ XL
def xz8 (c:Int):T Int:=
 .cut 3 (λ(d:Bool)=>⟨[(3,pz c),(4,XJ d)],[],[],0⟩) (.br (c==1) (.oo (c==1)) (.br (c==2) (.oo (c==2)) (.oo (c==3)))) λd=>.br d (.km 524288) (.cut 0 (λ(e:Bool)=>⟨[(8,XJ e)],[],[],0⟩) (.br (c==4) (.oo (c==4)) (.br (c==5) (.oo (c==5)) (.oo (c==6)))) λe=>.br e (.km 4194304) (.km 0))
def Fzx (c):=
 mkD Tryz.func155 (xz8 c) 0 [pz c] [] pz XL
def xz7 (c:Int)(d:Int):T Bool:=
 .br (qw (1<=c)) (.km (qw (c<=d))) (.km false)
def izu (c)(d):=
 mkD Tryz.func156 (xz7 c d) 0 [pz c,pz d] [] XJ XL
def lzk (c:azn)(d:Int):T Int:=let e:=c.Xa.getD (d.toNat) qv;let f:=e.XB;let g:=e.Xl;let h:=e.Xt;let i:Nat×Res:=(0,.box [.pure (.str f),pz g,pz h,pz (e.Xy.1),pz (e.Xy.2.1),pz (e.Xy.2.2),pz (e.Lo),pz (e.Hi),pz (e.XA),pz (e.XF),pz (e.XG),pz (e.XD)]);.gh d c.Xa.length<|.cut 1 (λ(j:Bool)=>⟨[(1,pz d),(5,XM 0),(12,XJ j)],[i],[],1⟩) (.cc (Jz7 f) λj=>.br (!j) (.oo true) (.cc (Jz2 (⟨c.Xa,c.Xi⟩:azn) f) λk=>.oo (k !=d))) λj=>.br j (.km 802) (.cut 0 (λ(k:Bool)=>⟨[(1,pz d),(5,XM 0),(25,XJ k)],[i],[],1⟩) (.br (qw (g<0)) (.oo true) (.oo (qw (g>6)))) λk=>.br k (.km 803) (.cut 0 (λ(m:Bool)=>⟨[(5,XM 0),(34,XJ m)],[i],[],1⟩) (.br (qw (h<(-1))) (.oo true) (.oo (qw (h>=d)))) λm=>.br m (.km 804) (.cc (uzb (e.Xy)) λn=>.br n (.km 805) (.cc (Fzx g) λs=>.cut 1 (λ(t:Bool)=>⟨[(5,XM 0),(68,XJ t)],[i],[],1⟩) (.br (qw ((e.Lo)>(e.Hi))) (.oo true) (.br (qw ((e.Lo)<(qu.wrap (0-s)))) (.oo true) (.oo (qw ((e.Hi)>s))))) λt=>.br t (.km 806) (.cut 1 (λ(w:Bool)=>⟨[(90,XJ w)],[],[],0⟩) (.cc (izu (e.XA) 1024) λw=>.br (!w) (.oo true) (.cc (izu (e.XF) 1048576) λy=>.br (!y) (.oo true) (.cc (izu (e.XG) 1048576) λz=>.br (!z) (.oo true) (.cc (izu (e.XD) 1099511627776) λaa=>.oo (!aa))))) λw=>.br w (.km 807) (.km 0))))))
def sza (c)(d):=
 mkD Tryz.func118 (lzk c d) 0 [.pure (dz0 c),pz d] [] pz XL
def mzu (c:azn)(d:czj):T Bool:=
 .br (qw (0<=d.Xp)) (.br (qw (d.Xp<(c.Xa.length:Int))) (.cc (izu d.XH 65536) λe=>.br e (.cc (uzb d.XE) λf=>.km (!f)) (.km false)) (.km false)) (.km false)
def vz9 (c)(d):=
 mkD Tryz.func121 (mzu c d) 0 [.pure (dz0 c),.pure (azk d)] [] XJ XL
def rz2 (c:czj)(d:Aa)(e:Ab):T (Bool×Aa×Ab):=
 .cc (vz9 (⟨d,e⟩:azn) (⟨c.Xp,c.XH,c.XE⟩:czj)) λf=>.km ((!f),d,e)
def Azr (c)(d)(e):=
 mkD Tryz.func120 (rz2 c d e) 1 [.pure (azk c),XM 0] [(0,.box [XK 12 aze d,XK 5 azk e])] (λr=>XJ r.1) (λr=>[(0,.box [XK 12 aze r.2.1,XK 5 azk r.2.2])])
def dzo (c:Ab)(d:Aa)(e:Ab):T (Int×Aa×Ab):=let f:=(c.length:Int);.loop (λ(g:(Aa×Ab×Int))=>⟨[(0,XK 5 azk c),(1,.func 120 [] [XM 0]),(7,pz f),(8,pz g.2.2)],[(0,.box [XK 12 aze g.1,XK 5 azk g.2.1])],[],1⟩) (.exit 0) (λ(g:(Aa×Ab))=>⟨[],[(0,.box [XK 12 aze g.1,XK 5 azk g.2])],[],1⟩) (λg=>.br (qw (g.2.2<f)) (.gh g.2.2 c.length<|.call (Azr (c.getD (XI g.2.2) qv) g.1 g.2.1) [(0,0)] λh=>.br h.1 (.ff (g.2.2,h.2.1,h.2.2)) (.nn (h.2.1,h.2.2,(qu.wrap (g.2.2+1))))) (.oo (g.1,g.2.1))) (d,e,0) [] λg=>.km ((-1),g.1,g.2)
def fzi (c)(d)(e):=
 mkD Tryz.func157 (dzo c d e) 1 [XK 5 azk c,.func 120 [] [XM 0]] [(0,.box [XK 12 aze d,XK 5 azk e])] (λr=>pz r.1) (λr=>[(0,.box [XK 12 aze r.2.1,XK 5 azk r.2.2])])
def dz2 (c:Ab)(d:Aa)(e:Ab):T (Bool×Aa×Ab):=
 .call (fzi c d e) [(0,0)] λf=>.km ((qw (f.1>=0)),f.2.1,f.2.2)
def ezv (c)(d)(e):=
 mkD Tryz.func119 (dz2 c d e) 1 [XK 5 azk c,.func 120 [] [XM 0]] [(0,.box [XK 12 aze d,XK 5 azk e])] (λr=>XJ r.1) (λr=>[(0,.box [XK 12 aze r.2.1,XK 5 azk r.2.2])])
def xz6 (c:azn):T Int:=let d:=(c.Xa.length:Int);let e:Nat×Res:=(0,.box [XK 12 aze c.Xa,XK 5 azk c.Xi]);.cut 2 (λ(f:Bool)=>⟨[(1,XM 0),(14,XJ f)],[e],[],1⟩) (.br (d==0) (.oo true) (.oo (qw (d>10)))) λf=>.br f (.km 801) (.loop (λ(g:Int)=>⟨[(1,XM 0),(17,pz d),(18,pz g)],[e],[],1⟩) (.exit 0) (λ(_:U0)=>⟨[(1,XM 0)],[e],[],1⟩) (λg=>.br (qw (g<d)) (.cc (sza (⟨c.Xa,c.Xi⟩:azn) g) λh=>.br (h !=0) (.ff h) (.nn (qu.wrap (g+1)))) (.oo .u))
 0 [] λ_=>.cut 1 (λ(g:Bool)=>⟨[(37,XJ g)],[],[],0⟩) (.br (qw ((c.Xi.length:Int)>32)) (.oo true) (.call (ezv c.Xi c.Xa c.Xi) [(0,0)] λg=>.oo g.1)) λg=>.br g (.km 808) (.km 0))
def xz5 (c):=
 mkD Tryz.func81 (xz6 c) 0 [.pure (dz0 c)] [] pz XL
def uzd (c:azd)(d:Int):T Bool:=
 .br (qw ((-1)<=d)) (.km (qw (d<(c.Xe.Xa.length:Int)))) (.km false)
def nzi (c)(d):=
 mkD Tryz.func83 (uzd c d) 0 [.pure (bzk c),pz d] [] XJ XL
def lzm (c:azd)(d:bz9):T Int:=let e:=encL 3 az1 d.Xb;let f:=(d.Xb.length:Int);.cut 3 (λ(g:Bool)=>⟨[(3,XM 0),(35,XJ g)],[(0,.box [pz d.Xp,pz d.Xs,.pure e])],[],1⟩) (.cc (nzi c d.Xp) λg=>.br (!g) (.oo true) (.br (qw (d.Xs<1)) (.oo true) (.br (qw (d.Xs>1048576)) (.oo true) (.br (qw (f<1)) (.oo true) (.oo (qw (f>8))))))) λg=>.br g (.km 902) (.loop (λ(h:Int)=>⟨[(37,.pure e),(38,pz f),(39,pz h)],[],[],0⟩) (.exit 0) XN (λh=>let i:=d.Xb.getD (h.toNat) qv;.br (qw (h<f)) (.gh h d.Xb.length<|.loop (λ(j:Int)=>⟨[(37,.pure e),(38,pz f),(39,pz h),(43,.pure (az1 i)),(44,pz j)],[],[],0⟩) (.exit 2) (λ(_:U0)=>⟨[(37,.pure e),(38,pz f),(39,pz h)],[],[],0⟩) (λj=>.br (qw (j<3)) (.gh j 3<|.name 9000 ((([i.1,i.2.1,i.2.2]:List Int).getD j.toNat 0)) λk=>.cut 0 (λ(m:Bool)=>⟨[(37,.pure e),(38,pz f),(39,pz h),(43,.pure (az1 i)),(44,pz j),(52,XJ m)],[],[],0⟩) (.br (qw (k<(-4194304))) (.oo true) (.oo (qw (k>4194304)))) λm=>.br m (.ff (.fin 805)) (.nn (qu.wrap (j+1)))) (.oo .u))
 0 [] λ_=>.nn (qu.wrap (h+1))) (.oo .u))
 0 [] λ_=>.km 0)
def szb (c)(d):=
 mkD Tryz.func82 (lzm c d) 0 [.pure (bzk c),.pure (azm d)] [] pz XL
def xz9 (c:azd):T Int:=let d:=encL 2 azu c.Xj;let e:=encL 3 azm c.Xc;let f:=(c.Xj.length:Int);let g:=(c.Xc.length:Int);let h:Nat×Res:=(0,.box [XK 12 aze c.Xe.Xa,XK 5 azk c.Xe.Xi,.pure e,.pure d]);.cc (xz5 c.Xe) λi=>.br (i !=0) (.km i) (.br (qw (g>24)) (.km 901) (.loop (λ(j:Int)=>⟨[(1,XM 0),(20,.pure e),(21,pz g),(22,pz j)],[h],[],1⟩) (.exit 0) (λ(_:U0)=>⟨[(1,XM 0)],[h],[],1⟩) (λj=>.br (qw (j<g)) (.gh j c.Xc.length<|.cc (szb c (c.Xc.getD (j.toNat) qv)) λk=>.br (k !=0) (.ff k) (.nn (qu.wrap (j+1)))) (.oo .u))
 0 [] λ_=>.br (qw (f>64)) (.km 903) (.loop (λ(j:Int)=>⟨[(1,XM 0),(38,.pure d),(39,pz f),(40,pz j)],[h],[],1⟩) (.exit 2) XN (λj=>let k:=c.Xj.getD (j.toNat) qv;.br (qw (j<f)) (.gh j c.Xj.length<|.cut 0 (λ(m:Bool)=>⟨[(1,XM 0),(38,.pure d),(39,pz f),(40,pz j),(55,XJ m)],[h],[],1⟩) (.cc (nzi c (k.A)) λm=>.br (!m) (.oo true) (.cc (nzi c (k.B)) λn=>.oo (!n))) λm=>.br m (.ff 903) (.nn (qu.wrap (j+1)))) (.oo .u))
 0 [] λ_=>.km 0)))
def ezb (c):=
 mkD Tryz.func46 (xz9 c) 0 [.pure (bzk c)] [] pz XL
def mz0 (c:bz1)(d:Int):T Bool:=
 .br (qw (c.Lo<=d)) (.km (qw (d<=c.Hi))) (.km false)
def uzq (c)(d):=
 mkD Tryz.func159 (mz0 c d) 0 [.pure (aze c),pz d] [] XJ XL
def ezq (c:Aa)(d:A1):T Bool:=let e:=(c.length:Int);.br (e !=(d.length:Int)) (.km false) (.loop (λ(f:Int)=>⟨[(1,XK 1 az2 d),(2,.func 159 [] []),(14,XK 12 aze c),(15,pz e),(16,pz f)],[],[],0⟩) (.exit 0) XN (λf=>.br (qw (f<e)) (.gh f c.length<|.gh f d.length<|.cc (uzq (c.getD (f.toNat) qv) (d.getD (f.toNat) qv)) λg=>.br (!g) (.ff false) (.nn (qu.wrap (f+1)))) (.oo .u))
 0 [] λ_=>.km true)
def gzt (c)(d):=
 mkD Tryz.func158 (ezq c d) 0 [XK 12 aze c,XK 1 az2 d,.func 159 [] []] [] XJ XL
def qz8 (c:azn)(d:A1):T Bool:=
 .cc (xz5 c) λe=>.br (e==0) (.cc (gzt c.Xa d) λf=>.km f) (.km false)
def gzh (c)(d):=
 mkD Tryz.func123 (qz8 c d) 0 [.pure (dz0 c),XK 1 az2 d] [] XJ XL
def lz3 (c:azd)(d:A2):T Aq:=let e:=(d.length:Int);let f:=encL 1 (encL 1 az2) d;let g:Nat×Res:=(0,.box [XK 12 aze c.Xe.Xa,XK 5 azk c.Xe.Xi,XK 3 azm c.Xc,XK 2 azu c.Xj]);.cc (ezb c) λh=>.br (h !=0) (.km (0,904)) (.cut 1 (λ(i:Bool)=>⟨[(1,.pure f),(2,XM 0),(18,XJ i)],[g],[],1⟩) (.br (qw (e<2)) (.oo true) (.oo (qw (e>256)))) λi=>.br i (.km (0,2201)) (.loop (λ(j:Int)=>⟨[(2,XM 0),(19,.pure f),(20,pz e),(21,pz j)],[g],[],1⟩) (.exit 0) XN (λj=>.br (qw (j<e)) (.gh j d.length<|.cc (gzh c.Xe (d.getD (j.toNat) qv)) λk=>.br (!k) (.ff (j,1201)) (.nn (qu.wrap (j+1)))) (.oo .u))
 0 [] λ_=>.km (0,0)))
def rzw (c)(d):=
 mkD Tryz.func88 (lz3 c d) 0 [.pure (bzk c),XK 1 (encL 1 az2) d] [] (λr=>.tup [pz r.1,pz r.2]) XL
def ozc (c:Int):T Bool:=
 .br (qw (c<(-2147483648))) (.km true) (.km (qw (c>2147483648)))
def xzr (c):=
 mkD Tryz.func240 (ozc c) 0 [pz c] [] XJ XL
def ezw (c:A1):T Int:=let d:=(c.length:Int);.loop (λ(e:Int)=>⟨[(0,XK 1 az2 c),(1,.func 240 [] []),(7,pz d),(8,pz e)],[],[],0⟩) (.exit 0) XN (λe=>.br (qw (e<d)) (.gh e c.length<|.cc (xzr (c.getD (e.toNat) qv)) λf=>.br f (.ff e) (.nn (qu.wrap (e+1)))) (.oo .u))
 0 [] λ_=>.km (-1)
def gzw (c):=
 mkD Tryz.func279 (ezw c) 0 [XK 1 az2 c,.func 240 [] []] [] pz XL
def ezc (c:A1):T Bool:=
 .cc (gzw c) λd=>.km (qw (d>=0))
def gz2 (c):=
 mkD Tryz.func239 (ezc c) 0 [XK 1 az2 c,.func 240 [] []] [] XJ XL
def szx (c:A1):T Bool:=
 .cc (gz2 c) λd=>.km (!d)
def szu (c):=
 mkD Tryz.func200 (szx c) 0 [XK 1 az2 c] [] XJ XL
def mz1 (c:A1)(d:A1)(e:Int):T Bool:=
 .br ((c.length:Int)==(d.length:Int)) (.cc (szu c) λf=>.br f (.cc (szu d) λg=>.br g (.br (qw (0<=e)) (.km (qw (e<=20))) (.km false)) (.km false)) (.km false)) (.km false)
def uzr (c)(d)(e):=
 mkD Tryz.func160 (mz1 c d e) 0 [XK 1 az2 c,XK 1 az2 d,pz e] [] XJ XL
def vzq (c:Int)(d:Int):T Int:=
 .grd (0<=d)<|.km (c.fdiv (2 ^ (min d.toNat 64)))
def vzp (c)(d):=
 mkD Tryz.func163 (vzq c d) 0 [pz c,pz d] [] pz XL
def ozb (c:Int)(d:Int)(e:Int)(f:Int):T (az0×Int×Int):=let g:=qu.wrap (d-c);let h:=qu.wrap (e * g);let i:=qu.wrap ((qu.wrap (e+1)) * g);.name 2003 ((min h i)) λj=>.cc (vzp j f) λk=>.name 2010 ((max h i)) λm=>.cc (vzp (qu.wrap (0-m)) f) λn=>.km ((⟨(qu.wrap (c+k)),(qu.wrap (c-n))⟩:az0),e,f)
def xzq (c)(d)(e)(f):=
 mkD Tryz.func162 (ozb c d e f) 2 [pz c,pz d,XM 0,XM 1] [(0,.box [pz e]),(1,.box [pz f])] (λr=>.pure (azb r.1)) (λr=>[(0,.box [pz r.2.1]),(1,.box [pz r.2.2])])
def czu (c:A1)(d:A1)(e:Int)(f:Int):T (Ag×Int×Int):=let g:=(c.length:Int);.conv 1002 (Nz5 2 azb 218 g.toNat (⟨0,0⟩:az0))<|.grd (0<=g/\g<=g/\g<=9223372036854775807/\g * 16<=140737488355328)<|.loop (λ(h:(Int×Int×Ag×Int))=>⟨[(1,XK 1 az2 d),(2,.func 162 [] [XM 0,XM 1]),(7,.vec 2),(13,XK 1 az2 c),(14,pz g),(15,pz h.2.2.2)],[(0,.box [pz h.1]),(1,.box [pz h.2.1]),(2,vecO 2 azb h.2.2.1 218)],[],3⟩) (.exit 0) (λ(h:(Int×Int×Ag))=>⟨[(7,.vec 2)],[(0,.box [pz h.1]),(1,.box [pz h.2.1]),(2,vecO 2 azb h.2.2 218)],[],3⟩) (λh=>let i:=(h.2.2.2).toNat;.br (qw (h.2.2.2<g)) (.gh h.2.2.2 c.length<|.gh h.2.2.2 d.length<|.call (xzq (c.getD i qv) (d.getD i qv) h.1 h.2.1) [(0,0),(1,1)] λj=>.gh h.2.2.2 h.2.2.1.length<|.conv 5010 (fzs 2 azb h.2.2.1 218 i j.1)<|.gi (h.2.2.2) h.2.2.1.length<|.nn (j.2.1,j.2.2,(h.2.2.1.set i j.1),(qu.wrap (h.2.2.2+1)))) (.oo (h.1,h.2.1,h.2.2.1))) (e,f,(qt g.toNat ((⟨0,0⟩:az0):az0)),0) [] λh=>.km (h.2.2,h.1,h.2.1)
def ezm (c)(d)(e)(f):=
 mkD Tryz.func161 (czu c d e f) 2 [XK 1 az2 c,XK 1 az2 d,.func 162 [] [XM 0,XM 1]] [(0,.box [pz e]),(1,.box [pz f])] (λr=>XK 2 azb r.1) (λr=>[(0,.box [pz r.2.1]),(1,.box [pz r.2.2])])
def szs (c:A1)(d:A1)(e:Int)(f:Int):T (Ag×Bool):=
 .cut 2 (λ(g:Bool)=>⟨[(0,XK 1 az2 c),(1,XK 1 az2 d),(6,XM 0),(7,XM 1),(24,XJ g)],[(0,.box [pz e]),(1,.box [pz f])],[],2⟩) (.cc (uzr c d e) λg=>.br (!g) (.oo true) (.br (qw (f<0)) (.oo true) (.grd (0<=e)<|.oo (qw (f>=(qu.wrap (1 * 2 ^ (min e.toNat 64)))))))) λg=>.br g (.km (nl,false)) (.call (ezm c d f e) [(0,1),(1,0)] λh=>.km (h.1,true))
def nz3 (c)(d)(e)(f):=
 mkD Tryz.func125 (szs c d e f) 0 [XK 1 az2 c,XK 1 az2 d,pz e,pz f] [] (λr=>.tup [XK 2 azb r.1,XJ r.2]) XL
def ozf (c:az0):T Bool:=
 .br (qw ((-2147483648)<=c.Lo)) (.br (qw (c.Lo<=c.Hi)) (.km (qw (c.Hi<=2147483648))) (.km false)) (.km false)
def czi (c):=
 mkD Tryz.func201 (ozf c) 0 [.pure (azb c)] [] XJ XL
def ozy (c:azn):T A1:=let d:=encL 12 aze c.Xa;let e:=(c.Xa.length:Int);let f:=qu.wrap (e+1);let g:=qt f.toNat (0:Int);.conv 1004 (Nz5 1 az2 3 f.toNat 0)<|.grd (0<=f/\f<=f/\f<=9223372036854775807/\f * 8<=140737488355328)<|.gh (0:Int) (g.length)<|.conv 2002 (fzs 1 az2 g 3 (XI (0:Int)) (-1))<|.gi (0:Int) (g.length)<|.loop (λ(h:A9)=>⟨[(3,.vec 0),(14,.pure d),(15,pz e),(16,pz h.2)],[(0,vecO 1 az2 h.1 3)],[],1⟩) (.exit 0) (λ(h:A1)=>⟨[(3,.vec 0)],[(0,vecO 1 az2 h 3)],[],1⟩) (λh=>let i:=qu.wrap (h.2+1);let j:=i.toNat;let k:=h.1.set j h.2;let m:=k.length;let n:=c.Xa.getD (XI h.2) qv;let s:=qu.wrap ((n.Xt)+1);.br (qw (h.2<e)) (.cut 0 (λ(t:A1)=>⟨[(3,.vec 0),(14,.pure d),(15,pz e),(16,pz h.2)],[(0,vecO 1 az2 t 3)],[],1⟩) (.gh h.2 c.Xa.length<|.gh i h.1.length<|.conv 6005 (fzs 1 az2 h.1 3 j h.2)<|.gi (i) h.1.length<|.br ((n.Lo)==(n.Hi)) (.gg s m<|.name 8008 ((k.getD (s.toNat) qv)) λt=>.gh i m<|.conv 8010 (fzs 1 az2 k 3 j t)<|.gi (i) m<|.oo (k.set j t)) (.oo k)) λt=>.nn (t,i)) (.oo h.1)) ((g.set (XI (0:Int)) (-1)),0) [] λh=>.km h
def yz7 (c):=
 mkD Tryz.func241 (ozy c) 0 [.pure (dz0 c)] [] (λr=>XK 1 az2 r) XL
def rz3 (c:azd)(d:Int)(e:Int):T Bool:=let f:=encL 2 azu c.Xj;let g:=(c.Xj.length:Int);.loop (λ(h:Int)=>⟨[(1,pz d),(2,pz e),(10,.pure f),(11,pz g),(12,pz h)],[],[],0⟩) (.exit 0) XN (λh=>let i:=c.Xj.getD (h.toNat) qv;.br (qw (h<g)) (.gh h c.Xj.length<|.cut 0 (λ(j:Bool)=>⟨[(1,pz d),(2,pz e),(10,.pure f),(11,pz g),(12,pz h),(27,XJ j)],[],[],0⟩) (.br (((i.A)==d)&&(((i.B)==e)&&true)) (.oo true) (.oo (((i.A)==e)&&(((i.B)==d)&&true)))) λj=>.br j (.ff true) (.nn (qu.wrap (h+1)))) (.oo .u))
 0 [] λ_=>.km false
def Azw (c)(d)(e):=
 mkD Tryz.func242 (rz3 c d e) 0 [.pure (bzk c),pz d,pz e] [] XJ XL
def xza (c:azd):T Ai:=let d:=encL 3 azm c.Xc;let e:=(c.Xc.length:Int);let f:Nat×Res:=(0,.box [XK 12 aze c.Xe.Xa,XK 5 azk c.Xe.Xi,.pure d,XK 2 azu c.Xj]);.cc (ezb c) λg=>.br (g !=0) (.km nl) (.cc (yz7 c.Xe) λh=>let i:=encL 1 az2 h;
 .loop (λ(j:Aj)=>⟨[(1,XM 0),(3,.pure i),(4,.vec 1),(17,.pure d),(18,pz e),(19,pz j.2)],[f,(1,vecO 2 ez9 j.1 269)],[],2⟩) (.exit 0) (λ(j:Ai)=>⟨[(4,.vec 0)],[(0,vecO 2 ez9 j 269)],[],1⟩) (λj=>let k:=c.Xc.getD (XI j.2) qv;let m:=k.Xp;let n:=qu.wrap (m+1);let s:=qu.wrap (j.2+1);let t:Nat×Res:=(2,.box [pz m,pz (k.Xs),XK 3 az1 (k.Xb)]);.br (qw (j.2<e)) (.gh j.2 c.Xc.length<|.loop (λ(w:Aj)=>⟨[(1,XM 0),(3,.pure i),(4,.vec 1),(5,pz j.2),(6,XM 2),(7,pz w.2),(17,.pure d),(18,pz e),(19,pz j.2)],[f,(1,vecO 2 ez9 w.1 269),t],[],3⟩) (.exit 2) (λ(w:Ai)=>⟨[(1,XM 0),(3,.pure i),(4,.vec 1),(17,.pure d),(18,pz e),(19,pz j.2)],[f,(1,vecO 2 ez9 w 269)],[],2⟩) (λw=>let y:=([(⟨j.2,w.2⟩:czf)]:Ai);let z:=w.1.length+y.length;let aa:=(c.Xc.getD (XI w.2) qv).Xp;let ab:=qu.wrap (aa+1);.br (qw (w.2<e)) (.cut 0 (λ(ac:Ai)=>⟨[(1,XM 0),(3,.pure i),(4,.vec 1),(5,pz j.2),(6,XM 2),(7,pz w.2),(17,.pure d),(18,pz e),(19,pz j.2)],[f,(1,vecO 2 ez9 ac 269),t],[],3⟩) (.gh w.2 c.Xc.length<|.gh n h.length<|.gh ab h.length<|.name 12011 ((h.getD (ab.toNat) qv)) λac=>.cut 0 (λ(ad:Bool)=>⟨[(1,XM 0),(3,.pure i),(4,.vec 1),(5,pz j.2),(6,XM 2),(7,pz w.2),(17,.pure d),(18,pz e),(19,pz j.2),(61,XJ ad)],[f,(1,vecO 2 ez9 w.1 269),t],[],3⟩) (.br (!((h.getD (n.toNat) qv)==ac)) (.cc (Azw c m aa) λad=>.oo (!ad)) (.oo false)) λad=>.br ad (.conv 14004 (cz0 2 ez9 y 269)<|.conv 14005 (dz6 2 ez9 w.1 y 269)<|.grd (z * 16<=140737488355328/\z<=maxLen)<|.oo (w.1++y)) (.oo w.1)) λac=>.nn (ac,(qu.wrap (w.2+1)))) (.oo w.1)) (j.1,s) [] λw=>.nn (w,s)) (.oo j.1)) (nl,0) [] λj=>.km j)
def Fzz (c):=
 mkD Tryz.func202 (xza c) 0 [.pure (bzk c)] [] (λr=>XK 2 ez9 r) XL
def jz2 (c:az0):T Bool:=
 .cc (czi c) λd=>.km (!d)
def pz5 (c):=
 mkD Tryz.func281 (jz2 c) 0 [.pure (azb c)] [] XJ XL
def czn (c:Ag):T Int:=let d:=(c.length:Int);.loop (λ(e:Int)=>⟨[(0,XK 2 azb c),(1,.func 281 [] []),(7,pz d),(8,pz e)],[],[],0⟩) (.exit 0) XN (λe=>.br (qw (e<d)) (.gh e c.length<|.cc (pz5 (c.getD (e.toNat) qv)) λf=>.br f (.ff e) (.nn (qu.wrap (e+1)))) (.oo .u))
 0 [] λ_=>.km (-1)
def ez2 (c):=
 mkD Tryz.func304 (czn c) 0 [XK 2 azb c,.func 281 [] []] [] pz XL
def cze (c:Ag):T Bool:=
 .cc (ez2 c) λd=>.km (qw (d>=0))
def dzn (c):=
 mkD Tryz.func280 (cze c) 0 [XK 2 azb c,.func 281 [] []] [] XJ XL
def kzm (c:azn)(d:Ag):T Bool:=
 .br ((d.length:Int)==(c.Xa.length:Int)) (.cc (dzn d) λe=>.km (!e)) (.km false)
def rzp (c)(d):=
 mkD Tryz.func243 (kzm c d) 0 [.pure (dz0 c),XK 2 azb d] [] XJ XL
def wz0 (c:Int):T Int:=
 .km (min (max c (-2147483648)) 2147483648)
def vzz (c):=
 mkD Tryz.func339 (wz0 c) 0 [pz c] [] pz XL
def kzj (c:Int)(d:Int):T az0:=
 .cc (vzz c) λe=>.cc (vzz d) λf=>.km (⟨e,f⟩:az0)
def hzy (c)(d):=
 mkD Tryz.func327 (kzj c d) 0 [pz c,pz d] [] (λr=>.pure (azb r)) XL
def wz4 (c:Int):T az0:=
 .cc (hzy c c) λd=>.km d
def dz7 (c):=
 mkD Tryz.func309 (wz4 c) 0 [pz c] [] (λr=>.pure (azb r)) XL
def tz9 (c:Aw):T B2:=
 .unroll 4<|.kj<|.j8<|.cc (dz7 c.1) λd=>.j8<|.lit 6000 1<|.kj<|.j9<|.cc (dz7 c.2.1) λe=>.j9<|.lit 6000 2<|.kj<|.ka<|.cc (dz7 c.2.2) λf=>.ka<|.lit 6000 3<|.kl<|.km (d,e,f)
def nz9 (c):=
 mkD Tryz.func288 (tz9 c) 0 [.pure (az1 c)] [] (λr=>.pure (az3 r)) XL
def matrix_Identity_T:T B5:=
 .unroll 4<|.kj<|.cc (dz7 65536) λc=>.j8<|.j8<|.lit 6000 1<|.kj<|.cc (dz7 65536) λd=>.j9<|.j9<|.lit 6000 2<|.kj<|.cc (dz7 65536) λe=>.ka<|.ka<|.lit 6000 3<|.kl<|.km ((c,(⟨0,0⟩:az0),(⟨0,0⟩:az0)),((⟨0,0⟩:az0),d,(⟨0,0⟩:az0)),((⟨0,0⟩:az0),(⟨0,0⟩:az0),e))
def matrix_Identity_C:CallS B5:=
 mkD Tryz.func308 (matrix_Identity_T) 0 [] [] (λr=>.pure (bzl r)) XL
def zzr (c:B2):T bz2:=
 .cc (matrix_Identity_C) λd=>.km (⟨d,c⟩:bz2)
def rzy (c):=
 mkD Tryz.func284 (zzr c) 0 [.pure (az3 c)] [] (λr=>.pure (bzu r)) XL
def gzk (c:Int):T Int:=
 .cut 3 (λ(d:Bool)=>⟨[(0,pz c),(2,XM 0),(3,pz c),(4,XJ d)],[(0,.box [.any])],[],1⟩) (.br (c==1) (.oo (c==1)) (.br (c==2) (.oo (c==2)) (.oo (c==3)))) λd=>.br d (.km (qu.wrap (c-1))) (.cut 0 (λ(e:Bool)=>⟨[(0,pz c),(2,XM 0),(12,XJ e)],[(0,.box [.any])],[],1⟩) (.br (c==4) (.oo (c==4)) (.br (c==5) (.oo (c==5)) (.oo (c==6)))) λe=>.br e (.stop) (.stop))
def gzj (c):=
 mkD Tryz.func305 (gzk c) 0 [pz c] [] (λr=>.agg [.func 318 [pz r] []]) XL
def gzm (c:Int):T Int:=
 .cut 3 (λ(d:Bool)=>⟨[(0,pz c),(2,XM 0),(3,pz c),(4,XJ d)],[(0,.box [.any])],[],1⟩) (.br (c==1) (.oo (c==1)) (.br (c==2) (.oo (c==2)) (.oo (c==3)))) λd=>.br d (.stop) (.cut 0 (λ(e:Bool)=>⟨[(0,pz c),(2,XM 0),(12,XJ e)],[(0,.box [.any])],[],1⟩) (.br (c==4) (.oo (c==4)) (.br (c==5) (.oo (c==5)) (.oo (c==6)))) λe=>.br e (.km (qu.wrap (c-4))) (.stop))
def gzl (c):=
 mkD Tryz.func305 (gzm c) 0 [pz c] [] (λr=>.agg [.func 319 [pz r] []]) XL
def gzn (c:Int):T Int:=
 .cut 3 (λ(d:Bool)=>⟨[(0,pz c),(2,XM 0),(3,pz c),(4,XJ d)],[(0,.box [.any])],[],1⟩) (.br (c==1) (.oo (c==1)) (.br (c==2) (.oo (c==2)) (.oo (c==3)))) λd=>.br d (.stop) (.cut 0 (λ(e:Bool)=>⟨[(0,pz c),(2,XM 0),(12,XJ e)],[(0,.box [.any])],[],1⟩) (.br (c==4) (.oo (c==4)) (.br (c==5) (.oo (c==5)) (.oo (c==6)))) λe=>.br e (.stop) (.km 0))
def kz6 (c):=
 mkD Tryz.func305 (gzn c) 0 [pz c] [] (λr=>.agg [.func 320 [pz r] []]) XL
def pose_still_T:T B2:=
 .cc (nz9 (0,0,0)) λc=>.km c
def pose_still_C:CallS B2:=
 mkD Tryz.func285 (pose_still_T) 0 [] [] (λr=>.pure (az3 r)) XL
def pose_Identity_T:T bz2:=
 .cc (pose_still_C) λc=>.cc (rzy c) λd=>.km d
def pose_Identity_C:CallS bz2:=
 mkD Tryz.func245 (pose_Identity_T) 0 [] [] (λr=>.pure (bzu r)) XL
def Dz9 (_a0:Int)(_a1:az0):T bz2:=
 .cc (pose_Identity_C) λc=>.km c
def Kzc (c)(d):=
 mkD Tryz.func320 (Dz9 c d) 0 [pz c,.pure (azb d)] [] (λr=>.pure (bzu r)) XL
def nzw (c:bz2):T Bj:=
 .km (c.R.1.1.Lo,c.R.1.1.Hi,c.R.1.2.1.Lo,c.R.1.2.1.Hi,c.R.1.2.2.Lo,c.R.1.2.2.Hi,c.R.2.1.1.Lo,c.R.2.1.1.Hi,c.R.2.1.2.1.Lo,c.R.2.1.2.1.Hi,c.R.2.1.2.2.Lo,c.R.2.1.2.2.Hi,c.R.2.2.1.Lo,c.R.2.2.1.Hi,c.R.2.2.2.1.Lo,c.R.2.2.2.1.Hi,c.R.2.2.2.2.Lo,c.R.2.2.2.2.Hi,c.T.1.Lo,c.T.1.Hi,c.T.2.1.Lo,c.T.2.1.Hi,c.T.2.2.Lo,c.T.2.2.Hi)
def rzz (c):=
 mkD Tryz.func306 (nzw c) 0 [.pure (bzu c)] [] (λ_=>.func 321 [] [XM 0]) (λr=>[(0,.box [pz r.1,pz r.2.1,pz r.2.2.1,pz r.2.2.2.1,pz r.2.2.2.2.1,pz r.2.2.2.2.2.1,pz r.2.2.2.2.2.2.1,pz r.2.2.2.2.2.2.2.1,pz r.2.2.2.2.2.2.2.2.1,pz r.2.2.2.2.2.2.2.2.2.1,pz r.2.2.2.2.2.2.2.2.2.2.1,pz r.2.2.2.2.2.2.2.2.2.2.2.1,pz r.2.2.2.2.2.2.2.2.2.2.2.2.1,pz r.2.2.2.2.2.2.2.2.2.2.2.2.2.1,pz r.2.2.2.2.2.2.2.2.2.2.2.2.2.2.1,pz r.2.2.2.2.2.2.2.2.2.2.2.2.2.2.2.1,pz r.2.2.2.2.2.2.2.2.2.2.2.2.2.2.2.2.1,pz r.2.2.2.2.2.2.2.2.2.2.2.2.2.2.2.2.2.1,pz r.2.2.2.2.2.2.2.2.2.2.2.2.2.2.2.2.2.2.1,pz r.2.2.2.2.2.2.2.2.2.2.2.2.2.2.2.2.2.2.2.1,pz r.2.2.2.2.2.2.2.2.2.2.2.2.2.2.2.2.2.2.2.2.1,pz r.2.2.2.2.2.2.2.2.2.2.2.2.2.2.2.2.2.2.2.2.2.1,pz r.2.2.2.2.2.2.2.2.2.2.2.2.2.2.2.2.2.2.2.2.2.2.1,pz r.2.2.2.2.2.2.2.2.2.2.2.2.2.2.2.2.2.2.2.2.2.2.2])])
def ozi (c:az0)(d:az0):T Bool:=
 .cc (czi c) λe=>.br e (.cc (czi d) λf=>.km f) (.km false)
def jzs (c)(d):=
 mkD Tryz.func337 (ozi c d) 0 [.pure (azb c),.pure (azb d)] [] XJ XL
def mz4 (c:Int)(d:Int):T Int:=
 .br (qw (d<0)) (.km c) (.grd (0<=d)<|.km (c.fdiv (2 ^ (min d.toNat 64))))
def bzc (c)(d):=
 mkD Tryz.func263 (mz4 c d) 0 [pz c,pz d] [] pz XL
def qzd (c:Int)(d:Int):T Int:=let e:=min d.toNat 64;let f:=c.fdiv (2 ^ e);.br (qw (d<0)) (.km c) (.grd (0<=d)<|.cut 0 (λ(g:Int)=>⟨[(5,pz g)],[],[],0⟩) (.grd (0<=d)<|.br ((qu.wrap (f * 2 ^ e)) !=c) (.oo (qu.wrap (f+1))) (.oo f)) λg=>.km g)
def bzj (c)(d):=
 mkD Tryz.func293 (qzd c d) 0 [pz c,pz d] [] pz XL
def mz5 (c:Int)(d:Int):T az0:=
 .cc (bzc c 16) λe=>.cc (bzj d 16) λf=>.cc (hzy e f) λg=>.km g
def uzv (c)(d):=
 mkD Tryz.func338 (mz5 c d) 0 [pz c,pz d] [] (λr=>.pure (azb r)) XL
def tz5 (c:az0)(d:az0):T az0:=let e:=qu.wrap (c.Lo * d.Lo);let f:=qu.wrap (c.Lo * d.Hi);let g:=qu.wrap (c.Hi * d.Lo);let h:=qu.wrap (c.Hi * d.Hi);.cc (jzs (⟨c.Lo,c.Hi⟩:az0) (⟨d.Lo,d.Hi⟩:az0)) λi=>.br (!i) (.km (⟨0,0⟩:az0)) (.ix 0 4 rfl<|.ix 0 4 rfl<|.loop (λ(j:Aw)=>⟨[(4,XM 0),(6,pz j.1),(7,pz j.2.1),(40,.pure (Kzt (e,f,g,h))),(41,pz j.2.2)],[(0,.box [pz 0,pz 0])],[],1⟩) (.exit 0) (λ(j:Aq)=>⟨[(4,XM 0),(6,pz j.1),(7,pz j.2)],[(0,.box [pz 0,pz 0])],[],1⟩) (λj=>.br (qw (j.2.2<4)) (.gh j.2.2 4<|.name 7000 ((([e,f,g,h]:List Int).getD (j.2.2).toNat 0)) λk=>.nn ((min j.1 k),(max j.2.1 k),(qu.wrap (j.2.2+1)))) (.oo (j.1,j.2.1))) (e,e,0) [] λj=>.cc (uzv j.1 j.2) λk=>.km k)
def azs (c)(d):=
 mkD Tryz.func325 (tz5 c d) 0 [.pure (azb c),.pure (azb d)] [] (λr=>.pure (azb r)) XL
def tz1 (c:az0)(d:az0):T az0:=
 .cc (jzs c d) λe=>.br (!e) (.km (⟨0,0⟩:az0)) (.cc (hzy (qu.wrap (c.Lo+d.Lo)) (qu.wrap (c.Hi+d.Hi))) λf=>.km f)
def azr (c)(d):=
 mkD Tryz.func324 (tz1 c d) 0 [.pure (azb c),.pure (azb d)] [] (λr=>.pure (azb r)) XL
def ozl (c:Int):T Int:=
 .km (min (max c (-65536)) 65536)
def bzb (c):=
 mkD Tryz.func326 (ozl c) 0 [pz c] [] pz XL
def ozk (c:B5)(d:B5):T B5:=
 .unroll 4<|.kj<|.unroll 4<|.kj<|.unroll 4<|.kj<|.j8<|.j8<|.j8<|.j8<|.cc (azs c.1.1 d.1.1) λe=>.cc (azr (⟨0,0⟩:az0) e) λf=>.lit 13000 1<|.kj<|.j8<|.j9<|.j9<|.j8<|.cc (azs c.1.2.1 d.2.1.1) λg=>.cc (azr f g) λh=>.lit 13000 2<|.kj<|.j8<|.ka<|.ka<|.j8<|.cc (azs c.1.2.2 d.2.2.1) λi=>.cc (azr h i) λj=>.lit 13000 3<|.kl<|.cc (bzb j.Lo) λk=>.cc (bzb j.Hi) λm=>.j8<|.j8<|.lit 15000 1<|.kj<|.unroll 4<|.kj<|.j8<|.j8<|.j8<|.j9<|.cc (azs c.1.1 d.1.2.1) λn=>.cc (azr (⟨0,0⟩:az0) n) λs=>.lit 13000 1<|.kj<|.j8<|.j9<|.j9<|.j9<|.cc (azs c.1.2.1 d.2.1.2.1) λt=>.cc (azr s t) λw=>.lit 13000 2<|.kj<|.j8<|.ka<|.ka<|.j9<|.cc (azs c.1.2.2 d.2.2.2.1) λy=>.cc (azr w y) λz=>.lit 13000 3<|.kl<|.cc (bzb z.Lo) λaa=>.cc (bzb z.Hi) λab=>.j8<|.j9<|.lit 15000 2<|.kj<|.unroll 4<|.kj<|.j8<|.j8<|.j8<|.ka<|.cc (azs c.1.1 d.1.2.2) λac=>.cc (azr (⟨0,0⟩:az0) ac) λad=>.lit 13000 1<|.kj<|.j8<|.j9<|.j9<|.ka<|.cc (azs c.1.2.1 d.2.1.2.2) λae=>.cc (azr ad ae) λaf=>.lit 13000 2<|.kj<|.j8<|.ka<|.ka<|.ka<|.cc (azs c.1.2.2 d.2.2.2.2) λag=>.cc (azr af ag) λah=>.lit 13000 3<|.kl<|.cc (bzb ah.Lo) λai=>.cc (bzb ah.Hi) λaj=>.j8<|.ka<|.lit 15000 3<|.kl<|.lit 16000 1<|.kj<|.unroll 4<|.kj<|.unroll 4<|.kj<|.j9<|.j8<|.j8<|.j8<|.cc (azs c.2.1.1 d.1.1) λak=>.cc (azr (⟨0,0⟩:az0) ak) λal=>.lit 13000 1<|.kj<|.j9<|.j9<|.j9<|.j8<|.cc (azs c.2.1.2.1 d.2.1.1) λam=>.cc (azr al am) λan=>.lit 13000 2<|.kj<|.j9<|.ka<|.ka<|.j8<|.cc (azs c.2.1.2.2 d.2.2.1) λao=>.cc (azr an ao) λap=>.lit 13000 3<|.kl<|.cc (bzb ap.Lo) λaq=>.cc (bzb ap.Hi) λar=>.j9<|.j8<|.lit 15000 1<|.kj<|.unroll 4<|.kj<|.j9<|.j8<|.j8<|.j9<|.cc (azs c.2.1.1 d.1.2.1) λau=>.cc (azr (⟨0,0⟩:az0) au) λav=>.lit 13000 1<|.kj<|.j9<|.j9<|.j9<|.j9<|.cc (azs c.2.1.2.1 d.2.1.2.1) λaw=>.cc (azr av aw) λax=>.lit 13000 2<|.kj<|.j9<|.ka<|.ka<|.j9<|.cc (azs c.2.1.2.2 d.2.2.2.1) λay=>.cc (azr ax ay) λaz=>.lit 13000 3<|.kl<|.cc (bzb az.Lo) λa0=>.cc (bzb az.Hi) λa1=>.j9<|.j9<|.lit 15000 2<|.kj<|.unroll 4<|.kj<|.j9<|.j8<|.j8<|.ka<|.cc (azs c.2.1.1 d.1.2.2) λa2=>.cc (azr (⟨0,0⟩:az0) a2) λa3=>.lit 13000 1<|.kj<|.j9<|.j9<|.j9<|.ka<|.cc (azs c.2.1.2.1 d.2.1.2.2) λa4=>.cc (azr a3 a4) λa5=>.lit 13000 2<|.kj<|.j9<|.ka<|.ka<|.ka<|.cc (azs c.2.1.2.2 d.2.2.2.2) λa6=>.cc (azr a5 a6) λa7=>.lit 13000 3<|.kl<|.cc (bzb a7.Lo) λa8=>.cc (bzb a7.Hi) λa9=>.j9<|.ka<|.lit 15000 3<|.kl<|.lit 16000 2<|.kj<|.unroll 4<|.kj<|.unroll 4<|.kj<|.ka<|.j8<|.j8<|.j8<|.cc (azs c.2.2.1 d.1.1) λba=>.cc (azr (⟨0,0⟩:az0) ba) λbb=>.lit 13000 1<|.kj<|.ka<|.j9<|.j9<|.j8<|.cc (azs c.2.2.2.1 d.2.1.1) λbc=>.cc (azr bb bc) λbd=>.lit 13000 2<|.kj<|.ka<|.ka<|.ka<|.j8<|.cc (azs c.2.2.2.2 d.2.2.1) λbe=>.cc (azr bd be) λbf=>.lit 13000 3<|.kl<|.cc (bzb bf.Lo) λbg=>.cc (bzb bf.Hi) λbh=>.ka<|.j8<|.lit 15000 1<|.kj<|.unroll 4<|.kj<|.ka<|.j8<|.j8<|.j9<|.cc (azs c.2.2.1 d.1.2.1) λbi=>.cc (azr (⟨0,0⟩:az0) bi) λbj=>.lit 13000 1<|.kj<|.ka<|.j9<|.j9<|.j9<|.cc (azs c.2.2.2.1 d.2.1.2.1) λbk=>.cc (azr bj bk) λbl=>.lit 13000 2<|.kj<|.ka<|.ka<|.ka<|.j9<|.cc (azs c.2.2.2.2 d.2.2.2.1) λbm=>.cc (azr bl bm) λbn=>.lit 13000 3<|.kl<|.cc (bzb bn.Lo) λbo=>.cc (bzb bn.Hi) λbp=>.ka<|.j9<|.lit 15000 2<|.kj<|.unroll 4<|.kj<|.ka<|.j8<|.j8<|.ka<|.cc (azs c.2.2.1 d.1.2.2) λbq=>.cc (azr (⟨0,0⟩:az0) bq) λbs=>.lit 13000 1<|.kj<|.ka<|.j9<|.j9<|.ka<|.cc (azs c.2.2.2.1 d.2.1.2.2) λbt=>.cc (azr bs bt) λbu=>.lit 13000 2<|.kj<|.ka<|.ka<|.ka<|.ka<|.cc (azs c.2.2.2.2 d.2.2.2.2) λbv=>.cc (azr bu bv) λbw=>.lit 13000 3<|.kl<|.cc (bzb bw.Lo) λbx=>.cc (bzb bw.Hi) λbz=>.ka<|.ka<|.lit 15000 3<|.kl<|.lit 16000 3<|.kl<|.km (((⟨k,m⟩:az0),(⟨aa,ab⟩:az0),(⟨ai,aj⟩:az0)),((⟨aq,ar⟩:az0),(⟨a0,a1⟩:az0),(⟨a8,a9⟩:az0)),((⟨bg,bh⟩:az0),(⟨bo,bp⟩:az0),(⟨bx,bz⟩:az0)))
def xzx (c)(d):=
 mkD Tryz.func307 (ozk c d) 0 [.pure (bzl c),.pure (bzl d)] [] (λr=>.pure (bzl r)) XL
def tz8 (c:B5)(d:B2):T B2:=
 .unroll 4<|.kj<|.unroll 4<|.kj<|.j8<|.j8<|.j8<|.j8<|.cc (azs c.1.1 d.1) λe=>.cc (azr (⟨0,0⟩:az0) e) λf=>.j8<|.lit 9000 1<|.kj<|.j8<|.j8<|.j9<|.j9<|.cc (azs c.1.2.1 d.2.1) λg=>.cc (azr f g) λh=>.j8<|.lit 9000 2<|.kj<|.j8<|.j8<|.ka<|.ka<|.cc (azs c.1.2.2 d.2.2) λi=>.cc (azr h i) λj=>.j8<|.lit 9000 3<|.kl<|.lit 10000 1<|.kj<|.unroll 4<|.kj<|.j9<|.j9<|.j8<|.j8<|.cc (azs c.2.1.1 d.1) λk=>.cc (azr (⟨0,0⟩:az0) k) λm=>.j9<|.lit 9000 1<|.kj<|.j9<|.j9<|.j9<|.j9<|.cc (azs c.2.1.2.1 d.2.1) λn=>.cc (azr m n) λs=>.j9<|.lit 9000 2<|.kj<|.j9<|.j9<|.ka<|.ka<|.cc (azs c.2.1.2.2 d.2.2) λt=>.cc (azr s t) λw=>.j9<|.lit 9000 3<|.kl<|.lit 10000 2<|.kj<|.unroll 4<|.kj<|.ka<|.ka<|.j8<|.j8<|.cc (azs c.2.2.1 d.1) λy=>.cc (azr (⟨0,0⟩:az0) y) λz=>.ka<|.lit 9000 1<|.kj<|.ka<|.ka<|.j9<|.j9<|.cc (azs c.2.2.2.1 d.2.1) λaa=>.cc (azr z aa) λab=>.ka<|.lit 9000 2<|.kj<|.ka<|.ka<|.ka<|.ka<|.cc (azs c.2.2.2.2 d.2.2) λac=>.cc (azr ab ac) λad=>.ka<|.lit 9000 3<|.kl<|.lit 10000 3<|.kl<|.km (j,w,ad)
def Czd (c)(d):=
 mkD Tryz.func323 (tz8 c d) 0 [.pure (bzl c),.pure (az3 d)] [] (λr=>.pure (az3 r)) XL
def zzi (c:B2)(d:B2):T B2:=
 .unroll 4<|.kj<|.j8<|.j8<|.cc (azr c.1 d.1) λe=>.j8<|.lit 6000 1<|.kj<|.j9<|.j9<|.cc (azr c.2.1 d.2.1) λf=>.j9<|.lit 6000 2<|.kj<|.ka<|.ka<|.cc (azr c.2.2 d.2.2) λg=>.ka<|.lit 6000 3<|.kl<|.km (e,f,g)
def Izg (c)(d):=
 mkD Tryz.func322 (zzi c d) 0 [.pure (az3 c),.pure (az3 d)] [] (λr=>.pure (az3 r)) XL
def jzg (c:B2)(d:Int)(e:Int)(f:Int)(g:Int)(h:Int)(i:Int)(j:Int)(k:Int)(m:Int)(n:Int)(s:Int)(t:Int)(w:Int)(y:Int)(z:Int)(aa:Int)(ab:Int)(ac:Int)(ad:Int)(ae:Int)(af:Int)(ag:Int)(ah:Int)(ai:Int):T (B2×Int×Int×Int×Int×Int×Int×Int×Int×Int×Int×Int×Int×Int×Int×Int×Int×Int×Int×Int×Int×Int×Int×Int×Int):=
 .cc (Czd (((⟨d,e⟩:az0),(⟨f,g⟩:az0),(⟨h,i⟩:az0)),((⟨j,k⟩:az0),(⟨m,n⟩:az0),(⟨s,t⟩:az0)),((⟨w,y⟩:az0),(⟨z,aa⟩:az0),(⟨ab,ac⟩:az0))) ((⟨c.1.Lo,c.1.Hi⟩:az0),(⟨c.2.1.Lo,c.2.1.Hi⟩:az0),(⟨c.2.2.Lo,c.2.2.Hi⟩:az0))) λaj=>.cc (Izg ((⟨ad,ae⟩:az0),(⟨af,ag⟩:az0),(⟨ah,ai⟩:az0)) aj) λak=>.km (ak,d,e,f,g,h,i,j,k,m,n,s,t,w,y,z,aa,ab,ac,ad,ae,af,ag,ah,ai)
def nzd (c)(d)(e)(f)(g)(h)(i)(j)(k)(m)(n)(s)(t)(w)(y)(z)(aa)(ab)(ac)(ad)(ae)(af)(ag)(ah)(ai):=
 mkD Tryz.func321 (jzg c d e f g h i j k m n s t w y z aa ab ac ad ae af ag ah ai) 1 [.pure (az3 c),XM 0] [(0,.box [pz d,pz e,pz f,pz g,pz h,pz i,pz j,pz k,pz m,pz n,pz s,pz t,pz w,pz y,pz z,pz aa,pz ab,pz ac,pz ad,pz ae,pz af,pz ag,pz ah,pz ai])] (λr=>.pure (az3 r.1)) (λr=>[(0,.box [pz r.2.1,pz r.2.2.1,pz r.2.2.2.1,pz r.2.2.2.2.1,pz r.2.2.2.2.2.1,pz r.2.2.2.2.2.2.1,pz r.2.2.2.2.2.2.2.1,pz r.2.2.2.2.2.2.2.2.1,pz r.2.2.2.2.2.2.2.2.2.1,pz r.2.2.2.2.2.2.2.2.2.2.1,pz r.2.2.2.2.2.2.2.2.2.2.2.1,pz r.2.2.2.2.2.2.2.2.2.2.2.2.1,pz r.2.2.2.2.2.2.2.2.2.2.2.2.2.1,pz r.2.2.2.2.2.2.2.2.2.2.2.2.2.2.1,pz r.2.2.2.2.2.2.2.2.2.2.2.2.2.2.2.1,pz r.2.2.2.2.2.2.2.2.2.2.2.2.2.2.2.2.1,pz r.2.2.2.2.2.2.2.2.2.2.2.2.2.2.2.2.2.1,pz r.2.2.2.2.2.2.2.2.2.2.2.2.2.2.2.2.2.2.1,pz r.2.2.2.2.2.2.2.2.2.2.2.2.2.2.2.2.2.2.2.1,pz r.2.2.2.2.2.2.2.2.2.2.2.2.2.2.2.2.2.2.2.2.1,pz r.2.2.2.2.2.2.2.2.2.2.2.2.2.2.2.2.2.2.2.2.2.1,pz r.2.2.2.2.2.2.2.2.2.2.2.2.2.2.2.2.2.2.2.2.2.2.1,pz r.2.2.2.2.2.2.2.2.2.2.2.2.2.2.2.2.2.2.2.2.2.2.2.1,pz r.2.2.2.2.2.2.2.2.2.2.2.2.2.2.2.2.2.2.2.2.2.2.2.2])])
def tzh (c:bz2)(d:bz2):T bz2:=
 .cc (rzz c) λe=>.cc (xzx c.R d.R) λf=>.call (nzd d.T e.1 e.2.1 e.2.2.1 e.2.2.2.1 e.2.2.2.2.1 e.2.2.2.2.2.1 e.2.2.2.2.2.2.1 e.2.2.2.2.2.2.2.1 e.2.2.2.2.2.2.2.2.1 e.2.2.2.2.2.2.2.2.2.1 e.2.2.2.2.2.2.2.2.2.2.1 e.2.2.2.2.2.2.2.2.2.2.2.1 e.2.2.2.2.2.2.2.2.2.2.2.2.1 e.2.2.2.2.2.2.2.2.2.2.2.2.2.1 e.2.2.2.2.2.2.2.2.2.2.2.2.2.2.1 e.2.2.2.2.2.2.2.2.2.2.2.2.2.2.2.1 e.2.2.2.2.2.2.2.2.2.2.2.2.2.2.2.2.1 e.2.2.2.2.2.2.2.2.2.2.2.2.2.2.2.2.2.1 e.2.2.2.2.2.2.2.2.2.2.2.2.2.2.2.2.2.2.1 e.2.2.2.2.2.2.2.2.2.2.2.2.2.2.2.2.2.2.2.1 e.2.2.2.2.2.2.2.2.2.2.2.2.2.2.2.2.2.2.2.2.1 e.2.2.2.2.2.2.2.2.2.2.2.2.2.2.2.2.2.2.2.2.2.1 e.2.2.2.2.2.2.2.2.2.2.2.2.2.2.2.2.2.2.2.2.2.2.1 e.2.2.2.2.2.2.2.2.2.2.2.2.2.2.2.2.2.2.2.2.2.2.2) [(0,256)] λg=>.km (⟨(f.1,f.2.1,f.2.2),g.1⟩:bz2)
def jzf (c)(d):=
 mkD Tryz.func283 (tzh c d) 0 [.pure (bzu c),.pure (bzu d)] [] (λr=>.pure (bzu r)) XL
def yzl (c:Int)(d:az0):T bz2:=
 .cut 2 (λ(e:Be)=>⟨[(4,XM 0),(5,XM 1)],[(0,.box [pz 0,pz 0,pz 0,pz 0,pz 0,pz 0,pz 0,pz 0,pz 0,pz 0,pz 0,pz 0,pz 0,pz 0,pz 0,pz 0,pz 0,pz 0,pz 0,pz 0,pz 0,pz 0,pz 0,pz 0]),(1,.box [pz e.1,pz e.2.1,pz e.2.2.1,pz e.2.2.2.1,pz e.2.2.2.2.1,pz e.2.2.2.2.2])],[],2⟩) (.cas 2000 c 0 (.j8<|.oo (d.Lo,d.Hi,0,0,0,0)) (.cas 2000 c 1 (.j9<|.oo (0,0,d.Lo,d.Hi,0,0)) (.cas 2000 c 2 (.ka<|.oo (0,0,0,0,d.Lo,d.Hi)) (.stop)))) λe=>.cc (rzy ((⟨e.1,e.2.1⟩:az0),(⟨e.2.2.1,e.2.2.2.1⟩:az0),(⟨e.2.2.2.2.1,e.2.2.2.2.2⟩:az0))) λf=>.km f
def Iz7 (c)(d):=
 mkD Tryz.func319 (yzl c d) 0 [pz c,.pure (azb d)] [] (λr=>.pure (bzu r)) XL
def ozh (c:az0):T Int:=
 .cc (czi c) λd=>.br (!d) (.km 0) (.km (qu.wrap (c.Hi-c.Lo)))
def ozg (c):=
 mkD Tryz.func363 (ozh c) 0 [.pure (azb c)] [] pz XL
def qz1 (c:Int):T Int:=
 .km (qu.wrap (((BitVec.ofInt 64 c&&&BitVec.ofInt 64 65535).toNat:Int)))
def kzb (c):=
 mkD Tryz.func366 (qz1 c) 0 [pz c] [] pz XL
def oz7 (c:Int):T (Bh×Bh):=
 .ix 0 11 rfl<|.ix 0 11 rfl<|.cc (bzc (qu.wrap (c * 6746518852)) 16) λd=>.kb<|.cc (bzj (qu.wrap (c * 6746518853)) 16) λe=>.kb<|.unroll 10<|.kj<|.lit 8002 1<|.kb<|.kb<|.cc (bzc (qu.wrap (d * d)) 30) λf=>.kc<|.lit 9002 1<|.kb<|.kb<|.cc (bzj (qu.wrap (e * e)) 30) λg=>.kc<|.lit 7001 3<|.kj<|.lit 8002 2<|.kc<|.kb<|.cc (bzc (qu.wrap (f * d)) 30) λh=>.kd<|.lit 9002 2<|.kc<|.kb<|.cc (bzj (qu.wrap (g * e)) 30) λi=>.kd<|.lit 7001 4<|.kj<|.lit 8002 3<|.kd<|.kb<|.cc (bzc (qu.wrap (h * d)) 30) λj=>.ke<|.lit 9002 3<|.kd<|.kb<|.cc (bzj (qu.wrap (i * e)) 30) λk=>.ke<|.lit 7001 5<|.kj<|.lit 8002 4<|.ke<|.kb<|.cc (bzc (qu.wrap (j * d)) 30) λm=>.kf<|.lit 9002 4<|.ke<|.kb<|.cc (bzj (qu.wrap (k * e)) 30) λn=>.kf<|.lit 7001 6<|.kj<|.lit 8002 5<|.kf<|.kb<|.cc (bzc (qu.wrap (m * d)) 30) λs=>.kg<|.lit 9002 5<|.kf<|.kb<|.cc (bzj (qu.wrap (n * e)) 30) λt=>.kg<|.lit 7001 7<|.kj<|.lit 8002 6<|.kg<|.kb<|.cc (bzc (qu.wrap (s * d)) 30) λw=>.kh<|.lit 9002 6<|.kg<|.kb<|.cc (bzj (qu.wrap (t * e)) 30) λy=>.kh<|.lit 7001 8<|.kj<|.lit 8002 7<|.kh<|.kb<|.cc (bzc (qu.wrap (w * d)) 30) λz=>.ki<|.lit 9002 7<|.kh<|.kb<|.cc (bzj (qu.wrap (y * e)) 30) λaa=>.ki<|.lit 7001 9<|.kj<|.lit 8002 8<|.ki<|.kb<|.cc (bzc (qu.wrap (z * d)) 30) λab=>.ix 9 11 rfl<|.lit 9002 8<|.ki<|.kb<|.cc (bzj (qu.wrap (aa * e)) 30) λac=>.ix 9 11 rfl<|.lit 7001 10<|.kj<|.lit 8002 9<|.ix 9 11 rfl<|.kb<|.cc (bzc (qu.wrap (ab * d)) 30) λad=>.ix 10 11 rfl<|.lit 9002 9<|.ix 9 11 rfl<|.kb<|.cc (bzj (qu.wrap (ac * e)) 30) λae=>.ix 10 11 rfl<|.lit 7001 11<|.kl<|.km ((1073741824,d,f,h,j,m,s,w,z,ab,ad),(1073741824,e,g,i,k,n,t,y,aa,ac,ae))
def oz6 (c):=
 mkD Tryz.func371 (oz7 c) 0 [pz c] [] (λr=>.tup [.pure (jzr r.1),.pure (jzr r.2)]) XL
def qz0 (c:Int)(d:Int):T Int:=
 .grd (d≠0)<|.km (qu.wrap ((qu.wrap ((qu.wrap (c+d))-1)).tdiv d))
def dzi (c)(d):=
 mkD Tryz.func373 (qz0 c d) 0 [pz c,pz d] [] pz XL
def jzx (c:A1):T Int:=let d:=(c.length:Int);.loop (λ(e:Aw)=>⟨[(3,pz e.1),(4,pz e.2.1),(7,XK 1 az2 c),(8,pz d),(9,pz e.2.2)],[],[],0⟩) (.exit 0) (λ(e:Int)=>⟨[(3,pz e)],[],[],0⟩) (λe=>.br (qw (e.2.2<d)) (.gh e.2.2 c.length<|.nn ((qu.wrap (e.1+(qu.wrap (e.2.1 * (c.getD (XI e.2.2) qv))))),(qu.wrap (0-e.2.1)),(qu.wrap (e.2.2+1)))) (.oo e.1)) (0,1,0) [] λe=>.km e
def czz (c):=
 mkD Tryz.func372 (jzx c) 0 [XK 1 az2 c] [] pz XL
def lzy (c:Int)(d:Int):T az0:=
 .cc (bzc c 14) λe=>.cc (bzj d 14) λf=>.km (⟨(max 0 e),(min 65536 f)⟩:az0)
def lzx (c)(d):=
 mkD Tryz.func374 (lzy c d) 0 [pz c,pz d] [] (λr=>.pure (azb r)) XL
def yzk (c:Int):T az0:=
 .cc (oz6 c) λd=>.kb<|.kd<|.cc (dzi d.2.2.2.2.1 6) λe=>.kf<|.ok ((120:Int)≠0) (by decide)<|.kh<|.cc (dzi d.2.2.2.2.2.2.2.2.1 5040) λf=>let g:=([d.1.2.1,e,(qu.wrap (d.1.2.2.2.2.2.1.tdiv 120)),f]:A1);
 .conv 2011 (cz0 1 az2 g 2)<|.cc (czz g) λh=>.kb<|.kd<|.ok ((6:Int)≠0) (by decide)<|.kf<|.cc (dzi d.2.2.2.2.2.2.1 120) λi=>.kh<|.ok ((5040:Int)≠0) (by decide)<|.ix 9 11 rfl<|.cc (dzi d.2.2.2.2.2.2.2.2.2.2.1 362880) λj=>let k:=([d.2.2.1,(qu.wrap (d.1.2.2.2.1.tdiv 6)),i,(qu.wrap (d.1.2.2.2.2.2.2.2.1.tdiv 5040)),j]:A1);
 .conv 3014 (cz0 1 az2 k 2)<|.cc (czz k) λm=>.cc (lzx h m) λn=>.km n
def Iz6 (c):=
 mkD Tryz.func369 (yzk c) 0 [pz c] [] (λr=>.pure (azb r)) XL
def szl (c:Int):T az0:=
 .cc (oz6 c) λd=>.kc<|.cc (dzi d.2.2.2.1 2) λe=>.ke<|.ok ((24:Int)≠0) (by decide)<|.kg<|.cc (dzi d.2.2.2.2.2.2.2.1 720) λf=>.ki<|.ok ((40320:Int)≠0) (by decide)<|.ix 10 11 rfl<|.cc (dzi d.2.2.2.2.2.2.2.2.2.2.2 3628800) λg=>let h:=([1073741824,e,(qu.wrap (d.1.2.2.2.2.1.tdiv 24)),f,(qu.wrap (d.1.2.2.2.2.2.2.2.2.1.tdiv 40320)),g]:A1);
 .conv 2015 (cz0 1 az2 h 2)<|.cc (czz h) λi=>.kc<|.ok ((2:Int)≠0) (by decide)<|.ke<|.cc (dzi d.2.2.2.2.2.1 24) λj=>.kg<|.ok ((720:Int)≠0) (by decide)<|.ki<|.cc (dzi d.2.2.2.2.2.2.2.2.2.1 40320) λk=>let m:=([1073741824,(qu.wrap (d.1.2.2.1.tdiv 2)),j,(qu.wrap (d.1.2.2.2.2.2.2.1.tdiv 720)),k]:A1);
 .conv 3012 (cz0 1 az2 m 2)<|.cc (czz m) λn=>.cc (lzx i n) λs=>.km s
def Bzz (c):=
 mkD Tryz.func370 (szl c) 0 [pz c] [] (λr=>.pure (azb r)) XL
def vzk (c:Int):T az0:=
 .br (qw (c<=8192)) (.cc (Iz6 c) λd=>.km d) (.cc (Bzz (qu.wrap (16384-c))) λd=>.km d)
def kz9 (c):=
 mkD Tryz.func367 (vzk c) 0 [pz c] [] (λr=>.pure (azb r)) XL
def tz6 (c:az0):T az0:=
 .cc (czi c) λd=>.br (!d) (.km (⟨0,0⟩:az0)) (.km (⟨(qu.wrap (0-c.Hi)),(qu.wrap (0-c.Lo))⟩:az0))
def nz7 (c):=
 mkD Tryz.func355 (tz6 c) 0 [.pure (azb c)] [] (λr=>.pure (azb r)) XL
def Dz8 (c:Int):T az0:=
 .cc (kzb c) λd=>let e:=d.tmod 16384;let f:=qu.wrap (d.tdiv 16384);let g:=qu.wrap (16384-e);
 .ok ((16384:Int)≠0) (by decide)<|.ok ((16384:Int)≠0) (by decide)<|.br (f==0) (.cc (kz9 e) λh=>.km h) (.br (f==1) (.cc (kz9 g) λh=>.km h) (.br (f==2) (.cc (kz9 e) λh=>.cc (nz7 h) λi=>.km i) (.cc (kz9 g) λh=>.cc (nz7 h) λi=>.km i)))
def vzj (c):=
 mkD Tryz.func360 (Dz8 c) 0 [pz c] [] (λr=>.pure (azb r)) XL
def Dz7 (c:Int):T az0:=
 .cc (kzb c) λd=>.cc (vzj (qu.wrap (d+16384))) λe=>.km e
def Dz6 (c):=
 mkD Tryz.func359 (Dz7 c) 0 [pz c] [] (λr=>.pure (azb r)) XL
def qzg (c:az0)(d:az0):T az0:=
 .cc (jzs c d) λe=>.br (!e) (.km (⟨0,0⟩:az0)) (.km (⟨(min c.Lo d.Lo),(max c.Hi d.Hi)⟩:az0))
def fzm (c)(d):=
 mkD Tryz.func364 (qzg c d) 0 [.pure (azb c),.pure (azb d)] [] (λr=>.pure (azb r)) XL
def tz3 (c:az0)(d:Int):T Bool:=
 .cc (czi c) λe=>.br e (.br (qw (c.Lo<=d)) (.km (qw (d<=c.Hi))) (.km false)) (.km false)
def Cz5 (c)(d):=
 mkD Tryz.func368 (tz3 c d) 0 [.pure (azb c),pz d] [] XJ XL
def vzl (c:az0)(d:Int):T Bool:=
 .cc (kzb (qu.wrap (d-c.Lo))) λe=>.cc (Cz5 c (qu.wrap (c.Lo+e))) λf=>.km f
def kza (c)(d):=
 mkD Tryz.func365 (vzl c d) 0 [.pure (azb c),pz d] [] XJ XL
def yzj (c:az0)(d:Int)(e:Int):T az0:=
 .cc (czi c) λf=>.br (!f) (.km (⟨0,0⟩:az0)) (.cc (ozg c) λg=>.br (qw (g>=65536)) (.km (⟨(-65536),65536⟩:az0)) (.cc (Dz6 c.Lo) λh=>.cc (Dz6 c.Hi) λi=>.cc (fzm h i) λj=>.cut 0 (λ(k:Aq)=>⟨[(3,pz e),(4,XM 0),(8,XM 1),(9,XM 2)],[(0,.box [pz c.Lo,pz c.Hi]),(1,.box [pz 0,pz 0]),(2,.box [pz k.1,pz k.2])],[],3⟩) (.cc (kza c d) λk=>.br k (.cc (dz7 65536) λm=>.cc (fzm j m) λn=>.oo (n.Lo,n.Hi)) (.oo (j.Lo,j.Hi))) λk=>.cut 0 (λ(m:Aq)=>⟨[(8,XM 0),(9,XM 1)],[(0,.box [pz 0,pz 0]),(1,.box [pz m.1,pz m.2])],[],2⟩) (.cc (kza c e) λm=>.br m (.cc (dz7 (-65536)) λn=>.cc (fzm (⟨k.1,k.2⟩:az0) n) λs=>.oo (s.Lo,s.Hi)) (.oo (k.1,k.2))) λm=>.km (⟨m.1,m.2⟩:az0)))
def Iz5 (c)(d)(e):=
 mkD Tryz.func358 (yzj c d e) 0 [.pure (azb c),.func 359 [] [],pz d,pz e] [] (λr=>.pure (azb r)) XL
def pzy (c:az0):T az0:=
 .cc (Iz5 c 0 32768) λd=>.km d
def yzh (c):=
 mkD Tryz.func353 (pzy c) 0 [.pure (azb c)] [] (λr=>.pure (azb r)) XL
def szm (c:az0)(d:Int)(e:Int):T az0:=
 .cc (czi c) λf=>.br (!f) (.km (⟨0,0⟩:az0)) (.cc (ozg c) λg=>.br (qw (g>=65536)) (.km (⟨(-65536),65536⟩:az0)) (.cc (vzj c.Lo) λh=>.cc (vzj c.Hi) λi=>.cc (fzm h i) λj=>.cut 0 (λ(k:Aq)=>⟨[(3,pz e),(4,XM 0),(8,XM 1),(9,XM 2)],[(0,.box [pz c.Lo,pz c.Hi]),(1,.box [pz 0,pz 0]),(2,.box [pz k.1,pz k.2])],[],3⟩) (.cc (kza c d) λk=>.br k (.cc (dz7 65536) λm=>.cc (fzm j m) λn=>.oo (n.Lo,n.Hi)) (.oo (j.Lo,j.Hi))) λk=>.cut 0 (λ(m:Aq)=>⟨[(8,XM 0),(9,XM 1)],[(0,.box [pz 0,pz 0]),(1,.box [pz m.1,pz m.2])],[],2⟩) (.cc (kza c e) λm=>.br m (.cc (dz7 (-65536)) λn=>.cc (fzm (⟨k.1,k.2⟩:az0) n) λs=>.oo (s.Lo,s.Hi)) (.oo (k.1,k.2))) λm=>.km (⟨m.1,m.2⟩:az0)))
def Cz0 (c)(d)(e):=
 mkD Tryz.func358 (szm c d e) 0 [.pure (azb c),.func 360 [] [],pz d,pz e] [] (λr=>.pure (azb r)) XL
def pzz (c:az0):T az0:=
 .cc (Cz0 c 16384 49152) λd=>.km d
def yzi (c):=
 mkD Tryz.func354 (pzz c) 0 [.pure (azb c)] [] (λr=>.pure (azb r)) XL
def wzc (c:Int)(d:az0):T B5:=let e:=(⟨d.Lo,d.Hi⟩:az0);.cc (czi d) λf=>.br (!f) (.km (((⟨0,0⟩:az0),(⟨0,0⟩:az0),(⟨0,0⟩:az0)),((⟨0,0⟩:az0),(⟨0,0⟩:az0),(⟨0,0⟩:az0)),((⟨0,0⟩:az0),(⟨0,0⟩:az0),(⟨0,0⟩:az0)))) (.cc (yzh e) λg=>.cc (yzi e) λh=>.cc (nz7 h) λi=>.cc (dz7 65536) λj=>.cc (dz7 0) λk=>.br (c==0) (.km ((j,k,k),(k,g,i),(k,h,g))) (.br (c==1) (.km ((g,k,h),(k,j,k),(i,k,g))) (.br (c==2) (.km ((g,i,k),(h,g,k),(k,k,j))) (.km (((⟨0,0⟩:az0),(⟨0,0⟩:az0),(⟨0,0⟩:az0)),((⟨0,0⟩:az0),(⟨0,0⟩:az0),(⟨0,0⟩:az0)),((⟨0,0⟩:az0),(⟨0,0⟩:az0),(⟨0,0⟩:az0)))))))
def Ezw (c)(d):=
 mkD Tryz.func348 (wzc c d) 0 [pz c,.pure (azb d)] [] (λr=>.pure (bzl r)) XL
def Dzm (c:Int)(d:az0):T bz2:=
 .cc (Ezw c (⟨d.Lo,d.Hi⟩:az0)) λe=>.cc (pose_still_C) λf=>.km (⟨e,f⟩:bz2)
def Lzw (c)(d):=
 mkD Tryz.func336 (Dzm c d) 0 [pz c,.pure (azb d)] [] (λr=>.pure (bzu r)) XL
def Dza (c:Int)(d:az0):T bz2:=
 .cc (Lzw c (⟨d.Lo,d.Hi⟩:az0)) λe=>.km e
def Kzd (c)(d):=
 mkD Tryz.func318 (Dza c d) 0 [pz c,.pure (azb d)] [] (λr=>.pure (bzu r)) XL
def kzl (c:bz1)(d:az0):T bz2:=
 .cc (nz9 c.Xy) λe=>.cc (rzy ((⟨e.1.Lo,e.1.Hi⟩:az0),(⟨e.2.1.Lo,e.2.1.Hi⟩:az0),(⟨e.2.2.Lo,e.2.2.Hi⟩:az0))) λf=>let g:=(⟨f.R,f.T⟩:bz2);
 .split (((gzj c.Xl).o).isSome) (.cc (gzj c.Xl) λh=>.cc (Kzd h (⟨d.Lo,d.Hi⟩:az0)) λi=>.cc (jzf g i) λj=>.km j) (.split (((gzl c.Xl).o).isSome) (.cc (gzl c.Xl) λh=>.cc (Iz7 h d) λi=>.cc (jzf f i) λj=>.km j) (.cc (kz6 c.Xl) λh=>.cc (Kzc h d) λi=>.cc (jzf g (⟨i.R,i.T⟩:bz2)) λj=>.km j))
def rzo (c)(d):=
 mkD Tryz.func282 (kzl c d) 0 [.pure (aze c),.pure (azb d)] [] (λr=>.pure (bzu r)) XL
def kzn (c:azn)(d:Ag):T Ah:=let e:=encL 2 azb d;let f:=encL 12 aze c.Xa;let g:=(c.Xa.length:Int);.conv 1003 (Nz5 24 bzu 315 g.toNat (⟨(((⟨0,0⟩:az0),(⟨0,0⟩:az0),(⟨0,0⟩:az0)),((⟨0,0⟩:az0),(⟨0,0⟩:az0),(⟨0,0⟩:az0)),((⟨0,0⟩:az0),(⟨0,0⟩:az0),(⟨0,0⟩:az0))),((⟨0,0⟩:az0),(⟨0,0⟩:az0),(⟨0,0⟩:az0))⟩:bz2))<|.grd (0<=g/\g<=g/\g<=9223372036854775807/\g * 192<=140737488355328)<|.loop (λ(h:(Ah×Int))=>⟨[(1,.pure e),(5,.vec 0),(13,.pure f),(14,pz g),(15,pz h.2)],[(0,vecO 24 bzu h.1 315)],[],1⟩) (.exit 0) (λ(h:Ah)=>⟨[(5,.vec 0)],[(0,vecO 24 bzu h 315)],[],1⟩) (λh=>let i:=(h.2).toNat;let j:=c.Xa.getD i qv;let k:=j.Xt;.br (qw (h.2<g)) (.cut 0 (λ(m:Ah)=>⟨[(1,.pure e),(5,.vec 0),(13,.pure f),(14,pz g),(15,pz h.2)],[(0,vecO 24 bzu m 315)],[],1⟩) (.gh h.2 c.Xa.length<|.gh h.2 d.length<|.cc (rzo j (d.getD i qv)) λm=>let n:=h.1.set i m;let s:=n.length;
 .gh h.2 h.1.length<|.conv 5009 (fzs 24 bzu h.1 315 i m)<|.gi (h.2) h.1.length<|.br (k !=(-1)) (.gg k s<|.gg h.2 s<|.call (jzf (n.getD (k.toNat) qv) (n.getD i qv)) [] λt=>.gh h.2 s<|.conv 7013 (fzs 24 bzu n 315 i t)<|.gi (h.2) s<|.oo (n.set i t)) (.oo n)) λm=>.nn (m,(qu.wrap (h.2+1)))) (.oo h.1)) ((qt g.toNat ((⟨(((⟨0,0⟩:az0),(⟨0,0⟩:az0),(⟨0,0⟩:az0)),((⟨0,0⟩:az0),(⟨0,0⟩:az0),(⟨0,0⟩:az0)),((⟨0,0⟩:az0),(⟨0,0⟩:az0),(⟨0,0⟩:az0))),((⟨0,0⟩:az0),(⟨0,0⟩:az0),(⟨0,0⟩:az0))⟩:bz2):bz2)),0) [] λh=>.km h
def rzq (c)(d):=
 mkD Tryz.func244 (kzn c d) 0 [.pure (dz0 c),XK 2 azb d] [] (λr=>XK 24 bzu r) XL
def xzf (c:bz9):T Bool:=let d:=encL 3 az1 c.Xb;let e:=(c.Xb.length:Int);.cut 2 (λ(f:Bool)=>⟨[(1,XM 0),(26,XJ f)],[(0,.box [pz c.Xp,pz c.Xs,.pure d])],[],1⟩) (.br (qw (c.Xs<1)) (.oo true) (.br (qw (c.Xs>1048576)) (.oo true) (.br (qw (e<1)) (.oo true) (.oo (qw (e>8)))))) λf=>.br f (.km false) (.loop (λ(g:Int)=>⟨[(28,.pure d),(29,pz e),(30,pz g)],[],[],0⟩) (.exit 0) XN (λg=>let h:=c.Xb.getD (g.toNat) qv;.br (qw (g<e)) (.gh g c.Xb.length<|.loop (λ(i:Int)=>⟨[(28,.pure d),(29,pz e),(30,pz g),(34,.pure (az1 h)),(35,pz i)],[],[],0⟩) (.exit 2) (λ(_:U0)=>⟨[(28,.pure d),(29,pz e),(30,pz g)],[],[],0⟩) (λi=>.br (qw (i<3)) (.gh i 3<|.name 8000 ((([h.1,h.2.1,h.2.2]:List Int).getD i.toNat 0)) λj=>.cut 0 (λ(k:Bool)=>⟨[(28,.pure d),(29,pz e),(30,pz g),(34,.pure (az1 h)),(35,pz i),(43,XJ k)],[],[],0⟩) (.br (qw (j<(-4194304))) (.oo true) (.oo (qw (j>4194304)))) λk=>.br k (.ff (.fin false)) (.nn (qu.wrap (i+1)))) (.oo .u))
 0 [] λ_=>.nn (qu.wrap (g+1))) (.oo .u))
 0 [] λ_=>.km true)
def Gz3 (c):=
 mkD Tryz.func286 (xzf c) 0 [.pure (azm c)] [] XJ XL
def zzp (c:bz2)(d:B2):T B2:=
 .cc (rzz c) λe=>.call (nzd d e.1 e.2.1 e.2.2.1 e.2.2.2.1 e.2.2.2.2.1 e.2.2.2.2.2.1 e.2.2.2.2.2.2.1 e.2.2.2.2.2.2.2.1 e.2.2.2.2.2.2.2.2.1 e.2.2.2.2.2.2.2.2.2.1 e.2.2.2.2.2.2.2.2.2.2.1 e.2.2.2.2.2.2.2.2.2.2.2.1 e.2.2.2.2.2.2.2.2.2.2.2.2.1 e.2.2.2.2.2.2.2.2.2.2.2.2.2.1 e.2.2.2.2.2.2.2.2.2.2.2.2.2.2.1 e.2.2.2.2.2.2.2.2.2.2.2.2.2.2.2.1 e.2.2.2.2.2.2.2.2.2.2.2.2.2.2.2.2.1 e.2.2.2.2.2.2.2.2.2.2.2.2.2.2.2.2.2.1 e.2.2.2.2.2.2.2.2.2.2.2.2.2.2.2.2.2.2.1 e.2.2.2.2.2.2.2.2.2.2.2.2.2.2.2.2.2.2.2.1 e.2.2.2.2.2.2.2.2.2.2.2.2.2.2.2.2.2.2.2.2.1 e.2.2.2.2.2.2.2.2.2.2.2.2.2.2.2.2.2.2.2.2.2.1 e.2.2.2.2.2.2.2.2.2.2.2.2.2.2.2.2.2.2.2.2.2.2.1 e.2.2.2.2.2.2.2.2.2.2.2.2.2.2.2.2.2.2.2.2.2.2.2) [(0,256)] λf=>.km f.1
def Izo (c)(d):=
 mkD Tryz.func287 (zzp c d) 0 [.pure (bzu c),.pure (az3 d)] [] (λr=>.pure (az3 r)) XL
open Go.Proofs
def xzg (c:bz9)(d:bz2):T B3:=let e:=(c.Xb.length:Int);.cc (Gz3 c) λf=>.br (!f) (.km nl) (.conv 3003 (Nz5 6 az3 285 e.toNat ((⟨0,0⟩:az0),(⟨0,0⟩:az0),(⟨0,0⟩:az0)))<|.grd (0<=e/\e<=e/\e<=9223372036854775807/\e * 48<=140737488355328)<|.loop (λ(g:(B3×Int))=>⟨[(3,XM 0),(5,.vec 1),(16,XK 3 az1 c.Xb),(17,pz e),(18,pz g.2)],[(0,.box [pz d.R.1.1.Lo,pz d.R.1.1.Hi,pz d.R.1.2.1.Lo,pz d.R.1.2.1.Hi,pz d.R.1.2.2.Lo,pz d.R.1.2.2.Hi,pz d.R.2.1.1.Lo,pz d.R.2.1.1.Hi,pz d.R.2.1.2.1.Lo,pz d.R.2.1.2.1.Hi,pz d.R.2.1.2.2.Lo,pz d.R.2.1.2.2.Hi,pz d.R.2.2.1.Lo,pz d.R.2.2.1.Hi,pz d.R.2.2.2.1.Lo,pz d.R.2.2.2.1.Hi,pz d.R.2.2.2.2.Lo,pz d.R.2.2.2.2.Hi,pz d.T.1.Lo,pz d.T.1.Hi,pz d.T.2.1.Lo,pz d.T.2.1.Hi,pz d.T.2.2.Lo,pz d.T.2.2.Hi]),(1,vecO 6 az3 g.1 285)],[],2⟩) (.exit 0) (λ(g:B3)=>⟨[(5,.vec 0)],[(0,vecO 6 az3 g 285)],[],1⟩) (λg=>let h:=(g.2).toNat;.br (qw (g.2<e)) (.gh g.2 c.Xb.length<|.cc (nz9 (c.Xb.getD h qv)) λi=>.cc (Izo (⟨d.R,d.T⟩:bz2) i) λj=>.gh g.2 g.1.length<|.conv 7007 (fzs 6 az3 g.1 285 h j)<|.gi (g.2) g.1.length<|.nn ((g.1.set h j),(qu.wrap (g.2+1)))) (.oo g.1)) ((qt e.toNat (((⟨0,0⟩:az0),(⟨0,0⟩:az0),(⟨0,0⟩:az0)):B2)),0) [] λg=>.km g)
def Gz4 (c)(d):=
 mkD Tryz.func246 (xzg c d) 0 [.pure (azm c),.pure (bzu d)] [] (λr=>XK 6 az3 r) XL
def jzz (a0:azd)(a1:Ag):T B4:=
 .cut 2 (λ(y12:Bool)=>⟨[(1,XK 2 azb a1),(2,XM 0),(19,XJ y12)],[(0,.box [XK 12 aze a0.Xe.Xa,XK 5 azk a0.Xe.Xi,XK 3 azm a0.Xc,XK 2 azu a0.Xj])],[],1⟩) (.call (rzp a0.Xe a1) [] λy13=>.br (!y13) (.km (.out true)) (.call (ezb (⟨a0.Xe,a0.Xc,a0.Xj⟩:azd)) [] λy14=>.km (.out (y14 !=0)))) λy12=>.br y12 (.km nl) (.call (rzq a0.Xe a1) [] λy16=>.conv 4003 (azao 1 (encL 6 az3) 223 ((a0.Xc.length:Int)).toNat nl (.lst 0 0 λ_=>.unk) (by kernel_rfl))<|.grd (0<=(a0.Xc.length:Int)/\(a0.Xc.length:Int)<=(a0.Xc.length:Int)/\(a0.Xc.length:Int)<=9223372036854775807/\(a0.Xc.length:Int) * 24<=140737488355328)<|.loop (λ(x53:(B4×Int))=>⟨[(5,XK 24 bzu y16),(6,.vec 0),(29,XK 3 azm a0.Xc),(30,pz (a0.Xc.length:Int)),(31,pz x53.2)],[(0,vecO 1 (encL 6 az3) x53.1 223)],[],1⟩) (.exit 0) (λ(y62:B4)=>⟨[(6,.vec 0)],[(0,vecO 1 (encL 6 az3) y62 223)],[],1⟩) (λx53=>.br (qw (x53.2<(a0.Xc.length:Int))) (.grd (0<=x53.2/\x53.2<(a0.Xc.length:Int))<|.call (pose_Identity_C) [] λy68=>.cut 0 (λ(y69:Bj)=>⟨[(5,XK 24 bzu y16),(6,.vec 0),(7,pz x53.2),(8,XM 1),(9,XM 2),(29,XK 3 azm a0.Xc),(30,pz (a0.Xc.length:Int)),(31,pz x53.2)],[(0,vecO 1 (encL 6 az3) x53.1 223),(1,.box [pz ((a0.Xc.getD (XI x53.2) qv).Xp),pz ((a0.Xc.getD (XI x53.2) qv).Xs),XK 3 az1 ((a0.Xc.getD (XI x53.2) qv).Xb)]),(2,.box [pz y69.1,pz y69.2.1,pz y69.2.2.1,pz y69.2.2.2.1,pz y69.2.2.2.2.1,pz y69.2.2.2.2.2.1,pz y69.2.2.2.2.2.2.1,pz y69.2.2.2.2.2.2.2.1,pz y69.2.2.2.2.2.2.2.2.1,pz y69.2.2.2.2.2.2.2.2.2.1,pz y69.2.2.2.2.2.2.2.2.2.2.1,pz y69.2.2.2.2.2.2.2.2.2.2.2.1,pz y69.2.2.2.2.2.2.2.2.2.2.2.2.1,pz y69.2.2.2.2.2.2.2.2.2.2.2.2.2.1,pz y69.2.2.2.2.2.2.2.2.2.2.2.2.2.2.1,pz y69.2.2.2.2.2.2.2.2.2.2.2.2.2.2.2.1,pz y69.2.2.2.2.2.2.2.2.2.2.2.2.2.2.2.2.1,pz y69.2.2.2.2.2.2.2.2.2.2.2.2.2.2.2.2.2.1,pz y69.2.2.2.2.2.2.2.2.2.2.2.2.2.2.2.2.2.2.1,pz y69.2.2.2.2.2.2.2.2.2.2.2.2.2.2.2.2.2.2.2.1,pz y69.2.2.2.2.2.2.2.2.2.2.2.2.2.2.2.2.2.2.2.2.1,pz y69.2.2.2.2.2.2.2.2.2.2.2.2.2.2.2.2.2.2.2.2.2.1,pz y69.2.2.2.2.2.2.2.2.2.2.2.2.2.2.2.2.2.2.2.2.2.2.1,pz y69.2.2.2.2.2.2.2.2.2.2.2.2.2.2.2.2.2.2.2.2.2.2.2])],[],3⟩) (.br (((a0.Xc.getD (XI x53.2) qv).Xp) !=(-1)) (.grd (0<=((a0.Xc.getD (XI x53.2) qv).Xp)/\((a0.Xc.getD (XI x53.2) qv).Xp)<(y16.length:Int))<|.km (.out ((y16.getD (((a0.Xc.getD (XI x53.2) qv).Xp).toNat) qv).R.1.1.Lo,(y16.getD (((a0.Xc.getD (XI x53.2) qv).Xp).toNat) qv).R.1.1.Hi,(y16.getD (((a0.Xc.getD (XI x53.2) qv).Xp).toNat) qv).R.1.2.1.Lo,(y16.getD (((a0.Xc.getD (XI x53.2) qv).Xp).toNat) qv).R.1.2.1.Hi,(y16.getD (((a0.Xc.getD (XI x53.2) qv).Xp).toNat) qv).R.1.2.2.Lo,(y16.getD (((a0.Xc.getD (XI x53.2) qv).Xp).toNat) qv).R.1.2.2.Hi,(y16.getD (((a0.Xc.getD (XI x53.2) qv).Xp).toNat) qv).R.2.1.1.Lo,(y16.getD (((a0.Xc.getD (XI x53.2) qv).Xp).toNat) qv).R.2.1.1.Hi,(y16.getD (((a0.Xc.getD (XI x53.2) qv).Xp).toNat) qv).R.2.1.2.1.Lo,(y16.getD (((a0.Xc.getD (XI x53.2) qv).Xp).toNat) qv).R.2.1.2.1.Hi,(y16.getD (((a0.Xc.getD (XI x53.2) qv).Xp).toNat) qv).R.2.1.2.2.Lo,(y16.getD (((a0.Xc.getD (XI x53.2) qv).Xp).toNat) qv).R.2.1.2.2.Hi,(y16.getD (((a0.Xc.getD (XI x53.2) qv).Xp).toNat) qv).R.2.2.1.Lo,(y16.getD (((a0.Xc.getD (XI x53.2) qv).Xp).toNat) qv).R.2.2.1.Hi,(y16.getD (((a0.Xc.getD (XI x53.2) qv).Xp).toNat) qv).R.2.2.2.1.Lo,(y16.getD (((a0.Xc.getD (XI x53.2) qv).Xp).toNat) qv).R.2.2.2.1.Hi,(y16.getD (((a0.Xc.getD (XI x53.2) qv).Xp).toNat) qv).R.2.2.2.2.Lo,(y16.getD (((a0.Xc.getD (XI x53.2) qv).Xp).toNat) qv).R.2.2.2.2.Hi,(y16.getD (((a0.Xc.getD (XI x53.2) qv).Xp).toNat) qv).T.1.Lo,(y16.getD (((a0.Xc.getD (XI x53.2) qv).Xp).toNat) qv).T.1.Hi,(y16.getD (((a0.Xc.getD (XI x53.2) qv).Xp).toNat) qv).T.2.1.Lo,(y16.getD (((a0.Xc.getD (XI x53.2) qv).Xp).toNat) qv).T.2.1.Hi,(y16.getD (((a0.Xc.getD (XI x53.2) qv).Xp).toNat) qv).T.2.2.Lo,(y16.getD (((a0.Xc.getD (XI x53.2) qv).Xp).toNat) qv).T.2.2.Hi))) (.km (.out (y68.R.1.1.Lo,y68.R.1.1.Hi,y68.R.1.2.1.Lo,y68.R.1.2.1.Hi,y68.R.1.2.2.Lo,y68.R.1.2.2.Hi,y68.R.2.1.1.Lo,y68.R.2.1.1.Hi,y68.R.2.1.2.1.Lo,y68.R.2.1.2.1.Hi,y68.R.2.1.2.2.Lo,y68.R.2.1.2.2.Hi,y68.R.2.2.1.Lo,y68.R.2.2.1.Hi,y68.R.2.2.2.1.Lo,y68.R.2.2.2.1.Hi,y68.R.2.2.2.2.Lo,y68.R.2.2.2.2.Hi,y68.T.1.Lo,y68.T.1.Hi,y68.T.2.1.Lo,y68.T.2.1.Hi,y68.T.2.2.Lo,y68.T.2.2.Hi)))) λy69=>.call (Gz4 (a0.Xc.getD (XI x53.2) qv) (⟨(((⟨y69.1,y69.2.1⟩:az0),(⟨y69.2.2.1,y69.2.2.2.1⟩:az0),(⟨y69.2.2.2.2.1,y69.2.2.2.2.2.1⟩:az0)),((⟨y69.2.2.2.2.2.2.1,y69.2.2.2.2.2.2.2.1⟩:az0),(⟨y69.2.2.2.2.2.2.2.2.1,y69.2.2.2.2.2.2.2.2.2.1⟩:az0),(⟨y69.2.2.2.2.2.2.2.2.2.2.1,y69.2.2.2.2.2.2.2.2.2.2.2.1⟩:az0)),((⟨y69.2.2.2.2.2.2.2.2.2.2.2.2.1,y69.2.2.2.2.2.2.2.2.2.2.2.2.2.1⟩:az0),(⟨y69.2.2.2.2.2.2.2.2.2.2.2.2.2.2.1,y69.2.2.2.2.2.2.2.2.2.2.2.2.2.2.2.1⟩:az0),(⟨y69.2.2.2.2.2.2.2.2.2.2.2.2.2.2.2.2.1,y69.2.2.2.2.2.2.2.2.2.2.2.2.2.2.2.2.2.1⟩:az0))),((⟨y69.2.2.2.2.2.2.2.2.2.2.2.2.2.2.2.2.2.2.1,y69.2.2.2.2.2.2.2.2.2.2.2.2.2.2.2.2.2.2.2.1⟩:az0),(⟨y69.2.2.2.2.2.2.2.2.2.2.2.2.2.2.2.2.2.2.2.2.1,y69.2.2.2.2.2.2.2.2.2.2.2.2.2.2.2.2.2.2.2.2.2.1⟩:az0),(⟨y69.2.2.2.2.2.2.2.2.2.2.2.2.2.2.2.2.2.2.2.2.2.2.1,y69.2.2.2.2.2.2.2.2.2.2.2.2.2.2.2.2.2.2.2.2.2.2.2⟩:az0))⟩:bz2)) [] λy70=>.grd (0<=x53.2/\x53.2<(x53.1.length:Int))<|.conv 11006 (fzs 1 (encL 6 az3) x53.1 223 (XI x53.2) y70)<|.grd ((x53.2).toNat<x53.1.length/\0<=(x53.2).toNat)<|.km (.next ((x53.1.set (XI x53.2) y70),(qu.wrap (x53.2+1))))) (.km (.out x53.1))) ((qt ((a0.Xc.length:Int)).toNat (nl:B3)),0) [] λy62=>.km y62)
def qzi (c)(d):=
 mkD Tryz.func203 (jzz c d) 0 [.pure (bzk c),XK 2 azb d] [] (λr=>XK 1 (encL 6 az3) r) XL
def oza (c:azd)(d:Ag):T (czk×Bool):=let e:=encL 2 azb d;let f:=(d.length:Int);let g:Nat×Res:=(0,.box [XK 12 aze c.Xe.Xa,XK 5 azk c.Xe.Xi,XK 3 azm c.Xc,XK 2 azu c.Xj]);.cut 2 (λ(h:Bool)=>⟨[(1,.pure e),(2,XM 0),(4,XM 1),(19,XJ h)],[g,(1,.box [.vec 2,.vec 3,.vec 4]),(2,.nilv),(3,.nilv),(4,.nilv)],[],5⟩) (.cc (ezb c) λh=>.br (h !=0) (.oo true) (.oo (f !=(c.Xe.Xa.length:Int)))) λh=>.br h (.km ((⟨nl,nl,nl⟩:czk),false)) (.loop (λ(i:Int)=>⟨[(1,.pure e),(2,XM 0),(4,XM 1),(21,.pure e),(22,pz f),(23,pz i)],[g,(1,.box [.vec 2,.vec 3,.vec 4]),(2,.nilv),(3,.nilv),(4,.nilv)],[],5⟩) (.exit 0) (λ(_:U0)=>⟨[(1,.pure e),(2,XM 0),(4,XM 1)],[g,(1,.box [.vec 2,.vec 3,.vec 4]),(2,.nilv),(3,.nilv),(4,.nilv)],[],5⟩) (λi=>.br (qw (i<f)) (.gh i d.length<|.cc (czi (d.getD (i.toNat) qv)) λj=>.br (!j) (.ff ((⟨nl,nl,nl⟩:czk),false)) (.nn (qu.wrap (i+1)))) (.oo .u))
 0 [] λ_=>.cc (Fzz c) λi=>.cc (qzi (⟨c.Xe,c.Xc,c.Xj⟩:azd) d) λj=>.km ((⟨c.Xc,i,j⟩:czk),true))
def oz9 (c)(d):=
 mkD Tryz.func165 (oza c d) 0 [.pure (bzk c),XK 2 azb d] [] (λr=>.tup [.pure (mz3 r.1),XJ r.2]) XL
def kzc (c:czk)(d:Int):T gze:=let e:=c.pairs.getD (d.toNat) qv;let f:=e.A;let g:=e.B;.gh d c.pairs.length<|.gh f c.points.length<|.gh f c.shapes.length<|.gh g c.points.length<|.gh g c.shapes.length<|.km (⟨(c.points.getD (f.toNat) qv),(c.points.getD (g.toNat) qv),(c.shapes.getD (f.toNat) qv).Xs,(c.shapes.getD (g.toNat) qv).Xs⟩:gze)
def pzb (c)(d):=
 mkD Tryz.func166 (kzc c d) 0 [.pure (mz3 c),pz d] [] (λr=>.pure (Dzd r)) XL
def Bzt (c:B3)(d:Int)(e:B3)(f:Int)(g:Ax):T (B3×B3×Int×Int×Ax):=
 .km (c,e,d,f,g)
def jz3 (c)(d)(e)(f)(g):=
 mkD Tryz.func205 (Bzt c d e f g) 0 [XK 6 az3 c,pz d,XK 6 az3 e,pz f,XK 3 az1 g] [] (λ_=>.func 247 [] [XM 0,XM 1,XM 2,XM 3,XM 4]) (λr=>[(0,.box [XK 6 az3 r.1]),(1,.box [XK 6 az3 r.2.1]),(2,.box [pz r.2.2.1]),(3,.box [pz r.2.2.2.1]),(4,.box [XK 3 az1 r.2.2.2.2])])
def Tzs (c:B3)(d:Int)(e:B3)(f:Int):T ez5:=
 .km (⟨(⟨c,d⟩:fzy),(⟨e,f⟩:fzy)⟩:ez5)
def Izn (c)(d)(e)(f):=
 mkD Tryz.func253 (Tzs c d e f) 0 [XK 6 az3 c,pz d,XK 6 az3 e,pz f] [] (λr=>.pure (qzb r)) XL
def uzg (c:B3):T Bool:=let d:=encL 6 az3 c;let e:=(c.length:Int);.cut 2 (λ(f:Bool)=>⟨[(0,.pure d),(14,XJ f)],[],[],0⟩) (.br (qw (e<1)) (.oo true) (.oo (qw (e>8)))) λf=>.br f (.km false) (.loop (λ(g:Int)=>⟨[(15,.pure d),(16,pz e),(17,pz g)],[],[],0⟩) (.exit 0) XN (λg=>let h:=c.getD (g.toNat) qv;let i:=az3 h;.br (qw (g<e)) (.gh g c.length<|.unroll 4<|.kj<|.j8<|.cut 0 (λ(j:Bool)=>⟨[(15,.pure d),(16,pz e),(17,pz g),(21,.pure i),(22,pz 0),(39,XJ j)],[],[],0⟩) (.br (qw ((h.1.Lo)<(-268435456))) (.oo true) (.br (qw ((h.1.Lo)>(h.1.Hi))) (.oo true) (.oo (qw ((h.1.Hi)>268435456))))) λj=>.br j (.ff false) (.lit 11000 1<|.kj<|.j9<|.cut 0 (λ(k:Bool)=>⟨[(15,.pure d),(16,pz e),(17,pz g),(21,.pure i),(22,pz 1),(39,XJ k)],[],[],0⟩) (.br (qw ((h.2.1.Lo)<(-268435456))) (.oo true) (.br (qw ((h.2.1.Lo)>(h.2.1.Hi))) (.oo true) (.oo (qw ((h.2.1.Hi)>268435456))))) λk=>.br k (.ff false) (.lit 11000 2<|.kj<|.ka<|.cut 0 (λ(m:Bool)=>⟨[(15,.pure d),(16,pz e),(17,pz g),(21,.pure i),(22,pz 2),(39,XJ m)],[],[],0⟩) (.br (qw ((h.2.2.Lo)<(-268435456))) (.oo true) (.br (qw ((h.2.2.Lo)>(h.2.2.Hi))) (.oo true) (.oo (qw ((h.2.2.Hi)>268435456))))) λm=>.br m (.ff false) (.lit 11000 3<|.kl<|.nn (qu.wrap (g+1)))))) (.oo .u))
 0 [] λ_=>.km true)
def ez4 (c):=
 mkD Tryz.func210 (uzg c) 0 [XK 6 az3 c] [] XJ XL
def Bz1 (c:fzy):T Bool:=
 .cc (ez4 c.points) λd=>.br d (.br (qw (0<=c.radius)) (.km (qw (c.radius<=1048576))) (.km false)) (.km false)
def Bz0 (c):=
 mkD Tryz.func310 (Bz1 c) 0 [.pure (Nz6 c)] [] XJ XL
def mzy (c:Aw):T Bool:=
 .loop (λ(d:Int)=>⟨[(5,.pure (az1 c)),(6,pz d)],[],[],0⟩) (.exit 0) XN (λd=>let e:=([c.1,c.2.1,c.2.2]:List Int).getD d.toNat 0;.br (qw (d<3)) (.gh d 3<|.cut 0 (λ(f:Bool)=>⟨[(5,.pure (az1 c)),(6,pz d),(14,XJ f)],[],[],0⟩) (.br (qw (e<(-16384))) (.oo true) (.oo (qw (e>16384)))) λf=>.br f (.ff false) (.nn (qu.wrap (d+1)))) (.oo .u))
 0 [] λ_=>.km true
def fzk (c):=
 mkD Tryz.func289 (mzy c) 0 [.pure (az1 c)] [] XJ XL
def pz1 (c:Aw):T Bool:=
 .cc (fzk c) λd=>.br d (.km (!((c.1==0)&&((c.2.1==0)&&((c.2.2==0)&&true))))) (.km false)
def fzw (c):=
 mkD Tryz.func249 (pz1 c) 0 [.pure (az1 c)] [] XJ XL
def Gzg (c:Aw):T Aw:=
 .km (c.1,c.2.1,c.2.2)
def szg (c):=
 mkD Tryz.func328 (Gzg c) 0 [.pure (az1 c)] [] (λ_=>.agg [.func 340 [] [XM 0],.func 342 [] []]) (λr=>[(0,.box [pz r.1,pz r.2.1,pz r.2.2])])
def xzk (c:Aw)(d:B2):T Aq:=let e:=qu.wrap (c.1 * d.1.Lo);let f:=qu.wrap (c.1 * d.1.Hi);let g:=qu.wrap (c.2.1 * d.2.1.Lo);let h:=qu.wrap (c.2.1 * d.2.1.Hi);let i:=qu.wrap (c.2.2 * d.2.2.Lo);let j:=qu.wrap (c.2.2 * d.2.2.Hi);.unroll 4<|.kj<|.j8<|.j8<|.j8<|.name 6004 ((qu.wrap (0+(min e f)))) λk=>.name 7004 ((qu.wrap (0+(max e f)))) λm=>.lit 8000 1<|.kj<|.j9<|.j9<|.j9<|.name 6004 ((qu.wrap (k+(min g h)))) λn=>.name 7004 ((qu.wrap (m+(max g h)))) λs=>.lit 8000 2<|.kj<|.ka<|.ka<|.ka<|.name 6004 ((qu.wrap (n+(min i j)))) λt=>.name 7004 ((qu.wrap (s+(max i j)))) λw=>.lit 8000 3<|.kl<|.km (t,w)
def xzj (c)(d):=
 mkD Tryz.func341 (xzk c d) 0 [.pure (az1 c),.pure (az3 d)] [] (λr=>.tup [pz r.1,pz r.2]) XL
def jz6 (c:B2)(d:Int)(e:Int)(f:Int):T Bc:=
 .cc (xzj (d,e,f) ((⟨c.1.Lo,c.1.Hi⟩:az0),(⟨c.2.1.Lo,c.2.1.Hi⟩:az0),(⟨c.2.2.Lo,c.2.2.Hi⟩:az0))) λg=>.km (g.1,d,e,f)
def pz7 (c)(d)(e)(f):=
 mkD Tryz.func340 (jz6 c d e f) 1 [.pure (az3 c),XM 0] [(0,.box [pz d,pz e,pz f])] (λr=>pz r.1) (λr=>[(0,.box [pz r.2.1,pz r.2.2.1,pz r.2.2.2])])
def Bzx (c:Int)(d:Int):T Bool:=
 .km (qw (c<d))
def pz8 (c)(d):=
 mkD Tryz.func342 (Bzx c d) 0 [pz c,pz d] [] XJ XL
def ozd (c:Int)(d:Int)(e:Int)(f:B3):T Bd:=let g:=encL 6 az3 f;let h:=(f.length:Int);.loop (λ(i:Be)=>⟨[(2,XM 1),(6,pz i.2.2.2.1),(7,pz i.2.2.2.2.1),(11,.pure g),(12,pz h),(13,pz i.2.2.2.2.2)],[(0,.box [pz i.1,pz i.2.1,pz i.2.2.1]),(1,.box [.func 340 [] [XM 0],.func 342 [] []])],[],2⟩) (.exit 0) (λ(i:Bd)=>⟨[(6,pz i.2.2.2.1),(7,pz i.2.2.2.2)],[(0,.box [pz i.1,pz i.2.1,pz i.2.2.1])],[],1⟩) (λi=>.br (qw (i.2.2.2.2.2<h)) (.cut 0 (λ(j:Bd)=>⟨[(2,XM 1),(6,pz j.2.2.2.1),(7,pz j.2.2.2.2),(11,.pure g),(12,pz h),(13,pz i.2.2.2.2.2)],[(0,.box [pz j.1,pz j.2.1,pz j.2.2.1]),(1,.box [.func 340 [] [XM 0],.func 342 [] []])],[],2⟩) (.gh i.2.2.2.2.2 f.length<|.call (pz7 (f.getD (XI i.2.2.2.2.2) qv) i.1 i.2.1 i.2.2.1) [(0,0)] λj=>.cut 0 (λ(k:Bool)=>⟨[(2,XM 1),(6,pz i.2.2.2.1),(7,pz i.2.2.2.2.1),(8,pz i.2.2.2.2.2),(10,pz j.1),(11,.pure g),(12,pz h),(13,pz i.2.2.2.2.2),(30,XJ k)],[(0,.box [pz j.2.1,pz j.2.2.1,pz j.2.2.2]),(1,.box [.func 340 [] [XM 0],.func 342 [] []])],[],2⟩) (.br (i.2.2.2.2.2==0) (.oo true) (.cc (pz8 j.1 i.2.2.2.1) λk=>.oo k)) λk=>.br k (.oo (j.2.1,j.2.2.1,j.2.2.2,j.1,i.2.2.2.2.2)) (.oo (j.2.1,j.2.2.1,j.2.2.2,i.2.2.2.1,i.2.2.2.2.1))) λj=>.nn (j.1,j.2.1,j.2.2.1,j.2.2.2.1,j.2.2.2.2,(qu.wrap (i.2.2.2.2.2+1)))) (.oo (i.1,i.2.1,i.2.2.1,i.2.2.2.1,i.2.2.2.2.1))) (c,d,e,0,0,0) [] λi=>.km (i.2.2.2.1,i.2.2.2.2,i.1,i.2.1,i.2.2.1)
def xzs (c)(d)(e)(f):=
 mkD Tryz.func329 (ozd c d e f) 1 [.agg [.func 340 [] [XM 0],.func 342 [] []],XK 6 az3 f] [(0,.box [pz c,pz d,pz e])] (λr=>.tup [pz r.1,pz r.2.1]) (λr=>[(0,.box [pz r.2.2.1,pz r.2.2.2.1,pz r.2.2.2.2])])
def rzc (c:Aw)(d:B3):T B6:=
 .cut 2 (λ(e:Bool)=>⟨[(1,XK 6 az3 d),(2,XM 0),(16,XJ e)],[(0,.box [pz c.1,pz c.2.1,pz c.2.2])],[],1⟩) (.cc (fzw c) λe=>.br (!e) (.oo true) (.cc (ez4 d) λf=>.oo (!f))) λe=>.br e (.km (0,0,false)) (.cc (szg (c.1,c.2.1,c.2.2)) λf=>.call (xzs f.1 f.2.1 f.2.2 d) [(0,65)] λg=>.km (g.1,g.2.1,true))
def Bz3 (c)(d):=
 mkD Tryz.func311 (rzc c d) 0 [.pure (az1 c),XK 6 az3 d] [] (λr=>.tup [pz r.1,pz r.2.1,XJ r.2.2]) XL
def Jzq (c:Aw):T Aw:=
 .km (c.1,c.2.1,c.2.2)
def yza (c):=
 mkD Tryz.func330 (Jzq c) 0 [.pure (az1 c)] [] (λ_=>.agg [.func 343 [] [XM 0],.func 344 [] []]) (λr=>[(0,.box [pz r.1,pz r.2.1,pz r.2.2])])
def lzu (c:B2)(d:Int)(e:Int)(f:Int):T Bc:=
 .cc (xzj (d,e,f) c) λg=>.km (g.2,d,e,f)
def szh (c)(d)(e)(f):=
 mkD Tryz.func343 (lzu c d e f) 1 [.pure (az3 c),XM 0] [(0,.box [pz d,pz e,pz f])] (λr=>pz r.1) (λr=>[(0,.box [pz r.2.1,pz r.2.2.1,pz r.2.2.2])])
def Gzh (c:Int)(d:Int):T Bool:=
 .km (qw (c>d))
def szi (c)(d):=
 mkD Tryz.func344 (Gzh c d) 0 [pz c,pz d] [] XJ XL
def kzf (c:Int)(d:Int)(e:Int)(f:B3):T Bd:=let g:=encL 6 az3 f;let h:=(f.length:Int);.loop (λ(i:Be)=>⟨[(2,XM 1),(6,pz i.2.2.2.1),(7,pz i.2.2.2.2.1),(11,.pure g),(12,pz h),(13,pz i.2.2.2.2.2)],[(0,.box [pz i.1,pz i.2.1,pz i.2.2.1]),(1,.box [.func 343 [] [XM 0],.func 344 [] []])],[],2⟩) (.exit 0) (λ(i:Bd)=>⟨[(6,pz i.2.2.2.1),(7,pz i.2.2.2.2)],[(0,.box [pz i.1,pz i.2.1,pz i.2.2.1])],[],1⟩) (λi=>.br (qw (i.2.2.2.2.2<h)) (.cut 0 (λ(j:Bd)=>⟨[(2,XM 1),(6,pz j.2.2.2.1),(7,pz j.2.2.2.2),(11,.pure g),(12,pz h),(13,pz i.2.2.2.2.2)],[(0,.box [pz j.1,pz j.2.1,pz j.2.2.1]),(1,.box [.func 343 [] [XM 0],.func 344 [] []])],[],2⟩) (.gh i.2.2.2.2.2 f.length<|.call (szh (f.getD (XI i.2.2.2.2.2) qv) i.1 i.2.1 i.2.2.1) [(0,0)] λj=>.cut 0 (λ(k:Bool)=>⟨[(2,XM 1),(6,pz i.2.2.2.1),(7,pz i.2.2.2.2.1),(8,pz i.2.2.2.2.2),(10,pz j.1),(11,.pure g),(12,pz h),(13,pz i.2.2.2.2.2),(30,XJ k)],[(0,.box [pz j.2.1,pz j.2.2.1,pz j.2.2.2]),(1,.box [.func 343 [] [XM 0],.func 344 [] []])],[],2⟩) (.br (i.2.2.2.2.2==0) (.oo true) (.cc (szi j.1 i.2.2.2.1) λk=>.oo k)) λk=>.br k (.oo (j.2.1,j.2.2.1,j.2.2.2,j.1,i.2.2.2.2.2)) (.oo (j.2.1,j.2.2.1,j.2.2.2,i.2.2.2.1,i.2.2.2.2.1))) λj=>.nn (j.1,j.2.1,j.2.2.1,j.2.2.2.1,j.2.2.2.2,(qu.wrap (i.2.2.2.2.2+1)))) (.oo (i.1,i.2.1,i.2.2.1,i.2.2.2.1,i.2.2.2.2.1))) (c,d,e,0,0,0) [] λi=>.km (i.2.2.2.1,i.2.2.2.2,i.1,i.2.1,i.2.2.1)
def rzl (c)(d)(e)(f):=
 mkD Tryz.func329 (kzf c d e f) 1 [.agg [.func 343 [] [XM 0],.func 344 [] []],XK 6 az3 f] [(0,.box [pz c,pz d,pz e])] (λr=>.tup [pz r.1,pz r.2.1]) (λr=>[(0,.box [pz r.2.2.1,pz r.2.2.2.1,pz r.2.2.2.2])])
def lzt (c:Aw)(d:B3):T B6:=
 .cut 2 (λ(e:Bool)=>⟨[(1,XK 6 az3 d),(2,XM 0),(16,XJ e)],[(0,.box [pz c.1,pz c.2.1,pz c.2.2])],[],1⟩) (.cc (fzw c) λe=>.br (!e) (.oo true) (.cc (ez4 d) λf=>.oo (!f))) λe=>.br e (.km (0,0,false)) (.cc (yza (c.1,c.2.1,c.2.2)) λf=>.call (rzl f.1 f.2.1 f.2.2 d) [(0,65)] λg=>.km (g.1,g.2.1,true))
def sze (c)(d):=
 mkD Tryz.func312 (lzt c d) 0 [.pure (az1 c),XK 6 az3 d] [] (λr=>.tup [pz r.1,pz r.2.1,XJ r.2.2]) XL
def Hza (c:Int):T Int:=
 .cut 1 (λ(d:Aq)=>⟨[(0,.pure (.int .u64 d.1)),(2,pz d.2)],[],[],0⟩) (.br (qw (c>=4294967296)) (.ok (0<=(32:Int)) (by decide)<|.oo ((c.fdiv (2 ^ (min (32:Int).toNat 64))),32)) (.oo (c,0))) λd=>.cut 0 (λ(e:Aq)=>⟨[(0,.pure (.int .u64 e.1)),(2,pz e.2)],[],[],0⟩) (.br (qw (d.1>=65536)) (.ok (0<=(16:Int)) (by decide)<|.oo ((d.1.fdiv (2 ^ (min (16:Int).toNat 64))),(qu.wrap (d.2+16)))) (.oo (d.1,d.2))) λe=>.cut 0 (λ(f:Aq)=>⟨[(0,.pure (.int .u64 f.1)),(2,pz f.2)],[],[],0⟩) (.br (qw (e.1>=256)) (.ok (0<=(8:Int)) (by decide)<|.oo ((e.1.fdiv (2 ^ (min (8:Int).toNat 64))),(qu.wrap (e.2+8)))) (.oo (e.1,e.2))) λf=>let g:=IntKind.u8.wrap f.1;
 .gh g ((⟨#[0,1,2,2,3,3,3,3,4,4,4,4,4,4,4,4,5,5,5,5,5,5,5,5,5,5,5,5,5,5,5,5,6,6,6,6,6,6,6,6,6,6,6,6,6,6,6,6,6,6,6,6,6,6,6,6,6,6,6,6,6,6,6,6,7,7,7,7,7,7,7,7,7,7,7,7,7,7,7,7,7,7,7,7,7,7,7,7,7,7,7,7,7,7,7,7,7,7,7,7,7,7,7,7,7,7,7,7,7,7,7,7,7,7,7,7,7,7,7,7,7,7,7,7,7,7,7,7,8,8,8,8,8,8,8,8,8,8,8,8,8,8,8,8,8,8,8,8,8,8,8,8,8,8,8,8,8,8,8,8,8,8,8,8,8,8,8,8,8,8,8,8,8,8,8,8,8,8,8,8,8,8,8,8,8,8,8,8,8,8,8,8,8,8,8,8,8,8,8,8,8,8,8,8,8,8,8,8,8,8,8,8,8,8,8,8,8,8,8,8,8,8,8,8,8,8,8,8,8,8,8,8,8,8,8,8,8,8,8,8,8,8,8,8,8,8,8,8,8,8,8,8,8,8,8,8]⟩:ByteArray).size)<|.name 10003 ((((⟨#[0,1,2,2,3,3,3,3,4,4,4,4,4,4,4,4,5,5,5,5,5,5,5,5,5,5,5,5,5,5,5,5,6,6,6,6,6,6,6,6,6,6,6,6,6,6,6,6,6,6,6,6,6,6,6,6,6,6,6,6,6,6,6,6,7,7,7,7,7,7,7,7,7,7,7,7,7,7,7,7,7,7,7,7,7,7,7,7,7,7,7,7,7,7,7,7,7,7,7,7,7,7,7,7,7,7,7,7,7,7,7,7,7,7,7,7,7,7,7,7,7,7,7,7,7,7,7,7,8,8,8,8,8,8,8,8,8,8,8,8,8,8,8,8,8,8,8,8,8,8,8,8,8,8,8,8,8,8,8,8,8,8,8,8,8,8,8,8,8,8,8,8,8,8,8,8,8,8,8,8,8,8,8,8,8,8,8,8,8,8,8,8,8,8,8,8,8,8,8,8,8,8,8,8,8,8,8,8,8,8,8,8,8,8,8,8,8,8,8,8,8,8,8,8,8,8,8,8,8,8,8,8,8,8,8,8,8,8,8,8,8,8,8,8,8,8,8,8,8,8,8,8,8,8,8,8]⟩:ByteArray).data.getD g.toNat 0).toNat:Int)) λh=>.km (qu.wrap (f.2+(qu.wrap h)))
def mza (c):=
 mkD Tryz.func331 (Hza c) 0 [.pure (.int .u64 c)] [] pz XL
def zz3 (c:Int):T Int:=let d:=IntKind.u64.wrap c;.br (qw (c<=0)) (.km 0) (.cc (mza d) λe=>let f:=qu.wrap ((qu.wrap (e+1)).tdiv 2);
 .ok ((2:Int)≠0) (by decide)<|.grd (0<=f)<|.loop (λ(g:Aw)=>⟨[(0,pz c),(4,.pure (.int .u64 g.1)),(5,.pure (.int .u64 g.2.1)),(16,pz f),(17,pz g.2.2)],[],[],0⟩) (.exit 0) (λ(g:Int)=>⟨[(4,.pure (.int .u64 g))],[],[],0⟩) (λg=>.br (qw (g.2.2<f)) (.cut 0 (λ(h:Aq)=>⟨[(0,pz c),(4,.pure (.int .u64 h.1)),(5,.pure (.int .u64 h.2)),(16,pz f),(17,pz g.2.2)],[],[],0⟩) (.ok ((2:Int)≠0) (by decide)<|.name 7001 ((IntKind.u64.wrap (g.2.1.tdiv 2))) λh=>let i:=IntKind.u64.wrap (g.1+h);
 .br (qw ((IntKind.u64.wrap (i * i))<=d)) (.oo (i,h)) (.oo (g.1,h))) λh=>.nn (h.1,h.2,(qu.wrap (g.2.2+1)))) (.oo g.1)) (0,(IntKind.u64.wrap (1 * 2 ^ (min f.toNat 64))),0) [] λg=>.km (qu.wrap g))
def zz2 (c):=
 mkD Tryz.func313 (zz3 c) 0 [pz c] [] pz XL
def tz0 (c:Int):T Int:=
 .cc (zz2 c) λd=>.cut 0 (λ(e:Int)=>⟨[(3,pz e)],[],[],0⟩) (.br (qw ((qu.wrap (d * d))<c)) (.oo (qu.wrap (d+1))) (.oo d)) λe=>.km e
def Cz4 (c):=
 mkD Tryz.func295 (tz0 c) 0 [pz c] [] pz XL
def uzk (c:Aw):T Int:=
 .cc (fzw (c.1,c.2.1,c.2.2)) λd=>.br (!d) (.km 0) (.j8<|.j8<|.j9<|.j9<|.ka<|.ka<|.name 3016 ((qu.wrap ((qu.wrap ((qu.wrap (c.1 * c.1))+(qu.wrap (c.2.1 * c.2.1))))+(qu.wrap (c.2.2 * c.2.2))))) λe=>.cc (Cz4 e) λf=>.km f)
def uzj (c):=
 mkD Tryz.func260 (uzk c) 0 [.pure (az1 c)] [] pz XL
def uzh (c:ez5)(d:Aw):T Ar:=
 .cut 2 (λ(e:Bool)=>⟨[(2,XM 0),(3,XM 1),(20,XJ e)],[(0,.box [XK 6 az3 c.a.points,pz c.a.radius,XK 6 az3 c.b.points,pz c.b.radius]),(1,.box [pz d.1,pz d.2.1,pz d.2.2])],[],2⟩) (.cc (Bz0 c.a) λe=>.br (!e) (.oo true) (.cc (Bz0 c.b) λf=>.oo (!f))) λe=>.br e (.km (0,false)) (.cc (Bz3 (d.1,d.2.1,d.2.2) c.a.points) λf=>.br (!f.2.2) (.km (0,false)) (.cc (sze (d.1,d.2.1,d.2.2) c.b.points) λg=>.br (!g.2.2) (.km (0,false)) (.cc (uzj (d.1,d.2.1,d.2.2)) λh=>.name 9013 ((qu.wrap ((qu.wrap (f.1-g.1))- (qu.wrap (h * (qu.wrap (c.a.radius+c.b.radius))))))) λi=>.km (i,true))))
def Dz3 (c)(d):=
 mkD Tryz.func292 (uzh c d) 0 [.pure (qzb c),.pure (az1 d)] [] (λr=>.tup [pz r.1,XJ r.2]) XL
def mzw (c:ez5)(d:Aw):T Bool:=
 .cc (Dz3 (⟨c.a,c.b⟩:ez5) (d.1,d.2.1,d.2.2)) λe=>.br e.2 (.km (qw (e.1>0))) (.km false)
def vzc (c)(d):=
 mkD Tryz.func252 (mzw c d) 0 [.pure (qzb c),.pure (az1 d)] [] XJ XL
def mze (c:Aw)(d:B3)(e:Int)(f:B3)(g:Int):T Bool:=
 .cc (Izn d e f g) λh=>.cc (vzc (⟨h.a,h.b⟩:ez5) (c.1,c.2.1,c.2.2)) λi=>.km i
def mzd (c)(d)(e)(f)(g):=
 mkD Tryz.func206 (mze c d e f g) 0 [.pure (az1 c),XK 6 az3 d,pz e,XK 6 az3 f,pz g] [] XJ XL
def kzw (c:Int):T Bool:=
 .br (qw (c>=0)) (.km (qw (c<=1048576))) (.km false)
def kzv (c):=
 mkD Tryz.func248 (kzw c) 0 [pz c] [] XJ XL
def tz4 (c:az0):T Int:=
 .cc (czi c) λd=>.br (!d) (.km 0) (.cc (bzc (qu.wrap (c.Lo+c.Hi)) 1) λe=>.km e)
def jzb (c):=
 mkD Tryz.func211 (tz4 c) 0 [.pure (azb c)] [] pz XL
def izg (c:B3):T Ax:=let d:=(c.length:Int);.cc (ez4 c) λe=>.br (!e) (.km nl) (.conv 3002 (Nz5 3 az1 96 d.toNat (0,0,0))<|.grd (0<=d/\d<=d/\d<=9223372036854775807/\d * 24<=140737488355328)<|.loop (λ(f:Ay)=>⟨[(3,.vec 0),(14,XK 6 az3 c),(15,pz d),(16,pz f.2)],[(0,vecO 3 az1 f.1 96)],[],1⟩) (.exit 0) (λ(f:Ax)=>⟨[(3,.vec 0)],[(0,vecO 3 az1 f 96)],[],1⟩) (λf=>let g:=f.2;let h:=g.toNat;let i:=c.getD h qv;let j:=f.1.getD h qv;.br (qw (f.2<d)) (.gh f.2 c.length<|.unroll 4<|.kj<|.j8<|.cc (jzb (i.1)) λk=>let m:=f.1.set h (k,j.2.1,j.2.2);let n:=m.getD h qv;
 .gh f.2 f.1.length<|.j8<|.conv 10007 (fzs 3 az1 f.1 96 h (k,j.2.1,j.2.2))<|.gi g f.1.length<|.lit 11000 1<|.kj<|.j9<|.cc (jzb (i.2.1)) λs=>let t:=m.set h (n.1,s,n.2.2);let w:=t.getD h qv;
 .gh f.2 (m.length)<|.j9<|.conv 10007 (fzs 3 az1 m 96 h (n.1,s,n.2.2))<|.gi g (m.length)<|.lit 11000 2<|.kj<|.ka<|.cc (jzb (i.2.2)) λy=>.gh f.2 (t.length)<|.ka<|.conv 10007 (fzs 3 az1 t 96 h (w.1,w.2.1,y))<|.gi g (t.length)<|.lit 11000 3<|.kl<|.nn ((t.set h (w.1,w.2.1,y)),(qu.wrap (f.2+1)))) (.oo f.1)) ((qt d.toNat ((0,0,0):Aw)),0) [] λf=>.km f)
def dzl (c):=
 mkD Tryz.func169 (izg c) 0 [XK 6 az3 c] [] (λr=>XK 3 az1 r) XL
def kzx (c:Ax):T Aw:=let d:=(c.length:Int);.loop (λ(e:Bc)=>⟨[(2,XM 0),(3,XM 1),(7,XK 3 az1 c),(8,pz d),(9,pz e.2.2.2)],[(0,.box [pz 0,pz 0,pz 0]),(1,.box [pz e.1,pz e.2.1,pz e.2.2.1])],[],2⟩) (.exit 0) (λ(e:Aw)=>⟨[(2,XM 0),(3,XM 1)],[(0,.box [pz 0,pz 0,pz 0]),(1,.box [pz e.1,pz e.2.1,pz e.2.2])],[],2⟩) (λe=>let f:=c.getD (XI e.2.2.2) qv;.br (qw (e.2.2.2<d)) (.gh e.2.2.2 c.length<|.unroll 4<|.kj<|.j8<|.j8<|.j8<|.lit 9000 1<|.kj<|.j9<|.j9<|.j9<|.lit 9000 2<|.kj<|.ka<|.ka<|.ka<|.lit 9000 3<|.kl<|.nn ((qu.wrap (e.1+(f.1))),(qu.wrap (e.2.1+(f.2.1))),(qu.wrap (e.2.2.1+(f.2.2))),(qu.wrap (e.2.2.2+1)))) (.oo (e.1,e.2.1,e.2.2.1))) (0,0,0,0) [] λe=>.km (e.1,e.2.1,e.2.2)
def pzh (c):=
 mkD Tryz.func291 (kzx c) 0 [XK 3 az1 c] [] (λr=>.pure (az1 r)) XL
def hzi (c:Aw):T B1:=
 .loop (λ(d:Aw)=>⟨[(1,XM 0),(2,XM 1)],[(0,.box [pz d.1,pz d.2.1,pz d.2.2]),(1,.box [pz 0,pz 0,pz 0])],[],2⟩) (.exit 0) (λ(d:Aw)=>⟨[(1,XM 0),(2,XM 1)],[(0,.box [pz d.1,pz d.2.1,pz d.2.2]),(1,.box [pz 0,pz 0,pz 0])],[],2⟩) (λd=>.cc (fzk (d.1,d.2.1,d.2.2)) λe=>.br (!e) (.unroll 4<|.kj<|.j8<|.ok ((2:Int)≠0) (by decide)<|.j8<|.lit 6000 1<|.kj<|.j9<|.ok ((2:Int)≠0) (by decide)<|.j9<|.lit 6000 2<|.kj<|.ka<|.ok ((2:Int)≠0) (by decide)<|.ka<|.lit 6000 3<|.kl<|.nn ((qu.wrap (d.1.tdiv 2)),(qu.wrap (d.2.1.tdiv 2)),(qu.wrap (d.2.2.tdiv 2)))) (.oo (d.1,d.2.1,d.2.2))) (c.1,c.2.1,c.2.2) [] λd=>.km ((d.1,d.2.1,d.2.2),(!((d.1==0)&&((d.2.1==0)&&((d.2.2==0)&&true)))))
def jzv (c):=
 mkD Tryz.func257 (hzi c) 0 [.pure (az1 c)] [] (λr=>.tup [.pure (az1 r.1),XJ r.2]) XL
def jze (c:B3)(d:B3):T B1:=let e:=(d.length:Int);let f:=(c.length:Int);.cut 3 (λ(g:Bool)=>⟨[(0,XK 6 az3 c),(1,XK 6 az3 d),(4,XM 0),(5,XM 1),(18,XJ g)],[(0,.box [pz 0,pz 0,pz 0]),(1,.box [.ff])],[.func 290 [] [XM 0,XM 1]],2⟩) (.cc (ez4 c) λg=>.br (!g) (.oo true) (.cc (ez4 d) λh=>.oo (!h))) λg=>.br g (.km ((0,0,0),false)) (.cc (dzl c) λh=>.cc (pzh h) λi=>.cc (dzl d) λj=>.cc (pzh j) λk=>.unroll 4<|.kj<|.j8<|.j8<|.name 9013 ((qu.wrap ((qu.wrap (i.1 * e))- (qu.wrap (k.1 * f))))) λm=>.j8<|.lit 10000 1<|.kj<|.j9<|.j9<|.name 9013 ((qu.wrap ((qu.wrap (i.2.1 * e))- (qu.wrap (k.2.1 * f))))) λn=>.j9<|.lit 10000 2<|.kj<|.ka<|.ka<|.name 9013 ((qu.wrap ((qu.wrap (i.2.2 * e))- (qu.wrap (k.2.2 * f))))) λs=>.ka<|.lit 10000 3<|.kl<|.cc (jzv (m,n,s)) λt=>.km (t.1,t.2))
def nzb (c)(d):=
 mkC [⟨290,az52⟩] hd Tryz.func250 (by kernel_rfl) (jze c d) 0 [XK 6 az3 c,XK 6 az3 d] [] (λr=>.tup [.pure (az1 r.1),XJ r.2]) XL (by kernel_rfl)
def Nze:T Ax:=
 .conv 1006 (cz0 3 az1 ([(1,0,0),((-1),0,0),(0,1,0),(0,(-1),0),(0,0,1),(0,0,(-1))]:Ax) 96)<|.km ([(1,0,0),((-1),0,0),(0,1,0),(0,(-1),0),(0,0,1),(0,0,(-1))]:Ax)
def tzd:CallS Ax:=
 mkD Tryz.func251 (Nze) 0 [] [] (λr=>XK 3 az1 r) XL
def hzb (c:Ax):T Bool:=let d:=encL 3 az1 c;let e:=(c.length:Int);.cut 2 (λ(f:Bool)=>⟨[(0,.pure d),(14,XJ f)],[],[],0⟩) (.br (qw (e<1)) (.oo true) (.oo (qw (e>8)))) λf=>.br f (.km false) (.loop (λ(g:Int)=>⟨[(15,.pure d),(16,pz e),(17,pz g)],[],[],0⟩) (.exit 0) XN (λg=>let h:=c.getD (g.toNat) qv;.br (qw (g<e)) (.gh g c.length<|.loop (λ(i:Int)=>⟨[(15,.pure d),(16,pz e),(17,pz g),(21,.pure (az1 h)),(22,pz i)],[],[],0⟩) (.exit 2) (λ(_:U0)=>⟨[(15,.pure d),(16,pz e),(17,pz g)],[],[],0⟩) (λi=>.br (qw (i<3)) (.gh i 3<|.name 8000 ((([h.1,h.2.1,h.2.2]:List Int).getD i.toNat 0)) λj=>.cut 0 (λ(k:Bool)=>⟨[(15,.pure d),(16,pz e),(17,pz g),(21,.pure (az1 h)),(22,pz i),(30,XJ k)],[],[],0⟩) (.br (qw (j<(-268435456))) (.oo true) (.oo (qw (j>268435456)))) λk=>.br k (.ff (.fin false)) (.nn (qu.wrap (i+1)))) (.oo .u))
 0 [] λ_=>.nn (qu.wrap (g+1))) (.oo .u))
 0 [] λ_=>.km true)
def jzt (c):=
 mkD Tryz.func207 (hzb c) 0 [XK 3 az1 c] [] XJ XL
def gzr (c:Ax):T (Ax×A1):=let d:=(c.length:Int);let e:=qt d.toNat (0:Int);.conv 1002 (Nz5 1 az2 2 d.toNat 0)<|.grd (0<=d/\d<=d/\d<=9223372036854775807/\d * 8<=140737488355328)<|.gh (0:Int) (e.length)<|.conv 2002 (fzs 1 az2 e 2 (XI (0:Int)) 65536)<|.gi (0:Int) (e.length)<|.km (c,(e.set (XI (0:Int)) 65536))
def izp (c):=
 mkD Tryz.func208 (gzr c) 0 [XK 3 az1 c] [] (λr=>.agg [XK 3 az1 r.1,.vec 0]) (λr=>[(0,vecO 1 az2 r.2 2)])
def uzx (c:Ax)(d:A1):T Aw:=let e:=encL 3 az1 c;let f:=(c.length:Int);.loop (λ(g:Bc)=>⟨[(1,XM 1),(2,XM 2),(3,XM 3),(9,.pure e),(10,pz f),(11,pz g.2.2.2)],[(0,vecO 1 az2 d 2),(1,.box [.pure e,.vec 0]),(2,.box [pz 0,pz 0,pz 0]),(3,.box [pz g.1,pz g.2.1,pz g.2.2.1])],[],4⟩) (.exit 0) (λ(g:Aw)=>⟨[(2,XM 1),(3,XM 2)],[(0,vecO 1 az2 d 2),(1,.box [pz 0,pz 0,pz 0]),(2,.box [pz g.1,pz g.2.1,pz g.2.2])],[],3⟩) (λg=>let h:=(g.2.2.2).toNat;let i:=c.getD h qv;let j:=d.getD h qv;.br (qw (g.2.2.2<f)) (.gh g.2.2.2 c.length<|.unroll 4<|.kj<|.j8<|.name 7001 (i.1) λk=>.j8<|.gg g.2.2.2 d.length<|.name 8010 ((qu.wrap (g.1+(qu.wrap (j * k))))) λm=>.j8<|.lit 9000 1<|.kj<|.j9<|.name 7001 (i.2.1) λn=>.j9<|.gg g.2.2.2 d.length<|.name 8010 ((qu.wrap (g.2.1+(qu.wrap (j * n))))) λs=>.j9<|.lit 9000 2<|.kj<|.ka<|.name 7001 (i.2.2) λt=>.ka<|.gg g.2.2.2 d.length<|.name 8010 ((qu.wrap (g.2.2.1+(qu.wrap (j * t))))) λw=>.ka<|.lit 9000 3<|.kl<|.nn (m,s,w,(qu.wrap (g.2.2.2+1)))) (.oo (g.1,g.2.1,g.2.2.1))) (0,0,0,0) [] λg=>.km (g.1,g.2.1,g.2.2)
def Bza (c)(d):=
 mkD Tryz.func255 (uzx c d) 1 [.agg [XK 3 az1 c,.vec 0]] [(0,vecO 1 az2 d 2)] (λr=>.pure (az1 r)) (λ_=>[(0,vecO 1 az2 d 2)])
def Lzl (c:Aw)(d:Aw):T Aw:=
 .j8<|.j8<|.j9<|.j9<|.ka<|.ka<|.km ((qu.wrap (c.1-d.1)),(qu.wrap (c.2.1-d.2.1)),(qu.wrap (c.2.2-d.2.2)))
def kzt (c)(d):=
 mkD Tryz.func254 (Lzl c d) 0 [.pure (az1 c),.pure (az1 d)] [] (λr=>.pure (az1 r)) XL
def gzq (c:Aw)(d:Int):T Bool:=
 .loop (λ(e:Aq)=>⟨[(1,pz d),(5,pz e.1),(9,.pure (az1 c)),(10,pz e.2)],[],[],0⟩) (.exit 0) (λ(e:Int)=>⟨[(1,pz d),(5,pz e)],[],[],0⟩) (λe=>let f:=([c.1,c.2.1,c.2.2]:List Int).getD (e.2).toNat 0;.br (qw (e.2<3)) (.gh e.2 3<|.name 5003 ((max f (qu.wrap (0-f)))) λg=>.cc (bzj g 16) λh=>.nn ((qu.wrap (e.1+(qu.wrap (h * h)))),(qu.wrap (e.2+1)))) (.oo e.1)) (0,0) [] λe=>.km (qw (e<=(qu.wrap (d * d))))
def mzb (c)(d):=
 mkD Tryz.func256 (gzq c d) 0 [.pure (az1 c),pz d] [] XJ XL
def Qzm (c:Aw)(d:Aw):T Int:=
 .j8<|.j8<|.j9<|.j9<|.ka<|.ka<|.name 1016 ((qu.wrap ((qu.wrap ((qu.wrap (c.1 * d.1))+(qu.wrap (c.2.1 * d.2.1))))+(qu.wrap (c.2.2 * d.2.2))))) λe=>.km e
def hz5 (c)(d):=
 mkD Tryz.func294 (Qzm c d) 0 [.pure (az1 c),.pure (az1 d)] [] pz XL
def nzp (c:Ax)(d:A1)(e:Aw):T Aq:=let f:=encL 3 az1 c;let g:=(c.length:Int);let h:Nat×Res:=(1,.box [pz e.1,pz e.2.1,pz e.2.2]);.gh (0:Int) c.length<|.cc (hz5 e (c.getD (XI (0:Int)) qv)) λi=>.loop (λ(j:Aw)=>⟨[(3,XM 1),(6,pz j.1),(7,pz j.2.1),(20,.pure f),(21,pz g),(22,pz j.2.2)],[(0,vecO 1 az2 d 2),h],[],2⟩) (.exit 0) (λ(j:Aq)=>⟨[(6,pz j.1),(7,pz j.2)],[(0,vecO 1 az2 d 2)],[],1⟩) (λj=>.br (qw (j.2.2<g)) (.cut 0 (λ(k:Aq)=>⟨[(3,XM 1),(6,pz k.1),(7,pz k.2),(20,.pure f),(21,pz g),(22,pz j.2.2)],[(0,vecO 1 az2 d 2),h],[],2⟩) (.gh j.2.2 c.length<|.cc (hz5 e (c.getD (XI j.2.2) qv)) λk=>.br (qw (k<j.1)) (.oo (k,j.2.2)) (.oo (j.1,j.2.1))) λk=>.nn (k.1,k.2,(qu.wrap (j.2.2+1)))) (.oo (j.1,j.2.1))) (i,0,0) [] λj=>.km (j.1,j.2)
def zzd (c)(d)(e):=
 mkD Tryz.func258 (nzp c d e) 1 [.agg [XK 3 az1 c,.vec 0],.pure (az1 e)] [(0,vecO 1 az2 d 2)] (λr=>.tup [pz r.1,pz r.2]) (λ_=>[(0,vecO 1 az2 d 2)])
def hze (c:Ax)(d:A1)(e:Aw):T Aq:=let f:=encL 3 az1 c;let g:=(c.length:Int);let h:Nat×Res:=(1,.box [pz e.1,pz e.2.1,pz e.2.2]);.gh (0:Int) c.length<|.cc (hz5 e (c.getD (XI (0:Int)) qv)) λi=>.loop (λ(j:Aw)=>⟨[(3,XM 1),(6,pz j.1),(7,pz j.2.1),(20,.pure f),(21,pz g),(22,pz j.2.2)],[(0,vecO 1 az2 d 2),h],[],2⟩) (.exit 0) (λ(j:Aq)=>⟨[(6,pz j.1),(7,pz j.2)],[(0,vecO 1 az2 d 2)],[],1⟩) (λj=>.br (qw (j.2.2<g)) (.cut 0 (λ(k:Aq)=>⟨[(3,XM 1),(6,pz k.1),(7,pz k.2),(20,.pure f),(21,pz g),(22,pz j.2.2)],[(0,vecO 1 az2 d 2),h],[],2⟩) (.gh j.2.2 c.length<|.cc (hz5 e (c.getD (XI j.2.2) qv)) λk=>.br (qw (k>j.1)) (.oo (k,j.2.2)) (.oo (j.1,j.2.1))) λk=>.nn (k.1,k.2,(qu.wrap (j.2.2+1)))) (.oo (j.1,j.2.1))) (i,0,0) [] λj=>.km (j.1,j.2)
def ozv (c)(d)(e):=
 mkD Tryz.func259 (hze c d e) 1 [.agg [XK 3 az1 c,.vec 0],.pure (az1 e)] [(0,vecO 1 az2 d 2)] (λr=>.tup [pz r.1,pz r.2]) (λ_=>[(0,vecO 1 az2 d 2)])
def jzd (c:Aw)(d:Aw):T Int:=
 .cc (kzt c d) λe=>.cc (hz5 c e) λf=>.cc (hz5 e e) λg=>let h:=qu.wrap (g.tdiv 256);
 .br (qw (f<=0)) (.km 0) (.ok ((256:Int)≠0) (by decide)<|.grd ((max 1 h)≠0)<|.km (min 256 (qu.wrap (f.tdiv (max 1 h)))))
def tzc (c)(d):=
 mkD Tryz.func261 (jzd c d) 0 [.pure (az1 c),.pure (az1 d)] [] pz XL
def kzp (c:Ax)(d:A1)(e:Int)(f:Int):T A1:=let g:=e.toNat;let h:=(d.length:Int);let i:Nat×Res:=(1,.box [XK 3 az1 c,.vec 0]);.loop (λ(j:Au)=>⟨[(1,pz e),(2,pz f),(3,XM 1),(6,pz j.2.1),(11,.vec 0),(12,pz h),(13,pz j.2.2)],[(0,vecO 1 az2 j.1 2),i],[],2⟩) (.exit 0) (λ(j:A9)=>⟨[(1,pz e),(3,XM 1),(6,pz j.2)],[(0,vecO 1 az2 j.1 2),i],[],2⟩) (λj=>let k:=(j.2.2).toNat;let m:=j.1.getD k qv;let n:=qu.wrap ((qu.wrap (m * f)).tdiv 256);.br (qw (j.2.2<h)) (.gg j.2.2 j.1.length<|.ok ((256:Int)≠0) (by decide)<|.gg j.2.2 j.1.length<|.name 6006 ((qu.wrap (m-n))) λs=>.gh j.2.2 j.1.length<|.conv 6008 (fzs 1 az2 j.1 2 k s)<|.gi (j.2.2) j.1.length<|.name 7002 ((qu.wrap (j.2.1+n))) λt=>.nn ((j.1.set k s),t,(qu.wrap (j.2.2+1)))) (.oo (j.1,j.2.1))) (d,0,0) [] λj=>let k:=qu.wrap ((j.1.getD g qv)+j.2);
 .gg e j.1.length<|.gh e j.1.length<|.conv 9008 (fzs 1 az2 j.1 2 g k)<|.gi (e) j.1.length<|.km (j.1.set g k)
def pzf (c)(d)(e)(f):=
 mkD Tryz.func262 (kzp c d e f) 1 [.agg [XK 3 az1 c,.vec 0],pz e,pz f] [(0,vecO 1 az2 d 2)] (λ_=>.tup []) (λr=>[(0,vecO 1 az2 r 2)])
def rzb (c:Ax)(d:A1)(e:Ax)(f:A1)(g:Int)(h:Int)(i:Int)(j:Int)(k:Int)(m:Int):T (Int×Ax×A1×Ax×A1×Int×Int×Int×Int):=
 .loop (λ(n:(A1×A1×Int×Int×Int×Int))=>⟨[(0,XM 0),(1,pz k),(2,pz m)],[(0,.box [XK 3 az1 c,.vec 1,XK 3 az1 e,.vec 2,pz n.2.2.1,pz n.2.2.2.1,pz n.2.2.2.2.1,pz n.2.2.2.2.2]),(1,vecO 1 az2 n.1 2),(2,vecO 1 az2 n.2.1 2)],[],3⟩)
 .ret (λ(_:U0)=>⟨[],[],[],3⟩) (λn=>.call (Bza c n.1) [(0,1)] λs=>.call (Bza e n.2.1) [(0,2)] λt=>.cc (kzt s t) λw=>let y:=qu.wrap (w.1.tdiv 65536);let z:=qu.wrap (w.2.1.tdiv 65536);let aa:=qu.wrap (w.2.2.tdiv 65536);
 .cc (mzb w k) λab=>.br ab (.ff (2,c,n.1,e,n.2.1,n.2.2.1,n.2.2.2.1,n.2.2.2.2.1,n.2.2.2.2.2)) (.j8<|.ok ((65536:Int)≠0) (by decide)<|.j9<|.ok ((65536:Int)≠0) (by decide)<|.ka<|.ok ((65536:Int)≠0) (by decide)<|.cc (jzv (y,z,aa)) λac=>.br (!ac.2) (.ff (0,c,n.1,e,n.2.1,ac.1.1,ac.1.2.1,ac.1.2.2,n.2.2.2.2.2)) (.call (zzd c n.1 ac.1) [(0,1)] λad=>.call (ozv e n.2.1 ac.1) [(0,2)] λae=>.cc (uzj ac.1) λaf=>.br (qw ((qu.wrap (ad.1-ae.1))>(qu.wrap (af * k)))) (.ff (1,c,n.1,e,n.2.1,ac.1.1,ac.1.2.1,ac.1.2.2,n.2.2.2.2.2)) (.br (n.2.2.2.2.2==m) (.ff (0,c,n.1,e,n.2.1,ac.1.1,ac.1.2.1,ac.1.2.2,n.2.2.2.2.2)) (.gh ad.2 c.length<|.gh ae.2 e.length<|.cc (kzt (c.getD (XI ad.2) qv) (e.getD (XI ae.2) qv)) λag=>.cc (tzc (y,z,aa) ag) λah=>.br (ah==0) (.ff (0,c,n.1,e,n.2.1,ac.1.1,ac.1.2.1,ac.1.2.2,n.2.2.2.2.2)) (.call (pzf c n.1 ad.2 ah) [(0,1)] λai=>.call (pzf e n.2.1 ae.2 ah) [(0,2)] λaj=>.nn (ai,aj,ac.1.1,ac.1.2.1,ac.1.2.2,(qu.wrap (n.2.2.2.2.2+1))))))))) (d,f,g,h,i,j) [] λ_=>.stop
def Mzn (c)(d)(e)(f)(g)(h)(i)(j)(k)(m):=
 mkD Tryz.func209 (rzb c d e f g h i j k m) 3 [XM 0,pz k,pz m] [(0,.box [XK 3 az1 c,.vec 1,XK 3 az1 e,.vec 2,pz g,pz h,pz i,pz j]),(1,vecO 1 az2 d 2),(2,vecO 1 az2 f 2)] (λr=>pz r.1) (λr=>[(0,.box [XK 3 az1 r.2.1,.vec 1,XK 3 az1 r.2.2.2.1,.vec 2,pz r.2.2.2.2.2.1,pz r.2.2.2.2.2.2.1,pz r.2.2.2.2.2.2.2.1,pz r.2.2.2.2.2.2.2.2]),(1,vecO 1 az2 r.2.2.1 2),(2,vecO 1 az2 r.2.2.2.2.1 2)])
def hza (c:Ax)(d:Ax)(e:Int)(f:Int):T dzu:=
 .cut 2 (λ(g:Bool)=>⟨[(0,XK 3 az1 c),(1,XK 3 az1 d),(2,pz e),(3,pz f),(8,XM 0),(34,XJ g)],[(0,.box [pz 0,pz 0,pz 0,pz 0,.vec 1,.vec 2,pz 0]),(1,.nilv),(2,.nilv)],[],3⟩) (.cc (jzt c) λg=>.br (!g) (.oo true) (.cc (jzt d) λh=>.br (!h) (.oo true) (.br (qw (e<0)) (.oo true) (.br (qw (e>2097152)) (.oo true) (.br (qw (f<0)) (.oo true) (.oo (qw (f>64)))))))) λg=>.br g (.km (⟨0,(0,0,0),nl,nl,0⟩:dzu)) (.cc (izp c) λh=>.cc (izp d) λi=>.call (Mzn h.1 h.2 i.1 i.2 0 0 0 0 e f) [(0,451),(1,67),(2,259)] λj=>.km (⟨j.1,(j.2.2.2.2.2.1,j.2.2.2.2.2.2.1,j.2.2.2.2.2.2.2.1),j.2.2.1,j.2.2.2.2.1,j.2.2.2.2.2.2.2.2⟩:dzu))
def fz0 (c)(d)(e)(f):=
 mkD Tryz.func168 (hza c d e f) 0 [XK 3 az1 c,XK 3 az1 d,pz e,pz f] [] (λr=>.pure (Kzs r)) XL
def hzu {o:Aw->Option Bool}(Y:YldS Tryz.prog az1 o)(a0:B3)(a1:B3)(a2:Int)(a3:Int)(a4:Ax):T Bf:=
 .cut 1 (λ(y22:Bool)=>⟨[(0,.yld Y.l),(1,XM 1),(2,XM 2),(3,XM 3),(4,XM 4),(5,XM 5),(31,XJ y22)],[(0,.tok Y.τ (tokP false (az1 qv))),(1,.box [XK 6 az3 a0]),(2,.box [XK 6 az3 a1]),(3,.box [pz a2]),(4,.box [pz a3]),(5,.box [XK 3 az1 a4])],[],6⟩) (.call (ez4 a0) [] λy23=>.br (!y23) (.km (.out true)) (.call (ez4 a1) [] λy24=>.br (!y24) (.km (.out true)) (.call (kzv a2) [] λy25=>.br (!y25) (.km (.out true)) (.call (kzv a3) [] λy26=>.km (.out (!y26)))))) λy22=>.br y22 (.km (false,qv,a0,a1,a2,a3,a4)) (.loop (λ(x87:(Int×Bool×Aw))=>⟨[(0,.yld Y.l),(1,XM 1),(2,XM 2),(3,XM 3),(4,XM 4),(32,XK 3 az1 a4),(33,pz (a4.length:Int)),(34,pz x87.1)],[(0,.tok Y.τ (tokP x87.2.1 (az1 x87.2.2))),(1,.box [XK 6 az3 a0]),(2,.box [XK 6 az3 a1]),(3,.box [pz a2]),(4,.box [pz a3]),(5,.box [XK 3 az1 a4])],[],6⟩) (.exit 0) (λ(y102:(Bool×Aw))=>⟨[(0,.yld Y.l),(1,XM 1),(2,XM 2),(3,XM 3),(4,XM 4)],[(0,.tok Y.τ (tokP y102.1 (az1 y102.2))),(1,.box [XK 6 az3 a0]),(2,.box [XK 6 az3 a1]),(3,.box [pz a2]),(4,.box [pz a3]),(5,.box [XK 3 az1 a4])],[],6⟩) (λx87=>.br (qw (x87.1<(a4.length:Int))) (.grd (0<=x87.1/\x87.1<(a4.length:Int))<|.cut 0 (λ(y114:B7)=>⟨[(0,.yld Y.l),(1,XM 1),(2,XM 2),(3,XM 3),(4,XM 4),(32,XK 3 az1 a4),(33,pz (a4.length:Int)),(34,pz x87.1),(45,XJ y114.1)],[(0,.tok Y.τ (tokP y114.2.1 (az1 y114.2.2))),(1,.box [XK 6 az3 a0]),(2,.box [XK 6 az3 a1]),(3,.box [pz a2]),(4,.box [pz a3]),(5,.box [XK 3 az1 a4])],[],6⟩) (.call (fzw (a4.getD (XI x87.1) qv)) [] λy115=>.br y115 (.call (Y.C x87.2.1 x87.2.2 (a4.getD (XI x87.1) qv)) [(0,0)] λy116=>.km (.out ((!(!y116)),y116,(a4.getD (XI x87.1) qv)))) (.km (.out (false,x87.2.1,x87.2.2)))) λy114=>.br y114.1 (.km (.fin (y114.2.1,y114.2.2,a0,a1,a2,a3,a4))) (.km (.next ((qu.wrap (x87.1+1)),y114.2.1,y114.2.2)))) (.km (.out (x87.2.1,x87.2.2)))) (0,false,qv) [] λy102=>.call (nzb a0 a1) [] λy124=>.cut 0 (λ(y127:B7)=>⟨[(0,.yld Y.l),(1,XM 1),(2,XM 2),(3,XM 3),(4,XM 4),(59,XJ y127.1)],[(0,.tok Y.τ (tokP y127.2.1 (az1 y127.2.2))),(1,.box [XK 6 az3 a0]),(2,.box [XK 6 az3 a1]),(3,.box [pz a2]),(4,.box [pz a3]),(5,.box [XK 3 az1 a4])],[],6⟩) (.br y124.2 (.call (Y.C y102.1 y102.2 y124.1) [(0,0)] λy128=>.km (.out ((!(!y128)),y128,y124.1))) (.km (.out (false,y102.1,y102.2)))) λy127=>.br y127.1 (.km (y127.2.1,y127.2.2,a0,a1,a2,a3,a4)) (.call (tzd) [] λy147=>.loop (λ(x153:(Int×Bool×Aw))=>⟨[(0,.yld Y.l),(1,XM 1),(2,XM 2),(3,XM 3),(4,XM 4),(60,XK 3 az1 y147),(61,pz (y147.length:Int)),(62,pz x153.1)],[(0,.tok Y.τ (tokP x153.2.1 (az1 x153.2.2))),(1,.box [XK 6 az3 a0]),(2,.box [XK 6 az3 a1]),(3,.box [pz a2]),(4,.box [pz a3]),(5,.box [XK 3 az1 a4])],[],6⟩) (.exit 2) (λ(y158:(Bool×Aw))=>⟨[(0,.yld Y.l),(1,XM 1),(2,XM 2),(3,XM 3),(4,XM 4)],[(0,.tok Y.τ (tokP y158.1 (az1 y158.2))),(1,.box [XK 6 az3 a0]),(2,.box [XK 6 az3 a1]),(3,.box [pz a2]),(4,.box [pz a3]),(5,.box [XK 3 az1 a4])],[],6⟩) (λx153=>.br (qw (x153.1<(y147.length:Int))) (.grd (0<=x153.1/\x153.1<(y147.length:Int))<|.call (Y.C x153.2.1 x153.2.2 (y147.getD (XI x153.1) qv)) [(0,0)] λy162=>.br (!(!y162)) (.km (.fin (y162,(y147.getD (XI x153.1) qv),a0,a1,a2,a3,a4))) (.km (.next ((qu.wrap (x153.1+1)),y162,(y147.getD (XI x153.1) qv))))) (.km (.out (x153.2.1,x153.2.2)))) (0,y127.2.1,y127.2.2) [] λy158=>.call (dzl a0) [] λy166=>.call (dzl a1) [] λy167=>.call (fz0 y166 y167 (qu.wrap (a2+a3)) 64) [] λy168=>.call (fzw y168.Xz) [] λy170=>.br y170 (.call (Y.C y158.1 y158.2 y168.Xz) [(0,0)] λy171=>.km (y171,y168.Xz,a0,a1,a2,a3,a4)) (.km (y158.1,y158.2,a0,a1,a2,a3,a4))))
def hzt {o:Aw->Option Bool}(Y:YldS Tryz.prog az1 o)(a0:B3)(a1:B3)(a2:Int)(a3:Int)(a4:Ax):CallS Bf:=
 mkD Tryz.func247 (hzu Y a0 a1 a2 a3 a4) 6 [.yld Y.l,XM 1,XM 2,XM 3,XM 4,XM 5] [(0,.tok Y.τ (tokP false (az1 qv))),(1,.box [XK 6 az3 a0]),(2,.box [XK 6 az3 a1]),(3,.box [pz a2]),(4,.box [pz a3]),(5,.box [XK 3 az1 a4])] (λ_=>.tup []) (λr=>[(0,.tok Y.τ (tokP r.1 (az1 r.2.1))),(1,.box [XK 6 az3 r.2.2.1]),(2,.box [XK 6 az3 r.2.2.2.1]),(3,.box [pz r.2.2.2.2.1]),(4,.box [pz r.2.2.2.2.2.1]),(5,.box [XK 3 az1 r.2.2.2.2.2.2])])
def nza (c:B3)(d:Int)(e:B3)(f:Int)(_a4:Ax)(x:Aw):T Bool:=
 .cc (mzd x c d e f) λg=>.br g (.km true) (.km false)
def tze (a0:B3)(a1:Int)(a2:B3)(a3:Int)(a4:Ax):CallS B1:=
 mkR (encX:=az1) [⟨204,az4x⟩] hd Tryz.func167 (by kernel_rfl) (.call (jz3 a0 a1 a2 a3 a4) [] λy1=>.km y1) (nza a0 a1 a2 a3 a4) [(0,.box [XK 6 az3 a0]),(64,.box [pz a1]),(128,.box [XK 6 az3 a2]),(192,.box [pz a3]),(256,.box [pz 0,pz 0,pz 0]),(320,.box [.ff])] (λp=>[(0,.box [XK 6 az3 a0]),(64,.box [pz a1]),(128,.box [XK 6 az3 a2]),(192,.box [pz a3]),(256,.box (p.cells.map .pure)),(320,.box [.tt])]) [(0,960),(1,832),(2,833),(3,834),(4,835),(5,836)] (λr=>r.1) (λr=>r.2.1) (λy1 Y=>hzt Y y1.1 y1.2.1 y1.2.2.1 y1.2.2.2.1 y1.2.2.2.2) (.km ((0,0,0),false)) (λx=>(x,true)) (λ_ _=>rfl) 0 [XK 6 az3 a0,pz a1,XK 6 az3 a2,pz a3,XK 3 az1 a4] [] (λr=>.tup [.pure (az1 r.1),XJ r.2]) XL (by kernel_rfl)
def rz9 (c:B3)(d:A1):T (B2×Int×Bool):=let e:=encL 6 az3 c;let f:=encL 1 az2 d;let g:=(d.length:Int);.cut 2 (λ(h:Bool)=>⟨[(0,.pure e),(1,.pure f),(4,XM 0),(22,XJ h)],[(0,.box [pz 0,pz 0,pz 0,pz 0,pz 0,pz 0])],[],1⟩) (.cc (ez4 c) λh=>.br (!h) (.oo true) (.oo (g !=(c.length:Int)))) λh=>.br h (.km (((⟨0,0⟩:az0),(⟨0,0⟩:az0),(⟨0,0⟩:az0)),0,false)) (.loop (λ(i:(Int×Int×Int×Int×Int×Int×Int×Int))=>⟨[(0,.pure e),(4,XM 0),(7,XM 1),(8,pz i.2.2.2.2.2.2.1),(24,.pure f),(25,pz g),(26,pz i.2.2.2.2.2.2.2)],[(0,.box [pz 0,pz 0,pz 0,pz 0,pz 0,pz 0]),(1,.box [pz i.1,pz i.2.1,pz i.2.2.1,pz i.2.2.2.1,pz i.2.2.2.2.1,pz i.2.2.2.2.2.1])],[],2⟩) (.exit 0) (λ(i:Bg)=>⟨[(4,XM 0),(7,XM 1),(8,pz i.2.2.2.2.2.2)],[(0,.box [pz 0,pz 0,pz 0,pz 0,pz 0,pz 0]),(1,.box [pz i.1,pz i.2.1,pz i.2.2.1,pz i.2.2.2.1,pz i.2.2.2.2.1,pz i.2.2.2.2.2.1])],[],2⟩) (λi=>let j:=(i.2.2.2.2.2.2.2).toNat;let k:=d.getD j qv;let m:=c.getD j qv;.br (qw (i.2.2.2.2.2.2.2<g)) (.gh i.2.2.2.2.2.2.2 d.length<|.cut 1 (λ(n:Bool)=>⟨[(0,.pure e),(4,XM 0),(7,XM 1),(8,pz i.2.2.2.2.2.2.1),(9,pz i.2.2.2.2.2.2.2),(10,pz k),(24,.pure f),(25,pz g),(26,pz i.2.2.2.2.2.2.2),(36,XJ n)],[(0,.box [pz 0,pz 0,pz 0,pz 0,pz 0,pz 0]),(1,.box [pz i.1,pz i.2.1,pz i.2.2.1,pz i.2.2.2.1,pz i.2.2.2.2.1,pz i.2.2.2.2.2.1])],[],2⟩) (.br (qw (k<0)) (.oo true) (.oo (qw (k>65536)))) λn=>.br n (.ff (((⟨0,0⟩:az0),(⟨0,0⟩:az0),(⟨0,0⟩:az0)),0,false)) (.gh i.2.2.2.2.2.2.2 c.length<|.unroll 4<|.kj<|.j8<|.j8<|.name 14007 ((qu.wrap (k * (m.1.Lo)))) λs=>.name 14008 ((qu.wrap (i.1+s))) λt=>.j8<|.j8<|.name 15007 ((qu.wrap (k * (m.1.Hi)))) λw=>.name 15008 ((qu.wrap (i.2.1+w))) λy=>.j8<|.lit 16000 1<|.kj<|.j9<|.j9<|.name 14007 ((qu.wrap (k * (m.2.1.Lo)))) λz=>.name 14008 ((qu.wrap (i.2.2.1+z))) λaa=>.j9<|.j9<|.name 15007 ((qu.wrap (k * (m.2.1.Hi)))) λab=>.name 15008 ((qu.wrap (i.2.2.2.1+ab))) λac=>.j9<|.lit 16000 2<|.kj<|.ka<|.ka<|.name 14007 ((qu.wrap (k * (m.2.2.Lo)))) λad=>.name 14008 ((qu.wrap (i.2.2.2.2.1+ad))) λae=>.ka<|.ka<|.name 15007 ((qu.wrap (k * (m.2.2.Hi)))) λaf=>.name 15008 ((qu.wrap (i.2.2.2.2.2.1+af))) λag=>.ka<|.lit 16000 3<|.kl<|.nn (t,y,aa,ac,ae,ag,(qu.wrap (i.2.2.2.2.2.2.1+k)),(qu.wrap (i.2.2.2.2.2.2.2+1))))) (.oo (i.1,i.2.1,i.2.2.1,i.2.2.2.1,i.2.2.2.2.1,i.2.2.2.2.2.1,i.2.2.2.2.2.2.1))) (0,0,0,0,0,0,0,0) [] λi=>.cut 1 (λ(j:Bool)=>⟨[(4,XM 0),(7,XM 1),(8,pz i.2.2.2.2.2.2),(78,XJ j)],[(0,.box [pz 0,pz 0,pz 0,pz 0,pz 0,pz 0]),(1,.box [pz i.1,pz i.2.1,pz i.2.2.1,pz i.2.2.2.1,pz i.2.2.2.2.1,pz i.2.2.2.2.2.1])],[],2⟩) (.br (qw (i.2.2.2.2.2.2<1)) (.oo true) (.oo (qw (i.2.2.2.2.2.2>65536)))) λj=>.br j (.km (((⟨0,0⟩:az0),(⟨0,0⟩:az0),(⟨0,0⟩:az0)),0,false)) (.km (((⟨i.1,i.2.1⟩:az0),(⟨i.2.2.1,i.2.2.2.1⟩:az0),(⟨i.2.2.2.2.1,i.2.2.2.2.2.1⟩:az0)),i.2.2.2.2.2.2,true)))
def rz8 (c)(d):=
 mkD Tryz.func265 (rz9 c d) 0 [XK 6 az3 c,XK 1 az2 d] [] (λr=>.tup [.pure (az3 r.1),pz r.2.1,XJ r.2.2]) XL
def lz2 (c:Int):T Bool:=
 .br (qw (c>=0)) (.km (qw (c<=1048576))) (.km false)
def lz1 (c):=
 mkD Tryz.func266 (lz2 c) 0 [pz c] [] XJ XL
def lz0 (c:A1):T Int:=let d:=(c.length:Int);.loop (λ(e:Aq)=>⟨[(3,pz e.1),(6,XK 1 az2 c),(7,pz d),(8,pz e.2)],[],[],0⟩) (.exit 0) (λ(e:Int)=>⟨[(3,pz e)],[],[],0⟩) (λe=>let f:=c.getD (XI e.2) qv;.br (qw (e.2<d)) (.gh e.2 c.length<|.nn ((max (max e.1 f) (qu.wrap (0-f))),(qu.wrap (e.2+1)))) (.oo e.1)) (0,0) [] λe=>.km e
def iz1 (c):=
 mkD Tryz.func267 (lz0 c) 0 [XK 1 az2 c] [] pz XL
def ozo (c:A1)(d:A1)(e:B3)(f:Int)(g:B3)(h:Int):T Ar:=let i:=qu.wrap (f+h);.cc (rz8 e c) λj=>.cc (rz8 g d) λk=>let m:=([(qu.wrap (j.1.1.Lo-k.1.1.Hi)),(qu.wrap (j.1.1.Hi-k.1.1.Lo))]:A1);let n:=([(qu.wrap (j.1.2.1.Lo-k.1.2.1.Hi)),(qu.wrap (j.1.2.1.Hi-k.1.2.1.Lo))]:A1);let s:=([(qu.wrap (j.1.2.2.Lo-k.1.2.2.Hi)),(qu.wrap (j.1.2.2.Hi-k.1.2.2.Lo))]:A1);
 .cut 1 (λ(t:Bool)=>⟨[(3,pz f),(5,pz h),(12,XM 0),(13,XM 1),(14,XM 2),(15,pz j.2.1),(17,XM 3),(59,XJ t)],[(0,.box [pz 0]),(1,.box [.ff]),(2,.box [pz j.1.1.Lo,pz j.1.1.Hi,pz j.1.2.1.Lo,pz j.1.2.1.Hi,pz j.1.2.2.Lo,pz j.1.2.2.Hi]),(3,.box [pz k.1.1.Lo,pz k.1.1.Hi,pz k.1.2.1.Lo,pz k.1.2.1.Hi,pz k.1.2.2.Lo,pz k.1.2.2.Hi])],[.func 264 [] [XM 0,XM 1]],4⟩) (.br (!j.2.2) (.oo true) (.br (!k.2.2) (.oo true) (.br (j.2.1 !=k.2.1) (.oo true) (.cc (lz1 f) λt=>.br (!t) (.oo true) (.cc (lz1 h) λw=>.oo (!w)))))) λt=>.br t (.km (0,false)) (.unroll 4<|.kj<|.j8<|.j8<|.j8<|.j8<|.conv 11018 (cz0 1 az2 m 2)<|.cc (iz1 m) λw=>let y:=qu.wrap ((qu.wrap ((qu.wrap (w+j.2.1))-1)).tdiv j.2.1);
 .grd (j.2.1≠0)<|.br (qw (y>i)) (.km ((-1),true)) (.name 15003 ((qu.wrap (y * y))) λz=>.name 15004 ((qu.wrap ((qu.wrap (i * i))-z))) λaa=>.lit 16000 1<|.kj<|.j9<|.j9<|.j9<|.j9<|.conv 11018 (cz0 1 az2 n 2)<|.cc (iz1 n) λab=>let ac:=qu.wrap ((qu.wrap ((qu.wrap (ab+j.2.1))-1)).tdiv j.2.1);
 .grd (j.2.1≠0)<|.br (qw (ac>i)) (.km ((-1),true)) (.name 15003 ((qu.wrap (ac * ac))) λad=>.name 15004 ((qu.wrap (aa-ad))) λae=>.lit 16000 2<|.kj<|.ka<|.ka<|.ka<|.ka<|.conv 11018 (cz0 1 az2 s 2)<|.cc (iz1 s) λaf=>let ag:=qu.wrap ((qu.wrap ((qu.wrap (af+j.2.1))-1)).tdiv j.2.1);
 .grd (j.2.1≠0)<|.br (qw (ag>i)) (.km ((-1),true)) (.name 15003 ((qu.wrap (ag * ag))) λah=>.name 15004 ((qu.wrap (ae-ah))) λai=>.lit 16000 3<|.kl<|.km (ai,true)))))
def yz1 (c)(d)(e)(f)(g)(h):=
 mkC [⟨264,az50⟩] hd Tryz.func213 (by kernel_rfl) (ozo c d e f g h) 0 [XK 1 az2 c,XK 1 az2 d,XK 6 az3 e,pz f,XK 6 az3 g,pz h] [] (λr=>.tup [pz r.1,XJ r.2]) XL (by kernel_rfl)
def kzz (c:A1)(d:A1)(e:B3)(f:Int)(g:B3)(h:Int):T Bool:=
 .cc (yz1 c d e f g h) λi=>.br i.2 (.km (qw (i.1>=0))) (.km false)
def kzy (c)(d)(e)(f)(g)(h):=
 mkC [⟨212,az4y⟩] hd Tryz.func170 (by kernel_rfl) (kzz c d e f g h) 0 [XK 1 az2 c,XK 1 az2 d,XK 6 az3 e,pz f,XK 6 az3 g,pz h] [] XJ XL (by kernel_rfl)
def Eze (c:fz5):T dzv:=
 .km (⟨2,nl,c.witness⟩:dzv)
def Ezd (c):=
 mkD Tryz.func171 (Eze c) 0 [.iface 258 (.pure (yzc c))] [] (λr=>.pure (vzs r)) XL
def Bzq (c:bzx):T dzv:=
 .km (⟨1,c.normals,(⟨0,nl,nl⟩:bze)⟩:dzv)
def Bzp (c):=
 mkD Tryz.func171 (Bzq c) 0 [.iface 260 (.pure (hz1 c))] [] (λr=>.pure (vzs r)) XL
def szo (c:azd)(d:Ag)(e:Ax):T dzv:=let f:=encL 3 az1 e;let g:=(e.length:Int);.cc (oz9 (⟨c.Xe,c.Xc,c.Xj⟩:azd) d) λh=>let i:=(h.1.pairs.length:Int);let j:Nat×Res:=(4,.box [XK 3 azm h.1.shapes,XK 2 ez9 h.1.pairs,XK 1 (encL 6 az3) h.1.points]);
 .br (!h.2) (.km (⟨0,nl,(⟨0,nl,nl⟩:bze)⟩:dzv)) (.conv 5003 (Nz5 3 az1 96 i.toNat (0,0,0))<|.grd (0<=i/\i<=i/\i<=9223372036854775807/\i * 24<=140737488355328)<|.loop (λ(k:(Ax×Bool×Int))=>⟨[(2,.pure f),(6,XM 0),(7,XM 4),(9,.vec 5),(10,XJ k.2.1),(33,pz i),(34,pz k.2.2)],[(0,.box [pz 0,.vec 1,pz 0,.vec 2,.vec 3]),(1,.nilv),(2,.nilv),(3,.nilv),j,(5,vecO 3 az1 k.1 96)],[.func 164 [] [XM 0]],6⟩) (.exit 0) (λ(k:(Ax×Bool))=>⟨[(6,XM 0),(9,.vec 4),(10,XJ k.2)],[(0,.box [pz 0,.vec 1,pz 0,.vec 2,.vec 3]),(1,.nilv),(2,.nilv),(3,.nilv),(4,vecO 3 az1 k.1 96)],[.func 164 [] [XM 0]],5⟩) (λk=>let m:=k.2.2;let n:=min k.2.2 g;let s:=qu.wrap (k.2.2+1);let t:=min s g;.br (qw (k.2.2<i)) (.cut 0 (λ(w:(Ax×Bool))=>⟨[(2,.pure f),(6,XM 0),(7,XM 4),(9,.vec 5),(10,XJ w.2),(33,pz i),(34,pz k.2.2)],[(0,.box [pz 0,.vec 1,pz 0,.vec 2,.vec 3]),(1,.nilv),(2,.nilv),(3,.nilv),j,(5,vecO 3 az1 w.1 96)],[.func 164 [] [XM 0]],6⟩) (.cc (pzb (⟨h.1.shapes,h.1.pairs,h.1.points⟩:czk) k.2.2) λw=>.conv 11010 (Gzw 3 az1 e n t)<|.grd (0<=n/\n<=t/\t<=g)<|.call (tze w.a w.ra w.b w.rb ((e.drop (n.toNat)).take (t.toNat-n.toNat))) [] λy=>.br y.2 (.gh k.2.2 k.1.length<|.conv 14004 (fzs 3 az1 k.1 96 (m.toNat) y.1)<|.gi m k.1.length<|.oo ((k.1.set (m.toNat) y.1),k.2.1)) (.cc (dzl w.a) λz=>.cc (dzl w.b) λaa=>.cc (fz0 z aa (qu.wrap (w.ra+w.rb)) 64) λab=>.cc (kzy ab.Left ab.Xx w.a w.ra w.b w.rb) λac=>.br ac (.cc (Ezd (⟨(⟨k.2.2,ab.Left,ab.Xx⟩:bze)⟩:fz5)) λad=>.ff (.fin ad)) (.oo (k.1,false)))) λw=>.nn (w.1,w.2,s)) (.oo (k.1,k.2.1))) ((qt i.toNat ((0,0,0):Aw)),true,0) [] λk=>.br (!k.2) (.km (⟨0,k.1,(⟨0,nl,nl⟩:bze)⟩:dzv)) (.cc (Bzp (⟨k.1⟩:bzx)) λm=>.km m))
def nz2 (c)(d)(e):=
 mkC [⟨164,az4v⟩] hd Tryz.func126 (by kernel_rfl) (szo c d e) 0 [.pure (bzk c),XK 2 azb d,XK 3 az1 e] [] (λr=>.pure (vzs r)) XL (by kernel_rfl)
abbrev szy:=RecS Tryz.prog 124 8 (Int×Int×Ax×A0×Int×A0×Int×Int×Ax×Int×A1×A1×A1×A1×Aa×Ab×Ac×Ad×Int) Bi (λa=>[pz a.1,pz a.2.1,XK 3 az1 a.2.2.1,XM 0,XM 2,XM 3,XM 4,XM 5,XM 6,XM 7]) (λa=>[(0,.box [.vec 1]),(1,vecO 3 azl a.2.2.2.1 80),(2,.box [pz a.2.2.2.2.1,XK 3 azl a.2.2.2.2.2.1,pz a.2.2.2.2.2.2.1,pz a.2.2.2.2.2.2.2.1,XK 3 az1 a.2.2.2.2.2.2.2.2.1,pz a.2.2.2.2.2.2.2.2.2.1,XK 1 az2 a.2.2.2.2.2.2.2.2.2.2.1,XK 1 az2 a.2.2.2.2.2.2.2.2.2.2.2.1]),(3,.box [XK 1 az2 a.2.2.2.2.2.2.2.2.2.2.2.2.1]),(4,.box [XK 1 az2 a.2.2.2.2.2.2.2.2.2.2.2.2.2.1]),(5,.box [XK 12 aze a.2.2.2.2.2.2.2.2.2.2.2.2.2.2.1,XK 5 azk a.2.2.2.2.2.2.2.2.2.2.2.2.2.2.2.1,XK 3 azm a.2.2.2.2.2.2.2.2.2.2.2.2.2.2.2.2.1,XK 2 azu a.2.2.2.2.2.2.2.2.2.2.2.2.2.2.2.2.2.1]),(6,.box [pz a.2.2.2.2.2.2.2.2.2.2.2.2.2.2.2.2.2.2]),(7,.box [.func 124 [] [XM 0,XM 2,XM 3,XM 4,XM 5,XM 6,XM 7]])]) (λ_ r=>XJ r.1) (λ_ r=>[(0,.box [.vec 8]),(1,.gone),(2,.box [pz r.2.2.1,XK 3 azl r.2.2.2.1,pz r.2.2.2.2.1,pz r.2.2.2.2.2.1,XK 3 az1 r.2.2.2.2.2.2.1,pz r.2.2.2.2.2.2.2.1,XK 1 az2 r.2.2.2.2.2.2.2.2.1,XK 1 az2 r.2.2.2.2.2.2.2.2.2.1]),(3,.box [XK 1 az2 r.2.2.2.2.2.2.2.2.2.2.1]),(4,.box [XK 1 az2 r.2.2.2.2.2.2.2.2.2.2.2.1]),(5,.box [XK 12 aze r.2.2.2.2.2.2.2.2.2.2.2.2.1,XK 5 azk r.2.2.2.2.2.2.2.2.2.2.2.2.2.1,XK 3 azm r.2.2.2.2.2.2.2.2.2.2.2.2.2.2.1,XK 2 azu r.2.2.2.2.2.2.2.2.2.2.2.2.2.2.2.1]),(6,.box [pz r.2.2.2.2.2.2.2.2.2.2.2.2.2.2.2.2]),(7,.box [.func 124 [] [XM 0,XM 2,XM 3,XM 4,XM 5,XM 6,XM 7]]),(8,vecO 3 azl r.2.1 80)])
def szz (rec:szy)(c:Int)(d:Int)(e:Ax)(f:A0)(g:Int)(h:A0)(i:Int)(j:Int)(k:Ax)(m:Int)(n:A1)(s:A1)(t:A1)(w:A1)(y:Aa)(z:Ab)(aa:Ac)(ab:Ad)(ac:Int):T Bi:=let ad:=qu.wrap (c+1);let ae:=qu.wrap (2 * d);.br (qw ((f.length:Int)>=4096)) (.km (false,f,0,nl,c,d,nl,0,nl,nl,t,w,y,z,aa,ab,ac)) (.cc (nz3 t w c d) λaf=>.cc (nz2 (⟨(⟨y,z⟩:azn),aa,ab⟩:azd) af.1 e) λag=>let ah:=([(⟨c,d,ag.Xf⟩:az6)]:A0);let ai:=f.length+ah.length;
 .br (ag.Xl==1) (.conv 8006 (cz0 3 azl ah 80)<|.conv 8007 (dz6 3 azl f ah 80)<|.grd (ai * 40<=140737488355328/\ai<=maxLen)<|.km (true,(f++ah),g,h,i,j,k,m,n,s,t,w,y,z,aa,ab,ac)) (.br (ag.Xl==2) (.km (false,f,2,nl,c,d,nl,ag.Xk.XC,ag.Xk.Left,ag.Xk.Xx,t,w,y,z,aa,ab,ac)) (.br (qw (c<ac)) (.call (rec.C (ad,ae,ag.Xf,f,g,h,i,j,k,m,n,s,t,w,y,z,aa,ab,ac)) [(0,0),(1,1),(2,2),(3,3),(4,4),(5,5),(6,6),(7,7)] λaj=>.br aj.1 (.call (rec.C (ad,(qu.wrap (ae+1)),ag.Xf,aj.2.1,aj.2.2.1,aj.2.2.2.1,aj.2.2.2.2.1,aj.2.2.2.2.2.1,aj.2.2.2.2.2.2.1,aj.2.2.2.2.2.2.2.1,aj.2.2.2.2.2.2.2.2.1,aj.2.2.2.2.2.2.2.2.2.1,aj.2.2.2.2.2.2.2.2.2.2.1,aj.2.2.2.2.2.2.2.2.2.2.2.1,aj.2.2.2.2.2.2.2.2.2.2.2.2.1,aj.2.2.2.2.2.2.2.2.2.2.2.2.2.1,aj.2.2.2.2.2.2.2.2.2.2.2.2.2.2.1,aj.2.2.2.2.2.2.2.2.2.2.2.2.2.2.2.1,aj.2.2.2.2.2.2.2.2.2.2.2.2.2.2.2.2)) [(0,0),(1,2824),(2,2),(3,3),(4,4),(5,5),(6,6),(7,7)] λak=>.km (ak.1,ak.2.1,ak.2.2.1,ak.2.2.2.1,ak.2.2.2.2.1,ak.2.2.2.2.2.1,ak.2.2.2.2.2.2.1,ak.2.2.2.2.2.2.2.1,ak.2.2.2.2.2.2.2.2.1,ak.2.2.2.2.2.2.2.2.2.1,ak.2.2.2.2.2.2.2.2.2.2.1,ak.2.2.2.2.2.2.2.2.2.2.2.1,ak.2.2.2.2.2.2.2.2.2.2.2.2.1,ak.2.2.2.2.2.2.2.2.2.2.2.2.2.1,ak.2.2.2.2.2.2.2.2.2.2.2.2.2.2.1,ak.2.2.2.2.2.2.2.2.2.2.2.2.2.2.2.1,ak.2.2.2.2.2.2.2.2.2.2.2.2.2.2.2.2)) (.km (false,aj.2.1,aj.2.2.1,aj.2.2.2.1,aj.2.2.2.2.1,aj.2.2.2.2.2.1,aj.2.2.2.2.2.2.1,aj.2.2.2.2.2.2.2.1,aj.2.2.2.2.2.2.2.2.1,aj.2.2.2.2.2.2.2.2.2.1,aj.2.2.2.2.2.2.2.2.2.2.1,aj.2.2.2.2.2.2.2.2.2.2.2.1,aj.2.2.2.2.2.2.2.2.2.2.2.2.1,aj.2.2.2.2.2.2.2.2.2.2.2.2.2.1,aj.2.2.2.2.2.2.2.2.2.2.2.2.2.2.1,aj.2.2.2.2.2.2.2.2.2.2.2.2.2.2.2.1,aj.2.2.2.2.2.2.2.2.2.2.2.2.2.2.2.2))) (.km (false,f,0,nl,c,d,nl,0,nl,nl,t,w,y,z,aa,ab,ac)))))
def hzk:szy->szy:=RecS.next [] hd Tryz.func124 (by kernel_rfl) (λrec a=>szz rec a.1 a.2.1 a.2.2.1 a.2.2.2.1 a.2.2.2.2.1 a.2.2.2.2.2.1 a.2.2.2.2.2.2.1 a.2.2.2.2.2.2.2.1 a.2.2.2.2.2.2.2.2.1 a.2.2.2.2.2.2.2.2.2.1 a.2.2.2.2.2.2.2.2.2.2.1 a.2.2.2.2.2.2.2.2.2.2.2.1 a.2.2.2.2.2.2.2.2.2.2.2.2.1 a.2.2.2.2.2.2.2.2.2.2.2.2.2.1 a.2.2.2.2.2.2.2.2.2.2.2.2.2.2.1 a.2.2.2.2.2.2.2.2.2.2.2.2.2.2.2.1 a.2.2.2.2.2.2.2.2.2.2.2.2.2.2.2.2.1 a.2.2.2.2.2.2.2.2.2.2.2.2.2.2.2.2.2.1 a.2.2.2.2.2.2.2.2.2.2.2.2.2.2.2.2.2.2) (λrec a=>by kernel_rfl)
def Cz2 (a0:Int)(a1:Int)(a2:Ax)(a3:A0)(a4:Int)(a5:A0)(a6:Int)(a7:Int)(a8:Ax)(a9:Int)(a10:A1)(a11:A1)(a12:A1)(a13:A1)(a14:Aa)(a15:Ab)(a16:Ac)(a17:Ad)(a18:Int):CallS Bi:=(RecS.fix hzk NN).C (a0,a1,a2,a3,a4,a5,a6,a7,a8,a9,a10,a11,a12,a13,a14,a15,a16,a17,a18)
def nzn (c:azd)(d:A1)(e:A1)(f:Int):T azo:=let g:=encL 1 az2 d;let h:=encL 1 az2 e;let i:Nat×Res:=(0,.box [XK 12 aze c.Xe.Xa,XK 5 azk c.Xe.Xi,XK 3 azm c.Xc,XK 2 azu c.Xj]);.unroll 1000<|.cut 2 (λ(j:Bool)=>⟨[(4,XM 0),(5,XM 1),(6,XM 2),(7,XM 3),(8,XM 4),(28,XJ j)],[i,(1,.box [.pure g]),(2,.box [.pure h]),(3,.box [pz f]),(4,.box [pz 0,.pure (.lst 0 0 λ_=>.unk),pz 0,pz 0,.pure (.lst 0 0 λ_=>.unk),pz 0,.pure (.lst 0 0 λ_=>.unk),.pure (.lst 0 0 λ_=>.unk)])],[.func 122 [] [XM 4]],5⟩) (.cc (ezb c) λj=>.br (j !=0) (.oo true) (.cc (gzh c.Xe d) λk=>.br (!k) (.oo true) (.cc (gzh c.Xe e) λm=>.oo (!m)))) λj=>.br j (.km (⟨0,nl,(⟨0,0,nl⟩:az6),(⟨0,nl,nl⟩:bze)⟩:azo)) (.cut 1 (λ(k:Bool)=>⟨[(4,XM 0),(5,XM 1),(6,XM 2),(7,XM 3),(8,XM 4),(35,XJ k)],[i,(1,.box [.pure g]),(2,.box [.pure h]),(3,.box [pz f]),(4,.box [pz 0,.pure (.lst 0 0 λ_=>.unk),pz 0,pz 0,.pure (.lst 0 0 λ_=>.unk),pz 0,.pure (.lst 0 0 λ_=>.unk),.pure (.lst 0 0 λ_=>.unk)])],[.func 122 [] [XM 4]],5⟩) (.br (qw (f<0)) (.oo true) (.oo (qw (f>20)))) λk=>.br k (.km (⟨0,nl,(⟨0,0,nl⟩:az6),(⟨0,nl,nl⟩:bze)⟩:azo)) (.cut 3 (λ(m:(Int×A0×Int×Int×Ax×Int×A1×A1))=>⟨[(8,XM 0)],[(0,.box [pz m.1,XK 3 azl m.2.1,pz m.2.2.1,pz m.2.2.2.1,XK 3 az1 m.2.2.2.2.1,pz m.2.2.2.2.2.1,XK 1 az2 m.2.2.2.2.2.2.1,XK 1 az2 m.2.2.2.2.2.2.2])],[.func 122 [] [XM 0]],1⟩) (.call (Cz2 0 0 nl nl 0 nl 0 0 nl 0 nl nl d e c.Xe.Xa c.Xe.Xi c.Xc c.Xj f) [(0,5),(1,6),(2,4),(3,1),(4,2),(5,0),(6,3),(7,69)] λm=>.br m.1 (.oo (1,m.2.1,0,0,nl,0,nl,nl)) (.oo (m.2.2.1,m.2.2.2.1,m.2.2.2.2.1,m.2.2.2.2.2.1,m.2.2.2.2.2.2.1,m.2.2.2.2.2.2.2.1,m.2.2.2.2.2.2.2.2.1,m.2.2.2.2.2.2.2.2.2.1))) λm=>.km (⟨m.1,m.2.1,(⟨m.2.2.1,m.2.2.2.1,m.2.2.2.2.1⟩:az6),(⟨m.2.2.2.2.2.1,m.2.2.2.2.2.2.1,m.2.2.2.2.2.2.2⟩:bze)⟩:azo)))
def iz6 (c)(d)(e)(f):=
 mkC [⟨122,az4s⟩] hd Tryz.func85 (by kernel_rfl) (nzn c d e f) 0 [.pure (bzk c),XK 1 az2 d,XK 1 az2 e,pz f] [] (λr=>.pure (gz6 r)) XL (by kernel_rfl)
def uz9 (c:bzf):T Aq:=
 .cc (ezb c.scene) λd=>.br (d !=0) (.km (0,904)) (.km (0,0))
def Czy (c):=
 mkD Tryz.func215 (uz9 c) 0 [.pure (gzb c)] [] (λr=>.tup [pz r.1,pz r.2]) XL
def qzz (c:bzf):T Aq:=
 .cut 2 (λ(d:Bool)=>⟨[(19,XJ d)],[],[],0⟩) (.cc (gzh c.scene.Xe c.p) λd=>.br (!d) (.oo true) (.cc (gzh c.scene.Xe c.q) λe=>.oo (!e))) λd=>.br d (.km (0,1201)) (.km (0,0))
def Azn (c):=
 mkD Tryz.func216 (qzz c) 0 [.pure (gzb c)] [] (λr=>.tup [pz r.1,pz r.2]) XL
open Go.Proofs
def rz0 (c:bzf):T Aq:=let d:=encL 3 azl c.pieces;let e:=(c.pieces.length:Int);let f:Nat×Res:=(0,.box [XK 12 aze c.scene.Xe.Xa,XK 5 azk c.scene.Xe.Xi,XK 3 azm c.scene.Xc,XK 2 azu c.scene.Xj,XK 1 az2 c.p,XK 1 az2 c.q,.pure d]);.loop (λ(g:Aq)=>⟨[(1,XM 0),(4,pz g.1),(9,.pure d),(10,pz e),(11,pz g.2)],[f],[],1⟩) (.exit 0) (λ(g:Int)=>⟨[(1,XM 0),(4,pz g)],[f],[],1⟩) (λg=>let h:=c.pieces.getD (XI g.2) qv;let i:=h.Xg;let j:=h.Xh;let k:=min i.toNat 64;let m:=(1048576:Int).fdiv (2 ^ k);let n:Nat×Res:=(1,.box [pz i,pz j,XK 3 az1 (h.Xf)]);.br (qw (g.2<e)) (.gh g.2 c.pieces.length<|.cut 1 (λ(s:Bool)=>⟨[(1,XM 0),(4,pz g.1),(5,pz g.2),(6,XM 1),(9,.pure d),(10,pz e),(11,pz g.2),(27,XJ s)],[f,n],[],2⟩) (.br (g.2==4096) (.oo true) (.br (qw (i<0)) (.oo true) (.oo (qw (i>20))))) λs=>.br s (.ff (g.2,2001)) (.cut 1 (λ(t:Bool)=>⟨[(1,XM 0),(4,pz g.1),(5,pz g.2),(6,XM 1),(9,.pure d),(10,pz e),(11,pz g.2),(39,XJ t)],[f,n],[],2⟩) (.br (qw (j<0)) (.oo true) (.grd (0<=i)<|.oo (qw (j>=(qu.wrap (1 * 2 ^ k)))))) λt=>.br t (.ff (g.2,2001)) (.grd (0<=i)<|.name 10003 ((qu.wrap (j * m))) λw=>.br (w !=g.1) (.ff (g.2,2001)) (.name 12002 ((qu.wrap (g.1+m))) λy=>.nn (y,(qu.wrap (g.2+1))))))) (.oo g.1)) (0,0) [] λg=>.br (g !=1048576) (.km (e,2001)) (.km (0,0))
def Azo (c):=
 mkD Tryz.func217 (rz0 c) 0 [.pure (gzb c)] [] (λr=>.tup [pz r.1,pz r.2]) XL
def lzq (c:bzx)(d:czk):T Bool:=let e:=(c.normals.length:Int);.br (e !=(d.pairs.length:Int)) (.km false) (.loop (λ(f:Int)=>⟨[(3,XM 0),(16,XK 3 az1 c.normals),(17,pz e),(18,pz f)],[(0,.box [XK 3 azm d.shapes,XK 2 ez9 d.pairs,XK 1 (encL 6 az3) d.points])],[],1⟩) (.exit 0) XN (λf=>.br (qw (f<e)) (.gh f c.normals.length<|.cc (pzb d f) λg=>.cc (mzd (c.normals.getD (f.toNat) qv) g.a g.ra g.b g.rb) λh=>.br (!h) (.ff false) (.nn (qu.wrap (f+1)))) (.oo .u))
 0 [] λ_=>.km true)
def szd (c)(d):=
 mkD Tryz.func391 (lzq c d) 0 [.pure (hz1 c),.pure (mz3 d)] [] XJ XL
def oz8 (c:azd)(d:Ag)(e:bzx):T Bool:=
 .cc (oz9 c d) λf=>.br f.2 (.cc (szd e f.1) λg=>.km g) (.km false)
def xzo (c)(d)(e):=
 mkD Tryz.func269 (oz8 c d e) 0 [.pure (bzk c),XK 2 azb d,.iface 260 (.pure (hz1 e))] [] XJ XL
def jz0 (c:azd)(d:Ag)(e:Ax):T Bool:=
 .cc (xzo (⟨c.Xe,c.Xc,c.Xj⟩:azd) d (⟨e⟩:bzx)) λf=>.km f
def izz (c)(d)(e):=
 mkC [⟨268,az51⟩] hd Tryz.func219 (by kernel_rfl) (jz0 c d e) 0 [.pure (bzk c),XK 2 azb d,XK 3 az1 e] [] XJ XL (by kernel_rfl)
def lzj (c:bzf):T Aq:=let d:=encL 3 azl c.pieces;let e:=(c.pieces.length:Int);let f:Nat×Res:=(0,.box [XK 12 aze c.scene.Xe.Xa,XK 5 azk c.scene.Xe.Xi,XK 3 azm c.scene.Xc,XK 2 azu c.scene.Xj,XK 1 az2 c.p,XK 1 az2 c.q,.pure d]);.loop (λ(g:Int)=>⟨[(1,XM 0),(9,.pure d),(10,pz e),(11,pz g)],[f],[],1⟩) (.exit 0) XN (λg=>let h:=c.pieces.getD (g.toNat) qv;.br (qw (g<e)) (.gh g c.pieces.length<|.cc (nz3 c.p c.q (h.Xg) (h.Xh)) λi=>.cut 0 (λ(j:Bool)=>⟨[(1,XM 0),(4,pz g),(9,.pure d),(10,pz e),(11,pz g),(38,XJ j)],[f],[],1⟩) (.br (!i.2) (.oo true) (.cc (izz c.scene i.1 (h.Xf)) λj=>.oo (!j))) λj=>.br j (.ff (g,2002)) (.nn (qu.wrap (g+1)))) (.oo .u))
 0 [] λ_=>.km (0,0)
def sz9 (c):=
 mkD Tryz.func218 (lzj c) 0 [.pure (gzb c)] [] (λr=>.tup [pz r.1,pz r.2]) XL
def mz2 (c:azd)(d:A1)(e:A1)(f:A0):T Aq:=let g:=(⟨(⟨c.Xe,c.Xc,c.Xj⟩:azd),d,e,f⟩:bzf);.unroll 5<|.kj<|.gh (0:Int) 4<|.cc (Czy g) λh=>.br (h.2 !=0) (.km (h.1,h.2)) (.lit 9000 1<|.kj<|.gh (1:Int) 4<|.cc (Azn g) λi=>.br (i.2 !=0) (.km (i.1,i.2)) (.lit 9000 2<|.kj<|.gh (2:Int) 4<|.cc (Azo g) λj=>.br (j.2 !=0) (.km (j.1,j.2)) (.lit 9000 3<|.kj<|.gh (3:Int) 4<|.cc (sz9 g) λk=>.br (k.2 !=0) (.km (k.1,k.2)) (.lit 9000 4<|.kl<|.km (0,0)))))
def uzt (c)(d)(e)(f):=
 mkC [⟨214,az4z⟩] hd Tryz.func174 (by kernel_rfl) (mz2 c d e f) 0 [.pure (bzk c),XK 1 az2 d,XK 1 az2 e,XK 3 azl f] [] (λr=>.tup [pz r.1,pz r.2]) XL (by kernel_rfl)
def cz6 (a0:A0):T A0:= (match a0 with
  |[]=>.unroll 1<|.grd (a0.length=0)<|.both (.km nl) (.conv 3000 (cz0 3 azl ([]:A0) 80)<|.conv 3002 (dz6 3 azl ([]:A0) a0 80)<|.grd ((([]:A0).length+a0.length) * 40<=140737488355328/\(([]:A0).length+a0.length)<=maxLen)<|.km (([]:A0)++a0))
  |_::_=>.grd (0<a0.length)<|.conv 3000 (cz0 3 azl ([]:A0) 80)<|.conv 3002 (dz6 3 azl ([]:A0) a0 80)<|.grd ((([]:A0).length+a0.length) * 40<=140737488355328/\(([]:A0).length+a0.length)<=maxLen)<|.km (([]:A0)++a0))
def czr (a0:A0):CallS A0:=
 mkH [] hd Tryz.func150 (by kernel_rfl) (cz6 a0) 0 [XK 3 azl a0] [] (λ_=>.vec 0) (λr=>[(0,vecO 3 azl r 80)]) (by cases a0<;>exact Ob.of_side (by kernel_rfl))
def czo (a0:Ax):T Ax:= (match a0 with
  |[]=>.unroll 1<|.grd (a0.length=0)<|.both (.km nl) (.conv 3000 (cz0 3 az1 ([]:Ax) 96)<|.conv 3002 (dz6 3 az1 ([]:Ax) a0 96)<|.grd ((([]:Ax).length+a0.length) * 24<=140737488355328/\(([]:Ax).length+a0.length)<=maxLen)<|.km (([]:Ax)++a0))
  |_::_=>.grd (0<a0.length)<|.conv 3000 (cz0 3 az1 ([]:Ax) 96)<|.conv 3002 (dz6 3 az1 ([]:Ax) a0 96)<|.grd ((([]:Ax).length+a0.length) * 24<=140737488355328/\(([]:Ax).length+a0.length)<=maxLen)<|.km (([]:Ax)++a0))
def cz3 (a0:Ax):CallS Ax:=
 mkH [] hd Tryz.func151 (by kernel_rfl) (czo a0) 0 [XK 3 az1 a0] [] (λr=>XK 3 az1 r) XL (by cases a0<;>exact Ob.of_side (by kernel_rfl))
def qz7 (c:A0):T A0:=
 .cc (czr c) λd=>let e:=(d.length:Int);
 .loop (λ(f:Am)=>⟨[(0,.vec 0),(7,pz e),(8,pz f.2)],[(0,vecO 3 azl f.1 80)],[],1⟩) (.exit 0) (λ(f:A0)=>⟨[(0,.vec 0)],[(0,vecO 3 azl f 80)],[],1⟩) (λf=>let g:=(f.2).toNat;let h:=f.1.getD g qv;.br (qw (f.2<e)) (.gg f.2 f.1.length<|.cc (cz3 (h.Xf)) λi=>let j:=(⟨h.Xg,h.Xh,i⟩:az6);
 .gh f.2 f.1.length<|.conv 5010 (fzs 3 azl f.1 80 g j)<|.gi (f.2) f.1.length<|.nn ((f.1.set g j),(qu.wrap (f.2+1)))) (.oo f.1)) (d,0) [] λf=>.km f
def kzd (c):=
 mkD Tryz.func175 (qz7 c) 0 [XK 3 azl c] [] (λr=>XK 3 azl r) XL
def szr (c:azd)(d:A1)(e:A1)(f:az6)(g:az6):T (az6×Bool):=let h:=qu.wrap (f.Xg-1);let i:=qu.wrap (f.Xh.tdiv 2);let j:=([f,g]:A0);let k:=(j.length:Int);let m:Nat×Res:=(0,.box [XK 12 aze c.Xe.Xa,XK 5 azk c.Xe.Xi,XK 3 azm c.Xc,XK 2 azu c.Xj]);.cut 2 (λ(n:Bool)=>⟨[(1,XK 1 az2 d),(2,XK 1 az2 e),(5,XM 0),(8,XM 1),(9,XM 2),(10,XM 3),(40,XJ n)],[m,(1,.box [pz f.Xg,pz f.Xh,XK 3 az1 f.Xf]),(2,.box [pz g.Xg,pz g.Xh,XK 3 az1 g.Xf]),(3,.box [pz 0,pz 0,.vec 4]),(4,.nilv)],[],5⟩) (.br (f.Xg !=g.Xg) (.oo true) (.br (qw (f.Xg<=0)) (.oo true) (.ok ((2:Int)≠0) (by decide)<|.br ((f.Xh.tmod 2) !=0) (.oo true) (.oo (g.Xh !=(qu.wrap (f.Xh+1))))))) λn=>.br n (.km ((⟨0,0,nl⟩:az6),false)) (.ok ((2:Int)≠0) (by decide)<|.cc (nz3 d e h i) λs=>.br (!s.2) (.km ((⟨0,0,nl⟩:az6),false)) (.conv 7002 (cz0 3 azl j 80)<|.loop (λ(t:Int)=>⟨[(5,XM 0),(10,XM 1),(12,XM 3),(13,XK 2 azb s.1),(64,.vec 5),(65,pz k),(66,pz t)],[m,(1,.box [pz 0,pz 0,.vec 2]),(2,.nilv),(3,.box [pz h,pz i,.vec 4]),(4,.nilv),(5,vecO 3 azl j 80)],[],6⟩) (.exit 0) (λ(_:U0)=>⟨[(10,XM 0)],[(0,.box [pz 0,pz 0,.vec 1]),(1,.nilv)],[],2⟩) (λt=>let w:=j.getD (t.toNat) qv;.br (qw (t<k)) (.gg t (j.length)<|.cc (izz c s.1 (w.Xf)) λy=>.br y (.ff ((⟨h,i,w.Xf⟩:az6),true)) (.nn (qu.wrap (t+1)))) (.oo .u))
 0 [] λ_=>.km ((⟨0,0,nl⟩:az6),false)))
def szq (c)(d)(e)(f)(g):=
 mkD Tryz.func176 (szr c d e f g) 0 [.pure (bzk c),XK 1 az2 d,XK 1 az2 e,.pure (azl f),.pure (azl g)] [] (λr=>.tup [.pure (azl r.1),XJ r.2]) XL
def qz6 (c:azd)(d:A1)(e:A1)(f:A0):T A0:=let g:=encL 1 az2 d;let h:=encL 1 az2 e;let i:=encL 3 azl f;let j:=(f.length:Int);let k:Nat×Res:=(0,.box [XK 12 aze c.Xe.Xa,XK 5 azk c.Xe.Xi,XK 3 azm c.Xc,XK 2 azu c.Xj]);.cc (uzt (⟨c.Xe,c.Xc,c.Xj⟩:azd) d e f) λm=>.br (m.2 !=0) (.cc (kzd f) λn=>.km n) (.loop (λ(n:Am)=>⟨[(1,.pure g),(2,.pure h),(4,XM 0),(8,XM 1),(29,.pure i),(30,pz j),(31,pz n.2)],[k,(1,.box [.vec 2]),(2,vecO 3 azl n.1 80)],[.func 173 [] [XM 1]],3⟩) (.exit 0) (λ(n:A0)=>⟨[(8,XM 0)],[(0,.box [.vec 1]),(1,vecO 3 azl n 80)],[.func 173 [] [XM 0]],2⟩) (λn=>let s:=f.getD (XI n.2) qv;.br (qw (n.2<j)) (.gh n.2 f.length<|.loop (λ(t:Ba)=>⟨[(1,.pure g),(2,.pure h),(4,XM 0),(8,XM 1),(12,XM 3),(29,.pure i),(30,pz j),(31,pz n.2)],[k,(1,.box [.vec 2]),(2,vecO 3 azl t.1 80),(3,.box [pz t.2.1,pz t.2.2.1,XK 3 az1 t.2.2.2])],[.func 173 [] [XM 1]],4⟩) (.exit 2) (λ(t:Ba)=>⟨[(1,.pure g),(2,.pure h),(4,XM 0),(8,XM 1),(12,XM 3),(29,.pure i),(30,pz j),(31,pz n.2)],[k,(1,.box [.vec 2]),(2,vecO 3 azl t.1 80),(3,.box [pz t.2.1,pz t.2.2.1,XK 3 az1 t.2.2.2])],[.func 173 [] [XM 1]],4⟩) (λt=>let w:=(t.1.length:Int);let y:=qu.wrap (w-1);.br (qw (w>0)) (.gg y t.1.length<|.call (szq c d e (t.1.getD (y.toNat) qv) (⟨t.2.1,t.2.2.1,t.2.2.2⟩:az6)) [] λz=>.br (!z.2) (.oo (t.1,t.2.1,t.2.2.1,t.2.2.2)) (.conv 12002 (Xzd 3 azl t.1 80 y)<|.grd (0<=y/\y<=w/\0<=y.toNat)<|.nn ((t.1.take (y.toNat)),z.1.Xg,z.1.Xh,z.1.Xf))) (.oo (t.1,t.2.1,t.2.2.1,t.2.2.2))) (n.1,s.Xg,s.Xh,s.Xf) [] λt=>let w:=([(⟨t.2.1,t.2.2.1,t.2.2.2⟩:az6)]:A0);let y:=t.1.length+w.length;
 .conv 13002 (cz0 3 azl w 80)<|.conv 13003 (dz6 3 azl t.1 w 80)<|.grd (y * 40<=140737488355328/\y<=maxLen)<|.nn ((t.1++w),(qu.wrap (n.2+1)))) (.oo n.1)) (nl,0) [] λn=>.cc (kzd n) λs=>.km s)
def yzp (c)(d)(e)(f):=
 mkC [⟨173,az4w⟩] hd Tryz.func129 (by kernel_rfl) (qz6 c d e f) 0 [.pure (bzk c),XK 1 az2 d,XK 1 az2 e,XK 3 azl f] [] (λr=>XK 3 azl r) XL (by kernel_rfl)
def jz9 (c:A0):T azq:=let d:=encL 3 azl c;let e:=(c.length:Int);.loop (λ(f:(Ax×An×B0×Int))=>⟨[(2,XM 0),(3,.map 3),(13,.pure d),(14,pz e),(15,pz f.2.2.2)],[(0,.box [.vec 1,.vec 2]),(1,vecO 3 az1 f.1 96),(2,vecO 3 cz4 f.2.1 162),(3,Ezv [.int .i64 0,.int .i64 0,.int .i64 0] azv f.2.2.1)],[.func 131 [] [XM 0]],4⟩) (.exit 0) (λ(f:(Ax×An))=>⟨[(2,XM 0)],[(0,.box [.vec 1,.vec 2]),(1,vecO 3 az1 f.1 96),(2,vecO 3 cz4 f.2 162)],[.func 131 [] [XM 0]],3⟩) (λf=>let g:=c.getD (XI f.2.2.2) qv;let h:=encL 3 az1 (g.Xf);let i:=(g.Xf.length:Int);let j:Nat×Res:=(4,.box [pz (g.Xg),pz (g.Xh),.vec 5]);.br (qw (f.2.2.2<e)) (.gh f.2.2.2 c.length<|.loop (λ(k:(Ax×B0×A1×Int))=>⟨[(2,XM 0),(3,.map 3),(6,XM 4),(13,.pure d),(14,pz e),(15,pz f.2.2.2),(25,.pure h),(26,pz i),(27,pz k.2.2.2)],[(0,.box [.vec 1,.vec 2]),(1,vecO 3 az1 k.1 96),(2,vecO 3 cz4 f.2.1 162),(3,Ezv [.int .i64 0,.int .i64 0,.int .i64 0] azv k.2.1),j,(5,vecO 1 az2 k.2.2.1 3)],[.func 131 [] [XM 0]],6⟩) (.exit 2) (λ(k:(Ax×B0×A1))=>⟨[(2,XM 0),(3,.map 3),(6,XM 4),(13,.pure d),(14,pz e),(15,pz f.2.2.2)],[(0,.box [.vec 1,.vec 2]),(1,vecO 3 az1 k.1 96),(2,vecO 3 cz4 f.2.1 162),(3,Ezv [.int .i64 0,.int .i64 0,.int .i64 0] azv k.2.1),j,(5,vecO 1 az2 k.2.2 3)],[.func 131 [] [XM 0]],6⟩) (λk=>let m:=(k.1.length:Int);let n:=(g.Xf).getD (XI k.2.2.2) qv;let s:=mdom azv k.2.1 (azv n);let t:=mget azv k.2.1 (azv n);let w:=([n]:Ax);let y:=k.1.length+w.length;.br (qw (k.2.2.2<i)) (.gh k.2.2.2 (g.Xf.length)<|.ok (s=false->PVal.int .i64 t=.int .i64 0) azbf<|.name 10004 (t) λz=>.cut 0 (λ(aa:(Ax×B0×Int))=>⟨[(2,XM 0),(3,.map 3),(6,XM 4),(9,pz aa.2.2),(13,.pure d),(14,pz e),(15,pz f.2.2.2),(25,.pure h),(26,pz i),(27,pz k.2.2.2)],[(0,.box [.vec 1,.vec 2]),(1,vecO 3 az1 aa.1 96),(2,vecO 3 cz4 f.2.1 162),(3,Ezv [.int .i64 0,.int .i64 0,.int .i64 0] azv aa.2.1),j,(5,vecO 1 az2 k.2.2.1 3)],[.func 131 [] [XM 0]],6⟩) (.br (!s) (.conv 13003 (azch [.int .i64 0,.int .i64 0,.int .i64 0] azv k.2.1 n m)<|.conv 14003 (cz0 3 az1 w 96)<|.conv 14004 (dz6 3 az1 k.1 w 96)<|.grd (y * 24<=140737488355328/\y<=maxLen)<|.oo ((k.1++w),((n,m)::k.2.1),m)) (.oo (k.1,k.2.1,z))) λaa=>let ab:=([aa.2.2]:A1);let ac:=k.2.2.1.length+ab.length;
 .conv 15003 (cz0 1 az2 ab 3)<|.conv 15004 (dz6 1 az2 k.2.2.1 ab 3)<|.grd (ac * 8<=140737488355328/\ac<=maxLen)<|.nn (aa.1,aa.2.1,(k.2.2.1++ab),(qu.wrap (k.2.2.2+1)))) (.oo (k.1,k.2.1,k.2.2.1))) (f.1,f.2.2.1,nl,0) [] λk=>let m:=([(⟨g.Xg,g.Xh,k.2.2⟩:czx)]:An);let n:=f.2.1.length+m.length;
 .conv 17003 (cz0 3 cz4 m 162)<|.conv 17004 (dz6 3 cz4 f.2.1 m 162)<|.grd (n * 40<=140737488355328/\n<=maxLen)<|.nn (k.1,(f.2.1++m),k.2.1,(qu.wrap (f.2.2.2+1)))) (.oo (f.1,f.2.1))) (nl,nl,(nl:List (Aw×Int)),0) [] λf=>.km (⟨f.1,f.2⟩:azq)
def gz5 (c):=
 mkC [⟨131,az4t⟩] hd Tryz.func93 (by kernel_rfl) (jz9 c) 0 [XK 3 azl c] [] (λr=>.pure (azy r)) XL (by kernel_rfl)
def tzi (c:fz8)(d:A1)(e:A1):T (azq×Bool):=
 .cc (iz6 c.scene d e c.depth) λf=>.br (f.Xl !=1) (.km ((⟨nl,nl⟩:azq),false)) (.cc (yzp c.scene d e f.Xo) λg=>.cc (gz5 g) λh=>.km (h,true))
def jzh (c)(d)(e):=
 mkD Tryz.func90 (tzi c d e) 0 [.pure (qza c),XK 1 az2 d,XK 1 az2 e] [] (λr=>.tup [.pure (azy r.1),XJ r.2]) XL
def tzg (c:A2)(d:fz8):T (Ao×Int×Int):=let e:=(c.length:Int);let f:=(c.drop (XI (1:Int))).take (e.toNat- (1:Int).toNat);let g:=(f.length:Int);let h:=(⟨d.scene,d.depth⟩:fz8);.conv 2001 (Gzw 1 (encL 1 az2) c (1:Int) e)<|.grd (0<=(1:Int)/\(1:Int)<=e/\e<=e)<|.loop (λ(i:Ap)=>⟨[(0,XK 1 (encL 1 az2) c),(1,.func 90 [.pure (qza h)] []),(7,.vec 0),(13,XK 1 (encL 1 az2) f),(14,pz g),(15,pz i.2)],[(0,vecO 2 azy i.1 118)],[],1⟩) (.exit 0) (λ(i:Ao)=>⟨[(7,.vec 0)],[(0,vecO 2 azy i 118)],[],1⟩) (λi=>let j:=(i.2).toNat;.br (qw (i.2<g)) (.gh i.2 (f.length)<|.gh i.2 c.length<|.call (jzh h (c.getD j qv) (f.getD j qv)) [] λk=>let m:=([k.1]:Ao);let n:=i.1.length+m.length;
 .br (!k.2) (.ff (nl,i.2,2204)) (.conv 8002 (cz0 2 azy m 118)<|.conv 8003 (dz6 2 azy i.1 m 118)<|.grd (n * 48<=140737488355328/\n<=maxLen)<|.nn ((i.1++m),(qu.wrap (i.2+1))))) (.oo i.1)) (nl,0) [] λi=>.km (i,0,0)
def Czj (c)(d):=
 mkD Tryz.func89 (tzg c d) 0 [XK 1 (encL 1 az2) c,.func 90 [.pure (qza d)] []] [] (λr=>.tup [XK 2 azy r.1,pz r.2.1,pz r.2.2]) XL
def czt (a0:A2):T A2:= (match a0 with
  |[]=>.unroll 1<|.grd (a0.length=0)<|.both (.km nl) (.conv 3000 (cz0 1 (encL 1 az2) ([]:A2) 62)<|.conv 3002 (dz6 1 (encL 1 az2) ([]:A2) a0 62)<|.grd ((([]:A2).length+a0.length) * 24<=140737488355328/\(([]:A2).length+a0.length)<=maxLen)<|.km (([]:A2)++a0))
  |_::_=>.grd (0<a0.length)<|.conv 3000 (cz0 1 (encL 1 az2) ([]:A2) 62)<|.conv 3002 (dz6 1 (encL 1 az2) ([]:A2) a0 62)<|.grd ((([]:A2).length+a0.length) * 24<=140737488355328/\(([]:A2).length+a0.length)<=maxLen)<|.km (([]:A2)++a0))
def dzy (a0:A2):CallS A2:=
 mkH [] hd Tryz.func130 (by kernel_rfl) (czt a0) 0 [XK 1 (encL 1 az2) a0] [] (λ_=>.vec 0) (λr=>[(0,vecO 1 (encL 1 az2) r 62)]) (by cases a0<;>exact Ob.of_side (by kernel_rfl))
def fzz (c:A2):T A2:=
 .cc (dzy c) λd=>let e:=(d.length:Int);
 .loop (λ(f:Ae)=>⟨[(0,.vec 0),(7,.vec 0),(8,pz e),(9,pz f.2)],[(0,vecO 1 (encL 1 az2) f.1 62)],[],1⟩) (.exit 0) (λ(f:A2)=>⟨[(0,.vec 0)],[(0,vecO 1 (encL 1 az2) f 62)],[],1⟩) (λf=>let g:=(f.2).toNat;.br (qw (f.2<e)) (.gg f.2 f.1.length<|.cc (bzr (f.1.getD g qv)) λh=>.gh f.2 f.1.length<|.conv 5005 (fzs 1 (encL 1 az2) f.1 62 g h)<|.gi (f.2) f.1.length<|.nn ((f.1.set g h),(qu.wrap (f.2+1)))) (.oo f.1)) (d,0) [] λf=>.km f
def iz2 (c):=
 mkD Tryz.func91 (fzz c) 0 [XK 1 (encL 1 az2) c] [] (λ_=>.vec 0) (λr=>[(0,vecO 1 (encL 1 az2) r 62)])
def zzm (c:azd)(d:A2)(e:Int):T (czy×Int×Int):=let f:=(⟨c.Xe,c.Xc,c.Xj⟩:azd);.cc (rzw f d) λg=>.br (g.2 !=0) (.km ((⟨nl,nl⟩:czy),g.1,g.2)) (.cc (Czj d (⟨f,e⟩:fz8)) λh=>.br (h.2.2 !=0) (.km ((⟨nl,nl⟩:czy),h.2.1,h.2.2)) (.cc (iz2 d) λi=>.km ((⟨i,h.1⟩:czy),0,0)))
def Izl (c)(d)(e):=
 mkC [⟨87,az8h⟩] hd Tryz.func52 (by kernel_rfl) (zzm c d e) 0 [.pure (bzk c),XK 1 (encL 1 az2) d,pz e] [] (λr=>.tup [.pure (vzr r.1),pz r.2.1,pz r.2.2]) XL (by kernel_rfl)
def dzm (a0:Ao):T Ao:= (match a0 with
  |[]=>.unroll 1<|.grd (a0.length=0)<|.both (.km nl) (.conv 3000 (cz0 2 azy ([]:Ao) 118)<|.conv 3002 (dz6 2 azy ([]:Ao) a0 118)<|.grd ((([]:Ao).length+a0.length) * 48<=140737488355328/\(([]:Ao).length+a0.length)<=maxLen)<|.km (([]:Ao)++a0))
  |_::_=>.grd (0<a0.length)<|.conv 3000 (cz0 2 azy ([]:Ao) 118)<|.conv 3002 (dz6 2 azy ([]:Ao) a0 118)<|.grd ((([]:Ao).length+a0.length) * 48<=140737488355328/\(([]:Ao).length+a0.length)<=maxLen)<|.km (([]:Ao)++a0))
def fzh (a0:Ao):CallS Ao:=
 mkH [] hd Tryz.func177 (by kernel_rfl) (dzm a0) 0 [XK 2 azy a0] [] (λ_=>.vec 0) (λr=>[(0,vecO 2 azy r 118)]) (by cases a0<;>exact Ob.of_side (by kernel_rfl))
def ezu (a0:An):T An:= (match a0 with
  |[]=>.unroll 1<|.grd (a0.length=0)<|.both (.km nl) (.conv 3000 (cz0 3 cz4 ([]:An) 162)<|.conv 3002 (dz6 3 cz4 ([]:An) a0 162)<|.grd ((([]:An).length+a0.length) * 40<=140737488355328/\(([]:An).length+a0.length)<=maxLen)<|.km (([]:An)++a0))
  |_::_=>.grd (0<a0.length)<|.conv 3000 (cz0 3 cz4 ([]:An) 162)<|.conv 3002 (dz6 3 cz4 ([]:An) a0 162)<|.grd ((([]:An).length+a0.length) * 40<=140737488355328/\(([]:An).length+a0.length)<=maxLen)<|.km (([]:An)++a0))
def gzv (a0:An):CallS An:=
 mkH [] hd Tryz.func220 (by kernel_rfl) (ezu a0) 0 [XK 3 cz4 a0] [] (λ_=>.vec 0) (λr=>[(0,vecO 3 cz4 r 162)]) (by cases a0<;>exact Ob.of_side (by kernel_rfl))
def hzw (a0:A1):T A1:= (match a0 with
  |[]=>.unroll 1<|.grd (a0.length=0)<|.both (.km nl) (.conv 3000 (cz0 1 az2 ([]:A1) 3)<|.conv 3002 (dz6 1 az2 ([]:A1) a0 3)<|.grd ((([]:A1).length+a0.length) * 8<=140737488355328/\(([]:A1).length+a0.length)<=maxLen)<|.km (([]:A1)++a0))
  |_::_=>.grd (0<a0.length)<|.conv 3000 (cz0 1 az2 ([]:A1) 3)<|.conv 3002 (dz6 1 az2 ([]:A1) a0 3)<|.grd ((([]:A1).length+a0.length) * 8<=140737488355328/\(([]:A1).length+a0.length)<=maxLen)<|.km (([]:A1)++a0))
def lzw (a0:A1):CallS A1:=
 mkH [] hd Tryz.func221 (by kernel_rfl) (hzw a0) 0 [XK 1 az2 a0] [] (λr=>XK 1 az2 r) XL (by cases a0<;>exact Ob.of_side (by kernel_rfl))
def lz4 (c:azq):T (Ax×An):=let d:Nat×Res:=(0,.box [XK 3 az1 c.Xw,XK 3 cz4 c.Xv]);.cc (gzv c.Xv) λe=>let f:=(e.length:Int);
 .loop (λ(g:(An×Int))=>⟨[(1,XM 0),(2,XM 1),(3,.vec 4),(9,.vec 4),(10,pz f),(11,pz g.2)],[d,(1,.box [.vec 2,.vec 3]),(2,.nilv),(3,.nilv),(4,vecO 3 cz4 g.1 162)],[],5⟩) (.exit 0) (λ(g:An)=>⟨[(1,XM 0),(2,XM 1),(3,.vec 4)],[d,(1,.box [.vec 2,.vec 3]),(2,.nilv),(3,.nilv),(4,vecO 3 cz4 g 162)],[],5⟩) (λg=>let h:=(g.2).toNat;let i:=g.1.getD h qv;.br (qw (g.2<f)) (.gg g.2 g.1.length<|.cc (lzw (i.Xn)) λj=>let k:=(⟨i.Xg,i.Xh,j⟩:czx);
 .gh g.2 g.1.length<|.conv 5007 (fzs 3 cz4 g.1 162 h k)<|.gi (g.2) g.1.length<|.nn ((g.1.set h k),(qu.wrap (g.2+1)))) (.oo g.1)) (e,0) [] λg=>.cc (cz3 c.Xw) λh=>.km (h,g)
def rzx (c):=
 mkD Tryz.func178 (lz4 c) 0 [.pure (azy c)] [] (λr=>.agg [XK 3 az1 r.1,.vec 0]) (λr=>[(0,vecO 3 cz4 r.2 162)])
def zzn (c:czy):T (A2×Ao):=let d:Nat×Res:=(0,.box [XK 1 (encL 1 az2) c.Xb,XK 2 azy c.Xd]);.cc (fzh c.Xd) λe=>let f:=(e.length:Int);
 .gst 3 256 (0) (azci 2 azy e 118 1 3 162 rfl)<|.loop (λ(g:(Ao×Nat×Int))=>⟨[(1,XM 0),(2,XM 1),(3,.vec 4),(9,.vec 4),(10,pz f),(11,pz g.2.2)],[d,(1,.box [.vec 2,.vec 3]),(2,.nilv),(3,.nilv),(4,Uzv 2 azy g.1 g.2.1 118 1 3 162 [])],[],5⟩) (.exit 0) (λ(g:Ao)=>⟨[(1,XM 0),(2,XM 1),(3,.vec 4)],[d,(1,.box [.vec 2,.vec 3]),(2,.nilv),(3,.nilv),(4,Mzv 2 azy g 118 1 3 162)],[],5⟩) (λg=>let h:=g.2.2;let i:=h.toNat;.br (qw (g.2.2<f)) (.gh g.2.2 g.1.length<|.unroll 1100<|.grd (g.2.1<=h.toNat/\h.toNat<g.1.length)<|.cc (rzx (g.1.getD i qv)) λj=>let k:=(⟨j.1,j.2⟩:azq);
 .gh g.2.2 g.1.length<|.unroll 1100<|.grd (h.toNat<g.1.length)<|.gst 2 4 (0) (azam 2 azy g.1 118 1 3 162 (g.2.1+1) i [encL 3 az1 j.1,.unk] (encL 3 cz4 j.2) k rfl)<|.grd (h.toNat=g.2.1)<|.nn ((g.1.set i k),(g.2.1+1),(qu.wrap (g.2.2+1)))) (.gst 3 4 (0) (azak 2 azy g.1 118 1 3 162 g.2.1)<|.grd (g.2.1=g.1.length)<|.oo g.1)) (e,0,0) [] λg=>.cc (iz2 c.Xb) λh=>.km (h,g)
def Izm (c):=
 mkD Tryz.func133 (zzn c) 0 [.pure (vzr c)] [] (λ_=>.agg [.vec 0,.vec 1]) (λr=>[(0,vecO 1 (encL 1 az2) r.1 62),(1,Mzv 2 azy r.2 118 1 3 162)])
def fzb (c:A2):T A2:=
 .loop (λ(d:(A2×Int×Int))=>⟨[(0,.vec 0),(2,pz d.2.1),(3,pz d.2.2)],[(0,vecO 1 (encL 1 az2) d.1 62)],[],1⟩) (.exit 0) (λ(d:A2)=>⟨[],[(0,vecO 1 (encL 1 az2) d 62)],[],1⟩) (λd=>let e:=(d.2.1).toNat;let f:=(d.2.2).toNat;let g:=d.1.getD f qv;let h:=d.1.set e g;let i:=d.1.getD e qv;.br (qw (d.2.1<d.2.2)) (.gg d.2.2 d.1.length<|.gg d.2.1 d.1.length<|.gh d.2.1 d.1.length<|.conv 3013 (fzs 1 (encL 1 az2) d.1 62 e g)<|.gi (d.2.1) d.1.length<|.gh d.2.2 (h.length)<|.conv 3015 (fzs 1 (encL 1 az2) h 62 f i)<|.gi (d.2.2) (h.length)<|.nn ((h.set f i),(qu.wrap (d.2.1+1)),(qu.wrap (d.2.2-1)))) (.oo d.1)) (c,0,(qu.wrap ((c.length:Int)-1))) [] λd=>.km d
def iz4 (c):=
 mkD Tryz.func134 (fzb c) 1 [.vec 0] [(0,vecO 1 (encL 1 az2) c 62)] (λ_=>.tup []) (λr=>[(0,vecO 1 (encL 1 az2) r 62)])
def dza (c:Ao):T Ao:=
 .loop (λ(d:(Ao×Int×Int))=>⟨[(0,.vec 0),(2,pz d.2.1),(3,pz d.2.2)],[(0,Mzv 2 azy d.1 118 1 3 162)],[],1⟩) (.exit 0) (λ(d:Ao)=>⟨[],[(0,Mzv 2 azy d 118 1 3 162)],[],1⟩) (λd=>let e:=d.2.2;let f:=d.2.1;let g:=e.toNat;let h:=f.toNat;let i:=d.1.getD h qv;let j:=d.1.getD g qv;.br (qw (d.2.1<d.2.2)) (.gst 0 0 g .none<|.grd (e.toNat<d.1.length)<|.gst 0 0 h .none<|.grd (e.toNat≠f.toNat/\f.toNat<d.1.length)<|.gh d.2.2 d.1.length<|.unroll 1101<|.ok (e.toNat=e.toNat) rfl<|.gh d.2.1 d.1.length<|.unroll 1102<|.ok (f.toNat=f.toNat) rfl<|.gh d.2.1 d.1.length<|.unroll 1102<|.ok (f.toNat=f.toNat) rfl<|.gh d.2.2 d.1.length<|.unroll 1101<|.ok (e.toNat=e.toNat) rfl<|.gst 1 0 (0) .none<|.gst 1 0 (0) .none<|.gst 3 0 (0) (az82 2 azy d.1 118 1 3 162 h g [encL 3 az1 (i.Xw),.unk] [encL 3 az1 (j.Xw),.unk] (encL 3 cz4 (i.Xv)) (encL 3 cz4 (j.Xv)) j i rfl rfl)<|.grd (e.toNat≠f.toNat)<|.nn (((d.1.set h j).set g i),(qu.wrap (d.2.1+1)),(qu.wrap (d.2.2-1)))) (.oo d.1)) (c,0,(qu.wrap ((c.length:Int)-1))) [] λd=>.km d
def ezz (c):=
 mkD Tryz.func135 (dza c) 1 [.vec 0] [(0,Mzv 2 azy c 118 1 3 162)] (λ_=>.tup []) (λr=>[(0,Mzv 2 azy r 118 1 3 162)])
def ezg (c:An):T An:=
 .loop (λ(d:(An×Int×Int))=>⟨[(0,.vec 0),(2,pz d.2.1),(3,pz d.2.2)],[(0,vecO 3 cz4 d.1 162)],[],1⟩) (.exit 0) (λ(d:An)=>⟨[],[(0,vecO 3 cz4 d 162)],[],1⟩) (λd=>let e:=(d.2.1).toNat;let f:=(d.2.2).toNat;let g:=d.1.getD f qv;let h:=d.1.set e g;let i:=d.1.getD e qv;.br (qw (d.2.1<d.2.2)) (.gg d.2.2 d.1.length<|.gg d.2.1 d.1.length<|.gh d.2.1 d.1.length<|.conv 3013 (fzs 3 cz4 d.1 162 e g)<|.gi (d.2.1) d.1.length<|.gh d.2.2 (h.length)<|.conv 3015 (fzs 3 cz4 h 162 f i)<|.gi (d.2.2) (h.length)<|.nn ((h.set f i),(qu.wrap (d.2.1+1)),(qu.wrap (d.2.2-1)))) (.oo d.1)) (c,0,(qu.wrap ((c.length:Int)-1))) [] λd=>.km d
def gz9 (c):=
 mkD Tryz.func136 (ezg c) 1 [.vec 0] [(0,vecO 3 cz4 c 162)] (λ_=>.tup []) (λr=>[(0,vecO 3 cz4 r 162)])
def tzf (c:czy):T czy:=
 .cc (Izm (⟨c.Xb,c.Xd⟩:czy)) λd=>.unroll 998<|.call (iz4 d.1) [(0,320)] λe=>.call (ezz d.2) [(0,321)] λf=>let g:=(f.length:Int);
 .loop (λ(h:Ap)=>⟨[(1,XM 0),(2,XM 3),(17,.vec 2),(18,pz g),(19,pz h.2)],[(0,.box [.vec 1,.vec 2]),(1,vecO 1 (encL 1 az2) e 62),(2,Mzv 2 azy h.1 118 1 3 162),(3,.box [.vec 4,.vec 5]),(4,.nilv),(5,.nilv)],[.func 132 [] [XM 3]],6⟩) (.exit 0) (λ(h:Ao)=>⟨[(1,XM 0),(2,XM 3)],[(0,.box [.vec 1,.vec 2]),(1,vecO 1 (encL 1 az2) e 62),(2,Mzv 2 azy h 118 1 3 162),(3,.box [.vec 4,.vec 5]),(4,.nilv),(5,.nilv)],[.func 132 [] [XM 3]],6⟩) (λh=>let i:=h.2;let j:=i.toNat;let k:=h.1.getD j qv;let m:Nat×Res:=(7,.box [XK 3 az1 (k.Xw),.vec 3]);.br (qw (h.2<g)) (.gst 0 2 j .none<|.grd (i.toNat<h.1.length)<|.gh h.2 h.1.length<|.unroll 1101<|.ok (i.toNat=i.toNat) rfl<|.call (gz9 (k.Xv)) [(0,70)] λn=>let s:=(n.length:Int);
 .loop (λ(t:(An×Int))=>⟨[(1,XM 0),(2,XM 4),(4,XM 7),(17,.vec 2),(18,pz g),(19,pz h.2),(27,.vec 3),(28,pz s),(29,pz t.2)],[(0,.box [.vec 1,.vec 2]),(1,vecO 1 (encL 1 az2) e 62),(2,Uzv 2 azy h.1 h.1.length 118 1 3 162 [(i.toNat,3)]),(3,vecO 3 cz4 t.1 162),(4,.box [.vec 5,.vec 6]),(5,.nilv),(6,.nilv),m],[.func 132 [] [XM 4]],8⟩) (.exit 2) (λ(t:An)=>⟨[(1,XM 0),(2,XM 4),(17,.vec 2),(18,pz g),(19,pz h.2)],[(0,.box [.vec 1,.vec 2]),(1,vecO 1 (encL 1 az2) e 62),(2,Uzv 2 azy h.1 h.1.length 118 1 3 162 [(i.toNat,3)]),(3,vecO 3 cz4 t 162),(4,.box [.vec 5,.vec 6]),(5,.nilv),(6,.nilv)],[.func 132 [] [XM 4]],7⟩) (λt=>let w:=(t.2).toNat;let y:=t.1.getD w qv;let z:=y.Xg;.br (qw (t.2<s)) (.cut 0 (λ(aa:An)=>⟨[(1,XM 0),(2,XM 4),(4,XM 7),(17,.vec 2),(18,pz g),(19,pz h.2),(27,.vec 3),(28,pz s),(29,pz t.2)],[(0,.box [.vec 1,.vec 2]),(1,vecO 1 (encL 1 az2) e 62),(2,Uzv 2 azy h.1 h.1.length 118 1 3 162 [(i.toNat,3)]),(3,vecO 3 cz4 aa 162),(4,.box [.vec 5,.vec 6]),(5,.nilv),(6,.nilv),m],[.func 132 [] [XM 4]],8⟩) (.gg t.2 t.1.length<|.cut 0 (λ(aa:Bool)=>⟨[(1,XM 0),(2,XM 4),(4,XM 7),(5,pz t.2),(6,XM 8),(17,.vec 2),(18,pz g),(19,pz h.2),(27,.vec 3),(28,pz s),(29,pz t.2),(41,XJ aa)],[(0,.box [.vec 1,.vec 2]),(1,vecO 1 (encL 1 az2) e 62),(2,Uzv 2 azy h.1 h.1.length 118 1 3 162 [(i.toNat,3)]),(3,vecO 3 cz4 t.1 162),(4,.box [.vec 5,.vec 6]),(5,.nilv),(6,.nilv),m,(8,.box [pz z,pz (y.Xh),XK 1 az2 (y.Xn)])],[.func 132 [] [XM 4]],9⟩) (.br (qw (z>=0)) (.oo (qw (z<=20))) (.oo false)) λaa=>.br aa (.grd (0<=z)<|.name 13009 ((qu.wrap ((qu.wrap ((qu.wrap (1 * 2 ^ (min z.toNat 64)))-1))- (y.Xh)))) λab=>let ac:=(⟨y.Xg,ab,y.Xn⟩:czx);
 .gh t.2 t.1.length<|.conv 13012 (fzs 3 cz4 t.1 162 w ac)<|.gi (t.2) t.1.length<|.oo (t.1.set w ac)) (.oo t.1)) λaa=>.nn (aa,(qu.wrap (t.2+1)))) (.oo t.1)) (n,0) [] λt=>let w:=(⟨k.Xw,t⟩:azq);
 .gst 1 2 (0) (azan 2 azy h.1 118 1 3 162 j (encL 3 cz4 t) w rfl)<|.nn ((h.1.set j w),(qu.wrap (h.2+1)))) (.oo h.1)) (f,0) [] λh=>.km (⟨e,h⟩:czy)
def Czi (c):=
 mkC [⟨132,az4u⟩] hd Tryz.func94 (by kernel_rfl) (tzf c) 0 [.pure (vzr c)] [] (λr=>.pure (vzr r)) XL (by kernel_rfl)
def uzf (c:azi)(d:Int)(e:Int):T azq:=let f:=c.Xd.getD (d.toNat) qv;let g:=([(c.Xb.getD (XI f.U) qv),(c.Xb.getD (XI f.V) qv)]:A2);.gh d c.Xd.length<|.cc (gz5 (f.Xm.Xo)) λh=>let i:=([h]:Ao);
 .br (e==(f.U)) (.km h) (.gh (f.U) c.Xb.length<|.gh (f.V) c.Xb.length<|.conv 5012 (cz0 1 (encL 1 az2) g 62)<|.conv 5014 (cz0 2 azy i 118)<|.call (Czi (⟨g,i⟩:czy)) [] λj=>.gh (0:Int) j.Xd.length<|.km (j.Xd.getD (XI (0:Int)) qv))
def Dz2 (c)(d)(e):=
 mkD Tryz.func54 (uzf c d e) 0 [.pure (dzt c),pz d,pz e] [] (λr=>.pure (azy r)) XL
def pzq (c:azd)(d:azi)(e:dzs):T (czy×Bool):=let f:=encL 12 az5 d.Xd;let g:=encL 1 az2 e.Xr;let h:=(e.Xr.length:Int);let i:=encL 1 (encL 1 az2) d.Xb;let j:Nat×Res:=(1,.box [.pure i,.pure f]);let k:Nat×Res:=(0,.box [.pure i,.pure f]);let m:Nat×Res:=(2,.box [.pure g,pz e.Xu]);let n:Nat×Res:=(1,.box [.pure g,pz e.Xu]);let s:=(⟨d.Xb,d.Xd⟩:azi);let t:=(e.Xr.drop (XI (1:Int))).take (h.toNat- (1:Int).toNat);let w:=encL 1 az2 t;let y:Nat×Res:=(0,.box [XK 12 aze c.Xe.Xa,XK 5 azk c.Xe.Xi,XK 3 azm c.Xc,XK 2 azu c.Xj]);.cut 4 (λ(z:Bool)=>⟨[(3,XM 0),(4,XM 1),(5,XM 2),(6,XM 3),(7,XM 6),(8,pz h),(33,XJ z)],[y,j,m,(3,.box [.vec 4,.vec 5]),(4,.nilv),(5,.nilv),(6,.box [.ff])],[.func 48 [] [XM 3,XM 6]],7⟩) (.br (qw (h<1)) (.oo true) (.br (qw (h>256)) (.oo true) (.cc (fzr s) λz=>.oo (!z)))) λz=>.br z (.km ((⟨nl,nl⟩:czy),false)) (.loop (λ(aa:Ae)=>⟨[(3,XM 0),(4,XM 1),(5,XM 2),(6,XM 3),(7,XM 6),(8,pz h),(36,.pure g),(37,pz h),(38,pz aa.2)],[y,j,m,(3,.box [.vec 4,.vec 5]),(4,vecO 1 (encL 1 az2) aa.1 62),(5,.nilv),(6,.box [.ff])],[.func 48 [] [XM 3,XM 6]],7⟩) (.exit 0) (λ(aa:A2)=>⟨[(3,XM 0),(4,XM 1),(5,XM 2),(6,XM 3),(7,XM 6),(8,pz h)],[y,j,m,(3,.box [.vec 4,.vec 5]),(4,vecO 1 (encL 1 az2) aa 62),(5,.nilv),(6,.box [.ff])],[.func 48 [] [XM 3,XM 6]],7⟩) (λaa=>let ab:=e.Xr.getD (XI aa.2) qv;.br (qw (aa.2<h)) (.gh aa.2 e.Xr.length<|.cc (dzp s ab) λac=>.br (!ac) (.ff ((⟨nl,nl⟩:czy),false)) (.gh ab d.Xb.length<|.call (bzr (d.Xb.getD (ab.toNat) qv)) [] λad=>let ae:=([ad]:A2);let af:=aa.1.length+ae.length;
 .conv 10008 (cz0 1 (encL 1 az2) ae 62)<|.conv 10009 (dz6 1 (encL 1 az2) aa.1 ae 62)<|.grd (af * 24<=140737488355328/\af<=maxLen)<|.nn ((aa.1++ae),(qu.wrap (aa.2+1))))) (.oo aa.1)) (nl,0) [] λaa=>let ab:=aa.getD (XI (0:Int)) qv;let ac:=([ab,ab]:A2);
 .br (h==1) (.gg (0:Int) aa.length<|.gg (0:Int) aa.length<|.conv 13009 (cz0 1 (encL 1 az2) ac 62)<|.cc (Izl (⟨c.Xe,c.Xc,c.Xj⟩:azd) ac 0) λad=>.km (ad.1,(ad.2.2==0))) (.conv 15002 (Gzw 1 az2 e.Xr (1:Int) h)<|.grd (0<=(1:Int)/\(1:Int)<=h/\h<=h)<|.name 15003 ((t.length:Int)) λad=>.loop (λ(ae:Ap)=>⟨[(4,XM 0),(5,XM 1),(6,XM 2),(7,XM 5),(81,.pure w),(82,pz ad),(83,pz ae.2)],[k,n,(2,.box [.vec 3,.vec 4]),(3,vecO 1 (encL 1 az2) aa 62),(4,vecO 2 azy ae.1 118),(5,.box [.ff])],[.func 48 [] [XM 2,XM 5]],6⟩) (.exit 2) (λ(ae:Ao)=>⟨[(6,XM 0),(7,XM 3)],[(0,.box [.vec 1,.vec 2]),(1,vecO 1 (encL 1 az2) aa 62),(2,vecO 2 azy ae 118),(3,.box [.ff])],[.func 48 [] [XM 0,XM 3]],4⟩) (λae=>let af:=(ae.2).toNat;let ag:=e.Xr.getD af qv;.br (qw (ae.2<ad)) (.gh ae.2 (t.length)<|.name 17002 ((t.getD af qv)) λah=>.gh ae.2 e.Xr.length<|.cc (hzf s ag ah) λai=>.cut 1 (λ(aj:Bool)=>⟨[(4,XM 0),(5,XM 1),(6,XM 2),(7,XM 5),(16,pz ag),(17,pz ai.1),(81,.pure w),(82,pz ad),(83,pz ae.2),(110,XJ aj)],[k,n,(2,.box [.vec 3,.vec 4]),(3,vecO 1 (encL 1 az2) aa 62),(4,vecO 2 azy ae.1 118),(5,.box [.ff])],[.func 48 [] [XM 2,XM 5]],6⟩) (.br (!ai.2) (.oo true) (.gh ai.1 d.Xd.length<|.oo (((d.Xd.getD (XI ai.1) qv).Xq) !=1))) λaj=>.br aj (.ff ((⟨nl,nl⟩:czy),false)) (.cc (Dz2 s ai.1 ag) λak=>let al:=([ak]:Ao);let am:=ae.1.length+al.length;
 .conv 22006 (cz0 2 azy al 118)<|.conv 22007 (dz6 2 azy ae.1 al 118)<|.grd (am * 48<=140737488355328/\am<=maxLen)<|.nn ((ae.1++al),(qu.wrap (ae.2+1))))) (.oo ae.1)) (nl,0) [] λae=>.km ((⟨aa,ae⟩:czy),true)))
def pzp (c)(d)(e):=
 mkC [⟨48,az8d⟩] hd Tryz.func17 (by kernel_rfl) (pzq c d e) 0 [.pure (bzk c),.pure (dzt d),.pure (yzs e)] [] (λr=>.tup [.pure (vzr r.1),XJ r.2]) XL (by kernel_rfl)
def tzu (c:Ax)(d:Aw):T Int:=
 .loop (λ(e:Int)=>⟨[(0,XK 3 az1 c),(3,XM 0),(5,pz e)],[(0,.box [pz d.1,pz d.2.1,pz d.2.2])],[],1⟩) (.exit 0) XN (λe=>let f:=c.getD (e.toNat) qv;.br (qw (e<(c.length:Int))) (.gh e c.length<|.br (((f.1)==d.1)&&(((f.2.1)==d.2.1)&&(((f.2.2)==d.2.2)&&true))) (.ff e) (.nn (qu.wrap (e+1)))) (.oo .u))
 0 [] λ_=>.km (-1)
def tzt (c)(d):=
 mkD Tryz.func108 (tzu c d) 0 [XK 3 az1 c,.pure (az1 d)] [] pz XL
def Az3 (c:A0):T azq:=let d:=encL 3 azl c;.loop (λ(e:(Ax×An×Int))=>⟨[(0,.pure d),(2,XM 0),(3,XM 3),(4,pz e.2.2)],[(0,.box [.vec 1,.vec 2]),(1,.nilv),(2,.nilv),(3,.box [.vec 4,.vec 5]),(4,vecS 3 az1 e.1 96),(5,vecO 3 cz4 e.2.1 162)],[],6⟩) (.exit 0) (λ(e:(Ax×An))=>⟨[(2,XM 0),(3,XM 3)],[(0,.box [.vec 1,.vec 2]),(1,.nilv),(2,.nilv),(3,.box [.vec 4,.vec 5]),(4,vecS 3 az1 e.1 96),(5,vecO 3 cz4 e.2 162)],[],6⟩) (λe=>let f:=c.getD (XI e.2.2) qv;let g:=f.Xf.length;let h:Nat×Res:=(6,.box [pz (f.Xg),pz (f.Xh),.vec 7]);.br (qw (e.2.2<(c.length:Int))) (.gh e.2.2 c.length<|.gh e.2.2 c.length<|.loop (λ(i:(Ax×A1×Int))=>⟨[(0,.pure d),(2,XM 0),(3,XM 3),(4,pz e.2.2),(5,XM 6),(6,pz i.2.2)],[(0,.box [.vec 1,.vec 2]),(1,.nilv),(2,.nilv),(3,.box [.vec 4,.vec 5]),(4,vecS 3 az1 i.1 96),(5,vecO 3 cz4 e.2.1 162),h,(7,vecO 1 az2 i.2.1 3)],[],8⟩) (.exit 2) (λ(i:(Ax×A1))=>⟨[(0,.pure d),(2,XM 0),(3,XM 3),(4,pz e.2.2),(5,XM 6)],[(0,.box [.vec 1,.vec 2]),(1,.nilv),(2,.nilv),(3,.box [.vec 4,.vec 5]),(4,vecS 3 az1 i.1 96),(5,vecO 3 cz4 e.2.1 162),h,(7,vecO 1 az2 i.2 3)],[],8⟩) (λi=>let j:=(f.Xf).getD (XI i.2.2) qv;let k:=([j]:Ax);let m:=i.1.length+k.length;.gh e.2.2 c.length<|.br (qw (i.2.2<(f.Xf.length:Int))) (.gh e.2.2 c.length<|.gh i.2.2 g<|.call (tzt i.1 j) [] λn=>.cut 0 (λ(s:Ay)=>⟨[(0,.pure d),(2,XM 0),(3,XM 3),(4,pz e.2.2),(5,XM 6),(6,pz i.2.2),(7,pz s.2)],[(0,.box [.vec 1,.vec 2]),(1,.nilv),(2,.nilv),(3,.box [.vec 4,.vec 5]),(4,vecS 3 az1 s.1 96),(5,vecO 3 cz4 e.2.1 162),h,(7,vecO 1 az2 i.2.1 3)],[],8⟩) (.br (qw (n<0)) (.gh e.2.2 c.length<|.gh i.2.2 g<|.conv 12010 (cz0 3 az1 k 96)<|.conv 12011 (azal 3 az1 i.1 k 96)<|.grd (m * 24<=140737488355328/\m<=maxLen)<|.oo ((i.1++k),(i.1.length:Int))) (.oo (i.1,n))) λs=>let t:=([s.2]:A1);let w:=i.2.1.length+t.length;
 .conv 13003 (cz0 1 az2 t 3)<|.conv 13004 (dz6 1 az2 i.2.1 t 3)<|.grd (w * 8<=140737488355328/\w<=maxLen)<|.nn (s.1,(i.2.1++t),(qu.wrap (i.2.2+1)))) (.oo (i.1,i.2.1))) (e.1,nl,0) [] λi=>let j:=([(⟨f.Xg,f.Xh,i.2⟩:czx)]:An);let k:=e.2.1.length+j.length;
 .conv 14003 (cz0 3 cz4 j 162)<|.conv 14004 (dz6 3 cz4 e.2.1 j 162)<|.grd (k * 40<=140737488355328/\k<=maxLen)<|.nn (i.1,(e.2.1++j),(qu.wrap (e.2.2+1)))) (.oo (e.1,e.2.1))) (nl,nl,0) [] λe=>.km (⟨e.1,e.2⟩:azq)
def nzy (c):=
 mkD Tryz.func70 (Az3 c) 0 [XK 3 azl c] [] (λr=>.pure (azy r)) XL
def qzs (c:azd)(d:A2):T Aq:=let e:=(d.length:Int);let f:=encL 1 (encL 1 az2) d;let g:Nat×Res:=(0,.box [XK 12 aze c.Xe.Xa,XK 5 azk c.Xe.Xi,XK 3 azm c.Xc,XK 2 azu c.Xj]);.cc (ezi c) λh=>.br (h !=0) (.km (0,904)) (.cut 1 (λ(i:Bool)=>⟨[(1,.pure f),(2,XM 0),(17,XJ i)],[g],[],1⟩) (.br (qw (e<2)) (.oo true) (.oo (qw (e>256)))) λi=>.br i (.km (0,2201)) (.loop (λ(j:Int)=>⟨[(1,.pure f),(2,XM 0),(6,pz j)],[g],[],1⟩) (.exit 0) XN (λj=>.br (qw (j<e)) (.gh j d.length<|.cc (jzi c.Xe (d.getD (j.toNat) qv)) λk=>.br (!k) (.ff (j,1201)) (.nn (qu.wrap (j+1)))) (.oo .u))
 0 [] λ_=>.km (0,0)))
def Az4 (c)(d):=
 mkD Tryz.func55 (qzs c d) 0 [.pure (bzk c),XK 1 (encL 1 az2) d] [] (λr=>.tup [pz r.1,pz r.2]) XL
def wzt (c:az6):T B6:=let d:=IntKind.u64.wrap (qu.wrap (20-c.Xg));let e:=IntKind.u64.wrap c.Xg;let f:=qu.wrap (1 * 2 ^ (min d.toNat 64));.cut 2 (λ(g:Bool)=>⟨[(1,XM 0),(27,XJ g)],[(0,.box [pz c.Xg,pz c.Xh,XK 3 az1 c.Xf])],[],1⟩) (.br (qw (c.Xg<0)) (.oo true) (.br (qw (c.Xg>20)) (.oo true) (.br (qw (c.Xh<0)) (.oo true) (.grd (0<=e)<|.oo (qw (c.Xh>=(qu.wrap (1 * 2 ^ (min e.toNat 64))))))))) λg=>.br g (.km (0,0,false)) (.grd (0<=d)<|.name 4003 ((qu.wrap (c.Xh * f))) λh=>.km (h,f,true))
def wzs (c):=
 mkD Tryz.func138 (wzt c) 0 [.pure (azl c)] [] (λr=>.tup [pz r.1,pz r.2.1,XJ r.2.2]) XL
def wzu (c:A0):T Ar:=let d:=encL 3 azl c;let e:=(c.length:Int);.loop (λ(f:Aq)=>⟨[(0,.pure d),(4,pz f.1),(5,pz f.2)],[],[],0⟩) (.exit 0) (λ(f:Int)=>⟨[(0,.pure d),(4,pz f)],[],[],0⟩) (λf=>.br (qw (f.2<e)) (.gh f.2 c.length<|.cc (wzs (c.getD (XI f.2) qv)) λg=>.cut 1 (λ(h:Bool)=>⟨[(0,.pure d),(5,pz f.2),(6,pz g.1),(7,pz g.2.1),(34,XJ h)],[],[],0⟩) (.br (!g.2.2) (.oo true) (.br (g.1 !=f.1) (.oo true) (.oo (qw (f.2>=4096))))) λh=>.br h (.ff (f.2,false)) (.nn ((qu.wrap (g.1+g.2.1)),(qu.wrap (f.2+1))))) (.oo f.1)) (0,0) [] λf=>.km (e,(f==1048576))
def Fzl (c):=
 mkD Tryz.func97 (wzu c) 0 [XK 3 azl c] [] (λr=>.tup [pz r.1,XJ r.2]) XL
def mzg (c:azd)(d:Ag)(e:Ax):T Bool:=let f:=encL 3 az1 e;.cc (wzp c d) λg=>let h:=encL 2 bzi g.1;let i:=encL 2 bzi g.2.1;let j:=(g.1.length:Int);
 .cut 1 (λ(k:Bool)=>⟨[(2,.pure f),(7,.pure h),(8,.pure i),(26,XJ k)],[],[],0⟩) (.br (!g.2.2) (.oo true) (.oo ((e.length:Int) !=j))) λk=>.br k (.km false) (.loop (λ(m:Int)=>⟨[(2,.pure f),(7,.pure h),(8,.pure i),(10,pz m)],[],[],0⟩) (.exit 0) XN (λm=>let n:=m.toNat;let s:=g.1.getD n qv;let t:=g.2.1.getD n qv;.br (qw (m<j)) (.gh m e.length<|.gh m g.1.length<|.gh m g.1.length<|.gh m g.2.1.length<|.gh m g.2.1.length<|.cc (mzh (e.getD n qv) (s.points) (s.radius) (t.points) (t.radius)) λw=>.br (!w) (.ff false) (.nn (qu.wrap (m+1)))) (.oo .u))
 0 [] λ_=>.km true)
def izs (c)(d)(e):=
 mkD Tryz.func99 (mzg c d e) 0 [.pure (bzk c),XK 2 azb d,XK 3 az1 e] [] XJ XL
def mzl (c:azd)(d:A1)(e:A1)(f:A0):T Aq:=
 .cc (ezi c) λg=>.br (g !=0) (.km (0,904)) (.cc (pzn c d e) λh=>.br (!h) (.km (0,1201)) (.cc (Fzl f) λi=>.br (!i.2) (.km (i.1,2001)) (.loop (λ(j:Int)=>⟨[(1,XK 1 az2 d),(2,XK 1 az2 e),(3,XK 3 azl f),(4,XM 0),(12,pz j)],[(0,.box [XK 12 aze c.Xe.Xa,XK 5 azk c.Xe.Xi,XK 3 azm c.Xc,XK 2 azu c.Xj])],[],1⟩) (.exit 0) XN (λj=>let k:=f.getD (j.toNat) qv;.br (qw (j<(f.length:Int))) (.gh j f.length<|.gh j f.length<|.cc (pzk d e (k.Xg) (k.Xh)) λm=>.gh j f.length<|.cc (izs c m.1 (k.Xf)) λn=>.br (!n) (.ff (j,2002)) (.nn (qu.wrap (j+1)))) (.oo .u))
 0 [] λ_=>.km (0,0))))
def mzk (c)(d)(e)(f):=
 mkD Tryz.func57 (mzl c d e f) 0 [.pure (bzk c),XK 1 az2 d,XK 1 az2 e,XK 3 azl f] [] (λr=>.tup [pz r.1,pz r.2]) XL
def tzs (c:azd)(d:A1)(e:A1)(f:az6)(g:az6):T (az6×Bool):=let h:=qu.wrap (f.Xg-1);let i:=qu.wrap (f.Xh.tdiv 2);let j:=encL 3 az1 f.Xf;let k:=encL 3 az1 g.Xf;let m:=(⟨h,i,g.Xf⟩:az6);let n:Nat×Res:=(0,.box [XK 12 aze c.Xe.Xa,XK 5 azk c.Xe.Xi,XK 3 azm c.Xc,XK 2 azu c.Xj]);.cut 2 (λ(s:Bool)=>⟨[(1,XK 1 az2 d),(2,XK 1 az2 e),(5,XM 0),(8,XM 1),(9,XM 2),(10,XM 3),(38,XJ s)],[n,(1,.box [pz f.Xg,pz f.Xh,.pure j]),(2,.box [pz g.Xg,pz g.Xh,.pure k]),(3,.box [pz 0,pz 0,.vec 4]),(4,.nilv)],[],5⟩) (.br (f.Xg !=g.Xg) (.oo true) (.br (qw (f.Xg<1)) (.oo true) (.ok ((2:Int)≠0) (by decide)<|.br ((f.Xh.tmod 2) !=0) (.oo true) (.oo (g.Xh !=(qu.wrap (f.Xh+1))))))) λs=>.br s (.km ((⟨0,0,nl⟩:az6),false)) (.ok ((2:Int)≠0) (by decide)<|.cc (pzk d e h i) λt=>.cut 1 (λ(w:Bool)=>⟨[(5,XM 0),(9,XM 1),(10,XM 2),(12,XM 4),(13,XK 2 azb t.1),(14,XJ t.2),(66,XJ w)],[n,(1,.box [pz g.Xg,pz g.Xh,.pure k]),(2,.box [pz 0,pz 0,.vec 3]),(3,.nilv),(4,.box [pz h,pz i,.pure j])],[],5⟩) (.br t.2 (.cc (izs c t.1 f.Xf) λw=>.oo w) (.oo false)) λw=>.br w (.km ((⟨h,i,f.Xf⟩:az6),true)) (.br t.2 (.cc (izs c t.1 g.Xf) λy=>.km (m,y)) (.km (m,false))))
def tzr (c)(d)(e)(f)(g):=
 mkD Tryz.func197 (tzs c d e f g) 0 [.pure (bzk c),XK 1 az2 d,XK 1 az2 e,.pure (azl f),.pure (azl g)] [] (λr=>.tup [.pure (azl r.1),XJ r.2]) XL
def wzr (c:azd)(d:A1)(e:A1)(f:A0):T A0:=
 .cc (mzk c d e f) λg=>.br (g.2 !=0) (.km f) (.grd (f.length * 40<=140737488355328/\f.length<=maxLen)<|.loop (λ(h:Am)=>⟨[(1,XK 1 az2 d),(2,XK 1 az2 e),(4,XM 0),(11,.vec 1),(12,pz h.2)],[(0,.box [XK 12 aze c.Xe.Xa,XK 5 azk c.Xe.Xi,XK 3 azm c.Xc,XK 2 azu c.Xj]),(1,vecO 3 azl h.1 80)],[],2⟩) (.exit 0) (λ(h:A0)=>⟨[(11,.vec 0)],[(0,vecO 3 azl h 80)],[],1⟩) (λh=>let i:=(h.1.length:Int);let j:=qu.wrap (h.2+1);let k:=qu.wrap (h.2+2);let m:=(h.1.drop (k.toNat)).take (i.toNat-k.toNat);let n:=(h.1.drop (XI (0:Int))).take ((h.2).toNat- (0:Int).toNat);.br (qw (j<i)) (.gg h.2 h.1.length<|.gg j h.1.length<|.call (tzr c d e (h.1.getD (XI h.2) qv) (h.1.getD (j.toNat) qv)) [] λs=>let t:=([s.1]:A0);let w:=n++t;let y:=n.length+t.length;let z:=w.length+m.length;
 .br (!s.2) (.nn (h.1,j)) (.unroll 1<|.conv 10002 (Gzw 3 azl h.1 (0:Int) h.2)<|.grd (0<=(0:Int)/\(0:Int)<=h.2/\h.2<=i)<|.grd (n.length * 40<=140737488355328/\n.length<=maxLen)<|.conv 11002 (cz0 3 azl t 80)<|.conv 11003 (dz6 3 azl n t 80)<|.grd (y * 40<=140737488355328/\y<=maxLen)<|.unroll 1<|.conv 12004 (Gzw 3 azl h.1 k i)<|.grd (0<=k/\k<=i/\i<=i)<|.conv 12005 (dz6 3 azl w m 80)<|.grd (z * 40<=140737488355328/\z<=maxLen)<|.nn ((w++m),0))) (.oo h.1)) (f,0) [] λh=>.km h)
def Fzi (c)(d)(e)(f):=
 mkD Tryz.func148 (wzr c d e f) 0 [.pure (bzk c),XK 1 az2 d,XK 1 az2 e,XK 3 azl f] [] (λr=>XK 3 azl r) XL
def Az2 (c:azd)(d:A1)(e:A1)(f:Int):T (azq×Bool):=
 .cc (Fzj c d e f) λg=>.br (g.Xl !=1) (.km ((⟨nl,nl⟩:azq),false)) (.cc (Fzi c d e g.Xo) λh=>.cc (nzy h) λi=>.km (i,true))
def Az1 (c)(d)(e)(f):=
 mkD Tryz.func109 (Az2 c d e f) 0 [.pure (bzk c),XK 1 az2 d,XK 1 az2 e,pz f] [] (λr=>.tup [.pure (azy r.1),XJ r.2]) XL
def mz9 (c:A1)(d:A1):T Bool:=let e:=(c.length:Int);.br (e !=(d.length:Int)) (.km false) (.loop (λ(f:Int)=>⟨[(0,XK 1 az2 c),(1,XK 1 az2 d),(5,pz f)],[],[],0⟩) (.exit 0) XN (λf=>.br (qw (f<e)) (.gh f c.length<|.gh f d.length<|.br ((c.getD (f.toNat) qv) !=(d.getD (f.toNat) qv)) (.ff false) (.nn (qu.wrap (f+1)))) (.oo .u))
 0 [] λ_=>.km true)
def gzo (c)(d):=
 mkD Tryz.func19 (mz9 c d) 0 [XK 1 az2 c,XK 1 az2 d] [] XJ XL
open Go.Proofs
def czh (a0:A3):T A3:= (match a0 with
  |[]=>.unroll 1<|.grd (a0.length=0)<|.both (.km nl) (.conv 3000 (cz0 12 az5 ([]:A3) 86)<|.conv 3002 (dz6 12 az5 ([]:A3) a0 86)<|.grd ((([]:A3).length+a0.length) * 160<=140737488355328/\(([]:A3).length+a0.length)<=maxLen)<|.km (([]:A3)++a0))
  |_::_=>.grd (0<a0.length)<|.conv 3000 (cz0 12 az5 ([]:A3) 86)<|.conv 3002 (dz6 12 az5 ([]:A3) a0 86)<|.grd ((([]:A3).length+a0.length) * 160<=140737488355328/\(([]:A3).length+a0.length)<=maxLen)<|.km (([]:A3)++a0))
def dzq (a0:A3):CallS A3:=
 mkH [] hd Tryz.func149 (by kernel_rfl) (czh a0) 0 [XK 12 az5 a0] [] (λ_=>.vec 0) (λr=>[(0,vecO 12 az5 r 86)]) (by cases a0<;>exact Ob.of_side (by kernel_rfl))
def izf (c:azo):T azo:=let d:Nat×Res:=(0,.box [pz c.Xl,.vec 1,pz c.At.Xg,pz c.At.Xh,XK 3 az1 c.At.Xf,pz c.Xk.XC,XK 1 az2 c.Xk.Left,XK 1 az2 c.Xk.Xx]);.cc (czr c.Xo) λe=>let f:=(e.length:Int);
 .unroll 998<|.loop (λ(g:Am)=>⟨[(1,XM 0),(2,XM 2),(10,.vec 1),(11,pz f),(12,pz g.2)],[d,(1,vecO 3 azl g.1 80),(2,.box [pz 0,.vec 3,pz 0,pz 0,.vec 4,pz 0,.vec 5,.vec 6]),(3,.nilv),(4,.nilv),(5,.nilv),(6,.nilv)],[],7⟩) (.exit 0) (λ(g:A0)=>⟨[(1,XM 0),(2,XM 2)],[d,(1,vecO 3 azl g 80),(2,.box [pz 0,.vec 3,pz 0,pz 0,.vec 4,pz 0,.vec 5,.vec 6]),(3,.nilv),(4,.nilv),(5,.nilv),(6,.nilv)],[],7⟩) (λg=>let h:=(g.2).toNat;let i:=g.1.getD h qv;.br (qw (g.2<f)) (.gg g.2 g.1.length<|.cc (cz3 (i.Xf)) λj=>let k:=(⟨i.Xg,i.Xh,j⟩:az6);
 .gh g.2 g.1.length<|.conv 5008 (fzs 3 azl g.1 80 h k)<|.gi (g.2) g.1.length<|.nn ((g.1.set h k),(qu.wrap (g.2+1)))) (.oo g.1)) (e,0) [] λg=>.cc (cz3 c.At.Xf) λh=>.cc (bzr c.Xk.Left) λi=>.cc (bzr c.Xk.Xx) λj=>.km (⟨c.Xl,g,(⟨c.At.Xg,c.At.Xh,h⟩:az6),(⟨c.Xk.XC,i,j⟩:bze)⟩:azo)
def ezs (c):=
 mkD Tryz.func117 (izf c) 0 [.pure (gz6 c)] [] (λr=>.pure (gz6 r)) XL
def rz1 (c:azi):T A4:=
 .cc (dzy c.Xb) λd=>let e:=(d.length:Int);
 .cc (dzq c.Xd) λf=>let g:=(f.length:Int);
 .loop (λ(h:Ae)=>⟨[(2,XM 0),(3,.vec 3),(4,.vec 4),(15,.vec 3),(16,pz e),(17,pz h.2)],[(0,.box [.vec 1,.vec 2]),(1,.nilv),(2,.nilv),(3,vecO 1 (encL 1 az2) h.1 62),(4,vecO 12 az5 f 86)],[],5⟩) (.exit 0) (λ(h:A2)=>⟨[(2,XM 0),(3,.vec 3),(4,.vec 4)],[(0,.box [.vec 1,.vec 2]),(1,.nilv),(2,.nilv),(3,vecO 1 (encL 1 az2) h 62),(4,vecO 12 az5 f 86)],[],5⟩) (λh=>let i:=(h.2).toNat;.br (qw (h.2<e)) (.gg h.2 h.1.length<|.cc (bzr (h.1.getD i qv)) λj=>.gh h.2 h.1.length<|.conv 5005 (fzs 1 (encL 1 az2) h.1 62 i j)<|.gi (h.2) h.1.length<|.nn ((h.1.set i j),(qu.wrap (h.2+1)))) (.oo h.1)) (d,0) [] λh=>.loop (λ(i:Af)=>⟨[(2,XM 0),(3,.vec 3),(4,.vec 4),(28,.vec 4),(29,pz g),(30,pz i.2)],[(0,.box [.vec 1,.vec 2]),(1,.nilv),(2,.nilv),(3,vecO 1 (encL 1 az2) h 62),(4,vecO 12 az5 i.1 86)],[],5⟩) (.exit 2) (λ(i:A3)=>⟨[(2,XM 0),(3,.vec 3),(4,.vec 4)],[(0,.box [.vec 1,.vec 2]),(1,.nilv),(2,.nilv),(3,vecO 1 (encL 1 az2) h 62),(4,vecO 12 az5 i 86)],[],5⟩) (λi=>let j:=(i.2).toNat;let k:=i.1.getD j qv;.br (qw (i.2<g)) (.gg i.2 i.1.length<|.cc (ezs (k.Xm)) λm=>let n:=(⟨k.U,k.V,k.Xu,k.Xq,m⟩:az4);
 .gh i.2 i.1.length<|.conv 10007 (fzs 12 az5 i.1 86 j n)<|.gi (i.2) i.1.length<|.nn ((i.1.set j n),(qu.wrap (i.2+1)))) (.oo i.1)) (f,0) [] λi=>.km (h,i)
def Azq (c):=
 mkD Tryz.func115 (rz1 c) 0 [.pure (dzt c)] [] (λ_=>.agg [.vec 0,.vec 1]) (λr=>[(0,vecO 1 (encL 1 az2) r.1 62),(1,vecO 12 az5 r.2 86)])
def Nzu (c:Int):T Int:=
 .br (c==1) (.km 1) (.br (c==2) (.km 2) (.km 0))
def jzp (c):=
 mkD Tryz.func116 (Nzu c) 0 [pz c] [] pz XL
def uza (c:azi)(d:Int)(e:azo):T Av:=let f:=d.toNat;let g:=encL 3 azl e.Xo;let h:=encL 3 az1 e.At.Xf;let i:=c.Xd.getD f qv;let j:=encL 1 az2 e.Xk.Left;let k:=encL 1 az2 e.Xk.Xx;let m:Nat×Res:=(0,.box [pz e.Xl,.pure g,pz e.At.Xg,pz e.At.Xh,.pure h,pz e.Xk.XC,.pure j,.pure k]);.cc (Azq (⟨c.Xb,c.Xd⟩:azi)) λn=>let s:=n.2.getD f qv;
 .cut 1 (λ(t:Bool)=>⟨[(1,pz d),(3,XM 0),(5,XM 1),(6,XM 2),(7,XM 5),(22,XJ t)],[(0,.box [XK 1 (encL 1 az2) c.Xb,XK 12 az5 c.Xd]),(1,.box [pz e.Xl,.pure g,pz e.At.Xg,pz e.At.Xh,.pure h,pz e.Xk.XC,.pure j,.pure k]),(2,.box [.vec 3,.vec 4]),(3,vecO 1 (encL 1 az2) n.1 62),(4,vecO 12 az5 n.2 86),(5,.box [.ff])],[.func 114 [] [XM 2,XM 5]],6⟩) (.br (qw (d<0)) (.oo true) (.oo (qw (d>=(c.Xd.length:Int))))) λt=>.br t (.km (n.1,n.2,false)) (.gh d c.Xd.length<|.cut 0 (λ(w:Bool)=>⟨[(1,pz d),(5,XM 0),(6,XM 1),(7,XM 4),(35,XJ w)],[m,(1,.box [.vec 2,.vec 3]),(2,vecO 1 (encL 1 az2) n.1 62),(3,vecO 12 az5 n.2 86),(4,.box [.ff])],[.func 114 [] [XM 1,XM 4]],5⟩) (.br ((i.Xq)==1) (.oo true) (.oo ((i.Xq)==2))) λw=>.br w (.km (n.1,n.2,false)) (.conv 8000 (cz0 1 az2 ([1,2,3]:A1) 3)<|.loop (λ(y:Int)=>⟨[(1,pz d),(5,XM 0),(6,XM 1),(7,XM 4),(37,.vec 5),(38,pz ((([1,2,3]:A1).length:Nat):Int)),(39,pz y)],[m,(1,.box [.vec 2,.vec 3]),(2,vecO 1 (encL 1 az2) n.1 62),(3,vecO 12 az5 n.2 86),(4,.box [.ff]),(5,vecO 1 az2 ([1,2,3]:A1) 3)],[.func 114 [] [XM 1,XM 4]],6⟩) (.exit 0) (λ(_:U0)=>⟨[(6,XM 0),(7,XM 3)],[(0,.box [.vec 1,.vec 2]),(1,vecO 1 (encL 1 az2) n.1 62),(2,vecO 12 az5 n.2 86),(3,.box [.ff])],[.func 114 [] [XM 0,XM 3]],4⟩) (λy=>let z:=([1,2,3]:A1).getD (y.toNat) qv;let aa:=(⟨s.U,s.V,s.Xu,z,s.Xm⟩:az4);let ab:=n.2.set f aa;let ac:=ab.getD f qv;.br (qw (y<((([1,2,3]:A1).length:Nat):Int))) (.gg y (([1,2,3]:A1).length)<|.cc (jzp z) λad=>.br (ad==e.Xl) (.gh d n.2.length<|.conv 12006 (fzs 12 az5 n.2 86 f aa)<|.gi (d) n.2.length<|.cc (ezs e) λae=>let af:=(⟨ac.U,ac.V,ac.Xu,ac.Xq,ae⟩:az4);
 .gh d (ab.length)<|.conv 13007 (fzs 12 az5 ab 86 f af)<|.gi (d) (ab.length)<|.ff (n.1,(ab.set f af),true)) (.nn (qu.wrap (y+1)))) (.oo .u))
 0 [] λ_=>.km (n.1,n.2,false)))
def Czz (c)(d)(e):=
 mkC [⟨114,Xzp⟩] hd Tryz.func80 (by kernel_rfl) (uza c d e) 0 [.pure (dzt c),pz d,.pure (gz6 e)] [] (λr=>.tup [.agg [.vec 0,.vec 1],XJ r.2.2]) (λr=>[(0,vecO 1 (encL 1 az2) r.1 62),(1,vecO 12 az5 r.2.1 86)]) (by kernel_rfl)
def lzp (c:azi):T A4:=
 .cc (Czz (⟨c.Xb,c.Xd⟩:azi) (-1) (⟨0,nl,(⟨0,0,nl⟩:az6),(⟨0,nl,nl⟩:bze)⟩:azo)) λd=>.unroll 998<|.km (d.1,d.2.1)
def szc (c):=
 mkD Tryz.func45 (lzp c) 0 [.pure (dzt c)] [] (λ_=>.agg [.vec 0,.vec 1]) (λr=>[(0,vecO 1 (encL 1 az2) r.1 62),(1,vecO 12 az5 r.2 86)])
def Azx (a0:A2)(a1:A3)(a2:Int)(a3:Int):CallS Bb:=
 azcm (hz7 (⟨a0,a1⟩:azi) a2 a3) 22 2 [.agg [.vec 0,.vec 1],pz a2,pz a3] [(0,vecO 1 (encL 1 az2) a0 62),(1,vecO 12 az5 a1 86)] rfl rfl rfl rfl (by kernel_rfl) rfl (λ_=>rfl) (λ_=>⟨λ_=>rfl,trivial⟩)
def fza (a0:A2):T A2:= (match a0 with
  |[]=>.unroll 1<|.grd (a0.length=0)<|.both (.km nl) (.conv 3000 (cz0 1 (encL 1 az2) ([]:A2) 62)<|.conv 3002 (dz6 1 (encL 1 az2) ([]:A2) a0 62)<|.grd ((([]:A2).length+a0.length) * 24<=140737488355328/\(([]:A2).length+a0.length)<=maxLen)<|.km (([]:A2)++a0))
  |_::_=>.grd (0<a0.length)<|.conv 3000 (cz0 1 (encL 1 az2) ([]:A2) 62)<|.conv 3002 (dz6 1 (encL 1 az2) ([]:A2) a0 62)<|.grd ((([]:A2).length+a0.length) * 24<=140737488355328/\(([]:A2).length+a0.length)<=maxLen)<|.km (([]:A2)++a0))
def iz3 (a0:A2):CallS A2:=
 mkH [] hd Tryz.func130 (by kernel_rfl) (fza a0) 1 [.vec 0] [(0,vecO 1 (encL 1 az2) a0 62)] (λ_=>.vec 1) (λr=>[(0,vecO 1 (encL 1 az2) a0 62),(1,vecO 1 (encL 1 az2) r 62)]) (by cases a0<;>exact Ob.of_side (by kernel_rfl))
def czc (c:A3)(d:Nat)(e:Nat):T A3:=let f:=([]:A3).length+e;.grd (0<c.length)<|.conv 3000 (cz0 12 az5 ([]:A3) 86)<|.conv 3002 (az81 12 az5 c ([]:A3) 86 e d 160)<|.grd (f * 160<=140737488355328/\f<=maxLen/\d+e<=c.length)<|.km (([]:A3)++((c.drop d).take e))
def dzg (c)(d)(e):=
 mkD Tryz.func149 (czc c d e) 1 [.view 0 12 d e] [(0,vecO 12 az5 c 86)] (λ_=>.vec 1) (λr=>[(0,vecO 12 az5 c 86),(1,vecO 12 az5 r 86)])
def mzt (c:A2)(d:A3)(e:Nat)(f:Nat):T A4:=
 .call (iz3 c) [(0,0)] λg=>let h:=(g.length:Int);
 .call (dzg d e f) [(0,1)] λi=>let j:=(i.length:Int);
 .loop (λ(k:Ae)=>⟨[(2,XM 2),(3,.vec 5),(4,.vec 6),(15,.vec 5),(16,pz h),(17,pz k.2)],[(0,vecO 1 (encL 1 az2) c 62),(1,vecO 12 az5 d 86),(2,.box [.vec 3,.vec 4]),(3,.nilv),(4,.nilv),(5,vecO 1 (encL 1 az2) k.1 62),(6,vecO 12 az5 i 86)],[],7⟩) (.exit 0) (λ(k:A2)=>⟨[(2,XM 2),(3,.vec 5),(4,.vec 6)],[(0,vecO 1 (encL 1 az2) c 62),(1,vecO 12 az5 d 86),(2,.box [.vec 3,.vec 4]),(3,.nilv),(4,.nilv),(5,vecO 1 (encL 1 az2) k 62),(6,vecO 12 az5 i 86)],[],7⟩) (λk=>let m:=(k.2).toNat;.br (qw (k.2<h)) (.gg k.2 k.1.length<|.cc (bzr (k.1.getD m qv)) λn=>.gh k.2 k.1.length<|.conv 5005 (fzs 1 (encL 1 az2) k.1 62 m n)<|.gi (k.2) k.1.length<|.nn ((k.1.set m n),(qu.wrap (k.2+1)))) (.oo k.1)) (g,0) [] λk=>.loop (λ(m:Af)=>⟨[(2,XM 2),(3,.vec 5),(4,.vec 6),(28,.vec 6),(29,pz j),(30,pz m.2)],[(0,vecO 1 (encL 1 az2) c 62),(1,vecO 12 az5 d 86),(2,.box [.vec 3,.vec 4]),(3,.nilv),(4,.nilv),(5,vecO 1 (encL 1 az2) k 62),(6,vecO 12 az5 m.1 86)],[],7⟩) (.exit 2) (λ(m:A3)=>⟨[(2,XM 2),(3,.vec 5),(4,.vec 6)],[(0,vecO 1 (encL 1 az2) c 62),(1,vecO 12 az5 d 86),(2,.box [.vec 3,.vec 4]),(3,.nilv),(4,.nilv),(5,vecO 1 (encL 1 az2) k 62),(6,vecO 12 az5 m 86)],[],7⟩) (λm=>let n:=(m.2).toNat;let s:=m.1.getD n qv;.br (qw (m.2<j)) (.gg m.2 m.1.length<|.cc (ezs (s.Xm)) λt=>let w:=(⟨s.U,s.V,s.Xu,s.Xq,t⟩:az4);
 .gh m.2 m.1.length<|.conv 10007 (fzs 12 az5 m.1 86 n w)<|.gi (m.2) m.1.length<|.nn ((m.1.set n w),(qu.wrap (m.2+1)))) (.oo m.1)) (i,0) [] λm=>.km (k,m)
def vz8 (c)(d)(e)(f):=
 mkD Tryz.func115 (mzt c d e f) 2 [.agg [.vec 0,.view 1 12 e f]] [(0,vecO 1 (encL 1 az2) c 62),(1,vecO 12 az5 d 86)] (λ_=>.agg [.vec 2,.vec 3]) (λr=>[(0,vecO 1 (encL 1 az2) c 62),(1,vecO 12 az5 d 86),(2,vecO 1 (encL 1 az2) r.1 62),(3,vecO 12 az5 r.2 86)])
def ozx (c:A2)(d:A3)(e:Nat)(f:Nat)(g:Int)(h:azo):T Av:=let i:=g.toNat;let j:=d.getD (e+i) qv;let k:=encL 3 azl h.Xo;let m:=encL 3 az1 h.At.Xf;let n:=encL 1 az2 h.Xk.Left;let s:=encL 1 az2 h.Xk.Xx;let t:Nat×Res:=(2,.box [pz h.Xl,.pure k,pz h.At.Xg,pz h.At.Xh,.pure m,pz h.Xk.XC,.pure n,.pure s]);.call (vz8 c d e f) [(0,0),(1,1)] λw=>let y:=w.2.getD i qv;
 .cut 1 (λ(z:Bool)=>⟨[(1,pz g),(3,XM 2),(5,XM 3),(6,XM 4),(7,XM 7),(22,XJ z)],[(0,vecO 1 (encL 1 az2) c 62),(1,vecO 12 az5 d 86),(2,.box [.vec 0,.view 1 12 e f]),(3,.box [pz h.Xl,.pure k,pz h.At.Xg,pz h.At.Xh,.pure m,pz h.Xk.XC,.pure n,.pure s]),(4,.box [.vec 5,.vec 6]),(5,vecO 1 (encL 1 az2) w.1 62),(6,vecO 12 az5 w.2 86),(7,.box [.ff])],[.func 114 [] [XM 4,XM 7]],8⟩) (.br (qw (g<0)) (.oo true) (.oo (qw (g>=(f:Int))))) λz=>.br z (.km (w.1,w.2,false)) (.gh g f<|.grd ((e+i)<d.length)<|.cut 0 (λ(aa:Bool)=>⟨[(1,pz g),(5,XM 2),(6,XM 3),(7,XM 6),(35,XJ aa)],[(0,vecO 1 (encL 1 az2) c 62),(1,vecO 12 az5 d 86),t,(3,.box [.vec 4,.vec 5]),(4,vecO 1 (encL 1 az2) w.1 62),(5,vecO 12 az5 w.2 86),(6,.box [.ff])],[.func 114 [] [XM 3,XM 6]],7⟩) (.br ((j.Xq)==1) (.oo true) (.oo ((j.Xq)==2))) λaa=>.br aa (.km (w.1,w.2,false)) (.conv 8000 (cz0 1 az2 ([1,2,3]:A1) 3)<|.loop (λ(ab:Int)=>⟨[(1,pz g),(5,XM 2),(6,XM 3),(7,XM 6),(37,.vec 7),(38,pz ((([1,2,3]:A1).length:Nat):Int)),(39,pz ab)],[(0,vecO 1 (encL 1 az2) c 62),(1,vecO 12 az5 d 86),t,(3,.box [.vec 4,.vec 5]),(4,vecO 1 (encL 1 az2) w.1 62),(5,vecO 12 az5 w.2 86),(6,.box [.ff]),(7,vecO 1 az2 ([1,2,3]:A1) 3)],[.func 114 [] [XM 3,XM 6]],8⟩) (.exit 0) (λ(_:U0)=>⟨[(6,XM 2),(7,XM 5)],[(0,vecO 1 (encL 1 az2) c 62),(1,vecO 12 az5 d 86),(2,.box [.vec 3,.vec 4]),(3,vecO 1 (encL 1 az2) w.1 62),(4,vecO 12 az5 w.2 86),(5,.box [.ff])],[.func 114 [] [XM 2,XM 5]],6⟩) (λab=>let ac:=([1,2,3]:A1).getD (ab.toNat) qv;let ad:=(⟨y.U,y.V,y.Xu,ac,y.Xm⟩:az4);let ae:=w.2.set i ad;let af:=ae.getD i qv;.br (qw (ab<((([1,2,3]:A1).length:Nat):Int))) (.gg ab (([1,2,3]:A1).length)<|.cc (jzp ac) λag=>.br (ag==h.Xl) (.gh g w.2.length<|.conv 12006 (fzs 12 az5 w.2 86 i ad)<|.gi (g) w.2.length<|.cc (ezs h) λah=>let ai:=(⟨af.U,af.V,af.Xu,af.Xq,ah⟩:az4);
 .gh g (ae.length)<|.conv 13007 (fzs 12 az5 ae 86 i ai)<|.gi (g) (ae.length)<|.ff (w.1,(ae.set i ai),true)) (.nn (qu.wrap (ab+1)))) (.oo .u))
 0 [] λ_=>.km (w.1,w.2,false)))
def ozw (c)(d)(e)(f)(g)(h):=
 mkC [⟨114,Xzp⟩] hd Tryz.func80 (by kernel_rfl) (ozx c d e f g h) 2 [.agg [.vec 0,.view 1 12 e f],pz g,.pure (gz6 h)] [(0,vecO 1 (encL 1 az2) c 62),(1,vecO 12 az5 d 86)] (λr=>.tup [.agg [.vec 2,.vec 3],XJ r.2.2]) (λr=>[(0,vecO 1 (encL 1 az2) c 62),(1,vecO 12 az5 d 86),(2,vecO 1 (encL 1 az2) r.1 62),(3,vecO 12 az5 r.2.1 86)]) (by kernel_rfl)
def Bzw (c:A2)(d:A3)(e:Nat)(f:Nat):T A4:=
 .call (ozw c d e f (-1) (⟨0,nl,(⟨0,0,nl⟩:az6),(⟨0,nl,nl⟩:bze)⟩:azo)) [(0,0),(1,1)] λg=>.km (g.1,g.2.1)
def pz6 (c)(d)(e)(f):=
 mkD Tryz.func45 (Bzw c d e f) 2 [.agg [.vec 0,.view 1 12 e f]] [(0,vecO 1 (encL 1 az2) c 62),(1,vecO 12 az5 d 86)] (λ_=>.agg [.vec 2,.vec 3]) (λr=>[(0,vecO 1 (encL 1 az2) c 62),(1,vecO 12 az5 d 86),(2,vecO 1 (encL 1 az2) r.1 62),(3,vecO 12 az5 r.2 86)])
def lzo (c:A2)(_a1:A3)(_a2:Nat)(_a3:Nat)(d:Int):T Bool:=
 .br (qw (d>=0)) (.km (qw (d<(c.length:Int)))) (.km false)
def lzn (c)(d)(e)(f)(g):=
 mkD Tryz.func50 (lzo c d e f g) 2 [.agg [.vec 0,.view 1 12 e f],pz g] [(0,vecO 1 (encL 1 az2) c 62),(1,vecO 12 az5 d 86)] XJ (λ_=>[(0,vecO 1 (encL 1 az2) c 62),(1,vecO 12 az5 d 86)])
def xze (c:azd)(d:A2)(e:A3)(f:Nat)(g:Nat)(h:Int)(i:Int):T Av:=let j:=f+(h.toNat);let k:=pz6 d e f g;let m:=e.getD j qv;let n:=m.U;let s:=m.V;let t:=m.Xq;let w:Nat×Res:=(3,.box [.vec 0,.view 1 12 f g]);let y:Nat×Res:=(2,.box [XK 12 aze c.Xe.Xa,XK 5 azk c.Xe.Xi,XK 3 azm c.Xc,XK 2 azu c.Xj]);.cut 3 (λ(z:Bool)=>⟨[(2,pz h),(3,pz i),(4,XM 2),(5,XM 3),(8,XM 4),(9,XM 7),(20,XJ z)],[(0,vecO 1 (encL 1 az2) d 62),(1,vecO 12 az5 e 86),y,w,(4,.box [.vec 5,.vec 6]),(5,.nilv),(6,.nilv),(7,.box [.ff])],[.func 84 [] [XM 4,XM 7]],8⟩) (.br (qw (h<0)) (.oo true) (.oo (qw (h>=(g:Int))))) λz=>.br z (.call k [(0,0),(1,1)] λaa=>.km (aa.1,aa.2,false)) (.gh h g<|.grd (j<e.length)<|.cut 1 (λ(aa:Bool)=>⟨[(2,pz h),(3,pz i),(4,XM 2),(5,XM 3),(8,XM 4),(9,XM 7),(10,XM 8),(49,XJ aa)],[(0,vecO 1 (encL 1 az2) d 62),(1,vecO 12 az5 e 86),y,w,(4,.box [.vec 5,.vec 6]),(5,.nilv),(6,.nilv),(7,.box [.ff]),(8,.box [pz n,pz s,pz (m.Xu),pz t,pz (m.Xm.Xl),XK 3 azl (m.Xm.Xo),pz (m.Xm.At.Xg),pz (m.Xm.At.Xh),XK 3 az1 (m.Xm.At.Xf),pz (m.Xm.Xk.XC),XK 1 az2 (m.Xm.Xk.Left),XK 1 az2 (m.Xm.Xk.Xx)])],[.func 84 [] [XM 4,XM 7]],9⟩) (.call (lzn d e f g n) [(0,0),(1,1)] λaa=>.br (!aa) (.oo true) (.call (lzn d e f g s) [(0,0),(1,1)] λab=>.br (!ab) (.oo true) (.br (t==1) (.oo true) (.oo (t==2))))) λaa=>.br aa (.call k [(0,0),(1,1)] λab=>.km (ab.1,ab.2,false)) (.gg n d.length<|.gg s d.length<|.call (iz6 (⟨c.Xe,c.Xc,c.Xj⟩:azd) (d.getD (n.toNat) qv) (d.getD (s.toNat) qv) i) [] λab=>.call (ozw d e f g h ab) [(0,0),(1,1)] λac=>.km (ac.1,ac.2.1,ac.2.2)))
def Gz1 (c)(d)(e)(f)(g)(h)(i):=
 mkC [⟨84,az8g⟩] hd Tryz.func47 (by kernel_rfl) (xze c d e f g h i) 2 [.pure (bzk c),.agg [.vec 0,.view 1 12 f g],pz h,pz i] [(0,vecO 1 (encL 1 az2) d 62),(1,vecO 12 az5 e 86)] (λr=>.tup [.agg [.vec 2,.vec 3],XJ r.2.2]) (λr=>[(0,vecO 1 (encL 1 az2) d 62),(1,vecO 12 az5 e 86),(2,vecO 1 (encL 1 az2) r.1 62),(3,vecO 12 az5 r.2.1 86)]) (by kernel_rfl)
def xzc (c:azd)(d:azi)(e:Int)(f:Int)(g:Int)(h:Int):T (azi×dzs×Int×Int):=let i:=(⟨c.Xe,c.Xc,c.Xj⟩:azd);let j:Nat×Res:=(0,.box [XK 12 aze c.Xe.Xa,XK 5 azk c.Xe.Xi,XK 3 azm c.Xc,XK 2 azu c.Xj]);.cc (szc (⟨d.Xb,d.Xd⟩:azi)) λk=>.cc (ezb i) λm=>.br (m !=0) (.km ((⟨k.1,k.2⟩:azi),(⟨nl,0⟩:dzs),0,0)) (.loop (λ(n:Af)=>⟨[(2,pz e),(3,pz f),(4,pz g),(5,pz h),(6,XM 0),(12,XM 1),(13,XM 4),(14,XM 6),(15,XM 7)],[j,(1,.box [.vec 2,.vec 3]),(2,vecO 1 (encL 1 az2) k.1 62),(3,vecO 12 az5 n.1 86),(4,.box [.vec 5,pz 0]),(5,.nilv),(6,.box [pz 0]),(7,.box [pz n.2])],[.func 44 [] [XM 1,XM 4,XM 6,XM 7]],8⟩)
 .ret XN (λn=>let s:=(⟨k.1,n.1⟩:azi);.call (Azx k.1 n.1 e f) [(0,2),(1,3)] λt=>let w:=(t.1).toNat;let y:=qu.wrap (t.1+1);let z:=(⟨t.2.1,t.2.2.1⟩:dzs);
 .br (t.2.2.2 !=3) (.ff (s,z,t.2.2.2,n.2)) (.br (qw (n.2>=h)) (.ff (s,z,4,n.2)) (.unroll 2<|.grd (0<=t.1/\t.1<=y/\y<=(n.1.length:Int))<|.cut 0 (λ(aa:A3)=>⟨[(2,pz e),(3,pz f),(4,pz g),(5,pz h),(6,XM 0),(12,XM 1),(13,XM 4),(14,XM 6),(15,XM 7)],[j,(1,.box [.vec 2,.vec 3]),(2,vecO 1 (encL 1 az2) k.1 62),(3,vecO 12 az5 aa 86),(4,.box [.vec 5,pz 0]),(5,.nilv),(6,.box [pz 0]),(7,.box [pz n.2])],[.func 44 [] [XM 1,XM 4,XM 6,XM 7]],8⟩) (.call (Gz1 i k.1 n.1 w (y.toNat- (t.1).toNat) 0 g) [(0,2),(1,3)] λaa=>let ab:=aa.2.1.getD (XI (0:Int)) qv;
 .br aa.2.2 (.gg (0:Int) aa.2.1.length<|.gh t.1 n.1.length<|.conv 13008 (fzs 12 az5 n.1 86 w ab)<|.gi (t.1) n.1.length<|.oo (n.1.set w ab)) (.oo n.1)) λaa=>.nn (aa,(qu.wrap (n.2+1)))))) (k.2,0) [] λ_=>.stop)
def xzb (c)(d)(e)(f)(g)(h):=
 mkC [⟨44,az8c⟩] hd Tryz.func16 (by kernel_rfl) (xzc c d e f g h) 0 [.pure (bzk c),.pure (dzt d),pz e,pz f,pz g,pz h] [] (λr=>.tup [.pure (dzt r.1),.pure (yzs r.2.1),pz r.2.2.1,pz r.2.2.2]) XL (by kernel_rfl)
def tzq (c:azq):T (A0×Bool):=let d:Nat×Res:=(0,.box [XK 3 az1 c.Xw,XK 3 cz4 c.Xv]);.loop (λ(e:Am)=>⟨[(1,XM 0),(4,.vec 1),(5,pz e.2)],[d,(1,vecO 3 azl e.1 80)],[],2⟩) (.exit 0) (λ(e:A0)=>⟨[(4,.vec 0)],[(0,vecO 3 azl e 80)],[],1⟩) (λe=>let f:=c.Xv.getD (XI e.2) qv;let g:=f.Xg;let h:=f.Xh;let i:=f.Xn.length;let j:Nat×Res:=(3,.box [pz g,pz h,.vec 4]);let k:Nat×Res:=(2,.box [pz g,pz h,XK 1 az2 (f.Xn)]);.br (qw (e.2<(c.Xv.length:Int))) (.gh e.2 c.Xv.length<|.loop (λ(m:Ay)=>⟨[(1,XM 0),(4,.vec 1),(5,pz e.2),(6,XM 2),(7,XM 3),(8,pz m.2)],[d,(1,vecO 3 azl e.1 80),k,j,(4,vecO 3 az1 m.1 96)],[],5⟩) (.exit 2) (λ(m:Ax)=>⟨[(1,XM 0),(4,.vec 1),(5,pz e.2),(7,XM 2)],[d,(1,vecO 3 azl e.1 80),(2,.box [pz g,pz h,.vec 3]),(3,vecO 3 az1 m 96)],[],4⟩) (λm=>let n:=(f.Xn).getD (XI m.2) qv;let s:=([(c.Xw.getD (n.toNat) qv)]:Ax);let t:=m.1.length+s.length;.br (qw (m.2<(f.Xn.length:Int))) (.cut 2 (λ(w:Bool)=>⟨[(1,XM 0),(4,.vec 1),(5,pz e.2),(6,XM 2),(7,XM 3),(8,pz m.2),(49,XJ w)],[d,(1,vecO 3 azl e.1 80),k,j,(4,vecO 3 az1 m.1 96)],[],5⟩) (.gh m.2 i<|.br (qw (n<0)) (.oo true) (.gh m.2 i<|.oo (qw (n>=(c.Xw.length:Int))))) λw=>.br w (.ff (.fin (nl,false))) (.gh m.2 i<|.gh n c.Xw.length<|.conv 12011 (cz0 3 az1 s 96)<|.conv 12012 (dz6 3 az1 m.1 s 96)<|.grd (t * 24<=140737488355328/\t<=maxLen)<|.nn ((m.1++s),(qu.wrap (m.2+1))))) (.oo m.1)) (nl,0) [] λm=>let n:=([(⟨f.Xg,f.Xh,m⟩:az6)]:A0);let s:=e.1.length+n.length;
 .conv 13002 (cz0 3 azl n 80)<|.conv 13003 (dz6 3 azl e.1 n 80)<|.grd (s * 40<=140737488355328/\s<=maxLen)<|.nn ((e.1++n),(qu.wrap (e.2+1)))) (.oo e.1)) (nl,0) [] λe=>.km (e,true)
def nzg (c):=
 mkD Tryz.func56 (tzq c) 0 [.pure (azy c)] [] (λr=>.tup [XK 3 azl r.1,XJ r.2]) XL
def mzm (c:azd)(d:czy):T Aq:=let e:=(d.Xd.length:Int);.cc (Az4 c d.Xb) λf=>.br (f.2 !=0) (.km (f.1,f.2)) (.br (e !=(qu.wrap ((d.Xb.length:Int)-1))) (.km (0,2202)) (.loop (λ(g:Int)=>⟨[(2,XM 0),(3,XM 1),(8,pz g)],[(0,.box [XK 12 aze c.Xe.Xa,XK 5 azk c.Xe.Xi,XK 3 azm c.Xc,XK 2 azu c.Xj]),(1,.box [XK 1 (encL 1 az2) d.Xb,XK 2 azy d.Xd])],[],2⟩) (.exit 0) XN (λg=>let h:=qu.wrap (g+1);.br (qw (g<e)) (.gh g d.Xd.length<|.cc (nzg (d.Xd.getD (g.toNat) qv)) λi=>.br (!i.2) (.ff (g,2203)) (.gh g d.Xb.length<|.gh h d.Xb.length<|.call (mzk (⟨c.Xe,c.Xc,c.Xj⟩:azd) (d.Xb.getD (g.toNat) qv) (d.Xb.getD (h.toNat) qv) i.1) [] λj=>.br (j.2 !=0) (.ff (g,j.2)) (.nn h))) (.oo .u))
 0 [] λ_=>.km (0,0)))
def izt (c)(d):=
 mkD Tryz.func18 (mzm c d) 0 [.pure (bzk c),.pure (vzr d)] [] (λr=>.tup [pz r.1,pz r.2]) XL
def tzp (c:azd)(d:czy):T Int:=
 .cc (izt c d) λe=>.br (e.2 !=0) (.km 0) (.loop (λ(f:Aq)=>⟨[(2,XM 0),(3,XM 1),(7,pz f.1),(8,pz f.2)],[(0,.box [XK 12 aze c.Xe.Xa,XK 5 azk c.Xe.Xi,XK 3 azm c.Xc,XK 2 azu c.Xj]),(1,.box [XK 1 (encL 1 az2) d.Xb,XK 2 azy d.Xd])],[],2⟩) (.exit 0) (λ(f:Int)=>⟨[(7,pz f)],[],[],0⟩) (λf=>let g:=qu.wrap (f.2-1);.br (qw (f.2<(d.Xb.length:Int))) (.gh g d.Xb.length<|.gh f.2 d.Xb.length<|.call (fz1 c.Xe (d.Xb.getD (g.toNat) qv) (d.Xb.getD (XI f.2) qv)) [] λh=>.nn ((qu.wrap (f.1+h)),(qu.wrap (f.2+1)))) (.oo f.1)) (0,1) [] λf=>.km f)
def Czp (c)(d):=
 mkD Tryz.func20 (tzp c d) 0 [.pure (bzk c),.pure (vzr d)] [] pz XL
def hz4 (c:A1)(d:A1)(e:Int)(f:Int)(g:Int)(h:Int):T Bool:=
 .cc (zzg c) λi=>let j:=(⟨i.Xe,i.Xc,i.Xj⟩:azd);let k:Nat×Res:=(0,.box [XK 12 aze i.Xe.Xa,XK 5 azk i.Xe.Xi,XK 3 azm i.Xc,XK 2 azu i.Xj]);
 .cc (fzd e 6) λm=>.cc (Czc i.Xe (qu.wrap (2+m)) d) λn=>.cc (fzd f 3) λs=>.cc (uz2 i.Xe n (qu.wrap (1+s))) λt=>let w:=(t.Xb.length:Int);let y:Nat×Res:=(1,.box [XK 1 (encL 1 az2) t.Xb,XK 12 az5 t.Xd]);
 .cc (fzd g w) λz=>let aa:=t.Xb.getD (z.toNat) qv;
 .cc (fzd h w) λab=>let ac:=t.Xb.getD (ab.toNat) qv;
 .cc (xzb j (⟨t.Xb,t.Xd⟩:azi) z ab 4 100) λad=>let ae:=encL 1 az2 ad.2.1.Xr;
 .cut 1 (λ(af:Bool)=>⟨[(13,XM 0),(14,XM 1),(15,pz z),(16,pz ab),(17,XM 2),(18,XM 3),(19,pz ad.2.2.1),(66,XJ af)],[k,y,(2,.box [XK 1 (encL 1 az2) ad.1.Xb,XK 12 az5 ad.1.Xd]),(3,.box [.pure ae,pz ad.2.1.Xu])],[],4⟩) (.br (ad.2.2.1 !=1) (.oo true) (.oo (z==ab))) λaf=>.br af (.cc (wz7) λag=>.br ag (.br (ad.2.2.1==1) (.km true) (.km (ad.2.2.1==2))) (.km false)) (.cc (pzp j ad.1 ad.2.1) λag=>let ah:=(ag.1.Xb.length:Int);let ai:=qu.wrap (ah-1);let aj:=(⟨ag.1.Xb,ag.1.Xd⟩:czy);
 .cc (izt j aj) λak=>.cut 1 (λ(al:Bool)=>⟨[(13,XM 0),(14,XM 1),(15,pz z),(16,pz ab),(18,XM 2),(21,XM 3),(100,XJ al)],[k,y,(2,.box [.pure ae,pz ad.2.1.Xu]),(3,.box [XK 1 (encL 1 az2) ag.1.Xb,XK 2 azy ag.1.Xd])],[],4⟩) (.br (!ag.2) (.oo true) (.br (ak.2 !=0) (.oo true) (.oo (qw (ah<2))))) λal=>.br al (.km false) (.cc (wz7) λam=>.br am (.gh (0:Int) ag.1.Xb.length<|.gh z t.Xb.length<|.cc (gzo (ag.1.Xb.getD (XI (0:Int)) qv) aa) λan=>.br an (.gh ai ag.1.Xb.length<|.gh ab t.Xb.length<|.call (gzo (ag.1.Xb.getD (ai.toNat) qv) ac) [] λao=>.br ao (.cc (Czp j aj) λap=>.br (ap==ad.2.1.Xu) (.gh z t.Xb.length<|.gh ab t.Xb.length<|.cc (fz1 i.Xe aa ac) λaq=>.km (qw (ad.2.1.Xu>=aq))) (.km false)) (.km false)) (.km false)) (.km false)))
def dz8 (c)(d)(e)(f)(g)(h):=
 mkD Tryz.func4 (hz4 c d e f g h) 0 [XK 1 az2 c,XK 1 az2 d,pz e,pz f,pz g,pz h] [] XJ XL
end Go.Abs
