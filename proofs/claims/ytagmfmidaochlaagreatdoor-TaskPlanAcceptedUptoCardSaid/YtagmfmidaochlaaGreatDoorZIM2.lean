import Derived.Test.YtagmfmidaochlaaGreatDoorZIM1
open Bool renaming true->D,false->E
open Go.IntKind renaming wrap->G
open List renaming length->C,getD->F
open Decidable renaming decide->qu
open Go.IntKind renaming i64->qs
open Inhabited renaming default->qt
open List renaming replicate->qr
open Int renaming toNat->X3
noncomputable section
namespace Go.Abs
abbrev vm:Array UInt8:=#[0,1,2,2,3,3,3,3,4,4,4,4,4,4,4,4,5,5,5,5,5,5,5,5,5,5,5,5,5,5,5,5,6,6,6,6,6,6,6,6,6,6,6,6,6,6,6,6,6,6,6,6,6,6,6,6,6,6,6,6,6,6,6,6,7,7,7,7,7,7,7,7,7,7,7,7,7,7,7,7,7,7,7,7,7,7,7,7,7,7,7,7,7,7,7,7,7,7,7,7,7,7,7,7,7,7,7,7,7,7,7,7,7,7,7,7,7,7,7,7,7,7,7,7,7,7,7,7,8,8,8,8,8,8,8,8,8,8,8,8,8,8,8,8,8,8,8,8,8,8,8,8,8,8,8,8,8,8,8,8,8,8,8,8,8,8,8,8,8,8,8,8,8,8,8,8,8,8,8,8,8,8,8,8,8,8,8,8,8,8,8,8,8,8,8,8,8,8,8,8,8,8,8,8,8,8,8,8,8,8,8,8,8,8,8,8,8,8,8,8,8,8,8,8,8,8,8,8,8,8,8,8,8,8,8,8,8,8,8,8,8,8,8,8,8,8,8,8,8,8,8,8,8,8,8,8]
open Go.Proofs.Tryz
set_option maxHeartbeats 8000000
set_option maxRecDepth 20000
open Go.Proofs
def rj (a:aV):T Cj:=.jT (a.R.1.1.Lo,a.R.1.1.Hi,a.R.1.2.1.Lo,a.R.1.2.1.Hi,a.R.1.2.2.Lo,a.R.1.2.2.Hi,a.R.2.1.1.Lo,a.R.2.1.1.Hi,a.R.2.1.2.1.Lo,a.R.2.1.2.1.Hi,a.R.2.1.2.2.Lo,a.R.2.1.2.2.Hi,a.R.2.2.1.Lo,a.R.2.2.1.Hi,a.R.2.2.2.1.Lo,a.R.2.2.2.1.Hi,a.R.2.2.2.2.Lo,a.R.2.2.2.2.Hi,a.T.1.Lo,a.T.1.Hi,a.T.2.1.Lo,a.T.2.1.Hi,a.T.2.2.Lo,a.T.2.2.Hi)
def vw:=mkv1 func195 rj (λ_=>.func 275 [] [X7 0]) (λr=>let b:=r.2.2.2.2.2;let c:=b.2.2.2;let d:=c.2.2.2;let a:=d.2.2.2;let e:=a.2.2.2;let f:=e.2.2.2;[(0,.box [pz r.1,pz r.2.1,pz r.2.2.1,pz r.2.2.2.1,pz r.2.2.2.2.1,pz b.1,pz b.2.1,pz b.2.2.1,pz c.1,pz c.2.1,pz c.2.2.1,pz d.1,pz d.2.1,pz d.2.2.1,pz a.1,pz a.2.1,pz a.2.2.1,pz e.1,pz e.2.1,pz e.2.2.1,pz f.1,pz f.2.1,pz f.2.2.1,pz f.2.2.2])])
def JA (a b:af):T Bool:=.cc (eT a) λc=>.br c (.cc (eT b) λd=>.jT d) (.jT E)
def uj:=mkp2 func409 JA
def IR (b a:Int):T Int:=.kh (a<0) (.jT b) (.grd (0<=a)<|.jT (b.fdiv (2 ^ (min a.toNat 64))))
def dZ:=mkp2 func466 IR
def Ky (b a:Int):T Int:=let e:=min a.toNat 64;let c:=b.fdiv (2 ^ e);.kh (a<0) (.jT b) (.grd (0<=a)<|.cut 0 (λs (d:Int)=>pk s [] [] [(5,pz d)] []) (.grd (0<=a)<|.br ((G qs (c * 2 ^ e)) !=b) (.oo (G qs (c+1))) (.oo c)) λd=>.jT d)
def d7:=mkp2 func467 Ky
def IS (a b:Int):T af:=.cc (dZ a 16) λc=>.cc (d7 b 16) λd=>.cc (t9 c d) λe=>.jT e
def Mx:=mkp2 func410 IS
def LG (b c:af):T af:=let d:=qs.wrap;let f:=G qs (b.Lo * c.Lo);.cc (uj (⟨b.Lo,b.Hi⟩:af) (⟨c.Lo,c.Hi⟩:af)) λg=>.br (!g) (.jT (⟨0,0⟩:af)) (.ix 0 4 rfl<|.ix 0 4 rfl<|.vn (λ(a:Bk)=>([(6,pz a.1),(7,pz a.2.1),(41,pz a.2.2)],[])) [4,40] [128] 0 (λ(a:B6)=>([(6,pz a.1),(7,pz a.2)],[])) [4] [128] (λa=>.kh (a.2.2<4) (.gh a.2.2 4<|.name 7000 ((F ([f,(d (b.Lo * c.Hi)),(d (b.Hi * c.Lo)),(d (b.Hi * c.Hi))]:A7) (a.2.2).toNat 0)) λe=>.nn ((min a.1 e),(max a.2.1 e),(d (a.2.2+1)))) (.oo (a.1,a.2.1))) (f,f,0) λa=>.cc (Mx a.1 a.2) λe=>.jT e)
def bW:=mkp2 func348 LG
def LA (a b:af):T af:=.cc (uj a b) λc=>.br (!c) (.jT (⟨0,0⟩:af)) (.cc (t9 (G qs (a.Lo+b.Lo)) (G qs (a.Hi+b.Hi))) λd=>.jT d)
def bQ:=mkp2 func347 LA
def JF (a:Int):T Int:=.jT (min (max a (-65536)) 65536)
def dG:=mkp1 func408 JF
def JE (a b:Bt):T Bt:=.unroll 4<|.jR<|.unroll 4<|.jR<|.unroll 4<|.jR<|.jG<|.jG<|.jG<|.jG<|.cc (bW a.1.1 b.1.1) λy=>.cc (bQ (⟨0,0⟩:af) y) λz=>.lit 13000 1<|.jR<|.jG<|.jH<|.jH<|.jG<|.cc (bW a.1.2.1 b.2.1.1) λA=>.cc (bQ z A) λB=>.lit 13000 2<|.jR<|.jG<|.jI<|.jI<|.jG<|.cc (bW a.1.2.2 b.2.2.1) λH=>.cc (bQ B H) λd=>.lit 13000 3<|.jS<|.cc (dG d.Lo) λI=>.cc (dG d.Hi) λJ=>.jG<|.jG<|.lit 15000 1<|.jR<|.unroll 4<|.jR<|.jG<|.jG<|.jG<|.jH<|.cc (bW a.1.1 b.1.2.1) λK=>.cc (bQ (⟨0,0⟩:af) K) λL=>.lit 13000 1<|.jR<|.jG<|.jH<|.jH<|.jH<|.cc (bW a.1.2.1 b.2.1.2.1) λM=>.cc (bQ L M) λN=>.lit 13000 2<|.jR<|.jG<|.jI<|.jI<|.jH<|.cc (bW a.1.2.2 b.2.2.2.1) λO=>.cc (bQ N O) λe=>.lit 13000 3<|.jS<|.cc (dG e.Lo) λP=>.cc (dG e.Hi) λQ=>.jG<|.jH<|.lit 15000 2<|.jR<|.unroll 4<|.jR<|.jG<|.jG<|.jG<|.jI<|.cc (bW a.1.1 b.1.2.2) λR=>.cc (bQ (⟨0,0⟩:af) R) λS=>.lit 13000 1<|.jR<|.jG<|.jH<|.jH<|.jI<|.cc (bW a.1.2.1 b.2.1.2.2) λU=>.cc (bQ S U) λV=>.lit 13000 2<|.jR<|.jG<|.jI<|.jI<|.jI<|.cc (bW a.1.2.2 b.2.2.2.2) λX=>.cc (bQ V X) λf=>.lit 13000 3<|.jS<|.cc (dG f.Lo) λl=>.cc (dG f.Hi) λm=>.jG<|.jI<|.lit 15000 3<|.jS<|.lit 16000 1<|.jR<|.unroll 4<|.jR<|.unroll 4<|.jR<|.jH<|.jG<|.jG<|.jG<|.cc (bW a.2.1.1 b.1.1) λo=>.cc (bQ (⟨0,0⟩:af) o) λp=>.lit 13000 1<|.jR<|.jH<|.jH<|.jH<|.jG<|.cc (bW a.2.1.2.1 b.2.1.1) λr=>.cc (bQ p r) λs=>.lit 13000 2<|.jR<|.jH<|.jI<|.jI<|.jG<|.cc (bW a.2.1.2.2 b.2.2.1) λt=>.cc (bQ s t) λc=>.lit 13000 3<|.jS<|.cc (dG c.Lo) λw=>.cc (dG c.Hi) λx=>.jH<|.jG<|.lit 15000 1<|.jR<|.unroll 4<|.jR<|.jH<|.jG<|.jG<|.jH<|.cc (bW a.2.1.1 b.1.2.1) λba=>.cc (bQ (⟨0,0⟩:af) ba) λbb=>.lit 13000 1<|.jR<|.jH<|.jH<|.jH<|.jH<|.cc (bW a.2.1.2.1 b.2.1.2.1) λbc=>.cc (bQ bb bc) λbd=>.lit 13000 2<|.jR<|.jH<|.jI<|.jI<|.jH<|.cc (bW a.2.1.2.2 b.2.2.2.1) λbe=>.cc (bQ bd be) λg=>.lit 13000 3<|.jS<|.cc (dG g.Lo) λbg=>.cc (dG g.Hi) λbh=>.jH<|.jH<|.lit 15000 2<|.jR<|.unroll 4<|.jR<|.jH<|.jG<|.jG<|.jI<|.cc (bW a.2.1.1 b.1.2.2) λbi=>.cc (bQ (⟨0,0⟩:af) bi) λbj=>.lit 13000 1<|.jR<|.jH<|.jH<|.jH<|.jI<|.cc (bW a.2.1.2.1 b.2.1.2.2) λbk=>.cc (bQ bj bk) λbl=>.lit 13000 2<|.jR<|.jH<|.jI<|.jI<|.jI<|.cc (bW a.2.1.2.2 b.2.2.2.2) λbm=>.cc (bQ bl bm) λh=>.lit 13000 3<|.jS<|.cc (dG h.Lo) λbp=>.cc (dG h.Hi) λbq=>.jH<|.jI<|.lit 15000 3<|.jS<|.lit 16000 2<|.jR<|.unroll 4<|.jR<|.unroll 4<|.jR<|.jI<|.jG<|.jG<|.jG<|.cc (bW a.2.2.1 b.1.1) λbs=>.cc (bQ (⟨0,0⟩:af) bs) λbt=>.lit 13000 1<|.jR<|.jI<|.jH<|.jH<|.jG<|.cc (bW a.2.2.2.1 b.2.1.1) λbu=>.cc (bQ bt bu) λbv=>.lit 13000 2<|.jR<|.jI<|.jI<|.jI<|.jG<|.cc (bW a.2.2.2.2 b.2.2.1) λbw=>.cc (bQ bv bw) λi=>.lit 13000 3<|.jS<|.cc (dG i.Lo) λbz=>.cc (dG i.Hi) λY=>.jI<|.jG<|.lit 15000 1<|.jR<|.unroll 4<|.jR<|.jI<|.jG<|.jG<|.jH<|.cc (bW a.2.2.1 b.1.2.1) λZ=>.cc (bQ (⟨0,0⟩:af) Z) λb9=>.lit 13000 1<|.jR<|.jI<|.jH<|.jH<|.jH<|.cc (bW a.2.2.2.1 b.2.1.2.1) λca=>.cc (bQ b9 ca) λcb=>.lit 13000 2<|.jR<|.jI<|.jI<|.jI<|.jH<|.cc (bW a.2.2.2.2 b.2.2.2.1) λcc=>.cc (bQ cb cc) λj=>.lit 13000 3<|.jS<|.cc (dG j.Lo) λce=>.cc (dG j.Hi) λcf=>.jI<|.jH<|.lit 15000 2<|.jR<|.unroll 4<|.jR<|.jI<|.jG<|.jG<|.jI<|.cc (bW a.2.2.1 b.1.2.2) λcg=>.cc (bQ (⟨0,0⟩:af) cg) λch=>.lit 13000 1<|.jR<|.jI<|.jH<|.jH<|.jI<|.cc (bW a.2.2.2.1 b.2.1.2.2) λci=>.cc (bQ ch ci) λcj=>.lit 13000 2<|.jR<|.jI<|.jI<|.jI<|.jI<|.cc (bW a.2.2.2.2 b.2.2.2.2) λck=>.cc (bQ cj ck) λk=>.lit 13000 3<|.jS<|.cc (dG k.Lo) λcm=>.cc (dG k.Hi) λcn=>.jI<|.jI<|.lit 15000 3<|.jS<|.lit 16000 3<|.jS<|.jT (((⟨I,J⟩:af),(⟨P,Q⟩:af),(⟨l,m⟩:af)),((⟨w,x⟩:af),(⟨bg,bh⟩:af),(⟨bp,bq⟩:af)),((⟨bz,Y⟩:af),(⟨ce,cf⟩:af),(⟨cm,cn⟩:af)))
def M0:=mkp2 func344 JE
def LJ (a:Bt)(b:Bq):T Bq:=.unroll 4<|.jR<|.unroll 4<|.jR<|.jG<|.jG<|.jG<|.jG<|.cc (bW a.1.1 b.1) λc=>.cc (bQ (⟨0,0⟩:af) c) λd=>.jG<|.lit 9000 1<|.jR<|.jG<|.jG<|.jH<|.jH<|.cc (bW a.1.2.1 b.2.1) λe=>.cc (bQ d e) λf=>.jG<|.lit 9000 2<|.jR<|.jG<|.jG<|.jI<|.jI<|.cc (bW a.1.2.2 b.2.2) λg=>.cc (bQ f g) λh=>.jG<|.lit 9000 3<|.jS<|.lit 10000 1<|.jR<|.unroll 4<|.jR<|.jH<|.jH<|.jG<|.jG<|.cc (bW a.2.1.1 b.1) λi=>.cc (bQ (⟨0,0⟩:af) i) λj=>.jH<|.lit 9000 1<|.jR<|.jH<|.jH<|.jH<|.jH<|.cc (bW a.2.1.2.1 b.2.1) λk=>.cc (bQ j k) λl=>.jH<|.lit 9000 2<|.jR<|.jH<|.jH<|.jI<|.jI<|.cc (bW a.2.1.2.2 b.2.2) λm=>.cc (bQ l m) λo=>.jH<|.lit 9000 3<|.jS<|.lit 10000 2<|.jR<|.unroll 4<|.jR<|.jI<|.jI<|.jG<|.jG<|.cc (bW a.2.2.1 b.1) λp=>.cc (bQ (⟨0,0⟩:af) p) λr=>.jI<|.lit 9000 1<|.jR<|.jI<|.jI<|.jH<|.jH<|.cc (bW a.2.2.2.1 b.2.1) λs=>.cc (bQ r s) λt=>.jI<|.lit 9000 2<|.jR<|.jI<|.jI<|.jI<|.jI<|.cc (bW a.2.2.2.2 b.2.2) λw=>.cc (bQ t w) λx=>.jI<|.lit 9000 3<|.jS<|.lit 10000 3<|.jS<|.jT (h,o,x)
def N8:=mkp2 func277 LJ
def Bb (a b:Bq):T Bq:=.unroll 4<|.jR<|.jG<|.jG<|.cc (bQ a.1 b.1) λc=>.jG<|.lit 6000 1<|.jR<|.jH<|.jH<|.cc (bQ a.2.1 b.2.1) λd=>.jH<|.lit 6000 2<|.jR<|.jI<|.jI<|.cc (bQ a.2.2 b.2.2) λe=>.jI<|.lit 6000 3<|.jS<|.jT (c,d,e)
def Pr:=mkp2 func276 Bb
def pR (a:Bq)(c d e f g h i j k l m o p r s t w x y z A B H b:Int):T (Bq×Int×Int×Int×Int×Int×Int×Int×Int×Int×Int×Int×Int×Int×Int×Int×Int×Int×Int×Int×Int×Int×Int×Int×Int):=.cc (N8 (((⟨c,d⟩:af),(⟨e,f⟩:af),(⟨g,h⟩:af)),((⟨i,j⟩:af),(⟨k,l⟩:af),(⟨m,o⟩:af)),((⟨p,r⟩:af),(⟨s,t⟩:af),(⟨w,x⟩:af))) ((⟨a.1.Lo,a.1.Hi⟩:af),(⟨a.2.1.Lo,a.2.1.Hi⟩:af),(⟨a.2.2.Lo,a.2.2.Hi⟩:af))) λI=>.cc (Pr ((⟨y,z⟩:af),(⟨A,B⟩:af),(⟨H,b⟩:af)) I) λJ=>.jT (J,c,d,e,f,g,h,i,j,k,l,m,o,p,r,s,t,w,x,y,z,A,B,H,b)
def uH i j k l m o p s t w x y z A B H I J K L M N O P h:=mkD func275 (pR i j k l m o p s t w x y z A B H I J K L M N O P h) 1 [q i,X7 0] [(0,.box [pz j,pz k,pz l,pz m,pz o,pz p,pz s,pz t,pz w,pz x,pz y,pz z,pz A,pz B,pz H,pz I,pz J,pz K,pz L,pz M,pz N,pz O,pz P,pz h])] (λr=>q r.1) (λr=>let b:=r.2.2.2;let c:=b.2.2.2;let d:=c.2.2.2;let a:=d.2.2.2;let e:=a.2.2.2;let f:=e.2.2.2;let g:=f.2.2.2;[(0,.box [pz r.2.1,pz r.2.2.1,pz b.1,pz b.2.1,pz b.2.2.1,pz c.1,pz c.2.1,pz c.2.2.1,pz d.1,pz d.2.1,pz d.2.2.1,pz a.1,pz a.2.1,pz a.2.2.1,pz e.1,pz e.2.1,pz e.2.2.1,pz f.1,pz f.2.1,pz f.2.2.1,pz g.1,pz g.2.1,pz g.2.2.1,pz g.2.2.2])])
def LR (i j:aV):T aV:=.cc (vw i) λa=>let c:=a.2.2.2.2.2;let d:=c.2.2.2;let e:=d.2.2.2;let b:=e.2.2.2;let f:=b.2.2.2;let g:=f.2.2.2;.cc (M0 i.R j.R) λh=>.call (uH j.T a.1 a.2.1 a.2.2.1 a.2.2.2.1 a.2.2.2.2.1 c.1 c.2.1 c.2.2.1 d.1 d.2.1 d.2.2.1 e.1 e.2.1 e.2.2.1 b.1 b.2.1 b.2.2.1 f.1 f.2.1 f.2.2.1 g.1 g.2.1 g.2.2.1 g.2.2.2) [(0,256)] λk=>.jT (⟨(h.1,h.2.1,h.2.2),k.1⟩:aV)
def pQ:=mkp2 func271 LR
def y6 (c:Int)(b:af):T aV:=.cut 2 (λs (a:C7)=>pk s [4,5] [64] [] [(128,.box [pz a.1,pz a.2.1,pz a.2.2.1,pz a.2.2.2.1,pz a.2.2.2.2.1,pz a.2.2.2.2.2])]) (.cas 2000 c 0 (.jG<|.oo (b.Lo,b.Hi,0,0,0,0)) (.cas 2000 c 1 (.jH<|.oo (0,0,b.Lo,b.Hi,0,0)) (.cas 2000 c 2 (.jI<|.oo (0,0,0,0,b.Lo,b.Hi)) (.stop)))) λa=>.cc (vu ((⟨a.1,a.2.1⟩:af),(⟨a.2.2.1,a.2.2.2.1⟩:af),(⟨a.2.2.2.2.1,a.2.2.2.2.2⟩:af))) λd=>.jT d
def Pl:=mkp2 func406 y6
def Jz (a:af):T Int:=.cc (eT a) λb=>.br (!b) (.jT 0) (.jT (G qs (a.Hi-a.Lo)))
def Jy:=mkp1 func533 Jz
def Ko (a:Int):T Int:=.jT (G qs (((BitVec.ofInt 64 a&&&BitVec.ofInt 64 65535).toNat:Int)))
def ur:=mkp1 func536 Ko
def Jq (d:Int):T (Ch×Ch):=
 let a:=qs.wrap;.ix 0 11 rfl<|.ix 0 11 rfl<|.cc (dZ (a (d * 6746518852)) 16) λb=>.jJ<|.cc (d7 (a (d * 6746518853)) 16) λc=>.jJ<|.unroll 10<|.jR<|.lit 8002 1<|.jJ<|.jJ<|.cc (dZ (a (b * b)) 30) λe=>.jK<|.lit 9002 1<|.jJ<|.jJ<|.cc (d7 (a (c * c)) 30) λf=>.jK<|.lit 7001 3<|.jR<|.lit 8002 2<|.jK<|.jJ<|.cc (dZ (a (e * b)) 30) λg=>.jL<|.lit 9002 2<|.jK<|.jJ<|.cc (d7 (a (f * c)) 30) λh=>.jL<|.lit 7001 4<|.jR<|.lit 8002 3<|.jL<|.jJ<|.cc (dZ (a (g * b)) 30) λi=>.jM<|.lit 9002 3<|.jL<|.jJ<|.cc (d7 (a (h * c)) 30) λj=>.jM<|.lit 7001 5<|.jR<|.lit 8002 4<|.jM<|.jJ<|.cc (dZ (a (i * b)) 30) λk=>.jN<|.lit 9002 4<|.jM<|.jJ<|.cc (d7 (a (j * c)) 30) λl=>.jN<|.lit 7001 6<|.jR<|.lit 8002 5<|.jN<|.jJ<|.cc (dZ (a (k * b)) 30) λm=>.jO<|.lit 9002 5<|.jN<|.jJ<|.cc (d7 (a (l * c)) 30) λo=>.jO<|.lit 7001 7<|.jR<|.lit 8002 6<|.jO<|.jJ<|.cc (dZ (a (m * b)) 30) λp=>.jP<|.lit 9002 6<|.jO<|.jJ<|.cc (d7 (a (o * c)) 30) λr=>.jP<|.lit 7001 8<|.jR<|.lit 8002 7<|.jP<|.jJ<|.cc (dZ (a (p * b)) 30) λs=>.jQ<|.lit 9002 7<|.jP<|.jJ<|.cc (d7 (a (r * c)) 30) λt=>.jQ<|.lit 7001 9<|.jR<|.lit 8002 8<|.jQ<|.jJ<|.cc (dZ (a (s * b)) 30) λw=>.ix 9 11 rfl<|.lit 9002 8<|.jQ<|.jJ<|.cc (d7 (a (t * c)) 30) λx=>.ix 9 11 rfl<|.lit 7001 10<|.jR<|.lit 8002 9<|.ix 9 11 rfl<|.jJ<|.cc (dZ (a (w * b)) 30) λy=>.ix 10 11 rfl<|.lit 9002 9<|.ix 9 11 rfl<|.jJ<|.cc (d7 (a (x * c)) 30) λz=>.ix 10 11 rfl<|.lit 7001 11<|.jS<|.jT ((1073741824,b,e,g,i,k,m,p,s,w,y),(1073741824,c,f,h,j,l,o,r,t,x,z))
def Jp:=mkq1 func546 Jq (λr=>.tup [.pure (ui r.1),.pure (ui r.2)])
def Kn (b a:Int):T Int:=.grd (a≠0)<|.jT (G qs ((G qs ((G qs (b+a))-1)).tdiv a))
def gR:=mkp2 func548 Kn
def HS (c:A7):T Int:=
 let b:=qs.wrap;.loop (λs (a:Bk)=>pk s [7,8] [] [(3,pz a.1),(4,pz a.2.1),(9,pz a.2.2)] []) (.exit 0) (ik 3 [] []) (λa=>.kh (a.2.2<(C c:Int)) (.vd a.2.2 c<|.nn ((b (a.1+(b (a.2.1 * (F c (X3 a.2.2) qt))))),(b (0-a.2.1)),(b (a.2.2+1)))) (.oo a.1)) (0,1,0) [] λa=>.jT a
def kE:=mkp1 func547 HS
def II (a b:Int):T af:=.cc (dZ a 14) λc=>.cc (d7 b 14) λd=>.jT (⟨(max 0 c),(min 65536 d)⟩:af)
def IH:=mkp2 func549 II
def y5 (e:Int):T af:=.cc (Jp e) λa=>let b:=a.2.2.2.2;.jJ<|.jL<|.cc (gR b.1 6) λf=>.jN<|.ok ((120:Int)≠0) jU<|.jP<|.cc (gR b.2.2.2.2.1 5040) λg=>let c:=([a.1.2.1,f,(G qs (a.1.2.2.2.2.2.1.tdiv 120)),g]:A7);
 .conv 2011 (kL c 2)<|.cc (kE c) λh=>.jJ<|.jL<|.ok ((6:Int)≠0) jU<|.jN<|.cc (gR b.2.2.1 120) λi=>.jP<|.ok ((5040:Int)≠0) jU<|.ix 9 11 rfl<|.cc (gR b.2.2.2.2.2.2.1 362880) λj=>let d:=([a.2.2.1,(G qs (a.1.2.2.2.1.tdiv 6)),i,(G qs (a.1.2.2.2.2.2.2.2.1.tdiv 5040)),j]:A7);
 .conv 3014 (kL d 2)<|.cc (kE d) λk=>.cc (IH h k) λl=>.jT l
def Pk:=mkp1 func544 y5
def Ll (f:Int):T af:=
 let c:=qs.wrap;.cc (Jp f) λa=>let b:=a.2.2.2.2.2;.jK<|.cc (gR a.2.2.2.1 2) λg=>.jM<|.ok ((24:Int)≠0) jU<|.jO<|.cc (gR b.2.2.1 720) λh=>.jQ<|.ok ((40320:Int)≠0) jU<|.ix 10 11 rfl<|.cc (gR b.2.2.2.2.2.2 3628800) λi=>let d:=([1073741824,g,(c (a.1.2.2.2.2.1.tdiv 24)),h,(c (a.1.2.2.2.2.2.2.2.2.1.tdiv 40320)),i]:A7);
 .conv 2015 (kL d 2)<|.cc (kE d) λj=>.jK<|.ok ((2:Int)≠0) jU<|.jM<|.cc (gR b.1 24) λk=>.jO<|.ok ((720:Int)≠0) jU<|.jQ<|.cc (gR b.2.2.2.2.1 40320) λl=>let e:=([1073741824,(c (a.1.2.2.1.tdiv 2)),k,(c (a.1.2.2.2.2.2.2.1.tdiv 720)),l]:A7);
 .conv 3012 (kL e 2)<|.cc (kE e) λm=>.cc (IH j m) λo=>.jT o
def NV:=mkp1 func545 Ll
def vE (a:Int):T af:=.kh (a<=8192) (.cc (Pk a) λb=>.jT b) (.cc (NV (G qs (16384-a))) λb=>.jT b)
def pZ:=mkp1 func537 vE
def LH (a:af):T af:=.cc (eT a) λb=>.br (!b) (.jT (⟨0,0⟩:af)) (.jT (⟨(G qs (0-a.Hi)),(G qs (0-a.Lo))⟩:af))
def uC:=mkp1 func520 LH
def Cp (g:Int):T af:=.cc (ur g) λe=>let b:=e.tmod 16384;let c:=G qs (e.tdiv 16384);let f:=G qs (16384-b);
 .ok ((16384:Int)≠0) jU<|.ok ((16384:Int)≠0) jU<|.br (c==0) (.cc (pZ b) λa=>.jT a) (.br (c==1) (.cc (pZ f) λa=>.jT a) (.br (c==2) (.cc (pZ b) λa=>.cc (uC a) λd=>.jT d) (.cc (pZ f) λa=>.cc (uC a) λd=>.jT d)))
def rB:=mkp1 func529 Cp
def Co (a:Int):T af:=.cc (ur a) λb=>.cc (rB (G qs (b+16384))) λc=>.jT c
def Cn:=mkp1 func528 Co
def KB (a b:af):T af:=.cc (uj a b) λc=>.br (!c) (.jT (⟨0,0⟩:af)) (.jT (⟨(min a.Lo b.Lo),(max a.Hi b.Hi)⟩:af))
def lS:=mkp2 func534 KB
def LD (a:af)(b:Int):T Bool:=.cc (eT a) λc=>.br c (.kh (a.Lo<=b) (.jT (qu (b<=a.Hi))) (.jT E)) (.jT E)
def N3:=mkp2 func543 LD
def vF (a:af)(b:Int):T Bool:=.cc (ur (G qs (b-a.Lo))) λc=>.cc (N3 a (G qs (a.Lo+c))) λd=>.jT d
def p6:=mkp2 func535 vF
def y4 (c:af)(g h:Int):T af:=.cc (eT c) λi=>.br (!i) (.jT (⟨0,0⟩:af)) (.cc (Jy c) λj=>.kh (j>=65536) (.jT (⟨(-65536),65536⟩:af)) (.cc (Cn c.Lo) λk=>.cc (Cn c.Hi) λl=>.cc (lS k l) λe=>.cut 0 (λs (a:B6)=>pk s [3,4,8,9] [0,64] [] [(1088,.box [pz a.1,pz a.2])]) (.cc (p6 c g) λa=>.br a (.cc (eV 65536) λb=>.cc (lS e b) λd=>.oo (d.Lo,d.Hi)) (.oo (e.Lo,e.Hi))) λa=>.cut 0 (λs (b:B6)=>pk s [8,9] [64] [] [(1088,.box [pz b.1,pz b.2])]) (.cc (p6 c h) λb=>.br b (.cc (eV (-65536)) λd=>.cc (lS (⟨a.1,a.2⟩:af) d) λf=>.oo (f.Lo,f.Hi)) (.oo (a.1,a.2))) λb=>.jT (⟨b.1,b.2⟩:af)))
def Pj a b c:=mkD func527 (y4 a b c) 0 [q a,.func 528 [] [],pz b,pz c] [] q X6
def Kl (a:af):T af:=.cc (Pj a 0 32768) λb=>.jT b
def Nm:=mkp1 func518 Kl
def Lm (c:af)(g h:Int):T af:=.cc (eT c) λi=>.br (!i) (.jT (⟨0,0⟩:af)) (.cc (Jy c) λj=>.kh (j>=65536) (.jT (⟨(-65536),65536⟩:af)) (.cc (rB c.Lo) λk=>.cc (rB c.Hi) λl=>.cc (lS k l) λe=>.cut 0 (λs (a:B6)=>pk s [3,4,8,9] [0,64] [] [(1088,.box [pz a.1,pz a.2])]) (.cc (p6 c g) λa=>.br a (.cc (eV 65536) λb=>.cc (lS e b) λd=>.oo (d.Lo,d.Hi)) (.oo (e.Lo,e.Hi))) λa=>.cut 0 (λs (b:B6)=>pk s [8,9] [64] [] [(1088,.box [pz b.1,pz b.2])]) (.cc (p6 c h) λb=>.br b (.cc (eV (-65536)) λd=>.cc (lS (⟨a.1,a.2⟩:af) d) λf=>.oo (f.Lo,f.Hi)) (.oo (a.1,a.2))) λb=>.jT (⟨b.1,b.2⟩:af)))
def NW a b c:=mkD func527 (Lm a b c) 0 [q a,.func 529 [] [],pz b,pz c] [] q X6
def Km (a:af):T af:=.cc (NW a 16384 49152) λb=>.jT b
def Nn:=mkp1 func519 Km
def yb (d:Int)(e:af):T Bt:=let h:=(⟨e.Lo,e.Hi⟩:af);.cc (eT e) λi=>.br (!i) (.jT (((⟨0,0⟩:af),(⟨0,0⟩:af),(⟨0,0⟩:af)),((⟨0,0⟩:af),(⟨0,0⟩:af),(⟨0,0⟩:af)),((⟨0,0⟩:af),(⟨0,0⟩:af),(⟨0,0⟩:af)))) (.cc (Nm h) λb=>.cc (Nn h) λc=>.cc (uC c) λf=>.cc (eV 65536) λg=>.cc (eV 0) λa=>.br (d==0) (.jT ((g,a,a),(a,b,f),(a,c,b))) (.br (d==1) (.jT ((b,a,c),(a,g,a),(f,a,b))) (.br (d==2) (.jT ((b,f,a),(c,b,a),(a,a,g))) (.jT (((⟨0,0⟩:af),(⟨0,0⟩:af),(⟨0,0⟩:af)),((⟨0,0⟩:af),(⟨0,0⟩:af),(⟨0,0⟩:af)),((⟨0,0⟩:af),(⟨0,0⟩:af),(⟨0,0⟩:af)))))))
def OJ:=mkp2 func507 yb
def CB (b:Int)(a:af):T aV:=.cc (OJ b (⟨a.Lo,a.Hi⟩:af)) λc=>.cc (pose_still_C) λd=>.jT (⟨c,d⟩:aV)
def P8:=mkp2 func464 CB
def Cr (b:Int)(a:af):T aV:=.cc (P8 b (⟨a.Lo,a.Hi⟩:af)) λc=>.jT c
def PW:=mkp2 func405 Cr
def H8 (a:ek)(f:af):T aV:=.cc (pP a.XH) λb=>.cc (vu ((⟨b.1.Lo,b.1.Hi⟩:af),(⟨b.2.1.Lo,b.2.1.Hi⟩:af),(⟨b.2.2.Lo,b.2.2.Hi⟩:af))) λg=>let h:=(⟨g.R,g.T⟩:aV);
 .split (((Hl a.Xp).o).isSome) (.cc (Hl a.Xp) λd=>.cc (PW d (⟨f.Lo,f.Hi⟩:af)) λc=>.cc (pQ h c) λe=>.jT e) (.split (((Hn a.Xp).o).isSome) (.cc (Hn a.Xp) λd=>.cc (Pl d f) λc=>.cc (pQ g c) λe=>.jT e) (.cc (VY a.Xp) λd=>.cc (PV d f) λc=>.cc (pQ h (⟨c.R,c.T⟩:aV)) λe=>.jT e))
def Wd:=mkp2 func270 H8
def Ib (e:am)(i:Ah):T Aj:=let f:=(C e.Xa:Int);.vg 1003 24 Sc 191 f (⟨(((⟨0,0⟩:af),(⟨0,0⟩:af),(⟨0,0⟩:af)),((⟨0,0⟩:af),(⟨0,0⟩:af),(⟨0,0⟩:af)),((⟨0,0⟩:af),(⟨0,0⟩:af),(⟨0,0⟩:af))),((⟨0,0⟩:af),(⟨0,0⟩:af),(⟨0,0⟩:af))⟩:aV) 192<|.vn (λ(a:(Aj×Int))=>([(15,pz a.2)],[(320,vO a.1 191)])) [1,5,13,14] [] 0 (λ(a:Aj)=>([],[(320,vO a 191)])) [5] [] (λa=>let d:=(a.2).toNat;let j:=F e.Xa d qt;let g:=j.XG;.kh (a.2<f) (.cut 0 (λs (b:Aj)=>pk s [1,5,13,14,15] [] [] [(320,vO b 191)]) (.vd a.2 e.Xa<|.vd a.2 i<|.cc (Wd j (F i d qt)) λb=>let c:=a.1.set d b;let h:=C c;
 .vd a.2 a.1<|.vl 5009 a.1 191 a.2 b<|.br (g !=(-1)) (.gg g h<|.gg a.2 h<|.call (pQ (F c (g.toNat) qt) (F c d qt)) [] λk=>.gh a.2 h<|.vl 7013 c 191 a.2 k<|.oo (c.set d k)) (.oo c)) λb=>.nn (b,(G qs (a.2+1)))) (.oo a.1)) ((qr f.toNat ((⟨(((⟨0,0⟩:af),(⟨0,0⟩:af),(⟨0,0⟩:af)),((⟨0,0⟩:af),(⟨0,0⟩:af),(⟨0,0⟩:af)),((⟨0,0⟩:af),(⟨0,0⟩:af),(⟨0,0⟩:af))),((⟨0,0⟩:af),(⟨0,0⟩:af),(⟨0,0⟩:af))⟩:aV):aV)),0) λa=>.jT a
def ub:=mkp2 func191 Ib
def H9 (d:am)(e:Ah):T Aj:=let a:=(⟨d.Xa,d.Xn⟩:am);.cub 2 13 [1,2] [0] (.cc (ua a e) λb=>.ki (!b) (.cc (iw a) λc=>.oo (c !=0))) λb=>.br b (.jT nl) (.cc (ub a e) λc=>.jT c)
def We:=mkp2 func110 H9
def BD (h:aV)(i:Bq):T Bq:=.cc (vw h) λa=>let c:=a.2.2.2.2.2;let d:=c.2.2.2;let e:=d.2.2.2;let b:=e.2.2.2;let f:=b.2.2.2;let g:=f.2.2.2;.call (uH i a.1 a.2.1 a.2.2.1 a.2.2.2.1 a.2.2.2.2.1 c.1 c.2.1 c.2.2.1 d.1 d.2.1 d.2.2.1 e.1 e.2.1 e.2.2.1 b.1 b.2.1 b.2.2.1 f.1 f.2.1 f.2.2.1 g.1 g.2.1 g.2.2.1 g.2.2.2) [(0,256)] λj=>.jT j.1
def BC:=mkp2 func112 BD
def Dh (a:al)(o p:Int)(J:A7):T Bool:=let d:=qs.wrap;let r:=G qs (65536-a.Xq);let c:=G qs (0-a.Xq);let t:=F a.Xm (o.toNat) qt;let e:=F a.Xj (p.toNat) qt;.cub 2 35 [1,2,3,4] [0] (.cc (nG a) λw=>.ki (w !=0) (.cc (vW a o p) λx=>.ki (!x) (.cc (eF a.Xi.Xe J) λm=>.oo (!m)))) λw=>.br w (.jT E) (.vd o a.Xm<|.cc (y7 J) λx=>.cc (We a.Xi.Xe x) λm=>let b:=F m (X3 t.Xy) qt;let K:=b.R.1.2.1.Lo;let L:=b.R.1.2.2.Lo;let M:=b.R.2.1.1.Lo;let N:=b.R.2.2.1.Lo;let O:=b.R.2.1.2.2.Lo;let P:=b.R.2.2.2.1.Lo;let Q:=qu (K<c);let S:=qu (L<c);let U:=qu (M<c);let V:=qu (O<c);let X:=qu (N<c);let Y:=qu (P<c);let y:=qu ((b.R.1.2.1.Hi)>a.Xq);let z:=qu ((b.R.1.2.2.Hi)>a.Xq);let A:=qu ((b.R.2.1.1.Hi)>a.Xq);let B:=qu ((b.R.2.1.2.2.Hi)>a.Xq);let H:=qu ((b.R.2.2.1.Hi)>a.Xq);let I:=qu ((b.R.2.2.2.1.Hi)>a.Xq);
 .vd (t.Xy) m<|.unroll 4<|.jR<|.jG<|.unroll 4<|.jR<|.jG<|.jR<|.kh ((b.R.1.1.Lo)<r) (.jT E) (.jS<|.lit 15000 1<|.jR<|.jH<|.jS<|.cut 0 (λs (g:Bx)=>pk s [2,4,9,10,11,52,53,57,58,66,67,68,69,70,71] [0,512,1280,4672] [(77,X7 4672),(78,pz K),(79,.ptr 0 8),(80,pz a.Xq),(81,pz c),(82,q Q),(83,q g.1),(89,q g.2.1),(90,q g.2.2)] []) (.jR<|.br Q (.oo (D,D,D)) (.oo (E,y,y))) λg=>.br g.2.2 (.jT E) (.lit 15000 2<|.jR<|.jI<|.jS<|.cut 0 (λs (h:Bx)=>pk s [2,4,9,10,11,52,53,57,58,66,67,68,69,70,71,79,80,81] [0,512,1280,5952] [(77,X7 5952),(78,pz L),(82,q S),(83,q h.1),(89,q h.2.1),(90,q h.2.2)] []) (.jR<|.br S (.oo (D,D,D)) (.oo (E,z,z))) λh=>.br h.2.2 (.jT E) (.lit 15000 3<|.jS<|.lit 16000 1<|.jR<|.jH<|.unroll 4<|.jR<|.jG<|.jS<|.cut 0 (λs (i:Bx)=>pk s [2,4,9,10,11,52,53,57,58,66,67,68,69,70,71,79,80,81] [0,512,1280,7936] [(77,X7 7936),(78,pz M),(82,q U),(83,q i.1),(89,q i.2.1),(90,q i.2.2)] []) (.jR<|.br U (.oo (D,D,D)) (.oo (E,A,A))) λi=>.br i.2.2 (.jT E) (.lit 15000 1<|.jR<|.jH<|.jR<|.kh ((b.R.2.1.2.1.Lo)<r) (.jT E) (.jS<|.lit 15000 2<|.jR<|.jI<|.jS<|.cut 0 (λs (j:Bx)=>pk s [2,4,9,10,11,52,53,57,58,66,67,68,69,70,71] [0,512,1280,11584] [(77,X7 11584),(78,pz O),(79,.ptr 0 8),(80,pz a.Xq),(81,pz c),(82,q V),(83,q j.1),(89,q j.2.1),(90,q j.2.2)] []) (.jR<|.br V (.oo (D,D,D)) (.oo (E,B,B))) λj=>.br j.2.2 (.jT E) (.lit 15000 3<|.jS<|.lit 16000 2<|.jR<|.jI<|.unroll 4<|.jR<|.jG<|.jS<|.cut 0 (λs (k:Bx)=>pk s [2,4,9,10,11,52,53,57,58,66,67,68,69,70,71,79,80,81] [0,512,1280,13568] [(77,X7 13568),(78,pz N),(82,q X),(83,q k.1),(89,q k.2.1),(90,q k.2.2)] []) (.jR<|.br X (.oo (D,D,D)) (.oo (E,H,H))) λk=>.br k.2.2 (.jT E) (.lit 15000 1<|.jR<|.jH<|.jS<|.cut 0 (λs (l:Bx)=>pk s [2,4,9,10,11,52,53,57,58,66,67,68,69,70,71,79,80,81] [0,512,1280,14848] [(77,X7 14848),(78,pz P),(82,q Y),(83,q l.1),(89,q l.2.1),(90,q l.2.2)] []) (.jR<|.br Y (.oo (D,D,D)) (.oo (E,I,I))) λl=>.br l.2.2 (.jT E) (.lit 15000 2<|.jR<|.jI<|.jR<|.kh ((b.R.2.2.2.2.Lo)<r) (.jT E) (.jS<|.lit 15000 3<|.jS<|.lit 16000 3<|.jS<|.vd p a.Xj<|.cc (pP (t.XH)) λZ=>.call (BC b Z) [] λf=>.unroll 4<|.jR<|.jG<|.cub 0 126 [4,15,102,103] [0,18880] (.jG<|.kl (f.1.Lo<(d ((e.1)-a.Xq))) (.jG<|.oo (qu (f.1.Hi>(d ((e.1)+a.Xq)))))) λbe=>.br be (.jT E) (.lit 23000 1<|.jR<|.jH<|.cub 0 126 [4,15,102,103] [0,18880] (.jH<|.kl (f.2.1.Lo<(d ((e.2.1)-a.Xq))) (.jH<|.oo (qu (f.2.1.Hi>(d ((e.2.1)+a.Xq)))))) λbf=>.br bf (.jT E) (.lit 23000 2<|.jR<|.jI<|.cub 0 126 [4,15,102,103] [0,18880] (.jI<|.kl (f.2.2.Lo<(d ((e.2.2)-a.Xq))) (.jI<|.oo (qu (f.2.2.Hi>(d ((e.2.2)+a.Xq)))))) λbg=>.br bg (.jT E) (.lit 23000 3<|.jS<|.jT D)))))))))))))
def kT:=mkp4 func53 Dh
def J5 (e:am):T A7:=let h:=(C e.Xa:Int);let i:=G qs (h+1);let f:=qr i.toNat (0:Int);.vg 1004 1 bI 3 i 0 8<|.vd (0:Int) f<|.vl 2002 f 3 (0:Int) (-1)<|.vn (λ(a:Ak)=>([(16,pz a.2)],[(384,vO a.1 3)])) [3,14,15] [] 0 (λ(a:A7)=>([],[(384,vO a 3)])) [3] [] (λa=>let b:=G qs (a.2+1);let j:=b.toNat;let d:=a.1.set j a.2;let k:=C d;let g:=F e.Xa (X3 a.2) qt;let l:=G qs ((g.XG)+1);.kh (a.2<h) (.cut 0 (λs (c:A7)=>pk s [3,14,15,16] [] [] [(384,vO c 3)]) (.vd a.2 e.Xa<|.vd b a.1<|.vl 6005 a.1 3 b a.2<|.br ((g.Lo)==(g.Hi)) (.gg l k<|.name 8008 ((F d (l.toNat) qt)) λc=>.gh b k<|.vl 8010 d 3 b c<|.oo (d.set j c)) (.oo d)) λc=>.nn (c,b)) (.oo a.1)) ((f.set (X3 (0:Int)) (-1)),0) λa=>.jT a
def Ng:=mkp1 func468 J5
def K5 (c:aj)(d e:Int):T Bool:=.loop (ik 12 [1,2,10,11] []) (.exit 0) (jk [] []) (λa=>let b:=F c.Xo (a.toNat) qt;.kh (a<(C c.Xo:Int)) (.vd a c.Xo<|.cub 0 27 [1,2,10,11,12] [] (.ki (((b.A)==d)&&(((b.B)==e)&&D)) (.oo (((b.A)==e)&&(((b.B)==d)&&D)))) λf=>.br f (.ff D) (.nn (G qs (a+1)))) (.oo .u))
 0 [] λ_=>.jT E
def NM:=mkp3 func469 K5
def yR (c:aj):T Al:=let g:=(C c.Xc:Int);.cc (fL c) λo=>.br (o !=0) (.jT nl) (.cc (Ng c.Xe) λe=>.vn (λ(b:Am)=>([(19,pz b.2)],[(576,vO b.1 427)])) [1,3,4,17,18] [0] 0 (λ(b:Al)=>([],[(576,vO b 427)])) [4] [] (λb=>let h:=(F c.Xc (X3 b.2) qt).Xy;let i:=G qs (h+1);let j:=G qs (b.2+1);.kh (b.2<g) (.vd b.2 c.Xc<|.vn (λ(a:Am)=>([(7,pz a.2)],[(576,vO a.1 427)])) [1,3,4,5,6,17,18,19] [0,1216] 2 (λ(a:Al)=>([],[(576,vO a 427)])) [1,3,4,17,18,19] [0] (λa=>let k:=([(⟨b.2,a.2⟩:ip)]:Al);let l:=(F c.Xc (X3 a.2) qt).Xy;let m:=G qs (l+1);.kh (a.2<g) (.cut 0 (λs (d:Al)=>pk s [1,3,5,6,7,17,18,19] [0,1216] [(4,.vec 1984)] [(1984,vO d 427)]) (.vd a.2 c.Xc<|.vd i e<|.vd m e<|.name 12011 ((F e (m.toNat) qt)) λd=>.cub 0 61 [1,3,4,5,6,7,17,18,19] [0,576,1216] (.kj (!((F e (i.toNat) qt)==d)) (.cc (NM c h l) λf=>.oo (!f))) λf=>.br f (.vh 14004 a.1 k 427 16<|.oo (a.1++k)) (.oo a.1)) λd=>.nn (d,(G qs (a.2+1)))) (.oo a.1)) (b.1,j) λa=>.nn (a,j)) (.oo b.1)) (nl,0) λb=>.jT b)
def O5:=mkp1 func413 yR
def yX (b:bD)(f:aV):T Br:=let c:=(C b.Xb:Int);.cc (yV b) λg=>.br (!g) (.jT nl) (.vg 3003 6 gO 189 c ((⟨0,0⟩:af),(⟨0,0⟩:af),(⟨0,0⟩:af)) 48<|.vn (λ(a:(Br×Int))=>([(18,pz a.2)],[(576,vO a.1 189)])) [3,5,16,17] [64] 0 (λ(a:Br)=>([],[(576,vO a 189)])) [5] [] (λa=>let d:=(a.2).toNat;.kh (a.2<c) (.vd a.2 b.Xb<|.cc (pP (F b.Xb d qt)) λh=>.cc (BC f h) λe=>.vd a.2 a.1<|.vl 7007 a.1 189 a.2 e<|.nn ((a.1.set d e),(G qs (a.2+1)))) (.oo a.1)) ((qr c.toNat (((⟨0,0⟩:af),(⟨0,0⟩:af),(⟨0,0⟩:af)):Bq)),0) λa=>.jT a)
def O9:=mkp2 func470 yX
def HY (f:aj)(A:Ah):T Bs:=let e:=(C f.Xc:Int);.cub 2 19 [1,2] [0] (.cc (ua f.Xe A) λy=>.ki (!y) (.cc (fL f) λx=>.oo (x !=0))) λy=>.br y (.jT nl) (.cc (ub f.Xe A) λx=>.conv 4003 (TY 1 (encL 6 gO) 351 e.toNat nl (.lst 0 0 λ_=>.unk) jY)<|.grd (0<=e/\e<=e/\e<=9223372036854775807/\e * 24<=140737488355328)<|.vn (λ(c:(Bs×Int))=>([(31,pz c.2)],[(704,vO c.1 351)])) [5,6,29,30] [] 0 (λ(c:Bs)=>([],[(704,vO c 351)])) [6] [] (λc=>let B:=(c.2).toNat;let H:=F f.Xc B qt;let z:=H.Xy;let a:=F x (z.toNat) qt;.kh (c.2<e) (.vd c.2 f.Xc<|.cc (pose_Identity_C) λb=>.cut 0 (λs (d:Cj)=>let m:=d.2.2.2.2.2;let o:=m.2.2.2;let p:=o.2.2.2;let r:=p.2.2.2;let t:=r.2.2.2;let w:=t.2.2.2;pk s [5,6,7,8,9,29,30,31] [704,1408] [] [(1664,.box [pz d.1,pz d.2.1,pz d.2.2.1,pz d.2.2.2.1,pz d.2.2.2.2.1,pz m.1,pz m.2.1,pz m.2.2.1,pz o.1,pz o.2.1,pz o.2.2.1,pz p.1,pz p.2.1,pz p.2.2.1,pz r.1,pz r.2.1,pz r.2.2.1,pz t.1,pz t.2.1,pz t.2.2.1,pz w.1,pz w.2.1,pz w.2.2.1,pz w.2.2.2])]) (.br (z !=(-1)) (.vd z x<|.oo (a.R.1.1.Lo,a.R.1.1.Hi,a.R.1.2.1.Lo,a.R.1.2.1.Hi,a.R.1.2.2.Lo,a.R.1.2.2.Hi,a.R.2.1.1.Lo,a.R.2.1.1.Hi,a.R.2.1.2.1.Lo,a.R.2.1.2.1.Hi,a.R.2.1.2.2.Lo,a.R.2.1.2.2.Hi,a.R.2.2.1.Lo,a.R.2.2.1.Hi,a.R.2.2.2.1.Lo,a.R.2.2.2.1.Hi,a.R.2.2.2.2.Lo,a.R.2.2.2.2.Hi,a.T.1.Lo,a.T.1.Hi,a.T.2.1.Lo,a.T.2.1.Hi,a.T.2.2.Lo,a.T.2.2.Hi)) (.oo (b.R.1.1.Lo,b.R.1.1.Hi,b.R.1.2.1.Lo,b.R.1.2.1.Hi,b.R.1.2.2.Lo,b.R.1.2.2.Hi,b.R.2.1.1.Lo,b.R.2.1.1.Hi,b.R.2.1.2.1.Lo,b.R.2.1.2.1.Hi,b.R.2.1.2.2.Lo,b.R.2.1.2.2.Hi,b.R.2.2.1.Lo,b.R.2.2.1.Hi,b.R.2.2.2.1.Lo,b.R.2.2.2.1.Hi,b.R.2.2.2.2.Lo,b.R.2.2.2.2.Hi,b.T.1.Lo,b.T.1.Hi,b.T.2.1.Lo,b.T.2.1.Hi,b.T.2.2.Lo,b.T.2.2.Hi))) λd=>let h:=d.2.2.2.2.2;let i:=h.2.2.2;let j:=i.2.2.2;let g:=j.2.2.2;let k:=g.2.2.2;let l:=k.2.2.2;.cc (O9 H (⟨(((⟨d.1,d.2.1⟩:af),(⟨d.2.2.1,d.2.2.2.1⟩:af),(⟨d.2.2.2.2.1,h.1⟩:af)),((⟨h.2.1,h.2.2.1⟩:af),(⟨i.1,i.2.1⟩:af),(⟨i.2.2.1,j.1⟩:af)),((⟨j.2.1,j.2.2.1⟩:af),(⟨g.1,g.2.1⟩:af),(⟨g.2.2.1,k.1⟩:af))),((⟨k.2.1,k.2.2.1⟩:af),(⟨l.1,l.2.1⟩:af),(⟨l.2.2.1,l.2.2.2⟩:af))⟩:aV)) λI=>.vd c.2 c.1<|.vl 11006 c.1 351 c.2 I<|.nn ((c.1.set B I),(G qs (c.2+1)))) (.oo c.1)) ((qr e.toNat (nl:Br)),0) λc=>.jT c)
def Wa:=mkp2 func414 HY
def Jt (a:aj)(c:Ah):T (gj×Bool):=let f:=(C c:Int);.cub 2 19 [1,2,4] [0,64,65,66,67] (.cc (fL a) λd=>.ki (d !=0) (.oo (f !=(C a.Xe.Xa:Int)))) λd=>.br d (.jT ((⟨nl,nl,nl⟩:gj),E)) (.loop (ik 23 [1,2,4,21,22] [0,64,65,66,67]) (.exit 0) (jk [1,2,4] [0,64,65,66,67]) (λb=>.kh (b<f) (.vd b c<|.cc (eT (F c (b.toNat) qt)) λe=>.br (!e) (.ff ((⟨nl,nl,nl⟩:gj),E)) (.nn (G qs (b+1)))) (.oo .u))
 0 [] λ_=>.cc (O5 a) λb=>.cc (Wa (⟨a.Xe,a.Xc,a.Xo⟩:aj) c) λe=>.jT ((⟨a.Xc,b,e⟩:gj),D))
def Js:=mkq2 func358 Jt (λr=>.tup [q r.1,q r.2])
def p8 (a:gj)(d:Int):T pp:=let e:=F a.pairs (d.toNat) qt;let b:=e.A;let c:=e.B;.vd d a.pairs<|.vd b a.points<|.vd b a.shapes<|.vd c a.points<|.vd c a.shapes<|.jT (⟨(F a.points (b.toNat) qt),(F a.points (c.toNat) qt),(F a.shapes (b.toNat) qt).XC,(F a.shapes (c.toNat) qt).XC⟩:pp)
def uR:=mkp2 func359 p8
def WM (a:Br)(b:Int)(c:Br)(d:Int)(e:Bl):T (Br×Br×Int×Int×Bl):=.jT (a,c,b,d,e)
def HO:=mkv5 func416 WM (λ_=>.func 471 [] [X7 0,X7 1,X7 2,X7 3,X7 4]) (λr=>[(0,.box [q r.1]),(1,.box [q r.2.1]),(2,.box [pz r.2.2.1]),(3,.box [pz r.2.2.2.1]),(4,.box [q r.2.2.2.2])])
def aaL (a:Br)(b:Int)(c:Br)(d:Int):T iu:=.jT (⟨(⟨a,b⟩:iC),(⟨c,d⟩:iC)⟩:iu)
def Pz:=mkp4 func477 aaL
def Mm (c:Br):T Bool:=let d:=(C c:Int);.cub 2 14 [0] [] (.kl (d<1) (.oo (qu (d>8)))) λe=>.br e (.jT E) (.loop (ik 17 [15,16] []) (.exit 0) (jk [] []) (λb=>let a:=F c (b.toNat) qt;.kh (b<d) (.vd b c<|.unroll 4<|.jR<|.jG<|.cub 0 39 [15,16,17,21,22] [] (.kl ((a.1.Lo)<(-268435456)) (.kl ((a.1.Lo)>(a.1.Hi)) (.oo (qu ((a.1.Hi)>268435456))))) λf=>.br f (.ff E) (.lit 11000 1<|.jR<|.jH<|.cub 0 39 [15,16,17,21,22] [] (.kl ((a.2.1.Lo)<(-268435456)) (.kl ((a.2.1.Lo)>(a.2.1.Hi)) (.oo (qu ((a.2.1.Hi)>268435456))))) λg=>.br g (.ff E) (.lit 11000 2<|.jR<|.jI<|.cub 0 39 [15,16,17,21,22] [] (.kl ((a.2.2.Lo)<(-268435456)) (.kl ((a.2.2.Lo)>(a.2.2.Hi)) (.oo (qu ((a.2.2.Hi)>268435456))))) λh=>.br h (.ff E) (.lit 11000 3<|.jS<|.nn (G qs (b+1)))))) (.oo .u))
 0 [] λ_=>.jT D)
def gT:=mkp1 func421 Mm
def BZ (a:iC):T Bool:=.cc (gT a.points) λb=>.br b (.kh (0<=a.radius) (.jT (qu (a.radius<=1048576))) (.jT E)) (.jT E)
def BY:=mkp1 func521 BZ
def Jl (b:Bk):T Bool:=.loop (ik 6 [5] []) (.exit 0) (jk [] []) (λa=>let c:=F ([b.1,b.2.1,b.2.2]:A7) a.toNat 0;.kh (a<3) (.gh a 3<|.cub 0 14 [5,6] [] (.kl (c<(-16384)) (.oo (qu (c>16384)))) λd=>.br d (.ff E) (.nn (G qs (a+1)))) (.oo .u))
 0 [] λ_=>.jT D
def Jk:=mkp1 func509 Jl
def Kb (a:Bk):T Bool:=.cc (Jk a) λb=>.br b (.jT (!((a.1==0)&&((a.2.1==0)&&((a.2.2==0)&&D))))) (.jT E)
def nr:=mkp1 func473 Kb
def Yd (a:Bk):T Bk:=.jT (a.1,a.2.1,a.2.2)
def Wv:=mkv1 func530 Yd (λ_=>.agg [.func 538 [] [X7 0],.func 540 [] []]) (λr=>[(0,.box [pz r.1,pz r.2.1,pz r.2.2])])
def y0 (b:Bk)(c:Bq):T B6:=let a:=qs.wrap;let d:=G qs (b.1 * c.1.Lo);let e:=G qs (b.1 * c.1.Hi);let f:=G qs (b.2.1 * c.2.1.Lo);let g:=G qs (b.2.1 * c.2.1.Hi);let h:=G qs (b.2.2 * c.2.2.Lo);let i:=G qs (b.2.2 * c.2.2.Hi);.unroll 4<|.jR<|.jG<|.jG<|.jG<|.name 6004 ((a (0+(min d e)))) λj=>.name 7004 ((a (0+(max d e)))) λk=>.lit 8000 1<|.jR<|.jH<|.jH<|.jH<|.name 6004 ((a (j+(min f g)))) λl=>.name 7004 ((a (k+(max f g)))) λm=>.lit 8000 2<|.jR<|.jI<|.jI<|.jI<|.name 6004 ((a (l+(min h i)))) λo=>.name 7004 ((a (m+(max h i)))) λp=>.lit 8000 3<|.jS<|.jT (o,p)
def yZ:=mkq2 func539 y0 (λr=>.tup [pz r.1,pz r.2])
def HR (a:Bq)(b c d:Int):T C2:=.cc (yZ (b,c,d) ((⟨a.1.Lo,a.1.Hi⟩:af),(⟨a.2.1.Lo,a.2.1.Hi⟩:af),(⟨a.2.2.Lo,a.2.2.Hi⟩:af))) λe=>.jT (e.1,b,c,d)
def V8 a b c d:=mkD func538 (HR a b c d) 1 [q a,X7 0] [(0,.box [pz b,pz c,pz d])] (λr=>pz r.1) (λr=>[(0,.box [pz r.2.1,pz r.2.2.1,pz r.2.2.2])])
def WQ (a b:Int):T Bool:=.jT (qu (a<b))
def V9:=mkp2 func540 WQ
def Jw (g h i:Int)(e:Br):T C5:=.vn (λ(a:C7)=>([(6,pz a.2.2.2.1),(7,pz a.2.2.2.2.1),(13,pz a.2.2.2.2.2)],[(0,.box [pz a.1,pz a.2.1,pz a.2.2.1])])) [2,11,12] [1] 0 (λ(a:C5)=>([(6,pz a.2.2.2.1),(7,pz a.2.2.2.2)],[(0,.box [pz a.1,pz a.2.1,pz a.2.2.1])])) [] [] (λa=>let c:=a.2.2.2;let d:=c.2.2;.kh (d<(C e:Int)) (.cut 0 (λs (b:C5)=>pk s [2,11,12,13] [1] [(6,pz b.2.2.2.1),(7,pz b.2.2.2.2)] [(0,.box [pz b.1,pz b.2.1,pz b.2.2.1])]) (.vd d e<|.call (V8 (F e (X3 d) qt) a.1 a.2.1 a.2.2.1) [(0,0)] λb=>.cub 0 30 [2,6,7,8,10,11,12,13] [0,1] (.ki (d==0) (.cc (V9 b.1 c.1) λf=>.oo f)) λf=>.br f (.oo (b.2.1,b.2.2.1,b.2.2.2,b.1,d)) (.oo (b.2.1,b.2.2.1,b.2.2.2,c.1,c.2.1))) λb=>.nn (b.1,b.2.1,b.2.2.1,b.2.2.2.1,b.2.2.2.2,(G qs (d+1)))) (.oo (a.1,a.2.1,a.2.2.1,c.1,c.2.1))) (g,h,i,0,0,0) λa=>.jT (a.2.2.2.1,a.2.2.2.2,a.1,a.2.1,a.2.2.1)
def MV a b c d:=mkD func531 (Jw a b c d) 1 [.agg [.func 538 [] [X7 0],.func 540 [] []],q d] [(0,.box [pz a,pz b,pz c])] (λr=>.tup [pz r.1,pz r.2.1]) (λr=>[(0,.box [pz r.2.2.1,pz r.2.2.2.1,pz r.2.2.2.2])])
def Lb (b:Bk)(d:Br):T Bv:=.cub 2 16 [1,2] [0] (.cc (nr b) λc=>.ki (!c) (.cc (gT d) λa=>.oo (!a))) λc=>.br c (.jT (0,0,E)) (.cc (Wv (b.1,b.2.1,b.2.2)) λa=>.call (MV a.1 a.2.1 a.2.2 d) [(0,384)] λe=>.jT (e.1,e.2.1,D))
def NS:=mkq2 func522 Lb (λr=>.tup [pz r.1,pz r.2.1,q r.2.2])
def YT (a:Bk):T Bk:=.jT (a.1,a.2.1,a.2.2)
def Nk:=mkv1 func532 YT (λ_=>.agg [.func 541 [] [X7 0],.func 542 [] []]) (λr=>[(0,.box [pz r.1,pz r.2.1,pz r.2.2])])
def IG (d:Bq)(a b c:Int):T C2:=.cc (yZ (a,b,c) d) λe=>.jT (e.2,a,b,c)
def Ww a b c d:=mkD func541 (IG a b c d) 1 [q a,X7 0] [(0,.box [pz b,pz c,pz d])] (λr=>pz r.1) (λr=>[(0,.box [pz r.2.1,pz r.2.2.1,pz r.2.2.2])])
def Ye (a b:Int):T Bool:=.jT (qu (a>b))
def Wx:=mkp2 func542 Ye
def H5 (g h i:Int)(e:Br):T C5:=.vn (λ(a:C7)=>([(6,pz a.2.2.2.1),(7,pz a.2.2.2.2.1),(13,pz a.2.2.2.2.2)],[(0,.box [pz a.1,pz a.2.1,pz a.2.2.1])])) [2,11,12] [1] 0 (λ(a:C5)=>([(6,pz a.2.2.2.1),(7,pz a.2.2.2.2)],[(0,.box [pz a.1,pz a.2.1,pz a.2.2.1])])) [] [] (λa=>let c:=a.2.2.2;let d:=c.2.2;.kh (d<(C e:Int)) (.cut 0 (λs (b:C5)=>pk s [2,11,12,13] [1] [(6,pz b.2.2.2.1),(7,pz b.2.2.2.2)] [(0,.box [pz b.1,pz b.2.1,pz b.2.2.1])]) (.vd d e<|.call (Ww (F e (X3 d) qt) a.1 a.2.1 a.2.2.1) [(0,0)] λb=>.cub 0 30 [2,6,7,8,10,11,12,13] [0,1] (.ki (d==0) (.cc (Wx b.1 c.1) λf=>.oo f)) λf=>.br f (.oo (b.2.1,b.2.2.1,b.2.2.2,b.1,d)) (.oo (b.2.1,b.2.2.1,b.2.2.2,c.1,c.2.1))) λb=>.nn (b.1,b.2.1,b.2.2.1,b.2.2.2.1,b.2.2.2.2,(G qs (d+1)))) (.oo (a.1,a.2.1,a.2.2.1,c.1,c.2.1))) (g,h,i,0,0,0) λa=>.jT (a.2.2.2.1,a.2.2.2.2,a.1,a.2.1,a.2.2.1)
def Wc a b c d:=mkD func531 (H5 a b c d) 1 [.agg [.func 541 [] [X7 0],.func 542 [] []],q d] [(0,.box [pz a,pz b,pz c])] (λr=>.tup [pz r.1,pz r.2.1]) (λr=>[(0,.box [pz r.2.2.1,pz r.2.2.2.1,pz r.2.2.2.2])])
def IF (b:Bk)(d:Br):T Bv:=.cub 2 16 [1,2] [0] (.cc (nr b) λc=>.ki (!c) (.cc (gT d) λa=>.oo (!a))) λc=>.br c (.jT (0,0,E)) (.cc (Nk (b.1,b.2.1,b.2.2)) λa=>.call (Wc a.1 a.2.1 a.2.2 d) [(0,384)] λe=>.jT (e.1,e.2.1,D))
def Wu:=mkq2 func523 IF (λr=>.tup [pz r.1,pz r.2.1,q r.2.2])
def pr (d:Int):T Int:=.cut 1 (λs (a:B6)=>pk s [] [] [(0,.pure (.int .u64 a.1)),(2,pz a.2)] []) (.kh (d>=4294967296) (.ok (0<=(32:Int)) jU<|.oo ((d.fdiv (2 ^ (min (32:Int).toNat 64))),32)) (.oo (d,0))) λa=>.cut 0 (λs (b:B6)=>pk s [] [] [(0,.pure (.int .u64 b.1)),(2,pz b.2)] []) (.kh (a.1>=65536) (.ok (0<=(16:Int)) jU<|.oo ((a.1.fdiv (2 ^ (min (16:Int).toNat 64))),(G qs (a.2+16)))) (.oo (a.1,a.2))) λb=>.cut 0 (λs (c:B6)=>pk s [] [] [(0,.pure (.int .u64 c.1)),(2,pz c.2)] []) (.kh (b.1>=256) (.ok (0<=(8:Int)) jU<|.oo ((b.1.fdiv (2 ^ (min (8:Int).toNat 64))),(G qs (b.2+8)))) (.oo (b.1,b.2))) λc=>let e:=IntKind.u8.wrap c.1;
 .gh e ((⟨vm⟩:ByteArray).size)<|.name 10003 ((((⟨vm⟩:ByteArray).data.getD e.toNat 0).toNat:Int)) λf=>.jT (G qs (c.2+(G qs f)))
def gQ a:=mkD func350 (pr a) 0 [.pure (.int .u64 a)] [] pz X6
def AR (e:Int):T Int:=let f:=IntKind.u64.wrap e;.kh (e<=0) (.jT 0) (.cc (gQ f) λg=>let c:=G qs ((G qs (g+1)).tdiv 2);
 .ok ((2:Int)≠0) jU<|.grd (0<=c)<|.vn (λ(a:Bk)=>([(4,.pure (.int .u64 a.1)),(5,.pure (.int .u64 a.2.1)),(17,pz a.2.2)],[])) [0,16] [] 0 (λ(a:Int)=>([(4,.pure (.int .u64 a))],[])) [] [] (λa=>.kh (a.2.2<c) (.cut 0 (λs (b:B6)=>pk s [0,16,17] [] [(4,.pure (.int .u64 b.1)),(5,.pure (.int .u64 b.2))] []) (.ok ((2:Int)≠0) jU<|.name 7001 ((IntKind.u64.wrap (a.2.1.tdiv 2))) λb=>let d:=IntKind.u64.wrap (a.1+b);
 .kh ((IntKind.u64.wrap (d * d))<=f) (.oo (d,b)) (.oo (a.1,b))) λb=>.nn (b.1,b.2,(G qs (a.2.2+1)))) (.oo a.1)) (0,(IntKind.u64.wrap (1 * 2 ^ (min c.toNat 64))),0) λa=>.jT (G qs a))
def AQ:=mkp1 func524 AR
def Lx (c:Int):T Int:=.cc (AQ c) λa=>.cut 0 (λs (b:Int)=>pk s [] [] [(3,pz b)] []) (.kh ((G qs (a * a))<c) (.oo (G qs (a+1))) (.oo a)) λb=>.jT b
def NZ:=mkp1 func514 Lx
def Mp (a:Bk):T Int:=
 let b:=qs.wrap;.cc (nr (a.1,a.2.1,a.2.2)) λc=>.br (!c) (.jT 0) (.jG<|.jG<|.jH<|.jH<|.jI<|.jI<|.name 3016 ((b ((b ((b (a.1 * a.1))+(b (a.2.1 * a.2.1))))+(b (a.2.2 * a.2.2))))) λd=>.cc (NZ d) λe=>.jT e)
def Mo:=mkp1 func484 Mp
def Mn (d:iu)(c:Bk):T Bf:=
 let e:=qs.wrap;.cub 2 20 [2,3] [0,64] (.cc (BY d.a) λg=>.ki (!g) (.cc (BY d.b) λf=>.oo (!f))) λg=>.br g (.jT (0,E)) (.cc (NS (c.1,c.2.1,c.2.2) d.a.points) λf=>.br (!f.2.2) (.jT (0,E)) (.cc (Wu (c.1,c.2.1,c.2.2) d.b.points) λh=>.br (!h.2.2) (.jT (0,E)) (.cc (Mo (c.1,c.2.1,c.2.2)) λi=>.name 9013 ((e ((e (f.1-h.1))- (e (i * (e (d.a.radius+d.b.radius))))))) λj=>.jT (j,D))))
def Oz:=mkq2 func512 Mn (λr=>.tup [pz r.1,q r.2])
def Jj (d:iu)(c:Bk):T Bool:=.cc (Oz (⟨d.a,d.b⟩:iu) (c.1,c.2.1,c.2.2)) λe=>.br e.2 (.jT (qu (e.1>0))) (.jT E)
def MN:=mkp2 func476 Jj
def I0 (c:Bk)(e:Br)(f:Int)(g:Br)(h:Int):T Bool:=.cc (Pz e f g h) λd=>.cc (MN (⟨d.a,d.b⟩:iu) (c.1,c.2.1,c.2.2)) λi=>.jT i
def IZ:=mkp5 func417 I0
def Ik (a:Int):T Bool:=.kh (a>=0) (.jT (qu (a<=1048576))) (.jT E)
def Ij:=mkp1 func472 Ik
def LF (a:af):T Int:=.cc (eT a) λb=>.br (!b) (.jT 0) (.cc (dZ (G qs (a.Lo+a.Hi)) 1) λc=>.jT c)
def pO:=mkp1 func422 LF
def pH (c:Br):T Bl:=let j:=(C c:Int);.cc (gT c) λp=>.br (!p) (.jT nl) (.vg 3002 3 cl 70 j (0,0,0) 24<|.vn (λ(a:Bm)=>([(16,pz a.2)],[(384,vO a.1 70)])) [3,14,15] [] 0 (λ(a:Bl)=>([],[(384,vO a 70)])) [3] [] (λa=>let d:=a.2;let b:=d.toNat;let k:=F c b qt;let e:=F a.1 b qt;.kh (a.2<j) (.vd a.2 c<|.unroll 4<|.jR<|.jG<|.cc (pO (k.1)) λl=>let f:=a.1.set b (l,e.2.1,e.2.2);let g:=F f b qt;
 .vd a.2 a.1<|.jG<|.vl 10007 a.1 70 d (l,e.2.1,e.2.2)<|.lit 11000 1<|.jR<|.jH<|.cc (pO (k.2.1)) λm=>let h:=f.set b (g.1,m,g.2.2);let i:=F h b qt;
 .vd a.2 f<|.jH<|.vl 10007 f 70 d (g.1,m,g.2.2)<|.lit 11000 2<|.jR<|.jI<|.cc (pO (k.2.2)) λo=>.vd a.2 h<|.jI<|.vl 10007 h 70 d (i.1,i.2.1,o)<|.lit 11000 3<|.jS<|.nn ((h.set b (i.1,i.2.1,o)),(G qs (a.2+1)))) (.oo a.1)) ((qr j.toNat ((0,0,0):Bk)),0) λa=>.jT a)
def gS:=mkp1 func362 pH
def ye (d:Bl):T Bk:=
 let c:=qs.wrap;.vn (λ(a:C2)=>([(9,pz a.2.2.2)],[(64,.box [pz a.1,pz a.2.1,pz a.2.2.1])])) [2,3,7,8] [0] 0 (λ(a:Bk)=>([],[(64,.box [pz a.1,pz a.2.1,pz a.2.2])])) [2,3] [0] (λa=>let b:=a.2.2;let e:=F d (X3 b.2) qt;.kh (b.2<(C d:Int)) (.vd b.2 d<|.unroll 4<|.jR<|.jG<|.jG<|.jG<|.lit 9000 1<|.jR<|.jH<|.jH<|.jH<|.lit 9000 2<|.jR<|.jI<|.jI<|.jI<|.lit 9000 3<|.jS<|.nn ((c (a.1+(e.1))),(c (a.2.1+(e.2.1))),(c (b.1+(e.2.2))),(c (b.2+1)))) (.oo (a.1,a.2.1,b.1))) (0,0,0,0) λa=>.jT (a.1,a.2.1,a.2.2)
def yd:=mkp1 func511 ye
def Ka (b:Bk):T Bp:=.vn (λ(a:Bk)=>([],[(0,.box [pz a.1,pz a.2.1,pz a.2.2])])) [1,2] [64] 0 (λ(a:Bk)=>([],[(0,.box [pz a.1,pz a.2.1,pz a.2.2])])) [1,2] [64] (λa=>.cc (Jk (a.1,a.2.1,a.2.2)) λc=>.br (!c) (.unroll 4<|.jR<|.jG<|.ok ((2:Int)≠0) jU<|.jG<|.lit 6000 1<|.jR<|.jH<|.ok ((2:Int)≠0) jU<|.jH<|.lit 6000 2<|.jR<|.jI<|.ok ((2:Int)≠0) jU<|.jI<|.lit 6000 3<|.jS<|.nn ((G qs (a.1.tdiv 2)),(G qs (a.2.1.tdiv 2)),(G qs (a.2.2.tdiv 2)))) (.oo (a.1,a.2.1,a.2.2))) (b.1,b.2.1,b.2.2) λa=>.jT ((a.1,a.2.1,a.2.2),(!((a.1==0)&&((a.2.1==0)&&((a.2.2==0)&&D)))))
def J9:=mkq1 func481 Ka (λr=>.tup [q r.1,q r.2])
def LO (b c:Br):T Bp:=let a:=qs.wrap;let d:=(C c:Int);let e:=(C b:Int);.cub 3 18 [0,1,4,5] [0,64] (.cc (gT b) λf=>.ki (!f) (.cc (gT c) λg=>.oo (!g))) λf=>.br f (.jT ((0,0,0),E)) (.cc (gS b) λg=>.cc (yd g) λh=>.cc (gS c) λk=>.cc (yd k) λi=>.unroll 4<|.jR<|.jG<|.jG<|.name 9013 ((a ((a (h.1 * d))- (a (i.1 * e))))) λl=>.jG<|.lit 10000 1<|.jR<|.jH<|.jH<|.name 9013 ((a ((a (h.2.1 * d))- (a (i.2.1 * e))))) λm=>.jH<|.lit 10000 2<|.jR<|.jI<|.jI<|.name 9013 ((a ((a (h.2.2 * d))- (a (i.2.2 * e))))) λo=>.jI<|.lit 10000 3<|.jS<|.cc (J9 (l,m,o)) λj=>.jT (j.1,j.2))
def uF a b:=mkC [⟨510,af3⟩] hd func474 jY (LO a b) 0 [q a,q b] [] (λr=>.tup [q r.1,q r.2]) X6 jY
def ZK:T Bl:=.conv 1006 (kL ([(1,0,0),((-1),0,0),(0,1,0),(0,(-1),0),(0,0,1),(0,0,(-1))]:Bl) 70)<|.jT ([(1,0,0),((-1),0,0),(0,1,0),(0,(-1),0),(0,0,1),(0,0,(-1))]:Bl)
def LM:aK Bl:=mkD func475 (ZK) 0 [] [] q X6
def JI (c:Bl):T Bool:=let d:=(C c:Int);.cub 2 14 [0] [] (.kl (d<1) (.oo (qu (d>8)))) λg=>.br g (.jT E) (.loop (ik 17 [15,16] []) (.exit 0) (jk [] []) (λa=>let e:=F c (a.toNat) qt;.kh (a<d) (.vd a c<|.loop (ik 22 [15,16,17,21] []) (.exit 2) (jk [15,16,17] []) (λb=>.kh (b<3) (.gh b 3<|.name 8000 ((F ([e.1,e.2.1,e.2.2]:A7) b.toNat 0)) λf=>.cub 0 30 [15,16,17,21,22] [] (.kl (f<(-268435456)) (.oo (qu (f>268435456)))) λh=>.br h (.ff (.fin E)) (.nn (G qs (b+1)))) (.oo .u))
 0 [] λ_=>.nn (G qs (a+1))) (.oo .u))
 0 [] λ_=>.jT D)
def JH:=mkp1 func418 JI
def IY (b:Bl):T (Bl×A7):=let c:=(C b:Int);let a:=qr c.toNat (0:Int);.vg 1002 1 bI 2 c 0 8<|.vd (0:Int) a<|.vl 2002 a 2 (0:Int) 65536<|.jT (b,(a.set (X3 (0:Int)) 65536))
def IX:=mkv1 func419 IY (λr=>.agg [q r.1,.vec 0]) (λr=>[(0,vO r.2 2)])
def Dj (e:Bl)(d:A7):T Bk:=
 let c:=qs.wrap;.vn (λ(a:C2)=>([(11,pz a.2.2.2)],[(129,.box [pz a.1,pz a.2.1,pz a.2.2.1])])) [1,2,3,9,10] [0,1,65] 0 (λ(a:Bk)=>([],[(129,.box [pz a.1,pz a.2.1,pz a.2.2])])) [2,3] [0,65] (λa=>let b:=a.2.2.2;let h:=(b).toNat;let f:=F e h qt;let g:=F d h qt;.kh (b<(C e:Int)) (.vd b e<|.unroll 4<|.jR<|.jG<|.name 7001 (f.1) λi=>.jG<|.vf b d<|.name 8010 ((c (a.1+(c (g * i))))) λj=>.jG<|.lit 9000 1<|.jR<|.jH<|.name 7001 (f.2.1) λk=>.jH<|.vf b d<|.name 8010 ((c (a.2.1+(c (g * k))))) λl=>.jH<|.lit 9000 2<|.jR<|.jI<|.name 7001 (f.2.2) λm=>.jI<|.vf b d<|.name 8010 ((c (a.2.2.1+(c (g * m))))) λo=>.jI<|.lit 9000 3<|.jS<|.nn (j,l,o,(c (b+1)))) (.oo (a.1,a.2.1,a.2.2.1))) (0,0,0,0) λa=>.jT (a.1,a.2.1,a.2.2)
def Di b a:=mkD func479 (Dj b a) 1 [.agg [q b,.vec 0]] [(0,vO a 2)] q (λ_=>[(0,vO a 2)])
def Zf (a b:Bk):T Bk:=.jG<|.jG<|.jH<|.jH<|.jI<|.jI<|.jT ((G qs (a.1-b.1)),(G qs (a.2.1-b.2.1)),(G qs (a.2.2-b.2.2)))
def uw:=mkp2 func478 Zf
def IW (c:Bk)(d:Int):T Bool:=
 let b:=qs.wrap;.loop (λs (a:B6)=>pk s [1,9] [] [(5,pz a.1),(10,pz a.2)] []) (.exit 0) (ik 5 [1] []) (λa=>let e:=F ([c.1,c.2.1,c.2.2]:A7) (a.2).toNat 0;.kh (a.2<3) (.gh a.2 3<|.name 5003 ((max e (b (0-e)))) λg=>.cc (d7 g 16) λf=>.nn ((b (a.1+(b (f * f)))),(b (a.2+1)))) (.oo a.1)) (0,0) [] λa=>.jT (qu (a<=(b (d * d))))
def Mz:=mkp2 func480 IW
def aad (b c:Bk):T Int:=
 let a:=qs.wrap;.jG<|.jG<|.jH<|.jH<|.jI<|.jI<|.name 1016 ((a ((a ((a (b.1 * c.1))+(a (b.2.1 * c.2.1))))+(a (b.2.2 * c.2.2))))) λd=>.jT d
def l5:=mkp2 func513 aad
def AY (d:Bl)(_:A7)(e:Bk):T B6:=.vd (0:Int) d<|.cc (l5 e (F d (X3 (0:Int)) qt)) λg=>.vn (λ(a:Bk)=>([(6,pz a.1),(7,pz a.2.1),(22,pz a.2.2)],[])) [3,20,21] [0,65] 0 (λ(a:B6)=>([(6,pz a.1),(7,pz a.2)],[])) [] [0] (λa=>let c:=a.2.2;.kh (c<(C d:Int)) (.cut 0 (λs (b:B6)=>pk s [3,20,21,22] [0,65] [(6,pz b.1),(7,pz b.2)] []) (.vd c d<|.cc (l5 e (F d (X3 c) qt)) λb=>.kh (b<a.1) (.oo (b,c)) (.oo (a.1,a.2.1))) λb=>.nn (b.1,b.2,(G qs (c+1)))) (.oo (a.1,a.2.1))) (g,0,0) λa=>.jT (a.1,a.2)
def Pq b a c:=mkD func482 (AY b a c) 1 [.agg [q b,.vec 0],q c] [(0,vO a 2)] (λr=>.tup [pz r.1,pz r.2]) (λ_=>[(0,vO a 2)])
def J0 (d:Bl)(_:A7)(e:Bk):T B6:=.vd (0:Int) d<|.cc (l5 e (F d (X3 (0:Int)) qt)) λg=>.vn (λ(a:Bk)=>([(6,pz a.1),(7,pz a.2.1),(22,pz a.2.2)],[])) [3,20,21] [0,65] 0 (λ(a:B6)=>([(6,pz a.1),(7,pz a.2)],[])) [] [0] (λa=>let c:=a.2.2;.kh (c<(C d:Int)) (.cut 0 (λs (b:B6)=>pk s [3,20,21,22] [0,65] [(6,pz b.1),(7,pz b.2)] []) (.vd c d<|.cc (l5 e (F d (X3 c) qt)) λb=>.kh (b>a.1) (.oo (b,c)) (.oo (a.1,a.2.1))) λb=>.nn (b.1,b.2,(G qs (c+1)))) (.oo (a.1,a.2.1))) (g,0,0) λa=>.jT (a.1,a.2)
def Nf b a c:=mkD func483 (J0 b a c) 1 [.agg [q b,.vec 0],q c] [(0,vO a 2)] (λr=>.tup [pz r.1,pz r.2]) (λ_=>[(0,vO a 2)])
def LL (b e:Bk):T Int:=.cc (uw b e) λa=>.cc (l5 b a) λc=>.cc (l5 a a) λf=>let d:=G qs (f.tdiv 256);
 .kh (c<=0) (.jT 0) (.ok ((256:Int)≠0) jU<|.grd ((max 1 d)≠0)<|.jT (min 256 (G qs (c.tdiv (max 1 d)))))
def Oa:=mkp2 func485 LL
def v6 (_:Bl)(f:A7)(e l:Int):T A7:=let d:=qs.wrap;let g:=e.toNat;.vn (λ(a:(A7×Int×Int))=>([(6,pz a.2.1),(13,pz a.2.2)],[(0,vO a.1 2)])) [1,2,3,11,12] [1] 0 (λ(a:Ak)=>([(6,pz a.2)],[(0,vO a.1 2)])) [1,3] [1] (λa=>let b:=a.2.2;let c:=(b).toNat;let h:=F a.1 c qt;let i:=G qs ((d (h * l)).tdiv 256);.kh (b<(C f:Int)) (.vf b a.1<|.ok ((256:Int)≠0) jU<|.vf b a.1<|.name 6006 ((d (h-i))) λj=>.vd b a.1<|.vl 6008 a.1 2 b j<|.name 7002 ((d (a.2.1+i))) λm=>.nn ((a.1.set c j),m,(d (b+1)))) (.oo (a.1,a.2.1))) (f,0,0) λa=>let c:=G qs ((F a.1 g qt)+a.2);
 .vf e a.1<|.vd e a.1<|.vl 9008 a.1 2 e c<|.jT (a.1.set g c)
def v5 a b c d:=mkD func486 (v6 a b c d) 1 [.agg [q a,.vec 0],pz c,pz d] [(0,vO b 2)] (λ_=>.tup []) (λr=>[(0,vO r 2)])
end Go.Abs
