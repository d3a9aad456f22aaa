import Derived.Test.YtagmfmidaochlaaGreatDoorZGM1
open Bool renaming true->D,false->E
open Go.IntKind renaming wrap->G
open List renaming length->C,getD->F
open Decidable renaming decide->qu
open Go.IntKind renaming i64->qs
open Inhabited renaming default->qt
open List renaming replicate->qr
open Int renaming toNat->X3
noncomputable section
namespace Go.Abs
abbrev vm:Array UInt8:=#[0,1,2,2,3,3,3,3,4,4,4,4,4,4,4,4,5,5,5,5,5,5,5,5,5,5,5,5,5,5,5,5,6,6,6,6,6,6,6,6,6,6,6,6,6,6,6,6,6,6,6,6,6,6,6,6,6,6,6,6,6,6,6,6,7,7,7,7,7,7,7,7,7,7,7,7,7,7,7,7,7,7,7,7,7,7,7,7,7,7,7,7,7,7,7,7,7,7,7,7,7,7,7,7,7,7,7,7,7,7,7,7,7,7,7,7,7,7,7,7,7,7,7,7,7,7,7,7,8,8,8,8,8,8,8,8,8,8,8,8,8,8,8,8,8,8,8,8,8,8,8,8,8,8,8,8,8,8,8,8,8,8,8,8,8,8,8,8,8,8,8,8,8,8,8,8,8,8,8,8,8,8,8,8,8,8,8,8,8,8,8,8,8,8,8,8,8,8,8,8,8,8,8,8,8,8,8,8,8,8,8,8,8,8,8,8,8,8,8,8,8,8,8,8,8,8,8,8,8,8,8,8,8,8,8,8,8,8,8,8,8,8,8,8,8,8,8,8,8,8,8,8,8,8,8,8]
open Go.Proofs.Tryz
set_option maxHeartbeats 8000000
set_option maxRecDepth 20000
open Go.Proofs
def sc (a:aN):T Cq:=.jT (a.R.1.1.Lo,a.R.1.1.Hi,a.R.1.2.1.Lo,a.R.1.2.1.Hi,a.R.1.2.2.Lo,a.R.1.2.2.Hi,a.R.2.1.1.Lo,a.R.2.1.1.Hi,a.R.2.1.2.1.Lo,a.R.2.1.2.1.Hi,a.R.2.1.2.2.Lo,a.R.2.1.2.2.Hi,a.R.2.2.1.Lo,a.R.2.2.1.Hi,a.R.2.2.2.1.Lo,a.R.2.2.2.1.Hi,a.R.2.2.2.2.Lo,a.R.2.2.2.2.Hi,a.T.1.Lo,a.T.1.Hi,a.T.2.1.Lo,a.T.2.1.Hi,a.T.2.2.Lo,a.T.2.2.Hi)
def yj:=mkv1 func195 sc (λ_=>.func 275 [] [X7 0]) (λr=>let a:=r.2.2.2.2.2;let b:=a.2.2.2;let c:=b.2.2.2;let d:=c.2.2.2;let e:=d.2.2.2;let f:=e.2.2.2;[(0,.box [pz r.1,pz r.2.1,pz r.2.2.1,pz r.2.2.2.1,pz r.2.2.2.2.1,pz a.1,pz a.2.1,pz a.2.2.1,pz b.1,pz b.2.1,pz b.2.2.1,pz c.1,pz c.2.1,pz c.2.2.1,pz d.1,pz d.2.1,pz d.2.2.1,pz e.1,pz e.2.1,pz e.2.2.1,pz f.1,pz f.2.1,pz f.2.2.1,pz f.2.2.2])])
def K4 (a b:af):T Bool:=.cc (eU a) λc=>.br c (.cc (eU b) λd=>.jT d) (.jT E)
def uR:=mkp2 func409 K4
def Kp (b a:Int):T Int:=.kh (a<0) (.jT b) (.grd (0<=a)<|.jT (b.fdiv (2 ^ (min a.toNat 64))))
def dY:=mkp2 func466 Kp
def LY (b a:Int):T Int:=let e:=min a.toNat 64;let c:=b.fdiv (2 ^ e);.kh (a<0) (.jT b) (.grd (0<=a)<|.cut 0 (λs (d:Int)=>pk s [] [] [(5,pz d)] []) (.grd (0<=a)<|.br ((G qs (c * 2 ^ e)) !=b) (.oo (G qs (c+1))) (.oo c)) λd=>.jT d)
def dS:=mkp2 func467 LY
def Kq (a b:Int):T af:=.cc (dY a 16) λc=>.cc (dS b 16) λd=>.cc (uH c d) λe=>.jT e
def M5:=mkp2 func410 Kq
def yu (b c:af):T af:=let d:=qs.wrap;let f:=G qs (b.Lo * c.Lo);.cc (uR (⟨b.Lo,b.Hi⟩:af) (⟨c.Lo,c.Hi⟩:af)) λg=>.br (!g) (.jT (⟨0,0⟩:af)) (.ix 0 4 rfl<|.ix 0 4 rfl<|.vn (λ(a:Bq)=>([(6,pz a.1),(7,pz a.2.1),(41,pz a.2.2)],[])) [4,40] [128] 0 (λ(a:B9)=>([(6,pz a.1),(7,pz a.2)],[])) [4] [128] (λa=>.kh (a.2.2<4) (.gh a.2.2 4<|.name 7000 ((F ([f,(d (b.Lo * c.Hi)),(d (b.Hi * c.Lo)),(d (b.Hi * c.Hi))]:A7) (a.2.2).toNat 0)) λe=>.nn ((min a.1 e),(max a.2.1 e),(d (a.2.2+1)))) (.oo (a.1,a.2.1))) (f,f,0) λa=>.cc (M5 a.1 a.2) λe=>.jT e)
def b8:=mkp2 func348 yu
def MV (a b:af):T af:=.cc (uR a b) λc=>.br (!c) (.jT (⟨0,0⟩:af)) (.cc (uH (G qs (a.Lo+b.Lo)) (G qs (a.Hi+b.Hi))) λd=>.jT d)
def bU:=mkp2 func347 MV
def K7 (a:Int):T Int:=.jT (min (max a (-65536)) 65536)
def dK:=mkp1 func408 K7
def K6 (a b:C0):T C0:=.unroll 4<|.jR<|.unroll 4<|.jR<|.unroll 4<|.jR<|.jG<|.jG<|.jG<|.jG<|.cc (b8 a.1.1 b.1.1) λy=>.cc (bU (⟨0,0⟩:af) y) λz=>.lit 13000 1<|.jR<|.jG<|.jH<|.jH<|.jG<|.cc (b8 a.1.2.1 b.2.1.1) λA=>.cc (bU z A) λB=>.lit 13000 2<|.jR<|.jG<|.jI<|.jI<|.jG<|.cc (b8 a.1.2.2 b.2.2.1) λH=>.cc (bU B H) λd=>.lit 13000 3<|.jS<|.cc (dK d.Lo) λI=>.cc (dK d.Hi) λJ=>.jG<|.jG<|.lit 15000 1<|.jR<|.unroll 4<|.jR<|.jG<|.jG<|.jG<|.jH<|.cc (b8 a.1.1 b.1.2.1) λK=>.cc (bU (⟨0,0⟩:af) K) λL=>.lit 13000 1<|.jR<|.jG<|.jH<|.jH<|.jH<|.cc (b8 a.1.2.1 b.2.1.2.1) λM=>.cc (bU L M) λN=>.lit 13000 2<|.jR<|.jG<|.jI<|.jI<|.jH<|.cc (b8 a.1.2.2 b.2.2.2.1) λO=>.cc (bU N O) λe=>.lit 13000 3<|.jS<|.cc (dK e.Lo) λP=>.cc (dK e.Hi) λar=>.jG<|.jH<|.lit 15000 2<|.jR<|.unroll 4<|.jR<|.jG<|.jG<|.jG<|.jI<|.cc (b8 a.1.1 b.1.2.2) λQ=>.cc (bU (⟨0,0⟩:af) Q) λR=>.lit 13000 1<|.jR<|.jG<|.jH<|.jH<|.jI<|.cc (b8 a.1.2.1 b.2.1.2.2) λS=>.cc (bU R S) λU=>.lit 13000 2<|.jR<|.jG<|.jI<|.jI<|.jI<|.cc (b8 a.1.2.2 b.2.2.2.2) λV=>.cc (bU U V) λf=>.lit 13000 3<|.jS<|.cc (dK f.Lo) λl=>.cc (dK f.Hi) λm=>.jG<|.jI<|.lit 15000 3<|.jS<|.lit 16000 1<|.jR<|.unroll 4<|.jR<|.unroll 4<|.jR<|.jH<|.jG<|.jG<|.jG<|.cc (b8 a.2.1.1 b.1.1) λo=>.cc (bU (⟨0,0⟩:af) o) λp=>.lit 13000 1<|.jR<|.jH<|.jH<|.jH<|.jG<|.cc (b8 a.2.1.2.1 b.2.1.1) λr=>.cc (bU p r) λs=>.lit 13000 2<|.jR<|.jH<|.jI<|.jI<|.jG<|.cc (b8 a.2.1.2.2 b.2.2.1) λt=>.cc (bU s t) λc=>.lit 13000 3<|.jS<|.cc (dK c.Lo) λw=>.cc (dK c.Hi) λx=>.jH<|.jG<|.lit 15000 1<|.jR<|.unroll 4<|.jR<|.jH<|.jG<|.jG<|.jH<|.cc (b8 a.2.1.1 b.1.2.1) λba=>.cc (bU (⟨0,0⟩:af) ba) λbb=>.lit 13000 1<|.jR<|.jH<|.jH<|.jH<|.jH<|.cc (b8 a.2.1.2.1 b.2.1.2.1) λbc=>.cc (bU bb bc) λbd=>.lit 13000 2<|.jR<|.jH<|.jI<|.jI<|.jH<|.cc (b8 a.2.1.2.2 b.2.2.2.1) λbe=>.cc (bU bd be) λg=>.lit 13000 3<|.jS<|.cc (dK g.Lo) λbg=>.cc (dK g.Hi) λbh=>.jH<|.jH<|.lit 15000 2<|.jR<|.unroll 4<|.jR<|.jH<|.jG<|.jG<|.jI<|.cc (b8 a.2.1.1 b.1.2.2) λbi=>.cc (bU (⟨0,0⟩:af) bi) λbj=>.lit 13000 1<|.jR<|.jH<|.jH<|.jH<|.jI<|.cc (b8 a.2.1.2.1 b.2.1.2.2) λbk=>.cc (bU bj bk) λbl=>.lit 13000 2<|.jR<|.jH<|.jI<|.jI<|.jI<|.cc (b8 a.2.1.2.2 b.2.2.2.2) λbm=>.cc (bU bl bm) λh=>.lit 13000 3<|.jS<|.cc (dK h.Lo) λbp=>.cc (dK h.Hi) λbq=>.jH<|.jI<|.lit 15000 3<|.jS<|.lit 16000 2<|.jR<|.unroll 4<|.jR<|.unroll 4<|.jR<|.jI<|.jG<|.jG<|.jG<|.cc (b8 a.2.2.1 b.1.1) λbs=>.cc (bU (⟨0,0⟩:af) bs) λbt=>.lit 13000 1<|.jR<|.jI<|.jH<|.jH<|.jG<|.cc (b8 a.2.2.2.1 b.2.1.1) λbu=>.cc (bU bt bu) λbv=>.lit 13000 2<|.jR<|.jI<|.jI<|.jI<|.jG<|.cc (b8 a.2.2.2.2 b.2.2.1) λbw=>.cc (bU bv bw) λi=>.lit 13000 3<|.jS<|.cc (dK i.Lo) λbz=>.cc (dK i.Hi) λX=>.jI<|.jG<|.lit 15000 1<|.jR<|.unroll 4<|.jR<|.jI<|.jG<|.jG<|.jH<|.cc (b8 a.2.2.1 b.1.2.1) λY=>.cc (bU (⟨0,0⟩:af) Y) λZ=>.lit 13000 1<|.jR<|.jI<|.jH<|.jH<|.jH<|.cc (b8 a.2.2.2.1 b.2.1.2.1) λca=>.cc (bU Z ca) λcb=>.lit 13000 2<|.jR<|.jI<|.jI<|.jI<|.jH<|.cc (b8 a.2.2.2.2 b.2.2.2.1) λcc=>.cc (bU cb cc) λj=>.lit 13000 3<|.jS<|.cc (dK j.Lo) λce=>.cc (dK j.Hi) λcf=>.jI<|.jH<|.lit 15000 2<|.jR<|.unroll 4<|.jR<|.jI<|.jG<|.jG<|.jI<|.cc (b8 a.2.2.1 b.1.2.2) λcg=>.cc (bU (⟨0,0⟩:af) cg) λch=>.lit 13000 1<|.jR<|.jI<|.jH<|.jH<|.jI<|.cc (b8 a.2.2.2.1 b.2.1.2.2) λci=>.cc (bU ch ci) λcj=>.lit 13000 2<|.jR<|.jI<|.jI<|.jI<|.jI<|.cc (b8 a.2.2.2.2 b.2.2.2.2) λck=>.cc (bU cj ck) λk=>.lit 13000 3<|.jS<|.cc (dK k.Lo) λcm=>.cc (dK k.Hi) λcn=>.jI<|.jI<|.lit 15000 3<|.jS<|.lit 16000 3<|.jS<|.jT (((⟨I,J⟩:af),(⟨P,ar⟩:af),(⟨l,m⟩:af)),((⟨w,x⟩:af),(⟨bg,bh⟩:af),(⟨bp,bq⟩:af)),((⟨bz,X⟩:af),(⟨ce,cf⟩:af),(⟨cm,cn⟩:af)))
def Nx:=mkp2 func344 K6
def yz (a:C0)(b:Bx):T Bx:=.unroll 4<|.jR<|.unroll 4<|.jR<|.jG<|.jG<|.jG<|.jG<|.cc (b8 a.1.1 b.1) λc=>.cc (bU (⟨0,0⟩:af) c) λd=>.jG<|.lit 9000 1<|.jR<|.jG<|.jG<|.jH<|.jH<|.cc (b8 a.1.2.1 b.2.1) λe=>.cc (bU d e) λf=>.jG<|.lit 9000 2<|.jR<|.jG<|.jG<|.jI<|.jI<|.cc (b8 a.1.2.2 b.2.2) λg=>.cc (bU f g) λh=>.jG<|.lit 9000 3<|.jS<|.lit 10000 1<|.jR<|.unroll 4<|.jR<|.jH<|.jH<|.jG<|.jG<|.cc (b8 a.2.1.1 b.1) λi=>.cc (bU (⟨0,0⟩:af) i) λj=>.jH<|.lit 9000 1<|.jR<|.jH<|.jH<|.jH<|.jH<|.cc (b8 a.2.1.2.1 b.2.1) λk=>.cc (bU j k) λl=>.jH<|.lit 9000 2<|.jR<|.jH<|.jH<|.jI<|.jI<|.cc (b8 a.2.1.2.2 b.2.2) λm=>.cc (bU l m) λo=>.jH<|.lit 9000 3<|.jS<|.lit 10000 2<|.jR<|.unroll 4<|.jR<|.jI<|.jI<|.jG<|.jG<|.cc (b8 a.2.2.1 b.1) λp=>.cc (bU (⟨0,0⟩:af) p) λr=>.jI<|.lit 9000 1<|.jR<|.jI<|.jI<|.jH<|.jH<|.cc (b8 a.2.2.2.1 b.2.1) λs=>.cc (bU r s) λar=>.jI<|.lit 9000 2<|.jR<|.jI<|.jI<|.jI<|.jI<|.cc (b8 a.2.2.2.2 b.2.2) λt=>.cc (bU ar t) λw=>.jI<|.lit 9000 3<|.jS<|.lit 10000 3<|.jS<|.jT (h,o,w)
def OF:=mkp2 func277 yz
def Dy (a b:Bx):T Bx:=.unroll 4<|.jR<|.jG<|.jG<|.cc (bU a.1 b.1) λc=>.jG<|.lit 6000 1<|.jR<|.jH<|.jH<|.cc (bU a.2.1 b.2.1) λd=>.jH<|.lit 6000 2<|.jR<|.jI<|.jI<|.cc (bU a.2.2 b.2.2) λe=>.jI<|.lit 6000 3<|.jS<|.jT (c,d,e)
def P0:=mkp2 func276 Dy
def rj (a:Bx)(c d e f g h i j k l m o p r s t ar w x y z A B b:Int):T (Bx×Int×Int×Int×Int×Int×Int×Int×Int×Int×Int×Int×Int×Int×Int×Int×Int×Int×Int×Int×Int×Int×Int×Int×Int):=.cc (OF (((⟨c,d⟩:af),(⟨e,f⟩:af),(⟨g,h⟩:af)),((⟨i,j⟩:af),(⟨k,l⟩:af),(⟨m,o⟩:af)),((⟨p,r⟩:af),(⟨s,t⟩:af),(⟨ar,w⟩:af))) ((⟨a.1.Lo,a.1.Hi⟩:af),(⟨a.2.1.Lo,a.2.1.Hi⟩:af),(⟨a.2.2.Lo,a.2.2.Hi⟩:af))) λH=>.cc (P0 ((⟨x,y⟩:af),(⟨z,A⟩:af),(⟨B,b⟩:af)) H) λI=>.jT (I,c,d,e,f,g,h,i,j,k,l,m,o,p,r,s,t,ar,w,x,y,z,A,B,b)
def vG i j k l m o p s t w x y z A B H I ar J K L M N O h:=mkD func275 (rj i j k l m o p s t w x y z A B H I ar J K L M N O h) 1 [q i,X7 0] [(0,.box [pz j,pz k,pz l,pz m,pz o,pz p,pz s,pz t,pz w,pz x,pz y,pz z,pz A,pz B,pz H,pz I,pz ar,pz J,pz K,pz L,pz M,pz N,pz O,pz h])] (λr=>q r.1) (λr=>let a:=r.2.2.2;let b:=a.2.2.2;let c:=b.2.2.2;let d:=c.2.2.2;let e:=d.2.2.2;let f:=e.2.2.2;let g:=f.2.2.2;[(0,.box [pz r.2.1,pz r.2.2.1,pz a.1,pz a.2.1,pz a.2.2.1,pz b.1,pz b.2.1,pz b.2.2.1,pz c.1,pz c.2.1,pz c.2.2.1,pz d.1,pz d.2.1,pz d.2.2.1,pz e.1,pz e.2.1,pz e.2.2.1,pz f.1,pz f.2.1,pz f.2.2.1,pz g.1,pz g.2.1,pz g.2.2.1,pz g.2.2.2])])
def yH (i j:aN):T aN:=.cc (yj i) λa=>let b:=a.2.2.2.2.2;let c:=b.2.2.2;let d:=c.2.2.2;let e:=d.2.2.2;let f:=e.2.2.2;let g:=f.2.2.2;.cc (Nx i.R j.R) λh=>.call (vG j.T a.1 a.2.1 a.2.2.1 a.2.2.2.1 a.2.2.2.2.1 b.1 b.2.1 b.2.2.1 c.1 c.2.1 c.2.2.1 d.1 d.2.1 d.2.2.1 e.1 e.2.1 e.2.2.1 f.1 f.2.1 f.2.2.1 g.1 g.2.1 g.2.2.1 g.2.2.2) [(0,256)] λk=>.jT (⟨(h.1,h.2.1,h.2.2),k.1⟩:aN)
def ri:=mkp2 func271 yH
def Dc (c:Int)(b:af):T aN:=.cut 2 (λs (a:Ce)=>pk s [4,5] [64] [] [(128,.box [pz a.1,pz a.2.1,pz a.2.2.1,pz a.2.2.2.1,pz a.2.2.2.2.1,pz a.2.2.2.2.2])]) (.cas 2000 c 0 (.jG<|.oo (b.Lo,b.Hi,0,0,0,0)) (.cas 2000 c 1 (.jH<|.oo (0,0,b.Lo,b.Hi,0,0)) (.cas 2000 c 2 (.jI<|.oo (0,0,0,0,b.Lo,b.Hi)) (.stop)))) λa=>.cc (yi ((⟨a.1,a.2.1⟩:af),(⟨a.2.2.1,a.2.2.2.1⟩:af),(⟨a.2.2.2.2.1,a.2.2.2.2.2⟩:af))) λd=>.jT d
def PU:=mkp2 func406 Dc
def K3 (a:af):T Int:=.cc (eU a) λb=>.br (!b) (.jT 0) (.jT (G qs (a.Hi-a.Lo)))
def K2:=mkp1 func533 K3
def LM (a:Int):T Int:=.jT (G qs (((BitVec.ofInt 64 a&&&BitVec.ofInt 64 65535).toNat:Int)))
def uY:=mkp1 func536 LM
def KU (d:Int):T (Co×Co):=
 let a:=qs.wrap;.ix 0 11 rfl<|.ix 0 11 rfl<|.cc (dY (a (d * 6746518852)) 16) λb=>.jJ<|.cc (dS (a (d * 6746518853)) 16) λc=>.jJ<|.unroll 10<|.jR<|.lit 8002 1<|.jJ<|.jJ<|.cc (dY (a (b * b)) 30) λe=>.jK<|.lit 9002 1<|.jJ<|.jJ<|.cc (dS (a (c * c)) 30) λf=>.jK<|.lit 7001 3<|.jR<|.lit 8002 2<|.jK<|.jJ<|.cc (dY (a (e * b)) 30) λg=>.jL<|.lit 9002 2<|.jK<|.jJ<|.cc (dS (a (f * c)) 30) λh=>.jL<|.lit 7001 4<|.jR<|.lit 8002 3<|.jL<|.jJ<|.cc (dY (a (g * b)) 30) λi=>.jM<|.lit 9002 3<|.jL<|.jJ<|.cc (dS (a (h * c)) 30) λj=>.jM<|.lit 7001 5<|.jR<|.lit 8002 4<|.jM<|.jJ<|.cc (dY (a (i * b)) 30) λk=>.jN<|.lit 9002 4<|.jM<|.jJ<|.cc (dS (a (j * c)) 30) λl=>.jN<|.lit 7001 6<|.jR<|.lit 8002 5<|.jN<|.jJ<|.cc (dY (a (k * b)) 30) λm=>.jO<|.lit 9002 5<|.jN<|.jJ<|.cc (dS (a (l * c)) 30) λo=>.jO<|.lit 7001 7<|.jR<|.lit 8002 6<|.jO<|.jJ<|.cc (dY (a (m * b)) 30) λp=>.jP<|.lit 9002 6<|.jO<|.jJ<|.cc (dS (a (o * c)) 30) λr=>.jP<|.lit 7001 8<|.jR<|.lit 8002 7<|.jP<|.jJ<|.cc (dY (a (p * b)) 30) λs=>.jQ<|.lit 9002 7<|.jP<|.jJ<|.cc (dS (a (r * c)) 30) λt=>.jQ<|.lit 7001 9<|.jR<|.lit 8002 8<|.jQ<|.jJ<|.cc (dY (a (s * b)) 30) λar=>.ix 9 11 rfl<|.lit 9002 8<|.jQ<|.jJ<|.cc (dS (a (t * c)) 30) λw=>.ix 9 11 rfl<|.lit 7001 10<|.jR<|.lit 8002 9<|.ix 9 11 rfl<|.jJ<|.cc (dY (a (ar * b)) 30) λx=>.ix 10 11 rfl<|.lit 9002 9<|.ix 9 11 rfl<|.jJ<|.cc (dS (a (w * c)) 30) λy=>.ix 10 11 rfl<|.lit 7001 11<|.jS<|.jT ((1073741824,b,e,g,i,k,m,p,s,ar,x),(1073741824,c,f,h,j,l,o,r,t,w,y))
def KT:=mkq1 func546 KU (λr=>.tup [.pure (uQ r.1),.pure (uQ r.2)])
def LL (b a:Int):T Int:=.grd (a≠0)<|.jT (G qs ((G qs ((G qs (b+a))-1)).tdiv a))
def gQ:=mkp2 func548 LL
def Jn (c:A7):T Int:=
 let b:=qs.wrap;.loop (λs (a:Bq)=>pk s [7,8] [] [(3,pz a.1),(4,pz a.2.1),(9,pz a.2.2)] []) (.exit 0) (ik 3 [] []) (λa=>.kh (a.2.2<(C c:Int)) (.vd a.2.2 c<|.nn ((b (a.1+(b (a.2.1 * (F c (X3 a.2.2) qt))))),(b (0-a.2.1)),(b (a.2.2+1)))) (.oo a.1)) (0,1,0) [] λa=>.jT a
def kD:=mkp1 func547 Jn
def Kh (a b:Int):T af:=.cc (dY a 14) λc=>.cc (dS b 14) λd=>.jT (⟨(max 0 c),(min 65536 d)⟩:af)
def Kg:=mkp2 func549 Kh
def Db (e:Int):T af:=.cc (KT e) λa=>let b:=a.2.2.2.2;.jJ<|.jL<|.cc (gQ b.1 6) λf=>.jN<|.ok ((120:Int)≠0) jU<|.jP<|.cc (gQ b.2.2.2.2.1 5040) λg=>let c:=([a.1.2.1,f,(G qs (a.1.2.2.2.2.2.1.tdiv 120)),g]:A7);
 .conv 2011 (kL c 2)<|.cc (kD c) λh=>.jJ<|.jL<|.ok ((6:Int)≠0) jU<|.jN<|.cc (gQ b.2.2.1 120) λi=>.jP<|.ok ((5040:Int)≠0) jU<|.ix 9 11 rfl<|.cc (gQ b.2.2.2.2.2.2.1 362880) λj=>let d:=([a.2.2.1,(G qs (a.1.2.2.2.1.tdiv 6)),i,(G qs (a.1.2.2.2.2.2.2.2.1.tdiv 5040)),j]:A7);
 .conv 3014 (kL d 2)<|.cc (kD d) λk=>.cc (Kg h k) λl=>.jT l
def PT:=mkp1 func544 Db
def MI (f:Int):T af:=
 let c:=qs.wrap;.cc (KT f) λa=>let b:=a.2.2.2.2.2;.jK<|.cc (gQ a.2.2.2.1 2) λg=>.jM<|.ok ((24:Int)≠0) jU<|.jO<|.cc (gQ b.2.2.1 720) λh=>.jQ<|.ok ((40320:Int)≠0) jU<|.ix 10 11 rfl<|.cc (gQ b.2.2.2.2.2.2 3628800) λi=>let d:=([1073741824,g,(c (a.1.2.2.2.2.1.tdiv 24)),h,(c (a.1.2.2.2.2.2.2.2.2.1.tdiv 40320)),i]:A7);
 .conv 2015 (kL d 2)<|.cc (kD d) λj=>.jK<|.ok ((2:Int)≠0) jU<|.jM<|.cc (gQ b.1 24) λk=>.jO<|.ok ((720:Int)≠0) jU<|.jQ<|.cc (gQ b.2.2.2.2.1 40320) λl=>let e:=([1073741824,(c (a.1.2.2.1.tdiv 2)),k,(c (a.1.2.2.2.2.2.2.1.tdiv 720)),l]:A7);
 .conv 3012 (kL e 2)<|.cc (kD e) λm=>.cc (Kg j m) λo=>.jT o
def Ov:=mkp1 func545 MI
def Bc (a:Int):T af:=.kh (a<=8192) (.cc (PT a) λb=>.jT b) (.cc (Ov (G qs (16384-a))) λb=>.jT b)
def rA:=mkp1 func537 Bc
def yv (a:af):T af:=.cc (eU a) λb=>.br (!b) (.jT (⟨0,0⟩:af)) (.jT (⟨(G qs (0-a.Hi)),(G qs (0-a.Lo))⟩:af))
def vC:=mkp1 func520 yv
def Ei (g:Int):T af:=.cc (uY g) λe=>let b:=e.tmod 16384;let c:=G qs (e.tdiv 16384);let f:=G qs (16384-b);
 .ok ((16384:Int)≠0) jU<|.ok ((16384:Int)≠0) jU<|.br (c==0) (.cc (rA b) λa=>.jT a) (.br (c==1) (.cc (rA f) λa=>.jT a) (.br (c==2) (.cc (rA b) λa=>.cc (vC a) λd=>.jT d) (.cc (rA f) λa=>.cc (vC a) λd=>.jT d)))
def sx:=mkp1 func529 Ei
def Eh (a:Int):T af:=.cc (uY a) λb=>.cc (sx (G qs (b+16384))) λc=>.jT c
def Ef:=mkp1 func528 Eh
def LZ (a b:af):T af:=.cc (uR a b) λc=>.br (!c) (.jT (⟨0,0⟩:af)) (.jT (⟨(min a.Lo b.Lo),(max a.Hi b.Hi)⟩:af))
def lQ:=mkp2 func534 LZ
def ys (a:af)(b:Int):T Bool:=.cc (eU a) λc=>.br c (.kh (a.Lo<=b) (.jT (qu (b<=a.Hi))) (.jT E)) (.jT E)
def OA:=mkp2 func543 ys
def Be (a:af)(b:Int):T Bool:=.cc (uY (G qs (b-a.Lo))) λc=>.cc (OA a (G qs (a.Lo+c))) λd=>.jT d
def rB:=mkp2 func535 Be
def Da (c:af)(g h:Int):T af:=.cc (eU c) λi=>.br (!i) (.jT (⟨0,0⟩:af)) (.cc (K2 c) λj=>.kh (j>=65536) (.jT (⟨(-65536),65536⟩:af)) (.cc (Ef c.Lo) λk=>.cc (Ef c.Hi) λl=>.cc (lQ k l) λe=>.cut 0 (λs (a:B9)=>pk s [3,4,8,9] [0,64] [] [(1088,.box [pz a.1,pz a.2])]) (.cc (rB c g) λa=>.br a (.cc (eX 65536) λb=>.cc (lQ e b) λd=>.oo (d.Lo,d.Hi)) (.oo (e.Lo,e.Hi))) λa=>.cut 0 (λs (b:B9)=>pk s [8,9] [64] [] [(1088,.box [pz b.1,pz b.2])]) (.cc (rB c h) λb=>.br b (.cc (eX (-65536)) λd=>.cc (lQ (⟨a.1,a.2⟩:af) d) λf=>.oo (f.Lo,f.Hi)) (.oo (a.1,a.2))) λb=>.jT (⟨b.1,b.2⟩:af)))
def PS a b c:=mkD func527 (Da a b c) 0 [q a,.func 528 [] [],pz b,pz c] [] q X6
def LJ (a:af):T af:=.cc (PS a 0 32768) λb=>.jT b
def NT:=mkp1 func518 LJ
def MJ (c:af)(g h:Int):T af:=.cc (eU c) λi=>.br (!i) (.jT (⟨0,0⟩:af)) (.cc (K2 c) λj=>.kh (j>=65536) (.jT (⟨(-65536),65536⟩:af)) (.cc (sx c.Lo) λk=>.cc (sx c.Hi) λl=>.cc (lQ k l) λe=>.cut 0 (λs (a:B9)=>pk s [3,4,8,9] [0,64] [] [(1088,.box [pz a.1,pz a.2])]) (.cc (rB c g) λa=>.br a (.cc (eX 65536) λb=>.cc (lQ e b) λd=>.oo (d.Lo,d.Hi)) (.oo (e.Lo,e.Hi))) λa=>.cut 0 (λs (b:B9)=>pk s [8,9] [64] [] [(1088,.box [pz b.1,pz b.2])]) (.cc (rB c h) λb=>.br b (.cc (eX (-65536)) λd=>.cc (lQ (⟨a.1,a.2⟩:af) d) λf=>.oo (f.Lo,f.Hi)) (.oo (a.1,a.2))) λb=>.jT (⟨b.1,b.2⟩:af)))
def Ow a b c:=mkD func527 (MJ a b c) 0 [q a,.func 529 [] [],pz b,pz c] [] q X6
def LK (a:af):T af:=.cc (Ow a 16384 49152) λb=>.jT b
def NU:=mkp1 func519 LK
def BJ (d:Int)(e:af):T C0:=let h:=(⟨e.Lo,e.Hi⟩:af);.cc (eU e) λi=>.br (!i) (.jT (((⟨0,0⟩:af),(⟨0,0⟩:af),(⟨0,0⟩:af)),((⟨0,0⟩:af),(⟨0,0⟩:af),(⟨0,0⟩:af)),((⟨0,0⟩:af),(⟨0,0⟩:af),(⟨0,0⟩:af)))) (.cc (NT h) λb=>.cc (NU h) λc=>.cc (vC c) λf=>.cc (eX 65536) λg=>.cc (eX 0) λa=>.br (d==0) (.jT ((g,a,a),(a,b,f),(a,c,b))) (.br (d==1) (.jT ((b,a,c),(a,g,a),(f,a,b))) (.br (d==2) (.jT ((b,f,a),(c,b,a),(a,a,g))) (.jT (((⟨0,0⟩:af),(⟨0,0⟩:af),(⟨0,0⟩:af)),((⟨0,0⟩:af),(⟨0,0⟩:af),(⟨0,0⟩:af)),((⟨0,0⟩:af),(⟨0,0⟩:af),(⟨0,0⟩:af)))))))
def Pf:=mkp2 func507 BJ
def Es (b:Int)(a:af):T aN:=.cc (Pf b (⟨a.Lo,a.Hi⟩:af)) λc=>.cc (pose_still_C) λd=>.jT (⟨c,d⟩:aN)
def QE:=mkp2 func464 Es
def Ek (b:Int)(a:af):T aN:=.cc (QE b (⟨a.Lo,a.Hi⟩:af)) λc=>.jT c
def Qv:=mkp2 func405 Ek
def JF (a:cq)(f:af):T aN:=.cc (rf a.XH) λb=>.cc (yi ((⟨b.1.Lo,b.1.Hi⟩:af),(⟨b.2.1.Lo,b.2.1.Hi⟩:af),(⟨b.2.2.Lo,b.2.2.Hi⟩:af))) λg=>let h:=(⟨g.R,g.T⟩:aN);
 .split (((IQ a.Xk).o).isSome) (.cc (IQ a.Xk) λd=>.cc (Qv d (⟨f.Lo,f.Hi⟩:af)) λc=>.cc (ri h c) λe=>.jT e) (.split (((IS a.Xk).o).isSome) (.cc (IS a.Xk) λd=>.cc (PU d f) λc=>.cc (ri g c) λe=>.jT e) (.cc (Wd a.Xk) λd=>.cc (Qu d f) λc=>.cc (ri h (⟨c.R,c.T⟩:aN)) λe=>.jT e))
def Wt:=mkp2 func270 JF
def JJ (e:ao)(i:Ah):T Aj:=let f:=(C e.Xb:Int);.vg 1003 24 SH 191 f (⟨(((⟨0,0⟩:af),(⟨0,0⟩:af),(⟨0,0⟩:af)),((⟨0,0⟩:af),(⟨0,0⟩:af),(⟨0,0⟩:af)),((⟨0,0⟩:af),(⟨0,0⟩:af),(⟨0,0⟩:af))),((⟨0,0⟩:af),(⟨0,0⟩:af),(⟨0,0⟩:af))⟩:aN) 192<|.vn (λ(a:(Aj×Int))=>([(15,pz a.2)],[(320,vO a.1 191)])) [1,5,13,14] [] 0 (λ(a:Aj)=>([],[(320,vO a 191)])) [5] [] (λa=>let d:=(a.2).toNat;let j:=F e.Xb d qt;let g:=j.Xw;.kh (a.2<f) (.cut 0 (λs (b:Aj)=>pk s [1,5,13,14,15] [] [] [(320,vO b 191)]) (.vd a.2 e.Xb<|.vd a.2 i<|.cc (Wt j (F i d qt)) λb=>let c:=a.1.set d b;let h:=C c;
 .vd a.2 a.1<|.vl 5009 a.1 191 a.2 b<|.br (g !=(-1)) (.gg g h<|.gg a.2 h<|.call (ri (F c (g.toNat) qt) (F c d qt)) [] λk=>.gh a.2 h<|.vl 7013 c 191 a.2 k<|.oo (c.set d k)) (.oo c)) λb=>.nn (b,(G qs (a.2+1)))) (.oo a.1)) ((qr f.toNat ((⟨(((⟨0,0⟩:af),(⟨0,0⟩:af),(⟨0,0⟩:af)),((⟨0,0⟩:af),(⟨0,0⟩:af),(⟨0,0⟩:af)),((⟨0,0⟩:af),(⟨0,0⟩:af),(⟨0,0⟩:af))),((⟨0,0⟩:af),(⟨0,0⟩:af),(⟨0,0⟩:af))⟩:aN):aN)),0) λa=>.jT a
def JI:=mkp2 func191 JJ
def Yn (d:ao)(e:Ah):T Aj:=let a:=(⟨d.Xb,d.Xl⟩:ao);.cub 2 13 [1,2] [0] (.cc (JG a e) λb=>.ki (!b) (.cc (kK a) λc=>.oo (c !=0))) λb=>.br b (.jT nl) (.cc (JI a e) λc=>.jT c)
def Ym:=mkp2 func110 Yn
def DF (h:aN)(i:Bx):T Bx:=.cc (yj h) λa=>let b:=a.2.2.2.2.2;let c:=b.2.2.2;let d:=c.2.2.2;let e:=d.2.2.2;let f:=e.2.2.2;let g:=f.2.2.2;.call (vG i a.1 a.2.1 a.2.2.1 a.2.2.2.1 a.2.2.2.2.1 b.1 b.2.1 b.2.2.1 c.1 c.2.1 c.2.2.1 d.1 d.2.1 d.2.2.1 e.1 e.2.1 e.2.2.1 f.1 f.2.1 f.2.2.1 g.1 g.2.1 g.2.2.1 g.2.2.2) [(0,256)] λj=>.jT j.1
def DE:=mkp2 func112 DF
def adv (a:aT)(o p:Int)(J:A7):T Bool:=let d:=qs.wrap;let r:=G qs (65536-a.Xy);let c:=G qs (0-a.Xy);let t:=F a.Xx (o.toNat) qt;let e:=F a.Xu (p.toNat) qt;.cub 2 35 [1,2,3,4] [0] (.cc (vR a) λw=>.ki (w !=0) (.cc (Pb a o p) λx=>.ki (!x) (.cc (eJ a.Xr.Xe J) λm=>.oo (!m)))) λw=>.br w (.jT E) (.vd o a.Xx<|.cc (PV J) λx=>.cc (Ym a.Xr.Xe x) λm=>let b:=F m (X3 t.XF) qt;let K:=b.R.1.2.1.Lo;let L:=b.R.1.2.2.Lo;let M:=b.R.2.1.1.Lo;let N:=b.R.2.2.1.Lo;let O:=b.R.2.1.2.2.Lo;let ar:=b.R.2.2.2.1.Lo;let P:=qu (K<c);let Q:=qu (L<c);let S:=qu (M<c);let U:=qu (O<c);let V:=qu (N<c);let X:=qu (ar<c);let y:=qu ((b.R.1.2.1.Hi)>a.Xy);let z:=qu ((b.R.1.2.2.Hi)>a.Xy);let A:=qu ((b.R.2.1.1.Hi)>a.Xy);let B:=qu ((b.R.2.1.2.2.Hi)>a.Xy);let H:=qu ((b.R.2.2.1.Hi)>a.Xy);let I:=qu ((b.R.2.2.2.1.Hi)>a.Xy);
 .vd (t.XF) m<|.unroll 4<|.jR<|.jG<|.unroll 4<|.jR<|.jG<|.jR<|.kh ((b.R.1.1.Lo)<r) (.jT E) (.jS<|.lit 15000 1<|.jR<|.jH<|.jS<|.cut 0 (λs (g:C5)=>pk s [2,4,9,10,11,52,53,57,58,66,67,68,69,70,71] [0,512,1280,4672] [(77,X7 4672),(78,pz K),(79,.ptr 0 8),(80,pz a.Xy),(81,pz c),(82,q P),(83,q g.1),(89,q g.2.1),(90,q g.2.2)] []) (.jR<|.br P (.oo (D,D,D)) (.oo (E,y,y))) λg=>.br g.2.2 (.jT E) (.lit 15000 2<|.jR<|.jI<|.jS<|.cut 0 (λs (h:C5)=>pk s [2,4,9,10,11,52,53,57,58,66,67,68,69,70,71,79,80,81] [0,512,1280,5952] [(77,X7 5952),(78,pz L),(82,q Q),(83,q h.1),(89,q h.2.1),(90,q h.2.2)] []) (.jR<|.br Q (.oo (D,D,D)) (.oo (E,z,z))) λh=>.br h.2.2 (.jT E) (.lit 15000 3<|.jS<|.lit 16000 1<|.jR<|.jH<|.unroll 4<|.jR<|.jG<|.jS<|.cut 0 (λs (i:C5)=>pk s [2,4,9,10,11,52,53,57,58,66,67,68,69,70,71,79,80,81] [0,512,1280,7936] [(77,X7 7936),(78,pz M),(82,q S),(83,q i.1),(89,q i.2.1),(90,q i.2.2)] []) (.jR<|.br S (.oo (D,D,D)) (.oo (E,A,A))) λi=>.br i.2.2 (.jT E) (.lit 15000 1<|.jR<|.jH<|.jR<|.kh ((b.R.2.1.2.1.Lo)<r) (.jT E) (.jS<|.lit 15000 2<|.jR<|.jI<|.jS<|.cut 0 (λs (j:C5)=>pk s [2,4,9,10,11,52,53,57,58,66,67,68,69,70,71] [0,512,1280,11584] [(77,X7 11584),(78,pz O),(79,.ptr 0 8),(80,pz a.Xy),(81,pz c),(82,q U),(83,q j.1),(89,q j.2.1),(90,q j.2.2)] []) (.jR<|.br U (.oo (D,D,D)) (.oo (E,B,B))) λj=>.br j.2.2 (.jT E) (.lit 15000 3<|.jS<|.lit 16000 2<|.jR<|.jI<|.unroll 4<|.jR<|.jG<|.jS<|.cut 0 (λs (k:C5)=>pk s [2,4,9,10,11,52,53,57,58,66,67,68,69,70,71,79,80,81] [0,512,1280,13568] [(77,X7 13568),(78,pz N),(82,q V),(83,q k.1),(89,q k.2.1),(90,q k.2.2)] []) (.jR<|.br V (.oo (D,D,D)) (.oo (E,H,H))) λk=>.br k.2.2 (.jT E) (.lit 15000 1<|.jR<|.jH<|.jS<|.cut 0 (λs (l:C5)=>pk s [2,4,9,10,11,52,53,57,58,66,67,68,69,70,71,79,80,81] [0,512,1280,14848] [(77,X7 14848),(78,pz ar),(82,q X),(83,q l.1),(89,q l.2.1),(90,q l.2.2)] []) (.jR<|.br X (.oo (D,D,D)) (.oo (E,I,I))) λl=>.br l.2.2 (.jT E) (.lit 15000 2<|.jR<|.jI<|.jR<|.kh ((b.R.2.2.2.2.Lo)<r) (.jT E) (.jS<|.lit 15000 3<|.jS<|.lit 16000 3<|.jS<|.vd p a.Xu<|.cc (rf (t.XH)) λY=>.call (DE b Y) [] λf=>.unroll 4<|.jR<|.jG<|.cub 0 126 [4,15,102,103] [0,18880] (.jG<|.kl (f.1.Lo<(d ((e.1)-a.Xy))) (.jG<|.oo (qu (f.1.Hi>(d ((e.1)+a.Xy)))))) λZ=>.br Z (.jT E) (.lit 23000 1<|.jR<|.jH<|.cub 0 126 [4,15,102,103] [0,18880] (.jH<|.kl (f.2.1.Lo<(d ((e.2.1)-a.Xy))) (.jH<|.oo (qu (f.2.1.Hi>(d ((e.2.1)+a.Xy)))))) λbf=>.br bf (.jT E) (.lit 23000 2<|.jR<|.jI<|.cub 0 126 [4,15,102,103] [0,18880] (.jI<|.kl (f.2.2.Lo<(d ((e.2.2)-a.Xy))) (.jI<|.oo (qu (f.2.2.Hi>(d ((e.2.2)+a.Xy)))))) λbg=>.br bg (.jT E) (.lit 23000 3<|.jS<|.jT D)))))))))))))
def Q8:=mkp4 func53 adv
def Lx (e:ao):T A7:=let h:=(C e.Xb:Int);let i:=G qs (h+1);let f:=qr i.toNat (0:Int);.vg 1004 1 bE 3 i 0 8<|.vd (0:Int) f<|.vl 2002 f 3 (0:Int) (-1)<|.vn (λ(a:Ak)=>([(16,pz a.2)],[(384,vO a.1 3)])) [3,14,15] [] 0 (λ(a:A7)=>([],[(384,vO a 3)])) [3] [] (λa=>let b:=G qs (a.2+1);let j:=b.toNat;let d:=a.1.set j a.2;let k:=C d;let g:=F e.Xb (X3 a.2) qt;let l:=G qs ((g.Xw)+1);.kh (a.2<h) (.cut 0 (λs (c:A7)=>pk s [3,14,15,16] [] [] [(384,vO c 3)]) (.vd a.2 e.Xb<|.vd b a.1<|.vl 6005 a.1 3 b a.2<|.br ((g.Lo)==(g.Hi)) (.gg l k<|.name 8008 ((F d (l.toNat) qt)) λc=>.gh b k<|.vl 8010 d 3 b c<|.oo (d.set j c)) (.oo d)) λc=>.nn (c,b)) (.oo a.1)) ((f.set (X3 (0:Int)) (-1)),0) λa=>.jT a
def NL:=mkp1 func468 Lx
def My (c:ak)(d e:Int):T Bool:=.loop (ik 12 [1,2,10,11] []) (.exit 0) (jk [] []) (λa=>let b:=F c.Xi (a.toNat) qt;.kh (a<(C c.Xi:Int)) (.vd a c.Xi<|.cub 0 27 [1,2,10,11,12] [] (.ki (((b.A)==d)&&(((b.B)==e)&&D)) (.oo (((b.A)==e)&&(((b.B)==d)&&D)))) λf=>.br f (.ff D) (.nn (G qs (a+1)))) (.oo .u))
 0 [] λ_=>.jT E
def Oj:=mkp3 func469 My
def CQ (c:ak):T Al:=let g:=(C c.Xd:Int);.cc (fw c) λo=>.br (o !=0) (.jT nl) (.cc (NL c.Xe) λe=>.vn (λ(b:Am)=>([(19,pz b.2)],[(576,vO b.1 427)])) [1,3,4,17,18] [0] 0 (λ(b:Al)=>([],[(576,vO b 427)])) [4] [] (λb=>let h:=(F c.Xd (X3 b.2) qt).XF;let i:=G qs (h+1);let j:=G qs (b.2+1);.kh (b.2<g) (.vd b.2 c.Xd<|.vn (λ(a:Am)=>([(7,pz a.2)],[(576,vO a.1 427)])) [1,3,4,5,6,17,18,19] [0,1216] 2 (λ(a:Al)=>([],[(576,vO a 427)])) [1,3,4,17,18,19] [0] (λa=>let k:=([(⟨b.2,a.2⟩:iw)]:Al);let l:=(F c.Xd (X3 a.2) qt).XF;let m:=G qs (l+1);.kh (a.2<g) (.cut 0 (λs (d:Al)=>pk s [1,3,5,6,7,17,18,19] [0,1216] [(4,.vec 1984)] [(1984,vO d 427)]) (.vd a.2 c.Xd<|.vd i e<|.vd m e<|.name 12011 ((F e (m.toNat) qt)) λd=>.cub 0 61 [1,3,4,5,6,7,17,18,19] [0,576,1216] (.kj (!((F e (i.toNat) qt)==d)) (.cc (Oj c h l) λf=>.oo (!f))) λf=>.br f (.vh 14004 a.1 k 427 16<|.oo (a.1++k)) (.oo a.1)) λd=>.nn (d,(G qs (a.2+1)))) (.oo a.1)) (b.1,j) λa=>.nn (a,j)) (.oo b.1)) (nl,0) λb=>.jT b)
def PG:=mkp1 func413 CQ
def CW (b:bW)(f:aN):T By:=let c:=(C b.Xc:Int);.cc (CU b) λg=>.br (!g) (.jT nl) (.vg 3003 6 gL 189 c ((⟨0,0⟩:af),(⟨0,0⟩:af),(⟨0,0⟩:af)) 48<|.vn (λ(a:(By×Int))=>([(18,pz a.2)],[(576,vO a.1 189)])) [3,5,16,17] [64] 0 (λ(a:By)=>([],[(576,vO a 189)])) [5] [] (λa=>let d:=(a.2).toNat;.kh (a.2<c) (.vd a.2 b.Xc<|.cc (rf (F b.Xc d qt)) λh=>.cc (DE f h) λe=>.vd a.2 a.1<|.vl 7007 a.1 189 a.2 e<|.nn ((a.1.set d e),(G qs (a.2+1)))) (.oo a.1)) ((qr c.toNat (((⟨0,0⟩:af),(⟨0,0⟩:af),(⟨0,0⟩:af)):Bx)),0) λa=>.jT a)
def PJ:=mkp2 func470 CW
def Jt (f:ak)(A:Ah):T Bz:=let e:=(C f.Xd:Int);.cub 2 19 [1,2] [0] (.cc (JG f.Xe A) λy=>.ki (!y) (.cc (fw f) λx=>.oo (x !=0))) λy=>.br y (.jT nl) (.cc (JI f.Xe A) λx=>.conv 4003 (Uo 1 (encL 6 gL) 351 e.toNat nl (.lst 0 0 λ_=>.unk) jY)<|.grd (0<=e/\e<=e/\e<=9223372036854775807/\e * 24<=140737488355328)<|.vn (λ(c:(Bz×Int))=>([(31,pz c.2)],[(704,vO c.1 351)])) [5,6,29,30] [] 0 (λ(c:Bz)=>([],[(704,vO c 351)])) [6] [] (λc=>let B:=(c.2).toNat;let H:=F f.Xd B qt;let z:=H.XF;let a:=F x (z.toNat) qt;.kh (c.2<e) (.vd c.2 f.Xd<|.cc (pose_Identity_C) λb=>.cut 0 (λs (d:Cq)=>let m:=d.2.2.2.2.2;let o:=m.2.2.2;let p:=o.2.2.2;let r:=p.2.2.2;let t:=r.2.2.2;let w:=t.2.2.2;pk s [5,6,7,8,9,29,30,31] [704,1408] [] [(1664,.box [pz d.1,pz d.2.1,pz d.2.2.1,pz d.2.2.2.1,pz d.2.2.2.2.1,pz m.1,pz m.2.1,pz m.2.2.1,pz o.1,pz o.2.1,pz o.2.2.1,pz p.1,pz p.2.1,pz p.2.2.1,pz r.1,pz r.2.1,pz r.2.2.1,pz t.1,pz t.2.1,pz t.2.2.1,pz w.1,pz w.2.1,pz w.2.2.1,pz w.2.2.2])]) (.br (z !=(-1)) (.vd z x<|.oo (a.R.1.1.Lo,a.R.1.1.Hi,a.R.1.2.1.Lo,a.R.1.2.1.Hi,a.R.1.2.2.Lo,a.R.1.2.2.Hi,a.R.2.1.1.Lo,a.R.2.1.1.Hi,a.R.2.1.2.1.Lo,a.R.2.1.2.1.Hi,a.R.2.1.2.2.Lo,a.R.2.1.2.2.Hi,a.R.2.2.1.Lo,a.R.2.2.1.Hi,a.R.2.2.2.1.Lo,a.R.2.2.2.1.Hi,a.R.2.2.2.2.Lo,a.R.2.2.2.2.Hi,a.T.1.Lo,a.T.1.Hi,a.T.2.1.Lo,a.T.2.1.Hi,a.T.2.2.Lo,a.T.2.2.Hi)) (.oo (b.R.1.1.Lo,b.R.1.1.Hi,b.R.1.2.1.Lo,b.R.1.2.1.Hi,b.R.1.2.2.Lo,b.R.1.2.2.Hi,b.R.2.1.1.Lo,b.R.2.1.1.Hi,b.R.2.1.2.1.Lo,b.R.2.1.2.1.Hi,b.R.2.1.2.2.Lo,b.R.2.1.2.2.Hi,b.R.2.2.1.Lo,b.R.2.2.1.Hi,b.R.2.2.2.1.Lo,b.R.2.2.2.1.Hi,b.R.2.2.2.2.Lo,b.R.2.2.2.2.Hi,b.T.1.Lo,b.T.1.Hi,b.T.2.1.Lo,b.T.2.1.Hi,b.T.2.2.Lo,b.T.2.2.Hi))) λd=>let g:=d.2.2.2.2.2;let h:=g.2.2.2;let i:=h.2.2.2;let j:=i.2.2.2;let k:=j.2.2.2;let l:=k.2.2.2;.cc (PJ H (⟨(((⟨d.1,d.2.1⟩:af),(⟨d.2.2.1,d.2.2.2.1⟩:af),(⟨d.2.2.2.2.1,g.1⟩:af)),((⟨g.2.1,g.2.2.1⟩:af),(⟨h.1,h.2.1⟩:af),(⟨h.2.2.1,i.1⟩:af)),((⟨i.2.1,i.2.2.1⟩:af),(⟨j.1,j.2.1⟩:af),(⟨j.2.2.1,k.1⟩:af))),((⟨k.2.1,k.2.2.1⟩:af),(⟨l.1,l.2.1⟩:af),(⟨l.2.2.1,l.2.2.2⟩:af))⟩:aN)) λI=>.vd c.2 c.1<|.vl 11006 c.1 351 c.2 I<|.nn ((c.1.set B I),(G qs (c.2+1)))) (.oo c.1)) ((qr e.toNat (nl:By)),0) λc=>.jT c)
def Wp:=mkp2 func414 Jt
def KX (a:ak)(c:Ah):T (gk×Bool):=let f:=(C c:Int);.cub 2 19 [1,2,4] [0,64,65,66,67] (.cc (fw a) λd=>.ki (d !=0) (.oo (f !=(C a.Xe.Xb:Int)))) λd=>.br d (.jT ((⟨nl,nl,nl⟩:gk),E)) (.loop (ik 23 [1,2,4,21,22] [0,64,65,66,67]) (.exit 0) (jk [1,2,4] [0,64,65,66,67]) (λb=>.kh (b<f) (.vd b c<|.cc (eU (F c (b.toNat) qt)) λe=>.br (!e) (.ff ((⟨nl,nl,nl⟩:gk),E)) (.nn (G qs (b+1)))) (.oo .u))
 0 [] λ_=>.cc (PG a) λb=>.cc (Wp (⟨a.Xe,a.Xd,a.Xi⟩:ak) c) λe=>.jT ((⟨a.Xd,b,e⟩:gk),D))
def KW:=mkq2 func358 KX (λr=>.tup [q r.1,q r.2])
def rC (a:gk)(d:Int):T pE:=let e:=F a.pairs (d.toNat) qt;let b:=e.A;let c:=e.B;.vd d a.pairs<|.vd b a.points<|.vd b a.shapes<|.vd c a.points<|.vd c a.shapes<|.jT (⟨(F a.points (b.toNat) qt),(F a.points (c.toNat) qt),(F a.shapes (b.toNat) qt).XB,(F a.shapes (c.toNat) qt).XB⟩:pE)
def vQ:=mkp2 func359 rC
def W6 (a:By)(b:Int)(c:By)(d:Int)(e:Br):T (By×By×Int×Int×Br):=.jT (a,c,b,d,e)
def Jk:=mkv5 func416 W6 (λ_=>.func 471 [] [X7 0,X7 1,X7 2,X7 3,X7 4]) (λr=>[(0,.box [q r.1]),(1,.box [q r.2.1]),(2,.box [pz r.2.2.1]),(3,.box [pz r.2.2.2.1]),(4,.box [q r.2.2.2.2])])
def abF (a:By)(b:Int)(c:By)(d:Int):T iH:=.jT (⟨(⟨a,b⟩:iL),(⟨c,d⟩:iL)⟩:iH)
def P9:=mkp4 func477 abF
def AU (c:By):T Bool:=let d:=(C c:Int);.cub 2 14 [0] [] (.kl (d<1) (.oo (qu (d>8)))) λe=>.br e (.jT E) (.loop (ik 17 [15,16] []) (.exit 0) (jk [] []) (λb=>let a:=F c (b.toNat) qt;.kh (b<d) (.vd b c<|.unroll 4<|.jR<|.jG<|.cub 0 39 [15,16,17,21,22] [] (.kl ((a.1.Lo)<(-268435456)) (.kl ((a.1.Lo)>(a.1.Hi)) (.oo (qu ((a.1.Hi)>268435456))))) λf=>.br f (.ff E) (.lit 11000 1<|.jR<|.jH<|.cub 0 39 [15,16,17,21,22] [] (.kl ((a.2.1.Lo)<(-268435456)) (.kl ((a.2.1.Lo)>(a.2.1.Hi)) (.oo (qu ((a.2.1.Hi)>268435456))))) λg=>.br g (.ff E) (.lit 11000 2<|.jR<|.jI<|.cub 0 39 [15,16,17,21,22] [] (.kl ((a.2.2.Lo)<(-268435456)) (.kl ((a.2.2.Lo)>(a.2.2.Hi)) (.oo (qu ((a.2.2.Hi)>268435456))))) λh=>.br h (.ff E) (.lit 11000 3<|.jS<|.nn (G qs (b+1)))))) (.oo .u))
 0 [] λ_=>.jT D)
def gS:=mkp1 func421 AU
def Eb (a:iL):T Bool:=.cc (gS a.points) λb=>.br b (.kh (0<=a.radius) (.jT (qu (a.radius<=1048576))) (.jT E)) (.jT E)
def Ea:=mkp1 func521 Eb
def KR (b:Bq):T Bool:=.loop (ik 6 [5] []) (.exit 0) (jk [] []) (λa=>let c:=F ([b.1,b.2.1,b.2.2]:A7) a.toNat 0;.kh (a<3) (.gh a 3<|.cub 0 14 [5,6] [] (.kl (c<(-16384)) (.oo (qu (c>16384)))) λd=>.br d (.ff E) (.nn (G qs (a+1)))) (.oo .u))
 0 [] λ_=>.jT D
def nr:=mkp1 func509 KR
def LD (a:Bq):T Bool:=.cc (nr a) λb=>.br b (.jT (!((a.1==0)&&((a.2.1==0)&&((a.2.2==0)&&D))))) (.jT E)
def ny:=mkp1 func473 LD
def YA (a:Bq):T Bq:=.jT (a.1,a.2.1,a.2.2)
def WM:=mkv1 func530 YA (λ_=>.agg [.func 538 [] [X7 0],.func 540 [] []]) (λr=>[(0,.box [pz r.1,pz r.2.1,pz r.2.2])])
def CZ (b:Bq)(c:Bx):T B9:=let a:=qs.wrap;let d:=G qs (b.1 * c.1.Lo);let e:=G qs (b.1 * c.1.Hi);let f:=G qs (b.2.1 * c.2.1.Lo);let g:=G qs (b.2.1 * c.2.1.Hi);let h:=G qs (b.2.2 * c.2.2.Lo);let i:=G qs (b.2.2 * c.2.2.Hi);.unroll 4<|.jR<|.jG<|.jG<|.jG<|.name 6004 ((a (0+(min d e)))) λj=>.name 7004 ((a (0+(max d e)))) λk=>.lit 8000 1<|.jR<|.jH<|.jH<|.jH<|.name 6004 ((a (j+(min f g)))) λl=>.name 7004 ((a (k+(max f g)))) λm=>.lit 8000 2<|.jR<|.jI<|.jI<|.jI<|.name 6004 ((a (l+(min h i)))) λo=>.name 7004 ((a (m+(max h i)))) λp=>.lit 8000 3<|.jS<|.jT (o,p)
def CY:=mkq2 func539 CZ (λr=>.tup [pz r.1,pz r.2])
def Jm (a:Bx)(b c d:Int):T C9:=.cc (CY (b,c,d) ((⟨a.1.Lo,a.1.Hi⟩:af),(⟨a.2.1.Lo,a.2.1.Hi⟩:af),(⟨a.2.2.Lo,a.2.2.Hi⟩:af))) λe=>.jT (e.1,b,c,d)
def Wm a b c d:=mkD func538 (Jm a b c d) 1 [q a,X7 0] [(0,.box [pz b,pz c,pz d])] (λr=>pz r.1) (λr=>[(0,.box [pz r.2.1,pz r.2.2.1,pz r.2.2.2])])
def X9 (a b:Int):T Bool:=.jT (qu (a<b))
def Wn:=mkp2 func540 X9
def K0 (g h i:Int)(e:By):T Cc:=.vn (λ(a:Ce)=>([(6,pz a.2.2.2.1),(7,pz a.2.2.2.2.1),(13,pz a.2.2.2.2.2)],[(0,.box [pz a.1,pz a.2.1,pz a.2.2.1])])) [2,11,12] [1] 0 (λ(a:Cc)=>([(6,pz a.2.2.2.1),(7,pz a.2.2.2.2)],[(0,.box [pz a.1,pz a.2.1,pz a.2.2.1])])) [] [] (λa=>let c:=a.2.2.2;let d:=c.2.2;.kh (d<(C e:Int)) (.cut 0 (λs (b:Cc)=>pk s [2,11,12,13] [1] [(6,pz b.2.2.2.1),(7,pz b.2.2.2.2)] [(0,.box [pz b.1,pz b.2.1,pz b.2.2.1])]) (.vd d e<|.call (Wm (F e (X3 d) qt) a.1 a.2.1 a.2.2.1) [(0,0)] λb=>.cub 0 30 [2,6,7,8,10,11,12,13] [0,1] (.ki (d==0) (.cc (Wn b.1 c.1) λf=>.oo f)) λf=>.br f (.oo (b.2.1,b.2.2.1,b.2.2.2,b.1,d)) (.oo (b.2.1,b.2.2.1,b.2.2.2,c.1,c.2.1))) λb=>.nn (b.1,b.2.1,b.2.2.1,b.2.2.2.1,b.2.2.2.2,(G qs (d+1)))) (.oo (a.1,a.2.1,a.2.2.1,c.1,c.2.1))) (g,h,i,0,0,0) λa=>.jT (a.2.2.2.1,a.2.2.2.2,a.1,a.2.1,a.2.2.1)
def Nt a b c d:=mkD func531 (K0 a b c d) 1 [.agg [.func 538 [] [X7 0],.func 540 [] []],q d] [(0,.box [pz a,pz b,pz c])] (λr=>.tup [pz r.1,pz r.2.1]) (λr=>[(0,.box [pz r.2.2.1,pz r.2.2.2.1,pz r.2.2.2.2])])
def ME (b:Bq)(d:By):T C2:=.cub 2 16 [1,2] [0] (.cc (ny b) λc=>.ki (!c) (.cc (gS d) λa=>.oo (!a))) λc=>.br c (.jT (0,0,E)) (.cc (WM (b.1,b.2.1,b.2.2)) λa=>.call (Nt a.1 a.2.1 a.2.2 d) [(0,384)] λe=>.jT (e.1,e.2.1,D))
def Oo:=mkq2 func522 ME (λr=>.tup [pz r.1,pz r.2.1,q r.2.2])
def Zi (a:Bq):T Bq:=.jT (a.1,a.2.1,a.2.2)
def NP:=mkv1 func532 Zi (λ_=>.agg [.func 541 [] [X7 0],.func 542 [] []]) (λr=>[(0,.box [pz r.1,pz r.2.1,pz r.2.2])])
def Kf (d:Bx)(a b c:Int):T C9:=.cc (CY (a,b,c) d) λe=>.jT (e.2,a,b,c)
def WN a b c d:=mkD func541 (Kf a b c d) 1 [q a,X7 0] [(0,.box [pz b,pz c,pz d])] (λr=>pz r.1) (λr=>[(0,.box [pz r.2.1,pz r.2.2.1,pz r.2.2.2])])
def YB (a b:Int):T Bool:=.jT (qu (a>b))
def WO:=mkp2 func542 YB
def JC (g h i:Int)(e:By):T Cc:=.vn (λ(a:Ce)=>([(6,pz a.2.2.2.1),(7,pz a.2.2.2.2.1),(13,pz a.2.2.2.2.2)],[(0,.box [pz a.1,pz a.2.1,pz a.2.2.1])])) [2,11,12] [1] 0 (λ(a:Cc)=>([(6,pz a.2.2.2.1),(7,pz a.2.2.2.2)],[(0,.box [pz a.1,pz a.2.1,pz a.2.2.1])])) [] [] (λa=>let c:=a.2.2.2;let d:=c.2.2;.kh (d<(C e:Int)) (.cut 0 (λs (b:Cc)=>pk s [2,11,12,13] [1] [(6,pz b.2.2.2.1),(7,pz b.2.2.2.2)] [(0,.box [pz b.1,pz b.2.1,pz b.2.2.1])]) (.vd d e<|.call (WN (F e (X3 d) qt) a.1 a.2.1 a.2.2.1) [(0,0)] λb=>.cub 0 30 [2,6,7,8,10,11,12,13] [0,1] (.ki (d==0) (.cc (WO b.1 c.1) λf=>.oo f)) λf=>.br f (.oo (b.2.1,b.2.2.1,b.2.2.2,b.1,d)) (.oo (b.2.1,b.2.2.1,b.2.2.2,c.1,c.2.1))) λb=>.nn (b.1,b.2.1,b.2.2.1,b.2.2.2.1,b.2.2.2.2,(G qs (d+1)))) (.oo (a.1,a.2.1,a.2.2.1,c.1,c.2.1))) (g,h,i,0,0,0) λa=>.jT (a.2.2.2.1,a.2.2.2.2,a.1,a.2.1,a.2.2.1)
def Ws a b c d:=mkD func531 (JC a b c d) 1 [.agg [.func 541 [] [X7 0],.func 542 [] []],q d] [(0,.box [pz a,pz b,pz c])] (λr=>.tup [pz r.1,pz r.2.1]) (λr=>[(0,.box [pz r.2.2.1,pz r.2.2.2.1,pz r.2.2.2.2])])
def Ke (b:Bq)(d:By):T C2:=.cub 2 16 [1,2] [0] (.cc (ny b) λc=>.ki (!c) (.cc (gS d) λa=>.oo (!a))) λc=>.br c (.jT (0,0,E)) (.cc (NP (b.1,b.2.1,b.2.2)) λa=>.call (Ws a.1 a.2.1 a.2.2 d) [(0,384)] λe=>.jT (e.1,e.2.1,D))
def WL:=mkq2 func523 Ke (λr=>.tup [pz r.1,pz r.2.1,q r.2.2])
def pG (d:Int):T Int:=.cut 1 (λs (a:B9)=>pk s [] [] [(0,.pure (.int .u64 a.1)),(2,pz a.2)] []) (.kh (d>=4294967296) (.ok (0<=(32:Int)) jU<|.oo ((d.fdiv (2 ^ (min (32:Int).toNat 64))),32)) (.oo (d,0))) λa=>.cut 0 (λs (b:B9)=>pk s [] [] [(0,.pure (.int .u64 b.1)),(2,pz b.2)] []) (.kh (a.1>=65536) (.ok (0<=(16:Int)) jU<|.oo ((a.1.fdiv (2 ^ (min (16:Int).toNat 64))),(G qs (a.2+16)))) (.oo (a.1,a.2))) λb=>.cut 0 (λs (c:B9)=>pk s [] [] [(0,.pure (.int .u64 c.1)),(2,pz c.2)] []) (.kh (b.1>=256) (.ok (0<=(8:Int)) jU<|.oo ((b.1.fdiv (2 ^ (min (8:Int).toNat 64))),(G qs (b.2+8)))) (.oo (b.1,b.2))) λc=>let e:=IntKind.u8.wrap c.1;
 .gh e ((⟨vm⟩:ByteArray).size)<|.name 10003 ((((⟨vm⟩:ByteArray).data.getD e.toNat 0).toNat:Int)) λf=>.jT (G qs (c.2+(G qs f)))
def gM a:=mkD func350 (pG a) 0 [.pure (.int .u64 a)] [] pz X6
def Dn (e:Int):T Int:=let f:=IntKind.u64.wrap e;.kh (e<=0) (.jT 0) (.cc (gM f) λg=>let c:=G qs ((G qs (g+1)).tdiv 2);
 .ok ((2:Int)≠0) jU<|.grd (0<=c)<|.vn (λ(a:Bq)=>([(4,.pure (.int .u64 a.1)),(5,.pure (.int .u64 a.2.1)),(17,pz a.2.2)],[])) [0,16] [] 0 (λ(a:Int)=>([(4,.pure (.int .u64 a))],[])) [] [] (λa=>.kh (a.2.2<c) (.cut 0 (λs (b:B9)=>pk s [0,16,17] [] [(4,.pure (.int .u64 b.1)),(5,.pure (.int .u64 b.2))] []) (.ok ((2:Int)≠0) jU<|.name 7001 ((IntKind.u64.wrap (a.2.1.tdiv 2))) λb=>let d:=IntKind.u64.wrap (a.1+b);
 .kh ((IntKind.u64.wrap (d * d))<=f) (.oo (d,b)) (.oo (a.1,b))) λb=>.nn (b.1,b.2,(G qs (a.2.2+1)))) (.oo a.1)) (0,(IntKind.u64.wrap (1 * 2 ^ (min c.toNat 64))),0) λa=>.jT (G qs a))
def Dm:=mkp1 func524 Dn
def MU (c:Int):T Int:=.cc (Dm c) λa=>.cut 0 (λs (b:Int)=>pk s [] [] [(3,pz b)] []) (.kh ((G qs (a * a))<c) (.oo (G qs (a+1))) (.oo a)) λb=>.jT b
def Oy:=mkp1 func514 MU
def AX (a:Bq):T Int:=
 let b:=qs.wrap;.cc (ny (a.1,a.2.1,a.2.2)) λc=>.br (!c) (.jT 0) (.jG<|.jG<|.jH<|.jH<|.jI<|.jI<|.name 3016 ((b ((b ((b (a.1 * a.1))+(b (a.2.1 * a.2.1))))+(b (a.2.2 * a.2.2))))) λd=>.cc (Oy d) λe=>.jT e)
def AW:=mkp1 func484 AX
def AV (d:iH)(c:Bq):T Bj:=
 let e:=qs.wrap;.cub 2 20 [2,3] [0,64] (.cc (Ea d.a) λg=>.ki (!g) (.cc (Ea d.b) λf=>.oo (!f))) λg=>.br g (.jT (0,E)) (.cc (Oo (c.1,c.2.1,c.2.2) d.a.points) λf=>.br (!f.2.2) (.jT (0,E)) (.cc (WL (c.1,c.2.1,c.2.2) d.b.points) λh=>.br (!h.2.2) (.jT (0,E)) (.cc (AW (c.1,c.2.1,c.2.2)) λi=>.name 9013 ((e ((e (f.1-h.1))- (e (i * (e (d.a.radius+d.b.radius))))))) λj=>.jT (j,D))))
def O4:=mkq2 func512 AV (λr=>.tup [pz r.1,q r.2])
def KQ (d:iH)(c:Bq):T Bool:=.cc (O4 (⟨d.a,d.b⟩:iH) (c.1,c.2.1,c.2.2)) λe=>.br e.2 (.jT (qu (e.1>0))) (.jT E)
def Nm:=mkp2 func476 KQ
def Kz (c:Bq)(e:By)(f:Int)(g:By)(h:Int):T Bool:=.cc (P9 e f g h) λd=>.cc (Nm (⟨d.a,d.b⟩:iH) (c.1,c.2.1,c.2.2)) λi=>.jT i
def Ky:=mkp5 func417 Kz
def JR (a:Int):T Bool:=.kh (a>=0) (.jT (qu (a<=1048576))) (.jT E)
def JQ:=mkp1 func472 JR
def yt (a:af):T Int:=.cc (eU a) λb=>.br (!b) (.jT 0) (.cc (dY (G qs (a.Lo+a.Hi)) 1) λc=>.jT c)
def re:=mkp1 func422 yt
def pZ (c:By):T Br:=let j:=(C c:Int);.cc (gS c) λp=>.br (!p) (.jT nl) (.vg 3002 3 cr 70 j (0,0,0) 24<|.vn (λ(a:Bt)=>([(16,pz a.2)],[(384,vO a.1 70)])) [3,14,15] [] 0 (λ(a:Br)=>([],[(384,vO a 70)])) [3] [] (λa=>let d:=a.2;let b:=d.toNat;let k:=F c b qt;let e:=F a.1 b qt;.kh (a.2<j) (.vd a.2 c<|.unroll 4<|.jR<|.jG<|.cc (re (k.1)) λl=>let f:=a.1.set b (l,e.2.1,e.2.2);let g:=F f b qt;
 .vd a.2 a.1<|.jG<|.vl 10007 a.1 70 d (l,e.2.1,e.2.2)<|.lit 11000 1<|.jR<|.jH<|.cc (re (k.2.1)) λm=>let h:=f.set b (g.1,m,g.2.2);let i:=F h b qt;
 .vd a.2 f<|.jH<|.vl 10007 f 70 d (g.1,m,g.2.2)<|.lit 11000 2<|.jR<|.jI<|.cc (re (k.2.2)) λo=>.vd a.2 h<|.jI<|.vl 10007 h 70 d (i.1,i.2.1,o)<|.lit 11000 3<|.jS<|.nn ((h.set b (i.1,i.2.1,o)),(G qs (a.2+1)))) (.oo a.1)) ((qr j.toNat ((0,0,0):Bq)),0) λa=>.jT a)
def gR:=mkp1 func362 pZ
def rJ (d:Br):T Bq:=
 let c:=qs.wrap;.vn (λ(a:C9)=>([(9,pz a.2.2.2)],[(64,.box [pz a.1,pz a.2.1,pz a.2.2.1])])) [2,3,7,8] [0] 0 (λ(a:Bq)=>([],[(64,.box [pz a.1,pz a.2.1,pz a.2.2])])) [2,3] [0] (λa=>let b:=a.2.2;let e:=F d (X3 b.2) qt;.kh (b.2<(C d:Int)) (.vd b.2 d<|.unroll 4<|.jR<|.jG<|.jG<|.jG<|.lit 9000 1<|.jR<|.jH<|.jH<|.jH<|.lit 9000 2<|.jR<|.jI<|.jI<|.jI<|.lit 9000 3<|.jS<|.nn ((c (a.1+(e.1))),(c (a.2.1+(e.2.1))),(c (b.1+(e.2.2))),(c (b.2+1)))) (.oo (a.1,a.2.1,b.1))) (0,0,0,0) λa=>.jT (a.1,a.2.1,a.2.2)
def vX:=mkp1 func511 rJ
def pT (b:Bq):T Bw:=.vn (λ(a:Bq)=>([],[(0,.box [pz a.1,pz a.2.1,pz a.2.2])])) [1,2] [64] 0 (λ(a:Bq)=>([],[(0,.box [pz a.1,pz a.2.1,pz a.2.2])])) [1,2] [64] (λa=>.cc (nr (a.1,a.2.1,a.2.2)) λc=>.br (!c) (.unroll 4<|.jR<|.jG<|.ok ((2:Int)≠0) jU<|.jG<|.lit 6000 1<|.jR<|.jH<|.ok ((2:Int)≠0) jU<|.jH<|.lit 6000 2<|.jR<|.jI<|.ok ((2:Int)≠0) jU<|.jI<|.lit 6000 3<|.jS<|.nn ((G qs (a.1.tdiv 2)),(G qs (a.2.1.tdiv 2)),(G qs (a.2.2.tdiv 2)))) (.oo (a.1,a.2.1,a.2.2))) (b.1,b.2.1,b.2.2) λa=>.jT ((a.1,a.2.1,a.2.2),(!((a.1==0)&&((a.2.1==0)&&((a.2.2==0)&&D)))))
def uW:=mkq1 func481 pT (λr=>.tup [q r.1,q r.2])
def rh (b c:By):T Bw:=let a:=qs.wrap;let d:=(C c:Int);let e:=(C b:Int);.cub 3 18 [0,1,4,5] [0,64] (.cc (gS b) λf=>.ki (!f) (.cc (gS c) λg=>.oo (!g))) λf=>.br f (.jT ((0,0,0),E)) (.cc (gR b) λg=>.cc (vX g) λh=>.cc (gR c) λk=>.cc (vX k) λi=>.unroll 4<|.jR<|.jG<|.jG<|.name 9013 ((a ((a (h.1 * d))- (a (i.1 * e))))) λl=>.jG<|.lit 10000 1<|.jR<|.jH<|.jH<|.name 9013 ((a ((a (h.2.1 * d))- (a (i.2.1 * e))))) λm=>.jH<|.lit 10000 2<|.jR<|.jI<|.jI<|.name 9013 ((a ((a (h.2.2 * d))- (a (i.2.2 * e))))) λo=>.jI<|.lit 10000 3<|.jS<|.cc (uW (l,m,o)) λj=>.jT (j.1,j.2))
def vE a b:=mkC [⟨510,agi⟩] hd func474 jY (rh a b) 0 [q a,q b] [] (λr=>.tup [q r.1,q r.2]) X6 jY
def aa8:T Br:=.conv 1006 (kL ([(1,0,0),((-1),0,0),(0,1,0),(0,(-1),0),(0,0,1),(0,0,(-1))]:Br) 70)<|.jT ([(1,0,0),((-1),0,0),(0,1,0),(0,(-1),0),(0,0,1),(0,0,(-1))]:Br)
def yD:aC Br:=mkD func475 (aa8) 0 [] [] q X6
def pN (c:Br):T Bool:=let d:=(C c:Int);.cub 2 14 [0] [] (.kl (d<1) (.oo (qu (d>8)))) λg=>.br g (.jT E) (.loop (ik 17 [15,16] []) (.exit 0) (jk [] []) (λa=>let e:=F c (a.toNat) qt;.kh (a<d) (.vd a c<|.loop (ik 22 [15,16,17,21] []) (.exit 2) (jk [15,16,17] []) (λb=>.kh (b<3) (.gh b 3<|.name 8000 ((F ([e.1,e.2.1,e.2.2]:A7) b.toNat 0)) λf=>.cub 0 30 [15,16,17,21,22] [] (.kl (f<(-268435456)) (.oo (qu (f>268435456)))) λh=>.br h (.ff (.fin E)) (.nn (G qs (b+1)))) (.oo .u))
 0 [] λ_=>.nn (G qs (a+1))) (.oo .u))
 0 [] λ_=>.jT D)
def uS:=mkp1 func418 pN
def pI (b:Br):T (Br×A7):=let c:=(C b:Int);let a:=qr c.toNat (0:Int);.vg 1002 1 bE 2 c 0 8<|.vd (0:Int) a<|.vl 2002 a 2 (0:Int) 65536<|.jT (b,(a.set (X3 (0:Int)) 65536))
def uN:=mkv1 func419 pI (λr=>.agg [q r.1,.vec 0]) (λr=>[(0,vO r.2 2)])
def oc (e:Br)(d:A7):T Bq:=
 let c:=qs.wrap;.vn (λ(a:C9)=>([(11,pz a.2.2.2)],[(129,.box [pz a.1,pz a.2.1,pz a.2.2.1])])) [1,2,3,9,10] [0,1,65] 0 (λ(a:Bq)=>([],[(129,.box [pz a.1,pz a.2.1,pz a.2.2])])) [2,3] [0,65] (λa=>let b:=a.2.2.2;let h:=(b).toNat;let f:=F e h qt;let g:=F d h qt;.kh (b<(C e:Int)) (.vd b e<|.unroll 4<|.jR<|.jG<|.name 7001 (f.1) λi=>.jG<|.vf b d<|.name 8010 ((c (a.1+(c (g * i))))) λj=>.jG<|.lit 9000 1<|.jR<|.jH<|.name 7001 (f.2.1) λk=>.jH<|.vf b d<|.name 8010 ((c (a.2.1+(c (g * k))))) λl=>.jH<|.lit 9000 2<|.jR<|.jI<|.name 7001 (f.2.2) λm=>.jI<|.vf b d<|.name 8010 ((c (a.2.2.1+(c (g * m))))) λo=>.jI<|.lit 9000 3<|.jS<|.nn (j,l,o,(c (b+1)))) (.oo (a.1,a.2.1,a.2.2.1))) (0,0,0,0) λa=>.jT (a.1,a.2.1,a.2.2)
def sO b a:=mkD func479 (oc b a) 1 [.agg [q b,.vec 0]] [(0,vO a 2)] q (λ_=>[(0,vO a 2)])
def ZH (a b:Bq):T Bq:=.jG<|.jG<|.jH<|.jH<|.jI<|.jI<|.jT ((G qs (a.1-b.1)),(G qs (a.2.1-b.2.1)),(G qs (a.2.2-b.2.2)))
def vj:=mkp2 func478 ZH
def pH (c:Bq)(d:Int):T Bool:=
 let b:=qs.wrap;.loop (λs (a:B9)=>pk s [1,9] [] [(5,pz a.1),(10,pz a.2)] []) (.exit 0) (ik 5 [1] []) (λa=>let e:=F ([c.1,c.2.1,c.2.2]:A7) (a.2).toNat 0;.kh (a.2<3) (.gh a.2 3<|.name 5003 ((max e (b (0-e)))) λg=>.cc (dS g 16) λf=>.nn ((b (a.1+(b (f * f)))),(b (a.2+1)))) (.oo a.1)) (0,0) [] λa=>.jT (qu (a<=(b (d * d))))
def Kx:=mkp2 func480 pH
def aaT (b c:Bq):T Int:=
 let a:=qs.wrap;.jG<|.jG<|.jH<|.jH<|.jI<|.jI<|.name 1016 ((a ((a ((a (b.1 * c.1))+(a (b.2.1 * c.2.1))))+(a (b.2.2 * c.2.2))))) λd=>.jT d
def l8:=mkp2 func513 aaT
def rW (d:Br)(_:A7)(e:Bq):T B9:=.vd (0:Int) d<|.cc (l8 e (F d (X3 (0:Int)) qt)) λg=>.vn (λ(a:Bq)=>([(6,pz a.1),(7,pz a.2.1),(22,pz a.2.2)],[])) [3,20,21] [0,65] 0 (λ(a:B9)=>([(6,pz a.1),(7,pz a.2)],[])) [] [0] (λa=>let c:=a.2.2;.kh (c<(C d:Int)) (.cut 0 (λs (b:B9)=>pk s [3,20,21,22] [0,65] [(6,pz b.1),(7,pz b.2)] []) (.vd c d<|.cc (l8 e (F d (X3 c) qt)) λb=>.kh (b<a.1) (.oo (b,c)) (.oo (a.1,a.2.1))) λb=>.nn (b.1,b.2,(G qs (c+1)))) (.oo (a.1,a.2.1))) (g,0,0) λa=>.jT (a.1,a.2)
def Dr b a c:=mkD func482 (rW b a c) 1 [.agg [q b,.vec 0],q c] [(0,vO a 2)] (λr=>.tup [pz r.1,pz r.2]) (λ_=>[(0,vO a 2)])
def pR (d:Br)(_:A7)(e:Bq):T B9:=.vd (0:Int) d<|.cc (l8 e (F d (X3 (0:Int)) qt)) λg=>.vn (λ(a:Bq)=>([(6,pz a.1),(7,pz a.2.1),(22,pz a.2.2)],[])) [3,20,21] [0,65] 0 (λ(a:B9)=>([(6,pz a.1),(7,pz a.2)],[])) [] [0] (λa=>let c:=a.2.2;.kh (c<(C d:Int)) (.cut 0 (λs (b:B9)=>pk s [3,20,21,22] [0,65] [(6,pz b.1),(7,pz b.2)] []) (.vd c d<|.cc (l8 e (F d (X3 c) qt)) λb=>.kh (b>a.1) (.oo (b,c)) (.oo (a.1,a.2.1))) λb=>.nn (b.1,b.2,(G qs (c+1)))) (.oo (a.1,a.2.1))) (g,0,0) λa=>.jT (a.1,a.2)
def Ls b a c:=mkD func483 (pR b a c) 1 [.agg [q b,.vec 0],q c] [(0,vO a 2)] (λr=>.tup [pz r.1,pz r.2]) (λ_=>[(0,vO a 2)])
def rg (b e:Bq):T Int:=.cc (vj b e) λa=>.cc (l8 b a) λc=>.cc (l8 a a) λf=>let d:=G qs (f.tdiv 256);
 .kh (c<=0) (.jT 0) (.ok ((256:Int)≠0) jU<|.grd ((max 1 d)≠0)<|.jT (min 256 (G qs (c.tdiv (max 1 d)))))
def yC:=mkp2 func485 rg
def rF (_:Br)(f:A7)(e l:Int):T A7:=let d:=qs.wrap;let g:=e.toNat;.vn (λ(a:Bo)=>([(6,pz a.2.1),(13,pz a.2.2)],[(0,vO a.1 2)])) [1,2,3,11,12] [1] 0 (λ(a:Ak)=>([(6,pz a.2)],[(0,vO a.1 2)])) [1,3] [1] (λa=>let b:=a.2.2;let c:=(b).toNat;let h:=F a.1 c qt;let i:=G qs ((d (h * l)).tdiv 256);.kh (b<(C f:Int)) (.vf b a.1<|.ok ((256:Int)≠0) jU<|.vf b a.1<|.name 6006 ((d (h-i))) λj=>.vd b a.1<|.vl 6008 a.1 2 b j<|.name 7002 ((d (a.2.1+i))) λm=>.nn ((a.1.set c j),m,(d (b+1)))) (.oo (a.1,a.2.1))) (f,0,0) λa=>let c:=G qs ((F a.1 g qt)+a.2);
 .vf e a.1<|.vd e a.1<|.vl 9008 a.1 2 e c<|.jT (a.1.set g c)
def vT a b c d:=mkD func486 (rF a b c d) 1 [.agg [q a,.vec 0],pz c,pz d] [(0,vO b 2)] (λ_=>.tup []) (λr=>[(0,vO r 2)])
end Go.Abs
