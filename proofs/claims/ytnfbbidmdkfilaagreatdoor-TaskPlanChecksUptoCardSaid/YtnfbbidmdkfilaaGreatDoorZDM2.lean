import Derived.Test.YtnfbbidmdkfilaaGreatDoorZDM1
open Decidable renaming decide->qv
open Go.IntKind renaming i64->qt
open Inhabited renaming default->qu
open List renaming replicate->qs
open Int renaming toNat->X3
noncomputable section
namespace Go.Abs
open Go.Proofs.Tryz
set_option maxHeartbeats 8000000
set_option maxRecDepth 20000
open Go.Proofs
def ozf (j:bz7):T Ce:=
 .jn (j.R.1.1.Lo,j.R.1.1.Hi,j.R.1.2.1.Lo,j.R.1.2.1.Hi,j.R.1.2.2.Lo,j.R.1.2.2.Hi,j.R.2.1.1.Lo,j.R.2.1.1.Hi,j.R.2.1.2.1.Lo,j.R.2.1.2.1.Hi,j.R.2.1.2.2.Lo,j.R.2.1.2.2.Hi,j.R.2.2.1.Lo,j.R.2.2.1.Hi,j.R.2.2.2.1.Lo,j.R.2.2.2.1.Hi,j.R.2.2.2.2.Lo,j.R.2.2.2.2.Hi,j.T.1.Lo,j.T.1.Hi,j.T.2.1.Lo,j.T.2.1.Hi,j.T.2.2.Lo,j.T.2.2.Hi)
def uzq:=
 mkv1 func152 ozf (λ_=>.func 215 [] [X7 0]) (λr=>[(0,.box [pz r.1,pz r.2.1,pz r.2.2.1,pz r.2.2.2.1,pz r.2.2.2.2.1,pz r.2.2.2.2.2.1,pz r.2.2.2.2.2.2.1,pz r.2.2.2.2.2.2.2.1,pz r.2.2.2.2.2.2.2.2.1,pz r.2.2.2.2.2.2.2.2.2.1,pz r.2.2.2.2.2.2.2.2.2.2.1,pz r.2.2.2.2.2.2.2.2.2.2.2.1,pz r.2.2.2.2.2.2.2.2.2.2.2.2.1,pz r.2.2.2.2.2.2.2.2.2.2.2.2.2.1,pz r.2.2.2.2.2.2.2.2.2.2.2.2.2.2.1,pz r.2.2.2.2.2.2.2.2.2.2.2.2.2.2.2.1,pz r.2.2.2.2.2.2.2.2.2.2.2.2.2.2.2.2.1,pz r.2.2.2.2.2.2.2.2.2.2.2.2.2.2.2.2.2.1,pz r.2.2.2.2.2.2.2.2.2.2.2.2.2.2.2.2.2.2.1,pz r.2.2.2.2.2.2.2.2.2.2.2.2.2.2.2.2.2.2.2.1,pz r.2.2.2.2.2.2.2.2.2.2.2.2.2.2.2.2.2.2.2.2.1,pz r.2.2.2.2.2.2.2.2.2.2.2.2.2.2.2.2.2.2.2.2.2.1,pz r.2.2.2.2.2.2.2.2.2.2.2.2.2.2.2.2.2.2.2.2.2.2.1,pz r.2.2.2.2.2.2.2.2.2.2.2.2.2.2.2.2.2.2.2.2.2.2.2])])
def pz6 (j:az0)(aa:az0):T Bool:=
 .cc (bzw j) λab=>.br ab (.cc (bzw aa) λac=>.jn ac) (.jn false)
def jzl:=
 mkp2 func313 pz6
def mzp (j:Int)(aa:Int):T Int:=
 .jC (aa<0) (.jn j) (.grd (0<=aa)<|.jn (j.fdiv (2 ^ (min aa.toNat 64))))
def bz9:=
 mkp2 func365 mzp
def rzx (j:Int)(aa:Int):T Int:=let ab:=min aa.toNat 64;let ac:=j.fdiv (2 ^ ab);.jC (aa<0) (.jn j) (.grd (0<=aa)<|.cut 0 (λs (ad:Int)=>pk s [] [] [(5,pz ad)] []) (.grd (0<=aa)<|.br ((qt.wrap (ac * 2 ^ ab)) !=j) (.oo (qt.wrap (ac+1))) (.oo ac)) λad=>.jn ad)
def bzj:=
 mkp2 func366 rzx
def mzr (j:Int)(aa:Int):T az0:=
 .cc (bz9 j 16) λab=>.cc (bzj aa 16) λac=>.cc (hzn ab ac) λad=>.jn ad
def xzy:=
 mkp2 func314 mzr
def vzt (j:az0)(aa:az0):T az0:=let ab:=qt.wrap (j.Lo * aa.Lo);.cc (jzl (⟨j.Lo,j.Hi⟩:az0) (⟨aa.Lo,aa.Hi⟩:az0)) λac=>.br (!ac) (.jn (⟨0,0⟩:az0)) (.ix 0 4 rfl<|.ix 0 4 rfl<|.loop (λs (ad:Bh)=>pk s [4,40] [128] [(6,pz ad.1),(7,pz ad.2.1),(41,pz ad.2.2)] []) (.exit 0) (λs (ad:B2)=>pk s [4] [128] [(6,pz ad.1),(7,pz ad.2)] []) (λad=>.jC (ad.2.2<4) (.gh ad.2.2 4<|.name 7000 ((([ab,(qt.wrap (j.Lo * aa.Hi)),(qt.wrap (j.Hi * aa.Lo)),(qt.wrap (j.Hi * aa.Hi))]:List Int).getD (ad.2.2).toNat 0)) λae=>.nn ((min ad.1 ae),(max ad.2.1 ae),(qt.wrap (ad.2.2+1)))) (.oo (ad.1,ad.2.1))) (ab,ab,0) [] λad=>.cc (xzy ad.1 ad.2) λae=>.jn ae)
def azr:=
 mkp2 func268 vzt
def vzq (j:az0)(aa:az0):T az0:=
 .cc (jzl j aa) λab=>.br (!ab) (.jn (⟨0,0⟩:az0)) (.cc (hzn (qt.wrap (j.Lo+aa.Lo)) (qt.wrap (j.Hi+aa.Hi))) λac=>.jn ac)
def azn:=
 mkp2 func267 vzq
def pza (j:Int):T Int:=
 .jn (min (max j (-65536)) 65536)
def bz5:=
 mkp1 func312 pza
def pz9 (j:Bp)(aa:Bp):T Bp:=
 .unroll 4<|.ji<|.unroll 4<|.ji<|.unroll 4<|.ji<|.z7<|.z7<|.z7<|.z7<|.cc (azr j.1.1 aa.1.1) λab=>.cc (azn (⟨0,0⟩:az0) ab) λac=>.lit 13000 1<|.ji<|.z7<|.z8<|.z8<|.z7<|.cc (azr j.1.2.1 aa.2.1.1) λad=>.cc (azn ac ad) λae=>.lit 13000 2<|.ji<|.z7<|.z9<|.z9<|.z7<|.cc (azr j.1.2.2 aa.2.2.1) λaf=>.cc (azn ae af) λag=>.lit 13000 3<|.jm<|.cc (bz5 ag.Lo) λah=>.cc (bz5 ag.Hi) λai=>.z7<|.z7<|.lit 15000 1<|.ji<|.unroll 4<|.ji<|.z7<|.z7<|.z7<|.z8<|.cc (azr j.1.1 aa.1.2.1) λaj=>.cc (azn (⟨0,0⟩:az0) aj) λak=>.lit 13000 1<|.ji<|.z7<|.z8<|.z8<|.z8<|.cc (azr j.1.2.1 aa.2.1.2.1) λal=>.cc (azn ak al) λam=>.lit 13000 2<|.ji<|.z7<|.z9<|.z9<|.z8<|.cc (azr j.1.2.2 aa.2.2.2.1) λan=>.cc (azn am an) λao=>.lit 13000 3<|.jm<|.cc (bz5 ao.Lo) λap=>.cc (bz5 ao.Hi) λaq=>.z7<|.z8<|.lit 15000 2<|.ji<|.unroll 4<|.ji<|.z7<|.z7<|.z7<|.z9<|.cc (azr j.1.1 aa.1.2.2) λar=>.cc (azn (⟨0,0⟩:az0) ar) λau=>.lit 13000 1<|.ji<|.z7<|.z8<|.z8<|.z9<|.cc (azr j.1.2.1 aa.2.1.2.2) λav=>.cc (azn au av) λaw=>.lit 13000 2<|.ji<|.z7<|.z9<|.z9<|.z9<|.cc (azr j.1.2.2 aa.2.2.2.2) λax=>.cc (azn aw ax) λay=>.lit 13000 3<|.jm<|.cc (bz5 ay.Lo) λaz=>.cc (bz5 ay.Hi) λa0=>.z7<|.z9<|.lit 15000 3<|.jm<|.lit 16000 1<|.ji<|.unroll 4<|.ji<|.unroll 4<|.ji<|.z8<|.z7<|.z7<|.z7<|.cc (azr j.2.1.1 aa.1.1) λa1=>.cc (azn (⟨0,0⟩:az0) a1) λa2=>.lit 13000 1<|.ji<|.z8<|.z8<|.z8<|.z7<|.cc (azr j.2.1.2.1 aa.2.1.1) λa3=>.cc (azn a2 a3) λa4=>.lit 13000 2<|.ji<|.z8<|.z9<|.z9<|.z7<|.cc (azr j.2.1.2.2 aa.2.2.1) λa5=>.cc (azn a4 a5) λa6=>.lit 13000 3<|.jm<|.cc (bz5 a6.Lo) λa7=>.cc (bz5 a6.Hi) λa8=>.z8<|.z7<|.lit 15000 1<|.ji<|.unroll 4<|.ji<|.z8<|.z7<|.z7<|.z8<|.cc (azr j.2.1.1 aa.1.2.1) λa9=>.cc (azn (⟨0,0⟩:az0) a9) λba=>.lit 13000 1<|.ji<|.z8<|.z8<|.z8<|.z8<|.cc (azr j.2.1.2.1 aa.2.1.2.1) λbb=>.cc (azn ba bb) λbc=>.lit 13000 2<|.ji<|.z8<|.z9<|.z9<|.z8<|.cc (azr j.2.1.2.2 aa.2.2.2.1) λbd=>.cc (azn bc bd) λbe=>.lit 13000 3<|.jm<|.cc (bz5 be.Lo) λbf=>.cc (bz5 be.Hi) λbg=>.z8<|.z8<|.lit 15000 2<|.ji<|.unroll 4<|.ji<|.z8<|.z7<|.z7<|.z9<|.cc (azr j.2.1.1 aa.1.2.2) λbh=>.cc (azn (⟨0,0⟩:az0) bh) λbi=>.lit 13000 1<|.ji<|.z8<|.z8<|.z8<|.z9<|.cc (azr j.2.1.2.1 aa.2.1.2.2) λbj=>.cc (azn bi bj) λbk=>.lit 13000 2<|.ji<|.z8<|.z9<|.z9<|.z9<|.cc (azr j.2.1.2.2 aa.2.2.2.2) λbl=>.cc (azn bk bl) λbm=>.lit 13000 3<|.jm<|.cc (bz5 bm.Lo) λbn=>.cc (bz5 bm.Hi) λbp=>.z8<|.z9<|.lit 15000 3<|.jm<|.lit 16000 2<|.ji<|.unroll 4<|.ji<|.unroll 4<|.ji<|.z9<|.z7<|.z7<|.z7<|.cc (azr j.2.2.1 aa.1.1) λbq=>.cc (azn (⟨0,0⟩:az0) bq) λbs=>.lit 13000 1<|.ji<|.z9<|.z8<|.z8<|.z7<|.cc (azr j.2.2.2.1 aa.2.1.1) λbt=>.cc (azn bs bt) λbu=>.lit 13000 2<|.ji<|.z9<|.z9<|.z9<|.z7<|.cc (azr j.2.2.2.2 aa.2.2.1) λbv=>.cc (azn bu bv) λbw=>.lit 13000 3<|.jm<|.cc (bz5 bw.Lo) λbx=>.cc (bz5 bw.Hi) λbz=>.z9<|.z7<|.lit 15000 1<|.ji<|.unroll 4<|.ji<|.z9<|.z7<|.z7<|.z8<|.cc (azr j.2.2.1 aa.1.2.1) λb7=>.cc (azn (⟨0,0⟩:az0) b7) λb8=>.lit 13000 1<|.ji<|.z9<|.z8<|.z8<|.z8<|.cc (azr j.2.2.2.1 aa.2.1.2.1) λb9=>.cc (azn b8 b9) λca=>.lit 13000 2<|.ji<|.z9<|.z9<|.z9<|.z8<|.cc (azr j.2.2.2.2 aa.2.2.2.1) λcb=>.cc (azn ca cb) λcc=>.lit 13000 3<|.jm<|.cc (bz5 cc.Lo) λcd=>.cc (bz5 cc.Hi) λce=>.z9<|.z8<|.lit 15000 2<|.ji<|.unroll 4<|.ji<|.z9<|.z7<|.z7<|.z9<|.cc (azr j.2.2.1 aa.1.2.2) λcf=>.cc (azn (⟨0,0⟩:az0) cf) λcg=>.lit 13000 1<|.ji<|.z9<|.z8<|.z8<|.z9<|.cc (azr j.2.2.2.1 aa.2.1.2.2) λch=>.cc (azn cg ch) λci=>.lit 13000 2<|.ji<|.z9<|.z9<|.z9<|.z9<|.cc (azr j.2.2.2.2 aa.2.2.2.2) λcj=>.cc (azn ci cj) λck=>.lit 13000 3<|.jm<|.cc (bz5 ck.Lo) λcl=>.cc (bz5 ck.Hi) λcm=>.z9<|.z9<|.lit 15000 3<|.jm<|.lit 16000 3<|.jm<|.jn (((⟨ah,ai⟩:az0),(⟨ap,aq⟩:az0),(⟨az,a0⟩:az0)),((⟨a7,a8⟩:az0),(⟨bf,bg⟩:az0),(⟨bn,bp⟩:az0)),((⟨bx,bz⟩:az0),(⟨cd,ce⟩:az0),(⟨cl,cm⟩:az0)))
def Cz3:=
 mkp2 func264 pz9
def vzw (j:Bp)(aa:Bm):T Bm:=
 .unroll 4<|.ji<|.unroll 4<|.ji<|.z7<|.z7<|.z7<|.z7<|.cc (azr j.1.1 aa.1) λab=>.cc (azn (⟨0,0⟩:az0) ab) λac=>.z7<|.lit 9000 1<|.ji<|.z7<|.z7<|.z8<|.z8<|.cc (azr j.1.2.1 aa.2.1) λad=>.cc (azn ac ad) λae=>.z7<|.lit 9000 2<|.ji<|.z7<|.z7<|.z9<|.z9<|.cc (azr j.1.2.2 aa.2.2) λaf=>.cc (azn ae af) λag=>.z7<|.lit 9000 3<|.jm<|.lit 10000 1<|.ji<|.unroll 4<|.ji<|.z8<|.z8<|.z7<|.z7<|.cc (azr j.2.1.1 aa.1) λah=>.cc (azn (⟨0,0⟩:az0) ah) λai=>.z8<|.lit 9000 1<|.ji<|.z8<|.z8<|.z8<|.z8<|.cc (azr j.2.1.2.1 aa.2.1) λaj=>.cc (azn ai aj) λak=>.z8<|.lit 9000 2<|.ji<|.z8<|.z8<|.z9<|.z9<|.cc (azr j.2.1.2.2 aa.2.2) λal=>.cc (azn ak al) λam=>.z8<|.lit 9000 3<|.jm<|.lit 10000 2<|.ji<|.unroll 4<|.ji<|.z9<|.z9<|.z7<|.z7<|.cc (azr j.2.2.1 aa.1) λan=>.cc (azn (⟨0,0⟩:az0) an) λao=>.z9<|.lit 9000 1<|.ji<|.z9<|.z9<|.z8<|.z8<|.cc (azr j.2.2.2.1 aa.2.1) λap=>.cc (azn ao ap) λaq=>.z9<|.lit 9000 2<|.ji<|.z9<|.z9<|.z9<|.z9<|.cc (azr j.2.2.2.2 aa.2.2) λar=>.cc (azn aq ar) λau=>.z9<|.lit 9000 3<|.jm<|.lit 10000 3<|.jm<|.jn (ag,am,au)
def Hz5:=
 mkp2 func217 vzw
def Dzu (j:Bm)(aa:Bm):T Bm:=
 .unroll 4<|.ji<|.z7<|.z7<|.cc (azn j.1 aa.1) λab=>.z7<|.lit 6000 1<|.ji<|.z8<|.z8<|.cc (azn j.2.1 aa.2.1) λac=>.z8<|.lit 6000 2<|.ji<|.z9<|.z9<|.cc (azn j.2.2 aa.2.2) λad=>.z9<|.lit 6000 3<|.jm<|.jn (ab,ac,ad)
def Ozb:=
 mkp2 func216 Dzu
def jz7 (j:Bm)(aa:Int)(ab:Int)(ac:Int)(ad:Int)(ae:Int)(af:Int)(ag:Int)(ah:Int)(ai:Int)(aj:Int)(ak:Int)(al:Int)(am:Int)(an:Int)(ao:Int)(ap:Int)(aq:Int)(ar:Int)(au:Int)(av:Int)(aw:Int)(ax:Int)(ay:Int)(az:Int):T (Bm×Int×Int×Int×Int×Int×Int×Int×Int×Int×Int×Int×Int×Int×Int×Int×Int×Int×Int×Int×Int×Int×Int×Int×Int):=
 .cc (Hz5 (((⟨aa,ab⟩:az0),(⟨ac,ad⟩:az0),(⟨ae,af⟩:az0)),((⟨ag,ah⟩:az0),(⟨ai,aj⟩:az0),(⟨ak,al⟩:az0)),((⟨am,an⟩:az0),(⟨ao,ap⟩:az0),(⟨aq,ar⟩:az0))) ((⟨j.1.Lo,j.1.Hi⟩:az0),(⟨j.2.1.Lo,j.2.1.Hi⟩:az0),(⟨j.2.2.Lo,j.2.2.Hi⟩:az0))) λa0=>.cc (Ozb ((⟨au,av⟩:az0),(⟨aw,ax⟩:az0),(⟨ay,az⟩:az0)) a0) λa1=>.jn (a1,aa,ab,ac,ad,ae,af,ag,ah,ai,aj,ak,al,am,an,ao,ap,aq,ar,au,av,aw,ax,ay,az)
def oz1 (j)(aa)(ab)(ac)(ad)(ae)(af)(ag)(ah)(ai)(aj)(ak)(al)(am)(an)(ao)(ap)(aq)(ar)(au)(av)(aw)(ax)(ay)(az):=
 mkD func215 (jz7 j aa ab ac ad ae af ag ah ai aj ak al am an ao ap aq ar au av aw ax ay az) 1 [q j,X7 0] [(0,.box [pz aa,pz ab,pz ac,pz ad,pz ae,pz af,pz ag,pz ah,pz ai,pz aj,pz ak,pz al,pz am,pz an,pz ao,pz ap,pz aq,pz ar,pz au,pz av,pz aw,pz ax,pz ay,pz az])] (λr=>q r.1) (λr=>[(0,.box [pz r.2.1,pz r.2.2.1,pz r.2.2.2.1,pz r.2.2.2.2.1,pz r.2.2.2.2.2.1,pz r.2.2.2.2.2.2.1,pz r.2.2.2.2.2.2.2.1,pz r.2.2.2.2.2.2.2.2.1,pz r.2.2.2.2.2.2.2.2.2.1,pz r.2.2.2.2.2.2.2.2.2.2.1,pz r.2.2.2.2.2.2.2.2.2.2.2.1,pz r.2.2.2.2.2.2.2.2.2.2.2.2.1,pz r.2.2.2.2.2.2.2.2.2.2.2.2.2.1,pz r.2.2.2.2.2.2.2.2.2.2.2.2.2.2.1,pz r.2.2.2.2.2.2.2.2.2.2.2.2.2.2.2.1,pz r.2.2.2.2.2.2.2.2.2.2.2.2.2.2.2.2.1,pz r.2.2.2.2.2.2.2.2.2.2.2.2.2.2.2.2.2.1,pz r.2.2.2.2.2.2.2.2.2.2.2.2.2.2.2.2.2.2.1,pz r.2.2.2.2.2.2.2.2.2.2.2.2.2.2.2.2.2.2.2.1,pz r.2.2.2.2.2.2.2.2.2.2.2.2.2.2.2.2.2.2.2.2.1,pz r.2.2.2.2.2.2.2.2.2.2.2.2.2.2.2.2.2.2.2.2.2.1,pz r.2.2.2.2.2.2.2.2.2.2.2.2.2.2.2.2.2.2.2.2.2.2.1,pz r.2.2.2.2.2.2.2.2.2.2.2.2.2.2.2.2.2.2.2.2.2.2.2.1,pz r.2.2.2.2.2.2.2.2.2.2.2.2.2.2.2.2.2.2.2.2.2.2.2.2])])
def vzz (j:bz7)(aa:bz7):T bz7:=
 .cc (uzq j) λab=>.cc (Cz3 j.R aa.R) λac=>.call (oz1 aa.T ab.1 ab.2.1 ab.2.2.1 ab.2.2.2.1 ab.2.2.2.2.1 ab.2.2.2.2.2.1 ab.2.2.2.2.2.2.1 ab.2.2.2.2.2.2.2.1 ab.2.2.2.2.2.2.2.2.1 ab.2.2.2.2.2.2.2.2.2.1 ab.2.2.2.2.2.2.2.2.2.2.1 ab.2.2.2.2.2.2.2.2.2.2.2.1 ab.2.2.2.2.2.2.2.2.2.2.2.2.1 ab.2.2.2.2.2.2.2.2.2.2.2.2.2.1 ab.2.2.2.2.2.2.2.2.2.2.2.2.2.2.1 ab.2.2.2.2.2.2.2.2.2.2.2.2.2.2.2.1 ab.2.2.2.2.2.2.2.2.2.2.2.2.2.2.2.2.1 ab.2.2.2.2.2.2.2.2.2.2.2.2.2.2.2.2.2.1 ab.2.2.2.2.2.2.2.2.2.2.2.2.2.2.2.2.2.2.1 ab.2.2.2.2.2.2.2.2.2.2.2.2.2.2.2.2.2.2.2.1 ab.2.2.2.2.2.2.2.2.2.2.2.2.2.2.2.2.2.2.2.2.1 ab.2.2.2.2.2.2.2.2.2.2.2.2.2.2.2.2.2.2.2.2.2.1 ab.2.2.2.2.2.2.2.2.2.2.2.2.2.2.2.2.2.2.2.2.2.2.1 ab.2.2.2.2.2.2.2.2.2.2.2.2.2.2.2.2.2.2.2.2.2.2.2) [(0,256)] λad=>.jn (⟨(ac.1,ac.2.1,ac.2.2),ad.1⟩:bz7)
def jz6:=
 mkp2 func211 vzz
def Czt (j:Int)(aa:az0):T bz7:=
 .cut 2 (λs (ab:C3)=>pk s [4,5] [64] [] [(128,.box [pz ab.1,pz ab.2.1,pz ab.2.2.1,pz ab.2.2.2.1,pz ab.2.2.2.2.1,pz ab.2.2.2.2.2])]) (.cas 2000 j 0 (.z7<|.oo (aa.Lo,aa.Hi,0,0,0,0)) (.cas 2000 j 1 (.z8<|.oo (0,0,aa.Lo,aa.Hi,0,0)) (.cas 2000 j 2 (.z9<|.oo (0,0,0,0,aa.Lo,aa.Hi)) (.stop)))) λab=>.cc (uzp ((⟨ab.1,ab.2.1⟩:az0),(⟨ab.2.2.1,ab.2.2.2.1⟩:az0),(⟨ab.2.2.2.2.1,ab.2.2.2.2.2⟩:az0))) λac=>.jn ac
def Nzy:=
 mkp2 func310 Czt
def pz5 (j:az0):T Int:=
 .cc (bzw j) λaa=>.br (!aa) (.jn 0) (.jn (qt.wrap (j.Hi-j.Lo)))
def pz4:=
 mkp1 func518 pz5
def rzm (j:Int):T Int:=
 .jn (qt.wrap (((BitVec.ofInt 64 j&&&BitVec.ofInt 64 65535).toNat:Int)))
def kzr:=
 mkp1 func521 rzm
def ozv (j:Int):T (Cc×Cc):=
 .ix 0 11 rfl<|.ix 0 11 rfl<|.cc (bz9 (qt.wrap (j * 6746518852)) 16) λaa=>.ja<|.cc (bzj (qt.wrap (j * 6746518853)) 16) λab=>.ja<|.unroll 10<|.ji<|.lit 8002 1<|.ja<|.ja<|.cc (bz9 (qt.wrap (aa * aa)) 30) λac=>.jb<|.lit 9002 1<|.ja<|.ja<|.cc (bzj (qt.wrap (ab * ab)) 30) λad=>.jb<|.lit 7001 3<|.ji<|.lit 8002 2<|.jb<|.ja<|.cc (bz9 (qt.wrap (ac * aa)) 30) λae=>.jc<|.lit 9002 2<|.jb<|.ja<|.cc (bzj (qt.wrap (ad * ab)) 30) λaf=>.jc<|.lit 7001 4<|.ji<|.lit 8002 3<|.jc<|.ja<|.cc (bz9 (qt.wrap (ae * aa)) 30) λag=>.jd<|.lit 9002 3<|.jc<|.ja<|.cc (bzj (qt.wrap (af * ab)) 30) λah=>.jd<|.lit 7001 5<|.ji<|.lit 8002 4<|.jd<|.ja<|.cc (bz9 (qt.wrap (ag * aa)) 30) λai=>.je<|.lit 9002 4<|.jd<|.ja<|.cc (bzj (qt.wrap (ah * ab)) 30) λaj=>.je<|.lit 7001 6<|.ji<|.lit 8002 5<|.je<|.ja<|.cc (bz9 (qt.wrap (ai * aa)) 30) λak=>.jf<|.lit 9002 5<|.je<|.ja<|.cc (bzj (qt.wrap (aj * ab)) 30) λal=>.jf<|.lit 7001 7<|.ji<|.lit 8002 6<|.jf<|.ja<|.cc (bz9 (qt.wrap (ak * aa)) 30) λam=>.jg<|.lit 9002 6<|.jf<|.ja<|.cc (bzj (qt.wrap (al * ab)) 30) λan=>.jg<|.lit 7001 8<|.ji<|.lit 8002 7<|.jg<|.ja<|.cc (bz9 (qt.wrap (am * aa)) 30) λao=>.jh<|.lit 9002 7<|.jg<|.ja<|.cc (bzj (qt.wrap (an * ab)) 30) λap=>.jh<|.lit 7001 9<|.ji<|.lit 8002 8<|.jh<|.ja<|.cc (bz9 (qt.wrap (ao * aa)) 30) λaq=>.ix 9 11 rfl<|.lit 9002 8<|.jh<|.ja<|.cc (bzj (qt.wrap (ap * ab)) 30) λar=>.ix 9 11 rfl<|.lit 7001 10<|.ji<|.lit 8002 9<|.ix 9 11 rfl<|.ja<|.cc (bz9 (qt.wrap (aq * aa)) 30) λau=>.ix 10 11 rfl<|.lit 9002 9<|.ix 9 11 rfl<|.ja<|.cc (bzj (qt.wrap (ar * ab)) 30) λav=>.ix 10 11 rfl<|.lit 7001 11<|.jm<|.jn ((1073741824,aa,ac,ae,ag,ai,ak,am,ao,aq,au),(1073741824,ab,ad,af,ah,aj,al,an,ap,ar,av))
def ozu:=
 mkq1 func535 ozv (λr=>.tup [.pure (jzj r.1),.pure (jzj r.2)])
def rzl (j:Int)(aa:Int):T Int:=
 .grd (aa≠0)<|.jn (qt.wrap ((qt.wrap ((qt.wrap (j+aa))-1)).tdiv aa))
def dza:=
 mkp2 func537 rzl
def jzs (j:A4):T Int:=
 .loop (λs (aa:Bh)=>pk s [7,8] [] [(3,pz aa.1),(4,pz aa.2.1),(9,pz aa.2.2)] []) (.exit 0) (ik 3 [] []) (λaa=>.jC (aa.2.2<(j.length:Int)) (.gh aa.2.2 j.length<|.nn ((qt.wrap (aa.1+(qt.wrap (aa.2.1 * (j.getD (X3 aa.2.2) qu))))),(qt.wrap (0-aa.2.1)),(qt.wrap (aa.2.2+1)))) (.oo aa.1)) (0,1,0) [] λaa=>.jn aa
def czu:=
 mkp1 func536 jzs
def mzj (j:Int)(aa:Int):T az0:=
 .cc (bz9 j 14) λab=>.cc (bzj aa 14) λac=>.jn (⟨(max 0 ab),(min 65536 ac)⟩:az0)
def mzi:=
 mkp2 func538 mzj
def Czs (j:Int):T az0:=
 .cc (ozu j) λaa=>.ja<|.jc<|.cc (dza aa.2.2.2.2.1 6) λab=>.je<|.ok ((120:Int)≠0) jp<|.jg<|.cc (dza aa.2.2.2.2.2.2.2.2.1 5040) λac=>let ad:=([aa.1.2.1,ab,(qt.wrap (aa.1.2.2.2.2.2.1.tdiv 120)),ac]:A4);
 .conv 2011 (kL ad 2)<|.cc (czu ad) λae=>.ja<|.jc<|.ok ((6:Int)≠0) jp<|.je<|.cc (dza aa.2.2.2.2.2.2.1 120) λaf=>.jg<|.ok ((5040:Int)≠0) jp<|.ix 9 11 rfl<|.cc (dza aa.2.2.2.2.2.2.2.2.2.2.1 362880) λag=>let ah:=([aa.2.2.1,(qt.wrap (aa.1.2.2.2.1.tdiv 6)),af,(qt.wrap (aa.1.2.2.2.2.2.2.2.1.tdiv 5040)),ag]:A4);
 .conv 3014 (kL ah 2)<|.cc (czu ah) λai=>.cc (mzi ae ai) λaj=>.jn aj
def Nzx:=
 mkp1 func528 Czs
def vzd (j:Int):T az0:=
 .cc (ozu j) λaa=>.jb<|.cc (dza aa.2.2.2.1 2) λab=>.jd<|.ok ((24:Int)≠0) jp<|.jf<|.cc (dza aa.2.2.2.2.2.2.2.1 720) λac=>.jh<|.ok ((40320:Int)≠0) jp<|.ix 10 11 rfl<|.cc (dza aa.2.2.2.2.2.2.2.2.2.2.2 3628800) λad=>let ae:=([1073741824,ab,(qt.wrap (aa.1.2.2.2.2.1.tdiv 24)),ac,(qt.wrap (aa.1.2.2.2.2.2.2.2.2.1.tdiv 40320)),ad]:A4);
 .conv 2015 (kL ae 2)<|.cc (czu ae) λaf=>.jb<|.ok ((2:Int)≠0) jp<|.jd<|.cc (dza aa.2.2.2.2.2.1 24) λag=>.jf<|.ok ((720:Int)≠0) jp<|.jh<|.cc (dza aa.2.2.2.2.2.2.2.2.2.1 40320) λah=>let ai:=([1073741824,(qt.wrap (aa.1.2.2.1.tdiv 2)),ag,(qt.wrap (aa.1.2.2.2.2.2.2.1.tdiv 720)),ah]:A4);
 .conv 3012 (kL ai 2)<|.cc (czu ai) λaj=>.cc (mzi af aj) λak=>.jn ak
def Gzu:=
 mkp1 func529 vzd
def yzu (j:Int):T az0:=
 .jC (j<=8192) (.cc (Nzx j) λaa=>.jn aa) (.cc (Gzu (qt.wrap (16384-j))) λaa=>.jn aa)
def kzp:=
 mkp1 func522 yzu
def vzu (j:az0):T az0:=
 .cc (bzw j) λaa=>.br (!aa) (.jn (⟨0,0⟩:az0)) (.jn (⟨(qt.wrap (0-j.Hi)),(qt.wrap (0-j.Lo))⟩:az0))
def nzx:=
 mkp1 func479 vzu
def Hzx (j:Int):T az0:=
 .cc (kzr j) λaa=>let ab:=aa.tmod 16384;let ac:=qt.wrap (aa.tdiv 16384);let ad:=qt.wrap (16384-ab);
 .ok ((16384:Int)≠0) jp<|.ok ((16384:Int)≠0) jp<|.br (ac==0) (.cc (kzp ab) λae=>.jn ae) (.br (ac==1) (.cc (kzp ad) λae=>.jn ae) (.br (ac==2) (.cc (kzp ab) λae=>.cc (nzx ae) λaf=>.jn af) (.cc (kzp ad) λae=>.cc (nzx ae) λaf=>.jn af)))
def yzt:=
 mkp1 func509 Hzx
def Hzw (j:Int):T az0:=
 .cc (kzr j) λaa=>.cc (yzt (qt.wrap (aa+16384))) λab=>.jn ab
def Hzv:=
 mkp1 func508 Hzw
def sz3 (j:az0)(aa:az0):T az0:=
 .cc (jzl j aa) λab=>.br (!ab) (.jn (⟨0,0⟩:az0)) (.jn (⟨(min j.Lo aa.Lo),(max j.Hi aa.Hi)⟩:az0))
def fze:=
 mkp2 func519 sz3
def vzs (j:az0)(aa:Int):T Bool:=
 .cc (bzw j) λab=>.br ab (.jC (j.Lo<=aa) (.jn (qv (aa<=j.Hi))) (.jn false)) (.jn false)
def Hz0:=
 mkp2 func527 vzs
def yzv (j:az0)(aa:Int):T Bool:=
 .cc (kzr (qt.wrap (aa-j.Lo))) λab=>.cc (Hz0 j (qt.wrap (j.Lo+ab))) λac=>.jn ac
def kzq:=
 mkp2 func520 yzv
def Czr (j:az0)(aa:Int)(ab:Int):T az0:=
 .cc (bzw j) λac=>.br (!ac) (.jn (⟨0,0⟩:az0)) (.cc (pz4 j) λad=>.jC (ad>=65536) (.jn (⟨(-65536),65536⟩:az0)) (.cc (Hzv j.Lo) λae=>.cc (Hzv j.Hi) λaf=>.cc (fze ae af) λag=>.cut 0 (λs (ah:B2)=>pk s [3,4,8,9] [0,64] [] [(1088,.box [pz ah.1,pz ah.2])]) (.cc (kzq j aa) λah=>.br ah (.cc (czo 65536) λai=>.cc (fze ag ai) λaj=>.oo (aj.Lo,aj.Hi)) (.oo (ag.Lo,ag.Hi))) λah=>.cut 0 (λs (ai:B2)=>pk s [8,9] [64] [] [(1088,.box [pz ai.1,pz ai.2])]) (.cc (kzq j ab) λai=>.br ai (.cc (czo (-65536)) λaj=>.cc (fze (⟨ah.1,ah.2⟩:az0) aj) λak=>.oo (ak.Lo,ak.Hi)) (.oo (ah.1,ah.2))) λai=>.jn (⟨ai.1,ai.2⟩:az0)))
def Nzw (j)(aa)(ab):=
 mkD func507 (Czr j aa ab) 0 [q j,.func 508 [] [],pz aa,pz ab] [] (λr=>q r) X6
def rzj (j:az0):T az0:=
 .cc (Nzw j 0 32768) λaa=>.jn aa
def Czp:=
 mkp1 func477 rzj
def vze (j:az0)(aa:Int)(ab:Int):T az0:=
 .cc (bzw j) λac=>.br (!ac) (.jn (⟨0,0⟩:az0)) (.cc (pz4 j) λad=>.jC (ad>=65536) (.jn (⟨(-65536),65536⟩:az0)) (.cc (yzt j.Lo) λae=>.cc (yzt j.Hi) λaf=>.cc (fze ae af) λag=>.cut 0 (λs (ah:B2)=>pk s [3,4,8,9] [0,64] [] [(1088,.box [pz ah.1,pz ah.2])]) (.cc (kzq j aa) λah=>.br ah (.cc (czo 65536) λai=>.cc (fze ag ai) λaj=>.oo (aj.Lo,aj.Hi)) (.oo (ag.Lo,ag.Hi))) λah=>.cut 0 (λs (ai:B2)=>pk s [8,9] [64] [] [(1088,.box [pz ai.1,pz ai.2])]) (.cc (kzq j ab) λai=>.br ai (.cc (czo (-65536)) λaj=>.cc (fze (⟨ah.1,ah.2⟩:az0) aj) λak=>.oo (ak.Lo,ak.Hi)) (.oo (ah.1,ah.2))) λai=>.jn (⟨ai.1,ai.2⟩:az0)))
def Gzv (j)(aa)(ab):=
 mkD func507 (vze j aa ab) 0 [q j,.func 509 [] [],pz aa,pz ab] [] (λr=>q r) X6
def rzk (j:az0):T az0:=
 .cc (Gzv j 16384 49152) λaa=>.jn aa
def Czq:=
 mkp1 func478 rzk
def zzz (j:Int)(aa:az0):T Bp:=let ab:=(⟨aa.Lo,aa.Hi⟩:az0);.cc (bzw aa) λac=>.br (!ac) (.jn (((⟨0,0⟩:az0),(⟨0,0⟩:az0),(⟨0,0⟩:az0)),((⟨0,0⟩:az0),(⟨0,0⟩:az0),(⟨0,0⟩:az0)),((⟨0,0⟩:az0),(⟨0,0⟩:az0),(⟨0,0⟩:az0)))) (.cc (Czp ab) λad=>.cc (Czq ab) λae=>.cc (nzx ae) λaf=>.cc (czo 65536) λag=>.cc (czo 0) λah=>.br (j==0) (.jn ((ag,ah,ah),(ah,ad,af),(ah,ae,ad))) (.br (j==1) (.jn ((ad,ah,ae),(ah,ag,ah),(af,ah,ad))) (.br (j==2) (.jn ((ad,af,ah),(ae,ad,ah),(ah,ah,ag))) (.jn (((⟨0,0⟩:az0),(⟨0,0⟩:az0),(⟨0,0⟩:az0)),((⟨0,0⟩:az0),(⟨0,0⟩:az0),(⟨0,0⟩:az0)),((⟨0,0⟩:az0),(⟨0,0⟩:az0),(⟨0,0⟩:az0)))))))
def Kz9:=
 mkp2 func425 zzz
def Izk (j:Int)(aa:az0):T bz7:=
 .cc (Kz9 j (⟨aa.Lo,aa.Hi⟩:az0)) λab=>.cc (pose_still_C) λac=>.jn (⟨ab,ac⟩:bz7)
def Szt:=
 mkp2 func363 Izk
def Hzz (j:Int)(aa:az0):T bz7:=
 .cc (Szt j (⟨aa.Lo,aa.Hi⟩:az0)) λab=>.jn ab
def Rz0:=
 mkp2 func309 Hzz
def lz2 (j:azt)(aa:az0):T bz7:=
 .cc (jz5 j.XA) λab=>.cc (uzp ((⟨ab.1.Lo,ab.1.Hi⟩:az0),(⟨ab.2.1.Lo,ab.2.1.Hi⟩:az0),(⟨ab.2.2.Lo,ab.2.2.Hi⟩:az0))) λac=>let ad:=(⟨ac.R,ac.T⟩:bz7);
 .split (((gzh j.Xo).o).isSome) (.cc (gzh j.Xo) λae=>.cc (Rz0 ae (⟨aa.Lo,aa.Hi⟩:az0)) λaf=>.cc (jz6 ad af) λag=>.jn ag) (.split (((gzj j.Xo).o).isSome) (.cc (gzj j.Xo) λae=>.cc (Nzy ae aa) λaf=>.cc (jz6 ac af) λag=>.jn ag) (.cc (kz8 j.Xo) λae=>.cc (Qzz ae aa) λaf=>.cc (jz6 ad (⟨af.R,af.T⟩:bz7)) λag=>.jn ag))
def uzd:=
 mkp2 func210 lz2
def lz5 (j:azl)(aa:Ae):T Ag:=let ab:=(j.Xc.length:Int);.conv 1003 (Dz3 24 az6s 151 ab.toNat (⟨(((⟨0,0⟩:az0),(⟨0,0⟩:az0),(⟨0,0⟩:az0)),((⟨0,0⟩:az0),(⟨0,0⟩:az0),(⟨0,0⟩:az0)),((⟨0,0⟩:az0),(⟨0,0⟩:az0),(⟨0,0⟩:az0))),((⟨0,0⟩:az0),(⟨0,0⟩:az0),(⟨0,0⟩:az0))⟩:bz7))<|.grd (0<=ab/\ab<=ab/\ab<=9223372036854775807/\ab * 192<=140737488355328)<|.loop (λs (ac:(Ag×Int))=>pk s [1,5,13,14] [] [(15,pz ac.2)] [(320,vO ac.1 151)]) (.exit 0) (λs (ac:Ag)=>pk s [5] [] [] [(320,vO ac 151)]) (λac=>let ad:=(ac.2).toNat;let ae:=j.Xc.getD ad qu;let af:=ae.XD;.jC (ac.2<ab) (.cut 0 (λs (ag:Ag)=>pk s [1,5,13,14,15] [] [] [(320,vO ag 151)]) (.gh ac.2 j.Xc.length<|.gh ac.2 aa.length<|.cc (uzd ae (aa.getD ad qu)) λag=>let ah:=ac.1.set ad ag;let ai:=ah.length;
 .gh ac.2 ac.1.length<|.conv 5009 (kS ac.1 151 ad ag)<|.gi (ac.2) ac.1.length<|.br (af !=(-1)) (.gg af ai<|.gg ac.2 ai<|.call (jz6 (ah.getD (af.toNat) qu) (ah.getD ad qu)) [] λaj=>.gh ac.2 ai<|.conv 7013 (kS ah 151 ad aj)<|.gi (ac.2) ai<|.oo (ah.set ad aj)) (.oo ah)) λag=>.nn (ag,(qt.wrap (ac.2+1)))) (.oo ac.1)) ((qs ab.toNat ((⟨(((⟨0,0⟩:az0),(⟨0,0⟩:az0),(⟨0,0⟩:az0)),((⟨0,0⟩:az0),(⟨0,0⟩:az0),(⟨0,0⟩:az0)),((⟨0,0⟩:az0),(⟨0,0⟩:az0),(⟨0,0⟩:az0))),((⟨0,0⟩:az0),(⟨0,0⟩:az0),(⟨0,0⟩:az0))⟩:bz7):bz7)),0) [] λac=>.jn ac
def hzp:=
 mkp2 func148 lz5
def lz3 (j:azl)(aa:Ae):T Ag:=let ab:=(⟨j.Xc,j.Xv⟩:azl);.cub 2 13 [1,2] [0] (.cc (hzo ab aa) λac=>.jD (!ac) (.cc (fz3 ab) λad=>.oo (ad !=0))) λac=>.br ac (.jn nl) (.cc (hzp ab aa) λad=>.jn ad)
def uze:=
 mkp2 func92 lz3
def Ez0 (j:bz7)(aa:Bm):T Bm:=
 .cc (uzq j) λab=>.call (oz1 aa ab.1 ab.2.1 ab.2.2.1 ab.2.2.2.1 ab.2.2.2.2.1 ab.2.2.2.2.2.1 ab.2.2.2.2.2.2.1 ab.2.2.2.2.2.2.2.1 ab.2.2.2.2.2.2.2.2.1 ab.2.2.2.2.2.2.2.2.2.1 ab.2.2.2.2.2.2.2.2.2.2.1 ab.2.2.2.2.2.2.2.2.2.2.2.1 ab.2.2.2.2.2.2.2.2.2.2.2.2.1 ab.2.2.2.2.2.2.2.2.2.2.2.2.2.1 ab.2.2.2.2.2.2.2.2.2.2.2.2.2.2.1 ab.2.2.2.2.2.2.2.2.2.2.2.2.2.2.2.1 ab.2.2.2.2.2.2.2.2.2.2.2.2.2.2.2.2.1 ab.2.2.2.2.2.2.2.2.2.2.2.2.2.2.2.2.2.1 ab.2.2.2.2.2.2.2.2.2.2.2.2.2.2.2.2.2.2.1 ab.2.2.2.2.2.2.2.2.2.2.2.2.2.2.2.2.2.2.2.1 ab.2.2.2.2.2.2.2.2.2.2.2.2.2.2.2.2.2.2.2.2.1 ab.2.2.2.2.2.2.2.2.2.2.2.2.2.2.2.2.2.2.2.2.2.1 ab.2.2.2.2.2.2.2.2.2.2.2.2.2.2.2.2.2.2.2.2.2.2.1 ab.2.2.2.2.2.2.2.2.2.2.2.2.2.2.2.2.2.2.2.2.2.2.2) [(0,256)] λac=>.jn ac.1
def Dzz:=
 mkp2 func94 Ez0
def Mzo (j:az2)(aa:Int)(ab:Int)(ac:A4):T Bool:=let ad:=qt.wrap (65536-j.Xq);let ae:=qt.wrap (0-j.Xq);let af:=j.Xj.getD (aa.toNat) qu;let ag:=j.Xh.getD (ab.toNat) qu;.cub 2 35 [1,2,3,4] [0] (.cc (izi j) λah=>.jD (ah !=0) (.cc (zzh j aa ab) λai=>.jD (!ai) (.cc (bzr j.Xl.Xg ac) λaj=>.oo (!aj)))) λah=>.br ah (.jn false) (.gh aa j.Xj.length<|.cc (Czw ac) λai=>.cc (uze j.Xl.Xg ai) λaj=>let ak:=aj.getD (X3 af.Xz) qu;let al:=ak.R.1.2.1.Lo;let am:=ak.R.1.2.2.Lo;let an:=ak.R.2.1.1.Lo;let ao:=ak.R.2.2.1.Lo;let ap:=ak.R.2.1.2.2.Lo;let aq:=ak.R.2.2.2.1.Lo;let ar:=qv (al<ae);let au:=qv (am<ae);let av:=qv (an<ae);let aw:=qv (ap<ae);let ax:=qv (ao<ae);let ay:=qv (aq<ae);let az:=qv ((ak.R.1.2.1.Hi)>j.Xq);let a0:=qv ((ak.R.1.2.2.Hi)>j.Xq);let a1:=qv ((ak.R.2.1.1.Hi)>j.Xq);let a2:=qv ((ak.R.2.1.2.2.Hi)>j.Xq);let a3:=qv ((ak.R.2.2.1.Hi)>j.Xq);let a4:=qv ((ak.R.2.2.2.1.Hi)>j.Xq);
 .gh (af.Xz) aj.length<|.unroll 4<|.ji<|.z7<|.unroll 4<|.ji<|.z7<|.ji<|.jC ((ak.R.1.1.Lo)<ad) (.jn false) (.jm<|.lit 15000 1<|.ji<|.z8<|.jm<|.cut 0 (λs (a5:Bt)=>pk s [2,4,9,10,11,52,53,57,58,66,67,68,69,70,71] [0,512,1280,4672] [(77,X7 4672),(78,pz al),(79,.ptr 0 8),(80,pz j.Xq),(81,pz ae),(82,q ar),(83,q a5.1),(89,q a5.2.1),(90,q a5.2.2)] []) (.ji<|.br ar (.oo (true,true,true)) (.oo (false,az,az))) λa5=>.br a5.2.2 (.jn false) (.lit 15000 2<|.ji<|.z9<|.jm<|.cut 0 (λs (a6:Bt)=>pk s [2,4,9,10,11,52,53,57,58,66,67,68,69,70,71,79,80,81] [0,512,1280,5952] [(77,X7 5952),(78,pz am),(82,q au),(83,q a6.1),(89,q a6.2.1),(90,q a6.2.2)] []) (.ji<|.br au (.oo (true,true,true)) (.oo (false,a0,a0))) λa6=>.br a6.2.2 (.jn false) (.lit 15000 3<|.jm<|.lit 16000 1<|.ji<|.z8<|.unroll 4<|.ji<|.z7<|.jm<|.cut 0 (λs (a7:Bt)=>pk s [2,4,9,10,11,52,53,57,58,66,67,68,69,70,71,79,80,81] [0,512,1280,7936] [(77,X7 7936),(78,pz an),(82,q av),(83,q a7.1),(89,q a7.2.1),(90,q a7.2.2)] []) (.ji<|.br av (.oo (true,true,true)) (.oo (false,a1,a1))) λa7=>.br a7.2.2 (.jn false) (.lit 15000 1<|.ji<|.z8<|.ji<|.jC ((ak.R.2.1.2.1.Lo)<ad) (.jn false) (.jm<|.lit 15000 2<|.ji<|.z9<|.jm<|.cut 0 (λs (a8:Bt)=>pk s [2,4,9,10,11,52,53,57,58,66,67,68,69,70,71] [0,512,1280,11584] [(77,X7 11584),(78,pz ap),(79,.ptr 0 8),(80,pz j.Xq),(81,pz ae),(82,q aw),(83,q a8.1),(89,q a8.2.1),(90,q a8.2.2)] []) (.ji<|.br aw (.oo (true,true,true)) (.oo (false,a2,a2))) λa8=>.br a8.2.2 (.jn false) (.lit 15000 3<|.jm<|.lit 16000 2<|.ji<|.z9<|.unroll 4<|.ji<|.z7<|.jm<|.cut 0 (λs (a9:Bt)=>pk s [2,4,9,10,11,52,53,57,58,66,67,68,69,70,71,79,80,81] [0,512,1280,13568] [(77,X7 13568),(78,pz ao),(82,q ax),(83,q a9.1),(89,q a9.2.1),(90,q a9.2.2)] []) (.ji<|.br ax (.oo (true,true,true)) (.oo (false,a3,a3))) λa9=>.br a9.2.2 (.jn false) (.lit 15000 1<|.ji<|.z8<|.jm<|.cut 0 (λs (ba:Bt)=>pk s [2,4,9,10,11,52,53,57,58,66,67,68,69,70,71,79,80,81] [0,512,1280,14848] [(77,X7 14848),(78,pz aq),(82,q ay),(83,q ba.1),(89,q ba.2.1),(90,q ba.2.2)] []) (.ji<|.br ay (.oo (true,true,true)) (.oo (false,a4,a4))) λba=>.br ba.2.2 (.jn false) (.lit 15000 2<|.ji<|.z9<|.ji<|.jC ((ak.R.2.2.2.2.Lo)<ad) (.jn false) (.jm<|.lit 15000 3<|.jm<|.lit 16000 3<|.jm<|.gh ab j.Xh.length<|.cc (jz5 (af.XA)) λbb=>.call (Dzz ak bb) [] λbc=>.unroll 4<|.ji<|.z7<|.cub 0 126 [4,15,102,103] [0,18880] (.z7<|.jF (bc.1.Lo<(qt.wrap ((ag.1)-j.Xq))) (.z7<|.oo (qv (bc.1.Hi>(qt.wrap ((ag.1)+j.Xq)))))) λbd=>.br bd (.jn false) (.lit 23000 1<|.ji<|.z8<|.cub 0 126 [4,15,102,103] [0,18880] (.z8<|.jF (bc.2.1.Lo<(qt.wrap ((ag.2.1)-j.Xq))) (.z8<|.oo (qv (bc.2.1.Hi>(qt.wrap ((ag.2.1)+j.Xq)))))) λbe=>.br be (.jn false) (.lit 23000 2<|.ji<|.z9<|.cub 0 126 [4,15,102,103] [0,18880] (.z9<|.jF (bc.2.2.Lo<(qt.wrap ((ag.2.2)-j.Xq))) (.z9<|.oo (qv (bc.2.2.Hi>(qt.wrap ((ag.2.2)+j.Xq)))))) λbf=>.br bf (.jn false) (.lit 23000 3<|.jm<|.jn true)))))))))))))
def izh:=
 mkp4 func44 Mzo
def pzw (j:azl):T A4:=let aa:=(j.Xc.length:Int);let ab:=qt.wrap (aa+1);let ac:=qs ab.toNat (0:Int);.conv 1004 (Dz3 1 azy 3 ab.toNat 0)<|.grd (0<=ab/\ab<=ab/\ab<=9223372036854775807/\ab * 8<=140737488355328)<|.gh (0:Int) (ac.length)<|.conv 2002 (kS ac 3 (X3 (0:Int)) (-1))<|.gi (0:Int) (ac.length)<|.loop (λs (ad:Ah)=>pk s [3,14,15] [] [(16,pz ad.2)] [(384,vO ad.1 3)]) (.exit 0) (λs (ad:A4)=>pk s [3] [] [] [(384,vO ad 3)]) (λad=>let ae:=qt.wrap (ad.2+1);let af:=ae.toNat;let ag:=ad.1.set af ad.2;let ah:=ag.length;let ai:=j.Xc.getD (X3 ad.2) qu;let aj:=qt.wrap ((ai.XD)+1);.jC (ad.2<aa) (.cut 0 (λs (ak:A4)=>pk s [3,14,15,16] [] [] [(384,vO ak 3)]) (.gh ad.2 j.Xc.length<|.gh ae ad.1.length<|.conv 6005 (kS ad.1 3 af ad.2)<|.gi (ae) ad.1.length<|.br ((ai.Lo)==(ai.Hi)) (.gg aj ah<|.name 8008 ((ag.getD (aj.toNat) qu)) λak=>.gh ae ah<|.conv 8010 (kS ag 3 af ak)<|.gi (ae) ah<|.oo (ag.set af ak)) (.oo ag)) λak=>.nn (ak,ae)) (.oo ad.1)) ((ac.set (X3 (0:Int)) (-1)),0) [] λad=>.jn ad
def Czb:=
 mkp1 func429 pzw
def tzf (j:az7)(aa:Int)(ab:Int):T Bool:=
 .loop (ik 12 [1,2,10,11] []) (.exit 0) (jk [] []) (λac=>let ad:=j.Xs.getD (ac.toNat) qu;.jC (ac<(j.Xs.length:Int)) (.gh ac j.Xs.length<|.cub 0 27 [1,2,10,11,12] [] (.jD (((ad.A)==aa)&&(((ad.B)==ab)&&true)) (.oo (((ad.A)==ab)&&(((ad.B)==aa)&&true)))) λae=>.br ae (.ff true) (.nn (qt.wrap (ac+1)))) (.oo .u))
 0 [] λ_=>.jn false
def Fze:=
 mkp3 func430 tzf
def Bzi (j:az7):T Ai:=let aa:=(j.Xe.length:Int);.cc (ezd j) λab=>.br (ab !=0) (.jn nl) (.cc (Czb j.Xg) λac=>.loop (λs (ad:Aj)=>pk s [1,3,4,17,18] [0] [(19,pz ad.2)] [(576,vO ad.1 274)]) (.exit 0) (λs (ad:Ai)=>pk s [4] [] [] [(576,vO ad 274)]) (λad=>let ae:=(j.Xe.getD (X3 ad.2) qu).Xz;let af:=qt.wrap (ae+1);let ag:=qt.wrap (ad.2+1);.jC (ad.2<aa) (.gh ad.2 j.Xe.length<|.loop (λs (ah:Aj)=>pk s [1,3,4,5,6,17,18,19] [0,1216] [(7,pz ah.2)] [(576,vO ah.1 274)]) (.exit 2) (λs (ah:Ai)=>pk s [1,3,4,17,18,19] [0] [] [(576,vO ah 274)]) (λah=>let ai:=([(⟨ad.2,ah.2⟩:czh)]:Ai);let aj:=ah.1.length+ai.length;let ak:=(j.Xe.getD (X3 ah.2) qu).Xz;let al:=qt.wrap (ak+1);.jC (ah.2<aa) (.cut 0 (λs (am:Ai)=>pk s [1,3,5,6,7,17,18,19] [0,1216] [(4,.vec 1984)] [(1984,vO am 274)]) (.gh ah.2 j.Xe.length<|.gh af ac.length<|.gh al ac.length<|.name 12011 ((ac.getD (al.toNat) qu)) λam=>.cub 0 61 [1,3,4,5,6,7,17,18,19] [0,576,1216] (.jE (!((ac.getD (af.toNat) qu)==am)) (.cc (Fze j ae ak) λan=>.oo (!an))) λan=>.br an (.conv 14004 (kL ai 274)<|.conv 14005 (kA ah.1 ai 274)<|.grd (aj * 16<=140737488355328/\aj<=maxLen)<|.oo (ah.1++ai)) (.oo ah.1)) λam=>.nn (am,(qt.wrap (ah.2+1)))) (.oo ah.1)) (ad.1,ag) [] λah=>.nn (ah,ag)) (.oo ad.1)) (nl,0) [] λad=>.jn ad)
def Lzj:=
 mkp1 func372 Bzi
def Bzl (j:azf)(aa:bz7):T Bn:=let ab:=(j.Xa.length:Int);.cc (Bzj j) λac=>.br (!ac) (.jn nl) (.conv 3003 (Dz3 6 cz5 97 ab.toNat ((⟨0,0⟩:az0),(⟨0,0⟩:az0),(⟨0,0⟩:az0)))<|.grd (0<=ab/\ab<=ab/\ab<=9223372036854775807/\ab * 48<=140737488355328)<|.loop (λs (ad:(Bn×Int))=>pk s [3,5,16,17] [64] [(18,pz ad.2)] [(576,vO ad.1 97)]) (.exit 0) (λs (ad:Bn)=>pk s [5] [] [] [(576,vO ad 97)]) (λad=>let ae:=(ad.2).toNat;.jC (ad.2<ab) (.gh ad.2 j.Xa.length<|.cc (jz5 (j.Xa.getD ae qu)) λaf=>.cc (Dzz aa af) λag=>.gh ad.2 ad.1.length<|.conv 7007 (kS ad.1 97 ae ag)<|.gi (ad.2) ad.1.length<|.nn ((ad.1.set ae ag),(qt.wrap (ad.2+1)))) (.oo ad.1)) ((qs ab.toNat (((⟨0,0⟩:az0),(⟨0,0⟩:az0),(⟨0,0⟩:az0)):Bm)),0) [] λad=>.jn ad)
def Lzq:=
 mkp2 func431 Bzl
def jzu (j:az7)(aa:Ae):T Bo:=let ab:=(j.Xe.length:Int);.cub 2 19 [1,2] [0] (.cc (hzo j.Xg aa) λac=>.jD (!ac) (.cc (ezd j) λad=>.oo (ad !=0))) λac=>.br ac (.jn nl) (.cc (hzp j.Xg aa) λad=>.conv 4003 (azjc 1 (encL 6 cz5) 98 ab.toNat nl (.lst 0 0 λ_=>.unk) ju)<|.grd (0<=ab/\ab<=ab/\ab<=9223372036854775807/\ab * 24<=140737488355328)<|.loop (λs (ae:(Bo×Int))=>pk s [5,6,29,30] [] [(31,pz ae.2)] [(704,vO ae.1 98)]) (.exit 0) (λs (ae:Bo)=>pk s [6] [] [] [(704,vO ae 98)]) (λae=>let af:=(ae.2).toNat;let ag:=j.Xe.getD af qu;let ah:=ag.Xz;let ai:=ad.getD (ah.toNat) qu;.jC (ae.2<ab) (.gh ae.2 j.Xe.length<|.cc (pose_Identity_C) λaj=>.cut 0 (λs (ak:Ce)=>pk s [5,6,7,8,9,29,30,31] [704,1408] [] [(1664,.box [pz ak.1,pz ak.2.1,pz ak.2.2.1,pz ak.2.2.2.1,pz ak.2.2.2.2.1,pz ak.2.2.2.2.2.1,pz ak.2.2.2.2.2.2.1,pz ak.2.2.2.2.2.2.2.1,pz ak.2.2.2.2.2.2.2.2.1,pz ak.2.2.2.2.2.2.2.2.2.1,pz ak.2.2.2.2.2.2.2.2.2.2.1,pz ak.2.2.2.2.2.2.2.2.2.2.2.1,pz ak.2.2.2.2.2.2.2.2.2.2.2.2.1,pz ak.2.2.2.2.2.2.2.2.2.2.2.2.2.1,pz ak.2.2.2.2.2.2.2.2.2.2.2.2.2.2.1,pz ak.2.2.2.2.2.2.2.2.2.2.2.2.2.2.2.1,pz ak.2.2.2.2.2.2.2.2.2.2.2.2.2.2.2.2.1,pz ak.2.2.2.2.2.2.2.2.2.2.2.2.2.2.2.2.2.1,pz ak.2.2.2.2.2.2.2.2.2.2.2.2.2.2.2.2.2.2.1,pz ak.2.2.2.2.2.2.2.2.2.2.2.2.2.2.2.2.2.2.2.1,pz ak.2.2.2.2.2.2.2.2.2.2.2.2.2.2.2.2.2.2.2.2.1,pz ak.2.2.2.2.2.2.2.2.2.2.2.2.2.2.2.2.2.2.2.2.2.1,pz ak.2.2.2.2.2.2.2.2.2.2.2.2.2.2.2.2.2.2.2.2.2.2.1,pz ak.2.2.2.2.2.2.2.2.2.2.2.2.2.2.2.2.2.2.2.2.2.2.2])]) (.br (ah !=(-1)) (.gh ah ad.length<|.oo (ai.R.1.1.Lo,ai.R.1.1.Hi,ai.R.1.2.1.Lo,ai.R.1.2.1.Hi,ai.R.1.2.2.Lo,ai.R.1.2.2.Hi,ai.R.2.1.1.Lo,ai.R.2.1.1.Hi,ai.R.2.1.2.1.Lo,ai.R.2.1.2.1.Hi,ai.R.2.1.2.2.Lo,ai.R.2.1.2.2.Hi,ai.R.2.2.1.Lo,ai.R.2.2.1.Hi,ai.R.2.2.2.1.Lo,ai.R.2.2.2.1.Hi,ai.R.2.2.2.2.Lo,ai.R.2.2.2.2.Hi,ai.T.1.Lo,ai.T.1.Hi,ai.T.2.1.Lo,ai.T.2.1.Hi,ai.T.2.2.Lo,ai.T.2.2.Hi)) (.oo (aj.R.1.1.Lo,aj.R.1.1.Hi,aj.R.1.2.1.Lo,aj.R.1.2.1.Hi,aj.R.1.2.2.Lo,aj.R.1.2.2.Hi,aj.R.2.1.1.Lo,aj.R.2.1.1.Hi,aj.R.2.1.2.1.Lo,aj.R.2.1.2.1.Hi,aj.R.2.1.2.2.Lo,aj.R.2.1.2.2.Hi,aj.R.2.2.1.Lo,aj.R.2.2.1.Hi,aj.R.2.2.2.1.Lo,aj.R.2.2.2.1.Hi,aj.R.2.2.2.2.Lo,aj.R.2.2.2.2.Hi,aj.T.1.Lo,aj.T.1.Hi,aj.T.2.1.Lo,aj.T.2.1.Hi,aj.T.2.2.Lo,aj.T.2.2.Hi))) λak=>.cc (Lzq ag (⟨(((⟨ak.1,ak.2.1⟩:az0),(⟨ak.2.2.1,ak.2.2.2.1⟩:az0),(⟨ak.2.2.2.2.1,ak.2.2.2.2.2.1⟩:az0)),((⟨ak.2.2.2.2.2.2.1,ak.2.2.2.2.2.2.2.1⟩:az0),(⟨ak.2.2.2.2.2.2.2.2.1,ak.2.2.2.2.2.2.2.2.2.1⟩:az0),(⟨ak.2.2.2.2.2.2.2.2.2.2.1,ak.2.2.2.2.2.2.2.2.2.2.2.1⟩:az0)),((⟨ak.2.2.2.2.2.2.2.2.2.2.2.2.1,ak.2.2.2.2.2.2.2.2.2.2.2.2.2.1⟩:az0),(⟨ak.2.2.2.2.2.2.2.2.2.2.2.2.2.2.1,ak.2.2.2.2.2.2.2.2.2.2.2.2.2.2.2.1⟩:az0),(⟨ak.2.2.2.2.2.2.2.2.2.2.2.2.2.2.2.2.1,ak.2.2.2.2.2.2.2.2.2.2.2.2.2.2.2.2.2.1⟩:az0))),((⟨ak.2.2.2.2.2.2.2.2.2.2.2.2.2.2.2.2.2.2.1,ak.2.2.2.2.2.2.2.2.2.2.2.2.2.2.2.2.2.2.2.1⟩:az0),(⟨ak.2.2.2.2.2.2.2.2.2.2.2.2.2.2.2.2.2.2.2.2.1,ak.2.2.2.2.2.2.2.2.2.2.2.2.2.2.2.2.2.2.2.2.2.1⟩:az0),(⟨ak.2.2.2.2.2.2.2.2.2.2.2.2.2.2.2.2.2.2.2.2.2.2.1,ak.2.2.2.2.2.2.2.2.2.2.2.2.2.2.2.2.2.2.2.2.2.2.2⟩:az0))⟩:bz7)) λal=>.gh ae.2 ae.1.length<|.conv 11006 (kS ae.1 98 af al)<|.gi (ae.2) ae.1.length<|.nn ((ae.1.set af al),(qt.wrap (ae.2+1)))) (.oo ae.1)) ((qs ab.toNat (nl:Bn)),0) [] λae=>.jn ae)
def sz4:=
 mkp2 func373 jzu
def ozy (j:az7)(aa:Ae):T (czt×Bool):=let ab:=(aa.length:Int);.cub 2 19 [1,2,4] [0,64,65,66,67] (.cc (ezd j) λac=>.jD (ac !=0) (.oo (ab !=(j.Xg.Xc.length:Int)))) λac=>.br ac (.jn ((⟨nl,nl,nl⟩:czt),false)) (.loop (ik 23 [1,2,4,21,22] [0,64,65,66,67]) (.exit 0) (jk [1,2,4] [0,64,65,66,67]) (λad=>.jC (ad<ab) (.gh ad aa.length<|.cc (bzw (aa.getD (ad.toNat) qu)) λae=>.br (!ae) (.ff ((⟨nl,nl,nl⟩:czt),false)) (.nn (qt.wrap (ad+1)))) (.oo .u))
 0 [] λ_=>.cc (Lzj j) λad=>.cc (sz4 (⟨j.Xg,j.Xe,j.Xs⟩:az7) aa) λae=>.jn ((⟨j.Xe,ad,ae⟩:czt),true))
def ozx:=
 mkq2 func329 ozy (λr=>.tup [q r.1,q r.2])
def yzx (j:czt)(aa:Int):T gzc:=let ab:=j.pairs.getD (aa.toNat) qu;let ac:=ab.A;let ad:=ab.B;.gh aa j.pairs.length<|.gh ac j.points.length<|.gh ac j.shapes.length<|.gh ad j.points.length<|.gh ad j.shapes.length<|.jn (⟨(j.points.getD (ac.toNat) qu),(j.points.getD (ad.toNat) qu),(j.shapes.getD (ac.toNat) qu).XE,(j.shapes.getD (ad.toNat) qu).XE⟩:gzc)
def yzw:=
 mkp2 func330 yzx
def Gzr (j:Bn)(aa:Int)(ab:Bn)(ac:Int)(ad:Bi):T (Bn×Bn×Int×Int×Bi):=
 .jn (j,ab,aa,ac,ad)
def Gzq:=
 mkv5 func375 Gzr (λ_=>.func 432 [] [X7 0,X7 1,X7 2,X7 3,X7 4]) (λr=>[(0,.box [q r.1]),(1,.box [q r.2.1]),(2,.box [pz r.2.2.1]),(3,.box [pz r.2.2.2.1]),(4,.box [q r.2.2.2.2])])
def az2h (j:Bn)(aa:Int)(ab:Bn)(ac:Int):T ezz:=
 .jn (⟨(⟨j,aa⟩:fzs),(⟨ab,ac⟩:fzs)⟩:ezz)
def Ozg:=
 mkp4 func438 az2h
def xzc (j:Bn):T Bool:=let aa:=(j.length:Int);.cub 2 14 [0] [] (.jF (aa<1) (.oo (qv (aa>8)))) λab=>.br ab (.jn false) (.loop (ik 17 [15,16] []) (.exit 0) (jk [] []) (λac=>let ad:=j.getD (ac.toNat) qu;.jC (ac<aa) (.gh ac j.length<|.unroll 4<|.ji<|.z7<|.cub 0 39 [15,16,17,21,22] [] (.jF ((ad.1.Lo)<(-268435456)) (.jF ((ad.1.Lo)>(ad.1.Hi)) (.oo (qv ((ad.1.Hi)>268435456))))) λae=>.br ae (.ff false) (.lit 11000 1<|.ji<|.z8<|.cub 0 39 [15,16,17,21,22] [] (.jF ((ad.2.1.Lo)<(-268435456)) (.jF ((ad.2.1.Lo)>(ad.2.1.Hi)) (.oo (qv ((ad.2.1.Hi)>268435456))))) λaf=>.br af (.ff false) (.lit 11000 2<|.ji<|.z9<|.cub 0 39 [15,16,17,21,22] [] (.jF ((ad.2.2.Lo)<(-268435456)) (.jF ((ad.2.2.Lo)>(ad.2.2.Hi)) (.oo (qv ((ad.2.2.Hi)>268435456))))) λag=>.br ag (.ff false) (.lit 11000 3<|.jm<|.nn (qt.wrap (ac+1)))))) (.oo .u))
 0 [] λ_=>.jn true)
def jzc:=
 mkp1 func380 xzc
def Fzh (j:fzs):T Bool:=
 .cc (jzc j.points) λaa=>.br aa (.jC (0<=j.radius) (.jn (qv (j.radius<=1048576))) (.jn false)) (.jn false)
def Fzg:=
 mkp1 func510 Fzh
def nzr (j:Bh):T Bool:=
 .loop (ik 6 [5] []) (.exit 0) (jk [] []) (λaa=>let ab:=([j.1,j.2.1,j.2.2]:List Int).getD aa.toNat 0;.jC (aa<3) (.gh aa 3<|.cub 0 14 [5,6] [] (.jF (ab<(-16384)) (.oo (qv (ab>16384)))) λac=>.br ac (.ff false) (.nn (qt.wrap (aa+1)))) (.oo .u))
 0 [] λ_=>.jn true
def yzi:=
 mkp1 func482 nzr
def qz5 (j:Bh):T Bool:=
 .cc (yzi j) λaa=>.br aa (.jn (!((j.1==0)&&((j.2.1==0)&&((j.2.2==0)&&true))))) (.jn false)
def jzo:=
 mkp1 func434 qz5
def Mz1 (j:Bh):T Bh:=
 .jn (j.1,j.2.1,j.2.2)
def vz8:=
 mkv1 func523 Mz1 (λ_=>.agg [.func 530 [] [X7 0],.func 532 [] []]) (λr=>[(0,.box [pz r.1,pz r.2.1,pz r.2.2])])
def Bzq (j:Bh)(aa:Bm):T B2:=let ab:=qt.wrap (j.1 * aa.1.Lo);let ac:=qt.wrap (j.1 * aa.1.Hi);let ad:=qt.wrap (j.2.1 * aa.2.1.Lo);let ae:=qt.wrap (j.2.1 * aa.2.1.Hi);let af:=qt.wrap (j.2.2 * aa.2.2.Lo);let ag:=qt.wrap (j.2.2 * aa.2.2.Hi);.unroll 4<|.ji<|.z7<|.z7<|.z7<|.name 6004 ((qt.wrap (0+(min ab ac)))) λah=>.name 7004 ((qt.wrap (0+(max ab ac)))) λai=>.lit 8000 1<|.ji<|.z8<|.z8<|.z8<|.name 6004 ((qt.wrap (ah+(min ad ae)))) λaj=>.name 7004 ((qt.wrap (ai+(max ad ae)))) λak=>.lit 8000 2<|.ji<|.z9<|.z9<|.z9<|.name 6004 ((qt.wrap (aj+(min af ag)))) λal=>.name 7004 ((qt.wrap (ak+(max af ag)))) λam=>.lit 8000 3<|.jm<|.jn (al,am)
def Bzp:=
 mkq2 func531 Bzq (λr=>.tup [pz r.1,pz r.2])
def jz2 (j:Bm)(aa:Int)(ab:Int)(ac:Int):T Bx:=
 .cc (Bzp (aa,ab,ac) ((⟨j.1.Lo,j.1.Hi⟩:az0),(⟨j.2.1.Lo,j.2.1.Hi⟩:az0),(⟨j.2.2.Lo,j.2.2.Hi⟩:az0))) λad=>.jn (ad.1,aa,ab,ac)
def qzd (j)(aa)(ab)(ac):=
 mkD func530 (jz2 j aa ab ac) 1 [q j,X7 0] [(0,.box [pz aa,pz ab,pz ac])] (λr=>pz r.1) (λr=>[(0,.box [pz r.2.1,pz r.2.2.1,pz r.2.2.2])])
def Gzt (j:Int)(aa:Int):T Bool:=
 .jn (qv (j<aa))
def qze:=
 mkp2 func532 Gzt
def pz2 (j:Int)(aa:Int)(ab:Int)(ac:Bn):T C1:=
 .loop (λs (ad:C3)=>pk s [2,11,12] [1] [(6,pz ad.2.2.2.1),(7,pz ad.2.2.2.2.1),(13,pz ad.2.2.2.2.2)] [(0,.box [pz ad.1,pz ad.2.1,pz ad.2.2.1])]) (.exit 0) (λs (ad:C1)=>pk s [] [] [(6,pz ad.2.2.2.1),(7,pz ad.2.2.2.2)] [(0,.box [pz ad.1,pz ad.2.1,pz ad.2.2.1])]) (λad=>.jC (ad.2.2.2.2.2<(ac.length:Int)) (.cut 0 (λs (ae:C1)=>pk s [2,11,12,13] [1] [(6,pz ae.2.2.2.1),(7,pz ae.2.2.2.2)] [(0,.box [pz ae.1,pz ae.2.1,pz ae.2.2.1])]) (.gh ad.2.2.2.2.2 ac.length<|.call (qzd (ac.getD (X3 ad.2.2.2.2.2) qu) ad.1 ad.2.1 ad.2.2.1) [(0,0)] λae=>.cub 0 30 [2,6,7,8,10,11,12,13] [0,1] (.jD (ad.2.2.2.2.2==0) (.cc (qze ae.1 ad.2.2.2.1) λaf=>.oo af)) λaf=>.br af (.oo (ae.2.1,ae.2.2.1,ae.2.2.2,ae.1,ad.2.2.2.2.2)) (.oo (ae.2.1,ae.2.2.1,ae.2.2.2,ad.2.2.2.1,ad.2.2.2.2.1))) λae=>.nn (ae.1,ae.2.1,ae.2.2.1,ae.2.2.2.1,ae.2.2.2.2,(qt.wrap (ad.2.2.2.2.2+1)))) (.oo (ad.1,ad.2.1,ad.2.2.1,ad.2.2.2.1,ad.2.2.2.2.1))) (j,aa,ab,0,0,0) [] λad=>.jn (ad.2.2.2.1,ad.2.2.2.2,ad.1,ad.2.1,ad.2.2.1)
def Bzy (j)(aa)(ab)(ac):=
 mkD func524 (pz2 j aa ab ac) 1 [.agg [.func 530 [] [X7 0],.func 532 [] []],q ac] [(0,.box [pz j,pz aa,pz ab])] (λr=>.tup [pz r.1,pz r.2.1]) (λr=>[(0,.box [pz r.2.2.1,pz r.2.2.2.1,pz r.2.2.2.2])])
def tzm (j:Bh)(aa:Bn):T Br:=
 .cub 2 16 [1,2] [0] (.cc (jzo j) λab=>.jD (!ab) (.cc (jzc aa) λac=>.oo (!ac))) λab=>.br ab (.jn (0,0,false)) (.cc (vz8 (j.1,j.2.1,j.2.2)) λac=>.call (Bzy ac.1 ac.2.1 ac.2.2 aa) [(0,384)] λad=>.jn (ad.1,ad.2.1,true))
def Fzk:=
 mkq2 func511 tzm (λr=>.tup [pz r.1,pz r.2.1,q r.2.2])
def Qz4 (j:Bh):T Bh:=
 .jn (j.1,j.2.1,j.2.2)
def Cze:=
 mkv1 func525 Qz4 (λ_=>.agg [.func 533 [] [X7 0],.func 534 [] []]) (λr=>[(0,.box [pz r.1,pz r.2.1,pz r.2.2])])
def mz3 (j:Bm)(aa:Int)(ab:Int)(ac:Int):T Bx:=
 .cc (Bzp (aa,ab,ac) j) λad=>.jn (ad.2,aa,ab,ac)
def vz9 (j)(aa)(ab)(ac):=
 mkD func533 (mz3 j aa ab ac) 1 [q j,X7 0] [(0,.box [pz aa,pz ab,pz ac])] (λr=>pz r.1) (λr=>[(0,.box [pz r.2.1,pz r.2.2.1,pz r.2.2.2])])
def Mz2 (j:Int)(aa:Int):T Bool:=
 .jn (qv (j>aa))
def vza:=
 mkp2 func534 Mz2
def kzv (j:Int)(aa:Int)(ab:Int)(ac:Bn):T C1:=
 .loop (λs (ad:C3)=>pk s [2,11,12] [1] [(6,pz ad.2.2.2.1),(7,pz ad.2.2.2.2.1),(13,pz ad.2.2.2.2.2)] [(0,.box [pz ad.1,pz ad.2.1,pz ad.2.2.1])]) (.exit 0) (λs (ad:C1)=>pk s [] [] [(6,pz ad.2.2.2.1),(7,pz ad.2.2.2.2)] [(0,.box [pz ad.1,pz ad.2.1,pz ad.2.2.1])]) (λad=>.jC (ad.2.2.2.2.2<(ac.length:Int)) (.cut 0 (λs (ae:C1)=>pk s [2,11,12,13] [1] [(6,pz ae.2.2.2.1),(7,pz ae.2.2.2.2)] [(0,.box [pz ae.1,pz ae.2.1,pz ae.2.2.1])]) (.gh ad.2.2.2.2.2 ac.length<|.call (vz9 (ac.getD (X3 ad.2.2.2.2.2) qu) ad.1 ad.2.1 ad.2.2.1) [(0,0)] λae=>.cub 0 30 [2,6,7,8,10,11,12,13] [0,1] (.jD (ad.2.2.2.2.2==0) (.cc (vza ae.1 ad.2.2.2.1) λaf=>.oo af)) λaf=>.br af (.oo (ae.2.1,ae.2.2.1,ae.2.2.2,ae.1,ad.2.2.2.2.2)) (.oo (ae.2.1,ae.2.2.1,ae.2.2.2,ad.2.2.2.1,ad.2.2.2.2.1))) λae=>.nn (ae.1,ae.2.1,ae.2.2.1,ae.2.2.2.1,ae.2.2.2.2,(qt.wrap (ad.2.2.2.2.2+1)))) (.oo (ad.1,ad.2.1,ad.2.2.1,ad.2.2.2.1,ad.2.2.2.2.1))) (j,aa,ab,0,0,0) [] λad=>.jn (ad.2.2.2.1,ad.2.2.2.2,ad.1,ad.2.1,ad.2.2.1)
def uz9 (j)(aa)(ab)(ac):=
 mkD func524 (kzv j aa ab ac) 1 [.agg [.func 533 [] [X7 0],.func 534 [] []],q ac] [(0,.box [pz j,pz aa,pz ab])] (λr=>.tup [pz r.1,pz r.2.1]) (λr=>[(0,.box [pz r.2.2.1,pz r.2.2.2.1,pz r.2.2.2.2])])
def mz2 (j:Bh)(aa:Bn):T Br:=
 .cub 2 16 [1,2] [0] (.cc (jzo j) λab=>.jD (!ab) (.cc (jzc aa) λac=>.oo (!ac))) λab=>.br ab (.jn (0,0,false)) (.cc (Cze (j.1,j.2.1,j.2.2)) λac=>.call (uz9 ac.1 ac.2.1 ac.2.2 aa) [(0,384)] λad=>.jn (ad.1,ad.2.1,true))
def vz7:=
 mkq2 func512 mz2 (λr=>.tup [pz r.1,pz r.2.1,q r.2.2])
def Mzs (j:Int):T Int:=
 .cut 1 (λs (aa:B2)=>pk s [] [] [(0,.pure (.int .u64 aa.1)),(2,pz aa.2)] []) (.jC (j>=4294967296) (.ok (0<=(32:Int)) jp<|.oo ((j.fdiv (2 ^ (min (32:Int).toNat 64))),32)) (.oo (j,0))) λaa=>.cut 0 (λs (ab:B2)=>pk s [] [] [(0,.pure (.int .u64 ab.1)),(2,pz ab.2)] []) (.jC (aa.1>=65536) (.ok (0<=(16:Int)) jp<|.oo ((aa.1.fdiv (2 ^ (min (16:Int).toNat 64))),(qt.wrap (aa.2+16)))) (.oo (aa.1,aa.2))) λab=>.cut 0 (λs (ac:B2)=>pk s [] [] [(0,.pure (.int .u64 ac.1)),(2,pz ac.2)] []) (.jC (ab.1>=256) (.ok (0<=(8:Int)) jp<|.oo ((ab.1.fdiv (2 ^ (min (8:Int).toNat 64))),(qt.wrap (ab.2+8)))) (.oo (ab.1,ab.2))) λac=>let ad:=IntKind.u8.wrap ac.1;
 .gh ad ((⟨#[0,1,2,2,3,3,3,3,4,4,4,4,4,4,4,4,5,5,5,5,5,5,5,5,5,5,5,5,5,5,5,5,6,6,6,6,6,6,6,6,6,6,6,6,6,6,6,6,6,6,6,6,6,6,6,6,6,6,6,6,6,6,6,6,7,7,7,7,7,7,7,7,7,7,7,7,7,7,7,7,7,7,7,7,7,7,7,7,7,7,7,7,7,7,7,7,7,7,7,7,7,7,7,7,7,7,7,7,7,7,7,7,7,7,7,7,7,7,7,7,7,7,7,7,7,7,7,7,8,8,8,8,8,8,8,8,8,8,8,8,8,8,8,8,8,8,8,8,8,8,8,8,8,8,8,8,8,8,8,8,8,8,8,8,8,8,8,8,8,8,8,8,8,8,8,8,8,8,8,8,8,8,8,8,8,8,8,8,8,8,8,8,8,8,8,8,8,8,8,8,8,8,8,8,8,8,8,8,8,8,8,8,8,8,8,8,8,8,8,8,8,8,8,8,8,8,8,8,8,8,8,8,8,8,8,8,8,8,8,8,8,8,8,8,8,8,8,8,8,8,8,8,8,8,8,8]⟩:ByteArray).size)<|.name 10003 ((((⟨#[0,1,2,2,3,3,3,3,4,4,4,4,4,4,4,4,5,5,5,5,5,5,5,5,5,5,5,5,5,5,5,5,6,6,6,6,6,6,6,6,6,6,6,6,6,6,6,6,6,6,6,6,6,6,6,6,6,6,6,6,6,6,6,6,7,7,7,7,7,7,7,7,7,7,7,7,7,7,7,7,7,7,7,7,7,7,7,7,7,7,7,7,7,7,7,7,7,7,7,7,7,7,7,7,7,7,7,7,7,7,7,7,7,7,7,7,7,7,7,7,7,7,7,7,7,7,7,7,8,8,8,8,8,8,8,8,8,8,8,8,8,8,8,8,8,8,8,8,8,8,8,8,8,8,8,8,8,8,8,8,8,8,8,8,8,8,8,8,8,8,8,8,8,8,8,8,8,8,8,8,8,8,8,8,8,8,8,8,8,8,8,8,8,8,8,8,8,8,8,8,8,8,8,8,8,8,8,8,8,8,8,8,8,8,8,8,8,8,8,8,8,8,8,8,8,8,8,8,8,8,8,8,8,8,8,8,8,8,8,8,8,8,8,8,8,8,8,8,8,8,8,8,8,8,8,8]⟩:ByteArray).data.getD ad.toNat 0).toNat:Int)) λae=>.jn (qt.wrap (ac.2+(qt.wrap ae)))
def gzm (j):=
 mkD func424 (Mzs j) 0 [.pure (.int .u64 j)] [] pz X6
def Dzi (j:Int):T Int:=let aa:=IntKind.u64.wrap j;.jC (j<=0) (.jn 0) (.cc (gzm aa) λab=>let ac:=qt.wrap ((qt.wrap (ab+1)).tdiv 2);
 .ok ((2:Int)≠0) jp<|.grd (0<=ac)<|.loop (λs (ad:Bh)=>pk s [0,16] [] [(4,.pure (.int .u64 ad.1)),(5,.pure (.int .u64 ad.2.1)),(17,pz ad.2.2)] []) (.exit 0) (λs (ad:Int)=>pk s [] [] [(4,.pure (.int .u64 ad))] []) (λad=>.jC (ad.2.2<ac) (.cut 0 (λs (ae:B2)=>pk s [0,16,17] [] [(4,.pure (.int .u64 ae.1)),(5,.pure (.int .u64 ae.2))] []) (.ok ((2:Int)≠0) jp<|.name 7001 ((IntKind.u64.wrap (ad.2.1.tdiv 2))) λae=>let af:=IntKind.u64.wrap (ad.1+ae);
 .jC ((IntKind.u64.wrap (af * af))<=aa) (.oo (af,ae)) (.oo (ad.1,ae))) λae=>.nn (ae.1,ae.2,(qt.wrap (ad.2.2+1)))) (.oo ad.1)) (0,(IntKind.u64.wrap (1 * 2 ^ (min ac.toNat 64))),0) [] λad=>.jn (qt.wrap ad))
def Dzh:=
 mkp1 func513 Dzi
def vzm (j:Int):T Int:=
 .cc (Dzh j) λaa=>.cut 0 (λs (ab:Int)=>pk s [] [] [(3,pz ab)] []) (.jC ((qt.wrap (aa * aa))<j) (.oo (qt.wrap (aa+1))) (.oo aa)) λab=>.jn ab
def Gzy:=
 mkp1 func487 vzm
def xzi (j:Bh):T Int:=
 .cc (jzo (j.1,j.2.1,j.2.2)) λaa=>.br (!aa) (.jn 0) (.z7<|.z7<|.z8<|.z8<|.z9<|.z9<|.name 3016 ((qt.wrap ((qt.wrap ((qt.wrap (j.1 * j.1))+(qt.wrap (j.2.1 * j.2.1))))+(qt.wrap (j.2.2 * j.2.2))))) λab=>.cc (Gzy ab) λac=>.jn ac)
def Hzs:=
 mkp1 func445 xzi
def xze (j:ezz)(aa:Bh):T Bc:=
 .cub 2 20 [2,3] [0,64] (.cc (Fzg j.a) λab=>.jD (!ab) (.cc (Fzg j.b) λac=>.oo (!ac))) λab=>.br ab (.jn (0,false)) (.cc (Fzk (aa.1,aa.2.1,aa.2.2) j.a.points) λac=>.br (!ac.2.2) (.jn (0,false)) (.cc (vz7 (aa.1,aa.2.1,aa.2.2) j.b.points) λad=>.br (!ad.2.2) (.jn (0,false)) (.cc (Hzs (aa.1,aa.2.1,aa.2.2)) λae=>.name 9013 ((qt.wrap ((qt.wrap (ac.1-ad.1))- (qt.wrap (ae * (qt.wrap (j.a.radius+j.b.radius))))))) λaf=>.jn (af,true))))
def Hzr:=
 mkq2 func485 xze (λr=>.tup [pz r.1,q r.2])
def nzl (j:ezz)(aa:Bh):T Bool:=
 .cc (Hzr (⟨j.a,j.b⟩:ezz) (aa.1,aa.2.1,aa.2.2)) λab=>.br ab.2 (.jn (qv (ab.1>0))) (.jn false)
def yzf:=
 mkp2 func437 nzl
def mzx (j:Bh)(aa:Bn)(ab:Int)(ac:Bn)(ad:Int):T Bool:=
 .cc (Ozg aa ab ac ad) λae=>.cc (yzf (⟨ae.a,ae.b⟩:ezz) (j.1,j.2.1,j.2.2)) λaf=>.jn af
def mzw:=
 mkp5 func376 mzx
end Go.Abs
