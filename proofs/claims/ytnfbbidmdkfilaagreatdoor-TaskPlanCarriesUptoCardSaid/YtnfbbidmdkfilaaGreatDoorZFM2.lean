import Derived.Test.YtnfbbidmdkfilaaGreatDoorZFM1
open Decidable renaming decide->qv
open Go.IntKind renaming i64->qt
open Inhabited renaming default->qu
open List renaming replicate->qs
open Int renaming toNat->X3
noncomputable section
namespace Go.Abs
open Go.Proofs.Tryz
set_option maxHeartbeats 8000000
set_option maxRecDepth 20000
open Go.Proofs
def ozb (j:bz4):T Ce:=
 .jE (j.R.1.1.Lo,j.R.1.1.Hi,j.R.1.2.1.Lo,j.R.1.2.1.Hi,j.R.1.2.2.Lo,j.R.1.2.2.Hi,j.R.2.1.1.Lo,j.R.2.1.1.Hi,j.R.2.1.2.1.Lo,j.R.2.1.2.1.Hi,j.R.2.1.2.2.Lo,j.R.2.1.2.2.Hi,j.R.2.2.1.Lo,j.R.2.2.1.Hi,j.R.2.2.2.1.Lo,j.R.2.2.2.1.Hi,j.R.2.2.2.2.Lo,j.R.2.2.2.2.Hi,j.T.1.Lo,j.T.1.Hi,j.T.2.1.Lo,j.T.2.1.Hi,j.T.2.2.Lo,j.T.2.2.Hi)
def uzj:=
 mkv1 func152 ozb (λ_=>.func 215 [] [X7 0]) (λr=>[(0,.box [pz r.1,pz r.2.1,pz r.2.2.1,pz r.2.2.2.1,pz r.2.2.2.2.1,pz r.2.2.2.2.2.1,pz r.2.2.2.2.2.2.1,pz r.2.2.2.2.2.2.2.1,pz r.2.2.2.2.2.2.2.2.1,pz r.2.2.2.2.2.2.2.2.2.1,pz r.2.2.2.2.2.2.2.2.2.2.1,pz r.2.2.2.2.2.2.2.2.2.2.2.1,pz r.2.2.2.2.2.2.2.2.2.2.2.2.1,pz r.2.2.2.2.2.2.2.2.2.2.2.2.2.1,pz r.2.2.2.2.2.2.2.2.2.2.2.2.2.2.1,pz r.2.2.2.2.2.2.2.2.2.2.2.2.2.2.2.1,pz r.2.2.2.2.2.2.2.2.2.2.2.2.2.2.2.2.1,pz r.2.2.2.2.2.2.2.2.2.2.2.2.2.2.2.2.2.1,pz r.2.2.2.2.2.2.2.2.2.2.2.2.2.2.2.2.2.2.1,pz r.2.2.2.2.2.2.2.2.2.2.2.2.2.2.2.2.2.2.2.1,pz r.2.2.2.2.2.2.2.2.2.2.2.2.2.2.2.2.2.2.2.2.1,pz r.2.2.2.2.2.2.2.2.2.2.2.2.2.2.2.2.2.2.2.2.2.1,pz r.2.2.2.2.2.2.2.2.2.2.2.2.2.2.2.2.2.2.2.2.2.2.1,pz r.2.2.2.2.2.2.2.2.2.2.2.2.2.2.2.2.2.2.2.2.2.2.2])])
def pz3 (j:az0)(aa:az0):T Bool:=
 .cc (bzy j) λab=>.br ab (.cc (bzy aa) λac=>.jE ac) (.jE false)
def jzj:=
 mkp2 func313 pz3
def mzj (j:Int)(aa:Int):T Int:=
 .jR (aa<0) (.jE j) (.grd (0<=aa)<|.jE (j.fdiv (2 ^ (min aa.toNat 64))))
def bza:=
 mkp2 func365 mzj
def rzu (j:Int)(aa:Int):T Int:=let ab:=min aa.toNat 64;let ac:=j.fdiv (2 ^ ab);.jR (aa<0) (.jE j) (.grd (0<=aa)<|.cut 0 (λs (ad:Int)=>pk s [] [] [(5,pz ad)] []) (.grd (0<=aa)<|.br ((qt.wrap (ac * 2 ^ ab)) !=j) (.oo (qt.wrap (ac+1))) (.oo ac)) λad=>.jE ad)
def bzl:=
 mkp2 func366 rzu
def mzl (j:Int)(aa:Int):T az0:=
 .cc (bza j 16) λab=>.cc (bzl aa 16) λac=>.cc (hzj ab ac) λad=>.jE ad
def xzo:=
 mkp2 func314 mzl
def vzk (j:az0)(aa:az0):T az0:=let ab:=qt.wrap (j.Lo * aa.Lo);.cc (jzj (⟨j.Lo,j.Hi⟩:az0) (⟨aa.Lo,aa.Hi⟩:az0)) λac=>.br (!ac) (.jE (⟨0,0⟩:az0)) (.ix 0 4 rfl<|.ix 0 4 rfl<|.loop (λs (ad:Bh)=>pk s [4,40] [128] [(6,pz ad.1),(7,pz ad.2.1),(41,pz ad.2.2)] []) (.exit 0) (λs (ad:B2)=>pk s [4] [128] [(6,pz ad.1),(7,pz ad.2)] []) (λad=>.jR (ad.2.2<4) (.gh ad.2.2 4<|.name 7000 ((([ab,(qt.wrap (j.Lo * aa.Hi)),(qt.wrap (j.Hi * aa.Lo)),(qt.wrap (j.Hi * aa.Hi))]:List Int).getD (ad.2.2).toNat 0)) λae=>.nn ((min ad.1 ae),(max ad.2.1 ae),(qt.wrap (ad.2.2+1)))) (.oo (ad.1,ad.2.1))) (ab,ab,0) [] λad=>.cc (xzo ad.1 ad.2) λae=>.jE ae)
def azq:=
 mkp2 func268 vzk
def vzh (j:az0)(aa:az0):T az0:=
 .cc (jzj j aa) λab=>.br (!ab) (.jE (⟨0,0⟩:az0)) (.cc (hzj (qt.wrap (j.Lo+aa.Lo)) (qt.wrap (j.Hi+aa.Hi))) λac=>.jE ac)
def azn:=
 mkp2 func267 vzh
def pz7 (j:Int):T Int:=
 .jE (min (max j (-65536)) 65536)
def bz3:=
 mkp1 func312 pz7
def pz6 (j:Bp)(aa:Bp):T Bp:=
 .unroll 4<|.jC<|.unroll 4<|.jC<|.unroll 4<|.jC<|.jq<|.jq<|.jq<|.jq<|.cc (azq j.1.1 aa.1.1) λab=>.cc (azn (⟨0,0⟩:az0) ab) λac=>.lit 13000 1<|.jC<|.jq<|.jr<|.jr<|.jq<|.cc (azq j.1.2.1 aa.2.1.1) λad=>.cc (azn ac ad) λae=>.lit 13000 2<|.jC<|.jq<|.jt<|.jt<|.jq<|.cc (azq j.1.2.2 aa.2.2.1) λaf=>.cc (azn ae af) λag=>.lit 13000 3<|.jD<|.cc (bz3 ag.Lo) λah=>.cc (bz3 ag.Hi) λai=>.jq<|.jq<|.lit 15000 1<|.jC<|.unroll 4<|.jC<|.jq<|.jq<|.jq<|.jr<|.cc (azq j.1.1 aa.1.2.1) λaj=>.cc (azn (⟨0,0⟩:az0) aj) λak=>.lit 13000 1<|.jC<|.jq<|.jr<|.jr<|.jr<|.cc (azq j.1.2.1 aa.2.1.2.1) λal=>.cc (azn ak al) λam=>.lit 13000 2<|.jC<|.jq<|.jt<|.jt<|.jr<|.cc (azq j.1.2.2 aa.2.2.2.1) λan=>.cc (azn am an) λao=>.lit 13000 3<|.jD<|.cc (bz3 ao.Lo) λap=>.cc (bz3 ao.Hi) λaq=>.jq<|.jr<|.lit 15000 2<|.jC<|.unroll 4<|.jC<|.jq<|.jq<|.jq<|.jt<|.cc (azq j.1.1 aa.1.2.2) λar=>.cc (azn (⟨0,0⟩:az0) ar) λau=>.lit 13000 1<|.jC<|.jq<|.jr<|.jr<|.jt<|.cc (azq j.1.2.1 aa.2.1.2.2) λav=>.cc (azn au av) λaw=>.lit 13000 2<|.jC<|.jq<|.jt<|.jt<|.jt<|.cc (azq j.1.2.2 aa.2.2.2.2) λax=>.cc (azn aw ax) λay=>.lit 13000 3<|.jD<|.cc (bz3 ay.Lo) λaz=>.cc (bz3 ay.Hi) λa0=>.jq<|.jt<|.lit 15000 3<|.jD<|.lit 16000 1<|.jC<|.unroll 4<|.jC<|.unroll 4<|.jC<|.jr<|.jq<|.jq<|.jq<|.cc (azq j.2.1.1 aa.1.1) λa1=>.cc (azn (⟨0,0⟩:az0) a1) λa2=>.lit 13000 1<|.jC<|.jr<|.jr<|.jr<|.jq<|.cc (azq j.2.1.2.1 aa.2.1.1) λa3=>.cc (azn a2 a3) λa4=>.lit 13000 2<|.jC<|.jr<|.jt<|.jt<|.jq<|.cc (azq j.2.1.2.2 aa.2.2.1) λa5=>.cc (azn a4 a5) λa6=>.lit 13000 3<|.jD<|.cc (bz3 a6.Lo) λa7=>.cc (bz3 a6.Hi) λa8=>.jr<|.jq<|.lit 15000 1<|.jC<|.unroll 4<|.jC<|.jr<|.jq<|.jq<|.jr<|.cc (azq j.2.1.1 aa.1.2.1) λa9=>.cc (azn (⟨0,0⟩:az0) a9) λba=>.lit 13000 1<|.jC<|.jr<|.jr<|.jr<|.jr<|.cc (azq j.2.1.2.1 aa.2.1.2.1) λbb=>.cc (azn ba bb) λbc=>.lit 13000 2<|.jC<|.jr<|.jt<|.jt<|.jr<|.cc (azq j.2.1.2.2 aa.2.2.2.1) λbd=>.cc (azn bc bd) λbe=>.lit 13000 3<|.jD<|.cc (bz3 be.Lo) λbf=>.cc (bz3 be.Hi) λbg=>.jr<|.jr<|.lit 15000 2<|.jC<|.unroll 4<|.jC<|.jr<|.jq<|.jq<|.jt<|.cc (azq j.2.1.1 aa.1.2.2) λbh=>.cc (azn (⟨0,0⟩:az0) bh) λbi=>.lit 13000 1<|.jC<|.jr<|.jr<|.jr<|.jt<|.cc (azq j.2.1.2.1 aa.2.1.2.2) λbj=>.cc (azn bi bj) λbk=>.lit 13000 2<|.jC<|.jr<|.jt<|.jt<|.jt<|.cc (azq j.2.1.2.2 aa.2.2.2.2) λbl=>.cc (azn bk bl) λbm=>.lit 13000 3<|.jD<|.cc (bz3 bm.Lo) λbn=>.cc (bz3 bm.Hi) λbp=>.jr<|.jt<|.lit 15000 3<|.jD<|.lit 16000 2<|.jC<|.unroll 4<|.jC<|.unroll 4<|.jC<|.jt<|.jq<|.jq<|.jq<|.cc (azq j.2.2.1 aa.1.1) λbq=>.cc (azn (⟨0,0⟩:az0) bq) λbs=>.lit 13000 1<|.jC<|.jt<|.jr<|.jr<|.jq<|.cc (azq j.2.2.2.1 aa.2.1.1) λbt=>.cc (azn bs bt) λbu=>.lit 13000 2<|.jC<|.jt<|.jt<|.jt<|.jq<|.cc (azq j.2.2.2.2 aa.2.2.1) λbv=>.cc (azn bu bv) λbw=>.lit 13000 3<|.jD<|.cc (bz3 bw.Lo) λbx=>.cc (bz3 bw.Hi) λbz=>.jt<|.jq<|.lit 15000 1<|.jC<|.unroll 4<|.jC<|.jt<|.jq<|.jq<|.jr<|.cc (azq j.2.2.1 aa.1.2.1) λb7=>.cc (azn (⟨0,0⟩:az0) b7) λb8=>.lit 13000 1<|.jC<|.jt<|.jr<|.jr<|.jr<|.cc (azq j.2.2.2.1 aa.2.1.2.1) λb9=>.cc (azn b8 b9) λca=>.lit 13000 2<|.jC<|.jt<|.jt<|.jt<|.jr<|.cc (azq j.2.2.2.2 aa.2.2.2.1) λcb=>.cc (azn ca cb) λcc=>.lit 13000 3<|.jD<|.cc (bz3 cc.Lo) λcd=>.cc (bz3 cc.Hi) λce=>.jt<|.jr<|.lit 15000 2<|.jC<|.unroll 4<|.jC<|.jt<|.jq<|.jq<|.jt<|.cc (azq j.2.2.1 aa.1.2.2) λcf=>.cc (azn (⟨0,0⟩:az0) cf) λcg=>.lit 13000 1<|.jC<|.jt<|.jr<|.jr<|.jt<|.cc (azq j.2.2.2.1 aa.2.1.2.2) λch=>.cc (azn cg ch) λci=>.lit 13000 2<|.jC<|.jt<|.jt<|.jt<|.jt<|.cc (azq j.2.2.2.2 aa.2.2.2.2) λcj=>.cc (azn ci cj) λck=>.lit 13000 3<|.jD<|.cc (bz3 ck.Lo) λcl=>.cc (bz3 ck.Hi) λcm=>.jt<|.jt<|.lit 15000 3<|.jD<|.lit 16000 3<|.jD<|.jE (((⟨ah,ai⟩:az0),(⟨ap,aq⟩:az0),(⟨az,a0⟩:az0)),((⟨a7,a8⟩:az0),(⟨bf,bg⟩:az0),(⟨bn,bp⟩:az0)),((⟨bx,bz⟩:az0),(⟨cd,ce⟩:az0),(⟨cl,cm⟩:az0)))
def Bzj:=
 mkp2 func264 pz6
def vzm (j:Bp)(aa:Bm):T Bm:=
 .unroll 4<|.jC<|.unroll 4<|.jC<|.jq<|.jq<|.jq<|.jq<|.cc (azq j.1.1 aa.1) λab=>.cc (azn (⟨0,0⟩:az0) ab) λac=>.jq<|.lit 9000 1<|.jC<|.jq<|.jq<|.jr<|.jr<|.cc (azq j.1.2.1 aa.2.1) λad=>.cc (azn ac ad) λae=>.jq<|.lit 9000 2<|.jC<|.jq<|.jq<|.jt<|.jt<|.cc (azq j.1.2.2 aa.2.2) λaf=>.cc (azn ae af) λag=>.jq<|.lit 9000 3<|.jD<|.lit 10000 1<|.jC<|.unroll 4<|.jC<|.jr<|.jr<|.jq<|.jq<|.cc (azq j.2.1.1 aa.1) λah=>.cc (azn (⟨0,0⟩:az0) ah) λai=>.jr<|.lit 9000 1<|.jC<|.jr<|.jr<|.jr<|.jr<|.cc (azq j.2.1.2.1 aa.2.1) λaj=>.cc (azn ai aj) λak=>.jr<|.lit 9000 2<|.jC<|.jr<|.jr<|.jt<|.jt<|.cc (azq j.2.1.2.2 aa.2.2) λal=>.cc (azn ak al) λam=>.jr<|.lit 9000 3<|.jD<|.lit 10000 2<|.jC<|.unroll 4<|.jC<|.jt<|.jt<|.jq<|.jq<|.cc (azq j.2.2.1 aa.1) λan=>.cc (azn (⟨0,0⟩:az0) an) λao=>.jt<|.lit 9000 1<|.jC<|.jt<|.jt<|.jr<|.jr<|.cc (azq j.2.2.2.1 aa.2.1) λap=>.cc (azn ao ap) λaq=>.jt<|.lit 9000 2<|.jC<|.jt<|.jt<|.jt<|.jt<|.cc (azq j.2.2.2.2 aa.2.2) λar=>.cc (azn aq ar) λau=>.jt<|.lit 9000 3<|.jD<|.lit 10000 3<|.jD<|.jE (ag,am,au)
def Gzy:=
 mkp2 func217 vzm
def Dzd (j:Bm)(aa:Bm):T Bm:=
 .unroll 4<|.jC<|.jq<|.jq<|.cc (azn j.1 aa.1) λab=>.jq<|.lit 6000 1<|.jC<|.jr<|.jr<|.cc (azn j.2.1 aa.2.1) λac=>.jr<|.lit 6000 2<|.jC<|.jt<|.jt<|.cc (azn j.2.2 aa.2.2) λad=>.jt<|.lit 6000 3<|.jD<|.jE (ab,ac,ad)
def Oza:=
 mkp2 func216 Dzd
def jz3 (j:Bm)(aa:Int)(ab:Int)(ac:Int)(ad:Int)(ae:Int)(af:Int)(ag:Int)(ah:Int)(ai:Int)(aj:Int)(ak:Int)(al:Int)(am:Int)(an:Int)(ao:Int)(ap:Int)(aq:Int)(ar:Int)(au:Int)(av:Int)(aw:Int)(ax:Int)(ay:Int)(az:Int):T (Bm×Int×Int×Int×Int×Int×Int×Int×Int×Int×Int×Int×Int×Int×Int×Int×Int×Int×Int×Int×Int×Int×Int×Int×Int):=
 .cc (Gzy (((⟨aa,ab⟩:az0),(⟨ac,ad⟩:az0),(⟨ae,af⟩:az0)),((⟨ag,ah⟩:az0),(⟨ai,aj⟩:az0),(⟨ak,al⟩:az0)),((⟨am,an⟩:az0),(⟨ao,ap⟩:az0),(⟨aq,ar⟩:az0))) ((⟨j.1.Lo,j.1.Hi⟩:az0),(⟨j.2.1.Lo,j.2.1.Hi⟩:az0),(⟨j.2.2.Lo,j.2.2.Hi⟩:az0))) λa0=>.cc (Oza ((⟨au,av⟩:az0),(⟨aw,ax⟩:az0),(⟨ay,az⟩:az0)) a0) λa1=>.jE (a1,aa,ab,ac,ad,ae,af,ag,ah,ai,aj,ak,al,am,an,ao,ap,aq,ar,au,av,aw,ax,ay,az)
def nzr (j)(aa)(ab)(ac)(ad)(ae)(af)(ag)(ah)(ai)(aj)(ak)(al)(am)(an)(ao)(ap)(aq)(ar)(au)(av)(aw)(ax)(ay)(az):=
 mkD func215 (jz3 j aa ab ac ad ae af ag ah ai aj ak al am an ao ap aq ar au av aw ax ay az) 1 [q j,X7 0] [(0,.box [pz aa,pz ab,pz ac,pz ad,pz ae,pz af,pz ag,pz ah,pz ai,pz aj,pz ak,pz al,pz am,pz an,pz ao,pz ap,pz aq,pz ar,pz au,pz av,pz aw,pz ax,pz ay,pz az])] (λr=>q r.1) (λr=>[(0,.box [pz r.2.1,pz r.2.2.1,pz r.2.2.2.1,pz r.2.2.2.2.1,pz r.2.2.2.2.2.1,pz r.2.2.2.2.2.2.1,pz r.2.2.2.2.2.2.2.1,pz r.2.2.2.2.2.2.2.2.1,pz r.2.2.2.2.2.2.2.2.2.1,pz r.2.2.2.2.2.2.2.2.2.2.1,pz r.2.2.2.2.2.2.2.2.2.2.2.1,pz r.2.2.2.2.2.2.2.2.2.2.2.2.1,pz r.2.2.2.2.2.2.2.2.2.2.2.2.2.1,pz r.2.2.2.2.2.2.2.2.2.2.2.2.2.2.1,pz r.2.2.2.2.2.2.2.2.2.2.2.2.2.2.2.1,pz r.2.2.2.2.2.2.2.2.2.2.2.2.2.2.2.2.1,pz r.2.2.2.2.2.2.2.2.2.2.2.2.2.2.2.2.2.1,pz r.2.2.2.2.2.2.2.2.2.2.2.2.2.2.2.2.2.2.1,pz r.2.2.2.2.2.2.2.2.2.2.2.2.2.2.2.2.2.2.2.1,pz r.2.2.2.2.2.2.2.2.2.2.2.2.2.2.2.2.2.2.2.2.1,pz r.2.2.2.2.2.2.2.2.2.2.2.2.2.2.2.2.2.2.2.2.2.1,pz r.2.2.2.2.2.2.2.2.2.2.2.2.2.2.2.2.2.2.2.2.2.2.1,pz r.2.2.2.2.2.2.2.2.2.2.2.2.2.2.2.2.2.2.2.2.2.2.2.1,pz r.2.2.2.2.2.2.2.2.2.2.2.2.2.2.2.2.2.2.2.2.2.2.2.2])])
def vzo (j:bz4)(aa:bz4):T bz4:=
 .cc (uzj j) λab=>.cc (Bzj j.R aa.R) λac=>.call (nzr aa.T ab.1 ab.2.1 ab.2.2.1 ab.2.2.2.1 ab.2.2.2.2.1 ab.2.2.2.2.2.1 ab.2.2.2.2.2.2.1 ab.2.2.2.2.2.2.2.1 ab.2.2.2.2.2.2.2.2.1 ab.2.2.2.2.2.2.2.2.2.1 ab.2.2.2.2.2.2.2.2.2.2.1 ab.2.2.2.2.2.2.2.2.2.2.2.1 ab.2.2.2.2.2.2.2.2.2.2.2.2.1 ab.2.2.2.2.2.2.2.2.2.2.2.2.2.1 ab.2.2.2.2.2.2.2.2.2.2.2.2.2.2.1 ab.2.2.2.2.2.2.2.2.2.2.2.2.2.2.2.1 ab.2.2.2.2.2.2.2.2.2.2.2.2.2.2.2.2.1 ab.2.2.2.2.2.2.2.2.2.2.2.2.2.2.2.2.2.1 ab.2.2.2.2.2.2.2.2.2.2.2.2.2.2.2.2.2.2.1 ab.2.2.2.2.2.2.2.2.2.2.2.2.2.2.2.2.2.2.2.1 ab.2.2.2.2.2.2.2.2.2.2.2.2.2.2.2.2.2.2.2.2.1 ab.2.2.2.2.2.2.2.2.2.2.2.2.2.2.2.2.2.2.2.2.2.1 ab.2.2.2.2.2.2.2.2.2.2.2.2.2.2.2.2.2.2.2.2.2.2.1 ab.2.2.2.2.2.2.2.2.2.2.2.2.2.2.2.2.2.2.2.2.2.2.2) [(0,256)] λad=>.jE (⟨(ac.1,ac.2.1,ac.2.2),ad.1⟩:bz4)
def jz2:=
 mkp2 func211 vzo
def Cza (j:Int)(aa:az0):T bz4:=
 .cut 2 (λs (ab:C3)=>pk s [4,5] [64] [] [(128,.box [pz ab.1,pz ab.2.1,pz ab.2.2.1,pz ab.2.2.2.1,pz ab.2.2.2.2.1,pz ab.2.2.2.2.2])]) (.cas 2000 j 0 (.jq<|.oo (aa.Lo,aa.Hi,0,0,0,0)) (.cas 2000 j 1 (.jr<|.oo (0,0,aa.Lo,aa.Hi,0,0)) (.cas 2000 j 2 (.jt<|.oo (0,0,0,0,aa.Lo,aa.Hi)) (.stop)))) λab=>.cc (uzi ((⟨ab.1,ab.2.1⟩:az0),(⟨ab.2.2.1,ab.2.2.2.1⟩:az0),(⟨ab.2.2.2.2.1,ab.2.2.2.2.2⟩:az0))) λac=>.jE ac
def Nzx:=
 mkp2 func310 Cza
def pz2 (j:az0):T Int:=
 .cc (bzy j) λaa=>.br (!aa) (.jE 0) (.jE (qt.wrap (j.Hi-j.Lo)))
def pz1:=
 mkp1 func518 pz2
def rzk (j:Int):T Int:=
 .jE (qt.wrap (((BitVec.ofInt 64 j&&&BitVec.ofInt 64 65535).toNat:Int)))
def kzq:=
 mkp1 func521 rzk
def ozr (j:Int):T (Cc×Cc):=
 .ix 0 11 rfl<|.ix 0 11 rfl<|.cc (bza (qt.wrap (j * 6746518852)) 16) λaa=>.ju<|.cc (bzl (qt.wrap (j * 6746518853)) 16) λab=>.ju<|.unroll 10<|.jC<|.lit 8002 1<|.ju<|.ju<|.cc (bza (qt.wrap (aa * aa)) 30) λac=>.jv<|.lit 9002 1<|.ju<|.ju<|.cc (bzl (qt.wrap (ab * ab)) 30) λad=>.jv<|.lit 7001 3<|.jC<|.lit 8002 2<|.jv<|.ju<|.cc (bza (qt.wrap (ac * aa)) 30) λae=>.jw<|.lit 9002 2<|.jv<|.ju<|.cc (bzl (qt.wrap (ad * ab)) 30) λaf=>.jw<|.lit 7001 4<|.jC<|.lit 8002 3<|.jw<|.ju<|.cc (bza (qt.wrap (ae * aa)) 30) λag=>.jx<|.lit 9002 3<|.jw<|.ju<|.cc (bzl (qt.wrap (af * ab)) 30) λah=>.jx<|.lit 7001 5<|.jC<|.lit 8002 4<|.jx<|.ju<|.cc (bza (qt.wrap (ag * aa)) 30) λai=>.jy<|.lit 9002 4<|.jx<|.ju<|.cc (bzl (qt.wrap (ah * ab)) 30) λaj=>.jy<|.lit 7001 6<|.jC<|.lit 8002 5<|.jy<|.ju<|.cc (bza (qt.wrap (ai * aa)) 30) λak=>.jz<|.lit 9002 5<|.jy<|.ju<|.cc (bzl (qt.wrap (aj * ab)) 30) λal=>.jz<|.lit 7001 7<|.jC<|.lit 8002 6<|.jz<|.ju<|.cc (bza (qt.wrap (ak * aa)) 30) λam=>.jA<|.lit 9002 6<|.jz<|.ju<|.cc (bzl (qt.wrap (al * ab)) 30) λan=>.jA<|.lit 7001 8<|.jC<|.lit 8002 7<|.jA<|.ju<|.cc (bza (qt.wrap (am * aa)) 30) λao=>.jB<|.lit 9002 7<|.jA<|.ju<|.cc (bzl (qt.wrap (an * ab)) 30) λap=>.jB<|.lit 7001 9<|.jC<|.lit 8002 8<|.jB<|.ju<|.cc (bza (qt.wrap (ao * aa)) 30) λaq=>.ix 9 11 rfl<|.lit 9002 8<|.jB<|.ju<|.cc (bzl (qt.wrap (ap * ab)) 30) λar=>.ix 9 11 rfl<|.lit 7001 10<|.jC<|.lit 8002 9<|.ix 9 11 rfl<|.ju<|.cc (bza (qt.wrap (aq * aa)) 30) λau=>.ix 10 11 rfl<|.lit 9002 9<|.ix 9 11 rfl<|.ju<|.cc (bzl (qt.wrap (ar * ab)) 30) λav=>.ix 10 11 rfl<|.lit 7001 11<|.jD<|.jE ((1073741824,aa,ac,ae,ag,ai,ak,am,ao,aq,au),(1073741824,ab,ad,af,ah,aj,al,an,ap,ar,av))
def ozq:=
 mkq1 func535 ozr (λr=>.tup [.pure (jzh r.1),.pure (jzh r.2)])
def rzj (j:Int)(aa:Int):T Int:=
 .grd (aa≠0)<|.jE (qt.wrap ((qt.wrap ((qt.wrap (j+aa))-1)).tdiv aa))
def dzb:=
 mkp2 func537 rzj
def jzq (j:A4):T Int:=
 .loop (λs (aa:Bh)=>pk s [7,8] [] [(3,pz aa.1),(4,pz aa.2.1),(9,pz aa.2.2)] []) (.exit 0) (ik 3 [] []) (λaa=>.jR (aa.2.2<(j.length:Int)) (.gh aa.2.2 j.length<|.nn ((qt.wrap (aa.1+(qt.wrap (aa.2.1 * (j.getD (X3 aa.2.2) qu))))),(qt.wrap (0-aa.2.1)),(qt.wrap (aa.2.2+1)))) (.oo aa.1)) (0,1,0) [] λaa=>.jE aa
def czu:=
 mkp1 func536 jzq
def mze (j:Int)(aa:Int):T az0:=
 .cc (bza j 14) λab=>.cc (bzl aa 14) λac=>.jE (⟨(max 0 ab),(min 65536 ac)⟩:az0)
def mzd:=
 mkp2 func538 mze
def Cz9 (j:Int):T az0:=
 .cc (ozq j) λaa=>.ju<|.jw<|.cc (dzb aa.2.2.2.2.1 6) λab=>.jy<|.ok ((120:Int)≠0) jF<|.jA<|.cc (dzb aa.2.2.2.2.2.2.2.2.1 5040) λac=>let ad:=([aa.1.2.1,ab,(qt.wrap (aa.1.2.2.2.2.2.1.tdiv 120)),ac]:A4);
 .conv 2011 (kL ad 2)<|.cc (czu ad) λae=>.ju<|.jw<|.ok ((6:Int)≠0) jF<|.jy<|.cc (dzb aa.2.2.2.2.2.2.1 120) λaf=>.jA<|.ok ((5040:Int)≠0) jF<|.ix 9 11 rfl<|.cc (dzb aa.2.2.2.2.2.2.2.2.2.2.1 362880) λag=>let ah:=([aa.2.2.1,(qt.wrap (aa.1.2.2.2.1.tdiv 6)),af,(qt.wrap (aa.1.2.2.2.2.2.2.2.1.tdiv 5040)),ag]:A4);
 .conv 3014 (kL ah 2)<|.cc (czu ah) λai=>.cc (mzd ae ai) λaj=>.jE aj
def Nzw:=
 mkp1 func528 Cz9
def vz5 (j:Int):T az0:=
 .cc (ozq j) λaa=>.jv<|.cc (dzb aa.2.2.2.1 2) λab=>.jx<|.ok ((24:Int)≠0) jF<|.jz<|.cc (dzb aa.2.2.2.2.2.2.2.1 720) λac=>.jB<|.ok ((40320:Int)≠0) jF<|.ix 10 11 rfl<|.cc (dzb aa.2.2.2.2.2.2.2.2.2.2.2 3628800) λad=>let ae:=([1073741824,ab,(qt.wrap (aa.1.2.2.2.2.1.tdiv 24)),ac,(qt.wrap (aa.1.2.2.2.2.2.2.2.2.1.tdiv 40320)),ad]:A4);
 .conv 2015 (kL ae 2)<|.cc (czu ae) λaf=>.jv<|.ok ((2:Int)≠0) jF<|.jx<|.cc (dzb aa.2.2.2.2.2.1 24) λag=>.jz<|.ok ((720:Int)≠0) jF<|.jB<|.cc (dzb aa.2.2.2.2.2.2.2.2.2.1 40320) λah=>let ai:=([1073741824,(qt.wrap (aa.1.2.2.1.tdiv 2)),ag,(qt.wrap (aa.1.2.2.2.2.2.2.1.tdiv 720)),ah]:A4);
 .conv 3012 (kL ai 2)<|.cc (czu ai) λaj=>.cc (mzd af aj) λak=>.jE ak
def Gzk:=
 mkp1 func529 vz5
def yzh (j:Int):T az0:=
 .jR (j<=8192) (.cc (Nzw j) λaa=>.jE aa) (.cc (Gzk (qt.wrap (16384-j))) λaa=>.jE aa)
def kzo:=
 mkp1 func522 yzh
def vzl (j:az0):T az0:=
 .cc (bzy j) λaa=>.br (!aa) (.jE (⟨0,0⟩:az0)) (.jE (⟨(qt.wrap (0-j.Hi)),(qt.wrap (0-j.Lo))⟩:az0))
def nzn:=
 mkp1 func479 vzl
def Hzr (j:Int):T az0:=
 .cc (kzq j) λaa=>let ab:=aa.tmod 16384;let ac:=qt.wrap (aa.tdiv 16384);let ad:=qt.wrap (16384-ab);
 .ok ((16384:Int)≠0) jF<|.ok ((16384:Int)≠0) jF<|.br (ac==0) (.cc (kzo ab) λae=>.jE ae) (.br (ac==1) (.cc (kzo ad) λae=>.jE ae) (.br (ac==2) (.cc (kzo ab) λae=>.cc (nzn ae) λaf=>.jE af) (.cc (kzo ad) λae=>.cc (nzn ae) λaf=>.jE af)))
def yzg:=
 mkp1 func509 Hzr
def Hzq (j:Int):T az0:=
 .cc (kzq j) λaa=>.cc (yzg (qt.wrap (aa+16384))) λab=>.jE ab
def Hzp:=
 mkp1 func508 Hzq
def rzz (j:az0)(aa:az0):T az0:=
 .cc (jzj j aa) λab=>.br (!ab) (.jE (⟨0,0⟩:az0)) (.jE (⟨(min j.Lo aa.Lo),(max j.Hi aa.Hi)⟩:az0))
def fzd:=
 mkp2 func519 rzz
def vzj (j:az0)(aa:Int):T Bool:=
 .cc (bzy j) λab=>.br ab (.jR (j.Lo<=aa) (.jE (qv (aa<=j.Hi))) (.jE false)) (.jE false)
def Gzs:=
 mkp2 func527 vzj
def yzi (j:az0)(aa:Int):T Bool:=
 .cc (kzq (qt.wrap (aa-j.Lo))) λab=>.cc (Gzs j (qt.wrap (j.Lo+ab))) λac=>.jE ac
def kzp:=
 mkp2 func520 yzi
def Cz8 (j:az0)(aa:Int)(ab:Int):T az0:=
 .cc (bzy j) λac=>.br (!ac) (.jE (⟨0,0⟩:az0)) (.cc (pz1 j) λad=>.jR (ad>=65536) (.jE (⟨(-65536),65536⟩:az0)) (.cc (Hzp j.Lo) λae=>.cc (Hzp j.Hi) λaf=>.cc (fzd ae af) λag=>.cut 0 (λs (ah:B2)=>pk s [3,4,8,9] [0,64] [] [(1088,.box [pz ah.1,pz ah.2])]) (.cc (kzp j aa) λah=>.br ah (.cc (czl 65536) λai=>.cc (fzd ag ai) λaj=>.oo (aj.Lo,aj.Hi)) (.oo (ag.Lo,ag.Hi))) λah=>.cut 0 (λs (ai:B2)=>pk s [8,9] [64] [] [(1088,.box [pz ai.1,pz ai.2])]) (.cc (kzp j ab) λai=>.br ai (.cc (czl (-65536)) λaj=>.cc (fzd (⟨ah.1,ah.2⟩:az0) aj) λak=>.oo (ak.Lo,ak.Hi)) (.oo (ah.1,ah.2))) λai=>.jE (⟨ai.1,ai.2⟩:az0)))
def Nzv (j)(aa)(ab):=
 mkD func507 (Cz8 j aa ab) 0 [q j,.func 508 [] [],pz aa,pz ab] [] (λr=>q r) X6
def rzh (j:az0):T az0:=
 .cc (Nzv j 0 32768) λaa=>.jE aa
def Cz6:=
 mkp1 func477 rzh
def vz6 (j:az0)(aa:Int)(ab:Int):T az0:=
 .cc (bzy j) λac=>.br (!ac) (.jE (⟨0,0⟩:az0)) (.cc (pz1 j) λad=>.jR (ad>=65536) (.jE (⟨(-65536),65536⟩:az0)) (.cc (yzg j.Lo) λae=>.cc (yzg j.Hi) λaf=>.cc (fzd ae af) λag=>.cut 0 (λs (ah:B2)=>pk s [3,4,8,9] [0,64] [] [(1088,.box [pz ah.1,pz ah.2])]) (.cc (kzp j aa) λah=>.br ah (.cc (czl 65536) λai=>.cc (fzd ag ai) λaj=>.oo (aj.Lo,aj.Hi)) (.oo (ag.Lo,ag.Hi))) λah=>.cut 0 (λs (ai:B2)=>pk s [8,9] [64] [] [(1088,.box [pz ai.1,pz ai.2])]) (.cc (kzp j ab) λai=>.br ai (.cc (czl (-65536)) λaj=>.cc (fzd (⟨ah.1,ah.2⟩:az0) aj) λak=>.oo (ak.Lo,ak.Hi)) (.oo (ah.1,ah.2))) λai=>.jE (⟨ai.1,ai.2⟩:az0)))
def Gzl (j)(aa)(ab):=
 mkD func507 (vz6 j aa ab) 0 [q j,.func 509 [] [],pz aa,pz ab] [] (λr=>q r) X6
def rzi (j:az0):T az0:=
 .cc (Gzl j 16384 49152) λaa=>.jE aa
def Cz7:=
 mkp1 func478 rzi
def zzi (j:Int)(aa:az0):T Bp:=let ab:=(⟨aa.Lo,aa.Hi⟩:az0);.cc (bzy aa) λac=>.br (!ac) (.jE (((⟨0,0⟩:az0),(⟨0,0⟩:az0),(⟨0,0⟩:az0)),((⟨0,0⟩:az0),(⟨0,0⟩:az0),(⟨0,0⟩:az0)),((⟨0,0⟩:az0),(⟨0,0⟩:az0),(⟨0,0⟩:az0)))) (.cc (Cz6 ab) λad=>.cc (Cz7 ab) λae=>.cc (nzn ae) λaf=>.cc (czl 65536) λag=>.cc (czl 0) λah=>.br (j==0) (.jE ((ag,ah,ah),(ah,ad,af),(ah,ae,ad))) (.br (j==1) (.jE ((ad,ah,ae),(ah,ag,ah),(af,ah,ad))) (.br (j==2) (.jE ((ad,af,ah),(ae,ad,ah),(ah,ah,ag))) (.jE (((⟨0,0⟩:az0),(⟨0,0⟩:az0),(⟨0,0⟩:az0)),((⟨0,0⟩:az0),(⟨0,0⟩:az0),(⟨0,0⟩:az0)),((⟨0,0⟩:az0),(⟨0,0⟩:az0),(⟨0,0⟩:az0)))))))
def Jzv:=
 mkp2 func425 zzi
def Izh (j:Int)(aa:az0):T bz4:=
 .cc (Jzv j (⟨aa.Lo,aa.Hi⟩:az0)) λab=>.cc (pose_still_C) λac=>.jE (⟨ab,ac⟩:bz4)
def Szo:=
 mkp2 func363 Izh
def Hzt (j:Int)(aa:az0):T bz4:=
 .cc (Szo j (⟨aa.Lo,aa.Hi⟩:az0)) λab=>.jE ab
def Qzy:=
 mkp2 func309 Hzt
def kzy (j:azs)(aa:az0):T bz4:=
 .cc (jz1 j.Xy) λab=>.cc (uzi ((⟨ab.1.Lo,ab.1.Hi⟩:az0),(⟨ab.2.1.Lo,ab.2.1.Hi⟩:az0),(⟨ab.2.2.Lo,ab.2.2.Hi⟩:az0))) λac=>let ad:=(⟨ac.R,ac.T⟩:bz4);
 .split (((gze j.Xn).o).isSome) (.cc (gze j.Xn) λae=>.cc (Qzy ae (⟨aa.Lo,aa.Hi⟩:az0)) λaf=>.cc (jz2 ad af) λag=>.jE ag) (.split (((gzg j.Xn).o).isSome) (.cc (gzg j.Xn) λae=>.cc (Nzx ae aa) λaf=>.cc (jz2 ac af) λag=>.jE ag) (.cc (kz6 j.Xn) λae=>.cc (Qzx ae aa) λaf=>.cc (jz2 ad (⟨af.R,af.T⟩:bz4)) λag=>.jE ag))
def uz7:=
 mkp2 func210 kzy
def lz1 (j:azk)(aa:Ae):T Ag:=let ab:=(j.Xc.length:Int);.conv 1003 (Czk 24 az5v 151 ab.toNat (⟨(((⟨0,0⟩:az0),(⟨0,0⟩:az0),(⟨0,0⟩:az0)),((⟨0,0⟩:az0),(⟨0,0⟩:az0),(⟨0,0⟩:az0)),((⟨0,0⟩:az0),(⟨0,0⟩:az0),(⟨0,0⟩:az0))),((⟨0,0⟩:az0),(⟨0,0⟩:az0),(⟨0,0⟩:az0))⟩:bz4))<|.grd (0<=ab/\ab<=ab/\ab<=9223372036854775807/\ab * 192<=140737488355328)<|.loop (λs (ac:(Ag×Int))=>pk s [1,5,13,14] [] [(15,pz ac.2)] [(320,vO ac.1 151)]) (.exit 0) (λs (ac:Ag)=>pk s [5] [] [] [(320,vO ac 151)]) (λac=>let ad:=(ac.2).toNat;let ae:=j.Xc.getD ad qu;let af:=ae.XD;.jR (ac.2<ab) (.cut 0 (λs (ag:Ag)=>pk s [1,5,13,14,15] [] [] [(320,vO ag 151)]) (.gh ac.2 j.Xc.length<|.gh ac.2 aa.length<|.cc (uz7 ae (aa.getD ad qu)) λag=>let ah:=ac.1.set ad ag;let ai:=ah.length;
 .gh ac.2 ac.1.length<|.conv 5009 (kS ac.1 151 ad ag)<|.gi (ac.2) ac.1.length<|.br (af !=(-1)) (.gg af ai<|.gg ac.2 ai<|.call (jz2 (ah.getD (af.toNat) qu) (ah.getD ad qu)) [] λaj=>.gh ac.2 ai<|.conv 7013 (kS ah 151 ad aj)<|.gi (ac.2) ai<|.oo (ah.set ad aj)) (.oo ah)) λag=>.nn (ag,(qt.wrap (ac.2+1)))) (.oo ac.1)) ((qs ab.toNat ((⟨(((⟨0,0⟩:az0),(⟨0,0⟩:az0),(⟨0,0⟩:az0)),((⟨0,0⟩:az0),(⟨0,0⟩:az0),(⟨0,0⟩:az0)),((⟨0,0⟩:az0),(⟨0,0⟩:az0),(⟨0,0⟩:az0))),((⟨0,0⟩:az0),(⟨0,0⟩:az0),(⟨0,0⟩:az0))⟩:bz4):bz4)),0) [] λac=>.jE ac
def hzm:=
 mkp2 func148 lz1
def kzz (j:azk)(aa:Ae):T Ag:=let ab:=(⟨j.Xc,j.Xv⟩:azk);.cub 2 13 [1,2] [0] (.cc (hzk ab aa) λac=>.jS (!ac) (.cc (fz3 ab) λad=>.oo (ad !=0))) λac=>.br ac (.jE nl) (.cc (hzm ab aa) λad=>.jE ad)
def uz8:=
 mkp2 func92 kzz
def Dzj (j:bz4)(aa:Bm):T Bm:=
 .cc (uzj j) λab=>.call (nzr aa ab.1 ab.2.1 ab.2.2.1 ab.2.2.2.1 ab.2.2.2.2.1 ab.2.2.2.2.2.1 ab.2.2.2.2.2.2.1 ab.2.2.2.2.2.2.2.1 ab.2.2.2.2.2.2.2.2.1 ab.2.2.2.2.2.2.2.2.2.1 ab.2.2.2.2.2.2.2.2.2.2.1 ab.2.2.2.2.2.2.2.2.2.2.2.1 ab.2.2.2.2.2.2.2.2.2.2.2.2.1 ab.2.2.2.2.2.2.2.2.2.2.2.2.2.1 ab.2.2.2.2.2.2.2.2.2.2.2.2.2.2.1 ab.2.2.2.2.2.2.2.2.2.2.2.2.2.2.2.1 ab.2.2.2.2.2.2.2.2.2.2.2.2.2.2.2.2.1 ab.2.2.2.2.2.2.2.2.2.2.2.2.2.2.2.2.2.1 ab.2.2.2.2.2.2.2.2.2.2.2.2.2.2.2.2.2.2.1 ab.2.2.2.2.2.2.2.2.2.2.2.2.2.2.2.2.2.2.2.1 ab.2.2.2.2.2.2.2.2.2.2.2.2.2.2.2.2.2.2.2.2.1 ab.2.2.2.2.2.2.2.2.2.2.2.2.2.2.2.2.2.2.2.2.2.1 ab.2.2.2.2.2.2.2.2.2.2.2.2.2.2.2.2.2.2.2.2.2.2.1 ab.2.2.2.2.2.2.2.2.2.2.2.2.2.2.2.2.2.2.2.2.2.2.2) [(0,256)] λac=>.jE ac.1
def Dzi:=
 mkp2 func94 Dzj
def Mzg (j:az2)(aa:Int)(ab:Int)(ac:A4):T Bool:=let ad:=qt.wrap (65536-j.Xq);let ae:=qt.wrap (0-j.Xq);let af:=j.Xi.getD (aa.toNat) qu;let ag:=j.Xh.getD (ab.toNat) qu;.cub 2 35 [1,2,3,4] [0] (.cc (izd j) λah=>.jS (ah !=0) (.cc (zz1 j aa ab) λai=>.jS (!ai) (.cc (bzt j.Xl.Xf ac) λaj=>.oo (!aj)))) λah=>.br ah (.jE false) (.gh aa j.Xi.length<|.cc (Czd ac) λai=>.cc (uz8 j.Xl.Xf ai) λaj=>let ak:=aj.getD (X3 af.XA) qu;let al:=ak.R.1.2.1.Lo;let am:=ak.R.1.2.2.Lo;let an:=ak.R.2.1.1.Lo;let ao:=ak.R.2.2.1.Lo;let ap:=ak.R.2.1.2.2.Lo;let aq:=ak.R.2.2.2.1.Lo;let ar:=qv (al<ae);let au:=qv (am<ae);let av:=qv (an<ae);let aw:=qv (ap<ae);let ax:=qv (ao<ae);let ay:=qv (aq<ae);let az:=qv ((ak.R.1.2.1.Hi)>j.Xq);let a0:=qv ((ak.R.1.2.2.Hi)>j.Xq);let a1:=qv ((ak.R.2.1.1.Hi)>j.Xq);let a2:=qv ((ak.R.2.1.2.2.Hi)>j.Xq);let a3:=qv ((ak.R.2.2.1.Hi)>j.Xq);let a4:=qv ((ak.R.2.2.2.1.Hi)>j.Xq);
 .gh (af.XA) aj.length<|.unroll 4<|.jC<|.jq<|.unroll 4<|.jC<|.jq<|.jC<|.jR ((ak.R.1.1.Lo)<ad) (.jE false) (.jD<|.lit 15000 1<|.jC<|.jr<|.jD<|.cut 0 (λs (a5:Bt)=>pk s [2,4,9,10,11,52,53,57,58,66,67,68,69,70,71] [0,512,1280,4672] [(77,X7 4672),(78,pz al),(79,.ptr 0 8),(80,pz j.Xq),(81,pz ae),(82,q ar),(83,q a5.1),(89,q a5.2.1),(90,q a5.2.2)] []) (.jC<|.br ar (.oo (true,true,true)) (.oo (false,az,az))) λa5=>.br a5.2.2 (.jE false) (.lit 15000 2<|.jC<|.jt<|.jD<|.cut 0 (λs (a6:Bt)=>pk s [2,4,9,10,11,52,53,57,58,66,67,68,69,70,71,79,80,81] [0,512,1280,5952] [(77,X7 5952),(78,pz am),(82,q au),(83,q a6.1),(89,q a6.2.1),(90,q a6.2.2)] []) (.jC<|.br au (.oo (true,true,true)) (.oo (false,a0,a0))) λa6=>.br a6.2.2 (.jE false) (.lit 15000 3<|.jD<|.lit 16000 1<|.jC<|.jr<|.unroll 4<|.jC<|.jq<|.jD<|.cut 0 (λs (a7:Bt)=>pk s [2,4,9,10,11,52,53,57,58,66,67,68,69,70,71,79,80,81] [0,512,1280,7936] [(77,X7 7936),(78,pz an),(82,q av),(83,q a7.1),(89,q a7.2.1),(90,q a7.2.2)] []) (.jC<|.br av (.oo (true,true,true)) (.oo (false,a1,a1))) λa7=>.br a7.2.2 (.jE false) (.lit 15000 1<|.jC<|.jr<|.jC<|.jR ((ak.R.2.1.2.1.Lo)<ad) (.jE false) (.jD<|.lit 15000 2<|.jC<|.jt<|.jD<|.cut 0 (λs (a8:Bt)=>pk s [2,4,9,10,11,52,53,57,58,66,67,68,69,70,71] [0,512,1280,11584] [(77,X7 11584),(78,pz ap),(79,.ptr 0 8),(80,pz j.Xq),(81,pz ae),(82,q aw),(83,q a8.1),(89,q a8.2.1),(90,q a8.2.2)] []) (.jC<|.br aw (.oo (true,true,true)) (.oo (false,a2,a2))) λa8=>.br a8.2.2 (.jE false) (.lit 15000 3<|.jD<|.lit 16000 2<|.jC<|.jt<|.unroll 4<|.jC<|.jq<|.jD<|.cut 0 (λs (a9:Bt)=>pk s [2,4,9,10,11,52,53,57,58,66,67,68,69,70,71,79,80,81] [0,512,1280,13568] [(77,X7 13568),(78,pz ao),(82,q ax),(83,q a9.1),(89,q a9.2.1),(90,q a9.2.2)] []) (.jC<|.br ax (.oo (true,true,true)) (.oo (false,a3,a3))) λa9=>.br a9.2.2 (.jE false) (.lit 15000 1<|.jC<|.jr<|.jD<|.cut 0 (λs (ba:Bt)=>pk s [2,4,9,10,11,52,53,57,58,66,67,68,69,70,71,79,80,81] [0,512,1280,14848] [(77,X7 14848),(78,pz aq),(82,q ay),(83,q ba.1),(89,q ba.2.1),(90,q ba.2.2)] []) (.jC<|.br ay (.oo (true,true,true)) (.oo (false,a4,a4))) λba=>.br ba.2.2 (.jE false) (.lit 15000 2<|.jC<|.jt<|.jC<|.jR ((ak.R.2.2.2.2.Lo)<ad) (.jE false) (.jD<|.lit 15000 3<|.jD<|.lit 16000 3<|.jD<|.gh ab j.Xh.length<|.cc (jz1 (af.Xy)) λbb=>.call (Dzi ak bb) [] λbc=>.unroll 4<|.jC<|.jq<|.cub 0 126 [4,15,102,103] [0,18880] (.jq<|.jU (bc.1.Lo<(qt.wrap ((ag.1)-j.Xq))) (.jq<|.oo (qv (bc.1.Hi>(qt.wrap ((ag.1)+j.Xq)))))) λbd=>.br bd (.jE false) (.lit 23000 1<|.jC<|.jr<|.cub 0 126 [4,15,102,103] [0,18880] (.jr<|.jU (bc.2.1.Lo<(qt.wrap ((ag.2.1)-j.Xq))) (.jr<|.oo (qv (bc.2.1.Hi>(qt.wrap ((ag.2.1)+j.Xq)))))) λbe=>.br be (.jE false) (.lit 23000 2<|.jC<|.jt<|.cub 0 126 [4,15,102,103] [0,18880] (.jt<|.jU (bc.2.2.Lo<(qt.wrap ((ag.2.2)-j.Xq))) (.jt<|.oo (qv (bc.2.2.Hi>(qt.wrap ((ag.2.2)+j.Xq)))))) λbf=>.br bf (.jE false) (.lit 23000 3<|.jD<|.jE true)))))))))))))
def izc:=
 mkp4 func44 Mzg
def pzt (j:azk):T A4:=let aa:=(j.Xc.length:Int);let ab:=qt.wrap (aa+1);let ac:=qs ab.toNat (0:Int);.conv 1004 (Czk 1 bz6 3 ab.toNat 0)<|.grd (0<=ab/\ab<=ab/\ab<=9223372036854775807/\ab * 8<=140737488355328)<|.gh (0:Int) (ac.length)<|.conv 2002 (kS ac 3 (X3 (0:Int)) (-1))<|.gi (0:Int) (ac.length)<|.loop (λs (ad:Ah)=>pk s [3,14,15] [] [(16,pz ad.2)] [(384,vO ad.1 3)]) (.exit 0) (λs (ad:A4)=>pk s [3] [] [] [(384,vO ad 3)]) (λad=>let ae:=qt.wrap (ad.2+1);let af:=ae.toNat;let ag:=ad.1.set af ad.2;let ah:=ag.length;let ai:=j.Xc.getD (X3 ad.2) qu;let aj:=qt.wrap ((ai.XD)+1);.jR (ad.2<aa) (.cut 0 (λs (ak:A4)=>pk s [3,14,15,16] [] [] [(384,vO ak 3)]) (.gh ad.2 j.Xc.length<|.gh ae ad.1.length<|.conv 6005 (kS ad.1 3 af ad.2)<|.gi (ae) ad.1.length<|.br ((ai.Lo)==(ai.Hi)) (.gg aj ah<|.name 8008 ((ag.getD (aj.toNat) qu)) λak=>.gh ae ah<|.conv 8010 (kS ag 3 af ak)<|.gi (ae) ah<|.oo (ag.set af ak)) (.oo ag)) λak=>.nn (ak,ae)) (.oo ad.1)) ((ac.set (X3 (0:Int)) (-1)),0) [] λad=>.jE ad
def Bzr:=
 mkp1 func429 pzt
def tz8 (j:az7)(aa:Int)(ab:Int):T Bool:=
 .loop (ik 12 [1,2,10,11] []) (.exit 0) (jk [] []) (λac=>let ad:=j.Xr.getD (ac.toNat) qu;.jR (ac<(j.Xr.length:Int)) (.gh ac j.Xr.length<|.cub 0 27 [1,2,10,11,12] [] (.jS (((ad.A)==aa)&&(((ad.B)==ab)&&true)) (.oo (((ad.A)==ab)&&(((ad.B)==aa)&&true)))) λae=>.br ae (.ff true) (.nn (qt.wrap (ac+1)))) (.oo .u))
 0 [] λ_=>.jE false
def Ezy:=
 mkp3 func430 tz8
def Azy (j:az7):T Ai:=let aa:=(j.Xe.length:Int);.cc (ezb j) λab=>.br (ab !=0) (.jE nl) (.cc (Bzr j.Xf) λac=>.loop (λs (ad:Aj)=>pk s [1,3,4,17,18] [0] [(19,pz ad.2)] [(576,vO ad.1 274)]) (.exit 0) (λs (ad:Ai)=>pk s [4] [] [] [(576,vO ad 274)]) (λad=>let ae:=(j.Xe.getD (X3 ad.2) qu).XA;let af:=qt.wrap (ae+1);let ag:=qt.wrap (ad.2+1);.jR (ad.2<aa) (.gh ad.2 j.Xe.length<|.loop (λs (ah:Aj)=>pk s [1,3,4,5,6,17,18,19] [0,1216] [(7,pz ah.2)] [(576,vO ah.1 274)]) (.exit 2) (λs (ah:Ai)=>pk s [1,3,4,17,18,19] [0] [] [(576,vO ah 274)]) (λah=>let ai:=([(⟨ad.2,ah.2⟩:czi)]:Ai);let aj:=ah.1.length+ai.length;let ak:=(j.Xe.getD (X3 ah.2) qu).XA;let al:=qt.wrap (ak+1);.jR (ah.2<aa) (.cut 0 (λs (am:Ai)=>pk s [1,3,5,6,7,17,18,19] [0,1216] [(4,.vec 1984)] [(1984,vO am 274)]) (.gh ah.2 j.Xe.length<|.gh af ac.length<|.gh al ac.length<|.name 12011 ((ac.getD (al.toNat) qu)) λam=>.cub 0 61 [1,3,4,5,6,7,17,18,19] [0,576,1216] (.jT (!((ac.getD (af.toNat) qu)==am)) (.cc (Ezy j ae ak) λan=>.oo (!an))) λan=>.br an (.conv 14004 (kL ai 274)<|.conv 14005 (kA ah.1 ai 274)<|.grd (aj * 16<=140737488355328/\aj<=maxLen)<|.oo (ah.1++ai)) (.oo ah.1)) λam=>.nn (am,(qt.wrap (ah.2+1)))) (.oo ah.1)) (ad.1,ag) [] λah=>.nn (ah,ag)) (.oo ad.1)) (nl,0) [] λad=>.jE ad)
def Lz6:=
 mkp1 func372 Azy
def Bz1 (j:azh)(aa:bz4):T Bn:=let ab:=(j.Xa.length:Int);.cc (Azz j) λac=>.br (!ac) (.jE nl) (.conv 3003 (Czk 6 cz6 97 ab.toNat ((⟨0,0⟩:az0),(⟨0,0⟩:az0),(⟨0,0⟩:az0)))<|.grd (0<=ab/\ab<=ab/\ab<=9223372036854775807/\ab * 48<=140737488355328)<|.loop (λs (ad:(Bn×Int))=>pk s [3,5,16,17] [64] [(18,pz ad.2)] [(576,vO ad.1 97)]) (.exit 0) (λs (ad:Bn)=>pk s [5] [] [] [(576,vO ad 97)]) (λad=>let ae:=(ad.2).toNat;.jR (ad.2<ab) (.gh ad.2 j.Xa.length<|.cc (jz1 (j.Xa.getD ae qu)) λaf=>.cc (Dzi aa af) λag=>.gh ad.2 ad.1.length<|.conv 7007 (kS ad.1 97 ae ag)<|.gi (ad.2) ad.1.length<|.nn ((ad.1.set ae ag),(qt.wrap (ad.2+1)))) (.oo ad.1)) ((qs ab.toNat (((⟨0,0⟩:az0),(⟨0,0⟩:az0),(⟨0,0⟩:az0)):Bm)),0) [] λad=>.jE ad)
def Lzd:=
 mkp2 func431 Bz1
def jzs (j:az7)(aa:Ae):T Bo:=let ab:=(j.Xe.length:Int);.cub 2 19 [1,2] [0] (.cc (hzk j.Xf aa) λac=>.jS (!ac) (.cc (ezb j) λad=>.oo (ad !=0))) λac=>.br ac (.jE nl) (.cc (hzm j.Xf aa) λad=>.conv 4003 (azi3 1 (encL 6 cz6) 98 ab.toNat nl (.lst 0 0 λ_=>.unk) jJ)<|.grd (0<=ab/\ab<=ab/\ab<=9223372036854775807/\ab * 24<=140737488355328)<|.loop (λs (ae:(Bo×Int))=>pk s [5,6,29,30] [] [(31,pz ae.2)] [(704,vO ae.1 98)]) (.exit 0) (λs (ae:Bo)=>pk s [6] [] [] [(704,vO ae 98)]) (λae=>let af:=(ae.2).toNat;let ag:=j.Xe.getD af qu;let ah:=ag.XA;let ai:=ad.getD (ah.toNat) qu;.jR (ae.2<ab) (.gh ae.2 j.Xe.length<|.cc (pose_Identity_C) λaj=>.cut 0 (λs (ak:Ce)=>pk s [5,6,7,8,9,29,30,31] [704,1408] [] [(1664,.box [pz ak.1,pz ak.2.1,pz ak.2.2.1,pz ak.2.2.2.1,pz ak.2.2.2.2.1,pz ak.2.2.2.2.2.1,pz ak.2.2.2.2.2.2.1,pz ak.2.2.2.2.2.2.2.1,pz ak.2.2.2.2.2.2.2.2.1,pz ak.2.2.2.2.2.2.2.2.2.1,pz ak.2.2.2.2.2.2.2.2.2.2.1,pz ak.2.2.2.2.2.2.2.2.2.2.2.1,pz ak.2.2.2.2.2.2.2.2.2.2.2.2.1,pz ak.2.2.2.2.2.2.2.2.2.2.2.2.2.1,pz ak.2.2.2.2.2.2.2.2.2.2.2.2.2.2.1,pz ak.2.2.2.2.2.2.2.2.2.2.2.2.2.2.2.1,pz ak.2.2.2.2.2.2.2.2.2.2.2.2.2.2.2.2.1,pz ak.2.2.2.2.2.2.2.2.2.2.2.2.2.2.2.2.2.1,pz ak.2.2.2.2.2.2.2.2.2.2.2.2.2.2.2.2.2.2.1,pz ak.2.2.2.2.2.2.2.2.2.2.2.2.2.2.2.2.2.2.2.1,pz ak.2.2.2.2.2.2.2.2.2.2.2.2.2.2.2.2.2.2.2.2.1,pz ak.2.2.2.2.2.2.2.2.2.2.2.2.2.2.2.2.2.2.2.2.2.1,pz ak.2.2.2.2.2.2.2.2.2.2.2.2.2.2.2.2.2.2.2.2.2.2.1,pz ak.2.2.2.2.2.2.2.2.2.2.2.2.2.2.2.2.2.2.2.2.2.2.2])]) (.br (ah !=(-1)) (.gh ah ad.length<|.oo (ai.R.1.1.Lo,ai.R.1.1.Hi,ai.R.1.2.1.Lo,ai.R.1.2.1.Hi,ai.R.1.2.2.Lo,ai.R.1.2.2.Hi,ai.R.2.1.1.Lo,ai.R.2.1.1.Hi,ai.R.2.1.2.1.Lo,ai.R.2.1.2.1.Hi,ai.R.2.1.2.2.Lo,ai.R.2.1.2.2.Hi,ai.R.2.2.1.Lo,ai.R.2.2.1.Hi,ai.R.2.2.2.1.Lo,ai.R.2.2.2.1.Hi,ai.R.2.2.2.2.Lo,ai.R.2.2.2.2.Hi,ai.T.1.Lo,ai.T.1.Hi,ai.T.2.1.Lo,ai.T.2.1.Hi,ai.T.2.2.Lo,ai.T.2.2.Hi)) (.oo (aj.R.1.1.Lo,aj.R.1.1.Hi,aj.R.1.2.1.Lo,aj.R.1.2.1.Hi,aj.R.1.2.2.Lo,aj.R.1.2.2.Hi,aj.R.2.1.1.Lo,aj.R.2.1.1.Hi,aj.R.2.1.2.1.Lo,aj.R.2.1.2.1.Hi,aj.R.2.1.2.2.Lo,aj.R.2.1.2.2.Hi,aj.R.2.2.1.Lo,aj.R.2.2.1.Hi,aj.R.2.2.2.1.Lo,aj.R.2.2.2.1.Hi,aj.R.2.2.2.2.Lo,aj.R.2.2.2.2.Hi,aj.T.1.Lo,aj.T.1.Hi,aj.T.2.1.Lo,aj.T.2.1.Hi,aj.T.2.2.Lo,aj.T.2.2.Hi))) λak=>.cc (Lzd ag (⟨(((⟨ak.1,ak.2.1⟩:az0),(⟨ak.2.2.1,ak.2.2.2.1⟩:az0),(⟨ak.2.2.2.2.1,ak.2.2.2.2.2.1⟩:az0)),((⟨ak.2.2.2.2.2.2.1,ak.2.2.2.2.2.2.2.1⟩:az0),(⟨ak.2.2.2.2.2.2.2.2.1,ak.2.2.2.2.2.2.2.2.2.1⟩:az0),(⟨ak.2.2.2.2.2.2.2.2.2.2.1,ak.2.2.2.2.2.2.2.2.2.2.2.1⟩:az0)),((⟨ak.2.2.2.2.2.2.2.2.2.2.2.2.1,ak.2.2.2.2.2.2.2.2.2.2.2.2.2.1⟩:az0),(⟨ak.2.2.2.2.2.2.2.2.2.2.2.2.2.2.1,ak.2.2.2.2.2.2.2.2.2.2.2.2.2.2.2.1⟩:az0),(⟨ak.2.2.2.2.2.2.2.2.2.2.2.2.2.2.2.2.1,ak.2.2.2.2.2.2.2.2.2.2.2.2.2.2.2.2.2.1⟩:az0))),((⟨ak.2.2.2.2.2.2.2.2.2.2.2.2.2.2.2.2.2.2.1,ak.2.2.2.2.2.2.2.2.2.2.2.2.2.2.2.2.2.2.2.1⟩:az0),(⟨ak.2.2.2.2.2.2.2.2.2.2.2.2.2.2.2.2.2.2.2.2.1,ak.2.2.2.2.2.2.2.2.2.2.2.2.2.2.2.2.2.2.2.2.2.1⟩:az0),(⟨ak.2.2.2.2.2.2.2.2.2.2.2.2.2.2.2.2.2.2.2.2.2.2.1,ak.2.2.2.2.2.2.2.2.2.2.2.2.2.2.2.2.2.2.2.2.2.2.2⟩:az0))⟩:bz4)) λal=>.gh ae.2 ae.1.length<|.conv 11006 (kS ae.1 98 af al)<|.gi (ae.2) ae.1.length<|.nn ((ae.1.set af al),(qt.wrap (ae.2+1)))) (.oo ae.1)) ((qs ab.toNat (nl:Bn)),0) [] λae=>.jE ae)
def sz0:=
 mkp2 func373 jzs
def ozu (j:az7)(aa:Ae):T (czt×Bool):=let ab:=(aa.length:Int);.cub 2 19 [1,2,4] [0,64,65,66,67] (.cc (ezb j) λac=>.jS (ac !=0) (.oo (ab !=(j.Xf.Xc.length:Int)))) λac=>.br ac (.jE ((⟨nl,nl,nl⟩:czt),false)) (.loop (ik 23 [1,2,4,21,22] [0,64,65,66,67]) (.exit 0) (jk [1,2,4] [0,64,65,66,67]) (λad=>.jR (ad<ab) (.gh ad aa.length<|.cc (bzy (aa.getD (ad.toNat) qu)) λae=>.br (!ae) (.ff ((⟨nl,nl,nl⟩:czt),false)) (.nn (qt.wrap (ad+1)))) (.oo .u))
 0 [] λ_=>.cc (Lz6 j) λad=>.cc (sz0 (⟨j.Xf,j.Xe,j.Xr⟩:az7) aa) λae=>.jE ((⟨j.Xe,ad,ae⟩:czt),true))
def ozt:=
 mkq2 func329 ozu (λr=>.tup [q r.1,q r.2])
def yzk (j:czt)(aa:Int):T gz8:=let ab:=j.pairs.getD (aa.toNat) qu;let ac:=ab.A;let ad:=ab.B;.gh aa j.pairs.length<|.gh ac j.points.length<|.gh ac j.shapes.length<|.gh ad j.points.length<|.gh ad j.shapes.length<|.jE (⟨(j.points.getD (ac.toNat) qu),(j.points.getD (ad.toNat) qu),(j.shapes.getD (ac.toNat) qu).XE,(j.shapes.getD (ad.toNat) qu).XE⟩:gz8)
def yzj:=
 mkp2 func330 yzk
def Gzg (j:Bn)(aa:Int)(ab:Bn)(ac:Int)(ad:Bi):T (Bn×Bn×Int×Int×Bi):=
 .jE (j,ab,aa,ac,ad)
def Gzf:=
 mkv5 func375 Gzg (λ_=>.func 432 [] [X7 0,X7 1,X7 2,X7 3,X7 4]) (λr=>[(0,.box [q r.1]),(1,.box [q r.2.1]),(2,.box [pz r.2.2.1]),(3,.box [pz r.2.2.2.1]),(4,.box [q r.2.2.2.2])])
def az1r (j:Bn)(aa:Int)(ab:Bn)(ac:Int):T ezz:=
 .jE (⟨(⟨j,aa⟩:fzr),(⟨ab,ac⟩:fzr)⟩:ezz)
def Oze:=
 mkp4 func438 az1r
def xz1 (j:Bn):T Bool:=let aa:=(j.length:Int);.cub 2 14 [0] [] (.jU (aa<1) (.oo (qv (aa>8)))) λab=>.br ab (.jE false) (.loop (ik 17 [15,16] []) (.exit 0) (jk [] []) (λac=>let ad:=j.getD (ac.toNat) qu;.jR (ac<aa) (.gh ac j.length<|.unroll 4<|.jC<|.jq<|.cub 0 39 [15,16,17,21,22] [] (.jU ((ad.1.Lo)<(-268435456)) (.jU ((ad.1.Lo)>(ad.1.Hi)) (.oo (qv ((ad.1.Hi)>268435456))))) λae=>.br ae (.ff false) (.lit 11000 1<|.jC<|.jr<|.cub 0 39 [15,16,17,21,22] [] (.jU ((ad.2.1.Lo)<(-268435456)) (.jU ((ad.2.1.Lo)>(ad.2.1.Hi)) (.oo (qv ((ad.2.1.Hi)>268435456))))) λaf=>.br af (.ff false) (.lit 11000 2<|.jC<|.jt<|.cub 0 39 [15,16,17,21,22] [] (.jU ((ad.2.2.Lo)<(-268435456)) (.jU ((ad.2.2.Lo)>(ad.2.2.Hi)) (.oo (qv ((ad.2.2.Hi)>268435456))))) λag=>.br ag (.ff false) (.lit 11000 3<|.jD<|.nn (qt.wrap (ac+1)))))) (.oo .u))
 0 [] λ_=>.jE true)
def jza:=
 mkp1 func380 xz1
def Fz1 (j:fzr):T Bool:=
 .cc (jza j.points) λaa=>.br aa (.jR (0<=j.radius) (.jE (qv (j.radius<=1048576))) (.jE false)) (.jE false)
def Fz0:=
 mkp1 func510 Fz1
def nzh (j:Bh):T Bool:=
 .loop (ik 6 [5] []) (.exit 0) (jk [] []) (λaa=>let ab:=([j.1,j.2.1,j.2.2]:List Int).getD aa.toNat 0;.jR (aa<3) (.gh aa 3<|.cub 0 14 [5,6] [] (.jU (ab<(-16384)) (.oo (qv (ab>16384)))) λac=>.br ac (.ff false) (.nn (qt.wrap (aa+1)))) (.oo .u))
 0 [] λ_=>.jE true
def yz5:=
 mkp1 func482 nzh
def qz2 (j:Bh):T Bool:=
 .cc (yz5 j) λaa=>.br aa (.jE (!((j.1==0)&&((j.2.1==0)&&((j.2.2==0)&&true))))) (.jE false)
def jzm:=
 mkp1 func434 qz2
def Lzo (j:Bh):T Bh:=
 .jE (j.1,j.2.1,j.2.2)
def vz0:=
 mkv1 func523 Lzo (λ_=>.agg [.func 530 [] [X7 0],.func 532 [] []]) (λr=>[(0,.box [pz r.1,pz r.2.1,pz r.2.2])])
def Bz6 (j:Bh)(aa:Bm):T B2:=let ab:=qt.wrap (j.1 * aa.1.Lo);let ac:=qt.wrap (j.1 * aa.1.Hi);let ad:=qt.wrap (j.2.1 * aa.2.1.Lo);let ae:=qt.wrap (j.2.1 * aa.2.1.Hi);let af:=qt.wrap (j.2.2 * aa.2.2.Lo);let ag:=qt.wrap (j.2.2 * aa.2.2.Hi);.unroll 4<|.jC<|.jq<|.jq<|.jq<|.name 6004 ((qt.wrap (0+(min ab ac)))) λah=>.name 7004 ((qt.wrap (0+(max ab ac)))) λai=>.lit 8000 1<|.jC<|.jr<|.jr<|.jr<|.name 6004 ((qt.wrap (ah+(min ad ae)))) λaj=>.name 7004 ((qt.wrap (ai+(max ad ae)))) λak=>.lit 8000 2<|.jC<|.jt<|.jt<|.jt<|.name 6004 ((qt.wrap (aj+(min af ag)))) λal=>.name 7004 ((qt.wrap (ak+(max af ag)))) λam=>.lit 8000 3<|.jD<|.jE (al,am)
def Bz5:=
 mkq2 func531 Bz6 (λr=>.tup [pz r.1,pz r.2])
def izy (j:Bm)(aa:Int)(ab:Int)(ac:Int):T Bx:=
 .cc (Bz5 (aa,ab,ac) ((⟨j.1.Lo,j.1.Hi⟩:az0),(⟨j.2.1.Lo,j.2.1.Hi⟩:az0),(⟨j.2.2.Lo,j.2.2.Hi⟩:az0))) λad=>.jE (ad.1,aa,ab,ac)
def qza (j)(aa)(ab)(ac):=
 mkD func530 (izy j aa ab ac) 1 [q j,X7 0] [(0,.box [pz aa,pz ab,pz ac])] (λr=>pz r.1) (λr=>[(0,.box [pz r.2.1,pz r.2.2.1,pz r.2.2.2])])
def Gzi (j:Int)(aa:Int):T Bool:=
 .jE (qv (j<aa))
def qzb:=
 mkp2 func532 Gzi
def ozy (j:Int)(aa:Int)(ab:Int)(ac:Bn):T C1:=
 .loop (λs (ad:C3)=>pk s [2,11,12] [1] [(6,pz ad.2.2.2.1),(7,pz ad.2.2.2.2.1),(13,pz ad.2.2.2.2.2)] [(0,.box [pz ad.1,pz ad.2.1,pz ad.2.2.1])]) (.exit 0) (λs (ad:C1)=>pk s [] [] [(6,pz ad.2.2.2.1),(7,pz ad.2.2.2.2)] [(0,.box [pz ad.1,pz ad.2.1,pz ad.2.2.1])]) (λad=>.jR (ad.2.2.2.2.2<(ac.length:Int)) (.cut 0 (λs (ae:C1)=>pk s [2,11,12,13] [1] [(6,pz ae.2.2.2.1),(7,pz ae.2.2.2.2)] [(0,.box [pz ae.1,pz ae.2.1,pz ae.2.2.1])]) (.gh ad.2.2.2.2.2 ac.length<|.call (qza (ac.getD (X3 ad.2.2.2.2.2) qu) ad.1 ad.2.1 ad.2.2.1) [(0,0)] λae=>.cub 0 30 [2,6,7,8,10,11,12,13] [0,1] (.jS (ad.2.2.2.2.2==0) (.cc (qzb ae.1 ad.2.2.2.1) λaf=>.oo af)) λaf=>.br af (.oo (ae.2.1,ae.2.2.1,ae.2.2.2,ae.1,ad.2.2.2.2.2)) (.oo (ae.2.1,ae.2.2.1,ae.2.2.2,ad.2.2.2.1,ad.2.2.2.2.1))) λae=>.nn (ae.1,ae.2.1,ae.2.2.1,ae.2.2.2.1,ae.2.2.2.2,(qt.wrap (ad.2.2.2.2.2+1)))) (.oo (ad.1,ad.2.1,ad.2.2.1,ad.2.2.2.1,ad.2.2.2.2.1))) (j,aa,ab,0,0,0) [] λad=>.jE (ad.2.2.2.1,ad.2.2.2.2,ad.1,ad.2.1,ad.2.2.1)
def Bze (j)(aa)(ab)(ac):=
 mkD func524 (ozy j aa ab ac) 1 [.agg [.func 530 [] [X7 0],.func 532 [] []],q ac] [(0,.box [pz j,pz aa,pz ab])] (λr=>.tup [pz r.1,pz r.2.1]) (λr=>[(0,.box [pz r.2.2.1,pz r.2.2.2.1,pz r.2.2.2.2])])
def tzf (j:Bh)(aa:Bn):T Br:=
 .cub 2 16 [1,2] [0] (.cc (jzm j) λab=>.jS (!ab) (.cc (jza aa) λac=>.oo (!ac))) λab=>.br ab (.jE (0,0,false)) (.cc (vz0 (j.1,j.2.1,j.2.2)) λac=>.call (Bze ac.1 ac.2.1 ac.2.2 aa) [(0,384)] λad=>.jE (ad.1,ad.2.1,true))
def Fz5:=
 mkq2 func511 tzf (λr=>.tup [pz r.1,pz r.2.1,q r.2.2])
def Qz1 (j:Bh):T Bh:=
 .jE (j.1,j.2.1,j.2.2)
def Bzu:=
 mkv1 func525 Qz1 (λ_=>.agg [.func 533 [] [X7 0],.func 534 [] []]) (λr=>[(0,.box [pz r.1,pz r.2.1,pz r.2.2])])
def mz0 (j:Bm)(aa:Int)(ab:Int)(ac:Int):T Bx:=
 .cc (Bz5 (aa,ab,ac) j) λad=>.jE (ad.2,aa,ab,ac)
def vz1 (j)(aa)(ab)(ac):=
 mkD func533 (mz0 j aa ab ac) 1 [q j,X7 0] [(0,.box [pz aa,pz ab,pz ac])] (λr=>pz r.1) (λr=>[(0,.box [pz r.2.1,pz r.2.2.1,pz r.2.2.2])])
def Lzp (j:Int)(aa:Int):T Bool:=
 .jE (qv (j>aa))
def vz2:=
 mkp2 func534 Lzp
def kzs (j:Int)(aa:Int)(ab:Int)(ac:Bn):T C1:=
 .loop (λs (ad:C3)=>pk s [2,11,12] [1] [(6,pz ad.2.2.2.1),(7,pz ad.2.2.2.2.1),(13,pz ad.2.2.2.2.2)] [(0,.box [pz ad.1,pz ad.2.1,pz ad.2.2.1])]) (.exit 0) (λs (ad:C1)=>pk s [] [] [(6,pz ad.2.2.2.1),(7,pz ad.2.2.2.2)] [(0,.box [pz ad.1,pz ad.2.1,pz ad.2.2.1])]) (λad=>.jR (ad.2.2.2.2.2<(ac.length:Int)) (.cut 0 (λs (ae:C1)=>pk s [2,11,12,13] [1] [(6,pz ae.2.2.2.1),(7,pz ae.2.2.2.2)] [(0,.box [pz ae.1,pz ae.2.1,pz ae.2.2.1])]) (.gh ad.2.2.2.2.2 ac.length<|.call (vz1 (ac.getD (X3 ad.2.2.2.2.2) qu) ad.1 ad.2.1 ad.2.2.1) [(0,0)] λae=>.cub 0 30 [2,6,7,8,10,11,12,13] [0,1] (.jS (ad.2.2.2.2.2==0) (.cc (vz2 ae.1 ad.2.2.2.1) λaf=>.oo af)) λaf=>.br af (.oo (ae.2.1,ae.2.2.1,ae.2.2.2,ae.1,ad.2.2.2.2.2)) (.oo (ae.2.1,ae.2.2.1,ae.2.2.2,ad.2.2.2.1,ad.2.2.2.2.1))) λae=>.nn (ae.1,ae.2.1,ae.2.2.1,ae.2.2.2.1,ae.2.2.2.2,(qt.wrap (ad.2.2.2.2.2+1)))) (.oo (ad.1,ad.2.1,ad.2.2.1,ad.2.2.2.1,ad.2.2.2.2.1))) (j,aa,ab,0,0,0) [] λad=>.jE (ad.2.2.2.1,ad.2.2.2.2,ad.1,ad.2.1,ad.2.2.1)
def uz3 (j)(aa)(ab)(ac):=
 mkD func524 (kzs j aa ab ac) 1 [.agg [.func 533 [] [X7 0],.func 534 [] []],q ac] [(0,.box [pz j,pz aa,pz ab])] (λr=>.tup [pz r.1,pz r.2.1]) (λr=>[(0,.box [pz r.2.2.1,pz r.2.2.2.1,pz r.2.2.2.2])])
def lzz (j:Bh)(aa:Bn):T Br:=
 .cub 2 16 [1,2] [0] (.cc (jzm j) λab=>.jS (!ab) (.cc (jza aa) λac=>.oo (!ac))) λab=>.br ab (.jE (0,0,false)) (.cc (Bzu (j.1,j.2.1,j.2.2)) λac=>.call (uz3 ac.1 ac.2.1 ac.2.2 aa) [(0,384)] λad=>.jE (ad.1,ad.2.1,true))
def uzz:=
 mkq2 func512 lzz (λr=>.tup [pz r.1,pz r.2.1,q r.2.2])
def Mzm (j:Int):T Int:=
 .cut 1 (λs (aa:B2)=>pk s [] [] [(0,.pure (.int .u64 aa.1)),(2,pz aa.2)] []) (.jR (j>=4294967296) (.ok (0<=(32:Int)) jF<|.oo ((j.fdiv (2 ^ (min (32:Int).toNat 64))),32)) (.oo (j,0))) λaa=>.cut 0 (λs (ab:B2)=>pk s [] [] [(0,.pure (.int .u64 ab.1)),(2,pz ab.2)] []) (.jR (aa.1>=65536) (.ok (0<=(16:Int)) jF<|.oo ((aa.1.fdiv (2 ^ (min (16:Int).toNat 64))),(qt.wrap (aa.2+16)))) (.oo (aa.1,aa.2))) λab=>.cut 0 (λs (ac:B2)=>pk s [] [] [(0,.pure (.int .u64 ac.1)),(2,pz ac.2)] []) (.jR (ab.1>=256) (.ok (0<=(8:Int)) jF<|.oo ((ab.1.fdiv (2 ^ (min (8:Int).toNat 64))),(qt.wrap (ab.2+8)))) (.oo (ab.1,ab.2))) λac=>let ad:=IntKind.u8.wrap ac.1;
 .gh ad ((⟨#[0,1,2,2,3,3,3,3,4,4,4,4,4,4,4,4,5,5,5,5,5,5,5,5,5,5,5,5,5,5,5,5,6,6,6,6,6,6,6,6,6,6,6,6,6,6,6,6,6,6,6,6,6,6,6,6,6,6,6,6,6,6,6,6,7,7,7,7,7,7,7,7,7,7,7,7,7,7,7,7,7,7,7,7,7,7,7,7,7,7,7,7,7,7,7,7,7,7,7,7,7,7,7,7,7,7,7,7,7,7,7,7,7,7,7,7,7,7,7,7,7,7,7,7,7,7,7,7,8,8,8,8,8,8,8,8,8,8,8,8,8,8,8,8,8,8,8,8,8,8,8,8,8,8,8,8,8,8,8,8,8,8,8,8,8,8,8,8,8,8,8,8,8,8,8,8,8,8,8,8,8,8,8,8,8,8,8,8,8,8,8,8,8,8,8,8,8,8,8,8,8,8,8,8,8,8,8,8,8,8,8,8,8,8,8,8,8,8,8,8,8,8,8,8,8,8,8,8,8,8,8,8,8,8,8,8,8,8,8,8,8,8,8,8,8,8,8,8,8,8,8,8,8,8,8,8]⟩:ByteArray).size)<|.name 10003 ((((⟨#[0,1,2,2,3,3,3,3,4,4,4,4,4,4,4,4,5,5,5,5,5,5,5,5,5,5,5,5,5,5,5,5,6,6,6,6,6,6,6,6,6,6,6,6,6,6,6,6,6,6,6,6,6,6,6,6,6,6,6,6,6,6,6,6,7,7,7,7,7,7,7,7,7,7,7,7,7,7,7,7,7,7,7,7,7,7,7,7,7,7,7,7,7,7,7,7,7,7,7,7,7,7,7,7,7,7,7,7,7,7,7,7,7,7,7,7,7,7,7,7,7,7,7,7,7,7,7,7,8,8,8,8,8,8,8,8,8,8,8,8,8,8,8,8,8,8,8,8,8,8,8,8,8,8,8,8,8,8,8,8,8,8,8,8,8,8,8,8,8,8,8,8,8,8,8,8,8,8,8,8,8,8,8,8,8,8,8,8,8,8,8,8,8,8,8,8,8,8,8,8,8,8,8,8,8,8,8,8,8,8,8,8,8,8,8,8,8,8,8,8,8,8,8,8,8,8,8,8,8,8,8,8,8,8,8,8,8,8,8,8,8,8,8,8,8,8,8,8,8,8,8,8,8,8,8,8]⟩:ByteArray).data.getD ad.toNat 0).toNat:Int)) λae=>.jE (qt.wrap (ac.2+(qt.wrap ae)))
def gzj (j):=
 mkD func424 (Mzm j) 0 [.pure (.int .u64 j)] [] pz X6
def Czz (j:Int):T Int:=let aa:=IntKind.u64.wrap j;.jR (j<=0) (.jE 0) (.cc (gzj aa) λab=>let ac:=qt.wrap ((qt.wrap (ab+1)).tdiv 2);
 .ok ((2:Int)≠0) jF<|.grd (0<=ac)<|.loop (λs (ad:Bh)=>pk s [0,16] [] [(4,.pure (.int .u64 ad.1)),(5,.pure (.int .u64 ad.2.1)),(17,pz ad.2.2)] []) (.exit 0) (λs (ad:Int)=>pk s [] [] [(4,.pure (.int .u64 ad))] []) (λad=>.jR (ad.2.2<ac) (.cut 0 (λs (ae:B2)=>pk s [0,16,17] [] [(4,.pure (.int .u64 ae.1)),(5,.pure (.int .u64 ae.2))] []) (.ok ((2:Int)≠0) jF<|.name 7001 ((IntKind.u64.wrap (ad.2.1.tdiv 2))) λae=>let af:=IntKind.u64.wrap (ad.1+ae);
 .jR ((IntKind.u64.wrap (af * af))<=aa) (.oo (af,ae)) (.oo (ad.1,ae))) λae=>.nn (ae.1,ae.2,(qt.wrap (ad.2.2+1)))) (.oo ad.1)) (0,(IntKind.u64.wrap (1 * 2 ^ (min ac.toNat 64))),0) [] λad=>.jE (qt.wrap ad))
def Czy:=
 mkp1 func513 Czz
def vze (j:Int):T Int:=
 .cc (Czy j) λaa=>.cut 0 (λs (ab:Int)=>pk s [] [] [(3,pz ab)] []) (.jR ((qt.wrap (aa * aa))<j) (.oo (qt.wrap (aa+1))) (.oo aa)) λab=>.jE ab
def Gzp:=
 mkp1 func487 vze
def xz7 (j:Bh):T Int:=
 .cc (jzm (j.1,j.2.1,j.2.2)) λaa=>.br (!aa) (.jE 0) (.jq<|.jq<|.jr<|.jr<|.jt<|.jt<|.name 3016 ((qt.wrap ((qt.wrap ((qt.wrap (j.1 * j.1))+(qt.wrap (j.2.1 * j.2.1))))+(qt.wrap (j.2.2 * j.2.2))))) λab=>.cc (Gzp ab) λac=>.jE ac)
def Hzm:=
 mkp1 func445 xz7
def xz3 (j:ezz)(aa:Bh):T Bc:=
 .cub 2 20 [2,3] [0,64] (.cc (Fz0 j.a) λab=>.jS (!ab) (.cc (Fz0 j.b) λac=>.oo (!ac))) λab=>.br ab (.jE (0,false)) (.cc (Fz5 (aa.1,aa.2.1,aa.2.2) j.a.points) λac=>.br (!ac.2.2) (.jE (0,false)) (.cc (uzz (aa.1,aa.2.1,aa.2.2) j.b.points) λad=>.br (!ad.2.2) (.jE (0,false)) (.cc (Hzm (aa.1,aa.2.1,aa.2.2)) λae=>.name 9013 ((qt.wrap ((qt.wrap (ac.1-ad.1))- (qt.wrap (ae * (qt.wrap (j.a.radius+j.b.radius))))))) λaf=>.jE (af,true))))
def Hzl:=
 mkq2 func485 xz3 (λr=>.tup [pz r.1,q r.2])
def nzb (j:ezz)(aa:Bh):T Bool:=
 .cc (Hzl (⟨j.a,j.b⟩:ezz) (aa.1,aa.2.1,aa.2.2)) λab=>.br ab.2 (.jE (qv (ab.1>0))) (.jE false)
def yz2:=
 mkp2 func437 nzb
def mzq (j:Bh)(aa:Bn)(ab:Int)(ac:Bn)(ad:Int):T Bool:=
 .cc (Oze aa ab ac ad) λae=>.cc (yz2 (⟨ae.a,ae.b⟩:ezz) (j.1,j.2.1,j.2.2)) λaf=>.jE af
def mzp:=
 mkp5 func376 mzq
end Go.Abs
