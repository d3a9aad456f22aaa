import Derived.Test.YtnfbbidmdkfilaaGreatDoorZEM1
open Decidable renaming decide->qv
open Go.IntKind renaming i64->qt
open Inhabited renaming default->qu
open List renaming replicate->qs
open Int renaming toNat->X3
noncomputable section
namespace Go.Abs
open Go.Proofs.Tryz
set_option maxHeartbeats 8000000
set_option maxRecDepth 20000
open Go.Proofs
def nzs (j:bz4):T Ce:=
 .jq (j.R.1.1.Lo,j.R.1.1.Hi,j.R.1.2.1.Lo,j.R.1.2.1.Hi,j.R.1.2.2.Lo,j.R.1.2.2.Hi,j.R.2.1.1.Lo,j.R.2.1.1.Hi,j.R.2.1.2.1.Lo,j.R.2.1.2.1.Hi,j.R.2.1.2.2.Lo,j.R.2.1.2.2.Hi,j.R.2.2.1.Lo,j.R.2.2.1.Hi,j.R.2.2.2.1.Lo,j.R.2.2.2.1.Hi,j.R.2.2.2.2.Lo,j.R.2.2.2.2.Hi,j.T.1.Lo,j.T.1.Hi,j.T.2.1.Lo,j.T.2.1.Hi,j.T.2.2.Lo,j.T.2.2.Hi)
def tzx:=
 mkv1 func152 nzs (λ_=>.func 215 [] [X7 0]) (λr=>[(0,.box [pz r.1,pz r.2.1,pz r.2.2.1,pz r.2.2.2.1,pz r.2.2.2.2.1,pz r.2.2.2.2.2.1,pz r.2.2.2.2.2.2.1,pz r.2.2.2.2.2.2.2.1,pz r.2.2.2.2.2.2.2.2.1,pz r.2.2.2.2.2.2.2.2.2.1,pz r.2.2.2.2.2.2.2.2.2.2.1,pz r.2.2.2.2.2.2.2.2.2.2.2.1,pz r.2.2.2.2.2.2.2.2.2.2.2.2.1,pz r.2.2.2.2.2.2.2.2.2.2.2.2.2.1,pz r.2.2.2.2.2.2.2.2.2.2.2.2.2.2.1,pz r.2.2.2.2.2.2.2.2.2.2.2.2.2.2.2.1,pz r.2.2.2.2.2.2.2.2.2.2.2.2.2.2.2.2.1,pz r.2.2.2.2.2.2.2.2.2.2.2.2.2.2.2.2.2.1,pz r.2.2.2.2.2.2.2.2.2.2.2.2.2.2.2.2.2.2.1,pz r.2.2.2.2.2.2.2.2.2.2.2.2.2.2.2.2.2.2.2.1,pz r.2.2.2.2.2.2.2.2.2.2.2.2.2.2.2.2.2.2.2.2.1,pz r.2.2.2.2.2.2.2.2.2.2.2.2.2.2.2.2.2.2.2.2.2.1,pz r.2.2.2.2.2.2.2.2.2.2.2.2.2.2.2.2.2.2.2.2.2.2.1,pz r.2.2.2.2.2.2.2.2.2.2.2.2.2.2.2.2.2.2.2.2.2.2.2])])
def ozj (j:az0)(aa:az0):T Bool:=
 .cc (bzw j) λab=>.br ab (.cc (bzw aa) λac=>.jq ac) (.jq false)
def jz8:=
 mkp2 func313 ozj
def mz6 (j:Int)(aa:Int):T Int:=
 .jF (aa<0) (.jq j) (.grd (0<=aa)<|.jq (j.fdiv (2 ^ (min aa.toNat 64))))
def bz7:=
 mkp2 func365 mz6
def rz8 (j:Int)(aa:Int):T Int:=let ab:=min aa.toNat 64;let ac:=j.fdiv (2 ^ ab);.jF (aa<0) (.jq j) (.grd (0<=aa)<|.cut 0 (λs (ad:Int)=>pk s [] [] [(5,pz ad)] []) (.grd (0<=aa)<|.br ((qt.wrap (ac * 2 ^ ab)) !=j) (.oo (qt.wrap (ac+1))) (.oo ac)) λad=>.jq ad)
def bzj:=
 mkp2 func366 rz8
def mz8 (j:Int)(aa:Int):T az0:=
 .cc (bz7 j 16) λab=>.cc (bzj aa 16) λac=>.cc (hzc ab ac) λad=>.jq ad
def xz7:=
 mkp2 func314 mz8
def uzz (j:az0)(aa:az0):T az0:=let ab:=qt.wrap (j.Lo * aa.Lo);.cc (jz8 (⟨j.Lo,j.Hi⟩:az0) (⟨aa.Lo,aa.Hi⟩:az0)) λac=>.br (!ac) (.jq (⟨0,0⟩:az0)) (.ix 0 4 rfl<|.ix 0 4 rfl<|.loop (λs (ad:Bh)=>pk s [4,40] [128] [(6,pz ad.1),(7,pz ad.2.1),(41,pz ad.2.2)] []) (.exit 0) (λs (ad:B2)=>pk s [4] [128] [(6,pz ad.1),(7,pz ad.2)] []) (λad=>.jF (ad.2.2<4) (.gh ad.2.2 4<|.name 7000 ((([ab,(qt.wrap (j.Lo * aa.Hi)),(qt.wrap (j.Hi * aa.Lo)),(qt.wrap (j.Hi * aa.Hi))]:List Int).getD (ad.2.2).toNat 0)) λae=>.nn ((min ad.1 ae),(max ad.2.1 ae),(qt.wrap (ad.2.2+1)))) (.oo (ad.1,ad.2.1))) (ab,ab,0) [] λad=>.cc (xz7 ad.1 ad.2) λae=>.jq ae)
def azq:=
 mkp2 func268 uzz
def uzw (j:az0)(aa:az0):T az0:=
 .cc (jz8 j aa) λab=>.br (!ab) (.jq (⟨0,0⟩:az0)) (.cc (hzc (qt.wrap (j.Lo+aa.Lo)) (qt.wrap (j.Hi+aa.Hi))) λac=>.jq ac)
def azn:=
 mkp2 func267 uzw
def ozn (j:Int):T Int:=
 .jq (min (max j (-65536)) 65536)
def bz3:=
 mkp1 func312 ozn
def ozm (j:Bp)(aa:Bp):T Bp:=
 .unroll 4<|.jn<|.unroll 4<|.jn<|.unroll 4<|.jn<|.z9<|.z9<|.z9<|.z9<|.cc (azq j.1.1 aa.1.1) λab=>.cc (azn (⟨0,0⟩:az0) ab) λac=>.lit 13000 1<|.jn<|.z9<|.ja<|.ja<|.z9<|.cc (azq j.1.2.1 aa.2.1.1) λad=>.cc (azn ac ad) λae=>.lit 13000 2<|.jn<|.z9<|.jb<|.jb<|.z9<|.cc (azq j.1.2.2 aa.2.2.1) λaf=>.cc (azn ae af) λag=>.lit 13000 3<|.jp<|.cc (bz3 ag.Lo) λah=>.cc (bz3 ag.Hi) λai=>.z9<|.z9<|.lit 15000 1<|.jn<|.unroll 4<|.jn<|.z9<|.z9<|.z9<|.ja<|.cc (azq j.1.1 aa.1.2.1) λaj=>.cc (azn (⟨0,0⟩:az0) aj) λak=>.lit 13000 1<|.jn<|.z9<|.ja<|.ja<|.ja<|.cc (azq j.1.2.1 aa.2.1.2.1) λal=>.cc (azn ak al) λam=>.lit 13000 2<|.jn<|.z9<|.jb<|.jb<|.ja<|.cc (azq j.1.2.2 aa.2.2.2.1) λan=>.cc (azn am an) λao=>.lit 13000 3<|.jp<|.cc (bz3 ao.Lo) λap=>.cc (bz3 ao.Hi) λaq=>.z9<|.ja<|.lit 15000 2<|.jn<|.unroll 4<|.jn<|.z9<|.z9<|.z9<|.jb<|.cc (azq j.1.1 aa.1.2.2) λar=>.cc (azn (⟨0,0⟩:az0) ar) λau=>.lit 13000 1<|.jn<|.z9<|.ja<|.ja<|.jb<|.cc (azq j.1.2.1 aa.2.1.2.2) λav=>.cc (azn au av) λaw=>.lit 13000 2<|.jn<|.z9<|.jb<|.jb<|.jb<|.cc (azq j.1.2.2 aa.2.2.2.2) λax=>.cc (azn aw ax) λay=>.lit 13000 3<|.jp<|.cc (bz3 ay.Lo) λaz=>.cc (bz3 ay.Hi) λa0=>.z9<|.jb<|.lit 15000 3<|.jp<|.lit 16000 1<|.jn<|.unroll 4<|.jn<|.unroll 4<|.jn<|.ja<|.z9<|.z9<|.z9<|.cc (azq j.2.1.1 aa.1.1) λa1=>.cc (azn (⟨0,0⟩:az0) a1) λa2=>.lit 13000 1<|.jn<|.ja<|.ja<|.ja<|.z9<|.cc (azq j.2.1.2.1 aa.2.1.1) λa3=>.cc (azn a2 a3) λa4=>.lit 13000 2<|.jn<|.ja<|.jb<|.jb<|.z9<|.cc (azq j.2.1.2.2 aa.2.2.1) λa5=>.cc (azn a4 a5) λa6=>.lit 13000 3<|.jp<|.cc (bz3 a6.Lo) λa7=>.cc (bz3 a6.Hi) λa8=>.ja<|.z9<|.lit 15000 1<|.jn<|.unroll 4<|.jn<|.ja<|.z9<|.z9<|.ja<|.cc (azq j.2.1.1 aa.1.2.1) λa9=>.cc (azn (⟨0,0⟩:az0) a9) λba=>.lit 13000 1<|.jn<|.ja<|.ja<|.ja<|.ja<|.cc (azq j.2.1.2.1 aa.2.1.2.1) λbb=>.cc (azn ba bb) λbc=>.lit 13000 2<|.jn<|.ja<|.jb<|.jb<|.ja<|.cc (azq j.2.1.2.2 aa.2.2.2.1) λbd=>.cc (azn bc bd) λbe=>.lit 13000 3<|.jp<|.cc (bz3 be.Lo) λbf=>.cc (bz3 be.Hi) λbg=>.ja<|.ja<|.lit 15000 2<|.jn<|.unroll 4<|.jn<|.ja<|.z9<|.z9<|.jb<|.cc (azq j.2.1.1 aa.1.2.2) λbh=>.cc (azn (⟨0,0⟩:az0) bh) λbi=>.lit 13000 1<|.jn<|.ja<|.ja<|.ja<|.jb<|.cc (azq j.2.1.2.1 aa.2.1.2.2) λbj=>.cc (azn bi bj) λbk=>.lit 13000 2<|.jn<|.ja<|.jb<|.jb<|.jb<|.cc (azq j.2.1.2.2 aa.2.2.2.2) λbl=>.cc (azn bk bl) λbm=>.lit 13000 3<|.jp<|.cc (bz3 bm.Lo) λbn=>.cc (bz3 bm.Hi) λbp=>.ja<|.jb<|.lit 15000 3<|.jp<|.lit 16000 2<|.jn<|.unroll 4<|.jn<|.unroll 4<|.jn<|.jb<|.z9<|.z9<|.z9<|.cc (azq j.2.2.1 aa.1.1) λbq=>.cc (azn (⟨0,0⟩:az0) bq) λbs=>.lit 13000 1<|.jn<|.jb<|.ja<|.ja<|.z9<|.cc (azq j.2.2.2.1 aa.2.1.1) λbt=>.cc (azn bs bt) λbu=>.lit 13000 2<|.jn<|.jb<|.jb<|.jb<|.z9<|.cc (azq j.2.2.2.2 aa.2.2.1) λbv=>.cc (azn bu bv) λbw=>.lit 13000 3<|.jp<|.cc (bz3 bw.Lo) λbx=>.cc (bz3 bw.Hi) λbz=>.jb<|.z9<|.lit 15000 1<|.jn<|.unroll 4<|.jn<|.jb<|.z9<|.z9<|.ja<|.cc (azq j.2.2.1 aa.1.2.1) λb7=>.cc (azn (⟨0,0⟩:az0) b7) λb8=>.lit 13000 1<|.jn<|.jb<|.ja<|.ja<|.ja<|.cc (azq j.2.2.2.1 aa.2.1.2.1) λb9=>.cc (azn b8 b9) λca=>.lit 13000 2<|.jn<|.jb<|.jb<|.jb<|.ja<|.cc (azq j.2.2.2.2 aa.2.2.2.1) λcb=>.cc (azn ca cb) λcc=>.lit 13000 3<|.jp<|.cc (bz3 cc.Lo) λcd=>.cc (bz3 cc.Hi) λce=>.jb<|.ja<|.lit 15000 2<|.jn<|.unroll 4<|.jn<|.jb<|.z9<|.z9<|.jb<|.cc (azq j.2.2.1 aa.1.2.2) λcf=>.cc (azn (⟨0,0⟩:az0) cf) λcg=>.lit 13000 1<|.jn<|.jb<|.ja<|.ja<|.jb<|.cc (azq j.2.2.2.1 aa.2.1.2.2) λch=>.cc (azn cg ch) λci=>.lit 13000 2<|.jn<|.jb<|.jb<|.jb<|.jb<|.cc (azq j.2.2.2.2 aa.2.2.2.2) λcj=>.cc (azn ci cj) λck=>.lit 13000 3<|.jp<|.cc (bz3 ck.Lo) λcl=>.cc (bz3 ck.Hi) λcm=>.jb<|.jb<|.lit 15000 3<|.jp<|.lit 16000 3<|.jp<|.jq (((⟨ah,ai⟩:az0),(⟨ap,aq⟩:az0),(⟨az,a0⟩:az0)),((⟨a7,a8⟩:az0),(⟨bf,bg⟩:az0),(⟨bn,bp⟩:az0)),((⟨bx,bz⟩:az0),(⟨cd,ce⟩:az0),(⟨cl,cm⟩:az0)))
def Bz2:=
 mkp2 func264 ozm
def vz1 (j:Bp)(aa:Bm):T Bm:=
 .unroll 4<|.jn<|.unroll 4<|.jn<|.z9<|.z9<|.z9<|.z9<|.cc (azq j.1.1 aa.1) λab=>.cc (azn (⟨0,0⟩:az0) ab) λac=>.z9<|.lit 9000 1<|.jn<|.z9<|.z9<|.ja<|.ja<|.cc (azq j.1.2.1 aa.2.1) λad=>.cc (azn ac ad) λae=>.z9<|.lit 9000 2<|.jn<|.z9<|.z9<|.jb<|.jb<|.cc (azq j.1.2.2 aa.2.2) λaf=>.cc (azn ae af) λag=>.z9<|.lit 9000 3<|.jp<|.lit 10000 1<|.jn<|.unroll 4<|.jn<|.ja<|.ja<|.z9<|.z9<|.cc (azq j.2.1.1 aa.1) λah=>.cc (azn (⟨0,0⟩:az0) ah) λai=>.ja<|.lit 9000 1<|.jn<|.ja<|.ja<|.ja<|.ja<|.cc (azq j.2.1.2.1 aa.2.1) λaj=>.cc (azn ai aj) λak=>.ja<|.lit 9000 2<|.jn<|.ja<|.ja<|.jb<|.jb<|.cc (azq j.2.1.2.2 aa.2.2) λal=>.cc (azn ak al) λam=>.ja<|.lit 9000 3<|.jp<|.lit 10000 2<|.jn<|.unroll 4<|.jn<|.jb<|.jb<|.z9<|.z9<|.cc (azq j.2.2.1 aa.1) λan=>.cc (azn (⟨0,0⟩:az0) an) λao=>.jb<|.lit 9000 1<|.jn<|.jb<|.jb<|.ja<|.ja<|.cc (azq j.2.2.2.1 aa.2.1) λap=>.cc (azn ao ap) λaq=>.jb<|.lit 9000 2<|.jn<|.jb<|.jb<|.jb<|.jb<|.cc (azq j.2.2.2.2 aa.2.2) λar=>.cc (azn aq ar) λau=>.jb<|.lit 9000 3<|.jp<|.lit 10000 3<|.jp<|.jq (ag,am,au)
def Gz9:=
 mkp2 func217 vz1
def Czw (j:Bm)(aa:Bm):T Bm:=
 .unroll 4<|.jn<|.z9<|.z9<|.cc (azn j.1 aa.1) λab=>.z9<|.lit 6000 1<|.jn<|.ja<|.ja<|.cc (azn j.2.1 aa.2.1) λac=>.ja<|.lit 6000 2<|.jn<|.jb<|.jb<|.cc (azn j.2.2 aa.2.2) λad=>.jb<|.lit 6000 3<|.jp<|.jq (ab,ac,ad)
def Nz8:=
 mkp2 func216 Czw
def izt (j:Bm)(aa:Int)(ab:Int)(ac:Int)(ad:Int)(ae:Int)(af:Int)(ag:Int)(ah:Int)(ai:Int)(aj:Int)(ak:Int)(al:Int)(am:Int)(an:Int)(ao:Int)(ap:Int)(aq:Int)(ar:Int)(au:Int)(av:Int)(aw:Int)(ax:Int)(ay:Int)(az:Int):T (Bm×Int×Int×Int×Int×Int×Int×Int×Int×Int×Int×Int×Int×Int×Int×Int×Int×Int×Int×Int×Int×Int×Int×Int×Int):=
 .cc (Gz9 (((⟨aa,ab⟩:az0),(⟨ac,ad⟩:az0),(⟨ae,af⟩:az0)),((⟨ag,ah⟩:az0),(⟨ai,aj⟩:az0),(⟨ak,al⟩:az0)),((⟨am,an⟩:az0),(⟨ao,ap⟩:az0),(⟨aq,ar⟩:az0))) ((⟨j.1.Lo,j.1.Hi⟩:az0),(⟨j.2.1.Lo,j.2.1.Hi⟩:az0),(⟨j.2.2.Lo,j.2.2.Hi⟩:az0))) λa0=>.cc (Nz8 ((⟨au,av⟩:az0),(⟨aw,ax⟩:az0),(⟨ay,az⟩:az0)) a0) λa1=>.jq (a1,aa,ab,ac,ad,ae,af,ag,ah,ai,aj,ak,al,am,an,ao,ap,aq,ar,au,av,aw,ax,ay,az)
def nzd (j)(aa)(ab)(ac)(ad)(ae)(af)(ag)(ah)(ai)(aj)(ak)(al)(am)(an)(ao)(ap)(aq)(ar)(au)(av)(aw)(ax)(ay)(az):=
 mkD func215 (izt j aa ab ac ad ae af ag ah ai aj ak al am an ao ap aq ar au av aw ax ay az) 1 [q j,X7 0] [(0,.box [pz aa,pz ab,pz ac,pz ad,pz ae,pz af,pz ag,pz ah,pz ai,pz aj,pz ak,pz al,pz am,pz an,pz ao,pz ap,pz aq,pz ar,pz au,pz av,pz aw,pz ax,pz ay,pz az])] (λr=>q r.1) (λr=>[(0,.box [pz r.2.1,pz r.2.2.1,pz r.2.2.2.1,pz r.2.2.2.2.1,pz r.2.2.2.2.2.1,pz r.2.2.2.2.2.2.1,pz r.2.2.2.2.2.2.2.1,pz r.2.2.2.2.2.2.2.2.1,pz r.2.2.2.2.2.2.2.2.2.1,pz r.2.2.2.2.2.2.2.2.2.2.1,pz r.2.2.2.2.2.2.2.2.2.2.2.1,pz r.2.2.2.2.2.2.2.2.2.2.2.2.1,pz r.2.2.2.2.2.2.2.2.2.2.2.2.2.1,pz r.2.2.2.2.2.2.2.2.2.2.2.2.2.2.1,pz r.2.2.2.2.2.2.2.2.2.2.2.2.2.2.2.1,pz r.2.2.2.2.2.2.2.2.2.2.2.2.2.2.2.2.1,pz r.2.2.2.2.2.2.2.2.2.2.2.2.2.2.2.2.2.1,pz r.2.2.2.2.2.2.2.2.2.2.2.2.2.2.2.2.2.2.1,pz r.2.2.2.2.2.2.2.2.2.2.2.2.2.2.2.2.2.2.2.1,pz r.2.2.2.2.2.2.2.2.2.2.2.2.2.2.2.2.2.2.2.2.1,pz r.2.2.2.2.2.2.2.2.2.2.2.2.2.2.2.2.2.2.2.2.2.1,pz r.2.2.2.2.2.2.2.2.2.2.2.2.2.2.2.2.2.2.2.2.2.2.1,pz r.2.2.2.2.2.2.2.2.2.2.2.2.2.2.2.2.2.2.2.2.2.2.2.1,pz r.2.2.2.2.2.2.2.2.2.2.2.2.2.2.2.2.2.2.2.2.2.2.2.2])])
def vz4 (j:bz4)(aa:bz4):T bz4:=
 .cc (tzx j) λab=>.cc (Bz2 j.R aa.R) λac=>.call (nzd aa.T ab.1 ab.2.1 ab.2.2.1 ab.2.2.2.1 ab.2.2.2.2.1 ab.2.2.2.2.2.1 ab.2.2.2.2.2.2.1 ab.2.2.2.2.2.2.2.1 ab.2.2.2.2.2.2.2.2.1 ab.2.2.2.2.2.2.2.2.2.1 ab.2.2.2.2.2.2.2.2.2.2.1 ab.2.2.2.2.2.2.2.2.2.2.2.1 ab.2.2.2.2.2.2.2.2.2.2.2.2.1 ab.2.2.2.2.2.2.2.2.2.2.2.2.2.1 ab.2.2.2.2.2.2.2.2.2.2.2.2.2.2.1 ab.2.2.2.2.2.2.2.2.2.2.2.2.2.2.2.1 ab.2.2.2.2.2.2.2.2.2.2.2.2.2.2.2.2.1 ab.2.2.2.2.2.2.2.2.2.2.2.2.2.2.2.2.2.1 ab.2.2.2.2.2.2.2.2.2.2.2.2.2.2.2.2.2.2.1 ab.2.2.2.2.2.2.2.2.2.2.2.2.2.2.2.2.2.2.2.1 ab.2.2.2.2.2.2.2.2.2.2.2.2.2.2.2.2.2.2.2.2.1 ab.2.2.2.2.2.2.2.2.2.2.2.2.2.2.2.2.2.2.2.2.2.1 ab.2.2.2.2.2.2.2.2.2.2.2.2.2.2.2.2.2.2.2.2.2.2.1 ab.2.2.2.2.2.2.2.2.2.2.2.2.2.2.2.2.2.2.2.2.2.2.2) [(0,256)] λad=>.jq (⟨(ac.1,ac.2.1,ac.2.2),ad.1⟩:bz4)
def izs:=
 mkp2 func211 vz4
def Bzt (j:Int)(aa:az0):T bz4:=
 .cut 2 (λs (ab:C3)=>pk s [4,5] [64] [] [(128,.box [pz ab.1,pz ab.2.1,pz ab.2.2.1,pz ab.2.2.2.1,pz ab.2.2.2.2.1,pz ab.2.2.2.2.2])]) (.cas 2000 j 0 (.z9<|.oo (aa.Lo,aa.Hi,0,0,0,0)) (.cas 2000 j 1 (.ja<|.oo (0,0,aa.Lo,aa.Hi,0,0)) (.cas 2000 j 2 (.jb<|.oo (0,0,0,0,aa.Lo,aa.Hi)) (.stop)))) λab=>.cc (tzw ((⟨ab.1,ab.2.1⟩:az0),(⟨ab.2.2.1,ab.2.2.2.1⟩:az0),(⟨ab.2.2.2.2.1,ab.2.2.2.2.2⟩:az0))) λac=>.jq ac
def Mzw:=
 mkp2 func310 Bzt
def ozi (j:az0):T Int:=
 .cc (bzw j) λaa=>.br (!aa) (.jq 0) (.jq (qt.wrap (j.Hi-j.Lo)))
def ozh:=
 mkp1 func518 ozi
def qzy (j:Int):T Int:=
 .jq (qt.wrap (((BitVec.ofInt 64 j&&&BitVec.ofInt 64 65535).toNat:Int)))
def kzd:=
 mkp1 func521 qzy
def oz8 (j:Int):T (Cc×Cc):=
 .ix 0 11 rfl<|.ix 0 11 rfl<|.cc (bz7 (qt.wrap (j * 6746518852)) 16) λaa=>.jc<|.cc (bzj (qt.wrap (j * 6746518853)) 16) λab=>.jc<|.unroll 10<|.jn<|.lit 8002 1<|.jc<|.jc<|.cc (bz7 (qt.wrap (aa * aa)) 30) λac=>.jd<|.lit 9002 1<|.jc<|.jc<|.cc (bzj (qt.wrap (ab * ab)) 30) λad=>.jd<|.lit 7001 3<|.jn<|.lit 8002 2<|.jd<|.jc<|.cc (bz7 (qt.wrap (ac * aa)) 30) λae=>.je<|.lit 9002 2<|.jd<|.jc<|.cc (bzj (qt.wrap (ad * ab)) 30) λaf=>.je<|.lit 7001 4<|.jn<|.lit 8002 3<|.je<|.jc<|.cc (bz7 (qt.wrap (ae * aa)) 30) λag=>.jf<|.lit 9002 3<|.je<|.jc<|.cc (bzj (qt.wrap (af * ab)) 30) λah=>.jf<|.lit 7001 5<|.jn<|.lit 8002 4<|.jf<|.jc<|.cc (bz7 (qt.wrap (ag * aa)) 30) λai=>.jg<|.lit 9002 4<|.jf<|.jc<|.cc (bzj (qt.wrap (ah * ab)) 30) λaj=>.jg<|.lit 7001 6<|.jn<|.lit 8002 5<|.jg<|.jc<|.cc (bz7 (qt.wrap (ai * aa)) 30) λak=>.jh<|.lit 9002 5<|.jg<|.jc<|.cc (bzj (qt.wrap (aj * ab)) 30) λal=>.jh<|.lit 7001 7<|.jn<|.lit 8002 6<|.jh<|.jc<|.cc (bz7 (qt.wrap (ak * aa)) 30) λam=>.ji<|.lit 9002 6<|.jh<|.jc<|.cc (bzj (qt.wrap (al * ab)) 30) λan=>.ji<|.lit 7001 8<|.jn<|.lit 8002 7<|.ji<|.jc<|.cc (bz7 (qt.wrap (am * aa)) 30) λao=>.jm<|.lit 9002 7<|.ji<|.jc<|.cc (bzj (qt.wrap (an * ab)) 30) λap=>.jm<|.lit 7001 9<|.jn<|.lit 8002 8<|.jm<|.jc<|.cc (bz7 (qt.wrap (ao * aa)) 30) λaq=>.ix 9 11 rfl<|.lit 9002 8<|.jm<|.jc<|.cc (bzj (qt.wrap (ap * ab)) 30) λar=>.ix 9 11 rfl<|.lit 7001 10<|.jn<|.lit 8002 9<|.ix 9 11 rfl<|.jc<|.cc (bz7 (qt.wrap (aq * aa)) 30) λau=>.ix 10 11 rfl<|.lit 9002 9<|.ix 9 11 rfl<|.jc<|.cc (bzj (qt.wrap (ar * ab)) 30) λav=>.ix 10 11 rfl<|.lit 7001 11<|.jp<|.jq ((1073741824,aa,ac,ae,ag,ai,ak,am,ao,aq,au),(1073741824,ab,ad,af,ah,aj,al,an,ap,ar,av))
def oz7:=
 mkq1 func535 oz8 (λr=>.tup [.pure (jz6 r.1),.pure (jz6 r.2)])
def qzx (j:Int)(aa:Int):T Int:=
 .grd (aa≠0)<|.jq (qt.wrap ((qt.wrap ((qt.wrap (j+aa))-1)).tdiv aa))
def dz9:=
 mkp2 func537 qzx
def jzf (j:A4):T Int:=
 .loop (λs (aa:Bh)=>pk s [7,8] [] [(3,pz aa.1),(4,pz aa.2.1),(9,pz aa.2.2)] []) (.exit 0) (ik 3 [] []) (λaa=>.jF (aa.2.2<(j.length:Int)) (.gh aa.2.2 j.length<|.nn ((qt.wrap (aa.1+(qt.wrap (aa.2.1 * (j.getD (X3 aa.2.2) qu))))),(qt.wrap (0-aa.2.1)),(qt.wrap (aa.2.2+1)))) (.oo aa.1)) (0,1,0) [] λaa=>.jq aa
def czr:=
 mkp1 func536 jzf
def mz1 (j:Int)(aa:Int):T az0:=
 .cc (bz7 j 14) λab=>.cc (bzj aa 14) λac=>.jq (⟨(max 0 ab),(min 65536 ac)⟩:az0)
def mz0:=
 mkp2 func538 mz1
def Bzs (j:Int):T az0:=
 .cc (oz7 j) λaa=>.jc<|.je<|.cc (dz9 aa.2.2.2.2.1 6) λab=>.jg<|.ok ((120:Int)≠0) jr<|.ji<|.cc (dz9 aa.2.2.2.2.2.2.2.2.1 5040) λac=>let ad:=([aa.1.2.1,ab,(qt.wrap (aa.1.2.2.2.2.2.1.tdiv 120)),ac]:A4);
 .conv 2011 (kL ad 2)<|.cc (czr ad) λae=>.jc<|.je<|.ok ((6:Int)≠0) jr<|.jg<|.cc (dz9 aa.2.2.2.2.2.2.1 120) λaf=>.ji<|.ok ((5040:Int)≠0) jr<|.ix 9 11 rfl<|.cc (dz9 aa.2.2.2.2.2.2.2.2.2.2.1 362880) λag=>let ah:=([aa.2.2.1,(qt.wrap (aa.1.2.2.2.1.tdiv 6)),af,(qt.wrap (aa.1.2.2.2.2.2.2.2.1.tdiv 5040)),ag]:A4);
 .conv 3014 (kL ah 2)<|.cc (czr ah) λai=>.cc (mz0 ae ai) λaj=>.jq aj
def Mzv:=
 mkp1 func528 Bzs
def uzj (j:Int):T az0:=
 .cc (oz7 j) λaa=>.jd<|.cc (dz9 aa.2.2.2.1 2) λab=>.jf<|.ok ((24:Int)≠0) jr<|.jh<|.cc (dz9 aa.2.2.2.2.2.2.2.1 720) λac=>.jm<|.ok ((40320:Int)≠0) jr<|.ix 10 11 rfl<|.cc (dz9 aa.2.2.2.2.2.2.2.2.2.2.2 3628800) λad=>let ae:=([1073741824,ab,(qt.wrap (aa.1.2.2.2.2.1.tdiv 24)),ac,(qt.wrap (aa.1.2.2.2.2.2.2.2.2.1.tdiv 40320)),ad]:A4);
 .conv 2015 (kL ae 2)<|.cc (czr ae) λaf=>.jd<|.ok ((2:Int)≠0) jr<|.jf<|.cc (dz9 aa.2.2.2.2.2.1 24) λag=>.jh<|.ok ((720:Int)≠0) jr<|.jm<|.cc (dz9 aa.2.2.2.2.2.2.2.2.2.1 40320) λah=>let ai:=([1073741824,(qt.wrap (aa.1.2.2.1.tdiv 2)),ag,(qt.wrap (aa.1.2.2.2.2.2.2.1.tdiv 720)),ah]:A4);
 .conv 3012 (kL ai 2)<|.cc (czr ai) λaj=>.cc (mz0 af aj) λak=>.jq ak
def Fzy:=
 mkp1 func529 uzj
def yz2 (j:Int):T az0:=
 .jF (j<=8192) (.cc (Mzv j) λaa=>.jq aa) (.cc (Fzy (qt.wrap (16384-j))) λaa=>.jq aa)
def kzb:=
 mkp1 func522 yz2
def vz0 (j:az0):T az0:=
 .cc (bzw j) λaa=>.br (!aa) (.jq (⟨0,0⟩:az0)) (.jq (⟨(qt.wrap (0-j.Hi)),(qt.wrap (0-j.Lo))⟩:az0))
def nz9:=
 mkp1 func479 vz0
def Hz3 (j:Int):T az0:=
 .cc (kzd j) λaa=>let ab:=aa.tmod 16384;let ac:=qt.wrap (aa.tdiv 16384);let ad:=qt.wrap (16384-ab);
 .ok ((16384:Int)≠0) jr<|.ok ((16384:Int)≠0) jr<|.br (ac==0) (.cc (kzb ab) λae=>.jq ae) (.br (ac==1) (.cc (kzb ad) λae=>.jq ae) (.br (ac==2) (.cc (kzb ab) λae=>.cc (nz9 ae) λaf=>.jq af) (.cc (kzb ad) λae=>.cc (nz9 ae) λaf=>.jq af)))
def yz1:=
 mkp1 func509 Hz3
def Hz2 (j:Int):T az0:=
 .cc (kzd j) λaa=>.cc (yz1 (qt.wrap (aa+16384))) λab=>.jq ab
def Hz1:=
 mkp1 func508 Hz2
def rzd (j:az0)(aa:az0):T az0:=
 .cc (jz8 j aa) λab=>.br (!ab) (.jq (⟨0,0⟩:az0)) (.jq (⟨(min j.Lo aa.Lo),(max j.Hi aa.Hi)⟩:az0))
def fz8:=
 mkp2 func519 rzd
def uzy (j:az0)(aa:Int):T Bool:=
 .cc (bzw j) λab=>.br ab (.jF (j.Lo<=aa) (.jq (qv (aa<=j.Hi))) (.jq false)) (.jq false)
def Gz4:=
 mkp2 func527 uzy
def yz3 (j:az0)(aa:Int):T Bool:=
 .cc (kzd (qt.wrap (aa-j.Lo))) λab=>.cc (Gz4 j (qt.wrap (j.Lo+ab))) λac=>.jq ac
def kzc:=
 mkp2 func520 yz3
def Bzr (j:az0)(aa:Int)(ab:Int):T az0:=
 .cc (bzw j) λac=>.br (!ac) (.jq (⟨0,0⟩:az0)) (.cc (ozh j) λad=>.jF (ad>=65536) (.jq (⟨(-65536),65536⟩:az0)) (.cc (Hz1 j.Lo) λae=>.cc (Hz1 j.Hi) λaf=>.cc (fz8 ae af) λag=>.cut 0 (λs (ah:B2)=>pk s [3,4,8,9] [0,64] [] [(1088,.box [pz ah.1,pz ah.2])]) (.cc (kzc j aa) λah=>.br ah (.cc (czi 65536) λai=>.cc (fz8 ag ai) λaj=>.oo (aj.Lo,aj.Hi)) (.oo (ag.Lo,ag.Hi))) λah=>.cut 0 (λs (ai:B2)=>pk s [8,9] [64] [] [(1088,.box [pz ai.1,pz ai.2])]) (.cc (kzc j ab) λai=>.br ai (.cc (czi (-65536)) λaj=>.cc (fz8 (⟨ah.1,ah.2⟩:az0) aj) λak=>.oo (ak.Lo,ak.Hi)) (.oo (ah.1,ah.2))) λai=>.jq (⟨ai.1,ai.2⟩:az0)))
def Mzu (j)(aa)(ab):=
 mkD func507 (Bzr j aa ab) 0 [q j,.func 508 [] [],pz aa,pz ab] [] (λr=>q r) X6
def qzv (j:az0):T az0:=
 .cc (Mzu j 0 32768) λaa=>.jq aa
def Bzp:=
 mkp1 func477 qzv
def uzk (j:az0)(aa:Int)(ab:Int):T az0:=
 .cc (bzw j) λac=>.br (!ac) (.jq (⟨0,0⟩:az0)) (.cc (ozh j) λad=>.jF (ad>=65536) (.jq (⟨(-65536),65536⟩:az0)) (.cc (yz1 j.Lo) λae=>.cc (yz1 j.Hi) λaf=>.cc (fz8 ae af) λag=>.cut 0 (λs (ah:B2)=>pk s [3,4,8,9] [0,64] [] [(1088,.box [pz ah.1,pz ah.2])]) (.cc (kzc j aa) λah=>.br ah (.cc (czi 65536) λai=>.cc (fz8 ag ai) λaj=>.oo (aj.Lo,aj.Hi)) (.oo (ag.Lo,ag.Hi))) λah=>.cut 0 (λs (ai:B2)=>pk s [8,9] [64] [] [(1088,.box [pz ai.1,pz ai.2])]) (.cc (kzc j ab) λai=>.br ai (.cc (czi (-65536)) λaj=>.cc (fz8 (⟨ah.1,ah.2⟩:az0) aj) λak=>.oo (ak.Lo,ak.Hi)) (.oo (ah.1,ah.2))) λai=>.jq (⟨ai.1,ai.2⟩:az0)))
def Fzz (j)(aa)(ab):=
 mkD func507 (uzk j aa ab) 0 [q j,.func 509 [] [],pz aa,pz ab] [] (λr=>q r) X6
def qzw (j:az0):T az0:=
 .cc (Fzz j 16384 49152) λaa=>.jq aa
def Bzq:=
 mkp1 func478 qzw
def zz2 (j:Int)(aa:az0):T Bp:=let ab:=(⟨aa.Lo,aa.Hi⟩:az0);.cc (bzw aa) λac=>.br (!ac) (.jq (((⟨0,0⟩:az0),(⟨0,0⟩:az0),(⟨0,0⟩:az0)),((⟨0,0⟩:az0),(⟨0,0⟩:az0),(⟨0,0⟩:az0)),((⟨0,0⟩:az0),(⟨0,0⟩:az0),(⟨0,0⟩:az0)))) (.cc (Bzp ab) λad=>.cc (Bzq ab) λae=>.cc (nz9 ae) λaf=>.cc (czi 65536) λag=>.cc (czi 0) λah=>.br (j==0) (.jq ((ag,ah,ah),(ah,ad,af),(ah,ae,ad))) (.br (j==1) (.jq ((ad,ah,ae),(ah,ag,ah),(af,ah,ad))) (.br (j==2) (.jq ((ad,af,ah),(ae,ad,ah),(ah,ah,ag))) (.jq (((⟨0,0⟩:az0),(⟨0,0⟩:az0),(⟨0,0⟩:az0)),((⟨0,0⟩:az0),(⟨0,0⟩:az0),(⟨0,0⟩:az0)),((⟨0,0⟩:az0),(⟨0,0⟩:az0),(⟨0,0⟩:az0)))))))
def Jz4:=
 mkp2 func425 zz2
def Hzp (j:Int)(aa:az0):T bz4:=
 .cc (Jz4 j (⟨aa.Lo,aa.Hi⟩:az0)) λab=>.cc (pose_still_C) λac=>.jq (⟨ab,ac⟩:bz4)
def Rzn:=
 mkp2 func363 Hzp
def Hz5 (j:Int)(aa:az0):T bz4:=
 .cc (Rzn j (⟨aa.Lo,aa.Hi⟩:az0)) λab=>.jq ab
def Pzt:=
 mkp2 func309 Hz5
def kzm (j:azu)(aa:az0):T bz4:=
 .cc (izq j.XE) λab=>.cc (tzw ((⟨ab.1.Lo,ab.1.Hi⟩:az0),(⟨ab.2.1.Lo,ab.2.1.Hi⟩:az0),(⟨ab.2.2.Lo,ab.2.2.Hi⟩:az0))) λac=>let ad:=(⟨ac.R,ac.T⟩:bz4);
 .split (((gz5 j.Xo).o).isSome) (.cc (gz5 j.Xo) λae=>.cc (Pzt ae (⟨aa.Lo,aa.Hi⟩:az0)) λaf=>.cc (izs ad af) λag=>.jq ag) (.split (((gz7 j.Xo).o).isSome) (.cc (gz7 j.Xo) λae=>.cc (Mzw ae aa) λaf=>.cc (izs ac af) λag=>.jq ag) (.cc (jzu j.Xo) λae=>.cc (Pzs ae aa) λaf=>.cc (izs ad (⟨af.R,af.T⟩:bz4)) λag=>.jq ag))
def tzj:=
 mkp2 func210 kzm
def kzp (j:azj)(aa:Ae):T Ag:=let ab:=(j.Xc.length:Int);.conv 1003 (Cz4 24 az4t 151 ab.toNat (⟨(((⟨0,0⟩:az0),(⟨0,0⟩:az0),(⟨0,0⟩:az0)),((⟨0,0⟩:az0),(⟨0,0⟩:az0),(⟨0,0⟩:az0)),((⟨0,0⟩:az0),(⟨0,0⟩:az0),(⟨0,0⟩:az0))),((⟨0,0⟩:az0),(⟨0,0⟩:az0),(⟨0,0⟩:az0))⟩:bz4))<|.grd (0<=ab/\ab<=ab/\ab<=9223372036854775807/\ab * 192<=140737488355328)<|.loop (λs (ac:(Ag×Int))=>pk s [1,5,13,14] [] [(15,pz ac.2)] [(320,vO ac.1 151)]) (.exit 0) (λs (ac:Ag)=>pk s [5] [] [] [(320,vO ac 151)]) (λac=>let ad:=(ac.2).toNat;let ae:=j.Xc.getD ad qu;let af:=ae.XD;.jF (ac.2<ab) (.cut 0 (λs (ag:Ag)=>pk s [1,5,13,14,15] [] [] [(320,vO ag 151)]) (.gh ac.2 j.Xc.length<|.gh ac.2 aa.length<|.cc (tzj ae (aa.getD ad qu)) λag=>let ah:=ac.1.set ad ag;let ai:=ah.length;
 .gh ac.2 ac.1.length<|.conv 5009 (kS ac.1 151 ad ag)<|.gi (ac.2) ac.1.length<|.br (af !=(-1)) (.gg af ai<|.gg ac.2 ai<|.call (izs (ah.getD (af.toNat) qu) (ah.getD ad qu)) [] λaj=>.gh ac.2 ai<|.conv 7013 (kS ah 151 ad aj)<|.gi (ac.2) ai<|.oo (ah.set ad aj)) (.oo ah)) λag=>.nn (ag,(qt.wrap (ac.2+1)))) (.oo ac.1)) ((qs ab.toNat ((⟨(((⟨0,0⟩:az0),(⟨0,0⟩:az0),(⟨0,0⟩:az0)),((⟨0,0⟩:az0),(⟨0,0⟩:az0),(⟨0,0⟩:az0)),((⟨0,0⟩:az0),(⟨0,0⟩:az0),(⟨0,0⟩:az0))),((⟨0,0⟩:az0),(⟨0,0⟩:az0),(⟨0,0⟩:az0))⟩:bz4):bz4)),0) [] λac=>.jq ac
def hze:=
 mkp2 func148 kzp
def kzn (j:azj)(aa:Ae):T Ag:=let ab:=(⟨j.Xc,j.Xv⟩:azj);.cub 2 13 [1,2] [0] (.cc (hzd ab aa) λac=>.jG (!ac) (.cc (ezy ab) λad=>.oo (ad !=0))) λac=>.br ac (.jq nl) (.cc (hze ab aa) λad=>.jq ad)
def tzk:=
 mkp2 func92 kzn
def Dz2 (j:bz4)(aa:Bm):T Bm:=
 .cc (tzx j) λab=>.call (nzd aa ab.1 ab.2.1 ab.2.2.1 ab.2.2.2.1 ab.2.2.2.2.1 ab.2.2.2.2.2.1 ab.2.2.2.2.2.2.1 ab.2.2.2.2.2.2.2.1 ab.2.2.2.2.2.2.2.2.1 ab.2.2.2.2.2.2.2.2.2.1 ab.2.2.2.2.2.2.2.2.2.2.1 ab.2.2.2.2.2.2.2.2.2.2.2.1 ab.2.2.2.2.2.2.2.2.2.2.2.2.1 ab.2.2.2.2.2.2.2.2.2.2.2.2.2.1 ab.2.2.2.2.2.2.2.2.2.2.2.2.2.2.1 ab.2.2.2.2.2.2.2.2.2.2.2.2.2.2.2.1 ab.2.2.2.2.2.2.2.2.2.2.2.2.2.2.2.2.1 ab.2.2.2.2.2.2.2.2.2.2.2.2.2.2.2.2.2.1 ab.2.2.2.2.2.2.2.2.2.2.2.2.2.2.2.2.2.2.1 ab.2.2.2.2.2.2.2.2.2.2.2.2.2.2.2.2.2.2.2.1 ab.2.2.2.2.2.2.2.2.2.2.2.2.2.2.2.2.2.2.2.2.1 ab.2.2.2.2.2.2.2.2.2.2.2.2.2.2.2.2.2.2.2.2.2.1 ab.2.2.2.2.2.2.2.2.2.2.2.2.2.2.2.2.2.2.2.2.2.2.1 ab.2.2.2.2.2.2.2.2.2.2.2.2.2.2.2.2.2.2.2.2.2.2.2) [(0,256)] λac=>.jq ac.1
def Dz1:=
 mkp2 func94 Dz2
def Lzk (j:az2)(aa:Int)(ab:Int)(ac:A4):T Bool:=let ad:=qt.wrap (65536-j.Xp);let ae:=qt.wrap (0-j.Xp);let af:=j.Xj.getD (aa.toNat) qu;let ag:=j.Xh.getD (ab.toNat) qu;.cub 2 35 [1,2,3,4] [0] (.cc (iz4 j) λah=>.jG (ah !=0) (.cc (yzl j aa ab) λai=>.jG (!ai) (.cc (bzq j.Xl.Xg ac) λaj=>.oo (!aj)))) λah=>.br ah (.jq false) (.gh aa j.Xj.length<|.cc (Bzx ac) λai=>.cc (tzk j.Xl.Xg ai) λaj=>let ak:=aj.getD (X3 af.XB) qu;let al:=ak.R.1.2.1.Lo;let am:=ak.R.1.2.2.Lo;let an:=ak.R.2.1.1.Lo;let ao:=ak.R.2.2.1.Lo;let ap:=ak.R.2.1.2.2.Lo;let aq:=ak.R.2.2.2.1.Lo;let ar:=qv (al<ae);let au:=qv (am<ae);let av:=qv (an<ae);let aw:=qv (ap<ae);let ax:=qv (ao<ae);let ay:=qv (aq<ae);let az:=qv ((ak.R.1.2.1.Hi)>j.Xp);let a0:=qv ((ak.R.1.2.2.Hi)>j.Xp);let a1:=qv ((ak.R.2.1.1.Hi)>j.Xp);let a2:=qv ((ak.R.2.1.2.2.Hi)>j.Xp);let a3:=qv ((ak.R.2.2.1.Hi)>j.Xp);let a4:=qv ((ak.R.2.2.2.1.Hi)>j.Xp);
 .gh (af.XB) aj.length<|.unroll 4<|.jn<|.z9<|.unroll 4<|.jn<|.z9<|.jn<|.jF ((ak.R.1.1.Lo)<ad) (.jq false) (.jp<|.lit 15000 1<|.jn<|.ja<|.jp<|.cut 0 (λs (a5:Bt)=>pk s [2,4,9,10,11,52,53,57,58,66,67,68,69,70,71] [0,512,1280,4672] [(77,X7 4672),(78,pz al),(79,.ptr 0 8),(80,pz j.Xp),(81,pz ae),(82,q ar),(83,q a5.1),(89,q a5.2.1),(90,q a5.2.2)] []) (.jn<|.br ar (.oo (true,true,true)) (.oo (false,az,az))) λa5=>.br a5.2.2 (.jq false) (.lit 15000 2<|.jn<|.jb<|.jp<|.cut 0 (λs (a6:Bt)=>pk s [2,4,9,10,11,52,53,57,58,66,67,68,69,70,71,79,80,81] [0,512,1280,5952] [(77,X7 5952),(78,pz am),(82,q au),(83,q a6.1),(89,q a6.2.1),(90,q a6.2.2)] []) (.jn<|.br au (.oo (true,true,true)) (.oo (false,a0,a0))) λa6=>.br a6.2.2 (.jq false) (.lit 15000 3<|.jp<|.lit 16000 1<|.jn<|.ja<|.unroll 4<|.jn<|.z9<|.jp<|.cut 0 (λs (a7:Bt)=>pk s [2,4,9,10,11,52,53,57,58,66,67,68,69,70,71,79,80,81] [0,512,1280,7936] [(77,X7 7936),(78,pz an),(82,q av),(83,q a7.1),(89,q a7.2.1),(90,q a7.2.2)] []) (.jn<|.br av (.oo (true,true,true)) (.oo (false,a1,a1))) λa7=>.br a7.2.2 (.jq false) (.lit 15000 1<|.jn<|.ja<|.jn<|.jF ((ak.R.2.1.2.1.Lo)<ad) (.jq false) (.jp<|.lit 15000 2<|.jn<|.jb<|.jp<|.cut 0 (λs (a8:Bt)=>pk s [2,4,9,10,11,52,53,57,58,66,67,68,69,70,71] [0,512,1280,11584] [(77,X7 11584),(78,pz ap),(79,.ptr 0 8),(80,pz j.Xp),(81,pz ae),(82,q aw),(83,q a8.1),(89,q a8.2.1),(90,q a8.2.2)] []) (.jn<|.br aw (.oo (true,true,true)) (.oo (false,a2,a2))) λa8=>.br a8.2.2 (.jq false) (.lit 15000 3<|.jp<|.lit 16000 2<|.jn<|.jb<|.unroll 4<|.jn<|.z9<|.jp<|.cut 0 (λs (a9:Bt)=>pk s [2,4,9,10,11,52,53,57,58,66,67,68,69,70,71,79,80,81] [0,512,1280,13568] [(77,X7 13568),(78,pz ao),(82,q ax),(83,q a9.1),(89,q a9.2.1),(90,q a9.2.2)] []) (.jn<|.br ax (.oo (true,true,true)) (.oo (false,a3,a3))) λa9=>.br a9.2.2 (.jq false) (.lit 15000 1<|.jn<|.ja<|.jp<|.cut 0 (λs (ba:Bt)=>pk s [2,4,9,10,11,52,53,57,58,66,67,68,69,70,71,79,80,81] [0,512,1280,14848] [(77,X7 14848),(78,pz aq),(82,q ay),(83,q ba.1),(89,q ba.2.1),(90,q ba.2.2)] []) (.jn<|.br ay (.oo (true,true,true)) (.oo (false,a4,a4))) λba=>.br ba.2.2 (.jq false) (.lit 15000 2<|.jn<|.jb<|.jn<|.jF ((ak.R.2.2.2.2.Lo)<ad) (.jq false) (.jp<|.lit 15000 3<|.jp<|.lit 16000 3<|.jp<|.gh ab j.Xh.length<|.cc (izq (af.XE)) λbb=>.call (Dz1 ak bb) [] λbc=>.unroll 4<|.jn<|.z9<|.cub 0 126 [4,15,102,103] [0,18880] (.z9<|.jI (bc.1.Lo<(qt.wrap ((ag.1)-j.Xp))) (.z9<|.oo (qv (bc.1.Hi>(qt.wrap ((ag.1)+j.Xp)))))) λbd=>.br bd (.jq false) (.lit 23000 1<|.jn<|.ja<|.cub 0 126 [4,15,102,103] [0,18880] (.ja<|.jI (bc.2.1.Lo<(qt.wrap ((ag.2.1)-j.Xp))) (.ja<|.oo (qv (bc.2.1.Hi>(qt.wrap ((ag.2.1)+j.Xp)))))) λbe=>.br be (.jq false) (.lit 23000 2<|.jn<|.jb<|.cub 0 126 [4,15,102,103] [0,18880] (.jb<|.jI (bc.2.2.Lo<(qt.wrap ((ag.2.2)-j.Xp))) (.jb<|.oo (qv (bc.2.2.Hi>(qt.wrap ((ag.2.2)+j.Xp)))))) λbf=>.br bf (.jq false) (.lit 23000 3<|.jp<|.jq true)))))))))))))
def iz3:=
 mkp4 func44 Lzk
def pz9 (j:azj):T A4:=let aa:=(j.Xc.length:Int);let ab:=qt.wrap (aa+1);let ac:=qs ab.toNat (0:Int);.conv 1004 (Cz4 1 bz5 3 ab.toNat 0)<|.grd (0<=ab/\ab<=ab/\ab<=9223372036854775807/\ab * 8<=140737488355328)<|.gh (0:Int) (ac.length)<|.conv 2002 (kS ac 3 (X3 (0:Int)) (-1))<|.gi (0:Int) (ac.length)<|.loop (λs (ad:Ah)=>pk s [3,14,15] [] [(16,pz ad.2)] [(384,vO ad.1 3)]) (.exit 0) (λs (ad:A4)=>pk s [3] [] [] [(384,vO ad 3)]) (λad=>let ae:=qt.wrap (ad.2+1);let af:=ae.toNat;let ag:=ad.1.set af ad.2;let ah:=ag.length;let ai:=j.Xc.getD (X3 ad.2) qu;let aj:=qt.wrap ((ai.XD)+1);.jF (ad.2<aa) (.cut 0 (λs (ak:A4)=>pk s [3,14,15,16] [] [] [(384,vO ak 3)]) (.gh ad.2 j.Xc.length<|.gh ae ad.1.length<|.conv 6005 (kS ad.1 3 af ad.2)<|.gi (ae) ad.1.length<|.br ((ai.Lo)==(ai.Hi)) (.gg aj ah<|.name 8008 ((ag.getD (aj.toNat) qu)) λak=>.gh ae ah<|.conv 8010 (kS ag 3 af ak)<|.gi (ae) ah<|.oo (ag.set af ak)) (.oo ag)) λak=>.nn (ak,ae)) (.oo ad.1)) ((ac.set (X3 (0:Int)) (-1)),0) [] λad=>.jq ad
def Bza:=
 mkp1 func429 pz9
def szk (j:az7)(aa:Int)(ab:Int):T Bool:=
 .loop (ik 12 [1,2,10,11] []) (.exit 0) (jk [] []) (λac=>let ad:=j.Xr.getD (ac.toNat) qu;.jF (ac<(j.Xr.length:Int)) (.gh ac j.Xr.length<|.cub 0 27 [1,2,10,11,12] [] (.jG (((ad.A)==aa)&&(((ad.B)==ab)&&true)) (.oo (((ad.A)==ab)&&(((ad.B)==aa)&&true)))) λae=>.br ae (.ff true) (.nn (qt.wrap (ac+1)))) (.oo .u))
 0 [] λ_=>.jq false
def Ezg:=
 mkp3 func430 szk
def Azh (j:az7):T Ai:=let aa:=(j.Xe.length:Int);.cc (ez8 j) λab=>.br (ab !=0) (.jq nl) (.cc (Bza j.Xg) λac=>.loop (λs (ad:Aj)=>pk s [1,3,4,17,18] [0] [(19,pz ad.2)] [(576,vO ad.1 274)]) (.exit 0) (λs (ad:Ai)=>pk s [4] [] [] [(576,vO ad 274)]) (λad=>let ae:=(j.Xe.getD (X3 ad.2) qu).XB;let af:=qt.wrap (ae+1);let ag:=qt.wrap (ad.2+1);.jF (ad.2<aa) (.gh ad.2 j.Xe.length<|.loop (λs (ah:Aj)=>pk s [1,3,4,5,6,17,18,19] [0,1216] [(7,pz ah.2)] [(576,vO ah.1 274)]) (.exit 2) (λs (ah:Ai)=>pk s [1,3,4,17,18,19] [0] [] [(576,vO ah 274)]) (λah=>let ai:=([(⟨ad.2,ah.2⟩:czd)]:Ai);let aj:=ah.1.length+ai.length;let ak:=(j.Xe.getD (X3 ah.2) qu).XB;let al:=qt.wrap (ak+1);.jF (ah.2<aa) (.cut 0 (λs (am:Ai)=>pk s [1,3,5,6,7,17,18,19] [0,1216] [(4,.vec 1984)] [(1984,vO am 274)]) (.gh ah.2 j.Xe.length<|.gh af ac.length<|.gh al ac.length<|.name 12011 ((ac.getD (al.toNat) qu)) λam=>.cub 0 61 [1,3,4,5,6,7,17,18,19] [0,576,1216] (.jH (!((ac.getD (af.toNat) qu)==am)) (.cc (Ezg j ae ak) λan=>.oo (!an))) λan=>.br an (.conv 14004 (kL ai 274)<|.conv 14005 (kA ah.1 ai 274)<|.grd (aj * 16<=140737488355328/\aj<=maxLen)<|.oo (ah.1++ai)) (.oo ah.1)) λam=>.nn (am,(qt.wrap (ah.2+1)))) (.oo ah.1)) (ad.1,ag) [] λah=>.nn (ah,ag)) (.oo ad.1)) (nl,0) [] λad=>.jq ad)
def Kze:=
 mkp1 func372 Azh
def Azk (j:azh)(aa:bz4):T Bn:=let ab:=(j.Xb.length:Int);.cc (Azi j) λac=>.br (!ac) (.jq nl) (.conv 3003 (Cz4 6 cz3 97 ab.toNat ((⟨0,0⟩:az0),(⟨0,0⟩:az0),(⟨0,0⟩:az0)))<|.grd (0<=ab/\ab<=ab/\ab<=9223372036854775807/\ab * 48<=140737488355328)<|.loop (λs (ad:(Bn×Int))=>pk s [3,5,16,17] [64] [(18,pz ad.2)] [(576,vO ad.1 97)]) (.exit 0) (λs (ad:Bn)=>pk s [5] [] [] [(576,vO ad 97)]) (λad=>let ae:=(ad.2).toNat;.jF (ad.2<ab) (.gh ad.2 j.Xb.length<|.cc (izq (j.Xb.getD ae qu)) λaf=>.cc (Dz1 aa af) λag=>.gh ad.2 ad.1.length<|.conv 7007 (kS ad.1 97 ae ag)<|.gi (ad.2) ad.1.length<|.nn ((ad.1.set ae ag),(qt.wrap (ad.2+1)))) (.oo ad.1)) ((qs ab.toNat (((⟨0,0⟩:az0),(⟨0,0⟩:az0),(⟨0,0⟩:az0)):Bm)),0) [] λad=>.jq ad)
def Kzl:=
 mkp2 func431 Azk
def jzh (j:az7)(aa:Ae):T Bo:=let ab:=(j.Xe.length:Int);.cub 2 19 [1,2] [0] (.cc (hzd j.Xg aa) λac=>.jG (!ac) (.cc (ez8 j) λad=>.oo (ad !=0))) λac=>.br ac (.jq nl) (.cc (hze j.Xg aa) λad=>.conv 4003 (azgj 1 (encL 6 cz3) 98 ab.toNat nl (.lst 0 0 λ_=>.unk) jw)<|.grd (0<=ab/\ab<=ab/\ab<=9223372036854775807/\ab * 24<=140737488355328)<|.loop (λs (ae:(Bo×Int))=>pk s [5,6,29,30] [] [(31,pz ae.2)] [(704,vO ae.1 98)]) (.exit 0) (λs (ae:Bo)=>pk s [6] [] [] [(704,vO ae 98)]) (λae=>let af:=(ae.2).toNat;let ag:=j.Xe.getD af qu;let ah:=ag.XB;let ai:=ad.getD (ah.toNat) qu;.jF (ae.2<ab) (.gh ae.2 j.Xe.length<|.cc (pose_Identity_C) λaj=>.cut 0 (λs (ak:Ce)=>pk s [5,6,7,8,9,29,30,31] [704,1408] [] [(1664,.box [pz ak.1,pz ak.2.1,pz ak.2.2.1,pz ak.2.2.2.1,pz ak.2.2.2.2.1,pz ak.2.2.2.2.2.1,pz ak.2.2.2.2.2.2.1,pz ak.2.2.2.2.2.2.2.1,pz ak.2.2.2.2.2.2.2.2.1,pz ak.2.2.2.2.2.2.2.2.2.1,pz ak.2.2.2.2.2.2.2.2.2.2.1,pz ak.2.2.2.2.2.2.2.2.2.2.2.1,pz ak.2.2.2.2.2.2.2.2.2.2.2.2.1,pz ak.2.2.2.2.2.2.2.2.2.2.2.2.2.1,pz ak.2.2.2.2.2.2.2.2.2.2.2.2.2.2.1,pz ak.2.2.2.2.2.2.2.2.2.2.2.2.2.2.2.1,pz ak.2.2.2.2.2.2.2.2.2.2.2.2.2.2.2.2.1,pz ak.2.2.2.2.2.2.2.2.2.2.2.2.2.2.2.2.2.1,pz ak.2.2.2.2.2.2.2.2.2.2.2.2.2.2.2.2.2.2.1,pz ak.2.2.2.2.2.2.2.2.2.2.2.2.2.2.2.2.2.2.2.1,pz ak.2.2.2.2.2.2.2.2.2.2.2.2.2.2.2.2.2.2.2.2.1,pz ak.2.2.2.2.2.2.2.2.2.2.2.2.2.2.2.2.2.2.2.2.2.1,pz ak.2.2.2.2.2.2.2.2.2.2.2.2.2.2.2.2.2.2.2.2.2.2.1,pz ak.2.2.2.2.2.2.2.2.2.2.2.2.2.2.2.2.2.2.2.2.2.2.2])]) (.br (ah !=(-1)) (.gh ah ad.length<|.oo (ai.R.1.1.Lo,ai.R.1.1.Hi,ai.R.1.2.1.Lo,ai.R.1.2.1.Hi,ai.R.1.2.2.Lo,ai.R.1.2.2.Hi,ai.R.2.1.1.Lo,ai.R.2.1.1.Hi,ai.R.2.1.2.1.Lo,ai.R.2.1.2.1.Hi,ai.R.2.1.2.2.Lo,ai.R.2.1.2.2.Hi,ai.R.2.2.1.Lo,ai.R.2.2.1.Hi,ai.R.2.2.2.1.Lo,ai.R.2.2.2.1.Hi,ai.R.2.2.2.2.Lo,ai.R.2.2.2.2.Hi,ai.T.1.Lo,ai.T.1.Hi,ai.T.2.1.Lo,ai.T.2.1.Hi,ai.T.2.2.Lo,ai.T.2.2.Hi)) (.oo (aj.R.1.1.Lo,aj.R.1.1.Hi,aj.R.1.2.1.Lo,aj.R.1.2.1.Hi,aj.R.1.2.2.Lo,aj.R.1.2.2.Hi,aj.R.2.1.1.Lo,aj.R.2.1.1.Hi,aj.R.2.1.2.1.Lo,aj.R.2.1.2.1.Hi,aj.R.2.1.2.2.Lo,aj.R.2.1.2.2.Hi,aj.R.2.2.1.Lo,aj.R.2.2.1.Hi,aj.R.2.2.2.1.Lo,aj.R.2.2.2.1.Hi,aj.R.2.2.2.2.Lo,aj.R.2.2.2.2.Hi,aj.T.1.Lo,aj.T.1.Hi,aj.T.2.1.Lo,aj.T.2.1.Hi,aj.T.2.2.Lo,aj.T.2.2.Hi))) λak=>.cc (Kzl ag (⟨(((⟨ak.1,ak.2.1⟩:az0),(⟨ak.2.2.1,ak.2.2.2.1⟩:az0),(⟨ak.2.2.2.2.1,ak.2.2.2.2.2.1⟩:az0)),((⟨ak.2.2.2.2.2.2.1,ak.2.2.2.2.2.2.2.1⟩:az0),(⟨ak.2.2.2.2.2.2.2.2.1,ak.2.2.2.2.2.2.2.2.2.1⟩:az0),(⟨ak.2.2.2.2.2.2.2.2.2.2.1,ak.2.2.2.2.2.2.2.2.2.2.2.1⟩:az0)),((⟨ak.2.2.2.2.2.2.2.2.2.2.2.2.1,ak.2.2.2.2.2.2.2.2.2.2.2.2.2.1⟩:az0),(⟨ak.2.2.2.2.2.2.2.2.2.2.2.2.2.2.1,ak.2.2.2.2.2.2.2.2.2.2.2.2.2.2.2.1⟩:az0),(⟨ak.2.2.2.2.2.2.2.2.2.2.2.2.2.2.2.2.1,ak.2.2.2.2.2.2.2.2.2.2.2.2.2.2.2.2.2.1⟩:az0))),((⟨ak.2.2.2.2.2.2.2.2.2.2.2.2.2.2.2.2.2.2.1,ak.2.2.2.2.2.2.2.2.2.2.2.2.2.2.2.2.2.2.2.1⟩:az0),(⟨ak.2.2.2.2.2.2.2.2.2.2.2.2.2.2.2.2.2.2.2.2.1,ak.2.2.2.2.2.2.2.2.2.2.2.2.2.2.2.2.2.2.2.2.2.1⟩:az0),(⟨ak.2.2.2.2.2.2.2.2.2.2.2.2.2.2.2.2.2.2.2.2.2.2.1,ak.2.2.2.2.2.2.2.2.2.2.2.2.2.2.2.2.2.2.2.2.2.2.2⟩:az0))⟩:bz4)) λal=>.gh ae.2 ae.1.length<|.conv 11006 (kS ae.1 98 af al)<|.gi (ae.2) ae.1.length<|.nn ((ae.1.set af al),(qt.wrap (ae.2+1)))) (.oo ae.1)) ((qs ab.toNat (nl:Bn)),0) [] λae=>.jq ae)
def rze:=
 mkp2 func373 jzh
def ozb (j:az7)(aa:Ae):T (czq×Bool):=let ab:=(aa.length:Int);.cub 2 19 [1,2,4] [0,64,65,66,67] (.cc (ez8 j) λac=>.jG (ac !=0) (.oo (ab !=(j.Xg.Xc.length:Int)))) λac=>.br ac (.jq ((⟨nl,nl,nl⟩:czq),false)) (.loop (ik 23 [1,2,4,21,22] [0,64,65,66,67]) (.exit 0) (jk [1,2,4] [0,64,65,66,67]) (λad=>.jF (ad<ab) (.gh ad aa.length<|.cc (bzw (aa.getD (ad.toNat) qu)) λae=>.br (!ae) (.ff ((⟨nl,nl,nl⟩:czq),false)) (.nn (qt.wrap (ad+1)))) (.oo .u))
 0 [] λ_=>.cc (Kze j) λad=>.cc (rze (⟨j.Xg,j.Xe,j.Xr⟩:az7) aa) λae=>.jq ((⟨j.Xe,ad,ae⟩:czq),true))
def oza:=
 mkq2 func329 ozb (λr=>.tup [q r.1,q r.2])
def yz5 (j:czq)(aa:Int):T gz0:=let ab:=j.pairs.getD (aa.toNat) qu;let ac:=ab.A;let ad:=ab.B;.gh aa j.pairs.length<|.gh ac j.points.length<|.gh ac j.shapes.length<|.gh ad j.points.length<|.gh ad j.shapes.length<|.jq (⟨(j.points.getD (ac.toNat) qu),(j.points.getD (ad.toNat) qu),(j.shapes.getD (ac.toNat) qu).XF,(j.shapes.getD (ad.toNat) qu).XF⟩:gz0)
def yz4:=
 mkp2 func330 yz5
def Fzt (j:Bn)(aa:Int)(ab:Bn)(ac:Int)(ad:Bi):T (Bn×Bn×Int×Int×Bi):=
 .jq (j,ab,aa,ac,ad)
def Fzs:=
 mkv5 func375 Fzt (λ_=>.func 432 [] [X7 0,X7 1,X7 2,X7 3,X7 4]) (λr=>[(0,.box [q r.1]),(1,.box [q r.2.1]),(2,.box [pz r.2.2.1]),(3,.box [pz r.2.2.2.1]),(4,.box [q r.2.2.2.2])])
def az0n (j:Bn)(aa:Int)(ab:Bn)(ac:Int):T ezu:=
 .jq (⟨(⟨j,aa⟩:fzk),(⟨ab,ac⟩:fzk)⟩:ezu)
def Nzd:=
 mkp4 func438 az0n
def wzi (j:Bn):T Bool:=let aa:=(j.length:Int);.cub 2 14 [0] [] (.jI (aa<1) (.oo (qv (aa>8)))) λab=>.br ab (.jq false) (.loop (ik 17 [15,16] []) (.exit 0) (jk [] []) (λac=>let ad:=j.getD (ac.toNat) qu;.jF (ac<aa) (.gh ac j.length<|.unroll 4<|.jn<|.z9<|.cub 0 39 [15,16,17,21,22] [] (.jI ((ad.1.Lo)<(-268435456)) (.jI ((ad.1.Lo)>(ad.1.Hi)) (.oo (qv ((ad.1.Hi)>268435456))))) λae=>.br ae (.ff false) (.lit 11000 1<|.jn<|.ja<|.cub 0 39 [15,16,17,21,22] [] (.jI ((ad.2.1.Lo)<(-268435456)) (.jI ((ad.2.1.Lo)>(ad.2.1.Hi)) (.oo (qv ((ad.2.1.Hi)>268435456))))) λaf=>.br af (.ff false) (.lit 11000 2<|.jn<|.jb<|.cub 0 39 [15,16,17,21,22] [] (.jI ((ad.2.2.Lo)<(-268435456)) (.jI ((ad.2.2.Lo)>(ad.2.2.Hi)) (.oo (qv ((ad.2.2.Hi)>268435456))))) λag=>.br ag (.ff false) (.lit 11000 3<|.jp<|.nn (qt.wrap (ac+1)))))) (.oo .u))
 0 [] λ_=>.jq true)
def izz:=
 mkp1 func380 wzi
def Ezj (j:fzk):T Bool:=
 .cc (izz j.points) λaa=>.br aa (.jF (0<=j.radius) (.jq (qv (j.radius<=1048576))) (.jq false)) (.jq false)
def Ezi:=
 mkp1 func510 Ezj
def nz3 (j:Bh):T Bool:=
 .loop (ik 6 [5] []) (.exit 0) (jk [] []) (λaa=>let ab:=([j.1,j.2.1,j.2.2]:List Int).getD aa.toNat 0;.jF (aa<3) (.gh aa 3<|.cub 0 14 [5,6] [] (.jI (ab<(-16384)) (.oo (qv (ab>16384)))) λac=>.br ac (.ff false) (.nn (qt.wrap (aa+1)))) (.oo .u))
 0 [] λ_=>.jq true
def xzq:=
 mkp1 func482 nz3
def pzi (j:Bh):T Bool:=
 .cc (xzq j) λaa=>.br aa (.jq (!((j.1==0)&&((j.2.1==0)&&((j.2.2==0)&&true))))) (.jq false)
def jzb:=
 mkp1 func434 pzi
def Kzv (j:Bh):T Bh:=
 .jq (j.1,j.2.1,j.2.2)
def uze:=
 mkv1 func523 Kzv (λ_=>.agg [.func 530 [] [X7 0],.func 532 [] []]) (λr=>[(0,.box [pz r.1,pz r.2.1,pz r.2.2])])
def Azp (j:Bh)(aa:Bm):T B2:=let ab:=qt.wrap (j.1 * aa.1.Lo);let ac:=qt.wrap (j.1 * aa.1.Hi);let ad:=qt.wrap (j.2.1 * aa.2.1.Lo);let ae:=qt.wrap (j.2.1 * aa.2.1.Hi);let af:=qt.wrap (j.2.2 * aa.2.2.Lo);let ag:=qt.wrap (j.2.2 * aa.2.2.Hi);.unroll 4<|.jn<|.z9<|.z9<|.z9<|.name 6004 ((qt.wrap (0+(min ab ac)))) λah=>.name 7004 ((qt.wrap (0+(max ab ac)))) λai=>.lit 8000 1<|.jn<|.ja<|.ja<|.ja<|.name 6004 ((qt.wrap (ah+(min ad ae)))) λaj=>.name 7004 ((qt.wrap (ai+(max ad ae)))) λak=>.lit 8000 2<|.jn<|.jb<|.jb<|.jb<|.name 6004 ((qt.wrap (aj+(min af ag)))) λal=>.name 7004 ((qt.wrap (ak+(max af ag)))) λam=>.lit 8000 3<|.jp<|.jq (al,am)
def Azo:=
 mkq2 func531 Azp (λr=>.tup [pz r.1,pz r.2])
def izo (j:Bm)(aa:Int)(ab:Int)(ac:Int):T Bx:=
 .cc (Azo (aa,ab,ac) ((⟨j.1.Lo,j.1.Hi⟩:az0),(⟨j.2.1.Lo,j.2.1.Hi⟩:az0),(⟨j.2.2.Lo,j.2.2.Hi⟩:az0))) λad=>.jq (ad.1,aa,ab,ac)
def pzq (j)(aa)(ab)(ac):=
 mkD func530 (izo j aa ab ac) 1 [q j,X7 0] [(0,.box [pz aa,pz ab,pz ac])] (λr=>pz r.1) (λr=>[(0,.box [pz r.2.1,pz r.2.2.1,pz r.2.2.2])])
def Fzw (j:Int)(aa:Int):T Bool:=
 .jq (qv (j<aa))
def pzr:=
 mkp2 func532 Fzw
def ozf (j:Int)(aa:Int)(ab:Int)(ac:Bn):T C1:=
 .loop (λs (ad:C3)=>pk s [2,11,12] [1] [(6,pz ad.2.2.2.1),(7,pz ad.2.2.2.2.1),(13,pz ad.2.2.2.2.2)] [(0,.box [pz ad.1,pz ad.2.1,pz ad.2.2.1])]) (.exit 0) (λs (ad:C1)=>pk s [] [] [(6,pz ad.2.2.2.1),(7,pz ad.2.2.2.2)] [(0,.box [pz ad.1,pz ad.2.1,pz ad.2.2.1])]) (λad=>.jF (ad.2.2.2.2.2<(ac.length:Int)) (.cut 0 (λs (ae:C1)=>pk s [2,11,12,13] [1] [(6,pz ae.2.2.2.1),(7,pz ae.2.2.2.2)] [(0,.box [pz ae.1,pz ae.2.1,pz ae.2.2.1])]) (.gh ad.2.2.2.2.2 ac.length<|.call (pzq (ac.getD (X3 ad.2.2.2.2.2) qu) ad.1 ad.2.1 ad.2.2.1) [(0,0)] λae=>.cub 0 30 [2,6,7,8,10,11,12,13] [0,1] (.jG (ad.2.2.2.2.2==0) (.cc (pzr ae.1 ad.2.2.2.1) λaf=>.oo af)) λaf=>.br af (.oo (ae.2.1,ae.2.2.1,ae.2.2.2,ae.1,ad.2.2.2.2.2)) (.oo (ae.2.1,ae.2.2.1,ae.2.2.2,ad.2.2.2.1,ad.2.2.2.2.1))) λae=>.nn (ae.1,ae.2.1,ae.2.2.1,ae.2.2.2.1,ae.2.2.2.2,(qt.wrap (ad.2.2.2.2.2+1)))) (.oo (ad.1,ad.2.1,ad.2.2.1,ad.2.2.2.1,ad.2.2.2.2.1))) (j,aa,ab,0,0,0) [] λad=>.jq (ad.2.2.2.1,ad.2.2.2.2,ad.1,ad.2.1,ad.2.2.1)
def Azx (j)(aa)(ab)(ac):=
 mkD func524 (ozf j aa ab ac) 1 [.agg [.func 530 [] [X7 0],.func 532 [] []],q ac] [(0,.box [pz j,pz aa,pz ab])] (λr=>.tup [pz r.1,pz r.2.1]) (λr=>[(0,.box [pz r.2.2.1,pz r.2.2.2.1,pz r.2.2.2.2])])
def szr (j:Bh)(aa:Bn):T Br:=
 .cub 2 16 [1,2] [0] (.cc (jzb j) λab=>.jG (!ab) (.cc (izz aa) λac=>.oo (!ac))) λab=>.br ab (.jq (0,0,false)) (.cc (uze (j.1,j.2.1,j.2.2)) λac=>.call (Azx ac.1 ac.2.1 ac.2.2 aa) [(0,384)] λad=>.jq (ad.1,ad.2.1,true))
def Ezm:=
 mkq2 func511 szr (λr=>.tup [pz r.1,pz r.2.1,q r.2.2])
def Pz2 (j:Bh):T Bh:=
 .jq (j.1,j.2.1,j.2.2)
def Bzd:=
 mkv1 func525 Pz2 (λ_=>.agg [.func 533 [] [X7 0],.func 534 [] []]) (λr=>[(0,.box [pz r.1,pz r.2.1,pz r.2.2])])
def lzn (j:Bm)(aa:Int)(ab:Int)(ac:Int):T Bx:=
 .cc (Azo (aa,ab,ac) j) λad=>.jq (ad.2,aa,ab,ac)
def uzf (j)(aa)(ab)(ac):=
 mkD func533 (lzn j aa ab ac) 1 [q j,X7 0] [(0,.box [pz aa,pz ab,pz ac])] (λr=>pz r.1) (λr=>[(0,.box [pz r.2.1,pz r.2.2.1,pz r.2.2.2])])
def Kzw (j:Int)(aa:Int):T Bool:=
 .jq (qv (j>aa))
def uzg:=
 mkp2 func534 Kzw
def kzg (j:Int)(aa:Int)(ab:Int)(ac:Bn):T C1:=
 .loop (λs (ad:C3)=>pk s [2,11,12] [1] [(6,pz ad.2.2.2.1),(7,pz ad.2.2.2.2.1),(13,pz ad.2.2.2.2.2)] [(0,.box [pz ad.1,pz ad.2.1,pz ad.2.2.1])]) (.exit 0) (λs (ad:C1)=>pk s [] [] [(6,pz ad.2.2.2.1),(7,pz ad.2.2.2.2)] [(0,.box [pz ad.1,pz ad.2.1,pz ad.2.2.1])]) (λad=>.jF (ad.2.2.2.2.2<(ac.length:Int)) (.cut 0 (λs (ae:C1)=>pk s [2,11,12,13] [1] [(6,pz ae.2.2.2.1),(7,pz ae.2.2.2.2)] [(0,.box [pz ae.1,pz ae.2.1,pz ae.2.2.1])]) (.gh ad.2.2.2.2.2 ac.length<|.call (uzf (ac.getD (X3 ad.2.2.2.2.2) qu) ad.1 ad.2.1 ad.2.2.1) [(0,0)] λae=>.cub 0 30 [2,6,7,8,10,11,12,13] [0,1] (.jG (ad.2.2.2.2.2==0) (.cc (uzg ae.1 ad.2.2.2.1) λaf=>.oo af)) λaf=>.br af (.oo (ae.2.1,ae.2.2.1,ae.2.2.2,ae.1,ad.2.2.2.2.2)) (.oo (ae.2.1,ae.2.2.1,ae.2.2.2,ad.2.2.2.1,ad.2.2.2.2.1))) λae=>.nn (ae.1,ae.2.1,ae.2.2.1,ae.2.2.2.1,ae.2.2.2.2,(qt.wrap (ad.2.2.2.2.2+1)))) (.oo (ad.1,ad.2.1,ad.2.2.1,ad.2.2.2.1,ad.2.2.2.2.1))) (j,aa,ab,0,0,0) [] λad=>.jq (ad.2.2.2.1,ad.2.2.2.2,ad.1,ad.2.1,ad.2.2.1)
def tzf (j)(aa)(ab)(ac):=
 mkD func524 (kzg j aa ab ac) 1 [.agg [.func 533 [] [X7 0],.func 534 [] []],q ac] [(0,.box [pz j,pz aa,pz ab])] (λr=>.tup [pz r.1,pz r.2.1]) (λr=>[(0,.box [pz r.2.2.1,pz r.2.2.2.1,pz r.2.2.2.2])])
def lzm (j:Bh)(aa:Bn):T Br:=
 .cub 2 16 [1,2] [0] (.cc (jzb j) λab=>.jG (!ab) (.cc (izz aa) λac=>.oo (!ac))) λab=>.br ab (.jq (0,0,false)) (.cc (Bzd (j.1,j.2.1,j.2.2)) λac=>.call (tzf ac.1 ac.2.1 ac.2.2 aa) [(0,384)] λad=>.jq (ad.1,ad.2.1,true))
def uzd:=
 mkq2 func512 lzm (λr=>.tup [pz r.1,pz r.2.1,q r.2.2])
def Lzo (j:Int):T Int:=
 .cut 1 (λs (aa:B2)=>pk s [] [] [(0,.pure (.int .u64 aa.1)),(2,pz aa.2)] []) (.jF (j>=4294967296) (.ok (0<=(32:Int)) jr<|.oo ((j.fdiv (2 ^ (min (32:Int).toNat 64))),32)) (.oo (j,0))) λaa=>.cut 0 (λs (ab:B2)=>pk s [] [] [(0,.pure (.int .u64 ab.1)),(2,pz ab.2)] []) (.jF (aa.1>=65536) (.ok (0<=(16:Int)) jr<|.oo ((aa.1.fdiv (2 ^ (min (16:Int).toNat 64))),(qt.wrap (aa.2+16)))) (.oo (aa.1,aa.2))) λab=>.cut 0 (λs (ac:B2)=>pk s [] [] [(0,.pure (.int .u64 ac.1)),(2,pz ac.2)] []) (.jF (ab.1>=256) (.ok (0<=(8:Int)) jr<|.oo ((ab.1.fdiv (2 ^ (min (8:Int).toNat 64))),(qt.wrap (ab.2+8)))) (.oo (ab.1,ab.2))) λac=>let ad:=IntKind.u8.wrap ac.1;
 .gh ad ((⟨#[0,1,2,2,3,3,3,3,4,4,4,4,4,4,4,4,5,5,5,5,5,5,5,5,5,5,5,5,5,5,5,5,6,6,6,6,6,6,6,6,6,6,6,6,6,6,6,6,6,6,6,6,6,6,6,6,6,6,6,6,6,6,6,6,7,7,7,7,7,7,7,7,7,7,7,7,7,7,7,7,7,7,7,7,7,7,7,7,7,7,7,7,7,7,7,7,7,7,7,7,7,7,7,7,7,7,7,7,7,7,7,7,7,7,7,7,7,7,7,7,7,7,7,7,7,7,7,7,8,8,8,8,8,8,8,8,8,8,8,8,8,8,8,8,8,8,8,8,8,8,8,8,8,8,8,8,8,8,8,8,8,8,8,8,8,8,8,8,8,8,8,8,8,8,8,8,8,8,8,8,8,8,8,8,8,8,8,8,8,8,8,8,8,8,8,8,8,8,8,8,8,8,8,8,8,8,8,8,8,8,8,8,8,8,8,8,8,8,8,8,8,8,8,8,8,8,8,8,8,8,8,8,8,8,8,8,8,8,8,8,8,8,8,8,8,8,8,8,8,8,8,8,8,8,8,8]⟩:ByteArray).size)<|.name 10003 ((((⟨#[0,1,2,2,3,3,3,3,4,4,4,4,4,4,4,4,5,5,5,5,5,5,5,5,5,5,5,5,5,5,5,5,6,6,6,6,6,6,6,6,6,6,6,6,6,6,6,6,6,6,6,6,6,6,6,6,6,6,6,6,6,6,6,6,7,7,7,7,7,7,7,7,7,7,7,7,7,7,7,7,7,7,7,7,7,7,7,7,7,7,7,7,7,7,7,7,7,7,7,7,7,7,7,7,7,7,7,7,7,7,7,7,7,7,7,7,7,7,7,7,7,7,7,7,7,7,7,7,8,8,8,8,8,8,8,8,8,8,8,8,8,8,8,8,8,8,8,8,8,8,8,8,8,8,8,8,8,8,8,8,8,8,8,8,8,8,8,8,8,8,8,8,8,8,8,8,8,8,8,8,8,8,8,8,8,8,8,8,8,8,8,8,8,8,8,8,8,8,8,8,8,8,8,8,8,8,8,8,8,8,8,8,8,8,8,8,8,8,8,8,8,8,8,8,8,8,8,8,8,8,8,8,8,8,8,8,8,8,8,8,8,8,8,8,8,8,8,8,8,8,8,8,8,8,8,8]⟩:ByteArray).data.getD ad.toNat 0).toNat:Int)) λae=>.jq (qt.wrap (ac.2+(qt.wrap ae)))
def gza (j):=
 mkD func424 (Lzo j) 0 [.pure (.int .u64 j)] [] pz X6
def Czj (j:Int):T Int:=let aa:=IntKind.u64.wrap j;.jF (j<=0) (.jq 0) (.cc (gza aa) λab=>let ac:=qt.wrap ((qt.wrap (ab+1)).tdiv 2);
 .ok ((2:Int)≠0) jr<|.grd (0<=ac)<|.loop (λs (ad:Bh)=>pk s [0,16] [] [(4,.pure (.int .u64 ad.1)),(5,.pure (.int .u64 ad.2.1)),(17,pz ad.2.2)] []) (.exit 0) (λs (ad:Int)=>pk s [] [] [(4,.pure (.int .u64 ad))] []) (λad=>.jF (ad.2.2<ac) (.cut 0 (λs (ae:B2)=>pk s [0,16,17] [] [(4,.pure (.int .u64 ae.1)),(5,.pure (.int .u64 ae.2))] []) (.ok ((2:Int)≠0) jr<|.name 7001 ((IntKind.u64.wrap (ad.2.1.tdiv 2))) λae=>let af:=IntKind.u64.wrap (ad.1+ae);
 .jF ((IntKind.u64.wrap (af * af))<=aa) (.oo (af,ae)) (.oo (ad.1,ae))) λae=>.nn (ae.1,ae.2,(qt.wrap (ad.2.2+1)))) (.oo ad.1)) (0,(IntKind.u64.wrap (1 * 2 ^ (min ac.toNat 64))),0) [] λad=>.jq (qt.wrap ad))
def Czi:=
 mkp1 func513 Czj
def uzs (j:Int):T Int:=
 .cc (Czi j) λaa=>.cut 0 (λs (ab:Int)=>pk s [] [] [(3,pz ab)] []) (.jF ((qt.wrap (aa * aa))<j) (.oo (qt.wrap (aa+1))) (.oo aa)) λab=>.jq ab
def Gz2:=
 mkp1 func487 uzs
def wzo (j:Bh):T Int:=
 .cc (jzb (j.1,j.2.1,j.2.2)) λaa=>.br (!aa) (.jq 0) (.z9<|.z9<|.ja<|.ja<|.jb<|.jb<|.name 3016 ((qt.wrap ((qt.wrap ((qt.wrap (j.1 * j.1))+(qt.wrap (j.2.1 * j.2.1))))+(qt.wrap (j.2.2 * j.2.2))))) λab=>.cc (Gz2 ab) λac=>.jq ac)
def Gzx:=
 mkp1 func445 wzo
def wzk (j:ezu)(aa:Bh):T Bc:=
 .cub 2 20 [2,3] [0,64] (.cc (Ezi j.a) λab=>.jG (!ab) (.cc (Ezi j.b) λac=>.oo (!ac))) λab=>.br ab (.jq (0,false)) (.cc (Ezm (aa.1,aa.2.1,aa.2.2) j.a.points) λac=>.br (!ac.2.2) (.jq (0,false)) (.cc (uzd (aa.1,aa.2.1,aa.2.2) j.b.points) λad=>.br (!ad.2.2) (.jq (0,false)) (.cc (Gzx (aa.1,aa.2.1,aa.2.2)) λae=>.name 9013 ((qt.wrap ((qt.wrap (ac.1-ad.1))- (qt.wrap (ae * (qt.wrap (j.a.radius+j.b.radius))))))) λaf=>.jq (af,true))))
def Gzw:=
 mkq2 func485 wzk (λr=>.tup [pz r.1,q r.2])
def mzx (j:ezu)(aa:Bh):T Bool:=
 .cc (Gzw (⟨j.a,j.b⟩:ezu) (aa.1,aa.2.1,aa.2.2)) λab=>.br ab.2 (.jq (qv (ab.1>0))) (.jq false)
def xzn:=
 mkp2 func437 mzx
def mzd (j:Bh)(aa:Bn)(ab:Int)(ac:Bn)(ad:Int):T Bool:=
 .cc (Nzd aa ab ac ad) λae=>.cc (xzn (⟨ae.a,ae.b⟩:ezu) (j.1,j.2.1,j.2.2)) λaf=>.jq af
def mzc:=
 mkp5 func376 mzd
end Go.Abs
