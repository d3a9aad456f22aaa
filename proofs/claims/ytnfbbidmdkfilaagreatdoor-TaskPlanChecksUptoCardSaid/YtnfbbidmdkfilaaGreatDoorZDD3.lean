import Derived.Test.YtnfbbidmdkfilaaGreatDoorZDM2
open Decidable renaming decide->qv
open Go.IntKind renaming i64->qt
open Inhabited renaming default->qu
open List renaming replicate->qs
open Int renaming toNat->X3
noncomputable section
namespace Go.Abs
open Go.Proofs.Tryz
set_option maxHeartbeats 8000000
set_option maxRecDepth 20000
open Go.Proofs
def Czm {o:Bh->Option Bool}(Y:YldS prog azs o)(a0:Bn)(a1:Bn)(a2:Int)(a3:Int)(a4:Bi):T C8:=
 .cub 1 31 [0,1,2,3,4,5] [0,1,2,3,4,5] (.call (jzc a0) [] λy23=>.br (!y23) (.jn (.out true))
 .stop) λy22=>.br y22 (.jn (false,qu,a0,a1,a2,a3,a4)) (.loop (λs (x87:(Int×Bool×Bh))=>pk s [0,1,2,3,4,32,33] [1,2,3,4,5] [(34,pz x87.1)] [(0,.tok Y.τ (tokP x87.2.1 (azs x87.2.2)))]) (.exit 0) (λs (y102:(Bool×Bh))=>pk s [0,1,2,3,4] [1,2,3,4,5] [] [(0,.tok Y.τ (tokP y102.1 (azs y102.2)))]) (λx87=>.jC (x87.1<(a4.length:Int)) .stop (.jn (.out (x87.2.1,x87.2.2)))) (0,false,qu) [] λ_=>.stop)
def Czl {o:Bh->Option Bool}(Y:YldS prog azs o)(a0:Bn)(a1:Bn)(a2:Int)(a3:Int)(a4:Bi):CallS C8:=
 mkD func432 (Czm Y a0 a1 a2 a3 a4) 6 [.yld Y.l,X7 1,X7 2,X7 3,X7 4,X7 5] [(0,.tok Y.τ (tokP false (azs qu))),(1,.box [q a0]),(2,.box [q a1]),(3,.box [pz a2]),(4,.box [pz a3]),(5,.box [q a4])] (λ_=>.tup []) (λr=>[(0,.tok Y.τ (tokP r.1 (azs r.2.1))),(1,.box [q r.2.2.1]),(2,.box [q r.2.2.2.1]),(3,.box [pz r.2.2.2.2.1]),(4,.box [pz r.2.2.2.2.2.1]),(5,.box [q r.2.2.2.2.2.2])])
def Uzx (j:Bn)(aa:Int)(ab:Bn)(ac:Int)(_a4:Bi)(x:Bh):T Bool:=
 .cc (mzw x j aa ab ac) λad=>.br ad (.jn true) (.jn false)
def Uzy (a0:Bn)(a1:Int)(a2:Bn)(a3:Int)(a4:Bi):CallS Bl:=
 mkR (encX:=azs) [⟨374,azgo⟩] hd func331 ju (.call (Gzq a0 a1 a2 a3 a4) [] λy1=>.jn y1) (Uzx a0 a1 a2 a3 a4) [(0,.box [q a0]),(64,.box [pz a1]),(128,.box [q a2]),(192,.box [pz a3]),(256,.box [pz 0,pz 0,pz 0]),(320,.box [.ff])] (λp=>[(0,.box [q a0]),(64,.box [pz a1]),(128,.box [q a2]),(192,.box [pz a3]),(256,.box (p.cells.map .pure)),(320,.box [.tt])]) [(0,960),(1,832),(2,833),(3,834),(4,835),(5,836)] (λr=>r.1) (λr=>r.2.1) (λy1 Y=>Czl Y y1.1 y1.2.1 y1.2.2.1 y1.2.2.2.1 y1.2.2.2.2) (.jn ((0,0,0),false)) (λx=>(x,true)) (λ_ _=>rfl) 0 [q a0,pz a1,q a2,pz a3,q a4] [] (λr=>.tup [q r.1,q r.2]) X6 ju
def Gze (j:bzn):T ezy:=
 .jn (⟨1,j.normals,(⟨0,nl,nl⟩:bze)⟩:ezy)
def Gzd (j):=
 mkD func335 (Gze j) 0 [.iface 397 (q j)] [] (λr=>q r) X6
def Uzd (j:az7)(aa:Ae)(ab:Bi):T ezy:=let ac:=(ab.length:Int);.cc (ozx (⟨j.Xg,j.Xe,j.Xs⟩:az7) aa) λad=>let ae:=(ad.1.pairs.length:Int);
 .br (!ad.2) (.jn (⟨0,nl,(⟨0,nl,nl⟩:bze)⟩:ezy)) (.conv 5003 (Dz3 3 azs 89 ae.toNat (0,0,0))<|.grd (0<=ae/\ae<=ae/\ae<=9223372036854775807/\ae * 24<=140737488355328)<|.loop (λs (af:(Bi×Bool×Int))=>pk s [2,6,7,9,33] [64,66,68,69,640] [(10,q af.2.1),(34,pz af.2.2)] [(1152,vO af.1 89)]) (.exit 0) (λs (af:(Bi×Bool))=>pk s [6,9] [64,66,68,69] [(10,q af.2)] [(1152,vO af.1 89)]) (λaf=>let ag:=min af.2.2 ac;let ah:=qt.wrap (af.2.2+1);let ai:=min ah ac;.jC (af.2.2<ae) (.cut 0 (λs (aj:(Bi×Bool))=>pk s [2,6,7,9,33,34] [64,66,68,69,640] [(10,q aj.2)] [(1152,vO aj.1 89)]) (.cc (yzw (⟨ad.1.shapes,ad.1.pairs,ad.1.points⟩:czt) af.2.2) λaj=>.conv 11010 (Dz4 3 azs ab ag ai)<|.grd (0<=ag/\ag<=ai/\ai<=ac)<|.call (Uzy aj.a aj.ra aj.b aj.rb ((ab.drop (ag.toNat)).take (ai.toNat-ag.toNat))) [] λak=>.br ak.2
 .stop
 .stop) λaj=>.nn (aj.1,aj.2,ah)) (.oo (af.1,af.2.1))) ((qs ae.toNat ((0,0,0):Bh)),true,0) [] λaf=>.br (!af.2) (.jn (⟨0,af.1,(⟨0,nl,nl⟩:bze)⟩:ezy)) (.cc (Gzd (⟨af.1⟩:bzn)) λag=>.jn ag))
def Gzw (j)(aa)(ab):=
 mkC [⟨328,azgi⟩] hd func278 ju (Uzd j aa ab) 0 [q j,q aa,q ab] [] (λr=>q r) X6 ju
def Qz7 (j:az2)(aa:azk)(ab:A4):T Bool:=
 .cc (qzj j aa) λac=>.br (ac.2==0) (.cc (Czw ab) λad=>.cc (Gzw (⟨ac.1.Xg,ac.1.Xe,ac.1.Xs⟩:az7) ad nl) λae=>.jn (ae.Xo==1)) (.jn false)
def Czf:=
 mkp3 func241 Qz7
def Qz6 (j:az2)(aa:azk)(ab:aza)(ac:Int):T Bool:=let ad:=(⟨aa.Xf⟩:azk);let ae:=j.Xi.getD (ac.toNat) qu;let af:=(⟨j.Xl,j.Xd,j.Xh,j.Xj,j.Xi,j.Xq⟩:az2);.cc (kzd af ad ab) λag=>.cub 1 27 [3,4,5,6,9] [0,64,128,704] (.jD (!ag.2) (.cc (jzq j (⟨ab.Xo,ab.Xt,ab.Place⟩:aza) ac) λah=>.oo (!ah))) λah=>.br ah (.jn false) (.gh ac j.Xi.length<|.cc (izh af ab.Xt ab.Place (ae.At)) λai=>.br ai (.cc (Czf af ad (ae.At)) λaj=>.br aj (.cc (Czf af (⟨ag.1.Xf⟩:azk) (ae.At)) λak=>.jn ak) (.jn false)) (.jn false))
def Qz5:=
 mkp4 func187 Qz6
def Mzh (j:azt):T az0:=
 .jn (⟨j.Lo,j.Hi⟩:az0)
def Mzg:=
 mkp1 func280 Mzh
def ize (j:A0):T Ae:=let aa:=(j.length:Int);.conv 1002 (Dz3 2 uza 95 aa.toNat (⟨0,0⟩:az0))<|.grd (0<=aa/\aa<=aa/\aa<=9223372036854775807/\aa * 16<=140737488355328)<|.loop (λs (ab:Af)=>pk s [1,5,11,12] [] [(13,pz ab.2)] [(192,vO ab.1 95)]) (.exit 0) (λs (ab:Ae)=>pk s [5] [] [] [(192,vO ab 95)]) (λab=>let ac:=(ab.2).toNat;.jC (ab.2<aa) (.gh ab.2 j.length<|.cc (Mzg (j.getD ac qu)) λad=>.gh ab.2 ab.1.length<|.conv 5006 (kS ab.1 95 ac ad)<|.gi (ab.2) ab.1.length<|.nn ((ab.1.set ac ad),(qt.wrap (ab.2+1)))) (.oo ab.1)) ((qs aa.toNat ((⟨0,0⟩:az0):az0)),0) [] λab=>.jn ab
def izd (j):=
 mkD func279 (ize j) 0 [q j,.func 280 [] []] [] (λr=>q r) X6
def Rz9 (j:azl):T Ae:=
 .cc (fz3 j) λaa=>.br (aa !=0) (.jn nl) (.cc (izd j.Xc) λab=>.jn ab)
def Rz8:=
 mkp1 func242 Rz9
def tze (j:Ae):T Bool:=let aa:=(j.length:Int);.cub 2 12 [0] [] (.jF (aa<1) (.oo (qv (aa>10)))) λab=>.br ab (.jn false) (.loop (ik 15 [13,14] []) (.exit 0) (jk [] []) (λac=>.jC (ac<aa) (.gh ac j.length<|.cc (bzw (j.getD (ac.toNat) qu)) λad=>.br (!ad) (.ff false) (.nn (qt.wrap (ac+1)))) (.oo .u))
 0 [] λ_=>.jn true)
def tzd:=
 mkp1 func282 tze
def tzc (j:Int):T Int:=
 .cub 3 9 [0,2] [0] (.jF (j<0) (.oo (qv (j>=10)))) λaa=>.br aa (.jn 0) (.gh j 10<|.jn (([2,3,5,7,11,13,17,19,23,29]:List Int).getD j.toNat 0))
def tzb (j):=
 mkC [⟨337,azgk⟩] hd func284 ju (tzc j) 0 [pz j] [] (λr=>.pure (.int .u64 r)) X6 ju
def Nzk (j:Int)(aa:Int):T B2:=
 .jC (j<2) (.jn (0,1)) (.ok ((4294967296:Int)≠0) jp<|.loop (λs (ab:Bh)=>pk s [0,4,5] [] [(1,.pure (.int .u64 ab.1))] [(0,.box [.pure (.int .u64 ab.2.1)]),(64,.box [.pure (.int .u64 ab.2.2)])]) (.exit 0) (λs (ab:B2)=>pk s [4,5] [] [] [(0,.box [.pure (.int .u64 ab.1)]),(64,.box [.pure (.int .u64 ab.2)])]) (λab=>.jC (ab.1>0) (.grd (j≠0)<|.grd (j≠0)<|.nn ((IntKind.u64.wrap (ab.1.tdiv j)),(IntKind.u64.wrap ((IntKind.u64.wrap (ab.2.1 * j))+(ab.1.tmod j))),(IntKind.u64.wrap (ab.2.2 * j)))) (.oo (ab.2.1,ab.2.2))) ((aa.tmod 4294967296),0,1) [] λab=>.jn (ab.1,ab.2))
def gzp (j)(aa):=
 mkC [⟨336,azgj⟩] hd func283 ju (Nzk j aa) 0 [.pure (.int .u64 j),.pure (.int .u64 aa)] [] (λr=>.tup [.pure (.int .u64 r.1),.pure (.int .u64 r.2)]) X6 ju
def nzk (j:Int)(aa:Int):T Bool:=
 .cc (bzw (⟨j,aa⟩:az0)) λab=>.jn ab
def yzb:=
 mkp2 func339 nzk
def mzv (j:Int)(aa:Int):T B2:=let ab:=j.fdiv (2 ^ (min (32:Int).toNat 64));let ac:=aa.fdiv (2 ^ (min (32:Int).toNat 64));let ad:=IntKind.u64.wrap (((BitVec.ofInt 64 j&&&BitVec.ofInt 64 4294967295).toNat:Int));let ae:=IntKind.u64.wrap (((BitVec.ofInt 64 aa&&&BitVec.ofInt 64 4294967295).toNat:Int));.ok (0<=(32:Int)) jp<|.ok (0<=(32:Int)) jp<|.name 5002 ((IntKind.u64.wrap (ad * ae))) λaf=>.name 6002 ((IntKind.u64.wrap (ab * ae))) λag=>let ah:=IntKind.u64.wrap (ag+(af.fdiv (2 ^ (min (32:Int).toNat 64))));
 .ok (0<=(32:Int)) jp<|.name 7001 ((IntKind.u64.wrap (((BitVec.ofInt 64 ah&&&BitVec.ofInt 64 4294967295).toNat:Int)))) λai=>.ok (0<=(32:Int)) jp<|.name 9003 ((IntKind.u64.wrap (ad * ac))) λaj=>.name 10004 ((IntKind.u64.wrap ((IntKind.u64.wrap (ab * ac))+(ah.fdiv (2 ^ (min (32:Int).toNat 64)))))) λak=>.ok (0<=(32:Int)) jp<|.jn ((IntKind.u64.wrap (ak+((IntKind.u64.wrap (ai+aj)).fdiv (2 ^ (min (32:Int).toNat 64))))),(IntKind.u64.wrap (j * aa)))
def mzu (j)(aa):=
 mkD func302 (mzv j aa) 0 [.pure (.int .u64 j),.pure (.int .u64 aa)] [] (λr=>.tup [.pure (.int .u64 r.1),.pure (.int .u64 r.2)]) X6
def uz0 (j:Int):T Int:=
 .cc (gzm j) λaa=>.jn (qt.wrap (64-aa))
def tzz (j):=
 mkD func360 (uz0 j) 0 [.pure (.int .u64 j)] [] pz X6
def mzt (j:Int)(aa:Int)(ab:Int):T B2:=
 .br (ab==0) (.stop) (.jC (ab<=j) (.stop) (.br (j==0) (.grd (ab≠0)<|.grd (ab≠0)<|.jn ((IntKind.u64.wrap (aa.tdiv ab)),(aa.tmod ab))) (.cc (tzz ab) λac=>let ad:=IntKind.u64.wrap ac;let ae:=min ad.toNat 64;let af:=IntKind.u64.wrap (ab * 2 ^ ae);let ag:=IntKind.u64.wrap (aa * 2 ^ ae);let ah:=IntKind.u64.wrap (64-ad);let ai:=af.fdiv (2 ^ (min (32:Int).toNat 64));let aj:=ag.fdiv (2 ^ (min (32:Int).toNat 64));
 .grd (0<=ad)<|.ok (0<=(32:Int)) jp<|.name 10001 ((IntKind.u64.wrap (((BitVec.ofInt 64 af&&&BitVec.ofInt 64 4294967295).toNat:Int)))) λak=>.grd (0<=ad)<|.grd (0<=ah)<|.name 11007 ((IntKind.u64.wrap (((BitVec.ofInt 64 (IntKind.u64.wrap (j * 2 ^ ae))|||BitVec.ofInt 64 (aa.fdiv (2 ^ (min ah.toNat 64)))).toNat:Int)))) λal=>.grd (0<=ad)<|.ok (0<=(32:Int)) jp<|.name 14001 ((IntKind.u64.wrap (((BitVec.ofInt 64 ag&&&BitVec.ofInt 64 4294967295).toNat:Int)))) λam=>.grd (ai≠0)<|.name 15002 ((IntKind.u64.wrap (al.tdiv ai))) λan=>.name 16003 ((IntKind.u64.wrap (an * ai))) λao=>.loop (λs (ap:B2)=>pk s [2,8,9,10,11,13,14] [] [(15,.pure (.int .u64 ap.1)),(16,.pure (.int .u64 ap.2))] []) (.exit 0) (λs (ap:Int)=>pk s [2,8,9,10,11,13,14] [] [(15,.pure (.int .u64 ap))] []) (λap=>let aq:=IntKind.u64.wrap (ap.1-1);.cub 1 78 [2,8,9,10,11,13,14,15,16] [] (.jF (ap.1>=4294967296) (.name 17009 ((IntKind.u64.wrap ((IntKind.u64.wrap (4294967296 * ap.2))+aj))) λar=>.oo (qv ((IntKind.u64.wrap (ap.1 * ak))>ar)))) λar=>.br ar (.name 19002 ((IntKind.u64.wrap (ap.2+ai))) λau=>.jC (au>=4294967296) (.oo aq) (.nn (aq,au))) (.oo ap.1)) (an,(IntKind.u64.wrap (al-ao))) [] λap=>.name 21003 ((IntKind.u64.wrap ((IntKind.u64.wrap (al * 4294967296))+aj))) λaq=>.name 21007 ((IntKind.u64.wrap (aq- (IntKind.u64.wrap (ap * af))))) λar=>.grd (ai≠0)<|.name 22002 ((IntKind.u64.wrap (ar.tdiv ai))) λau=>.name 23003 ((IntKind.u64.wrap (au * ai))) λav=>.loop (λs (aw:B2)=>pk s [2,8,9,10,14,15,17] [] [(16,.pure (.int .u64 aw.1)),(18,.pure (.int .u64 aw.2))] []) (.exit 2) (λs (aw:Int)=>pk s [2,8,14,15,17] [] [(18,.pure (.int .u64 aw))] []) (λaw=>let ax:=IntKind.u64.wrap (aw.2-1);.cub 1 113 [2,8,9,10,14,15,16,17,18] [] (.jF (aw.2>=4294967296) (.oo (qv ((IntKind.u64.wrap (aw.2 * ak))>(IntKind.u64.wrap ((IntKind.u64.wrap (4294967296 * aw.1))+am)))))) λay=>.br ay (.name 26002 ((IntKind.u64.wrap (aw.1+ai))) λaz=>.jC (az>=4294967296) (.oo ax) (.nn (az,ax))) (.oo aw.2)) ((IntKind.u64.wrap (ar-av)),au) [] λaw=>.name 28011 ((IntKind.u64.wrap ((IntKind.u64.wrap ((IntKind.u64.wrap (ar * 4294967296))+am))- (IntKind.u64.wrap (aw * af))))) λax=>.grd (0<=ad)<|.jn ((IntKind.u64.wrap ((IntKind.u64.wrap (ap * 4294967296))+aw)),(ax.fdiv (2 ^ ae))))))
def izk (j)(aa)(ab):=
 mkD func303 (mzt j aa ab) 0 [.pure (.int .u64 j),.pure (.int .u64 aa),.pure (.int .u64 ab)] [] (λr=>.tup [.pure (.int .u64 r.1),.pure (.int .u64 r.2)]) X6
def tza (j:Int)(aa:Int)(ab:Int)(ac:Int):T Int:=
 .cub 3 22 [0,1,3,6,8] [0,64] (.cc (yzb ab ac) λad=>.jD (!ad) (.oo (qv (j>=aa)))) λad=>.br ad (.jn ab) (.call (mzu j (IntKind.u64.wrap (qt.wrap ((qt.wrap (ac-ab))+1)))) [] λae=>.cc (izk ae.1 ae.2 aa) λaf=>.jn (qt.wrap (ab+(qt.wrap af.1))))
def lzq (j)(aa)(ab)(ac):=
 mkC [⟨338,azgl⟩] hd func285 ju (tza j aa ab ac) 0 [.pure (.int .u64 j),.pure (.int .u64 aa),pz ab,pz ac] [] pz X6 ju
def pzv (j:Ae)(aa:Int):T A4:=
 .cc (tzd j) λab=>.br (!ab) (.jn nl) (.loop (λs (ac:Ah)=>pk s [1,4,13,14] [0] [(15,pz ac.2)] [(1,vO ac.1 2)]) (.exit 0) (λs (ac:A4)=>pk s [4] [0] [] [(1,vO ac 2)]) (λac=>let ad:=j.getD (X3 ac.2) qu;.jC (ac.2<(j.length:Int)) (.gh ac.2 j.length<|.cc (tzb ac.2) λae=>.cc (gzp ae aa) λaf=>.cc (lzq af.1 af.2 (ad.Lo) (ad.Hi)) λag=>let ah:=([ag]:A4);let ai:=ac.1.length+ah.length;
 .conv 8008 (kL ah 2)<|.conv 8009 (kA ac.1 ah 2)<|.grd (ai * 8<=140737488355328/\ai<=maxLen)<|.nn ((ac.1++ah),(qt.wrap (ac.2+1)))) (.oo ac.1)) (nl,0) [] λac=>.jn ac)
def pzu (j)(aa):=
 mkC [⟨281,azgd⟩] hd func243 ju (pzv j aa) 0 [q j,.pure (.int .u64 aa)] [] (λr=>q r) X6 ju
def fzn (j:A4)(aa:A4):T Bool:=let ab:=(j.length:Int);.br (ab !=(aa.length:Int)) (.jn false) (.loop (ik 13 [0,1,12] []) (.exit 0) (jk [] []) (λac=>.jC (ac<ab) (.gh ac j.length<|.gh ac aa.length<|.br ((j.getD (ac.toNat) qu) !=(aa.getD (ac.toNat) qu)) (.ff false) (.nn (qt.wrap (ac+1)))) (.oo .u))
 0 [] λ_=>.jn true)
def ez2:=
 mkp2 func98 fzn
def uz2 (j:A4):T A4:=
 izl 2 8 j
def cz8 (a0:A4):CallS A4:=
 mkH [] hd func297 ju (uz2 a0) 0 [q a0] [] (λr=>q r) X6 (by cases a0<;>exact Ob.of_side ju)
def Lzc (j:azl)(aa:A5):T A5:=
 .loop (λs (ab:(A5×(List Cb)×Int))=>pk s [2,5,6,11,12] [0] [(13,pz ab.2.2)] [(128,vO ab.1 39),(192,Dzt (jB 10) czn ab.2.1)]) (.exit 0) (λs (ab:A5)=>pk s [5] [] [] [(128,vO ab 39)]) (λab=>let ac:=aa.getD (X3 ab.2.2) qu;let ad:=czn ((if 0<ac.length then ac.getD 0 qu else 0),(if 1<ac.length then ac.getD 1 qu else 0),(if 2<ac.length then ac.getD 2 qu else 0),(if 3<ac.length then ac.getD 3 qu else 0),(if 4<ac.length then ac.getD 4 qu else 0),(if 5<ac.length then ac.getD 5 qu else 0),(if 6<ac.length then ac.getD 6 qu else 0),(if 7<ac.length then ac.getD 7 qu else 0),(if 8<ac.length then ac.getD 8 qu else 0),(if 9<ac.length then ac.getD 9 qu else 0));let ae:=Kzb czn ab.2.1 ad;.jC (ab.2.2<(aa.length:Int)) (.cut 0 (λs (af:(A5×(List Cb)))=>pk s [2,5,6,11,12,13] [0] [] [(128,vO af.1 39),(192,Dzt (jB 10) czn af.2)]) (.gh ab.2.2 aa.length<|.br ((ab.1.length:Int)==1024) (.ff (.out ab.1)) (.cc (bzr (⟨j.Xc,j.Xv⟩:azl) ac) λaf=>.br (!af) (.oo (ab.1,ab.2.1)) (.ok ((mdom czn ab.2.1 ad)=false->PSub (.bool false) (PVal.bool ae)) az7b<|.br (!ae) (.conv 11002 (azja (jB 10) czn ab.2.1 ((if 0<ac.length then ac.getD 0 qu else 0),(if 1<ac.length then ac.getD 1 qu else 0),(if 2<ac.length then ac.getD 2 qu else 0),(if 3<ac.length then ac.getD 3 qu else 0),(if 4<ac.length then ac.getD 4 qu else 0),(if 5<ac.length then ac.getD 5 qu else 0),(if 6<ac.length then ac.getD 6 qu else 0),(if 7<ac.length then ac.getD 7 qu else 0),(if 8<ac.length then ac.getD 8 qu else 0),(if 9<ac.length then ac.getD 9 qu else 0)) true)<|.cc (cz8 ac) λag=>let ah:=([ag]:A5);let ai:=ab.1.length+ah.length;
 .conv 12003 (kL ah 39)<|.conv 12004 (kA ab.1 ah 39)<|.grd (ai * 24<=140737488355328/\ai<=maxLen)<|.oo ((ab.1++ah),((((if 0<ac.length then ac.getD 0 qu else 0),(if 1<ac.length then ac.getD 1 qu else 0),(if 2<ac.length then ac.getD 2 qu else 0),(if 3<ac.length then ac.getD 3 qu else 0),(if 4<ac.length then ac.getD 4 qu else 0),(if 5<ac.length then ac.getD 5 qu else 0),(if 6<ac.length then ac.getD 6 qu else 0),(if 7<ac.length then ac.getD 7 qu else 0),(if 8<ac.length then ac.getD 8 qu else 0),(if 9<ac.length then ac.getD 9 qu else 0)),true)::ab.2.1))) (.oo (ab.1,ab.2.1))))) λaf=>.nn (af.1,af.2,(qt.wrap (ab.2.2+1)))) (.oo ab.1)) (nl,(nl:List Cb),0) [] λab=>.jn ab
def Lzb:=
 mkp2 func291 Lzc
def Pzj (j:A4):T Bool:=
 .loop (ik 7 [5,6] []) (.exit 0) (jk [] []) (λaa=>let ab:=j.getD (aa.toNat) qu;.jC (aa<(j.length:Int)) (.gh aa j.length<|.cub 0 16 [5,6,7] [] (.jF (ab<(-2147483648)) (.oo (qv (ab>2147483648)))) λac=>.br ac (.ff false) (.nn (qt.wrap (aa+1)))) (.oo .u))
 0 [] λ_=>.jn true
def Cz5:=
 mkp1 func454 Pzj
def Czk (j:A5):T Bool:=let aa:=(j.length:Int);.jC (aa>1024) (.jn false) (.loop (ik 10 [0,8,9] []) (.exit 0) (jk [] []) (λab=>let ac:=j.getD (ab.toNat) qu;let ad:=(ac.length:Int);.jC (ab<aa) (.gh ab j.length<|.cub 0 35 [0,8,9,10] [] (.jF (ad<1) (.jF (ad>10) (.gh (0:Int) j.length<|.jD (ad !=(((j.getD (X3 (0:Int)) qu).length:Nat):Int)) (.cc (Cz5 ac) λae=>.oo (!ae))))) λae=>.br ae (.ff false) (.nn (qt.wrap (ab+1)))) (.oo .u))
 0 [] λ_=>.jn true)
def mzc:=
 mkp1 func397 Czk
def Sz5 (j:Int):T Int:=
 .cc (gzm j) λaa=>.jn aa
def sz7 (j):=
 mkD func415 (Sz5 j) 0 [.pure (.int .u64 j)] [] pz X6
def Mzc (j:Int):T Bool:=
 .jn (j !=j)
def xzs:=
 mkp1 func457 Mzc
def Iz0 (j:Int)(aa:Int):T Int:=
 .cc (xzs j) λab=>.cc (xzs aa) λac=>.br ab (.br ac (.jn 0) (.jn (-1))) (.br ac (.jn 1) (.jC (j<aa) (.jn (-1)) (.jC (j>aa) (.jn 1) (.jn 0))))
def rzr:=
 mkp2 func406 Iz0
def Rz6 (j:Int):T Bool:=
 .jn (j !=j)
def Czv:=
 mkp1 func458 Rz6
def Mzb (j:Int)(aa:Int):T Int:=
 .cc (Czv j) λab=>.cc (Czv aa) λac=>.br ab (.br ac (.jn 0) (.jn (-1))) (.br ac (.jn 1) (.jC (j<aa) (.jn (-1)) (.jC (j>aa) (.jn 1) (.jn 0))))
def fza:=
 mkp2 func407 Mzb
def az0v (j:A4):T Int:=
 .loop (ik 8 [3,6,7] []) (.exit 0) (jk [3] []) (λaa=>let ab:=j.getD (aa.toNat) qu;.jC (aa<(j.length:Int)) (.gh aa j.length<|.br (ab !=0) (.ff ab) (.nn (qt.wrap (aa+1)))) (.oo .u))
 0 [] λ_=>.jn 0
def Czu:=
 mkp1 func405 az0v
def Pzi (j:A5)(aa:Int)(ab:Int)(ac:Int):T Int:=let ad:=j.getD (ab.toNat) qu;let ae:=j.getD (ac.toNat) qu;.gh ab j.length<|.gh aa (ad.length)<|.gh ac j.length<|.gh aa (ae.length)<|.cc (rzr (ad.getD (aa.toNat) qu) (ae.getD (aa.toNat) qu)) λaf=>.cc (fza ab ac) λag=>let ah:=([af,ag]:A4);
 .conv 1018 (kL ah 3)<|.cc (Czu ah) λai=>.jn ai
def Cz4:=
 mkp4 func401 Pzi
def Gzj (j:Int)(aa:Int)(ab:A5)(ac:Int):T Int:=
 .cc (Cz4 ab ac j aa) λad=>.jn ad
def dz5 (j)(aa)(ab)(ac):=
 mkD func400 (Gzj j aa ab ac) 2 [pz j,pz aa,X7 0,X7 1] [(0,.box [q ab]),(1,.box [pz ac])] pz (λ_=>[(0,.box [q ab]),(1,.box [pz ac])])
section
variable {α:Type} [Inhabited α] [En α]
def az28 (c:α->α->CallS Int)(j:List Nat)(aa:Nat)(ab:List Nat)(ac:List B4)(ad:(List α))(ae:Nat)(af:Nat)(ag:Int)(ah:Int):T (List α):=
 .loop (λs (ai:((List α)×Int))=>pk s [0,1,2,3] j [(8,pz ai.2)] [(0,vO ai.1 aa)]) (.exit 0) (λs (ai:(List α))=>pk s [] j [] [(0,vO ai aa)]) (λai=>.jC (ai.2<ah) (.loop (λs (aj:((List α)×Int))=>pk s [0,1,2,3,8] j [(9,pz aj.2)] [(0,vO aj.1 aa)]) (.exit 2) (λs (aj:(List α))=>pk s [0,1,2,3,8] j [] [(0,vO aj aa)]) (λaj=>let ak:=(aj.2).toNat;let al:=qt.wrap (aj.2-1);let am:=ae+(al.toNat);.cub 1 34 [0,1,2,3,8,9] ab (.jC (aj.2>ag) (.gh aj.2 af<|.grd ((ae+ak)<aj.1.length)<|.gh al af<|.grd (am<aj.1.length)<|.call (c (aj.1.getD (ae+ak) qu) (aj.1.getD am qu)) ac λan=>.oo (qv (an<0))) (.oo false)) λan=>.br an
 .stop (.oo aj.1)) (ai.1,ai.2) [] λaj=>.nn (aj,(qt.wrap (ai.2+1)))) (.oo ai.1)) (ad,(qt.wrap (ag+1))) [] λai=>.jn ai
def az2c (_:α->α->CallS Int)(j:List Nat)(aa:Nat)(ab:List Nat)(_:List B4)(ad:(List α))(_:Nat)(_:Nat)(ag:Int)(ah:Int)(_:Int):T (List α):=
 .loop (λs (aj:((List α)×Int))=>pk s [0,2,3,4] j [(10,pz aj.2)] [(0,vO aj.1 aa)]) (.exit 0) (λs (aj:(List α))=>pk s [] j [] [(0,vO aj aa)]) (λaj=>let ak:=qt.wrap ((qt.wrap (2 * aj.2))+1);let al:=qt.wrap (ak+1);.jC (ak>=ah) (.oo aj.1) (.cut 0 (λs (am:Int)=>pk s [0,2,3,4,10] ab [(11,pz am)] []) (.cub 0 40 [0,2,3,4,10,11] ab (.jC (al<ah) .stop (.oo false)) λam=>.br am (.oo al) (.oo ak)) λ_=>.stop)) (ad,ag) [] λ_=>.stop
def az27 (_:(List α)->Nat->Nat->Int->Int->Int->CallS (List α))(j:List Nat)(aa:Nat)(_:List B4)(ac:(List α))(_:Nat)(_:Nat)(af:Int)(ag:Int):T (List α):=
 .ok ((2:Int)≠0) jp<|.loop (λs (ah:((List α)×Int))=>pk s [0,3,8,9,10] j [(11,pz ah.2)] [(0,vO ah.1 aa)]) (.exit 0) (λs (ah:(List α))=>pk s [0,3,8,9,10] j [] [(0,vO ah aa)]) (λah=>.jC (ah.2>=0) .stop (.oo ah.1)) (ac,(qt.wrap ((qt.wrap ((qt.wrap (ag-af))-1)).tdiv 2))) [] λah=>.stop
def azk9 (c:α->α->CallS Int)(j:List B4)(aa:(List α))(ab:Nat)(ac:Nat)(ad:Int)(ae:Int)(af:Int):T Bh:=let ag:=ab+(ae.toNat);let ah:=ab+(ad.toNat);.gh ae ac<|.grd (ag<aa.length)<|.gh ad ac<|.grd (ah<aa.length)<|.call (c (aa.getD ag qu) (aa.getD ah qu)) j λai=>.jC (ai<0) (.jn (ae,ad,(qt.wrap (af+1)))) (.jn (ad,ae,af))
def azk8 (fOrd:(List α)->Nat->Nat->Int->Int->Int->CallS Bh)(j:List B4)(aa:(List α))(ab:Nat)(ac:Nat)(ad:Int)(ae:Int)(af:Int)(ag:Int):T B2:=
 .call (fOrd aa ab ac ad ae ag) j λah=>.call (fOrd aa ab ac ah.2.1 af ah.2.2) j λai=>.call (fOrd aa ab ac ah.1 ai.1 ai.2.2) j λaj=>.jn (aj.2.1,aj.2.2)
def az29 (fMed:(List α)->Nat->Nat->Int->Int->Int->Int->CallS B2)(j:List B4)(aa:(List α))(ab:Nat)(ac:Nat)(ad:Int)(ae:Int):T B2:=
 .call (fMed aa ab ac (qt.wrap (ad-1)) ad (qt.wrap (ad+1)) ae) j λaf=>.jn (af.1,af.2)
def az26 (_:(List α)->Nat->Nat->Int->Int->Int->Int->CallS B2)(_:(List α)->Nat->Nat->Int->Int->CallS B2)(j:List Nat)(aa:Nat)(_:List B4)(_:(List α))(_:Nat)(_:Nat)(af:Int)(ag:Int):T B2:=let ah:=qt.wrap (ag-af);let ai:=qt.wrap (ah.tdiv 4);let aj:=qt.wrap (af+(qt.wrap (ai * 2)));.ok ((4:Int)≠0) jp<|.ok ((4:Int)≠0) jp<|.ok ((4:Int)≠0) jp<|.cut 0 (λs (ak:B2)=>pk s [11] j [(13,pz ak.2)] [(aa,.box [pz ak.1])]) (.jC (ah>=8) (.cut 0 (λs (ak:Bx)=>pk s [0,3,11] j [(12,pz ak.2.1),(13,pz ak.2.2.1),(14,pz ak.2.2.2)] [(aa,.box [pz ak.1])]) (.jC (ah>=50) .stop (.oo (0,(qt.wrap (af+(qt.wrap (ai * 1)))),aj,(qt.wrap (af+(qt.wrap (ai * 3))))))) λak=>.stop) (.oo (0,aj))) λak=>.br (ak.1==0) (.jn (ak.2,1)) (.br (ak.1==12) (.jn (ak.2,2)) (.jn (ak.2,0)))
def az2b (j:List Nat)(aa:Nat)(ab:(List α))(_:Nat)(_:Nat)(ae:Int)(af:Int):T (List α):=
 .loop (λs (ag:((List α)×Int×Int))=>pk s [0] j [(8,pz ag.2.1),(9,pz ag.2.2)] [(0,vO ag.1 aa)]) (.exit 0) (λs (ag:(List α))=>pk s [] j [] [(0,vO ag aa)]) (λag=>.jC (ag.2.1<ag.2.2) .stop (.oo ag.1)) (ab,ae,(qt.wrap (af-1))) [] λ_=>.stop
def Oze (_:α->α->CallS Int)(j:List Nat)(aa:Nat)(ab:List Nat)(_:List B4)(ad:(List α))(_:Nat)(_:Nat)(ag:Int)(ah:Int):T (Bool×(List α)):=let ai:=ik 9 [0,1,2,3,10] ab;.loop (λs (aj:((List α)×Int×Int))=>pk s [0,1,2,3] j [(9,pz aj.2.1),(10,pz aj.2.2)] [(0,vO aj.1 aa)]) (.exit 0) (λs (aj:(List α))=>pk s [] j [] [(0,vO aj aa)]) (λaj=>.jC (aj.2.2<5) (.cut 0 (λs (ak:((List α)×Int))=>pk s [0,1,2,3,10] j [(9,pz ak.2)] [(0,vO ak.1 aa)]) (.loop ai (.exit 2) ai (λak=>.cub 1 36 [0,1,2,3,9,10] ab (.jC (ak<ah) .stop (.oo false)) λal=>.br al (.nn (qt.wrap (ak+1))) (.oo ak))
 aj.2.1 [] λ_=>.stop) λak=>.nn (ak.1,ak.2,(qt.wrap (aj.2.2+1)))) (.oo aj.1)) (ad,(qt.wrap (ag+1)),0) [] λ_=>.stop
def az2a (_:α->α->CallS Int)(j:Nat)(aa:List Nat)(ab:List Nat)(_:List B4)(ad:(List α))(ae:Nat)(af:Nat)(ag:Int)(ah:Int)(ai:Int):T (Int×(List α)):=let aj:=ae+(ai.toNat);let ak:=ae+(ag.toNat);let al:=ad.getD aj qu;let am:=ad.set ak al;let an:=ad.getD ak qu;let ao:=ik 11 [0,1,4,12] ab;.gh ai af<|.grd (aj<ad.length)<|.gh ag af<|.grd (ak<ad.length)<|.gh ag af<|.conv 1013 (kS ad j ak al)<|.grd (ak<ad.length/\0<=ak)<|.gh ai af<|.conv 1015 (kS am j aj an)<|.grd (aj<am.length/\0<=aj)<|.loop (λs (ap:((List α)×Int×Int))=>pk s [0,1,4] aa [(11,pz ap.2.1),(12,pz ap.2.2)] [(0,vO ap.1 j)]) (.exit 0) (λs (ap:(Int×(List α)))=>pk s [] aa [(11,pz ap.1)] [(0,vO ap.2 j)]) (λap=>.loop ao (.exit 2) ao (λaq=>.cub 1 47 [0,1,4,11,12] ab (.jC (aq<=ap.2.2) .stop (.oo false)) λar=>.br ar (.nn (qt.wrap (aq+1))) (.oo aq))
 ap.2.1 [] λ_=>.stop) ((am.set aj an),(qt.wrap (ag+1)),(qt.wrap (ah-1))) [] λ_=>.stop
def azka (_:α->α->CallS Int)(j:Nat)(aa:List Nat)(_:List B4)(_:List Nat)(ad:(List α))(ae:Nat)(af:Nat)(ag:Int)(ah:Int)(ai:Int):T (Int×Bool×(List α)):=let aj:=ae+(ai.toNat);let ak:=ae+(ag.toNat);let al:=ad.getD aj qu;let am:=ad.set ak al;let an:=ik 12 [0,1,4,13] aa;.gh ai af<|.grd (aj<ad.length)<|.gh ag af<|.grd (ak<ad.length)<|.gh ag af<|.conv 1013 (kS ad j ak al)<|.grd (ak<ad.length/\0<=ak)<|.gh ai af<|.conv 1015 (kS am j aj (ad.getD ak qu))<|.grd (aj<am.length/\0<=aj)<|.loop an (.exit 0) an (λao=>.cub 1 47 [0,1,4,12,13] aa (.jC (ao<=(qt.wrap (ah-1))) .stop (.oo false)) λap=>.br ap (.nn (qt.wrap (ao+1))) (.oo ao)) (qt.wrap (ag+1)) [] λ_=>.stop
def az25 (_:Int->CallS Int)(_:Int->CallS B2)(_:List Nat)(_:Nat)(_:Nat)(_:List B4)(_:List Nat)(ae:(List α))(_:Nat)(_:Nat)(ah:Int)(ai:Int):T (List α):=
 .jC ((qt.wrap (ai-ah))>=8) .stop (.jn ae)
def azkb (_:α->α->CallS Int)(fInsSor:(List α)->Nat->Nat->Int->Int->CallS (List α))(_:(List α)->Nat->Nat->Int->Int->CallS (List α))(_:(List α)->Nat->Nat->Int->Int->CallS B2)(_:(List α)->Nat->Nat->Int->Int->CallS (List α))(_:(List α)->Nat->Nat->Int->Int->CallS (Bool×(List α)))(_:(List α)->Nat->Nat->Int->Int->Int->CallS (Int×(List α)))(_:(List α)->Nat->Nat->Int->Int->Int->CallS (Int×Bool×(List α)))(_:(List α)->Nat->Nat->Int->Int->CallS (List α))(_:(List α)×Nat×Nat×Int×Int×Int->CallS (List α))(j:List Nat)(aa:Nat)(ab:Nat)(ac:List B4)(_:List Nat)(_:List B4)(af:(List α))(ag:Nat)(ah:Nat)(ai:Int)(aj:Int)(ak:Int):T (List α):=
 .loop (λs (al:((List α)×Int×Int×Int×Bool×Bool))=>pk s [0,4] j [(1,pz al.2.1),(2,pz al.2.2.1),(3,pz al.2.2.2.1),(10,q al.2.2.2.2.1),(11,q al.2.2.2.2.2)] [(0,vO al.1 aa)])
 .ret (λ_ (_:U0)=>⟨[],[],[],ab⟩) (λal=>.jC ((qt.wrap (al.2.2.1-al.2.1))<=12) (.call (fInsSor al.1 ag ah al.2.1 al.2.2.1) ac λam=>.ff am) (.br (al.2.2.2.1==0)
 .stop (.cut 0 (λs (am:((List α)×Int))=>pk s [0,1,2,4,10,11,12] j [(3,pz am.2)] [(0,vO am.1 aa)]) (.br (!al.2.2.2.2.1)
 .stop (.oo (al.1,al.2.2.2.1))) λ_=>.stop))) (af,ai,aj,ak,true,true) [] λ_=>.stop
end
def lzy (j:A4)(aa:Nat)(ab:Nat)(ac:Int)(ad:Int)(ae:A5)(af:Int):T A4:=
 az28 (λx y=>dz5 x y ae af) [1,2] 3 [0,1,2] [(0,1),(1,2)] j aa ab ac ad
def lzx (j)(aa)(ab)(ac)(ad)(ae)(af):=
 mkD func488 (lzy j aa ab ac ad ae af) 3 [.view 0 1 aa ab,pz ac,pz ad,.func 400 [] [X7 1,X7 2]] [(0,vO j 3),(1,.box [q ae]),(2,.box [pz af])] (λ_=>.tup []) (λr=>[(0,vO r 3),(1,.box [q ae]),(2,.box [pz af])])
def rz8 (j:A4)(aa:Nat)(ab:Nat)(ac:Int)(ad:Int)(ae:Int)(af:A5)(ag:Int):T A4:=
 az2c (λx y=>dz5 x y af ag) [1,2] 3 [0,1,2] [(0,1),(1,2)] j aa ab ac ad ae
def rz7 (j)(aa)(ab)(ac)(ad)(ae)(af)(ag):=
 mkD func514 (rz8 j aa ab ac ad ae af ag) 3 [.view 0 1 aa ab,pz ac,pz ad,pz ae,.func 400 [] [X7 1,X7 2]] [(0,vO j 3),(1,.box [q af]),(2,.box [pz ag])] (λ_=>.tup []) (λr=>[(0,vO r 3),(1,.box [q af]),(2,.box [pz ag])])
def rz3 (j:A4)(aa:Nat)(ab:Nat)(ac:Int)(ad:Int)(ae:A5)(af:Int):T A4:=
 az27 (λag ah ai aj ak al=>rz7 ag ah ai aj ak al ae af) [1,2] 3 [(0,0),(1,1),(2,2)] j aa ab ac ad
def rz2 (j)(aa)(ab)(ac)(ad)(ae)(af):=
 mkD func489 (rz3 j aa ab ac ad ae af) 3 [.view 0 1 aa ab,pz ac,pz ad,.func 400 [] [X7 1,X7 2]] [(0,vO j 3),(1,.box [q ae]),(2,.box [pz af])] (λ_=>.tup []) (λr=>[(0,vO r 3),(1,.box [q ae]),(2,.box [pz af])])
def uz5 (j:A4)(aa:Nat)(ab:Nat)(ac:Int)(ad:Int)(ae:Int)(af:A5)(ag:Int):T Bh:=
 azk9 (λx y=>dz5 x y af ag) [(0,2),(1,3)] j aa ab ac ad ae
def uz4 (j)(aa)(ab)(ac)(ad)(ae)(af)(ag):=
 mkD func526 (uz5 j aa ab ac ad ae af ag) 4 [.view 0 1 aa ab,pz ac,pz ad,X7 1,.func 400 [] [X7 2,X7 3]] [(0,vO j 3),(1,.box [pz ae]),(2,.box [q af]),(3,.box [pz ag])] (λr=>.tup [pz r.1,pz r.2.1]) (λr=>[(0,vO j 3),(1,.box [pz r.2.2]),(2,.box [q af]),(3,.box [pz ag])])
def uz3 (j:A4)(aa:Nat)(ab:Nat)(ac:Int)(ad:Int)(ae:Int)(af:Int)(ag:A5)(ah:Int):T B2:=
 azk8 (λai aj ak al am an=>uz4 ai aj ak al am an ag ah) [(0,0),(1,1),(2,2),(3,3)] j aa ab ac ad ae af
def izu (j)(aa)(ab)(ac)(ad)(ae)(af)(ag)(ah):=
 mkD func516 (uz3 j aa ab ac ad ae af ag ah) 4 [.view 0 1 aa ab,pz ac,pz ad,pz ae,X7 1,.func 400 [] [X7 2,X7 3]] [(0,vO j 3),(1,.box [pz af]),(2,.box [q ag]),(3,.box [pz ah])] (λr=>pz r.1) (λr=>[(0,vO j 3),(1,.box [pz r.2]),(2,.box [q ag]),(3,.box [pz ah])])
def kzi (j:A4)(aa:Nat)(ab:Nat)(ac:Int)(ad:Int)(ae:A5)(af:Int):T B2:=
 az29 (λag ah ai aj ak al am=>izu ag ah ai aj ak al am ae af) [(0,0),(1,1),(2,2),(3,3)] j aa ab ac ad
def kzh (j)(aa)(ab)(ac)(ad)(ae)(af):=
 mkD func515 (kzi j aa ab ac ad ae af) 4 [.view 0 1 aa ab,pz ac,X7 1,.func 400 [] [X7 2,X7 3]] [(0,vO j 3),(1,.box [pz ad]),(2,.box [q ae]),(3,.box [pz af])] (λr=>pz r.1) (λr=>[(0,vO j 3),(1,.box [pz r.2]),(2,.box [q ae]),(3,.box [pz af])])
def nzn (j:A4)(aa:Nat)(ab:Nat)(ac:Int)(ad:Int)(ae:A5)(af:Int):T B2:=
 az26 (λag ah ai aj ak al am=>izu ag ah ai aj ak al am ae af) (λag ah ai aj ak=>kzh ag ah ai aj ak ae af) [0,1,2] 387 [(0,0),(1,387),(2,1),(3,2)] j aa ab ac ad
def nzm (j)(aa)(ab)(ac)(ad)(ae)(af):=
 mkD func491 (nzn j aa ab ac ad ae af) 3 [.view 0 1 aa ab,pz ac,pz ad,.func 400 [] [X7 1,X7 2]] [(0,vO j 3),(1,.box [q ae]),(2,.box [pz af])] (λr=>.tup [pz r.1,pz r.2]) (λ_=>[(0,vO j 3),(1,.box [q ae]),(2,.box [pz af])])
def mzb (j:A4)(aa:Nat)(ab:Nat)(ac:Int)(ad:Int)(_a5:A5)(_a6:Int):T A4:=
 az2b [1,2] 3 j aa ab ac ad
def mza (j)(aa)(ab)(ac)(ad)(ae)(af):=
 mkD func492 (mzb j aa ab ac ad ae af) 3 [.view 0 1 aa ab,pz ac,pz ad,.func 400 [] [X7 1,X7 2]] [(0,vO j 3),(1,.box [q ae]),(2,.box [pz af])] (λ_=>.tup []) (λr=>[(0,vO r 3),(1,.box [q ae]),(2,.box [pz af])])
def hzw (j:A4)(aa:Nat)(ab:Nat)(ac:Int)(ad:Int)(ae:A5)(af:Int):T (Bool×A4):=
 Oze (λx y=>dz5 x y ae af) [1,2] 3 [0,1,2] [(0,1),(1,2)] j aa ab ac ad
def hzu (j)(aa)(ab)(ac)(ad)(ae)(af):=
 mkD func493 (hzw j aa ab ac ad ae af) 3 [.view 0 1 aa ab,pz ac,pz ad,.func 400 [] [X7 1,X7 2]] [(0,vO j 3),(1,.box [q ae]),(2,.box [pz af])] (λr=>q r.1) (λr=>[(0,vO r.2 3),(1,.box [q ae]),(2,.box [pz af])])
def kzk (j:A4)(aa:Nat)(ab:Nat)(ac:Int)(ad:Int)(ae:Int)(af:A5)(ag:Int):T (Int×A4):=
 az2a (λx y=>dz5 x y af ag) 3 [1,2] [0,1,2] [(0,1),(1,2)] j aa ab ac ad ae
def kzj (j)(aa)(ab)(ac)(ad)(ae)(af)(ag):=
 mkD func494 (kzk j aa ab ac ad ae af ag) 3 [.view 0 1 aa ab,pz ac,pz ad,pz ae,.func 400 [] [X7 1,X7 2]] [(0,vO j 3),(1,.box [q af]),(2,.box [pz ag])] (λr=>pz r.1) (λr=>[(0,vO r.2 3),(1,.box [q af]),(2,.box [pz ag])])
def qz1 (j:A4)(aa:Nat)(ab:Nat)(ac:Int)(ad:Int)(ae:Int)(af:A5)(ag:Int):T (Int×Bool×A4):=
 azka (λx y=>dz5 x y af ag) 3 [0,1,2] [(0,1),(1,2)] [1,2] j aa ab ac ad ae
def qz0 (j)(aa)(ab)(ac)(ad)(ae)(af)(ag):=
 mkD func495 (qz1 j aa ab ac ad ae af ag) 3 [.view 0 1 aa ab,pz ac,pz ad,pz ae,.func 400 [] [X7 1,X7 2]] [(0,vO j 3),(1,.box [q af]),(2,.box [pz ag])] (λr=>.tup [pz r.1,q r.2.1]) (λr=>[(0,vO r.2.2 3),(1,.box [q af]),(2,.box [pz ag])])
def Bzn (j:Int):T Int:=
 .cc (sz7 (IntKind.u64.wrap j)) λaa=>.grd (0<=aa)<|.jn (IntKind.u64.wrap (1 * 2 ^ (min aa.toNat 64)))
def lzz:=
 mkq1 func502 Bzn (λr=>.pure (.int .u64 r))
def Uz8 (j:Int):T B2:=
 .ok (0<=(13:Int)) jp<|.name 1007 ((IntKind.u64.wrap (((BitVec.ofInt 64 j ^^^ BitVec.ofInt 64 (IntKind.u64.wrap (j * 2 ^ (min (13:Int).toNat 64)))).toNat:Int)))) λaa=>let ab:=IntKind.u64.wrap (((BitVec.ofInt 64 aa ^^^ BitVec.ofInt 64 (aa.fdiv (2 ^ (min (7:Int).toNat 64)))).toNat:Int));
 .ok (0<=(7:Int)) jp<|.ok (0<=(17:Int)) jp<|.name 3006 ((IntKind.u64.wrap (ab * 2 ^ (min (17:Int).toNat 64)))) λac=>.name 3007 ((IntKind.u64.wrap (((BitVec.ofInt 64 ab ^^^ BitVec.ofInt 64 ac).toNat:Int)))) λad=>.jn (ad,ad)
def Fzs (j):=
 mkD func503 (Uz8 j) 1 [X7 0] [(0,.box [.pure (.int .u64 j)])] (λr=>.pure (.int .u64 r.1)) (λr=>[(0,.box [.pure (.int .u64 r.2)])])
def lzu (j:A4)(aa:Nat)(ab:Nat)(ac:Int)(ad:Int)(_a5:A5)(_a6:Int):T A4:=
 az25 lzz Fzs [1,2] 3 515 [(0,515)] [0,1,2,515] j aa ab ac ad
def lzt (j)(aa)(ab)(ac)(ad)(ae)(af):=
 mkD func490 (lzu j aa ab ac ad ae af) 3 [.view 0 1 aa ab,pz ac,pz ad,.func 400 [] [X7 1,X7 2]] [(0,vO j 3),(1,.box [q ae]),(2,.box [pz af])] (λ_=>.tup []) (λr=>[(0,vO r 3),(1,.box [q ae]),(2,.box [pz af])])
abbrev fzj:=RecS prog 455 3 (A4×Nat×Nat×Int×Int×Int×A5×Int) A4 (λa=>[.view 0 1 a.2.1 a.2.2.1,pz a.2.2.2.1,pz a.2.2.2.2.1,pz a.2.2.2.2.2.1,.func 400 [] [X7 1,X7 2]]) (λa=>[(0,vO a.1 3),(1,.box [q a.2.2.2.2.2.2.1]),(2,.box [pz a.2.2.2.2.2.2.2])]) (λ_ _=>.tup []) (λa r=>[(0,vO r 3),(1,.box [q a.2.2.2.2.2.2.1]),(2,.box [pz a.2.2.2.2.2.2.2])])
def tzl (rec:fzj)(j:A4)(aa:Nat)(ab:Nat)(ac:Int)(ad:Int)(ae:Int)(af:A5)(ag:Int):T A4:=
 azkb (λx y=>dz5 x y af ag) (λah ai aj ak al=>lzx ah ai aj ak al af ag) (λah ai aj ak al=>rz2 ah ai aj ak al af ag) (λah ai aj ak al=>nzm ah ai aj ak al af ag) (λah ai aj ak al=>mza ah ai aj ak al af ag) (λah ai aj ak al=>hzu ah ai aj ak al af ag) (λah ai aj ak al am=>kzj ah ai aj ak al am af ag) (λah ai aj ak al am=>qz0 ah ai aj ak al am af ag) (λah ai aj ak al=>lzt ah ai aj ak al af ag) (λb=>rec.C (b.1,b.2.1,b.2.2.1,b.2.2.2.1,b.2.2.2.2.1,b.2.2.2.2.2,af,ag)) [1,2] 3 3 [(0,0),(1,1),(2,2)] [0,1,2] [(0,1),(1,2)] j aa ab ac ad ae
def tzk:fzj->fzj:=RecS.next [] hd func455 ju (λrec a=>tzl rec a.1 a.2.1 a.2.2.1 a.2.2.2.1 a.2.2.2.2.1 a.2.2.2.2.2.1 a.2.2.2.2.2.2.1 a.2.2.2.2.2.2.2) (λrec a=>ju)
def tzj (a0:A4)(a1:Nat)(a2:Nat)(a3:Int)(a4:Int)(a5:Int)(a6:A5)(a7:Int):CallS A4:=(RecS.fix tzk NN).C (a0,a1,a2,a3,a4,a5,a6,a7)
def xzg (j:A4)(aa:Nat)(ab:Nat)(ac:A5)(ad:Int):T A4:=let ae:=(ab:Int);.cc (sz7 (IntKind.u64.wrap ae)) λaf=>.call (tzj j aa ab 0 ae af ac ad) [(0,0),(1,1),(2,2)] λag=>.jn ag
def xzf (j)(aa)(ab)(ac)(ad):=
 mkD func399 (xzg j aa ab ac ad) 3 [.view 0 1 aa ab,.func 400 [] [X7 1,X7 2]] [(0,vO j 3),(1,.box [q ac]),(2,.box [pz ad])] (λ_=>.tup []) (λr=>[(0,vO r 3),(1,.box [q ac]),(2,.box [pz ad])])
open Go.Proofs
abbrev lz6:=RecS prog 398 5 (A4×Nat×Nat×Int×A5×Ak) Bd (λa=>[.view 0 1 a.2.1 a.2.2.1,pz a.2.2.2.1,X7 1,X7 2,X7 4]) (λa=>[(0,vO a.1 3),(1,.box [q a.2.2.2.2.1]),(2,.box [.vec 3]),(3,vO a.2.2.2.2.2 480),(4,.box [.func 398 [] [X7 1,X7 2,X7 4]])]) (λ_ r=>pz r.1) (λa r=>[(0,vO r.2.1 3),(1,.box [q a.2.2.2.2.1]),(2,.box [.vec 5]),(3,.gone),(4,.box [.func 398 [] [X7 1,X7 2,X7 4]]),(5,vO r.2.2 480)])
def Kze (rec:lz6)(j:A4)(aa:Nat)(ab:Nat)(ac:Int)(ad:A5)(ae:Ak):T Bd:=let af:=(ab:Int);let ag:=(ae.length:Int);let ah:=ag.toNat;let ai:=qt.wrap (af.tdiv 2);let aj:=aa+(ai.toNat);let ak:=qt.wrap (ai+1);let al:=qt.wrap (ac+1);let am:=(((ad.getD (X3 (0:Int)) qu).length:Nat):Int);.br (af==0) (.jn ((-1),j,ae)) (.gh (0:Int) ad.length<|.grd (am≠0)<|.call (xzf j aa ab ad (ac.tmod am)) [(0,0),(1,1),(2,645)] λan=>let ao:=([(⟨(an.getD aj qu),(ac.tmod am),0,0⟩:bzc)]:Ak);let ap:=ae.length+ao.length;
 .ok ((2:Int)≠0) jp<|.gh ai ab<|.grd (aj<an.length)<|.conv 6007 (kL ao 480)<|.conv 6008 (kA ae ao 480)<|.grd (ap * 32<=140737488355328/\ap<=maxLen)<|.grd (0<=(0:Int)/\(0:Int)<=ai/\ai<=af)<|.call (rec.C (an,(aa+(X3 (0:Int))),((ai.toNat)- (X3 (0:Int))),al,ad,(ae++ao))) [(0,0),(1,1),(2,2),(3,1925),(4,4)] λaq=>.grd (0<=ak/\ak<=af/\af<=af)<|.call (rec.C (aq.2.1,(aa+(ak.toNat)),((af.toNat)- (ak.toNat)),al,ad,aq.2.2)) [(0,0),(1,1),(2,2),(3,2437),(4,4)] λar=>let au:=ar.2.2.getD ah qu;let av:=(⟨au.XM,au.XX,aq.1,au.XY⟩:bzc);let aw:=ar.2.2.set ah av;let ax:=aw.getD ah qu;let ay:=(⟨ax.XM,ax.XX,ax.XZ,ar.1⟩:bzc);
 .gh ag ar.2.2.length<|.conv 9008 (kS ar.2.2 480 ah av)<|.gi (ag) ar.2.2.length<|.gh ag (aw.length)<|.conv 9011 (kS aw 480 ah ay)<|.gi (ag) (aw.length)<|.jn (ag,ar.2.1,(aw.set ah ay)))
def Kzd:lz6->lz6:=RecS.next [] hd func398 ju (λrec a=>Kze rec a.1 a.2.1 a.2.2.1 a.2.2.2.1 a.2.2.2.2.1 a.2.2.2.2.2) (λrec a=>ju)
def Kzc (a0:A4)(a1:Nat)(a2:Nat)(a3:Int)(a4:A5)(a5:Ak):CallS Bd:=(RecS.fix Kzd NN).C (a0,a1,a2,a3,a4,a5)
def Pzf (j:A5):T Ak:=let aa:=(j.length:Int);let ab:=qs aa.toNat (0:Int);.cc (mzc j) λac=>.br (!ac) (.jn nl) (.conv 4002 (Dz3 1 azy 3 aa.toNat 0)<|.grd (0<=aa/\aa<=aa/\aa<=9223372036854775807/\aa * 8<=140737488355328)<|.loop (λs (ad:Ah)=>pk s [1,2,3,14] [0,64,65] [(15,pz ad.2)] [(576,vO ad.1 3)]) (.exit 0) (λs (ad:A4)=>pk s [1,2,3] [0,64,65] [] [(576,vO ad 3)]) (λad=>let ae:=(ad.2).toNat;.jC (ad.2<(ab.length:Int)) (.gh ad.2 ad.1.length<|.conv 8004 (kS ad.1 3 ae ad.2)<|.gi (ad.2) ad.1.length<|.nn ((ad.1.set ae ad.2),(qt.wrap (ad.2+1)))) (.oo ad.1)) (ab,0) [] λad=>.call (Kzc ad 0 ad.length 0 j nl) [(0,576),(1,0),(2,64),(3,65),(4,960)] λae=>.jn ae.2.2)
def Pze (j):=
 mkC [⟨396,azgq⟩] hd func346 ju (Pzf j) 0 [q j] [] (λr=>q r) X6 ju
def Kzk (j:A5)(aa:Ak):T (A4×Bool):=let ab:=(aa.length:Int);let ac:=(j.length:Int);let ad:=qs ab.toNat (0:Int);.conv 1002 (Dz3 1 azy 3 ab.toNat 0)<|.grd (0<=ab/\ab<=ab/\ab<=9223372036854775807/\ab * 8<=140737488355328)<|.loop (λs (ae:Ah)=>pk s [0,1,6,17] [] [(18,pz ae.2)] [(256,vO ae.1 3)]) (.exit 0) (λs (ae:A4)=>pk s [0,1,6] [] [] [(256,vO ae 3)]) (λae=>let af:=(ae.2).toNat;.jC (ae.2<(ad.length:Int)) (.gh ae.2 ae.1.length<|.conv 5003 (kS ae.1 3 af (-1))<|.gi (ae.2) ae.1.length<|.nn ((ae.1.set af (-1)),(qt.wrap (ae.2+1)))) (.oo ae.1)) (ad,0) [] λae=>.conv 7002 (Dz3 1 encB 4 ac.toNat false)<|.grd (0<=ac/\ac<=ac/\ac<=9223372036854775807/\ac * 1<=140737488355328)<|.loop (λs (af:(A4×(List Bool)×Int))=>pk s [0,1,6,8,28,29] [] [(30,pz af.2.2)] [(256,vO af.1 3),(768,vO af.2.1 4)]) (.exit 2) (λs (af:A4)=>pk s [6] [] [] [(256,vO af 3)]) (λaf=>let ag:=(af.2.2).toNat;let ah:=aa.getD ag qu;let ai:=ah.XM;let aj:=ai.toNat;let ak:=([ah.XZ,ah.XY]:A4);.jC (af.2.2<ab) (.gh af.2.2 aa.length<|.cub 1 51 [0,1,6,8,9,10,28,29,30] [256,768,1408] (.jF (ai<0) (.jF (ai>=ac) (.gg ai af.2.1.length<|.oo (af.2.1.getD aj qu)))) λal=>.br al (.ff (nl,false)) (.gh ai af.2.1.length<|.conv 13004 (kS af.2.1 4 aj true)<|.gi ai af.2.1.length<|.cub 1 67 [0,1,6,8,9,10,28,29,30] [256,768,1408] (.jF ((ah.XX)<0) (.gh (0:Int) j.length<|.oo (qv ((ah.XX)>=(((j.getD (X3 (0:Int)) qu).length:Nat):Int))))) λam=>.br am (.ff (nl,false)) (.conv 16004 (kL ak 3)<|.name 16005 ((ak.length:Int)) λan=>.loop (λs (ao:Ah)=>pk s [0,1,6,8,9,28,29,30,72,73] [768,2304] [(74,pz ao.2)] [(256,vO ao.1 3)]) (.exit 4) (λs (ao:A4)=>pk s [0,1,6,8,9,28,29,30] [768] [] [(256,vO ao 3)]) (λao=>.jC (ao.2<an) (.cut 0 (λs (ap:A4)=>pk s [0,1,6,8,9,28,29,30,72,73,74] [768,2304] [] [(256,vO ap 3)]) (.gg ao.2 (ak.length)<|.name 18001 ((ak.getD (X3 ao.2) qu)) λap=>let aq:=ap.toNat;
 .br (ap==(-1)) (.oo ao.1) (.cub 1 95 [0,1,6,8,9,12,28,29,30,72,73,74] [256,768,2304] (.jF (ap<=af.2.2) (.jF (ap>=ab) (.gg ap ao.1.length<|.oo ((ao.1.getD aq qu) !=(-1))))) λar=>.br ar (.ff (.fin (.fin (nl,false)))) (.gh ap ao.1.length<|.conv 22004 (kS ao.1 3 aq af.2.2)<|.gi (ap) ao.1.length<|.oo (ao.1.set aq af.2.2)))) λap=>.nn (ap,(qt.wrap (ao.2+1)))) (.oo ao.1)) (af.1,0) [] λao=>.cub 0 109 [0,1,6,8,28,29,30] [256,768] (.jC (af.2.2>0) (.gg af.2.2 ao.length<|.oo ((ao.getD ag qu)==(-1))) (.oo false)) λap=>.br ap (.ff (nl,false)) (.nn (ao,(af.2.1.set aj true),(qt.wrap (af.2.2+1))))))) (.oo af.1)) (ae,(qs ac.toNat (false:Bool)),0) [] λaf=>.jn (af,true)
def Kzj:=
 mkq2 func497 Kzk (λr=>.tup [q r.1,q r.2])
def Kzi (j:A5)(aa:Ak)(ab:A4):T Bool:=
 .loop (ik 14 [0,1,2,12,13] []) (.exit 0) (jk [] []) (λac=>.jC (ac<(aa.length:Int)) (.gh ac aa.length<|.gh ac ab.length<|.loop (λs (ad:B2)=>pk s [0,1,2,8,12,13,14] [576] [(9,pz ad.1),(10,pz ad.2)] []) (.exit 2) (jk [0,1,2,12,13,14] []) (λad=>let ae:=(ad.2).toNat;let af:=aa.getD ae qu;.br (ad.2 !=(-1)) (.gh ad.2 aa.length<|.gh ad.2 aa.length<|.cc (Cz4 j (af.XX) ((aa.getD (ac.toNat) qu).XM) (af.XM)) λag=>.gh ad.2 aa.length<|.br (!((qv (ag<0))==(ad.1==(af.XZ)))) (.ff (.fin false)) (.gh ad.2 ab.length<|.nn (ad.2,(ab.getD ae qu)))) (.oo .u)) (ac,(ab.getD (ac.toNat) qu)) [] λ_=>.nn (qt.wrap (ac+1))) (.oo .u))
 0 [] λ_=>.jn true
def Kzh:=
 mkp3 func498 Kzi
def Pzh (j:A5)(aa:Ak):T Bool:=
 .cub 3 16 [0,1,4] [0] (.cc (mzc j) λab=>.jD (!ab) (.oo ((aa.length:Int) !=(j.length:Int)))) λab=>.br ab (.jn false) (.cc (Kzj j aa) λac=>.br ac.2 (.cc (Kzh j aa ac.1) λad=>.jn ad) (.jn false))
def Pzg (j)(aa):=
 mkC [⟨496,azgt⟩] hd func456 ju (Pzh j aa) 0 [q j,q aa] [] (λr=>q r) X6 ju
def Sza (j:azl)(aa:A5)(ab:Ak)(ac:A4):T Bool:=let ad:=(j.Xc.length:Int);.cub 2 30 [1,4] [0] (.cc (fz3 (⟨j.Xc,j.Xv⟩:azl)) λae=>.jD (ae !=0) (.jD ((ac.length:Int) !=ad) (.cc (Cz5 ac) λaf=>.jD (!af) (.cc (Pzg aa ab) λag=>.oo (!ag))))) λae=>.br ae (.jn false) (.br ((aa.length:Int)==0) (.jn true) (.gh (0:Int) aa.length<|.jn ((((aa.getD (X3 (0:Int)) qu).length:Nat):Int)==ad)))
def Sz9:=
 mkp4 func403 Sza
def Nzm (j:dzj)(aa:Int):T Int:=let ab:=j.points.getD (aa.toNat) qu;.gh aa j.points.length<|.loop (λs (ac:B2)=>pk s [2,13,14] [0] [(5,pz ac.1),(15,pz ac.2)] []) (.exit 0) (ik 5 [] []) (λac=>let ad:=(ac.2).toNat;.jC (ac.2<(ab.length:Int)) (.gh ac.2 (ab.length)<|.gh ac.2 j.q.length<|.name 5006 ((qt.wrap ((j.q.getD ad qu)- (ab.getD ad qu)))) λae=>.gh ac.2 j.joints.length<|.name 6012 ((qt.wrap (ac.1+(qt.wrap (((j.joints.getD ad qu).XP) * (max ae (qt.wrap (0-ae)))))))) λaf=>.nn (af,(qt.wrap (ac.2+1)))) (.oo ac.1)) (0,0) [] λac=>.jn ac
def Nzl:=
 mkp2 func460 Nzm
def Pzm (j:A4)(aa:A4)(ab:Int):T A6:=let ac:=([ab]:A4);let ad:=j.length+ac.length;.conv 7 (kL ac 3)<|.conv 8 (kA j ac 3)<|.grd (ad * 8<=140737488355328/\ad<=maxLen)<|.jn ((j++ac),aa)
def Pzl (j)(aa)(ab):=
 mkD func559 (Pzm j aa ab) 4 [X7 0,.iface 3 (pz ab)] [(0,.box [.vec 1,.func 404 [] [X7 2]]),(1,vO j 3),(2,.box [.vec 3]),(3,vO aa 2)] (λ_=>.tup []) (λr=>[(0,.box [.vec 4,.func 404 [] [X7 2]]),(1,.gone),(2,.box [.vec 3]),(3,vO r.2 2),(4,vO r.1 3)])
def Szn (j:A4)(aa:A4):T Be:=
 .jn ((j.length:Int),j,aa)
def iz4 (j)(aa):=
 mkD func410 (Szn j aa) 4 [X7 0] [(0,.box [.vec 1,.func 404 [] [X7 2]]),(1,vO j 3),(2,.box [.vec 3]),(3,vO aa 2)] (λr=>pz r.1) (λr=>[(0,.box [.vec 1,.func 404 [] [X7 2]]),(1,vO r.2.1 3),(2,.box [.vec 3]),(3,vO r.2.2 2)])
def Gzl (j:Int)(aa:Int)(ab:A4):T (Bool×A4):=
 .gg j ab.length<|.gg aa ab.length<|.cc (rzr (ab.getD (j.toNat) qu) (ab.getD (aa.toNat) qu)) λac=>.cc (fza j aa) λad=>let ae:=([ac,ad]:A4);
 .conv 1012 (kL ae 3)<|.cc (Czu ae) λaf=>.jn ((qv (af>0)),ab)
def Gzk (j)(aa)(ab):=
 mkD func404 (Gzl j aa ab) 2 [pz j,pz aa,X7 0] [(0,.box [.vec 1]),(1,vO ab 2)] (λr=>q r.1) (λr=>[(0,.box [.vec 1]),(1,vO r.2 2)])
def Pzk (j:A4)(aa:A4)(ab:Int)(ac:Int):T (Bool×A4×A4):=
 .gg ab j.length<|.gg ac j.length<|.call (Gzk (j.getD (ab.toNat) qu) (j.getD (ac.toNat) qu) aa) [(0,2),(1,3)] λad=>.jn (ad.1,j,ad.2)
def Cz6 (j)(aa)(ab)(ac):=
 mkD func557 (Pzk j aa ab ac) 4 [X7 0,pz ab,pz ac] [(0,.box [.vec 1,.func 404 [] [X7 2]]),(1,vO j 3),(2,.box [.vec 3]),(3,vO aa 2)] (λr=>q r.1) (λr=>[(0,.box [.vec 1,.func 404 [] [X7 2]]),(1,vO r.2.1 3),(2,.box [.vec 3]),(3,vO r.2.2 2)])
def Pzn (j:A4)(aa:A4)(ab:Int)(ac:Int):T A6:=let ad:=ab.toNat;let ae:=ac.toNat;let af:=j.getD ae qu;let ag:=j.set ad af;let ah:=j.getD ad qu;.gg ac j.length<|.gg ab j.length<|.gh ab j.length<|.conv 25 (kS j 3 ad af)<|.gi (ab) j.length<|.gh ac (ag.length)<|.conv 27 (kS ag 3 ae ah)<|.gi (ac) (ag.length)<|.jn ((ag.set ae ah),aa)
def pzb (j)(aa)(ab)(ac):=
 mkD func560 (Pzn j aa ab ac) 4 [X7 0,pz ab,pz ac] [(0,.box [.vec 1,.func 404 [] [X7 2]]),(1,vO j 3),(2,.box [.vec 3]),(3,vO aa 2)] (λ_=>.tup []) (λr=>[(0,.box [.vec 1,.func 404 [] [X7 2]]),(1,vO r.1 3),(2,.box [.vec 3]),(3,vO r.2 2)])
def Iz2 (j:A4)(aa:A4)(ab:Int):T A6:=
 .loop (λs (ac:Bf)=>pk s [0] [0,2] [(1,pz ac.2.2)] [(1,vO ac.1 3),(3,vO ac.2.1 2)]) (.exit 0) (λs (ac:A6)=>pk s [] [0,2] [] [(1,vO ac.1 3),(3,vO ac.2 2)]) (λac=>let ad:=qt.wrap ((qt.wrap (ac.2.2-1)).tdiv 2);.ok ((2:Int)≠0) jp<|.cut 1 (λs (ae:(A4×A4×Bool))=>pk s [0,1,4] [0,2] [(17,q ae.2.2)] [(1,vO ae.1 3),(3,vO ae.2.1 2)]) (.br (ad==ac.2.2) (.oo (ac.1,ac.2.1,true)) (.call (Cz6 ac.1 ac.2.1 ac.2.2 ad) [(0,0),(1,1),(2,2),(3,3)] λae=>.oo (ae.2.1,ae.2.2,(!ae.1)))) λae=>.br ae.2.2 (.oo (ae.1,ae.2.1)) (.call (pzb ae.1 ae.2.1 ad ac.2.2) [(0,0),(1,1),(2,2),(3,3)] λaf=>.nn (af.1,af.2,ad))) (j,aa,ab) [] λac=>.jn (ac.1,ac.2)
def Iz1 (j)(aa)(ab):=
 mkD func499 (Iz2 j aa ab) 4 [.iface 482 (X7 0),pz ab] [(0,.box [.vec 1,.func 404 [] [X7 2]]),(1,vO j 3),(2,.box [.vec 3]),(3,vO aa 2)] (λ_=>.tup []) (λr=>[(0,.box [.vec 1,.func 404 [] [X7 2]]),(1,vO r.1 3),(2,.box [.vec 3]),(3,vO r.2 2)])
def Czz (j:A4)(aa:A4)(ab:Int):T A6:=
 .call (Pzl j aa ab) [(0,0),(1,1),(2,2),(3,3)] λac=>.call (iz4 ac.1 ac.2) [(0,0),(1,132),(2,2),(3,3)] λad=>.call (Iz1 ad.2.1 ad.2.2 (qt.wrap (ad.1-1))) [(0,0),(1,132),(2,2),(3,3)] λae=>.jn (ae.1,ae.2)
def Czy (j)(aa)(ab):=
 mkD func461 (Czz j aa ab) 4 [.iface 482 (X7 0),.iface 3 (pz ab)] [(0,.box [.vec 1,.func 404 [] [X7 2]]),(1,vO j 3),(2,.box [.vec 3]),(3,vO aa 2)] (λ_=>.tup []) (λr=>[(0,.box [.vec 4,.func 404 [] [X7 2]]),(1,.gone),(2,.box [.vec 3]),(3,vO r.2 2),(4,vO r.1 3)])
def Pzp (j:A4)(aa:A4)(ab:Int):T A6:=
 .call (Czy j aa ab) [(0,0),(1,1),(2,2),(3,3)] λac=>.jn (ac.1,ac.2)
def Pzo (j)(aa)(ab):=
 mkD func412 (Pzp j aa ab) 4 [X7 0,pz ab] [(0,.box [.vec 1,.func 404 [] [X7 2]]),(1,vO j 3),(2,.box [.vec 3]),(3,vO aa 2)] (λ_=>.tup []) (λr=>[(0,.box [.vec 4,.func 404 [] [X7 2]]),(1,.gone),(2,.box [.vec 3]),(3,vO r.2 2),(4,vO r.1 3)])
def Dz1 (j:A4)(aa:A4)(ab:Int)(ac:Int):T (Bool×A4×A4):=
 .loop (λs (ad:Bf)=>pk s [0,1,2] [0,2] [(7,pz ad.2.2)] [(1,vO ad.1 3),(3,vO ad.2.1 2)]) (.exit 0) (λs (ad:Bf)=>pk s [1] [0,2] [(7,pz ad.2.2)] [(1,vO ad.1 3),(3,vO ad.2.1 2)]) (λad=>let ae:=qt.wrap ((qt.wrap (2 * ad.2.2))+1);let af:=qt.wrap (ae+1);.cub 2 21 [0,1,2,7,8] [0,1,2,3] (.jF (ae>=ac) (.oo (qv (ae<0)))) λag=>.br ag (.oo (ad.1,ad.2.1,ad.2.2)) (.cut 1 (λs (ah:Bf)=>pk s [0,1,2,7] [0,2] [(9,pz ah.2.2)] [(1,vO ah.1 3),(3,vO ah.2.1 2)]) (.cut 1 (λs (ah:(A4×A4×Bool))=>pk s [0,1,2,7,9,10] [0,2] [(33,q ah.2.2)] [(1,vO ah.1 3),(3,vO ah.2.1 2)]) (.jC (af<ac) .stop (.oo (ad.1,ad.2.1,false))) λah=>.br ah.2.2 (.oo (ah.1,ah.2.1,af)) (.oo (ah.1,ah.2.1,ae))) λah=>.call (Cz6 ah.1 ah.2.1 ah.2.2 ad.2.2) [(0,0),(1,1),(2,2),(3,3)] λai=>.br (!ai.1) (.oo (ai.2.1,ai.2.2,ad.2.2)) (.call (pzb ai.2.1 ai.2.2 ad.2.2 ah.2.2) [(0,0),(1,1),(2,2),(3,3)] λaj=>.nn (aj.1,aj.2,ah.2.2)))) (j,aa,ab) [] λad=>.jn ((qv (ad.2.2>ab)),ad.1,ad.2.1)
def Dz0 (j)(aa)(ab)(ac):=
 mkD func500 (Dz1 j aa ab ac) 4 [.iface 482 (X7 0),pz ab,pz ac] [(0,.box [.vec 1,.func 404 [] [X7 2]]),(1,vO j 3),(2,.box [.vec 3]),(3,vO aa 2)] (λr=>q r.1) (λr=>[(0,.box [.vec 1,.func 404 [] [X7 2]]),(1,vO r.2.1 3),(2,.box [.vec 3]),(3,vO r.2.2 2)])
def Szp (j:A4)(aa:A4):T Be:=let ab:=(j.length:Int);let ac:=qt.wrap (ab-1);.gg ac j.length<|.conv 3006 (az0y 1 azy j 3 ac)<|.grd (0<=ac/\ac<=ab/\0<=ac.toNat)<|.jn ((j.getD (ac.toNat) qu),(j.take (ac.toNat)),aa)
def Szo (j)(aa):=
 mkD func558 (Szp j aa) 4 [X7 0] [(0,.box [.vec 1,.func 404 [] [X7 2]]),(1,vO j 3),(2,.box [.vec 3]),(3,vO aa 2)] (λr=>.iface 3 (pz r.1)) (λr=>[(0,.box [.vec 4,.func 404 [] [X7 2]]),(1,.gone),(2,.box [.vec 3]),(3,vO r.2.2 2),(4,vO r.2.1 3)])
def Gzg (j:A4)(aa:A4):T Be:=
 .call (iz4 j aa) [(0,0),(1,1),(2,2),(3,3)] λab=>let ac:=qt.wrap (ab.1-1);
 .call (pzb ab.2.1 ab.2.2 0 ac) [(0,0),(1,1),(2,2),(3,3)] λad=>.call (Dz0 ad.1 ad.2 0 ac) [(0,0),(1,1),(2,2),(3,3)] λae=>.call (Szo ae.2.1 ae.2.2) [(0,0),(1,1),(2,2),(3,3)] λaf=>.jn (af.1,af.2.1,af.2.2)
def Gzf (j)(aa):=
 mkD func462 (Gzg j aa) 4 [.iface 482 (X7 0)] [(0,.box [.vec 1,.func 404 [] [X7 2]]),(1,vO j 3),(2,.box [.vec 3]),(3,vO aa 2)] (λr=>.iface 3 (pz r.1)) (λr=>[(0,.box [.vec 4,.func 404 [] [X7 2]]),(1,.gone),(2,.box [.vec 3]),(3,vO r.2.2 2),(4,vO r.2.1 3)])
def Szr (j:A4)(aa:A4):T Be:=
 .call (Gzf j aa) [(0,0),(1,1),(2,2),(3,3)] λab=>.jn (ab.1,ab.2.1,ab.2.2)
def Szq (j)(aa):=
 mkD func413 (Szr j aa) 4 [X7 0] [(0,.box [.vec 1,.func 404 [] [X7 2]]),(1,vO j 3),(2,.box [.vec 3]),(3,vO aa 2)] (λr=>pz r.1) (λr=>[(0,.box [.vec 4,.func 404 [] [X7 2]]),(1,.gone),(2,.box [.vec 3]),(3,vO r.2.2 2),(4,vO r.2.1 3)])
def Gzp (j:Int)(aa:Int)(ab:A4)(ac:A4)(ad:Int):T A6:=
 .gh j ab.length<|.conv 4 (kS ab 2 (j.toNat) aa)<|.gi (j) ab.length<|.call (Pzo ac (ab.set (j.toNat) aa) j) [(0,3),(1,4),(2,0),(3,1)] λae=>.call (iz4 ae.1 ae.2) [(0,3),(1,454),(2,0),(3,1)] λaf=>.jC (af.1>ad) .stop (.jn (af.2.2,af.2.1))
def Gzo (j)(aa)(ab)(ac)(ad):=
 mkD func411 (Gzp j aa ab ac ad) 6 [pz j,pz aa,X7 0,X7 2,X7 5] [(0,.box [.vec 1]),(1,vO ab 2),(2,.box [X7 3]),(3,.box [.vec 4,.func 404 [] [X7 0]]),(4,vO ac 3),(5,.box [pz ad])] (λ_=>.tup []) (λr=>[(0,.box [.vec 1]),(1,vO r.1 2),(2,.box [X7 3]),(3,.box [.vec 6,.func 404 [] [X7 0]]),(4,.gone),(5,.box [pz ad]),(6,vO r.2 3)])
def Gzn (j:A4)(aa:A4)(ab:Int):T (Int×Bool×A4×A4):=
 .call (iz4 j aa) [(0,1),(1,2),(2,3),(3,4)] λac=>.jC (ac.1<ab) (.jn (0,false,ac.2.1,ac.2.2))
 .stop
def Gzm (j)(aa)(ab):=
 mkD func409 (Gzn j aa ab) 6 [X7 0,X7 5,X7 3] [(0,.box [X7 1]),(1,.box [.vec 2,.func 404 [] [X7 3]]),(2,vO j 3),(3,.box [.vec 4]),(4,vO aa 2),(5,.box [pz ab])] (λr=>.tup [pz r.1,q r.2.1]) (λr=>[(0,.box [X7 1]),(1,.box [.vec 2,.func 404 [] [X7 3]]),(2,vO r.2.2.1 3),(3,.box [.vec 4]),(4,vO r.2.2.2 2),(5,.box [pz ab])])
abbrev pzx:=RecS prog 459 10 (Int×A0×A5×Ak×A4×A4×A4×Int) A6 (λa=>[pz a.1,X7 0,X7 1,X7 8,X7 9]) (λa=>[(0,.box [q a.2.1,q a.2.2.1,q a.2.2.2.1,q a.2.2.2.2.1]),(1,.box [.func 411 [] [X7 2,X7 4,X7 7]]),(2,.box [.vec 3]),(3,vO a.2.2.2.2.2.1 2),(4,.box [X7 5]),(5,.box [.vec 6,.func 404 [] [X7 2]]),(6,vO a.2.2.2.2.2.2.1 3),(7,.box [pz a.2.2.2.2.2.2.2]),(8,.box [.func 459 [] [X7 0,X7 1,X7 8,X7 9]]),(9,.box [.func 409 [] [X7 4,X7 7,X7 2]])]) (λ_ _=>.tup []) (λa r=>[(0,.box [q a.2.1,q a.2.2.1,q a.2.2.2.1,q a.2.2.2.2.1]),(1,.box [.func 411 [] [X7 2,X7 4,X7 7]]),(2,.box [.vec 3]),(3,vO r.1 2),(4,.box [X7 5]),(5,.box [.vec 10,.func 404 [] [X7 2]]),(6,.gone),(7,.box [pz a.2.2.2.2.2.2.2]),(8,.box [.func 459 [] [X7 0,X7 1,X7 8,X7 9]]),(9,.box [.func 409 [] [X7 4,X7 7,X7 2]]),(10,vO r.2 3)])
def Qz2 (rec:pzx)(j:Int)(aa:A0)(ab:A5)(ac:Ak)(ad:A4)(ae:A4)(af:A4)(ag:Int):T A6:=let ah:=ac.getD (j.toNat) qu;let ai:=ah.XX;let aj:=ah.XM;let ak:=ai.toNat;let al:=ab.getD (aj.toNat) qu;.br (j==(-1)) (.jn (ae,af)) (.gh j ac.length<|.cc (Nzl (⟨aa,ab,ac,ad⟩:dzj) aj) λam=>.call (Gzo aj am ae af ag) [(0,2),(1,3),(2,4),(3,5),(4,6),(5,7)] λan=>.gh ai ad.length<|.gh aj ab.length<|.gh ai (al.length)<|.name 3015 ((al.getD ak qu)) λao=>let ap:=qt.wrap ((ad.getD ak qu)-ao);
 .cut 1 (λs (aq:B2)=>pk s [1,3,4,6,7] [0,1,2,3,4,5,6,7,8,9,458,1034] [(8,pz aq.1),(9,pz aq.2)] []) (.jC (ap>0) (.oo (ah.XY,ah.XZ)) (.oo (ah.XZ,ah.XY))) λaq=>.call (rec.C (aq.1,aa,ab,ac,ad,an.1,an.2,ag)) [(0,0),(1,1),(2,2),(3,3),(4,4),(5,5),(6,1034),(7,7),(8,8),(9,9)] λar=>.gh ai aa.length<|.name 8010 ((max ap (qt.wrap (0-ap)))) λau=>.call (Gzm ar.2 ar.1 ag) [(0,4),(1,5),(2,2826),(3,2),(4,3),(5,7)] λav=>.cub 0 79 [3,9] [0,1,2,3,4,5,6,7,8,9,2826] (.jD (!av.2.1) (.oo (qv ((qt.wrap (((aa.getD ak qu).XP) * au))<=av.1)))) λaw=>.br aw (.call (rec.C (aq.2,aa,ab,ac,ad,av.2.2.2,av.2.2.1,ag)) [(0,0),(1,1),(2,2),(3,3),(4,4),(5,5),(6,2826),(7,7),(8,8),(9,9)] λax=>.jn (ax.1,ax.2)) (.jn (av.2.2.2,av.2.2.1)))
def Qz1:pzx->pzx:=RecS.next [] hd func459 ju (λrec a=>Qz2 rec a.1 a.2.1 a.2.2.1 a.2.2.2.1 a.2.2.2.2.1 a.2.2.2.2.2.1 a.2.2.2.2.2.2.1 a.2.2.2.2.2.2.2) (λrec a=>ju)
def Qz0 (a0:Int)(a1:A0)(a2:A5)(a3:Ak)(a4:A4)(a5:A4)(a6:A4)(a7:Int):CallS A6:=(RecS.fix Qz1 NN).C (a0,a1,a2,a3,a4,a5,a6,a7)
def Vzq (j:dzj)(aa:A4)(ab:A4)(ac:Int):T A6:=
 .jC ((j.tree.length:Int)>0) (.call (Qz0 0 j.joints j.points j.tree j.q ab aa ac) [(0,6),(1,134),(2,3),(3,4),(4,0),(5,1),(6,2),(7,5),(8,198),(9,70)] λad=>.jn (ad.2,ad.1)) (.jn (aa,ab))
def Vzp (j)(aa)(ab)(ac):=
 mkD func408 (Vzq j aa ab ac) 6 [q j,.func 409 [] [X7 0,X7 5,X7 3],.func 411 [] [X7 3,X7 0,X7 5]] [(0,.box [X7 1]),(1,.box [.vec 2,.func 404 [] [X7 3]]),(2,vO aa 3),(3,.box [.vec 4]),(4,vO ab 2),(5,.box [pz ac])] (λ_=>.tup []) (λr=>[(0,.box [X7 1]),(1,.box [.vec 6,.func 404 [] [X7 3]]),(2,.gone),(3,.box [.vec 4]),(4,vO r.2 2),(5,.box [pz ac]),(6,vO r.1 3)])
def Kzg (j:azl)(aa:A5)(ab:Ak)(ac:A4)(ad:Int):T A4:=let ae:=(aa.length:Int);.cub 3 24 [1,2,3,5,9,10] [0,64,128,129] (.jF (ad<1) (.cc (Sz9 (⟨j.Xc,j.Xv⟩:azl) aa ab ac) λaf=>.oo (!af))) λaf=>.br af (.jn nl) (.conv 4002 (Dz3 1 azy 2 ae.toNat 0)<|.grd (0<=ae/\ae<=ae/\ae<=9223372036854775807/\ae * 8<=140737488355328)<|.call (Vzp (⟨j.Xc,aa,ab,ac⟩:dzj) nl (qs ae.toNat (0:Int)) ad) [(0,896),(1,832),(2,768),(3,576),(4,512),(5,64)] λag=>.call (iz4 ag.1 ag.2) [(0,832),(1,1536),(2,576),(3,512)] λah=>let ai:=qs (ah.1).toNat (0:Int);
 .conv 7002 (Dz3 1 azy 3 (ah.1).toNat 0)<|.grd (0<=ah.1/\ah.1<=ah.1/\ah.1<=9223372036854775807/\ah.1 * 8<=140737488355328)<|.loop (λs (aj:(A4×A4×A4×Int))=>pk s [10,12] [128,576,832,896] [(13,pz aj.2.2.2)] [(512,vO aj.2.2.1 2),(1536,vO aj.2.1 3),(1728,vO aj.1 3)]) (.exit 0) (λs (aj:A4)=>pk s [10] [128] [] [(1728,vO aj 3)]) (λaj=>let ak:=aj.2.2.2;.jC (aj.2.2.2>=0) (.call (Szq aj.2.1 aj.2.2.1) [(0,832),(1,1536),(2,576),(3,512)] λal=>.gh aj.2.2.2 aj.1.length<|.conv 11005 (kS aj.1 3 (ak.toNat) al.1)<|.gi ak aj.1.length<|.nn ((aj.1.set (ak.toNat) al.1),al.2.1,al.2.2,(qt.wrap (aj.2.2.2-1)))) (.oo aj.1)) (ai,ah.2.1,ah.2.2,(qt.wrap ((ai.length:Int)-1))) [] λaj=>.jn aj)
def Kzf (j)(aa)(ab)(ac)(ad):=
 mkC [⟨402,azgr⟩] hd func347 ju (Kzg j aa ab ac ad) 0 [q j,q aa,q ab,q ac,pz ad] [] (λr=>q r) X6 ju
def yzh (j:Int)(aa:Int)(ab:Int)(ac:Int):T Int:=
 .unroll 3<|.ji<|.gh (0:Int) 2<|.jm<|.gh (0:Int) 2<|.cc (fza j ab) λad=>.br (ad !=0) (.jn ad) (.lit 10000 1<|.ji<|.gh (1:Int) 2<|.jm<|.gh (1:Int) 2<|.cc (fza aa ac) λae=>.br (ae !=0) (.jn ae)
 .stop)
def yzg (j)(aa)(ab)(ac):=
 mkD func350 (yzh j aa ab ac) 2 [.bsl 0 2,.bsl 1 2] [(0,.box [pz j,pz aa]),(1,.box [pz ab,pz ac])] pz (λ_=>[(0,.box [pz j,pz aa]),(1,.box [pz ab,pz ac])])
def Fz8 (j:B2)(aa:B2):T Int:=
 .call (yzg j.1 j.2 aa.1 aa.2) [(0,0),(1,64)] λab=>.jn ab
def czw:=
 mkp2 func349 Fz8
def kz3 (j:B3)(aa:Nat)(ab:Nat)(ac:Int)(ad:Int):T B3:=
 az28 (λx y=>czw x y) [] 375 [0] [] j aa ab ac ad
def kz2 (j)(aa)(ab)(ac)(ad):=
 mkD func463 (kz3 j aa ab ac ad) 1 [.view 0 2 aa ab,pz ac,pz ad,.func 349 [] []] [(0,vO j 375)] (λ_=>.tup []) (λr=>[(0,vO r 375)])
def ozs (j:B3)(aa:Nat)(ab:Nat)(ac:Int)(ad:Int)(ae:Int):T B3:=
 az2c (λx y=>czw x y) [] 375 [0] [] j aa ab ac ad ae
def ozr (j)(aa)(ab)(ac)(ad)(ae):=
 mkD func501 (ozs j aa ab ac ad ae) 1 [.view 0 2 aa ab,pz ac,pz ad,pz ae,.func 349 [] []] [(0,vO j 375)] (λ_=>.tup []) (λr=>[(0,vO r 375)])
def ozq (j:B3)(aa:Nat)(ab:Nat)(ac:Int)(ad:Int):T B3:=
 az27 ozr [] 375 [(0,0)] j aa ab ac ad
def ozp (j)(aa)(ab)(ac)(ad):=
 mkD func464 (ozq j aa ab ac ad) 1 [.view 0 2 aa ab,pz ac,pz ad,.func 349 [] []] [(0,vO j 375)] (λ_=>.tup []) (λr=>[(0,vO r 375)])
def rz6 (j:B3)(aa:Nat)(ab:Nat)(ac:Int)(ad:Int)(ae:Int):T Bh:=
 azk9 (λx y=>czw x y) [] j aa ab ac ad ae
def rz5 (j)(aa)(ab)(ac)(ad)(ae):=
 mkD func517 (rz6 j aa ab ac ad ae) 2 [.view 0 2 aa ab,pz ac,pz ad,X7 1,.func 349 [] []] [(0,vO j 375),(1,.box [pz ae])] (λr=>.tup [pz r.1,pz r.2.1]) (λr=>[(0,vO j 375),(1,.box [pz r.2.2])])
def rz4 (j:B3)(aa:Nat)(ab:Nat)(ac:Int)(ad:Int)(ae:Int)(af:Int):T B2:=
 azk8 rz5 [(0,0),(1,1)] j aa ab ac ad ae af
def hzq (j)(aa)(ab)(ac)(ad)(ae)(af):=
 mkD func505 (rz4 j aa ab ac ad ae af) 2 [.view 0 2 aa ab,pz ac,pz ad,pz ae,X7 1,.func 349 [] []] [(0,vO j 375),(1,.box [pz af])] (λr=>pz r.1) (λr=>[(0,vO j 375),(1,.box [pz r.2])])
def jzf (j:B3)(aa:Nat)(ab:Nat)(ac:Int)(ad:Int):T B2:=
 az29 hzq [(0,0),(1,1)] j aa ab ac ad
def jze (j)(aa)(ab)(ac)(ad):=
 mkD func504 (jzf j aa ab ac ad) 2 [.view 0 2 aa ab,pz ac,X7 1,.func 349 [] []] [(0,vO j 375),(1,.box [pz ad])] (λr=>pz r.1) (λr=>[(0,vO j 375),(1,.box [pz r.2])])
def lzw (j:B3)(aa:Nat)(ab:Nat)(ac:Int)(ad:Int):T B2:=
 az26 hzq jze [0] 385 [(0,0),(1,385)] j aa ab ac ad
def lzv (j)(aa)(ab)(ac)(ad):=
 mkD func466 (lzw j aa ab ac ad) 1 [.view 0 2 aa ab,pz ac,pz ad,.func 349 [] []] [(0,vO j 375)] (λr=>.tup [pz r.1,pz r.2]) (λ_=>[(0,vO j 375)])
def kzm (j:B3)(aa:Nat)(ab:Nat)(ac:Int)(ad:Int):T B3:=
 az2b [] 375 j aa ab ac ad
def kzl (j)(aa)(ab)(ac)(ad):=
 mkD func467 (kzm j aa ab ac ad) 1 [.view 0 2 aa ab,pz ac,pz ad,.func 349 [] []] [(0,vO j 375)] (λ_=>.tup []) (λr=>[(0,vO r 375)])
def hzb (j:B3)(aa:Nat)(ab:Nat)(ac:Int)(ad:Int):T (Bool×B3):=
 Oze (λx y=>czw x y) [] 375 [0] [] j aa ab ac ad
def hza (j)(aa)(ab)(ac)(ad):=
 mkD func468 (hzb j aa ab ac ad) 1 [.view 0 2 aa ab,pz ac,pz ad,.func 349 [] []] [(0,vO j 375)] (λr=>q r.1) (λr=>[(0,vO r.2 375)])
def jzh (j:B3)(aa:Nat)(ab:Nat)(ac:Int)(ad:Int)(ae:Int):T (Int×B3):=
 az2a (λx y=>czw x y) 375 [] [0] [] j aa ab ac ad ae
def jzg (j)(aa)(ab)(ac)(ad)(ae):=
 mkD func469 (jzh j aa ab ac ad ae) 1 [.view 0 2 aa ab,pz ac,pz ad,pz ae,.func 349 [] []] [(0,vO j 375)] (λr=>pz r.1) (λr=>[(0,vO r.2 375)])
def nzp (j:B3)(aa:Nat)(ab:Nat)(ac:Int)(ad:Int)(ae:Int):T (Int×Bool×B3):=
 azka (λx y=>czw x y) 375 [0] [] [] j aa ab ac ad ae
def nzo (j)(aa)(ab)(ac)(ad)(ae):=
 mkD func470 (nzp j aa ab ac ad ae) 1 [.view 0 2 aa ab,pz ac,pz ad,pz ae,.func 349 [] []] [(0,vO j 375)] (λr=>.tup [pz r.1,q r.2.1]) (λr=>[(0,vO r.2.2 375)])
def kz1 (j:B3)(aa:Nat)(ab:Nat)(ac:Int)(ad:Int):T B3:=
 az25 lzz Fzs [] 375 513 [(0,513)] [0,513] j aa ab ac ad
def kz0 (j)(aa)(ab)(ac)(ad):=
 mkD func465 (kz1 j aa ab ac ad) 1 [.view 0 2 aa ab,pz ac,pz ad,.func 349 [] []] [(0,vO j 375)] (λ_=>.tup []) (λr=>[(0,vO r 375)])
abbrev ezv:=RecS prog 414 1 (B3×Nat×Nat×Int×Int×Int) B3 (λa=>[.view 0 2 a.2.1 a.2.2.1,pz a.2.2.2.1,pz a.2.2.2.2.1,pz a.2.2.2.2.2,.func 349 [] []]) (λa=>[(0,vO a.1 375)]) (λ_ _=>.tup []) (λ_ r=>[(0,vO r 375)])
def qz4 (rec:ezv)(j:B3)(aa:Nat)(ab:Nat)(ac:Int)(ad:Int)(ae:Int):T B3:=
 azkb (λx y=>czw x y) kz2 ozp lzv kzl hza jzg nzo kz0 rec.C [] 375 1 [(0,0)] [0] [] j aa ab ac ad ae
def qz3:ezv->ezv:=RecS.next [] hd func414 ju (λrec a=>qz4 rec a.1 a.2.1 a.2.2.1 a.2.2.2.1 a.2.2.2.2.1 a.2.2.2.2.2) (λrec a=>ju)
def qz2 (a0:B3)(a1:Nat)(a2:Nat)(a3:Int)(a4:Int)(a5:Int):CallS B3:=(RecS.fix qz3 NN).C (a0,a1,a2,a3,a4,a5)
def pzz (j:B3)(aa:Nat)(ab:Nat):T B3:=let ac:=(ab:Int);.cc (sz7 (IntKind.u64.wrap ac)) λad=>.call (qz2 j aa ab 0 ac ad) [(0,0)] λae=>.jn ae
def pzy (j)(aa)(ab):=
 mkD func348 (pzz j aa ab) 1 [.view 0 2 aa ab,.func 349 [] []] [(0,vO j 375)] (λ_=>.tup []) (λr=>[(0,vO r 375)])
def Jz7 (j:azl)(aa:A5)(ab:Int):T B3:=let ac:=(aa.length:Int);.cc (Pze aa) λad=>.loop (λs (ae:(B3×B6×Int))=>pk s [1,2,3,7,8,9,18,19] [0] [(20,pz ae.2.2)] [(128,vO ae.1 375),(192,Dzt [jA 0,jA 0] czv ae.2.1)]) (.exit 0) (λs (ae:B3)=>pk s [7] [] [] [(128,vO ae 375)]) (λae=>.jC (ae.2.2<ac) (.gh ae.2.2 aa.length<|.call (Kzf (⟨j.Xc,j.Xv⟩:azl) aa ad (aa.getD (X3 ae.2.2) qu) (qt.wrap ((min ab ac)+1))) [] λaf=>.loop (λs (ag:(B3×B6×Int))=>pk s [1,2,3,7,8,9,10,18,19,20,34,35] [0] [(36,pz ag.2.2)] [(128,vO ag.1 375),(192,Dzt [jA 0,jA 0] czv ag.2.1)]) (.exit 2) (λs (ag:(B3×B6))=>pk s [1,2,3,7,8,9,18,19,20] [0] [] [(128,vO ag.1 375),(192,Dzt [jA 0,jA 0] czv ag.2)]) (λag=>let ah:=af.getD (X3 ag.2.2) qu;let ai:=min ae.2.2 ah;let aj:=max ae.2.2 ah;let ak:=czv (ai,aj);let al:=Kzb czv ag.2.1 ak;let am:=([(ai,aj)]:B3);let an:=ag.1.length+am.length;.jC (ag.2.2<(af.length:Int)) (.cut 0 (λs (ao:(B3×B6))=>pk s [1,2,3,8,9,10,18,19,20,34,35,36] [0] [(7,.vec 2048)] [(192,Dzt [jA 0,jA 0] czv ao.2),(2048,vO ao.1 375)]) (.gh ag.2.2 af.length<|.cub 1 55 [1,2,3,7,8,9,10,14,18,19,20,34,35,36] [0,128,192,2688] (.jE (ae.2.2 !=ah) (.ok ((mdom czv ag.2.1 ak)=false->PSub (.bool false) (PVal.bool al)) az7b<|.oo (!al))) λao=>.br ao (.conv 12002 (azja [jA 0,jA 0] czv ag.2.1 (ai,aj) true)<|.conv 13002 (kL am 375)<|.conv 13003 (kA ag.1 am 375)<|.grd (an * 16<=140737488355328/\an<=maxLen)<|.oo ((ag.1++am),(((ai,aj),true)::ag.2.1))) (.oo (ag.1,ag.2.1))) λao=>.nn (ao.1,ao.2,(qt.wrap (ag.2.2+1)))) (.oo (ag.1,ag.2.1))) (ae.1,ae.2.1,0) [] λag=>.nn (ag.1,ag.2,(qt.wrap (ae.2.2+1)))) (.oo ae.1)) (nl,(nl:List (B2×Bool)),0) [] λae=>.call (pzy ae 0 ae.length) [(0,128)] λaf=>.jn af
def Jz6:=
 mkp3 func292 Jz7
def Mze (j:azl)(aa:A4)(ab:A4):T Int:=let ac:=(j.Xc.length:Int);.cub 3 38 [1,2,3] [0] (.jD ((aa.length:Int) !=ac) (.jD ((ab.length:Int) !=ac) (.cc (hzd aa) λad=>.jD (!ad) (.cc (hzd ab) λae=>.jD (!ae) (.cc (fz3 j) λaf=>.oo (af !=0)))))) λad=>.br ad (.jn 0) (.loop (λs (ae:B2)=>pk s [1,2,40,41] [] [(8,pz ae.1),(42,pz ae.2)] []) (.exit 0) (ik 8 [] []) (λae=>let af:=(ae.2).toNat;let ag:=ab.getD af qu;let ah:=aa.getD af qu;.jC (ae.2<ac) (.gh ae.2 j.Xc.length<|.gh ae.2 ab.length<|.gh ae.2 aa.length<|.gh ae.2 aa.length<|.gh ae.2 ab.length<|.name 8021 ((max (qt.wrap (ag-ah)) (qt.wrap (ah-ag)))) λai=>.nn ((qt.wrap (ae.1+(qt.wrap (((j.Xc.getD af qu).XP) * ai)))),(qt.wrap (ae.2+1)))) (.oo ae.1)) (0,0) [] λae=>.jn ae)
def Mzd:=
 mkp3 func351 Mze
def Lze (j:azl)(aa:A5)(ab:Int)(ac:Int):T az1:=
 .gh ab aa.length<|.gh ac aa.length<|.cc (Mzd j (aa.getD (ab.toNat) qu) (aa.getD (ac.toNat) qu)) λad=>.jn (⟨ab,ac,ad,0,(⟨0,nl,(⟨0,0,nl⟩:az6),(⟨0,nl,nl⟩:bze)⟩:azo)⟩:az1)
def Lzd:=
 mkp4 func293 Lze
def Zzg (j:azl)(aa:A5)(ab:Int):T azd:=
 .cc (fz3 j) λac=>.br (ac !=0) (.jn (⟨nl,nl⟩:azd)) (.cc (Lzb j aa) λad=>.jC (ab<1) (.jn (⟨ad,nl⟩:azd)) (.cc (Jz6 j ad ab) λae=>let af:=(ae.length:Int);let ag:=min af 8192;let ah:=(ae.drop (X3 (0:Int))).take (ag.toNat- (0:Int).toNat);
 .conv 8004 (Dz4 2 Jzt ae (0:Int) ag)<|.grd (0<=(0:Int)/\(0:Int)<=ag/\ag<=af)<|.name 8005 ((ah.length:Int)) λai=>.loop (λs (aj:Am)=>pk s [3,6,31,32] [0,64] [(33,pz aj.2)] [(66,vO aj.1 310)]) (.exit 0) (λs (aj:Al)=>pk s [6] [64] [] [(66,vO aj 310)]) (λaj=>let ak:=ah.getD (X3 aj.2) qu;.jC (aj.2<ai) (.gh aj.2 (ah.length)<|.ix 0 2 rfl<|.name 11006 (ak.1) λal=>.ix 1 2 rfl<|.name 11008 (ak.2) λam=>.cc (Lzd j ad al am) λan=>let ao:=([an]:Al);let ap:=aj.1.length+ao.length;
 .conv 11010 (kL ao 310)<|.conv 11011 (kA aj.1 ao 310)<|.grd (ap * 160<=140737488355328/\ap<=maxLen)<|.nn ((aj.1++ao),(qt.wrap (aj.2+1)))) (.oo aj.1)) (nl,0) [] λaj=>.jn (⟨ad,aj⟩:azd)))
def Zzf (j)(aa)(ab):=
 mkC [⟨290,azgf⟩] hd func245 ju (Zzg j aa ab) 0 [q j,q aa,pz ab] [] (λr=>q r) X6 ju
def qzz (j:A5):T A5:=
 izl 39 24 j
def qzy (a0:A5):CallS A5:=
 mkH [] hd func417 ju (qzz a0) 0 [q a0] [] (λ_=>.vec 0) (λr=>[(0,vO r 39)]) (by cases a0<;>exact Ob.of_side ju)
def gza (j:Al):T Al:=
 izl 310 160 j
def gz9 (a0:Al):CallS Al:=
 mkH [] hd func452 ju (gza a0) 0 [q a0] [] (λ_=>.vec 0) (λr=>[(0,vO r 310)]) (by cases a0<;>exact Ob.of_side ju)
def kzg (j:An):T An:=
 izl 76 40 j
def kzf (a0:An):CallS An:=
 mkH [] hd func453 ju (kzg a0) 0 [q a0] [] (λ_=>.vec 0) (λr=>[(0,vO r 76)]) (by cases a0<;>exact Ob.of_side ju)
def mz9 (j:Bi):T Bi:=
 izl 89 24 j
def gz8 (a0:Bi):CallS Bi:=
 mkH [] hd func218 ju (mz9 a0) 0 [q a0] [] (λr=>q r) X6 (by cases a0<;>exact Ob.of_side ju)
def Fz7 (j:azo):T azo:=
 .cc (kzf j.XC) λaa=>.unroll 998<|.loop (λs (ab:Ao)=>pk s [1,2,10,11] [0,64,66,69,71,72] [(12,pz ab.2)] [(256,vO ab.1 76)]) (.exit 0) (λs (ab:An)=>pk s [1,2] [0,64,66,69,71,72] [] [(256,vO ab 76)]) (λab=>let ac:=(ab.2).toNat;let ad:=ab.1.getD ac qu;.jC (ab.2<(aa.length:Int)) (.gg ab.2 ab.1.length<|.cc (gz8 (ad.Xn)) λae=>let af:=(⟨ad.Xk,ad.Xu,ae⟩:az6);
 .gh ab.2 ab.1.length<|.conv 5008 (kS ab.1 76 ac af)<|.gi (ab.2) ab.1.length<|.nn ((ab.1.set ac af),(qt.wrap (ab.2+1)))) (.oo ab.1)) (aa,0) [] λab=>.cc (gz8 j.At.Xn) λac=>.cc (cz8 j.Xw.Left) λad=>.cc (cz8 j.Xw.XL) λae=>.jn (⟨j.Xo,ab,(⟨j.At.Xk,j.At.Xu,ac⟩:az6),(⟨j.Xw.XR,ad,ae⟩:bze)⟩:azo)
def iz6:=
 mkp1 func387 Fz7
def Tzk (j:azd):T (A5×Al):=
 .cc (qzy j.Xa) λaa=>.cc (gz9 j.Xb) λab=>.loop (λs (ac:Ap)=>pk s [2,3,4,15,16] [64,65,66,448] [(17,pz ac.2)] [(256,vO ac.1 39)]) (.exit 0) (λs (ac:A5)=>pk s [2,3,4] [64,65,66,448] [] [(256,vO ac 39)]) (λac=>let ad:=(ac.2).toNat;.jC (ac.2<(aa.length:Int)) (.gg ac.2 ac.1.length<|.cc (cz8 (ac.1.getD ad qu)) λae=>.gh ac.2 ac.1.length<|.conv 5005 (kS ac.1 39 ad ae)<|.gi (ac.2) ac.1.length<|.nn ((ac.1.set ad ae),(qt.wrap (ac.2+1)))) (.oo ac.1)) (aa,0) [] λac=>.loop (λs (ad:Am)=>pk s [2,3,4,28,29] [64,65,66,256] [(30,pz ad.2)] [(448,vO ad.1 310)]) (.exit 2) (λs (ad:Al)=>pk s [2,3,4] [64,65,66,256] [] [(448,vO ad 310)]) (λad=>let ae:=(ad.2).toNat;let af:=ad.1.getD ae qu;.jC (ad.2<(ab.length:Int)) (.gg ad.2 ad.1.length<|.cc (iz6 (af.XJ)) λag=>let ah:=(⟨af.U,af.V,af.Xp,af.Xx,ag⟩:az1);
 .gh ad.2 ad.1.length<|.conv 10007 (kS ad.1 310 ae ah)<|.gi (ad.2) ad.1.length<|.nn ((ad.1.set ae ah),(qt.wrap (ad.2+1)))) (.oo ad.1)) (ab,0) [] λad=>.jn (ac,ad)
def Tzj:=
 mkv1 func385 Tzk (λ_=>.agg [.vec 0,.vec 1]) (λr=>[(0,vO r.1 39),(1,vO r.2 310)])
def Vzk (j:Int):T Int:=
 .br (j==1) (.jn 1) (.br (j==2) (.jn 2) (.jn 0))
def Vzj:=
 mkp1 func386 Vzk
open Go.Proofs
def Vzi (j:azd)(aa:Int)(_:azo):T Bg:=
 .cc (Tzj (⟨j.Xa,j.Xb⟩:azd)) λac=>.cub 1 22 [1,3,5,6,7] [0,64,128,192,448,449] (.jF (aa<0) (.oo (qv (aa>=(j.Xb.length:Int))))) λad=>.br ad (.jn (ac.1,ac.2,false))
 .stop
def Vzh (j)(aa)(ab):=
 mkC [⟨384,az72⟩] hd func340 ju (Vzi j aa ab) 0 [q j,pz aa,q ab] [] (λr=>.tup [.agg [.vec 0,.vec 1],q r.2.2]) (λr=>[(0,vO r.1 39),(1,vO r.2.1 310)]) ju
def Lzo (j:azd):T (A5×Al):=
 .cc (Vzh (⟨j.Xa,j.Xb⟩:azd) (-1) (⟨0,nl,(⟨0,0,nl⟩:az6),(⟨0,nl,nl⟩:bze)⟩:azo)) λaa=>.unroll 998<|.jn (aa.1,aa.2.1)
def Lzn:=
 mkv1 func287 Lzo (λ_=>.agg [.vec 0,.vec 1]) (λr=>[(0,vO r.1 39),(1,vO r.2 310)])
def Pzz (j:azd)(aa:Int):T Bool:=
 .jC (aa>=0) (.jn (qv (aa<(j.Xa.length:Int)))) (.jn false)
def hz7:=
 mkp2 func296 Pzz
def Gzs (j:az1)(aa:B2):T Int:=
 .ix 0 2 rfl<|.cc (fza j.U aa.1) λab=>.ix 1 2 rfl<|.cc (fza j.V aa.2) λac=>let ad:=([ab,ac]:A4);
 .conv 1010 (kL ad 3)<|.cc (Czu ad) λae=>.jn ae
def jz0:=
 mkp2 func352 Gzs
def Jzb (j:azd):T Bool:=let aa:=(j.Xb.length:Int);let ab:=(⟨j.Xa,j.Xb⟩:azd);.cub 2 14 [1] [0] (.jF ((j.Xa.length:Int)>1024) (.oo (qv (aa>8192)))) λac=>.br ac (.jn false) (.loop (ik 18 [1,17] [0]) (.exit 0) (jk [] []) (λad=>let ae:=j.Xb.getD (ad.toNat) qu;let af:=qt.wrap (ad-1);.jC (ad<aa) (.gh ad j.Xb.length<|.cub 1 65 [1,3,4,17,18] [0] (.cc (hz7 ab (ae.U)) λag=>.jD (!ag) (.cc (hz7 ab (ae.V)) λah=>.jD (!ah) (.jF ((ae.U)>=(ae.V)) (.jF ((ae.Xp)<0) (.oo (qv ((ae.Xp)>1099511627776))))))) λag=>.br ag (.ff false) (.cub 0 86 [1,17,18] [0] (.jC (ad>0) (.gh af j.Xb.length<|.call (jz0 (j.Xb.getD (af.toNat) qu) (ae.U,ae.V)) [] λah=>.oo (qv (ah>=0))) (.oo false)) λah=>.br ah (.ff false) (.nn (qt.wrap (ad+1))))) (.oo .u))
 0 [] λ_=>.jn true)
def tzg:=
 mkp1 func295 Jzb
def Tzs (j:Int)(aa:Int):T Bool:=
 .br (aa==0) (.jn (j==1)) (.br (aa==1) (.br (j==1) (.jn true) (.jn (j==0))) (.br (aa==2) (.jn (j !=2)) (.jn false)))
def Tzr:=
 mkp2 func393 Tzs
def Vzm (j:azd)(aa:Int):T Ar:=let ab:=(j.Xa.length:Int);.unroll 1<|.conv 1003 (azo7 2 fzd 467 ab.toNat 469)<|.grd (0<=ab/\ab<=ab/\ab<=9223372036854775807/\ab * 24<=140737488355328)<|.loop (λs (ac:(Ar×Int))=>pk s [1,2,5,14] [0] [(15,pz ac.2)] [(320,azf5 2 fzd ac.1 467 469)]) (.exit 0) (λs (ac:Ar)=>pk s [5] [] [] [(320,azf5 2 fzd ac 467 469)]) (λac=>let ad:=j.Xb.getD (X3 ac.2) qu;let ae:=ad.U;let af:=ad.V;let ag:=ae.toNat;let ah:=af.toNat;let ai:=ac.1.getD ag qu;let aj:=([(⟨ad.V,ad.Xp⟩:azi)]:Aq);let ak:=ac.1.set ag (ai++aj);let al:=ak.getD ah qu;let am:=ai.length+aj.length;let an:=([(⟨ad.U,ad.Xp⟩:azi)]:Aq);let ao:=al.length+an.length;.jC (ac.2<(j.Xb.length:Int)) (.cut 0 (λs (ap:Ar)=>pk s [1,2,5,14,15] [0] [] [(320,azf5 2 fzd ap 467 469)]) (.gh ac.2 j.Xb.length<|.cc (Tzr (ad.Xx) aa) λap=>.br ap (.gg ae ac.1.length<|.conv 7021 (kL aj 469)<|.conv 7022 (kA ai aj 469)<|.grd (am * 16<=140737488355328/\am<=maxLen)<|.gh ae ac.1.length<|.conv 7024 (azjd 2 fzd (ai++aj) 467 ac.1 ag 469)<|.grd (ae.toNat<ac.1.length/\ae.toNat=ae.toNat)<|.gg af (ak.length)<|.conv 8021 (kL an 469)<|.conv 8022 (kA al an 469)<|.grd (ao * 16<=140737488355328/\ao<=maxLen)<|.gh af (ak.length)<|.conv 8024 (azjd 2 fzd (al++an) 467 ak ah 469)<|.grd (af.toNat<ak.length/\af.toNat=af.toNat)<|.oo (ak.set ah (al++an))) (.oo ac.1)) λap=>.nn (ap,(qt.wrap (ac.2+1)))) (.oo ac.1)) ((qs ab.toNat (nl:Aq)),0) [] λac=>.jn ac
def Vzl:=
 mkp2 func343 Vzm
def Yzz (j:azj)(aa:azj):T Bool:=
 .br (aa.points==0) (.jn true) (.jC (j.cost<aa.cost) (.jn true) (.br (j.cost==aa.cost) (.jn (qv (j.points<aa.points))) (.jn false)))
def Kzq:=
 mkp2 func389 Yzz
def az5c (j:As):T (azq×As):=let aa:=qt.wrap ((j.length:Int)-1);let ab:=j.getD (aa.toNat) qu;let ac:=j.set (X3 (0:Int)) ab;.gg (0:Int) j.length<|.gg aa j.length<|.gh (0:Int) j.length<|.conv 3006 (kS j 463 (X3 (0:Int)) ab)<|.gi (0:Int) j.length<|.conv 4002 (az0y 3 Bzz ac 463 aa)<|.grd (0<=aa/\aa<=(ac.length:Int)/\0<=aa.toNat)<|.loop (λs (ad:(As×Int))=>pk s [0,2,3,4,5] [0,1,2,706] [(6,pz ad.2)] [(1474,vO ad.1 463)]) (.exit 0) (λs (ad:As)=>pk s [0,2,3,4] [0,1,2,706] [] [(1474,vO ad 463)]) (λad=>let ae:=qt.wrap ((qt.wrap (2 * ad.2))+1);let af:=qt.wrap (ae+1);.jC (ae<aa) (.cut 1 (λs (ag:Int)=>pk s [0,2,3,4,5,6] [0,1,2,706,1474] [(7,pz ag)] []) (.cub 0 51 [0,2,3,4,5,6,7] [0,1,2,706,1474] (.jC (af<aa) .stop (.oo false)) λag=>.br ag (.oo af) (.oo ae)) λ_=>.stop) (.oo ad.1)) ((ac.take (aa.toNat)),0) [] λad=>.jn ((j.getD (X3 (0:Int)) qu),ad)
def az5b (j):=
 mkD func388 (az5c j) 2 [X7 0] [(0,.box [.vec 1]),(1,vO j 463)] (λr=>q r.1) (λr=>[(0,.box [.vec 2]),(1,.gone),(2,vO r.2 463)])
def az2n (j:As)(aa:azq):T As:=let ab:=([aa]:As);let ac:=j.length+ab.length;.conv 1004 (kL ab 463)<|.conv 1005 (kA j ab 463)<|.grd (ac * 24<=140737488355328/\ac<=maxLen)<|.loop (λs (ad:(As×Int))=>pk s [0,4] [0,1] [(5,pz ad.2)] [(386,vO ad.1 463)]) (.exit 0) (λs (ad:As)=>pk s [0,4] [0,1] [] [(386,vO ad 463)]) (λad=>.jC (ad.2>0) (.ok ((2:Int)≠0) jp<|.name 4002 ((qt.wrap ((qt.wrap (ad.2-1)).tdiv 2))) λae=>.gg ad.2 ad.1.length<|.gg ae ad.1.length<|.cc (Kzq ((ad.1.getD (X3 ad.2) qu).rank) ((ad.1.getD (ae.toNat) qu).rank)) λaf=>.br (!af) (.oo ad.1)
 .stop) (.oo ad.1)) ((j++ab),(qt.wrap ((((j++ab).length:Nat):Int)-1))) [] λad=>.jn ad
def az2m (j)(aa):=
 mkD func390 (az2n j aa) 2 [X7 0,q aa] [(0,.box [.vec 1]),(1,vO j 463)] (λ_=>.tup []) (λr=>[(0,.box [.vec 2]),(1,.gone),(2,vO r 463)])
def Jza (j:azi)(aa:Au)(ab:Int):T (Bool×Au×Int):=let ac:=aa.getD (X3 j.to) qu;let ad:=aa.getD (ab.toNat) qu;.gg j.to aa.length<|.gg ab aa.length<|.br ((ac.points)==(qt.wrap ((ad.points)-1))) (.gg ab aa.length<|.jn (((qt.wrap ((ac.cost)+j.cost))==(ad.cost)),aa,ab)) (.jn (false,aa,ab))
def Jz9 (j)(aa)(ab):=
 mkD func392 (Jza j aa ab) 3 [q j,X7 0,X7 2] [(0,.box [.vec 1]),(1,vO aa 461),(2,.box [pz ab])] (λr=>q r.1) (λr=>[(0,.box [.vec 1]),(1,vO r.2.1 461),(2,.box [pz r.2.2])])
def hz9 (j:Aq)(aa:Au)(ab:Int):T (Int×Au×Int):=
 .loop (λs (ac:(Au×Int×Int))=>pk s [0,1,7] [0] [(8,pz ac.2.2)] [(1,vO ac.1 461),(2,.box [pz ac.2.1])]) (.exit 0) (λs (ac:(Au×Int))=>pk s [] [0] [] [(1,vO ac.1 461),(2,.box [pz ac.2])]) (λac=>.jC (ac.2.2<(j.length:Int)) (.gh ac.2.2 j.length<|.call (Jz9 (j.getD (X3 ac.2.2) qu) ac.1 ac.2.1) [(0,0),(1,1),(2,2)] λad=>.br ad.1 (.ff (ac.2.2,ad.2.1,ad.2.2)) (.nn (ad.2.1,ad.2.2,(qt.wrap (ac.2.2+1))))) (.oo (ac.1,ac.2.1))) (aa,ab,0) [] λ_=>.stop
def hz8 (j)(aa)(ab):=
 mkD func391 (hz9 j aa ab) 3 [q j,.func 392 [] [X7 0,X7 2]] [(0,.box [.vec 1]),(1,vO aa 461),(2,.box [pz ab])] (λr=>pz r.1) (λr=>[(0,.box [.vec 1]),(1,vO r.2.1 461),(2,.box [pz r.2.2])])
def Nzo (j:Ar)(aa:Int)(ab:Int):T (A4×Int×Bool):=let ac:=ab.toNat;let ad:=(j.length:Int);let ae:=([aa]:A4);let af:=qs ad.toNat ((⟨0,0⟩:azj):azj);let ag:=af.set ac (⟨0,1⟩:azj);let ah:=([(⟨(ag.getD ac qu),ab⟩:azq)]:As);.conv 1002 (Dz3 2 Dz7 461 ad.toNat (⟨0,0⟩:azj))<|.grd (0<=ad/\ad<=ad/\ad<=9223372036854775807/\ad * 16<=140737488355328)<|.gh ab (af.length)<|.conv 2004 (kS af 461 ac (⟨0,1⟩:azj))<|.gi (ab) (af.length)<|.gg ab (ag.length)<|.conv 3006 (kL ah 463)<|.loop (λs (ai:(Au×As))=>pk s [0,1,2,6,8,9] [0,1,320,1216] [] [(256,vO ai.1 461),(1152,vO ai.2 463)]) (.exit 0) (λs (ai:Au)=>pk s [0,1,2,6,8] [0,1,320] [] [(256,vO ai 461)]) (λai=>.name 4001 ((ai.2.length:Int)) λaj=>.jC (aj>0) (.call (az5b ai.2) [(0,1216),(1,1152)] λak=>let al:=(ak.1.point).toNat;let am:=j.getD al qu;let an:=ai.1.getD al qu;
 .br (ak.1.point==aa) (.oo ai.1) (.gg ak.1.point ai.1.length<|.br (!((ak.1.rank.cost==(an.cost))&&((ak.1.rank.points==(an.points))&&true))) (.nn (ai.1,ak.2)) (.gh ak.1.point j.length<|.loop (λs (ao:(Au×As×Int))=>pk s [0,1,2,6,8,9,10,53,54] [0,1,320,1216,1664] [(55,pz ao.2.2)] [(256,vO ao.1 461),(1600,vO ao.2.1 463)]) (.exit 3) (λs (ao:(Au×As))=>pk s [0,1,2,6,8,9] [0,1,320,1216] [] [(256,vO ao.1 461),(1600,vO ao.2 463)]) (λao=>let ap:=am.getD (X3 ao.2.2) qu;let aq:=ap.to;let ar:=aq.toNat;.jC (ao.2.2<(am.length:Int)) (.cut 0 (λs (au:(Au×As))=>pk s [0,1,2,6,8,9,10,53,54,55] [0,1,320,1664] [] [(256,vO au.1 461),(1216,.box [.vec 3264]),(3264,vO au.2 463)]) (.gh ao.2.2 (am.length)<|.name 11005 ((qt.wrap (ak.1.rank.cost+(ap.cost)))) λau=>let av:=(⟨au,(qt.wrap (ak.1.rank.points+1))⟩:azj);
 .gg aq ao.1.length<|.call (Kzq av (ao.1.getD ar qu)) [] λaw=>.br aw (.gh aq ao.1.length<|.conv 13005 (kS ao.1 461 ar av)<|.gi aq ao.1.length<|.call (az2m ao.2.1 (⟨av,ap.to⟩:azq)) [(0,1216),(1,1600)] λax=>.oo ((ao.1.set ar av),ax)) (.oo (ao.1,ao.2.1))) λau=>.nn (au.1,au.2,(qt.wrap (ao.2.2+1)))) (.oo (ao.1,ao.2.1))) (ai.1,ak.2,0) [] λao=>.nn (ao.1,ao.2)))) (.oo ai.1)) (ag,ah) [] λai=>let aj:=ai.getD (aa.toNat) qu;
 .gg aa ai.length<|.br ((aj.points)==0) (.jn (nl,0,false)) (.conv 18001 (kL ae 3)<|.gg aa ai.length<|.loop (λs (ak:(Au×A4×Int))=>pk s [0,2,6,8,14,15] [0,1,320,2304] [] [(256,vO ak.1 461),(1856,vO ak.2.1 3),(2496,.box [pz ak.2.2])]) (.exit 5) (λs (ak:A4)=>pk s [6,14] [0,1,2304] [] [(1856,vO ak 3)]) (λak=>.br (ak.2.2 !=ab) (.gh ak.2.2 j.length<|.call (hz8 (j.getD (X3 ak.2.2) qu) ak.1 ak.2.2) [(0,320),(1,256),(2,2496)] λal=>let am:=j.getD (X3 al.2.2) qu;let an:=am.getD (X3 al.1) qu;let ao:=([an.to]:A4);let ap:=ak.2.1.length+ao.length;
 .gh al.2.2 j.length<|.gh al.1 (am.length)<|.conv 23003 (kL ao 3)<|.conv 23004 (kA ak.2.1 ao 3)<|.grd (ap * 8<=140737488355328/\ap<=maxLen)<|.nn (al.2.1,(ak.2.1++ao),an.to)) (.oo ak.2.1)) (ai,ae,aa) [] λak=>.jn (ak,aj.cost,true))
def Nzn:=
 mkv3 func342 Nzo (λr=>.tup [.agg [.vec 0,pz r.2.1],q r.2.2]) (λr=>[(0,vO r.1 3)])
def dzx (j:Al)(aa:B2):T Bc:=let ab:=(j.length:Int);.loop (λs (ac:B2)=>pk s [0,2,4,8] [0] [(9,pz ac.1),(10,pz ac.2)] []) (.exit 0) (ik 9 [0,2,4,8] [0]) (λac=>.jC (ac.1<ac.2) (.ok (0<=(1:Int)) jp<|.name 4005 ((qt.wrap ((IntKind.u64.wrap (qt.wrap (ac.1+ac.2))).fdiv (2 ^ (min (1:Int).toNat 64))))) λad=>.gh ad j.length<|.cc (jz0 (j.getD (ad.toNat) qu) aa) λae=>.jC (ae<0) (.nn ((qt.wrap (ad+1)),ac.2)) (.nn (ac.1,ad))) (.oo ac.1)) (0,ab) [] λac=>.jC (ac<ab) (.gh ac j.length<|.cc (jz0 (j.getD (ac.toNat) qu) aa) λad=>.jn (ac,(ad==0))) (.jn (ac,false))
def dzw (j)(aa):=
 mkD func357 (dzx j aa) 0 [q j,q aa,.func 352 [] []] [] (λr=>.tup [pz r.1,q r.2]) X6
def Pzy (j:azd)(aa:Int)(ab:Int):T Bc:=
 .cc (dzw j.Xb ((min aa ab),(max aa ab))) λac=>.jn (ac.1,ac.2)
def Czc:=
 mkq3 func299 Pzy (λr=>.tup [pz r.1,q r.2])
def Zzr (j:azd)(aa:Int)(ab:Int):T Bw:=let ac:=(⟨j.Xa,j.Xb⟩:azd);.cub 3 29 [1,2,3,6,7,8] [0,64,128,129,192] (.cc (tzg ac) λad=>.jD (!ad) (.cc (hz7 ac aa) λae=>.jD (!ae) (.cc (hz7 ac ab) λaf=>.oo (!af)))) λad=>.br ad (.jn ((-1),nl,0,0)) (.cc (Vzl ac 1) λae=>.cc (Nzn ae aa ab) λaf=>let ag:=(af.1.length:Int);let ah:=ag.toNat- (1:Int).toNat;
 .br (!af.2.2) (.jn ((-1),nl,0,2)) (.unroll 2<|.grd (0<=(1:Int)/\(1:Int)<=ag/\ag<=ag)<|.loop (ik 46 [3,6,7,8,44,45] [0,64,128,192,704]) (.exit 0) (jk [6,7,8] [64,128,192,704]) (λai=>let aj:=(X3 (1:Int))+(ai.toNat);.jC (ai<(ah:Int)) (.gh ai ah<|.grd (aj<af.1.length)<|.gg ai af.1.length<|.cc (Czc ac (af.1.getD (ai.toNat) qu) (af.1.getD aj qu)) λak=>.gh ak.1 j.Xb.length<|.br (((j.Xb.getD (X3 ak.1) qu).Xx)==0) (.ff (ak.1,af.1,af.2.1,3)) (.nn (qt.wrap (ai+1)))) (.oo .u))
 0 [] λ_=>.jn ((-1),af.1,af.2.1,1)))
def Zzq (j)(aa)(ab):=
 mkC [⟨341,azgm⟩] hd func288 ju (Zzr j aa ab) 0 [q j,pz aa,pz ab] [] (λr=>.tup [pz r.1,.agg [.vec 0,pz r.2.2.1],pz r.2.2.2]) (λr=>[(0,vO r.2.1 3)]) ju
def Tzq (a0:A5)(a1:Al)(a2:Int)(a3:Int):CallS Bw:=
 azq5 (Zzq (⟨a0,a1⟩:azd) a2 a3) 288 2 [.agg [.vec 0,.vec 1],pz a2,pz a3] [(0,vO a0 39),(1,vO a1 310)] rfl rfl rfl rfl ju rfl (λ_=>rfl) (λ_=>⟨λ_=>rfl,trivial⟩)
def rz1 (j:A5):T A5:=
 izl 39 24 j
def rz0 (a0:A5):CallS A5:=
 mkH [] hd func417 ju (rz1 a0) 1 [.vec 0] [(0,vO a0 39)] (λ_=>.vec 1) (λr=>[(0,vO a0 39),(1,vO r 39)]) (by cases a0<;>exact Ob.of_side ju)
def fzx (j:Al)(aa:Nat)(ab:Nat):T Al:=let ac:=([]:Al).length+ab;.grd (0<j.length)<|.conv 3000 (kL ([]:Al) 310)<|.conv 3002 (azl8 12 gzf j ([]:Al) 310 ab aa 160)<|.grd (ac * 160<=140737488355328/\ac<=maxLen/\aa+ab<=j.length)<|.jn (([]:Al)++((j.drop aa).take ab))
def fzw (j)(aa)(ab):=
 mkD func452 (fzx j aa ab) 1 [.view 0 12 aa ab] [(0,vO j 310)] (λ_=>.vec 1) (λr=>[(0,vO j 310),(1,vO r 310)])
def Nzh (j:A5)(aa:Al)(ab:Nat)(ac:Nat):T (A5×Al):=
 .call (rz0 j) [(0,0)] λad=>.call (fzw aa ab ac) [(0,1)] λae=>.loop (λs (af:Ap)=>pk s [2,3,4,15,16] [0,1,66,67,68,450] [(17,pz af.2)] [(258,vO af.1 39)]) (.exit 0) (λs (af:A5)=>pk s [2,3,4] [0,1,66,67,68,450] [] [(258,vO af 39)]) (λaf=>let ag:=(af.2).toNat;.jC (af.2<(ad.length:Int)) (.gg af.2 af.1.length<|.cc (cz8 (af.1.getD ag qu)) λah=>.gh af.2 af.1.length<|.conv 5005 (kS af.1 39 ag ah)<|.gi (af.2) af.1.length<|.nn ((af.1.set ag ah),(qt.wrap (af.2+1)))) (.oo af.1)) (ad,0) [] λaf=>.loop (λs (ag:Am)=>pk s [2,3,4,28,29] [0,1,66,67,68,258] [(30,pz ag.2)] [(450,vO ag.1 310)]) (.exit 2) (λs (ag:Al)=>pk s [2,3,4] [0,1,66,67,68,258] [] [(450,vO ag 310)]) (λag=>let ah:=(ag.2).toNat;let ai:=ag.1.getD ah qu;.jC (ag.2<(ae.length:Int)) (.gg ag.2 ag.1.length<|.cc (iz6 (ai.XJ)) λaj=>let ak:=(⟨ai.U,ai.V,ai.Xp,ai.Xx,aj⟩:az1);
 .gh ag.2 ag.1.length<|.conv 10007 (kS ag.1 310 ah ak)<|.gi (ag.2) ag.1.length<|.nn ((ag.1.set ah ak),(qt.wrap (ag.2+1)))) (.oo ag.1)) (ae,0) [] λag=>.jn (af,ag)
def Nzg (j)(aa)(ab)(ac):=
 mkD func385 (Nzh j aa ab ac) 2 [.agg [.vec 0,.view 1 12 ab ac]] [(0,vO j 39),(1,vO aa 310)] (λ_=>.agg [.vec 2,.vec 3]) (λr=>[(0,vO j 39),(1,vO aa 310),(2,vO r.1 39),(3,vO r.2 310)])
def Pzw (j:A5)(aa:Al)(ab:Nat)(ac:Nat)(ad:Int)(ae:azo):T Bg:=let af:=ad.toNat;let ag:=aa.getD (ab+af) qu;.call (Nzg j aa ab ac) [(0,0),(1,1)] λah=>let ai:=ah.2.getD af qu;
 .cub 1 22 [1,3,5,6,7] [0,1,2,66,130,194,450,451] (.jF (ad<0) (.oo (qv (ad>=(ac:Int))))) λaj=>.br aj (.jn (ah.1,ah.2,false)) (.gh ad ac<|.grd ((ab+af)<aa.length)<|.cub 0 35 [1,5,6,7] [0,1,66,130,194,450,451] (.jD ((ag.Xx)==1) (.oo ((ag.Xx)==2))) λak=>.br ak (.jn (ah.1,ah.2,false)) (.conv 8000 (kL ([1,2,3]:A4) 3)<|.loop (ik 39 [1,5,6,7,37,38] [0,1,66,130,194,450,451,1154]) (.exit 0) (jk [6,7] [0,1,130,194,450,451]) (λal=>let am:=([1,2,3]:A4).getD (al.toNat) qu;let an:=(⟨ai.U,ai.V,ai.Xp,am,ai.XJ⟩:az1);let ao:=ah.2.set af an;let ap:=ao.getD af qu;.jC (al<((([1,2,3]:A4).length:Nat):Int)) (.gg al (([1,2,3]:A4).length)<|.cc (Vzj am) λaq=>.br (aq==ae.Xo) (.gh ad ah.2.length<|.conv 12006 (kS ah.2 310 af an)<|.gi (ad) ah.2.length<|.cc (iz6 ae) λar=>let au:=(⟨ap.U,ap.V,ap.Xp,ap.Xx,ar⟩:az1);
 .gh ad (ao.length)<|.conv 13007 (kS ao 310 af au)<|.gi (ad) (ao.length)<|.ff (ah.1,(ao.set af au),true)) (.nn (qt.wrap (al+1)))) (.oo .u))
 0 [] λ_=>.stop))
def Pzv (j)(aa)(ab)(ac)(ad)(ae):=
 mkC [⟨384,az72⟩] hd func340 ju (Pzw j aa ab ac ad ae) 2 [.agg [.vec 0,.view 1 12 ab ac],pz ad,q ae] [(0,vO j 39),(1,vO aa 310)] (λr=>.tup [.agg [.vec 2,.vec 3],q r.2.2]) (λr=>[(0,vO j 39),(1,vO aa 310),(2,vO r.1 39),(3,vO r.2.1 310)]) ju
def Lzm (j:A5)(_a1:Al)(_a2:Nat)(_a3:Nat)(aa:Int):T Bool:=
 .jC (aa>=0) (.jn (qv (aa<(j.length:Int)))) (.jn false)
def vz5 (j)(aa)(ab)(ac)(ad):=
 mkD func296 (Lzm j aa ab ac ad) 2 [.agg [.vec 0,.view 1 12 ab ac],pz ad] [(0,vO j 39),(1,vO aa 310)] (λr=>q r) (λ_=>[(0,vO j 39),(1,vO aa 310)])
def mzn (j:A4)(aa:A4)(ab:Int):T Bool:=
 .br ((j.length:Int)==(aa.length:Int)) (.cc (hzd j) λac=>.br ac (.cc (hzd aa) λad=>.br ad (.jC (0<=ab) (.jn (qv (ab<=20))) (.jn false)) (.jn false)) (.jn false)) (.jn false)
def xzu:=
 mkp3 func315 mzn
def zz4 (j:Int)(aa:Int):T Int:=
 .grd (0<=aa)<|.jn (j.fdiv (2 ^ (min aa.toNat 64)))
def zz3:=
 mkp2 func318 zz4
def pz0 (j:Int)(aa:Int)(ab:Int)(ac:Int):T (az0×Int×Int):=let ad:=qt.wrap (aa-j);let ae:=qt.wrap (ab * ad);let af:=qt.wrap ((qt.wrap (ab+1)) * ad);.name 2003 ((min ae af)) λag=>.cc (zz3 ag ac) λah=>.name 2010 ((max ae af)) λai=>.cc (zz3 (qt.wrap (0-ai)) ac) λaj=>.jn ((⟨(qt.wrap (j+ah)),(qt.wrap (j-aj))⟩:az0),ab,ac)
def Bzw (j)(aa)(ab)(ac):=
 mkD func317 (pz0 j aa ab ac) 2 [pz j,pz aa,X7 0,X7 1] [(0,.box [pz ab]),(1,.box [pz ac])] (λr=>q r.1) (λr=>[(0,.box [pz r.2.1]),(1,.box [pz r.2.2])])
def czq (j:A4)(aa:A4)(ab:Int)(ac:Int):T (Ae×Int×Int):=let ad:=(j.length:Int);.conv 1002 (Dz3 2 uza 95 ad.toNat (⟨0,0⟩:az0))<|.grd (0<=ad/\ad<=ad/\ad<=9223372036854775807/\ad * 16<=140737488355328)<|.loop (λs (ae:(Int×Int×Ae×Int))=>pk s [1,2,7,13,14] [] [(15,pz ae.2.2.2)] [(0,.box [pz ae.1]),(1,.box [pz ae.2.1]),(194,vO ae.2.2.1 95)]) (.exit 0) (λs (ae:(Int×Int×Ae))=>pk s [7] [] [] [(0,.box [pz ae.1]),(1,.box [pz ae.2.1]),(194,vO ae.2.2 95)]) (λae=>let af:=(ae.2.2.2).toNat;.jC (ae.2.2.2<ad) (.gh ae.2.2.2 j.length<|.gh ae.2.2.2 aa.length<|.call (Bzw (j.getD af qu) (aa.getD af qu) ae.1 ae.2.1) [(0,0),(1,1)] λag=>.gh ae.2.2.2 ae.2.2.1.length<|.conv 5010 (kS ae.2.2.1 95 af ag.1)<|.gi (ae.2.2.2) ae.2.2.1.length<|.nn (ag.2.1,ag.2.2,(ae.2.2.1.set af ag.1),(qt.wrap (ae.2.2.2+1)))) (.oo (ae.1,ae.2.1,ae.2.2.1))) (ab,ac,(qs ad.toNat ((⟨0,0⟩:az0):az0)),0) [] λae=>.jn (ae.2.2,ae.1,ae.2.1)
def ez7 (j)(aa)(ab)(ac):=
 mkD func316 (czq j aa ab ac) 2 [q j,q aa,.func 317 [] [X7 0,X7 1]] [(0,.box [pz ab]),(1,.box [pz ac])] (λr=>q r.1) (λr=>[(0,.box [pz r.2.1]),(1,.box [pz r.2.2])])
def vzh (j:A4)(aa:A4)(ab:Int)(ac:Int):T (Ae×Bool):=
 .cub 2 24 [0,1,6,7] [0,64] (.cc (xzu j aa ab) λad=>.jD (!ad) (.jF (ac<0) (.grd (0<=ab)<|.oo (qv (ac>=(qt.wrap (1 * 2 ^ (min ab.toNat 64)))))))) λad=>.br ad (.jn (nl,false)) (.call (ez7 j aa ac ab) [(0,64),(1,0)] λae=>.jn (ae.1,true))
def vzg:=
 mkq4 func269 vzh (λr=>.tup [q r.1,q r.2])
abbrev vzk:=RecS prog 395 8 (Int×Int×Bi×An×Int×An×Int×Int×Bi×Int×A4×A4×A4×A4×A0×A8×A2×Ad×Int) Cd (λa=>[pz a.1,pz a.2.1,q a.2.2.1,X7 0,X7 2,X7 3,X7 4,X7 5,X7 6,X7 7]) (λa=>[(0,.box [.vec 1]),(1,vO a.2.2.2.1 76),(2,.box [pz a.2.2.2.2.1,q a.2.2.2.2.2.1,pz a.2.2.2.2.2.2.1,pz a.2.2.2.2.2.2.2.1,q a.2.2.2.2.2.2.2.2.1,pz a.2.2.2.2.2.2.2.2.2.1,q a.2.2.2.2.2.2.2.2.2.2.1,q a.2.2.2.2.2.2.2.2.2.2.2.1]),(3,.box [q a.2.2.2.2.2.2.2.2.2.2.2.2.1]),(4,.box [q a.2.2.2.2.2.2.2.2.2.2.2.2.2.1]),(5,.box [q a.2.2.2.2.2.2.2.2.2.2.2.2.2.2.1,q a.2.2.2.2.2.2.2.2.2.2.2.2.2.2.2.1,q a.2.2.2.2.2.2.2.2.2.2.2.2.2.2.2.2.1,q a.2.2.2.2.2.2.2.2.2.2.2.2.2.2.2.2.2.1]),(6,.box [pz a.2.2.2.2.2.2.2.2.2.2.2.2.2.2.2.2.2.2]),(7,.box [.func 395 [] [X7 0,X7 2,X7 3,X7 4,X7 5,X7 6,X7 7]])]) (λ_ r=>q r.1) (λ_ r=>[(0,.box [.vec 8]),(1,.gone),(2,.box [pz r.2.2.1,q r.2.2.2.1,pz r.2.2.2.2.1,pz r.2.2.2.2.2.1,q r.2.2.2.2.2.2.1,pz r.2.2.2.2.2.2.2.1,q r.2.2.2.2.2.2.2.2.1,q r.2.2.2.2.2.2.2.2.2.1]),(3,.box [q r.2.2.2.2.2.2.2.2.2.2.1]),(4,.box [q r.2.2.2.2.2.2.2.2.2.2.2.1]),(5,.box [q r.2.2.2.2.2.2.2.2.2.2.2.2.1,q r.2.2.2.2.2.2.2.2.2.2.2.2.2.1,q r.2.2.2.2.2.2.2.2.2.2.2.2.2.2.1,q r.2.2.2.2.2.2.2.2.2.2.2.2.2.2.2.1]),(6,.box [pz r.2.2.2.2.2.2.2.2.2.2.2.2.2.2.2.2]),(7,.box [.func 395 [] [X7 0,X7 2,X7 3,X7 4,X7 5,X7 6,X7 7]]),(8,vO r.2.1 76)])
def Uzl (_:vzk)(j:Int)(aa:Int)(ab:Bi)(ac:An)(ad:Int)(ae:An)(af:Int)(ag:Int)(ah:Bi)(ai:Int)(aj:A4)(ak:A4)(al:A4)(am:A4)(an:A0)(ao:A8)(ap:A2)(aq:Ad)(ar:Int):T Cd:=
 .jC ((ac.length:Int)>=4096) (.jn (false,ac,0,nl,j,aa,nl,0,nl,nl,al,am,an,ao,ap,aq,ar)) (.cc (vzg al am j aa) λau=>.cc (Gzw (⟨(⟨an,ao⟩:azl),ap,aq⟩:az7) au.1 ab) λav=>let aw:=([(⟨j,aa,av.Xn⟩:az6)]:An);let ax:=ac.length+aw.length;
 .br (av.Xo==1) (.conv 8006 (kL aw 76)<|.conv 8007 (kA ac aw 76)<|.grd (ax * 40<=140737488355328/\ax<=maxLen)<|.jn (true,(ac++aw),ad,ae,af,ag,ah,ai,aj,ak,al,am,an,ao,ap,aq,ar)) (.br (av.Xo==2) (.jn (false,ac,2,nl,j,aa,nl,av.Xw.XR,av.Xw.Left,av.Xw.XL,al,am,an,ao,ap,aq,ar)) (.jC (j<ar) .stop (.jn (false,ac,0,nl,j,aa,nl,0,nl,nl,al,am,an,ao,ap,aq,ar)))))
def Uzk:vzk->vzk:=RecS.next [] hd func395 ju (λrec a=>Uzl rec a.1 a.2.1 a.2.2.1 a.2.2.2.1 a.2.2.2.2.1 a.2.2.2.2.2.1 a.2.2.2.2.2.2.1 a.2.2.2.2.2.2.2.1 a.2.2.2.2.2.2.2.2.1 a.2.2.2.2.2.2.2.2.2.1 a.2.2.2.2.2.2.2.2.2.2.1 a.2.2.2.2.2.2.2.2.2.2.2.1 a.2.2.2.2.2.2.2.2.2.2.2.2.1 a.2.2.2.2.2.2.2.2.2.2.2.2.2.1 a.2.2.2.2.2.2.2.2.2.2.2.2.2.2.1 a.2.2.2.2.2.2.2.2.2.2.2.2.2.2.2.1 a.2.2.2.2.2.2.2.2.2.2.2.2.2.2.2.2.1 a.2.2.2.2.2.2.2.2.2.2.2.2.2.2.2.2.2.1 a.2.2.2.2.2.2.2.2.2.2.2.2.2.2.2.2.2.2) (λrec a=>ju)
def Uzj (a0:Int)(a1:Int)(a2:Bi)(a3:An)(a4:Int)(a5:An)(a6:Int)(a7:Int)(a8:Bi)(a9:Int)(a10:A4)(a11:A4)(a12:A4)(a13:A4)(a14:A0)(a15:A8)(a16:A2)(a17:Ad)(a18:Int):CallS Cd:=(RecS.fix Uzk NN).C (a0,a1,a2,a3,a4,a5,a6,a7,a8,a9,a10,a11,a12,a13,a14,a15,a16,a17,a18)
def az12 (j:az7)(aa:A4)(ab:A4)(ac:Int):T azo:=
 .unroll 1000<|.cub 2 28 [4,5,6,7,8] [0,64,128,192,256] (.cc (ezd j) λad=>.jD (ad !=0) (.cc (bzr j.Xg aa) λae=>.jD (!ae) (.cc (bzr j.Xg ab) λaf=>.oo (!af)))) λad=>.br ad (.jn (⟨0,nl,(⟨0,0,nl⟩:az6),(⟨0,nl,nl⟩:bze)⟩:azo)) (.cub 1 35 [4,5,6,7,8] [0,64,128,192,256] (.jF (ac<0) (.oo (qv (ac>20)))) λae=>.br ae (.jn (⟨0,nl,(⟨0,0,nl⟩:az6),(⟨0,nl,nl⟩:bze)⟩:azo)) (.cut 3 (λs (af:(Int×An×Int×Int×Bi×Int×A4×A4))=>pk s [8] [] [] [(256,.box [pz af.1,q af.2.1,pz af.2.2.1,pz af.2.2.2.1,q af.2.2.2.2.1,pz af.2.2.2.2.2.1,q af.2.2.2.2.2.2.1,q af.2.2.2.2.2.2.2])]) (.call (Uzj 0 0 nl nl 0 nl 0 0 nl 0 nl nl aa ab j.Xg.Xc j.Xg.Xv j.Xe j.Xs ac) [(0,576),(1,577),(2,256),(3,64),(4,128),(5,0),(6,192),(7,640)] λaf=>.br af.1 (.oo (1,af.2.1,0,0,nl,0,nl,nl)) (.oo (af.2.2.1,af.2.2.2.1,af.2.2.2.2.1,af.2.2.2.2.2.1,af.2.2.2.2.2.2.1,af.2.2.2.2.2.2.2.1,af.2.2.2.2.2.2.2.2.1,af.2.2.2.2.2.2.2.2.2.1))) λaf=>.jn (⟨af.1,af.2.1,(⟨af.2.2.1,af.2.2.2.1,af.2.2.2.2.1⟩:az6),(⟨af.2.2.2.2.2.1,af.2.2.2.2.2.2.1,af.2.2.2.2.2.2.2⟩:bze)⟩:azo)))
def az11 (j)(aa)(ab)(ac):=
 mkC [⟨394,azgp⟩] hd func345 ju (az12 j aa ab ac) 0 [q j,q aa,q ab,pz ac] [] (λr=>q r) X6 ju
def Zzv (j:az7)(aa:A5)(ab:Al)(ac:Nat)(ad:Nat)(ae:Int)(af:Int):T Bg:=let ag:=ac+(ae.toNat);let ah:=ab.getD ag qu;.cub 3 20 [2,3,4,5,8,9] [0,1,2,66,130,131,132,194] (.jF (ae<0) (.oo (qv (ae>=(ad:Int))))) λai=>.br ai
 .stop (.gh ae ad<|.grd (ag<ab.length)<|.cub 1 49 [2,3,4,5,8,9,10] [0,1,2,66,130,131,132,194,770] (.call (vz5 aa ab ac ad (ah.U)) [(0,0),(1,1)] λaj=>.jD (!aj) (.call (vz5 aa ab ac ad (ah.V)) [(0,0),(1,1)] λak=>.jD (!ak) (.jD ((ah.Xx)==1) (.oo ((ah.Xx)==2))))) λaj=>.br aj
 .stop (.gg (ah.U) aa.length<|.gg (ah.V) aa.length<|.call (az11 (⟨j.Xg,j.Xe,j.Xs⟩:az7) (aa.getD (X3 ah.U) qu) (aa.getD (X3 ah.V) qu) af) [] λak=>.call (Pzv aa ab ac ad ae ak) [(0,0),(1,1)] λal=>.jn (al.1,al.2.1,al.2.2)))
def Zzu (j)(aa)(ab)(ac)(ad)(ae)(af):=
 mkC [⟨344,azgn⟩] hd func289 ju (Zzv j aa ab ac ad ae af) 2 [q j,.agg [.vec 0,.view 1 12 ac ad],pz ae,pz af] [(0,vO aa 39),(1,vO ab 310)] (λr=>.tup [.agg [.vec 2,.vec 3],q r.2.2]) (λr=>[(0,vO aa 39),(1,vO ab 310),(2,vO r.1 39),(3,vO r.2.1 310)]) ju
def Zzp (j:az7)(aa:azd)(ab:Int)(ac:Int)(ad:Int)(ae:Int):T Bz:=let af:=(⟨j.Xg,j.Xe,j.Xs⟩:az7);.cc (Lzn (⟨aa.Xa,aa.Xb⟩:azd)) λag=>.cc (ezd af) λah=>.br (ah !=0) (.jn ((⟨ag.1,ag.2⟩:azd),(⟨nl,0⟩:dz2),0,0)) (.loop (λs (ai:Am)=>pk s [2,3,4,5,6,12,13,14,15] [0,128,192,193,256,576] [] [(320,.box [pz ai.2]),(577,vO ai.1 310)])
 .ret (λ_ (_:U0)=>⟨[],[],[],0⟩) (λai=>let aj:=(⟨ag.1,ai.1⟩:azd);.call (Tzq ag.1 ai.1 ab ac) [(0,576),(1,577)] λak=>let al:=(ak.1).toNat;let am:=qt.wrap (ak.1+1);let an:=(⟨ak.2.1,ak.2.2.1⟩:dz2);
 .br (ak.2.2.2 !=3) (.ff (aj,an,ak.2.2.2,ai.2)) (.jC (ai.2>=ae) (.ff (aj,an,4,ai.2)) (.unroll 2<|.grd (0<=ak.1/\ak.1<=am/\am<=(ai.1.length:Int))<|.cut 0 (λs (ao:Al)=>pk s [2,3,4,5,6,12,13,14,15] [0,128,192,193,256,320,576] [] [(577,vO ao 310)]) (.call (Zzu af ag.1 ai.1 al (am.toNat- (ak.1).toNat) 0 ad) [(0,576),(1,577)] λao=>let ap:=ao.2.1.getD (X3 (0:Int)) qu;
 .br ao.2.2 (.gg (0:Int) ao.2.1.length<|.gh ak.1 ai.1.length<|.conv 13008 (kS ai.1 310 al ap)<|.gi (ak.1) ai.1.length<|.oo (ai.1.set al ap)) (.oo ai.1)) λao=>.nn (ao,(qt.wrap (ai.2+1)))))) (ag.2,0) [] λ_=>.stop)
def Zzo (j)(aa)(ab)(ac)(ad)(ae):=
 mkC [⟨286,azge⟩] hd func244 ju (Zzp j aa ab ac ad ae) 0 [q j,q aa,pz ab,pz ac,pz ad,pz ae] [] (λr=>.tup [q r.1,q r.2.1,pz r.2.2.1,pz r.2.2.2]) X6 ju
def lz7 (j:az7)(aa:A5):T B2:=let ab:=(aa.length:Int);.cc (ezd j) λac=>.br (ac !=0) (.jn (0,904)) (.cub 1 18 [1,2] [0] (.jF (ab<2) (.oo (qv (ab>256)))) λad=>.br ad (.jn (0,2201)) (.loop (ik 21 [2,19,20] [0]) (.exit 0) (jk [] []) (λae=>.jC (ae<ab) (.gh ae aa.length<|.cc (bzr j.Xg (aa.getD (ae.toNat) qu)) λaf=>.br (!af) (.ff (ae,1201)) (.nn (qt.wrap (ae+1)))) (.oo .u))
 0 [] λ_=>.jn (0,0)))
def uzo:=
 mkq2 func158 lz7 (λr=>.tup [pz r.1,pz r.2])
def xz8 (j:bzq):T B2:=
 .cc (ezd j.scene) λaa=>.br (aa !=0) (.jn (0,904)) (.jn (0,0))
def Hzo:=
 mkq1 func221 xz8 (λr=>.tup [pz r.1,pz r.2])
def tz7 (j:bzq):T B2:=
 .cub 2 19 [] [] (.cc (bzr j.scene.Xg j.p) λaa=>.jD (!aa) (.cc (bzr j.scene.Xg j.q) λab=>.oo (!ab))) λaa=>.br aa (.jn (0,1201)) (.jn (0,0))
def Fz5:=
 mkq1 func222 tz7 (λr=>.tup [pz r.1,pz r.2])
def tz8 (j:bzq):T B2:=let aa:=(j.pieces.length:Int);.loop (λs (ab:B2)=>pk s [1,9,10] [0] [(4,pz ab.1),(11,pz ab.2)] []) (.exit 0) (ik 4 [1] [0]) (λab=>let ac:=j.pieces.getD (X3 ab.2) qu;let ad:=ac.Xk;let ae:=ac.Xu;let af:=min ad.toNat 64;let ag:=(1048576:Int).fdiv (2 ^ af);.jC (ab.2<aa) (.gh ab.2 j.pieces.length<|.cub 1 27 [1,4,5,6,9,10,11] [0,832] (.jD (ab.2==4096) (.jF (ad<0) (.oo (qv (ad>20))))) λah=>.br ah (.ff (ab.2,2001)) (.cub 1 39 [1,4,5,6,9,10,11] [0,832] (.jF (ae<0) (.grd (0<=ad)<|.oo (qv (ae>=(qt.wrap (1 * 2 ^ af)))))) λai=>.br ai (.ff (ab.2,2001)) (.grd (0<=ad)<|.name 10003 ((qt.wrap (ae * ag))) λaj=>.br (aj !=ab.1) (.ff (ab.2,2001)) (.name 12002 ((qt.wrap (ab.1+ag))) λak=>.nn (ak,(qt.wrap (ab.2+1))))))) (.oo ab.1)) (0,0) [] λab=>.br (ab !=1048576) (.jn (aa,2001)) (.jn (0,0))
def Fz6:=
 mkq1 func223 tz8 (λr=>.tup [pz r.1,pz r.2])
def lzs (j:bzn)(aa:czt):T Bool:=let ab:=(j.normals.length:Int);.br (ab !=(aa.pairs.length:Int)) (.jn false) (.loop (ik 18 [3,16,17] [64]) (.exit 0) (jk [] []) (λac=>.jC (ac<ab) (.gh ac j.normals.length<|.cc (yzw aa ac) λad=>.cc (mzw (j.normals.getD (ac.toNat) qu) ad.a ad.ra ad.b ad.rb) λae=>.br (!ae) (.ff false) (.nn (qt.wrap (ac+1)))) (.oo .u))
 0 [] λ_=>.jn true)
def vz6:=
 mkp2 func555 lzs
def ozw (j:az7)(aa:Ae)(ab:bzn):T Bool:=
 .cc (ozx j aa) λac=>.br ac.2 (.cc (vz6 ab ac.1) λad=>.jn ad) (.jn false)
def Bzv (j)(aa)(ab):=
 mkD func320 (ozw j aa ab) 0 [q j,q aa,.iface 397 (q ab)] [] (λr=>q r) X6
def izx (j:az7)(aa:Ae)(ab:Bi):T Bool:=
 .cc (Bzv (⟨j.Xg,j.Xe,j.Xs⟩:az7) aa (⟨ab⟩:bzn)) λac=>.jn ac
def qzb (j)(aa)(ab):=
 mkC [⟨319,azgh⟩] hd func270 ju (izx j aa ab) 0 [q j,q aa,q ab] [] (λr=>q r) X6 ju
def lzn (j:bzq):T B2:=
 .loop (ik 11 [1,9,10] [0]) (.exit 0) (jk [] []) (λaa=>let ab:=j.pieces.getD (aa.toNat) qu;.jC (aa<(j.pieces.length:Int)) (.gh aa j.pieces.length<|.cc (vzg j.p j.q (ab.Xk) (ab.Xu)) λac=>.cub 0 38 [1,4,9,10,11] [0] (.jD (!ac.2) (.cc (qzb j.scene ac.1 (ab.Xn)) λad=>.oo (!ad))) λad=>.br ad (.ff (aa,2002)) (.nn (qt.wrap (aa+1)))) (.oo .u))
 0 [] λ_=>.jn (0,0)
def vz2:=
 mkq1 func224 lzn (λr=>.tup [pz r.1,pz r.2])
def mzo (j:az7)(aa:A4)(ab:A4)(ac:An):T B2:=let ad:=(⟨(⟨j.Xg,j.Xe,j.Xs⟩:az7),aa,ab,ac⟩:bzq);.unroll 5<|.ji<|.gh (0:Int) 4<|.cc (Hzo ad) λae=>.br (ae.2 !=0) (.jn (ae.1,ae.2)) (.lit 9000 1<|.ji<|.gh (1:Int) 4<|.cc (Fz5 ad) λaf=>.br (af.2 !=0) (.jn (af.1,af.2)) (.lit 9000 2<|.ji<|.gh (2:Int) 4<|.cc (Fz6 ad) λag=>.br (ag.2 !=0) (.jn (ag.1,ag.2)) (.lit 9000 3<|.ji<|.gh (3:Int) 4<|.cc (vz2 ad) λah=>.br (ah.2 !=0) (.jn (ah.1,ah.2)) (.lit 9000 4<|.jm<|.jn (0,0)))))
def xzv (j)(aa)(ab)(ac):=
 mkC [⟨220,azgc⟩] hd func160 ju (mzo j aa ab ac) 0 [q j,q aa,q ab,q ac] [] (λr=>.tup [pz r.1,pz r.2]) X6 ju
def Uzg (j:An):T azp:=
 .loop (λs (aa:(Bi×Av×(List Bk)×Int))=>pk s [2,3,13,14] [0] [(15,pz aa.2.2.2)] [(1,vO aa.1 89),(2,vO aa.2.1 316),(192,Yzk [jA 0,jA 0,jA 0] mzk aa.2.2.1)]) (.exit 0) (λs (aa:(Bi×Av))=>pk s [2] [0] [] [(1,vO aa.1 89),(2,vO aa.2 316)]) (λaa=>let ab:=j.getD (X3 aa.2.2.2) qu;.jC (aa.2.2.2<(j.length:Int)) (.gh aa.2.2.2 j.length<|.loop (λs (ac:(Bi×(List Bk)×A4×Int))=>pk s [2,3,6,13,14,15,25,26] [0,2,1216] [(27,pz ac.2.2.2)] [(1,vO ac.1 89),(192,Yzk [jA 0,jA 0,jA 0] mzk ac.2.1),(1154,vO ac.2.2.1 3)]) (.exit 2) (λs (ac:(Bi×(List Bk)×A4))=>pk s [2,3,6,13,14,15] [0,2,1216] [] [(1,vO ac.1 89),(192,Yzk [jA 0,jA 0,jA 0] mzk ac.2.1),(1154,vO ac.2.2 3)]) (λac=>.jC (ac.2.2.2<(ab.Xn.length:Int)) .stop (.oo (ac.1,ac.2.1,ac.2.2.1))) (aa.1,aa.2.2.1,nl,0) [] λac=>let ad:=([(⟨ab.Xk,ab.Xu,ac.2.2⟩:dzq)]:Av);let ae:=aa.2.1.length+ad.length;
 .conv 17003 (kL ad 316)<|.conv 17004 (kA aa.2.1 ad 316)<|.grd (ae * 40<=140737488355328/\ae<=maxLen)<|.nn (ac.1,(aa.2.1++ad),ac.2.1,(qt.wrap (aa.2.2.2+1)))) (.oo (aa.1,aa.2.1))) (nl,nl,(nl:List Bk),0) [] λaa=>.jn (⟨aa.1,aa.2⟩:azp)
def Uzf (j):=
 mkC [⟨418,azgs⟩] hd func358 ju (Uzg j) 0 [q j] [] (λr=>q r) X6 ju
def Vzo (j:azd)(aa:Int)(ab:Int):T azp:=let ac:=j.Xb.getD (aa.toNat) qu;.gh aa j.Xb.length<|.cc (Uzf (ac.XJ.XC)) λad=>.br (ab==(ac.U)) (.jn ad)
 .stop
def Vzn:=
 mkp3 func300 Vzo
def Zzt (_:az7)(aa:azd)(ab:dz2):T (bz6×Bool):=let ac:=(ab.Xy.length:Int);let ad:=(⟨aa.Xa,aa.Xb⟩:azd);let ae:=(ab.Xy.drop (X3 (1:Int))).take (ac.toNat- (1:Int).toNat);.cub 4 33 [3,4,5,6,7,8] [0,64,128,192,193,194,256] (.jF (ac<1) (.jF (ac>256) (.cc (tzg ad) λaf=>.oo (!af)))) λaf=>.br af (.jn ((⟨nl,nl⟩:bz6),false)) (.loop (λs (ag:Ap)=>pk s [3,4,5,6,7,8,36,37] [0,64,128,192,194,256] [(38,pz ag.2)] [(193,vO ag.1 39)]) (.exit 0) (λs (ag:A5)=>pk s [3,4,5,6,7,8] [0,64,128,192,194,256] [] [(193,vO ag 39)]) (λag=>let ah:=ab.Xy.getD (X3 ag.2) qu;.jC (ag.2<ac) (.gh ag.2 ab.Xy.length<|.cc (hz7 ad ah) λai=>.br (!ai) (.ff ((⟨nl,nl⟩:bz6),false)) (.gh ah aa.Xa.length<|.call (cz8 (aa.Xa.getD (ah.toNat) qu)) [] λaj=>let ak:=([aj]:A5);let al:=ag.1.length+ak.length;
 .conv 10008 (kL ak 39)<|.conv 10009 (kA ag.1 ak 39)<|.grd (al * 24<=140737488355328/\al<=maxLen)<|.nn ((ag.1++ak),(qt.wrap (ag.2+1))))) (.oo ag.1)) (nl,0) [] λag=>.br (ac==1)
 .stop (.conv 15002 (Dz4 1 azy ab.Xy (1:Int) ac)<|.grd (0<=(1:Int)/\(1:Int)<=ac/\ac<=ac)<|.name 15003 ((ae.length:Int)) λah=>.loop (λs (ai:(Aw×Int))=>pk s [4,5,6,7,81,82] [64,128,192,193,256] [(83,pz ai.2)] [(194,vO ai.1 251)]) (.exit 2) (λs (ai:Aw)=>pk s [6,7] [192,193,256] [] [(194,vO ai 251)]) (λai=>let aj:=(ai.2).toNat;let ak:=ab.Xy.getD aj qu;.jC (ai.2<ah) (.gh ai.2 (ae.length)<|.name 17002 ((ae.getD aj qu)) λal=>.gh ai.2 ab.Xy.length<|.cc (Czc ad ak al) λam=>.cub 1 110 [4,5,6,7,16,17,81,82,83] [64,128,192,193,194,256] (.jD (!am.2) (.gh am.1 aa.Xb.length<|.oo (((aa.Xb.getD (X3 am.1) qu).Xx) !=1))) λan=>.br an (.ff ((⟨nl,nl⟩:bz6),false)) (.cc (Vzn ad am.1 ak) λao=>let ap:=([ao]:Aw);let aq:=ai.1.length+ap.length;
 .conv 22006 (kL ap 251)<|.conv 22007 (kA ai.1 ap 251)<|.grd (aq * 48<=140737488355328/\aq<=maxLen)<|.nn ((ai.1++ap),(qt.wrap (ai.2+1))))) (.oo ai.1)) (nl,0) [] λai=>.jn ((⟨ag,ai⟩:bz6),true)))
def Zzs (j)(aa)(ab):=
 mkC [⟨294,azgg⟩] hd func246 ju (Zzt j aa ab) 0 [q j,q aa,q ab] [] (λr=>.tup [q r.1,q r.2]) X6 ju
def Nzs (j:az7)(aa:A4)(ab:A4)(ac:cz3):T Bs:=let ad:=([aa,ab]:A5);let ae:=(⟨j.Xg,j.Xe,j.Xs⟩:az7);.cub 2 42 [1,2,4,7,8] [0,64,128,129,130] (.cc (ezd j) λaf=>.jD (af !=0) (.cc (bzr j.Xg aa) λag=>.jD (!ag) (.cc (bzr j.Xg ab) λah=>.jD (!ah) (.cc (hz1 ac) λai=>.oo (!ai))))) λaf=>.br af (.jn ((⟨nl,nl⟩:bz6),0,false)) (.conv 3002 (kL ad 39)<|.cc (Rz8 j.Xg) λag=>.loop (λs (ah:Ap)=>pk s [1,2,4,7,8,11,12,51] [0,64,128,129,130] [(52,pz ah.2)] [(512,vO ah.1 39)]) (.exit 0) (λs (ah:A5)=>pk s [1,2,4,7,8,11] [0,64,128,129,130] [] [(512,vO ah 39)]) (λah=>.jC (ah.2<ac.XI) (.cc (pzu ag (IntKind.u64.wrap ((IntKind.u64.wrap ah.2)+1))) λai=>let aj:=([ai]:A5);let ak:=ah.1.length+aj.length;
 .conv 8006 (kL aj 39)<|.conv 8007 (kA ah.1 aj 39)<|.grd (ak * 24<=140737488355328/\ak<=maxLen)<|.nn ((ah.1++aj),(qt.wrap (ah.2+1)))) (.oo ah.1)) (ad,0) [] λah=>.cut 1 (λs (ai:Int)=>pk s [4,7,8,11] [0,64,128,129,130,512] [(14,pz ai)] []) (.cc (ez2 aa ab) λai=>.br ai (.oo 0) (.oo 1)) λai=>.cc (Zzf j.Xg ah ac.XK) λaj=>.cc (Zzo ae aj 0 ai ac.Xk ac.XN) λak=>.br (ak.2.2.1 !=1) (.jn ((⟨nl,nl⟩:bz6),ak.2.2.2,false)) (.cc (Zzs ae (⟨ak.1.Xa,ak.1.Xb⟩:azd) (⟨ak.2.1.Xy,ak.2.1.Xp⟩:dz2)) λal=>.br (!al.2) (.jn ((⟨nl,nl⟩:bz6),ak.2.2.2,false)) (.jn (al.1,ak.2.2.2,true))))
def Nzr:=
 mkq4 func188 Nzs (λr=>.tup [q r.1,pz r.2.1,q r.2.2])
end Go.Abs
