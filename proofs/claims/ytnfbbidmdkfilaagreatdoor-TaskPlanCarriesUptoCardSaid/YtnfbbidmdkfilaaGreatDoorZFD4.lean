import Derived.Test.YtnfbbidmdkfilaaGreatDoorZFD3
open Decidable renaming decide->qv
open Go.IntKind renaming i64->qt
open Inhabited renaming default->qu
open List renaming replicate->qs
open Int renaming toNat->X3
noncomputable section
namespace Go.Abs
open Go.Proofs.Tryz
set_option maxHeartbeats 8000000
set_option maxRecDepth 20000
open Go.Proofs
def Rzo (j:Int)(aa:A0)(ab:A8)(ac:A2)(ad:Ad)(ae:A3)(af:Bi)(ag:A1)(ah:A7)(ai:Int)(aj:Int)(ak:Int)(al:Int)(am:Int)(_a14:B8)(an:A4)(ao:Int)(ap:Int)(aq:Int)(ar:A0)(au:A8)(av:A2)(aw:Ad)(ax:A4):T (aze×Bool×A0×A8×A2×Ad×A3×Bi×A1×A7×Int×Int×Int×Int×Int×A4×Int×Int×Int×A0×A8×A2×Ad×A4):=let ay:=(⟨ao,ap,aq⟩:aza);.cc (Qz2 (⟨(⟨(⟨aa,ab⟩:azk),ac,ad⟩:az7),ae,af,ag,ah,ai⟩:az2) (⟨an⟩:azm) ay j) λaz=>.br (!az) (.jE ((⟨(⟨0,0,0⟩:aza),0,(⟨nl,nl⟩:bzc)⟩:aze),false,aa,ab,ac,ad,ae,af,ag,ah,ai,aj,ak,al,am,an,ao,ap,aq,ar,au,av,aw,ax)) (.gh j ah.length<|.cc (Nzp (⟨(⟨ar,au⟩:azk),av,aw⟩:az7) ax ((ah.getD (j.toNat) qu).At) (⟨aj,ak,al,am⟩:cz5)) λa0=>.jE ((⟨ay,j,a0.1⟩:aze),a0.2.2,aa,ab,ac,ad,ae,af,ag,ah,ai,aj,ak,al,am,an,ao,ap,aq,ar,au,av,aw,ax))
def Rzn (j)(aa)(ab)(ac)(ad)(ae)(af)(ag)(ah)(ai)(aj)(ak)(al)(am)(an)(ao)(ap)(aq)(ar)(au)(av)(aw)(ax)(ay):=
 mkD func186 (Rzo j aa ab ac ad ae af ag ah ai aj ak al am an ao ap aq ar au av aw ax ay) 6 [pz j,X7 0,X7 2,X7 3,X7 4,X7 5] [(0,.box [q aa,q ab,q ac,q ad,q ae,q af,q ag,q ah,pz ai,pz aj,pz ak,pz al,pz am,.map 1]),(1,mapG (jQ 10) az4 bzp an),(2,.box [q ao]),(3,.box [pz ap,pz aq,pz ar]),(4,.box [q au,q av,q aw,q ax]),(5,.box [q ay])] (λr=>.tup [q r.1,q r.2.1]) (λr=>[(0,.box [q r.2.2.1,q r.2.2.2.1,q r.2.2.2.2.1,q r.2.2.2.2.2.1,q r.2.2.2.2.2.2.1,q r.2.2.2.2.2.2.2.1,q r.2.2.2.2.2.2.2.2.1,q r.2.2.2.2.2.2.2.2.2.1,pz r.2.2.2.2.2.2.2.2.2.2.1,pz r.2.2.2.2.2.2.2.2.2.2.2.1,pz r.2.2.2.2.2.2.2.2.2.2.2.2.1,pz r.2.2.2.2.2.2.2.2.2.2.2.2.2.1,pz r.2.2.2.2.2.2.2.2.2.2.2.2.2.2.1,.map 1]),(1,mapG (jQ 10) az4 bzp an),(2,.box [q r.2.2.2.2.2.2.2.2.2.2.2.2.2.2.2.1]),(3,.box [pz r.2.2.2.2.2.2.2.2.2.2.2.2.2.2.2.2.1,pz r.2.2.2.2.2.2.2.2.2.2.2.2.2.2.2.2.2.1,pz r.2.2.2.2.2.2.2.2.2.2.2.2.2.2.2.2.2.2.1]),(4,.box [q r.2.2.2.2.2.2.2.2.2.2.2.2.2.2.2.2.2.2.2.1,q r.2.2.2.2.2.2.2.2.2.2.2.2.2.2.2.2.2.2.2.2.1,q r.2.2.2.2.2.2.2.2.2.2.2.2.2.2.2.2.2.2.2.2.2.1,q r.2.2.2.2.2.2.2.2.2.2.2.2.2.2.2.2.2.2.2.2.2.2.1]),(5,.box [q r.2.2.2.2.2.2.2.2.2.2.2.2.2.2.2.2.2.2.2.2.2.2.2])])
def Xzm (j:A0)(aa:A8)(ab:A2)(ac:Ad)(ad:A3)(ae:Bi)(af:A1)(ag:A7)(ah:Int)(ai:Int)(aj:Int)(ak:Int)(al:Int)(am:B8)(an:azm)(ao:A4)(ap:aza):T (aze×Bool):=
 .cc (qzg (⟨(⟨(⟨j,aa⟩:azk),ab,ac⟩:az7),ad,ae,af,ag,ah⟩:az2) an) λaq=>.br (aq.2 !=0) (.jE ((⟨(⟨0,0,0⟩:aza),0,(⟨nl,nl⟩:bzc)⟩:aze),false)) (.loop (λs (ar:(A0×A8×A2×Ad×A3×Bi×A1×A7×Int×Int×Int×Int×Int×A4×Int×Int×Int×A0×A8×A2×Ad×A4×Int))=>pk s [8,12,30] [0,257,262,263] [(31,pz ar.2.2.2.2.2.2.2.2.2.2.2.2.2.2.2.2.2.2.2.2.2.2)] [(1,.box [q ar.1,q ar.2.1,q ar.2.2.1,q ar.2.2.2.1,q ar.2.2.2.2.1,q ar.2.2.2.2.2.1,q ar.2.2.2.2.2.2.1,q ar.2.2.2.2.2.2.2.1,pz ar.2.2.2.2.2.2.2.2.1,pz ar.2.2.2.2.2.2.2.2.2.1,pz ar.2.2.2.2.2.2.2.2.2.2.1,pz ar.2.2.2.2.2.2.2.2.2.2.2.1,pz ar.2.2.2.2.2.2.2.2.2.2.2.2.1,.map 0]),(65,.box [q ar.2.2.2.2.2.2.2.2.2.2.2.2.2.1]),(129,.box [q ar.2.2.2.2.2.2.2.2.2.2.2.2.2.2.2.2.2.2.2.2.2.1]),(193,.box [pz ar.2.2.2.2.2.2.2.2.2.2.2.2.2.2.1,pz ar.2.2.2.2.2.2.2.2.2.2.2.2.2.2.2.1,pz ar.2.2.2.2.2.2.2.2.2.2.2.2.2.2.2.2.1]),(833,.box [q ar.2.2.2.2.2.2.2.2.2.2.2.2.2.2.2.2.2.1,q ar.2.2.2.2.2.2.2.2.2.2.2.2.2.2.2.2.2.2.1,q ar.2.2.2.2.2.2.2.2.2.2.2.2.2.2.2.2.2.2.2.1,q ar.2.2.2.2.2.2.2.2.2.2.2.2.2.2.2.2.2.2.2.2.1])]) (.exit 0) (jk [8] [0,257,262,263]) (λar=>.jR (ar.2.2.2.2.2.2.2.2.2.2.2.2.2.2.2.2.2.2.2.2.2.2<(ag.length:Int)) (.call (Rzn ar.2.2.2.2.2.2.2.2.2.2.2.2.2.2.2.2.2.2.2.2.2.2 ar.1 ar.2.1 ar.2.2.1 ar.2.2.2.1 ar.2.2.2.2.1 ar.2.2.2.2.2.1 ar.2.2.2.2.2.2.1 ar.2.2.2.2.2.2.2.1 ar.2.2.2.2.2.2.2.2.1 ar.2.2.2.2.2.2.2.2.2.1 ar.2.2.2.2.2.2.2.2.2.2.1 ar.2.2.2.2.2.2.2.2.2.2.2.1 ar.2.2.2.2.2.2.2.2.2.2.2.2.1 am ar.2.2.2.2.2.2.2.2.2.2.2.2.2.1 ar.2.2.2.2.2.2.2.2.2.2.2.2.2.2.1 ar.2.2.2.2.2.2.2.2.2.2.2.2.2.2.2.1 ar.2.2.2.2.2.2.2.2.2.2.2.2.2.2.2.2.1 ar.2.2.2.2.2.2.2.2.2.2.2.2.2.2.2.2.2.1 ar.2.2.2.2.2.2.2.2.2.2.2.2.2.2.2.2.2.2.1 ar.2.2.2.2.2.2.2.2.2.2.2.2.2.2.2.2.2.2.2.1 ar.2.2.2.2.2.2.2.2.2.2.2.2.2.2.2.2.2.2.2.2.1 ar.2.2.2.2.2.2.2.2.2.2.2.2.2.2.2.2.2.2.2.2.2.1) [(0,1),(1,0),(2,65),(3,193),(4,833),(5,129)] λau=>.br au.2.1 (.ff (au.1,true)) (.nn (au.2.2.1,au.2.2.2.1,au.2.2.2.2.1,au.2.2.2.2.2.1,au.2.2.2.2.2.2.1,au.2.2.2.2.2.2.2.1,au.2.2.2.2.2.2.2.2.1,au.2.2.2.2.2.2.2.2.2.1,au.2.2.2.2.2.2.2.2.2.2.1,au.2.2.2.2.2.2.2.2.2.2.2.1,au.2.2.2.2.2.2.2.2.2.2.2.2.1,au.2.2.2.2.2.2.2.2.2.2.2.2.2.1,au.2.2.2.2.2.2.2.2.2.2.2.2.2.2.1,au.2.2.2.2.2.2.2.2.2.2.2.2.2.2.2.1,au.2.2.2.2.2.2.2.2.2.2.2.2.2.2.2.2.1,au.2.2.2.2.2.2.2.2.2.2.2.2.2.2.2.2.2.1,au.2.2.2.2.2.2.2.2.2.2.2.2.2.2.2.2.2.2.1,au.2.2.2.2.2.2.2.2.2.2.2.2.2.2.2.2.2.2.2.1,au.2.2.2.2.2.2.2.2.2.2.2.2.2.2.2.2.2.2.2.2.1,au.2.2.2.2.2.2.2.2.2.2.2.2.2.2.2.2.2.2.2.2.2.1,au.2.2.2.2.2.2.2.2.2.2.2.2.2.2.2.2.2.2.2.2.2.2.1,au.2.2.2.2.2.2.2.2.2.2.2.2.2.2.2.2.2.2.2.2.2.2.2,(qt.wrap (ar.2.2.2.2.2.2.2.2.2.2.2.2.2.2.2.2.2.2.2.2.2.2+1))))) (.oo .u)) (j,aa,ab,ac,ad,ae,af,ag,ah,ai,aj,ak,al,an.Xg,ap.Xn,ap.Xu,ap.Place,aq.1.Xf.Xc,aq.1.Xf.Xv,aq.1.Xe,aq.1.Xr,ao,0) [] λ_=>.stop)
def Jzn (j)(aa)(ab)(ac)(ad)(ae)(af)(ag)(ah)(ai)(aj)(ak)(al)(am)(an)(ao)(ap):=
 mkD func122 (Xzm j aa ab ac ad ae af ag ah ai aj ak al am an ao ap) 1 [.agg [q j,q aa,q ab,q ac,q ad,q ae,q af,q ag,pz ah,pz ai,pz aj,pz ak,pz al,.map 0],q an,q ao,q ap] [(0,mapG (jQ 10) az4 bzp am)] (λr=>.tup [q r.1,q r.2]) (λ_=>[(0,mapG (jQ 10) az4 bzp am)])
def rzr (j:A0)(aa:A8)(ab:A2)(ac:Ad)(ad:A3)(ae:Bi)(af:A1)(ag:A7)(ah:Int)(ai:Int)(aj:Int)(ak:Int)(al:Int)(am:B8)(an:azm)(ao:A4)(ap:A9):T (Ax×A4×Int×Int×Int×B8):=
 .loop (λs (aq:C2)=>pk s [4,5,10,17,18] [1] [(2,q aq.1),(11,pz aq.2.2.2.2.1),(19,pz aq.2.2.2.2.2)] [(0,mapG (jQ 10) az4 bzp aq.2.1),(65,.box [q aq.2.2.1]),(257,vO aq.2.2.2.1 68)]) (.exit 0) (λs (aq:(Ax×B8))=>pk s [10] [] [] [(0,mapG (jQ 10) az4 bzp aq.2),(257,vO aq.1 68)]) (λaq=>let ar:=ap.getD (X3 aq.2.2.2.2.2) qu;let au:=(⟨aq.2.2.1⟩:azm);let av:=(⟨((if 0<aq.2.2.1.length then aq.2.2.1.getD 0 qu else 0),(if 1<aq.2.2.1.length then aq.2.2.1.getD 1 qu else 0),(if 2<aq.2.2.1.length then aq.2.2.1.getD 2 qu else 0),(if 3<aq.2.2.1.length then aq.2.2.1.getD 3 qu else 0),(if 4<aq.2.2.1.length then aq.2.2.1.getD 4 qu else 0),(if 5<aq.2.2.1.length then aq.2.2.1.getD 5 qu else 0)),aq.2.2.2.2.1,ar⟩:azb);let aw:=jzt az4 aq.2.1 (az4 av);let ax:=mdom az4 aq.2.1 (az4 av);.jR (aq.2.2.2.2.2<(ap.length:Int)) (.gh aq.2.2.2.2.2 ap.length<|.ok (ax=false->PSub (.agg [jP 0,jP 0,jP 0,jP 0,.lst 0 0 λ_=>.unk,.lst 0 0 λ_=>.unk]) (bzp aw)) (Wz8 jJ)<|.cut 0 (λs (ay:C9)=>pk s [4,5,10,13,15,17,18,19] [1,65,257,833] [] [(0,mapG (jQ 10) az4 bzp ay.1),(2049,.box [pz ay.2.1,pz ay.2.2.1,pz ay.2.2.2.1,pz ay.2.2.2.2.1,q ay.2.2.2.2.2.1,q ay.2.2.2.2.2.2])]) (.br (!ax) (.call (Jzn j aa ab ac ad ae af ag ah ai aj ak al aq.2.1 au aq.1 ar) [(0,0)] λay=>.br (!ay.2) (.ff (.fin (nl,aq.2.2.1,ar.Xn,ar.Xu,ar.Place,aq.2.1))) (.conv 13004 (az5n (jQ 10) az4 bzp aq.2.1 av ay.1 (.agg [jP ay.1.Xp.Xn,jP ay.1.Xp.Xu,jP ay.1.Xp.Place,jP ay.1.XL,encL 1 (encL 1 bz6) ay.1.Path.Xa,encL 2 xzl ay.1.Path.Xb]) jJ)<|.oo (((av,ay.1)::aq.2.1),ay.1.Xp.Xn,ay.1.Xp.Xu,ay.1.Xp.Place,ay.1.XL,ay.1.Path.Xa,ay.1.Path.Xb))) (.oo (aq.2.1,aw.Xp.Xn,aw.Xp.Xu,aw.Xp.Place,aw.XL,aw.Path.Xa,aw.Path.Xb))) λay=>let az:=([(⟨(⟨ay.2.1,ay.2.2.1,ay.2.2.2.1⟩:aza),ay.2.2.2.2.1,(⟨ay.2.2.2.2.2.1,ay.2.2.2.2.2.2⟩:bzc)⟩:aze)]:Ax);let a0:=aq.2.2.2.1.length+az.length;
 .conv 14002 (kL az 68)<|.conv 14003 (kA aq.2.2.2.1 az 68)<|.grd (a0 * 80<=140737488355328/\a0<=maxLen)<|.gh ay.2.2.2.2.1 ag.length<|.cc (kzb (⟨(⟨(⟨j,aa⟩:azk),ab,ac⟩:az7),ad,ae,af,ag,ah⟩:az2) au ar) λa1=>.nn ((ag.getD (X3 ay.2.2.2.2.1) qu).At,ay.1,a1.1.Xg,(aq.2.2.2.1++az),ay.2.2.2.2.1,(qt.wrap (aq.2.2.2.2.2+1)))) (.oo (aq.2.2.2.1,aq.2.1))) (ao,am,an.Xg,nl,(-1),0) [] λ_=>.stop
def kzt (j)(aa)(ab)(ac)(ad)(ae)(af)(ag)(ah)(ai)(aj)(ak)(al)(am)(an)(ao)(ap):=
 mkD func64 (rzr j aa ab ac ad ae af ag ah ai aj ak al am an ao ap) 1 [.agg [q j,q aa,q ab,q ac,q ad,q ae,q af,q ag,pz ah,pz ai,pz aj,pz ak,pz al,.map 0],q an,q ao,q ap] [(0,mapG (jQ 10) az4 bzp am)] (λr=>.tup [q r.1,X7 1]) (λr=>[(0,mapG (jQ 10) az4 bzp r.2.2.2.2.2),(1,.box [q r.2.1,pz r.2.2.1,pz r.2.2.2.1,pz r.2.2.2.2.1])])
def rzs (j:A0)(aa:A8)(ab:A2)(ac:Ad)(ad:A3)(ae:Bi)(af:A1)(ag:A7)(ah:Int)(ai:Int)(aj:Int)(ak:Int)(al:Int)(am:B8)(an:azm)(ao:A4)(ap:A9):T (Ax×B8):=
 .loop (λs (aq:C2)=>pk s [4,5,10,17,18] [1] [(2,q aq.1),(11,pz aq.2.2.2.2.1),(19,pz aq.2.2.2.2.2)] [(0,mapG (jQ 10) az4 bzp aq.2.1),(65,.box [q aq.2.2.1]),(257,vO aq.2.2.2.1 68)]) (.exit 0) (λs (aq:(Ax×B8))=>pk s [10] [] [] [(0,mapG (jQ 10) az4 bzp aq.2),(257,vO aq.1 68)]) (λaq=>let ar:=ap.getD (X3 aq.2.2.2.2.2) qu;let au:=(⟨aq.2.2.1⟩:azm);let av:=(⟨((if 0<aq.2.2.1.length then aq.2.2.1.getD 0 qu else 0),(if 1<aq.2.2.1.length then aq.2.2.1.getD 1 qu else 0),(if 2<aq.2.2.1.length then aq.2.2.1.getD 2 qu else 0),(if 3<aq.2.2.1.length then aq.2.2.1.getD 3 qu else 0),(if 4<aq.2.2.1.length then aq.2.2.1.getD 4 qu else 0),(if 5<aq.2.2.1.length then aq.2.2.1.getD 5 qu else 0)),aq.2.2.2.2.1,ar⟩:azb);let aw:=jzt az4 aq.2.1 (az4 av);let ax:=mdom az4 aq.2.1 (az4 av);.jR (aq.2.2.2.2.2<(ap.length:Int)) (.gh aq.2.2.2.2.2 ap.length<|.ok (ax=false->PSub (.agg [jP 0,jP 0,jP 0,jP 0,.lst 0 0 λ_=>.unk,.lst 0 0 λ_=>.unk]) (bzp aw)) (Wz8 jJ)<|.cut 0 (λs (ay:C9)=>pk s [4,5,10,13,15,17,18,19] [1,65,257,833] [] [(0,mapG (jQ 10) az4 bzp ay.1),(2049,.box [pz ay.2.1,pz ay.2.2.1,pz ay.2.2.2.1,pz ay.2.2.2.2.1,q ay.2.2.2.2.2.1,q ay.2.2.2.2.2.2])]) (.br (!ax) (.call (Jzn j aa ab ac ad ae af ag ah ai aj ak al aq.2.1 au aq.1 ar) [(0,0)] λay=>.br (!ay.2) (.stop) (.conv 13004 (az5n (jQ 10) az4 bzp aq.2.1 av ay.1 (.agg [jP ay.1.Xp.Xn,jP ay.1.Xp.Xu,jP ay.1.Xp.Place,jP ay.1.XL,encL 1 (encL 1 bz6) ay.1.Path.Xa,encL 2 xzl ay.1.Path.Xb]) jJ)<|.oo (((av,ay.1)::aq.2.1),ay.1.Xp.Xn,ay.1.Xp.Xu,ay.1.Xp.Place,ay.1.XL,ay.1.Path.Xa,ay.1.Path.Xb))) (.oo (aq.2.1,aw.Xp.Xn,aw.Xp.Xu,aw.Xp.Place,aw.XL,aw.Path.Xa,aw.Path.Xb))) λay=>let az:=([(⟨(⟨ay.2.1,ay.2.2.1,ay.2.2.2.1⟩:aza),ay.2.2.2.2.1,(⟨ay.2.2.2.2.2.1,ay.2.2.2.2.2.2⟩:bzc)⟩:aze)]:Ax);let a0:=aq.2.2.2.1.length+az.length;
 .conv 14002 (kL az 68)<|.conv 14003 (kA aq.2.2.2.1 az 68)<|.grd (a0 * 80<=140737488355328/\a0<=maxLen)<|.gh ay.2.2.2.2.1 ag.length<|.cc (kzb (⟨(⟨(⟨j,aa⟩:azk),ab,ac⟩:az7),ad,ae,af,ag,ah⟩:az2) au ar) λa1=>.nn ((ag.getD (X3 ay.2.2.2.2.1) qu).At,ay.1,a1.1.Xg,(aq.2.2.2.1++az),ay.2.2.2.2.1,(qt.wrap (aq.2.2.2.2.2+1)))) (.oo (aq.2.2.2.1,aq.2.1))) (ao,am,an.Xg,nl,(-1),0) [] λaq=>.jE (aq.1,aq.2)
def kzu (j)(aa)(ab)(ac)(ad)(ae)(af)(ag)(ah)(ai)(aj)(ak)(al)(am)(an)(ao)(ap):=
 mkD func64 (rzs j aa ab ac ad ae af ag ah ai aj ak al am an ao ap) 1 [.agg [q j,q aa,q ab,q ac,q ad,q ae,q af,q ag,pz ah,pz ai,pz aj,pz ak,pz al,.map 0],q an,q ao,q ap] [(0,mapG (jQ 10) az4 bzp am)] (λr=>.tup [q r.1,.nilp]) (λr=>[(0,mapG (jQ 10) az4 bzp r.2)])
def tzl (j:az2)(aa:azm)(ab:A4)(ac:A4)(ad:cz5)(ae:Int):T (Ax×Int):=let af:=(⟨aa.Xg⟩:azm);let ag:=(⟨j.Xl,j.Xd,j.Xh,j.Xi,j.Xk,j.Xq⟩:az2);.cub 2 39 [2,3,5,6,7,10] [0,64,128] (.cc (ez8 ag af) λah=>.jS (!ah) (.cc (bzt j.Xl.Xf ab) λai=>.jS (!ai) (.oo ((ac.length:Int) !=(j.Xd.length:Int))))) λah=>.br ah (.jE (nl,0)) (.cub 1 50 [2,3,5,6,7,10] [0,64,128] (.jU (ae<1) (.jU (ae>64) (.cc (hz0 ad) λai=>.oo (!ai)))) λai=>.br ai (.jE (nl,0)) (.conv 5002 (azi2 (jQ 10) az4 bzp (.agg [jP 0,jP 0,jP 0,jP 0,.lst 0 0 λ_=>.unk,.lst 0 0 λ_=>.unk]))<|.loop (λs (aj:(B8×Ab×Int))=>pk s [2,3,6,7,14,15,55] [0,64,704] [(56,pz aj.2.2)] [(576,mapG (jQ 10) az4 bzp aj.1),(832,vS aj.2.1 122)]) (.exit 0) (jk [] []) (λaj=>.jR (aj.2.2<ae) (.cc (Fz7 ag af ac 16 aj.2.1) λak=>.br (!ak.2) (.ff (nl,2)) (.split (((kzt j.Xl.Xf.Xc j.Xl.Xf.Xv j.Xl.Xe j.Xl.Xr j.Xd j.Xh j.Xi j.Xk j.Xq ad.XF ad.XJ ad.Xj ad.XM aj.1 af ab ak.1).o).isSome)
 .stop (.call (kzu j.Xl.Xf.Xc j.Xl.Xf.Xv j.Xl.Xe j.Xl.Xr j.Xd j.Xh j.Xi j.Xk j.Xq ad.XF ad.XJ ad.Xj ad.XM aj.1 af ab ak.1) [(0,576)] λal=>.ff (al.1,1)))) (.oo .u)) ((nl:List (azb×aze)),nl,0) [] λ_=>.stop))
def mz1:=
 mkq6 func26 tzl (λr=>.tup [q r.1,pz r.2])
def ozv (j:azr):T (An×Bool):=
 .loop (λs (aa:Ao)=>pk s [1,2,3,11,12] [0,64,128] [(13,pz aa.2)] [(65,vO aa.1 76)]) (.exit 0) (λs (aa:An)=>pk s [2,3] [64,128] [] [(65,vO aa 76)]) (λaa=>let ab:=j.XH.getD (X3 aa.2) qu;.jR (aa.2<(j.XH.length:Int)) (.gh aa.2 j.XH.length<|.loop (λs (ac:Bj)=>pk s [1,2,3,6,11,12,13,23,24] [0,64,65,128,1280] [(25,pz ac.2)] [(1218,vO ac.1 89)]) (.exit 2) (λs (ac:Bi)=>pk s [1,2,3,6,11,12,13] [0,64,65,128,1280] [] [(1218,vO ac 89)]) (λac=>let ad:=(ab.Xs).getD (X3 ac.2) qu;let ae:=([(j.XB.getD (ad.toNat) qu)]:Bi);let af:=ac.1.length+ae.length;.jR (ac.2<(ab.Xs.length:Int)) (.gh ac.2 (ab.Xs.length)<|.cub 1 37 [1,2,3,6,8,11,12,13,23,24,25] [0,64,65,128,1218,1280] (.jU (ad<0) (.oo (qv (ad>=(j.XB.length:Int))))) λag=>.br ag (.ff (.fin (nl,false))) (.gh ad j.XB.length<|.conv 11007 (kL ae 89)<|.conv 11008 (kA ac.1 ae 89)<|.grd (af * 24<=140737488355328/\af<=maxLen)<|.nn ((ac.1++ae),(qt.wrap (ac.2+1))))) (.oo ac.1)) (nl,0) [] λac=>let ad:=([(⟨ab.Xj,ab.Xt,ac⟩:az6)]:An);let ae:=aa.1.length+ad.length;
 .conv 13002 (kL ad 76)<|.conv 13003 (kA aa.1 ad 76)<|.grd (ae * 40<=140737488355328/\ae<=maxLen)<|.nn ((aa.1++ad),(qt.wrap (aa.2+1)))) (.oo aa.1)) (nl,0) [] λaa=>.jE (aa,true)
def jzg (j):=
 mkC [⟨219,azey⟩] hd func159 jJ (ozv j) 0 [q j] [] (λr=>.tup [q r.1,q r.2]) X6 jJ
def Dzh (j:az7)(aa:bzc):T B2:=let ab:=(aa.Xb.length:Int);.cc (uzh j aa.Xa) λac=>.br (ac.2 !=0) (.jE (ac.1,ac.2)) (.br (ab !=(qt.wrap ((aa.Xa.length:Int)-1))) (.jE (0,2202)) (.loop (ik 37 [2,3,4,5,35,36] [0,64,128,192]) (.exit 0) (jk [4,5] [128,192]) (λad=>let ae:=qt.wrap (ad+1);.jR (ad<ab) (.gh ad aa.Xb.length<|.cc (jzg (aa.Xb.getD (ad.toNat) qu)) λaf=>.br (!af.2) (.ff (ad,2203)) (.gh ad aa.Xa.length<|.gh ae aa.Xa.length<|.call (xzk (⟨j.Xf,j.Xe,j.Xr⟩:az7) (aa.Xa.getD (ad.toNat) qu) (aa.Xa.getD (ae.toNat) qu) af.1) [] λag=>.br (ag.2 !=0) (.ff (ad,ag.2)) (.nn ae))) (.oo .u))
 0 [] λ_=>.jE (0,0)))
def uzg (j)(aa):=
 mkC [⟨157,azex⟩] hd func97 jJ (Dzh j aa) 0 [q j,q aa] [] (λr=>.tup [pz r.1,pz r.2]) X6 jJ
def qz5 (j:az2)(aa:azm)(ab:bzc)(ac:A4)(ad:A4):T Bool:=let ae:=qt.wrap ((ab.Xa.length:Int)-1);.cc (qzg j aa) λaf=>.br (af.2 !=0) (.jE false) (.cc (uzg (⟨af.1.Xf,af.1.Xe,af.1.Xr⟩:az7) ab) λag=>.br (ag.2 !=0) (.jE false) (.gh (0:Int) ab.Xa.length<|.cc (dzz (ab.Xa.getD (X3 (0:Int)) qu) ac) λah=>.br ah (.gh ae ab.Xa.length<|.call (dzz (ab.Xa.getD (ae.toNat) qu) ad) [] λai=>.jE ai) (.jE false)))
def jzn:=
 mkp5 func45 qz5
def xza (j:az2)(aa:azm)(ab:A4):T Bool:=
 .cc (ez8 j aa) λac=>.br ac (.br ((ab.length:Int)==(aa.Xg.length:Int)) (.cc (iz6 aa) λad=>.cc (qzm ad ab) λae=>.jE ae) (.jE false)) (.jE false)
def xz9:=
 mkp3 func46 xza
def qz4 (j:az2)(aa:azm)(ab:A4)(ac:A4)(ad:Ax):T B2:=let ae:=(ad.length:Int);let af:=(⟨j.Xl,j.Xd,j.Xh,j.Xi,j.Xk,j.Xq⟩:az2);.cc (izd j) λag=>.br (ag !=0) (.jE (0,ag)) (.cc (ez8 j aa) λah=>.br (!ah) (.jE (0,3403)) (.cub 1 40 [2,3,4,5,6] [0,64] (.cc (bzt j.Xl.Xf ab) λai=>.jS (!ai) (.oo ((ac.length:Int) !=(j.Xd.length:Int)))) λai=>.br ai (.jE (0,4501)) (.loop (λs (aj:Bf)=>pk s [3,4,5,6,41,42] [0] [(2,q aj.1),(43,pz aj.2.2)] [(64,.box [q aj.2.1])]) (.exit 0) (λs (aj:A4)=>pk s [3,4,5,6] [0] [] [(64,.box [q aj])]) (λaj=>let ak:=(⟨aj.2.1⟩:azm);let al:=ad.getD (X3 aj.2.2) qu;let am:=al.XL;let an:=j.Xk.getD (am.toNat) qu;.jR (aj.2.2<ae) (.gh aj.2.2 ad.length<|.cc (kzb af ak (al.Xp)) λao=>.cub 1 82 [2,3,4,5,6,13,14,16,41,42,43] [0,64,1408,2304] (.jS (!ao.2) (.cc (jzo af (al.Xp) am) λap=>.jS (!ap) (.gh am j.Xk.length<|.call (izc af (al.Xp.Xu) (al.Xp.Place) (an.At)) [] λaq=>.oo (!aq)))) λap=>.br ap (.ff (aj.2.2,3901)) (.gh am j.Xk.length<|.call (jzn af ak (al.Path) aj.1 (an.At)) [] λaq=>.br (!aq) (.ff (aj.2.2,4401)) (.gh am j.Xk.length<|.nn (an.At,ao.1.Xg,(qt.wrap (aj.2.2+1)))))) (.oo aj.2.1)) (ab,aa.Xg,0) [] λaj=>.cc (xz9 j (⟨aj⟩:azm) ac) λak=>.br (!ak) (.jE (ae,3902)) (.jE (ae,0)))))
def fzq:=
 mkq5 func16 qz4 (λr=>.tup [pz r.1,pz r.2])
def law39_awake_T:T Bool:=
 .cc (law39_one_C) λj=>let aa:=(⟨j.Xl,j.Xd,j.Xh,j.Xi,j.Xk,j.Xq⟩:az2);
 .conv 1001 (kL ([0]:A4) 3)<|.conv 2002 (kL ([0,0]:A4) 2)<|.conv 2003 (kL ([1]:A4) 3)<|.cc (hzc 1 9) λab=>.cc (mz1 aa (⟨([0]:A4)⟩:azm) ([0,0]:A4) ([1]:A4) ab 3) λac=>.conv 3002 (kL ([0,0]:A4) 2)<|.conv 3003 (kL ([1]:A4) 3)<|.cc (fzq aa (⟨([0]:A4)⟩:azm) ([0,0]:A4) ([1]:A4) ac.1) λad=>.br (ac.2==1) (.br ((ac.1.length:Int)==2) (.br (ad.1==2) (.jE (ad.2==0)) (.jE false)) (.jE false)) (.jE false)
def law39_awake_C:CallS Bool:=
 mkD func7 (law39_awake_T) 0 [] [] (λr=>q r) X6
def az4a (j:A4):T Ah:=
 .jE (j,0)
def iz0:=
 mkv1 func27 az4a (λ_=>X7 0) (λr=>[(0,.box [q r.1,pz r.2])])
def yze (j:A4)(aa:Int)(ab:Int):T (Int×A4×Int):=let ac:=qt.wrap (aa+1);let ad:=qt.wrap (ac-1);.jR (aa>=(j.length:Int)) (.jE (0,j,aa)) (.gh ad j.length<|.call (gzq (j.getD (ad.toNat) qu) ab) [] λae=>.jE (ae,j,ac))
def bzi (j)(aa)(ab):=
 mkD func29 (yze j aa ab) 1 [X7 0,pz ab] [(0,.box [q j,pz aa])] (λr=>pz r.1) (λr=>[(0,.box [q r.2.1,pz r.2.2])])
def rzg (j:A4)(aa:Int)(ab:Int):T (Int×A4×Int):=
 .call (bzi j aa (qt.wrap ((qt.wrap (2 * ab))+1))) [(0,0)] λac=>.jE ((qt.wrap (ac.1-ab)),ac.2.1,ac.2.2)
def rzf (j)(aa)(ab):=
 mkD func31 (rzg j aa ab) 1 [X7 0,pz ab] [(0,.box [q j,pz aa])] (λr=>pz r.1) (λr=>[(0,.box [q r.2.1,pz r.2.2])])
def pz5 (j:A4):T az2:=
 .cc (iz0 j) λaa=>.cc (zzf 2 64) λab=>.conv 4004 (kL ([(0,0,20)]:Bi) 89)<|.conv 4006 (kL ([(⟨1,1,([(0,0,20)]:Bi)⟩:azh)]:A2) 91)<|.grd (([(⟨1,1,([(0,0,20)]:Bi)⟩:azh)]:A2).length * 40<=140737488355328/\([(⟨1,1,([(0,0,20)]:Bi)⟩:azh)]:A2).length<=maxLen)<|.cut 0 (λs (ac:(A4×Int×A2))=>pk s [2,3,4] [0,1,2,3,4,5,6,7,8,260,261,262,263,264] [] [(128,.box [q ac.1,pz ac.2.1]),(256,.box [q ab.Xc,q ab.Xv,.vec 1280,.vec 260,.vec 261,.vec 262,.vec 263,.vec 264,pz 0]),(1280,vO ac.2.2 91)]) (.call (bzi aa.1 aa.2 2) [(0,128)] λac=>.br (ac.1==1) (.call (bzi ac.2.1 ac.2.2 5) [(0,128)] λad=>.call (bzi ad.2.1 ad.2.2 65) [(0,128)] λae=>.call (bzi ae.2.1 ae.2.2 65) [(0,128)] λaf=>.call (bzi af.2.1 af.2.2 20) [(0,128)] λag=>let ah:=([(ae.1,af.1,ag.1)]:Bi);let ai:=([(⟨(-1),(qt.wrap (1+ad.1)),ah⟩:azh)]:A2);let aj:=([(⟨1,1,([(0,0,20)]:Bi)⟩:azh)]:A2).length+ai.length;
 .conv 6013 (kL ah 89)<|.conv 6015 (kL ai 91)<|.conv 6016 (kA ([(⟨1,1,([(0,0,20)]:Bi)⟩:azh)]:A2) ai 91)<|.grd (aj * 40<=140737488355328/\aj<=maxLen)<|.oo (ag.2.1,ag.2.2,(([(⟨1,1,([(0,0,20)]:Bi)⟩:azh)]:A2)++ai))) (.oo (ac.2.1,ac.2.2,([(⟨1,1,([(0,0,20)]:Bi)⟩:azh)]:A2)))) λac=>.call (bzi ac.1 ac.2.1 3) [(0,128)] λad=>.loop (λs (ae:(A4×Int×Bi×Int))=>pk s [2,3,4] [0,1,2,3,4,5,6,7,8,256,260,261,263,264,1280] [(5,pz ae.2.2.2)] [(128,.box [q ae.1,pz ae.2.1]),(262,vO ae.2.2.1 89)]) (.exit 0) (λs (ae:(A4×Int×Bi))=>pk s [2,3,4] [0,1,2,3,4,5,6,7,8,256,260,261,263,264,1280] [] [(128,.box [q ae.1,pz ae.2.1]),(262,vO ae.2.2 89)]) (λae=>.jR (ae.2.2.2>0) (.call (bzi ae.1 ae.2.1 3) [(0,128)] λaf=>let ag:=([((qt.wrap (16 * ae.2.2.2)),(qt.wrap (8 * af.1)),0)]:Bi);let ah:=ae.2.2.1.length+ag.length;
 .conv 10008 (kL ag 89)<|.conv 10009 (kA ae.2.2.1 ag 89)<|.grd (ah * 24<=140737488355328/\ah<=maxLen)<|.nn (af.2.1,af.2.2,(ae.2.2.1++ag),(qt.wrap (ae.2.2.2-1)))) (.oo (ae.1,ae.2.1,ae.2.2.1))) (ad.2.1,ad.2.2,nl,(qt.wrap (2+ad.1))) [] λae=>.call (bzi ae.1 ae.2.1 2) [(0,128)] λaf=>.loop (λs (ag:(A1×Int))=>pk s [2,3,4] [0,1,2,3,4,5,6,7,8,128,256,260,261,262,264,1280] [(6,pz ag.2)] [(263,vO ag.1 93)]) (.exit 2) (λs (ag:A1)=>pk s [2,3,4] [0,1,2,3,4,5,6,7,8,128,256,260,261,262,264,1280] [] [(263,vO ag 93)]) (λag=>let ah:=qt.wrap (ag.2-1);let ai:=([(⟨1,(0,0,(qt.wrap (2 * ah)))⟩:ezo)]:A1);let aj:=ag.1.length+ai.length;.jR (ag.2>0) (.conv 14007 (kL ai 93)<|.conv 14008 (kA ag.1 ai 93)<|.grd (aj * 32<=140737488355328/\aj<=maxLen)<|.nn ((ag.1++ai),ah)) (.oo ag.1)) (nl,(qt.wrap (1+af.1))) [] λag=>.call (bzi af.2.1 af.2.2 4) [(0,128)] λah=>let ai:=qt.wrap (ah.1+4);
 .call (bzi ah.2.1 ah.2.2 2) [(0,128)] λaj=>.loop (λs (ak:(A4×Int×A3×Int))=>pk s [2,3,4] [0,1,2,3,4,5,6,7,8,256,260,262,263,264,1280] [(7,pz ak.2.2.2)] [(128,.box [q ak.1,pz ak.2.1]),(261,vO ak.2.2.1 87)]) (.exit 4) (λs (ak:(A4×Int×A3))=>pk s [2,3,4] [0,1,2,3,4,5,6,7,8,256,260,262,263,264,1280] [] [(128,.box [q ak.1,pz ak.2.1]),(261,vO ak.2.2 87)]) (λak=>.jR (ak.2.2.2>0) (.cc (zzg ak.2.2.2) λal=>.call (bzi ak.1 ak.2.1 2) [(0,128)] λam=>.call (bzi am.2.1 am.2.2 3) [(0,128)] λan=>let ao:=([(0,0,an.1)]:Bi);let ap:=([(⟨0,(qt.wrap (1+am.1)),ao⟩:azh)]:A2);let aq:=([(⟨al,ap⟩:bz2)]:A3);let ar:=ak.2.2.1.length+aq.length;
 .conv 19010 (kL ao 89)<|.conv 19012 (kL ap 91)<|.conv 19014 (kL aq 87)<|.conv 19015 (kA ak.2.2.1 aq 87)<|.grd (ar * 40<=140737488355328/\ar<=maxLen)<|.nn (an.2.1,an.2.2,(ak.2.2.1++aq),(qt.wrap (ak.2.2.2-1)))) (.oo (ak.1,ak.2.1,ak.2.2.1))) (aj.2.1,aj.2.2,nl,(qt.wrap (1+aj.1))) [] λak=>.loop (λs (al:Bu)=>pk s [2,3,4] [0,1,2,3,4,5,6,7,8,256,260,261,262,263,1280] [(8,pz al.2.2.2)] [(128,.box [q al.1,pz al.2.1]),(264,vO al.2.2.1 110)]) (.exit 6) (λs (al:A7)=>pk s [2,4] [0,1,2,3,4,5,6,7,8,256,260,261,262,263,1280] [] [(264,vO al 110)]) (λal=>.jR (al.2.2.2<(ag.length:Int)) (.loop (λs (am:Bu)=>pk s [2,3,4,8] [0,1,2,3,4,5,6,7,8,256,260,261,262,263,1280] [(9,pz am.2.2.2)] [(128,.box [q am.1,pz am.2.1]),(264,vO am.2.2.1 110)]) (.exit 8) (λs (am:(A4×Int×A7))=>pk s [2,3,4,8] [0,1,2,3,4,5,6,7,8,256,260,261,262,263,1280] [] [(128,.box [q am.1,pz am.2.1]),(264,vO am.2.2 110)]) (λam=>let an:=am.2.2.2;let ao:=ae.2.2.getD (an.toNat) qu;.jR (am.2.2.2<(ae.2.2.length:Int)) (.cut 0 (λs (ap:(A4×Int×A7))=>pk s [2,3,4,8,9] [0,1,2,3,4,5,6,7,8,260,261,262,263,1280] [] [(128,.box [q ap.1,pz ap.2.1]),(256,.box [q ab.Xc,q ab.Xv,.vec 1280,.vec 260,.vec 261,.vec 262,.vec 263,.vec 3520,pz ai]),(3520,vO ap.2.2 110)]) (.call (bzi am.1 am.2.1 8) [(0,128)] λap=>.jR (ap.1<7) (.gh am.2.2.2 ae.2.2.length<|.jq<|.grd (an.toNat<ae.2.2.length)<|.call (rzf ap.2.1 ap.2.2 2) [(0,128)] λaq=>let ar:=([(min 64 (qt.wrap ((ao.1)+aq.1))),ao.2.1]:A4);let au:=([(⟨al.2.2.2,am.2.2.2,ar⟩:czq)]:A7);let av:=am.2.2.1.length+au.length;
 .gh am.2.2.2 ae.2.2.length<|.jr<|.grd (an.toNat<ae.2.2.length)<|.conv 27020 (kL ar 2)<|.conv 27022 (kL au 110)<|.conv 27023 (kA am.2.2.1 au 110)<|.grd (av * 40<=140737488355328/\av<=maxLen)<|.oo (aq.2.1,aq.2.2,(am.2.2.1++au))) (.oo (ap.2.1,ap.2.2,am.2.2.1))) λap=>.nn (ap.1,ap.2.1,ap.2.2,(qt.wrap (am.2.2.2+1)))) (.oo (am.1,am.2.1,am.2.2.1))) (al.1,al.2.1,al.2.2.1,0) [] λam=>.nn (am.1,am.2.1,am.2.2,(qt.wrap (al.2.2.2+1)))) (.oo al.2.2.1)) (ak.1,ak.2.1,nl,0) [] λal=>.jE (⟨(⟨ab,ac.2.2,nl⟩:az7),ak.2.2,ae.2.2,ag,al,ai⟩:az2)
def Bzh:=
 mkp1 func8 pz5
def Iza (j:A4)(aa:Int):T Bool:=
 .loop (ik 5 [0,1] []) (.exit 0) (jk [] []) (λab=>.jR (ab<(j.length:Int)) (.gh ab j.length<|.br ((j.getD (ab.toNat) qu)==aa) (.ff true) (.nn (qt.wrap (ab+1)))) (.oo .u))
 0 [] λ_=>.jE false
def Iz9:=
 mkp2 func32 Iza
def Iz8 (j:az2)(aa:A4):T azm:=let ab:=(j.Xi.length:Int);let ac:=qt.wrap ((j.Xh.length:Int)+ab);.cc (iz0 aa) λad=>.loop (λs (ae:Bv)=>pk s [2,4,5,6] [0,64,65,320] [(7,pz ae.2.2.2)] [(192,.box [q ae.1,pz ae.2.1]),(321,vS ae.2.2.1 3)]) (.exit 0) (λs (ae:A4)=>pk s [4,6] [64,65,320] [] [(321,vS ae 3)]) (λae=>.jR (ae.2.2.2<(j.Xd.length:Int)) (.call (bzi ae.1 ae.2.1 ac) [(0,192)] λaf=>.loop (ik 8 [2,4,5,6,7] [0,64,65,192,320,321]) (.exit 2) (ik 8 [2,4,5,6,7] [0,64,65,192,320,321]) (λag=>.cc (Iz9 ae.2.2.1 ag) λah=>.br ah (.name 8005 ((qt.wrap ((qt.wrap (ag+1))+ab))) λai=>.grd (ac≠0)<|.name 8017 ((qt.wrap ((ai.tmod ac)-ab))) λaj=>.nn aj) (.oo ag)) (qt.wrap (af.1-ab)) [] λag=>let ah:=([ag]:A4);let ai:=ae.2.2.1.length+ah.length;
 .conv 9003 (kL ah 3)<|.conv 9004 (az9t 1 bz6 ae.2.2.1 ah 3)<|.grd (ai * 8<=140737488355328/\ai<=maxLen)<|.nn (af.2.1,af.2.2,(ae.2.2.1++ah),(qt.wrap (ae.2.2.2+1)))) (.oo ae.2.2.1)) (ad.1,ad.2,nl,0) [] λae=>.jE (⟨ae⟩:azm)
def Sz0:=
 mkp2 func9 Iz8
def zze (j:azk)(aa:A4):T A4:=
 .cc (iz0 aa) λab=>.loop (λs (ac:Bv)=>pk s [2,5,6] [0] [(7,pz ac.2.2.2)] [(192,.box [q ac.1,pz ac.2.1]),(320,vO ac.2.2.1 2)]) (.exit 0) (λs (ac:A4)=>pk s [6] [] [] [(320,vO ac 2)]) (λac=>let ad:=j.Xc.getD (X3 ac.2.2.2) qu;let ae:=([ad.Lo]:A4);let af:=([ad.Hi]:A4);let ag:=ac.2.2.1.length+ae.length;let ah:=ac.2.2.1.length+af.length;.jR (ac.2.2.2<(j.Xc.length:Int)) (.cut 0 (λs (ai:(A4×Int×A4))=>pk s [2,5,7] [0] [(6,.vec 832)] [(192,.box [q ai.1,pz ai.2.1]),(832,vO ai.2.2 2)]) (.gh ac.2.2.2 j.Xc.length<|.gh ac.2.2.2 j.Xc.length<|.call (bzi ac.1 ac.2.1 6) [(0,192)] λai=>.br (ai.1==0) (.conv 10002 (kL ae 2)<|.conv 10003 (kA ac.2.2.1 ae 2)<|.grd (ag * 8<=140737488355328/\ag<=maxLen)<|.oo (ai.2.1,ai.2.2,(ac.2.2.1++ae))) (.br (ai.1==1) (.conv 12002 (kL af 2)<|.conv 12003 (kA ac.2.2.1 af 2)<|.grd (ah * 8<=140737488355328/\ah<=maxLen)<|.oo (ai.2.1,ai.2.2,(ac.2.2.1++af))) (.name 8005 ((qt.wrap ((ad.Hi)- (ad.Lo)))) λaj=>.name 8006 ((qt.wrap (aj+1))) λak=>.call (bzi ai.2.1 ai.2.2 ak) [(0,192)] λal=>let am:=([(qt.wrap ((ad.Lo)+al.1))]:A4);let an:=ac.2.2.1.length+am.length;
 .conv 8009 (kL am 2)<|.conv 8010 (kA ac.2.2.1 am 2)<|.grd (an * 8<=140737488355328/\an<=maxLen)<|.oo (al.2.1,al.2.2,(ac.2.2.1++am))))) λai=>.nn (ai.1,ai.2.1,ai.2.2,(qt.wrap (ac.2.2.2+1)))) (.oo ac.2.2.1)) (ab.1,ab.2,nl,0) [] λac=>.jE ac
def zzd:=
 mkv2 func10 zze (λ_=>.vec 0) (λr=>[(0,vO r 2)])
def Dz9 (j:az2)(aa:A4):T A4:=let ab:=(j.Xh.length:Int);.cc (iz0 aa) λac=>.loop (λs (ad:Bv)=>pk s [2,5,6] [0] [(7,pz ad.2.2.2)] [(192,.box [q ad.1,pz ad.2.1]),(320,vO ad.2.2.1 3)]) (.exit 0) (λs (ad:A4)=>pk s [6] [] [] [(320,vO ad 3)]) (λad=>.jR (ad.2.2.2<(j.Xd.length:Int)) (.call (bzi ad.1 ad.2.1 (qt.wrap (ab+1))) [(0,192)] λae=>.cut 0 (λs (af:Int)=>pk s [2,5,6,7] [0,192,320] [(8,pz af)] []) (.br (ae.1==ab) (.oo (-1048576)) (.oo ae.1)) λaf=>let ag:=([af]:A4);let ah:=ad.2.2.1.length+ag.length;
 .conv 9002 (kL ag 3)<|.conv 9003 (kA ad.2.2.1 ag 3)<|.grd (ah * 8<=140737488355328/\ah<=maxLen)<|.nn (ae.2.1,ae.2.2,(ad.2.2.1++ag),(qt.wrap (ad.2.2.2+1)))) (.oo ad.2.2.1)) (ac.1,ac.2,nl,0) [] λad=>.jE ad
def Dz8:=
 mkp2 func11 Dz9
def Izz (j:ByteArray):T Bool:=let aa:=(j.size:Int);.cub 2 16 [0] [] (.jU (aa<1) (.jU (aa>16) (.oo (j==(⟨#[119,111,114,108,100]⟩:ByteArray))))) λab=>.br ab (.jE false) (.loop (ik 3 [0] []) (.exit 0) (jk [] []) (λac=>let ad:=((j.data.getD ac.toNat 0).toNat:Int);.jR (ac<aa) (.cub 1 4 [0,3] [] (.gh ac j.size<|.jR (ad>=97) (.gh ac j.size<|.oo (qv (ad<=122))) (.oo false)) λae=>.cub 0 56 [0,3] [] (.jT (!ae) (.jS (ac==0) (.gh ac j.size<|.jT (ad !=95) (.gh ac j.size<|.jU (ad<48) (.gh ac j.size<|.oo (qv (ad>57))))))) λaf=>.br af (.ff false) (.nn (qt.wrap (ac+1)))) (.oo .u))
 0 [] λ_=>.jE true)
def Izy:=
 mkp1 func161 Izz
def Jz0 (j:Bh)(aa:Int):T Bool:=let ab:=qt.wrap (0-aa);.unroll 4<|.jC<|.cub 1 22 [1,2,5] [0] (.jq<|.jU (j.1<ab) (.jq<|.oo (qv (j.1>aa)))) λac=>.br ac (.jE false) (.lit 3001 1<|.jC<|.cub 1 22 [1,2,5] [0] (.jr<|.jU (j.2.1<ab) (.jr<|.oo (qv (j.2.1>aa)))) λad=>.br ad (.jE false) (.lit 3001 2<|.jC<|.cub 1 22 [1,2,5] [0] (.jt<|.jU (j.2.2<ab) (.jt<|.oo (qv (j.2.2>aa)))) λae=>.br ae (.jE false) (.lit 3001 3<|.jD<|.jE true)))
def ezs:=
 mkp2 func101 Jz0
def Ezn (j:Int):T Int:=
 .br (j==0) (.jE 0) (.cub 0 6 [] [] (.br (j==1) (.oo (j==1)) (.br (j==2) (.oo (j==2)) (.oo (j==3)))) λaa=>.br aa (.jE 524288) (.jE 4194304))
def Ozr:=
 mkp1 func189 Ezn
def wzv (j:Int)(aa:Int)(ab:Int):T Bool:=
 .jR (aa<=j) (.jE (qv (j<=ab))) (.jE false)
def fzz:=
 mkp3 func110 wzv
def nz6 (j:A0)(aa:Int):T Int:=let ab:=j.getD (aa.toNat) qu;let ac:=ab.Xn;.gh aa j.length<|.cc (Izy (ab.XG)) λad=>.br (!ad) (.jE 802) (.loop (ik 6 [0,1,5] [320]) (.exit 0) (jk [1,5] [320]) (λae=>.jR (ae<aa) (.gh ae j.length<|.br (((j.getD (ae.toNat) qu).XG)==(ab.XG)) (.ff 802) (.nn (qt.wrap (ae+1)))) (.oo .u))
 0 [] λ_=>.cub 1 36 [1,5] [320] (.jU (ac<0) (.oo (qv (ac>6)))) λae=>.br ae (.jE 803) (.cub 1 45 [5] [320] (.jU ((ab.XD)<(-1)) (.oo (qv ((ab.XD)>=aa)))) λaf=>.br af (.jE 804) (.cc (ezs (ab.Xy) 4194304) λag=>.br (!ag) (.jE 805) (.cc (Ozr ac) λah=>.cub 0 70 [5] [320] (.jU ((ab.Lo)>(ab.Hi)) (.jU ((ab.Lo)<(qt.wrap (0-ah))) (.oo (qv ((ab.Hi)>ah))))) λai=>.br ai (.jE 806) (.cub 1 92 [] [] (.cc (fzz (ab.XQ) 1 1024) λaj=>.jS (!aj) (.cc (fzz (ab.XU) 1 1048576) λak=>.jS (!ak) (.cc (fzz (ab.XV) 1 1048576) λal=>.jS (!al) (.cc (fzz (ab.XR) 1 1099511627776) λam=>.oo (!am))))) λaj=>.br aj (.jE 807) (.jE 0))))))
def xzw:=
 mkp2 func123 nz6
def nz4 (j:azk):T Int:=let aa:=(j.Xc.length:Int);let ab:=(j.Xv.length:Int);.cub 2 16 [1] [0] (.jU (aa<1) (.oo (qv (aa>10)))) λac=>.br ac (.jE 801) (.loop (ik 3 [1] [0]) (.exit 0) (jk [1] [0]) (λad=>.jR (ad<aa) (.cc (xzw j.Xc ad) λae=>.br (ae !=0) (.ff ae) (.nn (qt.wrap (ad+1)))) (.oo .u))
 0 [] λ_=>.jR (ab>32) (.jE 808) (.loop (ik 5 [1] [0]) (.exit 2) (jk [] []) (λad=>let ae:=j.Xv.getD (ad.toNat) qu;.jR (ad<ab) (.gh ad j.Xv.length<|.cub 0 69 [1,5] [0] (.jU ((ae.XA)<0) (.jU ((ae.XA)>=aa) (.cc (fzz (ae.XX) 1 65536) λaf=>.jS (!af) (.cc (ezs (ae.XO) 4194304) λag=>.oo (!ag))))) λaf=>.br af (.ff 808) (.nn (qt.wrap (ad+1)))) (.oo .u))
 0 [] λ_=>.jE 0))
def cze:=
 mkp1 func65 nz4
def Azq (j:azk)(aa:Int):T Bool:=
 .jR (aa>=(-1)) (.jE (qv (aa<(j.Xc.length:Int)))) (.jE false)
def fz2:=
 mkp2 func109 Azq
def nz5 (j:az7):T Int:=let aa:=(j.Xr.length:Int);let ab:=(j.Xe.length:Int);.cc (cze j.Xf) λac=>.br (ac !=0) (.jE ac) (.jR (ab>24) (.jE 901) (.loop (ik 4 [1] [0]) (.exit 0) (jk [1] [0]) (λad=>let ae:=j.Xe.getD (ad.toNat) qu;let af:=(ae.Xa.length:Int);.jR (ad<ab) (.gh ad j.Xe.length<|.cub 1 53 [1,4,5] [0,1536] (.cc (fz2 j.Xf (ae.XA)) λag=>.jS (!ag) (.cc (fzz (ae.XE) 1 1048576) λah=>.jS (!ah) (.jU (af<1) (.oo (qv (af>8)))))) λag=>.br ag (.ff 902) (.loop (ik 6 [1,4,5] [0,1536]) (.exit 2) (jk [1,4] [0]) (λah=>.jR (ah<af) (.gh ah (ae.Xa.length)<|.call (ezs ((ae.Xa).getD (ah.toNat) qu) 4194304) [] λai=>.br (!ai) (.ff (.fin 805)) (.nn (qt.wrap (ah+1)))) (.oo .u))
 0 [] λ_=>.nn (qt.wrap (ad+1)))) (.oo .u))
 0 [] λ_=>.jR (aa>64) (.jE 903) (.loop (ik 7 [1] [0]) (.exit 4) (jk [] []) (λad=>let ae:=j.Xr.getD (ad.toNat) qu;.jR (ad<aa) (.cub 1 100 [1,7] [0] (.gh ad j.Xr.length<|.cc (fz2 j.Xf (ae.A)) λaf=>.jS (!af) (.gh ad j.Xr.length<|.cc (fz2 j.Xf (ae.B)) λag=>.oo (!ag))) λaf=>.br af (.ff 903) (.nn (qt.wrap (ad+1)))) (.oo .u))
 0 [] λ_=>.jE 0)))
def czf:=
 mkp1 func56 nz5
def vzp (j:azk)(aa:A4):T Bool:=let ab:=(aa.length:Int);.cub 2 16 [1,2] [0] (.cc (cze j) λac=>.jS (ac !=0) (.oo (ab !=(j.Xc.length:Int)))) λac=>.br ac (.jE false) (.loop (ik 5 [1,2] [0]) (.exit 0) (jk [] []) (λad=>let ae:=aa.getD (ad.toNat) qu;let af:=j.Xc.getD (ad.toNat) qu;.jR (ad<ab) (.cub 1 46 [1,2,5] [0] (.gh ad aa.length<|.gh ad j.Xc.length<|.jU (ae<(af.Lo)) (.gh ad aa.length<|.gh ad j.Xc.length<|.oo (qv (ae>(af.Hi))))) λag=>.br ag (.ff false) (.nn (qt.wrap (ad+1)))) (.oo .u))
 0 [] λ_=>.jE true)
def dzn:=
 mkp2 func34 vzp
def lz8 (j:azh):T Bool:=let aa:=(j.Xa.length:Int);.cub 2 23 [1] [0] (.jU (j.XE<1) (.jU (j.XE>1048576) (.jU (aa<1) (.oo (qv (aa>8)))))) λab=>.br ab (.jE false) (.loop (ik 3 [1] [0]) (.exit 0) (jk [] []) (λac=>.jR (ac<aa) (.gh ac j.Xa.length<|.cc (ezs (j.Xa.getD (ac.toNat) qu) 4194304) λad=>.br (!ad) (.ff false) (.nn (qt.wrap (ac+1)))) (.oo .u))
 0 [] λ_=>.jE true)
def lz7:=
 mkp1 func115 lz8
def wzo (j:bz2):T Bool:=let aa:=(j.Xe.length:Int);.cub 2 15 [1] [0] (.cc (Izy j.XG) λab=>.jS (!ab) (.oo (aa==0))) λab=>.br ab (.jE false) (.loop (ik 3 [1] [0]) (.exit 0) (jk [] []) (λac=>let ad:=j.Xe.getD (ac.toNat) qu;.jR (ac<aa) (.gh ac j.Xe.length<|.cub 1 35 [1,3,4] [0,960] (.cc (lz7 ad) λae=>.jS (!ae) (.oo ((ad.XA) !=0))) λae=>.br ae (.ff false) (.loop (ik 5 [1,3,4] [0,960]) (.exit 2) (jk [1,3] [0]) (λaf=>.jR (af<(ad.Xa.length:Int)) (.gh af (ad.Xa.length)<|.call (ezs ((ad.Xa).getD (af.toNat) qu) 2097152) [] λag=>.br (!ag) (.ff (.fin false)) (.nn (qt.wrap (af+1)))) (.oo .u))
 0 [] λ_=>.nn (qt.wrap (ac+1)))) (.oo .u))
 0 [] λ_=>.jE true)
def Hze:=
 mkp1 func102 wzo
def mzz (j:az2):T Int:=let aa:=(j.Xi.length:Int);let ab:=(j.Xk.length:Int);let ac:=(j.Xh.length:Int);let ad:=(j.Xd.length:Int);.cc (czf j.Xl) λae=>.br (ae !=0) (.jE ae) (.cub 1 49 [1] [0] (.jU (ad>6) (.jU (ac>8) (.jU (aa>3) (.jU (ab>32) (.jU (j.Xq<0) (.oo (qv (j.Xq>65536)))))))) λaf=>.br af (.jE 3401) (.loop (ik 4 [1] [0]) (.exit 0) (jk [1] [0]) (λag=>.jR (ag<ac) (.gh ag j.Xh.length<|.cc (ezs (j.Xh.getD (ag.toNat) qu) 2097152) λah=>.br (!ah) (.ff 3401) (.nn (qt.wrap (ag+1)))) (.oo .u))
 0 [] λ_=>.loop (ik 5 [1] [0]) (.exit 2) (jk [1] [0]) (λag=>let ah:=j.Xi.getD (ag.toNat) qu;.jR (ag<aa) (.gh ag j.Xi.length<|.cub 0 94 [1,5] [0] (.jU ((ah.XA)<0) (.jU ((ah.XA)>=(j.Xl.Xf.Xc.length:Int)) (.cc (ezs (ah.Xy) 2097152) λai=>.oo (!ai)))) λai=>.br ai (.ff 3401) (.nn (qt.wrap (ag+1)))) (.oo .u))
 0 [] λ_=>.loop (ik 7 [1] [0]) (.exit 4) (jk [1] [0]) (λag=>let ah:=j.Xk.getD (ag.toNat) qu;.jR (ag<ab) (.gh ag j.Xk.length<|.cub 0 139 [1,7] [0] (.jU ((ah.Xu)<0) (.jU ((ah.Xu)>=aa) (.jU ((ah.Place)<0) (.jU ((ah.Place)>=ac) (.cc (dzn j.Xl.Xf (ah.At)) λai=>.oo (!ai)))))) λai=>.br ai (.ff 3401) (.nn (qt.wrap (ag+1)))) (.oo .u))
 0 [] λ_=>.loop (λs (ag:B2)=>pk s [1] [0] [(9,pz ag.1),(10,pz ag.2)] []) (.exit 6) (ik 9 [] []) (λag=>let ah:=j.Xd.getD (X3 ag.2) qu;.jR (ag.2<ad) (.gh ag.2 j.Xd.length<|.cc (Hze ah) λai=>.br (!ai) (.ff 3402) (.loop (ik 11 [1,9,10] [0]) (.exit 8) (jk [1,9,10] [0]) (λaj=>.jR (aj<ag.2) (.gh aj j.Xd.length<|.gh ag.2 j.Xd.length<|.br (((j.Xd.getD (aj.toNat) qu).XG)==(ah.XG)) (.ff (.fin 3402)) (.nn (qt.wrap (aj+1)))) (.oo .u))
 0 [] λ_=>.gh ag.2 j.Xd.length<|.name 34008 ((qt.wrap (ag.1+(ah.Xe.length:Int)))) λaj=>.nn (aj,(qt.wrap (ag.2+1))))) (.oo ag.1)) ((j.Xl.Xe.length:Int),0) [] λag=>.jR (ag>24) (.jE 3401) (.jE 0)))
def gzm:=
 mkp1 func49 mzz
def nz1 (j:az2)(aa:azm):T Bool:=let ab:=(aa.Xg.length:Int);.cub 2 18 [2,3] [0,64] (.cc (gzm (⟨j.Xl,j.Xd,j.Xh,j.Xi,j.Xk,j.Xq⟩:az2)) λac=>.jS (ac !=0) (.oo (ab !=(j.Xd.length:Int)))) λac=>.br ac (.jE false) (.loop (ik 5 [2,3] [0,64]) (.exit 0) (jk [] []) (λad=>let ae:=aa.Xg.getD (ad.toNat) qu;.jR (ad<ab) (.cub 2 46 [2,3,5] [0,64] (.gh ad aa.Xg.length<|.jU (ae<(qt.wrap (0- (j.Xi.length:Int)))) (.gh ad aa.Xg.length<|.oo (qv (ae>=(j.Xh.length:Int))))) λaf=>.br af (.ff false) (.loop (ik 6 [2,3,5] [0,64]) (.exit 2) (jk [2,3,5] [0,64]) (λag=>.jR (ag<ad) (.gh ag aa.Xg.length<|.gh ad aa.Xg.length<|.br ((aa.Xg.getD (ag.toNat) qu)==ae) (.ff (.fin false)) (.nn (qt.wrap (ag+1)))) (.oo .u))
 0 [] λ_=>.nn (qt.wrap (ad+1)))) (.oo .u))
 0 [] λ_=>.jE true)
def dzj:=
 mkp2 func33 nz1
def jz8 (j:cz5):T Bool:=
 .jR (j.XF>=0) (.jR (j.XF<=1022) (.jR (j.XJ>=1) (.jR (j.XJ<=16) (.jR (j.Xj>=0) (.jR (j.Xj<=20) (.jR (j.XM>=0) (.jE (qv (j.XM<=8192))) (.jE false)) (.jE false)) (.jE false)) (.jE false)) (.jE false)) (.jE false)) (.jE false)
def nzz:=
 mkp1 func35 jz8
def Azp (j:azm)(aa:A4):T Bool:=
 .loop (ik 5 [1,2] [0]) (.exit 0) (jk [] []) (λab=>let ac:=aa.getD (ab.toNat) qu;.jR (ab<(aa.length:Int)) (.cub 1 28 [1,2,5] [0] (.gh ab aa.length<|.jT (ac !=(-1048576)) (.gh ab aa.length<|.gh ab j.Xg.length<|.oo (ac !=(j.Xg.getD (ab.toNat) qu)))) λad=>.br ad (.ff false) (.nn (qt.wrap (ab+1)))) (.oo .u))
 0 [] λ_=>.jE true
def Kzw:=
 mkp2 func66 Azp
def szz (j:az2)(aa:Int)(ab:Int):T Bool:=
 .loop (ik 7 [1,2,3] [0]) (.exit 0) (jk [] []) (λac=>let ad:=j.Xk.getD (ac.toNat) qu;.jR (ac<(j.Xk.length:Int)) (.cub 1 32 [1,2,3,7] [0] (.gh ac j.Xk.length<|.jT ((ad.Xu)==aa) (.gh ac j.Xk.length<|.oo ((ad.Place)==ab))) λae=>.br ae (.ff true) (.nn (qt.wrap (ac+1)))) (.oo .u))
 0 [] λ_=>.jE false
def Ezj:=
 mkp3 func100 szz
def pzk (j:azm)(aa:Int):T Int:=
 .loop (ik 5 [1,2] [0]) (.exit 0) (jk [] []) (λab=>.jR (ab<(j.Xg.length:Int)) (.gh ab j.Xg.length<|.br ((j.Xg.getD (ab.toNat) qu)==aa) (.ff ab) (.nn (qt.wrap (ab+1)))) (.oo .u))
 0 [] λ_=>.jE (-1)
def fzp:=
 mkp2 func48 pzk
def Izx (j:az2)(aa:azm)(ab:aza):T Bool:=let ac:=(⟨aa.Xg⟩:azm);.cub 2 41 [4,5] [64,128] (.jU (ab.Xu<0) (.jU (ab.Xu>=(j.Xi.length:Int)) (.jU (ab.Place<0) (.jU (ab.Place>=(j.Xh.length:Int)) (.cc (Ezj j ab.Xu ab.Place) λad=>.oo (!ad)))))) λad=>.br ad (.jE false) (.cc (fzp ac (qt.wrap ((-1)-ab.Xu))) λae=>let af:=qv (ae>=0);
 .cc (fzp ac ab.Place) λag=>let ah:=qv (ag>=0);
 .br (ab.Xn==1) (.br (!af) (.br ah (.jE true) (.br (ab.Xn==2) (.br af (.jE (!ah)) (.jE false)) (.jE false))) (.br (ab.Xn==2) (.br af (.jE (!ah)) (.jE false)) (.jE false))) (.br (ab.Xn==2) (.br af (.jE (!ah)) (.jE false)) (.jE false)))
def Azo:=
 mkp3 func47 Izx
def szs (j:az2)(aa:azm):T A9:=
 .cc (dzj j aa) λab=>.br (!ab) (.jE nl) (.loop (λs (ac:Aa)=>pk s [2,3,5] [0,64] [(6,pz ac.2)] [(448,vO ac.1 62)]) (.exit 0) (λs (ac:A9)=>pk s [5] [] [] [(448,vO ac 62)]) (λac=>.jR (ac.2<=2) (.loop (λs (ad:Aa)=>pk s [2,3,5,6] [0,64] [(7,pz ad.2)] [(448,vO ad.1 62)]) (.exit 2) (λs (ad:A9)=>pk s [2,3,5,6] [0,64] [] [(448,vO ad 62)]) (λad=>.jR (ad.2<(j.Xi.length:Int)) (.loop (λs (ae:Aa)=>pk s [2,3,5,6,7] [0,64] [(8,pz ae.2)] [(448,vO ae.1 62)]) (.exit 4) (λs (ae:A9)=>pk s [2,3,5,6,7] [0,64] [] [(448,vO ae 62)]) (λae=>let af:=(⟨ac.2,ad.2,ae.2⟩:aza);let ag:=([af]:A9);let ah:=ae.1.length+ag.length;.jR (ae.2<(j.Xh.length:Int)) (.cut 0 (λs (ai:A9)=>pk s [2,3,6,7,8] [0,64] [(5,.vec 1664)] [(1664,vO ai 62)]) (.cc (Azo (⟨j.Xl,j.Xd,j.Xh,j.Xi,j.Xk,j.Xq⟩:az2) (⟨aa.Xg⟩:azm) af) λai=>.br ai (.conv 15002 (kL ag 62)<|.conv 15003 (kA ae.1 ag 62)<|.grd (ah * 24<=140737488355328/\ah<=maxLen)<|.oo (ae.1++ag)) (.oo ae.1)) λai=>.nn (ai,(qt.wrap (ae.2+1)))) (.oo ae.1)) (ad.1,0) [] λae=>.nn (ae,(qt.wrap (ad.2+1)))) (.oo ad.1)) (ac.1,0) [] λad=>.nn (ad,(qt.wrap (ac.2+1)))) (.oo ac.1)) (nl,1) [] λac=>.jE ac)
def lzg:=
 mkp2 func67 szs
def pzp (j:azm)(aa:azm):T Bool:=let ab:=(j.Xg.length:Int);.br (ab !=(aa.Xg.length:Int)) (.jE false) (.loop (ik 5 [2,3] [0,64]) (.exit 0) (jk [] []) (λac=>.jR (ac<ab) (.gh ac j.Xg.length<|.gh ac aa.Xg.length<|.br ((j.Xg.getD (ac.toNat) qu) !=(aa.Xg.getD (ac.toNat) qu)) (.ff false) (.nn (qt.wrap (ac+1)))) (.oo .u))
 0 [] λ_=>.jE true)
def pzo:=
 mkp2 func69 pzp
def wzs (j:Ab)(aa:azm)(ab:aza):T Bool:=
 .loop (ik 7 [0,4,5] [0,64]) (.exit 0) (jk [] []) (λac=>let ad:=j.getD (ac.toNat) qu;.jR (ac<(j.length:Int)) (.cub 1 29 [0,4,5,7] [0,64] (.gh ac j.length<|.jT (((ad.Xp.Xn)==ab.Xn)&&(((ad.Xp.Xu)==ab.Xu)&&(((ad.Xp.Place)==ab.Place)&&true))) (.gh ac j.length<|.cc (pzo (ad.XS) aa) λae=>.oo ae)) λae=>.br ae (.ff true) (.nn (qt.wrap (ac+1)))) (.oo .u))
 0 [] λ_=>.jE false
def wzr:=
 mkp3 func68 wzs
def Azl (j:az2)(aa:azm)(ab:aza):T (azm×Bool):=let ac:=qt.wrap ((-1)-ab.Xu);.cub 2 19 [4,5,6] [64,128,192,193] (.cc (dzj j aa) λad=>.jS (!ad) (.cc (Azo j aa ab) λae=>.oo (!ae))) λad=>.br ad (.jE ((⟨nl⟩:azm),false)) (.grd (aa.Xg.length * 8<=140737488355328/\aa.Xg.length<=maxLen)<|.cut 0 (λs (ae:A4)=>pk s [6,8] [192,193,640] [] [(512,vO ae 3)]) (.br (ab.Xn==1) (.cc (fzp aa ab.Place) λae=>.gh ae aa.Xg.length<|.conv 5010 (kS aa.Xg 3 (ae.toNat) ac)<|.gi (ae) aa.Xg.length<|.oo (aa.Xg.set (ae.toNat) ac)) (.cc (fzp aa ac) λae=>.gh ae aa.Xg.length<|.conv 6010 (kS aa.Xg 3 (ae.toNat) ab.Place)<|.gi (ae) aa.Xg.length<|.oo (aa.Xg.set (ae.toNat) ab.Place))) λae=>.jE ((⟨ae⟩:azm),true))
def fz1:=
 mkq3 func18 Azl (λr=>.tup [q r.1,q r.2])
def nz3 (j:az2)(aa:azm)(ab:A4)(ac:Int)(ad:Ab):T (A9×Bool):=let ae:=([(⟨aa,(-1),(⟨0,0,0⟩:aza),0⟩:azy)]:Ay);.cub 2 41 [2,3,4,5,6] [0,64] (.cc (dzj j aa) λaf=>.jS (!af) (.jS ((ab.length:Int) !=(j.Xd.length:Int)) (.jU (ac<0) (.oo (qv (ac>16)))))) λaf=>.br af (.jE (nl,false)) (.conv 3002 (kL ae 165)<|.loop (λs (ag:(Ay×Int))=>pk s [2,3,4,5,12] [0] [(13,pz ag.2)] [(448,vO ag.1 165)]) (.exit 0) (jk [] []) (λag=>let ah:=(ag.2).toNat;let ai:=ag.1.getD ah qu;.jR (ag.2<(ag.1.length:Int)) (.cut 0 (λs (aj:Ay)=>pk s [2,3,4,5,12,13] [0] [] [(448,vO aj 165)]) (.gg ag.2 ag.1.length<|.cc (Kzw (ai.mode) ab) λaj=>.br aj (.loop (λs (ak:Aa)=>pk s [12,14] [448] [(15,pz ak.2)] [(1408,vO ak.1 62)]) (.exit 2) (λs (ak:A9)=>pk s [14] [] [] [(1408,vO ak 62)]) (λak=>let al:=ag.1.getD (X3 ak.2) qu;let am:=([al.action]:A9);let an:=am.length+ak.1.length;.gg ak.2 ag.1.length<|.jR ((al.before)>=0) (.gg ak.2 ag.1.length<|.conv 12005 (kL am 62)<|.conv 12007 (kA am ak.1 62)<|.grd (an * 24<=140737488355328/\an<=maxLen)<|.gg ak.2 ag.1.length<|.nn ((am++ak.1),al.before)) (.oo ak.1)) (nl,ag.2) [] λak=>.ff (.fin (ak,true))) (.gg ag.2 ag.1.length<|.br ((ai.depth)==ac) (.oo ag.1) (.gg ag.2 ag.1.length<|.cc (lzg j (ai.mode)) λak=>.loop (λs (al:(Ay×Int))=>pk s [2,3,4,5,12,13,16] [0] [(17,pz al.2)] [(448,vO al.1 165)]) (.exit 4) (λs (al:Ay)=>pk s [2,3,4,5,12,13] [0] [] [(448,vO al 165)]) (λal=>let am:=ak.getD (X3 al.2) qu;let an:=al.1.getD ah qu;.jR (al.2<(ak.length:Int)) (.cut 0 (λs (ao:Ay)=>pk s [2,3,4,5,12,13,16,17] [0] [] [(448,vO ao 165)]) (.gg ag.2 al.1.length<|.gh al.2 ak.length<|.cc (wzr ad (an.mode) am) λao=>.br ao (.oo al.1) (.gg ag.2 al.1.length<|.gh al.2 ak.length<|.cc (fz1 j (an.mode) am) λap=>.loop (λs (aq:(Bool×Int))=>pk s [2,3,4,5,12,13,16,17,18] [0,448,4352] [(20,q aq.1),(21,pz aq.2)] []) (.exit 6) (λs (aq:Bool)=>pk s [2,3,4,5,12,13,16,17,18] [0,448,4352] [(20,q aq)] []) (λaq=>.jR (aq.2<(al.1.length:Int)) (.cub 0 20 [2,3,4,5,12,13,16,17,18,21] [0,448,4352] (.jS aq.1 (.gg aq.2 al.1.length<|.cc (pzo ((al.1.getD (X3 aq.2) qu).mode) ap.1) λar=>.oo ar)) λar=>.nn (ar,(qt.wrap (aq.2+1)))) (.oo aq.1)) (false,0) [] λaq=>.br (!aq) (.gh al.2 ak.length<|.gg ag.2 al.1.length<|.name 27012 ((qt.wrap ((an.depth)+1))) λar=>let au:=([(⟨ap.1,ag.2,am,ar⟩:azy)]:Ay);let av:=al.1.length+au.length;
 .conv 27014 (kL au 165)<|.conv 27015 (kA al.1 au 165)<|.grd (av * 64<=140737488355328/\av<=maxLen)<|.oo (al.1++au)) (.oo al.1))) λao=>.nn (ao,(qt.wrap (al.2+1)))) (.oo al.1)) (ag.1,0) [] λal=>.oo al))) λaj=>.nn (aj,(qt.wrap (ag.2+1)))) (.oo .u)) (ae,0) [] λ_=>.jE (nl,false))
def nz2:=
 mkq5 func36 nz3 (λr=>.tup [q r.1,q r.2])
def szr (j:azh)(aa:Int)(ab:Bh):T azh:=
 .loop (λs (ac:Bj)=>pk s [3,5,6,7] [0,64,128,131,448] [(8,pz ac.2)] [(386,vO ac.1 89)]) (.exit 0) (λs (ac:Bi)=>pk s [6,7] [128,131,448] [] [(386,vO ac 89)]) (λac=>let ad:=j.Xa.getD (X3 ac.2) qu;let ae:=([((qt.wrap ((ad.1)+ab.1)),(qt.wrap ((ad.2.1)+ab.2.1)),(qt.wrap ((ad.2.2)+ab.2.2)))]:Bi);let af:=ac.1.length+ae.length;.jR (ac.2<(j.Xa.length:Int)) (.gh ac.2 j.Xa.length<|.jq<|.jq<|.jr<|.jr<|.jt<|.jt<|.conv 6018 (kL ae 89)<|.conv 6019 (kA ac.1 ae 89)<|.grd (af * 24<=140737488355328/\af<=maxLen)<|.nn ((ac.1++ae),(qt.wrap (ac.2+1)))) (.oo ac.1)) (nl,0) [] λac=>.jE (⟨aa,j.XE,ac⟩:azh)
def Ezi:=
 mkp3 func50 szr
def szq (j:az2)(aa:azm):T (az7×Int):=
 .cc (gzm j) λab=>.br (ab !=0) (.jE ((⟨(⟨nl,nl⟩:azk),nl,nl⟩:az7),ab)) (.cc (dzj j aa) λac=>.br (!ac) (.jE ((⟨(⟨nl,nl⟩:azk),nl,nl⟩:az7),3403)) (.grd (j.Xl.Xe.length * 40<=140737488355328/\j.Xl.Xe.length<=maxLen)<|.loop (λs (ad:Ac)=>pk s [2,3,4,7] [0,64,128,129,130,131,132,1536] [(8,pz ad.2)] [(1216,vO ad.1 91)]) (.exit 0) (λs (ad:A2)=>pk s [4,7] [128,129,130,131,132,1536] [] [(1216,vO ad 91)]) (λad=>let ae:=(ad.2).toNat;let af:=aa.Xg.getD ae qu;let ag:=qt.wrap ((-1)-af);let ah:=j.Xi.getD (ag.toNat) qu;let ai:=j.Xh.getD (af.toNat) qu;let aj:=j.Xd.getD ae qu;.jR (ad.2<(j.Xd.length:Int)) (.cut 2 (λs (ak:Bx)=>pk s [2,3,4,7,8,10] [0,64,128,129,130,131,132,1216,1536] [(9,pz ak.1)] [(2176,.box [pz ak.2.1,pz ak.2.2.1,pz ak.2.2.2])]) (.gh ad.2 aa.Xg.length<|.jR (af>=0) (.gh af j.Xh.length<|.oo ((-1),ai.1,ai.2.1,ai.2.2)) (.gh ag j.Xi.length<|.gh ag j.Xi.length<|.oo (ah.XA,ah.Xy.1,ah.Xy.2.1,ah.Xy.2.2))) λak=>.loop (λs (al:Ac)=>pk s [2,3,4,7,8,9,10] [0,64,128,129,130,131,132,1536,2176] [(12,pz al.2)] [(1216,vO al.1 91)]) (.exit 2) (λs (al:A2)=>pk s [2,3,4,7,8] [0,64,128,129,130,131,132,1536] [] [(1216,vO al 91)]) (λal=>.gh ad.2 j.Xd.length<|.jR (al.2<(aj.Xe.length:Int)) (.gh ad.2 j.Xd.length<|.gh al.2 (aj.Xe.length)<|.call (Ezi ((aj.Xe).getD (X3 al.2) qu) ak.1 (ak.2.1,ak.2.2.1,ak.2.2.2)) [] λam=>let an:=([am]:A2);let ao:=al.1.length+an.length;
 .conv 18014 (kL an 91)<|.conv 18015 (kA al.1 an 91)<|.grd (ao * 40<=140737488355328/\ao<=maxLen)<|.nn ((al.1++an),(qt.wrap (al.2+1)))) (.oo al.1)) (ad.1,0) [] λal=>.nn (al,(qt.wrap (ad.2+1)))) (.oo ad.1)) (j.Xl.Xe,0) [] λad=>.jE ((⟨j.Xl.Xf,ad,j.Xl.Xr⟩:az7),0)))
def dzq:=
 mkq2 func19 szq (λr=>.tup [q r.1,pz r.2])
def zzw (j:A4):T Bool:=
 .loop (ik 3 [0] []) (.exit 0) (jk [] []) (λaa=>let ab:=j.getD (aa.toNat) qu;.jR (aa<(j.length:Int)) (.cub 1 21 [0,3] [] (.gh aa j.length<|.jU (ab<(-2147483648)) (.gh aa j.length<|.oo (qv (ab>2147483648)))) λac=>.br ac (.ff false) (.nn (qt.wrap (aa+1)))) (.oo .u))
 0 [] λ_=>.jE true
def izj:=
 mkp1 func61 zzw
def Izj (j:A4):T Ae:=
 .cc (izj j) λaa=>.br (!aa) (.jE nl) (.loop (λs (ab:Af)=>pk s [0,3] [] [(4,pz ab.2)] [(256,vO ab.1 95)]) (.exit 0) (λs (ab:Ae)=>pk s [3] [] [] [(256,vO ab 95)]) (λab=>let ac:=j.getD (X3 ab.2) qu;let ad:=([(⟨ac,ac⟩:az0)]:Ae);let ae:=ab.1.length+ad.length;.jR (ab.2<(j.length:Int)) (.gh ab.2 j.length<|.gh ab.2 j.length<|.conv 7010 (kL ad 95)<|.conv 7011 (kA ab.1 ad 95)<|.grd (ae * 16<=140737488355328/\ae<=maxLen)<|.nn ((ab.1++ad),(qt.wrap (ab.2+1)))) (.oo ab.1)) (nl,0) [] λab=>.jE ab)
def zzm:=
 mkp1 func23 Izj
def Ez8 (j:az0):T Bool:=
 .jR ((-2147483648)<=j.Lo) (.jR (j.Lo<=j.Hi) (.jE (qv (j.Hi<=2147483648))) (.jE false)) (.jE false)
def dz9:=
 mkp1 func177 Ez8
def pzc (j:Ae):T Bool:=
 .loop (ik 3 [0] []) (.exit 0) (jk [] []) (λaa=>.jR (aa<(j.length:Int)) (.gh aa j.length<|.cc (dz9 (j.getD (aa.toNat) qu)) λab=>.br (!ab) (.ff false) (.nn (qt.wrap (aa+1)))) (.oo .u))
 0 [] λ_=>.jE true
def Bzp:=
 mkp1 func111 pzc
def zzn (j:azk)(aa:Ae):T Bool:=
 .br ((aa.length:Int)==(j.Xc.length:Int)) (.cc (Bzp aa) λab=>.jE ab) (.jE false)
def qzn:=
 mkp2 func57 zzn
def az21 (j:Int):T Int:=
 .jE (max (-2147483648) (min j 2147483648))
def uzp:=
 mkp1 func239 az21
def azcn (j:Int):T az0:=
 .cc (uzp j) λaa=>.cc (uzp j) λab=>.jE (⟨aa,ab⟩:az0)
def oze:=
 mkp1 func183 azcn
def ref1_Unit_T:T Bp:=
 .cc (oze 65536) λj=>.jE ((j,(⟨0,0⟩:az0),(⟨0,0⟩:az0)),((⟨0,0⟩:az0),j,(⟨0,0⟩:az0)),((⟨0,0⟩:az0),(⟨0,0⟩:az0),j))
def ref1_Unit_C:CallS Bp:=
 mkD func114 (ref1_Unit_T) 0 [] [] (λr=>q r) X6
def ref1_Rest_T:T bz4:=
 .cc (ref1_Unit_C) λj=>.jE (⟨j,((⟨0,0⟩:az0),(⟨0,0⟩:az0),(⟨0,0⟩:az0))⟩:bz4)
def ref1_Rest_C:CallS bz4:=
 mkD func59 (ref1_Rest_T) 0 [] [] (λr=>q r) X6
def Nz6 (j:Int):T Int:=
 .ok ((65536:Int)≠0) jF<|.ok ((65536:Int)≠0) jF<|.jE ((qt.wrap ((j.tmod 65536)+65536)).tmod 65536)
def Fzp:=
 mkp1 func370 Nz6
def Ez2 (j:Int)(aa:Int):T Int:=let ab:=qt.wrap (j.tdiv aa);.grd (aa≠0)<|.cut 0 (λs (ac:Int)=>pk s [] [] [(5,pz ac)] []) (.grd (aa≠0)<|.jR ((j.tmod aa)<0) (.oo (qt.wrap (ab-1))) (.oo ab)) λac=>.jE ac
def bz7:=
 mkp2 func52 Ez2
def Izq (j:Int)(aa:Int):T Int:=let ab:=qt.wrap (j.tdiv aa);.grd (aa≠0)<|.cut 0 (λs (ac:Int)=>pk s [] [] [(5,pz ac)] []) (.grd (aa≠0)<|.jR ((j.tmod aa)>0) (.oo (qt.wrap (ab+1))) (.oo ab)) λac=>.jE ac
def azz:=
 mkp2 func103 Izq
def Azf (j:Int):T (Cc×Cc):=
 .cc (bz7 (qt.wrap (j * 6746518852)) 65536) λaa=>.ju<|.cc (azz (qt.wrap (j * 6746518853)) 65536) λab=>.ju<|.unroll 10<|.jC<|.lit 7002 1<|.ju<|.ju<|.cc (bz7 (qt.wrap (aa * aa)) 1073741824) λac=>.jv<|.lit 8002 1<|.ju<|.ju<|.cc (azz (qt.wrap (ab * ab)) 1073741824) λad=>.jv<|.lit 6001 3<|.jC<|.lit 7002 2<|.jv<|.ju<|.cc (bz7 (qt.wrap (ac * aa)) 1073741824) λae=>.jw<|.lit 8002 2<|.jv<|.ju<|.cc (azz (qt.wrap (ad * ab)) 1073741824) λaf=>.jw<|.lit 6001 4<|.jC<|.lit 7002 3<|.jw<|.ju<|.cc (bz7 (qt.wrap (ae * aa)) 1073741824) λag=>.jx<|.lit 8002 3<|.jw<|.ju<|.cc (azz (qt.wrap (af * ab)) 1073741824) λah=>.jx<|.lit 6001 5<|.jC<|.lit 7002 4<|.jx<|.ju<|.cc (bz7 (qt.wrap (ag * aa)) 1073741824) λai=>.jy<|.lit 8002 4<|.jx<|.ju<|.cc (azz (qt.wrap (ah * ab)) 1073741824) λaj=>.jy<|.lit 6001 6<|.jC<|.lit 7002 5<|.jy<|.ju<|.cc (bz7 (qt.wrap (ai * aa)) 1073741824) λak=>.jz<|.lit 8002 5<|.jy<|.ju<|.cc (azz (qt.wrap (aj * ab)) 1073741824) λal=>.jz<|.lit 6001 7<|.jC<|.lit 7002 6<|.jz<|.ju<|.cc (bz7 (qt.wrap (ak * aa)) 1073741824) λam=>.jA<|.lit 8002 6<|.jz<|.ju<|.cc (azz (qt.wrap (al * ab)) 1073741824) λan=>.jA<|.lit 6001 8<|.jC<|.lit 7002 7<|.jA<|.ju<|.cc (bz7 (qt.wrap (am * aa)) 1073741824) λao=>.jB<|.lit 8002 7<|.jA<|.ju<|.cc (azz (qt.wrap (an * ab)) 1073741824) λap=>.jB<|.lit 6001 9<|.jC<|.lit 7002 8<|.jB<|.ju<|.cc (bz7 (qt.wrap (ao * aa)) 1073741824) λaq=>.ix 9 11 rfl<|.lit 8002 8<|.jB<|.ju<|.cc (azz (qt.wrap (ap * ab)) 1073741824) λar=>.ix 9 11 rfl<|.lit 6001 10<|.jC<|.lit 7002 9<|.ix 9 11 rfl<|.ju<|.cc (bz7 (qt.wrap (aq * aa)) 1073741824) λau=>.ix 10 11 rfl<|.lit 8002 9<|.ix 9 11 rfl<|.ju<|.cc (azz (qt.wrap (ar * ab)) 1073741824) λav=>.ix 10 11 rfl<|.lit 6001 11<|.jD<|.jE ((0,aa,ac,ae,ag,ai,ak,am,ao,aq,au),(0,ab,ad,af,ah,aj,al,an,ap,ar,av))
def Aze:=
 mkq1 func480 Azf (λr=>.tup [.pure (jzh r.1),.pure (jzh r.2)])
def pzf (j:Int)(aa:Int):T az0:=
 .cc (bz7 j 16384) λab=>.cc (azz aa 16384) λac=>.jE (⟨(max 0 ab),(min 65536 ac)⟩:az0)
def pze:=
 mkp2 func481 pzf
def Izw (j:Int):T az0:=
 .cc (Aze j) λaa=>.ju<|.jw<|.cc (azz aa.2.2.2.2.1 6) λab=>.jy<|.cc (bz7 aa.1.2.2.2.2.2.1 120) λac=>.jA<|.cc (azz aa.2.2.2.2.2.2.2.2.1 5040) λad=>.ju<|.jw<|.cc (bz7 aa.1.2.2.2.1 6) λae=>.jy<|.cc (azz aa.2.2.2.2.2.2.1 120) λaf=>.jA<|.cc (bz7 aa.1.2.2.2.2.2.2.2.1 5040) λag=>.ix 9 11 rfl<|.cc (azz aa.2.2.2.2.2.2.2.2.2.2.1 362880) λah=>.call (pze (qt.wrap ((qt.wrap ((qt.wrap (aa.1.2.1-ab))+ac))-ad)) (qt.wrap ((qt.wrap ((qt.wrap ((qt.wrap (aa.2.2.1-ae))+af))-ag))+ah))) [] λai=>.jE ai
def Tz0:=
 mkp1 func427 Izw
open Go.Proofs
def Azd (j:Int):T az0:=
 .cc (Aze j) λaa=>.jv<|.cc (azz aa.2.2.2.1 2) λab=>.jx<|.cc (bz7 aa.1.2.2.2.2.1 24) λac=>.jz<|.cc (azz aa.2.2.2.2.2.2.2.1 720) λad=>.jB<|.cc (bz7 aa.1.2.2.2.2.2.2.2.2.1 40320) λae=>.ix 10 11 rfl<|.cc (azz aa.2.2.2.2.2.2.2.2.2.2.2 3628800) λaf=>.name 2019 ((qt.wrap ((qt.wrap ((qt.wrap ((qt.wrap ((qt.wrap (1073741824-ab))+ac))-ad))+ae))-af))) λag=>.jv<|.cc (bz7 aa.1.2.2.1 2) λah=>.jx<|.cc (azz aa.2.2.2.2.2.1 24) λai=>.jz<|.cc (bz7 aa.1.2.2.2.2.2.2.1 720) λaj=>.jB<|.cc (azz aa.2.2.2.2.2.2.2.2.2.1 40320) λak=>.call (pze ag (qt.wrap ((qt.wrap ((qt.wrap ((qt.wrap (1073741824-ah))+ai))-aj))+ak))) [] λal=>.jE al
def Kzt:=
 mkp1 func428 Azd
def wzb (j:Int):T az0:=
 .jR (j<=8192) (.cc (Tz0 j) λaa=>.jE aa) (.cc (Kzt (qt.wrap (16384-j))) λaa=>.jE aa)
def jz6:=
 mkp1 func371 wzb
def Nz9 (j:az0):T az0:=
 .cc (dz9 j) λaa=>.br (!aa) (.jE (⟨0,0⟩:az0)) (.jE (⟨(qt.wrap (0-j.Hi)),(qt.wrap (0-j.Lo))⟩:az0))
def Fzq:=
 mkp1 func276 Nz9
def Nza (j:Int):T az0:=
 .cc (Fzp j) λaa=>let ab:=aa.tmod 16384;let ac:=qt.wrap (aa.tdiv 16384);let ad:=qt.wrap (16384-ab);
 .ok ((16384:Int)≠0) jF<|.ok ((16384:Int)≠0) jF<|.br (ac==0) (.cc (jz6 ab) λae=>.jE ae) (.br (ac==1) (.cc (jz6 ad) λae=>.jE ae) (.br (ac==2) (.cc (jz6 ab) λae=>.cc (Fzq ae) λaf=>.jE af) (.cc (jz6 ad) λae=>.cc (Fzq ae) λaf=>.jE af)))
def Fzr:=
 mkp1 func327 Nza
def Nz4 (j:Int):T az0:=
 .cc (Fzp j) λaa=>.cc (Fzr (qt.wrap (aa+16384))) λab=>.jE ab
def Nz3:=
 mkp1 func326 Nz4
def Izr (j:az0)(aa:az0):T az0:=
 .cub 2 12 [2,3,4] [0,64,128] (.cc (dz9 j) λab=>.jS (!ab) (.cc (dz9 aa) λac=>.oo (!ac))) λab=>.br ab (.jE (⟨0,0⟩:az0)) (.jE (⟨(min j.Lo aa.Lo),(max j.Hi aa.Hi)⟩:az0))
def Azb:=
 mkp2 func368 Izr
def Eza (j:az0)(aa:Int):T Bool:=
 .cc (Fzp (qt.wrap (aa-j.Lo))) λab=>.jE (qv ((qt.wrap (j.Lo+ab))<=j.Hi))
def Ez9:=
 mkp2 func369 Eza
def Izv (j:az0)(aa:az0)(ab:az0)(ac:Int)(ad:Int):T az0:=
 .cc (dz9 j) λae=>.br (!ae) (.jE (⟨0,0⟩:az0)) (.jR ((qt.wrap (j.Hi-j.Lo))>=65536) (.jE (⟨(-65536),65536⟩:az0)) (.cc (Azb aa ab) λaf=>.cut 0 (λs (ag:B2)=>pk s [4,5,10,11] [0,192] [] [(1024,.box [pz ag.1,pz ag.2])]) (.cc (Ez9 j ac) λag=>.br ag (.cc (oze 65536) λah=>.cc (Azb af ah) λai=>.oo (ai.Lo,ai.Hi)) (.oo (af.Lo,af.Hi))) λag=>.cut 0 (λs (ah:B2)=>pk s [10,11] [192] [] [(1024,.box [pz ah.1,pz ah.2])]) (.cc (Ez9 j ad) λah=>.br ah (.cc (oze (-65536)) λai=>.cc (Azb (⟨ag.1,ag.2⟩:az0) ai) λaj=>.oo (aj.Lo,aj.Hi)) (.oo (ag.1,ag.2))) λah=>.jE (⟨ah.1,ah.2⟩:az0)))
def Izu:=
 mkp5 func325 Izv
def wza (j:az0):T az0:=
 .cc (Nz3 j.Lo) λaa=>.cc (Nz3 j.Hi) λab=>.cc (Izu j (⟨aa.Lo,aa.Hi⟩:az0) (⟨ab.Lo,ab.Hi⟩:az0) 0 32768) λac=>.jE ac
def Hz9:=
 mkp1 func274 wza
def wzc (j:az0):T az0:=
 .cc (Fzr j.Lo) λaa=>.cc (Fzr j.Hi) λab=>.cc (Izu j aa ab 16384 49152) λac=>.jE ac
def Hza:=
 mkp1 func275 wzc
def Izt (j:Int)(aa:az0):T Bp:=let ab:=(⟨aa.Lo,aa.Hi⟩:az0);.cc (dz9 aa) λac=>.br (!ac) (.jE (((⟨0,0⟩:az0),(⟨0,0⟩:az0),(⟨0,0⟩:az0)),((⟨0,0⟩:az0),(⟨0,0⟩:az0),(⟨0,0⟩:az0)),((⟨0,0⟩:az0),(⟨0,0⟩:az0),(⟨0,0⟩:az0)))) (.cc (oze 65536) λad=>.cc (Hz9 ab) λae=>.cc (Hza ab) λaf=>.cc (Fzq af) λag=>.br (j==0) (.jE ((ad,(⟨0,0⟩:az0),(⟨0,0⟩:az0)),((⟨0,0⟩:az0),ae,ag),((⟨0,0⟩:az0),af,ae))) (.br (j==1) (.jE ((ae,(⟨0,0⟩:az0),af),((⟨0,0⟩:az0),ad,(⟨0,0⟩:az0)),(ag,(⟨0,0⟩:az0),ae))) (.br (j==2) (.jE ((ae,ag,(⟨0,0⟩:az0)),(af,ae,(⟨0,0⟩:az0)),((⟨0,0⟩:az0),(⟨0,0⟩:az0),ad))) (.jE (((⟨0,0⟩:az0),(⟨0,0⟩:az0),(⟨0,0⟩:az0)),((⟨0,0⟩:az0),(⟨0,0⟩:az0),(⟨0,0⟩:az0)),((⟨0,0⟩:az0),(⟨0,0⟩:az0),(⟨0,0⟩:az0)))))))
def Szx:=
 mkp2 func236 Izt
def szi (j:Int)(aa:az0):T bz4:=
 .cc (Szx j (⟨aa.Lo,aa.Hi⟩:az0)) λab=>.jE (⟨ab,((⟨0,0⟩:az0),(⟨0,0⟩:az0),(⟨0,0⟩:az0))⟩:bz4)
def Ez7:=
 mkp2 func178 szi
def Ez5 (j:Bm):T bz4:=
 .cc (ref1_Unit_C) λaa=>.jE (⟨aa,j⟩:bz4)
def Ez4:=
 mkp1 func179 Ez5
def Ez3 (j:Bh):T Bm:=
 .jq<|.cc (oze j.1) λaa=>.jr<|.cc (oze j.2.1) λab=>.jt<|.cc (oze j.2.2) λac=>.jE (aa,ab,ac)
def uzq:=
 mkp1 func117 Ez3
def Vz1 (j:Int)(aa:Int):T az0:=
 .cc (uzp j) λab=>.cc (uzp aa) λac=>.jE (⟨ab,ac⟩:az0)
def wzd:=
 mkp2 func277 Vz1
def Nz8 (j:az0)(aa:az0):T az0:=let ab:=qt.wrap (j.Lo * aa.Lo);let ac:=qt.wrap (j.Lo * aa.Hi);let ad:=qt.wrap (j.Hi * aa.Lo);let ae:=qt.wrap (j.Hi * aa.Hi);.cub 2 16 [2,3,4] [0,64,128] (.cc (dz9 (⟨j.Lo,j.Hi⟩:az0)) λaf=>.jS (!af) (.cc (dz9 (⟨aa.Lo,aa.Hi⟩:az0)) λag=>.oo (!ag))) λaf=>.br af (.jE (⟨0,0⟩:az0)) (.name 4004 ((min (min (min ab ac) ad) ae)) λag=>.cc (bz7 ag 65536) λah=>.name 4010 ((max (max (max ab ac) ad) ae)) λai=>.cc (azz ai 65536) λaj=>.cc (wzd ah aj) λak=>.jE ak)
def bz1:=
 mkp2 func238 Nz8
def Nz0 (j:az0)(aa:az0):T az0:=
 .cub 2 12 [2,3,4] [0,64,128] (.cc (dz9 j) λab=>.jS (!ab) (.cc (dz9 aa) λac=>.oo (!ac))) λab=>.br ab (.jE (⟨0,0⟩:az0)) (.cc (wzd (qt.wrap (j.Lo+aa.Lo)) (qt.wrap (j.Hi+aa.Hi))) λac=>.jE ac)
def bzn:=
 mkp2 func237 Nz0
def mzw (j:Bp)(aa:Bp):T Bp:=
 .unroll 4<|.jC<|.unroll 4<|.jC<|.jq<|.jq<|.jq<|.jq<|.cc (bz1 j.1.1 aa.1.1) λab=>.jq<|.jr<|.jr<|.jq<|.cc (bz1 j.1.2.1 aa.2.1.1) λac=>.cc (bzn ab ac) λad=>.jq<|.jt<|.jt<|.jq<|.cc (bz1 j.1.2.2 aa.2.2.1) λae=>.cc (bzn ad ae) λaf=>.jq<|.jq<|.lit 7001 1<|.jC<|.jq<|.jq<|.jq<|.jr<|.cc (bz1 j.1.1 aa.1.2.1) λag=>.jq<|.jr<|.jr<|.jr<|.cc (bz1 j.1.2.1 aa.2.1.2.1) λah=>.cc (bzn ag ah) λai=>.jq<|.jt<|.jt<|.jr<|.cc (bz1 j.1.2.2 aa.2.2.2.1) λaj=>.cc (bzn ai aj) λak=>.jq<|.jr<|.lit 7001 2<|.jC<|.jq<|.jq<|.jq<|.jt<|.cc (bz1 j.1.1 aa.1.2.2) λal=>.jq<|.jr<|.jr<|.jt<|.cc (bz1 j.1.2.1 aa.2.1.2.2) λam=>.cc (bzn al am) λan=>.jq<|.jt<|.jt<|.jt<|.cc (bz1 j.1.2.2 aa.2.2.2.2) λao=>.cc (bzn an ao) λap=>.jq<|.jt<|.lit 7001 3<|.jD<|.lit 4001 1<|.jC<|.unroll 4<|.jC<|.jr<|.jq<|.jq<|.jq<|.cc (bz1 j.2.1.1 aa.1.1) λaq=>.jr<|.jr<|.jr<|.jq<|.cc (bz1 j.2.1.2.1 aa.2.1.1) λar=>.cc (bzn aq ar) λau=>.jr<|.jt<|.jt<|.jq<|.cc (bz1 j.2.1.2.2 aa.2.2.1) λav=>.cc (bzn au av) λaw=>.jr<|.jq<|.lit 7001 1<|.jC<|.jr<|.jq<|.jq<|.jr<|.cc (bz1 j.2.1.1 aa.1.2.1) λax=>.jr<|.jr<|.jr<|.jr<|.cc (bz1 j.2.1.2.1 aa.2.1.2.1) λay=>.cc (bzn ax ay) λaz=>.jr<|.jt<|.jt<|.jr<|.cc (bz1 j.2.1.2.2 aa.2.2.2.1) λa0=>.cc (bzn az a0) λa1=>.jr<|.jr<|.lit 7001 2<|.jC<|.jr<|.jq<|.jq<|.jt<|.cc (bz1 j.2.1.1 aa.1.2.2) λa2=>.jr<|.jr<|.jr<|.jt<|.cc (bz1 j.2.1.2.1 aa.2.1.2.2) λa3=>.cc (bzn a2 a3) λa4=>.jr<|.jt<|.jt<|.jt<|.cc (bz1 j.2.1.2.2 aa.2.2.2.2) λa5=>.cc (bzn a4 a5) λa6=>.jr<|.jt<|.lit 7001 3<|.jD<|.lit 4001 2<|.jC<|.unroll 4<|.jC<|.jt<|.jq<|.jq<|.jq<|.cc (bz1 j.2.2.1 aa.1.1) λa7=>.jt<|.jr<|.jr<|.jq<|.cc (bz1 j.2.2.2.1 aa.2.1.1) λa8=>.cc (bzn a7 a8) λa9=>.jt<|.jt<|.jt<|.jq<|.cc (bz1 j.2.2.2.2 aa.2.2.1) λba=>.cc (bzn a9 ba) λbb=>.jt<|.jq<|.lit 7001 1<|.jC<|.jt<|.jq<|.jq<|.jr<|.cc (bz1 j.2.2.1 aa.1.2.1) λbc=>.jt<|.jr<|.jr<|.jr<|.cc (bz1 j.2.2.2.1 aa.2.1.2.1) λbd=>.cc (bzn bc bd) λbe=>.jt<|.jt<|.jt<|.jr<|.cc (bz1 j.2.2.2.2 aa.2.2.2.1) λbf=>.cc (bzn be bf) λbg=>.jt<|.jr<|.lit 7001 2<|.jC<|.jt<|.jq<|.jq<|.jt<|.cc (bz1 j.2.2.1 aa.1.2.2) λbh=>.jt<|.jr<|.jr<|.jt<|.cc (bz1 j.2.2.2.1 aa.2.1.2.2) λbi=>.cc (bzn bh bi) λbj=>.jt<|.jt<|.jt<|.jt<|.cc (bz1 j.2.2.2.2 aa.2.2.2.2) λbk=>.cc (bzn bj bk) λbl=>.jt<|.jt<|.lit 7001 3<|.jD<|.lit 4001 3<|.jD<|.jE (((⟨(max (-65536) (min af.Lo 65536)),(max (-65536) (min af.Hi 65536))⟩:az0),(⟨(max (-65536) (min ak.Lo 65536)),(max (-65536) (min ak.Hi 65536))⟩:az0),(⟨(max (-65536) (min ap.Lo 65536)),(max (-65536) (min ap.Hi 65536))⟩:az0)),((⟨(max (-65536) (min aw.Lo 65536)),(max (-65536) (min aw.Hi 65536))⟩:az0),(⟨(max (-65536) (min a1.Lo 65536)),(max (-65536) (min a1.Hi 65536))⟩:az0),(⟨(max (-65536) (min a6.Lo 65536)),(max (-65536) (min a6.Hi 65536))⟩:az0)),((⟨(max (-65536) (min bb.Lo 65536)),(max (-65536) (min bb.Hi 65536))⟩:az0),(⟨(max (-65536) (min bg.Lo 65536)),(max (-65536) (min bg.Hi 65536))⟩:az0),(⟨(max (-65536) (min bl.Lo 65536)),(max (-65536) (min bl.Hi 65536))⟩:az0)))
def xzv:=
 mkp2 func180 mzw
def szg (j:Bp)(aa:Bm):T Bm:=
 .unroll 4<|.jC<|.jq<|.jq<|.jq<|.cc (bz1 j.1.1 aa.1) λab=>.jq<|.jr<|.jr<|.cc (bz1 j.1.2.1 aa.2.1) λac=>.cc (bzn ab ac) λad=>.jq<|.jt<|.jt<|.cc (bz1 j.1.2.2 aa.2.2) λae=>.cc (bzn ad ae) λaf=>.jq<|.lit 4001 1<|.jC<|.jr<|.jq<|.jq<|.cc (bz1 j.2.1.1 aa.1) λag=>.jr<|.jr<|.jr<|.cc (bz1 j.2.1.2.1 aa.2.1) λah=>.cc (bzn ag ah) λai=>.jr<|.jt<|.jt<|.cc (bz1 j.2.1.2.2 aa.2.2) λaj=>.cc (bzn ai aj) λak=>.jr<|.lit 4001 2<|.jC<|.jt<|.jq<|.jq<|.cc (bz1 j.2.2.1 aa.1) λal=>.jt<|.jr<|.jr<|.cc (bz1 j.2.2.2.1 aa.2.1) λam=>.cc (bzn al am) λan=>.jt<|.jt<|.jt<|.cc (bz1 j.2.2.2.2 aa.2.2) λao=>.cc (bzn an ao) λap=>.jt<|.lit 4001 3<|.jD<|.jE (af,ak,ap)
def sze:=
 mkp2 func182 szg
def Aza (j:Bm)(aa:Bm):T Bm:=
 .jq<|.jq<|.cc (bzn j.1 aa.1) λab=>.jr<|.jr<|.cc (bzn j.2.1 aa.2.1) λac=>.jt<|.jt<|.cc (bzn j.2.2 aa.2.2) λad=>.jE (ab,ac,ad)
def Az9:=
 mkp2 func181 Aza
def wz9 (j:bz4)(aa:bz4):T bz4:=
 .cc (xzv j.R aa.R) λab=>.cc (sze j.R aa.T) λac=>.cc (Az9 j.T (ac.1,ac.2.1,ac.2.2)) λad=>.jE (⟨(ab.1,ab.2.1,ab.2.2),ad⟩:bz4)
def wz8:=
 mkp2 func113 wz9
def zzp (j:azs)(aa:az0):T bz4:=let ab:=qt.wrap (j.Xn-4);.cc (ref1_Rest_C) λac=>.cut 0 (λs (ad:Ce)=>pk s [2,4,5] [0,128] [] [(256,.box [pz ad.1,pz ad.2.1,pz ad.2.2.1,pz ad.2.2.2.1,pz ad.2.2.2.2.1,pz ad.2.2.2.2.2.1,pz ad.2.2.2.2.2.2.1,pz ad.2.2.2.2.2.2.2.1,pz ad.2.2.2.2.2.2.2.2.1,pz ad.2.2.2.2.2.2.2.2.2.1,pz ad.2.2.2.2.2.2.2.2.2.2.1,pz ad.2.2.2.2.2.2.2.2.2.2.2.1,pz ad.2.2.2.2.2.2.2.2.2.2.2.2.1,pz ad.2.2.2.2.2.2.2.2.2.2.2.2.2.1,pz ad.2.2.2.2.2.2.2.2.2.2.2.2.2.2.1,pz ad.2.2.2.2.2.2.2.2.2.2.2.2.2.2.2.1,pz ad.2.2.2.2.2.2.2.2.2.2.2.2.2.2.2.2.1,pz ad.2.2.2.2.2.2.2.2.2.2.2.2.2.2.2.2.2.1,pz ad.2.2.2.2.2.2.2.2.2.2.2.2.2.2.2.2.2.2.1,pz ad.2.2.2.2.2.2.2.2.2.2.2.2.2.2.2.2.2.2.2.1,pz ad.2.2.2.2.2.2.2.2.2.2.2.2.2.2.2.2.2.2.2.2.1,pz ad.2.2.2.2.2.2.2.2.2.2.2.2.2.2.2.2.2.2.2.2.2.1,pz ad.2.2.2.2.2.2.2.2.2.2.2.2.2.2.2.2.2.2.2.2.2.2.1,pz ad.2.2.2.2.2.2.2.2.2.2.2.2.2.2.2.2.2.2.2.2.2.2.2])]) (.cub 1 10 [2,3,4,5,9] [0,64,128,256] (.br (j.Xn==1) (.oo (j.Xn==1)) (.br (j.Xn==2) (.oo (j.Xn==2)) (.oo (j.Xn==3)))) λad=>.br ad (.cc (Ez7 (qt.wrap (j.Xn-1)) (⟨aa.Lo,aa.Hi⟩:az0)) λae=>.oo (ae.R.1.1.Lo,ae.R.1.1.Hi,ae.R.1.2.1.Lo,ae.R.1.2.1.Hi,ae.R.1.2.2.Lo,ae.R.1.2.2.Hi,ae.R.2.1.1.Lo,ae.R.2.1.1.Hi,ae.R.2.1.2.1.Lo,ae.R.2.1.2.1.Hi,ae.R.2.1.2.2.Lo,ae.R.2.1.2.2.Hi,ae.R.2.2.1.Lo,ae.R.2.2.1.Hi,ae.R.2.2.2.1.Lo,ae.R.2.2.2.1.Hi,ae.R.2.2.2.2.Lo,ae.R.2.2.2.2.Hi,ae.T.1.Lo,ae.T.1.Hi,ae.T.2.1.Lo,ae.T.2.1.Hi,ae.T.2.2.Lo,ae.T.2.2.Hi)) (.cub 0 19 [2,3,4,5] [0,64,128,256] (.br (j.Xn==4) (.oo (j.Xn==4)) (.br (j.Xn==5) (.oo (j.Xn==5)) (.oo (j.Xn==6)))) λae=>.br ae (.cut 1 (λs (af:C3)=>pk s [2,4,5,6] [0,128,256] [] [(640,.box [pz af.1,pz af.2.1,pz af.2.2.1,pz af.2.2.2.1,pz af.2.2.2.2.1,pz af.2.2.2.2.2])]) (.cas 11002 ab 0 (.jq<|.oo (aa.Lo,aa.Hi,0,0,0,0)) (.cas 11002 ab 1 (.jr<|.oo (0,0,aa.Lo,aa.Hi,0,0)) (.cas 11002 ab 2 (.jt<|.oo (0,0,0,0,aa.Lo,aa.Hi)) (.stop)))) λaf=>.cc (Ez4 ((⟨af.1,af.2.1⟩:az0),(⟨af.2.2.1,af.2.2.2.1⟩:az0),(⟨af.2.2.2.2.1,af.2.2.2.2.2⟩:az0))) λag=>.oo (ag.R.1.1.Lo,ag.R.1.1.Hi,ag.R.1.2.1.Lo,ag.R.1.2.1.Hi,ag.R.1.2.2.Lo,ag.R.1.2.2.Hi,ag.R.2.1.1.Lo,ag.R.2.1.1.Hi,ag.R.2.1.2.1.Lo,ag.R.2.1.2.1.Hi,ag.R.2.1.2.2.Lo,ag.R.2.1.2.2.Hi,ag.R.2.2.1.Lo,ag.R.2.2.1.Hi,ag.R.2.2.2.1.Lo,ag.R.2.2.2.1.Hi,ag.R.2.2.2.2.Lo,ag.R.2.2.2.2.Hi,ag.T.1.Lo,ag.T.1.Hi,ag.T.2.1.Lo,ag.T.2.1.Hi,ag.T.2.2.Lo,ag.T.2.2.Hi)) (.oo (ac.R.1.1.Lo,ac.R.1.1.Hi,ac.R.1.2.1.Lo,ac.R.1.2.1.Hi,ac.R.1.2.2.Lo,ac.R.1.2.2.Hi,ac.R.2.1.1.Lo,ac.R.2.1.1.Hi,ac.R.2.1.2.1.Lo,ac.R.2.1.2.1.Hi,ac.R.2.1.2.2.Lo,ac.R.2.1.2.2.Hi,ac.R.2.2.1.Lo,ac.R.2.2.1.Hi,ac.R.2.2.2.1.Lo,ac.R.2.2.2.1.Hi,ac.R.2.2.2.2.Lo,ac.R.2.2.2.2.Hi,ac.T.1.Lo,ac.T.1.Hi,ac.T.2.1.Lo,ac.T.2.1.Hi,ac.T.2.2.Lo,ac.T.2.2.Hi)))) λad=>.cc (uzq j.Xy) λae=>.cc (Ez4 ae) λaf=>.cc (wz8 (⟨af.R,af.T⟩:bz4) (⟨(((⟨ad.1,ad.2.1⟩:az0),(⟨ad.2.2.1,ad.2.2.2.1⟩:az0),(⟨ad.2.2.2.2.1,ad.2.2.2.2.2.1⟩:az0)),((⟨ad.2.2.2.2.2.2.1,ad.2.2.2.2.2.2.2.1⟩:az0),(⟨ad.2.2.2.2.2.2.2.2.1,ad.2.2.2.2.2.2.2.2.2.1⟩:az0),(⟨ad.2.2.2.2.2.2.2.2.2.2.1,ad.2.2.2.2.2.2.2.2.2.2.2.1⟩:az0)),((⟨ad.2.2.2.2.2.2.2.2.2.2.2.2.1,ad.2.2.2.2.2.2.2.2.2.2.2.2.2.1⟩:az0),(⟨ad.2.2.2.2.2.2.2.2.2.2.2.2.2.2.1,ad.2.2.2.2.2.2.2.2.2.2.2.2.2.2.2.1⟩:az0),(⟨ad.2.2.2.2.2.2.2.2.2.2.2.2.2.2.2.2.1,ad.2.2.2.2.2.2.2.2.2.2.2.2.2.2.2.2.2.1⟩:az0))),((⟨ad.2.2.2.2.2.2.2.2.2.2.2.2.2.2.2.2.2.2.1,ad.2.2.2.2.2.2.2.2.2.2.2.2.2.2.2.2.2.2.2.1⟩:az0),(⟨ad.2.2.2.2.2.2.2.2.2.2.2.2.2.2.2.2.2.2.2.2.1,ad.2.2.2.2.2.2.2.2.2.2.2.2.2.2.2.2.2.2.2.2.2.1⟩:az0),(⟨ad.2.2.2.2.2.2.2.2.2.2.2.2.2.2.2.2.2.2.2.2.2.2.1,ad.2.2.2.2.2.2.2.2.2.2.2.2.2.2.2.2.2.2.2.2.2.2.2⟩:az0))⟩:bz4)) λag=>.jE ag
def Kze:=
 mkp2 func112 zzp
def zzs (j:azk)(aa:Ae):T Ag:=let ab:=(⟨j.Xc,j.Xv⟩:azk);.cub 2 16 [1,2] [0] (.cc (cze ab) λac=>.jS (ac !=0) (.cc (qzn ab aa) λad=>.oo (!ad))) λac=>.br ac (.jE nl) (.loop (λs (ad:(Ag×Int))=>pk s [1,2,5] [0] [(6,pz ad.2)] [(192,vO ad.1 151)]) (.exit 0) (λs (ad:Ag)=>pk s [5] [] [] [(192,vO ad 151)]) (λad=>let ae:=(ad.2).toNat;let af:=j.Xc.getD ae qu;let ag:=af.XD;.jR (ad.2<(aa.length:Int)) (.gh ad.2 j.Xc.length<|.gh ad.2 aa.length<|.cc (Kze af (aa.getD ae qu)) λah=>.cut 0 (λs (ai:Ce)=>pk s [1,2,5,6,7] [0,192] [] [(1280,.box [pz ai.1,pz ai.2.1,pz ai.2.2.1,pz ai.2.2.2.1,pz ai.2.2.2.2.1,pz ai.2.2.2.2.2.1,pz ai.2.2.2.2.2.2.1,pz ai.2.2.2.2.2.2.2.1,pz ai.2.2.2.2.2.2.2.2.1,pz ai.2.2.2.2.2.2.2.2.2.1,pz ai.2.2.2.2.2.2.2.2.2.2.1,pz ai.2.2.2.2.2.2.2.2.2.2.2.1,pz ai.2.2.2.2.2.2.2.2.2.2.2.2.1,pz ai.2.2.2.2.2.2.2.2.2.2.2.2.2.1,pz ai.2.2.2.2.2.2.2.2.2.2.2.2.2.2.1,pz ai.2.2.2.2.2.2.2.2.2.2.2.2.2.2.2.1,pz ai.2.2.2.2.2.2.2.2.2.2.2.2.2.2.2.2.1,pz ai.2.2.2.2.2.2.2.2.2.2.2.2.2.2.2.2.2.1,pz ai.2.2.2.2.2.2.2.2.2.2.2.2.2.2.2.2.2.2.1,pz ai.2.2.2.2.2.2.2.2.2.2.2.2.2.2.2.2.2.2.2.1,pz ai.2.2.2.2.2.2.2.2.2.2.2.2.2.2.2.2.2.2.2.2.1,pz ai.2.2.2.2.2.2.2.2.2.2.2.2.2.2.2.2.2.2.2.2.2.1,pz ai.2.2.2.2.2.2.2.2.2.2.2.2.2.2.2.2.2.2.2.2.2.2.1,pz ai.2.2.2.2.2.2.2.2.2.2.2.2.2.2.2.2.2.2.2.2.2.2.2])]) (.gh ad.2 j.Xc.length<|.br (ag !=(-1)) (.gh ad.2 j.Xc.length<|.gg ag ad.1.length<|.call (wz8 (ad.1.getD (ag.toNat) qu) ah) [] λai=>.oo (ai.R.1.1.Lo,ai.R.1.1.Hi,ai.R.1.2.1.Lo,ai.R.1.2.1.Hi,ai.R.1.2.2.Lo,ai.R.1.2.2.Hi,ai.R.2.1.1.Lo,ai.R.2.1.1.Hi,ai.R.2.1.2.1.Lo,ai.R.2.1.2.1.Hi,ai.R.2.1.2.2.Lo,ai.R.2.1.2.2.Hi,ai.R.2.2.1.Lo,ai.R.2.2.1.Hi,ai.R.2.2.2.1.Lo,ai.R.2.2.2.1.Hi,ai.R.2.2.2.2.Lo,ai.R.2.2.2.2.Hi,ai.T.1.Lo,ai.T.1.Hi,ai.T.2.1.Lo,ai.T.2.1.Hi,ai.T.2.2.Lo,ai.T.2.2.Hi)) (.oo (ah.R.1.1.Lo,ah.R.1.1.Hi,ah.R.1.2.1.Lo,ah.R.1.2.1.Hi,ah.R.1.2.2.Lo,ah.R.1.2.2.Hi,ah.R.2.1.1.Lo,ah.R.2.1.1.Hi,ah.R.2.1.2.1.Lo,ah.R.2.1.2.1.Hi,ah.R.2.1.2.2.Lo,ah.R.2.1.2.2.Hi,ah.R.2.2.1.Lo,ah.R.2.2.1.Hi,ah.R.2.2.2.1.Lo,ah.R.2.2.2.1.Hi,ah.R.2.2.2.2.Lo,ah.R.2.2.2.2.Hi,ah.T.1.Lo,ah.T.1.Hi,ah.T.2.1.Lo,ah.T.2.1.Hi,ah.T.2.2.Lo,ah.T.2.2.Hi))) λai=>let aj:=([(⟨(((⟨ai.1,ai.2.1⟩:az0),(⟨ai.2.2.1,ai.2.2.2.1⟩:az0),(⟨ai.2.2.2.2.1,ai.2.2.2.2.2.1⟩:az0)),((⟨ai.2.2.2.2.2.2.1,ai.2.2.2.2.2.2.2.1⟩:az0),(⟨ai.2.2.2.2.2.2.2.2.1,ai.2.2.2.2.2.2.2.2.2.1⟩:az0),(⟨ai.2.2.2.2.2.2.2.2.2.2.1,ai.2.2.2.2.2.2.2.2.2.2.2.1⟩:az0)),((⟨ai.2.2.2.2.2.2.2.2.2.2.2.2.1,ai.2.2.2.2.2.2.2.2.2.2.2.2.2.1⟩:az0),(⟨ai.2.2.2.2.2.2.2.2.2.2.2.2.2.2.1,ai.2.2.2.2.2.2.2.2.2.2.2.2.2.2.2.1⟩:az0),(⟨ai.2.2.2.2.2.2.2.2.2.2.2.2.2.2.2.2.1,ai.2.2.2.2.2.2.2.2.2.2.2.2.2.2.2.2.2.1⟩:az0))),((⟨ai.2.2.2.2.2.2.2.2.2.2.2.2.2.2.2.2.2.2.1,ai.2.2.2.2.2.2.2.2.2.2.2.2.2.2.2.2.2.2.2.1⟩:az0),(⟨ai.2.2.2.2.2.2.2.2.2.2.2.2.2.2.2.2.2.2.2.2.1,ai.2.2.2.2.2.2.2.2.2.2.2.2.2.2.2.2.2.2.2.2.2.1⟩:az0),(⟨ai.2.2.2.2.2.2.2.2.2.2.2.2.2.2.2.2.2.2.2.2.2.2.1,ai.2.2.2.2.2.2.2.2.2.2.2.2.2.2.2.2.2.2.2.2.2.2.2⟩:az0))⟩:bz4)]:Ag);let ak:=ad.1.length+aj.length;
 .conv 10002 (kL aj 151)<|.conv 10003 (kA ad.1 aj 151)<|.grd (ak * 192<=140737488355328/\ak<=maxLen)<|.nn ((ad.1++aj),(qt.wrap (ad.2+1)))) (.oo ad.1)) (nl,0) [] λad=>.jE ad)
def zzr:=
 mkp2 func58 zzs
def Ez1 (j:bz4)(aa:Bm):T Bm:=
 .cc (sze j.R aa) λab=>.cc (Az9 j.T ab) λac=>.jE ac
def Ez0:=
 mkp2 func116 Ez1
def wzn (j:az2)(aa:Int)(ab:Int)(ac:A4):T Bool:=let ad:=qt.wrap (65536-j.Xq);let ae:=qt.wrap (0-j.Xq);let af:=j.Xi.getD (aa.toNat) qu;let ag:=j.Xh.getD (ab.toNat) qu;.cub 2 47 [1,2,3,4] [0] (.cc (gzm j) λah=>.jS (ah !=0) (.jU (aa<0) (.jU (aa>=(j.Xi.length:Int)) (.jU (ab<0) (.jU (ab>=(j.Xh.length:Int)) (.cc (dzn j.Xl.Xf ac) λai=>.oo (!ai))))))) λah=>.br ah (.jE false) (.gh aa j.Xi.length<|.cc (zzm ac) λai=>.cc (zzr j.Xl.Xf ai) λaj=>let ak:=aj.getD (X3 af.XA) qu;let al:=ak.R.1.2.1.Lo;let am:=ak.R.1.2.2.Lo;let an:=ak.R.2.1.1.Lo;let ao:=ak.R.2.2.1.Lo;let ap:=ak.R.2.1.2.1.Lo;let aq:=ak.R.2.1.2.2.Lo;let ar:=ak.R.2.2.2.1.Lo;let au:=ak.R.2.2.2.2.Lo;let av:=qv ((ak.R.1.1.Lo)<ad);let aw:=qv (al<ae);let ax:=qv (am<ae);let ay:=qv (an<ae);let az:=qv (ap<ad);let a0:=qv (aq<ae);let a1:=qv (ao<ae);let a2:=qv (ar<ae);let a3:=qv (au<ad);let a4:=qv ((ak.R.1.2.1.Hi)>j.Xq);let a5:=qv ((ak.R.1.2.2.Hi)>j.Xq);let a6:=qv ((ak.R.2.1.1.Hi)>j.Xq);let a7:=qv ((ak.R.2.1.2.2.Hi)>j.Xq);let a8:=qv ((ak.R.2.2.1.Hi)>j.Xq);let a9:=qv ((ak.R.2.2.2.1.Hi)>j.Xq);
 .gh (af.XA) aj.length<|.cc (uzq (af.Xy)) λba=>.call (Ez0 ak ba) [] λbb=>.unroll 4<|.jC<|.unroll 4<|.jC<|.jq<|.jq<|.cut 0 (λs (bc:Bool)=>pk s [2,4,10,11,12,13] [0,1280,1728,2624] [(86,X7 2624),(87,pz (ak.R.1.1.Lo)),(88,.ptr 0 8),(89,pz j.Xq),(90,pz ad),(91,q av),(98,.tup []),(99,.tup []),(100,.tup []),(101,.tup []),(102,.tup []),(103,.tup []),(104,.tup []),(105,.tup []),(106,.tup []),(107,.tup []),(108,.tup []),(109,.tup []),(110,.tup []),(112,q bc)] []) (.jC<|.jS av (.jD<|.oo false)) λbc=>.br bc (.jE false) (.lit 11001 1<|.jC<|.jq<|.jr<|.cut 0 (λs (bd:C0)=>pk s [2,4,10,11,12,13] [0,1280,1728,3520] [(86,.tup []),(87,.tup []),(88,.tup []),(89,.tup []),(90,.tup []),(91,.tup []),(94,pz 0),(95,pz 1),(96,q (0 !=1)),(97,.tt),(98,X7 3520),(99,pz al),(100,.ptr 0 8),(101,pz j.Xq),(102,pz ae),(103,q aw),(104,q bd.1),(110,q bd.2.1),(111,q bd.2.2.1),(112,q bd.2.2.2)] []) (.jD<|.jC<|.br aw (.oo (true,true,true,true)) (.oo (false,a4,a4,a4))) λbd=>.br bd.2.2.2 (.jE false) (.lit 11001 2<|.jC<|.jq<|.jt<|.cut 0 (λs (be:C0)=>pk s [2,4,10,11,12,13,86,87,88,89,90,91,94,97,100,101,102] [0,1280,1728,4416] [(95,pz 2),(96,q (0 !=2)),(98,X7 4416),(99,pz am),(103,q ax),(104,q be.1),(110,q be.2.1),(111,q be.2.2.1),(112,q be.2.2.2)] []) (.jD<|.jC<|.br ax (.oo (true,true,true,true)) (.oo (false,a5,a5,a5))) λbe=>.br be.2.2.2 (.jE false) (.lit 11001 3<|.jD<|.cub 0 144 [2,4,10,11,12,86,87,88,89,90,91,94,95,96,97,98,99,100,101,102,103,104,110,111] [0,1280,1728,4416] (.jq<|.gh ab j.Xh.length<|.jq<|.jU (bb.1.Lo<(qt.wrap ((ag.1)-j.Xq))) (.jq<|.gh ab j.Xh.length<|.jq<|.oo (qv (bb.1.Hi>(qt.wrap ((ag.1)+j.Xq)))))) λbf=>.br bf (.jE false) (.lit 8001 1<|.jC<|.unroll 4<|.jC<|.jr<|.jq<|.cut 0 (λs (bg:C0)=>pk s [2,4,10,11,12,13,86,87,88,89,90,91,97,100,101,102] [0,1280,1728,5888] [(94,pz 1),(95,pz 0),(96,q (1 !=0)),(98,X7 5888),(99,pz an),(103,q ay),(104,q bg.1),(110,q bg.2.1),(111,q bg.2.2.1),(112,q bg.2.2.2)] []) (.jD<|.jC<|.br ay (.oo (true,true,true,true)) (.oo (false,a6,a6,a6))) λbg=>.br bg.2.2.2 (.jE false) (.lit 11001 1<|.jC<|.jr<|.jr<|.cut 0 (λs (bh:Bool)=>pk s [2,4,10,11,12,13] [0,1280,1728,6784] [(86,X7 6784),(87,pz ap),(88,.ptr 0 8),(89,pz j.Xq),(90,pz ad),(91,q az),(98,.tup []),(99,.tup []),(100,.tup []),(101,.tup []),(102,.tup []),(103,.tup []),(104,.tup []),(105,.tup []),(106,.tup []),(107,.tup []),(108,.tup []),(109,.tup []),(110,.tup []),(112,q bh)] []) (.jC<|.jS az (.jD<|.oo false)) λbh=>.br bh (.jE false) (.lit 11001 2<|.jC<|.jr<|.jt<|.cut 0 (λs (bi:C0)=>pk s [2,4,10,11,12,13] [0,1280,1728,7680] [(86,.tup []),(87,.tup []),(88,.tup []),(89,.tup []),(90,.tup []),(91,.tup []),(94,pz 1),(95,pz 2),(96,q (1 !=2)),(97,.tt),(98,X7 7680),(99,pz aq),(100,.ptr 0 8),(101,pz j.Xq),(102,pz ae),(103,q a0),(104,q bi.1),(110,q bi.2.1),(111,q bi.2.2.1),(112,q bi.2.2.2)] []) (.jD<|.jC<|.br a0 (.oo (true,true,true,true)) (.oo (false,a7,a7,a7))) λbi=>.br bi.2.2.2 (.jE false) (.lit 11001 3<|.jD<|.cub 0 144 [2,4,10,11,12,86,87,88,89,90,91,94,95,96,97,98,99,100,101,102,103,104,110,111] [0,1280,1728,7680] (.jr<|.gh ab j.Xh.length<|.jr<|.jU (bb.2.1.Lo<(qt.wrap ((ag.2.1)-j.Xq))) (.jr<|.gh ab j.Xh.length<|.jr<|.oo (qv (bb.2.1.Hi>(qt.wrap ((ag.2.1)+j.Xq)))))) λbj=>.br bj (.jE false) (.lit 8001 2<|.jC<|.unroll 4<|.jC<|.jt<|.jq<|.cut 0 (λs (bk:C0)=>pk s [2,4,10,11,12,13,86,87,88,89,90,91,97,100,101,102] [0,1280,1728,9152] [(94,pz 2),(95,pz 0),(96,q (2 !=0)),(98,X7 9152),(99,pz ao),(103,q a1),(104,q bk.1),(110,q bk.2.1),(111,q bk.2.2.1),(112,q bk.2.2.2)] []) (.jD<|.jC<|.br a1 (.oo (true,true,true,true)) (.oo (false,a8,a8,a8))) λbk=>.br bk.2.2.2 (.jE false) (.lit 11001 1<|.jC<|.jt<|.jr<|.cut 0 (λs (bl:C0)=>pk s [2,4,10,11,12,13,86,87,88,89,90,91,94,97,100,101,102] [0,1280,1728,10048] [(95,pz 1),(96,q (2 !=1)),(98,X7 10048),(99,pz ar),(103,q a2),(104,q bl.1),(110,q bl.2.1),(111,q bl.2.2.1),(112,q bl.2.2.2)] []) (.jD<|.jC<|.br a2 (.oo (true,true,true,true)) (.oo (false,a9,a9,a9))) λbl=>.br bl.2.2.2 (.jE false) (.lit 11001 2<|.jC<|.jt<|.jt<|.cut 0 (λs (bm:Bool)=>pk s [2,4,10,11,12,13] [0,1280,1728,10944] [(86,X7 10944),(87,pz au),(88,.ptr 0 8),(89,pz j.Xq),(90,pz ad),(91,q a3),(98,.tup []),(99,.tup []),(100,.tup []),(101,.tup []),(102,.tup []),(103,.tup []),(104,.tup []),(105,.tup []),(106,.tup []),(107,.tup []),(108,.tup []),(109,.tup []),(110,.tup []),(112,q bm)] []) (.jC<|.jS a3 (.jD<|.oo false)) λbm=>.br bm (.jE false) (.lit 11001 3<|.jD<|.cub 0 144 [2,4,10,11,12,86,87,88,89,90,91,98,99,100,101,102,103,104,105,106,107,108,109,110] [0,1280,1728,10944] (.jt<|.gh ab j.Xh.length<|.jt<|.jU (bb.2.2.Lo<(qt.wrap ((ag.2.2)-j.Xq))) (.jt<|.gh ab j.Xh.length<|.jt<|.oo (qv (bb.2.2.Hi>(qt.wrap ((ag.2.2)+j.Xq)))))) λbn=>.br bn (.jE false) (.lit 8001 3<|.jD<|.jE true)))))))))))))
def jz7:=
 mkp4 func72 wzn
def zzv (j:azh)(aa:bz4):T Bn:=
 .cc (lz7 j) λab=>.br (!ab) (.jE nl) (.loop (λs (ac:(Bn×Int))=>pk s [2,3,5] [0,64] [(6,pz ac.2)] [(384,vO ac.1 97)]) (.exit 0) (λs (ac:Bn)=>pk s [5] [] [] [(384,vO ac 97)]) (λac=>.jR (ac.2<(j.Xa.length:Int)) (.gh ac.2 j.Xa.length<|.cc (uzq (j.Xa.getD (X3 ac.2) qu)) λad=>.cc (Ez0 aa ad) λae=>let af:=([ae]:Bn);let ag:=ac.1.length+af.length;
 .conv 7009 (kL af 97)<|.conv 7010 (kA ac.1 af 97)<|.grd (ag * 48<=140737488355328/\ag<=maxLen)<|.nn ((ac.1++af),(qt.wrap (ac.2+1)))) (.oo ac.1)) (nl,0) [] λac=>.jE ac)
def Kzh:=
 mkp2 func60 zzv
def vzv (j:az7)(aa:Ae):T Bo:=
 .cub 2 18 [1,2] [0] (.cc (czf j) λab=>.jS (ab !=0) (.cc (qzn j.Xf aa) λac=>.oo (!ac))) λab=>.br ab (.jE nl) (.cc (zzr j.Xf aa) λac=>.loop (λs (ad:(Bo×Int))=>pk s [2,5,6] [0] [(7,pz ad.2)] [(512,vO ad.1 98)]) (.exit 0) (λs (ad:Bo)=>pk s [6] [] [] [(512,vO ad 98)]) (λad=>let ae:=j.Xe.getD (X3 ad.2) qu;let af:=ae.XA;let ag:=ac.getD (af.toNat) qu;.jR (ad.2<(j.Xe.length:Int)) (.cc (ref1_Rest_C) λah=>.cut 0 (λs (ai:Ce)=>pk s [2,5,6,7,8] [0,512] [] [(1088,.box [pz ai.1,pz ai.2.1,pz ai.2.2.1,pz ai.2.2.2.1,pz ai.2.2.2.2.1,pz ai.2.2.2.2.2.1,pz ai.2.2.2.2.2.2.1,pz ai.2.2.2.2.2.2.2.1,pz ai.2.2.2.2.2.2.2.2.1,pz ai.2.2.2.2.2.2.2.2.2.1,pz ai.2.2.2.2.2.2.2.2.2.2.1,pz ai.2.2.2.2.2.2.2.2.2.2.2.1,pz ai.2.2.2.2.2.2.2.2.2.2.2.2.1,pz ai.2.2.2.2.2.2.2.2.2.2.2.2.2.1,pz ai.2.2.2.2.2.2.2.2.2.2.2.2.2.2.1,pz ai.2.2.2.2.2.2.2.2.2.2.2.2.2.2.2.1,pz ai.2.2.2.2.2.2.2.2.2.2.2.2.2.2.2.2.1,pz ai.2.2.2.2.2.2.2.2.2.2.2.2.2.2.2.2.2.1,pz ai.2.2.2.2.2.2.2.2.2.2.2.2.2.2.2.2.2.2.1,pz ai.2.2.2.2.2.2.2.2.2.2.2.2.2.2.2.2.2.2.2.1,pz ai.2.2.2.2.2.2.2.2.2.2.2.2.2.2.2.2.2.2.2.2.1,pz ai.2.2.2.2.2.2.2.2.2.2.2.2.2.2.2.2.2.2.2.2.2.1,pz ai.2.2.2.2.2.2.2.2.2.2.2.2.2.2.2.2.2.2.2.2.2.2.1,pz ai.2.2.2.2.2.2.2.2.2.2.2.2.2.2.2.2.2.2.2.2.2.2.2])]) (.gh ad.2 j.Xe.length<|.br (af !=(-1)) (.gh ad.2 j.Xe.length<|.gh af ac.length<|.oo (ag.R.1.1.Lo,ag.R.1.1.Hi,ag.R.1.2.1.Lo,ag.R.1.2.1.Hi,ag.R.1.2.2.Lo,ag.R.1.2.2.Hi,ag.R.2.1.1.Lo,ag.R.2.1.1.Hi,ag.R.2.1.2.1.Lo,ag.R.2.1.2.1.Hi,ag.R.2.1.2.2.Lo,ag.R.2.1.2.2.Hi,ag.R.2.2.1.Lo,ag.R.2.2.1.Hi,ag.R.2.2.2.1.Lo,ag.R.2.2.2.1.Hi,ag.R.2.2.2.2.Lo,ag.R.2.2.2.2.Hi,ag.T.1.Lo,ag.T.1.Hi,ag.T.2.1.Lo,ag.T.2.1.Hi,ag.T.2.2.Lo,ag.T.2.2.Hi)) (.oo (ah.R.1.1.Lo,ah.R.1.1.Hi,ah.R.1.2.1.Lo,ah.R.1.2.1.Hi,ah.R.1.2.2.Lo,ah.R.1.2.2.Hi,ah.R.2.1.1.Lo,ah.R.2.1.1.Hi,ah.R.2.1.2.1.Lo,ah.R.2.1.2.1.Hi,ah.R.2.1.2.2.Lo,ah.R.2.1.2.2.Hi,ah.R.2.2.1.Lo,ah.R.2.2.1.Hi,ah.R.2.2.2.1.Lo,ah.R.2.2.2.1.Hi,ah.R.2.2.2.2.Lo,ah.R.2.2.2.2.Hi,ah.T.1.Lo,ah.T.1.Hi,ah.T.2.1.Lo,ah.T.2.1.Hi,ah.T.2.2.Lo,ah.T.2.2.Hi))) λai=>.gh ad.2 j.Xe.length<|.cc (Kzh ae (⟨(((⟨ai.1,ai.2.1⟩:az0),(⟨ai.2.2.1,ai.2.2.2.1⟩:az0),(⟨ai.2.2.2.2.1,ai.2.2.2.2.2.1⟩:az0)),((⟨ai.2.2.2.2.2.2.1,ai.2.2.2.2.2.2.2.1⟩:az0),(⟨ai.2.2.2.2.2.2.2.2.1,ai.2.2.2.2.2.2.2.2.2.1⟩:az0),(⟨ai.2.2.2.2.2.2.2.2.2.2.1,ai.2.2.2.2.2.2.2.2.2.2.2.1⟩:az0)),((⟨ai.2.2.2.2.2.2.2.2.2.2.2.2.1,ai.2.2.2.2.2.2.2.2.2.2.2.2.2.1⟩:az0),(⟨ai.2.2.2.2.2.2.2.2.2.2.2.2.2.2.1,ai.2.2.2.2.2.2.2.2.2.2.2.2.2.2.2.1⟩:az0),(⟨ai.2.2.2.2.2.2.2.2.2.2.2.2.2.2.2.2.1,ai.2.2.2.2.2.2.2.2.2.2.2.2.2.2.2.2.2.1⟩:az0))),((⟨ai.2.2.2.2.2.2.2.2.2.2.2.2.2.2.2.2.2.2.1,ai.2.2.2.2.2.2.2.2.2.2.2.2.2.2.2.2.2.2.2.1⟩:az0),(⟨ai.2.2.2.2.2.2.2.2.2.2.2.2.2.2.2.2.2.2.2.2.1,ai.2.2.2.2.2.2.2.2.2.2.2.2.2.2.2.2.2.2.2.2.2.1⟩:az0),(⟨ai.2.2.2.2.2.2.2.2.2.2.2.2.2.2.2.2.2.2.2.2.2.2.1,ai.2.2.2.2.2.2.2.2.2.2.2.2.2.2.2.2.2.2.2.2.2.2.2⟩:az0))⟩:bz4)) λaj=>let ak:=([aj]:Bo);let al:=ad.1.length+ak.length;
 .conv 11008 (kL ak 98)<|.conv 11009 (kA ad.1 ak 98)<|.grd (al * 24<=140737488355328/\al<=maxLen)<|.nn ((ad.1++ak),(qt.wrap (ad.2+1)))) (.oo ad.1)) (nl,0) [] λad=>.jE ad)
def vzu:=
 mkp2 func22 vzv
def Ezk (j:azk)(aa:Int):T A4:=
 .cub 2 15 [1,2] [0] (.cc (cze j) λab=>.jS (ab !=0) (.cc (fz2 j aa) λac=>.oo (!ac))) λab=>.br ab (.jE nl) (.loop (λs (ac:Ah)=>pk s [2,5] [0] [(6,pz ac.2)] [(192,vO ac.1 3)]) (.exit 0) (λs (ac:A4)=>pk s [5] [] [] [(192,vO ac 3)]) (λac=>let ad:=([ac.2]:A4);let ae:=ad.length+ac.1.length;.br (ac.2 !=(-1)) (.conv 7001 (kL ad 3)<|.conv 7003 (kA ad ac.1 3)<|.grd (ae * 8<=140737488355328/\ae<=maxLen)<|.gh ac.2 j.Xc.length<|.nn ((ad++ac.1),(j.Xc.getD (X3 ac.2) qu).XD)) (.oo ac.1)) (nl,aa) [] λac=>.jE ac)
def uzt:=
 mkp2 func321 Ezk
def Azs (j:A4)(aa:Int):T Bool:=
 .loop (ik 5 [0,1] []) (.exit 0) (jk [] []) (λab=>.jR (ab<(j.length:Int)) (.gh ab j.length<|.br ((j.getD (ab.toNat) qu)==aa) (.ff true) (.nn (qt.wrap (ab+1)))) (.oo .u))
 0 [] λ_=>.jE false
def Azr:=
 mkp2 func322 Azs
def wzt (j:azk)(aa:Int)(ab:Int):T A4:=
 .cub 2 25 [1,2,3] [0] (.cc (cze j) λac=>.jS (ac !=0) (.cc (fz2 j aa) λad=>.jS (!ad) (.cc (fz2 j ab) λae=>.oo (!ae)))) λac=>.br ac (.jE nl) (.cc (uzt j aa) λad=>.cc (uzt j ab) λae=>.loop (λs (af:Ah)=>pk s [3,7,8,9] [0] [(10,pz af.2)] [(704,vO af.1 3)]) (.exit 0) (λs (af:A4)=>pk s [9] [] [] [(704,vO af 3)]) (λaf=>let ag:=([af.2]:A4);let ah:=af.1.length+ag.length;.jR (af.2<(j.Xc.length:Int)) (.cut 0 (λs (ai:A4)=>pk s [3,7,8,10] [0] [(9,.vec 1216)] [(1216,vO ai 3)]) (.cc (Azr ad af.2) λai=>.cc (Azr ae af.2) λaj=>.br (!(ai==aj)) (.conv 9002 (kL ag 3)<|.conv 9003 (kA af.1 ag 3)<|.grd (ah * 8<=140737488355328/\ah<=maxLen)<|.oo (af.1++ag)) (.oo af.1)) λai=>.nn (ai,(qt.wrap (af.2+1)))) (.oo af.1)) (nl,0) [] λaf=>.jE af)
def Hzf:=
 mkp3 func271 wzt
def Ezm (j:azk)(aa:Int)(ab:Int):T Bool:=
 .cub 2 23 [1,2,3] [0] (.cc (cze j) λac=>.jS (ac !=0) (.cc (fz2 j aa) λad=>.jS (!ad) (.cc (fz2 j ab) λae=>.oo (!ae)))) λac=>.br ac (.jE false) (.cc (Hzf (⟨j.Xc,j.Xv⟩:azk) aa ab) λad=>.loop (ik 8 [3,7] [0]) (.exit 0) (jk [] []) (λae=>let af:=ad.getD (ae.toNat) qu;let ag:=j.Xc.getD (af.toNat) qu;.jR (ae<(ad.length:Int)) (.gh ae ad.length<|.gh af j.Xc.length<|.gh ae ad.length<|.gh af j.Xc.length<|.jR ((ag.Lo)<(ag.Hi)) (.ff false) (.nn (qt.wrap (ae+1)))) (.oo .u))
 0 [] λ_=>.jE true)
def Ozq:=
 mkp3 func225 Ezm
def wzu (j:az7)(aa:Int)(ab:Int):T Bool:=
 .loop (ik 7 [1,2,3] [0]) (.exit 0) (jk [] []) (λac=>let ad:=j.Xr.getD (ac.toNat) qu;.jR (ac<(j.Xr.length:Int)) (.gh ac j.Xr.length<|.cub 0 42 [1,2,3,7] [0] (.br ((ad.A)==aa) (.jS ((ad.B)==ab) (.jT ((ad.A)==ab) (.oo ((ad.B)==aa)))) (.jT ((ad.A)==ab) (.oo ((ad.B)==aa)))) λae=>.br ae (.ff true) (.nn (qt.wrap (ac+1)))) (.oo .u))
 0 [] λ_=>.jE false
def Hzg:=
 mkp3 func226 wzu
def Ezl (j:az7):T Ai:=let aa:=(j.Xe.length:Int);.cc (czf j) λab=>.br (ab !=0) (.jE nl) (.loop (λs (ac:Aj)=>pk s [1,3] [0] [(4,pz ac.2)] [(320,vO ac.1 274)]) (.exit 0) (λs (ac:Ai)=>pk s [3] [] [] [(320,vO ac 274)]) (λac=>let ad:=(j.Xe.getD (X3 ac.2) qu).XA;let ae:=qt.wrap (ac.2+1);.jR (ac.2<aa) (.loop (λs (af:Aj)=>pk s [1,3,4] [0] [(5,pz af.2)] [(320,vO af.1 274)]) (.exit 2) (λs (af:Ai)=>pk s [1,3,4] [0] [] [(320,vO af 274)]) (λaf=>let ag:=([(⟨ac.2,af.2⟩:czi)]:Ai);let ah:=af.1.length+ag.length;let ai:=(j.Xe.getD (X3 af.2) qu).XA;.jR (af.2<aa) (.cut 0 (λs (aj:Ai)=>pk s [1,4,5] [0] [(3,.vec 1408)] [(1408,vO aj 274)]) (.gh ac.2 j.Xe.length<|.gh af.2 j.Xe.length<|.cub 0 56 [1,3,4,5] [0,320] (.jT (ad !=ai) (.cc (Ozq j.Xf ad ai) λaj=>.jT (!aj) (.cc (Hzg j ad ai) λak=>.oo (!ak)))) λaj=>.br aj (.conv 12004 (kL ag 274)<|.conv 12005 (kA af.1 ag 274)<|.grd (ah * 16<=140737488355328/\ah<=maxLen)<|.oo (af.1++ag)) (.oo af.1)) λaj=>.nn (aj,(qt.wrap (af.2+1)))) (.oo af.1)) (ac.1,ae) [] λaf=>.nn (af,ae)) (.oo ac.1)) (nl,0) [] λac=>.jE ac)
def Ozp:=
 mkp1 func162 Ezl
def Az2 (j:az7)(aa:Ae):T (Az×Az×Bool):=
 .cub 2 23 [1,2] [0] (.cc (czf j) λab=>.jS (ab !=0) (.cc (qzn j.Xf aa) λac=>.oo (!ac))) λab=>.br ab (.jE (nl,nl,false)) (.cc (vzu (⟨j.Xf,j.Xe,j.Xr⟩:az7) aa) λac=>.cc (Ozp j) λad=>.loop (λs (ae:(Az×Az×Int))=>pk s [2,7,8,9,10] [0] [(11,pz ae.2.2)] [(576,vO ae.1 199),(640,vO ae.2.1 199)]) (.exit 0) (λs (ae:(Az×Az))=>pk s [8,9] [] [] [(576,vO ae.1 199),(640,vO ae.2 199)]) (λae=>let af:=ad.getD (X3 ae.2.2) qu;let ag:=(af.A).toNat;let ah:=(af.B).toNat;let ai:=([(⟨(ac.getD ag qu),(j.Xe.getD ag qu).XE⟩:azw)]:Az);let aj:=ae.1.length+ai.length;let ak:=([(⟨(ac.getD ah qu),(j.Xe.getD ah qu).XE⟩:azw)]:Az);let al:=ae.2.1.length+ak.length;.jR (ae.2.2<(ad.length:Int)) (.gh ae.2.2 ad.length<|.gh ae.2.2 ad.length<|.gh (af.A) ac.length<|.gh (af.A) j.Xe.length<|.conv 10012 (kL ai 199)<|.conv 10013 (kA ae.1 ai 199)<|.grd (aj * 32<=140737488355328/\aj<=maxLen)<|.gh (af.B) ac.length<|.gh (af.B) j.Xe.length<|.conv 11012 (kL ak 199)<|.conv 11013 (kA ae.2.1 ak 199)<|.grd (al * 32<=140737488355328/\al<=maxLen)<|.nn ((ae.1++ai),(ae.2.1++ak),(qt.wrap (ae.2.2+1)))) (.oo (ae.1,ae.2.1))) (nl,nl,0) [] λae=>.jE (ae.1,ae.2,true))
def Az1:=
 mkq2 func104 Az2 (λr=>.tup [q r.1,q r.2.1,q r.2.2])
def sza (j:Bm):T Bool:=
 .unroll 4<|.jC<|.cub 1 30 [1,3] [0] (.jq<|.jU (j.1.Lo<(-268435456)) (.jq<|.jq<|.jU (j.1.Lo>j.1.Hi) (.jq<|.oo (qv (j.1.Hi>268435456))))) λaa=>.br aa (.jE false) (.lit 3001 1<|.jC<|.cub 1 30 [1,3] [0] (.jr<|.jU (j.2.1.Lo<(-268435456)) (.jr<|.jr<|.jU (j.2.1.Lo>j.2.1.Hi) (.jr<|.oo (qv (j.2.1.Hi>268435456))))) λab=>.br ab (.jE false) (.lit 3001 2<|.jC<|.cub 1 30 [1,3] [0] (.jt<|.jU (j.2.2.Lo<(-268435456)) (.jt<|.jt<|.jU (j.2.2.Lo>j.2.2.Hi) (.jt<|.oo (qv (j.2.2.Hi>268435456))))) λac=>.br ac (.jE false) (.lit 3001 3<|.jD<|.jE true)))
def sz9:=
 mkp1 func233 sza
def vzt (j:Bn):T Bool:=let aa:=(j.length:Int);.loop (ik 3 [0] []) (.exit 0) (jk [0] []) (λab=>.cub 1 11 [0,3] [] (.jR (ab<aa) (.oo (qv (ab<=8))) (.oo false)) λac=>.br ac (.gh ab j.length<|.cc (sz9 (j.getD (ab.toNat) qu)) λad=>.br (!ad) (.ff false) (.nn (qt.wrap (ab+1)))) (.oo .u))
 0 [] λ_=>.jR (aa>=1) (.jE (qv (aa<=8))) (.jE false)
def ez9:=
 mkp1 func174 vzt
def wz1 (j:Int):T Bool:=
 .jR (j>=0) (.jE (qv (j<=1048576))) (.jE false)
def fzx:=
 mkp1 func227 wz1
def vzw (j:Bh):T Bool:=
 .br (!((j.1==0)&&((j.2.1==0)&&((j.2.2==0)&&true)))) (.cc (ezs j 16384) λaa=>.jE aa) (.jE false)
def fz5:=
 mkp1 func228 vzw
def Nz5 (j:az0):T Int:=
 .cc (dz9 j) λaa=>.br (!aa) (.jE 0) (.cc (bz7 (qt.wrap (j.Lo+j.Hi)) 2) λab=>.jE ab)
def Fzo:=
 mkp1 func175 Nz5
def sz6 (j:Bn):T Bi:=
 .cc (ez9 j) λaa=>.br (!aa) (.jE nl) (.loop (λs (ab:Bj)=>pk s [0,3] [] [(4,pz ab.2)] [(256,vO ab.1 89)]) (.exit 0) (λs (ab:Bi)=>pk s [3] [] [] [(256,vO ab 89)]) (λab=>let ac:=j.getD (X3 ab.2) qu;.jR (ab.2<(j.length:Int)) (.gh ab.2 j.length<|.jq<|.cc (Fzo (ac.1)) λad=>.gh ab.2 j.length<|.jr<|.cc (Fzo (ac.2.1)) λae=>.gh ab.2 j.length<|.jt<|.cc (Fzo (ac.2.2)) λaf=>let ag:=([(ad,ae,af)]:Bi);let ah:=ab.1.length+ag.length;
 .conv 7020 (kL ag 89)<|.conv 7021 (kA ab.1 ag 89)<|.grd (ah * 24<=140737488355328/\ah<=maxLen)<|.nn ((ab.1++ag),(qt.wrap (ab.2+1)))) (.oo ab.1)) (nl,0) [] λab=>.jE ab)
def dzp:=
 mkp1 func107 sz6
def vzs (j:Bh):T Bl:=
 .br ((j.1==0)&&((j.2.1==0)&&((j.2.2==0)&&true))) (.jE (j,false)) (.loop (ik 4 [1,2] [0,64])
 .ret (λ_ (_:U0)=>⟨[],[],[],0⟩) (λaa=>let ab:=qt.wrap (j.1.tdiv aa);let ac:=qt.wrap (j.2.1.tdiv aa);let ad:=qt.wrap (j.2.2.tdiv aa);.jq<|.grd (aa≠0)<|.jr<|.grd (aa≠0)<|.jt<|.grd (aa≠0)<|.cc (ezs (ab,ac,ad) 16384) λae=>.br ae (.ff ((ab,ac,ad),true)) (.nn (qt.wrap (aa * 2))))
 1 [] λ_=>.stop)
def jz4:=
 mkq1 func169 vzs (λr=>.tup [q r.1,q r.2])
def Dzs (j:Bn)(aa:Bn):T Bl:=
 .cub 2 19 [0,1,4] [0] (.cc (ez9 j) λab=>.jS (!ab) (.cc (ez9 aa) λac=>.oo (!ac))) λab=>.br ab (.jE ((0,0,0),false)) (.cc (dzp j) λac=>let ad:=(ac.length:Int);
 .cc (dzp aa) λae=>let af:=(ae.length:Int);
 .unroll 4<|.jC<|.loop (λs (ag:B2)=>pk s [4,6,7,8,9] [0] [(10,pz ag.2)] [(192,.box [pz ag.1,pz 0,pz 0])]) (.exit 2) (λs (ag:Int)=>pk s [4,6,7,8,9] [0] [] [(192,.box [pz ag,pz 0,pz 0])]) (λag=>.jR (ag.2<ad) (.jq<|.gh ag.2 ac.length<|.jq<|.name 11012 ((qt.wrap (ag.1+(qt.wrap (((ac.getD (X3 ag.2) qu).1) * af))))) λah=>.jq<|.nn (ah,(qt.wrap (ag.2+1)))) (.oo ag.1)) (0,0) [] λag=>.loop (λs (ah:B2)=>pk s [4,6,7,8,9] [0] [(11,pz ah.2)] [(192,.box [pz ah.1,pz 0,pz 0])]) (.exit 4) (λs (ah:Int)=>pk s [4,6,7,8,9] [0] [] [(192,.box [pz ah,pz 0,pz 0])]) (λah=>.jR (ah.2<af) (.jq<|.gh ah.2 ae.length<|.jq<|.name 15012 ((qt.wrap (ah.1- (qt.wrap (((ae.getD (X3 ah.2) qu).1) * ad))))) λai=>.jq<|.nn (ai,(qt.wrap (ah.2+1)))) (.oo ah.1)) (ag,0) [] λah=>.lit 7001 1<|.jC<|.loop (λs (ai:B2)=>pk s [4,6,7,8,9] [0] [(10,pz ai.2)] [(192,.box [pz ah,pz ai.1,pz 0])]) (.exit 2) (λs (ai:Int)=>pk s [4,6,7,8,9] [0] [] [(192,.box [pz ah,pz ai,pz 0])]) (λai=>.jR (ai.2<ad) (.jr<|.gh ai.2 ac.length<|.jr<|.name 11012 ((qt.wrap (ai.1+(qt.wrap (((ac.getD (X3 ai.2) qu).2.1) * af))))) λaj=>.jr<|.nn (aj,(qt.wrap (ai.2+1)))) (.oo ai.1)) (0,0) [] λai=>.loop (λs (aj:B2)=>pk s [4,6,7,8,9] [0] [(11,pz aj.2)] [(192,.box [pz ah,pz aj.1,pz 0])]) (.exit 4) (λs (aj:Int)=>pk s [4,6,7,8,9] [0] [] [(192,.box [pz ah,pz aj,pz 0])]) (λaj=>.jR (aj.2<af) (.jr<|.gh aj.2 ae.length<|.jr<|.name 15012 ((qt.wrap (aj.1- (qt.wrap (((ae.getD (X3 aj.2) qu).2.1) * ad))))) λak=>.jr<|.nn (ak,(qt.wrap (aj.2+1)))) (.oo aj.1)) (ai,0) [] λaj=>.lit 7001 2<|.jC<|.loop (λs (ak:B2)=>pk s [4,6,7,8,9] [0] [(10,pz ak.2)] [(192,.box [pz ah,pz aj,pz ak.1])]) (.exit 2) (λs (ak:Int)=>pk s [4,6,7,8,9] [0] [] [(192,.box [pz ah,pz aj,pz ak])]) (λak=>.jR (ak.2<ad) (.jt<|.gh ak.2 ac.length<|.jt<|.name 11012 ((qt.wrap (ak.1+(qt.wrap (((ac.getD (X3 ak.2) qu).2.2) * af))))) λal=>.jt<|.nn (al,(qt.wrap (ak.2+1)))) (.oo ak.1)) (0,0) [] λak=>.loop (λs (al:B2)=>pk s [4,6,7,8,9] [0] [(11,pz al.2)] [(192,.box [pz ah,pz aj,pz al.1])]) (.exit 4) (λs (al:Int)=>pk s [4,6,7,8,9] [0] [] [(192,.box [pz ah,pz aj,pz al])]) (λal=>.jR (al.2<af) (.jt<|.gh al.2 ae.length<|.jt<|.name 15012 ((qt.wrap (al.1- (qt.wrap (((ae.getD (X3 al.2) qu).2.2) * ad))))) λam=>.jt<|.nn (am,(qt.wrap (al.2+1)))) (.oo al.1)) (ak,0) [] λal=>.lit 7001 3<|.jD<|.cc (jz4 (ah,aj,al)) λam=>.jE (am.1,am.2))
def uzo:=
 mkq2 func229 Dzs (λr=>.tup [q r.1,q r.2])
def az1x:T Bi:=
 .conv 1006 (kL ([(1,0,0),((-1),0,0),(0,1,0),(0,(-1),0),(0,0,1),(0,0,(-1))]:Bi) 89)<|.jE ([(1,0,0),((-1),0,0),(0,1,0),(0,(-1),0),(0,0,1),(0,0,(-1))]:Bi)
def ref14_Axes_C:CallS Bi:=
 mkD func230 (az1x) 0 [] [] (λr=>q r) X6
def Izp (j:Bi):T Bool:=let aa:=(j.length:Int);.loop (ik 3 [0] []) (.exit 0) (jk [0] []) (λab=>.cub 1 11 [0,3] [] (.jR (ab<aa) (.oo (qv (ab<=8))) (.oo false)) λac=>.br ac (.gh ab j.length<|.cc (ezs (j.getD (ab.toNat) qu) 268435456) λad=>.br (!ad) (.ff false) (.nn (qt.wrap (ab+1)))) (.oo .u))
 0 [] λ_=>.jR (aa>=1) (.jE (qv (aa<=8))) (.jE false)
def Izo:=
 mkp1 func165 Izp
def Izn (j:Bi)(aa:A4):T Bh:=
 .loop (λs (ab:Bx)=>pk s [0,1,4,5] [0] [(6,pz ab.2.2.2)] [(64,.box [pz ab.1,pz ab.2.1,pz ab.2.2.1])]) (.exit 0) (λs (ab:Bh)=>pk s [4,5] [0] [] [(64,.box [pz ab.1,pz ab.2.1,pz ab.2.2])]) (λab=>let ac:=(ab.2.2.2).toNat;let ad:=aa.getD ac qu;let ae:=j.getD ac qu;.jR (ab.2.2.2<(j.length:Int)) (.unroll 4<|.jC<|.jq<|.gh ab.2.2.2 aa.length<|.gh ab.2.2.2 j.length<|.jq<|.name 8014 ((qt.wrap (ab.1+(qt.wrap (ad * (ae.1)))))) λaf=>.jq<|.lit 7001 1<|.jC<|.jr<|.gh ab.2.2.2 aa.length<|.gh ab.2.2.2 j.length<|.jr<|.name 8014 ((qt.wrap (ab.2.1+(qt.wrap (ad * (ae.2.1)))))) λag=>.jr<|.lit 7001 2<|.jC<|.jt<|.gh ab.2.2.2 aa.length<|.gh ab.2.2.2 j.length<|.jt<|.name 8014 ((qt.wrap (ab.2.2.1+(qt.wrap (ad * (ae.2.2)))))) λah=>.jt<|.lit 7001 3<|.jD<|.nn (af,ag,ah,(qt.wrap (ab.2.2.2+1)))) (.oo (ab.1,ab.2.1,ab.2.2.1))) (0,0,0,0) [] λab=>.jE (ab.1,ab.2.1,ab.2.2)
def zzz:=
 mkp2 func167 Izn
def Yzq (j:Bh)(aa:Bh):T Bh:=
 .jq<|.jq<|.jr<|.jr<|.jt<|.jt<|.jE ((qt.wrap (j.1-aa.1)),(qt.wrap (j.2.1-aa.2.1)),(qt.wrap (j.2.2-aa.2.2)))
def qzq:=
 mkp2 func166 Yzq
def Dzu (j:Bh)(aa:Int):T Bool:=
 .unroll 4<|.jC<|.jq<|.jq<|.cc (azz (max j.1 (qt.wrap (0-j.1))) 65536) λab=>.name 6004 ((qt.wrap (0+(qt.wrap (ab * ab))))) λac=>.lit 4001 1<|.jC<|.jr<|.jr<|.cc (azz (max j.2.1 (qt.wrap (0-j.2.1))) 65536) λad=>.name 6004 ((qt.wrap (ac+(qt.wrap (ad * ad))))) λae=>.lit 4001 2<|.jC<|.jt<|.jt<|.cc (azz (max j.2.2 (qt.wrap (0-j.2.2))) 65536) λaf=>.name 6004 ((qt.wrap (ae+(qt.wrap (af * af))))) λag=>.lit 4001 3<|.jD<|.jE (qv (ag<=(qt.wrap (aa * aa))))
def Dzt:=
 mkp2 func168 Dzu
def az4l (j:Bh)(aa:Bh):T Int:=
 .jq<|.jq<|.jr<|.jr<|.jt<|.jt<|.name 1016 ((qt.wrap ((qt.wrap ((qt.wrap (j.1 * aa.1))+(qt.wrap (j.2.1 * aa.2.1))))+(qt.wrap (j.2.2 * aa.2.2))))) λab=>.jE ab
def jzu:=
 mkp2 func171 az4l
def szb (j:Bh)(aa:Bi)(ab:Int):T Int:=
 .loop (λs (ac:B2)=>pk s [1,2,3] [0] [(7,pz ac.1),(8,pz ac.2)] []) (.exit 0) (ik 7 [] []) (λac=>.jR (ac.2<(aa.length:Int)) (.cut 0 (λs (ad:Int)=>pk s [1,2,3,8] [0] [(7,pz ad)] []) (.gh ac.2 aa.length<|.cc (jzu j (aa.getD (X3 ac.2) qu)) λad=>.gh ac.1 aa.length<|.cc (jzu j (aa.getD (X3 ac.1) qu)) λae=>.jR ((qt.wrap (ab * ad))<(qt.wrap (ab * ae))) (.oo ac.2) (.oo ac.1)) λad=>.nn (ad,(qt.wrap (ac.2+1)))) (.oo ac.1)) (0,1) [] λac=>.jE ac
def lzb:=
 mkp3 func170 szb
def Izs (j:Int):T Int:=
 .jR (j<1) (.jE 0) (.loop (λs (aa:B2)=>pk s [0] [] [(3,pz aa.1),(4,pz aa.2)] []) (.exit 0) (ik 3 [] []) (λaa=>let ab:=qt.wrap (aa.2-aa.1);let ac:=qt.wrap (aa.1+(qt.wrap (ab.tdiv 2)));.jR (ab>1) (.ok ((2:Int)≠0) jF<|.grd (ac≠0)<|.jR (ac<=(qt.wrap (j.tdiv ac))) (.nn (ac,aa.2)) (.nn (aa.1,ac))) (.oo aa.1)) (1,4294967296) [] λaa=>.jE aa)
def szh:=
 mkp1 func273 Izs
def Azc (j:Int):T Int:=
 .cc (szh j) λaa=>.cut 0 (λs (ab:Int)=>pk s [] [] [(3,pz ab)] []) (.cub 0 14 [3] [] (.jR (j>0) (.oo (qv ((qt.wrap (aa * aa))<j))) (.oo false)) λab=>.br ab (.oo (qt.wrap (aa+1))) (.oo aa)) λab=>.jE ab
def Kzs:=
 mkp1 func232 Azc
def Dzp (j:Bh):T Int:=
 .cc (fz5 (j.1,j.2.1,j.2.2)) λaa=>.br (!aa) (.jE 0) (.jq<|.jq<|.jr<|.jr<|.jt<|.jt<|.name 3016 ((qt.wrap ((qt.wrap ((qt.wrap (j.1 * j.1))+(qt.wrap (j.2.1 * j.2.1))))+(qt.wrap (j.2.2 * j.2.2))))) λab=>.cc (Kzs ab) λac=>.jE ac)
def uzl:=
 mkp1 func172 Dzp
def zzy (j:A4)(aa:Int)(ab:Int):T A4:=let ac:=ab.toNat;.grd (j.length * 8<=140737488355328/\j.length<=maxLen)<|.loop (λs (ad:(A4×Int×Int))=>pk s [1,2,7] [] [(8,pz ad.2.1),(9,pz ad.2.2)] [(128,vO ad.1 2)]) (.exit 0) (λs (ad:Ah)=>pk s [2,7] [] [(8,pz ad.2)] [(128,vO ad.1 2)]) (λad=>let ae:=(ad.2.2).toNat;let af:=ad.1.getD ae qu;let ag:=qt.wrap ((qt.wrap (af * aa)).tdiv 256);.jR (ad.2.2<(ad.1.length:Int)) (.gg ad.2.2 ad.1.length<|.ok ((256:Int)≠0) jF<|.gg ad.2.2 ad.1.length<|.name 7005 ((qt.wrap (af-ag))) λah=>.gh ad.2.2 ad.1.length<|.conv 7007 (kS ad.1 2 ae ah)<|.gi (ad.2.2) ad.1.length<|.name 8002 ((qt.wrap (ad.2.1+ag))) λai=>.nn ((ad.1.set ae ah),ai,(qt.wrap (ad.2.2+1)))) (.oo (ad.1,ad.2.1))) (j,0,0) [] λad=>let ae:=qt.wrap ((ad.1.getD ac qu)+ad.2);
 .gg ab ad.1.length<|.gh ab ad.1.length<|.conv 9007 (kS ad.1 2 ac ae)<|.gi (ab) ad.1.length<|.jE (ad.1.set ac ae)
def qzp:=
 mkv3 func173 zzy (λ_=>.vec 0) (λr=>[(0,vO r 2)])
def wz0 (j:Bi)(aa:Bi)(ab:Int)(ac:Int):T ezw:=let ad:=(j.length:Int);let ae:=(aa.length:Int);let af:=qs ad.toNat (0:Int);let ag:=qs ae.toNat (0:Int);.cut 2 (λ_ (ah:Bool)=>⟨[(0,q j),(1,q aa),(2,pz ab),(3,pz ac),(8,X7 0),(43,q ah)],[(0,.box [pz 0,pz 0,pz 0,pz 0,.vec 5,.vec 6,pz 0]),(5,.nilv),(6,.nilv)],[],128⟩) (.cc (Izo j) λah=>.jS (!ah) (.cc (Izo aa) λai=>.jS (!ai) (.jU (ab<0) (.jU (ab>2097152) (.jU (ac<0) (.oo (qv (ac>64)))))))) λah=>.br ah (.jE (⟨0,(0,0,0),nl,nl,0⟩:ezw)) (.conv 3002 (Czk 1 bz6 2 ad.toNat 0)<|.grd (0<=ad/\ad<=ad/\ad<=9223372036854775807/\ad * 8<=140737488355328)<|.conv 3005 (Czk 1 bz6 2 ae.toNat 0)<|.grd (0<=ae/\ae<=ae/\ae<=9223372036854775807/\ae * 8<=140737488355328)<|.gh (0:Int) (af.length)<|.conv 4005 (kS af 2 (X3 (0:Int)) 65536)<|.gi (0:Int) (af.length)<|.gh (0:Int) (ag.length)<|.conv 4007 (kS ag 2 (X3 (0:Int)) 65536)<|.gi (0:Int) (ag.length)<|.loop (λ_ (ai:(Int×Int×Int×A4×A4×Int))=>⟨[(0,q j),(1,q aa),(2,pz ab),(3,pz ac),(8,X7 0),(9,X7 576)],[(0,.box [pz 0,pz 0,pz 0,pz 0,.vec 5,.vec 6,pz 0]),(5,.nilv),(6,.nilv),(256,vO ai.2.2.2.1 2),(448,vO ai.2.2.2.2.1 2),(576,.box [pz 0,pz ai.1,pz ai.2.1,pz ai.2.2.1,.vec 256,.vec 448,pz ai.2.2.2.2.2])],[],1280⟩)
 .ret (λ_ (_:U0)=>⟨[],[],[],0⟩) (λai=>.cc (zzz j ai.2.2.2.1) λaj=>.cc (zzz aa ai.2.2.2.2.1) λak=>.cc (qzq aj ak) λal=>let am:=qt.wrap (al.1.tdiv 65536);let an:=qt.wrap (al.2.1.tdiv 65536);let ao:=qt.wrap (al.2.2.tdiv 65536);
 .cc (Dzt al ab) λap=>.br ap (.ff (⟨2,(ai.1,ai.2.1,ai.2.2.1),ai.2.2.2.1,ai.2.2.2.2.1,ai.2.2.2.2.2⟩:ezw)) (.jq<|.ok ((65536:Int)≠0) jF<|.jr<|.ok ((65536:Int)≠0) jF<|.jt<|.ok ((65536:Int)≠0) jF<|.cc (jz4 (am,an,ao)) λaq=>let ar:=(⟨0,aq.1,ai.2.2.2.1,ai.2.2.2.2.1,ai.2.2.2.2.2⟩:ezw);
 .br (!aq.2) (.ff ar) (.cc (lzb aq.1 j 1) λau=>let av:=j.getD (au.toNat) qu;
 .cc (lzb aq.1 aa (-1)) λaw=>let ax:=aa.getD (aw.toNat) qu;
 .gh au j.length<|.cc (jzu aq.1 av) λay=>.gh aw aa.length<|.cc (jzu aq.1 ax) λaz=>.cc (uzl aq.1) λa0=>.jR ((qt.wrap (ay-az))>(qt.wrap (a0 * ab))) (.ff (⟨1,aq.1,ai.2.2.2.1,ai.2.2.2.2.1,ai.2.2.2.2.2⟩:ezw)) (.gh au j.length<|.gh aw aa.length<|.cc (qzq av ax) λa1=>.cc (qzq (am,an,ao) a1) λa2=>.cc (jzu (am,an,ao) a2) λa3=>.cc (jzu a2 a2) λa4=>let a5:=max 1 (qt.wrap (a4.tdiv 256));let a6:=min 256 (qt.wrap (a3.tdiv a5));
 .cut 1 (λ_ (a7:Bool)=>⟨[(0,q j),(1,q aa),(2,pz ab),(3,pz ac),(8,X7 0),(9,X7 576),(14,pz au),(15,pz aw),(17,pz a3),(18,pz a4),(142,q a7)],[(0,.box [pz 0,pz 0,pz 0,pz 0,.vec 5,.vec 6,pz 0]),(5,.nilv),(6,.nilv),(256,vS ai.2.2.2.1 2),(448,vS ai.2.2.2.2.1 2),(576,.box [pz 0,pz aq.1.1,pz aq.1.2.1,pz aq.1.2.2,.vec 256,.vec 448,pz ai.2.2.2.2.2])],[],6848⟩) (.jU (ai.2.2.2.2.2>=ac) (.oo (qv (a3<=0)))) λa7=>.br a7 (.ff ar) (.ok ((256:Int)≠0) jF<|.grd (a5≠0)<|.br (a6==0) (.ff ar) (.call (qzp ai.2.2.2.1 a6 au) [] λa8=>.call (qzp ai.2.2.2.2.1 a6 aw) [] λa9=>.nn (aq.1.1,aq.1.2.1,aq.1.2.2,a8,a9,(qt.wrap (ai.2.2.2.2.2+1))))))))) (0,0,0,(af.set (X3 (0:Int)) 65536),(ag.set (X3 (0:Int)) 65536),0) [] λ_=>.stop)
def fzw:=
 mkp4 func106 wz0
def lza (j:Bn)(aa:Int)(ab:Bn)(ac:Int)(ad:Bi):T Bi:=
 .cub 2 33 [0,1,2,3,4] [] (.cc (ez9 j) λae=>.jS (!ae) (.cc (ez9 ab) λaf=>.jS (!af) (.cc (fzx aa) λag=>.jS (!ag) (.cc (fzx ac) λah=>.oo (!ah))))) λae=>.br ae (.jE nl) (.loop (λs (af:Bj)=>pk s [0,1,2,3,4,11] [] [(12,pz af.2)] [(128,vO af.1 89)]) (.exit 0) (λs (af:Bi)=>pk s [0,1,2,3,11] [] [] [(128,vO af 89)]) (λaf=>let ag:=ad.getD (X3 af.2) qu;let ah:=([ag]:Bi);let ai:=af.1.length+ah.length;.jR (af.2<(ad.length:Int)) (.cut 0 (λs (aj:Bi)=>pk s [0,1,2,3,4,12] [] [(11,.vec 576)] [(576,vO aj 89)]) (.gh af.2 ad.length<|.cc (fz5 ag) λaj=>.br aj (.gh af.2 ad.length<|.conv 8005 (kL ah 89)<|.conv 8006 (kA af.1 ah 89)<|.grd (ai * 24<=140737488355328/\ai<=maxLen)<|.oo (af.1++ah)) (.oo af.1)) λaj=>.nn (aj,(qt.wrap (af.2+1)))) (.oo af.1)) (nl,0) [] λaf=>.cut 0 (λs (ag:Bi)=>pk s [0,1,2,3] [] [(11,.vec 320)] [(320,vO ag 89)]) (.cc (uzo j ab) λag=>let ah:=([ag.1]:Bi);let ai:=af.length+ah.length;
 .br ag.2 (.conv 11002 (kL ah 89)<|.conv 11003 (kA af ah 89)<|.grd (ai * 24<=140737488355328/\ai<=maxLen)<|.oo (af++ah)) (.oo af)) λag=>.cc (ref14_Axes_C) λah=>let ai:=ag++ah;let aj:=ag.length+ah.length;
 .conv 12002 (kA ag ah 89)<|.grd (aj * 24<=140737488355328/\aj<=maxLen)<|.cc (dzp j) λak=>.cc (dzp ab) λal=>.cc (fzw ak al (qt.wrap (aa+ac)) 64) λam=>let an:=([am.XN]:Bi);let ao:=ai.length+an.length;
 .cut 0 (λs (ap:Bi)=>pk s [] [] [(11,.vec 1280)] [(1280,vO ap 89)]) (.cc (fz5 am.XN) λap=>.br ap (.conv 15003 (kL an 89)<|.conv 15004 (kA ai an 89)<|.grd (ao * 24<=140737488355328/\ao<=maxLen)<|.oo (ai++an)) (.oo ai)) λap=>.jE ap)
def uzm:=
 mkp5 func163 lza
def Izm (j:Bh)(aa:Bm):T B2:=let ab:=qt.wrap (j.1 * aa.1.Lo);let ac:=qt.wrap (j.1 * aa.1.Hi);let ad:=qt.wrap (j.2.1 * aa.2.1.Lo);let ae:=qt.wrap (j.2.1 * aa.2.1.Hi);let af:=qt.wrap (j.2.2 * aa.2.2.Lo);let ag:=qt.wrap (j.2.2 * aa.2.2.Hi);.cub 2 18 [2,3] [0,64] (.cc (fz5 j) λah=>.jS (!ah) (.cc (sz9 aa) λai=>.oo (!ai))) λah=>.br ah (.jE (0,0)) (.unroll 4<|.jC<|.jq<|.jq<|.jq<|.jq<|.name 8004 ((qt.wrap (0+(min ab ac)))) λai=>.name 9004 ((qt.wrap (0+(max ab ac)))) λaj=>.lit 6001 1<|.jC<|.jr<|.jr<|.jr<|.jr<|.name 8004 ((qt.wrap (ai+(min ad ae)))) λak=>.name 9004 ((qt.wrap (aj+(max ad ae)))) λal=>.lit 6001 2<|.jC<|.jt<|.jt<|.jt<|.jt<|.name 8004 ((qt.wrap (ak+(min af ag)))) λam=>.name 9004 ((qt.wrap (al+(max af ag)))) λan=>.lit 6001 3<|.jD<|.jE (am,an))
def Izl:=
 mkq2 func367 Izm (λr=>.tup [pz r.1,pz r.2])
def zzq (j:Bh)(aa:Bn):T Br:=
 .cub 2 19 [1,2] [0] (.cc (fz5 j) λab=>.jS (!ab) (.cc (ez9 aa) λac=>.oo (!ac))) λab=>.br ab (.jE (0,0,false)) (.loop (λs (ac:Bh)=>pk s [1,2] [0] [(7,pz ac.1),(8,pz ac.2.1),(9,pz ac.2.2)] []) (.exit 0) (λs (ac:B2)=>pk s [] [] [(7,pz ac.1),(8,pz ac.2)] []) (λac=>.jR (ac.2.2<(aa.length:Int)) (.cut 0 (λs (ad:B2)=>pk s [1,2,9] [0] [(7,pz ad.1),(8,pz ad.2)] []) (.gh ac.2.2 aa.length<|.cc (Izl j (aa.getD (X3 ac.2.2) qu)) λad=>.cub 0 41 [1,2,7,8,9,10] [0] (.jS (ac.2.2==0) (.oo (qv (ad.1<ac.1)))) λae=>.br ae (.oo (ad.1,ac.2.2)) (.oo (ac.1,ac.2.1))) λad=>.nn (ad.1,ad.2,(qt.wrap (ac.2.2+1)))) (.oo (ac.1,ac.2.1))) (0,0,0) [] λac=>.jE (ac.1,ac.2,true))
def Kzf:=
 mkq2 func323 zzq (λr=>.tup [pz r.1,pz r.2.1,q r.2.2])
def pzb (j:Bh)(aa:Bn):T Br:=
 .cub 2 19 [1,2] [0] (.cc (fz5 j) λab=>.jS (!ab) (.cc (ez9 aa) λac=>.oo (!ac))) λab=>.br ab (.jE (0,0,false)) (.loop (λs (ac:Bh)=>pk s [1,2] [0] [(7,pz ac.1),(8,pz ac.2.1),(9,pz ac.2.2)] []) (.exit 0) (λs (ac:B2)=>pk s [] [] [(7,pz ac.1),(8,pz ac.2)] []) (λac=>.jR (ac.2.2<(aa.length:Int)) (.cut 0 (λs (ad:B2)=>pk s [1,2,9] [0] [(7,pz ad.1),(8,pz ad.2)] []) (.gh ac.2.2 aa.length<|.cc (Izl j (aa.getD (X3 ac.2.2) qu)) λad=>.cub 0 41 [1,2,7,8,9,11] [0] (.jS (ac.2.2==0) (.oo (qv (ad.2>ac.1)))) λae=>.br ae (.oo (ad.2,ac.2.2)) (.oo (ac.1,ac.2.1))) λad=>.nn (ad.1,ad.2,(qt.wrap (ac.2.2+1)))) (.oo (ac.1,ac.2.1))) (0,0,0) [] λac=>.jE (ac.1,ac.2,true))
def Bzo:=
 mkq2 func324 pzb (λr=>.tup [pz r.1,pz r.2.1,q r.2.2])
def vzz (j:Bh)(aa:Bn)(ab:Int)(ac:Bn)(ad:Int):T Bc:=
 .cc (Kzf j aa) λae=>.cc (Bzo j ac) λaf=>.cub 1 47 [2,4,5,12,15] [0] (.jS (!ae.2.2) (.jS (!af.2.2) (.cc (fzx ab) λag=>.jS (!ag) (.cc (fzx ad) λah=>.oo (!ah))))) λag=>.br ag (.jE (0,false)) (.cc (uzl j) λah=>.jE ((qt.wrap ((qt.wrap (ae.1-af.1))- (qt.wrap (ah * (qt.wrap (ab+ad)))))),true))
def Hz7:=
 mkq5 func272 vzz (λr=>.tup [pz r.1,q r.2])
def mzt (j:Bh)(aa:Bn)(ab:Int)(ac:Bn)(ad:Int):T Bool:=
 .cc (Hz7 j aa ab ac ad) λae=>.br ae.2 (.jE (qv (ae.1>0))) (.jE false)
def mzs:=
 mkp5 func231 mzt
def zzx (j:Bi)(aa:Bn)(ab:Int)(ac:Bn)(ad:Int):T Bc:=
 .loop (ik 12 [0,1,2,3,4] []) (.exit 0) (jk [] []) (λae=>.jR (ae<(j.length:Int)) (.gh ae j.length<|.cc (mzs (j.getD (ae.toNat) qu) aa ab ac ad) λaf=>.br af (.ff (ae,true)) (.nn (qt.wrap (ae+1)))) (.oo .u))
 0 [] λ_=>.jE (0,false)
def Kzj:=
 mkq5 func164 zzx (λr=>.tup [pz r.1,q r.2])
def lzc (j:Bn)(aa:Int)(ab:Bn)(ac:Int)(ad:Bi):T Bl:=
 .cc (uzm j aa ab ac ad) λae=>.cc (Kzj ae j aa ab ac) λaf=>.br (!af.2) (.jE ((0,0,0),false)) (.gh af.1 ae.length<|.jE ((ae.getD (X3 af.1) qu),true))
def uzn:=
 mkq5 func105 lzc (λr=>.tup [q r.1,q r.2])
def sz8 (j:Bn)(aa:A4):T (Bm×Int×Bool):=let ab:=(aa.length:Int);let ac:=(j.length:Int);.cub 2 21 [0,1,4] [0] (.cc (ez9 j) λad=>.jS (!ad) (.oo (ab !=ac))) λad=>.br ad (.jE (((⟨0,0⟩:az0),(⟨0,0⟩:az0),(⟨0,0⟩:az0)),0,false)) (.loop (λs (ae:B2)=>pk s [0,1,4] [0] [(7,pz ae.1),(8,pz ae.2)] []) (.exit 0) (ik 7 [0,1,4] [0]) (λae=>let af:=aa.getD (X3 ae.2) qu;.jR (ae.2<ab) (.cub 2 42 [0,1,4,7,8] [0] (.gh ae.2 aa.length<|.jU (af<0) (.gh ae.2 aa.length<|.oo (qv (af>(qt.wrap (65536-ae.1)))))) λag=>.br ag (.ff (((⟨0,0⟩:az0),(⟨0,0⟩:az0),(⟨0,0⟩:az0)),0,false)) (.gh ae.2 aa.length<|.nn ((qt.wrap (ae.1+af)),(qt.wrap (ae.2+1))))) (.oo ae.1)) (0,0) [] λae=>.jR (ae<1) (.jE (((⟨0,0⟩:az0),(⟨0,0⟩:az0),(⟨0,0⟩:az0)),0,false)) (.loop (λs (af:(Int×Int×Int×Int×Int×Int×Int))=>pk s [0,1,4,7,9] [0] [(10,pz af.2.2.2.2.2.2)] [(576,.box [pz af.1,pz af.2.1,pz af.2.2.1,pz af.2.2.2.1,pz af.2.2.2.2.1,pz af.2.2.2.2.2.1])]) (.exit 2) (λs (af:C3)=>pk s [4,7,9] [0] [] [(576,.box [pz af.1,pz af.2.1,pz af.2.2.1,pz af.2.2.2.1,pz af.2.2.2.2.1,pz af.2.2.2.2.2])]) (λaf=>let ag:=(af.2.2.2.2.2.2).toNat;let ah:=aa.getD ag qu;let ai:=j.getD ag qu;.jR (af.2.2.2.2.2.2<ac) (.unroll 4<|.jC<|.jq<|.gh af.2.2.2.2.2.2 aa.length<|.gh af.2.2.2.2.2.2 j.length<|.jq<|.name 19015 ((qt.wrap (ah * (ai.1.Lo)))) λaj=>.name 19016 ((qt.wrap (af.1+aj))) λak=>.jq<|.jq<|.gh af.2.2.2.2.2.2 aa.length<|.gh af.2.2.2.2.2.2 j.length<|.jq<|.name 20015 ((qt.wrap (ah * (ai.1.Hi)))) λal=>.name 20016 ((qt.wrap (af.2.1+al))) λam=>.jq<|.lit 18001 1<|.jC<|.jr<|.gh af.2.2.2.2.2.2 aa.length<|.gh af.2.2.2.2.2.2 j.length<|.jr<|.name 19015 ((qt.wrap (ah * (ai.2.1.Lo)))) λan=>.name 19016 ((qt.wrap (af.2.2.1+an))) λao=>.jr<|.jr<|.gh af.2.2.2.2.2.2 aa.length<|.gh af.2.2.2.2.2.2 j.length<|.jr<|.name 20015 ((qt.wrap (ah * (ai.2.1.Hi)))) λap=>.name 20016 ((qt.wrap (af.2.2.2.1+ap))) λaq=>.jr<|.lit 18001 2<|.jC<|.jt<|.gh af.2.2.2.2.2.2 aa.length<|.gh af.2.2.2.2.2.2 j.length<|.jt<|.name 19015 ((qt.wrap (ah * (ai.2.2.Lo)))) λar=>.name 19016 ((qt.wrap (af.2.2.2.2.1+ar))) λau=>.jt<|.jt<|.gh af.2.2.2.2.2.2 aa.length<|.gh af.2.2.2.2.2.2 j.length<|.jt<|.name 20015 ((qt.wrap (ah * (ai.2.2.Hi)))) λav=>.name 20016 ((qt.wrap (af.2.2.2.2.2.1+av))) λaw=>.jt<|.lit 18001 3<|.jD<|.nn (ak,am,ao,aq,au,aw,(qt.wrap (af.2.2.2.2.2.2+1)))) (.oo (af.1,af.2.1,af.2.2.1,af.2.2.2.1,af.2.2.2.2.1,af.2.2.2.2.2.1))) (0,0,0,0,0,0,0) [] λaf=>.jE (((⟨af.1,af.2.1⟩:az0),(⟨af.2.2.1,af.2.2.2.1⟩:az0),(⟨af.2.2.2.2.1,af.2.2.2.2.2⟩:az0)),ae,true)))
def sz7:=
 mkq2 func234 sz8 (λr=>.tup [q r.1,pz r.2.1,q r.2.2])
def az1z (j:Int):T Int:=
 .jE (max j (qt.wrap (0-j)))
def iz2:=
 mkp1 func235 az1z
def jz5 (j:A4)(aa:A4)(ab:Bn)(ac:Int)(ad:Bn)(ae:Int):T Bc:=let af:=qt.wrap (ac+ae);.cc (sz7 ab j) λag=>.cc (sz7 ad aa) λah=>.cub 1 57 [3,5,14,15,17] [576,1280] (.jS (!ag.2.2) (.jS (!ah.2.2) (.jS (ag.2.1 !=ah.2.1) (.cc (fzx ac) λai=>.jS (!ai) (.cc (fzx ae) λaj=>.oo (!aj)))))) λai=>.br ai (.jE (0,false)) (.unroll 4<|.jC<|.jq<|.jq<|.cc (iz2 (qt.wrap (ag.1.1.Lo-ah.1.1.Hi))) λaj=>.jq<|.jq<|.cc (iz2 (qt.wrap (ag.1.1.Hi-ah.1.1.Lo))) λak=>.cc (azz (max aj ak) ag.2.1) λal=>.jR (al>af) (.jE ((-1),true)) (.name 12004 ((qt.wrap ((qt.wrap (af * af))- (qt.wrap (al * al))))) λam=>.lit 8001 1<|.jC<|.jr<|.jr<|.cc (iz2 (qt.wrap (ag.1.2.1.Lo-ah.1.2.1.Hi))) λan=>.jr<|.jr<|.cc (iz2 (qt.wrap (ag.1.2.1.Hi-ah.1.2.1.Lo))) λao=>.cc (azz (max an ao) ag.2.1) λap=>.jR (ap>af) (.jE ((-1),true)) (.name 12004 ((qt.wrap (am- (qt.wrap (ap * ap))))) λaq=>.lit 8001 2<|.jC<|.jt<|.jt<|.cc (iz2 (qt.wrap (ag.1.2.2.Lo-ah.1.2.2.Hi))) λar=>.jt<|.jt<|.cc (iz2 (qt.wrap (ag.1.2.2.Hi-ah.1.2.2.Lo))) λau=>.cc (azz (max ar au) ag.2.1) λav=>.jR (av>af) (.jE ((-1),true)) (.name 12004 ((qt.wrap (aq- (qt.wrap (av * av))))) λaw=>.lit 8001 3<|.jD<|.jE (aw,true)))))
def nzs:=
 mkq6 func176 jz5 (λr=>.tup [pz r.1,q r.2])
def hz4 (j:A4)(aa:A4)(ab:Bn)(ac:Int)(ad:Bn)(ae:Int):T Bool:=
 .cc (nzs j aa ab ac ad ae) λaf=>.br af.2 (.jE (qv (af.1>=0))) (.jE false)
def fzo:=
 mkp6 func108 hz4
def pzd (j:az7)(aa:Ae)(ab:Bi):T ezx:=let ac:=(ab.length:Int);.cc (Az1 j aa) λad=>.br (!ad.2.2) (.jE (⟨0,nl,(⟨0,nl,nl⟩:bze)⟩:ezx)) (.loop (λs (ae:(Int×Bi×Int))=>pk s [2,6,7,8,10] [64,66,68,69,899,900] [(11,pz ae.2.2)] [(897,vO ae.2.1 89),(960,.box [pz ae.1,.vec 897,pz 0,.vec 899,.vec 900])]) (.exit 0) (λs (ae:(Int×Bi))=>pk s [6,10] [64,66,68,69,899,900] [] [(897,vO ae.2 89),(960,.box [pz ae.1,.vec 897,pz 0,.vec 899,.vec 900])]) (λae=>let af:=(ae.2.2).toNat;let ag:=qt.wrap (ae.2.2+1);let ah:=ad.1.getD af qu;let ai:=ah.points;let aj:=ah.radius;let ak:=ad.2.1.getD af qu;let al:=ak.points;let am:=ak.radius;.jR (ae.2.2<(ad.1.length:Int)) (.cut 0 (λs (an:(Int×Bi))=>pk s [2,6,7,8,10,11] [64,66,68,69,899,900] [] [(960,.box [pz an.1,.vec 1472,pz 0,.vec 899,.vec 900]),(1472,vO an.2 89)]) (.cut 1 (λs (an:Bi)=>pk s [2,6,7,8,10,11] [64,66,68,69,897,899,900,960] [(12,q an)] []) (.jR (ae.2.2<ac) (.conv 10004 (Czl 3 azv ab ae.2.2 ag)<|.grd (0<=ae.2.2/\ae.2.2<=ag/\ag<=ac)<|.oo ((ab.drop af).take (ag.toNat- (ae.2.2).toNat))) (.oo nl)) λan=>.gh ae.2.2 ad.1.length<|.gh ae.2.2 ad.1.length<|.gh ae.2.2 ad.2.1.length<|.gh ae.2.2 ad.2.1.length<|.cc (uzn ai aj al am an) λao=>let ap:=([ao.1]:Bi);let aq:=ae.2.1++ap;let ar:=ae.2.1.length+ap.length;
 .conv 12003 (kL ap 89)<|.conv 12004 (kA ae.2.1 ap 89)<|.grd (ar * 24<=140737488355328/\ar<=maxLen)<|.br ao.2 (.oo (ae.1,aq)) (.gh ae.2.2 ad.1.length<|.cc (dzp ai) λau=>.gh ae.2.2 ad.2.1.length<|.cc (dzp al) λav=>.gh ae.2.2 ad.1.length<|.gh ae.2.2 ad.2.1.length<|.call (fzw au av (qt.wrap (aj+am)) 64) [] λaw=>.gh ae.2.2 ad.1.length<|.gh ae.2.2 ad.1.length<|.gh ae.2.2 ad.2.1.length<|.gh ae.2.2 ad.2.1.length<|.cc (fzo aw.Left aw.XK ai aj al am) λax=>.br ax (.ff (.fin (⟨2,nl,(⟨ae.2.2,aw.Left,aw.XK⟩:bze)⟩:ezx))) (.oo (0,aq)))) λan=>.nn (an.1,an.2,ag)) (.oo (ae.1,ae.2.1))) (1,nl,0) [] λae=>.jE (⟨ae.1,ae.2,(⟨0,nl,nl⟩:bze)⟩:ezx))
def jzl:=
 mkp3 func55 pzd
def wzm (j:az7)(aa:A4):T Bool:=
 .cc (zzm aa) λab=>.cc (jzl (⟨j.Xf,j.Xe,j.Xr⟩:az7) ab nl) λac=>.jE (ac.Xn==1)
def nzy:=
 mkp2 func124 wzm
def Azn (j:az2)(aa:azm)(ab:aza)(ac:Int):T Bool:=let ad:=j.Xk.getD (ac.toNat) qu;.cc (fz1 j aa ab) λae=>.cub 1 57 [3,4,5,6,9] [0,64,128,704] (.jS (!ae.2) (.jU (ac<0) (.jU (ac>=(j.Xk.length:Int)) (.gh ac j.Xk.length<|.jS ((ad.Xu) !=ab.Xu) (.gh ac j.Xk.length<|.oo ((ad.Place) !=ab.Place)))))) λaf=>.br af (.jE false) (.gh ac j.Xk.length<|.cc (dzq j aa) λag=>.cc (dzq j ae.1) λah=>.cc (jz7 (⟨j.Xl,j.Xd,j.Xh,j.Xi,j.Xk,j.Xq⟩:az2) ab.Xu ab.Place (ad.At)) λai=>.br ai (.cc (nzy (⟨ag.1.Xf,ag.1.Xe,ag.1.Xr⟩:az7) (ad.At)) λaj=>.br aj (.cc (nzy (⟨ah.1.Xf,ah.1.Xe,ah.1.Xr⟩:az7) (ad.At)) λak=>.jE ak) (.jE false)) (.jE false))
def Azm:=
 mkp4 func70 Azn
open Go.Proofs
def vzr (j:azk):T Ae:=
 .cc (cze j) λaa=>.br (aa !=0) (.jE nl) (.loop (λs (ab:Af)=>pk s [1,3] [0] [(4,pz ab.2)] [(320,vO ab.1 95)]) (.exit 0) (λs (ab:Ae)=>pk s [3] [] [] [(320,vO ab 95)]) (λab=>let ac:=j.Xc.getD (X3 ab.2) qu;let ad:=([(⟨ac.Lo,ac.Hi⟩:az0)]:Ae);let ae:=ab.1.length+ad.length;.jR (ab.2<(j.Xc.length:Int)) (.gh ab.2 j.Xc.length<|.gh ab.2 j.Xc.length<|.conv 7014 (kL ad 95)<|.conv 7015 (kA ab.1 ad 95)<|.grd (ae * 16<=140737488355328/\ae<=maxLen)<|.nn ((ab.1++ad),(qt.wrap (ab.2+1)))) (.oo ab.1)) (nl,0) [] λab=>.jE ab)
def vzq:=
 mkp1 func190 vzr
def szp (j:Ae):T Bool:=let aa:=(j.length:Int);.cub 2 11 [0] [] (.jU (aa<1) (.oo (qv (aa>10)))) λab=>.br ab (.jE false) (.loop (ik 3 [0] []) (.exit 0) (jk [] []) (λac=>.jR (ac<aa) (.gh ac j.length<|.cc (dz9 (j.getD (ac.toNat) qu)) λad=>.br (!ad) (.ff false) (.nn (qt.wrap (ac+1)))) (.oo .u))
 0 [] λ_=>.jE true)
def szo:=
 mkp1 func247 szp
def Azi (j:Int):T Int:=
 .cub 2 8 [0] [] (.jU (j<0) (.oo (qv (j>=10)))) λaa=>.br aa (.jE 0) (.gh j 10<|.jE (([2,3,5,7,11,13,17,19,23,29]:List Int).getD j.toNat 0))
def Azh:=
 mkq1 func249 Azi (λr=>.pure (.int .u64 r))
def Tz1 (j:Int)(aa:Int):T B2:=
 .jR (j<2) (.jE (0,1)) (.ok ((4294967296:Int)≠0) jF<|.loop (λs (ab:Bh)=>pk s [0] [] [(1,.pure (.int .u64 ab.1)),(6,.pure (.int .u64 ab.2.1)),(7,.pure (.int .u64 ab.2.2))] []) (.exit 0) (λs (ab:B2)=>pk s [] [] [(6,.pure (.int .u64 ab.1)),(7,.pure (.int .u64 ab.2))] []) (λab=>.jR (ab.1>0) (.grd (j≠0)<|.grd (j≠0)<|.nn ((IntKind.u64.wrap (ab.1.tdiv j)),(IntKind.u64.wrap ((IntKind.u64.wrap (ab.2.1 * j))+(ab.1.tmod j))),(IntKind.u64.wrap (ab.2.2 * j)))) (.oo (ab.2.1,ab.2.2))) ((aa.tmod 4294967296),0,1) [] λab=>.jE (ab.1,ab.2))
def gzl (j)(aa):=
 mkD func248 (Tz1 j aa) 0 [.pure (.int .u64 j),.pure (.int .u64 aa)] [] (λr=>.tup [.pure (.int .u64 r.1),.pure (.int .u64 r.2)]) X6
def szl (j:Int)(aa:Int):T Bool:=
 .cc (dz9 (⟨j,aa⟩:az0)) λab=>.jE ab
def Ezg:=
 mkp2 func301 szl
def Azg (j:Int)(aa:Int)(ab:Int)(ac:Int):T Int:=
 .cub 2 21 [0,1,2,3] [] (.cc (Ezg ab ac) λad=>.jS (!ad) (.oo (qv (j>=aa)))) λad=>.br ad (.jE ab) (.call (mzn j (IntKind.u64.wrap ((IntKind.u64.wrap (qt.wrap (ac-ab)))+1))) [] λae=>.cc (izf ae.1 ae.2 aa) λaf=>.jE (qt.wrap (ab+(qt.wrap af.1))))
def qzs (j)(aa)(ab)(ac):=
 mkD func250 (Azg j aa ab ac) 0 [.pure (.int .u64 j),.pure (.int .u64 aa),pz ab,pz ac] [] pz X6
def wzg (j:Ae)(aa:Int):T A4:=
 .cc (szo j) λab=>.br (!ab) (.jE nl) (.loop (λs (ac:Ah)=>pk s [0,1,5] [] [(6,pz ac.2)] [(256,vO ac.1 2)]) (.exit 0) (λs (ac:A4)=>pk s [5] [] [] [(256,vO ac 2)]) (λac=>let ad:=j.getD (X3 ac.2) qu;.jR (ac.2<(j.length:Int)) (.cc (Azh ac.2) λae=>.cc (gzl ae aa) λaf=>.gh ac.2 j.length<|.gh ac.2 j.length<|.cc (qzs af.1 af.2 (ad.Lo) (ad.Hi)) λag=>let ah:=([ag]:A4);let ai:=ac.1.length+ah.length;
 .conv 8014 (kL ah 2)<|.conv 8015 (kA ac.1 ah 2)<|.grd (ai * 8<=140737488355328/\ai<=maxLen)<|.nn ((ac.1++ah),(qt.wrap (ac.2+1)))) (.oo ac.1)) (nl,0) [] λac=>.jE ac)
def wzf (j)(aa):=
 mkD func191 (wzg j aa) 0 [q j,.pure (.int .u64 aa)] [] (λr=>q r) X6
def jzw (j:A4)(aa:A4):T Bool:=let ab:=(j.length:Int);.br (ab !=(aa.length:Int)) (.jE false) (.loop (ik 5 [0,1] []) (.exit 0) (jk [] []) (λac=>.jR (ac<ab) (.gh ac j.length<|.gh ac aa.length<|.br ((j.getD (ac.toNat) qu) !=(aa.getD (ac.toNat) qu)) (.ff false) (.nn (qt.wrap (ac+1)))) (.oo .u))
 0 [] λ_=>.jE true)
def jzv:=
 mkp2 func132 jzw
def szk (j:A5)(aa:A4):T Int:=
 .loop (ik 5 [0,1] [0]) (.exit 0) (jk [] [0]) (λab=>.jR (ab<(j.length:Int)) (.gg ab j.length<|.cc (jzv (j.getD (ab.toNat) qu) aa) λac=>.br ac (.ff ab) (.nn (qt.wrap (ab+1)))) (.oo .u))
 0 [] λ_=>.jE (-1)
def szj (j)(aa):=
 mkD func127 (szk j aa) 1 [.vec 0,q aa] [(0,vO j 39)] pz (λ_=>[(0,vO j 39)])
def pza (j:azk)(aa:A4)(ab:A4):T Int:=let ac:=(aa.length:Int);.cub 2 36 [1,2,3] [0] (.cc (cze j) λad=>.jS (ad !=0) (.cc (izj aa) λae=>.jS (!ae) (.cc (izj ab) λaf=>.jS (!af) (.jS (ac !=(j.Xc.length:Int)) (.oo ((ab.length:Int) !=ac)))))) λad=>.br ad (.jE 0) (.loop (λs (ae:B2)=>pk s [1,2,3] [0] [(7,pz ae.1),(8,pz ae.2)] []) (.exit 0) (ik 7 [] []) (λae=>let af:=(ae.2).toNat;let ag:=aa.getD af qu;let ah:=ab.getD af qu;.jR (ae.2<ac) (.gh ae.2 j.Xc.length<|.gh ae.2 aa.length<|.gh ae.2 ab.length<|.gh ae.2 ab.length<|.gh ae.2 aa.length<|.name 7025 ((max (qt.wrap (ag-ah)) (qt.wrap (ah-ag)))) λai=>.nn ((qt.wrap (ae.1+(qt.wrap (((j.Xc.getD af qu).XQ) * ai)))),(qt.wrap (ae.2+1)))) (.oo ae.1)) (0,0) [] λae=>.jE ae)
def hz3:=
 mkp3 func304 pza
def lze (j:azk)(aa:A5)(ab:A4)(ac:Int):T A4:=
 .loop (λs (ad:Ah)=>pk s [1,2,3,4,9] [0,1] [(10,pz ad.2)] [(129,vO ad.1 3)]) (.exit 0) (λs (ad:A4)=>pk s [9] [0] [] [(129,vO ad 3)]) (λad=>let ae:=([ad.2]:A4);let af:=ad.1.length+ae.length;.jR (ad.2<(aa.length:Int)) (.cut 0 (λs (ag:A4)=>pk s [1,2,3,4,9,10] [0,1] [] [(129,vO ag 3)]) (.br (ad.2==ac) (.oo ad.1) (.conv 7002 (kL ae 3)<|.conv 7003 (kA ad.1 ae 3)<|.grd (af * 8<=140737488355328/\af<=maxLen)<|.gg ad.2 aa.length<|.cc (hz3 j (aa.getD (X3 ad.2) qu) ab) λag=>.loop (λs (ah:Ah)=>pk s [1,2,3,4,9,10,12] [0,1] [(11,pz ah.2)] [(1153,vO ah.1 3)]) (.exit 2) (λs (ah:A4)=>pk s [1,2,3,4,9,10] [0,1] [] [(1153,vO ah 3)]) (λah=>let ai:=(ah.2).toNat;let aj:=qt.wrap (ah.2-1);let ak:=aj.toNat;let al:=ah.1.getD ak qu;let am:=ah.1.set ai al;let an:=ah.1.getD ai qu;.cub 1 51 [1,2,3,4,9,10,11,12] [0,1,1153] (.jR (ah.2>0) (.gg aj ah.1.length<|.gg al aa.length<|.call (hz3 j (aa.getD (al.toNat) qu) ab) [] λao=>.oo (qv (ag<ao))) (.oo false)) λao=>.br ao (.gg aj ah.1.length<|.gg ah.2 ah.1.length<|.gh ah.2 ah.1.length<|.conv 10015 (kS ah.1 3 ai al)<|.gi (ah.2) ah.1.length<|.gh aj (am.length)<|.conv 10017 (kS am 3 ak an)<|.gi (aj) (am.length)<|.nn ((am.set ak an),aj)) (.oo ah.1)) ((ad.1++ae),(ad.1.length:Int)) [] λah=>.oo ah)) λag=>.nn (ag,(qt.wrap (ad.2+1)))) (.oo ad.1)) (nl,0) [] λad=>.jE ad
def uzr (j)(aa)(ab)(ac):=
 mkD func251 (lze j aa ab ac) 1 [q j,.vec 0,q ab,pz ac] [(0,vO aa 39)] (λr=>q r) (λ_=>[(0,vO aa 39)])
def wzj (j:azk)(aa:A5)(ab:Al)(ac:Int)(ad:Int):T Al:=let ae:=min ac ad;let af:=max ac ad;let ag:=hz3 j (aa.getD (ae.toNat) qu) (aa.getD (af.toNat) qu);.loop (λs (ah:(Al×Bool×Int))=>pk s [2,3,4,5,9] [0,1,2,66] [(10,q ah.2.1),(11,pz ah.2.2)] [(706,vO ah.1 310)]) (.exit 0) (λs (ah:(Al×Bool))=>pk s [2,3,4,5,9] [0,1,2,66] [(10,q ah.2)] [(706,vO ah.1 310)]) (λah=>let ai:=ab.getD (X3 ah.2.2) qu;let aj:=([ai]:Al);.jR (ah.2.2<(ab.length:Int)) (.gg ah.2.2 ab.length<|.cut 0 (λs (ak:(Al×Bool))=>pk s [2,3,4,5,11,12] [0,1,2,66,1602] [(9,.vec 1730),(10,q ak.2)] [(1730,vO ak.1 310)]) (.cub 0 50 [2,3,4,5,9,10,11,12] [0,1,2,66,706,1602] (.jT (!ah.2.1) (.jU ((ai.U)>ae) (.jT ((ai.U)==ae) (.oo (qv ((ai.V)>=af)))))) λak=>.br ak (.cub 1 60 [2,3,4,5,9,10,11,12] [0,1,2,66,706,1602] (.jS ((ai.U) !=ae) (.oo ((ai.V) !=af))) λal=>.br al (.gg ae aa.length<|.gg af aa.length<|.cc ag λam=>let an:=([(⟨ae,af,am,0,(⟨0,nl,(⟨0,0,nl⟩:az6),(⟨0,nl,nl⟩:bze)⟩:azo)⟩:az1)]:Al);let ao:=ah.1.length+an.length;
 .conv 11016 (az9u 12 gzd an 310 [.agg [jP ae,jP af,jP am,jP 0,jP 0,.lst 0 0 λ_=>.unk,jP 0,jP 0,.lst 0 0 λ_=>.unk,jP 0,.lst 0 0 λ_=>.unk,.lst 0 0 λ_=>.unk]] jJ)<|.conv 11017 (kA ah.1 an 310)<|.grd (ao * 160<=140737488355328/\ao<=maxLen)<|.oo ((ah.1++an),true)) (.oo (ah.1,true))) (.oo (ah.1,ah.2.1))) λak=>let al:=ak.1.length+aj.length;
 .conv 12002 (kL aj 310)<|.conv 12003 (kA ak.1 aj 310)<|.grd (al * 160<=140737488355328/\al<=maxLen)<|.nn ((ak.1++aj),ak.2,(qt.wrap (ah.2.2+1)))) (.oo (ah.1,ah.2.1))) (nl,false,0) [] λah=>.cut 0 (λs (ai:Al)=>pk s [] [0,1] [(9,.vec 962)] [(962,vO ai 310)]) (.br (!ah.2) (.gg ae aa.length<|.gg af aa.length<|.cc ag λai=>let aj:=([(⟨ae,af,ai,0,(⟨0,nl,(⟨0,0,nl⟩:az6),(⟨0,nl,nl⟩:bze)⟩:azo)⟩:az1)]:Al);let ak:=ah.1.length+aj.length;
 .conv 14016 (az9u 12 gzd aj 310 [.agg [jP ae,jP af,jP ai,jP 0,jP 0,.lst 0 0 λ_=>.unk,jP 0,jP 0,.lst 0 0 λ_=>.unk,jP 0,.lst 0 0 λ_=>.unk,.lst 0 0 λ_=>.unk]] jJ)<|.conv 14017 (kA ah.1 aj 310)<|.grd (ak * 160<=140737488355328/\ak<=maxLen)<|.oo (ah.1++aj)) (.oo ah.1)) λai=>.jE ai
def Hzd (j)(aa)(ab)(ac)(ad):=
 mkD func252 (wzj j aa ab ac ad) 2 [q j,.agg [.vec 0,.vec 1],pz ac,pz ad] [(0,vO aa 39),(1,vO ab 310)] (λ_=>.vec 2) (λr=>[(0,vO aa 39),(1,vO ab 310),(2,vO r 310)])
def wzh (j:azk)(aa:A5)(ab:Int):T azc:=
 .cc (cze j) λac=>.br (ac !=0) (.jE (⟨nl,nl⟩:azc)) (.loop (λs (ad:Ap)=>pk s [1,2,3,6,7] [0,64,65,66,128,130] [(8,pz ad.2)] [(129,vO ad.1 39)]) (.exit 0) (λs (ad:A5)=>pk s [2,3,6,7] [0,64,65,66,128,130] [] [(129,vO ad 39)]) (λad=>let ae:=aa.getD (X3 ad.2) qu;let af:=([ae]:A5);let ag:=ad.1.length+af.length;.cub 1 25 [1,2,3,6,7,8] [0,64,65,66,128,129,130] (.jR (ad.2<(aa.length:Int)) (.oo (qv ((ad.1.length:Int)<1024))) (.oo false)) λah=>.br ah (.cut 0 (λs (ai:A5)=>pk s [1,2,3,6,7,8] [0,64,65,66,130] [] [(128,.box [.vec 576,.vec 130]),(576,vO ai 39)]) (.cub 0 43 [1,2,3,6,7,8] [0,64,65,66,128,129,130] (.gh ad.2 aa.length<|.cc (dzn (⟨j.Xc,j.Xv⟩:azk) ae) λai=>.jT ai (.gh ad.2 aa.length<|.call (szj ad.1 ae) [(0,129)] λaj=>.oo (qv (aj<0)))) λai=>.br ai (.gh ad.2 aa.length<|.grd (ae.length * 8<=140737488355328/\ae.length<=maxLen)<|.conv 8007 (kL af 39)<|.conv 8008 (kA ad.1 af 39)<|.grd (ag * 24<=140737488355328/\ag<=maxLen)<|.oo (ad.1++af)) (.oo ad.1)) λai=>.nn (ai,(qt.wrap (ad.2+1)))) (.oo ad.1)) (nl,0) [] λad=>.loop (λs (ae:Am)=>pk s [2,3,6,7] [0,64,65,66,128,129] [(9,pz ae.2)] [(130,vO ae.1 310)]) (.exit 2) (λs (ae:Al)=>pk s [6,7] [64,65,66,128,129] [] [(130,vO ae 310)]) (λae=>.jR (ae.2<(ad.length:Int)) (.gg ae.2 ad.length<|.call (uzr j ad (ad.getD (X3 ae.2) qu) ae.2) [(0,129)] λaf=>.loop (λs (ag:Am)=>pk s [2,3,6,7,9,10] [0,64,65,66,128,129] [(11,pz ag.2)] [(130,vO ag.1 310)]) (.exit 4) (λs (ag:Al)=>pk s [2,3,6,7,9] [0,64,65,66,128,129] [] [(130,vO ag 310)]) (λag=>.cub 1 79 [2,3,6,7,9,10,11] [0,64,65,66,128,129,130] (.jR (ag.2<(af.length:Int)) (.oo (qv (ag.2<ab))) (.oo false)) λah=>.br ah (.gh ag.2 af.length<|.call (Hzd j ad ag.1 ae.2 (af.getD (X3 ag.2) qu)) [(0,129),(1,130)] λai=>.nn (ai,(qt.wrap (ag.2+1)))) (.oo ag.1)) (ae.1,0) [] λag=>.nn (ag,(qt.wrap (ae.2+1)))) (.oo ae.1)) (nl,0) [] λae=>let af:=(ae.length:Nat);
 .cut 0 (λs (ag:Al)=>pk s [6,7] [64,65,66,129] [] [(128,.box [.vec 129,.vec 640]),(640,vO ag 310)]) (.jR ((af:Int)>8192) (.conv 18002 (az5o 12 gzd ae 310 (8192:Int))<|.grd (0<=(8192:Int)/\(8192:Int)<=(af:Int)/\0<=(8192:Int).toNat)<|.oo (ae.take (X3 (8192:Int)))) (.oo ae)) λag=>.jE (⟨ad,ag⟩:azc))
def nzw:=
 mkp3 func192 wzh
def szu (j:az7)(aa:A4)(ab:A4)(ac:cz5):T azc:=let ad:=([aa,ab]:A5);.conv 1002 (kL ad 39)<|.cc (vzq j.Xf) λae=>.loop (λs (af:Ap)=>pk s [4,7,8,9,10] [0,64,128,129,130] [(11,pz af.2)] [(320,vO af.1 39)]) (.exit 0) (λs (af:A5)=>pk s [4,7,8,9] [0,64,128,129,130] [] [(320,vO af 39)]) (λaf=>.jR (af.2<=ac.XF) (.cc (wzf ae (IntKind.u64.wrap af.2)) λag=>let ah:=([ag]:A5);let ai:=af.1.length+ah.length;
 .conv 6005 (kL ah 39)<|.conv 6006 (kA af.1 ah 39)<|.grd (ai * 24<=140737488355328/\ai<=maxLen)<|.nn ((af.1++ah),(qt.wrap (af.2+1)))) (.oo af.1)) (ad,1) [] λaf=>.cc (nzw j.Xf af ac.XJ) λag=>.jE ag
def szt:=
 mkp4 func125 szu
def mzy (j:A5)(aa:A4):T Int:=
 .loop (ik 5 [0,1] []) (.exit 0) (jk [] []) (λab=>.jR (ab<(j.length:Int)) (.gh ab j.length<|.cc (jzv (j.getD (ab.toNat) qu) aa) λac=>.br ac (.ff ab) (.nn (qt.wrap (ab+1)))) (.oo .u))
 0 [] λ_=>.jE (-1)
def mzx:=
 mkp2 func127 mzy
def szn (j:azc):T Bool:=let aa:=(j.Xb.length:Int);let ab:=(j.Xa.length:Int);.loop (ik 3 [1] [0]) (.exit 0) (jk [1] [0]) (λac=>let ad:=qt.wrap (ac-1);let ae:=j.Xb.getD (ac.toNat) qu;let af:=ae.U;let ag:=j.Xb.getD (ad.toNat) qu;.jR (ac<aa) (.gh ac j.Xb.length<|.cub 1 34 [1,3,4] [0,896] (.jU (af<0) (.jU (af>=(ae.V)) (.oo (qv ((ae.V)>=ab))))) λah=>.br ah (.ff false) (.cub 0 72 [1,3] [0] (.jR (ac>0) (.gh ad j.Xb.length<|.jU ((ag.U)>af) (.gh ad j.Xb.length<|.jT ((ag.U)==af) (.gh ad j.Xb.length<|.oo (qv ((ag.V)>=(ae.V)))))) (.oo false)) λai=>.br ai (.ff false) (.nn (qt.wrap (ac+1))))) (.oo .u))
 0 [] λ_=>.jR (ab<=1024) (.jE (qv (aa<=8192))) (.jE false)
def szm:=
 mkp1 func257 szn
def wze (j:azc):T Bool:=
 .loop (ik 3 [1] [0]) (.exit 0) (jk [1] [0]) (λaa=>let ab:=j.Xb.getD (aa.toNat) qu;.jR (aa<(j.Xb.length:Int)) (.cub 1 26 [1,3] [0] (.gh aa j.Xb.length<|.jU ((ab.Xo)<0) (.gh aa j.Xb.length<|.oo (qv ((ab.Xo)>1099511627776)))) λac=>.br ac (.ff false) (.nn (qt.wrap (aa+1)))) (.oo .u))
 0 [] λ_=>.cc (szm j) λaa=>.jE aa
def nzv:=
 mkp1 func195 wze
def Azj (j:azc)(aa:Int)(ab:Int):T Bool:=let ac:=(j.Xa.length:Int);.cc (nzv j) λad=>.br ad (.jR (aa>=0) (.jR (aa<ac) (.jR (ab>=0) (.jE (qv (ab<ac))) (.jE false)) (.jE false)) (.jE false)) (.jE false)
def qzt:=
 mkp3 func253 Azj
def pzj (j:az1)(aa:Int):T Bool:=
 .br (aa==0) (.jE (j.Xx==1)) (.br (aa==1) (.br (j.Xx==1) (.jE true) (.jE (j.Xx==0))) (.br (aa==2) (.jE (j.Xx !=2)) (.jE false)))
def pzi:=
 mkp2 func306 pzj
def Ezh (j:azf)(aa:azf):T Bool:=let ab:=qv (aa.Xo<0);.cub 2 12 [2,3] [0,64] (.jS ab (.oo (qv (j.Xo<0)))) λac=>.br ac (.jR (j.Xo>=0) (.jE ab) (.jE false)) (.jR (j.Xo<aa.Xo) (.jE true) (.br (j.Xo==aa.Xo) (.jE (qv (j.Xb<aa.Xb))) (.jE false)))
def uzs:=
 mkp2 func361 Ezh
def wzl (j:azc)(aa:Int)(ab:Int):T B0:=let ac:=(j.Xa.length:Int);.conv 1003 (Czk 2 Czn 387 ac.toNat (⟨0,0⟩:azf))<|.grd (0<=ac/\ac<=ac/\ac<=9223372036854775807/\ac * 16<=140737488355328)<|.loop (λs (ad:(B0×Int))=>pk s [1,2,3,7] [0] [(8,pz ad.2)] [(320,vO ad.1 387)]) (.exit 0) (λs (ad:B0)=>pk s [1,2,3,7] [0] [] [(320,vO ad 387)]) (λad=>let ae:=(ad.2).toNat;let af:=(⟨(-1),(ad.1.getD ae qu).Xb⟩:azf);.name 3002 ((ad.1.length:Int)) λag=>.jR (ad.2<ag) (.gh ad.2 ad.1.length<|.conv 5004 (kS ad.1 387 ae af)<|.gi (ad.2) ad.1.length<|.nn ((ad.1.set ae af),(qt.wrap (ad.2+1)))) (.oo ad.1)) ((qs ac.toNat ((⟨0,0⟩:azf):azf)),0) [] λad=>.gh aa ad.length<|.conv 6004 (kS ad 387 (aa.toNat) (⟨0,0⟩:azf))<|.gi (aa) ad.length<|.loop (λs (ae:B9)=>pk s [2,3,7] [0] [(9,q ae.2)] [(320,vO ae.1 387)]) (.exit 2) (λs (ae:B0)=>pk s [7] [] [] [(320,vO ae 387)]) (λae=>.br ae.2 (.loop (λs (af:(B0×Bool×Int))=>pk s [2,3,7] [0] [(9,q af.2.1),(10,pz af.2.2)] [(320,vO af.1 387)]) (.exit 4) (λs (af:B9)=>pk s [2,3,7] [0] [(9,q af.2)] [(320,vO af.1 387)]) (λaf=>let ag:=j.Xb.getD (X3 af.2.2) qu;let ah:=([(ag.U,ag.V),(ag.V,ag.U)]:B3);.jR (af.2.2<(j.Xb.length:Int)) (.cut 0 (λs (ai:B9)=>pk s [2,3,7,10] [0] [(9,q ai.2)] [(320,vO ai.1 387)]) (.gh af.2.2 j.Xb.length<|.cc (pzi ag ab) λai=>.br (!ai) (.oo (af.1,af.2.1)) (.conv 15010 (kL ah 375)<|.name 15011 ((ah.length:Int)) λaj=>.loop (λs (ak:(B0×Bool×Int))=>pk s [2,3,7,10,11,60,61] [0,1920,2944] [(9,q ak.2.1),(62,pz ak.2.2)] [(320,vO ak.1 387)]) (.exit 6) (λs (ak:B9)=>pk s [2,3,7,10] [0] [(9,q ak.2)] [(320,vO ak.1 387)]) (λak=>let al:=ah.getD (X3 ak.2.2) qu;.jR (ak.2.2<aj) (.cut 0 (λs (am:B9)=>pk s [2,3,7,10,11,60,61,62] [0,1920,2944] [(9,q am.2)] [(320,vO am.1 387)]) (.gg ak.2.2 (ah.length)<|.ix 0 2 rfl<|.name 18002 (al.1) λam=>let an:=ak.1.getD (am.toNat) qu;
 .gg am ak.1.length<|.jR ((an.Xo)<0) (.oo (ak.1,ak.2.1)) (.name 20004 ((qt.wrap ((an.Xo)+(ag.Xo)))) λao=>let ap:=(⟨ao,(qt.wrap ((an.Xb)+1))⟩:azf);
 .ix 1 2 rfl<|.name 21003 (al.2) λaq=>.gg aq ak.1.length<|.call (uzs ap (ak.1.getD (aq.toNat) qu)) [] λar=>.br ar (.ix 1 2 rfl<|.name 22002 (al.2) λau=>.gh au ak.1.length<|.conv 22005 (kS ak.1 387 (au.toNat) ap)<|.gi (au) ak.1.length<|.oo ((ak.1.set (au.toNat) ap),true)) (.oo (ak.1,ak.2.1)))) λam=>.nn (am.1,am.2,(qt.wrap (ak.2.2+1)))) (.oo (ak.1,ak.2.1))) (af.1,af.2.1,0) [] λak=>.oo (ak.1,ak.2))) λai=>.nn (ai.1,ai.2,(qt.wrap (af.2.2+1)))) (.oo (af.1,af.2.1))) (ae.1,false,0) [] λaf=>.nn (af.1,af.2)) (.oo ae.1)) ((ad.set (aa.toNat) (⟨0,0⟩:azf)),true) [] λae=>.jE ae
def wzk:=
 mkp3 func305 wzl
def pzh (j:azc)(aa:Int)(ab:Int)(ac:Int):T (dz1×Bool):=let ad:=([aa]:A4);let ae:=(⟨j.Xa,j.Xb⟩:azc);.cub 2 29 [1,2,3,4,8] [0,64,65] (.cc (qzt ae aa ab) λaf=>.jS (!af) (.jU (ac<0) (.oo (qv (ac>2))))) λaf=>.br af (.jE ((⟨nl,0⟩:dz1),false)) (.cc (wzk ae ab ac) λag=>let ah:=ag.getD (aa.toNat) qu;
 .gh aa ag.length<|.jR ((ah.Xo)<0) (.jE ((⟨nl,0⟩:dz1),false)) (.conv 6001 (kL ad 3)<|.gh aa ag.length<|.loop (λs (ai:Ah)=>pk s [2,3,4,8,10,11] [0,64,65,1472] [(12,pz ai.2)] [(1024,vO ai.1 3)]) (.exit 0) (λs (ai:A4)=>pk s [8,11] [64,65,1472] [] [(1024,vO ai 3)]) (λai=>let aj:=ag.getD (X3 ai.2) qu;.br (ai.2 !=ab) (.loop (λs (ak:B2)=>pk s [2,3,4,8,10,11,12] [0,64,65,1024,1472] [(13,pz ak.1),(14,pz ak.2)] []) (.exit 2) (ik 13 [2,3,4,8,10,11] [0,64,65,1024,1472]) (λak=>let al:=j.Xb.getD (X3 ak.2) qu;.jR (ak.2<(j.Xb.length:Int)) (.cut 0 (λs (am:Int)=>pk s [2,3,4,8,10,11,12,14] [0,64,65,1024,1472] [(13,pz am)] []) (.gh ak.2 j.Xb.length<|.cub 1 81 [2,3,4,8,10,11,12,13,14,15] [0,64,65,1024,1472,2816] (.cc (pzi al ac) λam=>.jS (!am) (.jT ((al.U) !=ai.2) (.oo ((al.V) !=ai.2)))) λam=>.br am (.oo ak.1) (.name 15006 ((qt.wrap ((qt.wrap ((al.U)+(al.V)))-ai.2))) λan=>let ao:=ag.getD (an.toNat) qu;
 .cub 0 133 [2,3,4,8,10,11,12,13,14,16] [0,64,65,1024,1472] (.gh an ag.length<|.jR ((ao.Xo)>=0) (.gh an ag.length<|.gh ai.2 ag.length<|.jT ((qt.wrap ((ao.Xo)+(al.Xo)))==(aj.Xo)) (.gh an ag.length<|.gh ai.2 ag.length<|.jT ((qt.wrap ((ao.Xb)+1))==(aj.Xb)) (.jU (ak.1<0) (.oo (qv (an<ak.1)))))) (.oo false)) λap=>.br ap (.oo an) (.oo ak.1))) λam=>.nn (am,(qt.wrap (ak.2+1)))) (.oo ak.1)) ((-1),0) [] λak=>let al:=([ak]:A4);let am:=ai.1.length+al.length;
 .conv 19003 (kL al 3)<|.conv 19004 (kA ai.1 al 3)<|.grd (am * 8<=140737488355328/\am<=maxLen)<|.nn ((ai.1++al),ak)) (.oo ai.1)) (ad,aa) [] λai=>.jE ((⟨ai,ah.Xo⟩:dz1),true)))
def pzg:=
 mkq4 func254 pzh (λr=>.tup [q r.1,q r.2])
def fzy (j:azc)(aa:Int)(ab:Int):T Int:=
 .loop (ik 7 [1,2,3] [0]) (.exit 0) (jk [] []) (λac=>let ad:=j.Xb.getD (ac.toNat) qu;.jR (ac<(j.Xb.length:Int)) (.cub 1 36 [1,2,3,7] [0] (.gh ac j.Xb.length<|.jT ((ad.U)==(min aa ab)) (.gh ac j.Xb.length<|.oo ((ad.V)==(max aa ab)))) λae=>.br ae (.ff ac) (.nn (qt.wrap (ac+1)))) (.oo .u))
 0 [] λ_=>.jE (-1)
def hzf:=
 mkp3 func196 fzy
def Eze (j:azc)(aa:Int)(ab:Int):T (Int×dz1×Int):=
 .cc (qzt j aa ab) λac=>.br (!ac) (.jE ((-1),(⟨nl,0⟩:dz1),0)) (.cc (pzg (⟨j.Xa,j.Xb⟩:azc) aa ab 1) λad=>.br (!ad.2) (.jE ((-1),(⟨nl,0⟩:dz1),2)) (.loop (ik 11 [3,7,9] [0,128,129,1024]) (.exit 0) (jk [7,9] [128,129,1024]) (λae=>let af:=qt.wrap (ae-1);.jR (ae<(ad.1.Xz.length:Int)) (.gh af ad.1.Xz.length<|.gh ae ad.1.Xz.length<|.call (hzf j (ad.1.Xz.getD (af.toNat) qu) (ad.1.Xz.getD (ae.toNat) qu)) [] λag=>.gh ag j.Xb.length<|.br (((j.Xb.getD (ag.toNat) qu).Xx)==0) (.ff (ag,ad.1,3)) (.nn (qt.wrap (ae+1)))) (.oo .u))
 1 [] λ_=>.jE ((-1),ad.1,1)))
def kza:=
 mkq3 func193 Eze (λr=>.tup [pz r.1,q r.2.1,pz r.2.2])
def Azk (j:azc)(aa:az1):T Bool:=let ab:=(j.Xa.length:Int);.jR (aa.U>=0) (.jR (aa.U<ab) (.jR (aa.V>=0) (.jE (qv (aa.V<ab))) (.jE false)) (.jE false)) (.jE false)
def Kzv:=
 mkp2 func255 Azk
def lzd (j:az7)(aa:A4)(ab:A4):T Bool:=
 .cc (czf j) λac=>.br (ac==0) (.cc (dzn j.Xf aa) λad=>.br ad (.cc (dzn j.Xf ab) λae=>.jE ae) (.jE false)) (.jE false)
def qzr:=
 mkp3 func53 lzd
def vzy (j:A4)(aa:A4)(ab:Int):T Bool:=
 .cc (izj j) λac=>.br ac (.cc (izj aa) λad=>.br ad (.br ((j.length:Int)==(aa.length:Int)) (.jR (ab>=0) (.jE (qv (ab<=20))) (.jE false)) (.jE false)) (.jE false)) (.jE false)
def vzx:=
 mkp3 func51 vzy
def zzt (j:A4)(aa:A4)(ab:Int)(ac:Int):T (Ae×Bool):=let ad:=IntKind.u64.wrap ab;let ae:=qt.wrap (1 * 2 ^ (min ad.toNat 64));.cub 2 31 [0,1,2,3] [] (.cc (vzx j aa ab) λaf=>.jS (!af) (.jU (ac<0) (.grd (0<=ad)<|.oo (qv (ac>=ae))))) λaf=>.br af (.jE (nl,false)) (.grd (0<=ad)<|.loop (λs (ag:Af)=>pk s [0,1,3,10,11] [] [(12,pz ag.2)] [(448,vO ag.1 95)]) (.exit 0) (λs (ag:Ae)=>pk s [11] [] [] [(448,vO ag 95)]) (λag=>let ah:=(ag.2).toNat;let ai:=j.getD ah qu;let aj:=qt.wrap ((aa.getD ah qu)-ai);let ak:=qt.wrap (ac * aj);.jR (ag.2<(j.length:Int)) (.gh ag.2 aa.length<|.gh ag.2 j.length<|.name 9006 ((qt.wrap ((qt.wrap (ac+1)) * aj))) λal=>.gh ag.2 j.length<|.name 10007 ((min ak al)) λam=>.call (bz7 am ae) [] λan=>.gh ag.2 j.length<|.name 10017 ((max ak al)) λao=>.call (azz ao ae) [] λap=>let aq:=([(⟨(qt.wrap (ai+an)),(qt.wrap (ai+ap))⟩:az0)]:Ae);let ar:=ag.1.length+aq.length;
 .conv 10022 (kL aq 95)<|.conv 10023 (kA ag.1 aq 95)<|.grd (ar * 16<=140737488355328/\ar<=maxLen)<|.nn ((ag.1++aq),(qt.wrap (ag.2+1)))) (.oo ag.1)) (nl,0) [] λag=>.jE (ag,true))
def qzo:=
 mkq4 func54 zzt (λr=>.tup [q r.1,q r.2])
def Az5 (j:az7)(aa:A4)(ab:A4)(ac:Int):T azo:=let ad:=(⟨j.Xf,j.Xe,j.Xr⟩:az7);.cub 2 28 [1,2,3,4,8] [0,64,66,69,71,72] (.cc (qzr ad aa ab) λae=>.jS (!ae) (.jU (ac<0) (.oo (qv (ac>20))))) λae=>.br ae (.jE (⟨0,nl,(⟨0,0,nl⟩:az6),(⟨0,nl,nl⟩:bze)⟩:azo)) (.conv 4001 (az9u 3 rzq ([(⟨0,0,nl⟩:azt)]:B1) 137 [.agg [jP 0,jP 0,.lst 0 0 λ_=>.unk]] jJ)<|.loop (λs (af:(An×B1))=>pk s [1,2,3,4,8,9,10] [0,64,66,69,71,72] [] [(192,vO af.1 76),(320,vO af.2 137)]) (.exit 0) (λs (af:An)=>pk s [8,9] [64,66,69,71,72] [] [(192,vO af 76)]) (λaf=>let ag:=(af.2.length:Int);let ah:=qt.wrap (ag-1);let ai:=af.2.take (ah.toNat);let aj:=af.2.getD (ah.toNat) qu;let ak:=aj.depth;let al:=aj.index;.jR (ag>0) (.gg ah af.2.length<|.conv 7004 (az5o 3 rzq af.2 137 ah)<|.grd (0<=ah/\ah<=ag/\0<=ah.toNat)<|.name 8001 ak λam=>.name 8003 al λan=>let ao:=(⟨am,an,nl⟩:az6);let ap:=(⟨0,nl,ao,(⟨0,nl,nl⟩:bze)⟩:azo);
 .jR ((af.1.length:Int)>=4096) (.ff ap) (.name 11003 ak λaq=>.name 11005 al λar=>.cc (qzo aa ab aq ar) λau=>.call (jzl ad au.1 (aj.hints)) [] λav=>.br (av.Xn==1) (.name 15002 ak λaw=>.name 15004 al λax=>let ay:=([(⟨aw,ax,av.Xm⟩:az6)]:An);let az:=af.1.length+ay.length;
 .conv 15008 (kL ay 76)<|.conv 15009 (kA af.1 ay 76)<|.grd (az * 40<=140737488355328/\az<=maxLen)<|.nn ((af.1++ay),ai)) (.br (av.Xn==2) (.ff (⟨2,nl,ao,av.Xw⟩:azo)) (.name 18001 ak λaw=>.br (aw==ac) (.ff ap) (.name 13002 ak λax=>.name 13005 al λay=>.name 13012 ak λaz=>.name 13015 al λa0=>let a1:=([(⟨(qt.wrap (ax+1)),(qt.wrap ((qt.wrap (2 * ay))+1)),av.Xm⟩:azt),(⟨(qt.wrap (az+1)),(qt.wrap (2 * a0)),av.Xm⟩:azt)]:B1);let a2:=ai.length+a1.length;
 .conv 13020 (kL a1 137)<|.conv 13021 (kA ai a1 137)<|.grd (a2 * 40<=140737488355328/\a2<=maxLen)<|.nn (af.1,(ai++a1))))))) (.oo af.1)) (nl,([(⟨0,0,nl⟩:azt)]:B1)) [] λaf=>.jE (⟨1,af,(⟨0,0,nl⟩:az6),(⟨0,nl,nl⟩:bze)⟩:azo))
def izl:=
 mkp4 func21 Az5
def Ezd (j:azc)(aa:Int)(ab:azo):T (azc×Bool):=let ac:=aa.toNat;let ad:=j.Xb.getD ac qu;.cub 2 36 [1,3,5,6] [0,64,128,129,130] (.jU (aa<0) (.jU (aa>=(j.Xb.length:Int)) (.gh aa j.Xb.length<|.jS ((ad.Xx)==1) (.gh aa j.Xb.length<|.oo ((ad.Xx)==2))))) λae=>.br ae (.jE (j,false)) (.cut 1 (λs (af:Int)=>pk s [1,3,5,6] [0,64,128,129,130] [(8,pz af)] []) (.br (ab.Xn==1) (.oo 1) (.br (ab.Xn==2) (.oo 2) (.br (ab.Xn==0) (.oo 3) (.ff (j,false))))) λaf=>let ag:=(⟨ad.U,ad.V,ad.Xo,af,ad.XI⟩:az1);let ah:=j.Xb.set ac ag;let ai:=ah.getD ac qu;let aj:=(⟨ai.U,ai.V,ai.Xo,ai.Xx,ab⟩:az1);
 .grd (j.Xb.length * 160<=140737488355328/\j.Xb.length<=maxLen)<|.gh aa j.Xb.length<|.conv 12010 (kS j.Xb 310 ac ag)<|.gi (aa) j.Xb.length<|.gh aa (ah.length)<|.conv 12013 (kS ah 310 ac aj)<|.gi (aa) (ah.length)<|.jE ((⟨j.Xa,(ah.set ac aj)⟩:azc),true))
def Ezc:=
 mkq3 func256 Ezd (λr=>.tup [q r.1,q r.2])
def Ezf (j:az7)(aa:azc)(ab:Int)(ac:Int):T (azc×Bool):=let ad:=aa.Xb.getD (ab.toNat) qu;let ae:=(⟨aa.Xa,aa.Xb⟩:azc);.cub 2 46 [2,3,4,5,8] [0,64,128,129,130] (.jU (ab<0) (.jU (ab>=(aa.Xb.length:Int)) (.gh ab aa.Xb.length<|.cc (Kzv ae ad) λaf=>.jS (!af) (.gh ab aa.Xb.length<|.jS ((ad.Xx)==1) (.gh ab aa.Xb.length<|.oo ((ad.Xx)==2)))))) λaf=>.br af (.jE (ae,false)) (.gh ab aa.Xb.length<|.gh (ad.U) aa.Xa.length<|.gh ab aa.Xb.length<|.gh (ad.V) aa.Xa.length<|.call (izl (⟨j.Xf,j.Xe,j.Xr⟩:az7) (aa.Xa.getD (X3 ad.U) qu) (aa.Xa.getD (X3 ad.V) qu) ac) [] λag=>.cc (Ezc ae ab ag) λah=>.jE (ah.1,ah.2))
def Ozn:=
 mkq4 func194 Ezf (λr=>.tup [q r.1,q r.2])
def Ezb (j:az7)(aa:azc)(ab:Int)(ac:Int)(ad:Int)(ae:Int):T Bz:=
 .cc (czf j) λaf=>.br (af !=0) (.jE (aa,(⟨nl,0⟩:dz1),0,0)) (.loop (λs (ag:(A5×Al×Int))=>pk s [2,3,4,5,6,7,12,13] [0,128,129,130,192,193] [(16,pz ag.2.2)] [(64,.box [q ag.1,q ag.2.1])])
 .ret (λ_ (_:U0)=>⟨[],[],[],0⟩) (λag=>let ah:=(⟨ag.1,ag.2.1⟩:azc);.cc (kza ah ab ac) λai=>.br (ai.2.2 !=3) (.ff (ah,ai.2.1,ai.2.2,ag.2.2)) (.jR (ag.2.2>=ae) (.ff (ah,ai.2.1,4,ag.2.2)) (.cc (Ozn (⟨j.Xf,j.Xe,j.Xr⟩:az7) ah ai.1 ad) λaj=>.nn (aj.1.Xa,aj.1.Xb,(qt.wrap (ag.2.2+1)))))) (aa.Xa,aa.Xb,0) [] λ_=>.stop)
def Ozm:=
 mkq6 func126 Ezb (λr=>.tup [q r.1,q r.2.1,pz r.2.2.1,pz r.2.2.2])
def wz7 (j:Bi)(aa:Bh):T Int:=
 .loop (ik 5 [0,3] [0]) (.exit 0) (jk [] []) (λab=>let ac:=j.getD (ab.toNat) qu;.jR (ab<(j.length:Int)) (.gh ab j.length<|.br (((ac.1)==aa.1)&&(((ac.2.1)==aa.2.1)&&(((ac.2.2)==aa.2.2)&&true))) (.ff ab) (.nn (qt.wrap (ab+1)))) (.oo .u))
 0 [] λ_=>.jE (-1)
def wz6:=
 mkp2 func258 wz7
def Dzw (j:An):T azr:=
 .loop (λs (aa:(Bi×Av×Int))=>pk s [0,2,3] [0,1,2,64] [(4,pz aa.2.2)] [(65,vS aa.1 89),(66,vO aa.2.1 316)]) (.exit 0) (λs (aa:(Bi×Av))=>pk s [2,3] [0,1,2,64] [] [(65,vS aa.1 89),(66,vO aa.2 316)]) (λaa=>let ab:=j.getD (X3 aa.2.2) qu;let ac:=ab.Xm.length;.jR (aa.2.2<(j.length:Int)) (.gh aa.2.2 j.length<|.gh aa.2.2 j.length<|.loop (λs (ad:(Bi×A4×Int))=>pk s [0,2,3,4,5] [0,1,2,64,66,1216] [(6,pz ad.2.2)] [(65,vS ad.1 89),(1154,vO ad.2.1 3)]) (.exit 2) (λs (ad:(Bi×A4))=>pk s [0,2,3,4,5] [0,1,2,64,66,1216] [] [(65,vS ad.1 89),(1154,vO ad.2 3)]) (λad=>let ae:=(ab.Xm).getD (X3 ad.2.2) qu;let af:=([ae]:Bi);let ag:=ad.1.length+af.length;.gh aa.2.2 j.length<|.jR (ad.2.2<(ab.Xm.length:Int)) (.gh aa.2.2 j.length<|.gh ad.2.2 ac<|.call (wz6 ad.1 ae) [] λah=>.cut 0 (λs (ai:Bj)=>pk s [0,2,3,4,5,6] [0,1,2,66,1154,1216] [(7,pz ai.2)] [(64,.box [.vec 2752,.vec 66]),(2752,vS ai.1 89)]) (.jR (ah<0) (.gh aa.2.2 j.length<|.gh ad.2.2 ac<|.conv 12010 (kL af 89)<|.conv 12011 (az9t 3 azv ad.1 af 89)<|.grd (ag * 24<=140737488355328/\ag<=maxLen)<|.oo ((ad.1++af),(ad.1.length:Int))) (.oo (ad.1,ah))) λai=>let aj:=([ai.2]:A4);let ak:=ad.2.1.length+aj.length;
 .conv 13003 (kL aj 3)<|.conv 13004 (kA ad.2.1 aj 3)<|.grd (ak * 8<=140737488355328/\ak<=maxLen)<|.nn (ai.1,(ad.2.1++aj),(qt.wrap (ad.2.2+1)))) (.oo (ad.1,ad.2.1))) (aa.1,nl,0) [] λad=>let ae:=([(⟨ab.Xj,ab.Xt,ad.2⟩:ez7)]:Av);let af:=aa.2.1.length+ae.length;
 .conv 14003 (kL ae 316)<|.conv 14004 (kA aa.2.1 ae 316)<|.grd (af * 40<=140737488355328/\af<=maxLen)<|.nn (ad.1,(aa.2.1++ae),(qt.wrap (aa.2.2+1)))) (.oo (aa.1,aa.2.1))) (nl,nl,0) [] λaa=>.jE (⟨aa.1,aa.2⟩:azr)
def kz9:=
 mkp1 func197 Dzw
def szc (j:bzc):T bzc:=
 .loop (λs (aa:Ap)=>pk s [1,2,3] [0,64,65,66,128,130] [(4,pz aa.2)] [(129,vO aa.1 39)]) (.exit 0) (λs (aa:A5)=>pk s [1,2,3] [0,64,65,66,128,130] [] [(129,vO aa 39)]) (λaa=>let ab:=([(j.Xa.getD (X3 aa.2) qu)]:A5);let ac:=aa.1.length+ab.length;.jR (aa.2>=0) (.gh aa.2 j.Xa.length<|.conv 5007 (kL ab 39)<|.conv 5008 (kA aa.1 ab 39)<|.grd (ac * 24<=140737488355328/\ac<=maxLen)<|.nn ((aa.1++ab),(qt.wrap (aa.2-1)))) (.oo aa.1)) (nl,(qt.wrap ((j.Xa.length:Int)-1))) [] λaa=>.loop (λs (ab:(Aw×Int))=>pk s [1,2,3] [0,64,65,66,128,129] [(5,pz ab.2)] [(130,vO ab.1 251)]) (.exit 2) (λs (ab:Aw)=>pk s [2,3] [64,65,66,128,129] [] [(130,vO ab 251)]) (λab=>let ac:=j.Xb.getD (X3 ab.2) qu;.jR (ab.2>=0) (.gh ab.2 j.Xb.length<|.gh ab.2 j.Xb.length<|.name 10007 ((qt.wrap ((ac.XH.length:Int)-1))) λad=>.loop (λs (ae:(Av×Int))=>pk s [1,2,3,5,6] [0,64,65,66,128,129,130,1536] [(7,pz ae.2)] [(1473,vO ae.1 316)]) (.exit 4) (λs (ae:Av)=>pk s [1,2,3,5,6] [0,64,65,66,128,129,130,1536] [] [(1473,vO ae 316)]) (λae=>let af:=(ac.XH).getD (X3 ae.2) qu;let ag:=af.Xj;.jR (ae.2>=0) (.gh ab.2 j.Xb.length<|.gh ae.2 (ac.XH.length)<|.cut 0 (λs (ah:Int)=>pk s [1,2,3,5,6,7,8] [0,64,65,66,128,129,130,1473,1536] [] [(3008,.box [pz ag,pz ah,q (af.Xs)])]) (.cub 0 70 [1,2,3,5,6,7,8] [0,64,65,66,128,129,130,1473,1536,3008] (.name 14001 ag λah=>.jR (ah>=0) (.name 14005 ag λai=>.oo (qv (ai<=20))) (.oo false)) λah=>.br ah (.name 15001 ag λai=>let aj:=IntKind.u64.wrap ai;
 .grd (0<=aj)<|.name 15006 (af.Xt) λak=>.name 15007 ((qt.wrap ((qt.wrap ((qt.wrap (1 * 2 ^ (min aj.toNat 64)))-1))-ak))) λal=>.oo al) (.oo (af.Xt))) λah=>let ai:=([(⟨af.Xj,ah,af.Xs⟩:ez7)]:Av);let aj:=ae.1.length+ai.length;
 .conv 16003 (kL ai 316)<|.conv 16004 (kA ae.1 ai 316)<|.grd (aj * 40<=140737488355328/\aj<=maxLen)<|.nn ((ae.1++ai),(qt.wrap (ae.2-1)))) (.oo ae.1)) (nl,ad) [] λae=>let af:=([(⟨ac.XB,ae⟩:azr)]:Aw);let ag:=ab.1.length+af.length;
 .conv 17003 (kL af 251)<|.conv 17004 (kA ab.1 af 251)<|.grd (ag * 48<=140737488355328/\ag<=maxLen)<|.nn ((ab.1++af),(qt.wrap (ab.2-1)))) (.oo ab.1)) (nl,(qt.wrap ((j.Xb.length:Int)-1))) [] λab=>.jE (⟨aa,ab⟩:bzc)
def Dzx:=
 mkp1 func198 szc
def szd (j:az7)(aa:A5):T B2:=let ab:=(aa.length:Int);.cc (czf j) λac=>.br (ac !=0) (.jE (0,904)) (.cub 1 17 [1,2] [0] (.jU (ab<2) (.oo (qv (ab>256)))) λad=>.br ad (.jE (0,2201)) (.loop (ik 6 [1,2] [0]) (.exit 0) (jk [] []) (λae=>.jR (ae<ab) (.gh ae aa.length<|.cc (dzn j.Xf (aa.getD (ae.toNat) qu)) λaf=>.br (!af) (.ff (ae,1201)) (.nn (qt.wrap (ae+1)))) (.oo .u))
 0 [] λ_=>.jE (0,0)))
def Dzy:=
 mkq2 func129 szd (λr=>.tup [pz r.1,pz r.2])
def Az7 (j:az6):T Br:=let aa:=IntKind.u64.wrap (qt.wrap (20-j.Xj));let ab:=IntKind.u64.wrap j.Xj;let ac:=qt.wrap (1 * 2 ^ (min aa.toNat 64));.cub 2 27 [1] [0] (.jU (j.Xj<0) (.jU (j.Xj>20) (.jU (j.Xt<0) (.grd (0<=ab)<|.oo (qv (j.Xt>=(qt.wrap (1 * 2 ^ (min ab.toNat 64))))))))) λad=>.br ad (.jE (0,0,false)) (.grd (0<=aa)<|.name 4003 ((qt.wrap (j.Xt * ac))) λae=>.jE (ae,ac,true))
def Az6:=
 mkq1 func260 Az7 (λr=>.tup [pz r.1,pz r.2.1,q r.2.2])
def Az8 (j:An):T Bc:=let aa:=(j.length:Int);.loop (λs (ab:B2)=>pk s [0] [] [(4,pz ab.1),(5,pz ab.2)] []) (.exit 0) (ik 4 [0] []) (λab=>.jR (ab.2<aa) (.gh ab.2 j.length<|.cc (Az6 (j.getD (X3 ab.2) qu)) λac=>.cub 1 34 [0,5,6,7] [] (.jS (!ac.2.2) (.jS (ac.1 !=ab.1) (.oo (qv (ab.2>=4096))))) λad=>.br ad (.ff (ab.2,false)) (.nn ((qt.wrap (ac.1+ac.2.1)),(qt.wrap (ab.2+1))))) (.oo ab.1)) (0,0) [] λab=>.jE (aa,(ab==1048576))
def Kzp:=
 mkq1 func200 Az8 (λr=>.tup [pz r.1,q r.2])
def mzr (j:az7)(aa:Ae)(ab:Bi):T Bool:=
 .cc (Az1 j aa) λac=>let ad:=(ac.1.length:Int);
 .cub 1 26 [2,7,8] [] (.jS (!ac.2.2) (.oo ((ab.length:Int) !=ad))) λae=>.br ae (.jE false) (.loop (ik 10 [2,7,8] []) (.exit 0) (jk [] []) (λaf=>let ag:=af.toNat;let ah:=ac.1.getD ag qu;let ai:=ac.2.1.getD ag qu;.jR (af<ad) (.gh af ab.length<|.gh af ac.1.length<|.gh af ac.1.length<|.gh af ac.2.1.length<|.gh af ac.2.1.length<|.cc (mzs (ab.getD ag qu) (ah.points) (ah.radius) (ai.points) (ai.radius)) λaj=>.br (!aj) (.ff false) (.nn (qt.wrap (af+1)))) (.oo .u))
 0 [] λ_=>.jE true)
def izk:=
 mkp3 func201 mzr
def mzv (j:az7)(aa:A4)(ab:A4)(ac:An):T B2:=
 .cc (czf j) λad=>.br (ad !=0) (.jE (0,904)) (.cc (qzr j aa ab) λae=>.br (!ae) (.jE (0,1201)) (.cc (Kzp ac) λaf=>.br (!af.2) (.jE (af.1,2001)) (.loop (ik 12 [1,2,3,4] [0]) (.exit 0) (jk [] []) (λag=>let ah:=ac.getD (ag.toNat) qu;.jR (ag<(ac.length:Int)) (.gh ag ac.length<|.gh ag ac.length<|.cc (qzo aa ab (ah.Xj) (ah.Xt)) λai=>.gh ag ac.length<|.cc (izk j ai.1 (ah.Xm)) λaj=>.br (!aj) (.ff (ag,2002)) (.nn (qt.wrap (ag+1)))) (.oo .u))
 0 [] λ_=>.jE (0,0))))
def xzu:=
 mkq4 func131 mzv (λr=>.tup [pz r.1,pz r.2])
def wz5 (j:az7)(aa:A4)(ab:A4)(ac:az6)(ad:az6):T (az6×Bool):=let ae:=qt.wrap (ac.Xj-1);let af:=qt.wrap (ac.Xt.tdiv 2);let ag:=(⟨ae,af,ad.Xm⟩:az6);.cub 2 38 [1,2,5,8,9,10] [0,64,128,192,195] (.jS (ac.Xj !=ad.Xj) (.jU (ac.Xj<1) (.ok ((2:Int)≠0) jF<|.jS ((ac.Xt.tmod 2) !=0) (.oo (ad.Xt !=(qt.wrap (ac.Xt+1))))))) λah=>.br ah (.jE ((⟨0,0,nl⟩:az6),false)) (.ok ((2:Int)≠0) jF<|.cc (qzo aa ab ae af) λai=>.cub 1 66 [5,9,10,12,13,14] [0,128,192,195,960] (.jT ai.2 (.cc (izk j ai.1 ac.Xm) λaj=>.oo aj)) λaj=>.br aj (.jE ((⟨ae,af,ac.Xm⟩:az6),true)) (.br ai.2 (.cc (izk j ai.1 ad.Xm) λak=>.jE (ag,ak)) (.jE (ag,false))))
def wz4:=
 mkq5 func362 wz5 (λr=>.tup [q r.1,q r.2])
def Az4 (j:az7)(aa:A4)(ab:A4)(ac:An):T An:=
 .cc (xzu j aa ab ac) λad=>.br (ad.2 !=0) (.jE ac) (.grd (ac.length * 40<=140737488355328/\ac.length<=maxLen)<|.loop (λs (ae:Ao)=>pk s [1,2,4,11] [0] [(12,pz ae.2)] [(960,vO ae.1 76)]) (.exit 0) (λs (ae:An)=>pk s [11] [] [] [(960,vO ae 76)]) (λae=>let af:=(ae.1.length:Int);let ag:=qt.wrap (ae.2+1);let ah:=qt.wrap (ae.2+2);let ai:=(ae.1.drop (ah.toNat)).take (af.toNat-ah.toNat);let aj:=(ae.1.drop (X3 (0:Int))).take ((ae.2).toNat- (0:Int).toNat);.jR (ag<af) (.gg ae.2 ae.1.length<|.gg ag ae.1.length<|.call (wz4 j aa ab (ae.1.getD (X3 ae.2) qu) (ae.1.getD (ag.toNat) qu)) [] λak=>let al:=([ak.1]:An);let am:=aj++al;let an:=aj.length+al.length;let ao:=am.length+ai.length;
 .br (!ak.2) (.nn (ae.1,ag)) (.unroll 1<|.conv 10002 (Czl 3 xzm ae.1 (0:Int) ae.2)<|.grd (0<=(0:Int)/\(0:Int)<=ae.2/\ae.2<=af)<|.grd (aj.length * 40<=140737488355328/\aj.length<=maxLen)<|.conv 11002 (kL al 76)<|.conv 11003 (kA aj al 76)<|.grd (an * 40<=140737488355328/\an<=maxLen)<|.unroll 1<|.conv 12004 (Czl 3 xzm ae.1 ah af)<|.grd (0<=ah/\ah<=af/\af<=af)<|.conv 12005 (kA am ai 76)<|.grd (ao * 40<=140737488355328/\ao<=maxLen)<|.nn ((am++ai),0))) (.oo ae.1)) (ac,0) [] λae=>.jE ae)
def Kzn:=
 mkp4 func307 Az4
def Dzv (j:az7)(aa:A4)(ab:A4)(ac:Int):T (azr×Bool):=
 .cc (izl j aa ab ac) λad=>.br (ad.Xn !=1) (.jE ((⟨nl,nl⟩:azr),false)) (.cc (Kzn j aa ab ad.XC) λae=>.cc (kz9 ae) λaf=>.jE (af,true))
def ozd:=
 mkq4 func259 Dzv (λr=>.tup [q r.1,q r.2])
def Az3 (j:az7)(aa:A5)(ab:Int):T (bzc×Int×Int):=
 .cc (Dzy j aa) λac=>.br (ac.2 !=0) (.jE ((⟨nl,nl⟩:bzc),ac.1,ac.2)) (.loop (λs (ad:(A5×Aw×Int))=>pk s [1,2,3,6,11] [0,64,65,66,896] [(12,pz ad.2.2)] [(897,vO ad.1 39),(898,vO ad.2.1 251)]) (.exit 0) (λs (ad:(A5×Aw))=>pk s [6,11] [64,65,66,896] [] [(897,vO ad.1 39),(898,vO ad.2 251)]) (λad=>let ae:=aa.getD (X3 ad.2.2) qu;let af:=qt.wrap (ad.2.2-1);let ag:=([ae]:A5);let ah:=ad.1.length+ag.length;.jR (ad.2.2<(aa.length:Int)) (.cut 0 (λs (ai:Aw)=>pk s [1,2,3,6,11,12] [0,64,65,66] [] [(896,.box [.vec 1344,.vec 898]),(898,vO ai 251),(1344,vO (ad.1++ag) 39)]) (.gh ad.2.2 aa.length<|.grd (ae.length * 8<=140737488355328/\ae.length<=maxLen)<|.conv 8007 (kL ag 39)<|.conv 8008 (kA ad.1 ag 39)<|.grd (ah * 24<=140737488355328/\ah<=maxLen)<|.br (ad.2.2==0) (.oo ad.2.1) (.gh af aa.length<|.gh ad.2.2 aa.length<|.call (ozd j (aa.getD (af.toNat) qu) ae ab) [] λai=>let aj:=([ai.1]:Aw);let ak:=ad.2.1.length+aj.length;
 .br (!ai.2) (.ff (.fin ((⟨nl,nl⟩:bzc),af,2204))) (.conv 13003 (kL aj 251)<|.conv 13004 (kA ad.2.1 aj 251)<|.grd (ak * 48<=140737488355328/\ak<=maxLen)<|.oo (ad.2.1++aj)))) λai=>.nn ((ad.1++ag),ai,(qt.wrap (ad.2.2+1)))) (.oo (ad.1,ad.2.1))) (nl,nl,0) [] λad=>.jE ((⟨ad.1,ad.2⟩:bzc),0,0))
def Kzm:=
 mkq3 func199 Az3 (λr=>.tup [q r.1,pz r.2.1,pz r.2.2])
def nzx (j:az7)(aa:azc)(ab:dz1):T (bzc×Bool):=let ac:=(ab.Xz.length:Int);.cub 2 31 [3,4,5,6] [0,64,128,192,193,194] (.cc (nzv aa) λad=>.jS (!ad) (.jU (ac<1) (.oo (qv (ac>256))))) λad=>.br ad (.jE ((⟨nl,nl⟩:bzc),false)) (.loop (λs (ae:(A5×Aw×Int))=>pk s [3,4,5,6,8] [0,64,128,192,193,194,384] [(9,pz ae.2.2)] [(385,vO ae.1 39),(386,vO ae.2.1 251)]) (.exit 0) (λs (ae:(A5×Aw))=>pk s [3,6,8] [0,192,193,194,384] [] [(385,vO ae.1 39),(386,vO ae.2 251)]) (λae=>let af:=qt.wrap (ae.2.2-1);let ag:=ab.Xz.getD (X3 ae.2.2) qu;let ah:=aa.Xa.getD (ag.toNat) qu;let ai:=([ah]:A5);let aj:=ae.1.length+ai.length;let ak:=ab.Xz.getD (af.toNat) qu;let al:=([ah,(aa.Xa.getD (ak.toNat) qu)]:A5);.jR (ae.2.2<ac) (.cut 0 (λs (am:Aw)=>pk s [3,4,5,6,8,9] [0,64,128,192,193,194] [] [(384,.box [.vec 896,.vec 386]),(386,vO am 251),(896,vO (ae.1++ai) 39)]) (.gh ae.2.2 ab.Xz.length<|.cub 1 53 [3,4,5,6,8,9,10] [0,64,128,192,193,194,384,385,386] (.jU (ag<0) (.oo (qv (ag>=(aa.Xa.length:Int))))) λam=>.br am (.ff (.fin ((⟨nl,nl⟩:bzc),false))) (.gh ag aa.Xa.length<|.conv 10007 (kL ai 39)<|.conv 10008 (kA ae.1 ai 39)<|.grd (aj * 24<=140737488355328/\aj<=maxLen)<|.br (ae.2.2==0) (.oo ae.2.1) (.gh af ab.Xz.length<|.call (hzf (⟨aa.Xa,aa.Xb⟩:azc) ak ag) [] λan=>let ao:=aa.Xb.getD (an.toNat) qu;
 .cub 1 87 [3,4,5,6,8,9,10,11,12] [0,64,128,192,193,194,384,386,1856] (.jU (an<0) (.gh an aa.Xb.length<|.oo ((ao.Xx) !=1))) λap=>.br ap (.ff (.fin ((⟨nl,nl⟩:bzc),false))) (.gh an aa.Xb.length<|.cc (kz9 (ao.XI.XC)) λaq=>let ar:=([aq]:Aw);
 .cut 0 (λs (au:(Bi×Av))=>pk s [3,4,5,6,8,9,13] [0,64,128,192,193,194,384,386,1856] [] [(3520,.box [q au.1,q au.2])]) (.jR (ak>ag) (.gh ag aa.Xa.length<|.gh ak aa.Xa.length<|.conv 18010 (kL al 39)<|.conv 18012 (kL ar 251)<|.call (Dzx (⟨al,ar⟩:bzc)) [] λau=>let av:=au.Xb.getD (X3 (0:Int)) qu;
 .gh (0:Int) au.Xb.length<|.oo (av.XB,av.XH)) (.oo (aq.XB,aq.XH))) λau=>let av:=([(⟨au.1,au.2⟩:azr)]:Aw);let aw:=ae.2.1.length+av.length;
 .conv 19003 (kL av 251)<|.conv 19004 (kA ae.2.1 av 251)<|.grd (aw * 48<=140737488355328/\aw<=maxLen)<|.oo (ae.2.1++av))))) λam=>.nn ((ae.1++ai),am,(qt.wrap (ae.2.2+1)))) (.oo (ae.1,ae.2.1))) (nl,nl,0) [] λae=>let af:=ae.1.getD (X3 (0:Int)) qu;let ag:=([af,af]:A5);
 .br ((ae.1.length:Int)==1) (.gg (0:Int) ae.1.length<|.gg (0:Int) ae.1.length<|.conv 21009 (kL ag 39)<|.cc (Kzm j ag 0) λah=>.jE (ah.1,(ah.2.2==0))) (.jE ((⟨ae.1,ae.2⟩:bzc),true)))
def wzi:=
 mkq3 func128 nzx (λr=>.tup [q r.1,q r.2])
def wzq (j:az7)(aa:A4)(ab:A4)(ac:cz5):T Bs:=let ad:=(⟨j.Xf,j.Xe,j.Xr⟩:az7);.cub 2 38 [1,2,4,7,8] [0,64,128,129,130] (.cc (czf j) λae=>.jS (ae !=0) (.cc (dzn j.Xf aa) λaf=>.jS (!af) (.cc (dzn j.Xf ab) λag=>.jS (!ag) (.cc (nzz ac) λah=>.oo (!ah))))) λae=>.br ae (.jE ((⟨nl,nl⟩:bzc),0,false)) (.cc (szt ad aa ab (⟨ac.XF,ac.XJ,ac.Xj,ac.XM⟩:cz5)) λaf=>.cc (mzx af.Xa ab) λag=>.cc (Ozm ad (⟨af.Xa,af.Xb⟩:azc) 0 ag ac.Xj ac.XM) λah=>.br (ah.2.2.1 !=1) (.jE ((⟨nl,nl⟩:bzc),ah.2.2.2,false)) (.cc (wzi j (⟨ah.1.Xa,ah.1.Xb⟩:azc) ah.2.1) λai=>.jE (ai.1,ah.2.2.2,ai.2)))
def wzp:=
 mkq4 func71 wzq (λr=>.tup [q r.1,pz r.2.1,q r.2.2])
def szy (j:az2)(aa:azm)(ab:A4)(ac:A9)(ad:cz5):T (Ax×tzo×Bool):=let ae:=(⟨j.Xl,j.Xd,j.Xh,j.Xi,j.Xk,j.Xq⟩:az2);.loop (λs (af:(A4×A4×Ax×Int))=>pk s [3,5,6,9,11,13] [0,128,256,257] [(2,q af.1),(14,pz af.2.2.2)] [(64,.box [q af.2.1]),(384,vO af.2.2.1 68)]) (.exit 0) (λs (af:Ax)=>pk s [11,13] [256,257] [] [(384,vO af 68)]) (λaf=>let ag:=(⟨af.2.1⟩:azm);let ah:=ac.getD (X3 af.2.2.2) qu;.jR (af.2.2.2<(ac.length:Int)) (.cc (dzq ae ag) λai=>.loop (λs (aj:(A4×Ax×Bool×Int))=>pk s [3,5,6,9,11,13,14,15] [0,64,128,256,257,1216] [(2,q aj.1),(17,q aj.2.2.1),(18,pz aj.2.2.2)] [(384,vO aj.2.1 68)]) (.exit 2) (λs (aj:(A4×Ax×Bool))=>pk s [3,5,6,9,11,13,14] [0,64,128,256,257] [(2,q aj.1),(17,q aj.2.2)] [(384,vO aj.2.1 68)]) (λaj=>let ak:=j.Xk.getD (X3 aj.2.2.2) qu;.cub 1 42 [2,3,5,6,9,11,13,14,15,17,18] [0,64,128,256,257,384,1216] (.jR (aj.2.2.2<(j.Xk.length:Int)) (.oo (!aj.2.2.1)) (.oo false)) λal=>.br al (.cut 0 (λs (am:(A4×Ax×Bool))=>pk s [3,5,6,9,11,13,14,15,18] [0,64,128,256,257,1216] [(2,q am.1),(17,q am.2.2)] [(384,vO am.2.1 68)]) (.gh af.2.2.2 ac.length<|.cc (Azm ae ag ah aj.2.2.2) λam=>.br (!am) (.oo (aj.1,aj.2.1,aj.2.2.1)) (.gh aj.2.2.2 j.Xk.length<|.cc (wzp ai.1 aj.1 (ak.At) (⟨ad.XF,ad.XJ,ad.Xj,ad.XM⟩:cz5)) λan=>let ao:=([(⟨ah,aj.2.2.2,an.1⟩:aze)]:Ax);let ap:=aj.2.1.length+ao.length;
 .br an.2.2 (.gh af.2.2.2 ac.length<|.conv 13008 (kL ao 68)<|.conv 13009 (kA aj.2.1 ao 68)<|.grd (ap * 80<=140737488355328/\ap<=maxLen)<|.gh aj.2.2.2 j.Xk.length<|.oo (ak.At,(aj.2.1++ao),true)) (.oo (aj.1,aj.2.1,aj.2.2.1)))) λam=>.nn (am.1,am.2.1,am.2.2,(qt.wrap (aj.2.2.2+1)))) (.oo (aj.1,aj.2.1,aj.2.2.1))) (af.1,af.2.2.1,false,0) [] λaj=>.br (!aj.2.2) (.gh af.2.2.2 ac.length<|.ff (nl,(⟨ag,ah⟩:tzo),false)) (.gh af.2.2.2 ac.length<|.cc (fz1 ae ag ah) λak=>.nn (aj.1,ak.1.Xg,aj.2.1,(qt.wrap (af.2.2.2+1))))) (.oo af.2.2.1)) (ab,aa.Xg,nl,0) [] λaf=>.jE (af,(⟨(⟨nl⟩:azm),(⟨0,0,0⟩:aza)⟩:tzo),true)
def szx:=
 mkq5 func37 szy (λr=>.tup [q r.1,q r.2.1,q r.2.2])
def pzn (j:az2)(aa:azm)(ab:A4)(ac:A4)(ad:cz5)(ae:Int):T (Ax×Int):=let af:=(⟨aa.Xg⟩:azm);let ag:=(⟨j.Xl,j.Xd,j.Xh,j.Xi,j.Xk,j.Xq⟩:az2);.cub 2 53 [2,3,5,6,7,10] [0,64,128] (.cc (dzj ag af) λah=>.jS (!ah) (.cc (dzn j.Xl.Xf ab) λai=>.jS (!ai) (.jS ((ac.length:Int) !=(j.Xd.length:Int)) (.jU (ae<1) (.jU (ae>64) (.cc (nzz ad) λaj=>.oo (!aj))))))) λah=>.br ah (.jE (nl,0)) (.loop (λs (ai:(Ab×Int))=>pk s [2,3,5,6,7,10,14] [0,64,128] [(15,pz ai.2)] [(384,vS ai.1 122)]) (.exit 0) (jk [] []) (λai=>.jR (ai.2<ae) (.cc (nz2 ag af ac 16 ai.1) λaj=>.br (!aj.2) (.ff (nl,2)) (.cc (szx ag af ab aj.1 (⟨ad.XF,ad.XJ,ad.Xj,ad.XM⟩:cz5)) λak=>let al:=([ak.2.1]:Ab);let am:=ai.1.length+al.length;
 .br ak.2.2 (.ff (ak.1,1)) (.conv 13002 (kL al 122)<|.conv 13003 (az9t 4 aza0 ai.1 al 122)<|.grd (am * 48<=140737488355328/\am<=maxLen)<|.nn ((ai.1++al),(qt.wrap (ai.2+1)))))) (.oo .u)) (nl,0) [] λ_=>.jE (nl,4))
def pzm:=
 mkq6 func12 pzn (λr=>.tup [q r.1,pz r.2])
def wz3 (j:azr):T (An×Bool):=
 .loop (λs (aa:Ao)=>pk s [1,4] [0] [(5,pz aa.2)] [(192,vO aa.1 76)]) (.exit 0) (λs (aa:An)=>pk s [4] [] [] [(192,vO aa 76)]) (λaa=>let ab:=j.XH.getD (X3 aa.2) qu;let ac:=ab.Xs.length;.jR (aa.2<(j.XH.length:Int)) (.gh aa.2 j.XH.length<|.loop (λs (ad:Bj)=>pk s [1,4,5,6,7] [0,192,1024,1472] [(8,pz ad.2)] [(1410,vO ad.1 89)]) (.exit 2) (λs (ad:Bi)=>pk s [1,4,5,7] [0,192,1472] [] [(1410,vO ad 89)]) (λad=>let ae:=(ab.Xs).getD (X3 ad.2) qu;let af:=([(j.XB.getD (ae.toNat) qu)]:Bi);let ag:=ad.1.length+af.length;.jR (ad.2<(ab.Xs.length:Int)) (.cub 2 49 [1,4,5,6,7,8] [0,192,1024,1410,1472] (.gh ad.2 ac<|.jU (ae<0) (.gh ad.2 ac<|.oo (qv (ae>=(j.XB.length:Int))))) λah=>.br ah (.ff (.fin (nl,false))) (.gh ad.2 ac<|.gh ae j.XB.length<|.conv 12011 (kL af 89)<|.conv 12012 (kA ad.1 af 89)<|.grd (ag * 24<=140737488355328/\ag<=maxLen)<|.nn ((ad.1++af),(qt.wrap (ad.2+1))))) (.oo ad.1)) (nl,0) [] λad=>let ae:=([(⟨ab.Xj,ab.Xt,ad⟩:az6)]:An);let af:=aa.1.length+ae.length;
 .conv 13002 (kL ae 76)<|.conv 13003 (kA aa.1 ae 76)<|.grd (af * 40<=140737488355328/\af<=maxLen)<|.nn ((aa.1++ae),(qt.wrap (aa.2+1)))) (.oo aa.1)) (nl,0) [] λaa=>.jE (aa,true)
def wz2:=
 mkq1 func130 wz3 (λr=>.tup [q r.1,q r.2])
def Mzy (j:A4)(aa:A4)(ab:Int)(ac:Int):T (A4×Bool):=let ad:=IntKind.u64.wrap ab;let ae:=qt.wrap (1 * 2 ^ (min ad.toNat 64));.cub 2 27 [0,1,2,3] [] (.cc (vzx j aa ab) λaf=>.jS (!af) (.jU (ac<0) (.grd (0<=ad)<|.oo (qv (ac>ae))))) λaf=>.br af (.jE (nl,false)) (.loop (λs (ag:Ah)=>pk s [0,1,2,3,10] [] [(11,pz ag.2)] [(192,vO ag.1 2)]) (.exit 0) (λs (ag:A4)=>pk s [10] [] [] [(192,vO ag 2)]) (λag=>let ah:=(ag.2).toNat;let ai:=j.getD ah qu;.jR (ag.2<(j.length:Int)) (.gh ag.2 j.length<|.gh ag.2 aa.length<|.gh ag.2 j.length<|.grd (0<=ad)<|.call (bz7 (qt.wrap (ac * (qt.wrap ((aa.getD ah qu)-ai)))) ae) [] λaj=>let ak:=([(qt.wrap (ai+aj))]:A4);let al:=ag.1.length+ak.length;
 .conv 7021 (kL ak 2)<|.conv 7022 (kA ag.1 ak 2)<|.grd (al * 8<=140737488355328/\al<=maxLen)<|.nn ((ag.1++ak),(qt.wrap (ag.2+1)))) (.oo ag.1)) (nl,0) [] λag=>.jE (ag,true))
def Wzd:=
 mkq4 func20 Mzy (λr=>.tup [q r.1,q r.2])
open Go.Proofs
def gzz (j:A4)(aa:A4)(ab:A4)(ac:A4)(ad:Int)(ae:Int)(af:Int)(ag:Int):T Bool:=
 .cc (Bzh j) λah=>.cc (Sz0 ah aa) λai=>.cc (zzd ah.Xl.Xf ac) λaj=>.cc (Dz8 ah ab) λak=>.cc (hzc 2 12) λal=>.cc (pzm ah ai aj ak al 2) λam=>let an:=(am.1.length:Int);
 .cc (fzq ah ai aj ak am.1) λao=>.cub 0 80 [4,5,6,7,17,18,21] [192,1024] (.jS (ao.2 !=0) (.oo (an==0))) λap=>.br ap (.cc (law39_awake_C) λaq=>.jE aq) (.cc (gzq ad an) λaq=>let ar:=am.1.getD (aq.toNat) qu;let au:=ar.Path.Xa;let av:=ar.Path.Xa.length;let aw:=(ar.Path.Xa.length:Int);
 .loop (λs (ax:Ah)=>pk s [5,6,7,17,18,21,25] [192] [(26,pz ax.2)] [(1024,.box [q ax.1])]) (.exit 0) (λs (ax:A4)=>pk s [5,6,7,17,18,21,25] [192] [] [(1024,.box [q ax])]) (λax=>.jR (ax.2<aq) (.gh ax.2 am.1.length<|.cc (fz1 ah (⟨ax.1⟩:azm) ((am.1.getD (X3 ax.2) qu).Xp)) λay=>.nn (ay.1.Xg,(qt.wrap (ax.2+1)))) (.oo ax.1)) (ai.Xg,0) [] λax=>.cc (dzq ah (⟨ax⟩:azm)) λay=>.gh aq am.1.length<|.cub 1 120 [5,6,7,17,18,27,29] [192,1024,3584,4096] (.jS (ay.2 !=0) (.oo (qv (aw<2)))) λaz=>.br az (.jE false) (.call (gzq ae (qt.wrap (aw-1))) [] λa0=>let a1:=qt.wrap (a0+1);
 .cc (gzq af 8) λa2=>let a3:=IntKind.u64.wrap a2;
 .gh a0 av<|.gh a1 av<|.grd (0<=a3)<|.call (gzq ag (qt.wrap ((qt.wrap (1 * 2 ^ (min a3.toNat 64)))+1))) [] λa4=>.call (Wzd (au.getD (a0.toNat) qu) (au.getD (a1.toNat) qu) a2 a4) [] λa5=>.cub 1 160 [17,18,27,32] [192,1024,3584] (.jS (!a5.2) (.cc (izl ay.1 a5.1 a5.1 0) λa6=>.oo (a6.Xn==2))) λa6=>.br a6 (.jE false) (.cc (zzm a5.1) λa7=>.cc (vzu ay.1 a7) λa8=>.loop (λs (a9:B2)=>pk s [17,18,32,34] [192,1024] [(35,pz a9.1),(36,pz a9.2)] []) (.exit 2) (jk [] []) (λa9=>let ba:=(a9.2).toNat;let bb:=qt.wrap ((-1)- (ax.getD ba qu));let bc:=ah.Xi.getD (bb.toNat) qu;let bd:=ah.Xd.getD ba qu;.jR (a9.2<(ah.Xd.length:Int)) (.loop (λs (be:B2)=>pk s [17,18,32,34,36] [192,1024] [(35,pz be.1),(37,pz be.2)] []) (.exit 4) (ik 35 [17,18,32,34,36] [192,1024]) (λbe=>let bf:=a8.getD (X3 be.1) qu;let bg:=bf.length;let bh:=(bd.Xe).getD (X3 be.2) qu;let bi:=(bh.Xa).getD (X3 (0:Int)) qu;let bj:=bf.getD (X3 (0:Int)) qu;.gh a9.2 ah.Xd.length<|.jR (be.2<(bd.Xe.length:Int)) (.cut 1 (λs (_:U0)=>pk s [17,18,32,34,35,36,37] [192,1024] [] []) (.gh a9.2 ax.length<|.jR (bb>=0) (.gh a9.2 ah.Xd.length<|.gh be.2 (bd.Xe.length)<|.gh (0:Int) (bh.Xa.length)<|.gh bb ah.Xi.length<|.unroll 4<|.jC<|.jq<|.name 35002 (bi.1) λbk=>.jq<|.name 35006 ((qt.wrap (bk+(bc.Xy.1)))) λbl=>let bm:=qt.wrap (bl+(a5.1.getD (X3 (0:Int)) qu));
 .jC<|.gh (0:Int) a5.1.length<|.cub 0 255 [17,18,32,34,35,36,37,39,40,41] [192,1024,9664,10176] (.gh be.1 a8.length<|.gh (0:Int) bg<|.jq<|.jS ((bj.1.Lo) !=bm) (.gh be.1 a8.length<|.gh (0:Int) bg<|.jq<|.oo ((bj.1.Hi) !=bm))) λbn=>.br bn (.ff (.fin (.fin false))) (.lit 34001 1<|.jC<|.jr<|.name 35002 (bi.2.1) λbp=>.jr<|.name 35006 ((qt.wrap (bp+(bc.Xy.2.1)))) λbq=>let bs:=qt.wrap (bq+(a5.1.getD (X3 (1:Int)) qu));
 .jC<|.gh (1:Int) a5.1.length<|.cub 0 255 [17,18,32,34,35,36,37,39,40,41] [192,1024,9664,10176] (.gh be.1 a8.length<|.gh (0:Int) bg<|.jr<|.jS ((bj.2.1.Lo) !=bs) (.gh be.1 a8.length<|.gh (0:Int) bg<|.jr<|.oo ((bj.2.1.Hi) !=bs))) λbt=>.br bt (.ff (.fin (.fin false))) (.lit 34001 2<|.jC<|.jt<|.name 35002 (bi.2.2) λbu=>.jt<|.name 35006 ((qt.wrap (bu+(bc.Xy.2.2)))) λbv=>.jD<|.cub 0 255 [17,18,32,34,35,36,37,39,40,41] [192,1024,9664,10176] (.gh be.1 a8.length<|.gh (0:Int) bg<|.jt<|.jS ((bj.2.2.Lo) !=bv) (.gh be.1 a8.length<|.gh (0:Int) bg<|.jt<|.oo ((bj.2.2.Hi) !=bv))) λbw=>.br bw (.ff (.fin (.fin false))) (.lit 34001 3<|.jD<|.oo .u)))) (.oo .u)) λ_=>.nn ((qt.wrap (be.1+1)),(qt.wrap (be.2+1)))) (.oo be.1)) (a9.1,0) [] λbe=>.nn (be,(qt.wrap (a9.2+1)))) (.oo .u)) ((ah.Xl.Xe.length:Int),0) [] λ_=>.cc (law39_awake_C) λa9=>.jE a9)))
def cz9:=
 mkp8 func4 gzz
end Go.Abs
