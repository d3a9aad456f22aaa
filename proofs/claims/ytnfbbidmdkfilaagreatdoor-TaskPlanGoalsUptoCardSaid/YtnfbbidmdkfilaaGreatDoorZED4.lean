import Derived.Test.YtnfbbidmdkfilaaGreatDoorZED3
open Decidable renaming decide->qv
open Go.IntKind renaming i64->qt
open Inhabited renaming default->qu
open List renaming replicate->qs
open Int renaming toNat->X3
noncomputable section
namespace Go.Abs
open Go.Proofs.Tryz
set_option maxHeartbeats 8000000
set_option maxRecDepth 20000
open Go.Proofs
def Qzk (j:Int)(aa:A0)(ab:A8)(ac:A2)(ad:Ad)(ae:A3)(af:Bi)(ag:A1)(ah:A7)(ai:Int)(aj:Int)(ak:Int)(al:Int)(am:Int)(_a14:B8)(an:A4)(ao:Int)(ap:Int)(aq:Int)(ar:A0)(au:A8)(av:A2)(aw:Ad)(ax:A4):T (aze×Bool×A0×A8×A2×Ad×A3×Bi×A1×A7×Int×Int×Int×Int×Int×A4×Int×Int×Int×A0×A8×A2×Ad×A4):=let ay:=(⟨ao,ap,aq⟩:aza);.cc (Pz3 (⟨(⟨(⟨aa,ab⟩:azj),ac,ad⟩:az7),ae,af,ag,ah,ai⟩:az2) (⟨an⟩:azm) ay j) λaz=>.br (!az) (.jq ((⟨(⟨0,0,0⟩:aza),0,(⟨nl,nl⟩:bza)⟩:aze),false,aa,ab,ac,ad,ae,af,ag,ah,ai,aj,ak,al,am,an,ao,ap,aq,ar,au,av,aw,ax)) (.gh j ah.length<|.cc (Mzo (⟨(⟨ar,au⟩:azj),av,aw⟩:az7) ax ((ah.getD (j.toNat) qu).At) (⟨aj,ak,al,am⟩:cz2)) λa0=>.jq ((⟨ay,j,a0.1⟩:aze),a0.2.2,aa,ab,ac,ad,ae,af,ag,ah,ai,aj,ak,al,am,an,ao,ap,aq,ar,au,av,aw,ax))
def Qzj (j)(aa)(ab)(ac)(ad)(ae)(af)(ag)(ah)(ai)(aj)(ak)(al)(am)(an)(ao)(ap)(aq)(ar)(au)(av)(aw)(ax)(ay):=
 mkD func186 (Qzk j aa ab ac ad ae af ag ah ai aj ak al am an ao ap aq ar au av aw ax ay) 6 [pz j,X7 0,X7 2,X7 3,X7 4,X7 5] [(0,.box [q aa,q ab,q ac,q ad,q ae,q af,q ag,q ah,pz ai,pz aj,pz ak,pz al,pz am,.map 1]),(1,mapG (jE 10) az4 bzo an),(2,.box [q ao]),(3,.box [pz ap,pz aq,pz ar]),(4,.box [q au,q av,q aw,q ax]),(5,.box [q ay])] (λr=>.tup [q r.1,q r.2.1]) (λr=>[(0,.box [q r.2.2.1,q r.2.2.2.1,q r.2.2.2.2.1,q r.2.2.2.2.2.1,q r.2.2.2.2.2.2.1,q r.2.2.2.2.2.2.2.1,q r.2.2.2.2.2.2.2.2.1,q r.2.2.2.2.2.2.2.2.2.1,pz r.2.2.2.2.2.2.2.2.2.2.1,pz r.2.2.2.2.2.2.2.2.2.2.2.1,pz r.2.2.2.2.2.2.2.2.2.2.2.2.1,pz r.2.2.2.2.2.2.2.2.2.2.2.2.2.1,pz r.2.2.2.2.2.2.2.2.2.2.2.2.2.2.1,.map 1]),(1,mapG (jE 10) az4 bzo an),(2,.box [q r.2.2.2.2.2.2.2.2.2.2.2.2.2.2.2.1]),(3,.box [pz r.2.2.2.2.2.2.2.2.2.2.2.2.2.2.2.2.1,pz r.2.2.2.2.2.2.2.2.2.2.2.2.2.2.2.2.2.1,pz r.2.2.2.2.2.2.2.2.2.2.2.2.2.2.2.2.2.2.1]),(4,.box [q r.2.2.2.2.2.2.2.2.2.2.2.2.2.2.2.2.2.2.2.1,q r.2.2.2.2.2.2.2.2.2.2.2.2.2.2.2.2.2.2.2.2.1,q r.2.2.2.2.2.2.2.2.2.2.2.2.2.2.2.2.2.2.2.2.2.1,q r.2.2.2.2.2.2.2.2.2.2.2.2.2.2.2.2.2.2.2.2.2.2.1]),(5,.box [q r.2.2.2.2.2.2.2.2.2.2.2.2.2.2.2.2.2.2.2.2.2.2.2])])
def Wzo (j:A0)(aa:A8)(ab:A2)(ac:Ad)(ad:A3)(ae:Bi)(af:A1)(ag:A7)(ah:Int)(ai:Int)(aj:Int)(ak:Int)(al:Int)(am:B8)(an:azm)(ao:A4)(ap:aza):T (aze×Bool):=
 .cc (pzw (⟨(⟨(⟨j,aa⟩:azj),ab,ac⟩:az7),ad,ae,af,ag,ah⟩:az2) an) λaq=>.br (aq.2 !=0) (.jq ((⟨(⟨0,0,0⟩:aza),0,(⟨nl,nl⟩:bza)⟩:aze),false)) (.loop (λs (ar:(A0×A8×A2×Ad×A3×Bi×A1×A7×Int×Int×Int×Int×Int×A4×Int×Int×Int×A0×A8×A2×Ad×A4×Int))=>pk s [8,12,30] [0,257,262,263] [(31,pz ar.2.2.2.2.2.2.2.2.2.2.2.2.2.2.2.2.2.2.2.2.2.2)] [(1,.box [q ar.1,q ar.2.1,q ar.2.2.1,q ar.2.2.2.1,q ar.2.2.2.2.1,q ar.2.2.2.2.2.1,q ar.2.2.2.2.2.2.1,q ar.2.2.2.2.2.2.2.1,pz ar.2.2.2.2.2.2.2.2.1,pz ar.2.2.2.2.2.2.2.2.2.1,pz ar.2.2.2.2.2.2.2.2.2.2.1,pz ar.2.2.2.2.2.2.2.2.2.2.2.1,pz ar.2.2.2.2.2.2.2.2.2.2.2.2.1,.map 0]),(65,.box [q ar.2.2.2.2.2.2.2.2.2.2.2.2.2.1]),(129,.box [q ar.2.2.2.2.2.2.2.2.2.2.2.2.2.2.2.2.2.2.2.2.2.1]),(193,.box [pz ar.2.2.2.2.2.2.2.2.2.2.2.2.2.2.1,pz ar.2.2.2.2.2.2.2.2.2.2.2.2.2.2.2.1,pz ar.2.2.2.2.2.2.2.2.2.2.2.2.2.2.2.2.1]),(833,.box [q ar.2.2.2.2.2.2.2.2.2.2.2.2.2.2.2.2.2.1,q ar.2.2.2.2.2.2.2.2.2.2.2.2.2.2.2.2.2.2.1,q ar.2.2.2.2.2.2.2.2.2.2.2.2.2.2.2.2.2.2.2.1,q ar.2.2.2.2.2.2.2.2.2.2.2.2.2.2.2.2.2.2.2.2.1])]) (.exit 0) (jk [8] [0,257,262,263]) (λar=>.jF (ar.2.2.2.2.2.2.2.2.2.2.2.2.2.2.2.2.2.2.2.2.2.2<(ag.length:Int)) (.call (Qzj ar.2.2.2.2.2.2.2.2.2.2.2.2.2.2.2.2.2.2.2.2.2.2 ar.1 ar.2.1 ar.2.2.1 ar.2.2.2.1 ar.2.2.2.2.1 ar.2.2.2.2.2.1 ar.2.2.2.2.2.2.1 ar.2.2.2.2.2.2.2.1 ar.2.2.2.2.2.2.2.2.1 ar.2.2.2.2.2.2.2.2.2.1 ar.2.2.2.2.2.2.2.2.2.2.1 ar.2.2.2.2.2.2.2.2.2.2.2.1 ar.2.2.2.2.2.2.2.2.2.2.2.2.1 am ar.2.2.2.2.2.2.2.2.2.2.2.2.2.1 ar.2.2.2.2.2.2.2.2.2.2.2.2.2.2.1 ar.2.2.2.2.2.2.2.2.2.2.2.2.2.2.2.1 ar.2.2.2.2.2.2.2.2.2.2.2.2.2.2.2.2.1 ar.2.2.2.2.2.2.2.2.2.2.2.2.2.2.2.2.2.1 ar.2.2.2.2.2.2.2.2.2.2.2.2.2.2.2.2.2.2.1 ar.2.2.2.2.2.2.2.2.2.2.2.2.2.2.2.2.2.2.2.1 ar.2.2.2.2.2.2.2.2.2.2.2.2.2.2.2.2.2.2.2.2.1 ar.2.2.2.2.2.2.2.2.2.2.2.2.2.2.2.2.2.2.2.2.2.1) [(0,1),(1,0),(2,65),(3,193),(4,833),(5,129)] λau=>.br au.2.1 (.ff (au.1,true)) (.nn (au.2.2.1,au.2.2.2.1,au.2.2.2.2.1,au.2.2.2.2.2.1,au.2.2.2.2.2.2.1,au.2.2.2.2.2.2.2.1,au.2.2.2.2.2.2.2.2.1,au.2.2.2.2.2.2.2.2.2.1,au.2.2.2.2.2.2.2.2.2.2.1,au.2.2.2.2.2.2.2.2.2.2.2.1,au.2.2.2.2.2.2.2.2.2.2.2.2.1,au.2.2.2.2.2.2.2.2.2.2.2.2.2.1,au.2.2.2.2.2.2.2.2.2.2.2.2.2.2.1,au.2.2.2.2.2.2.2.2.2.2.2.2.2.2.2.1,au.2.2.2.2.2.2.2.2.2.2.2.2.2.2.2.2.1,au.2.2.2.2.2.2.2.2.2.2.2.2.2.2.2.2.2.1,au.2.2.2.2.2.2.2.2.2.2.2.2.2.2.2.2.2.2.1,au.2.2.2.2.2.2.2.2.2.2.2.2.2.2.2.2.2.2.2.1,au.2.2.2.2.2.2.2.2.2.2.2.2.2.2.2.2.2.2.2.2.1,au.2.2.2.2.2.2.2.2.2.2.2.2.2.2.2.2.2.2.2.2.2.1,au.2.2.2.2.2.2.2.2.2.2.2.2.2.2.2.2.2.2.2.2.2.2.1,au.2.2.2.2.2.2.2.2.2.2.2.2.2.2.2.2.2.2.2.2.2.2.2,(qt.wrap (ar.2.2.2.2.2.2.2.2.2.2.2.2.2.2.2.2.2.2.2.2.2.2+1))))) (.oo .u)) (j,aa,ab,ac,ad,ae,af,ag,ah,ai,aj,ak,al,an.Xf,ap.Xo,ap.Xu,ap.Place,aq.1.Xg.Xc,aq.1.Xg.Xv,aq.1.Xe,aq.1.Xr,ao,0) [] λ_=>.stop)
def Izt (j)(aa)(ab)(ac)(ad)(ae)(af)(ag)(ah)(ai)(aj)(ak)(al)(am)(an)(ao)(ap):=
 mkD func122 (Wzo j aa ab ac ad ae af ag ah ai aj ak al am an ao ap) 1 [.agg [q j,q aa,q ab,q ac,q ad,q ae,q af,q ag,pz ah,pz ai,pz aj,pz ak,pz al,.map 0],q an,q ao,q ap] [(0,mapG (jE 10) az4 bzo am)] (λr=>.tup [q r.1,q r.2]) (λ_=>[(0,mapG (jE 10) az4 bzo am)])
def rz5 (j:A0)(aa:A8)(ab:A2)(ac:Ad)(ad:A3)(ae:Bi)(af:A1)(ag:A7)(ah:Int)(ai:Int)(aj:Int)(ak:Int)(al:Int)(am:B8)(an:azm)(ao:A4)(ap:A9):T (Ax×A4×Int×Int×Int×B8):=
 .loop (λs (aq:C2)=>pk s [4,5,10,17,18] [1] [(2,q aq.1),(11,pz aq.2.2.2.2.1),(19,pz aq.2.2.2.2.2)] [(0,mapG (jE 10) az4 bzo aq.2.1),(65,.box [q aq.2.2.1]),(257,vO aq.2.2.2.1 68)]) (.exit 0) (λs (aq:(Ax×B8))=>pk s [10] [] [] [(0,mapG (jE 10) az4 bzo aq.2),(257,vO aq.1 68)]) (λaq=>let ar:=ap.getD (X3 aq.2.2.2.2.2) qu;let au:=(⟨aq.2.2.1⟩:azm);let av:=(⟨((if 0<aq.2.2.1.length then aq.2.2.1.getD 0 qu else 0),(if 1<aq.2.2.1.length then aq.2.2.1.getD 1 qu else 0),(if 2<aq.2.2.1.length then aq.2.2.1.getD 2 qu else 0),(if 3<aq.2.2.1.length then aq.2.2.1.getD 3 qu else 0),(if 4<aq.2.2.1.length then aq.2.2.1.getD 4 qu else 0),(if 5<aq.2.2.1.length then aq.2.2.1.getD 5 qu else 0)),aq.2.2.2.2.1,ar⟩:azc);let aw:=jzi az4 aq.2.1 (az4 av);let ax:=mdom az4 aq.2.1 (az4 av);.jF (aq.2.2.2.2.2<(ap.length:Int)) (.gh aq.2.2.2.2.2 ap.length<|.ok (ax=false->PSub (.agg [jD 0,jD 0,jD 0,jD 0,.lst 0 0 λ_=>.unk,.lst 0 0 λ_=>.unk]) (bzo aw)) (Vz9 jw)<|.cut 0 (λs (ay:C9)=>pk s [4,5,10,13,15,17,18,19] [1,65,257,833] [] [(0,mapG (jE 10) az4 bzo ay.1),(2049,.box [pz ay.2.1,pz ay.2.2.1,pz ay.2.2.2.1,pz ay.2.2.2.2.1,q ay.2.2.2.2.2.1,q ay.2.2.2.2.2.2])]) (.br (!ax) (.call (Izt j aa ab ac ad ae af ag ah ai aj ak al aq.2.1 au aq.1 ar) [(0,0)] λay=>.br (!ay.2) (.ff (.fin (nl,aq.2.2.1,ar.Xo,ar.Xu,ar.Place,aq.2.1))) (.conv 13004 (az4n (jE 10) az4 bzo aq.2.1 av ay.1 (.agg [jD ay.1.Xt.Xo,jD ay.1.Xt.Xu,jD ay.1.Xt.Place,jD ay.1.XM,encL 1 (encL 1 bz5) ay.1.Path.Xb,encL 2 xz3 ay.1.Path.Xa]) jw)<|.oo (((av,ay.1)::aq.2.1),ay.1.Xt.Xo,ay.1.Xt.Xu,ay.1.Xt.Place,ay.1.XM,ay.1.Path.Xb,ay.1.Path.Xa))) (.oo (aq.2.1,aw.Xt.Xo,aw.Xt.Xu,aw.Xt.Place,aw.XM,aw.Path.Xb,aw.Path.Xa))) λay=>let az:=([(⟨(⟨ay.2.1,ay.2.2.1,ay.2.2.2.1⟩:aza),ay.2.2.2.2.1,(⟨ay.2.2.2.2.2.1,ay.2.2.2.2.2.2⟩:bza)⟩:aze)]:Ax);let a0:=aq.2.2.2.1.length+az.length;
 .conv 14002 (kL az 68)<|.conv 14003 (kA aq.2.2.2.1 az 68)<|.grd (a0 * 80<=140737488355328/\a0<=maxLen)<|.gh ay.2.2.2.2.1 ag.length<|.cc (jzz (⟨(⟨(⟨j,aa⟩:azj),ab,ac⟩:az7),ad,ae,af,ag,ah⟩:az2) au ar) λa1=>.nn ((ag.getD (X3 ay.2.2.2.2.1) qu).At,ay.1,a1.1.Xf,(aq.2.2.2.1++az),ay.2.2.2.2.1,(qt.wrap (aq.2.2.2.2.2+1)))) (.oo (aq.2.2.2.1,aq.2.1))) (ao,am,an.Xf,nl,(-1),0) [] λ_=>.stop
def kzh (j)(aa)(ab)(ac)(ad)(ae)(af)(ag)(ah)(ai)(aj)(ak)(al)(am)(an)(ao)(ap):=
 mkD func64 (rz5 j aa ab ac ad ae af ag ah ai aj ak al am an ao ap) 1 [.agg [q j,q aa,q ab,q ac,q ad,q ae,q af,q ag,pz ah,pz ai,pz aj,pz ak,pz al,.map 0],q an,q ao,q ap] [(0,mapG (jE 10) az4 bzo am)] (λr=>.tup [q r.1,X7 1]) (λr=>[(0,mapG (jE 10) az4 bzo r.2.2.2.2.2),(1,.box [q r.2.1,pz r.2.2.1,pz r.2.2.2.1,pz r.2.2.2.2.1])])
def rz6 (j:A0)(aa:A8)(ab:A2)(ac:Ad)(ad:A3)(ae:Bi)(af:A1)(ag:A7)(ah:Int)(ai:Int)(aj:Int)(ak:Int)(al:Int)(am:B8)(an:azm)(ao:A4)(ap:A9):T (Ax×B8):=
 .loop (λs (aq:C2)=>pk s [4,5,10,17,18] [1] [(2,q aq.1),(11,pz aq.2.2.2.2.1),(19,pz aq.2.2.2.2.2)] [(0,mapG (jE 10) az4 bzo aq.2.1),(65,.box [q aq.2.2.1]),(257,vO aq.2.2.2.1 68)]) (.exit 0) (λs (aq:(Ax×B8))=>pk s [10] [] [] [(0,mapG (jE 10) az4 bzo aq.2),(257,vO aq.1 68)]) (λaq=>let ar:=ap.getD (X3 aq.2.2.2.2.2) qu;let au:=(⟨aq.2.2.1⟩:azm);let av:=(⟨((if 0<aq.2.2.1.length then aq.2.2.1.getD 0 qu else 0),(if 1<aq.2.2.1.length then aq.2.2.1.getD 1 qu else 0),(if 2<aq.2.2.1.length then aq.2.2.1.getD 2 qu else 0),(if 3<aq.2.2.1.length then aq.2.2.1.getD 3 qu else 0),(if 4<aq.2.2.1.length then aq.2.2.1.getD 4 qu else 0),(if 5<aq.2.2.1.length then aq.2.2.1.getD 5 qu else 0)),aq.2.2.2.2.1,ar⟩:azc);let aw:=jzi az4 aq.2.1 (az4 av);let ax:=mdom az4 aq.2.1 (az4 av);.jF (aq.2.2.2.2.2<(ap.length:Int)) (.gh aq.2.2.2.2.2 ap.length<|.ok (ax=false->PSub (.agg [jD 0,jD 0,jD 0,jD 0,.lst 0 0 λ_=>.unk,.lst 0 0 λ_=>.unk]) (bzo aw)) (Vz9 jw)<|.cut 0 (λs (ay:C9)=>pk s [4,5,10,13,15,17,18,19] [1,65,257,833] [] [(0,mapG (jE 10) az4 bzo ay.1),(2049,.box [pz ay.2.1,pz ay.2.2.1,pz ay.2.2.2.1,pz ay.2.2.2.2.1,q ay.2.2.2.2.2.1,q ay.2.2.2.2.2.2])]) (.br (!ax) (.call (Izt j aa ab ac ad ae af ag ah ai aj ak al aq.2.1 au aq.1 ar) [(0,0)] λay=>.br (!ay.2) (.stop) (.conv 13004 (az4n (jE 10) az4 bzo aq.2.1 av ay.1 (.agg [jD ay.1.Xt.Xo,jD ay.1.Xt.Xu,jD ay.1.Xt.Place,jD ay.1.XM,encL 1 (encL 1 bz5) ay.1.Path.Xb,encL 2 xz3 ay.1.Path.Xa]) jw)<|.oo (((av,ay.1)::aq.2.1),ay.1.Xt.Xo,ay.1.Xt.Xu,ay.1.Xt.Place,ay.1.XM,ay.1.Path.Xb,ay.1.Path.Xa))) (.oo (aq.2.1,aw.Xt.Xo,aw.Xt.Xu,aw.Xt.Place,aw.XM,aw.Path.Xb,aw.Path.Xa))) λay=>let az:=([(⟨(⟨ay.2.1,ay.2.2.1,ay.2.2.2.1⟩:aza),ay.2.2.2.2.1,(⟨ay.2.2.2.2.2.1,ay.2.2.2.2.2.2⟩:bza)⟩:aze)]:Ax);let a0:=aq.2.2.2.1.length+az.length;
 .conv 14002 (kL az 68)<|.conv 14003 (kA aq.2.2.2.1 az 68)<|.grd (a0 * 80<=140737488355328/\a0<=maxLen)<|.gh ay.2.2.2.2.1 ag.length<|.cc (jzz (⟨(⟨(⟨j,aa⟩:azj),ab,ac⟩:az7),ad,ae,af,ag,ah⟩:az2) au ar) λa1=>.nn ((ag.getD (X3 ay.2.2.2.2.1) qu).At,ay.1,a1.1.Xf,(aq.2.2.2.1++az),ay.2.2.2.2.1,(qt.wrap (aq.2.2.2.2.2+1)))) (.oo (aq.2.2.2.1,aq.2.1))) (ao,am,an.Xf,nl,(-1),0) [] λaq=>.jq (aq.1,aq.2)
def kzi (j)(aa)(ab)(ac)(ad)(ae)(af)(ag)(ah)(ai)(aj)(ak)(al)(am)(an)(ao)(ap):=
 mkD func64 (rz6 j aa ab ac ad ae af ag ah ai aj ak al am an ao ap) 1 [.agg [q j,q aa,q ab,q ac,q ad,q ae,q af,q ag,pz ah,pz ai,pz aj,pz ak,pz al,.map 0],q an,q ao,q ap] [(0,mapG (jE 10) az4 bzo am)] (λr=>.tup [q r.1,.nilp]) (λr=>[(0,mapG (jE 10) az4 bzo r.2)])
def szz (j:az2)(aa:azm)(ab:A4)(ac:A4)(ad:cz2)(ae:Int):T (Ax×Int):=let af:=(⟨aa.Xf⟩:azm);let ag:=(⟨j.Xl,j.Xd,j.Xh,j.Xj,j.Xk,j.Xp⟩:az2);.cub 2 39 [2,3,5,6,7,10] [0,64,128] (.cc (ez5 ag af) λah=>.jG (!ah) (.cc (bzq j.Xl.Xg ab) λai=>.jG (!ai) (.oo ((ac.length:Int) !=(j.Xd.length:Int))))) λah=>.br ah (.jq (nl,0)) (.cub 1 50 [2,3,5,6,7,10] [0,64,128] (.jI (ae<1) (.jI (ae>64) (.cc (gzq ad) λai=>.oo (!ai)))) λai=>.br ai (.jq (nl,0)) (.conv 5002 (azgi (jE 10) az4 bzo (.agg [jD 0,jD 0,jD 0,jD 0,.lst 0 0 λ_=>.unk,.lst 0 0 λ_=>.unk]))<|.loop (λs (aj:(B8×Ab×Int))=>pk s [2,3,6,7,14,15,55] [0,64,704] [(56,pz aj.2.2)] [(576,mapG (jE 10) az4 bzo aj.1),(832,vS aj.2.1 122)]) (.exit 0) (jk [] []) (λaj=>.jF (aj.2.2<ae) (.cc (Ezo ag af ac 16 aj.2.1) λak=>.br (!ak.2) (.ff (nl,2)) (.split (((kzh j.Xl.Xg.Xc j.Xl.Xg.Xv j.Xl.Xe j.Xl.Xr j.Xd j.Xh j.Xj j.Xk j.Xp ad.XG ad.XJ ad.Xi ad.XN aj.1 af ab ak.1).o).isSome)
 .stop (.call (kzi j.Xl.Xg.Xc j.Xl.Xg.Xv j.Xl.Xe j.Xl.Xr j.Xd j.Xh j.Xj j.Xk j.Xp ad.XG ad.XJ ad.Xi ad.XN aj.1 af ab ak.1) [(0,576)] λal=>.ff (al.1,1)))) (.oo .u)) ((nl:List (azc×aze)),nl,0) [] λ_=>.stop))
def lzo:=
 mkq6 func26 szz (λr=>.tup [q r.1,pz r.2])
def ozc (j:azr):T (An×Bool):=
 .loop (λs (aa:Ao)=>pk s [1,2,3,11,12] [0,64,128] [(13,pz aa.2)] [(65,vO aa.1 76)]) (.exit 0) (λs (aa:An)=>pk s [2,3] [64,128] [] [(65,vO aa 76)]) (λaa=>let ab:=j.XC.getD (X3 aa.2) qu;.jF (aa.2<(j.XC.length:Int)) (.gh aa.2 j.XC.length<|.loop (λs (ac:Bj)=>pk s [1,2,3,6,11,12,13,23,24] [0,64,65,128,1280] [(25,pz ac.2)] [(1218,vO ac.1 89)]) (.exit 2) (λs (ac:Bi)=>pk s [1,2,3,6,11,12,13] [0,64,65,128,1280] [] [(1218,vO ac 89)]) (λac=>let ad:=(ab.Xq).getD (X3 ac.2) qu;let ae:=([(j.XA.getD (ad.toNat) qu)]:Bi);let af:=ac.1.length+ae.length;.jF (ac.2<(ab.Xq.length:Int)) (.gh ac.2 (ab.Xq.length)<|.cub 1 37 [1,2,3,6,8,11,12,13,23,24,25] [0,64,65,128,1218,1280] (.jI (ad<0) (.oo (qv (ad>=(j.XA.length:Int))))) λag=>.br ag (.ff (.fin (nl,false))) (.gh ad j.XA.length<|.conv 11007 (kL ae 89)<|.conv 11008 (kA ac.1 ae 89)<|.grd (af * 24<=140737488355328/\af<=maxLen)<|.nn ((ac.1++ae),(qt.wrap (ac.2+1))))) (.oo ac.1)) (nl,0) [] λac=>let ad:=([(⟨ab.Xi,ab.Xs,ac⟩:az6)]:An);let ae:=aa.1.length+ad.length;
 .conv 13002 (kL ad 76)<|.conv 13003 (kA aa.1 ad 76)<|.grd (ae * 40<=140737488355328/\ae<=maxLen)<|.nn ((aa.1++ad),(qt.wrap (aa.2+1)))) (.oo aa.1)) (nl,0) [] λaa=>.jq (aa,true)
def jz5 (j):=
 mkC [⟨219,azdr⟩] hd func159 jw (ozc j) 0 [q j] [] (λr=>.tup [q r.1,q r.2]) X6 jw
def Czz (j:az7)(aa:bza):T B2:=let ab:=(aa.Xa.length:Int);.cc (tzv j aa.Xb) λac=>.br (ac.2 !=0) (.jq (ac.1,ac.2)) (.br (ab !=(qt.wrap ((aa.Xb.length:Int)-1))) (.jq (0,2202)) (.loop (ik 37 [2,3,4,5,35,36] [0,64,128,192]) (.exit 0) (jk [4,5] [128,192]) (λad=>let ae:=qt.wrap (ad+1);.jF (ad<ab) (.gh ad aa.Xa.length<|.cc (jz5 (aa.Xa.getD (ad.toNat) qu)) λaf=>.br (!af.2) (.ff (ad,2203)) (.gh ad aa.Xb.length<|.gh ae aa.Xb.length<|.call (xz2 (⟨j.Xg,j.Xe,j.Xr⟩:az7) (aa.Xb.getD (ad.toNat) qu) (aa.Xb.getD (ae.toNat) qu) af.1) [] λag=>.br (ag.2 !=0) (.ff (ad,ag.2)) (.nn ae))) (.oo .u))
 0 [] λ_=>.jq (0,0)))
def tzu (j)(aa):=
 mkC [⟨157,azdq⟩] hd func97 jw (Czz j aa) 0 [q j,q aa] [] (λr=>.tup [pz r.1,pz r.2]) X6 jw
def pzl (j:az2)(aa:azm)(ab:bza)(ac:A4)(ad:A4):T Bool:=let ae:=qt.wrap ((ab.Xb.length:Int)-1);.cc (pzw j aa) λaf=>.br (af.2 !=0) (.jq false) (.cc (tzu (⟨af.1.Xg,af.1.Xe,af.1.Xr⟩:az7) ab) λag=>.br (ag.2 !=0) (.jq false) (.gh (0:Int) ab.Xb.length<|.cc (dzw (ab.Xb.getD (X3 (0:Int)) qu) ac) λah=>.br ah (.gh ae ab.Xb.length<|.call (dzw (ab.Xb.getD (ae.toNat) qu) ad) [] λai=>.jq ai) (.jq false)))
def jzc:=
 mkp5 func45 pzl
def wzr (j:az2)(aa:azm)(ab:A4):T Bool:=
 .cc (ez5 j aa) λac=>.br ac (.br ((ab.length:Int)==(aa.Xf.length:Int)) (.cc (hzx aa) λad=>.cc (qz0 ad ab) λae=>.jq ae) (.jq false)) (.jq false)
def wzq:=
 mkp3 func46 wzr
def pzk (j:az2)(aa:azm)(ab:A4)(ac:A4)(ad:Ax):T B2:=let ae:=(ad.length:Int);let af:=(⟨j.Xl,j.Xd,j.Xh,j.Xj,j.Xk,j.Xp⟩:az2);.cc (iz4 j) λag=>.br (ag !=0) (.jq (0,ag)) (.cc (ez5 j aa) λah=>.br (!ah) (.jq (0,3403)) (.cub 1 40 [2,3,4,5,6] [0,64] (.cc (bzq j.Xl.Xg ab) λai=>.jG (!ai) (.oo ((ac.length:Int) !=(j.Xd.length:Int)))) λai=>.br ai (.jq (0,4501)) (.loop (λs (aj:Bf)=>pk s [3,4,5,6,41,42] [0] [(2,q aj.1),(43,pz aj.2.2)] [(64,.box [q aj.2.1])]) (.exit 0) (λs (aj:A4)=>pk s [3,4,5,6] [0] [] [(64,.box [q aj])]) (λaj=>let ak:=(⟨aj.2.1⟩:azm);let al:=ad.getD (X3 aj.2.2) qu;let am:=al.XM;let an:=j.Xk.getD (am.toNat) qu;.jF (aj.2.2<ae) (.gh aj.2.2 ad.length<|.cc (jzz af ak (al.Xt)) λao=>.cub 1 82 [2,3,4,5,6,13,14,16,41,42,43] [0,64,1408,2304] (.jG (!ao.2) (.cc (jzd af (al.Xt) am) λap=>.jG (!ap) (.gh am j.Xk.length<|.call (iz3 af (al.Xt.Xu) (al.Xt.Place) (an.At)) [] λaq=>.oo (!aq)))) λap=>.br ap (.ff (aj.2.2,3901)) (.gh am j.Xk.length<|.call (jzc af ak (al.Path) aj.1 (an.At)) [] λaq=>.br (!aq) (.ff (aj.2.2,4401)) (.gh am j.Xk.length<|.nn (an.At,ao.1.Xf,(qt.wrap (aj.2.2+1)))))) (.oo aj.2.1)) (ab,aa.Xf,0) [] λaj=>.cc (wzq j (⟨aj⟩:azm) ac) λak=>.br (!ak) (.jq (ae,3902)) (.jq (ae,0)))))
def ezq:=
 mkq5 func16 pzk (λr=>.tup [pz r.1,pz r.2])
def law39_awake_T:T Bool:=
 .cc (law39_one_C) λj=>let aa:=(⟨j.Xl,j.Xd,j.Xh,j.Xj,j.Xk,j.Xp⟩:az2);
 .conv 1001 (kL ([0]:A4) 3)<|.conv 2002 (kL ([0,0]:A4) 2)<|.conv 2003 (kL ([1]:A4) 3)<|.cc (hz4 1 9) λab=>.cc (lzo aa (⟨([0]:A4)⟩:azm) ([0,0]:A4) ([1]:A4) ab 3) λac=>.conv 3002 (kL ([0,0]:A4) 2)<|.conv 3003 (kL ([1]:A4) 3)<|.cc (ezq aa (⟨([0]:A4)⟩:azm) ([0,0]:A4) ([1]:A4) ac.1) λad=>.br (ac.2==1) (.br ((ac.1.length:Int)==2) (.br (ad.1==2) (.jq (ad.2==0)) (.jq false)) (.jq false)) (.jq false)
def law39_awake_C:CallS Bool:=
 mkD func7 (law39_awake_T) 0 [] [] (λr=>q r) X6
def az3b (j:A4):T Ah:=
 .jq (j,0)
def hzp:=
 mkv1 func27 az3b (λ_=>X7 0) (λr=>[(0,.box [q r.1,pz r.2])])
def xzz (j:A4)(aa:Int)(ab:Int):T (Int×A4×Int):=let ac:=qt.wrap (aa+1);let ad:=qt.wrap (ac-1);.jF (aa>=(j.length:Int)) (.jq (0,j,aa)) (.gh ad j.length<|.call (tzq (j.getD (ad.toNat) qu) ab) [] λae=>.jq (ae,j,ac))
def bzg (j)(aa)(ab):=
 mkD func29 (xzz j aa ab) 1 [X7 0,pz ab] [(0,.box [q j,pz aa])] (λr=>pz r.1) (λr=>[(0,.box [q r.2.1,pz r.2.2])])
def qzu (j:A4)(aa:Int)(ab:Int):T (Int×A4×Int):=
 .call (bzg j aa (qt.wrap ((qt.wrap (2 * ab))+1))) [(0,0)] λac=>.jq ((qt.wrap (ac.1-ab)),ac.2.1,ac.2.2)
def qzt (j)(aa)(ab):=
 mkD func31 (qzu j aa ab) 1 [X7 0,pz ab] [(0,.box [q j,pz aa])] (λr=>pz r.1) (λr=>[(0,.box [q r.2.1,pz r.2.2])])
def ozl (j:A4):T az2:=
 .cc (hzp j) λaa=>.cc (yzz 2 64) λab=>.conv 4004 (kL ([(0,0,20)]:Bi) 89)<|.conv 4006 (kL ([(⟨1,1,([(0,0,20)]:Bi)⟩:azh)]:A2) 91)<|.grd (([(⟨1,1,([(0,0,20)]:Bi)⟩:azh)]:A2).length * 40<=140737488355328/\([(⟨1,1,([(0,0,20)]:Bi)⟩:azh)]:A2).length<=maxLen)<|.cut 0 (λs (ac:(A4×Int×A2))=>pk s [2,3,4] [0,1,2,3,4,5,6,7,8,260,261,262,263,264] [] [(128,.box [q ac.1,pz ac.2.1]),(256,.box [q ab.Xc,q ab.Xv,.vec 1280,.vec 260,.vec 261,.vec 262,.vec 263,.vec 264,pz 0]),(1280,vO ac.2.2 91)]) (.call (bzg aa.1 aa.2 2) [(0,128)] λac=>.br (ac.1==1) (.call (bzg ac.2.1 ac.2.2 5) [(0,128)] λad=>.call (bzg ad.2.1 ad.2.2 65) [(0,128)] λae=>.call (bzg ae.2.1 ae.2.2 65) [(0,128)] λaf=>.call (bzg af.2.1 af.2.2 20) [(0,128)] λag=>let ah:=([(ae.1,af.1,ag.1)]:Bi);let ai:=([(⟨(-1),(qt.wrap (1+ad.1)),ah⟩:azh)]:A2);let aj:=([(⟨1,1,([(0,0,20)]:Bi)⟩:azh)]:A2).length+ai.length;
 .conv 6013 (kL ah 89)<|.conv 6015 (kL ai 91)<|.conv 6016 (kA ([(⟨1,1,([(0,0,20)]:Bi)⟩:azh)]:A2) ai 91)<|.grd (aj * 40<=140737488355328/\aj<=maxLen)<|.oo (ag.2.1,ag.2.2,(([(⟨1,1,([(0,0,20)]:Bi)⟩:azh)]:A2)++ai))) (.oo (ac.2.1,ac.2.2,([(⟨1,1,([(0,0,20)]:Bi)⟩:azh)]:A2)))) λac=>.call (bzg ac.1 ac.2.1 3) [(0,128)] λad=>.loop (λs (ae:(A4×Int×Bi×Int))=>pk s [2,3,4] [0,1,2,3,4,5,6,7,8,256,260,261,263,264,1280] [(5,pz ae.2.2.2)] [(128,.box [q ae.1,pz ae.2.1]),(262,vO ae.2.2.1 89)]) (.exit 0) (λs (ae:(A4×Int×Bi))=>pk s [2,3,4] [0,1,2,3,4,5,6,7,8,256,260,261,263,264,1280] [] [(128,.box [q ae.1,pz ae.2.1]),(262,vO ae.2.2 89)]) (λae=>.jF (ae.2.2.2>0) (.call (bzg ae.1 ae.2.1 3) [(0,128)] λaf=>let ag:=([((qt.wrap (16 * ae.2.2.2)),(qt.wrap (8 * af.1)),0)]:Bi);let ah:=ae.2.2.1.length+ag.length;
 .conv 10008 (kL ag 89)<|.conv 10009 (kA ae.2.2.1 ag 89)<|.grd (ah * 24<=140737488355328/\ah<=maxLen)<|.nn (af.2.1,af.2.2,(ae.2.2.1++ag),(qt.wrap (ae.2.2.2-1)))) (.oo (ae.1,ae.2.1,ae.2.2.1))) (ad.2.1,ad.2.2,nl,(qt.wrap (2+ad.1))) [] λae=>.call (bzg ae.1 ae.2.1 2) [(0,128)] λaf=>.loop (λs (ag:(A1×Int))=>pk s [2,3,4] [0,1,2,3,4,5,6,7,8,128,256,260,261,262,264,1280] [(6,pz ag.2)] [(263,vO ag.1 93)]) (.exit 2) (λs (ag:A1)=>pk s [2,3,4] [0,1,2,3,4,5,6,7,8,128,256,260,261,262,264,1280] [] [(263,vO ag 93)]) (λag=>let ah:=qt.wrap (ag.2-1);let ai:=([(⟨1,(0,0,(qt.wrap (2 * ah)))⟩:ezi)]:A1);let aj:=ag.1.length+ai.length;.jF (ag.2>0) (.conv 14007 (kL ai 93)<|.conv 14008 (kA ag.1 ai 93)<|.grd (aj * 32<=140737488355328/\aj<=maxLen)<|.nn ((ag.1++ai),ah)) (.oo ag.1)) (nl,(qt.wrap (1+af.1))) [] λag=>.call (bzg af.2.1 af.2.2 4) [(0,128)] λah=>let ai:=qt.wrap (ah.1+4);
 .call (bzg ah.2.1 ah.2.2 2) [(0,128)] λaj=>.loop (λs (ak:(A4×Int×A3×Int))=>pk s [2,3,4] [0,1,2,3,4,5,6,7,8,256,260,262,263,264,1280] [(7,pz ak.2.2.2)] [(128,.box [q ak.1,pz ak.2.1]),(261,vO ak.2.2.1 87)]) (.exit 4) (λs (ak:(A4×Int×A3))=>pk s [2,3,4] [0,1,2,3,4,5,6,7,8,256,260,262,263,264,1280] [] [(128,.box [q ak.1,pz ak.2.1]),(261,vO ak.2.2 87)]) (λak=>.jF (ak.2.2.2>0) (.cc (zz0 ak.2.2.2) λal=>.call (bzg ak.1 ak.2.1 2) [(0,128)] λam=>.call (bzg am.2.1 am.2.2 3) [(0,128)] λan=>let ao:=([(0,0,an.1)]:Bi);let ap:=([(⟨0,(qt.wrap (1+am.1)),ao⟩:azh)]:A2);let aq:=([(⟨al,ap⟩:bz2)]:A3);let ar:=ak.2.2.1.length+aq.length;
 .conv 19010 (kL ao 89)<|.conv 19012 (kL ap 91)<|.conv 19014 (kL aq 87)<|.conv 19015 (kA ak.2.2.1 aq 87)<|.grd (ar * 40<=140737488355328/\ar<=maxLen)<|.nn (an.2.1,an.2.2,(ak.2.2.1++aq),(qt.wrap (ak.2.2.2-1)))) (.oo (ak.1,ak.2.1,ak.2.2.1))) (aj.2.1,aj.2.2,nl,(qt.wrap (1+aj.1))) [] λak=>.loop (λs (al:Bu)=>pk s [2,3,4] [0,1,2,3,4,5,6,7,8,256,260,261,262,263,1280] [(8,pz al.2.2.2)] [(128,.box [q al.1,pz al.2.1]),(264,vO al.2.2.1 110)]) (.exit 6) (λs (al:A7)=>pk s [2,4] [0,1,2,3,4,5,6,7,8,256,260,261,262,263,1280] [] [(264,vO al 110)]) (λal=>.jF (al.2.2.2<(ag.length:Int)) (.loop (λs (am:Bu)=>pk s [2,3,4,8] [0,1,2,3,4,5,6,7,8,256,260,261,262,263,1280] [(9,pz am.2.2.2)] [(128,.box [q am.1,pz am.2.1]),(264,vO am.2.2.1 110)]) (.exit 8) (λs (am:(A4×Int×A7))=>pk s [2,3,4,8] [0,1,2,3,4,5,6,7,8,256,260,261,262,263,1280] [] [(128,.box [q am.1,pz am.2.1]),(264,vO am.2.2 110)]) (λam=>let an:=am.2.2.2;let ao:=ae.2.2.getD (an.toNat) qu;.jF (am.2.2.2<(ae.2.2.length:Int)) (.cut 0 (λs (ap:(A4×Int×A7))=>pk s [2,3,4,8,9] [0,1,2,3,4,5,6,7,8,260,261,262,263,1280] [] [(128,.box [q ap.1,pz ap.2.1]),(256,.box [q ab.Xc,q ab.Xv,.vec 1280,.vec 260,.vec 261,.vec 262,.vec 263,.vec 3520,pz ai]),(3520,vO ap.2.2 110)]) (.call (bzg am.1 am.2.1 8) [(0,128)] λap=>.jF (ap.1<7) (.gh am.2.2.2 ae.2.2.length<|.z9<|.grd (an.toNat<ae.2.2.length)<|.call (qzt ap.2.1 ap.2.2 2) [(0,128)] λaq=>let ar:=([(min 64 (qt.wrap ((ao.1)+aq.1))),ao.2.1]:A4);let au:=([(⟨al.2.2.2,am.2.2.2,ar⟩:czm)]:A7);let av:=am.2.2.1.length+au.length;
 .gh am.2.2.2 ae.2.2.length<|.ja<|.grd (an.toNat<ae.2.2.length)<|.conv 27020 (kL ar 2)<|.conv 27022 (kL au 110)<|.conv 27023 (kA am.2.2.1 au 110)<|.grd (av * 40<=140737488355328/\av<=maxLen)<|.oo (aq.2.1,aq.2.2,(am.2.2.1++au))) (.oo (ap.2.1,ap.2.2,am.2.2.1))) λap=>.nn (ap.1,ap.2.1,ap.2.2,(qt.wrap (am.2.2.2+1)))) (.oo (am.1,am.2.1,am.2.2.1))) (al.1,al.2.1,al.2.2.1,0) [] λam=>.nn (am.1,am.2.1,am.2.2,(qt.wrap (al.2.2.2+1)))) (.oo al.2.2.1)) (ak.1,ak.2.1,nl,0) [] λal=>.jq (⟨(⟨ab,ac.2.2,nl⟩:az7),ak.2.2,ae.2.2,ag,al,ai⟩:az2)
def Bz0:=
 mkp1 func8 ozl
def Hzm (j:A4)(aa:Int):T Bool:=
 .loop (ik 5 [0,1] []) (.exit 0) (jk [] []) (λab=>.jF (ab<(j.length:Int)) (.gh ab j.length<|.br ((j.getD (ab.toNat) qu)==aa) (.ff true) (.nn (qt.wrap (ab+1)))) (.oo .u))
 0 [] λ_=>.jq false
def Hzl:=
 mkp2 func32 Hzm
def Hzk (j:az2)(aa:A4):T azm:=let ab:=(j.Xj.length:Int);let ac:=qt.wrap ((j.Xh.length:Int)+ab);.cc (hzp aa) λad=>.loop (λs (ae:Bv)=>pk s [2,4,5,6] [0,64,65,320] [(7,pz ae.2.2.2)] [(192,.box [q ae.1,pz ae.2.1]),(321,vS ae.2.2.1 3)]) (.exit 0) (λs (ae:A4)=>pk s [4,6] [64,65,320] [] [(321,vS ae 3)]) (λae=>.jF (ae.2.2.2<(j.Xd.length:Int)) (.call (bzg ae.1 ae.2.1 ac) [(0,192)] λaf=>.loop (ik 8 [2,4,5,6,7] [0,64,65,192,320,321]) (.exit 2) (ik 8 [2,4,5,6,7] [0,64,65,192,320,321]) (λag=>.cc (Hzl ae.2.2.1 ag) λah=>.br ah (.name 8005 ((qt.wrap ((qt.wrap (ag+1))+ab))) λai=>.grd (ac≠0)<|.name 8017 ((qt.wrap ((ai.tmod ac)-ab))) λaj=>.nn aj) (.oo ag)) (qt.wrap (af.1-ab)) [] λag=>let ah:=([ag]:A4);let ai:=ae.2.2.1.length+ah.length;
 .conv 9003 (kL ah 3)<|.conv 9004 (az8q 1 bz5 ae.2.2.1 ah 3)<|.grd (ai * 8<=140737488355328/\ai<=maxLen)<|.nn (af.2.1,af.2.2,(ae.2.2.1++ah),(qt.wrap (ae.2.2.2+1)))) (.oo ae.2.2.1)) (ad.1,ad.2,nl,0) [] λae=>.jq (⟨ae⟩:azm)
def Qzu:=
 mkp2 func9 Hzk
def yzy (j:azj)(aa:A4):T A4:=
 .cc (hzp aa) λab=>.loop (λs (ac:Bv)=>pk s [2,5,6] [0] [(7,pz ac.2.2.2)] [(192,.box [q ac.1,pz ac.2.1]),(320,vO ac.2.2.1 2)]) (.exit 0) (λs (ac:A4)=>pk s [6] [] [] [(320,vO ac 2)]) (λac=>let ad:=j.Xc.getD (X3 ac.2.2.2) qu;let ae:=([ad.Lo]:A4);let af:=([ad.Hi]:A4);let ag:=ac.2.2.1.length+ae.length;let ah:=ac.2.2.1.length+af.length;.jF (ac.2.2.2<(j.Xc.length:Int)) (.cut 0 (λs (ai:(A4×Int×A4))=>pk s [2,5,7] [0] [(6,.vec 832)] [(192,.box [q ai.1,pz ai.2.1]),(832,vO ai.2.2 2)]) (.gh ac.2.2.2 j.Xc.length<|.gh ac.2.2.2 j.Xc.length<|.call (bzg ac.1 ac.2.1 6) [(0,192)] λai=>.br (ai.1==0) (.conv 10002 (kL ae 2)<|.conv 10003 (kA ac.2.2.1 ae 2)<|.grd (ag * 8<=140737488355328/\ag<=maxLen)<|.oo (ai.2.1,ai.2.2,(ac.2.2.1++ae))) (.br (ai.1==1) (.conv 12002 (kL af 2)<|.conv 12003 (kA ac.2.2.1 af 2)<|.grd (ah * 8<=140737488355328/\ah<=maxLen)<|.oo (ai.2.1,ai.2.2,(ac.2.2.1++af))) (.name 8005 ((qt.wrap ((ad.Hi)- (ad.Lo)))) λaj=>.name 8006 ((qt.wrap (aj+1))) λak=>.call (bzg ai.2.1 ai.2.2 ak) [(0,192)] λal=>let am:=([(qt.wrap ((ad.Lo)+al.1))]:A4);let an:=ac.2.2.1.length+am.length;
 .conv 8009 (kL am 2)<|.conv 8010 (kA ac.2.2.1 am 2)<|.grd (an * 8<=140737488355328/\an<=maxLen)<|.oo (al.2.1,al.2.2,(ac.2.2.1++am))))) λai=>.nn (ai.1,ai.2.1,ai.2.2,(qt.wrap (ac.2.2.2+1)))) (.oo ac.2.2.1)) (ab.1,ab.2,nl,0) [] λac=>.jq ac
def yzx:=
 mkv2 func10 yzy (λ_=>.vec 0) (λr=>[(0,vO r 2)])
def Czs (j:az2)(aa:A4):T A4:=let ab:=(j.Xh.length:Int);.cc (hzp aa) λac=>.loop (λs (ad:Bv)=>pk s [2,5,6] [0] [(7,pz ad.2.2.2)] [(192,.box [q ad.1,pz ad.2.1]),(320,vO ad.2.2.1 3)]) (.exit 0) (λs (ad:A4)=>pk s [6] [] [] [(320,vO ad 3)]) (λad=>.jF (ad.2.2.2<(j.Xd.length:Int)) (.call (bzg ad.1 ad.2.1 (qt.wrap (ab+1))) [(0,192)] λae=>.cut 0 (λs (af:Int)=>pk s [2,5,6,7] [0,192,320] [(8,pz af)] []) (.br (ae.1==ab) (.oo (-1048576)) (.oo ae.1)) λaf=>let ag:=([af]:A4);let ah:=ad.2.2.1.length+ag.length;
 .conv 9002 (kL ag 3)<|.conv 9003 (kA ad.2.2.1 ag 3)<|.grd (ah * 8<=140737488355328/\ah<=maxLen)<|.nn (ae.2.1,ae.2.2,(ad.2.2.1++ag),(qt.wrap (ad.2.2.2+1)))) (.oo ad.2.2.1)) (ac.1,ac.2,nl,0) [] λad=>.jq ad
def tzo:=
 mkp2 func11 Czs
def Iz6 (j:ByteArray):T Bool:=let aa:=(j.size:Int);.cub 2 16 [0] [] (.jI (aa<1) (.jI (aa>16) (.oo (j==(⟨#[119,111,114,108,100]⟩:ByteArray))))) λab=>.br ab (.jq false) (.loop (ik 3 [0] []) (.exit 0) (jk [] []) (λac=>let ad:=((j.data.getD ac.toNat 0).toNat:Int);.jF (ac<aa) (.cub 1 4 [0,3] [] (.gh ac j.size<|.jF (ad>=97) (.gh ac j.size<|.oo (qv (ad<=122))) (.oo false)) λae=>.cub 0 56 [0,3] [] (.jH (!ae) (.jG (ac==0) (.gh ac j.size<|.jH (ad !=95) (.gh ac j.size<|.jI (ad<48) (.gh ac j.size<|.oo (qv (ad>57))))))) λaf=>.br af (.ff false) (.nn (qt.wrap (ac+1)))) (.oo .u))
 0 [] λ_=>.jq true)
def Iz5:=
 mkp1 func161 Iz6
def Iz7 (j:Bh)(aa:Int):T Bool:=let ab:=qt.wrap (0-aa);.unroll 4<|.jn<|.cub 1 22 [1,2,5] [0] (.z9<|.jI (j.1<ab) (.z9<|.oo (qv (j.1>aa)))) λac=>.br ac (.jq false) (.lit 3001 1<|.jn<|.cub 1 22 [1,2,5] [0] (.ja<|.jI (j.2.1<ab) (.ja<|.oo (qv (j.2.1>aa)))) λad=>.br ad (.jq false) (.lit 3001 2<|.jn<|.cub 1 22 [1,2,5] [0] (.jb<|.jI (j.2.2<ab) (.jb<|.oo (qv (j.2.2>aa)))) λae=>.br ae (.jq false) (.lit 3001 3<|.jp<|.jq true)))
def ezn:=
 mkp2 func101 Iz7
def Ez5 (j:Int):T Int:=
 .br (j==0) (.jq 0) (.cub 0 6 [] [] (.br (j==1) (.oo (j==1)) (.br (j==2) (.oo (j==2)) (.oo (j==3)))) λaa=>.br aa (.jq 524288) (.jq 4194304))
def Nzp:=
 mkp1 func189 Ez5
def wzc (j:Int)(aa:Int)(ab:Int):T Bool:=
 .jF (aa<=j) (.jq (qv (j<=ab))) (.jq false)
def fzs:=
 mkp3 func110 wzc
def mzt (j:A0)(aa:Int):T Int:=let ab:=j.getD (aa.toNat) qu;let ac:=ab.Xo;.gh aa j.length<|.cc (Iz5 (ab.XH)) λad=>.br (!ad) (.jq 802) (.loop (ik 6 [0,1,5] [320]) (.exit 0) (jk [1,5] [320]) (λae=>.jF (ae<aa) (.gh ae j.length<|.br (((j.getD (ae.toNat) qu).XH)==(ab.XH)) (.ff 802) (.nn (qt.wrap (ae+1)))) (.oo .u))
 0 [] λ_=>.cub 1 36 [1,5] [320] (.jI (ac<0) (.oo (qv (ac>6)))) λae=>.br ae (.jq 803) (.cub 1 45 [5] [320] (.jI ((ab.XD)<(-1)) (.oo (qv ((ab.XD)>=aa)))) λaf=>.br af (.jq 804) (.cc (ezn (ab.XE) 4194304) λag=>.br (!ag) (.jq 805) (.cc (Nzp ac) λah=>.cub 0 70 [5] [320] (.jI ((ab.Lo)>(ab.Hi)) (.jI ((ab.Lo)<(qt.wrap (0-ah))) (.oo (qv ((ab.Hi)>ah))))) λai=>.br ai (.jq 806) (.cub 1 92 [] [] (.cc (fzs (ab.XL) 1 1024) λaj=>.jG (!aj) (.cc (fzs (ab.XU) 1 1048576) λak=>.jG (!ak) (.cc (fzs (ab.XV) 1 1048576) λal=>.jG (!al) (.cc (fzs (ab.XR) 1 1099511627776) λam=>.oo (!am))))) λaj=>.br aj (.jq 807) (.jq 0))))))
def xzf:=
 mkp2 func123 mzt
def mzr (j:azj):T Int:=let aa:=(j.Xc.length:Int);let ab:=(j.Xv.length:Int);.cub 2 16 [1] [0] (.jI (aa<1) (.oo (qv (aa>10)))) λac=>.br ac (.jq 801) (.loop (ik 3 [1] [0]) (.exit 0) (jk [1] [0]) (λad=>.jF (ad<aa) (.cc (xzf j.Xc ad) λae=>.br (ae !=0) (.ff ae) (.nn (qt.wrap (ad+1)))) (.oo .u))
 0 [] λ_=>.jF (ab>32) (.jq 808) (.loop (ik 5 [1] [0]) (.exit 2) (jk [] []) (λad=>let ae:=j.Xv.getD (ad.toNat) qu;.jF (ad<ab) (.gh ad j.Xv.length<|.cub 0 69 [1,5] [0] (.jI ((ae.XB)<0) (.jI ((ae.XB)>=aa) (.cc (fzs (ae.XX) 1 65536) λaf=>.jG (!af) (.cc (ezn (ae.XP) 4194304) λag=>.oo (!ag))))) λaf=>.br af (.ff 808) (.nn (qt.wrap (ad+1)))) (.oo .u))
 0 [] λ_=>.jq 0))
def cz9:=
 mkp1 func65 mzr
def Az9 (j:azj)(aa:Int):T Bool:=
 .jF (aa>=(-1)) (.jq (qv (aa<(j.Xc.length:Int)))) (.jq false)
def ezx:=
 mkp2 func109 Az9
def mzs (j:az7):T Int:=let aa:=(j.Xr.length:Int);let ab:=(j.Xe.length:Int);.cc (cz9 j.Xg) λac=>.br (ac !=0) (.jq ac) (.jF (ab>24) (.jq 901) (.loop (ik 4 [1] [0]) (.exit 0) (jk [1] [0]) (λad=>let ae:=j.Xe.getD (ad.toNat) qu;let af:=(ae.Xb.length:Int);.jF (ad<ab) (.gh ad j.Xe.length<|.cub 1 53 [1,4,5] [0,1536] (.cc (ezx j.Xg (ae.XB)) λag=>.jG (!ag) (.cc (fzs (ae.XF) 1 1048576) λah=>.jG (!ah) (.jI (af<1) (.oo (qv (af>8)))))) λag=>.br ag (.ff 902) (.loop (ik 6 [1,4,5] [0,1536]) (.exit 2) (jk [1,4] [0]) (λah=>.jF (ah<af) (.gh ah (ae.Xb.length)<|.call (ezn ((ae.Xb).getD (ah.toNat) qu) 4194304) [] λai=>.br (!ai) (.ff (.fin 805)) (.nn (qt.wrap (ah+1)))) (.oo .u))
 0 [] λ_=>.nn (qt.wrap (ad+1)))) (.oo .u))
 0 [] λ_=>.jF (aa>64) (.jq 903) (.loop (ik 7 [1] [0]) (.exit 4) (jk [] []) (λad=>let ae:=j.Xr.getD (ad.toNat) qu;.jF (ad<aa) (.cub 1 100 [1,7] [0] (.gh ad j.Xr.length<|.cc (ezx j.Xg (ae.A)) λaf=>.jG (!af) (.gh ad j.Xr.length<|.cc (ezx j.Xg (ae.B)) λag=>.oo (!ag))) λaf=>.br af (.ff 903) (.nn (qt.wrap (ad+1)))) (.oo .u))
 0 [] λ_=>.jq 0)))
def cza:=
 mkp1 func56 mzs
def vz5 (j:azj)(aa:A4):T Bool:=let ab:=(aa.length:Int);.cub 2 16 [1,2] [0] (.cc (cz9 j) λac=>.jG (ac !=0) (.oo (ab !=(j.Xc.length:Int)))) λac=>.br ac (.jq false) (.loop (ik 5 [1,2] [0]) (.exit 0) (jk [] []) (λad=>let ae:=aa.getD (ad.toNat) qu;let af:=j.Xc.getD (ad.toNat) qu;.jF (ad<ab) (.cub 1 46 [1,2,5] [0] (.gh ad aa.length<|.gh ad j.Xc.length<|.jI (ae<(af.Lo)) (.gh ad aa.length<|.gh ad j.Xc.length<|.oo (qv (ae>(af.Hi))))) λag=>.br ag (.ff false) (.nn (qt.wrap (ad+1)))) (.oo .u))
 0 [] λ_=>.jq true)
def dzm:=
 mkp2 func34 vz5
def kzw (j:azh):T Bool:=let aa:=(j.Xb.length:Int);.cub 2 23 [1] [0] (.jI (j.XF<1) (.jI (j.XF>1048576) (.jI (aa<1) (.oo (qv (aa>8)))))) λab=>.br ab (.jq false) (.loop (ik 3 [1] [0]) (.exit 0) (jk [] []) (λac=>.jF (ac<aa) (.gh ac j.Xb.length<|.cc (ezn (j.Xb.getD (ac.toNat) qu) 4194304) λad=>.br (!ad) (.ff false) (.nn (qt.wrap (ac+1)))) (.oo .u))
 0 [] λ_=>.jq true)
def kzv:=
 mkp1 func115 kzw
def wz5 (j:bz2):T Bool:=let aa:=(j.Xe.length:Int);.cub 2 15 [1] [0] (.cc (Iz5 j.XH) λab=>.jG (!ab) (.oo (aa==0))) λab=>.br ab (.jq false) (.loop (ik 3 [1] [0]) (.exit 0) (jk [] []) (λac=>let ad:=j.Xe.getD (ac.toNat) qu;.jF (ac<aa) (.gh ac j.Xe.length<|.cub 1 35 [1,3,4] [0,960] (.cc (kzv ad) λae=>.jG (!ae) (.oo ((ad.XB) !=0))) λae=>.br ae (.ff false) (.loop (ik 5 [1,3,4] [0,960]) (.exit 2) (jk [1,3] [0]) (λaf=>.jF (af<(ad.Xb.length:Int)) (.gh af (ad.Xb.length)<|.call (ezn ((ad.Xb).getD (af.toNat) qu) 2097152) [] λag=>.br (!ag) (.ff (.fin false)) (.nn (qt.wrap (af+1)))) (.oo .u))
 0 [] λ_=>.nn (qt.wrap (ac+1)))) (.oo .u))
 0 [] λ_=>.jq true)
def Gzp:=
 mkp1 func102 wz5
def mzm (j:az2):T Int:=let aa:=(j.Xj.length:Int);let ab:=(j.Xk.length:Int);let ac:=(j.Xh.length:Int);let ad:=(j.Xd.length:Int);.cc (cza j.Xl) λae=>.br (ae !=0) (.jq ae) (.cub 1 49 [1] [0] (.jI (ad>6) (.jI (ac>8) (.jI (aa>3) (.jI (ab>32) (.jI (j.Xp<0) (.oo (qv (j.Xp>65536)))))))) λaf=>.br af (.jq 3401) (.loop (ik 4 [1] [0]) (.exit 0) (jk [1] [0]) (λag=>.jF (ag<ac) (.gh ag j.Xh.length<|.cc (ezn (j.Xh.getD (ag.toNat) qu) 2097152) λah=>.br (!ah) (.ff 3401) (.nn (qt.wrap (ag+1)))) (.oo .u))
 0 [] λ_=>.loop (ik 5 [1] [0]) (.exit 2) (jk [1] [0]) (λag=>let ah:=j.Xj.getD (ag.toNat) qu;.jF (ag<aa) (.gh ag j.Xj.length<|.cub 0 94 [1,5] [0] (.jI ((ah.XB)<0) (.jI ((ah.XB)>=(j.Xl.Xg.Xc.length:Int)) (.cc (ezn (ah.XE) 2097152) λai=>.oo (!ai)))) λai=>.br ai (.ff 3401) (.nn (qt.wrap (ag+1)))) (.oo .u))
 0 [] λ_=>.loop (ik 7 [1] [0]) (.exit 4) (jk [1] [0]) (λag=>let ah:=j.Xk.getD (ag.toNat) qu;.jF (ag<ab) (.gh ag j.Xk.length<|.cub 0 139 [1,7] [0] (.jI ((ah.Xu)<0) (.jI ((ah.Xu)>=aa) (.jI ((ah.Place)<0) (.jI ((ah.Place)>=ac) (.cc (dzm j.Xl.Xg (ah.At)) λai=>.oo (!ai)))))) λai=>.br ai (.ff 3401) (.nn (qt.wrap (ag+1)))) (.oo .u))
 0 [] λ_=>.loop (λs (ag:B2)=>pk s [1] [0] [(9,pz ag.1),(10,pz ag.2)] []) (.exit 6) (ik 9 [] []) (λag=>let ah:=j.Xd.getD (X3 ag.2) qu;.jF (ag.2<ad) (.gh ag.2 j.Xd.length<|.cc (Gzp ah) λai=>.br (!ai) (.ff 3402) (.loop (ik 11 [1,9,10] [0]) (.exit 8) (jk [1,9,10] [0]) (λaj=>.jF (aj<ag.2) (.gh aj j.Xd.length<|.gh ag.2 j.Xd.length<|.br (((j.Xd.getD (aj.toNat) qu).XH)==(ah.XH)) (.ff (.fin 3402)) (.nn (qt.wrap (aj+1)))) (.oo .u))
 0 [] λ_=>.gh ag.2 j.Xd.length<|.name 34008 ((qt.wrap (ag.1+(ah.Xe.length:Int)))) λaj=>.nn (aj,(qt.wrap (ag.2+1))))) (.oo ag.1)) ((j.Xl.Xe.length:Int),0) [] λag=>.jF (ag>24) (.jq 3401) (.jq 0)))
def gzd:=
 mkp1 func49 mzm
def mzo (j:az2)(aa:azm):T Bool:=let ab:=(aa.Xf.length:Int);.cub 2 18 [2,3] [0,64] (.cc (gzd (⟨j.Xl,j.Xd,j.Xh,j.Xj,j.Xk,j.Xp⟩:az2)) λac=>.jG (ac !=0) (.oo (ab !=(j.Xd.length:Int)))) λac=>.br ac (.jq false) (.loop (ik 5 [2,3] [0,64]) (.exit 0) (jk [] []) (λad=>let ae:=aa.Xf.getD (ad.toNat) qu;.jF (ad<ab) (.cub 2 46 [2,3,5] [0,64] (.gh ad aa.Xf.length<|.jI (ae<(qt.wrap (0- (j.Xj.length:Int)))) (.gh ad aa.Xf.length<|.oo (qv (ae>=(j.Xh.length:Int))))) λaf=>.br af (.ff false) (.loop (ik 6 [2,3,5] [0,64]) (.exit 2) (jk [2,3,5] [0,64]) (λag=>.jF (ag<ad) (.gh ag aa.Xf.length<|.gh ad aa.Xf.length<|.br ((aa.Xf.getD (ag.toNat) qu)==ae) (.ff (.fin false)) (.nn (qt.wrap (ag+1)))) (.oo .u))
 0 [] λ_=>.nn (qt.wrap (ad+1)))) (.oo .u))
 0 [] λ_=>.jq true)
def dzi:=
 mkp2 func33 mzo
def izy (j:cz2):T Bool:=
 .jF (j.XG>=0) (.jF (j.XG<=1022) (.jF (j.XJ>=1) (.jF (j.XJ<=16) (.jF (j.Xi>=0) (.jF (j.Xi<=20) (.jF (j.XN>=0) (.jq (qv (j.XN<=8192))) (.jq false)) (.jq false)) (.jq false)) (.jq false)) (.jq false)) (.jq false)) (.jq false)
def nzj:=
 mkp1 func35 izy
def Az8 (j:azm)(aa:A4):T Bool:=
 .loop (ik 5 [1,2] [0]) (.exit 0) (jk [] []) (λab=>let ac:=aa.getD (ab.toNat) qu;.jF (ab<(aa.length:Int)) (.cub 1 28 [1,2,5] [0] (.gh ab aa.length<|.jH (ac !=(-1048576)) (.gh ab aa.length<|.gh ab j.Xf.length<|.oo (ac !=(j.Xf.getD (ab.toNat) qu)))) λad=>.br ad (.ff false) (.nn (qt.wrap (ab+1)))) (.oo .u))
 0 [] λ_=>.jq true
def Kz4:=
 mkp2 func66 Az8
def sza (j:az2)(aa:Int)(ab:Int):T Bool:=
 .loop (ik 7 [1,2,3] [0]) (.exit 0) (jk [] []) (λac=>let ad:=j.Xk.getD (ac.toNat) qu;.jF (ac<(j.Xk.length:Int)) (.cub 1 32 [1,2,3,7] [0] (.gh ac j.Xk.length<|.jH ((ad.Xu)==aa) (.gh ac j.Xk.length<|.oo ((ad.Place)==ab))) λae=>.br ae (.ff true) (.nn (qt.wrap (ac+1)))) (.oo .u))
 0 [] λ_=>.jq false
def Ez1:=
 mkp3 func100 sza
def pz0 (j:azm)(aa:Int):T Int:=
 .loop (ik 5 [1,2] [0]) (.exit 0) (jk [] []) (λab=>.jF (ab<(j.Xf.length:Int)) (.gh ab j.Xf.length<|.br ((j.Xf.getD (ab.toNat) qu)==aa) (.ff ab) (.nn (qt.wrap (ab+1)))) (.oo .u))
 0 [] λ_=>.jq (-1)
def fzj:=
 mkp2 func48 pz0
def Iz4 (j:az2)(aa:azm)(ab:aza):T Bool:=let ac:=(⟨aa.Xf⟩:azm);.cub 2 41 [4,5] [64,128] (.jI (ab.Xu<0) (.jI (ab.Xu>=(j.Xj.length:Int)) (.jI (ab.Place<0) (.jI (ab.Place>=(j.Xh.length:Int)) (.cc (Ez1 j ab.Xu ab.Place) λad=>.oo (!ad)))))) λad=>.br ad (.jq false) (.cc (fzj ac (qt.wrap ((-1)-ab.Xu))) λae=>let af:=qv (ae>=0);
 .cc (fzj ac ab.Place) λag=>let ah:=qv (ag>=0);
 .br (ab.Xo==1) (.br (!af) (.br ah (.jq true) (.br (ab.Xo==2) (.br af (.jq (!ah)) (.jq false)) (.jq false))) (.br (ab.Xo==2) (.br af (.jq (!ah)) (.jq false)) (.jq false))) (.br (ab.Xo==2) (.br af (.jq (!ah)) (.jq false)) (.jq false)))
def Az7:=
 mkp3 func47 Iz4
def sz5 (j:az2)(aa:azm):T A9:=
 .cc (dzi j aa) λab=>.br (!ab) (.jq nl) (.loop (λs (ac:Aa)=>pk s [2,3,5] [0,64] [(6,pz ac.2)] [(448,vO ac.1 62)]) (.exit 0) (λs (ac:A9)=>pk s [5] [] [] [(448,vO ac 62)]) (λac=>.jF (ac.2<=2) (.loop (λs (ad:Aa)=>pk s [2,3,5,6] [0,64] [(7,pz ad.2)] [(448,vO ad.1 62)]) (.exit 2) (λs (ad:A9)=>pk s [2,3,5,6] [0,64] [] [(448,vO ad 62)]) (λad=>.jF (ad.2<(j.Xj.length:Int)) (.loop (λs (ae:Aa)=>pk s [2,3,5,6,7] [0,64] [(8,pz ae.2)] [(448,vO ae.1 62)]) (.exit 4) (λs (ae:A9)=>pk s [2,3,5,6,7] [0,64] [] [(448,vO ae 62)]) (λae=>let af:=(⟨ac.2,ad.2,ae.2⟩:aza);let ag:=([af]:A9);let ah:=ae.1.length+ag.length;.jF (ae.2<(j.Xh.length:Int)) (.cut 0 (λs (ai:A9)=>pk s [2,3,6,7,8] [0,64] [(5,.vec 1664)] [(1664,vO ai 62)]) (.cc (Az7 (⟨j.Xl,j.Xd,j.Xh,j.Xj,j.Xk,j.Xp⟩:az2) (⟨aa.Xf⟩:azm) af) λai=>.br ai (.conv 15002 (kL ag 62)<|.conv 15003 (kA ae.1 ag 62)<|.grd (ah * 24<=140737488355328/\ah<=maxLen)<|.oo (ae.1++ag)) (.oo ae.1)) λai=>.nn (ai,(qt.wrap (ae.2+1)))) (.oo ae.1)) (ad.1,0) [] λae=>.nn (ae,(qt.wrap (ad.2+1)))) (.oo ad.1)) (ac.1,0) [] λad=>.nn (ad,(qt.wrap (ac.2+1)))) (.oo ac.1)) (nl,1) [] λac=>.jq ac)
def lz4:=
 mkp2 func67 sz5
def pz5 (j:azm)(aa:azm):T Bool:=let ab:=(j.Xf.length:Int);.br (ab !=(aa.Xf.length:Int)) (.jq false) (.loop (ik 5 [2,3] [0,64]) (.exit 0) (jk [] []) (λac=>.jF (ac<ab) (.gh ac j.Xf.length<|.gh ac aa.Xf.length<|.br ((j.Xf.getD (ac.toNat) qu) !=(aa.Xf.getD (ac.toNat) qu)) (.ff false) (.nn (qt.wrap (ac+1)))) (.oo .u))
 0 [] λ_=>.jq true)
def pz4:=
 mkp2 func69 pz5
def wz9 (j:Ab)(aa:azm)(ab:aza):T Bool:=
 .loop (ik 7 [0,4,5] [0,64]) (.exit 0) (jk [] []) (λac=>let ad:=j.getD (ac.toNat) qu;.jF (ac<(j.length:Int)) (.cub 1 29 [0,4,5,7] [0,64] (.gh ac j.length<|.jH (((ad.Xt.Xo)==ab.Xo)&&(((ad.Xt.Xu)==ab.Xu)&&(((ad.Xt.Place)==ab.Place)&&true))) (.gh ac j.length<|.cc (pz4 (ad.XS) aa) λae=>.oo ae)) λae=>.br ae (.ff true) (.nn (qt.wrap (ac+1)))) (.oo .u))
 0 [] λ_=>.jq false
def wz8:=
 mkp3 func68 wz9
def Az4 (j:az2)(aa:azm)(ab:aza):T (azm×Bool):=let ac:=qt.wrap ((-1)-ab.Xu);.cub 2 19 [4,5,6] [64,128,192,193] (.cc (dzi j aa) λad=>.jG (!ad) (.cc (Az7 j aa ab) λae=>.oo (!ae))) λad=>.br ad (.jq ((⟨nl⟩:azm),false)) (.grd (aa.Xf.length * 8<=140737488355328/\aa.Xf.length<=maxLen)<|.cut 0 (λs (ae:A4)=>pk s [6,8] [192,193,640] [] [(512,vO ae 3)]) (.br (ab.Xo==1) (.cc (fzj aa ab.Place) λae=>.gh ae aa.Xf.length<|.conv 5010 (kS aa.Xf 3 (ae.toNat) ac)<|.gi (ae) aa.Xf.length<|.oo (aa.Xf.set (ae.toNat) ac)) (.cc (fzj aa ac) λae=>.gh ae aa.Xf.length<|.conv 6010 (kS aa.Xf 3 (ae.toNat) ab.Place)<|.gi (ae) aa.Xf.length<|.oo (aa.Xf.set (ae.toNat) ab.Place))) λae=>.jq ((⟨ae⟩:azm),true))
def ezw:=
 mkq3 func18 Az4 (λr=>.tup [q r.1,q r.2])
def mzq (j:az2)(aa:azm)(ab:A4)(ac:Int)(ad:Ab):T (A9×Bool):=let ae:=([(⟨aa,(-1),(⟨0,0,0⟩:aza),0⟩:azy)]:Ay);.cub 2 41 [2,3,4,5,6] [0,64] (.cc (dzi j aa) λaf=>.jG (!af) (.jG ((ab.length:Int) !=(j.Xd.length:Int)) (.jI (ac<0) (.oo (qv (ac>16)))))) λaf=>.br af (.jq (nl,false)) (.conv 3002 (kL ae 165)<|.loop (λs (ag:(Ay×Int))=>pk s [2,3,4,5,12] [0] [(13,pz ag.2)] [(448,vO ag.1 165)]) (.exit 0) (jk [] []) (λag=>let ah:=(ag.2).toNat;let ai:=ag.1.getD ah qu;.jF (ag.2<(ag.1.length:Int)) (.cut 0 (λs (aj:Ay)=>pk s [2,3,4,5,12,13] [0] [] [(448,vO aj 165)]) (.gg ag.2 ag.1.length<|.cc (Kz4 (ai.mode) ab) λaj=>.br aj (.loop (λs (ak:Aa)=>pk s [12,14] [448] [(15,pz ak.2)] [(1408,vO ak.1 62)]) (.exit 2) (λs (ak:A9)=>pk s [14] [] [] [(1408,vO ak 62)]) (λak=>let al:=ag.1.getD (X3 ak.2) qu;let am:=([al.action]:A9);let an:=am.length+ak.1.length;.gg ak.2 ag.1.length<|.jF ((al.before)>=0) (.gg ak.2 ag.1.length<|.conv 12005 (kL am 62)<|.conv 12007 (kA am ak.1 62)<|.grd (an * 24<=140737488355328/\an<=maxLen)<|.gg ak.2 ag.1.length<|.nn ((am++ak.1),al.before)) (.oo ak.1)) (nl,ag.2) [] λak=>.ff (.fin (ak,true))) (.gg ag.2 ag.1.length<|.br ((ai.depth)==ac) (.oo ag.1) (.gg ag.2 ag.1.length<|.cc (lz4 j (ai.mode)) λak=>.loop (λs (al:(Ay×Int))=>pk s [2,3,4,5,12,13,16] [0] [(17,pz al.2)] [(448,vO al.1 165)]) (.exit 4) (λs (al:Ay)=>pk s [2,3,4,5,12,13] [0] [] [(448,vO al 165)]) (λal=>let am:=ak.getD (X3 al.2) qu;let an:=al.1.getD ah qu;.jF (al.2<(ak.length:Int)) (.cut 0 (λs (ao:Ay)=>pk s [2,3,4,5,12,13,16,17] [0] [] [(448,vO ao 165)]) (.gg ag.2 al.1.length<|.gh al.2 ak.length<|.cc (wz8 ad (an.mode) am) λao=>.br ao (.oo al.1) (.gg ag.2 al.1.length<|.gh al.2 ak.length<|.cc (ezw j (an.mode) am) λap=>.loop (λs (aq:(Bool×Int))=>pk s [2,3,4,5,12,13,16,17,18] [0,448,4352] [(20,q aq.1),(21,pz aq.2)] []) (.exit 6) (λs (aq:Bool)=>pk s [2,3,4,5,12,13,16,17,18] [0,448,4352] [(20,q aq)] []) (λaq=>.jF (aq.2<(al.1.length:Int)) (.cub 0 20 [2,3,4,5,12,13,16,17,18,21] [0,448,4352] (.jG aq.1 (.gg aq.2 al.1.length<|.cc (pz4 ((al.1.getD (X3 aq.2) qu).mode) ap.1) λar=>.oo ar)) λar=>.nn (ar,(qt.wrap (aq.2+1)))) (.oo aq.1)) (false,0) [] λaq=>.br (!aq) (.gh al.2 ak.length<|.gg ag.2 al.1.length<|.name 27012 ((qt.wrap ((an.depth)+1))) λar=>let au:=([(⟨ap.1,ag.2,am,ar⟩:azy)]:Ay);let av:=al.1.length+au.length;
 .conv 27014 (kL au 165)<|.conv 27015 (kA al.1 au 165)<|.grd (av * 64<=140737488355328/\av<=maxLen)<|.oo (al.1++au)) (.oo al.1))) λao=>.nn (ao,(qt.wrap (al.2+1)))) (.oo al.1)) (ag.1,0) [] λal=>.oo al))) λaj=>.nn (aj,(qt.wrap (ag.2+1)))) (.oo .u)) (ae,0) [] λ_=>.jq (nl,false))
def mzp:=
 mkq5 func36 mzq (λr=>.tup [q r.1,q r.2])
def sz4 (j:azh)(aa:Int)(ab:Bh):T azh:=
 .loop (λs (ac:Bj)=>pk s [3,5,6,7] [0,64,128,131,448] [(8,pz ac.2)] [(386,vO ac.1 89)]) (.exit 0) (λs (ac:Bi)=>pk s [6,7] [128,131,448] [] [(386,vO ac 89)]) (λac=>let ad:=j.Xb.getD (X3 ac.2) qu;let ae:=([((qt.wrap ((ad.1)+ab.1)),(qt.wrap ((ad.2.1)+ab.2.1)),(qt.wrap ((ad.2.2)+ab.2.2)))]:Bi);let af:=ac.1.length+ae.length;.jF (ac.2<(j.Xb.length:Int)) (.gh ac.2 j.Xb.length<|.z9<|.z9<|.ja<|.ja<|.jb<|.jb<|.conv 6018 (kL ae 89)<|.conv 6019 (kA ac.1 ae 89)<|.grd (af * 24<=140737488355328/\af<=maxLen)<|.nn ((ac.1++ae),(qt.wrap (ac.2+1)))) (.oo ac.1)) (nl,0) [] λac=>.jq (⟨aa,j.XF,ac⟩:azh)
def Ez0:=
 mkp3 func50 sz4
def sz1 (j:az2)(aa:azm):T (az7×Int):=
 .cc (gzd j) λab=>.br (ab !=0) (.jq ((⟨(⟨nl,nl⟩:azj),nl,nl⟩:az7),ab)) (.cc (dzi j aa) λac=>.br (!ac) (.jq ((⟨(⟨nl,nl⟩:azj),nl,nl⟩:az7),3403)) (.grd (j.Xl.Xe.length * 40<=140737488355328/\j.Xl.Xe.length<=maxLen)<|.loop (λs (ad:Ac)=>pk s [2,3,4,7] [0,64,128,129,130,131,132,1536] [(8,pz ad.2)] [(1216,vO ad.1 91)]) (.exit 0) (λs (ad:A2)=>pk s [4,7] [128,129,130,131,132,1536] [] [(1216,vO ad 91)]) (λad=>let ae:=(ad.2).toNat;let af:=aa.Xf.getD ae qu;let ag:=qt.wrap ((-1)-af);let ah:=j.Xj.getD (ag.toNat) qu;let ai:=j.Xh.getD (af.toNat) qu;let aj:=j.Xd.getD ae qu;.jF (ad.2<(j.Xd.length:Int)) (.cut 2 (λs (ak:Bx)=>pk s [2,3,4,7,8,10] [0,64,128,129,130,131,132,1216,1536] [(9,pz ak.1)] [(2176,.box [pz ak.2.1,pz ak.2.2.1,pz ak.2.2.2])]) (.gh ad.2 aa.Xf.length<|.jF (af>=0) (.gh af j.Xh.length<|.oo ((-1),ai.1,ai.2.1,ai.2.2)) (.gh ag j.Xj.length<|.gh ag j.Xj.length<|.oo (ah.XB,ah.XE.1,ah.XE.2.1,ah.XE.2.2))) λak=>.loop (λs (al:Ac)=>pk s [2,3,4,7,8,9,10] [0,64,128,129,130,131,132,1536,2176] [(12,pz al.2)] [(1216,vO al.1 91)]) (.exit 2) (λs (al:A2)=>pk s [2,3,4,7,8] [0,64,128,129,130,131,132,1536] [] [(1216,vO al 91)]) (λal=>.gh ad.2 j.Xd.length<|.jF (al.2<(aj.Xe.length:Int)) (.gh ad.2 j.Xd.length<|.gh al.2 (aj.Xe.length)<|.call (Ez0 ((aj.Xe).getD (X3 al.2) qu) ak.1 (ak.2.1,ak.2.2.1,ak.2.2.2)) [] λam=>let an:=([am]:A2);let ao:=al.1.length+an.length;
 .conv 18014 (kL an 91)<|.conv 18015 (kA al.1 an 91)<|.grd (ao * 40<=140737488355328/\ao<=maxLen)<|.nn ((al.1++an),(qt.wrap (al.2+1)))) (.oo al.1)) (ad.1,0) [] λal=>.nn (al,(qt.wrap (ad.2+1)))) (.oo ad.1)) (j.Xl.Xe,0) [] λad=>.jq ((⟨j.Xl.Xg,ad,j.Xl.Xr⟩:az7),0)))
def fza:=
 mkq2 func19 sz1 (λr=>.tup [q r.1,pz r.2])
def zzf (j:A4):T Bool:=
 .loop (ik 3 [0] []) (.exit 0) (jk [] []) (λaa=>let ab:=j.getD (aa.toNat) qu;.jF (aa<(j.length:Int)) (.cub 1 21 [0,3] [] (.gh aa j.length<|.jI (ab<(-2147483648)) (.gh aa j.length<|.oo (qv (ab>2147483648)))) λac=>.br ac (.ff false) (.nn (qt.wrap (aa+1)))) (.oo .u))
 0 [] λ_=>.jq true
def izb:=
 mkp1 func61 zzf
def Hzr (j:A4):T Ae:=
 .cc (izb j) λaa=>.br (!aa) (.jq nl) (.loop (λs (ab:Af)=>pk s [0,3] [] [(4,pz ab.2)] [(256,vO ab.1 95)]) (.exit 0) (λs (ab:Ae)=>pk s [3] [] [] [(256,vO ab 95)]) (λab=>let ac:=j.getD (X3 ab.2) qu;let ad:=([(⟨ac,ac⟩:az0)]:Ae);let ae:=ab.1.length+ad.length;.jF (ab.2<(j.length:Int)) (.gh ab.2 j.length<|.gh ab.2 j.length<|.conv 7010 (kL ad 95)<|.conv 7011 (kA ab.1 ad 95)<|.grd (ae * 16<=140737488355328/\ae<=maxLen)<|.nn ((ab.1++ad),(qt.wrap (ab.2+1)))) (.oo ab.1)) (nl,0) [] λab=>.jq ab)
def Hzq:=
 mkp1 func23 Hzr
def Dzq (j:az0):T Bool:=
 .jF ((-2147483648)<=j.Lo) (.jF (j.Lo<=j.Hi) (.jq (qv (j.Hi<=2147483648))) (.jq false)) (.jq false)
def dz7:=
 mkp1 func177 Dzq
def ozr (j:Ae):T Bool:=
 .loop (ik 3 [0] []) (.exit 0) (jk [] []) (λaa=>.jF (aa<(j.length:Int)) (.gh aa j.length<|.cc (dz7 (j.getD (aa.toNat) qu)) λab=>.br (!ab) (.ff false) (.nn (qt.wrap (aa+1)))) (.oo .u))
 0 [] λ_=>.jq true
def Bz8:=
 mkp1 func111 ozr
def zz6 (j:azj)(aa:Ae):T Bool:=
 .br ((aa.length:Int)==(j.Xc.length:Int)) (.cc (Bz8 aa) λab=>.jq ab) (.jq false)
def qz1:=
 mkp2 func57 zz6
def az0z (j:Int):T Int:=
 .jq (max (-2147483648) (min j 2147483648))
def uz3:=
 mkp1 func239 az0z
def azbj (j:Int):T az0:=
 .cc (uz3 j) λaa=>.cc (uz3 j) λab=>.jq (⟨aa,ab⟩:az0)
def nzv:=
 mkp1 func183 azbj
def ref1_Unit_T:T Bp:=
 .cc (nzv 65536) λj=>.jq ((j,(⟨0,0⟩:az0),(⟨0,0⟩:az0)),((⟨0,0⟩:az0),j,(⟨0,0⟩:az0)),((⟨0,0⟩:az0),(⟨0,0⟩:az0),j))
def ref1_Unit_C:CallS Bp:=
 mkD func114 (ref1_Unit_T) 0 [] [] (λr=>q r) X6
def ref1_Rest_T:T bz4:=
 .cc (ref1_Unit_C) λj=>.jq (⟨j,((⟨0,0⟩:az0),(⟨0,0⟩:az0),(⟨0,0⟩:az0))⟩:bz4)
def ref1_Rest_C:CallS bz4:=
 mkD func59 (ref1_Rest_T) 0 [] [] (λr=>q r) X6
def Mz6 (j:Int):T Int:=
 .ok ((65536:Int)≠0) jr<|.ok ((65536:Int)≠0) jr<|.jq ((qt.wrap ((j.tmod 65536)+65536)).tmod 65536)
def Fz5:=
 mkp1 func370 Mz6
def Dzk (j:Int)(aa:Int):T Int:=let ab:=qt.wrap (j.tdiv aa);.grd (aa≠0)<|.cut 0 (λs (ac:Int)=>pk s [] [] [(5,pz ac)] []) (.grd (aa≠0)<|.jF ((j.tmod aa)<0) (.oo (qt.wrap (ab-1))) (.oo ab)) λac=>.jq ac
def bz9:=
 mkp2 func52 Dzk
def Hzx (j:Int)(aa:Int):T Int:=let ab:=qt.wrap (j.tdiv aa);.grd (aa≠0)<|.cut 0 (λs (ac:Int)=>pk s [] [] [(5,pz ac)] []) (.grd (aa≠0)<|.jF ((j.tmod aa)>0) (.oo (qt.wrap (ab+1))) (.oo ab)) λac=>.jq ac
def bz1:=
 mkp2 func103 Hzx
def zzy (j:Int):T (Cc×Cc):=
 .cc (bz9 (qt.wrap (j * 6746518852)) 65536) λaa=>.jc<|.cc (bz1 (qt.wrap (j * 6746518853)) 65536) λab=>.jc<|.unroll 10<|.jn<|.lit 7002 1<|.jc<|.jc<|.cc (bz9 (qt.wrap (aa * aa)) 1073741824) λac=>.jd<|.lit 8002 1<|.jc<|.jc<|.cc (bz1 (qt.wrap (ab * ab)) 1073741824) λad=>.jd<|.lit 6001 3<|.jn<|.lit 7002 2<|.jd<|.jc<|.cc (bz9 (qt.wrap (ac * aa)) 1073741824) λae=>.je<|.lit 8002 2<|.jd<|.jc<|.cc (bz1 (qt.wrap (ad * ab)) 1073741824) λaf=>.je<|.lit 6001 4<|.jn<|.lit 7002 3<|.je<|.jc<|.cc (bz9 (qt.wrap (ae * aa)) 1073741824) λag=>.jf<|.lit 8002 3<|.je<|.jc<|.cc (bz1 (qt.wrap (af * ab)) 1073741824) λah=>.jf<|.lit 6001 5<|.jn<|.lit 7002 4<|.jf<|.jc<|.cc (bz9 (qt.wrap (ag * aa)) 1073741824) λai=>.jg<|.lit 8002 4<|.jf<|.jc<|.cc (bz1 (qt.wrap (ah * ab)) 1073741824) λaj=>.jg<|.lit 6001 6<|.jn<|.lit 7002 5<|.jg<|.jc<|.cc (bz9 (qt.wrap (ai * aa)) 1073741824) λak=>.jh<|.lit 8002 5<|.jg<|.jc<|.cc (bz1 (qt.wrap (aj * ab)) 1073741824) λal=>.jh<|.lit 6001 7<|.jn<|.lit 7002 6<|.jh<|.jc<|.cc (bz9 (qt.wrap (ak * aa)) 1073741824) λam=>.ji<|.lit 8002 6<|.jh<|.jc<|.cc (bz1 (qt.wrap (al * ab)) 1073741824) λan=>.ji<|.lit 6001 8<|.jn<|.lit 7002 7<|.ji<|.jc<|.cc (bz9 (qt.wrap (am * aa)) 1073741824) λao=>.jm<|.lit 8002 7<|.ji<|.jc<|.cc (bz1 (qt.wrap (an * ab)) 1073741824) λap=>.jm<|.lit 6001 9<|.jn<|.lit 7002 8<|.jm<|.jc<|.cc (bz9 (qt.wrap (ao * aa)) 1073741824) λaq=>.ix 9 11 rfl<|.lit 8002 8<|.jm<|.jc<|.cc (bz1 (qt.wrap (ap * ab)) 1073741824) λar=>.ix 9 11 rfl<|.lit 6001 10<|.jn<|.lit 7002 9<|.ix 9 11 rfl<|.jc<|.cc (bz9 (qt.wrap (aq * aa)) 1073741824) λau=>.ix 10 11 rfl<|.lit 8002 9<|.ix 9 11 rfl<|.jc<|.cc (bz1 (qt.wrap (ar * ab)) 1073741824) λav=>.ix 10 11 rfl<|.lit 6001 11<|.jp<|.jq ((0,aa,ac,ae,ag,ai,ak,am,ao,aq,au),(0,ab,ad,af,ah,aj,al,an,ap,ar,av))
def zzx:=
 mkq1 func480 zzy (λr=>.tup [.pure (jz6 r.1),.pure (jz6 r.2)])
def ozv (j:Int)(aa:Int):T az0:=
 .cc (bz9 j 16384) λab=>.cc (bz1 aa 16384) λac=>.jq (⟨(max 0 ab),(min 65536 ac)⟩:az0)
def ozu:=
 mkp2 func481 ozv
def Iz3 (j:Int):T az0:=
 .cc (zzx j) λaa=>.jc<|.je<|.cc (bz1 aa.2.2.2.2.1 6) λab=>.jg<|.cc (bz9 aa.1.2.2.2.2.2.1 120) λac=>.ji<|.cc (bz1 aa.2.2.2.2.2.2.2.2.1 5040) λad=>.jc<|.je<|.cc (bz9 aa.1.2.2.2.1 6) λae=>.jg<|.cc (bz1 aa.2.2.2.2.2.2.1 120) λaf=>.ji<|.cc (bz9 aa.1.2.2.2.2.2.2.2.1 5040) λag=>.ix 9 11 rfl<|.cc (bz1 aa.2.2.2.2.2.2.2.2.2.2.1 362880) λah=>.call (ozu (qt.wrap ((qt.wrap ((qt.wrap (aa.1.2.1-ab))+ac))-ad)) (qt.wrap ((qt.wrap ((qt.wrap ((qt.wrap (aa.2.2.1-ae))+af))-ag))+ah))) [] λai=>.jq ai
def Sz0:=
 mkp1 func427 Iz3
open Go.Proofs
def zzw (j:Int):T az0:=
 .cc (zzx j) λaa=>.jd<|.cc (bz1 aa.2.2.2.1 2) λab=>.jf<|.cc (bz9 aa.1.2.2.2.2.1 24) λac=>.jh<|.cc (bz1 aa.2.2.2.2.2.2.2.1 720) λad=>.jm<|.cc (bz9 aa.1.2.2.2.2.2.2.2.2.1 40320) λae=>.ix 10 11 rfl<|.cc (bz1 aa.2.2.2.2.2.2.2.2.2.2.2 3628800) λaf=>.name 2019 ((qt.wrap ((qt.wrap ((qt.wrap ((qt.wrap ((qt.wrap (1073741824-ab))+ac))-ad))+ae))-af))) λag=>.jd<|.cc (bz9 aa.1.2.2.1 2) λah=>.jf<|.cc (bz1 aa.2.2.2.2.2.1 24) λai=>.jh<|.cc (bz9 aa.1.2.2.2.2.2.2.1 720) λaj=>.jm<|.cc (bz1 aa.2.2.2.2.2.2.2.2.2.1 40320) λak=>.call (ozu ag (qt.wrap ((qt.wrap ((qt.wrap ((qt.wrap (1073741824-ah))+ai))-aj))+ak))) [] λal=>.jq al
def Kz1:=
 mkp1 func428 zzw
def vzs (j:Int):T az0:=
 .jF (j<=8192) (.cc (Sz0 j) λaa=>.jq aa) (.cc (Kz1 (qt.wrap (16384-j))) λaa=>.jq aa)
def izw:=
 mkp1 func371 vzs
def Mz9 (j:az0):T az0:=
 .cc (dz7 j) λaa=>.br (!aa) (.jq (⟨0,0⟩:az0)) (.jq (⟨(qt.wrap (0-j.Hi)),(qt.wrap (0-j.Lo))⟩:az0))
def Fz6:=
 mkp1 func276 Mz9
def Mza (j:Int):T az0:=
 .cc (Fz5 j) λaa=>let ab:=aa.tmod 16384;let ac:=qt.wrap (aa.tdiv 16384);let ad:=qt.wrap (16384-ab);
 .ok ((16384:Int)≠0) jr<|.ok ((16384:Int)≠0) jr<|.br (ac==0) (.cc (izw ab) λae=>.jq ae) (.br (ac==1) (.cc (izw ad) λae=>.jq ae) (.br (ac==2) (.cc (izw ab) λae=>.cc (Fz6 ae) λaf=>.jq af) (.cc (izw ad) λae=>.cc (Fz6 ae) λaf=>.jq af)))
def Fz7:=
 mkp1 func327 Mza
def Mz4 (j:Int):T az0:=
 .cc (Fz5 j) λaa=>.cc (Fz7 (qt.wrap (aa+16384))) λab=>.jq ab
def Mz3:=
 mkp1 func326 Mz4
def Hzy (j:az0)(aa:az0):T az0:=
 .cub 2 12 [2,3,4] [0,64,128] (.cc (dz7 j) λab=>.jG (!ab) (.cc (dz7 aa) λac=>.oo (!ac))) λab=>.br ab (.jq (⟨0,0⟩:az0)) (.jq (⟨(min j.Lo aa.Lo),(max j.Hi aa.Hi)⟩:az0))
def zzu:=
 mkp2 func368 Hzy
def Dzs (j:az0)(aa:Int):T Bool:=
 .cc (Fz5 (qt.wrap (aa-j.Lo))) λab=>.jq (qv ((qt.wrap (j.Lo+ab))<=j.Hi))
def Dzr:=
 mkp2 func369 Dzs
def Iz2 (j:az0)(aa:az0)(ab:az0)(ac:Int)(ad:Int):T az0:=
 .cc (dz7 j) λae=>.br (!ae) (.jq (⟨0,0⟩:az0)) (.jF ((qt.wrap (j.Hi-j.Lo))>=65536) (.jq (⟨(-65536),65536⟩:az0)) (.cc (zzu aa ab) λaf=>.cut 0 (λs (ag:B2)=>pk s [4,5,10,11] [0,192] [] [(1024,.box [pz ag.1,pz ag.2])]) (.cc (Dzr j ac) λag=>.br ag (.cc (nzv 65536) λah=>.cc (zzu af ah) λai=>.oo (ai.Lo,ai.Hi)) (.oo (af.Lo,af.Hi))) λag=>.cut 0 (λs (ah:B2)=>pk s [10,11] [192] [] [(1024,.box [pz ah.1,pz ah.2])]) (.cc (Dzr j ad) λah=>.br ah (.cc (nzv (-65536)) λai=>.cc (zzu (⟨ag.1,ag.2⟩:az0) ai) λaj=>.oo (aj.Lo,aj.Hi)) (.oo (ag.1,ag.2))) λah=>.jq (⟨ah.1,ah.2⟩:az0)))
def Iz1:=
 mkp5 func325 Iz2
def vzr (j:az0):T az0:=
 .cc (Mz3 j.Lo) λaa=>.cc (Mz3 j.Hi) λab=>.cc (Iz1 j (⟨aa.Lo,aa.Hi⟩:az0) (⟨ab.Lo,ab.Hi⟩:az0) 0 32768) λac=>.jq ac
def Gzk:=
 mkp1 func274 vzr
def vzt (j:az0):T az0:=
 .cc (Fz7 j.Lo) λaa=>.cc (Fz7 j.Hi) λab=>.cc (Iz1 j aa ab 16384 49152) λac=>.jq ac
def Gzl:=
 mkp1 func275 vzt
def Iz0 (j:Int)(aa:az0):T Bp:=let ab:=(⟨aa.Lo,aa.Hi⟩:az0);.cc (dz7 aa) λac=>.br (!ac) (.jq (((⟨0,0⟩:az0),(⟨0,0⟩:az0),(⟨0,0⟩:az0)),((⟨0,0⟩:az0),(⟨0,0⟩:az0),(⟨0,0⟩:az0)),((⟨0,0⟩:az0),(⟨0,0⟩:az0),(⟨0,0⟩:az0)))) (.cc (nzv 65536) λad=>.cc (Gzk ab) λae=>.cc (Gzl ab) λaf=>.cc (Fz6 af) λag=>.br (j==0) (.jq ((ad,(⟨0,0⟩:az0),(⟨0,0⟩:az0)),((⟨0,0⟩:az0),ae,ag),((⟨0,0⟩:az0),af,ae))) (.br (j==1) (.jq ((ae,(⟨0,0⟩:az0),af),((⟨0,0⟩:az0),ad,(⟨0,0⟩:az0)),(ag,(⟨0,0⟩:az0),ae))) (.br (j==2) (.jq ((ae,ag,(⟨0,0⟩:az0)),(af,ae,(⟨0,0⟩:az0)),((⟨0,0⟩:az0),(⟨0,0⟩:az0),ad))) (.jq (((⟨0,0⟩:az0),(⟨0,0⟩:az0),(⟨0,0⟩:az0)),((⟨0,0⟩:az0),(⟨0,0⟩:az0),(⟨0,0⟩:az0)),((⟨0,0⟩:az0),(⟨0,0⟩:az0),(⟨0,0⟩:az0)))))))
def Rzx:=
 mkp2 func236 Iz0
def rzt (j:Int)(aa:az0):T bz4:=
 .cc (Rzx j (⟨aa.Lo,aa.Hi⟩:az0)) λab=>.jq (⟨ab,((⟨0,0⟩:az0),(⟨0,0⟩:az0),(⟨0,0⟩:az0))⟩:bz4)
def Dzp:=
 mkp2 func178 rzt
def Dzn (j:Bm):T bz4:=
 .cc (ref1_Unit_C) λaa=>.jq (⟨aa,j⟩:bz4)
def Dzm:=
 mkp1 func179 Dzn
def Dzl (j:Bh):T Bm:=
 .z9<|.cc (nzv j.1) λaa=>.ja<|.cc (nzv j.2.1) λab=>.jb<|.cc (nzv j.2.2) λac=>.jq (aa,ab,ac)
def uz4:=
 mkp1 func117 Dzl
def Uz2 (j:Int)(aa:Int):T az0:=
 .cc (uz3 j) λab=>.cc (uz3 aa) λac=>.jq (⟨ab,ac⟩:az0)
def vzu:=
 mkp2 func277 Uz2
def Mz8 (j:az0)(aa:az0):T az0:=let ab:=qt.wrap (j.Lo * aa.Lo);let ac:=qt.wrap (j.Lo * aa.Hi);let ad:=qt.wrap (j.Hi * aa.Lo);let ae:=qt.wrap (j.Hi * aa.Hi);.cub 2 16 [2,3,4] [0,64,128] (.cc (dz7 (⟨j.Lo,j.Hi⟩:az0)) λaf=>.jG (!af) (.cc (dz7 (⟨aa.Lo,aa.Hi⟩:az0)) λag=>.oo (!ag))) λaf=>.br af (.jq (⟨0,0⟩:az0)) (.name 4004 ((min (min (min ab ac) ad) ae)) λag=>.cc (bz9 ag 65536) λah=>.name 4010 ((max (max (max ab ac) ad) ae)) λai=>.cc (bz1 ai 65536) λaj=>.cc (vzu ah aj) λak=>.jq ak)
def bz0:=
 mkp2 func238 Mz8
def Mz0 (j:az0)(aa:az0):T az0:=
 .cub 2 12 [2,3,4] [0,64,128] (.cc (dz7 j) λab=>.jG (!ab) (.cc (dz7 aa) λac=>.oo (!ac))) λab=>.br ab (.jq (⟨0,0⟩:az0)) (.cc (vzu (qt.wrap (j.Lo+aa.Lo)) (qt.wrap (j.Hi+aa.Hi))) λac=>.jq ac)
def bzl:=
 mkp2 func237 Mz0
def mzj (j:Bp)(aa:Bp):T Bp:=
 .unroll 4<|.jn<|.unroll 4<|.jn<|.z9<|.z9<|.z9<|.z9<|.cc (bz0 j.1.1 aa.1.1) λab=>.z9<|.ja<|.ja<|.z9<|.cc (bz0 j.1.2.1 aa.2.1.1) λac=>.cc (bzl ab ac) λad=>.z9<|.jb<|.jb<|.z9<|.cc (bz0 j.1.2.2 aa.2.2.1) λae=>.cc (bzl ad ae) λaf=>.z9<|.z9<|.lit 7001 1<|.jn<|.z9<|.z9<|.z9<|.ja<|.cc (bz0 j.1.1 aa.1.2.1) λag=>.z9<|.ja<|.ja<|.ja<|.cc (bz0 j.1.2.1 aa.2.1.2.1) λah=>.cc (bzl ag ah) λai=>.z9<|.jb<|.jb<|.ja<|.cc (bz0 j.1.2.2 aa.2.2.2.1) λaj=>.cc (bzl ai aj) λak=>.z9<|.ja<|.lit 7001 2<|.jn<|.z9<|.z9<|.z9<|.jb<|.cc (bz0 j.1.1 aa.1.2.2) λal=>.z9<|.ja<|.ja<|.jb<|.cc (bz0 j.1.2.1 aa.2.1.2.2) λam=>.cc (bzl al am) λan=>.z9<|.jb<|.jb<|.jb<|.cc (bz0 j.1.2.2 aa.2.2.2.2) λao=>.cc (bzl an ao) λap=>.z9<|.jb<|.lit 7001 3<|.jp<|.lit 4001 1<|.jn<|.unroll 4<|.jn<|.ja<|.z9<|.z9<|.z9<|.cc (bz0 j.2.1.1 aa.1.1) λaq=>.ja<|.ja<|.ja<|.z9<|.cc (bz0 j.2.1.2.1 aa.2.1.1) λar=>.cc (bzl aq ar) λau=>.ja<|.jb<|.jb<|.z9<|.cc (bz0 j.2.1.2.2 aa.2.2.1) λav=>.cc (bzl au av) λaw=>.ja<|.z9<|.lit 7001 1<|.jn<|.ja<|.z9<|.z9<|.ja<|.cc (bz0 j.2.1.1 aa.1.2.1) λax=>.ja<|.ja<|.ja<|.ja<|.cc (bz0 j.2.1.2.1 aa.2.1.2.1) λay=>.cc (bzl ax ay) λaz=>.ja<|.jb<|.jb<|.ja<|.cc (bz0 j.2.1.2.2 aa.2.2.2.1) λa0=>.cc (bzl az a0) λa1=>.ja<|.ja<|.lit 7001 2<|.jn<|.ja<|.z9<|.z9<|.jb<|.cc (bz0 j.2.1.1 aa.1.2.2) λa2=>.ja<|.ja<|.ja<|.jb<|.cc (bz0 j.2.1.2.1 aa.2.1.2.2) λa3=>.cc (bzl a2 a3) λa4=>.ja<|.jb<|.jb<|.jb<|.cc (bz0 j.2.1.2.2 aa.2.2.2.2) λa5=>.cc (bzl a4 a5) λa6=>.ja<|.jb<|.lit 7001 3<|.jp<|.lit 4001 2<|.jn<|.unroll 4<|.jn<|.jb<|.z9<|.z9<|.z9<|.cc (bz0 j.2.2.1 aa.1.1) λa7=>.jb<|.ja<|.ja<|.z9<|.cc (bz0 j.2.2.2.1 aa.2.1.1) λa8=>.cc (bzl a7 a8) λa9=>.jb<|.jb<|.jb<|.z9<|.cc (bz0 j.2.2.2.2 aa.2.2.1) λba=>.cc (bzl a9 ba) λbb=>.jb<|.z9<|.lit 7001 1<|.jn<|.jb<|.z9<|.z9<|.ja<|.cc (bz0 j.2.2.1 aa.1.2.1) λbc=>.jb<|.ja<|.ja<|.ja<|.cc (bz0 j.2.2.2.1 aa.2.1.2.1) λbd=>.cc (bzl bc bd) λbe=>.jb<|.jb<|.jb<|.ja<|.cc (bz0 j.2.2.2.2 aa.2.2.2.1) λbf=>.cc (bzl be bf) λbg=>.jb<|.ja<|.lit 7001 2<|.jn<|.jb<|.z9<|.z9<|.jb<|.cc (bz0 j.2.2.1 aa.1.2.2) λbh=>.jb<|.ja<|.ja<|.jb<|.cc (bz0 j.2.2.2.1 aa.2.1.2.2) λbi=>.cc (bzl bh bi) λbj=>.jb<|.jb<|.jb<|.jb<|.cc (bz0 j.2.2.2.2 aa.2.2.2.2) λbk=>.cc (bzl bj bk) λbl=>.jb<|.jb<|.lit 7001 3<|.jp<|.lit 4001 3<|.jp<|.jq (((⟨(max (-65536) (min af.Lo 65536)),(max (-65536) (min af.Hi 65536))⟩:az0),(⟨(max (-65536) (min ak.Lo 65536)),(max (-65536) (min ak.Hi 65536))⟩:az0),(⟨(max (-65536) (min ap.Lo 65536)),(max (-65536) (min ap.Hi 65536))⟩:az0)),((⟨(max (-65536) (min aw.Lo 65536)),(max (-65536) (min aw.Hi 65536))⟩:az0),(⟨(max (-65536) (min a1.Lo 65536)),(max (-65536) (min a1.Hi 65536))⟩:az0),(⟨(max (-65536) (min a6.Lo 65536)),(max (-65536) (min a6.Hi 65536))⟩:az0)),((⟨(max (-65536) (min bb.Lo 65536)),(max (-65536) (min bb.Hi 65536))⟩:az0),(⟨(max (-65536) (min bg.Lo 65536)),(max (-65536) (min bg.Hi 65536))⟩:az0),(⟨(max (-65536) (min bl.Lo 65536)),(max (-65536) (min bl.Hi 65536))⟩:az0)))
def xze:=
 mkp2 func180 mzj
def rzr (j:Bp)(aa:Bm):T Bm:=
 .unroll 4<|.jn<|.z9<|.z9<|.z9<|.cc (bz0 j.1.1 aa.1) λab=>.z9<|.ja<|.ja<|.cc (bz0 j.1.2.1 aa.2.1) λac=>.cc (bzl ab ac) λad=>.z9<|.jb<|.jb<|.cc (bz0 j.1.2.2 aa.2.2) λae=>.cc (bzl ad ae) λaf=>.z9<|.lit 4001 1<|.jn<|.ja<|.z9<|.z9<|.cc (bz0 j.2.1.1 aa.1) λag=>.ja<|.ja<|.ja<|.cc (bz0 j.2.1.2.1 aa.2.1) λah=>.cc (bzl ag ah) λai=>.ja<|.jb<|.jb<|.cc (bz0 j.2.1.2.2 aa.2.2) λaj=>.cc (bzl ai aj) λak=>.ja<|.lit 4001 2<|.jn<|.jb<|.z9<|.z9<|.cc (bz0 j.2.2.1 aa.1) λal=>.jb<|.ja<|.ja<|.cc (bz0 j.2.2.2.1 aa.2.1) λam=>.cc (bzl al am) λan=>.jb<|.jb<|.jb<|.cc (bz0 j.2.2.2.2 aa.2.2) λao=>.cc (bzl an ao) λap=>.jb<|.lit 4001 3<|.jp<|.jq (af,ak,ap)
def rzq:=
 mkp2 func182 rzr
def zzt (j:Bm)(aa:Bm):T Bm:=
 .z9<|.z9<|.cc (bzl j.1 aa.1) λab=>.ja<|.ja<|.cc (bzl j.2.1 aa.2.1) λac=>.jb<|.jb<|.cc (bzl j.2.2 aa.2.2) λad=>.jq (ab,ac,ad)
def zzs:=
 mkp2 func181 zzt
def vzq (j:bz4)(aa:bz4):T bz4:=
 .cc (xze j.R aa.R) λab=>.cc (rzq j.R aa.T) λac=>.cc (zzs j.T (ac.1,ac.2.1,ac.2.2)) λad=>.jq (⟨(ab.1,ab.2.1,ab.2.2),ad⟩:bz4)
def vzp:=
 mkp2 func113 vzq
def zz8 (j:azu)(aa:az0):T bz4:=let ab:=qt.wrap (j.Xo-4);.cc (ref1_Rest_C) λac=>.cut 0 (λs (ad:Ce)=>pk s [2,4,5] [0,128] [] [(256,.box [pz ad.1,pz ad.2.1,pz ad.2.2.1,pz ad.2.2.2.1,pz ad.2.2.2.2.1,pz ad.2.2.2.2.2.1,pz ad.2.2.2.2.2.2.1,pz ad.2.2.2.2.2.2.2.1,pz ad.2.2.2.2.2.2.2.2.1,pz ad.2.2.2.2.2.2.2.2.2.1,pz ad.2.2.2.2.2.2.2.2.2.2.1,pz ad.2.2.2.2.2.2.2.2.2.2.2.1,pz ad.2.2.2.2.2.2.2.2.2.2.2.2.1,pz ad.2.2.2.2.2.2.2.2.2.2.2.2.2.1,pz ad.2.2.2.2.2.2.2.2.2.2.2.2.2.2.1,pz ad.2.2.2.2.2.2.2.2.2.2.2.2.2.2.2.1,pz ad.2.2.2.2.2.2.2.2.2.2.2.2.2.2.2.2.1,pz ad.2.2.2.2.2.2.2.2.2.2.2.2.2.2.2.2.2.1,pz ad.2.2.2.2.2.2.2.2.2.2.2.2.2.2.2.2.2.2.1,pz ad.2.2.2.2.2.2.2.2.2.2.2.2.2.2.2.2.2.2.2.1,pz ad.2.2.2.2.2.2.2.2.2.2.2.2.2.2.2.2.2.2.2.2.1,pz ad.2.2.2.2.2.2.2.2.2.2.2.2.2.2.2.2.2.2.2.2.2.1,pz ad.2.2.2.2.2.2.2.2.2.2.2.2.2.2.2.2.2.2.2.2.2.2.1,pz ad.2.2.2.2.2.2.2.2.2.2.2.2.2.2.2.2.2.2.2.2.2.2.2])]) (.cub 1 10 [2,3,4,5,9] [0,64,128,256] (.br (j.Xo==1) (.oo (j.Xo==1)) (.br (j.Xo==2) (.oo (j.Xo==2)) (.oo (j.Xo==3)))) λad=>.br ad (.cc (Dzp (qt.wrap (j.Xo-1)) (⟨aa.Lo,aa.Hi⟩:az0)) λae=>.oo (ae.R.1.1.Lo,ae.R.1.1.Hi,ae.R.1.2.1.Lo,ae.R.1.2.1.Hi,ae.R.1.2.2.Lo,ae.R.1.2.2.Hi,ae.R.2.1.1.Lo,ae.R.2.1.1.Hi,ae.R.2.1.2.1.Lo,ae.R.2.1.2.1.Hi,ae.R.2.1.2.2.Lo,ae.R.2.1.2.2.Hi,ae.R.2.2.1.Lo,ae.R.2.2.1.Hi,ae.R.2.2.2.1.Lo,ae.R.2.2.2.1.Hi,ae.R.2.2.2.2.Lo,ae.R.2.2.2.2.Hi,ae.T.1.Lo,ae.T.1.Hi,ae.T.2.1.Lo,ae.T.2.1.Hi,ae.T.2.2.Lo,ae.T.2.2.Hi)) (.cub 0 19 [2,3,4,5] [0,64,128,256] (.br (j.Xo==4) (.oo (j.Xo==4)) (.br (j.Xo==5) (.oo (j.Xo==5)) (.oo (j.Xo==6)))) λae=>.br ae (.cut 1 (λs (af:C3)=>pk s [2,4,5,6] [0,128,256] [] [(640,.box [pz af.1,pz af.2.1,pz af.2.2.1,pz af.2.2.2.1,pz af.2.2.2.2.1,pz af.2.2.2.2.2])]) (.cas 11002 ab 0 (.z9<|.oo (aa.Lo,aa.Hi,0,0,0,0)) (.cas 11002 ab 1 (.ja<|.oo (0,0,aa.Lo,aa.Hi,0,0)) (.cas 11002 ab 2 (.jb<|.oo (0,0,0,0,aa.Lo,aa.Hi)) (.stop)))) λaf=>.cc (Dzm ((⟨af.1,af.2.1⟩:az0),(⟨af.2.2.1,af.2.2.2.1⟩:az0),(⟨af.2.2.2.2.1,af.2.2.2.2.2⟩:az0))) λag=>.oo (ag.R.1.1.Lo,ag.R.1.1.Hi,ag.R.1.2.1.Lo,ag.R.1.2.1.Hi,ag.R.1.2.2.Lo,ag.R.1.2.2.Hi,ag.R.2.1.1.Lo,ag.R.2.1.1.Hi,ag.R.2.1.2.1.Lo,ag.R.2.1.2.1.Hi,ag.R.2.1.2.2.Lo,ag.R.2.1.2.2.Hi,ag.R.2.2.1.Lo,ag.R.2.2.1.Hi,ag.R.2.2.2.1.Lo,ag.R.2.2.2.1.Hi,ag.R.2.2.2.2.Lo,ag.R.2.2.2.2.Hi,ag.T.1.Lo,ag.T.1.Hi,ag.T.2.1.Lo,ag.T.2.1.Hi,ag.T.2.2.Lo,ag.T.2.2.Hi)) (.oo (ac.R.1.1.Lo,ac.R.1.1.Hi,ac.R.1.2.1.Lo,ac.R.1.2.1.Hi,ac.R.1.2.2.Lo,ac.R.1.2.2.Hi,ac.R.2.1.1.Lo,ac.R.2.1.1.Hi,ac.R.2.1.2.1.Lo,ac.R.2.1.2.1.Hi,ac.R.2.1.2.2.Lo,ac.R.2.1.2.2.Hi,ac.R.2.2.1.Lo,ac.R.2.2.1.Hi,ac.R.2.2.2.1.Lo,ac.R.2.2.2.1.Hi,ac.R.2.2.2.2.Lo,ac.R.2.2.2.2.Hi,ac.T.1.Lo,ac.T.1.Hi,ac.T.2.1.Lo,ac.T.2.1.Hi,ac.T.2.2.Lo,ac.T.2.2.Hi)))) λad=>.cc (uz4 j.XE) λae=>.cc (Dzm ae) λaf=>.cc (vzp (⟨af.R,af.T⟩:bz4) (⟨(((⟨ad.1,ad.2.1⟩:az0),(⟨ad.2.2.1,ad.2.2.2.1⟩:az0),(⟨ad.2.2.2.2.1,ad.2.2.2.2.2.1⟩:az0)),((⟨ad.2.2.2.2.2.2.1,ad.2.2.2.2.2.2.2.1⟩:az0),(⟨ad.2.2.2.2.2.2.2.2.1,ad.2.2.2.2.2.2.2.2.2.1⟩:az0),(⟨ad.2.2.2.2.2.2.2.2.2.2.1,ad.2.2.2.2.2.2.2.2.2.2.2.1⟩:az0)),((⟨ad.2.2.2.2.2.2.2.2.2.2.2.2.1,ad.2.2.2.2.2.2.2.2.2.2.2.2.2.1⟩:az0),(⟨ad.2.2.2.2.2.2.2.2.2.2.2.2.2.2.1,ad.2.2.2.2.2.2.2.2.2.2.2.2.2.2.2.1⟩:az0),(⟨ad.2.2.2.2.2.2.2.2.2.2.2.2.2.2.2.2.1,ad.2.2.2.2.2.2.2.2.2.2.2.2.2.2.2.2.2.1⟩:az0))),((⟨ad.2.2.2.2.2.2.2.2.2.2.2.2.2.2.2.2.2.2.1,ad.2.2.2.2.2.2.2.2.2.2.2.2.2.2.2.2.2.2.2.1⟩:az0),(⟨ad.2.2.2.2.2.2.2.2.2.2.2.2.2.2.2.2.2.2.2.2.1,ad.2.2.2.2.2.2.2.2.2.2.2.2.2.2.2.2.2.2.2.2.2.1⟩:az0),(⟨ad.2.2.2.2.2.2.2.2.2.2.2.2.2.2.2.2.2.2.2.2.2.2.1,ad.2.2.2.2.2.2.2.2.2.2.2.2.2.2.2.2.2.2.2.2.2.2.2⟩:az0))⟩:bz4)) λag=>.jq ag
def Jzm:=
 mkp2 func112 zz8
def zzb (j:azj)(aa:Ae):T Ag:=let ab:=(⟨j.Xc,j.Xv⟩:azj);.cub 2 16 [1,2] [0] (.cc (cz9 ab) λac=>.jG (ac !=0) (.cc (qz1 ab aa) λad=>.oo (!ad))) λac=>.br ac (.jq nl) (.loop (λs (ad:(Ag×Int))=>pk s [1,2,5] [0] [(6,pz ad.2)] [(192,vO ad.1 151)]) (.exit 0) (λs (ad:Ag)=>pk s [5] [] [] [(192,vO ad 151)]) (λad=>let ae:=(ad.2).toNat;let af:=j.Xc.getD ae qu;let ag:=af.XD;.jF (ad.2<(aa.length:Int)) (.gh ad.2 j.Xc.length<|.gh ad.2 aa.length<|.cc (Jzm af (aa.getD ae qu)) λah=>.cut 0 (λs (ai:Ce)=>pk s [1,2,5,6,7] [0,192] [] [(1280,.box [pz ai.1,pz ai.2.1,pz ai.2.2.1,pz ai.2.2.2.1,pz ai.2.2.2.2.1,pz ai.2.2.2.2.2.1,pz ai.2.2.2.2.2.2.1,pz ai.2.2.2.2.2.2.2.1,pz ai.2.2.2.2.2.2.2.2.1,pz ai.2.2.2.2.2.2.2.2.2.1,pz ai.2.2.2.2.2.2.2.2.2.2.1,pz ai.2.2.2.2.2.2.2.2.2.2.2.1,pz ai.2.2.2.2.2.2.2.2.2.2.2.2.1,pz ai.2.2.2.2.2.2.2.2.2.2.2.2.2.1,pz ai.2.2.2.2.2.2.2.2.2.2.2.2.2.2.1,pz ai.2.2.2.2.2.2.2.2.2.2.2.2.2.2.2.1,pz ai.2.2.2.2.2.2.2.2.2.2.2.2.2.2.2.2.1,pz ai.2.2.2.2.2.2.2.2.2.2.2.2.2.2.2.2.2.1,pz ai.2.2.2.2.2.2.2.2.2.2.2.2.2.2.2.2.2.2.1,pz ai.2.2.2.2.2.2.2.2.2.2.2.2.2.2.2.2.2.2.2.1,pz ai.2.2.2.2.2.2.2.2.2.2.2.2.2.2.2.2.2.2.2.2.1,pz ai.2.2.2.2.2.2.2.2.2.2.2.2.2.2.2.2.2.2.2.2.2.1,pz ai.2.2.2.2.2.2.2.2.2.2.2.2.2.2.2.2.2.2.2.2.2.2.1,pz ai.2.2.2.2.2.2.2.2.2.2.2.2.2.2.2.2.2.2.2.2.2.2.2])]) (.gh ad.2 j.Xc.length<|.br (ag !=(-1)) (.gh ad.2 j.Xc.length<|.gg ag ad.1.length<|.call (vzp (ad.1.getD (ag.toNat) qu) ah) [] λai=>.oo (ai.R.1.1.Lo,ai.R.1.1.Hi,ai.R.1.2.1.Lo,ai.R.1.2.1.Hi,ai.R.1.2.2.Lo,ai.R.1.2.2.Hi,ai.R.2.1.1.Lo,ai.R.2.1.1.Hi,ai.R.2.1.2.1.Lo,ai.R.2.1.2.1.Hi,ai.R.2.1.2.2.Lo,ai.R.2.1.2.2.Hi,ai.R.2.2.1.Lo,ai.R.2.2.1.Hi,ai.R.2.2.2.1.Lo,ai.R.2.2.2.1.Hi,ai.R.2.2.2.2.Lo,ai.R.2.2.2.2.Hi,ai.T.1.Lo,ai.T.1.Hi,ai.T.2.1.Lo,ai.T.2.1.Hi,ai.T.2.2.Lo,ai.T.2.2.Hi)) (.oo (ah.R.1.1.Lo,ah.R.1.1.Hi,ah.R.1.2.1.Lo,ah.R.1.2.1.Hi,ah.R.1.2.2.Lo,ah.R.1.2.2.Hi,ah.R.2.1.1.Lo,ah.R.2.1.1.Hi,ah.R.2.1.2.1.Lo,ah.R.2.1.2.1.Hi,ah.R.2.1.2.2.Lo,ah.R.2.1.2.2.Hi,ah.R.2.2.1.Lo,ah.R.2.2.1.Hi,ah.R.2.2.2.1.Lo,ah.R.2.2.2.1.Hi,ah.R.2.2.2.2.Lo,ah.R.2.2.2.2.Hi,ah.T.1.Lo,ah.T.1.Hi,ah.T.2.1.Lo,ah.T.2.1.Hi,ah.T.2.2.Lo,ah.T.2.2.Hi))) λai=>let aj:=([(⟨(((⟨ai.1,ai.2.1⟩:az0),(⟨ai.2.2.1,ai.2.2.2.1⟩:az0),(⟨ai.2.2.2.2.1,ai.2.2.2.2.2.1⟩:az0)),((⟨ai.2.2.2.2.2.2.1,ai.2.2.2.2.2.2.2.1⟩:az0),(⟨ai.2.2.2.2.2.2.2.2.1,ai.2.2.2.2.2.2.2.2.2.1⟩:az0),(⟨ai.2.2.2.2.2.2.2.2.2.2.1,ai.2.2.2.2.2.2.2.2.2.2.2.1⟩:az0)),((⟨ai.2.2.2.2.2.2.2.2.2.2.2.2.1,ai.2.2.2.2.2.2.2.2.2.2.2.2.2.1⟩:az0),(⟨ai.2.2.2.2.2.2.2.2.2.2.2.2.2.2.1,ai.2.2.2.2.2.2.2.2.2.2.2.2.2.2.2.1⟩:az0),(⟨ai.2.2.2.2.2.2.2.2.2.2.2.2.2.2.2.2.1,ai.2.2.2.2.2.2.2.2.2.2.2.2.2.2.2.2.2.1⟩:az0))),((⟨ai.2.2.2.2.2.2.2.2.2.2.2.2.2.2.2.2.2.2.1,ai.2.2.2.2.2.2.2.2.2.2.2.2.2.2.2.2.2.2.2.1⟩:az0),(⟨ai.2.2.2.2.2.2.2.2.2.2.2.2.2.2.2.2.2.2.2.2.1,ai.2.2.2.2.2.2.2.2.2.2.2.2.2.2.2.2.2.2.2.2.2.1⟩:az0),(⟨ai.2.2.2.2.2.2.2.2.2.2.2.2.2.2.2.2.2.2.2.2.2.2.1,ai.2.2.2.2.2.2.2.2.2.2.2.2.2.2.2.2.2.2.2.2.2.2.2⟩:az0))⟩:bz4)]:Ag);let ak:=ad.1.length+aj.length;
 .conv 10002 (kL aj 151)<|.conv 10003 (kA ad.1 aj 151)<|.grd (ak * 192<=140737488355328/\ak<=maxLen)<|.nn ((ad.1++aj),(qt.wrap (ad.2+1)))) (.oo ad.1)) (nl,0) [] λad=>.jq ad)
def zza:=
 mkp2 func58 zzb
def Dzj (j:bz4)(aa:Bm):T Bm:=
 .cc (rzq j.R aa) λab=>.cc (zzs j.T ab) λac=>.jq ac
def Dzi:=
 mkp2 func116 Dzj
def wz4 (j:az2)(aa:Int)(ab:Int)(ac:A4):T Bool:=let ad:=qt.wrap (65536-j.Xp);let ae:=qt.wrap (0-j.Xp);let af:=j.Xj.getD (aa.toNat) qu;let ag:=j.Xh.getD (ab.toNat) qu;.cub 2 47 [1,2,3,4] [0] (.cc (gzd j) λah=>.jG (ah !=0) (.jI (aa<0) (.jI (aa>=(j.Xj.length:Int)) (.jI (ab<0) (.jI (ab>=(j.Xh.length:Int)) (.cc (dzm j.Xl.Xg ac) λai=>.oo (!ai))))))) λah=>.br ah (.jq false) (.gh aa j.Xj.length<|.cc (Hzq ac) λai=>.cc (zza j.Xl.Xg ai) λaj=>let ak:=aj.getD (X3 af.XB) qu;let al:=ak.R.1.2.1.Lo;let am:=ak.R.1.2.2.Lo;let an:=ak.R.2.1.1.Lo;let ao:=ak.R.2.2.1.Lo;let ap:=ak.R.2.1.2.1.Lo;let aq:=ak.R.2.1.2.2.Lo;let ar:=ak.R.2.2.2.1.Lo;let au:=ak.R.2.2.2.2.Lo;let av:=qv ((ak.R.1.1.Lo)<ad);let aw:=qv (al<ae);let ax:=qv (am<ae);let ay:=qv (an<ae);let az:=qv (ap<ad);let a0:=qv (aq<ae);let a1:=qv (ao<ae);let a2:=qv (ar<ae);let a3:=qv (au<ad);let a4:=qv ((ak.R.1.2.1.Hi)>j.Xp);let a5:=qv ((ak.R.1.2.2.Hi)>j.Xp);let a6:=qv ((ak.R.2.1.1.Hi)>j.Xp);let a7:=qv ((ak.R.2.1.2.2.Hi)>j.Xp);let a8:=qv ((ak.R.2.2.1.Hi)>j.Xp);let a9:=qv ((ak.R.2.2.2.1.Hi)>j.Xp);
 .gh (af.XB) aj.length<|.cc (uz4 (af.XE)) λba=>.call (Dzi ak ba) [] λbb=>.unroll 4<|.jn<|.unroll 4<|.jn<|.z9<|.z9<|.cut 0 (λs (bc:Bool)=>pk s [2,4,10,11,12,13] [0,1280,1728,2624] [(86,X7 2624),(87,pz (ak.R.1.1.Lo)),(88,.ptr 0 8),(89,pz j.Xp),(90,pz ad),(91,q av),(98,.tup []),(99,.tup []),(100,.tup []),(101,.tup []),(102,.tup []),(103,.tup []),(104,.tup []),(105,.tup []),(106,.tup []),(107,.tup []),(108,.tup []),(109,.tup []),(110,.tup []),(112,q bc)] []) (.jn<|.jG av (.jp<|.oo false)) λbc=>.br bc (.jq false) (.lit 11001 1<|.jn<|.z9<|.ja<|.cut 0 (λs (bd:C0)=>pk s [2,4,10,11,12,13] [0,1280,1728,3520] [(86,.tup []),(87,.tup []),(88,.tup []),(89,.tup []),(90,.tup []),(91,.tup []),(94,pz 0),(95,pz 1),(96,q (0 !=1)),(97,.tt),(98,X7 3520),(99,pz al),(100,.ptr 0 8),(101,pz j.Xp),(102,pz ae),(103,q aw),(104,q bd.1),(110,q bd.2.1),(111,q bd.2.2.1),(112,q bd.2.2.2)] []) (.jp<|.jn<|.br aw (.oo (true,true,true,true)) (.oo (false,a4,a4,a4))) λbd=>.br bd.2.2.2 (.jq false) (.lit 11001 2<|.jn<|.z9<|.jb<|.cut 0 (λs (be:C0)=>pk s [2,4,10,11,12,13,86,87,88,89,90,91,94,97,100,101,102] [0,1280,1728,4416] [(95,pz 2),(96,q (0 !=2)),(98,X7 4416),(99,pz am),(103,q ax),(104,q be.1),(110,q be.2.1),(111,q be.2.2.1),(112,q be.2.2.2)] []) (.jp<|.jn<|.br ax (.oo (true,true,true,true)) (.oo (false,a5,a5,a5))) λbe=>.br be.2.2.2 (.jq false) (.lit 11001 3<|.jp<|.cub 0 144 [2,4,10,11,12,86,87,88,89,90,91,94,95,96,97,98,99,100,101,102,103,104,110,111] [0,1280,1728,4416] (.z9<|.gh ab j.Xh.length<|.z9<|.jI (bb.1.Lo<(qt.wrap ((ag.1)-j.Xp))) (.z9<|.gh ab j.Xh.length<|.z9<|.oo (qv (bb.1.Hi>(qt.wrap ((ag.1)+j.Xp)))))) λbf=>.br bf (.jq false) (.lit 8001 1<|.jn<|.unroll 4<|.jn<|.ja<|.z9<|.cut 0 (λs (bg:C0)=>pk s [2,4,10,11,12,13,86,87,88,89,90,91,97,100,101,102] [0,1280,1728,5888] [(94,pz 1),(95,pz 0),(96,q (1 !=0)),(98,X7 5888),(99,pz an),(103,q ay),(104,q bg.1),(110,q bg.2.1),(111,q bg.2.2.1),(112,q bg.2.2.2)] []) (.jp<|.jn<|.br ay (.oo (true,true,true,true)) (.oo (false,a6,a6,a6))) λbg=>.br bg.2.2.2 (.jq false) (.lit 11001 1<|.jn<|.ja<|.ja<|.cut 0 (λs (bh:Bool)=>pk s [2,4,10,11,12,13] [0,1280,1728,6784] [(86,X7 6784),(87,pz ap),(88,.ptr 0 8),(89,pz j.Xp),(90,pz ad),(91,q az),(98,.tup []),(99,.tup []),(100,.tup []),(101,.tup []),(102,.tup []),(103,.tup []),(104,.tup []),(105,.tup []),(106,.tup []),(107,.tup []),(108,.tup []),(109,.tup []),(110,.tup []),(112,q bh)] []) (.jn<|.jG az (.jp<|.oo false)) λbh=>.br bh (.jq false) (.lit 11001 2<|.jn<|.ja<|.jb<|.cut 0 (λs (bi:C0)=>pk s [2,4,10,11,12,13] [0,1280,1728,7680] [(86,.tup []),(87,.tup []),(88,.tup []),(89,.tup []),(90,.tup []),(91,.tup []),(94,pz 1),(95,pz 2),(96,q (1 !=2)),(97,.tt),(98,X7 7680),(99,pz aq),(100,.ptr 0 8),(101,pz j.Xp),(102,pz ae),(103,q a0),(104,q bi.1),(110,q bi.2.1),(111,q bi.2.2.1),(112,q bi.2.2.2)] []) (.jp<|.jn<|.br a0 (.oo (true,true,true,true)) (.oo (false,a7,a7,a7))) λbi=>.br bi.2.2.2 (.jq false) (.lit 11001 3<|.jp<|.cub 0 144 [2,4,10,11,12,86,87,88,89,90,91,94,95,96,97,98,99,100,101,102,103,104,110,111] [0,1280,1728,7680] (.ja<|.gh ab j.Xh.length<|.ja<|.jI (bb.2.1.Lo<(qt.wrap ((ag.2.1)-j.Xp))) (.ja<|.gh ab j.Xh.length<|.ja<|.oo (qv (bb.2.1.Hi>(qt.wrap ((ag.2.1)+j.Xp)))))) λbj=>.br bj (.jq false) (.lit 8001 2<|.jn<|.unroll 4<|.jn<|.jb<|.z9<|.cut 0 (λs (bk:C0)=>pk s [2,4,10,11,12,13,86,87,88,89,90,91,97,100,101,102] [0,1280,1728,9152] [(94,pz 2),(95,pz 0),(96,q (2 !=0)),(98,X7 9152),(99,pz ao),(103,q a1),(104,q bk.1),(110,q bk.2.1),(111,q bk.2.2.1),(112,q bk.2.2.2)] []) (.jp<|.jn<|.br a1 (.oo (true,true,true,true)) (.oo (false,a8,a8,a8))) λbk=>.br bk.2.2.2 (.jq false) (.lit 11001 1<|.jn<|.jb<|.ja<|.cut 0 (λs (bl:C0)=>pk s [2,4,10,11,12,13,86,87,88,89,90,91,94,97,100,101,102] [0,1280,1728,10048] [(95,pz 1),(96,q (2 !=1)),(98,X7 10048),(99,pz ar),(103,q a2),(104,q bl.1),(110,q bl.2.1),(111,q bl.2.2.1),(112,q bl.2.2.2)] []) (.jp<|.jn<|.br a2 (.oo (true,true,true,true)) (.oo (false,a9,a9,a9))) λbl=>.br bl.2.2.2 (.jq false) (.lit 11001 2<|.jn<|.jb<|.jb<|.cut 0 (λs (bm:Bool)=>pk s [2,4,10,11,12,13] [0,1280,1728,10944] [(86,X7 10944),(87,pz au),(88,.ptr 0 8),(89,pz j.Xp),(90,pz ad),(91,q a3),(98,.tup []),(99,.tup []),(100,.tup []),(101,.tup []),(102,.tup []),(103,.tup []),(104,.tup []),(105,.tup []),(106,.tup []),(107,.tup []),(108,.tup []),(109,.tup []),(110,.tup []),(112,q bm)] []) (.jn<|.jG a3 (.jp<|.oo false)) λbm=>.br bm (.jq false) (.lit 11001 3<|.jp<|.cub 0 144 [2,4,10,11,12,86,87,88,89,90,91,98,99,100,101,102,103,104,105,106,107,108,109,110] [0,1280,1728,10944] (.jb<|.gh ab j.Xh.length<|.jb<|.jI (bb.2.2.Lo<(qt.wrap ((ag.2.2)-j.Xp))) (.jb<|.gh ab j.Xh.length<|.jb<|.oo (qv (bb.2.2.Hi>(qt.wrap ((ag.2.2)+j.Xp)))))) λbn=>.br bn (.jq false) (.lit 8001 3<|.jp<|.jq true)))))))))))))
def izx:=
 mkp4 func72 wz4
def zze (j:azh)(aa:bz4):T Bn:=
 .cc (kzv j) λab=>.br (!ab) (.jq nl) (.loop (λs (ac:(Bn×Int))=>pk s [2,3,5] [0,64] [(6,pz ac.2)] [(384,vO ac.1 97)]) (.exit 0) (λs (ac:Bn)=>pk s [5] [] [] [(384,vO ac 97)]) (λac=>.jF (ac.2<(j.Xb.length:Int)) (.gh ac.2 j.Xb.length<|.cc (uz4 (j.Xb.getD (X3 ac.2) qu)) λad=>.cc (Dzi aa ad) λae=>let af:=([ae]:Bn);let ag:=ac.1.length+af.length;
 .conv 7009 (kL af 97)<|.conv 7010 (kA ac.1 af 97)<|.grd (ag * 48<=140737488355328/\ag<=maxLen)<|.nn ((ac.1++af),(qt.wrap (ac.2+1)))) (.oo ac.1)) (nl,0) [] λac=>.jq ac)
def Jzp:=
 mkp2 func60 zze
def vza (j:az7)(aa:Ae):T Bo:=
 .cub 2 18 [1,2] [0] (.cc (cza j) λab=>.jG (ab !=0) (.cc (qz1 j.Xg aa) λac=>.oo (!ac))) λab=>.br ab (.jq nl) (.cc (zza j.Xg aa) λac=>.loop (λs (ad:(Bo×Int))=>pk s [2,5,6] [0] [(7,pz ad.2)] [(512,vO ad.1 98)]) (.exit 0) (λs (ad:Bo)=>pk s [6] [] [] [(512,vO ad 98)]) (λad=>let ae:=j.Xe.getD (X3 ad.2) qu;let af:=ae.XB;let ag:=ac.getD (af.toNat) qu;.jF (ad.2<(j.Xe.length:Int)) (.cc (ref1_Rest_C) λah=>.cut 0 (λs (ai:Ce)=>pk s [2,5,6,7,8] [0,512] [] [(1088,.box [pz ai.1,pz ai.2.1,pz ai.2.2.1,pz ai.2.2.2.1,pz ai.2.2.2.2.1,pz ai.2.2.2.2.2.1,pz ai.2.2.2.2.2.2.1,pz ai.2.2.2.2.2.2.2.1,pz ai.2.2.2.2.2.2.2.2.1,pz ai.2.2.2.2.2.2.2.2.2.1,pz ai.2.2.2.2.2.2.2.2.2.2.1,pz ai.2.2.2.2.2.2.2.2.2.2.2.1,pz ai.2.2.2.2.2.2.2.2.2.2.2.2.1,pz ai.2.2.2.2.2.2.2.2.2.2.2.2.2.1,pz ai.2.2.2.2.2.2.2.2.2.2.2.2.2.2.1,pz ai.2.2.2.2.2.2.2.2.2.2.2.2.2.2.2.1,pz ai.2.2.2.2.2.2.2.2.2.2.2.2.2.2.2.2.1,pz ai.2.2.2.2.2.2.2.2.2.2.2.2.2.2.2.2.2.1,pz ai.2.2.2.2.2.2.2.2.2.2.2.2.2.2.2.2.2.2.1,pz ai.2.2.2.2.2.2.2.2.2.2.2.2.2.2.2.2.2.2.2.1,pz ai.2.2.2.2.2.2.2.2.2.2.2.2.2.2.2.2.2.2.2.2.1,pz ai.2.2.2.2.2.2.2.2.2.2.2.2.2.2.2.2.2.2.2.2.2.1,pz ai.2.2.2.2.2.2.2.2.2.2.2.2.2.2.2.2.2.2.2.2.2.2.1,pz ai.2.2.2.2.2.2.2.2.2.2.2.2.2.2.2.2.2.2.2.2.2.2.2])]) (.gh ad.2 j.Xe.length<|.br (af !=(-1)) (.gh ad.2 j.Xe.length<|.gh af ac.length<|.oo (ag.R.1.1.Lo,ag.R.1.1.Hi,ag.R.1.2.1.Lo,ag.R.1.2.1.Hi,ag.R.1.2.2.Lo,ag.R.1.2.2.Hi,ag.R.2.1.1.Lo,ag.R.2.1.1.Hi,ag.R.2.1.2.1.Lo,ag.R.2.1.2.1.Hi,ag.R.2.1.2.2.Lo,ag.R.2.1.2.2.Hi,ag.R.2.2.1.Lo,ag.R.2.2.1.Hi,ag.R.2.2.2.1.Lo,ag.R.2.2.2.1.Hi,ag.R.2.2.2.2.Lo,ag.R.2.2.2.2.Hi,ag.T.1.Lo,ag.T.1.Hi,ag.T.2.1.Lo,ag.T.2.1.Hi,ag.T.2.2.Lo,ag.T.2.2.Hi)) (.oo (ah.R.1.1.Lo,ah.R.1.1.Hi,ah.R.1.2.1.Lo,ah.R.1.2.1.Hi,ah.R.1.2.2.Lo,ah.R.1.2.2.Hi,ah.R.2.1.1.Lo,ah.R.2.1.1.Hi,ah.R.2.1.2.1.Lo,ah.R.2.1.2.1.Hi,ah.R.2.1.2.2.Lo,ah.R.2.1.2.2.Hi,ah.R.2.2.1.Lo,ah.R.2.2.1.Hi,ah.R.2.2.2.1.Lo,ah.R.2.2.2.1.Hi,ah.R.2.2.2.2.Lo,ah.R.2.2.2.2.Hi,ah.T.1.Lo,ah.T.1.Hi,ah.T.2.1.Lo,ah.T.2.1.Hi,ah.T.2.2.Lo,ah.T.2.2.Hi))) λai=>.gh ad.2 j.Xe.length<|.cc (Jzp ae (⟨(((⟨ai.1,ai.2.1⟩:az0),(⟨ai.2.2.1,ai.2.2.2.1⟩:az0),(⟨ai.2.2.2.2.1,ai.2.2.2.2.2.1⟩:az0)),((⟨ai.2.2.2.2.2.2.1,ai.2.2.2.2.2.2.2.1⟩:az0),(⟨ai.2.2.2.2.2.2.2.2.1,ai.2.2.2.2.2.2.2.2.2.1⟩:az0),(⟨ai.2.2.2.2.2.2.2.2.2.2.1,ai.2.2.2.2.2.2.2.2.2.2.2.1⟩:az0)),((⟨ai.2.2.2.2.2.2.2.2.2.2.2.2.1,ai.2.2.2.2.2.2.2.2.2.2.2.2.2.1⟩:az0),(⟨ai.2.2.2.2.2.2.2.2.2.2.2.2.2.2.1,ai.2.2.2.2.2.2.2.2.2.2.2.2.2.2.2.1⟩:az0),(⟨ai.2.2.2.2.2.2.2.2.2.2.2.2.2.2.2.2.1,ai.2.2.2.2.2.2.2.2.2.2.2.2.2.2.2.2.2.1⟩:az0))),((⟨ai.2.2.2.2.2.2.2.2.2.2.2.2.2.2.2.2.2.2.1,ai.2.2.2.2.2.2.2.2.2.2.2.2.2.2.2.2.2.2.2.1⟩:az0),(⟨ai.2.2.2.2.2.2.2.2.2.2.2.2.2.2.2.2.2.2.2.2.1,ai.2.2.2.2.2.2.2.2.2.2.2.2.2.2.2.2.2.2.2.2.2.1⟩:az0),(⟨ai.2.2.2.2.2.2.2.2.2.2.2.2.2.2.2.2.2.2.2.2.2.2.1,ai.2.2.2.2.2.2.2.2.2.2.2.2.2.2.2.2.2.2.2.2.2.2.2⟩:az0))⟩:bz4)) λaj=>let ak:=([aj]:Bo);let al:=ad.1.length+ak.length;
 .conv 11008 (kL ak 98)<|.conv 11009 (kA ad.1 ak 98)<|.grd (al * 24<=140737488355328/\al<=maxLen)<|.nn ((ad.1++ak),(qt.wrap (ad.2+1)))) (.oo ad.1)) (nl,0) [] λad=>.jq ad)
def Gzg:=
 mkp2 func22 vza
def Ez2 (j:azj)(aa:Int):T A4:=
 .cub 2 15 [1,2] [0] (.cc (cz9 j) λab=>.jG (ab !=0) (.cc (ezx j aa) λac=>.oo (!ac))) λab=>.br ab (.jq nl) (.loop (λs (ac:Ah)=>pk s [2,5] [0] [(6,pz ac.2)] [(192,vO ac.1 3)]) (.exit 0) (λs (ac:A4)=>pk s [5] [] [] [(192,vO ac 3)]) (λac=>let ad:=([ac.2]:A4);let ae:=ad.length+ac.1.length;.br (ac.2 !=(-1)) (.conv 7001 (kL ad 3)<|.conv 7003 (kA ad ac.1 3)<|.grd (ae * 8<=140737488355328/\ae<=maxLen)<|.gh ac.2 j.Xc.length<|.nn ((ad++ac.1),(j.Xc.getD (X3 ac.2) qu).XD)) (.oo ac.1)) (nl,aa) [] λac=>.jq ac)
def uz7:=
 mkp2 func321 Ez2
def Azb (j:A4)(aa:Int):T Bool:=
 .loop (ik 5 [0,1] []) (.exit 0) (jk [] []) (λab=>.jF (ab<(j.length:Int)) (.gh ab j.length<|.br ((j.getD (ab.toNat) qu)==aa) (.ff true) (.nn (qt.wrap (ab+1)))) (.oo .u))
 0 [] λ_=>.jq false
def Aza:=
 mkp2 func322 Azb
def wza (j:azj)(aa:Int)(ab:Int):T A4:=
 .cub 2 25 [1,2,3] [0] (.cc (cz9 j) λac=>.jG (ac !=0) (.cc (ezx j aa) λad=>.jG (!ad) (.cc (ezx j ab) λae=>.oo (!ae)))) λac=>.br ac (.jq nl) (.cc (uz7 j aa) λad=>.cc (uz7 j ab) λae=>.loop (λs (af:Ah)=>pk s [3,7,8,9] [0] [(10,pz af.2)] [(704,vO af.1 3)]) (.exit 0) (λs (af:A4)=>pk s [9] [] [] [(704,vO af 3)]) (λaf=>let ag:=([af.2]:A4);let ah:=af.1.length+ag.length;.jF (af.2<(j.Xc.length:Int)) (.cut 0 (λs (ai:A4)=>pk s [3,7,8,10] [0] [(9,.vec 1216)] [(1216,vO ai 3)]) (.cc (Aza ad af.2) λai=>.cc (Aza ae af.2) λaj=>.br (!(ai==aj)) (.conv 9002 (kL ag 3)<|.conv 9003 (kA af.1 ag 3)<|.grd (ah * 8<=140737488355328/\ah<=maxLen)<|.oo (af.1++ag)) (.oo af.1)) λai=>.nn (ai,(qt.wrap (af.2+1)))) (.oo af.1)) (nl,0) [] λaf=>.jq af)
def Gzq:=
 mkp3 func271 wza
def Ez4 (j:azj)(aa:Int)(ab:Int):T Bool:=
 .cub 2 23 [1,2,3] [0] (.cc (cz9 j) λac=>.jG (ac !=0) (.cc (ezx j aa) λad=>.jG (!ad) (.cc (ezx j ab) λae=>.oo (!ae)))) λac=>.br ac (.jq false) (.cc (Gzq (⟨j.Xc,j.Xv⟩:azj) aa ab) λad=>.loop (ik 8 [3,7] [0]) (.exit 0) (jk [] []) (λae=>let af:=ad.getD (ae.toNat) qu;let ag:=j.Xc.getD (af.toNat) qu;.jF (ae<(ad.length:Int)) (.gh ae ad.length<|.gh af j.Xc.length<|.gh ae ad.length<|.gh af j.Xc.length<|.jF ((ag.Lo)<(ag.Hi)) (.ff false) (.nn (qt.wrap (ae+1)))) (.oo .u))
 0 [] λ_=>.jq true)
def Nzo:=
 mkp3 func225 Ez4
def wzb (j:az7)(aa:Int)(ab:Int):T Bool:=
 .loop (ik 7 [1,2,3] [0]) (.exit 0) (jk [] []) (λac=>let ad:=j.Xr.getD (ac.toNat) qu;.jF (ac<(j.Xr.length:Int)) (.gh ac j.Xr.length<|.cub 0 42 [1,2,3,7] [0] (.br ((ad.A)==aa) (.jG ((ad.B)==ab) (.jH ((ad.A)==ab) (.oo ((ad.B)==aa)))) (.jH ((ad.A)==ab) (.oo ((ad.B)==aa)))) λae=>.br ae (.ff true) (.nn (qt.wrap (ac+1)))) (.oo .u))
 0 [] λ_=>.jq false
def Gzr:=
 mkp3 func226 wzb
def Ez3 (j:az7):T Ai:=let aa:=(j.Xe.length:Int);.cc (cza j) λab=>.br (ab !=0) (.jq nl) (.loop (λs (ac:Aj)=>pk s [1,3] [0] [(4,pz ac.2)] [(320,vO ac.1 274)]) (.exit 0) (λs (ac:Ai)=>pk s [3] [] [] [(320,vO ac 274)]) (λac=>let ad:=(j.Xe.getD (X3 ac.2) qu).XB;let ae:=qt.wrap (ac.2+1);.jF (ac.2<aa) (.loop (λs (af:Aj)=>pk s [1,3,4] [0] [(5,pz af.2)] [(320,vO af.1 274)]) (.exit 2) (λs (af:Ai)=>pk s [1,3,4] [0] [] [(320,vO af 274)]) (λaf=>let ag:=([(⟨ac.2,af.2⟩:czd)]:Ai);let ah:=af.1.length+ag.length;let ai:=(j.Xe.getD (X3 af.2) qu).XB;.jF (af.2<aa) (.cut 0 (λs (aj:Ai)=>pk s [1,4,5] [0] [(3,.vec 1408)] [(1408,vO aj 274)]) (.gh ac.2 j.Xe.length<|.gh af.2 j.Xe.length<|.cub 0 56 [1,3,4,5] [0,320] (.jH (ad !=ai) (.cc (Nzo j.Xg ad ai) λaj=>.jH (!aj) (.cc (Gzr j ad ai) λak=>.oo (!ak)))) λaj=>.br aj (.conv 12004 (kL ag 274)<|.conv 12005 (kA af.1 ag 274)<|.grd (ah * 16<=140737488355328/\ah<=maxLen)<|.oo (af.1++ag)) (.oo af.1)) λaj=>.nn (aj,(qt.wrap (af.2+1)))) (.oo af.1)) (ac.1,ae) [] λaf=>.nn (af,ae)) (.oo ac.1)) (nl,0) [] λac=>.jq ac)
def Nzn:=
 mkp1 func162 Ez3
def zzl (j:az7)(aa:Ae):T (Az×Az×Bool):=
 .cub 2 23 [1,2] [0] (.cc (cza j) λab=>.jG (ab !=0) (.cc (qz1 j.Xg aa) λac=>.oo (!ac))) λab=>.br ab (.jq (nl,nl,false)) (.cc (Gzg (⟨j.Xg,j.Xe,j.Xr⟩:az7) aa) λac=>.cc (Nzn j) λad=>.loop (λs (ae:(Az×Az×Int))=>pk s [2,7,8,9,10] [0] [(11,pz ae.2.2)] [(576,vO ae.1 199),(640,vO ae.2.1 199)]) (.exit 0) (λs (ae:(Az×Az))=>pk s [8,9] [] [] [(576,vO ae.1 199),(640,vO ae.2 199)]) (λae=>let af:=ad.getD (X3 ae.2.2) qu;let ag:=(af.A).toNat;let ah:=(af.B).toNat;let ai:=([(⟨(ac.getD ag qu),(j.Xe.getD ag qu).XF⟩:azx)]:Az);let aj:=ae.1.length+ai.length;let ak:=([(⟨(ac.getD ah qu),(j.Xe.getD ah qu).XF⟩:azx)]:Az);let al:=ae.2.1.length+ak.length;.jF (ae.2.2<(ad.length:Int)) (.gh ae.2.2 ad.length<|.gh ae.2.2 ad.length<|.gh (af.A) ac.length<|.gh (af.A) j.Xe.length<|.conv 10012 (kL ai 199)<|.conv 10013 (kA ae.1 ai 199)<|.grd (aj * 32<=140737488355328/\aj<=maxLen)<|.gh (af.B) ac.length<|.gh (af.B) j.Xe.length<|.conv 11012 (kL ak 199)<|.conv 11013 (kA ae.2.1 ak 199)<|.grd (al * 32<=140737488355328/\al<=maxLen)<|.nn ((ae.1++ai),(ae.2.1++ak),(qt.wrap (ae.2.2+1)))) (.oo (ae.1,ae.2.1))) (nl,nl,0) [] λae=>.jq (ae.1,ae.2,true))
def zzk:=
 mkq2 func104 zzl (λr=>.tup [q r.1,q r.2.1,q r.2.2])
def rzm (j:Bm):T Bool:=
 .unroll 4<|.jn<|.cub 1 30 [1,3] [0] (.z9<|.jI (j.1.Lo<(-268435456)) (.z9<|.z9<|.jI (j.1.Lo>j.1.Hi) (.z9<|.oo (qv (j.1.Hi>268435456))))) λaa=>.br aa (.jq false) (.lit 3001 1<|.jn<|.cub 1 30 [1,3] [0] (.ja<|.jI (j.2.1.Lo<(-268435456)) (.ja<|.ja<|.jI (j.2.1.Lo>j.2.1.Hi) (.ja<|.oo (qv (j.2.1.Hi>268435456))))) λab=>.br ab (.jq false) (.lit 3001 2<|.jn<|.cub 1 30 [1,3] [0] (.jb<|.jI (j.2.2.Lo<(-268435456)) (.jb<|.jb<|.jI (j.2.2.Lo>j.2.2.Hi) (.jb<|.oo (qv (j.2.2.Hi>268435456))))) λac=>.br ac (.jq false) (.lit 3001 3<|.jp<|.jq true)))
def rzl:=
 mkp1 func233 rzm
def vz9 (j:Bn):T Bool:=let aa:=(j.length:Int);.loop (ik 3 [0] []) (.exit 0) (jk [0] []) (λab=>.cub 1 11 [0,3] [] (.jF (ab<aa) (.oo (qv (ab<=8))) (.oo false)) λac=>.br ac (.gh ab j.length<|.cc (rzl (j.getD (ab.toNat) qu)) λad=>.br (!ad) (.ff false) (.nn (qt.wrap (ab+1)))) (.oo .u))
 0 [] λ_=>.jF (aa>=1) (.jq (qv (aa<=8))) (.jq false)
def ez6:=
 mkp1 func174 vz9
def vzh (j:Int):T Bool:=
 .jF (j>=0) (.jq (qv (j<=1048576))) (.jq false)
def fzq:=
 mkp1 func227 vzh
def vzb (j:Bh):T Bool:=
 .br (!((j.1==0)&&((j.2.1==0)&&((j.2.2==0)&&true)))) (.cc (ezn j 16384) λaa=>.jq aa) (.jq false)
def fz0:=
 mkp1 func228 vzb
def Mz5 (j:az0):T Int:=
 .cc (dz7 j) λaa=>.br (!aa) (.jq 0) (.cc (bz9 (qt.wrap (j.Lo+j.Hi)) 2) λab=>.jq ab)
def Fz4:=
 mkp1 func175 Mz5
def rzi (j:Bn):T Bi:=
 .cc (ez6 j) λaa=>.br (!aa) (.jq nl) (.loop (λs (ab:Bj)=>pk s [0,3] [] [(4,pz ab.2)] [(256,vO ab.1 89)]) (.exit 0) (λs (ab:Bi)=>pk s [3] [] [] [(256,vO ab 89)]) (λab=>let ac:=j.getD (X3 ab.2) qu;.jF (ab.2<(j.length:Int)) (.gh ab.2 j.length<|.z9<|.cc (Fz4 (ac.1)) λad=>.gh ab.2 j.length<|.ja<|.cc (Fz4 (ac.2.1)) λae=>.gh ab.2 j.length<|.jb<|.cc (Fz4 (ac.2.2)) λaf=>let ag:=([(ad,ae,af)]:Bi);let ah:=ab.1.length+ag.length;
 .conv 7020 (kL ag 89)<|.conv 7021 (kA ab.1 ag 89)<|.grd (ah * 24<=140737488355328/\ah<=maxLen)<|.nn ((ab.1++ag),(qt.wrap (ab.2+1)))) (.oo ab.1)) (nl,0) [] λab=>.jq ab)
def dzo:=
 mkp1 func107 rzi
def vz8 (j:Bh):T Bl:=
 .br ((j.1==0)&&((j.2.1==0)&&((j.2.2==0)&&true))) (.jq (j,false)) (.loop (ik 4 [1,2] [0,64])
 .ret (λ_ (_:U0)=>⟨[],[],[],0⟩) (λaa=>let ab:=qt.wrap (j.1.tdiv aa);let ac:=qt.wrap (j.2.1.tdiv aa);let ad:=qt.wrap (j.2.2.tdiv aa);.z9<|.grd (aa≠0)<|.ja<|.grd (aa≠0)<|.jb<|.grd (aa≠0)<|.cc (ezn (ab,ac,ad) 16384) λae=>.br ae (.ff ((ab,ac,ad),true)) (.nn (qt.wrap (aa * 2))))
 1 [] λ_=>.stop)
def izu:=
 mkq1 func169 vz8 (λr=>.tup [q r.1,q r.2])
def Dza (j:Bn)(aa:Bn):T Bl:=
 .cub 2 19 [0,1,4] [0] (.cc (ez6 j) λab=>.jG (!ab) (.cc (ez6 aa) λac=>.oo (!ac))) λab=>.br ab (.jq ((0,0,0),false)) (.cc (dzo j) λac=>let ad:=(ac.length:Int);
 .cc (dzo aa) λae=>let af:=(ae.length:Int);
 .unroll 4<|.jn<|.loop (λs (ag:B2)=>pk s [4,6,7,8,9] [0] [(10,pz ag.2)] [(192,.box [pz ag.1,pz 0,pz 0])]) (.exit 2) (λs (ag:Int)=>pk s [4,6,7,8,9] [0] [] [(192,.box [pz ag,pz 0,pz 0])]) (λag=>.jF (ag.2<ad) (.z9<|.gh ag.2 ac.length<|.z9<|.name 11012 ((qt.wrap (ag.1+(qt.wrap (((ac.getD (X3 ag.2) qu).1) * af))))) λah=>.z9<|.nn (ah,(qt.wrap (ag.2+1)))) (.oo ag.1)) (0,0) [] λag=>.loop (λs (ah:B2)=>pk s [4,6,7,8,9] [0] [(11,pz ah.2)] [(192,.box [pz ah.1,pz 0,pz 0])]) (.exit 4) (λs (ah:Int)=>pk s [4,6,7,8,9] [0] [] [(192,.box [pz ah,pz 0,pz 0])]) (λah=>.jF (ah.2<af) (.z9<|.gh ah.2 ae.length<|.z9<|.name 15012 ((qt.wrap (ah.1- (qt.wrap (((ae.getD (X3 ah.2) qu).1) * ad))))) λai=>.z9<|.nn (ai,(qt.wrap (ah.2+1)))) (.oo ah.1)) (ag,0) [] λah=>.lit 7001 1<|.jn<|.loop (λs (ai:B2)=>pk s [4,6,7,8,9] [0] [(10,pz ai.2)] [(192,.box [pz ah,pz ai.1,pz 0])]) (.exit 2) (λs (ai:Int)=>pk s [4,6,7,8,9] [0] [] [(192,.box [pz ah,pz ai,pz 0])]) (λai=>.jF (ai.2<ad) (.ja<|.gh ai.2 ac.length<|.ja<|.name 11012 ((qt.wrap (ai.1+(qt.wrap (((ac.getD (X3 ai.2) qu).2.1) * af))))) λaj=>.ja<|.nn (aj,(qt.wrap (ai.2+1)))) (.oo ai.1)) (0,0) [] λai=>.loop (λs (aj:B2)=>pk s [4,6,7,8,9] [0] [(11,pz aj.2)] [(192,.box [pz ah,pz aj.1,pz 0])]) (.exit 4) (λs (aj:Int)=>pk s [4,6,7,8,9] [0] [] [(192,.box [pz ah,pz aj,pz 0])]) (λaj=>.jF (aj.2<af) (.ja<|.gh aj.2 ae.length<|.ja<|.name 15012 ((qt.wrap (aj.1- (qt.wrap (((ae.getD (X3 aj.2) qu).2.1) * ad))))) λak=>.ja<|.nn (ak,(qt.wrap (aj.2+1)))) (.oo aj.1)) (ai,0) [] λaj=>.lit 7001 2<|.jn<|.loop (λs (ak:B2)=>pk s [4,6,7,8,9] [0] [(10,pz ak.2)] [(192,.box [pz ah,pz aj,pz ak.1])]) (.exit 2) (λs (ak:Int)=>pk s [4,6,7,8,9] [0] [] [(192,.box [pz ah,pz aj,pz ak])]) (λak=>.jF (ak.2<ad) (.jb<|.gh ak.2 ac.length<|.jb<|.name 11012 ((qt.wrap (ak.1+(qt.wrap (((ac.getD (X3 ak.2) qu).2.2) * af))))) λal=>.jb<|.nn (al,(qt.wrap (ak.2+1)))) (.oo ak.1)) (0,0) [] λak=>.loop (λs (al:B2)=>pk s [4,6,7,8,9] [0] [(11,pz al.2)] [(192,.box [pz ah,pz aj,pz al.1])]) (.exit 4) (λs (al:Int)=>pk s [4,6,7,8,9] [0] [] [(192,.box [pz ah,pz aj,pz al])]) (λal=>.jF (al.2<af) (.jb<|.gh al.2 ae.length<|.jb<|.name 15012 ((qt.wrap (al.1- (qt.wrap (((ae.getD (X3 al.2) qu).2.2) * ad))))) λam=>.jb<|.nn (am,(qt.wrap (al.2+1)))) (.oo al.1)) (ak,0) [] λal=>.lit 7001 3<|.jp<|.cc (izu (ah,aj,al)) λam=>.jq (am.1,am.2))
def uz2:=
 mkq2 func229 Dza (λr=>.tup [q r.1,q r.2])
def az0u:T Bi:=
 .conv 1006 (kL ([(1,0,0),((-1),0,0),(0,1,0),(0,(-1),0),(0,0,1),(0,0,(-1))]:Bi) 89)<|.jq ([(1,0,0),((-1),0,0),(0,1,0),(0,(-1),0),(0,0,1),(0,0,(-1))]:Bi)
def ref14_Axes_C:CallS Bi:=
 mkD func230 (az0u) 0 [] [] (λr=>q r) X6
def Hzw (j:Bi):T Bool:=let aa:=(j.length:Int);.loop (ik 3 [0] []) (.exit 0) (jk [0] []) (λab=>.cub 1 11 [0,3] [] (.jF (ab<aa) (.oo (qv (ab<=8))) (.oo false)) λac=>.br ac (.gh ab j.length<|.cc (ezn (j.getD (ab.toNat) qu) 268435456) λad=>.br (!ad) (.ff false) (.nn (qt.wrap (ab+1)))) (.oo .u))
 0 [] λ_=>.jF (aa>=1) (.jq (qv (aa<=8))) (.jq false)
def Hzv:=
 mkp1 func165 Hzw
def Hzu (j:Bi)(aa:A4):T Bh:=
 .loop (λs (ab:Bx)=>pk s [0,1,4,5] [0] [(6,pz ab.2.2.2)] [(64,.box [pz ab.1,pz ab.2.1,pz ab.2.2.1])]) (.exit 0) (λs (ab:Bh)=>pk s [4,5] [0] [] [(64,.box [pz ab.1,pz ab.2.1,pz ab.2.2])]) (λab=>let ac:=(ab.2.2.2).toNat;let ad:=aa.getD ac qu;let ae:=j.getD ac qu;.jF (ab.2.2.2<(j.length:Int)) (.unroll 4<|.jn<|.z9<|.gh ab.2.2.2 aa.length<|.gh ab.2.2.2 j.length<|.z9<|.name 8014 ((qt.wrap (ab.1+(qt.wrap (ad * (ae.1)))))) λaf=>.z9<|.lit 7001 1<|.jn<|.ja<|.gh ab.2.2.2 aa.length<|.gh ab.2.2.2 j.length<|.ja<|.name 8014 ((qt.wrap (ab.2.1+(qt.wrap (ad * (ae.2.1)))))) λag=>.ja<|.lit 7001 2<|.jn<|.jb<|.gh ab.2.2.2 aa.length<|.gh ab.2.2.2 j.length<|.jb<|.name 8014 ((qt.wrap (ab.2.2.1+(qt.wrap (ad * (ae.2.2)))))) λah=>.jb<|.lit 7001 3<|.jp<|.nn (af,ag,ah,(qt.wrap (ab.2.2.2+1)))) (.oo (ab.1,ab.2.1,ab.2.2.1))) (0,0,0,0) [] λab=>.jq (ab.1,ab.2.1,ab.2.2)
def zzi:=
 mkp2 func167 Hzu
def Xzq (j:Bh)(aa:Bh):T Bh:=
 .z9<|.z9<|.ja<|.ja<|.jb<|.jb<|.jq ((qt.wrap (j.1-aa.1)),(qt.wrap (j.2.1-aa.2.1)),(qt.wrap (j.2.2-aa.2.2)))
def qz4:=
 mkp2 func166 Xzq
def Dzc (j:Bh)(aa:Int):T Bool:=
 .unroll 4<|.jn<|.z9<|.z9<|.cc (bz1 (max j.1 (qt.wrap (0-j.1))) 65536) λab=>.name 6004 ((qt.wrap (0+(qt.wrap (ab * ab))))) λac=>.lit 4001 1<|.jn<|.ja<|.ja<|.cc (bz1 (max j.2.1 (qt.wrap (0-j.2.1))) 65536) λad=>.name 6004 ((qt.wrap (ac+(qt.wrap (ad * ad))))) λae=>.lit 4001 2<|.jn<|.jb<|.jb<|.cc (bz1 (max j.2.2 (qt.wrap (0-j.2.2))) 65536) λaf=>.name 6004 ((qt.wrap (ae+(qt.wrap (af * af))))) λag=>.lit 4001 3<|.jp<|.jq (qv (ag<=(qt.wrap (aa * aa))))
def Dzb:=
 mkp2 func168 Dzc
def az3l (j:Bh)(aa:Bh):T Int:=
 .z9<|.z9<|.ja<|.ja<|.jb<|.jb<|.name 1016 ((qt.wrap ((qt.wrap ((qt.wrap (j.1 * aa.1))+(qt.wrap (j.2.1 * aa.2.1))))+(qt.wrap (j.2.2 * aa.2.2))))) λab=>.jq ab
def jzk:=
 mkp2 func171 az3l
def rzn (j:Bh)(aa:Bi)(ab:Int):T Int:=
 .loop (λs (ac:B2)=>pk s [1,2,3] [0] [(7,pz ac.1),(8,pz ac.2)] []) (.exit 0) (ik 7 [] []) (λac=>.jF (ac.2<(aa.length:Int)) (.cut 0 (λs (ad:Int)=>pk s [1,2,3,8] [0] [(7,pz ad)] []) (.gh ac.2 aa.length<|.cc (jzk j (aa.getD (X3 ac.2) qu)) λad=>.gh ac.1 aa.length<|.cc (jzk j (aa.getD (X3 ac.1) qu)) λae=>.jF ((qt.wrap (ab * ad))<(qt.wrap (ab * ae))) (.oo ac.2) (.oo ac.1)) λad=>.nn (ad,(qt.wrap (ac.2+1)))) (.oo ac.1)) (0,1) [] λac=>.jq ac
def kzz:=
 mkp3 func170 rzn
def Hzz (j:Int):T Int:=
 .jF (j<1) (.jq 0) (.loop (λs (aa:B2)=>pk s [0] [] [(3,pz aa.1),(4,pz aa.2)] []) (.exit 0) (ik 3 [] []) (λaa=>let ab:=qt.wrap (aa.2-aa.1);let ac:=qt.wrap (aa.1+(qt.wrap (ab.tdiv 2)));.jF (ab>1) (.ok ((2:Int)≠0) jr<|.grd (ac≠0)<|.jF (ac<=(qt.wrap (j.tdiv ac))) (.nn (ac,aa.2)) (.nn (aa.1,ac))) (.oo aa.1)) (1,4294967296) [] λaa=>.jq aa)
def rzs:=
 mkp1 func273 Hzz
def zzv (j:Int):T Int:=
 .cc (rzs j) λaa=>.cut 0 (λs (ab:Int)=>pk s [] [] [(3,pz ab)] []) (.cub 0 14 [3] [] (.jF (j>0) (.oo (qv ((qt.wrap (aa * aa))<j))) (.oo false)) λab=>.br ab (.oo (qt.wrap (aa+1))) (.oo aa)) λab=>.jq ab
def Kz0:=
 mkp1 func232 zzv
def Dz7 (j:Bh):T Int:=
 .cc (fz0 (j.1,j.2.1,j.2.2)) λaa=>.br (!aa) (.jq 0) (.z9<|.z9<|.ja<|.ja<|.jb<|.jb<|.name 3016 ((qt.wrap ((qt.wrap ((qt.wrap (j.1 * j.1))+(qt.wrap (j.2.1 * j.2.1))))+(qt.wrap (j.2.2 * j.2.2))))) λab=>.cc (Kz0 ab) λac=>.jq ac)
def tzz:=
 mkp1 func172 Dz7
def zzh (j:A4)(aa:Int)(ab:Int):T A4:=let ac:=ab.toNat;.grd (j.length * 8<=140737488355328/\j.length<=maxLen)<|.loop (λs (ad:(A4×Int×Int))=>pk s [1,2,7] [] [(8,pz ad.2.1),(9,pz ad.2.2)] [(128,vO ad.1 2)]) (.exit 0) (λs (ad:Ah)=>pk s [2,7] [] [(8,pz ad.2)] [(128,vO ad.1 2)]) (λad=>let ae:=(ad.2.2).toNat;let af:=ad.1.getD ae qu;let ag:=qt.wrap ((qt.wrap (af * aa)).tdiv 256);.jF (ad.2.2<(ad.1.length:Int)) (.gg ad.2.2 ad.1.length<|.ok ((256:Int)≠0) jr<|.gg ad.2.2 ad.1.length<|.name 7005 ((qt.wrap (af-ag))) λah=>.gh ad.2.2 ad.1.length<|.conv 7007 (kS ad.1 2 ae ah)<|.gi (ad.2.2) ad.1.length<|.name 8002 ((qt.wrap (ad.2.1+ag))) λai=>.nn ((ad.1.set ae ah),ai,(qt.wrap (ad.2.2+1)))) (.oo (ad.1,ad.2.1))) (j,0,0) [] λad=>let ae:=qt.wrap ((ad.1.getD ac qu)+ad.2);
 .gg ab ad.1.length<|.gh ab ad.1.length<|.conv 9007 (kS ad.1 2 ac ae)<|.gi (ab) ad.1.length<|.jq (ad.1.set ac ae)
def qz3:=
 mkv3 func173 zzh (λ_=>.vec 0) (λr=>[(0,vO r 2)])
def vzg (j:Bi)(aa:Bi)(ab:Int)(ac:Int):T ezr:=let ad:=(j.length:Int);let ae:=(aa.length:Int);let af:=qs ad.toNat (0:Int);let ag:=qs ae.toNat (0:Int);.cut 2 (λ_ (ah:Bool)=>⟨[(0,q j),(1,q aa),(2,pz ab),(3,pz ac),(8,X7 0),(43,q ah)],[(0,.box [pz 0,pz 0,pz 0,pz 0,.vec 5,.vec 6,pz 0]),(5,.nilv),(6,.nilv)],[],128⟩) (.cc (Hzv j) λah=>.jG (!ah) (.cc (Hzv aa) λai=>.jG (!ai) (.jI (ab<0) (.jI (ab>2097152) (.jI (ac<0) (.oo (qv (ac>64)))))))) λah=>.br ah (.jq (⟨0,(0,0,0),nl,nl,0⟩:ezr)) (.conv 3002 (Cz4 1 bz5 2 ad.toNat 0)<|.grd (0<=ad/\ad<=ad/\ad<=9223372036854775807/\ad * 8<=140737488355328)<|.conv 3005 (Cz4 1 bz5 2 ae.toNat 0)<|.grd (0<=ae/\ae<=ae/\ae<=9223372036854775807/\ae * 8<=140737488355328)<|.gh (0:Int) (af.length)<|.conv 4005 (kS af 2 (X3 (0:Int)) 65536)<|.gi (0:Int) (af.length)<|.gh (0:Int) (ag.length)<|.conv 4007 (kS ag 2 (X3 (0:Int)) 65536)<|.gi (0:Int) (ag.length)<|.loop (λ_ (ai:(Int×Int×Int×A4×A4×Int))=>⟨[(0,q j),(1,q aa),(2,pz ab),(3,pz ac),(8,X7 0),(9,X7 576)],[(0,.box [pz 0,pz 0,pz 0,pz 0,.vec 5,.vec 6,pz 0]),(5,.nilv),(6,.nilv),(256,vO ai.2.2.2.1 2),(448,vO ai.2.2.2.2.1 2),(576,.box [pz 0,pz ai.1,pz ai.2.1,pz ai.2.2.1,.vec 256,.vec 448,pz ai.2.2.2.2.2])],[],1280⟩)
 .ret (λ_ (_:U0)=>⟨[],[],[],0⟩) (λai=>.cc (zzi j ai.2.2.2.1) λaj=>.cc (zzi aa ai.2.2.2.2.1) λak=>.cc (qz4 aj ak) λal=>let am:=qt.wrap (al.1.tdiv 65536);let an:=qt.wrap (al.2.1.tdiv 65536);let ao:=qt.wrap (al.2.2.tdiv 65536);
 .cc (Dzb al ab) λap=>.br ap (.ff (⟨2,(ai.1,ai.2.1,ai.2.2.1),ai.2.2.2.1,ai.2.2.2.2.1,ai.2.2.2.2.2⟩:ezr)) (.z9<|.ok ((65536:Int)≠0) jr<|.ja<|.ok ((65536:Int)≠0) jr<|.jb<|.ok ((65536:Int)≠0) jr<|.cc (izu (am,an,ao)) λaq=>let ar:=(⟨0,aq.1,ai.2.2.2.1,ai.2.2.2.2.1,ai.2.2.2.2.2⟩:ezr);
 .br (!aq.2) (.ff ar) (.cc (kzz aq.1 j 1) λau=>let av:=j.getD (au.toNat) qu;
 .cc (kzz aq.1 aa (-1)) λaw=>let ax:=aa.getD (aw.toNat) qu;
 .gh au j.length<|.cc (jzk aq.1 av) λay=>.gh aw aa.length<|.cc (jzk aq.1 ax) λaz=>.cc (tzz aq.1) λa0=>.jF ((qt.wrap (ay-az))>(qt.wrap (a0 * ab))) (.ff (⟨1,aq.1,ai.2.2.2.1,ai.2.2.2.2.1,ai.2.2.2.2.2⟩:ezr)) (.gh au j.length<|.gh aw aa.length<|.cc (qz4 av ax) λa1=>.cc (qz4 (am,an,ao) a1) λa2=>.cc (jzk (am,an,ao) a2) λa3=>.cc (jzk a2 a2) λa4=>let a5:=max 1 (qt.wrap (a4.tdiv 256));let a6:=min 256 (qt.wrap (a3.tdiv a5));
 .cut 1 (λ_ (a7:Bool)=>⟨[(0,q j),(1,q aa),(2,pz ab),(3,pz ac),(8,X7 0),(9,X7 576),(14,pz au),(15,pz aw),(17,pz a3),(18,pz a4),(142,q a7)],[(0,.box [pz 0,pz 0,pz 0,pz 0,.vec 5,.vec 6,pz 0]),(5,.nilv),(6,.nilv),(256,vS ai.2.2.2.1 2),(448,vS ai.2.2.2.2.1 2),(576,.box [pz 0,pz aq.1.1,pz aq.1.2.1,pz aq.1.2.2,.vec 256,.vec 448,pz ai.2.2.2.2.2])],[],6848⟩) (.jI (ai.2.2.2.2.2>=ac) (.oo (qv (a3<=0)))) λa7=>.br a7 (.ff ar) (.ok ((256:Int)≠0) jr<|.grd (a5≠0)<|.br (a6==0) (.ff ar) (.call (qz3 ai.2.2.2.1 a6 au) [] λa8=>.call (qz3 ai.2.2.2.2.1 a6 aw) [] λa9=>.nn (aq.1.1,aq.1.2.1,aq.1.2.2,a8,a9,(qt.wrap (ai.2.2.2.2.2+1))))))))) (0,0,0,(af.set (X3 (0:Int)) 65536),(ag.set (X3 (0:Int)) 65536),0) [] λ_=>.stop)
def fzp:=
 mkp4 func106 vzg
def kzy (j:Bn)(aa:Int)(ab:Bn)(ac:Int)(ad:Bi):T Bi:=
 .cub 2 33 [0,1,2,3,4] [] (.cc (ez6 j) λae=>.jG (!ae) (.cc (ez6 ab) λaf=>.jG (!af) (.cc (fzq aa) λag=>.jG (!ag) (.cc (fzq ac) λah=>.oo (!ah))))) λae=>.br ae (.jq nl) (.loop (λs (af:Bj)=>pk s [0,1,2,3,4,11] [] [(12,pz af.2)] [(128,vO af.1 89)]) (.exit 0) (λs (af:Bi)=>pk s [0,1,2,3,11] [] [] [(128,vO af 89)]) (λaf=>let ag:=ad.getD (X3 af.2) qu;let ah:=([ag]:Bi);let ai:=af.1.length+ah.length;.jF (af.2<(ad.length:Int)) (.cut 0 (λs (aj:Bi)=>pk s [0,1,2,3,4,12] [] [(11,.vec 576)] [(576,vO aj 89)]) (.gh af.2 ad.length<|.cc (fz0 ag) λaj=>.br aj (.gh af.2 ad.length<|.conv 8005 (kL ah 89)<|.conv 8006 (kA af.1 ah 89)<|.grd (ai * 24<=140737488355328/\ai<=maxLen)<|.oo (af.1++ah)) (.oo af.1)) λaj=>.nn (aj,(qt.wrap (af.2+1)))) (.oo af.1)) (nl,0) [] λaf=>.cut 0 (λs (ag:Bi)=>pk s [0,1,2,3] [] [(11,.vec 320)] [(320,vO ag 89)]) (.cc (uz2 j ab) λag=>let ah:=([ag.1]:Bi);let ai:=af.length+ah.length;
 .br ag.2 (.conv 11002 (kL ah 89)<|.conv 11003 (kA af ah 89)<|.grd (ai * 24<=140737488355328/\ai<=maxLen)<|.oo (af++ah)) (.oo af)) λag=>.cc (ref14_Axes_C) λah=>let ai:=ag++ah;let aj:=ag.length+ah.length;
 .conv 12002 (kA ag ah 89)<|.grd (aj * 24<=140737488355328/\aj<=maxLen)<|.cc (dzo j) λak=>.cc (dzo ab) λal=>.cc (fzp ak al (qt.wrap (aa+ac)) 64) λam=>let an:=([am.XO]:Bi);let ao:=ai.length+an.length;
 .cut 0 (λs (ap:Bi)=>pk s [] [] [(11,.vec 1280)] [(1280,vO ap 89)]) (.cc (fz0 am.XO) λap=>.br ap (.conv 15003 (kL an 89)<|.conv 15004 (kA ai an 89)<|.grd (ao * 24<=140737488355328/\ao<=maxLen)<|.oo (ai++an)) (.oo ai)) λap=>.jq ap)
def uz0:=
 mkp5 func163 kzy
def Hzt (j:Bh)(aa:Bm):T B2:=let ab:=qt.wrap (j.1 * aa.1.Lo);let ac:=qt.wrap (j.1 * aa.1.Hi);let ad:=qt.wrap (j.2.1 * aa.2.1.Lo);let ae:=qt.wrap (j.2.1 * aa.2.1.Hi);let af:=qt.wrap (j.2.2 * aa.2.2.Lo);let ag:=qt.wrap (j.2.2 * aa.2.2.Hi);.cub 2 18 [2,3] [0,64] (.cc (fz0 j) λah=>.jG (!ah) (.cc (rzl aa) λai=>.oo (!ai))) λah=>.br ah (.jq (0,0)) (.unroll 4<|.jn<|.z9<|.z9<|.z9<|.z9<|.name 8004 ((qt.wrap (0+(min ab ac)))) λai=>.name 9004 ((qt.wrap (0+(max ab ac)))) λaj=>.lit 6001 1<|.jn<|.ja<|.ja<|.ja<|.ja<|.name 8004 ((qt.wrap (ai+(min ad ae)))) λak=>.name 9004 ((qt.wrap (aj+(max ad ae)))) λal=>.lit 6001 2<|.jn<|.jb<|.jb<|.jb<|.jb<|.name 8004 ((qt.wrap (ak+(min af ag)))) λam=>.name 9004 ((qt.wrap (al+(max af ag)))) λan=>.lit 6001 3<|.jp<|.jq (am,an))
def Hzs:=
 mkq2 func367 Hzt (λr=>.tup [pz r.1,pz r.2])
def zz9 (j:Bh)(aa:Bn):T Br:=
 .cub 2 19 [1,2] [0] (.cc (fz0 j) λab=>.jG (!ab) (.cc (ez6 aa) λac=>.oo (!ac))) λab=>.br ab (.jq (0,0,false)) (.loop (λs (ac:Bh)=>pk s [1,2] [0] [(7,pz ac.1),(8,pz ac.2.1),(9,pz ac.2.2)] []) (.exit 0) (λs (ac:B2)=>pk s [] [] [(7,pz ac.1),(8,pz ac.2)] []) (λac=>.jF (ac.2.2<(aa.length:Int)) (.cut 0 (λs (ad:B2)=>pk s [1,2,9] [0] [(7,pz ad.1),(8,pz ad.2)] []) (.gh ac.2.2 aa.length<|.cc (Hzs j (aa.getD (X3 ac.2.2) qu)) λad=>.cub 0 41 [1,2,7,8,9,10] [0] (.jG (ac.2.2==0) (.oo (qv (ad.1<ac.1)))) λae=>.br ae (.oo (ad.1,ac.2.2)) (.oo (ac.1,ac.2.1))) λad=>.nn (ad.1,ad.2,(qt.wrap (ac.2.2+1)))) (.oo (ac.1,ac.2.1))) (0,0,0) [] λac=>.jq (ac.1,ac.2,true))
def Jzn:=
 mkq2 func323 zz9 (λr=>.tup [pz r.1,pz r.2.1,q r.2.2])
def ozq (j:Bh)(aa:Bn):T Br:=
 .cub 2 19 [1,2] [0] (.cc (fz0 j) λab=>.jG (!ab) (.cc (ez6 aa) λac=>.oo (!ac))) λab=>.br ab (.jq (0,0,false)) (.loop (λs (ac:Bh)=>pk s [1,2] [0] [(7,pz ac.1),(8,pz ac.2.1),(9,pz ac.2.2)] []) (.exit 0) (λs (ac:B2)=>pk s [] [] [(7,pz ac.1),(8,pz ac.2)] []) (λac=>.jF (ac.2.2<(aa.length:Int)) (.cut 0 (λs (ad:B2)=>pk s [1,2,9] [0] [(7,pz ad.1),(8,pz ad.2)] []) (.gh ac.2.2 aa.length<|.cc (Hzs j (aa.getD (X3 ac.2.2) qu)) λad=>.cub 0 41 [1,2,7,8,9,11] [0] (.jG (ac.2.2==0) (.oo (qv (ad.2>ac.1)))) λae=>.br ae (.oo (ad.2,ac.2.2)) (.oo (ac.1,ac.2.1))) λad=>.nn (ad.1,ad.2,(qt.wrap (ac.2.2+1)))) (.oo (ac.1,ac.2.1))) (0,0,0) [] λac=>.jq (ac.1,ac.2,true))
def Bz7:=
 mkq2 func324 ozq (λr=>.tup [pz r.1,pz r.2.1,q r.2.2])
def vzf (j:Bh)(aa:Bn)(ab:Int)(ac:Bn)(ad:Int):T Bc:=
 .cc (Jzn j aa) λae=>.cc (Bz7 j ac) λaf=>.cub 1 47 [2,4,5,12,15] [0] (.jG (!ae.2.2) (.jG (!af.2.2) (.cc (fzq ab) λag=>.jG (!ag) (.cc (fzq ad) λah=>.oo (!ah))))) λag=>.br ag (.jq (0,false)) (.cc (tzz j) λah=>.jq ((qt.wrap ((qt.wrap (ae.1-af.1))- (qt.wrap (ah * (qt.wrap (ab+ad)))))),true))
def Gzi:=
 mkq5 func272 vzf (λr=>.tup [pz r.1,q r.2])
def mzg (j:Bh)(aa:Bn)(ab:Int)(ac:Bn)(ad:Int):T Bool:=
 .cc (Gzi j aa ab ac ad) λae=>.br ae.2 (.jq (qv (ae.1>0))) (.jq false)
def mzf:=
 mkp5 func231 mzg
def zzg (j:Bi)(aa:Bn)(ab:Int)(ac:Bn)(ad:Int):T Bc:=
 .loop (ik 12 [0,1,2,3,4] []) (.exit 0) (jk [] []) (λae=>.jF (ae<(j.length:Int)) (.gh ae j.length<|.cc (mzf (j.getD (ae.toNat) qu) aa ab ac ad) λaf=>.br af (.ff (ae,true)) (.nn (qt.wrap (ae+1)))) (.oo .u))
 0 [] λ_=>.jq (0,false)
def Jzr:=
 mkq5 func164 zzg (λr=>.tup [pz r.1,q r.2])
def lz0 (j:Bn)(aa:Int)(ab:Bn)(ac:Int)(ad:Bi):T Bl:=
 .cc (uz0 j aa ab ac ad) λae=>.cc (Jzr ae j aa ab ac) λaf=>.br (!af.2) (.jq ((0,0,0),false)) (.gh af.1 ae.length<|.jq ((ae.getD (X3 af.1) qu),true))
def uz1:=
 mkq5 func105 lz0 (λr=>.tup [q r.1,q r.2])
def rzk (j:Bn)(aa:A4):T (Bm×Int×Bool):=let ab:=(aa.length:Int);let ac:=(j.length:Int);.cub 2 21 [0,1,4] [0] (.cc (ez6 j) λad=>.jG (!ad) (.oo (ab !=ac))) λad=>.br ad (.jq (((⟨0,0⟩:az0),(⟨0,0⟩:az0),(⟨0,0⟩:az0)),0,false)) (.loop (λs (ae:B2)=>pk s [0,1,4] [0] [(7,pz ae.1),(8,pz ae.2)] []) (.exit 0) (ik 7 [0,1,4] [0]) (λae=>let af:=aa.getD (X3 ae.2) qu;.jF (ae.2<ab) (.cub 2 42 [0,1,4,7,8] [0] (.gh ae.2 aa.length<|.jI (af<0) (.gh ae.2 aa.length<|.oo (qv (af>(qt.wrap (65536-ae.1)))))) λag=>.br ag (.ff (((⟨0,0⟩:az0),(⟨0,0⟩:az0),(⟨0,0⟩:az0)),0,false)) (.gh ae.2 aa.length<|.nn ((qt.wrap (ae.1+af)),(qt.wrap (ae.2+1))))) (.oo ae.1)) (0,0) [] λae=>.jF (ae<1) (.jq (((⟨0,0⟩:az0),(⟨0,0⟩:az0),(⟨0,0⟩:az0)),0,false)) (.loop (λs (af:(Int×Int×Int×Int×Int×Int×Int))=>pk s [0,1,4,7,9] [0] [(10,pz af.2.2.2.2.2.2)] [(576,.box [pz af.1,pz af.2.1,pz af.2.2.1,pz af.2.2.2.1,pz af.2.2.2.2.1,pz af.2.2.2.2.2.1])]) (.exit 2) (λs (af:C3)=>pk s [4,7,9] [0] [] [(576,.box [pz af.1,pz af.2.1,pz af.2.2.1,pz af.2.2.2.1,pz af.2.2.2.2.1,pz af.2.2.2.2.2])]) (λaf=>let ag:=(af.2.2.2.2.2.2).toNat;let ah:=aa.getD ag qu;let ai:=j.getD ag qu;.jF (af.2.2.2.2.2.2<ac) (.unroll 4<|.jn<|.z9<|.gh af.2.2.2.2.2.2 aa.length<|.gh af.2.2.2.2.2.2 j.length<|.z9<|.name 19015 ((qt.wrap (ah * (ai.1.Lo)))) λaj=>.name 19016 ((qt.wrap (af.1+aj))) λak=>.z9<|.z9<|.gh af.2.2.2.2.2.2 aa.length<|.gh af.2.2.2.2.2.2 j.length<|.z9<|.name 20015 ((qt.wrap (ah * (ai.1.Hi)))) λal=>.name 20016 ((qt.wrap (af.2.1+al))) λam=>.z9<|.lit 18001 1<|.jn<|.ja<|.gh af.2.2.2.2.2.2 aa.length<|.gh af.2.2.2.2.2.2 j.length<|.ja<|.name 19015 ((qt.wrap (ah * (ai.2.1.Lo)))) λan=>.name 19016 ((qt.wrap (af.2.2.1+an))) λao=>.ja<|.ja<|.gh af.2.2.2.2.2.2 aa.length<|.gh af.2.2.2.2.2.2 j.length<|.ja<|.name 20015 ((qt.wrap (ah * (ai.2.1.Hi)))) λap=>.name 20016 ((qt.wrap (af.2.2.2.1+ap))) λaq=>.ja<|.lit 18001 2<|.jn<|.jb<|.gh af.2.2.2.2.2.2 aa.length<|.gh af.2.2.2.2.2.2 j.length<|.jb<|.name 19015 ((qt.wrap (ah * (ai.2.2.Lo)))) λar=>.name 19016 ((qt.wrap (af.2.2.2.2.1+ar))) λau=>.jb<|.jb<|.gh af.2.2.2.2.2.2 aa.length<|.gh af.2.2.2.2.2.2 j.length<|.jb<|.name 20015 ((qt.wrap (ah * (ai.2.2.Hi)))) λav=>.name 20016 ((qt.wrap (af.2.2.2.2.2.1+av))) λaw=>.jb<|.lit 18001 3<|.jp<|.nn (ak,am,ao,aq,au,aw,(qt.wrap (af.2.2.2.2.2.2+1)))) (.oo (af.1,af.2.1,af.2.2.1,af.2.2.2.1,af.2.2.2.2.1,af.2.2.2.2.2.1))) (0,0,0,0,0,0,0) [] λaf=>.jq (((⟨af.1,af.2.1⟩:az0),(⟨af.2.2.1,af.2.2.2.1⟩:az0),(⟨af.2.2.2.2.1,af.2.2.2.2.2⟩:az0)),ae,true)))
def rzj:=
 mkq2 func234 rzk (λr=>.tup [q r.1,pz r.2.1,q r.2.2])
def az0w (j:Int):T Int:=
 .jq (max j (qt.wrap (0-j)))
def hzt:=
 mkp1 func235 az0w
def vze (j:A4)(aa:A4)(ab:Bn)(ac:Int)(ad:Bn)(ae:Int):T Bc:=let af:=qt.wrap (ac+ae);.cc (rzj ab j) λag=>.cc (rzj ad aa) λah=>.cub 1 57 [3,5,14,15,17] [576,1280] (.jG (!ag.2.2) (.jG (!ah.2.2) (.jG (ag.2.1 !=ah.2.1) (.cc (fzq ac) λai=>.jG (!ai) (.cc (fzq ae) λaj=>.oo (!aj)))))) λai=>.br ai (.jq (0,false)) (.unroll 4<|.jn<|.z9<|.z9<|.cc (hzt (qt.wrap (ag.1.1.Lo-ah.1.1.Hi))) λaj=>.z9<|.z9<|.cc (hzt (qt.wrap (ag.1.1.Hi-ah.1.1.Lo))) λak=>.cc (bz1 (max aj ak) ag.2.1) λal=>.jF (al>af) (.jq ((-1),true)) (.name 12004 ((qt.wrap ((qt.wrap (af * af))- (qt.wrap (al * al))))) λam=>.lit 8001 1<|.jn<|.ja<|.ja<|.cc (hzt (qt.wrap (ag.1.2.1.Lo-ah.1.2.1.Hi))) λan=>.ja<|.ja<|.cc (hzt (qt.wrap (ag.1.2.1.Hi-ah.1.2.1.Lo))) λao=>.cc (bz1 (max an ao) ag.2.1) λap=>.jF (ap>af) (.jq ((-1),true)) (.name 12004 ((qt.wrap (am- (qt.wrap (ap * ap))))) λaq=>.lit 8001 2<|.jn<|.jb<|.jb<|.cc (hzt (qt.wrap (ag.1.2.2.Lo-ah.1.2.2.Hi))) λar=>.jb<|.jb<|.cc (hzt (qt.wrap (ag.1.2.2.Hi-ah.1.2.2.Lo))) λau=>.cc (bz1 (max ar au) ag.2.1) λav=>.jF (av>af) (.jq ((-1),true)) (.name 12004 ((qt.wrap (aq- (qt.wrap (av * av))))) λaw=>.lit 8001 3<|.jp<|.jq (aw,true)))))
def vzd:=
 mkq6 func176 vze (λr=>.tup [pz r.1,q r.2])
def ozt (j:A4)(aa:A4)(ab:Bn)(ac:Int)(ad:Bn)(ae:Int):T Bool:=
 .cc (vzd j aa ab ac ad ae) λaf=>.br af.2 (.jq (qv (af.1>=0))) (.jq false)
def gzw:=
 mkp6 func108 ozt
def ozs (j:az7)(aa:Ae)(ab:Bi):T ezs:=let ac:=(ab.length:Int);.cc (zzk j aa) λad=>.br (!ad.2.2) (.jq (⟨0,nl,(⟨0,nl,nl⟩:bzd)⟩:ezs)) (.loop (λs (ae:(Int×Bi×Int))=>pk s [2,6,7,8,10] [64,66,68,69,899,900] [(11,pz ae.2.2)] [(897,vO ae.2.1 89),(960,.box [pz ae.1,.vec 897,pz 0,.vec 899,.vec 900])]) (.exit 0) (λs (ae:(Int×Bi))=>pk s [6,10] [64,66,68,69,899,900] [] [(897,vO ae.2 89),(960,.box [pz ae.1,.vec 897,pz 0,.vec 899,.vec 900])]) (λae=>let af:=(ae.2.2).toNat;let ag:=qt.wrap (ae.2.2+1);let ah:=ad.1.getD af qu;let ai:=ah.points;let aj:=ah.radius;let ak:=ad.2.1.getD af qu;let al:=ak.points;let am:=ak.radius;.jF (ae.2.2<(ad.1.length:Int)) (.cut 0 (λs (an:(Int×Bi))=>pk s [2,6,7,8,10,11] [64,66,68,69,899,900] [] [(960,.box [pz an.1,.vec 1472,pz 0,.vec 899,.vec 900]),(1472,vO an.2 89)]) (.cut 1 (λs (an:Bi)=>pk s [2,6,7,8,10,11] [64,66,68,69,897,899,900,960] [(12,q an)] []) (.jF (ae.2.2<ac) (.conv 10004 (Cz5 3 azv ab ae.2.2 ag)<|.grd (0<=ae.2.2/\ae.2.2<=ag/\ag<=ac)<|.oo ((ab.drop af).take (ag.toNat- (ae.2.2).toNat))) (.oo nl)) λan=>.gh ae.2.2 ad.1.length<|.gh ae.2.2 ad.1.length<|.gh ae.2.2 ad.2.1.length<|.gh ae.2.2 ad.2.1.length<|.cc (uz1 ai aj al am an) λao=>let ap:=([ao.1]:Bi);let aq:=ae.2.1++ap;let ar:=ae.2.1.length+ap.length;
 .conv 12003 (kL ap 89)<|.conv 12004 (kA ae.2.1 ap 89)<|.grd (ar * 24<=140737488355328/\ar<=maxLen)<|.br ao.2 (.oo (ae.1,aq)) (.gh ae.2.2 ad.1.length<|.cc (dzo ai) λau=>.gh ae.2.2 ad.2.1.length<|.cc (dzo al) λav=>.gh ae.2.2 ad.1.length<|.gh ae.2.2 ad.2.1.length<|.call (fzp au av (qt.wrap (aj+am)) 64) [] λaw=>.gh ae.2.2 ad.1.length<|.gh ae.2.2 ad.1.length<|.gh ae.2.2 ad.2.1.length<|.gh ae.2.2 ad.2.1.length<|.cc (gzw aw.Left aw.XK ai aj al am) λax=>.br ax (.ff (.fin (⟨2,nl,(⟨ae.2.2,aw.Left,aw.XK⟩:bzd)⟩:ezs))) (.oo (0,aq)))) λan=>.nn (an.1,an.2,ag)) (.oo (ae.1,ae.2.1))) (1,nl,0) [] λae=>.jq (⟨ae.1,ae.2,(⟨0,nl,nl⟩:bzd)⟩:ezs))
def jza:=
 mkp3 func55 ozs
def wz3 (j:az7)(aa:A4):T Bool:=
 .cc (Hzq aa) λab=>.cc (jza (⟨j.Xg,j.Xe,j.Xr⟩:az7) ab nl) λac=>.jq (ac.Xo==1)
def nzi:=
 mkp2 func124 wz3
def Az6 (j:az2)(aa:azm)(ab:aza)(ac:Int):T Bool:=let ad:=j.Xk.getD (ac.toNat) qu;.cc (ezw j aa ab) λae=>.cub 1 57 [3,4,5,6,9] [0,64,128,704] (.jG (!ae.2) (.jI (ac<0) (.jI (ac>=(j.Xk.length:Int)) (.gh ac j.Xk.length<|.jG ((ad.Xu) !=ab.Xu) (.gh ac j.Xk.length<|.oo ((ad.Place) !=ab.Place)))))) λaf=>.br af (.jq false) (.gh ac j.Xk.length<|.cc (fza j aa) λag=>.cc (fza j ae.1) λah=>.cc (izx (⟨j.Xl,j.Xd,j.Xh,j.Xj,j.Xk,j.Xp⟩:az2) ab.Xu ab.Place (ad.At)) λai=>.br ai (.cc (nzi (⟨ag.1.Xg,ag.1.Xe,ag.1.Xr⟩:az7) (ad.At)) λaj=>.br aj (.cc (nzi (⟨ah.1.Xg,ah.1.Xe,ah.1.Xr⟩:az7) (ad.At)) λak=>.jq ak) (.jq false)) (.jq false))
def Az5:=
 mkp4 func70 Az6
open Go.Proofs
def vz7 (j:azj):T Ae:=
 .cc (cz9 j) λaa=>.br (aa !=0) (.jq nl) (.loop (λs (ab:Af)=>pk s [1,3] [0] [(4,pz ab.2)] [(320,vO ab.1 95)]) (.exit 0) (λs (ab:Ae)=>pk s [3] [] [] [(320,vO ab 95)]) (λab=>let ac:=j.Xc.getD (X3 ab.2) qu;let ad:=([(⟨ac.Lo,ac.Hi⟩:az0)]:Ae);let ae:=ab.1.length+ad.length;.jF (ab.2<(j.Xc.length:Int)) (.gh ab.2 j.Xc.length<|.gh ab.2 j.Xc.length<|.conv 7014 (kL ad 95)<|.conv 7015 (kA ab.1 ad 95)<|.grd (ae * 16<=140737488355328/\ae<=maxLen)<|.nn ((ab.1++ad),(qt.wrap (ab.2+1)))) (.oo ab.1)) (nl,0) [] λab=>.jq ab)
def vz6:=
 mkp1 func190 vz7
def sz0 (j:Ae):T Bool:=let aa:=(j.length:Int);.cub 2 11 [0] [] (.jI (aa<1) (.oo (qv (aa>10)))) λab=>.br ab (.jq false) (.loop (ik 3 [0] []) (.exit 0) (jk [] []) (λac=>.jF (ac<aa) (.gh ac j.length<|.cc (dz7 (j.getD (ac.toNat) qu)) λad=>.br (!ad) (.ff false) (.nn (qt.wrap (ac+1)))) (.oo .u))
 0 [] λ_=>.jq true)
def rzz:=
 mkp1 func247 sz0
def Az1 (j:Int):T Int:=
 .cub 2 8 [0] [] (.jI (j<0) (.oo (qv (j>=10)))) λaa=>.br aa (.jq 0) (.gh j 10<|.jq (([2,3,5,7,11,13,17,19,23,29]:List Int).getD j.toNat 0))
def Az0:=
 mkq1 func249 Az1 (λr=>.pure (.int .u64 r))
def Sz1 (j:Int)(aa:Int):T B2:=
 .jF (j<2) (.jq (0,1)) (.ok ((4294967296:Int)≠0) jr<|.loop (λs (ab:Bh)=>pk s [0] [] [(1,.pure (.int .u64 ab.1)),(6,.pure (.int .u64 ab.2.1)),(7,.pure (.int .u64 ab.2.2))] []) (.exit 0) (λs (ab:B2)=>pk s [] [] [(6,.pure (.int .u64 ab.1)),(7,.pure (.int .u64 ab.2))] []) (λab=>.jF (ab.1>0) (.grd (j≠0)<|.grd (j≠0)<|.nn ((IntKind.u64.wrap (ab.1.tdiv j)),(IntKind.u64.wrap ((IntKind.u64.wrap (ab.2.1 * j))+(ab.1.tmod j))),(IntKind.u64.wrap (ab.2.2 * j)))) (.oo (ab.2.1,ab.2.2))) ((aa.tmod 4294967296),0,1) [] λab=>.jq (ab.1,ab.2))
def gzc (j)(aa):=
 mkD func248 (Sz1 j aa) 0 [.pure (.int .u64 j),.pure (.int .u64 aa)] [] (λr=>.tup [.pure (.int .u64 r.1),.pure (.int .u64 r.2)]) X6
def rzw (j:Int)(aa:Int):T Bool:=
 .cc (dz7 (⟨j,aa⟩:az0)) λab=>.jq ab
def Dzy:=
 mkp2 func301 rzw
def zzz (j:Int)(aa:Int)(ab:Int)(ac:Int):T Int:=
 .cub 2 21 [0,1,2,3] [] (.cc (Dzy ab ac) λad=>.jG (!ad) (.oo (qv (j>=aa)))) λad=>.br ad (.jq ab) (.call (mza j (IntKind.u64.wrap ((IntKind.u64.wrap (qt.wrap (ac-ab)))+1))) [] λae=>.cc (iz7 ae.1 ae.2 aa) λaf=>.jq (qt.wrap (ab+(qt.wrap af.1))))
def qz6 (j)(aa)(ab)(ac):=
 mkD func250 (zzz j aa ab ac) 0 [.pure (.int .u64 j),.pure (.int .u64 aa),pz ab,pz ac] [] pz X6
def vzx (j:Ae)(aa:Int):T A4:=
 .cc (rzz j) λab=>.br (!ab) (.jq nl) (.loop (λs (ac:Ah)=>pk s [0,1,5] [] [(6,pz ac.2)] [(256,vO ac.1 2)]) (.exit 0) (λs (ac:A4)=>pk s [5] [] [] [(256,vO ac 2)]) (λac=>let ad:=j.getD (X3 ac.2) qu;.jF (ac.2<(j.length:Int)) (.cc (Az0 ac.2) λae=>.cc (gzc ae aa) λaf=>.gh ac.2 j.length<|.gh ac.2 j.length<|.cc (qz6 af.1 af.2 (ad.Lo) (ad.Hi)) λag=>let ah:=([ag]:A4);let ai:=ac.1.length+ah.length;
 .conv 8014 (kL ah 2)<|.conv 8015 (kA ac.1 ah 2)<|.grd (ai * 8<=140737488355328/\ai<=maxLen)<|.nn ((ac.1++ah),(qt.wrap (ac.2+1)))) (.oo ac.1)) (nl,0) [] λac=>.jq ac)
def vzw (j)(aa):=
 mkD func191 (vzx j aa) 0 [q j,.pure (.int .u64 aa)] [] (λr=>q r) X6
def jzm (j:A4)(aa:A4):T Bool:=let ab:=(j.length:Int);.br (ab !=(aa.length:Int)) (.jq false) (.loop (ik 5 [0,1] []) (.exit 0) (jk [] []) (λac=>.jF (ac<ab) (.gh ac j.length<|.gh ac aa.length<|.br ((j.getD (ac.toNat) qu) !=(aa.getD (ac.toNat) qu)) (.ff false) (.nn (qt.wrap (ac+1)))) (.oo .u))
 0 [] λ_=>.jq true)
def jzl:=
 mkp2 func132 jzm
def rzv (j:A5)(aa:A4):T Int:=
 .loop (ik 5 [0,1] [0]) (.exit 0) (jk [] [0]) (λab=>.jF (ab<(j.length:Int)) (.gg ab j.length<|.cc (jzl (j.getD (ab.toNat) qu) aa) λac=>.br ac (.ff ab) (.nn (qt.wrap (ab+1)))) (.oo .u))
 0 [] λ_=>.jq (-1)
def rzu (j)(aa):=
 mkD func127 (rzv j aa) 1 [.vec 0,q aa] [(0,vO j 39)] pz (λ_=>[(0,vO j 39)])
def ozp (j:azj)(aa:A4)(ab:A4):T Int:=let ac:=(aa.length:Int);.cub 2 36 [1,2,3] [0] (.cc (cz9 j) λad=>.jG (ad !=0) (.cc (izb aa) λae=>.jG (!ae) (.cc (izb ab) λaf=>.jG (!af) (.jG (ac !=(j.Xc.length:Int)) (.oo ((ab.length:Int) !=ac)))))) λad=>.br ad (.jq 0) (.loop (λs (ae:B2)=>pk s [1,2,3] [0] [(7,pz ae.1),(8,pz ae.2)] []) (.exit 0) (ik 7 [] []) (λae=>let af:=(ae.2).toNat;let ag:=aa.getD af qu;let ah:=ab.getD af qu;.jF (ae.2<ac) (.gh ae.2 j.Xc.length<|.gh ae.2 aa.length<|.gh ae.2 ab.length<|.gh ae.2 ab.length<|.gh ae.2 aa.length<|.name 7025 ((max (qt.wrap (ag-ah)) (qt.wrap (ah-ag)))) λai=>.nn ((qt.wrap (ae.1+(qt.wrap (((j.Xc.getD af qu).XL) * ai)))),(qt.wrap (ae.2+1)))) (.oo ae.1)) (0,0) [] λae=>.jq ae)
def gzv:=
 mkp3 func304 ozp
def lz3 (j:azj)(aa:A5)(ab:A4)(ac:Int):T A4:=
 .loop (λs (ad:Ah)=>pk s [1,2,3,4,9] [0,1] [(10,pz ad.2)] [(129,vO ad.1 3)]) (.exit 0) (λs (ad:A4)=>pk s [9] [0] [] [(129,vO ad 3)]) (λad=>let ae:=([ad.2]:A4);let af:=ad.1.length+ae.length;.jF (ad.2<(aa.length:Int)) (.cut 0 (λs (ag:A4)=>pk s [1,2,3,4,9,10] [0,1] [] [(129,vO ag 3)]) (.br (ad.2==ac) (.oo ad.1) (.conv 7002 (kL ae 3)<|.conv 7003 (kA ad.1 ae 3)<|.grd (af * 8<=140737488355328/\af<=maxLen)<|.gg ad.2 aa.length<|.cc (gzv j (aa.getD (X3 ad.2) qu) ab) λag=>.loop (λs (ah:Ah)=>pk s [1,2,3,4,9,10,12] [0,1] [(11,pz ah.2)] [(1153,vO ah.1 3)]) (.exit 2) (λs (ah:A4)=>pk s [1,2,3,4,9,10] [0,1] [] [(1153,vO ah 3)]) (λah=>let ai:=(ah.2).toNat;let aj:=qt.wrap (ah.2-1);let ak:=aj.toNat;let al:=ah.1.getD ak qu;let am:=ah.1.set ai al;let an:=ah.1.getD ai qu;.cub 1 51 [1,2,3,4,9,10,11,12] [0,1,1153] (.jF (ah.2>0) (.gg aj ah.1.length<|.gg al aa.length<|.call (gzv j (aa.getD (al.toNat) qu) ab) [] λao=>.oo (qv (ag<ao))) (.oo false)) λao=>.br ao (.gg aj ah.1.length<|.gg ah.2 ah.1.length<|.gh ah.2 ah.1.length<|.conv 10015 (kS ah.1 3 ai al)<|.gi (ah.2) ah.1.length<|.gh aj (am.length)<|.conv 10017 (kS am 3 ak an)<|.gi (aj) (am.length)<|.nn ((am.set ak an),aj)) (.oo ah.1)) ((ad.1++ae),(ad.1.length:Int)) [] λah=>.oo ah)) λag=>.nn (ag,(qt.wrap (ad.2+1)))) (.oo ad.1)) (nl,0) [] λad=>.jq ad
def uz5 (j)(aa)(ab)(ac):=
 mkD func251 (lz3 j aa ab ac) 1 [q j,.vec 0,q ab,pz ac] [(0,vO aa 39)] (λr=>q r) (λ_=>[(0,vO aa 39)])
def wz0 (j:azj)(aa:A5)(ab:Al)(ac:Int)(ad:Int):T Al:=let ae:=min ac ad;let af:=max ac ad;let ag:=gzv j (aa.getD (ae.toNat) qu) (aa.getD (af.toNat) qu);.loop (λs (ah:(Al×Bool×Int))=>pk s [2,3,4,5,9] [0,1,2,66] [(10,q ah.2.1),(11,pz ah.2.2)] [(706,vO ah.1 310)]) (.exit 0) (λs (ah:(Al×Bool))=>pk s [2,3,4,5,9] [0,1,2,66] [(10,q ah.2)] [(706,vO ah.1 310)]) (λah=>let ai:=ab.getD (X3 ah.2.2) qu;let aj:=([ai]:Al);.jF (ah.2.2<(ab.length:Int)) (.gg ah.2.2 ab.length<|.cut 0 (λs (ak:(Al×Bool))=>pk s [2,3,4,5,11,12] [0,1,2,66,1602] [(9,.vec 1730),(10,q ak.2)] [(1730,vO ak.1 310)]) (.cub 0 50 [2,3,4,5,9,10,11,12] [0,1,2,66,706,1602] (.jH (!ah.2.1) (.jI ((ai.U)>ae) (.jH ((ai.U)==ae) (.oo (qv ((ai.V)>=af)))))) λak=>.br ak (.cub 1 60 [2,3,4,5,9,10,11,12] [0,1,2,66,706,1602] (.jG ((ai.U) !=ae) (.oo ((ai.V) !=af))) λal=>.br al (.gg ae aa.length<|.gg af aa.length<|.cc ag λam=>let an:=([(⟨ae,af,am,0,(⟨0,nl,(⟨0,0,nl⟩:az6),(⟨0,nl,nl⟩:bzd)⟩:azo)⟩:az1)]:Al);let ao:=ah.1.length+an.length;
 .conv 11016 (az8r 12 gz4 an 310 [.agg [jD ae,jD af,jD am,jD 0,jD 0,.lst 0 0 λ_=>.unk,jD 0,jD 0,.lst 0 0 λ_=>.unk,jD 0,.lst 0 0 λ_=>.unk,.lst 0 0 λ_=>.unk]] jw)<|.conv 11017 (kA ah.1 an 310)<|.grd (ao * 160<=140737488355328/\ao<=maxLen)<|.oo ((ah.1++an),true)) (.oo (ah.1,true))) (.oo (ah.1,ah.2.1))) λak=>let al:=ak.1.length+aj.length;
 .conv 12002 (kL aj 310)<|.conv 12003 (kA ak.1 aj 310)<|.grd (al * 160<=140737488355328/\al<=maxLen)<|.nn ((ak.1++aj),ak.2,(qt.wrap (ah.2.2+1)))) (.oo (ah.1,ah.2.1))) (nl,false,0) [] λah=>.cut 0 (λs (ai:Al)=>pk s [] [0,1] [(9,.vec 962)] [(962,vO ai 310)]) (.br (!ah.2) (.gg ae aa.length<|.gg af aa.length<|.cc ag λai=>let aj:=([(⟨ae,af,ai,0,(⟨0,nl,(⟨0,0,nl⟩:az6),(⟨0,nl,nl⟩:bzd)⟩:azo)⟩:az1)]:Al);let ak:=ah.1.length+aj.length;
 .conv 14016 (az8r 12 gz4 aj 310 [.agg [jD ae,jD af,jD ai,jD 0,jD 0,.lst 0 0 λ_=>.unk,jD 0,jD 0,.lst 0 0 λ_=>.unk,jD 0,.lst 0 0 λ_=>.unk,.lst 0 0 λ_=>.unk]] jw)<|.conv 14017 (kA ah.1 aj 310)<|.grd (ak * 160<=140737488355328/\ak<=maxLen)<|.oo (ah.1++aj)) (.oo ah.1)) λai=>.jq ai
def Gzo (j)(aa)(ab)(ac)(ad):=
 mkD func252 (wz0 j aa ab ac ad) 2 [q j,.agg [.vec 0,.vec 1],pz ac,pz ad] [(0,vO aa 39),(1,vO ab 310)] (λ_=>.vec 2) (λr=>[(0,vO aa 39),(1,vO ab 310),(2,vO r 310)])
def vzy (j:azj)(aa:A5)(ab:Int):T azb:=
 .cc (cz9 j) λac=>.br (ac !=0) (.jq (⟨nl,nl⟩:azb)) (.loop (λs (ad:Ap)=>pk s [1,2,3,6,7] [0,64,65,66,128,130] [(8,pz ad.2)] [(129,vO ad.1 39)]) (.exit 0) (λs (ad:A5)=>pk s [2,3,6,7] [0,64,65,66,128,130] [] [(129,vO ad 39)]) (λad=>let ae:=aa.getD (X3 ad.2) qu;let af:=([ae]:A5);let ag:=ad.1.length+af.length;.cub 1 25 [1,2,3,6,7,8] [0,64,65,66,128,129,130] (.jF (ad.2<(aa.length:Int)) (.oo (qv ((ad.1.length:Int)<1024))) (.oo false)) λah=>.br ah (.cut 0 (λs (ai:A5)=>pk s [1,2,3,6,7,8] [0,64,65,66,130] [] [(128,.box [.vec 576,.vec 130]),(576,vO ai 39)]) (.cub 0 43 [1,2,3,6,7,8] [0,64,65,66,128,129,130] (.gh ad.2 aa.length<|.cc (dzm (⟨j.Xc,j.Xv⟩:azj) ae) λai=>.jH ai (.gh ad.2 aa.length<|.call (rzu ad.1 ae) [(0,129)] λaj=>.oo (qv (aj<0)))) λai=>.br ai (.gh ad.2 aa.length<|.grd (ae.length * 8<=140737488355328/\ae.length<=maxLen)<|.conv 8007 (kL af 39)<|.conv 8008 (kA ad.1 af 39)<|.grd (ag * 24<=140737488355328/\ag<=maxLen)<|.oo (ad.1++af)) (.oo ad.1)) λai=>.nn (ai,(qt.wrap (ad.2+1)))) (.oo ad.1)) (nl,0) [] λad=>.loop (λs (ae:Am)=>pk s [2,3,6,7] [0,64,65,66,128,129] [(9,pz ae.2)] [(130,vO ae.1 310)]) (.exit 2) (λs (ae:Al)=>pk s [6,7] [64,65,66,128,129] [] [(130,vO ae 310)]) (λae=>.jF (ae.2<(ad.length:Int)) (.gg ae.2 ad.length<|.call (uz5 j ad (ad.getD (X3 ae.2) qu) ae.2) [(0,129)] λaf=>.loop (λs (ag:Am)=>pk s [2,3,6,7,9,10] [0,64,65,66,128,129] [(11,pz ag.2)] [(130,vO ag.1 310)]) (.exit 4) (λs (ag:Al)=>pk s [2,3,6,7,9] [0,64,65,66,128,129] [] [(130,vO ag 310)]) (λag=>.cub 1 79 [2,3,6,7,9,10,11] [0,64,65,66,128,129,130] (.jF (ag.2<(af.length:Int)) (.oo (qv (ag.2<ab))) (.oo false)) λah=>.br ah (.gh ag.2 af.length<|.call (Gzo j ad ag.1 ae.2 (af.getD (X3 ag.2) qu)) [(0,129),(1,130)] λai=>.nn (ai,(qt.wrap (ag.2+1)))) (.oo ag.1)) (ae.1,0) [] λag=>.nn (ag,(qt.wrap (ae.2+1)))) (.oo ae.1)) (nl,0) [] λae=>let af:=(ae.length:Nat);
 .cut 0 (λs (ag:Al)=>pk s [6,7] [64,65,66,129] [] [(128,.box [.vec 129,.vec 640]),(640,vO ag 310)]) (.jF ((af:Int)>8192) (.conv 18002 (az4o 12 gz4 ae 310 (8192:Int))<|.grd (0<=(8192:Int)/\(8192:Int)<=(af:Int)/\0<=(8192:Int).toNat)<|.oo (ae.take (X3 (8192:Int)))) (.oo ae)) λag=>.jq (⟨ad,ag⟩:azb))
def nzg:=
 mkp3 func192 vzy
def sz7 (j:az7)(aa:A4)(ab:A4)(ac:cz2):T azb:=let ad:=([aa,ab]:A5);.conv 1002 (kL ad 39)<|.cc (vz6 j.Xg) λae=>.loop (λs (af:Ap)=>pk s [4,7,8,9,10] [0,64,128,129,130] [(11,pz af.2)] [(320,vO af.1 39)]) (.exit 0) (λs (af:A5)=>pk s [4,7,8,9] [0,64,128,129,130] [] [(320,vO af 39)]) (λaf=>.jF (af.2<=ac.XG) (.cc (vzw ae (IntKind.u64.wrap af.2)) λag=>let ah:=([ag]:A5);let ai:=af.1.length+ah.length;
 .conv 6005 (kL ah 39)<|.conv 6006 (kA af.1 ah 39)<|.grd (ai * 24<=140737488355328/\ai<=maxLen)<|.nn ((af.1++ah),(qt.wrap (af.2+1)))) (.oo af.1)) (ad,1) [] λaf=>.cc (nzg j.Xg af ac.XJ) λag=>.jq ag
def sz6:=
 mkp4 func125 sz7
def mzl (j:A5)(aa:A4):T Int:=
 .loop (ik 5 [0,1] []) (.exit 0) (jk [] []) (λab=>.jF (ab<(j.length:Int)) (.gh ab j.length<|.cc (jzl (j.getD (ab.toNat) qu) aa) λac=>.br ac (.ff ab) (.nn (qt.wrap (ab+1)))) (.oo .u))
 0 [] λ_=>.jq (-1)
def mzk:=
 mkp2 func127 mzl
def rzy (j:azb):T Bool:=let aa:=(j.Xa.length:Int);let ab:=(j.Xb.length:Int);.loop (ik 3 [1] [0]) (.exit 0) (jk [1] [0]) (λac=>let ad:=qt.wrap (ac-1);let ae:=j.Xa.getD (ac.toNat) qu;let af:=ae.U;let ag:=j.Xa.getD (ad.toNat) qu;.jF (ac<aa) (.gh ac j.Xa.length<|.cub 1 34 [1,3,4] [0,896] (.jI (af<0) (.jI (af>=(ae.V)) (.oo (qv ((ae.V)>=ab))))) λah=>.br ah (.ff false) (.cub 0 72 [1,3] [0] (.jF (ac>0) (.gh ad j.Xa.length<|.jI ((ag.U)>af) (.gh ad j.Xa.length<|.jH ((ag.U)==af) (.gh ad j.Xa.length<|.oo (qv ((ag.V)>=(ae.V)))))) (.oo false)) λai=>.br ai (.ff false) (.nn (qt.wrap (ac+1))))) (.oo .u))
 0 [] λ_=>.jF (ab<=1024) (.jq (qv (aa<=8192))) (.jq false)
def rzx:=
 mkp1 func257 rzy
def vzv (j:azb):T Bool:=
 .loop (ik 3 [1] [0]) (.exit 0) (jk [1] [0]) (λaa=>let ab:=j.Xa.getD (aa.toNat) qu;.jF (aa<(j.Xa.length:Int)) (.cub 1 26 [1,3] [0] (.gh aa j.Xa.length<|.jI ((ab.Xn)<0) (.gh aa j.Xa.length<|.oo (qv ((ab.Xn)>1099511627776)))) λac=>.br ac (.ff false) (.nn (qt.wrap (aa+1)))) (.oo .u))
 0 [] λ_=>.cc (rzx j) λaa=>.jq aa
def nzf:=
 mkp1 func195 vzv
def Az2 (j:azb)(aa:Int)(ab:Int):T Bool:=let ac:=(j.Xb.length:Int);.cc (nzf j) λad=>.br ad (.jF (aa>=0) (.jF (aa<ac) (.jF (ab>=0) (.jq (qv (ab<ac))) (.jq false)) (.jq false)) (.jq false)) (.jq false)
def qz7:=
 mkp3 func253 Az2
def ozz (j:az1)(aa:Int):T Bool:=
 .br (aa==0) (.jq (j.Xw==1)) (.br (aa==1) (.br (j.Xw==1) (.jq true) (.jq (j.Xw==0))) (.br (aa==2) (.jq (j.Xw !=2)) (.jq false)))
def ozy:=
 mkp2 func306 ozz
def Dzz (j:azf)(aa:azf):T Bool:=let ab:=qv (aa.Xn<0);.cub 2 12 [2,3] [0,64] (.jG ab (.oo (qv (j.Xn<0)))) λac=>.br ac (.jF (j.Xn>=0) (.jq ab) (.jq false)) (.jF (j.Xn<aa.Xn) (.jq true) (.br (j.Xn==aa.Xn) (.jq (qv (j.Xa<aa.Xa))) (.jq false)))
def uz6:=
 mkp2 func361 Dzz
def wz2 (j:azb)(aa:Int)(ab:Int):T B0:=let ac:=(j.Xb.length:Int);.conv 1003 (Cz4 2 Cz7 387 ac.toNat (⟨0,0⟩:azf))<|.grd (0<=ac/\ac<=ac/\ac<=9223372036854775807/\ac * 16<=140737488355328)<|.loop (λs (ad:(B0×Int))=>pk s [1,2,3,7] [0] [(8,pz ad.2)] [(320,vO ad.1 387)]) (.exit 0) (λs (ad:B0)=>pk s [1,2,3,7] [0] [] [(320,vO ad 387)]) (λad=>let ae:=(ad.2).toNat;let af:=(⟨(-1),(ad.1.getD ae qu).Xa⟩:azf);.name 3002 ((ad.1.length:Int)) λag=>.jF (ad.2<ag) (.gh ad.2 ad.1.length<|.conv 5004 (kS ad.1 387 ae af)<|.gi (ad.2) ad.1.length<|.nn ((ad.1.set ae af),(qt.wrap (ad.2+1)))) (.oo ad.1)) ((qs ac.toNat ((⟨0,0⟩:azf):azf)),0) [] λad=>.gh aa ad.length<|.conv 6004 (kS ad 387 (aa.toNat) (⟨0,0⟩:azf))<|.gi (aa) ad.length<|.loop (λs (ae:B9)=>pk s [2,3,7] [0] [(9,q ae.2)] [(320,vO ae.1 387)]) (.exit 2) (λs (ae:B0)=>pk s [7] [] [] [(320,vO ae 387)]) (λae=>.br ae.2 (.loop (λs (af:(B0×Bool×Int))=>pk s [2,3,7] [0] [(9,q af.2.1),(10,pz af.2.2)] [(320,vO af.1 387)]) (.exit 4) (λs (af:B9)=>pk s [2,3,7] [0] [(9,q af.2)] [(320,vO af.1 387)]) (λaf=>let ag:=j.Xa.getD (X3 af.2.2) qu;let ah:=([(ag.U,ag.V),(ag.V,ag.U)]:B3);.jF (af.2.2<(j.Xa.length:Int)) (.cut 0 (λs (ai:B9)=>pk s [2,3,7,10] [0] [(9,q ai.2)] [(320,vO ai.1 387)]) (.gh af.2.2 j.Xa.length<|.cc (ozy ag ab) λai=>.br (!ai) (.oo (af.1,af.2.1)) (.conv 15010 (kL ah 375)<|.name 15011 ((ah.length:Int)) λaj=>.loop (λs (ak:(B0×Bool×Int))=>pk s [2,3,7,10,11,60,61] [0,1920,2944] [(9,q ak.2.1),(62,pz ak.2.2)] [(320,vO ak.1 387)]) (.exit 6) (λs (ak:B9)=>pk s [2,3,7,10] [0] [(9,q ak.2)] [(320,vO ak.1 387)]) (λak=>let al:=ah.getD (X3 ak.2.2) qu;.jF (ak.2.2<aj) (.cut 0 (λs (am:B9)=>pk s [2,3,7,10,11,60,61,62] [0,1920,2944] [(9,q am.2)] [(320,vO am.1 387)]) (.gg ak.2.2 (ah.length)<|.ix 0 2 rfl<|.name 18002 (al.1) λam=>let an:=ak.1.getD (am.toNat) qu;
 .gg am ak.1.length<|.jF ((an.Xn)<0) (.oo (ak.1,ak.2.1)) (.name 20004 ((qt.wrap ((an.Xn)+(ag.Xn)))) λao=>let ap:=(⟨ao,(qt.wrap ((an.Xa)+1))⟩:azf);
 .ix 1 2 rfl<|.name 21003 (al.2) λaq=>.gg aq ak.1.length<|.call (uz6 ap (ak.1.getD (aq.toNat) qu)) [] λar=>.br ar (.ix 1 2 rfl<|.name 22002 (al.2) λau=>.gh au ak.1.length<|.conv 22005 (kS ak.1 387 (au.toNat) ap)<|.gi (au) ak.1.length<|.oo ((ak.1.set (au.toNat) ap),true)) (.oo (ak.1,ak.2.1)))) λam=>.nn (am.1,am.2,(qt.wrap (ak.2.2+1)))) (.oo (ak.1,ak.2.1))) (af.1,af.2.1,0) [] λak=>.oo (ak.1,ak.2))) λai=>.nn (ai.1,ai.2,(qt.wrap (af.2.2+1)))) (.oo (af.1,af.2.1))) (ae.1,false,0) [] λaf=>.nn (af.1,af.2)) (.oo ae.1)) ((ad.set (aa.toNat) (⟨0,0⟩:azf)),true) [] λae=>.jq ae
def wz1:=
 mkp3 func305 wz2
def ozx (j:azb)(aa:Int)(ab:Int)(ac:Int):T (czp×Bool):=let ad:=([aa]:A4);let ae:=(⟨j.Xb,j.Xa⟩:azb);.cub 2 29 [1,2,3,4,8] [0,64,65] (.cc (qz7 ae aa ab) λaf=>.jG (!af) (.jI (ac<0) (.oo (qv (ac>2))))) λaf=>.br af (.jq ((⟨nl,0⟩:czp),false)) (.cc (wz1 ae ab ac) λag=>let ah:=ag.getD (aa.toNat) qu;
 .gh aa ag.length<|.jF ((ah.Xn)<0) (.jq ((⟨nl,0⟩:czp),false)) (.conv 6001 (kL ad 3)<|.gh aa ag.length<|.loop (λs (ai:Ah)=>pk s [2,3,4,8,10,11] [0,64,65,1472] [(12,pz ai.2)] [(1024,vO ai.1 3)]) (.exit 0) (λs (ai:A4)=>pk s [8,11] [64,65,1472] [] [(1024,vO ai 3)]) (λai=>let aj:=ag.getD (X3 ai.2) qu;.br (ai.2 !=ab) (.loop (λs (ak:B2)=>pk s [2,3,4,8,10,11,12] [0,64,65,1024,1472] [(13,pz ak.1),(14,pz ak.2)] []) (.exit 2) (ik 13 [2,3,4,8,10,11] [0,64,65,1024,1472]) (λak=>let al:=j.Xa.getD (X3 ak.2) qu;.jF (ak.2<(j.Xa.length:Int)) (.cut 0 (λs (am:Int)=>pk s [2,3,4,8,10,11,12,14] [0,64,65,1024,1472] [(13,pz am)] []) (.gh ak.2 j.Xa.length<|.cub 1 81 [2,3,4,8,10,11,12,13,14,15] [0,64,65,1024,1472,2816] (.cc (ozy al ac) λam=>.jG (!am) (.jH ((al.U) !=ai.2) (.oo ((al.V) !=ai.2)))) λam=>.br am (.oo ak.1) (.name 15006 ((qt.wrap ((qt.wrap ((al.U)+(al.V)))-ai.2))) λan=>let ao:=ag.getD (an.toNat) qu;
 .cub 0 133 [2,3,4,8,10,11,12,13,14,16] [0,64,65,1024,1472] (.gh an ag.length<|.jF ((ao.Xn)>=0) (.gh an ag.length<|.gh ai.2 ag.length<|.jH ((qt.wrap ((ao.Xn)+(al.Xn)))==(aj.Xn)) (.gh an ag.length<|.gh ai.2 ag.length<|.jH ((qt.wrap ((ao.Xa)+1))==(aj.Xa)) (.jI (ak.1<0) (.oo (qv (an<ak.1)))))) (.oo false)) λap=>.br ap (.oo an) (.oo ak.1))) λam=>.nn (am,(qt.wrap (ak.2+1)))) (.oo ak.1)) ((-1),0) [] λak=>let al:=([ak]:A4);let am:=ai.1.length+al.length;
 .conv 19003 (kL al 3)<|.conv 19004 (kA ai.1 al 3)<|.grd (am * 8<=140737488355328/\am<=maxLen)<|.nn ((ai.1++al),ak)) (.oo ai.1)) (ad,aa) [] λai=>.jq ((⟨ai,ah.Xn⟩:czp),true)))
def ozw:=
 mkq4 func254 ozx (λr=>.tup [q r.1,q r.2])
def fzr (j:azb)(aa:Int)(ab:Int):T Int:=
 .loop (ik 7 [1,2,3] [0]) (.exit 0) (jk [] []) (λac=>let ad:=j.Xa.getD (ac.toNat) qu;.jF (ac<(j.Xa.length:Int)) (.cub 1 36 [1,2,3,7] [0] (.gh ac j.Xa.length<|.jH ((ad.U)==(min aa ab)) (.gh ac j.Xa.length<|.oo ((ad.V)==(max aa ab)))) λae=>.br ae (.ff ac) (.nn (qt.wrap (ac+1)))) (.oo .u))
 0 [] λ_=>.jq (-1)
def hz7:=
 mkp3 func196 fzr
def Dzw (j:azb)(aa:Int)(ab:Int):T (Int×czp×Int):=
 .cc (qz7 j aa ab) λac=>.br (!ac) (.jq ((-1),(⟨nl,0⟩:czp),0)) (.cc (ozw (⟨j.Xb,j.Xa⟩:azb) aa ab 1) λad=>.br (!ad.2) (.jq ((-1),(⟨nl,0⟩:czp),2)) (.loop (ik 11 [3,7,9] [0,128,129,1024]) (.exit 0) (jk [7,9] [128,129,1024]) (λae=>let af:=qt.wrap (ae-1);.jF (ae<(ad.1.Xy.length:Int)) (.gh af ad.1.Xy.length<|.gh ae ad.1.Xy.length<|.call (hz7 j (ad.1.Xy.getD (af.toNat) qu) (ad.1.Xy.getD (ae.toNat) qu)) [] λag=>.gh ag j.Xa.length<|.br (((j.Xa.getD (ag.toNat) qu).Xw)==0) (.ff (ag,ad.1,3)) (.nn (qt.wrap (ae+1)))) (.oo .u))
 1 [] λ_=>.jq ((-1),ad.1,1)))
def jzy:=
 mkq3 func193 Dzw (λr=>.tup [pz r.1,q r.2.1,pz r.2.2])
def Az3 (j:azb)(aa:az1):T Bool:=let ab:=(j.Xb.length:Int);.jF (aa.U>=0) (.jF (aa.U<ab) (.jF (aa.V>=0) (.jq (qv (aa.V<ab))) (.jq false)) (.jq false)) (.jq false)
def Kz3:=
 mkp2 func255 Az3
def lz2 (j:az7)(aa:A4)(ab:A4):T Bool:=
 .cc (cza j) λac=>.br (ac==0) (.cc (dzm j.Xg aa) λad=>.br ad (.cc (dzm j.Xg ab) λae=>.jq ae) (.jq false)) (.jq false)
def qz5:=
 mkp3 func53 lz2
def vzc (j:A4)(aa:A4)(ab:Int):T Bool:=
 .cc (izb j) λac=>.br ac (.cc (izb aa) λad=>.br ad (.br ((j.length:Int)==(aa.length:Int)) (.jF (ab>=0) (.jq (qv (ab<=20))) (.jq false)) (.jq false)) (.jq false)) (.jq false)
def Gzh:=
 mkp3 func51 vzc
def zzc (j:A4)(aa:A4)(ab:Int)(ac:Int):T (Ae×Bool):=let ad:=IntKind.u64.wrap ab;let ae:=qt.wrap (1 * 2 ^ (min ad.toNat 64));.cub 2 31 [0,1,2,3] [] (.cc (Gzh j aa ab) λaf=>.jG (!af) (.jI (ac<0) (.grd (0<=ad)<|.oo (qv (ac>=ae))))) λaf=>.br af (.jq (nl,false)) (.grd (0<=ad)<|.loop (λs (ag:Af)=>pk s [0,1,3,10,11] [] [(12,pz ag.2)] [(448,vO ag.1 95)]) (.exit 0) (λs (ag:Ae)=>pk s [11] [] [] [(448,vO ag 95)]) (λag=>let ah:=(ag.2).toNat;let ai:=j.getD ah qu;let aj:=qt.wrap ((aa.getD ah qu)-ai);let ak:=qt.wrap (ac * aj);.jF (ag.2<(j.length:Int)) (.gh ag.2 aa.length<|.gh ag.2 j.length<|.name 9006 ((qt.wrap ((qt.wrap (ac+1)) * aj))) λal=>.gh ag.2 j.length<|.name 10007 ((min ak al)) λam=>.call (bz9 am ae) [] λan=>.gh ag.2 j.length<|.name 10017 ((max ak al)) λao=>.call (bz1 ao ae) [] λap=>let aq:=([(⟨(qt.wrap (ai+an)),(qt.wrap (ai+ap))⟩:az0)]:Ae);let ar:=ag.1.length+aq.length;
 .conv 10022 (kL aq 95)<|.conv 10023 (kA ag.1 aq 95)<|.grd (ar * 16<=140737488355328/\ar<=maxLen)<|.nn ((ag.1++aq),(qt.wrap (ag.2+1)))) (.oo ag.1)) (nl,0) [] λag=>.jq (ag,true))
def qz2:=
 mkq4 func54 zzc (λr=>.tup [q r.1,q r.2])
def zzo (j:az7)(aa:A4)(ab:A4)(ac:Int):T azo:=let ad:=(⟨j.Xg,j.Xe,j.Xr⟩:az7);.cub 2 28 [1,2,3,4,8] [0,64,66,69,71,72] (.cc (qz5 ad aa ab) λae=>.jG (!ae) (.jI (ac<0) (.oo (qv (ac>20))))) λae=>.br ae (.jq (⟨0,nl,(⟨0,0,nl⟩:az6),(⟨0,nl,nl⟩:bzd)⟩:azo)) (.conv 4001 (az8r 3 rz4 ([(⟨0,0,nl⟩:azt)]:B1) 137 [.agg [jD 0,jD 0,.lst 0 0 λ_=>.unk]] jw)<|.loop (λs (af:(An×B1))=>pk s [1,2,3,4,8,9,10] [0,64,66,69,71,72] [] [(192,vO af.1 76),(320,vO af.2 137)]) (.exit 0) (λs (af:An)=>pk s [8,9] [64,66,69,71,72] [] [(192,vO af 76)]) (λaf=>let ag:=(af.2.length:Int);let ah:=qt.wrap (ag-1);let ai:=af.2.take (ah.toNat);let aj:=af.2.getD (ah.toNat) qu;let ak:=aj.depth;let al:=aj.index;.jF (ag>0) (.gg ah af.2.length<|.conv 7004 (az4o 3 rz4 af.2 137 ah)<|.grd (0<=ah/\ah<=ag/\0<=ah.toNat)<|.name 8001 ak λam=>.name 8003 al λan=>let ao:=(⟨am,an,nl⟩:az6);let ap:=(⟨0,nl,ao,(⟨0,nl,nl⟩:bzd)⟩:azo);
 .jF ((af.1.length:Int)>=4096) (.ff ap) (.name 11003 ak λaq=>.name 11005 al λar=>.cc (qz2 aa ab aq ar) λau=>.call (jza ad au.1 (aj.hints)) [] λav=>.br (av.Xo==1) (.name 15002 ak λaw=>.name 15004 al λax=>let ay:=([(⟨aw,ax,av.Xm⟩:az6)]:An);let az:=af.1.length+ay.length;
 .conv 15008 (kL ay 76)<|.conv 15009 (kA af.1 ay 76)<|.grd (az * 40<=140737488355328/\az<=maxLen)<|.nn ((af.1++ay),ai)) (.br (av.Xo==2) (.ff (⟨2,nl,ao,av.Xx⟩:azo)) (.name 18001 ak λaw=>.br (aw==ac) (.ff ap) (.name 13002 ak λax=>.name 13005 al λay=>.name 13012 ak λaz=>.name 13015 al λa0=>let a1:=([(⟨(qt.wrap (ax+1)),(qt.wrap ((qt.wrap (2 * ay))+1)),av.Xm⟩:azt),(⟨(qt.wrap (az+1)),(qt.wrap (2 * a0)),av.Xm⟩:azt)]:B1);let a2:=ai.length+a1.length;
 .conv 13020 (kL a1 137)<|.conv 13021 (kA ai a1 137)<|.grd (a2 * 40<=140737488355328/\a2<=maxLen)<|.nn (af.1,(ai++a1))))))) (.oo af.1)) (nl,([(⟨0,0,nl⟩:azt)]:B1)) [] λaf=>.jq (⟨1,af,(⟨0,0,nl⟩:az6),(⟨0,nl,nl⟩:bzd)⟩:azo))
def lz1:=
 mkp4 func21 zzo
def Dzv (j:azb)(aa:Int)(ab:azo):T (azb×Bool):=let ac:=aa.toNat;let ad:=j.Xa.getD ac qu;.cub 2 36 [1,3,5,6] [0,64,128,129,130] (.jI (aa<0) (.jI (aa>=(j.Xa.length:Int)) (.gh aa j.Xa.length<|.jG ((ad.Xw)==1) (.gh aa j.Xa.length<|.oo ((ad.Xw)==2))))) λae=>.br ae (.jq (j,false)) (.cut 1 (λs (af:Int)=>pk s [1,3,5,6] [0,64,128,129,130] [(8,pz af)] []) (.br (ab.Xo==1) (.oo 1) (.br (ab.Xo==2) (.oo 2) (.br (ab.Xo==0) (.oo 3) (.ff (j,false))))) λaf=>let ag:=(⟨ad.U,ad.V,ad.Xn,af,ad.XI⟩:az1);let ah:=j.Xa.set ac ag;let ai:=ah.getD ac qu;let aj:=(⟨ai.U,ai.V,ai.Xn,ai.Xw,ab⟩:az1);
 .grd (j.Xa.length * 160<=140737488355328/\j.Xa.length<=maxLen)<|.gh aa j.Xa.length<|.conv 12010 (kS j.Xa 310 ac ag)<|.gi (aa) j.Xa.length<|.gh aa (ah.length)<|.conv 12013 (kS ah 310 ac aj)<|.gi (aa) (ah.length)<|.jq ((⟨j.Xb,(ah.set ac aj)⟩:azb),true))
def Dzu:=
 mkq3 func256 Dzv (λr=>.tup [q r.1,q r.2])
def Dzx (j:az7)(aa:azb)(ab:Int)(ac:Int):T (azb×Bool):=let ad:=aa.Xa.getD (ab.toNat) qu;let ae:=(⟨aa.Xb,aa.Xa⟩:azb);.cub 2 46 [2,3,4,5,8] [0,64,128,129,130] (.jI (ab<0) (.jI (ab>=(aa.Xa.length:Int)) (.gh ab aa.Xa.length<|.cc (Kz3 ae ad) λaf=>.jG (!af) (.gh ab aa.Xa.length<|.jG ((ad.Xw)==1) (.gh ab aa.Xa.length<|.oo ((ad.Xw)==2)))))) λaf=>.br af (.jq (ae,false)) (.gh ab aa.Xa.length<|.gh (ad.U) aa.Xb.length<|.gh ab aa.Xa.length<|.gh (ad.V) aa.Xb.length<|.call (lz1 (⟨j.Xg,j.Xe,j.Xr⟩:az7) (aa.Xb.getD (X3 ad.U) qu) (aa.Xb.getD (X3 ad.V) qu) ac) [] λag=>.cc (Dzu ae ab ag) λah=>.jq (ah.1,ah.2))
def Nzl:=
 mkq4 func194 Dzx (λr=>.tup [q r.1,q r.2])
def Dzt (j:az7)(aa:azb)(ab:Int)(ac:Int)(ad:Int)(ae:Int):T Bz:=
 .cc (cza j) λaf=>.br (af !=0) (.jq (aa,(⟨nl,0⟩:czp),0,0)) (.loop (λs (ag:(A5×Al×Int))=>pk s [2,3,4,5,6,7,12,13] [0,128,129,130,192,193] [(16,pz ag.2.2)] [(64,.box [q ag.1,q ag.2.1])])
 .ret (λ_ (_:U0)=>⟨[],[],[],0⟩) (λag=>let ah:=(⟨ag.1,ag.2.1⟩:azb);.cc (jzy ah ab ac) λai=>.br (ai.2.2 !=3) (.ff (ah,ai.2.1,ai.2.2,ag.2.2)) (.jF (ag.2.2>=ae) (.ff (ah,ai.2.1,4,ag.2.2)) (.cc (Nzl (⟨j.Xg,j.Xe,j.Xr⟩:az7) ah ai.1 ad) λaj=>.nn (aj.1.Xb,aj.1.Xa,(qt.wrap (ag.2.2+1)))))) (aa.Xb,aa.Xa,0) [] λ_=>.stop)
def Nzk:=
 mkq6 func126 Dzt (λr=>.tup [q r.1,q r.2.1,pz r.2.2.1,pz r.2.2.2])
def vzo (j:Bi)(aa:Bh):T Int:=
 .loop (ik 5 [0,3] [0]) (.exit 0) (jk [] []) (λab=>let ac:=j.getD (ab.toNat) qu;.jF (ab<(j.length:Int)) (.gh ab j.length<|.br (((ac.1)==aa.1)&&(((ac.2.1)==aa.2.1)&&(((ac.2.2)==aa.2.2)&&true))) (.ff ab) (.nn (qt.wrap (ab+1)))) (.oo .u))
 0 [] λ_=>.jq (-1)
def vzn:=
 mkp2 func258 vzo
def Dze (j:An):T azr:=
 .loop (λs (aa:(Bi×Av×Int))=>pk s [0,2,3] [0,1,2,64] [(4,pz aa.2.2)] [(65,vS aa.1 89),(66,vO aa.2.1 316)]) (.exit 0) (λs (aa:(Bi×Av))=>pk s [2,3] [0,1,2,64] [] [(65,vS aa.1 89),(66,vO aa.2 316)]) (λaa=>let ab:=j.getD (X3 aa.2.2) qu;let ac:=ab.Xm.length;.jF (aa.2.2<(j.length:Int)) (.gh aa.2.2 j.length<|.gh aa.2.2 j.length<|.loop (λs (ad:(Bi×A4×Int))=>pk s [0,2,3,4,5] [0,1,2,64,66,1216] [(6,pz ad.2.2)] [(65,vS ad.1 89),(1154,vO ad.2.1 3)]) (.exit 2) (λs (ad:(Bi×A4))=>pk s [0,2,3,4,5] [0,1,2,64,66,1216] [] [(65,vS ad.1 89),(1154,vO ad.2 3)]) (λad=>let ae:=(ab.Xm).getD (X3 ad.2.2) qu;let af:=([ae]:Bi);let ag:=ad.1.length+af.length;.gh aa.2.2 j.length<|.jF (ad.2.2<(ab.Xm.length:Int)) (.gh aa.2.2 j.length<|.gh ad.2.2 ac<|.call (vzn ad.1 ae) [] λah=>.cut 0 (λs (ai:Bj)=>pk s [0,2,3,4,5,6] [0,1,2,66,1154,1216] [(7,pz ai.2)] [(64,.box [.vec 2752,.vec 66]),(2752,vS ai.1 89)]) (.jF (ah<0) (.gh aa.2.2 j.length<|.gh ad.2.2 ac<|.conv 12010 (kL af 89)<|.conv 12011 (az8q 3 azv ad.1 af 89)<|.grd (ag * 24<=140737488355328/\ag<=maxLen)<|.oo ((ad.1++af),(ad.1.length:Int))) (.oo (ad.1,ah))) λai=>let aj:=([ai.2]:A4);let ak:=ad.2.1.length+aj.length;
 .conv 13003 (kL aj 3)<|.conv 13004 (kA ad.2.1 aj 3)<|.grd (ak * 8<=140737488355328/\ak<=maxLen)<|.nn (ai.1,(ad.2.1++aj),(qt.wrap (ad.2.2+1)))) (.oo (ad.1,ad.2.1))) (aa.1,nl,0) [] λad=>let ae:=([(⟨ab.Xi,ab.Xs,ad.2⟩:ez4)]:Av);let af:=aa.2.1.length+ae.length;
 .conv 14003 (kL ae 316)<|.conv 14004 (kA aa.2.1 ae 316)<|.grd (af * 40<=140737488355328/\af<=maxLen)<|.nn (ad.1,(aa.2.1++ae),(qt.wrap (aa.2.2+1)))) (.oo (aa.1,aa.2.1))) (nl,nl,0) [] λaa=>.jq (⟨aa.1,aa.2⟩:azr)
def jzx:=
 mkp1 func197 Dze
def rzo (j:bza):T bza:=
 .loop (λs (aa:Ap)=>pk s [1,2,3] [0,64,65,66,128,130] [(4,pz aa.2)] [(129,vO aa.1 39)]) (.exit 0) (λs (aa:A5)=>pk s [1,2,3] [0,64,65,66,128,130] [] [(129,vO aa 39)]) (λaa=>let ab:=([(j.Xb.getD (X3 aa.2) qu)]:A5);let ac:=aa.1.length+ab.length;.jF (aa.2>=0) (.gh aa.2 j.Xb.length<|.conv 5007 (kL ab 39)<|.conv 5008 (kA aa.1 ab 39)<|.grd (ac * 24<=140737488355328/\ac<=maxLen)<|.nn ((aa.1++ab),(qt.wrap (aa.2-1)))) (.oo aa.1)) (nl,(qt.wrap ((j.Xb.length:Int)-1))) [] λaa=>.loop (λs (ab:(Aw×Int))=>pk s [1,2,3] [0,64,65,66,128,129] [(5,pz ab.2)] [(130,vO ab.1 251)]) (.exit 2) (λs (ab:Aw)=>pk s [2,3] [64,65,66,128,129] [] [(130,vO ab 251)]) (λab=>let ac:=j.Xa.getD (X3 ab.2) qu;.jF (ab.2>=0) (.gh ab.2 j.Xa.length<|.gh ab.2 j.Xa.length<|.name 10007 ((qt.wrap ((ac.XC.length:Int)-1))) λad=>.loop (λs (ae:(Av×Int))=>pk s [1,2,3,5,6] [0,64,65,66,128,129,130,1536] [(7,pz ae.2)] [(1473,vO ae.1 316)]) (.exit 4) (λs (ae:Av)=>pk s [1,2,3,5,6] [0,64,65,66,128,129,130,1536] [] [(1473,vO ae 316)]) (λae=>let af:=(ac.XC).getD (X3 ae.2) qu;let ag:=af.Xi;.jF (ae.2>=0) (.gh ab.2 j.Xa.length<|.gh ae.2 (ac.XC.length)<|.cut 0 (λs (ah:Int)=>pk s [1,2,3,5,6,7,8] [0,64,65,66,128,129,130,1473,1536] [] [(3008,.box [pz ag,pz ah,q (af.Xq)])]) (.cub 0 70 [1,2,3,5,6,7,8] [0,64,65,66,128,129,130,1473,1536,3008] (.name 14001 ag λah=>.jF (ah>=0) (.name 14005 ag λai=>.oo (qv (ai<=20))) (.oo false)) λah=>.br ah (.name 15001 ag λai=>let aj:=IntKind.u64.wrap ai;
 .grd (0<=aj)<|.name 15006 (af.Xs) λak=>.name 15007 ((qt.wrap ((qt.wrap ((qt.wrap (1 * 2 ^ (min aj.toNat 64)))-1))-ak))) λal=>.oo al) (.oo (af.Xs))) λah=>let ai:=([(⟨af.Xi,ah,af.Xq⟩:ez4)]:Av);let aj:=ae.1.length+ai.length;
 .conv 16003 (kL ai 316)<|.conv 16004 (kA ae.1 ai 316)<|.grd (aj * 40<=140737488355328/\aj<=maxLen)<|.nn ((ae.1++ai),(qt.wrap (ae.2-1)))) (.oo ae.1)) (nl,ad) [] λae=>let af:=([(⟨ac.XA,ae⟩:azr)]:Aw);let ag:=ab.1.length+af.length;
 .conv 17003 (kL af 251)<|.conv 17004 (kA ab.1 af 251)<|.grd (ag * 48<=140737488355328/\ag<=maxLen)<|.nn ((ab.1++af),(qt.wrap (ab.2-1)))) (.oo ab.1)) (nl,(qt.wrap ((j.Xa.length:Int)-1))) [] λab=>.jq (⟨aa,ab⟩:bza)
def Dzf:=
 mkp1 func198 rzo
def rzp (j:az7)(aa:A5):T B2:=let ab:=(aa.length:Int);.cc (cza j) λac=>.br (ac !=0) (.jq (0,904)) (.cub 1 17 [1,2] [0] (.jI (ab<2) (.oo (qv (ab>256)))) λad=>.br ad (.jq (0,2201)) (.loop (ik 6 [1,2] [0]) (.exit 0) (jk [] []) (λae=>.jF (ae<ab) (.gh ae aa.length<|.cc (dzm j.Xg (aa.getD (ae.toNat) qu)) λaf=>.br (!af) (.ff (ae,1201)) (.nn (qt.wrap (ae+1)))) (.oo .u))
 0 [] λ_=>.jq (0,0)))
def Dzg:=
 mkq2 func129 rzp (λr=>.tup [pz r.1,pz r.2])
def zzq (j:az6):T Br:=let aa:=IntKind.u64.wrap (qt.wrap (20-j.Xi));let ab:=IntKind.u64.wrap j.Xi;let ac:=qt.wrap (1 * 2 ^ (min aa.toNat 64));.cub 2 27 [1] [0] (.jI (j.Xi<0) (.jI (j.Xi>20) (.jI (j.Xs<0) (.grd (0<=ab)<|.oo (qv (j.Xs>=(qt.wrap (1 * 2 ^ (min ab.toNat 64))))))))) λad=>.br ad (.jq (0,0,false)) (.grd (0<=aa)<|.name 4003 ((qt.wrap (j.Xs * ac))) λae=>.jq (ae,ac,true))
def zzp:=
 mkq1 func260 zzq (λr=>.tup [pz r.1,pz r.2.1,q r.2.2])
def zzr (j:An):T Bc:=let aa:=(j.length:Int);.loop (λs (ab:B2)=>pk s [0] [] [(4,pz ab.1),(5,pz ab.2)] []) (.exit 0) (ik 4 [0] []) (λab=>.jF (ab.2<aa) (.gh ab.2 j.length<|.cc (zzp (j.getD (X3 ab.2) qu)) λac=>.cub 1 34 [0,5,6,7] [] (.jG (!ac.2.2) (.jG (ac.1 !=ab.1) (.oo (qv (ab.2>=4096))))) λad=>.br ad (.ff (ab.2,false)) (.nn ((qt.wrap (ac.1+ac.2.1)),(qt.wrap (ab.2+1))))) (.oo ab.1)) (0,0) [] λab=>.jq (aa,(ab==1048576))
def Jzx:=
 mkq1 func200 zzr (λr=>.tup [pz r.1,q r.2])
def mze (j:az7)(aa:Ae)(ab:Bi):T Bool:=
 .cc (zzk j aa) λac=>let ad:=(ac.1.length:Int);
 .cub 1 26 [2,7,8] [] (.jG (!ac.2.2) (.oo ((ab.length:Int) !=ad))) λae=>.br ae (.jq false) (.loop (ik 10 [2,7,8] []) (.exit 0) (jk [] []) (λaf=>let ag:=af.toNat;let ah:=ac.1.getD ag qu;let ai:=ac.2.1.getD ag qu;.jF (af<ad) (.gh af ab.length<|.gh af ac.1.length<|.gh af ac.1.length<|.gh af ac.2.1.length<|.gh af ac.2.1.length<|.cc (mzf (ab.getD ag qu) (ah.points) (ah.radius) (ai.points) (ai.radius)) λaj=>.br (!aj) (.ff false) (.nn (qt.wrap (af+1)))) (.oo .u))
 0 [] λ_=>.jq true)
def izc:=
 mkp3 func201 mze
def mzi (j:az7)(aa:A4)(ab:A4)(ac:An):T B2:=
 .cc (cza j) λad=>.br (ad !=0) (.jq (0,904)) (.cc (qz5 j aa ab) λae=>.br (!ae) (.jq (0,1201)) (.cc (Jzx ac) λaf=>.br (!af.2) (.jq (af.1,2001)) (.loop (ik 12 [1,2,3,4] [0]) (.exit 0) (jk [] []) (λag=>let ah:=ac.getD (ag.toNat) qu;.jF (ag<(ac.length:Int)) (.gh ag ac.length<|.gh ag ac.length<|.cc (qz2 aa ab (ah.Xi) (ah.Xs)) λai=>.gh ag ac.length<|.cc (izc j ai.1 (ah.Xm)) λaj=>.br (!aj) (.ff (ag,2002)) (.nn (qt.wrap (ag+1)))) (.oo .u))
 0 [] λ_=>.jq (0,0))))
def xzd:=
 mkq4 func131 mzi (λr=>.tup [pz r.1,pz r.2])
def vzm (j:az7)(aa:A4)(ab:A4)(ac:az6)(ad:az6):T (az6×Bool):=let ae:=qt.wrap (ac.Xi-1);let af:=qt.wrap (ac.Xs.tdiv 2);let ag:=(⟨ae,af,ad.Xm⟩:az6);.cub 2 38 [1,2,5,8,9,10] [0,64,128,192,195] (.jG (ac.Xi !=ad.Xi) (.jI (ac.Xi<1) (.ok ((2:Int)≠0) jr<|.jG ((ac.Xs.tmod 2) !=0) (.oo (ad.Xs !=(qt.wrap (ac.Xs+1))))))) λah=>.br ah (.jq ((⟨0,0,nl⟩:az6),false)) (.ok ((2:Int)≠0) jr<|.cc (qz2 aa ab ae af) λai=>.cub 1 66 [5,9,10,12,13,14] [0,128,192,195,960] (.jH ai.2 (.cc (izc j ai.1 ac.Xm) λaj=>.oo aj)) λaj=>.br aj (.jq ((⟨ae,af,ac.Xm⟩:az6),true)) (.br ai.2 (.cc (izc j ai.1 ad.Xm) λak=>.jq (ag,ak)) (.jq (ag,false))))
def vzl:=
 mkq5 func362 vzm (λr=>.tup [q r.1,q r.2])
def zzn (j:az7)(aa:A4)(ab:A4)(ac:An):T An:=
 .cc (xzd j aa ab ac) λad=>.br (ad.2 !=0) (.jq ac) (.grd (ac.length * 40<=140737488355328/\ac.length<=maxLen)<|.loop (λs (ae:Ao)=>pk s [1,2,4,11] [0] [(12,pz ae.2)] [(960,vO ae.1 76)]) (.exit 0) (λs (ae:An)=>pk s [11] [] [] [(960,vO ae 76)]) (λae=>let af:=(ae.1.length:Int);let ag:=qt.wrap (ae.2+1);let ah:=qt.wrap (ae.2+2);let ai:=(ae.1.drop (ah.toNat)).take (af.toNat-ah.toNat);let aj:=(ae.1.drop (X3 (0:Int))).take ((ae.2).toNat- (0:Int).toNat);.jF (ag<af) (.gg ae.2 ae.1.length<|.gg ag ae.1.length<|.call (vzl j aa ab (ae.1.getD (X3 ae.2) qu) (ae.1.getD (ag.toNat) qu)) [] λak=>let al:=([ak.1]:An);let am:=aj++al;let an:=aj.length+al.length;let ao:=am.length+ai.length;
 .br (!ak.2) (.nn (ae.1,ag)) (.unroll 1<|.conv 10002 (Cz5 3 xz4 ae.1 (0:Int) ae.2)<|.grd (0<=(0:Int)/\(0:Int)<=ae.2/\ae.2<=af)<|.grd (aj.length * 40<=140737488355328/\aj.length<=maxLen)<|.conv 11002 (kL al 76)<|.conv 11003 (kA aj al 76)<|.grd (an * 40<=140737488355328/\an<=maxLen)<|.unroll 1<|.conv 12004 (Cz5 3 xz4 ae.1 ah af)<|.grd (0<=ah/\ah<=af/\af<=af)<|.conv 12005 (kA am ai 76)<|.grd (ao * 40<=140737488355328/\ao<=maxLen)<|.nn ((am++ai),0))) (.oo ae.1)) (ac,0) [] λae=>.jq ae)
def Jzv:=
 mkp4 func307 zzn
def Dzd (j:az7)(aa:A4)(ab:A4)(ac:Int):T (azr×Bool):=
 .cc (lz1 j aa ab ac) λad=>.br (ad.Xo !=1) (.jq ((⟨nl,nl⟩:azr),false)) (.cc (Jzv j aa ab ad.Xz) λae=>.cc (jzx ae) λaf=>.jq (af,true))
def nzu:=
 mkq4 func259 Dzd (λr=>.tup [q r.1,q r.2])
def zzm (j:az7)(aa:A5)(ab:Int):T (bza×Int×Int):=
 .cc (Dzg j aa) λac=>.br (ac.2 !=0) (.jq ((⟨nl,nl⟩:bza),ac.1,ac.2)) (.loop (λs (ad:(A5×Aw×Int))=>pk s [1,2,3,6,11] [0,64,65,66,896] [(12,pz ad.2.2)] [(897,vO ad.1 39),(898,vO ad.2.1 251)]) (.exit 0) (λs (ad:(A5×Aw))=>pk s [6,11] [64,65,66,896] [] [(897,vO ad.1 39),(898,vO ad.2 251)]) (λad=>let ae:=aa.getD (X3 ad.2.2) qu;let af:=qt.wrap (ad.2.2-1);let ag:=([ae]:A5);let ah:=ad.1.length+ag.length;.jF (ad.2.2<(aa.length:Int)) (.cut 0 (λs (ai:Aw)=>pk s [1,2,3,6,11,12] [0,64,65,66] [] [(896,.box [.vec 1344,.vec 898]),(898,vO ai 251),(1344,vO (ad.1++ag) 39)]) (.gh ad.2.2 aa.length<|.grd (ae.length * 8<=140737488355328/\ae.length<=maxLen)<|.conv 8007 (kL ag 39)<|.conv 8008 (kA ad.1 ag 39)<|.grd (ah * 24<=140737488355328/\ah<=maxLen)<|.br (ad.2.2==0) (.oo ad.2.1) (.gh af aa.length<|.gh ad.2.2 aa.length<|.call (nzu j (aa.getD (af.toNat) qu) ae ab) [] λai=>let aj:=([ai.1]:Aw);let ak:=ad.2.1.length+aj.length;
 .br (!ai.2) (.ff (.fin ((⟨nl,nl⟩:bza),af,2204))) (.conv 13003 (kL aj 251)<|.conv 13004 (kA ad.2.1 aj 251)<|.grd (ak * 48<=140737488355328/\ak<=maxLen)<|.oo (ad.2.1++aj)))) λai=>.nn ((ad.1++ag),ai,(qt.wrap (ad.2.2+1)))) (.oo (ad.1,ad.2.1))) (nl,nl,0) [] λad=>.jq ((⟨ad.1,ad.2⟩:bza),0,0))
def Jzu:=
 mkq3 func199 zzm (λr=>.tup [q r.1,pz r.2.1,pz r.2.2])
def nzh (j:az7)(aa:azb)(ab:czp):T (bza×Bool):=let ac:=(ab.Xy.length:Int);.cub 2 31 [3,4,5,6] [0,64,128,192,193,194] (.cc (nzf aa) λad=>.jG (!ad) (.jI (ac<1) (.oo (qv (ac>256))))) λad=>.br ad (.jq ((⟨nl,nl⟩:bza),false)) (.loop (λs (ae:(A5×Aw×Int))=>pk s [3,4,5,6,8] [0,64,128,192,193,194,384] [(9,pz ae.2.2)] [(385,vO ae.1 39),(386,vO ae.2.1 251)]) (.exit 0) (λs (ae:(A5×Aw))=>pk s [3,6,8] [0,192,193,194,384] [] [(385,vO ae.1 39),(386,vO ae.2 251)]) (λae=>let af:=qt.wrap (ae.2.2-1);let ag:=ab.Xy.getD (X3 ae.2.2) qu;let ah:=aa.Xb.getD (ag.toNat) qu;let ai:=([ah]:A5);let aj:=ae.1.length+ai.length;let ak:=ab.Xy.getD (af.toNat) qu;let al:=([ah,(aa.Xb.getD (ak.toNat) qu)]:A5);.jF (ae.2.2<ac) (.cut 0 (λs (am:Aw)=>pk s [3,4,5,6,8,9] [0,64,128,192,193,194] [] [(384,.box [.vec 896,.vec 386]),(386,vO am 251),(896,vO (ae.1++ai) 39)]) (.gh ae.2.2 ab.Xy.length<|.cub 1 53 [3,4,5,6,8,9,10] [0,64,128,192,193,194,384,385,386] (.jI (ag<0) (.oo (qv (ag>=(aa.Xb.length:Int))))) λam=>.br am (.ff (.fin ((⟨nl,nl⟩:bza),false))) (.gh ag aa.Xb.length<|.conv 10007 (kL ai 39)<|.conv 10008 (kA ae.1 ai 39)<|.grd (aj * 24<=140737488355328/\aj<=maxLen)<|.br (ae.2.2==0) (.oo ae.2.1) (.gh af ab.Xy.length<|.call (hz7 (⟨aa.Xb,aa.Xa⟩:azb) ak ag) [] λan=>let ao:=aa.Xa.getD (an.toNat) qu;
 .cub 1 87 [3,4,5,6,8,9,10,11,12] [0,64,128,192,193,194,384,386,1856] (.jI (an<0) (.gh an aa.Xa.length<|.oo ((ao.Xw) !=1))) λap=>.br ap (.ff (.fin ((⟨nl,nl⟩:bza),false))) (.gh an aa.Xa.length<|.cc (jzx (ao.XI.Xz)) λaq=>let ar:=([aq]:Aw);
 .cut 0 (λs (au:(Bi×Av))=>pk s [3,4,5,6,8,9,13] [0,64,128,192,193,194,384,386,1856] [] [(3520,.box [q au.1,q au.2])]) (.jF (ak>ag) (.gh ag aa.Xb.length<|.gh ak aa.Xb.length<|.conv 18010 (kL al 39)<|.conv 18012 (kL ar 251)<|.call (Dzf (⟨al,ar⟩:bza)) [] λau=>let av:=au.Xa.getD (X3 (0:Int)) qu;
 .gh (0:Int) au.Xa.length<|.oo (av.XA,av.XC)) (.oo (aq.XA,aq.XC))) λau=>let av:=([(⟨au.1,au.2⟩:azr)]:Aw);let aw:=ae.2.1.length+av.length;
 .conv 19003 (kL av 251)<|.conv 19004 (kA ae.2.1 av 251)<|.grd (aw * 48<=140737488355328/\aw<=maxLen)<|.oo (ae.2.1++av))))) λam=>.nn ((ae.1++ai),am,(qt.wrap (ae.2.2+1)))) (.oo (ae.1,ae.2.1))) (nl,nl,0) [] λae=>let af:=ae.1.getD (X3 (0:Int)) qu;let ag:=([af,af]:A5);
 .br ((ae.1.length:Int)==1) (.gg (0:Int) ae.1.length<|.gg (0:Int) ae.1.length<|.conv 21009 (kL ag 39)<|.cc (Jzu j ag 0) λah=>.jq (ah.1,(ah.2.2==0))) (.jq ((⟨ae.1,ae.2⟩:bza),true)))
def vzz:=
 mkq3 func128 nzh (λr=>.tup [q r.1,q r.2])
def wz7 (j:az7)(aa:A4)(ab:A4)(ac:cz2):T Bs:=let ad:=(⟨j.Xg,j.Xe,j.Xr⟩:az7);.cub 2 38 [1,2,4,7,8] [0,64,128,129,130] (.cc (cza j) λae=>.jG (ae !=0) (.cc (dzm j.Xg aa) λaf=>.jG (!af) (.cc (dzm j.Xg ab) λag=>.jG (!ag) (.cc (nzj ac) λah=>.oo (!ah))))) λae=>.br ae (.jq ((⟨nl,nl⟩:bza),0,false)) (.cc (sz6 ad aa ab (⟨ac.XG,ac.XJ,ac.Xi,ac.XN⟩:cz2)) λaf=>.cc (mzk af.Xb ab) λag=>.cc (Nzk ad (⟨af.Xb,af.Xa⟩:azb) 0 ag ac.Xi ac.XN) λah=>.br (ah.2.2.1 !=1) (.jq ((⟨nl,nl⟩:bza),ah.2.2.2,false)) (.cc (vzz j (⟨ah.1.Xb,ah.1.Xa⟩:azb) ah.2.1) λai=>.jq (ai.1,ah.2.2.2,ai.2)))
def wz6:=
 mkq4 func71 wz7 (λr=>.tup [q r.1,pz r.2.1,q r.2.2])
def sz9 (j:az2)(aa:azm)(ab:A4)(ac:A9)(ad:cz2):T (Ax×tz2×Bool):=let ae:=(⟨j.Xl,j.Xd,j.Xh,j.Xj,j.Xk,j.Xp⟩:az2);.loop (λs (af:(A4×A4×Ax×Int))=>pk s [3,5,6,9,11,13] [0,128,256,257] [(2,q af.1),(14,pz af.2.2.2)] [(64,.box [q af.2.1]),(384,vO af.2.2.1 68)]) (.exit 0) (λs (af:Ax)=>pk s [11,13] [256,257] [] [(384,vO af 68)]) (λaf=>let ag:=(⟨af.2.1⟩:azm);let ah:=ac.getD (X3 af.2.2.2) qu;.jF (af.2.2.2<(ac.length:Int)) (.cc (fza ae ag) λai=>.loop (λs (aj:(A4×Ax×Bool×Int))=>pk s [3,5,6,9,11,13,14,15] [0,64,128,256,257,1216] [(2,q aj.1),(17,q aj.2.2.1),(18,pz aj.2.2.2)] [(384,vO aj.2.1 68)]) (.exit 2) (λs (aj:(A4×Ax×Bool))=>pk s [3,5,6,9,11,13,14] [0,64,128,256,257] [(2,q aj.1),(17,q aj.2.2)] [(384,vO aj.2.1 68)]) (λaj=>let ak:=j.Xk.getD (X3 aj.2.2.2) qu;.cub 1 42 [2,3,5,6,9,11,13,14,15,17,18] [0,64,128,256,257,384,1216] (.jF (aj.2.2.2<(j.Xk.length:Int)) (.oo (!aj.2.2.1)) (.oo false)) λal=>.br al (.cut 0 (λs (am:(A4×Ax×Bool))=>pk s [3,5,6,9,11,13,14,15,18] [0,64,128,256,257,1216] [(2,q am.1),(17,q am.2.2)] [(384,vO am.2.1 68)]) (.gh af.2.2.2 ac.length<|.cc (Az5 ae ag ah aj.2.2.2) λam=>.br (!am) (.oo (aj.1,aj.2.1,aj.2.2.1)) (.gh aj.2.2.2 j.Xk.length<|.cc (wz6 ai.1 aj.1 (ak.At) (⟨ad.XG,ad.XJ,ad.Xi,ad.XN⟩:cz2)) λan=>let ao:=([(⟨ah,aj.2.2.2,an.1⟩:aze)]:Ax);let ap:=aj.2.1.length+ao.length;
 .br an.2.2 (.gh af.2.2.2 ac.length<|.conv 13008 (kL ao 68)<|.conv 13009 (kA aj.2.1 ao 68)<|.grd (ap * 80<=140737488355328/\ap<=maxLen)<|.gh aj.2.2.2 j.Xk.length<|.oo (ak.At,(aj.2.1++ao),true)) (.oo (aj.1,aj.2.1,aj.2.2.1)))) λam=>.nn (am.1,am.2.1,am.2.2,(qt.wrap (aj.2.2.2+1)))) (.oo (aj.1,aj.2.1,aj.2.2.1))) (af.1,af.2.2.1,false,0) [] λaj=>.br (!aj.2.2) (.gh af.2.2.2 ac.length<|.ff (nl,(⟨ag,ah⟩:tz2),false)) (.gh af.2.2.2 ac.length<|.cc (ezw ae ag ah) λak=>.nn (aj.1,ak.1.Xf,aj.2.1,(qt.wrap (af.2.2.2+1))))) (.oo af.2.2.1)) (ab,aa.Xf,nl,0) [] λaf=>.jq (af,(⟨(⟨nl⟩:azm),(⟨0,0,0⟩:aza)⟩:tz2),true)
def sz8:=
 mkq5 func37 sz9 (λr=>.tup [q r.1,q r.2.1,q r.2.2])
def pz3 (j:az2)(aa:azm)(ab:A4)(ac:A4)(ad:cz2)(ae:Int):T (Ax×Int):=let af:=(⟨aa.Xf⟩:azm);let ag:=(⟨j.Xl,j.Xd,j.Xh,j.Xj,j.Xk,j.Xp⟩:az2);.cub 2 53 [2,3,5,6,7,10] [0,64,128] (.cc (dzi ag af) λah=>.jG (!ah) (.cc (dzm j.Xl.Xg ab) λai=>.jG (!ai) (.jG ((ac.length:Int) !=(j.Xd.length:Int)) (.jI (ae<1) (.jI (ae>64) (.cc (nzj ad) λaj=>.oo (!aj))))))) λah=>.br ah (.jq (nl,0)) (.loop (λs (ai:(Ab×Int))=>pk s [2,3,5,6,7,10,14] [0,64,128] [(15,pz ai.2)] [(384,vS ai.1 122)]) (.exit 0) (jk [] []) (λai=>.jF (ai.2<ae) (.cc (mzp ag af ac 16 ai.1) λaj=>.br (!aj.2) (.ff (nl,2)) (.cc (sz8 ag af ab aj.1 (⟨ad.XG,ad.XJ,ad.Xi,ad.XN⟩:cz2)) λak=>let al:=([ak.2.1]:Ab);let am:=ai.1.length+al.length;
 .br ak.2.2 (.ff (ak.1,1)) (.conv 13002 (kL al 122)<|.conv 13003 (az8q 4 az8x ai.1 al 122)<|.grd (am * 48<=140737488355328/\am<=maxLen)<|.nn ((ai.1++al),(qt.wrap (ai.2+1)))))) (.oo .u)) (nl,0) [] λ_=>.jq (nl,4))
def pz2:=
 mkq6 func12 pz3 (λr=>.tup [q r.1,pz r.2])
def vzk (j:azr):T (An×Bool):=
 .loop (λs (aa:Ao)=>pk s [1,4] [0] [(5,pz aa.2)] [(192,vO aa.1 76)]) (.exit 0) (λs (aa:An)=>pk s [4] [] [] [(192,vO aa 76)]) (λaa=>let ab:=j.XC.getD (X3 aa.2) qu;let ac:=ab.Xq.length;.jF (aa.2<(j.XC.length:Int)) (.gh aa.2 j.XC.length<|.loop (λs (ad:Bj)=>pk s [1,4,5,6,7] [0,192,1024,1472] [(8,pz ad.2)] [(1410,vO ad.1 89)]) (.exit 2) (λs (ad:Bi)=>pk s [1,4,5,7] [0,192,1472] [] [(1410,vO ad 89)]) (λad=>let ae:=(ab.Xq).getD (X3 ad.2) qu;let af:=([(j.XA.getD (ae.toNat) qu)]:Bi);let ag:=ad.1.length+af.length;.jF (ad.2<(ab.Xq.length:Int)) (.cub 2 49 [1,4,5,6,7,8] [0,192,1024,1410,1472] (.gh ad.2 ac<|.jI (ae<0) (.gh ad.2 ac<|.oo (qv (ae>=(j.XA.length:Int))))) λah=>.br ah (.ff (.fin (nl,false))) (.gh ad.2 ac<|.gh ae j.XA.length<|.conv 12011 (kL af 89)<|.conv 12012 (kA ad.1 af 89)<|.grd (ag * 24<=140737488355328/\ag<=maxLen)<|.nn ((ad.1++af),(qt.wrap (ad.2+1))))) (.oo ad.1)) (nl,0) [] λad=>let ae:=([(⟨ab.Xi,ab.Xs,ad⟩:az6)]:An);let af:=aa.1.length+ae.length;
 .conv 13002 (kL ae 76)<|.conv 13003 (kA aa.1 ae 76)<|.grd (af * 40<=140737488355328/\af<=maxLen)<|.nn ((aa.1++ae),(qt.wrap (aa.2+1)))) (.oo aa.1)) (nl,0) [] λaa=>.jq (aa,true)
def vzj:=
 mkq1 func130 vzk (λr=>.tup [q r.1,q r.2])
open Go.Proofs
def hzo (j:A4)(aa:A4)(ab:A4)(ac:A4)(ad:A4):T Bool:=
 .cc (Bz0 j) λae=>.cc (Qzu ae aa) λaf=>.cc (yzx ae.Xl.Xg ac) λag=>.cc (tzo ae ab) λah=>.cc (hz4 1 9) λai=>.cc (pz2 ae af ag ah ai 2) λaj=>.loop (λs (ak:Ah)=>pk s [4,11,12,13,15,17] [192,768,1024] [(18,pz ak.2)] [(2048,.box [q ak.1])]) (.exit 0) (λs (ak:A4)=>pk s [4,11,12,13,15,17] [192,768,1024] [] [(2048,.box [q ak])]) (λak=>.jF (ak.2<(aj.1.length:Int)) (.gh ak.2 aj.1.length<|.cc (ezw ae (⟨ak.1⟩:azm) ((aj.1.getD (X3 ak.2) qu).Xt)) λal=>.nn (al.1.Xf,(qt.wrap (ak.2+1)))) (.oo ak.1)) (af.Xf,0) [] λak=>.cc (tzo ae ad) λal=>.loop (λs (am:(Bool×Int))=>pk s [11,12,13,15,17,19] [192,768,1024,2048] [(20,q am.1),(21,pz am.2)] []) (.exit 2) (λs (am:Bool)=>pk s [11,12,13,15,17,19] [192,768,1024,2048] [(20,q am)] []) (λam=>let an:=(am.2).toNat;let ao:=al.getD an qu;.jF (am.2<(al.length:Int)) (.cub 0 20 [11,12,13,15,17,19,21] [192,768,1024,2048] (.jH am.1 (.gh am.2 al.length<|.jG (ao==(-1048576)) (.gh am.2 al.length<|.gh am.2 ak.length<|.oo (ao==(ak.getD an qu))))) λap=>.nn (ap,(qt.wrap (am.2+1)))) (.oo am.1)) (true,0) [] λam=>.cc (ezq ae af ag ak aj.1) λan=>.cc (ezq ae af ag al aj.1) λao=>.cc (law39_awake_C) λap=>.br ap (.br (an.2==0) (.br ((ao.2==0)==am) (.br am (.jq true) (.jq (ao.2==3902))) (.jq false)) (.jq false)) (.jq false)
def czt:=
 mkp5 func5 hzo
end Go.Abs
