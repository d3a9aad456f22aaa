import Derived.Test.YtnfbbidmdkfilaaGreatDoorZDD3
open Decidable renaming decide->qv
open Go.IntKind renaming i64->qt
open Inhabited renaming default->qu
open List renaming replicate->qs
open Int renaming toNat->X3
noncomputable section
namespace Go.Abs
open Go.Proofs.Tryz
set_option maxHeartbeats 8000000
set_option maxRecDepth 20000
open Go.Proofs
def Rzr (j:Int)(aa:A0)(ab:A8)(ac:A2)(ad:Ad)(ae:A3)(af:Bi)(ag:A1)(ah:A7)(ai:Int)(aj:Int)(ak:Int)(al:Int)(am:Int)(_a14:B8)(an:A4)(ao:Int)(ap:Int)(aq:Int)(ar:A0)(au:A8)(av:A2)(aw:Ad)(ax:A4):T (az9×Bool×A0×A8×A2×Ad×A3×Bi×A1×A7×Int×Int×Int×Int×Int×A4×Int×Int×Int×A0×A8×A2×Ad×A4):=let ay:=(⟨ao,ap,aq⟩:aza);.cc (Qz5 (⟨(⟨(⟨aa,ab⟩:azl),ac,ad⟩:az7),ae,af,ag,ah,ai⟩:az2) (⟨an⟩:azk) ay j) λaz=>.br (!az) (.jn ((⟨(⟨0,0,0⟩:aza),0,(⟨nl,nl⟩:bz6)⟩:az9),false,aa,ab,ac,ad,ae,af,ag,ah,ai,aj,ak,al,am,an,ao,ap,aq,ar,au,av,aw,ax)) (.gh j ah.length<|.cc (Nzr (⟨(⟨ar,au⟩:azl),av,aw⟩:az7) ax ((ah.getD (j.toNat) qu).At) (⟨aj,ak,al,am⟩:cz3)) λa0=>.jn ((⟨ay,j,a0.1⟩:az9),a0.2.2,aa,ab,ac,ad,ae,af,ag,ah,ai,aj,ak,al,am,an,ao,ap,aq,ar,au,av,aw,ax))
def Rzq (j)(aa)(ab)(ac)(ad)(ae)(af)(ag)(ah)(ai)(aj)(ak)(al)(am)(an)(ao)(ap)(aq)(ar)(au)(av)(aw)(ax)(ay):=
 mkD func186 (Rzr j aa ab ac ad ae af ag ah ai aj ak al am an ao ap aq ar au av aw ax ay) 6 [pz j,X7 0,X7 2,X7 3,X7 4,X7 5] [(0,.box [q aa,q ab,q ac,q ad,q ae,q af,q ag,q ah,pz ai,pz aj,pz ak,pz al,pz am,.map 1]),(1,mapG (jB 10) az4 bzd an),(2,.box [q ao]),(3,.box [pz ap,pz aq,pz ar]),(4,.box [q au,q av,q aw,q ax]),(5,.box [q ay])] (λr=>.tup [q r.1,q r.2.1]) (λr=>[(0,.box [q r.2.2.1,q r.2.2.2.1,q r.2.2.2.2.1,q r.2.2.2.2.2.1,q r.2.2.2.2.2.2.1,q r.2.2.2.2.2.2.2.1,q r.2.2.2.2.2.2.2.2.1,q r.2.2.2.2.2.2.2.2.2.1,pz r.2.2.2.2.2.2.2.2.2.2.1,pz r.2.2.2.2.2.2.2.2.2.2.2.1,pz r.2.2.2.2.2.2.2.2.2.2.2.2.1,pz r.2.2.2.2.2.2.2.2.2.2.2.2.2.1,pz r.2.2.2.2.2.2.2.2.2.2.2.2.2.2.1,.map 1]),(1,mapG (jB 10) az4 bzd an),(2,.box [q r.2.2.2.2.2.2.2.2.2.2.2.2.2.2.2.1]),(3,.box [pz r.2.2.2.2.2.2.2.2.2.2.2.2.2.2.2.2.1,pz r.2.2.2.2.2.2.2.2.2.2.2.2.2.2.2.2.2.1,pz r.2.2.2.2.2.2.2.2.2.2.2.2.2.2.2.2.2.2.1]),(4,.box [q r.2.2.2.2.2.2.2.2.2.2.2.2.2.2.2.2.2.2.2.1,q r.2.2.2.2.2.2.2.2.2.2.2.2.2.2.2.2.2.2.2.2.1,q r.2.2.2.2.2.2.2.2.2.2.2.2.2.2.2.2.2.2.2.2.2.1,q r.2.2.2.2.2.2.2.2.2.2.2.2.2.2.2.2.2.2.2.2.2.2.1]),(5,.box [q r.2.2.2.2.2.2.2.2.2.2.2.2.2.2.2.2.2.2.2.2.2.2.2])])
def Yz3 (j:A0)(aa:A8)(ab:A2)(ac:Ad)(ad:A3)(ae:Bi)(af:A1)(ag:A7)(ah:Int)(ai:Int)(aj:Int)(ak:Int)(al:Int)(am:B8)(an:azk)(ao:A4)(ap:aza):T (az9×Bool):=
 .cc (qzj (⟨(⟨(⟨j,aa⟩:azl),ab,ac⟩:az7),ad,ae,af,ag,ah⟩:az2) an) λaq=>.br (aq.2 !=0) (.jn ((⟨(⟨0,0,0⟩:aza),0,(⟨nl,nl⟩:bz6)⟩:az9),false)) (.loop (λs (ar:(A0×A8×A2×Ad×A3×Bi×A1×A7×Int×Int×Int×Int×Int×A4×Int×Int×Int×A0×A8×A2×Ad×A4×Int))=>pk s [8,12,30] [0,257,262,263] [(31,pz ar.2.2.2.2.2.2.2.2.2.2.2.2.2.2.2.2.2.2.2.2.2.2)] [(1,.box [q ar.1,q ar.2.1,q ar.2.2.1,q ar.2.2.2.1,q ar.2.2.2.2.1,q ar.2.2.2.2.2.1,q ar.2.2.2.2.2.2.1,q ar.2.2.2.2.2.2.2.1,pz ar.2.2.2.2.2.2.2.2.1,pz ar.2.2.2.2.2.2.2.2.2.1,pz ar.2.2.2.2.2.2.2.2.2.2.1,pz ar.2.2.2.2.2.2.2.2.2.2.2.1,pz ar.2.2.2.2.2.2.2.2.2.2.2.2.1,.map 0]),(65,.box [q ar.2.2.2.2.2.2.2.2.2.2.2.2.2.1]),(129,.box [q ar.2.2.2.2.2.2.2.2.2.2.2.2.2.2.2.2.2.2.2.2.2.1]),(193,.box [pz ar.2.2.2.2.2.2.2.2.2.2.2.2.2.2.1,pz ar.2.2.2.2.2.2.2.2.2.2.2.2.2.2.2.1,pz ar.2.2.2.2.2.2.2.2.2.2.2.2.2.2.2.2.1]),(833,.box [q ar.2.2.2.2.2.2.2.2.2.2.2.2.2.2.2.2.2.1,q ar.2.2.2.2.2.2.2.2.2.2.2.2.2.2.2.2.2.2.1,q ar.2.2.2.2.2.2.2.2.2.2.2.2.2.2.2.2.2.2.2.1,q ar.2.2.2.2.2.2.2.2.2.2.2.2.2.2.2.2.2.2.2.2.1])]) (.exit 0) (jk [8] [0,257,262,263]) (λar=>.jC (ar.2.2.2.2.2.2.2.2.2.2.2.2.2.2.2.2.2.2.2.2.2.2<(ag.length:Int)) (.call (Rzq ar.2.2.2.2.2.2.2.2.2.2.2.2.2.2.2.2.2.2.2.2.2.2 ar.1 ar.2.1 ar.2.2.1 ar.2.2.2.1 ar.2.2.2.2.1 ar.2.2.2.2.2.1 ar.2.2.2.2.2.2.1 ar.2.2.2.2.2.2.2.1 ar.2.2.2.2.2.2.2.2.1 ar.2.2.2.2.2.2.2.2.2.1 ar.2.2.2.2.2.2.2.2.2.2.1 ar.2.2.2.2.2.2.2.2.2.2.2.1 ar.2.2.2.2.2.2.2.2.2.2.2.2.1 am ar.2.2.2.2.2.2.2.2.2.2.2.2.2.1 ar.2.2.2.2.2.2.2.2.2.2.2.2.2.2.1 ar.2.2.2.2.2.2.2.2.2.2.2.2.2.2.2.1 ar.2.2.2.2.2.2.2.2.2.2.2.2.2.2.2.2.1 ar.2.2.2.2.2.2.2.2.2.2.2.2.2.2.2.2.2.1 ar.2.2.2.2.2.2.2.2.2.2.2.2.2.2.2.2.2.2.1 ar.2.2.2.2.2.2.2.2.2.2.2.2.2.2.2.2.2.2.2.1 ar.2.2.2.2.2.2.2.2.2.2.2.2.2.2.2.2.2.2.2.2.1 ar.2.2.2.2.2.2.2.2.2.2.2.2.2.2.2.2.2.2.2.2.2.1) [(0,1),(1,0),(2,65),(3,193),(4,833),(5,129)] λau=>.br au.2.1 (.ff (au.1,true)) (.nn (au.2.2.1,au.2.2.2.1,au.2.2.2.2.1,au.2.2.2.2.2.1,au.2.2.2.2.2.2.1,au.2.2.2.2.2.2.2.1,au.2.2.2.2.2.2.2.2.1,au.2.2.2.2.2.2.2.2.2.1,au.2.2.2.2.2.2.2.2.2.2.1,au.2.2.2.2.2.2.2.2.2.2.2.1,au.2.2.2.2.2.2.2.2.2.2.2.2.1,au.2.2.2.2.2.2.2.2.2.2.2.2.2.1,au.2.2.2.2.2.2.2.2.2.2.2.2.2.2.1,au.2.2.2.2.2.2.2.2.2.2.2.2.2.2.2.1,au.2.2.2.2.2.2.2.2.2.2.2.2.2.2.2.2.1,au.2.2.2.2.2.2.2.2.2.2.2.2.2.2.2.2.2.1,au.2.2.2.2.2.2.2.2.2.2.2.2.2.2.2.2.2.2.1,au.2.2.2.2.2.2.2.2.2.2.2.2.2.2.2.2.2.2.2.1,au.2.2.2.2.2.2.2.2.2.2.2.2.2.2.2.2.2.2.2.2.1,au.2.2.2.2.2.2.2.2.2.2.2.2.2.2.2.2.2.2.2.2.2.1,au.2.2.2.2.2.2.2.2.2.2.2.2.2.2.2.2.2.2.2.2.2.2.1,au.2.2.2.2.2.2.2.2.2.2.2.2.2.2.2.2.2.2.2.2.2.2.2,(qt.wrap (ar.2.2.2.2.2.2.2.2.2.2.2.2.2.2.2.2.2.2.2.2.2.2+1))))) (.oo .u)) (j,aa,ab,ac,ad,ae,af,ag,ah,ai,aj,ak,al,an.Xf,ap.Xo,ap.Xt,ap.Place,aq.1.Xg.Xc,aq.1.Xg.Xv,aq.1.Xe,aq.1.Xs,ao,0) [] λ_=>.stop)
def Jzx (j)(aa)(ab)(ac)(ad)(ae)(af)(ag)(ah)(ai)(aj)(ak)(al)(am)(an)(ao)(ap):=
 mkD func122 (Yz3 j aa ab ac ad ae af ag ah ai aj ak al am an ao ap) 1 [.agg [q j,q aa,q ab,q ac,q ad,q ae,q af,q ag,pz ah,pz ai,pz aj,pz ak,pz al,.map 0],q an,q ao,q ap] [(0,mapG (jB 10) az4 bzd am)] (λr=>.tup [q r.1,q r.2]) (λ_=>[(0,mapG (jB 10) az4 bzd am)])
def rzu (j:A0)(aa:A8)(ab:A2)(ac:Ad)(ad:A3)(ae:Bi)(af:A1)(ag:A7)(ah:Int)(ai:Int)(aj:Int)(ak:Int)(al:Int)(am:B8)(an:azk)(ao:A4)(ap:A9):T (Ax×A4×Int×Int×Int×B8):=
 .loop (λs (aq:C2)=>pk s [4,5,10,17,18] [1] [(2,q aq.1),(11,pz aq.2.2.2.2.1),(19,pz aq.2.2.2.2.2)] [(0,mapG (jB 10) az4 bzd aq.2.1),(65,.box [q aq.2.2.1]),(257,vO aq.2.2.2.1 68)]) (.exit 0) (λs (aq:(Ax×B8))=>pk s [10] [] [] [(0,mapG (jB 10) az4 bzd aq.2),(257,vO aq.1 68)]) (λaq=>let ar:=ap.getD (X3 aq.2.2.2.2.2) qu;let au:=(⟨aq.2.2.1⟩:azk);let av:=(⟨((if 0<aq.2.2.1.length then aq.2.2.1.getD 0 qu else 0),(if 1<aq.2.2.1.length then aq.2.2.1.getD 1 qu else 0),(if 2<aq.2.2.1.length then aq.2.2.1.getD 2 qu else 0),(if 3<aq.2.2.1.length then aq.2.2.1.getD 3 qu else 0),(if 4<aq.2.2.1.length then aq.2.2.1.getD 4 qu else 0),(if 5<aq.2.2.1.length then aq.2.2.1.getD 5 qu else 0)),aq.2.2.2.2.1,ar⟩:azc);let aw:=jzw az4 aq.2.1 (az4 av);let ax:=mdom az4 aq.2.1 (az4 av);.jC (aq.2.2.2.2.2<(ap.length:Int)) (.gh aq.2.2.2.2.2 ap.length<|.ok (ax=false->PSub (.agg [jA 0,jA 0,jA 0,jA 0,.lst 0 0 λ_=>.unk,.lst 0 0 λ_=>.unk]) (bzd aw)) (Wzn ju)<|.cut 0 (λs (ay:C9)=>pk s [4,5,10,13,15,17,18,19] [1,65,257,833] [] [(0,mapG (jB 10) az4 bzd ay.1),(2049,.box [pz ay.2.1,pz ay.2.2.1,pz ay.2.2.2.1,pz ay.2.2.2.2.1,q ay.2.2.2.2.2.1,q ay.2.2.2.2.2.2])]) (.br (!ax) (.call (Jzx j aa ab ac ad ae af ag ah ai aj ak al aq.2.1 au aq.1 ar) [(0,0)] λay=>.br (!ay.2) (.ff (.fin (nl,aq.2.2.1,ar.Xo,ar.Xt,ar.Place,aq.2.1))) (.conv 13004 (az6o (jB 10) az4 bzd aq.2.1 av ay.1 (.agg [jA ay.1.Xm.Xo,jA ay.1.Xm.Xt,jA ay.1.Xm.Place,jA ay.1.XF,encL 1 (encL 1 azy) ay.1.Path.Xa,encL 2 izg ay.1.Path.Xb]) ju)<|.oo (((av,ay.1)::aq.2.1),ay.1.Xm.Xo,ay.1.Xm.Xt,ay.1.Xm.Place,ay.1.XF,ay.1.Path.Xa,ay.1.Path.Xb))) (.oo (aq.2.1,aw.Xm.Xo,aw.Xm.Xt,aw.Xm.Place,aw.XF,aw.Path.Xa,aw.Path.Xb))) λay=>let az:=([(⟨(⟨ay.2.1,ay.2.2.1,ay.2.2.2.1⟩:aza),ay.2.2.2.2.1,(⟨ay.2.2.2.2.2.1,ay.2.2.2.2.2.2⟩:bz6)⟩:az9)]:Ax);let a0:=aq.2.2.2.1.length+az.length;
 .conv 14002 (kL az 68)<|.conv 14003 (kA aq.2.2.2.1 az 68)<|.grd (a0 * 80<=140737488355328/\a0<=maxLen)<|.gh ay.2.2.2.2.1 ag.length<|.cc (kzd (⟨(⟨(⟨j,aa⟩:azl),ab,ac⟩:az7),ad,ae,af,ag,ah⟩:az2) au ar) λa1=>.nn ((ag.getD (X3 ay.2.2.2.2.1) qu).At,ay.1,a1.1.Xf,(aq.2.2.2.1++az),ay.2.2.2.2.1,(qt.wrap (aq.2.2.2.2.2+1)))) (.oo (aq.2.2.2.1,aq.2.1))) (ao,am,an.Xf,nl,(-1),0) [] λ_=>.stop
def kzx (j)(aa)(ab)(ac)(ad)(ae)(af)(ag)(ah)(ai)(aj)(ak)(al)(am)(an)(ao)(ap):=
 mkD func64 (rzu j aa ab ac ad ae af ag ah ai aj ak al am an ao ap) 1 [.agg [q j,q aa,q ab,q ac,q ad,q ae,q af,q ag,pz ah,pz ai,pz aj,pz ak,pz al,.map 0],q an,q ao,q ap] [(0,mapG (jB 10) az4 bzd am)] (λr=>.tup [q r.1,X7 1]) (λr=>[(0,mapG (jB 10) az4 bzd r.2.2.2.2.2),(1,.box [q r.2.1,pz r.2.2.1,pz r.2.2.2.1,pz r.2.2.2.2.1])])
def rzv (j:A0)(aa:A8)(ab:A2)(ac:Ad)(ad:A3)(ae:Bi)(af:A1)(ag:A7)(ah:Int)(ai:Int)(aj:Int)(ak:Int)(al:Int)(am:B8)(an:azk)(ao:A4)(ap:A9):T (Ax×B8):=
 .loop (λs (aq:C2)=>pk s [4,5,10,17,18] [1] [(2,q aq.1),(11,pz aq.2.2.2.2.1),(19,pz aq.2.2.2.2.2)] [(0,mapG (jB 10) az4 bzd aq.2.1),(65,.box [q aq.2.2.1]),(257,vO aq.2.2.2.1 68)]) (.exit 0) (λs (aq:(Ax×B8))=>pk s [10] [] [] [(0,mapG (jB 10) az4 bzd aq.2),(257,vO aq.1 68)]) (λaq=>let ar:=ap.getD (X3 aq.2.2.2.2.2) qu;let au:=(⟨aq.2.2.1⟩:azk);let av:=(⟨((if 0<aq.2.2.1.length then aq.2.2.1.getD 0 qu else 0),(if 1<aq.2.2.1.length then aq.2.2.1.getD 1 qu else 0),(if 2<aq.2.2.1.length then aq.2.2.1.getD 2 qu else 0),(if 3<aq.2.2.1.length then aq.2.2.1.getD 3 qu else 0),(if 4<aq.2.2.1.length then aq.2.2.1.getD 4 qu else 0),(if 5<aq.2.2.1.length then aq.2.2.1.getD 5 qu else 0)),aq.2.2.2.2.1,ar⟩:azc);let aw:=jzw az4 aq.2.1 (az4 av);let ax:=mdom az4 aq.2.1 (az4 av);.jC (aq.2.2.2.2.2<(ap.length:Int)) (.gh aq.2.2.2.2.2 ap.length<|.ok (ax=false->PSub (.agg [jA 0,jA 0,jA 0,jA 0,.lst 0 0 λ_=>.unk,.lst 0 0 λ_=>.unk]) (bzd aw)) (Wzn ju)<|.cut 0 (λs (ay:C9)=>pk s [4,5,10,13,15,17,18,19] [1,65,257,833] [] [(0,mapG (jB 10) az4 bzd ay.1),(2049,.box [pz ay.2.1,pz ay.2.2.1,pz ay.2.2.2.1,pz ay.2.2.2.2.1,q ay.2.2.2.2.2.1,q ay.2.2.2.2.2.2])]) (.br (!ax) (.call (Jzx j aa ab ac ad ae af ag ah ai aj ak al aq.2.1 au aq.1 ar) [(0,0)] λay=>.br (!ay.2) (.stop) (.conv 13004 (az6o (jB 10) az4 bzd aq.2.1 av ay.1 (.agg [jA ay.1.Xm.Xo,jA ay.1.Xm.Xt,jA ay.1.Xm.Place,jA ay.1.XF,encL 1 (encL 1 azy) ay.1.Path.Xa,encL 2 izg ay.1.Path.Xb]) ju)<|.oo (((av,ay.1)::aq.2.1),ay.1.Xm.Xo,ay.1.Xm.Xt,ay.1.Xm.Place,ay.1.XF,ay.1.Path.Xa,ay.1.Path.Xb))) (.oo (aq.2.1,aw.Xm.Xo,aw.Xm.Xt,aw.Xm.Place,aw.XF,aw.Path.Xa,aw.Path.Xb))) λay=>let az:=([(⟨(⟨ay.2.1,ay.2.2.1,ay.2.2.2.1⟩:aza),ay.2.2.2.2.1,(⟨ay.2.2.2.2.2.1,ay.2.2.2.2.2.2⟩:bz6)⟩:az9)]:Ax);let a0:=aq.2.2.2.1.length+az.length;
 .conv 14002 (kL az 68)<|.conv 14003 (kA aq.2.2.2.1 az 68)<|.grd (a0 * 80<=140737488355328/\a0<=maxLen)<|.gh ay.2.2.2.2.1 ag.length<|.cc (kzd (⟨(⟨(⟨j,aa⟩:azl),ab,ac⟩:az7),ad,ae,af,ag,ah⟩:az2) au ar) λa1=>.nn ((ag.getD (X3 ay.2.2.2.2.1) qu).At,ay.1,a1.1.Xf,(aq.2.2.2.1++az),ay.2.2.2.2.1,(qt.wrap (aq.2.2.2.2.2+1)))) (.oo (aq.2.2.2.1,aq.2.1))) (ao,am,an.Xf,nl,(-1),0) [] λaq=>.jn (aq.1,aq.2)
def kzy (j)(aa)(ab)(ac)(ad)(ae)(af)(ag)(ah)(ai)(aj)(ak)(al)(am)(an)(ao)(ap):=
 mkD func64 (rzv j aa ab ac ad ae af ag ah ai aj ak al am an ao ap) 1 [.agg [q j,q aa,q ab,q ac,q ad,q ae,q af,q ag,pz ah,pz ai,pz aj,pz ak,pz al,.map 0],q an,q ao,q ap] [(0,mapG (jB 10) az4 bzd am)] (λr=>.tup [q r.1,.nilp]) (λr=>[(0,mapG (jB 10) az4 bzd r.2)])
def tzs (j:az2)(aa:azk)(ab:A4)(ac:A4)(ad:cz3)(ae:Int):T (Ax×Int):=let af:=(⟨aa.Xf⟩:azk);let ag:=(⟨j.Xl,j.Xd,j.Xh,j.Xj,j.Xi,j.Xq⟩:az2);.cub 2 39 [2,3,5,6,7,10] [0,64,128] (.cc (ez9 ag af) λah=>.jD (!ah) (.cc (bzr j.Xl.Xg ab) λai=>.jD (!ai) (.oo ((ac.length:Int) !=(j.Xd.length:Int))))) λah=>.br ah (.jn (nl,0)) (.cub 1 50 [2,3,5,6,7,10] [0,64,128] (.jF (ae<1) (.jF (ae>64) (.cc (hz1 ad) λai=>.oo (!ai)))) λai=>.br ai (.jn (nl,0)) (.conv 5002 (azjb (jB 10) az4 bzd (.agg [jA 0,jA 0,jA 0,jA 0,.lst 0 0 λ_=>.unk,.lst 0 0 λ_=>.unk]))<|.loop (λs (aj:(B8×Ab×Int))=>pk s [2,3,6,7,14,15,55] [0,64,704] [(56,pz aj.2.2)] [(576,mapG (jB 10) az4 bzd aj.1),(832,vS aj.2.1 122)]) (.exit 0) (jk [] []) (λaj=>.jC (aj.2.2<ae) (.cc (Fzm ag af ac 16 aj.2.1) λak=>.br (!ak.2) (.ff (nl,2)) (.split (((kzx j.Xl.Xg.Xc j.Xl.Xg.Xv j.Xl.Xe j.Xl.Xs j.Xd j.Xh j.Xj j.Xi j.Xq ad.XI ad.XK ad.Xk ad.XN aj.1 af ab ak.1).o).isSome)
 .stop (.call (kzy j.Xl.Xg.Xc j.Xl.Xg.Xv j.Xl.Xe j.Xl.Xs j.Xd j.Xh j.Xj j.Xi j.Xq ad.XI ad.XK ad.Xk ad.XN aj.1 af ab ak.1) [(0,576)] λal=>.ff (al.1,1)))) (.oo .u)) ((nl:List (azc×az9)),nl,0) [] λ_=>.stop))
def mz4:=
 mkq6 func26 tzs (λr=>.tup [q r.1,pz r.2])
def ozz (j:azp):T (An×Bool):=
 .loop (λs (aa:Ao)=>pk s [1,2,3,11,12] [0,64,128] [(13,pz aa.2)] [(65,vO aa.1 76)]) (.exit 0) (λs (aa:An)=>pk s [2,3] [64,128] [] [(65,vO aa 76)]) (λaa=>let ab:=j.XH.getD (X3 aa.2) qu;.jC (aa.2<(j.XH.length:Int)) (.gh aa.2 j.XH.length<|.loop (λs (ac:Bj)=>pk s [1,2,3,6,11,12,13,23,24] [0,64,65,128,1280] [(25,pz ac.2)] [(1218,vO ac.1 89)]) (.exit 2) (λs (ac:Bi)=>pk s [1,2,3,6,11,12,13] [0,64,65,128,1280] [] [(1218,vO ac 89)]) (λac=>let ad:=(ab.Xr).getD (X3 ac.2) qu;let ae:=([(j.XB.getD (ad.toNat) qu)]:Bi);let af:=ac.1.length+ae.length;.jC (ac.2<(ab.Xr.length:Int)) (.gh ac.2 (ab.Xr.length)<|.cub 1 37 [1,2,3,6,8,11,12,13,23,24,25] [0,64,65,128,1218,1280] (.jF (ad<0) (.oo (qv (ad>=(j.XB.length:Int))))) λag=>.br ag (.ff (.fin (nl,false))) (.gh ad j.XB.length<|.conv 11007 (kL ae 89)<|.conv 11008 (kA ac.1 ae 89)<|.grd (af * 24<=140737488355328/\af<=maxLen)<|.nn ((ac.1++ae),(qt.wrap (ac.2+1))))) (.oo ac.1)) (nl,0) [] λac=>let ad:=([(⟨ab.Xk,ab.Xu,ac⟩:az6)]:An);let ae:=aa.1.length+ad.length;
 .conv 13002 (kL ad 76)<|.conv 13003 (kA aa.1 ad 76)<|.grd (ae * 40<=140737488355328/\ae<=maxLen)<|.nn ((aa.1++ad),(qt.wrap (aa.2+1)))) (.oo aa.1)) (nl,0) [] λaa=>.jn (aa,true)
def jzi (j):=
 mkC [⟨219,azgb⟩] hd func159 ju (ozz j) 0 [q j] [] (λr=>.tup [q r.1,q r.2]) X6 ju
def Dzx (j:az7)(aa:bz6):T B2:=let ab:=(aa.Xb.length:Int);.cc (uzo j aa.Xa) λac=>.br (ac.2 !=0) (.jn (ac.1,ac.2)) (.br (ab !=(qt.wrap ((aa.Xa.length:Int)-1))) (.jn (0,2202)) (.loop (ik 37 [2,3,4,5,35,36] [0,64,128,192]) (.exit 0) (jk [4,5] [128,192]) (λad=>let ae:=qt.wrap (ad+1);.jC (ad<ab) (.gh ad aa.Xb.length<|.cc (jzi (aa.Xb.getD (ad.toNat) qu)) λaf=>.br (!af.2) (.ff (ad,2203)) (.gh ad aa.Xa.length<|.gh ae aa.Xa.length<|.call (xzv (⟨j.Xg,j.Xe,j.Xs⟩:az7) (aa.Xa.getD (ad.toNat) qu) (aa.Xa.getD (ae.toNat) qu) af.1) [] λag=>.br (ag.2 !=0) (.ff (ad,ag.2)) (.nn ae))) (.oo .u))
 0 [] λ_=>.jn (0,0)))
def uzn (j)(aa):=
 mkC [⟨157,azga⟩] hd func97 ju (Dzx j aa) 0 [q j,q aa] [] (λr=>.tup [pz r.1,pz r.2]) X6 ju
def qz8 (j:az2)(aa:azk)(ab:bz6)(ac:A4)(ad:A4):T Bool:=let ae:=qt.wrap ((ab.Xa.length:Int)-1);.cc (qzj j aa) λaf=>.br (af.2 !=0) (.jn false) (.cc (uzn (⟨af.1.Xg,af.1.Xe,af.1.Xs⟩:az7) ab) λag=>.br (ag.2 !=0) (.jn false) (.gh (0:Int) ab.Xa.length<|.cc (ez2 (ab.Xa.getD (X3 (0:Int)) qu) ac) λah=>.br ah (.gh ae ab.Xa.length<|.call (ez2 (ab.Xa.getD (ae.toNat) qu) ad) [] λai=>.jn ai) (.jn false)))
def jzp:=
 mkp5 func45 qz8
def xzl (j:az2)(aa:azk)(ab:A4):T Bool:=
 .cc (ez9 j aa) λac=>.br ac (.br ((ab.length:Int)==(aa.Xf.length:Int)) (.cc (iz8 aa) λad=>.cc (qzn ad ab) λae=>.jn ae) (.jn false)) (.jn false)
def xzk:=
 mkp3 func46 xzl
def qz7 (j:az2)(aa:azk)(ab:A4)(ac:A4)(ad:Ax):T B2:=let ae:=(ad.length:Int);let af:=(⟨j.Xl,j.Xd,j.Xh,j.Xj,j.Xi,j.Xq⟩:az2);.cc (izi j) λag=>.br (ag !=0) (.jn (0,ag)) (.cc (ez9 j aa) λah=>.br (!ah) (.jn (0,3403)) (.cub 1 40 [2,3,4,5,6] [0,64] (.cc (bzr j.Xl.Xg ab) λai=>.jD (!ai) (.oo ((ac.length:Int) !=(j.Xd.length:Int)))) λai=>.br ai (.jn (0,4501)) (.loop (λs (aj:Bf)=>pk s [3,4,5,6,41,42] [0] [(2,q aj.1),(43,pz aj.2.2)] [(64,.box [q aj.2.1])]) (.exit 0) (λs (aj:A4)=>pk s [3,4,5,6] [0] [] [(64,.box [q aj])]) (λaj=>let ak:=(⟨aj.2.1⟩:azk);let al:=ad.getD (X3 aj.2.2) qu;let am:=al.XF;let an:=j.Xi.getD (am.toNat) qu;.jC (aj.2.2<ae) (.gh aj.2.2 ad.length<|.cc (kzd af ak (al.Xm)) λao=>.cub 1 82 [2,3,4,5,6,13,14,16,41,42,43] [0,64,1408,2304] (.jD (!ao.2) (.cc (jzq af (al.Xm) am) λap=>.jD (!ap) (.gh am j.Xi.length<|.call (izh af (al.Xm.Xt) (al.Xm.Place) (an.At)) [] λaq=>.oo (!aq)))) λap=>.br ap (.ff (aj.2.2,3901)) (.gh am j.Xi.length<|.call (jzp af ak (al.Path) aj.1 (an.At)) [] λaq=>.br (!aq) (.ff (aj.2.2,4401)) (.gh am j.Xi.length<|.nn (an.At,ao.1.Xf,(qt.wrap (aj.2.2+1)))))) (.oo aj.2.1)) (ab,aa.Xf,0) [] λaj=>.cc (xzk j (⟨aj⟩:azk) ac) λak=>.br (!ak) (.jn (ae,3902)) (.jn (ae,0)))))
def fzr:=
 mkq5 func16 qz7 (λr=>.tup [pz r.1,pz r.2])
def law39_awake_T:T Bool:=
 .cc (law39_one_C) λj=>let aa:=(⟨j.Xl,j.Xd,j.Xh,j.Xj,j.Xi,j.Xq⟩:az2);
 .conv 1001 (kL ([0]:A4) 3)<|.conv 2002 (kL ([0,0]:A4) 2)<|.conv 2003 (kL ([1]:A4) 3)<|.cc (hze 1 9) λab=>.cc (mz4 aa (⟨([0]:A4)⟩:azk) ([0,0]:A4) ([1]:A4) ab 3) λac=>.conv 3002 (kL ([0,0]:A4) 2)<|.conv 3003 (kL ([1]:A4) 3)<|.cc (fzr aa (⟨([0]:A4)⟩:azk) ([0,0]:A4) ([1]:A4) ac.1) λad=>.br (ac.2==1) (.br ((ac.1.length:Int)==2) (.br (ad.1==2) (.jn (ad.2==0)) (.jn false)) (.jn false)) (.jn false)
def law39_awake_C:CallS Bool:=
 mkD func7 (law39_awake_T) 0 [] [] (λr=>q r) X6
def az54 (j:A4):T Ah:=
 .jn (j,0)
def iz2:=
 mkv1 func27 az54 (λ_=>X7 0) (λr=>[(0,.box [q r.1,pz r.2])])
def yzr (j:A4)(aa:Int)(ab:Int):T (Int×A4×Int):=let ac:=qt.wrap (aa+1);let ad:=qt.wrap (ac-1);.jC (aa>=(j.length:Int)) (.jn (0,j,aa)) (.gh ad j.length<|.call (czi (j.getD (ad.toNat) qu) ab) [] λae=>.jn (ae,j,ac))
def bzg (j)(aa)(ab):=
 mkD func29 (yzr j aa ab) 1 [X7 0,pz ab] [(0,.box [q j,pz aa])] (λr=>pz r.1) (λr=>[(0,.box [q r.2.1,pz r.2.2])])
def rzi (j:A4)(aa:Int)(ab:Int):T (Int×A4×Int):=
 .call (bzg j aa (qt.wrap ((qt.wrap (2 * ab))+1))) [(0,0)] λac=>.jn ((qt.wrap (ac.1-ab)),ac.2.1,ac.2.2)
def rzh (j)(aa)(ab):=
 mkD func31 (rzi j aa ab) 1 [X7 0,pz ab] [(0,.box [q j,pz aa])] (λr=>pz r.1) (λr=>[(0,.box [q r.2.1,pz r.2.2])])
def pz8 (j:A4):T az2:=
 .cc (iz2 j) λaa=>.cc (zzw 2 64) λab=>.conv 4004 (kL ([(0,0,20)]:Bi) 89)<|.conv 4006 (kL ([(⟨1,1,([(0,0,20)]:Bi)⟩:azf)]:A2) 91)<|.grd (([(⟨1,1,([(0,0,20)]:Bi)⟩:azf)]:A2).length * 40<=140737488355328/\([(⟨1,1,([(0,0,20)]:Bi)⟩:azf)]:A2).length<=maxLen)<|.cut 0 (λs (ac:(A4×Int×A2))=>pk s [2,3,4] [0,1,2,3,4,5,6,7,8,260,261,262,263,264] [] [(128,.box [q ac.1,pz ac.2.1]),(256,.box [q ab.Xc,q ab.Xv,.vec 1280,.vec 260,.vec 261,.vec 262,.vec 263,.vec 264,pz 0]),(1280,vO ac.2.2 91)]) (.call (bzg aa.1 aa.2 2) [(0,128)] λac=>.br (ac.1==1) (.call (bzg ac.2.1 ac.2.2 5) [(0,128)] λad=>.call (bzg ad.2.1 ad.2.2 65) [(0,128)] λae=>.call (bzg ae.2.1 ae.2.2 65) [(0,128)] λaf=>.call (bzg af.2.1 af.2.2 20) [(0,128)] λag=>let ah:=([(ae.1,af.1,ag.1)]:Bi);let ai:=([(⟨(-1),(qt.wrap (1+ad.1)),ah⟩:azf)]:A2);let aj:=([(⟨1,1,([(0,0,20)]:Bi)⟩:azf)]:A2).length+ai.length;
 .conv 6013 (kL ah 89)<|.conv 6015 (kL ai 91)<|.conv 6016 (kA ([(⟨1,1,([(0,0,20)]:Bi)⟩:azf)]:A2) ai 91)<|.grd (aj * 40<=140737488355328/\aj<=maxLen)<|.oo (ag.2.1,ag.2.2,(([(⟨1,1,([(0,0,20)]:Bi)⟩:azf)]:A2)++ai))) (.oo (ac.2.1,ac.2.2,([(⟨1,1,([(0,0,20)]:Bi)⟩:azf)]:A2)))) λac=>.call (bzg ac.1 ac.2.1 3) [(0,128)] λad=>.loop (λs (ae:(A4×Int×Bi×Int))=>pk s [2,3,4] [0,1,2,3,4,5,6,7,8,256,260,261,263,264,1280] [(5,pz ae.2.2.2)] [(128,.box [q ae.1,pz ae.2.1]),(262,vO ae.2.2.1 89)]) (.exit 0) (λs (ae:(A4×Int×Bi))=>pk s [2,3,4] [0,1,2,3,4,5,6,7,8,256,260,261,263,264,1280] [] [(128,.box [q ae.1,pz ae.2.1]),(262,vO ae.2.2 89)]) (λae=>.jC (ae.2.2.2>0) (.call (bzg ae.1 ae.2.1 3) [(0,128)] λaf=>let ag:=([((qt.wrap (16 * ae.2.2.2)),(qt.wrap (8 * af.1)),0)]:Bi);let ah:=ae.2.2.1.length+ag.length;
 .conv 10008 (kL ag 89)<|.conv 10009 (kA ae.2.2.1 ag 89)<|.grd (ah * 24<=140737488355328/\ah<=maxLen)<|.nn (af.2.1,af.2.2,(ae.2.2.1++ag),(qt.wrap (ae.2.2.2-1)))) (.oo (ae.1,ae.2.1,ae.2.2.1))) (ad.2.1,ad.2.2,nl,(qt.wrap (2+ad.1))) [] λae=>.call (bzg ae.1 ae.2.1 2) [(0,128)] λaf=>.loop (λs (ag:(A1×Int))=>pk s [2,3,4] [0,1,2,3,4,5,6,7,8,128,256,260,261,262,264,1280] [(6,pz ag.2)] [(263,vO ag.1 93)]) (.exit 2) (λs (ag:A1)=>pk s [2,3,4] [0,1,2,3,4,5,6,7,8,128,256,260,261,262,264,1280] [] [(263,vO ag 93)]) (λag=>let ah:=qt.wrap (ag.2-1);let ai:=([(⟨1,(0,0,(qt.wrap (2 * ah)))⟩:dzn)]:A1);let aj:=ag.1.length+ai.length;.jC (ag.2>0) (.conv 14007 (kL ai 93)<|.conv 14008 (kA ag.1 ai 93)<|.grd (aj * 32<=140737488355328/\aj<=maxLen)<|.nn ((ag.1++ai),ah)) (.oo ag.1)) (nl,(qt.wrap (1+af.1))) [] λag=>.call (bzg af.2.1 af.2.2 4) [(0,128)] λah=>let ai:=qt.wrap (ah.1+4);
 .call (bzg ah.2.1 ah.2.2 2) [(0,128)] λaj=>.loop (λs (ak:(A4×Int×A3×Int))=>pk s [2,3,4] [0,1,2,3,4,5,6,7,8,256,260,262,263,264,1280] [(7,pz ak.2.2.2)] [(128,.box [q ak.1,pz ak.2.1]),(261,vO ak.2.2.1 87)]) (.exit 4) (λs (ak:(A4×Int×A3))=>pk s [2,3,4] [0,1,2,3,4,5,6,7,8,256,260,262,263,264,1280] [] [(128,.box [q ak.1,pz ak.2.1]),(261,vO ak.2.2 87)]) (λak=>.jC (ak.2.2.2>0) (.cc (zzx ak.2.2.2) λal=>.call (bzg ak.1 ak.2.1 2) [(0,128)] λam=>.call (bzg am.2.1 am.2.2 3) [(0,128)] λan=>let ao:=([(0,0,an.1)]:Bi);let ap:=([(⟨0,(qt.wrap (1+am.1)),ao⟩:azf)]:A2);let aq:=([(⟨al,ap⟩:azx)]:A3);let ar:=ak.2.2.1.length+aq.length;
 .conv 19010 (kL ao 89)<|.conv 19012 (kL ap 91)<|.conv 19014 (kL aq 87)<|.conv 19015 (kA ak.2.2.1 aq 87)<|.grd (ar * 40<=140737488355328/\ar<=maxLen)<|.nn (an.2.1,an.2.2,(ak.2.2.1++aq),(qt.wrap (ak.2.2.2-1)))) (.oo (ak.1,ak.2.1,ak.2.2.1))) (aj.2.1,aj.2.2,nl,(qt.wrap (1+aj.1))) [] λak=>.loop (λs (al:Bu)=>pk s [2,3,4] [0,1,2,3,4,5,6,7,8,256,260,261,262,263,1280] [(8,pz al.2.2.2)] [(128,.box [q al.1,pz al.2.1]),(264,vO al.2.2.1 110)]) (.exit 6) (λs (al:A7)=>pk s [2,4] [0,1,2,3,4,5,6,7,8,256,260,261,262,263,1280] [] [(264,vO al 110)]) (λal=>.jC (al.2.2.2<(ag.length:Int)) (.loop (λs (am:Bu)=>pk s [2,3,4,8] [0,1,2,3,4,5,6,7,8,256,260,261,262,263,1280] [(9,pz am.2.2.2)] [(128,.box [q am.1,pz am.2.1]),(264,vO am.2.2.1 110)]) (.exit 8) (λs (am:(A4×Int×A7))=>pk s [2,3,4,8] [0,1,2,3,4,5,6,7,8,256,260,261,262,263,1280] [] [(128,.box [q am.1,pz am.2.1]),(264,vO am.2.2 110)]) (λam=>let an:=am.2.2.2;let ao:=ae.2.2.getD (an.toNat) qu;.jC (am.2.2.2<(ae.2.2.length:Int)) (.cut 0 (λs (ap:(A4×Int×A7))=>pk s [2,3,4,8,9] [0,1,2,3,4,5,6,7,8,260,261,262,263,1280] [] [(128,.box [q ap.1,pz ap.2.1]),(256,.box [q ab.Xc,q ab.Xv,.vec 1280,.vec 260,.vec 261,.vec 262,.vec 263,.vec 3520,pz ai]),(3520,vO ap.2.2 110)]) (.call (bzg am.1 am.2.1 8) [(0,128)] λap=>.jC (ap.1<7) (.gh am.2.2.2 ae.2.2.length<|.z7<|.grd (an.toNat<ae.2.2.length)<|.call (rzh ap.2.1 ap.2.2 2) [(0,128)] λaq=>let ar:=([(min 64 (qt.wrap ((ao.1)+aq.1))),ao.2.1]:A4);let au:=([(⟨al.2.2.2,am.2.2.2,ar⟩:cz4)]:A7);let av:=am.2.2.1.length+au.length;
 .gh am.2.2.2 ae.2.2.length<|.z8<|.grd (an.toNat<ae.2.2.length)<|.conv 27020 (kL ar 2)<|.conv 27022 (kL au 110)<|.conv 27023 (kA am.2.2.1 au 110)<|.grd (av * 40<=140737488355328/\av<=maxLen)<|.oo (aq.2.1,aq.2.2,(am.2.2.1++au))) (.oo (ap.2.1,ap.2.2,am.2.2.1))) λap=>.nn (ap.1,ap.2.1,ap.2.2,(qt.wrap (am.2.2.2+1)))) (.oo (am.1,am.2.1,am.2.2.1))) (al.1,al.2.1,al.2.2.1,0) [] λam=>.nn (am.1,am.2.1,am.2.2,(qt.wrap (al.2.2.2+1)))) (.oo al.2.2.1)) (ak.1,ak.2.1,nl,0) [] λal=>.jn (⟨(⟨ab,ac.2.2,nl⟩:az7),ak.2.2,ae.2.2,ag,al,ai⟩:az2)
def Cz1:=
 mkp1 func8 pz8
def Izf (j:A4)(aa:Int):T Bool:=
 .loop (ik 5 [0,1] []) (.exit 0) (jk [] []) (λab=>.jC (ab<(j.length:Int)) (.gh ab j.length<|.br ((j.getD (ab.toNat) qu)==aa) (.ff true) (.nn (qt.wrap (ab+1)))) (.oo .u))
 0 [] λ_=>.jn false
def Ize:=
 mkp2 func32 Izf
def Izd (j:az2)(aa:A4):T azk:=let ab:=(j.Xj.length:Int);let ac:=qt.wrap ((j.Xh.length:Int)+ab);.cc (iz2 aa) λad=>.loop (λs (ae:Bv)=>pk s [2,4,5,6] [0,64,65,320] [(7,pz ae.2.2.2)] [(192,.box [q ae.1,pz ae.2.1]),(321,vS ae.2.2.1 3)]) (.exit 0) (λs (ae:A4)=>pk s [4,6] [64,65,320] [] [(321,vS ae 3)]) (λae=>.jC (ae.2.2.2<(j.Xd.length:Int)) (.call (bzg ae.1 ae.2.1 ac) [(0,192)] λaf=>.loop (ik 8 [2,4,5,6,7] [0,64,65,192,320,321]) (.exit 2) (ik 8 [2,4,5,6,7] [0,64,65,192,320,321]) (λag=>.cc (Ize ae.2.2.1 ag) λah=>.br ah (.name 8005 ((qt.wrap ((qt.wrap (ag+1))+ab))) λai=>.grd (ac≠0)<|.name 8017 ((qt.wrap ((ai.tmod ac)-ab))) λaj=>.nn aj) (.oo ag)) (qt.wrap (af.1-ab)) [] λag=>let ah:=([ag]:A4);let ai:=ae.2.2.1.length+ah.length;
 .conv 9003 (kL ah 3)<|.conv 9004 (azb3 1 azy ae.2.2.1 ah 3)<|.grd (ai * 8<=140737488355328/\ai<=maxLen)<|.nn (af.2.1,af.2.2,(ae.2.2.1++ah),(qt.wrap (ae.2.2.2+1)))) (.oo ae.2.2.1)) (ad.1,ad.2,nl,0) [] λae=>.jn (⟨ae⟩:azk)
def Sz2:=
 mkp2 func9 Izd
def zzv (j:azl)(aa:A4):T A4:=
 .cc (iz2 aa) λab=>.loop (λs (ac:Bv)=>pk s [2,5,6] [0] [(7,pz ac.2.2.2)] [(192,.box [q ac.1,pz ac.2.1]),(320,vO ac.2.2.1 2)]) (.exit 0) (λs (ac:A4)=>pk s [6] [] [] [(320,vO ac 2)]) (λac=>let ad:=j.Xc.getD (X3 ac.2.2.2) qu;let ae:=([ad.Lo]:A4);let af:=([ad.Hi]:A4);let ag:=ac.2.2.1.length+ae.length;let ah:=ac.2.2.1.length+af.length;.jC (ac.2.2.2<(j.Xc.length:Int)) (.cut 0 (λs (ai:(A4×Int×A4))=>pk s [2,5,7] [0] [(6,.vec 832)] [(192,.box [q ai.1,pz ai.2.1]),(832,vO ai.2.2 2)]) (.gh ac.2.2.2 j.Xc.length<|.gh ac.2.2.2 j.Xc.length<|.call (bzg ac.1 ac.2.1 6) [(0,192)] λai=>.br (ai.1==0) (.conv 10002 (kL ae 2)<|.conv 10003 (kA ac.2.2.1 ae 2)<|.grd (ag * 8<=140737488355328/\ag<=maxLen)<|.oo (ai.2.1,ai.2.2,(ac.2.2.1++ae))) (.br (ai.1==1) (.conv 12002 (kL af 2)<|.conv 12003 (kA ac.2.2.1 af 2)<|.grd (ah * 8<=140737488355328/\ah<=maxLen)<|.oo (ai.2.1,ai.2.2,(ac.2.2.1++af))) (.name 8005 ((qt.wrap ((ad.Hi)- (ad.Lo)))) λaj=>.name 8006 ((qt.wrap (aj+1))) λak=>.call (bzg ai.2.1 ai.2.2 ak) [(0,192)] λal=>let am:=([(qt.wrap ((ad.Lo)+al.1))]:A4);let an:=ac.2.2.1.length+am.length;
 .conv 8009 (kL am 2)<|.conv 8010 (kA ac.2.2.1 am 2)<|.grd (an * 8<=140737488355328/\an<=maxLen)<|.oo (al.2.1,al.2.2,(ac.2.2.1++am))))) λai=>.nn (ai.1,ai.2.1,ai.2.2,(qt.wrap (ac.2.2.2+1)))) (.oo ac.2.2.1)) (ab.1,ab.2,nl,0) [] λac=>.jn ac
def zzu:=
 mkv2 func10 zzv (λ_=>.vec 0) (λr=>[(0,vO r 2)])
def Dzq (j:az2)(aa:A4):T A4:=let ab:=(j.Xh.length:Int);.cc (iz2 aa) λac=>.loop (λs (ad:Bv)=>pk s [2,5,6] [0] [(7,pz ad.2.2.2)] [(192,.box [q ad.1,pz ad.2.1]),(320,vO ad.2.2.1 3)]) (.exit 0) (λs (ad:A4)=>pk s [6] [] [] [(320,vO ad 3)]) (λad=>.jC (ad.2.2.2<(j.Xd.length:Int)) (.call (bzg ad.1 ad.2.1 (qt.wrap (ab+1))) [(0,192)] λae=>.cut 0 (λs (af:Int)=>pk s [2,5,6,7] [0,192,320] [(8,pz af)] []) (.br (ae.1==ab) (.oo (-1048576)) (.oo ae.1)) λaf=>let ag:=([af]:A4);let ah:=ad.2.2.1.length+ag.length;
 .conv 9002 (kL ag 3)<|.conv 9003 (kA ad.2.2.1 ag 3)<|.grd (ah * 8<=140737488355328/\ah<=maxLen)<|.nn (ae.2.1,ae.2.2,(ad.2.2.1++ag),(qt.wrap (ad.2.2.2+1)))) (.oo ad.2.2.1)) (ac.1,ac.2,nl,0) [] λad=>.jn ad
def uzi:=
 mkp2 func11 Dzq
def Jz1 (j:ByteArray):T Bool:=let aa:=(j.size:Int);.cub 2 16 [0] [] (.jF (aa<1) (.jF (aa>16) (.oo (j==(⟨#[119,111,114,108,100]⟩:ByteArray))))) λab=>.br ab (.jn false) (.loop (ik 3 [0] []) (.exit 0) (jk [] []) (λac=>let ad:=((j.data.getD ac.toNat 0).toNat:Int);.jC (ac<aa) (.cub 1 4 [0,3] [] (.gh ac j.size<|.jC (ad>=97) (.gh ac j.size<|.oo (qv (ad<=122))) (.oo false)) λae=>.cub 0 56 [0,3] [] (.jE (!ae) (.jD (ac==0) (.gh ac j.size<|.jE (ad !=95) (.gh ac j.size<|.jF (ad<48) (.gh ac j.size<|.oo (qv (ad>57))))))) λaf=>.br af (.ff false) (.nn (qt.wrap (ac+1)))) (.oo .u))
 0 [] λ_=>.jn true)
def Jz0:=
 mkp1 func161 Jz1
def Jz2 (j:Bh)(aa:Int):T Bool:=let ab:=qt.wrap (0-aa);.unroll 4<|.ji<|.cub 1 22 [1,2,5] [0] (.z7<|.jF (j.1<ab) (.z7<|.oo (qv (j.1>aa)))) λac=>.br ac (.jn false) (.lit 3001 1<|.ji<|.cub 1 22 [1,2,5] [0] (.z8<|.jF (j.2.1<ab) (.z8<|.oo (qv (j.2.1>aa)))) λad=>.br ad (.jn false) (.lit 3001 2<|.ji<|.cub 1 22 [1,2,5] [0] (.z9<|.jF (j.2.2<ab) (.z9<|.oo (qv (j.2.2>aa)))) λae=>.br ae (.jn false) (.lit 3001 3<|.jm<|.jn true)))
def ezs:=
 mkp2 func101 Jz2
def Fz3 (j:Int):T Int:=
 .br (j==0) (.jn 0) (.cub 0 6 [] [] (.br (j==1) (.oo (j==1)) (.br (j==2) (.oo (j==2)) (.oo (j==3)))) λaa=>.br aa (.jn 524288) (.jn 4194304))
def Ozs:=
 mkp1 func189 Fz3
def xz6 (j:Int)(aa:Int)(ab:Int):T Bool:=
 .jC (aa<=j) (.jn (qv (j<=ab))) (.jn false)
def gz3:=
 mkp3 func110 xz6
def nzh (j:A0)(aa:Int):T Int:=let ab:=j.getD (aa.toNat) qu;let ac:=ab.Xo;.gh aa j.length<|.cc (Jz0 (ab.XG)) λad=>.br (!ad) (.jn 802) (.loop (ik 6 [0,1,5] [320]) (.exit 0) (jk [1,5] [320]) (λae=>.jC (ae<aa) (.gh ae j.length<|.br (((j.getD (ae.toNat) qu).XG)==(ab.XG)) (.ff 802) (.nn (qt.wrap (ae+1)))) (.oo .u))
 0 [] λ_=>.cub 1 36 [1,5] [320] (.jF (ac<0) (.oo (qv (ac>6)))) λae=>.br ae (.jn 803) (.cub 1 45 [5] [320] (.jF ((ab.XD)<(-1)) (.oo (qv ((ab.XD)>=aa)))) λaf=>.br af (.jn 804) (.cc (ezs (ab.XA) 4194304) λag=>.br (!ag) (.jn 805) (.cc (Ozs ac) λah=>.cub 0 70 [5] [320] (.jF ((ab.Lo)>(ab.Hi)) (.jF ((ab.Lo)<(qt.wrap (0-ah))) (.oo (qv ((ab.Hi)>ah))))) λai=>.br ai (.jn 806) (.cub 1 92 [] [] (.cc (gz3 (ab.XP) 1 1024) λaj=>.jD (!aj) (.cc (gz3 (ab.XS) 1 1048576) λak=>.jD (!ak) (.cc (gz3 (ab.XT) 1 1048576) λal=>.jD (!al) (.cc (gz3 (ab.XQ) 1 1099511627776) λam=>.oo (!am))))) λaj=>.br aj (.jn 807) (.jn 0))))))
def yz7:=
 mkp2 func123 nzh
def nzf (j:azl):T Int:=let aa:=(j.Xc.length:Int);let ab:=(j.Xv.length:Int);.cub 2 16 [1] [0] (.jF (aa<1) (.oo (qv (aa>10)))) λac=>.br ac (.jn 801) (.loop (ik 3 [1] [0]) (.exit 0) (jk [1] [0]) (λad=>.jC (ad<aa) (.cc (yz7 j.Xc ad) λae=>.br (ae !=0) (.ff ae) (.nn (qt.wrap (ad+1)))) (.oo .u))
 0 [] λ_=>.jC (ab>32) (.jn 808) (.loop (ik 5 [1] [0]) (.exit 2) (jk [] []) (λad=>let ae:=j.Xv.getD (ad.toNat) qu;.jC (ad<ab) (.gh ad j.Xv.length<|.cub 0 69 [1,5] [0] (.jF ((ae.Xz)<0) (.jF ((ae.Xz)>=aa) (.cc (gz3 (ae.XU) 1 65536) λaf=>.jD (!af) (.cc (ezs (ae.XM) 4194304) λag=>.oo (!ag))))) λaf=>.br af (.ff 808) (.nn (qt.wrap (ad+1)))) (.oo .u))
 0 [] λ_=>.jn 0))
def czd:=
 mkp1 func65 nzf
def Bza (j:azl)(aa:Int):T Bool:=
 .jC (aa>=(-1)) (.jn (qv (aa<(j.Xc.length:Int)))) (.jn false)
def fz2:=
 mkp2 func109 Bza
def nzg (j:az7):T Int:=let aa:=(j.Xs.length:Int);let ab:=(j.Xe.length:Int);.cc (czd j.Xg) λac=>.br (ac !=0) (.jn ac) (.jC (ab>24) (.jn 901) (.loop (ik 4 [1] [0]) (.exit 0) (jk [1] [0]) (λad=>let ae:=j.Xe.getD (ad.toNat) qu;let af:=(ae.Xa.length:Int);.jC (ad<ab) (.gh ad j.Xe.length<|.cub 1 53 [1,4,5] [0,1536] (.cc (fz2 j.Xg (ae.Xz)) λag=>.jD (!ag) (.cc (gz3 (ae.XE) 1 1048576) λah=>.jD (!ah) (.jF (af<1) (.oo (qv (af>8)))))) λag=>.br ag (.ff 902) (.loop (ik 6 [1,4,5] [0,1536]) (.exit 2) (jk [1,4] [0]) (λah=>.jC (ah<af) (.gh ah (ae.Xa.length)<|.call (ezs ((ae.Xa).getD (ah.toNat) qu) 4194304) [] λai=>.br (!ai) (.ff (.fin 805)) (.nn (qt.wrap (ah+1)))) (.oo .u))
 0 [] λ_=>.nn (qt.wrap (ad+1)))) (.oo .u))
 0 [] λ_=>.jC (aa>64) (.jn 903) (.loop (ik 7 [1] [0]) (.exit 4) (jk [] []) (λad=>let ae:=j.Xs.getD (ad.toNat) qu;.jC (ad<aa) (.cub 1 100 [1,7] [0] (.gh ad j.Xs.length<|.cc (fz2 j.Xg (ae.A)) λaf=>.jD (!af) (.gh ad j.Xs.length<|.cc (fz2 j.Xg (ae.B)) λag=>.oo (!ag))) λaf=>.br af (.ff 903) (.nn (qt.wrap (ad+1)))) (.oo .u))
 0 [] λ_=>.jn 0)))
def cze:=
 mkp1 func56 nzg
def wz0 (j:azl)(aa:A4):T Bool:=let ab:=(aa.length:Int);.cub 2 16 [1,2] [0] (.cc (czd j) λac=>.jD (ac !=0) (.oo (ab !=(j.Xc.length:Int)))) λac=>.br ac (.jn false) (.loop (ik 5 [1,2] [0]) (.exit 0) (jk [] []) (λad=>let ae:=aa.getD (ad.toNat) qu;let af:=j.Xc.getD (ad.toNat) qu;.jC (ad<ab) (.cub 1 46 [1,2,5] [0] (.gh ad aa.length<|.gh ad j.Xc.length<|.jF (ae<(af.Lo)) (.gh ad aa.length<|.gh ad j.Xc.length<|.oo (qv (ae>(af.Hi))))) λag=>.br ag (.ff false) (.nn (qt.wrap (ad+1)))) (.oo .u))
 0 [] λ_=>.jn true)
def dzc:=
 mkp2 func34 wz0
def lzb (j:azf):T Bool:=let aa:=(j.Xa.length:Int);.cub 2 23 [1] [0] (.jF (j.XE<1) (.jF (j.XE>1048576) (.jF (aa<1) (.oo (qv (aa>8)))))) λab=>.br ab (.jn false) (.loop (ik 3 [1] [0]) (.exit 0) (jk [] []) (λac=>.jC (ac<aa) (.gh ac j.Xa.length<|.cc (ezs (j.Xa.getD (ac.toNat) qu) 4194304) λad=>.br (!ad) (.ff false) (.nn (qt.wrap (ac+1)))) (.oo .u))
 0 [] λ_=>.jn true)
def lza:=
 mkp1 func115 lzb
def wzz (j:azx):T Bool:=let aa:=(j.Xe.length:Int);.cub 2 15 [1] [0] (.cc (Jz0 j.XG) λab=>.jD (!ab) (.oo (aa==0))) λab=>.br ab (.jn false) (.loop (ik 3 [1] [0]) (.exit 0) (jk [] []) (λac=>let ad:=j.Xe.getD (ac.toNat) qu;.jC (ac<aa) (.gh ac j.Xe.length<|.cub 1 35 [1,3,4] [0,960] (.cc (lza ad) λae=>.jD (!ae) (.oo ((ad.Xz) !=0))) λae=>.br ae (.ff false) (.loop (ik 5 [1,3,4] [0,960]) (.exit 2) (jk [1,3] [0]) (λaf=>.jC (af<(ad.Xa.length:Int)) (.gh af (ad.Xa.length)<|.call (ezs ((ad.Xa).getD (af.toNat) qu) 2097152) [] λag=>.br (!ag) (.ff (.fin false)) (.nn (qt.wrap (af+1)))) (.oo .u))
 0 [] λ_=>.nn (qt.wrap (ac+1)))) (.oo .u))
 0 [] λ_=>.jn true)
def Hzk:=
 mkp1 func102 wzz
def nz9 (j:az2):T Int:=let aa:=(j.Xj.length:Int);let ab:=(j.Xi.length:Int);let ac:=(j.Xh.length:Int);let ad:=(j.Xd.length:Int);.cc (cze j.Xl) λae=>.br (ae !=0) (.jn ae) (.cub 1 49 [1] [0] (.jF (ad>6) (.jF (ac>8) (.jF (aa>3) (.jF (ab>32) (.jF (j.Xq<0) (.oo (qv (j.Xq>65536)))))))) λaf=>.br af (.jn 3401) (.loop (ik 4 [1] [0]) (.exit 0) (jk [1] [0]) (λag=>.jC (ag<ac) (.gh ag j.Xh.length<|.cc (ezs (j.Xh.getD (ag.toNat) qu) 2097152) λah=>.br (!ah) (.ff 3401) (.nn (qt.wrap (ag+1)))) (.oo .u))
 0 [] λ_=>.loop (ik 5 [1] [0]) (.exit 2) (jk [1] [0]) (λag=>let ah:=j.Xj.getD (ag.toNat) qu;.jC (ag<aa) (.gh ag j.Xj.length<|.cub 0 94 [1,5] [0] (.jF ((ah.Xz)<0) (.jF ((ah.Xz)>=(j.Xl.Xg.Xc.length:Int)) (.cc (ezs (ah.XA) 2097152) λai=>.oo (!ai)))) λai=>.br ai (.ff 3401) (.nn (qt.wrap (ag+1)))) (.oo .u))
 0 [] λ_=>.loop (ik 7 [1] [0]) (.exit 4) (jk [1] [0]) (λag=>let ah:=j.Xi.getD (ag.toNat) qu;.jC (ag<ab) (.gh ag j.Xi.length<|.cub 0 139 [1,7] [0] (.jF ((ah.Xt)<0) (.jF ((ah.Xt)>=aa) (.jF ((ah.Place)<0) (.jF ((ah.Place)>=ac) (.cc (dzc j.Xl.Xg (ah.At)) λai=>.oo (!ai)))))) λai=>.br ai (.ff 3401) (.nn (qt.wrap (ag+1)))) (.oo .u))
 0 [] λ_=>.loop (λs (ag:B2)=>pk s [1] [0] [(9,pz ag.1),(10,pz ag.2)] []) (.exit 6) (ik 9 [] []) (λag=>let ah:=j.Xd.getD (X3 ag.2) qu;.jC (ag.2<ad) (.gh ag.2 j.Xd.length<|.cc (Hzk ah) λai=>.br (!ai) (.ff 3402) (.loop (ik 11 [1,9,10] [0]) (.exit 8) (jk [1,9,10] [0]) (λaj=>.jC (aj<ag.2) (.gh aj j.Xd.length<|.gh ag.2 j.Xd.length<|.br (((j.Xd.getD (aj.toNat) qu).XG)==(ah.XG)) (.ff (.fin 3402)) (.nn (qt.wrap (aj+1)))) (.oo .u))
 0 [] λ_=>.gh ag.2 j.Xd.length<|.name 34008 ((qt.wrap (ag.1+(ah.Xe.length:Int)))) λaj=>.nn (aj,(qt.wrap (ag.2+1))))) (.oo ag.1)) ((j.Xl.Xe.length:Int),0) [] λag=>.jC (ag>24) (.jn 3401) (.jn 0)))
def fzb:=
 mkp1 func49 nz9
def nza (j:az2)(aa:azk):T Bool:=let ab:=(aa.Xf.length:Int);.cub 2 18 [2,3] [0,64] (.cc (fzb (⟨j.Xl,j.Xd,j.Xh,j.Xj,j.Xi,j.Xq⟩:az2)) λac=>.jD (ac !=0) (.oo (ab !=(j.Xd.length:Int)))) λac=>.br ac (.jn false) (.loop (ik 5 [2,3] [0,64]) (.exit 0) (jk [] []) (λad=>let ae:=aa.Xf.getD (ad.toNat) qu;.jC (ad<ab) (.cub 2 46 [2,3,5] [0,64] (.gh ad aa.Xf.length<|.jF (ae<(qt.wrap (0- (j.Xj.length:Int)))) (.gh ad aa.Xf.length<|.oo (qv (ae>=(j.Xh.length:Int))))) λaf=>.br af (.ff false) (.loop (ik 6 [2,3,5] [0,64]) (.exit 2) (jk [2,3,5] [0,64]) (λag=>.jC (ag<ad) (.gh ag aa.Xf.length<|.gh ad aa.Xf.length<|.br ((aa.Xf.getD (ag.toNat) qu)==ae) (.ff (.fin false)) (.nn (qt.wrap (ag+1)))) (.oo .u))
 0 [] λ_=>.nn (qt.wrap (ad+1)))) (.oo .u))
 0 [] λ_=>.jn true)
def czc:=
 mkp2 func33 nza
def jzb (j:cz3):T Bool:=
 .jC (j.XI>=0) (.jC (j.XI<=1022) (.jC (j.XK>=1) (.jC (j.XK<=16) (.jC (j.Xk>=0) (.jC (j.Xk<=20) (.jC (j.XN>=0) (.jn (qv (j.XN<=8192))) (.jn false)) (.jn false)) (.jn false)) (.jn false)) (.jn false)) (.jn false)) (.jn false)
def oz7:=
 mkp1 func35 jzb
def Bz9 (j:azk)(aa:A4):T Bool:=
 .loop (ik 5 [1,2] [0]) (.exit 0) (jk [] []) (λab=>let ac:=aa.getD (ab.toNat) qu;.jC (ab<(aa.length:Int)) (.cub 1 28 [1,2,5] [0] (.gh ab aa.length<|.jE (ac !=(-1048576)) (.gh ab aa.length<|.gh ab j.Xf.length<|.oo (ac !=(j.Xf.getD (ab.toNat) qu)))) λad=>.br ad (.ff false) (.nn (qt.wrap (ab+1)))) (.oo .u))
 0 [] λ_=>.jn true
def Bz8:=
 mkp2 func66 Bz9
def tz6 (j:az2)(aa:Int)(ab:Int):T Bool:=
 .loop (ik 7 [1,2,3] [0]) (.exit 0) (jk [] []) (λac=>let ad:=j.Xi.getD (ac.toNat) qu;.jC (ac<(j.Xi.length:Int)) (.cub 1 32 [1,2,3,7] [0] (.gh ac j.Xi.length<|.jE ((ad.Xt)==aa) (.gh ac j.Xi.length<|.oo ((ad.Place)==ab))) λae=>.br ae (.ff true) (.nn (qt.wrap (ac+1)))) (.oo .u))
 0 [] λ_=>.jn false
def Ezz:=
 mkp3 func100 tz6
def pzn (j:azk)(aa:Int):T Int:=
 .loop (ik 5 [1,2] [0]) (.exit 0) (jk [] []) (λab=>.jC (ab<(j.Xf.length:Int)) (.gh ab j.Xf.length<|.br ((j.Xf.getD (ab.toNat) qu)==aa) (.ff ab) (.nn (qt.wrap (ab+1)))) (.oo .u))
 0 [] λ_=>.jn (-1)
def fzq:=
 mkp2 func48 pzn
def Izz (j:az2)(aa:azk)(ab:aza):T Bool:=let ac:=(⟨aa.Xf⟩:azk);.cub 2 41 [4,5] [64,128] (.jF (ab.Xt<0) (.jF (ab.Xt>=(j.Xj.length:Int)) (.jF (ab.Place<0) (.jF (ab.Place>=(j.Xh.length:Int)) (.cc (Ezz j ab.Xt ab.Place) λad=>.oo (!ad)))))) λad=>.br ad (.jn false) (.cc (fzq ac (qt.wrap ((-1)-ab.Xt))) λae=>let af:=qv (ae>=0);
 .cc (fzq ac ab.Place) λag=>let ah:=qv (ag>=0);
 .br (ab.Xo==1) (.br (!af) (.br ah (.jn true) (.br (ab.Xo==2) (.br af (.jn (!ah)) (.jn false)) (.jn false))) (.br (ab.Xo==2) (.br af (.jn (!ah)) (.jn false)) (.jn false))) (.br (ab.Xo==2) (.br af (.jn (!ah)) (.jn false)) (.jn false)))
def Bz7:=
 mkp3 func47 Izz
def szz (j:az2)(aa:azk):T A9:=
 .cc (czc j aa) λab=>.br (!ab) (.jn nl) (.loop (λs (ac:Aa)=>pk s [2,3,5] [0,64] [(6,pz ac.2)] [(448,vO ac.1 62)]) (.exit 0) (λs (ac:A9)=>pk s [5] [] [] [(448,vO ac 62)]) (λac=>.jC (ac.2<=2) (.loop (λs (ad:Aa)=>pk s [2,3,5,6] [0,64] [(7,pz ad.2)] [(448,vO ad.1 62)]) (.exit 2) (λs (ad:A9)=>pk s [2,3,5,6] [0,64] [] [(448,vO ad 62)]) (λad=>.jC (ad.2<(j.Xj.length:Int)) (.loop (λs (ae:Aa)=>pk s [2,3,5,6,7] [0,64] [(8,pz ae.2)] [(448,vO ae.1 62)]) (.exit 4) (λs (ae:A9)=>pk s [2,3,5,6,7] [0,64] [] [(448,vO ae 62)]) (λae=>let af:=(⟨ac.2,ad.2,ae.2⟩:aza);let ag:=([af]:A9);let ah:=ae.1.length+ag.length;.jC (ae.2<(j.Xh.length:Int)) (.cut 0 (λs (ai:A9)=>pk s [2,3,6,7,8] [0,64] [(5,.vec 1664)] [(1664,vO ai 62)]) (.cc (Bz7 (⟨j.Xl,j.Xd,j.Xh,j.Xj,j.Xi,j.Xq⟩:az2) (⟨aa.Xf⟩:azk) af) λai=>.br ai (.conv 15002 (kL ag 62)<|.conv 15003 (kA ae.1 ag 62)<|.grd (ah * 24<=140737488355328/\ah<=maxLen)<|.oo (ae.1++ag)) (.oo ae.1)) λai=>.nn (ai,(qt.wrap (ae.2+1)))) (.oo ae.1)) (ad.1,0) [] λae=>.nn (ae,(qt.wrap (ad.2+1)))) (.oo ad.1)) (ac.1,0) [] λad=>.nn (ad,(qt.wrap (ac.2+1)))) (.oo ac.1)) (nl,1) [] λac=>.jn ac)
def lzk:=
 mkp2 func67 szz
def pzs (j:azk)(aa:azk):T Bool:=let ab:=(j.Xf.length:Int);.br (ab !=(aa.Xf.length:Int)) (.jn false) (.loop (ik 5 [2,3] [0,64]) (.exit 0) (jk [] []) (λac=>.jC (ac<ab) (.gh ac j.Xf.length<|.gh ac aa.Xf.length<|.br ((j.Xf.getD (ac.toNat) qu) !=(aa.Xf.getD (ac.toNat) qu)) (.ff false) (.nn (qt.wrap (ac+1)))) (.oo .u))
 0 [] λ_=>.jn true)
def pzr:=
 mkp2 func69 pzs
def xz3 (j:Ab)(aa:azk)(ab:aza):T Bool:=
 .loop (ik 7 [0,4,5] [0,64]) (.exit 0) (jk [] []) (λac=>let ad:=j.getD (ac.toNat) qu;.jC (ac<(j.length:Int)) (.cub 1 29 [0,4,5,7] [0,64] (.gh ac j.length<|.jE (((ad.Xm.Xo)==ab.Xo)&&(((ad.Xm.Xt)==ab.Xt)&&(((ad.Xm.Place)==ab.Place)&&true))) (.gh ac j.length<|.cc (pzr (ad.XV) aa) λae=>.oo ae)) λae=>.br ae (.ff true) (.nn (qt.wrap (ac+1)))) (.oo .u))
 0 [] λ_=>.jn false
def xz2:=
 mkp3 func68 xz3
def Bz2 (j:az2)(aa:azk)(ab:aza):T (azk×Bool):=let ac:=qt.wrap ((-1)-ab.Xt);.cub 2 19 [4,5,6] [64,128,192,193] (.cc (czc j aa) λad=>.jD (!ad) (.cc (Bz7 j aa ab) λae=>.oo (!ae))) λad=>.br ad (.jn ((⟨nl⟩:azk),false)) (.grd (aa.Xf.length * 8<=140737488355328/\aa.Xf.length<=maxLen)<|.cut 0 (λs (ae:A4)=>pk s [6,8] [192,193,640] [] [(512,vO ae 3)]) (.br (ab.Xo==1) (.cc (fzq aa ab.Place) λae=>.gh ae aa.Xf.length<|.conv 5010 (kS aa.Xf 3 (ae.toNat) ac)<|.gi (ae) aa.Xf.length<|.oo (aa.Xf.set (ae.toNat) ac)) (.cc (fzq aa ac) λae=>.gh ae aa.Xf.length<|.conv 6010 (kS aa.Xf 3 (ae.toNat) ab.Place)<|.gi (ae) aa.Xf.length<|.oo (aa.Xf.set (ae.toNat) ab.Place))) λae=>.jn ((⟨ae⟩:azk),true))
def fz1:=
 mkq3 func18 Bz2 (λr=>.tup [q r.1,q r.2])
def nze (j:az2)(aa:azk)(ab:A4)(ac:Int)(ad:Ab):T (A9×Bool):=let ae:=([(⟨aa,(-1),(⟨0,0,0⟩:aza),0⟩:bz0)]:Ay);.cub 2 41 [2,3,4,5,6] [0,64] (.cc (czc j aa) λaf=>.jD (!af) (.jD ((ab.length:Int) !=(j.Xd.length:Int)) (.jF (ac<0) (.oo (qv (ac>16)))))) λaf=>.br af (.jn (nl,false)) (.conv 3002 (kL ae 165)<|.loop (λs (ag:(Ay×Int))=>pk s [2,3,4,5,12] [0] [(13,pz ag.2)] [(448,vO ag.1 165)]) (.exit 0) (jk [] []) (λag=>let ah:=(ag.2).toNat;let ai:=ag.1.getD ah qu;.jC (ag.2<(ag.1.length:Int)) (.cut 0 (λs (aj:Ay)=>pk s [2,3,4,5,12,13] [0] [] [(448,vO aj 165)]) (.gg ag.2 ag.1.length<|.cc (Bz8 (ai.mode) ab) λaj=>.br aj (.loop (λs (ak:Aa)=>pk s [12,14] [448] [(15,pz ak.2)] [(1408,vO ak.1 62)]) (.exit 2) (λs (ak:A9)=>pk s [14] [] [] [(1408,vO ak 62)]) (λak=>let al:=ag.1.getD (X3 ak.2) qu;let am:=([al.action]:A9);let an:=am.length+ak.1.length;.gg ak.2 ag.1.length<|.jC ((al.before)>=0) (.gg ak.2 ag.1.length<|.conv 12005 (kL am 62)<|.conv 12007 (kA am ak.1 62)<|.grd (an * 24<=140737488355328/\an<=maxLen)<|.gg ak.2 ag.1.length<|.nn ((am++ak.1),al.before)) (.oo ak.1)) (nl,ag.2) [] λak=>.ff (.fin (ak,true))) (.gg ag.2 ag.1.length<|.br ((ai.depth)==ac) (.oo ag.1) (.gg ag.2 ag.1.length<|.cc (lzk j (ai.mode)) λak=>.loop (λs (al:(Ay×Int))=>pk s [2,3,4,5,12,13,16] [0] [(17,pz al.2)] [(448,vO al.1 165)]) (.exit 4) (λs (al:Ay)=>pk s [2,3,4,5,12,13] [0] [] [(448,vO al 165)]) (λal=>let am:=ak.getD (X3 al.2) qu;let an:=al.1.getD ah qu;.jC (al.2<(ak.length:Int)) (.cut 0 (λs (ao:Ay)=>pk s [2,3,4,5,12,13,16,17] [0] [] [(448,vO ao 165)]) (.gg ag.2 al.1.length<|.gh al.2 ak.length<|.cc (xz2 ad (an.mode) am) λao=>.br ao (.oo al.1) (.gg ag.2 al.1.length<|.gh al.2 ak.length<|.cc (fz1 j (an.mode) am) λap=>.loop (λs (aq:(Bool×Int))=>pk s [2,3,4,5,12,13,16,17,18] [0,448,4352] [(20,q aq.1),(21,pz aq.2)] []) (.exit 6) (λs (aq:Bool)=>pk s [2,3,4,5,12,13,16,17,18] [0,448,4352] [(20,q aq)] []) (λaq=>.jC (aq.2<(al.1.length:Int)) (.cub 0 20 [2,3,4,5,12,13,16,17,18,21] [0,448,4352] (.jD aq.1 (.gg aq.2 al.1.length<|.cc (pzr ((al.1.getD (X3 aq.2) qu).mode) ap.1) λar=>.oo ar)) λar=>.nn (ar,(qt.wrap (aq.2+1)))) (.oo aq.1)) (false,0) [] λaq=>.br (!aq) (.gh al.2 ak.length<|.gg ag.2 al.1.length<|.name 27012 ((qt.wrap ((an.depth)+1))) λar=>let au:=([(⟨ap.1,ag.2,am,ar⟩:bz0)]:Ay);let av:=al.1.length+au.length;
 .conv 27014 (kL au 165)<|.conv 27015 (kA al.1 au 165)<|.grd (av * 64<=140737488355328/\av<=maxLen)<|.oo (al.1++au)) (.oo al.1))) λao=>.nn (ao,(qt.wrap (al.2+1)))) (.oo al.1)) (ag.1,0) [] λal=>.oo al))) λaj=>.nn (aj,(qt.wrap (ag.2+1)))) (.oo .u)) (ae,0) [] λ_=>.jn (nl,false))
def nzd:=
 mkq5 func36 nze (λr=>.tup [q r.1,q r.2])
def szy (j:azf)(aa:Int)(ab:Bh):T azf:=
 .loop (λs (ac:Bj)=>pk s [3,5,6,7] [0,64,128,131,448] [(8,pz ac.2)] [(386,vO ac.1 89)]) (.exit 0) (λs (ac:Bi)=>pk s [6,7] [128,131,448] [] [(386,vO ac 89)]) (λac=>let ad:=j.Xa.getD (X3 ac.2) qu;let ae:=([((qt.wrap ((ad.1)+ab.1)),(qt.wrap ((ad.2.1)+ab.2.1)),(qt.wrap ((ad.2.2)+ab.2.2)))]:Bi);let af:=ac.1.length+ae.length;.jC (ac.2<(j.Xa.length:Int)) (.gh ac.2 j.Xa.length<|.z7<|.z7<|.z8<|.z8<|.z9<|.z9<|.conv 6018 (kL ae 89)<|.conv 6019 (kA ac.1 ae 89)<|.grd (af * 24<=140737488355328/\af<=maxLen)<|.nn ((ac.1++ae),(qt.wrap (ac.2+1)))) (.oo ac.1)) (nl,0) [] λac=>.jn (⟨aa,j.XE,ac⟩:azf)
def Ezy:=
 mkp3 func50 szy
def szx (j:az2)(aa:azk):T (az7×Int):=
 .cc (fzb j) λab=>.br (ab !=0) (.jn ((⟨(⟨nl,nl⟩:azl),nl,nl⟩:az7),ab)) (.cc (czc j aa) λac=>.br (!ac) (.jn ((⟨(⟨nl,nl⟩:azl),nl,nl⟩:az7),3403)) (.grd (j.Xl.Xe.length * 40<=140737488355328/\j.Xl.Xe.length<=maxLen)<|.loop (λs (ad:Ac)=>pk s [2,3,4,7] [0,64,128,129,130,131,132,1536] [(8,pz ad.2)] [(1216,vO ad.1 91)]) (.exit 0) (λs (ad:A2)=>pk s [4,7] [128,129,130,131,132,1536] [] [(1216,vO ad 91)]) (λad=>let ae:=(ad.2).toNat;let af:=aa.Xf.getD ae qu;let ag:=qt.wrap ((-1)-af);let ah:=j.Xj.getD (ag.toNat) qu;let ai:=j.Xh.getD (af.toNat) qu;let aj:=j.Xd.getD ae qu;.jC (ad.2<(j.Xd.length:Int)) (.cut 2 (λs (ak:Bx)=>pk s [2,3,4,7,8,10] [0,64,128,129,130,131,132,1216,1536] [(9,pz ak.1)] [(2176,.box [pz ak.2.1,pz ak.2.2.1,pz ak.2.2.2])]) (.gh ad.2 aa.Xf.length<|.jC (af>=0) (.gh af j.Xh.length<|.oo ((-1),ai.1,ai.2.1,ai.2.2)) (.gh ag j.Xj.length<|.gh ag j.Xj.length<|.oo (ah.Xz,ah.XA.1,ah.XA.2.1,ah.XA.2.2))) λak=>.loop (λs (al:Ac)=>pk s [2,3,4,7,8,9,10] [0,64,128,129,130,131,132,1536,2176] [(12,pz al.2)] [(1216,vO al.1 91)]) (.exit 2) (λs (al:A2)=>pk s [2,3,4,7,8] [0,64,128,129,130,131,132,1536] [] [(1216,vO al 91)]) (λal=>.gh ad.2 j.Xd.length<|.jC (al.2<(aj.Xe.length:Int)) (.gh ad.2 j.Xd.length<|.gh al.2 (aj.Xe.length)<|.call (Ezy ((aj.Xe).getD (X3 al.2) qu) ak.1 (ak.2.1,ak.2.2.1,ak.2.2.2)) [] λam=>let an:=([am]:A2);let ao:=al.1.length+an.length;
 .conv 18014 (kL an 91)<|.conv 18015 (kA al.1 an 91)<|.grd (ao * 40<=140737488355328/\ao<=maxLen)<|.nn ((al.1++an),(qt.wrap (al.2+1)))) (.oo al.1)) (ad.1,0) [] λal=>.nn (al,(qt.wrap (ad.2+1)))) (.oo ad.1)) (j.Xl.Xe,0) [] λad=>.jn ((⟨j.Xl.Xg,ad,j.Xl.Xs⟩:az7),0)))
def dzu:=
 mkq2 func19 szx (λr=>.tup [q r.1,pz r.2])
def Azd (j:A4):T Bool:=
 .loop (ik 3 [0] []) (.exit 0) (jk [] []) (λaa=>let ab:=j.getD (aa.toNat) qu;.jC (aa<(j.length:Int)) (.cub 1 21 [0,3] [] (.gh aa j.length<|.jF (ab<(-2147483648)) (.gh aa j.length<|.oo (qv (ab>2147483648)))) λac=>.br ac (.ff false) (.nn (qt.wrap (aa+1)))) (.oo .u))
 0 [] λ_=>.jn true
def izo:=
 mkp1 func61 Azd
def Izm (j:A4):T Ae:=
 .cc (izo j) λaa=>.br (!aa) (.jn nl) (.loop (λs (ab:Af)=>pk s [0,3] [] [(4,pz ab.2)] [(256,vO ab.1 95)]) (.exit 0) (λs (ab:Ae)=>pk s [3] [] [] [(256,vO ab 95)]) (λab=>let ac:=j.getD (X3 ab.2) qu;let ad:=([(⟨ac,ac⟩:az0)]:Ae);let ae:=ab.1.length+ad.length;.jC (ab.2<(j.length:Int)) (.gh ab.2 j.length<|.gh ab.2 j.length<|.conv 7010 (kL ad 95)<|.conv 7011 (kA ab.1 ad 95)<|.grd (ae * 16<=140737488355328/\ae<=maxLen)<|.nn ((ab.1++ad),(qt.wrap (ab.2+1)))) (.oo ab.1)) (nl,0) [] λab=>.jn ab)
def Izl:=
 mkp1 func23 Izm
def Ezo (j:az0):T Bool:=
 .jC ((-2147483648)<=j.Lo) (.jC (j.Lo<=j.Hi) (.jn (qv (j.Hi<=2147483648))) (.jn false)) (.jn false)
def dz8:=
 mkp1 func177 Ezo
def pze (j:Ae):T Bool:=
 .loop (ik 3 [0] []) (.exit 0) (jk [] []) (λaa=>.jC (aa<(j.length:Int)) (.gh aa j.length<|.cc (dz8 (j.getD (aa.toNat) qu)) λab=>.br (!ab) (.ff false) (.nn (qt.wrap (aa+1)))) (.oo .u))
 0 [] λ_=>.jn true
def Cz9:=
 mkp1 func111 pze
def Az4 (j:azl)(aa:Ae):T Bool:=
 .br ((aa.length:Int)==(j.Xc.length:Int)) (.cc (Cz9 aa) λab=>.jn ab) (.jn false)
def qzo:=
 mkp2 func57 Az4
def az2t (j:Int):T Int:=
 .jn (max (-2147483648) (min j 2147483648))
def uzw:=
 mkp1 func239 az2t
def aze0 (j:Int):T az0:=
 .cc (uzw j) λaa=>.cc (uzw j) λab=>.jn (⟨aa,ab⟩:az0)
def ozi:=
 mkp1 func183 aze0
def ref1_Unit_T:T Bp:=
 .cc (ozi 65536) λj=>.jn ((j,(⟨0,0⟩:az0),(⟨0,0⟩:az0)),((⟨0,0⟩:az0),j,(⟨0,0⟩:az0)),((⟨0,0⟩:az0),(⟨0,0⟩:az0),j))
def ref1_Unit_C:CallS Bp:=
 mkD func114 (ref1_Unit_T) 0 [] [] (λr=>q r) X6
def ref1_Rest_T:T bz7:=
 .cc (ref1_Unit_C) λj=>.jn (⟨j,((⟨0,0⟩:az0),(⟨0,0⟩:az0),(⟨0,0⟩:az0))⟩:bz7)
def ref1_Rest_C:CallS bz7:=
 mkD func59 (ref1_Rest_T) 0 [] [] (λr=>q r) X6
def Nz9 (j:Int):T Int:=
 .ok ((65536:Int)≠0) jp<|.ok ((65536:Int)≠0) jp<|.jn ((qt.wrap ((j.tmod 65536)+65536)).tmod 65536)
def Gz2:=
 mkp1 func370 Nz9
def Ezi (j:Int)(aa:Int):T Int:=let ab:=qt.wrap (j.tdiv aa);.grd (aa≠0)<|.cut 0 (λs (ac:Int)=>pk s [] [] [(5,pz ac)] []) (.grd (aa≠0)<|.jC ((j.tmod aa)<0) (.oo (qt.wrap (ab-1))) (.oo ab)) λac=>.jn ac
def bza:=
 mkp2 func52 Ezi
def Izs (j:Int)(aa:Int):T Int:=let ab:=qt.wrap (j.tdiv aa);.grd (aa≠0)<|.cut 0 (λs (ac:Int)=>pk s [] [] [(5,pz ac)] []) (.grd (aa≠0)<|.jC ((j.tmod aa)>0) (.oo (qt.wrap (ab+1))) (.oo ab)) λac=>.jn ac
def bz3:=
 mkp2 func103 Izs
def Azw (j:Int):T (Cc×Cc):=
 .cc (bza (qt.wrap (j * 6746518852)) 65536) λaa=>.ja<|.cc (bz3 (qt.wrap (j * 6746518853)) 65536) λab=>.ja<|.unroll 10<|.ji<|.lit 7002 1<|.ja<|.ja<|.cc (bza (qt.wrap (aa * aa)) 1073741824) λac=>.jb<|.lit 8002 1<|.ja<|.ja<|.cc (bz3 (qt.wrap (ab * ab)) 1073741824) λad=>.jb<|.lit 6001 3<|.ji<|.lit 7002 2<|.jb<|.ja<|.cc (bza (qt.wrap (ac * aa)) 1073741824) λae=>.jc<|.lit 8002 2<|.jb<|.ja<|.cc (bz3 (qt.wrap (ad * ab)) 1073741824) λaf=>.jc<|.lit 6001 4<|.ji<|.lit 7002 3<|.jc<|.ja<|.cc (bza (qt.wrap (ae * aa)) 1073741824) λag=>.jd<|.lit 8002 3<|.jc<|.ja<|.cc (bz3 (qt.wrap (af * ab)) 1073741824) λah=>.jd<|.lit 6001 5<|.ji<|.lit 7002 4<|.jd<|.ja<|.cc (bza (qt.wrap (ag * aa)) 1073741824) λai=>.je<|.lit 8002 4<|.jd<|.ja<|.cc (bz3 (qt.wrap (ah * ab)) 1073741824) λaj=>.je<|.lit 6001 6<|.ji<|.lit 7002 5<|.je<|.ja<|.cc (bza (qt.wrap (ai * aa)) 1073741824) λak=>.jf<|.lit 8002 5<|.je<|.ja<|.cc (bz3 (qt.wrap (aj * ab)) 1073741824) λal=>.jf<|.lit 6001 7<|.ji<|.lit 7002 6<|.jf<|.ja<|.cc (bza (qt.wrap (ak * aa)) 1073741824) λam=>.jg<|.lit 8002 6<|.jf<|.ja<|.cc (bz3 (qt.wrap (al * ab)) 1073741824) λan=>.jg<|.lit 6001 8<|.ji<|.lit 7002 7<|.jg<|.ja<|.cc (bza (qt.wrap (am * aa)) 1073741824) λao=>.jh<|.lit 8002 7<|.jg<|.ja<|.cc (bz3 (qt.wrap (an * ab)) 1073741824) λap=>.jh<|.lit 6001 9<|.ji<|.lit 7002 8<|.jh<|.ja<|.cc (bza (qt.wrap (ao * aa)) 1073741824) λaq=>.ix 9 11 rfl<|.lit 8002 8<|.jh<|.ja<|.cc (bz3 (qt.wrap (ap * ab)) 1073741824) λar=>.ix 9 11 rfl<|.lit 6001 10<|.ji<|.lit 7002 9<|.ix 9 11 rfl<|.ja<|.cc (bza (qt.wrap (aq * aa)) 1073741824) λau=>.ix 10 11 rfl<|.lit 8002 9<|.ix 9 11 rfl<|.ja<|.cc (bz3 (qt.wrap (ar * ab)) 1073741824) λav=>.ix 10 11 rfl<|.lit 6001 11<|.jm<|.jn ((0,aa,ac,ae,ag,ai,ak,am,ao,aq,au),(0,ab,ad,af,ah,aj,al,an,ap,ar,av))
def Azv:=
 mkq1 func480 Azw (λr=>.tup [.pure (jzj r.1),.pure (jzj r.2)])
def pzi (j:Int)(aa:Int):T az0:=
 .cc (bza j 16384) λab=>.cc (bz3 aa 16384) λac=>.jn (⟨(max 0 ab),(min 65536 ac)⟩:az0)
def pzh:=
 mkp2 func481 pzi
def Izy (j:Int):T az0:=
 .cc (Azv j) λaa=>.ja<|.jc<|.cc (bz3 aa.2.2.2.2.1 6) λab=>.je<|.cc (bza aa.1.2.2.2.2.2.1 120) λac=>.jg<|.cc (bz3 aa.2.2.2.2.2.2.2.2.1 5040) λad=>.ja<|.jc<|.cc (bza aa.1.2.2.2.1 6) λae=>.je<|.cc (bz3 aa.2.2.2.2.2.2.1 120) λaf=>.jg<|.cc (bza aa.1.2.2.2.2.2.2.2.1 5040) λag=>.ix 9 11 rfl<|.cc (bz3 aa.2.2.2.2.2.2.2.2.2.2.1 362880) λah=>.call (pzh (qt.wrap ((qt.wrap ((qt.wrap (aa.1.2.1-ab))+ac))-ad)) (qt.wrap ((qt.wrap ((qt.wrap ((qt.wrap (aa.2.2.1-ae))+af))-ag))+ah))) [] λai=>.jn ai
def Tz5:=
 mkp1 func427 Izy
open Go.Proofs
def Azu (j:Int):T az0:=
 .cc (Azv j) λaa=>.jb<|.cc (bz3 aa.2.2.2.1 2) λab=>.jd<|.cc (bza aa.1.2.2.2.2.1 24) λac=>.jf<|.cc (bz3 aa.2.2.2.2.2.2.2.1 720) λad=>.jh<|.cc (bza aa.1.2.2.2.2.2.2.2.2.1 40320) λae=>.ix 10 11 rfl<|.cc (bz3 aa.2.2.2.2.2.2.2.2.2.2.2 3628800) λaf=>.name 2019 ((qt.wrap ((qt.wrap ((qt.wrap ((qt.wrap ((qt.wrap (1073741824-ab))+ac))-ad))+ae))-af))) λag=>.jb<|.cc (bza aa.1.2.2.1 2) λah=>.jd<|.cc (bz3 aa.2.2.2.2.2.1 24) λai=>.jf<|.cc (bza aa.1.2.2.2.2.2.2.1 720) λaj=>.jh<|.cc (bz3 aa.2.2.2.2.2.2.2.2.2.1 40320) λak=>.call (pzh ag (qt.wrap ((qt.wrap ((qt.wrap ((qt.wrap (1073741824-ah))+ai))-aj))+ak))) [] λal=>.jn al
def Lz7:=
 mkp1 func428 Azu
def wzm (j:Int):T az0:=
 .jC (j<=8192) (.cc (Tz5 j) λaa=>.jn aa) (.cc (Lz7 (qt.wrap (16384-j))) λaa=>.jn aa)
def jza:=
 mkp1 func371 wzm
def Nzc (j:az0):T az0:=
 .cc (dz8 j) λaa=>.br (!aa) (.jn (⟨0,0⟩:az0)) (.jn (⟨(qt.wrap (0-j.Hi)),(qt.wrap (0-j.Lo))⟩:az0))
def Gz3:=
 mkp1 func276 Nzc
def Nzd (j:Int):T az0:=
 .cc (Gz2 j) λaa=>let ab:=aa.tmod 16384;let ac:=qt.wrap (aa.tdiv 16384);let ad:=qt.wrap (16384-ab);
 .ok ((16384:Int)≠0) jp<|.ok ((16384:Int)≠0) jp<|.br (ac==0) (.cc (jza ab) λae=>.jn ae) (.br (ac==1) (.cc (jza ad) λae=>.jn ae) (.br (ac==2) (.cc (jza ab) λae=>.cc (Gz3 ae) λaf=>.jn af) (.cc (jza ad) λae=>.cc (Gz3 ae) λaf=>.jn af)))
def Gz4:=
 mkp1 func327 Nzd
def Nz7 (j:Int):T az0:=
 .cc (Gz2 j) λaa=>.cc (Gz4 (qt.wrap (aa+16384))) λab=>.jn ab
def Nz6:=
 mkp1 func326 Nz7
def Izt (j:az0)(aa:az0):T az0:=
 .cub 2 12 [2,3,4] [0,64,128] (.cc (dz8 j) λab=>.jD (!ab) (.cc (dz8 aa) λac=>.oo (!ac))) λab=>.br ab (.jn (⟨0,0⟩:az0)) (.jn (⟨(min j.Lo aa.Lo),(max j.Hi aa.Hi)⟩:az0))
def Azs:=
 mkp2 func368 Izt
def Ezq (j:az0)(aa:Int):T Bool:=
 .cc (Gz2 (qt.wrap (aa-j.Lo))) λab=>.jn (qv ((qt.wrap (j.Lo+ab))<=j.Hi))
def Ezp:=
 mkp2 func369 Ezq
def Izx (j:az0)(aa:az0)(ab:az0)(ac:Int)(ad:Int):T az0:=
 .cc (dz8 j) λae=>.br (!ae) (.jn (⟨0,0⟩:az0)) (.jC ((qt.wrap (j.Hi-j.Lo))>=65536) (.jn (⟨(-65536),65536⟩:az0)) (.cc (Azs aa ab) λaf=>.cut 0 (λs (ag:B2)=>pk s [4,5,10,11] [0,192] [] [(1024,.box [pz ag.1,pz ag.2])]) (.cc (Ezp j ac) λag=>.br ag (.cc (ozi 65536) λah=>.cc (Azs af ah) λai=>.oo (ai.Lo,ai.Hi)) (.oo (af.Lo,af.Hi))) λag=>.cut 0 (λs (ah:B2)=>pk s [10,11] [192] [] [(1024,.box [pz ah.1,pz ah.2])]) (.cc (Ezp j ad) λah=>.br ah (.cc (ozi (-65536)) λai=>.cc (Azs (⟨ag.1,ag.2⟩:az0) ai) λaj=>.oo (aj.Lo,aj.Hi)) (.oo (ag.1,ag.2))) λah=>.jn (⟨ah.1,ah.2⟩:az0)))
def Izw:=
 mkp5 func325 Izx
def wzl (j:az0):T az0:=
 .cc (Nz6 j.Lo) λaa=>.cc (Nz6 j.Hi) λab=>.cc (Izw j (⟨aa.Lo,aa.Hi⟩:az0) (⟨ab.Lo,ab.Hi⟩:az0) 0 32768) λac=>.jn ac
def Hzf:=
 mkp1 func274 wzl
def wzn (j:az0):T az0:=
 .cc (Gz4 j.Lo) λaa=>.cc (Gz4 j.Hi) λab=>.cc (Izw j aa ab 16384 49152) λac=>.jn ac
def Hzg:=
 mkp1 func275 wzn
def Izv (j:Int)(aa:az0):T Bp:=let ab:=(⟨aa.Lo,aa.Hi⟩:az0);.cc (dz8 aa) λac=>.br (!ac) (.jn (((⟨0,0⟩:az0),(⟨0,0⟩:az0),(⟨0,0⟩:az0)),((⟨0,0⟩:az0),(⟨0,0⟩:az0),(⟨0,0⟩:az0)),((⟨0,0⟩:az0),(⟨0,0⟩:az0),(⟨0,0⟩:az0)))) (.cc (ozi 65536) λad=>.cc (Hzf ab) λae=>.cc (Hzg ab) λaf=>.cc (Gz3 af) λag=>.br (j==0) (.jn ((ad,(⟨0,0⟩:az0),(⟨0,0⟩:az0)),((⟨0,0⟩:az0),ae,ag),((⟨0,0⟩:az0),af,ae))) (.br (j==1) (.jn ((ae,(⟨0,0⟩:az0),af),((⟨0,0⟩:az0),ad,(⟨0,0⟩:az0)),(ag,(⟨0,0⟩:az0),ae))) (.br (j==2) (.jn ((ae,ag,(⟨0,0⟩:az0)),(af,ae,(⟨0,0⟩:az0)),((⟨0,0⟩:az0),(⟨0,0⟩:az0),ad))) (.jn (((⟨0,0⟩:az0),(⟨0,0⟩:az0),(⟨0,0⟩:az0)),((⟨0,0⟩:az0),(⟨0,0⟩:az0),(⟨0,0⟩:az0)),((⟨0,0⟩:az0),(⟨0,0⟩:az0),(⟨0,0⟩:az0)))))))
def Tz2:=
 mkp2 func236 Izv
def szn (j:Int)(aa:az0):T bz7:=
 .cc (Tz2 j (⟨aa.Lo,aa.Hi⟩:az0)) λab=>.jn (⟨ab,((⟨0,0⟩:az0),(⟨0,0⟩:az0),(⟨0,0⟩:az0))⟩:bz7)
def Ezn:=
 mkp2 func178 szn
def Ezl (j:Bm):T bz7:=
 .cc (ref1_Unit_C) λaa=>.jn (⟨aa,j⟩:bz7)
def Ezk:=
 mkp1 func179 Ezl
def Ezj (j:Bh):T Bm:=
 .z7<|.cc (ozi j.1) λaa=>.z8<|.cc (ozi j.2.1) λab=>.z9<|.cc (ozi j.2.2) λac=>.jn (aa,ab,ac)
def uzx:=
 mkp1 func117 Ezj
def Vz9 (j:Int)(aa:Int):T az0:=
 .cc (uzw j) λab=>.cc (uzw aa) λac=>.jn (⟨ab,ac⟩:az0)
def wzo:=
 mkp2 func277 Vz9
def Nzb (j:az0)(aa:az0):T az0:=let ab:=qt.wrap (j.Lo * aa.Lo);let ac:=qt.wrap (j.Lo * aa.Hi);let ad:=qt.wrap (j.Hi * aa.Lo);let ae:=qt.wrap (j.Hi * aa.Hi);.cub 2 16 [2,3,4] [0,64,128] (.cc (dz8 (⟨j.Lo,j.Hi⟩:az0)) λaf=>.jD (!af) (.cc (dz8 (⟨aa.Lo,aa.Hi⟩:az0)) λag=>.oo (!ag))) λaf=>.br af (.jn (⟨0,0⟩:az0)) (.name 4004 ((min (min (min ab ac) ad) ae)) λag=>.cc (bza ag 65536) λah=>.name 4010 ((max (max (max ab ac) ad) ae)) λai=>.cc (bz3 ai 65536) λaj=>.cc (wzo ah aj) λak=>.jn ak)
def bz2:=
 mkp2 func238 Nzb
def Nz3 (j:az0)(aa:az0):T az0:=
 .cub 2 12 [2,3,4] [0,64,128] (.cc (dz8 j) λab=>.jD (!ab) (.cc (dz8 aa) λac=>.oo (!ac))) λab=>.br ab (.jn (⟨0,0⟩:az0)) (.cc (wzo (qt.wrap (j.Lo+aa.Lo)) (qt.wrap (j.Hi+aa.Hi))) λac=>.jn ac)
def bzl:=
 mkp2 func237 Nz3
def nz6 (j:Bp)(aa:Bp):T Bp:=
 .unroll 4<|.ji<|.unroll 4<|.ji<|.z7<|.z7<|.z7<|.z7<|.cc (bz2 j.1.1 aa.1.1) λab=>.z7<|.z8<|.z8<|.z7<|.cc (bz2 j.1.2.1 aa.2.1.1) λac=>.cc (bzl ab ac) λad=>.z7<|.z9<|.z9<|.z7<|.cc (bz2 j.1.2.2 aa.2.2.1) λae=>.cc (bzl ad ae) λaf=>.z7<|.z7<|.lit 7001 1<|.ji<|.z7<|.z7<|.z7<|.z8<|.cc (bz2 j.1.1 aa.1.2.1) λag=>.z7<|.z8<|.z8<|.z8<|.cc (bz2 j.1.2.1 aa.2.1.2.1) λah=>.cc (bzl ag ah) λai=>.z7<|.z9<|.z9<|.z8<|.cc (bz2 j.1.2.2 aa.2.2.2.1) λaj=>.cc (bzl ai aj) λak=>.z7<|.z8<|.lit 7001 2<|.ji<|.z7<|.z7<|.z7<|.z9<|.cc (bz2 j.1.1 aa.1.2.2) λal=>.z7<|.z8<|.z8<|.z9<|.cc (bz2 j.1.2.1 aa.2.1.2.2) λam=>.cc (bzl al am) λan=>.z7<|.z9<|.z9<|.z9<|.cc (bz2 j.1.2.2 aa.2.2.2.2) λao=>.cc (bzl an ao) λap=>.z7<|.z9<|.lit 7001 3<|.jm<|.lit 4001 1<|.ji<|.unroll 4<|.ji<|.z8<|.z7<|.z7<|.z7<|.cc (bz2 j.2.1.1 aa.1.1) λaq=>.z8<|.z8<|.z8<|.z7<|.cc (bz2 j.2.1.2.1 aa.2.1.1) λar=>.cc (bzl aq ar) λau=>.z8<|.z9<|.z9<|.z7<|.cc (bz2 j.2.1.2.2 aa.2.2.1) λav=>.cc (bzl au av) λaw=>.z8<|.z7<|.lit 7001 1<|.ji<|.z8<|.z7<|.z7<|.z8<|.cc (bz2 j.2.1.1 aa.1.2.1) λax=>.z8<|.z8<|.z8<|.z8<|.cc (bz2 j.2.1.2.1 aa.2.1.2.1) λay=>.cc (bzl ax ay) λaz=>.z8<|.z9<|.z9<|.z8<|.cc (bz2 j.2.1.2.2 aa.2.2.2.1) λa0=>.cc (bzl az a0) λa1=>.z8<|.z8<|.lit 7001 2<|.ji<|.z8<|.z7<|.z7<|.z9<|.cc (bz2 j.2.1.1 aa.1.2.2) λa2=>.z8<|.z8<|.z8<|.z9<|.cc (bz2 j.2.1.2.1 aa.2.1.2.2) λa3=>.cc (bzl a2 a3) λa4=>.z8<|.z9<|.z9<|.z9<|.cc (bz2 j.2.1.2.2 aa.2.2.2.2) λa5=>.cc (bzl a4 a5) λa6=>.z8<|.z9<|.lit 7001 3<|.jm<|.lit 4001 2<|.ji<|.unroll 4<|.ji<|.z9<|.z7<|.z7<|.z7<|.cc (bz2 j.2.2.1 aa.1.1) λa7=>.z9<|.z8<|.z8<|.z7<|.cc (bz2 j.2.2.2.1 aa.2.1.1) λa8=>.cc (bzl a7 a8) λa9=>.z9<|.z9<|.z9<|.z7<|.cc (bz2 j.2.2.2.2 aa.2.2.1) λba=>.cc (bzl a9 ba) λbb=>.z9<|.z7<|.lit 7001 1<|.ji<|.z9<|.z7<|.z7<|.z8<|.cc (bz2 j.2.2.1 aa.1.2.1) λbc=>.z9<|.z8<|.z8<|.z8<|.cc (bz2 j.2.2.2.1 aa.2.1.2.1) λbd=>.cc (bzl bc bd) λbe=>.z9<|.z9<|.z9<|.z8<|.cc (bz2 j.2.2.2.2 aa.2.2.2.1) λbf=>.cc (bzl be bf) λbg=>.z9<|.z8<|.lit 7001 2<|.ji<|.z9<|.z7<|.z7<|.z9<|.cc (bz2 j.2.2.1 aa.1.2.2) λbh=>.z9<|.z8<|.z8<|.z9<|.cc (bz2 j.2.2.2.1 aa.2.1.2.2) λbi=>.cc (bzl bh bi) λbj=>.z9<|.z9<|.z9<|.z9<|.cc (bz2 j.2.2.2.2 aa.2.2.2.2) λbk=>.cc (bzl bj bk) λbl=>.z9<|.z9<|.lit 7001 3<|.jm<|.lit 4001 3<|.jm<|.jn (((⟨(max (-65536) (min af.Lo 65536)),(max (-65536) (min af.Hi 65536))⟩:az0),(⟨(max (-65536) (min ak.Lo 65536)),(max (-65536) (min ak.Hi 65536))⟩:az0),(⟨(max (-65536) (min ap.Lo 65536)),(max (-65536) (min ap.Hi 65536))⟩:az0)),((⟨(max (-65536) (min aw.Lo 65536)),(max (-65536) (min aw.Hi 65536))⟩:az0),(⟨(max (-65536) (min a1.Lo 65536)),(max (-65536) (min a1.Hi 65536))⟩:az0),(⟨(max (-65536) (min a6.Lo 65536)),(max (-65536) (min a6.Hi 65536))⟩:az0)),((⟨(max (-65536) (min bb.Lo 65536)),(max (-65536) (min bb.Hi 65536))⟩:az0),(⟨(max (-65536) (min bg.Lo 65536)),(max (-65536) (min bg.Hi 65536))⟩:az0),(⟨(max (-65536) (min bl.Lo 65536)),(max (-65536) (min bl.Hi 65536))⟩:az0)))
def yz6:=
 mkp2 func180 nz6
def szl (j:Bp)(aa:Bm):T Bm:=
 .unroll 4<|.ji<|.z7<|.z7<|.z7<|.cc (bz2 j.1.1 aa.1) λab=>.z7<|.z8<|.z8<|.cc (bz2 j.1.2.1 aa.2.1) λac=>.cc (bzl ab ac) λad=>.z7<|.z9<|.z9<|.cc (bz2 j.1.2.2 aa.2.2) λae=>.cc (bzl ad ae) λaf=>.z7<|.lit 4001 1<|.ji<|.z8<|.z7<|.z7<|.cc (bz2 j.2.1.1 aa.1) λag=>.z8<|.z8<|.z8<|.cc (bz2 j.2.1.2.1 aa.2.1) λah=>.cc (bzl ag ah) λai=>.z8<|.z9<|.z9<|.cc (bz2 j.2.1.2.2 aa.2.2) λaj=>.cc (bzl ai aj) λak=>.z8<|.lit 4001 2<|.ji<|.z9<|.z7<|.z7<|.cc (bz2 j.2.2.1 aa.1) λal=>.z9<|.z8<|.z8<|.cc (bz2 j.2.2.2.1 aa.2.1) λam=>.cc (bzl al am) λan=>.z9<|.z9<|.z9<|.cc (bz2 j.2.2.2.2 aa.2.2) λao=>.cc (bzl an ao) λap=>.z9<|.lit 4001 3<|.jm<|.jn (af,ak,ap)
def szk:=
 mkp2 func182 szl
def Azr (j:Bm)(aa:Bm):T Bm:=
 .z7<|.z7<|.cc (bzl j.1 aa.1) λab=>.z8<|.z8<|.cc (bzl j.2.1 aa.2.1) λac=>.z9<|.z9<|.cc (bzl j.2.2 aa.2.2) λad=>.jn (ab,ac,ad)
def Azq:=
 mkp2 func181 Azr
def wzk (j:bz7)(aa:bz7):T bz7:=
 .cc (yz6 j.R aa.R) λab=>.cc (szk j.R aa.T) λac=>.cc (Azq j.T (ac.1,ac.2.1,ac.2.2)) λad=>.jn (⟨(ab.1,ab.2.1,ab.2.2),ad⟩:bz7)
def wzj:=
 mkp2 func113 wzk
def Az6 (j:azt)(aa:az0):T bz7:=let ab:=qt.wrap (j.Xo-4);.cc (ref1_Rest_C) λac=>.cut 0 (λs (ad:Ce)=>pk s [2,4,5] [0,128] [] [(256,.box [pz ad.1,pz ad.2.1,pz ad.2.2.1,pz ad.2.2.2.1,pz ad.2.2.2.2.1,pz ad.2.2.2.2.2.1,pz ad.2.2.2.2.2.2.1,pz ad.2.2.2.2.2.2.2.1,pz ad.2.2.2.2.2.2.2.2.1,pz ad.2.2.2.2.2.2.2.2.2.1,pz ad.2.2.2.2.2.2.2.2.2.2.1,pz ad.2.2.2.2.2.2.2.2.2.2.2.1,pz ad.2.2.2.2.2.2.2.2.2.2.2.2.1,pz ad.2.2.2.2.2.2.2.2.2.2.2.2.2.1,pz ad.2.2.2.2.2.2.2.2.2.2.2.2.2.2.1,pz ad.2.2.2.2.2.2.2.2.2.2.2.2.2.2.2.1,pz ad.2.2.2.2.2.2.2.2.2.2.2.2.2.2.2.2.1,pz ad.2.2.2.2.2.2.2.2.2.2.2.2.2.2.2.2.2.1,pz ad.2.2.2.2.2.2.2.2.2.2.2.2.2.2.2.2.2.2.1,pz ad.2.2.2.2.2.2.2.2.2.2.2.2.2.2.2.2.2.2.2.1,pz ad.2.2.2.2.2.2.2.2.2.2.2.2.2.2.2.2.2.2.2.2.1,pz ad.2.2.2.2.2.2.2.2.2.2.2.2.2.2.2.2.2.2.2.2.2.1,pz ad.2.2.2.2.2.2.2.2.2.2.2.2.2.2.2.2.2.2.2.2.2.2.1,pz ad.2.2.2.2.2.2.2.2.2.2.2.2.2.2.2.2.2.2.2.2.2.2.2])]) (.cub 1 10 [2,3,4,5,9] [0,64,128,256] (.br (j.Xo==1) (.oo (j.Xo==1)) (.br (j.Xo==2) (.oo (j.Xo==2)) (.oo (j.Xo==3)))) λad=>.br ad (.cc (Ezn (qt.wrap (j.Xo-1)) (⟨aa.Lo,aa.Hi⟩:az0)) λae=>.oo (ae.R.1.1.Lo,ae.R.1.1.Hi,ae.R.1.2.1.Lo,ae.R.1.2.1.Hi,ae.R.1.2.2.Lo,ae.R.1.2.2.Hi,ae.R.2.1.1.Lo,ae.R.2.1.1.Hi,ae.R.2.1.2.1.Lo,ae.R.2.1.2.1.Hi,ae.R.2.1.2.2.Lo,ae.R.2.1.2.2.Hi,ae.R.2.2.1.Lo,ae.R.2.2.1.Hi,ae.R.2.2.2.1.Lo,ae.R.2.2.2.1.Hi,ae.R.2.2.2.2.Lo,ae.R.2.2.2.2.Hi,ae.T.1.Lo,ae.T.1.Hi,ae.T.2.1.Lo,ae.T.2.1.Hi,ae.T.2.2.Lo,ae.T.2.2.Hi)) (.cub 0 19 [2,3,4,5] [0,64,128,256] (.br (j.Xo==4) (.oo (j.Xo==4)) (.br (j.Xo==5) (.oo (j.Xo==5)) (.oo (j.Xo==6)))) λae=>.br ae (.cut 1 (λs (af:C3)=>pk s [2,4,5,6] [0,128,256] [] [(640,.box [pz af.1,pz af.2.1,pz af.2.2.1,pz af.2.2.2.1,pz af.2.2.2.2.1,pz af.2.2.2.2.2])]) (.cas 11002 ab 0 (.z7<|.oo (aa.Lo,aa.Hi,0,0,0,0)) (.cas 11002 ab 1 (.z8<|.oo (0,0,aa.Lo,aa.Hi,0,0)) (.cas 11002 ab 2 (.z9<|.oo (0,0,0,0,aa.Lo,aa.Hi)) (.stop)))) λaf=>.cc (Ezk ((⟨af.1,af.2.1⟩:az0),(⟨af.2.2.1,af.2.2.2.1⟩:az0),(⟨af.2.2.2.2.1,af.2.2.2.2.2⟩:az0))) λag=>.oo (ag.R.1.1.Lo,ag.R.1.1.Hi,ag.R.1.2.1.Lo,ag.R.1.2.1.Hi,ag.R.1.2.2.Lo,ag.R.1.2.2.Hi,ag.R.2.1.1.Lo,ag.R.2.1.1.Hi,ag.R.2.1.2.1.Lo,ag.R.2.1.2.1.Hi,ag.R.2.1.2.2.Lo,ag.R.2.1.2.2.Hi,ag.R.2.2.1.Lo,ag.R.2.2.1.Hi,ag.R.2.2.2.1.Lo,ag.R.2.2.2.1.Hi,ag.R.2.2.2.2.Lo,ag.R.2.2.2.2.Hi,ag.T.1.Lo,ag.T.1.Hi,ag.T.2.1.Lo,ag.T.2.1.Hi,ag.T.2.2.Lo,ag.T.2.2.Hi)) (.oo (ac.R.1.1.Lo,ac.R.1.1.Hi,ac.R.1.2.1.Lo,ac.R.1.2.1.Hi,ac.R.1.2.2.Lo,ac.R.1.2.2.Hi,ac.R.2.1.1.Lo,ac.R.2.1.1.Hi,ac.R.2.1.2.1.Lo,ac.R.2.1.2.1.Hi,ac.R.2.1.2.2.Lo,ac.R.2.1.2.2.Hi,ac.R.2.2.1.Lo,ac.R.2.2.1.Hi,ac.R.2.2.2.1.Lo,ac.R.2.2.2.1.Hi,ac.R.2.2.2.2.Lo,ac.R.2.2.2.2.Hi,ac.T.1.Lo,ac.T.1.Hi,ac.T.2.1.Lo,ac.T.2.1.Hi,ac.T.2.2.Lo,ac.T.2.2.Hi)))) λad=>.cc (uzx j.XA) λae=>.cc (Ezk ae) λaf=>.cc (wzj (⟨af.R,af.T⟩:bz7) (⟨(((⟨ad.1,ad.2.1⟩:az0),(⟨ad.2.2.1,ad.2.2.2.1⟩:az0),(⟨ad.2.2.2.2.1,ad.2.2.2.2.2.1⟩:az0)),((⟨ad.2.2.2.2.2.2.1,ad.2.2.2.2.2.2.2.1⟩:az0),(⟨ad.2.2.2.2.2.2.2.2.1,ad.2.2.2.2.2.2.2.2.2.1⟩:az0),(⟨ad.2.2.2.2.2.2.2.2.2.2.1,ad.2.2.2.2.2.2.2.2.2.2.2.1⟩:az0)),((⟨ad.2.2.2.2.2.2.2.2.2.2.2.2.1,ad.2.2.2.2.2.2.2.2.2.2.2.2.2.1⟩:az0),(⟨ad.2.2.2.2.2.2.2.2.2.2.2.2.2.2.1,ad.2.2.2.2.2.2.2.2.2.2.2.2.2.2.2.1⟩:az0),(⟨ad.2.2.2.2.2.2.2.2.2.2.2.2.2.2.2.2.1,ad.2.2.2.2.2.2.2.2.2.2.2.2.2.2.2.2.2.1⟩:az0))),((⟨ad.2.2.2.2.2.2.2.2.2.2.2.2.2.2.2.2.2.2.1,ad.2.2.2.2.2.2.2.2.2.2.2.2.2.2.2.2.2.2.2.1⟩:az0),(⟨ad.2.2.2.2.2.2.2.2.2.2.2.2.2.2.2.2.2.2.2.2.1,ad.2.2.2.2.2.2.2.2.2.2.2.2.2.2.2.2.2.2.2.2.2.1⟩:az0),(⟨ad.2.2.2.2.2.2.2.2.2.2.2.2.2.2.2.2.2.2.2.2.2.2.1,ad.2.2.2.2.2.2.2.2.2.2.2.2.2.2.2.2.2.2.2.2.2.2.2⟩:az0))⟩:bz7)) λag=>.jn ag
def Kzs:=
 mkp2 func112 Az6
def Az9 (j:azl)(aa:Ae):T Ag:=let ab:=(⟨j.Xc,j.Xv⟩:azl);.cub 2 16 [1,2] [0] (.cc (czd ab) λac=>.jD (ac !=0) (.cc (qzo ab aa) λad=>.oo (!ad))) λac=>.br ac (.jn nl) (.loop (λs (ad:(Ag×Int))=>pk s [1,2,5] [0] [(6,pz ad.2)] [(192,vO ad.1 151)]) (.exit 0) (λs (ad:Ag)=>pk s [5] [] [] [(192,vO ad 151)]) (λad=>let ae:=(ad.2).toNat;let af:=j.Xc.getD ae qu;let ag:=af.XD;.jC (ad.2<(aa.length:Int)) (.gh ad.2 j.Xc.length<|.gh ad.2 aa.length<|.cc (Kzs af (aa.getD ae qu)) λah=>.cut 0 (λs (ai:Ce)=>pk s [1,2,5,6,7] [0,192] [] [(1280,.box [pz ai.1,pz ai.2.1,pz ai.2.2.1,pz ai.2.2.2.1,pz ai.2.2.2.2.1,pz ai.2.2.2.2.2.1,pz ai.2.2.2.2.2.2.1,pz ai.2.2.2.2.2.2.2.1,pz ai.2.2.2.2.2.2.2.2.1,pz ai.2.2.2.2.2.2.2.2.2.1,pz ai.2.2.2.2.2.2.2.2.2.2.1,pz ai.2.2.2.2.2.2.2.2.2.2.2.1,pz ai.2.2.2.2.2.2.2.2.2.2.2.2.1,pz ai.2.2.2.2.2.2.2.2.2.2.2.2.2.1,pz ai.2.2.2.2.2.2.2.2.2.2.2.2.2.2.1,pz ai.2.2.2.2.2.2.2.2.2.2.2.2.2.2.2.1,pz ai.2.2.2.2.2.2.2.2.2.2.2.2.2.2.2.2.1,pz ai.2.2.2.2.2.2.2.2.2.2.2.2.2.2.2.2.2.1,pz ai.2.2.2.2.2.2.2.2.2.2.2.2.2.2.2.2.2.2.1,pz ai.2.2.2.2.2.2.2.2.2.2.2.2.2.2.2.2.2.2.2.1,pz ai.2.2.2.2.2.2.2.2.2.2.2.2.2.2.2.2.2.2.2.2.1,pz ai.2.2.2.2.2.2.2.2.2.2.2.2.2.2.2.2.2.2.2.2.2.1,pz ai.2.2.2.2.2.2.2.2.2.2.2.2.2.2.2.2.2.2.2.2.2.2.1,pz ai.2.2.2.2.2.2.2.2.2.2.2.2.2.2.2.2.2.2.2.2.2.2.2])]) (.gh ad.2 j.Xc.length<|.br (ag !=(-1)) (.gh ad.2 j.Xc.length<|.gg ag ad.1.length<|.call (wzj (ad.1.getD (ag.toNat) qu) ah) [] λai=>.oo (ai.R.1.1.Lo,ai.R.1.1.Hi,ai.R.1.2.1.Lo,ai.R.1.2.1.Hi,ai.R.1.2.2.Lo,ai.R.1.2.2.Hi,ai.R.2.1.1.Lo,ai.R.2.1.1.Hi,ai.R.2.1.2.1.Lo,ai.R.2.1.2.1.Hi,ai.R.2.1.2.2.Lo,ai.R.2.1.2.2.Hi,ai.R.2.2.1.Lo,ai.R.2.2.1.Hi,ai.R.2.2.2.1.Lo,ai.R.2.2.2.1.Hi,ai.R.2.2.2.2.Lo,ai.R.2.2.2.2.Hi,ai.T.1.Lo,ai.T.1.Hi,ai.T.2.1.Lo,ai.T.2.1.Hi,ai.T.2.2.Lo,ai.T.2.2.Hi)) (.oo (ah.R.1.1.Lo,ah.R.1.1.Hi,ah.R.1.2.1.Lo,ah.R.1.2.1.Hi,ah.R.1.2.2.Lo,ah.R.1.2.2.Hi,ah.R.2.1.1.Lo,ah.R.2.1.1.Hi,ah.R.2.1.2.1.Lo,ah.R.2.1.2.1.Hi,ah.R.2.1.2.2.Lo,ah.R.2.1.2.2.Hi,ah.R.2.2.1.Lo,ah.R.2.2.1.Hi,ah.R.2.2.2.1.Lo,ah.R.2.2.2.1.Hi,ah.R.2.2.2.2.Lo,ah.R.2.2.2.2.Hi,ah.T.1.Lo,ah.T.1.Hi,ah.T.2.1.Lo,ah.T.2.1.Hi,ah.T.2.2.Lo,ah.T.2.2.Hi))) λai=>let aj:=([(⟨(((⟨ai.1,ai.2.1⟩:az0),(⟨ai.2.2.1,ai.2.2.2.1⟩:az0),(⟨ai.2.2.2.2.1,ai.2.2.2.2.2.1⟩:az0)),((⟨ai.2.2.2.2.2.2.1,ai.2.2.2.2.2.2.2.1⟩:az0),(⟨ai.2.2.2.2.2.2.2.2.1,ai.2.2.2.2.2.2.2.2.2.1⟩:az0),(⟨ai.2.2.2.2.2.2.2.2.2.2.1,ai.2.2.2.2.2.2.2.2.2.2.2.1⟩:az0)),((⟨ai.2.2.2.2.2.2.2.2.2.2.2.2.1,ai.2.2.2.2.2.2.2.2.2.2.2.2.2.1⟩:az0),(⟨ai.2.2.2.2.2.2.2.2.2.2.2.2.2.2.1,ai.2.2.2.2.2.2.2.2.2.2.2.2.2.2.2.1⟩:az0),(⟨ai.2.2.2.2.2.2.2.2.2.2.2.2.2.2.2.2.1,ai.2.2.2.2.2.2.2.2.2.2.2.2.2.2.2.2.2.1⟩:az0))),((⟨ai.2.2.2.2.2.2.2.2.2.2.2.2.2.2.2.2.2.2.1,ai.2.2.2.2.2.2.2.2.2.2.2.2.2.2.2.2.2.2.2.1⟩:az0),(⟨ai.2.2.2.2.2.2.2.2.2.2.2.2.2.2.2.2.2.2.2.2.1,ai.2.2.2.2.2.2.2.2.2.2.2.2.2.2.2.2.2.2.2.2.2.1⟩:az0),(⟨ai.2.2.2.2.2.2.2.2.2.2.2.2.2.2.2.2.2.2.2.2.2.2.1,ai.2.2.2.2.2.2.2.2.2.2.2.2.2.2.2.2.2.2.2.2.2.2.2⟩:az0))⟩:bz7)]:Ag);let ak:=ad.1.length+aj.length;
 .conv 10002 (kL aj 151)<|.conv 10003 (kA ad.1 aj 151)<|.grd (ak * 192<=140737488355328/\ak<=maxLen)<|.nn ((ad.1++aj),(qt.wrap (ad.2+1)))) (.oo ad.1)) (nl,0) [] λad=>.jn ad)
def Az8:=
 mkp2 func58 Az9
def Ezh (j:bz7)(aa:Bm):T Bm:=
 .cc (szk j.R aa) λab=>.cc (Azq j.T ab) λac=>.jn ac
def Ezg:=
 mkp2 func116 Ezh
def wzy (j:az2)(aa:Int)(ab:Int)(ac:A4):T Bool:=let ad:=qt.wrap (65536-j.Xq);let ae:=qt.wrap (0-j.Xq);let af:=j.Xj.getD (aa.toNat) qu;let ag:=j.Xh.getD (ab.toNat) qu;.cub 2 47 [1,2,3,4] [0] (.cc (fzb j) λah=>.jD (ah !=0) (.jF (aa<0) (.jF (aa>=(j.Xj.length:Int)) (.jF (ab<0) (.jF (ab>=(j.Xh.length:Int)) (.cc (dzc j.Xl.Xg ac) λai=>.oo (!ai))))))) λah=>.br ah (.jn false) (.gh aa j.Xj.length<|.cc (Izl ac) λai=>.cc (Az8 j.Xl.Xg ai) λaj=>let ak:=aj.getD (X3 af.Xz) qu;let al:=ak.R.1.2.1.Lo;let am:=ak.R.1.2.2.Lo;let an:=ak.R.2.1.1.Lo;let ao:=ak.R.2.2.1.Lo;let ap:=ak.R.2.1.2.1.Lo;let aq:=ak.R.2.1.2.2.Lo;let ar:=ak.R.2.2.2.1.Lo;let au:=ak.R.2.2.2.2.Lo;let av:=qv ((ak.R.1.1.Lo)<ad);let aw:=qv (al<ae);let ax:=qv (am<ae);let ay:=qv (an<ae);let az:=qv (ap<ad);let a0:=qv (aq<ae);let a1:=qv (ao<ae);let a2:=qv (ar<ae);let a3:=qv (au<ad);let a4:=qv ((ak.R.1.2.1.Hi)>j.Xq);let a5:=qv ((ak.R.1.2.2.Hi)>j.Xq);let a6:=qv ((ak.R.2.1.1.Hi)>j.Xq);let a7:=qv ((ak.R.2.1.2.2.Hi)>j.Xq);let a8:=qv ((ak.R.2.2.1.Hi)>j.Xq);let a9:=qv ((ak.R.2.2.2.1.Hi)>j.Xq);
 .gh (af.Xz) aj.length<|.cc (uzx (af.XA)) λba=>.call (Ezg ak ba) [] λbb=>.unroll 4<|.ji<|.unroll 4<|.ji<|.z7<|.z7<|.cut 0 (λs (bc:Bool)=>pk s [2,4,10,11,12,13] [0,1280,1728,2624] [(86,X7 2624),(87,pz (ak.R.1.1.Lo)),(88,.ptr 0 8),(89,pz j.Xq),(90,pz ad),(91,q av),(98,.tup []),(99,.tup []),(100,.tup []),(101,.tup []),(102,.tup []),(103,.tup []),(104,.tup []),(105,.tup []),(106,.tup []),(107,.tup []),(108,.tup []),(109,.tup []),(110,.tup []),(112,q bc)] []) (.ji<|.jD av (.jm<|.oo false)) λbc=>.br bc (.jn false) (.lit 11001 1<|.ji<|.z7<|.z8<|.cut 0 (λs (bd:C0)=>pk s [2,4,10,11,12,13] [0,1280,1728,3520] [(86,.tup []),(87,.tup []),(88,.tup []),(89,.tup []),(90,.tup []),(91,.tup []),(94,pz 0),(95,pz 1),(96,q (0 !=1)),(97,.tt),(98,X7 3520),(99,pz al),(100,.ptr 0 8),(101,pz j.Xq),(102,pz ae),(103,q aw),(104,q bd.1),(110,q bd.2.1),(111,q bd.2.2.1),(112,q bd.2.2.2)] []) (.jm<|.ji<|.br aw (.oo (true,true,true,true)) (.oo (false,a4,a4,a4))) λbd=>.br bd.2.2.2 (.jn false) (.lit 11001 2<|.ji<|.z7<|.z9<|.cut 0 (λs (be:C0)=>pk s [2,4,10,11,12,13,86,87,88,89,90,91,94,97,100,101,102] [0,1280,1728,4416] [(95,pz 2),(96,q (0 !=2)),(98,X7 4416),(99,pz am),(103,q ax),(104,q be.1),(110,q be.2.1),(111,q be.2.2.1),(112,q be.2.2.2)] []) (.jm<|.ji<|.br ax (.oo (true,true,true,true)) (.oo (false,a5,a5,a5))) λbe=>.br be.2.2.2 (.jn false) (.lit 11001 3<|.jm<|.cub 0 144 [2,4,10,11,12,86,87,88,89,90,91,94,95,96,97,98,99,100,101,102,103,104,110,111] [0,1280,1728,4416] (.z7<|.gh ab j.Xh.length<|.z7<|.jF (bb.1.Lo<(qt.wrap ((ag.1)-j.Xq))) (.z7<|.gh ab j.Xh.length<|.z7<|.oo (qv (bb.1.Hi>(qt.wrap ((ag.1)+j.Xq)))))) λbf=>.br bf (.jn false) (.lit 8001 1<|.ji<|.unroll 4<|.ji<|.z8<|.z7<|.cut 0 (λs (bg:C0)=>pk s [2,4,10,11,12,13,86,87,88,89,90,91,97,100,101,102] [0,1280,1728,5888] [(94,pz 1),(95,pz 0),(96,q (1 !=0)),(98,X7 5888),(99,pz an),(103,q ay),(104,q bg.1),(110,q bg.2.1),(111,q bg.2.2.1),(112,q bg.2.2.2)] []) (.jm<|.ji<|.br ay (.oo (true,true,true,true)) (.oo (false,a6,a6,a6))) λbg=>.br bg.2.2.2 (.jn false) (.lit 11001 1<|.ji<|.z8<|.z8<|.cut 0 (λs (bh:Bool)=>pk s [2,4,10,11,12,13] [0,1280,1728,6784] [(86,X7 6784),(87,pz ap),(88,.ptr 0 8),(89,pz j.Xq),(90,pz ad),(91,q az),(98,.tup []),(99,.tup []),(100,.tup []),(101,.tup []),(102,.tup []),(103,.tup []),(104,.tup []),(105,.tup []),(106,.tup []),(107,.tup []),(108,.tup []),(109,.tup []),(110,.tup []),(112,q bh)] []) (.ji<|.jD az (.jm<|.oo false)) λbh=>.br bh (.jn false) (.lit 11001 2<|.ji<|.z8<|.z9<|.cut 0 (λs (bi:C0)=>pk s [2,4,10,11,12,13] [0,1280,1728,7680] [(86,.tup []),(87,.tup []),(88,.tup []),(89,.tup []),(90,.tup []),(91,.tup []),(94,pz 1),(95,pz 2),(96,q (1 !=2)),(97,.tt),(98,X7 7680),(99,pz aq),(100,.ptr 0 8),(101,pz j.Xq),(102,pz ae),(103,q a0),(104,q bi.1),(110,q bi.2.1),(111,q bi.2.2.1),(112,q bi.2.2.2)] []) (.jm<|.ji<|.br a0 (.oo (true,true,true,true)) (.oo (false,a7,a7,a7))) λbi=>.br bi.2.2.2 (.jn false) (.lit 11001 3<|.jm<|.cub 0 144 [2,4,10,11,12,86,87,88,89,90,91,94,95,96,97,98,99,100,101,102,103,104,110,111] [0,1280,1728,7680] (.z8<|.gh ab j.Xh.length<|.z8<|.jF (bb.2.1.Lo<(qt.wrap ((ag.2.1)-j.Xq))) (.z8<|.gh ab j.Xh.length<|.z8<|.oo (qv (bb.2.1.Hi>(qt.wrap ((ag.2.1)+j.Xq)))))) λbj=>.br bj (.jn false) (.lit 8001 2<|.ji<|.unroll 4<|.ji<|.z9<|.z7<|.cut 0 (λs (bk:C0)=>pk s [2,4,10,11,12,13,86,87,88,89,90,91,97,100,101,102] [0,1280,1728,9152] [(94,pz 2),(95,pz 0),(96,q (2 !=0)),(98,X7 9152),(99,pz ao),(103,q a1),(104,q bk.1),(110,q bk.2.1),(111,q bk.2.2.1),(112,q bk.2.2.2)] []) (.jm<|.ji<|.br a1 (.oo (true,true,true,true)) (.oo (false,a8,a8,a8))) λbk=>.br bk.2.2.2 (.jn false) (.lit 11001 1<|.ji<|.z9<|.z8<|.cut 0 (λs (bl:C0)=>pk s [2,4,10,11,12,13,86,87,88,89,90,91,94,97,100,101,102] [0,1280,1728,10048] [(95,pz 1),(96,q (2 !=1)),(98,X7 10048),(99,pz ar),(103,q a2),(104,q bl.1),(110,q bl.2.1),(111,q bl.2.2.1),(112,q bl.2.2.2)] []) (.jm<|.ji<|.br a2 (.oo (true,true,true,true)) (.oo (false,a9,a9,a9))) λbl=>.br bl.2.2.2 (.jn false) (.lit 11001 2<|.ji<|.z9<|.z9<|.cut 0 (λs (bm:Bool)=>pk s [2,4,10,11,12,13] [0,1280,1728,10944] [(86,X7 10944),(87,pz au),(88,.ptr 0 8),(89,pz j.Xq),(90,pz ad),(91,q a3),(98,.tup []),(99,.tup []),(100,.tup []),(101,.tup []),(102,.tup []),(103,.tup []),(104,.tup []),(105,.tup []),(106,.tup []),(107,.tup []),(108,.tup []),(109,.tup []),(110,.tup []),(112,q bm)] []) (.ji<|.jD a3 (.jm<|.oo false)) λbm=>.br bm (.jn false) (.lit 11001 3<|.jm<|.cub 0 144 [2,4,10,11,12,86,87,88,89,90,91,98,99,100,101,102,103,104,105,106,107,108,109,110] [0,1280,1728,10944] (.z9<|.gh ab j.Xh.length<|.z9<|.jF (bb.2.2.Lo<(qt.wrap ((ag.2.2)-j.Xq))) (.z9<|.gh ab j.Xh.length<|.z9<|.oo (qv (bb.2.2.Hi>(qt.wrap ((ag.2.2)+j.Xq)))))) λbn=>.br bn (.jn false) (.lit 8001 3<|.jm<|.jn true)))))))))))))
def fz6:=
 mkp4 func72 wzy
def Azc (j:azf)(aa:bz7):T Bn:=
 .cc (lza j) λab=>.br (!ab) (.jn nl) (.loop (λs (ac:(Bn×Int))=>pk s [2,3,5] [0,64] [(6,pz ac.2)] [(384,vO ac.1 97)]) (.exit 0) (λs (ac:Bn)=>pk s [5] [] [] [(384,vO ac 97)]) (λac=>.jC (ac.2<(j.Xa.length:Int)) (.gh ac.2 j.Xa.length<|.cc (uzx (j.Xa.getD (X3 ac.2) qu)) λad=>.cc (Ezg aa ad) λae=>let af:=([ae]:Bn);let ag:=ac.1.length+af.length;
 .conv 7009 (kL af 97)<|.conv 7010 (kA ac.1 af 97)<|.grd (ag * 48<=140737488355328/\ag<=maxLen)<|.nn ((ac.1++af),(qt.wrap (ac.2+1)))) (.oo ac.1)) (nl,0) [] λac=>.jn ac)
def Kzv:=
 mkp2 func60 Azc
def wz5 (j:az7)(aa:Ae):T Bo:=
 .cub 2 18 [1,2] [0] (.cc (cze j) λab=>.jD (ab !=0) (.cc (qzo j.Xg aa) λac=>.oo (!ac))) λab=>.br ab (.jn nl) (.cc (Az8 j.Xg aa) λac=>.loop (λs (ad:(Bo×Int))=>pk s [2,5,6] [0] [(7,pz ad.2)] [(512,vO ad.1 98)]) (.exit 0) (λs (ad:Bo)=>pk s [6] [] [] [(512,vO ad 98)]) (λad=>let ae:=j.Xe.getD (X3 ad.2) qu;let af:=ae.Xz;let ag:=ac.getD (af.toNat) qu;.jC (ad.2<(j.Xe.length:Int)) (.cc (ref1_Rest_C) λah=>.cut 0 (λs (ai:Ce)=>pk s [2,5,6,7,8] [0,512] [] [(1088,.box [pz ai.1,pz ai.2.1,pz ai.2.2.1,pz ai.2.2.2.1,pz ai.2.2.2.2.1,pz ai.2.2.2.2.2.1,pz ai.2.2.2.2.2.2.1,pz ai.2.2.2.2.2.2.2.1,pz ai.2.2.2.2.2.2.2.2.1,pz ai.2.2.2.2.2.2.2.2.2.1,pz ai.2.2.2.2.2.2.2.2.2.2.1,pz ai.2.2.2.2.2.2.2.2.2.2.2.1,pz ai.2.2.2.2.2.2.2.2.2.2.2.2.1,pz ai.2.2.2.2.2.2.2.2.2.2.2.2.2.1,pz ai.2.2.2.2.2.2.2.2.2.2.2.2.2.2.1,pz ai.2.2.2.2.2.2.2.2.2.2.2.2.2.2.2.1,pz ai.2.2.2.2.2.2.2.2.2.2.2.2.2.2.2.2.1,pz ai.2.2.2.2.2.2.2.2.2.2.2.2.2.2.2.2.2.1,pz ai.2.2.2.2.2.2.2.2.2.2.2.2.2.2.2.2.2.2.1,pz ai.2.2.2.2.2.2.2.2.2.2.2.2.2.2.2.2.2.2.2.1,pz ai.2.2.2.2.2.2.2.2.2.2.2.2.2.2.2.2.2.2.2.2.1,pz ai.2.2.2.2.2.2.2.2.2.2.2.2.2.2.2.2.2.2.2.2.2.1,pz ai.2.2.2.2.2.2.2.2.2.2.2.2.2.2.2.2.2.2.2.2.2.2.1,pz ai.2.2.2.2.2.2.2.2.2.2.2.2.2.2.2.2.2.2.2.2.2.2.2])]) (.gh ad.2 j.Xe.length<|.br (af !=(-1)) (.gh ad.2 j.Xe.length<|.gh af ac.length<|.oo (ag.R.1.1.Lo,ag.R.1.1.Hi,ag.R.1.2.1.Lo,ag.R.1.2.1.Hi,ag.R.1.2.2.Lo,ag.R.1.2.2.Hi,ag.R.2.1.1.Lo,ag.R.2.1.1.Hi,ag.R.2.1.2.1.Lo,ag.R.2.1.2.1.Hi,ag.R.2.1.2.2.Lo,ag.R.2.1.2.2.Hi,ag.R.2.2.1.Lo,ag.R.2.2.1.Hi,ag.R.2.2.2.1.Lo,ag.R.2.2.2.1.Hi,ag.R.2.2.2.2.Lo,ag.R.2.2.2.2.Hi,ag.T.1.Lo,ag.T.1.Hi,ag.T.2.1.Lo,ag.T.2.1.Hi,ag.T.2.2.Lo,ag.T.2.2.Hi)) (.oo (ah.R.1.1.Lo,ah.R.1.1.Hi,ah.R.1.2.1.Lo,ah.R.1.2.1.Hi,ah.R.1.2.2.Lo,ah.R.1.2.2.Hi,ah.R.2.1.1.Lo,ah.R.2.1.1.Hi,ah.R.2.1.2.1.Lo,ah.R.2.1.2.1.Hi,ah.R.2.1.2.2.Lo,ah.R.2.1.2.2.Hi,ah.R.2.2.1.Lo,ah.R.2.2.1.Hi,ah.R.2.2.2.1.Lo,ah.R.2.2.2.1.Hi,ah.R.2.2.2.2.Lo,ah.R.2.2.2.2.Hi,ah.T.1.Lo,ah.T.1.Hi,ah.T.2.1.Lo,ah.T.2.1.Hi,ah.T.2.2.Lo,ah.T.2.2.Hi))) λai=>.gh ad.2 j.Xe.length<|.cc (Kzv ae (⟨(((⟨ai.1,ai.2.1⟩:az0),(⟨ai.2.2.1,ai.2.2.2.1⟩:az0),(⟨ai.2.2.2.2.1,ai.2.2.2.2.2.1⟩:az0)),((⟨ai.2.2.2.2.2.2.1,ai.2.2.2.2.2.2.2.1⟩:az0),(⟨ai.2.2.2.2.2.2.2.2.1,ai.2.2.2.2.2.2.2.2.2.1⟩:az0),(⟨ai.2.2.2.2.2.2.2.2.2.2.1,ai.2.2.2.2.2.2.2.2.2.2.2.1⟩:az0)),((⟨ai.2.2.2.2.2.2.2.2.2.2.2.2.1,ai.2.2.2.2.2.2.2.2.2.2.2.2.2.1⟩:az0),(⟨ai.2.2.2.2.2.2.2.2.2.2.2.2.2.2.1,ai.2.2.2.2.2.2.2.2.2.2.2.2.2.2.2.1⟩:az0),(⟨ai.2.2.2.2.2.2.2.2.2.2.2.2.2.2.2.2.1,ai.2.2.2.2.2.2.2.2.2.2.2.2.2.2.2.2.2.1⟩:az0))),((⟨ai.2.2.2.2.2.2.2.2.2.2.2.2.2.2.2.2.2.2.1,ai.2.2.2.2.2.2.2.2.2.2.2.2.2.2.2.2.2.2.2.1⟩:az0),(⟨ai.2.2.2.2.2.2.2.2.2.2.2.2.2.2.2.2.2.2.2.2.1,ai.2.2.2.2.2.2.2.2.2.2.2.2.2.2.2.2.2.2.2.2.2.1⟩:az0),(⟨ai.2.2.2.2.2.2.2.2.2.2.2.2.2.2.2.2.2.2.2.2.2.2.1,ai.2.2.2.2.2.2.2.2.2.2.2.2.2.2.2.2.2.2.2.2.2.2.2⟩:az0))⟩:bz7)) λaj=>let ak:=([aj]:Bo);let al:=ad.1.length+ak.length;
 .conv 11008 (kL ak 98)<|.conv 11009 (kA ad.1 ak 98)<|.grd (al * 24<=140737488355328/\al<=maxLen)<|.nn ((ad.1++ak),(qt.wrap (ad.2+1)))) (.oo ad.1)) (nl,0) [] λad=>.jn ad)
def Hzb:=
 mkp2 func22 wz5
def Fz0 (j:azl)(aa:Int):T A4:=
 .cub 2 15 [1,2] [0] (.cc (czd j) λab=>.jD (ab !=0) (.cc (fz2 j aa) λac=>.oo (!ac))) λab=>.br ab (.jn nl) (.loop (λs (ac:Ah)=>pk s [2,5] [0] [(6,pz ac.2)] [(192,vO ac.1 3)]) (.exit 0) (λs (ac:A4)=>pk s [5] [] [] [(192,vO ac 3)]) (λac=>let ad:=([ac.2]:A4);let ae:=ad.length+ac.1.length;.br (ac.2 !=(-1)) (.conv 7001 (kL ad 3)<|.conv 7003 (kA ad ac.1 3)<|.grd (ae * 8<=140737488355328/\ae<=maxLen)<|.gh ac.2 j.Xc.length<|.nn ((ad++ac.1),(j.Xc.getD (X3 ac.2) qu).XD)) (.oo ac.1)) (nl,aa) [] λac=>.jn ac)
def vz0:=
 mkp2 func321 Fz0
def Bzc (j:A4)(aa:Int):T Bool:=
 .loop (ik 5 [0,1] []) (.exit 0) (jk [] []) (λab=>.jC (ab<(j.length:Int)) (.gh ab j.length<|.br ((j.getD (ab.toNat) qu)==aa) (.ff true) (.nn (qt.wrap (ab+1)))) (.oo .u))
 0 [] λ_=>.jn false
def Bzb:=
 mkp2 func322 Bzc
def xz4 (j:azl)(aa:Int)(ab:Int):T A4:=
 .cub 2 25 [1,2,3] [0] (.cc (czd j) λac=>.jD (ac !=0) (.cc (fz2 j aa) λad=>.jD (!ad) (.cc (fz2 j ab) λae=>.oo (!ae)))) λac=>.br ac (.jn nl) (.cc (vz0 j aa) λad=>.cc (vz0 j ab) λae=>.loop (λs (af:Ah)=>pk s [3,7,8,9] [0] [(10,pz af.2)] [(704,vO af.1 3)]) (.exit 0) (λs (af:A4)=>pk s [9] [] [] [(704,vO af 3)]) (λaf=>let ag:=([af.2]:A4);let ah:=af.1.length+ag.length;.jC (af.2<(j.Xc.length:Int)) (.cut 0 (λs (ai:A4)=>pk s [3,7,8,10] [0] [(9,.vec 1216)] [(1216,vO ai 3)]) (.cc (Bzb ad af.2) λai=>.cc (Bzb ae af.2) λaj=>.br (!(ai==aj)) (.conv 9002 (kL ag 3)<|.conv 9003 (kA af.1 ag 3)<|.grd (ah * 8<=140737488355328/\ah<=maxLen)<|.oo (af.1++ag)) (.oo af.1)) λai=>.nn (ai,(qt.wrap (af.2+1)))) (.oo af.1)) (nl,0) [] λaf=>.jn af)
def Hzl:=
 mkp3 func271 xz4
def Fz2 (j:azl)(aa:Int)(ab:Int):T Bool:=
 .cub 2 23 [1,2,3] [0] (.cc (czd j) λac=>.jD (ac !=0) (.cc (fz2 j aa) λad=>.jD (!ad) (.cc (fz2 j ab) λae=>.oo (!ae)))) λac=>.br ac (.jn false) (.cc (Hzl (⟨j.Xc,j.Xv⟩:azl) aa ab) λad=>.loop (ik 8 [3,7] [0]) (.exit 0) (jk [] []) (λae=>let af:=ad.getD (ae.toNat) qu;let ag:=j.Xc.getD (af.toNat) qu;.jC (ae<(ad.length:Int)) (.gh ae ad.length<|.gh af j.Xc.length<|.gh ae ad.length<|.gh af j.Xc.length<|.jC ((ag.Lo)<(ag.Hi)) (.ff false) (.nn (qt.wrap (ae+1)))) (.oo .u))
 0 [] λ_=>.jn true)
def Ozr:=
 mkp3 func225 Fz2
def xz5 (j:az7)(aa:Int)(ab:Int):T Bool:=
 .loop (ik 7 [1,2,3] [0]) (.exit 0) (jk [] []) (λac=>let ad:=j.Xs.getD (ac.toNat) qu;.jC (ac<(j.Xs.length:Int)) (.gh ac j.Xs.length<|.cub 0 42 [1,2,3,7] [0] (.br ((ad.A)==aa) (.jD ((ad.B)==ab) (.jE ((ad.A)==ab) (.oo ((ad.B)==aa)))) (.jE ((ad.A)==ab) (.oo ((ad.B)==aa)))) λae=>.br ae (.ff true) (.nn (qt.wrap (ac+1)))) (.oo .u))
 0 [] λ_=>.jn false
def Hzm:=
 mkp3 func226 xz5
def Fz1 (j:az7):T Ai:=let aa:=(j.Xe.length:Int);.cc (cze j) λab=>.br (ab !=0) (.jn nl) (.loop (λs (ac:Aj)=>pk s [1,3] [0] [(4,pz ac.2)] [(320,vO ac.1 274)]) (.exit 0) (λs (ac:Ai)=>pk s [3] [] [] [(320,vO ac 274)]) (λac=>let ad:=(j.Xe.getD (X3 ac.2) qu).Xz;let ae:=qt.wrap (ac.2+1);.jC (ac.2<aa) (.loop (λs (af:Aj)=>pk s [1,3,4] [0] [(5,pz af.2)] [(320,vO af.1 274)]) (.exit 2) (λs (af:Ai)=>pk s [1,3,4] [0] [] [(320,vO af 274)]) (λaf=>let ag:=([(⟨ac.2,af.2⟩:czh)]:Ai);let ah:=af.1.length+ag.length;let ai:=(j.Xe.getD (X3 af.2) qu).Xz;.jC (af.2<aa) (.cut 0 (λs (aj:Ai)=>pk s [1,4,5] [0] [(3,.vec 1408)] [(1408,vO aj 274)]) (.gh ac.2 j.Xe.length<|.gh af.2 j.Xe.length<|.cub 0 56 [1,3,4,5] [0,320] (.jE (ad !=ai) (.cc (Ozr j.Xg ad ai) λaj=>.jE (!aj) (.cc (Hzm j ad ai) λak=>.oo (!ak)))) λaj=>.br aj (.conv 12004 (kL ag 274)<|.conv 12005 (kA af.1 ag 274)<|.grd (ah * 16<=140737488355328/\ah<=maxLen)<|.oo (af.1++ag)) (.oo af.1)) λaj=>.nn (aj,(qt.wrap (af.2+1)))) (.oo af.1)) (ac.1,ae) [] λaf=>.nn (af,ae)) (.oo ac.1)) (nl,0) [] λac=>.jn ac)
def Ozq:=
 mkp1 func162 Fz1
def Azj (j:az7)(aa:Ae):T (Az×Az×Bool):=
 .cub 2 23 [1,2] [0] (.cc (cze j) λab=>.jD (ab !=0) (.cc (qzo j.Xg aa) λac=>.oo (!ac))) λab=>.br ab (.jn (nl,nl,false)) (.cc (Hzb (⟨j.Xg,j.Xe,j.Xs⟩:az7) aa) λac=>.cc (Ozq j) λad=>.loop (λs (ae:(Az×Az×Int))=>pk s [2,7,8,9,10] [0] [(11,pz ae.2.2)] [(576,vO ae.1 199),(640,vO ae.2.1 199)]) (.exit 0) (λs (ae:(Az×Az))=>pk s [8,9] [] [] [(576,vO ae.1 199),(640,vO ae.2 199)]) (λae=>let af:=ad.getD (X3 ae.2.2) qu;let ag:=(af.A).toNat;let ah:=(af.B).toNat;let ai:=([(⟨(ac.getD ag qu),(j.Xe.getD ag qu).XE⟩:azz)]:Az);let aj:=ae.1.length+ai.length;let ak:=([(⟨(ac.getD ah qu),(j.Xe.getD ah qu).XE⟩:azz)]:Az);let al:=ae.2.1.length+ak.length;.jC (ae.2.2<(ad.length:Int)) (.gh ae.2.2 ad.length<|.gh ae.2.2 ad.length<|.gh (af.A) ac.length<|.gh (af.A) j.Xe.length<|.conv 10012 (kL ai 199)<|.conv 10013 (kA ae.1 ai 199)<|.grd (aj * 32<=140737488355328/\aj<=maxLen)<|.gh (af.B) ac.length<|.gh (af.B) j.Xe.length<|.conv 11012 (kL ak 199)<|.conv 11013 (kA ae.2.1 ak 199)<|.grd (al * 32<=140737488355328/\al<=maxLen)<|.nn ((ae.1++ai),(ae.2.1++ak),(qt.wrap (ae.2.2+1)))) (.oo (ae.1,ae.2.1))) (nl,nl,0) [] λae=>.jn (ae.1,ae.2,true))
def Azi:=
 mkq2 func104 Azj (λr=>.tup [q r.1,q r.2.1,q r.2.2])
def sze (j:Bm):T Bool:=
 .unroll 4<|.ji<|.cub 1 30 [1,3] [0] (.z7<|.jF (j.1.Lo<(-268435456)) (.z7<|.z7<|.jF (j.1.Lo>j.1.Hi) (.z7<|.oo (qv (j.1.Hi>268435456))))) λaa=>.br aa (.jn false) (.lit 3001 1<|.ji<|.cub 1 30 [1,3] [0] (.z8<|.jF (j.2.1.Lo<(-268435456)) (.z8<|.z8<|.jF (j.2.1.Lo>j.2.1.Hi) (.z8<|.oo (qv (j.2.1.Hi>268435456))))) λab=>.br ab (.jn false) (.lit 3001 2<|.ji<|.cub 1 30 [1,3] [0] (.z9<|.jF (j.2.2.Lo<(-268435456)) (.z9<|.z9<|.jF (j.2.2.Lo>j.2.2.Hi) (.z9<|.oo (qv (j.2.2.Hi>268435456))))) λac=>.br ac (.jn false) (.lit 3001 3<|.jm<|.jn true)))
def szd:=
 mkp1 func233 sze
def wz4 (j:Bn):T Bool:=let aa:=(j.length:Int);.loop (ik 3 [0] []) (.exit 0) (jk [0] []) (λab=>.cub 1 11 [0,3] [] (.jC (ab<aa) (.oo (qv (ab<=8))) (.oo false)) λac=>.br ac (.gh ab j.length<|.cc (szd (j.getD (ab.toNat) qu)) λad=>.br (!ad) (.ff false) (.nn (qt.wrap (ab+1)))) (.oo .u))
 0 [] λ_=>.jC (aa>=1) (.jn (qv (aa<=8))) (.jn false)
def ezb:=
 mkp1 func174 wz4
def wzc (j:Int):T Bool:=
 .jC (j>=0) (.jn (qv (j<=1048576))) (.jn false)
def gz1:=
 mkp1 func227 wzc
def wz6 (j:Bh):T Bool:=
 .br (!((j.1==0)&&((j.2.1==0)&&((j.2.2==0)&&true)))) (.cc (ezs j 16384) λaa=>.jn aa) (.jn false)
def fz4:=
 mkp1 func228 wz6
def Nz8 (j:az0):T Int:=
 .cc (dz8 j) λaa=>.br (!aa) (.jn 0) (.cc (bza (qt.wrap (j.Lo+j.Hi)) 2) λab=>.jn ab)
def Gz1:=
 mkp1 func175 Nz8
def sza (j:Bn):T Bi:=
 .cc (ezb j) λaa=>.br (!aa) (.jn nl) (.loop (λs (ab:Bj)=>pk s [0,3] [] [(4,pz ab.2)] [(256,vO ab.1 89)]) (.exit 0) (λs (ab:Bi)=>pk s [3] [] [] [(256,vO ab 89)]) (λab=>let ac:=j.getD (X3 ab.2) qu;.jC (ab.2<(j.length:Int)) (.gh ab.2 j.length<|.z7<|.cc (Gz1 (ac.1)) λad=>.gh ab.2 j.length<|.z8<|.cc (Gz1 (ac.2.1)) λae=>.gh ab.2 j.length<|.z9<|.cc (Gz1 (ac.2.2)) λaf=>let ag:=([(ad,ae,af)]:Bi);let ah:=ab.1.length+ag.length;
 .conv 7020 (kL ag 89)<|.conv 7021 (kA ab.1 ag 89)<|.grd (ah * 24<=140737488355328/\ah<=maxLen)<|.nn ((ab.1++ag),(qt.wrap (ab.2+1)))) (.oo ab.1)) (nl,0) [] λab=>.jn ab)
def dzt:=
 mkp1 func107 sza
def wz3 (j:Bh):T Bl:=
 .br ((j.1==0)&&((j.2.1==0)&&((j.2.2==0)&&true))) (.jn (j,false)) (.loop (ik 4 [1,2] [0,64])
 .ret (λ_ (_:U0)=>⟨[],[],[],0⟩) (λaa=>let ab:=qt.wrap (j.1.tdiv aa);let ac:=qt.wrap (j.2.1.tdiv aa);let ad:=qt.wrap (j.2.2.tdiv aa);.z7<|.grd (aa≠0)<|.z8<|.grd (aa≠0)<|.z9<|.grd (aa≠0)<|.cc (ezs (ab,ac,ad) 16384) λae=>.br ae (.ff ((ab,ac,ad),true)) (.nn (qt.wrap (aa * 2))))
 1 [] λ_=>.stop)
def jz8:=
 mkq1 func169 wz3 (λr=>.tup [q r.1,q r.2])
def Ez8 (j:Bn)(aa:Bn):T Bl:=
 .cub 2 19 [0,1,4] [0] (.cc (ezb j) λab=>.jD (!ab) (.cc (ezb aa) λac=>.oo (!ac))) λab=>.br ab (.jn ((0,0,0),false)) (.cc (dzt j) λac=>let ad:=(ac.length:Int);
 .cc (dzt aa) λae=>let af:=(ae.length:Int);
 .unroll 4<|.ji<|.loop (λs (ag:B2)=>pk s [4,6,7,8,9] [0] [(10,pz ag.2)] [(192,.box [pz ag.1,pz 0,pz 0])]) (.exit 2) (λs (ag:Int)=>pk s [4,6,7,8,9] [0] [] [(192,.box [pz ag,pz 0,pz 0])]) (λag=>.jC (ag.2<ad) (.z7<|.gh ag.2 ac.length<|.z7<|.name 11012 ((qt.wrap (ag.1+(qt.wrap (((ac.getD (X3 ag.2) qu).1) * af))))) λah=>.z7<|.nn (ah,(qt.wrap (ag.2+1)))) (.oo ag.1)) (0,0) [] λag=>.loop (λs (ah:B2)=>pk s [4,6,7,8,9] [0] [(11,pz ah.2)] [(192,.box [pz ah.1,pz 0,pz 0])]) (.exit 4) (λs (ah:Int)=>pk s [4,6,7,8,9] [0] [] [(192,.box [pz ah,pz 0,pz 0])]) (λah=>.jC (ah.2<af) (.z7<|.gh ah.2 ae.length<|.z7<|.name 15012 ((qt.wrap (ah.1- (qt.wrap (((ae.getD (X3 ah.2) qu).1) * ad))))) λai=>.z7<|.nn (ai,(qt.wrap (ah.2+1)))) (.oo ah.1)) (ag,0) [] λah=>.lit 7001 1<|.ji<|.loop (λs (ai:B2)=>pk s [4,6,7,8,9] [0] [(10,pz ai.2)] [(192,.box [pz ah,pz ai.1,pz 0])]) (.exit 2) (λs (ai:Int)=>pk s [4,6,7,8,9] [0] [] [(192,.box [pz ah,pz ai,pz 0])]) (λai=>.jC (ai.2<ad) (.z8<|.gh ai.2 ac.length<|.z8<|.name 11012 ((qt.wrap (ai.1+(qt.wrap (((ac.getD (X3 ai.2) qu).2.1) * af))))) λaj=>.z8<|.nn (aj,(qt.wrap (ai.2+1)))) (.oo ai.1)) (0,0) [] λai=>.loop (λs (aj:B2)=>pk s [4,6,7,8,9] [0] [(11,pz aj.2)] [(192,.box [pz ah,pz aj.1,pz 0])]) (.exit 4) (λs (aj:Int)=>pk s [4,6,7,8,9] [0] [] [(192,.box [pz ah,pz aj,pz 0])]) (λaj=>.jC (aj.2<af) (.z8<|.gh aj.2 ae.length<|.z8<|.name 15012 ((qt.wrap (aj.1- (qt.wrap (((ae.getD (X3 aj.2) qu).2.1) * ad))))) λak=>.z8<|.nn (ak,(qt.wrap (aj.2+1)))) (.oo aj.1)) (ai,0) [] λaj=>.lit 7001 2<|.ji<|.loop (λs (ak:B2)=>pk s [4,6,7,8,9] [0] [(10,pz ak.2)] [(192,.box [pz ah,pz aj,pz ak.1])]) (.exit 2) (λs (ak:Int)=>pk s [4,6,7,8,9] [0] [] [(192,.box [pz ah,pz aj,pz ak])]) (λak=>.jC (ak.2<ad) (.z9<|.gh ak.2 ac.length<|.z9<|.name 11012 ((qt.wrap (ak.1+(qt.wrap (((ac.getD (X3 ak.2) qu).2.2) * af))))) λal=>.z9<|.nn (al,(qt.wrap (ak.2+1)))) (.oo ak.1)) (0,0) [] λak=>.loop (λs (al:B2)=>pk s [4,6,7,8,9] [0] [(11,pz al.2)] [(192,.box [pz ah,pz aj,pz al.1])]) (.exit 4) (λs (al:Int)=>pk s [4,6,7,8,9] [0] [] [(192,.box [pz ah,pz aj,pz al])]) (λal=>.jC (al.2<af) (.z9<|.gh al.2 ae.length<|.z9<|.name 15012 ((qt.wrap (al.1- (qt.wrap (((ae.getD (X3 al.2) qu).2.2) * ad))))) λam=>.z9<|.nn (am,(qt.wrap (al.2+1)))) (.oo al.1)) (ak,0) [] λal=>.lit 7001 3<|.jm<|.cc (jz8 (ah,aj,al)) λam=>.jn (am.1,am.2))
def uzv:=
 mkq2 func229 Ez8 (λr=>.tup [q r.1,q r.2])
def az2o:T Bi:=
 .conv 1006 (kL ([(1,0,0),((-1),0,0),(0,1,0),(0,(-1),0),(0,0,1),(0,0,(-1))]:Bi) 89)<|.jn ([(1,0,0),((-1),0,0),(0,1,0),(0,(-1),0),(0,0,1),(0,0,(-1))]:Bi)
def ref14_Axes_C:CallS Bi:=
 mkD func230 (az2o) 0 [] [] (λr=>q r) X6
def Izr (j:Bi):T Bool:=let aa:=(j.length:Int);.loop (ik 3 [0] []) (.exit 0) (jk [0] []) (λab=>.cub 1 11 [0,3] [] (.jC (ab<aa) (.oo (qv (ab<=8))) (.oo false)) λac=>.br ac (.gh ab j.length<|.cc (ezs (j.getD (ab.toNat) qu) 268435456) λad=>.br (!ad) (.ff false) (.nn (qt.wrap (ab+1)))) (.oo .u))
 0 [] λ_=>.jC (aa>=1) (.jn (qv (aa<=8))) (.jn false)
def Izq:=
 mkp1 func165 Izr
def Izp (j:Bi)(aa:A4):T Bh:=
 .loop (λs (ab:Bx)=>pk s [0,1,4,5] [0] [(6,pz ab.2.2.2)] [(64,.box [pz ab.1,pz ab.2.1,pz ab.2.2.1])]) (.exit 0) (λs (ab:Bh)=>pk s [4,5] [0] [] [(64,.box [pz ab.1,pz ab.2.1,pz ab.2.2])]) (λab=>let ac:=(ab.2.2.2).toNat;let ad:=aa.getD ac qu;let ae:=j.getD ac qu;.jC (ab.2.2.2<(j.length:Int)) (.unroll 4<|.ji<|.z7<|.gh ab.2.2.2 aa.length<|.gh ab.2.2.2 j.length<|.z7<|.name 8014 ((qt.wrap (ab.1+(qt.wrap (ad * (ae.1)))))) λaf=>.z7<|.lit 7001 1<|.ji<|.z8<|.gh ab.2.2.2 aa.length<|.gh ab.2.2.2 j.length<|.z8<|.name 8014 ((qt.wrap (ab.2.1+(qt.wrap (ad * (ae.2.1)))))) λag=>.z8<|.lit 7001 2<|.ji<|.z9<|.gh ab.2.2.2 aa.length<|.gh ab.2.2.2 j.length<|.z9<|.name 8014 ((qt.wrap (ab.2.2.1+(qt.wrap (ad * (ae.2.2)))))) λah=>.z9<|.lit 7001 3<|.jm<|.nn (af,ag,ah,(qt.wrap (ab.2.2.2+1)))) (.oo (ab.1,ab.2.1,ab.2.2.1))) (0,0,0,0) [] λab=>.jn (ab.1,ab.2.1,ab.2.2)
def Azg:=
 mkp2 func167 Izp
def Zz3 (j:Bh)(aa:Bh):T Bh:=
 .z7<|.z7<|.z8<|.z8<|.z9<|.z9<|.jn ((qt.wrap (j.1-aa.1)),(qt.wrap (j.2.1-aa.2.1)),(qt.wrap (j.2.2-aa.2.2)))
def qzr:=
 mkp2 func166 Zz3
def Eza (j:Bh)(aa:Int):T Bool:=
 .unroll 4<|.ji<|.z7<|.z7<|.cc (bz3 (max j.1 (qt.wrap (0-j.1))) 65536) λab=>.name 6004 ((qt.wrap (0+(qt.wrap (ab * ab))))) λac=>.lit 4001 1<|.ji<|.z8<|.z8<|.cc (bz3 (max j.2.1 (qt.wrap (0-j.2.1))) 65536) λad=>.name 6004 ((qt.wrap (ac+(qt.wrap (ad * ad))))) λae=>.lit 4001 2<|.ji<|.z9<|.z9<|.cc (bz3 (max j.2.2 (qt.wrap (0-j.2.2))) 65536) λaf=>.name 6004 ((qt.wrap (ae+(qt.wrap (af * af))))) λag=>.lit 4001 3<|.jm<|.jn (qv (ag<=(qt.wrap (aa * aa))))
def Ez9:=
 mkp2 func168 Eza
def az5e (j:Bh)(aa:Bh):T Int:=
 .z7<|.z7<|.z8<|.z8<|.z9<|.z9<|.name 1016 ((qt.wrap ((qt.wrap ((qt.wrap (j.1 * aa.1))+(qt.wrap (j.2.1 * aa.2.1))))+(qt.wrap (j.2.2 * aa.2.2))))) λab=>.jn ab
def jzy:=
 mkp2 func171 az5e
def szg (j:Bh)(aa:Bi)(ab:Int):T Int:=
 .loop (λs (ac:B2)=>pk s [1,2,3] [0] [(7,pz ac.1),(8,pz ac.2)] []) (.exit 0) (ik 7 [] []) (λac=>.jC (ac.2<(aa.length:Int)) (.cut 0 (λs (ad:Int)=>pk s [1,2,3,8] [0] [(7,pz ad)] []) (.gh ac.2 aa.length<|.cc (jzy j (aa.getD (X3 ac.2) qu)) λad=>.gh ac.1 aa.length<|.cc (jzy j (aa.getD (X3 ac.1) qu)) λae=>.jC ((qt.wrap (ab * ad))<(qt.wrap (ab * ae))) (.oo ac.2) (.oo ac.1)) λad=>.nn (ad,(qt.wrap (ac.2+1)))) (.oo ac.1)) (0,1) [] λac=>.jn ac
def lze:=
 mkp3 func170 szg
def Izu (j:Int):T Int:=
 .jC (j<1) (.jn 0) (.loop (λs (aa:B2)=>pk s [0] [] [(3,pz aa.1),(4,pz aa.2)] []) (.exit 0) (ik 3 [] []) (λaa=>let ab:=qt.wrap (aa.2-aa.1);let ac:=qt.wrap (aa.1+(qt.wrap (ab.tdiv 2)));.jC (ab>1) (.ok ((2:Int)≠0) jp<|.grd (ac≠0)<|.jC (ac<=(qt.wrap (j.tdiv ac))) (.nn (ac,aa.2)) (.nn (aa.1,ac))) (.oo aa.1)) (1,4294967296) [] λaa=>.jn aa)
def szm:=
 mkp1 func273 Izu
def Azt (j:Int):T Int:=
 .cc (szm j) λaa=>.cut 0 (λs (ab:Int)=>pk s [] [] [(3,pz ab)] []) (.cub 0 14 [3] [] (.jC (j>0) (.oo (qv ((qt.wrap (aa * aa))<j))) (.oo false)) λab=>.br ab (.oo (qt.wrap (aa+1))) (.oo aa)) λab=>.jn ab
def Lz6:=
 mkp1 func232 Azt
def Ez5 (j:Bh):T Int:=
 .cc (fz4 (j.1,j.2.1,j.2.2)) λaa=>.br (!aa) (.jn 0) (.z7<|.z7<|.z8<|.z8<|.z9<|.z9<|.name 3016 ((qt.wrap ((qt.wrap ((qt.wrap (j.1 * j.1))+(qt.wrap (j.2.1 * j.2.1))))+(qt.wrap (j.2.2 * j.2.2))))) λab=>.cc (Lz6 ab) λac=>.jn ac)
def uzs:=
 mkp1 func172 Ez5
def Azf (j:A4)(aa:Int)(ab:Int):T A4:=let ac:=ab.toNat;.grd (j.length * 8<=140737488355328/\j.length<=maxLen)<|.loop (λs (ad:(A4×Int×Int))=>pk s [1,2,7] [] [(8,pz ad.2.1),(9,pz ad.2.2)] [(128,vO ad.1 2)]) (.exit 0) (λs (ad:Ah)=>pk s [2,7] [] [(8,pz ad.2)] [(128,vO ad.1 2)]) (λad=>let ae:=(ad.2.2).toNat;let af:=ad.1.getD ae qu;let ag:=qt.wrap ((qt.wrap (af * aa)).tdiv 256);.jC (ad.2.2<(ad.1.length:Int)) (.gg ad.2.2 ad.1.length<|.ok ((256:Int)≠0) jp<|.gg ad.2.2 ad.1.length<|.name 7005 ((qt.wrap (af-ag))) λah=>.gh ad.2.2 ad.1.length<|.conv 7007 (kS ad.1 2 ae ah)<|.gi (ad.2.2) ad.1.length<|.name 8002 ((qt.wrap (ad.2.1+ag))) λai=>.nn ((ad.1.set ae ah),ai,(qt.wrap (ad.2.2+1)))) (.oo (ad.1,ad.2.1))) (j,0,0) [] λad=>let ae:=qt.wrap ((ad.1.getD ac qu)+ad.2);
 .gg ab ad.1.length<|.gh ab ad.1.length<|.conv 9007 (kS ad.1 2 ac ae)<|.gi (ab) ad.1.length<|.jn (ad.1.set ac ae)
def qzq:=
 mkv3 func173 Azf (λ_=>.vec 0) (λr=>[(0,vO r 2)])
def wzb (j:Bi)(aa:Bi)(ab:Int)(ac:Int):T ezx:=let ad:=(j.length:Int);let ae:=(aa.length:Int);let af:=qs ad.toNat (0:Int);let ag:=qs ae.toNat (0:Int);.cut 2 (λ_ (ah:Bool)=>⟨[(0,q j),(1,q aa),(2,pz ab),(3,pz ac),(8,X7 0),(43,q ah)],[(0,.box [pz 0,pz 0,pz 0,pz 0,.vec 5,.vec 6,pz 0]),(5,.nilv),(6,.nilv)],[],128⟩) (.cc (Izq j) λah=>.jD (!ah) (.cc (Izq aa) λai=>.jD (!ai) (.jF (ab<0) (.jF (ab>2097152) (.jF (ac<0) (.oo (qv (ac>64)))))))) λah=>.br ah (.jn (⟨0,(0,0,0),nl,nl,0⟩:ezx)) (.conv 3002 (Dz3 1 azy 2 ad.toNat 0)<|.grd (0<=ad/\ad<=ad/\ad<=9223372036854775807/\ad * 8<=140737488355328)<|.conv 3005 (Dz3 1 azy 2 ae.toNat 0)<|.grd (0<=ae/\ae<=ae/\ae<=9223372036854775807/\ae * 8<=140737488355328)<|.gh (0:Int) (af.length)<|.conv 4005 (kS af 2 (X3 (0:Int)) 65536)<|.gi (0:Int) (af.length)<|.gh (0:Int) (ag.length)<|.conv 4007 (kS ag 2 (X3 (0:Int)) 65536)<|.gi (0:Int) (ag.length)<|.loop (λ_ (ai:(Int×Int×Int×A4×A4×Int))=>⟨[(0,q j),(1,q aa),(2,pz ab),(3,pz ac),(8,X7 0),(9,X7 576)],[(0,.box [pz 0,pz 0,pz 0,pz 0,.vec 5,.vec 6,pz 0]),(5,.nilv),(6,.nilv),(256,vO ai.2.2.2.1 2),(448,vO ai.2.2.2.2.1 2),(576,.box [pz 0,pz ai.1,pz ai.2.1,pz ai.2.2.1,.vec 256,.vec 448,pz ai.2.2.2.2.2])],[],1280⟩)
 .ret (λ_ (_:U0)=>⟨[],[],[],0⟩) (λai=>.cc (Azg j ai.2.2.2.1) λaj=>.cc (Azg aa ai.2.2.2.2.1) λak=>.cc (qzr aj ak) λal=>let am:=qt.wrap (al.1.tdiv 65536);let an:=qt.wrap (al.2.1.tdiv 65536);let ao:=qt.wrap (al.2.2.tdiv 65536);
 .cc (Ez9 al ab) λap=>.br ap (.ff (⟨2,(ai.1,ai.2.1,ai.2.2.1),ai.2.2.2.1,ai.2.2.2.2.1,ai.2.2.2.2.2⟩:ezx)) (.z7<|.ok ((65536:Int)≠0) jp<|.z8<|.ok ((65536:Int)≠0) jp<|.z9<|.ok ((65536:Int)≠0) jp<|.cc (jz8 (am,an,ao)) λaq=>let ar:=(⟨0,aq.1,ai.2.2.2.1,ai.2.2.2.2.1,ai.2.2.2.2.2⟩:ezx);
 .br (!aq.2) (.ff ar) (.cc (lze aq.1 j 1) λau=>let av:=j.getD (au.toNat) qu;
 .cc (lze aq.1 aa (-1)) λaw=>let ax:=aa.getD (aw.toNat) qu;
 .gh au j.length<|.cc (jzy aq.1 av) λay=>.gh aw aa.length<|.cc (jzy aq.1 ax) λaz=>.cc (uzs aq.1) λa0=>.jC ((qt.wrap (ay-az))>(qt.wrap (a0 * ab))) (.ff (⟨1,aq.1,ai.2.2.2.1,ai.2.2.2.2.1,ai.2.2.2.2.2⟩:ezx)) (.gh au j.length<|.gh aw aa.length<|.cc (qzr av ax) λa1=>.cc (qzr (am,an,ao) a1) λa2=>.cc (jzy (am,an,ao) a2) λa3=>.cc (jzy a2 a2) λa4=>let a5:=max 1 (qt.wrap (a4.tdiv 256));let a6:=min 256 (qt.wrap (a3.tdiv a5));
 .cut 1 (λ_ (a7:Bool)=>⟨[(0,q j),(1,q aa),(2,pz ab),(3,pz ac),(8,X7 0),(9,X7 576),(14,pz au),(15,pz aw),(17,pz a3),(18,pz a4),(142,q a7)],[(0,.box [pz 0,pz 0,pz 0,pz 0,.vec 5,.vec 6,pz 0]),(5,.nilv),(6,.nilv),(256,vS ai.2.2.2.1 2),(448,vS ai.2.2.2.2.1 2),(576,.box [pz 0,pz aq.1.1,pz aq.1.2.1,pz aq.1.2.2,.vec 256,.vec 448,pz ai.2.2.2.2.2])],[],6848⟩) (.jF (ai.2.2.2.2.2>=ac) (.oo (qv (a3<=0)))) λa7=>.br a7 (.ff ar) (.ok ((256:Int)≠0) jp<|.grd (a5≠0)<|.br (a6==0) (.ff ar) (.call (qzq ai.2.2.2.1 a6 au) [] λa8=>.call (qzq ai.2.2.2.2.1 a6 aw) [] λa9=>.nn (aq.1.1,aq.1.2.1,aq.1.2.2,a8,a9,(qt.wrap (ai.2.2.2.2.2+1))))))))) (0,0,0,(af.set (X3 (0:Int)) 65536),(ag.set (X3 (0:Int)) 65536),0) [] λ_=>.stop)
def gz0:=
 mkp4 func106 wzb
def lzd (j:Bn)(aa:Int)(ab:Bn)(ac:Int)(ad:Bi):T Bi:=
 .cub 2 33 [0,1,2,3,4] [] (.cc (ezb j) λae=>.jD (!ae) (.cc (ezb ab) λaf=>.jD (!af) (.cc (gz1 aa) λag=>.jD (!ag) (.cc (gz1 ac) λah=>.oo (!ah))))) λae=>.br ae (.jn nl) (.loop (λs (af:Bj)=>pk s [0,1,2,3,4,11] [] [(12,pz af.2)] [(128,vO af.1 89)]) (.exit 0) (λs (af:Bi)=>pk s [0,1,2,3,11] [] [] [(128,vO af 89)]) (λaf=>let ag:=ad.getD (X3 af.2) qu;let ah:=([ag]:Bi);let ai:=af.1.length+ah.length;.jC (af.2<(ad.length:Int)) (.cut 0 (λs (aj:Bi)=>pk s [0,1,2,3,4,12] [] [(11,.vec 576)] [(576,vO aj 89)]) (.gh af.2 ad.length<|.cc (fz4 ag) λaj=>.br aj (.gh af.2 ad.length<|.conv 8005 (kL ah 89)<|.conv 8006 (kA af.1 ah 89)<|.grd (ai * 24<=140737488355328/\ai<=maxLen)<|.oo (af.1++ah)) (.oo af.1)) λaj=>.nn (aj,(qt.wrap (af.2+1)))) (.oo af.1)) (nl,0) [] λaf=>.cut 0 (λs (ag:Bi)=>pk s [0,1,2,3] [] [(11,.vec 320)] [(320,vO ag 89)]) (.cc (uzv j ab) λag=>let ah:=([ag.1]:Bi);let ai:=af.length+ah.length;
 .br ag.2 (.conv 11002 (kL ah 89)<|.conv 11003 (kA af ah 89)<|.grd (ai * 24<=140737488355328/\ai<=maxLen)<|.oo (af++ah)) (.oo af)) λag=>.cc (ref14_Axes_C) λah=>let ai:=ag++ah;let aj:=ag.length+ah.length;
 .conv 12002 (kA ag ah 89)<|.grd (aj * 24<=140737488355328/\aj<=maxLen)<|.cc (dzt j) λak=>.cc (dzt ab) λal=>.cc (gz0 ak al (qt.wrap (aa+ac)) 64) λam=>let an:=([am.XO]:Bi);let ao:=ai.length+an.length;
 .cut 0 (λs (ap:Bi)=>pk s [] [] [(11,.vec 1280)] [(1280,vO ap 89)]) (.cc (fz4 am.XO) λap=>.br ap (.conv 15003 (kL an 89)<|.conv 15004 (kA ai an 89)<|.grd (ao * 24<=140737488355328/\ao<=maxLen)<|.oo (ai++an)) (.oo ai)) λap=>.jn ap)
def uzt:=
 mkp5 func163 lzd
def Izo (j:Bh)(aa:Bm):T B2:=let ab:=qt.wrap (j.1 * aa.1.Lo);let ac:=qt.wrap (j.1 * aa.1.Hi);let ad:=qt.wrap (j.2.1 * aa.2.1.Lo);let ae:=qt.wrap (j.2.1 * aa.2.1.Hi);let af:=qt.wrap (j.2.2 * aa.2.2.Lo);let ag:=qt.wrap (j.2.2 * aa.2.2.Hi);.cub 2 18 [2,3] [0,64] (.cc (fz4 j) λah=>.jD (!ah) (.cc (szd aa) λai=>.oo (!ai))) λah=>.br ah (.jn (0,0)) (.unroll 4<|.ji<|.z7<|.z7<|.z7<|.z7<|.name 8004 ((qt.wrap (0+(min ab ac)))) λai=>.name 9004 ((qt.wrap (0+(max ab ac)))) λaj=>.lit 6001 1<|.ji<|.z8<|.z8<|.z8<|.z8<|.name 8004 ((qt.wrap (ai+(min ad ae)))) λak=>.name 9004 ((qt.wrap (aj+(max ad ae)))) λal=>.lit 6001 2<|.ji<|.z9<|.z9<|.z9<|.z9<|.name 8004 ((qt.wrap (ak+(min af ag)))) λam=>.name 9004 ((qt.wrap (al+(max af ag)))) λan=>.lit 6001 3<|.jm<|.jn (am,an))
def Izn:=
 mkq2 func367 Izo (λr=>.tup [pz r.1,pz r.2])
def Az7 (j:Bh)(aa:Bn):T Br:=
 .cub 2 19 [1,2] [0] (.cc (fz4 j) λab=>.jD (!ab) (.cc (ezb aa) λac=>.oo (!ac))) λab=>.br ab (.jn (0,0,false)) (.loop (λs (ac:Bh)=>pk s [1,2] [0] [(7,pz ac.1),(8,pz ac.2.1),(9,pz ac.2.2)] []) (.exit 0) (λs (ac:B2)=>pk s [] [] [(7,pz ac.1),(8,pz ac.2)] []) (λac=>.jC (ac.2.2<(aa.length:Int)) (.cut 0 (λs (ad:B2)=>pk s [1,2,9] [0] [(7,pz ad.1),(8,pz ad.2)] []) (.gh ac.2.2 aa.length<|.cc (Izn j (aa.getD (X3 ac.2.2) qu)) λad=>.cub 0 41 [1,2,7,8,9,10] [0] (.jD (ac.2.2==0) (.oo (qv (ad.1<ac.1)))) λae=>.br ae (.oo (ad.1,ac.2.2)) (.oo (ac.1,ac.2.1))) λad=>.nn (ad.1,ad.2,(qt.wrap (ac.2.2+1)))) (.oo (ac.1,ac.2.1))) (0,0,0) [] λac=>.jn (ac.1,ac.2,true))
def Kzt:=
 mkq2 func323 Az7 (λr=>.tup [pz r.1,pz r.2.1,q r.2.2])
def pzd (j:Bh)(aa:Bn):T Br:=
 .cub 2 19 [1,2] [0] (.cc (fz4 j) λab=>.jD (!ab) (.cc (ezb aa) λac=>.oo (!ac))) λab=>.br ab (.jn (0,0,false)) (.loop (λs (ac:Bh)=>pk s [1,2] [0] [(7,pz ac.1),(8,pz ac.2.1),(9,pz ac.2.2)] []) (.exit 0) (λs (ac:B2)=>pk s [] [] [(7,pz ac.1),(8,pz ac.2)] []) (λac=>.jC (ac.2.2<(aa.length:Int)) (.cut 0 (λs (ad:B2)=>pk s [1,2,9] [0] [(7,pz ad.1),(8,pz ad.2)] []) (.gh ac.2.2 aa.length<|.cc (Izn j (aa.getD (X3 ac.2.2) qu)) λad=>.cub 0 41 [1,2,7,8,9,11] [0] (.jD (ac.2.2==0) (.oo (qv (ad.2>ac.1)))) λae=>.br ae (.oo (ad.2,ac.2.2)) (.oo (ac.1,ac.2.1))) λad=>.nn (ad.1,ad.2,(qt.wrap (ac.2.2+1)))) (.oo (ac.1,ac.2.1))) (0,0,0) [] λac=>.jn (ac.1,ac.2,true))
def Cz8:=
 mkq2 func324 pzd (λr=>.tup [pz r.1,pz r.2.1,q r.2.2])
def wza (j:Bh)(aa:Bn)(ab:Int)(ac:Bn)(ad:Int):T Bc:=
 .cc (Kzt j aa) λae=>.cc (Cz8 j ac) λaf=>.cub 1 47 [2,4,5,12,15] [0] (.jD (!ae.2.2) (.jD (!af.2.2) (.cc (gz1 ab) λag=>.jD (!ag) (.cc (gz1 ad) λah=>.oo (!ah))))) λag=>.br ag (.jn (0,false)) (.cc (uzs j) λah=>.jn ((qt.wrap ((qt.wrap (ae.1-af.1))- (qt.wrap (ah * (qt.wrap (ab+ad)))))),true))
def Hzd:=
 mkq5 func272 wza (λr=>.tup [pz r.1,q r.2])
def nz0 (j:Bh)(aa:Bn)(ab:Int)(ac:Bn)(ad:Int):T Bool:=
 .cc (Hzd j aa ab ac ad) λae=>.br ae.2 (.jn (qv (ae.1>0))) (.jn false)
def mzz:=
 mkp5 func231 nz0
def Aze (j:Bi)(aa:Bn)(ab:Int)(ac:Bn)(ad:Int):T Bc:=
 .loop (ik 12 [0,1,2,3,4] []) (.exit 0) (jk [] []) (λae=>.jC (ae<(j.length:Int)) (.gh ae j.length<|.cc (mzz (j.getD (ae.toNat) qu) aa ab ac ad) λaf=>.br af (.ff (ae,true)) (.nn (qt.wrap (ae+1)))) (.oo .u))
 0 [] λ_=>.jn (0,false)
def Kzx:=
 mkq5 func164 Aze (λr=>.tup [pz r.1,q r.2])
def lzf (j:Bn)(aa:Int)(ab:Bn)(ac:Int)(ad:Bi):T Bl:=
 .cc (uzt j aa ab ac ad) λae=>.cc (Kzx ae j aa ab ac) λaf=>.br (!af.2) (.jn ((0,0,0),false)) (.gh af.1 ae.length<|.jn ((ae.getD (X3 af.1) qu),true))
def uzu:=
 mkq5 func105 lzf (λr=>.tup [q r.1,q r.2])
def szc (j:Bn)(aa:A4):T (Bm×Int×Bool):=let ab:=(aa.length:Int);let ac:=(j.length:Int);.cub 2 21 [0,1,4] [0] (.cc (ezb j) λad=>.jD (!ad) (.oo (ab !=ac))) λad=>.br ad (.jn (((⟨0,0⟩:az0),(⟨0,0⟩:az0),(⟨0,0⟩:az0)),0,false)) (.loop (λs (ae:B2)=>pk s [0,1,4] [0] [(7,pz ae.1),(8,pz ae.2)] []) (.exit 0) (ik 7 [0,1,4] [0]) (λae=>let af:=aa.getD (X3 ae.2) qu;.jC (ae.2<ab) (.cub 2 42 [0,1,4,7,8] [0] (.gh ae.2 aa.length<|.jF (af<0) (.gh ae.2 aa.length<|.oo (qv (af>(qt.wrap (65536-ae.1)))))) λag=>.br ag (.ff (((⟨0,0⟩:az0),(⟨0,0⟩:az0),(⟨0,0⟩:az0)),0,false)) (.gh ae.2 aa.length<|.nn ((qt.wrap (ae.1+af)),(qt.wrap (ae.2+1))))) (.oo ae.1)) (0,0) [] λae=>.jC (ae<1) (.jn (((⟨0,0⟩:az0),(⟨0,0⟩:az0),(⟨0,0⟩:az0)),0,false)) (.loop (λs (af:(Int×Int×Int×Int×Int×Int×Int))=>pk s [0,1,4,7,9] [0] [(10,pz af.2.2.2.2.2.2)] [(576,.box [pz af.1,pz af.2.1,pz af.2.2.1,pz af.2.2.2.1,pz af.2.2.2.2.1,pz af.2.2.2.2.2.1])]) (.exit 2) (λs (af:C3)=>pk s [4,7,9] [0] [] [(576,.box [pz af.1,pz af.2.1,pz af.2.2.1,pz af.2.2.2.1,pz af.2.2.2.2.1,pz af.2.2.2.2.2])]) (λaf=>let ag:=(af.2.2.2.2.2.2).toNat;let ah:=aa.getD ag qu;let ai:=j.getD ag qu;.jC (af.2.2.2.2.2.2<ac) (.unroll 4<|.ji<|.z7<|.gh af.2.2.2.2.2.2 aa.length<|.gh af.2.2.2.2.2.2 j.length<|.z7<|.name 19015 ((qt.wrap (ah * (ai.1.Lo)))) λaj=>.name 19016 ((qt.wrap (af.1+aj))) λak=>.z7<|.z7<|.gh af.2.2.2.2.2.2 aa.length<|.gh af.2.2.2.2.2.2 j.length<|.z7<|.name 20015 ((qt.wrap (ah * (ai.1.Hi)))) λal=>.name 20016 ((qt.wrap (af.2.1+al))) λam=>.z7<|.lit 18001 1<|.ji<|.z8<|.gh af.2.2.2.2.2.2 aa.length<|.gh af.2.2.2.2.2.2 j.length<|.z8<|.name 19015 ((qt.wrap (ah * (ai.2.1.Lo)))) λan=>.name 19016 ((qt.wrap (af.2.2.1+an))) λao=>.z8<|.z8<|.gh af.2.2.2.2.2.2 aa.length<|.gh af.2.2.2.2.2.2 j.length<|.z8<|.name 20015 ((qt.wrap (ah * (ai.2.1.Hi)))) λap=>.name 20016 ((qt.wrap (af.2.2.2.1+ap))) λaq=>.z8<|.lit 18001 2<|.ji<|.z9<|.gh af.2.2.2.2.2.2 aa.length<|.gh af.2.2.2.2.2.2 j.length<|.z9<|.name 19015 ((qt.wrap (ah * (ai.2.2.Lo)))) λar=>.name 19016 ((qt.wrap (af.2.2.2.2.1+ar))) λau=>.z9<|.z9<|.gh af.2.2.2.2.2.2 aa.length<|.gh af.2.2.2.2.2.2 j.length<|.z9<|.name 20015 ((qt.wrap (ah * (ai.2.2.Hi)))) λav=>.name 20016 ((qt.wrap (af.2.2.2.2.2.1+av))) λaw=>.z9<|.lit 18001 3<|.jm<|.nn (ak,am,ao,aq,au,aw,(qt.wrap (af.2.2.2.2.2.2+1)))) (.oo (af.1,af.2.1,af.2.2.1,af.2.2.2.1,af.2.2.2.2.1,af.2.2.2.2.2.1))) (0,0,0,0,0,0,0) [] λaf=>.jn (((⟨af.1,af.2.1⟩:az0),(⟨af.2.2.1,af.2.2.2.1⟩:az0),(⟨af.2.2.2.2.1,af.2.2.2.2.2⟩:az0)),ae,true)))
def szb:=
 mkq2 func234 szc (λr=>.tup [q r.1,pz r.2.1,q r.2.2])
def az2q (j:Int):T Int:=
 .jn (max j (qt.wrap (0-j)))
def iz5:=
 mkp1 func235 az2q
def wz9 (j:A4)(aa:A4)(ab:Bn)(ac:Int)(ad:Bn)(ae:Int):T Bc:=let af:=qt.wrap (ac+ae);.cc (szb ab j) λag=>.cc (szb ad aa) λah=>.cub 1 57 [3,5,14,15,17] [576,1280] (.jD (!ag.2.2) (.jD (!ah.2.2) (.jD (ag.2.1 !=ah.2.1) (.cc (gz1 ac) λai=>.jD (!ai) (.cc (gz1 ae) λaj=>.oo (!aj)))))) λai=>.br ai (.jn (0,false)) (.unroll 4<|.ji<|.z7<|.z7<|.cc (iz5 (qt.wrap (ag.1.1.Lo-ah.1.1.Hi))) λaj=>.z7<|.z7<|.cc (iz5 (qt.wrap (ag.1.1.Hi-ah.1.1.Lo))) λak=>.cc (bz3 (max aj ak) ag.2.1) λal=>.jC (al>af) (.jn ((-1),true)) (.name 12004 ((qt.wrap ((qt.wrap (af * af))- (qt.wrap (al * al))))) λam=>.lit 8001 1<|.ji<|.z8<|.z8<|.cc (iz5 (qt.wrap (ag.1.2.1.Lo-ah.1.2.1.Hi))) λan=>.z8<|.z8<|.cc (iz5 (qt.wrap (ag.1.2.1.Hi-ah.1.2.1.Lo))) λao=>.cc (bz3 (max an ao) ag.2.1) λap=>.jC (ap>af) (.jn ((-1),true)) (.name 12004 ((qt.wrap (am- (qt.wrap (ap * ap))))) λaq=>.lit 8001 2<|.ji<|.z9<|.z9<|.cc (iz5 (qt.wrap (ag.1.2.2.Lo-ah.1.2.2.Hi))) λar=>.z9<|.z9<|.cc (iz5 (qt.wrap (ag.1.2.2.Hi-ah.1.2.2.Lo))) λau=>.cc (bz3 (max ar au) ag.2.1) λav=>.jC (av>af) (.jn ((-1),true)) (.name 12004 ((qt.wrap (aq- (qt.wrap (av * av))))) λaw=>.lit 8001 3<|.jm<|.jn (aw,true)))))
def wz8:=
 mkq6 func176 wz9 (λr=>.tup [pz r.1,q r.2])
def pzg (j:A4)(aa:A4)(ab:Bn)(ac:Int)(ad:Bn)(ae:Int):T Bool:=
 .cc (wz8 j aa ab ac ad ae) λaf=>.br af.2 (.jn (qv (af.1>=0))) (.jn false)
def hz6:=
 mkp6 func108 pzg
def pzf (j:az7)(aa:Ae)(ab:Bi):T ezy:=let ac:=(ab.length:Int);.cc (Azi j aa) λad=>.br (!ad.2.2) (.jn (⟨0,nl,(⟨0,nl,nl⟩:bze)⟩:ezy)) (.loop (λs (ae:(Int×Bi×Int))=>pk s [2,6,7,8,10] [64,66,68,69,899,900] [(11,pz ae.2.2)] [(897,vO ae.2.1 89),(960,.box [pz ae.1,.vec 897,pz 0,.vec 899,.vec 900])]) (.exit 0) (λs (ae:(Int×Bi))=>pk s [6,10] [64,66,68,69,899,900] [] [(897,vO ae.2 89),(960,.box [pz ae.1,.vec 897,pz 0,.vec 899,.vec 900])]) (λae=>let af:=(ae.2.2).toNat;let ag:=qt.wrap (ae.2.2+1);let ah:=ad.1.getD af qu;let ai:=ah.points;let aj:=ah.radius;let ak:=ad.2.1.getD af qu;let al:=ak.points;let am:=ak.radius;.jC (ae.2.2<(ad.1.length:Int)) (.cut 0 (λs (an:(Int×Bi))=>pk s [2,6,7,8,10,11] [64,66,68,69,899,900] [] [(960,.box [pz an.1,.vec 1472,pz 0,.vec 899,.vec 900]),(1472,vO an.2 89)]) (.cut 1 (λs (an:Bi)=>pk s [2,6,7,8,10,11] [64,66,68,69,897,899,900,960] [(12,q an)] []) (.jC (ae.2.2<ac) (.conv 10004 (Dz4 3 azs ab ae.2.2 ag)<|.grd (0<=ae.2.2/\ae.2.2<=ag/\ag<=ac)<|.oo ((ab.drop af).take (ag.toNat- (ae.2.2).toNat))) (.oo nl)) λan=>.gh ae.2.2 ad.1.length<|.gh ae.2.2 ad.1.length<|.gh ae.2.2 ad.2.1.length<|.gh ae.2.2 ad.2.1.length<|.cc (uzu ai aj al am an) λao=>let ap:=([ao.1]:Bi);let aq:=ae.2.1++ap;let ar:=ae.2.1.length+ap.length;
 .conv 12003 (kL ap 89)<|.conv 12004 (kA ae.2.1 ap 89)<|.grd (ar * 24<=140737488355328/\ar<=maxLen)<|.br ao.2 (.oo (ae.1,aq)) (.gh ae.2.2 ad.1.length<|.cc (dzt ai) λau=>.gh ae.2.2 ad.2.1.length<|.cc (dzt al) λav=>.gh ae.2.2 ad.1.length<|.gh ae.2.2 ad.2.1.length<|.call (gz0 au av (qt.wrap (aj+am)) 64) [] λaw=>.gh ae.2.2 ad.1.length<|.gh ae.2.2 ad.1.length<|.gh ae.2.2 ad.2.1.length<|.gh ae.2.2 ad.2.1.length<|.cc (hz6 aw.Left aw.XL ai aj al am) λax=>.br ax (.ff (.fin (⟨2,nl,(⟨ae.2.2,aw.Left,aw.XL⟩:bze)⟩:ezy))) (.oo (0,aq)))) λan=>.nn (an.1,an.2,ag)) (.oo (ae.1,ae.2.1))) (1,nl,0) [] λae=>.jn (⟨ae.1,ae.2,(⟨0,nl,nl⟩:bze)⟩:ezy))
def jzn:=
 mkp3 func55 pzf
def wzx (j:az7)(aa:A4):T Bool:=
 .cc (Izl aa) λab=>.cc (jzn (⟨j.Xg,j.Xe,j.Xs⟩:az7) ab nl) λac=>.jn (ac.Xo==1)
def oz6:=
 mkp2 func124 wzx
def Bz6 (j:az2)(aa:azk)(ab:aza)(ac:Int):T Bool:=let ad:=j.Xi.getD (ac.toNat) qu;.cc (fz1 j aa ab) λae=>.cub 1 57 [3,4,5,6,9] [0,64,128,704] (.jD (!ae.2) (.jF (ac<0) (.jF (ac>=(j.Xi.length:Int)) (.gh ac j.Xi.length<|.jD ((ad.Xt) !=ab.Xt) (.gh ac j.Xi.length<|.oo ((ad.Place) !=ab.Place)))))) λaf=>.br af (.jn false) (.gh ac j.Xi.length<|.cc (dzu j aa) λag=>.cc (dzu j ae.1) λah=>.cc (fz6 (⟨j.Xl,j.Xd,j.Xh,j.Xj,j.Xi,j.Xq⟩:az2) ab.Xt ab.Place (ad.At)) λai=>.br ai (.cc (oz6 (⟨ag.1.Xg,ag.1.Xe,ag.1.Xs⟩:az7) (ad.At)) λaj=>.br aj (.cc (oz6 (⟨ah.1.Xg,ah.1.Xe,ah.1.Xs⟩:az7) (ad.At)) λak=>.jn ak) (.jn false)) (.jn false))
def Bz5:=
 mkp4 func70 Bz6
open Go.Proofs
def wz2 (j:azl):T Ae:=
 .cc (czd j) λaa=>.br (aa !=0) (.jn nl) (.loop (λs (ab:Af)=>pk s [1,3] [0] [(4,pz ab.2)] [(320,vO ab.1 95)]) (.exit 0) (λs (ab:Ae)=>pk s [3] [] [] [(320,vO ab 95)]) (λab=>let ac:=j.Xc.getD (X3 ab.2) qu;let ad:=([(⟨ac.Lo,ac.Hi⟩:az0)]:Ae);let ae:=ab.1.length+ad.length;.jC (ab.2<(j.Xc.length:Int)) (.gh ab.2 j.Xc.length<|.gh ab.2 j.Xc.length<|.conv 7014 (kL ad 95)<|.conv 7015 (kA ab.1 ad 95)<|.grd (ae * 16<=140737488355328/\ae<=maxLen)<|.nn ((ab.1++ad),(qt.wrap (ab.2+1)))) (.oo ab.1)) (nl,0) [] λab=>.jn ab)
def wz1:=
 mkp1 func190 wz2
def szu (j:Ae):T Bool:=let aa:=(j.length:Int);.cub 2 11 [0] [] (.jF (aa<1) (.oo (qv (aa>10)))) λab=>.br ab (.jn false) (.loop (ik 3 [0] []) (.exit 0) (jk [] []) (λac=>.jC (ac<aa) (.gh ac j.length<|.cc (dz8 (j.getD (ac.toNat) qu)) λad=>.br (!ad) (.ff false) (.nn (qt.wrap (ac+1)))) (.oo .u))
 0 [] λ_=>.jn true)
def szt:=
 mkp1 func247 szu
def Azz (j:Int):T Int:=
 .cub 2 8 [0] [] (.jF (j<0) (.oo (qv (j>=10)))) λaa=>.br aa (.jn 0) (.gh j 10<|.jn (([2,3,5,7,11,13,17,19,23,29]:List Int).getD j.toNat 0))
def Azy:=
 mkq1 func249 Azz (λr=>.pure (.int .u64 r))
def Tz6 (j:Int)(aa:Int):T B2:=
 .jC (j<2) (.jn (0,1)) (.ok ((4294967296:Int)≠0) jp<|.loop (λs (ab:Bh)=>pk s [0] [] [(1,.pure (.int .u64 ab.1)),(6,.pure (.int .u64 ab.2.1)),(7,.pure (.int .u64 ab.2.2))] []) (.exit 0) (λs (ab:B2)=>pk s [] [] [(6,.pure (.int .u64 ab.1)),(7,.pure (.int .u64 ab.2))] []) (λab=>.jC (ab.1>0) (.grd (j≠0)<|.grd (j≠0)<|.nn ((IntKind.u64.wrap (ab.1.tdiv j)),(IntKind.u64.wrap ((IntKind.u64.wrap (ab.2.1 * j))+(ab.1.tmod j))),(IntKind.u64.wrap (ab.2.2 * j)))) (.oo (ab.2.1,ab.2.2))) ((aa.tmod 4294967296),0,1) [] λab=>.jn (ab.1,ab.2))
def gzo (j)(aa):=
 mkD func248 (Tz6 j aa) 0 [.pure (.int .u64 j),.pure (.int .u64 aa)] [] (λr=>.tup [.pure (.int .u64 r.1),.pure (.int .u64 r.2)]) X6
def szq (j:Int)(aa:Int):T Bool:=
 .cc (dz8 (⟨j,aa⟩:az0)) λab=>.jn ab
def Ezw:=
 mkp2 func301 szq
def Azx (j:Int)(aa:Int)(ab:Int)(ac:Int):T Int:=
 .cub 2 21 [0,1,2,3] [] (.cc (Ezw ab ac) λad=>.jD (!ad) (.oo (qv (j>=aa)))) λad=>.br ad (.jn ab) (.call (mzu j (IntKind.u64.wrap ((IntKind.u64.wrap (qt.wrap (ac-ab)))+1))) [] λae=>.cc (izk ae.1 ae.2 aa) λaf=>.jn (qt.wrap (ab+(qt.wrap af.1))))
def qzt (j)(aa)(ab)(ac):=
 mkD func250 (Azx j aa ab ac) 0 [.pure (.int .u64 j),.pure (.int .u64 aa),pz ab,pz ac] [] pz X6
def wzr (j:Ae)(aa:Int):T A4:=
 .cc (szt j) λab=>.br (!ab) (.jn nl) (.loop (λs (ac:Ah)=>pk s [0,1,5] [] [(6,pz ac.2)] [(256,vO ac.1 2)]) (.exit 0) (λs (ac:A4)=>pk s [5] [] [] [(256,vO ac 2)]) (λac=>let ad:=j.getD (X3 ac.2) qu;.jC (ac.2<(j.length:Int)) (.cc (Azy ac.2) λae=>.cc (gzo ae aa) λaf=>.gh ac.2 j.length<|.gh ac.2 j.length<|.cc (qzt af.1 af.2 (ad.Lo) (ad.Hi)) λag=>let ah:=([ag]:A4);let ai:=ac.1.length+ah.length;
 .conv 8014 (kL ah 2)<|.conv 8015 (kA ac.1 ah 2)<|.grd (ai * 8<=140737488355328/\ai<=maxLen)<|.nn ((ac.1++ah),(qt.wrap (ac.2+1)))) (.oo ac.1)) (nl,0) [] λac=>.jn ac)
def wzq (j)(aa):=
 mkD func191 (wzr j aa) 0 [q j,.pure (.int .u64 aa)] [] (λr=>q r) X6
def jzz (j:A4)(aa:A4):T Bool:=let ab:=(j.length:Int);.br (ab !=(aa.length:Int)) (.jn false) (.loop (ik 5 [0,1] []) (.exit 0) (jk [] []) (λac=>.jC (ac<ab) (.gh ac j.length<|.gh ac aa.length<|.br ((j.getD (ac.toNat) qu) !=(aa.getD (ac.toNat) qu)) (.ff false) (.nn (qt.wrap (ac+1)))) (.oo .u))
 0 [] λ_=>.jn true)
def fzg:=
 mkp2 func132 jzz
def szp (j:A5)(aa:A4):T Int:=
 .loop (ik 5 [0,1] [0]) (.exit 0) (jk [] [0]) (λab=>.jC (ab<(j.length:Int)) (.gg ab j.length<|.cc (fzg (j.getD (ab.toNat) qu) aa) λac=>.br ac (.ff ab) (.nn (qt.wrap (ab+1)))) (.oo .u))
 0 [] λ_=>.jn (-1)
def szo (j)(aa):=
 mkD func127 (szp j aa) 1 [.vec 0,q aa] [(0,vO j 39)] pz (λ_=>[(0,vO j 39)])
def pzc (j:azl)(aa:A4)(ab:A4):T Int:=let ac:=(aa.length:Int);.cub 2 36 [1,2,3] [0] (.cc (czd j) λad=>.jD (ad !=0) (.cc (izo aa) λae=>.jD (!ae) (.cc (izo ab) λaf=>.jD (!af) (.jD (ac !=(j.Xc.length:Int)) (.oo ((ab.length:Int) !=ac)))))) λad=>.br ad (.jn 0) (.loop (λs (ae:B2)=>pk s [1,2,3] [0] [(7,pz ae.1),(8,pz ae.2)] []) (.exit 0) (ik 7 [] []) (λae=>let af:=(ae.2).toNat;let ag:=aa.getD af qu;let ah:=ab.getD af qu;.jC (ae.2<ac) (.gh ae.2 j.Xc.length<|.gh ae.2 aa.length<|.gh ae.2 ab.length<|.gh ae.2 ab.length<|.gh ae.2 aa.length<|.name 7025 ((max (qt.wrap (ag-ah)) (qt.wrap (ah-ag)))) λai=>.nn ((qt.wrap (ae.1+(qt.wrap (((j.Xc.getD af qu).XP) * ai)))),(qt.wrap (ae.2+1)))) (.oo ae.1)) (0,0) [] λae=>.jn ae)
def hz5:=
 mkp3 func304 pzc
def lzi (j:azl)(aa:A5)(ab:A4)(ac:Int):T A4:=
 .loop (λs (ad:Ah)=>pk s [1,2,3,4,9] [0,1] [(10,pz ad.2)] [(129,vO ad.1 3)]) (.exit 0) (λs (ad:A4)=>pk s [9] [0] [] [(129,vO ad 3)]) (λad=>let ae:=([ad.2]:A4);let af:=ad.1.length+ae.length;.jC (ad.2<(aa.length:Int)) (.cut 0 (λs (ag:A4)=>pk s [1,2,3,4,9,10] [0,1] [] [(129,vO ag 3)]) (.br (ad.2==ac) (.oo ad.1) (.conv 7002 (kL ae 3)<|.conv 7003 (kA ad.1 ae 3)<|.grd (af * 8<=140737488355328/\af<=maxLen)<|.gg ad.2 aa.length<|.cc (hz5 j (aa.getD (X3 ad.2) qu) ab) λag=>.loop (λs (ah:Ah)=>pk s [1,2,3,4,9,10,12] [0,1] [(11,pz ah.2)] [(1153,vO ah.1 3)]) (.exit 2) (λs (ah:A4)=>pk s [1,2,3,4,9,10] [0,1] [] [(1153,vO ah 3)]) (λah=>let ai:=(ah.2).toNat;let aj:=qt.wrap (ah.2-1);let ak:=aj.toNat;let al:=ah.1.getD ak qu;let am:=ah.1.set ai al;let an:=ah.1.getD ai qu;.cub 1 51 [1,2,3,4,9,10,11,12] [0,1,1153] (.jC (ah.2>0) (.gg aj ah.1.length<|.gg al aa.length<|.call (hz5 j (aa.getD (al.toNat) qu) ab) [] λao=>.oo (qv (ag<ao))) (.oo false)) λao=>.br ao (.gg aj ah.1.length<|.gg ah.2 ah.1.length<|.gh ah.2 ah.1.length<|.conv 10015 (kS ah.1 3 ai al)<|.gi (ah.2) ah.1.length<|.gh aj (am.length)<|.conv 10017 (kS am 3 ak an)<|.gi (aj) (am.length)<|.nn ((am.set ak an),aj)) (.oo ah.1)) ((ad.1++ae),(ad.1.length:Int)) [] λah=>.oo ah)) λag=>.nn (ag,(qt.wrap (ad.2+1)))) (.oo ad.1)) (nl,0) [] λad=>.jn ad
def uzy (j)(aa)(ab)(ac):=
 mkD func251 (lzi j aa ab ac) 1 [q j,.vec 0,q ab,pz ac] [(0,vO aa 39)] (λr=>q r) (λ_=>[(0,vO aa 39)])
def wzu (j:azl)(aa:A5)(ab:Al)(ac:Int)(ad:Int):T Al:=let ae:=min ac ad;let af:=max ac ad;let ag:=hz5 j (aa.getD (ae.toNat) qu) (aa.getD (af.toNat) qu);.loop (λs (ah:(Al×Bool×Int))=>pk s [2,3,4,5,9] [0,1,2,66] [(10,q ah.2.1),(11,pz ah.2.2)] [(706,vO ah.1 310)]) (.exit 0) (λs (ah:(Al×Bool))=>pk s [2,3,4,5,9] [0,1,2,66] [(10,q ah.2)] [(706,vO ah.1 310)]) (λah=>let ai:=ab.getD (X3 ah.2.2) qu;let aj:=([ai]:Al);.jC (ah.2.2<(ab.length:Int)) (.gg ah.2.2 ab.length<|.cut 0 (λs (ak:(Al×Bool))=>pk s [2,3,4,5,11,12] [0,1,2,66,1602] [(9,.vec 1730),(10,q ak.2)] [(1730,vO ak.1 310)]) (.cub 0 50 [2,3,4,5,9,10,11,12] [0,1,2,66,706,1602] (.jE (!ah.2.1) (.jF ((ai.U)>ae) (.jE ((ai.U)==ae) (.oo (qv ((ai.V)>=af)))))) λak=>.br ak (.cub 1 60 [2,3,4,5,9,10,11,12] [0,1,2,66,706,1602] (.jD ((ai.U) !=ae) (.oo ((ai.V) !=af))) λal=>.br al (.gg ae aa.length<|.gg af aa.length<|.cc ag λam=>let an:=([(⟨ae,af,am,0,(⟨0,nl,(⟨0,0,nl⟩:az6),(⟨0,nl,nl⟩:bze)⟩:azo)⟩:az1)]:Al);let ao:=ah.1.length+an.length;
 .conv 11016 (azb4 12 gzf an 310 [.agg [jA ae,jA af,jA am,jA 0,jA 0,.lst 0 0 λ_=>.unk,jA 0,jA 0,.lst 0 0 λ_=>.unk,jA 0,.lst 0 0 λ_=>.unk,.lst 0 0 λ_=>.unk]] ju)<|.conv 11017 (kA ah.1 an 310)<|.grd (ao * 160<=140737488355328/\ao<=maxLen)<|.oo ((ah.1++an),true)) (.oo (ah.1,true))) (.oo (ah.1,ah.2.1))) λak=>let al:=ak.1.length+aj.length;
 .conv 12002 (kL aj 310)<|.conv 12003 (kA ak.1 aj 310)<|.grd (al * 160<=140737488355328/\al<=maxLen)<|.nn ((ak.1++aj),ak.2,(qt.wrap (ah.2.2+1)))) (.oo (ah.1,ah.2.1))) (nl,false,0) [] λah=>.cut 0 (λs (ai:Al)=>pk s [] [0,1] [(9,.vec 962)] [(962,vO ai 310)]) (.br (!ah.2) (.gg ae aa.length<|.gg af aa.length<|.cc ag λai=>let aj:=([(⟨ae,af,ai,0,(⟨0,nl,(⟨0,0,nl⟩:az6),(⟨0,nl,nl⟩:bze)⟩:azo)⟩:az1)]:Al);let ak:=ah.1.length+aj.length;
 .conv 14016 (azb4 12 gzf aj 310 [.agg [jA ae,jA af,jA ai,jA 0,jA 0,.lst 0 0 λ_=>.unk,jA 0,jA 0,.lst 0 0 λ_=>.unk,jA 0,.lst 0 0 λ_=>.unk,.lst 0 0 λ_=>.unk]] ju)<|.conv 14017 (kA ah.1 aj 310)<|.grd (ak * 160<=140737488355328/\ak<=maxLen)<|.oo (ah.1++aj)) (.oo ah.1)) λai=>.jn ai
def Hzj (j)(aa)(ab)(ac)(ad):=
 mkD func252 (wzu j aa ab ac ad) 2 [q j,.agg [.vec 0,.vec 1],pz ac,pz ad] [(0,vO aa 39),(1,vO ab 310)] (λ_=>.vec 2) (λr=>[(0,vO aa 39),(1,vO ab 310),(2,vO r 310)])
def wzs (j:azl)(aa:A5)(ab:Int):T azd:=
 .cc (czd j) λac=>.br (ac !=0) (.jn (⟨nl,nl⟩:azd)) (.loop (λs (ad:Ap)=>pk s [1,2,3,6,7] [0,64,65,66,128,130] [(8,pz ad.2)] [(129,vO ad.1 39)]) (.exit 0) (λs (ad:A5)=>pk s [2,3,6,7] [0,64,65,66,128,130] [] [(129,vO ad 39)]) (λad=>let ae:=aa.getD (X3 ad.2) qu;let af:=([ae]:A5);let ag:=ad.1.length+af.length;.cub 1 25 [1,2,3,6,7,8] [0,64,65,66,128,129,130] (.jC (ad.2<(aa.length:Int)) (.oo (qv ((ad.1.length:Int)<1024))) (.oo false)) λah=>.br ah (.cut 0 (λs (ai:A5)=>pk s [1,2,3,6,7,8] [0,64,65,66,130] [] [(128,.box [.vec 576,.vec 130]),(576,vO ai 39)]) (.cub 0 43 [1,2,3,6,7,8] [0,64,65,66,128,129,130] (.gh ad.2 aa.length<|.cc (dzc (⟨j.Xc,j.Xv⟩:azl) ae) λai=>.jE ai (.gh ad.2 aa.length<|.call (szo ad.1 ae) [(0,129)] λaj=>.oo (qv (aj<0)))) λai=>.br ai (.gh ad.2 aa.length<|.grd (ae.length * 8<=140737488355328/\ae.length<=maxLen)<|.conv 8007 (kL af 39)<|.conv 8008 (kA ad.1 af 39)<|.grd (ag * 24<=140737488355328/\ag<=maxLen)<|.oo (ad.1++af)) (.oo ad.1)) λai=>.nn (ai,(qt.wrap (ad.2+1)))) (.oo ad.1)) (nl,0) [] λad=>.loop (λs (ae:Am)=>pk s [2,3,6,7] [0,64,65,66,128,129] [(9,pz ae.2)] [(130,vO ae.1 310)]) (.exit 2) (λs (ae:Al)=>pk s [6,7] [64,65,66,128,129] [] [(130,vO ae 310)]) (λae=>.jC (ae.2<(ad.length:Int)) (.gg ae.2 ad.length<|.call (uzy j ad (ad.getD (X3 ae.2) qu) ae.2) [(0,129)] λaf=>.loop (λs (ag:Am)=>pk s [2,3,6,7,9,10] [0,64,65,66,128,129] [(11,pz ag.2)] [(130,vO ag.1 310)]) (.exit 4) (λs (ag:Al)=>pk s [2,3,6,7,9] [0,64,65,66,128,129] [] [(130,vO ag 310)]) (λag=>.cub 1 79 [2,3,6,7,9,10,11] [0,64,65,66,128,129,130] (.jC (ag.2<(af.length:Int)) (.oo (qv (ag.2<ab))) (.oo false)) λah=>.br ah (.gh ag.2 af.length<|.call (Hzj j ad ag.1 ae.2 (af.getD (X3 ag.2) qu)) [(0,129),(1,130)] λai=>.nn (ai,(qt.wrap (ag.2+1)))) (.oo ag.1)) (ae.1,0) [] λag=>.nn (ag,(qt.wrap (ae.2+1)))) (.oo ae.1)) (nl,0) [] λae=>let af:=(ae.length:Nat);
 .cut 0 (λs (ag:Al)=>pk s [6,7] [64,65,66,129] [] [(128,.box [.vec 129,.vec 640]),(640,vO ag 310)]) (.jC ((af:Int)>8192) (.conv 18002 (az0y 12 gzf ae 310 (8192:Int))<|.grd (0<=(8192:Int)/\(8192:Int)<=(af:Int)/\0<=(8192:Int).toNat)<|.oo (ae.take (X3 (8192:Int)))) (.oo ae)) λag=>.jn (⟨ad,ag⟩:azd))
def oz4:=
 mkp3 func192 wzs
def tz3 (j:az7)(aa:A4)(ab:A4)(ac:cz3):T azd:=let ad:=([aa,ab]:A5);.conv 1002 (kL ad 39)<|.cc (wz1 j.Xg) λae=>.loop (λs (af:Ap)=>pk s [4,7,8,9,10] [0,64,128,129,130] [(11,pz af.2)] [(320,vO af.1 39)]) (.exit 0) (λs (af:A5)=>pk s [4,7,8,9] [0,64,128,129,130] [] [(320,vO af 39)]) (λaf=>.jC (af.2<=ac.XI) (.cc (wzq ae (IntKind.u64.wrap af.2)) λag=>let ah:=([ag]:A5);let ai:=af.1.length+ah.length;
 .conv 6005 (kL ah 39)<|.conv 6006 (kA af.1 ah 39)<|.grd (ai * 24<=140737488355328/\ai<=maxLen)<|.nn ((af.1++ah),(qt.wrap (af.2+1)))) (.oo af.1)) (ad,1) [] λaf=>.cc (oz4 j.Xg af ac.XK) λag=>.jn ag
def tz2:=
 mkp4 func125 tz3
def nz8 (j:A5)(aa:A4):T Int:=
 .loop (ik 5 [0,1] []) (.exit 0) (jk [] []) (λab=>.jC (ab<(j.length:Int)) (.gh ab j.length<|.cc (fzg (j.getD (ab.toNat) qu) aa) λac=>.br ac (.ff ab) (.nn (qt.wrap (ab+1)))) (.oo .u))
 0 [] λ_=>.jn (-1)
def nz7:=
 mkp2 func127 nz8
def szs (j:azd):T Bool:=let aa:=(j.Xb.length:Int);let ab:=(j.Xa.length:Int);.loop (ik 3 [1] [0]) (.exit 0) (jk [1] [0]) (λac=>let ad:=qt.wrap (ac-1);let ae:=j.Xb.getD (ac.toNat) qu;let af:=ae.U;let ag:=j.Xb.getD (ad.toNat) qu;.jC (ac<aa) (.gh ac j.Xb.length<|.cub 1 34 [1,3,4] [0,896] (.jF (af<0) (.jF (af>=(ae.V)) (.oo (qv ((ae.V)>=ab))))) λah=>.br ah (.ff false) (.cub 0 72 [1,3] [0] (.jC (ac>0) (.gh ad j.Xb.length<|.jF ((ag.U)>af) (.gh ad j.Xb.length<|.jE ((ag.U)==af) (.gh ad j.Xb.length<|.oo (qv ((ag.V)>=(ae.V)))))) (.oo false)) λai=>.br ai (.ff false) (.nn (qt.wrap (ac+1))))) (.oo .u))
 0 [] λ_=>.jC (ab<=1024) (.jn (qv (aa<=8192))) (.jn false)
def szr:=
 mkp1 func257 szs
def wzp (j:azd):T Bool:=
 .loop (ik 3 [1] [0]) (.exit 0) (jk [1] [0]) (λaa=>let ab:=j.Xb.getD (aa.toNat) qu;.jC (aa<(j.Xb.length:Int)) (.cub 1 26 [1,3] [0] (.gh aa j.Xb.length<|.jF ((ab.Xp)<0) (.gh aa j.Xb.length<|.oo (qv ((ab.Xp)>1099511627776)))) λac=>.br ac (.ff false) (.nn (qt.wrap (aa+1)))) (.oo .u))
 0 [] λ_=>.cc (szr j) λaa=>.jn aa
def oz3:=
 mkp1 func195 wzp
def Bz0 (j:azd)(aa:Int)(ab:Int):T Bool:=let ac:=(j.Xa.length:Int);.cc (oz3 j) λad=>.br ad (.jC (aa>=0) (.jC (aa<ac) (.jC (ab>=0) (.jn (qv (ab<ac))) (.jn false)) (.jn false)) (.jn false)) (.jn false)
def qzu:=
 mkp3 func253 Bz0
def pzm (j:az1)(aa:Int):T Bool:=
 .br (aa==0) (.jn (j.Xx==1)) (.br (aa==1) (.br (j.Xx==1) (.jn true) (.jn (j.Xx==0))) (.br (aa==2) (.jn (j.Xx !=2)) (.jn false)))
def pzl:=
 mkp2 func306 pzm
def Ezx (j:azg)(aa:azg):T Bool:=let ab:=qv (aa.Xp<0);.cub 2 12 [2,3] [0,64] (.jD ab (.oo (qv (j.Xp<0)))) λac=>.br ac (.jC (j.Xp>=0) (.jn ab) (.jn false)) (.jC (j.Xp<aa.Xp) (.jn true) (.br (j.Xp==aa.Xp) (.jn (qv (j.Xb<aa.Xb))) (.jn false)))
def uzz:=
 mkp2 func361 Ezx
def wzw (j:azd)(aa:Int)(ab:Int):T B0:=let ac:=(j.Xa.length:Int);.conv 1003 (Dz3 2 Dz6 387 ac.toNat (⟨0,0⟩:azg))<|.grd (0<=ac/\ac<=ac/\ac<=9223372036854775807/\ac * 16<=140737488355328)<|.loop (λs (ad:(B0×Int))=>pk s [1,2,3,7] [0] [(8,pz ad.2)] [(320,vO ad.1 387)]) (.exit 0) (λs (ad:B0)=>pk s [1,2,3,7] [0] [] [(320,vO ad 387)]) (λad=>let ae:=(ad.2).toNat;let af:=(⟨(-1),(ad.1.getD ae qu).Xb⟩:azg);.name 3002 ((ad.1.length:Int)) λag=>.jC (ad.2<ag) (.gh ad.2 ad.1.length<|.conv 5004 (kS ad.1 387 ae af)<|.gi (ad.2) ad.1.length<|.nn ((ad.1.set ae af),(qt.wrap (ad.2+1)))) (.oo ad.1)) ((qs ac.toNat ((⟨0,0⟩:azg):azg)),0) [] λad=>.gh aa ad.length<|.conv 6004 (kS ad 387 (aa.toNat) (⟨0,0⟩:azg))<|.gi (aa) ad.length<|.loop (λs (ae:B9)=>pk s [2,3,7] [0] [(9,q ae.2)] [(320,vO ae.1 387)]) (.exit 2) (λs (ae:B0)=>pk s [7] [] [] [(320,vO ae 387)]) (λae=>.br ae.2 (.loop (λs (af:(B0×Bool×Int))=>pk s [2,3,7] [0] [(9,q af.2.1),(10,pz af.2.2)] [(320,vO af.1 387)]) (.exit 4) (λs (af:B9)=>pk s [2,3,7] [0] [(9,q af.2)] [(320,vO af.1 387)]) (λaf=>let ag:=j.Xb.getD (X3 af.2.2) qu;let ah:=([(ag.U,ag.V),(ag.V,ag.U)]:B3);.jC (af.2.2<(j.Xb.length:Int)) (.cut 0 (λs (ai:B9)=>pk s [2,3,7,10] [0] [(9,q ai.2)] [(320,vO ai.1 387)]) (.gh af.2.2 j.Xb.length<|.cc (pzl ag ab) λai=>.br (!ai) (.oo (af.1,af.2.1)) (.conv 15010 (kL ah 375)<|.name 15011 ((ah.length:Int)) λaj=>.loop (λs (ak:(B0×Bool×Int))=>pk s [2,3,7,10,11,60,61] [0,1920,2944] [(9,q ak.2.1),(62,pz ak.2.2)] [(320,vO ak.1 387)]) (.exit 6) (λs (ak:B9)=>pk s [2,3,7,10] [0] [(9,q ak.2)] [(320,vO ak.1 387)]) (λak=>let al:=ah.getD (X3 ak.2.2) qu;.jC (ak.2.2<aj) (.cut 0 (λs (am:B9)=>pk s [2,3,7,10,11,60,61,62] [0,1920,2944] [(9,q am.2)] [(320,vO am.1 387)]) (.gg ak.2.2 (ah.length)<|.ix 0 2 rfl<|.name 18002 (al.1) λam=>let an:=ak.1.getD (am.toNat) qu;
 .gg am ak.1.length<|.jC ((an.Xp)<0) (.oo (ak.1,ak.2.1)) (.name 20004 ((qt.wrap ((an.Xp)+(ag.Xp)))) λao=>let ap:=(⟨ao,(qt.wrap ((an.Xb)+1))⟩:azg);
 .ix 1 2 rfl<|.name 21003 (al.2) λaq=>.gg aq ak.1.length<|.call (uzz ap (ak.1.getD (aq.toNat) qu)) [] λar=>.br ar (.ix 1 2 rfl<|.name 22002 (al.2) λau=>.gh au ak.1.length<|.conv 22005 (kS ak.1 387 (au.toNat) ap)<|.gi (au) ak.1.length<|.oo ((ak.1.set (au.toNat) ap),true)) (.oo (ak.1,ak.2.1)))) λam=>.nn (am.1,am.2,(qt.wrap (ak.2.2+1)))) (.oo (ak.1,ak.2.1))) (af.1,af.2.1,0) [] λak=>.oo (ak.1,ak.2))) λai=>.nn (ai.1,ai.2,(qt.wrap (af.2.2+1)))) (.oo (af.1,af.2.1))) (ae.1,false,0) [] λaf=>.nn (af.1,af.2)) (.oo ae.1)) ((ad.set (aa.toNat) (⟨0,0⟩:azg)),true) [] λae=>.jn ae
def wzv:=
 mkp3 func305 wzw
def pzk (j:azd)(aa:Int)(ab:Int)(ac:Int):T (dz2×Bool):=let ad:=([aa]:A4);let ae:=(⟨j.Xa,j.Xb⟩:azd);.cub 2 29 [1,2,3,4,8] [0,64,65] (.cc (qzu ae aa ab) λaf=>.jD (!af) (.jF (ac<0) (.oo (qv (ac>2))))) λaf=>.br af (.jn ((⟨nl,0⟩:dz2),false)) (.cc (wzv ae ab ac) λag=>let ah:=ag.getD (aa.toNat) qu;
 .gh aa ag.length<|.jC ((ah.Xp)<0) (.jn ((⟨nl,0⟩:dz2),false)) (.conv 6001 (kL ad 3)<|.gh aa ag.length<|.loop (λs (ai:Ah)=>pk s [2,3,4,8,10,11] [0,64,65,1472] [(12,pz ai.2)] [(1024,vO ai.1 3)]) (.exit 0) (λs (ai:A4)=>pk s [8,11] [64,65,1472] [] [(1024,vO ai 3)]) (λai=>let aj:=ag.getD (X3 ai.2) qu;.br (ai.2 !=ab) (.loop (λs (ak:B2)=>pk s [2,3,4,8,10,11,12] [0,64,65,1024,1472] [(13,pz ak.1),(14,pz ak.2)] []) (.exit 2) (ik 13 [2,3,4,8,10,11] [0,64,65,1024,1472]) (λak=>let al:=j.Xb.getD (X3 ak.2) qu;.jC (ak.2<(j.Xb.length:Int)) (.cut 0 (λs (am:Int)=>pk s [2,3,4,8,10,11,12,14] [0,64,65,1024,1472] [(13,pz am)] []) (.gh ak.2 j.Xb.length<|.cub 1 81 [2,3,4,8,10,11,12,13,14,15] [0,64,65,1024,1472,2816] (.cc (pzl al ac) λam=>.jD (!am) (.jE ((al.U) !=ai.2) (.oo ((al.V) !=ai.2)))) λam=>.br am (.oo ak.1) (.name 15006 ((qt.wrap ((qt.wrap ((al.U)+(al.V)))-ai.2))) λan=>let ao:=ag.getD (an.toNat) qu;
 .cub 0 133 [2,3,4,8,10,11,12,13,14,16] [0,64,65,1024,1472] (.gh an ag.length<|.jC ((ao.Xp)>=0) (.gh an ag.length<|.gh ai.2 ag.length<|.jE ((qt.wrap ((ao.Xp)+(al.Xp)))==(aj.Xp)) (.gh an ag.length<|.gh ai.2 ag.length<|.jE ((qt.wrap ((ao.Xb)+1))==(aj.Xb)) (.jF (ak.1<0) (.oo (qv (an<ak.1)))))) (.oo false)) λap=>.br ap (.oo an) (.oo ak.1))) λam=>.nn (am,(qt.wrap (ak.2+1)))) (.oo ak.1)) ((-1),0) [] λak=>let al:=([ak]:A4);let am:=ai.1.length+al.length;
 .conv 19003 (kL al 3)<|.conv 19004 (kA ai.1 al 3)<|.grd (am * 8<=140737488355328/\am<=maxLen)<|.nn ((ai.1++al),ak)) (.oo ai.1)) (ad,aa) [] λai=>.jn ((⟨ai,ah.Xp⟩:dz2),true)))
def pzj:=
 mkq4 func254 pzk (λr=>.tup [q r.1,q r.2])
def gz2 (j:azd)(aa:Int)(ab:Int):T Int:=
 .loop (ik 7 [1,2,3] [0]) (.exit 0) (jk [] []) (λac=>let ad:=j.Xb.getD (ac.toNat) qu;.jC (ac<(j.Xb.length:Int)) (.cub 1 36 [1,2,3,7] [0] (.gh ac j.Xb.length<|.jE ((ad.U)==(min aa ab)) (.gh ac j.Xb.length<|.oo ((ad.V)==(max aa ab)))) λae=>.br ae (.ff ac) (.nn (qt.wrap (ac+1)))) (.oo .u))
 0 [] λ_=>.jn (-1)
def hzh:=
 mkp3 func196 gz2
def Ezu (j:azd)(aa:Int)(ab:Int):T (Int×dz2×Int):=
 .cc (qzu j aa ab) λac=>.br (!ac) (.jn ((-1),(⟨nl,0⟩:dz2),0)) (.cc (pzj (⟨j.Xa,j.Xb⟩:azd) aa ab 1) λad=>.br (!ad.2) (.jn ((-1),(⟨nl,0⟩:dz2),2)) (.loop (ik 11 [3,7,9] [0,128,129,1024]) (.exit 0) (jk [7,9] [128,129,1024]) (λae=>let af:=qt.wrap (ae-1);.jC (ae<(ad.1.Xy.length:Int)) (.gh af ad.1.Xy.length<|.gh ae ad.1.Xy.length<|.call (hzh j (ad.1.Xy.getD (af.toNat) qu) (ad.1.Xy.getD (ae.toNat) qu)) [] λag=>.gh ag j.Xb.length<|.br (((j.Xb.getD (ag.toNat) qu).Xx)==0) (.ff (ag,ad.1,3)) (.nn (qt.wrap (ae+1)))) (.oo .u))
 1 [] λ_=>.jn ((-1),ad.1,1)))
def kzc:=
 mkq3 func193 Ezu (λr=>.tup [pz r.1,q r.2.1,pz r.2.2])
def Bz1 (j:azd)(aa:az1):T Bool:=let ab:=(j.Xa.length:Int);.jC (aa.U>=0) (.jC (aa.U<ab) (.jC (aa.V>=0) (.jn (qv (aa.V<ab))) (.jn false)) (.jn false)) (.jn false)
def Lz9:=
 mkp2 func255 Bz1
def lzh (j:az7)(aa:A4)(ab:A4):T Bool:=
 .cc (cze j) λac=>.br (ac==0) (.cc (dzc j.Xg aa) λad=>.br ad (.cc (dzc j.Xg ab) λae=>.jn ae) (.jn false)) (.jn false)
def qzs:=
 mkp3 func53 lzh
def wz7 (j:A4)(aa:A4)(ab:Int):T Bool:=
 .cc (izo j) λac=>.br ac (.cc (izo aa) λad=>.br ad (.br ((j.length:Int)==(aa.length:Int)) (.jC (ab>=0) (.jn (qv (ab<=20))) (.jn false)) (.jn false)) (.jn false)) (.jn false)
def Hzc:=
 mkp3 func51 wz7
def Aza (j:A4)(aa:A4)(ab:Int)(ac:Int):T (Ae×Bool):=let ad:=IntKind.u64.wrap ab;let ae:=qt.wrap (1 * 2 ^ (min ad.toNat 64));.cub 2 31 [0,1,2,3] [] (.cc (Hzc j aa ab) λaf=>.jD (!af) (.jF (ac<0) (.grd (0<=ad)<|.oo (qv (ac>=ae))))) λaf=>.br af (.jn (nl,false)) (.grd (0<=ad)<|.loop (λs (ag:Af)=>pk s [0,1,3,10,11] [] [(12,pz ag.2)] [(448,vO ag.1 95)]) (.exit 0) (λs (ag:Ae)=>pk s [11] [] [] [(448,vO ag 95)]) (λag=>let ah:=(ag.2).toNat;let ai:=j.getD ah qu;let aj:=qt.wrap ((aa.getD ah qu)-ai);let ak:=qt.wrap (ac * aj);.jC (ag.2<(j.length:Int)) (.gh ag.2 aa.length<|.gh ag.2 j.length<|.name 9006 ((qt.wrap ((qt.wrap (ac+1)) * aj))) λal=>.gh ag.2 j.length<|.name 10007 ((min ak al)) λam=>.call (bza am ae) [] λan=>.gh ag.2 j.length<|.name 10017 ((max ak al)) λao=>.call (bz3 ao ae) [] λap=>let aq:=([(⟨(qt.wrap (ai+an)),(qt.wrap (ai+ap))⟩:az0)]:Ae);let ar:=ag.1.length+aq.length;
 .conv 10022 (kL aq 95)<|.conv 10023 (kA ag.1 aq 95)<|.grd (ar * 16<=140737488355328/\ar<=maxLen)<|.nn ((ag.1++aq),(qt.wrap (ag.2+1)))) (.oo ag.1)) (nl,0) [] λag=>.jn (ag,true))
def qzp:=
 mkq4 func54 Aza (λr=>.tup [q r.1,q r.2])
def Azm (j:az7)(aa:A4)(ab:A4)(ac:Int):T azo:=let ad:=(⟨j.Xg,j.Xe,j.Xs⟩:az7);.cub 2 28 [1,2,3,4,8] [0,64,66,69,71,72] (.cc (qzs ad aa ab) λae=>.jD (!ae) (.jF (ac<0) (.oo (qv (ac>20))))) λae=>.br ae (.jn (⟨0,nl,(⟨0,0,nl⟩:az6),(⟨0,nl,nl⟩:bze)⟩:azo)) (.conv 4001 (azb4 3 rzt ([(⟨0,0,nl⟩:azu)]:B1) 137 [.agg [jA 0,jA 0,.lst 0 0 λ_=>.unk]] ju)<|.loop (λs (af:(An×B1))=>pk s [1,2,3,4,8,9,10] [0,64,66,69,71,72] [] [(192,vO af.1 76),(320,vO af.2 137)]) (.exit 0) (λs (af:An)=>pk s [8,9] [64,66,69,71,72] [] [(192,vO af 76)]) (λaf=>let ag:=(af.2.length:Int);let ah:=qt.wrap (ag-1);let ai:=af.2.take (ah.toNat);let aj:=af.2.getD (ah.toNat) qu;let ak:=aj.depth;let al:=aj.index;.jC (ag>0) (.gg ah af.2.length<|.conv 7004 (az0y 3 rzt af.2 137 ah)<|.grd (0<=ah/\ah<=ag/\0<=ah.toNat)<|.name 8001 ak λam=>.name 8003 al λan=>let ao:=(⟨am,an,nl⟩:az6);let ap:=(⟨0,nl,ao,(⟨0,nl,nl⟩:bze)⟩:azo);
 .jC ((af.1.length:Int)>=4096) (.ff ap) (.name 11003 ak λaq=>.name 11005 al λar=>.cc (qzp aa ab aq ar) λau=>.call (jzn ad au.1 (aj.hints)) [] λav=>.br (av.Xo==1) (.name 15002 ak λaw=>.name 15004 al λax=>let ay:=([(⟨aw,ax,av.Xn⟩:az6)]:An);let az:=af.1.length+ay.length;
 .conv 15008 (kL ay 76)<|.conv 15009 (kA af.1 ay 76)<|.grd (az * 40<=140737488355328/\az<=maxLen)<|.nn ((af.1++ay),ai)) (.br (av.Xo==2) (.ff (⟨2,nl,ao,av.Xw⟩:azo)) (.name 18001 ak λaw=>.br (aw==ac) (.ff ap) (.name 13002 ak λax=>.name 13005 al λay=>.name 13012 ak λaz=>.name 13015 al λa0=>let a1:=([(⟨(qt.wrap (ax+1)),(qt.wrap ((qt.wrap (2 * ay))+1)),av.Xn⟩:azu),(⟨(qt.wrap (az+1)),(qt.wrap (2 * a0)),av.Xn⟩:azu)]:B1);let a2:=ai.length+a1.length;
 .conv 13020 (kL a1 137)<|.conv 13021 (kA ai a1 137)<|.grd (a2 * 40<=140737488355328/\a2<=maxLen)<|.nn (af.1,(ai++a1))))))) (.oo af.1)) (nl,([(⟨0,0,nl⟩:azu)]:B1)) [] λaf=>.jn (⟨1,af,(⟨0,0,nl⟩:az6),(⟨0,nl,nl⟩:bze)⟩:azo))
def lzg:=
 mkp4 func21 Azm
def Ezt (j:azd)(aa:Int)(ab:azo):T (azd×Bool):=let ac:=aa.toNat;let ad:=j.Xb.getD ac qu;.cub 2 36 [1,3,5,6] [0,64,128,129,130] (.jF (aa<0) (.jF (aa>=(j.Xb.length:Int)) (.gh aa j.Xb.length<|.jD ((ad.Xx)==1) (.gh aa j.Xb.length<|.oo ((ad.Xx)==2))))) λae=>.br ae (.jn (j,false)) (.cut 1 (λs (af:Int)=>pk s [1,3,5,6] [0,64,128,129,130] [(8,pz af)] []) (.br (ab.Xo==1) (.oo 1) (.br (ab.Xo==2) (.oo 2) (.br (ab.Xo==0) (.oo 3) (.ff (j,false))))) λaf=>let ag:=(⟨ad.U,ad.V,ad.Xp,af,ad.XJ⟩:az1);let ah:=j.Xb.set ac ag;let ai:=ah.getD ac qu;let aj:=(⟨ai.U,ai.V,ai.Xp,ai.Xx,ab⟩:az1);
 .grd (j.Xb.length * 160<=140737488355328/\j.Xb.length<=maxLen)<|.gh aa j.Xb.length<|.conv 12010 (kS j.Xb 310 ac ag)<|.gi (aa) j.Xb.length<|.gh aa (ah.length)<|.conv 12013 (kS ah 310 ac aj)<|.gi (aa) (ah.length)<|.jn ((⟨j.Xa,(ah.set ac aj)⟩:azd),true))
def Ezs:=
 mkq3 func256 Ezt (λr=>.tup [q r.1,q r.2])
def Ezv (j:az7)(aa:azd)(ab:Int)(ac:Int):T (azd×Bool):=let ad:=aa.Xb.getD (ab.toNat) qu;let ae:=(⟨aa.Xa,aa.Xb⟩:azd);.cub 2 46 [2,3,4,5,8] [0,64,128,129,130] (.jF (ab<0) (.jF (ab>=(aa.Xb.length:Int)) (.gh ab aa.Xb.length<|.cc (Lz9 ae ad) λaf=>.jD (!af) (.gh ab aa.Xb.length<|.jD ((ad.Xx)==1) (.gh ab aa.Xb.length<|.oo ((ad.Xx)==2)))))) λaf=>.br af (.jn (ae,false)) (.gh ab aa.Xb.length<|.gh (ad.U) aa.Xa.length<|.gh ab aa.Xb.length<|.gh (ad.V) aa.Xa.length<|.call (lzg (⟨j.Xg,j.Xe,j.Xs⟩:az7) (aa.Xa.getD (X3 ad.U) qu) (aa.Xa.getD (X3 ad.V) qu) ac) [] λag=>.cc (Ezs ae ab ag) λah=>.jn (ah.1,ah.2))
def Ozo:=
 mkq4 func194 Ezv (λr=>.tup [q r.1,q r.2])
def Ezr (j:az7)(aa:azd)(ab:Int)(ac:Int)(ad:Int)(ae:Int):T Bz:=
 .cc (cze j) λaf=>.br (af !=0) (.jn (aa,(⟨nl,0⟩:dz2),0,0)) (.loop (λs (ag:(A5×Al×Int))=>pk s [2,3,4,5,6,7,12,13] [0,128,129,130,192,193] [(16,pz ag.2.2)] [(64,.box [q ag.1,q ag.2.1])])
 .ret (λ_ (_:U0)=>⟨[],[],[],0⟩) (λag=>let ah:=(⟨ag.1,ag.2.1⟩:azd);.cc (kzc ah ab ac) λai=>.br (ai.2.2 !=3) (.ff (ah,ai.2.1,ai.2.2,ag.2.2)) (.jC (ag.2.2>=ae) (.ff (ah,ai.2.1,4,ag.2.2)) (.cc (Ozo (⟨j.Xg,j.Xe,j.Xs⟩:az7) ah ai.1 ad) λaj=>.nn (aj.1.Xa,aj.1.Xb,(qt.wrap (ag.2.2+1)))))) (aa.Xa,aa.Xb,0) [] λ_=>.stop)
def Ozn:=
 mkq6 func126 Ezr (λr=>.tup [q r.1,q r.2.1,pz r.2.2.1,pz r.2.2.2])
def wzi (j:Bi)(aa:Bh):T Int:=
 .loop (ik 5 [0,3] [0]) (.exit 0) (jk [] []) (λab=>let ac:=j.getD (ab.toNat) qu;.jC (ab<(j.length:Int)) (.gh ab j.length<|.br (((ac.1)==aa.1)&&(((ac.2.1)==aa.2.1)&&(((ac.2.2)==aa.2.2)&&true))) (.ff ab) (.nn (qt.wrap (ab+1)))) (.oo .u))
 0 [] λ_=>.jn (-1)
def wzh:=
 mkp2 func258 wzi
def Ezc (j:An):T azp:=
 .loop (λs (aa:(Bi×Av×Int))=>pk s [0,2,3] [0,1,2,64] [(4,pz aa.2.2)] [(65,vS aa.1 89),(66,vO aa.2.1 316)]) (.exit 0) (λs (aa:(Bi×Av))=>pk s [2,3] [0,1,2,64] [] [(65,vS aa.1 89),(66,vO aa.2 316)]) (λaa=>let ab:=j.getD (X3 aa.2.2) qu;let ac:=ab.Xn.length;.jC (aa.2.2<(j.length:Int)) (.gh aa.2.2 j.length<|.gh aa.2.2 j.length<|.loop (λs (ad:(Bi×A4×Int))=>pk s [0,2,3,4,5] [0,1,2,64,66,1216] [(6,pz ad.2.2)] [(65,vS ad.1 89),(1154,vO ad.2.1 3)]) (.exit 2) (λs (ad:(Bi×A4))=>pk s [0,2,3,4,5] [0,1,2,64,66,1216] [] [(65,vS ad.1 89),(1154,vO ad.2 3)]) (λad=>let ae:=(ab.Xn).getD (X3 ad.2.2) qu;let af:=([ae]:Bi);let ag:=ad.1.length+af.length;.gh aa.2.2 j.length<|.jC (ad.2.2<(ab.Xn.length:Int)) (.gh aa.2.2 j.length<|.gh ad.2.2 ac<|.call (wzh ad.1 ae) [] λah=>.cut 0 (λs (ai:Bj)=>pk s [0,2,3,4,5,6] [0,1,2,66,1154,1216] [(7,pz ai.2)] [(64,.box [.vec 2752,.vec 66]),(2752,vS ai.1 89)]) (.jC (ah<0) (.gh aa.2.2 j.length<|.gh ad.2.2 ac<|.conv 12010 (kL af 89)<|.conv 12011 (azb3 3 azs ad.1 af 89)<|.grd (ag * 24<=140737488355328/\ag<=maxLen)<|.oo ((ad.1++af),(ad.1.length:Int))) (.oo (ad.1,ah))) λai=>let aj:=([ai.2]:A4);let ak:=ad.2.1.length+aj.length;
 .conv 13003 (kL aj 3)<|.conv 13004 (kA ad.2.1 aj 3)<|.grd (ak * 8<=140737488355328/\ak<=maxLen)<|.nn (ai.1,(ad.2.1++aj),(qt.wrap (ad.2.2+1)))) (.oo (ad.1,ad.2.1))) (aa.1,nl,0) [] λad=>let ae:=([(⟨ab.Xk,ab.Xu,ad.2⟩:dzq)]:Av);let af:=aa.2.1.length+ae.length;
 .conv 14003 (kL ae 316)<|.conv 14004 (kA aa.2.1 ae 316)<|.grd (af * 40<=140737488355328/\af<=maxLen)<|.nn (ad.1,(aa.2.1++ae),(qt.wrap (aa.2.2+1)))) (.oo (aa.1,aa.2.1))) (nl,nl,0) [] λaa=>.jn (⟨aa.1,aa.2⟩:azp)
def kzb:=
 mkp1 func197 Ezc
def szh (j:bz6):T bz6:=
 .loop (λs (aa:Ap)=>pk s [1,2,3] [0,64,65,66,128,130] [(4,pz aa.2)] [(129,vO aa.1 39)]) (.exit 0) (λs (aa:A5)=>pk s [1,2,3] [0,64,65,66,128,130] [] [(129,vO aa 39)]) (λaa=>let ab:=([(j.Xa.getD (X3 aa.2) qu)]:A5);let ac:=aa.1.length+ab.length;.jC (aa.2>=0) (.gh aa.2 j.Xa.length<|.conv 5007 (kL ab 39)<|.conv 5008 (kA aa.1 ab 39)<|.grd (ac * 24<=140737488355328/\ac<=maxLen)<|.nn ((aa.1++ab),(qt.wrap (aa.2-1)))) (.oo aa.1)) (nl,(qt.wrap ((j.Xa.length:Int)-1))) [] λaa=>.loop (λs (ab:(Aw×Int))=>pk s [1,2,3] [0,64,65,66,128,129] [(5,pz ab.2)] [(130,vO ab.1 251)]) (.exit 2) (λs (ab:Aw)=>pk s [2,3] [64,65,66,128,129] [] [(130,vO ab 251)]) (λab=>let ac:=j.Xb.getD (X3 ab.2) qu;.jC (ab.2>=0) (.gh ab.2 j.Xb.length<|.gh ab.2 j.Xb.length<|.name 10007 ((qt.wrap ((ac.XH.length:Int)-1))) λad=>.loop (λs (ae:(Av×Int))=>pk s [1,2,3,5,6] [0,64,65,66,128,129,130,1536] [(7,pz ae.2)] [(1473,vO ae.1 316)]) (.exit 4) (λs (ae:Av)=>pk s [1,2,3,5,6] [0,64,65,66,128,129,130,1536] [] [(1473,vO ae 316)]) (λae=>let af:=(ac.XH).getD (X3 ae.2) qu;let ag:=af.Xk;.jC (ae.2>=0) (.gh ab.2 j.Xb.length<|.gh ae.2 (ac.XH.length)<|.cut 0 (λs (ah:Int)=>pk s [1,2,3,5,6,7,8] [0,64,65,66,128,129,130,1473,1536] [] [(3008,.box [pz ag,pz ah,q (af.Xr)])]) (.cub 0 70 [1,2,3,5,6,7,8] [0,64,65,66,128,129,130,1473,1536,3008] (.name 14001 ag λah=>.jC (ah>=0) (.name 14005 ag λai=>.oo (qv (ai<=20))) (.oo false)) λah=>.br ah (.name 15001 ag λai=>let aj:=IntKind.u64.wrap ai;
 .grd (0<=aj)<|.name 15006 (af.Xu) λak=>.name 15007 ((qt.wrap ((qt.wrap ((qt.wrap (1 * 2 ^ (min aj.toNat 64)))-1))-ak))) λal=>.oo al) (.oo (af.Xu))) λah=>let ai:=([(⟨af.Xk,ah,af.Xr⟩:dzq)]:Av);let aj:=ae.1.length+ai.length;
 .conv 16003 (kL ai 316)<|.conv 16004 (kA ae.1 ai 316)<|.grd (aj * 40<=140737488355328/\aj<=maxLen)<|.nn ((ae.1++ai),(qt.wrap (ae.2-1)))) (.oo ae.1)) (nl,ad) [] λae=>let af:=([(⟨ac.XB,ae⟩:azp)]:Aw);let ag:=ab.1.length+af.length;
 .conv 17003 (kL af 251)<|.conv 17004 (kA ab.1 af 251)<|.grd (ag * 48<=140737488355328/\ag<=maxLen)<|.nn ((ab.1++af),(qt.wrap (ab.2-1)))) (.oo ab.1)) (nl,(qt.wrap ((j.Xb.length:Int)-1))) [] λab=>.jn (⟨aa,ab⟩:bz6)
def Ezd:=
 mkp1 func198 szh
def szj (j:az7)(aa:A5):T B2:=let ab:=(aa.length:Int);.cc (cze j) λac=>.br (ac !=0) (.jn (0,904)) (.cub 1 17 [1,2] [0] (.jF (ab<2) (.oo (qv (ab>256)))) λad=>.br ad (.jn (0,2201)) (.loop (ik 6 [1,2] [0]) (.exit 0) (jk [] []) (λae=>.jC (ae<ab) (.gh ae aa.length<|.cc (dzc j.Xg (aa.getD (ae.toNat) qu)) λaf=>.br (!af) (.ff (ae,1201)) (.nn (qt.wrap (ae+1)))) (.oo .u))
 0 [] λ_=>.jn (0,0)))
def szi:=
 mkq2 func129 szj (λr=>.tup [pz r.1,pz r.2])
def Azo (j:az6):T Br:=let aa:=IntKind.u64.wrap (qt.wrap (20-j.Xk));let ab:=IntKind.u64.wrap j.Xk;let ac:=qt.wrap (1 * 2 ^ (min aa.toNat 64));.cub 2 27 [1] [0] (.jF (j.Xk<0) (.jF (j.Xk>20) (.jF (j.Xu<0) (.grd (0<=ab)<|.oo (qv (j.Xu>=(qt.wrap (1 * 2 ^ (min ab.toNat 64))))))))) λad=>.br ad (.jn (0,0,false)) (.grd (0<=aa)<|.name 4003 ((qt.wrap (j.Xu * ac))) λae=>.jn (ae,ac,true))
def Azn:=
 mkq1 func260 Azo (λr=>.tup [pz r.1,pz r.2.1,q r.2.2])
def Azp (j:An):T Bc:=let aa:=(j.length:Int);.loop (λs (ab:B2)=>pk s [0] [] [(4,pz ab.1),(5,pz ab.2)] []) (.exit 0) (ik 4 [0] []) (λab=>.jC (ab.2<aa) (.gh ab.2 j.length<|.cc (Azn (j.getD (X3 ab.2) qu)) λac=>.cub 1 34 [0,5,6,7] [] (.jD (!ac.2.2) (.jD (ac.1 !=ab.1) (.oo (qv (ab.2>=4096))))) λad=>.br ad (.ff (ab.2,false)) (.nn ((qt.wrap (ac.1+ac.2.1)),(qt.wrap (ab.2+1))))) (.oo ab.1)) (0,0) [] λab=>.jn (aa,(ab==1048576))
def Lz3:=
 mkq1 func200 Azp (λr=>.tup [pz r.1,q r.2])
def mzy (j:az7)(aa:Ae)(ab:Bi):T Bool:=
 .cc (Azi j aa) λac=>let ad:=(ac.1.length:Int);
 .cub 1 26 [2,7,8] [] (.jD (!ac.2.2) (.oo ((ab.length:Int) !=ad))) λae=>.br ae (.jn false) (.loop (ik 10 [2,7,8] []) (.exit 0) (jk [] []) (λaf=>let ag:=af.toNat;let ah:=ac.1.getD ag qu;let ai:=ac.2.1.getD ag qu;.jC (af<ad) (.gh af ab.length<|.gh af ac.1.length<|.gh af ac.1.length<|.gh af ac.2.1.length<|.gh af ac.2.1.length<|.cc (mzz (ab.getD ag qu) (ah.points) (ah.radius) (ai.points) (ai.radius)) λaj=>.br (!aj) (.ff false) (.nn (qt.wrap (af+1)))) (.oo .u))
 0 [] λ_=>.jn true)
def izp:=
 mkp3 func201 mzy
def nz3 (j:az7)(aa:A4)(ab:A4)(ac:An):T B2:=
 .cc (cze j) λad=>.br (ad !=0) (.jn (0,904)) (.cc (qzs j aa ab) λae=>.br (!ae) (.jn (0,1201)) (.cc (Lz3 ac) λaf=>.br (!af.2) (.jn (af.1,2001)) (.loop (ik 12 [1,2,3,4] [0]) (.exit 0) (jk [] []) (λag=>let ah:=ac.getD (ag.toNat) qu;.jC (ag<(ac.length:Int)) (.gh ag ac.length<|.gh ag ac.length<|.cc (qzp aa ab (ah.Xk) (ah.Xu)) λai=>.gh ag ac.length<|.cc (izp j ai.1 (ah.Xn)) λaj=>.br (!aj) (.ff (ag,2002)) (.nn (qt.wrap (ag+1)))) (.oo .u))
 0 [] λ_=>.jn (0,0))))
def nz2:=
 mkq4 func131 nz3 (λr=>.tup [pz r.1,pz r.2])
def wzg (j:az7)(aa:A4)(ab:A4)(ac:az6)(ad:az6):T (az6×Bool):=let ae:=qt.wrap (ac.Xk-1);let af:=qt.wrap (ac.Xu.tdiv 2);let ag:=(⟨ae,af,ad.Xn⟩:az6);.cub 2 38 [1,2,5,8,9,10] [0,64,128,192,195] (.jD (ac.Xk !=ad.Xk) (.jF (ac.Xk<1) (.ok ((2:Int)≠0) jp<|.jD ((ac.Xu.tmod 2) !=0) (.oo (ad.Xu !=(qt.wrap (ac.Xu+1))))))) λah=>.br ah (.jn ((⟨0,0,nl⟩:az6),false)) (.ok ((2:Int)≠0) jp<|.cc (qzp aa ab ae af) λai=>.cub 1 66 [5,9,10,12,13,14] [0,128,192,195,960] (.jE ai.2 (.cc (izp j ai.1 ac.Xn) λaj=>.oo aj)) λaj=>.br aj (.jn ((⟨ae,af,ac.Xn⟩:az6),true)) (.br ai.2 (.cc (izp j ai.1 ad.Xn) λak=>.jn (ag,ak)) (.jn (ag,false))))
def wzf:=
 mkq5 func362 wzg (λr=>.tup [q r.1,q r.2])
def Azl (j:az7)(aa:A4)(ab:A4)(ac:An):T An:=
 .cc (nz2 j aa ab ac) λad=>.br (ad.2 !=0) (.jn ac) (.grd (ac.length * 40<=140737488355328/\ac.length<=maxLen)<|.loop (λs (ae:Ao)=>pk s [1,2,4,11] [0] [(12,pz ae.2)] [(960,vO ae.1 76)]) (.exit 0) (λs (ae:An)=>pk s [11] [] [] [(960,vO ae 76)]) (λae=>let af:=(ae.1.length:Int);let ag:=qt.wrap (ae.2+1);let ah:=qt.wrap (ae.2+2);let ai:=(ae.1.drop (ah.toNat)).take (af.toNat-ah.toNat);let aj:=(ae.1.drop (X3 (0:Int))).take ((ae.2).toNat- (0:Int).toNat);.jC (ag<af) (.gg ae.2 ae.1.length<|.gg ag ae.1.length<|.call (wzf j aa ab (ae.1.getD (X3 ae.2) qu) (ae.1.getD (ag.toNat) qu)) [] λak=>let al:=([ak.1]:An);let am:=aj++al;let an:=aj.length+al.length;let ao:=am.length+ai.length;
 .br (!ak.2) (.nn (ae.1,ag)) (.unroll 1<|.conv 10002 (Dz4 3 xzw ae.1 (0:Int) ae.2)<|.grd (0<=(0:Int)/\(0:Int)<=ae.2/\ae.2<=af)<|.grd (aj.length * 40<=140737488355328/\aj.length<=maxLen)<|.conv 11002 (kL al 76)<|.conv 11003 (kA aj al 76)<|.grd (an * 40<=140737488355328/\an<=maxLen)<|.unroll 1<|.conv 12004 (Dz4 3 xzw ae.1 ah af)<|.grd (0<=ah/\ah<=af/\af<=af)<|.conv 12005 (kA am ai 76)<|.grd (ao * 40<=140737488355328/\ao<=maxLen)<|.nn ((am++ai),0))) (.oo ae.1)) (ac,0) [] λae=>.jn ae)
def Lz1:=
 mkp4 func307 Azl
def Ezb (j:az7)(aa:A4)(ab:A4)(ac:Int):T (azp×Bool):=
 .cc (lzg j aa ab ac) λad=>.br (ad.Xo !=1) (.jn ((⟨nl,nl⟩:azp),false)) (.cc (Lz1 j aa ab ad.XC) λae=>.cc (kzb ae) λaf=>.jn (af,true))
def ozh:=
 mkq4 func259 Ezb (λr=>.tup [q r.1,q r.2])
def Azk (j:az7)(aa:A5)(ab:Int):T (bz6×Int×Int):=
 .cc (szi j aa) λac=>.br (ac.2 !=0) (.jn ((⟨nl,nl⟩:bz6),ac.1,ac.2)) (.loop (λs (ad:(A5×Aw×Int))=>pk s [1,2,3,6,11] [0,64,65,66,896] [(12,pz ad.2.2)] [(897,vO ad.1 39),(898,vO ad.2.1 251)]) (.exit 0) (λs (ad:(A5×Aw))=>pk s [6,11] [64,65,66,896] [] [(897,vO ad.1 39),(898,vO ad.2 251)]) (λad=>let ae:=aa.getD (X3 ad.2.2) qu;let af:=qt.wrap (ad.2.2-1);let ag:=([ae]:A5);let ah:=ad.1.length+ag.length;.jC (ad.2.2<(aa.length:Int)) (.cut 0 (λs (ai:Aw)=>pk s [1,2,3,6,11,12] [0,64,65,66] [] [(896,.box [.vec 1344,.vec 898]),(898,vO ai 251),(1344,vO (ad.1++ag) 39)]) (.gh ad.2.2 aa.length<|.grd (ae.length * 8<=140737488355328/\ae.length<=maxLen)<|.conv 8007 (kL ag 39)<|.conv 8008 (kA ad.1 ag 39)<|.grd (ah * 24<=140737488355328/\ah<=maxLen)<|.br (ad.2.2==0) (.oo ad.2.1) (.gh af aa.length<|.gh ad.2.2 aa.length<|.call (ozh j (aa.getD (af.toNat) qu) ae ab) [] λai=>let aj:=([ai.1]:Aw);let ak:=ad.2.1.length+aj.length;
 .br (!ai.2) (.ff (.fin ((⟨nl,nl⟩:bz6),af,2204))) (.conv 13003 (kL aj 251)<|.conv 13004 (kA ad.2.1 aj 251)<|.grd (ak * 48<=140737488355328/\ak<=maxLen)<|.oo (ad.2.1++aj)))) λai=>.nn ((ad.1++ag),ai,(qt.wrap (ad.2.2+1)))) (.oo (ad.1,ad.2.1))) (nl,nl,0) [] λad=>.jn ((⟨ad.1,ad.2⟩:bz6),0,0))
def Lz0:=
 mkq3 func199 Azk (λr=>.tup [q r.1,pz r.2.1,pz r.2.2])
def oz5 (j:az7)(aa:azd)(ab:dz2):T (bz6×Bool):=let ac:=(ab.Xy.length:Int);.cub 2 31 [3,4,5,6] [0,64,128,192,193,194] (.cc (oz3 aa) λad=>.jD (!ad) (.jF (ac<1) (.oo (qv (ac>256))))) λad=>.br ad (.jn ((⟨nl,nl⟩:bz6),false)) (.loop (λs (ae:(A5×Aw×Int))=>pk s [3,4,5,6,8] [0,64,128,192,193,194,384] [(9,pz ae.2.2)] [(385,vO ae.1 39),(386,vO ae.2.1 251)]) (.exit 0) (λs (ae:(A5×Aw))=>pk s [3,6,8] [0,192,193,194,384] [] [(385,vO ae.1 39),(386,vO ae.2 251)]) (λae=>let af:=qt.wrap (ae.2.2-1);let ag:=ab.Xy.getD (X3 ae.2.2) qu;let ah:=aa.Xa.getD (ag.toNat) qu;let ai:=([ah]:A5);let aj:=ae.1.length+ai.length;let ak:=ab.Xy.getD (af.toNat) qu;let al:=([ah,(aa.Xa.getD (ak.toNat) qu)]:A5);.jC (ae.2.2<ac) (.cut 0 (λs (am:Aw)=>pk s [3,4,5,6,8,9] [0,64,128,192,193,194] [] [(384,.box [.vec 896,.vec 386]),(386,vO am 251),(896,vO (ae.1++ai) 39)]) (.gh ae.2.2 ab.Xy.length<|.cub 1 53 [3,4,5,6,8,9,10] [0,64,128,192,193,194,384,385,386] (.jF (ag<0) (.oo (qv (ag>=(aa.Xa.length:Int))))) λam=>.br am (.ff (.fin ((⟨nl,nl⟩:bz6),false))) (.gh ag aa.Xa.length<|.conv 10007 (kL ai 39)<|.conv 10008 (kA ae.1 ai 39)<|.grd (aj * 24<=140737488355328/\aj<=maxLen)<|.br (ae.2.2==0) (.oo ae.2.1) (.gh af ab.Xy.length<|.call (hzh (⟨aa.Xa,aa.Xb⟩:azd) ak ag) [] λan=>let ao:=aa.Xb.getD (an.toNat) qu;
 .cub 1 87 [3,4,5,6,8,9,10,11,12] [0,64,128,192,193,194,384,386,1856] (.jF (an<0) (.gh an aa.Xb.length<|.oo ((ao.Xx) !=1))) λap=>.br ap (.ff (.fin ((⟨nl,nl⟩:bz6),false))) (.gh an aa.Xb.length<|.cc (kzb (ao.XJ.XC)) λaq=>let ar:=([aq]:Aw);
 .cut 0 (λs (au:(Bi×Av))=>pk s [3,4,5,6,8,9,13] [0,64,128,192,193,194,384,386,1856] [] [(3520,.box [q au.1,q au.2])]) (.jC (ak>ag) (.gh ag aa.Xa.length<|.gh ak aa.Xa.length<|.conv 18010 (kL al 39)<|.conv 18012 (kL ar 251)<|.call (Ezd (⟨al,ar⟩:bz6)) [] λau=>let av:=au.Xb.getD (X3 (0:Int)) qu;
 .gh (0:Int) au.Xb.length<|.oo (av.XB,av.XH)) (.oo (aq.XB,aq.XH))) λau=>let av:=([(⟨au.1,au.2⟩:azp)]:Aw);let aw:=ae.2.1.length+av.length;
 .conv 19003 (kL av 251)<|.conv 19004 (kA ae.2.1 av 251)<|.grd (aw * 48<=140737488355328/\aw<=maxLen)<|.oo (ae.2.1++av))))) λam=>.nn ((ae.1++ai),am,(qt.wrap (ae.2.2+1)))) (.oo (ae.1,ae.2.1))) (nl,nl,0) [] λae=>let af:=ae.1.getD (X3 (0:Int)) qu;let ag:=([af,af]:A5);
 .br ((ae.1.length:Int)==1) (.gg (0:Int) ae.1.length<|.gg (0:Int) ae.1.length<|.conv 21009 (kL ag 39)<|.cc (Lz0 j ag 0) λah=>.jn (ah.1,(ah.2.2==0))) (.jn ((⟨ae.1,ae.2⟩:bz6),true)))
def wzt:=
 mkq3 func128 oz5 (λr=>.tup [q r.1,q r.2])
def xz1 (j:az7)(aa:A4)(ab:A4)(ac:cz3):T Bs:=let ad:=(⟨j.Xg,j.Xe,j.Xs⟩:az7);.cub 2 38 [1,2,4,7,8] [0,64,128,129,130] (.cc (cze j) λae=>.jD (ae !=0) (.cc (dzc j.Xg aa) λaf=>.jD (!af) (.cc (dzc j.Xg ab) λag=>.jD (!ag) (.cc (oz7 ac) λah=>.oo (!ah))))) λae=>.br ae (.jn ((⟨nl,nl⟩:bz6),0,false)) (.cc (tz2 ad aa ab (⟨ac.XI,ac.XK,ac.Xk,ac.XN⟩:cz3)) λaf=>.cc (nz7 af.Xa ab) λag=>.cc (Ozn ad (⟨af.Xa,af.Xb⟩:azd) 0 ag ac.Xk ac.XN) λah=>.br (ah.2.2.1 !=1) (.jn ((⟨nl,nl⟩:bz6),ah.2.2.2,false)) (.cc (wzt j (⟨ah.1.Xa,ah.1.Xb⟩:azd) ah.2.1) λai=>.jn (ai.1,ah.2.2.2,ai.2)))
def xz0:=
 mkq4 func71 xz1 (λr=>.tup [q r.1,pz r.2.1,q r.2.2])
def tz5 (j:az2)(aa:azk)(ab:A4)(ac:A9)(ad:cz3):T (Ax×tzv×Bool):=let ae:=(⟨j.Xl,j.Xd,j.Xh,j.Xj,j.Xi,j.Xq⟩:az2);.loop (λs (af:(A4×A4×Ax×Int))=>pk s [3,5,6,9,11,13] [0,128,256,257] [(2,q af.1),(14,pz af.2.2.2)] [(64,.box [q af.2.1]),(384,vO af.2.2.1 68)]) (.exit 0) (λs (af:Ax)=>pk s [11,13] [256,257] [] [(384,vO af 68)]) (λaf=>let ag:=(⟨af.2.1⟩:azk);let ah:=ac.getD (X3 af.2.2.2) qu;.jC (af.2.2.2<(ac.length:Int)) (.cc (dzu ae ag) λai=>.loop (λs (aj:(A4×Ax×Bool×Int))=>pk s [3,5,6,9,11,13,14,15] [0,64,128,256,257,1216] [(2,q aj.1),(17,q aj.2.2.1),(18,pz aj.2.2.2)] [(384,vO aj.2.1 68)]) (.exit 2) (λs (aj:(A4×Ax×Bool))=>pk s [3,5,6,9,11,13,14] [0,64,128,256,257] [(2,q aj.1),(17,q aj.2.2)] [(384,vO aj.2.1 68)]) (λaj=>let ak:=j.Xi.getD (X3 aj.2.2.2) qu;.cub 1 42 [2,3,5,6,9,11,13,14,15,17,18] [0,64,128,256,257,384,1216] (.jC (aj.2.2.2<(j.Xi.length:Int)) (.oo (!aj.2.2.1)) (.oo false)) λal=>.br al (.cut 0 (λs (am:(A4×Ax×Bool))=>pk s [3,5,6,9,11,13,14,15,18] [0,64,128,256,257,1216] [(2,q am.1),(17,q am.2.2)] [(384,vO am.2.1 68)]) (.gh af.2.2.2 ac.length<|.cc (Bz5 ae ag ah aj.2.2.2) λam=>.br (!am) (.oo (aj.1,aj.2.1,aj.2.2.1)) (.gh aj.2.2.2 j.Xi.length<|.cc (xz0 ai.1 aj.1 (ak.At) (⟨ad.XI,ad.XK,ad.Xk,ad.XN⟩:cz3)) λan=>let ao:=([(⟨ah,aj.2.2.2,an.1⟩:az9)]:Ax);let ap:=aj.2.1.length+ao.length;
 .br an.2.2 (.gh af.2.2.2 ac.length<|.conv 13008 (kL ao 68)<|.conv 13009 (kA aj.2.1 ao 68)<|.grd (ap * 80<=140737488355328/\ap<=maxLen)<|.gh aj.2.2.2 j.Xi.length<|.oo (ak.At,(aj.2.1++ao),true)) (.oo (aj.1,aj.2.1,aj.2.2.1)))) λam=>.nn (am.1,am.2.1,am.2.2,(qt.wrap (aj.2.2.2+1)))) (.oo (aj.1,aj.2.1,aj.2.2.1))) (af.1,af.2.2.1,false,0) [] λaj=>.br (!aj.2.2) (.gh af.2.2.2 ac.length<|.ff (nl,(⟨ag,ah⟩:tzv),false)) (.gh af.2.2.2 ac.length<|.cc (fz1 ae ag ah) λak=>.nn (aj.1,ak.1.Xf,aj.2.1,(qt.wrap (af.2.2.2+1))))) (.oo af.2.2.1)) (ab,aa.Xf,nl,0) [] λaf=>.jn (af,(⟨(⟨nl⟩:azk),(⟨0,0,0⟩:aza)⟩:tzv),true)
def tz4:=
 mkq5 func37 tz5 (λr=>.tup [q r.1,q r.2.1,q r.2.2])
def pzq (j:az2)(aa:azk)(ab:A4)(ac:A4)(ad:cz3)(ae:Int):T (Ax×Int):=let af:=(⟨aa.Xf⟩:azk);let ag:=(⟨j.Xl,j.Xd,j.Xh,j.Xj,j.Xi,j.Xq⟩:az2);.cub 2 53 [2,3,5,6,7,10] [0,64,128] (.cc (czc ag af) λah=>.jD (!ah) (.cc (dzc j.Xl.Xg ab) λai=>.jD (!ai) (.jD ((ac.length:Int) !=(j.Xd.length:Int)) (.jF (ae<1) (.jF (ae>64) (.cc (oz7 ad) λaj=>.oo (!aj))))))) λah=>.br ah (.jn (nl,0)) (.loop (λs (ai:(Ab×Int))=>pk s [2,3,5,6,7,10,14] [0,64,128] [(15,pz ai.2)] [(384,vS ai.1 122)]) (.exit 0) (jk [] []) (λai=>.jC (ai.2<ae) (.cc (nzd ag af ac 16 ai.1) λaj=>.br (!aj.2) (.ff (nl,2)) (.cc (tz4 ag af ab aj.1 (⟨ad.XI,ad.XK,ad.Xk,ad.XN⟩:cz3)) λak=>let al:=([ak.2.1]:Ab);let am:=ai.1.length+al.length;
 .br ak.2.2 (.ff (ak.1,1)) (.conv 13002 (kL al 122)<|.conv 13003 (azb3 4 azb9 ai.1 al 122)<|.grd (am * 48<=140737488355328/\am<=maxLen)<|.nn ((ai.1++al),(qt.wrap (ai.2+1)))))) (.oo .u)) (nl,0) [] λ_=>.jn (nl,4))
def pzp:=
 mkq6 func12 pzq (λr=>.tup [q r.1,pz r.2])
def wze (j:azp):T (An×Bool):=
 .loop (λs (aa:Ao)=>pk s [1,4] [0] [(5,pz aa.2)] [(192,vO aa.1 76)]) (.exit 0) (λs (aa:An)=>pk s [4] [] [] [(192,vO aa 76)]) (λaa=>let ab:=j.XH.getD (X3 aa.2) qu;let ac:=ab.Xr.length;.jC (aa.2<(j.XH.length:Int)) (.gh aa.2 j.XH.length<|.loop (λs (ad:Bj)=>pk s [1,4,5,6,7] [0,192,1024,1472] [(8,pz ad.2)] [(1410,vO ad.1 89)]) (.exit 2) (λs (ad:Bi)=>pk s [1,4,5,7] [0,192,1472] [] [(1410,vO ad 89)]) (λad=>let ae:=(ab.Xr).getD (X3 ad.2) qu;let af:=([(j.XB.getD (ae.toNat) qu)]:Bi);let ag:=ad.1.length+af.length;.jC (ad.2<(ab.Xr.length:Int)) (.cub 2 49 [1,4,5,6,7,8] [0,192,1024,1410,1472] (.gh ad.2 ac<|.jF (ae<0) (.gh ad.2 ac<|.oo (qv (ae>=(j.XB.length:Int))))) λah=>.br ah (.ff (.fin (nl,false))) (.gh ad.2 ac<|.gh ae j.XB.length<|.conv 12011 (kL af 89)<|.conv 12012 (kA ad.1 af 89)<|.grd (ag * 24<=140737488355328/\ag<=maxLen)<|.nn ((ad.1++af),(qt.wrap (ad.2+1))))) (.oo ad.1)) (nl,0) [] λad=>let ae:=([(⟨ab.Xk,ab.Xu,ad⟩:az6)]:An);let af:=aa.1.length+ae.length;
 .conv 13002 (kL ae 76)<|.conv 13003 (kA aa.1 ae 76)<|.grd (af * 40<=140737488355328/\af<=maxLen)<|.nn ((aa.1++ae),(qt.wrap (aa.2+1)))) (.oo aa.1)) (nl,0) [] λaa=>.jn (aa,true)
def jz9:=
 mkq1 func130 wze (λr=>.tup [q r.1,q r.2])
def nz5 (j:az7)(aa:bz6):T B2:=let ab:=(aa.Xb.length:Int);.cc (szi j aa.Xa) λac=>.br (ac.2 !=0) (.jn (ac.1,ac.2)) (.br (ab !=(qt.wrap ((aa.Xa.length:Int)-1))) (.jn (0,2202)) (.loop (ik 8 [2,3] [0,64]) (.exit 0) (jk [] []) (λad=>let ae:=qt.wrap (ad+1);.jC (ad<ab) (.gh ad aa.Xb.length<|.cc (jz9 (aa.Xb.getD (ad.toNat) qu)) λaf=>.br (!af.2) (.ff (ad,2203)) (.gh ad aa.Xa.length<|.gh ae aa.Xa.length<|.call (nz2 (⟨j.Xg,j.Xe,j.Xs⟩:az7) (aa.Xa.getD (ad.toNat) qu) (aa.Xa.getD (ae.toNat) qu) af.1) [] λag=>.br (ag.2 !=0) (.ff (ad,ag.2)) (.nn ae))) (.oo .u))
 0 [] λ_=>.jn (0,0)))
def nz4:=
 mkq2 func73 nz5 (λr=>.tup [pz r.1,pz r.2])
def Bz4 (j:bz6)(aa:A4)(ab:A4):T Bool:=let ac:=(j.Xa.length:Int);let ad:=qt.wrap (ac-1);.jC (ac>0) (.gh (0:Int) j.Xa.length<|.cc (fzg (j.Xa.getD (X3 (0:Int)) qu) aa) λae=>.br ae (.gh ad j.Xa.length<|.call (fzg (j.Xa.getD (ad.toNat) qu) ab) [] λaf=>.jn af) (.jn false)) (.jn false)
def Bz3:=
 mkp3 func74 Bz4
def tz1 (j:az2)(aa:azk)(ab:A4):T Bool:=
 .cc (czc j aa) λac=>.br ac (.br ((ab.length:Int)==(j.Xd.length:Int)) (.cc (Bz8 aa ab) λad=>.jn ad) (.jn false)) (.jn false)
def tz0:=
 mkp3 func75 tz1
def nzc (j:az2)(aa:azk)(ab:A4)(ac:A4)(ad:Ax):T B2:=let ae:=(ad.length:Int);let af:=(⟨j.Xl,j.Xd,j.Xh,j.Xj,j.Xi,j.Xq⟩:az2);.cc (fzb j) λag=>.br (ag !=0) (.jn (0,ag)) (.cc (czc j aa) λah=>.br (!ah) (.jn (0,3403)) (.cub 1 43 [2,3,4,5,6] [0,64] (.cc (dzc j.Xl.Xg ab) λai=>.jD (!ai) (.oo ((ac.length:Int) !=(j.Xd.length:Int)))) λai=>.br ai (.jn (0,4501)) (.loop (λs (aj:Bf)=>pk s [3,4,5,6] [0] [(2,q aj.1),(13,pz aj.2.2)] [(64,.box [q aj.2.1])]) (.exit 0) (λs (aj:A4)=>pk s [3,4,5,6] [0] [] [(64,.box [q aj])]) (λaj=>let ak:=(⟨aj.2.1⟩:azk);let al:=ad.getD (X3 aj.2.2) qu;let am:=al.XF;let an:=al.Xm.Xt;let ao:=al.Xm.Place;let ap:=j.Xi.getD (am.toNat) qu;.jC (aj.2.2<ae) (.gh aj.2.2 ad.length<|.cc (fz1 af ak (al.Xm)) λaq=>.cub 1 120 [2,3,4,5,6,13,14,15] [0,64,1536,2176] (.jD (!aq.2) (.jF (am<0) (.jF (am>=(j.Xi.length:Int)) (.gh am j.Xi.length<|.jD ((ap.Xt) !=an) (.gh am j.Xi.length<|.jD ((ap.Place) !=ao) (.gh am j.Xi.length<|.call (fz6 af an ao (ap.At)) [] λar=>.oo (!ar))))))) λar=>.br ar (.ff (aj.2.2,3901)) (.cc (dzu af ak) λau=>.cc (nz4 au.1 (al.Path)) λav=>.cub 0 150 [3,4,5,6,13,14,15] [0,64,1536,2176] (.jD (av.2 !=0) (.gh am j.Xi.length<|.call (Bz3 (al.Path) aj.1 (ap.At)) [] λaw=>.oo (!aw))) λaw=>.br aw (.ff (aj.2.2,4401)) (.gh am j.Xi.length<|.nn (ap.At,aq.1.Xf,(qt.wrap (aj.2.2+1)))))) (.oo aj.2.1)) (ab,aa.Xf,0) [] λaj=>.cc (tz0 j (⟨aj⟩:azk) ac) λak=>.br (!ak) (.jn (ae,3902)) (.jn (ae,0)))))
def nzb:=
 mkq5 func38 nzc (λr=>.tup [pz r.1,pz r.2])
def vzv (j:az2)(aa:azk)(ab:A4)(ac:A4)(ad:Ax):T Bool:=
 .cc (fzr j aa ab ac ad) λae=>.cc (nzb j aa ab ac ad) λaf=>.br (ae.1==af.1) (.jn (ae.2==af.2)) (.jn false)
def fzz:=
 mkp5 func14 vzv
def sz6 (j:Ax)(aa:Int)(ab:Int)(ac:Int):T Ax:=let ad:=(j.length:Int);let ae:=czi ac ad;.grd (j.length * 80<=140737488355328/\j.length<=maxLen)<|.br (ad==0) (.jn j) (.cc (czi ab ad) λaf=>let ag:=af.toNat;let ah:=j.getD ag qu;
 .cut 0 (λs (ai:Ax)=>pk s [9] [] [] [(128,vO ai 68)]) (.cc (czi aa 6) λai=>.br (ai==0) (.cc (czi ac 6) λaj=>let ak:=(⟨(⟨ah.Xm.Xo,ah.Xm.Xt,(qt.wrap (aj-1))⟩:aza),ah.XF,ah.Path⟩:az9);
 .gh af j.length<|.conv 8008 (kS j 68 ag ak)<|.gi (af) j.length<|.oo (j.set ag ak)) (.br (ai==1) (.cc (czi ac 4) λaj=>let ak:=(⟨(⟨aj,ah.Xm.Xt,ah.Xm.Place⟩:aza),ah.XF,ah.Path⟩:az9);
 .gh af j.length<|.conv 10007 (kS j 68 ag ak)<|.gi (af) j.length<|.oo (j.set ag ak)) (.br (ai==2) (.cc (czi ac 9) λaj=>let ak:=(⟨ah.Xm,(qt.wrap (aj-1)),ah.Path⟩:az9);
 .gh af j.length<|.conv 12007 (kS j 68 ag ak)<|.gi (af) j.length<|.oo (j.set ag ak)) (.br (ai==3) (.cc ae λaj=>let ak:=(⟨ah.Xm,ah.XF,(j.getD (aj.toNat) qu).Path⟩:az9);
 .gg aj j.length<|.gh af j.length<|.conv 14012 (kS j 68 ag ak)<|.gi (af) j.length<|.oo (j.set ag ak)) (.br (ai==4) (.cc ae λaj=>.cc ae λak=>let al:=j.getD (ak.toNat) qu;let am:=j.set ag al;
 .gg ak j.length<|.gg af j.length<|.gh af j.length<|.conv 16019 (kS j 68 ag al)<|.gi (af) j.length<|.gh aj (am.length)<|.conv 16021 (kS am 68 (aj.toNat) ah)<|.gi (aj) (am.length)<|.oo (am.set (aj.toNat) ah)) (.conv 6002 (az0y 6 bzd j 68 af)<|.grd (0<=af/\af<=ad/\0<=af.toNat)<|.oo (j.take ag))))))) λai=>.jn ai)
def sz5:=
 mkp4 func15 sz6
def hzk (j:az2)(aa:azk)(ab:A4)(ac:A4)(ad:Ax)(ae:A4)(af:A4)(ag:A4)(ah:A4)(ai:Int)(aj:Int)(ak:Int):T Bool:=
 .cub 2 54 [2,3,4,5,6,7,8,9,10,11,12,13] [0,64] (.cc (Kz6 j) λal=>.jD (!al) (.jF ((aa.Xf.length:Int)>20) (.jF ((ac.length:Int)>20) (.jF ((ab.length:Int)>20) (.oo (qv ((ad.length:Int)>10))))))) λal=>.br al (.cc (law39_awake_C) λam=>.jn am) (.cc (Cz1 ae) λam=>let an:=(⟨am.Xl,am.Xd,am.Xh,am.Xj,am.Xi,am.Xq⟩:az2);
 .cc (Sz2 an af) λao=>let ap:=(⟨ao.Xf⟩:azk);
 .cc (zzu am.Xl.Xg ah) λaq=>.cc (uzi an ag) λar=>.cc (hze 1 9) λau=>.cc (pzp an ap aq ar au 3) λav=>.cc (law39_awake_C) λaw=>.br aw (.cc (fzz j aa ab ac ad) λax=>.br ax (.cc (fzz an ap aq ar av.1) λay=>.br ay (.cc (sz5 av.1 ai aj ak) λaz=>.cc (fzz an ap aq ar az) λa0=>.br a0 (.cc (fzz an ap ab ar av.1) λa1=>.br a1 (.cc (fzz an (⟨aa.Xf⟩:azk) aq ac ad) λa2=>.br a2 (.cc (uzi an ah) λa3=>.cc (fzz an ap aq a3 av.1) λa4=>.jn a4) (.jn false)) (.jn false)) (.jn false)) (.jn false)) (.jn false)) (.jn false))
def czk (j)(aa)(ab)(ac)(ad)(ae)(af)(ag)(ah)(ai)(aj)(ak):=
 mkD func3 (hzk j aa ab ac ad ae af ag ah ai aj ak) 0 [q j,q aa,q ab,q ac,q ad,q ae,q af,q ag,q ah,pz ai,pz aj,pz ak] [] (λr=>q r) X6
open Go.Proofs
end Go.Abs
