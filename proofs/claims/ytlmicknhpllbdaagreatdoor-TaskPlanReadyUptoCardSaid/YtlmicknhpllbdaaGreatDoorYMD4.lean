/-
  D4 (a part of a claim: our own text).
-/
import Derived.Test.YtlmicknhpllbdaaGreatDoorYMD3
namespace Go.Abs
set_option maxHeartbeats 8000000
set_option maxRecDepth 20000
open IntKind (i64)
open Go.Proofs
noncomputable def Wzj (k:azc)(aa:azu)(ab:qzw):T (czr×Bool):=let ac:=(ab.Vertices.length:Int);let ad:=(⟨aa.Points,aa.Edges⟩:azu);let ae:=(ab.Vertices.drop ((1:Int).toNat)).take (ac.toNat- (1:Int).toNat);.cub 4 33 [3,4,5,6,7,8] [0,64,128,192,193,194,256]
 (.br (decide (ac<1))
 (.oo true)
 (.br (decide (ac>256))
 (.oo true)
 (.cc (sz4 ad) fun af=>
 .oo (!af)))) fun af=>
 .br af
 (.ret ((⟨nl,nl⟩:czr),false))
 (.loop (fun s (ag:Aq)=>pk s [3,4,5,6,7,8,36,37] [0,64,128,192,194,256] [(38,pz ag.2)] [(193,vO ag.1 30)])
 (.exit 0) (fun s (ag:A5)=>pk s [3,4,5,6,7,8] [0,64,128,192,194,256] [] [(193,vO ag 30)])
 (fun ag=>let ah:=ab.Vertices.getD ((ag.2).toNat) default;.br (decide (ag.2<ac))
 (.gh ag.2 ab.Vertices.length<|
 .cc (gzt ad ah) fun ai=>
 .br (!ai)
 (.ff ((⟨nl,nl⟩:czr),false))
 (.gh ah aa.Points.length<|
 .call (bzp (aa.Points.getD (ah.toNat) default)) [] fun aj=>let ak:=([aj]:A5);let al:=ag.1.length+ak.length;
 .conv 10008 (kL ak 30)<|
 .conv 10009 (kA ag.1 ak 30)<|
 .grd (al * 24≤140737488355328/\al≤maxLen)<|
 .nn ((ag.1++ak),(i64.wrap (ag.2+1)))))
 (.oo ag.1))
 (nl,0) [] fun ag=>let ah:=ag.getD ((0:Int).toNat) default;let ai:=([ah,ah]:A5);
 .br (ac==1)
 (.gg (0:Int) ag.length<|
 .gg (0:Int) ag.length<|
 .conv 13009 (kL ai 30)<|
 .cc (Yzn (⟨k.Robot,k.Shapes,k.Skips⟩:azc) ai 0) fun aj=>
 .ret (aj.1,(aj.2.2==0)))
 (.conv 15002 (Ezu 1 azs ab.Vertices (1:Int) ac)<|
 .grd (0≤(1:Int)/\(1:Int)≤ac/\ac≤ac)<|
 .name 15003 ((ae.length:Int)) fun aj=>
 .loop (fun s (ak:Ay)=>pk s [4,5,6,7,81,82] [64,128,192,193,256] [(83,pz ak.2)] [(194,vO ak.1 207)])
 (.exit 2) (fun s (ak:Ax)=>pk s [6,7] [192,193,256] [] [(194,vO ak 207)])
 (fun ak=>let al:=(ak.2).toNat;let am:=ab.Vertices.getD al default;.br (decide (ak.2<aj))
 (.gh ak.2 (ae.length)<|
 .name 17002 ((ae.getD al default)) fun an=>
 .gh ak.2 ab.Vertices.length<|
 .cc (zzj ad am an) fun ao=>
 .cub 1 110 [4,5,6,7,16,17,81,82,83] [64,128,192,193,194,256]
 (.br (!ao.2)
 (.oo true)
 (.gh ao.1 aa.Edges.length<|
 .oo (((aa.Edges.getD ((ao.1).toNat) default).State) !=1))) fun ap=>
 .br ap
 (.ff ((⟨nl,nl⟩:czr),false))
 (.cc (Szp ad ao.1 am) fun aq=>let ar:=([aq]:Ax);let au:=ak.1.length+ar.length;
 .conv 22006 (kL ar 207)<|
 .conv 22007 (kA ak.1 ar 207)<|
 .grd (au * 48≤140737488355328/\au≤maxLen)<|
 .nn ((ak.1++ar),(i64.wrap (ak.2+1)))))
 (.oo ak.1))
 (nl,0) [] fun ak=>
 .ret ((⟨ag,ak⟩:czr),true)))
noncomputable def Wzi (k)(aa)(ab):=
 mkC [⟨173,az93⟩] hd Tryz.func95 (by kernel_rfl) (Wzj k aa ab) 0 [q k,q aa,q ab] [] (fun r=>.tup [q r.1,q r.2]) (fun _=>[]) (by kernel_rfl)
noncomputable def Kzs (k:azc)(aa:A4)(ab:A4)(ac:hze):T (czr×Int×Bool):=let ad:=([aa,ab]:A5);let ae:=(⟨k.Robot,k.Shapes,k.Skips⟩:azc);.cub 2 42 [1,2,4,7,8] [0,64,128,129,130]
 (.cc (ez1 k) fun af=>
 .br (af !=0)
 (.oo true)
 (.cc (bzk k.Robot aa) fun ag=>
 .br (!ag)
 (.oo true)
 (.cc (bzk k.Robot ab) fun ah=>
 .br (!ah)
 (.oo true)
 (.cc (gzn ac) fun ai=>
 .oo (!ai))))) fun af=>
 .br af
 (.ret ((⟨nl,nl⟩:czr),0,false))
 (.conv 3002 (kL ad 30)<|
 .cc (Oz4 k.Robot) fun ag=>
 .loop (fun s (ah:Aq)=>pk s [1,2,4,7,8,11,12,51] [0,64,128,129,130] [(52,pz ah.2)] [(512,vO ah.1 30)])
 (.exit 0) (fun s (ah:A5)=>pk s [1,2,4,7,8,11] [0,64,128,129,130] [] [(512,vO ah 30)])
 (fun ah=>.br (decide (ah.2<ac.Samples))
 (.cc (Mzy ag (IntKind.u64.wrap ((IntKind.u64.wrap ah.2)+1))) fun ai=>let aj:=([ai]:A5);let ak:=ah.1.length+aj.length;
 .conv 8006 (kL aj 30)<|
 .conv 8007 (kA ah.1 aj 30)<|
 .grd (ak * 24≤140737488355328/\ak≤maxLen)<|
 .nn ((ah.1++aj),(i64.wrap (ah.2+1))))
 (.oo ah.1))
 (ad,0) [] fun ah=>
 .cut 1 (fun s (ai:Int)=>pk s [4,7,8,11] [0,64,128,129,130,512] [(14,pz ai)] [])
 (.cc (fza aa ab) fun ai=>
 .br ai
 (.oo 0)
 (.oo 1)) fun ai=>
 .cc (Wz4 k.Robot ah ac.Degree) fun aj=>
 .cc (Wze ae aj 0 ai ac.Depth ac.Tests) fun ak=>
 .br (ak.2.2.1 !=1)
 (.ret ((⟨nl,nl⟩:czr),ak.2.2.2,false))
 (.cc (Wzi ae (⟨ak.1.Points,ak.1.Edges⟩:azu) (⟨ak.2.1.Vertices,ak.2.1.Cost⟩:qzw)) fun al=>
 .br (!al.2)
 (.ret ((⟨nl,nl⟩:czr),ak.2.2.2,false))
 (.ret (al.1,ak.2.2.2,true))))
noncomputable def Kzr:=
 mkq4 Tryz.func45 Kzs (fun r=>.tup [q r.1,pz r.2.1,q r.2.2])
noncomputable def Ozm (k:Int)(aa:A0)(ab:A8)(ac:A2)(ad:Ad)(ae:A3)(af:Bk)(ag:A1)(ah:A7)(ai:Int)(aj:Int)(ak:Int)(al:Int)(am:Int)(_a14:B7)(an:A4)(ao:Int)(ap:Int)(aq:Int)(ar:A0)(au:A8)(av:A2)(aw:Ad)(ax:A4):T (azf×Bool×A0×A8×A2×Ad×A3×Bk×A1×A7×Int×Int×Int×Int×Int×A4×Int×Int×Int×A0×A8×A2×Ad×A4):=let ay:=(⟨ao,ap,aq⟩:az6);.cc (czn (⟨(⟨(⟨aa,ab⟩:azn),ac,ad⟩:azc),ae,af,ag,ah,ai⟩:az1) (⟨an⟩:azg) ay k) fun az=>
 .br (!az)
 (.ret ((⟨(⟨0,0,0⟩:az6),0,(⟨nl,nl⟩:czr)⟩:azf),false,aa,ab,ac,ad,ae,af,ag,ah,ai,aj,ak,al,am,an,ao,ap,aq,ar,au,av,aw,ax))
 (.gh k ah.length<|
 .cc (Kzr (⟨(⟨ar,au⟩:azn),av,aw⟩:azc) ax ((ah.getD (k.toNat) default).At) (⟨aj,ak,al,am⟩:hze)) fun a0=>
 .ret ((⟨ay,k,a0.1⟩:azf),a0.2.2,aa,ab,ac,ad,ae,af,ag,ah,ai,aj,ak,al,am,an,ao,ap,aq,ar,au,av,aw,ax))
noncomputable def Ozl (k)(aa)(ab)(ac)(ad)(ae)(af)(ag)(ah)(ai)(aj)(ak)(al)(am)(an)(ao)(ap)(aq)(ar)(au)(av)(aw)(ax)(ay):=
 mkD Tryz.func224 (Ozm k aa ab ac ad ae af ag ah ai aj ak al am an ao ap aq ar au av aw ax ay) 6 [pz k,.ptr 0 0,.ptr 2 0,.ptr 3 0,.ptr 4 0,.ptr 5 0] [(0,.box [q aa,q ab,q ac,q ad,q ae,q af,q ag,q ah,pz ai,pz aj,pz ak,pz al,pz am,.map 1]),(1,mapG [.int .i64 0,.int .i64 0,.int .i64 0,.int .i64 0,.int .i64 0,.int .i64 0,.int .i64 0,.int .i64 0,.int .i64 0,.int .i64 0] az2 bze an),(2,.box [q ao]),(3,.box [pz ap,pz aq,pz ar]),(4,.box [q au,q av,q aw,q ax]),(5,.box [q ay])] (fun r=>.tup [q r.1,q r.2.1]) (fun r=>[(0,.box [q r.2.2.1,q r.2.2.2.1,q r.2.2.2.2.1,q r.2.2.2.2.2.1,q r.2.2.2.2.2.2.1,q r.2.2.2.2.2.2.2.1,q r.2.2.2.2.2.2.2.2.1,q r.2.2.2.2.2.2.2.2.2.1,pz r.2.2.2.2.2.2.2.2.2.2.1,pz r.2.2.2.2.2.2.2.2.2.2.2.1,pz r.2.2.2.2.2.2.2.2.2.2.2.2.1,pz r.2.2.2.2.2.2.2.2.2.2.2.2.2.1,pz r.2.2.2.2.2.2.2.2.2.2.2.2.2.2.1,.map 1]),(1,mapG [.int .i64 0,.int .i64 0,.int .i64 0,.int .i64 0,.int .i64 0,.int .i64 0,.int .i64 0,.int .i64 0,.int .i64 0,.int .i64 0] az2 bze an),(2,.box [q r.2.2.2.2.2.2.2.2.2.2.2.2.2.2.2.1]),(3,.box [pz r.2.2.2.2.2.2.2.2.2.2.2.2.2.2.2.2.1,pz r.2.2.2.2.2.2.2.2.2.2.2.2.2.2.2.2.2.1,pz r.2.2.2.2.2.2.2.2.2.2.2.2.2.2.2.2.2.2.1]),(4,.box [q r.2.2.2.2.2.2.2.2.2.2.2.2.2.2.2.2.2.2.2.1,q r.2.2.2.2.2.2.2.2.2.2.2.2.2.2.2.2.2.2.2.2.1,q r.2.2.2.2.2.2.2.2.2.2.2.2.2.2.2.2.2.2.2.2.2.1,q r.2.2.2.2.2.2.2.2.2.2.2.2.2.2.2.2.2.2.2.2.2.2.1]),(5,.box [q r.2.2.2.2.2.2.2.2.2.2.2.2.2.2.2.2.2.2.2.2.2.2.2])])
noncomputable def Vz0 (k:A0)(aa:A8)(ab:A2)(ac:Ad)(ad:A3)(ae:Bk)(af:A1)(ag:A7)(ah:Int)(ai:Int)(aj:Int)(ak:Int)(al:Int)(am:B7)(an:azg)(ao:A4)(ap:az6):T (azf×Bool):=
 .cc (qz5 (⟨(⟨(⟨k,aa⟩:azn),ab,ac⟩:azc),ad,ae,af,ag,ah⟩:az1) an) fun aq=>
 .br (aq.2 !=0)
 (.ret ((⟨(⟨0,0,0⟩:az6),0,(⟨nl,nl⟩:czr)⟩:azf),false))
 (.loop (fun s (ar:(A0×A8×A2×Ad×A3×Bk×A1×A7×Int×Int×Int×Int×Int×A4×Int×Int×Int×A0×A8×A2×Ad×A4×Int))=>pk s [8,12,30] [0,257,262,263] [(31,pz ar.2.2.2.2.2.2.2.2.2.2.2.2.2.2.2.2.2.2.2.2.2.2)] [(1,.box [q ar.1,q ar.2.1,q ar.2.2.1,q ar.2.2.2.1,q ar.2.2.2.2.1,q ar.2.2.2.2.2.1,q ar.2.2.2.2.2.2.1,q ar.2.2.2.2.2.2.2.1,pz ar.2.2.2.2.2.2.2.2.1,pz ar.2.2.2.2.2.2.2.2.2.1,pz ar.2.2.2.2.2.2.2.2.2.2.1,pz ar.2.2.2.2.2.2.2.2.2.2.2.1,pz ar.2.2.2.2.2.2.2.2.2.2.2.2.1,.map 0]),(65,.box [q ar.2.2.2.2.2.2.2.2.2.2.2.2.2.1]),(129,.box [q ar.2.2.2.2.2.2.2.2.2.2.2.2.2.2.2.2.2.2.2.2.2.1]),(193,.box [pz ar.2.2.2.2.2.2.2.2.2.2.2.2.2.2.1,pz ar.2.2.2.2.2.2.2.2.2.2.2.2.2.2.2.1,pz ar.2.2.2.2.2.2.2.2.2.2.2.2.2.2.2.2.1]),(833,.box [q ar.2.2.2.2.2.2.2.2.2.2.2.2.2.2.2.2.2.1,q ar.2.2.2.2.2.2.2.2.2.2.2.2.2.2.2.2.2.2.1,q ar.2.2.2.2.2.2.2.2.2.2.2.2.2.2.2.2.2.2.2.1,q ar.2.2.2.2.2.2.2.2.2.2.2.2.2.2.2.2.2.2.2.2.1])])
 (.exit 0) (jk [8] [0,257,262,263])
 (fun ar=>.br (decide (ar.2.2.2.2.2.2.2.2.2.2.2.2.2.2.2.2.2.2.2.2.2.2<(ag.length:Int)))
 (.call (Ozl ar.2.2.2.2.2.2.2.2.2.2.2.2.2.2.2.2.2.2.2.2.2.2 ar.1 ar.2.1 ar.2.2.1 ar.2.2.2.1 ar.2.2.2.2.1 ar.2.2.2.2.2.1 ar.2.2.2.2.2.2.1 ar.2.2.2.2.2.2.2.1 ar.2.2.2.2.2.2.2.2.1 ar.2.2.2.2.2.2.2.2.2.1 ar.2.2.2.2.2.2.2.2.2.2.1 ar.2.2.2.2.2.2.2.2.2.2.2.1 ar.2.2.2.2.2.2.2.2.2.2.2.2.1 am ar.2.2.2.2.2.2.2.2.2.2.2.2.2.1 ar.2.2.2.2.2.2.2.2.2.2.2.2.2.2.1 ar.2.2.2.2.2.2.2.2.2.2.2.2.2.2.2.1 ar.2.2.2.2.2.2.2.2.2.2.2.2.2.2.2.2.1 ar.2.2.2.2.2.2.2.2.2.2.2.2.2.2.2.2.2.1 ar.2.2.2.2.2.2.2.2.2.2.2.2.2.2.2.2.2.2.1 ar.2.2.2.2.2.2.2.2.2.2.2.2.2.2.2.2.2.2.2.1 ar.2.2.2.2.2.2.2.2.2.2.2.2.2.2.2.2.2.2.2.2.1 ar.2.2.2.2.2.2.2.2.2.2.2.2.2.2.2.2.2.2.2.2.2.1) [(0,1),(1,0),(2,65),(3,193),(4,833),(5,129)] fun au=>
 .br au.2.1
 (.ff (au.1,true))
 (.nn (au.2.2.1,au.2.2.2.1,au.2.2.2.2.1,au.2.2.2.2.2.1,au.2.2.2.2.2.2.1,au.2.2.2.2.2.2.2.1,au.2.2.2.2.2.2.2.2.1,au.2.2.2.2.2.2.2.2.2.1,au.2.2.2.2.2.2.2.2.2.2.1,au.2.2.2.2.2.2.2.2.2.2.2.1,au.2.2.2.2.2.2.2.2.2.2.2.2.1,au.2.2.2.2.2.2.2.2.2.2.2.2.2.1,au.2.2.2.2.2.2.2.2.2.2.2.2.2.2.1,au.2.2.2.2.2.2.2.2.2.2.2.2.2.2.2.1,au.2.2.2.2.2.2.2.2.2.2.2.2.2.2.2.2.1,au.2.2.2.2.2.2.2.2.2.2.2.2.2.2.2.2.2.1,au.2.2.2.2.2.2.2.2.2.2.2.2.2.2.2.2.2.2.1,au.2.2.2.2.2.2.2.2.2.2.2.2.2.2.2.2.2.2.2.1,au.2.2.2.2.2.2.2.2.2.2.2.2.2.2.2.2.2.2.2.2.1,au.2.2.2.2.2.2.2.2.2.2.2.2.2.2.2.2.2.2.2.2.2.1,au.2.2.2.2.2.2.2.2.2.2.2.2.2.2.2.2.2.2.2.2.2.2.1,au.2.2.2.2.2.2.2.2.2.2.2.2.2.2.2.2.2.2.2.2.2.2.2,(i64.wrap (ar.2.2.2.2.2.2.2.2.2.2.2.2.2.2.2.2.2.2.2.2.2.2+1)))))
 (.oo .u))
 (k,aa,ab,ac,ad,ae,af,ag,ah,ai,aj,ak,al,an.Where,ap.Kind,ap.Hand,ap.Place,aq.1.Robot.Joints,aq.1.Robot.Masses,aq.1.Shapes,aq.1.Skips,ao,0) [] fun _=>
 .ret ((⟨(⟨0,0,0⟩:az6),0,(⟨nl,nl⟩:czr)⟩:azf),false))
noncomputable def Gzi (k)(aa)(ab)(ac)(ad)(ae)(af)(ag)(ah)(ai)(aj)(ak)(al)(am)(an)(ao)(ap):=
 mkD Tryz.func130 (Vz0 k aa ab ac ad ae af ag ah ai aj ak al am an ao ap) 1 [.agg [q k,q aa,q ab,q ac,q ad,q ae,q af,q ag,pz ah,pz ai,pz aj,pz ak,pz al,.map 0],q an,q ao,q ap] [(0,mapG [.int .i64 0,.int .i64 0,.int .i64 0,.int .i64 0,.int .i64 0,.int .i64 0,.int .i64 0,.int .i64 0,.int .i64 0,.int .i64 0] az2 bze am)] (fun r=>.tup [q r.1,q r.2]) (fun _=>[(0,mapG [.int .i64 0,.int .i64 0,.int .i64 0,.int .i64 0,.int .i64 0,.int .i64 0,.int .i64 0,.int .i64 0,.int .i64 0,.int .i64 0] az2 bze am)])
noncomputable def rz9 (k:A0)(aa:A8)(ab:A2)(ac:Ad)(ad:A3)(ae:Bk)(af:A1)(ag:A7)(ah:Int)(ai:Int)(aj:Int)(ak:Int)(al:Int)(am:B7)(an:azg)(ao:A4)(ap:A9):T (Az×A4×Int×Int×Int×B7):=
 .loop (fun s (aq:C9)=>pk s [4,5,10,17,18] [1] [(2,q aq.1),(11,pz aq.2.2.2.2.1),(19,pz aq.2.2.2.2.2)] [(0,mapG [.int .i64 0,.int .i64 0,.int .i64 0,.int .i64 0,.int .i64 0,.int .i64 0,.int .i64 0,.int .i64 0,.int .i64 0,.int .i64 0] az2 bze aq.2.1),(65,.box [q aq.2.2.1]),(257,vO aq.2.2.2.1 79)])
 (.exit 0) (fun s (aq:(Az×B7))=>pk s [10] [] [] [(0,mapG [.int .i64 0,.int .i64 0,.int .i64 0,.int .i64 0,.int .i64 0,.int .i64 0,.int .i64 0,.int .i64 0,.int .i64 0,.int .i64 0] az2 bze aq.2),(257,vO aq.1 79)])
 (fun aq=>let ar:=ap.getD ((aq.2.2.2.2.2).toNat) default;let au:=(⟨aq.2.2.1⟩:azg);let av:=(⟨((if 0<aq.2.2.1.length then aq.2.2.1.getD 0 default else 0),(if 1<aq.2.2.1.length then aq.2.2.1.getD 1 default else 0),(if 2<aq.2.2.1.length then aq.2.2.1.getD 2 default else 0),(if 3<aq.2.2.1.length then aq.2.2.1.getD 3 default else 0),(if 4<aq.2.2.1.length then aq.2.2.1.getD 4 default else 0),(if 5<aq.2.2.1.length then aq.2.2.1.getD 5 default else 0)),aq.2.2.2.2.1,ar⟩:az7);let aw:=kz9 az2 aq.2.1 (az2 av);let ax:=mdom az2 aq.2.1 (az2 av);.br (decide (aq.2.2.2.2.2<(ap.length:Int)))
 (.gh aq.2.2.2.2.2 ap.length<|
 .ok (ax=false->PSub (.agg [.int .i64 0,.int .i64 0,.int .i64 0,.int .i64 0,.lst 0 0 fun _=>.unk,.lst 0 0 fun _=>.unk]) (bze aw)) (Tzi (by kernel_rfl))<|
 .cut 0 (fun s (ay:Ch)=>pk s [4,5,10,13,15,17,18,19] [1,65,257,833] [] [(0,mapG [.int .i64 0,.int .i64 0,.int .i64 0,.int .i64 0,.int .i64 0,.int .i64 0,.int .i64 0,.int .i64 0,.int .i64 0,.int .i64 0] az2 bze ay.1),(2049,.box [pz ay.2.1,pz ay.2.2.1,pz ay.2.2.2.1,pz ay.2.2.2.2.1,q ay.2.2.2.2.2.1,q ay.2.2.2.2.2.2])])
 (.br (!ax)
 (.call (Gzi k aa ab ac ad ae af ag ah ai aj ak al aq.2.1 au aq.1 ar) [(0,0)] fun ay=>
 .br (!ay.2)
 (.ff (.fin (nl,aq.2.2.1,ar.Kind,ar.Hand,ar.Place,aq.2.1)))
 (.conv 13004 (az2f [.int .i64 0,.int .i64 0,.int .i64 0,.int .i64 0,.int .i64 0,.int .i64 0,.int .i64 0,.int .i64 0,.int .i64 0,.int .i64 0] az2 bze aq.2.1 av ay.1 (.agg [.int .i64 ay.1.Action.Kind,.int .i64 ay.1.Action.Hand,.int .i64 ay.1.Action.Place,.int .i64 ay.1.Grip,encL 1 (encL 1 azs) ay.1.Path.Points,encL 2 czo ay.1.Path.Edges]) (by kernel_rfl))<|
 .oo (((av,ay.1)::aq.2.1),ay.1.Action.Kind,ay.1.Action.Hand,ay.1.Action.Place,ay.1.Grip,ay.1.Path.Points,ay.1.Path.Edges)))
 (.oo (aq.2.1,aw.Action.Kind,aw.Action.Hand,aw.Action.Place,aw.Grip,aw.Path.Points,aw.Path.Edges))) fun ay=>let az:=([(⟨(⟨ay.2.1,ay.2.2.1,ay.2.2.2.1⟩:az6),ay.2.2.2.2.1,(⟨ay.2.2.2.2.2.1,ay.2.2.2.2.2.2⟩:czr)⟩:azf)]:Az);let a0:=aq.2.2.2.1.length+az.length;
 .conv 14002 (kL az 79)<|
 .conv 14003 (kA aq.2.2.2.1 az 79)<|
 .grd (a0 * 80≤140737488355328/\a0≤maxLen)<|
 .gh ay.2.2.2.2.1 ag.length<|
 .cc (kzj (⟨(⟨(⟨k,aa⟩:azn),ab,ac⟩:azc),ad,ae,af,ag,ah⟩:az1) au ar) fun a1=>
 .nn ((ag.getD ((ay.2.2.2.2.1).toNat) default).At,ay.1,a1.1.Where,(aq.2.2.2.1++az),ay.2.2.2.2.1,(i64.wrap (aq.2.2.2.2.2+1))))
 (.oo (aq.2.2.2.1,aq.2.1)))
 (ao,am,an.Where,nl,(-1),0) [] fun _=>
 .stop
noncomputable def iz2 (k)(aa)(ab)(ac)(ad)(ae)(af)(ag)(ah)(ai)(aj)(ak)(al)(am)(an)(ao)(ap):=
 mkD Tryz.func67 (rz9 k aa ab ac ad ae af ag ah ai aj ak al am an ao ap) 1 [.agg [q k,q aa,q ab,q ac,q ad,q ae,q af,q ag,pz ah,pz ai,pz aj,pz ak,pz al,.map 0],q an,q ao,q ap] [(0,mapG [.int .i64 0,.int .i64 0,.int .i64 0,.int .i64 0,.int .i64 0,.int .i64 0,.int .i64 0,.int .i64 0,.int .i64 0,.int .i64 0] az2 bze am)] (fun r=>.tup [q r.1,.ptr 1 0]) (fun r=>[(0,mapG [.int .i64 0,.int .i64 0,.int .i64 0,.int .i64 0,.int .i64 0,.int .i64 0,.int .i64 0,.int .i64 0,.int .i64 0,.int .i64 0] az2 bze r.2.2.2.2.2),(1,.box [q r.2.1,pz r.2.2.1,pz r.2.2.2.1,pz r.2.2.2.2.1])])
noncomputable def rza (k:A0)(aa:A8)(ab:A2)(ac:Ad)(ad:A3)(ae:Bk)(af:A1)(ag:A7)(ah:Int)(ai:Int)(aj:Int)(ak:Int)(al:Int)(am:B7)(an:azg)(ao:A4)(ap:A9):T (Az×B7):=
 .loop (fun s (aq:C9)=>pk s [4,5,10,17,18] [1] [(2,q aq.1),(11,pz aq.2.2.2.2.1),(19,pz aq.2.2.2.2.2)] [(0,mapG [.int .i64 0,.int .i64 0,.int .i64 0,.int .i64 0,.int .i64 0,.int .i64 0,.int .i64 0,.int .i64 0,.int .i64 0,.int .i64 0] az2 bze aq.2.1),(65,.box [q aq.2.2.1]),(257,vO aq.2.2.2.1 79)])
 (.exit 0) (fun s (aq:(Az×B7))=>pk s [10] [] [] [(0,mapG [.int .i64 0,.int .i64 0,.int .i64 0,.int .i64 0,.int .i64 0,.int .i64 0,.int .i64 0,.int .i64 0,.int .i64 0,.int .i64 0] az2 bze aq.2),(257,vO aq.1 79)])
 (fun aq=>let ar:=ap.getD ((aq.2.2.2.2.2).toNat) default;let au:=(⟨aq.2.2.1⟩:azg);let av:=(⟨((if 0<aq.2.2.1.length then aq.2.2.1.getD 0 default else 0),(if 1<aq.2.2.1.length then aq.2.2.1.getD 1 default else 0),(if 2<aq.2.2.1.length then aq.2.2.1.getD 2 default else 0),(if 3<aq.2.2.1.length then aq.2.2.1.getD 3 default else 0),(if 4<aq.2.2.1.length then aq.2.2.1.getD 4 default else 0),(if 5<aq.2.2.1.length then aq.2.2.1.getD 5 default else 0)),aq.2.2.2.2.1,ar⟩:az7);let aw:=kz9 az2 aq.2.1 (az2 av);let ax:=mdom az2 aq.2.1 (az2 av);.br (decide (aq.2.2.2.2.2<(ap.length:Int)))
 (.gh aq.2.2.2.2.2 ap.length<|
 .ok (ax=false->PSub (.agg [.int .i64 0,.int .i64 0,.int .i64 0,.int .i64 0,.lst 0 0 fun _=>.unk,.lst 0 0 fun _=>.unk]) (bze aw)) (Tzi (by kernel_rfl))<|
 .cut 0 (fun s (ay:Ch)=>pk s [4,5,10,13,15,17,18,19] [1,65,257,833] [] [(0,mapG [.int .i64 0,.int .i64 0,.int .i64 0,.int .i64 0,.int .i64 0,.int .i64 0,.int .i64 0,.int .i64 0,.int .i64 0,.int .i64 0] az2 bze ay.1),(2049,.box [pz ay.2.1,pz ay.2.2.1,pz ay.2.2.2.1,pz ay.2.2.2.2.1,q ay.2.2.2.2.2.1,q ay.2.2.2.2.2.2])])
 (.br (!ax)
 (.call (Gzi k aa ab ac ad ae af ag ah ai aj ak al aq.2.1 au aq.1 ar) [(0,0)] fun ay=>
 .br (!ay.2)
 (.stop)
 (.conv 13004 (az2f [.int .i64 0,.int .i64 0,.int .i64 0,.int .i64 0,.int .i64 0,.int .i64 0,.int .i64 0,.int .i64 0,.int .i64 0,.int .i64 0] az2 bze aq.2.1 av ay.1 (.agg [.int .i64 ay.1.Action.Kind,.int .i64 ay.1.Action.Hand,.int .i64 ay.1.Action.Place,.int .i64 ay.1.Grip,encL 1 (encL 1 azs) ay.1.Path.Points,encL 2 czo ay.1.Path.Edges]) (by kernel_rfl))<|
 .oo (((av,ay.1)::aq.2.1),ay.1.Action.Kind,ay.1.Action.Hand,ay.1.Action.Place,ay.1.Grip,ay.1.Path.Points,ay.1.Path.Edges)))
 (.oo (aq.2.1,aw.Action.Kind,aw.Action.Hand,aw.Action.Place,aw.Grip,aw.Path.Points,aw.Path.Edges))) fun ay=>let az:=([(⟨(⟨ay.2.1,ay.2.2.1,ay.2.2.2.1⟩:az6),ay.2.2.2.2.1,(⟨ay.2.2.2.2.2.1,ay.2.2.2.2.2.2⟩:czr)⟩:azf)]:Az);let a0:=aq.2.2.2.1.length+az.length;
 .conv 14002 (kL az 79)<|
 .conv 14003 (kA aq.2.2.2.1 az 79)<|
 .grd (a0 * 80≤140737488355328/\a0≤maxLen)<|
 .gh ay.2.2.2.2.1 ag.length<|
 .cc (kzj (⟨(⟨(⟨k,aa⟩:azn),ab,ac⟩:azc),ad,ae,af,ag,ah⟩:az1) au ar) fun a1=>
 .nn ((ag.getD ((ay.2.2.2.2.1).toNat) default).At,ay.1,a1.1.Where,(aq.2.2.2.1++az),ay.2.2.2.2.1,(i64.wrap (aq.2.2.2.2.2+1))))
 (.oo (aq.2.2.2.1,aq.2.1)))
 (ao,am,an.Where,nl,(-1),0) [] fun aq=>
 .ret (aq.1,aq.2)
noncomputable def kzz (k)(aa)(ab)(ac)(ad)(ae)(af)(ag)(ah)(ai)(aj)(ak)(al)(am)(an)(ao)(ap):=
 mkD Tryz.func67 (rza k aa ab ac ad ae af ag ah ai aj ak al am an ao ap) 1 [.agg [q k,q aa,q ab,q ac,q ad,q ae,q af,q ag,pz ah,pz ai,pz aj,pz ak,pz al,.map 0],q an,q ao,q ap] [(0,mapG [.int .i64 0,.int .i64 0,.int .i64 0,.int .i64 0,.int .i64 0,.int .i64 0,.int .i64 0,.int .i64 0,.int .i64 0,.int .i64 0] az2 bze am)] (fun r=>.tup [q r.1,.nilp]) (fun r=>[(0,mapG [.int .i64 0,.int .i64 0,.int .i64 0,.int .i64 0,.int .i64 0,.int .i64 0,.int .i64 0,.int .i64 0,.int .i64 0,.int .i64 0] az2 bze r.2)])
noncomputable def szm (k:az1)(aa:azg)(ab:A4)(ac:A4)(ad:hze)(ae:Int):T (Az×Int):=let af:=(⟨aa.Where⟩:azg);let ag:=(⟨k.Scene,k.Objects,k.Places,k.Hands,k.Grips,k.Slack⟩:az1);.cub 2 39 [2,3,5,6,7,10] [0,64,128]
 (.cc (dzy ag af) fun ah=>
 .br (!ah)
 (.oo true)
 (.cc (bzk k.Scene.Robot ab) fun ai=>
 .br (!ai)
 (.oo true)
 (.oo ((ac.length:Int) !=(k.Objects.length:Int))))) fun ah=>
 .br ah
 (.ret (nl,0))
 (.cub 1 50 [2,3,5,6,7,10] [0,64,128]
 (.br (decide (ae<1))
 (.oo true)
 (.br (decide (ae>64))
 (.oo true)
 (.cc (gzn ad) fun ai=>
 .oo (!ai)))) fun ai=>
 .br ai
 (.ret (nl,0))
 (.conv 5002 (azbu [.int .i64 0,.int .i64 0,.int .i64 0,.int .i64 0,.int .i64 0,.int .i64 0,.int .i64 0,.int .i64 0,.int .i64 0,.int .i64 0] az2 bze (.agg [.int .i64 0,.int .i64 0,.int .i64 0,.int .i64 0,.lst 0 0 fun _=>.unk,.lst 0 0 fun _=>.unk]))<|
 .loop (fun s (aj:(B7×Ab×Int))=>pk s [2,3,6,7,14,15,55] [0,64,704] [(56,pz aj.2.2)] [(576,mapG [.int .i64 0,.int .i64 0,.int .i64 0,.int .i64 0,.int .i64 0,.int .i64 0,.int .i64 0,.int .i64 0,.int .i64 0,.int .i64 0] az2 bze aj.1),(832,vS aj.2.1 144)])
 (.exit 0) (jk [] [])
 (fun aj=>.br (decide (aj.2.2<ae))
 (.cc (tzy ag af ac 16 aj.2.1) fun ak=>let al:=iz2 k.Scene.Robot.Joints k.Scene.Robot.Masses k.Scene.Shapes k.Scene.Skips k.Objects k.Places k.Hands k.Grips k.Slack ad.Samples ad.Degree ad.Depth ad.Tests aj.1 af ab ak.1;
 .br (!ak.2)
 (.ff (nl,2))
 (.split ((al.o).isSome)
 (.call al [(0,576)] fun am=>let an:=([(⟨(⟨am.2.1⟩:azg),(⟨am.2.2.1,am.2.2.2.1,am.2.2.2.2.1⟩:az6)⟩:zzr)]:Ab);let ao:=aj.2.1.length+an.length;
 .conv 15004 (kL an 144)<|
 .conv 15005 (azbt 4 az5l aj.2.1 an 144)<|
 .grd (ao * 48≤140737488355328/\ao≤maxLen)<|
 .nn (am.2.2.2.2.2,(aj.2.1++an),(i64.wrap (aj.2.2+1))))
 (.call (kzz k.Scene.Robot.Joints k.Scene.Robot.Masses k.Scene.Shapes k.Scene.Skips k.Objects k.Places k.Hands k.Grips k.Slack ad.Samples ad.Degree ad.Depth ad.Tests aj.1 af ab ak.1) [(0,576)] fun am=>
 .ff (am.1,1))))
 (.oo .u))
 ((nl:List (az7×azf)),nl,0) [] fun _=>
 .ret (nl,4)))
noncomputable def mzc:=
 mkq6 Tryz.func29 szm (fun r=>.tup [q r.1,pz r.2])
noncomputable def Mz4 (k:azo):T (Ao×Bool):=
 .loop (fun s (aa:Ap)=>pk s [1,2,3,11,12] [0,64,128] [(13,pz aa.2)] [(65,vO aa.1 87)])
 (.exit 0) (fun s (aa:Ao)=>pk s [2,3] [64,128] [] [(65,vO aa 87)])
 (fun aa=>let ab:=k.Uses.getD ((aa.2).toNat) default;.br (decide (aa.2<(k.Uses.length:Int)))
 (.gh aa.2 k.Uses.length<|
 .loop (fun s (ac:Bl)=>pk s [1,2,3,6,11,12,13,23,24] [0,64,65,128,1280] [(25,pz ac.2)] [(1218,vO ac.1 100)])
 (.exit 2) (fun s (ac:Bk)=>pk s [1,2,3,6,11,12,13] [0,64,65,128,1280] [] [(1218,vO ac 100)])
 (fun ac=>let ad:=(ab.Numbers).getD ((ac.2).toNat) default;let ae:=([(k.Table.getD (ad.toNat) default)]:Bk);let af:=ac.1.length+ae.length;.br (decide (ac.2<(ab.Numbers.length:Int)))
 (.gh ac.2 (ab.Numbers.length)<|
 .cub 1 37 [1,2,3,6,8,11,12,13,23,24,25] [0,64,65,128,1218,1280]
 (.br (decide (ad<0))
 (.oo true)
 (.oo (decide (ad≥(k.Table.length:Int))))) fun ag=>
 .br ag
 (.ff (.fin (nl,false)))
 (.gh ad k.Table.length<|
 .conv 11007 (kL ae 100)<|
 .conv 11008 (kA ac.1 ae 100)<|
 .grd (af * 24≤140737488355328/\af≤maxLen)<|
 .nn ((ac.1++ae),(i64.wrap (ac.2+1)))))
 (.oo ac.1))
 (nl,0) [] fun ac=>let ad:=([(⟨ab.Depth,ab.Index,ac⟩:azi)]:Ao);let ae:=aa.1.length+ad.length;
 .conv 13002 (kL ad 87)<|
 .conv 13003 (kA aa.1 ad 87)<|
 .grd (ae * 40≤140737488355328/\ae≤maxLen)<|
 .nn ((aa.1++ad),(i64.wrap (aa.2+1))))
 (.oo aa.1))
 (nl,0) [] fun aa=>
 .ret (aa,true)
noncomputable def Mz3 (k):=
 mkC [⟨331,az9e⟩] hd Tryz.func235 (by kernel_rfl) (Mz4 k) 0 [q k] [] (fun r=>.tup [q r.1,q r.2]) (fun _=>[]) (by kernel_rfl)
noncomputable def Yzq (k:azc)(aa:czr):T B1:=let ab:=(aa.Edges.length:Nat);.cc (tzf k aa.Points) fun ac=>
 .br (ac.2 !=0)
 (.ret (ac.1,ac.2))
 (.br ((ab:Int) !=(i64.wrap ((aa.Points.length:Int)-1)))
 (.ret (0,2202))
 (.loop (ik 37 [2,3,4,5,35,36] [0,64,128,192])
 (.exit 0) (jk [4,5] [128,192])
 (fun ad=>let ae:=i64.wrap (ad+1);.br (decide (ad<(ab:Int)))
 (.gh ad aa.Edges.length<|
 .cc (Mz3 (aa.Edges.getD (ad.toNat) default)) fun af=>
 .br (!af.2)
 (.ff (ad,2203))
 (.gh ad aa.Points.length<|
 .gh ae aa.Points.length<|
 .call (vzq (⟨k.Robot,k.Shapes,k.Skips⟩:azc) (aa.Points.getD (ad.toNat) default) (aa.Points.getD (ae.toNat) default) af.1) [] fun ag=>
 .br (ag.2 !=0)
 (.ff (ad,ag.2))
 (.nn ae)))
 (.oo .u))
 0 [] fun _=>
 .ret (0,0)))
noncomputable def Yzp (k)(aa):=
 mkC [⟨233,az95⟩] hd Tryz.func142 (by kernel_rfl) (Yzq k aa) 0 [q k,q aa] [] (fun r=>.tup [pz r.1,pz r.2]) (fun _=>[]) (by kernel_rfl)
noncomputable def Nza (k:az1)(aa:azg)(ab:czr)(ac:A4)(ad:A4):T Bool:=let ae:=i64.wrap ((ab.Points.length:Int)-1);.cc (qz5 k aa) fun af=>
 .br (af.2 !=0)
 (.ret false)
 (.cc (Yzp (⟨af.1.Robot,af.1.Shapes,af.1.Skips⟩:azc) ab) fun ag=>
 .br (ag.2 !=0)
 (.ret false)
 (.gh (0:Int) ab.Points.length<|
 .cc (fza (ab.Points.getD ((0:Int).toNat) default) ac) fun ah=>
 .br ah
 (.gh ae ab.Points.length<|
 .call (fza (ab.Points.getD (ae.toNat) default) ad) [] fun ai=>
 .ret ai)
 (.ret false)))
noncomputable def Nz9:=
 mkp5 Tryz.func73 Nza
noncomputable def Szv (k:az1)(aa:azg)(ab:A4):T Bool:=
 .cc (dzy k aa) fun ac=>
 .br ac
 (.br ((ab.length:Int)==(aa.Where.length:Int))
 (.cc (fz4 aa) fun ad=>
 .cc (xzr ad ab) fun ae=>
 .ret ae)
 (.ret false))
 (.ret false)
noncomputable def Szu:=
 mkp3 Tryz.func74 Szv
noncomputable def Nz8 (k:az1)(aa:azg)(ab:A4)(ac:A4)(ad:Az):T B1:=let ae:=(ad.length:Int);let af:=(⟨k.Scene,k.Objects,k.Places,k.Hands,k.Grips,k.Slack⟩:az1);.cc (izm k) fun ag=>
 .br (ag !=0)
 (.ret (0,ag))
 (.cc (dzy k aa) fun ah=>
 .br (!ah)
 (.ret (0,3403))
 (.cub 1 40 [2,3,4,5,6] [0,64]
 (.cc (bzk k.Scene.Robot ab) fun ai=>
 .br (!ai)
 (.oo true)
 (.oo ((ac.length:Int) !=(k.Objects.length:Int)))) fun ai=>
 .br ai
 (.ret (0,4501))
 (.loop (fun s (aj:Be)=>pk s [3,4,5,6,41,42] [0] [(2,q aj.1),(43,pz aj.2.2)] [(64,.box [q aj.2.1])])
 (.exit 0) (fun s (aj:A4)=>pk s [3,4,5,6] [0] [] [(64,.box [q aj])])
 (fun aj=>let ak:=(⟨aj.2.1⟩:azg);let al:=ad.getD ((aj.2.2).toNat) default;let am:=al.Grip;let an:=k.Grips.getD (am.toNat) default;.br (decide (aj.2.2<ae))
 (.gh aj.2.2 ad.length<|
 .cc (kzj af ak (al.Action)) fun ao=>
 .cub 1 82 [2,3,4,5,6,13,14,16,41,42,43] [0,64,1408,2304]
 (.br (!ao.2)
 (.oo true)
 (.cc (kz4 af (al.Action) am) fun ap=>
 .br (!ap)
 (.oo true)
 (.gh am k.Grips.length<|
 .call (qzs af (al.Action.Hand) (al.Action.Place) (an.At)) [] fun aq=>
 .oo (!aq)))) fun ap=>
 .br ap
 (.ff (aj.2.2,3901))
 (.gh am k.Grips.length<|
 .call (Nz9 af ak (al.Path) aj.1 (an.At)) [] fun aq=>
 .br (!aq)
 (.ff (aj.2.2,4401))
 (.gh am k.Grips.length<|
 .nn (an.At,ao.1.Where,(i64.wrap (aj.2.2+1))))))
 (.oo aj.2.1))
 (ab,aa.Where,0) [] fun aj=>
 .cc (Szu k (⟨aj⟩:azg) ac) fun ak=>
 .br (!ak)
 (.ret (ae,3902))
 (.ret (ae,0)))))
noncomputable def pzr:=
 mkq5 Tryz.func31 Nz8 (fun r=>.tup [pz r.1,pz r.2])
noncomputable def law39_awake_T:T Bool:=
 .cc (law39_one_C) fun k=>let aa:=(⟨k.Scene,k.Objects,k.Places,k.Hands,k.Grips,k.Slack⟩:az1);
 .conv 1001 (kL ([0]:A4) 3)<|
 .conv 2002 (kL ([0,0]:A4) 2)<|
 .conv 2003 (kL ([1]:A4) 3)<|
 .cc (nzo 1 9) fun ab=>
 .cc (mzc aa (⟨([0]:A4)⟩:azg) ([0,0]:A4) ([1]:A4) ab 3) fun ac=>
 .conv 3002 (kL ([0,0]:A4) 2)<|
 .conv 3003 (kL ([1]:A4) 3)<|
 .cc (pzr aa (⟨([0]:A4)⟩:azg) ([0,0]:A4) ([1]:A4) ac.1) fun ad=>
 .br (ac.2==1)
 (.br ((ac.1.length:Int)==2)
 (.br (ad.1==2)
 (.ret (ad.2==0))
 (.ret false))
 (.ret false))
 (.ret false)
noncomputable def law39_awake_C:CallS Bool:=
 mkD Tryz.func11 (law39_awake_T) 0 [] [] (fun r=>q r) (fun _=>[])
noncomputable def az11 (k:A4):T Ah:=
 .ret (k,0)
noncomputable def xzj:=
 mkv1 Tryz.func39 az11 (fun _=>.ptr 0 0) (fun r=>[(0,.box [q r.1,pz r.2])])
noncomputable def wzk (k:A4)(aa:Int)(ab:Int):T (Int×A4×Int):=let ac:=i64.wrap (aa+1);let ad:=i64.wrap (ac-1);.br (decide (aa≥(k.length:Int)))
 (.ret (0,k,aa))
 (.gh ad k.length<|
 .call (iz6 (k.getD (ad.toNat) default) ab) [] fun ae=>
 .ret (ae,k,ac))
noncomputable def bzs (k)(aa)(ab):=
 mkD Tryz.func41 (wzk k aa ab) 1 [.ptr 0 0,pz ab] [(0,.box [q k,pz aa])] (fun r=>pz r.1) (fun r=>[(0,.box [q r.2.1,pz r.2.2])])
noncomputable def qzz (k:A4)(aa:Int)(ab:Int):T (Int×A4×Int):=
 .call (bzs k aa (i64.wrap ((i64.wrap (2 * ab))+1))) [(0,0)] fun ac=>
 .ret ((i64.wrap (ac.1-ab)),ac.2.1,ac.2.2)
noncomputable def qzy (k)(aa)(ab):=
 mkD Tryz.func43 (qzz k aa ab) 1 [.ptr 0 0,pz ab] [(0,.box [q k,pz aa])] (fun r=>pz r.1) (fun r=>[(0,.box [q r.2.1,pz r.2.2])])
noncomputable def ozy (k:A4):T az1:=
 .cc (xzj k) fun aa=>
 .cc (xzk 2 64) fun ab=>
 .conv 4004 (kL ([(0,0,20)]:Bk) 100)<|
 .conv 4006 (kL ([(⟨1,1,([(0,0,20)]:Bk)⟩:aza)]:A2) 102)<|
 .grd (([(⟨1,1,([(0,0,20)]:Bk)⟩:aza)]:A2).length * 40≤140737488355328/\([(⟨1,1,([(0,0,20)]:Bk)⟩:aza)]:A2).length≤maxLen)<|
 .cut 0 (fun s (ac:(A4×Int×A2))=>pk s [2,3,4] [0,1,2,3,4,5,6,7,8,260,261,262,263,264] [] [(128,.box [q ac.1,pz ac.2.1]),(256,.box [q ab.Joints,q ab.Masses,.vec 1280,.vec 260,.vec 261,.vec 262,.vec 263,.vec 264,pz 0]),(1280,vO ac.2.2 102)])
 (.call (bzs aa.1 aa.2 2) [(0,128)] fun ac=>
 .br (ac.1==1)
 (.call (bzs ac.2.1 ac.2.2 5) [(0,128)] fun ad=>
 .call (bzs ad.2.1 ad.2.2 65) [(0,128)] fun ae=>
 .call (bzs ae.2.1 ae.2.2 65) [(0,128)] fun af=>
 .call (bzs af.2.1 af.2.2 20) [(0,128)] fun ag=>let ah:=([(ae.1,af.1,ag.1)]:Bk);let ai:=([(⟨(-1),(i64.wrap (1+ad.1)),ah⟩:aza)]:A2);let aj:=([(⟨1,1,([(0,0,20)]:Bk)⟩:aza)]:A2).length+ai.length;
 .conv 6013 (kL ah 100)<|
 .conv 6015 (kL ai 102)<|
 .conv 6016 (kA ([(⟨1,1,([(0,0,20)]:Bk)⟩:aza)]:A2) ai 102)<|
 .grd (aj * 40≤140737488355328/\aj≤maxLen)<|
 .oo (ag.2.1,ag.2.2,(([(⟨1,1,([(0,0,20)]:Bk)⟩:aza)]:A2)++ai)))
 (.oo (ac.2.1,ac.2.2,([(⟨1,1,([(0,0,20)]:Bk)⟩:aza)]:A2)))) fun ac=>
 .call (bzs ac.1 ac.2.1 3) [(0,128)] fun ad=>
 .loop (fun s (ae:(A4×Int×Bk×Int))=>pk s [2,3,4] [0,1,2,3,4,5,6,7,8,256,260,261,263,264,1280] [(5,pz ae.2.2.2)] [(128,.box [q ae.1,pz ae.2.1]),(262,vO ae.2.2.1 100)])
 (.exit 0) (fun s (ae:(A4×Int×Bk))=>pk s [2,3,4] [0,1,2,3,4,5,6,7,8,256,260,261,263,264,1280] [] [(128,.box [q ae.1,pz ae.2.1]),(262,vO ae.2.2 100)])
 (fun ae=>.br (decide (ae.2.2.2>0))
 (.call (bzs ae.1 ae.2.1 3) [(0,128)] fun af=>let ag:=([((i64.wrap (16 * ae.2.2.2)),(i64.wrap (8 * af.1)),0)]:Bk);let ah:=ae.2.2.1.length+ag.length;
 .conv 10008 (kL ag 100)<|
 .conv 10009 (kA ae.2.2.1 ag 100)<|
 .grd (ah * 24≤140737488355328/\ah≤maxLen)<|
 .nn (af.2.1,af.2.2,(ae.2.2.1++ag),(i64.wrap (ae.2.2.2-1))))
 (.oo (ae.1,ae.2.1,ae.2.2.1)))
 (ad.2.1,ad.2.2,nl,(i64.wrap (2+ad.1))) [] fun ae=>
 .call (bzs ae.1 ae.2.1 2) [(0,128)] fun af=>
 .loop (fun s (ag:(A1×Int))=>pk s [2,3,4] [0,1,2,3,4,5,6,7,8,128,256,260,261,262,264,1280] [(6,pz ag.2)] [(263,vO ag.1 104)])
 (.exit 2) (fun s (ag:A1)=>pk s [2,3,4] [0,1,2,3,4,5,6,7,8,128,256,260,261,262,264,1280] [] [(263,vO ag 104)])
 (fun ag=>let ah:=i64.wrap (ag.2-1);let ai:=([(⟨1,(0,0,(i64.wrap (2 * ah)))⟩:dz9)]:A1);let aj:=ag.1.length+ai.length;.br (decide (ag.2>0))
 (.conv 14007 (kL ai 104)<|
 .conv 14008 (kA ag.1 ai 104)<|
 .grd (aj * 32≤140737488355328/\aj≤maxLen)<|
 .nn ((ag.1++ai),ah))
 (.oo ag.1))
 (nl,(i64.wrap (1+af.1))) [] fun ag=>
 .call (bzs af.2.1 af.2.2 4) [(0,128)] fun ah=>let ai:=i64.wrap (ah.1+4);
 .call (bzs ah.2.1 ah.2.2 2) [(0,128)] fun aj=>
 .loop (fun s (ak:(A4×Int×A3×Int))=>pk s [2,3,4] [0,1,2,3,4,5,6,7,8,256,260,262,263,264,1280] [(7,pz ak.2.2.2)] [(128,.box [q ak.1,pz ak.2.1]),(261,vO ak.2.2.1 98)])
 (.exit 4) (fun s (ak:(A4×Int×A3))=>pk s [2,3,4] [0,1,2,3,4,5,6,7,8,256,260,262,263,264,1280] [] [(128,.box [q ak.1,pz ak.2.1]),(261,vO ak.2.2 98)])
 (fun ak=>.br (decide (ak.2.2.2>0))
 (.cc (xzl ak.2.2.2) fun al=>
 .call (bzs ak.1 ak.2.1 2) [(0,128)] fun am=>
 .call (bzs am.2.1 am.2.2 3) [(0,128)] fun an=>let ao:=([(0,0,an.1)]:Bk);let ap:=([(⟨0,(i64.wrap (1+am.1)),ao⟩:aza)]:A2);let aq:=([(⟨al,ap⟩:azq)]:A3);let ar:=ak.2.2.1.length+aq.length;
 .conv 19010 (kL ao 100)<|
 .conv 19012 (kL ap 102)<|
 .conv 19014 (kL aq 98)<|
 .conv 19015 (kA ak.2.2.1 aq 98)<|
 .grd (ar * 40≤140737488355328/\ar≤maxLen)<|
 .nn (an.2.1,an.2.2,(ak.2.2.1++aq),(i64.wrap (ak.2.2.2-1))))
 (.oo (ak.1,ak.2.1,ak.2.2.1)))
 (aj.2.1,aj.2.2,nl,(i64.wrap (1+aj.1))) [] fun ak=>
 .loop (fun s (al:C1)=>pk s [2,3,4] [0,1,2,3,4,5,6,7,8,256,260,261,262,263,1280] [(8,pz al.2.2.2)] [(128,.box [q al.1,pz al.2.1]),(264,vO al.2.2.1 129)])
 (.exit 6) (fun s (al:A7)=>pk s [2,4] [0,1,2,3,4,5,6,7,8,256,260,261,262,263,1280] [] [(264,vO al 129)])
 (fun al=>.br (decide (al.2.2.2<(ag.length:Int)))
 (.loop (fun s (am:C1)=>pk s [2,3,4,8] [0,1,2,3,4,5,6,7,8,256,260,261,262,263,1280] [(9,pz am.2.2.2)] [(128,.box [q am.1,pz am.2.1]),(264,vO am.2.2.1 129)])
 (.exit 8) (fun s (am:(A4×Int×A7))=>pk s [2,3,4,8] [0,1,2,3,4,5,6,7,8,256,260,261,262,263,1280] [] [(128,.box [q am.1,pz am.2.1]),(264,vO am.2.2 129)])
 (fun am=>let an:=am.2.2.2;let ao:=ae.2.2.getD (an.toNat) default;.br (decide (am.2.2.2<(ae.2.2.length:Int)))
 (.cut 0 (fun s (ap:(A4×Int×A7))=>pk s [2,3,4,8,9] [0,1,2,3,4,5,6,7,8,260,261,262,263,1280] [] [(128,.box [q ap.1,pz ap.2.1]),(256,.box [q ab.Joints,q ab.Masses,.vec 1280,.vec 260,.vec 261,.vec 262,.vec 263,.vec 3520,pz ai]),(3520,vO ap.2.2 129)])
 (.call (bzs am.1 am.2.1 8) [(0,128)] fun ap=>
 .br (decide (ap.1<7))
 (.gh am.2.2.2 ae.2.2.length<|
 .ix 0 3 rfl<|
 .grd (an.toNat<ae.2.2.length)<|
 .call (qzy ap.2.1 ap.2.2 2) [(0,128)] fun aq=>let ar:=([(min 64 (i64.wrap ((ao.1)+aq.1))),ao.2.1]:A4);let au:=([(⟨al.2.2.2,am.2.2.2,ar⟩:bzy)]:A7);let av:=am.2.2.1.length+au.length;
 .gh am.2.2.2 ae.2.2.length<|
 .ix 1 3 rfl<|
 .grd (an.toNat<ae.2.2.length)<|
 .conv 27020 (kL ar 2)<|
 .conv 27022 (kL au 129)<|
 .conv 27023 (kA am.2.2.1 au 129)<|
 .grd (av * 40≤140737488355328/\av≤maxLen)<|
 .oo (aq.2.1,aq.2.2,(am.2.2.1++au)))
 (.oo (ap.2.1,ap.2.2,am.2.2.1))) fun ap=>
 .nn (ap.1,ap.2.1,ap.2.2,(i64.wrap (am.2.2.2+1))))
 (.oo (am.1,am.2.1,am.2.2.1)))
 (al.1,al.2.1,al.2.2.1,0) [] fun am=>
 .nn (am.1,am.2.1,am.2.2,(i64.wrap (al.2.2.2+1))))
 (.oo al.2.2.1))
 (ak.1,ak.2.1,nl,0) [] fun al=>
 .ret (⟨(⟨ab,ac.2.2,nl⟩:azc),ak.2.2,ae.2.2,ag,al,ai⟩:az1)
noncomputable def zz5:=
 mkp1 Tryz.func19 ozy
noncomputable def Fz6 (k:A4)(aa:Int):T Bool:=
 .loop (ik 5 [0,1] [])
 (.exit 0) (jk [] [])
 (fun ab=>.br (decide (ab<(k.length:Int)))
 (.gh ab k.length<|
 .br ((k.getD (ab.toNat) default)==aa)
 (.ff true)
 (.nn (i64.wrap (ab+1))))
 (.oo .u))
 0 [] fun _=>
 .ret false
noncomputable def Fz5:=
 mkp2 Tryz.func49 Fz6
noncomputable def Fz4 (k:az1)(aa:A4):T azg:=let ab:=(k.Hands.length:Int);let ac:=i64.wrap ((k.Places.length:Int)+ab);.cc (xzj aa) fun ad=>
 .loop (fun s (ae:(A4×Int×A4×Int))=>pk s [2,4,5,6] [0,64,65,320] [(7,pz ae.2.2.2)] [(192,.box [q ae.1,pz ae.2.1]),(321,vS ae.2.2.1 3)])
 (.exit 0) (fun s (ae:A4)=>pk s [4,6] [64,65,320] [] [(321,vS ae 3)])
 (fun ae=>.br (decide (ae.2.2.2<(k.Objects.length:Int)))
 (.call (bzs ae.1 ae.2.1 ac) [(0,192)] fun af=>
 .loop (ik 8 [2,4,5,6,7] [0,64,65,192,320,321])
 (.exit 2) (ik 8 [2,4,5,6,7] [0,64,65,192,320,321])
 (fun ag=>.cc (Fz5 ae.2.2.1 ag) fun ah=>
 .br ah
 (.name 8005 ((i64.wrap ((i64.wrap (ag+1))+ab))) fun ai=>
 .grd (ac≠0)<|
 .name 8017 ((i64.wrap ((ai.tmod ac)-ab))) fun aj=>
 .nn aj)
 (.oo ag))
 (i64.wrap (af.1-ab)) [] fun ag=>let ah:=([ag]:A4);let ai:=ae.2.2.1.length+ah.length;
 .conv 9003 (kL ah 3)<|
 .conv 9004 (azbt 1 azs ae.2.2.1 ah 3)<|
 .grd (ai * 8≤140737488355328/\ai≤maxLen)<|
 .nn (af.2.1,af.2.2,(ae.2.2.1++ah),(i64.wrap (ae.2.2.2+1))))
 (.oo ae.2.2.1))
 (ad.1,ad.2,nl,0) [] fun ae=>
 .ret (⟨ae⟩:azg)
noncomputable def Ozx:=
 mkp2 Tryz.func20 Fz4
noncomputable def Fzo (k:ByteArray):T Bool:=let aa:=(k.size:Int);.cub 2 16 [0] []
 (.br (decide (aa<1))
 (.oo true)
 (.br (decide (aa>16))
 (.oo true)
 (.oo (k==(⟨#[119,111,114,108,100]⟩:ByteArray))))) fun ab=>
 .br ab
 (.ret false)
 (.loop (ik 3 [0] [])
 (.exit 0) (jk [] [])
 (fun ac=>let ad:=((k.data.getD ac.toNat 0).toNat:Int);.br (decide (ac<aa))
 (.cub 1 4 [0,3] []
 (.gh ac k.size<|
 .br (decide (ad≥97))
 (.gh ac k.size<|
 .oo (decide (ad≤122)))
 (.oo false)) fun ae=>
 .cub 0 56 [0,3] []
 (.br (!ae)
 (.br (ac==0)
 (.oo true)
 (.gh ac k.size<|
 .br (ad !=95)
 (.gh ac k.size<|
 .br (decide (ad<48))
 (.oo true)
 (.gh ac k.size<|
 .oo (decide (ad>57))))
 (.oo false)))
 (.oo false)) fun af=>
 .br af
 (.ff false)
 (.nn (i64.wrap (ac+1))))
 (.oo .u))
 0 [] fun _=>
 .ret true)
noncomputable def Fzn:=
 mkp1 Tryz.func225 Fzo
noncomputable def Fzp (k:Bj)(aa:Int):T Bool:=let ab:=i64.wrap (0-aa);.unroll 4<|
 .known true<|
 .cub 1 22 [1,2,5] [0]
 (.ix 0 3 rfl<|
 .br (decide (k.1<ab))
 (.oo true)
 (.ix 0 3 rfl<|
 .oo (decide (k.1>aa)))) fun ac=>
 .br ac
 (.ret false)
 (.lit 3001 (1)<|
 .known true<|
 .cub 1 22 [1,2,5] [0]
 (.ix 1 3 rfl<|
 .br (decide (k.2.1<ab))
 (.oo true)
 (.ix 1 3 rfl<|
 .oo (decide (k.2.1>aa)))) fun ad=>
 .br ad
 (.ret false)
 (.lit 3001 (2)<|
 .known true<|
 .cub 1 22 [1,2,5] [0]
 (.ix 2 3 rfl<|
 .br (decide (k.2.2<ab))
 (.oo true)
 (.ix 2 3 rfl<|
 .oo (decide (k.2.2>aa)))) fun ae=>
 .br ae
 (.ret false)
 (.lit 3001 (3)<|
 .known false<|
 .ret true)))
noncomputable def dzt:=
 mkp2 Tryz.func131 Fzp
noncomputable def Cz0 (k:Int):T Int:=
 .br (k==0)
 (.ret 0)
 (.cub 0 6 [] []
 (.br (k==1)
 (.oo (k==1))
 (.br (k==2)
 (.oo (k==2))
 (.oo (k==3)))) fun aa=>
 .br aa
 (.ret 524288)
 (.ret 4194304))
noncomputable def Lzq:=
 mkp1 Tryz.func322 Cz0
noncomputable def vz5 (k:Int)(aa:Int)(ab:Int):T Bool:=
 .br (decide (aa≤k))
 (.ret (decide (k≤ab)))
 (.ret false)
noncomputable def fzq:=
 mkp3 Tryz.func150 vz5
noncomputable def nz6 (k:A0)(aa:Int):T Int:=let ab:=k.getD (aa.toNat) default;let ac:=ab.Kind;.gh aa k.length<|
 .cc (Fzn (ab.Name)) fun ad=>
 .br (!ad)
 (.ret 802)
 (.loop (ik 6 [0,1,5] [320])
 (.exit 0) (jk [1,5] [320])
 (fun ae=>.br (decide (ae<aa))
 (.gh ae k.length<|
 .br (((k.getD (ae.toNat) default).Name)==(ab.Name))
 (.ff 802)
 (.nn (i64.wrap (ae+1))))
 (.oo .u))
 0 [] fun _=>
 .cub 1 36 [1,5] [320]
 (.br (decide (ac<0))
 (.oo true)
 (.oo (decide (ac>6)))) fun ae=>
 .br ae
 (.ret 803)
 (.cub 1 45 [5] [320]
 (.br (decide ((ab.Parent)<(-1)))
 (.oo true)
 (.oo (decide ((ab.Parent)≥aa)))) fun af=>
 .br af
 (.ret 804)
 (.cc (dzt (ab.Offset) 4194304) fun ag=>
 .br (!ag)
 (.ret 805)
 (.cc (Lzq ac) fun ah=>
 .cub 0 70 [5] [320]
 (.br (decide ((ab.Lo)>(ab.Hi)))
 (.oo true)
 (.br (decide ((ab.Lo)<(i64.wrap (0-ah))))
 (.oo true)
 (.oo (decide ((ab.Hi)>ah))))) fun ai=>
 .br ai
 (.ret 806)
 (.cub 1 92 [] []
 (.cc (fzq (ab.Weight) 1 1024) fun aj=>
 .br (!aj)
 (.oo true)
 (.cc (fzq (ab.Speed) 1 1048576) fun ak=>
 .br (!ak)
 (.oo true)
 (.cc (fzq (ab.Accel) 1 1048576) fun al=>
 .br (!al)
 (.oo true)
 (.cc (fzq (ab.Torque) 1 1099511627776) fun am=>
 .oo (!am))))) fun aj=>
 .br aj
 (.ret 807)
 (.ret 0))))))
noncomputable def vzz:=
 mkp2 Tryz.func216 nz6
noncomputable def nz4 (k:azn):T Int:=let aa:=(k.Joints.length:Int);let ab:=(k.Masses.length:Nat);.cub 2 16 [1] [0]
 (.br (decide (aa<1))
 (.oo true)
 (.oo (decide (aa>10)))) fun ac=>
 .br ac
 (.ret 801)
 (.loop (ik 3 [1] [0])
 (.exit 0) (jk [1] [0])
 (fun ad=>.br (decide (ad<aa))
 (.cc (vzz k.Joints ad) fun ae=>
 .br (ae !=0)
 (.ff ae)
 (.nn (i64.wrap (ad+1))))
 (.oo .u))
 0 [] fun _=>
 .br (decide ((ab:Int)>32))
 (.ret 808)
 (.loop (ik 5 [1] [0])
 (.exit 2) (jk [] [])
 (fun ad=>let ae:=k.Masses.getD (ad.toNat) default;.br (decide (ad<(ab:Int)))
 (.gh ad k.Masses.length<|
 .cub 0 69 [1,5] [0]
 (.br (decide ((ae.Link)<0))
 (.oo true)
 (.br (decide ((ae.Link)≥aa))
 (.oo true)
 (.cc (fzq (ae.Mass) 1 65536) fun af=>
 .br (!af)
 (.oo true)
 (.cc (dzt (ae.Point) 4194304) fun ag=>
 .oo (!ag))))) fun af=>
 .br af
 (.ff 808)
 (.nn (i64.wrap (ad+1))))
 (.oo .u))
 0 [] fun _=>
 .ret 0))
noncomputable def dzs:=
 mkp1 Tryz.func117 nz4
noncomputable def yzg (k:azn)(aa:Int):T Bool:=
 .br (decide (aa≥(-1)))
 (.ret (decide (aa<(k.Joints.length:Int))))
 (.ret false)
noncomputable def ezo:=
 mkp2 Tryz.func149 yzg
noncomputable def nz5 (k:azc):T Int:=let aa:=(k.Skips.length:Nat);let ab:=(k.Shapes.length:Nat);.cc (dzs k.Robot) fun ac=>
 .br (ac !=0)
 (.ret ac)
 (.br (decide ((ab:Int)>24))
 (.ret 901)
 (.loop (ik 4 [1] [0])
 (.exit 0) (jk [1] [0])
 (fun ad=>let ae:=k.Shapes.getD (ad.toNat) default;let af:=(ae.Points.length:Int);.br (decide (ad<(ab:Int)))
 (.gh ad k.Shapes.length<|
 .cub 1 53 [1,4,5] [0,1536]
 (.cc (ezo k.Robot (ae.Link)) fun ag=>
 .br (!ag)
 (.oo true)
 (.cc (fzq (ae.Radius) 1 1048576) fun ah=>
 .br (!ah)
 (.oo true)
 (.br (decide (af<1))
 (.oo true)
 (.oo (decide (af>8)))))) fun ag=>
 .br ag
 (.ff 902)
 (.loop (ik 6 [1,4,5] [0,1536])
 (.exit 2) (jk [1,4] [0])
 (fun ah=>.br (decide (ah<af))
 (.gh ah (ae.Points.length)<|
 .call (dzt ((ae.Points).getD (ah.toNat) default) 4194304) [] fun ai=>
 .br (!ai)
 (.ff (.fin 805))
 (.nn (i64.wrap (ah+1))))
 (.oo .u))
 0 [] fun _=>
 .nn (i64.wrap (ad+1))))
 (.oo .u))
 0 [] fun _=>
 .br (decide ((aa:Int)>64))
 (.ret 903)
 (.loop (ik 7 [1] [0])
 (.exit 4) (jk [] [])
 (fun ad=>let ae:=k.Skips.getD (ad.toNat) default;.br (decide (ad<(aa:Int)))
 (.cub 1 100 [1,7] [0]
 (.gh ad k.Skips.length<|
 .cc (ezo k.Robot (ae.A)) fun af=>
 .br (!af)
 (.oo true)
 (.gh ad k.Skips.length<|
 .cc (ezo k.Robot (ae.B)) fun ag=>
 .oo (!ag))) fun af=>
 .br af
 (.ff 903)
 (.nn (i64.wrap (ad+1))))
 (.oo .u))
 0 [] fun _=>
 .ret 0)))
noncomputable def gzc:=
 mkp1 Tryz.func82 nz5
noncomputable def uzo (k:azn)(aa:A4):T Bool:=let ab:=(aa.length:Nat);.cub 2 16 [1,2] [0]
 (.cc (dzs k) fun ac=>
 .br (ac !=0)
 (.oo true)
 (.oo ((ab:Int) !=(k.Joints.length:Int)))) fun ac=>
 .br ac
 (.ret false)
 (.loop (ik 5 [1,2] [0])
 (.exit 0) (jk [] [])
 (fun ad=>let ae:=aa.getD (ad.toNat) default;let af:=k.Joints.getD (ad.toNat) default;.br (decide (ad<(ab:Int)))
 (.cub 1 46 [1,2,5] [0]
 (.gh ad aa.length<|
 .gh ad k.Joints.length<|
 .br (decide (ae<(af.Lo)))
 (.oo true)
 (.gh ad aa.length<|
 .gh ad k.Joints.length<|
 .oo (decide (ae>(af.Hi))))) fun ag=>
 .br ag
 (.ff false)
 (.nn (i64.wrap (ad+1))))
 (.oo .u))
 0 [] fun _=>
 .ret true)
noncomputable def uzn:=
 mkp2 Tryz.func59 uzo
noncomputable def lzp (k:aza):T Bool:=let aa:=(k.Points.length:Int);.cub 2 23 [1] [0]
 (.br (decide (k.Radius<1))
 (.oo true)
 (.br (decide (k.Radius>1048576))
 (.oo true)
 (.br (decide (aa<1))
 (.oo true)
 (.oo (decide (aa>8)))))) fun ab=>
 .br ab
 (.ret false)
 (.loop (ik 3 [1] [0])
 (.exit 0) (jk [] [])
 (fun ac=>.br (decide (ac<aa))
 (.gh ac k.Points.length<|
 .cc (dzt (k.Points.getD (ac.toNat) default) 4194304) fun ad=>
 .br (!ad)
 (.ff false)
 (.nn (i64.wrap (ac+1))))
 (.oo .u))
 0 [] fun _=>
 .ret true)
noncomputable def lzo:=
 mkp1 Tryz.func155 lzp
noncomputable def vz2 (k:azq):T Bool:=let aa:=(k.Shapes.length:Nat);.cub 2 15 [1] [0]
 (.cc (Fzn k.Name) fun ab=>
 .br (!ab)
 (.oo true)
 (.oo ((aa:Int)==0))) fun ab=>
 .br ab
 (.ret false)
 (.loop (ik 3 [1] [0])
 (.exit 0) (jk [] [])
 (fun ac=>let ad:=k.Shapes.getD (ac.toNat) default;.br (decide (ac<(aa:Int)))
 (.gh ac k.Shapes.length<|
 .cub 1 35 [1,3,4] [0,960]
 (.cc (lzo ad) fun ae=>
 .br (!ae)
 (.oo true)
 (.oo ((ad.Link) !=0))) fun ae=>
 .br ae
 (.ff false)
 (.loop (ik 5 [1,3,4] [0,960])
 (.exit 2) (jk [1,3] [0])
 (fun af=>.br (decide (af<(ad.Points.length:Int)))
 (.gh af (ad.Points.length)<|
 .call (dzt ((ad.Points).getD (af.toNat) default) 2097152) [] fun ag=>
 .br (!ag)
 (.ff (.fin false))
 (.nn (i64.wrap (af+1))))
 (.oo .u))
 0 [] fun _=>
 .nn (i64.wrap (ac+1))))
 (.oo .u))
 0 [] fun _=>
 .ret true)
noncomputable def Eza:=
 mkp1 Tryz.func132 vz2
noncomputable def nz0 (k:az1):T Int:=let aa:=(k.Hands.length:Int);let ab:=(k.Grips.length:Nat);let ac:=(k.Places.length:Int);let ad:=(k.Objects.length:Nat);.cc (gzc k.Scene) fun ae=>
 .br (ae !=0)
 (.ret ae)
 (.cub 1 49 [1] [0]
 (.br (decide ((ad:Int)>6))
 (.oo true)
 (.br (decide (ac>8))
 (.oo true)
 (.br (decide (aa>3))
 (.oo true)
 (.br (decide ((ab:Int)>32))
 (.oo true)
 (.br (decide (k.Slack<0))
 (.oo true)
 (.oo (decide (k.Slack>65536)))))))) fun af=>
 .br af
 (.ret 3401)
 (.loop (ik 4 [1] [0])
 (.exit 0) (jk [1] [0])
 (fun ag=>.br (decide (ag<ac))
 (.gh ag k.Places.length<|
 .cc (dzt (k.Places.getD (ag.toNat) default) 2097152) fun ah=>
 .br (!ah)
 (.ff 3401)
 (.nn (i64.wrap (ag+1))))
 (.oo .u))
 0 [] fun _=>
 .loop (ik 5 [1] [0])
 (.exit 2) (jk [1] [0])
 (fun ag=>let ah:=k.Hands.getD (ag.toNat) default;.br (decide (ag<aa))
 (.gh ag k.Hands.length<|
 .cub 0 94 [1,5] [0]
 (.br (decide ((ah.Link)<0))
 (.oo true)
 (.br (decide ((ah.Link)≥(k.Scene.Robot.Joints.length:Int)))
 (.oo true)
 (.cc (dzt (ah.Offset) 2097152) fun ai=>
 .oo (!ai)))) fun ai=>
 .br ai
 (.ff 3401)
 (.nn (i64.wrap (ag+1))))
 (.oo .u))
 0 [] fun _=>
 .loop (ik 7 [1] [0])
 (.exit 4) (jk [1] [0])
 (fun ag=>let ah:=k.Grips.getD (ag.toNat) default;.br (decide (ag<(ab:Int)))
 (.gh ag k.Grips.length<|
 .cub 0 139 [1,7] [0]
 (.br (decide ((ah.Hand)<0))
 (.oo true)
 (.br (decide ((ah.Hand)≥aa))
 (.oo true)
 (.br (decide ((ah.Place)<0))
 (.oo true)
 (.br (decide ((ah.Place)≥ac))
 (.oo true)
 (.cc (uzn k.Scene.Robot (ah.At)) fun ai=>
 .oo (!ai)))))) fun ai=>
 .br ai
 (.ff 3401)
 (.nn (i64.wrap (ag+1))))
 (.oo .u))
 0 [] fun _=>
 .loop (fun s (ag:B1)=>pk s [1] [0] [(9,pz ag.1),(10,pz ag.2)] [])
 (.exit 6) (ik 9 [] [])
 (fun ag=>let ah:=k.Objects.getD ((ag.2).toNat) default;.br (decide (ag.2<(ad:Int)))
 (.gh ag.2 k.Objects.length<|
 .cc (Eza ah) fun ai=>
 .br (!ai)
 (.ff 3402)
 (.loop (ik 11 [1,9,10] [0])
 (.exit 8) (jk [1,9,10] [0])
 (fun aj=>.br (decide (aj<ag.2))
 (.gh aj k.Objects.length<|
 .gh ag.2 k.Objects.length<|
 .br (((k.Objects.getD (aj.toNat) default).Name)==(ah.Name))
 (.ff (.fin 3402))
 (.nn (i64.wrap (aj+1))))
 (.oo .u))
 0 [] fun _=>
 .gh ag.2 k.Objects.length<|
 .name 34008 ((i64.wrap (ag.1+(ah.Shapes.length:Int)))) fun aj=>
 .nn (aj,(i64.wrap (ag.2+1)))))
 (.oo ag.1))
 ((k.Scene.Shapes.length:Int),0) [] fun ag=>
 .br (decide (ag>24))
 (.ret 3401)
 (.ret 0)))
noncomputable def gza:=
 mkp1 Tryz.func68 nz0
noncomputable def nz2 (k:az1)(aa:azg):T Bool:=let ab:=(aa.Where.length:Nat);.cub 2 18 [2,3] [0,64]
 (.cc (gza (⟨k.Scene,k.Objects,k.Places,k.Hands,k.Grips,k.Slack⟩:az1)) fun ac=>
 .br (ac !=0)
 (.oo true)
 (.oo ((ab:Int) !=(k.Objects.length:Int)))) fun ac=>
 .br ac
 (.ret false)
 (.loop (ik 5 [2,3] [0,64])
 (.exit 0) (jk [] [])
 (fun ad=>let ae:=aa.Where.getD (ad.toNat) default;.br (decide (ad<(ab:Int)))
 (.cub 2 46 [2,3,5] [0,64]
 (.gh ad aa.Where.length<|
 .br (decide (ae<(i64.wrap (0- (k.Hands.length:Int)))))
 (.oo true)
 (.gh ad aa.Where.length<|
 .oo (decide (ae≥(k.Places.length:Int))))) fun af=>
 .br af
 (.ff false)
 (.loop (ik 6 [2,3,5] [0,64])
 (.exit 2) (jk [2,3,5] [0,64])
 (fun ag=>.br (decide (ag<ad))
 (.gh ag aa.Where.length<|
 .gh ad aa.Where.length<|
 .br ((aa.Where.getD (ag.toNat) default)==ae)
 (.ff (.fin false))
 (.nn (i64.wrap (ag+1))))
 (.oo .u))
 0 [] fun _=>
 .nn (i64.wrap (ad+1))))
 (.oo .u))
 0 [] fun _=>
 .ret true)
noncomputable def gzb:=
 mkp2 Tryz.func50 nz2
noncomputable def rzz (k:az1)(aa:Int)(ab:Int):T Bool:=
 .loop (ik 7 [1,2,3] [0])
 (.exit 0) (jk [] [])
 (fun ac=>let ad:=k.Grips.getD (ac.toNat) default;.br (decide (ac<(k.Grips.length:Int)))
 (.cub 1 32 [1,2,3,7] [0]
 (.gh ac k.Grips.length<|
 .br ((ad.Hand)==aa)
 (.gh ac k.Grips.length<|
 .oo ((ad.Place)==ab))
 (.oo false)) fun ae=>
 .br ae
 (.ff true)
 (.nn (i64.wrap (ac+1))))
 (.oo .u))
 0 [] fun _=>
 .ret false
noncomputable def Bzw:=
 mkp3 Tryz.func102 rzz
noncomputable def pzb (k:azg)(aa:Int):T Int:=
 .loop (ik 5 [1,2] [0])
 (.exit 0) (jk [] [])
 (fun ab=>.br (decide (ab<(k.Where.length:Int)))
 (.gh ab k.Where.length<|
 .br ((k.Where.getD (ab.toNat) default)==aa)
 (.ff ab)
 (.nn (i64.wrap (ab+1))))
 (.oo .u))
 0 [] fun _=>
 .ret (-1)
noncomputable def fzd:=
 mkp2 Tryz.func75 pzb
noncomputable def Fzm (k:az1)(aa:azg)(ab:az6):T Bool:=let ac:=(⟨aa.Where⟩:azg);.cub 2 41 [4,5] [64,128]
 (.br (decide (ab.Hand<0))
 (.oo true)
 (.br (decide (ab.Hand≥(k.Hands.length:Int)))
 (.oo true)
 (.br (decide (ab.Place<0))
 (.oo true)
 (.br (decide (ab.Place≥(k.Places.length:Int)))
 (.oo true)
 (.cc (Bzw k ab.Hand ab.Place) fun ad=>
 .oo (!ad)))))) fun ad=>
 .br ad
 (.ret false)
 (.cc (fzd ac (i64.wrap ((-1)-ab.Hand))) fun ae=>let af:=decide (ae≥0);
 .cc (fzd ac ab.Place) fun ag=>let ah:=decide (ag≥0);
 .br (ab.Kind==1)
 (.br (!af)
 (.br ah
 (.ret true)
 (.br (ab.Kind==2)
 (.br af
 (.ret (!ah))
 (.ret false))
 (.ret false)))
 (.br (ab.Kind==2)
 (.br af
 (.ret (!ah))
 (.ret false))
 (.ret false)))
 (.br (ab.Kind==2)
 (.br af
 (.ret (!ah))
 (.ret false))
 (.ret false)))
noncomputable def yzf:=
 mkp3 Tryz.func51 Fzm
noncomputable def rzy (k:az1)(aa:azg):T A9:=let ab:=(⟨aa.Where⟩:azg);let ac:=(⟨k.Scene,k.Objects,k.Places,k.Hands,k.Grips,k.Slack⟩:az1);.cc (gzb ac ab) fun ad=>
 .br (!ad)
 (.ret nl)
 (.loop (fun s (ae:Aa)=>pk s [2,3,5] [0,64] [(6,pz ae.2)] [(448,vO ae.1 51)])
 (.exit 0) (fun s (ae:A9)=>pk s [5] [] [] [(448,vO ae 51)])
 (fun ae=>.br (decide (ae.2≤2))
 (.loop (fun s (af:Aa)=>pk s [2,3,5,6] [0,64] [(7,pz af.2)] [(448,vO af.1 51)])
 (.exit 2) (fun s (af:A9)=>pk s [2,3,5,6] [0,64] [] [(448,vO af 51)])
 (fun af=>.br (decide (af.2<(k.Hands.length:Int)))
 (.loop (fun s (ag:Aa)=>pk s [2,3,5,6,7] [0,64] [(8,pz ag.2)] [(448,vO ag.1 51)])
 (.exit 4) (fun s (ag:A9)=>pk s [2,3,5,6,7] [0,64] [] [(448,vO ag 51)])
 (fun ag=>let ah:=(⟨ae.2,af.2,ag.2⟩:az6);let ai:=([ah]:A9);let aj:=ag.1.length+ai.length;.br (decide (ag.2<(k.Places.length:Int)))
 (.cut 0 (fun s (ak:A9)=>pk s [2,3,6,7,8] [0,64] [(5,.vec 1664)] [(1664,vO ak 51)])
 (.cc (yzf ac ab ah) fun ak=>
 .br ak
 (.conv 15002 (kL ai 51)<|
 .conv 15003 (kA ag.1 ai 51)<|
 .grd (aj * 24≤140737488355328/\aj≤maxLen)<|
 .oo (ag.1++ai))
 (.oo ag.1)) fun ak=>
 .nn (ak,(i64.wrap (ag.2+1))))
 (.oo ag.1))
 (af.1,0) [] fun ag=>
 .nn (ag,(i64.wrap (af.2+1))))
 (.oo af.1))
 (ae.1,0) [] fun af=>
 .nn (af,(i64.wrap (ae.2+1))))
 (.oo ae.1))
 (nl,1) [] fun ae=>
 .ret ae)
noncomputable def lzv:=
 mkp2 Tryz.func21 rzy
noncomputable def yzd (k:az1)(aa:azg)(ab:az6):T (azg×Bool):=let ac:=i64.wrap ((-1)-ab.Hand);.cub 2 19 [4,5,6] [64,128,192,193]
 (.cc (gzb k aa) fun ad=>
 .br (!ad)
 (.oo true)
 (.cc (yzf k aa ab) fun ae=>
 .oo (!ae))) fun ad=>
 .br ad
 (.ret ((⟨nl⟩:azg),false))
 (.grd (aa.Where.length * 8≤140737488355328/\aa.Where.length≤maxLen)<|
 .cut 0 (fun s (ae:A4)=>pk s [6,8] [192,193,640] [] [(512,vO ae 3)])
 (.br (ab.Kind==1)
 (.cc (fzd aa ab.Place) fun ae=>
 .gh ae aa.Where.length<|
 .conv 5010 (kS aa.Where 3 (ae.toNat) ac)<|
 .gi (ae) aa.Where.length<|
 .oo (aa.Where.set (ae.toNat) ac))
 (.cc (fzd aa ac) fun ae=>
 .gh ae aa.Where.length<|
 .conv 6010 (kS aa.Where 3 (ae.toNat) ab.Place)<|
 .gi (ae) aa.Where.length<|
 .oo (aa.Where.set (ae.toNat) ab.Place))) fun ae=>
 .ret ((⟨ae⟩:azg),true))
noncomputable def yzc:=
 mkq3 Tryz.func32 yzd (fun r=>.tup [q r.1,q r.2])
noncomputable def rzx (k:aza)(aa:Int)(ab:Bj):T aza:=
 .loop (fun s (ac:Bl)=>pk s [3,5,6,7] [0,64,128,131,448] [(8,pz ac.2)] [(386,vO ac.1 100)])
 (.exit 0) (fun s (ac:Bk)=>pk s [6,7] [128,131,448] [] [(386,vO ac 100)])
 (fun ac=>let ad:=k.Points.getD ((ac.2).toNat) default;let ae:=([((i64.wrap ((ad.1)+ab.1)),(i64.wrap ((ad.2.1)+ab.2.1)),(i64.wrap ((ad.2.2)+ab.2.2)))]:Bk);let af:=ac.1.length+ae.length;.br (decide (ac.2<(k.Points.length:Int)))
 (.gh ac.2 k.Points.length<|
 .ix 0 3 rfl<|
 .ix 0 3 rfl<|
 .ix 1 3 rfl<|
 .ix 1 3 rfl<|
 .ix 2 3 rfl<|
 .ix 2 3 rfl<|
 .conv 6018 (kL ae 100)<|
 .conv 6019 (kA ac.1 ae 100)<|
 .grd (af * 24≤140737488355328/\af≤maxLen)<|
 .nn ((ac.1++ae),(i64.wrap (ac.2+1))))
 (.oo ac.1))
 (nl,0) [] fun ac=>
 .ret (⟨aa,k.Radius,ac⟩:aza)
noncomputable def Bzv:=
 mkp3 Tryz.func76 rzx
noncomputable def rzw (k:az1)(aa:azg):T (azc×Int):=
 .cc (gza k) fun ab=>
 .br (ab !=0)
 (.ret ((⟨(⟨nl,nl⟩:azn),nl,nl⟩:azc),ab))
 (.cc (gzb k aa) fun ac=>
 .br (!ac)
 (.ret ((⟨(⟨nl,nl⟩:azn),nl,nl⟩:azc),3403))
 (.grd (k.Scene.Shapes.length * 40≤140737488355328/\k.Scene.Shapes.length≤maxLen)<|
 .loop (fun s (ad:Ac)=>pk s [2,3,4,7] [0,64,128,129,130,131,132,1536] [(8,pz ad.2)] [(1216,vO ad.1 102)])
 (.exit 0) (fun s (ad:A2)=>pk s [4,7] [128,129,130,131,132,1536] [] [(1216,vO ad 102)])
 (fun ad=>let ae:=(ad.2).toNat;let af:=aa.Where.getD ae default;let ag:=i64.wrap ((-1)-af);let ah:=k.Hands.getD (ag.toNat) default;let ai:=k.Places.getD (af.toNat) default;let aj:=k.Objects.getD ae default;.br (decide (ad.2<(k.Objects.length:Int)))
 (.cut 2 (fun s (ak:C4)=>pk s [2,3,4,7,8,10] [0,64,128,129,130,131,132,1216,1536] [(9,pz ak.1)] [(2176,.box [pz ak.2.1,pz ak.2.2.1,pz ak.2.2.2])])
 (.gh ad.2 aa.Where.length<|
 .br (decide (af≥0))
 (.gh af k.Places.length<|
 .oo ((-1),ai.1,ai.2.1,ai.2.2))
 (.gh ag k.Hands.length<|
 .gh ag k.Hands.length<|
 .oo (ah.Link,ah.Offset.1,ah.Offset.2.1,ah.Offset.2.2))) fun ak=>
 .loop (fun s (al:Ac)=>pk s [2,3,4,7,8,9,10] [0,64,128,129,130,131,132,1536,2176] [(12,pz al.2)] [(1216,vO al.1 102)])
 (.exit 2) (fun s (al:A2)=>pk s [2,3,4,7,8] [0,64,128,129,130,131,132,1536] [] [(1216,vO al 102)])
 (fun al=>.gh ad.2 k.Objects.length<|
 .br (decide (al.2<(aj.Shapes.length:Int)))
 (.gh ad.2 k.Objects.length<|
 .gh al.2 (aj.Shapes.length)<|
 .call (Bzv ((aj.Shapes).getD ((al.2).toNat) default) ak.1 (ak.2.1,ak.2.2.1,ak.2.2.2)) [] fun am=>let an:=([am]:A2);let ao:=al.1.length+an.length;
 .conv 18014 (kL an 102)<|
 .conv 18015 (kA al.1 an 102)<|
 .grd (ao * 40≤140737488355328/\ao≤maxLen)<|
 .nn ((al.1++an),(i64.wrap (al.2+1))))
 (.oo al.1))
 (ad.1,0) [] fun al=>
 .nn (al,(i64.wrap (ad.2+1))))
 (.oo ad.1))
 (k.Scene.Shapes,0) [] fun ad=>
 .ret ((⟨k.Scene.Robot,ad,k.Scene.Skips⟩:azc),0)))
noncomputable def izb:=
 mkq2 Tryz.func33 rzw (fun r=>.tup [q r.1,pz r.2])
noncomputable def yz0 (k:A4):T Bool:=
 .loop (ik 3 [0] [])
 (.exit 0) (jk [] [])
 (fun aa=>let ab:=k.getD (aa.toNat) default;.br (decide (aa<(k.length:Int)))
 (.cub 1 21 [0,3] []
 (.gh aa k.length<|
 .br (decide (ab<(-2147483648)))
 (.oo true)
 (.gh aa k.length<|
 .oo (decide (ab>2147483648)))) fun ac=>
 .br ac
 (.ff false)
 (.nn (i64.wrap (aa+1))))
 (.oo .u))
 0 [] fun _=>
 .ret true
noncomputable def Hzo:=
 mkp1 Tryz.func87 yz0
noncomputable def Fza (k:A4):T Ae:=
 .cc (Hzo k) fun aa=>
 .br (!aa)
 (.ret nl)
 (.loop (fun s (ab:Af)=>pk s [0,3] [] [(4,pz ab.2)] [(256,vO ab.1 106)])
 (.exit 0) (fun s (ab:Ae)=>pk s [3] [] [] [(256,vO ab 106)])
 (fun ab=>let ac:=k.getD ((ab.2).toNat) default;let ad:=([(⟨ac,ac⟩:az0)]:Ae);let ae:=ab.1.length+ad.length;.br (decide (ab.2<(k.length:Int)))
 (.gh ab.2 k.length<|
 .gh ab.2 k.length<|
 .conv 7010 (kL ad 106)<|
 .conv 7011 (kA ab.1 ad 106)<|
 .grd (ae * 16≤140737488355328/\ae≤maxLen)<|
 .nn ((ab.1++ad),(i64.wrap (ab.2+1))))
 (.oo ab.1))
 (nl,0) [] fun ab=>
 .ret ab)
noncomputable def Fz9:=
 mkp1 Tryz.func37 Fza
noncomputable def Bzr (k:az0):T Bool:=
 .br (decide ((-2147483648)≤k.Lo))
 (.br (decide (k.Lo≤k.Hi))
 (.ret (decide (k.Hi≤2147483648)))
 (.ret false))
 (.ret false)
noncomputable def dzo:=
 mkp1 Tryz.func252 Bzr
noncomputable def pz6 (k:Ae):T Bool:=
 .loop (ik 3 [0] [])
 (.exit 0) (jk [] [])
 (fun aa=>.br (decide (aa<(k.length:Int)))
 (.gh aa k.length<|
 .cc (dzo (k.getD (aa.toNat) default)) fun ab=>
 .br (!ab)
 (.ff false)
 (.nn (i64.wrap (aa+1))))
 (.oo .u))
 0 [] fun _=>
 .ret true
noncomputable def zze:=
 mkp1 Tryz.func151 pz6
noncomputable def xzt (k:azn)(aa:Ae):T Bool:=
 .br ((aa.length:Int)==(k.Joints.length:Int))
 (.cc (zze aa) fun ab=>
 .ret ab)
 (.ret false)
noncomputable def qzb:=
 mkp2 Tryz.func83 xzt
noncomputable def Bzk (k:Int):T Int:=
 .ret (max (-2147483648) (min k 2147483648))
noncomputable def oz9:=
 mkp1 Tryz.func321 Bzk
noncomputable def Pzr (k:Int):T az0:=
 .cc (oz9 k) fun aa=>
 .cc (oz9 k) fun ab=>
 .ret (⟨aa,ab⟩:az0)
noncomputable def oza:=
 mkp1 Tryz.func215 Pzr
noncomputable def ref1_Unit_T:T Bs:=
 .cc (oza 65536) fun k=>
 .ret ((k,(⟨0,0⟩:az0),(⟨0,0⟩:az0)),((⟨0,0⟩:az0),k,(⟨0,0⟩:az0)),((⟨0,0⟩:az0),(⟨0,0⟩:az0),k))
noncomputable def ref1_Unit_C:CallS Bs:=
 mkD Tryz.func154 (ref1_Unit_T) 0 [] [] (fun r=>q r) (fun _=>[])
noncomputable def ref1_Rest_T:T bz2:=
 .cc (ref1_Unit_C) fun k=>
 .ret (⟨k,((⟨0,0⟩:az0),(⟨0,0⟩:az0),(⟨0,0⟩:az0))⟩:bz2)
noncomputable def ref1_Rest_C:CallS bz2:=
 mkD Tryz.func85 (ref1_Rest_T) 0 [] [] (fun r=>q r) (fun _=>[])
noncomputable def Kz7 (k:Int):T Int:=
 .ok ((65536:Int)≠0) (by decide)<|
 .ok ((65536:Int)≠0) (by decide)<|
 .ret ((i64.wrap ((k.tmod 65536)+65536)).tmod 65536)
noncomputable def Czt:=
 mkp1 Tryz.func519 Kz7
noncomputable def Bzl (k:Int)(aa:Int):T Int:=let ab:=i64.wrap (k.tdiv aa);.grd (aa≠0)<|
 .cut 0 (fun s (ac:Int)=>pk s [] [] [(5,pz ac)] [])
 (.grd (aa≠0)<|
 .br (decide ((k.tmod aa)<0))
 (.oo (i64.wrap (ab-1)))
 (.oo ab)) fun ac=>
 .ret ac
noncomputable def bz7:=
 mkp2 Tryz.func78 Bzl
noncomputable def Fzf (k:Int)(aa:Int):T Int:=let ab:=i64.wrap (k.tdiv aa);.grd (aa≠0)<|
 .cut 0 (fun s (ac:Int)=>pk s [] [] [(5,pz ac)] [])
 (.grd (aa≠0)<|
 .br (decide ((k.tmod aa)>0))
 (.oo (i64.wrap (ab+1)))
 (.oo ab)) fun ac=>
 .ret ac
noncomputable def azt:=
 mkp2 Tryz.func143 Fzf
noncomputable def yzb (k:Int):T (Cl×Cl):=
 .cc (bz7 (i64.wrap (k * 6746518852)) 65536) fun aa=>
 .ix 1 11 rfl<|
 .cc (azt (i64.wrap (k * 6746518853)) 65536) fun ab=>
 .ix 1 11 rfl<|
 .unroll 10<|
 .known true<|
 .lit 7002 (1)<|
 .ix 1 11 rfl<|
 .ix 1 11 rfl<|
 .cc (bz7 (i64.wrap (aa * aa)) 1073741824) fun ac=>
 .ix 2 11 rfl<|
 .lit 8002 (1)<|
 .ix 1 11 rfl<|
 .ix 1 11 rfl<|
 .cc (azt (i64.wrap (ab * ab)) 1073741824) fun ad=>
 .ix 2 11 rfl<|
 .lit 6001 (3)<|
 .known true<|
 .lit 7002 (2)<|
 .ix 2 11 rfl<|
 .ix 1 11 rfl<|
 .cc (bz7 (i64.wrap (ac * aa)) 1073741824) fun ae=>
 .ix 3 11 rfl<|
 .lit 8002 (2)<|
 .ix 2 11 rfl<|
 .ix 1 11 rfl<|
 .cc (azt (i64.wrap (ad * ab)) 1073741824) fun af=>
 .ix 3 11 rfl<|
 .lit 6001 (4)<|
 .known true<|
 .lit 7002 (3)<|
 .ix 3 11 rfl<|
 .ix 1 11 rfl<|
 .cc (bz7 (i64.wrap (ae * aa)) 1073741824) fun ag=>
 .ix 4 11 rfl<|
 .lit 8002 (3)<|
 .ix 3 11 rfl<|
 .ix 1 11 rfl<|
 .cc (azt (i64.wrap (af * ab)) 1073741824) fun ah=>
 .ix 4 11 rfl<|
 .lit 6001 (5)<|
 .known true<|
 .lit 7002 (4)<|
 .ix 4 11 rfl<|
 .ix 1 11 rfl<|
 .cc (bz7 (i64.wrap (ag * aa)) 1073741824) fun ai=>
 .ix 5 11 rfl<|
 .lit 8002 (4)<|
 .ix 4 11 rfl<|
 .ix 1 11 rfl<|
 .cc (azt (i64.wrap (ah * ab)) 1073741824) fun aj=>
 .ix 5 11 rfl<|
 .lit 6001 (6)<|
 .known true<|
 .lit 7002 (5)<|
 .ix 5 11 rfl<|
 .ix 1 11 rfl<|
 .cc (bz7 (i64.wrap (ai * aa)) 1073741824) fun ak=>
 .ix 6 11 rfl<|
 .lit 8002 (5)<|
 .ix 5 11 rfl<|
 .ix 1 11 rfl<|
 .cc (azt (i64.wrap (aj * ab)) 1073741824) fun al=>
 .ix 6 11 rfl<|
 .lit 6001 (7)<|
 .known true<|
 .lit 7002 (6)<|
 .ix 6 11 rfl<|
 .ix 1 11 rfl<|
 .cc (bz7 (i64.wrap (ak * aa)) 1073741824) fun am=>
 .ix 7 11 rfl<|
 .lit 8002 (6)<|
 .ix 6 11 rfl<|
 .ix 1 11 rfl<|
 .cc (azt (i64.wrap (al * ab)) 1073741824) fun an=>
 .ix 7 11 rfl<|
 .lit 6001 (8)<|
 .known true<|
 .lit 7002 (7)<|
 .ix 7 11 rfl<|
 .ix 1 11 rfl<|
 .cc (bz7 (i64.wrap (am * aa)) 1073741824) fun ao=>
 .ix 8 11 rfl<|
 .lit 8002 (7)<|
 .ix 7 11 rfl<|
 .ix 1 11 rfl<|
 .cc (azt (i64.wrap (an * ab)) 1073741824) fun ap=>
 .ix 8 11 rfl<|
 .lit 6001 (9)<|
 .known true<|
 .lit 7002 (8)<|
 .ix 8 11 rfl<|
 .ix 1 11 rfl<|
 .cc (bz7 (i64.wrap (ao * aa)) 1073741824) fun aq=>
 .ix 9 11 rfl<|
 .lit 8002 (8)<|
 .ix 8 11 rfl<|
 .ix 1 11 rfl<|
 .cc (azt (i64.wrap (ap * ab)) 1073741824) fun ar=>
 .ix 9 11 rfl<|
 .lit 6001 (10)<|
 .known true<|
 .lit 7002 (9)<|
 .ix 9 11 rfl<|
 .ix 1 11 rfl<|
 .cc (bz7 (i64.wrap (aq * aa)) 1073741824) fun au=>
 .ix 10 11 rfl<|
 .lit 8002 (9)<|
 .ix 9 11 rfl<|
 .ix 1 11 rfl<|
 .cc (azt (i64.wrap (ar * ab)) 1073741824) fun av=>
 .ix 10 11 rfl<|
 .lit 6001 (11)<|
 .known false<|
 .ret ((0,aa,ac,ae,ag,ai,ak,am,ao,aq,au),(0,ab,ad,af,ah,aj,al,an,ap,ar,av))
noncomputable def yza:=
 mkq1 Tryz.func540 yzb (fun r=>.tup [.pure (jzx r.1),.pure (jzx r.2)])
noncomputable def pza (k:Int)(aa:Int):T az0:=
 .cc (bz7 k 16384) fun ab=>
 .cc (azt aa 16384) fun ac=>
 .ret (⟨(max 0 ab),(min 65536 ac)⟩:az0)
noncomputable def pz9:=
 mkp2 Tryz.func541 pza
noncomputable def Fzl (k:Int):T az0:=
 .cc (yza k) fun aa=>
 .ix 1 11 rfl<|
 .ix 3 11 rfl<|
 .cc (azt aa.2.2.2.2.1 6) fun ab=>
 .ix 5 11 rfl<|
 .cc (bz7 aa.1.2.2.2.2.2.1 120) fun ac=>
 .ix 7 11 rfl<|
 .cc (azt aa.2.2.2.2.2.2.2.2.1 5040) fun ad=>
 .ix 1 11 rfl<|
 .ix 3 11 rfl<|
 .cc (bz7 aa.1.2.2.2.1 6) fun ae=>
 .ix 5 11 rfl<|
 .cc (azt aa.2.2.2.2.2.2.1 120) fun af=>
 .ix 7 11 rfl<|
 .cc (bz7 aa.1.2.2.2.2.2.2.2.1 5040) fun ag=>
 .ix 9 11 rfl<|
 .cc (azt aa.2.2.2.2.2.2.2.2.2.2.1 362880) fun ah=>
 .call (pz9 (i64.wrap ((i64.wrap ((i64.wrap (aa.1.2.1-ab))+ac))-ad)) (i64.wrap ((i64.wrap ((i64.wrap ((i64.wrap (aa.2.2.1-ae))+af))-ag))+ah))) [] fun ai=>
 .ret ai
noncomputable def Pzx:=
 mkp1 Tryz.func529 Fzl
noncomputable def yz9 (k:Int):T az0:=
 .cc (yza k) fun aa=>
 .ix 2 11 rfl<|
 .cc (azt aa.2.2.2.1 2) fun ab=>
 .ix 4 11 rfl<|
 .cc (bz7 aa.1.2.2.2.2.1 24) fun ac=>
 .ix 6 11 rfl<|
 .cc (azt aa.2.2.2.2.2.2.2.1 720) fun ad=>
 .ix 8 11 rfl<|
 .cc (bz7 aa.1.2.2.2.2.2.2.2.2.1 40320) fun ae=>
 .ix 10 11 rfl<|
 .cc (azt aa.2.2.2.2.2.2.2.2.2.2.2 3628800) fun af=>
 .name 2019 ((i64.wrap ((i64.wrap ((i64.wrap ((i64.wrap ((i64.wrap (1073741824-ab))+ac))-ad))+ae))-af))) fun ag=>
 .ix 2 11 rfl<|
 .cc (bz7 aa.1.2.2.1 2) fun ah=>
 .ix 4 11 rfl<|
 .cc (azt aa.2.2.2.2.2.1 24) fun ai=>
 .ix 6 11 rfl<|
 .cc (bz7 aa.1.2.2.2.2.2.2.1 720) fun aj=>
 .ix 8 11 rfl<|
 .cc (azt aa.2.2.2.2.2.2.2.2.2.1 40320) fun ak=>
 .call (pz9 ag (i64.wrap ((i64.wrap ((i64.wrap ((i64.wrap (1073741824-ah))+ai))-aj))+ak))) [] fun al=>
 .ret al
noncomputable def Hzu:=
 mkp1 Tryz.func530 yz9
noncomputable def uzw (k:Int):T az0:=
 .br (decide (k≤8192))
 (.cc (Pzx k) fun aa=>
 .ret aa)
 (.cc (Hzu (i64.wrap (16384-k))) fun aa=>
 .ret aa)
noncomputable def jzm:=
 mkp1 Tryz.func520 uzw
noncomputable def Kza (k:az0):T az0:=
 .cc (dzo k) fun aa=>
 .br (!aa)
 (.ret (⟨0,0⟩:az0))
 (.ret (⟨(i64.wrap (0-k.Hi)),(i64.wrap (0-k.Lo))⟩:az0))
noncomputable def Czu:=
 mkp1 Tryz.func435 Kza
noncomputable def Kzb (k:Int):T az0:=
 .cc (Czt k) fun aa=>let ab:=aa.tmod 16384;let ac:=i64.wrap (aa.tdiv 16384);let ad:=i64.wrap (16384-ab);
 .ok ((16384:Int)≠0) (by decide)<|
 .ok ((16384:Int)≠0) (by decide)<|
 .br (ac==0)
 (.cc (jzm ab) fun ae=>
 .ret ae)
 (.br (ac==1)
 (.cc (jzm ad) fun ae=>
 .ret ae)
 (.br (ac==2)
 (.cc (jzm ab) fun ae=>
 .cc (Czu ae) fun af=>
 .ret af)
 (.cc (jzm ad) fun ae=>
 .cc (Czu ae) fun af=>
 .ret af)))
noncomputable def Czv:=
 mkp1 Tryz.func491 Kzb
noncomputable def Kz5 (k:Int):T az0:=
 .cc (Czt k) fun aa=>
 .cc (Czv (i64.wrap (aa+16384))) fun ab=>
 .ret ab
noncomputable def Kz4:=
 mkp1 Tryz.func490 Kz5
noncomputable def Fzg (k:az0)(aa:az0):T az0:=
 .cub 2 12 [2,3,4] [0,64,128]
 (.cc (dzo k) fun ab=>
 .br (!ab)
 (.oo true)
 (.cc (dzo aa) fun ac=>
 .oo (!ac))) fun ab=>
 .br ab
 (.ret (⟨0,0⟩:az0))
 (.ret (⟨(min k.Lo aa.Lo),(max k.Hi aa.Hi)⟩:az0))
noncomputable def yz7:=
 mkp2 Tryz.func517 Fzg
noncomputable def Bzt (k:az0)(aa:Int):T Bool:=
 .cc (Czt (i64.wrap (aa-k.Lo))) fun ab=>
 .ret (decide ((i64.wrap (k.Lo+ab))≤k.Hi))
noncomputable def Bzs:=
 mkp2 Tryz.func518 Bzt
noncomputable def Fzk (k:az0)(aa:az0)(ab:az0)(ac:Int)(ad:Int):T az0:=
 .cc (dzo k) fun ae=>
 .br (!ae)
 (.ret (⟨0,0⟩:az0))
 (.br (decide ((i64.wrap (k.Hi-k.Lo))≥65536))
 (.ret (⟨(-65536),65536⟩:az0))
 (.cc (yz7 aa ab) fun af=>
 .cut 0 (fun s (ag:B1)=>pk s [4,5,10,11] [0,192] [] [(1024,.box [pz ag.1,pz ag.2])])
 (.cc (Bzs k ac) fun ag=>
 .br ag
 (.cc (oza 65536) fun ah=>
 .cc (yz7 af ah) fun ai=>
 .oo (ai.Lo,ai.Hi))
 (.oo (af.Lo,af.Hi))) fun ag=>
 .cut 0 (fun s (ah:B1)=>pk s [10,11] [192] [] [(1024,.box [pz ah.1,pz ah.2])])
 (.cc (Bzs k ad) fun ah=>
 .br ah
 (.cc (oza (-65536)) fun ai=>
 .cc (yz7 (⟨ag.1,ag.2⟩:az0) ai) fun aj=>
 .oo (aj.Lo,aj.Hi))
 (.oo (ag.1,ag.2))) fun ah=>
 .ret (⟨ah.1,ah.2⟩:az0)))
noncomputable def Fzj:=
 mkp5 Tryz.func489 Fzk
noncomputable def uzv (k:az0):T az0:=
 .cc (Kz4 k.Lo) fun aa=>
 .cc (Kz4 k.Hi) fun ab=>
 .cc (Fzj k (⟨aa.Lo,aa.Hi⟩:az0) (⟨ab.Lo,ab.Hi⟩:az0) 0 32768) fun ac=>
 .ret ac
noncomputable def Ez6:=
 mkp1 Tryz.func433 uzv
noncomputable def uzx (k:az0):T az0:=
 .cc (Czv k.Lo) fun aa=>
 .cc (Czv k.Hi) fun ab=>
 .cc (Fzj k aa ab 16384 49152) fun ac=>
 .ret ac
noncomputable def Ez8:=
 mkp1 Tryz.func434 uzx
noncomputable def Fzi (k:Int)(aa:az0):T Bs:=let ab:=(⟨aa.Lo,aa.Hi⟩:az0);.cc (dzo aa) fun ac=>
 .br (!ac)
 (.ret (((⟨0,0⟩:az0),(⟨0,0⟩:az0),(⟨0,0⟩:az0)),((⟨0,0⟩:az0),(⟨0,0⟩:az0),(⟨0,0⟩:az0)),((⟨0,0⟩:az0),(⟨0,0⟩:az0),(⟨0,0⟩:az0))))
 (.cc (oza 65536) fun ad=>
 .cc (Ez6 ab) fun ae=>
 .cc (Ez8 ab) fun af=>
 .cc (Czu af) fun ag=>
 .br (k==0)
 (.ret ((ad,(⟨0,0⟩:az0),(⟨0,0⟩:az0)),((⟨0,0⟩:az0),ae,ag),((⟨0,0⟩:az0),af,ae)))
 (.br (k==1)
 (.ret ((ae,(⟨0,0⟩:az0),af),((⟨0,0⟩:az0),ad,(⟨0,0⟩:az0)),(ag,(⟨0,0⟩:az0),ae)))
 (.br (k==2)
 (.ret ((ae,ag,(⟨0,0⟩:az0)),(af,ae,(⟨0,0⟩:az0)),((⟨0,0⟩:az0),(⟨0,0⟩:az0),ad)))
 (.ret (((⟨0,0⟩:az0),(⟨0,0⟩:az0),(⟨0,0⟩:az0)),((⟨0,0⟩:az0),(⟨0,0⟩:az0),(⟨0,0⟩:az0)),((⟨0,0⟩:az0),(⟨0,0⟩:az0),(⟨0,0⟩:az0)))))))
noncomputable def Pzu:=
 mkp2 Tryz.func347 Fzi
noncomputable def rzv (k:Int)(aa:az0):T bz2:=
 .cc (Pzu k (⟨aa.Lo,aa.Hi⟩:az0)) fun ab=>
 .ret (⟨ab,((⟨0,0⟩:az0),(⟨0,0⟩:az0),(⟨0,0⟩:az0))⟩:bz2)
noncomputable def Bzq:=
 mkp2 Tryz.func253 rzv
noncomputable def Bzo (k:Bp):T bz2:=
 .cc (ref1_Unit_C) fun aa=>
 .ret (⟨aa,k⟩:bz2)
noncomputable def Bzn:=
 mkp1 Tryz.func254 Bzo
noncomputable def Bzm (k:Bj):T Bp:=
 .ix 0 3 rfl<|
 .cc (oza k.1) fun aa=>
 .ix 1 3 rfl<|
 .cc (oza k.2.1) fun ab=>
 .ix 2 3 rfl<|
 .cc (oza k.2.2) fun ac=>
 .ret (aa,ab,ac)
noncomputable def tzo:=
 mkp1 Tryz.func116 Bzm
noncomputable def uzz (k:Int)(aa:Int):T az0:=
 .cc (oz9 k) fun ab=>
 .cc (oz9 aa) fun ac=>
 .ret (⟨ab,ac⟩:az0)
noncomputable def uzy:=
 mkp2 Tryz.func428 uzz
open Go.Proofs
noncomputable def Kz9 (k:az0)(aa:az0):T az0:=let ab:=i64.wrap (k.Lo * aa.Lo);let ac:=i64.wrap (k.Lo * aa.Hi);let ad:=i64.wrap (k.Hi * aa.Lo);let ae:=i64.wrap (k.Hi * aa.Hi);.cub 2 16 [2,3,4] [0,64,128]
 (.cc (dzo (⟨k.Lo,k.Hi⟩:az0)) fun af=>
 .br (!af)
 (.oo true)
 (.cc (dzo (⟨aa.Lo,aa.Hi⟩:az0)) fun ag=>
 .oo (!ag))) fun af=>
 .br af
 (.ret (⟨0,0⟩:az0))
 (.name 4004 ((min (min (min ab ac) ad) ae)) fun ag=>
 .cc (bz7 ag 65536) fun ah=>
 .name 4010 ((max (max (max ab ac) ad) ae)) fun ai=>
 .cc (azt ai 65536) fun aj=>
 .cc (uzy ah aj) fun ak=>
 .ret ak)
noncomputable def azw:=
 mkp2 Tryz.func320 Kz9
noncomputable def Kz1 (k:az0)(aa:az0):T az0:=
 .cub 2 12 [2,3,4] [0,64,128]
 (.cc (dzo k) fun ab=>
 .br (!ab)
 (.oo true)
 (.cc (dzo aa) fun ac=>
 .oo (!ac))) fun ab=>
 .br ab
 (.ret (⟨0,0⟩:az0))
 (.cc (uzy (i64.wrap (k.Lo+aa.Lo)) (i64.wrap (k.Hi+aa.Hi))) fun ac=>
 .ret ac)
noncomputable def bza:=
 mkp2 Tryz.func319 Kz1
noncomputable def mzz (k:Bs)(aa:Bs):T Bs:=
 .unroll 4<|
 .known true<|
 .unroll 4<|
 .known true<|
 .ix 0 3 rfl<|
 .ix 0 3 rfl<|
 .ix 0 3 rfl<|
 .ix 0 3 rfl<|
 .cc (azw k.1.1 aa.1.1) fun ab=>
 .ix 0 3 rfl<|
 .ix 1 3 rfl<|
 .ix 1 3 rfl<|
 .ix 0 3 rfl<|
 .cc (azw k.1.2.1 aa.2.1.1) fun ac=>
 .cc (bza ab ac) fun ad=>
 .ix 0 3 rfl<|
 .ix 2 3 rfl<|
 .ix 2 3 rfl<|
 .ix 0 3 rfl<|
 .cc (azw k.1.2.2 aa.2.2.1) fun ae=>
 .cc (bza ad ae) fun af=>
 .ix 0 3 rfl<|
 .ix 0 3 rfl<|
 .lit 7001 (1)<|
 .known true<|
 .ix 0 3 rfl<|
 .ix 0 3 rfl<|
 .ix 0 3 rfl<|
 .ix 1 3 rfl<|
 .cc (azw k.1.1 aa.1.2.1) fun ag=>
 .ix 0 3 rfl<|
 .ix 1 3 rfl<|
 .ix 1 3 rfl<|
 .ix 1 3 rfl<|
 .cc (azw k.1.2.1 aa.2.1.2.1) fun ah=>
 .cc (bza ag ah) fun ai=>
 .ix 0 3 rfl<|
 .ix 2 3 rfl<|
 .ix 2 3 rfl<|
 .ix 1 3 rfl<|
 .cc (azw k.1.2.2 aa.2.2.2.1) fun aj=>
 .cc (bza ai aj) fun ak=>
 .ix 0 3 rfl<|
 .ix 1 3 rfl<|
 .lit 7001 (2)<|
 .known true<|
 .ix 0 3 rfl<|
 .ix 0 3 rfl<|
 .ix 0 3 rfl<|
 .ix 2 3 rfl<|
 .cc (azw k.1.1 aa.1.2.2) fun al=>
 .ix 0 3 rfl<|
 .ix 1 3 rfl<|
 .ix 1 3 rfl<|
 .ix 2 3 rfl<|
 .cc (azw k.1.2.1 aa.2.1.2.2) fun am=>
 .cc (bza al am) fun an=>
 .ix 0 3 rfl<|
 .ix 2 3 rfl<|
 .ix 2 3 rfl<|
 .ix 2 3 rfl<|
 .cc (azw k.1.2.2 aa.2.2.2.2) fun ao=>
 .cc (bza an ao) fun ap=>
 .ix 0 3 rfl<|
 .ix 2 3 rfl<|
 .lit 7001 (3)<|
 .known false<|
 .lit 4001 (1)<|
 .known true<|
 .unroll 4<|
 .known true<|
 .ix 1 3 rfl<|
 .ix 0 3 rfl<|
 .ix 0 3 rfl<|
 .ix 0 3 rfl<|
 .cc (azw k.2.1.1 aa.1.1) fun aq=>
 .ix 1 3 rfl<|
 .ix 1 3 rfl<|
 .ix 1 3 rfl<|
 .ix 0 3 rfl<|
 .cc (azw k.2.1.2.1 aa.2.1.1) fun ar=>
 .cc (bza aq ar) fun au=>
 .ix 1 3 rfl<|
 .ix 2 3 rfl<|
 .ix 2 3 rfl<|
 .ix 0 3 rfl<|
 .cc (azw k.2.1.2.2 aa.2.2.1) fun av=>
 .cc (bza au av) fun aw=>
 .ix 1 3 rfl<|
 .ix 0 3 rfl<|
 .lit 7001 (1)<|
 .known true<|
 .ix 1 3 rfl<|
 .ix 0 3 rfl<|
 .ix 0 3 rfl<|
 .ix 1 3 rfl<|
 .cc (azw k.2.1.1 aa.1.2.1) fun ax=>
 .ix 1 3 rfl<|
 .ix 1 3 rfl<|
 .ix 1 3 rfl<|
 .ix 1 3 rfl<|
 .cc (azw k.2.1.2.1 aa.2.1.2.1) fun ay=>
 .cc (bza ax ay) fun az=>
 .ix 1 3 rfl<|
 .ix 2 3 rfl<|
 .ix 2 3 rfl<|
 .ix 1 3 rfl<|
 .cc (azw k.2.1.2.2 aa.2.2.2.1) fun a0=>
 .cc (bza az a0) fun a1=>
 .ix 1 3 rfl<|
 .ix 1 3 rfl<|
 .lit 7001 (2)<|
 .known true<|
 .ix 1 3 rfl<|
 .ix 0 3 rfl<|
 .ix 0 3 rfl<|
 .ix 2 3 rfl<|
 .cc (azw k.2.1.1 aa.1.2.2) fun a2=>
 .ix 1 3 rfl<|
 .ix 1 3 rfl<|
 .ix 1 3 rfl<|
 .ix 2 3 rfl<|
 .cc (azw k.2.1.2.1 aa.2.1.2.2) fun a3=>
 .cc (bza a2 a3) fun a4=>
 .ix 1 3 rfl<|
 .ix 2 3 rfl<|
 .ix 2 3 rfl<|
 .ix 2 3 rfl<|
 .cc (azw k.2.1.2.2 aa.2.2.2.2) fun a5=>
 .cc (bza a4 a5) fun a6=>
 .ix 1 3 rfl<|
 .ix 2 3 rfl<|
 .lit 7001 (3)<|
 .known false<|
 .lit 4001 (2)<|
 .known true<|
 .unroll 4<|
 .known true<|
 .ix 2 3 rfl<|
 .ix 0 3 rfl<|
 .ix 0 3 rfl<|
 .ix 0 3 rfl<|
 .cc (azw k.2.2.1 aa.1.1) fun a7=>
 .ix 2 3 rfl<|
 .ix 1 3 rfl<|
 .ix 1 3 rfl<|
 .ix 0 3 rfl<|
 .cc (azw k.2.2.2.1 aa.2.1.1) fun a8=>
 .cc (bza a7 a8) fun a9=>
 .ix 2 3 rfl<|
 .ix 2 3 rfl<|
 .ix 2 3 rfl<|
 .ix 0 3 rfl<|
 .cc (azw k.2.2.2.2 aa.2.2.1) fun ba=>
 .cc (bza a9 ba) fun bb=>
 .ix 2 3 rfl<|
 .ix 0 3 rfl<|
 .lit 7001 (1)<|
 .known true<|
 .ix 2 3 rfl<|
 .ix 0 3 rfl<|
 .ix 0 3 rfl<|
 .ix 1 3 rfl<|
 .cc (azw k.2.2.1 aa.1.2.1) fun bc=>
 .ix 2 3 rfl<|
 .ix 1 3 rfl<|
 .ix 1 3 rfl<|
 .ix 1 3 rfl<|
 .cc (azw k.2.2.2.1 aa.2.1.2.1) fun bd=>
 .cc (bza bc bd) fun be=>
 .ix 2 3 rfl<|
 .ix 2 3 rfl<|
 .ix 2 3 rfl<|
 .ix 1 3 rfl<|
 .cc (azw k.2.2.2.2 aa.2.2.2.1) fun bf=>
 .cc (bza be bf) fun bg=>
 .ix 2 3 rfl<|
 .ix 1 3 rfl<|
 .lit 7001 (2)<|
 .known true<|
 .ix 2 3 rfl<|
 .ix 0 3 rfl<|
 .ix 0 3 rfl<|
 .ix 2 3 rfl<|
 .cc (azw k.2.2.1 aa.1.2.2) fun bh=>
 .ix 2 3 rfl<|
 .ix 1 3 rfl<|
 .ix 1 3 rfl<|
 .ix 2 3 rfl<|
 .cc (azw k.2.2.2.1 aa.2.1.2.2) fun bi=>
 .cc (bza bh bi) fun bj=>
 .ix 2 3 rfl<|
 .ix 2 3 rfl<|
 .ix 2 3 rfl<|
 .ix 2 3 rfl<|
 .cc (azw k.2.2.2.2 aa.2.2.2.2) fun bk=>
 .cc (bza bj bk) fun bl=>
 .ix 2 3 rfl<|
 .ix 2 3 rfl<|
 .lit 7001 (3)<|
 .known false<|
 .lit 4001 (3)<|
 .known false<|
 .ret (((⟨(max (-65536) (min af.Lo 65536)),(max (-65536) (min af.Hi 65536))⟩:az0),(⟨(max (-65536) (min ak.Lo 65536)),(max (-65536) (min ak.Hi 65536))⟩:az0),(⟨(max (-65536) (min ap.Lo 65536)),(max (-65536) (min ap.Hi 65536))⟩:az0)),((⟨(max (-65536) (min aw.Lo 65536)),(max (-65536) (min aw.Hi 65536))⟩:az0),(⟨(max (-65536) (min a1.Lo 65536)),(max (-65536) (min a1.Hi 65536))⟩:az0),(⟨(max (-65536) (min a6.Lo 65536)),(max (-65536) (min a6.Hi 65536))⟩:az0)),((⟨(max (-65536) (min bb.Lo 65536)),(max (-65536) (min bb.Hi 65536))⟩:az0),(⟨(max (-65536) (min bg.Lo 65536)),(max (-65536) (min bg.Hi 65536))⟩:az0),(⟨(max (-65536) (min bl.Lo 65536)),(max (-65536) (min bl.Hi 65536))⟩:az0)))
noncomputable def vzy:=
 mkp2 Tryz.func255 mzz
noncomputable def rzt (k:Bs)(aa:Bp):T Bp:=
 .unroll 4<|
 .known true<|
 .ix 0 3 rfl<|
 .ix 0 3 rfl<|
 .ix 0 3 rfl<|
 .cc (azw k.1.1 aa.1) fun ab=>
 .ix 0 3 rfl<|
 .ix 1 3 rfl<|
 .ix 1 3 rfl<|
 .cc (azw k.1.2.1 aa.2.1) fun ac=>
 .cc (bza ab ac) fun ad=>
 .ix 0 3 rfl<|
 .ix 2 3 rfl<|
 .ix 2 3 rfl<|
 .cc (azw k.1.2.2 aa.2.2) fun ae=>
 .cc (bza ad ae) fun af=>
 .ix 0 3 rfl<|
 .lit 4001 (1)<|
 .known true<|
 .ix 1 3 rfl<|
 .ix 0 3 rfl<|
 .ix 0 3 rfl<|
 .cc (azw k.2.1.1 aa.1) fun ag=>
 .ix 1 3 rfl<|
 .ix 1 3 rfl<|
 .ix 1 3 rfl<|
 .cc (azw k.2.1.2.1 aa.2.1) fun ah=>
 .cc (bza ag ah) fun ai=>
 .ix 1 3 rfl<|
 .ix 2 3 rfl<|
 .ix 2 3 rfl<|
 .cc (azw k.2.1.2.2 aa.2.2) fun aj=>
 .cc (bza ai aj) fun ak=>
 .ix 1 3 rfl<|
 .lit 4001 (2)<|
 .known true<|
 .ix 2 3 rfl<|
 .ix 0 3 rfl<|
 .ix 0 3 rfl<|
 .cc (azw k.2.2.1 aa.1) fun al=>
 .ix 2 3 rfl<|
 .ix 1 3 rfl<|
 .ix 1 3 rfl<|
 .cc (azw k.2.2.2.1 aa.2.1) fun am=>
 .cc (bza al am) fun an=>
 .ix 2 3 rfl<|
 .ix 2 3 rfl<|
 .ix 2 3 rfl<|
 .cc (azw k.2.2.2.2 aa.2.2) fun ao=>
 .cc (bza an ao) fun ap=>
 .ix 2 3 rfl<|
 .lit 4001 (3)<|
 .known false<|
 .ret (af,ak,ap)
noncomputable def rzs:=
 mkp2 Tryz.func214 rzt
noncomputable def yz6 (k:Bp)(aa:Bp):T Bp:=
 .ix 0 3 rfl<|
 .ix 0 3 rfl<|
 .cc (bza k.1 aa.1) fun ab=>
 .ix 1 3 rfl<|
 .ix 1 3 rfl<|
 .cc (bza k.2.1 aa.2.1) fun ac=>
 .ix 2 3 rfl<|
 .ix 2 3 rfl<|
 .cc (bza k.2.2 aa.2.2) fun ad=>
 .ret (ab,ac,ad)
noncomputable def yz5:=
 mkp2 Tryz.func213 yz6
noncomputable def uzu (k:bz2)(aa:bz2):T bz2:=
 .cc (vzy k.R aa.R) fun ab=>
 .cc (rzs k.R aa.T) fun ac=>
 .cc (yz5 k.T (ac.1,ac.2.1,ac.2.2)) fun ad=>
 .ret (⟨(ab.1,ab.2.1,ab.2.2),ad⟩:bz2)
noncomputable def uzt:=
 mkp2 Tryz.func153 uzu
noncomputable def xzv (k:azk)(aa:az0):T bz2:=let ab:=i64.wrap (k.Kind-4);.cc (ref1_Rest_C) fun ac=>
 .cut 0 (fun s (ad:Cn)=>pk s [2,4,5] [0,128] [] [(256,.box [pz ad.1,pz ad.2.1,pz ad.2.2.1,pz ad.2.2.2.1,pz ad.2.2.2.2.1,pz ad.2.2.2.2.2.1,pz ad.2.2.2.2.2.2.1,pz ad.2.2.2.2.2.2.2.1,pz ad.2.2.2.2.2.2.2.2.1,pz ad.2.2.2.2.2.2.2.2.2.1,pz ad.2.2.2.2.2.2.2.2.2.2.1,pz ad.2.2.2.2.2.2.2.2.2.2.2.1,pz ad.2.2.2.2.2.2.2.2.2.2.2.2.1,pz ad.2.2.2.2.2.2.2.2.2.2.2.2.2.1,pz ad.2.2.2.2.2.2.2.2.2.2.2.2.2.2.1,pz ad.2.2.2.2.2.2.2.2.2.2.2.2.2.2.2.1,pz ad.2.2.2.2.2.2.2.2.2.2.2.2.2.2.2.2.1,pz ad.2.2.2.2.2.2.2.2.2.2.2.2.2.2.2.2.2.1,pz ad.2.2.2.2.2.2.2.2.2.2.2.2.2.2.2.2.2.2.1,pz ad.2.2.2.2.2.2.2.2.2.2.2.2.2.2.2.2.2.2.2.1,pz ad.2.2.2.2.2.2.2.2.2.2.2.2.2.2.2.2.2.2.2.2.1,pz ad.2.2.2.2.2.2.2.2.2.2.2.2.2.2.2.2.2.2.2.2.2.1,pz ad.2.2.2.2.2.2.2.2.2.2.2.2.2.2.2.2.2.2.2.2.2.2.1,pz ad.2.2.2.2.2.2.2.2.2.2.2.2.2.2.2.2.2.2.2.2.2.2.2])])
 (.cub 1 10 [2,3,4,5,9] [0,64,128,256]
 (.br (k.Kind==1)
 (.oo (k.Kind==1))
 (.br (k.Kind==2)
 (.oo (k.Kind==2))
 (.oo (k.Kind==3)))) fun ad=>
 .br ad
 (.cc (Bzq (i64.wrap (k.Kind-1)) (⟨aa.Lo,aa.Hi⟩:az0)) fun ae=>
 .oo (ae.R.1.1.Lo,ae.R.1.1.Hi,ae.R.1.2.1.Lo,ae.R.1.2.1.Hi,ae.R.1.2.2.Lo,ae.R.1.2.2.Hi,ae.R.2.1.1.Lo,ae.R.2.1.1.Hi,ae.R.2.1.2.1.Lo,ae.R.2.1.2.1.Hi,ae.R.2.1.2.2.Lo,ae.R.2.1.2.2.Hi,ae.R.2.2.1.Lo,ae.R.2.2.1.Hi,ae.R.2.2.2.1.Lo,ae.R.2.2.2.1.Hi,ae.R.2.2.2.2.Lo,ae.R.2.2.2.2.Hi,ae.T.1.Lo,ae.T.1.Hi,ae.T.2.1.Lo,ae.T.2.1.Hi,ae.T.2.2.Lo,ae.T.2.2.Hi))
 (.cub 0 19 [2,3,4,5] [0,64,128,256]
 (.br (k.Kind==4)
 (.oo (k.Kind==4))
 (.br (k.Kind==5)
 (.oo (k.Kind==5))
 (.oo (k.Kind==6)))) fun ae=>
 .br ae
 (.cut 1 (fun s (af:Ca)=>pk s [2,4,5,6] [0,128,256] [] [(640,.box [pz af.1,pz af.2.1,pz af.2.2.1,pz af.2.2.2.1,pz af.2.2.2.2.1,pz af.2.2.2.2.2])])
 (.cas 11002 ab 0
 (.ix 0 3 rfl<|
 .oo (aa.Lo,aa.Hi,0,0,0,0))
 (.cas 11002 ab 1
 (.ix 1 3 rfl<|
 .oo (0,0,aa.Lo,aa.Hi,0,0))
 (.cas 11002 ab 2
 (.ix 2 3 rfl<|
 .oo (0,0,0,0,aa.Lo,aa.Hi))
 (.stop)))) fun af=>
 .cc (Bzn ((⟨af.1,af.2.1⟩:az0),(⟨af.2.2.1,af.2.2.2.1⟩:az0),(⟨af.2.2.2.2.1,af.2.2.2.2.2⟩:az0))) fun ag=>
 .oo (ag.R.1.1.Lo,ag.R.1.1.Hi,ag.R.1.2.1.Lo,ag.R.1.2.1.Hi,ag.R.1.2.2.Lo,ag.R.1.2.2.Hi,ag.R.2.1.1.Lo,ag.R.2.1.1.Hi,ag.R.2.1.2.1.Lo,ag.R.2.1.2.1.Hi,ag.R.2.1.2.2.Lo,ag.R.2.1.2.2.Hi,ag.R.2.2.1.Lo,ag.R.2.2.1.Hi,ag.R.2.2.2.1.Lo,ag.R.2.2.2.1.Hi,ag.R.2.2.2.2.Lo,ag.R.2.2.2.2.Hi,ag.T.1.Lo,ag.T.1.Hi,ag.T.2.1.Lo,ag.T.2.1.Hi,ag.T.2.2.Lo,ag.T.2.2.Hi))
 (.oo (ac.R.1.1.Lo,ac.R.1.1.Hi,ac.R.1.2.1.Lo,ac.R.1.2.1.Hi,ac.R.1.2.2.Lo,ac.R.1.2.2.Hi,ac.R.2.1.1.Lo,ac.R.2.1.1.Hi,ac.R.2.1.2.1.Lo,ac.R.2.1.2.1.Hi,ac.R.2.1.2.2.Lo,ac.R.2.1.2.2.Hi,ac.R.2.2.1.Lo,ac.R.2.2.1.Hi,ac.R.2.2.2.1.Lo,ac.R.2.2.2.1.Hi,ac.R.2.2.2.2.Lo,ac.R.2.2.2.2.Hi,ac.T.1.Lo,ac.T.1.Hi,ac.T.2.1.Lo,ac.T.2.1.Hi,ac.T.2.2.Lo,ac.T.2.2.Hi)))) fun ad=>
 .cc (tzo k.Offset) fun ae=>
 .cc (Bzn ae) fun af=>
 .cc (uzt (⟨af.R,af.T⟩:bz2) (⟨(((⟨ad.1,ad.2.1⟩:az0),(⟨ad.2.2.1,ad.2.2.2.1⟩:az0),(⟨ad.2.2.2.2.1,ad.2.2.2.2.2.1⟩:az0)),((⟨ad.2.2.2.2.2.2.1,ad.2.2.2.2.2.2.2.1⟩:az0),(⟨ad.2.2.2.2.2.2.2.2.1,ad.2.2.2.2.2.2.2.2.2.1⟩:az0),(⟨ad.2.2.2.2.2.2.2.2.2.2.1,ad.2.2.2.2.2.2.2.2.2.2.2.1⟩:az0)),((⟨ad.2.2.2.2.2.2.2.2.2.2.2.2.1,ad.2.2.2.2.2.2.2.2.2.2.2.2.2.1⟩:az0),(⟨ad.2.2.2.2.2.2.2.2.2.2.2.2.2.2.1,ad.2.2.2.2.2.2.2.2.2.2.2.2.2.2.2.1⟩:az0),(⟨ad.2.2.2.2.2.2.2.2.2.2.2.2.2.2.2.2.1,ad.2.2.2.2.2.2.2.2.2.2.2.2.2.2.2.2.2.1⟩:az0))),((⟨ad.2.2.2.2.2.2.2.2.2.2.2.2.2.2.2.2.2.2.1,ad.2.2.2.2.2.2.2.2.2.2.2.2.2.2.2.2.2.2.2.1⟩:az0),(⟨ad.2.2.2.2.2.2.2.2.2.2.2.2.2.2.2.2.2.2.2.2.1,ad.2.2.2.2.2.2.2.2.2.2.2.2.2.2.2.2.2.2.2.2.2.1⟩:az0),(⟨ad.2.2.2.2.2.2.2.2.2.2.2.2.2.2.2.2.2.2.2.2.2.2.1,ad.2.2.2.2.2.2.2.2.2.2.2.2.2.2.2.2.2.2.2.2.2.2.2⟩:az0))⟩:bz2)) fun ag=>
 .ret ag
noncomputable def Hzj:=
 mkp2 Tryz.func152 xzv
noncomputable def xzy (k:azn)(aa:Ae):T Ag:=let ab:=(⟨k.Joints,k.Masses⟩:azn);.cub 2 16 [1,2] [0]
 (.cc (dzs ab) fun ac=>
 .br (ac !=0)
 (.oo true)
 (.cc (qzb ab aa) fun ad=>
 .oo (!ad))) fun ac=>
 .br ac
 (.ret nl)
 (.loop (fun s (ad:(Ag×Int))=>pk s [1,2,5] [0] [(6,pz ad.2)] [(192,vO ad.1 178)])
 (.exit 0) (fun s (ad:Ag)=>pk s [5] [] [] [(192,vO ad 178)])
 (fun ad=>let ae:=(ad.2).toNat;let af:=k.Joints.getD ae default;let ag:=af.Parent;.br (decide (ad.2<(aa.length:Int)))
 (.gh ad.2 k.Joints.length<|
 .gh ad.2 aa.length<|
 .cc (Hzj af (aa.getD ae default)) fun ah=>
 .cut 0 (fun s (ai:Cn)=>pk s [1,2,5,6,7] [0,192] [] [(1280,.box [pz ai.1,pz ai.2.1,pz ai.2.2.1,pz ai.2.2.2.1,pz ai.2.2.2.2.1,pz ai.2.2.2.2.2.1,pz ai.2.2.2.2.2.2.1,pz ai.2.2.2.2.2.2.2.1,pz ai.2.2.2.2.2.2.2.2.1,pz ai.2.2.2.2.2.2.2.2.2.1,pz ai.2.2.2.2.2.2.2.2.2.2.1,pz ai.2.2.2.2.2.2.2.2.2.2.2.1,pz ai.2.2.2.2.2.2.2.2.2.2.2.2.1,pz ai.2.2.2.2.2.2.2.2.2.2.2.2.2.1,pz ai.2.2.2.2.2.2.2.2.2.2.2.2.2.2.1,pz ai.2.2.2.2.2.2.2.2.2.2.2.2.2.2.2.1,pz ai.2.2.2.2.2.2.2.2.2.2.2.2.2.2.2.2.1,pz ai.2.2.2.2.2.2.2.2.2.2.2.2.2.2.2.2.2.1,pz ai.2.2.2.2.2.2.2.2.2.2.2.2.2.2.2.2.2.2.1,pz ai.2.2.2.2.2.2.2.2.2.2.2.2.2.2.2.2.2.2.2.1,pz ai.2.2.2.2.2.2.2.2.2.2.2.2.2.2.2.2.2.2.2.2.1,pz ai.2.2.2.2.2.2.2.2.2.2.2.2.2.2.2.2.2.2.2.2.2.1,pz ai.2.2.2.2.2.2.2.2.2.2.2.2.2.2.2.2.2.2.2.2.2.2.1,pz ai.2.2.2.2.2.2.2.2.2.2.2.2.2.2.2.2.2.2.2.2.2.2.2])])
 (.gh ad.2 k.Joints.length<|
 .br (ag !=(-1))
 (.gh ad.2 k.Joints.length<|
 .gg ag ad.1.length<|
 .call (uzt (ad.1.getD (ag.toNat) default) ah) [] fun ai=>
 .oo (ai.R.1.1.Lo,ai.R.1.1.Hi,ai.R.1.2.1.Lo,ai.R.1.2.1.Hi,ai.R.1.2.2.Lo,ai.R.1.2.2.Hi,ai.R.2.1.1.Lo,ai.R.2.1.1.Hi,ai.R.2.1.2.1.Lo,ai.R.2.1.2.1.Hi,ai.R.2.1.2.2.Lo,ai.R.2.1.2.2.Hi,ai.R.2.2.1.Lo,ai.R.2.2.1.Hi,ai.R.2.2.2.1.Lo,ai.R.2.2.2.1.Hi,ai.R.2.2.2.2.Lo,ai.R.2.2.2.2.Hi,ai.T.1.Lo,ai.T.1.Hi,ai.T.2.1.Lo,ai.T.2.1.Hi,ai.T.2.2.Lo,ai.T.2.2.Hi))
 (.oo (ah.R.1.1.Lo,ah.R.1.1.Hi,ah.R.1.2.1.Lo,ah.R.1.2.1.Hi,ah.R.1.2.2.Lo,ah.R.1.2.2.Hi,ah.R.2.1.1.Lo,ah.R.2.1.1.Hi,ah.R.2.1.2.1.Lo,ah.R.2.1.2.1.Hi,ah.R.2.1.2.2.Lo,ah.R.2.1.2.2.Hi,ah.R.2.2.1.Lo,ah.R.2.2.1.Hi,ah.R.2.2.2.1.Lo,ah.R.2.2.2.1.Hi,ah.R.2.2.2.2.Lo,ah.R.2.2.2.2.Hi,ah.T.1.Lo,ah.T.1.Hi,ah.T.2.1.Lo,ah.T.2.1.Hi,ah.T.2.2.Lo,ah.T.2.2.Hi))) fun ai=>let aj:=([(⟨(((⟨ai.1,ai.2.1⟩:az0),(⟨ai.2.2.1,ai.2.2.2.1⟩:az0),(⟨ai.2.2.2.2.1,ai.2.2.2.2.2.1⟩:az0)),((⟨ai.2.2.2.2.2.2.1,ai.2.2.2.2.2.2.2.1⟩:az0),(⟨ai.2.2.2.2.2.2.2.2.1,ai.2.2.2.2.2.2.2.2.2.1⟩:az0),(⟨ai.2.2.2.2.2.2.2.2.2.2.1,ai.2.2.2.2.2.2.2.2.2.2.2.1⟩:az0)),((⟨ai.2.2.2.2.2.2.2.2.2.2.2.2.1,ai.2.2.2.2.2.2.2.2.2.2.2.2.2.1⟩:az0),(⟨ai.2.2.2.2.2.2.2.2.2.2.2.2.2.2.1,ai.2.2.2.2.2.2.2.2.2.2.2.2.2.2.2.1⟩:az0),(⟨ai.2.2.2.2.2.2.2.2.2.2.2.2.2.2.2.2.1,ai.2.2.2.2.2.2.2.2.2.2.2.2.2.2.2.2.2.1⟩:az0))),((⟨ai.2.2.2.2.2.2.2.2.2.2.2.2.2.2.2.2.2.2.1,ai.2.2.2.2.2.2.2.2.2.2.2.2.2.2.2.2.2.2.2.1⟩:az0),(⟨ai.2.2.2.2.2.2.2.2.2.2.2.2.2.2.2.2.2.2.2.2.1,ai.2.2.2.2.2.2.2.2.2.2.2.2.2.2.2.2.2.2.2.2.2.1⟩:az0),(⟨ai.2.2.2.2.2.2.2.2.2.2.2.2.2.2.2.2.2.2.2.2.2.2.1,ai.2.2.2.2.2.2.2.2.2.2.2.2.2.2.2.2.2.2.2.2.2.2.2⟩:az0))⟩:bz2)]:Ag);let ak:=ad.1.length+aj.length;
 .conv 10002 (kL aj 178)<|
 .conv 10003 (kA ad.1 aj 178)<|
 .grd (ak * 192≤140737488355328/\ak≤maxLen)<|
 .nn ((ad.1++aj),(i64.wrap (ad.2+1))))
 (.oo ad.1))
 (nl,0) [] fun ad=>
 .ret ad)
noncomputable def xzx:=
 mkp2 Tryz.func84 xzy
noncomputable def Bzj (k:bz2)(aa:Bp):T Bp:=
 .cc (rzs k.R aa) fun ab=>
 .cc (yz5 k.T ab) fun ac=>
 .ret ac
noncomputable def Bzi:=
 mkp2 Tryz.func115 Bzj
noncomputable def vz1 (k:az1)(aa:Int)(ab:Int)(ac:A4):T Bool:=let ad:=i64.wrap (65536-k.Slack);let ae:=i64.wrap (0-k.Slack);let af:=k.Hands.getD (aa.toNat) default;let ag:=k.Places.getD (ab.toNat) default;.cub 2 47 [1,2,3,4] [0]
 (.cc (gza k) fun ah=>
 .br (ah !=0)
 (.oo true)
 (.br (decide (aa<0))
 (.oo true)
 (.br (decide (aa≥(k.Hands.length:Int)))
 (.oo true)
 (.br (decide (ab<0))
 (.oo true)
 (.br (decide (ab≥(k.Places.length:Int)))
 (.oo true)
 (.cc (uzn k.Scene.Robot ac) fun ai=>
 .oo (!ai))))))) fun ah=>
 .br ah
 (.ret false)
 (.gh aa k.Hands.length<|
 .cc (Fz9 ac) fun ai=>
 .cc (xzx k.Scene.Robot ai) fun aj=>let ak:=aj.getD ((af.Link).toNat) default;let al:=ak.R.1.2.1.Lo;let am:=ak.R.1.2.2.Lo;let an:=ak.R.2.1.1.Lo;let ao:=ak.R.2.2.1.Lo;let ap:=ak.R.2.1.2.1.Lo;let aq:=ak.R.2.1.2.2.Lo;let ar:=ak.R.2.2.2.1.Lo;let au:=ak.R.2.2.2.2.Lo;let av:=decide ((ak.R.1.1.Lo)<ad);let aw:=decide (al<ae);let ax:=decide (am<ae);let ay:=decide (an<ae);let az:=decide (ap<ad);let a0:=decide (aq<ae);let a1:=decide (ao<ae);let a2:=decide (ar<ae);let a3:=decide (au<ad);let a4:=decide ((ak.R.1.2.1.Hi)>k.Slack);let a5:=decide ((ak.R.1.2.2.Hi)>k.Slack);let a6:=decide ((ak.R.2.1.1.Hi)>k.Slack);let a7:=decide ((ak.R.2.1.2.2.Hi)>k.Slack);let a8:=decide ((ak.R.2.2.1.Hi)>k.Slack);let a9:=decide ((ak.R.2.2.2.1.Hi)>k.Slack);
 .gh (af.Link) aj.length<|
 .cc (tzo (af.Offset)) fun ba=>
 .call (Bzi ak ba) [] fun bb=>
 .unroll 4<|
 .known true<|
 .unroll 4<|
 .known true<|
 .ix 0 3 rfl<|
 .ix 0 3 rfl<|
 .cut 0 (fun s (bc:Bool)=>pk s [2,4,10,11,12,13] [0,1280,1728,2624] [(86,.ptr 2624 0),(87,pz (ak.R.1.1.Lo)),(88,.ptr 0 8),(89,pz k.Slack),(90,pz ad),(91,q av),(98,.tup []),(99,.tup []),(100,.tup []),(101,.tup []),(102,.tup []),(103,.tup []),(104,.tup []),(105,.tup []),(106,.tup []),(107,.tup []),(108,.tup []),(109,.tup []),(110,.tup []),(112,q bc)] [])
 (.known true<|
 .br av
 (.oo true)
 (.known false<|
 .oo false)) fun bc=>
 .br bc
 (.ret false)
 (.lit 11001 (1)<|
 .known true<|
 .ix 0 3 rfl<|
 .ix 1 3 rfl<|
 .cut 0 (fun s (bd:C7)=>pk s [2,4,10,11,12,13] [0,1280,1728,3520] [(86,.tup []),(87,.tup []),(88,.tup []),(89,.tup []),(90,.tup []),(91,.tup []),(94,pz 0),(95,pz 1),(96,q (0 !=1)),(97,.tt),(98,.ptr 3520 0),(99,pz al),(100,.ptr 0 8),(101,pz k.Slack),(102,pz ae),(103,q aw),(104,q bd.1),(110,q bd.2.1),(111,q bd.2.2.1),(112,q bd.2.2.2)] [])
 (.known false<|
 .known true<|
 .br aw
 (.oo (true,true,true,true))
 (.oo (false,a4,a4,a4))) fun bd=>
 .br bd.2.2.2
 (.ret false)
 (.lit 11001 (2)<|
 .known true<|
 .ix 0 3 rfl<|
 .ix 2 3 rfl<|
 .cut 0 (fun s (be:C7)=>pk s [2,4,10,11,12,13,86,87,88,89,90,91,94,97,100,101,102] [0,1280,1728,4416] [(95,pz 2),(96,q (0 !=2)),(98,.ptr 4416 0),(99,pz am),(103,q ax),(104,q be.1),(110,q be.2.1),(111,q be.2.2.1),(112,q be.2.2.2)] [])
 (.known false<|
 .known true<|
 .br ax
 (.oo (true,true,true,true))
 (.oo (false,a5,a5,a5))) fun be=>
 .br be.2.2.2
 (.ret false)
 (.lit 11001 (3)<|
 .known false<|
 .cub 0 144 [2,4,10,11,12,86,87,88,89,90,91,94,95,96,97,98,99,100,101,102,103,104,110,111] [0,1280,1728,4416]
 (.ix 0 3 rfl<|
 .gh ab k.Places.length<|
 .ix 0 3 rfl<|
 .br (decide (bb.1.Lo<(i64.wrap ((ag.1)-k.Slack))))
 (.oo true)
 (.ix 0 3 rfl<|
 .gh ab k.Places.length<|
 .ix 0 3 rfl<|
 .oo (decide (bb.1.Hi>(i64.wrap ((ag.1)+k.Slack)))))) fun bf=>
 .br bf
 (.ret false)
 (.lit 8001 (1)<|
 .known true<|
 .unroll 4<|
 .known true<|
 .ix 1 3 rfl<|
 .ix 0 3 rfl<|
 .cut 0 (fun s (bg:C7)=>pk s [2,4,10,11,12,13,86,87,88,89,90,91,97,100,101,102] [0,1280,1728,5888] [(94,pz 1),(95,pz 0),(96,q (1 !=0)),(98,.ptr 5888 0),(99,pz an),(103,q ay),(104,q bg.1),(110,q bg.2.1),(111,q bg.2.2.1),(112,q bg.2.2.2)] [])
 (.known false<|
 .known true<|
 .br ay
 (.oo (true,true,true,true))
 (.oo (false,a6,a6,a6))) fun bg=>
 .br bg.2.2.2
 (.ret false)
 (.lit 11001 (1)<|
 .known true<|
 .ix 1 3 rfl<|
 .ix 1 3 rfl<|
 .cut 0 (fun s (bh:Bool)=>pk s [2,4,10,11,12,13] [0,1280,1728,6784] [(86,.ptr 6784 0),(87,pz ap),(88,.ptr 0 8),(89,pz k.Slack),(90,pz ad),(91,q az),(98,.tup []),(99,.tup []),(100,.tup []),(101,.tup []),(102,.tup []),(103,.tup []),(104,.tup []),(105,.tup []),(106,.tup []),(107,.tup []),(108,.tup []),(109,.tup []),(110,.tup []),(112,q bh)] [])
 (.known true<|
 .br az
 (.oo true)
 (.known false<|
 .oo false)) fun bh=>
 .br bh
 (.ret false)
 (.lit 11001 (2)<|
 .known true<|
 .ix 1 3 rfl<|
 .ix 2 3 rfl<|
 .cut 0 (fun s (bi:C7)=>pk s [2,4,10,11,12,13] [0,1280,1728,7680] [(86,.tup []),(87,.tup []),(88,.tup []),(89,.tup []),(90,.tup []),(91,.tup []),(94,pz 1),(95,pz 2),(96,q (1 !=2)),(97,.tt),(98,.ptr 7680 0),(99,pz aq),(100,.ptr 0 8),(101,pz k.Slack),(102,pz ae),(103,q a0),(104,q bi.1),(110,q bi.2.1),(111,q bi.2.2.1),(112,q bi.2.2.2)] [])
 (.known false<|
 .known true<|
 .br a0
 (.oo (true,true,true,true))
 (.oo (false,a7,a7,a7))) fun bi=>
 .br bi.2.2.2
 (.ret false)
 (.lit 11001 (3)<|
 .known false<|
 .cub 0 144 [2,4,10,11,12,86,87,88,89,90,91,94,95,96,97,98,99,100,101,102,103,104,110,111] [0,1280,1728,7680]
 (.ix 1 3 rfl<|
 .gh ab k.Places.length<|
 .ix 1 3 rfl<|
 .br (decide (bb.2.1.Lo<(i64.wrap ((ag.2.1)-k.Slack))))
 (.oo true)
 (.ix 1 3 rfl<|
 .gh ab k.Places.length<|
 .ix 1 3 rfl<|
 .oo (decide (bb.2.1.Hi>(i64.wrap ((ag.2.1)+k.Slack)))))) fun bj=>
 .br bj
 (.ret false)
 (.lit 8001 (2)<|
 .known true<|
 .unroll 4<|
 .known true<|
 .ix 2 3 rfl<|
 .ix 0 3 rfl<|
 .cut 0 (fun s (bk:C7)=>pk s [2,4,10,11,12,13,86,87,88,89,90,91,97,100,101,102] [0,1280,1728,9152] [(94,pz 2),(95,pz 0),(96,q (2 !=0)),(98,.ptr 9152 0),(99,pz ao),(103,q a1),(104,q bk.1),(110,q bk.2.1),(111,q bk.2.2.1),(112,q bk.2.2.2)] [])
 (.known false<|
 .known true<|
 .br a1
 (.oo (true,true,true,true))
 (.oo (false,a8,a8,a8))) fun bk=>
 .br bk.2.2.2
 (.ret false)
 (.lit 11001 (1)<|
 .known true<|
 .ix 2 3 rfl<|
 .ix 1 3 rfl<|
 .cut 0 (fun s (bl:C7)=>pk s [2,4,10,11,12,13,86,87,88,89,90,91,94,97,100,101,102] [0,1280,1728,10048] [(95,pz 1),(96,q (2 !=1)),(98,.ptr 10048 0),(99,pz ar),(103,q a2),(104,q bl.1),(110,q bl.2.1),(111,q bl.2.2.1),(112,q bl.2.2.2)] [])
 (.known false<|
 .known true<|
 .br a2
 (.oo (true,true,true,true))
 (.oo (false,a9,a9,a9))) fun bl=>
 .br bl.2.2.2
 (.ret false)
 (.lit 11001 (2)<|
 .known true<|
 .ix 2 3 rfl<|
 .ix 2 3 rfl<|
 .cut 0 (fun s (bm:Bool)=>pk s [2,4,10,11,12,13] [0,1280,1728,10944] [(86,.ptr 10944 0),(87,pz au),(88,.ptr 0 8),(89,pz k.Slack),(90,pz ad),(91,q a3),(98,.tup []),(99,.tup []),(100,.tup []),(101,.tup []),(102,.tup []),(103,.tup []),(104,.tup []),(105,.tup []),(106,.tup []),(107,.tup []),(108,.tup []),(109,.tup []),(110,.tup []),(112,q bm)] [])
 (.known true<|
 .br a3
 (.oo true)
 (.known false<|
 .oo false)) fun bm=>
 .br bm
 (.ret false)
 (.lit 11001 (3)<|
 .known false<|
 .cub 0 144 [2,4,10,11,12,86,87,88,89,90,91,98,99,100,101,102,103,104,105,106,107,108,109,110] [0,1280,1728,10944]
 (.ix 2 3 rfl<|
 .gh ab k.Places.length<|
 .ix 2 3 rfl<|
 .br (decide (bb.2.2.Lo<(i64.wrap ((ag.2.2)-k.Slack))))
 (.oo true)
 (.ix 2 3 rfl<|
 .gh ab k.Places.length<|
 .ix 2 3 rfl<|
 .oo (decide (bb.2.2.Hi>(i64.wrap ((ag.2.2)+k.Slack)))))) fun bn=>
 .br bn
 (.ret false)
 (.lit 8001 (3)<|
 .known false<|
 .ret true)))))))))))))
noncomputable def nzx:=
 mkp4 Tryz.func56 vz1
noncomputable def xzz (k:aza)(aa:bz2):T Bq:=
 .cc (lzo k) fun ab=>
 .br (!ab)
 (.ret nl)
 (.loop (fun s (ac:(Bq×Int))=>pk s [2,3,5] [0,64] [(6,pz ac.2)] [(384,vO ac.1 108)])
 (.exit 0) (fun s (ac:Bq)=>pk s [5] [] [] [(384,vO ac 108)])
 (fun ac=>.br (decide (ac.2<(k.Points.length:Int)))
 (.gh ac.2 k.Points.length<|
 .cc (tzo (k.Points.getD ((ac.2).toNat) default)) fun ad=>
 .cc (Bzi aa ad) fun ae=>let af:=([ae]:Bq);let ag:=ac.1.length+af.length;
 .conv 7009 (kL af 108)<|
 .conv 7010 (kA ac.1 af 108)<|
 .grd (ag * 48≤140737488355328/\ag≤maxLen)<|
 .nn ((ac.1++af),(i64.wrap (ac.2+1))))
 (.oo ac.1))
 (nl,0) [] fun ac=>
 .ret ac)
noncomputable def Hzm:=
 mkp2 Tryz.func86 xzz
noncomputable def uzq (k:azc)(aa:Ae):T Br:=
 .cub 2 18 [1,2] [0]
 (.cc (gzc k) fun ab=>
 .br (ab !=0)
 (.oo true)
 (.cc (qzb k.Robot aa) fun ac=>
 .oo (!ac))) fun ab=>
 .br ab
 (.ret nl)
 (.cc (xzx k.Robot aa) fun ac=>
 .loop (fun s (ad:(Br×Int))=>pk s [2,5,6] [0] [(7,pz ad.2)] [(512,vO ad.1 109)])
 (.exit 0) (fun s (ad:Br)=>pk s [6] [] [] [(512,vO ad 109)])
 (fun ad=>let ae:=k.Shapes.getD ((ad.2).toNat) default;let af:=ae.Link;let ag:=ac.getD (af.toNat) default;.br (decide (ad.2<(k.Shapes.length:Int)))
 (.cc (ref1_Rest_C) fun ah=>
 .cut 0 (fun s (ai:Cn)=>pk s [2,5,6,7,8] [0,512] [] [(1088,.box [pz ai.1,pz ai.2.1,pz ai.2.2.1,pz ai.2.2.2.1,pz ai.2.2.2.2.1,pz ai.2.2.2.2.2.1,pz ai.2.2.2.2.2.2.1,pz ai.2.2.2.2.2.2.2.1,pz ai.2.2.2.2.2.2.2.2.1,pz ai.2.2.2.2.2.2.2.2.2.1,pz ai.2.2.2.2.2.2.2.2.2.2.1,pz ai.2.2.2.2.2.2.2.2.2.2.2.1,pz ai.2.2.2.2.2.2.2.2.2.2.2.2.1,pz ai.2.2.2.2.2.2.2.2.2.2.2.2.2.1,pz ai.2.2.2.2.2.2.2.2.2.2.2.2.2.2.1,pz ai.2.2.2.2.2.2.2.2.2.2.2.2.2.2.2.1,pz ai.2.2.2.2.2.2.2.2.2.2.2.2.2.2.2.2.1,pz ai.2.2.2.2.2.2.2.2.2.2.2.2.2.2.2.2.2.1,pz ai.2.2.2.2.2.2.2.2.2.2.2.2.2.2.2.2.2.2.1,pz ai.2.2.2.2.2.2.2.2.2.2.2.2.2.2.2.2.2.2.2.1,pz ai.2.2.2.2.2.2.2.2.2.2.2.2.2.2.2.2.2.2.2.2.1,pz ai.2.2.2.2.2.2.2.2.2.2.2.2.2.2.2.2.2.2.2.2.2.1,pz ai.2.2.2.2.2.2.2.2.2.2.2.2.2.2.2.2.2.2.2.2.2.2.1,pz ai.2.2.2.2.2.2.2.2.2.2.2.2.2.2.2.2.2.2.2.2.2.2.2])])
 (.gh ad.2 k.Shapes.length<|
 .br (af !=(-1))
 (.gh ad.2 k.Shapes.length<|
 .gh af ac.length<|
 .oo (ag.R.1.1.Lo,ag.R.1.1.Hi,ag.R.1.2.1.Lo,ag.R.1.2.1.Hi,ag.R.1.2.2.Lo,ag.R.1.2.2.Hi,ag.R.2.1.1.Lo,ag.R.2.1.1.Hi,ag.R.2.1.2.1.Lo,ag.R.2.1.2.1.Hi,ag.R.2.1.2.2.Lo,ag.R.2.1.2.2.Hi,ag.R.2.2.1.Lo,ag.R.2.2.1.Hi,ag.R.2.2.2.1.Lo,ag.R.2.2.2.1.Hi,ag.R.2.2.2.2.Lo,ag.R.2.2.2.2.Hi,ag.T.1.Lo,ag.T.1.Hi,ag.T.2.1.Lo,ag.T.2.1.Hi,ag.T.2.2.Lo,ag.T.2.2.Hi))
 (.oo (ah.R.1.1.Lo,ah.R.1.1.Hi,ah.R.1.2.1.Lo,ah.R.1.2.1.Hi,ah.R.1.2.2.Lo,ah.R.1.2.2.Hi,ah.R.2.1.1.Lo,ah.R.2.1.1.Hi,ah.R.2.1.2.1.Lo,ah.R.2.1.2.1.Hi,ah.R.2.1.2.2.Lo,ah.R.2.1.2.2.Hi,ah.R.2.2.1.Lo,ah.R.2.2.1.Hi,ah.R.2.2.2.1.Lo,ah.R.2.2.2.1.Hi,ah.R.2.2.2.2.Lo,ah.R.2.2.2.2.Hi,ah.T.1.Lo,ah.T.1.Hi,ah.T.2.1.Lo,ah.T.2.1.Hi,ah.T.2.2.Lo,ah.T.2.2.Hi))) fun ai=>
 .gh ad.2 k.Shapes.length<|
 .cc (Hzm ae (⟨(((⟨ai.1,ai.2.1⟩:az0),(⟨ai.2.2.1,ai.2.2.2.1⟩:az0),(⟨ai.2.2.2.2.1,ai.2.2.2.2.2.1⟩:az0)),((⟨ai.2.2.2.2.2.2.1,ai.2.2.2.2.2.2.2.1⟩:az0),(⟨ai.2.2.2.2.2.2.2.2.1,ai.2.2.2.2.2.2.2.2.2.1⟩:az0),(⟨ai.2.2.2.2.2.2.2.2.2.2.1,ai.2.2.2.2.2.2.2.2.2.2.2.1⟩:az0)),((⟨ai.2.2.2.2.2.2.2.2.2.2.2.2.1,ai.2.2.2.2.2.2.2.2.2.2.2.2.2.1⟩:az0),(⟨ai.2.2.2.2.2.2.2.2.2.2.2.2.2.2.1,ai.2.2.2.2.2.2.2.2.2.2.2.2.2.2.2.1⟩:az0),(⟨ai.2.2.2.2.2.2.2.2.2.2.2.2.2.2.2.2.1,ai.2.2.2.2.2.2.2.2.2.2.2.2.2.2.2.2.2.1⟩:az0))),((⟨ai.2.2.2.2.2.2.2.2.2.2.2.2.2.2.2.2.2.2.1,ai.2.2.2.2.2.2.2.2.2.2.2.2.2.2.2.2.2.2.2.1⟩:az0),(⟨ai.2.2.2.2.2.2.2.2.2.2.2.2.2.2.2.2.2.2.2.2.1,ai.2.2.2.2.2.2.2.2.2.2.2.2.2.2.2.2.2.2.2.2.2.1⟩:az0),(⟨ai.2.2.2.2.2.2.2.2.2.2.2.2.2.2.2.2.2.2.2.2.2.2.1,ai.2.2.2.2.2.2.2.2.2.2.2.2.2.2.2.2.2.2.2.2.2.2.2⟩:az0))⟩:bz2)) fun aj=>let ak:=([aj]:Br);let al:=ad.1.length+ak.length;
 .conv 11008 (kL ak 109)<|
 .conv 11009 (kA ad.1 ak 109)<|
 .grd (al * 24≤140737488355328/\al≤maxLen)<|
 .nn ((ad.1++ak),(i64.wrap (ad.2+1))))
 (.oo ad.1))
 (nl,0) [] fun ad=>
 .ret ad)
noncomputable def Ez4:=
 mkp2 Tryz.func36 uzq
noncomputable def Bzx (k:azn)(aa:Int):T A4:=
 .cub 2 15 [1,2] [0]
 (.cc (dzs k) fun ab=>
 .br (ab !=0)
 (.oo true)
 (.cc (ezo k aa) fun ac=>
 .oo (!ac))) fun ab=>
 .br ab
 (.ret nl)
 (.loop (fun s (ac:Ah)=>pk s [2,5] [0] [(6,pz ac.2)] [(192,vO ac.1 3)])
 (.exit 0) (fun s (ac:A4)=>pk s [5] [] [] [(192,vO ac 3)])
 (fun ac=>let ad:=([ac.2]:A4);let ae:=ad.length+ac.1.length;.br (ac.2 !=(-1))
 (.conv 7001 (kL ad 3)<|
 .conv 7003 (kA ad ac.1 3)<|
 .grd (ae * 8≤140737488355328/\ae≤maxLen)<|
 .gh ac.2 k.Joints.length<|
 .nn ((ad++ac.1),(k.Joints.getD ((ac.2).toNat) default).Parent))
 (.oo ac.1))
 (nl,aa) [] fun ac=>
 .ret ac)
noncomputable def tzp:=
 mkp2 Tryz.func487 Bzx
noncomputable def yzi (k:A4)(aa:Int):T Bool:=
 .loop (ik 5 [0,1] [])
 (.exit 0) (jk [] [])
 (fun ab=>.br (decide (ab<(k.length:Int)))
 (.gh ab k.length<|
 .br ((k.getD (ab.toNat) default)==aa)
 (.ff true)
 (.nn (i64.wrap (ab+1))))
 (.oo .u))
 0 [] fun _=>
 .ret false
noncomputable def yzh:=
 mkp2 Tryz.func488 yzi
noncomputable def vz3 (k:azn)(aa:Int)(ab:Int):T A4:=
 .cub 2 25 [1,2,3] [0]
 (.cc (dzs k) fun ac=>
 .br (ac !=0)
 (.oo true)
 (.cc (ezo k aa) fun ad=>
 .br (!ad)
 (.oo true)
 (.cc (ezo k ab) fun ae=>
 .oo (!ae)))) fun ac=>
 .br ac
 (.ret nl)
 (.cc (tzp k aa) fun ad=>
 .cc (tzp k ab) fun ae=>
 .loop (fun s (af:Ah)=>pk s [3,7,8,9] [0] [(10,pz af.2)] [(704,vO af.1 3)])
 (.exit 0) (fun s (af:A4)=>pk s [9] [] [] [(704,vO af 3)])
 (fun af=>let ag:=([af.2]:A4);let ah:=af.1.length+ag.length;.br (decide (af.2<(k.Joints.length:Int)))
 (.cut 0 (fun s (ai:A4)=>pk s [3,7,8,10] [0] [(9,.vec 1216)] [(1216,vO ai 3)])
 (.cc (yzh ad af.2) fun ai=>
 .cc (yzh ae af.2) fun aj=>
 .br (!(ai==aj))
 (.conv 9002 (kL ag 3)<|
 .conv 9003 (kA af.1 ag 3)<|
 .grd (ah * 8≤140737488355328/\ah≤maxLen)<|
 .oo (af.1++ag))
 (.oo af.1)) fun ai=>
 .nn (ai,(i64.wrap (af.2+1))))
 (.oo af.1))
 (nl,0) [] fun af=>
 .ret af)
noncomputable def Ezb:=
 mkp3 Tryz.func431 vz3
noncomputable def Bzz (k:azn)(aa:Int)(ab:Int):T Bool:=
 .cub 2 23 [1,2,3] [0]
 (.cc (dzs k) fun ac=>
 .br (ac !=0)
 (.oo true)
 (.cc (ezo k aa) fun ad=>
 .br (!ad)
 (.oo true)
 (.cc (ezo k ab) fun ae=>
 .oo (!ae)))) fun ac=>
 .br ac
 (.ret false)
 (.cc (Ezb (⟨k.Joints,k.Masses⟩:azn) aa ab) fun ad=>
 .loop (ik 8 [3,7] [0])
 (.exit 0) (jk [] [])
 (fun ae=>let af:=ad.getD (ae.toNat) default;let ag:=k.Joints.getD (af.toNat) default;.br (decide (ae<(ad.length:Int)))
 (.gh ae ad.length<|
 .gh af k.Joints.length<|
 .gh ae ad.length<|
 .gh af k.Joints.length<|
 .br (decide ((ag.Lo)<(ag.Hi)))
 (.ff false)
 (.nn (i64.wrap (ae+1))))
 (.oo .u))
 0 [] fun _=>
 .ret true)
noncomputable def Lzp:=
 mkp3 Tryz.func337 Bzz
noncomputable def vz4 (k:azc)(aa:Int)(ab:Int):T Bool:=
 .loop (ik 7 [1,2,3] [0])
 (.exit 0) (jk [] [])
 (fun ac=>let ad:=k.Skips.getD (ac.toNat) default;.br (decide (ac<(k.Skips.length:Int)))
 (.gh ac k.Skips.length<|
 .cub 0 42 [1,2,3,7] [0]
 (.br ((ad.A)==aa)
 (.br ((ad.B)==ab)
 (.oo true)
 (.br ((ad.A)==ab)
 (.oo ((ad.B)==aa))
 (.oo false)))
 (.br ((ad.A)==ab)
 (.oo ((ad.B)==aa))
 (.oo false))) fun ae=>
 .br ae
 (.ff true)
 (.nn (i64.wrap (ac+1))))
 (.oo .u))
 0 [] fun _=>
 .ret false
noncomputable def Ezc:=
 mkp3 Tryz.func338 vz4
noncomputable def Bzy (k:azc):T Ai:=let aa:=(k.Shapes.length:Nat);.cc (gzc k) fun ab=>
 .br (ab !=0)
 (.ret nl)
 (.loop (fun s (ac:Aj)=>pk s [1,3] [0] [(4,pz ac.2)] [(320,vO ac.1 347)])
 (.exit 0) (fun s (ac:Ai)=>pk s [3] [] [] [(320,vO ac 347)])
 (fun ac=>let ad:=(k.Shapes.getD ((ac.2).toNat) default).Link;let ae:=i64.wrap (ac.2+1);.br (decide (ac.2<(aa:Int)))
 (.loop (fun s (af:Aj)=>pk s [1,3,4] [0] [(5,pz af.2)] [(320,vO af.1 347)])
 (.exit 2) (fun s (af:Ai)=>pk s [1,3,4] [0] [] [(320,vO af 347)])
 (fun af=>let ag:=([(⟨ac.2,af.2⟩:bzx)]:Ai);let ah:=af.1.length+ag.length;let ai:=(k.Shapes.getD ((af.2).toNat) default).Link;.br (decide (af.2<(aa:Int)))
 (.cut 0 (fun s (aj:Ai)=>pk s [1,4,5] [0] [(3,.vec 1408)] [(1408,vO aj 347)])
 (.gh ac.2 k.Shapes.length<|
 .gh af.2 k.Shapes.length<|
 .cub 0 56 [1,3,4,5] [0,320]
 (.br (ad !=ai)
 (.cc (Lzp k.Robot ad ai) fun aj=>
 .br (!aj)
 (.cc (Ezc k ad ai) fun ak=>
 .oo (!ak))
 (.oo false))
 (.oo false)) fun aj=>
 .br aj
 (.conv 12004 (kL ag 347)<|
 .conv 12005 (kA af.1 ag 347)<|
 .grd (ah * 16≤140737488355328/\ah≤maxLen)<|
 .oo (af.1++ag))
 (.oo af.1)) fun aj=>
 .nn (aj,(i64.wrap (af.2+1))))
 (.oo af.1))
 (ac.1,ae) [] fun af=>
 .nn (af,ae))
 (.oo ac.1))
 (nl,0) [] fun ac=>
 .ret ac)
noncomputable def Lzo:=
 mkp1 Tryz.func237 Bzy
noncomputable def yz4 (k:azc)(aa:Ae):T (B0×B0×Bool):=
 .cub 2 23 [1,2] [0]
 (.cc (gzc k) fun ab=>
 .br (ab !=0)
 (.oo true)
 (.cc (qzb k.Robot aa) fun ac=>
 .oo (!ac))) fun ab=>
 .br ab
 (.ret (nl,nl,false))
 (.cc (Ez4 (⟨k.Robot,k.Shapes,k.Skips⟩:azc) aa) fun ac=>
 .cc (Lzo k) fun ad=>
 .loop (fun s (ae:(B0×B0×Int))=>pk s [2,7,8,9,10] [0] [(11,pz ae.2.2)] [(576,vO ae.1 258),(640,vO ae.2.1 258)])
 (.exit 0) (fun s (ae:(B0×B0))=>pk s [8,9] [] [] [(576,vO ae.1 258),(640,vO ae.2 258)])
 (fun ae=>let af:=ad.getD ((ae.2.2).toNat) default;let ag:=(af.A).toNat;let ah:=(af.B).toNat;let ai:=([(⟨(ac.getD ag default),(k.Shapes.getD ag default).Radius⟩:azr)]:B0);let aj:=ae.1.length+ai.length;let ak:=([(⟨(ac.getD ah default),(k.Shapes.getD ah default).Radius⟩:azr)]:B0);let al:=ae.2.1.length+ak.length;.br (decide (ae.2.2<(ad.length:Int)))
 (.gh ae.2.2 ad.length<|
 .gh ae.2.2 ad.length<|
 .gh (af.A) ac.length<|
 .gh (af.A) k.Shapes.length<|
 .conv 10012 (kL ai 258)<|
 .conv 10013 (kA ae.1 ai 258)<|
 .grd (aj * 32≤140737488355328/\aj≤maxLen)<|
 .gh (af.B) ac.length<|
 .gh (af.B) k.Shapes.length<|
 .conv 11012 (kL ak 258)<|
 .conv 11013 (kA ae.2.1 ak 258)<|
 .grd (al * 32≤140737488355328/\al≤maxLen)<|
 .nn ((ae.1++ai),(ae.2.1++ak),(i64.wrap (ae.2.2+1))))
 (.oo (ae.1,ae.2.1)))
 (nl,nl,0) [] fun ae=>
 .ret (ae.1,ae.2,true))
noncomputable def Hzq:=
 mkq2 Tryz.func144 yz4 (fun r=>.tup [q r.1,q r.2.1,q r.2.2])
noncomputable def rzp (k:Bp):T Bool:=
 .unroll 4<|
 .known true<|
 .cub 1 30 [1,3] [0]
 (.ix 0 3 rfl<|
 .br (decide (k.1.Lo<(-268435456)))
 (.oo true)
 (.ix 0 3 rfl<|
 .ix 0 3 rfl<|
 .br (decide (k.1.Lo>k.1.Hi))
 (.oo true)
 (.ix 0 3 rfl<|
 .oo (decide (k.1.Hi>268435456))))) fun aa=>
 .br aa
 (.ret false)
 (.lit 3001 (1)<|
 .known true<|
 .cub 1 30 [1,3] [0]
 (.ix 1 3 rfl<|
 .br (decide (k.2.1.Lo<(-268435456)))
 (.oo true)
 (.ix 1 3 rfl<|
 .ix 1 3 rfl<|
 .br (decide (k.2.1.Lo>k.2.1.Hi))
 (.oo true)
 (.ix 1 3 rfl<|
 .oo (decide (k.2.1.Hi>268435456))))) fun ab=>
 .br ab
 (.ret false)
 (.lit 3001 (2)<|
 .known true<|
 .cub 1 30 [1,3] [0]
 (.ix 2 3 rfl<|
 .br (decide (k.2.2.Lo<(-268435456)))
 (.oo true)
 (.ix 2 3 rfl<|
 .ix 2 3 rfl<|
 .br (decide (k.2.2.Lo>k.2.2.Hi))
 (.oo true)
 (.ix 2 3 rfl<|
 .oo (decide (k.2.2.Hi>268435456))))) fun ac=>
 .br ac
 (.ret false)
 (.lit 3001 (3)<|
 .known false<|
 .ret true)))
noncomputable def rzo:=
 mkp1 Tryz.func344 rzp
noncomputable def uzp (k:Bq):T Bool:=let aa:=(k.length:Int);.loop (ik 3 [0] [])
 (.exit 0) (jk [0] [])
 (fun ab=>.cub 1 11 [0,3] []
 (.br (decide (ab<aa))
 (.oo (decide (ab≤8)))
 (.oo false)) fun ac=>
 .br ac
 (.gh ab k.length<|
 .cc (rzo (k.getD (ab.toNat) default)) fun ad=>
 .br (!ad)
 (.ff false)
 (.nn (i64.wrap (ab+1))))
 (.oo .u))
 0 [] fun _=>
 .br (decide (aa≥1))
 (.ret (decide (aa≤8)))
 (.ret false)
noncomputable def dzz:=
 mkp1 Tryz.func249 uzp
noncomputable def jzk (k:Int):T Bool:=
 .br (decide (k≥0))
 (.ret (decide (k≤1048576)))
 (.ret false)
noncomputable def ezt:=
 mkp1 Tryz.func339 jzk
noncomputable def uzr (k:Bj):T Bool:=
 .br (!((k.1==0)&&((k.2.1==0)&&((k.2.2==0)&&true))))
 (.cc (dzt k 16384) fun aa=>
 .ret aa)
 (.ret false)
noncomputable def ezr:=
 mkp1 Tryz.func340 uzr
noncomputable def Kz6 (k:az0):T Int:=
 .cc (dzo k) fun aa=>
 .br (!aa)
 (.ret 0)
 (.cc (bz7 (i64.wrap (k.Lo+k.Hi)) 2) fun ab=>
 .ret ab)
noncomputable def Czs:=
 mkp1 Tryz.func250 Kz6
noncomputable def rzl (k:Bq):T Bk:=
 .cc (dzz k) fun aa=>
 .br (!aa)
 (.ret nl)
 (.loop (fun s (ab:Bl)=>pk s [0,3] [] [(4,pz ab.2)] [(256,vO ab.1 100)])
 (.exit 0) (fun s (ab:Bk)=>pk s [3] [] [] [(256,vO ab 100)])
 (fun ab=>let ac:=k.getD ((ab.2).toNat) default;.br (decide (ab.2<(k.length:Int)))
 (.gh ab.2 k.length<|
 .ix 0 3 rfl<|
 .cc (Czs (ac.1)) fun ad=>
 .gh ab.2 k.length<|
 .ix 1 3 rfl<|
 .cc (Czs (ac.2.1)) fun ae=>
 .gh ab.2 k.length<|
 .ix 2 3 rfl<|
 .cc (Czs (ac.2.2)) fun af=>let ag:=([(ad,ae,af)]:Bk);let ah:=ab.1.length+ag.length;
 .conv 7020 (kL ag 100)<|
 .conv 7021 (kA ab.1 ag 100)<|
 .grd (ah * 24≤140737488355328/\ah≤maxLen)<|
 .nn ((ab.1++ag),(i64.wrap (ab.2+1))))
 (.oo ab.1))
 (nl,0) [] fun ab=>
 .ret ab)
noncomputable def dzg:=
 mkp1 Tryz.func147 rzl
noncomputable def jzh (k:Bj):T Bo:=
 .br ((k.1==0)&&((k.2.1==0)&&((k.2.2==0)&&true)))
 (.ret (k,false))
 (.loop (ik 4 [1,2] [0,64])
 .ret (fun _ (_:U0)=>⟨[],[],[],0⟩)
 (fun aa=>let ab:=i64.wrap (k.1.tdiv aa);let ac:=i64.wrap (k.2.1.tdiv aa);let ad:=i64.wrap (k.2.2.tdiv aa);.ix 0 3 rfl<|
 .grd (aa≠0)<|
 .ix 1 3 rfl<|
 .grd (aa≠0)<|
 .ix 2 3 rfl<|
 .grd (aa≠0)<|
 .cc (dzt (ab,ac,ad) 16384) fun ae=>
 .br ae
 (.ff ((ab,ac,ad),true))
 (.nn (i64.wrap (aa * 2))))
 1 [] fun _=>
 .stop)
noncomputable def hz0:=
 mkq1 Tryz.func244 jzh (fun r=>.tup [q r.1,q r.2])
noncomputable def Bzg (k:Bq)(aa:Bq):T Bo:=
 .cub 2 19 [0,1,4] [0]
 (.cc (dzz k) fun ab=>
 .br (!ab)
 (.oo true)
 (.cc (dzz aa) fun ac=>
 .oo (!ac))) fun ab=>
 .br ab
 (.ret ((0,0,0),false))
 (.cc (dzg k) fun ac=>let ad:=(ac.length:Int);
 .cc (dzg aa) fun ae=>let af:=(ae.length:Int);
 .unroll 4<|
 .known true<|
 .loop (fun s (ag:B1)=>pk s [4,6,7,8,9] [0] [(10,pz ag.2)] [(192,.box [pz ag.1,pz 0,pz 0])])
 (.exit 2) (fun s (ag:Int)=>pk s [4,6,7,8,9] [0] [] [(192,.box [pz ag,pz 0,pz 0])])
 (fun ag=>.br (decide (ag.2<ad))
 (.ix 0 3 rfl<|
 .gh ag.2 ac.length<|
 .ix 0 3 rfl<|
 .name 11012 ((i64.wrap (ag.1+(i64.wrap (((ac.getD ((ag.2).toNat) default).1) * af))))) fun ah=>
 .ix 0 3 rfl<|
 .nn (ah,(i64.wrap (ag.2+1))))
 (.oo ag.1))
 (0,0) [] fun ag=>
 .loop (fun s (ah:B1)=>pk s [4,6,7,8,9] [0] [(11,pz ah.2)] [(192,.box [pz ah.1,pz 0,pz 0])])
 (.exit 4) (fun s (ah:Int)=>pk s [4,6,7,8,9] [0] [] [(192,.box [pz ah,pz 0,pz 0])])
 (fun ah=>.br (decide (ah.2<af))
 (.ix 0 3 rfl<|
 .gh ah.2 ae.length<|
 .ix 0 3 rfl<|
 .name 15012 ((i64.wrap (ah.1- (i64.wrap (((ae.getD ((ah.2).toNat) default).1) * ad))))) fun ai=>
 .ix 0 3 rfl<|
 .nn (ai,(i64.wrap (ah.2+1))))
 (.oo ah.1))
 (ag,0) [] fun ah=>
 .lit 7001 (1)<|
 .known true<|
 .loop (fun s (ai:B1)=>pk s [4,6,7,8,9] [0] [(10,pz ai.2)] [(192,.box [pz ah,pz ai.1,pz 0])])
 (.exit 2) (fun s (ai:Int)=>pk s [4,6,7,8,9] [0] [] [(192,.box [pz ah,pz ai,pz 0])])
 (fun ai=>.br (decide (ai.2<ad))
 (.ix 1 3 rfl<|
 .gh ai.2 ac.length<|
 .ix 1 3 rfl<|
 .name 11012 ((i64.wrap (ai.1+(i64.wrap (((ac.getD ((ai.2).toNat) default).2.1) * af))))) fun aj=>
 .ix 1 3 rfl<|
 .nn (aj,(i64.wrap (ai.2+1))))
 (.oo ai.1))
 (0,0) [] fun ai=>
 .loop (fun s (aj:B1)=>pk s [4,6,7,8,9] [0] [(11,pz aj.2)] [(192,.box [pz ah,pz aj.1,pz 0])])
 (.exit 4) (fun s (aj:Int)=>pk s [4,6,7,8,9] [0] [] [(192,.box [pz ah,pz aj,pz 0])])
 (fun aj=>.br (decide (aj.2<af))
 (.ix 1 3 rfl<|
 .gh aj.2 ae.length<|
 .ix 1 3 rfl<|
 .name 15012 ((i64.wrap (aj.1- (i64.wrap (((ae.getD ((aj.2).toNat) default).2.1) * ad))))) fun ak=>
 .ix 1 3 rfl<|
 .nn (ak,(i64.wrap (aj.2+1))))
 (.oo aj.1))
 (ai,0) [] fun aj=>
 .lit 7001 (2)<|
 .known true<|
 .loop (fun s (ak:B1)=>pk s [4,6,7,8,9] [0] [(10,pz ak.2)] [(192,.box [pz ah,pz aj,pz ak.1])])
 (.exit 2) (fun s (ak:Int)=>pk s [4,6,7,8,9] [0] [] [(192,.box [pz ah,pz aj,pz ak])])
 (fun ak=>.br (decide (ak.2<ad))
 (.ix 2 3 rfl<|
 .gh ak.2 ac.length<|
 .ix 2 3 rfl<|
 .name 11012 ((i64.wrap (ak.1+(i64.wrap (((ac.getD ((ak.2).toNat) default).2.2) * af))))) fun al=>
 .ix 2 3 rfl<|
 .nn (al,(i64.wrap (ak.2+1))))
 (.oo ak.1))
 (0,0) [] fun ak=>
 .loop (fun s (al:B1)=>pk s [4,6,7,8,9] [0] [(11,pz al.2)] [(192,.box [pz ah,pz aj,pz al.1])])
 (.exit 4) (fun s (al:Int)=>pk s [4,6,7,8,9] [0] [] [(192,.box [pz ah,pz aj,pz al])])
 (fun al=>.br (decide (al.2<af))
 (.ix 2 3 rfl<|
 .gh al.2 ae.length<|
 .ix 2 3 rfl<|
 .name 15012 ((i64.wrap (al.1- (i64.wrap (((ae.getD ((al.2).toNat) default).2.2) * ad))))) fun am=>
 .ix 2 3 rfl<|
 .nn (am,(i64.wrap (al.2+1))))
 (.oo al.1))
 (ak,0) [] fun al=>
 .lit 7001 (3)<|
 .known false<|
 .cc (hz0 (ah,aj,al)) fun am=>
 .ret (am.1,am.2))
noncomputable def Lzh:=
 mkq2 Tryz.func341 Bzg (fun r=>.tup [q r.1,q r.2])
noncomputable def Yzz:T Bk:=
 .conv 1006 (kL ([(1,0,0),((-1),0,0),(0,1,0),(0,(-1),0),(0,0,1),(0,0,(-1))]:Bk) 100)<|
 .ret ([(1,0,0),((-1),0,0),(0,1,0),(0,(-1),0),(0,0,1),(0,0,(-1))]:Bk)
noncomputable def ref14_Axes_C:CallS Bk:=
 mkD Tryz.func342 (Yzz) 0 [] [] (fun r=>q r) (fun _=>[])
noncomputable def Fze (k:Bk):T Bool:=let aa:=(k.length:Int);.loop (ik 3 [0] [])
 (.exit 0) (jk [0] [])
 (fun ab=>.cub 1 11 [0,3] []
 (.br (decide (ab<aa))
 (.oo (decide (ab≤8)))
 (.oo false)) fun ac=>
 .br ac
 (.gh ab k.length<|
 .cc (dzt (k.getD (ab.toNat) default) 268435456) fun ad=>
 .br (!ad)
 (.ff false)
 (.nn (i64.wrap (ab+1))))
 (.oo .u))
 0 [] fun _=>
 .br (decide (aa≥1))
 (.ret (decide (aa≤8)))
 (.ret false)
noncomputable def Fzd:=
 mkp1 Tryz.func240 Fze
noncomputable def rzr (k:Bk)(aa:A4):T Bj:=
 .loop (fun s (ab:C4)=>pk s [0,1,4,5] [0] [(6,pz ab.2.2.2)] [(64,.box [pz ab.1,pz ab.2.1,pz ab.2.2.1])])
 (.exit 0) (fun s (ab:Bj)=>pk s [4,5] [0] [] [(64,.box [pz ab.1,pz ab.2.1,pz ab.2.2])])
 (fun ab=>let ac:=(ab.2.2.2).toNat;let ad:=aa.getD ac default;let ae:=k.getD ac default;.br (decide (ab.2.2.2<(k.length:Int)))
 (.unroll 4<|
 .known true<|
 .ix 0 3 rfl<|
 .gh ab.2.2.2 aa.length<|
 .gh ab.2.2.2 k.length<|
 .ix 0 3 rfl<|
 .name 8014 ((i64.wrap (ab.1+(i64.wrap (ad * (ae.1)))))) fun af=>
 .ix 0 3 rfl<|
 .lit 7001 (1)<|
 .known true<|
 .ix 1 3 rfl<|
 .gh ab.2.2.2 aa.length<|
 .gh ab.2.2.2 k.length<|
 .ix 1 3 rfl<|
 .name 8014 ((i64.wrap (ab.2.1+(i64.wrap (ad * (ae.2.1)))))) fun ag=>
 .ix 1 3 rfl<|
 .lit 7001 (2)<|
 .known true<|
 .ix 2 3 rfl<|
 .gh ab.2.2.2 aa.length<|
 .gh ab.2.2.2 k.length<|
 .ix 2 3 rfl<|
 .name 8014 ((i64.wrap (ab.2.2.1+(i64.wrap (ad * (ae.2.2)))))) fun ah=>
 .ix 2 3 rfl<|
 .lit 7001 (3)<|
 .known false<|
 .nn (af,ag,ah,(i64.wrap (ab.2.2.2+1))))
 (.oo (ab.1,ab.2.1,ab.2.2.1)))
 (0,0,0,0) [] fun ab=>
 .ret (ab.1,ab.2.1,ab.2.2)
noncomputable def rzq:=
 mkp2 Tryz.func242 rzr
noncomputable def Vzw (k:Bj)(aa:Bj):T Bj:=
 .ix 0 3 rfl<|
 .ix 0 3 rfl<|
 .ix 1 3 rfl<|
 .ix 1 3 rfl<|
 .ix 2 3 rfl<|
 .ix 2 3 rfl<|
 .ret ((i64.wrap (k.1-aa.1)),(i64.wrap (k.2.1-aa.2.1)),(i64.wrap (k.2.2-aa.2.2)))
noncomputable def lzu:=
 mkp2 Tryz.func241 Vzw
noncomputable def oz8 (k:Bj)(aa:Int):T Bool:=
 .unroll 4<|
 .known true<|
 .ix 0 3 rfl<|
 .ix 0 3 rfl<|
 .cc (azt (max k.1 (i64.wrap (0-k.1))) 65536) fun ab=>
 .name 6004 ((i64.wrap (0+(i64.wrap (ab * ab))))) fun ac=>
 .lit 4001 (1)<|
 .known true<|
 .ix 1 3 rfl<|
 .ix 1 3 rfl<|
 .cc (azt (max k.2.1 (i64.wrap (0-k.2.1))) 65536) fun ad=>
 .name 6004 ((i64.wrap (ac+(i64.wrap (ad * ad))))) fun ae=>
 .lit 4001 (2)<|
 .known true<|
 .ix 2 3 rfl<|
 .ix 2 3 rfl<|
 .cc (azt (max k.2.2 (i64.wrap (0-k.2.2))) 65536) fun af=>
 .name 6004 ((i64.wrap (ae+(i64.wrap (af * af))))) fun ag=>
 .lit 4001 (3)<|
 .known false<|
 .ret (decide (ag≤(i64.wrap (aa * aa))))
noncomputable def tzn:=
 mkp2 Tryz.func243 oz8
noncomputable def az1c (k:Bj)(aa:Bj):T Int:=
 .ix 0 3 rfl<|
 .ix 0 3 rfl<|
 .ix 1 3 rfl<|
 .ix 1 3 rfl<|
 .ix 2 3 rfl<|
 .ix 2 3 rfl<|
 .name 1016 ((i64.wrap ((i64.wrap ((i64.wrap (k.1 * aa.1))+(i64.wrap (k.2.1 * aa.2.1))))+(i64.wrap (k.2.2 * aa.2.2))))) fun ab=>
 .ret ab
noncomputable def iz9:=
 mkp2 Tryz.func246 az1c
noncomputable def iz8 (k:Bj)(aa:Bk)(ab:Int):T Int:=
 .loop (fun s (ac:B1)=>pk s [1,2,3] [0] [(7,pz ac.1),(8,pz ac.2)] [])
 (.exit 0) (ik 7 [] [])
 (fun ac=>.br (decide (ac.2<(aa.length:Int)))
 (.cut 0 (fun s (ad:Int)=>pk s [1,2,3,8] [0] [(7,pz ad)] [])
 (.gh ac.2 aa.length<|
 .cc (iz9 k (aa.getD ((ac.2).toNat) default)) fun ad=>
 .gh ac.1 aa.length<|
 .cc (iz9 k (aa.getD ((ac.1).toNat) default)) fun ae=>
 .br (decide ((i64.wrap (ab * ad))<(i64.wrap (ab * ae))))
 (.oo ac.2)
 (.oo ac.1)) fun ad=>
 .nn (ad,(i64.wrap (ac.2+1))))
 (.oo ac.1))
 (0,1) [] fun ac=>
 .ret ac
noncomputable def fz2:=
 mkp3 Tryz.func245 iz8
noncomputable def Fzh (k:Int):T Int:=
 .br (decide (k<1))
 (.ret 0)
 (.loop (fun s (aa:B1)=>pk s [0] [] [(3,pz aa.1),(4,pz aa.2)] [])
 (.exit 0) (ik 3 [] [])
 (fun aa=>let ab:=i64.wrap (aa.2-aa.1);let ac:=i64.wrap (aa.1+(i64.wrap (ab.tdiv 2)));.br (decide (ab>1))
 (.ok ((2:Int)≠0) (by decide)<|
 .grd (ac≠0)<|
 .br (decide (ac≤(i64.wrap (k.tdiv ac))))
 (.nn (ac,aa.2))
 (.nn (aa.1,ac)))
 (.oo aa.1))
 (1,4294967296) [] fun aa=>
 .ret aa)
noncomputable def rzu:=
 mkp1 Tryz.func432 Fzh
noncomputable def yz8 (k:Int):T Int:=
 .cc (rzu k) fun aa=>
 .cut 0 (fun s (ab:Int)=>pk s [] [] [(3,pz ab)] [])
 (.cub 0 14 [3] []
 (.br (decide (k>0))
 (.oo (decide ((i64.wrap (aa * aa))<k)))
 (.oo false)) fun ab=>
 .br ab
 (.oo (i64.wrap (aa+1)))
 (.oo aa)) fun ab=>
 .ret ab
noncomputable def Hzt:=
 mkp1 Tryz.func343 yz8
noncomputable def Bzc (k:Bj):T Int:=
 .cc (ezr (k.1,k.2.1,k.2.2)) fun aa=>
 .br (!aa)
 (.ret 0)
 (.ix 0 3 rfl<|
 .ix 0 3 rfl<|
 .ix 1 3 rfl<|
 .ix 1 3 rfl<|
 .ix 2 3 rfl<|
 .ix 2 3 rfl<|
 .name 3016 ((i64.wrap ((i64.wrap ((i64.wrap (k.1 * k.1))+(i64.wrap (k.2.1 * k.2.1))))+(i64.wrap (k.2.2 * k.2.2))))) fun ab=>
 .cc (Hzt ab) fun ac=>
 .ret ac)
noncomputable def tzk:=
 mkp1 Tryz.func247 Bzc
noncomputable def lzt (k:A4)(aa:Int)(ab:Int):T A4:=let ac:=ab.toNat;.grd (k.length * 8≤140737488355328/\k.length≤maxLen)<|
 .loop (fun s (ad:Bf)=>pk s [1,2,7] [] [(8,pz ad.2.1),(9,pz ad.2.2)] [(128,vO ad.1 2)])
 (.exit 0) (fun s (ad:Ah)=>pk s [2,7] [] [(8,pz ad.2)] [(128,vO ad.1 2)])
 (fun ad=>let ae:=(ad.2.2).toNat;let af:=ad.1.getD ae default;let ag:=i64.wrap ((i64.wrap (af * aa)).tdiv 256);.br (decide (ad.2.2<(ad.1.length:Int)))
 (.gg ad.2.2 ad.1.length<|
 .ok ((256:Int)≠0) (by decide)<|
 .gg ad.2.2 ad.1.length<|
 .name 7005 ((i64.wrap (af-ag))) fun ah=>
 .gh ad.2.2 ad.1.length<|
 .conv 7007 (kS ad.1 2 ae ah)<|
 .gi (ad.2.2) ad.1.length<|
 .name 8002 ((i64.wrap (ad.2.1+ag))) fun ai=>
 .nn ((ad.1.set ae ah),ai,(i64.wrap (ad.2.2+1))))
 (.oo (ad.1,ad.2.1)))
 (k,0,0) [] fun ad=>let ae:=i64.wrap ((ad.1.getD ac default)+ad.2);
 .gg ab ad.1.length<|
 .gh ab ad.1.length<|
 .conv 9007 (kS ad.1 2 ac ae)<|
 .gi (ab) ad.1.length<|
 .ret (ad.1.set ac ae)
noncomputable def lzs:=
 mkv3 Tryz.func248 lzt (fun _=>.vec 0) (fun r=>[(0,vO r 2)])
noncomputable def jzj (k:Bk)(aa:Bk)(ab:Int)(ac:Int):T dzc:=let ad:=(k.length:Int);let ae:=(aa.length:Int);let af:=List.replicate ad.toNat (0:Int);let ag:=List.replicate ae.toNat (0:Int);.cut 2 (fun _ (ah:Bool)=>⟨[(0,q k),(1,q aa),(2,pz ab),(3,pz ac),(8,.ptr 0 0),(43,q ah)],[(0,.box [pz 0,pz 0,pz 0,pz 0,.vec 5,.vec 6,pz 0]),(5,.nilv),(6,.nilv)],[],128⟩)
 (.cc (Fzd k) fun ah=>
 .br (!ah)
 (.oo true)
 (.cc (Fzd aa) fun ai=>
 .br (!ai)
 (.oo true)
 (.br (decide (ab<0))
 (.oo true)
 (.br (decide (ab>2097152))
 (.oo true)
 (.br (decide (ac<0))
 (.oo true)
 (.oo (decide (ac>64)))))))) fun ah=>
 .br ah
 (.ret (⟨0,(0,0,0),nl,nl,0⟩:dzc))
 (.conv 3002 (zzm 1 azs 2 ad.toNat 0)<|
 .grd (0≤ad/\ad≤ad/\ad≤9223372036854775807/\ad * 8≤140737488355328)<|
 .conv 3005 (zzm 1 azs 2 ae.toNat 0)<|
 .grd (0≤ae/\ae≤ae/\ae≤9223372036854775807/\ae * 8≤140737488355328)<|
 .gh (0:Int) (af.length)<|
 .conv 4005 (kS af 2 ((0:Int).toNat) 65536)<|
 .gi (0:Int) (af.length)<|
 .gh (0:Int) (ag.length)<|
 .conv 4007 (kS ag 2 ((0:Int).toNat) 65536)<|
 .gi (0:Int) (ag.length)<|
 .loop (fun _ (ai:(Int×Int×Int×A4×A4×Int))=>⟨[(0,q k),(1,q aa),(2,pz ab),(3,pz ac),(8,.ptr 0 0),(9,.ptr 576 0)],[(0,.box [pz 0,pz 0,pz 0,pz 0,.vec 5,.vec 6,pz 0]),(5,.nilv),(6,.nilv),(256,vO ai.2.2.2.1 2),(448,vO ai.2.2.2.2.1 2),(576,.box [pz 0,pz ai.1,pz ai.2.1,pz ai.2.2.1,.vec 256,.vec 448,pz ai.2.2.2.2.2])],[],1280⟩)
 .ret (fun _ (_:U0)=>⟨[],[],[],0⟩)
 (fun ai=>.cc (rzq k ai.2.2.2.1) fun aj=>
 .cc (rzq aa ai.2.2.2.2.1) fun ak=>
 .cc (lzu aj ak) fun al=>let am:=i64.wrap (al.1.tdiv 65536);let an:=i64.wrap (al.2.1.tdiv 65536);let ao:=i64.wrap (al.2.2.tdiv 65536);
 .cc (tzn al ab) fun ap=>
 .br ap
 (.ff (⟨2,(ai.1,ai.2.1,ai.2.2.1),ai.2.2.2.1,ai.2.2.2.2.1,ai.2.2.2.2.2⟩:dzc))
 (.ix 0 3 rfl<|
 .ok ((65536:Int)≠0) (by decide)<|
 .ix 1 3 rfl<|
 .ok ((65536:Int)≠0) (by decide)<|
 .ix 2 3 rfl<|
 .ok ((65536:Int)≠0) (by decide)<|
 .cc (hz0 (am,an,ao)) fun aq=>let ar:=(⟨0,aq.1,ai.2.2.2.1,ai.2.2.2.2.1,ai.2.2.2.2.2⟩:dzc);
 .br (!aq.2)
 (.ff ar)
 (.cc (fz2 aq.1 k 1) fun au=>let av:=k.getD (au.toNat) default;
 .cc (fz2 aq.1 aa (-1)) fun aw=>let ax:=aa.getD (aw.toNat) default;
 .gh au k.length<|
 .cc (iz9 aq.1 av) fun ay=>
 .gh aw aa.length<|
 .cc (iz9 aq.1 ax) fun az=>
 .cc (tzk aq.1) fun a0=>
 .br (decide ((i64.wrap (ay-az))>(i64.wrap (a0 * ab))))
 (.ff (⟨1,aq.1,ai.2.2.2.1,ai.2.2.2.2.1,ai.2.2.2.2.2⟩:dzc))
 (.gh au k.length<|
 .gh aw aa.length<|
 .cc (lzu av ax) fun a1=>
 .cc (lzu (am,an,ao) a1) fun a2=>
 .cc (iz9 (am,an,ao) a2) fun a3=>
 .cc (iz9 a2 a2) fun a4=>let a5:=max 1 (i64.wrap (a4.tdiv 256));let a6:=min 256 (i64.wrap (a3.tdiv a5));
 .cut 1 (fun _ (a7:Bool)=>⟨[(0,q k),(1,q aa),(2,pz ab),(3,pz ac),(8,.ptr 0 0),(9,.ptr 576 0),(14,pz au),(15,pz aw),(17,pz a3),(18,pz a4),(142,q a7)],[(0,.box [pz 0,pz 0,pz 0,pz 0,.vec 5,.vec 6,pz 0]),(5,.nilv),(6,.nilv),(256,vS ai.2.2.2.1 2),(448,vS ai.2.2.2.2.1 2),(576,.box [pz 0,pz aq.1.1,pz aq.1.2.1,pz aq.1.2.2,.vec 256,.vec 448,pz ai.2.2.2.2.2])],[],6848⟩)
 (.br (decide (ai.2.2.2.2.2≥ac))
 (.oo true)
 (.oo (decide (a3≤0)))) fun a7=>
 .br a7
 (.ff ar)
 (.ok ((256:Int)≠0) (by decide)<|
 .grd (a5≠0)<|
 .br (a6==0)
 (.ff ar)
 (.call (lzs ai.2.2.2.1 a6 au) [] fun a8=>
 .call (lzs ai.2.2.2.2.1 a6 aw) [] fun a9=>
 .nn (aq.1.1,aq.1.2.1,aq.1.2.2,a8,a9,(i64.wrap (ai.2.2.2.2.2+1)))))))))
 (0,0,0,(af.set ((0:Int).toNat) 65536),(ag.set ((0:Int).toNat) 65536),0) [] fun _=>
 .stop)
noncomputable def ezs:=
 mkp4 Tryz.func146 jzj
noncomputable def lzq (k:Bq)(aa:Int)(ab:Bq)(ac:Int)(ad:Bk):T Bk:=
 .cub 2 33 [0,1,2,3,4] []
 (.cc (dzz k) fun ae=>
 .br (!ae)
 (.oo true)
 (.cc (dzz ab) fun af=>
 .br (!af)
 (.oo true)
 (.cc (ezt aa) fun ag=>
 .br (!ag)
 (.oo true)
 (.cc (ezt ac) fun ah=>
 .oo (!ah))))) fun ae=>
 .br ae
 (.ret nl)
 (.loop (fun s (af:Bl)=>pk s [0,1,2,3,4,11] [] [(12,pz af.2)] [(128,vO af.1 100)])
 (.exit 0) (fun s (af:Bk)=>pk s [0,1,2,3,11] [] [] [(128,vO af 100)])
 (fun af=>let ag:=ad.getD ((af.2).toNat) default;let ah:=([ag]:Bk);let ai:=af.1.length+ah.length;.br (decide (af.2<(ad.length:Int)))
 (.cut 0 (fun s (aj:Bk)=>pk s [0,1,2,3,4,12] [] [(11,.vec 576)] [(576,vO aj 100)])
 (.gh af.2 ad.length<|
 .cc (ezr ag) fun aj=>
 .br aj
 (.gh af.2 ad.length<|
 .conv 8005 (kL ah 100)<|
 .conv 8006 (kA af.1 ah 100)<|
 .grd (ai * 24≤140737488355328/\ai≤maxLen)<|
 .oo (af.1++ah))
 (.oo af.1)) fun aj=>
 .nn (aj,(i64.wrap (af.2+1))))
 (.oo af.1))
 (nl,0) [] fun af=>
 .cut 0 (fun s (ag:Bk)=>pk s [0,1,2,3] [] [(11,.vec 320)] [(320,vO ag 100)])
 (.cc (Lzh k ab) fun ag=>let ah:=([ag.1]:Bk);let ai:=af.length+ah.length;
 .br ag.2
 (.conv 11002 (kL ah 100)<|
 .conv 11003 (kA af ah 100)<|
 .grd (ai * 24≤140737488355328/\ai≤maxLen)<|
 .oo (af++ah))
 (.oo af)) fun ag=>
 .cc (ref14_Axes_C) fun ah=>let ai:=ag++ah;let aj:=ag.length+ah.length;
 .conv 12002 (kA ag ah 100)<|
 .grd (aj * 24≤140737488355328/\aj≤maxLen)<|
 .cc (dzg k) fun ak=>
 .cc (dzg ab) fun al=>
 .cc (ezs ak al (i64.wrap (aa+ac)) 64) fun am=>let an:=([am.Normal]:Bk);let ao:=ai.length+an.length;
 .cut 0 (fun s (ap:Bk)=>pk s [] [] [(11,.vec 1280)] [(1280,vO ap 100)])
 (.cc (ezr am.Normal) fun ap=>
 .br ap
 (.conv 15003 (kL an 100)<|
 .conv 15004 (kA ai an 100)<|
 .grd (ao * 24≤140737488355328/\ao≤maxLen)<|
 .oo (ai++an))
 (.oo ai)) fun ap=>
 .ret ap)
noncomputable def tzl:=
 mkp5 Tryz.func238 lzq
noncomputable def Fzc (k:Bj)(aa:Bp):T B1:=let ab:=i64.wrap (k.1 * aa.1.Lo);let ac:=i64.wrap (k.1 * aa.1.Hi);let ad:=i64.wrap (k.2.1 * aa.2.1.Lo);let ae:=i64.wrap (k.2.1 * aa.2.1.Hi);let af:=i64.wrap (k.2.2 * aa.2.2.Lo);let ag:=i64.wrap (k.2.2 * aa.2.2.Hi);.cub 2 18 [2,3] [0,64]
 (.cc (ezr k) fun ah=>
 .br (!ah)
 (.oo true)
 (.cc (rzo aa) fun ai=>
 .oo (!ai))) fun ah=>
 .br ah
 (.ret (0,0))
 (.unroll 4<|
 .known true<|
 .ix 0 3 rfl<|
 .ix 0 3 rfl<|
 .ix 0 3 rfl<|
 .ix 0 3 rfl<|
 .name 8004 ((i64.wrap (0+(min ab ac)))) fun ai=>
 .name 9004 ((i64.wrap (0+(max ab ac)))) fun aj=>
 .lit 6001 (1)<|
 .known true<|
 .ix 1 3 rfl<|
 .ix 1 3 rfl<|
 .ix 1 3 rfl<|
 .ix 1 3 rfl<|
 .name 8004 ((i64.wrap (ai+(min ad ae)))) fun ak=>
 .name 9004 ((i64.wrap (aj+(max ad ae)))) fun al=>
 .lit 6001 (2)<|
 .known true<|
 .ix 2 3 rfl<|
 .ix 2 3 rfl<|
 .ix 2 3 rfl<|
 .ix 2 3 rfl<|
 .name 8004 ((i64.wrap (ak+(min af ag)))) fun am=>
 .name 9004 ((i64.wrap (al+(max af ag)))) fun an=>
 .lit 6001 (3)<|
 .known false<|
 .ret (am,an))
noncomputable def Fzb:=
 mkq2 Tryz.func516 Fzc (fun r=>.tup [pz r.1,pz r.2])
noncomputable def xzw (k:Bj)(aa:Bq):T Bv:=
 .cub 2 19 [1,2] [0]
 (.cc (ezr k) fun ab=>
 .br (!ab)
 (.oo true)
 (.cc (dzz aa) fun ac=>
 .oo (!ac))) fun ab=>
 .br ab
 (.ret (0,0,false))
 (.loop (fun s (ac:Bj)=>pk s [1,2] [0] [(7,pz ac.1),(8,pz ac.2.1),(9,pz ac.2.2)] [])
 (.exit 0) (fun s (ac:B1)=>pk s [] [] [(7,pz ac.1),(8,pz ac.2)] [])
 (fun ac=>.br (decide (ac.2.2<(aa.length:Int)))
 (.cut 0 (fun s (ad:B1)=>pk s [1,2,9] [0] [(7,pz ad.1),(8,pz ad.2)] [])
 (.gh ac.2.2 aa.length<|
 .cc (Fzb k (aa.getD ((ac.2.2).toNat) default)) fun ad=>
 .cub 0 41 [1,2,7,8,9,10] [0]
 (.br (ac.2.2==0)
 (.oo true)
 (.oo (decide (ad.1<ac.1)))) fun ae=>
 .br ae
 (.oo (ad.1,ac.2.2))
 (.oo (ac.1,ac.2.1))) fun ad=>
 .nn (ad.1,ad.2,(i64.wrap (ac.2.2+1))))
 (.oo (ac.1,ac.2.1)))
 (0,0,0) [] fun ac=>
 .ret (ac.1,ac.2,true))
noncomputable def Hzk:=
 mkq2 Tryz.func483 xzw (fun r=>.tup [pz r.1,pz r.2.1,q r.2.2])
noncomputable def pz5 (k:Bj)(aa:Bq):T Bv:=
 .cub 2 19 [1,2] [0]
 (.cc (ezr k) fun ab=>
 .br (!ab)
 (.oo true)
 (.cc (dzz aa) fun ac=>
 .oo (!ac))) fun ab=>
 .br ab
 (.ret (0,0,false))
 (.loop (fun s (ac:Bj)=>pk s [1,2] [0] [(7,pz ac.1),(8,pz ac.2.1),(9,pz ac.2.2)] [])
 (.exit 0) (fun s (ac:B1)=>pk s [] [] [(7,pz ac.1),(8,pz ac.2)] [])
 (fun ac=>.br (decide (ac.2.2<(aa.length:Int)))
 (.cut 0 (fun s (ad:B1)=>pk s [1,2,9] [0] [(7,pz ad.1),(8,pz ad.2)] [])
 (.gh ac.2.2 aa.length<|
 .cc (Fzb k (aa.getD ((ac.2.2).toNat) default)) fun ad=>
 .cub 0 41 [1,2,7,8,9,11] [0]
 (.br (ac.2.2==0)
 (.oo true)
 (.oo (decide (ad.2>ac.1)))) fun ae=>
 .br ae
 (.oo (ad.2,ac.2.2))
 (.oo (ac.1,ac.2.1))) fun ad=>
 .nn (ad.1,ad.2,(i64.wrap (ac.2.2+1))))
 (.oo (ac.1,ac.2.1)))
 (0,0,0) [] fun ac=>
 .ret (ac.1,ac.2,true))
noncomputable def zzd:=
 mkq2 Tryz.func484 pz5 (fun r=>.tup [pz r.1,pz r.2.1,q r.2.2])
noncomputable def uzs (k:Bj)(aa:Bq)(ab:Int)(ac:Bq)(ad:Int):T Ba:=
 .cc (Hzk k aa) fun ae=>
 .cc (zzd k ac) fun af=>
 .cub 1 47 [2,4,5,12,15] [0]
 (.br (!ae.2.2)
 (.oo true)
 (.br (!af.2.2)
 (.oo true)
 (.cc (ezt ab) fun ag=>
 .br (!ag)
 (.oo true)
 (.cc (ezt ad) fun ah=>
 .oo (!ah))))) fun ag=>
 .br ag
 (.ret (0,false))
 (.cc (tzk k) fun ah=>
 .ret ((i64.wrap ((i64.wrap (ae.1-af.1))- (i64.wrap (ah * (i64.wrap (ab+ad)))))),true))
noncomputable def Ez5:=
 mkq5 Tryz.func429 uzs (fun r=>.tup [pz r.1,q r.2])
noncomputable def mzx (k:Bj)(aa:Bq)(ab:Int)(ac:Bq)(ad:Int):T Bool:=
 .cc (Ez5 k aa ab ac ad) fun ae=>
 .br ae.2
 (.ret (decide (ae.1>0)))
 (.ret false)
noncomputable def vzx:=
 mkp5 Tryz.func330 mzx
noncomputable def yz1 (k:Bk)(aa:Bq)(ab:Int)(ac:Bq)(ad:Int):T Ba:=
 .loop (ik 12 [0,1,2,3,4] [])
 (.exit 0) (jk [] [])
 (fun ae=>.br (decide (ae<(k.length:Int)))
 (.gh ae k.length<|
 .cc (vzx (k.getD (ae.toNat) default) aa ab ac ad) fun af=>
 .br af
 (.ff (ae,true))
 (.nn (i64.wrap (ae+1))))
 (.oo .u))
 0 [] fun _=>
 .ret (0,false)
noncomputable def Hzp:=
 mkq5 Tryz.func239 yz1 (fun r=>.tup [pz r.1,q r.2])
noncomputable def lzr (k:Bq)(aa:Int)(ab:Bq)(ac:Int)(ad:Bk):T Bo:=
 .cc (tzl k aa ab ac ad) fun ae=>
 .cc (Hzp ae k aa ab ac) fun af=>
 .br (!af.2)
 (.ret ((0,0,0),false))
 (.gh af.1 ae.length<|
 .ret ((ae.getD ((af.1).toNat) default),true))
noncomputable def tzm:=
 mkq5 Tryz.func145 lzr (fun r=>.tup [q r.1,q r.2])
noncomputable def rzn (k:Bq)(aa:A4):T (Bp×Int×Bool):=let ab:=(aa.length:Nat);let ac:=(k.length:Nat);.cub 2 21 [0,1,4] [0]
 (.cc (dzz k) fun ad=>
 .br (!ad)
 (.oo true)
 (.oo ((ab:Int) !=(ac:Int)))) fun ad=>
 .br ad
 (.ret (((⟨0,0⟩:az0),(⟨0,0⟩:az0),(⟨0,0⟩:az0)),0,false))
 (.loop (fun s (ae:B1)=>pk s [0,1,4] [0] [(7,pz ae.1),(8,pz ae.2)] [])
 (.exit 0) (ik 7 [0,1,4] [0])
 (fun ae=>let af:=aa.getD ((ae.2).toNat) default;.br (decide (ae.2<(ab:Int)))
 (.cub 2 42 [0,1,4,7,8] [0]
 (.gh ae.2 aa.length<|
 .br (decide (af<0))
 (.oo true)
 (.gh ae.2 aa.length<|
 .oo (decide (af>(i64.wrap (65536-ae.1)))))) fun ag=>
 .br ag
 (.ff (((⟨0,0⟩:az0),(⟨0,0⟩:az0),(⟨0,0⟩:az0)),0,false))
 (.gh ae.2 aa.length<|
 .nn ((i64.wrap (ae.1+af)),(i64.wrap (ae.2+1)))))
 (.oo ae.1))
 (0,0) [] fun ae=>
 .br (decide (ae<1))
 (.ret (((⟨0,0⟩:az0),(⟨0,0⟩:az0),(⟨0,0⟩:az0)),0,false))
 (.loop (fun s (af:Ci)=>pk s [0,1,4,7,9] [0] [(10,pz af.2.2.2.2.2.2)] [(576,.box [pz af.1,pz af.2.1,pz af.2.2.1,pz af.2.2.2.1,pz af.2.2.2.2.1,pz af.2.2.2.2.2.1])])
 (.exit 2) (fun s (af:Ca)=>pk s [4,7,9] [0] [] [(576,.box [pz af.1,pz af.2.1,pz af.2.2.1,pz af.2.2.2.1,pz af.2.2.2.2.1,pz af.2.2.2.2.2])])
 (fun af=>let ag:=(af.2.2.2.2.2.2).toNat;let ah:=aa.getD ag default;let ai:=k.getD ag default;.br (decide (af.2.2.2.2.2.2<(ac:Int)))
 (.unroll 4<|
 .known true<|
 .ix 0 3 rfl<|
 .gh af.2.2.2.2.2.2 aa.length<|
 .gh af.2.2.2.2.2.2 k.length<|
 .ix 0 3 rfl<|
 .name 19015 ((i64.wrap (ah * (ai.1.Lo)))) fun aj=>
 .name 19016 ((i64.wrap (af.1+aj))) fun ak=>
 .ix 0 3 rfl<|
 .ix 0 3 rfl<|
 .gh af.2.2.2.2.2.2 aa.length<|
 .gh af.2.2.2.2.2.2 k.length<|
 .ix 0 3 rfl<|
 .name 20015 ((i64.wrap (ah * (ai.1.Hi)))) fun al=>
 .name 20016 ((i64.wrap (af.2.1+al))) fun am=>
 .ix 0 3 rfl<|
 .lit 18001 (1)<|
 .known true<|
 .ix 1 3 rfl<|
 .gh af.2.2.2.2.2.2 aa.length<|
 .gh af.2.2.2.2.2.2 k.length<|
 .ix 1 3 rfl<|
 .name 19015 ((i64.wrap (ah * (ai.2.1.Lo)))) fun an=>
 .name 19016 ((i64.wrap (af.2.2.1+an))) fun ao=>
 .ix 1 3 rfl<|
 .ix 1 3 rfl<|
 .gh af.2.2.2.2.2.2 aa.length<|
 .gh af.2.2.2.2.2.2 k.length<|
 .ix 1 3 rfl<|
 .name 20015 ((i64.wrap (ah * (ai.2.1.Hi)))) fun ap=>
 .name 20016 ((i64.wrap (af.2.2.2.1+ap))) fun aq=>
 .ix 1 3 rfl<|
 .lit 18001 (2)<|
 .known true<|
 .ix 2 3 rfl<|
 .gh af.2.2.2.2.2.2 aa.length<|
 .gh af.2.2.2.2.2.2 k.length<|
 .ix 2 3 rfl<|
 .name 19015 ((i64.wrap (ah * (ai.2.2.Lo)))) fun ar=>
 .name 19016 ((i64.wrap (af.2.2.2.2.1+ar))) fun au=>
 .ix 2 3 rfl<|
 .ix 2 3 rfl<|
 .gh af.2.2.2.2.2.2 aa.length<|
 .gh af.2.2.2.2.2.2 k.length<|
 .ix 2 3 rfl<|
 .name 20015 ((i64.wrap (ah * (ai.2.2.Hi)))) fun av=>
 .name 20016 ((i64.wrap (af.2.2.2.2.2.1+av))) fun aw=>
 .ix 2 3 rfl<|
 .lit 18001 (3)<|
 .known false<|
 .nn (ak,am,ao,aq,au,aw,(i64.wrap (af.2.2.2.2.2.2+1))))
 (.oo (af.1,af.2.1,af.2.2.1,af.2.2.2.1,af.2.2.2.2.1,af.2.2.2.2.2.1)))
 (0,0,0,0,0,0,0) [] fun af=>
 .ret (((⟨af.1,af.2.1⟩:az0),(⟨af.2.2.1,af.2.2.2.1⟩:az0),(⟨af.2.2.2.2.1,af.2.2.2.2.2⟩:az0)),ae,true)))
noncomputable def rzm:=
 mkq2 Tryz.func345 rzn (fun r=>.tup [q r.1,pz r.2.1,q r.2.2])
noncomputable def Zz2 (k:Int):T Int:=
 .ret (max k (i64.wrap (0-k)))
noncomputable def iza:=
 mkp1 Tryz.func346 Zz2
noncomputable def jzi (k:A4)(aa:A4)(ab:Bq)(ac:Int)(ad:Bq)(ae:Int):T Ba:=let af:=i64.wrap (ac+ae);.cc (rzm ab k) fun ag=>
 .cc (rzm ad aa) fun ah=>
 .cub 1 57 [3,5,14,15,17] [576,1280]
 (.br (!ag.2.2)
 (.oo true)
 (.br (!ah.2.2)
 (.oo true)
 (.br (ag.2.1 !=ah.2.1)
 (.oo true)
 (.cc (ezt ac) fun ai=>
 .br (!ai)
 (.oo true)
 (.cc (ezt ae) fun aj=>
 .oo (!aj)))))) fun ai=>
 .br ai
 (.ret (0,false))
 (.unroll 4<|
 .known true<|
 .ix 0 3 rfl<|
 .ix 0 3 rfl<|
 .cc (iza (i64.wrap (ag.1.1.Lo-ah.1.1.Hi))) fun aj=>
 .ix 0 3 rfl<|
 .ix 0 3 rfl<|
 .cc (iza (i64.wrap (ag.1.1.Hi-ah.1.1.Lo))) fun ak=>
 .cc (azt (max aj ak) ag.2.1) fun al=>
 .br (decide (al>af))
 (.ret ((-1),true))
 (.name 12004 ((i64.wrap ((i64.wrap (af * af))- (i64.wrap (al * al))))) fun am=>
 .lit 8001 (1)<|
 .known true<|
 .ix 1 3 rfl<|
 .ix 1 3 rfl<|
 .cc (iza (i64.wrap (ag.1.2.1.Lo-ah.1.2.1.Hi))) fun an=>
 .ix 1 3 rfl<|
 .ix 1 3 rfl<|
 .cc (iza (i64.wrap (ag.1.2.1.Hi-ah.1.2.1.Lo))) fun ao=>
 .cc (azt (max an ao) ag.2.1) fun ap=>
 .br (decide (ap>af))
 (.ret ((-1),true))
 (.name 12004 ((i64.wrap (am- (i64.wrap (ap * ap))))) fun aq=>
 .lit 8001 (2)<|
 .known true<|
 .ix 2 3 rfl<|
 .ix 2 3 rfl<|
 .cc (iza (i64.wrap (ag.1.2.2.Lo-ah.1.2.2.Hi))) fun ar=>
 .ix 2 3 rfl<|
 .ix 2 3 rfl<|
 .cc (iza (i64.wrap (ag.1.2.2.Hi-ah.1.2.2.Lo))) fun au=>
 .cc (azt (max ar au) ag.2.1) fun av=>
 .br (decide (av>af))
 (.ret ((-1),true))
 (.name 12004 ((i64.wrap (aq- (i64.wrap (av * av))))) fun aw=>
 .lit 8001 (3)<|
 .known false<|
 .ret (aw,true)))))
noncomputable def nzu:=
 mkq6 Tryz.func251 jzi (fun r=>.tup [pz r.1,q r.2])
noncomputable def gzr (k:A4)(aa:A4)(ab:Bq)(ac:Int)(ad:Bq)(ae:Int):T Bool:=
 .cc (nzu k aa ab ac ad ae) fun af=>
 .br af.2
 (.ret (decide (af.1≥0)))
 (.ret false)
noncomputable def fzc:=
 mkp6 Tryz.func148 gzr
noncomputable def pz8 (k:azc)(aa:Ae)(ab:Bk):T dzd:=let ac:=(ab.length:Nat);.cc (Hzq k aa) fun ad=>
 .br (!ad.2.2)
 (.ret (⟨0,nl,(⟨0,nl,nl⟩:czs)⟩:dzd))
 (.loop (fun s (ae:(Int×Bk×Int))=>pk s [2,6,7,8,10] [64,66,68,69,899,900] [(11,pz ae.2.2)] [(897,vO ae.2.1 100),(960,.box [pz ae.1,.vec 897,pz 0,.vec 899,.vec 900])])
 (.exit 0) (fun s (ae:(Int×Bk))=>pk s [6,10] [64,66,68,69,899,900] [] [(897,vO ae.2 100),(960,.box [pz ae.1,.vec 897,pz 0,.vec 899,.vec 900])])
 (fun ae=>let af:=(ae.2.2).toNat;let ag:=i64.wrap (ae.2.2+1);let ah:=ad.1.getD af default;let ai:=ah.points;let aj:=ah.radius;let ak:=ad.2.1.getD af default;let al:=ak.points;let am:=ak.radius;.br (decide (ae.2.2<(ad.1.length:Int)))
 (.cut 0 (fun s (an:(Int×Bk))=>pk s [2,6,7,8,10,11] [64,66,68,69,899,900] [] [(960,.box [pz an.1,.vec 1472,pz 0,.vec 899,.vec 900]),(1472,vO an.2 100)])
 (.cut 1 (fun s (an:Bk)=>pk s [2,6,7,8,10,11] [64,66,68,69,897,899,900,960] [(12,q an)] [])
 (.br (decide (ae.2.2<(ac:Int)))
 (.conv 10004 (Ezu 3 azh ab ae.2.2 ag)<|
 .grd (0≤ae.2.2/\ae.2.2≤ag/\ag≤(ac:Int))<|
 .oo ((ab.drop af).take (ag.toNat- (ae.2.2).toNat)))
 (.oo nl)) fun an=>
 .gh ae.2.2 ad.1.length<|
 .gh ae.2.2 ad.1.length<|
 .gh ae.2.2 ad.2.1.length<|
 .gh ae.2.2 ad.2.1.length<|
 .cc (tzm ai aj al am an) fun ao=>let ap:=([ao.1]:Bk);let aq:=ae.2.1++ap;let ar:=ae.2.1.length+ap.length;
 .conv 12003 (kL ap 100)<|
 .conv 12004 (kA ae.2.1 ap 100)<|
 .grd (ar * 24≤140737488355328/\ar≤maxLen)<|
 .br ao.2
 (.oo (ae.1,aq))
 (.gh ae.2.2 ad.1.length<|
 .cc (dzg ai) fun au=>
 .gh ae.2.2 ad.2.1.length<|
 .cc (dzg al) fun av=>
 .gh ae.2.2 ad.1.length<|
 .gh ae.2.2 ad.2.1.length<|
 .call (ezs au av (i64.wrap (aj+am)) 64) [] fun aw=>
 .gh ae.2.2 ad.1.length<|
 .gh ae.2.2 ad.1.length<|
 .gh ae.2.2 ad.2.1.length<|
 .gh ae.2.2 ad.2.1.length<|
 .cc (fzc aw.Left aw.Right ai aj al am) fun ax=>
 .br ax
 (.ff (.fin (⟨2,nl,(⟨ae.2.2,aw.Left,aw.Right⟩:czs)⟩:dzd)))
 (.oo (0,aq)))) fun an=>
 .nn (an.1,an.2,ag))
 (.oo (ae.1,ae.2.1)))
 (1,nl,0) [] fun ae=>
 .ret (⟨ae.1,ae.2,(⟨0,nl,nl⟩:czs)⟩:dzd))
noncomputable def pz7:=
 mkp3 Tryz.func81 pz8
noncomputable def vz0 (k:azc)(aa:A4):T Bool:=
 .cc (Fz9 aa) fun ab=>
 .cc (pz7 (⟨k.Robot,k.Shapes,k.Skips⟩:azc) ab nl) fun ac=>
 .ret (ac.Kind==1)
noncomputable def nzw:=
 mkp2 Tryz.func57 vz0
noncomputable def yze (k:az1)(aa:azg)(ab:az6)(ac:Int):T Bool:=let ad:=k.Grips.getD (ac.toNat) default;let ae:=(⟨k.Scene,k.Objects,k.Places,k.Hands,k.Grips,k.Slack⟩:az1);.cc (yzc k aa ab) fun af=>
 .cub 1 57 [3,4,5,6,9] [0,64,128,704]
 (.br (!af.2)
 (.oo true)
 (.br (decide (ac<0))
 (.oo true)
 (.br (decide (ac≥(k.Grips.length:Int)))
 (.oo true)
 (.gh ac k.Grips.length<|
 .br ((ad.Hand) !=ab.Hand)
 (.oo true)
 (.gh ac k.Grips.length<|
 .oo ((ad.Place) !=ab.Place)))))) fun ag=>
 .br ag
 (.ret false)
 (.gh ac k.Grips.length<|
 .cc (izb ae (⟨aa.Where⟩:azg)) fun ah=>
 .cc (izb ae af.1) fun ai=>
 .cc (nzx ae ab.Hand ab.Place (ad.At)) fun aj=>
 .br aj
 (.cc (nzw (⟨ah.1.Robot,ah.1.Shapes,ah.1.Skips⟩:azc) (ad.At)) fun ak=>
 .br ak
 (.cc (nzw (⟨ai.1.Robot,ai.1.Shapes,ai.1.Skips⟩:azc) (ad.At)) fun al=>
 .ret al)
 (.ret false))
 (.ret false))
noncomputable def ezn:=
 mkp4 Tryz.func23 yze
noncomputable def iz4 (k:az1)(aa:azg)(ab:az6)(ac:Int)(ad:A4)(ae:A4)(af:Int):T Bool:=let ag:=(⟨aa.Where⟩:azg);let ah:=(⟨ab.Kind,ab.Hand,ab.Place⟩:az6);let ai:=(⟨k.Scene,k.Objects,k.Places,k.Hands,k.Grips,k.Slack⟩:az1);.cub 2 28 [3,4,5,6,7,8,9] [0,64,128]
 (.cc (xzg k) fun aj=>
 .br (!aj)
 (.oo true)
 (.oo (decide ((aa.Where.length:Int)>20)))) fun aj=>
 .br aj
 (.cc (law39_awake_C) fun ak=>
 .ret ak)
 (.cc (zz5 ad) fun ak=>let al:=(⟨ak.Scene,ak.Objects,ak.Places,ak.Hands,ak.Grips,ak.Slack⟩:az1);
 .cc (Ozx ak ae) fun am=>let an:=(⟨am.Where⟩:azg);
 .cc (iz6 ac (i64.wrap ((ak.Grips.length:Int)+2))) fun ao=>let ap:=i64.wrap (ao-1);
 .cut 1 (fun s (aq:Bj)=>pk s [3,7,8,9,15,16,17,18] [0,64,128,448,768] [] [(1472,.box [pz aq.1,pz aq.2.1,pz aq.2.2])])
 (.cc (lzv al an) fun aq=>let ar:=(aq.length:Nat);
 .br (decide ((ar:Int)>0))
 (.cc (iz6 af (ar:Int)) fun au=>let av:=aq.getD (au.toNat) default;
 .gh au aq.length<|
 .oo (av.Kind,av.Hand,av.Place))
 (.oo (ab.Kind,ab.Hand,ab.Place))) fun aq=>let ar:=(⟨aq.1,aq.2.1,aq.2.2⟩:az6);
 .cc (law39_awake_C) fun au=>
 .br au
 (.cc (czn ai ag ah ac) fun av=>
 .cc (ezn ai ag ah ac) fun aw=>
 .br (av==aw)
 (.cc (czn al an ar ap) fun ax=>
 .cc (ezn al an ar ap) fun ay=>
 .br (ax==ay)
 (.cc (czn al an ah ap) fun az=>
 .cc (ezn al an ah ap) fun a0=>
 .ret (az==a0))
 (.ret false))
 (.ret false))
 (.ret false))
noncomputable def czh:=
 mkp7 Tryz.func4 iz4
open Go.Proofs
open Go.Proofs
end Go.Abs
