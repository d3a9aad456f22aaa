import Derived.Test.YtagmfmidaochlaaGreatDoorZGDL1
open Bool renaming true->AD,false->AE
open Go.IntKind renaming wrap->AG
open List renaming length->AA,getD->AF
open Option renaming some->AB
open Bool renaming not_true->qH,not_false->wI,and_eq_true->ql,not_eq_false'->wJ,or_eq_false_iff->qo
open Decidable renaming decide->qu
open Go.IntKind renaming i64->qs
open Inhabited renaming default->qt
open Int renaming emod_nonneg->wA,emod_lt_of_pos->wB,toNat_natCast->qD,pow_succ->wo,mul_comm->wK,mul_assoc->wL,le_refl->wM,zero_mul->wN,toNat_zero->wT
open List renaming mem_append->wC,mem_singleton->wD,drop_eq_nil_of_le->wF,cons_append->wG,append_assoc->wH,foldl_append->wP,reverse_cons->wQ,foldl_cons->wR,take_length->wS,length_append->wV,length_singleton->wW,length_cons->qw,reverse_reverse->wX,length_reverse->wY,getD_eq_getElem?_getD->qY,length_nil->qy
open Nat renaming le_refl->we,mul_le_mul->qx,lt_succ_self->wE,zero_le->wO,sub_zero->wU
open Option renaming bind_some->qG,bind->qM
open Go.Abs.T renaming run->qj
noncomputable section
namespace Go.Abs
open Go.Proofs
theorem mb {x k:Int}(c:0<k)(a:k<=4611686018427387904):(eY x k).o=AB (x % k):=by show(Ds x k).run NN=_;have b:=Int.mul_tdiv_add_tmod x k;grind[wA,wB,Ds,qj,ab,ah,w64,sM]
section
variable {l:A7} (hl:AA l<4294967296) {n:Int} (h0:0<=n) (h1:n<=(AA l:Int))
include hl h0 h1
theorem bM {k:Int}(c:0<k)(a:k<=4611686018427387904):∃r b,(aW l n k).o=AB (r,l,b)/\0<=r/\r<k/\0<=b/\b<=(AA l:Int):=by have d:(aW l n k).o=(A2 l n k).run NN:=rfl;rw[d];simp only[A2,qj];by_cases h:n>=(AA l:Int);{grind};rw[aj h,w64 (x:=n+1) qa qa,w64 qa qa,ab ⟨qa,qa⟩,mb c a,qG];exact⟨_,_,rfl,wA _ qa,wB _ c,qa,qa⟩
theorem eV {k:Int}(j:0<=k)(c:k<=1000000):∃r a,(ey l n k).o=AB (r,l,a)/\ -k<=r/\r<=k/\0<=a/\a<=(AA l:Int):=by have b:(ey l n k).o=(LI l n k).run NN:=rfl;rw[b];simp only[LI,qj];obtain⟨r,a,d,m,g,i,f⟩:=bM hl h0 h1 (k:=2 * k+1) qa qa;grind[w64]
def JB (j:cq):Prop:= -1048576<=j.Lo/\j.Lo<=j.Hi/\j.Hi<=1048576
theorem abx {i:Int}(i0:0<=i)(i1:i<=2):∃j y,(rX l n i).o=AB (j,l,y)/\JB j/\0<=y/\y<=(AA l:Int):=by
 have e0:(rX l n i).o=(rY l n i).run NN:=rfl;rw[e0];simp only[rY,qj];have el:∃b,(nO i).o=AB b:=by
  have z:(nO i).o=(rH i).run NN:=rfl;rw[z];simp only[rH,qj];rw[w64 (x:=i+1) qa qa,ab ⟨qa,qa,by rw[show((⟨#[97,98,99,100,101,102,103,104,105,106]⟩:ByteArray).size)=10 from rfl];omega⟩];exact⟨_,rfl⟩
 obtain⟨Y,el⟩:=el;obtain⟨r1,S,z,N,P,C,d1⟩:=bM hl h0 h1 (k:=4) jU jU;obtain⟨r2,M,D,O,Q,c2,d2⟩:=bM hl C d1 (k:=3) jU jU;obtain⟨r3,n3,R,a3,b3,c3,d3⟩:=bM hl c2 d2 (k:=8) jU jU;obtain⟨r4,X,e4,a4,b4,V,d4⟩:=bM hl c3 d3 (k:=4) jU jU;rw[el,qG,z,qG,D,qG,R,qG,ab ⟨j8,j8⟩,e4,qG];generalize hK:AF ([3,3,1,2,4,5,3,0]:A7) r3.toNat 0=K;have rest:∀ (m U:Int),0<=m->m<=(AA l:Int)->∃j y,(andC (bif qu (i>0)then(ey l m 2).o.bind λE=>(ey E.2.1 E.2.2 1).o.bind λF=>AB (.out (F.2.1,F.2.2,131072,AG qs (E.1 * 32768),AG qs (F.1 * 32768)))else AB (.out (l,m,0,0,0)):Option (am Unit (A7×Int×Int×Int×Int) (cq×A7×Int))) λc=>
  andC (bif K==0 then AB (.out (c.1,c.2.1,0,0))else andC (bif K==4 then AB (.out (K==4))else AB (.out (K==5)):Option (am Unit Bool (am Unit (A7×Int×Int×Int) (cq×A7×Int)))) λG=>
   bif G then(aW c.1 c.2.1 3).o.bind λf=>(aW f.2.1 f.2.2 4).o.bind λg=>AB (.out (g.2.1,g.2.2,AG qs (AG qs (0-f.1) * 65536),AG qs (g.1 * 32768)))
   else(aW c.1 c.2.1 5).o.bind λr=>(aW r.2.1 r.2.2 4).o.bind λt=>(aW t.2.1 t.2.2 3).o.bind λw=>
    AB (.out (w.2.1,w.2.2,AG qs ((AG qs (AG qs (0-r.1) * 65536)).tdiv 8),AG qs (AG qs ((AG qs (AG qs (1+t.1) * 65536)).tdiv 8)+w.1))):Option (am Unit (A7×Int×Int×Int) (cq×A7×Int))) λd=>
  AB ((⟨Y,K,U,(c.2.2.1,c.2.2.2.1,c.2.2.2.2),d.2.2.1,d.2.2.2,AG qs (1+r1),65536,AG qs (65536+r2),327680⟩:cq),d.1,d.2.1))=AB (j,l,y)/\JB j/\0<=y/\y<=(AA l:Int):=by
  intro m U H I;have L:∀ (m Z o2 o3:Int),0<=m->m<=(AA l:Int)->∃j y,(andC (bif K==0 then AB (.out (l,m,0,0))else andC (bif K==4 then AB (.out (K==4))else AB (.out (K==5)):Option (am Unit Bool (am Unit (A7×Int×Int×Int) (cq×A7×Int)))) λG=>
   bif G then(aW l m 3).o.bind λf=>(aW f.2.1 f.2.2 4).o.bind λg=>AB (.out (g.2.1,g.2.2,AG qs (AG qs (0-f.1) * 65536),AG qs (g.1 * 32768)))
   else(aW l m 5).o.bind λr=>(aW r.2.1 r.2.2 4).o.bind λt=>(aW t.2.1 t.2.2 3).o.bind λw=>
    AB (.out (w.2.1,w.2.2,AG qs ((AG qs (AG qs (0-r.1) * 65536)).tdiv 8),AG qs (AG qs ((AG qs (AG qs (1+t.1) * 65536)).tdiv 8)+w.1))):Option (am Unit (A7×Int×Int×Int) (cq×A7×Int))) λd=>
   AB ((⟨Y,K,U,(Z,o2,o3),d.2.2.1,d.2.2.2,AG qs (1+r1),65536,AG qs (65536+r2),327680⟩:cq),d.1,d.2.1))=AB (j,l,y)/\JB j/\0<=y/\y<=(AA l:Int):=by
   intro m Z o2 o3 H I;cases K==0
   ·simp only[qd,aS,ah];cases (bif K==4 then K==4 else K==5)
    ·obtain⟨A,S,z,N,P,C,d1⟩:=bM hl H I (k:=5) jU jU;obtain⟨B,M,D,O,Q,c2,d2⟩:=bM hl C d1 (k:=4) jU jU;obtain⟨s3,n3,R,a3,b3,c3,d3⟩:=bM hl c2 d2 (k:=3) jU jU;simp only[qd];rw[z,qG,D,qG,R,qG,ah];refine⟨_,_,rfl,?_,c3,d3⟩;simp only[JB]
     rw[w64 (x:=0-A) qa qa,w64 (x:=(0-A) * 65536) qa qa,w64 (x:=1+B) qa qa,w64 (x:=(1+B) * 65536) qa qa,gv (a:=(1+B) * 65536) qa,
      show(0-A) * 65536= -(A * 65536) from qa,tc,gv qa,w64 (x:= -(A * 65536 / 8)) qa qa,w64 (x:=(1+B) * 65536 / 8) qa qa,w64 (x:=(1+B) * 65536 / 8+s3) qa qa]
     omega
    obtain⟨A,S,z,N,P,C,d1⟩:=bM hl H I (k:=3) jU jU;obtain⟨B,M,D,O,Q,c2,d2⟩:=bM hl C d1 (k:=4) jU jU;simp only[qe];rw[z,qG,D,qG,ah];refine⟨_,_,rfl,?_,c2,d2⟩;simp only[JB];rw[w64 (x:=0-A) qa qa,w64 (x:=(0-A) * 65536) qa qa,w64 (x:=B * 32768) qa qa];omega
   exact⟨_,_,rfl,by simp only[JB];omega,H,I⟩
  cases qu (i>0);{simp only[qd,ah];exact L m 0 0 0 H I};obtain⟨A,S,z,N,P,C,d1⟩:=eV hl H I (k:=2) jU jU;obtain⟨B,M,D,O,Q,c2,d2⟩:=eV hl C d1 (k:=1) jU jU;simp only[qe];rw[z,qG,D,qG,ah];exact L M _ _ _ c2 d2
 cases r4==1;{exact rest X _ V d4};exact rest X _ V d4
theorem abA:∃b:ao×A7×Int,(mc l n).o=AB b/\b.2.1=l/\(1<=AA b.1.Xb/\(AA b.1.Xb)<=3/\∀j∈b.1.Xb,JB j)/\0<=b.2.2/\b.2.2<=(AA l:Int):=by
 have e0:(mc l n).o=(rZ l n).run NN:=rfl;rw[e0];simp only[rZ,qj];obtain⟨u,n1,P,a1,b1,c,K⟩:=bM hl h0 h1 (k:=3) jU jU;rw[P,qG];rw[w64 (x:=1+u) qa qa];obtain⟨R,O⟩:∃R:Nat,1+u=(R:Int):=⟨(1+u).toNat,qa⟩;rw[O]
 refine g9 (g:=λb=>b) R qa (λj (y:A7×Int×A3×Int)=>y.1=l/\0<=y.2.1/\y.2.1<=(AA l:Int)/\(AA y.2.2.1)=j/\(∀x∈y.2.2.1,JB x)/\y.2.2.2=(j:Int))
  (λ(z:A7×Int×A3)=>z.1=l/\0<=z.2.1/\z.2.1<=(AA l:Int)/\(AA z.2.2)=R/\∀x∈z.2.2,JB x) ⟨rfl,c,K,rfl,by simp[nl],rfl⟩ (λj y S a=>?_) (λy a=>?_) (λz U=>?_)
 ·obtain⟨f,m,h,A,e,q⟩:=a;obtain⟨jt,n',Q,B,s,t⟩:=abx hl m h (i:=(j:Int)) qa qa;rw[q,f,ai qa,Q,qG];rw[ab ⟨jZ,by simp[au];omega⟩,wn qa];refine⟨_,rfl,rfl,s,t,jZ,λx d=>?_,rfl⟩;rcases wC.1 d with d|d;{exact e x d};rw[wD.1 d];exact B
 {obtain⟨f,m,h,A,e,q⟩:=a;rw[q,aj qa];exact⟨_,rfl,f,m,h,A,e⟩};obtain⟨f,m,h,A,e⟩:=U;obtain⟨E,n2,I,a2,b2,F,d2⟩:=bM hl m h (k:=3) jU jU;rw[f,I,qG];obtain⟨M,L⟩:∃M:Nat,E=(M:Int):=⟨E.toNat,qa⟩;rw[L]
 refine g9 (g:=λb=>b) M qa (λj (y:A7×Int×Ab×Int)=>y.1=l/\0<=y.2.1/\y.2.1<=(AA l:Int)/\(AA y.2.2.1)=j/\y.2.2.2=(M:Int)- (j:Int))
  (λ(w:A7×Int×Ab)=>w.1=l/\0<=w.2.1/\w.2.1<=(AA l:Int)) ⟨rfl,F,d2,rfl,jV⟩ (λj y S a=>?_) (λy a=>?_) (λw p=>?_)
 {obtain⟨D,v,r,N,C⟩:=a;obtain⟨s1,m1,J,u1,v1,w1,x1⟩:=bM hl v r (k:=(R:Int)) qa qa;obtain⟨s2,m2,V,u2,v2,Y,x2⟩:=bM hl w1 x1 (k:=9000) jU jU;obtain⟨s3,m3,X,u3,v3,Z,x3⟩:=eV hl Y x2 (k:=3) jU jU;obtain⟨s4,m4,G,u4,v4,w4,H⟩:=eV hl Z x3 (k:=2) jU jU;rw[C,D,ai qa,J,qG,V,qG,X,qG,G,qG];rw[ab ⟨jZ,by simp[au];omega⟩,w64 (x:=(M:Int)- (j:Int)-1) qa qa];exact⟨_,rfl,rfl,w4,H,jZ,j8⟩};{obtain⟨D,v,r,N,C⟩:=a;rw[C,aj qa];exact⟨_,rfl,D,v,r⟩};exact⟨_,rfl,p.1,⟨j8,j8,e⟩,p.2.1,p.2.2⟩
theorem abz:∃r a,(mc l n).o=AB (r,l,a)/\(1<=AA r.Xb/\(AA r.Xb)<=3/\∀j∈r.Xb,JB j)/\0<=a/\a<=(AA l:Int):=by grind[abA]
end
def PB (n:Nat)(l:Ar):Prop:=AA l<=n/\∀x∈l,AA x.Xf<=1048576
def tW (w:A7):Nat->Int
 |0=>0
 |j+1=>AG qs (tW w j+AF w j qt)
def cW (w:A7)(g:Nat->Int):Nat->Int
 |0=>0
 |j+1=>AG qs (cW w g j+AG qs (AF w j qt * g j))
def cV (l:List IV3)(w:A7)(j:Nat):IV3:=
 (⟨cW w (λi=>(AF l i qt).1.Lo) j,cW w (λi=>(AF l i qt).1.Hi) j⟩,⟨cW w (λi=>(AF l i qt).2.1.Lo) j,cW w (λi=>(AF l i qt).2.1.Hi) j⟩,⟨cW w (λi=>(AF l i qt).2.2.Lo) j,cW w (λi=>(AF l i qt).2.2.Hi) j⟩)
def badW (w:A7)(j:Nat):Bool:=qu (AF w j qt<0)||qu (AF w j qt>65536)
def zc:IV3×Int×Bool:=((⟨0,0⟩,⟨0,0⟩,⟨0,0⟩),0,AE)
def okC (l:List IV3)(w:A7):Prop:=bP l=AD/\(AA w)=AA l/\aA (badW w) (AA w)=AD/\1<=tW w (AA w)/\tW w (AA w)<=65536
instance (l:List IV3)(w:A7):Decidable (okC l w):=by unfold okC;infer_instance
def cD (l:List IV3)(w:A7):IV3×Int×Bool:=if okC l w then(cV l w (AA w),tW w (AA w),AD)else zc
theorem badW_iff {w:A7}{n:Nat}:aA (badW w) n=AD↔∀j,j<n->0<=AF w j qt/\AF w j qt<=65536:=by grind[noneB_iff,badW]
theorem H0 {w:A7}{n:Nat}(h:∀j,j<n->0<=AF w j qt/\AF w j qt<=65536)(a:n<=8):∀j,j<=n->0<=tW w j/\tW w j<=65536 * (j:Int)/\∀i,i<=j->tW w i<=tW w j
 |0,_=>⟨by simp[tW],by simp[tW],λi e=>jW⟩
 |j+1,f=>by
  obtain⟨d,c,b⟩:=H0 h a j qa;grind[tW,w64]
theorem Sc {l:List IV3}{w:A7}(a:bP l=AE):¬okC l w:=λh=>by obtain⟨b,_⟩:=h;simp_all
theorem ZR (l:List IV3)(w:A7):(MC l w).o=AB (cD l w):=by
 show(MD l w).run NN=_;simp only[MD,qj,iG,qG,aS,ah,cD];cases a:bP l;{rw[qb (Sc a)];rfl};have d:=e6 a;simp only[qH,qd];by_cases k:AA w=AA l
 ·rw[aJ qa];refine(gn (λj=>((cV l w j).1.Lo,(cV l w j).1.Hi,(cV l w j).2.1.Lo,(cV l w j).2.1.Hi,(cV l w j).2.2.Lo,(cV l w j).2.2.Hi,tW w j,(j:Int))) (λj=>sw (badW w j) zc) ((cV l w (AA w)).1.Lo,(cV l w (AA w)).1.Hi,(cV l w (AA w)).2.1.Lo,(cV l w (AA w)).2.1.Hi,(cV l w (AA w)).2.2.Lo,(cV l w (AA w)).2.2.Hi,tW w (AA w)) (AA w) rfl (show AA w<4294967296 from qa) (λj i=>?_) ?_).trans ?_
  ·dsimp only;rw[ai qa,ab ⟨qa,qa⟩,qD,cB,show(qu (AF w j qt<0)||qu (AF w j qt>65536))=badW w j from rfl];cases badW w j;{rw[qd,ab ⟨qa,qa⟩,wn qa];rfl};rfl
  {simp_all};rw[ct];cases g:aA (badW w) (AA w);{rw[qb (λh=>by obtain⟨_,_,e,_⟩:=h;simp_all)];rfl};simp only[sw,qH,qd,cB];by_cases c:tW w (AA w)<1;{rw[qb (λh=>by obtain⟨_,_,_,f,_⟩:=h;omega),qg c];rfl};by_cases b:tW w (AA w)>65536;{rw[qb (λh=>by obtain⟨_,_,_,_,m⟩:=h;omega),qh c,qg b];rfl};simp_all[okC,qh]
 rw[bJ qa,qb (λh=>by obtain⟨_,b,_⟩:=h;omega)];rfl
def badR (w:A7)(j:Nat):Bool:=qu (AF w j qt<0)||qu (AF w j qt>AG qs (65536-tW w j))
theorem afB {w:A7}{n:Nat}(a:n<=8):aA (badR w) n=AD↔aA (badW w) n=AD/\tW w n<=65536:=by
 rw[badW_iff];constructor
 ·intro h;rw[noneB_iff]at h;have b:∀j,j<=n->0<=tW w j/\tW w j<=65536:=by
   intro j;induction j<;>grind[tW,badR,w64]
  grind[badR,w64]
 rintro⟨h,c⟩;rw[noneB_iff];intro j f;have d:=H0 h a n (we _);have e:=H0 h a j qa;grind[tW,w64,badR]
theorem N5 (l:List IV3)(w:A7):(L9 l w).o=AB (cD l w):=by
 show(Ma l w).run NN=_;simp only[Ma,qj,nJ,qG,aS,ah,cD];cases b:bP l;{rw[qb (Sc b)];rfl};have e:=e6 b;simp only[qH,qd];by_cases k:AA w=AA l
 ·rw[aJ qa];refine(gn (λj=>(tW w j,(j:Int))) (λj=>sw (badR w j) zc) (tW w (AA w)) (AA w) rfl (show AA w<4294967296 from qa) (λj i=>?_) ?_).trans ?_;{rw[ai qa,ab ⟨qa,qa⟩,ab ⟨qa,qa⟩,ab ⟨qa,qa⟩,aS,ah,qD,cB,show(qu (AF w j qt<0)||qu (AF w j qt>AG qs (65536-tW w j)))=badR w j from rfl,wn qa];cases badR w j<;>rfl};{simp_all};rw[ct];have a:=afB (w:=w) (n:=AA w) qa;cases g:aA (badR w) (AA w);{rw[qb (λh=>by obtain⟨_,_,p,_,r⟩:=h;simp_all)];rfl};obtain⟨c,f⟩:=a.1 g;by_cases d:tW w (AA w)<1;{rw[qb (λh=>by obtain⟨_,_,_,m,_⟩:=h;omega),ai d];rfl};rw[qc (show okC l w from⟨b,k,c,qa,qa⟩),aj d];refine(aO (λj=>((cV l w j).1.Lo,(cV l w j).1.Hi,(cV l w j).2.1.Lo,(cV l w j).2.1.Hi,(cV l w j).2.2.Lo,(cV l w j).2.2.Hi,(j:Int))) ((cV l w (AA w)).1.Lo,(cV l w (AA w)).1.Hi,(cV l w (AA w)).2.1.Lo,(cV l w (AA w)).2.1.Hi,(cV l w (AA w)).2.2.Lo,(cV l w (AA w)).2.2.Hi) (AA w) rfl (show AA w<4294967296 from qa) (λj i=>?_) ?_).trans rfl;{dsimp only;rw[ai qa];simp only[ab (show 0<=(j:Int)/\(j:Int)<(AA w:Int) from qa),ab (show 0<=(j:Int)/\(j:Int)<(AA l:Int) from qa),qD];rw[wn qa];rfl};simp_all
 rw[bJ qa,qb (λh=>by obtain⟨_,q,_⟩:=h;omega)];rfl
theorem ak7 {a b:Int}(c:0<=a/\a<=65536)(d: -268435456<=b/\b<=268435456): -17592186044416<=a * b/\a * b<=17592186044416:=by
 have h:(a * b).natAbs<=65536 * 268435456:=by rw[Int.natAbs_mul];exact qx qa qa
 omega
theorem UW {w:A7}{g:Nat->Int}{n:Nat}(h:∀j,j<n->0<=AF w j qt/\AF w j qt<=65536)(a:∀j,j<n-> -268435456<=g j/\g j<=268435456)(b:n<=8):∀j,j<=n-> -17592186044416 * (j:Int)<=cW w g j/\cW w g j<=17592186044416 * (j:Int)
 |0,_=>by simp[cW]
 |j+1,d=>by
  obtain⟨e,c⟩:=UW h a b j qa;have f:=ak7 (h j qa) (a j qa);grind[cW,w64]
def sm (x:Int):Prop:= -140737488355328<=x/\x<=140737488355328
def smV (v:IV3):Prop:=(sm v.1.Lo/\sm v.1.Hi)/\(sm v.2.1.Lo/\sm v.2.1.Hi)/\sm v.2.2.Lo/\sm v.2.2.Hi
theorem F6 {l:List IV3}{w:A7}(h:(cD l w).2.2=AD):1<=(cD l w).2.1/\(cD l w).2.1<=65536/\smV (cD l w).1:=by
 unfold cD at h⊢;by_cases c:okC l w
 ·rw[qc c];obtain⟨e,r,o,n,f⟩:=c;have q:=e6 e;have p:=badW_iff.1 o;have k:∀j,j<AA w->fC (AF l j qt)=true:=λj d=>od e qa
  have a:∀g:IV3->Int,(∀v:IV3,fC v=true-> -268435456<=g v/\g v<=268435456)->sm (cW w (λi=>g (AF l i qt)) (AA w)):=λg m=>by
   have:=UW p (g:=λi=>g (AF l i qt)) (λj d=>m _ (k j d)) qa (AA w) (we _);unfold sm;omega
  have s:∀v:IV3,fC v=true->(-268435456<=v.1.Lo/\v.1.Lo<=v.1.Hi/\v.1.Hi<=268435456)/\(-268435456<=v.2.1.Lo/\v.2.1.Lo<=v.2.1.Hi/\v.2.1.Hi<=268435456)/\(-268435456<=v.2.2.Lo/\v.2.2.Lo<=v.2.2.Hi/\v.2.2.Hi<=268435456):=λv b=>by
   grind[fC,T3]
  exact⟨n,f,⟨a (λv=>v.1.Lo) (λv b=>jX),a (λv=>v.1.Hi) (λv b=>jX)⟩,⟨a (λv=>v.2.1.Lo) (λv b=>jX),a (λv=>v.2.1.Hi) (λv b=>jX)⟩,a (λv=>v.2.2.Lo) (λv b=>jX),a (λv=>v.2.2.Hi) (λv b=>jX)⟩
 rw[qb c]at h;cases h
def mxV (p q:Int):Int:=max (max (AG qs p) (AG qs (0-AG qs p))) (max (AG qs q) (AG qs (0-AG qs q)))
theorem EV {p q:Int}(a: -281474976710656<=p/\p<=281474976710656)(b: -281474976710656<=q/\q<=281474976710656):(uI [AG qs p,AG qs q]).o=AB (mxV p q):=by show(JU [AG qs p,AG qs q]).run NN=_;simp only[JU,qj];refine(aO (λj=>((match j with|0=>0|1=>max (max 0 (AG qs p)) (AG qs (0-AG qs p))|_=>max (max (max (max 0 (AG qs p)) (AG qs (0-AG qs p))) (AG qs q)) (AG qs (0-AG qs q)):Int),(j:Int))) (max (max (max (max 0 (AG qs p)) (AG qs (0-AG qs p))) (AG qs q)) (AG qs (0-AG qs q))) 2 rfl jU (λj c=>?_) ?_).trans ?_;all_goals grind[ab,mxV,w64]
theorem HB {p q t:Int}(d: -281474976710656<=p/\p<=281474976710656)(f: -281474976710656<=q/\q<=281474976710656)(i:1<=t/\t<=65536):
 AG qs ((AG qs (AG qs (mxV p q+t)-1)).tdiv t)=cdiv (mxV p q) t:=by
 have c:0<=mxV p q/\mxV p q<=281474976710656:=by
  grind[mxV,w64]
 generalize mxV p q=H at c;have e:(H+t-1) / t=cdiv H t:=by
  symm
  rw[sX qa];have h:=lp (a:=H+t-1) (b:=t) qa;have g:=oR (a:=H+t-1) (b:=t) qa;omega
 have:=tC (a:=H) (b:=t) qa;grind[w64]
theorem acF (a:Int):(JW a).o=AB (radV a):=by show(JX a).run NN=_;have h:=rv a;rw[show(kI a).o=(ru a).run NN from rfl]at h;grind[JX,ru]
theorem aep (u v:A7)(a:List IV3)(d:Int)(b:List IV3)(c:Int):(ND u v a d b c).o=(vH u v a d b c).o:=by
 show(Ld u v a d b c).run NN=(rr u v a d b c).run NN;simp only[Ld,rr,qj,ZR,N5,acF,rv,qG,aS,ah,Qe];cases n:(cD a u).2.2;{rfl};cases l:(cD b v).2.2;{rfl};obtain⟨e,f,j,r,i⟩:=F6 n;obtain⟨_,_,k,m,g⟩:=F6 l;unfold sm at j r i k m g;cases (bif (cD a u).2.1 !=(cD b v).2.1 then AD else bif !radV d then AD else !radV c)
 ·simp only[ab (show(cD a u).2.1≠0 from qa)]
  have h:∀p q:Int,(cy (max (max (AG qs p) (AG qs (0-AG qs p))) (max (AG qs q) (AG qs (0-AG qs q)))) (cD a u).2.1).o=AB (cdiv (mxV p q) (cD a u).2.1):=
   λp q=>dr (((InR.wr _).max (InR.wr _)).max ((InR.wr _).max (InR.wr _))) qa
  simp only[h,qG]
  rw[EV (p:=(cD a u).1.1.Lo- (cD b v).1.1.Hi) (q:=(cD a u).1.1.Hi- (cD b v).1.1.Lo) qa qa,qG,HB qa qa ⟨e,f⟩,
   EV (p:=(cD a u).1.2.1.Lo- (cD b v).1.2.1.Hi) (q:=(cD a u).1.2.1.Hi- (cD b v).1.2.1.Lo) qa qa,qG,HB qa qa ⟨e,f⟩,
   EV (p:=(cD a u).1.2.2.Lo- (cD b v).1.2.2.Hi) (q:=(cD a u).1.2.2.Hi- (cD b v).1.2.2.Lo) qa qa,qG,HB qa qa ⟨e,f⟩]
 rfl
theorem acG (u v:A7)(a:List IV3)(c:Int)(b:List IV3)(d:Int):(JS u v a c b d).o=(nu u v a c b d).o:=by show(JT u v a c b d).run NN=(pQ u v a c b d).run NN;grind[JT,pQ,qj,aep]
theorem Za (u v:A7)(a:List IV3)(d:Int)(b:List IV3)(c:Int):∃y:Bool,(nu u v a d b c).o=AB y:=by
 have r:∃y:Int×Bool,(vH u v a d b c).o=AB y:=by
  have f:(vH u v a d b c).o=(rr u v a d b c).run NN:=rfl;rw[f];have g:(cD a u).2.2=true->1<=(cD a u).2.1:=λh=>(F6 h).1
  generalize n:cD a u=x at g;simp only[rr,qj,N5,n,rv,qG,aS,ah];generalize cD b v=y;cases e:x.2.2;{simp_all};have j:=g e;cases (bif !AD then AD else bif !y.2.2 then AD else bif x.2.1 !=y.2.1 then AD else bif !radV d then AD else !radV c)
  ·have l:∀p q:Int,(cy (max (max (AG qs p) (AG qs (0-AG qs p))) (max (AG qs q) (AG qs (0-AG qs q)))) x.2.1).o=AB (cdiv (max (max (AG qs p) (AG qs (0-AG qs p))) (max (AG qs q) (AG qs (0-AG qs q)))) x.2.1):=
    λp q=>dr (((InR.wr _).max (InR.wr _)).max ((InR.wr _).max (InR.wr _))) qa
   simp only[qd,Qe,qG,l];generalize cdiv _ _=i;cases qu (i>AG qs (d+c))
   ·generalize cdiv _ _=m;cases qu (m>AG qs (d+c));{generalize cdiv _ _=k;cases qu (k>AG qs (d+c))<;>exact⟨_,rfl⟩};simp_all
   simp_all
  simp_all
 have f:(nu u v a d b c).o=(pQ u v a d b c).run NN:=rfl;grind[pQ,qj]
def ovV (u v:A7)(a:List IV3)(c:Int)(b:List IV3)(d:Int):Bool:=(nu u v a c b d).o.getD AE
theorem NJ (u v:A7)(a:List IV3)(c:Int)(b:List IV3)(d:Int):(nu u v a c b d).o=AB (ovV u v a c b d):=by obtain⟨y,e⟩:=Za u v a c b d;rw[ovV,e];rfl
theorem Ys (u v:A7)(a:List IV3)(c:Int)(b:List IV3)(d:Int):(JS u v a c b d).o=AB (ovV u v a c b d):=by grind[acG,NJ]
def oZ (s:ak)(b:Ah)(w:cN):Bool:=
 if(aM s=0/\boxV s.Xe b=AD)/\0<=w.XR/\w.XR<(AA (aL s):Int)then
  ovV w.Left w.XL (aX s b (pA s w.XR.toNat)) (bZ s (pA s w.XR.toNat)) (aX s b (pB s w.XR.toNat)) (bZ s (pB s w.XR.toNat))else AE
theorem aaz {s:ak}{b:Ah}(h:aM s=0/\boxV s.Xe b=AD){j:Nat}(c:j<AA (aL s)):
 (vQ ⟨s.Xd,aL s,fD s b⟩ (j:Int)).o=AB ⟨aX s b (pA s j),aX s b (pB s j),bZ s (pA s j),bZ s (pB s j)⟩:=by
 have hp:=GF h.1 c;show(rC ⟨s.Xd,aL s,fD s b⟩ (j:Int)).run NN=_;simp only[rC,qj,qD,Er h.1 h.2,aZ];rw[ab ⟨qa,qa⟩,ab hp.1,ab hp.1,ab hp.2,ab hp.2,ek qa,ek qa];rfl
section
variable (s:ak) (p q:A7) (hp:AA p<4294967296) (hq:AA q<4294967296)
include hp hq
end
theorem OB (a:af):(re a).o=AB (bif vV a then AG qs (a.Lo+a.Hi) / 2 else 0):=by
 show(yt a).run NN=_;simp only[yt,qj,fP,qG];cases vV a with
 |false=>rfl
 |true=>
  have:=uL (AG qs (a.Lo+a.Hi)) 1 qa;simp_all
theorem Om (l:List IV3):∃r,(gR l).o=AB r/\(bP l=true->AA r=AA l):=by
 show ∃r,(pZ l).run NN=AB r/\_;simp only[pZ,qj,iG,qG,OB];cases b:bP l with
 |false=>simp_all
 |true=>
  have d:=e6 b;rw[cT (by rfl),ab qa];refine bS (λm (x:List V3×Int)=>AA x.1=AA l/\∃j:Nat,x.2=(j:Int)/\j+m=AA l) (λy:List V3=>AA y=AA l) (AA l) ⟨jV,0,rfl,qa⟩ qa ?_ λy a=>⟨y,rfl,λ_=>a⟩
  rintro m ⟨x,i⟩ ⟨c,j,rfl,f⟩;cases m with
  |zero=>simp_all
  |succ m=>
   refine .inl ⟨?w,m,?e,wE m,?i⟩
   case e=>rw[ai qa,ab qa,ab qa,ab qa,ab jX,ab jX,ab jX,ab jX]
   case i=>exact⟨jX,j+1,by grind[wn],qa⟩
theorem Ph (l:List V3)(d:AA l<4294967296):∃r,(vX l).o=AB r:=by
 show ∃r,(rJ l).run NN=AB r;simp only[rJ,qj];suffices h:∃r,_=AB r/\True from h.imp λ_ h=>h.1
 refine bS (λm (x:Int×Int×Int×Int)=>∃j:Nat,x.2.2.2=(j:Int)/\j+m=AA l) (λ_=>True) (AA l) ⟨0,rfl,qa⟩ d ?_ λy _=>⟨_,rfl,trivial⟩
 rintro m ⟨a,b,c,i⟩ ⟨j,g,f⟩;cases m with
 |zero=>simp_all
 |succ m=>
  refine .inl ⟨?w,m,?e,wE m,?i⟩
  case e=>rw[ai qa,ab qa]
  case i=>exact⟨j+1,by grind[wn],qa⟩
theorem al1 {x:Int}{m:Nat}(h:x.natAbs<2 ^ (m+1)):(x.tdiv 2).natAbs<2 ^ m:=by grind
theorem LC {v:V3}(g:InR v.1)(e:InR v.2.1)(f:InR v.2.2):∃r,(uW v).o=AB r/\(r.2=true->bN r.1=AD):=by
 show ∃r,(pT v).run NN=AB r/\_;simp only[pT,qj,uP,qG];have d:∀ {x:Int},InR x->x.natAbs<2 ^ 64:=λ{x} h=>by have:=h.1;have:=h.2;omega
 refine bS (λm (x:Int×Int×Int)=>(InR x.1/\InR x.2.1/\InR x.2.2)/\x.1.natAbs<2 ^ m/\x.2.1.natAbs<2 ^ m/\x.2.2.natAbs<2 ^ m) (λy:Int×Int×Int=>cd y 16384=AD) 64 ⟨⟨g,e,f⟩,d g,d e,d f⟩ qa ?_ λy A=>⟨_,rfl,λq=>?_⟩
 ·rintro m ⟨a,b,c⟩ ⟨⟨n,j,i⟩,t,u,z⟩;cases s:cd (a,b,c) 16384 with
  |true=>simp_all
  |false=>
   cases m with
   |zero=>
    grind[nearV_iff]
   |succ m=>
    refine .inl ⟨_,m,rfl,wE m,?_⟩;have k:=n.tdiv (b:=2) qa;have p:=j.tdiv (b:=2) qa;have l:=i.tdiv (b:=2) qa;simp only[k.w,p.w,l.w];grind
 grind[bN]
theorem aaa (a b:List IV3):∃r,(vE a b).o=AB r:=by
 show ∃r,(rh a b).run NN=AB r;simp only[rh,qj,iG,qG];cases h:bP a with
 |false=>exact⟨_,rfl⟩
 |true=>
  cases e:bP b with
  |false=>exact⟨_,rfl⟩
  |true=>
   obtain⟨f,l,m⟩:=Om a;obtain⟨g,i,p⟩:=Om b;have:=e6 h;have:=e6 e;obtain⟨c,n⟩:=Ph f jX;obtain⟨d,k⟩:=Ph g jX;obtain⟨r,j,_⟩:=LC (v:=(AG qs (AG qs (c.1 * (AA b:Int))-AG qs (d.1 * (AA a:Int))),AG qs (AG qs (c.2.1 * (AA b:Int))-AG qs (d.2.1 * (AA a:Int))),AG qs (AG qs (c.2.2 * (AA b:Int))-AG qs (d.2.2 * (AA a:Int))))) (InR.wr _) (InR.wr _) (InR.wr _);grind[ah]
theorem Nz (l:List V3):∃r,(uS l).o=AB r/\(r=true->1<=AA l/\(AA l)<=8):=by
 show ∃r,(pN l).run NN=AB r/\_;simp only[pN,qj,aS,ah,cB];by_cases h:1<=AA l/\(AA l)<=8
 ·rw[qh (p:=(AA l:Int)<1) qa,qh (p:=(AA l:Int)>8) qa];refine bS (λm (x:Int)=>∃j:Nat,x=(j:Int)/\j+m=AA l) (λ_=>True) (AA l) ⟨0,rfl,qa⟩ qa ?_ λy _=>⟨_,rfl,λ_=>h⟩
  rintro m _ ⟨j,rfl,d⟩;cases m with
  |zero=>simp_all
  |succ m=>
   rw[ai qa,ab qa];generalize c:andK _ _=f;have a:∃r,f=AB r/\(r=.next ((j+1:Nat):Int)\/r=.fin AE):=by
    rw[<-c];refine bS (λm (x:Int)=>∃i:Nat,x=(i:Int)/\i+m=3) (λ_=>True) 3 ⟨0,rfl,rfl⟩ qa ?_ λy _=>⟨_,rfl,.inl (by rw[wn qa])⟩
    rintro m _ ⟨i,rfl,d⟩;cases m with
    |zero=>simp_all
    |succ m=>
     rw[ai qa,ab qa];generalize List.getD [_,_,_] _ _=z;generalize (qu (z< -268435456)||qu (z>268435456))=b;cases b with
     |true=>simp_all
     |false=>exact .inl ⟨_,m,rfl,wE m,i+1,wn qa,qa⟩
   obtain⟨r,e,g⟩:=a;rcases g with rfl|rfl;{exact .inl ⟨_,m,e,wE m,j+1,rfl,qa⟩};simp_all
 refine⟨AE,?_,λk=>jX⟩;grind
theorem M9 (l:List V3)(a:1<=AA l)(b:AA l<4294967296):∃r,(uN l).o=AB r/\r.1=l/\(AA r.2)=AA l:=by refine⟨(l,(List.replicate (AA l) (0:Int)).set 0 65536),?_,rfl,jV⟩;show(pI l).run NN=_;grind[pI,qj,ab]
theorem Re (l:List V3)(w:A7)(k:AA w=AA l)(d:AA l<4294967296):∃r,(sO l w).o=AB r:=by
 show ∃r,(oc l w).run NN=AB r;simp only[oc,qj];suffices h:∃r,_=AB r/\True from h.imp λ_ h=>h.1
 refine bS (λm (x:Int×Int×Int×Int)=>∃j:Nat,x.2.2.2=(j:Int)/\j+m=AA l) (λ_=>True) (AA l) ⟨0,rfl,qa⟩ d ?_ λy _=>⟨_,rfl,trivial⟩
 rintro m ⟨a,b,c,i⟩ ⟨j,g,f⟩;cases m with
 |zero=>simp_all
 |succ m=>
  refine .inl ⟨?w,m,?e,wE m,?i⟩
  case e=>rw[ai qa,ab qa,ab qa,ab qa,ab qa,ab qa,ab qa,ab qa]
  case i=>exact⟨j+1,by grind[wn],qa⟩
def aP (a b:V3):V3:=(AG qs (a.1-b.1),AG qs (a.2.1-b.2.1),AG qs (a.2.2-b.2.2))
theorem vp (a b:V3):(vj a b).o=AB (aP a b):=rfl
def dx (a b:V3):Int:=AG qs (AG qs (AG qs (a.1 * b.1)+AG qs (a.2.1 * b.2.1))+AG qs (a.2.2 * b.2.2))
theorem nP (a b:V3):(l8 a b).o=AB (dx a b):=rfl
theorem YP {a:V3}(k:InR a.1)(g:InR a.2.1)(f:InR a.2.2)(m:Int):∃r,(Kx a m).o=AB r:=by
 show ∃r,(pH a m).run NN=AB r;simp only[pH,qj];suffices h:∃r,_=AB r/\True from h.imp λ_ h=>h.1
 refine bS (λm (x:Int×Int)=>∃j:Nat,x.2=(j:Int)/\j+m=3) (λ_=>True) 3 ⟨0,rfl,qa⟩ qa ?_ λy _=>⟨_,rfl,trivial⟩
 rintro m ⟨s,i⟩ ⟨j,c,e⟩;subst c;cases m with
 |zero=>simp_all
 |succ m=>
  rw[ai qa,ab qa];have d:InR (AF ([a.1,a.2.1,a.2.2]:A7) ((j:Int)).toNat 0):=by
   grind
  have b:=vi 16 qa (InR.max d (InR.wr (0- (AF ([a.1,a.2.1,a.2.2]:A7) ((j:Int)).toNat 0))));rw[show((16:Nat):Int)=16 from rfl]at b;rw[b];exact .inl ⟨_,m,rfl,wE m,j+1,by grind[wn],qa⟩
theorem abt (l:List V3)(w:A7)(n:V3)(h:1<=AA l)(f:AA l<4294967296):∃r,(Dr l w n).o=AB r/\0<=r.2/\r.2<AA l:=by
 show ∃r,(rW l w n).run NN=AB r/\_;simp only[rW,qj,nP,qG];rw[ab qa];refine bS (λm (x:Int×Int×Int)=>(∃j:Nat,x.2.2=(j:Int)/\j+m=AA l)/\0<=x.2.1/\x.2.1<AA l) (λy:Int×Int=>0<=y.2/\y.2<AA l) (AA l) ⟨⟨0,rfl,qa⟩,jX⟩ f ?_ λy e=>⟨_,rfl,e⟩
 rintro m ⟨a,b,i⟩ ⟨⟨j,c,g⟩,d⟩;simp only at c d⊢;subst c;cases m with
 |zero=>simp_all
 |succ m=>
  rw[ai qa,ab qa];generalize qu (dx n (AF l ((j:Int)).toNat qt)<a)=q;cases q with
  |true=>exact .inl ⟨_,m,rfl,wE m,⟨j+1,by grind[wn],qa⟩,jX⟩
  |false=>exact .inl ⟨_,m,rfl,wE m,⟨j+1,by grind[wn],qa⟩,d⟩
theorem Ze (l:List V3)(w:A7)(n:V3)(h:1<=AA l)(f:AA l<4294967296):∃r,(Ls l w n).o=AB r/\0<=r.2/\r.2<AA l:=by
 show ∃r,(pR l w n).run NN=AB r/\_;simp only[pR,qj,nP,qG];rw[ab qa];refine bS (λm (x:Int×Int×Int)=>(∃j:Nat,x.2.2=(j:Int)/\j+m=AA l)/\0<=x.2.1/\x.2.1<AA l) (λy:Int×Int=>0<=y.2/\y.2<AA l) (AA l) ⟨⟨0,rfl,qa⟩,jX⟩ f ?_ λy e=>⟨_,rfl,e⟩
 rintro m ⟨a,b,i⟩ ⟨⟨j,c,g⟩,d⟩;simp only at c d⊢;subst c;cases m with
 |zero=>simp_all
 |succ m=>
  rw[ai qa,ab qa];generalize qu (dx n (AF l ((j:Int)).toNat qt)>a)=q;cases q with
  |true=>exact .inl ⟨_,m,rfl,wE m,⟨j+1,by grind[wn],qa⟩,jX⟩
  |false=>exact .inl ⟨_,m,rfl,wE m,⟨j+1,by grind[wn],qa⟩,d⟩
theorem aa7 (a b:V3):∃r,(yC a b).o=AB r:=by show ∃r,(rg a b).run NN=AB r;simp only[rg,qj,vp,nP,qG];rw[ab qa];generalize qu (dx a (aP a b)<=0)=q;cases q<;>exact⟨_,rfl⟩
theorem Pc (l:List V3)(w:A7)(i t:Int)(g:0<=i)(f:i<AA w)(a:AA w<4294967296):∃r,(vT l w i t).o=AB r/\(AA r)=AA w:=by
 show ∃r,(rF l w i t).run NN=AB r/\_;simp only[rF,qj];refine bS (λm (x:A7×Int×Int)=>AA x.1=AA w/\∃j:Nat,x.2.2=(j:Int)/\j+m=AA w) (λy:A7×Int=>AA y.1=AA w) (AA w) ⟨rfl,0,rfl,qa⟩ a ?_ λy c=>?_
 ·rintro m ⟨x,s,k⟩ ⟨d,j,h,b⟩;cases m with
  |zero=>simp_all
  |succ m=>
   refine .inl ⟨?w,m,?e,wE m,?i⟩
   case e=>rw[ai qa,ab qa,ab qa,ab qa,ab qa,ab qa,ab qa]
   case i=>exact⟨jX,j+1,by grind[wn],qa⟩
 grind[ab]
theorem ad3 (a:List V3)(u:A7)(b:List V3)(v:A7)(m:Int)(n:Nat)(Z:n<=64)(S:AA u=AA a)(V:AA v=AA b)(h:1<=AA a/\(AA a)<4294967296)(i:1<=AA b/\(AA b)<4294967296):
 ∃r,(QT a u b v 0 0 0 0 m (n:Int)).o=AB r/\(AA r.2.2.1)=AA a/\(AA r.2.2.2.2.1)=AA b:=by
 show ∃r,(ss a u b v 0 0 0 0 m (n:Int)).run NN=AB r/\_;simp only[ss,qj,vp,qG,AY];refine bS (λk (x:A7×A7×Int×Int×Int×Int)=>(AA x.1=AA a/\(AA x.2.1)=AA b)/\∃j:Nat,x.2.2.2.2.2=(j:Int)/\j+k=n) (λ_=>False) n ⟨⟨S,V⟩,0,rfl,qa⟩ qa ?_ λy X=>X.elim
 rintro k ⟨p,q,c1,c2,c3,st⟩ ⟨⟨e,f⟩,j,K,hk⟩;subst K;obtain⟨d,N⟩:=Re a p e h.2;obtain⟨c,L⟩:=Re b q f i.2;have t:InR (aP d c).1/\InR (aP d c).2.1/\InR (aP d c).2.2:=⟨InR.wr _,InR.wr _,InR.wr _⟩;obtain⟨O,R⟩:=YP t.1 t.2.1 t.2.2 m;simp only[N,L,R,qG];cases O with
 |true=>simp_all
 |false=>
  obtain⟨l,I,_⟩:=LC (v:=(AG qs ((aP d c).1.tdiv 65536),AG qs ((aP d c).2.1.tdiv 65536),AG qs ((aP d c).2.2.tdiv 65536))) (InR.wr _) (InR.wr _) (InR.wr _);simp only[I,qG,qd];cases W:l.2 with
  |false=>exact .inr (.inr ⟨_,rfl,e,f⟩)
  |true=>
   obtain⟨z,P,F,H⟩:=abt a p l.1 h.1 h.2;obtain⟨A,U,G,E⟩:=Ze b q l.1 i.1 i.2;simp only[P,U,qG,qH,qd];generalize qu (AG qs (z.1-A.1)>AG qs (lB l.1 * m))=C;cases C with
   |true=>exact .inr (.inr ⟨_,rfl,e,f⟩)
   |false=>
    cases k with
    |zero=>
     have B:j=n:=qa;subst B;rw[bK rfl];exact .inr (.inr ⟨_,rfl,e,f⟩)
    |succ k=>
     rw[bB qa,ab ⟨F,H⟩,ab ⟨G,E⟩];obtain⟨w,Q⟩:=aa7 (AG qs ((aP d c).1.tdiv 65536),AG qs ((aP d c).2.1.tdiv 65536),AG qs ((aP d c).2.2.tdiv 65536)) (aP (AF a z.2.toNat qt) (AF b A.2.toNat qt));simp only[Q,qG];by_cases g:w=0;{rw[bK g];exact .inr (.inr ⟨_,rfl,e,f⟩)};rw[bB g];obtain⟨Y,J,s⟩:=Pc a p z.2 w F (by rw[e];exact H) (by rw[e];exact h.2);obtain⟨q',M,D⟩:=Pc b q A.2 w G (by rw[f];exact E) (by rw[f];exact i.2);simp only[J,M,qG];exact .inl ⟨_,k,rfl,wE k,⟨s.trans e,D.trans f⟩,j+1,by simp only[wn (show j<4294967296 from qa)],qa⟩
theorem Ny (a b:List V3)(m:Int):∃r,(lL a b m 64).o=AB r/\(AA r.Left)<=8/\(AA r.XL)<=8:=by
 show ∃r,(pM a b m 64).run NN=AB r/\_;obtain⟨i,h,c⟩:=Nz a;obtain⟨g,j,d⟩:=Nz b;simp only[pM,qj,h,j,qG];cases i with
 |false=>exact⟨_,rfl,by simp[nl],by simp[nl]⟩
 |true=>
  cases g with
  |false=>exact⟨_,rfl,by simp[nl],by simp[nl]⟩
  |true=>
   have c:=c rfl;have d:=d rfl;simp only[qH,qd,aS,cB,ah];generalize (qu (m<0)||(qu (m>2097152)||(qu ((64:Int)<0)||qu ((64:Int)>64))))=q;cases q with
   |true=>grind[nl]
   |false=>
    obtain⟨e,k,w,l⟩:=M9 a c.1 qa;obtain⟨f,p,s,n⟩:=M9 b d.1 qa;obtain⟨r,t,v,u⟩:=ad3 e.1 e.2 f.1 f.2 m 64 qa jW jW jX jX;simp_all
theorem Yr (a:Int):(JQ a).o=AB (radV a):=by show(JR a).run NN=_;grind[JR,qj,radV]
theorem ZG (a:af):(re a).o=AB (midV a):=by grind[OB,midV,vV_iff,w64]
theorem MB (l:List IV3):(gR l).o=AB (cenV l):=by
 show(pZ l).run NN=_;simp only[pZ,qj,iG,qG,ZG,cenV];cases a:bP l with
 |false=>rfl
 |true=>
  have d:=e6 a;rw[cT (by rfl),ab qa,qc rfl];refine(aO (λj=>(half (cenF l) ((0,0,0):V3) (AA l) j,(j:Int))) (tab (cenF l) (AA l)) (AA l) (by rfl) (show AA l<4294967296 from qa) (λj c=>?_) ?_).trans rfl
  ·have b:j<(half (cenF l) ((0,0,0):V3) (AA l) j).length:=by grind[iS]
   grind[cenF,ab,List.set_set,wn,iT]
  rw[aj qa,kU]
def gH (a b:List IV3):V3×Bool:=(vE a b).o.getD qt
theorem OH (a b:List IV3):(vE a b).o=AB (gH a b):=by obtain⟨r,h⟩:=aaa a b;grind[gH]
def eQ (a b:List V3)(m:Int):eh:=(lL a b m 64).o.getD qt
theorem K8 (a b:List V3)(m:Int):(lL a b m 64).o=AB (eQ a b m):=by obtain⟨r,h,_⟩:=Ny a b m;grind[eQ]
theorem afu (a b:List V3)(m:Int):(eQ a b m).Left.length<=8/\(eQ a b m).XL.length<=8:=by obtain⟨r,h,c⟩:=Ny a b m;grind[eQ]
def axesL:List V3:=[(1,0,0),(-1,0,0),(0,1,0),(0,-1,0),(0,0,1),(0,0,-1)]
def oW (a:List IV3)(c:Int)(b:List IV3)(d:Int):eh:=eQ (cenV a) (cenV b) (AG qs (c+d))
def kp (a:List IV3)(c:Int)(b:List IV3)(d:Int):List V3:=bif bN (oW a c b d).XK then [(oW a c b d).XK]else []
def nj (a:List IV3)(c:Int)(b:List IV3)(d:Int):List V3:=(bif (gH a b).2 then [(gH a b).1]else [])++(axesL++kp a c b d)
def io (a:List IV3)(c:Int)(b:List IV3)(d:Int)(e:List V3):List V3:=e.filter bN++nj a c b d
def okF (a:List IV3)(c:Int)(b:List IV3)(d:Int):Bool:=bP a&&(bP b&&(radV c&&radV d))
def ofF:Option V3->V3×Bool
 |some n=>(n,AD)
 |none=>((0,0,0),AE)
def fo (a:List IV3)(c:Int)(b:List IV3)(d:Int)(e:List V3):V3×Bool:=
 bif okF a c b d then ofF ((io a c b d e).find? λn=>sepV n a c b d)else((0,0,0),AE)
def PR (F:Option V3)(d:Bool)(x:V3):Prop:=match F with
 |some n=>d=AD/\x=n
 |none=>d=AE
theorem PR.yes {F:Option V3}{n:V3}(h:AB n=F):PR F AD n:=by subst h;exact⟨rfl,rfl⟩
theorem PR.no {F:Option V3}{x:V3}(h:none=F):PR F AE x:=by subst h;rfl
theorem oh (c:V3->Bool)(x:V3)(l:List V3):(x::l).find? c=bif c x then AB x else l.find? c:=by rfl
theorem F7 {l:List V3}{j:Nat}(h:j<AA l):l.drop j=AF l j qt::l.drop (j+1):=by simp_all
theorem aiQ {o:V3->Option Bool}{sp:V3->Bool}(E:∀x,o x=AB (sp x))(Y:dE Tryz.prog cr o)(a b:List IV3)(g k:Int)(p:List V3)(L:AA p<4294967296):
 ∃r,(I3 Y a b g k p).o=AB r/\(okF a g b k=false->r.1=AE)/\(okF a g b k=true->PR ((io a g b k p).find? sp) r.1 r.2.1):=by
 show ∃r,(I4 Y a b g k p).run NN=AB r/\_;have H:∀w x,(Y.C AE w x).o=o x:=λ_ _=>rfl
 simp only[I4,qj,iG,qG,Yr,aS,cB,ah];have N:(!bP a||(!bP b||(!radV g|| !radV k)))= !okF a g b k:=by
  grind[okF]
 rw[N];cases okF a g b k with
 |false=>simp_all
 |true=>
  generalize M:(io a g b k p).find? sp=F;suffices h:∃r:Bool×V3×List IV3×List IV3×Int×Int×List V3,_=AB r/\PR F r.1 r.2.1 from h.imp λ_ h=>⟨h.1,(λh=>by cases h),λ_=>h.2⟩
  refine bS (λm (x:Int×Bool×V3)=>x.2.1=AE/\∃j:Nat,x.1=(j:Int)/\j+m=AA p/\((p.drop j).filter bN++nj a g b k).find? sp=F) (λy:Bool×V3=>y.1=AE/\(nj a g b k).find? sp=F) (AA p) ⟨rfl,0,rfl,qa,by exact M⟩ L ?_ ?_
  ·rintro m ⟨i,d,w⟩ ⟨u,j,I,G,c⟩;subst u;subst I;cases m with
   |zero=>
    rw[wF qa]at c;exact .inr (.inl ⟨_,by rw[aj qa],rfl,c⟩)
   |succ m=>
    rw[F7 qa,List.filter_cons]at c;rw[ai qa,ab qa,nz,qD];simp only[qG,H];cases t:bN (AF p j qt)with
    |false=>
     rw[t,qb jU]at c;exact .inl ⟨_,m,rfl,wE m,rfl,j+1,by simp only[wn (show j<4294967296 from qa)],qa,c⟩
    |true=>
     rw[t,qc rfl,wG,oh]at c;simp only[qe,E,qG];cases f:sp (AF p j qt)with
     |true=>
      rw[f]at c;exact .inr (.inr ⟨_,rfl,PR.yes c⟩)
     |false=>
      rw[f]at c;exact .inl ⟨_,m,rfl,wE m,rfl,j+1,by simp only[wn (show j<4294967296 from qa)],qa,c⟩
  rintro⟨d,w⟩ ⟨u,c⟩;subst u;simp only[OH,qG,H];have v:∀ (d:Bool) (J:V3),d=false->(axesL++kp a g b k).find? sp=F->∃r,((yD).o.bind λl=>andK (iter (λe:Int×Bool×V3=>bif qu (e.1<((AA l:Nat):Int))then grd (0<=e.1/\e.1<((AA l:Nat):Int)) ((Y.C e.2.1 e.2.2 (AF l ((e.1).toNat) qt)).o.bind λs=>bif (!(!s))then AB (am.fin (s,(AF l ((e.1).toNat) qt),a,b,g,k,p))else AB (am.next ((AG qs (e.1+1)),s,(AF l ((e.1).toNat) qt))))else AB (am.out (e.2.1,e.2.2))) NN (0,d,J)) λn:Bool×V3=>
   (gR a).o.bind λB=>(gR b).o.bind λD=>(lL B D (AG qs (g+k)) 64).o.bind λq=>AB (bN q.XK)|>.bind λz=>bif z then((Y.C n.1 n.2 q.XK).o.bind λA=>AB (A,q.XK,a,b,g,k,p))else AB (n.1,n.2,a,b,g,k,p))=AB r/\PR F r.1 r.2.1:=by
   intro d J u c;subst u;have K:(yD).o=AB axesL:=rfl;rw[K];refine bS (λm (x:Int×Bool×V3)=>x.2.1=AE/\∃j:Nat,x.1=(j:Int)/\j+m=6/\(axesL.drop j++kp a g b k).find? sp=F) (λy:Bool×V3=>y.1=AE/\(kp a g b k).find? sp=F) 6 ⟨rfl,0,rfl,rfl,by exact c⟩ qa ?_ ?_
   ·rintro m ⟨i,d,w⟩ ⟨u,j,I,G,c⟩;subst u;subst I;have O:AA axesL=6:=rfl;cases m with
    |zero=>
     rw[wF qa]at c;exact .inr (.inl ⟨_,by rw[aj qa],rfl,c⟩)
    |succ m=>
     rw[F7 qa,wG,oh]at c;rw[ai qa,ab qa,H,qD];simp only[E,qG];cases f:sp (AF axesL j qt)with
     |true=>
      rw[f]at c;exact .inr (.inr ⟨_,rfl,PR.yes c⟩)
     |false=>
      rw[f]at c;exact .inl ⟨_,m,rfl,wE m,rfl,j+1,by simp only[wn (show j<4294967296 from qa)],qa,c⟩
   rintro⟨d,w⟩ ⟨u,c⟩;subst u;simp only[MB,K8,qG,H];unfold kp oW at c;cases t:bN (eQ (cenV a) (cenV b) (AG qs (g+k))).XK with
   |false=>
    rw[t]at c;exact⟨_,rfl,PR.no c⟩
   |true=>
    rw[t,qe,oh]at c;simp only[qe,E,qG];refine⟨_,rfl,?_⟩;cases f:sp (eQ (cenV a) (cenV b) (AG qs (g+k))).XK with
    |true=>rw[f]at c;exact PR.yes c
    |false=>rw[f]at c;exact PR.no c
  unfold nj at c;cases G:(gH a b).2 with
  |false=>
   rw[G]at c;simp only[qd,ah,nz];exact v AE w rfl c
  |true=>
   rw[G,qe,wG,oh]at c;simp only[qe,E,qG,ah,nz];cases f:sp (gH a b).1 with
   |true=>rw[f]at c;exact⟨_,rfl,PR.yes c⟩
   |false=>rw[f]at c;exact v AE (gH a b).1 rfl c
theorem aa9 (a:List IV3)(d:Int)(b:List IV3)(c:Int)(e:List V3)(j:AA e<4294967296):(yE a d b c e).o=AB (fo a d b c e):=by
 obtain⟨r,m,s,q⟩:=aiQ (o:=λx=>(vD a d b c e x).run NN) (sp:=λn=>sepV n a d b c) (λx=>by
  grind[vD,qj,Na]) dE.dummy a b d c e j
 have k:(Jk a d b c e).o=AB (a,b,d,c,e):=rfl;have g:(yE a d b c e).o=(qj NN (.call (Jk a d b c e) [] λi=>.ret i)).bind λu=>(I3 (o:=λx=>(vD a d b c e x).run NN) dE.dummy u.1 u.2.1 u.2.2.1 u.2.2.2.1 u.2.2.2.2).o.bind λr=>bif r.1 then AB (r.2.1,AD)else AB ((0,0,0),AE):=rfl
 rw[g];simp only[qj,k,qG,m,fo];cases f:okF a d b c with
 |false=>simp_all
 |true=>
  have h:=q f;generalize (io a d b c e).find? _=F at h;cases F with
  |none=>rw[h];rfl
  |some n=>obtain⟨p,l⟩:=(show r.1=AD/\r.2.1=n from h);rw[p,l];rfl
def ku:cN:=⟨0,nl,nl⟩
def fndK (s:ak)(b:Ah)(a:List V3)(k:Nat):V3×Bool:=fo (aX s b (pA s k)) (bZ s (pA s k)) (aX s b (pB s k)) (bZ s (pB s k)) ((a.drop k).take 1)
def nrK (s:ak)(b:Ah)(k:Nat):eh:=oW (aX s b (pA s k)) (bZ s (pA s k)) (aX s b (pB s k)) (bZ s (pB s k))
def ovK (s:ak)(b:Ah)(k:Nat):Bool:=ovV (nrK s b k).Left (nrK s b k).XL (aX s b (pA s k)) (bZ s (pA s k)) (aX s b (pB s k)) (bZ s (pB s k))
def colK (s:ak)(b:Ah)(a:List V3)(k:Nat):Option d9:=sw (!(fndK s b a k).2&&ovK s b k) ⟨2,nl,⟨(k:Int),(nrK s b k).Left,(nrK s b k).XL⟩⟩
def misK (s:ak)(b:Ah)(a:List V3)(k:Nat):Bool:= !(fndK s b a k).2
def clsV (s:ak)(b:Ah)(a:List V3):d9:=if aM s=0/\boxV s.Xe b=AD then
 (match scan (colK s b a) (AA (aL s)) 0 with
  |some v=>v
  |none=>⟨bif aA (misK s b a) (AA (aL s)) then 1 else 0,tab (λk=>(fndK s b a k).1) (AA (aL s)),ku⟩)
 else⟨0,nl,ku⟩
theorem afN {a:List IV3}{c:Int}{b:List IV3}{d:Int}{e:List V3}(h:(fo a c b d e).2=AE):(fo a c b d e).1=(0,0,0):=by
 unfold fo at h⊢;generalize okF a c b d=k at h⊢;cases k with
 |false=>rfl
 |true=>
  generalize List.find? _ _=F at h⊢;cases F with
  |none=>rfl
  |some n=>cases h
theorem aeq {a:List IV3}{c:Int}{b:List IV3}{d:Int}{e:List V3}(h:(fo a c b d e).2=AD):sepV (fo a c b d e).1 a c b d=true:=by
 unfold fo at h⊢;generalize okF a c b d=k at h⊢;cases k with
 |false=>cases h
 |true=>
  generalize f:List.find? _ _=F at h⊢;cases F with
  |none=>cases h
  |some n=>exact List.find?_some (p:=λn=>sepV n a c b d) f
theorem aew {a:Type}{f:Nat->a}{z:a}{n j:Nat}(h:j<n)(e:f j=z):half f z n j=half f z n (j+1):=by unfold half;rw[dM,show n-j=(n- (j+1))+1 from qa,List.replicate_succ,e,wH];rfl
theorem Rk {g:Nat->Bool}{n:Nat}:aA g (n+1)=(aA g n&& !g n):=by grind[noneB_iff]
theorem ahX (a:List V3)(j:Nat):(a.drop (min (j:Int) (AA a:Int)).toNat).take ((min ((j+1:Nat):Int) (AA a:Int)).toNat- (min (j:Int) (AA a:Int)).toNat)=(a.drop j).take 1:=by grind[wF]
theorem MM (s:ak)(b:Ah)(a:List V3)(g:AA b<4294967296)(q:AA a<4294967296):(p9 s b a).o=AB (clsV s b a):=by
 show(ML s b a).run NN=_;have p:=Nq s b g;have d:=mr s;simp only[ML,qj];rw[show(⟨s.Xe,s.Xd,s.Xi⟩:ak)=s from rfl,p];simp only[qG];unfold clsV;by_cases h:aM s=0/\boxV s.Xe b=AD
 ·rw[qc h,qc h];rw[cT (by rfl),ab jX];refine(gn (λj=>(half (λk=>(fndK s b a k).1) ((0,0,0):V3) (AA (aL s)) j,aA (misK s b a) j,(j:Int))) (colK s b a) (tab (λk=>(fndK s b a k).1) (AA (aL s)),aA (misK s b a) (AA (aL s))) (AA (aL s)) ?_ (show(aL s).length<4294967296 from qa) (λj c=>?_) ?_).trans ?_;{rfl}
  ·have l:=aaz (b:=b) h c;dsimp only;rw[ai qa,l];simp only[qG,wn (show j<4294967296 from qa)];rw[ab qa,ahX,aa9 _ _ _ _ _ jX];simp only[qG];have e:fo (aX s b (pA s j)) (bZ s (pA s j)) (aX s b (pB s j)) (bZ s (pB s j)) ((a.drop j).take 1)=fndK s b a j:=rfl;rw[e,Rk];unfold colK;have n:misK s b a j= !(fndK s b a j).2:=rfl;rw[n];cases i:(fndK s b a j).2 with
   |true=>
    simp only[qe,iS (show j<=AA (aL s) from qa)];rw[ab qa,ab qa,ah,qD,iT c];simp only[qH,wI,Bool.and_true,Bool.false_and,sw,qd]
   |false=>
    have f:=afN (e▸i);simp only[qd,MB,K8,qG,Ys];have m:ovV (eQ (cenV (aX s b (pA s j))) (cenV (aX s b (pB s j))) (AG qs (bZ s (pA s j)+bZ s (pB s j)))).Left (eQ (cenV (aX s b (pA s j))) (cenV (aX s b (pB s j))) (AG qs (bZ s (pA s j)+bZ s (pB s j)))).XL (aX s b (pA s j)) (bZ s (pA s j)) (aX s b (pB s j)) (bZ s (pB s j))=ovK s b j:=rfl;rw[m,aew c f];simp only[qH,wI,Bool.and_false,Bool.true_and];cases ovK s b j with
    |true=>rfl
    |false=>rfl
  {dsimp only;rw[aj qa,kU]};cases scan (colK s b a) (AA (aL s)) 0 with
  |some v=>rfl
  |none=>cases aA (misK s b a) (AA (aL s))<;>rfl
 rw[qb h,qb h];rfl
theorem aeh (s:ak)(b:Ah)(a:List V3):
 ((clsV s b a).Xk=0/\(clsV s b a).Xq=ku)\/
 ((clsV s b a).Xk=1/\(clsV s b a).Xq=ku/\(aM s=0/\boxV s.Xe b=AD)/\dm s b (clsV s b a).Xf=AD)\/
 ((clsV s b a).Xk=2/\(clsV s b a).Xf=[]/\oZ s b (clsV s b a).Xq=AD/\(clsV s b a).Xq.Left.length<=8/\(clsV s b a).Xq.XL.length<=8):=by
 unfold clsV;by_cases h:aM s=0/\boxV s.Xe b=AD
 ·rw[qc h];cases f:scan (colK s b a) (AA (aL s)) 0 with
  |some v=>
   obtain⟨j,-,i,e,-⟩:=e8 _ _ f;unfold colK sw at e;cases c:(!(fndK s b a j).2&&ovK s b j)with
   |false=>simp_all
   |true=>
    rw[c]at e;simp only[qe,Option.some.injEq]at e;subst e;simp only[ql]at c;have l:=afu (cenV (aX s b (pA s j))) (cenV (aX s b (pB s j))) (AG qs (bZ s (pA s j)+bZ s (pB s j)));refine .inr (.inr ⟨rfl,rfl,?_,l.1,l.2⟩);unfold oZ;rw[qc ⟨h,jW,jW⟩];exact c.2
  |none=>
   cases g:aA (misK s b a) (AA (aL s)) with
   |false=>simp_all
   |true=>
    refine .inr (.inl ⟨rfl,rfl,h,?_⟩);simp only[dm,ql,qf,noneB_iff,sepK,wJ];refine⟨h.1,h.2,aZ _ _,λk c=>?_⟩;rw[ek c];have:=noneB_iff.1 g k c;simp only[misK,wJ]at this;exact aeq this
 grind
theorem GR (s:ak)(b:Ah)(a:List V3):(clsV s b a).Xf.length<=576:=by grind[mr,clsV,e8,colK,sw,nl,aZ]
theorem ahf (l:List V3)(h:AA l<4294967296):(Wq l l).o=AB true:=by show(Ju l l).run NN=_;simp only[Ju,qj];rw[aJ rfl];refine(aO (λj=>(j:Int)) U0.u (AA l) rfl h (λj a=>?_) ?_).trans rfl;all_goals grind[ab,wn]
def ResB (r:bR):Prop:=AA r.Xs<=4096/\(∀x∈r.Xs,AA x.Xf<=576)/\(AA r.At.Xf)<=576/\(AA r.Xq.Left)<=8/\(AA r.Xq.XL)<=8
theorem sP (p q:A7)(k i:Int):(bL p q k i).1.length<=AA p:=by grind[bL,aZ,nl]
abbrev XW:=Int×Ar×Int×Int×List V3×Int×A7×A7
abbrev exO (n:Nat)(s:ak)(p q:A7)(d k i:Int)(h:List V3)(c:Ar)(W:XW):=
 (bn.fix nF n).o (k,i,h,c,W.1,W.2.1,W.2.2.1,W.2.2.2.1,W.2.2.2.2.1,W.2.2.2.2.2.1,W.2.2.2.2.2.2.1,W.2.2.2.2.2.2.2,p,q,s.Xe.Xb,s.Xe.Xl,s.Xd,s.Xi,d)
abbrev exR (a:Bool)(c:Ar)(W:XW)(s:ak)(p q:A7)(d:Int):=
 (a,c,W.1,W.2.1,W.2.2.1,W.2.2.2.1,W.2.2.2.2.1,W.2.2.2.2.2.1,W.2.2.2.2.2.2.1,W.2.2.2.2.2.2.2,p,q,s.Xe.Xb,s.Xe.Xl,s.Xd,s.Xi,d)
def PsB (c:Ar):Prop:=AA c<=4096/\∀x∈c,AA x.Xf<=576
theorem G3 (n:Nat)(s:ak)(p q:A7)(d k i:Int)(h:List V3)(t:Ar)(W:XW)(r:AA p<4294967296)(j:AA q<4294967296){v:d9}(e:(p9 s (bL p q k i).1 h).o=AB v)(_:PsB t):
 exO (n+1) s p q d k i h t W=if 4096<=AA t then AB (exR AE t (0,nl,k,i,nl,0,nl,nl) s p q d)else
  if v.Xk=1 then AB (exR AD (t++[⟨k,i,v.Xf⟩]) W s p q d)else
  if v.Xk=2 then AB (exR AE t (2,nl,k,i,nl,v.Xq.XR,v.Xq.Left,v.Xq.XL) s p q d)else
  if k<d then((exO n s p q d (AG qs (k+1)) (AG qs (2 * i)) v.Xf t W).bind λy=>bif y.1 then(bn.fix nF n).o (AG qs (k+1),AG qs (AG qs (2 * i)+1),v.Xf,y.2.1,y.2.2.1,y.2.2.2.1,y.2.2.2.2.1,y.2.2.2.2.2.1,y.2.2.2.2.2.2.1,y.2.2.2.2.2.2.2.1,y.2.2.2.2.2.2.2.2.1,y.2.2.2.2.2.2.2.2.2.1,y.2.2.2.2.2.2.2.2.2.2.1,y.2.2.2.2.2.2.2.2.2.2.2.1,y.2.2.2.2.2.2.2.2.2.2.2.2.1,y.2.2.2.2.2.2.2.2.2.2.2.2.2.1,y.2.2.2.2.2.2.2.2.2.2.2.2.2.2.1,y.2.2.2.2.2.2.2.2.2.2.2.2.2.2.2.1,y.2.2.2.2.2.2.2.2.2.2.2.2.2.2.2.2)else AB (AE,y.2))else
  AB (exR AE t (0,nl,k,i,nl,0,nl,nl) s p q d):=by
 show(MT (bn.fix nF n) k i h t W.1 W.2.1 W.2.2.1 W.2.2.2.1 W.2.2.2.2.1 W.2.2.2.2.2.1 W.2.2.2.2.2.2.1 W.2.2.2.2.2.2.2 p q s.Xe.Xb s.Xe.Xl s.Xd s.Xi d).run NN=_;have g:(p9 (⟨⟨s.Xe.Xb,s.Xe.Xl⟩,s.Xd,s.Xi⟩:ak) (bL p q k i).1 h).o=AB v:=e;simp only[MT,qj,MQ p q k i r j,qG,g];by_cases l:4096<=AA t;{grind};rw[qb l,aj qa];by_cases c:v.Xk=1;{grind[ab,au]};rw[qb c,bB c];by_cases a:v.Xk=2;{rw[qc a,bK a]};rw[qb a,bB a];by_cases b:k<d
 ·rw[qc b,ai b];refine congrArg (qM _) (funext λy=>?_);cases y.1 with
  |true=>
   show qM ((bn.fix nF n).o _) _=_;generalize (bn.fix nF n).o _=m;cases m<;>rfl
  |false=>rfl
 rw[qb b,aj b]
def fY:bR:=⟨0,nl,⟨0,0,nl⟩,⟨0,nl,nl⟩⟩
def mW (ok:Bool)(c:Ar)(W:XW):bR:=
 bif ok then⟨1,c,⟨0,0,nl⟩,⟨0,nl,nl⟩⟩else⟨W.1,W.2.1,⟨W.2.2.1,W.2.2.2.1,W.2.2.2.2.1⟩,⟨W.2.2.2.2.2.1,W.2.2.2.2.2.2.1,W.2.2.2.2.2.2.2⟩⟩
def W0:XW:=(0,nl,0,0,nl,0,nl,nl)
def TileF (d:Int)(b:Nat):Int->Ar->Int->Prop
 |e,[],a=>e=a
 |e,x::l,a=>(0<=x.Xg/\x.Xg<=d/\(AA x.Xf)=b/\x.Xj * 2 ^ (d-x.Xg).toNat=e)/\TileF d b (e+2 ^ (d-x.Xg).toNat) l a
theorem TileF.append {d:Int}{e:Nat}:∀ {l m:Ar} {a b c:Int},TileF d e a l b->TileF d e b m c->TileF d e a (l++m) c
 |[],_,_,_,_,h,k=>by have h:_=_:=h;simp_all
 |_::_,_,_,_,_,h,k=>⟨h.1,TileF.append h.2 k⟩
def GP (s:ak)(p q:A7)(d:Int)(x:aE):Prop:=(0<=x.Xg/\x.Xg<=d)/\(0<=x.Xj/\x.Xj<2 ^ x.Xg.toNat)/\dm s (bL p q x.Xg x.Xj).1 x.Xf=AD
def UT (s:ak)(p q:A7)(d:Int)(W:XW):Prop:=W.2.1=[]/\(0<=W.2.2.1/\W.2.2.1<=d)/\(0<=W.2.2.2.1/\W.2.2.2.1<2 ^ W.2.2.1.toNat)/\W.2.2.2.2.1=[]/\
 ((W.1=0/\W.2.2.2.2.2=(0,[],[]))\/(W.1=2/\oZ s (bL p q W.2.2.1 W.2.2.2.1).1 ⟨W.2.2.2.2.2.1,W.2.2.2.2.2.2.1,W.2.2.2.2.2.2.2⟩=AD/\(AA W.2.2.2.2.2.2.1)<=8/\(AA W.2.2.2.2.2.2.2)<=8))
theorem Uu (s:ak)(p q:A7)(hp:AA p<4294967296)(hq:AA q<4294967296){d:Int}(Z:d<=20):
 ∀ (f:Nat) (k i:Int) (h:List V3) (ps:Ar) (W:XW) (n:Nat),k+f=d->0<=k->0<=i->i<2 ^ k.toNat->f+1<=n->AA h<=576->PsB ps->
   ∃I l y,exO n s p q d k i h ps W=AB (exR I l y s p q d)/\PsB l/\
    (I=true->y=W/\∃j,l=ps++j/\TileF d (AA (aL s)) (i * 2 ^ f) j ((i+1) * 2 ^ f)/\∀x∈j,GP s p q d x)/\
    (I=false->UT s p q d y):=by
 intro f;induction f using Nat.strongRecOn with
 |_ f Q=>
  intro k i h ps W n hk u B D hn hh a;obtain⟨n,rfl⟩:∃m,n=m+1:=⟨n-1,qa⟩;have M:=MM s (bL p q k i).1 h (by grind[sP]) qa;have t:=GR s (bL p q k i).1 h;have A:=aeh s (bL p q k i).1 h;generalize clsV s (bL p q k i).1 h=v at M t A;rw[G3 n s p q d k i h ps W hp hq M a];have o:UT s p q d (0,nl,k,i,nl,0,nl,nl):=⟨rfl,⟨u,jX⟩,⟨B,D⟩,rfl,.inl ⟨rfl,rfl⟩⟩;by_cases R:4096<=AA ps;{rw[qc R];exact⟨AE,ps,_,rfl,a,(λh=>by cases h),λ_=>o⟩};rw[qb R];by_cases O:v.Xk=1
  ·rw[qc O];obtain⟨-,-,fr⟩:v.Xq=ku/\(aM s=0/\boxV s.Xe (bL p q k i).1=AD)/\dm s (bL p q k i).1 v.Xf=true:=by
    rcases A with⟨w,-⟩|⟨-,E⟩|⟨w,-⟩;{omega};{exact E};omega
   have fl:AA v.Xf=AA (aL s):=by
    simp only[dm,ql,qf]at fr;exact fr.2.2.1
   have e:(d-k).toNat=f:=qa;refine⟨AD,_,W,rfl,⟨jZ,λx b=>?_⟩,λ_=>⟨rfl,_,rfl,⟨⟨u,j8,fl,by simp only[e]⟩,by simp only[TileF,e];rw[Int.add_mul];omega⟩,λx b=>?_⟩,(λh=>by cases h)⟩
   ·rcases wC.1 b with b|b;{exact a.2 x b};simp at b;subst b;exact t
   simp at b;subst b;exact⟨⟨u,j8⟩,⟨B,D⟩,fr⟩
  rw[qb O];by_cases V:v.Xk=2
  ·rw[qc V];obtain⟨-,fr,l1,l2⟩:v.Xf=[]/\oZ s (bL p q k i).1 v.Xq=AD/\(AA v.Xq.Left)<=8/\(AA v.Xq.XL)<=8:=by
    rcases A with⟨w,-⟩|⟨w,-⟩|⟨-,E⟩;{omega};{omega};exact E
   exact⟨AE,ps,_,rfl,a,(λh=>by cases h),λ_=>⟨rfl,⟨u,j8⟩,⟨B,D⟩,rfl,.inr ⟨rfl,fr,l1,l2⟩⟩⟩
  rw[qb V];by_cases N:k<d
  ·rw[qc N];obtain⟨f,rfl⟩:∃g,f=g+1:=⟨f-1,qa⟩;have T:=pg (k:=k.toNat) qa;have hw:AG qs (k+1)=k+1:=w64 qa qa;have H:AG qs (2 * i)=2 * i:=w64 qa qa;have K:AG qs (2 * i+1)=2 * i+1:=w64 qa qa;have hpk:(2:Int) ^ (k+1).toNat=2 * 2 ^ k.toNat:=by rw[show(k+1).toNat=k.toNat+1 from qa,wo];omega
   rw[hw,H];obtain⟨F,C,S,e1,P,X,b3⟩:=Q f qa (k+1) (2 * i) v.Xf ps W n qa qa qa qa qa t a;rw[e1];cases F with
   |false=>exact⟨AE,C,S,rfl,P,(λh=>by cases h),b3⟩
   |true=>
    obtain⟨L,c,rfl,t1,q1⟩:=X rfl;subst L;obtain⟨J,G,W2,U,d1,Y,d3⟩:=Q f qa (k+1) (2 * i+1) v.Xf (ps++c) S n qa qa qa qa qa t P;refine⟨J,G,W2,?_,d1,λhd=>?_,d3⟩;{rw[<-K]at U;exact U};obtain⟨z,r,rfl,t2,q2⟩:=Y hd;refine⟨z,c++r,by rw[wH],?_,λx b=>(wC.1 b).elim (q1 x) (q2 x)⟩;have f1:2 * i * 2 ^ f=i * 2 ^ (f+1):=by rw[wo,wK (2 ^ f) 2,<-wL,wK i 2]
    have f2:(2 * i+1+1) * 2 ^ f=(i+1) * 2 ^ (f+1):=by rw[show 2 * i+1+1=2 * (i+1) from qa,wo,wK (2 ^ f) 2,<-wL,wK (i+1) 2]
    exact(f1▸t1).append (f2▸t2)
  rw[qb N];exact⟨AE,ps,_,rfl,a,(λh=>by cases h),λ_=>o⟩
def ln (s:ak)(p q:A7):Bool:=(aM s !=0)||(!aI s.Xe p|| !aI s.Xe q)
theorem E3 (s:ak)(p q:A7)(d:Int)(a:Bool)(j:Ar)(W:XW)(h:0<=d)(g:d<=20)
 (e:exO NN s p q d 0 0 nl nl W0=AB (exR a j W s p q d)):(l9 s p q d).o=AB (bif ln s p q then fY else mW a j W):=by
 have f:(Ox 0 0 nl nl 0 nl 0 0 nl 0 nl nl p q s.Xe.Xb s.Xe.Xl s.Xd s.Xi d).o=AB (exR a j W s p q d):=e;have c:(fw ⟨s.Xe,s.Xd,s.Xi⟩).o=AB (aM s):=iK s;show(rU s p q d).run NN=_;simp only[rU,qj,c,nA,qG,aS,cB,ah,f];rw[qh (p:=d<0) qa,qh (p:=d>20) qa];unfold ln;generalize ((aM s !=0)||(!aI s.Xe p|| !aI s.Xe q))=b;cases b with
 |true=>rfl
 |false=>cases a<;>rfl
structure ProveOk (s:ak) (p q:A7) (d:Int) (r:bR):Prop where
 kind:r.Xk=0\/r.Xk=1\/r.Xk=2
 ready:r.Xk≠0->aM s=0/\aI s.Xe p=AD/\aI s.Xe q=AD
 tiles:r.Xk=1->TileF d (AA (aL s)) 0 r.Xs (2 ^ d.toNat)
 free:r.Xk=1->∀x∈r.Xs,GP s p q d x
 empty:r.Xk=1->r.At=⟨0,0,[]⟩
 none:r.Xk≠1->r.Xs=[]
 depth:0<=r.At.Xg/\r.At.Xg<=d
 index:0<=r.At.Xj/\r.At.Xj<2 ^ r.At.Xg.toNat
 norm:r.At.Xf=[]
 coll:r.Xk=2->oZ s (bL p q r.At.Xg r.At.Xj).1 r.Xq=AD
 wit:r.Xk≠2->r.Xq=ku
 lens:AA r.Xq.Left<=8/\(AA r.Xq.XL)<=8
 bd:PsB r.Xs
theorem FN (s:ak)(p q:A7)(G:AA p<4294967296)(i:AA q<4294967296){d:Int}(g:0<=d)(b:d<=20):
 ∃r,(l9 s p q d).o=AB r/\ProveOk s p q d r:=by
 have c:PsB nl:=⟨by simp[nl],by simp[nl]⟩;obtain⟨k,H,W,x,C,v,y⟩:=Uu s p q G i b d.toNat 0 0 nl nl W0 NN qa qa qa jU (by show _<=4294967296;omega) (by simp[nl]) c;refine⟨_,E3 s p q d k H W g b x,?_⟩;cases E:ln s p q with
 |true=>exact⟨.inl rfl,(λh=>absurd rfl h),(λh=>by cases h),(λh=>by cases h),(λh=>by cases h),λ_=>rfl,⟨wM _,g⟩,⟨wM _,(show(0:Int)<2 ^ (0:Int).toNat by decide)⟩,rfl,(λh=>by cases h),λ_=>rfl,⟨by simp[fY,nl],by simp[fY,nl]⟩,c⟩
 |false=>
  have m:aM s=0/\aI s.Xe p=AD/\aI s.Xe q=true:=by
   simpa[ln]using E
  cases k with
  |true=>
   obtain⟨_,B,z,n,i⟩:=v rfl;subst z;rw[wN,Int.zero_add,Int.one_mul]at n;exact⟨.inr (.inl rfl),λ_=>m,λ_=>n,λ_=>i,λ_=>rfl,(λh=>absurd rfl h),⟨wM _,g⟩,⟨wM _,(show(0:Int)<2 ^ (0:Int).toNat by decide)⟩,rfl,(λh=>by cases h),λ_=>rfl,⟨by simp[mW,nl],by simp[mW,nl]⟩,C⟩
  |false=>
   obtain⟨e,u,t,j,A⟩:=y rfl;have l:PsB W.2.1:=by rw[e];exact c
   rcases A with⟨a,f⟩|⟨a,f,F,D⟩
   ·have w:(mW AE H W).Xq=ku:=by
     show(⟨W.2.2.2.2.2.1,W.2.2.2.2.2.2.1,W.2.2.2.2.2.2.2⟩:cN)=ku;rw[f];rfl
    refine⟨.inl a,(λh=>absurd a h),λh=>?_,λh=>?_,λh=>?_,λ_=>e,u,t,j,λh=>?_,λ_=>w,?_,l⟩;all_goals grind[mW]
   refine⟨.inr (.inr a),λ_=>m,λh=>?_,λh=>?_,λh=>?_,λ_=>e,u,t,j,λ_=>f,λh=>absurd a h,⟨F,D⟩,l⟩;{have h:W.1=1:=h;omega};{have h:W.1=1:=h;omega};have h:W.1=1:=h;omega
def d1 (x:Nat):Nat:=x * 6746518852 / 65536
def d2 (x:Nat):Nat:=d1 x * d1 x / 1073741824
def d3 (x:Nat):Nat:=d2 x * d1 x / 1073741824
def d4 (x:Nat):Nat:=d3 x * d1 x / 1073741824
def d5 (x:Nat):Nat:=d4 x * d1 x / 1073741824
def d6 (x:Nat):Nat:=d5 x * d1 x / 1073741824
def d7 (x:Nat):Nat:=d6 x * d1 x / 1073741824
def d8 (x:Nat):Nat:=d7 x * d1 x / 1073741824
def u1 (x:Nat):Nat:=(x * 6746518853+65535) / 65536
def u2 (x:Nat):Nat:=(u1 x * u1 x+1073741823) / 1073741824
def u3 (x:Nat):Nat:=(u2 x * u1 x+1073741823) / 1073741824
def u4 (x:Nat):Nat:=(u3 x * u1 x+1073741823) / 1073741824
def u5 (x:Nat):Nat:=(u4 x * u1 x+1073741823) / 1073741824
def u6 (x:Nat):Nat:=(u5 x * u1 x+1073741823) / 1073741824
def u7 (x:Nat):Nat:=(u6 x * u1 x+1073741823) / 1073741824
def u8 (x:Nat):Nat:=(u7 x * u1 x+1073741823) / 1073741824
def sA (x:Nat):Nat:=d1 x+d5 x / 120
def sB (x:Nat):Nat:=(u3 x+5) / 6+(u7 x+5039) / 5040
section
variable {x:Nat} (h:x<=8192)
include h
end
structure Sb (a b:af):Prop where
 va:vV a=AD
 vb:vV b=AD
 lo:b.Lo<=a.Lo
 hi:a.Hi<=b.Hi
structure Sv (a b:IV3):Prop where
 x:Sb a.1 b.1
 y:Sb a.2.1 b.2.1
 z:Sb a.2.2 b.2.2
structure SM (a b:IM3):Prop where
 x:Sv a.1 b.1
 y:Sv a.2.1 b.2.1
 z:Sv a.2.2 b.2.2
structure SP (a b:aN):Prop where
 r:SM a.R b.R
 t:Sv a.T b.T
def SL (a b:List IV3):Prop:=AA a=AA b/\∀i,i<AA a->Sv (AF a i qt) (AF b i qt)
theorem free_iff {s:ak}{b:Ah}{c:List V3}:dm s b c=AD↔aM s=0/\boxV s.Xe b=AD/\(AA c)=AA (aL s)/\∀k,k<AA (aL s)->sepV (AF c k qt) (aX s b (pA s k)) (bZ s (pA s k)) (aX s b (pB s k)) (bZ s (pB s k))=true:=by simp only[dm,ql,qf,noneB_iff,sepK,wJ]
theorem Fy {r:ao}{c:A7}(h:aI r c=AD):aQ r=0/\(AA c)=AA r.Xb/\(AA c)<=10/\dD c=AD/\∀i,i<AA c->(AF r.Xb i qt).Lo<=AF c i qt/\AF c i qt<=(AF r.Xb i qt).Hi:=by
 simp only[aI,ql,qf]at h;obtain⟨h1,f,g⟩:=h;have j:=dA h1;have d:∀i,i<AA c->(AF r.Xb i qt).Lo<=AF c i qt/\AF c i qt<=(AF r.Xb i qt).Hi:=λi hi=>by
  have:=noneB_iff.1 g i hi;simp only[outJ,qo,qi]at this;omega
 refine⟨h1,f,qa,?_,d⟩;unfold dD;rw[noneB_iff];intro i hi;have k:=(gV h1 (i:=i) qa).lim;have m:=mK (AF r.Xb i qt).Xk;have:=d i hi;simp only[big1,qo,qi];omega
theorem pow9 {k:Int}(h0:0<=k)(h1:k<=20):1<=(2:Int) ^ k.toNat/\(2:Int) ^ k.toNat<=1048576:=by have:=pg (k:=k.toNat) qa;have:=dZ k.toNat;omega
def PC (n:Nat)(l:Ar):Prop:=PB n l/\∀x∈l,InR x.Xj
def uc (l:Ar):Prop:=AA l<=4096/\(∀j,j<AA l->badT l j=AE)/\plc l (AA l)=1048576
theorem cover_iff {l:Ar}:(fh l).2=AD↔uc l:=by
 constructor
 ·intro h;have b:=(tg h).1;unfold fh at h;rw[qc b]at h;split at h;{grind[e8,sw]};rename_i c;refine⟨b,λj f=>?_,jW⟩;have:=(di _ _).1 c j (wO _) qa;cases d:badT l j with
  |false=>rfl
  |true=>rw[d]at this;cases this
 rintro⟨b,g,e⟩;grind[fh,sw,di]
theorem RH {s:ak}{p q:A7}{l:Ar}:(dH s p q l).2=0↔(aM s=0/\aI s.Xe p=AD/\aI s.Xe q=AD)/\uc l/\
 ∀j,j<AA l->dm s (bL p q (AF l j qt).Xg (AF l j qt).Xj).1 (AF l j qt).Xf=true:=by
 constructor
 ·intro h;have a:=Fk h;refine⟨⟨a.1,a.2.1,a.2.2.1⟩,?_⟩;unfold dH at h;rw[qb (λb=>b a.1),qb jW]at h;split at h;{cases h};refine⟨cover_iff.1 jW,λj c=>?_⟩;all_goals grind[e8,notF,sw,di]
 grind[dH,cover_iff,sw,notF,di]
theorem ahx {l:Ar}{j:Nat}(h:badT l j=AE):∃n,begV (AF l j qt)=AB (plc l j,n)/\plc l (j+1)=plc l j+n:=by grind[badT,plc]
theorem Tc {l:Ar}{j:Nat}{f n:Int}(h:begV (AF l j qt)=AB (f,n)):plc l (j+1)=f+n:=by simp only[plc,h]
theorem RD {x:aE}{y:Int×Int}(h:begV x=AB y):(0<=x.Xg/\x.Xg<=20)/\(0<=x.Xj/\x.Xj<2 ^ x.Xg.toNat)/\y=(x.Xj * 2 ^ (20-x.Xg.toNat),2 ^ (20-x.Xg.toNat)):=by grind[begV]
theorem Tv {s:ak}{p q:A7}{d:Int}(h:d<=20){z:Nat}:∀ (l a:Ar) (e b:Int),TileF d z e l b->(∀x∈l,GP s p q d x)->plc (a++l) (AA a)=e * 2 ^ (20-d).toNat->
 (∀j,AA a<=j->j<AA (a++l)->badT (a++l) j=AE)/\plc (a++l) (AA (a++l))=b * 2 ^ (20-d).toNat
 |[],a,e,b,f,_,i=>by
  have f:e=b:=f;grind
 |x::l,a,e,b,f,k,i=>by
  obtain⟨⟨C,D,G,H⟩,u⟩:=f;obtain⟨⟨F,B⟩,⟨I,E⟩,J⟩:=k x jV;have m:a++x::l=(a++[x])++l:=jV;have c:(2:Int) ^ (20-x.Xg.toNat)=2 ^ (d-x.Xg).toNat * 2 ^ (20-d).toNat:=by
   rw[<-Int.pow_add,show(d-x.Xg).toNat+(20-d).toNat=20-x.Xg.toNat from qa]
  have n:begV (AF (a++x::l) (AA a) qt)=AB (plc (a++x::l) (AA a),2 ^ (20-x.Xg.toNat)):=by
   grind[begV]
  have v:=Tc n;have w:AA (a++[x])=AA a+1:=jV;have g:=Tv h l (a++[x]) (e+2 ^ (d-x.Xg).toNat) b u (λy o=>k y (by simp[o])) (by
   rw[<-m,w,v,i,Int.add_mul,<-c])
  rw[<-m]at g;refine⟨λj A r=>?_,g.2⟩;by_cases t:j=AA a;{subst t;unfold badT;rw[n];simp};exact g.1 j qa r
theorem af3 {s:ak}{p q:A7}{d:Int}{r:bR}(f:0<=d)(b:d<=20)(a:ProveOk s p q d r)(c:r.Xk=1):uc r.Xs:=by have t:=Tv b r.Xs [] 0 (2 ^ d.toNat) (a.tiles c) (a.free c) (by rw[wN];rfl);refine⟨a.bd.1,λj e=>t.1 j (wO _) e,t.2.trans ?_⟩;rw[<-Int.pow_add,show d.toNat+(20-d).toNat=20 from qa];decide
theorem QF {s:ak}{p q:A7}{d:Int}{r:bR}(f:0<=d)(b:d<=20)(a:ProveOk s p q d r)(c:r.Xk=1):(dH s p q r.Xs).2=0:=by rw[RH];exact⟨a.ready qa,af3 f b a c,λj e=>(a.free c _ (aF e)).2.2⟩
section
variable (J:aE->aE->Option aE)
def cY:Ar->aE->Ar
 |[],x=>[x]
 |a::b,x=>match J a x with
  |some w=>cY b w
  |none=>x::a::b
def dJ (l:Ar):Ar:=(l.foldl (cY J) []).reverse
def Red (l:Ar)(j:Nat):Prop:=∀i,i+1<j->J (AF l i qt) (AF l (i+1) qt)=none
end
section
variable {J:aE->aE->Option aE}
theorem ahV {a:Type}[Inhabited a]{l:List a}{i:Nat}(h:i<AA l):AF l i qt=l[i]:=by simp_all
theorem tk {l:Ar}:∀ {j:Nat},j<=AA l->Red J l j->(l.take j).foldl (cY J) []=(l.take j).reverse
 |0,_,_=>jV
 |1,h,_=>by
  grind[cS,cY]
 |j+2,h,a=>by
  have b:=tk (j:=j+1) qa (λi c=>a i qa);rw[cS (show j+1<AA l from qa),wP,b,cS (show j<AA l from qa)];simp only[List.reverse_append,wQ,List.reverse_nil,List.nil_append,List.singleton_append,wR,List.foldl_nil,cY];rw[a j qa]
theorem aeO {l:Ar}(h:Red J l (AA l)):dJ J l=l:=by grind[dJ,tk,wS]
theorem adE {l:Ar}{j:Nat}(h:j+1<AA l)(a:Red J l (j+1)){w:aE}(f:J (AF l j qt) (AF l (j+1) qt)=AB w):dJ J l=dJ J (l.take j++[w]++l.drop (j+2)):=by
 unfold dJ;have e:l=l.take j++[AF l j qt]++[AF l (j+1) qt]++l.drop (j+2):=by
  rw[<-cS qa,<-cS qa,List.take_append_drop]
 have b:=tk (j:=j+1) qa a;have c:=tk (j:=j) qa (λi d=>a i qa);rw[cS (show j<AA l from qa)]at b;grind[cY]
theorem af5 {l:Ar}{j:Nat}(h:j+1<AA l)(a:Red J l (j+1))(b:J (AF l j qt) (AF l (j+1) qt)=none):Red J l (j+2):=by intro i c;by_cases e:i=j;{simp_all};exact a i qa
end
def cz (s:ak)(p q:A7)(a b:aE):Option aE:=
 if a.Xg≠b.Xg\/a.Xg<=0\/a.Xj.tmod 2≠0\/b.Xj≠AG qs (a.Xj+1)then none else
 if(bL p q (AG qs (a.Xg-1)) (AG qs (a.Xj.tdiv 2))).2=AE then none else
 if dm s (bL p q (AG qs (a.Xg-1)) (AG qs (a.Xj.tdiv 2))).1 a.Xf then AB ⟨AG qs (a.Xg-1),AG qs (a.Xj.tdiv 2),a.Xf⟩else
 if dm s (bL p q (AG qs (a.Xg-1)) (AG qs (a.Xj.tdiv 2))).1 b.Xf then AB ⟨AG qs (a.Xg-1),AG qs (a.Xj.tdiv 2),b.Xf⟩else none
section
variable (s:ak) {p q:A7} (hp:AA p<4294967296) (hq:AA q<4294967296) (a b:aE)
include hp hq
theorem aah:∃x c,(yP s p q a b).o=AB (x,c)/\(cz s p q a b=if c then AB x else none):=by
 have i:(yP s p q a b).o=(yQ s p q a b).run NN:=rfl;rw[i];simp only[yQ,qj,cz,BR p q _ _ hp hq,Nb s _ _ (s7 p q _ _ hp),qG];by_cases f:a.Xg=b.Xg
 ·rw[aJ f];by_cases j:a.Xg<=0;{rw[ai qa,ah];simp_all};rw[aj qa];by_cases e:a.Xj.tmod 2=0
  ·rw[aJ e,ah];by_cases d:b.Xj=AG qs (a.Xj+1)
   ·rw[aJ d,qb (λh=>qa)];generalize bL p q (AG qs (a.Xg-1)) (AG qs (a.Xj.tdiv 2))=B;cases k:B.2;{exact⟨_,_,rfl,jV⟩};simp only[qe,ah,Bool.true_eq_false,if_false];cases dm s B.1 a.Xf;all_goals grind
   rw[bJ d];simp_all
  rw[bJ e,ah];simp_all
 rw[bJ f,ah];simp_all
theorem Z5:(MN s p q a b).o=AB (match cz s p q a b with|some x=>(x,AD)|none=>(⟨0,0,nl⟩,AE)):=by
 show(MO s p q a b).run NN=_;simp only[MO,qj,cz,MQ p q _ _ hp hq,Wh s _ _ (s7 p q _ _ hp),qG];by_cases g:a.Xg=b.Xg
 ·rw[aJ g];by_cases e:a.Xg<=0;{grind[ah]};rw[aj e];by_cases f:a.Xj.tmod 2=0
  ·rw[aJ f,ah];by_cases d:b.Xj=AG qs (a.Xj+1)
   ·rw[aJ d,qb (λh=>qa)];generalize bL p q (AG qs (a.Xg-1)) (AG qs (a.Xj.tdiv 2))=B;cases l:B.2;{rfl};refine(aU (λi=>sw (dm s B.1 (AF ([a,b]:Ar) i qt).Xf) ((⟨AG qs (a.Xg-1),AG qs (a.Xj.tdiv 2),(AF ([a,b]:Ar) i qt).Xf⟩:aE),AD)) 2 jU (λj m=>?_) ?_).trans ?_;{rw[ai jX,ab ⟨qa,jX⟩,qD,ab qa,wn qa,<-co]};all_goals grind[scan,sw]
   grind
  grind[ah]
 grind[ah]
end
theorem adB {s:ak}{p q:A7}{a b w:aE}(h:cz s p q a b=AB w):w.Xf=a.Xf\/w.Xf=b.Xf:=by grind[cz]
theorem RJ (l:List V3)(h:AA l<4294967296):(np l).o=AB l:=fe qa jU
theorem acq (l:Ar)(h:AA l<4294967296):(uA l).o=AB l:=fe qa jU
theorem mL {a:Type}[Inhabited a]{l:List a}{i:Nat}(h:i<AA l):l.set i (AF l i qt)=l:=by simp_all
theorem NW (l:Ar)(h:AA l<4294967296)(b:∀x∈l,AA x.Xf<4294967296):(u9 l).o=AB l:=by show(LQ l).run NN=_;simp only[LQ,qj,acq l h,qG];refine(aO (λj=>(l,(j:Int))) l (AA l) rfl h (λj a=>?_) ?_).trans rfl;{rw[ai qa,ab ⟨jV,jW⟩];simp only[qD];rw[ab a,RJ _ (b _ (aF a)),qG,ab ⟨qa,qa⟩,ab ⟨a,qa⟩,wn qa];exact congrArg (λx=>AB (am.next (x,((j+1:Nat):Int)))) (mL a)};simp_all
def m8 (s:ak)(p q:A7)(l:Ar):Ar:=if(dH s p q l).2≠0 then l else dJ (cz s p q) l
section
variable (s:ak) {p q:A7} (hp:AA p<4294967296) (hq:AA q<4294967296) (l:Ar)
include hp hq
theorem ab3:(Pt s p q l).o=AB (m8 s p q l):=by
 show(BZ s p q l).run NN=_;simp only[BZ,qj,YQ s p q l hp hq,qG,m8];by_cases h:(dH s p q l).2=0
 ·have m:=(Fk h).2.2.2;rw[aJ h,qb qa,ab ⟨qa,by rw[au];omega⟩];suffices G:∃y,andK (iter _ NN (l,(0:Int))) (λy=>AB y)=AB y/\y=dJ (cz s p q) l by
   obtain⟨y,H,A⟩:=G;rw[<-A];omega
  refine tG (β:=Ar) (g:=λy=>AB y) (P:=λy=>y=dJ (cz s p q) l) (λ(y:Ar×Int)=>AA y.1<=4096/\∃j:Nat,y.2=(j:Int)/\j<=AA y.1/\Red (cz s p q) y.1 (j+1)/\dJ (cz s p q) y.1=dJ (cz s p q) l)
   (λy=>AA y.1 * (AA y.1+1)-y.2.toNat) (λy=>y=dJ (cz s p q) l) ⟨m,0,rfl,jV,λi f=>qa,rfl⟩ ?_ (λy d=>?_) (λy d=>⟨y,rfl,d⟩)
  {show AA l * (AA l+1)-_<4294967296;have:AA l * (AA l+1)<=4096 * 4097:=qx m qa;omega};obtain⟨E,j,C,I,e,c⟩:=d;rw[C,wn qa];by_cases b:j+1<AA y.1
  ·left;rw[ai qa,ab ⟨qa,qa⟩,qD,ab qa,ab ⟨qa,qa⟩,qD,ab b];obtain⟨x,B,w,k⟩:=aah s hp hq (AF y.1 j qt) (AF y.1 (j+1) qt);rw[w,qG];have v:AA y.1<=AA y.1 * (AA y.1+1):=by rw[Nat.mul_add];omega
   cases B;{refine⟨(y.1,((j+1:Nat):Int)),rfl,⟨E,j+1,rfl,j8,af5 b e k,c⟩,?_⟩;simp only[qD];omega};have t:=adE b e k;rw[w64 (x:=(j:Int)+2) qa qa];have u:((j:Int)+2).toNat=j+2:=qa;simp only[qH,qd,u,qD,wT,wU,List.drop_zero];have L:AA (y.1.take j++[x]++y.1.drop (j+2))=AA y.1-1:=jZ;have F:(y.1.drop (j+2)).take (AA y.1- (j+2))=y.1.drop (j+2):=by rw[List.take_of_length_le jV]
   have a:AA (y.1.take j)=j:=jZ;have n:AA (y.1.drop (j+2))=AA y.1- (j+2):=jV
   rw[F,ab ⟨qa,qa,qa⟩,ab ⟨qa,by rw[a,au];omega⟩,ab ⟨jZ,by rw[a,au];simp;omega⟩,ab ⟨qa,qa,qa⟩,
    ab ⟨by simp only[wV,a,n,wW];omega,by simp only[wV,a,n,wW,au];omega⟩]
   refine⟨(y.1.take j++[x]++y.1.drop (j+2),0),rfl,⟨j8,0,rfl,jV,λi f=>qa,by rw[<-t];exact c⟩,?_⟩;simp only[L,wT,wU];obtain⟨M,z⟩:∃M,AA y.1=M+1:=⟨AA y.1-1,qa⟩;rw[z];simp only[Nat.add_sub_cancel];have:(M+1) * (M+1+1)=M * (M+1)+(2 * M+2):=by simp only[Nat.add_mul,Nat.mul_add];omega
   omega
  right;rw[aj qa];refine⟨_,rfl,?_⟩;rw[<-c,aeO];intro i f;exact e i qa
 rw[bJ h,qc h]
theorem Zv (hl:AA l<4294967296)(I:∀x∈l,AA x.Xf<4294967296):(NV s p q l).o=AB (m8 s p q l):=by
 show(LP s p q l).run NN=_;simp only[LP,qj,YH s p q l hp hq,qG,m8];by_cases h:(dH s p q l).2=0
 ·have hl:=(Fk h).2.2.2;rw[aJ h,qb ka];let F:Nat->Ar:=λj=>((l.take j).foldl (cY (cz s p q)) []).reverse
  have pushOk:∀ (f:Ar) (x:aE),(∀y∈f,AA y.Xf<4294967296)->AA x.Xf<4294967296->(∀y∈cY (cz s p q) f x,AA y.Xf<4294967296)/\(AA (cY (cz s p q) f x))<=AA f+1:=by
   intro f;induction f with
   |nil=>intro x _ A;simp only[cY,wD];exact⟨λy m=>by subst m;exact A,jV⟩
   |cons a f G=>
    intro x t A;simp only[cY];split
    ·rename_i w K;have L:AA w.Xf<4294967296:=by
      rcases adB K with e|e;{rw[e];exact t a jV};rw[e];exact A
     have:=G w (λy m=>t y (by simp[m])) L;exact⟨this.1,by have:=this.2;simp only[qw];omega⟩
    refine⟨λy m=>?_,jV⟩;rcases List.mem_cons.1 m with rfl|m
    {exact A};exact t y m
  have r:∀j,j<=AA l->(∀y∈F j,AA y.Xf<4294967296)/\(AA (F j))<=j:=by
   intro j;induction j with
   |zero=>intro _;simp[F]
   |succ j G=>
    intro hj;have:=G qa;have A:(AF l j qt).Xf.length<4294967296:=I _ (aF qa);have e:F (j+1)=(cY (cz s p q) (F j).reverse (AF l j qt)).reverse:=by
     simp only[F];rw[cS qa,wP,wX];rfl
    have P:=pushOk (F j).reverse (AF l j qt) (λy m=>this.1 y (by simpa using m)) A;rw[e];refine⟨λy m=>P.1 y (by simpa using m),?_⟩;have:=P.2;simp only[wY]at this⊢;omega
  refine(aO (λj=>(F j,(j:Int))) (F (AA l)) (AA l) rfl (show AA l<4294967296 from qa) (λj hj=>?_) ?_).trans ?_
  ·have Q:=r j qa;rw[ai j9,ab ⟨jV,j9⟩];simp only[qD];rw[wn qa];generalize E:AF l j qt=x0;have A:AA x0.Xf<4294967296:=by rw[<-E];exact I _ (aF qa)
   have e:F (j+1)=(cY (cz s p q) (F j).reverse x0).reverse:=by
    simp only[F];rw[cS qa,wP,wX,E];rfl
   rw[e];have B:∀ (n N:Nat) (f:Ar) (x:aE),AA f=n->n<N->n<=4096->∃y:Ar×Int×Int×List V3,iter (λ(c:Ar×Int×Int×List V3)=>
    (bif qu (((AA c.1:Nat):Int)>0)then
     grd (0<=(AG qs (((AA c.1:Nat):Int)-1))/\(AG qs (((AA c.1:Nat):Int)-1))<((AA c.1:Nat):Int))
     (grd (((AG qs (((AA c.1:Nat):Int)-1))).toNat<AA c.1)
     ((MN s p q (AF c.1 (((AG qs (((AA c.1:Nat):Int)-1))).toNat) qt) (⟨c.2.1,c.2.2.1,c.2.2.2⟩:aE)).o.bind λg=>
      bif !g.2 then AB (.out (c.1,c.2.1,c.2.2.1,c.2.2.2))else
       grd (0<=(AG qs (((AA c.1:Nat):Int)-1))/\(AG qs (((AA c.1:Nat):Int)-1))<=((AA c.1:Nat):Int)/\0<=((AG qs (((AA c.1:Nat):Int)-1))).toNat)
       (AB (.next ((c.1.take (((AG qs (((AA c.1:Nat):Int)-1))).toNat)),g.1.Xg,g.1.Xj,g.1.Xf)))))
     else AB (.out (c.1,c.2.1,c.2.2.1,c.2.2.2)):Option (am (Ar×Int×Int×List V3) (Ar×Int×Int×List V3) (am (Ar×Int) Ar Ar)))) N (f.reverse,x.Xg,x.Xj,x.Xf)=AB (.inl y)/\
    y.1++[(⟨y.2.1,y.2.2.1,y.2.2.2⟩:aE)]=(cY (cz s p q) f x).reverse/\(AA y.1)<=n:=by
    intro n;induction n with
    |zero=>
     intro N f x t S _;obtain rfl:=List.eq_nil_of_length_eq_zero t;obtain⟨M,rfl⟩:∃M,N=M+1:=⟨N-1,qa⟩;exact⟨([],x.Xg,x.Xj,x.Xf),by simp[iter],by simp[cY],jV⟩
    |succ n G=>
     intro N f x t S U;obtain⟨M,rfl⟩:∃M,N=M+1:=⟨N-1,qa⟩;obtain⟨a,d,rfl⟩:∃a d,f=a::d:=by cases f with
      |nil=>simp at t
      |cons a d=>exact⟨a,d,rfl⟩
     have k:AA d=n:=by simpa using t
     have D:AA ((a::d).reverse)=n+1:=by simp[k]
     have K:AG qs (((n+1:Nat):Int)-1)=(n:Int):=by rw[w64 qa qa];omega
     have C:AF ((a::d).reverse) n qt=a:=by
      rw[wQ,qY,List.getElem?_append_right (by simp[k])];simp[k]
     have z:((a::d).reverse).take n=d.reverse:=by rw[wQ,List.take_left' (by simp[k])]
     simp only[iter];rw[D,K,ai qa,ab ⟨qa,qa⟩,qD,ab qa,C,z,Z5 s hp hq,qG];simp only[cY];cases V:cz s p q a x with
     |none=>exact⟨_,rfl,jV,by simp[k]⟩
     |some w=>
      simp only[qH,qd];rw[ab ⟨qa,qa,qa⟩];obtain⟨y,H,O,R⟩:=G M d w k qa qa;exact⟨y,H,O,qa⟩
   obtain⟨y,H,O,R⟩:=B (F j).reverse.length NN (F j).reverse x0 rfl (show(F j).reverse.length<4294967296 by simp only[wY];omega) (by simp only[wY];omega);rw[wX]at H;simp only[wY]at R;refine(fa H).trans ?_;rw[ab ⟨by simp only[wW];omega,by simp only[wW,au];omega⟩,O]
  {rw[aj jV]};have Q:=r (AA l) (we _);show(u9 (F (AA l))).o.bind _=_;rw[NW _ qa Q.1];simp only[F,wS];rfl
 rw[bJ h,qc h,NW l hl I];rfl
end
section
variable {J:aE->aE->Option aE}
theorem Tg:∀ (b:Ar) (x:aE),AA (cY J b x)<=AA b+1
 |[],x=>by simp[cY]
 |a::b,x=>by
  simp only[cY];cases c:J a x with
  |some w=>have:=Tg b w;simp;omega
  |none=>simp
theorem SR:∀ (l a:Ar),AA (l.foldl (cY J) a)<=AA a+AA l
 |[],_=>jV
 |x::l,a=>by
  have:=SR l (cY J a x);have:=Tg (J:=J) a x;simp only[wR,qw];omega
theorem aeP (l:Ar):AA (dJ J l)<=AA l:=by grind[SR,dJ]
theorem afO {P:aE->Prop}(d:∀a x w,J a x=AB w->P a->P x->P w):∀ (l b:Ar),(∀x∈b,P x)->(∀x∈l,P x)->∀x∈l.foldl (cY J) b,P x:=by
 have c:∀ (b:Ar) (x:aE),(∀y∈b,P y)->P x->∀y∈cY J b x,P y:=by
  intro b;induction b<;>grind[cY]
 intro l;induction l<;>grind
end
def TlB:Int->Ar->Int->Prop
 |a,[],b=>a=b
 |a,x::l,b=>∃n,begV x=AB (a,n)/\TlB (a+n) l b
theorem TlB.app:∀ {l m:Ar} {a b c:Int},TlB a l b->TlB b m c->TlB a (l++m) c
 |[],_,_,_,_,h,k=>by have h:_=_:=h;simp_all
 |_::_,_,_,_,_,⟨n,d,e⟩,k=>⟨n,d,TlB.app e k⟩
theorem TlB.split:∀ {l m:Ar} {a c:Int},TlB a (l++m) c->∃b,TlB a l b/\TlB b m c
 |[],_,a,_,h=>⟨a,rfl,h⟩
 |_::_,_,_,_,⟨n,d,g⟩=>by
  obtain⟨b,f,e⟩:=TlB.split g;exact⟨b,⟨n,d,f⟩,e⟩
theorem TlB.snoc {l:Ar}{x:aE}{a c:Int}(h:TlB a (l++[x]) c):∃f n,TlB a l f/\begV x=AB (f,n)/\c=f+n:=by obtain⟨b,e,n,g,d⟩:=h.split;have d:b+n=c:=d;grind
theorem Hm:∀ (l c:Ar) (a b:Int),plc (c++l) (AA c)=a->
 (TlB a l b↔(∀j,AA c<=j->j<AA (c++l)->badT (c++l) j=AE)/\plc (c++l) (AA (c++l))=b)
 |[],c,a,b,d=>by
  rw[List.append_nil]at d⊢;exact⟨λh=>⟨λj e f=>qa,d.trans h⟩,λh=>d.symm.trans h.2⟩
 |x::l,c,a,b,d=>by
  have g:c++x::l=(c++[x])++l:=jV;have m:AF (c++x::l) (AA c) qt=x:=by simp[qY]
  have o:AA (c++[x])=AA c+1:=jV;constructor
  ·rintro⟨n,e,f⟩;have q:begV (AF (c++x::l) (AA c) qt)=AB (a,n):=by rw[m];exact e
   have r:=Tc q;have i:=(Hm l (c++[x]) (a+n) b (by rw[<-g,o,r])).1 f;rw[<-g]at i;refine⟨λj s k=>?_,i.2⟩;by_cases u:j=AA c;{subst u;unfold badT;rw[q,d];simp};exact i.1 j qa k
  rintro⟨e,f⟩;obtain⟨n,p,t⟩:=ahx (e (AA c) (we _) jV);rw[m,d]at p;refine⟨n,p,(Hm l (c++[x]) (a+n) b (by rw[<-g,o,t,d])).2 ?_⟩;rw[<-g];exact⟨λj s k=>e j qa k,f⟩
theorem ahI {l:Ar}:uc l↔(AA l)<=4096/\TlB 0 l 1048576:=by have h:=Hm l [] 0 1048576 rfl;rw[h];exact⟨λ⟨d,c,b⟩=>⟨d,λj _ a=>c j a,b⟩,λ⟨d,c,b⟩=>⟨d,λj a=>c j (wO _) a,b⟩⟩
def HL (s:ak)(p q:A7)(x:aE):Prop:=dm s (bL p q x.Xg x.Xj).1 x.Xf=AD
theorem check_tlb {s:ak}{p q:A7}{l:Ar}:(dH s p q l).2=0↔(aM s=0/\aI s.Xe p=AD/\aI s.Xe q=AD)/\(AA l)<=4096/\TlB 0 l 1048576/\∀x∈l,HL s p q x:=by rw[RH,ahI];constructor;{rintro⟨e,⟨b,d⟩,c⟩;refine⟨e,b,d,λx g=>?_⟩;obtain⟨i,f,rfl⟩:=List.getElem_of_mem g;have:=c i f;rw[ahV f]at this;exact this};rintro⟨e,b,d,c⟩;exact⟨e,⟨b,d⟩,λj h=>c _ (aF h)⟩
section
variable {s:ak} {p q:A7}
theorem aeG {a b w:aE}(h:cz s p q a b=AB w):HL s p q w:=by unfold cz at h;split at h;{cases h};split at h;{cases h};split at h;{rename_i c;cases h;exact c};split at h;{rename_i c;cases h;exact c};grind
theorem agy {a b w:aE}(h:cz s p q a b=AB w){f n m:Int}(r:begV a=AB (f,n))(v:begV b=AB (f+n,m)):begV w=AB (f,n+m):=by
 obtain⟨j,k,c⟩:=RD r;obtain⟨B,x,g⟩:=RD v;simp only[Prod.mk.injEq]at c g;have l:a.Xg=b.Xg/\0<a.Xg/\a.Xj.tmod 2=0/\w.Xg=AG qs (a.Xg-1)/\w.Xj=AG qs (a.Xj.tdiv 2):=by
  unfold cz at h;split at h;all_goals grind
 obtain⟨o,A,t,i,d⟩:=l;have z:=pow9 j.1 j.2;rw[ahm k.1]at t;rw[gv k.1,w64 qa qa]at d;rw[w64 qa qa]at i;have y:(2:Int) ^ a.Xg.toNat=2 * 2 ^ (a.Xg-1).toNat:=by rw[show a.Xg.toNat=(a.Xg-1).toNat+1 from qa,wo];omega
 have u:(2:Int) ^ (20- (a.Xg-1).toNat)=2 * 2 ^ (20-a.Xg.toNat):=by rw[show 20- (a.Xg-1).toNat=(20-a.Xg.toNat)+1 from qa,wo];omega
 unfold begV;rw[i,d,qc ⟨qa,qa,qa⟩,u,c.1,c.2,g.2,<-o];have e:a.Xj / 2 * (2 * 2 ^ (20-a.Xg.toNat))=a.Xj * 2 ^ (20-a.Xg.toNat):=by
  rw[<-wL,show a.Xj / 2 * 2=a.Xj from qa]
 congr 2;omega
theorem Th:∀ (c:Ar) (x:aE) (f n:Int),TlB 0 c.reverse f->begV x=AB (f,n)->TlB 0 (cY (cz s p q) c x).reverse (f+n)
 |[],x,f,n,h,d=>by
  subst h;exact⟨n,d,rfl⟩
 |a::c,x,f,n,h,d=>by
  simp only[cY];rw[wQ]at h;obtain⟨j,e,i,l,g⟩:=h.snoc;subst g;cases k:cz s p q a x with
  |some w=>
   have:=Th c w j (e+n) i (agy k l d);rw[<-Int.add_assoc]at this;exact this
  |none=>
   rw[wQ,wQ];exact h.app ⟨n,d,rfl⟩
theorem SS:∀ (l a:Ar) (f b:Int),TlB 0 a.reverse f->TlB f l b->TlB 0 (l.foldl (cY (cz s p q)) a).reverse b
 |[],a,f,b,h,c=>by have c:f=b:=c;simp_all
 |x::l,a,f,b,h,⟨n,e,d⟩=>SS l _ (f+n) b (Th a x f n h e) d
theorem acC {l:Ar}(h:(dH s p q l).2=0):(dH s p q (dJ (cz s p q) l)).2=0:=by rw[check_tlb]at h⊢;obtain⟨c,g,f,e⟩:=h;refine⟨c,Nat.le_trans (aeP l) g,SS l [] 0 1048576 rfl f,λx b=>?_⟩;unfold dJ at b;rw[List.mem_reverse]at b;exact afO (P:=HL s p q) (λa x w d _ _=>aeG d) l [] (λx b=>jX) e x b
end
def hi2 (x:aE):aE:=⟨AG qs (x.Xg+1),AG qs (AG qs (2 * x.Xj)+1),x.Xf⟩
section
variable {s:ak} {p q:A7}
end
section
variable {s:ak} {p q:A7} {l:Ar} (hc:(dH s p q l).2=0) {e i:Int} (e0:0<=e/\e<=20) (hi:0<=i/\i<=2 ^ e.toNat)
include hc e0 hi
end
def PkB (x:cl):Prop:=AA x.XP<=2400000/\(AA x.XI)<=4096/\∀u∈x.XI,AA u.XD<=576
theorem Z4 (l:Ar)(h:PsB l):∃x,(lU l).o=AB x/\PkB x:=by
 obtain⟨M,J⟩:=h;show ∃x,(q0 l).run NN=AB x/\_;simp only[q0,qj];refine bS (P:=PkB) (λm (y:List V3×Az×List (V3×Int)×Int)=>∃j:Nat,y.2.2.2=(j:Int)/\j+m=AA l/\(AA y.1)<=576 * j/\(AA y.2.1)=j/\∀u∈y.2.1,AA u.XD<=576) (λz:List V3×Az=>AA z.1<=2400000/\(AA z.2)<=4096/\∀u∈z.2,AA u.XD<=576) (AA l) ⟨0,rfl,qa,by simp[nl],by rfl,λu s=>by cases s⟩ qa ?_ (λz D=>⟨_,rfl,D⟩);rintro m ⟨L,N,K,i⟩ ⟨j,C,O,F,s,t⟩;simp only at C F s t⊢;subst C;cases m with
 |zero=>exact .inr (.inl ⟨_,by rw[aj qa],jX,jW,t⟩)
 |succ m=>
  rw[ai qa,ab qa,qD];have p:=J _ (aF (show j<AA l from qa));generalize AF l j qt=x at p⊢;suffices G:∃r,_=AB r/\(∃ (c:List V3) (b:Az) (g:List (V3×Int)),r=am.next (c,b,g,((j+1:Nat):Int))/\(AA c)<=576 * (j+1)/\(AA b)=j+1/\∀u:ez,u∈b->AA u.XD<=576) by
   obtain⟨r,e,c,b,g,rfl,w,n,H⟩:=G;exact .inl ⟨_,m,e,wE m,j+1,rfl,qa,w,n,H⟩
  refine bS (λm (y:List V3×List (V3×Int)×A7×Int)=>∃k:Nat,y.2.2.2=(k:Int)/\k+m=AA x.Xf/\(AA y.1)<=576 * j+k/\(AA y.2.2.1)=k) (λz:List V3×List (V3×Int)×A7=>AA z.1<=576 * (j+1)/\(AA z.2.2)<=576) (AA x.Xf) ⟨0,rfl,qa,qa,by rfl⟩ qa ?_ ?_
  ·rintro d ⟨I,A,R,k⟩ ⟨f,B,E,v,q⟩;simp only at B v q⊢;subst B;cases d with
   |zero=>exact .inr (.inl ⟨_,by rw[aj qa],jX,jW⟩)
   |succ d=>
    rw[ai qa,ab qa];have Q:(AA R+[(0:Int)].length) * 8<=140737488355328/\(AA R)+[(0:Int)].length<=maxLen:=by grind[au]
    cases (!(mdom dq A (dq (AF x.Xf ((f:Int)).toNat qt))))with
    |true=>
     simp only[qe];rw[ab (by simp only[qw,qy,au];omega),ah,ab qa];exact .inl ⟨_,d,rfl,wE d,f+1,by simp only[wn (show f<4294967296 from qa)],qa,by simp only[wV,qw,qy];omega,by simp only[wV,qw,qy];omega⟩
    |false=>
     simp only[qd,ah];rw[ab qa];exact .inl ⟨_,d,rfl,wE d,f+1,by simp only[wn (show f<4294967296 from qa)],qa,j8,by simp only[wV,qw,qy];omega⟩
  rintro⟨I,A,R⟩ ⟨w,n⟩;rw[ab (by simp only[qw,qy,au];omega)];refine⟨_,rfl,_,_,_,by rw[wn (show j<4294967296 from qa)],w,by simp only[wV,qw,qy];omega,λu a=>?_⟩;rcases wC.1 a with a|a
  {exact t u a};simp at a;subst a;exact n
def outP (r:ao)(c:A8)(i:Nat):Bool:= !aI r (AF c i qt)
def f7 (s:ak)(c:A8):Int×Int:=if aM s≠0 then(0,904)else if AA c<2\/AA c>256 then(0,2201)else
 match scan (λi=>sw (outP s.Xe c i) ((i:Int),(1201:Int))) (AA c) 0 with|some r=>r|none=>(0,0)
theorem Yu (s:ak)(c:A8):(JY s c).o=AB (f7 s c):=by
 show(JZ s c).run NN=_;simp only[JZ,qj,iK,qG,nA];unfold f7;by_cases h:aM s=0
 ·rw[aJ h,qb (λa=>a h)];simp only[aS,ah,cB];by_cases b:AA c<2\/AA c>256;{grind};rw[qb b,cT jX];refine(aU (λi=>sw (outP s.Xe c i) ((i:Int),(1201:Int))) (AA c) qa (λj d=>?_) ?_).trans ?_;all_goals grind[ab,wn,sw,outP]
 grind
variable {c:A8}
theorem chkPV_iff{s:ak}:(f7 s c).2=0↔aM s=0/\(2<=AA c/\(AA c)<=256)/\∀i,i<AA c->aI s.Xe (AF c i qt)=true:=by
 unfold f7;constructor
 ·intro h;split at h;{cases h};split at h;{cases h};all_goals grind[e8,outP,sw,di]
 grind[sw,outP,di]
def CfB (c:A8):Prop:=AA c<=256/\∀x∈c,AA x<=1000
theorem CfB.get(h:CfB c){i:Nat}(a:i<AA c):AA (AF c i qt)<=1000:=h.2 _ (aF a)
theorem al2{i:Nat}(a:i+1<AA c):AF ((c.drop 1).take (AA c-1)) i qt=AF c (i+1) qt:=by grind
theorem ahl(_:1<=AA c):((c.drop 1).take (AA c-1)).length=AA c-1:=jV
theorem QY (l:A7)(h:AA l<4294967296):(gK l).o=AB l:=fe qa jU
theorem Qy (l:A8)(h:AA l<4294967296):(uC l).o=AB l:=fe qa jU
theorem aaC (c:A8)(a:CfB c):(uJ c).o=AB c:=by
 have e:=a.1;show(pD c).run NN=_;simp only[pD,qj,Qy c qa,qG];refine(aO (λj=>(c,(j:Int))) c (AA c) rfl (show AA c<4294967296 from qa) (λj b=>?_) ?_).trans rfl
 ·have d:=a.get b;grind[ab,QY,wn,mL]
 simp_all
def PaB (x:aH):Prop:=CfB x.Xc/\(AA x.Xa)<=256/\∀y∈x.Xa,PkB y
end Go.Abs
