import Derived.Test.YtjonhijmljhjlaaGreatYJDL1
open Bool renaming or_eq_false_iff->qp,not_true->qO,and_eq_true->qm,true_and->qR,not_false->xp,not_eq_false'->xq
open Decidable renaming decide->qw
open Go.IntKind renaming i64->qu
open Inhabited renaming default->qv
open Int renaming emod_nonneg->xf,emod_lt_of_pos->xg,le_refl->xi,toNat_natCast->qG,tdiv_eq_ediv_of_nonneg->xk,pow_succ->wN,mul_comm->xr,mul_assoc->xu
open List renaming mem_append->xh,drop_zero->xl,drop_eq_nil_of_le->xm,cons_append->xn,append_assoc->xo
open Nat renaming le_refl->wz,lt_succ_self->xj
open Option renaming bind_some->qL,bind->qT
open Go.Abs.T renaming run->qk
noncomputable section
namespace Go.Abs
theorem dzz {σ τ R:Type}{f:σ->Option (Step3 σ τ R)}{k:τ->Option R}{P:R->Prop}{x:σ}(I:Nat->σ->Prop)(Q:τ->Prop)(m:Nat)(h0:I m x)(hN:m<4294967296)
 (hr:∀m x,I m x->(∃x' m',f x=some (.next x')/\m'<m/\I m' x')\/(∃y,f x=some (.out y)/\Q y)\/∃r,f x=some (.fin r)/\P r) (hk:∀y,Q y->∃r,k y=some r/\P r):∃r,andK (iter f NN x) k=some r/\P r:=by
 have go:∀ (N m:Nat) (x:σ),I m x->m<N->(∃y,iter f N x=some (.inl y)/\Q y)\/∃r,iter f N x=some (.inr r)/\P r:=by
  intro N;induction N with
  |zero=>intro m x _ h;omega
  |succ N ih=>
   intro m x hi h;rcases hr m x hi with⟨x',m',h1,h2,h3⟩|⟨y,h1,h2⟩|⟨r,h1,h2⟩
   ·simp only[iter,h1];exact ih m' x' h3 qa
   ·exact .inl ⟨y,by simp[iter,h1],h2⟩
   ·exact .inr ⟨r,by simp[iter,h1],h2⟩
 rcases go NN m x h0 hN with⟨y,e1,e2⟩|⟨r,e1,e2⟩
 ·rw[gzy e1];exact hk y e2
 ·rw[Eza e1];exact⟨r,rfl,e2⟩
theorem nzq {x k:Int}(hk:0<k)(hk2:k<=4611686018427387904):(fzd x k).o=some (x % k):=by
 show(zzf x k).run NN=_;have h2:=Int.tmod_lt_of_pos x hk;have h3:=Int.lt_tmod_of_pos x hk;have h1:=Int.mul_tdiv_add_tmod x k;have e:=Int.emod_add_mul_ediv x k;have e2:=xf x (show k≠0 from qa);have e3:=xg x hk;simp only[zzf,qk];rw[aza qa];by_cases h:x.tmod k<0
 ·rw[az8 h,az9,w64 qa qa];congr 1;have:x % k=x.tmod k+k:=by
   have:=uzs (a:=x) (b:=k) (q:=x.tdiv k-1) (r:=x.tmod k+k) qa qa (by rw[Int.mul_sub];omega);rw[this,Int.mul_sub]at e;omega
  omega
 ·rw[az7 h,az9];congr 1;have:=uzs (a:=x) (b:=k) (q:=x.tdiv k) (r:=x.tmod k) qa qa qa;rw[this]at e;omega
section
variable {l:List Int} (hl:l.length<4294967296) {n:Int} (h0:0<=n) (h1:n<=(l.length:Int))
include hl h0 h1
theorem azt {k:Int}(hk:0<k)(hk2:k<=4611686018427387904):∃r n',(azp l n k).o=some (r,l,n')/\0<=r/\r<k/\0<=n'/\n'<=(l.length:Int):=by
 have e0:(azp l n k).o=(vzi l n k).run NN:=rfl;rw[e0];simp only[vzi,qk];by_cases h:n>=(l.length:Int)
 ·rw[az8 h];exact⟨_,_,rfl,qa,qa,h0,h1⟩
 ·rw[az7 h,w64 (x:=n+1) qa qa,w64 qa qa,aza ⟨qa,qa⟩,nzq hk hk2,qL];exact⟨_,_,rfl,xf _ qa,xg _ hk,qa,qa⟩
theorem cz9 {k:Int}(hk:0<=k)(hk2:k<=1000000):∃r n',(bzs l n k).o=some (r,l,n')/\ -k<=r/\r<=k/\0<=n'/\n'<=(l.length:Int):=by
 have e0:(bzs l n k).o=(pzx l n k).run NN:=rfl;rw[e0];simp only[pzx,qk];rw[w64 (x:=2 * k) qa qa,w64 (x:=2 * k+1) qa qa];obtain⟨r,n',e1,e2,e3,e4,e5⟩:=azt hl h0 h1 (k:=2 * k+1) qa qa;rw[e1,qL,w64 qa qa];exact⟨_,_,rfl,qa,qa,e4,e5⟩
def JB (j:bz1):Prop:= -1048576<=j.Lo/\j.Lo<=j.Hi/\j.Hi<=1048576
theorem Tz9 {i:Int}(i0:0<=i)(i1:i<=2):∃j n',(nzr l n i).o=some (j,l,n')/\JB j/\0<=n'/\n'<=(l.length:Int):=by
 have e0:(nzr l n i).o=(nzs l n i).run NN:=rfl;rw[e0];simp only[nzs,qk];have el:∃b,(kzq i).o=some b:=by
  have e1:(kzq i).o=(kzr i).run NN:=rfl;rw[e1];simp only[kzr,qk];rw[w64 (x:=i+1) qa qa,aza ⟨qa,qa,by rw[show((⟨#[97,98,99,100,101,102,103,104,105,106]⟩:ByteArray).size)=10 from rfl];omega⟩];exact⟨_,rfl⟩
 obtain⟨nm,el⟩:=el;obtain⟨r1,n1,e1,a1,b1,c1,d1⟩:=azt hl h0 h1 (k:=4) (by decide) (by decide);obtain⟨r2,n2,e2,a2,b2,c2,d2⟩:=azt hl c1 d1 (k:=3) (by decide) (by decide);obtain⟨r3,n3,e3,a3,b3,c3,d3⟩:=azt hl c2 d2 (k:=8) (by decide) (by decide);obtain⟨r4,n4,e4,a4,b4,c4,d4⟩:=azt hl c3 d3 (k:=4) (by decide) (by decide);rw[el,qL,e1,qL,e2,qL,e3,qL,aza ⟨by simp only;omega,by simp only;omega⟩,e4,qL];generalize hK:([3,3,1,2,4,5,3,0]:List Int).getD r3.toNat 0=K;have rest:∀ (m pr:Int),0<=m->m<=(l.length:Int)->∃j n',(andC (bif qw (i>0)then(bzs l m 2).o.bind λy21=>(bzs y21.2.1 y21.2.2 1).o.bind λy22=>some (.out (y22.2.1,y22.2.2,131072,qu.wrap (y21.1 * 32768),qu.wrap (y22.1 * 32768)))else some (.out (l,m,0,0,0)):Option (Step3 Unit (List Int×Int×Int×Int×Int) (bz1×List Int×Int))) λy20=>
  andC (bif K==0 then some (.out (y20.1,y20.2.1,0,0))else andC (bif K==4 then some (.out (K==4))else some (.out (K==5)):Option (Step3 Unit Bool (Step3 Unit (List Int×Int×Int×Int) (bz1×List Int×Int)))) λy36=>
   bif y36 then(azp y20.1 y20.2.1 3).o.bind λy37=>(azp y37.2.1 y37.2.2 4).o.bind λy38=>some (.out (y38.2.1,y38.2.2,qu.wrap (qu.wrap (0-y37.1) * 65536),qu.wrap (y38.1 * 32768)))
   else(azp y20.1 y20.2.1 5).o.bind λy39=>(azp y39.2.1 y39.2.2 4).o.bind λy40=>(azp y40.2.1 y40.2.2 3).o.bind λy41=>
    some (.out (y41.2.1,y41.2.2,qu.wrap ((qu.wrap (qu.wrap (0-y39.1) * 65536)).tdiv 8),qu.wrap (qu.wrap ((qu.wrap (qu.wrap (1+y40.1) * 65536)).tdiv 8)+y41.1))):Option (Step3 Unit (List Int×Int×Int×Int) (bz1×List Int×Int))) λy35=>
  some ((⟨nm,K,pr,(y20.2.2.1,y20.2.2.2.1,y20.2.2.2.2),y35.2.2.1,y35.2.2.2,qu.wrap (1+r1),65536,qu.wrap (65536+r2),327680⟩:bz1),y35.1,y35.2.1))=some (j,l,n')/\JB j/\0<=n'/\n'<=(l.length:Int):=by
  intro m pr m0 m1;have lim:∀ (m:Int) (o1 o2 o3:Int),0<=m->m<=(l.length:Int)->∃j n',(andC (bif K==0 then some (.out (l,m,0,0))else andC (bif K==4 then some (.out (K==4))else some (.out (K==5)):Option (Step3 Unit Bool (Step3 Unit (List Int×Int×Int×Int) (bz1×List Int×Int)))) λy36=>
   bif y36 then(azp l m 3).o.bind λy37=>(azp y37.2.1 y37.2.2 4).o.bind λy38=>some (.out (y38.2.1,y38.2.2,qu.wrap (qu.wrap (0-y37.1) * 65536),qu.wrap (y38.1 * 32768)))
   else(azp l m 5).o.bind λy39=>(azp y39.2.1 y39.2.2 4).o.bind λy40=>(azp y40.2.1 y40.2.2 3).o.bind λy41=>
    some (.out (y41.2.1,y41.2.2,qu.wrap ((qu.wrap (qu.wrap (0-y39.1) * 65536)).tdiv 8),qu.wrap (qu.wrap ((qu.wrap (qu.wrap (1+y40.1) * 65536)).tdiv 8)+y41.1))):Option (Step3 Unit (List Int×Int×Int×Int) (bz1×List Int×Int))) λy35=>
   some ((⟨nm,K,pr,(o1,o2,o3),y35.2.2.1,y35.2.2.2,qu.wrap (1+r1),65536,qu.wrap (65536+r2),327680⟩:bz1),y35.1,y35.2.1))=some (j,l,n')/\JB j/\0<=n'/\n'<=(l.length:Int):=by
   intro m o1 o2 o3 m0 m1;cases K==0
   ·simp only[qd,bzd,az9];cases (bif K==4 then K==4 else K==5)
    ·obtain⟨s1,n1,e1,a1,b1,c1,d1⟩:=azt hl m0 m1 (k:=5) (by decide) (by decide);obtain⟨s2,n2,e2,a2,b2,c2,d2⟩:=azt hl c1 d1 (k:=4) (by decide) (by decide);obtain⟨s3,n3,e3,a3,b3,c3,d3⟩:=azt hl c2 d2 (k:=3) (by decide) (by decide);simp only[qd];rw[e1,qL,e2,qL,e3,qL,az9];refine⟨_,_,rfl,?_,c3,d3⟩;simp only[JB]
     rw[w64 (x:=0-s1) qa qa,w64 (x:=(0-s1) * 65536) qa qa,w64 (x:=1+s2) qa qa,w64 (x:=(1+s2) * 65536) qa qa,gzc (a:=(1+s2) * 65536) qa,
      show(0-s1) * 65536= -(s1 * 65536) from qa,Gzj,gzc qa,w64 (x:= -(s1 * 65536 / 8)) qa qa,w64 (x:=(1+s2) * 65536 / 8) qa qa,w64 (x:=(1+s2) * 65536 / 8+s3) qa qa]
     omega
    ·obtain⟨s1,n1,e1,a1,b1,c1,d1⟩:=azt hl m0 m1 (k:=3) (by decide) (by decide);obtain⟨s2,n2,e2,a2,b2,c2,d2⟩:=azt hl c1 d1 (k:=4) (by decide) (by decide);simp only[qe];rw[e1,qL,e2,qL,az9];refine⟨_,_,rfl,?_,c2,d2⟩;simp only[JB];rw[w64 (x:=0-s1) qa qa,w64 (x:=(0-s1) * 65536) qa qa,w64 (x:=s2 * 32768) qa qa];omega
   ·exact⟨_,_,rfl,by simp only[JB];omega,m0,m1⟩
  cases qw (i>0)
  ·simp only[qd,az9];exact lim m 0 0 0 m0 m1
  ·obtain⟨s1,n1,e1,a1,b1,c1,d1⟩:=cz9 hl m0 m1 (k:=2) (by decide) (by decide);obtain⟨s2,n2,e2,a2,b2,c2,d2⟩:=cz9 hl c1 d1 (k:=1) (by decide) (by decide);simp only[qe];rw[e1,qL,e2,qL,az9];exact lim n2 _ _ _ c2 d2
 cases r4==1
 ·exact rest n4 _ c4 d4
 ·exact rest n4 _ c4 d4
theorem Tzc:∃b:azn×List Int×Int,(izb l n).o=some b/\b.2.1=l/\(1<=b.1.Xa.length/\b.1.Xa.length<=3/\∀j∈b.1.Xa,JB j)/\0<=b.2.2/\b.2.2<=(l.length:Int):=by
 have e0:(izb l n).o=(nzt l n).run NN:=rfl;rw[e0];simp only[nzt,qk];obtain⟨r1,n1,e1,a1,b1,c1,d1⟩:=azt hl h0 h1 (k:=3) (by decide) (by decide);rw[e1,qL];simp only;rw[w64 (x:=1+r1) qa qa];obtain⟨R,hR⟩:∃R:Nat,1+r1=(R:Int):=⟨(1+r1).toNat,qa⟩;rw[hR]
 refine nz8 (g:=λb=>b) R qa (λj (y:List Int×Int×List bz1×Int)=>y.1=l/\0<=y.2.1/\y.2.1<=(l.length:Int)/\y.2.2.1.length=j/\(∀x∈y.2.2.1,JB x)/\y.2.2.2=(j:Int))
  (λ(z:List Int×Int×List bz1)=>z.1=l/\0<=z.2.1/\z.2.1<=(l.length:Int)/\z.2.2.length=R/\∀x∈z.2.2,JB x) ⟨rfl,c1,d1,rfl,by simp[nl],rfl⟩ (λj y hj hy=>?_) (λy hy=>?_) (λz hz=>?_)
 ·obtain⟨f1,f2,f3,f4,f5,f6⟩:=hy;obtain⟨jt,n',ej,hj1,hj2,hj3⟩:=Tz9 hl f2 f3 (i:=(j:Int)) qa qa;rw[f6,f1,az8 qa,ej,qL];simp only;rw[aza ⟨by simp;omega,by simp[azc];omega⟩,wn qa];refine⟨_,rfl,rfl,hj2,hj3,by simp;omega,λx hx=>?_,rfl⟩;rcases xh.1 hx with hx|hx
  ·exact f5 x hx
  ·rw[List.mem_singleton.1 hx];exact hj1
 ·obtain⟨f1,f2,f3,f4,f5,f6⟩:=hy;rw[f6,az7 qa];exact⟨_,rfl,f1,f2,f3,f4,f5⟩
 ·obtain⟨f1,f2,f3,f4,f5⟩:=hz;obtain⟨r2,n2,e2,a2,b2,c2,d2⟩:=azt hl f2 f3 (k:=3) (by decide) (by decide);rw[f1,e2,qL];simp only;obtain⟨M,hM⟩:∃M:Nat,r2=(M:Int):=⟨r2.toNat,qa⟩;rw[hM]
  refine nz8 (g:=λb=>b) M qa (λj (y:List Int×Int×List czj×Int)=>y.1=l/\0<=y.2.1/\y.2.1<=(l.length:Int)/\y.2.2.1.length=j/\y.2.2.2=(M:Int)- (j:Int))
   (λ(w:List Int×Int×List czj)=>w.1=l/\0<=w.2.1/\w.2.1<=(l.length:Int)) ⟨rfl,c2,d2,rfl,by simp⟩ (λj y hj hy=>?_) (λy hy=>?_) (λw hw=>?_)
  ·obtain⟨g1,g2,g3,g4,g5⟩:=hy;obtain⟨s1,m1,q1,u1,v1,w1,x1⟩:=azt hl g2 g3 (k:=(R:Int)) qa qa;obtain⟨s2,m2,q2,u2,v2,w2,x2⟩:=azt hl w1 x1 (k:=9000) (by decide) (by decide);obtain⟨s3,m3,q3,u3,v3,w3,x3⟩:=cz9 hl w2 x2 (k:=3) (by decide) (by decide);obtain⟨s4,m4,q4,u4,v4,w4,x4⟩:=cz9 hl w3 x3 (k:=2) (by decide) (by decide);rw[g5,g1,az8 qa,q1,qL,q2,qL,q3,qL,q4,qL];simp only;rw[aza ⟨by simp;omega,by simp[azc];omega⟩,w64 (x:=(M:Int)- (j:Int)-1) qa qa];exact⟨_,rfl,rfl,w4,x4,by simp;omega,by simp only;omega⟩
  ·obtain⟨g1,g2,g3,g4,g5⟩:=hy;rw[g5,az7 qa];exact⟨_,rfl,g1,g2,g3⟩
  ·exact⟨_,rfl,hw.1,⟨by simp only;omega,by simp only;omega,f5⟩,hw.2.1,hw.2.2⟩
theorem Tzb:∃r n',(izb l n).o=some (r,l,n')/\(1<=r.Xa.length/\r.Xa.length<=3/\∀j∈r.Xa,JB j)/\0<=n'/\n'<=(l.length:Int):=by
 obtain⟨⟨r,l',n'⟩,g1,g2,g3,g4,g5⟩:=Tzc hl h0 h1;simp only at g2;subst g2;exact⟨r,n',g1,g3,g4,g5⟩
end
def PB (n:Nat)(l:List az6):Prop:=l.length<=n/\∀x∈l,x.Xf.length<=1048576
def tW (w:List Int):Nat->Int
 |0=>0
 |j+1=>qu.wrap (tW w j+w.getD j qv)
def cW (w:List Int)(g:Nat->Int):Nat->Int
 |0=>0
 |j+1=>qu.wrap (cW w g j+qu.wrap (w.getD j qv * g j))
def cV (l:List IV3)(w:List Int)(j:Nat):IV3:=
 (⟨cW w (λi=>(l.getD i qv).1.Lo) j,cW w (λi=>(l.getD i qv).1.Hi) j⟩,⟨cW w (λi=>(l.getD i qv).2.1.Lo) j,cW w (λi=>(l.getD i qv).2.1.Hi) j⟩,⟨cW w (λi=>(l.getD i qv).2.2.Lo) j,cW w (λi=>(l.getD i qv).2.2.Hi) j⟩)
def badW (w:List Int)(j:Nat):Bool:=qw (w.getD j qv<0)||qw (w.getD j qv>65536)
def zc:IV3×Int×Bool:=((⟨0,0⟩,⟨0,0⟩,⟨0,0⟩),0,false)
def okC (l:List IV3)(w:List Int):Prop:=cz1 l=true/\w.length=l.length/\czg (badW w) w.length=true/\1<=tW w w.length/\tW w w.length<=65536
instance (l:List IV3)(w:List Int):Decidable (okC l w):=by unfold okC;infer_instance
def jz8 (l:List IV3)(w:List Int):IV3×Int×Bool:=if okC l w then(cV l w w.length,tW w w.length,true)else zc
theorem badW_iff {w:List Int}{n:Nat}:czg (badW w) n=true↔∀j,j<n->0<=w.getD j qv/\w.getD j qv<=65536:=by
 rw[noneB_iff];refine forall_congr' λj=>imp_congr Iff.rfl ?_
 simp only[badW,qp,qi];omega
theorem az9x {w:List Int}{n:Nat}(h:∀j,j<n->0<=w.getD j qv/\w.getD j qv<=65536)(hn:n<=8):∀j,j<=n->0<=tW w j/\tW w j<=65536 * (j:Int)/\∀i,i<=j->tW w i<=tW w j
 |0,_=>⟨by simp[tW],by simp[tW],λi hi=>by obtain rfl:i=0:=qa
                                          exact xi _⟩
 |j+1,hj=>by
  obtain⟨h1,h2,h3⟩:=az9x h hn j qa;obtain⟨q1,q2⟩:=h j qa;have e:tW w (j+1)=tW w j+w.getD j qv:=by simp only[tW];exact w64 qa qa
  refine⟨qa,qa,λi hi=>?_⟩;by_cases e1:i=j+1
  ·rw[e1];omega
  ·have:=h3 i qa;omega
theorem Tzl {l:List IV3}{w:List Int}(hp:cz1 l=false):¬okC l w:=λh=>by obtain⟨h1,_⟩:=h;rw[hp]at h1;cases h1
theorem Mzm (l:List IV3)(w:List Int):(rz8 l w).o=some (jz8 l w):=by
 show(rz9 l w).run NN=_;simp only[rz9,qk,T.ix,ezo,qL,bzd,az9,jz8];cases hp:cz1 l
 ·rw[qb (Tzl hp)];rfl
 ·have hl8:=ezy hp;simp only[qO,qd];by_cases hl:w.length=l.length
  ·rw[bza qa];refine(jzc (λj=>((cV l w j).1.Lo,(cV l w j).1.Hi,(cV l w j).2.1.Lo,(cV l w j).2.1.Hi,(cV l w j).2.2.Lo,(cV l w j).2.2.Hi,tW w j,(j:Int))) (λj=>sw (badW w j) zc) ((cV l w w.length).1.Lo,(cV l w w.length).1.Hi,(cV l w w.length).2.1.Lo,(cV l w w.length).2.1.Hi,(cV l w w.length).2.2.Lo,(cV l w w.length).2.2.Hi,tW w w.length) w.length rfl (show w.length<4294967296 from qa) (λj hj=>?_) ?_).trans ?_
   ·dsimp only;rw[az8 qa,aza ⟨qa,qa⟩,qG,ezd,show(qw (w.getD j qv<0)||qw (w.getD j qv>65536))=badW w j from rfl];cases badW w j
    ·rw[qd,aza ⟨qa,qa⟩,wn qa];rfl
    ·rfl
   ·dsimp only;rw[az7 qa]
   ·rw[dzd];cases hb:czg (badW w) w.length
    ·rw[qb (λh=>by obtain⟨_,_,h3,_⟩:=h;rw[hb]at h3;cases h3)];rfl
    ·simp only[sw,qO,qd,ezd];by_cases h1:tW w w.length<1
     ·rw[qb (λh=>by obtain⟨_,_,_,h4,_⟩:=h;omega),qg h1];rfl
     ·by_cases h2:tW w w.length>65536
      ·rw[qb (λh=>by obtain⟨_,_,_,_,h5⟩:=h;omega),qh h1,qg h2];rfl
      ·rw[qc (show okC l w from⟨hp,hl,hb,qa,qa⟩),qh h1,qh h2];rfl
  ·rw[bzn qa,qb (λh=>by obtain⟨_,h2,_⟩:=h;exact hl h2)];rfl
def badR (w:List Int)(j:Nat):Bool:=qw (w.getD j qv<0)||qw (w.getD j qv>qu.wrap (65536-tW w j))
theorem az44 {w:List Int}{n:Nat}(hn:n<=8):czg (badR w) n=true↔czg (badW w) n=true/\tW w n<=65536:=by
 rw[badW_iff];constructor
 ·intro h;rw[noneB_iff]at h;have key:∀j,j<=n->0<=tW w j/\tW w j<=65536:=by
   intro j;induction j with
   |zero=>intro _;simp[tW]
   |succ j ih=>
    intro hj;obtain⟨h1,h2⟩:=ih qa;have:=h j qa;simp only[badR,qp,qi]at this;rw[w64 (x:=65536-tW w j) qa qa]at this;have e:tW w (j+1)=tW w j+w.getD j qv:=by simp only[tW];exact w64 qa qa
    omega
  refine⟨λj hj=>?_,(key n (wz _)).2⟩;have h0:=key j qa;have:=h j hj;simp only[badR,qp,qi]at this;rw[w64 (x:=65536-tW w j) qa qa]at this;omega
 ·rintro⟨h,ht⟩;rw[noneB_iff];intro j hj;have h1:=az9x h hn n (wz _);have h0:=az9x h hn j qa;have h2:=h1.2.2 (j+1) qa;have e:tW w (j+1)=tW w j+w.getD j qv:=by simp only[tW];have:=h j hj;exact w64 qa qa
  have:=h j hj;simp only[badR,qp,qi];rw[w64 (x:=65536-tW w j) qa qa];omega
theorem zzv (l:List IV3)(w:List Int):(qzl l w).o=some (jz8 l w):=by
 show(qzm l w).run NN=_;simp only[qzm,qk,T.ix,hzo,qL,bzd,az9,jz8];cases hp:cz1 l
 ·rw[qb (Tzl hp)];rfl
 ·have hl8:=ezy hp;simp only[qO,qd];by_cases hl:w.length=l.length
  ·rw[bza qa];refine(jzc (λj=>(tW w j,(j:Int))) (λj=>sw (badR w j) zc) (tW w w.length) w.length rfl (show w.length<4294967296 from qa) (λj hj=>?_) ?_).trans ?_
   ·dsimp only;rw[az8 qa,aza ⟨qa,qa⟩,aza ⟨qa,qa⟩,aza ⟨qa,qa⟩,bzd,az9,qG,ezd,show(qw (w.getD j qv<0)||qw (w.getD j qv>qu.wrap (65536-tW w j)))=badR w j from rfl,wn qa];cases badR w j<;>rfl
   ·dsimp only;rw[az7 qa]
   ·rw[dzd];have hiff:=az44 (w:=w) (n:=w.length) qa;cases hb:czg (badR w) w.length
    ·rw[qb (λh=>by obtain⟨_,_,h3,_,h5⟩:=h;rw[hiff.2 ⟨h3,h5⟩]at hb;cases hb)];rfl
    ·obtain⟨hb1,hb2⟩:=hiff.1 hb;simp only[sw,qO,qd];by_cases h1:tW w w.length<1
     ·rw[qb (λh=>by obtain⟨_,_,_,h4,_⟩:=h;omega),az8 h1];rfl
     ·rw[qc (show okC l w from⟨hp,hl,hb1,qa,qa⟩),az7 h1];refine(bzv (λj=>((cV l w j).1.Lo,(cV l w j).1.Hi,(cV l w j).2.1.Lo,(cV l w j).2.1.Hi,(cV l w j).2.2.Lo,(cV l w j).2.2.Hi,(j:Int))) ((cV l w w.length).1.Lo,(cV l w w.length).1.Hi,(cV l w w.length).2.1.Lo,(cV l w w.length).2.1.Hi,(cV l w w.length).2.2.Lo,(cV l w w.length).2.2.Hi) w.length rfl (show w.length<4294967296 from qa) (λj hj=>?_) ?_).trans rfl
      ·dsimp only;rw[az8 qa];simp only[aza (show 0<=(j:Int)/\(j:Int)<(w.length:Int) from qa),aza (show 0<=(j:Int)/\(j:Int)<(l.length:Int) from qa),qG];rw[wn qa];rfl
      ·dsimp only;rw[az7 qa]
  ·rw[bzn qa,qb (λh=>by obtain⟨_,h2,_⟩:=h;exact hl h2)];rfl
theorem azcn {a b:Int}(ha:0<=a/\a<=65536)(hb: -268435456<=b/\b<=268435456): -17592186044416<=a * b/\a * b<=17592186044416:=by
 have h:(a * b).natAbs<=65536 * 268435456:=by rw[Int.natAbs_mul];exact Nat.mul_le_mul qa qa
 omega
theorem azae {w:List Int}{g:Nat->Int}{n:Nat}(h:∀j,j<n->0<=w.getD j qv/\w.getD j qv<=65536)(hg:∀j,j<n-> -268435456<=g j/\g j<=268435456)(hn:n<=8):∀j,j<=n-> -17592186044416 * (j:Int)<=cW w g j/\cW w g j<=17592186044416 * (j:Int)
 |0,_=>by simp[cW]
 |j+1,hj=>by
  obtain⟨h1,h2⟩:=azae h hg hn j qa;have hm:=azcn (h j qa) (hg j qa);simp only[cW];rw[w64 (x:=w.getD j qv * g j) qa qa,w64 qa qa];omega
def sm (x:Int):Prop:= -140737488355328<=x/\x<=140737488355328
def smV (v:IV3):Prop:=(sm v.1.Lo/\sm v.1.Hi)/\(sm v.2.1.Lo/\sm v.2.1.Hi)/\sm v.2.2.Lo/\sm v.2.2.Hi
theorem Pzf {l:List IV3}{w:List Int}(h:(jz8 l w).2.2=true):1<=(jz8 l w).2.1/\(jz8 l w).2.1<=65536/\smV (jz8 l w).1:=by
 unfold jz8 at h⊢;by_cases hk:okC l w
 ·rw[qc hk];obtain⟨h1,h2,h3,h4,h5⟩:=hk;have h8:=ezy h1;have hb:=badW_iff.1 h3;have hr:∀j,j<w.length->izr (l.getD j qv)=true:=λj hj=>uzz h1 qa
  have key:∀g:IV3->Int,(∀v:IV3,izr v=true-> -268435456<=g v/\g v<=268435456)->sm (cW w (λi=>g (l.getD i qv)) w.length):=λg hg=>by
   have:=azae hb (g:=λi=>g (l.getD i qv)) (λj hj=>hg _ (hr j hj)) qa w.length (wz _);unfold sm;omega
  have rr:∀v:IV3,izr v=true->(-268435456<=v.1.Lo/\v.1.Lo<=v.1.Hi/\v.1.Hi<=268435456)/\(-268435456<=v.2.1.Lo/\v.2.1.Lo<=v.2.1.Hi/\v.2.1.Hi<=268435456)/\(-268435456<=v.2.2.Lo/\v.2.2.Lo<=v.2.2.Hi/\v.2.2.Hi<=268435456):=λv hv=>by
   simp only[izr,qm,az33]at hv;exact hv
  exact⟨h4,h5,⟨key (λv=>v.1.Lo) (λv hv=>by have:=rr v hv;omega),key (λv=>v.1.Hi) (λv hv=>by have:=rr v hv;omega)⟩,⟨key (λv=>v.2.1.Lo) (λv hv=>by have:=rr v hv;omega),key (λv=>v.2.1.Hi) (λv hv=>by have:=rr v hv;omega)⟩,key (λv=>v.2.2.Lo) (λv hv=>by have:=rr v hv;omega),key (λv=>v.2.2.Hi) (λv hv=>by have:=rr v hv;omega)⟩
 ·rw[qb hk]at h;cases h
def mxV (p q:Int):Int:=max (max (qu.wrap p) (qu.wrap (0-qu.wrap p))) (max (qu.wrap q) (qu.wrap (0-qu.wrap q)))
theorem Gzz {p q:Int}(hp: -281474976710656<=p/\p<=281474976710656)(hq: -281474976710656<=q/\q<=281474976710656):(iz1 [qu.wrap p,qu.wrap q]).o=some (mxV p q):=by
 show(lz0 [qu.wrap p,qu.wrap q]).run NN=_;simp only[lz0,qk];refine(bzv (λj=>((match j with|0=>0|1=>max (max 0 (qu.wrap p)) (qu.wrap (0-qu.wrap p))|_=>max (max (max (max 0 (qu.wrap p)) (qu.wrap (0-qu.wrap p))) (qu.wrap q)) (qu.wrap (0-qu.wrap q)):Int),(j:Int))) (max (max (max (max 0 (qu.wrap p)) (qu.wrap (0-qu.wrap p))) (qu.wrap q)) (qu.wrap (0-qu.wrap q))) 2 rfl (by decide) (λj hj=>?_) ?_).trans ?_
 ·rw[az8 (by simp;omega),aza ⟨by simp,by simp;omega⟩,wn qa]
  match j,hj with
  |0,_=>rfl
  |1,_=>rfl
 ·rw[az7 (by simp)];rfl
 ·simp only[Option.some.injEq,mxV];rw[w64 (x:=p) qa qa,w64 (x:=q) qa qa,w64 (x:=0-p) qa qa,w64 (x:=0-q) qa qa];omega
theorem az29 {p q t:Int}(hp: -281474976710656<=p/\p<=281474976710656)(hq: -281474976710656<=q/\q<=281474976710656)(ht:1<=t/\t<=65536):
 qu.wrap ((qu.wrap (qu.wrap (mxV p q+t)-1)).tdiv t)=cdiv (mxV p q) t:=by
 have hm:0<=mxV p q/\mxV p q<=281474976710656:=by
  unfold mxV;rw[w64 (x:=p) qa qa,w64 (x:=q) qa qa,w64 (x:=0-p) qa qa,w64 (x:=0-q) qa qa];omega
 generalize mxV p q=H at hm;rw[w64 (x:=H+t) qa qa,w64 (x:=H+t-1) qa qa,gzc qa];have e:(H+t-1) / t=cdiv H t:=by
  symm
  rw[Ezc qa];have h1:=Kzo (a:=H+t-1) (b:=t) qa;have h2:=Sz9 (a:=H+t-1) (b:=t) qa;omega
 rw[e];have:=Pzb (a:=H) (b:=t) qa;by_cases h0:0<H
 ·exact w64 qa qa
 ·exact w64 qa qa
theorem Wz2 (a:Int):(lz1 a).o=some (radV a):=by
 show(lz2 a).run NN=_;have h:=jzn a;rw[show(fzg a).o=(jzm a).run NN from rfl]at h;rw[<-h];simp only[lz2,jzm,qk]
theorem az0z (u v:List Int)(a:List IV3)(ra:Int)(b:List IV3)(rb:Int):(yz1 u v a ra b rb).o=(nzf u v a ra b rb).o:=by
 show(ozo u v a ra b rb).run NN=(jzk u v a ra b rb).run NN;simp only[ozo,jzk,qk,T.ix,Mzm,zzv,Wz2,jzn,qL,bzd,az9,Izt];cases h1:(jz8 a u).2.2
 ·rfl
 ·cases h2:(jz8 b v).2.2
  ·rfl
  ·obtain⟨t1,t2,q1,q2,q3⟩:=Pzf h1;obtain⟨_,_,r1,r2,r3⟩:=Pzf h2;unfold sm at q1 q2 q3 r1 r2 r3;simp only[qO,qd];cases (bif (jz8 a u).2.1 !=(jz8 b v).2.1 then true else bif !radV ra then true else !radV rb)
   ·simp only[qd,aza (show(jz8 a u).2.1≠0 from qa)]
    have hc:∀p q:Int,(bz7 (max (max (qu.wrap p) (qu.wrap (0-qu.wrap p))) (max (qu.wrap q) (qu.wrap (0-qu.wrap q)))) (jz8 a u).2.1).o=some (cdiv (mxV p q) (jz8 a u).2.1):=
     λp q=>cz7 (((InR.wr _).max (InR.wr _)).max ((InR.wr _).max (InR.wr _))) qa
    simp only[hc,qL]
    rw[Gzz (p:=(jz8 a u).1.1.Lo- (jz8 b v).1.1.Hi) (q:=(jz8 a u).1.1.Hi- (jz8 b v).1.1.Lo) qa qa,qL,az29 qa qa ⟨t1,t2⟩,
     Gzz (p:=(jz8 a u).1.2.1.Lo- (jz8 b v).1.2.1.Hi) (q:=(jz8 a u).1.2.1.Hi- (jz8 b v).1.2.1.Lo) qa qa,qL,az29 qa qa ⟨t1,t2⟩,
     Gzz (p:=(jz8 a u).1.2.2.Lo- (jz8 b v).1.2.2.Hi) (q:=(jz8 a u).1.2.2.Hi- (jz8 b v).1.2.2.Lo) qa qa,qL,az29 qa qa ⟨t1,t2⟩]
   ·rfl
theorem Wz3 (u v:List Int)(a:List IV3)(ra:Int)(b:List IV3)(rb:Int):(kzy u v a ra b rb).o=(fzv u v a ra b rb).o:=by
 show(kzz u v a ra b rb).run NN=(hzd u v a ra b rb).run NN;simp only[kzz,hzd,qk,az0z]
theorem Jzm (u v:List Int)(a:List IV3)(ra:Int)(b:List IV3)(rb:Int):∃y:Bool,(fzv u v a ra b rb).o=some y:=by
 have ex:∃y:Int×Bool,(nzf u v a ra b rb).o=some y:=by
  have e0:(nzf u v a ra b rb).o=(jzk u v a ra b rb).run NN:=rfl;rw[e0];have hx:(jz8 a u).2.2=true->1<=(jz8 a u).2.1:=λh=>(Pzf h).1
  generalize hX:jz8 a u=x at hx;simp only[jzk,qk,T.ix,zzv,hX,jzn,qL,bzd,az9];generalize jz8 b v=y;cases hx2:x.2.2
  ·exact⟨_,rfl⟩
  ·have hx1:=hx hx2;cases (bif !true then true else bif !y.2.2 then true else bif x.2.1 !=y.2.1 then true else bif !radV ra then true else !radV rb)
   ·have hc:∀p q:Int,(bz7 (max (max (qu.wrap p) (qu.wrap (0-qu.wrap p))) (max (qu.wrap q) (qu.wrap (0-qu.wrap q)))) x.2.1).o=some (cdiv (max (max (qu.wrap p) (qu.wrap (0-qu.wrap p))) (max (qu.wrap q) (qu.wrap (0-qu.wrap q)))) x.2.1):=
     λp q=>cz7 (((InR.wr _).max (InR.wr _)).max ((InR.wr _).max (InR.wr _))) qa
    simp only[qd,Izt,qL,hc];generalize cdiv _ _=c1;cases qw (c1>qu.wrap (ra+rb))
    ·simp only[qd];generalize cdiv _ _=c2;cases qw (c2>qu.wrap (ra+rb))
     ·simp only[qd];generalize cdiv _ _=c3;cases qw (c3>qu.wrap (ra+rb))<;>exact⟨_,rfl⟩
     ·exact⟨_,rfl⟩
    ·exact⟨_,rfl⟩
   ·exact⟨_,rfl⟩
 obtain⟨y,ey⟩:=ex;have e0:(fzv u v a ra b rb).o=(hzd u v a ra b rb).run NN:=rfl;rw[e0];simp only[hzd,qk];rw[ey,qL];cases y.2<;>exact⟨_,rfl⟩
def ovV (u v:List Int)(a:List IV3)(ra:Int)(b:List IV3)(rb:Int):Bool:=(fzv u v a ra b rb).o.getD false
theorem yz5 (u v:List Int)(a:List IV3)(ra:Int)(b:List IV3)(rb:Int):(fzv u v a ra b rb).o=some (ovV u v a ra b rb):=by
 obtain⟨y,hy⟩:=Jzm u v a ra b rb;rw[ovV,hy];rfl
theorem Fz3 (u v:List Int)(a:List IV3)(ra:Int)(b:List IV3)(rb:Int):(kzy u v a ra b rb).o=some (ovV u v a ra b rb):=by
 rw[Wz3];exact yz5 u v a ra b rb
def az0o (s:azd)(b:List az0)(w:bze):Bool:=
 if(czd s=0/\boxV s.Xe b=true)/\0<=w.XC/\w.XC<((bzy s).length:Int)then
  ovV w.Left w.Xx (bzo s b (pA s w.XC.toNat)) (hzc s (pA s w.XC.toNat)) (bzo s b (pB s w.XC.toNat)) (hzc s (pB s w.XC.toNat))else false
theorem Pz6 {s:azd}{b:List az0}(h:czd s=0/\boxV s.Xe b=true){j:Nat}(hj:j<(bzy s).length):
 (pzb ⟨s.Xc,bzy s,mzf s b⟩ (j:Int)).o=some ⟨bzo s b (pA s j),bzo s b (pB s j),hzc s (pA s j),hzc s (pB s j)⟩:=by
 have hp:=Qzq h.1 hj;show(kzc ⟨s.Xc,bzy s,mzf s b⟩ (j:Int)).run NN=_;simp only[kzc,qk,qG,Dzl h.1 h.2,cz8];rw[aza ⟨qa,qa⟩,aza hp.1,aza hp.1,aza hp.2,aza hp.2,hzx qa,hzx qa];rfl
section
variable (s:azd) (p q:List Int) (hp:p.length<4294967296) (hq:q.length<4294967296)
include hp hq
omit hp hq in
theorem bl {α:Type}(l:List α):(((l.length:Nat):Int)==0)=qw (l.length=0):=by by_cases h:l.length=0<;>simp[h]
end
open Go.Proofs
theorem Cz6 (a:az0):(jzb a).o=some (bif vV a then qu.wrap (a.Lo+a.Hi) / 2 else 0):=by
 show(tz4 a).run NN=_;simp only[tz4,qk,dz4,qL];cases vV a with
 |false=>rfl
 |true=>
  have:=izl (qu.wrap (a.Lo+a.Hi)) 1 qa;rw[show((1:Nat):Int)=1 from rfl]at this;simp[this]
theorem Azy (l:List IV3):∃r,(dzl l).o=some r/\(cz1 l=true->r.length=l.length):=by
 show ∃r,(izg l).run NN=some r/\_;simp only[izg,qk,T.ix,ezo,qL,Cz6];cases hp:cz1 l with
 |false=>exact⟨nl,rfl,λh=>by cases h⟩
 |true=>
  have hl:=ezy hp;rw[ezp (by rfl),aza qa];refine dzz (λm (x:List V3×Int)=>x.1.length=l.length/\∃j:Nat,x.2=(j:Int)/\j+m=l.length) (λy:List V3=>y.length=l.length) l.length ⟨by simp,0,rfl,qa⟩ qa ?_ λy hy=>⟨y,rfl,λ_=>hy⟩
  rintro m ⟨x,i⟩ ⟨hx,j,rfl,hm⟩;simp only at hx⊢;cases m with
  |zero=>exact .inr (.inl ⟨x,by rw[az7 qa],hx⟩)
  |succ m=>
   refine .inl ⟨?w,m,?e,xj m,?i⟩
   case e=>rw[az8 qa,aza qa,aza qa,aza (by simp;omega),aza (by simp;omega),aza (by simp;omega),aza (by simp;omega),aza (by simp;omega)]
   case i=>exact⟨by simp[hx],j+1,by simp only[wn (show j<4294967296 from qa)],qa⟩
theorem Fz1 (l:List V3)(hl:l.length<4294967296):∃r,(pzh l).o=some r:=by
 show ∃r,(kzx l).run NN=some r;simp only[kzx,qk,T.ix];suffices h:∃r,_=some r/\True from h.imp λ_ h=>h.1
 refine dzz (λm (x:Int×Int×Int×Int)=>∃j:Nat,x.2.2.2=(j:Int)/\j+m=l.length) (λ_=>True) l.length ⟨0,rfl,qa⟩ hl ?_ λy _=>⟨_,rfl,trivial⟩
 rintro m ⟨a,b,c,i⟩ ⟨j,hj,hm⟩;simp only at hj⊢;subst hj;cases m with
 |zero=>exact .inr (.inl ⟨_,by rw[az7 qa],trivial⟩)
 |succ m=>
  refine .inl ⟨?w,m,?e,xj m,?i⟩
  case e=>rw[az8 qa,aza qa]
  case i=>exact⟨j+1,by simp only[wn (show j<4294967296 from qa)],qa⟩
theorem Qzl {x:Int}{m:Nat}(h:x.natAbs<2 ^ (m+1)):(x.tdiv 2).natAbs<2 ^ m:=by
 have e:(x.tdiv 2).natAbs=x.natAbs / 2:=by
  rcases Int.le_total 0 x with hx|hx
  ·rw[xk hx];omega
  ·have:x= -(-x):=qa
   rw[this,Int.neg_tdiv,xk qa];omega
 rw[e];rw[Nat.pow_succ]at h;omega
theorem pz0 {v:V3}(h1:InR v.1)(h2:InR v.2.1)(h3:InR v.2.2):∃r,(jzv v).o=some r/\(r.2=true->bzw r.1=true):=by
 show ∃r,(hzi v).run NN=some r/\_;simp only[hzi,qk,T.ix,izw,qL];have lt64:∀ {x:Int},InR x->x.natAbs<2 ^ 64:=λ{x} h=>by have:=h.1;have:=h.2;omega
 refine dzz (λm (x:Int×Int×Int)=>(InR x.1/\InR x.2.1/\InR x.2.2)/\x.1.natAbs<2 ^ m/\x.2.1.natAbs<2 ^ m/\x.2.2.natAbs<2 ^ m) (λy:Int×Int×Int=>hzq y 16384=true) 64 ⟨⟨h1,h2,h3⟩,lt64 h1,lt64 h2,lt64 h3⟩ qa ?_ λy hy=>⟨_,rfl,λhr=>?_⟩
 ·rintro m ⟨a,b,c⟩ ⟨⟨r1,r2,r3⟩,b1,b2,b3⟩;simp only at r1 r2 r3 b1 b2 b3⊢;cases hn:hzq (a,b,c) 16384 with
  |true=>exact .inr (.inl ⟨_,rfl,hn⟩)
  |false=>
   cases m with
   |zero=>
    exfalso
    have:hzq (a,b,c) 16384=true:=nearV_iff.2 (by simp only;omega);rw[hn]at this;cases this
   |succ m=>
    refine .inl ⟨_,m,rfl,xj m,?_⟩;have q1:=r1.tdiv (b:=2) qa;have q2:=r2.tdiv (b:=2) qa;have q3:=r3.tdiv (b:=2) qa;simp only[q1.w,q2.w,q3.w];exact⟨⟨q1,q2,q3⟩,Qzl b1,Qzl b2,Qzl b3⟩
 ·simp only at hr⊢;simp only[bzw,hr,qR];exact hy
theorem Nzg (a b:List IV3):∃r,(nzb a b).o=some r:=by
 show ∃r,(jze a b).run NN=some r;simp only[jze,qk,T.ix,ezo,qL];cases ha:cz1 a with
 |false=>exact⟨_,rfl⟩
 |true=>
  cases hb:cz1 b with
  |false=>exact⟨_,rfl⟩
  |true=>
   obtain⟨ca,e1,q1⟩:=Azy a;obtain⟨cb,e2,q2⟩:=Azy b;have:=ezy ha;have:=ezy hb;obtain⟨sa,e3⟩:=Fz1 ca (by rw[q1 ha];omega);obtain⟨sb,e4⟩:=Fz1 cb (by rw[q2 hb];omega);obtain⟨r,e5,_⟩:=pz0 (v:=(qu.wrap (qu.wrap (sa.1 * (b.length:Int))-qu.wrap (sb.1 * (a.length:Int))),qu.wrap (qu.wrap (sa.2.1 * (b.length:Int))-qu.wrap (sb.2.1 * (a.length:Int))),qu.wrap (qu.wrap (sa.2.2 * (b.length:Int))-qu.wrap (sb.2.2 * (a.length:Int))))) (InR.wr _) (InR.wr _) (InR.wr _);refine⟨(r.1,r.2),?_⟩;simp only[e1,e2,e3,e4,e5,qL,qO,bzd,az9,qd]
theorem xzz (l:List V3):∃r,(jzt l).o=some r/\(r=true->1<=l.length/\l.length<=8):=by
 show ∃r,(hzb l).run NN=some r/\_;simp only[hzb,qk,bzd,az9,ezd];by_cases h:1<=l.length/\l.length<=8
 ·rw[qh (p:=(l.length:Int)<1) qa,qh (p:=(l.length:Int)>8) qa];rw[ezp (by rfl)];refine dzz (λm (x:Int)=>∃j:Nat,x=(j:Int)/\j+m=l.length) (λ_=>True) l.length ⟨0,rfl,qa⟩ qa ?_ λy _=>⟨_,rfl,λ_=>h⟩
  rintro m _ ⟨j,rfl,hm⟩;cases m with
  |zero=>exact .inr (.inl ⟨_,by rw[az7 qa],trivial⟩)
  |succ m=>
   rw[az8 qa,aza qa];generalize hbd:andK _ _=bd;have inner:∃r,bd=some r/\(r=.next ((j+1:Nat):Int)\/r=.fin false):=by
    rw[<-hbd];refine dzz (λm (x:Int)=>∃i:Nat,x=(i:Int)/\i+m=3) (λ_=>True) 3 ⟨0,rfl,rfl⟩ qa ?_ λy _=>⟨_,rfl,.inl (by rw[wn qa])⟩
    rintro m _ ⟨i,rfl,hm⟩;cases m with
    |zero=>exact .inr (.inl ⟨_,by rw[az7 qa],trivial⟩)
    |succ m=>
     rw[az8 qa,aza qa];generalize List.getD [_,_,_] _ _=z;generalize (qw (z< -268435456)||qw (z>268435456))=b;cases b with
     |true=>exact .inr (.inr ⟨_,rfl,.inr rfl⟩)
     |false=>exact .inl ⟨_,m,rfl,xj m,i+1,wn qa,qa⟩
   obtain⟨r,e,hr⟩:=inner;rcases hr with rfl|rfl
   ·exact .inl ⟨_,m,e,xj m,j+1,rfl,qa⟩
   ·exact .inr (.inr ⟨_,e,λhh=>by cases hh⟩)
 ·refine⟨false,?_,λhh=>by cases hh⟩;rw[ezf (by simp only[Bool.or_eq_true,qf];omega)]
open Go.Proofs
theorem uzy (l:List V3)(h1:1<=l.length)(h2:l.length<4294967296):∃r,(izp l).o=some r/\r.1=l/\r.2.length=l.length:=by
 refine⟨(l,(List.replicate l.length (0:Int)).set 0 65536),?_,rfl,by simp⟩;show(gzr l).run NN=_;simp only[gzr,qk];rw[aza qa,aza (by simp;omega),aza (by simp;omega)];simp
theorem Ozf (l:List V3)(w:List Int)(hw:w.length=l.length)(hl:l.length<4294967296):∃r,(Bza l w).o=some r:=by
 show ∃r,(uzx l w).run NN=some r;simp only[uzx,qk,T.ix];suffices h:∃r,_=some r/\True from h.imp λ_ h=>h.1
 refine dzz (λm (x:Int×Int×Int×Int)=>∃j:Nat,x.2.2.2=(j:Int)/\j+m=l.length) (λ_=>True) l.length ⟨0,rfl,qa⟩ hl ?_ λy _=>⟨_,rfl,trivial⟩
 rintro m ⟨a,b,c,i⟩ ⟨j,hj,hm⟩;simp only at hj⊢;subst hj;cases m with
 |zero=>exact .inr (.inl ⟨_,by rw[az7 qa],trivial⟩)
 |succ m=>
  refine .inl ⟨?w,m,?e,xj m,?i⟩
  case e=>rw[az8 qa,aza qa,aza qa,aza qa,aza qa,aza qa,aza qa,aza qa]
  case i=>exact⟨j+1,by simp only[wn (show j<4294967296 from qa)],qa⟩
def cz5 (a b:V3):V3:=(qu.wrap (a.1-b.1),qu.wrap (a.2.1-b.2.1),qu.wrap (a.2.2-b.2.2))
theorem kzu (a b:V3):(kzt a b).o=some (cz5 a b):=rfl
def rzh (a b:V3):Int:=qu.wrap (qu.wrap (qu.wrap (a.1 * b.1)+qu.wrap (a.2.1 * b.2.1))+qu.wrap (a.2.2 * b.2.2))
theorem izo (a b:V3):(hz5 a b).o=some (rzh a b):=rfl
theorem Hze {a:V3}(h1:InR a.1)(h2:InR a.2.1)(h3:InR a.2.2)(m:Int):∃r,(mzb a m).o=some r:=by
 show ∃r,(gzq a m).run NN=some r;simp only[gzq,qk];suffices h:∃r,_=some r/\True from h.imp λ_ h=>h.1
 refine dzz (λm (x:Int×Int)=>∃j:Nat,x.2=(j:Int)/\j+m=3) (λ_=>True) 3 ⟨0,rfl,qa⟩ qa ?_ λy _=>⟨_,rfl,trivial⟩
 rintro m ⟨s,i⟩ ⟨j,hj,hm⟩;simp only at hj⊢;subst hj;cases m with
 |zero=>exact .inr (.inl ⟨_,by rw[az7 qa],trivial⟩)
 |succ m=>
  rw[az8 qa,aza qa];have hc:InR (([a.1,a.2.1,a.2.2]:List Int).getD ((j:Int)).toNat 0):=by
   rw[qG]
   match j,(show j<3 from qa)with
   |0,_=>exact h1
   |1,_=>exact h2
   |2,_=>exact h3
  have hs:=kzg 16 qa (InR.max hc (InR.wr (0- (([a.1,a.2.1,a.2.2]:List Int).getD ((j:Int)).toNat 0))));rw[show((16:Nat):Int)=16 from rfl]at hs;rw[hs];exact .inl ⟨_,m,rfl,xj m,j+1,by simp only[wn (show j<4294967296 from qa)],qa⟩
theorem Tz3 (l:List V3)(w:List Int)(n:V3)(h1:1<=l.length)(h2:l.length<4294967296):∃r,(zzd l w n).o=some r/\0<=r.2/\r.2<l.length:=by
 show ∃r,(nzp l w n).run NN=some r/\_;simp only[nzp,qk,izo,qL];rw[aza qa];refine dzz (λm (x:Int×Int×Int)=>(∃j:Nat,x.2.2=(j:Int)/\j+m=l.length)/\0<=x.2.1/\x.2.1<l.length) (λy:Int×Int=>0<=y.2/\y.2<l.length) l.length ⟨⟨0,rfl,qa⟩,by simp only;omega⟩ h2 ?_ λy hy=>⟨_,rfl,hy⟩
 rintro m ⟨a,b,i⟩ ⟨⟨j,hj,hm⟩,hb⟩;simp only at hj hb⊢;subst hj;cases m with
 |zero=>exact .inr (.inl ⟨_,by rw[az7 qa],hb⟩)
 |succ m=>
  rw[az8 qa,aza qa];generalize qw (rzh n (l.getD ((j:Int)).toNat qv)<a)=q;cases q with
  |true=>exact .inl ⟨_,m,rfl,xj m,⟨j+1,by simp only[wn (show j<4294967296 from qa)],qa⟩,by simp only;omega⟩
  |false=>exact .inl ⟨_,m,rfl,xj m,⟨j+1,by simp only[wn (show j<4294967296 from qa)],qa⟩,hb⟩
theorem Jzn (l:List V3)(w:List Int)(n:V3)(h1:1<=l.length)(h2:l.length<4294967296):∃r,(ozv l w n).o=some r/\0<=r.2/\r.2<l.length:=by
 show ∃r,(hze l w n).run NN=some r/\_;simp only[hze,qk,izo,qL];rw[aza qa];refine dzz (λm (x:Int×Int×Int)=>(∃j:Nat,x.2.2=(j:Int)/\j+m=l.length)/\0<=x.2.1/\x.2.1<l.length) (λy:Int×Int=>0<=y.2/\y.2<l.length) l.length ⟨⟨0,rfl,qa⟩,by simp only;omega⟩ h2 ?_ λy hy=>⟨_,rfl,hy⟩
 rintro m ⟨a,b,i⟩ ⟨⟨j,hj,hm⟩,hb⟩;simp only at hj hb⊢;subst hj;cases m with
 |zero=>exact .inr (.inl ⟨_,by rw[az7 qa],hb⟩)
 |succ m=>
  rw[az8 qa,aza qa];generalize qw (rzh n (l.getD ((j:Int)).toNat qv)>a)=q;cases q with
  |true=>exact .inl ⟨_,m,rfl,xj m,⟨j+1,by simp only[wn (show j<4294967296 from qa)],qa⟩,by simp only;omega⟩
  |false=>exact .inl ⟨_,m,rfl,xj m,⟨j+1,by simp only[wn (show j<4294967296 from qa)],qa⟩,hb⟩
theorem Nzd (a b:V3):∃r,(tzc a b).o=some r:=by
 show ∃r,(jzd a b).run NN=some r;simp only[jzd,qk,kzu,izo,qL];rw[aza qa];generalize qw (rzh a (cz5 a b)<=0)=q;cases q<;>exact⟨_,rfl⟩
theorem Ezs (l:List V3)(w:List Int)(i t:Int)(h0:0<=i)(hi:i<w.length)(hw:w.length<4294967296):∃r,(pzf l w i t).o=some r/\r.length=w.length:=by
 show ∃r,(kzp l w i t).run NN=some r/\_;simp only[kzp,qk];refine dzz (λm (x:List Int×Int×Int)=>x.1.length=w.length/\∃j:Nat,x.2.2=(j:Int)/\j+m=w.length) (λy:List Int×Int=>y.1.length=w.length) w.length ⟨rfl,0,rfl,qa⟩ hw ?_ λy hy=>?_
 ·rintro m ⟨x,s,k⟩ ⟨hx,j,hj,hm⟩;simp only at hj hx⊢;subst hj;cases m with
  |zero=>exact .inr (.inl ⟨_,by rw[az7 qa],hx⟩)
  |succ m=>
   refine .inl ⟨?w,m,?e,xj m,?i⟩
   case e=>rw[az8 qa,aza qa,aza qa,aza qa,aza qa,aza qa,aza qa]
   case i=>exact⟨by simp[hx],j+1,by simp only[wn (show j<4294967296 from qa)],qa⟩
 ·rw[aza qa,aza qa,aza qa,aza qa];exact⟨_,rfl,by simp[hy]⟩
theorem Xz0 (a:List V3)(u:List Int)(b:List V3)(v:List Int)(m:Int)(n:Nat)(hn:n<=64)(hu:u.length=a.length)(hv:v.length=b.length)(ha:1<=a.length/\a.length<4294967296)(hb:1<=b.length/\b.length<4294967296):
 ∃r,(Mzn a u b v 0 0 0 0 m (n:Int)).o=some r/\r.2.2.1.length=a.length/\r.2.2.2.2.1.length=b.length:=by
 show ∃r,(rzb a u b v 0 0 0 0 m (n:Int)).run NN=some r/\_;simp only[rzb,qk,T.ix,kzu,qL,uzl];refine dzz (λk (x:List Int×List Int×Int×Int×Int×Int)=>(x.1.length=a.length/\x.2.1.length=b.length)/\∃j:Nat,x.2.2.2.2.2=(j:Int)/\j+k=n) (λ_=>False) n ⟨⟨hu,hv⟩,0,rfl,qa⟩ qa ?_ λy hy=>hy.elim
 rintro k ⟨p,q,c1,c2,c3,st⟩ ⟨⟨hp,hq⟩,j,hj,hk⟩;simp only at hp hq hj⊢;subst hj;obtain⟨s1,e1⟩:=Ozf a p hp ha.2;obtain⟨s2,e2⟩:=Ozf b q hq hb.2;have hi:InR (cz5 s1 s2).1/\InR (cz5 s1 s2).2.1/\InR (cz5 s1 s2).2.2:=⟨InR.wr _,InR.wr _,InR.wr _⟩;obtain⟨cl,e3⟩:=Hze hi.1 hi.2.1 hi.2.2 m;simp only[e1,e2,e3,qL];cases cl with
 |true=>exact .inr (.inr ⟨_,rfl,hp,hq⟩)
 |false=>
  have t1:=hi.1.tdiv (b:=65536) qa;have t2:=hi.2.1.tdiv (b:=65536) qa;have t3:=hi.2.2.tdiv (b:=65536) qa;obtain⟨nm,e4,_⟩:=pz0 (v:=(qu.wrap ((cz5 s1 s2).1.tdiv 65536),qu.wrap ((cz5 s1 s2).2.1.tdiv 65536),qu.wrap ((cz5 s1 s2).2.2.tdiv 65536))) (InR.wr _) (InR.wr _) (InR.wr _);simp only[e4,qL,qd];cases hnm:nm.2 with
  |false=>exact .inr (.inr ⟨_,rfl,hp,hq⟩)
  |true=>
   obtain⟨le,e5,l1,l2⟩:=Tz3 a p nm.1 ha.1 ha.2;obtain⟨gr,e6,g1,g2⟩:=Jzn b q nm.1 hb.1 hb.2;simp only[e5,e6,qL,qO,qd];generalize qw (qu.wrap (le.1-gr.1)>qu.wrap (Wz1 nm.1 * m))=far;cases far with
   |true=>exact .inr (.inr ⟨_,rfl,hp,hq⟩)
   |false=>
    simp only[qd];cases k with
    |zero=>
     have hjn:j=n:=qa
     subst hjn;rw[dzj rfl];exact .inr (.inr ⟨_,rfl,hp,hq⟩)
    |succ k=>
     rw[dze qa,aza ⟨l1,l2⟩,aza ⟨g1,g2⟩];obtain⟨pt,e7⟩:=Nzd (qu.wrap ((cz5 s1 s2).1.tdiv 65536),qu.wrap ((cz5 s1 s2).2.1.tdiv 65536),qu.wrap ((cz5 s1 s2).2.2.tdiv 65536)) (cz5 (a.getD le.2.toNat qv) (b.getD gr.2.toNat qv));simp only[e7,qL];by_cases hpt:pt=0
     ·rw[dzj hpt];exact .inr (.inr ⟨_,rfl,hp,hq⟩)
     ·rw[dze hpt];obtain⟨p',e8,hp'⟩:=Ezs a p le.2 pt l1 (by rw[hp];exact l2) (by rw[hp];exact ha.2);obtain⟨q',e9,hq'⟩:=Ezs b q gr.2 pt g1 (by rw[hq];exact g2) (by rw[hq];exact hb.2);simp only[e8,e9,qL];exact .inl ⟨_,k,rfl,xj k,⟨hp'.trans hp,hq'.trans hq⟩,j+1,by simp only[wn (show j<4294967296 from qa)],qa⟩
theorem xzy (a b:List V3)(m:Int):∃r,(fz0 a b m 64).o=some r/\r.Left.length<=8/\r.Xx.length<=8:=by
 show ∃r,(hza a b m 64).run NN=some r/\_;obtain⟨ua,e1,h1⟩:=xzz a;obtain⟨ub,e2,h2⟩:=xzz b;simp only[hza,qk,e1,e2,qL];cases ua with
 |false=>exact⟨_,rfl,by simp[nl],by simp[nl]⟩
 |true=>
  cases ub with
  |false=>exact⟨_,rfl,by simp[nl],by simp[nl]⟩
  |true=>
   have h1:=h1 rfl;have h2:=h2 rfl;simp only[qO,qd,bzd,ezd,az9];generalize (qw (m<0)||(qw (m>2097152)||(qw ((64:Int)<0)||qw ((64:Int)>64))))=q;cases q with
   |true=>exact⟨_,rfl,by simp[nl],by simp[nl]⟩
   |false=>
    obtain⟨la,e3,f1,f2⟩:=uzy a h1.1 qa;obtain⟨lb,e4,f3,f4⟩:=uzy b h2.1 qa;obtain⟨r,e5,w1,w2⟩:=Xz0 la.1 la.2 lb.1 lb.2 m 64 qa (by rw[f1,f2]) (by rw[f3,f4]) (by rw[f1];omega) (by rw[f3];omega);rw[f1]at w1;rw[f3]at w2;rw[show((64:Nat):Int)=64 from rfl]at e5;simp only[qd,e3,e4,e5,qL];exact⟨_,rfl,by simp only;omega,by simp only;omega⟩
open Go.Proofs
theorem Ezz (a:Int):(kzv a).o=some (radV a):=by
 show(kzw a).run NN=_;simp only[kzw,qk,ez7,pz3,radV,ge_iff_le]
theorem Lz2 (a:az0):(jzb a).o=some (midV a):=by
 rw[Cz6];unfold midV;cases h:vV a
 ·rfl
 ·have:=vV_iff.1 h;rw[w64 qa qa];rfl
theorem rz7 (l:List IV3):(dzl l).o=some (cenV l):=by
 show(izg l).run NN=_;simp only[izg,qk,T.ix,ezo,qL,Lz2,cenV];cases hp:cz1 l with
 |false=>rfl
 |true=>
  have hl:=ezy hp;rw[ezp (by rfl),aza qa,qc rfl];simp only[qG];refine(bzv (λj=>(half (cenF l) ((0,0,0):V3) l.length j,(j:Int))) (tab (cenF l) l.length) l.length (by rw[qzf];rfl) (show l.length<4294967296 from qa) (λj hj=>?_) ?_).trans rfl
  ·have hx:j<(half (cenF l) ((0,0,0):V3) l.length j).length:=by rw[rzn qa];exact hj
   have h1:0<=(j:Int)/\(j:Int)<((half (cenF l) ((0,0,0):V3) l.length j).length:Int):=qa
   have h2:j<(half (cenF l) ((0,0,0):V3) l.length j).length/\0<=j:=⟨hx,qa⟩;rw[az8 qa,aza qa];simp only[qG,List.length_set,List.set_set,Ozu hx,aza h1,aza h2];rw[wn qa,<-nz6 hj];rfl
  ·rw[az7 qa,wz2]
def Lzf (a b:List IV3):V3×Bool:=(nzb a b).o.getD qv
theorem Czf (a b:List IV3):(nzb a b).o=some (Lzf a b):=by
 obtain⟨r,h⟩:=Nzg a b;unfold Lzf;rw[h];rfl
def Gz8 (a b:List V3)(m:Int):dzu:=(fz0 a b m 64).o.getD qv
theorem ozm (a b:List V3)(m:Int):(fz0 a b m 64).o=some (Gz8 a b m):=by
 obtain⟨r,h,_⟩:=xzy a b m;unfold Gz8;rw[h];rfl
theorem az3h (a b:List V3)(m:Int):(Gz8 a b m).Left.length<=8/\(Gz8 a b m).Xx.length<=8:=by
 obtain⟨r,h,h1⟩:=xzy a b m;unfold Gz8;rw[h];exact h1
def axesL:List V3:=[(1,0,0),(-1,0,0),(0,1,0),(0,-1,0),(0,0,1),(0,0,-1)]
def Ozk (a:List IV3)(ra:Int)(b:List IV3)(rb:Int):dzu:=Gz8 (cenV a) (cenV b) (qu.wrap (ra+rb))
def Tz2 (a:List IV3)(ra:Int)(b:List IV3)(rb:Int):List V3:=bif bzw (Ozk a ra b rb).Xz then [(Ozk a ra b rb).Xz]else []
def Zzt (a:List IV3)(ra:Int)(b:List IV3)(rb:Int):List V3:=(bif (Lzf a b).2 then [(Lzf a b).1]else [])++(axesL++Tz2 a ra b rb)
def Pza (a:List IV3)(ra:Int)(b:List IV3)(rb:Int)(hs:List V3):List V3:=hs.filter bzw++Zzt a ra b rb
def okF (a:List IV3)(ra:Int)(b:List IV3)(rb:Int):Bool:=cz1 a&&(cz1 b&&(radV ra&&radV rb))
def ofF:Option V3->V3×Bool
 |some n=>(n,true)
 |none=>((0,0,0),false)
def Hz2 (a:List IV3)(ra:Int)(b:List IV3)(rb:Int)(hs:List V3):V3×Bool:=
 bif okF a ra b rb then ofF ((Pza a ra b rb hs).find? λn=>sepV n a ra b rb)else((0,0,0),false)
def PR (F:Option V3)(d:Bool)(x:V3):Prop:=match F with
 |some n=>d=true/\x=n
 |none=>d=false
theorem PR.yes {F:Option V3}{n:V3}(h:some n=F):PR F true n:=by subst h;exact⟨rfl,rfl⟩
theorem PR.no {F:Option V3}{x:V3}(h:none=F):PR F false x:=by subst h;exact rfl
theorem zz1 (sp:V3->Bool)(x:V3)(l:List V3):(x::l).find? sp=bif sp x then some x else l.find? sp:=by
 rw[List.find?_cons];cases sp x<;>rfl
theorem Pzi {l:List V3}{j:Nat}(h:j<l.length):l.drop j=l.getD j qv::l.drop (j+1):=by
 rw[List.drop_eq_getElem_cons h];congr 1;rw[List.getD_eq_getElem?_getD,List.getElem?_eq_getElem h,Option.getD_some]
theorem azag {o:V3->Option Bool}{sp:V3->Bool}(ho:∀x,o x=some (sp x))(Y:YldS Tryz.prog az1 o)(a b:List IV3)(ra rb:Int)(hs:List V3)(hh:hs.length<4294967296):
 ∃r,(hzt Y a b ra rb hs).o=some r/\(okF a ra b rb=false->r.1=false)/\(okF a ra b rb=true->PR ((Pza a ra b rb hs).find? sp) r.1 r.2.1):=by
 show ∃r,(hzu Y a b ra rb hs).run NN=some r/\_;have yc:∀x0 x,(Y.C false x0 x).o=o x:=λ_ _=>rfl
 simp only[hzu,qk,ezo,qL,Ezz,bzd,ezd,az9];have hq:(!cz1 a||(!cz1 b||(!radV ra|| !radV rb)))= !okF a ra b rb:=by
  unfold okF;cases cz1 a<;>cases cz1 b<;>cases radV ra<;>cases radV rb<;>rfl
 rw[hq];cases okF a ra b rb with
 |false=>exact⟨_,rfl,λ_=>rfl,λh=>by cases h⟩
 |true=>
  simp only[qO,qd];generalize hF:(Pza a ra b rb hs).find? sp=F;suffices h:∃r:Bool×V3×List IV3×List IV3×Int×Int×List V3,_=some r/\PR F r.1 r.2.1 from h.imp λ_ h=>⟨h.1,(λh=>by cases h),λ_=>h.2⟩
  refine dzz (λm (x:Int×Bool×V3)=>x.2.1=false/\∃j:Nat,x.1=(j:Int)/\j+m=hs.length/\((hs.drop j).filter bzw++Zzt a ra b rb).find? sp=F) (λy:Bool×V3=>y.1=false/\(Zzt a ra b rb).find? sp=F) hs.length ⟨rfl,0,rfl,qa,by rw[xl];exact hF⟩ hh ?_ ?_
  ·rintro m ⟨i,d,x0⟩ ⟨hd,j,hj,hm,hf⟩;simp only at hd hj hf⊢;subst hd;subst hj;cases m with
   |zero=>
    rw[xm qa]at hf;exact .inr (.inl ⟨_,by rw[az7 qa],rfl,hf⟩)
   |succ m=>
    rw[Pzi qa,List.filter_cons]at hf;rw[az8 qa,aza qa,fzx,qG];simp only[qL,yc];cases hus:bzw (hs.getD j qv)with
    |false=>
     rw[hus,qb (by decide)]at hf;exact .inl ⟨_,m,rfl,xj m,rfl,j+1,by simp only[wn (show j<4294967296 from qa)],qa,hf⟩
    |true=>
     rw[hus,qc rfl,xn,zz1]at hf;simp only[qe,ho,qL];cases hsp:sp (hs.getD j qv)with
     |true=>
      rw[hsp]at hf;exact .inr (.inr ⟨_,rfl,PR.yes hf⟩)
     |false=>
      rw[hsp]at hf;exact .inl ⟨_,m,rfl,xj m,rfl,j+1,by simp only[wn (show j<4294967296 from qa)],qa,hf⟩
  ·rintro⟨d,x0⟩ ⟨hd,hf⟩;simp only at hd hf⊢;subst hd;simp only[Czf,qL,yc];have rest:∀ (d:Bool) (x1:V3),d=false->(axesL++Tz2 a ra b rb).find? sp=F->∃r,((tzd).o.bind λy147=>andK (iter (λx153:Int×Bool×V3=>bif qw (x153.1<((y147.length:Nat):Int))then grd (0<=x153.1/\x153.1<((y147.length:Nat):Int)) ((Y.C x153.2.1 x153.2.2 (y147.getD ((x153.1).toNat) qv)).o.bind λy162=>bif (!(!y162))then some (Step3.fin (y162,(y147.getD ((x153.1).toNat) qv),a,b,ra,rb,hs))else some (Step3.next ((qu.wrap (x153.1+1)),y162,(y147.getD ((x153.1).toNat) qv))))else some (Step3.out (x153.2.1,x153.2.2))) NN (0,d,x1)) λy158:Bool×V3=>
    (dzl a).o.bind λy166=>(dzl b).o.bind λy167=>(fz0 y166 y167 (qu.wrap (ra+rb)) 64).o.bind λy168=>some (bzw y168.Xz)|>.bind λy170=>bif y170 then((Y.C y158.1 y158.2 y168.Xz).o.bind λy171=>some (y171,y168.Xz,a,b,ra,rb,hs))else some (y158.1,y158.2,a,b,ra,rb,hs))=some r/\PR F r.1 r.2.1:=by
    intro d x1 hd hf;subst hd;have ea:(tzd).o=some axesL:=rfl;rw[ea];simp only[qL];refine dzz (λm (x:Int×Bool×V3)=>x.2.1=false/\∃j:Nat,x.1=(j:Int)/\j+m=6/\(axesL.drop j++Tz2 a ra b rb).find? sp=F) (λy:Bool×V3=>y.1=false/\(Tz2 a ra b rb).find? sp=F) 6 ⟨rfl,0,rfl,rfl,by rw[xl];exact hf⟩ qa ?_ ?_
    ·rintro m ⟨i,d,x0⟩ ⟨hd,j,hj,hm,hf⟩;simp only at hd hj hf⊢;subst hd;subst hj;have l6:axesL.length=6:=rfl;rw[l6];cases m with
     |zero=>
      rw[xm qa]at hf;exact .inr (.inl ⟨_,by rw[az7 qa],rfl,hf⟩)
     |succ m=>
      rw[Pzi qa,xn,zz1]at hf;rw[az8 qa,aza qa,yc,qG];simp only[ho,qL];cases hsp:sp (axesL.getD j qv)with
      |true=>
       rw[hsp]at hf;exact .inr (.inr ⟨_,rfl,PR.yes hf⟩)
      |false=>
       rw[hsp]at hf;exact .inl ⟨_,m,rfl,xj m,rfl,j+1,by simp only[wn (show j<4294967296 from qa)],qa,hf⟩
    ·rintro⟨d,x0⟩ ⟨hd,hf⟩;simp only at hd hf⊢;subst hd;simp only[rz7,ozm,qL,yc];unfold Tz2 Ozk at hf;cases hus:bzw (Gz8 (cenV a) (cenV b) (qu.wrap (ra+rb))).Xz with
     |false=>
      rw[hus]at hf;exact⟨_,rfl,PR.no hf⟩
     |true=>
      rw[hus,qe,zz1]at hf;simp only[qe,ho,qL];refine⟨_,rfl,?_⟩;simp only;cases hsp:sp (Gz8 (cenV a) (cenV b) (qu.wrap (ra+rb))).Xz with
      |true=>rw[hsp]at hf;exact PR.yes hf
      |false=>rw[hsp]at hf;exact PR.no hf
   unfold Zzt at hf;cases hm:(Lzf a b).2 with
   |false=>
    rw[hm]at hf;simp only[qd,az9,fzx];exact rest false x0 rfl hf
   |true=>
    rw[hm,qe,xn,zz1]at hf;simp only[qe,ho,qL,az9,fzx];cases hsp:sp (Lzf a b).1 with
    |true=>rw[hsp]at hf;exact⟨_,rfl,PR.yes hf⟩
    |false=>rw[hsp]at hf;exact rest false (Lzf a b).1 rfl hf
theorem Nzf (a:List IV3)(ra:Int)(b:List IV3)(rb:Int)(hs:List V3)(hh:hs.length<4294967296):(tze a ra b rb hs).o=some (Hz2 a ra b rb hs):=by
 obtain⟨r,hr,h0,h1⟩:=azag (o:=λx=>(nza a ra b rb hs x).run NN) (sp:=λn=>sepV n a ra b rb) (λx=>by
  simp only[nza,qk,vz0,qL];cases sepV x a ra b rb<;>rfl) YldS.dummy a b ra rb hs hh
 have e1:(jz3 a ra b rb hs).o=some (a,b,ra,rb,hs):=rfl;have e2:(tze a ra b rb hs).o=(qk NN (.call (jz3 a ra b rb hs) [] λy1=>.ret y1)).bind λu=>(hzt (o:=λx=>(nza a ra b rb hs x).run NN) YldS.dummy u.1 u.2.1 u.2.2.1 u.2.2.2.1 u.2.2.2.2).o.bind λr=>bif r.1 then some (r.2.1,true)else some ((0,0,0),false):=rfl
 rw[e2];simp only[qk,e1,qL,hr,Hz2];cases hk:okF a ra b rb with
 |false=>rw[h0 hk];rfl
 |true=>
  have h:=h1 hk;generalize (Pza a ra b rb hs).find? _=F at h;cases F with
  |none=>have h:r.1=false:=h;rw[h];rfl
  |some n=>obtain⟨h2,h3⟩:=(show r.1=true/\r.2.1=n from h);rw[h2,h3];rfl
open Go.Proofs
def Qzp:bze:=⟨0,nl,nl⟩
def fndK (s:azd)(b:List az0)(hs:List V3)(k:Nat):V3×Bool:=Hz2 (bzo s b (pA s k)) (hzc s (pA s k)) (bzo s b (pB s k)) (hzc s (pB s k)) ((hs.drop k).take 1)
def nrK (s:azd)(b:List az0)(k:Nat):dzu:=Ozk (bzo s b (pA s k)) (hzc s (pA s k)) (bzo s b (pB s k)) (hzc s (pB s k))
def ovK (s:azd)(b:List az0)(k:Nat):Bool:=ovV (nrK s b k).Left (nrK s b k).Xx (bzo s b (pA s k)) (hzc s (pA s k)) (bzo s b (pB s k)) (hzc s (pB s k))
def colK (s:azd)(b:List az0)(hs:List V3)(k:Nat):Option dzv:=sw (!(fndK s b hs k).2&&ovK s b k) ⟨2,nl,⟨(k:Int),(nrK s b k).Left,(nrK s b k).Xx⟩⟩
def misK (s:azd)(b:List az0)(hs:List V3)(k:Nat):Bool:= !(fndK s b hs k).2
def clsV (s:azd)(b:List az0)(hs:List V3):dzv:=if czd s=0/\boxV s.Xe b=true then
 (match scan (colK s b hs) (bzy s).length 0 with
  |some v=>v
  |none=>⟨bif czg (misK s b hs) (bzy s).length then 1 else 0,tab (λk=>(fndK s b hs k).1) (bzy s).length,Qzp⟩)
 else⟨0,nl,Qzp⟩
theorem az4l {a:List IV3}{ra:Int}{b:List IV3}{rb:Int}{hs:List V3}(h:(Hz2 a ra b rb hs).2=false):(Hz2 a ra b rb hs).1=(0,0,0):=by
 unfold Hz2 at h⊢;generalize okF a ra b rb=k at h⊢;cases k with
 |false=>rfl
 |true=>
  rw[qe]at h⊢;generalize List.find? _ _=F at h⊢;cases F with
  |none=>rfl
  |some n=>cases h
theorem az11 {a:List IV3}{ra:Int}{b:List IV3}{rb:Int}{hs:List V3}(h:(Hz2 a ra b rb hs).2=true):sepV (Hz2 a ra b rb hs).1 a ra b rb=true:=by
 unfold Hz2 at h⊢;generalize okF a ra b rb=k at h⊢;cases k with
 |false=>cases h
 |true=>
  rw[qe]at h⊢;generalize hF:List.find? _ _=F at h⊢;cases F with
  |none=>cases h
  |some n=>exact List.find?_some (p:=λn=>sepV n a ra b rb) hF
theorem az17 {α:Type}{f:Nat->α}{z:α}{n j:Nat}(h:j<n)(e:f j=z):half f z n j=half f z n (j+1):=by
 unfold half;rw[izx,show n-j=(n- (j+1))+1 from qa,List.replicate_succ,e,xo];rfl
theorem Ozm {g:Nat->Bool}{n:Nat}:czg g (n+1)=(czg g n&& !g n):=by
 rw[Bool.eq_iff_iff,qm,noneB_iff,noneB_iff,Bool.not_eq_true'];constructor
 ·exact λh=>⟨λi hi=>h i qa,h n qa⟩
 ·intro h i hi;by_cases e:i=n
  ·rw[e];exact h.2
  ·exact h.1 i qa
theorem az8j (hs:List V3)(j:Nat):(hs.drop (min (j:Int) (hs.length:Int)).toNat).take ((min ((j+1:Nat):Int) (hs.length:Int)).toNat- (min (j:Int) (hs.length:Int)).toNat)=(hs.drop j).take 1:=by
 by_cases h:j<hs.length
 ·rw[show(min (j:Int) (hs.length:Int)).toNat=j from qa,show(min ((j+1:Nat):Int) (hs.length:Int)).toNat-j=1 from qa]
 ·have e1:hs.drop j=[]:=xm qa;have e2:hs.drop (min (j:Int) (hs.length:Int)).toNat=[]:=xm qa;rw[e1,e2];simp
theorem szp (s:azd)(b:List az0)(hs:List V3)(hb:b.length<4294967296)(hh:hs.length<4294967296):(nz2 s b hs).o=some (clsV s b hs):=by
 show(szo s b hs).run NN=_;have hp:=xzp s b hb;have hlen:=qzj s;simp only[szo,qk];rw[show(⟨s.Xe,s.Xc,s.Xj⟩:azd)=s from rfl,hp];simp only[qL];unfold clsV;by_cases h:czd s=0/\boxV s.Xe b=true
 ·rw[qc h,qc h];rw[ezp (by rfl),aza (by simp only;omega)];simp only[qG];refine(jzc (λj=>(half (λk=>(fndK s b hs k).1) ((0,0,0):V3) (bzy s).length j,czg (misK s b hs) j,(j:Int))) (colK s b hs) (tab (λk=>(fndK s b hs k).1) (bzy s).length,czg (misK s b hs) (bzy s).length) (bzy s).length ?_ (show(bzy s).length<4294967296 from qa) (λj hjl=>?_) ?_).trans ?_
  ·rw[qzf];have:czg (misK s b hs) 0=true:=noneB_iff.2 λi hi=>qa
   rw[this];rfl
  ·have hc:=Pz6 (b:=b) h hjl;dsimp only;rw[az8 qa,hc];simp only[qL,wn (show j<4294967296 from qa)];rw[aza qa,az8j,Nzf _ _ _ _ _ (by simp;omega)];simp only[qL];have ef:Hz2 (bzo s b (pA s j)) (hzc s (pA s j)) (bzo s b (pB s j)) (hzc s (pB s j)) ((hs.drop j).take 1)=fndK s b hs j:=rfl;rw[ef,Ozm];unfold colK;have hm:misK s b hs j= !(fndK s b hs j).2:=rfl;rw[hm];cases hf:(fndK s b hs j).2 with
   |true=>
    simp only[qe,rzn (show j<=(bzy s).length from qa)];rw[aza qa,aza qa,az9,qG,nz6 hjl];simp only[qO,xp,Bool.and_true,Bool.false_and,sw,qd]
   |false=>
    have en:=az4l (ef▸hf);rw[ef]at en;simp only[qd,rz7,ozm,qL,Fz3];have eo:ovV (Gz8 (cenV (bzo s b (pA s j))) (cenV (bzo s b (pB s j))) (qu.wrap (hzc s (pA s j)+hzc s (pB s j)))).Left (Gz8 (cenV (bzo s b (pA s j))) (cenV (bzo s b (pB s j))) (qu.wrap (hzc s (pA s j)+hzc s (pB s j)))).Xx (bzo s b (pA s j)) (hzc s (pA s j)) (bzo s b (pB s j)) (hzc s (pB s j))=ovK s b j:=rfl;rw[eo,az17 hjl en];simp only[qO,xp,Bool.and_false,qR];cases ovK s b j with
    |true=>rfl
    |false=>rfl
  ·dsimp only;rw[az7 qa,wz2]
  ·cases scan (colK s b hs) (bzy s).length 0 with
   |some v=>rfl
   |none=>cases czg (misK s b hs) (bzy s).length<;>rfl
 ·rw[qb h,qb h];rfl
theorem Sz3 (s:azd)(b:List az0)(hs:List V3):
 ((clsV s b hs).Xl=0/\(clsV s b hs).Xk=Qzp)\/
 ((clsV s b hs).Xl=1/\(clsV s b hs).Xk=Qzp/\(czd s=0/\boxV s.Xe b=true)/\oze s b (clsV s b hs).Xf=true)\/
 ((clsV s b hs).Xl=2/\(clsV s b hs).Xf=[]/\az0o s b (clsV s b hs).Xk=true/\(clsV s b hs).Xk.Left.length<=8/\(clsV s b hs).Xk.Xx.length<=8):=by
 unfold clsV;by_cases h:czd s=0/\boxV s.Xe b=true
 ·rw[qc h];cases hs':scan (colK s b hs) (bzy s).length 0 with
  |some v=>
   obtain⟨j,-,hj,hc,-⟩:=fzp _ _ hs';unfold colK sw at hc;cases hk:(!(fndK s b hs j).2&&ovK s b j)with
   |false=>rw[hk]at hc;cases hc
   |true=>
    rw[hk]at hc;simp only[qe,Option.some.injEq]at hc;subst hc;simp only[qm]at hk;have l:=az3h (cenV (bzo s b (pA s j))) (cenV (bzo s b (pB s j))) (qu.wrap (hzc s (pA s j)+hzc s (pB s j)));refine .inr (.inr ⟨rfl,rfl,?_,l.1,l.2⟩);unfold az0o;rw[qc ⟨h,by simp only;omega,by simp only;omega⟩];exact hk.2
  |none=>
   dsimp only;cases hn:czg (misK s b hs) (bzy s).length with
   |false=>exact .inl ⟨rfl,rfl⟩
   |true=>
    refine .inr (.inl ⟨rfl,rfl,h,?_⟩);simp only[oze,qm,qf,noneB_iff,sepK,xq];refine⟨h.1,h.2,cz8 _ _,λk hk=>?_⟩;rw[hzx hk];have:=noneB_iff.1 hn k hk;simp only[misK,xq]at this;exact az11 this
 ·rw[qb h];exact .inl ⟨rfl,rfl⟩
theorem Vzf (s:azd)(b:List az0)(hs:List V3):(clsV s b hs).Xf.length<=576:=by
 have hl:=qzj s;rcases Sz3 s b hs with _|_|⟨_,h,_⟩
 ·unfold clsV;split
  ·split
   ·rename_i hs';obtain⟨j,-,hj,hc,-⟩:=fzp _ _ hs';unfold colK sw at hc;cases hk:(!(fndK s b hs j).2&&ovK s b j)with
    |false=>rw[hk]at hc;cases hc
    |true=>
     rw[hk]at hc;simp only[qe,Option.some.injEq]at hc;subst hc;simp[nl]
   ·simp only[cz8];exact hl
  ·simp[nl]
 ·unfold clsV;split
  ·split
   ·rename_i hs';obtain⟨j,-,hj,hc,-⟩:=fzp _ _ hs';unfold colK sw at hc;cases hk:(!(fndK s b hs j).2&&ovK s b j)with
    |false=>rw[hk]at hc;cases hc
    |true=>
     rw[hk]at hc;simp only[qe,Option.some.injEq]at hc;subst hc;simp[nl]
   ·simp only[cz8];exact hl
  ·simp[nl]
 ·rw[h];simp
open Go.Proofs
def ResB (r:azo):Prop:=r.Xo.length<=4096/\(∀x∈r.Xo,x.Xf.length<=576)/\r.At.Xf.length<=576/\r.Xk.Left.length<=8/\r.Xk.Xx.length<=8
theorem Bzb (p q:List Int)(k i:Int):(czw p q k i).1.length<=p.length:=by
 unfold czw;split
 ·simp[cz8]
 ·simp[nl]
abbrev XW:=Int×List az6×Int×Int×List V3×Int×List Int×List Int
abbrev exO (n:Nat)(s:azd)(p q:List Int)(d k i:Int)(h:List V3)(ps:List az6)(W:XW):=
 (RecS.fix hzk n).o (k,i,h,ps,W.1,W.2.1,W.2.2.1,W.2.2.2.1,W.2.2.2.2.1,W.2.2.2.2.2.1,W.2.2.2.2.2.2.1,W.2.2.2.2.2.2.2,p,q,s.Xe.Xa,s.Xe.Xi,s.Xc,s.Xj,d)
abbrev exR (ok:Bool)(ps:List az6)(W:XW)(s:azd)(p q:List Int)(d:Int):=
 (ok,ps,W.1,W.2.1,W.2.2.1,W.2.2.2.1,W.2.2.2.2.1,W.2.2.2.2.2.1,W.2.2.2.2.2.2.1,W.2.2.2.2.2.2.2,p,q,s.Xe.Xa,s.Xe.Xi,s.Xc,s.Xj,d)
def PsB (ps:List az6):Prop:=ps.length<=4096/\∀x∈ps,x.Xf.length<=576
theorem Vzq (n:Nat)(s:azd)(p q:List Int)(d k i:Int)(h:List V3)(ps:List az6)(W:XW)(hp:p.length<4294967296)(hq:q.length<4294967296){v:dzv}(hv:(nz2 s (czw p q k i).1 h).o=some v)(hps:PsB ps):
 exO (n+1) s p q d k i h ps W=if 4096<=ps.length then some (exR false ps (0,nl,k,i,nl,0,nl,nl) s p q d)else
  if v.Xl=1 then some (exR true (ps++[⟨k,i,v.Xf⟩]) W s p q d)else
  if v.Xl=2 then some (exR false ps (2,nl,k,i,nl,v.Xk.XC,v.Xk.Left,v.Xk.Xx) s p q d)else
  if k<d then((exO n s p q d (qu.wrap (k+1)) (qu.wrap (2 * i)) v.Xf ps W).bind λy=>bif y.1 then(RecS.fix hzk n).o (qu.wrap (k+1),qu.wrap (qu.wrap (2 * i)+1),v.Xf,y.2.1,y.2.2.1,y.2.2.2.1,y.2.2.2.2.1,y.2.2.2.2.2.1,y.2.2.2.2.2.2.1,y.2.2.2.2.2.2.2.1,y.2.2.2.2.2.2.2.2.1,y.2.2.2.2.2.2.2.2.2.1,y.2.2.2.2.2.2.2.2.2.2.1,y.2.2.2.2.2.2.2.2.2.2.2.1,y.2.2.2.2.2.2.2.2.2.2.2.2.1,y.2.2.2.2.2.2.2.2.2.2.2.2.2.1,y.2.2.2.2.2.2.2.2.2.2.2.2.2.2.1,y.2.2.2.2.2.2.2.2.2.2.2.2.2.2.2.1,y.2.2.2.2.2.2.2.2.2.2.2.2.2.2.2.2)else some (false,y.2))else
  some (exR false ps (0,nl,k,i,nl,0,nl,nl) s p q d):=by
 show(szz (RecS.fix hzk n) k i h ps W.1 W.2.1 W.2.2.1 W.2.2.2.1 W.2.2.2.2.1 W.2.2.2.2.2.1 W.2.2.2.2.2.2.1 W.2.2.2.2.2.2.2 p q s.Xe.Xa s.Xe.Xi s.Xc s.Xj d).run NN=_;have hb:(nz2 (⟨⟨s.Xe.Xa,s.Xe.Xi⟩,s.Xc,s.Xj⟩:azd) (czw p q k i).1 h).o=some v:=hv;simp only[szz,qk,szt p q k i hp hq,qL,hb];obtain⟨l1,_⟩:=hps;by_cases c0:4096<=ps.length
 ·rw[qc c0,az8 qa]
 ·rw[qb c0,az7 qa];by_cases c1:v.Xl=1
  ·rw[qc c1,dzj c1,aza (by simp only[List.length_cons,List.length_nil,azc];omega)]
  ·rw[qb c1,dze c1];by_cases c2:v.Xl=2
   ·rw[qc c2,dzj c2]
   ·rw[qb c2,dze c2];by_cases c3:k<d
    ·rw[qc c3,az8 c3];refine congrArg (qT _) (funext λy=>?_);cases y.1 with
     |true=>
      simp only[qe];show qT ((RecS.fix hzk n).o _) _=_;generalize (RecS.fix hzk n).o _=oo;cases oo<;>rfl
     |false=>rfl
    ·rw[qb c3,az7 c3]
open Go.Proofs
def zzj:azo:=⟨0,nl,⟨0,0,nl⟩,⟨0,nl,nl⟩⟩
def Kzq (ok:Bool)(ps:List az6)(W:XW):azo:=
 bif ok then⟨1,ps,⟨0,0,nl⟩,⟨0,nl,nl⟩⟩else⟨W.1,W.2.1,⟨W.2.2.1,W.2.2.2.1,W.2.2.2.2.1⟩,⟨W.2.2.2.2.2.1,W.2.2.2.2.2.2.1,W.2.2.2.2.2.2.2⟩⟩
def W0:XW:=(0,nl,0,0,nl,0,nl,nl)
open Go.Proofs
def TileF (d:Int)(np:Nat):Int->List az6->Int->Prop
 |e,[],e'=>e=e'
 |e,x::l,e'=>(0<=x.Xg/\x.Xg<=d/\x.Xf.length=np/\x.Xh * 2 ^ (d-x.Xg).toNat=e)/\TileF d np (e+2 ^ (d-x.Xg).toNat) l e'
theorem TileF.append {d:Int}{np:Nat}:∀ {l m:List az6} {a b c:Int},TileF d np a l b->TileF d np b m c->TileF d np a (l++m) c
 |[],_,_,_,_,h,k=>by have h:_=_:=h;subst h;exact k
 |_::_,_,_,_,_,h,k=>⟨h.1,TileF.append h.2 k⟩
def Vz1 (s:azd)(p q:List Int)(d:Int)(x:az6):Prop:=(0<=x.Xg/\x.Xg<=d)/\(0<=x.Xh/\x.Xh<2 ^ x.Xg.toNat)/\oze s (czw p q x.Xg x.Xh).1 x.Xf=true
def azaa (s:azd)(p q:List Int)(d:Int)(W:XW):Prop:=W.2.1=[]/\(0<=W.2.2.1/\W.2.2.1<=d)/\(0<=W.2.2.2.1/\W.2.2.2.1<2 ^ W.2.2.1.toNat)/\W.2.2.2.2.1=[]/\
 ((W.1=0/\W.2.2.2.2.2=(0,[],[]))\/(W.1=2/\az0o s (czw p q W.2.2.1 W.2.2.2.1).1 ⟨W.2.2.2.2.2.1,W.2.2.2.2.2.2.1,W.2.2.2.2.2.2.2⟩=true/\W.2.2.2.2.2.2.1.length<=8/\W.2.2.2.2.2.2.2.length<=8))
theorem az6y (s:azd)(p q:List Int)(hp:p.length<4294967296)(hq:q.length<4294967296){d:Int}(h20:d<=20):
 ∀ (f:Nat) (k i:Int) (h:List V3) (ps:List az6) (W:XW) (n:Nat),k+f=d->0<=k->0<=i->i<2 ^ k.toNat->f+1<=n->h.length<=576->PsB ps->
   ∃ok ps' W',exO n s p q d k i h ps W=some (exR ok ps' W' s p q d)/\PsB ps'/\
    (ok=true->W'=W/\∃new,ps'=ps++new/\TileF d (bzy s).length (i * 2 ^ f) new ((i+1) * 2 ^ f)/\∀x∈new,Vz1 s p q d x)/\
    (ok=false->azaa s p q d W'):=by
 intro f;induction f using Nat.strongRecOn with
 |_ f ih=>
  intro k i h ps W n hk h0 i0 i1 hn hh hps;obtain⟨n,rfl⟩:∃m,n=m+1:=⟨n-1,qa⟩;have hv:=szp s (czw p q k i).1 h (by have:=Bzb p q k i;omega) qa;have v1:=Vzf s (czw p q k i).1 h;have vc:=Sz3 s (czw p q k i).1 h;generalize clsV s (czw p q k i).1 h=v at hv v1 vc;rw[Vzq n s p q d k i h ps W hp hq hv hps];have unk:azaa s p q d (0,nl,k,i,nl,0,nl,nl):=⟨rfl,⟨h0,by simp only;omega⟩,⟨i0,i1⟩,rfl,.inl ⟨rfl,rfl⟩⟩;by_cases c0:4096<=ps.length
  ·rw[qc c0];exact⟨false,ps,_,rfl,hps,(λh=>by cases h),λ_=>unk⟩
  ·rw[qb c0];by_cases c1:v.Xl=1
   ·rw[qc c1];obtain⟨-,-,fr⟩:v.Xk=Qzp/\(czd s=0/\boxV s.Xe (czw p q k i).1=true)/\oze s (czw p q k i).1 v.Xf=true:=by
     rcases vc with⟨h1,-⟩|⟨-,h2⟩|⟨h1,-⟩
     ·omega
     ·exact h2
     ·omega
    have fl:v.Xf.length=(bzy s).length:=by
     simp only[oze,qm,qf]at fr;exact fr.2.2.1
    have e:(d-k).toNat=f:=qa
    refine⟨true,_,W,rfl,⟨by simp;omega,λx hx=>?_⟩,λ_=>⟨rfl,_,rfl,⟨⟨h0,by simp only;omega,fl,by simp only[e]⟩,by simp only[TileF,e];rw[Int.add_mul];omega⟩,λx hx=>?_⟩,(λh=>by cases h)⟩
    ·rcases xh.1 hx with hx|hx
     ·exact hps.2 x hx
     ·simp at hx;subst hx;exact v1
    ·simp at hx;subst hx;exact⟨⟨h0,by simp only;omega⟩,⟨i0,i1⟩,fr⟩
   ·rw[qb c1];by_cases c2:v.Xl=2
    ·rw[qc c2];obtain⟨-,fr,l1,l2⟩:v.Xf=[]/\az0o s (czw p q k i).1 v.Xk=true/\v.Xk.Left.length<=8/\v.Xk.Xx.length<=8:=by
      rcases vc with⟨h1,-⟩|⟨h1,-⟩|⟨-,h2⟩
      ·omega
      ·omega
      ·exact h2
     exact⟨false,ps,_,rfl,hps,(λh=>by cases h),λ_=>⟨rfl,⟨h0,by simp only;omega⟩,⟨i0,i1⟩,rfl,.inr ⟨rfl,fr,l1,l2⟩⟩⟩
    ·rw[qb c2];by_cases c3:k<d
     ·rw[qc c3];obtain⟨f,rfl⟩:∃g,f=g+1:=⟨f-1,qa⟩;have hp20:=az2p (k:=k.toNat) qa;have hw:qu.wrap (k+1)=k+1:=w64 qa qa;have hw1:qu.wrap (2 * i)=2 * i:=w64 qa qa;have hw2:qu.wrap (2 * i+1)=2 * i+1:=w64 qa qa;have hpk:(2:Int) ^ (k+1).toNat=2 * 2 ^ k.toNat:=by rw[show(k+1).toNat=k.toNat+1 from qa,wN];omega
      rw[hw,hw1];obtain⟨ok1,ps1,W1,e1,b1,b2,b3⟩:=ih f qa (k+1) (2 * i) v.Xf ps W n qa qa qa (by rw[hpk];omega) qa v1 hps;rw[e1];cases ok1 with
      |false=>exact⟨false,ps1,W1,rfl,b1,(λh=>by cases h),b3⟩
      |true=>
       obtain⟨hWW,new1,rfl,t1,q1⟩:=b2 rfl;subst hWW;obtain⟨ok2,ps2,W2,e2,d1,d2,d3⟩:=ih f qa (k+1) (2 * i+1) v.Xf (ps++new1) W1 n qa qa qa (by rw[hpk];omega) qa v1 b1;refine⟨ok2,ps2,W2,?_,d1,λhd=>?_,d3⟩
       ·rw[<-hw2]at e2;exact e2
       ·obtain⟨hW2,new2,rfl,t2,q2⟩:=d2 hd;refine⟨hW2,new1++new2,by rw[xo],?_,λx hx=>(xh.1 hx).elim (q1 x) (q2 x)⟩;have f1:2 * i * 2 ^ f=i * 2 ^ (f+1):=by rw[wN,xr (2 ^ f) 2,<-xu,xr i 2]
        have f2:(2 * i+1+1) * 2 ^ f=(i+1) * 2 ^ (f+1):=by rw[show 2 * i+1+1=2 * (i+1) from qa,wN,xr (2 ^ f) 2,<-xu,xr (i+1) 2]
        exact(f1▸t1).append (f2▸t2)
     ·rw[qb c3];exact⟨false,ps,_,rfl,hps,(λh=>by cases h),λ_=>unk⟩
def Kze (s:azd)(p q:List Int):Bool:=(czd s !=0)||(!azx s.Xe p|| !azx s.Xe q)
theorem Hzj (s:azd)(p q:List Int)(d:Int)(ok:Bool)(ps:List az6)(W:XW)(h0:0<=d)(h1:d<=20)
 (he:exO NN s p q d 0 0 nl nl W0=some (exR ok ps W s p q d)):(iz6 s p q d).o=some (bif Kze s p q then zzj else Kzq ok ps W):=by
 have ec:(Cz2 0 0 nl nl 0 nl 0 0 nl 0 nl nl p q s.Xe.Xa s.Xe.Xi s.Xc s.Xj d).o=some (exR ok ps W s p q d):=he;have e0:(ezb ⟨s.Xe,s.Xc,s.Xj⟩).o=some (czd s):=gz1 s;show(nzn s p q d).run NN=_;simp only[nzn,qk,e0,kze,qL,bzd,ezd,az9,ec];rw[qh (p:=d<0) qa,qh (p:=d>20) qa];unfold Kze;generalize ((czd s !=0)||(!azx s.Xe p|| !azx s.Xe q))=bad;cases bad with
 |true=>rfl
 |false=>cases ok<;>rfl
structure ProveOk (s:azd) (p q:List Int) (d:Int) (r:azo):Prop where
 kind:r.Xl=0\/r.Xl=1\/r.Xl=2
 ready:r.Xl≠0->czd s=0/\azx s.Xe p=true/\azx s.Xe q=true
 tiles:r.Xl=1->TileF d (bzy s).length 0 r.Xo (2 ^ d.toNat)
 free:r.Xl=1->∀x∈r.Xo,Vz1 s p q d x
 empty:r.Xl=1->r.At=⟨0,0,[]⟩
 none:r.Xl≠1->r.Xo=[]
 depth:0<=r.At.Xg/\r.At.Xg<=d
 index:0<=r.At.Xh/\r.At.Xh<2 ^ r.At.Xg.toNat
 norm:r.At.Xf=[]
 coll:r.Xl=2->az0o s (czw p q r.At.Xg r.At.Xh).1 r.Xk=true
 wit:r.Xl≠2->r.Xk=Qzp
 lens:r.Xk.Left.length<=8/\r.Xk.Xx.length<=8
 bd:PsB r.Xo
theorem Lzx (s:azd)(p q:List Int)(hp:p.length<4294967296)(hq:q.length<4294967296){d:Int}(h0:0<=d)(h20:d<=20):
 ∃r,(iz6 s p q d).o=some r/\ProveOk s p q d r:=by
 have nb:PsB nl:=⟨by simp[nl],by simp[nl]⟩;obtain⟨ok,ps,W,e1,b1,b2,b3⟩:=az6y s p q hp hq h20 d.toNat 0 0 nl nl W0 NN qa qa qa (by decide) (by show _<=4294967296;omega) (by simp[nl]) nb;refine⟨_,Hzj s p q d ok ps W h0 h20 e1,?_⟩;cases hb:Kze s p q with
 |true=>exact⟨.inl rfl,(λh=>absurd rfl h),(λh=>by cases h),(λh=>by cases h),(λh=>by cases h),λ_=>rfl,⟨xi _,h0⟩,⟨xi _,(show(0:Int)<2 ^ (0:Int).toNat by decide)⟩,rfl,(λh=>by cases h),λ_=>rfl,⟨by simp[zzj,nl],by simp[zzj,nl]⟩,nb⟩
 |false=>
  have rd:czd s=0/\azx s.Xe p=true/\azx s.Xe q=true:=by
   simpa[Kze]using hb
  cases ok with
  |true=>
   obtain⟨_,new,hn,ht,hq⟩:=b2 rfl;have hn:ps=new:=hn;subst hn;have ht:TileF d (bzy s).length (0 * 2 ^ d.toNat) ps ((0+1) * 2 ^ d.toNat):=ht;rw[Int.zero_mul,Int.zero_add,Int.one_mul]at ht;exact⟨.inr (.inl rfl),λ_=>rd,λ_=>ht,λ_=>hq,λ_=>rfl,(λh=>absurd rfl h),⟨xi _,h0⟩,⟨xi _,(show(0:Int)<2 ^ (0:Int).toNat by decide)⟩,rfl,(λh=>by cases h),λ_=>rfl,⟨by simp[Kzq,nl],by simp[Kzq,nl]⟩,b1⟩
  |false=>
   obtain⟨c1,c2,c3,c4,c5⟩:=b3 rfl;have pb:PsB W.2.1:=by rw[c1];exact nb
   rcases c5 with⟨k0,k1⟩|⟨k0,k1,k2,k3⟩
   ·have w:(Kzq false ps W).Xk=Qzp:=by
     show(⟨W.2.2.2.2.2.1,W.2.2.2.2.2.2.1,W.2.2.2.2.2.2.2⟩:bze)=Qzp;rw[k1];rfl
    refine⟨.inl k0,(λh=>absurd k0 h),λh=>?_,λh=>?_,λh=>?_,λ_=>c1,c2,c3,c4,λh=>?_,λ_=>w,?_,pb⟩
    ·have h:W.1=1:=h;omega
    ·have h:W.1=1:=h;omega
    ·have h:W.1=1:=h;omega
    ·have h:W.1=2:=h;omega
    ·show(Kzq false ps W).Xk.Left.length<=8/\(Kzq false ps W).Xk.Xx.length<=8;rw[w];simp[Qzp,nl]
   ·refine⟨.inr (.inr k0),λ_=>rd,λh=>?_,λh=>?_,λh=>?_,λ_=>c1,c2,c3,c4,λ_=>k1,λh=>absurd k0 h,⟨k2,k3⟩,pb⟩
    ·have h:W.1=1:=h;omega
    ·have h:W.1=1:=h;omega
    ·have h:W.1=1:=h;omega
open Go.Proofs
theorem pow9 {k:Int}(h0:0<=k)(h1:k<=20):1<=(2:Int) ^ k.toNat/\(2:Int) ^ k.toNat<=1048576:=by
 have:=az2p (k:=k.toNat) qa;have:=czl k.toNat;omega
end Go.Abs
