import Derived.Test.YtjonhijmljhjlaaGreatYIDL3
import Derived.Test.YtjonhijmljhjlaaGreatYIDL2
import Derived.Test.YtjonhijmljhjlaaGreatYID3
import Derived.Test.YtjonhijmljhjlaaGreatYIPLib
open Bool renaming not_false->xo,and_eq_true->qn,eq_iff_iff->qZ,not_eq_true'->wd,or_eq_false_iff->qq,true_and->qS,or_eq_true->wc,not_true->qP,false_and->wJ,and_false->wO,and_self->qT
open Classical renaming byContradiction->x7
open Decidable renaming decide->qx
open Go.IntKind renaming i64->qv
open Inhabited renaming default->qw
open Int renaming toNat_natCast->qH,tdiv_eq_ediv_of_nonneg->xj,pow_succ->wM,neg_tdiv->xw,pow_zero->xx,tdiv_one->xz,one_mul->wu,zero_mul->xA
open List renaming length_set->wx,replicate->qu,length_replicate->wz,take_add_one->xC,getD_eq_getElem?_getD->wo,getElem?_eq_getElem->wD,filter_append->xD,filter_cons->xE,length_filter_le->xF,length_cons->wA,length_nil->w7,append_nil->xu,take_length->wZ,length_append->xb,append_assoc->xn,nil_append->wV,drop_eq_nil_of_le->xl,mem_append->xg,findIdx?_eq_none_iff->xH,length_singleton->xc,findIdx?_eq_some_iff_getElem->xI,foldl_append->wR,map_append->xJ,map_cons->xK,sum_cons->xL,mem_cons->wB,length_take->xM,mem_singleton->wN,prefix_rfl->xN,all_append->xO,all_cons->xP,all_nil->xQ,map_nil->xR,mem_cons_self->xS,getElem_of_mem->wC,getElem?_set->xT,ext_getElem->xU,pairwise_append->xV,pairwise_cons->xW,getElem?_append->xX,length->xY,drop_eq_getElem_cons->xZ,mem_of_mem_take->x8
open Nat renaming pow_le_pow_right->wt,le_refl->ql,pow_succ->xG,lt_succ_self->xi,le_trans->wG
open Option renaming bind_some->qM,getD_some->wE
open Go.Abs.T renaming run->qk
noncomputable section
namespace Go.Abs
open Go.Proofs
open Go.Proofs
theorem Hz8 {σ τ R:Type}{f g:σ->Option (Step3 σ τ R)}(I:σ->Prop)(h:∀x,I x->f x=g x/\∀y,g x=some (.next y)->I y):∀ (N:Nat) (x:σ),I x->iter f N x=iter g N x
 |0,_,_=>rfl
 |N+1,x,hx=>by
  obtain⟨h1,h2⟩:=h x hx;simp only[iter,h1];cases hg:g x with
  |none=>rfl
  |some s=>cases s with
   |next y=>exact Hz8 I h N y (h2 y hg)
   |out _=>rfl
   |fin _=>rfl
theorem Yzi {σ σ' τ τ' R R':Type}{f:σ->Option (Step3 σ τ R)}{g:σ'->Option (Step3 σ' τ' R')}(S:σ->σ'->Prop)(T:τ->τ'->Prop)(U:R->R'->Prop)
 (h:∀x y,S x y->(∃x' y',f x=some (.next x')/\g y=some (.next y')/\S x' y')\/(∃a b,f x=some (.out a)/\g y=some (.out b)/\T a b)\/(∃a b,f x=some (.fin a)/\g y=some (.fin b)/\U a b)):
 ∀ (N:Nat) (x:σ) (y:σ'),S x y->(∀b,iter g N y=some (.inl b)->∃a,iter f N x=some (.inl a)/\T a b)/\(∀b,iter g N y=some (.inr b)->∃a,iter f N x=some (.inr a)/\U a b)
 |0,_,_,_=>⟨λb h=>by simp[iter]at h,λb h=>by simp[iter]at h⟩
 |N+1,x,y,hs=>by
  rcases h x y hs with⟨x',y',e1,e2,e3⟩|⟨a,b,e1,e2,e3⟩|⟨a,b,e1,e2,e3⟩
  ·have:=Yzi S T U h N x' y' e3;simp only[iter,e1,e2];exact this
  ·simp only[iter,e1,e2];exact⟨(λb' h'=>by cases h';exact⟨a,rfl,e3⟩),(λb' h'=>by cases h')⟩
  ·simp only[iter,e1,e2];exact⟨(λb' h'=>by cases h'),(λb' h'=>by cases h';exact⟨a,rfl,e3⟩)⟩
theorem az93 (l:List V3)(w:List Int)(hw:w.length=l.length)(hl:l.length<4294967296):(Bzn l w).o=(qzo l w).o:=by
 show(vz2 l w).run NN=(qzp l w).run NN;simp only[vz2,qzp,qk,T.ix];refine congrArg (λz=>andK z _) (Hz8 (λx=>0<=x.2.2.2/\x.2.2.2<=(l.length:Int)) (λx hx=>?_) NN _ ⟨by simp,by simp⟩);by_cases c:x.2.2.2<(l.length:Int)
 ·constructor
  ·rw[az6 c,az6 c];have h1:0<=x.2.2.2/\x.2.2.2<(l.length:Int):=⟨hx.1,c⟩;have h2:0<=x.2.2.2/\x.2.2.2<(w.length:Int):=qa
   have h3:x.2.2.2.toNat<w.length:=qa
   simp only[aza h1,aza h2,aza h3]
  ·intro y hy;have h1:0<=x.2.2.2/\x.2.2.2<(l.length:Int):=⟨hx.1,c⟩;have h2:0<=x.2.2.2/\x.2.2.2<(w.length:Int):=qa
   rw[az6 c]at hy;simp only[aza h1,aza h2,Option.some.injEq,Step3.next.injEq]at hy;subst hy;simp only;rw[w64 qa qa];omega
 ·constructor
  ·rw[az5 c,az5 c]
  ·intro y hy;rw[az5 c]at hy;cases hy
theorem Tz7 (l:List V3)(w:List Int)(i t:Int)(hw:w.length<4294967296):(pzb l w i t).o=(lzc w t i).o:=by
 show(kzo l w i t).run NN=(lzd w t i).run NN;simp only[kzo,lzd,qk];rw[aza (p:=w.length * 8<=140737488355328/\w.length<=maxLen) ⟨qa,by rw[azg];omega⟩];refine congrArg (λz=>andK z _) (Hz8 (λx=>x.1.length=w.length) (λx hx=>?_) NN _ rfl);constructor
 ·rw[hx]
 ·intro y hy;cases hc:qx (x.2.2<((x.1.length:Nat):Int))with
  |false=>rw[hc]at hy;cases hy
  |true=>
   rw[hc,qe]at hy;have hc:=of_decide_eq_true hc;by_cases c:0<=x.2.2
   ·have h1:0<=x.2.2/\x.2.2<(x.1.length:Int):=⟨c,hc⟩;have h2:x.2.2.toNat<x.1.length:=qa
    have h3:x.2.2.toNat<x.1.length/\0<=x.2.2.toNat:=⟨h2,qa⟩;simp only[aza h1,aza h2,aza h3,Option.some.injEq,Step3.next.injEq]at hy;subst hy;simp only[wx];exact hx
   ·rw[show grd (0<=x.2.2/\x.2.2<(x.1.length:Int)) _=none from by unfold grd;rw[qb (λh=>c h.1)]]at hy;cases hy
theorem Nzo (a b:V3):(lze a b).o=some (cz7 a b):=rfl
theorem Izs (a b:V3):(iz2 a b).o=some (rzi a b):=rfl
def clo (x:Int):Int:=cdiv (max x (qv.wrap (0-x))) 65536
def azae (v:V3)(m:Int):Bool:=qx (qv.wrap (qv.wrap (qv.wrap (0+qv.wrap (clo v.1 * clo v.1))+qv.wrap (clo v.2.1 * clo v.2.1))+qv.wrap (clo v.2.2 * clo v.2.2))<=qv.wrap (m * m))
theorem Uzh {v:V3}(h:inV v)(m:Int):(sz6 v m).o=some (azae v m):=by
 show(nzx v m).run NN=_;simp only[nzx,qk,T.ix,cz9 (h.1.max (InR.wr _)) (show(0:Int)<65536 by decide),cz9 (h.2.1.max (InR.wr _)) (show(0:Int)<65536 by decide),cz9 (h.2.2.max (InR.wr _)) (show(0:Int)<65536 by decide),qM];rfl
theorem az2f {v:V3}(h:inV v)(m:Int):(mze v m).o=some (azae v m):=by
 show(gze v m).run NN=_;simp only[gze,qk];have su:∀x:Int,InR x->(bzm (max x (qv.wrap (0-x))) 16).o=some (clo x):=λx hx=>su16 (hx.max (InR.wr _))
 refine(cz8 (λj=>((match j with|0=>0|1=>qv.wrap (0+qv.wrap (clo v.1 * clo v.1))|2=>qv.wrap (qv.wrap (0+qv.wrap (clo v.1 * clo v.1))+qv.wrap (clo v.2.1 * clo v.2.1))|_=>qv.wrap (qv.wrap (qv.wrap (0+qv.wrap (clo v.1 * clo v.1))+qv.wrap (clo v.2.1 * clo v.2.1))+qv.wrap (clo v.2.2 * clo v.2.2)):Int),(j:Int)))
  (qv.wrap (qv.wrap (qv.wrap (0+qv.wrap (clo v.1 * clo v.1))+qv.wrap (clo v.2.1 * clo v.2.1))+qv.wrap (clo v.2.2 * clo v.2.2))) 3 rfl (by decide) (λj hj=>?_) ?_).trans rfl
 ·rw[az6 (by simp only;omega),aza (by simp only;omega),qH,wn qa]
  match j,hj with
  |0,_=>rw[show([v.1,v.2.1,v.2.2]:List Int).getD 0 0=v.1 from rfl,su _ h.1];rfl
  |1,_=>rw[show([v.1,v.2.1,v.2.2]:List Int).getD 1 0=v.2.1 from rfl,su _ h.2.1];rfl
  |2,_=>rw[show([v.1,v.2.1,v.2.2]:List Int).getD 2 0=v.2.2 from rfl,su _ h.2.2];rfl
 ·rw[az5 (by simp only;omega)];rfl
def Wzj (a b:V3):Int:=if rzi a (cz7 a b)<=0 then 0 else min 256 (qv.wrap ((rzi a (cz7 a b)).tdiv (max 1 (qv.wrap ((rzi (cz7 a b) (cz7 a b)).tdiv 256)))))
theorem Nze (a b:V3):(tzf a b).o=some (Wzj a b):=by
 show(jz1 a b).run NN=_;simp only[jz1,qk,kzv,izd,qM,Wzj];by_cases c:rzi a (cz7 a b)<=0
 ·rw[az6 c,qc c]
 ·rw[az5 c,qb c,aza qa]
open Go.Proofs
theorem Gzn (a:Int)(k:Nat):(a.tdiv (2 ^ k)).tdiv 2=a.tdiv (2 ^ (k+1)):=by
 have p:=czp k;have key:∀a:Int,0<=a->(a.tdiv (2 ^ k)).tdiv 2=a.tdiv (2 ^ (k+1)):=λa ha=>by
  rw[xj ha,xj (Int.ediv_nonneg ha qa),xj ha,Int.ediv_ediv_of_nonneg qa,wM]
 rcases Int.le_total 0 a with h|h
 ·exact key a h
 ·have:=key (-a) qa;rw[xw,xw,xw]at this;omega
def hv (v:V3)(k:Nat):V3:=(v.1.tdiv (2 ^ k),v.2.1.tdiv (2 ^ k),v.2.2.tdiv (2 ^ k))
theorem azch {v:V3}(h:inV v)(k:Nat):inV (hv v k):=⟨h.1.tdiv (czp k),h.2.1.tdiv (czp k),h.2.2.tdiv (czp k)⟩
def Xzk (v:V3):Bool:=(v.1==0)&&((v.2.1==0)&&((v.2.2==0)&&true))
theorem zeroB_no {v:V3}:Xzk v=false↔v.1≠0\/v.2.1≠0\/v.2.2≠0:=by
 unfold Xzk;by_cases h1:v.1=0<;>by_cases h2:v.2.1=0<;>by_cases h3:v.2.2=0<;>simp[h1,h2,h3]
theorem Rzu {a:Int}(h:a< -16384\/a>16384):a.tdiv 2≠0:=by
 have e:=Int.mul_tdiv_add_tmod a 2;have l1:=Int.tmod_lt_of_pos a (show(0:Int)<2 by decide);have l2:=Int.lt_tmod_of_pos a (show(0:Int)<2 by decide);omega
theorem Rzz {v:V3}(h:inV v):(jzm v).o=(hza v).o:=by
 obtain⟨n,ok,hr,-⟩:=Czx h;rw[hr];have e0:(hza v).o=(jz7 v).run NN:=rfl;rw[e0]at hr;show(hz6 v).run NN=_;simp only[hz6,jz7,qk,T.ix]at hr⊢;cases hz:Xzk v with
 |true=>
  have hz':((v.1==0)&&((v.2.1==0)&&((v.2.2==0)&&true)))=true:=hz;rw[hz',qe]at hr;simp only[Option.some.injEq,Prod.mk.injEq]at hr;obtain⟨rfl,rfl⟩:=hr;have v0:v.1=0/\v.2.1=0/\v.2.2=0:=by
   unfold Xzk at hz;simpa using hz
  have nv:hze v 16384=true:=nearV_iff.2 qa;have e1:iter (λx29:Int×Int×Int=>((fz8 (x29.1,x29.2.1,x29.2.2)).o.bind λy40=>bif !y40 then some (Step3.next (qv.wrap (x29.1.tdiv 2),qv.wrap (x29.2.1.tdiv 2),qv.wrap (x29.2.2.tdiv 2)))else some (.out (x29.1,x29.2.1,x29.2.2)):Option (Step3 (Int×Int×Int) (Int×Int×Int) (V3×Bool)))) NN (v.1,v.2.1,v.2.2)=some (.inl v):=by
   suffices hN:∀N:Nat,iter (λx29:Int×Int×Int=>((fz8 (x29.1,x29.2.1,x29.2.2)).o.bind λy40=>bif !y40 then some (Step3.next (qv.wrap (x29.1.tdiv 2),qv.wrap (x29.2.1.tdiv 2),qv.wrap (x29.2.2.tdiv 2)))else some (.out (x29.1,x29.2.1,x29.2.2)):Option (Step3 (Int×Int×Int) (Int×Int×Int) (V3×Bool)))) (N+1) (v.1,v.2.1,v.2.2)=some (.inl v)from hN 4294967295
   intro N;simp only[iter,izj,qM];have:(v.1,v.2.1,v.2.2)=v:=rfl;rw[this,nv];rfl
  rw[e1];show some ((v.1,v.2.1,v.2.2), !((v.1==0)&&((v.2.1==0)&&((v.2.2==0)&&true))))=_;rw[hz'];rfl
 |false=>
  have hz':((v.1==0)&&((v.2.1==0)&&((v.2.2==0)&&true)))=false:=hz;rw[hz',qd]at hr;have nz:=zeroB_no.1 hz;have sim:∀ (N k:Nat),k<=49->Xzk (hv v k)=false->∀r,iter (λ(x6:Int)=>(grd (x6≠0) (grd (x6≠0) (grd (x6≠0) ((fzu ((qv.wrap (v.1.tdiv x6)),(qv.wrap (v.2.1.tdiv x6)),(qv.wrap (v.2.2.tdiv x6))) 16384).o.bind λy15=>
   bif y15 then some (.fin (((qv.wrap (v.1.tdiv x6)),(qv.wrap (v.2.1.tdiv x6)),(qv.wrap (v.2.2.tdiv x6))),true))else some (.next (qv.wrap (x6 * 2)))))):Option (Step3 Int U0 (V3×Bool)))) N (2 ^ k)=some (.inr r)->
   iter (λx29:Int×Int×Int=>((fz8 (x29.1,x29.2.1,x29.2.2)).o.bind λy40=>bif !y40 then some (Step3.next (qv.wrap (x29.1.tdiv 2),qv.wrap (x29.2.1.tdiv 2),qv.wrap (x29.2.2.tdiv 2)))else some (.out (x29.1,x29.2.1,x29.2.2)):Option (Step3 (Int×Int×Int) (Int×Int×Int) (V3×Bool)))) N (hv v k)=some (.inl r.1)/\r.2=true/\Xzk r.1=false:=by
   intro N;induction N with
   |zero=>intro k _ _ r hr;simp[iter]at hr
   |succ N ih=>
    intro k hk hz r hr;have p:=czp k;have hi:=azch h k;have ehv:(qv.wrap (v.1.tdiv (2 ^ k)),qv.wrap (v.2.1.tdiv (2 ^ k)),qv.wrap (v.2.2.tdiv (2 ^ k)))=hv v k:=by
     have a:=hi.1.w;have b:=hi.2.1.w;have c:=hi.2.2.w;simp only[hv]at a b c⊢;rw[a,b,c]
    have hp2:(2:Int) ^ k<=562949953421312:=by
     have:(2:Int) ^ k<=2 ^ 49:=by exact_mod_cast wt (by decide:0<2) (show k<=49 from qa)
     have e:(2:Int) ^ 49=562949953421312:=by decide
     omega
    simp only[iter]at hr⊢;rw[aza qa,aza qa,aza qa,gzq _ (by decide) (by decide),ehv]at hr;have e3:((hv v k).1,(hv v k).2.1,(hv v k).2.2)=hv v k:=rfl;simp only[qM]at hr;rw[e3,izj];simp only[qM];cases hn:hze (hv v k) 16384 with
    |true=>
     rw[hn]at hr;simp only[qe,Option.some.injEq,Sum.inr.injEq]at hr;subst hr;exact⟨rfl,rfl,hz⟩
    |false=>
     rw[hn]at hr;simp only[qd]at hr;rw[w64 (x:=2 ^ k * 2) qa qa,<-wM]at hr;have hk':k<49:=by
      by_cases e:k=49
      ·exfalso
       have t1:=vzm h.1;have t2:=vzm h.2.1;have t3:=vzm h.2.2;have e49:(2:Int) ^ 49=562949953421312:=by decide
       have:hze (hv v k) 16384=true:=by
        rw[e];unfold hv;rw[e49];exact nearV_iff.2 ⟨t1,t2,t3⟩
       rw[hn]at this;cases this
      ·omega
     have enx:(qv.wrap ((hv v k).1.tdiv 2),qv.wrap ((hv v k).2.1.tdiv 2),qv.wrap ((hv v k).2.2.tdiv 2))=hv v (k+1):=by
      have hj:=azch h (k+1);have a:=hj.1.w;have b:=hj.2.1.w;have c:=hj.2.2.w;simp only[hv,Gzn]at a b c⊢;rw[a,b,c]
     have hz2:Xzk (hv v (k+1))=false:=by
      have:¬ ((-16384<=(hv v k).1/\(hv v k).1<=16384)/\(-16384<=(hv v k).2.1/\(hv v k).2.1<=16384)/\(-16384<=(hv v k).2.2/\(hv v k).2.2<=16384)):=λh'=>by
       rw[nearV_iff.2 h']at hn;cases hn
      rw[zeroB_no];have f1:(hv v (k+1)).1=(hv v k).1.tdiv 2:=(Gzn _ _).symm;have f2:(hv v (k+1)).2.1=(hv v k).2.1.tdiv 2:=(Gzn _ _).symm;have f3:(hv v (k+1)).2.2=(hv v k).2.2.tdiv 2:=(Gzn _ _).symm;rw[f1,f2,f3];by_cases a1:(hv v k).1< -16384\/(hv v k).1>16384
      ·exact .inl (Rzu a1)
      ·by_cases a2:(hv v k).2.1< -16384\/(hv v k).2.1>16384
       ·exact .inr (.inl (Rzu a2))
       ·exact .inr (.inr (Rzu qa))
     simp only[xo,qe];rw[enx];exact ih (k+1) qa hz2 r hr
  have h0:hv v 0=v:=by
   unfold hv;rw[xx,xz,xz,xz]
  have s0:=sim NN 0 qa (by rw[h0];exact hz);rw[h0,xx]at s0;generalize iter _ NN (1:Int)=o at hr s0;cases o with
  |none=>cases hr
  |some z=>cases z with
   |inl _=>cases hr
   |inr r=>
    have hr:some r=some (n,ok):=hr;injection hr with hr
    subst hr;obtain⟨s1,s2,s3⟩:=s0 _ rfl;have e5:(v.1,v.2.1,v.2.2)=v:=rfl;rw[e5,s1];show some ((n.1,n.2.1,n.2.2), !((n.1==0)&&((n.2.1==0)&&((n.2.2==0)&&true))))=_;have s3':((n.1==0)&&((n.2.1==0)&&((n.2.2==0)&&true)))=false:=s3;simp only at s2;rw[s3',s2];rfl
open Go.Proofs
def bI (c:Int->Int->Bool)(f:Nat->Int):Nat->Nat
 |0=>0
 |j+1=>bif c (f j) (f (bI c f j))then j else bI c f j
theorem az5i (c:Int->Int->Bool)(f:Nat->Int):∀j,bI c f j<=j-1
 |0=>ql _
 |j+1=>by
  have:=az5i c f j;simp only[bI];cases c (f j) (f (bI c f j))<;>simp only[qe,qd]<;>omega
def fN (n:V3)(l:List V3)(j:Nat):Int:=rzi n (l.getD j qw)
section
variable {n:V3} {l:List V3} (h0:1<=l.length) (hl:l.length<4294967296)
include h0 hl
theorem aza7 (w:List Int):(zzm l w n).o=some (fN n l (bI ltB (fN n l) l.length),(bI ltB (fN n l) l.length:Int)):=by
 show(nzo l w n).run NN=_;simp only[nzo,qk,izd,qM];rw[aza qa];refine(cz8 (λj=>(fN n l (bI ltB (fN n l) j),((bI ltB (fN n l) j:Nat):Int),(j:Int))) (fN n l (bI ltB (fN n l) l.length),(bI ltB (fN n l) l.length:Int)) l.length rfl hl (λj hj=>?_) ?_).trans rfl
 ·rw[az6 (by simpa using hj),aza ⟨by simp,by simpa using hj⟩];simp only[qH,wn (show j<4294967296 from qa)];have e:bI ltB (fN n l) (j+1)=bif ltB (fN n l j) (fN n l (bI ltB (fN n l) j))then j else bI ltB (fN n l) j:=rfl
  rw[e];by_cases hq:fN n l j<fN n l (bI ltB (fN n l) j)
  ·rw[show ltB (fN n l j) (fN n l (bI ltB (fN n l) j))=true from qg hq,az6 (show rzi n (l.getD j qw)<fN n l (bI ltB (fN n l) j)from hq)];rfl
  ·rw[show ltB (fN n l j) (fN n l (bI ltB (fN n l) j))=false from qh hq,az5 (show ¬rzi n (l.getD j qw)<fN n l (bI ltB (fN n l) j)from hq)];rfl
 ·rw[az5 (by simp)]
theorem Zzw (w:List Int):(ozv l w n).o=some (fN n l (bI gtB (fN n l) l.length),(bI gtB (fN n l) l.length:Int)):=by
 show(gzz l w n).run NN=_;simp only[gzz,qk,izd,qM];rw[aza qa];refine(cz8 (λj=>(fN n l (bI gtB (fN n l) j),((bI gtB (fN n l) j:Nat):Int),(j:Int))) (fN n l (bI gtB (fN n l) l.length),(bI gtB (fN n l) l.length:Int)) l.length rfl hl (λj hj=>?_) ?_).trans rfl
 ·rw[az6 (by simpa using hj),aza ⟨by simp,by simpa using hj⟩];simp only[qH,wn (show j<4294967296 from qa)];have e:bI gtB (fN n l) (j+1)=bif gtB (fN n l j) (fN n l (bI gtB (fN n l) j))then j else bI gtB (fN n l) j:=rfl
  rw[e];by_cases hq:fN n l j>fN n l (bI gtB (fN n l) j)
  ·rw[show gtB (fN n l j) (fN n l (bI gtB (fN n l) j))=true from qg hq,az6 (show rzi n (l.getD j qw)>fN n l (bI gtB (fN n l) j)from hq)];rfl
  ·rw[show gtB (fN n l j) (fN n l (bI gtB (fN n l) j))=false from qh hq,az5 (show ¬rzi n (l.getD j qw)>fN n l (bI gtB (fN n l) j)from hq)];rfl
 ·rw[az5 (by simp)]
theorem Szz {c:Int->Int->Bool}{sg:Int}(hc:∀i j,i<l.length->j<l.length->qx (qv.wrap (sg * fN n l i)<qv.wrap (sg * fN n l j))=c (fN n l i) (fN n l j))(hi:∀x,c x x=false):
 (fzc n l sg).o=some (bI c (fN n l) l.length:Int):=by
 show(iz1 n l sg).run NN=_;simp only[iz1,qk,Izs,qM];have b1:bI c (fN n l) 1=0:=by show(bif c (fN n l 0) (fN n l 0)then 0 else 0)=0;rw[hi];rfl
 refine(cz8 (λj=>(((bI c (fN n l) (j+1):Nat):Int),((j+1:Nat):Int))) ((bI c (fN n l) l.length:Nat):Int) (l.length-1) (by rw[b1];rfl) (show l.length-1<4294967296 from qa) (λj hj=>?_) ?_).trans rfl
 ·have bl:=az5i c (fN n l) (j+1);rw[az6 (by simp only;omega),aza (by simp only;omega),aza (by simp only;omega)];simp only[qH,wn (show j+1<4294967296 from qa)];have hcc:=hc (j+1) (bI c (fN n l) (j+1)) qa qa;have ed:qx (qv.wrap (sg * rzi n (l.getD (j+1) qw))<qv.wrap (sg * rzi n (l.getD (bI c (fN n l) (j+1)) qw)))=c (fN n l (j+1)) (fN n l (bI c (fN n l) (j+1))):=hcc;rw[ed];have e:bI c (fN n l) (j+2)=bif c (fN n l (j+1)) (fN n l (bI c (fN n l) (j+1)))then j+1 else bI c (fN n l) (j+1):=rfl
  rw[e];cases c (fN n l (j+1)) (fN n l (bI c (fN n l) (j+1)))<;>rfl
 ·rw[show l.length-1+1=l.length from qa,az5 (by simp)]
end
theorem az9q {l:List V3}(h:fewV l=true){i:Nat}(hi:i<l.length):hze (l.getD i qw) 268435456=true:=by
 simp only[fewV,qn]at h;have:=noneB_iff.1 h.2 i hi;simpa[farN]using this
theorem az5u {n:V3}(hn:cz0 n=true){l:List V3}(hl:fewV l=true){i:Nat}(hi:i<l.length): -13194139533312<=fN n l i/\fN n l i<=13194139533312:=by
 obtain⟨⟨b1,b2,b3⟩,-⟩:=Mzs hn;have g:=nearV_iff.1 (az9q hl hi);unfold fN rzi;generalize l.getD i qw=v at g⊢;have p1:=Qzq b1 g.1;have p2:=Qzq b2 g.2.1;have p3:=Qzq b3 g.2.2;rw[w64 (x:=n.1 * v.1) qa qa,w64 (x:=n.2.1 * v.2.1) qa qa,w64 (x:=n.2.2 * v.2.2) qa qa,w64 (x:=n.1 * v.1+n.2.1 * v.2.1) qa qa,w64 qa qa];omega
theorem az9p {n:V3}(hn:cz0 n=true){l:List V3}(hl:fewV l=true):(fzc n l 1).o=some (bI ltB (fN n l) l.length:Int):=by
 have:=Hz0 hl;refine Szz qa qa (λi j hi hj=>?_) (λx=>by simp[ltB]);have a:=az5u hn hl hi;have b:=az5u hn hl hj;rw[w64 (x:=1 * fN n l i) qa qa,w64 (x:=1 * fN n l j) qa qa,wu,wu];rfl
theorem az9o {n:V3}(hn:cz0 n=true){l:List V3}(hl:fewV l=true):(fzc n l (-1)).o=some (bI gtB (fN n l) l.length:Int):=by
 have:=Hz0 hl;refine Szz qa qa (λi j hi hj=>?_) (λx=>by simp[gtB]);have a:=az5u hn hl hi;have b:=az5u hn hl hj;rw[w64 (x:= -1 * fN n l i) qa qa,w64 (x:= -1 * fN n l j) qa qa];unfold gtB;rw[decide_eq_decide];omega
theorem azd1 (g:Nat->Bool):czh g 3=(!g 0&&(!g 1&& !g 2)):=by
 rw[qZ,noneB_iff];simp only[qn,wd];exact⟨λh=>⟨h 0 qa,h 1 qa,h 2 qa⟩,λh i hi=>by
  match i,hi with
  |0,_=>exact h.1
  |1,_=>exact h.2.1
  |2,_=>exact h.2.2⟩
def bey3 (x:Int):Bool:=qx (x< -268435456)||qx (x>268435456)
theorem az10 (v:V3):(!bey3 v.1&&(!bey3 v.2.1&& !bey3 v.2.2))=hze v 268435456:=by
 rw[qZ];simp only[qn,wd,bey3,qq,qi,nearV_iff];omega
theorem Jzl (l:List V3):(jzi l).o=some (fewV l):=by
 show(gzv l).run NN=_;simp only[gzv,qk,bzf,az7,ez1];unfold fewV;by_cases h:1<=l.length/\l.length<=8
 ·rw[qh (p:=(l.length:Int)<1) qa,qh (p:=(l.length:Int)>8) qa,qg h,ez3 (by rfl),qS];refine(ezy (λi=>sw (farN l i) false) l.length qa (λj hj=>?_) ?_).trans ?_
  ·rw[az6 qa,aza qa,qH,wn qa];refine(ezy (λi=>sw (bey3 (([(l.getD j qw).1,(l.getD j qw).2.1,(l.getD j qw).2.2]:List Int).getD i 0)) (Step3.fin false)) 3 (by decide) (λk hk=>?_) ?_).trans ?_
   ·rw[az6 qa,aza qa,wn qa,qH,<-dzr];rfl
   ·rw[az5 qa]
   ·rw[dz9,azd1];have e:(!(bey3 (([(l.getD j qw).1,(l.getD j qw).2.1,(l.getD j qw).2.2]:List Int).getD 0 0))&&(!(bey3 (([(l.getD j qw).1,(l.getD j qw).2.1,(l.getD j qw).2.2]:List Int).getD 1 0))&& !(bey3 (([(l.getD j qw).1,(l.getD j qw).2.1,(l.getD j qw).2.2]:List Int).getD 2 0))))=hze (l.getD j qw) 268435456:=az10 _;rw[e];unfold farN;cases hze (l.getD j qw) 268435456<;>rfl
  ·rw[az5 qa]
  ·rw[dz9];cases czh (farN l) l.length<;>rfl
 ·rw[dzo (by simp only[wc,qf];omega),qh h];rfl
theorem az0r {σ σ' τ τ' R R':Type}{f:σ->Option (Step3 σ τ R)}{g:σ'->Option (Step3 σ' τ' R')}{k1:τ->Option R}{k2:τ'->Option R'}{F:R->Option R'}{x:σ}{y:σ'}{z:R'}(S:σ->σ'->Prop)
 (h:∀x y,S x y->(∃x' y',f x=some (.next x')/\g y=some (.next y')/\S x' y')\/(∃a b,f x=some (.fin a)/\g y=some (.fin b)/\F a=some b))
 (hs:S x y) (hk:∀b,k2 b=none) (hz:andK (iter g NN y) k2=some z):(andK (iter f NN x) k1).bind F=some z:=by
 have sim:=Yzi (f:=f) (g:=g) S (λ_ _=>False) (λa b=>F a=some b) (λx y hs=>(h x y hs).elim .inl λh=>.inr (.inr h)) NN x y hs;generalize iter g NN y=o at hz sim;cases o with
 |none=>cases hz
 |some u=>cases u with
  |inl b=>have hz:k2 b=some z:=hz;rw[hk]at hz;cases hz
  |inr b=>
   have hz:some b=some z:=hz;cases hz;obtain⟨a,e1,e2⟩:=sim.2 _ rfl;rw[e1];exact e2
theorem Uz1 (l:List V3)(h1:1<=l.length)(h2:l.length<4294967296):(ize l).o=some (l,(qu l.length (0:Int)).set 0 65536):=by
 show(gzf l).run NN=_;simp only[gzf,qk];rw[aza qa,aza (by simp;omega),aza (by simp;omega)];simp
theorem az0x (a b:List V3)(m:Int):(ezr a b m 64).o=(fz4 a b m 64).o:=by
 obtain⟨z,hz,-⟩:=Nzn a b m 64;rw[hz];have e0:(fz4 a b m 64).o=(jz9 a b m 64).run NN:=rfl;rw[e0]at hz;show(gzu a b m 64).run NN=_;simp only[gzu,jz9,qk,T.ix,Lzx,Jzl,qM,bzf,az7]at hz⊢;cases ha:fewV a with
 |false=>rw[ha]at hz;exact hz
 |true=>
  cases hb:fewV b with
  |false=>rw[ha,hb]at hz;exact hz
  |true=>
   rw[ha,hb]at hz;have la:=Hz0 ha;have lb:=Hz0 hb;simp only[qP,qd,ez1]at hz⊢;cases hc:qx (m<0)||(qx (m>2097152)||(qx ((64:Int)<0)||qx ((64:Int)>64)))with
   |true=>rw[hc]at hz;exact hz
   |false=>
    rw[hc]at hz;simp only[qq,qi]at hc;simp only[qd,qH,wz,Uz1 a la.1 qa,Uz1 b lb.1 qa,qM]at hz⊢;rw[aza ⟨qa,qa,qa,qa⟩,aza ⟨qa,qa,qa,qa⟩,aza ⟨qa,qa⟩,aza ⟨by simp;omega,qa⟩,aza ⟨qa,qa⟩,aza ⟨by simp;omega,qa⟩]at hz;show((rzd a ((qu a.length (0:Int)).set 0 65536) b ((qu b.length (0:Int)).set 0 65536) 0 0 0 0 m 64).run NN).bind _=_;simp only[rzd,qk,T.ix];refine az0r (λx y=>y=(x.2.2.1,x.2.2.2.1,x.2.2.2.2.1,x.1,x.2.1,x.2.2.2.2.2)/\x.1.length=a.length/\x.2.1.length=b.length/\0<=x.2.2.2.2.2/\x.2.2.2.2.2<=64) ?_ ⟨rfl,by simp,by simp,by simp,by simp⟩ (λ_=>rfl) hz;rintro⟨wl,wr,c1,c2,c3,st⟩ _ ⟨rfl,hl,hr,h0,h1⟩;simp only at hl hr h0 h1⊢;obtain⟨s1,e1,-⟩:=wzx a wl hl qa;obtain⟨s2,e2,-⟩:=wzx b wr hr qa;have hi:inV (cz7 s1 s2):=⟨InR.wr _,InR.wr _,InR.wr _⟩;simp only[az93 a wl hl qa,az93 b wr hr qa,e1,e2,kzv,Nzo,qM,az2f hi,Uzh hi];cases azae (cz7 s1 s2) m with
    |true=>exact .inr ⟨_,_,rfl,rfl,rfl⟩
    |false=>
     have hx:inV (qv.wrap ((cz7 s1 s2).1.tdiv 65536),qv.wrap ((cz7 s1 s2).2.1.tdiv 65536),qv.wrap ((cz7 s1 s2).2.2.tdiv 65536)):=⟨InR.wr _,InR.wr _,InR.wr _⟩;obtain⟨nm,e4,e5⟩:=ozy hx.1 hx.2.1 hx.2.2;have e6:=Rzz hx;rw[e4]at e6;simp only[e4,<-e6,qM,qd];cases hnm:nm.2 with
     |false=>exact .inr ⟨_,_,rfl,rfl,rfl⟩
     |true=>
      have hu:=e5 hnm;simp only[qP,qd,aza7 (n:=nm.1) la.1 (show a.length<4294967296 from qa),Zzw (n:=nm.1) lb.1 (show b.length<4294967296 from qa),az9p hu ha,az9o hu hb,Izs,uzp,Az8,qM,qH];have i1:=az5i ltB (fN nm.1 a) a.length;have i2:=az5i gtB (fN nm.1 b) b.length;generalize hI:bI ltB (fN nm.1 a) a.length=I at i1⊢;generalize hJ:bI gtB (fN nm.1 b) b.length=J at i2⊢;have g1:0<=(I:Int)/\(I:Int)<(a.length:Int):=qa
      have g2:0<=(J:Int)/\(J:Int)<(b.length:Int):=qa
      have f1:rzi nm.1 (a.getD I qw)=fN nm.1 a I:=rfl;have f2:rzi nm.1 (b.getD J qw)=fN nm.1 b J:=rfl;simp only[aza g1,aza g2,f1,f2,Nze,qM];cases qx (qv.wrap (fN nm.1 a I-fN nm.1 b J)>qv.wrap (Wzf nm.1 * m))with
      |true=>exact .inr ⟨_,_,rfl,rfl,rfl⟩
      |false=>
       simp only[qd];by_cases hst:st=64
       ·rw[czn hst,qg (p:=st>=64) qa];exact .inr ⟨_,_,rfl,rfl,rfl⟩
       ·rw[czo hst,qh (p:=st>=64) qa];simp only[Bool.false_or];by_cases hp:rzi ((qv.wrap ((cz7 s1 s2).1.tdiv 65536),qv.wrap ((cz7 s1 s2).2.1.tdiv 65536),qv.wrap ((cz7 s1 s2).2.2.tdiv 65536)):V3) (cz7 ((qv.wrap ((cz7 s1 s2).1.tdiv 65536),qv.wrap ((cz7 s1 s2).2.1.tdiv 65536),qv.wrap ((cz7 s1 s2).2.2.tdiv 65536)):V3) (cz7 (a.getD I qw) (b.getD J qw)))<=0
        ·have h0':Wzj ((qv.wrap ((cz7 s1 s2).1.tdiv 65536),qv.wrap ((cz7 s1 s2).2.1.tdiv 65536),qv.wrap ((cz7 s1 s2).2.2.tdiv 65536)):V3) (cz7 (a.getD I qw) (b.getD J qw))=0:=by unfold Wzj;rw[qc hp]
         rw[az6 hp,h0',czn rfl];exact .inr ⟨_,_,rfl,rfl,rfl⟩
        ·have h0':min 256 (qv.wrap ((rzi ((qv.wrap ((cz7 s1 s2).1.tdiv 65536),qv.wrap ((cz7 s1 s2).2.1.tdiv 65536),qv.wrap ((cz7 s1 s2).2.2.tdiv 65536)):V3) (cz7 ((qv.wrap ((cz7 s1 s2).1.tdiv 65536),qv.wrap ((cz7 s1 s2).2.1.tdiv 65536),qv.wrap ((cz7 s1 s2).2.2.tdiv 65536)):V3) (cz7 (a.getD I qw) (b.getD J qw)))).tdiv (max 1 (qv.wrap ((rzi (cz7 ((qv.wrap ((cz7 s1 s2).1.tdiv 65536),qv.wrap ((cz7 s1 s2).2.1.tdiv 65536),qv.wrap ((cz7 s1 s2).2.2.tdiv 65536)):V3) (cz7 (a.getD I qw) (b.getD J qw))) (cz7 ((qv.wrap ((cz7 s1 s2).1.tdiv 65536),qv.wrap ((cz7 s1 s2).2.1.tdiv 65536),qv.wrap ((cz7 s1 s2).2.2.tdiv 65536)):V3) (cz7 (a.getD I qw) (b.getD J qw)))).tdiv 256)))))=Wzj ((qv.wrap ((cz7 s1 s2).1.tdiv 65536),qv.wrap ((cz7 s1 s2).2.1.tdiv 65536),qv.wrap ((cz7 s1 s2).2.2.tdiv 65536)):V3) (cz7 (a.getD I qw) (b.getD J qw)):=by unfold Wzj;rw[qb hp]
         rw[az5 hp,aza qa,h0'];generalize Wzj ((qv.wrap ((cz7 s1 s2).1.tdiv 65536),qv.wrap ((cz7 s1 s2).2.1.tdiv 65536),qv.wrap ((cz7 s1 s2).2.2.tdiv 65536)):V3) (cz7 (a.getD I qw) (b.getD J qw))=T;by_cases ht:T=0
         ·rw[czn ht,czn ht];exact .inr ⟨_,_,rfl,rfl,rfl⟩
         ·rw[czo ht,czo ht,Tz7 a wl _ T qa,Tz7 b wr _ T qa];obtain⟨u1,e7,l1⟩:=pzj wl T I qa qa qa;obtain⟨u2,e8,l2⟩:=pzj wr T J qa qa qa;simp only[e7,e8,qM];exact .inl ⟨_,_,rfl,rfl,rfl,by simp only;omega,by simp only;omega,by simp only;rw[w64 qa qa];omega,by simp only;rw[w64 qa qa];omega⟩
open Go.Proofs
def tot (g:Nat->Int):Nat->Int
 |0=>0
 |j+1=>tot g j+g j
theorem azbp (a b:Int):qv.wrap (qv.wrap a * b)=qv.wrap (a * b):=by
 have h:∃t:Int,qv.wrap a=a-18446744073709551616 * t:=⟨(a+9223372036854775808) / 18446744073709551616,by rw[wr];omega⟩;obtain⟨t,ht⟩:=h;rw[ht,Int.sub_mul,Int.mul_assoc];generalize a * b=m;generalize t * b=u;simp only[wr];omega
theorem Fz7 (l:List V3)(hl:l.length<4294967296):(pze l).o=some (qv.wrap (tot (λi=>(l.getD i qw).1) l.length),qv.wrap (tot (λi=>(l.getD i qw).2.1) l.length),qv.wrap (tot (λi=>(l.getD i qw).2.2) l.length)):=by
 show(kzy l).run NN=_;simp only[kzy,qk,T.ix]
 refine(cz8 (λj=>(qv.wrap (tot (λi=>(l.getD i qw).1) j),qv.wrap (tot (λi=>(l.getD i qw).2.1) j),qv.wrap (tot (λi=>(l.getD i qw).2.2) j),(j:Int)))
  (qv.wrap (tot (λi=>(l.getD i qw).1) l.length),qv.wrap (tot (λi=>(l.getD i qw).2.1) l.length),qv.wrap (tot (λi=>(l.getD i qw).2.2) l.length)) l.length rfl hl (λj hj=>?_) ?_).trans rfl
 ·rw[az6 (by simpa using hj),aza ⟨by simp,by simpa using hj⟩];simp only[qH,wn (show j<4294967296 from qa),Rzw,tot]
 ·rw[az5 (by simp)]
theorem Qzn {R:Type}{k:Int->Option R}(l:List V3)(pr:V3->Int)(m c:Int)(hc:qv.wrap c=c)(hl:l.length<4294967296):
 andK (iter (λx:Int×Int=>(bif qx (x.2<((l.length:Nat):Int))then grd (0<=x.2/\x.2<((l.length:Nat):Int)) (some (Step3.next (qv.wrap (x.1+qv.wrap (pr (l.getD x.2.toNat qw) * m)),qv.wrap (x.2+1))))else some (.out x.1):Option (Step3 (Int×Int) Int R))) NN (c,0)) k
  =k (qv.wrap (c+tot (λi=>pr (l.getD i qw)) l.length * m)):=by
 refine cz8 (λj=>(qv.wrap (c+tot (λi=>pr (l.getD i qw)) j * m),(j:Int))) _ l.length ?_ hl (λj hj=>?_) ?_
 ·simp only[tot,xA,Int.add_zero,hc];rfl
 ·rw[az6 (by simpa using hj),aza ⟨by simp,by simpa using hj⟩];simp only[qH,wn (show j<4294967296 from qa),Rzw,azbo,tot,Int.add_mul,Int.add_assoc]
 ·rw[az5 (by simp)]
theorem Qzo {R:Type}{k:Int->Option R}(l:List V3)(pr:V3->Int)(m c:Int)(hc:qv.wrap c=c)(hl:l.length<4294967296):
 andK (iter (λx:Int×Int=>(bif qx (x.2<((l.length:Nat):Int))then grd (0<=x.2/\x.2<((l.length:Nat):Int)) (some (Step3.next (qv.wrap (x.1-qv.wrap (pr (l.getD x.2.toNat qw) * m)),qv.wrap (x.2+1))))else some (.out x.1):Option (Step3 (Int×Int) Int R))) NN (c,0)) k
  =k (qv.wrap (c-tot (λi=>pr (l.getD i qw)) l.length * m)):=by
 refine cz8 (λj=>(qv.wrap (c-tot (λi=>pr (l.getD i qw)) j * m),(j:Int))) _ l.length ?_ hl (λj hj=>?_) ?_
 ·simp only[tot,xA,Int.sub_zero,hc];rfl
 ·rw[az6 (by simpa using hj),aza ⟨by simp,by simpa using hj⟩];simp only[qH,wn (show j<4294967296 from qa),Rzx,az57,tot,Int.add_mul];congr 3;rw[show ∀x y z:Int,x- (y+z)=x-y-z from λx y z=>qa]
 ·rw[az5 (by simp)]
theorem az95 (a b:List IV3):(Izr a b).o=some (Lzb a b):=by
 rw[<-Czs];show(Azb a b).run NN=(jz2 a b).run NN;simp only[Azb,jz2,qk,T.ix,ezf,hzb,qM,bzf,az7,rz9,lz7];cases ha:cz3 a with
 |false=>rfl
 |true=>
  cases hb:cz3 b with
  |false=>rfl
  |true=>
   have la:=ezp ha;have lb:=ezp hb;have ca:=Yz1 ha;have cb:=Yz1 hb;simp only[qP,qd,Fz7 (cenV a) qa,Fz7 (cenV b) qa,qM];have s1:=λ{R:Type} (k:Int->Option R) (c:Int) (hc:qv.wrap c=c)=>Qzn (k:=k) (cenV a) (λv=>v.1) ((cenV b).length:Int) c hc qa
   have s2:=λ{R:Type} (k:Int->Option R) (c:Int) (hc:qv.wrap c=c)=>Qzo (k:=k) (cenV b) (λv=>v.1) ((cenV a).length:Int) c hc qa
   have s3:=λ{R:Type} (k:Int->Option R) (c:Int) (hc:qv.wrap c=c)=>Qzn (k:=k) (cenV a) (λv=>v.2.1) ((cenV b).length:Int) c hc qa
   have s4:=λ{R:Type} (k:Int->Option R) (c:Int) (hc:qv.wrap c=c)=>Qzo (k:=k) (cenV b) (λv=>v.2.1) ((cenV a).length:Int) c hc qa
   have s5:=λ{R:Type} (k:Int->Option R) (c:Int) (hc:qv.wrap c=c)=>Qzn (k:=k) (cenV a) (λv=>v.2.2) ((cenV b).length:Int) c hc qa
   have s6:=λ{R:Type} (k:Int->Option R) (c:Int) (hc:qv.wrap c=c)=>Qzo (k:=k) (cenV b) (λv=>v.2.2) ((cenV a).length:Int) c hc qa
   rw[s1 _ 0 rfl,s2 _ _ (azbq _),s3 _ 0 rfl,s4 _ _ (azbq _),s5 _ 0 rfl,s6 _ _ (azbq _)];simp only[Int.zero_add,Rzx,az57,azbp,ca,cb];rw[Rzz ⟨InR.wr _,InR.wr _,InR.wr _⟩]
theorem Jz2 (a b:List V3)(m:Int):(fz4 a b m 64).o=some (Gzd a b m):=by rw[<-az0x,ozk]
theorem Wz7 {l:List V3}{j:Nat}(h:j<l.length):(l.take (j+1)).filter cz0=(l.take j).filter cz0++(bif cz0 (l.getD j qw)then [l.getD j qw]else []):=by
 have e:l.take (j+1)=l.take j++[l.getD j qw]:=by
  rw[xC,wo];rw[wD h];rfl
 rw[e,xD];cases hu:cz0 (l.getD j qw)with
 |true=>rw[xE,hu];rfl
 |false=>rw[xE,hu];rfl
theorem azbr (a:List IV3)(ra:Int)(b:List IV3)(rb:Int)(hs:List V3)(hl:hs.length<4294967280):(sz4 a ra b rb hs).o=some (bif okF a ra b rb then Pzi a ra b rb hs else nl):=by
 show(lza a ra b rb hs).run NN=_;simp only[lza,qk,hzb,jzb,qM,bzf,az7,ez1];have hq:(!cz3 a||(!cz3 b||(!radV ra|| !radV rb)))= !okF a ra b rb:=by
  unfold okF;cases cz3 a<;>cases cz3 b<;>cases radV ra<;>cases radV rb<;>rfl
 rw[hq];cases okF a ra b rb with
 |false=>rfl
 |true=>
  simp only[qP,qd,qe];have fl:((hs.take hs.length).filter cz0).length<=hs.length:=by
   have:=xF cz0 (hs.take hs.length);simp at this⊢;omega
  refine(cz8 (λj=>((hs.take j).filter cz0,(j:Int))) ((hs.take hs.length).filter cz0) hs.length rfl (show hs.length<4294967296 from qa) (λj hj=>?_) ?_).trans ?_
  ·have fj:((hs.take j).filter cz0).length<=j:=by
    have:=xF cz0 (hs.take j);simp at this⊢;omega
   rw[az6 (by simpa using hj),aza ⟨by simp,by simpa using hj⟩];simp only[qH,hzc,qM,wn (show j<4294967296 from qa),Wz7 hj];cases cz0 (hs.getD j qw)with
   |true=>
    simp only[qe];rw[aza ⟨qa,qa⟩,aza ⟨by simp only[wA,w7];omega,by simp only[wA,w7,azg];omega⟩];rfl
   |false=>simp only[qd,xu,az7]
  ·rw[az5 (by simp)]
  ·simp only[az95,qM];rw[wZ]at fl⊢;have eax:ref14_Axes_C.o=some axesL:=rfl;have fin:∀w:List V3,w.length<=hs.length+1->(ref14_Axes_C.o.bind λy_1=>grd ((w.length+y_1.length) * 24<=140737488355328/\w.length+y_1.length<=maxLen) ((dzz a).o.bind λy_2=>(dzz b).o.bind λy_3=>(fz4 y_2 y_3 (qv.wrap (ra+rb)) 64).o.bind λy_4=>
    andC ((fz3 y_4.Xx).o.bind λy_5=>bif y_5 then grd (((w++y_1).length+[y_4.Xx].length) * 24<=140737488355328/\(w++y_1).length+[y_4.Xx].length<=maxLen) (some (.out (w++y_1++[y_4.Xx])))else some (.out (w++y_1)):Option (Step3 Unit (List V3) (List V3))) λy=>some y))=some (w++(axesL++Tzn a ra b rb)):=by
    intro w hw;have l6:axesL.length=6:=rfl;rw[eax,qM,aza ⟨qa,by rw[azg];omega⟩,lz7,qM,lz7,qM,Jz2,qM,hzc,qM];unfold Tzn Ozp;cases cz0 (Gzd (cenV a) (cenV b) (qv.wrap (ra+rb))).Xx
    ·simp only[qd,az7,xu]
    ·simp only[qe];rw[aza ⟨by simp only[xb,wA,w7];omega,by simp only[xb,wA,w7,azg];omega⟩,az7,xn]
   unfold Pzi az0h;cases (Lzb a b).2 with
   |false=>
    simp only[qd,az7,wV];exact fin _ qa
   |true=>
    simp only[qe];rw[aza ⟨by simp only[wA,w7];omega,by simp only[wA,w7,azg];omega⟩,az7];refine(fin (hs.filter cz0++[(Lzb a b).1]) (by simp only[xb,wA,w7];omega)).trans ?_;rw[xn]
theorem az14 (a:List IV3)(ra:Int)(b:List IV3)(rb:Int)(hs:List V3):(Pzi a ra b rb hs).length<=hs.length+8:=by
 have:=xF cz0 hs;unfold Pzi az0h Tzn axesL;cases (Lzb a b).2<;>cases cz0 (Ozp a ra b rb).Xx<;>simp<;>omega
theorem Vz1 {l:List V3}{p:V3->Bool}:∀ (m j:Nat),j+m=l.length->(match scan (λi=>sw (p (l.getD i qw)) ((i:Int),true)) m j with|some r=>some (l.getD r.1.toNat qw)|none=>none)=(l.drop j).find? p
 |0,j,h=>by rw[xl qa];rfl
 |m+1,j,h=>by
  rw[Pzq qa,zze];simp only[scan];cases hp:p (l.getD j qw)with
  |true=>simp[sw]
  |false=>simp only[sw,qd];exact Vz1 m (j+1) qa
theorem azbs (a:List IV3)(ra:Int)(b:List IV3)(rb:Int)(hs:List V3)(hl:hs.length<4294967280):(sz5 a ra b rb hs).o=some (Hz2 a ra b rb hs):=by
 show(lzb a ra b rb hs).run NN=_;simp only[lzb,qk,azbr a ra b rb hs hl,qM];unfold Hz2;cases hk:okF a ra b rb with
 |false=>rfl
 |true=>
  have cl:=az14 a ra b rb hs;simp only[qe];generalize Pzi a ra b rb hs=l at cl⊢;rw[Rz7 l a ra b rb qa,qM];have sf:=Vz1 (l:=l) (p:=λn=>sepV n a ra b rb) l.length 0 qa;rw[List.drop_zero]at sf;rw[<-sf];have ef:(λi=>sw (firB l a ra b rb i) ((i:Int),true))=(λi=>sw (sepV (l.getD i qw) a ra b rb) ((i:Int),true)):=rfl;rw[ef];cases h:scan (λi=>sw (sepV (l.getD i qw) a ra b rb) ((i:Int),true)) l.length 0 with
  |none=>rfl
  |some r=>
   obtain⟨j,h1,h2,h3,-⟩:=fze _ _ h;cases hb:sepV (l.getD j qw) a ra b rb with
   |false=>rw[hb]at h3;cases h3
   |true=>
    rw[hb]at h3;simp only[sw,qe,Option.some.injEq]at h3;subst h3;simp only[wE,qP,qd];rw[aza ⟨qa,qa⟩];rfl
open Go.Proofs
theorem az7w {α:Type}[Inhabited α]{f:Nat->α}{n i:Nat}(h:i<n):(tab f n).getD i qw=f i:=iz6 h
theorem az6f (hs:List V3){j:Nat}(hj:j<4294967295){R:Type}{k:List V3->Option R}:(andC (bif qx ((j:Int)<(hs.length:Int))then grd (0<=(j:Int)/\(j:Int)<=((j+1:Nat):Int)/\((j+1:Nat):Int)<=(hs.length:Int)) (some (.out ((hs.drop j).take ((((j+1:Nat):Int)).toNat-j))))else some (.out nl):Option (Step3 Unit (List V3) R)) k)=k ((hs.drop j).take 1):=by
 by_cases hc:(j:Int)<(hs.length:Int)
 ·rw[az6 hc,aza ⟨qa,qa,qa⟩,az7,show(((j+1:Nat):Int)).toNat-j=1 from qa]
 ·rw[az5 hc,az7,xl qa];rfl
theorem Zzh (s:azd)(b:List az0)(hs:List V3)(hbl:b.length<4294967296)(hl:hs.length<4294967280):(yzg s b hs).o=some (clsV s b hs):=by
 have hpl:=qzi s;show(ozq s b hs).run NN=_;simp only[ozq,qk];rw[Fzn s b hbl,qM];unfold clsV;by_cases h:czi s=0/\boxV s.Xf b=true
 ·rw[qc h,qc h];simp only[qP,qd,cz4];refine(hzy (λj=>((bif czh (misK s b hs) j then(1:Int)else 0),tab (λk=>(fndK s b hs k).1) j,(j:Int))) (colK s b hs) ((bif czh (misK s b hs) (cz2 s).length then(1:Int)else 0),tab (λk=>(fndK s b hs k).1) (cz2 s).length) (cz2 s).length ?_ (show(cz2 s).length<4294967296 from qa) (λj hj=>?_) ?_).trans ?_
  ·have:czh (misK s b hs) 0=true:=noneB_iff.2 λi hi=>qa
   rw[this];rfl
  ·dsimp only;have hj1:0<=(j:Int)/\(j:Int)<((cz2 s).length:Int):=qa
   rw[az6 qa,qH,wn qa,az6f hs qa];simp only[az7w hj,aza hj1];have eA:(az4s s b j).points=bzs s b (pA s j)/\(az4s s b j).radius=gzw s (pA s j):=⟨rfl,rfl⟩;have eB:(az4t s b j).points=bzs s b (pB s j)/\(az4t s b j).radius=gzw s (pB s j):=⟨rfl,rfl⟩;have ef:Hz2 (bzs s b (pA s j)) (gzw s (pA s j)) (bzs s b (pB s j)) (gzw s (pB s j)) ((hs.drop j).take 1)=fndK s b hs j:=rfl;have eo:ovV (Gzd (cenV (bzs s b (pA s j))) (cenV (bzs s b (pB s j))) (qv.wrap (gzw s (pA s j)+gzw s (pB s j)))).Left (Gzd (cenV (bzs s b (pA s j))) (cenV (bzs s b (pB s j))) (qv.wrap (gzw s (pA s j)+gzw s (pB s j)))).Xv (bzs s b (pA s j)) (gzw s (pA s j)) (bzs s b (pB s j)) (gzw s (pB s j))=ovK s b j:=rfl;rw[eA.1,eA.2,eB.1,eB.2];simp only[azbs _ _ _ _ ((hs.drop j).take 1) (by simp;omega),qM,ef,lz7,Jz2,yzh,eo];rw[aza ⟨by simp only[cz4,wA,w7];omega,by simp only[cz4,wA,w7,azg];omega⟩,Ozr,gz0];unfold colK;have hm:misK s b hs j= !(fndK s b hs j).2:=rfl;rw[hm];cases hf:(fndK s b hs j).2 with
   |true=>
    simp only[qe,qP,xo,Bool.and_true,wJ,sw,qd,az7]
   |false=>
    simp only[qd,qP,xo,wO,qS];cases ovK s b j with
    |true=>rfl
    |false=>rfl
  ·dsimp only;rw[az5 qa]
  ·cases scan (colK s b hs) (cz2 s).length 0 with
   |some v=>rfl
   |none=>rfl
 ·rw[qb h,qb h];rfl
open Go.Proofs
abbrev PlS:=List az8×List bz0
def az4w (s:azd)(p q:List Int)(d:Int)(ps:List az8)(tk:List bz0)(k i:Int)(h:List V3):Option (Step3 PlS (List az8) azr):=
 if 4096<=ps.length then some (.fin ⟨0,nl,⟨k,i,nl⟩,⟨0,nl,nl⟩⟩)else
 if(clsV s (dz6 p q k i).1 h).Xm=1 then some (.next (ps++[⟨k,i,(clsV s (dz6 p q k i).1 h).Xe⟩],tk))else
 if(clsV s (dz6 p q k i).1 h).Xm=2 then some (.fin ⟨2,nl,⟨k,i,nl⟩,(clsV s (dz6 p q k i).1 h).Xl⟩)else
 if k=d then some (.fin ⟨0,nl,⟨k,i,nl⟩,⟨0,nl,nl⟩⟩)else
 some (.next (ps,tk++[⟨qv.wrap (k+1),qv.wrap (qv.wrap (2 * i)+1),(clsV s (dz6 p q k i).1 h).Xe⟩,⟨qv.wrap (k+1),qv.wrap (2 * i),(clsV s (dz6 p q k i).1 h).Xe⟩]))
theorem Lz6 {σ τ R:Type}{f:σ->Option (Step3 σ τ R)}{x y:σ}{N:Nat}(h:f x=some (.next y)):iter f (N+1) x=iter f N y:=by simp only[iter,h]
theorem Tzh {σ τ R:Type}{f:σ->Option (Step3 σ τ R)}{x:σ}{r:R}{N:Nat}(h:f x=some (.fin r)):iter f (N+1) x=some (.inr r):=by simp only[iter,h]
theorem azcn {σ τ R:Type}{f:σ->Option (Step3 σ τ R)}{x:σ}{y:τ}{N:Nat}(h:f x=some (.out y)):iter f (N+1) x=some (.inl y):=by simp only[iter,h]
theorem az5t (s:azd)(p q:List Int)(hp:p.length<4294967296)(hq:q.length<4294967296){d:Int}(h20:d<=20){f:PlS->Option (Step3 PlS (List az8) azr)}
 (hf:∀ps tk k i h,ps.length<=4096->tk.length<=1000000->0<=k->k<=d->h.length<=576->f (ps,tk++[⟨k,i,h⟩])=az4w s p q d ps tk k i h):
 ∀ (m:Nat) (k i:Int) (h:List V3) (ps:List az8) (W:XW) (n:Nat) (tk:List bz0),k+m=d->0<=k->m+1<=n->h.length<=576->PsB ps->tk.length+m<=1000000->
   ∃ok ps' W',exO n s p q d k i h ps W=some (exR ok ps' W' s p q d)/\PsB ps'/\
    (ok=true->∃c,c+1<=2 ^ (m+1)/\∀N,iter f (N+c) (ps,tk++[⟨k,i,h⟩])=iter f N (ps',tk))/\
    (ok=false->∃c,c+1<=2 ^ (m+1)/\∀N,iter f (N+c) (ps,tk++[⟨k,i,h⟩])=some (.inr (Kzv false ps' W'))):=by
 intro m;induction m with
 |zero=>
  intro k i h ps W n tk hk h0 hn hh hps htk;obtain⟨n,rfl⟩:∃m,n=m+1:=⟨n-1,qa⟩;have hv:=szs s (dz6 p q k i).1 h (by have:=Bzq p q k i;omega) qa;have v1:=Vzs s (dz6 p q k i).1 h;have e:=hf ps tk k i h hps.1 qa h0 qa hh;rw[Wz5 n s p q d k i h ps W hp hq hv hps];unfold az4w at e;generalize clsV s (dz6 p q k i).1 h=v at hv v1 e⊢;by_cases c0:4096<=ps.length
  ·rw[qc c0]at e⊢;exact⟨false,ps,_,rfl,hps,(λh=>by cases h),λ_=>⟨1,by decide,λN=>Tzh e⟩⟩
  ·rw[qb c0]at e⊢;by_cases c1:v.Xm=1
   ·rw[qc c1]at e⊢;refine⟨true,_,W,rfl,⟨by simp;omega,λx hx=>?_⟩,λ_=>⟨1,by decide,λN=>Lz6 e⟩,(λh=>by cases h)⟩;rcases xg.1 hx with hx|hx
    ·exact hps.2 x hx
    ·simp at hx;subst hx;exact v1
   ·rw[qb c1]at e⊢;by_cases c2:v.Xm=2
    ·rw[qc c2]at e⊢;exact⟨false,ps,_,rfl,hps,(λh=>by cases h),λ_=>⟨1,by decide,λN=>Tzh e⟩⟩
    ·rw[qb c2]at e⊢;rw[qc qa]at e;rw[qb qa];exact⟨false,ps,_,rfl,hps,(λh=>by cases h),λ_=>⟨1,by decide,λN=>Tzh e⟩⟩
 |succ m ih=>
  intro k i h ps W n tk hk h0 hn hh hps htk;obtain⟨n,rfl⟩:∃m,n=m+1:=⟨n-1,qa⟩;have hv:=szs s (dz6 p q k i).1 h (by have:=Bzq p q k i;omega) qa;have v1:=Vzs s (dz6 p q k i).1 h;have e:=hf ps tk k i h hps.1 qa h0 qa hh;rw[Wz5 n s p q d k i h ps W hp hq hv hps];unfold az4w at e;generalize clsV s (dz6 p q k i).1 h=v at hv v1 e⊢;have one:1+1<=2 ^ (m+1+1):=by have:=Nat.one_le_two_pow (n:=m+1);rw[xG];omega
  by_cases c0:4096<=ps.length
  ·rw[qc c0]at e⊢;exact⟨false,ps,_,rfl,hps,(λh=>by cases h),λ_=>⟨1,one,λN=>Tzh e⟩⟩
  ·rw[qb c0]at e⊢;by_cases c1:v.Xm=1
   ·rw[qc c1]at e⊢;refine⟨true,_,W,rfl,⟨by simp;omega,λx hx=>?_⟩,λ_=>⟨1,one,λN=>Lz6 e⟩,(λh=>by cases h)⟩;rcases xg.1 hx with hx|hx
    ·exact hps.2 x hx
    ·simp at hx;subst hx;exact v1
   ·rw[qb c1]at e⊢;by_cases c2:v.Xm=2
    ·rw[qc c2]at e⊢;exact⟨false,ps,_,rfl,hps,(λh=>by cases h),λ_=>⟨1,one,λN=>Tzh e⟩⟩
    ·rw[qb c2]at e⊢;rw[qb qa]at e;rw[qc qa];have hw:qv.wrap (k+1)=k+1:=w64 qa qa;rw[hw]at e⊢;have e':f (ps,tk++[⟨k,i,h⟩])=some (.next (ps,(tk++[⟨k+1,qv.wrap (qv.wrap (2 * i)+1),v.Xe⟩])++[⟨k+1,qv.wrap (2 * i),v.Xe⟩])):=by rw[e,xn];rfl
     have pw:2 ^ (m+1+1)=2 ^ (m+1)+2 ^ (m+1):=by rw[xG 2 (m+1)];omega
     obtain⟨ok1,ps1,W1,e1,b1,b2,b3⟩:=ih (k+1) (qv.wrap (2 * i)) v.Xe ps W n (tk++[⟨k+1,qv.wrap (qv.wrap (2 * i)+1),v.Xe⟩]) qa qa qa v1 hps (by simp;omega);rw[e1];cases ok1 with
     |false=>
      obtain⟨c,hc,hN⟩:=b3 rfl;exact⟨false,ps1,W1,rfl,b1,(λh=>by cases h),λ_=>⟨c+1,qa,λN=>(Lz6 e').trans (hN N)⟩⟩
     |true=>
      obtain⟨c,hc,hN⟩:=b2 rfl;obtain⟨ok2,ps2,W2,e2,d1,d2,d3⟩:=ih (k+1) (qv.wrap (qv.wrap (2 * i)+1)) v.Xe ps1 W1 n tk qa qa qa v1 b1 qa;refine⟨ok2,ps2,W2,e2,d1,λh=>?_,λh=>?_⟩
      ·obtain⟨c',hc',hN'⟩:=d2 h;refine⟨c'+c+1,qa,λN=>?_⟩;rw[show N+(c'+c+1)=(N+c')+c+1 from qa,Lz6 e',hN,hN']
      ·obtain⟨c',hc',hN'⟩:=d3 h;refine⟨c'+c+1,qa,λN=>?_⟩;rw[show N+(c'+c+1)=(N+c')+c+1 from qa,Lz6 e',hN,hN']
theorem azal (s:azd)(p q:List Int):(pzk s p q).o=some (!Kzi s p q):=by
 show(lzg s p q).run NN=_;simp only[lzg,qk,eza,jz6,qM];unfold Kzi;by_cases h:czi s=0
 ·rw[czn h,show(czi s !=0)=false by simp[h]];cases bz8 s.Xf p<;>cases bz8 s.Xf q<;>rfl
 ·rw[czo h,show(czi s !=0)=true by simp[h]];rfl
theorem Oz2 (s:azd)(p q:List Int)(d:Int)(hp:p.length<4294967296)(hq:q.length<4294967296):
 ∃r,(jzx s p q d).o=some r/\(xz3 s p q d).o=some r/\ResB r/\(¬ (0<=d/\d<=20)->r=zzw):=by
 have nb:PsB nl:=⟨by simp[nl],by simp[nl]⟩;have rn:ResB zzw:=⟨by simp[zzw,nl],by simp[zzw,nl],by simp[zzw,nl],by simp[zzw,nl],by simp[zzw,nl]⟩;have er:=azal s p q;by_cases hd:0<=d/\d<=20
 ·obtain⟨ra,ea,oka⟩:=Lzv s p q hp hq hd.1 hd.2;have resb:ResB ra:=⟨oka.bd.1,oka.bd.2,by rw[oka.norm];simp,oka.lens.1,oka.lens.2⟩;refine⟨ra,ea,?_,resb,λh=>absurd hd h⟩;show(lzf s p q d).run NN=_;simp only[lzf,qk];rw[show(⟨s.Xf,s.Xd,s.Xj⟩:azd)=s from rfl,er,qM,qh (p:=d<0) qa,qh (p:=d>20) qa];cases hb:Kzi s p q with
  |true=>
   obtain⟨ok,ps,W,e1,-⟩:=az8a s p q hp hq hd.2 d.toNat 0 0 nl nl W0 NN qa qa qa (by decide) (by show _<=4294967296;omega) (by simp[nl]) nb;have e2:=Hzi s p q d ok ps W hd.1 hd.2 e1;rw[hb,ea]at e2;simp only[qe,Option.some.injEq]at e2;rw[e2];rfl
  |false=>
   simp only[xo,qP,qd,az7];generalize hf:(λx227:List az8×List bz0=>(bif qx (((x227.2.length:Nat):Int)>0)then _ else _:Option (Step3 PlS (List az8) azr)))=f;have hstep:∀ps tk k i h,ps.length<=4096->tk.length<=1000000->0<=k->k<=d->h.length<=576->f (ps,tk++[⟨k,i,h⟩])=az4w s p q d ps tk k i h:=by
    intro ps tk k i h h1 h2 h3 h4 h5;subst hf;have hl:(tk++[(⟨k,i,h⟩:bz0)]).length=tk.length+1:=by simp
    have hw:qv.wrap ((((tk++[(⟨k,i,h⟩:bz0)]).length:Nat):Int)-1)=(tk.length:Int):=by rw[hl,w64 qa qa];omega
    have hg:(tk++[(⟨k,i,h⟩:bz0)]).getD tk.length qw=⟨k,i,h⟩:=by simp[wo]
    have ht:(tk++[(⟨k,i,h⟩:bz0)]).take tk.length=tk:=by simp
    have g1:0<=(tk.length:Int)/\(tk.length:Int)<(((tk++[(⟨k,i,h⟩:bz0)]).length:Nat):Int):=by rw[hl];omega
    have g2:tk.length<(tk++[(⟨k,i,h⟩:bz0)]).length:=by rw[hl];omega
    have g3:0<=(tk.length:Int)/\(tk.length:Int)<=(((tk++[(⟨k,i,h⟩:bz0)]).length:Nat):Int)/\0<=tk.length:=by rw[hl];omega
    have pl:=Bzq p q k i;simp only[hw,qH,hg,ht,aza g1,aza g2,aza g3];rw[az6 (by rw[hl];omega)];unfold az4w;by_cases c0:4096<=ps.length
    ·rw[qc c0,az6 qa]
    ·rw[qb c0,az5 qa,wzt p q k i hp hq];simp only[qM];rw[Zzh s (dz6 p q k i).1 h qa qa];simp only[qM];generalize clsV s (dz6 p q k i).1 h=v;by_cases c1:v.Xm=1
     ·rw[qc c1,czn c1,aza ⟨by simp only[wA,w7];omega,by simp only[wA,w7,azg];omega⟩]
     ·rw[qb c1,czo c1];by_cases c2:v.Xm=2
      ·rw[qc c2,czn c2]
      ·rw[qb c2,czo c2];by_cases c3:k=d
       ·rw[qc c3,czn c3]
       ·rw[qb c3,czo c3,aza ⟨by simp only[wA,w7];omega,by simp only[wA,w7,azg];omega⟩]
   obtain⟨ok,ps,W,e1,b1,b2,b3⟩:=az5t s p q hp hq hd.2 hstep d.toNat 0 0 nl nl W0 NN [] qa qa (by show _<=4294967296;omega) (by simp[nl]) nb (by simp;omega);have e2:=Hzi s p q d ok ps W hd.1 hd.2 e1;rw[hb,ea]at e2;simp only[qd,Option.some.injEq]at e2;have p21:2 ^ (d.toNat+1)<=2097152:=by
    have:2 ^ (d.toNat+1)<=2 ^ 21:=wt (by decide) qa;have e:2 ^ 21=2097152:=by decide
    omega
   cases ok with
   |true=>
    obtain⟨c,hc,hN⟩:=b2 rfl;have k1:=hN (4294967295-c+1);rw[show 4294967295-c+1+c=NN by show _=4294967296;omega,wV]at k1;rw[k1];have out:f (ps,[])=some (.out ps):=by subst hf;rfl
    rw[azcn out,e2];rfl
   |false=>
    obtain⟨c,hc,hN⟩:=b3 rfl;have k1:=hN (4294967296-c);rw[show 4294967296-c+c=NN by show _=4294967296;omega,wV]at k1;rw[k1,e2];rfl
 ·refine⟨zzw,?_,?_,rn,λ_=>rfl⟩
  ·show(nzm s p q d).run NN=_;have e0:(ezz ⟨s.Xf,s.Xd,s.Xj⟩).o=some (czi s):=gzr s;simp only[nzm,qk,e0,kzb,qM,bzf,ez1,az7];have:(qx (d<0)||qx (d>20))=true:=by simp only[wc,qf];omega
   rw[this];cases ((czi s !=0)||(!bz8 s.Xf p|| !bz8 s.Xf q))<;>rfl
  ·show(lzf s p q d).run NN=_;simp only[lzf,qk];rw[show(⟨s.Xf,s.Xd,s.Xj⟩:azd)=s from rfl,er,qM];simp only[bzf,az7,ez1];have:(qx (d<0)||qx (d>20))=true:=by simp only[wc,qf];omega
   rw[this,Bool.or_true];rfl
theorem Nzq (a0:(List (Int×Int×Int)))(a1:(Int×Int×Int)):(tzu a0 a1).o=(tzv a0 a1).run NN:=rfl
theorem Uzk (a0:(List az8)):(kz2 a0).o=(Azd a0).run NN:=rfl
theorem Nz1 (a0:(List az8)):(fzq a0).o=(izw a0).run NN:=rfl
open Go.Proofs
def num (l:List V3)(n:V3):Int:=
 match l.findIdx? (·==n)with
 |some i=>i
 |none=> -1
theorem az55 (a b:V3):((a.1==b.1)&&((a.2.1==b.2.1)&&((a.2.2==b.2.2)&&true)))=(a==b):=by
 obtain⟨a1,a2,a3⟩:=a;obtain⟨b1,b2,b3⟩:=b;rw[qZ];simp
theorem az3c (l:List V3)(n:V3)(h:l.length<NN)(h2:l.length<1000000000000):(tzu l n).o=some (num l n):=by
 simp only[Nzq,tzv,qk];unfold num;cases hf:l.findIdx? (·==n)with
 |none=>
  rw[xH]at hf;refine jzf (y:=.u) (Bzm (λi=>(i:Int)) rfl l.length qa (λi hi=>?_) ?_)
  ·have:=hf _ (bza hi);try dsimp only
   (rw[az6 qa];(repeat(first|rw[azp qa]|rw[azp (by simp only[wx];omega)]|rw[azp (by simp only[wA,w7,azg];omega)]|rw[azp (by simp only[xc,wx,wz,azg,and_true];omega)]));rw[az55,qH,ez3 this,w64n qa])
  ·try dsimp only
   rw[az5 qa]
 |some k=>
  rw[xI]at hf;obtain⟨hk,h3,h4⟩:=hf;refine Pz7 (az6h (λi=>(i:Int)) rfl k qa (λi hi=>?_) ?_)
  ·have hi':i<l.length:=qa
   have:=h4 i hi;try dsimp only
   (rw[az6 qa];(repeat(first|rw[azp qa]|rw[azp (by simp only[wx];omega)]|rw[azp (by simp only[wA,w7,azg];omega)]|rw[azp (by simp only[xc,wx,wz,azg,and_true];omega)]));rw[az55,qH,ez3 (by simpa[wo,hi']using this),w64n qa])
  ·try dsimp only
   (rw[az6 qa];(repeat(first|rw[azp qa]|rw[azp (by simp only[wx];omega)]|rw[azp (by simp only[wA,w7,azg];omega)]|rw[azp (by simp only[xc,wx,wz,azg,and_true];omega)]));rw[az55,qH,dzo (by simpa[wo,hk]using h3)])
theorem num_neg {l:List V3}{n:V3}:num l n<0↔n∉l:=by
 unfold num;cases hf:l.findIdx? (·==n)with
 |none=>
  rw[xH]at hf;simp only[show(-1:Int)<0 from qa,true_iff];intro hn;simpa using hf n hn
 |some k=>
  rw[xI]at hf;obtain⟨hk,h3,_⟩:=hf;have:n∈l:=by have:=List.getElem_mem hk;rw[show l[k]=n by simpa using h3]at this;exact this
  simp only[this,not_true,iff_false];omega
def addN (t:List V3)(n:V3):List V3×Int:=if n∈t then(t,num t n)else(t++[n],t.length)
def dzd (t:List V3)(ns:List V3):List V3×List Int:=ns.foldl (λa n=>((addN a.1 n).1,a.2++[(addN a.1 n).2])) (t,[])
def az0b (a:List V3×List cza)(p:az8):List V3×List cza:=((dzd a.1 p.Xe).1,a.2++[⟨p.Xg,p.Xk,(dzd a.1 p.Xe).2⟩])
def fzb (l:List az8):List V3×List cza:=l.foldl az0b ([],[])
theorem mzf (t ns:List V3)(n:V3):dzd t (ns++[n])=((addN (dzd t ns).1 n).1,(dzd t ns).2++[(addN (dzd t ns).1 n).2]):=by
 simp[dzd,wR]
theorem pzo (l:List az8)(p:az8):fzb (l++[p])=az0b (fzb l) p:=by simp[fzb,wR]
theorem az5f (t:List V3)(n:V3):t.length<=(addN t n).1.length/\(addN t n).1.length<=t.length+1:=by unfold addN;split<;>simp
theorem Hzg (t ns:List V3):t.length<=(dzd t ns).1.length/\(dzd t ns).1.length<=t.length+ns.length/\(dzd t ns).2.length=ns.length:=by
 have key:∀k,k<=ns.length->t.length<=(dzd t (ns.take k)).1.length/\(dzd t (ns.take k)).1.length<=t.length+k/\(dzd t (ns.take k)).2.length=k:=by
  intro k;induction k with
  |zero=>intro _;simp[dzd]
  |succ k ih=>
   intro hk;rw[czr qa,mzf];have h1:=ih qa;have h2:=az5f (dzd t (ns.take k)).1 (ns.getD k qw);simp only[xb,wA,w7];omega
 have:=key ns.length (ql _);rwa[izk (ql _)]at this
def hz7 (l:List az8):Nat:=(l.map (λp=>p.Xe.length)).sum
theorem Pz4 (l:List az8)(p:az8):hz7 (l++[p])=hz7 l+p.Xe.length:=by simp[hz7]
theorem az0t (l:List az8)(k:Nat):hz7 (l.take k)<=hz7 l:=by
 conv=>rhs;rw[<-List.take_append_drop k l]
 simp only[hz7,xJ,List.sum_append];omega
theorem Lzk (l:List az8):(fzb l).1.length<=hz7 l/\(fzb l).2.length=l.length:=by
 have key:∀k,k<=l.length->(fzb (l.take k)).1.length<=hz7 (l.take k)/\(fzb (l.take k)).2.length=k:=by
  intro k;induction k with
  |zero=>intro _;simp[fzb,hz7]
  |succ k ih=>
   intro hk;rw[czr qa,pzo,Pz4];have h1:=ih qa;have h2:=Hzg (fzb (l.take k)).1 (l.getD k qw).Xe;simp only[az0b,xb,wA,w7];omega
 have:=key l.length (ql _);rwa[izk (ql _)]at this
theorem az34 {l:List az8}{p:az8}(h:p∈l):p.Xe.length<=hz7 l:=by
 induction l with
 |nil=>cases h
 |cons a l ih=>
  simp only[hz7,xK,xL];rcases wB.1 h with rfl|h
  ·omega
  ·have:=ih h;simp only[hz7]at this;omega
theorem Dzf (l:List az8){k:Nat}(h:k<l.length):hz7 (l.take k)+(l.getD k qw).Xe.length<=hz7 l:=by
 have:=az0t l (k+1);rw[czr h,Pz4]at this;exact this
theorem Zz8 (l:List az8)(h1:l.length<NN)(h2:hz7 l<NN)(h3:l.length<1000000000)(h4:hz7 l<1000000000):(kz2 l).o=some ⟨(fzb l).1,(fzb l).2⟩:=by
 simp only[Uzk,Azd,qk];refine jzf (y:=((fzb l).1,(fzb l).2)) (Bzm (λi=>((fzb (l.take i)).1,(fzb (l.take i)).2,(i:Int))) rfl l.length h1 (λi hi=>?_) ?_)
 ·dsimp only;have hpl:=Lzk (l.take i);have htg:=Dzf l hi;have hil:(l.take i).length=i:=by rw[xM];omega
  (rw[az6 qa];(repeat(first|rw[azp qa]|rw[azp (by simp only[wx];omega)]|rw[azp (by simp only[wA,w7,azg];omega)]|rw[azp (by simp only[xc,wx,wz,azg,and_true];omega)]));rw[qH])
  rw[czr hi,pzo];generalize l.getD i qw=p at *
  generalize fzb (l.take i)=q at *
  rw[show az0b q p=((dzd q.1 p.Xe).1,q.2++[⟨p.Xg,p.Xk,(dzd q.1 p.Xe).2⟩])from rfl];refine(jzf (y:=dzd q.1 p.Xe) (Bzm (λk=>((dzd q.1 (p.Xe.take k)).1,(dzd q.1 (p.Xe.take k)).2,(k:Int))) rfl p.Xe.length qa (λk hk=>?_) ?_)).trans ?_
  ·have hpn:=Hzg q.1 (p.Xe.take k);have hkl:(p.Xe.take k).length=k:=by rw[xM];omega
   dsimp only
   ((repeat(first|rw[azp qa]|rw[azp (by simp only[wx];omega)]|rw[azp (by simp only[wA,w7,azg];omega)]|rw[azp (by simp only[xc,wx,wz,azg,and_true];omega)]));rw[az6 qa];(repeat(first|rw[azp qa]|rw[azp (by simp only[wx];omega)]|rw[azp (by simp only[wA,w7,azg];omega)]|rw[azp (by simp only[xc,wx,wz,azg,and_true];omega)]));rw[qH,az3c _ _ qa qa,qM])
   rw[czr hk,mzf];generalize dzd q.1 (p.Xe.take k)=r at *
   generalize p.Xe.getD k qw=n at *
   by_cases hm:n∈r.1
   ·have:¬num r.1 n<0:=λh=>num_neg.1 h hm
    (rw[az5 this,az7];(repeat(first|rw[azp qa]|rw[azp (by simp only[wx];omega)]|rw[azp (by simp only[wA,w7,azg];omega)]|rw[azp (by simp only[xc,wx,wz,azg,and_true];omega)]|rw[azp (by simp only[azg];omega)]));rw[w64n qa])
    simp only[addN,hm,if_true]
   ·have:num r.1 n<0:=num_neg.2 hm
    (rw[az6 this];(repeat(first|rw[azp qa]|rw[azp (by simp only[wx];omega)]|rw[azp (by simp only[wA,w7,azg];omega)]|rw[azp (by simp only[xc,wx,wz,azg,and_true];omega)]|rw[azp (by simp only[azg];omega)]));rw[az7];(repeat(first|rw[azp qa]|rw[azp (by simp only[wx];omega)]|rw[azp (by simp only[wA,w7,azg];omega)]|rw[azp (by simp only[xc,wx,wz,azg,and_true];omega)]|rw[azp (by simp only[azg];omega)]));rw[w64n qa])
    simp only[addN,hm,if_false]
  ·dsimp only
   ((repeat(first|rw[azp qa]|rw[azp (by simp only[wx];omega)]|rw[azp (by simp only[wA,w7,azg];omega)]|rw[azp (by simp only[xc,wx,wz,azg,and_true];omega)]));rw[az5 qa,izk (ql _)])
  ·dsimp only
   ((repeat(first|rw[azp qa]|rw[azp (by simp only[wx];omega)]|rw[azp (by simp only[wA,w7,azg];omega)]|rw[azp (by simp only[xc,wx,wz,azg,and_true];omega)]|rw[azp (by simp only[azg];omega)]));rw[w64n qa])
 ·dsimp only;rw[az5 qa,izk (ql _)]
def Jzh (t:List V3):List (V3×Int):=(t.zipIdx.map (λx=>(x.1,(x.2:Int)))).reverse
theorem Hz9 (t:List V3)(n:V3):Jzh (t++[n])=(n,(t.length:Int))::Jzh t:=by
 simp[Jzh,List.zipIdx_append]
theorem Yzk (a b:V3):zzk (azx a) (azx b)=(a==b):=by
 obtain⟨a1,a2,a3⟩:=a;obtain⟨b1,b2,b3⟩:=b;simp only[zzk,azx,dzx,if_true,Option.map_some];rw[qZ];simp
theorem az06 (t:List V3)(n:V3):mdom azx (Jzh t) (azx n)=qx (n∈t):=by
 have key:∀k,k<=t.length->mdom azx (Jzh (t.take k)) (azx n)=qx (n∈t.take k):=by
  intro k;induction k with
  |zero=>intro _;simp[Jzh,mdom]
  |succ k ih=>
   intro hk;rw[czr qa,Hz9];simp only[mdom,Yzk,ih qa];rw[qZ];simp[xg];exact Or.comm
 have:=key t.length (ql _);rwa[izk (ql _)]at this
theorem azd2 {t:List V3}{k:Nat}(hn:t.Nodup)(hk:k<t.length):num t (t.getD k qw)=k:=by
 unfold num;have:t.findIdx? (·==t.getD k qw)=some k:=by
  rw[xI];refine⟨hk,by simp[wo,hk],λj hj=>?_⟩;have hj':j<t.length:=qa
  simp only[wo,hk,wD,wE,qj];intro e;exact(List.pairwise_iff_getElem.1 hn) j k hj' hk hj e
 rw[this]
theorem az08 (t:List V3)(n:V3)(hn:t.Nodup):mget azx (Jzh t) (azx n)=if n∈t then num t n else 0:=by
 have key:∀k,k<=t.length->mget azx (Jzh (t.take k)) (azx n)=if n∈t.take k then num t n else 0:=by
  intro k;induction k with
  |zero=>intro _;simp[Jzh,mget]
  |succ k ih=>
   intro hk;rw[czr qa,Hz9];simp only[mget,Yzk,ih qa];by_cases e:n=t.getD k qw
   ·subst e;rw[qc (by simp),qc (by simp),azd2 hn qa,xM];congr 1;omega
   ·rw[qb (by simpa using e)];congr 1;simp only[xg,wN,eq_iff_iff];exact⟨.inl,λh=>h.resolve_right e⟩
 have:=key t.length (ql _);rwa[izk (ql _)]at this
theorem Zzi {t:List V3}{n:V3}(h:t.Nodup):(addN t n).1.Nodup:=by
 unfold addN;split
 ·exact h
 ·rename_i hn;simp only[List.nodup_append,h,true_and];refine⟨by simp,λa ha b hb=>?_⟩;simp at hb;subst hb;intro e;subst e;exact hn ha
theorem Izl {t ns:List V3}(h:t.Nodup):(dzd t ns).1.Nodup:=by
 have key:∀k,k<=ns.length->(dzd t (ns.take k)).1.Nodup:=by
  intro k;induction k with
  |zero=>intro _;simpa[dzd]using h
  |succ k ih=>intro hk;rw[czr qa,mzf];exact Zzi (ih qa)
 have:=key ns.length (ql _);rwa[izk (ql _)]at this
theorem Wzi (l:List az8):(fzb l).1.Nodup:=by
 have key:∀k,k<=l.length->(fzb (l.take k)).1.Nodup:=by
  intro k;induction k with
  |zero=>intro _;simp[fzb]
  |succ k ih=>intro hk;rw[czr qa,pzo];exact Izl (ih qa)
 have:=key l.length (ql _);rwa[izk (ql _)]at this
theorem az3o (l:List az8)(h1:l.length<NN)(h2:hz7 l<NN)(h3:l.length<1000000000)(h4:hz7 l<1000000000):(fzq l).o=some ⟨(fzb l).1,(fzb l).2⟩:=by
 simp only[Nz1,izw,qk];refine jzf (y:=((fzb l).1,(fzb l).2)) (Bzm (λi=>((fzb (l.take i)).1,(fzb (l.take i)).2,Jzh (fzb (l.take i)).1,(i:Int))) rfl l.length h1 (λi hi=>?_) ?_)
 ·dsimp only;have hpl:=Lzk (l.take i);have hnd:=Wzi (l.take i);have htg:=Dzf l hi;have hil:(l.take i).length=i:=by rw[xM];omega
  (rw[az6 qa];(repeat(first|rw[azp qa]|rw[azp (by simp only[wx];omega)]|rw[azp (by simp only[wA,w7,azg];omega)]|rw[azp (by simp only[xc,wx,wz,azg,and_true];omega)]));rw[qH])
  rw[czr hi,pzo];generalize l.getD i qw=p at *
  generalize fzb (l.take i)=q at *
  rw[show az0b q p=((dzd q.1 p.Xe).1,q.2++[⟨p.Xg,p.Xk,(dzd q.1 p.Xe).2⟩])from rfl];refine(jzf (y:=((dzd q.1 p.Xe).1,Jzh (dzd q.1 p.Xe).1,(dzd q.1 p.Xe).2)) (Bzm (λk=>((dzd q.1 (p.Xe.take k)).1,Jzh (dzd q.1 (p.Xe.take k)).1,(dzd q.1 (p.Xe.take k)).2,(k:Int))) rfl p.Xe.length qa (λk hk=>?_) ?_)).trans ?_
  ·have hpn:=Hzg q.1 (p.Xe.take k);have hkl:(p.Xe.take k).length=k:=by rw[xM];omega
   have hnn:=Izl (ns:=p.Xe.take k) hnd;dsimp only
   (rw[az6 qa];(repeat(first|rw[azp qa]|rw[azp (by simp only[wx];omega)]|rw[azp (by simp only[wA,w7,azg];omega)]|rw[azp (by simp only[xc,wx,wz,azg,and_true];omega)]));rw[qH])
   rw[czr hk,mzf];generalize dzd q.1 (p.Xe.take k)=r at *
   generalize p.Xe.getD k qw=n at *
   rw[az06,az08 _ _ hnn];by_cases hm:n∈r.1
   ·((repeat(first|rw[azp qa]|rw[azp (by simp only[wx];omega)]|rw[azp (by simp only[wA,w7,azg];omega)]|rw[azp (by simp only[xc,wx,wz,azg,and_true];omega)]|rw[azp (by simp[hm])]));rw[ez3 (by simp[hm]),az7];(repeat(first|rw[azp qa]|rw[azp (by simp only[wx];omega)]|rw[azp (by simp only[wA,w7,azg];omega)]|rw[azp (by simp only[xc,wx,wz,azg,and_true];omega)]|rw[azp (by simp only[azg];omega)]));rw[w64n qa])
    simp only[addN,hm,if_true]
   ·((repeat(first|rw[azp qa]|rw[azp (by simp only[wx];omega)]|rw[azp (by simp only[wA,w7,azg];omega)]|rw[azp (by simp only[xc,wx,wz,azg,and_true];omega)]|rw[azp (by simp[hm])]));rw[dzo (by simp[hm])];(repeat(first|rw[azp qa]|rw[azp (by simp only[wx];omega)]|rw[azp (by simp only[wA,w7,azg];omega)]|rw[azp (by simp only[xc,wx,wz,azg,and_true];omega)]|rw[azp (by simp only[azg];omega)]));rw[az7];(repeat(first|rw[azp qa]|rw[azp (by simp only[wx];omega)]|rw[azp (by simp only[wA,w7,azg];omega)]|rw[azp (by simp only[xc,wx,wz,azg,and_true];omega)]|rw[azp (by simp only[azg];omega)]));rw[w64n qa])
    simp only[addN,hm,if_false,Hz9]
  ·dsimp only;rw[az5 qa,izk (ql _)]
  ·dsimp only
   ((repeat(first|rw[azp qa]|rw[azp (by simp only[wx];omega)]|rw[azp (by simp only[wA,w7,azg];omega)]|rw[azp (by simp only[xc,wx,wz,azg,and_true];omega)]|rw[azp (by simp only[azg];omega)]));rw[w64n qa])
 ·dsimp only;rw[az5 qa,izk (ql _)]
def okN (t:List V3)(j:Int):Bool:=qx (0<=j/\j<t.length)
def unN (t:List V3)(j:Int):V3:=t.getD j.toNat qw
def unU (t:List V3)(u:cza):az8:=⟨u.Xg,u.Xk,u.Xu.map (unN t)⟩
def Eze (p:azi):List az8×Bool:=
 if p.Xy.all (λu=>u.Xu.all (okN p.Xz))then(p.Xy.map (unU p.Xz),true)else(nl,false)
theorem kzs {α β:Type}[Inhabited α]{f:α->β}{l:List α}{k:Nat}(h:k<l.length):(l.take (k+1)).map f=(l.take k).map f++[f (l.getD k qw)]:=by
 rw[czr h];simp
theorem Zz0 {t T:List V3}(h:t<+:T){i:Nat}(hi:i<t.length):T.getD i qw=t.getD i qw:=by
 obtain⟨s,rfl⟩:=h;rw[getD_left hi]
theorem Xzl (t:List V3)(n:V3):t<+:(addN t n).1:=by
 unfold addN;split
 ·exact xN
 ·exact List.prefix_append _ _
theorem azag {t:List V3}{n:V3}(h:n∈t):0<=num t n/\num t n<t.length/\t.getD (num t n).toNat qw=n:=by
 unfold num;cases hf:t.findIdx? (·==n)with
 |none=>
  rw[xH]at hf;have:=hf n h;simp at this
 |some k=>
  rw[xI]at hf;obtain⟨hk,h3,_⟩:=hf;refine⟨by simp,by simpa using hk,?_⟩;simp only[qH,wo,wD hk,wE];simpa using h3
theorem az96 {t T:List V3}{n:V3}(h:(addN t n).1<+:T):okN T (addN t n).2=true/\unN T (addN t n).2=n:=by
 have hl:=h.length_le;unfold okN unN;by_cases hn:n∈t
 ·simp only[addN,hn,if_true]at h hl⊢;obtain⟨h1,h2,h3⟩:=azag hn;refine⟨by simp only[qf];omega,?_⟩;rw[Zz0 h qa,h3]
 ·simp only[addN,hn,if_false]at h hl⊢;simp only[xb,wA,w7]at hl;refine⟨by simp only[qf];omega,?_⟩;rw[qH,Zz0 h (by simp),getD_right (ql _)];simp
theorem az0a (t ns:List V3):t<+:(dzd t ns).1:=by
 have key:∀k,k<=ns.length->t<+:(dzd t (ns.take k)).1:=by
  intro k;induction k with
  |zero=>intro _;simp[dzd]
  |succ k ih=>intro hk;rw[czr qa,mzf];exact(ih qa).trans (Xzl _ _)
 have:=key ns.length (ql _);rwa[izk (ql _)]at this
theorem az3m {t ns T:List V3}(h:(dzd t ns).1<+:T):(dzd t ns).2.all (okN T)=true/\(dzd t ns).2.map (unN T)=ns:=by
 have key:∀k,k<=ns.length->(dzd t (ns.take k)).1<+:T->(dzd t (ns.take k)).2.all (okN T)=true/\(dzd t (ns.take k)).2.map (unN T)=ns.take k:=by
  intro k;induction k with
  |zero=>intro _ _;simp[dzd]
  |succ k ih=>
   intro hk hp;rw[czr qa,mzf]at hp⊢;obtain⟨h1,h2⟩:=ih qa ((Xzl _ _).trans hp);obtain⟨h3,h4⟩:=az96 hp;simp only[xO,xJ,h1,h2,xP,xQ,xK,xR,h3,h4,qT,and_self]
 have:=key ns.length (ql _);rw[izk (ql _)]at this;exact this h
theorem az3l (l:List az8)(p:az8):(fzb l).1<+:(fzb (l++[p])).1:=by
 rw[pzo];exact az0a _ _
theorem Yzw {l:List az8}{T:List V3}(h:(fzb l).1<+:T):(fzb l).2.all (λu=>u.Xu.all (okN T))=true/\(fzb l).2.map (unU T)=l:=by
 have key:∀k,k<=l.length->(fzb (l.take k)).1<+:T->(fzb (l.take k)).2.all (λu=>u.Xu.all (okN T))=true/\(fzb (l.take k)).2.map (unU T)=l.take k:=by
  intro k;induction k with
  |zero=>intro _ _;simp[fzb]
  |succ k ih=>
   intro hk hp;rw[czr qa]at hp⊢;obtain⟨h1,h2⟩:=ih qa ((az3l _ _).trans hp);rw[pzo]at hp⊢;obtain⟨h3,h4⟩:=az3m (t:=(fzb (l.take k)).1) (ns:=(l.getD k qw).Xe) hp;simp only[az0b,xO,xJ,h1,h2,xP,xQ,xK,xR,h3,h4,qT,unU,and_self]
 have:=key l.length (ql _);rw[izk (ql _)]at this;exact this h
theorem az0j (l:List az8):Eze ⟨(fzb l).1,(fzb l).2⟩=(l,true):=by
 obtain⟨h1,h2⟩:=Yzw (l:=l) xN;unfold Eze;dsimp only;rw[qc h1,h2]
open Go.Proofs
def Lzl (l:List az8):azi:=⟨(fzb l).1,(fzb l).2⟩
theorem az7z {l:List az8}{B:Nat}(h:∀x∈l,x.Xe.length<=B):hz7 l<=l.length * B:=by
 induction l with
 |nil=>simp[hz7]
 |cons a l ih=>
  have h1:=h a (xS ..);have h2:=ih λx hx=>h x (List.mem_cons_of_mem _ hx)
  simp only[hz7,xK,xL,wA]at h2⊢;rw[Nat.add_mul];omega
theorem Uzb {l:List az8}(h:PsB l):hz7 l<=2359296:=by
 have:=az7z h.2;have:l.length * 576<=4096 * 576:=Nat.mul_le_mul_right _ h.1;omega
theorem az3n {l:List az8}(h:PsB l):(fzq l).o=some (Lzl l)/\(kz2 l).o=some (Lzl l):=by
 have ht:=Uzb h;have h4:=h.1;exact⟨az3o l (by show _<4294967296;omega) (by show _<4294967296;omega) qa qa,Zz8 l (by show _<4294967296;omega) (by show _<4294967296;omega) qa qa⟩
theorem az1u (s:azd){d:Int}(h0:0<=d)(h20:d<=20)(p q:List Int)(hp:p.length<4294967296)(hq:q.length<4294967296):
 ∃x ok,(jz5 ⟨s,d⟩ p q).o=some (x,ok)/\(sz7 s p q d).o=some (x,ok)/\PkB x/\(ok=true->(Eze x).2=true/\(kz9 s p q (Eze x).1).2=0):=by
 obtain⟨r,e,e',-,-⟩:=Oz2 s p q d hp hq;obtain⟨r',e2,ok⟩:=Lzv s p q hp hq h0 h20;rw[e]at e2;injection e2 with e2
 subst e2;have es:(⟨s.Xf,s.Xd,s.Xj⟩:azd)=s:=rfl;have a0:(jz5 ⟨s,d⟩ p q).o=(tzl ⟨s,d⟩ p q).run NN:=rfl;have b0:(sz7 s p q d).o=(Azc s p q d).run NN:=rfl;rw[a0,b0];simp only[tzl,Azc,qk,es,e,e',qM];by_cases c:r.Xm=1
 ·have hn:∀x∈r.Xo,x.Xe.length<4294967296:=λx hx=>by have:=ok.bd.2 x hx;omega
  have hl:=ok.bd.1;have hc:=Wzo h0 h20 ok c;have em:Ozo s p q r.Xo=kz1 (izo s p q) r.Xo:=by unfold Ozo;rw[qb (λh=>h hc)]
  have mc:=Wze hc;have mb:PsB (kz1 (izo s p q) r.Xo):=by
   refine⟨(check_tlb.1 mc).2.1,λx hx=>?_⟩;have h1:=(check_tlb.1 mc).2.2.2 x hx;have h2:=(free_iff.1 h1).2.2.1;have:=qzi s;omega
  obtain⟨x,ex,hx⟩:=Nz2 _ mb;obtain⟨pk1,pk2⟩:=az3n mb;rw[pk1]at ex;injection ex with ex
  have hu:Eze (Lzl (kz1 (izo s p q) r.Xo))=(kz1 (izo s p q) r.Xo,true):=az0j _;refine⟨Lzl (kz1 (izo s p q) r.Xo),true,?_,?_,ex▸hx,λ_=>?_⟩
  ·rw[bzb c,Kzo s hp hq r.Xo qa hn];simp only[qM,em,pk1]
  ·rw[bzb c,Rza s hp hq r.Xo];simp only[qM,em,pk2]
  ·rw[hu];exact⟨rfl,mc⟩
 ·refine⟨⟨nl,nl⟩,false,?_,?_,⟨by simp[nl],by simp[nl],λu hu=>by cases hu⟩,λh=>by cases h⟩
  ·rw[bzq c]
  ·rw[bzq c]
def edE (s:azd)(d:Int)(p q:List Int):azi×Bool:=(jz5 ⟨s,d⟩ p q).o.getD qw
theorem az9m (s:azd){d:Int}(h0:0<=d)(h20:d<=20)(p q:List Int)(hp:p.length<4294967296)(hq:q.length<4294967296):
 (jz5 ⟨s,d⟩ p q).o=some (edE s d p q)/\(sz7 s p q d).o=some (edE s d p q)/\PkB (edE s d p q).1/\((edE s d p q).2=true->(Eze (edE s d p q).1).2=true/\(kz9 s p q (Eze (edE s d p q).1).1).2=0):=by
 obtain⟨x,ok,h1,h2,h3,h4⟩:=az1u s h0 h20 p q hp hq;have:edE s d p q=(x,ok):=by unfold edE;rw[h1];rfl
 rw[this];exact⟨h1,h2,h3,h4⟩
theorem Lzy (s:azd)(c:List (List Int)):(Azf s c).o=some (Jzb s c):=by
 show(qzs s c).run NN=_;simp only[qzs,qk,show(⟨s.Xf,s.Xd,s.Xj⟩:azd)=s from rfl,eza,qM,jz6];unfold Jzb;by_cases h:czi s=0
 ·rw[bzb h,qb (λh'=>h' h)];simp only[bzf,az7,ez1];by_cases h2:c.length<2\/c.length>256
  ·rw[qc h2,dzo (by simp only[wc,qf];omega)]
  ·rw[qb h2,ez3 (by simp only[qq,qi];omega)];refine(ezy (λi=>sw (outP s.Xf c i) ((i:Int),(1201:Int))) c.length qa (λj hj=>?_) ?_).trans ?_
   ·rw[az6 qa,aza qa,wn qa,qH,<-dzr];rfl
   ·rw[az5 qa]
   ·cases scan (λi=>sw (outP s.Xf c i) ((i:Int),(1201:Int))) c.length 0<;>rfl
 ·rw[bzq h,qc h]
abbrev gE (s:azd)(d:Int)(c:List (List Int))(i:Nat):azi×Bool:=edE s d (c.getD i qw) (c.getD (i+1) qw)
def badE (s:azd)(d:Int)(c:List (List Int)):Option Int:=scan (λi=>sw (!(gE s d c i).2) (i:Int)) (c.length-1) 0
def bldV (s:azd)(d:Int)(c:List (List Int)):bzu×Int×Int:=
 if(Jzb s c).2≠0 then(⟨nl,nl⟩,Jzb s c)else match badE s d c with
  |some i=>(⟨nl,nl⟩,i,2204)
  |none=>(⟨c,tab (λi=>(gE s d c i).1) (c.length-1)⟩,0,0)
theorem Zzd (s:azd){d:Int}(c:List (List Int)){R:Type}(f:Int->R):∀ (n i:Nat),scan (λi=>sw (!(gE s d c i).2) (f (i:Int))) n i=(scan (λi=>sw (!(gE s d c i).2) (i:Int)) n i).map f:=by
 intro n;induction n with
 |zero=>intro i;rfl
 |succ n ih=>
  intro i;simp only[scan];rw[ih (i+1)];cases (gE s d c i).2<;>rfl
section
variable (s:azd) {d:Int} (h0:0<=d) (h20:d<=20) (c:List (List Int)) (hc:CfB c) (h1:2<=c.length)
include h0 h20 hc h1
theorem Nzj:(Czw c ⟨s,d⟩).o=some (match badE s d c with|some i=>(nl,i,2204)|none=>(tab (λi=>(gE s d c i).1) (c.length-1),0,0)):=by
 have hl:=hc.1;show(tzj c ⟨s,d⟩).run NN=_;have z1:(1:Int).toNat=1:=rfl;simp only[tzj,qk,z1,qH,az7y (show 1<=c.length from qa)];rw[aza qa];refine(hzy (λj=>(tab (λi=>(gE s d c i).1) j,(j:Int))) (λi=>sw (!(gE s d c i).2) ((nl:List azi),(i:Int),(2204:Int))) (tab (λi=>(gE s d c i).1) (c.length-1)) (c.length-1) rfl (by show _<4294967296;omega) (λj hj=>?_) ?_).trans ?_
 ·have l1:=hc.get (show j<c.length from qa);have l2:=hc.get (show j+1<c.length from qa);obtain⟨e,-⟩:=az9m s h0 h20 (c.getD j qw) (c.getD (j+1) qw) qa qa;dsimp only;rw[az6 qa,aza qa,aza qa,qH,az7x qa,e];simp only[qM];have hg:edE s d (c.getD j qw) (c.getD (j+1) qw)=gE s d c j:=rfl;rw[hg];cases (gE s d c j).2 with
  |false=>rfl
  |true=>
   simp only[qP,qd,sw];rw[aza (by simp only[cz4,wA,w7,azg];omega),wn qa,gz0]
 ·dsimp only;rw[az5 qa]
 ·unfold badE;rw[Zzd s (d:=d) c (λi=>((nl:List azi),i,(2204:Int)))];cases scan (λi=>sw (!(gE s d c i).2) (i:Int)) (c.length-1) 0<;>rfl
end
theorem Vzo {s:azd}{c:List (List Int)}(k:(Jzb s c).2=0):CfB c/\2<=c.length:=by
 obtain⟨k1,k2,k3⟩:=chkPV_iff.1 k;refine⟨⟨k2.2,λx hx=>?_⟩,k2.1⟩;obtain⟨i,hi,rfl⟩:=wC hx;have:=k3 i hi;rw[wo,wD hi]at this;have:=az2e this;simp only[wE]at this;omega
theorem Uz6 (s:azd){d:Int}(h0:0<=d)(h20:d<=20)(c:List (List Int)):(Izm s c d).o=some (bldV s d c):=by
 show(zzz s c d).run NN=_;simp only[zzz,qk,Fzb,qM];unfold bldV;by_cases k:(Jzb s c).2=0
 ·obtain⟨hc,h2⟩:=Vzo k;rw[bzb k,show(⟨s.Xf,s.Xd,s.Xj⟩:azd)=s from rfl,Nzj s h0 h20 c hc h2,qb (λh=>h k)];simp only[qM];cases badE s d c with
  |some i=>rfl
  |none=>
   dsimp only;rw[bzb rfl,Pzl c hc];rfl
 ·rw[bzq k,qc k]
theorem Rz9 (s:azd){d:Int}(h0:0<=d)(h20:d<=20)(c:List (List Int)):(Fzo s c d).o=some (bldV s d c):=by
 show(xz1 s c d).run NN=_;have es:(⟨s.Xf,s.Xd,s.Xj⟩:azd)=s:=rfl;simp only[xz1,qk,es,Lzy,qM];unfold bldV;by_cases k:(Jzb s c).2=0
 ·obtain⟨hc,h2⟩:=Vzo k;have hl:=hc.1;rw[bzb k,qb (λh=>h k)];refine(hzy (λj=>(c.take j,tab (λi=>(gE s d c i).1) (j-1),(j:Int))) (λi=>if i=0 then none else sw (!(gE s d c (i-1)).2) ((⟨nl,nl⟩:bzu),((i-1:Nat):Int),(2204:Int))) (c,tab (λi=>(gE s d c i).1) (c.length-1)) c.length rfl (by show _<4294967296;omega) (λj hj=>?_) ?_).trans ?_
  ·have l1:=hc.get hj;dsimp only;have ht:c.take (j+1)=c.take j++[c.getD j qw]:=by
    rw[xC,wo,wD hj];rfl
   rw[az6 qa,aza qa,qH,aza (by rw[azg];omega),aza (by simp only[xM,wA,w7,azg];omega),wn qa];by_cases hj0:j=0
   ·subst hj0;rw[qc rfl,show(((0:Nat):Int)==0)=true from rfl,qe,az7,ht]
   ·have w1:qv.wrap ((j:Int)-1)=((j-1:Nat):Int):=by rw[w64 qa qa];omega
    have l2:=hc.get (show j-1<c.length from qa);obtain⟨-,e,-⟩:=az9m s h0 h20 (c.getD (j-1) qw) (c.getD j qw) qa qa;rw[qb hj0,show((j:Int)==0)=false by simpa using hj0,qd,w1,aza qa,aza qa,qH,e];simp only[qM];have hg:edE s d (c.getD (j-1) qw) (c.getD j qw)=gE s d c (j-1):=by unfold gE;rw[show j-1+1=j from qa]
    rw[hg];cases (gE s d c (j-1)).2 with
    |false=>rfl
    |true=>
     simp only[qP,qd,sw];rw[aza (by simp only[cz4,wA,w7,azg];omega),az7,ht,show j+1-1=(j-1)+1 from qa,gz0]
  ·dsimp only;rw[az5 qa,wZ]
  ·have hsc:scan (λi=>if i=0 then none else sw (!(gE s d c (i-1)).2) ((⟨nl,nl⟩:bzu),((i-1:Nat):Int),(2204:Int))) c.length 0=(badE s d c).map λi=>((⟨nl,nl⟩:bzu),i,(2204:Int)):=by
    unfold badE;rw[<-Zzd s (d:=d) c (λi=>((⟨nl,nl⟩:bzu),i,(2204:Int)))];have shift:∀ (n i:Nat),scan (λi=>if i=0 then none else sw (!(gE s d c (i-1)).2) ((⟨nl,nl⟩:bzu),((i-1:Nat):Int),(2204:Int))) n (i+1)=scan (λi=>sw (!(gE s d c i).2) ((⟨nl,nl⟩:bzu),(i:Int),(2204:Int))) n i:=by
     intro n;induction n with
     |zero=>intro i;rfl
     |succ n ih=>
      intro i;simp only[scan];rw[ih (i+1),qb qa,show i+1-1=i from qa]
    obtain⟨n,hn⟩:∃n,c.length=n+1:=⟨c.length-1,qa⟩;rw[hn,show n+1-1=n from qa,<-shift n 0];rfl
   rw[hsc];cases badE s d c<;>rfl
 ·rw[bzq k,qc k]
open Go.Proofs
theorem az3b:PaB ⟨nl,nl⟩:=⟨⟨by simp[nl],λx hx=>by cases hx⟩,by simp[nl],λx hx=>by cases hx⟩
theorem az9b (s:azd){d:Int}(h0:0<=d)(h20:d<=20)(c:List (List Int)):PaB (bldV s d c).1:=by
 unfold bldV;by_cases k:(Jzb s c).2=0
 ·rw[qb (λh=>h k)];obtain⟨hc,h2⟩:=Vzo k;have hl:=hc.1;cases badE s d c with
  |some i=>exact az3b
  |none=>
   refine⟨hc,by simp only[cz4];omega,λy hy=>?_⟩;have hy:y∈tab (λi=>(gE s d c i).1) (c.length-1):=hy;obtain⟨i,hi',rfl⟩:=wC hy;have hi:i<c.length-1:=by simpa only[cz4]using hi'
   have l1:=hc.get (show i<c.length from qa);have l2:=hc.get (show i+1<c.length from qa);have hg:(tab (λi=>(gE s d c i).1) (c.length-1))[i]=(gE s d c i).1:=by
    have:=iz6 (d:=qw) (f:=λi=>(gE s d c i).1) hi;rwa[wo,wD hi',wE]at this
   rw[hg];exact(az9m s h0 h20 (c.getD i qw) (c.getD (i+1) qw) qa qa).2.2.1
 ·rw[qc k];exact az3b
open Go.Proofs
open Go.Proofs
theorem az63 {α:Type}[Inhabited α]{l:List α}{i j:Nat}{v:α}(h:i<l.length):(l.set i v).getD j qw=if i=j then v else l.getD j qw:=by
 simp only[wo,xT,h,if_true];split<;>rfl
open Go.Proofs
theorem az61 {α:Type}[Inhabited α]{a b:List α}(hl:a.length=b.length)(h:∀i,i<a.length->a.getD i qw=b.getD i qw):a=b:=by
 refine xU hl (λi h1 h2=>?_);have:=h i h1;simpa only[wo,wD h1,wD h2,wE]using this
open Go.Proofs
open Go.Proofs
def eqW (a b:List Int):Bool:=qx (a=b)
theorem az0p (a b:List Int)(h:a.length<4294967296):(qzr a b).o=some (eqW a b):=by
 show(jzt a b).run NN=_;simp only[jzt,qk];unfold eqW;by_cases e:a.length=b.length
 ·rw[bzb qa];refine(ezy (λj=>sw (a.getD j qw !=b.getD j qw) false) a.length h (λj hj=>?_) ?_).trans ?_
  ·rw[az6 qa,aza qa,aza qa,wn qa,qH,<-dzr]
  ·rw[az5 qa]
  ·rw[dz9];by_cases hn:czh (λj=>a.getD j qw !=b.getD j qw) a.length=true
   ·rw[hn];have:a=b:=az61 e λi hi=>by
     have:=of_decide_eq_true hn i hi;simpa using this
    rw[qg this];rfl
   ·have hn':czh (λj=>a.getD j qw !=b.getD j qw) a.length=false:=by simpa using hn
    rw[hn'];have:a≠b:=λh=>hn (by subst h;exact qg (λi _=>by simp))
    rw[qh this];rfl
 ·rw[bzq qa,qh (λh=>e (by rw[h]))]
def memB (l:List (List Int))(c:List Int):Bool:=qx (c∈l)
theorem az3r (l:List (List Int))(c:List Int)(hl:l.length<4294967296)(hn:∀x∈l,x.length<4294967296):∃z,(lzh l c).o=some z/\qx (z>=0)=memB l c:=by
 refine⟨match scan (λi=>sw (eqW (l.getD i qw) c) (i:Int)) l.length 0 with|some x=>x|none=> -1,?_,?_⟩
 ·show(qzx l c).run NN=_;simp only[qzx,qk];refine(ezy (λi=>sw (eqW (l.getD i qw) c) (i:Int)) l.length hl (λj hj=>?_) ?_).trans ?_
  ·rw[az6 qa,aza qa,aza qa,wn qa,qH,az0p _ _ (hn _ (bza hj))];simp only[qM];rw[<-dzr]
  ·rw[az5 qa]
  ·cases scan (λi=>sw (eqW (l.getD i qw) c) (i:Int)) l.length 0<;>rfl
 ·refine(Rzn (g:=λi=>eqW (l.getD i qw) c) (n:=l.length)).trans ?_;unfold memB czh;rw[qZ];simp only[wd,qi,qf];constructor
  ·intro h;simp only[Classical.not_forall]at h;obtain⟨i,hi,he⟩:=h;have he:l.getD i qw=c:=by simpa[eqW]using he
   rw[<-he];exact bza hi
  ·intro h h2;obtain⟨i,hi,rfl⟩:=wC h;have:=h2 i hi;simp[eqW,wo,hi]at this
def disL (r:azo)(pts:List (List Int)):Nat->List (List Int)
 |0=>[]
 |j+1=>if bz8 r (pts.getD j qw)=true/\¬pts.getD j qw∈disL r pts j then disL r pts j++[pts.getD j qw]else disL r pts j
theorem wz1 (r:azo)(pts:List (List Int)):∀j,(disL r pts j).length<=j
 |0=>ql _
 |j+1=>by
  have:=wz1 r pts j;unfold disL;split
  ·simp;omega
  ·omega
theorem zz4 (r:azo)(pts:List (List Int)):∀j x,x∈disL r pts j->bz8 r x=true
 |0,_,h=>by cases h
 |j+1,x,h=>by
  unfold disL at h;split at h
  ·rename_i hc;rcases xg.1 h with h|h
   ·exact zz4 r pts j x h
   ·simp at h;subst h;exact hc.1
  ·exact zz4 r pts j x h
theorem Szp (r:azo)(pts:List (List Int)):∀j,j<=pts.length->((disL r pts j).length=j↔∀i,i<j->bz8 r (pts.getD i qw)=true/\¬pts.getD i qw∈pts.take i)/\((disL r pts j).length=j->disL r pts j=pts.take j)
 |0,_=>⟨⟨λ_ i hi=>qa,λ_=>rfl⟩,λ_=>by simp[disL]⟩
 |j+1,hj=>by
  obtain⟨h1,h2⟩:=Szp r pts j qa;have hl:=wz1 r pts j;have key:(disL r pts (j+1)).length=j+1->(disL r pts j).length=j/\bz8 r (pts.getD j qw)=true/\¬pts.getD j qw∈disL r pts j:=by
   intro h;unfold disL at h;split at h
   ·rename_i hc;simp at h;exact⟨qa,hc⟩
   ·omega
  refine⟨⟨λh i hi=>?_,λh=>?_⟩,λh=>?_⟩
  ·obtain⟨k1,k2,k3⟩:=key h;by_cases e:i=j
   ·subst e;rw[h2 k1]at k3;exact⟨k2,k3⟩
   ·exact h1.1 k1 i qa
  ·have k1:=h1.2 λi hi=>h i qa
   obtain⟨k2,k3⟩:=h j qa;unfold disL;rw[qc ⟨k2,by rw[h2 k1];exact k3⟩];simp;omega
  ·obtain⟨k1,k2,k3⟩:=key h;unfold disL;rw[qc ⟨k2,k3⟩,h2 k1,<-czr qa]
theorem aza6 (l:List Int)(h:l.length<4294967296):(ez5 l).o=some l:=by
 show(dz7 l).run NN=_;cases l with
 |nil=>rfl
 |cons a l=>
  simp only[dz7,qk];simp only[wA]at h;rw[aza (by simp),aza ⟨by simp only[w7,wA];omega,by simp only[w7,wA,azg];omega⟩];rfl
theorem izb {r:azo}{c:List Int}(h:bz8 r c=true):c.length=r.Xb.length/\c.length<=10:=by
 unfold bz8 at h;simp only[qn,qf]at h;have:=(fzd h.1).2.1;omega
theorem max_comm' (a b:Int):max a b=max b a:=qa
def badD (r:azo)(p q:List Int):Bool:= !(qx (p.length=r.Xb.length)&&(qx (q.length=r.Xb.length)&&(izl p&&(izl q&&qx (dza r=0)))))
def aze9 (r:azo)(p q:List Int)(a:Int)(j:Nat):Int:=qv.wrap (a+qv.wrap ((r.Xb.getD j qw).XB * max (qv.wrap (q.getD j qw-p.getD j qw)) (qv.wrap (p.getD j qw-q.getD j qw))))
def sumD (r:azo)(p q:List Int):Nat->Int
 |0=>0
 |n+1=>aze9 r p q (sumD r p q n) n
def dstV (r:azo)(p q:List Int):Int:=bif badD r p q then 0 else sumD r p q r.Xb.length
theorem Rzf (r:azo)(p q:List Int)(hp:p.length<4294967296)(hq:q.length<4294967296):(gzx r p q).o=some (dstV r p q):=by
 show(ozn r p q).run NN=_;have er:(⟨r.Xb,r.Xh⟩:azo)=r:=rfl;simp only[ozn,qk,er,pzi p hp,pzi q hq,dz4,qM];unfold dstV badD;by_cases c3:dza r=0
 ·have hr:=(fzd c3).2.1;rw[bzb c3,qg c3];cases izl p with
  |false=>simp only[qP,xo,qe,qd,az7,wO,wJ]
  |true=>
   cases izl q with
   |false=>simp only[qP,xo,qe,qd,az7,wO,wJ]
   |true=>
    simp only[qP,qd];by_cases c1:p.length=r.Xb.length
    ·rw[bzb qa];by_cases c2:q.length=r.Xb.length
     ·have h1:(((q.length:Nat):Int) !=((p.length:Nat):Int))=false:=by simp;omega
      rw[h1,az7,qg c1,qg c2];simp only[qd,qT,qP];refine(cz8 (λj=>(sumD r p q j,(j:Int))) (sumD r p q r.Xb.length) r.Xb.length rfl (by show _<4294967296;omega) (λj hj=>?_) ?_).trans rfl
      ·have g1:0<=(j:Int)/\(j:Int)<(r.Xb.length:Int):=qa
       have g2:0<=(j:Int)/\(j:Int)<(p.length:Int):=qa
       have g3:0<=(j:Int)/\(j:Int)<(q.length:Int):=qa
       rw[az6 qa];simp only[aza g1,aza g2,aza g3,wn (show j<4294967296 from qa),qH];rw[max_comm'];rfl
      ·rw[az5 qa]
     ·have h1:(((q.length:Nat):Int) !=((p.length:Nat):Int))=true:=by simp;omega
      rw[h1,az7,qh c2];simp only[qP,xo,qe,qd,az7,wO,wJ]
    ·rw[bzq qa,az7,qh c1];simp only[qP,xo,qe,qd,az7,wO,wJ]
 ·rw[bzq c3,az7,qh c3];simp only[qP,xo,qe,qd,az7,wO,wJ]
open Go.Proofs
def ltE (a b:az4):Bool:=qx (a.U<b.U\/(a.U=b.U/\a.V<b.V))
theorem wprd {n:Nat}(h1:1<=n)(h:n<4294967296):qv.wrap ((n:Int)-1)=((n-1:Nat):Int):=by rw[w64 qa qa];omega
open Go.Proofs
open Go.Proofs
def RoB (r:azo):Prop:=1<=r.Xb.length/\r.Xb.length<=3/\∀j∈r.Xb,JB j
theorem Nz9 (r:azo)(m:List Int)(hm:m.length<4294967296)(hr:RoB r):∃p,(pzc r m).o=some p/\p.length=r.Xb.length:=by
 have ef:(fzs m).o=some (m,0):=rfl;obtain⟨r1,r2,r3⟩:=hr;show ∃p,(kzp r m).run NN=some p/\_;simp only[kzp,qk,ef,qM]
 refine czu (P:=λp:List Int=>p.length=r.Xb.length) (λk (y:List Int×Int×List Int×Int)=>∃j:Nat,y.1=m/\(0<=y.2.1/\y.2.1<=(m.length:Int))/\y.2.2.2=(j:Int)/\j+k=r.Xb.length/\y.2.2.1.length=j)
  (λz:List Int=>z.length=r.Xb.length) r.Xb.length ⟨0,rfl,⟨by simp,by simp⟩,rfl,qa,by simp[nl]⟩ qa ?_ (λz hz=>⟨_,rfl,hz⟩)
 rintro k ⟨l1,ix,p,y⟩ ⟨j,h1,⟨h2,h3⟩,h4,h5,h6⟩;simp only at h1 h2 h3 h4 h6⊢;subst h1;subst h4;cases k with
 |zero=>exact .inr (.inl ⟨_,by rw[az5 qa],qa⟩)
 |succ k=>
  have hj:=r3 _ (bza (show j<r.Xb.length from qa));unfold JB at hj;rw[az6 qa,aza qa,aza qa,qH,wn qa];generalize r.Xb.getD j qw=jt at hj⊢;obtain⟨s1,x1,e1,a1,b1,c1,d1⟩:=azt hm h2 h3 (k:=6) (by decide) (by decide);rw[e1];simp only[qM];by_cases q1:s1=0
  ·rw[czn q1,aza (by simp only[wA,w7,azg];omega),az7];exact .inl ⟨_,k,rfl,xi k,j+1,rfl,⟨c1,d1⟩,rfl,qa,by simp only[xb,wA,w7];omega⟩
  ·rw[czo q1];by_cases q2:s1=1
   ·rw[czn q2,aza (by simp only[wA,w7,azg];omega),az7];exact .inl ⟨_,k,rfl,xi k,j+1,rfl,⟨c1,d1⟩,rfl,qa,by simp only[xb,wA,w7];omega⟩
   ·rw[czo q2];have hw:qv.wrap (jt.Hi-jt.Lo)=jt.Hi-jt.Lo:=w64 qa qa;simp only[hw];have hw2:qv.wrap (jt.Hi-jt.Lo+1)=jt.Hi-jt.Lo+1:=w64 qa qa;simp only[hw2];obtain⟨s2,x2,e2,a2,b2,c2,d2⟩:=azt hm c1 d1 (k:=jt.Hi-jt.Lo+1) qa qa;rw[e2];simp only[qM];rw[aza (by simp only[wA,w7,azg];omega),az7];exact .inl ⟨_,k,rfl,xi k,j+1,rfl,⟨c2,d2⟩,rfl,qa,by simp only[xb,wA,w7];omega⟩
theorem Nzb (r:azo)(n:Nat)(hn:n<=1000)(m:List Int)(hm:m.length<4294967296)(hr:RoB r):∃p,(izz r (n:Int) m).o=some p/\p.length=n/\∀c∈p,c.length=r.Xb.length:=by
 have ef:(fzs m).o=some (m,0):=rfl;obtain⟨r1,r2,r3⟩:=hr;show ∃p,(jz0 r (n:Int) m).run NN=some p/\_;simp only[jz0,qk,ef,qM];have hw:qv.wrap (2 * (r.Xb.length:Int))=((2 * r.Xb.length:Nat):Int):=by rw[w64 qa qa];omega
 rw[hw]
 refine czu (P:=λp:List (List Int)=>p.length=n/\∀c∈p,c.length=r.Xb.length) (λk (y:List Int×Int×List (List Int)×Int)=>∃j:Nat,y.1=m/\(0<=y.2.1/\y.2.1<=(m.length:Int))/\y.2.2.2=(j:Int)/\j+k=n/\y.2.2.1.length=j/\∀c∈y.2.2.1,c.length=r.Xb.length)
  (λz:List (List Int)=>z.length=n/\∀c∈z,c.length=r.Xb.length) n ⟨0,rfl,⟨by simp,by simp⟩,rfl,qa,by simp[nl],λc hc=>by cases hc⟩ qa ?_ (λz hz=>⟨_,rfl,hz⟩)
 rintro k ⟨l1,ix,p,y⟩ ⟨j,h1,⟨h2,h3⟩,h4,h5,h6,h7⟩;simp only at h1 h2 h3 h4 h6 h7⊢;subst h1;subst h4;cases k with
 |zero=>exact .inr (.inl ⟨_,by rw[az5 qa],qa,h7⟩)
 |succ k=>
  rw[az6 qa,wn qa];suffices hi:∃s,_=some s/\(∃ (ix':Int) (c:List Int),s=Step3.next (l1,ix',p++[c],((j+1:Nat):Int))/\(0<=ix'/\ix'<=(l1.length:Int))/\c.length=r.Xb.length) by
   obtain⟨s,e,ix',c,rfl,k1,k2⟩:=hi;refine .inl ⟨_,k,e,xi k,j+1,rfl,k1,rfl,qa,by simp only[xb,wA,w7];omega,λc' hc'=>?_⟩;rcases xg.1 hc' with hc'|hc'
   ·exact h7 c' hc'
   ·simp at hc';subst hc';exact k2
  refine czu (λk (y:List Int×Int×List Int×Int)=>∃i:Nat,y.1=l1/\(0<=y.2.1/\y.2.1<=(l1.length:Int))/\y.2.2.2=(i:Int)/\i+k=2 * r.Xb.length/\y.2.2.1.length=i)
   (λz:List Int×Int×List Int=>z.1=l1/\(0<=z.2.1/\z.2.1<=(l1.length:Int))/\z.2.2.length=2 * r.Xb.length) (2 * r.Xb.length) ⟨0,rfl,⟨h2,h3⟩,rfl,qa,by simp[nl]⟩ qa ?_ ?_
  ·rintro k' ⟨l2,ix2,q,y2⟩ ⟨i,g1,⟨g2,g3⟩,g4,g5,g6⟩;simp only at g1 g2 g3 g4 g6⊢;subst g1;subst g4;cases k' with
   |zero=>exact .inr (.inl ⟨_,by rw[az5 qa],rfl,⟨g2,g3⟩,by simp only;omega⟩)
   |succ k'=>
    obtain⟨s1,x1,e1,a1,b1,c1,d1⟩:=azt hm g2 g3 (k:=1048576) (by decide) (by decide);rw[az6 qa,e1];simp only[qM];rw[aza (by simp only[wA,w7,azg];omega),wn qa];exact .inl ⟨_,k',rfl,xi k',i+1,rfl,⟨c1,d1⟩,rfl,qa,by simp only[xb,wA,w7];omega⟩
  ·rintro⟨l2,ix2,q⟩ ⟨g1,g2,g3⟩;simp only at g1 g2 g3⊢;subst g1;obtain⟨c,ec,lc⟩:=Nz9 r q qa ⟨r1,r2,r3⟩;rw[ec];simp only[qM];rw[aza (by simp only[wA,w7,azg];omega)];exact⟨_,rfl,ix2,c,rfl,g2,lc⟩
open Go.Proofs
def LtD (d:Nat->Int)(i j:Nat):Prop:=d i<d j\/(d i=d j/\i<j)
abbrev szp (l:List Nat):List Int:=l.map λ(i:Nat)=>(i:Int)
theorem Szc {l:List Nat}{i:Nat}(h:i<l.length):(szp l).getD i qw=((l.getD i qw:Nat):Int):=by
 simp[wo,wD h]
def ixs (no:Int)(n:Nat):List Nat:=(List.range n).filter λ(i:Nat)=> !((i:Int)==no)
theorem Yzj (no:Int)(n:Nat):ixs no (n+1)=if((n:Int)==no)=true then ixs no n else ixs no n++[n]:=by
 unfold ixs;rw[List.range_succ,xD];cases h:((n:Int)==no)<;>simp[h]
theorem az8f {no:Int}{n i:Nat}(h:i∈ixs no n):i<n:=by
 unfold ixs at h;exact List.mem_range.1 (List.mem_filter.1 h).1
def dQ (r:azo)(pts:List (List Int))(q:List Int)(i:Nat):Int:=dstV r (pts.getD i qw) q
def OrdQ (d:Nat->Int)(no:Int)(n:Nat)(ns:List Nat):Prop:=ns.Perm (ixs no n)/\ns.Pairwise (LtD d)
theorem Xzx (r:azo)(pts:List (List Int))(q:List Int)(no:Int)(hp:pts.length<=1000)(hn:∀c∈pts,c.length<4294967296)(hq:q.length<4294967296):
 ∃l,(lzi r pts q no).o=some l/\∃ns,l=szp ns/\OrdQ (dQ r pts q) no pts.length ns:=by
 show ∃l,(lzj r pts q no).run NN=some l/\_;simp only[lzj,qk];have hlen:∀ {j:Nat} {ns:List Nat},OrdQ (dQ r pts q) no j ns->ns.length<=j/\∀i∈ns,i<j:=λh=>by
  have h1:=h.1.length_eq;refine⟨?_,λi hi=>az8f (h.1.mem_iff.1 hi)⟩;rw[h1];unfold ixs;exact wG (xF _ _) (by simp)
 refine czu (P:=λl:List Int=>∃ns,l=szp ns/\OrdQ (dQ r pts q) no pts.length ns)
  (λk (y:List Int×Int)=>∃j:Nat,y.2=(j:Int)/\j+k=pts.length/\∃ns,y.1=szp ns/\OrdQ (dQ r pts q) no j ns)
  (λl:List Int=>∃ns,l=szp ns/\OrdQ (dQ r pts q) no pts.length ns) pts.length ⟨0,rfl,qa,[],rfl,List.Perm.nil,List.Pairwise.nil⟩ qa ?_ (λz hz=>⟨_,rfl,hz⟩)
 rintro k ⟨l,y⟩ ⟨j,hj,hjk,ns,hns,ho⟩;simp only at hj hns⊢;subst hj;subst hns;cases k with
 |zero=>
  obtain rfl:j=pts.length:=qa
  exact .inr (.inl ⟨_,by rw[az5 qa],ns,rfl,ho⟩)
 |succ k=>
  obtain⟨hl1,hl2⟩:=hlen ho;rw[az6 qa,wn qa];by_cases c:(j:Int)=no
  ·rw[czn c,az7];refine .inl ⟨_,k,rfl,xi k,j+1,rfl,qa,ns,rfl,?_,ho.2⟩;rw[Yzj,qc (by simpa using c)];exact ho.1
  ·have l1:=hn _ (bza (show j<pts.length from qa));have hcl:(szp ns).length=ns.length:=by simp
   rw[czo c,aza (by simp only[wA,w7,azg,hcl];omega),aza qa,aza qa,qH,Rzf r _ _ l1 hq];simp only[qM];generalize hA:andK _ _=A;obtain⟨s,e,l',rfl,h1⟩:∃s,A=some s/\(∃l':List Int,s=Step3.out l'/\∃ns,l'=szp ns/\OrdQ (dQ r pts q) no (j+1) ns):=by
    rw[<-hA]
    refine czu (λk' (y:List Int×Int)=>∃a b,y.2=((a.length:Nat):Int)/\a.length<=k'/\ns=a++b/\y.1=szp a++(j:Int)::szp b/\∀x∈b,dQ r pts q j<dQ r pts q x)
     (λl':List Int=>∃ns,l'=szp ns/\OrdQ (dQ r pts q) no (j+1) ns) ns.length ⟨ns,[],by simp only[hcl],ql _,by simp,rfl,λx hx=>by cases hx⟩ qa ?_ (λz hz=>⟨_,rfl,z,rfl,hz⟩)
    rintro k' ⟨l2,y2⟩ ⟨a,b,hi,hik,hab,hl2',hb⟩;simp only at hi hl2'⊢;subst hi;subst hl2';have hab':ns.length=a.length+b.length:=by rw[hab,xb]
    have hll:(szp a++(j:Int)::szp b).length=a.length+1+b.length:=by simp;omega
    have fin1:(∀x∈a,dQ r pts q x<=dQ r pts q j)->∃ns',szp a++(j:Int)::szp b=szp ns'/\OrdQ (dQ r pts q) no (j+1) ns':=λha=>by
     refine⟨a++j::b,by simp,?_,?_⟩
     ·rw[Yzj,qb (by simpa using c)];have h1:=ho.1;rw[hab]at h1;exact List.perm_middle.trans ((List.Perm.cons j h1).trans (List.perm_append_singleton j _).symm)
     ·have h2:=ho.2;rw[hab]at h2;obtain⟨p1,p2,p3⟩:=xV.1 h2;refine xV.2 ⟨p1,xW.2 ⟨λx hx=>.inl (hb x hx),p2⟩,λx hx y hy=>?_⟩;rcases wB.1 hy with rfl|hy
      ·have:=ha x hx;have:=hl2 x (by rw[hab];exact List.mem_append_left _ hx);unfold LtD;omega
      ·exact p3 x hx y hy
    by_cases h0:a=[]
    ·subst h0;rw[az5 (by simp),az7];exact .inr (.inl ⟨_,rfl,fin1 λx hx=>by cases hx⟩)
    ·obtain⟨a',x,rfl⟩:∃a' x,a=a'++[x]:=⟨a.dropLast,a.getLast h0,(List.dropLast_concat_getLast h0).symm⟩;have hal:(a'++[x]).length=a'.length+1:=by simp
     have hx:=hl2 x (by rw[hab];simp);have l2':=hn _ (bza (show x<pts.length from qa));have hg:(szp (a'++[x])++(j:Int)::szp b).getD a'.length qw=(x:Int):=by
      simp[wo,xX]
     have hg2:(szp (a'++[x])++(j:Int)::szp b).getD (a'.length+1) qw=(j:Int):=by
      simp[wo,xX]
     rw[hal]at hll⊢;rw[az6 qa,wprd qa qa,Nat.add_sub_cancel,aza qa,qH,aza qa,hg,aza qa,qH,aza qa,Rzf r _ _ l2' hq];simp only[qM,az7];by_cases hd:dstV r (pts.getD j qw) q<dstV r (pts.getD x qw) q
     ·rw[az6 hd,aza qa,aza qa,aza qa,qH,aza qa,aza qa,aza qa,aza (by rw[wx];omega),aza (by rw[wx];omega),hg2];refine .inl ⟨_,a'.length,rfl,qa,a',x::b,rfl,ql _,by rw[hab];simp,?_,λz hz=>?_⟩
      ·simp
      ·rcases wB.1 hz with rfl|hz
       ·exact hd
       ·exact hb z hz
     ·rw[az5 hd];refine .inr (.inl ⟨_,rfl,fin1 λz hz=>?_⟩);rcases xg.1 hz with hz|hz
      ·have h2:=ho.2;rw[hab,xn]at h2;have:=(xV.1 h2).2.2 z hz x (by simp);unfold LtD at this;unfold dQ at *
       omega
      ·simp at hz;subst hz;unfold dQ;omega
   rw[e,az7];exact .inl ⟨_,k,rfl,xi k,j+1,rfl,qa,h1⟩
def newE (r:azo)(pts:List (List Int))(u v:Int):az4:=⟨u,v,dstV r (pts.getD u.toNat qw) (pts.getD v.toNat qw),0,⟨0,nl,⟨0,0,nl⟩,⟨0,nl,nl⟩⟩⟩
def hitE (u v:Int)(e:az4):Bool:=bif qx (e.U>u)then true else bif e.U==u then qx (e.V>=v)else false
def othE (u v:Int)(e:az4):Bool:=bif e.U !=u then true else e.V !=v
def insF (n:az4):List az4->List az4
 |[]=>[n]
 |e::t=>bif hitE n.U n.V e then(bif othE n.U n.V e then n::e::t else e::t)else e::insF n t
theorem Kz4 (n:az4):∀l,(insF n l).length<=l.length+1
 |[]=>ql _
 |e::t=>by
  have:=Kz4 n t;unfold insF;cases hitE n.U n.V e<;>cases othE n.U n.V e<;>simp<;>omega
theorem Yzf (r:azo)(pts:List (List Int))(es:List az4)(u v:Int)(hn:∀c∈pts,c.length<4294967296)(he:es.length<=1000000)(hu:0<=u/\u<(pts.length:Int))(hv:0<=v/\v<(pts.length:Int)):
 (uz7 r pts es u v).o=some (insF (newE r pts (min u v) (max u v)) es):=by
 have la:=hn _ (bza (show(min u v).toNat<pts.length from qa));have lb:=hn _ (bza (show(max u v).toNat<pts.length from qa));obtain⟨N,hN⟩:∃N,N=newE r pts (min u v) (max u v):=⟨_,rfl⟩;have hN1:(⟨min u v,max u v,dstV r (pts.getD (min u v).toNat qw) (pts.getD (max u v).toNat qw),0,⟨0,nl,⟨0,0,nl⟩,⟨0,nl,nl⟩⟩⟩:az4)=N:=hN.symm;have hU:N.U=min u v:=by rw[hN];rfl
 have hV:N.V=max u v:=by rw[hN];rfl
 have hil:=Kz4 N es;have goal:∃x,(uz8 r pts es u v).run NN=some x/\x=insF N es:=by
  simp only[uz8,qk,Rzf r _ _ la lb,qM,bzf,az7,hN1]
  refine czu (λk (y:List az4×Bool×Int)=>∃j:Nat,y.2.2=(j:Int)/\j+k=es.length/\y.1++(if y.2.1=true then es.drop j else insF N (es.drop j))=insF N es)
   (λy:List az4×Bool=>y.1++(if y.2=true then []else [N])=insF N es) es.length ⟨0,rfl,qa,by simp[nl]⟩ qa ?_ ?_
  ·rintro k ⟨l,dn,y⟩ ⟨j,hj,hjk,hl⟩;simp only at hj hl⊢;subst hj;have hll:l.length<=1000001:=by
    have:=congrArg xY hl;rw[xb]at this;omega
   cases k with
   |zero=>
    obtain rfl:j=es.length:=qa
    refine .inr (.inl ⟨_,by rw[az5 qa],?_⟩);simp only;rw[List.drop_length]at hl;exact hl
   |succ k=>
    have hd:es.drop j=es.getD j qw::es.drop (j+1):=by
     rw[xZ qa,wo,wD qa,wE]
    rw[hd]at hl;rw[az6 qa,aza qa,aza qa,qH,wn qa];generalize es.getD j qw=e at hl⊢;have hh:(bif qx (e.U>min u v)then true else bif e.U==min u v then qx (e.V>=max u v)else false)=hitE N.U N.V e:=by rw[hU,hV];rfl
    have ho:(bif e.U !=min u v then true else e.V !=max u v)=othE N.U N.V e:=by rw[hU,hV];rfl
    simp only[hh,ho];cases dn with
    |true=>
     simp only[qP,qd,az7];rw[aza (by simp only[wA,w7,azg];omega)];refine .inl ⟨_,k,rfl,xi k,j+1,rfl,qa,?_⟩;simp only[if_true,xn]at hl⊢;exact hl
    |false=>
     simp only[xo,qe];simp only[insF]at hl;cases h1:hitE N.U N.V e with
     |false=>
      rw[h1]at hl;simp only[qd,az7];rw[aza (by simp only[wA,w7,azg];omega)];refine .inl ⟨_,k,rfl,xi k,j+1,rfl,qa,?_⟩;simpa using hl
     |true=>
      rw[h1]at hl;simp only[qe];cases h2:othE N.U N.V e with
      |false=>
       rw[h2]at hl;simp only[qd,az7];rw[aza (by simp only[wA,w7,azg];omega)];refine .inl ⟨_,k,rfl,xi k,j+1,rfl,qa,?_⟩;simpa using hl
      |true=>
       rw[h2]at hl;simp only[qe]
       rw[aza qa,aza qa,aza qa,aza qa,aza (by simp only[wA,w7,azg];omega),az7,
        aza (by simp only[xb,wA,w7,azg];omega)]
       refine .inl ⟨_,k,rfl,xi k,j+1,rfl,qa,?_⟩;simpa using hl
  ·rintro⟨l,dn⟩ hl;simp only at hl⊢;have hll:l.length<=1000001:=by
    have:=congrArg xY hl;rw[xb]at this;omega
   cases dn with
   |true=>
    simp only[qP,qd,az7];exact⟨_,rfl,by simpa using hl⟩
   |false=>
    simp only[xo,qe];rw[aza qa,aza qa,aza qa,aza qa,aza (by simp only[wA,w7,azg];omega),az7];exact⟨_,rfl,by simpa using hl⟩
 obtain⟨x,h1,h2⟩:=goal;rw[<-hN,<-h2];exact h1
open Go.Proofs
theorem Lz8 {a b:az4}:ltE a b=true↔a.U<b.U\/(a.U=b.U/\a.V<b.V):=by unfold ltE;rw[qf]
theorem hitE_iff {n e:az4}:hitE n.U n.V e=true↔¬ltE e n=true:=by
 rw[Lz8];unfold hitE;by_cases h1:e.U>n.U
 ·rw[az6 h1];simp;omega
 ·rw[az5 h1];by_cases h2:e.U=n.U
  ·rw[czn h2,qf];omega
  ·rw[czo h2];simp;omega
theorem othE_iff {n e:az4}:othE n.U n.V e=true↔¬ (e.U=n.U/\e.V=n.V):=by
 unfold othE;by_cases h2:e.U=n.U
 ·rw[bzb h2];simp[h2]
 ·rw[bzq h2];simp[h2]
abbrev SoE (l:List az4):Prop:=l.Pairwise λa b=>ltE a b=true
theorem Qze (n:az4):∀l,SoE l->∀e,e∈insF n l↔e∈l\/(e=n/\∀x∈l,¬ (x.U=n.U/\x.V=n.V))
 |[],_,e=>by simp[insF]
 |x::t,hs,e=>by
  obtain⟨h1,h2⟩:=xW.1 hs;have ih:=Qze n t h2 e;unfold insF;cases hh:hitE n.U n.V x with
  |false=>
   have hx:ltE x n=true:=by
    refine x7 λh=>?_
    rw[hitE_iff.2 h]at hh;cases hh
   simp only[qd,wB,ih];rw[Lz8]at hx;constructor
   ·rintro(h|h|⟨h,h'⟩)
    ·exact .inl (.inl h)
    ·exact .inl (.inr h)
    ·refine .inr ⟨h,λy hy=>?_⟩;rcases hy with rfl|hy
     ·omega
     ·exact h' y hy
   ·rintro((h|h)|⟨h,h'⟩)
    ·exact .inl h
    ·exact .inr (.inl h)
    ·exact .inr (.inr ⟨h,λy hy=>h' y (.inr hy)⟩)
  |true=>
   have hx:=hitE_iff.1 hh;cases ho:othE n.U n.V x with
   |false=>
    have ho':x.U=n.U/\x.V=n.V:=by
     refine x7 λh=>?_
     rw[othE_iff.2 h]at ho;cases ho
    simp only[qe,qd];refine⟨λh=>.inl h,λh=>?_⟩;rcases h with h|⟨h,h'⟩
    ·exact h
    ·exact absurd ho' (h' x (xS ..))
   |true=>
    have ho':=othE_iff.1 ho;simp only[qe,wB];constructor
    ·rintro(h|h|h)
     ·refine .inr ⟨h,λy hy=>?_⟩;rcases hy with rfl|hy
      ·exact ho'
      ·have:=h1 y hy;rw[Lz8]at this hx;omega
     ·exact .inl (.inl h)
     ·exact .inl (.inr h)
    ·rintro((h|h)|⟨h,-⟩)
     ·exact .inr (.inl h)
     ·exact .inr (.inr h)
     ·exact .inl h
theorem az2d (n:az4):∀l,SoE l->SoE (insF n l)
 |[],_=>List.pairwise_singleton ..
 |x::t,hs=>by
  obtain⟨h1,h2⟩:=xW.1 hs;have ih:=az2d n t h2;have im:=Qze n t h2;unfold insF;cases hh:hitE n.U n.V x with
  |false=>
   have hx:ltE x n=true:=by
    refine x7 λh=>?_
    rw[hitE_iff.2 h]at hh;cases hh
   simp only[qd];refine xW.2 ⟨λy hy=>?_,ih⟩;rcases(im y).1 hy with hy|⟨rfl,-⟩
   ·exact h1 y hy
   ·exact hx
  |true=>
   have hx:=hitE_iff.1 hh;cases ho:othE n.U n.V x with
   |false=>exact hs
   |true=>
    have ho':=othE_iff.1 ho;simp only[qe];have hnx:ltE n x=true:=by rw[Lz8]at hx⊢;omega
    refine xW.2 ⟨λy hy=>?_,hs⟩;rcases wB.1 hy with rfl|hy
    ·exact hnx
    ·have:=h1 y hy;rw[Lz8]at this hnx⊢;omega
def MapE (r:azo)(P:List (List Int))(S:Nat->Nat->Prop)(es:List az4):Prop:=SoE es/\∀e,e∈es↔∃a b:Nat,a<b/\b<P.length/\S a b/\e=newE r P a b
theorem MapE.congr {r:azo}{P:List (List Int)}{S S':Nat->Nat->Prop}{es:List az4}(h:MapE r P S es)(hs:∀a b,a<b->b<P.length->(S a b↔S' a b)):MapE r P S' es:=
 ⟨h.1,λe=>(h.2 e).trans ⟨λ⟨a,b,h1,h2,h3,h4⟩=>⟨a,b,h1,h2,(hs a b h1 h2).1 h3,h4⟩,λ⟨a,b,h1,h2,h3,h4⟩=>⟨a,b,h1,h2,(hs a b h1 h2).2 h3,h4⟩⟩⟩
theorem MapE.nil (r:azo)(P:List (List Int)):MapE r P (λ_ _=>False) []:=⟨List.Pairwise.nil,λe=>⟨λh=>(by cases h),λ⟨_,_,_,_,h,_⟩=>h.elim⟩⟩
theorem MapE.ins {r:azo}{P:List (List Int)}{S:Nat->Nat->Prop}{es:List az4}(h:MapE r P S es){x y:Nat}(hx:x<y)(hy:y<P.length):MapE r P (λa b=>S a b\/(a=x/\b=y)) (insF (newE r P x y) es):=by
 refine⟨az2d _ _ h.1,λe=>(Qze _ _ h.1 e).trans ⟨?_,?_⟩⟩
 ·rintro(h1|⟨rfl,-⟩)
  ·obtain⟨a,b,h2,h3,h4,h5⟩:=(h.2 e).1 h1;exact⟨a,b,h2,h3,.inl h4,h5⟩
  ·exact⟨x,y,hx,hy,.inr ⟨rfl,rfl⟩,rfl⟩
 ·rintro⟨a,b,h2,h3,h4|⟨rfl,rfl⟩,h5⟩
  ·exact .inl ((h.2 e).2 ⟨a,b,h2,h3,h4,h5⟩)
  ·by_cases hs:S a b
   ·exact .inl ((h.2 e).2 ⟨a,b,h2,h3,hs,h5⟩)
   ·refine .inr ⟨h5,λz hz hc=>?_⟩;obtain⟨a',b',k2,k3,k4,rfl⟩:=(h.2 z).1 hz;simp only[newE]at hc;have:a'=a/\b'=b:=qa
    rw[this.1,this.2]at k4;exact hs k4
def cntD (d:Nat->Int)(no:Int)(n v:Nat):Nat:=((ixs no n).filter λw=>qx (d w<d v\/(d w=d v/\w<v))).length
theorem mem_ixs {no:Int}{n v:Nat}:v∈ixs no n↔v<n/\(v:Int)≠no:=by unfold ixs;simp
theorem Lzj {d:Nat->Int}{no:Int}{n:Nat}{ns:List Nat}(h:OrdQ d no n ns){v:Nat}(hv:v∈ns):∃a b,ns=a++v::b/\a.length=cntD d no n v/\¬v∈a:=by
 obtain⟨a,b,rfl⟩:=List.append_of_mem hv;obtain⟨h1,h2⟩:=h;obtain⟨p1,p2,p3⟩:=xV.1 h2;have p4:=(xW.1 p2).1;refine⟨a,b,rfl,?_,λha=>?_⟩
 ·unfold cntD;rw[<-(h1.filter _).length_eq,xD,xE];have e1:a.filter (λw=>qx (d w<d v\/(d w=d v/\w<v)))=a:=List.filter_eq_self.2 λw hw=>by
   have:=p3 w hw v (xS ..);exact qg this
  have e2:b.filter (λw=>qx (d w<d v\/(d w=d v/\w<v)))=[]:=List.filter_eq_nil_iff.2 λw hw=>by
   have:=p4 w hw;unfold LtD at this;rw[qf];omega
  rw[e1,e2,qb (by simp)];simp
 ·have:=p3 v ha v (xS ..);unfold LtD at this;omega
theorem Tzw {d:Nat->Int}{no:Int}{n:Nat}{ns:List Nat}(h:OrdQ d no n ns){v i:Nat}:v∈ns.take i↔v∈ixs no n/\cntD d no n v<i:=by
 constructor
 ·intro hv;have hv':=x8 hv;refine⟨h.1.mem_iff.1 hv',?_⟩;obtain⟨a,b,rfl,h2,h3⟩:=Lzj h hv';rw[<-h2];refine x7 λhc=>h3 ?_
  rw[List.take_append_of_le_length qa]at hv;exact x8 hv
 ·rintro⟨h1,h2⟩;obtain⟨a,b,rfl,h4,h5⟩:=Lzj h (h.1.mem_iff.2 h1);rw[List.take_append];obtain⟨m,hm⟩:∃m,i-a.length=m+1:=⟨i-a.length-1,qa⟩;rw[hm,List.take_succ_cons];exact List.mem_append_right _ (xS ..)
theorem azc4 {d:Nat->Int}{no:Int}{n:Nat}{ns:List Nat}(h:OrdQ d no n ns){v:Nat}(hv:v∈ixs no n):cntD d no n v<ns.length:=by
 obtain⟨a,b,rfl,h4,h5⟩:=Lzj h (h.1.mem_iff.2 hv);rw[xb,wA];omega
def Ezh (r:azo)(P:List (List Int))(k:Int)(u v:Nat):Prop:=v∈ixs (u:Int) P.length/\(cntD (dQ r P (P.getD u qw)) (u:Int) P.length v:Int)<k
def az0v (r:azo)(P:List (List Int))(k:Int)(a b:Nat):Prop:=Ezh r P k a b\/Ezh r P k b a
theorem Uz8 (l:List (List Int))(c:List Int)(hl:l.length<4294967296)(hn:∀x∈l,x.length<4294967296):∃z,(lzh l c).o=some z/\qx (z<0)= !memB l c:=by
 obtain⟨z,h1,h2⟩:=az3r l c hl hn;exact⟨z,h1,by rw[<-h2,qZ];simp⟩
theorem Yzo (r:azo)(pts:List (List Int))(k:Int)(hp:pts.length<=1000)(hn:∀c∈pts,c.length<4294967296):
 ∃m,(uz4 r pts k).o=some m/\(dza r≠0->m=⟨[],[]⟩)/\(dza r=0->m.Xc=disL r pts pts.length/\∃es,m.Xa=es.take 8192/\es.length<=m.Xc.length * m.Xc.length/\MapE r m.Xc (az0v r m.Xc k) es):=by
 show ∃m,(uz5 r pts k).run NN=some m/\_;have er:(⟨r.Xb,r.Xh⟩:azo)=r:=rfl;simp only[uz5,qk,er,dz4,jz6,qM];by_cases hr:dza r≠0
 ·rw[bzq hr];exact⟨_,rfl,λ_=>rfl,λh=>absurd h hr⟩
 have hr:dza r=0:=Classical.not_not.1 hr;rw[bzb hr]
 refine czu (x:=((nl:List (List Int)),(0:Int))) (P:=λm:aze=>(dza r≠0->m=⟨[],[]⟩)/\(dza r=0->m.Xc=disL r pts pts.length/\∃es,m.Xa=es.take 8192/\es.length<=m.Xc.length * m.Xc.length/\MapE r m.Xc (az0v r m.Xc k) es))
  (λm (y:List (List Int)×Int)=>∃j:Nat,y.2=(j:Int)/\j+m=pts.length/\y.1=disL r pts j) (λz:List (List Int)=>z=disL r pts pts.length) pts.length ⟨0,rfl,qa,rfl⟩ qa ?_ ?_
 ·rintro m ⟨l,y⟩ ⟨j,hj,hjm,hl⟩;simp only at hj hl⊢;subst hj;subst hl;have hlen:=wz1 r pts j;cases m with
  |zero=>
   obtain rfl:j=pts.length:=qa
   rw[az5 qa,az7];exact .inr (.inl ⟨_,rfl,rfl⟩)
  |succ m=>
   have hin:=zz4 r pts j;have hs:disL r pts (j+1)=if bz8 r (pts.getD j qw)=true/\¬pts.getD j qw∈disL r pts j then disL r pts j++[pts.getD j qw]else disL r pts j:=rfl
   have hc:=hn _ (bza (show j<pts.length from qa));rw[az6 qa,qg (p:=((disL r pts j).length:Int)<1024) qa,az7];simp only[qe];rw[aza qa,wn qa,qH];generalize pts.getD j qw=c at hs hc⊢;cases h1:bz8 r c with
   |false=>
    simp only[qd,az7];refine .inl ⟨_,m,rfl,xi m,j+1,rfl,qa,?_⟩;rw[hs,qb (λh=>by rw[h1]at h;cases h.1)]
   |true=>
    obtain⟨z,z1,z2⟩:=Uz8 (disL r pts j) c qa (λx hx=>by have:=izb (hin x hx);omega);simp only[qe];rw[aza qa,z1];simp only[qM,az7,z2];by_cases hm:c∈disL r pts j
    ·have:memB (disL r pts j) c=true:=qg hm;rw[this];simp only[qP,qd,az7];refine .inl ⟨_,m,rfl,xi m,j+1,rfl,qa,?_⟩;rw[hs,qb (λh=>h.2 hm)]
    ·have:memB (disL r pts j) c=false:=qh hm;rw[this];simp only[xo,qe];rw[aza qa,aza (by rw[azg];omega),aza (by simp only[wA,w7,azg];omega),az7];refine .inl ⟨_,m,rfl,xi m,j+1,rfl,qa,?_⟩;rw[hs,qc ⟨h1,hm⟩]
 ·rintro P hP;have hPl:P.length<=1000:=by have:=wz1 r pts pts.length;rw[hP];omega
  have hPn:∀c∈P,c.length<4294967296:=λc hc=>by rw[hP]at hc;have:=izb (zz4 r pts _ c hc);omega
  refine czu (x:=((nl:List az4),(0:Int))) (P:=λm:aze=>(dza r≠0->m=⟨[],[]⟩)/\(dza r=0->m.Xc=disL r pts pts.length/\∃es,m.Xa=es.take 8192/\es.length<=m.Xc.length * m.Xc.length/\MapE r m.Xc (az0v r m.Xc k) es))
   (λm (y:List az4×Int)=>∃u:Nat,y.2=(u:Int)/\u+m=P.length/\y.1.length<=P.length * u/\MapE r P (λa b=>(a<u/\Ezh r P k a b)\/(b<u/\Ezh r P k b a)) y.1)
   (λes:List az4=>es.length<=P.length * P.length/\MapE r P (az0v r P k) es) P.length ⟨0,rfl,qa,by simp[nl],(MapE.nil r P).congr λa b _ _=>by simp⟩ qa ?_ ?_
  ·rintro m ⟨es,y⟩ ⟨u,hu,hum,hel,hes⟩;simp only at hu hel hes⊢;subst hu;cases m with
   |zero=>
    obtain rfl:u=P.length:=qa
    rw[az5 qa];exact .inr (.inl ⟨_,rfl,hel,hes.congr λa b h1 h2=>by unfold az0v;constructor<;>rintro(h|h)<;>first|exact .inl h.2|exact .inr h.2|exact .inl ⟨qa,h⟩|exact .inr ⟨qa,h⟩⟩)
   |succ m=>
    rw[az6 qa,aza qa,qH,aza qa,wn qa];obtain⟨l,e1,ns,rfl,ho⟩:=Xzx r P (P.getD u qw) (u:Int) hPl hPn (hPn _ (bza qa));rw[e1];simp only[qM];have hnl:ns.length<=P.length:=by
     rw[ho.1.length_eq];unfold ixs;exact wG (xF _ _) (by simp)
    suffices hi:∃s,_=some s/\(∃es':List az4,s=Step3.next (es',((u+1:Nat):Int))/\es'.length<=P.length * (u+1)/\MapE r P (λa b=>(a<u+1/\Ezh r P k a b)\/(b<u+1/\Ezh r P k b a)) es') by
     obtain⟨s,e,es',rfl,k1,k2⟩:=hi;exact .inl ⟨_,m,e,xi m,u+1,rfl,qa,k1,k2⟩
    refine czu (λm' (y:List az4×Int)=>∃i:Nat,y.2=(i:Int)/\i+m'=ns.length/\((i:Int)<=k\/i=0)/\y.1.length<=P.length * u+i/\MapE r P (λa b=>((a<u/\Ezh r P k a b)\/(b<u/\Ezh r P k b a))\/(a=u/\b∈ns.take i)\/(b=u/\a∈ns.take i)) y.1)
     (λes':List az4=>es'.length<=P.length * (u+1)/\MapE r P (λa b=>(a<u+1/\Ezh r P k a b)\/(b<u+1/\Ezh r P k b a)) es') ns.length ⟨0,rfl,qa,.inr rfl,by simp only;omega,hes.congr λa b _ _=>by simp⟩ qa ?_ (λz hz=>⟨_,rfl,z,rfl,hz⟩)
    rintro m' ⟨es2,y2⟩ ⟨i,hi,him,hik,hel2,hes2⟩;simp only at hi hel2 hes2⊢;subst hi;have hcl:(szp ns).length=ns.length:=by simp
    have hsq:P.length * u<=1000 * 990+10000-1000:=by
     have h1:P.length * u<=P.length * (P.length-1):=Nat.mul_le_mul_left _ qa;have h2:P.length * (P.length-1)<=1000 * 999:=Nat.mul_le_mul hPl qa;omega
    have stop:(i=ns.length\/k<=(i:Int))->es2.length<=P.length * (u+1)/\MapE r P (λa b=>(a<u+1/\Ezh r P k a b)\/(b<u+1/\Ezh r P k b a)) es2:=λhs=>by
     have key:∀v,v∈ns.take i↔Ezh r P k u v:=λv=>by
      rw[Tzw ho];unfold Ezh;constructor
      ·rintro⟨h1,h2⟩;exact⟨h1,qa⟩
      ·rintro⟨h1,h2⟩;have:=azc4 ho h1;exact⟨h1,qa⟩
     refine⟨by rw[Nat.mul_succ];omega,hes2.congr λa b h1 h2=>?_⟩;rw[key,key];constructor
     ·rintro((h|h)|⟨rfl,h⟩|⟨rfl,h⟩)
      ·exact .inl ⟨qa,h.2⟩
      ·exact .inr ⟨qa,h.2⟩
      ·exact .inl ⟨qa,h⟩
      ·exact .inr ⟨qa,h⟩
     ·rintro(⟨h,h'⟩|⟨h,h'⟩)
      ·by_cases e:a=u
       ·subst e;exact .inr (.inl ⟨rfl,h'⟩)
       ·exact .inl (.inl ⟨qa,h'⟩)
      ·by_cases e:b=u
       ·subst e;exact .inr (.inr ⟨rfl,h'⟩)
       ·exact .inl (.inr ⟨qa,h'⟩)
    by_cases c1:i<ns.length
    ·by_cases c2:(i:Int)<k
     ·have hv:=bza c1;have hvx:=mem_ixs.1 (ho.1.mem_iff.1 hv);have hg:=Szc c1;rw[az6 qa,qg c2,az7];simp only[qe];rw[aza qa,qH,hg,Yzf r P es2 u _ hPn qa qa qa,wn qa];simp only[qM];have hil:=Kz4 (newE r P (min (u:Int) ((ns.getD i qw:Nat):Int)) (max (u:Int) ((ns.getD i qw:Nat):Int))) es2;have ht:ns.take (i+1)=ns.take i++[ns.getD i qw]:=czr c1;refine .inl ⟨_,m'-1,rfl,qa,i+1,rfl,qa,.inl qa,by simp only;omega,?_⟩;simp only;rw[ht];generalize ns.getD i qw=v at *
      have hmn:min (u:Int) (v:Int)=((min u v:Nat):Int):=qa
      have hmx:max (u:Int) (v:Int)=((max u v:Nat):Int):=qa
      rw[hmn,hmx];refine(hes2.ins (x:=min u v) (y:=max u v) qa qa).congr λa b h1 h2=>?_
      simp only[xg,wN];constructor
      ·rintro((h|⟨rfl,h⟩|⟨rfl,h⟩)|h)
       ·exact .inl h
       ·exact .inr (.inl ⟨rfl,.inl h⟩)
       ·exact .inr (.inr ⟨rfl,.inl h⟩)
       ·by_cases huv:u<v
        ·exact .inr (.inl ⟨qa,.inr qa⟩)
        ·exact .inr (.inr ⟨qa,.inr qa⟩)
      ·rintro(h|⟨rfl,h|h⟩|⟨rfl,h|h⟩)
       ·exact .inl (.inl h)
       ·exact .inl (.inr (.inl ⟨rfl,h⟩))
       ·exact .inr qa
       ·exact .inl (.inr (.inr ⟨rfl,h⟩))
       ·exact .inr qa
     ·rw[az6 qa,qh c2,az7];exact .inr (.inl ⟨_,rfl,stop (.inr qa)⟩)
    ·rw[az5 qa,az7];exact .inr (.inl ⟨_,rfl,stop (.inl qa)⟩)
  ·rintro es ⟨hel,hes⟩;by_cases h:((es.length:Nat):Int)>8192
   ·rw[az6 h,aza qa,az7];exact⟨_,rfl,λh=>absurd hr h,λ_=>⟨hP,es,rfl,hel,hes⟩⟩
   ·rw[az5 h,az7];exact⟨_,rfl,λh=>absurd hr h,λ_=>⟨hP,es,(List.take_of_length_le (by simp only;omega)).symm,hel,hes⟩⟩
open Go.Proofs
open Go.Proofs
theorem Zzr (l:List cza)(h:l.length<4294967296):(gzi l).o=some l:=by
 show(ezj l).run NN=_;cases l with
 |nil=>rfl
 |cons a l=>
  simp only[ezj,qk];simp only[wA]at h;rw[aza (by simp),aza ⟨by simp only[w7,wA];omega,by simp only[w7,wA,azg];omega⟩];rfl
theorem Vzq (l:List azi)(h:l.length<4294967296):(fz6 l).o=some l:=by
 show(dzg l).run NN=_;cases l with
 |nil=>rfl
 |cons a l=>
  simp only[dzg,qk];simp only[wA]at h;rw[aza (by simp),aza ⟨by simp only[w7,wA];omega,by simp only[w7,wA,azg];omega⟩];rfl
theorem Zzq (l:List Int)(h:l.length<4294967296):(lzy l).o=some l:=by
 show(hzh l).run NN=_;cases l with
 |nil=>rfl
 |cons a l=>
  simp only[hzh,qk];simp only[wA]at h;rw[aza (by simp),aza ⟨by simp only[w7,wA];omega,by simp only[w7,wA,azg];omega⟩];rfl
theorem Pzk (p:azi)(h:PkF p):(rzy p).o=some (p.Xz,p.Xy):=by
 obtain⟨h0,h1,h2⟩:=h;show(lz5 p).run NN=_;simp only[lz5,qk,Zzr p.Xy qa,qM];refine(cz8 (λj=>(p.Xy,(j:Int))) p.Xy p.Xy.length rfl (show p.Xy.length<4294967296 from qa) (λj hj=>?_) ?_).trans ?_
 ·have l1:=h2 _ (bza hj);rw[az6 (by simpa using hj),aza ⟨by simp,by simpa using hj⟩];simp only[qH];rw[aza hj,Zzq _ qa,qM,aza ⟨qa,qa⟩,aza ⟨hj,qa⟩,wn qa];exact congrArg (λx=>some (Step3.next (x,((j+1:Nat):Int)))) (Bzw hj)
 ·rw[az5 (by simp)]
 ·rw[Szk p.Xz qa];rfl
theorem Vzp (p:bzu)(h:PaF p):(Izn p).o=some (p.Xc,p.Xa):=by
 obtain⟨h0,h1,h2,h3⟩:=h;show(Az0 p).run NN=_;simp only[Az0,qk,Vzq p.Xa qa,qM];refine(cz8 (λj=>(p.Xa,j,(j:Int))) p.Xa p.Xa.length rfl (show p.Xa.length<4294967296 from qa) (λj hj=>?_) ?_).trans ?_
 ·rw[az6 (by simpa using hj),aza ⟨by simp,by simpa using hj⟩];simp only[qH];rw[aza ⟨ql _,hj⟩,Pzk _ (h3 _ (bza hj)),qM,aza ⟨qa,qa⟩,aza hj,aza trivial,wn qa];exact congrArg (λx=>some (Step3.next (x,j+1,((j+1:Nat):Int)))) (Bzw hj)
 ·rw[az5 (by simp),aza rfl]
 ·rw[Pzm p.Xc qa (λx hx=>by have:=h1 x hx;omega)];rfl
open Go.Proofs
section
variable {α:Type} [Inhabited α]
def swK (l:List α):Nat->List α
 |0=>l
 |k+1=>((swK l k).set k ((swK l k).getD (l.length-1-k) qw)).set (l.length-1-k) ((swK l k).getD k qw)
theorem Mzp (l:List α):∀k,(swK l k).length=l.length
 |0=>rfl
 |k+1=>by simp[swK,Mzp l k]
theorem Tz9 {l:List α}{i j:Nat}{v:α}(hj:j<l.length):(l.set i v).getD j qw=if j=i then v else l.getD j qw:=by
 simp only[wo,xT];by_cases e:i=j
 ·subst e;simp[hj]
 ·rw[qb e,qb (λh=>e h.symm)]
theorem az51 (l:List α):∀k,k<=l.length / 2->∀i,i<l.length->(swK l k).getD i qw=if i<k\/l.length-k<=i then l.getD (l.length-1-i) qw else l.getD i qw
 |0,_,i,hi=>by rw[qb qa];rfl
 |k+1,hk,i,hi=>by
  have ih:=az51 l k qa;have hl:=Mzp l k;simp only[swK];rw[Tz9 (by simp[hl];exact hi),Tz9 (by rw[hl];exact hi),ih k qa,ih _ qa,ih i hi];by_cases h1:i=l.length-1-k
  ·rw[qc h1,qb qa,qc qa,show l.length-1-i=k from qa]
  ·rw[qb h1];by_cases h2:i=k
   ·subst h2;rw[qc rfl,qb qa,qc qa]
   ·rw[qb h2];by_cases h3:i<k\/l.length-k<=i
    ·rw[qc h3,qc qa]
    ·rw[qb h3,qb qa]
theorem azbj (l:List α):swK l (l.length / 2)=l.reverse:=by
 refine xU (by simp[Mzp]) λi h1 h2=>?_
 have hi:i<l.length:=by rw[Mzp]at h1;exact h1
 have:=az51 l _ (ql _) i hi;rw[wo,wD h1,wE]at this;rw[this,List.getElem_reverse];by_cases h3:i<l.length / 2\/l.length-l.length / 2<=i
 ·rw[qc h3,wo,wD qa,wE]
 ·rw[qb h3,wo,wD hi,wE];congr 1;omega
theorem Rzi {R:Type}{f:List α×Int×Int->Option (Step3 (List α×Int×Int) (List α) R)}{k:List α->Option R}(l:List α)(hl:l.length<4294967296)
 (hs:∀ (X:List α) (i j:Nat),X.length=l.length->i<j->j<l.length->f (X,(i:Int),(j:Int))=some (.next (((X.set i (X.getD j qw)).set j (X.getD i qw)),qv.wrap ((i:Int)+1),qv.wrap ((j:Int)-1))))
 (he:∀ (X:List α) (i j:Int),¬i<j->f (X,i,j)=some (.out X)):andK (iter f NN (l,0,qv.wrap (((l.length:Nat):Int)-1))) k=k l.reverse:=by
 rw[w64 qa qa,<-azbj l];refine cz8 (λj=>(swK l j,(j:Int),((l.length:Nat):Int)-1- (j:Int))) _ (l.length / 2) ?_ (show l.length / 2<4294967296 from qa) (λj hj=>?_) ?_
 ·simp only[swK];simp
 ·have e:((l.length:Nat):Int)-1- (j:Int)=((l.length-1-j:Nat):Int):=qa
  rw[e,hs _ j (l.length-1-j) (Mzp l j) qa qa,w64 qa qa,w64 qa qa];simp only[swK];congr 4;omega
 ·exact he _ _ _ qa
def mapK (g:α->α)(l:List α)(k:Nat):List α:=(l.take k).map g++l.drop k
omit [Inhabited α]in
theorem Qzj (g:α->α)(l:List α)(k:Nat):(mapK g l k).length=l.length:=by simp[mapK];omega
theorem Qzi (g:α->α)(l:List α){k:Nat}(h:k<l.length):(mapK g l k).getD k qw=l.getD k qw:=by
 simp only[mapK,wo];rw[List.getElem?_append_right (by simp;omega)];simp[show k-min k l.length=0 from qa]
theorem Yzm (g:α->α)(l:List α){k:Nat}(h:k<l.length):(mapK g l k).set k (g (l.getD k qw))=mapK g l (k+1):=by
 simp only[mapK];rw[List.set_append_right _ _ (by simp;omega)];have e:k- ((l.take k).map g).length=0:=by simp;omega
 have e2:l.take (k+1)=l.take k++[l[k]]:=by rw[xC,wD h];rfl
 rw[e,xZ h,List.set_cons_zero,e2,xJ,xn];simp[wo,wD h]
omit [Inhabited α]in
theorem Yzl (g:α->α)(l:List α):mapK g l l.length=l.map g:=by simp[mapK]
end
theorem az48 (l:List (List Int))(hl:l.length<4294967296):(hzq l).o=some l.reverse:=by
 show(fz1 l).run NN=_;simp only[fz1,qk];refine Rzi l hl (λX i j hX hij hj=>?_) (λX i j h=>by rw[az5 h]);simp only[qH,wx];rw[az6 qa,aza qa,aza qa,aza qa,aza qa,aza qa,aza qa,aza qa,aza qa]
theorem az74 (l:List cza)(hl:l.length<4294967296):(fzx l).o=some l.reverse:=by
 show(ez4 l).run NN=_;simp only[ez4,qk];refine Rzi l hl (λX i j hX hij hj=>?_) (λX i j h=>by rw[az5 h]);simp only[qH,wx];rw[az6 qa,aza qa,aza qa,aza qa,aza qa,aza qa,aza qa,aza qa,aza qa]
theorem az49 (l:List azi)(hl:l.length<4294967296):(ezq l).o=some l.reverse:=by
 show(dz5 l).run NN=_;simp only[dz5,qk];refine Rzi l hl (λX i j hX hij hj=>?_) (λX i j h=>by rw[az5 h]);simp only[qH];rw[az6 qa,aza qa,aza qa,aza qa,aza qa,aza qa,aza qa,aza qa]
def revU (u:cza):cza:=if 0<=u.Xg/\u.Xg<=20 then⟨u.Xg,qv.wrap (2 ^ u.Xg.toNat-1-u.Xk),u.Xu⟩else u
def revK (y:azi):azi:=⟨y.Xz,y.Xy.reverse.map revU⟩
def revP (x:bzu):bzu:=⟨x.Xc.reverse,x.Xa.reverse.map revK⟩
theorem azdl {d:Int}(h:0<=d/\d<=20)(i:Int):qv.wrap (qv.wrap (qv.wrap (1 * 2 ^ (min d.toNat 64))-1)-i)=qv.wrap (2 ^ d.toNat-1-i):=by
 have:=pow9 h.1 h.2;rw[show min d.toNat 64=d.toNat from qa,wu,w64 (x:=2 ^ d.toNat) qa qa,w64 (x:=2 ^ d.toNat-1) qa qa]
theorem az0w (x:bzu)(h:PaF x):(Czv x).o=some (revP x):=by
 obtain⟨h0,h1,h2,h3⟩:=h;show(tzi x).run NN=_;have ex:(⟨x.Xc,x.Xa⟩:bzu)=x:=rfl;simp only[tzi,qk,ex,Vzp x ⟨h0,h1,h2,h3⟩,az48 x.Xc qa,az49 x.Xa qa,qM];have hrl:x.Xa.reverse.length=x.Xa.length:=by simp
 have hr3:∀y∈x.Xa.reverse,PkF y:=λy hy=>h3 y (by simpa using hy)
 unfold revP;generalize x.Xa.reverse=E at hrl hr3;refine(cz8 (λj=>(mapK revK E j,(j:Int))) (E.map revK) E.length (by simp[mapK]) (show E.length<4294967296 from qa) (λj hj=>?_) ?_).trans rfl
 ·obtain⟨t0,t1,t2⟩:=hr3 _ (bza hj);have hl:=Qzj revK E j;rw[az6 qa,qH];simp only;rw[aza qa,aza qa,Qzi revK E hj,az74 _ qa,qM];have hul:(E.getD j qw).Xy.reverse.length=(E.getD j qw).Xy.length:=by simp
  refine(cz8 (λi=>(mapK revU (E.getD j qw).Xy.reverse i,(i:Int))) ((E.getD j qw).Xy.reverse.map revU) (E.getD j qw).Xy.reverse.length (by simp[mapK]) (show(E.getD j qw).Xy.reverse.length<4294967296 from qa) (λi hi=>?_) ?_).trans ?_
  ·generalize (E.getD j qw).Xy.reverse=U at hi hul;have hu:=Qzj revU U i;rw[az6 qa,qH];simp only;rw[aza qa,aza qa,Qzi revU U hi];generalize hv:U.getD i qw=u;have hset:=Yzm revU U hi;rw[hv]at hset;by_cases c:0<=u.Xg/\u.Xg<=20
   ·rw[qg c.1,qg c.2];simp only[qe,az7];rw[aza c.1,aza qa,aza ⟨qa,Nat.zero_le _⟩,azdl c,az7,wn qa];rw[show revU u=⟨u.Xg,qv.wrap (2 ^ u.Xg.toNat-1-u.Xk),u.Xu⟩from qc c]at hset;rw[hset]
   ·rw[show revU u=u from qb c]at hset;have hself:mapK revU U i=mapK revU U (i+1):=by
     rw[<-hset,<-hv,<-Qzi revU U hi,Bzw qa]
    by_cases c1:u.Xg>=0
    ·rw[qg c1,qh (show ¬u.Xg<=20 from qa)];simp only[qe,qd,az7];rw[wn qa,<-hself]
    ·rw[qh c1];simp only[qd,az7];rw[wn qa,<-hself]
  ·have hu:=Qzj revU (E.getD j qw).Xy.reverse (E.getD j qw).Xy.reverse.length;rw[az5 qa,Yzl]
  ·rw[wn qa];exact congrArg (λz=>some (Step3.next (z,((j+1:Nat):Int)))) (Yzm revK E hj)
 ·rw[az5 (by rw[hrl];omega),Yzl]
open Go.Proofs
theorem az47 (u:cza):(revU u).Xu=u.Xu:=by unfold revU;split<;>rfl
theorem azdc {y:azi}(h:PkF y):PkF (revK y):=by
 obtain⟨h0,h1,h2⟩:=h;refine⟨h0,by simpa[revK]using h1,λu hu=>?_⟩;obtain⟨v,hv,rfl⟩:=List.mem_map.1 hu;rw[az47];exact h2 v (by simpa using hv)
theorem az62 {α:Type}[Inhabited α]{l:List α}{i:Nat}(h:i<l.length):l.reverse.getD i qw=l.getD (l.length-1-i) qw:=by
 rw[wo,wo,List.getElem?_reverse h]
theorem Tz8 {α β:Type}[Inhabited α][Inhabited β]{g:α->β}{l:List α}{i:Nat}(h:i<l.length):(l.map g).getD i qw=g (l.getD i qw):=by
 simp[wo,wD h]
open Go.Proofs
end Go.Abs
