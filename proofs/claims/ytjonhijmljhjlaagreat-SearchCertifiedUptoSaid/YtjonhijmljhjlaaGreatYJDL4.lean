import Derived.Test.YtjonhijmljhjlaaGreatYJDL3
import Derived.Test.YtjonhijmljhjlaaGreatYJDL2
import Derived.Test.YtjonhijmljhjlaaGreatYJD3
import Derived.Test.YtjonhijmljhjlaaGreatYJPLib
open Bool renaming not_false->xp,and_eq_true->qm,eq_iff_iff->qY,not_eq_true'->wc,or_eq_false_iff->qp,true_and->qR,or_eq_true->qZ,not_true->qO,false_and->wK,and_false->wP,and_self->qS
open Classical renaming byContradiction->za
open Decidable renaming decide->qw
open Go.IntKind renaming i64->qu
open Inhabited renaming default->qv
open Int renaming toNat_natCast->qG,tdiv_eq_ediv_of_nonneg->xk,pow_succ->wN,neg_tdiv->xA,pow_zero->xC,tdiv_one->xD,one_mul->wu,zero_mul->xE
open List renaming length_set->wx,replicate->qt,length_replicate->wA,take_add_one->xF,getD_eq_getElem?_getD->wm,getElem?_eq_getElem->wE,filter_append->xG,filter_cons->xH,length_filter_le->xI,length_cons->wB,length_nil->w8,append_nil->xz,length_append->xc,append_assoc->xo,nil_append->wW,drop_eq_nil_of_le->xm,mem_append->xh,findIdx?_eq_none_iff->xK,length_singleton->xd,findIdx?_eq_some_iff_getElem->xL,foldl_append->wS,map_append->xM,map_cons->xN,sum_cons->xO,mem_cons->wC,length_take->xP,mem_singleton->wO,all_cons->xQ,all_eq_true->ql,prefix_rfl->xR,all_append->xS,all_nil->xT,map_nil->xU,mem_cons_self->xV,getElem_of_mem->wD,getElem?_set->xW,ext_getElem->xX,pairwise_append->xY,pairwise_cons->xZ,getElem?_append->x7,length->x8,drop_eq_getElem_cons->x9,mem_of_mem_take->zb,mem_map->zd,length_map->zf
open Nat renaming pow_le_pow_right->wt,le_refl->wz,pow_succ->xJ,le_trans->wH,lt_succ_self->xj
open Option renaming bind_some->qL,getD_some->wF
open Go.Abs.T renaming run->qk
noncomputable section
namespace Go.Abs
open Go.Proofs
open Go.Proofs
theorem Hz7 {σ τ R:Type}{f g:σ->Option (Step3 σ τ R)}(I:σ->Prop)(h:∀x,I x->f x=g x/\∀y,g x=some (.next y)->I y):∀ (N:Nat) (x:σ),I x->iter f N x=iter g N x
 |0,_,_=>rfl
 |N+1,x,b=>by
  obtain⟨d,c⟩:=h x b;simp only[iter,d];cases a:g x with
  |none=>rfl
  |some s=>cases s with
   |next y=>exact Hz7 I h N y (c y a)
   |out _=>rfl
   |fin _=>rfl
theorem Xzt {σ c τ j R o:Type}{f:σ->Option (Step3 σ τ R)}{g:c->Option (Step3 c j o)}(S:σ->c->Prop)(T:τ->j->Prop)(U:R->o->Prop)
 (h:∀x y,S x y->(∃m l,f x=some (.next m)/\g y=some (.next l)/\S m l)\/(∃a b,f x=some (.out a)/\g y=some (.out b)/\T a b)\/(∃a b,f x=some (.fin a)/\g y=some (.fin b)/\U a b)):
 ∀ (N:Nat) (x:σ) (y:c),S x y->(∀b,iter g N y=some (.inl b)->∃a,iter f N x=some (.inl a)/\T a b)/\(∀b,iter g N y=some (.inr b)->∃a,iter f N x=some (.inr a)/\U a b)
 |0,_,_,_=>⟨λb h=>by simp[iter]at h,λb h=>by simp[iter]at h⟩
 |N+1,x,y,q=>by
  rcases h x y q with⟨m,l,k,i,e⟩|⟨a,b,k,i,e⟩|⟨a,b,k,i,e⟩
  ·have:=Xzt S T U h N m l e;simp only[iter,k,i];exact this
  ·simp only[iter,k,i];exact⟨(λn d=>by cases d;exact⟨a,rfl,e⟩),(λn d=>by cases d)⟩
  ·simp only[iter,k,i];exact⟨(λn d=>by cases d),(λn d=>by cases d;exact⟨a,rfl,e⟩)⟩
theorem az7g (l:List V3)(w:List Int)(h:w.length=l.length)(g:l.length<4294967296):(Bza l w).o=(qzp l w).o:=by
 show(uzx l w).run NN=(qzq l w).run NN;simp only[uzx,qzq,qk,T.ix];refine congrArg (λz=>andK z _) (Hz7 (λx=>0<=x.2.2.2/\x.2.2.2<=(l.length:Int)) (λx e=>?_) NN _ ⟨by simp,by simp⟩);by_cases c:x.2.2.2<(l.length:Int)
 ·constructor
  ·rw[az8 c,az8 c];have d:0<=x.2.2.2/\x.2.2.2<(l.length:Int):=⟨e.1,c⟩;have b:0<=x.2.2.2/\x.2.2.2<(w.length:Int):=qa
   have f:x.2.2.2.toNat<w.length:=qa
   simp only[aza d,aza b,aza f]
  ·intro y a;have d:0<=x.2.2.2/\x.2.2.2<(l.length:Int):=⟨e.1,c⟩;have b:0<=x.2.2.2/\x.2.2.2<(w.length:Int):=qa
   rw[az8 c]at a;simp only[aza d,aza b,Option.some.injEq,Step3.next.injEq]at a;subst a;simp only;rw[w64 qa qa];omega
 ·constructor
  ·rw[az7 c,az7 c]
  ·intro y a;rw[az7 c]at a;cases a
theorem Szn (l:List V3)(w:List Int)(i t:Int)(j:w.length<4294967296):(pzf l w i t).o=(lzb w t i).o:=by
 show(kzp l w i t).run NN=(lzc w t i).run NN;simp only[kzp,lzc,qk];rw[aza (p:=w.length * 8<=140737488355328/\w.length<=maxLen) ⟨qa,by rw[azc];omega⟩];refine congrArg (λz=>andK z _) (Hz7 (λx=>x.1.length=w.length) (λx d=>?_) NN _ rfl);constructor
 ·rw[d]
 ·intro y a;cases b:qw (x.2.2<((x.1.length:Nat):Int))with
  |false=>rw[b]at a;cases a
  |true=>
   rw[b,qe]at a;have b:=of_decide_eq_true b;by_cases c:0<=x.2.2
   ·have g:0<=x.2.2/\x.2.2<(x.1.length:Int):=⟨c,b⟩;have e:x.2.2.toNat<x.1.length:=qa
    have f:x.2.2.toNat<x.1.length/\0<=x.2.2.toNat:=⟨e,qa⟩;simp only[aza g,aza e,aza f,Option.some.injEq,Step3.next.injEq]at a;subst a;simp only[wx];exact d
   ·rw[show grd (0<=x.2.2/\x.2.2<(x.1.length:Int)) _=none from by unfold grd;rw[qb (λh=>c h.1)]]at a;cases a
theorem Nzm (a b:V3):(lzd a b).o=some (cz5 a b):=rfl
theorem Izs (a b:V3):(izd a b).o=some (rzh a b):=rfl
def clo (x:Int):Int:=cdiv (max x (qu.wrap (0-x))) 65536
def az90 (v:V3)(m:Int):Bool:=qw (qu.wrap (qu.wrap (qu.wrap (0+qu.wrap (clo v.1 * clo v.1))+qu.wrap (clo v.2.1 * clo v.2.1))+qu.wrap (clo v.2.2 * clo v.2.2))<=qu.wrap (m * m))
theorem Uz0 {v:V3}(h:inV v)(m:Int):(sz5 v m).o=some (az90 v m):=by
 show(nzx v m).run NN=_;simp only[nzx,qk,T.ix,cz7 (h.1.max (InR.wr _)) (show(0:Int)<65536 by decide),cz7 (h.2.1.max (InR.wr _)) (show(0:Int)<65536 by decide),cz7 (h.2.2.max (InR.wr _)) (show(0:Int)<65536 by decide),qL];rfl
theorem az1c {v:V3}(h:inV v)(m:Int):(mzb v m).o=some (az90 v m):=by
 show(gzq v m).run NN=_;simp only[gzq,qk];have a:∀x:Int,InR x->(bzj (max x (qu.wrap (0-x))) 16).o=some (clo x):=λx b=>su16 (b.max (InR.wr _))
 refine(bzv (λj=>((match j with|0=>0|1=>qu.wrap (0+qu.wrap (clo v.1 * clo v.1))|2=>qu.wrap (qu.wrap (0+qu.wrap (clo v.1 * clo v.1))+qu.wrap (clo v.2.1 * clo v.2.1))|_=>qu.wrap (qu.wrap (qu.wrap (0+qu.wrap (clo v.1 * clo v.1))+qu.wrap (clo v.2.1 * clo v.2.1))+qu.wrap (clo v.2.2 * clo v.2.2)):Int),(j:Int)))
  (qu.wrap (qu.wrap (qu.wrap (0+qu.wrap (clo v.1 * clo v.1))+qu.wrap (clo v.2.1 * clo v.2.1))+qu.wrap (clo v.2.2 * clo v.2.2))) 3 rfl (by decide) (λj c=>?_) ?_).trans rfl
 ·rw[az8 (by simp only;omega),aza (by simp only;omega),qG,wn qa]
  match j,c with
  |0,_=>rw[show([v.1,v.2.1,v.2.2]:List Int).getD 0 0=v.1 from rfl,a _ h.1];rfl
  |1,_=>rw[show([v.1,v.2.1,v.2.2]:List Int).getD 1 0=v.2.1 from rfl,a _ h.2.1];rfl
  |2,_=>rw[show([v.1,v.2.1,v.2.2]:List Int).getD 2 0=v.2.2 from rfl,a _ h.2.2];rfl
 ·rw[az7 (by simp only;omega)];rfl
def Wz6 (a b:V3):Int:=if rzh a (cz5 a b)<=0 then 0 else min 256 (qu.wrap ((rzh a (cz5 a b)).tdiv (max 1 (qu.wrap ((rzh (cz5 a b) (cz5 a b)).tdiv 256)))))
theorem Nzc (a b:V3):(tzc a b).o=some (Wz6 a b):=by
 show(jzd a b).run NN=_;simp only[jzd,qk,kzu,izo,qL,Wz6];by_cases c:rzh a (cz5 a b)<=0
 ·rw[az8 c,qc c]
 ·rw[az7 c,qb c,aza qa]
open Go.Proofs
theorem Gzi (a:Int)(k:Nat):(a.tdiv (2 ^ k)).tdiv 2=a.tdiv (2 ^ (k+1)):=by
 have p:=czl k;have b:∀a:Int,0<=a->(a.tdiv (2 ^ k)).tdiv 2=a.tdiv (2 ^ (k+1)):=λa c=>by
  rw[xk c,xk (Int.ediv_nonneg c qa),xk c,Int.ediv_ediv_of_nonneg qa,wN]
 rcases Int.le_total 0 a with h|h
 ·exact b a h
 ·have:=b (-a) qa;rw[xA,xA,xA]at this;omega
def hv (v:V3)(k:Nat):V3:=(v.1.tdiv (2 ^ k),v.2.1.tdiv (2 ^ k),v.2.2.tdiv (2 ^ k))
theorem azav {v:V3}(h:inV v)(k:Nat):inV (hv v k):=⟨h.1.tdiv (czl k),h.2.1.tdiv (czl k),h.2.2.tdiv (czl k)⟩
def Xz6 (v:V3):Bool:=(v.1==0)&&((v.2.1==0)&&((v.2.2==0)&&true))
theorem zeroB_no {v:V3}:Xz6 v=false↔v.1≠0\/v.2.1≠0\/v.2.2≠0:=by
 unfold Xz6;by_cases a:v.1=0<;>by_cases c:v.2.1=0<;>by_cases b:v.2.2=0<;>simp[a,c,b]
theorem Rzk {a:Int}(h:a< -16384\/a>16384):a.tdiv 2≠0:=by
 have e:=Int.mul_tdiv_add_tmod a 2;have c:=Int.tmod_lt_of_pos a (show(0:Int)<2 by decide);have b:=Int.lt_tmod_of_pos a (show(0:Int)<2 by decide);omega
theorem Rzp {v:V3}(h:inV v):(jzv v).o=(hzn v).o:=by
 obtain⟨n,Y,f,-⟩:=Czl h;rw[f];have I:(hzn v).o=(jzj v).run NN:=rfl;rw[I]at f;show(hzi v).run NN=_;simp only[hzi,jzj,qk,T.ix]at f⊢;cases m:Xz6 v with
 |true=>
  have j:((v.1==0)&&((v.2.1==0)&&((v.2.2==0)&&true)))=true:=m;rw[j,qe]at f;simp only[Option.some.injEq,Prod.mk.injEq]at f;obtain⟨rfl,rfl⟩:=f;have v0:v.1=0/\v.2.1=0/\v.2.2=0:=by
   unfold Xz6 at m;simpa using m
  have J:hzq v 16384=true:=nearV_iff.2 qa;have L:iter (λd:Int×Int×Int=>((fzk (d.1,d.2.1,d.2.2)).o.bind λg=>bif !g then some (Step3.next (qu.wrap (d.1.tdiv 2),qu.wrap (d.2.1.tdiv 2),qu.wrap (d.2.2.tdiv 2)))else some (.out (d.1,d.2.1,d.2.2)):Option (Step3 (Int×Int×Int) (Int×Int×Int) (V3×Bool)))) NN (v.1,v.2.1,v.2.2)=some (.inl v):=by
   suffices hN:∀N:Nat,iter (λd:Int×Int×Int=>((fzk (d.1,d.2.1,d.2.2)).o.bind λg=>bif !g then some (Step3.next (qu.wrap (d.1.tdiv 2),qu.wrap (d.2.1.tdiv 2),qu.wrap (d.2.2.tdiv 2)))else some (.out (d.1,d.2.1,d.2.2)):Option (Step3 (Int×Int×Int) (Int×Int×Int) (V3×Bool)))) (N+1) (v.1,v.2.1,v.2.2)=some (.inl v)from hN 4294967295
   intro N;simp only[iter,izw,qL];have:(v.1,v.2.1,v.2.2)=v:=rfl;rw[this,J];rfl
  rw[L];show some ((v.1,v.2.1,v.2.2), !((v.1==0)&&((v.2.1==0)&&((v.2.2==0)&&true))))=_;rw[j];rfl
 |false=>
  have j:((v.1==0)&&((v.2.1==0)&&((v.2.2==0)&&true)))=false:=m;rw[j,qd]at f;have nz:=zeroB_no.1 m;have A:∀ (N k:Nat),k<=49->Xz6 (hv v k)=false->∀r,iter (λ(i:Int)=>(grd (i≠0) (grd (i≠0) (grd (i≠0) ((gz7 ((qu.wrap (v.1.tdiv i)),(qu.wrap (v.2.1.tdiv i)),(qu.wrap (v.2.2.tdiv i))) 16384).o.bind λD=>
   bif D then some (.fin (((qu.wrap (v.1.tdiv i)),(qu.wrap (v.2.1.tdiv i)),(qu.wrap (v.2.2.tdiv i))),true))else some (.next (qu.wrap (i * 2)))))):Option (Step3 Int U0 (V3×Bool)))) N (2 ^ k)=some (.inr r)->
   iter (λd:Int×Int×Int=>((fzk (d.1,d.2.1,d.2.2)).o.bind λg=>bif !g then some (Step3.next (qu.wrap (d.1.tdiv 2),qu.wrap (d.2.1.tdiv 2),qu.wrap (d.2.2.tdiv 2)))else some (.out (d.1,d.2.1,d.2.2)):Option (Step3 (Int×Int×Int) (Int×Int×Int) (V3×Bool)))) N (hv v k)=some (.inl r.1)/\r.2=true/\Xz6 r.1=false:=by
   intro N;induction N with
   |zero=>intro k _ _ r f;simp[iter]at f
   |succ N R=>
    intro k hk m r f;have p:=czl k;have hi:=azav h k;have s:(qu.wrap (v.1.tdiv (2 ^ k)),qu.wrap (v.2.1.tdiv (2 ^ k)),qu.wrap (v.2.2.tdiv (2 ^ k)))=hv v k:=by
     have a:=hi.1.w;have b:=hi.2.1.w;have c:=hi.2.2.w;simp only[hv]at a b c⊢;rw[a,b,c]
    have hp2:(2:Int) ^ k<=562949953421312:=by
     have:(2:Int) ^ k<=2 ^ 49:=by exact_mod_cast wt (by decide:0<2) (show k<=49 from qa)
     have e:(2:Int) ^ 49=562949953421312:=by decide
     omega
    simp only[iter]at f⊢;rw[aza qa,aza qa,aza qa,hz6 _ (by decide) (by decide),s]at f;have Q:((hv v k).1,(hv v k).2.1,(hv v k).2.2)=hv v k:=rfl;simp only[qL]at f;rw[Q,izw];simp only[qL];cases q:hzq (hv v k) 16384 with
    |true=>
     rw[q]at f;simp only[qe,Option.some.injEq,Sum.inr.injEq]at f;subst f;exact⟨rfl,rfl,m⟩
    |false=>
     rw[q]at f;simp only[qd]at f;rw[w64 (x:=2 ^ k * 2) qa qa,<-wN]at f;have U:k<49:=by
      by_cases e:k=49
      ·exfalso
       have X:=vzd h.1;have O:=vzd h.2.1;have t3:=vzd h.2.2;have B:(2:Int) ^ 49=562949953421312:=by decide
       have:hzq (hv v k) 16384=true:=by
        rw[e];unfold hv;rw[B];exact nearV_iff.2 ⟨X,O,t3⟩
       rw[q]at this;cases this
      ·omega
     have u:(qu.wrap ((hv v k).1.tdiv 2),qu.wrap ((hv v k).2.1.tdiv 2),qu.wrap ((hv v k).2.2.tdiv 2))=hv v (k+1):=by
      have C:=azav h (k+1);have a:=C.1.w;have b:=C.2.1.w;have c:=C.2.2.w;simp only[hv,Gzi]at a b c⊢;rw[a,b,c]
     have t:Xz6 (hv v (k+1))=false:=by
      have:¬ ((-16384<=(hv v k).1/\(hv v k).1<=16384)/\(-16384<=(hv v k).2.1/\(hv v k).2.1<=16384)/\(-16384<=(hv v k).2.2/\(hv v k).2.2<=16384)):=λZ=>by
       rw[nearV_iff.2 Z]at q;cases q
      rw[zeroB_no];have K:(hv v (k+1)).1=(hv v k).1.tdiv 2:=(Gzi _ _).symm;have H:(hv v (k+1)).2.1=(hv v k).2.1.tdiv 2:=(Gzi _ _).symm;have M:(hv v (k+1)).2.2=(hv v k).2.2.tdiv 2:=(Gzi _ _).symm;rw[K,H,M];by_cases W:(hv v k).1< -16384\/(hv v k).1>16384
      ·exact .inl (Rzk W)
      ·by_cases S:(hv v k).2.1< -16384\/(hv v k).2.1>16384
       ·exact .inr (.inl (Rzk S))
       ·exact .inr (.inr (Rzk qa))
     simp only[xp,qe];rw[u];exact R (k+1) qa t r f
  have E:hv v 0=v:=by
   unfold hv;rw[xC,xD,xD,xD]
  have s0:=A NN 0 qa (by rw[E];exact m);rw[E,xC]at s0;generalize iter _ NN (1:Int)=o at f s0;cases o with
  |none=>cases f
  |some z=>cases z with
   |inl _=>cases f
   |inr r=>
    have f:some r=some (n,Y):=f;injection f with f
    subst f;obtain⟨G,F,V⟩:=s0 _ rfl;have P:(v.1,v.2.1,v.2.2)=v:=rfl;rw[P,G];show some ((n.1,n.2.1,n.2.2), !((n.1==0)&&((n.2.1==0)&&((n.2.2==0)&&true))))=_;have y:((n.1==0)&&((n.2.1==0)&&((n.2.2==0)&&true)))=false:=V;simp only at F;rw[y,F];rfl
open Go.Proofs
def bI (c:Int->Int->Bool)(f:Nat->Int):Nat->Nat
 |0=>0
 |j+1=>bif c (f j) (f (bI c f j))then j else bI c f j
theorem az43 (c:Int->Int->Bool)(f:Nat->Int):∀j,bI c f j<=j-1
 |0=>wz _
 |j+1=>by
  have:=az43 c f j;simp only[bI];cases c (f j) (f (bI c f j))<;>simp only[qe,qd]<;>omega
def fN (n:V3)(l:List V3)(j:Nat):Int:=rzh n (l.getD j qv)
section
variable {n:V3} {l:List V3} (h0:1<=l.length) (hl:l.length<4294967296)
include h0 hl
theorem az8t (w:List Int):(zzd l w n).o=some (fN n l (bI ltB (fN n l) l.length),(bI ltB (fN n l) l.length:Int)):=by
 show(nzp l w n).run NN=_;simp only[nzp,qk,izo,qL];rw[aza qa];refine(bzv (λj=>(fN n l (bI ltB (fN n l) j),((bI ltB (fN n l) j:Nat):Int),(j:Int))) (fN n l (bI ltB (fN n l) l.length),(bI ltB (fN n l) l.length:Int)) l.length rfl hl (λj b=>?_) ?_).trans rfl
 ·rw[az8 (by simpa using b),aza ⟨by simp,by simpa using b⟩];simp only[qG,wn (show j<4294967296 from qa)];have e:bI ltB (fN n l) (j+1)=bif ltB (fN n l j) (fN n l (bI ltB (fN n l) j))then j else bI ltB (fN n l) j:=rfl
  rw[e];by_cases a:fN n l j<fN n l (bI ltB (fN n l) j)
  ·rw[show ltB (fN n l j) (fN n l (bI ltB (fN n l) j))=true from qg a,az8 (show rzh n (l.getD j qv)<fN n l (bI ltB (fN n l) j)from a)];rfl
  ·rw[show ltB (fN n l j) (fN n l (bI ltB (fN n l) j))=false from qh a,az7 (show ¬rzh n (l.getD j qv)<fN n l (bI ltB (fN n l) j)from a)];rfl
 ·rw[az7 (by simp)]
theorem Zzb (w:List Int):(ozv l w n).o=some (fN n l (bI gtB (fN n l) l.length),(bI gtB (fN n l) l.length:Int)):=by
 show(hze l w n).run NN=_;simp only[hze,qk,izo,qL];rw[aza qa];refine(bzv (λj=>(fN n l (bI gtB (fN n l) j),((bI gtB (fN n l) j:Nat):Int),(j:Int))) (fN n l (bI gtB (fN n l) l.length),(bI gtB (fN n l) l.length:Int)) l.length rfl hl (λj b=>?_) ?_).trans rfl
 ·rw[az8 (by simpa using b),aza ⟨by simp,by simpa using b⟩];simp only[qG,wn (show j<4294967296 from qa)];have e:bI gtB (fN n l) (j+1)=bif gtB (fN n l j) (fN n l (bI gtB (fN n l) j))then j else bI gtB (fN n l) j:=rfl
  rw[e];by_cases a:fN n l j>fN n l (bI gtB (fN n l) j)
  ·rw[show gtB (fN n l j) (fN n l (bI gtB (fN n l) j))=true from qg a,az8 (show rzh n (l.getD j qv)>fN n l (bI gtB (fN n l) j)from a)];rfl
  ·rw[show gtB (fN n l j) (fN n l (bI gtB (fN n l) j))=false from qh a,az7 (show ¬rzh n (l.getD j qv)>fN n l (bI gtB (fN n l) j)from a)];rfl
 ·rw[az7 (by simp)]
theorem Szg {c:Int->Int->Bool}{a:Int}(g:∀i j,i<l.length->j<l.length->qw (qu.wrap (a * fN n l i)<qu.wrap (a * fN n l j))=c (fN n l i) (fN n l j))(hi:∀x,c x x=false):
 (fzo n l a).o=some (bI c (fN n l) l.length:Int):=by
 show(izc n l a).run NN=_;simp only[izc,qk,Izs,qL];have d:bI c (fN n l) 1=0:=by show(bif c (fN n l 0) (fN n l 0)then 0 else 0)=0;rw[hi];rfl
 refine(bzv (λj=>(((bI c (fN n l) (j+1):Nat):Int),((j+1:Nat):Int))) ((bI c (fN n l) l.length:Nat):Int) (l.length-1) (by rw[d];rfl) (show l.length-1<4294967296 from qa) (λj k=>?_) ?_).trans rfl
 ·have h:=az43 c (fN n l) (j+1);rw[az8 (by simp only;omega),aza (by simp only;omega),aza (by simp only;omega)];simp only[qG,wn (show j+1<4294967296 from qa)];have b:=g (j+1) (bI c (fN n l) (j+1)) qa qa;have f:qw (qu.wrap (a * rzh n (l.getD (j+1) qv))<qu.wrap (a * rzh n (l.getD (bI c (fN n l) (j+1)) qv)))=c (fN n l (j+1)) (fN n l (bI c (fN n l) (j+1))):=b;rw[f];have e:bI c (fN n l) (j+2)=bif c (fN n l (j+1)) (fN n l (bI c (fN n l) (j+1)))then j+1 else bI c (fN n l) (j+1):=rfl
  rw[e];cases c (fN n l (j+1)) (fN n l (bI c (fN n l) (j+1)))<;>rfl
 ·rw[show l.length-1+1=l.length from qa,az7 (by simp)]
end
theorem az8a {l:List V3}(h:fewV l=true){i:Nat}(hi:i<l.length):hzq (l.getD i qv) 268435456=true:=by
 simp only[fewV,qm]at h;have:=noneB_iff.1 h.2 i hi;simpa[farN]using this
theorem az4j {n:V3}(a:bzw n=true){l:List V3}(e:fewV l=true){i:Nat}(hi:i<l.length): -13194139533312<=fN n l i/\fN n l i<=13194139533312:=by
 obtain⟨⟨c,b,d⟩,-⟩:=Mzs a;have g:=nearV_iff.1 (az8a e hi);unfold fN rzh;generalize l.getD i qv=v at g⊢;have j:=Qzk c g.1;have f:=Qzk b g.2.1;have h:=Qzk d g.2.2;rw[w64 (x:=n.1 * v.1) qa qa,w64 (x:=n.2.1 * v.2.1) qa qa,w64 (x:=n.2.2 * v.2.2) qa qa,w64 (x:=n.1 * v.1+n.2.1 * v.2.1) qa qa,w64 qa qa];omega
theorem az89 {n:V3}(d:bzw n=true){l:List V3}(c:fewV l=true):(fzo n l 1).o=some (bI ltB (fN n l) l.length:Int):=by
 have:=Hz0 c;refine Szg qa qa (λi j hi e=>?_) (λx=>by simp[ltB]);have a:=az4j d c hi;have b:=az4j d c e;rw[w64 (x:=1 * fN n l i) qa qa,w64 (x:=1 * fN n l j) qa qa,wu,wu];rfl
theorem az88 {n:V3}(d:bzw n=true){l:List V3}(c:fewV l=true):(fzo n l (-1)).o=some (bI gtB (fN n l) l.length:Int):=by
 have:=Hz0 c;refine Szg qa qa (λi j hi e=>?_) (λx=>by simp[gtB]);have a:=az4j d c hi;have b:=az4j d c e;rw[w64 (x:= -1 * fN n l i) qa qa,w64 (x:= -1 * fN n l j) qa qa];unfold gtB;rw[decide_eq_decide];omega
theorem azbk (g:Nat->Bool):czg g 3=(!g 0&&(!g 1&& !g 2)):=by
 rw[qY,noneB_iff];simp only[qm,wc];exact⟨λh=>⟨h 0 qa,h 1 qa,h 2 qa⟩,λh i hi=>by
  match i,hi with
  |0,_=>exact h.1
  |1,_=>exact h.2.1
  |2,_=>exact h.2.2⟩
def bey3 (x:Int):Bool:=qw (x< -268435456)||qw (x>268435456)
theorem az0b (v:V3):(!bey3 v.1&&(!bey3 v.2.1&& !bey3 v.2.2))=hzq v 268435456:=by
 rw[qY];simp only[qm,wc,bey3,qp,qi,nearV_iff];omega
theorem Jzj (l:List V3):(jzt l).o=some (fewV l):=by
 show(hzb l).run NN=_;simp only[hzb,qk,bzd,az9,ezd];unfold fewV;by_cases h:1<=l.length/\l.length<=8
 ·rw[qh (p:=(l.length:Int)<1) qa,qh (p:=(l.length:Int)>8) qa,qg h,ezp (by rfl),qR];refine(fzu (λi=>sw (farN l i) false) l.length qa (λj a=>?_) ?_).trans ?_
  ·rw[az8 qa,aza qa,qG,wn qa];refine(fzu (λi=>sw (bey3 (([(l.getD j qv).1,(l.getD j qv).2.1,(l.getD j qv).2.2]:List Int).getD i 0)) (Step3.fin false)) 3 (by decide) (λk b=>?_) ?_).trans ?_
   ·rw[az8 qa,aza qa,wn qa,qG,<-ez3];rfl
   ·rw[az7 qa]
   ·rw[dzd,azbk];have e:(!(bey3 (([(l.getD j qv).1,(l.getD j qv).2.1,(l.getD j qv).2.2]:List Int).getD 0 0))&&(!(bey3 (([(l.getD j qv).1,(l.getD j qv).2.1,(l.getD j qv).2.2]:List Int).getD 1 0))&& !(bey3 (([(l.getD j qv).1,(l.getD j qv).2.1,(l.getD j qv).2.2]:List Int).getD 2 0))))=hzq (l.getD j qv) 268435456:=az0b _;rw[e];unfold farN;cases hzq (l.getD j qv) 268435456<;>rfl
  ·rw[az7 qa]
  ·rw[dzd];cases czg (farN l) l.length<;>rfl
 ·rw[ezf (by simp only[qZ,qf];omega),qh h];rfl
theorem az02 {σ c τ e R j:Type}{f:σ->Option (Step3 σ τ R)}{g:c->Option (Step3 c e j)}{s:τ->Option R}{l:e->Option j}{F:R->Option j}{x:σ}{y:c}{z:j}(S:σ->c->Prop)
 (h:∀x y,S x y->(∃n m,f x=some (.next n)/\g y=some (.next m)/\S n m)\/(∃a b,f x=some (.fin a)/\g y=some (.fin b)/\F a=some b))
 (k:S x y) (r:∀b,l b=none) (d:andK (iter g NN y) l=some z):(andK (iter f NN x) s).bind F=some z:=by
 have i:=Xzt (f:=f) (g:=g) S (λ_ _=>False) (λa b=>F a=some b) (λx y k=>(h x y k).elim .inl λh=>.inr (.inr h)) NN x y k;generalize iter g NN y=o at d i;cases o with
 |none=>cases d
 |some u=>cases u with
  |inl b=>have d:l b=some z:=d;rw[r]at d;cases d
  |inr b=>
   have d:some b=some z:=d;cases d;obtain⟨a,q,p⟩:=i.2 _ rfl;rw[q];exact p
theorem Tzk (l:List V3)(a:1<=l.length)(b:l.length<4294967296):(izp l).o=some (l,(qt l.length (0:Int)).set 0 65536):=by
 show(gzr l).run NN=_;simp only[gzr,qk];rw[aza qa,aza (by simp;omega),aza (by simp;omega)];simp
theorem az08 (a b:List V3)(m:Int):(fz0 a b m 64).o=(fzf a b m 64).o:=by
 obtain⟨z,e,-⟩:=Nzl a b m 64;rw[e];have R:(fzf a b m 64).o=(jzl a b m 64).run NN:=rfl;rw[R]at e;show(hza a b m 64).run NN=_;simp only[hza,jzl,qk,T.ix,Mz0,Jzj,qL,bzd,az9]at e⊢;cases h:fewV a with
 |false=>rw[h]at e;exact e
 |true=>
  cases s:fewV b with
  |false=>rw[h,s]at e;exact e
  |true=>
   rw[h,s]at e;have D:=Hz0 h;have F:=Hz0 s;simp only[qO,qd,ezd]at e⊢;cases v:qw (m<0)||(qw (m>2097152)||(qw ((64:Int)<0)||qw ((64:Int)>64)))with
   |true=>rw[v]at e;exact e
   |false=>
    rw[v]at e;simp only[qp,qi]at v;simp only[qd,qG,wA,Tzk a D.1 qa,Tzk b F.1 qa,qL]at e⊢;rw[aza ⟨qa,qa,qa,qa⟩,aza ⟨qa,qa,qa,qa⟩,aza ⟨qa,qa⟩,aza ⟨by simp;omega,qa⟩,aza ⟨qa,qa⟩,aza ⟨by simp;omega,qa⟩]at e;show((rzb a ((qt a.length (0:Int)).set 0 65536) b ((qt b.length (0:Int)).set 0 65536) 0 0 0 0 m 64).run NN).bind _=_;simp only[rzb,qk,T.ix];refine az02 (λx y=>y=(x.2.2.1,x.2.2.2.1,x.2.2.2.2.1,x.1,x.2.1,x.2.2.2.2.2)/\x.1.length=a.length/\x.2.1.length=b.length/\0<=x.2.2.2.2.2/\x.2.2.2.2.2<=64) ?_ ⟨rfl,by simp,by simp,by simp,by simp⟩ (λ_=>rfl) e;rintro⟨r,l,Z,c2,Y,t⟩ _ ⟨rfl,u,A,O,V⟩;simp only at u A O V⊢;obtain⟨d,M,-⟩:=wzn a r u qa;obtain⟨c,K,-⟩:=wzn b l A qa;have hi:inV (cz5 d c):=⟨InR.wr _,InR.wr _,InR.wr _⟩;simp only[az7g a r u qa,az7g b l A qa,M,K,kzu,Nzm,qL,az1c hi,Uz0 hi];cases az90 (cz5 d c) m with
    |true=>exact .inr ⟨_,_,rfl,rfl,rfl⟩
    |false=>
     have q:inV (qu.wrap ((cz5 d c).1.tdiv 65536),qu.wrap ((cz5 d c).2.1.tdiv 65536),qu.wrap ((cz5 d c).2.2.tdiv 65536)):=⟨InR.wr _,InR.wr _,InR.wr _⟩;obtain⟨f,C,N⟩:=pz0 q.1 q.2.1 q.2.2;have E:=Rzp q;rw[C]at E;simp only[C,<-E,qL,qd];cases w:f.2 with
     |false=>exact .inr ⟨_,_,rfl,rfl,rfl⟩
     |true=>
      have B:=N w;simp only[qO,qd,az8t (n:=f.1) D.1 (show a.length<4294967296 from qa),Zzb (n:=f.1) F.1 (show b.length<4294967296 from qa),az89 B h,az88 B s,Izs,uzl,zzx,qL,qG];have G:=az43 ltB (fN f.1 a) a.length;have P:=az43 gtB (fN f.1 b) b.length;generalize hI:bI ltB (fN f.1 a) a.length=I at G⊢;generalize hJ:bI gtB (fN f.1 b) b.length=J at P⊢;have U:0<=(I:Int)/\(I:Int)<(a.length:Int):=qa
      have L:0<=(J:Int)/\(J:Int)<(b.length:Int):=qa
      have H:rzh f.1 (a.getD I qv)=fN f.1 a I:=rfl;have Q:rzh f.1 (b.getD J qv)=fN f.1 b J:=rfl;simp only[aza U,aza L,H,Q,Nzc,qL];cases qw (qu.wrap (fN f.1 a I-fN f.1 b J)>qu.wrap (Wz1 f.1 * m))with
      |true=>exact .inr ⟨_,_,rfl,rfl,rfl⟩
      |false=>
       simp only[qd];by_cases i:t=64
       ·rw[dzj i,qg (p:=t>=64) qa];exact .inr ⟨_,_,rfl,rfl,rfl⟩
       ·rw[dze i,qh (p:=t>=64) qa];simp only[Bool.false_or];by_cases j:rzh ((qu.wrap ((cz5 d c).1.tdiv 65536),qu.wrap ((cz5 d c).2.1.tdiv 65536),qu.wrap ((cz5 d c).2.2.tdiv 65536)):V3) (cz5 ((qu.wrap ((cz5 d c).1.tdiv 65536),qu.wrap ((cz5 d c).2.1.tdiv 65536),qu.wrap ((cz5 d c).2.2.tdiv 65536)):V3) (cz5 (a.getD I qv) (b.getD J qv)))<=0
        ·have g:Wz6 ((qu.wrap ((cz5 d c).1.tdiv 65536),qu.wrap ((cz5 d c).2.1.tdiv 65536),qu.wrap ((cz5 d c).2.2.tdiv 65536)):V3) (cz5 (a.getD I qv) (b.getD J qv))=0:=by unfold Wz6;rw[qc j]
         rw[az8 j,g,dzj rfl];exact .inr ⟨_,_,rfl,rfl,rfl⟩
        ·have g:min 256 (qu.wrap ((rzh ((qu.wrap ((cz5 d c).1.tdiv 65536),qu.wrap ((cz5 d c).2.1.tdiv 65536),qu.wrap ((cz5 d c).2.2.tdiv 65536)):V3) (cz5 ((qu.wrap ((cz5 d c).1.tdiv 65536),qu.wrap ((cz5 d c).2.1.tdiv 65536),qu.wrap ((cz5 d c).2.2.tdiv 65536)):V3) (cz5 (a.getD I qv) (b.getD J qv)))).tdiv (max 1 (qu.wrap ((rzh (cz5 ((qu.wrap ((cz5 d c).1.tdiv 65536),qu.wrap ((cz5 d c).2.1.tdiv 65536),qu.wrap ((cz5 d c).2.2.tdiv 65536)):V3) (cz5 (a.getD I qv) (b.getD J qv))) (cz5 ((qu.wrap ((cz5 d c).1.tdiv 65536),qu.wrap ((cz5 d c).2.1.tdiv 65536),qu.wrap ((cz5 d c).2.2.tdiv 65536)):V3) (cz5 (a.getD I qv) (b.getD J qv)))).tdiv 256)))))=Wz6 ((qu.wrap ((cz5 d c).1.tdiv 65536),qu.wrap ((cz5 d c).2.1.tdiv 65536),qu.wrap ((cz5 d c).2.2.tdiv 65536)):V3) (cz5 (a.getD I qv) (b.getD J qv)):=by unfold Wz6;rw[qb j]
         rw[az7 j,aza qa,g];generalize Wz6 ((qu.wrap ((cz5 d c).1.tdiv 65536),qu.wrap ((cz5 d c).2.1.tdiv 65536),qu.wrap ((cz5 d c).2.2.tdiv 65536)):V3) (cz5 (a.getD I qv) (b.getD J qv))=T;by_cases k:T=0
         ·rw[dzj k,dzj k];exact .inr ⟨_,_,rfl,rfl,rfl⟩
         ·rw[dze k,dze k,Szn a r _ T qa,Szn b l _ T qa];obtain⟨X,S,l1⟩:=pzm r T I qa qa qa;obtain⟨u2,W,l2⟩:=pzm l T J qa qa qa;simp only[S,W,qL];exact .inl ⟨_,_,rfl,rfl,rfl,by simp only;omega,by simp only;omega,by simp only;rw[w64 qa qa];omega,by simp only;rw[w64 qa qa];omega⟩
open Go.Proofs
def tot (g:Nat->Int):Nat->Int
 |0=>0
 |j+1=>tot g j+g j
theorem aza4 (a b:Int):qu.wrap (qu.wrap a * b)=qu.wrap (a * b):=by
 have h:∃t:Int,qu.wrap a=a-18446744073709551616 * t:=⟨(a+9223372036854775808) / 18446744073709551616,by rw[wr];omega⟩;obtain⟨t,c⟩:=h;rw[c,Int.sub_mul,Int.mul_assoc];generalize a * b=m;generalize t * b=u;simp only[wr];omega
theorem Fz0 (l:List V3)(b:l.length<4294967296):(pzh l).o=some (qu.wrap (tot (λi=>(l.getD i qv).1) l.length),qu.wrap (tot (λi=>(l.getD i qv).2.1) l.length),qu.wrap (tot (λi=>(l.getD i qv).2.2) l.length)):=by
 show(kzx l).run NN=_;simp only[kzx,qk,T.ix]
 refine(bzv (λj=>(qu.wrap (tot (λi=>(l.getD i qv).1) j),qu.wrap (tot (λi=>(l.getD i qv).2.1) j),qu.wrap (tot (λi=>(l.getD i qv).2.2) j),(j:Int)))
  (qu.wrap (tot (λi=>(l.getD i qv).1) l.length),qu.wrap (tot (λi=>(l.getD i qv).2.1) l.length),qu.wrap (tot (λi=>(l.getD i qv).2.2) l.length)) l.length rfl b (λj a=>?_) ?_).trans rfl
 ·rw[az8 (by simpa using a),aza ⟨by simp,by simpa using a⟩];simp only[qG,wn (show j<4294967296 from qa),Rzl,tot]
 ·rw[az7 (by simp)]
theorem Qzh {R:Type}{k:Int->Option R}(l:List V3)(a:V3->Int)(m c:Int)(d:qu.wrap c=c)(e:l.length<4294967296):
 andK (iter (λx:Int×Int=>(bif qw (x.2<((l.length:Nat):Int))then grd (0<=x.2/\x.2<((l.length:Nat):Int)) (some (Step3.next (qu.wrap (x.1+qu.wrap (a (l.getD x.2.toNat qv) * m)),qu.wrap (x.2+1))))else some (.out x.1):Option (Step3 (Int×Int) Int R))) NN (c,0)) k
  =k (qu.wrap (c+tot (λi=>a (l.getD i qv)) l.length * m)):=by
 refine bzv (λj=>(qu.wrap (c+tot (λi=>a (l.getD i qv)) j * m),(j:Int))) _ l.length ?_ e (λj b=>?_) ?_
 ·simp only[tot,xE,Int.add_zero,d];rfl
 ·rw[az8 (by simpa using b),aza ⟨by simp,by simpa using b⟩];simp only[qG,wn (show j<4294967296 from qa),Rzl,aza3,tot,Int.add_mul,Int.add_assoc]
 ·rw[az7 (by simp)]
theorem Qzi {R:Type}{k:Int->Option R}(l:List V3)(a:V3->Int)(m c:Int)(d:qu.wrap c=c)(e:l.length<4294967296):
 andK (iter (λx:Int×Int=>(bif qw (x.2<((l.length:Nat):Int))then grd (0<=x.2/\x.2<((l.length:Nat):Int)) (some (Step3.next (qu.wrap (x.1-qu.wrap (a (l.getD x.2.toNat qv) * m)),qu.wrap (x.2+1))))else some (.out x.1):Option (Step3 (Int×Int) Int R))) NN (c,0)) k
  =k (qu.wrap (c-tot (λi=>a (l.getD i qv)) l.length * m)):=by
 refine bzv (λj=>(qu.wrap (c-tot (λi=>a (l.getD i qv)) j * m),(j:Int))) _ l.length ?_ e (λj b=>?_) ?_
 ·simp only[tot,xE,Int.sub_zero,d];rfl
 ·rw[az8 (by simpa using b),aza ⟨by simp,by simpa using b⟩];simp only[qG,wn (show j<4294967296 from qa),Rzm,az3w,tot,Int.add_mul];congr 3;rw[show ∀x y z:Int,x- (y+z)=x-y-z from λx y z=>qa]
 ·rw[az7 (by simp)]
theorem az7k (a b:List IV3):(Izr a b).o=some (Lzf a b):=by
 rw[<-Czf];show(Az0 a b).run NN=(jze a b).run NN;simp only[Az0,jze,qk,T.ix,ezo,hzo,qL,bzd,az9,rz7,lz6];cases e:cz1 a with
 |false=>rfl
 |true=>
  cases f:cz1 b with
  |false=>rfl
  |true=>
   have r:=ezy e;have q:=ezy f;have p:=Xzb e;have i:=Xzb f;simp only[qO,qd,Fz0 (cenV a) qa,Fz0 (cenV b) qa,qL];have m:=λ{R:Type} (k:Int->Option R) (c:Int) (d:qu.wrap c=c)=>Qzh (k:=k) (cenV a) (λv=>v.1) ((cenV b).length:Int) c d qa
   have g:=λ{R:Type} (k:Int->Option R) (c:Int) (d:qu.wrap c=c)=>Qzi (k:=k) (cenV b) (λv=>v.1) ((cenV a).length:Int) c d qa
   have l:=λ{R:Type} (k:Int->Option R) (c:Int) (d:qu.wrap c=c)=>Qzh (k:=k) (cenV a) (λv=>v.2.1) ((cenV b).length:Int) c d qa
   have j:=λ{R:Type} (k:Int->Option R) (c:Int) (d:qu.wrap c=c)=>Qzi (k:=k) (cenV b) (λv=>v.2.1) ((cenV a).length:Int) c d qa
   have n:=λ{R:Type} (k:Int->Option R) (c:Int) (d:qu.wrap c=c)=>Qzh (k:=k) (cenV a) (λv=>v.2.2) ((cenV b).length:Int) c d qa
   have h:=λ{R:Type} (k:Int->Option R) (c:Int) (d:qu.wrap c=c)=>Qzi (k:=k) (cenV b) (λv=>v.2.2) ((cenV a).length:Int) c d qa
   rw[m _ 0 rfl,g _ _ (aza5 _),l _ 0 rfl,j _ _ (aza5 _),n _ 0 rfl,h _ _ (aza5 _)];simp only[Int.zero_add,Rzm,az3w,aza4,p,i];rw[Rzp ⟨InR.wr _,InR.wr _,InR.wr _⟩]
theorem Jz1 (a b:List V3)(m:Int):(fzf a b m 64).o=some (Gz8 a b m):=by rw[<-az08,ozm]
theorem Vzs {l:List V3}{j:Nat}(h:j<l.length):(l.take (j+1)).filter bzw=(l.take j).filter bzw++(bif bzw (l.getD j qv)then [l.getD j qv]else []):=by
 have e:l.take (j+1)=l.take j++[l.getD j qv]:=by
  rw[xF,wm];rw[wE h];rfl
 rw[e,xG];cases a:bzw (l.getD j qv)with
 |true=>rw[xH,a];rfl
 |false=>rw[xH,a];rfl
theorem aza6 (a:List IV3)(f:Int)(b:List IV3)(e:Int)(c:List V3)(v:c.length<4294967280):(sz3 a f b e c).o=some (bif okF a f b e then Pza a f b e c else nl):=by
 show(lz9 a f b e c).run NN=_;simp only[lz9,qk,hzo,jzn,qL,bzd,az9,ezd];have r:(!cz1 a||(!cz1 b||(!radV f|| !radV e)))= !okF a f b e:=by
  unfold okF;cases cz1 a<;>cases cz1 b<;>cases radV f<;>cases radV e<;>rfl
 rw[r];cases okF a f b e with
 |false=>rfl
 |true=>
  simp only[qO,qd,qe];have q:((c.take c.length).filter bzw).length<=c.length:=by
   have:=xI bzw (c.take c.length);simp at this⊢;omega
  refine(bzv (λj=>((c.take j).filter bzw,(j:Int))) ((c.take c.length).filter bzw) c.length rfl (show c.length<4294967296 from qa) (λj p=>?_) ?_).trans ?_
  ·have t:((c.take j).filter bzw).length<=j:=by
    have:=xI bzw (c.take j);simp at this⊢;omega
   rw[az8 (by simpa using p),aza ⟨by simp,by simpa using p⟩];simp only[qG,hzp,qL,wn (show j<4294967296 from qa),Vzs p];cases bzw (c.getD j qv)with
   |true=>
    simp only[qe];rw[aza ⟨qa,qa⟩,aza ⟨by simp only[wB,w8];omega,by simp only[wB,w8,azc];omega⟩];rfl
   |false=>simp only[qd,xz,az9]
  ·rw[az7 (by simp)]
  ·simp only[az7k,qL];rw[List.take_length]at q⊢;have m:ref14_Axes_C.o=some axesL:=rfl;have i:∀w:List V3,w.length<=c.length+1->(ref14_Axes_C.o.bind λd=>grd ((w.length+d.length) * 24<=140737488355328/\w.length+d.length<=maxLen) ((eza a).o.bind λl=>(eza b).o.bind λk=>(fzf l k (qu.wrap (f+e)) 64).o.bind λg=>
    andC ((fze g.Xz).o.bind λn=>bif n then grd (((w++d).length+[g.Xz].length) * 24<=140737488355328/\(w++d).length+[g.Xz].length<=maxLen) (some (.out (w++d++[g.Xz])))else some (.out (w++d)):Option (Step3 Unit (List V3) (List V3))) λy=>some y))=some (w++(axesL++Tz2 a f b e)):=by
    intro w u;have s:axesL.length=6:=rfl;rw[m,qL,aza ⟨qa,by rw[azc];omega⟩,lz6,qL,lz6,qL,Jz1,qL,hzp,qL];unfold Tz2 Ozk;cases bzw (Gz8 (cenV a) (cenV b) (qu.wrap (f+e))).Xz
    ·simp only[qd,az9,xz]
    ·simp only[qe];rw[aza ⟨by simp only[xc,wB,w8];omega,by simp only[xc,wB,w8,azc];omega⟩,az9,xo]
   unfold Pza Zzt;cases (Lzf a b).2 with
   |false=>
    simp only[qd,az9,wW];exact i _ qa
   |true=>
    simp only[qe];rw[aza ⟨by simp only[wB,w8];omega,by simp only[wB,w8,azc];omega⟩,az9];refine(i (c.filter bzw++[(Lzf a b).1]) (by simp only[xc,wB,w8];omega)).trans ?_;rw[xo]
theorem az0e (a:List IV3)(d:Int)(b:List IV3)(e:Int)(c:List V3):(Pza a d b e c).length<=c.length+8:=by
 have:=xI bzw c;unfold Pza Zzt Tz2 axesL;cases (Lzf a b).2<;>cases bzw (Ozk a d b e).Xz<;>simp<;>omega
theorem Uzl {l:List V3}{p:V3->Bool}:∀ (m j:Nat),j+m=l.length->(match scan (λi=>sw (p (l.getD i qv)) ((i:Int),true)) m j with|some r=>some (l.getD r.1.toNat qv)|none=>none)=(l.drop j).find? p
 |0,j,h=>by rw[xm qa];rfl
 |m+1,j,h=>by
  rw[Pzi qa,zz1];simp only[scan];cases a:p (l.getD j qv)with
  |true=>simp[sw]
  |false=>simp only[sw,qd];exact Uzl m (j+1) qa
theorem aza7 (a:List IV3)(d:Int)(b:List IV3)(c:Int)(e:List V3)(q:e.length<4294967280):(sz4 a d b c e).o=some (Hz2 a d b c e):=by
 show(lza a d b c e).run NN=_;simp only[lza,qk,aza6 a d b c e q,qL];unfold Hz2;cases v:okF a d b c with
 |false=>rfl
 |true=>
  have m:=az0e a d b c e;simp only[qe];generalize Pza a d b c e=l at m⊢;rw[Qzz l a d b c qa,qL];have k:=Uzl (l:=l) (p:=λn=>sepV n a d b c) l.length 0 qa;rw[List.drop_zero]at k;rw[<-k];have s:(λi=>sw (firB l a d b c i) ((i:Int),true))=(λi=>sw (sepV (l.getD i qv) a d b c) ((i:Int),true)):=rfl;rw[s];cases h:scan (λi=>sw (sepV (l.getD i qv) a d b c) ((i:Int),true)) l.length 0 with
  |none=>rfl
  |some r=>
   obtain⟨j,t,u,f,-⟩:=fzp _ _ h;cases g:sepV (l.getD j qv) a d b c with
   |false=>rw[g]at f;cases f
   |true=>
    rw[g]at f;simp only[sw,qe,Option.some.injEq]at f;subst f;simp only[wF,qO,qd];rw[aza ⟨qa,qa⟩];rfl
open Go.Proofs
theorem az6k {a:Type}[Inhabited a]{f:Nat->a}{n i:Nat}(h:i<n):(tab f n).getD i qv=f i:=hzx h
theorem az54 (a:List V3){j:Nat}(c:j<4294967295){R:Type}{k:List V3->Option R}:(andC (bif qw ((j:Int)<(a.length:Int))then grd (0<=(j:Int)/\(j:Int)<=((j+1:Nat):Int)/\((j+1:Nat):Int)<=(a.length:Int)) (some (.out ((a.drop j).take ((((j+1:Nat):Int)).toNat-j))))else some (.out nl):Option (Step3 Unit (List V3) R)) k)=k ((a.drop j).take 1):=by
 by_cases b:(j:Int)<(a.length:Int)
 ·rw[az8 b,aza ⟨qa,qa,qa⟩,az9,show(((j+1:Nat):Int)).toNat-j=1 from qa]
 ·rw[az7 b,az9,xm qa];rfl
theorem Yzs (s:azd)(b:List az0)(a:List V3)(d:b.length<4294967296)(t:a.length<4294967280):(yz4 s b a).o=some (clsV s b a):=by
 have q:=qzj s;show(ozs s b a).run NN=_;simp only[ozs,qk];rw[Fzh s b d,qL];unfold clsV;by_cases h:czd s=0/\boxV s.Xe b=true
 ·rw[qc h,qc h];simp only[qO,qd,cz8];refine(jzc (λj=>((bif czg (misK s b a) j then(1:Int)else 0),tab (λk=>(fndK s b a k).1) j,(j:Int))) (colK s b a) ((bif czg (misK s b a) (bzy s).length then(1:Int)else 0),tab (λk=>(fndK s b a k).1) (bzy s).length) (bzy s).length ?_ (show(bzy s).length<4294967296 from qa) (λj m=>?_) ?_).trans ?_
  ·have:czg (misK s b a) 0=true:=noneB_iff.2 λi hi=>qa
   rw[this];rfl
  ·dsimp only;have c:0<=(j:Int)/\(j:Int)<((bzy s).length:Int):=qa
   rw[az8 qa,qG,wn qa,az54 a qa];simp only[az6k m,aza c];have g:(az3e s b j).points=bzo s b (pA s j)/\(az3e s b j).radius=hzc s (pA s j):=⟨rfl,rfl⟩;have f:(az3f s b j).points=bzo s b (pB s j)/\(az3f s b j).radius=hzc s (pB s j):=⟨rfl,rfl⟩;have n:Hz2 (bzo s b (pA s j)) (hzc s (pA s j)) (bzo s b (pB s j)) (hzc s (pB s j)) ((a.drop j).take 1)=fndK s b a j:=rfl;have p:ovV (Gz8 (cenV (bzo s b (pA s j))) (cenV (bzo s b (pB s j))) (qu.wrap (hzc s (pA s j)+hzc s (pB s j)))).Left (Gz8 (cenV (bzo s b (pA s j))) (cenV (bzo s b (pB s j))) (qu.wrap (hzc s (pA s j)+hzc s (pB s j)))).Xx (bzo s b (pA s j)) (hzc s (pA s j)) (bzo s b (pB s j)) (hzc s (pB s j))=ovK s b j:=rfl;rw[g.1,g.2,f.1,f.2];simp only[aza7 _ _ _ _ ((a.drop j).take 1) (by simp;omega),qL,n,lz6,Jz1,yz5,p];rw[aza ⟨by simp only[cz8,wB,w8];omega,by simp only[cz8,wB,w8,azc];omega⟩,Ozm,izx];unfold colK;have l:misK s b a j= !(fndK s b a j).2:=rfl;rw[l];cases r:(fndK s b a j).2 with
   |true=>
    simp only[qe,qO,xp,Bool.and_true,wK,sw,qd,az9]
   |false=>
    simp only[qd,qO,xp,wP,qR];cases ovK s b j with
    |true=>rfl
    |false=>rfl
  ·dsimp only;rw[az7 qa]
  ·cases scan (colK s b a) (bzy s).length 0 with
   |some v=>rfl
   |none=>rfl
 ·rw[qb h,qb h];rfl
open Go.Proofs
abbrev PlS:=List az6×List azz
def az3j (s:azd)(p q:List Int)(d:Int)(ps:List az6)(a:List azz)(k i:Int)(h:List V3):Option (Step3 PlS (List az6) azo):=
 if 4096<=ps.length then some (.fin ⟨0,nl,⟨k,i,nl⟩,⟨0,nl,nl⟩⟩)else
 if(clsV s (czw p q k i).1 h).Xl=1 then some (.next (ps++[⟨k,i,(clsV s (czw p q k i).1 h).Xf⟩],a))else
 if(clsV s (czw p q k i).1 h).Xl=2 then some (.fin ⟨2,nl,⟨k,i,nl⟩,(clsV s (czw p q k i).1 h).Xk⟩)else
 if k=d then some (.fin ⟨0,nl,⟨k,i,nl⟩,⟨0,nl,nl⟩⟩)else
 some (.next (ps,a++[⟨qu.wrap (k+1),qu.wrap (qu.wrap (2 * i)+1),(clsV s (czw p q k i).1 h).Xf⟩,⟨qu.wrap (k+1),qu.wrap (2 * i),(clsV s (czw p q k i).1 h).Xf⟩]))
theorem Lz3 {σ τ R:Type}{f:σ->Option (Step3 σ τ R)}{x y:σ}{N:Nat}(h:f x=some (.next y)):iter f (N+1) x=iter f N y:=by simp only[iter,h]
theorem Szx {σ τ R:Type}{f:σ->Option (Step3 σ τ R)}{x:σ}{r:R}{N:Nat}(h:f x=some (.fin r)):iter f (N+1) x=some (.inr r):=by simp only[iter,h]
theorem azb2 {σ τ R:Type}{f:σ->Option (Step3 σ τ R)}{x:σ}{y:τ}{N:Nat}(h:f x=some (.out y)):iter f (N+1) x=some (.inl y):=by simp only[iter,h]
theorem az4i (s:azd)(p q:List Int)(L:p.length<4294967296)(S:q.length<4294967296){d:Int}(h20:d<=20){f:PlS->Option (Step3 PlS (List az6) azo)}
 (Q:∀ps b k i h,ps.length<=4096->b.length<=1000000->0<=k->k<=d->h.length<=576->f (ps,b++[⟨k,i,h⟩])=az3j s p q d ps b k i h):
 ∀ (m:Nat) (k i:Int) (h:List V3) (ps:List az6) (W:XW) (n:Nat) (b:List azz),k+m=d->0<=k->m+1<=n->h.length<=576->PsB ps->b.length+m<=1000000->
   ∃E j M,exO n s p q d k i h ps W=some (exR E j M s p q d)/\PsB j/\
    (E=true->∃c,c+1<=2 ^ (m+1)/\∀N,iter f (N+c) (ps,b++[⟨k,i,h⟩])=iter f N (j,b))/\
    (E=false->∃c,c+1<=2 ^ (m+1)/\∀N,iter f (N+c) (ps,b++[⟨k,i,h⟩])=some (.inr (Kzq false j M))):=by
 intro m;induction m with
 |zero=>
  intro k i h ps W n b hk J hn H a F;obtain⟨n,rfl⟩:∃m,n=m+1:=⟨n-1,qa⟩;have z:=szp s (czw p q k i).1 h (by have:=Bzb p q k i;omega) qa;have o:=Vzf s (czw p q k i).1 h;have e:=Q ps b k i h a.1 qa J qa H;rw[Vzq n s p q d k i h ps W L S z a];unfold az3j at e;generalize clsV s (czw p q k i).1 h=v at z o e⊢;by_cases y:4096<=ps.length
  ·rw[qc y]at e⊢;exact⟨false,ps,_,rfl,a,(λh=>by cases h),λ_=>⟨1,by decide,λN=>Szx e⟩⟩
  ·rw[qb y]at e⊢;by_cases u:v.Xl=1
   ·rw[qc u]at e⊢;refine⟨true,_,W,rfl,⟨by simp;omega,λx g=>?_⟩,λ_=>⟨1,by decide,λN=>Lz3 e⟩,(λh=>by cases h)⟩;rcases xh.1 g with g|g
    ·exact a.2 x g
    ·simp at g;subst g;exact o
   ·rw[qb u]at e⊢;by_cases A:v.Xl=2
    ·rw[qc A]at e⊢;exact⟨false,ps,_,rfl,a,(λh=>by cases h),λ_=>⟨1,by decide,λN=>Szx e⟩⟩
    ·rw[qb A]at e⊢;rw[qc qa]at e;rw[qb qa];exact⟨false,ps,_,rfl,a,(λh=>by cases h),λ_=>⟨1,by decide,λN=>Szx e⟩⟩
 |succ m O=>
  intro k i h ps W n b hk J hn H a F;obtain⟨n,rfl⟩:∃m,n=m+1:=⟨n-1,qa⟩;have z:=szp s (czw p q k i).1 h (by have:=Bzb p q k i;omega) qa;have o:=Vzf s (czw p q k i).1 h;have e:=Q ps b k i h a.1 qa J qa H;rw[Vzq n s p q d k i h ps W L S z a];unfold az3j at e;generalize clsV s (czw p q k i).1 h=v at z o e⊢;have t:1+1<=2 ^ (m+1+1):=by have:=Nat.one_le_two_pow (n:=m+1);rw[xJ];omega
  by_cases y:4096<=ps.length
  ·rw[qc y]at e⊢;exact⟨false,ps,_,rfl,a,(λh=>by cases h),λ_=>⟨1,t,λN=>Szx e⟩⟩
  ·rw[qb y]at e⊢;by_cases u:v.Xl=1
   ·rw[qc u]at e⊢;refine⟨true,_,W,rfl,⟨by simp;omega,λx g=>?_⟩,λ_=>⟨1,t,λN=>Lz3 e⟩,(λh=>by cases h)⟩;rcases xh.1 g with g|g
    ·exact a.2 x g
    ·simp at g;subst g;exact o
   ·rw[qb u]at e⊢;by_cases A:v.Xl=2
    ·rw[qc A]at e⊢;exact⟨false,ps,_,rfl,a,(λh=>by cases h),λ_=>⟨1,t,λN=>Szx e⟩⟩
    ·rw[qb A]at e⊢;rw[qb qa]at e;rw[qc qa];have X:qu.wrap (k+1)=k+1:=w64 qa qa;rw[X]at e⊢;have G:f (ps,b++[⟨k,i,h⟩])=some (.next (ps,(b++[⟨k+1,qu.wrap (qu.wrap (2 * i)+1),v.Xf⟩])++[⟨k+1,qu.wrap (2 * i),v.Xf⟩])):=by rw[e,xo];rfl
     have pw:2 ^ (m+1+1)=2 ^ (m+1)+2 ^ (m+1):=by rw[xJ 2 (m+1)];omega
     obtain⟨I,w,R,V,P,b2,Y⟩:=O (k+1) (qu.wrap (2 * i)) v.Xf ps W n (b++[⟨k+1,qu.wrap (qu.wrap (2 * i)+1),v.Xf⟩]) qa qa qa o a (by simp;omega);rw[V];cases I with
     |false=>
      obtain⟨c,hc,B⟩:=Y rfl;exact⟨false,w,R,rfl,P,(λh=>by cases h),λ_=>⟨c+1,qa,λN=>(Lz3 G).trans (B N)⟩⟩
     |true=>
      obtain⟨c,hc,B⟩:=b2 rfl;obtain⟨D,C,U,T,Z,d2,d3⟩:=O (k+1) (qu.wrap (qu.wrap (2 * i)+1)) v.Xf w R n b qa qa qa o P qa;refine⟨D,C,U,T,Z,λh=>?_,λh=>?_⟩
      ·obtain⟨r,K,l⟩:=d2 h;refine⟨r+c+1,qa,λN=>?_⟩;rw[show N+(r+c+1)=(N+r)+c+1 from qa,Lz3 G,B,l]
      ·obtain⟨r,K,l⟩:=d3 h;refine⟨r+c+1,qa,λN=>?_⟩;rw[show N+(r+c+1)=(N+r)+c+1 from qa,Lz3 G,B,l]
theorem az9a (s:azd)(p q:List Int):(pzn s p q).o=some (!Kze s p q):=by
 show(lzf s p q).run NN=_;simp only[lzf,qk,ezj,nze,qL];unfold Kze;by_cases h:czd s=0
 ·rw[dzj h,show(czd s !=0)=false by simp[h]];cases azx s.Xe p<;>cases azx s.Xe q<;>rfl
 ·rw[dze h,show(czd s !=0)=true by simp[h]];rfl
theorem Yzt (s:azd)(p q:List Int)(d:Int)(C:p.length<4294967296)(y:q.length<4294967296):
 ∃r,(iz6 s p q d).o=some r/\(Fzj s p q d).o=some r/\ResB r/\(¬ (0<=d/\d<=20)->r=zzj):=by
 have nb:PsB nl:=⟨by simp[nl],by simp[nl]⟩;have rn:ResB zzj:=⟨by simp[zzj,nl],by simp[zzj,nl],by simp[zzj,nl],by simp[zzj,nl],by simp[zzj,nl]⟩;have er:=az9a s p q;by_cases g:0<=d/\d<=20
 ·obtain⟨ra,D,b⟩:=Lzx s p q C y g.1 g.2;have m:ResB ra:=⟨b.bd.1,b.bd.2,by rw[b.norm];simp,b.lens.1,b.lens.2⟩;refine⟨ra,D,?_,m,λh=>absurd g h⟩;show(lze s p q d).run NN=_;simp only[lze,qk];rw[show(⟨s.Xe,s.Xc,s.Xj⟩:azd)=s from rfl,er,qL,qh (p:=d<0) qa,qh (p:=d>20) qa];cases hb:Kze s p q with
  |true=>
   obtain⟨B,ps,W,e1,-⟩:=az6y s p q C y g.2 d.toNat 0 0 nl nl W0 NN qa qa qa (by decide) (by show _<=4294967296;omega) (by simp[nl]) nb;have j:=Hzj s p q d B ps W g.1 g.2 e1;rw[hb,D]at j;simp only[qe,Option.some.injEq]at j;rw[j];rfl
  |false=>
   simp only[xp,qO,qd,az9];generalize hf:(λt:List az6×List azz=>(bif qw (((t.2.length:Nat):Int)>0)then _ else _:Option (Step3 PlS (List az6) azo)))=f;have l:∀ps a k i h,ps.length<=4096->a.length<=1000000->0<=k->k<=d->h.length<=576->f (ps,a++[⟨k,i,h⟩])=az3j s p q d ps a k i h:=by
    intro ps a k i h h1 h2 h3 h4 h5;subst hf;have w:(a++[(⟨k,i,h⟩:azz)]).length=a.length+1:=by simp
    have hw:qu.wrap ((((a++[(⟨k,i,h⟩:azz)]).length:Nat):Int)-1)=(a.length:Int):=by rw[w,w64 qa qa];omega
    have hg:(a++[(⟨k,i,h⟩:azz)]).getD a.length qv=⟨k,i,h⟩:=by simp[wm]
    have ht:(a++[(⟨k,i,h⟩:azz)]).take a.length=a:=by simp
    have g1:0<=(a.length:Int)/\(a.length:Int)<(((a++[(⟨k,i,h⟩:azz)]).length:Nat):Int):=by rw[w];omega
    have g2:a.length<(a++[(⟨k,i,h⟩:azz)]).length:=by rw[w];omega
    have g3:0<=(a.length:Int)/\(a.length:Int)<=(((a++[(⟨k,i,h⟩:azz)]).length:Nat):Int)/\0<=a.length:=by rw[w];omega
    have pl:=Bzb p q k i;simp only[hw,qG,hg,ht,aza g1,aza g2,aza g3];rw[az8 (by rw[w];omega)];unfold az3j;by_cases c0:4096<=ps.length
    ·rw[qc c0,az8 qa]
    ·rw[qb c0,az7 qa,wzj p q k i C y];simp only[qL];rw[Yzs s (czw p q k i).1 h qa qa];simp only[qL];generalize clsV s (czw p q k i).1 h=v;by_cases A:v.Xl=1
     ·rw[qc A,dzj A,aza ⟨by simp only[wB,w8];omega,by simp only[wB,w8,azc];omega⟩]
     ·rw[qb A,dze A];by_cases z:v.Xl=2
      ·rw[qc z,dzj z]
      ·rw[qb z,dze z];by_cases x:k=d
       ·rw[qc x,dzj x]
       ·rw[qb x,dze x,aza ⟨by simp only[wB,w8];omega,by simp only[wB,w8,azc];omega⟩]
   obtain⟨B,ps,W,e1,b1,b2,b3⟩:=az4i s p q C y g.2 l d.toNat 0 0 nl nl W0 NN [] qa qa (by show _<=4294967296;omega) (by simp[nl]) nb (by simp;omega);have j:=Hzj s p q d B ps W g.1 g.2 e1;rw[hb,D]at j;simp only[qd,Option.some.injEq]at j;have p21:2 ^ (d.toNat+1)<=2097152:=by
    have:2 ^ (d.toNat+1)<=2 ^ 21:=wt (by decide) qa;have e:2 ^ 21=2097152:=by decide
    omega
   cases B with
   |true=>
    obtain⟨c,hc,hN⟩:=b2 rfl;have n:=hN (4294967295-c+1);rw[show 4294967295-c+1+c=NN by show _=4294967296;omega,wW]at n;rw[n];have out:f (ps,[])=some (.out ps):=by subst hf;rfl
    rw[azb2 out,j];rfl
   |false=>
    obtain⟨c,hc,hN⟩:=b3 rfl;have n:=hN (4294967296-c);rw[show 4294967296-c+c=NN by show _=4294967296;omega,wW]at n;rw[n,j];rfl
 ·refine⟨zzj,?_,?_,rn,λ_=>rfl⟩
  ·show(nzn s p q d).run NN=_;have e0:(ezb ⟨s.Xe,s.Xc,s.Xj⟩).o=some (czd s):=gz1 s;simp only[nzn,qk,e0,kze,qL,bzd,ezd,az9];have:(qw (d<0)||qw (d>20))=true:=by simp only[qZ,qf];omega
   rw[this];cases ((czd s !=0)||(!azx s.Xe p|| !azx s.Xe q))<;>rfl
  ·show(lze s p q d).run NN=_;simp only[lze,qk];rw[show(⟨s.Xe,s.Xc,s.Xj⟩:azd)=s from rfl,er,qL];simp only[bzd,az9,ezd];have:(qw (d<0)||qw (d>20))=true:=by simp only[qZ,qf];omega
   rw[this,Bool.or_true];rfl
theorem Nzp (b:(List (Int×Int×Int)))(a:(Int×Int×Int)):(tzt b a).o=(tzu b a).run NN:=rfl
theorem Uz3 (a:(List az6)):(nzy a).o=(Az3 a).run NN:=rfl
theorem Nz1 (a:(List az6)):(gz5 a).o=(jz9 a).run NN:=rfl
open Go.Proofs
def az6r (M:Nat)(l:List czx):Prop:=l.length<=M/\∀p∈l,p.Xn.length<=M
def num (l:List V3)(n:V3):Int:=
 match l.findIdx? (·==n)with
 |some i=>i
 |none=> -1
theorem az3u (a b:V3):((a.1==b.1)&&((a.2.1==b.2.1)&&((a.2.2==b.2.2)&&true)))=(a==b):=by
 obtain⟨h,c,g⟩:=a;obtain⟨e,d,f⟩:=b;rw[qY];simp
theorem az2b (l:List V3)(n:V3)(h:l.length<NN)(g:l.length<1000000000000):(tzt l n).o=some (num l n):=by
 simp only[Nzp,tzu,qk];unfold num;cases b:l.findIdx? (·==n)with
 |none=>
  rw[xK]at b;refine gzy (y:=.u) (pze (λi=>(i:Int)) rfl l.length qa (λi hi=>?_) ?_)
  ·have:=b _ (bz3 hi);try dsimp only
   (rw[az8 qa];(repeat(first|rw[azg qa]|rw[azg (by simp only[wx];omega)]|rw[azg (by simp only[wB,w8,azc];omega)]|rw[azg (by simp only[xd,wx,wA,azc,and_true];omega)]));rw[az3u,qG,ezp this,w64n qa])
  ·try dsimp only
   rw[az7 qa]
 |some k=>
  rw[xL]at b;obtain⟨e,f,d⟩:=b;refine Eza (Qz8 (λi=>(i:Int)) rfl k qa (λi hi=>?_) ?_)
  ·have c:i<l.length:=qa
   have:=d i hi;try dsimp only
   (rw[az8 qa];(repeat(first|rw[azg qa]|rw[azg (by simp only[wx];omega)]|rw[azg (by simp only[wB,w8,azc];omega)]|rw[azg (by simp only[xd,wx,wA,azc,and_true];omega)]));rw[az3u,qG,ezp (by simpa[wm,c]using this),w64n qa])
  ·try dsimp only
   (rw[az8 qa];(repeat(first|rw[azg qa]|rw[azg (by simp only[wx];omega)]|rw[azg (by simp only[wB,w8,azc];omega)]|rw[azg (by simp only[xd,wx,wA,azc,and_true];omega)]));rw[az3u,qG,ezf (by simpa[wm,e]using f)])
theorem num_neg {l:List V3}{n:V3}:num l n<0↔n∉l:=by
 unfold num;cases b:l.findIdx? (·==n)with
 |none=>
  rw[xK]at b;simp only[show(-1:Int)<0 from qa,true_iff];intro c;simpa using b n c
 |some k=>
  rw[xL]at b;obtain⟨e,d,_⟩:=b;have:n∈l:=by have:=List.getElem_mem e;rw[show l[k]=n by simpa using d]at this;exact this
  simp only[this,not_true,iff_false];omega
def addN (t:List V3)(n:V3):List V3×Int:=if n∈t then(t,num t n)else(t++[n],t.length)
def dzk (t:List V3)(ns:List V3):List V3×List Int:=ns.foldl (λa n=>((addN a.1 n).1,a.2++[(addN a.1 n).2])) (t,[])
def Zzo (a:List V3×List czx)(p:az6):List V3×List czx:=((dzk a.1 p.Xf).1,a.2++[⟨p.Xg,p.Xh,(dzk a.1 p.Xf).2⟩])
def fzn (l:List az6):List V3×List czx:=l.foldl Zzo ([],[])
theorem mzc (t ns:List V3)(n:V3):dzk t (ns++[n])=((addN (dzk t ns).1 n).1,(dzk t ns).2++[(addN (dzk t ns).1 n).2]):=by
 simp[dzk,wS]
theorem pzu (l:List az6)(p:az6):fzn (l++[p])=Zzo (fzn l) p:=by simp[fzn,wS]
theorem az41 (t:List V3)(n:V3):t.length<=(addN t n).1.length/\(addN t n).1.length<=t.length+1:=by unfold addN;split<;>simp
theorem Hzh (t ns:List V3):t.length<=(dzk t ns).1.length/\(dzk t ns).1.length<=t.length+ns.length/\(dzk t ns).2.length=ns.length:=by
 have a:∀k,k<=ns.length->t.length<=(dzk t (ns.take k)).1.length/\(dzk t (ns.take k)).1.length<=t.length+k/\(dzk t (ns.take k)).2.length=k:=by
  intro k;induction k with
  |zero=>intro _;simp[dzk]
  |succ k c=>
   intro f;rw[czp qa,mzc];have e:=c qa;have d:=az41 (dzk t (ns.take k)).1 (ns.getD k qv);simp only[xc,wB,w8];omega
 have:=a ns.length (wz _);rwa[gz3 (wz _)]at this
def oz4 (l:List az6):Nat:=(l.map (λp=>p.Xf.length)).sum
theorem Ozz (l:List az6)(p:az6):oz4 (l++[p])=oz4 l+p.Xf.length:=by simp[oz4]
theorem az03 (l:List az6)(k:Nat):oz4 (l.take k)<=oz4 l:=by
 conv=>rhs;rw[<-List.take_append_drop k l]
 simp only[oz4,xM,List.sum_append];omega
theorem Lzp (l:List az6):(fzn l).1.length<=oz4 l/\(fzn l).2.length=l.length:=by
 have a:∀k,k<=l.length->(fzn (l.take k)).1.length<=oz4 (l.take k)/\(fzn (l.take k)).2.length=k:=by
  intro k;induction k with
  |zero=>intro _;simp[fzn,oz4]
  |succ k c=>
   intro f;rw[czp qa,pzu,Ozz];have e:=c qa;have d:=Hzh (fzn (l.take k)).1 (l.getD k qv).Xf;simp only[Zzo,xc,wB,w8];omega
 have:=a l.length (wz _);rwa[gz3 (wz _)]at this
theorem az22 {l:List az6}{p:az6}(h:p∈l):p.Xf.length<=oz4 l:=by
 induction l with
 |nil=>cases h
 |cons a l c=>
  simp only[oz4,xN,xO];rcases wC.1 h with rfl|h
  ·omega
  ·have:=c h;simp only[oz4]at this;omega
theorem Dz4 (l:List az6){k:Nat}(h:k<l.length):oz4 (l.take k)+(l.getD k qv).Xf.length<=oz4 l:=by
 have:=az03 l (k+1);rw[czp h,Ozz]at this;exact this
theorem Yzg (l:List az6)(d:l.length<NN)(u:oz4 l<NN)(s:l.length<1000000000)(t:oz4 l<1000000000):(nzy l).o=some ⟨(fzn l).1,(fzn l).2⟩:=by
 simp only[Uz3,Az3,qk];refine gzy (y:=((fzn l).1,(fzn l).2)) (pze (λi=>((fzn (l.take i)).1,(fzn (l.take i)).2,(i:Int))) rfl l.length d (λi hi=>?_) ?_)
 ·dsimp only;have g:=Lzp (l.take i);have c:=Dz4 l hi;have f:(l.take i).length=i:=by rw[xP];omega
  (rw[az8 qa];(repeat(first|rw[azg qa]|rw[azg (by simp only[wx];omega)]|rw[azg (by simp only[wB,w8,azc];omega)]|rw[azg (by simp only[xd,wx,wA,azc,and_true];omega)]));rw[qG])
  rw[czp hi,pzu];generalize l.getD i qv=p at *
  generalize fzn (l.take i)=q at *
  rw[show Zzo q p=((dzk q.1 p.Xf).1,q.2++[⟨p.Xg,p.Xh,(dzk q.1 p.Xf).2⟩])from rfl];refine(gzy (y:=dzk q.1 p.Xf) (pze (λk=>((dzk q.1 (p.Xf.take k)).1,(dzk q.1 (p.Xf.take k)).2,(k:Int))) rfl p.Xf.length qa (λk j=>?_) ?_)).trans ?_
  ·have m:=Hzh q.1 (p.Xf.take k);have e:(p.Xf.take k).length=k:=by rw[xP];omega
   dsimp only
   ((repeat(first|rw[azg qa]|rw[azg (by simp only[wx];omega)]|rw[azg (by simp only[wB,w8,azc];omega)]|rw[azg (by simp only[xd,wx,wA,azc,and_true];omega)]));rw[az8 qa];(repeat(first|rw[azg qa]|rw[azg (by simp only[wx];omega)]|rw[azg (by simp only[wB,w8,azc];omega)]|rw[azg (by simp only[xd,wx,wA,azc,and_true];omega)]));rw[qG,az2b _ _ qa qa,qL])
   rw[czp j,mzc];generalize dzk q.1 (p.Xf.take k)=r at *
   generalize p.Xf.getD k qv=n at *
   by_cases b:n∈r.1
   ·have:¬num r.1 n<0:=λh=>num_neg.1 h b
    (rw[az7 this,az9];(repeat(first|rw[azg qa]|rw[azg (by simp only[wx];omega)]|rw[azg (by simp only[wB,w8,azc];omega)]|rw[azg (by simp only[xd,wx,wA,azc,and_true];omega)]|rw[azg (by simp only[azc];omega)]));rw[w64n qa])
    simp only[addN,b,if_true]
   ·have:num r.1 n<0:=num_neg.2 b
    (rw[az8 this];(repeat(first|rw[azg qa]|rw[azg (by simp only[wx];omega)]|rw[azg (by simp only[wB,w8,azc];omega)]|rw[azg (by simp only[xd,wx,wA,azc,and_true];omega)]|rw[azg (by simp only[azc];omega)]));rw[az9];(repeat(first|rw[azg qa]|rw[azg (by simp only[wx];omega)]|rw[azg (by simp only[wB,w8,azc];omega)]|rw[azg (by simp only[xd,wx,wA,azc,and_true];omega)]|rw[azg (by simp only[azc];omega)]));rw[w64n qa])
    simp only[addN,b,if_false]
  ·dsimp only
   ((repeat(first|rw[azg qa]|rw[azg (by simp only[wx];omega)]|rw[azg (by simp only[wB,w8,azc];omega)]|rw[azg (by simp only[xd,wx,wA,azc,and_true];omega)]));rw[az7 qa,gz3 (wz _)])
  ·dsimp only
   ((repeat(first|rw[azg qa]|rw[azg (by simp only[wx];omega)]|rw[azg (by simp only[wB,w8,azc];omega)]|rw[azg (by simp only[xd,wx,wA,azc,and_true];omega)]|rw[azg (by simp only[azc];omega)]));rw[w64n qa])
 ·dsimp only;rw[az7 qa,gz3 (wz _)]
def Jzf (t:List V3):List (V3×Int):=(t.zipIdx.map (λx=>(x.1,(x.2:Int)))).reverse
theorem Hz9 (t:List V3)(n:V3):Jzf (t++[n])=(n,(t.length:Int))::Jzf t:=by
 simp[Jzf,List.zipIdx_append]
theorem Xzv (a b:V3):zzb (azv a) (azv b)=(a==b):=by
 obtain⟨h,c,g⟩:=a;obtain⟨e,d,f⟩:=b;simp only[zzb,azv,ez8,if_true,Option.map_some];rw[qY];simp
theorem Zzk (t:List V3)(n:V3):mdom azv (Jzf t) (azv n)=qw (n∈t):=by
 have a:∀k,k<=t.length->mdom azv (Jzf (t.take k)) (azv n)=qw (n∈t.take k):=by
  intro k;induction k with
  |zero=>intro _;simp[Jzf,mdom]
  |succ k c=>
   intro d;rw[czp qa,Hz9];simp only[mdom,Xzv,c qa];rw[qY];simp[xh];exact Or.comm
 have:=a t.length (wz _);rwa[gz3 (wz _)]at this
theorem azbl {t:List V3}{k:Nat}(d:t.Nodup)(a:k<t.length):num t (t.getD k qv)=k:=by
 unfold num;have:t.findIdx? (·==t.getD k qv)=some k:=by
  rw[xL];refine⟨a,by simp[wm,a],λj f=>?_⟩;have b:j<t.length:=qa
  simp only[wm,a,wE,wF,qj];intro e;exact(List.pairwise_iff_getElem.1 d) j k b a f e
 rw[this]
theorem Zzm (t:List V3)(n:V3)(c:t.Nodup):mget azv (Jzf t) (azv n)=if n∈t then num t n else 0:=by
 have a:∀k,k<=t.length->mget azv (Jzf (t.take k)) (azv n)=if n∈t.take k then num t n else 0:=by
  intro k;induction k with
  |zero=>intro _;simp[Jzf,mget]
  |succ k d=>
   intro f;rw[czp qa,Hz9];simp only[mget,Xzv,d qa];by_cases e:n=t.getD k qv
   ·subst e;rw[qc (by simp),qc (by simp),azbl c qa,xP];congr 1;omega
   ·rw[qb (by simpa using e)];congr 1;simp only[xh,wO,eq_iff_iff];exact⟨.inl,λh=>h.resolve_right e⟩
 have:=a t.length (wz _);rwa[gz3 (wz _)]at this
theorem Yzu {t:List V3}{n:V3}(h:t.Nodup):(addN t n).1.Nodup:=by
 unfold addN;split
 ·exact h
 ·rename_i f;simp only[List.nodup_append,h,true_and];refine⟨by simp,λa d b c=>?_⟩;simp at c;subst c;intro e;subst e;exact f d
theorem Izk {t ns:List V3}(h:t.Nodup):(dzk t ns).1.Nodup:=by
 have a:∀k,k<=ns.length->(dzk t (ns.take k)).1.Nodup:=by
  intro k;induction k with
  |zero=>intro _;simpa[dzk]using h
  |succ k c=>intro d;rw[czp qa,mzc];exact Yzu (c qa)
 have:=a ns.length (wz _);rwa[gz3 (wz _)]at this
theorem Wz4 (l:List az6):(fzn l).1.Nodup:=by
 have a:∀k,k<=l.length->(fzn (l.take k)).1.Nodup:=by
  intro k;induction k with
  |zero=>intro _;simp[fzn]
  |succ k c=>intro d;rw[czp qa,pzu];exact Izk (c qa)
 have:=a l.length (wz _);rwa[gz3 (wz _)]at this
theorem az2j (l:List az6)(g:l.length<NN)(t:oz4 l<NN)(s:l.length<1000000000)(u:oz4 l<1000000000):(gz5 l).o=some ⟨(fzn l).1,(fzn l).2⟩:=by
 simp only[Nz1,jz9,qk];refine gzy (y:=((fzn l).1,(fzn l).2)) (pze (λi=>((fzn (l.take i)).1,(fzn (l.take i)).2,Jzf (fzn (l.take i)).1,(i:Int))) rfl l.length g (λi hi=>?_) ?_)
 ·dsimp only;have d:=Lzp (l.take i);have b:=Wz4 (l.take i);have h:=Dz4 l hi;have f:(l.take i).length=i:=by rw[xP];omega
  (rw[az8 qa];(repeat(first|rw[azg qa]|rw[azg (by simp only[wx];omega)]|rw[azg (by simp only[wB,w8,azc];omega)]|rw[azg (by simp only[xd,wx,wA,azc,and_true];omega)]));rw[qG])
  rw[czp hi,pzu];generalize l.getD i qv=p at *
  generalize fzn (l.take i)=q at *
  rw[show Zzo q p=((dzk q.1 p.Xf).1,q.2++[⟨p.Xg,p.Xh,(dzk q.1 p.Xf).2⟩])from rfl];refine(gzy (y:=((dzk q.1 p.Xf).1,Jzf (dzk q.1 p.Xf).1,(dzk q.1 p.Xf).2)) (pze (λk=>((dzk q.1 (p.Xf.take k)).1,Jzf (dzk q.1 (p.Xf.take k)).1,(dzk q.1 (p.Xf.take k)).2,(k:Int))) rfl p.Xf.length qa (λk j=>?_) ?_)).trans ?_
  ·have m:=Hzh q.1 (p.Xf.take k);have e:(p.Xf.take k).length=k:=by rw[xP];omega
   have c:=Izk (ns:=p.Xf.take k) b;dsimp only
   (rw[az8 qa];(repeat(first|rw[azg qa]|rw[azg (by simp only[wx];omega)]|rw[azg (by simp only[wB,w8,azc];omega)]|rw[azg (by simp only[xd,wx,wA,azc,and_true];omega)]));rw[qG])
   rw[czp j,mzc];generalize dzk q.1 (p.Xf.take k)=r at *
   generalize p.Xf.getD k qv=n at *
   rw[Zzk,Zzm _ _ c];by_cases a:n∈r.1
   ·((repeat(first|rw[azg qa]|rw[azg (by simp only[wx];omega)]|rw[azg (by simp only[wB,w8,azc];omega)]|rw[azg (by simp only[xd,wx,wA,azc,and_true];omega)]|rw[azg (by simp[a])]));rw[ezp (by simp[a]),az9];(repeat(first|rw[azg qa]|rw[azg (by simp only[wx];omega)]|rw[azg (by simp only[wB,w8,azc];omega)]|rw[azg (by simp only[xd,wx,wA,azc,and_true];omega)]|rw[azg (by simp only[azc];omega)]));rw[w64n qa])
    simp only[addN,a,if_true]
   ·((repeat(first|rw[azg qa]|rw[azg (by simp only[wx];omega)]|rw[azg (by simp only[wB,w8,azc];omega)]|rw[azg (by simp only[xd,wx,wA,azc,and_true];omega)]|rw[azg (by simp[a])]));rw[ezf (by simp[a])];(repeat(first|rw[azg qa]|rw[azg (by simp only[wx];omega)]|rw[azg (by simp only[wB,w8,azc];omega)]|rw[azg (by simp only[xd,wx,wA,azc,and_true];omega)]|rw[azg (by simp only[azc];omega)]));rw[az9];(repeat(first|rw[azg qa]|rw[azg (by simp only[wx];omega)]|rw[azg (by simp only[wB,w8,azc];omega)]|rw[azg (by simp only[xd,wx,wA,azc,and_true];omega)]|rw[azg (by simp only[azc];omega)]));rw[w64n qa])
    simp only[addN,a,if_false,Hz9]
  ·dsimp only;rw[az7 qa,gz3 (wz _)]
  ·dsimp only
   ((repeat(first|rw[azg qa]|rw[azg (by simp only[wx];omega)]|rw[azg (by simp only[wB,w8,azc];omega)]|rw[azg (by simp only[xd,wx,wA,azc,and_true];omega)]|rw[azg (by simp only[azc];omega)]));rw[w64n qa])
 ·dsimp only;rw[az7 qa,gz3 (wz _)]
def okN (t:List V3)(j:Int):Bool:=qw (0<=j/\j<t.length)
def unN (t:List V3)(j:Int):V3:=t.getD j.toNat qv
def unU (t:List V3)(u:czx):az6:=⟨u.Xg,u.Xh,u.Xn.map (unN t)⟩
def ez1 (p:azq):List az6×Bool:=
 if p.Xv.all (λu=>u.Xn.all (okN p.Xw))then(p.Xv.map (unU p.Xw),true)else(nl,false)
theorem Kzw {c:Type}[Inhabited c]{q:c->Bool}:∀ (l:List c),l.all q=false->∃k,k<l.length/\q (l.getD k qv)=false/\∀i,i<k->q (l.getD i qv)=true
 |[],h=>by simp at h
 |a::l,h=>by
  cases b:q a with
  |false=>exact⟨0,by simp,by simpa using b,λi hi=>qa⟩
  |true=>
   simp only[xQ,b,qR]at h;obtain⟨k,e,f,d⟩:=Kzw l h;refine⟨k+1,by simpa using e,by simpa using f,λi hi=>?_⟩;cases i with
   |zero=>simpa using b
   |succ i=>simpa using d i qa
theorem Vz2 {a:Type}[Inhabited a]{q:a->Bool}{l:List a}(h:l.all q=true){i:Nat}(hi:i<l.length):q (l.getD i qv)=true:=
 ql.1 h _ (bz3 hi)
theorem izn {a β:Type}[Inhabited a]{f:a->β}{l:List a}{k:Nat}(h:k<l.length):(l.take (k+1)).map f=(l.take k).map f++[f (l.getD k qv)]:=by
 rw[czp h];simp
theorem Yz6 {t T:List V3}(h:t<+:T){i:Nat}(hi:i<t.length):T.getD i qv=t.getD i qv:=by
 obtain⟨s,rfl⟩:=h;rw[getD_left hi]
theorem Xz7 (t:List V3)(n:V3):t<+:(addN t n).1:=by
 unfold addN;split
 ·exact xR
 ·exact List.prefix_append _ _
theorem az92 {t:List V3}{n:V3}(h:n∈t):0<=num t n/\num t n<t.length/\t.getD (num t n).toNat qv=n:=by
 unfold num;cases a:t.findIdx? (·==n)with
 |none=>
  rw[xK]at a;have:=a n h;simp at this
 |some k=>
  rw[xL]at a;obtain⟨c,d,_⟩:=a;refine⟨by simp,by simpa using c,?_⟩;simp only[qG,wm,wE c,wF];simpa using d
theorem az7m {t T:List V3}{n:V3}(h:(addN t n).1<+:T):okN T (addN t n).2=true/\unN T (addN t n).2=n:=by
 have a:=h.length_le;unfold okN unN;by_cases b:n∈t
 ·simp only[addN,b,if_true]at h a⊢;obtain⟨d,e,c⟩:=az92 b;refine⟨by simp only[qf];omega,?_⟩;rw[Yz6 h qa,c]
 ·simp only[addN,b,if_false]at h a⊢;simp only[xc,wB,w8]at a;refine⟨by simp only[qf];omega,?_⟩;rw[qG,Yz6 h (by simp),getD_right (wz _)];simp
theorem Zzn (t ns:List V3):t<+:(dzk t ns).1:=by
 have a:∀k,k<=ns.length->t<+:(dzk t (ns.take k)).1:=by
  intro k;induction k with
  |zero=>intro _;simp[dzk]
  |succ k c=>intro d;rw[czp qa,mzc];exact(c qa).trans (Xz7 _ _)
 have:=a ns.length (wz _);rwa[gz3 (wz _)]at this
theorem az2h {t ns T:List V3}(h:(dzk t ns).1<+:T):(dzk t ns).2.all (okN T)=true/\(dzk t ns).2.map (unN T)=ns:=by
 have b:∀k,k<=ns.length->(dzk t (ns.take k)).1<+:T->(dzk t (ns.take k)).2.all (okN T)=true/\(dzk t (ns.take k)).2.map (unN T)=ns.take k:=by
  intro k;induction k with
  |zero=>intro _ _;simp[dzk]
  |succ k f=>
   intro j c;rw[czp qa,mzc]at c⊢;obtain⟨g,e⟩:=f qa ((Xz7 _ _).trans c);obtain⟨i,d⟩:=az7m c;simp only[xS,xM,g,e,xQ,xT,xN,xU,i,d,qS,and_self]
 have:=b ns.length (wz _);rw[gz3 (wz _)]at this;exact this h
theorem az2g (l:List az6)(p:az6):(fzn l).1<+:(fzn (l++[p])).1:=by
 rw[pzu];exact Zzn _ _
theorem Yz3 {l:List az6}{T:List V3}(h:(fzn l).1<+:T):(fzn l).2.all (λu=>u.Xn.all (okN T))=true/\(fzn l).2.map (unU T)=l:=by
 have c:∀k,k<=l.length->(fzn (l.take k)).1<+:T->(fzn (l.take k)).2.all (λu=>u.Xn.all (okN T))=true/\(fzn (l.take k)).2.map (unU T)=l.take k:=by
  intro k;induction k with
  |zero=>intro _ _;simp[fzn]
  |succ k f=>
   intro j b;rw[czp qa]at b⊢;obtain⟨g,e⟩:=f qa ((az2g _ _).trans b);rw[pzu]at b⊢;obtain⟨i,d⟩:=az2h (t:=(fzn (l.take k)).1) (ns:=(l.getD k qv).Xf) b;simp only[Zzo,xS,xM,g,e,xQ,xT,xN,xU,i,d,qS,unU,and_self]
 have:=c l.length (wz _);rw[gz3 (wz _)]at this;exact this h
theorem Ozt (l:List az6):ez1 ⟨(fzn l).1,(fzn l).2⟩=(l,true):=by
 obtain⟨a,b⟩:=Yz3 (l:=l) xR;unfold ez1;dsimp only;rw[qc a,b]
open Go.Proofs
def Lzq (l:List az6):azq:=⟨(fzn l).1,(fzn l).2⟩
theorem az6n {l:List az6}{B:Nat}(h:∀x∈l,x.Xf.length<=B):oz4 l<=l.length * B:=by
 induction l with
 |nil=>simp[oz4]
 |cons a l d=>
  have e:=h a (xV ..);have b:=d λx c=>h x (List.mem_cons_of_mem _ c)
  simp only[oz4,xN,xO,wB]at b⊢;rw[Nat.add_mul];omega
theorem Tzv {l:List az6}(h:PsB l):oz4 l<=2359296:=by
 have:=az6n h.2;have:l.length * 576<=4096 * 576:=Nat.mul_le_mul_right _ h.1;omega
theorem az2i {l:List az6}(h:PsB l):(gz5 l).o=some (Lzq l)/\(nzy l).o=some (Lzq l):=by
 have b:=Tzv h;have a:=h.1;exact⟨az2j l (by show _<4294967296;omega) (by show _<4294967296;omega) qa qa,Yzg l (by show _<4294967296;omega) (by show _<4294967296;omega) qa qa⟩
theorem az0s (s:azd){d:Int}(t:0<=d)(f:d<=20)(p q:List Int)(j:p.length<4294967296)(k:q.length<4294967296):
 ∃x a,(jzh ⟨s,d⟩ p q).o=some (x,a)/\(Az1 s p q d).o=some (x,a)/\PkB x/\(a=true->(ez1 x).2=true/\(gzs s p q (ez1 x).1).2=0):=by
 obtain⟨r,e,C,-,-⟩:=Yzt s p q d j k;obtain⟨F,i,a⟩:=Lzx s p q j k t f;rw[e]at i;injection i with i
 subst i;have z:(⟨s.Xe,s.Xc,s.Xj⟩:azd)=s:=rfl;have B:(jzh ⟨s,d⟩ p q).o=(tzi ⟨s,d⟩ p q).run NN:=rfl;have D:(Az1 s p q d).o=(Az2 s p q d).run NN:=rfl;rw[B,D];simp only[tzi,Az2,qk,z,e,C,qL];by_cases c:r.Xl=1
 ·have y:∀x∈r.Xo,x.Xf.length<4294967296:=λx g=>by have:=a.bd.2 x g;omega
  have G:=a.bd.1;have w:=Lzy t f a c;have em:Ozj s p q r.Xo=kz7 (jz1 s p q) r.Xo:=by unfold Ozj;rw[qb (λh=>h w)]
  have l:=Wz0 w;have v:PsB (kz7 (jz1 s p q) r.Xo):=by
   refine⟨(check_tlb.1 l).2.1,λx g=>?_⟩;have A:=(check_tlb.1 l).2.2.2 x g;have E:=(free_iff.1 A).2.2.1;have:=qzj s;omega
  obtain⟨x,ex,g⟩:=Nz2 _ v;obtain⟨b,m⟩:=az2i v;rw[b]at ex;injection ex with ex
  have n:ez1 (Lzq (kz7 (jz1 s p q) r.Xo))=(kz7 (jz1 s p q) r.Xo,true):=Ozt _;refine⟨Lzq (kz7 (jz1 s p q) r.Xo),true,?_,?_,ex▸g,λ_=>?_⟩
  ·rw[bza c,Kzk s j k r.Xo qa y];simp only[qL,em,b]
  ·rw[bza c,Rz1 s j k r.Xo];simp only[qL,em,m]
  ·rw[n];exact⟨rfl,l⟩
 ·refine⟨⟨nl,nl⟩,false,?_,?_,⟨by simp[nl],by simp[nl],λu n=>by cases n⟩,λh=>by cases h⟩
  ·rw[bzn c]
  ·rw[bzn c]
def edE (s:azd)(d:Int)(p q:List Int):azq×Bool:=(jzh ⟨s,d⟩ p q).o.getD qv
theorem azar (s:azd){d:Int}(j:0<=d)(a:d<=20)(p q:List Int)(k:p.length<4294967296)(i:q.length<4294967296):
 (jzh ⟨s,d⟩ p q).o=some (edE s d p q)/\(Az1 s p q d).o=some (edE s d p q)/\PkB (edE s d p q).1/\((edE s d p q).2=true->(ez1 (edE s d p q).1).2=true/\(gzs s p q (ez1 (edE s d p q).1).1).2=0):=by
 obtain⟨x,h,c,g,f,e⟩:=az0s s j a p q k i;have:edE s d p q=(x,h):=by unfold edE;rw[c];rfl
 rw[this];exact⟨c,g,f,e⟩
theorem Mz1 (s:azd)(c:List (List Int)):(Az4 s c).o=some (Gzs s c):=by
 show(qzs s c).run NN=_;simp only[qzs,qk,show(⟨s.Xe,s.Xc,s.Xj⟩:azd)=s from rfl,ezj,qL,nze];unfold Gzs;by_cases h:czd s=0
 ·rw[bza h,qb (λb=>b h)];simp only[bzd,az9,ezd];by_cases a:c.length<2\/c.length>256
  ·rw[qc a,ezf (by simp only[qZ,qf];omega)]
  ·rw[qb a,ezp (by simp only[qp,qi];omega)];refine(fzu (λi=>sw (outP s.Xe c i) ((i:Int),(1201:Int))) c.length qa (λj d=>?_) ?_).trans ?_
   ·rw[az8 qa,aza qa,wn qa,qG,<-ez3];rfl
   ·rw[az7 qa]
   ·cases scan (λi=>sw (outP s.Xe c i) ((i:Int),(1201:Int))) c.length 0<;>rfl
 ·rw[bzn h,qc h]
abbrev gE (s:azd)(d:Int)(c:List (List Int))(i:Nat):azq×Bool:=edE s d (c.getD i qv) (c.getD (i+1) qv)
def badE (s:azd)(d:Int)(c:List (List Int)):Option Int:=scan (λi=>sw (!(gE s d c i).2) (i:Int)) (c.length-1) 0
def bldV (s:azd)(d:Int)(c:List (List Int)):czy×Int×Int:=
 if(Gzs s c).2≠0 then(⟨nl,nl⟩,Gzs s c)else match badE s d c with
  |some i=>(⟨nl,nl⟩,i,2204)
  |none=>(⟨c,tab (λi=>(gE s d c i).1) (c.length-1)⟩,0,0)
theorem az6h (s:azd){d:Int}(c:List (List Int)){R:Type}(f:Int->R):∀ (n i:Nat),scan (λi=>sw (!(gE s d c i).2) (f (i:Int))) n i=(scan (λi=>sw (!(gE s d c i).2) (i:Int)) n i).map f:=by
 intro n;induction n with
 |zero=>intro i;rfl
 |succ n a=>
  intro i;simp only[scan];rw[a (i+1)];cases (gE s d c i).2<;>rfl
section
variable (s:azd) {d:Int} (h0:0<=d) (h20:d<=20) (c:List (List Int)) (hc:CfB c) (h1:2<=c.length)
include h0 h20 hc h1
theorem Nzh:(Czj c ⟨s,d⟩).o=some (match badE s d c with|some i=>(nl,i,2204)|none=>(tab (λi=>(gE s d c i).1) (c.length-1),0,0)):=by
 have l:=hc.1;show(tzg c ⟨s,d⟩).run NN=_;have b:(1:Int).toNat=1:=rfl;simp only[tzg,qk,b,qG,az6m (show 1<=c.length from qa)];rw[aza qa];refine(jzc (λj=>(tab (λi=>(gE s d c i).1) j,(j:Int))) (λi=>sw (!(gE s d c i).2) ((nl:List azq),(i:Int),(2204:Int))) (tab (λi=>(gE s d c i).1) (c.length-1)) (c.length-1) rfl (by show _<4294967296;omega) (λj m=>?_) ?_).trans ?_
 ·have h:=hc.get (show j<c.length from qa);have n:=hc.get (show j+1<c.length from qa);obtain⟨e,-⟩:=azar s h0 h20 (c.getD j qv) (c.getD (j+1) qv) qa qa;dsimp only;rw[az8 qa,aza qa,aza qa,qG,az6l qa,e];simp only[qL];have f:edE s d (c.getD j qv) (c.getD (j+1) qv)=gE s d c j:=rfl;rw[f];cases (gE s d c j).2 with
  |false=>rfl
  |true=>
   simp only[qO,qd,sw];rw[aza (by simp only[cz8,wB,w8,azc];omega),wn qa,izx]
 ·dsimp only;rw[az7 qa]
 ·unfold badE;rw[az6h s (d:=d) c (λi=>((nl:List azq),i,(2204:Int)))];cases scan (λi=>sw (!(gE s d c i).2) (i:Int)) (c.length-1) 0<;>rfl
end
theorem Vza {s:azd}{c:List (List Int)}(k:(Gzs s c).2=0):CfB c/\2<=c.length:=by
 obtain⟨f,b,e⟩:=chkPV_iff.1 k;refine⟨⟨b.2,λx d=>?_⟩,b.1⟩;obtain⟨i,hi,rfl⟩:=wD d;have:=e i hi;rw[wm,wE hi]at this;have:=zz9 this;simp only[wF]at this;omega
theorem Tzr (s:azd){d:Int}(f:0<=d)(a:d<=20)(c:List (List Int)):(Izl s c d).o=some (bldV s d c):=by
 show(zzm s c d).run NN=_;simp only[zzm,qk,Fz5,qL];unfold bldV;by_cases k:(Gzs s c).2=0
 ·obtain⟨b,e⟩:=Vza k;rw[bza k,show(⟨s.Xe,s.Xc,s.Xj⟩:azd)=s from rfl,Nzh s f a c b e,qb (λh=>h k)];simp only[qL];cases badE s d c with
  |some i=>rfl
  |none=>
   dsimp only;rw[bza rfl,Pzd c b];rfl
 ·rw[bzn k,qc k]
open Go.Proofs
theorem az2a:PaB ⟨nl,nl⟩:=⟨⟨by simp[nl],λx a=>by cases a⟩,by simp[nl],λx a=>by cases a⟩
theorem az7r (s:azd){d:Int}(l:0<=d)(g:d<=20)(c:List (List Int)):PaB (bldV s d c).1:=by
 unfold bldV;by_cases k:(Gzs s c).2=0
 ·rw[qb (λh=>h k)];obtain⟨b,n⟩:=Vza k;have p:=b.1;cases badE s d c with
  |some i=>exact az2a
  |none=>
   refine⟨b,by simp only[cz8];omega,λy e=>?_⟩;have e:y∈tab (λi=>(gE s d c i).1) (c.length-1):=e;obtain⟨i,a,rfl⟩:=wD e;have hi:i<c.length-1:=by simpa only[cz8]using a
   have o:=b.get (show i<c.length from qa);have q:=b.get (show i+1<c.length from qa);have m:(tab (λi=>(gE s d c i).1) (c.length-1))[i]=(gE s d c i).1:=by
    have:=hzx (d:=qv) (f:=λi=>(gE s d c i).1) hi;rwa[wm,wE a,wF]at this
   rw[m];exact(azar s l g (c.getD i qv) (c.getD (i+1) qv) qa qa).2.2.1
 ·rw[qc k];exact az2a
theorem Nzn (a:azq):(nzg a).o=(tzq a).run NN:=rfl
open Go.Proofs
theorem Zzy (M:Nat)(p:azq)(C:M<NN)(A:M<1000000000)(z:az6r M p.Xv):(nzg p).o=some (ez1 p):=by
 obtain⟨x,e⟩:=z;simp only[Nzn,tzq,qk];cases b:p.Xv.all (λu=>u.Xn.all (okN p.Xw))with
 |true=>
  simp only[ez1,b,if_true];refine gzy (y:=p.Xv.map (unU p.Xw)) (pze (λi=>((p.Xv.take i).map (unU p.Xw),(i:Int))) rfl p.Xv.length qa (λi hi=>?_) ?_)
  ·dsimp only
   (rw[az8 qa];(repeat(first|rw[azg qa]|rw[azg (by simp only[wx];omega)]|rw[azg (by simp only[wB,w8,azc];omega)]|rw[azg (by simp only[xd,wx,wA,azc,and_true];omega)]));rw[qG,izn hi])
   have s:=e _ (bz3 hi);have n:=Vz2 b hi;generalize p.Xv.getD i qv=u at *
   refine(gzy (y:=u.Xn.map (unN p.Xw)) (pze (λk=>((u.Xn.take k).map (unN p.Xw),(k:Int))) rfl u.Xn.length qa (λk g=>?_) ?_)).trans ?_
   ·dsimp only;have c:=Vz2 n g;simp only[okN,qf]at c
    (rw[az8 qa];(repeat(first|rw[azg qa]|rw[azg (by simp only[wx];omega)]|rw[azg (by simp only[wB,w8,azc];omega)]|rw[azg (by simp only[xd,wx,wA,azc,and_true];omega)]));rw[qG,izn g])
    generalize u.Xn.getD k qv=j at *
    have a:((u.Xn.take k).map (unN p.Xw)).length=k:=by simp;omega
    (rw[az7 qa];(repeat(first|rw[azg qa]|rw[azg (by simp only[wx];omega)]|rw[azg (by simp only[wB,w8,azc];omega)]|rw[azg (by simp only[xd,wx,wA,azc,and_true];omega)]));rw[az9,az7 qa];(repeat(first|rw[azg qa]|rw[azg (by simp only[wx];omega)]|rw[azg (by simp only[wB,w8,azc];omega)]|rw[azg (by simp only[xd,wx,wA,azc,and_true];omega)]|rw[azg (by rw[a];simp only[azc];omega)]));rw[w64n qa])
    rfl
   ·dsimp only;rw[az7 qa,gz3 (wz _)]
   ·have a:((p.Xv.take i).map (unU p.Xw)).length=i:=by simp;omega
    ((repeat(first|rw[azg qa]|rw[azg (by simp only[wx];omega)]|rw[azg (by simp only[wB,w8,azc];omega)]|rw[azg (by simp only[xd,wx,wA,azc,and_true];omega)]|rw[azg (by rw[a];simp only[azc];omega)]));rw[w64n qa])
    rfl
  ·dsimp only;rw[az7 qa,gz3 (wz _)]
 |false=>
  simp only[ez1,b,if_false,Bool.false_eq_true];obtain⟨v,q,l,f⟩:=Kzw _ b;refine Eza (Qz8 (λi=>((p.Xv.take i).map (unU p.Xw),(i:Int))) rfl v qa (λi r=>?_) ?_)
  ·have hi:i<p.Xv.length:=qa
   dsimp only
   (rw[az8 qa];(repeat(first|rw[azg qa]|rw[azg (by simp only[wx];omega)]|rw[azg (by simp only[wB,w8,azc];omega)]|rw[azg (by simp only[xd,wx,wA,azc,and_true];omega)]));rw[qG,izn hi])
   have s:=e _ (bz3 hi);have n:=f i r;generalize p.Xv.getD i qv=u at *
   refine(gzy (y:=u.Xn.map (unN p.Xw)) (pze (λk=>((u.Xn.take k).map (unN p.Xw),(k:Int))) rfl u.Xn.length qa (λk g=>?_) ?_)).trans ?_
   ·dsimp only;have c:=Vz2 n g;simp only[okN,qf]at c
    (rw[az8 qa];(repeat(first|rw[azg qa]|rw[azg (by simp only[wx];omega)]|rw[azg (by simp only[wB,w8,azc];omega)]|rw[azg (by simp only[xd,wx,wA,azc,and_true];omega)]));rw[qG,izn g])
    generalize u.Xn.getD k qv=j at *
    have a:((u.Xn.take k).map (unN p.Xw)).length=k:=by simp;omega
    (rw[az7 qa];(repeat(first|rw[azg qa]|rw[azg (by simp only[wx];omega)]|rw[azg (by simp only[wB,w8,azc];omega)]|rw[azg (by simp only[xd,wx,wA,azc,and_true];omega)]));rw[az9,az7 qa];(repeat(first|rw[azg qa]|rw[azg (by simp only[wx];omega)]|rw[azg (by simp only[wB,w8,azc];omega)]|rw[azg (by simp only[xd,wx,wA,azc,and_true];omega)]|rw[azg (by rw[a];simp only[azc];omega)]));rw[w64n qa])
    rfl
   ·dsimp only;rw[az7 qa,gz3 (wz _)]
   ·have a:((p.Xv.take i).map (unU p.Xw)).length=i:=by simp;omega
    ((repeat(first|rw[azg qa]|rw[azg (by simp only[wx];omega)]|rw[azg (by simp only[wB,w8,azc];omega)]|rw[azg (by simp only[xd,wx,wA,azc,and_true];omega)]|rw[azg (by rw[a];simp only[azc];omega)]));rw[w64n qa])
    rfl
  ·dsimp only
   (rw[az8 qa];(repeat(first|rw[azg qa]|rw[azg (by simp only[wx];omega)]|rw[azg (by simp only[wB,w8,azc];omega)]|rw[azg (by simp only[xd,wx,wA,azc,and_true];omega)]));rw[qG])
   have s:=e _ (bz3 q);generalize p.Xv.getD v qv=u at *
   obtain⟨t,B,h,d⟩:=Kzw _ l;refine Eza (Qz8 (λk=>((u.Xn.take k).map (unN p.Xw),(k:Int))) rfl t qa (λk m=>?_) ?_)
   ·have g:k<u.Xn.length:=qa
    dsimp only;have c:=d k m;simp only[okN,qf]at c
    (rw[az8 qa];(repeat(first|rw[azg qa]|rw[azg (by simp only[wx];omega)]|rw[azg (by simp only[wB,w8,azc];omega)]|rw[azg (by simp only[xd,wx,wA,azc,and_true];omega)]));rw[qG,izn g])
    generalize u.Xn.getD k qv=j at *
    have a:((u.Xn.take k).map (unN p.Xw)).length=k:=by simp;omega
    (rw[az7 qa];(repeat(first|rw[azg qa]|rw[azg (by simp only[wx];omega)]|rw[azg (by simp only[wB,w8,azc];omega)]|rw[azg (by simp only[xd,wx,wA,azc,and_true];omega)]));rw[az9,az7 qa];(repeat(first|rw[azg qa]|rw[azg (by simp only[wx];omega)]|rw[azg (by simp only[wB,w8,azc];omega)]|rw[azg (by simp only[xd,wx,wA,azc,and_true];omega)]|rw[azg (by rw[a];simp only[azc];omega)]));rw[w64n qa])
    rfl
   ·dsimp only;simp only[okN,qi]at h
    (rw[az8 qa];(repeat(first|rw[azg qa]|rw[azg (by simp only[wx];omega)]|rw[azg (by simp only[wB,w8,azc];omega)]|rw[azg (by simp only[xd,wx,wA,azc,and_true];omega)]));rw[qG])
    generalize u.Xn.getD t qv=j at *
    by_cases w:j<0
    ·rw[az8 w,az9,ezf rfl]
    ·(rw[az7 w];(repeat(first|rw[azg qa]|rw[azg (by simp only[wx];omega)]|rw[azg (by simp only[wB,w8,azc];omega)]|rw[azg (by simp only[xd,wx,wA,azc,and_true];omega)]));rw[az9,az8 qa])
open Go.Proofs
def OkG (s:azd)(x:czy):Prop:=(Gzs s x.Xb).2=0/\x.Xb.length=x.Xd.length+1/\
 ∀i,i<x.Xd.length->(ez1 (x.Xd.getD i qv)).2=true/\(gzs s (x.Xb.getD i qv) (x.Xb.getD (i+1) qv) (ez1 (x.Xd.getD i qv)).1).2=0
theorem az4r {a:Type}[Inhabited a]{l:List a}{i j:Nat}{v:a}(h:i<l.length):(l.set i v).getD j qv=if i=j then v else l.getD j qv:=by
 simp only[wm,xW,h,if_true];split<;>rfl
open Go.Proofs
theorem Xzn {d:Type}[Inhabited d]{a b:List d}(g:a.length=b.length)(h:∀i,i<a.length->a.getD i qv=b.getD i qv):a=b:=by
 refine xX g (λi c f=>?_);have:=h i c;simpa only[wm,wE c,wE f,wF]using this
open Go.Proofs
open Go.Proofs
def eqW (a b:List Int):Bool:=qw (a=b)
theorem az01 (a b:List Int)(h:a.length<4294967296):(qzr a b).o=some (eqW a b):=by
 show(kz0 a b).run NN=_;simp only[kz0,qk];unfold eqW;by_cases e:a.length=b.length
 ·rw[bza qa];refine(fzu (λj=>sw (a.getD j qv !=b.getD j qv) false) a.length h (λj g=>?_) ?_).trans ?_
  ·rw[az8 qa,aza qa,aza qa,wn qa,qG,<-ez3]
  ·rw[az7 qa]
  ·rw[dzd];by_cases d:czg (λj=>a.getD j qv !=b.getD j qv) a.length=true
   ·rw[d];have:a=b:=Xzn e λi hi=>by
     have:=of_decide_eq_true d i hi;simpa using this
    rw[qg this];rfl
   ·have f:czg (λj=>a.getD j qv !=b.getD j qv) a.length=false:=by simpa using d
    rw[f];have:a≠b:=λh=>d (by subst h;exact qg (λi _=>by simp))
    rw[qh this];rfl
 ·rw[bzn qa,qh (λh=>e (by rw[h]))]
def memB (l:List (List Int))(c:List Int):Bool:=qw (c∈l)
theorem az2m (l:List (List Int))(c:List Int)(f:l.length<4294967296)(d:∀x∈l,x.length<4294967296):∃z,(qzx l c).o=some z/\qw (z>=0)=memB l c:=by
 refine⟨match scan (λi=>sw (eqW (l.getD i qv) c) (i:Int)) l.length 0 with|some x=>x|none=> -1,?_,?_⟩
 ·show(qzy l c).run NN=_;simp only[qzy,qk];refine(fzu (λi=>sw (eqW (l.getD i qv) c) (i:Int)) l.length f (λj e=>?_) ?_).trans ?_
  ·rw[az8 qa,aza qa,aza qa,wn qa,qG,az01 _ _ (d _ (bz3 e))];simp only[qL];rw[<-ez3]
  ·rw[az7 qa]
  ·cases scan (λi=>sw (eqW (l.getD i qv) c) (i:Int)) l.length 0<;>rfl
 ·refine(Rzd (g:=λi=>eqW (l.getD i qv) c) (n:=l.length)).trans ?_;unfold memB czg;rw[qY];simp only[wc,qi,qf];constructor
  ·intro h;simp only[Classical.not_forall]at h;obtain⟨i,hi,a⟩:=h;have a:l.getD i qv=c:=by simpa[eqW]using a
   rw[<-a];exact bz3 hi
  ·intro h k;obtain⟨i,hi,rfl⟩:=wD h;have:=k i hi;simp[eqW,wm,hi]at this
def disL (r:azn)(a:List (List Int)):Nat->List (List Int)
 |0=>[]
 |j+1=>if azx r (a.getD j qv)=true/\¬a.getD j qv∈disL r a j then disL r a j++[a.getD j qv]else disL r a j
theorem Ezg (r:azn)(a:List (List Int)):∀j,(disL r a j).length<=j
 |0=>wz _
 |j+1=>by
  have:=Ezg r a j;unfold disL;split
  ·simp;omega
  ·omega
theorem Gzx (r:azn)(a:List (List Int)):∀j x,x∈disL r a j->azx r x=true
 |0,_,h=>by cases h
 |j+1,x,h=>by
  unfold disL at h;split at h
  ·rename_i b;rcases xh.1 h with h|h
   ·exact Gzx r a j x h
   ·simp at h;subst h;exact b.1
  ·exact Gzx r a j x h
theorem Sz7 (r:azn)(a:List (List Int)):∀j,j<=a.length->((disL r a j).length=j↔∀i,i<j->azx r (a.getD i qv)=true/\¬a.getD i qv∈a.take i)/\((disL r a j).length=j->disL r a j=a.take j)
 |0,_=>⟨⟨λ_ i hi=>qa,λ_=>rfl⟩,λ_=>by simp[disL]⟩
 |j+1,m=>by
  obtain⟨k,g⟩:=Sz7 r a j qa;have n:=Ezg r a j;have d:(disL r a (j+1)).length=j+1->(disL r a j).length=j/\azx r (a.getD j qv)=true/\¬a.getD j qv∈disL r a j:=by
   intro h;unfold disL at h;split at h
   ·rename_i l;simp at h;exact⟨qa,l⟩
   ·omega
  refine⟨⟨λh i hi=>?_,λh=>?_⟩,λh=>?_⟩
  ·obtain⟨c,f,b⟩:=d h;by_cases e:i=j
   ·subst e;rw[g c]at b;exact⟨f,b⟩
   ·exact k.1 c i qa
  ·have c:=k.2 λi hi=>h i qa
   obtain⟨f,b⟩:=h j qa;unfold disL;rw[qc ⟨f,by rw[g c];exact b⟩];simp;omega
  ·obtain⟨c,f,b⟩:=d h;unfold disL;rw[qc ⟨f,b⟩,g c,<-czp qa]
theorem Lz6 (l:List Int)(h:l.length<4294967296):(bzr l).o=some l:=by
 show(dzb l).run NN=_;cases l with
 |nil=>rfl
 |cons a l=>
  simp only[dzb,qk];simp only[wB]at h;rw[aza (by simp),aza ⟨by simp only[w8,wB];omega,by simp only[w8,wB,azc];omega⟩];rfl
theorem hzm {r:azn}{c:List Int}(h:azx r c=true):c.length=r.Xa.length/\c.length<=10:=by
 unfold azx at h;simp only[qm,qf]at h;have:=(fz6 h.1).2.1;omega
theorem max_comm' (a b:Int):max a b=max b a:=qa
def badD (r:azn)(p q:List Int):Bool:= !(qw (p.length=r.Xa.length)&&(qw (q.length=r.Xa.length)&&(izy p&&(izy q&&qw (dz1 r=0)))))
def az9u (r:azn)(p q:List Int)(a:Int)(j:Nat):Int:=qu.wrap (a+qu.wrap ((r.Xa.getD j qv).XA * max (qu.wrap (q.getD j qv-p.getD j qv)) (qu.wrap (p.getD j qv-q.getD j qv))))
def sumD (r:azn)(p q:List Int):Nat->Int
 |0=>0
 |n+1=>az9u r p q (sumD r p q n) n
def dstV (r:azn)(p q:List Int):Int:=bif badD r p q then 0 else sumD r p q r.Xa.length
theorem Fzs (r:azn)(p q:List Int)(g:p.length<4294967296)(k:q.length<4294967296):(fz1 r p q).o=some (dstV r p q):=by
 show(ozp r p q).run NN=_;have i:(⟨r.Xa,r.Xi⟩:azn)=r:=rfl;simp only[ozp,qk,i,pzl p g,pzl q k,dzx,qL];unfold dstV badD;by_cases a:dz1 r=0
 ·have l:=(fz6 a).2.1;rw[bza a,qg a];cases izy p with
  |false=>simp only[qO,xp,qe,qd,az9,wP,wK]
  |true=>
   cases izy q with
   |false=>simp only[qO,xp,qe,qd,az9,wP,wK]
   |true=>
    simp only[qO,qd];by_cases c:p.length=r.Xa.length
    ·rw[bza qa];by_cases d:q.length=r.Xa.length
     ·have b:(((q.length:Nat):Int) !=((p.length:Nat):Int))=false:=by simp;omega
      rw[b,az9,qg c,qg d];simp only[qd,qS,qO];refine(bzv (λj=>(sumD r p q j,(j:Int))) (sumD r p q r.Xa.length) r.Xa.length rfl (by show _<4294967296;omega) (λj m=>?_) ?_).trans rfl
      ·have f:0<=(j:Int)/\(j:Int)<(r.Xa.length:Int):=qa
       have h:0<=(j:Int)/\(j:Int)<(p.length:Int):=qa
       have e:0<=(j:Int)/\(j:Int)<(q.length:Int):=qa
       rw[az8 qa];simp only[aza f,aza h,aza e,wn (show j<4294967296 from qa),qG];rw[max_comm'];rfl
      ·rw[az7 qa]
     ·have b:(((q.length:Nat):Int) !=((p.length:Nat):Int))=true:=by simp;omega
      rw[b,az9,qh d];simp only[qO,xp,qe,qd,az9,wP,wK]
    ·rw[bzn qa,az9,qh c];simp only[qO,xp,qe,qd,az9,wP,wK]
 ·rw[bzn a,az9,qh a];simp only[qO,xp,qe,qd,az9,wP,wK]
open Go.Proofs
def ltE (a b:az4):Bool:=qw (a.U<b.U\/(a.U=b.U/\a.V<b.V))
theorem wprd {n:Nat}(a:1<=n)(h:n<4294967296):qu.wrap ((n:Int)-1)=((n-1:Nat):Int):=by rw[w64 qa qa];omega
open Go.Proofs
open Go.Proofs
def RoB (r:azn):Prop:=1<=r.Xa.length/\r.Xa.length<=3/\∀j∈r.Xa,JB j
open Go.Proofs
def LtD (d:Nat->Int)(i j:Nat):Prop:=d i<d j\/(d i=d j/\i<j)
abbrev uzp (l:List Nat):List Int:=l.map λ(i:Nat)=>(i:Int)
theorem az0h {l:List Nat}{i:Nat}(h:i<l.length):(uzp l).getD i qv=((l.getD i qv:Nat):Int):=by
 simp[wm,wE h]
def ixs (a:Int)(n:Nat):List Nat:=(List.range n).filter λ(i:Nat)=> !((i:Int)==a)
theorem Xzu (a:Int)(n:Nat):ixs a (n+1)=if((n:Int)==a)=true then ixs a n else ixs a n++[n]:=by
 unfold ixs;rw[List.range_succ,xG];cases h:((n:Int)==a)<;>simp[h]
theorem azb3 {a:Int}{n i:Nat}(h:i∈ixs a n):i<n:=by
 unfold ixs at h;exact List.mem_range.1 (List.mem_filter.1 h).1
def dQ (r:azn)(a:List (List Int))(q:List Int)(i:Nat):Int:=dstV r (a.getD i qv) q
def OrdQ (d:Nat->Int)(a:Int)(n:Nat)(ns:List Nat):Prop:=ns.Perm (ixs a n)/\ns.Pairwise (LtD d)
theorem az46 (r:azn)(d:List (List Int))(q:List Int)(m:Int)(hp:d.length<=1000)(hn:∀c∈d,c.length<4294967296)(hq:q.length<4294967296):
 ∃l,(sz7 r d q m).o=some l/\∃ns,l=uzp ns/\OrdQ (dQ r d q) m d.length ns:=by
 show ∃l,(lzg r d q m).run NN=some l/\_;simp only[lzg,qk];have hlen:∀ {j:Nat} {ns:List Nat},OrdQ (dQ r d q) m j ns->ns.length<=j/\∀i∈ns,i<j:=λh=>by
  have w:=h.1.length_eq;refine⟨?_,λi hi=>azb3 (h.1.mem_iff.1 hi)⟩;rw[w];unfold ixs;exact wH (xI _ _) (by simp)
 refine dzz (P:=λl:List Int=>∃ns,l=uzp ns/\OrdQ (dQ r d q) m d.length ns)
  (λk (y:List Int×Int)=>∃j:Nat,y.2=(j:Int)/\j+k=d.length/\∃ns,y.1=uzp ns/\OrdQ (dQ r d q) m j ns)
  (λl:List Int=>∃ns,l=uzp ns/\OrdQ (dQ r d q) m d.length ns) d.length ⟨0,rfl,qa,[],rfl,List.Perm.nil,List.Pairwise.nil⟩ qa ?_ (λz g=>⟨_,rfl,g⟩)
 rintro k ⟨l,y⟩ ⟨j,hj,hjk,ns,D,v⟩;simp only at hj D⊢;subst hj;subst D;cases k with
 |zero=>
  obtain rfl:j=d.length:=qa
  exact .inr (.inl ⟨_,by rw[az7 qa],ns,rfl,v⟩)
 |succ k=>
  obtain⟨hl1,B⟩:=hlen v;rw[az8 qa,wn qa];by_cases c:(j:Int)=m
  ·rw[dzj c,az9];refine .inl ⟨_,k,rfl,xj k,j+1,rfl,qa,ns,rfl,?_,v.2⟩;rw[Xzu,qc (by simpa using c)];exact v.1
  ·have l1:=hn _ (bz3 (show j<d.length from qa));have hcl:(uzp ns).length=ns.length:=by simp
   rw[dze c,aza (by simp only[wB,w8,azc,hcl];omega),aza qa,aza qa,qG,Fzs r _ _ l1 hq];simp only[qL];generalize hA:andK _ _=A;obtain⟨s,e,C,rfl,w⟩:∃s,A=some s/\(∃C:List Int,s=Step3.out C/\∃ns,C=uzp ns/\OrdQ (dQ r d q) m (j+1) ns):=by
    rw[<-hA]
    refine dzz (λk' (y:List Int×Int)=>∃a b,y.2=((a.length:Nat):Int)/\a.length<=k'/\ns=a++b/\y.1=uzp a++(j:Int)::uzp b/\∀x∈b,dQ r d q j<dQ r d q x)
     (λC:List Int=>∃ns,C=uzp ns/\OrdQ (dQ r d q) m (j+1) ns) ns.length ⟨ns,[],by simp only[hcl],wz _,by simp,rfl,λx n=>by cases n⟩ qa ?_ (λz g=>⟨_,rfl,z,rfl,g⟩)
    rintro k' ⟨l2,y2⟩ ⟨a,b,hi,hik,f,u,hb⟩;simp only at hi u⊢;subst hi;subst u;have hab':ns.length=a.length+b.length:=by rw[f,xc]
    have hll:(uzp a++(j:Int)::uzp b).length=a.length+1+b.length:=by simp;omega
    have t:(∀x∈a,dQ r d q x<=dQ r d q j)->∃ns',uzp a++(j:Int)::uzp b=uzp ns'/\OrdQ (dQ r d q) m (j+1) ns':=λha=>by
     refine⟨a++j::b,by simp,?_,?_⟩
     ·rw[Xzu,qb (by simpa using c)];have w:=v.1;rw[f]at w;exact List.perm_middle.trans ((List.Perm.cons j w).trans (List.perm_append_singleton j _).symm)
     ·have E:=v.2;rw[f]at E;obtain⟨p1,p2,p3⟩:=xY.1 E;refine xY.2 ⟨p1,xZ.2 ⟨λx n=>.inl (hb x n),p2⟩,λx n y hy=>?_⟩;rcases wC.1 hy with rfl|hy
      ·have:=ha x n;have:=B x (by rw[f];exact List.mem_append_left _ n);unfold LtD;omega
      ·exact p3 x n y hy
    by_cases h0:a=[]
    ·subst h0;rw[az7 (by simp),az9];exact .inr (.inl ⟨_,rfl,t λx n=>by cases n⟩)
    ·obtain⟨p,x,rfl⟩:∃p x,a=p++[x]:=⟨a.dropLast,a.getLast h0,(List.dropLast_concat_getLast h0).symm⟩;have hal:(p++[x]).length=p.length+1:=by simp
     have n:=B x (by rw[f];simp);have l2':=hn _ (bz3 (show x<d.length from qa));have hg:(uzp (p++[x])++(j:Int)::uzp b).getD p.length qv=(x:Int):=by
      simp[wm,x7]
     have hg2:(uzp (p++[x])++(j:Int)::uzp b).getD (p.length+1) qv=(j:Int):=by
      simp[wm,x7]
     rw[hal]at hll⊢;rw[az8 qa,wprd qa qa,Nat.add_sub_cancel,aza qa,qG,aza qa,hg,aza qa,qG,aza qa,Fzs r _ _ l2' hq];simp only[qL,az9];by_cases hd:dstV r (d.getD j qv) q<dstV r (d.getD x qv) q
     ·rw[az8 hd,aza qa,aza qa,aza qa,qG,aza qa,aza qa,aza qa,aza (by rw[wx];omega),aza (by rw[wx];omega),hg2];refine .inl ⟨_,p.length,rfl,qa,p,x::b,rfl,wz _,by rw[f];simp,?_,λz g=>?_⟩
      ·simp
      ·rcases wC.1 g with rfl|g
       ·exact hd
       ·exact hb z g
     ·rw[az7 hd];refine .inr (.inl ⟨_,rfl,t λz g=>?_⟩);rcases xh.1 g with g|g
      ·have E:=v.2;rw[f,xo]at E;have:=(xY.1 E).2.2 z g x (by simp);unfold LtD at this;unfold dQ at *
       omega
      ·simp at g;subst g;unfold dQ;omega
   rw[e,az9];exact .inl ⟨_,k,rfl,xj k,j+1,rfl,qa,w⟩
def newE (r:azn)(a:List (List Int))(u v:Int):az4:=⟨u,v,dstV r (a.getD u.toNat qv) (a.getD v.toNat qv),0,⟨0,nl,⟨0,0,nl⟩,⟨0,nl,nl⟩⟩⟩
def hitE (u v:Int)(e:az4):Bool:=bif qw (e.U>u)then true else bif e.U==u then qw (e.V>=v)else false
def othE (u v:Int)(e:az4):Bool:=bif e.U !=u then true else e.V !=v
def insF (n:az4):List az4->List az4
 |[]=>[n]
 |e::t=>bif hitE n.U n.V e then(bif othE n.U n.V e then n::e::t else e::t)else e::insF n t
theorem Qz6 (n:az4):∀l,(insF n l).length<=l.length+1
 |[]=>wz _
 |e::t=>by
  have:=Qz6 n t;unfold insF;cases hitE n.U n.V e<;>cases othE n.U n.V e<;>simp<;>omega
theorem az56 (r:azn)(a:List (List Int))(d:List az4)(u v:Int)(w:∀c∈a,c.length<4294967296)(he:d.length<=1000000)(hu:0<=u/\u<(a.length:Int))(hv:0<=v/\v<(a.length:Int)):
 (Czu r a d u v).o=some (insF (newE r a (min u v) (max u v)) d):=by
 have la:=w _ (bz3 (show(min u v).toNat<a.length from qa));have lb:=w _ (bz3 (show(max u v).toNat<a.length from qa));obtain⟨N,h⟩:∃N,N=newE r a (min u v) (max u v):=⟨_,rfl⟩;have n:(⟨min u v,max u v,dstV r (a.getD (min u v).toNat qv) (a.getD (max u v).toNat qv),0,⟨0,nl,⟨0,0,nl⟩,⟨0,nl,nl⟩⟩⟩:az4)=N:=h.symm;have s:N.U=min u v:=by rw[h];rfl
 have hV:N.V=max u v:=by rw[h];rfl
 have hil:=Qz6 N d;have g:∃x,(uz4 r a d u v).run NN=some x/\x=insF N d:=by
  simp only[uz4,qk,Fzs r _ _ la lb,qL,bzd,az9,n]
  refine dzz (λk (y:List az4×Bool×Int)=>∃j:Nat,y.2.2=(j:Int)/\j+k=d.length/\y.1++(if y.2.1=true then d.drop j else insF N (d.drop j))=insF N d)
   (λy:List az4×Bool=>y.1++(if y.2=true then []else [N])=insF N d) d.length ⟨0,rfl,qa,by simp[nl]⟩ qa ?_ ?_
  ·rintro k ⟨l,p,y⟩ ⟨j,t,hjk,b⟩;simp only at t b⊢;subst t;have q:l.length<=1000001:=by
    have:=congrArg x8 b;rw[xc]at this;omega
   cases k with
   |zero=>
    obtain rfl:j=d.length:=qa
    refine .inr (.inl ⟨_,by rw[az7 qa],?_⟩);simp only;rw[List.drop_length]at b;exact b
   |succ k=>
    have hd:d.drop j=d.getD j qv::d.drop (j+1):=by
     rw[x9 qa,wm,wE qa,wF]
    rw[hd]at b;rw[az8 qa,aza qa,aza qa,qG,wn qa];generalize d.getD j qv=e at b⊢;have hh:(bif qw (e.U>min u v)then true else bif e.U==min u v then qw (e.V>=max u v)else false)=hitE N.U N.V e:=by rw[s,hV];rfl
    have ho:(bif e.U !=min u v then true else e.V !=max u v)=othE N.U N.V e:=by rw[s,hV];rfl
    simp only[hh,ho];cases p with
    |true=>
     simp only[qO,qd,az9];rw[aza (by simp only[wB,w8,azc];omega)];refine .inl ⟨_,k,rfl,xj k,j+1,rfl,qa,?_⟩;simp only[if_true,xo]at b⊢;exact b
    |false=>
     simp only[xp,qe];simp only[insF]at b;cases i:hitE N.U N.V e with
     |false=>
      rw[i]at b;simp only[qd,az9];rw[aza (by simp only[wB,w8,azc];omega)];refine .inl ⟨_,k,rfl,xj k,j+1,rfl,qa,?_⟩;simpa using b
     |true=>
      rw[i]at b;simp only[qe];cases m:othE N.U N.V e with
      |false=>
       rw[m]at b;simp only[qd,az9];rw[aza (by simp only[wB,w8,azc];omega)];refine .inl ⟨_,k,rfl,xj k,j+1,rfl,qa,?_⟩;simpa using b
      |true=>
       rw[m]at b;simp only[qe]
       rw[aza qa,aza qa,aza qa,aza qa,aza (by simp only[wB,w8,azc];omega),az9,
        aza (by simp only[xc,wB,w8,azc];omega)]
       refine .inl ⟨_,k,rfl,xj k,j+1,rfl,qa,?_⟩;simpa using b
  ·rintro⟨l,p⟩ b;simp only at b⊢;have q:l.length<=1000001:=by
    have:=congrArg x8 b;rw[xc]at this;omega
   cases p with
   |true=>
    simp only[qO,qd,az9];exact⟨_,rfl,by simpa using b⟩
   |false=>
    simp only[xp,qe];rw[aza qa,aza qa,aza qa,aza qa,aza (by simp only[wB,w8,azc];omega),az9];exact⟨_,rfl,by simpa using b⟩
 obtain⟨x,i,m⟩:=g;rw[<-h,<-m];exact i
open Go.Proofs
theorem Lz9 {a b:az4}:ltE a b=true↔a.U<b.U\/(a.U=b.U/\a.V<b.V):=by unfold ltE;rw[qf]
theorem hitE_iff {n e:az4}:hitE n.U n.V e=true↔¬ltE e n=true:=by
 rw[Lz9];unfold hitE;by_cases a:e.U>n.U
 ·rw[az8 a];simp;omega
 ·rw[az7 a];by_cases b:e.U=n.U
  ·rw[dzj b,qf];omega
  ·rw[dze b];simp;omega
theorem othE_iff {n e:az4}:othE n.U n.V e=true↔¬ (e.U=n.U/\e.V=n.V):=by
 unfold othE;by_cases a:e.U=n.U
 ·rw[bza a];simp[a]
 ·rw[bzn a];simp[a]
abbrev SoE (l:List az4):Prop:=l.Pairwise λa b=>ltE a b=true
theorem Qz7 (n:az4):∀l,SoE l->∀e,e∈insF n l↔e∈l\/(e=n/\∀x∈l,¬ (x.U=n.U/\x.V=n.V))
 |[],_,e=>by simp[insF]
 |x::t,m,e=>by
  obtain⟨k,j⟩:=xZ.1 m;have o:=Qz7 n t j e;unfold insF;cases d:hitE n.U n.V x with
  |false=>
   have g:ltE x n=true:=by
    refine za λh=>?_
    rw[hitE_iff.2 h]at d;cases d
   simp only[qd,wC,o];rw[Lz9]at g;constructor
   ·rintro(h|h|⟨h,c⟩)
    ·exact .inl (.inl h)
    ·exact .inl (.inr h)
    ·refine .inr ⟨h,λy a=>?_⟩;rcases a with rfl|a
     ·omega
     ·exact c y a
   ·rintro((h|h)|⟨h,c⟩)
    ·exact .inl h
    ·exact .inr (.inl h)
    ·exact .inr (.inr ⟨h,λy a=>c y (.inr a)⟩)
  |true=>
   have g:=hitE_iff.1 d;cases f:othE n.U n.V x with
   |false=>
    have b:x.U=n.U/\x.V=n.V:=by
     refine za λh=>?_
     rw[othE_iff.2 h]at f;cases f
    simp only[qe,qd];refine⟨λh=>.inl h,λh=>?_⟩;rcases h with h|⟨h,c⟩
    ·exact h
    ·exact absurd b (c x (xV ..))
   |true=>
    have b:=othE_iff.1 f;simp only[qe,wC];constructor
    ·rintro(h|h|h)
     ·refine .inr ⟨h,λy a=>?_⟩;rcases a with rfl|a
      ·exact b
      ·have:=k y a;rw[Lz9]at this g;omega
     ·exact .inl (.inl h)
     ·exact .inl (.inr h)
    ·rintro((h|h)|⟨h,-⟩)
     ·exact .inr (.inl h)
     ·exact .inr (.inr h)
     ·exact .inl h
theorem az1b (n:az4):∀l,SoE l->SoE (insF n l)
 |[],_=>List.pairwise_singleton ..
 |x::t,d=>by
  obtain⟨g,i⟩:=xZ.1 d;have j:=az1b n t i;have k:=Qz7 n t i;unfold insF;cases e:hitE n.U n.V x with
  |false=>
   have c:ltE x n=true:=by
    refine za λh=>?_
    rw[hitE_iff.2 h]at e;cases e
   simp only[qd];refine xZ.2 ⟨λy a=>?_,j⟩;rcases(k y).1 a with a|⟨rfl,-⟩
   ·exact g y a
   ·exact c
  |true=>
   have c:=hitE_iff.1 e;cases o:othE n.U n.V x with
   |false=>exact d
   |true=>
    have m:=othE_iff.1 o;simp only[qe];have b:ltE n x=true:=by rw[Lz9]at c⊢;omega
    refine xZ.2 ⟨λy a=>?_,d⟩;rcases wC.1 a with rfl|a
    ·exact b
    ·have:=g y a;rw[Lz9]at this b⊢;omega
def MapE (r:azn)(P:List (List Int))(S:Nat->Nat->Prop)(c:List az4):Prop:=SoE c/\∀e,e∈c↔∃a b:Nat,a<b/\b<P.length/\S a b/\e=newE r P a b
theorem MapE.congr {r:azn}{P:List (List Int)}{S i:Nat->Nat->Prop}{j:List az4}(h:MapE r P S j)(k:∀a b,a<b->b<P.length->(S a b↔i a b)):MapE r P i j:=
 ⟨h.1,λe=>(h.2 e).trans ⟨λ⟨a,b,c,d,g,f⟩=>⟨a,b,c,d,(k a b c d).1 g,f⟩,λ⟨a,b,c,d,g,f⟩=>⟨a,b,c,d,(k a b c d).2 g,f⟩⟩⟩
theorem MapE.nil (r:azn)(P:List (List Int)):MapE r P (λ_ _=>False) []:=⟨List.Pairwise.nil,λe=>⟨λh=>(by cases h),λ⟨_,_,_,_,h,_⟩=>h.elim⟩⟩
theorem MapE.ins {r:azn}{P:List (List Int)}{S:Nat->Nat->Prop}{l:List az4}(h:MapE r P S l){x y:Nat}(n:x<y)(q:y<P.length):MapE r P (λa b=>S a b\/(a=x/\b=y)) (insF (newE r P x y) l):=by
 refine⟨az1b _ _ h.1,λe=>(Qz7 _ _ h.1 e).trans ⟨?_,?_⟩⟩
 ·rintro(t|⟨rfl,-⟩)
  ·obtain⟨a,b,g,f,i,d⟩:=(h.2 e).1 t;exact⟨a,b,g,f,.inl i,d⟩
  ·exact⟨x,y,n,q,.inr ⟨rfl,rfl⟩,rfl⟩
 ·rintro⟨a,b,g,f,i|⟨rfl,rfl⟩,d⟩
  ·exact .inl ((h.2 e).2 ⟨a,b,g,f,i,d⟩)
  ·by_cases j:S a b
   ·exact .inl ((h.2 e).2 ⟨a,b,g,f,j,d⟩)
   ·refine .inr ⟨d,λz p m=>?_⟩;obtain⟨s,o,v,u,k,rfl⟩:=(h.2 z).1 p;simp only[newE]at m;have:s=a/\o=b:=qa
    rw[this.1,this.2]at k;exact j k
def cntD (d:Nat->Int)(a:Int)(n v:Nat):Nat:=((ixs a n).filter λw=>qw (d w<d v\/(d w=d v/\w<v))).length
theorem mem_ixs {a:Int}{n v:Nat}:v∈ixs a n↔v<n/\(v:Int)≠a:=by unfold ixs;simp
theorem Lzo {d:Nat->Int}{g:Int}{n:Nat}{ns:List Nat}(h:OrdQ d g n ns){v:Nat}(l:v∈ns):∃a b,ns=a++v::b/\a.length=cntD d g n v/\¬v∈a:=by
 obtain⟨a,b,rfl⟩:=List.append_of_mem l;obtain⟨q,o⟩:=h;obtain⟨r,p,f⟩:=xY.1 o;have i:=(xZ.1 p).1;refine⟨a,b,rfl,?_,λm=>?_⟩
 ·unfold cntD;rw[<-(q.filter _).length_eq,xG,xH];have j:a.filter (λw=>qw (d w<d v\/(d w=d v/\w<v)))=a:=List.filter_eq_self.2 λw e=>by
   have:=f w e v (xV ..);exact qg this
  have k:b.filter (λw=>qw (d w<d v\/(d w=d v/\w<v)))=[]:=List.filter_eq_nil_iff.2 λw e=>by
   have:=i w e;unfold LtD at this;rw[qf];omega
  rw[j,k,qb (by simp)];simp
 ·have:=f v m v (xV ..);unfold LtD at this;omega
theorem Tze {d:Nat->Int}{e:Int}{n:Nat}{ns:List Nat}(h:OrdQ d e n ns){v i:Nat}:v∈ns.take i↔v∈ixs e n/\cntD d e n v<i:=by
 constructor
 ·intro f;have c:=zb f;refine⟨h.1.mem_iff.1 c,?_⟩;obtain⟨a,b,rfl,g,l⟩:=Lzo h c;rw[<-g];refine za λq=>l ?_
  rw[List.take_append_of_le_length qa]at f;exact zb f
 ·rintro⟨j,g⟩;obtain⟨a,b,rfl,o,p⟩:=Lzo h (h.1.mem_iff.2 j);rw[List.take_append];obtain⟨m,k⟩:∃m,i-a.length=m+1:=⟨i-a.length-1,qa⟩;rw[k,List.take_succ_cons];exact List.mem_append_right _ (xV ..)
theorem azai {d:Nat->Int}{c:Int}{n:Nat}{ns:List Nat}(h:OrdQ d c n ns){v:Nat}(e:v∈ixs c n):cntD d c n v<ns.length:=by
 obtain⟨a,b,rfl,f,g⟩:=Lzo h (h.1.mem_iff.2 e);rw[xc,wB];omega
def Ez9 (r:azn)(P:List (List Int))(k:Int)(u v:Nat):Prop:=v∈ixs (u:Int) P.length/\(cntD (dQ r P (P.getD u qv)) (u:Int) P.length v:Int)<k
def az06 (r:azn)(P:List (List Int))(k:Int)(a b:Nat):Prop:=Ez9 r P k a b\/Ez9 r P k b a
theorem az2n (l:List (List Int))(c:List Int)(e:l.length<4294967296)(a:∀x∈l,x.length<4294967296):∃z,(qzx l c).o=some z/\qw (z<0)= !memB l c:=by
 obtain⟨z,d,b⟩:=az2m l c e a;exact⟨z,d,by rw[<-b,qY];simp⟩
theorem Yz0 (r:azn)(d:List (List Int))(k:Int)(hp:d.length<=1000)(hn:∀c∈d,c.length<4294967296):
 ∃m,(uz2 r d k).o=some m/\(dz1 r≠0->m=⟨[],[]⟩)/\(dz1 r=0->m.Xb=disL r d d.length/\∃f,m.Xd=f.take 8192/\f.length<=m.Xb.length * m.Xb.length/\MapE r m.Xb (az06 r m.Xb k) f):=by
 show ∃m,(uz3 r d k).run NN=some m/\_;have er:(⟨r.Xa,r.Xi⟩:azn)=r:=rfl;simp only[uz3,qk,er,dzx,nze,qL];by_cases hr:dz1 r≠0
 ·rw[bzn hr];exact⟨_,rfl,λ_=>rfl,λh=>absurd h hr⟩
 have hr:dz1 r=0:=Classical.not_not.1 hr;rw[bza hr]
 refine dzz (x:=((nl:List (List Int)),(0:Int))) (P:=λm:azi=>(dz1 r≠0->m=⟨[],[]⟩)/\(dz1 r=0->m.Xb=disL r d d.length/\∃f,m.Xd=f.take 8192/\f.length<=m.Xb.length * m.Xb.length/\MapE r m.Xb (az06 r m.Xb k) f))
  (λm (y:List (List Int)×Int)=>∃j:Nat,y.2=(j:Int)/\j+m=d.length/\y.1=disL r d j) (λz:List (List Int)=>z=disL r d d.length) d.length ⟨0,rfl,qa,rfl⟩ qa ?_ ?_
 ·rintro m ⟨l,y⟩ ⟨j,hj,hjm,hl⟩;simp only at hj hl⊢;subst hj;subst hl;have hlen:=Ezg r d j;cases m with
  |zero=>
   obtain rfl:j=d.length:=qa
   rw[az7 qa,az9];exact .inr (.inl ⟨_,rfl,rfl⟩)
  |succ m=>
   have hin:=Gzx r d j;have hs:disL r d (j+1)=if azx r (d.getD j qv)=true/\¬d.getD j qv∈disL r d j then disL r d j++[d.getD j qv]else disL r d j:=rfl
   have hc:=hn _ (bz3 (show j<d.length from qa));rw[az8 qa,qg (p:=((disL r d j).length:Int)<1024) qa,az9];simp only[qe];rw[aza qa,wn qa,qG];generalize d.getD j qv=c at hs hc⊢;cases t:azx r c with
   |false=>
    simp only[qd,az9];refine .inl ⟨_,m,rfl,xj m,j+1,rfl,qa,?_⟩;rw[hs,qb (λh=>by rw[t]at h;cases h.1)]
   |true=>
    obtain⟨z,z1,z2⟩:=az2n (disL r d j) c qa (λx hx=>by have:=hzm (hin x hx);omega);simp only[qe];rw[aza qa,z1];simp only[qL,az9,z2];by_cases hm:c∈disL r d j
    ·have:memB (disL r d j) c=true:=qg hm;rw[this];simp only[qO,qd,az9];refine .inl ⟨_,m,rfl,xj m,j+1,rfl,qa,?_⟩;rw[hs,qb (λh=>h.2 hm)]
    ·have:memB (disL r d j) c=false:=qh hm;rw[this];simp only[xp,qe];rw[aza qa,aza (by rw[azc];omega),aza (by simp only[wB,w8,azc];omega),az9];refine .inl ⟨_,m,rfl,xj m,j+1,rfl,qa,?_⟩;rw[hs,qc ⟨t,hm⟩]
 ·rintro P hP;have hPl:P.length<=1000:=by have:=Ezg r d d.length;rw[hP];omega
  have hPn:∀c∈P,c.length<4294967296:=λc hc=>by rw[hP]at hc;have:=hzm (Gzx r d _ c hc);omega
  refine dzz (x:=((nl:List az4),(0:Int))) (P:=λm:azi=>(dz1 r≠0->m=⟨[],[]⟩)/\(dz1 r=0->m.Xb=disL r d d.length/\∃f,m.Xd=f.take 8192/\f.length<=m.Xb.length * m.Xb.length/\MapE r m.Xb (az06 r m.Xb k) f))
   (λm (y:List az4×Int)=>∃u:Nat,y.2=(u:Int)/\u+m=P.length/\y.1.length<=P.length * u/\MapE r P (λa b=>(a<u/\Ez9 r P k a b)\/(b<u/\Ez9 r P k b a)) y.1)
   (λf:List az4=>f.length<=P.length * P.length/\MapE r P (az06 r P k) f) P.length ⟨0,rfl,qa,by simp[nl],(MapE.nil r P).congr λa b _ _=>by simp⟩ qa ?_ ?_
  ·rintro m ⟨f,y⟩ ⟨u,hu,hum,q,n⟩;simp only at hu q n⊢;subst hu;cases m with
   |zero=>
    obtain rfl:u=P.length:=qa
    rw[az7 qa];exact .inr (.inl ⟨_,rfl,q,n.congr λa b t h2=>by unfold az06;constructor<;>rintro(h|h)<;>first|exact .inl h.2|exact .inr h.2|exact .inl ⟨qa,h⟩|exact .inr ⟨qa,h⟩⟩)
   |succ m=>
    rw[az8 qa,aza qa,qG,aza qa,wn qa];obtain⟨l,e1,ns,rfl,ho⟩:=az46 r P (P.getD u qv) (u:Int) hPl hPn (hPn _ (bz3 qa));rw[e1];simp only[qL];have hnl:ns.length<=P.length:=by
     rw[ho.1.length_eq];unfold ixs;exact wH (xI _ _) (by simp)
    suffices hi:∃s,_=some s/\(∃g:List az4,s=Step3.next (g,((u+1:Nat):Int))/\g.length<=P.length * (u+1)/\MapE r P (λa b=>(a<u+1/\Ez9 r P k a b)\/(b<u+1/\Ez9 r P k b a)) g) by
     obtain⟨s,e,g,rfl,k1,k2⟩:=hi;exact .inl ⟨_,m,e,xj m,u+1,rfl,qa,k1,k2⟩
    refine dzz (λm' (y:List az4×Int)=>∃i:Nat,y.2=(i:Int)/\i+m'=ns.length/\((i:Int)<=k\/i=0)/\y.1.length<=P.length * u+i/\MapE r P (λa b=>((a<u/\Ez9 r P k a b)\/(b<u/\Ez9 r P k b a))\/(a=u/\b∈ns.take i)\/(b=u/\a∈ns.take i)) y.1)
     (λg:List az4=>g.length<=P.length * (u+1)/\MapE r P (λa b=>(a<u+1/\Ez9 r P k a b)\/(b<u+1/\Ez9 r P k b a)) g) ns.length ⟨0,rfl,qa,.inr rfl,by simp only;omega,n.congr λa b _ _=>by simp⟩ qa ?_ (λz hz=>⟨_,rfl,z,rfl,hz⟩)
    rintro m' ⟨es2,y2⟩ ⟨i,hi,him,hik,hel2,w⟩;simp only at hi hel2 w⊢;subst hi;have hcl:(uzp ns).length=ns.length:=by simp
    have hsq:P.length * u<=1000 * 990+10000-1000:=by
     have t:P.length * u<=P.length * (P.length-1):=Nat.mul_le_mul_left _ qa;have h2:P.length * (P.length-1)<=1000 * 999:=Nat.mul_le_mul hPl qa;omega
    have stop:(i=ns.length\/k<=(i:Int))->es2.length<=P.length * (u+1)/\MapE r P (λa b=>(a<u+1/\Ez9 r P k a b)\/(b<u+1/\Ez9 r P k b a)) es2:=λhs=>by
     have key:∀v,v∈ns.take i↔Ez9 r P k u v:=λv=>by
      rw[Tze ho];unfold Ez9;constructor
      ·rintro⟨t,h2⟩;exact⟨t,qa⟩
      ·rintro⟨t,h2⟩;have:=azai ho t;exact⟨t,qa⟩
     refine⟨by rw[Nat.mul_succ];omega,w.congr λa b t h2=>?_⟩;rw[key,key];constructor
     ·rintro((h|h)|⟨rfl,h⟩|⟨rfl,h⟩)
      ·exact .inl ⟨qa,h.2⟩
      ·exact .inr ⟨qa,h.2⟩
      ·exact .inl ⟨qa,h⟩
      ·exact .inr ⟨qa,h⟩
     ·rintro(⟨h,h'⟩|⟨h,h'⟩)
      ·by_cases e:a=u
       ·subst e;exact .inr (.inl ⟨rfl,h'⟩)
       ·exact .inl (.inl ⟨qa,h'⟩)
      ·by_cases e:b=u
       ·subst e;exact .inr (.inr ⟨rfl,h'⟩)
       ·exact .inl (.inr ⟨qa,h'⟩)
    by_cases c1:i<ns.length
    ·by_cases c2:(i:Int)<k
     ·have hv:=bz3 c1;have hvx:=mem_ixs.1 (ho.1.mem_iff.1 hv);have hg:=az0h c1;rw[az8 qa,qg c2,az9];simp only[qe];rw[aza qa,qG,hg,az56 r P es2 u _ hPn qa qa qa,wn qa];simp only[qL];have hil:=Qz6 (newE r P (min (u:Int) ((ns.getD i qv:Nat):Int)) (max (u:Int) ((ns.getD i qv:Nat):Int))) es2;have ht:ns.take (i+1)=ns.take i++[ns.getD i qv]:=czp c1;refine .inl ⟨_,m'-1,rfl,qa,i+1,rfl,qa,.inl qa,by simp only;omega,?_⟩;simp only;rw[ht];generalize ns.getD i qv=v at *
      have hmn:min (u:Int) (v:Int)=((min u v:Nat):Int):=qa
      have hmx:max (u:Int) (v:Int)=((max u v:Nat):Int):=qa
      rw[hmn,hmx];refine(w.ins (x:=min u v) (y:=max u v) qa qa).congr λa b t h2=>?_
      simp only[xh,wO];constructor
      ·rintro((h|⟨rfl,h⟩|⟨rfl,h⟩)|h)
       ·exact .inl h
       ·exact .inr (.inl ⟨rfl,.inl h⟩)
       ·exact .inr (.inr ⟨rfl,.inl h⟩)
       ·by_cases huv:u<v
        ·exact .inr (.inl ⟨qa,.inr qa⟩)
        ·exact .inr (.inr ⟨qa,.inr qa⟩)
      ·rintro(h|⟨rfl,h|h⟩|⟨rfl,h|h⟩)
       ·exact .inl (.inl h)
       ·exact .inl (.inr (.inl ⟨rfl,h⟩))
       ·exact .inr qa
       ·exact .inl (.inr (.inr ⟨rfl,h⟩))
       ·exact .inr qa
     ·rw[az8 qa,qh c2,az9];exact .inr (.inl ⟨_,rfl,stop (.inr qa)⟩)
    ·rw[az7 qa,az9];exact .inr (.inl ⟨_,rfl,stop (.inl qa)⟩)
  ·rintro f ⟨q,n⟩;by_cases h:((f.length:Nat):Int)>8192
   ·rw[az8 h,aza qa,az9];exact⟨_,rfl,λh=>absurd hr h,λ_=>⟨hP,f,rfl,q,n⟩⟩
   ·rw[az7 h,az9];exact⟨_,rfl,λh=>absurd hr h,λ_=>⟨hP,f,(List.take_of_length_le (by simp only;omega)).symm,q,n⟩⟩
open Go.Proofs
theorem Szt {r:azn}{p:List Int}(c:dz1 r=0)(a:azx r p=true){i:Nat}(hi:i<r.Xa.length): -4194304<=p.getD i qv/\p.getD i qv<=4194304:=by
 have e:=(iz9 a).2.1;unfold azx at a;simp only[qm,noneB_iff]at a;have b:=a.2.2 i qa;unfold outJ at b;simp only[qp,qi]at b;have f:=(fz3 c hi).lim;have d:=Bzc (r.Xa.getD i qv).Xl;omega
def sumI (r:azn)(p q:List Int):Nat->Int
 |0=>0
 |n+1=>sumI r p q n+(r.Xa.getD n qv).XA * max (q.getD n qv-p.getD n qv) (p.getD n qv-q.getD n qv)
theorem Uzw {r:azn}(b:dz1 r=0){i:Nat}(hi:i<r.Xa.length):1<=(r.Xa.getD i qv).XA/\(r.Xa.getD i qv).XA<=1024:=by
 have a:=(fz3 b hi).cost;unfold Sz6 betV at a;simp only[qm,qf]at a;exact a.1
theorem azc4 {r:azn}{p q:List Int}(d:dz1 r=0)(h:azx r p=true)(e:azx r q=true):∀n,n<=r.Xa.length->sumD r p q n=sumI r p q n/\0<=sumI r p q n/\sumI r p q n<=(n:Int) * 8589934592
 |0,_=>⟨rfl,Int.le_refl _,by show(0:Int)<=_;omega⟩
 |n+1,A=>by
  obtain⟨a,b,c⟩:=azc4 d h e n qa;obtain⟨z,f⟩:=Uzw d (i:=n) qa;have u:=Szt d h (i:=n) qa;have m:=Szt d e (i:=n) qa;have B:=(fz6 d).2.1;have w:sumD r p q (n+1)=az9u r p q (sumD r p q n) n:=rfl;have l:sumI r p q (n+1)=sumI r p q n+(r.Xa.getD n qv).XA * max (q.getD n qv-p.getD n qv) (p.getD n qv-q.getD n qv):=rfl;rw[w,l,a];unfold az9u;generalize (r.Xa.getD n qv).XA=W at z f⊢;generalize p.getD n qv=x at u⊢;generalize q.getD n qv=y at m⊢;generalize sumI r p q n=s at b c⊢;rw[w64 (x:=y-x) qa qa,w64 (x:=x-y) qa qa];obtain⟨M,o,g,k⟩:∃M:Int,max (y-x) (x-y)=M/\0<=M/\M<=8388608:=⟨_,rfl,qa,qa⟩;rw[o];have j:0<=W * M:=Int.mul_nonneg qa g;have v:W * M<=1024 * 8388608:=Int.mul_le_mul f k g (by decide);generalize W * M=t at j v⊢;rw[w64 (x:=t) qa qa,w64 (x:=s+t) qa qa];omega
theorem az3n {r:azn}(a:dz1 r=0)(p m q:List Int):∀n,n<=r.Xa.length->sumI r p q n<=sumI r p m n+sumI r m q n
 |0,_=>by show(0:Int)<=0+0;decide
 |n+1,e=>by
  have d:=az3n a p m q n qa;obtain⟨c,-⟩:=Uzw a (i:=n) qa;simp only[sumI];generalize (r.Xa.getD n qv).XA=W at c⊢;have h:max (q.getD n qv-p.getD n qv) (p.getD n qv-q.getD n qv)<=max (m.getD n qv-p.getD n qv) (p.getD n qv-m.getD n qv)+max (q.getD n qv-m.getD n qv) (m.getD n qv-q.getD n qv):=qa
  have:=Int.mul_le_mul_of_nonneg_left h (show 0<=W from qa);rw[Int.mul_add]at this;omega
theorem Yzn (r:azn)(p:List Int):∀n,sumI r p p n=0
 |0=>rfl
 |n+1=>by simp[sumI,Yzn r p n]
open Go.Proofs
theorem Zz4 (l:List czx)(h:l.length<4294967296):(gzv l).o=some l:=by
 show(ezu l).run NN=_;cases l with
 |nil=>rfl
 |cons a l=>
  simp only[ezu,qk];simp only[wB]at h;rw[aza (by simp),aza ⟨by simp only[w8,wB];omega,by simp only[w8,wB,azc];omega⟩];rfl
theorem Vzd (l:List azq)(h:l.length<4294967296):(fzh l).o=some l:=by
 show(dzm l).run NN=_;cases l with
 |nil=>rfl
 |cons a l=>
  simp only[dzm,qk];simp only[wB]at h;rw[aza (by simp),aza ⟨by simp only[w8,wB];omega,by simp only[w8,wB,azc];omega⟩];rfl
theorem Zz3 (l:List Int)(h:l.length<4294967296):(lzw l).o=some l:=by
 show(hzw l).run NN=_;cases l with
 |nil=>rfl
 |cons a l=>
  simp only[hzw,qk];simp only[wB]at h;rw[aza (by simp),aza ⟨by simp only[w8,wB];omega,by simp only[w8,wB,azc];omega⟩];rfl
theorem Pzc (p:azq)(h:PkF p):(rzx p).o=some (p.Xw,p.Xv):=by
 obtain⟨e,d,b⟩:=h;show(lz4 p).run NN=_;simp only[lz4,qk,Zz4 p.Xv qa,qL];refine(bzv (λj=>(p.Xv,(j:Int))) p.Xv p.Xv.length rfl (show p.Xv.length<4294967296 from qa) (λj a=>?_) ?_).trans ?_
 ·have c:=b _ (bz3 a);rw[az8 (by simpa using a),aza ⟨by simp,by simpa using a⟩];simp only[qG];rw[aza a,Zz3 _ qa,qL,aza ⟨qa,qa⟩,aza ⟨a,qa⟩,wn qa];exact congrArg (λx=>some (Step3.next (x,((j+1:Nat):Int)))) (Bzi a)
 ·rw[az7 (by simp)]
 ·rw[Sz2 p.Xw qa];rfl
theorem Vzb (p:czy)(h:PaF p):(Izm p).o=some (p.Xb,p.Xd):=by
 obtain⟨f,d,e,c⟩:=h;show(zzn p).run NN=_;simp only[zzn,qk,Vzd p.Xd qa,qL];refine(bzv (λj=>(p.Xd,j,(j:Int))) p.Xd p.Xd.length rfl (show p.Xd.length<4294967296 from qa) (λj a=>?_) ?_).trans ?_
 ·rw[az8 (by simpa using a),aza ⟨by simp,by simpa using a⟩];simp only[qG];rw[aza ⟨wz _,a⟩,Pzc _ (c _ (bz3 a)),qL,aza ⟨qa,qa⟩,aza a,aza trivial,wn qa];exact congrArg (λx=>some (Step3.next (x,j+1,((j+1:Nat):Int)))) (Bzi a)
 ·rw[az7 (by simp),aza rfl]
 ·rw[Pze p.Xb qa (λx b=>by have:=d x b;omega)];rfl
open Go.Proofs
section
variable {α:Type} [Inhabited α]
def swK (l:List α):Nat->List α
 |0=>l
 |k+1=>((swK l k).set k ((swK l k).getD (l.length-1-k) qv)).set (l.length-1-k) ((swK l k).getD k qv)
theorem Mzq (l:List α):∀k,(swK l k).length=l.length
 |0=>rfl
 |k+1=>by simp[swK,Mzq l k]
theorem Szo {l:List α}{i j:Nat}{v:α}(b:j<l.length):(l.set i v).getD j qv=if j=i then v else l.getD j qv:=by
 simp only[wm,xW];by_cases e:i=j
 ·subst e;simp[b]
 ·rw[qb e,qb (λh=>e h.symm)]
theorem az3o (l:List α):∀k,k<=l.length / 2->∀i,i<l.length->(swK l k).getD i qv=if i<k\/l.length-k<=i then l.getD (l.length-1-i) qv else l.getD i qv
 |0,_,i,hi=>by rw[qb qa];rfl
 |k+1,g,i,hi=>by
  have a:=az3o l k qa;have d:=Mzq l k;simp only[swK];rw[Szo (by simp[d];exact hi),Szo (by rw[d];exact hi),a k qa,a _ qa,a i hi];by_cases b:i=l.length-1-k
  ·rw[qc b,qb qa,qc qa,show l.length-1-i=k from qa]
  ·rw[qb b];by_cases c:i=k
   ·subst c;rw[qc rfl,qb qa,qc qa]
   ·rw[qb c];by_cases e:i<k\/l.length-k<=i
    ·rw[qc e,qc qa]
    ·rw[qb e,qb qa]
theorem az9w (l:List α):swK l (l.length / 2)=l.reverse:=by
 refine xX (by simp[Mzq]) λi b e=>?_
 have hi:i<l.length:=by rw[Mzq]at b;exact b
 have:=az3o l _ (wz _) i hi;rw[wm,wE b,wF]at this;rw[this,List.getElem_reverse];by_cases c:i<l.length / 2\/l.length-l.length / 2<=i
 ·rw[qc c,wm,wE qa,wF]
 ·rw[qb c,wm,wE hi,wF];congr 1;omega
theorem Rz8 {R:Type}{f:List α×Int×Int->Option (Step3 (List α×Int×Int) (List α) R)}{k:List α->Option R}(l:List α)(g:l.length<4294967296)
 (c:∀ (X:List α) (i j:Nat),X.length=l.length->i<j->j<l.length->f (X,(i:Int),(j:Int))=some (.next (((X.set i (X.getD j qv)).set j (X.getD i qv)),qu.wrap ((i:Int)+1),qu.wrap ((j:Int)-1))))
 (b:∀ (X:List α) (i j:Int),¬i<j->f (X,i,j)=some (.out X)):andK (iter f NN (l,0,qu.wrap (((l.length:Nat):Int)-1))) k=k l.reverse:=by
 rw[w64 qa qa,<-az9w l];refine bzv (λj=>(swK l j,(j:Int),((l.length:Nat):Int)-1- (j:Int))) _ (l.length / 2) ?_ (show l.length / 2<4294967296 from qa) (λj d=>?_) ?_
 ·simp only[swK];simp
 ·have e:((l.length:Nat):Int)-1- (j:Int)=((l.length-1-j:Nat):Int):=qa
  rw[e,c _ j (l.length-1-j) (Mzq l j) qa qa,w64 qa qa,w64 qa qa];simp only[swK];congr 4;omega
 ·exact b _ _ _ qa
def mapK (g:α->α)(l:List α)(k:Nat):List α:=(l.take k).map g++l.drop k
omit [Inhabited α]in
theorem Qzd (g:α->α)(l:List α)(k:Nat):(mapK g l k).length=l.length:=by simp[mapK];omega
theorem Qzc (g:α->α)(l:List α){k:Nat}(h:k<l.length):(mapK g l k).getD k qv=l.getD k qv:=by
 simp only[mapK,wm];rw[List.getElem?_append_right (by simp;omega)];simp[show k-min k l.length=0 from qa]
theorem Xzx (g:α->α)(l:List α){k:Nat}(h:k<l.length):(mapK g l k).set k (g (l.getD k qv))=mapK g l (k+1):=by
 simp only[mapK];rw[List.set_append_right _ _ (by simp;omega)];have e:k- ((l.take k).map g).length=0:=by simp;omega
 have b:l.take (k+1)=l.take k++[l[k]]:=by rw[xF,wE h];rfl
 rw[e,x9 h,List.set_cons_zero,b,xM,xo];simp[wm,wE h]
omit [Inhabited α]in
theorem Xzw (g:α->α)(l:List α):mapK g l l.length=l.map g:=by simp[mapK]
end
theorem az2y (l:List (List Int))(a:l.length<4294967296):(iz4 l).o=some l.reverse:=by
 show(fzb l).run NN=_;simp only[fzb,qk];refine Rz8 l a (λX i j c b d=>?_) (λX i j h=>by rw[az7 h]);simp only[qG,wx];rw[az8 qa,aza qa,aza qa,aza qa,aza qa,aza qa,aza qa,aza qa,aza qa]
theorem az5s (l:List czx)(a:l.length<4294967296):(gz9 l).o=some l.reverse:=by
 show(ezg l).run NN=_;simp only[ezg,qk];refine Rz8 l a (λX i j c b d=>?_) (λX i j h=>by rw[az7 h]);simp only[qG,wx];rw[az8 qa,aza qa,aza qa,aza qa,aza qa,aza qa,aza qa,aza qa,aza qa]
theorem az2z (l:List azq)(a:l.length<4294967296):(ezz l).o=some l.reverse:=by
 show(dza l).run NN=_;simp only[dza,qk];refine Rz8 l a (λX i j c b d=>?_) (λX i j h=>by rw[az7 h]);simp only[qG];rw[az8 qa,aza qa,aza qa,aza qa,aza qa,aza qa,aza qa,aza qa]
def revU (u:czx):czx:=if 0<=u.Xg/\u.Xg<=20 then⟨u.Xg,qu.wrap (2 ^ u.Xg.toNat-1-u.Xh),u.Xn⟩else u
def revK (y:azq):azq:=⟨y.Xw,y.Xv.reverse.map revU⟩
def revP (x:czy):czy:=⟨x.Xb.reverse,x.Xd.reverse.map revK⟩
theorem azcu {d:Int}(h:0<=d/\d<=20)(i:Int):qu.wrap (qu.wrap (qu.wrap (1 * 2 ^ (min d.toNat 64))-1)-i)=qu.wrap (2 ^ d.toNat-1-i):=by
 have:=pow9 h.1 h.2;rw[show min d.toNat 64=d.toNat from qa,wu,w64 (x:=2 ^ d.toNat) qa qa,w64 (x:=2 ^ d.toNat-1) qa qa]
theorem az07 (x:czy)(h:PaF x):(Czi x).o=some (revP x):=by
 obtain⟨n,s,r,l⟩:=h;show(tzf x).run NN=_;have ex:(⟨x.Xb,x.Xd⟩:czy)=x:=rfl;simp only[tzf,qk,ex,Vzb x ⟨n,s,r,l⟩,az2y x.Xb qa,az2z x.Xd qa,qL];have e:x.Xd.reverse.length=x.Xd.length:=by simp
 have d:∀y∈x.Xd.reverse,PkF y:=λy p=>l y (by simpa using p)
 unfold revP;generalize x.Xd.reverse=E at e d;refine(bzv (λj=>(mapK revK E j,(j:Int))) (E.map revK) E.length (by simp[mapK]) (show E.length<4294967296 from qa) (λj f=>?_) ?_).trans rfl
 ·obtain⟨w,t,A⟩:=d _ (bz3 f);have v:=Qzd revK E j;rw[az8 qa,qG];simp only;rw[aza qa,aza qa,Qzc revK E f,az5s _ qa,qL];have g:(E.getD j qv).Xv.reverse.length=(E.getD j qv).Xv.length:=by simp
  refine(bzv (λi=>(mapK revU (E.getD j qv).Xv.reverse i,(i:Int))) ((E.getD j qv).Xv.reverse.map revU) (E.getD j qv).Xv.reverse.length (by simp[mapK]) (show(E.getD j qv).Xv.reverse.length<4294967296 from qa) (λi hi=>?_) ?_).trans ?_
  ·generalize (E.getD j qv).Xv.reverse=U at hi g;have q:=Qzd revU U i;rw[az8 qa,qG];simp only;rw[aza qa,aza qa,Qzc revU U hi];generalize m:U.getD i qv=u;have a:=Xzx revU U hi;rw[m]at a;by_cases c:0<=u.Xg/\u.Xg<=20
   ·rw[qg c.1,qg c.2];simp only[qe,az9];rw[aza c.1,aza qa,aza ⟨qa,Nat.zero_le _⟩,azcu c,az9,wn qa];rw[show revU u=⟨u.Xg,qu.wrap (2 ^ u.Xg.toNat-1-u.Xh),u.Xn⟩from qc c]at a;rw[a]
   ·rw[show revU u=u from qb c]at a;have b:mapK revU U i=mapK revU U (i+1):=by
     rw[<-a,<-m,<-Qzc revU U hi,Bzi qa]
    by_cases k:u.Xg>=0
    ·rw[qg k,qh (show ¬u.Xg<=20 from qa)];simp only[qe,qd,az9];rw[wn qa,<-b]
    ·rw[qh k];simp only[qd,az9];rw[wn qa,<-b]
  ·have q:=Qzd revU (E.getD j qv).Xv.reverse (E.getD j qv).Xv.reverse.length;rw[az7 qa,Xzw]
  ·rw[wn qa];exact congrArg (λz=>some (Step3.next (z,((j+1:Nat):Int)))) (Xzx revK E f)
 ·rw[az7 (by rw[e];omega),Xzw]
open Go.Proofs
theorem Uza (u:czx):(revU u).Xn=u.Xn:=by unfold revU;split<;>rfl
theorem azbt {y:azq}(h:PkF y):PkF (revK y):=by
 obtain⟨d,c,b⟩:=h;refine⟨d,by simpa[revK]using c,λu e=>?_⟩;obtain⟨v,a,rfl⟩:=zd.1 e;rw[Uza];exact b v (by simpa using a)
theorem az4q {a:Type}[Inhabited a]{l:List a}{i:Nat}(h:i<l.length):l.reverse.getD i qv=l.getD (l.length-1-i) qv:=by
 rw[wm,wm,List.getElem?_reverse h]
theorem zz4 {a β:Type}[Inhabited a][Inhabited β]{g:a->β}{l:List a}{i:Nat}(h:i<l.length):(l.map g).getD i qv=g (l.getD i qv):=by
 simp[wm,wE h]
theorem az05 {y:azq}(h:(ez1 y).2=true)(f:Rzo (ez1 y).1):(ez1 (revK y)).2=true/\MirL (ez1 y).1 (ez1 (revK y)).1:=by
 have a:y.Xv.all (λu=>u.Xn.all (okN y.Xw))=true:=by
  unfold ez1 at h;split at h
  ·assumption
  ·cases h
 have l:ez1 y=(y.Xv.map (unU y.Xw),true):=by unfold ez1;rw[qc a]
 have c:(revK y).Xv.all (λu=>u.Xn.all (okN (revK y).Xw))=true:=by
  rw[ql]at a⊢;intro u k;obtain⟨v,o,rfl⟩:=zd.1 k;rw[Uza];exact a v (by simpa using o)
 have g:ez1 (revK y)=((revK y).Xv.map (unU y.Xw),true):=by unfold ez1;rw[qc c];rfl
 rw[l]at f⊢;rw[g];refine⟨rfl,by simp[revK],λj e=>?_⟩;simp only[zf]at e;have b:y.Xv.length-1-j<y.Xv.length:=qa
 have m:(revK y).Xv=y.Xv.reverse.map revU:=rfl;simp only[zf];rw[m,zz4 (by simpa using e),zz4 (by simpa using e),az4q e,zz4 b];obtain⟨n,i,-⟩:=Pz3 (f.2.1 (y.Xv.length-1-j) (by simpa using b));obtain⟨d,-,-⟩:=yzm i;rw[zz4 b]at d;generalize y.Xv.getD (y.Xv.length-1-j) qv=u at d⊢;have d:0<=u.Xg/\u.Xg<=20:=d;unfold revU;rw[qc d];rfl
open Go.Proofs
end Go.Abs
