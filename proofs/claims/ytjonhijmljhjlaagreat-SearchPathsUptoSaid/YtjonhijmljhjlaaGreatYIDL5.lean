import Derived.Test.YtjonhijmljhjlaaGreatYIDL1
import Derived.Test.YtjonhijmljhjlaaGreatYIDL4
import Derived.Test.YtjonhijmljhjlaaGreatYIDL2
open Bool renaming false_eq_true->za,and_eq_true->qn,or_eq_false_iff->qq,not_true->qP,not_false->xo
open Classical renaming byContradiction->x7
open Decidable renaming decide->qx
open Go.IntKind renaming i64->qv
open Inhabited renaming default->qw
open Int renaming toNat_of_nonneg->x9,toNat_natCast->qH,mul_le_mul_of_nonneg_right->wK,le_refl->xh,le_trans->zd,mul_le_mul_of_nonneg_left->qL
open List renaming getD_eq_getElem?_getD->wo,length_set->wx,length_cons->wA,length_nil->w7,getElem?_append_left->ze,getElem?_append_right->zf,mem_append->xg,mem_singleton->wN,length_append->xb,mem_of_mem_take->x8,getElem?_eq_getElem->wD,take_of_length_le->zg,mem_cons->wB,mem_or_eq_of_mem_set->zh,mem_map->zi,getElem_of_mem->wC
open Nat renaming lt_or_ge->zb,lt_succ_self->xi,le_refl->ql,le_trans->wG,mul_le_mul->qO
open Option renaming bind_some->qM
open Go.Abs.T renaming run->qk
noncomputable section
namespace Go.Abs
theorem Tzi {σ τ R:Type}{f:σ->Option (Step3 σ τ R)}(I:Nat->σ->Prop)(Q:τ->Prop)
 (hr:∀m x,I m x->(∃x' m',f x=some (.next x')/\m'<m/\I m' x')\/∃y,f x=some (.out y)/\Q y):
 ∀ (N m:Nat) (x:σ),I m x->m<N->∃y,iter f N x=some (.inl y)/\Q y
 |0,_,_,_,h=>qa
 |N+1,m,x,hi,h=>by
  rcases hr m x hi with⟨x',m',h1,h2,h3⟩|⟨y,h1,h2⟩
  ·rw[vz0 h1];exact Tzi I Q hr N m' x' h3 qa
  ·exact⟨y,by simp[iter,h1],h2⟩
theorem Ozh {σ τ R:Type}{f:σ->Option (Step3 σ τ R)}(I:Nat->σ->Prop)(Q:τ ⊕ R->Prop)
 (hr:∀m x,I m x->(∃x' m',f x=some (.next x')/\m'<m/\I m' x')\/(∃y,f x=some (.out y)/\Q (.inl y))\/∃r,f x=some (.fin r)/\Q (.inr r)):
 ∀ (N m:Nat) (x:σ),I m x->m<N->∃y,iter f N x=some y/\Q y
 |0,_,_,_,h=>qa
 |N+1,m,x,hi,h=>by
  rcases hr m x hi with⟨x',m',h1,h2,h3⟩|⟨y,h1,h2⟩|⟨y,h1,h2⟩
  ·rw[vz0 h1];exact Ozh I Q hr N m' x' h3 qa
  ·exact⟨_,by simp[iter,h1],h2⟩
  ·exact⟨_,by simp[iter,h1],h2⟩
theorem azaa {σ τ R β:Type}{f:σ->Option (Step3 σ τ R)}{k:τ->Option R}{g:β->R}{P:β->Prop}{N:Nat}{x:σ}(I:Nat->σ->Prop)(Q:τ->Prop)(m:Nat)(h0:I m x)(hN:m<N)
 (hr:∀m x,I m x->(∃x' m',f x=some (.next x')/\m'<m/\I m' x')\/∃y,f x=some (.out y)/\Q y) (hk:∀y,Q y->∃b,k y=some (g b)/\P b):∃b,andK (iter f N x) k=some (g b)/\P b:=by
 obtain⟨y,hy,hq⟩:=Tzi I Q hr N m x h0 hN;rw[jzf hy];exact hk y hq
theorem az03 {σ τ R β:Type}{f:σ->Option (Step3 σ τ R)}{k:τ->Option R}{g:β->R}{P:β->Prop}{N:Nat}{x:σ}(I:Nat->σ->Prop)(Q:τ->Prop)(m:Nat)(h0:I m x)(hN:m<N)
 (hr:∀m x,I m x->(∃x',f x=some (.next x')/\∃m',m'<m/\I m' x')\/∃y,f x=some (.out y)/\Q y) (hk:∀y,Q y->∃b,k y=some (g b)/\P b):∃b,andK (iter f N x) k=some (g b)/\P b:=by
 refine azaa I Q m h0 hN (λm x h=>?_) hk;rcases hr m x h with⟨x',h1,m',h2,h3⟩|h
 ·exact .inl ⟨x',m',h1,h2,h3⟩
 ·exact .inr h
theorem Bzo {σ τ R:Type}{f:σ->Option (Step3 σ τ R)}{k:τ->Option R}{P:R->Prop}{N:Nat}{x:σ}(I:Nat->σ->Prop)(Q:τ->Prop)(m:Nat)(h0:I m x)(hN:m<N)
 (hr:∀m x,I m x->(∃x' m',f x=some (.next x')/\m'<m/\I m' x')\/(∃y,f x=some (.out y)/\Q y)\/∃r,f x=some (.fin r)/\P r) (hk:∀y,Q y->∃r,k y=some r/\P r):∃r,andK (iter f N x) k=some r/\P r:=by
 obtain⟨y,hy,hq⟩:=Ozh I (λy=>match y with| .inl y=>Q y| .inr r=>P r) hr N m x h0 hN;cases y with
 |inl y=>rw[jzf hy];exact hk y hq
 |inr r=>rw[Pz7 hy];exact⟨r,rfl,hq⟩
theorem az37 (p:Nat->Prop)(h:∃n,p n):∃n,p n/\∀m,p m->n<=m:=by
 obtain⟨n,hn⟩:=h;induction n using Nat.strongRecOn with
 |_ n ih=>
  by_cases hh:∃m,m<n/\p m
  ·obtain⟨m,hm,hp⟩:=hh;exact ih m hm hp
  ·refine⟨n,hn,λm hm=>?_⟩;by_cases hlt:m<n
   ·exact absurd ⟨m,hlt,hm⟩ hh
   ·omega
theorem az8v:∀ (n k:Nat) (g:Nat->Nat),(∀j,j<=k->∃v,v<n/\g v=j)->k<n
 |0,k,g,h=>by obtain⟨v,hv,_⟩:=h 0 qa;omega
 |n+1,k,g,h=>by
  by_cases hk:k=0
  ·omega
  ·have:=az8v n (k-1) (λv=>if g v=k then g n else g v) (λj hj=>by
    by_cases hm:g n=k
    ·obtain⟨v,hv,hg⟩:=h j qa;have:v≠n:=λe=>by subst e;omega
     exact⟨v,qa,by show(if _ then _ else _)=_;rw[qb qa];exact hg⟩
    ·by_cases hj2:j=g n
     ·obtain⟨v,hv,hg⟩:=h k qa;have:v≠n:=λe=>by subst e;omega
      exact⟨v,qa,by show(if _ then _ else _)=_;rw[qc hg];exact hj2.symm⟩
     ·obtain⟨v,hv,hg⟩:=h j qa;have:v≠n:=λe=>by subst e;omega
      exact⟨v,qa,by show(if _ then _ else _)=_;rw[qb qa];exact hg⟩)
   omega
section
variable (E:Int->Int->Int->Prop) (t:Int)
inductive Walk:Int->Int->Int->Prop
 |nil:Walk t 0 0
 |cons {v u c d k:Int}:E v u c->Walk u d k->Walk v (d+c) (k+1)
def Best (v c k:Int):Prop:=Walk E t v c k/\∀c' k',Walk E t v c' k'->c<c'\/c=c'/\k<=k'
structure Graph (n C:Int):Prop where
 sym:∀u v c,E u v c->E v u c
 cost:∀u v c,E u v c->0<=c/\c<=C
 lt:∀u v c,E u v c->0<=u/\u<n/\0<=v/\v<n
end
variable {E:Int->Int->Int->Prop} {t n C:Int}
theorem Walk.ge (g:Graph E n C){v c k:Int}(h:Walk E t v c k):0<=c/\0<=k:=by
 induction h with
 |nil=>omega
 |cons he _ ih=>have:=g.cost _ _ _ he;omega
theorem Walk.le (g:Graph E n C){v c k:Int}(h:Walk E t v c k):c<=k * C:=by
 induction h with
 |nil=>simp
 |cons he _ ih=>have:=g.cost _ _ _ he;rw[Int.add_mul];omega
theorem Walk.lt (g:Graph E n C)(ht:0<=t/\t<n){v c k:Int}(h:Walk E t v c k):0<=v/\v<n:=by
 cases h with
 |nil=>exact ht
 |cons he _=>have:=g.lt _ _ _ he;omega
theorem Walk.zero (g:Graph E n C){v c k:Int}(h:Walk E t v c k)(hk:k=0):v=t/\c=0:=by
 cases h with
 |nil=>exact⟨rfl,rfl⟩
 |cons he hw=>have:=hw.ge g;omega
theorem Best.exists (g:Graph E n C){v c k:Int}(h:Walk E t v c k):∃c' k',Best E t v c' k':=by
 have h0:=h.ge g;obtain⟨a,⟨k1,ha⟩,hmin⟩:=az37 (λa=>∃k,Walk E t v (a:Int) k) ⟨c.toNat,k,by rw[x9 h0.1];exact h⟩;have h1:=ha.ge g;obtain⟨b,hb,hmin2⟩:=az37 (λb=>Walk E t v (a:Int) (b:Int)) ⟨k1.toNat,by rw[x9 h1.2];exact ha⟩;refine⟨a,b,hb,λc' k' hw=>?_⟩;have h2:=hw.ge g;have h3:=hmin c'.toNat ⟨k',by rw[x9 h2.1];exact hw⟩;by_cases hc:(a:Int)=c'
 ·subst hc;have:=hmin2 k'.toNat (by rw[x9 h2.2];exact hw);omega
 ·omega
theorem Best.unique {v c k c' k':Int}(h:Best E t v c k)(h':Best E t v c' k'):c=c'/\k=k':=by
 have h1:=h.2 _ _ h'.1;have h2:=h'.2 _ _ h.1;omega
theorem Best.step {v c k:Int}(h:Best E t v c k)(hk:k≠0):∃u e,E v u e/\Best E t u (c-e) (k-1):=by
 obtain⟨hw,hm⟩:=h;cases hw with
 |nil=>omega
 |cons he hw=>
  rename_i u e d j;refine⟨u,e,he,?_⟩;rw[show d+e-e=d from qa,show j+1-1=j from qa];refine⟨hw,λc' k' h=>?_⟩;have:=hm _ _ (Walk.cons he h);omega
theorem Best.ne (g:Graph E n C){v c k:Int}(h:Best E t v c k)(hv:v≠t):1<=k:=by
 have h1:=h.1.ge g;by_cases h0:k=0
 ·exact absurd (h.1.zero g h0).1 hv
 ·omega
theorem Best.lower (g:Graph E n C)(j:Nat):∀ (k:Nat) {v c:Int},Best E t v c (k:Int)->j<=k->∃u c',Best E t u c' (j:Int)
 |0,v,c,h,hj=>⟨v,c,by have:j=0:=qa
                      subst this;exact h⟩
 |k+1,v,c,h,hj=>by
  by_cases hk:j=k+1
  ·subst hk;exact⟨v,c,h⟩
  ·obtain⟨u,e,_,hb⟩:=h.step qa;rw[show((k+1:Nat):Int)-1=(k:Int) from qa]at hb;exact Best.lower g j k hb qa
theorem Best.few (g:Graph E n C)(ht:0<=t/\t<n){v c k:Int}(h:Best E t v c k):k<n:=by
 have h0:=h.1.ge g;obtain⟨k',rfl⟩:∃k':Nat,k=k':=⟨k.toNat,qa⟩;have key:=az8v n.toNat k' (λv=>open Classical in if hh:∃k:Nat,∃c,Best E t (v:Int) c (k:Int)then Classical.choose hh else 0) (λj hj=>by
  obtain⟨u,c',hb⟩:=Best.lower g j k' h hj;have hu:=hb.1.lt g ht;refine⟨u.toNat,qa,?_⟩;have hb':Best E t ((u.toNat:Nat):Int) c' (j:Int):=by rw[x9 hu.1];exact hb
  have hh:∃k:Nat,∃c,Best E t ((u.toNat:Nat):Int) c (k:Int):=⟨j,c',hb'⟩;refine(dif_pos hh).trans ?_;obtain⟨c2,hc2⟩:=Classical.choose_spec hh;have:=hb'.unique hc2;omega)
 omega
theorem az1o {lc lk:Int->Int}{isSet:Int->Prop}(h0:isSet t/\lc t=0/\lk t=0)(hc:∀v u e,E v u e->isSet u->isSet v/\(lc v<lc u+e\/lc v=lc u+e/\lk v<=lk u+1))
 {v c k:Int} (h:Walk E t v c k):isSet v/\(lc v<c\/lc v=c/\lk v<=k):=by
 induction h with
 |nil=>exact⟨h0.1,.inr ⟨h0.2.1,qa⟩⟩
 |cons he _ ih=>
  obtain⟨h1,h2⟩:=hc _ _ _ he ih.1;exact⟨h1,qa⟩
def azbu (E:Int->Int->Int->Prop)(t v w:Int):Prop:=
 (∃c k e,Best E t v c k/\E v w e/\Best E t w (c-e) (k-1))/\∀w',(∃c k e,Best E t v c k/\E v w' e/\Best E t w' (c-e) (k-1))->w<=w'
inductive Rt (E:Int->Int->Int->Prop) (t:Int):Int->List Int->Prop
 |nil:Rt E t t []
 |cons {v w:Int} {l:List Int}:v≠t->azbu E t v w->Rt E t w l->Rt E t v (w::l)
def ltR (a b:azm):Prop:=a.cost<b.cost\/a.cost=b.cost/\a.points<b.points
section
variable {α:Type} [Inhabited α]
theorem Hz4 {l:List α}{i k:Nat}{x:α}(hi:i<l.length):(l.set i x).getD k qw=if k=i then x else l.getD k qw:=by
 rw[wo,List.getElem?_set];by_cases h:k=i
 ·subst h;simp[hi]
 ·rw[qb (λe=>h e.symm),qb h,wo]
end
abbrev rk (l:List azv)(i:Nat):azm:=(l.getD i qw).rank
def Heap (l:List azv):Prop:=∀i,0<i->i<l.length->¬ltR (rk l i) (rk l ((i-1) / 2))
theorem Gzu (a0:Int)(a1:Int):(iz7 a0 a1).o=(mz2 a0 a1).run NN:=rfl
theorem Szm (a0:(List Int)):(zz0 a0).o=(zz1 a0).run NN:=rfl
theorem Cz8 (a0:az4)(a1:(Int×Int)):(ezv a0 a1).o=(izs a0 a1).run NN:=rfl
theorem Jzt (a0:aze)(a1:Int):(dzj a0 a1).o=(ozx a0 a1).run NN:=rfl
theorem Ezc (a0:aze):(fzf a0).o=(jzu a0).run NN:=rfl
theorem Mz6 (a0:aze):(qzy a0).o=(qzz a0).run NN:=rfl
theorem Nzt (a0:aze):(nzf a0).o=(uz3 a0).run NN:=rfl
theorem Mzi (a0:Int)(a1:Int):(rz6 a0 a1).o=(rz7 a0 a1).run NN:=rfl
theorem Kzn (a0:Int):(pzy a0).o=(pzz a0).run NN:=rfl
def yzs (n:Nat)(e:az4):Prop:=0<=e.U/\e.U<e.V/\e.V<(n:Int)/\0<=e.Xi/\e.Xi<=1099511627776
def eLt (a b:az4):Prop:=a.U<b.U\/a.U=b.U/\a.V<b.V
def Pre (m:aze)(k:Nat):Prop:=∀j,j<k->yzs m.Xc.length (m.Xa.getD j qw)/\(0<j->eLt (m.Xa.getD (j-1) qw) (m.Xa.getD j qw))
def WF (m:aze):Prop:=Pre m m.Xa.length
def szm (m:aze):Prop:=m.Xc.length<=100/\m.Xa.length<=200
theorem Ozb (a b:Int):(iz7 a b).o=some (if a<b then -1 else if a>b then 1 else 0):=by
 simp only[Gzu,mz2,Kzn,pzz,qk];simp only[qM,bne_self_eq_false,qd];by_cases h:a<b
 ·rw[az6 h,qc h]
 ·rw[az5 h,qb h];by_cases h2:a>b
  ·rw[az6 h2,qc h2]
  ·rw[az5 h2,qb h2]
theorem aze4 (hN:3<=NN)(a b:Int):(zz0 [a,b]).o=some (if a≠0 then a else b):=by
 obtain⟨M,hM⟩:∃M,NN=M+3:=⟨NN-3,qa⟩;have w1:qv.wrap (1:Int)=1:=by decide
 have w2:qv.wrap (2:Int)=2:=by decide
 simp only[Szm,zz1,qk];rw[hM];by_cases ha:a=0
 ·subst ha;by_cases hb:b=0
  ·subst hb;simp[iter,andK,grd,w1,w2]
  ·have:(b !=0)=true:=by simpa using hb
   simp[iter,andK,grd,w1,this]
 ·have:(a !=0)=true:=by simpa using ha
  simp[iter,andK,grd,this,ha]
theorem izx (hN:3<=NN)(e:az4)(u v:Int):∃c,(ezv e (u,v)).o=some c/\(c<0↔e.U<u\/e.U=u/\e.V<v)/\(c=0↔e.U=u/\e.V=v):=by
 simp only[Cz8,izs,qk]
 ((repeat rw[azp qa]);rw[Ozb,qM];(repeat rw[azp qa]);rw[Ozb,qM,aze4 hN,qM])
 refine⟨_,rfl,?_⟩;by_cases h1:e.U<u
 ·rw[qc h1];simp;omega
 ·rw[qb h1];by_cases h2:e.U>u
  ·rw[qc h2];simp;omega
  ·rw[qb h2,qb qa];by_cases h3:e.V<v
   ·rw[qc h3];omega
   ·rw[qb h3];by_cases h4:e.V>v
    ·rw[qc h4];omega
    ·rw[qb h4];omega
theorem uzz (m:aze)(v:Int):(dzj m v).o=some (qx (0<=v/\v<(m.Xc.length:Int))):=by
 simp only[Jzt,ozx,qk];by_cases h:v>=0
 ·rw[az6 h];simp[show 0<=v from h]
 ·rw[az5 h];simp;omega
theorem Rzv (m:aze)(hs:szm m)(hN:1000<=NN):∃b,(fzf m).o=some b/\(b=true↔WF m):=by
 obtain⟨hs1,hs2⟩:=hs;simp only[Ezc,jzu,qk];rw[az5 qa,az7,az5 qa];refine Bzo (λk (x:Int)=>∃i:Nat,x=(i:Int)/\i+k=m.Xa.length/\Pre m i) (λ_=>WF m) m.Xa.length ⟨0,rfl,qa,λj hj=>qa⟩ qa ?_ (λ_ h=>⟨true,rfl,by simp[h]⟩);rintro k x ⟨i,rfl,hi,hpre⟩;by_cases hlt:i<m.Xa.length
 ·(rw[az6 qa];(repeat rw[azp qa]);rw[qH])
  have hno:¬yzs m.Xc.length (m.Xa.getD i qw)->¬WF m:=λh hw=>h (hw i hlt).1
  by_cases hok:yzs m.Xc.length (m.Xa.getD i qw)
  ·obtain⟨o1,o2,o3,o4,o5⟩:=hok;rw[uzz,qM,Jzx (by simp only;omega),uzz,qM,Jzx (by simp only;omega),az5 qa,az5 qa,az7,az5 qa];by_cases h0:i=0
   ·subst h0;rw[az5 (by simp),az7,ez3 (by rfl),w64n qa];refine .inl ⟨_,k-1,rfl,qa,1,rfl,qa,λj hj=>?_⟩;have hj0:j=0:=qa
    subst hj0;exact⟨⟨o1,o2,o3,o4,o5⟩,λh=>absurd h qa⟩
   ·have hw:qv.wrap ((i:Int)-1)=((i-1:Nat):Int):=by rw[w64 qa qa];omega
    (rw[az6 qa,hw];(repeat rw[azp qa]);rw[qH])
    obtain⟨c,hc,hc1,hc2⟩:=izx qa (m.Xa.getD (i-1) qw) (m.Xa.getD i qw).U (m.Xa.getD i qw).V;rw[hc,qM,az7];by_cases hcl:c<0
    ·rw[az5 qa,w64n qa];refine .inl ⟨_,k-1,rfl,qa,i+1,rfl,qa,λj hj=>?_⟩;by_cases hji:j=i
     ·subst hji;exact⟨⟨o1,o2,o3,o4,o5⟩,λ_=>hc1.1 hcl⟩
     ·exact hpre j qa
    ·rw[az6 qa];refine .inr (.inr ⟨_,rfl,?_⟩);simp only[za,false_iff];intro hw;exact hcl (hc1.2 ((hw i hlt).2 qa))
  ·have hnw:=hno hok;refine .inr (.inr ⟨false,?_,by simp[hnw]⟩);unfold yzs at hok;rw[uzz,qM];by_cases h1:0<=(m.Xa.getD i qw).U/\(m.Xa.getD i qw).U<(m.Xc.length:Int)
   ·rw[Jzx h1,uzz,qM];by_cases h2:0<=(m.Xa.getD i qw).V/\(m.Xa.getD i qw).V<(m.Xc.length:Int)
    ·rw[Jzx h2];by_cases h3:(m.Xa.getD i qw).U>=(m.Xa.getD i qw).V
     ·rw[az6 h3,az7,dzo (by rfl)]
     ·rw[az5 h3];by_cases h4:(m.Xa.getD i qw).Xi<0
      ·rw[az6 h4,az7,dzo (by rfl)]
      ·rw[az5 h4,az7,az6 qa]
    ·rw[Xzo h2,az7,dzo (by rfl)]
   ·rw[Xzo h1,az7,dzo (by rfl)]
 ·rw[az5 qa];refine .inr (.inl ⟨_,rfl,?_⟩);have:i=m.Xa.length:=qa
  subst this;exact hpre
theorem az09 (m:aze)(hs:szm m)(hN:1000<=NN)(hcost:∀j,j<m.Xa.length->0<=(m.Xa.getD j qw).Xi/\(m.Xa.getD j qw).Xi<=1099511627776):∃b,(qzy m).o=some b/\(b=true↔WF m):=by
 obtain⟨hs1,hs2⟩:=hs;simp only[Mz6,qzz,qk];refine Bzo (λk (x:Int)=>∃i:Nat,x=(i:Int)/\i+k=m.Xa.length/\Pre m i) (λ_=>WF m) m.Xa.length ⟨0,rfl,qa,λj hj=>qa⟩ qa ?_ (λ_ h=>⟨true,by rw[az6 qa];simp;omega,by simp[h]⟩);rintro k x ⟨i,rfl,hi,hpre⟩;by_cases hlt:i<m.Xa.length
 ·(rw[az6 qa];(repeat rw[azp qa]);rw[qH])
  have hno:¬yzs m.Xc.length (m.Xa.getD i qw)->¬WF m:=λh hw=>h (hw i hlt).1
  have hci:=hcost i hlt;by_cases hok:yzs m.Xc.length (m.Xa.getD i qw)
  ·obtain⟨o1,o2,o3,o4,o5⟩:=hok;rw[az5 qa,az5 qa,az7,az5 qa];by_cases h0:i=0
   ·subst h0;rw[az5 (by simp),az7,ez3 (by rfl),w64n qa];refine .inl ⟨_,k-1,rfl,qa,1,rfl,qa,λj hj=>?_⟩;have hj0:j=0:=qa
    subst hj0;exact⟨⟨o1,o2,o3,o4,o5⟩,λh=>absurd h qa⟩
   ·have hw:qv.wrap ((i:Int)-1)=((i-1:Nat):Int):=by rw[w64 qa qa];omega
    (rw[az6 qa,hw];(repeat rw[azp qa]);rw[qH])
    by_cases hcl:eLt (m.Xa.getD (i-1) qw) (m.Xa.getD i qw)
    ·refine .inl ⟨((i+1:Nat):Int),k-1,?_,qa,i+1,rfl,qa,λj hj=>?_⟩
     ·unfold eLt at hcl
      (rw[az5 qa];(repeat rw[azp qa]))
      by_cases he:(m.Xa.getD (i-1) qw).U=(m.Xa.getD i qw).U
      ·(rw[czn he];(repeat rw[azp qa]);rw[az7,az5 qa,w64n qa])
      ·rw[czo he,az7,ez3 (by rfl),w64n qa]
     ·by_cases hji:j=i
      ·subst hji;exact⟨⟨o1,o2,o3,o4,o5⟩,λ_=>hcl⟩
      ·exact hpre j qa
    ·refine .inr (.inr ⟨false,?_,?_⟩)
     ·unfold eLt at hcl;by_cases hg:(m.Xa.getD (i-1) qw).U>(m.Xa.getD i qw).U
      ·rw[az6 hg,az7,dzo (by rfl)]
      ·(rw[az5 hg];(repeat rw[azp qa]);rw[czn qa];(repeat rw[azp qa]);rw[az7,az6 qa])
     ·simp only[za,false_iff];intro hw;exact hcl ((hw i hlt).2 qa)
  ·have hnw:=hno hok;refine .inr (.inr ⟨false,?_,by simp[hnw]⟩);unfold yzs at hok;by_cases h1:(m.Xa.getD i qw).U<0
   ·rw[az6 h1,az7,dzo (by rfl)]
   ·rw[az5 h1];by_cases h3:(m.Xa.getD i qw).U>=(m.Xa.getD i qw).V
    ·rw[az6 h3,az7,dzo (by rfl)]
    ·rw[az5 h3,az7,az6 qa]
 ·rw[az5 qa];refine .inr (.inl ⟨_,rfl,?_⟩);have:i=m.Xa.length:=qa
  subst this;exact hpre
theorem Tz3 (m:aze)(hs:szm m)(hN:1000<=NN):∃b,(nzf m).o=some b/\(b=true↔WF m):=by
 have hss:=hs;obtain⟨hs1,hs2⟩:=hs;simp only[Nzt,uz3,qk];refine Bzo (λk (x:Int)=>∃i:Nat,x=(i:Int)/\i+k=m.Xa.length/\∀j,j<i->0<=(m.Xa.getD j qw).Xi/\(m.Xa.getD j qw).Xi<=1099511627776) (λ_=>∀j,j<m.Xa.length->0<=(m.Xa.getD j qw).Xi/\(m.Xa.getD j qw).Xi<=1099511627776) m.Xa.length ⟨0,rfl,qa,λj hj=>qa⟩ qa ?_ (λ_ h=>?_)
 ·rintro k x ⟨i,rfl,hi,hpre⟩;by_cases hlt:i<m.Xa.length
  ·(rw[az6 qa];(repeat rw[azp qa]);rw[qH])
   by_cases hok:0<=(m.Xa.getD i qw).Xi/\(m.Xa.getD i qw).Xi<=1099511627776
   ·(rw[az5 qa];(repeat rw[azp qa]);rw[az7,az5 qa,w64n qa])
    refine .inl ⟨_,k-1,rfl,qa,i+1,rfl,qa,λj hj=>?_⟩;by_cases hji:j=i
    ·subst hji;exact hok
    ·exact hpre j qa
   ·refine .inr (.inr ⟨false,?_,?_⟩)
    ·by_cases h1:(m.Xa.getD i qw).Xi<0
     ·rw[az6 h1,az7,dzo (by rfl)]
     ·(rw[az5 h1];(repeat rw[azp qa]);rw[az7,az6 qa])
    ·simp only[za,false_iff];intro hw;obtain⟨_,_,_,h4,h5⟩:=(hw i hlt).1;exact hok ⟨h4,h5⟩
  ·rw[az5 qa];refine .inr (.inl ⟨_,rfl,?_⟩);have:i=m.Xa.length:=qa
   subst this;exact hpre
 ·obtain⟨b,hb,hw⟩:=az09 m hss hN h;exact⟨b,by rw[hb];rfl,hw⟩
def hzi (s mode:Int):Bool:=if mode=0 then s==1 else if mode=1 then(s==1||s==0)else if mode=2 then s !=2 else false
theorem az54 (s mode:Int):(rz6 s mode).o=some (hzi s mode):=by
 simp only[Mzi,rz7,qk];unfold hzi;by_cases h0:mode=0
 ·rw[dzo (by simpa using h0),qc h0]
 ·rw[ez3 (by simpa using h0),qb h0];by_cases h1:mode=1
  ·rw[dzo (by simpa using h1),qc h1];cases s==1<;>rfl
  ·rw[ez3 (by simpa using h1),qb h1];by_cases h2:mode=2
   ·rw[dzo (by simpa using h2),qc h2]
   ·rw[ez3 (by simpa using h2),qb h2]
theorem Mzr (e:az4)(mode:Int):(ozu e mode).o=some (hzi e.Xr mode):=az54 e.Xr mode
def Eg (m:aze)(mode u v c:Int):Prop:=∃i,i<m.Xa.length/\hzi (m.Xa.getD i qw).Xr mode=true/\(m.Xa.getD i qw).Xi=c/\((m.Xa.getD i qw).U=u/\(m.Xa.getD i qw).V=v\/(m.Xa.getD i qw).U=v/\(m.Xa.getD i qw).V=u)
theorem Eg.graph {m:aze}(h:WF m)(mode:Int):Graph (Eg m mode) m.Xc.length 1099511627776:=by
 refine⟨λu v c ⟨i,h1,h2,h3,h4⟩=>⟨i,h1,h2,h3,h4.symm⟩,λu v c ⟨i,h1,h2,h3,h4⟩=>?_,λu v c ⟨i,h1,h2,h3,h4⟩=>?_⟩
 ·obtain⟨_,_,_,h5,h6⟩:=(h i h1).1;omega
 ·obtain⟨_,_,_,h5,h6⟩:=(h i h1).1;omega
theorem WF.lt {m:aze}(h:WF m){i j:Nat}(hij:i<j)(hj:j<m.Xa.length):eLt (m.Xa.getD i qw) (m.Xa.getD j qw):=by
 induction j with
 |zero=>omega
 |succ j ih=>
  have h1:=(h (j+1) hj).2 qa;rw[show j+1-1=j from qa]at h1;by_cases he:i=j
  ·subst he;exact h1
  ·have:=ih qa qa;unfold eLt at *;omega
theorem WF.one {m:aze}(h:WF m){i j:Nat}(hi:i<m.Xa.length)(hj:j<m.Xa.length)(hu:(m.Xa.getD i qw).U=(m.Xa.getD j qw).U)(hv:(m.Xa.getD i qw).V=(m.Xa.getD j qw).V):i=j:=by
 rcases Nat.lt_trichotomy i j with hlt|he|hlt
 ·have:=h.lt hlt hj;unfold eLt at this;omega
 ·exact he
 ·have:=h.lt hlt hi;unfold eLt at this;omega
def lk (mode v:Int)(e:az4):List azj:=if hzi e.Xr mode=true then(if e.U=v then [⟨e.V,e.Xi⟩]else if e.V=v then [⟨e.U,e.Xi⟩]else [])else []
abbrev rkv (R:List azm)(v:Int):azm:=R.getD v.toNat qw
abbrev leR (a b:azm):Prop:=a.cost<b.cost\/a.cost=b.cost/\a.points<=b.points
def rest (d:Nat->Nat)(S:Nat->Bool):Nat->Nat
 |0=>0
 |n+1=>rest d S n+if S n=true then 0 else d n
section
variable (E:Int->Int->Int->Prop) (t fr:Int) (L:List (List azj))
structure DInv (R:List azm) (q:List azv) (S:Nat->Bool) (V:Int->Int->Int->Prop):Prop where
 len:R.length=L.length
 walk:∀v:Int,0<=v->v<(L.length:Int)->(rkv R v).points=0\/(1<=(rkv R v).points/\Walk E t v (rkv R v).cost ((rkv R v).points-1))
 few:∀v:Int,0<=v->v<(L.length:Int)->(rkv R v).points<=L.length+1
 src:rkv R t=⟨0,1⟩
 best:∀v:Int,0<=v->v<(L.length:Int)->S v.toNat=true->Best E t v (rkv R v).cost ((rkv R v).points-1)/\1<=(rkv R v).points
 relaxed:∀v w c:Int,0<=v->v<(L.length:Int)->S v.toNat=true->V v w c->1<=(rkv R w).points/\leR (rkv R w) ⟨(rkv R v).cost+c,(rkv R v).points+1⟩
 queued:∀v:Int,0<=v->v<(L.length:Int)->1<=(rkv R v).points->S v.toNat=false->(⟨rkv R v,v⟩:azv)∈q
 entry:∀e∈q,0<=e.point/\e.point<(L.length:Int)/\1<=e.rank.points/\1<=(rkv R e.point).points/\leR (rkv R e.point) e.rank
 low:∀v:Int,0<=v->v<(L.length:Int)->S v.toNat=true->∀e∈q,leR (rkv R v) e.rank
 heap:Heap q
 notFrom:S fr.toNat=false
end
variable {E:Int->Int->Int->Prop} {t fr C:Int} {L:List (List azj)}
structure Lks (E:Int->Int->Int->Prop) (L:List (List azj)):Prop where
 graph:Graph E L.length 1099511627776
 mem:∀v w c:Int,0<=v->v<(L.length:Int)->((⟨w,c⟩:azj)∈L.getD v.toNat qw↔E v w c)
 few:∀i,(L.getD i qw).length<=200
 len:L.length<=100
 sorted:∀i,i<L.length->(L.getD i qw).Pairwise (λa b=>a.to<b.to)
variable {E:Int->Int->Int->Prop} {t fr:Int} {L:List (List azj)}
theorem Rze (a0:aze)(a1:Int)(a2:Int):(xze a0 a1 a2).o=(xzf a0 a1 a2).run NN:=rfl
theorem yzk (a0:aze)(a1:Int)(a2:Int)(a3:Int):(jzj a0 a1 a2 a3).o=(jzk a0 a1 a2 a3).run NN:=rfl
def Zzg (m:aze)(fr t:Int):Prop:=WF m/\(0<=fr/\fr<(m.Xc.length:Int))/\(0<=t/\t<(m.Xc.length:Int))
def az83 (m:aze)(fr t mode:Int)(r:bzy×Bool):Prop:=
 (r.2=false/\r.1=⟨nl,0⟩/\∀c k,¬Walk (Eg m mode) t fr c k)\/(r.2=true/\∃c k l,Best (Eg m mode) t fr c k/\Rt (Eg m mode) t fr l/\r.1=⟨fr::l,c⟩)
def azby (m:aze)(fr t mode:Int)(r:bzy×Bool):Prop:=
 (¬ (Zzg m fr t/\0<=mode/\mode<=2)/\r=(⟨nl,0⟩,false))\/((Zzg m fr t/\0<=mode/\mode<=2)/\az83 m fr t mode r)
theorem czd (a0:(List az4))(a1:(Int×Int)):(azy a0 a1).o=(bz3 a0 a1).run NN:=rfl
theorem yzm (a0:aze)(a1:Int)(a2:Int):(hz1 a0 a1 a2).o=(jzl a0 a1 a2).run NN:=rfl
theorem Dz5 (a0:aze)(a1:Int)(a2:Int):(jzd a0 a1 a2).o=(fzt a0 a1 a2).run NN:=rfl
theorem azcf {x:Int}(h:0<=x)(h2:x<4000000000000):qv.wrap ((IntKind.u64.wrap (qv.wrap x)).fdiv (2 ^ (min (1:Int).toNat 64)))=x / 2:=by
 have e1:IntKind.u64.wrap x=x:=by
  simp only[IntKind.wrap,IntKind.bits,IntKind.signed,Bool.false_and,za,if_false];omega
 have e2:(2:Int) ^ (min (1:Int).toNat 64)=2:=by decide
 rw[w64 (x:=x) qa qa,e1,e2,Int.fdiv_eq_ediv_of_nonneg _ qa,w64 qa qa]
theorem Zzo {m:aze}(hs:szm m)(hw:WF m){u v:Int}{e:Nat}(he:e<m.Xa.length)(hu:(m.Xa.getD e qw).U=u)(hv:(m.Xa.getD e qw).V=v)(hN:100000<=NN):
 (azy m.Xa (u,v)).o=some ((e:Int),true):=by
 have hs2:=hs.2;have key:∃r,(azy m.Xa (u,v)).o=some r/\r=((e:Int),true):=by
  simp only[czd,bz3,qk];refine az03 (g:=λr=>r) (λk (x:Int×Int)=>∃a b:Nat,x=((a:Int),(b:Int))/\a+k=b/\b<=m.Xa.length/\a<=e/\e<=b) (λy=>y=(e:Int)) m.Xa.length ⟨0,m.Xa.length,rfl,qa,qa,qa,qa⟩ qa ?_ ?_
  ·rintro k x ⟨a,b,rfl,hab,hb,h1,h2⟩;dsimp only;by_cases hlt:a<b
   ·left
    (rw[az6 qa];(repeat rw[azp qa]);rw[azcf qa qa])
    obtain⟨h,hh⟩:∃h:Nat,((a:Int)+(b:Int)) / 2=(h:Int):=⟨(a+b) / 2,qa⟩;have hah:a<=h/\h<b:=qa
    (rw[hh];(repeat rw[azp qa]);rw[qH])
    obtain⟨c,hc,hc1,hc2⟩:=izx qa (m.Xa.getD h qw) u v;rw[hc,qM];by_cases hcl:c<0
    ·rw[az6 hcl,w64n qa];refine⟨_,rfl,b- (h+1),qa,h+1,b,rfl,qa,hb,?_,h2⟩;have:=hc1.1 hcl;rcases zb h e with hhe|hhe
     ·omega
     ·exfalso
      by_cases hee:h=e
      ·subst hee;omega
      ·have:=hw.lt (i:=e) (j:=h) qa qa;unfold eLt at this;omega
    ·rw[az5 hcl];refine⟨_,rfl,h-a,qa,a,h,rfl,qa,qa,h1,?_⟩;rcases zb h e with hhe|hhe
     ·exfalso
      have:=hw.lt (i:=h) (j:=e) hhe he;unfold eLt at this;exact hcl (hc1.2 qa)
     ·exact hhe
   ·right;rw[az5 qa];exact⟨_,rfl,qa⟩
  ·rintro y rfl
   (rw[az6 qa];(repeat rw[azp qa]);rw[qH])
   obtain⟨c,hc,hc1,hc2⟩:=izx qa (m.Xa.getD e qw) u v;rw[hc,qM];have:=hc2.2 ⟨hu,hv⟩;exact⟨_,rfl,by rw[this];rfl⟩
 obtain⟨r,h1,rfl⟩:=key;exact h1
theorem Oz5 {m:aze}(hs:szm m)(hw:WF m){x y:Int}{e:Nat}(he:e<m.Xa.length)(hu:(m.Xa.getD e qw).U=min x y)(hv:(m.Xa.getD e qw).V=max x y)(hN:100000<=NN):(hz1 m x y).o=some ((e:Int),true):=by
 simp only[yzm,jzl,qk];rw[Zzo hs hw he hu hv hN];rfl
theorem Uzm (a0:azh)(a1:azh):(sz9 a0 a1).o=(Azw a0 a1).run NN:=rfl
theorem Nzu (a0:aze)(a1:Int)(a2:Int):(uz9 a0 a1 a2).o=(uza a0 a1 a2).run NN:=rfl
abbrev lab (l:List azh)(v:Int):azh:=l.getD v.toNat qw
def zzn (a b:azh):Prop:=b.Xi<0\/a.Xi<b.Xi\/a.Xi=b.Xi/\a.Xa<b.Xa
instance (a b:azh):Decidable (zzn a b):=by unfold zzn;infer_instance
theorem aza9 {a b:azh}(h:0<=a.Xi):(sz9 a b).o=some (qx (zzn a b)):=by
 simp only[Uzm,Azw,qk];by_cases h1:b.Xi<0
 ·rw[az6 h1,az7,dzo (by rfl),az6 qa,qg h1,qg (show zzn a b from .inl h1)]
 ·rw[az5 h1,az7,az5 qa];by_cases h2:a.Xi<b.Xi
  ·rw[az6 h2,qg (show zzn a b from .inr (.inl h2))]
  ·rw[az5 h2];by_cases h3:a.Xi=b.Xi
   ·rw[czn h3];by_cases h4:a.Xa<b.Xa
    ·rw[qg h4,qg (show zzn a b from .inr (.inr ⟨h3,h4⟩))]
    ·rw[qh h4,qh (by unfold zzn;omega)]
   ·rw[czo h3,qh (by unfold zzn;omega)]
def lzx (p q c:Int)(s:List azh×Bool):List azh×Bool:=
 if(lab s.1 p).Xi<0 then s else
 if zzn ⟨(lab s.1 p).Xi+c,(lab s.1 p).Xa+1⟩ (lab s.1 q)then(s.1.set q.toNat ⟨(lab s.1 p).Xi+c,(lab s.1 p).Xa+1⟩,true)else s
abbrev rlx {R:Type}(c:Int)(ps:List (Int×Int))(x:List azh×Bool×Int):Option (Step3 (List azh×Bool×Int) (List azh×Bool) R):=
 bif qx (x.2.2<((ps.length:Nat):Int))then
  andC (grd (0<=x.2.2/\x.2.2<((ps.length:Nat):Int))<|
   grd (x.2.2.toNat<ps.length)<|
   grd (0<=(ps.getD x.2.2.toNat qw).1/\(ps.getD x.2.2.toNat qw).1<((x.1.length:Nat):Int))<|
   grd ((ps.getD x.2.2.toNat qw).1.toNat<x.1.length)<|
   bif qx ((x.1.getD (ps.getD x.2.2.toNat qw).1.toNat qw).Xi<0)then some (.out (x.1,x.2.1))else
   grd (0<=(ps.getD x.2.2.toNat qw).2/\(ps.getD x.2.2.toNat qw).2<((x.1.length:Nat):Int))<|
   grd ((ps.getD x.2.2.toNat qw).2.toNat<x.1.length)<|
   (sz9 (⟨qv.wrap ((x.1.getD (ps.getD x.2.2.toNat qw).1.toNat qw).Xi+c),qv.wrap ((x.1.getD (ps.getD x.2.2.toNat qw).1.toNat qw).Xa+1)⟩:azh) (x.1.getD (ps.getD x.2.2.toNat qw).2.toNat qw)).o.bind λy=>
   bif y then
    grd (0<=(ps.getD x.2.2.toNat qw).2/\(ps.getD x.2.2.toNat qw).2<((x.1.length:Nat):Int))<|
    grd ((ps.getD x.2.2.toNat qw).2.toNat<x.1.length/\0<=(ps.getD x.2.2.toNat qw).2.toNat)<|
    some (.out (x.1.set (ps.getD x.2.2.toNat qw).2.toNat (⟨qv.wrap ((x.1.getD (ps.getD x.2.2.toNat qw).1.toNat qw).Xi+c),qv.wrap ((x.1.getD (ps.getD x.2.2.toNat qw).1.toNat qw).Xa+1)⟩:azh),true))
   else some (.out (x.1,x.2.1)):Option (Step3 Unit (List azh×Bool) (Step3 (List azh×Bool×Int) (List azh×Bool) R))) λy=>some (.next (y.1,y.2,qv.wrap (x.2.2+1)))
 else some (.out (x.1,x.2.1))
def LB (l:List azh):Prop:=∀v:Int,0<=v->v<(l.length:Int)->(lab l v).Xi<0\/(0<=(lab l v).Xi/\(lab l v).Xi<=4000000000000000000/\0<=(lab l v).Xa/\(lab l v).Xa<=1000000000)
theorem az4b {R:Type}{c p q:Int}{l:List azh}{ag:Bool}{ps:List (Int×Int)}{j:Nat}(hj:j<2)(hp:ps.length=2)(hpq:ps.getD j qw=(p,q))(hc:0<=c/\c<=1099511627776)
 (h1:0<=p/\p<(l.length:Int)) (h2:0<=q/\q<(l.length:Int)) (hl:LB l):
 rlx (R:=R) c ps (l,ag,(j:Int))=some (.next ((lzx p q c (l,ag)).1,(lzx p q c (l,ag)).2,((j+1:Nat):Int))):=by
 unfold rlx lzx;simp only
 (rw[az6 qa];(repeat rw[azp qa]);rw[qH,hpq])
 simp only
 ((repeat rw[azp qa]))
 have hlp:=hl p h1.1 h1.2;by_cases hn:(lab l p).Xi<0
 ·rw[az6 hn,az7,qc hn,w64n qa]
 ·(rw[az5 hn,qb hn];(repeat rw[azp qa]);rw[w64 (x:=(lab l p).Xi+c) qa qa,w64 (x:=(lab l p).Xa+1) qa qa,aza9 (by simp only;omega),qM])
  by_cases hls:zzn ⟨(lab l p).Xi+c,(lab l p).Xa+1⟩ (lab l q)
  ·(rw[az6 hls,qc hls];(repeat rw[azp qa]);rw[az7,w64n qa])
  ·rw[az5 hls,qb hls,az7,w64n qa]
section
variable {m:aze} {mode t:Int}
local instance:Inhabited Int:=⟨0⟩
def LOk (m:aze)(mode t B:Int)(l:List azh):Prop:=
 l.length=m.Xc.length/\lab l t=⟨0,0⟩/\∀v:Int,0<=v->v<(l.length:Int)->(lab l v).Xi<0\/(Walk (Eg m mode) t v (lab l v).Xi (lab l v).Xa/\(lab l v).Xa<=B)
def Fin' (m:aze)(mode t r:Int)(l:List azh):Prop:=∀v c k,Best (Eg m mode) t v c k->k<=r->lab l v=⟨c,k⟩
def Sat' (l:List azh)(p q c:Int):Prop:=0<=(lab l p).Xi->0<=(lab l q).Xi/\((lab l q).Xi<(lab l p).Xi+c\/(lab l q).Xi=(lab l p).Xi+c/\(lab l q).Xa<=(lab l p).Xa+1)
def az5c (l l':List azh):Prop:=∀v:Int,0<=(lab l v).Xi->0<=(lab l' v).Xi/\((lab l' v).Xi<(lab l v).Xi\/(lab l' v).Xi=(lab l v).Xi/\(lab l' v).Xa<=(lab l v).Xa)
theorem LOk.LB (hw:WF m){B:Int}(hB:B<=1000000){l:List azh}(h:LOk m mode t B l):LB l:=by
 intro v h0 h1;rcases h.2.2 v h0 h1 with h2|⟨h2,h3⟩
 ·exact .inl h2
 ·have h4:=h2.ge (Eg.graph hw mode);have h5:=h2.le (Eg.graph hw mode);have:(lab l v).Xa * 1099511627776<=1000000 * 1099511627776:=wK qa qa;exact .inr ⟨h4.1,qa,h4.2,qa⟩
theorem az2u {l:List azh}{q v:Int}{x:azh}(hq:0<=q/\q<(l.length:Int))(hv:0<=v):lab (l.set q.toNat x) v=if v=q then x else lab l v:=by
 unfold lab;rw[Hz4 qa];by_cases h:v=q
 ·subst h;rw[qc rfl,qc rfl]
 ·rw[qb qa,qb h]
theorem Mz9 (hw:WF m)(ht:0<=t/\t<(m.Xc.length:Int)){B r c p q:Int}{l:List azh}{ag:Bool}(h:LOk m mode t B l)(hf:Fin' m mode t r l)(he:Eg m mode q p c)(hpq:p≠q):
 LOk m mode t (B+1) (lzx p q c (l,ag)).1/\Fin' m mode t r (lzx p q c (l,ag)).1/\az5c l (lzx p q c (l,ag)).1/\Sat' (lzx p q c (l,ag)).1 p q c/\
  ((lzx p q c (l,ag)).2=ag\/((lzx p q c (l,ag)).2=true/\r<(m.Xc.length:Int)))/\((lzx p q c (l,ag)).2=false->(lzx p q c (l,ag)).1=l/\ag=false):=by
 have g:=Eg.graph hw mode;obtain⟨q0,q1,p0,p1⟩:=g.lt _ _ _ he;have hce:=g.cost _ _ _ he;obtain⟨hl,hlt,hlw⟩:=h
 have same:∀s:List azh×Bool,s=(l,ag)->(0<=(lab l p).Xi->¬zzn ⟨(lab l p).Xi+c,(lab l p).Xa+1⟩ (lab l q))->
  LOk m mode t (B+1) s.1/\Fin' m mode t r s.1/\az5c l s.1/\Sat' s.1 p q c/\(s.2=ag\/(s.2=true/\r<(m.Xc.length:Int)))/\(s.2=false->s.1=l/\ag=false):=by
  rintro s rfl hns;refine⟨⟨hl,hlt,λv h0 h1=>?_⟩,hf,λv hv=>⟨hv,.inr ⟨rfl,xh _⟩⟩,λh0=>?_,.inl rfl,λh=>⟨rfl,h⟩⟩
  ·rcases hlw v h0 h1 with h2|⟨h2,h3⟩
   ·exact .inl h2
   ·exact .inr ⟨h2,zd h3 qa⟩
  ·have:=hns h0;unfold zzn at this;simp only at this⊢;omega
 unfold lzx;simp only;by_cases hn:(lab l p).Xi<0
 ·rw[qc hn];exact same _ rfl (λh=>qa)
 ·rw[qb hn];by_cases hls:zzn ⟨(lab l p).Xi+c,(lab l p).Xa+1⟩ (lab l q)
  ·rw[qc hls];simp only;obtain⟨hwp,hep⟩:=(hlw p p0 qa).resolve_left hn;have hwq:=Walk.cons he hwp;have hql:0<=q/\q<(l.length:Int):=⟨q0,qa⟩;have hset:∀v:Int,0<=v->lab (l.set q.toNat ⟨(lab l p).Xi+c,(lab l p).Xa+1⟩) v=if v=q then⟨(lab l p).Xi+c,(lab l p).Xa+1⟩else lab l v:=λv hv=>az2u hql hv
   obtain⟨cb,kb,hb⟩:=Best.exists g hwq;have hkb:r<kb:=by
    refine x7 λhc=>?_
    have h1:=hf q cb kb hb qa;have h2:=hb.2 _ _ hwq;have h3:=hb.1.ge g;rw[h1]at hls;unfold zzn at hls;simp only at hls;omega
   have hkn:=hb.few g ht;have hqt:q≠t:=λe=>by
    subst e;have h1:=hwp.ge g;rw[hlt]at hls;unfold zzn at hls;simp only at hls;omega
   refine⟨⟨by simpa using hl,by rw[hset t ht.1,qb (λe=>hqt e.symm)];exact hlt,λv h0 h1=>?_⟩,λv c' k hbv hk=>?_,λv hv=>?_,λh0=>?_,.inr ⟨by trivial,qa⟩,by simp⟩
   ·rw[hset v h0];by_cases hvq:v=q
    ·rw[qc hvq];subst hvq;exact .inr ⟨hwq,by simp only;omega⟩
    ·rw[qb hvq];rcases hlw v h0 (by simpa using h1)with h2|⟨h2,h3⟩
     ·exact .inl h2
     ·exact .inr ⟨h2,qa⟩
   ·have hv:=hbv.1.lt g ht;rw[hset v hv.1,qb (λe=>?_)]
    ·exact hf v c' k hbv hk
    ·subst e;have:=hb.unique hbv;omega
   ·by_cases hv0:0<=v
    ·rw[hset v hv0];by_cases hvq:v=q
     ·subst hvq;rw[qc rfl];unfold zzn at hls;simp only at hls⊢;have:=hwp.ge g;omega
     ·rw[qb hvq];exact⟨hv,.inr ⟨rfl,xh _⟩⟩
    ·have e1:v.toNat=0:=qa
     by_cases hq0:q=0
     ·subst hq0;have:lab (l.set (0:Int).toNat ⟨(lab l p).Xi+c,(lab l p).Xa+1⟩) v=lab (l.set (0:Int).toNat ⟨(lab l p).Xi+c,(lab l p).Xa+1⟩) 0:=by unfold lab;rw[e1];rfl
      have e2:lab l v=lab l 0:=by unfold lab;rw[e1];rfl
      rw[this,hset 0 qa,qc rfl,e2];rw[e2]at hv;unfold zzn at hls;simp only at hls⊢;have:=hwp.ge g;omega
     ·have:lab (l.set q.toNat ⟨(lab l p).Xi+c,(lab l p).Xa+1⟩) v=lab l v:=by
       unfold lab;rw[Hz4 qa,qb qa]
      rw[this];exact⟨hv,.inr ⟨rfl,xh _⟩⟩
   ·rw[hset q q0,hset p p0,qc rfl,qb hpq];have:=hwp.ge g;exact⟨by simp only;omega,.inr ⟨rfl,xh _⟩⟩
  ·rw[qb hls];exact same _ rfl (λ_=>hls)
theorem azb1 {R:Type}(hN:3<=NN)(hw:WF m)(ht:0<=t/\t<(m.Xc.length:Int)){B r:Int}(hB:B+1<=1000000){l:List azh}{ag:Bool}(h:LOk m mode t B l)(hf:Fin' m mode t r l){i:Nat}(hi:i<m.Xa.length)
 (hu:hzi (m.Xa.getD i qw).Xr mode=true):
 iter (rlx (R:=R) (m.Xa.getD i qw).Xi [((m.Xa.getD i qw).U,(m.Xa.getD i qw).V),((m.Xa.getD i qw).V,(m.Xa.getD i qw).U)]) NN (l,ag,0)=
  some (.inl (lzx (m.Xa.getD i qw).V (m.Xa.getD i qw).U (m.Xa.getD i qw).Xi (lzx (m.Xa.getD i qw).U (m.Xa.getD i qw).V (m.Xa.getD i qw).Xi (l,ag)))):=by
 obtain⟨o1,o2,o3,o4,o5⟩:=(hw i hi).1;obtain⟨M,hM⟩:∃M,NN=M+3:=⟨NN-3,qa⟩;have he:Eg m mode (m.Xa.getD i qw).V (m.Xa.getD i qw).U (m.Xa.getD i qw).Xi:=⟨i,hi,hu,rfl,.inr ⟨rfl,rfl⟩⟩;have hl:=h.1;have h1:=az4b (R:=R) (c:=(m.Xa.getD i qw).Xi) (l:=l) (ag:=ag) (j:=0) (ps:=[((m.Xa.getD i qw).U,(m.Xa.getD i qw).V),((m.Xa.getD i qw).V,(m.Xa.getD i qw).U)]) qa rfl rfl ⟨o4,o5⟩ ⟨qa,qa⟩ ⟨qa,qa⟩ (h.LB hw qa);obtain⟨k1,k2,_⟩:=Mz9 (ag:=ag) hw ht h hf he qa;generalize lzx (m.Xa.getD i qw).U (m.Xa.getD i qw).V (m.Xa.getD i qw).Xi (l,ag)=s1 at h1 k1 k2⊢;obtain⟨l1,a1⟩:=s1;have hl1:l1.length=m.Xc.length:=k1.1;have h2:=az4b (R:=R) (c:=(m.Xa.getD i qw).Xi) (l:=l1) (ag:=a1) (j:=1) (ps:=[((m.Xa.getD i qw).U,(m.Xa.getD i qw).V),((m.Xa.getD i qw).V,(m.Xa.getD i qw).U)]) qa rfl rfl ⟨o4,o5⟩ ⟨qa,qa⟩ ⟨qa,qa⟩ (k1.LB hw qa);generalize lzx (m.Xa.getD i qw).V (m.Xa.getD i qw).U (m.Xa.getD i qw).Xi (l1,a1)=s2 at h2⊢;rw[hM];exact((vz0 (f:=rlx (R:=R) (m.Xa.getD i qw).Xi [((m.Xa.getD i qw).U,(m.Xa.getD i qw).V),((m.Xa.getD i qw).V,(m.Xa.getD i qw).U)]) (N:=M+2) h1).trans (vz0 (f:=rlx (R:=R) (m.Xa.getD i qw).Xi [((m.Xa.getD i qw).U,(m.Xa.getD i qw).V),((m.Xa.getD i qw).V,(m.Xa.getD i qw).U)]) (N:=M+1) h2)).trans rfl
def Done (m:aze)(mode t r:Int)(l:List azh)(j:Nat):Prop:=
 hzi (m.Xa.getD j qw).Xr mode=true->∀p q,((m.Xa.getD j qw).U=p/\(m.Xa.getD j qw).V=q\/(m.Xa.getD j qw).U=q/\(m.Xa.getD j qw).V=p)->∀c k,Best (Eg m mode) t p c k->k<=r->
  0<=(lab l q).Xi/\((lab l q).Xi<c+(m.Xa.getD j qw).Xi\/(lab l q).Xi=c+(m.Xa.getD j qw).Xi/\(lab l q).Xa<=k+1)
def SatE (m:aze)(mode:Int)(l:List azh)(j:Nat):Prop:=
 hzi (m.Xa.getD j qw).Xr mode=true->Sat' l (m.Xa.getD j qw).U (m.Xa.getD j qw).V (m.Xa.getD j qw).Xi/\Sat' l (m.Xa.getD j qw).V (m.Xa.getD j qw).U (m.Xa.getD j qw).Xi
theorem Done.mono {r:Int}{l l':List azh}{j:Nat}(h:Done m mode t r l j)(hm:az5c l l'):Done m mode t r l' j:=by
 intro hu p q hpq c k hb hk;have h1:=h hu p q hpq c k hb hk;have h2:=hm q h1.1;omega
theorem az2v (m:aze)(mode t:Int)(hs:szm m)(hw:WF m)(ht:0<=t/\t<(m.Xc.length:Int))(hN:100000<=NN):
 ∃l,(uz9 m t mode).o=some l/\l.length=m.Xc.length/\∀v:Int,0<=v->v<(m.Xc.length:Int)->
  ((lab l v).Xi<0/\∀c k,¬Walk (Eg m mode) t v c k)\/Best (Eg m mode) t v (lab l v).Xi (lab l v).Xa:=by
 have g:=Eg.graph hw mode;obtain⟨hs1,hs2⟩:=hs;simp only[Nzu,uza,qk]
 ((repeat rw[azp qa]))
 refine az03 (g:=λl=>l) (λk (x:List azh×Int)=>∃i:Nat,x.2=(i:Int)/\i+k=m.Xc.length/\x.1.length=m.Xc.length/\∀v,v<i->(x.1.getD v qw).Xi<0)
  (λl=>l.length=m.Xc.length/\∀v,v<m.Xc.length->(l.getD v qw).Xi<0) m.Xc.length ⟨0,rfl,qa,by simp,λv hv=>qa⟩ qa ?_ ?_
 ·rintro k ⟨l,x⟩ ⟨i,hx,hi,hl,hn⟩;simp only at hx hl hn;subst hx;dsimp only;by_cases hlt:i<l.length
  ·left
   (rw[az6 qa];(repeat rw[azp qa]);rw[qH];(repeat rw[azp qa]);rw[w64n qa])
   refine⟨_,rfl,k-1,qa,i+1,rfl,qa,by simpa using hl,λv hv=>?_⟩;dsimp only;rw[Hz4 hlt];by_cases hvi:v=i
   ·rw[qc hvi];show(-1:Int)<0;decide
   ·rw[qb hvi];exact hn v qa
  ·right;rw[az5 qa];exact⟨_,rfl,hl,λv hv=>hn v qa⟩
 ·rintro y ⟨hyl,hyn⟩
  ((repeat rw[azp qa]))
  have hset:∀v:Int,0<=v->lab (y.set t.toNat ⟨0,0⟩) v=if v=t then⟨0,0⟩else lab y v:=λv hv=>az2u ⟨ht.1,qa⟩ hv
  refine az03 (g:=λl=>l) (λk (x:List azh×Bool)=>∃r:Nat,r+k=m.Xc.length+2/\r<=m.Xc.length+1/\LOk m mode t (2 * m.Xa.length * r) x.1/\Fin' m mode t r x.1/\(x.2=false->∀j,j<m.Xa.length->SatE m mode x.1 j)/\(r=m.Xc.length+1->x.2=false))
   (λl=>LOk m mode t (2 * m.Xa.length * (m.Xc.length+1)) l/\∀j,j<m.Xa.length->SatE m mode l j) (m.Xc.length+2) ⟨0,qa,qa,⟨by simpa using hyl,by rw[hset t ht.1,qc rfl],λv h0 h1=>?_⟩,λv c k hb hk=>?_,by simp,by simp⟩ qa ?_ ?_
  ·rw[hset v h0];by_cases hvt:v=t
   ·rw[qc hvt];subst hvt;exact .inr ⟨.nil,by simp⟩
   ·rw[qb hvt];simp only[wx]at h1;exact .inl (hyn v.toNat qa)
  ·have h1:=hb.1.ge g;obtain⟨rfl,rfl⟩:=hb.1.zero g qa;have:k=0:=qa
   subst this;rw[hset v ht.1,qc rfl]
  ·rintro k ⟨l,ag⟩ ⟨r,hr,hrn,hlok,hfin,hsat,hlast⟩;simp only at hlok hfin hsat hlast;dsimp only;cases ag with
   |false=>
    right;rw[ez3 (by rfl)];refine⟨_,rfl,⟨hlok.1,hlok.2.1,λv h0 h1=>?_⟩,hsat rfl⟩;rcases hlok.2.2 v h0 h1 with h2|⟨h2,h3⟩
    ·exact .inl h2
    ·refine .inr ⟨h2,zd h3 ?_⟩;exact qL qa qa
   |true=>
    left;rw[dzo (by rfl)];have hrn':r<=m.Xc.length:=by
     by_cases h:r=m.Xc.length+1
     ·exact absurd (hlast h) (by simp)
     ·omega
    have hB:(2 * m.Xa.length * r:Int)<=40000:=by
     have h1:(2 * m.Xa.length * r:Int)<=2 * m.Xa.length * 100:=qL qa qa;omega
    refine az03 (g:=Step3.next) (λk' (x:List azh×Bool×Int)=>∃i:Nat,x.2.2=(i:Int)/\i+k'=m.Xa.length/\LOk m mode t (2 * m.Xa.length * r+2 * i) x.1/\Fin' m mode t r x.1/\(∀j,j<i->Done m mode t r x.1 j)/\
     (x.2.1=true->r<m.Xc.length)/\(x.2.1=false->∀j,j<i->SatE m mode x.1 j))
     (λx=>LOk m mode t (2 * m.Xa.length * r+2 * m.Xa.length) x.1/\Fin' m mode t r x.1/\(∀j,j<m.Xa.length->Done m mode t r x.1 j)/\
      (x.2=true->r<m.Xc.length)/\(x.2=false->∀j,j<m.Xa.length->SatE m mode x.1 j)) m.Xa.length ⟨0,rfl,qa,by simpa using hlok,hfin,λj hj=>qa,by simp,λ_ j hj=>qa⟩ qa ?_ ?_
    ·rintro k' ⟨l',ag',x⟩ ⟨i,hx,hi,q1,q2,q3,q4,q5⟩;simp only at hx q1 q2 q3 q4 q5;subst hx;dsimp only;by_cases hlt:i<m.Xa.length
     ·left
      (rw[az6 qa];(repeat rw[azp qa]);rw[qH,Mzr,qM])
      by_cases hu:hzi (m.Xa.getD i qw).Xr mode=true
      ·rw[ez3 (by rw[hu];rfl)];have htwo:=azb1 (R:=Step3 Unit (List azh×Bool) (Step3 (List azh×Bool×Int) (List azh×Bool) (Step3 (List azh×Bool) (List azh) (List azh)))) qa hw ht qa q1 q2 (ag:=ag') hlt hu;obtain⟨o1,o2,o3,o4,o5⟩:=(hw i hlt).1;have he1:Eg m mode (m.Xa.getD i qw).V (m.Xa.getD i qw).U (m.Xa.getD i qw).Xi:=⟨i,hlt,hu,rfl,.inr ⟨rfl,rfl⟩⟩;obtain⟨k1,k2,k3,k4,k5,k6⟩:=Mz9 (ag:=ag') hw ht q1 q2 he1 qa;have he2:=g.sym _ _ _ he1;generalize hs1:lzx (m.Xa.getD i qw).U (m.Xa.getD i qw).V (m.Xa.getD i qw).Xi (l',ag')=s1 at htwo k1 k2 k3 k4 k5 k6;obtain⟨l1,a1⟩:=s1;simp only at k1 k2 k3 k4 k5 k6;obtain⟨j1,j2,j3,j4,j5,j6⟩:=Mz9 (ag:=a1) hw ht k1 k2 he2 qa;generalize hs2:lzx (m.Xa.getD i qw).V (m.Xa.getD i qw).U (m.Xa.getD i qw).Xi (l1,a1)=s2 at htwo j1 j2 j3 j4 j5 j6;obtain⟨l2,a2⟩:=s2;simp only at j1 j2 j3 j4 j5 j6;rw[jzf htwo,az7,w64n qa];have hmono:az5c l' l2:=λv hv=>by
        have h1:=k3 v hv;have h2:=j3 v h1.1;omega
       refine⟨_,rfl,k'-1,qa,i+1,rfl,qa,by simpa[show(2 * m.Xa.length * r+2 * i+1+1:Int)=2 * m.Xa.length * r+2 * ((i+1:Nat):Int) from qa]using j1,j2,λj hj=>?_,λha=>?_,λha j hj=>?_⟩
       ·by_cases hji:j=i
        ·subst hji;intro _ p q hpq c k hb hk;rcases hpq with⟨rfl,rfl⟩|⟨rfl,rfl⟩
         ·have e1:=k2 _ _ _ hb hk;have e0:=hb.1.ge g;unfold Sat' at k4;rw[e1]at k4;have h1:=k4 e0.1;have h2:=j3 _ h1.1;simp only at h1;dsimp only;omega
         ·have e1:=j2 _ _ _ hb hk;have e0:=hb.1.ge g;unfold Sat' at j4;rw[e1]at j4;have h1:=j4 e0.1;simp only at h1;exact h1
        ·exact(q3 j qa).mono hmono
       ·simp only at ha;rcases j5 with h|h
        ·rw[ha]at h;rcases k5 with h'|h'
         ·rw[<-h]at h';exact q4 h'.symm
         ·omega
        ·omega
       ·simp only at ha;obtain⟨rfl,rfl⟩:=j6 ha;obtain⟨rfl,rfl⟩:=k6 rfl;by_cases hji:j=i
        ·subst hji;intro _;exact⟨k4,j4⟩
        ·exact q5 rfl j qa
      ·have huf:hzi (m.Xa.getD i qw).Xr mode=false:=by simpa using hu
       rw[huf,dzo (by rfl),az7,w64n qa];refine⟨_,rfl,k'-1,qa,i+1,rfl,qa,⟨q1.1,q1.2.1,λv h0 h1=>?_⟩,q2,λj hj=>?_,q4,λha j hj=>?_⟩
       ·rcases q1.2.2 v h0 h1 with h2|⟨h2,h3⟩
        ·exact .inl h2
        ·exact .inr ⟨h2,zd h3 qa⟩
       ·by_cases hji:j=i
        ·subst hji;intro h;exact absurd h hu
        ·exact q3 j qa
       ·by_cases hji:j=i
        ·subst hji;intro h;exact absurd h hu
        ·exact q5 ha j qa
     ·right;rw[az5 qa];have hie:i=m.Xa.length:=qa
      subst hie;exact⟨_,rfl,q1,q2,q3,q4,q5⟩
    ·rintro⟨l',ag'⟩ ⟨q1,q2,q3,q4,q5⟩;simp only at q1 q2 q3 q4 q5;refine⟨_,rfl,k-1,qa,r+1,qa,qa,?_,λv c kk hb hk=>?_,q5,λh=>?_⟩
     ·have:(2 * m.Xa.length * ((r+1:Nat):Int):Int)=2 * m.Xa.length * r+2 * m.Xa.length:=by
       rw[show((r+1:Nat):Int)=(r:Int)+1 from qa,Int.mul_add];omega
      rw[this];exact q1
     ·by_cases hkr:kk<=r
      ·exact q2 v c kk hb hkr
      ·obtain⟨u,e,⟨j,hj,hu,hc,hpq⟩,hbu⟩:=hb.step qa;have h1:=q3 j hj hu u v qa _ _ hbu qa;have hv:=hb.1.lt g ht;have hq1l:=q1.1;rcases q1.2.2 v hv.1 (qa)with h2|⟨h2,_⟩
       ·omega
       ·have h3:=hb.2 _ _ h2;have e1:(lab l' v).Xi=c:=qa
        have e2:(lab l' v).Xa=kk:=qa
        generalize lab l' v=z at e1 e2;obtain⟨z1,z2⟩:=z;simp only at e1 e2;rw[e1,e2]
     ·cases ag' with
      |false=>rfl
      |true=>have:=q4 rfl;omega
  ·rintro l ⟨hlok,hsat⟩;refine⟨l,rfl,hlok.1,λv h0 h1=>?_⟩;have hclosed:∀v c k,Walk (Eg m mode) t v c k->0<=(lab l v).Xi/\((lab l v).Xi<c\/(lab l v).Xi=c/\(lab l v).Xa<=k):=by
    intro v c k hwk;refine az1o (lc:=λv=>(lab l v).Xi) (lk:=λv=>(lab l v).Xa) (isSet:=λv=>0<=(lab l v).Xi) ?_ ?_ hwk
    ·rw[hlok.2.1];simp
    ·rintro v u e ⟨j,hj,hu,hc,hpq⟩ hset;obtain⟨s1,s2⟩:=hsat j hj hu;rcases hpq with⟨rfl,rfl⟩|⟨rfl,rfl⟩
     ·have:=s2 hset;rw[hc]at this;exact this
     ·have:=s1 hset;rw[hc]at this;exact this
   have hll:=hlok.1;rcases hlok.2.2 v h0 (qa)with h2|⟨h2,_⟩
   ·refine .inl ⟨h2,λc k hwk=>?_⟩;have:=(hclosed v c k hwk).1;omega
   ·exact .inr ⟨h2,λc' k' hwk=>(hclosed v c' k' hwk).2⟩
end
theorem Xzm (m:aze)(fr t:Int)(hs:szm m)(hN:100000<=NN):∃b,(xze m fr t).o=some b/\(b=true↔Zzg m fr t):=by
 simp only[Rze,xzf,qk];unfold Zzg;obtain⟨b,hb,hbw⟩:=Tz3 m hs qa;rw[hb,qM];cases b with
 |false=>
  rw[ez3 (by rfl)];exact⟨_,rfl,by simp only[za,false_iff];intro h;have:=hbw.2 h.1;cases this⟩
 |true=>
  have hw:=hbw.1 rfl;rw[dzo (by rfl)];by_cases h1:fr>=0
  ·rw[az6 h1];by_cases h2:fr<(m.Xc.length:Int)
   ·rw[az6 h2];by_cases h3:t>=0
    ·rw[az6 h3];exact⟨_,rfl,by simp only[qf];exact⟨λh=>⟨hw,⟨h1,h2⟩,h3,h⟩,λh=>h.2.2.2⟩⟩
    ·rw[az5 h3];exact⟨_,rfl,by simp only[za,false_iff];omega⟩
   ·rw[az5 h2];exact⟨_,rfl,by simp only[za,false_iff];omega⟩
  ·rw[az5 h1];exact⟨_,rfl,by simp only[za,false_iff];omega⟩
theorem az0e (m:aze)(fr t mode:Int)(hs:szm m)(h:Zzg m fr t)(hm:0<=mode/\mode<=2)(hN:100000<=NN):∃r,(jzj m fr t mode).o=some r/\az83 m fr t mode r:=by
 obtain⟨b,hb,hbw⟩:=Xzm m fr t hs hN;have hbt:=hbw.2 h;subst hbt;obtain⟨hw,hf,ht⟩:=h;have g:=Eg.graph hw mode;obtain⟨l,hl,hll,hlab⟩:=az2v m mode t hs hw ht hN;simp only[yzk,jzk,qk]
 (rw[hb,qM,ez3 (by rfl),az5 qa,az7,az5 qa,hl,qM];(repeat rw[azp qa]))
 have hs1:=hs.1;have hs2:=hs.2;rcases hlab fr hf.1 hf.2 with⟨h1,h2⟩|hb
 ·rw[az6 h1];exact⟨_,rfl,.inl ⟨rfl,rfl,h2⟩⟩
 ·have hb0:=hb.1.ge g;have hbn:=hb.few g ht
  (rw[az5 (show ¬ (lab l fr).Xi<0 from qa)];(repeat rw[azp qa]))
  generalize hcf:(lab l fr).Xi=cf at hb hb0;generalize hkf:(lab l fr).Xa=kf at hb hb0 hbn
  refine az03 (g:=λr=>r) (λk (z:List Int×Int)=>∃c',Best (Eg m mode) t z.2 c' (k:Int)/\lab l z.2=⟨c',k⟩/\∃pre,z.1=fr::pre/\(pre.length+k:Int)<=kf/\∀l',Rt (Eg m mode) t z.2 l'->Rt (Eg m mode) t fr (pre++l'))
   (λacc=>∃l',acc=fr::l'/\Rt (Eg m mode) t fr l') kf.toNat ⟨cf,by dsimp only;rw[x9 hb0.2];exact hb,?_,[],rfl,by simp;omega,λl' h=>h⟩ qa ?_ ?_
  ·dsimp only;rw[x9 hb0.2];generalize lab l fr=z at hcf hkf;obtain⟨z1,z2⟩:=z;simp only at hcf hkf;rw[hcf,hkf]
  ·rintro k ⟨acc,v⟩ ⟨c',hbv,hlv,pre,hacc,hpl,hrt⟩;simp only at hbv hlv hacc hpl hrt;subst hacc;dsimp only;by_cases hvt:v=t
   ·right;rw[bzb hvt];refine⟨_,rfl,pre,rfl,?_⟩;have:=hrt [] (by rw[hvt];exact .nil);simpa using this
   ·left;rw[bzq hvt];have hvl:=hbv.1.lt g ht;have hbv0:=hbv.1.ge g;have hk1:=hbv.ne g hvt;have hvc:(lab l v).Xi=c':=by rw[hlv]
    have hve:(lab l v).Xa=k:=by rw[hlv]
    have hcand:∀i,i<m.Xa.length->hzi (m.Xa.getD i qw).Xr mode=true->∀w,((m.Xa.getD i qw).U=v/\(m.Xa.getD i qw).V=w\/(m.Xa.getD i qw).V=v/\(m.Xa.getD i qw).U=w)->
     (0<=(lab l w).Xi/\(lab l w).Xi+(m.Xa.getD i qw).Xi=c'/\(lab l w).Xa+1=k↔Best (Eg m mode) t w (c'- (m.Xa.getD i qw).Xi) (k-1)):=by
     intro i hi hu w hvw;have he:Eg m mode v w (m.Xa.getD i qw).Xi:=⟨i,hi,hu,rfl,qa⟩;have hwl:=g.lt _ _ _ he;rcases hlab w hwl.2.2.1 hwl.2.2.2 with⟨h1,h2⟩|hbw
     ·constructor
      ·intro h;omega
      ·intro h;exact absurd h.1 (h2 _ _)
     ·constructor
      ·rintro⟨_,h3,h4⟩;rw[show c'- (m.Xa.getD i qw).Xi=(lab l w).Xi from qa,show(k:Int)-1=(lab l w).Xa from qa];exact hbw
      ·intro h;have:=hbw.unique h;have:=hbw.1.ge g;omega
    refine az03 (g:=Step3.next) (λk' (z:Int×Int)=>∃i:Nat,z.2=(i:Int)/\i+k'=m.Xa.length/\
     ((z.1= -1/\∀j,j<i->hzi (m.Xa.getD j qw).Xr mode=true->∀w,((m.Xa.getD j qw).U=v/\(m.Xa.getD j qw).V=w\/(m.Xa.getD j qw).V=v/\(m.Xa.getD j qw).U=w)->¬Best (Eg m mode) t w (c'- (m.Xa.getD j qw).Xi) (k-1))\/
      (0<=z.1/\(∃e,Eg m mode v z.1 e/\Best (Eg m mode) t z.1 (c'-e) (k-1))/\∀j,j<i->hzi (m.Xa.getD j qw).Xr mode=true->∀w,((m.Xa.getD j qw).U=v/\(m.Xa.getD j qw).V=w\/(m.Xa.getD j qw).V=v/\(m.Xa.getD j qw).U=w)->Best (Eg m mode) t w (c'- (m.Xa.getD j qw).Xi) (k-1)->z.1<=w)))
     (λw=>azbu (Eg m mode) t v w/\∃e,Eg m mode v w e/\Best (Eg m mode) t w (c'-e) (k-1)) m.Xa.length ⟨0,rfl,qa,.inl ⟨rfl,λj hj=>qa⟩⟩ qa ?_ ?_
    ·rintro k' ⟨nx,x⟩ ⟨i,hx,hi,hinv⟩;simp only at hx hinv;subst hx;dsimp only;by_cases hlt:i<m.Xa.length
     ·left;obtain⟨o1,o2,o3,o4,o5⟩:=(hw i hlt).1
      (rw[az6 qa];(repeat rw[azp qa]);rw[qH,Mzr,qM])
      have skip:(∀w,hzi (m.Xa.getD i qw).Xr mode=true->((m.Xa.getD i qw).U=v/\(m.Xa.getD i qw).V=w\/(m.Xa.getD i qw).V=v/\(m.Xa.getD i qw).U=w)->¬Best (Eg m mode) t w (c'- (m.Xa.getD i qw).Xi) (k-1))->
       ∃x',(some (Step3.next (nx,((i+1:Nat):Int))):Option (Step3 (Int×Int) Int (Step3 (List Int×Int) (List Int) (bzy×Bool))))=some (.next x')/\∃m',m'<k'/\∃i:Nat,x'.2=(i:Int)/\i+m'=m.Xa.length/\
      ((x'.1= -1/\∀j,j<i->hzi (m.Xa.getD j qw).Xr mode=true->∀w,((m.Xa.getD j qw).U=v/\(m.Xa.getD j qw).V=w\/(m.Xa.getD j qw).V=v/\(m.Xa.getD j qw).U=w)->¬Best (Eg m mode) t w (c'- (m.Xa.getD j qw).Xi) (k-1))\/
       (0<=x'.1/\(∃e,Eg m mode v x'.1 e/\Best (Eg m mode) t x'.1 (c'-e) (k-1))/\∀j,j<i->hzi (m.Xa.getD j qw).Xr mode=true->∀w,((m.Xa.getD j qw).U=v/\(m.Xa.getD j qw).V=w\/(m.Xa.getD j qw).V=v/\(m.Xa.getD j qw).U=w)->Best (Eg m mode) t w (c'- (m.Xa.getD j qw).Xi) (k-1)->x'.1<=w)):=by
        intro hno;refine⟨_,rfl,k'-1,qa,i+1,rfl,qa,?_⟩;rcases hinv with⟨h1,h2⟩|⟨h1,h2,h3⟩
        ·refine .inl ⟨h1,λj hj hu w hvw=>?_⟩;by_cases hji:j=i
         ·subst hji;exact hno w hu hvw
         ·exact h2 j qa hu w hvw
        ·refine .inr ⟨h1,h2,λj hj hu w hvw hbw=>?_⟩;by_cases hji:j=i
         ·subst hji;exact absurd hbw (hno w hu hvw)
         ·exact h3 j qa hu w hvw hbw
      by_cases hu:hzi (m.Xa.getD i qw).Xr mode=true
      ·rw[ez3 (by rw[hu];rfl)];by_cases hend:(m.Xa.getD i qw).U=v\/(m.Xa.getD i qw).V=v
       ·have hy:(bif ((m.Xa.getD i qw).U !=v)then(some (.out ((m.Xa.getD i qw).V !=v)):Option (Step3 Unit Bool (Step3 Unit Int (Step3 (Int×Int) Int (Step3 (List Int×Int) (List Int) (bzy×Bool))))))else some (.out false))=some (.out false):=by
         by_cases h1:(m.Xa.getD i qw).U=v
         ·rw[bzb h1]
         ·rw[bzq h1];have:((m.Xa.getD i qw).V !=v)=false:=by simpa using hend.resolve_left h1
          rw[this]
        rw[hy,az7,ez3 (by rfl)];obtain⟨w,hvw,hz⟩:∃w,((m.Xa.getD i qw).U=v/\(m.Xa.getD i qw).V=w\/(m.Xa.getD i qw).V=v/\(m.Xa.getD i qw).U=w)/\qv.wrap (qv.wrap ((m.Xa.getD i qw).U+(m.Xa.getD i qw).V)-v)=w:=by
         rw[w64 (x:=(m.Xa.getD i qw).U+(m.Xa.getD i qw).V) qa qa,w64 qa qa];refine⟨_,?_,rfl⟩;omega
        rw[hz];have he:Eg m mode v w (m.Xa.getD i qw).Xi:=⟨i,hlt,hu,rfl,qa⟩;have hwl:=g.lt _ _ _ he;have hc:=hcand i hlt hu w hvw;have hone:∀w',((m.Xa.getD i qw).U=v/\(m.Xa.getD i qw).V=w'\/(m.Xa.getD i qw).V=v/\(m.Xa.getD i qw).U=w')->w'=w:=λw' h=>qa
        have hlw:(lab l w).Xi<0\/(0<=(lab l w).Xi/\(lab l w).Xi<=100 * 1099511627776/\0<=(lab l w).Xa/\(lab l w).Xa<=100):=by
         rcases hlab w hwl.2.2.1 hwl.2.2.2 with⟨h1,_⟩|hbw
         ·exact .inl h1
         ·have a1:=hbw.1.ge g;have a2:=hbw.1.le g;have a3:=hbw.few g ht;have a4:(lab l w).Xa * 1099511627776<=100 * 1099511627776:=wK qa qa;exact .inr ⟨a1.1,qa,a1.2,qa⟩
        ((repeat rw[azp qa]))
        by_cases hok:0<=(lab l w).Xi/\(lab l w).Xi+(m.Xa.getD i qw).Xi=c'/\(lab l w).Xa+1=k
        ·have hbw:=hc.1 hok
         (rw[az6 (show(lab l w).Xi>=0 from qa)];(repeat rw[azp qa]);rw[w64 (x:=(lab l w).Xi+(m.Xa.getD i qw).Xi) qa qa,czn (show(lab l w).Xi+(m.Xa.getD i qw).Xi=(lab l v).Xi from qa)];(repeat rw[azp qa]);rw[w64 (x:=(lab l w).Xa+1) qa qa,czn (show(lab l w).Xa+1=(lab l v).Xa from qa)])
         by_cases hnx:nx<0
         ·rw[az6 hnx,az7,dzo (by rfl),az7,w64n qa];refine⟨_,rfl,k'-1,qa,i+1,rfl,qa,.inr ⟨hwl.2.2.1,⟨_,he,hbw⟩,λj hj hu' w' hvw' hbw'=>?_⟩⟩;by_cases hji:j=i
          ·subst hji;rw[hone w' hvw'];exact xh _
          ·rcases hinv with⟨_,h2⟩|⟨h1,_⟩
           ·exact absurd hbw' (h2 j qa hu' w' hvw')
           ·omega
         ·rw[az5 hnx,az7];rcases hinv with⟨h1,h2⟩|⟨h1,h2,h3⟩
          ·omega
          ·by_cases hlt2:w<nx
           ·rw[az6 hlt2,az7,w64n qa];refine⟨_,rfl,k'-1,qa,i+1,rfl,qa,.inr ⟨hwl.2.2.1,⟨_,he,hbw⟩,λj hj hu' w' hvw' hbw'=>?_⟩⟩;by_cases hji:j=i
            ·subst hji;rw[hone w' hvw'];exact xh _
            ·have:=h3 j qa hu' w' hvw' hbw';dsimp only;omega
           ·rw[az5 hlt2,az7,w64n qa];refine⟨_,rfl,k'-1,qa,i+1,rfl,qa,.inr ⟨h1,h2,λj hj hu' w' hvw' hbw'=>?_⟩⟩;by_cases hji:j=i
            ·subst hji;rw[hone w' hvw'];dsimp only;omega
            ·exact h3 j qa hu' w' hvw' hbw'
        ·have hfin:(bif (qx ((lab l w).Xi>=0))then
          bif ((qv.wrap ((lab l w).Xi+(m.Xa.getD i qw).Xi))==(lab l v).Xi)then
           bif ((qv.wrap ((lab l w).Xa+1))==(lab l v).Xa)then
            bif (qx (nx<0))then
             some (.out true)
            else
             some (.out (qx (w<nx)))
           else
            some (.out false)
          else
           some (.out false)
          else
           (some (.out false):Option (Step3 Unit Bool (Step3 Unit Int (Step3 (Int×Int) Int (Step3 (List Int×Int) (List Int) (bzy×Bool)))))))=some (.out false):=by
          by_cases h1:(lab l w).Xi>=0
          ·(rw[az6 h1];(repeat rw[azp qa]);rw[w64 (x:=(lab l w).Xi+(m.Xa.getD i qw).Xi) qa qa])
           by_cases h2:(lab l w).Xi+(m.Xa.getD i qw).Xi=(lab l v).Xi
           ·(rw[czn h2];(repeat rw[azp qa]);rw[w64 (x:=(lab l w).Xa+1) qa qa,czo qa])
           ·rw[czo h2]
          ·rw[az5 h1]
         rw[hfin,az7,ez3 (by rfl),az7,w64n qa];exact skip (λw' _ hvw' hbw'=>hok (hc.2 (by rw[<-hone w' hvw'];exact hbw')))
       ·rw[bzq (λh=>hend (.inl h))];have:((m.Xa.getD i qw).V !=v)=true:=by
         rw[bne_iff_ne];exact λh=>hend (.inr h)
        rw[this,az7,dzo (by rfl),az7,w64n qa];exact skip (λw' _ hvw' _=>hend qa)
      ·have huf:hzi (m.Xa.getD i qw).Xr mode=false:=by simpa using hu
       rw[huf,dzo (by rfl),az7,dzo (by rfl),az7,w64n qa];exact skip (λw' h _ _=>hu h)
     ·right;rw[az5 qa];have hie:i=m.Xa.length:=qa
      subst hie;obtain⟨u0,e0,⟨j0,hj0,hu0,hc0,hpq0⟩,hbu0⟩:=hbv.step qa;rcases hinv with⟨_,h2⟩|⟨h1,h2,h3⟩
      ·exact absurd (by rw[hc0];exact hbu0) (h2 j0 hj0 hu0 u0 qa)
      ·obtain⟨e1,he1,hb1⟩:=h2;refine⟨_,rfl,⟨⟨c',k,e1,hbv,he1,hb1⟩,?_⟩,e1,he1,hb1⟩;rintro w' ⟨c2,k2,e2,hbv2,⟨j,hj,hu,hc,hpq⟩,hbw2⟩;obtain⟨rfl,rfl⟩:=hbv.unique hbv2;exact h3 j hj hu w' qa (by rw[hc];exact hbw2)
    ·rintro w ⟨hnext,e1,he1,hb1⟩;have hwl:=g.lt _ _ _ he1;have hb10:=hb1.1.ge g;have hkk:((k-1:Nat):Int)=(k:Int)-1:=qa
     ((repeat(first|rw[azp qa]|rw[azp (by simp only[wx];omega)]|rw[azp (by simp only[wA,w7,azg];omega)]|rw[azp (by simp only[List.length_singleton,wx,List.length_replicate,azg,and_true];omega)]|rw[azp (by rw[azg];simp only[wA];omega)])))
     refine⟨_,rfl,k-1,qa,c'-e1,by dsimp only;rw[hkk];exact hb1,?_,pre++[w],by simp,by simp;omega,λl' hl'=>?_⟩
     ·dsimp only;rcases hlab w hwl.2.2.1 hwl.2.2.2 with⟨_,h2⟩|hbw
      ·exact absurd hb1.1 (h2 _ _)
      ·have:=hbw.unique hb1;generalize lab l w=z at this;obtain⟨z1,z2⟩:=z;simp only at this;rw[this.1,this.2,hkk]
     ·have:=hrt (w::l') (.cons hvt hnext hl');simpa using this
  ·rintro acc ⟨l',rfl,hl'⟩;exact⟨_,rfl,.inr ⟨rfl,cf,kf,l',hb,hl',rfl⟩⟩
theorem Nzx (m:aze)(fr t mode:Int)(hs:szm m)(hN:100000<=NN):∃r,(jzj m fr t mode).o=some r/\azby m fr t mode r:=by
 by_cases h:Zzg m fr t/\0<=mode/\mode<=2
 ·obtain⟨r,h1,h2⟩:=az0e m fr t mode hs h.1 h.2 hN;exact⟨r,h1,.inr ⟨h,h2⟩⟩
 ·refine⟨_,?_,.inl ⟨h,rfl⟩⟩;obtain⟨b,hb,hbw⟩:=Xzm m fr t hs hN;simp only[yzk,jzk,qk];rw[hb,qM];cases b with
  |false=>rw[dzo (by rfl),az7,dzo (by rfl)]
  |true=>
   have ha:=hbw.1 rfl;rw[ez3 (by rfl)];by_cases h3:mode<0
   ·rw[az6 h3,az7,dzo (by rfl)]
   ·rw[az5 h3,az7,az6 (by
     refine x7 λhc=>h ⟨ha,qa,qa⟩)]
open Go.Proofs
def PieB (x:az8):Prop:=x.Xe.length<4294967296
def ResM (x:azr):Prop:=(x.Xo.length<4294967296/\∀c∈x.Xo,PieB c)/\PieB x.At/\x.Xl.Left.length<4294967296/\x.Xl.Xv.length<4294967296
theorem azcz (r:azo)(P:List (List Int))(a b:Int):ResM (newE r P a b).Xn:=
 ⟨⟨(by show(0:Nat)<4294967296;decide),λc hc=>(by cases hc)⟩,(by show(0:Nat)<4294967296;decide),(by show(0:Nat)<4294967296;decide),(by show(0:Nat)<4294967296;decide)⟩
open Go.Proofs
def stV (k:Int):Int:=if k=1 then 1 else if k=2 then 2 else 3
def az2z (x:az4)(r:azr):az4:=⟨x.U,x.V,x.Xi,stV r.Xm,r⟩
def pvR (s:azd)(p q:List Int)(d:Int):azr:=match(jzx s p q d).o with|some r=>r|none=>qw
theorem azda (s:azd)(p q:List Int)(hp:p.length<4294967296)(hq:q.length<4294967296){d:Int}(h0:0<=d)(h20:d<=20):(jzx s p q d).o=some (pvR s p q d)/\ProveOk s p q d (pvR s p q d):=by
 obtain⟨r,h1,h2⟩:=Lzv s p q hp hq h0 h20;have:pvR s p q d=r:=by unfold pvR;rw[h1]
 rw[this];exact⟨h1,h2⟩
def tstE (s:azd)(P:List (List Int))(d:Int)(x:az4):az4:=az2z x (pvR s (P.getD x.U.toNat qw) (P.getD x.V.toNat qw) d)
open Go.Proofs
def nxV (P:List (List Int))(x y:Int)(E:List az4):Int×List Int×Int×Int:=match(Gz7 ⟨P,E⟩ x y).o with|some r=>r|none=>qw
structure NxOk (P:List (List Int)) (E:List az4) (r:Int×List Int×Int×Int):Prop where
 st:r.2.2.2=0\/r.2.2.2=1\/r.2.2.2=2\/r.2.2.2=3
 ed:r.2.2.2=3->0<=r.1/\r.1<(E.length:Int)/\(E.getD r.1.toNat qw).Xr=0/\yzs P.length (E.getD r.1.toNat qw)
 len:r.2.1.length<=101
def stE (s:azd)(P:List (List Int))(x y d:Int)(E:List az4):List az4:=
 E.set (nxV P x y E).1.toNat (tstE s P d (E.getD (nxV P x y E).1.toNat qw))
def itE (s:azd)(P:List (List Int))(x y d:Int)(E:List az4):Nat->List az4
 |0=>E
 |n+1=>stE s P x y d (itE s P x y d E n)
structure LzOk (P:List (List Int)) (n:Nat) (E:List az4):Prop where
 len:E.length=n
 n200:n<=200
 p100:P.length<=100
 pts:∀c∈P,c.length<4294967296
 prf:∀e∈E,ResM e.Xn
section
variable {s:azd} {P:List (List Int)} {x y d:Int} (h0:0<=d) (h20:d<=20)
include h0 h20
end
open Go.Proofs
def nmL (i:Nat):ByteArray:=(⟨#[97,98,99,100,101,102,103,104,105,106]⟩:ByteArray).extract i (i+1)
theorem aze1 (t:Nat)(h:t<8):0<=([3,3,1,2,4,5,3,0]:List Int).getD t 0/\([3,3,1,2,4,5,3,0]:List Int).getD t 0<=5:=by
 revert t;decide
def JV (i:Nat)(j:azz):Prop:=j.XA=nmL i/\(0<=j.Xm/\j.Xm<=6)/\(-1<=j.Xt/\j.Xt<(i:Int))/\hze j.Xw 4194304=true/\(-fzg j.Xm<=j.Lo/\j.Lo<=j.Hi/\j.Hi<=fzg j.Xm)/\Vzu j=true
section
variable {l:List Int} (hl:l.length<4294967296) {n:Int} (h0:0<=n) (h1:n<=(l.length:Int))
include hl h0 h1
theorem Tzq {i:Nat}(i1:i<=2):∃j n',(nzq l n (i:Int)).o=some (j,l,n')/\JV i j/\0<=n'/\n'<=(l.length:Int):=by
 have e0:(nzq l n (i:Int)).o=(nzr l n (i:Int)).run NN:=rfl;rw[e0];simp only[nzr,qk];have el:(kzq (i:Int)).o=some (nmL i):=by
  have e1:(kzq (i:Int)).o=(kzr (i:Int)).run NN:=rfl;rw[e1];simp only[kzr,qk];rw[wn qa,aza ⟨qa,qa,by rw[show((⟨#[97,98,99,100,101,102,103,104,105,106]⟩:ByteArray).size)=10 from rfl];omega⟩];rfl
 obtain⟨r1,n1,e1,a1,b1,c1,d1⟩:=azt hl h0 h1 (k:=4) (by decide) (by decide);obtain⟨r2,n2,e2,a2,b2,c2,d2⟩:=azt hl c1 d1 (k:=3) (by decide) (by decide);obtain⟨r3,n3,e3,a3,b3,c3,d3⟩:=azt hl c2 d2 (k:=8) (by decide) (by decide);obtain⟨r4,n4,e4,a4,b4,c4,d4⟩:=azt hl c3 d3 (k:=4) (by decide) (by decide);rw[el,qM,e1,qM,e2,qM,e3,qM,aza ⟨by simp only;omega,by simp only;omega⟩,e4,qM];have hK6:=aze1 r3.toNat qa;generalize hK:([3,3,1,2,4,5,3,0]:List Int).getD r3.toNat 0=K at hK6;have rest:∀ (m pr:Int),0<=m->m<=(l.length:Int)->(-1<=pr/\pr<(i:Int))->∃j n',(andC (bif qx ((i:Int)>0)then(bzv l m 2).o.bind λy21=>(bzv y21.2.1 y21.2.2 1).o.bind λy22=>some (.out (y22.2.1,y22.2.2,131072,qv.wrap (y21.1 * 32768),qv.wrap (y22.1 * 32768)))else some (.out (l,m,0,0,0)):Option (Step3 Unit (List Int×Int×Int×Int×Int) (azz×List Int×Int))) λy20=>
  andC (bif K==0 then some (.out (y20.1,y20.2.1,0,0))else andC (bif K==4 then some (.out (K==4))else some (.out (K==5)):Option (Step3 Unit Bool (Step3 Unit (List Int×Int×Int×Int) (azz×List Int×Int)))) λy36=>
   bif y36 then(azq y20.1 y20.2.1 3).o.bind λy37=>(azq y37.2.1 y37.2.2 4).o.bind λy38=>some (.out (y38.2.1,y38.2.2,qv.wrap (qv.wrap (0-y37.1) * 65536),qv.wrap (y38.1 * 32768)))
   else(azq y20.1 y20.2.1 5).o.bind λy39=>(azq y39.2.1 y39.2.2 4).o.bind λy40=>(azq y40.2.1 y40.2.2 3).o.bind λy41=>
    some (.out (y41.2.1,y41.2.2,qv.wrap ((qv.wrap (qv.wrap (0-y39.1) * 65536)).tdiv 8),qv.wrap (qv.wrap ((qv.wrap (qv.wrap (1+y40.1) * 65536)).tdiv 8)+y41.1))):Option (Step3 Unit (List Int×Int×Int×Int) (azz×List Int×Int))) λy35=>
  some ((⟨nmL i,K,pr,(y20.2.2.1,y20.2.2.2.1,y20.2.2.2.2),y35.2.2.1,y35.2.2.2,qv.wrap (1+r1),65536,qv.wrap (65536+r2),327680⟩:azz),y35.1,y35.2.1))=some (j,l,n')/\JV i j/\0<=n'/\n'<=(l.length:Int):=by
  intro m pr m0 m1 hpr;have jv:∀ (o1 o2 o3 lo hi:Int),((-4194304<=o1/\o1<=4194304)/\(-4194304<=o2/\o2<=4194304)/\(-4194304<=o3/\o3<=4194304))->(-fzg K<=lo/\lo<=hi/\hi<=fzg K)->JV i ⟨nmL i,K,pr,(o1,o2,o3),lo,hi,qv.wrap (1+r1),65536,qv.wrap (65536+r2),327680⟩:=λo1 o2 o3 lo hi ho hr=>by
   have hrb:=Fzf K;have hr2:fzg K<=524288\/(K=4\/K=5):=by unfold fzg;split<;>(try split)<;>omega
   refine⟨rfl,by simp only;omega,by simp only;omega,?_,hr,?_⟩
   ·rw[nearV_iff];exact⟨ho.1,ho.2.1,ho.2.2⟩
   ·rw[w64 (x:=1+r1) qa qa,w64 (x:=65536+r2) qa qa];unfold Vzu betV;simp only[qn,qf];omega
  have lim:∀ (m:Int) (o1 o2 o3:Int),0<=m->m<=(l.length:Int)->((-4194304<=o1/\o1<=4194304)/\(-4194304<=o2/\o2<=4194304)/\(-4194304<=o3/\o3<=4194304))->∃j n',(andC (bif K==0 then some (.out (l,m,0,0))else andC (bif K==4 then some (.out (K==4))else some (.out (K==5)):Option (Step3 Unit Bool (Step3 Unit (List Int×Int×Int×Int) (azz×List Int×Int)))) λy36=>
   bif y36 then(azq l m 3).o.bind λy37=>(azq y37.2.1 y37.2.2 4).o.bind λy38=>some (.out (y38.2.1,y38.2.2,qv.wrap (qv.wrap (0-y37.1) * 65536),qv.wrap (y38.1 * 32768)))
   else(azq l m 5).o.bind λy39=>(azq y39.2.1 y39.2.2 4).o.bind λy40=>(azq y40.2.1 y40.2.2 3).o.bind λy41=>
    some (.out (y41.2.1,y41.2.2,qv.wrap ((qv.wrap (qv.wrap (0-y39.1) * 65536)).tdiv 8),qv.wrap (qv.wrap ((qv.wrap (qv.wrap (1+y40.1) * 65536)).tdiv 8)+y41.1))):Option (Step3 Unit (List Int×Int×Int×Int) (azz×List Int×Int))) λy35=>
   some ((⟨nmL i,K,pr,(o1,o2,o3),y35.2.2.1,y35.2.2.2,qv.wrap (1+r1),65536,qv.wrap (65536+r2),327680⟩:azz),y35.1,y35.2.1))=some (j,l,n')/\JV i j/\0<=n'/\n'<=(l.length:Int):=by
   intro m o1 o2 o3 m0 m1 ho;cases hk0:K==0
   ·simp only[qd,bzf,az7];simp only[beq_eq_false_iff_ne,ne_eq]at hk0;cases hk4:(bif K==4 then K==4 else K==5)
    ·obtain⟨s1,n1,e1,a1,b1,c1,d1⟩:=azt hl m0 m1 (k:=5) (by decide) (by decide);obtain⟨s2,n2,e2,a2,b2,c2,d2⟩:=azt hl c1 d1 (k:=4) (by decide) (by decide);obtain⟨s3,n3,e3,a3,b3,c3,d3⟩:=azt hl c2 d2 (k:=3) (by decide) (by decide);simp only[qd];rw[e1,qM,e2,qM,e3,qM,az7];have hR:fzg K=524288:=by
      have:K≠4/\K≠5:=by
       by_cases h4:K=4
       ·rw[h4]at hk4;cases hk4
       ·rw[czo h4]at hk4;exact⟨h4,by simpa using hk4⟩
      unfold fzg;rw[qb hk0,qc qa]
     refine⟨_,_,rfl,jv _ _ _ _ _ ho ?_,c3,d3⟩;rw[hR];simp only
     rw[w64 (x:=0-s1) qa qa,w64 (x:=(0-s1) * 65536) qa qa,w64 (x:=1+s2) qa qa,w64 (x:=(1+s2) * 65536) qa qa,gz1 (a:=(1+s2) * 65536) qa,
      show(0-s1) * 65536= -(s1 * 65536) from qa,Gzo,gz1 qa,w64 (x:= -(s1 * 65536 / 8)) qa qa,w64 (x:=(1+s2) * 65536 / 8) qa qa,w64 (x:=(1+s2) * 65536 / 8+s3) qa qa]
     omega
    ·obtain⟨s1,n1,e1,a1,b1,c1,d1⟩:=azt hl m0 m1 (k:=3) (by decide) (by decide);obtain⟨s2,n2,e2,a2,b2,c2,d2⟩:=azt hl c1 d1 (k:=4) (by decide) (by decide);simp only[qe];rw[e1,qM,e2,qM,az7];have hR:fzg K=4194304:=by
      have:K=4\/K=5:=by
       by_cases h4:K=4
       ·exact .inl h4
       ·rw[czo h4]at hk4;exact .inr (by simpa using hk4)
      unfold fzg;rw[qb hk0,qb qa]
     refine⟨_,_,rfl,jv _ _ _ _ _ ho ?_,c2,d2⟩;rw[hR];simp only;rw[w64 (x:=0-s1) qa qa,w64 (x:=(0-s1) * 65536) qa qa,w64 (x:=s2 * 32768) qa qa];omega
   ·have hk:K=0:=by simpa using hk0
    have hR:fzg K=0:=by rw[hk];rfl
    exact⟨_,_,rfl,jv _ _ _ _ _ ho (by rw[hR];simp only;omega),m0,m1⟩
  cases qx ((i:Int)>0)
  ·simp only[qd,az7];exact lim m 0 0 0 m0 m1 (by decide)
  ·obtain⟨s1,n1,e1,a1,b1,c1,d1⟩:=czb hl m0 m1 (k:=2) (by decide) (by decide);obtain⟨s2,n2,e2,a2,b2,c2,d2⟩:=czb hl c1 d1 (k:=1) (by decide) (by decide);simp only[qe];rw[e1,qM,e2,qM,az7];rw[w64 (x:=s1 * 32768) qa qa,w64 (x:=s2 * 32768) qa qa];exact lim n2 _ _ _ c2 d2 (by simp only;omega)
 cases r4==1
 ·simp only[qd];rw[w64 (x:=(i:Int)-1) qa qa];exact rest n4 _ c4 d4 (by simp only;omega)
 ·exact rest n4 _ c4 d4 (by simp only;omega)
theorem Tzs:∃b:azo×List Int×Int,(iz0 l n).o=some b/\b.2.1=l/\((1<=b.1.Xb.length/\b.1.Xb.length<=3/\∀t,t<b.1.Xb.length->JV t (b.1.Xb.getD t qw))/\b.1.Xh.length<=2/\∀x∈b.1.Xh,Nzd b.1.Xb.length x=true)/\0<=b.2.2/\b.2.2<=(l.length:Int):=by
 have e0:(iz0 l n).o=(nzs l n).run NN:=rfl;rw[e0];simp only[nzs,qk];obtain⟨r1,n1,e1,a1,b1,c1,d1⟩:=azt hl h0 h1 (k:=3) (by decide) (by decide);rw[e1,qM];simp only;rw[w64 (x:=1+r1) qa qa];obtain⟨R,hR⟩:∃R:Nat,1+r1=(R:Int):=⟨(1+r1).toNat,qa⟩;rw[hR]
 refine nz7 (g:=λb=>b) R qa (λj (y:List Int×Int×List azz×Int)=>y.1=l/\0<=y.2.1/\y.2.1<=(l.length:Int)/\y.2.2.1.length=j/\(∀t,t<j->JV t (y.2.2.1.getD t qw))/\y.2.2.2=(j:Int))
  (λ(z:List Int×Int×List azz)=>z.1=l/\0<=z.2.1/\z.2.1<=(l.length:Int)/\z.2.2.length=R/\∀t,t<R->JV t (z.2.2.getD t qw)) ⟨rfl,c1,d1,rfl,λt ht=>qa,rfl⟩ (λj y hj hy=>?_) (λy hy=>?_) (λz hz=>?_)
 ·obtain⟨f1,f2,f3,f4,f5,f6⟩:=hy;obtain⟨jt,n',ej,hj1,hj2,hj3⟩:=Tzq hl f2 f3 (i:=j) qa;rw[f6,f1,az6 qa,ej,qM];simp only;rw[aza ⟨by simp;omega,by simp[azg];omega⟩,wn qa];refine⟨_,rfl,rfl,hj2,hj3,by simp;omega,λt ht=>?_,rfl⟩;simp only[wo]at f5⊢;by_cases e:t<j
  ·rw[ze qa];exact f5 t e
  ·obtain rfl:t=j:=qa
   rw[zf qa,f4,Nat.sub_self];exact hj1
 ·obtain⟨f1,f2,f3,f4,f5,f6⟩:=hy;rw[f6,az5 qa];exact⟨_,rfl,f1,f2,f3,f4,f5⟩
 ·obtain⟨f1,f2,f3,f4,f5⟩:=hz;obtain⟨r2,n2,e2,a2,b2,c2,d2⟩:=azt hl f2 f3 (k:=3) (by decide) (by decide);rw[f1,e2,qM];simp only;obtain⟨M,hM⟩:∃M:Nat,r2=(M:Int):=⟨r2.toNat,qa⟩;rw[hM]
  refine nz7 (g:=λb=>b) M qa (λj (y:List Int×Int×List cz6×Int)=>y.1=l/\0<=y.2.1/\y.2.1<=(l.length:Int)/\y.2.2.1.length=j/\y.2.2.2=(M:Int)- (j:Int)/\∀x∈y.2.2.1,Nzd R x=true)
   (λ(w:List Int×Int×List cz6)=>w.1=l/\0<=w.2.1/\w.2.1<=(l.length:Int)/\w.2.2.length=M/\∀x∈w.2.2,Nzd R x=true) ⟨rfl,c2,d2,rfl,by simp,λx hx=>by cases hx⟩ (λj y hj hy=>?_) (λy hy=>?_) (λw hw=>?_)
  ·obtain⟨g1,g2,g3,g4,g5,g6⟩:=hy;obtain⟨s1,m1,q1,u1,v1,w1,x1⟩:=azt hl g2 g3 (k:=(R:Int)) qa qa;obtain⟨s2,m2,q2,u2,v2,w2,x2⟩:=azt hl w1 x1 (k:=9000) (by decide) (by decide);obtain⟨s3,m3,q3,u3,v3,w3,x3⟩:=czb hl w2 x2 (k:=3) (by decide) (by decide);obtain⟨s4,m4,q4,u4,v4,w4,x4⟩:=czb hl w3 x3 (k:=2) (by decide) (by decide);rw[g5,g1,az6 qa,q1,qM,q2,qM,q3,qM,q4,qM];simp only;rw[aza ⟨by simp;omega,by simp[azg];omega⟩,w64 (x:=(M:Int)- (j:Int)-1) qa qa];refine⟨_,rfl,rfl,w4,x4,by simp;omega,by simp only;omega,λx hx=>?_⟩;rcases xg.1 hx with hx|hx
   ·exact g6 x hx
   ·rw[wN.1 hx];unfold Nzd betV;simp only;rw[w64 (x:=1+s2) qa qa,w64 (x:=s3 * 32768) qa qa,w64 (x:=s4 * 32768) qa qa];have hnv:hze (s3 * 32768,0,s4 * 32768) 4194304=true:=by rw[nearV_iff];exact⟨by simp only;omega,by simp only;omega,by simp only;omega⟩
    rw[hnv];simp only[Bool.and_true,qn,qf];omega
  ·obtain⟨g1,g2,g3,g4,g5,g6⟩:=hy;rw[g5,az5 qa];exact⟨_,rfl,g1,g2,g3,g4,g6⟩
  ·exact⟨_,rfl,hw.1,⟨⟨by simp only;omega,by simp only;omega,λt ht=>f5 t (by simp only at ht;omega)⟩,by simp only;omega,by simp only;rw[f4];exact hw.2.2.2.2⟩,hw.2.1,hw.2.2.1⟩
end
theorem n01:(nmL 0==nmL 1)=false:=by kernel_rfl
theorem n02:(nmL 0==nmL 2)=false:=by kernel_rfl
theorem n12:(nmL 1==nmL 2)=false:=by kernel_rfl
theorem nv0:Lzg (nmL 0)=true:=by kernel_rfl
theorem nv1:Lzg (nmL 1)=true:=by kernel_rfl
theorem nv2:Lzg (nmL 2)=true:=by kernel_rfl
theorem aze3 (i:Nat)(hi:i<=2):Lzg (nmL i)=true/\∀t:Nat,t<i->(nmL t==nmL i)=false:=by
 have h3:i=0\/i=1\/i=2:=qa
 rcases h3 with rfl|rfl|rfl
 ·exact⟨nv0,λt ht=>qa⟩
 ·refine⟨nv1,λt ht=>?_⟩;obtain rfl:t=0:=qa
  exact n01
 ·refine⟨nv2,λt ht=>?_⟩;have:t=0\/t=1:=qa
  rcases this with rfl|rfl
  ·exact n02
  ·exact n12
theorem az04 {l:List Int}(hl:l.length<4294967296){r:azo}{l2:List Int}{n2:Int}(e:(iz0 l 0).o=some (r,l2,n2)):dza r=0:=by
 obtain⟨⟨r',l',n'⟩,e1,e2,⟨⟨h1,h2,h3⟩,h4,h5⟩,-⟩:=Tzs hl (n:=0) qa qa;simp only at e2 h1 h2 h3 h4 h5;rw[e1]at e;cases e;have hj:∀t,t<r.Xb.length->vz1 r.Xb t=0:=λt ht=>by
  obtain⟨q1,q2,q3,q4,q5,q6⟩:=h3 t ht;obtain⟨n1,n2⟩:=aze3 t qa;unfold vz1;have hf:czh (Cz5 r.Xb (r.Xb.getD t qw).XA) t=true:=noneB_iff.2 λs hs=>by
   unfold Cz5;rw[(h3 s qa).1,q1];exact n2 s hs
  simp only
  rw[hf,q1,n1,q4,q6,qh (show ¬ (r.Xb.getD t qw).Xm<0 from qa),qh (show ¬ (r.Xb.getD t qw).Xm>6 from qa),qh (show ¬ (r.Xb.getD t qw).Xt< -1 from qa),qh (show ¬ (r.Xb.getD t qw).Xt>=(t:Int) from qa),
   qh (show ¬ (r.Xb.getD t qw).Lo>(r.Xb.getD t qw).Hi from qa),qh (show ¬ (r.Xb.getD t qw).Lo< -fzg (r.Xb.getD t qw).Xm from qa),qh (show ¬ (r.Xb.getD t qw).Hi>fzg (r.Xb.getD t qw).Xm from qa)]
  rfl
 show dza r=0;unfold dza;rw[qb qa];have hs:scan (errJ r.Xb) r.Xb.length 0=none:=(dze _ _).2 λt _ ht=>by
  unfold errJ;rw[hj t qa];rfl
 rw[hs];simp only;have hm:czh (badM r.Xb.length r.Xh) r.Xh.length=true:=noneB_iff.2 λt ht=>by
  unfold badM;rw[h5 _ (bza ht)];rfl
 rw[qb (by rw[hm];simp;omega)]
theorem Qzh (r:azo)(m:List Int)(hm:m.length<4294967296)(hr:RoB r)(hv:dza r=0):∃p,(pzc r m).o=some p/\bz8 r p=true:=by
 have ef:(fzs m).o=some (m,0):=rfl;obtain⟨r1,r2,r3⟩:=hr;suffices hs:∃p,(pzc r m).o=some p/\(p.length=r.Xb.length/\∀t,t<r.Xb.length->(r.Xb.getD t qw).Lo<=p.getD t qw/\p.getD t qw<=(r.Xb.getD t qw).Hi) by
  obtain⟨p,p1,p2,p3⟩:=hs;refine⟨p,p1,?_⟩;unfold bz8;simp only[qn,qf];refine⟨hv,p2,noneB_iff.2 λt ht=>?_⟩;have:=p3 t qa;unfold outJ;simp only[qq,qi];omega
 show ∃p,(kzp r m).run NN=some p/\_;simp only[kzp,qk,ef,qM]
 refine czu (P:=λp:List Int=>p.length=r.Xb.length/\∀t,t<r.Xb.length->(r.Xb.getD t qw).Lo<=p.getD t qw/\p.getD t qw<=(r.Xb.getD t qw).Hi) (λk (y:List Int×Int×List Int×Int)=>∃j:Nat,y.1=m/\(0<=y.2.1/\y.2.1<=(m.length:Int))/\y.2.2.2=(j:Int)/\j+k=r.Xb.length/\y.2.2.1.length=j/\∀t,t<j->(r.Xb.getD t qw).Lo<=y.2.2.1.getD t qw/\y.2.2.1.getD t qw<=(r.Xb.getD t qw).Hi)
  (λz:List Int=>z.length=r.Xb.length/\∀t,t<r.Xb.length->(r.Xb.getD t qw).Lo<=z.getD t qw/\z.getD t qw<=(r.Xb.getD t qw).Hi) r.Xb.length ⟨0,rfl,⟨by simp,by simp⟩,rfl,qa,by simp[nl],λt ht=>qa⟩ qa ?_ (λz hz=>⟨_,rfl,hz⟩)
 rintro k ⟨l1,ix,p,y⟩ ⟨j,h1,⟨h2,h3⟩,h4,h5,h6,h7⟩;simp only at h1 h2 h3 h4 h6 h7⊢;subst h1;subst h4;cases k with
 |zero=>exact .inr (.inl ⟨_,by rw[az5 qa],qa,λt ht=>h7 t qa⟩)
 |succ k=>
  have hj:=r3 _ (bza (show j<r.Xb.length from qa));unfold JB at hj;have app:∀x,(r.Xb.getD j qw).Lo<=x/\x<=(r.Xb.getD j qw).Hi->∀t,t<j+1->(r.Xb.getD t qw).Lo<=(p++[x]).getD t qw/\(p++[x]).getD t qw<=(r.Xb.getD t qw).Hi:=λx hx t ht=>by
   by_cases e:t<j
   ·have:(p++[x]).getD t qw=p.getD t qw:=by simp[wo,ze (show t<p.length from qa)]
    rw[this];exact h7 t e
   ·obtain rfl:t=j:=qa
    have:(p++[x]).getD t qw=x:=by simp[wo,zf (show p.length<=t from qa),h6]
    rw[this];exact hx
  rw[az6 qa,aza qa,aza qa,qH,wn qa];obtain⟨s1,x1,e1,a1,b1,c1,d1⟩:=azt hm h2 h3 (k:=6) (by decide) (by decide);rw[e1];simp only[qM];by_cases q1:s1=0
  ·rw[czn q1,aza (by simp only[wA,w7,azg];omega),az7];exact .inl ⟨_,k,rfl,xi k,j+1,rfl,⟨c1,d1⟩,rfl,qa,by simp only[xb,wA,w7];omega,app _ qa⟩
  ·rw[czo q1];by_cases q2:s1=1
   ·rw[czn q2,aza (by simp only[wA,w7,azg];omega),az7];exact .inl ⟨_,k,rfl,xi k,j+1,rfl,⟨c1,d1⟩,rfl,qa,by simp only[xb,wA,w7];omega,app _ qa⟩
   ·rw[czo q2];have hw:qv.wrap ((r.Xb.getD j qw).Hi- (r.Xb.getD j qw).Lo)=(r.Xb.getD j qw).Hi- (r.Xb.getD j qw).Lo:=w64 qa qa;simp only[hw];have hw2:qv.wrap ((r.Xb.getD j qw).Hi- (r.Xb.getD j qw).Lo+1)=(r.Xb.getD j qw).Hi- (r.Xb.getD j qw).Lo+1:=w64 qa qa;simp only[hw2];obtain⟨s2,x2,e2,a2,b2,c2,d2⟩:=azt hm c1 d1 (k:=(r.Xb.getD j qw).Hi- (r.Xb.getD j qw).Lo+1) qa qa;rw[e2];simp only[qM];rw[w64 (x:=(r.Xb.getD j qw).Lo+s2) qa qa,aza (by simp only[wA,w7,azg];omega),az7];exact .inl ⟨_,k,rfl,xi k,j+1,rfl,⟨c2,d2⟩,rfl,qa,by simp only[xb,wA,w7];omega,app _ qa⟩
theorem Nza (r:azo)(n:Nat)(hn:n<=1000)(m:List Int)(hm:m.length<4294967296)(hr:RoB r)(hv:dza r=0):∃p,(izz r (n:Int) m).o=some p/\p.length=n/\∀c∈p,bz8 r c=true:=by
 have ef:(fzs m).o=some (m,0):=rfl;obtain⟨r1,r2,r3⟩:=hr;show ∃p,(jz0 r (n:Int) m).run NN=some p/\_;simp only[jz0,qk,ef,qM];have hw:qv.wrap (2 * (r.Xb.length:Int))=((2 * r.Xb.length:Nat):Int):=by rw[w64 qa qa];omega
 rw[hw]
 refine czu (P:=λp:List (List Int)=>p.length=n/\∀c∈p,bz8 r c=true) (λk (y:List Int×Int×List (List Int)×Int)=>∃j:Nat,y.1=m/\(0<=y.2.1/\y.2.1<=(m.length:Int))/\y.2.2.2=(j:Int)/\j+k=n/\y.2.2.1.length=j/\∀c∈y.2.2.1,bz8 r c=true)
  (λz:List (List Int)=>z.length=n/\∀c∈z,bz8 r c=true) n ⟨0,rfl,⟨by simp,by simp⟩,rfl,qa,by simp[nl],λc hc=>by cases hc⟩ qa ?_ (λz hz=>⟨_,rfl,hz⟩)
 rintro k ⟨l1,ix,p,y⟩ ⟨j,h1,⟨h2,h3⟩,h4,h5,h6,h7⟩;simp only at h1 h2 h3 h4 h6 h7⊢;subst h1;subst h4;cases k with
 |zero=>exact .inr (.inl ⟨_,by rw[az5 qa],qa,h7⟩)
 |succ k=>
  rw[az6 qa,wn qa];suffices hi:∃s,_=some s/\(∃ (ix':Int) (c:List Int),s=Step3.next (l1,ix',p++[c],((j+1:Nat):Int))/\(0<=ix'/\ix'<=(l1.length:Int))/\bz8 r c=true) by
   obtain⟨s,e,ix',c,rfl,k1,k2⟩:=hi;refine .inl ⟨_,k,e,xi k,j+1,rfl,k1,rfl,qa,by simp only[xb,wA,w7];omega,λc' hc'=>?_⟩;rcases xg.1 hc' with hc'|hc'
   ·exact h7 c' hc'
   ·simp at hc';subst hc';exact k2
  refine czu (λk (y:List Int×Int×List Int×Int)=>∃i:Nat,y.1=l1/\(0<=y.2.1/\y.2.1<=(l1.length:Int))/\y.2.2.2=(i:Int)/\i+k=2 * r.Xb.length/\y.2.2.1.length=i)
   (λz:List Int×Int×List Int=>z.1=l1/\(0<=z.2.1/\z.2.1<=(l1.length:Int))/\z.2.2.length=2 * r.Xb.length) (2 * r.Xb.length) ⟨0,rfl,⟨h2,h3⟩,rfl,qa,by simp[nl]⟩ qa ?_ ?_
  ·rintro k' ⟨l2,ix2,q,y2⟩ ⟨i,g1,⟨g2,g3⟩,g4,g5,g6⟩;simp only at g1 g2 g3 g4 g6⊢;subst g1;subst g4;cases k' with
   |zero=>exact .inr (.inl ⟨_,by rw[az5 qa],rfl,⟨g2,g3⟩,by simp only;omega⟩)
   |succ k'=>
    obtain⟨s1,x1,e1,a1,b1,c1,d1⟩:=azt hm g2 g3 (k:=1048576) (by decide) (by decide);rw[az6 qa,e1];simp only[qM];rw[aza (by simp only[wA,w7,azg];omega),wn qa];exact .inl ⟨_,k',rfl,xi k',i+1,rfl,⟨c1,d1⟩,rfl,qa,by simp only[xb,wA,w7];omega⟩
  ·rintro⟨l2,ix2,q⟩ ⟨g1,g2,g3⟩;simp only at g1 g2 g3⊢;subst g1;obtain⟨c,ec,lc⟩:=Qzh r q qa ⟨r1,r2,r3⟩ hv;rw[ec];simp only[qM];rw[aza (by simp only[wA,w7,azg];omega)];exact⟨_,rfl,ix2,c,rfl,g2,lc⟩
theorem Szq (r:azo)(pts:List (List Int))(j:Nat):∀k,(disL r pts j).length<=(disL r pts (j+k)).length
 |0=>ql _
 |k+1=>by
  refine wG (Szq r pts j k) ?_;show _<=(disL r pts ((j+k)+1)).length;have hs:disL r pts ((j+k)+1)=if bz8 r (pts.getD (j+k) qw)=true/\¬pts.getD (j+k) qw∈disL r pts (j+k)then disL r pts (j+k)++[pts.getD (j+k) qw]else disL r pts (j+k):=rfl
  rw[hs];split
  ·simp
  ·exact ql _
theorem az5q {r:azo}{pts:List (List Int)}(h:0<pts.length)(hi:∀c∈pts,bz8 r c=true):0<(disL r pts pts.length).length:=by
 have h1:=((Szp r pts 1 h).1).2 (λi hi'=>by
  obtain rfl:i=0:=qa
  exact⟨hi _ (bza h),by simp⟩)
 have h2:=Szq r pts 1 (pts.length-1);rw[show 1+(pts.length-1)=pts.length from qa]at h2;omega
open Go.Proofs
def NB (m:Int)(v:V3):Prop:= -m<=v.1/\v.1<=m/\ -m<=v.2.1/\v.2.1<=m/\ -m<=v.2.2/\v.2.2<=m
theorem NB.mono {a b:Int}{v:V3}(h:NB a v)(hab:a<=b):NB b v:=by
 obtain⟨k1,k2,k3,k4,k5,k6⟩:=h;exact⟨qa,qa,qa,qa,qa,qa⟩
def ShOk (n:Nat)(x:bz7):Prop:=yzn n x=0
theorem azdk {n:Nat}{k t:Int}{ps:List V3}(hk: -1<=k)(hk2:k<(n:Int))(h0:0<=t)(h1:t<4)(hp:1<=ps.length/\ps.length<=4/\∀v∈ps,NB 393216 v):
 ShOk n (⟨k,qv.wrap ((qv.wrap (qv.wrap (1+t) * 65536)).tdiv 8),ps⟩:bz7):=by
 have e1:qv.wrap (1+t)=1+t:=w64 qa qa;have e2:qv.wrap ((1+t) * 65536)=(1+t) * 65536:=w64 qa qa;have e3:((1+t) * 65536).tdiv 8=(1+t) * 8192:=by
  rw[Int.tdiv_eq_ediv_of_nonneg qa];omega
 have e4:qv.wrap ((1+t) * 8192)=(1+t) * 8192:=w64 qa qa;rw[e1,e2,e3,e4];obtain⟨p1,p2,p3⟩:=hp;unfold ShOk yzn;have hf:czh (farP ps) ps.length=true:=noneB_iff.2 λi hi=>by
  obtain⟨k1,k2,k3,k4,k5,k6⟩:=p3 _ (bza hi);unfold farP;rw[nearV_iff.2 ⟨⟨qa,qa⟩,⟨qa,qa⟩,qa,qa⟩];rfl
 have hl:(kzn n k&&betV ((1+t) * 8192) 1 1048576)=true:=by
  simp only[kzn,betV,qn,qf];omega
 dsimp only;rw[hl,hf,qb (by rintro(h|h|h)<;>first|cases h|omega)];rfl
theorem Zze {r:azo}{sh:List bz7}{sk:List gz3}(hr:dza r=0)(h1:sh.length<=6)(h2:∀x∈sh,ShOk r.Xb.length x)(h3:sk.length<=1)
 (h4:∀x∈sk,(-1<=x.A/\x.A<(r.Xb.length:Int)/\ -1<=x.B/\x.B<(r.Xb.length:Int))):czi (⟨⟨r.Xb,r.Xh⟩,sh,sk⟩:azd)=0:=by
 have er:(⟨r.Xb,r.Xh⟩:azo)=r:=rfl;unfold czi;simp only[er];have hs:scan (errS r.Xb.length sh) sh.length 0=none:=(dze _ _).2 λj _ hj=>by
  have hx:=h2 _ (bza (l:=sh) (i:=j) qa);unfold ShOk at hx;unfold errS;rw[hx];rfl
 have hk:czh (badK r.Xb.length sk) sk.length=true:=noneB_iff.2 λi hi=>by
  obtain⟨a,b,c,d⟩:=h4 _ (bza hi);unfold badK kzn;simp only[qg a,qg b,qg c,qg d];rfl
 rw[qb (by rw[hr];simp),qb qa,hs];simp only;rw[qb qa,hk];rfl
section
variable {l:List Int} (hl:l.length<4294967296) {n:Int} (h0:0<=n) (h1:n<=(l.length:Int))
include hl h0 h1
theorem Fz0 {c:V3}(hc:NB 294912 c):∃b:List V3×List Int×Int,(pzd l n c).o=some b/\(b.2.1=l/\0<=b.2.2/\b.2.2<=(l.length:Int))/\(1<=b.1.length/\b.1.length<=4/\∀v∈b.1,NB 393216 v):=by
 have e0:(pzd l n c).o=(wzk l n c).run NN:=rfl;rw[e0];simp only[wzk,qk,T.ix];obtain⟨r1,n1,e1,a1,b1,c1,d1⟩:=azt hl h0 h1 (k:=4) (by decide) (by decide);rw[e1,qM];simp only;obtain⟨M,hM⟩:∃M:Nat,r1=(M:Int):=⟨r1.toNat,qa⟩;rw[hM]
 refine nz7 (g:=λb=>b) M qa (λj (y:List Int×Int×List V3×Int)=>y.1=l/\0<=y.2.1/\y.2.1<=(l.length:Int)/\(y.2.2.1.length=j+1/\∀v∈y.2.2.1,NB 393216 v)/\y.2.2.2=(M:Int)- (j:Int))
  (λ(w:List Int×Int×List V3)=>w.1=l/\0<=w.2.1/\w.2.1<=(l.length:Int)/\(1<=w.2.2.length/\w.2.2.length<=4/\∀v∈w.2.2,NB 393216 v)) ⟨rfl,c1,d1,⟨rfl,λv hv=>by rw[wN.1 hv];exact hc.mono (by decide)⟩,by simp⟩ (λj y hj hy=>?_) (λy hy=>?_) (λw hw=>⟨_,rfl,⟨hw.1,hw.2.1,hw.2.2.1⟩,hw.2.2.2⟩)
 ·obtain⟨g1,g2,g3,⟨g4,g6⟩,g5⟩:=hy;obtain⟨s1,m1,q1,u1,v1,w1,x1⟩:=czb hl g2 g3 (k:=3) (by decide) (by decide);obtain⟨s2,m2,q2,u2,v2,w2,x2⟩:=czb hl w1 x1 (k:=2) (by decide) (by decide);obtain⟨s3,m3,q3,u3,v3,w3,x3⟩:=czb hl w2 x2 (k:=2) (by decide) (by decide);rw[g5,g1,az6 qa,q1,qM,q2,qM,q3,qM];simp only;rw[aza ⟨by simp;omega,by simp[azg];omega⟩,w64 (x:=(M:Int)- (j:Int)-1) qa qa];refine⟨_,rfl,rfl,w3,x3,⟨by simp;omega,λv hv=>?_⟩,by simp only;omega⟩;rcases xg.1 hv with hv|hv
  ·exact g6 v hv
  ·rw[wN.1 hv];obtain⟨k1,k2,k3,k4,k5,k6⟩:=hc;have e1:qv.wrap (s1 * 32768)=s1 * 32768:=w64 qa qa;have e2:qv.wrap (s2 * 32768)=s2 * 32768:=w64 qa qa;have e3:qv.wrap (s3 * 32768)=s3 * 32768:=w64 qa qa;rw[e1,e2,e3,w64 (x:=c.1+_) qa qa,w64 (x:=c.2.1+_) qa qa,w64 (x:=c.2.2+_) qa qa];refine⟨?_,?_,?_,?_,?_,?_⟩<;>(dsimp only;omega)
 ·obtain⟨g1,g2,g3,⟨g4,g6⟩,g5⟩:=hy;rw[g5,az5 qa];exact⟨_,rfl,g1,g2,g3,by simp only;omega,by simp only;omega,g6⟩
end
theorem Tzp (l:List Int)(hl:l.length<4294967296):∃s:azd,(zzs l).o=some s/\(1<=s.Xf.Xb.length/\s.Xf.Xb.length<=3/\∀j∈s.Xf.Xb,JB j)/\dza s.Xf=0/\czi s=0:=by
 have e0:(zzs l).o=(zzt l).run NN:=rfl;rw[e0];simp only[zzt,qk];have ef:(fzs l).o=some (l,0):=rfl;rw[ef,qM];obtain⟨r,n0,er,hr,m0,m1⟩:=Tzt hl (n:=0) qa qa;have hr:(1<=r.Xb.length/\r.Xb.length<=3/\∀j∈r.Xb,JB j)/\dza r=0:=⟨hr,az04 hl er⟩;rw[er,qM];simp only
 refine nz7 (g:=λb=>b) r.Xb.length qa (λj (y:List Int×Int×List bz7×Int)=>y.1=l/\0<=y.2.1/\y.2.1<=(l.length:Int)/\(y.2.2.1.length<=j/\∀x∈y.2.2.1,ShOk r.Xb.length x)/\y.2.2.2=(j:Int))
  (λ(w:List Int×Int×List bz7)=>w.1=l/\0<=w.2.1/\w.2.1<=(l.length:Int)/\w.2.2.length<=3/\∀x∈w.2.2,ShOk r.Xb.length x) ⟨rfl,m0,m1,⟨by simp[nl],λx hx=>by cases hx⟩,rfl⟩ (λj y hj hy=>?_) (λy hy=>?_) (λz hz=>?_)
 ·obtain⟨g1,g2,g3,⟨g4,g6⟩,g5⟩:=hy;obtain⟨s1,p1,q1,u1,v1,w1,x1⟩:=azt hl g2 g3 (k:=5) (by decide) (by decide);obtain⟨s2,p2,q2,u2,v2,w2,x2⟩:=azt hl w1 x1 (k:=3) (by decide) (by decide);obtain⟨s3,p3,q3,u3,v3,w3,x3⟩:=azt hl w2 x2 (k:=4) (by decide) (by decide);have e9:qv.wrap (s3 * 32768)=s3 * 32768:=w64 qa qa;obtain⟨⟨ps,l4,p4⟩,q4,⟨t4,w4,x4⟩,b4⟩:=Fz0 hl w3 x3 (c:=(qv.wrap (s3 * 32768),0,0)) (by rw[e9];refine⟨?_,?_,?_,?_,?_,?_⟩<;>(dsimp only;omega));simp only at t4;subst t4;rw[g5,g1,az6 qa,q1,qM,wn qa];cases qx (s1<4)
  ·exact⟨_,rfl,rfl,w1,x1,⟨by simp only;omega,g6⟩,rfl⟩
  ·simp only[qe];rw[q2,qM,q3,qM,q4,qM];simp only;rw[aza ⟨by simp;omega,by simp[azg];omega⟩,az7];refine⟨_,rfl,rfl,w4,x4,⟨by simp;omega,λx hx=>?_⟩,rfl⟩;rcases xg.1 hx with hx|hx
   ·exact g6 x hx
   ·rw[wN.1 hx];exact azdk qa qa u2 qa b4
 ·obtain⟨g1,g2,g3,⟨g4,g6⟩,g5⟩:=hy;rw[g5,az5 qa];exact⟨_,rfl,g1,g2,g3,by simp only;omega,g6⟩
 ·obtain⟨g1,g2,g3,g4,g6⟩:=hz;obtain⟨s1,p1,q1,u1,v1,w1,x1⟩:=azt hl g2 g3 (k:=3) (by decide) (by decide);rw[g1,q1,qM];simp only;rw[w64 (x:=1+s1) qa qa];obtain⟨M,hM⟩:∃M:Nat,1+s1=(M:Int):=⟨(1+s1).toNat,qa⟩;rw[hM]
  refine nz7 (g:=λb=>b) M qa (λj (y:List Int×Int×List bz7×Int)=>y.1=l/\0<=y.2.1/\y.2.1<=(l.length:Int)/\(y.2.2.1.length<=3+j/\∀x∈y.2.2.1,ShOk r.Xb.length x)/\y.2.2.2=(M:Int)- (j:Int))
   (λ(w:List Int×Int×List bz7)=>w.1=l/\0<=w.2.1/\w.2.1<=(l.length:Int)/\w.2.2.length<=6/\∀x∈w.2.2,ShOk r.Xb.length x) ⟨rfl,w1,x1,⟨by simp only;omega,g6⟩,by simp⟩ (λj y hj hy=>?_) (λy hy=>?_) (λw hw=>?_)
  ·obtain⟨g1,g2,g3,⟨g4,g6⟩,g5⟩:=hy;obtain⟨t1,p1,q1,u1,v1,w1,x1⟩:=czb hl g2 g3 (k:=9) (by decide) (by decide);obtain⟨t2,p2,q2,u2,v2,w2,x2⟩:=czb hl w1 x1 (k:=9) (by decide) (by decide);obtain⟨t3,p3,q3,u3,v3,w3,x3⟩:=czb hl w2 x2 (k:=2) (by decide) (by decide);obtain⟨t4,p4,q4,u4,v4,w4,x4⟩:=azt hl w3 x3 (k:=4) (by decide) (by decide);have e1:qv.wrap (t1 * 32768)=t1 * 32768:=w64 qa qa;have e2:qv.wrap (t2 * 32768)=t2 * 32768:=w64 qa qa;have e3:qv.wrap (t3 * 32768)=t3 * 32768:=w64 qa qa;obtain⟨⟨ps,l5,p5⟩,q5,⟨t5,w5,x5⟩,b5⟩:=Fz0 hl w4 x4 (c:=(qv.wrap (t1 * 32768),qv.wrap (t2 * 32768),qv.wrap (t3 * 32768))) (by rw[e1,e2,e3];refine⟨?_,?_,?_,?_,?_,?_⟩<;>(dsimp only;omega));simp only at t5;subst t5;rw[g5,g1,az6 qa,q1,qM,q2,qM,q3,qM,q4,qM,q5,qM];simp only;rw[aza ⟨by simp;omega,by simp[azg];omega⟩,w64 (x:=(M:Int)- (j:Int)-1) qa qa];refine⟨_,rfl,rfl,w5,x5,⟨by simp;omega,λx hx=>?_⟩,by simp only;omega⟩;rcases xg.1 hx with hx|hx
   ·exact g6 x hx
   ·rw[wN.1 hx];exact azdk qa qa u4 qa b5
  ·obtain⟨g1,g2,g3,⟨g4,g6⟩,g5⟩:=hy;rw[g5,az5 qa];exact⟨_,rfl,g1,g2,g3,by simp only;omega,g6⟩
  ·obtain⟨g1,g2,g3,g4,g6⟩:=hw;obtain⟨s1,p1,q1,u1,v1,w1,x1⟩:=azt hl g2 g3 (k:=5) (by decide) (by decide);obtain⟨s2,p2,q2,u2,v2,w2,x2⟩:=azt hl w1 x1 (k:=(r.Xb.length:Int)) qa qa;rw[g1,q1,qM];cases s1==1
   ·exact⟨_,rfl,hr.1,hr.2,Zze hr.2 g4 g6 (by simp[nl]) (λx hx=>by cases hx)⟩
   ·simp only[qe];rw[q2,qM];simp only;rw[aza ⟨by simp,by simp[azg]⟩];refine⟨_,rfl,hr.1,hr.2,Zze hr.2 g4 g6 (by simp) (λx hx=>?_)⟩;rw[wN.1 hx];refine⟨?_,?_,?_,?_⟩<;>(dsimp only;omega)
open Go.Proofs
theorem az98:(wzh).o=some true:=by kernel_rfl
theorem azcv (r:azo)(pts:List (List Int))(k:Int)(hp:pts.length<=7)(h0:0<pts.length)(hr:dza r=0)(hi:∀c∈pts,bz8 r c=true):
 ∃m,(uz4 r pts k).o=some m/\LzOk m.Xc m.Xa.length m.Xa/\0<m.Xc.length/\m.Xc.length<=7/\m.Xa.length<=49/\∃S es,m.Xa=es.take 8192/\MapE r m.Xc S es:=by
 obtain⟨m,p1,p2,p3⟩:=Yzo r pts k qa (λc hc=>by have:=izb (hi c hc);omega);refine⟨m,p1,?_⟩;obtain⟨a1,es,a2,a3,a4⟩:=p3 hr;have hl:=wz1 r pts pts.length;have h7:m.Xc.length<=7:=by rw[a1];omega
 have h49:m.Xa.length<=49:=by
  rw[a2,List.length_take];have:m.Xc.length * m.Xc.length<=7 * 7:=qO h7 h7;omega
 refine⟨⟨rfl,qa,qa,λc hc=>?_,λe he=>?_⟩,by rw[a1];exact az5q h0 hi,h7,h49,_,es,a2,a4⟩
 ·rw[a1]at hc;have:=izb (zz4 r pts _ c hc);omega
 ·rw[a2]at he;obtain⟨a,b,-,-,-,h⟩:=(a4.2 e).1 (x8 he);rw[h];exact azcz r _ _ _
open Go.Proofs
theorem Szt {m:aze}(hs:szm m)(hw:WF m){x y:Int}{e:Nat}(he:e<m.Xa.length)(hu:(m.Xa.getD e qw).U=min x y)(hv:(m.Xa.getD e qw).V=max x y)(hN:100000<=NN):(jzd m x y).o=some (e:Int):=by
 have hs2:=hs.2;have key:∃r,(jzd m x y).o=some r/\r=(e:Int):=by
  simp only[Dz5,fzt,qk];refine Bzo (λk (x:Int)=>∃i:Nat,x=(i:Int)/\i+k=m.Xa.length/\i<=e) (λ_=>False) m.Xa.length ⟨0,rfl,qa,qa⟩ qa ?_ (λ_ h=>h.elim);rintro k z ⟨i,rfl,hi,hie⟩;have hlt:i<m.Xa.length:=qa
  rw[az6 qa,azp qa,qH];by_cases hi2:i=e
  ·subst hi2;rw[czn hu,azp qa,az7,czn hv];exact .inr (.inr ⟨_,rfl,rfl⟩)
  ·refine .inl ⟨((i+1:Nat):Int),k-1,?_,qa,i+1,rfl,qa,qa⟩;by_cases h1:(m.Xa.getD i qw).U=min x y
   ·rw[czn h1,azp qa,az7,czo (λh2=>hi2 (hw.one hlt he (by rw[h1,hu]) (by rw[h2,hv]))),w64n qa]
   ·rw[czo h1,az7,ez3 (by rfl),w64n qa]
 obtain⟨r,h1,rfl⟩:=key;exact h1
open Go.Proofs
theorem az41 (m:aze)(i:Int)(r:azr):(Azt m i r).o=(Azu m i r).run NN:=rfl
theorem az40 (m:aze)(i:Nat)(hi:i<m.Xa.length)(h3:m.Xa.length<100000)(hs:(m.Xa.getD i qw).Xr=0)(r:azr)(hk:r.Xm=0\/r.Xm=1\/r.Xm=2):
 (Azt m (i:Int) r).o=some (⟨m.Xc,m.Xa.set i (az2z (m.Xa.getD i qw) r)⟩,true):=by
 rw[az41];simp only[Azu,qk,qH];have b1:((m.Xa.getD i qw).Xr==1)=false:=by rw[hs];rfl
 have b2:((m.Xa.getD i qw).Xr==2)=false:=by rw[hs];rfl
 rw[az5 qa,az5 qa,aza qa,b1];simp only[qd];rw[aza qa,b2,az7];simp only[qd];have hmx:m.Xa.length * 160<=140737488355328/\m.Xa.length<=maxLen:=⟨qa,by unfold maxLen;omega⟩;have hl:∀x:az4,(m.Xa.set i x).length=m.Xa.length:=λx=>wx
 have hg:∀x:az4,(m.Xa.set i x).getD i qw=x:=λx=>by rw[Hz4 hi,qc rfl]
 have hss:∀x y:az4,(m.Xa.set i x).set i y=m.Xa.set i y:=λx y=>List.set_set ..
 rcases hk with h|h|h
 ·rw[show(r.Xm==1)=false by rw[h];rfl,show(r.Xm==2)=false by rw[h];rfl,show(r.Xm==0)=true by rw[h];rfl];simp only[qd,qe,az7];rw[aza hmx,aza qa,aza qa,aza (by rw[hl];omega),aza (by rw[hl];omega)];simp only[hg,hss,az2z,stV,h];rfl
 ·rw[show(r.Xm==1)=true by rw[h];rfl];simp only[qd,qe,az7];rw[aza hmx,aza qa,aza qa,aza (by rw[hl];omega),aza (by rw[hl];omega)];simp only[hg,hss,az2z,stV,h];rfl
 ·rw[show(r.Xm==1)=false by rw[h];rfl,show(r.Xm==2)=true by rw[h];rfl];simp only[qd,qe,az7];rw[aza hmx,aza qa,aza qa,aza (by rw[hl];omega),aza (by rw[hl];omega)];simp only[hg,hss,az2z,stV,h];rfl
theorem az42 (s:azd)(P:List (List Int))(E:List az4)(i:Nat)(h2:∀c∈P,c.length<4294967296)(hi:i<E.length)(h3:E.length<100000)
 (hs:(E.getD i qw).Xr=0) (hU:0<=(E.getD i qw).U/\(E.getD i qw).U<(P.length:Int)) (hV:0<=(E.getD i qw).V/\(E.getD i qw).V<(P.length:Int)) {d:Int} (h0:0<=d) (h20:d<=20):
 (Izx s ⟨P,E⟩ (i:Int) d).o=some (⟨P,E.set i (tstE s P d (E.getD i qw))⟩,true):=by
 show(Azv s ⟨P,E⟩ (i:Int) d).run NN=_;have es:(⟨s.Xf,s.Xd,s.Xj⟩:azd)=s:=rfl;have hj:(Fzx ⟨P,E⟩ (E.getD i qw)).o=some true:=by
  show(xzg ⟨P,E⟩ (E.getD i qw)).run NN=_;simp only[xzg,qk];rw[az6 hU.1,az6 hU.2,az6 hV.1,qg hV.2]
 have b1:((E.getD i qw).Xr==1)=false:=by rw[hs];rfl
 have b2:((E.getD i qw).Xr==2)=false:=by rw[hs];rfl
 obtain⟨p1,p2⟩:=azda s (P.getD (E.getD i qw).U.toNat qw) (P.getD (E.getD i qw).V.toNat qw) (h2 _ (bza qa)) (h2 _ (bza qa)) h0 h20;obtain⟨r,q1,q2,-,-⟩:=Oz2 s (P.getD (E.getD i qw).U.toNat qw) (P.getD (E.getD i qw).V.toNat qw) d (h2 _ (bza qa)) (h2 _ (bza qa));have hr:r=pvR s (P.getD (E.getD i qw).U.toNat qw) (P.getD (E.getD i qw).V.toNat qw) d:=by rw[p1]at q1;injection q1 with q1;exact q1.symm
 subst hr;simp only[Azv,qk,es,qH];rw[az5 qa,az5 qa,aza qa,hj];simp only[qM,qP,qd];rw[aza qa,b1];simp only[qd];rw[aza qa,b2,az7];simp only[qd];rw[aza qa,aza hU,aza qa,aza hV,q2];simp only[qM];rw[az40 ⟨P,E⟩ i hi h3 hs _ p2.kind];rfl
open Go.Proofs
theorem az0s (m:aze):(zzu m).o=some (qx (m.Xc.length<=30/\m.Xa.length<=60)):=by
 show(qzh m).run NN=_;simp only[qzh,qk];by_cases h:m.Xc.length<=30
 ·rw[az6 qa];simp only[h,true_and];exact congrArg some (decide_eq_decide.2 qa)
 ·rw[az5 qa];simp[h]
theorem Mzl (s:azd):∃b,(vz5 s).o=some b:=by
 show ∃b,(mzc s).run NN=_;simp only[mzc,qk];generalize (qx (((s.Xf.Xb.length:Nat):Int)<=4))=a;generalize (qx (((s.Xf.Xh.length:Nat):Int)<=6))=b;generalize (qx (((s.Xd.length:Nat):Int)<=6))=c;cases a<;>cases b<;>cases c<;>exact⟨_,rfl⟩
open Go.Proofs
section
variable {s:azd} {P:List (List Int)} {x y d:Int} (h0:0<=d) (h20:d<=20) {n:Nat} {E:List az4} (h:LzOk P n E) {K:Nat} (hk:∀i,i<K->(nxV P x y (itE s P x y d E i)).2.2.2=3)
include h0 h20 h hk
end
open Go.Proofs
theorem azec {W a b s:Int}{n:Nat}(hn:n<=10)(w0:1<=W)(w1:W<=1024)(ha: -4194304<=a/\a<=4194304)(hb: -4194304<=b/\b<=4194304)(h0:0<=s)(h1:s<=(n:Int) * 8589934592):
 0<=qv.wrap (s+qv.wrap (W * max (qv.wrap (b-a)) (qv.wrap (a-b))))/\qv.wrap (s+qv.wrap (W * max (qv.wrap (b-a)) (qv.wrap (a-b))))<=((n+1:Nat):Int) * 8589934592:=by
 rw[w64 (x:=b-a) qa qa,w64 (x:=a-b) qa qa];obtain⟨M,hM,m0,m1⟩:∃M:Int,max (b-a) (a-b)=M/\0<=M/\M<=8388608:=⟨_,rfl,qa,qa⟩;rw[hM];have p0:0<=W * M:=Int.mul_nonneg qa m0;have p1:W * M<=1024 * 8388608:=Int.mul_le_mul w1 m1 m0 (by decide);generalize W * M=p at p0 p1;rw[w64 (x:=p) qa qa,w64 (x:=s+p) qa qa];omega
theorem azdt {r:azo}{p:List Int}(hv:dza r=0)(hp:bz8 r p=true){i:Nat}(hi:i<r.Xb.length): -4194304<=p.getD i qw/\p.getD i qw<=4194304:=by
 have hl:=(izb hp).1;unfold bz8 at hp;simp only[qn,noneB_iff]at hp;have h1:=hp.2.2 i qa;unfold outJ at h1;simp only[qq,qi]at h1;have h2:=(fzw hv hi).lim;have h3:=Fzf (r.Xb.getD i qw).Xm;omega
theorem azcd {r:azo}{p q:List Int}(hv:dza r=0)(hp:bz8 r p=true)(hq:bz8 r q=true):0<=dstV r p q/\dstV r p q<=1099511627776:=by
 unfold dstV;cases badD r p q
 ·simp only[qd];have hj:=(fzd hv).2.1;have key:∀n,n<=r.Xb.length->0<=sumD r p q n/\sumD r p q n<=(n:Int) * 8589934592:=by
   intro n;induction n with
   |zero=>intro _;exact⟨xh _,by show(0:Int)<=_;omega⟩
   |succ n ih=>
    intro hn;obtain⟨a,b⟩:=ih qa;have hc:=(fzw hv (i:=n) qa).cost;unfold Vzu betV at hc;simp only[qn,qf]at hc;exact azec qa hc.1.1 hc.1.2 (azdt hv hp qa) (azdt hv hq qa) a b
  have:=key _ (ql _);omega
 ·simp only[qe];omega
theorem azab {r:azo}{P:List (List Int)}{S:Nat->Nat->Prop}{es E:List az4}(hv:dza r=0)(hi:∀c∈P,bz8 r c=true)(hE:E=es.take 8192)(hm:MapE r P S es):WF ⟨P,E⟩:=by
 intro j hj;have hj:j<E.length:=hj;refine⟨?_,λh0=>?_⟩
 ·have:=bza hj;rw[hE]at this;obtain⟨a,b,h1,h2,-,h4⟩:=(hm.2 _).1 (x8 this);rw[<-hE]at h4;show yzs P.length (E.getD j qw);rw[h4];have hd:=azcd hv (hi _ (bza (l:=P) (i:=a) qa)) (hi _ (bza (l:=P) (i:=b) h2));unfold newE yzs;simp only[qH];omega
 ·have hs:SoE E:=by rw[hE];exact hm.1.sublist (List.take_sublist _ _)
  have:=List.pairwise_iff_getElem.1 hs (j-1) j qa hj qa;show eLt (E.getD (j-1) qw) (E.getD j qw);rw[wo,wo,wD hj,wD (show j-1<E.length from qa)];unfold ltE at this;simp only[qf]at this;exact this
open Go.Proofs
section
variable {s:azd} {P:List (List Int)} {d:Int} {E G F:List az4} (hz:∀j,j<E.length->(E.getD j qw).Xr=0) (hG:G.length=E.length) (hF:F.length=E.length)
 (ho:∀j,j<E.length->(G.getD j qw=E.getD j qw\/G.getD j qw=tstE s P d (E.getD j qw))) (ht:∀j,j<E.length->F.getD j qw=tstE s P d (E.getD j qw))
include hz hG hF ho ht
end
open Go.Proofs
theorem Vzv {α β R:Type}[Inhabited α]{g:α->β}{f:List β×Int->Option (Step3 (List β×Int) (List β) R)}{k:List β->Option R}(l:List α)(hl:l.length<4294967296)
 (hs:∀ (X:List β) (i:Nat),X.length<l.length->i<l.length->f (X,(i:Int))=some (.next (X++[g (l.getD i qw)],qv.wrap ((i:Int)-1))))
 (he:∀ (X:List β) (i:Int),¬i>=0->f (X,i)=some (.out X)):andK (iter f NN (nl,qv.wrap (((l.length:Nat):Int)-1))) k=k (l.reverse.map g):=by
 rw[w64 qa qa];refine cz8 (λj=>((l.reverse.take j).map g,((l.length:Nat):Int)-1- (j:Int))) _ l.length (by simp[nl]) (show l.length<4294967296 from qa) (λj hj=>?_) ?_
 ·have e:((l.length:Nat):Int)-1- (j:Int)=((l.length-1-j:Nat):Int):=qa
  have e2:((l.length:Nat):Int)-1- ((j+1:Nat):Int)=((l.length-1-j:Nat):Int)-1:=qa
  rw[e,hs _ _ (by simp;omega) qa,w64 qa qa,kzs (by simpa using hj),az62 hj,e2]
 ·have e:(l.reverse.take l.length).map g=l.reverse.map g:=by rw[zg (by simp)]
  rw[<-e];exact he _ _ qa
theorem wu64 {x:Int}(h:0<=x/\x<=20):IntKind.u64.wrap x=x:=by
 have:IntKind.u64.wrap x=x % 18446744073709551616:=rfl;rw[this];omega
theorem Uzq (x:bzu)(h:PaF x):(Aze x).o=some (revP x):=by
 obtain⟨h0,h1,h2,h3⟩:=h;show(qzq x).run NN=_;simp only[qzq,qk];rw[Vzv (g:=λc=>c) x.Xc qa (λX i hX hi=>by
  rw[az6 qa,qH];simp only;rw[aza qa,aza ⟨by simp only[wA,w7];omega,by simp only[wA,w7,azg];omega⟩]) (λX i hi=>by rw[az5 hi])]
 rw[Vzv (g:=revK) x.Xa qa (λX i hX hi=>?_) (λX i hi=>by rw[az5 hi])]
 ·simp only[List.map_id',revP]
 ·obtain⟨t0,t1,t2⟩:=h3 _ (bza hi);rw[az6 qa,qH];simp only;rw[aza qa,aza qa];rw[Vzv (g:=revU) (x.Xa.getD i qw).Xy qa (λY j hY hj=>?_) (λX i hi=>by rw[az5 hi])]
  ·rw[aza ⟨by simp only[wA,w7];omega,by simp only[wA,w7,azg];omega⟩];rfl
  ·rw[az6 qa,qH];simp only;rw[aza qa,aza qa];generalize (x.Xa.getD i qw).Xy.getD j qw=u;have fin:∀v:cza,revU u=v->Y.length+1<=4194304->grd ((Y.length+([v]:List cza).length) * 40<=140737488355328/\(Y.length+([v]:List cza).length)<=maxLen) (some (Step3.next (σ:=List cza×Int) (τ:=List cza) (R:=Step3 (List azi×Int) (List azi) bzu) (Y++[v],qv.wrap ((j:Int)-1))))=some (Step3.next (Y++[revU u],qv.wrap ((j:Int)-1))):=by
    intro v hv hl;rw[aza ⟨by simp only[wA,w7];omega,by simp only[wA,w7,azg];omega⟩,hv]
   by_cases c:0<=u.Xg/\u.Xg<=20
   ·rw[qg c.1,qg c.2];simp only[qe,az7,wu64 c];rw[aza c.1,azdl c,az7];exact fin _ (qc c) qa
   ·have hu:revU u=⟨u.Xg,u.Xk,u.Xu⟩:=qb c;by_cases c1:u.Xg>=0
    ·rw[qg c1,qh (show ¬u.Xg<=20 from qa)];simp only[qe,qd,az7];exact fin _ hu qa
    ·rw[qh c1];simp only[qd,az7];exact fin _ hu qa
theorem Zzn {m:aze}(hs:szm m){u v:Int}(hn:∀e,e<m.Xa.length->¬ ((m.Xa.getD e qw).U=u/\(m.Xa.getD e qw).V=v)):
 ∃r,(azy m.Xa (u,v)).o=some r/\r.2=false:=by
 have hN:100000<=NN:=by show 100000<=4294967296;decide
 have hs2:=hs.2;simp only[czd,bz3,qk];refine czu (P:=λr:Int×Bool=>r.2=false) (λk (x:Int×Int)=>∃a b:Nat,x=((a:Int),(b:Int))/\a+k=b/\b<=m.Xa.length) (λy=>∃a:Nat,y=(a:Int)/\a<=m.Xa.length) m.Xa.length ⟨0,m.Xa.length,rfl,qa,qa⟩ qa ?_ ?_
 ·rintro k x ⟨a,b,rfl,hab,hb⟩;dsimp only;by_cases hlt:a<b
  ·left
   (rw[az6 qa];(repeat rw[azp qa]);rw[azcf qa qa])
   obtain⟨h,hh⟩:∃h:Nat,((a:Int)+(b:Int)) / 2=(h:Int):=⟨(a+b) / 2,qa⟩;have hah:a<=h/\h<b:=qa
   (rw[hh];(repeat rw[azp qa]);rw[qH])
   obtain⟨c,hc,hc1,hc2⟩:=izx qa (m.Xa.getD h qw) u v;rw[hc,qM];by_cases hcl:c<0
   ·rw[az6 hcl,w64n qa];exact⟨_,b- (h+1),rfl,qa,h+1,b,rfl,qa,hb⟩
   ·rw[az5 hcl];exact⟨_,h-a,rfl,qa,a,h,rfl,qa,qa⟩
  ·right;left;rw[az5 qa];exact⟨_,rfl,a,rfl,qa⟩
 ·rintro y ⟨a,rfl,ha⟩;by_cases hlt:a<m.Xa.length
  ·(rw[az6 qa];(repeat rw[azp qa]);rw[qH])
   obtain⟨c,hc,hc1,hc2⟩:=izx qa (m.Xa.getD a qw) u v;rw[hc,qM];refine⟨_,rfl,?_⟩;cases hz:(c==0)with
   |false=>rfl
   |true=>exact absurd (hc2.1 (by simpa using hz)) (hn a hlt)
  ·rw[az5 qa];exact⟨_,rfl,rfl⟩
theorem Zzm {m:aze}(hs:szm m){x y:Int}(hn:∀e,e<m.Xa.length->¬ ((m.Xa.getD e qw).U=min x y/\(m.Xa.getD e qw).V=max x y)):∃r,(hz1 m x y).o=some r/\r.2=false:=by
 obtain⟨r,h1,h2⟩:=Zzn hs hn;simp only[yzm,jzl,qk];rw[h1];exact⟨_,rfl,h2⟩
theorem az1t {m:aze}(hs:szm m){x y:Int}(hn:∀e,e<m.Xa.length->¬ ((m.Xa.getD e qw).U=min x y/\(m.Xa.getD e qw).V=max x y)):(jzd m x y).o=some (-1):=by
 have hs2:=hs.2;simp only[Dz5,fzt,qk];have key:∃r:Int,(fzt m x y).run NN=some r/\r= -1:=by
  simp only[fzt,qk];refine czu (P:=λr:Int=>r= -1) (λk (x:Int)=>∃i:Nat,x=(i:Int)/\i+k=m.Xa.length) (λ_=>True) m.Xa.length ⟨0,rfl,qa⟩ qa ?_ (λ_ _=>⟨_,rfl,rfl⟩);rintro k z ⟨i,rfl,hi⟩;by_cases hlt:i<m.Xa.length
  ·left;rw[az6 qa,azp qa,qH];by_cases h1:(m.Xa.getD i qw).U=min x y
   ·rw[czn h1,azp qa,az7,czo (λh2=>hn i hlt ⟨h1,h2⟩),w64n qa];exact⟨_,k-1,rfl,qa,i+1,rfl,qa⟩
   ·rw[czo h1,az7,ez3 (by rfl),w64n qa];exact⟨_,k-1,rfl,qa,i+1,rfl,qa⟩
  ·right;left;rw[az5 qa];exact⟨_,rfl,trivial⟩
 obtain⟨r,h1,rfl⟩:=key;simpa only[fzt,qk]using h1
open Go.Proofs
def MapF (m:aze):Prop:=(∀c∈m.Xc,c.length<=4194304)/\∀e∈m.Xa,e.Xn.Xo.length<=4194304/\hz7 e.Xn.Xo<=4194304
theorem Qzx {l:List az8}(h1:l.length<=4194304)(h2:hz7 l<=4194304):PkF (Lzl l):=by
 obtain⟨q1,q2⟩:=Lzk l;obtain⟨-,q3⟩:=Yzw (l:=l) (T:=(fzb l).1) (List.prefix_refl _);refine⟨by show(fzb l).1.length<=_;omega,by show(fzb l).2.length<=_;omega,λu hu=>?_⟩;have hm:=List.mem_map_of_mem (f:=unU (fzb l).1) (show u∈(fzb l).2 from hu);rw[q3]at hm;have:=az34 hm;have e:(unU (fzb l).1 u).Xe.length=u.Xu.length:=by simp[unU]
 omega
def prfE (e:az4)(u:Int):azi:=if u=e.U then Lzl e.Xn.Xo else revK (Lzl e.Xn.Xo)
theorem azd9 {m:aze}(hf:MapF m){e:Nat}(he:e<m.Xa.length)(u:Int):PkF (prfE (m.Xa.getD e qw) u):=by
 obtain⟨h1,h2⟩:=hf.2 _ (bza he);unfold prfE;split
 ·exact Qzx h1 h2
 ·exact azdc (Qzx h1 h2)
theorem az3p {l:List az8}(h1:l.length<=4194304)(h2:hz7 l<=4194304):(fzq l).o=some (Lzl l)/\(kz2 l).o=some (Lzl l):=
 ⟨az3o l (by show _<4294967296;omega) (by show _<4294967296;omega) qa qa,Zz8 l (by show _<4294967296;omega) (by show _<4294967296;omega) qa qa⟩
theorem WF.ends {m:aze}(hw:WF m){e:Nat}(he:e<m.Xa.length):(0<=(m.Xa.getD e qw).U/\(m.Xa.getD e qw).U<(m.Xc.length:Int))/\(0<=(m.Xa.getD e qw).V/\(m.Xa.getD e qw).V<(m.Xc.length:Int))/\(m.Xa.getD e qw).U<(m.Xa.getD e qw).V:=by
 have:=(hw e he).1;unfold yzs at this;omega
theorem azdn {m:aze}(hf:MapF m){a b:Nat}(ha:a<m.Xc.length)(hb:b<m.Xc.length){y:azi}(hy:PkF y):PaF ⟨[m.Xc.getD a qw,m.Xc.getD b qw],[y]⟩:=by
 refine⟨by simp,λc hc=>?_,by simp,λz hz=>by simp at hz;subst hz;exact hy⟩;simp at hc;rcases hc with rfl|rfl
 ·exact hf.1 _ (bza ha)
 ·exact hf.1 _ (bza hb)
theorem azak {m:aze}(hf:MapF m)(hw:WF m){e:Nat}(he:e<m.Xa.length)(u:Int):(Dzd m (e:Int) u).o=some (prfE (m.Xa.getD e qw) u):=by
 obtain⟨h1,h2⟩:=hf.2 _ (bza he);obtain⟨w1,w2,w3⟩:=hw.ends he;show(uzj m (e:Int) u).run NN=_;simp only[uzj,qk,qH,(az3p h1 h2).1,qM];rw[aza qa];unfold prfE;by_cases hu:u=(m.Xa.getD e qw).U
 ·rw[qc hu,czn hu]
 ·rw[qb hu,czo hu,aza w1,aza w2,az0w _ (azdn hf qa qa (Qzx h1 h2))];simp only[qM];rw[aza (by simp[revP])];rfl
def edX (m:aze)(u v:Int):Option Nat:=by
 classical
 exact if h:∃e,e<m.Xa.length/\(m.Xa.getD e qw).U=min u v/\(m.Xa.getD e qw).V=max u v/\(m.Xa.getD e qw).Xr=1 then some h.choose else none
theorem Pzr {m:aze}{u v:Int}{e:Nat}(h:edX m u v=some e):e<m.Xa.length/\(m.Xa.getD e qw).U=min u v/\(m.Xa.getD e qw).V=max u v/\(m.Xa.getD e qw).Xr=1:=by
 unfold edX at h;split at h
 ·rename_i hx;cases h;exact hx.choose_spec
 ·cases h
theorem Yz3 {m:aze}{u v:Int}(h:edX m u v=none)(e:Nat)(he:e<m.Xa.length)(hu:(m.Xa.getD e qw).U=min u v)(hv:(m.Xa.getD e qw).V=max u v):(m.Xa.getD e qw).Xr≠1:=by
 unfold edX at h;split at h
 ·cases h
 ·rename_i hx;exact λhs=>hx ⟨e,he,hu,hv,hs⟩
abbrev ptE (m:aze)(v:Int):List Int:=m.Xc.getD v.toNat qw
abbrev atE (t:List Int)(i:Nat):Int:=t.getD i qw
def stpE (m:aze)(t:List Int)(i:Nat):azi:=prfE (m.Xa.getD ((edX m (atE t i) (atE t (i+1))).getD 0) qw) (atE t i)
def Tzc (m:aze)(t:List Int):Prop:=WF m/\1<=t.length/\t.length<=256/\∀i,i<t.length->0<=atE t i/\atE t i<(m.Xc.length:Int)
def zzy (s:azd)(m:aze)(t:List Int):bzu×Bool:=by
 classical
 exact if Tzc m t then(if t.length=1 then((bldV s 0 [ptE m (atE t 0),ptE m (atE t 0)]).1,(bldV s 0 [ptE m (atE t 0),ptE m (atE t 0)]).2.2==0)
  else if ∀i,i+1<t.length->(edX m (atE t i) (atE t (i+1))).isSome=true then(⟨t.map (ptE m),tab (stpE m t) (t.length-1)⟩,true)else(⟨nl,nl⟩,false))else(⟨nl,nl⟩,false)
theorem nzu {s:azd}{m:aze}{t:List Int}(h:¬Tzc m t):zzy s m t=(⟨nl,nl⟩,false):=by unfold zzy;rw[qb h]
theorem Lzs {s:azd}{m:aze}{t:List Int}(h:Tzc m t)(h1:t.length=1):zzy s m t=((bldV s 0 [ptE m (atE t 0),ptE m (atE t 0)]).1,(bldV s 0 [ptE m (atE t 0),ptE m (atE t 0)]).2.2==0):=by
 unfold zzy;rw[qc h,qc h1]
theorem Lzq {s:azd}{m:aze}{t:List Int}(h:Tzc m t)(h1:t.length≠1)(h2:∀i,i+1<t.length->(edX m (atE t i) (atE t (i+1))).isSome=true):zzy s m t=(⟨t.map (ptE m),tab (stpE m t) (t.length-1)⟩,true):=by
 unfold zzy;rw[qc h,qb h1,qc h2]
theorem Lzr {s:azd}{m:aze}{t:List Int}(h1:t.length≠1){i:Nat}(hi:i+1<t.length)(h2:edX m (atE t i) (atE t (i+1))=none):zzy s m t=(⟨nl,nl⟩,false):=by
 by_cases h:Tzc m t
 ·unfold zzy;rw[qc h,qb h1,qb (λhh=>by have:=hh i hi;rw[h2]at this;cases this)]
 ·exact nzu h
theorem nn5:100000<=NN:=by show 100000<=4294967296;decide
theorem azbw (s:azd)(m:aze)(r:bzy)(hs:szm m)(hf:MapF m):(xzq s m r).o=some (zzy s m r.Xq):=by
 obtain⟨t,cost⟩:=r;have e0:(xzq s m ⟨t,cost⟩).o=(pzm s m ⟨t,cost⟩).run NN:=rfl;obtain⟨wb,hwb,hwf⟩:=Rzv m hs (by have:=nn5;omega);suffices hh:∃y,(pzm s m ⟨t,cost⟩).run NN=some y/\y=zzy s m t by
  obtain⟨y,h1,rfl⟩:=hh;rw[e0];exact h1
 have es:(⟨s.Xf,s.Xd,s.Xj⟩:azd)=s:=rfl;have em:(⟨m.Xc,m.Xa⟩:aze)=m:=rfl;have hs1:=hs.1;simp only[pzm,qk,es,em,hwb,qM,uzz];by_cases hlen:1<=t.length/\t.length<=256
 ·rw[az5 qa,az5 qa,az7];cases wb with
  |false=>exact⟨_,rfl,(nzu λh=>by have:=hwf.2 h.1;cases this).symm⟩
  |true=>
   have hw:=hwf.1 rfl;simp only[qP,qd]
   refine czu (P:=λy=>y=zzy s m t) (λk (x:List (List Int)×Int)=>∃j:Nat,x=((t.take j).map (ptE m),(j:Int))/\j+k=t.length/\∀i,i<j->0<=atE t i/\atE t i<(m.Xc.length:Int))
    (λy=>y=t.map (ptE m)/\Tzc m t) t.length ⟨0,by simp[nl],qa,λi hi=>qa⟩ qa ?_ ?_
   ·rintro k x ⟨j,rfl,hj,hin⟩;by_cases hlt:j<t.length
    ·rw[az6 qa,aza qa,qH];by_cases hp:0<=t.getD j qw/\t.getD j qw<(m.Xc.length:Int)
     ·left;have hc:=hf.1 _ (bza (l:=m.Xc) (i:=(t.getD j qw).toNat) qa);simp only[qg hp,qP,qd];rw[aza hp,aza6 _ qa,qM,aza ⟨by simp;omega,by simp[azg];omega⟩,wn qa];refine⟨_,k-1,rfl,qa,j+1,?_,qa,λi hi=>?_⟩
      ·rw[kzs hlt]
      ·by_cases e:i=j
       ·subst e;exact hp
       ·exact hin i qa
     ·right;right;simp only[qh hp,xo,qe];exact⟨_,rfl,(nzu λh=>hp (h.2.2.2 j hlt)).symm⟩
    ·right;left;have:j=t.length:=qa
     subst this;rw[az5 qa];exact⟨_,rfl,by rw[zg (ql _)],hw,hlen.1,hlen.2,hin⟩
   ·rintro y ⟨rfl,hg⟩;have hlm:(t.map (ptE m)).length=t.length:=by simp
    have z0:(0:Int).toNat=0:=rfl;by_cases h1:t.length=1
    ·have hz:(t.map (ptE m)).getD 0 qw=ptE m (atE t 0):=Tz8 qa;rw[show(((t.length:Nat):Int)==1)=true by rw[h1];rfl,qe,z0,aza qa,aza qa,aza qa,aza qa,hz,Uz6 s (by decide) (by decide)];exact⟨_,rfl,(Lzs hg h1).symm⟩
    ·have z1:(1:Int).toNat=1:=rfl;have tl:((t.drop 1).take (t.length-1)).length=t.length-1:=by simp
     have tg:∀i,i+1<t.length->((t.drop 1).take (t.length-1)).getD i qw=atE t (i+1):=λi hi=>by
      simp only[wo];rw[List.getElem?_take_of_lt qa,List.getElem?_drop,Nat.add_comm 1 i]
     rw[show(((t.length:Nat):Int)==1)=false by simp;omega,qd];simp only[z1,qH,tl];rw[aza qa]
     refine czu (P:=λy=>y=zzy s m t) (λk (x:List azi×Int)=>∃j:Nat,x=(tab (stpE m t) j,(j:Int))/\j+k=t.length-1/\∀i,i<j->(edX m (atE t i) (atE t (i+1))).isSome=true)
      (λy=>y=tab (stpE m t) (t.length-1)/\∀i,i+1<t.length->(edX m (atE t i) (atE t (i+1))).isSome=true) (t.length-1) ⟨0,rfl,qa,λi hi=>qa⟩ qa ?_ ?_
     ·rintro k x ⟨j,rfl,hj,hin⟩;by_cases hlt:j<t.length-1
      ·rw[az6 qa,aza qa,aza qa,qH,tg j qa];cases hx:edX m (atE t j) (atE t (j+1))with
       |some e=>
        obtain⟨e1,e2,e3,e4⟩:=Pzr hx;left;rw[Oz5 hs hw e1 e2 e3 nn5];simp only[qM,qP,qd,qH];rw[aza qa,az7,bzb e4,azak hf hw e1,qM,aza ⟨by simp[cz4];omega,by simp[cz4,azg];omega⟩,wn qa];refine⟨_,k-1,rfl,qa,j+1,?_,qa,λi hi=>?_⟩
        ·rw[gz0];unfold stpE;rw[hx];rfl
        ·by_cases e:i=j
         ·subst e;rw[hx];rfl
         ·exact hin i qa
       |none=>
        right;right;have hbad:=(Lzr (s:=s) h1 (show j+1<t.length from qa) hx).symm;by_cases hex:∃e,e<m.Xa.length/\(m.Xa.getD e qw).U=min (atE t j) (atE t (j+1))/\(m.Xa.getD e qw).V=max (atE t j) (atE t (j+1))
        ·obtain⟨e,e1,e2,e3⟩:=hex;have e4:=Yz3 hx e e1 e2 e3;rw[Oz5 hs hw e1 e2 e3 nn5];simp only[qM,qP,qd,qH];rw[aza qa,az7,bzq e4];exact⟨_,rfl,hbad⟩
        ·obtain⟨q,q1,q2⟩:=Zzm hs (x:=atE t j) (y:=atE t (j+1)) (λe he h=>hex ⟨e,he,h⟩);rw[q1];simp only[qM,q2,xo,qe,az7];exact⟨_,rfl,hbad⟩
      ·right;left;rw[az5 qa];have:j=t.length-1:=qa
       subst this;exact⟨_,rfl,rfl,λi hi=>hin i qa⟩
     ·rintro y ⟨rfl,hall⟩;exact⟨_,rfl,(Lzq hg h1 hall).symm⟩
 ·have hbad:=(nzu (s:=s) (m:=m) (t:=t) λh=>hlen ⟨h.2.1,h.2.2.1⟩).symm;by_cases h1:((t.length:Nat):Int)<1
  ·rw[az6 h1,az7];exact⟨_,rfl,hbad⟩
  ·rw[az5 h1,az6 qa,az7];exact⟨_,rfl,hbad⟩
open Go.Proofs
theorem az5d (s:azd)(m:aze)(r:bzy)(hs:szm m)(hf:MapF m):(uz6 s m r).o=some (zzy s m r.Xq):=by
 obtain⟨t,cost⟩:=r;have e0:(uz6 s m ⟨t,cost⟩).o=(nzg s m ⟨t,cost⟩).run NN:=rfl;obtain⟨wb,hwb,hwf⟩:=Tz3 m hs (by have:=nn5;omega);suffices hh:∃y,(nzg s m ⟨t,cost⟩).run NN=some y/\y=zzy s m t by
  obtain⟨y,h1,rfl⟩:=hh;rw[e0];exact h1
 have es:(⟨s.Xf,s.Xd,s.Xj⟩:azd)=s:=rfl;have em:(⟨m.Xc,m.Xa⟩:aze)=m:=rfl;have hs1:=hs.1;simp only[nzg,qk,es,em,hwb,qM];cases wb with
 |false=>exact⟨_,rfl,(nzu λh=>by have:=hwf.2 h.1;cases this).symm⟩
 |true=>
  have hw:=hwf.1 rfl;simp only[qP,qd];by_cases hlen:1<=t.length/\t.length<=256
  ·rw[az5 qa,az7,az5 qa]
   refine czu (P:=λy=>y=zzy s m t) (λk (x:List (List Int)×List azi×Int)=>∃j:Nat,x=((t.take j).map (ptE m),tab (stpE m t) (j-1),(j:Int))/\j+k=t.length/\(∀i,i<j->0<=atE t i/\atE t i<(m.Xc.length:Int))/\∀i,i+1<j->(edX m (atE t i) (atE t (i+1))).isSome=true)
    (λy=>y=(t.map (ptE m),tab (stpE m t) (t.length-1))/\Tzc m t/\∀i,i+1<t.length->(edX m (atE t i) (atE t (i+1))).isSome=true) t.length ⟨0,by simp[nl,tab],qa,λi hi=>qa,λi hi=>qa⟩ qa ?_ ?_
   ·rintro k x ⟨j,rfl,hj,hin,hed⟩;by_cases hlt:j<t.length
    ·simp only;rw[az6 qa,aza qa,qH];by_cases hp:0<=t.getD j qw/\t.getD j qw<(m.Xc.length:Int)
     ·rw[az5 qa,az7,az5 qa,aza hp,aza ⟨by simp;omega,by simp[azg];omega⟩];by_cases hz:j=0
      ·subst hz;left;rw[czn (by rfl),az7,wn qa];refine⟨_,k-1,rfl,qa,1,?_,qa,λi hi=>?_,λi hi=>qa⟩
       ·rw[kzs hlt]
       ·obtain rfl:i=0:=qa
        exact hp
      ·obtain⟨q,rfl⟩:∃q,j=q+1:=⟨j-1,qa⟩;have w1:qv.wrap (((q+1:Nat):Int)-1)=(q:Int):=by rw[w64 qa qa];omega
       rw[czo qa];simp only[w1,qH];rw[aza qa];have hpq:=hin q qa;cases hx:edX m (atE t q) (atE t (q+1))with
       |some e=>
        obtain⟨e1,e2,e3,e4⟩:=Pzr hx;obtain⟨b1,b2⟩:=hf.2 _ (bza e1);obtain⟨v1,v2,v3⟩:=hw.ends e1;left;rw[Szt hs hw e1 e2 e3 nn5];simp only[qM,qH];rw[az5 qa,aza qa,az7,bzb e4,aza qa,(az3p b1 b2).2,qM];have hstp:stpE m t q=prfE (m.Xa.getD e qw) (atE t q):=by unfold stpE;rw[hx];rfl
        by_cases hgt:t.getD q qw>t.getD (q+1) qw
        ·have hU:¬atE t q=(m.Xa.getD e qw).U:=by rw[e2];show ¬t.getD q qw=min (t.getD q qw) (t.getD (q+1) qw);omega
         have h1:(t.getD (q+1) qw).toNat<m.Xc.length:=qa
         have h2:(t.getD q qw).toNat<m.Xc.length:=by have:=hpq.2;have:=hpq.1;show(atE t q).toNat<_;omega
         rw[az6 hgt,aza hp,aza hpq,Uzq _ (azdn hf h1 h2 (Qzx b1 b2))];simp only[qM];rw[aza (by simp[revP]),az7];have hey:revK (Lzl (m.Xa.getD e qw).Xn.Xo)=stpE m t q:=by rw[hstp];unfold prfE;rw[qb hU]
         rw[aza ⟨by simp[cz4];omega,by simp[cz4,azg];omega⟩,az7,wn qa];refine⟨_,k-1,rfl,qa,q+2,?_,qa,λi hi=>?_,λi hi=>?_⟩
         ·rw[kzs hlt,show q+1-1=q from qa,show q+2-1=q+1 from qa,gz0,<-hey];rfl
         ·by_cases e:i=q+1
          ·subst e;exact hp
          ·exact hin i qa
         ·by_cases e:i=q
          ·subst e;rw[hx];rfl
          ·exact hed i qa
        ·have hU:atE t q=(m.Xa.getD e qw).U:=by
          rw[e2];show t.getD q qw=min (t.getD q qw) (t.getD (q+1) qw);omega
         rw[az5 hgt,az7];have hey:Lzl (m.Xa.getD e qw).Xn.Xo=stpE m t q:=by rw[hstp];unfold prfE;rw[qc hU]
         rw[aza ⟨by simp[cz4];omega,by simp[cz4,azg];omega⟩,az7,wn qa];refine⟨_,k-1,rfl,qa,q+2,?_,qa,λi hi=>?_,λi hi=>?_⟩
         ·rw[kzs hlt,show q+1-1=q from qa,show q+2-1=q+1 from qa,gz0,<-hey]
         ·by_cases e:i=q+1
          ·subst e;exact hp
          ·exact hin i qa
         ·by_cases e:i=q
          ·subst e;rw[hx];rfl
          ·exact hed i qa
       |none=>
        right;right;have hbad:((⟨nl,nl⟩:bzu),false)=zzy s m t:=(Lzr (s:=s) qa (show q+1<t.length from qa) hx).symm;by_cases hex:∃e,e<m.Xa.length/\(m.Xa.getD e qw).U=min (atE t q) (atE t (q+1))/\(m.Xa.getD e qw).V=max (atE t q) (atE t (q+1))
        ·obtain⟨e,e1,e2,e3⟩:=hex;have e4:=Yz3 hx e e1 e2 e3;rw[Szt hs hw e1 e2 e3 nn5];simp only[qM,qH];rw[az5 qa,aza qa,az7,bzq e4,az5g];exact⟨_,rfl,hbad⟩
        ·rw[az1t hs (x:=atE t q) (y:=atE t (q+1)) (λe he h=>hex ⟨e,he,h⟩)];exact⟨_,rfl,hbad⟩
     ·right;right;refine⟨((⟨nl,nl⟩:bzu),false),?_,(nzu λh=>hp (h.2.2.2 j hlt)).symm⟩;by_cases h1:t.getD j qw<0
      ·rw[az6 h1];rfl
      ·rw[az5 h1,az7,az6 (show t.getD j qw>=((m.Xc.length:Nat):Int) from qa)];rfl
    ·right;left;have:j=t.length:=qa
     subst this;simp only;rw[az5 qa];exact⟨_,rfl,by rw[zg (ql _)],⟨hw,hlen.1,hlen.2,hin⟩,hed⟩
   ·rintro y ⟨rfl,hg,hall⟩;have hlm:(t.map (ptE m)).length=t.length:=by simp
    have z0:(0:Int).toNat=0:=rfl;simp only;by_cases h1:t.length=1
    ·have hz:(t.map (ptE m)).getD 0 qw=ptE m (atE t 0):=Tz8 qa;rw[czn qa,z0,aza qa,aza qa,aza qa,aza qa,hz,Rz9 s (by decide) (by decide)];exact⟨_,rfl,(Lzs hg h1).symm⟩
    ·rw[czo qa];exact⟨_,rfl,(Lzq hg h1 hall).symm⟩
  ·have hbad:=(nzu (s:=s) (m:=m) (t:=t) λh=>hlen ⟨h.2.1,h.2.2.1⟩).symm;refine⟨_,?_,hbad⟩;by_cases h1:((t.length:Nat):Int)<1
   ·rw[az6 h1];rfl
   ·rw[az5 h1,az7,qg (show((t.length:Nat):Int)>256 from qa)];rfl
open Go.Proofs
theorem az2c (n:az4):∀ (l:List az4) {e:az4},e∈insF n l->e=n\/e∈l
 |[],e,h=>by simp only[insF,wN]at h;exact .inl h
 |a::l,e,h=>by
  unfold insF at h;cases h1:hitE n.U n.V a with
  |true=>
   cases h2:othE n.U n.V a with
   |true=>
    rw[h1,h2]at h;rcases wB.1 (show e∈n::a::l from h)with h|h
    ·exact .inl h
    ·exact .inr h
   |false=>rw[h1,h2]at h;exact .inr h
  |false=>
   rw[h1]at h;rcases wB.1 (show e∈a::insF n l from h)with h|h
   ·exact .inr (by rw[h];exact List.mem_cons_self ..)
   ·exact(az2c n l h).imp id (List.mem_cons_of_mem _)
def ClE (e:az4):Prop:=e.Xn.Xo.length<=1/\hz7 e.Xn.Xo=0
theorem az3a (r:azo)(pts:List (List Int))(k:Int)(hp:pts.length<=7)(hn:∀c∈pts,c.length<4294967296):
 ∃m,(yzj r pts k).o=some m/\m.1.length<=7/\(∀c∈m.1,c.length<=10)/\m.2.length<=49/\∀e∈m.2,ClE e:=by
 show ∃m,(ozt r pts k).run NN=some m/\_;have er:(⟨r.Xb,r.Xh⟩:azo)=r:=rfl;simp only[ozt,qk,er,dz4,jz6,qM];by_cases hr:dza r≠0
 ·rw[bzq hr];exact⟨_,rfl,by simp[nl],λc hc=>(by cases hc),by simp[nl],λe he=>(by cases he)⟩
 have hr:dza r=0:=Classical.not_not.1 hr;rw[bzb hr]
 refine czu (x:=((nl:List (List Int)),(0:Int))) (P:=λm:List (List Int)×List az4=>m.1.length<=7/\(∀c∈m.1,c.length<=10)/\m.2.length<=49/\∀e∈m.2,ClE e)
  (λm (y:List (List Int)×Int)=>∃j:Nat,y.2=(j:Int)/\j+m=pts.length/\y.1=disL r pts j) (λz:List (List Int)=>z=disL r pts pts.length) pts.length ⟨0,rfl,qa,rfl⟩ qa ?_ ?_
 ·rintro m ⟨l,y⟩ ⟨j,hj,hjm,hl⟩;simp only at hj hl⊢;subst hj;subst hl;have hlen:=wz1 r pts j;cases m with
  |zero=>
   obtain rfl:j=pts.length:=qa
   rw[az5 qa,az7];exact .inr (.inl ⟨_,rfl,rfl⟩)
  |succ m=>
   have hin:=zz4 r pts j;have hs:disL r pts (j+1)=if bz8 r (pts.getD j qw)=true/\¬pts.getD j qw∈disL r pts j then disL r pts j++[pts.getD j qw]else disL r pts j:=rfl
   have hc:=hn _ (bza (show j<pts.length from qa));rw[az6 qa,qg (p:=((disL r pts j).length:Int)<1024) qa,az7];simp only[qe];rw[aza qa,wn qa,qH];generalize pts.getD j qw=c at hs hc⊢;cases h1:bz8 r c with
   |false=>
    simp only[qd,az7];refine .inl ⟨_,m,rfl,xi m,j+1,rfl,qa,?_⟩;rw[hs,qb (λh=>by rw[h1]at h;cases h.1)]
   |true=>
    obtain⟨z,z1,z2⟩:=Uz8 (disL r pts j) c qa (λx hx=>by have:=izb (hin x hx);omega);simp only[qe];rw[aza qa,z1];simp only[qM,az7,z2];by_cases hm:c∈disL r pts j
    ·have:memB (disL r pts j) c=true:=qg hm;rw[this];simp only[qP,qd,az7];refine .inl ⟨_,m,rfl,xi m,j+1,rfl,qa,?_⟩;rw[hs,qb (λh=>h.2 hm)]
    ·have:memB (disL r pts j) c=false:=qh hm;rw[this];simp only[xo,qe];rw[aza qa,aza (by rw[azg];omega),aza (by simp only[wA,w7,azg];omega),az7];refine .inl ⟨_,m,rfl,xi m,j+1,rfl,qa,?_⟩;rw[hs,qc ⟨h1,hm⟩]
 ·rintro P hP;have hPl:P.length<=7:=by have:=wz1 r pts pts.length;rw[hP];omega
  have hP10:∀c∈P,c.length<=10:=λc hc=>by rw[hP]at hc;exact(izb (zz4 r pts _ c hc)).2
  have hPn:∀c∈P,c.length<4294967296:=λc hc=>by have:=hP10 c hc;omega
  have hsq:∀u,u<=P.length->P.length * u<=49:=λu hu=>qO hPl (show u<=7 from qa)
  refine czu (x:=((nl:List az4),(0:Int))) (P:=λm:List (List Int)×List az4=>m.1.length<=7/\(∀c∈m.1,c.length<=10)/\m.2.length<=49/\∀e∈m.2,ClE e)
   (λm (y:List az4×Int)=>∃u:Nat,y.2=(u:Int)/\u+m=P.length/\y.1.length<=P.length * u/\∀e∈y.1,ClE e)
   (λes:List az4=>es.length<=49/\∀e∈es,ClE e) P.length ⟨0,rfl,qa,by simp[nl],λe he=>by cases he⟩ qa ?_ ?_
  ·rintro m ⟨es,y⟩ ⟨u,hu,hum,hel,hes⟩;simp only at hu hel hes⊢;subst hu;cases m with
   |zero=>
    obtain rfl:u=P.length:=qa
    rw[az5 qa];exact .inr (.inl ⟨_,rfl,wG hel (hsq _ (ql _)),hes⟩)
   |succ m=>
    rw[az6 qa,aza qa,qH,aza qa,wn qa];obtain⟨l,e1,ns,rfl,ho⟩:=Xzx r P (P.getD u qw) (u:Int) qa hPn (hPn _ (bza qa));rw[e1];simp only[qM];have hnl:ns.length<=P.length:=by
     rw[ho.1.length_eq];unfold ixs;exact wG (List.length_filter_le _ _) (by simp)
    have hlt:∀i,i<ns.length->ns.getD i qw<P.length:=λi hi=>by
     have:ns.getD i qw∈ixs (u:Int) P.length:=(ho.1.mem_iff).1 (bza hi);exact az8f this
    suffices hi:∃s,_=some s/\(∃es':List az4,s=Step3.next (es',((u+1:Nat):Int))/\es'.length<=P.length * (u+1)/\∀e∈es',ClE e) by
     obtain⟨s,e,es',rfl,k1,k2⟩:=hi;exact .inl ⟨_,m,e,xi m,u+1,rfl,qa,k1,k2⟩
    refine czu (λm' (y:List az4×Int)=>∃i:Nat,y.2=(i:Int)/\i+m'=ns.length/\y.1.length<=P.length * u+i/\∀e∈y.1,ClE e)
     (λes':List az4=>es'.length<=P.length * (u+1)/\∀e∈es',ClE e) ns.length ⟨0,rfl,qa,by simp only;omega,hes⟩ qa ?_ (λz hz=>⟨_,rfl,z,rfl,hz⟩)
    rintro m' ⟨es2,y2⟩ ⟨i,hi,him,hel2,hes2⟩;simp only at hi hel2 hes2⊢;subst hi;have hcl:(szp ns).length=ns.length:=by simp
    have hq:=hsq u qa;have hq2:P.length * (u+1)=P.length * u+P.length:=Nat.mul_succ _ _;by_cases hlt1:i<ns.length
    ·rw[az6 qa,az7];by_cases hk:(i:Int)<k
     ·rw[qg hk];simp only[qe];have:=hlt i hlt1;rw[aza qa,qH,Szc hlt1,Yzf r P es2 _ _ hPn qa qa qa,wn qa];refine .inl ⟨_,m'-1,rfl,qa,i+1,rfl,qa,?_,λe he=>?_⟩
      ·have:=Kz4 (newE r P (min (u:Int) ((ns.getD i qw:Nat):Int)) (max (u:Int) ((ns.getD i qw:Nat):Int))) es2;simp only;omega
      ·rcases az2c _ _ he with rfl|he
       ·exact⟨by simp[newE,nl],by simp[newE,nl,hz7]⟩
       ·exact hes2 e he
     ·rw[qh hk];exact .inr (.inl ⟨_,rfl,qa,hes2⟩)
    ·rw[az5 qa,az7];exact .inr (.inl ⟨_,rfl,qa,hes2⟩)
  ·rintro es ⟨h1,h2⟩;rw[az5 qa,az7];exact⟨_,rfl,hPl,hP10,h1,h2⟩
theorem az9e (k:Int):∃x,(nzp k).o=some x/\x.Xo.length<=1/\hz7 x.Xo=0:=by
 show ∃x,(zzo k).run NN=some x/\_;simp only[zzo,qk];by_cases h1:k=1
 ·rw[czn h1];exact⟨_,rfl,by simp,by simp[hz7,nl]⟩
 ·rw[czo h1];by_cases h2:k=2
  ·rw[czn h2];exact⟨_,rfl,by simp[nl],by simp[hz7,nl]⟩
  ·rw[czo h2];by_cases h3:k=3
   ·rw[czn h3];exact⟨_,rfl,by simp[nl],by simp[hz7,nl]⟩
   ·rw[czo h3];exact⟨_,rfl,by simp[nl],by simp[hz7,nl]⟩
theorem Nzc (r:azo)(l:List Int)(hl:l.length<4294967296)(hr:RoB r):∃m,(Czp r l).o=some m/\szm m/\MapF m:=by
 have ef:(fzs l).o=some (l,0):=rfl;show ∃m,(tzb r l).run NN=some m/\_;obtain⟨s1,x1,e1,a1,b1,c1,d1⟩:=azt (l:=l) (n:=0) hl qa qa (k:=6) (by decide) (by decide);obtain⟨s2,x2,e2,a2,b2,c2,d2⟩:=azt (l:=l) hl c1 d1 (k:=3) (by decide) (by decide);obtain⟨n,hn⟩:∃n:Nat,2+s1=(n:Int):=⟨(2+s1).toNat,qa⟩;have hw1:qv.wrap (2+s1)=(n:Int):=by rw[w64 qa qa];exact hn
 obtain⟨p,ep,lp,hp⟩:=Nzb r n qa l hl hr;obtain⟨⟨P,E⟩,em,q1,q2,q3,q4⟩:=az3a r p (qv.wrap (1+s2)) qa (λc hc=>by have:=hp c hc;have:=hr.2.1;omega);simp only[tzb,qk,ef,e1,e2,hw1,ep,em,qM];simp only at q1 q2 q3 q4
 refine czu (P:=λm=>szm m/\MapF m) (λm (y:List Int×Int×List az4×Int)=>∃i:Nat,y.1=l/\(0<=y.2.1/\y.2.1<=(l.length:Int))/\y.2.2.2=(i:Int)/\i+m=E.length/\y.2.2.1.length=E.length/\∀e∈y.2.2.1,ClE e)
  (λz:List az4=>z.length=E.length/\∀e∈z,ClE e) E.length ⟨0,rfl,⟨c2,d2⟩,rfl,qa,rfl,q4⟩ qa ?_ ?_
 ·rintro m ⟨l1,ix,z,y⟩ ⟨i,h1,⟨h2,h3⟩,h4,h5,h6,h7⟩;simp only at h1 h2 h3 h4 h6 h7⊢;subst h1;subst h4;cases m with
  |zero=>exact .inr (.inl ⟨_,by rw[az5 qa],h6,h7⟩)
  |succ m=>
   obtain⟨s3,x3,e3,a3,b3,c3,d3⟩:=azt hl h2 h3 (k:=4) (by decide) (by decide);rw[az6 qa,e3];simp only[qM];have hi:i<z.length:=qa
   rw[aza qa,aza qa,qH,aza (by rw[wx];omega),aza (by rw[wx];omega),az63 hi,qc rfl];obtain⟨cl,ecl,k1,k2⟩:=az9e s3;rw[ecl];simp only[qM];rw[aza (by rw[wx];omega),aza (by rw[wx];omega),wn qa];refine .inl ⟨_,m,rfl,xi m,i+1,rfl,⟨c3,d3⟩,rfl,qa,by simp only[wx];omega,λe he=>?_⟩;rcases zh he with he|rfl
   ·rcases zh he with he|rfl
    ·exact h7 e he
    ·exact(show ClE (z.getD i qw)from h7 _ (bza hi))
   ·exact⟨k1,k2⟩
 ·rintro z ⟨z1,z2⟩;refine⟨_,rfl,⟨by simp only;omega,by simp only;omega⟩,λc hc=>by have:=q2 c hc;omega,λe he=>?_⟩;obtain⟨k1,k2⟩:=z2 e he;exact⟨qa,qa⟩
open Go.Proofs
theorem azai {s:azd}{m:aze}{t:List Int}(hf:MapF m):PaF (zzy s m t).1:=by
 have nilF:PaF ⟨nl,nl⟩:=⟨by simp[nl],λc hc=>(by cases hc),by simp[nl],λe he=>(by cases he)⟩;by_cases hg:Tzc m t
 ·by_cases h1:t.length=1
  ·rw[Lzs hg h1];exact(az9b s (by decide) (by decide) _).f
  ·by_cases h2:∀i,i+1<t.length->(edX m (atE t i) (atE t (i+1))).isSome=true
   ·rw[Lzq hg h1 h2];have h256:=hg.2.2.1;refine⟨by simp;omega,λc hc=>?_,by simp[cz4];omega,λy hy=>?_⟩
    ·obtain⟨v,hv,rfl⟩:=zi.1 hc;obtain⟨i,hi,rfl⟩:=wC hv;have hp:=hg.2.2.2 i hi;have e:atE t i=t[i]:=by show t.getD i qw=_;simp[wo,wD hi]
     rw[e]at hp;exact hf.1 _ (bza (l:=m.Xc) (i:=t[i].toNat) qa)
    ·obtain⟨i,hi,rfl⟩:=zi.1 hy;have hi:=List.mem_range.1 hi;have hx:=h2 i qa;unfold stpE;cases he:edX m (atE t i) (atE t (i+1))with
     |none=>rw[he]at hx;cases hx
     |some e=>exact azd9 hf (Pzr he).1 _
   ·have:∃i,i+1<t.length/\edX m (atE t i) (atE t (i+1))=none:=by
     refine x7 λhn=>h2 λi hi=>?_
     cases he:edX m (atE t i) (atE t (i+1))with
     |none=>exact absurd ⟨i,hi,he⟩ hn
     |some e=>rfl
    obtain⟨i,hi,he⟩:=this;rw[Lzr h1 hi he];exact nilF
 ·rw[nzu hg];exact nilF
theorem Bzp (s:azd)(m:aze)(r:bzy)(hs:szm m)(hf:MapF m):(izc s m r).o=some true:=by
 have e0:(izc s m r).o=(wzi s m r).run NN:=rfl;have es:(⟨s.Xf,s.Xd,s.Xj⟩:azd)=s:=rfl;have em:(⟨m.Xc,m.Xa⟩:aze)=m:=rfl;have er:(⟨r.Xq,r.Xi⟩:bzy)=r:=rfl;rw[e0];simp only[wzi,qk,es,em,er,azbw s m r hs hf,az5d s m r hs hf,qM,beq_self_eq_true,qe,az4r _ (azai hf)]
theorem azea (s:azd){P:List (List Int)}{x:az4}(hp:∀c∈P,c.length<=10)(hU:x.U.toNat<P.length)(hV:x.V.toNat<P.length):(tstE s P 3 x).Xn.Xo.length<=4194304/\hz7 (tstE s P 3 x).Xn.Xo<=4194304:=by
 have h1:=hp _ (bza hU);have h2:=hp _ (bza hV);obtain⟨-,ok⟩:=azda s (P.getD x.U.toNat qw) (P.getD x.V.toNat qw) qa qa (d:=3) (by decide) (by decide);have hb:=ok.bd;have ht:=Uzb hb;have hl:=hb.1;show(pvR s (P.getD x.U.toNat qw) (P.getD x.V.toNat qw) 3).Xo.length<=_/\_;exact⟨qa,by show hz7 (pvR s (P.getD x.U.toNat qw) (P.getD x.V.toNat qw) 3).Xo<=_;omega⟩
theorem az70 (l m:List Int)(hl:l.length<4294967296)(hm:m.length<4294967296):∃y,(Czn l m).o=some y/\RoB y.1.Xf/\szm y.2/\MapF y.2/\0<y.2.Xc.length/\y.2.Xc.length<=7:=by
 have es:∀s:azd,(⟨s.Xf,s.Xd,s.Xj⟩:azd)=s:=λ_=>rfl
 obtain⟨s,e1,hr,hv,hsv⟩:=Tzp l hl;obtain⟨pts,e5,lp,hp⟩:=Nza s.Xf 5 qa m hm hr hv;obtain⟨a,e6,ha,a0,a7,a49,S,es',a2,a4⟩:=azcv s.Xf pts 2 qa qa hv hp;have hin:∀c∈a.Xc,bz8 s.Xf c=true:=by
  obtain⟨a',p1,-,p3⟩:=Yzo s.Xf pts 2 qa (λc hc=>by have:=izb (hp c hc);omega);rw[e6]at p1;injection p1 with p1
  rw[p1,(p3 hv).1];exact zz4 s.Xf pts _
 have hwf:WF ⟨a.Xc,a.Xa⟩:=azab hv hin a2 a4;have hz:∀j,j<a.Xa.length->(a.Xa.getD j qw).Xr=0:=λj hj=>by
  have:=bza hj;rw[a2]at this;obtain⟨u,v,-,-,-,h⟩:=(a4.2 _).1 (x8 this);rw[<-a2]at h;rw[h];rfl
 have h10:∀c∈a.Xc,c.length<=10:=λc hc=>(izb (hin c hc)).2
 show ∃y,(tza l m).run NN=some y/\_;have e5':(izz s.Xf 5 m).o=some pts:=e5;simp only[tza,qk,es,e1,e5',e6,qM]
 refine czu (P:=λy:azd×aze=>RoB y.1.Xf/\szm y.2/\MapF y.2/\0<y.2.Xc.length/\y.2.Xc.length<=7) (λk (z:List (List Int)×List az4×Int)=>∃j:Nat,(z.1=a.Xc/\z.2.2=(j:Int)/\z.2.1.length=a.Xa.length)/\j+k=a.Xa.length/\(∀q,q<j->z.2.1.getD q qw=tstE s a.Xc 3 (a.Xa.getD q qw))/\∀q,j<=q->q<a.Xa.length->z.2.1.getD q qw=a.Xa.getD q qw)
  (λ(z:List (List Int)×List az4)=>(z.1=a.Xc/\z.2.length=a.Xa.length)/\∀q,q<a.Xa.length->z.2.getD q qw=tstE s a.Xc 3 (a.Xa.getD q qw)) a.Xa.length ⟨0,⟨rfl,rfl,rfl⟩,qa,λq hq=>absurd hq (Nat.not_lt_zero q),λq _ _=>rfl⟩ qa ?_ ?_
 ·rintro k ⟨P',F,i⟩ ⟨j,⟨h1,h2,h3⟩,hjk,h4,h5⟩;simp only at h1 h2 h3 h4 h5;subst h1;subst h2;by_cases hj:j<a.Xa.length
  ·have hE:F.getD j qw=a.Xa.getD j qw:=h5 j (ql _) hj;obtain⟨o1,o2,o3,-,-⟩:=(hwf j hj).1;have o1:0<=(a.Xa.getD j qw).U:=o1;have o2:(a.Xa.getD j qw).U<(a.Xa.getD j qw).V:=o2;have o3:(a.Xa.getD j qw).V<(a.Xc.length:Int):=o3;rw[<-hE]at o1 o2 o3;simp only;rw[az6 qa,az42 s a.Xc F j ha.pts qa qa (by rw[hE];exact hz j hj) ⟨o1,qa⟩ ⟨qa,o3⟩ (d:=3) (by decide) (by decide)];simp only[qM];rw[wn qa];refine .inl ⟨_,k-1,rfl,qa,j+1,⟨rfl,rfl,by rw[wx];exact h3⟩,qa,λq hq=>?_,λq hq hq2=>?_⟩
   ·show(F.set j _).getD q qw=_;rw[Hz4 qa];split
    ·rename_i he;rw[he,hE]
    ·exact h4 q qa
   ·show(F.set j _).getD q qw=_;rw[Hz4 qa,qb qa];exact h5 q qa hq2
  ·simp only;rw[az5 qa];exact .inr (.inl ⟨_,rfl,⟨rfl,h3⟩,λq hq=>h4 q qa⟩)
 ·rintro⟨P',F⟩ ⟨⟨h1,h3⟩,h4⟩;simp only at h1 h3 h4;subst h1;refine⟨_,rfl,hr,⟨by show a.Xc.length<=100;omega,by show F.length<=200;omega⟩,⟨λc hc=>by have:=h10 c hc;omega,λe he=>?_⟩,a0,a7⟩;have he:e∈F:=he;obtain⟨q,hq,rfl⟩:=wC he;have e9:=h4 q qa;rw[wo,wD hq,Option.getD_some]at e9;obtain⟨o1,o2,o3,-,-⟩:=(hwf q (show q<a.Xa.length from qa)).1;have o1:0<=(a.Xa.getD q qw).U:=o1;have o2:(a.Xa.getD q qw).U<(a.Xa.getD q qw).V:=o2;have o3:(a.Xa.getD q qw).V<(a.Xc.length:Int):=o3;rw[e9];exact azea s h10 qa qa
theorem Jzs (raw:azd)(any:aze)(t:bzy)(l m:List Int)(fr to_:Int)(hl:l.length<4294967296)(hm:m.length<4294967296)(hf:MapF any):(ez7 raw any t l m fr to_).o=some true:=by
 have es:∀s:azd,(⟨s.Xf,s.Xd,s.Xj⟩:azd)=s:=λ_=>rfl
 have em:∀m:aze,(⟨m.Xc,m.Xa⟩:aze)=m:=λ_=>rfl
 have er:∀r:bzy,(⟨r.Xq,r.Xi⟩:bzy)=r:=λ_=>rfl
 suffices hh:∃b,(jzr raw any t l m fr to_).run NN=some b/\b=true by
  obtain⟨b,b1,b2⟩:=hh;rw[<-b2];exact b1
 obtain⟨⟨s,a⟩,p1,hr,hs,hfa,h0,h7⟩:=az70 l m hl hm;simp only at hr hs hfa h0 h7;have e7:(kz0 fr (a.Xc.length:Int)).o=some (fr % (a.Xc.length:Int)):=zzq qa qa;have e8:(kz0 to_ (a.Xc.length:Int)).o=some (to_ % (a.Xc.length:Int)):=zzq qa qa;obtain⟨u,u1,-⟩:=Nzx a (fr % (a.Xc.length:Int)) (to_ % (a.Xc.length:Int)) 0 hs nn5;obtain⟨w,w1,w2,w3⟩:=Nzc s.Xf m hm hr;obtain⟨b0,eb⟩:=Mzl raw;simp only[jzr,qk,es,em,er,az0s,eb,p1,e7,e8,u1,w1,az98,qM,qe,Bzp s a t hs hfa,Bzp s a u.1 hs hfa,Bzp s w u.1 w2 w3];by_cases hsm:any.Xc.length<=30/\any.Xa.length<=60
 ·have hsa:szm any:=⟨qa,qa⟩;simp only[Bzp raw any t hsa hf,qM,qe];rw[qg hsm];simp only[qP,qd];cases b0 with
  |false=>exact⟨_,rfl,rfl⟩
  |true=>
   simp only[qP,qd,az7];cases qx (((t.Xq.length:Nat):Int)>20)<;>exact⟨_,rfl,rfl⟩
 ·rw[qh hsm];exact⟨_,rfl,rfl⟩
end Go.Abs
