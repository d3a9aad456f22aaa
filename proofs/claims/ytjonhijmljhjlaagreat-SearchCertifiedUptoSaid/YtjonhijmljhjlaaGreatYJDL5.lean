import Derived.Test.YtjonhijmljhjlaaGreatYJDL1
import Derived.Test.YtjonhijmljhjlaaGreatYJDL4
import Derived.Test.YtjonhijmljhjlaaGreatYJDL2
open Bool renaming false_eq_true->zi,or_eq_true->qZ,or_eq_false_iff->qp,and_true->wJ,not_true->qO,and_eq_true->qm,not_false->xp
open Go.IntKind renaming i64->qu
open Inhabited renaming default->qv
open Int renaming toNat_of_nonneg->zh,tdiv_eq_ediv_of_nonneg->xk,toNat_natCast->qG,le_refl->xi,mul_le_mul_of_nonneg_right->wL,emod_nonneg->xf,emod_lt_of_pos->xg
open List renaming getD_eq_getElem?_getD->wm,length_set->wx,length_append->xc,length_singleton->xd,length_replicate->wA,length_cons->wB,length_nil->w8,flatMap_cons->zj,append_nil->xz,mem_flatMap->zk,mem_singleton->wO,pairwise_iff_getElem->zm,getElem?_eq_getElem->wE,replicate->qt,getElem?_append_left->zq,getElem?_append_right->zr,mem_append->xh,mem_of_mem_take->zb,mem_map->zd,getElem_of_mem->wD,map_cons->xN,length_map->zf
open Nat renaming strongRecOn->zg,mul_le_mul_right->zn,le_refl->wz,le_trans->wH,lt_or_ge->zo,add_comm->zp,add_zero->qD,lt_succ_self->xj,add_sub_cancel->wI
open Option renaming bind_some->qL,getD_some->wF
open Go.Abs.T renaming run->qk
noncomputable section
namespace Go.Abs
theorem Lz4 {σ τ R:Type}{f:σ->Option (Step3 σ τ R)}(I:Nat->σ->Prop)(Q:τ->Prop)
 (hr:∀m x,I m x->(∃x' m',f x=some (.next x')/\m'<m/\I m' x')\/∃y,f x=some (.out y)/\Q y):
 ∀ (N m:Nat) (x:σ),I m x->m<N->∃y,iter f N x=some (.inl y)/\Q y
 |0,_,_,_,h=>qa
 |N+1,m,x,hi,h=>by
  rcases hr m x hi with⟨x',m',h1,h2,h3⟩|⟨y,h1,h2⟩
  ·rw[Ezn h1];exact Lz4 I Q hr N m' x' h3 qa
  ·exact⟨y,by simp[iter,h1],h2⟩
theorem Ozb {σ τ R:Type}{f:σ->Option (Step3 σ τ R)}(I:Nat->σ->Prop)(Q:τ ⊕ R->Prop)
 (hr:∀m x,I m x->(∃x' m',f x=some (.next x')/\m'<m/\I m' x')\/(∃y,f x=some (.out y)/\Q (.inl y))\/∃r,f x=some (.fin r)/\Q (.inr r)):
 ∀ (N m:Nat) (x:σ),I m x->m<N->∃y,iter f N x=some y/\Q y
 |0,_,_,_,h=>qa
 |N+1,m,x,hi,h=>by
  rcases hr m x hi with⟨x',m',h1,h2,h3⟩|⟨y,h1,h2⟩|⟨y,h1,h2⟩
  ·rw[Ezn h1];exact Ozb I Q hr N m' x' h3 qa
  ·exact⟨_,by simp[iter,h1],h2⟩
  ·exact⟨_,by simp[iter,h1],h2⟩
theorem Tz5 {σ τ R:Type}{f:σ->Option (Step3 σ τ R)}{k:τ->Option R}{P:R->Prop}{N:Nat}{x:σ}(I:Nat->σ->Prop)(Q:τ->Prop)(m:Nat)(h0:I m x)(hN:m<N)
 (hr:∀m x,I m x->(∃x' m',f x=some (.next x')/\m'<m/\I m' x')\/∃y,f x=some (.out y)/\Q y) (hk:∀y,Q y->∃r,k y=some r/\P r):∃r,andK (iter f N x) k=some r/\P r:=by
 obtain⟨y,hy,hq⟩:=Lz4 I Q hr N m x h0 hN;rw[gzy hy];exact hk y hq
theorem az1u {σ τ R β:Type}{f:σ->Option (Step3 σ τ R)}{k:τ->Option R}{g:β->R}{P:β->Prop}{N:Nat}{x:σ}(I:Nat->σ->Prop)(Q:τ->Prop)(m:Nat)(h0:I m x)(hN:m<N)
 (hr:∀m x,I m x->(∃x' m',f x=some (.next x')/\m'<m/\I m' x')\/∃y,f x=some (.out y)/\Q y) (hk:∀y,Q y->∃b,k y=some (g b)/\P b):∃b,andK (iter f N x) k=some (g b)/\P b:=by
 obtain⟨y,hy,hq⟩:=Lz4 I Q hr N m x h0 hN;rw[gzy hy];exact hk y hq
theorem az5k {σ τ R β:Type}{f:σ->Option (Step3 σ τ R)}{k:τ->Option R}{g:β->R}{P:β->Prop}{N:Nat}{x:σ}(I:Nat->σ->Prop)(Q:τ->Prop)(m:Nat)(h0:I m x)(hN:m<N)
 (hr:∀m x,I m x->(∃x',f x=some (.next x')/\∃m',m'<m/\I m' x')\/∃y,f x=some (.out y)/\Q y) (hk:∀y,Q y->∃b,k y=some (g b)/\P b):∃b,andK (iter f N x) k=some (g b)/\P b:=by
 refine az1u I Q m h0 hN (λm x h=>?_) hk;rcases hr m x h with⟨x',h1,m',h2,h3⟩|h
 ·exact .inl ⟨x',m',h1,h2,h3⟩
 ·exact .inr h
theorem Hz8 {σ τ R:Type}{f:σ->Option (Step3 σ τ R)}{k:τ->Option R}{P:R->Prop}{N:Nat}{x:σ}(I:Nat->σ->Prop)(Q:τ->Prop)(m:Nat)(h0:I m x)(hN:m<N)
 (hr:∀m x,I m x->(∃x' m',f x=some (.next x')/\m'<m/\I m' x')\/(∃y,f x=some (.out y)/\Q y)\/∃r,f x=some (.fin r)/\P r) (hk:∀y,Q y->∃r,k y=some r/\P r):∃r,andK (iter f N x) k=some r/\P r:=by
 obtain⟨y,hy,hq⟩:=Ozb I (λy=>match y with| .inl y=>Q y| .inr r=>P r) hr N m x h0 hN;cases y with
 |inl y=>rw[gzy hy];exact hk y hq
 |inr r=>rw[Eza hy];exact⟨r,rfl,hq⟩
theorem az25 (p:Nat->Prop)(h:∃n,p n):∃n,p n/\∀m,p m->n<=m:=by
 obtain⟨n,hn⟩:=h;induction n using zg with
 |_ n ih=>
  by_cases hh:∃m,m<n/\p m
  ·obtain⟨m,hm,hp⟩:=hh;exact ih m hm hp
  ·refine⟨n,hn,λm hm=>?_⟩;by_cases hlt:m<n
   ·exact absurd ⟨m,hlt,hm⟩ hh
   ·omega
theorem az77:∀ (n k:Nat) (g:Nat->Nat),(∀j,j<=k->∃v,v<n/\g v=j)->k<n
 |0,k,g,h=>by obtain⟨v,hv,_⟩:=h 0 qa;omega
 |n+1,k,g,h=>by
  by_cases hk:k=0
  ·omega
  ·have:=az77 n (k-1) (λv=>if g v=k then g n else g v) (λj hj=>by
    by_cases hm:g n=k
    ·obtain⟨v,hv,hg⟩:=h j qa;have:v≠n:=λe=>by subst e;omega
     exact⟨v,qa,by show(if _ then _ else _)=_;rw[qb qa];exact hg⟩
    ·by_cases hj2:j=g n
     ·obtain⟨v,hv,hg⟩:=h k qa;have:v≠n:=λe=>by subst e;omega
      exact⟨v,qa,by show(if _ then _ else _)=_;rw[qc hg];exact hj2.symm⟩
     ·obtain⟨v,hv,hg⟩:=h j qa;have:v≠n:=λe=>by subst e;omega
      exact⟨v,qa,by show(if _ then _ else _)=_;rw[qb qa];exact hg⟩)
   omega
section
variable (E:Int->Int->Int->Prop) (t:Int)
inductive Walk:Int->Int->Int->Prop
 |nil:Walk t 0 0
 |cons {v u c d k:Int}:E v u c->Walk u d k->Walk v (d+c) (k+1)
def Best (v c k:Int):Prop:=Walk E t v c k/\∀c' k',Walk E t v c' k'->c<c'\/c=c'/\k<=k'
structure Graph (n C:Int):Prop where
 sym:∀u v c,E u v c->E v u c
 cost:∀u v c,E u v c->0<=c/\c<=C
 lt:∀u v c,E u v c->0<=u/\u<n/\0<=v/\v<n
end
variable {E:Int->Int->Int->Prop} {t n C:Int}
theorem Walk.ge (g:Graph E n C){v c k:Int}(h:Walk E t v c k):0<=c/\0<=k:=by
 induction h with
 |nil=>omega
 |cons he _ ih=>have:=g.cost _ _ _ he;omega
theorem Walk.le (g:Graph E n C){v c k:Int}(h:Walk E t v c k):c<=k * C:=by
 induction h with
 |nil=>simp
 |cons he _ ih=>have:=g.cost _ _ _ he;rw[Int.add_mul];omega
theorem Walk.lt (g:Graph E n C)(ht:0<=t/\t<n){v c k:Int}(h:Walk E t v c k):0<=v/\v<n:=by
 cases h with
 |nil=>exact ht
 |cons he _=>have:=g.lt _ _ _ he;omega
theorem Walk.zero (g:Graph E n C){v c k:Int}(h:Walk E t v c k)(hk:k=0):v=t/\c=0:=by
 cases h with
 |nil=>exact⟨rfl,rfl⟩
 |cons he hw=>have:=hw.ge g;omega
theorem Best.exists (g:Graph E n C){v c k:Int}(h:Walk E t v c k):∃c' k',Best E t v c' k':=by
 have h0:=h.ge g;obtain⟨a,⟨k1,ha⟩,hmin⟩:=az25 (λa=>∃k,Walk E t v (a:Int) k) ⟨c.toNat,k,by rw[zh h0.1];exact h⟩;have h1:=ha.ge g;obtain⟨b,hb,hmin2⟩:=az25 (λb=>Walk E t v (a:Int) (b:Int)) ⟨k1.toNat,by rw[zh h1.2];exact ha⟩;refine⟨a,b,hb,λc' k' hw=>?_⟩;have h2:=hw.ge g;have h3:=hmin c'.toNat ⟨k',by rw[zh h2.1];exact hw⟩;by_cases hc:(a:Int)=c'
 ·subst hc;have:=hmin2 k'.toNat (by rw[zh h2.2];exact hw);omega
 ·omega
theorem Best.unique {v c k c' k':Int}(h:Best E t v c k)(h':Best E t v c' k'):c=c'/\k=k':=by
 have h1:=h.2 _ _ h'.1;have h2:=h'.2 _ _ h.1;omega
theorem Best.self (g:Graph E n C):Best E t t 0 0:=⟨.nil,λc' k' h=>by have:=h.ge g;omega⟩
theorem Best.step {v c k:Int}(h:Best E t v c k)(hk:k≠0):∃u e,E v u e/\Best E t u (c-e) (k-1):=by
 obtain⟨hw,hm⟩:=h;cases hw with
 |nil=>omega
 |cons he hw=>
  rename_i u e d j;refine⟨u,e,he,?_⟩;rw[show d+e-e=d from qa,show j+1-1=j from qa];refine⟨hw,λc' k' h=>?_⟩;have:=hm _ _ (Walk.cons he h);omega
theorem Best.ne (g:Graph E n C){v c k:Int}(h:Best E t v c k)(hv:v≠t):1<=k:=by
 have h1:=h.1.ge g;by_cases h0:k=0
 ·exact absurd (h.1.zero g h0).1 hv
 ·omega
theorem Best.lower (g:Graph E n C)(j:Nat):∀ (k:Nat) {v c:Int},Best E t v c (k:Int)->j<=k->∃u c',Best E t u c' (j:Int)
 |0,v,c,h,hj=>⟨v,c,by have:j=0:=qa
                      subst this;exact h⟩
 |k+1,v,c,h,hj=>by
  by_cases hk:j=k+1
  ·subst hk;exact⟨v,c,h⟩
  ·obtain⟨u,e,_,hb⟩:=h.step qa;rw[show((k+1:Nat):Int)-1=(k:Int) from qa]at hb;exact Best.lower g j k hb qa
theorem Best.few (g:Graph E n C)(ht:0<=t/\t<n){v c k:Int}(h:Best E t v c k):k<n:=by
 have h0:=h.1.ge g;obtain⟨k',rfl⟩:∃k':Nat,k=k':=⟨k.toNat,qa⟩;have key:=az77 n.toNat k' (λv=>open Classical in if hh:∃k:Nat,∃c,Best E t (v:Int) c (k:Int)then Classical.choose hh else 0) (λj hj=>by
  obtain⟨u,c',hb⟩:=Best.lower g j k' h hj;have hu:=hb.1.lt g ht;refine⟨u.toNat,qa,?_⟩;have hb':Best E t ((u.toNat:Nat):Int) c' (j:Int):=by rw[zh hu.1];exact hb
  have hh:∃k:Nat,∃c,Best E t ((u.toNat:Nat):Int) c (k:Int):=⟨j,c',hb'⟩;refine(dif_pos hh).trans ?_;obtain⟨c2,hc2⟩:=Classical.choose_spec hh;have:=hb'.unique hc2;omega)
 omega
def aza9 (E:Int->Int->Int->Prop)(t v w:Int):Prop:=
 (∃c k e,Best E t v c k/\E v w e/\Best E t w (c-e) (k-1))/\∀w',(∃c k e,Best E t v c k/\E v w' e/\Best E t w' (c-e) (k-1))->w<=w'
inductive Rt (E:Int->Int->Int->Prop) (t:Int):Int->List Int->Prop
 |nil:Rt E t t []
 |cons {v w:Int} {l:List Int}:v≠t->aza9 E t v w->Rt E t w l->Rt E t v (w::l)
theorem Rt.length (g:Graph E n C){v:Int}{l:List Int}(h:Rt E t v l):∀ {c k:Int},Best E t v c k->(l.length:Int)=k:=by
 induction h with
 |nil=>intro c k hb;have:=hb.unique (Best.self g);simp;omega
 |cons hv hn _ ih=>
  intro c k hb;obtain⟨c',k',e,h1,_,h3⟩:=hn.1;have:=hb.unique h1;have:=ih h3;simp;omega
theorem Fz9 (a0:azf)(a1:azf):(gz0 a0 a1).o=(pzi a0 a1).run NN:=rfl
theorem Tzy (a0:(List azj))(a1:azj):(zzt a0 a1).o=(zzu a0 a1).run NN:=rfl
theorem Wzd (a0:(List azj)):(Dzn a0).o=(Dzo a0).run NN:=rfl
def ltR (a b:azf):Prop:=a.cost<b.cost\/a.cost=b.cost/\a.points<b.points
theorem vzm {a b:azf}(h:b.points=0\/ltR a b):(gz0 a b).o=some true:=by
 simp only[Fz9,pzi,qk];unfold ltR at*
 by_cases h0:b.points=0
 ·rw[ezf (by simpa using h0)]
 ·rw[ezp (by simpa using h0)];by_cases h1:a.cost<b.cost
  ·rw[az8 h1]
  ·rw[az7 h1,ezf (by simp;omega)];simp;omega
theorem rzj {a b:azf}(h0:b.points≠0)(h:¬ltR a b):(gz0 a b).o=some false:=by
 simp only[Fz9,pzi,qk];unfold ltR at*
 rw[ezp (by simpa using h0),az7 qa];by_cases h1:a.cost=b.cost
 ·rw[ezf (by simpa using h1)];simp;omega
 ·rw[ezp (by simpa using h1)]
section
variable {α:Type} [Inhabited α]
theorem mem_getD {l:List α}{y:α}:y∈l↔∃i,i<l.length/\l.getD i qv=y:=by
 rw[List.mem_iff_getElem];constructor
 ·rintro⟨i,hi,rfl⟩;exact⟨i,hi,by simp[hi]⟩
 ·rintro⟨i,hi,rfl⟩;exact⟨i,hi,by simp[hi]⟩
theorem zz6 {l:List α}{i k:Nat}{x:α}(hi:i<l.length):(l.set i x).getD k qv=if k=i then x else l.getD k qv:=by
 rw[wm,List.getElem?_set];by_cases h:k=i
 ·subst h;simp[hi]
 ·rw[qb (λe=>h e.symm),qb h,wm]
theorem zz5 {l:List α}{i j k:Nat}(hi:i<l.length)(hj:j<l.length):
 ((l.set i (l.getD j qv)).set j (l.getD i qv)).getD k qv=if k=j then l.getD i qv else if k=i then l.getD j qv else l.getD k qv:=by
 rw[zz6 (by simpa using hj),zz6 hi]
theorem Xzy {l:List α}{i j:Nat}(hi:i<l.length)(hj:j<l.length){y:α}:y∈(l.set i (l.getD j qv)).set j (l.getD i qv)↔y∈l:=by
 rw[mem_getD,mem_getD];simp only[wx];constructor
 ·rintro⟨k,hk,h⟩;rw[zz5 hi hj]at h;split at h
  ·exact⟨i,hi,h⟩
  ·split at h
   ·exact⟨j,hj,h⟩
   ·exact⟨k,hk,h⟩
 ·rintro⟨k,hk,h⟩;by_cases h1:k=i
  ·exact⟨j,hj,by rw[zz5 hi hj,qc rfl,<-h1];exact h⟩
  ·by_cases h2:k=j
   ·refine⟨i,hi,?_⟩;rw[zz5 hi hj,qb qa,qc rfl,<-h2];exact h
   ·exact⟨k,hk,by rw[zz5 hi hj,qb h2,qb h1];exact h⟩
end
abbrev rk (l:List azj)(i:Nat):azf:=(l.getD i qv).rank
def Heap (l:List azj):Prop:=∀i,0<i->i<l.length->¬ltR (rk l i) (rk l ((i-1) / 2))
def Pts (l:List azj):Prop:=∀y∈l,1<=y.rank.points
theorem Pts.rk {l:List azj}(h:Pts l){i:Nat}(hi:i<l.length):(Go.Abs.rk l i).points≠0:=by
 have:=h _ (mem_getD.2 ⟨i,hi,rfl⟩);unfold Go.Abs.rk;omega
theorem Azp {l:List azj}{i j k:Nat}(hi:i<l.length)(hj:j<l.length):
 rk ((l.set i (l.getD j qv)).set j (l.getD i qv)) k=if k=j then rk l i else if k=i then rk l j else rk l k:=by
 unfold rk;rw[zz5 hi hj];split
 ·rfl
 ·split<;>rfl
theorem Lza {a b:azf}(h:ltR a b):¬ltR b a:=by unfold ltR at *;omega
theorem az1v {a b c:azf}(h:ltR a b)(h':ltR b c):ltR a c:=by unfold ltR at *;omega
theorem Lz5 {a b c:azf}(h:¬ltR b a)(h':¬ltR c b):¬ltR c a:=by unfold ltR at *;omega
theorem az53 {l:List azj}(h:Heap l):∀ (i:Nat),i<l.length->¬ltR (rk l i) (rk l 0):=by
 intro i;induction i using zg with
 |_ i ih=>
  intro hi;by_cases h0:i=0
  ·subst h0;unfold ltR;omega
  ·exact Lz5 (ih ((i-1) / 2) qa qa) (h i qa hi)
theorem az8i {i:Int}(h:0<i)(h2:i<4000000000000):qu.wrap ((qu.wrap (i-1)).tdiv 2)=(((i.toNat-1) / 2:Nat):Int):=by
 rw[w64 (x:=i-1) qa qa,xk qa,w64 qa qa];omega
theorem az98 (q:List azj)(x:azj)(hN:q.length+1<NN)(hlen:q.length<1000000000)(hh:Heap q)(hp:Pts q)(hx:1<=x.rank.points):
 ∃r,(zzt q x).o=some r/\Heap r/\r.length=q.length+1/\∀y,y∈r↔(y∈q\/y=x):=by
 simp only[Tzy,zzu,qk,xc,xd]
 ((repeat(first|rw[azg qa]|rw[azg (by simp only[xd,wx,wA,azc,and_true];omega)])))
 have hstart:qu.wrap (((q.length+1:Nat):Int)-1)=(q.length:Int):=by rw[w64 qa qa];omega
 rw[hstart]
 refine Tz5 (λm (s:List azj×Int)=>0<=s.2/\s.2.toNat=m/\s.2.toNat<s.1.length/\s.1.length=q.length+1/\(∀y,y∈s.1↔(y∈q\/y=x))/\
  (∀j,0<j->j<s.1.length->j≠s.2.toNat->¬ltR (rk s.1 j) (rk s.1 ((j-1) / 2)))/\
  (∀j,0<j->j<s.1.length->(j-1) / 2=s.2.toNat->0<s.2.toNat->¬ltR (rk s.1 j) (rk s.1 ((s.2.toNat-1) / 2))))
  (λr=>Heap r/\r.length=q.length+1/\∀y,y∈r↔(y∈q\/y=x)) q.length ?_ qa ?_ (λy h=>⟨y,rfl,h⟩)
 rotate_left
 ·rintro m ⟨l,i⟩ ⟨i0,im,il,ll,hmem,hA,hB⟩;simp only at i0 im il ll hmem hA hB⊢;have hpl:Pts l:=λy hy=>by
   rcases(hmem y).1 hy with h|h
   ·exact hp y h
   ·rw[h];exact hx
  by_cases hi:i>0
  ·rw[az8 hi];have hup:=az8i hi qa;rw[hup];have hupl:(i.toNat-1) / 2<l.length:=qa
   ((repeat rw[azg qa]);rw[qG])
   by_cases hlt:ltR (rk l i.toNat) (rk l ((i.toNat-1) / 2))
   ·left
    (rw[vzm (.inr hlt),qL,ezp (by rfl)];(repeat(first|rw[azg qa]|rw[azg (by simp only[wx];omega)])))
    refine⟨_,(i.toNat-1) / 2,rfl,qa,by simp only;omega,by simp only;omega,by simp only[wx,qG];omega,by simpa using ll,λy=>?_,λj j0 jl hj=>?_,λj j0 jl hj hup0=>?_⟩
    ·rw[Xzy il hupl];exact hmem y
    ·simp only[qG,wx]at jl hj⊢;rw[Azp il hupl,Azp il hupl,qb hj];by_cases hji:j=i.toNat
     ·subst hji;rw[qc rfl,qc rfl];exact Lza hlt
     ·rw[qb hji];by_cases hp1:(j-1) / 2=(i.toNat-1) / 2
      ·rw[qc hp1];intro hc;have:=hA j j0 jl hji;rw[hp1]at this;exact this (az1v hc hlt)
      ·rw[qb hp1];by_cases hp2:(j-1) / 2=i.toNat
       ·rw[qc hp2];exact hB j j0 jl hp2 qa
       ·rw[qb hp2];exact hA j j0 jl hji
    ·simp only[qG,wx]at jl hj hup0⊢;rw[Azp il hupl,Azp il hupl,qb qa];rw[qb (show ¬ ((i.toNat-1) / 2-1) / 2=(i.toNat-1) / 2 from qa),qb (show ¬ ((i.toNat-1) / 2-1) / 2=i.toNat from qa)];have hu:=hA ((i.toNat-1) / 2) hup0 hupl qa;by_cases hji:j=i.toNat
     ·rw[qc hji];exact hu
     ·rw[qb hji];have:=hA j j0 jl hji;rw[hj]at this;exact Lz5 hu this
   ·right;rw[rzj (hpl.rk hupl) hlt,qL,ezf (by rfl)];refine⟨_,rfl,λj j0 jl=>?_,ll,hmem⟩;by_cases hji:j=i.toNat
    ·subst hji;exact hlt
    ·exact hA j j0 jl hji
  ·right;rw[az7 hi];exact⟨_,rfl,λj j0 jl=>hA j j0 jl qa,ll,hmem⟩
 ·refine⟨by simp,by simp,by simp,by simp,λy=>by simp,λj j0 jl hj=>?_,λj j0 jl hj _=>?_⟩
  ·simp only[qG,xc,wB,w8]at jl hj;have e1:∀k,k<q.length->rk (q++[x]) k=rk q k:=λk hk=>by unfold rk;rw[getD_left hk]
   rw[e1 j qa,e1 _ qa];exact hh j j0 qa
  ·simp only[qG,xc,wB,w8]at jl hj;omega
theorem azbq (q:List azj)(hN:q.length+1<NN)(hq:0<q.length)(hlen:q.length<1000000000)(hh:Heap q)(hp:Pts q):
 ∃r,(Dzn q).o=some (q.getD 0 qv,r)/\Heap r/\r.length+1=q.length/\(∀y∈r,y∈q)/\(∀y∈q,y=q.getD 0 qv\/y∈r)/\∀y∈q,¬ltR y.rank (q.getD 0 qv).rank:=by
 simp only[Wzd,Dzo,qk];have hlast:qu.wrap (((q.length:Nat):Int)-1)=((q.length-1:Nat):Int):=by rw[w64 qa qa];omega
 rw[hlast];have e0:(0:Int).toNat=0:=rfl
 (rw[e0];(repeat(first|rw[azg qa]|rw[azg (by simp only[wx];omega)]));rw[qG])
 have hmin:∀y∈q,¬ltR y.rank (q.getD 0 qv).rank:=by
  intro y hy;obtain⟨i,hi,rfl⟩:=mem_getD.1 hy;exact az53 hh i hi
 have hg0:∀k,k<q.length-1->((q.set 0 (q.getD (q.length-1) qv)).take (q.length-1)).getD k qv=if k=0 then q.getD (q.length-1) qv else q.getD k qv:=by
  intro k hk;rw[wm,List.getElem?_take,qc hk,<-wm,zz6 hq]
 have hl0:((q.set 0 (q.getD (q.length-1) qv)).take (q.length-1)).length=q.length-1:=by simp
 have hm1:∀y∈(q.set 0 (q.getD (q.length-1) qv)).take (q.length-1),y∈q:=by
  intro y hy;obtain⟨k,hk,h⟩:=mem_getD.1 hy;rw[hl0]at hk;rw[hg0 k hk]at h;split at h
  ·exact mem_getD.2 ⟨_,qa,h⟩
  ·exact mem_getD.2 ⟨k,qa,h⟩
 have hm2:∀y∈q,y=q.getD 0 qv\/y∈(q.set 0 (q.getD (q.length-1) qv)).take (q.length-1):=by
  intro y hy;obtain⟨k,hk,h⟩:=mem_getD.1 hy;by_cases hk0:k=0
  ·subst hk0;exact .inl h.symm
  ·right;by_cases hkl:k=q.length-1
   ·exact mem_getD.2 ⟨0,by rw[hl0];omega,by rw[hg0 0 qa,qc rfl,<-hkl];exact h⟩
   ·exact mem_getD.2 ⟨k,by rw[hl0];omega,by rw[hg0 k qa,qb hk0];exact h⟩
 generalize (q.set 0 (q.getD (q.length-1) qv)).take (q.length-1)=l0 at hg0 hl0 hm1 hm2⊢
 refine az1u (λm (s:List azj×Int)=>0<=s.2/\s.2.toNat+m=q.length/\s.1.length=q.length-1/\(∀y,y∈s.1↔y∈l0)/\
  (∀j,0<j->j<s.1.length->(j-1) / 2≠s.2.toNat->¬ltR (rk s.1 j) (rk s.1 ((j-1) / 2)))/\
  (∀j,0<j->j<s.1.length->(j-1) / 2=s.2.toNat->0<s.2.toNat->¬ltR (rk s.1 j) (rk s.1 ((s.2.toNat-1) / 2))))
  (λr=>Heap r/\r.length=q.length-1/\∀y,y∈r↔y∈l0) q.length ?_ qa ?_ (λy ⟨h1,h2,h3⟩=>⟨y,rfl,h1,qa,λz hz=>hm1 z ((h3 z).1 hz),λz hz=>(hm2 z hz).imp (λh=>h) (λh=>(h3 z).2 h),hmin⟩)
 rotate_left
 ·rintro m ⟨l,i⟩ ⟨i0,im,ll,hmem,hA,hB⟩;simp only at i0 im ll hmem hA hB⊢;have hpl:Pts l:=λy hy=>hp y (hm1 y ((hmem y).1 hy))
  have w1:qu.wrap ((qu.wrap (2 * i))+1)=((2 * i.toNat+1:Nat):Int):=by
   rw[w64 (x:=2 * i) qa qa,w64 qa qa];omega
  have w2:qu.wrap (((2 * i.toNat+1:Nat):Int)+1)=((2 * i.toNat+2:Nat):Int):=by
   rw[w64 qa qa];omega
  rw[w1,w2];by_cases hin:2 * i.toNat+1<q.length-1
  ·rw[az8 qa]
   obtain⟨d,hd,hdl,hdm,hX⟩:∃d:Nat,(d=2 * i.toNat+1\/d=2 * i.toNat+2)/\d<l.length/\(∀c,c<l.length->(c=2 * i.toNat+1\/c=2 * i.toNat+2)->¬ltR (rk l c) (rk l d))/\
    (andC (bif (decide (((2 * i.toNat+2:Nat):Int)<((q.length-1:Nat):Int)))then
     grd (0<=((2 * i.toNat+2:Nat):Int)/\((2 * i.toNat+2:Nat):Int)<((l.length:Nat):Int))<|
     grd ((((2 * i.toNat+2:Nat):Int)).toNat<l.length)<|
     grd (0<=((2 * i.toNat+1:Nat):Int)/\((2 * i.toNat+1:Nat):Int)<((l.length:Nat):Int))<|
     grd ((((2 * i.toNat+1:Nat):Int)).toNat<l.length)<|
     ((gz0 ((l.getD ((((2 * i.toNat+2:Nat):Int)).toNat) qv).rank) ((l.getD ((((2 * i.toNat+1:Nat):Int)).toNat) qv).rank)).o).bind λy104=>
     some (.out y104)
     else
      some (.out false):Option (Step3 Unit Bool (Step3 Unit Int (Step3 (List azj×Int) (List azj) (azj×List azj))))) λy103=>
     bif y103 then some (.out ((2 * i.toNat+2:Nat):Int))else some (.out ((2 * i.toNat+1:Nat):Int)))=some (.out (d:Int)):=by
    by_cases hin2:2 * i.toNat+2<q.length-1
    ·(rw[az8 qa];(repeat rw[azg qa]);rw[qG,qG])
     by_cases hlt:ltR (rk l (2 * i.toNat+2)) (rk l (2 * i.toNat+1))
     ·rw[vzm (.inr hlt)];refine⟨2 * i.toNat+2,.inr rfl,qa,λc hc h=>?_,rfl⟩;rcases h with rfl|rfl
      ·exact Lza hlt
      ·unfold ltR;omega
     ·rw[rzj (hpl.rk qa) hlt];refine⟨2 * i.toNat+1,.inl rfl,qa,λc hc h=>?_,rfl⟩;rcases h with rfl|rfl
      ·unfold ltR;omega
      ·exact hlt
    ·rw[az7 qa];refine⟨2 * i.toNat+1,.inl rfl,qa,λc hc h=>?_,rfl⟩;rcases h with rfl|rfl
     ·unfold ltR;omega
     ·omega
   (rw[hX,az9];(repeat rw[azg qa]);rw[qG])
   have il:i.toNat<l.length:=qa
   by_cases hlt:ltR (rk l d) (rk l i.toNat)
   ·left
    (rw[vzm (.inr hlt),qL,ezp (by rfl)];(repeat(first|rw[azg qa]|rw[azg (by simp only[wx];omega)])))
    refine⟨_,q.length-d,rfl,qa,by simp only;omega,by simp only[qG];omega,by simpa using ll,λy=>?_,λj j0 jl hj=>?_,λj j0 jl hj hup0=>?_⟩
    ·rw[Xzy il hdl];exact hmem y
    ·simp only[qG,wx]at jl hj⊢;rw[Azp il hdl,Azp il hdl,qb hj];by_cases hjd:j=d
     ·subst hjd;rw[qc rfl,qc qa];exact Lza hlt
     ·rw[qb hjd];by_cases hji:j=i.toNat
      ·rw[qc hji,qb qa];have:=hB d qa hdl qa qa;rw[hji];exact this
      ·rw[qb hji];by_cases hp2:(j-1) / 2=i.toNat
       ·rw[qc hp2];exact hdm j jl qa
       ·rw[qb hp2];exact hA j j0 jl hp2
    ·simp only[qG,wx]at jl hj hup0⊢;rw[Azp il hdl,Azp il hdl,qb qa,qb qa,qb qa,qc qa];have:=hA j j0 jl qa;rw[hj]at this;exact this
   ·right;rw[rzj (hpl.rk il) hlt,qL,ezf (by rfl)];refine⟨_,rfl,λj j0 jl=>?_,ll,hmem⟩;by_cases hp2:(j-1) / 2=i.toNat
    ·rw[hp2];exact Lz5 hlt (hdm j jl qa)
    ·exact hA j j0 jl hp2
  ·right;rw[az7 qa];exact⟨_,rfl,λj j0 jl=>hA j j0 jl qa,ll,hmem⟩
 ·refine⟨by simp,by simp,hl0,λy=>Iff.rfl,λj j0 jl hj=>?_,λj j0 jl hj h=>by simp at h⟩;simp only[Int.toNat_zero]at hj jl⊢;have e1:rk l0 j=rk q j:=by unfold rk;rw[hg0 j qa,qb qa]
  have e2:rk l0 ((j-1) / 2)=rk q ((j-1) / 2):=by unfold rk;rw[hg0 _ qa,qb qa]
  rw[e1,e2];exact hh j j0 qa
theorem Gzt (a0:Int)(a1:Int):(izj a0 a1).o=(lzz a0 a1).run NN:=rfl
theorem Sz4 (a0:(List Int)):(yzn a0).o=(yzo a0).run NN:=rfl
theorem Bzv (a0:az4)(a1:(Int×Int)):(fz7 a0 a1).o=(jz5 a0 a1).run NN:=rfl
theorem Jzp (a0:azi)(a1:Int):(dzp a0 a1).o=(ozz a0 a1).run NN:=rfl
theorem Ez5 (a0:azi):(fzr a0).o=(kz2 a0).run NN:=rfl
theorem Mzk (a0:Int)(a1:Int):(rz4 a0 a1).o=(rz5 a0 a1).run NN:=rfl
theorem Nzv (a0:azi)(a1:Int):(jzq a0 a1).o=(uze a0 a1).run NN:=rfl
theorem Kzj (a0:Int):(qz4 a0).o=(qz5 a0).run NN:=rfl
def yze (n:Nat)(e:az4):Prop:=0<=e.U/\e.U<e.V/\e.V<(n:Int)/\0<=e.Xu/\e.Xu<=1099511627776
def eLt (a b:az4):Prop:=a.U<b.U\/a.U=b.U/\a.V<b.V
def Pre (m:azi)(k:Nat):Prop:=∀j,j<k->yze m.Xb.length (m.Xd.getD j qv)/\(0<j->eLt (m.Xd.getD (j-1) qv) (m.Xd.getD j qv))
def WF (m:azi):Prop:=Pre m m.Xd.length
def Bzo (m:azi):Prop:=m.Xb.length<=100/\m.Xd.length<=200
theorem Oz4 (a b:Int):(izj a b).o=some (if a<b then -1 else if a>b then 1 else 0):=by
 simp only[Gzt,lzz,Kzj,qz5,qk];simp only[qL,bne_self_eq_false,qd];by_cases h:a<b
 ·rw[az8 h,qc h]
 ·rw[az7 h,qb h];by_cases h2:a>b
  ·rw[az8 h2,qc h2]
  ·rw[az7 h2,qb h2]
theorem azcp (hN:3<=NN)(a b:Int):(yzn [a,b]).o=some (if a≠0 then a else b):=by
 obtain⟨M,hM⟩:∃M,NN=M+3:=⟨NN-3,qa⟩;have w1:qu.wrap (1:Int)=1:=by decide
 have w2:qu.wrap (2:Int)=2:=by decide
 simp only[Sz4,yzo,qk];rw[hM];by_cases ha:a=0
 ·subst ha;by_cases hb:b=0
  ·subst hb;simp[iter,andK,grd,w1,w2]
  ·have:(b !=0)=true:=by simpa using hb
   simp[iter,andK,grd,w1,this]
 ·have:(a !=0)=true:=by simpa using ha
  simp[iter,andK,grd,this,ha]
theorem jza (hN:3<=NN)(e:az4)(u v:Int):∃c,(fz7 e (u,v)).o=some c/\(c<0↔e.U<u\/e.U=u/\e.V<v)/\(c=0↔e.U=u/\e.V=v):=by
 simp only[Bzv,jz5,qk]
 ((repeat rw[azg qa]);rw[Oz4,qL];(repeat rw[azg qa]);rw[Oz4,qL,azcp hN,qL])
 refine⟨_,rfl,?_⟩;by_cases h1:e.U<u
 ·rw[qc h1];simp;omega
 ·rw[qb h1];by_cases h2:e.U>u
  ·rw[qc h2];simp;omega
  ·rw[qb h2,qb qa];by_cases h3:e.V<v
   ·rw[qc h3];omega
   ·rw[qb h3];by_cases h4:e.V>v
    ·rw[qc h4];omega
    ·rw[qb h4];omega
theorem mz6 (m:azi)(v:Int):(dzp m v).o=some (decide (0<=v/\v<(m.Xb.length:Int))):=by
 simp only[Jzp,ozz,qk];by_cases h:v>=0
 ·rw[az8 h];simp[show 0<=v from h]
 ·rw[az7 h];simp;omega
theorem Gzm (m:azi)(hs:Bzo m)(hN:1000<=NN):∃b,(fzr m).o=some b/\(b=true↔WF m):=by
 obtain⟨hs1,hs2⟩:=hs;simp only[Ez5,kz2,qk];rw[az7 qa,az9,az7 qa];refine Hz8 (λk (x:Int)=>∃i:Nat,x=(i:Int)/\i+k=m.Xd.length/\Pre m i) (λ_=>WF m) m.Xd.length ⟨0,rfl,qa,λj hj=>qa⟩ qa ?_ (λ_ h=>⟨true,rfl,by simp[h]⟩);rintro k x ⟨i,rfl,hi,hpre⟩;by_cases hlt:i<m.Xd.length
 ·(rw[az8 qa];(repeat rw[azg qa]);rw[qG])
  have hno:¬yze m.Xb.length (m.Xd.getD i qv)->¬WF m:=λh hw=>h (hw i hlt).1
  by_cases hok:yze m.Xb.length (m.Xd.getD i qv)
  ·obtain⟨o1,o2,o3,o4,o5⟩:=hok;rw[mz6,qL,Bz8 (by simp only;omega),mz6,qL,Bz8 (by simp only;omega),az7 qa,az7 qa,az9,az7 qa];by_cases h0:i=0
   ·subst h0;rw[az7 (by simp),az9,ezp (by rfl),w64n qa];refine .inl ⟨_,k-1,rfl,qa,1,rfl,qa,λj hj=>?_⟩;have hj0:j=0:=qa
    subst hj0;exact⟨⟨o1,o2,o3,o4,o5⟩,λh=>absurd h qa⟩
   ·have hw:qu.wrap ((i:Int)-1)=((i-1:Nat):Int):=by rw[w64 qa qa];omega
    (rw[az8 qa,hw];(repeat rw[azg qa]);rw[qG])
    obtain⟨c,hc,hc1,hc2⟩:=jza qa (m.Xd.getD (i-1) qv) (m.Xd.getD i qv).U (m.Xd.getD i qv).V;rw[hc,qL,az9];by_cases hcl:c<0
    ·rw[az7 qa,w64n qa];refine .inl ⟨_,k-1,rfl,qa,i+1,rfl,qa,λj hj=>?_⟩;by_cases hji:j=i
     ·subst hji;exact⟨⟨o1,o2,o3,o4,o5⟩,λ_=>hc1.1 hcl⟩
     ·exact hpre j qa
    ·rw[az8 qa];refine .inr (.inr ⟨_,rfl,?_⟩);simp only[zi,false_iff];intro hw;exact hcl (hc1.2 ((hw i hlt).2 qa))
  ·have hnw:=hno hok;refine .inr (.inr ⟨false,?_,by simp[hnw]⟩);unfold yze at hok;rw[mz6,qL];by_cases h1:0<=(m.Xd.getD i qv).U/\(m.Xd.getD i qv).U<(m.Xb.length:Int)
   ·rw[Bz8 h1,mz6,qL];by_cases h2:0<=(m.Xd.getD i qv).V/\(m.Xd.getD i qv).V<(m.Xb.length:Int)
    ·rw[Bz8 h2];by_cases h3:(m.Xd.getD i qv).U>=(m.Xd.getD i qv).V
     ·rw[az8 h3,az9,ezf (by rfl)]
     ·rw[az7 h3];by_cases h4:(m.Xd.getD i qv).Xu<0
      ·rw[az8 h4,az9,ezf (by rfl)]
      ·rw[az7 h4,az9,az8 qa]
    ·rw[Jzt h2,az9,ezf (by rfl)]
   ·rw[Jzt h1,az9,ezf (by rfl)]
 ·rw[az7 qa];refine .inr (.inl ⟨_,rfl,?_⟩);have:i=m.Xd.length:=qa
  subst this;exact hpre
def Ez7 (s mode:Int):Bool:=if mode=0 then s==1 else if mode=1 then(s==1||s==0)else if mode=2 then s !=2 else false
theorem az3t (s mode:Int):(rz4 s mode).o=some (Ez7 s mode):=by
 simp only[Mzk,rz5,qk];unfold Ez7;by_cases h0:mode=0
 ·rw[ezf (by simpa using h0),qc h0]
 ·rw[ezp (by simpa using h0),qb h0];by_cases h1:mode=1
  ·rw[ezf (by simpa using h1),qc h1];cases s==1<;>rfl
  ·rw[ezp (by simpa using h1),qb h1];by_cases h2:mode=2
   ·rw[ezf (by simpa using h2),qc h2]
   ·rw[ezp (by simpa using h2),qb h2]
def Eg (m:azi)(mode u v c:Int):Prop:=∃i,i<m.Xd.length/\Ez7 (m.Xd.getD i qv).Xq mode=true/\(m.Xd.getD i qv).Xu=c/\((m.Xd.getD i qv).U=u/\(m.Xd.getD i qv).V=v\/(m.Xd.getD i qv).U=v/\(m.Xd.getD i qv).V=u)
theorem Eg.graph {m:azi}(h:WF m)(mode:Int):Graph (Eg m mode) m.Xb.length 1099511627776:=by
 refine⟨λu v c ⟨i,h1,h2,h3,h4⟩=>⟨i,h1,h2,h3,h4.symm⟩,λu v c ⟨i,h1,h2,h3,h4⟩=>?_,λu v c ⟨i,h1,h2,h3,h4⟩=>?_⟩
 ·obtain⟨_,_,_,h5,h6⟩:=(h i h1).1;omega
 ·obtain⟨_,_,_,h5,h6⟩:=(h i h1).1;omega
theorem WF.lt {m:azi}(h:WF m){i j:Nat}(hij:i<j)(hj:j<m.Xd.length):eLt (m.Xd.getD i qv) (m.Xd.getD j qv):=by
 induction j with
 |zero=>omega
 |succ j ih=>
  have h1:=(h (j+1) hj).2 qa;rw[show j+1-1=j from qa]at h1;by_cases he:i=j
  ·subst he;exact h1
  ·have:=ih qa qa;unfold eLt at *;omega
theorem WF.one {m:azi}(h:WF m){i j:Nat}(hi:i<m.Xd.length)(hj:j<m.Xd.length)(hu:(m.Xd.getD i qv).U=(m.Xd.getD j qv).U)(hv:(m.Xd.getD i qv).V=(m.Xd.getD j qv).V):i=j:=by
 rcases Nat.lt_trichotomy i j with hlt|he|hlt
 ·have:=h.lt hlt hj;unfold eLt at this;omega
 ·exact he
 ·have:=h.lt hlt hi;unfold eLt at this;omega
def lk (mode v:Int)(e:az4):List azh:=if Ez7 e.Xq mode=true then(if e.U=v then [⟨e.V,e.Xu⟩]else if e.V=v then [⟨e.U,e.Xu⟩]else [])else []
def Dzi (es:List az4)(mode v:Int):List azh:=es.flatMap (lk mode v)
theorem Oze (es:List az4)(e:az4)(mode v:Int):Dzi (es++[e]) mode v=Dzi es mode v++lk mode v e:=by simp[Dzi]
theorem Lz7 (es:List az4)(mode v:Int):(Dzi es mode v).length<=es.length:=by
 induction es with
 |nil=>simp[Dzi]
 |cons e es ih=>
  have:(lk mode v e).length<=1:=by
   unfold lk;split
   ·split
    ·simp
    ·split<;>simp
   ·simp
  simp only[Dzi,zj,xc,wB]at ih⊢;omega
theorem az5i (m:azi)(mode:Int)(hs:Bzo m)(hw:WF m)(hN:1000<=NN):
 ∃L,(jzq m mode).o=some L/\L.length=m.Xb.length/\∀v,v<m.Xb.length->L.getD v qv=Dzi m.Xd mode v:=by
 obtain⟨hs1,hs2⟩:=hs;simp only[Nzv,uze,qk]
 ((repeat rw[azg qa]))
 refine Tz5 (λk (x:List (List azh)×Int)=>∃i:Nat,x.2=(i:Int)/\i+k=m.Xd.length/\x.1.length=m.Xb.length/\∀v,v<m.Xb.length->x.1.getD v qv=Dzi (m.Xd.take i) mode v)
  (λL=>L.length=m.Xb.length/\∀v,v<m.Xb.length->L.getD v qv=Dzi m.Xd mode v) m.Xd.length ⟨0,rfl,qa,by simp,λv hv=>?_⟩ qa ?_ (λL h=>⟨L,rfl,h⟩)
 ·simp[wm,hv,Dzi,nl]
 ·rintro k ⟨L,x⟩ ⟨i,hx,hi,hL,hlk⟩;simp only at hx hL hlk;subst hx;simp only;by_cases hlt:i<m.Xd.length
  ·(rw[az8 qa];(repeat rw[azg qa]);rw[qG,az3t,qL])
   obtain⟨o1,o2,o3,o4,o5⟩:=(hw i hlt).1;have htake:=czp hlt;left;by_cases hu:Ez7 (m.Xd.getD i qv).Xq mode=true
   ·rw[ezf hu];have hlenU:(L.getD (m.Xd.getD i qv).U.toNat qv).length<=m.Xd.length:=by
     rw[hlk _ qa];have:=Lz7 (m.Xd.take i) mode (((m.Xd.getD i qv).U.toNat:Nat):Int);simp at this⊢;omega
    have hlenV:(L.getD (m.Xd.getD i qv).V.toNat qv).length<=m.Xd.length:=by
     rw[hlk _ qa];have:=Lz7 (m.Xd.take i) mode (((m.Xd.getD i qv).V.toNat:Nat):Int);simp at this⊢;omega
    ((repeat rw[azg qa]))
    rw[zz6 (i:=(m.Xd.getD i qv).U.toNat) (k:=(m.Xd.getD i qv).V.toNat) qa,qb qa]
    (rw[wx];(repeat(first|rw[azg qa]|rw[azg (by simp only[xd,wx,wA,azc,and_true];omega)]));rw[az9,w64n qa])
    refine⟨_,k-1,rfl,qa,i+1,rfl,qa,by simpa using hL,λv hv=>?_⟩;simp only;rw[zz6 (by rw[wx];omega),zz6 qa,htake,Oze,<-hlk v hv];by_cases h1:v=(m.Xd.getD i qv).V.toNat
    ·rw[qc h1];unfold lk;rw[qc hu,qb qa,qc qa,h1]
    ·rw[qb h1];by_cases h2:v=(m.Xd.getD i qv).U.toNat
     ·rw[qc h2];unfold lk;rw[qc hu,qc qa,h2]
     ·rw[qb h2];unfold lk;rw[qc hu,qb qa,qb qa,xz]
   ·rw[ezp (by simpa using hu),az9,w64n qa];refine⟨_,k-1,rfl,qa,i+1,rfl,qa,hL,λv hv=>?_⟩;simp only;rw[htake,Oze,<-hlk v hv];unfold lk;rw[qb hu,xz]
  ·right;rw[az7 qa];refine⟨_,rfl,hL,λv hv=>?_⟩;rw[hlk v hv,gz3 qa]
theorem az21 {m:azi}(h:WF m){mode v w c:Int}:(⟨w,c⟩:azh)∈Dzi m.Xd mode v↔Eg m mode v w c:=by
 unfold Dzi;rw[zk];constructor
 ·rintro⟨e,he,hl⟩;obtain⟨i,hi,rfl⟩:=mem_getD.1 he;obtain⟨o1,o2,o3,o4,o5⟩:=(h i hi).1;unfold lk at hl;split at hl
  ·rename_i hu;split at hl
   ·rename_i h1;simp at hl;exact⟨i,hi,hu,hl.2.symm,.inl ⟨h1,hl.1.symm⟩⟩
   ·split at hl
    ·rename_i h1 h2;simp at hl;exact⟨i,hi,hu,hl.2.symm,.inr ⟨hl.1.symm,h2⟩⟩
    ·simp at hl
  ·simp at hl
 ·rintro⟨i,hi,hu,hc,huv⟩;obtain⟨o1,o2,o3,o4,o5⟩:=(h i hi).1;refine⟨(m.Xd.getD i qv),mem_getD.2 ⟨i,hi,rfl⟩,?_⟩;unfold lk;rw[qc hu];rcases huv with⟨h1,h2⟩|⟨h1,h2⟩
  ·rw[qc h1,h2,hc];exact wO.2 rfl
  ·rw[qb qa,qc h2,h1,hc];exact wO.2 rfl
theorem Tz4 {m:azi}(h:WF m)(mode v:Int):(Dzi m.Xd mode v).Pairwise (λa b=>a.to<b.to):=by
 have hp:m.Xd.Pairwise (λa b=>eLt a b/\a.U<a.V/\b.U<b.V):=by
  rw[zm];intro i j hi hj hij;have h1:=h.lt hij hj;have h2:=(h i hi).1;have h3:=(h j hj).1;simp only[wm,wE hi,wE hj,wF]at h1 h2 h3;exact⟨h1,h2.2.1,h3.2.1⟩
 unfold Dzi;generalize m.Xd=es at hp;induction es with
 |nil=>simp
 |cons e es ih=>
  rw[List.pairwise_cons]at hp;rw[zj,List.pairwise_append];refine⟨?_,ih hp.2,λa ha b hb=>?_⟩
  ·unfold lk;split
   ·split
    ·simp
    ·split<;>simp
   ·simp
  ·rw[zk]at hb;obtain⟨e',he',hb⟩:=hb;obtain⟨h1,h2,h3⟩:=hp.1 e' he';unfold eLt at h1;unfold lk at ha hb;split at ha
   ·split at hb
    ·split at ha
     ·split at hb
      ·simp at ha hb;subst ha;subst hb;simp only;omega
      ·split at hb
       ·simp at ha hb;subst ha;subst hb;simp only;omega
       ·simp at hb
     ·split at ha
      ·split at hb
       ·simp at ha hb;subst ha;subst hb;simp only;omega
       ·split at hb
        ·simp at ha hb;subst ha;subst hb;simp only;omega
        ·simp at hb
      ·simp at ha
    ·simp at hb
   ·simp at ha
abbrev rkv (R:List azf)(v:Int):azf:=R.getD v.toNat qv
abbrev leR (a b:azf):Prop:=a.cost<b.cost\/a.cost=b.cost/\a.points<=b.points
theorem Wzn {R:List azf}{q v:Int}{x:azf}(hq:0<=q/\q<(R.length:Int))(hv:0<=v):rkv (R.set q.toNat x) v=if v=q then x else rkv R v:=by
 unfold rkv;rw[zz6 qa];by_cases h:v=q
 ·subst h;rw[qc rfl,qc rfl]
 ·rw[qb qa,qb h]
def rest (d:Nat->Nat)(S:Nat->Bool):Nat->Nat
 |0=>0
 |n+1=>rest d S n+if S n=true then 0 else d n
theorem Mze {d:Nat->Nat}{S S':Nat->Bool}:∀ {n:Nat},(∀i,i<n->S' i=S i)->rest d S' n=rest d S n
 |0,_=>rfl
 |n+1,h=>by simp only[rest];rw[Mze (λi hi=>h i qa),h n qa]
theorem Yze {d:Nat->Nat}{S:Nat->Bool}{v:Nat}(hv:S v=false):∀ {n:Nat},v<n->rest d (λi=>i==v||S i) n+d v=rest d S n
 |0,h=>qa
 |n+1,h=>by
  simp only[rest];by_cases e:n=v
  ·subst e
   rw[Mze (S:=S) (λi hi=>by have:(i==n)=false:=by simp;omega
                            simp[this])]
   simp[hv]
  ·have:=Yze (d:=d) hv (n:=n) qa;have h2:(n==v)=false:=by simpa using e
   simp only[h2,Bool.false_or];omega
theorem Wzl {d:Nat->Nat}{S:Nat->Bool}{B:Nat}(h:∀i,d i<=B):∀ (n:Nat),rest d S n<=n * B
 |0=>by simp[rest]
 |n+1=>by
  have:=Wzl (S:=S) h n;have:=h n;simp only[rest,Nat.succ_mul];split<;>omega
section
variable (E:Int->Int->Int->Prop) (t fr:Int) (L:List (List azh))
structure DInv (R:List azf) (q:List azj) (S:Nat->Bool) (V:Int->Int->Int->Prop):Prop where
 len:R.length=L.length
 walk:∀v:Int,0<=v->v<(L.length:Int)->(rkv R v).points=0\/(1<=(rkv R v).points/\Walk E t v (rkv R v).cost ((rkv R v).points-1))
 few:∀v:Int,0<=v->v<(L.length:Int)->(rkv R v).points<=L.length+1
 src:rkv R t=⟨0,1⟩
 best:∀v:Int,0<=v->v<(L.length:Int)->S v.toNat=true->Best E t v (rkv R v).cost ((rkv R v).points-1)/\1<=(rkv R v).points
 relaxed:∀v w c:Int,0<=v->v<(L.length:Int)->S v.toNat=true->V v w c->1<=(rkv R w).points/\leR (rkv R w) ⟨(rkv R v).cost+c,(rkv R v).points+1⟩
 queued:∀v:Int,0<=v->v<(L.length:Int)->1<=(rkv R v).points->S v.toNat=false->(⟨rkv R v,v⟩:azj)∈q
 entry:∀e∈q,0<=e.point/\e.point<(L.length:Int)/\1<=e.rank.points/\1<=(rkv R e.point).points/\leR (rkv R e.point) e.rank
 low:∀v:Int,0<=v->v<(L.length:Int)->S v.toNat=true->∀e∈q,leR (rkv R v) e.rank
 heap:Heap q
 notFrom:S fr.toNat=false
end
variable {E:Int->Int->Int->Prop} {t fr C:Int} {L:List (List azh)}
theorem DInv.pts {R:List azf}{q:List azj}{S:Nat->Bool}{V:Int->Int->Int->Prop}(h:DInv E t fr L R q S V):Pts q:=λy hy=>(h.entry y hy).2.2.1
theorem DInv.key (g:Graph E L.length C)(ht:0<=t/\t<(L.length:Int)){R:List azf}{q:List azj}{S:Nat->Bool}(h:DInv E t fr L R q S E):
 ∀ (k:Nat) (w c:Int),Best E t w c (k:Int)->S w.toNat=true\/∃e∈q,leR e.rank ⟨c,k+1⟩:=by
 intro k;induction k with
 |zero=>
  intro w c hb;obtain⟨rfl,rfl⟩:=hb.1.zero g qa;cases hs:S w.toNat with
  |true=>exact .inl rfl
  |false=>
   have hp:1<=(rkv R w).points:=by rw[h.src];decide
   refine .inr ⟨_,h.queued w ht.1 ht.2 hp hs,?_⟩;rw[h.src];exact .inr ⟨rfl,by simp⟩
 |succ k ih=>
  intro w c hb;obtain⟨u,e,he,hbu⟩:=hb.step qa;have hlt:=g.lt _ _ _ he;have hce:=g.cost _ _ _ he;rw[show((k+1:Nat):Int)-1=(k:Int) from qa]at hbu;rcases ih u (c-e) hbu with hs|⟨y,hy,hle⟩
  ·have h1:=h.relaxed u w e hlt.2.2.1 hlt.2.2.2 hs (g.sym _ _ _ he);have h2:=h.best u hlt.2.2.1 hlt.2.2.2 hs;have h3:=h2.1.unique hbu;cases hsw:S w.toNat with
   |true=>exact .inl rfl
   |false=>
    refine .inr ⟨_,h.queued w hlt.1 hlt.2.1 h1.1 hsw,?_⟩;simp only[leR]at h1⊢;omega
  ·refine .inr ⟨y,hy,?_⟩;simp only[leR]at hle⊢;omega
theorem DInv.first (g:Graph E L.length C)(ht:0<=t/\t<(L.length:Int)){R:List azf}{q:List azj}{S:Nat->Bool}(h:DInv E t fr L R q S E){v:Int}(hv:0<=v/\v<(L.length:Int))
 {r:azf} (hr:rkv R v=r) (hset:1<=r.points) (hmin:∀y∈q,¬ltR y.rank r):Best E t v r.cost (r.points-1):=by
 obtain⟨hp,hw⟩:=(h.walk v hv.1 hv.2).resolve_left (by rw[hr];omega);rw[hr]at hw;obtain⟨c,k,hb⟩:=Best.exists g hw;have h0:=hb.1.ge g;have h1:=hb.2 _ _ hw;obtain⟨k',rfl⟩:∃k':Nat,k=k':=⟨k.toNat,qa⟩;rcases h.key g ht k' v c hb with hs|⟨y,hy,hle⟩
 ·have:=(h.best v hv.1 hv.2 hs).1;rw[hr]at this;exact this
 ·have h2:=hmin y hy;unfold ltR at h2;simp only[leR]at hle;have e1:r.cost=c:=qa
  have e2:r.points-1=k':=qa
  rw[e1,e2];exact hb
theorem DInv.settled (g:Graph E L.length C)(ht:0<=t/\t<(L.length:Int)){R:List azf}{q:List azj}{S:Nat->Bool}(h:DInv E t fr L R q S E){w c k:Int}(hb:Best E t w c k)
 (hmin:∀y∈q,ltR ⟨c,k+1⟩ y.rank):rkv R w=⟨c,k+1⟩:=by
 have h0:=hb.1.ge g;have hw:=hb.1.lt g ht;obtain⟨k',rfl⟩:∃k':Nat,k=k':=⟨k.toNat,qa⟩;rcases h.key g ht k' w c hb with hs|⟨y,hy,hle⟩
 ·obtain⟨h1,h2⟩:=h.best w hw.1 hw.2 hs;have:=h1.unique hb;generalize rkv R w=z at this;obtain⟨z1,z2⟩:=z;simp only at this;rw[this.1,show z2=(k':Int)+1 from qa]
 ·have:=hmin y hy;unfold ltR at this;simp only[leR]at this hle;omega
theorem DInv.relax (g:Graph E L.length C){R:List azf}{q q':List azj}{S:Nat->Bool}{V:Int->Int->Int->Prop}(hV:∀v w c,V v w c->E v w c)(h:DInv E t fr L R q S V){v w c:Int}
 (ht:0<=t/\t<(L.length:Int)) (hs:S v.toNat=true) (he:E v w c) (hbet:(rkv R w).points=0\/ltR ⟨(rkv R v).cost+c,(rkv R v).points+1⟩ (rkv R w)) (hh:Heap q')
 (hq':∀y,y∈q'↔(y∈q\/y=⟨⟨(rkv R v).cost+c,(rkv R v).points+1⟩,w⟩)) (hlow:∀u:Int,0<=u->u<(L.length:Int)->S u.toNat=true->leR (rkv R u) (rkv R v)):
 DInv E t fr L (R.set w.toNat ⟨(rkv R v).cost+c,(rkv R v).points+1⟩) q' S (λa b d=>V a b d\/(a=v/\b=w/\d=c))/\w≠v/\S w.toNat=false:=by
 have hlt:=g.lt _ _ _ he;have hce:=g.cost _ _ _ he;obtain⟨hbv,hpv⟩:=h.best v hlt.1 hlt.2.1 hs;have hww:Walk E t w ((rkv R v).cost+c) ((rkv R v).points-1+1):=.cons (g.sym _ _ _ he) hbv.1;have hnot:S w.toNat=false:=by
  cases hsw:S w.toNat with
  |false=>rfl
  |true=>
   obtain⟨b1,b2⟩:=h.best w hlt.2.2.1 hlt.2.2.2 hsw;have:=b1.2 _ _ hww;unfold ltR at hbet;simp only at hbet;omega
 have hwv:w≠v:=λe=>by rw[e,hs]at hnot;cases hnot
 have hset:∀u:Int,0<=u->rkv (R.set w.toNat ⟨(rkv R v).cost+c,(rkv R v).points+1⟩) u=if u=w then⟨(rkv R v).cost+c,(rkv R v).points+1⟩else rkv R u:=λu hu=>Wzn ⟨hlt.2.2.1,by have:=h.len;omega⟩ hu
 have hS:∀u:Int,0<=u->S u.toNat=true->rkv (R.set w.toNat ⟨(rkv R v).cost+c,(rkv R v).points+1⟩) u=rkv R u:=λu hu hsu=>by
  rw[hset u hu,qb (λe=>by subst e;rw[hnot]at hsu;cases hsu)]
 have hmono:∀u:Int,0<=u->1<=(rkv R u).points->1<=(rkv (R.set w.toNat ⟨(rkv R v).cost+c,(rkv R v).points+1⟩) u).points/\leR (rkv (R.set w.toNat ⟨(rkv R v).cost+c,(rkv R v).points+1⟩) u) (rkv R u):=λu hu hp=>by
  rw[hset u hu];by_cases e:u=w
  ·subst e;rw[qc rfl];unfold ltR at hbet;simp only[leR]at hbet⊢;omega
  ·rw[qb e];exact⟨hp,.inr ⟨rfl,xi _⟩⟩
 refine⟨⟨by simpa using h.len,λu h0 h1=>?_,λu h0 h1=>?_,?_,λu h0 h1 hsu=>?_,λu x d h0 h1 hsu hv=>?_,λu h0 h1 hp hsu=>?_,λy hy=>?_,λu h0 h1 hsu y hy=>?_,hh,h.notFrom⟩,hwv,hnot⟩
 ·rw[hset u h0];by_cases e:u=w
  ·subst e;rw[qc rfl];refine .inr ⟨by simp only;omega,?_⟩;have:(rkv R v).points-1+1=(rkv R v).points+1-1:=qa
   rw[this]at hww;exact hww
  ·rw[qb e];exact h.walk u h0 h1
 ·rw[hset u h0];by_cases e:u=w
  ·rw[qc e];have:=hbv.few g ht;simp only;omega
  ·rw[qb e];exact h.few u h0 h1
 ·rw[hset t ht.1,qb (λe=>?_)]
  ·exact h.src
  ·subst e;rw[h.src]at hbet;have h0:=hbv.1.ge g;unfold ltR at hbet;simp only at hbet;omega
 ·rw[hS u h0 hsu];exact h.best u h0 h1 hsu
 ·rw[hS u h0 hsu];rcases hv with hv|⟨rfl,rfl,rfl⟩
  ·have h2:=h.relaxed u x d h0 h1 hsu hv;have hx:=(g.lt _ _ _ (hV _ _ _ hv)).2.2.1;have h3:=hmono x hx h2.1;refine⟨h3.1,?_⟩;have h4:=h2.2;have h5:=h3.2;simp only[leR]at h4 h5⊢;omega
  ·rw[hset x hlt.2.2.1,qc rfl];exact⟨by simp only;omega,.inr ⟨rfl,xi _⟩⟩
 ·rw[hset u h0]at hp⊢;by_cases e:u=w
  ·rw[qc e];exact(hq' _).2 (.inr (by rw[e]))
  ·rw[qb e]at hp⊢;exact(hq' _).2 (.inl (h.queued u h0 h1 hp hsu))
 ·rcases(hq' y).1 hy with hy|rfl
  ·obtain⟨e1,e2,e3,e4,e5⟩:=h.entry y hy;have h3:=hmono y.point e1 e4;refine⟨e1,e2,e3,h3.1,?_⟩;have h5:=h3.2;simp only[leR]at h5 e5⊢;omega
  ·refine⟨hlt.2.2.1,hlt.2.2.2,by simp only;omega,?_⟩;simp only;rw[hset w hlt.2.2.1,qc rfl];exact⟨by simp only;omega,.inr ⟨rfl,xi _⟩⟩
 ·rw[hS u h0 hsu];rcases(hq' y).1 hy with hy|rfl
  ·exact h.low u h0 h1 hsu y hy
  ·have:=hlow u h0 h1 hsu;simp only[leR]at this⊢;omega
theorem DInv.skip {R:List azf}{q:List azj}{S:Nat->Bool}{V:Int->Int->Int->Prop}(h:DInv E t fr L R q S V){v w c:Int}
 (hbet:¬ ((rkv R w).points=0\/ltR ⟨(rkv R v).cost+c,(rkv R v).points+1⟩ (rkv R w))) (hw:0<=w/\w<(L.length:Int)):
 DInv E t fr L R q S (λa b d=>V a b d\/(a=v/\b=w/\d=c)):=by
 refine⟨h.len,h.walk,h.few,h.src,h.best,λu x d h0 h1 hsu hv=>?_,h.queued,h.entry,h.low,h.heap,h.notFrom⟩;rcases hv with hv|⟨rfl,rfl,rfl⟩
 ·exact h.relaxed u x d h0 h1 hsu hv
 ·have:=h.walk x hw.1 hw.2;unfold ltR at hbet;simp only[leR]at hbet⊢;omega
theorem DInv.congr {R:List azf}{q:List azj}{S:Nat->Bool}{V V':Int->Int->Int->Prop}(h:DInv E t fr L R q S V)(hv:∀a b d,S a.toNat=true->V' a b d->V a b d):DInv E t fr L R q S V':=
 ⟨h.len,h.walk,h.few,h.src,h.best,λu x d h0 h1 hsu hv'=>h.relaxed u x d h0 h1 hsu (hv _ _ _ hsu hv'),h.queued,h.entry,h.low,h.heap,h.notFrom⟩
theorem Ez4 (a0:azh)(a1:(List azf))(a2:Int):(fzq a0 a1 a2).o=(kz1 a0 a1 a2).run NN:=rfl
theorem hzh (a0:(List azh))(a1:(List azf))(a2:Int):(bzz a0 a1 a2).o=(czq a0 a1 a2).run NN:=rfl
theorem Iz1 (a0:(List (List azh)))(a1:Int)(a2:Int):(fzj a0 a1 a2).o=(mzv a0 a1 a2).run NN:=rfl
structure Lks (E:Int->Int->Int->Prop) (L:List (List azh)):Prop where
 graph:Graph E L.length 1099511627776
 mem:∀v w c:Int,0<=v->v<(L.length:Int)->((⟨w,c⟩:azh)∈L.getD v.toNat qv↔E v w c)
 few:∀i,(L.getD i qv).length<=200
 len:L.length<=100
 sorted:∀i,i<L.length->(L.getD i qv).Pairwise (λa b=>a.to<b.to)
def azcd (E:Int->Int->Int->Prop)(t fr:Int)(L:List (List azh))(R:List azf):Prop:=
 R.length=L.length/\(∀v:Int,0<=v->v<(L.length:Int)->(rkv R v).points=0\/(1<=(rkv R v).points/\Walk E t v (rkv R v).cost ((rkv R v).points-1)))/\
 (∀v:Int,0<=v->v<(L.length:Int)->(rkv R v).points<=L.length+1)/\
 ∀c k,Best E t fr c k->rkv R fr=⟨c,k+1⟩/\∀w c' k',Best E t w c' k'->(c'<c\/c'=c/\k'<k)->rkv R w=⟨c',k'+1⟩
variable {E:Int->Int->Int->Prop} {t fr:Int} {L:List (List azh)}
theorem DInv.drop {R:List azf}{q q1:List azj}{S:Nat->Bool}{V:Int->Int->Int->Prop}{x:azj}(h:DInv E t fr L R q S V)(h1:∀y∈q1,y∈q)(h2:∀y∈q,y=x\/y∈q1)(hh:Heap q1)
 (hx:rkv R x.point≠x.rank):DInv E t fr L R q1 S V:=
 ⟨h.len,h.walk,h.few,h.src,h.best,h.relaxed,λv h0 hl hp hs=>(h2 _ (h.queued v h0 hl hp hs)).resolve_left (λe=>hx (by rw[<-e])),λy hy=>h.entry y (h1 y hy),λv h0 hl hs y hy=>h.low v h0 hl hs y (h1 y hy),hh,h.notFrom⟩
theorem DInv.settle (g:Graph E L.length 1099511627776)(ht:0<=t/\t<(L.length:Int))(hf:0<=fr){R:List azf}{q q1:List azj}{S:Nat->Bool}{x:azj}(h:DInv E t fr L R q S E)(hxq:x∈q)(h1:∀y∈q1,y∈q)(h2:∀y∈q,y=x\/y∈q1)(hh:Heap q1)
 (hx:rkv R x.point=x.rank) (hmin:∀y∈q,¬ltR y.rank x.rank) (hxf:x.point≠fr):
 DInv E t fr L R q1 (λi=>i==x.point.toNat||S i) (λa b d=>S a.toNat=true/\E a b d):=by
 obtain⟨e1,e2,e3,e4,e5⟩:=h.entry x hxq;have hb:=h.first g ht ⟨e1,e2⟩ hx e3 hmin;have hS:∀u:Int,0<=u->(u.toNat==x.point.toNat||S u.toNat)=true->u=x.point\/S u.toNat=true:=by
  intro u hu h;rw[qZ]at h;rcases h with h|h
  ·left;have:=eq_of_beq h;omega
  ·exact .inr h
 refine⟨h.len,h.walk,h.few,h.src,λv h0 hl hs=>?_,λv w c h0 hl hs hv=>h.relaxed v w c h0 hl hv.1 hv.2,λv h0 hl hp hs=>?_,λy hy=>h.entry y (h1 y hy),λv h0 hl hs y hy=>?_,hh,?_⟩
 ·rcases hS v h0 hs with rfl|hs
  ·rw[hx];exact⟨hb,e3⟩
  ·exact h.best v h0 hl hs
 ·simp only[qp]at hs;refine(h2 _ (h.queued v h0 hl hp hs.2)).resolve_left (λe=>?_);have:v=x.point:=by rw[<-e]
  rw[this]at hs;simp at hs
 ·rcases hS v h0 hs with rfl|hs
  ·rw[hx];have:=hmin y (h1 y hy);unfold ltR at this;simp only[leR];omega
  ·exact h.low v h0 hl hs y (h1 y hy)
 ·simp only[qp];refine⟨?_,h.notFrom⟩;rw[beq_eq_false_iff_ne];omega
theorem az7x {l:azh}{R:List azf}{v:Int}(h1:0<=l.to/\l.to<(R.length:Int))(h2:0<=v/\v<(R.length:Int))(h3:1<=(rkv R v).points/\(rkv R v).points<=1000000)(h4:0<=l.cost/\l.cost<=1099511627776)
 (h5:(rkv R l.to).points=(rkv R v).points-1->0<=(rkv R l.to).cost/\(rkv R l.to).cost<=4000000000000000000):
 (fzq l R v).o=some (decide ((rkv R l.to).points=(rkv R v).points-1/\(rkv R l.to).cost+l.cost=(rkv R v).cost),R,v):=by
 simp only[Ez4,kz1,qk]
 ((repeat rw[azg qa]);rw[w64 (x:=(rkv R v).points-1) qa qa])
 by_cases hp:(rkv R l.to).points=(rkv R v).points-1
 ·have:=h5 hp
  (rw[dzj hp];(repeat rw[azg qa]);rw[w64 (x:=(rkv R l.to).cost+l.cost) qa qa])
  by_cases hc:(rkv R l.to).cost+l.cost=(rkv R v).cost
  ·rw[qg ⟨hp,hc⟩,beq_iff_eq.2 hc]
  ·rw[qh (λh=>hc h.2),beq_eq_false_iff_ne.2 hc]
 ·rw[dze hp,qh (λh=>hp h.1)]
theorem az55 {l:List azh}{R:List azf}{v:Int}(M:azh->Prop)[DecidablePred M](hN:l.length+1<NN)(hl:l.length<1000000)(h:∀x∈l,(fzq x R v).o=some (decide (M x),R,v))(hex:∃x∈l,M x):
 ∃i:Nat,(bzz l R v).o=some ((i:Int),R,v)/\i<l.length/\M (l.getD i qv)/\∀j,j<i->¬M (l.getD j qv):=by
 have key:∃r,(bzz l R v).o=some r/\∃i:Nat,r=((i:Int),R,v)/\i<l.length/\M (l.getD i qv)/\∀j,j<i->¬M (l.getD j qv):=by
  simp only[hzh,czq,qk];refine Hz8 (λk (x:List azf×Int×Int)=>∃i:Nat,x=(R,v,(i:Int))/\i+k=l.length/\∀j,j<i->¬M (l.getD j qv)) (λ_=>False) l.length ⟨0,rfl,qa,λj hj=>qa⟩ qa ?_ (λ_ h=>h.elim);rintro k x ⟨i,rfl,hi,hpre⟩;dsimp only;by_cases hlt:i<l.length
  ·(rw[az8 qa];(repeat rw[azg qa]);rw[qG,h _ (mem_getD.2 ⟨i,hlt,rfl⟩),qL])
   dsimp only;by_cases hM:M (l.getD i qv)
   ·rw[az8 hM];exact .inr (.inr ⟨_,rfl,i,rfl,hlt,hM,hpre⟩)
   ·rw[az7 hM,w64n qa];refine .inl ⟨_,k-1,rfl,qa,i+1,rfl,qa,λj hj=>?_⟩;by_cases hji:j=i
    ·subst hji;exact hM
    ·exact hpre j qa
  ·exfalso
   obtain⟨x,hx,hMx⟩:=hex;obtain⟨j,hj,rfl⟩:=mem_getD.1 hx;exact hpre j qa hMx
 obtain⟨r,h1,i,rfl,h2⟩:=key;exact⟨i,h1,h2⟩
theorem Uzn (hk:Lks E L)(ht:0<=t/\t<(L.length:Int))(hfr:0<=fr/\fr<(L.length:Int))(hN:100000<=NN):
 ∃r:List Int×Int×Bool,(fzj L fr t).o=some r/\((r.2.2=false/\r.1=nl/\r.2.1=0/\∀c k,¬Walk E t fr c k)\/(r.2.2=true/\∃c k l,Best E t fr c k/\Rt E t fr l/\r.1=fr::l/\r.2.1=c)):=by
 have g:=hk.graph;have hlen:=hk.len;simp only[Iz1,mzv,qk]
 ((repeat rw[azg qa]);rw[qG];(repeat rw[azg qa]))
 have hset:∀v:Int,0<=v->rkv ((qt L.length (⟨0,0⟩:azf)).set t.toNat ⟨0,1⟩) v=if v=t then⟨0,1⟩else rkv (qt L.length ⟨0,0⟩) v:=λv hv=>Wzn ⟨ht.1,by simpa using ht.2⟩ hv
 have hrep:∀v:Int,rkv (qt L.length (⟨0,0⟩:azf)) v=⟨0,0⟩:=λv=>by
  unfold rkv;rw[wm,List.getElem?_replicate];split<;>rfl
 have hl0:((qt L.length (⟨0,0⟩:azf)).set t.toNat ⟨0,1⟩).length=L.length:=by simp
 generalize (qt L.length (⟨0,0⟩:azf)).set t.toNat ⟨0,1⟩=R0 at hset hl0;have hR0t:rkv R0 t=⟨0,1⟩:=by rw[hset t ht.1,qc rfl]
 ((repeat(first|rw[azg qa]|rw[azg (by simp only[xd,wx,wA,azc,and_true];omega)])))
 rw[show R0.getD t.toNat qv=⟨0,1⟩from hR0t]
 refine az5k (g:=λr=>r) (λm (x:List azf×List azj)=>∃S,DInv E t fr L x.1 x.2 S E/\x.2.length+rest (λi=>(L.getD i qv).length) S L.length<=m/\m<=20001)
  (azcd E t fr L) (1+rest (λi=>(L.getD i qv).length) (λ_=>false) L.length) ⟨λ_=>false,⟨hl0,λv h0 h1=>?_,λv h0 h1=>?_,hR0t,by simp,by simp,λv h0 h1 hp _=>?_,λe he=>?_,by simp,?_,rfl⟩,by simp,?_⟩ ?_ ?_ ?_
 ·rw[hset v h0];by_cases e:v=t
  ·rw[qc e];subst e;exact .inr ⟨by decide,.nil⟩
  ·rw[qb e,hrep];exact .inl rfl
 ·rw[hset v h0];by_cases e:v=t
  ·rw[qc e];simp only;omega
  ·rw[qb e,hrep];simp only;omega
 ·rw[hset v h0]at hp⊢;by_cases e:v=t
  ·rw[qc e,e];simp
  ·rw[qb e,hrep]at hp;exact absurd hp (by decide)
 ·simp only[wO]at he;subst he;refine⟨ht.1,ht.2,xi 1,?_⟩;simp only;rw[hR0t];exact⟨by decide,.inr ⟨rfl,xi _⟩⟩
 ·intro i h0 h1;simp at h1;omega
 ·have:=Wzl (S:=λ_=>false) (λi=>hk.few i) L.length;have:L.length * 200<=100 * 200:=zn _ hlen;omega
 ·have:=Wzl (S:=λ_=>false) (λi=>hk.few i) L.length;have:L.length * 200<=100 * 200:=zn _ hlen;omega
 ·rintro m ⟨R,q⟩ ⟨S,hI,hm,hm2⟩;simp only at hI hm;dsimp only;by_cases hq:0<q.length
  ·rw[az8 qa];obtain⟨q1,hpop,hheap1,hlen1,hsub,hsup,hmin⟩:=azbq q qa hq qa hI.heap hI.pts;have hxq:q.getD 0 qv∈q:=mem_getD.2 ⟨0,hq,rfl⟩;rw[hpop,qL];generalize q.getD 0 qv=x at hsup hmin hxq;dsimp only;obtain⟨e1,e2,e3,e4,e5⟩:=hI.entry x hxq;have hRl:=hI.len;by_cases hxf:x.point=fr
   ·right;rw[dzj hxf];refine⟨_,rfl,hI.len,hI.walk,hI.few,λc k hb=>?_⟩;rw[hxf]at e4 e5;have hb0:=hb.1.ge g;have hw:=(hI.walk fr hfr.1 hfr.2).resolve_left qa;have h1:=hb.2 _ _ hw.2;obtain⟨k',rfl⟩:∃k':Nat,k=k':=⟨k.toNat,qa⟩;obtain⟨y,hy,hle⟩:=(hI.key g ht k' fr c hb).resolve_left (by rw[hI.notFrom];simp);have h2:=hmin y hy;unfold ltR at h2;simp only[leR]at hle e5;have a1:(rkv R fr).cost=c:=qa
    have a2:(rkv R fr).points=k'+1:=qa
    have a3:x.rank.cost=c/\x.rank.points=k'+1:=qa
    refine⟨?_,λw c' k2 hb' hlt=>hI.settled g ht hb' λy' hy'=>?_⟩
    ·generalize rkv R fr=z at a1 a2;obtain⟨z1,z2⟩:=z;simp only at a1 a2;rw[a1,a2]
    ·have h3:=hmin y' hy';unfold ltR at h3⊢;simp only;omega
   ·left
    (rw[dze hxf];(repeat rw[azg qa]))
    by_cases hst:x.rank.cost=(rkv R x.point).cost/\x.rank.points=(rkv R x.point).points
    ·have hx:rkv R x.point=x.rank:=by
      obtain⟨s1,s2⟩:=hst;generalize rkv R x.point=z at s1 s2;generalize x.rank=z' at s1 s2;obtain⟨z1,z2⟩:=z;obtain⟨z3,z4⟩:=z';simp only at s1 s2;rw[s1,s2]
     (rw[ezp (by rw[beq_iff_eq.2 hst.1,beq_iff_eq.2 hst.2];rfl)];(repeat rw[azg qa]))
     have hb:=hI.first g ht ⟨e1,e2⟩ hx e3 hmin;have hb0:=hb.1.ge g;have hbn:=hb.few g ht;have hbc:=hb.1.le g;have hbc2:(x.rank.points-1) * 1099511627776<=100 * 1099511627776:=wL qa qa;have hS0:=hI.settle g ht hfr.1 hxq hsub hsup hheap1 hx hmin hxf;have hfew:=hk.few x.point.toNat
     refine az5k (g:=Step3.next) (λk' (z:List azf×List azj×Int)=>∃j:Nat,z.2.2=(j:Int)/\j+k'=(L.getD x.point.toNat qv).length/\
      DInv E t fr L z.1 z.2.1 (λi=>i==x.point.toNat||S i) (λa b d=>(S a.toNat=true/\E a b d)\/(a=x.point/\∃i,i<j/\(L.getD x.point.toNat qv).getD i qv=⟨b,d⟩))/\rkv z.1 x.point=x.rank/\
      (∀u:Int,0<=u->u<(L.length:Int)->(u.toNat==x.point.toNat||S u.toNat)=true->leR (rkv z.1 u) x.rank)/\z.2.1.length<=q1.length+j/\(S x.point.toNat=true->z.2.1=q1))
      (λz=>DInv E t fr L z.1 z.2 (λi=>i==x.point.toNat||S i) (λa b d=>(S a.toNat=true/\E a b d)\/(a=x.point/\∃i,i<(L.getD x.point.toNat qv).length/\(L.getD x.point.toNat qv).getD i qv=⟨b,d⟩))/\
       z.2.length<=q1.length+(L.getD x.point.toNat qv).length/\(S x.point.toNat=true->z.2=q1))
      (L.getD x.point.toNat qv).length ⟨0,rfl,qa,hS0.congr (λa b d _ hv=>?_),hx,λu h0 h1 hsu=>?_,by simp,λ_=>rfl⟩ qa ?_ ?_
     ·rcases hv with hv|⟨_,i,hi,_⟩
      ·exact hv
      ·omega
     ·rw[qZ]at hsu;rcases hsu with hsu|hsu
      ·have:u=x.point:=by have:=eq_of_beq hsu;omega
       rw[this,hx];exact .inr ⟨rfl,xi _⟩
      ·exact hI.low u h0 h1 hsu x hxq
     ·rintro k' ⟨R',q',jj⟩ ⟨j,hj,hjk,hD,hrx,hlow,hql,hsame⟩;simp only at hj hD hrx hlow hql hsame;subst hj;dsimp only;by_cases hlt:j<(L.getD x.point.toNat qv).length
      ·left
       (rw[az8 qa];(repeat rw[azg qa]);rw[qG])
       have hmem:(L.getD x.point.toNat qv).getD j qv∈L.getD x.point.toNat qv:=mem_getD.2 ⟨j,hlt,rfl⟩;have he:=(hk.mem x.point _ _ e1 e2).1 (show(⟨((L.getD x.point.toNat qv).getD j qv).to,((L.getD x.point.toNat qv).getD j qv).cost⟩:azh)∈_ from hmem);have hlj:(L.getD x.point.toNat qv).getD j qv=⟨((L.getD x.point.toNat qv).getD j qv).to,((L.getD x.point.toNat qv).getD j qv).cost⟩:=rfl;generalize hw:((L.getD x.point.toNat qv).getD j qv).to=w at he hlj;generalize hc:((L.getD x.point.toNat qv).getD j qv).cost=c at he hlj;have hwl:=g.lt _ _ _ he;have hce:=g.cost _ _ _ he;have hDl:=hD.len
       ((repeat rw[azg qa]);rw[w64 (x:=x.rank.cost+c) qa qa,w64 (x:=x.rank.points+1) qa qa])
       have hV:∀a b d,((S a.toNat=true/\E a b d)\/(a=x.point/\∃i,i<j/\(L.getD x.point.toNat qv).getD i qv=⟨b,d⟩))->E a b d:=by
        rintro a b d (h|⟨rfl,i,hi,he'⟩)
        ·exact h.2
        ·exact(hk.mem x.point _ _ e1 e2).1 (he'▸mem_getD.2 ⟨i,qa,rfl⟩)
       have hsv:(x.point.toNat==x.point.toNat||S x.point.toNat)=true:=by simp
       by_cases hbet:(rkv R' w).points=0\/ltR ⟨x.rank.cost+c,x.rank.points+1⟩ (rkv R' w)
       ·(rw[vzm hbet,qL,ezf (by rfl)];(repeat rw[azg qa]))
        obtain⟨q2,hpush,hh2,hl2,hm2'⟩:=az98 q' ⟨⟨x.rank.cost+c,x.rank.points+1⟩,w⟩ qa qa hD.heap hD.pts (by simp only;omega);rw[hpush,qL,az9,w64n qa];obtain⟨hD2,hwv,hsw⟩:=hD.relax g hV ht hsv he (by rw[hrx];exact hbet) hh2 (by rw[hrx];exact hm2') (by rw[hrx];exact hlow);rw[hrx]at hD2;have hset2:∀u:Int,0<=u->rkv (R'.set w.toNat ⟨x.rank.cost+c,x.rank.points+1⟩) u=if u=w then⟨x.rank.cost+c,x.rank.points+1⟩else rkv R' u:=λu hu=>Wzn ⟨hwl.2.2.1,qa⟩ hu
        refine⟨_,rfl,k'-1,qa,j+1,rfl,qa,hD2.congr (λa b d _ hv=>?_),?_,λu h0 h1 hsu=>?_,by dsimp only;omega,λhsx=>?_⟩
        ·rcases hv with hv|⟨rfl,i,hi,he'⟩
         ·exact .inl (.inl hv)
         ·by_cases hij:i=j
          ·subst hij;rw[hlj]at he';cases he';exact .inr ⟨rfl,rfl,rfl⟩
          ·exact .inl (.inr ⟨rfl,i,qa,he'⟩)
        ·dsimp only;rw[hset2 _ e1,qb (λe=>hwv e.symm)];exact hrx
        ·dsimp only;rw[hset2 u h0,qb (λe=>by subst e;rw[hsw]at hsu;cases hsu)];exact hlow u h0 h1 hsu
        ·exfalso
         have h3:=hD.relaxed x.point w c e1 e2 hsv (.inl ⟨hsx,he⟩);rw[hrx]at h3;unfold ltR at hbet;simp only[leR]at h3 hbet;omega
       ·rw[rzj (λh=>hbet (.inl h)) (λh=>hbet (.inr h)),qL,ezp (by rfl),az9,w64n qa];have hD2:=hD.skip (v:=x.point) (w:=w) (c:=c) (by rw[hrx];exact hbet) ⟨hwl.2.2.1,hwl.2.2.2⟩;refine⟨_,rfl,k'-1,qa,j+1,rfl,qa,hD2.congr (λa b d _ hv=>?_),hrx,hlow,by dsimp only;omega,hsame⟩;rcases hv with hv|⟨rfl,i,hi,he'⟩
        ·exact .inl (.inl hv)
        ·by_cases hij:i=j
         ·subst hij;rw[hlj]at he';cases he';exact .inr ⟨rfl,rfl,rfl⟩
         ·exact .inl (.inr ⟨rfl,i,qa,he'⟩)
      ·right;rw[az7 qa];have hje:j=(L.getD x.point.toNat qv).length:=qa
       subst hje;exact⟨_,rfl,hD,hql,hsame⟩
     ·rintro⟨R',q'⟩ ⟨hD,hql,hsame⟩;simp only at hD hql hsame;have hm':q'.length+rest (λi=>(L.getD i qv).length) (λi=>i==x.point.toNat||S i) L.length<m:=by
       cases hsx:S x.point.toNat with
       |true=>
        have:=hsame hsx;subst this;rw[Mze (S:=S) (λi hi=>by
         by_cases hix:i=x.point.toNat
         ·subst hix;simp[hsx]
         ·have:(i==x.point.toNat)=false:=by simpa using hix
          simp[this])]
        omega
       |false=>
        have:=Yze (d:=λi=>(L.getD i qv).length) hsx (n:=L.length) qa;omega
      refine⟨_,rfl,_,hm',_,hD.congr (λa b d hsa hv=>?_),wz _,qa⟩;rw[qZ]at hsa;rcases hsa with hsa|hsa
      ·have hab:=g.lt _ _ _ hv;have:a=x.point:=by have:=eq_of_beq hsa;omega
       subst this;obtain⟨i,hi,he'⟩:=mem_getD.1 ((hk.mem x.point _ _ e1 e2).2 hv);exact .inr ⟨rfl,i,hi,he'⟩
      ·exact .inl ⟨hsa,hv⟩
    ·rw[ezf (by
      rw[Bool.not_eq_true',Bool.and_eq_false_iff];by_cases h1:x.rank.cost=(rkv R x.point).cost
      ·right;rw[wJ];exact beq_eq_false_iff_ne.2 (λh2=>hst ⟨h1,h2⟩)
      ·exact .inl (beq_eq_false_iff_ne.2 h1))]
     refine⟨_,rfl,q1.length+rest (λi=>(L.getD i qv).length) S L.length,qa,S,hI.drop hsub hsup hheap1 (λe=>hst ?_),wz _,qa⟩;rw[e];exact⟨rfl,rfl⟩
  ·right;rw[az7 qa];have hnil:q=[]:=List.eq_nil_of_length_eq_zero qa;subst hnil;exact⟨_,rfl,hI.len,hI.walk,hI.few,λc k hb=>⟨hI.settled g ht hb (by simp),λw c' k' hb' _=>hI.settled g ht hb' (by simp)⟩⟩
 ·rintro R ⟨hRl,hwalk,hfew,hfound⟩
  ((repeat rw[azg qa]))
  by_cases hp:(rkv R fr).points=0
  ·rw[dzj hp];refine⟨_,rfl,.inl ⟨rfl,rfl,rfl,λc k hw=>?_⟩⟩;obtain⟨c',k',hb⟩:=Best.exists g hw;have h0:=hb.1.ge g;have:=(hfound _ _ hb).1;rw[this]at hp;simp only at hp;omega
  ·(rw[dze hp];(repeat rw[azg qa]))
   obtain⟨c,k,hb⟩:=Best.exists g ((hwalk fr hfr.1 hfr.2).resolve_left hp).2;have hb0:=hb.1.ge g;have hbn:=hb.few g ht;obtain⟨hf1,hf2⟩:=hfound c k hb;rw[show R.getD fr.toNat qv=⟨c,k+1⟩from hf1]
   refine az5k (g:=λr=>r) (λm (z:List azf×List Int×Int)=>∃c',z.1=R/\Best E t z.2.2 c' (m:Int)/\(c'<c\/c'=c/\(m:Int)<=k)/\rkv R z.2.2=⟨c',m+1⟩/\
    ∃pre,z.2.1=fr::pre/\(pre.length+m:Int)<=k/\∀l,Rt E t z.2.2 l->Rt E t fr (pre++l))
    (λacc=>∃l,acc=fr::l/\Rt E t fr l) k.toNat ⟨c,rfl,?_,?_,?_,[],rfl,by simp;omega,λl h=>h⟩ qa ?_ ?_
   ·dsimp only;rw[zh hb0.2];exact hb
   ·right;exact⟨rfl,qa⟩
   ·dsimp only;rw[zh hb0.2];exact hf1
   ·rintro m ⟨R',acc,v⟩ ⟨c',hR',hbv,hle,hrv,pre,hacc,hpl,hrt⟩;simp only at hR' hbv hle hrv hacc hpl hrt;subst hR';subst hacc;dsimp only;by_cases hvt:v=t
    ·right;rw[bza hvt];refine⟨_,rfl,pre,rfl,?_⟩;have:=hrt [] (by rw[hvt];exact .nil);simpa using this
    ·left;have hvl:=hbv.1.lt g ht;have hbv0:=hbv.1.ge g;have hm1:=hbv.ne g hvt;have hmn:=hbv.few g ht
     (rw[bzn hvt];(repeat rw[azg qa]))
     have hE:∀x∈L.getD v.toNat qv,E v x.to x.cost:=λx hx=>(hk.mem v _ _ hvl.1 hvl.2).1 hx
     have hM:∀x:azh,E v x.to x.cost->(((rkv R' x.to).points=(rkv R' v).points-1/\(rkv R' x.to).cost+x.cost=(rkv R' v).cost)↔Best E t x.to (c'-x.cost) (m-1)):=by
      intro x hx;have hxl:=g.lt _ _ _ hx;have hxc:=g.cost _ _ _ hx;rw[hrv];simp only;constructor
      ·rintro⟨h1,h2⟩;have hw:=((hwalk x.to hxl.2.2.1 hxl.2.2.2).resolve_left qa).2;have a1:(rkv R' x.to).cost=c'-x.cost:=qa
       have a2:(rkv R' x.to).points-1=(m:Int)-1:=qa
       rw[a1,a2]at hw;refine⟨hw,λc2 k2 hw2=>?_⟩;have:=hbv.2 _ _ (Walk.cons hx hw2);omega
      ·intro hbx;have:=hf2 _ _ _ hbx qa;rw[this];simp only;omega
     have hcond:∀x∈L.getD v.toNat qv,(fzq x R' v).o=some (decide ((rkv R' x.to).points=(rkv R' v).points-1/\(rkv R' x.to).cost+x.cost=(rkv R' v).cost),R',v):=by
      intro x hx;have hxE:=hE x hx;have hxl:=g.lt _ _ _ hxE;have hxc:=g.cost _ _ _ hxE;refine az7x ⟨hxl.2.2.1,qa⟩ ⟨hvl.1,qa⟩ (by rw[hrv];simp only;omega) hxc (λhpp=>?_);rw[hrv]at hpp;simp only at hpp;have hw:=((hwalk x.to hxl.2.2.1 hxl.2.2.2).resolve_left qa).2;have h1:=hw.ge g;have h2:=hw.le g;have:((rkv R' x.to).points-1) * 1099511627776<=100 * 1099511627776:=wL qa qa;omega
     obtain⟨u0,e0,he0,hbu0⟩:=hbv.step qa;have hfew2:=hk.few v.toNat;obtain⟨i,hidx,hil,hMi,hno⟩:=az55 (λx=>(rkv R' x.to).points=(rkv R' v).points-1/\(rkv R' x.to).cost+x.cost=(rkv R' v).cost) qa qa hcond ⟨⟨u0,e0⟩,(hk.mem v _ _ hvl.1 hvl.2).2 he0,(hM ⟨u0,e0⟩ he0).2 hbu0⟩;rw[hidx,qL];dsimp only
     ((repeat(first|rw[azg qa]|rw[azg (by simp only[wx];omega)]|rw[azg (by simp only[wB,w8,azc];omega)]|rw[azg (by simp only[xd,wx,wA,azc,and_true];omega)]|rw[azg (by rw[azc];simp only[wB];omega)]));rw[qG])
     have hmem:(L.getD v.toNat qv).getD i qv∈L.getD v.toNat qv:=mem_getD.2 ⟨i,hil,rfl⟩;have hxE:=hE _ hmem;have hbi:=(hM _ hxE).1 hMi;have hsort:=hk.sorted v.toNat qa;generalize hx:(L.getD v.toNat qv).getD i qv=x at hmem hxE hbi;have hxc:=g.cost _ _ _ hxE;have hb1:=hbi.1.ge g;have hnext:aza9 E t v x.to:=by
      refine⟨⟨c',m,x.cost,hbv,hxE,hbi⟩,?_⟩;rintro w' ⟨c2,k2,e2,hbv2,he2,hbw2⟩;obtain⟨rfl,rfl⟩:=hbv.unique hbv2;have hmem2:=(hk.mem v _ _ hvl.1 hvl.2).2 he2;obtain⟨j,hj,hje⟩:=mem_getD.1 hmem2;have hMj:=(hM ⟨w',e2⟩ he2).2 hbw2;by_cases hji:j<i
      ·exact absurd (by rw[hje];exact hMj) (hno j hji)
      ·by_cases hij:i=j
       ·subst hij;rw[hx]at hje;rw[hje];exact xi _
       ·have:=(zm.1 hsort) i j hil hj qa;have a1:(L.getD v.toNat qv)[i]=x:=by rw[<-hx,wm (l:=L.getD v.toNat qv),wE hil];rfl
        have a2:(L.getD v.toNat qv)[j]=⟨w',e2⟩:=by rw[<-hje,wm (l:=L.getD v.toNat qv),wE hj];rfl
        rw[a1,a2]at this;simp only at this;omega
     have hmm:((m-1:Nat):Int)=(m:Int)-1:=qa
     refine⟨_,rfl,m-1,qa,c'-x.cost,rfl,by dsimp only;rw[hmm];exact hbi,qa,?_,pre++[x.to],by simp,by simp;omega,λl hl=>?_⟩
     ·dsimp only;have:=hf2 _ _ _ hbi qa;rw[this,hmm]
     ·have:=hrt (x.to::l) (.cons hvt hnext hl);simpa using this
   ·rintro acc ⟨l,rfl,hl⟩;exact⟨_,rfl,.inr ⟨rfl,c,k,l,hb,hl,rfl,rfl⟩⟩
theorem Wzx (hk:Lks E L)(ht:0<=t/\t<(L.length:Int))(hfr:0<=fr/\fr<(L.length:Int))(hN:100000<=NN):
 ∃r:dzs×Bool,(fzj L fr t).o=some (r.1.Xr,r.1.Xu,r.2)/\((r.2=false/\r.1=⟨nl,0⟩/\∀c k,¬Walk E t fr c k)\/(r.2=true/\∃c k l,Best E t fr c k/\Rt E t fr l/\r.1=⟨fr::l,c⟩)):=by
 obtain⟨⟨v,c,b⟩,h1,h2⟩:=Uzn hk ht hfr hN;dsimp only at h2;refine⟨(⟨v,c⟩,b),h1,h2.imp (λh=>⟨h.1,by dsimp only;rw[h.2.1,h.2.2.1],h.2.2.2⟩) (λ⟨a,c',k,l,a1,a2,a3,a4⟩=>⟨a,c',k,l,a1,a2,by dsimp only;rw[a3,a4]⟩)⟩
def Yzr (m:azi)(fr t:Int):Prop:=WF m/\(0<=fr/\fr<(m.Xb.length:Int))/\(0<=t/\t<(m.Xb.length:Int))
def Routed (m:azi)(fr t mode:Int)(r:dzs×Bool):Prop:=
 (r.2=false/\r.1=⟨nl,0⟩/\∀c k,¬Walk (Eg m mode) t fr c k)\/(r.2=true/\∃c k l,Best (Eg m mode) t fr c k/\Rt (Eg m mode) t fr l/\r.1=⟨fr::l,c⟩)
theorem azbd {m:azi}{mode:Int}(hs:Bzo m)(hw:WF m){L:List (List azh)}(hl:L.length=m.Xb.length)(hL:∀v,v<m.Xb.length->L.getD v qv=Dzi m.Xd mode v):Lks (Eg m mode) L:=by
 refine⟨by rw[hl];exact Eg.graph hw mode,λv w c h0 h1=>?_,λi=>?_,by rw[hl];exact hs.1,λi hi=>?_⟩
 ·rw[hL v.toNat qa,zh h0];exact az21 hw
 ·by_cases h:i<m.Xb.length
  ·rw[hL i h];exact wH (Lz7 _ _ _) hs.2
  ·rw[wm,List.getElem?_eq_none qa];exact Nat.zero_le _
 ·rw[hL i qa];exact Tz4 hw mode i
theorem Wzb (m:azi)(fr t mode:Int)(hs:Bzo m)(h:Yzr m fr t)(hN:100000<=NN):∃L r,(jzq m mode).o=some L/\(fzj L fr t).o=some (r.1.Xr,r.1.Xu,r.2)/\Routed m fr t mode r:=by
 obtain⟨hw,hf,ht⟩:=h;obtain⟨L,h1,h2,h3⟩:=az5i m mode hs hw qa;obtain⟨r,h4,h5⟩:=Wzx (E:=Eg m mode) (t:=t) (fr:=fr) (azbd hs hw h2 h3) qa qa hN;exact⟨L,r,h1,h4,h5⟩
theorem Routed.len {m:azi}{fr t mode:Int}{r:dzs×Bool}(hs:Bzo m)(ha:Yzr m fr t)(h:Routed m fr t mode r):r.1.Xr.length<=101:=by
 rcases h with⟨_,h2,_⟩|⟨_,c,k,l,h2,h3,h4⟩
 ·rw[h2];simp[nl]
 ·have g:=Eg.graph ha.1 mode;have e1:=h3.length g h2;have e2:=h2.few g ha.2.2;have:=hs.1;rw[h4];simp;omega
theorem czb (a0:(List az4))(a1:(Int×Int)):(azw a0 a1).o=(bz4 a0 a1).run NN:=rfl
theorem yz8 (a0:azi)(a1:Int)(a2:Int):(hzf a0 a1 a2).o=(jzu a0 a1 a2).run NN:=rfl
theorem Rzf (a0:azi)(a1:Int)(a2:Int):(hz7 a0 a1 a2).o=(xzd a0 a1 a2).run NN:=rfl
theorem azat {x:Int}(h:0<=x)(h2:x<4000000000000):qu.wrap ((IntKind.u64.wrap (qu.wrap x)).fdiv (2 ^ (min (1:Int).toNat 64)))=x / 2:=by
 have e1:IntKind.u64.wrap x=x:=by
  simp only[IntKind.wrap,IntKind.bits,IntKind.signed,Bool.false_and,zi,if_false];omega
 have e2:(2:Int) ^ (min (1:Int).toNat 64)=2:=by decide
 rw[w64 (x:=x) qa qa,e1,e2,Int.fdiv_eq_ediv_of_nonneg _ qa,w64 qa qa]
theorem Zz0 {m:azi}(hs:Bzo m)(hw:WF m){u v:Int}{e:Nat}(he:e<m.Xd.length)(hu:(m.Xd.getD e qv).U=u)(hv:(m.Xd.getD e qv).V=v)(hN:100000<=NN):
 (azw m.Xd (u,v)).o=some ((e:Int),true):=by
 have hs2:=hs.2;have key:∃r,(azw m.Xd (u,v)).o=some r/\r=((e:Int),true):=by
  simp only[czb,bz4,qk];refine az5k (g:=λr=>r) (λk (x:Int×Int)=>∃a b:Nat,x=((a:Int),(b:Int))/\a+k=b/\b<=m.Xd.length/\a<=e/\e<=b) (λy=>y=(e:Int)) m.Xd.length ⟨0,m.Xd.length,rfl,qa,qa,qa,qa⟩ qa ?_ ?_
  ·rintro k x ⟨a,b,rfl,hab,hb,h1,h2⟩;dsimp only;by_cases hlt:a<b
   ·left
    (rw[az8 qa];(repeat rw[azg qa]);rw[azat qa qa])
    obtain⟨h,hh⟩:∃h:Nat,((a:Int)+(b:Int)) / 2=(h:Int):=⟨(a+b) / 2,qa⟩;have hah:a<=h/\h<b:=qa
    (rw[hh];(repeat rw[azg qa]);rw[qG])
    obtain⟨c,hc,hc1,hc2⟩:=jza qa (m.Xd.getD h qv) u v;rw[hc,qL];by_cases hcl:c<0
    ·rw[az8 hcl,w64n qa];refine⟨_,rfl,b- (h+1),qa,h+1,b,rfl,qa,hb,?_,h2⟩;have:=hc1.1 hcl;rcases zo h e with hhe|hhe
     ·omega
     ·exfalso
      by_cases hee:h=e
      ·subst hee;omega
      ·have:=hw.lt (i:=e) (j:=h) qa qa;unfold eLt at this;omega
    ·rw[az7 hcl];refine⟨_,rfl,h-a,qa,a,h,rfl,qa,qa,h1,?_⟩;rcases zo h e with hhe|hhe
     ·exfalso
      have:=hw.lt (i:=h) (j:=e) hhe he;unfold eLt at this;exact hcl (hc1.2 qa)
     ·exact hhe
   ·right;rw[az7 qa];exact⟨_,rfl,qa⟩
  ·rintro y rfl
   (rw[az8 qa];(repeat rw[azg qa]);rw[qG])
   obtain⟨c,hc,hc1,hc2⟩:=jza qa (m.Xd.getD e qv) u v;rw[hc,qL];have:=hc2.2 ⟨hu,hv⟩;exact⟨_,rfl,by rw[this];rfl⟩
 obtain⟨r,h1,rfl⟩:=key;exact h1
def EI (m:azi)(vs:List Int)(i e:Nat):Prop:=e<m.Xd.length/\(m.Xd.getD e qv).U=min (vs.getD i qv) (vs.getD (i+1) qv)/\(m.Xd.getD e qv).V=max (vs.getD i qv) (vs.getD (i+1) qv)
theorem Gzr {m:azi}(hs:Bzo m)(hw:WF m){x y:Int}{e:Nat}(he:e<m.Xd.length)(hu:(m.Xd.getD e qv).U=min x y)(hv:(m.Xd.getD e qv).V=max x y)(hN:100000<=NN):(hzf m x y).o=some ((e:Int),true):=by
 simp only[yz8,jzu,qk];rw[Zz0 hs hw he hu hv hN];rfl
theorem Rt.adj {E:Int->Int->Int->Prop}{t:Int}{v:Int}{l:List Int}(h:Rt E t v l):∀i,i<l.length->∃c,E ((v::l).getD i qv) ((v::l).getD (i+1) qv) c:=by
 induction h with
 |nil=>intro i hi;simp at hi
 |cons hv hn _ ih=>
  intro i hi;cases i with
  |zero=>
   obtain⟨_,_,e,_,he,_⟩:=hn.1;exact⟨e,by simpa using he⟩
  |succ i=>
   obtain⟨c,hc⟩:=ih i (by simpa using hi);exact⟨c,by simpa using hc⟩
theorem EI.exists {m:azi}(hw:WF m){mode fr t:Int}{l:List Int}(h:Rt (Eg m mode) t fr l){i:Nat}(hi:i<l.length):∃e,EI m (fr::l) i e:=by
 obtain⟨c,e,he,hu,hc,hpq⟩:=h.adj i hi;obtain⟨o1,o2,o3,o4,o5⟩:=(hw e he).1;exact⟨e,he,qa,qa⟩
theorem EI.unique {m:azi}(hw:WF m){vs:List Int}{i e e':Nat}(h:EI m vs i e)(h':EI m vs i e'):e=e':=hw.one h.1 h'.1 (by rw[h.2.1,h'.2.1]) (by rw[h.2.2,h'.2.2])
def NextQ (m:azi)(rt:dzs)(r:Int×dzs×Int):Prop:=
 (r=(-1,rt,1)/\∀i,i+1<rt.Xr.length->∀e,EI m rt.Xr i e->(m.Xd.getD e qv).Xq≠0)\/
 ∃i e:Nat,i+1<rt.Xr.length/\EI m rt.Xr i e/\(m.Xd.getD e qv).Xq=0/\r=((e:Int),rt,3)/\∀j,j<i->∀e',EI m rt.Xr j e'->(m.Xd.getD e' qv).Xq≠0
theorem NextQ.route {m:azi}{rt:dzs}{r:Int×dzs×Int}(h:NextQ m rt r):r.2.1=rt:=by
 rcases h with⟨h1,_⟩|⟨i,e,_,_,_,h4,_⟩
 ·rw[h1]
 ·rw[h4]
def NextP (m:azi)(fr t:Int)(r:Int×dzs×Int):Prop:=
 (¬Yzr m fr t/\r=(-1,⟨nl,0⟩,0))\/(Yzr m fr t/\∃rt,Routed m fr t 1 rt/\((rt.2=false/\r=(-1,⟨nl,0⟩,2))\/(rt.2=true/\NextQ m rt.1 r)))
theorem NextP.len {m:azi}{fr t:Int}{r:Int×dzs×Int}(hs:Bzo m)(h:NextP m fr t r):r.2.1.Xr.length<=101:=by
 rcases h with⟨_,h2⟩|⟨h1,rt,h2,⟨_,h3⟩|⟨_,h3⟩⟩
 ·rw[h2];simp[nl]
 ·rw[h3];simp[nl]
 ·rw[h3.route];exact h2.len hs h1
theorem az7l (m:azi)(fr t:Int)(hs:Bzo m)(hN:100000<=NN):∃r:Int×dzs×Int,(hz7 m fr t).o=some (r.1,r.2.1.Xr,r.2.1.Xu,r.2.2)/\NextP m fr t r:=by
 suffices h:∃r:Int×List Int×Int×Int,(hz7 m fr t).o=some r/\NextP m fr t (r.1,⟨r.2.1,r.2.2.1⟩,r.2.2.2)from h.elim λr h=>⟨(r.1,⟨r.2.1,r.2.2.1⟩,r.2.2.2),h⟩
 simp only[Rzf,xzd,qk];obtain⟨b,hb,hbw⟩:=Gzm m hs qa;rw[hb,qL];have none:¬Yzr m fr t->∃r:Int×List Int×Int×Int,(some ((-1:Int),(nl:List Int),(0:Int),(0:Int)):Option (Int×List Int×Int×Int))=some r/\NextP m fr t (r.1,⟨r.2.1,r.2.2.1⟩,r.2.2.2):=λh=>⟨_,rfl,.inl ⟨h,rfl⟩⟩
 cases b with
 |false=>
  rw[ezf (by rfl),az9,ezf (by rfl)];exact none (λh=>by have:=hbw.2 h.1;cases this)
 |true=>
  have hw:=hbw.1 rfl;rw[ezp (by rfl),mz6,qL];by_cases h1:0<=fr/\fr<(m.Xb.length:Int)
  ·rw[Bz8 h1,mz6,qL,az9];by_cases h2:0<=t/\t<(m.Xb.length:Int)
   ·rw[Bz8 h2];have ha:Yzr m fr t:=⟨hw,h1,h2⟩;obtain⟨L,rt,e1,e2,e3⟩:=Wzb m fr t 1 hs ha hN;have hrl:=e3.len hs ha;rw[e1,qL,e2,qL];rcases e3 with⟨q1,q2,q3⟩|⟨q1,c,k,l,q2,q3,q4⟩
    ·rw[q1,ezf (by rfl)];exact⟨_,rfl,.inr ⟨ha,rt,.inl ⟨q1,q2,q3⟩,.inl ⟨q1,rfl⟩⟩⟩
    ·have hP:∀r,NextQ m rt.1 r->NextP m fr t r:=λr h=>.inr ⟨ha,rt,.inr ⟨q1,c,k,l,q2,q3,q4⟩,.inr ⟨q1,h⟩⟩
     rw[q1,ezp (by rfl)];rw[q4]at hP hrl⊢;simp only[wB]at hrl;dsimp only;have e0:(1:Int).toNat=1:=rfl;have e9:(((((fr::l).length:Nat):Int)).toNat-1)=l.length:=by simp
     (repeat(first|rw[azg qa]|rw[azg (by simp only[wB,w8];omega)]))
     rw[e0,e9]
     refine(Hz8 (P:=λr:Int×List Int×Int×Int=>NextQ m ⟨fr::l,c⟩ (r.1,⟨r.2.1,r.2.2.1⟩,r.2.2.2)) (λk (x:Int)=>∃i:Nat,x=(i:Int)/\i+k=l.length/\∀j,j<i->∀e,EI m (fr::l) j e->(m.Xd.getD e qv).Xq≠0)
      (λ_=>∀j,j<l.length->∀e,EI m (fr::l) j e->(m.Xd.getD e qv).Xq≠0) l.length ⟨0,rfl,qa,λj hj=>qa⟩ qa ?_ ?_).imp (λr h=>⟨h.1,hP _ h.2⟩)
     ·rintro k' x ⟨i,rfl,hi,hpre⟩;by_cases hlt:i<l.length
      ·rw[az8 qa]
       (repeat rw[azg qa])
       rw[qG]
       (repeat rw[azg qa])
       rw[show(fr::l).getD (1+i) qv=l.getD i qv by rw[zp];rfl];obtain⟨e,he⟩:=EI.exists hw q3 hlt;have hbt:=Gzr hs hw (x:=(fr::l).getD i qv) (y:=l.getD i qv) he.1 (by have:=he.2.1;simpa using this) (by have:=he.2.2;simpa using this) hN;rw[hbt,qL];dsimp only;have hel:=he.1
       ((repeat rw[azg qa]);rw[qG])
       by_cases hst:(m.Xd.getD e qv).Xq=0
       ·rw[dzj hst];exact .inr (.inr ⟨_,rfl,.inr ⟨i,e,by simp only[wB];omega,he,hst,rfl,hpre⟩⟩)
       ·rw[dze hst,w64n qa];refine .inl ⟨_,k'-1,rfl,qa,i+1,rfl,qa,λj hj e' he'=>?_⟩;by_cases hji:j=i
        ·subst hji;rw[he'.unique hw he];exact hst
        ·exact hpre j qa e' he'
      ·rw[az7 qa];exact .inr (.inl ⟨_,rfl,λj hj=>hpre j qa⟩)
     ·intro _ h;exact⟨_,rfl,.inl ⟨rfl,λi hi=>h i (by simp only[wB]at hi;omega)⟩⟩
   ·rw[Jzt h2];exact none (λh=>h2 h.2.2)
  ·rw[Jzt h1,az9,ezf (by rfl)];exact none (λh=>h1 h.2.1)
abbrev lab (l:List izi)(v:Int):izi:=l.getD v.toNat qv
def azbb (a b:izi):Prop:=b.Xu<0\/a.Xu<b.Xu\/a.Xu=b.Xu/\a.Xd<b.Xd
instance (a b:izi):Decidable (azbb a b):=by unfold azbb;infer_instance
def LB (l:List izi):Prop:=∀v:Int,0<=v->v<(l.length:Int)->(lab l v).Xu<0\/(0<=(lab l v).Xu/\(lab l v).Xu<=4000000000000000000/\0<=(lab l v).Xd/\(lab l v).Xd<=1000000000)
section
variable {m:azi} {mode t:Int}
local instance:Inhabited Int:=⟨0⟩
end
open Go.Proofs
def PieB (x:az6):Prop:=x.Xf.length<4294967296
def ResM (x:azo):Prop:=(x.Xo.length<4294967296/\∀c∈x.Xo,PieB c)/\PieB x.At/\x.Xk.Left.length<4294967296/\x.Xk.Xx.length<4294967296
theorem azbi (r:azn)(P:List (List Int))(a b:Int):ResM (newE r P a b).Xm:=
 ⟨⟨(by show(0:Nat)<4294967296;decide),λc hc=>(by cases hc)⟩,(by show(0:Nat)<4294967296;decide),(by show(0:Nat)<4294967296;decide),(by show(0:Nat)<4294967296;decide)⟩
theorem az0k (l:List (List Int))(h:l.length<4294967296):(dzy l).o=some l:=by
 show(czt l).run NN=_;cases l with
 |nil=>rfl
 |cons a l=>
  simp only[czt,qk];simp only[wB]at h;rw[aza (by simp),aza ⟨by simp only[w8,wB];omega,by simp only[w8,wB,azc];omega⟩];rfl
theorem Vzc (l:List az4)(h:l.length<100000):(dzq l).o=some l:=by
 show(czh l).run NN=_;cases l with
 |nil=>rfl
 |cons a l=>
  simp only[czh,qk];simp only[wB]at h;rw[aza (by simp),aza ⟨by simp only[w8,wB];omega,by simp only[w8,wB,azc];omega⟩];rfl
theorem Sz1 (l:List az6)(h:l.length<4294967296):(czr l).o=some l:=by
 show(cz6 l).run NN=_;cases l with
 |nil=>rfl
 |cons a l=>
  simp only[cz6,qk];simp only[wB]at h;rw[aza (by simp),aza ⟨by simp only[w8,wB];omega,by simp only[w8,wB,azc];omega⟩];rfl
theorem Oz2 (l:List (Int×Int×Int))(h:l.length<4294967296):(cz3 l).o=some l:=by
 show(czo l).run NN=_;cases l with
 |nil=>rfl
 |cons a l=>
  simp only[czo,qk];simp only[wB]at h;rw[aza (by simp),aza ⟨by simp only[w8,wB];omega,by simp only[w8,wB,azc];omega⟩];rfl
theorem Gz2 {α:Type}[Inhabited α](l:List α){i:Nat}(h:i<l.length):l.set i (l.getD i qv)=l:=by
 refine Xzn (by simp) λj hj=>?_
 rw[wx]at hj;rw[az4r h];split
 ·rename_i e;rw[e]
 ·rfl
theorem vzo (x:azo)(h:ResM x):(ezs x).o=some x:=by
 obtain⟨⟨h1,h2⟩,h3,h4,h5⟩:=h;show(izf x).run NN=_;simp only[izf,qk,Sz1 _ h1,qL];refine(bzv (λj=>(x.Xo,(j:Int))) x.Xo x.Xo.length rfl h1 (λj hj=>?_) (by dsimp only;rw[az7 qa])).trans ?_
 ·dsimp only;have hp:=h2 _ (bz3 hj);rw[az8 qa,aza qa,aza qa,qG,Oz2 _ hp];simp only[qL];rw[aza qa,aza qa,wn qa];have:(⟨(x.Xo.getD j qv).Xg,(x.Xo.getD j qv).Xh,(x.Xo.getD j qv).Xf⟩:az6)=x.Xo.getD j qv:=rfl;rw[this,Gz2 _ hj]
 ·rw[Oz2 _ h3,Lz6 _ h4,Lz6 _ h5];rfl
theorem az7w (m:azi)(h1:m.Xb.length<4294967296)(h2:∀c∈m.Xb,c.length<4294967296)(h3:m.Xd.length<100000)(h4:∀e∈m.Xd,ResM e.Xm):(Azq m).o=some (m.Xb,m.Xd):=by
 show(rz1 m).run NN=_;simp only[rz1,qk,az0k _ h1,Vzc _ h3,qL];refine(bzv (λj=>(m.Xb,(j:Int))) m.Xb m.Xb.length rfl h1 (λj hj=>?_) (by dsimp only;rw[az7 qa])).trans ?_
 ·dsimp only;rw[az8 qa,aza qa,aza qa,qG,Lz6 _ (h2 _ (bz3 hj))];simp only[qL];rw[aza qa,aza qa,wn qa,Gz2 _ hj]
 ·refine(bzv (λj=>(m.Xd,(j:Int))) m.Xd m.Xd.length rfl (by show _<4294967296;omega) (λj hj=>?_) (by dsimp only;rw[az7 qa])).trans rfl;dsimp only;rw[az8 qa,aza qa,aza qa,qG,vzo _ (h4 _ (bz3 hj))];simp only[qL];rw[aza qa,aza qa,wn qa];have:(⟨(m.Xd.getD j qv).U,(m.Xd.getD j qv).V,(m.Xd.getD j qv).Xu,(m.Xd.getD j qv).Xq,(m.Xd.getD j qv).Xm⟩:az4)=m.Xd.getD j qv:=rfl;rw[this,Gz2 _ hj]
open Go.Proofs
theorem Zz2 (l:List (List Int))(h:l.length<4294967296):(iz3 l).o=some l:=by
 show(fza l).run NN=_;cases l with
 |nil=>rfl
 |cons a l=>
  simp only[fza,qk];simp only[wB]at h;rw[aza (by simp),aza ⟨by simp only[w8,wB];omega,by simp only[w8,wB,azc];omega⟩];rfl
theorem Sz0 (E:List az4)(i n:Nat)(h0:0<E.length)(hl:E.length<100000)(hn:i+n<=E.length):(dzg E i n).o=some ((E.drop i).take n):=by
 show(czc E i n).run NN=_;simp only[czc,qk];rw[aza h0,aza ⟨by simp only[w8];omega,by simp only[w8,azc];omega,hn⟩];rfl
theorem Zz8 {E:List az4}{i:Nat}(h:i<E.length):(E.drop i).take 1=[E.getD i qv]:=by
 rw[List.drop_eq_getElem_cons h,List.take_succ_cons,List.take_zero,wm,wE h];rfl
theorem az4a (P:List (List Int))(E:List az4)(i:Nat)(h1:P.length<4294967296)(h2:∀c∈P,c.length<4294967296)(hi:i<E.length)(h3:E.length<100000)(h4:∀e∈E,ResM e.Xm):
 (vz8 P E i 1).o=some (P,[E.getD i qv]):=by
 show(mzt P E i 1).run NN=_;simp only[mzt,qk,Zz2 _ h1,Sz0 E i 1 qa h3 qa,qL,Zz8 hi];have h5:ResM (E.getD i qv).Xm:=h4 _ (bz3 hi);generalize E.getD i qv=x at h5⊢;refine(bzv (λj=>(P,(j:Int))) P P.length rfl h1 (λj hj=>?_) (by dsimp only;rw[az7 qa])).trans ?_
 ·dsimp only;rw[az8 qa,aza qa,aza qa,qG,Lz6 _ (h2 _ (bz3 hj))];simp only[qL];rw[aza qa,aza qa,wn qa,Gz2 _ hj]
 ·have hl:[x].length=1:=rfl;refine(bzv (λj=>([x],(j:Int))) [x] [x].length rfl (by rw[hl];decide) (λj hj=>?_) (by dsimp only;rw[az7 qa])).trans rfl;dsimp only;obtain rfl:j=0:=by rw[hl]at hj;omega
  have hx:[x].getD 0 qv=x:=rfl;rw[az8 qa,aza qa,aza qa,qG,hx,vzo _ h5];simp only[qL];rw[aza qa,aza qa,wn qa];rfl
def stV (k:Int):Int:=if k=1 then 1 else if k=2 then 2 else 3
def Vzz (x:az4)(r:azo):az4:=⟨x.U,x.V,x.Xu,stV r.Xl,r⟩
theorem az8w (P:List (List Int))(E:List az4)(i:Nat)(h1:P.length<4294967296)(h2:∀c∈P,c.length<4294967296)(hi:i<E.length)(h3:E.length<100000)(h4:∀e∈E,ResM e.Xm)
 (hs:(E.getD i qv).Xq=0) {r:azo} (hr:ResM r) (hk:r.Xl=0\/r.Xl=1\/r.Xl=2):
 (ozw P E i 1 0 r).o=some (P,[Vzz (E.getD i qv) r],true):=by
 suffices h:∃y,(ozx P E i 1 0 r).run NN=some y/\y=(P,[Vzz (E.getD i qv) r],true) by
  obtain⟨y,a,b⟩:=h;rw[<-b];exact a
 have e0:(0:Int).toNat=0:=rfl;simp only[ozx,qk,az4a P E i h1 h2 hi h3 h4,qL,e0,qD];rw[az7 qa,az9,qh qa];simp only[qd];have b1:((E.getD i qv).Xq==1)=false:=by rw[hs];rfl
 have b2:((E.getD i qv).Xq==2)=false:=by rw[hs];rfl
 rw[aza qa,aza hi,b1,b2];simp only[qd,az9,vzo r hr,qL];generalize E.getD i qv=x;have k1:(jzp 1).o=some 1:=rfl;have k2:(jzp 2).o=some 2:=rfl;have k3:(jzp 3).o=some 0:=rfl;have hl:([1,2,3]:List Int).length=3:=rfl;refine dzz (P:=λy:List (List Int)×List az4×Bool=>y=(P,[Vzz x r],true)) (λmm (y:Int)=>∃t:Nat,y=(t:Int)/\t+mm=3/\t<=2/\(1<=t->r.Xl≠1)/\(2<=t->r.Xl≠2)) (λ_=>False) 3 ⟨0,rfl,rfl,qa,qa,qa⟩ (by decide) ?_ (λ_ h=>h.elim);rintro mm y ⟨t,rfl,t1,t2,t3,t4⟩;rw[az8 (by rw[hl];omega),aza (by rw[hl];omega),qG,aza (by rw[hl];omega),wn qa];have fin:∀s:Int,s=stV r.Xl->(P,([x].set 0 ⟨([x].getD 0 qv).U,([x].getD 0 qv).V,([x].getD 0 qv).Xu,s,([x].getD 0 qv).Xm⟩).set 0 ⟨(([x].set 0 ⟨([x].getD 0 qv).U,([x].getD 0 qv).V,([x].getD 0 qv).Xu,s,([x].getD 0 qv).Xm⟩).getD 0 qv).U,(([x].set 0 ⟨([x].getD 0 qv).U,([x].getD 0 qv).V,([x].getD 0 qv).Xu,s,([x].getD 0 qv).Xm⟩).getD 0 qv).V,(([x].set 0 ⟨([x].getD 0 qv).U,([x].getD 0 qv).V,([x].getD 0 qv).Xu,s,([x].getD 0 qv).Xm⟩).getD 0 qv).Xu,(([x].set 0 ⟨([x].getD 0 qv).U,([x].getD 0 qv).V,([x].getD 0 qv).Xu,s,([x].getD 0 qv).Xm⟩).getD 0 qv).Xq,r⟩,true)=(P,[Vzz x r],true):=λs h=>by
  subst h;rfl
 have ht3:t=0\/t=1\/t=2:=qa
 have g1:[x].length=1:=rfl;rcases ht3 with rfl|rfl|rfl
 ·have g:([1,2,3]:List Int).getD 0 qv=1:=rfl;rw[g,k1];simp only[qL];by_cases c1:r.Xl=1
  ·rw[dzj c1.symm,aza (by rw[g1];omega),aza (by rw[g1];omega),aza (by rw[wx,g1];omega),aza (by rw[wx,g1];omega)];exact .inr (.inr ⟨_,rfl,fin 1 (by rw[c1];rfl)⟩)
  ·rw[dze (Ne.symm c1)];exact .inl ⟨_,mm-1,rfl,qa,1,rfl,qa,qa,λ_=>c1,λh=>qa⟩
 ·have g:([1,2,3]:List Int).getD 1 qv=2:=rfl;rw[g,k2];simp only[qL];by_cases c1:r.Xl=2
  ·rw[dzj c1.symm,aza (by rw[g1];omega),aza (by rw[g1];omega),aza (by rw[wx,g1];omega),aza (by rw[wx,g1];omega)];exact .inr (.inr ⟨_,rfl,fin 2 (by rw[c1];rfl)⟩)
  ·rw[dze (Ne.symm c1)];exact .inl ⟨_,mm-1,rfl,qa,2,rfl,qa,qa,λ_=>t3 qa,λ_=>c1⟩
 ·have g:([1,2,3]:List Int).getD 2 qv=3:=rfl;have c1:r.Xl=0:=by
   have:=t3 qa;have:=t4 qa;omega
  rw[g,k3];simp only[qL];rw[dzj c1.symm,aza (by rw[g1];omega),aza (by rw[g1];omega),aza (by rw[wx,g1];omega),aza (by rw[wx,g1];omega)];exact .inr (.inr ⟨_,rfl,fin 3 (by rw[c1];rfl)⟩)
theorem Oza (P:List (List Int))(E:List az4)(i n:Nat){v:Int}(h0:0<=v)(h1:v<(P.length:Int)):(lzn P E i n v).o=some true:=by
 show(lzo P E i n v).run NN=_;simp only[lzo,qk];rw[az8 h0,qg h1]
theorem az78 {s:azd}{p q:List Int}{d:Int}{r:azo}(h:ProveOk s p q d r):ResM r:=by
 obtain⟨b1,b2⟩:=h.bd;obtain⟨l1,l2⟩:=h.lens;refine⟨⟨qa,λc hc=>?_⟩,?_,qa,qa⟩
 ·have:=b2 c hc;show c.Xf.length<4294967296;omega
 ·show r.At.Xf.length<4294967296;rw[h.norm];decide
def pvR (s:azd)(p q:List Int)(d:Int):azo:=match(iz6 s p q d).o with|some r=>r|none=>qv
theorem az99 (s:azd)(p q:List Int)(hp:p.length<4294967296)(hq:q.length<4294967296){d:Int}(h0:0<=d)(h20:d<=20):(iz6 s p q d).o=some (pvR s p q d)/\ProveOk s p q d (pvR s p q d):=by
 obtain⟨r,h1,h2⟩:=Lzx s p q hp hq h0 h20;have:pvR s p q d=r:=by unfold pvR;rw[h1]
 rw[this];exact⟨h1,h2⟩
def tstE (s:azd)(P:List (List Int))(d:Int)(x:az4):az4:=Vzz x (pvR s (P.getD x.U.toNat qv) (P.getD x.V.toNat qv) d)
theorem azc5 (s:azd)(P:List (List Int))(E:List az4)(i:Nat)(h1:P.length<4294967296)(h2:∀c∈P,c.length<4294967296)(hi:i<E.length)(h3:E.length<100000)(h4:∀e∈E,ResM e.Xm)
 (hs:(E.getD i qv).Xq=0) (hU:0<=(E.getD i qv).U/\(E.getD i qv).U<(P.length:Int)) (hV:0<=(E.getD i qv).V/\(E.getD i qv).V<(P.length:Int)) {d:Int} (h0:0<=d) (h20:d<=20):
 (Gz1 s P E i 1 0 d).o=some (P,[tstE s P d (E.getD i qv)],true):=by
 show(xze s P E i 1 0 d).run NN=_;have es:(⟨s.Xe,s.Xc,s.Xj⟩:azd)=s:=rfl;have e0:(0:Int).toNat=0:=rfl;simp only[xze,qk,es,e0,qD,Oza P E i 1 hU.1 hU.2,Oza P E i 1 hV.1 hV.2,qL];rw[az7 qa,az9,qh qa];simp only[qd,qO];have b1:((E.getD i qv).Xq==1)=false:=by rw[hs];rfl
 have b2:((E.getD i qv).Xq==2)=false:=by rw[hs];rfl
 obtain⟨p1,p2⟩:=az99 s (P.getD (E.getD i qv).U.toNat qv) (P.getD (E.getD i qv).V.toNat qv) (h2 _ (bz3 qa)) (h2 _ (bz3 qa)) h0 h20;rw[aza qa,aza hi,b1,b2];simp only[qd,az9];rw[aza hU,aza qa,aza hV,aza qa,p1];simp only[qL];rw[az8w P E i h1 h2 hi h3 h4 hs (az78 p2) p2.kind];rfl
open Go.Proofs
def nxV (P:List (List Int))(x y:Int)(E:List az4):Int×List Int×Int×Int:=match(hz7 ⟨P,E⟩ x y).o with|some r=>r|none=>qv
structure NxOk (P:List (List Int)) (E:List az4) (r:Int×List Int×Int×Int):Prop where
 st:r.2.2.2=0\/r.2.2.2=1\/r.2.2.2=2\/r.2.2.2=3
 ed:r.2.2.2=3->0<=r.1/\r.1<(E.length:Int)/\(E.getD r.1.toNat qv).Xq=0/\yze P.length (E.getD r.1.toNat qv)
 len:r.2.1.length<=101
theorem az2c {P:List (List Int)}(x y:Int){E:List az4}(hs:Bzo ⟨P,E⟩):(hz7 ⟨P,E⟩ x y).o=some (nxV P x y E)/\NxOk P E (nxV P x y E)/\NextP ⟨P,E⟩ x y ((nxV P x y E).1,⟨(nxV P x y E).2.1,(nxV P x y E).2.2.1⟩,(nxV P x y E).2.2.2):=by
 obtain⟨⟨e,⟨vs,c⟩,st⟩,h1,h2⟩:=az7l ⟨P,E⟩ x y hs (by decide);have hn:nxV P x y E=(e,vs,c,st):=by unfold nxV;rw[h1]
 have hl:=h2.len hs;rw[hn];refine⟨h1,⟨?_,λh=>?_,hl⟩,h2⟩
 ·rcases h2 with⟨_,h⟩|⟨_,rt,_,⟨_,h⟩|⟨_,h⟩⟩
  ·cases h;exact .inl rfl
  ·cases h;exact .inr (.inr (.inl rfl))
  ·rcases h with⟨h,_⟩|⟨_,_,_,_,_,h,_⟩<;>simp only[Prod.mk.injEq]at h
   ·exact .inr (.inl h.2.2)
   ·exact .inr (.inr (.inr h.2.2))
 ·simp only at h;subst h;rcases h2 with⟨_,h⟩|⟨ha,rt,_,⟨_,h⟩|⟨_,h⟩⟩
  ·cases h
  ·cases h
  ·rcases h with⟨h,_⟩|⟨i,e',hi,he,hst,h,_⟩<;>simp only[Prod.mk.injEq]at h
   ·exact absurd h.2.2 (by decide)
   ·obtain⟨rfl,-,-⟩:=h;have hl:e'<E.length:=he.1;refine⟨by simp only;omega,by simp only;omega,hst,?_⟩;exact(ha.1 e' hl).1
def stE (s:azd)(P:List (List Int))(x y d:Int)(E:List az4):List az4:=
 E.set (nxV P x y E).1.toNat (tstE s P d (E.getD (nxV P x y E).1.toNat qv))
def itE (s:azd)(P:List (List Int))(x y d:Int)(E:List az4):Nat->List az4
 |0=>E
 |n+1=>stE s P x y d (itE s P x y d E n)
theorem az1g (s:azd)(P:List (List Int))(x y d:Int)(E:List az4)(a:Nat):∀b,itE s P x y d (itE s P x y d E a) b=itE s P x y d E (a+b)
 |0=>rfl
 |b+1=>by
  show stE s P x y d (itE s P x y d (itE s P x y d E a) b)=stE s P x y d (itE s P x y d E (a+b));rw[az1g s P x y d E a b]
structure LzOk (P:List (List Int)) (n:Nat) (E:List az4):Prop where
 len:E.length=n
 n200:n<=200
 p100:P.length<=100
 pts:∀c∈P,c.length<4294967296
 prf:∀e∈E,ResM e.Xm
theorem LzOk.small {P:List (List Int)}{n:Nat}{E:List az4}(h:LzOk P n E):Bzo ⟨P,E⟩:=⟨h.p100,by show E.length<=200;rw[h.len];exact h.n200⟩
def untE (E:List az4):Nat:=E.countP λe=>e.Xq==0
section
variable {s:azd} {P:List (List Int)} {x y d:Int} (h0:0<=d) (h20:d<=20)
include h0 h20
theorem az3i {n:Nat}{E:List az4}(h:LzOk P n E)(ht:(nxV P x y E).2.2.2=3):LzOk P n (stE s P x y d E)/\untE (stE s P x y d E)+1=untE E:=by
 obtain⟨-,hn,-⟩:=az2c x y h.small;obtain⟨e0,e1,e2,e3⟩:=hn.ed ht;have hi:(nxV P x y E).1.toNat<E.length:=qa
 have hp:ProveOk s _ _ d _:=(az99 s (P.getD (E.getD (nxV P x y E).1.toNat qv).U.toNat qv) (P.getD (E.getD (nxV P x y E).1.toNat qv).V.toNat qv) (h.pts _ (bz3 (by have:=e3.1;have:=e3.2.1;have:=e3.2.2.1;omega))) (h.pts _ (bz3 (by have:=e3.1;have:=e3.2.1;have:=e3.2.2.1;omega))) h0 h20).2;refine⟨⟨by unfold stE;rw[wx,h.len],h.n200,h.p100,h.pts,λe he=>?_⟩,?_⟩
 ·unfold stE at he;rcases List.mem_or_eq_of_mem_set he with he|he
  ·exact h.prf e he
  ·subst he;exact az78 hp
 ·unfold stE untE;rw[List.countP_set hi];have hg:E[(nxV P x y E).1.toNat]=E.getD (nxV P x y E).1.toNat qv:=by rw[wm,wE hi];rfl
  have hs0:(E[(nxV P x y E).1.toNat].Xq==0)=true:=by rw[hg,e2];rfl
  have hs1:((tstE s P d (E.getD (nxV P x y E).1.toNat qv)).Xq==0)=false:=by
   unfold tstE Vzz stV;simp only;split
   ·rfl
   ·split<;>rfl
  have hpos:0<E.countP λe=>e.Xq==0:=List.countP_pos_iff.2 ⟨_,List.getElem_mem hi,hs0⟩
  simp only[hs0,hs1,if_true];simp;omega
theorem stops {n:Nat}:∀ (u:Nat) (E:List az4),LzOk P n E->untE E<=u->∃K,K<=u/\(∀i,i<K->(nxV P x y (itE s P x y d E i)).2.2.2=3)/\(nxV P x y (itE s P x y d E K)).2.2.2≠3:=by
 intro u;induction u with
 |zero=>
  intro E h hu;refine⟨0,wz _,λi hi=>qa,λht=>?_⟩;have:=(az3i (s:=s) h0 h20 h ht).2;omega
 |succ u ih=>
  intro E h hu;by_cases ht:(nxV P x y E).2.2.2=3
  ·obtain⟨h1,h2⟩:=az3i (s:=s) h0 h20 h ht;obtain⟨K,k1,k2,k3⟩:=ih _ h1 qa;have e1:∀i,itE s P x y d (stE s P x y d E) i=itE s P x y d E (i+1):=λi=>by
    have:=az1g s P x y d E 1 i;rw[zp 1 i]at this;exact this
   refine⟨K+1,qa,λi hi=>?_,by rw[<-e1];exact k3⟩;cases i with
   |zero=>exact ht
   |succ i=>rw[<-e1];exact k2 i qa
  ·exact⟨0,qa,λi hi=>qa,ht⟩
theorem Xzr {n:Nat}{E:List az4}(h:LzOk P n E){K:Nat}(hk:∀i,i<K->(nxV P x y (itE s P x y d E i)).2.2.2=3):∀i,i<=K->LzOk P n (itE s P x y d E i)
 |0,_=>h
 |i+1,hi=>(az3i h0 h20 (Xzr h hk i qa) (hk i qa)).1
end
def lzR (P:List (List Int))(x y:Int)(E:List az4)(st:Int)(i:Nat):azi×dzs×Int×Int:=(⟨P,E⟩,⟨(nxV P x y E).2.1,(nxV P x y E).2.2.1⟩,st,(i:Int))
theorem Xz3 (m:azi)(h1:m.Xb.length<4294967296)(h2:∀c∈m.Xb,c.length<4294967296)(h3:m.Xd.length<100000)(h4:∀e∈m.Xd,ResM e.Xm):(szc m).o=some (m.Xb,m.Xd):=by
 have em:(⟨m.Xb,m.Xd⟩:azi)=m:=rfl;have hm:(Czz m (-1) (⟨0,nl,(⟨0,0,nl⟩:az6),(⟨0,nl,nl⟩:bze)⟩:azo)).o=some (m.Xb,m.Xd,false):=by
  show(uza m (-1) _).run NN=_;simp only[uza,qk,em,az7w m h1 h2 h3 h4,qL];rw[az8 (by decide),az9];rfl
 show(lzp m).run NN=_;simp only[lzp,qk,em,hm,qL]
theorem azb8 (s:azd)(m:azi)(x y:Int){d:Int}(h0:0<=d)(h20:d<=20){n:Nat}(h:LzOk m.Xb n m.Xd)(hs:(ezb s).o=some 0){K:Nat}
 (hk:∀i,i<K->(nxV m.Xb x y (itE s m.Xb x y d m.Xd i)).2.2.2=3) (hK:(nxV m.Xb x y (itE s m.Xb x y d m.Xd K)).2.2.2≠3) (hK2:K<=200) (t:Nat):
 (xzb s m x y d (t:Int)).o=some (if K<=t then lzR m.Xb x y (itE s m.Xb x y d m.Xd K) (nxV m.Xb x y (itE s m.Xb x y d m.Xd K)).2.2.2 K else lzR m.Xb x y (itE s m.Xb x y d m.Xd t) 4 t):=by
 have em:(⟨m.Xb,m.Xd⟩:azi)=m:=rfl;have es:(⟨s.Xe,s.Xc,s.Xj⟩:azd)=s:=rfl;have hP:=h.p100;suffices hh:∃r,(xzc s m x y d (t:Int)).run NN=some r/\r=(if K<=t then lzR m.Xb x y (itE s m.Xb x y d m.Xd K) (nxV m.Xb x y (itE s m.Xb x y d m.Xd K)).2.2.2 K else lzR m.Xb x y (itE s m.Xb x y d m.Xd t) 4 t) by
  obtain⟨r,a,b⟩:=hh;rw[<-b];exact a
 simp only[xzc,qk,em,es,Xz3 m qa h.pts (by rw[h.len];have:=h.n200;omega) h.prf,hs,qL];rw[bza rfl];refine dzz (λmm (z:List az4×Int)=>∃i:Nat,i<=K/\i<=t/\mm+i=K/\z=(itE s m.Xb x y d m.Xd i,(i:Int))) (λ_=>False) K ⟨0,qa,qa,qa,rfl⟩ qa ?_ (λ_ h=>h.elim);rintro mm z ⟨i,ik,it,im,rfl⟩;have hi:=Xzr h0 h20 h hk i ik;obtain⟨q1,q2,-⟩:=az2c x y hi.small;have q1':(Azx m.Xb (itE s m.Xb x y d m.Xd i) x y).o=some (nxV m.Xb x y (itE s m.Xb x y d m.Xd i)):=q1;simp only[q1',qL];by_cases hKi:i=K
 ·subst hKi;rw[bzn hK];refine .inr (.inr ⟨_,rfl,?_⟩);rw[qc it];rfl
 ·have ht:=hk i qa;rw[bza ht];by_cases hti:i=t
  ·subst hti;rw[az8 qa];refine .inr (.inr ⟨_,rfl,?_⟩);rw[qb qa];rfl
  ·rw[az7 qa];obtain⟨e0,e1,e2,e3⟩:=q2.ed ht;have hl:=hi.len;have hn:=h.n200;obtain⟨w0,w1,w2,-,-⟩:=e3;have hit:itE s m.Xb x y d m.Xd (i+1)=stE s m.Xb x y d (itE s m.Xb x y d m.Xd i):=rfl;unfold stE at hit;generalize itE s m.Xb x y d m.Xd i=E at hi q1 q1' q2 ht e0 e1 e2 w0 w1 w2 hl hit⊢;generalize nxV m.Xb x y E=r at q1 q1' q2 ht e0 e1 e2 w0 w1 w2 hit⊢;obtain⟨j,hj⟩:∃j:Nat,r.1=(j:Int):=⟨r.1.toNat,qa⟩;rw[hj]at e0 e1 e2 w0 w1 w2 hit⊢;simp only[qG]at e2 w0 w1 w2 hit⊢;have hw:qu.wrap ((j:Int)+1)=((j+1:Nat):Int):=wn qa;rw[hw,aza qa];have h11:((j+1:Nat):Int).toNat-j=1:=qa
   rw[h11,azc5 s m.Xb E j qa h.pts qa qa hi.prf e2 ⟨w0,qa⟩ ⟨qa,w2⟩ h0 h20];simp only[qL,qe];have l1:[tstE s m.Xb d (E.getD j qv)].length=1:=rfl;rw[aza (by rw[l1];omega),aza (by rw[l1];decide),aza qa,aza qa,az9,wn qa];refine .inl ⟨_,mm-1,rfl,qa,i+1,qa,qa,qa,?_⟩;rw[hit];rfl
open Go.Proofs
def nmL (i:Nat):ByteArray:=(⟨#[97,98,99,100,101,102,103,104,105,106]⟩:ByteArray).extract i (i+1)
theorem azcl (t:Nat)(h:t<8):0<=([3,3,1,2,4,5,3,0]:List Int).getD t 0/\([3,3,1,2,4,5,3,0]:List Int).getD t 0<=5:=by
 revert t;decide
def JV (i:Nat)(j:bz1):Prop:=j.XB=nmL i/\(0<=j.Xl/\j.Xl<=6)/\(-1<=j.Xt/\j.Xt<(i:Int))/\hzq j.Xy 4194304=true/\(-fzt j.Xl<=j.Lo/\j.Lo<=j.Hi/\j.Hi<=fzt j.Xl)/\Sz6 j=true
section
variable {l:List Int} (hl:l.length<4294967296) {n:Int} (h0:0<=n) (h1:n<=(l.length:Int))
include hl h0 h1
theorem Tz8 {i:Nat}(i1:i<=2):∃j n',(nzr l n (i:Int)).o=some (j,l,n')/\JV i j/\0<=n'/\n'<=(l.length:Int):=by
 have e0:(nzr l n (i:Int)).o=(nzs l n (i:Int)).run NN:=rfl;rw[e0];simp only[nzs,qk];have el:(kzq (i:Int)).o=some (nmL i):=by
  have e1:(kzq (i:Int)).o=(kzr (i:Int)).run NN:=rfl;rw[e1];simp only[kzr,qk];rw[wn qa,aza ⟨qa,qa,by rw[show((⟨#[97,98,99,100,101,102,103,104,105,106]⟩:ByteArray).size)=10 from rfl];omega⟩];rfl
 obtain⟨r1,n1,e1,a1,b1,c1,d1⟩:=azt hl h0 h1 (k:=4) (by decide) (by decide);obtain⟨r2,n2,e2,a2,b2,c2,d2⟩:=azt hl c1 d1 (k:=3) (by decide) (by decide);obtain⟨r3,n3,e3,a3,b3,c3,d3⟩:=azt hl c2 d2 (k:=8) (by decide) (by decide);obtain⟨r4,n4,e4,a4,b4,c4,d4⟩:=azt hl c3 d3 (k:=4) (by decide) (by decide);rw[el,qL,e1,qL,e2,qL,e3,qL,aza ⟨by simp only;omega,by simp only;omega⟩,e4,qL];have hK6:=azcl r3.toNat qa;generalize hK:([3,3,1,2,4,5,3,0]:List Int).getD r3.toNat 0=K at hK6;have rest:∀ (m pr:Int),0<=m->m<=(l.length:Int)->(-1<=pr/\pr<(i:Int))->∃j n',(andC (bif decide ((i:Int)>0)then(bzs l m 2).o.bind λy21=>(bzs y21.2.1 y21.2.2 1).o.bind λy22=>some (.out (y22.2.1,y22.2.2,131072,qu.wrap (y21.1 * 32768),qu.wrap (y22.1 * 32768)))else some (.out (l,m,0,0,0)):Option (Step3 Unit (List Int×Int×Int×Int×Int) (bz1×List Int×Int))) λy20=>
  andC (bif K==0 then some (.out (y20.1,y20.2.1,0,0))else andC (bif K==4 then some (.out (K==4))else some (.out (K==5)):Option (Step3 Unit Bool (Step3 Unit (List Int×Int×Int×Int) (bz1×List Int×Int)))) λy36=>
   bif y36 then(azp y20.1 y20.2.1 3).o.bind λy37=>(azp y37.2.1 y37.2.2 4).o.bind λy38=>some (.out (y38.2.1,y38.2.2,qu.wrap (qu.wrap (0-y37.1) * 65536),qu.wrap (y38.1 * 32768)))
   else(azp y20.1 y20.2.1 5).o.bind λy39=>(azp y39.2.1 y39.2.2 4).o.bind λy40=>(azp y40.2.1 y40.2.2 3).o.bind λy41=>
    some (.out (y41.2.1,y41.2.2,qu.wrap ((qu.wrap (qu.wrap (0-y39.1) * 65536)).tdiv 8),qu.wrap (qu.wrap ((qu.wrap (qu.wrap (1+y40.1) * 65536)).tdiv 8)+y41.1))):Option (Step3 Unit (List Int×Int×Int×Int) (bz1×List Int×Int))) λy35=>
  some ((⟨nmL i,K,pr,(y20.2.2.1,y20.2.2.2.1,y20.2.2.2.2),y35.2.2.1,y35.2.2.2,qu.wrap (1+r1),65536,qu.wrap (65536+r2),327680⟩:bz1),y35.1,y35.2.1))=some (j,l,n')/\JV i j/\0<=n'/\n'<=(l.length:Int):=by
  intro m pr m0 m1 hpr;have jv:∀ (o1 o2 o3 lo hi:Int),((-4194304<=o1/\o1<=4194304)/\(-4194304<=o2/\o2<=4194304)/\(-4194304<=o3/\o3<=4194304))->(-fzt K<=lo/\lo<=hi/\hi<=fzt K)->JV i ⟨nmL i,K,pr,(o1,o2,o3),lo,hi,qu.wrap (1+r1),65536,qu.wrap (65536+r2),327680⟩:=λo1 o2 o3 lo hi ho hr=>by
   have hrb:=Bzc K;have hr2:fzt K<=524288\/(K=4\/K=5):=by unfold fzt;split<;>(try split)<;>omega
   refine⟨rfl,by simp only;omega,by simp only;omega,?_,hr,?_⟩
   ·rw[nearV_iff];exact⟨ho.1,ho.2.1,ho.2.2⟩
   ·rw[w64 (x:=1+r1) qa qa,w64 (x:=65536+r2) qa qa];unfold Sz6 betV;simp only[qm,qf];omega
  have lim:∀ (m:Int) (o1 o2 o3:Int),0<=m->m<=(l.length:Int)->((-4194304<=o1/\o1<=4194304)/\(-4194304<=o2/\o2<=4194304)/\(-4194304<=o3/\o3<=4194304))->∃j n',(andC (bif K==0 then some (.out (l,m,0,0))else andC (bif K==4 then some (.out (K==4))else some (.out (K==5)):Option (Step3 Unit Bool (Step3 Unit (List Int×Int×Int×Int) (bz1×List Int×Int)))) λy36=>
   bif y36 then(azp l m 3).o.bind λy37=>(azp y37.2.1 y37.2.2 4).o.bind λy38=>some (.out (y38.2.1,y38.2.2,qu.wrap (qu.wrap (0-y37.1) * 65536),qu.wrap (y38.1 * 32768)))
   else(azp l m 5).o.bind λy39=>(azp y39.2.1 y39.2.2 4).o.bind λy40=>(azp y40.2.1 y40.2.2 3).o.bind λy41=>
    some (.out (y41.2.1,y41.2.2,qu.wrap ((qu.wrap (qu.wrap (0-y39.1) * 65536)).tdiv 8),qu.wrap (qu.wrap ((qu.wrap (qu.wrap (1+y40.1) * 65536)).tdiv 8)+y41.1))):Option (Step3 Unit (List Int×Int×Int×Int) (bz1×List Int×Int))) λy35=>
   some ((⟨nmL i,K,pr,(o1,o2,o3),y35.2.2.1,y35.2.2.2,qu.wrap (1+r1),65536,qu.wrap (65536+r2),327680⟩:bz1),y35.1,y35.2.1))=some (j,l,n')/\JV i j/\0<=n'/\n'<=(l.length:Int):=by
   intro m o1 o2 o3 m0 m1 ho;cases hk0:K==0
   ·simp only[qd,bzd,az9];simp only[beq_eq_false_iff_ne,ne_eq]at hk0;cases hk4:(bif K==4 then K==4 else K==5)
    ·obtain⟨s1,n1,e1,a1,b1,c1,d1⟩:=azt hl m0 m1 (k:=5) (by decide) (by decide);obtain⟨s2,n2,e2,a2,b2,c2,d2⟩:=azt hl c1 d1 (k:=4) (by decide) (by decide);obtain⟨s3,n3,e3,a3,b3,c3,d3⟩:=azt hl c2 d2 (k:=3) (by decide) (by decide);simp only[qd];rw[e1,qL,e2,qL,e3,qL,az9];have hR:fzt K=524288:=by
      have:K≠4/\K≠5:=by
       by_cases h4:K=4
       ·rw[h4]at hk4;cases hk4
       ·rw[dze h4]at hk4;exact⟨h4,by simpa using hk4⟩
      unfold fzt;rw[qb hk0,qc qa]
     refine⟨_,_,rfl,jv _ _ _ _ _ ho ?_,c3,d3⟩;rw[hR];simp only
     rw[w64 (x:=0-s1) qa qa,w64 (x:=(0-s1) * 65536) qa qa,w64 (x:=1+s2) qa qa,w64 (x:=(1+s2) * 65536) qa qa,gzc (a:=(1+s2) * 65536) qa,
      show(0-s1) * 65536= -(s1 * 65536) from qa,Gzj,gzc qa,w64 (x:= -(s1 * 65536 / 8)) qa qa,w64 (x:=(1+s2) * 65536 / 8) qa qa,w64 (x:=(1+s2) * 65536 / 8+s3) qa qa]
     omega
    ·obtain⟨s1,n1,e1,a1,b1,c1,d1⟩:=azt hl m0 m1 (k:=3) (by decide) (by decide);obtain⟨s2,n2,e2,a2,b2,c2,d2⟩:=azt hl c1 d1 (k:=4) (by decide) (by decide);simp only[qe];rw[e1,qL,e2,qL,az9];have hR:fzt K=4194304:=by
      have:K=4\/K=5:=by
       by_cases h4:K=4
       ·exact .inl h4
       ·rw[dze h4]at hk4;exact .inr (by simpa using hk4)
      unfold fzt;rw[qb hk0,qb qa]
     refine⟨_,_,rfl,jv _ _ _ _ _ ho ?_,c2,d2⟩;rw[hR];simp only;rw[w64 (x:=0-s1) qa qa,w64 (x:=(0-s1) * 65536) qa qa,w64 (x:=s2 * 32768) qa qa];omega
   ·have hk:K=0:=by simpa using hk0
    have hR:fzt K=0:=by rw[hk];rfl
    exact⟨_,_,rfl,jv _ _ _ _ _ ho (by rw[hR];simp only;omega),m0,m1⟩
  cases decide ((i:Int)>0)
  ·simp only[qd,az9];exact lim m 0 0 0 m0 m1 (by decide)
  ·obtain⟨s1,n1,e1,a1,b1,c1,d1⟩:=cz9 hl m0 m1 (k:=2) (by decide) (by decide);obtain⟨s2,n2,e2,a2,b2,c2,d2⟩:=cz9 hl c1 d1 (k:=1) (by decide) (by decide);simp only[qe];rw[e1,qL,e2,qL,az9];rw[w64 (x:=s1 * 32768) qa qa,w64 (x:=s2 * 32768) qa qa];exact lim n2 _ _ _ c2 d2 (by simp only;omega)
 cases r4==1
 ·simp only[qd];rw[w64 (x:=(i:Int)-1) qa qa];exact rest n4 _ c4 d4 (by simp only;omega)
 ·exact rest n4 _ c4 d4 (by simp only;omega)
theorem Tza:∃b:azn×List Int×Int,(izb l n).o=some b/\b.2.1=l/\((1<=b.1.Xa.length/\b.1.Xa.length<=3/\∀t,t<b.1.Xa.length->JV t (b.1.Xa.getD t qv))/\b.1.Xi.length<=2/\∀x∈b.1.Xi,Nzb b.1.Xa.length x=true)/\0<=b.2.2/\b.2.2<=(l.length:Int):=by
 have e0:(izb l n).o=(nzt l n).run NN:=rfl;rw[e0];simp only[nzt,qk];obtain⟨r1,n1,e1,a1,b1,c1,d1⟩:=azt hl h0 h1 (k:=3) (by decide) (by decide);rw[e1,qL];simp only;rw[w64 (x:=1+r1) qa qa];obtain⟨R,hR⟩:∃R:Nat,1+r1=(R:Int):=⟨(1+r1).toNat,qa⟩;rw[hR]
 refine nz8 (g:=λb=>b) R qa (λj (y:List Int×Int×List bz1×Int)=>y.1=l/\0<=y.2.1/\y.2.1<=(l.length:Int)/\y.2.2.1.length=j/\(∀t,t<j->JV t (y.2.2.1.getD t qv))/\y.2.2.2=(j:Int))
  (λ(z:List Int×Int×List bz1)=>z.1=l/\0<=z.2.1/\z.2.1<=(l.length:Int)/\z.2.2.length=R/\∀t,t<R->JV t (z.2.2.getD t qv)) ⟨rfl,c1,d1,rfl,λt ht=>qa,rfl⟩ (λj y hj hy=>?_) (λy hy=>?_) (λz hz=>?_)
 ·obtain⟨f1,f2,f3,f4,f5,f6⟩:=hy;obtain⟨jt,n',ej,hj1,hj2,hj3⟩:=Tz8 hl f2 f3 (i:=j) qa;rw[f6,f1,az8 qa,ej,qL];simp only;rw[aza ⟨by simp;omega,by simp[azc];omega⟩,wn qa];refine⟨_,rfl,rfl,hj2,hj3,by simp;omega,λt ht=>?_,rfl⟩;simp only[wm]at f5⊢;by_cases e:t<j
  ·rw[zq qa];exact f5 t e
  ·obtain rfl:t=j:=qa
   rw[zr qa,f4,Nat.sub_self];exact hj1
 ·obtain⟨f1,f2,f3,f4,f5,f6⟩:=hy;rw[f6,az7 qa];exact⟨_,rfl,f1,f2,f3,f4,f5⟩
 ·obtain⟨f1,f2,f3,f4,f5⟩:=hz;obtain⟨r2,n2,e2,a2,b2,c2,d2⟩:=azt hl f2 f3 (k:=3) (by decide) (by decide);rw[f1,e2,qL];simp only;obtain⟨M,hM⟩:∃M:Nat,r2=(M:Int):=⟨r2.toNat,qa⟩;rw[hM]
  refine nz8 (g:=λb=>b) M qa (λj (y:List Int×Int×List czj×Int)=>y.1=l/\0<=y.2.1/\y.2.1<=(l.length:Int)/\y.2.2.1.length=j/\y.2.2.2=(M:Int)- (j:Int)/\∀x∈y.2.2.1,Nzb R x=true)
   (λ(w:List Int×Int×List czj)=>w.1=l/\0<=w.2.1/\w.2.1<=(l.length:Int)/\w.2.2.length=M/\∀x∈w.2.2,Nzb R x=true) ⟨rfl,c2,d2,rfl,by simp,λx hx=>by cases hx⟩ (λj y hj hy=>?_) (λy hy=>?_) (λw hw=>?_)
  ·obtain⟨g1,g2,g3,g4,g5,g6⟩:=hy;obtain⟨s1,m1,q1,u1,v1,w1,x1⟩:=azt hl g2 g3 (k:=(R:Int)) qa qa;obtain⟨s2,m2,q2,u2,v2,w2,x2⟩:=azt hl w1 x1 (k:=9000) (by decide) (by decide);obtain⟨s3,m3,q3,u3,v3,w3,x3⟩:=cz9 hl w2 x2 (k:=3) (by decide) (by decide);obtain⟨s4,m4,q4,u4,v4,w4,x4⟩:=cz9 hl w3 x3 (k:=2) (by decide) (by decide);rw[g5,g1,az8 qa,q1,qL,q2,qL,q3,qL,q4,qL];simp only;rw[aza ⟨by simp;omega,by simp[azc];omega⟩,w64 (x:=(M:Int)- (j:Int)-1) qa qa];refine⟨_,rfl,rfl,w4,x4,by simp;omega,by simp only;omega,λx hx=>?_⟩;rcases xh.1 hx with hx|hx
   ·exact g6 x hx
   ·rw[wO.1 hx];unfold Nzb betV;simp only;rw[w64 (x:=1+s2) qa qa,w64 (x:=s3 * 32768) qa qa,w64 (x:=s4 * 32768) qa qa];have hnv:hzq (s3 * 32768,0,s4 * 32768) 4194304=true:=by rw[nearV_iff];exact⟨by simp only;omega,by simp only;omega,by simp only;omega⟩
    rw[hnv];simp only[wJ,qm,qf];omega
  ·obtain⟨g1,g2,g3,g4,g5,g6⟩:=hy;rw[g5,az7 qa];exact⟨_,rfl,g1,g2,g3,g4,g6⟩
  ·exact⟨_,rfl,hw.1,⟨⟨by simp only;omega,by simp only;omega,λt ht=>f5 t (by simp only at ht;omega)⟩,by simp only;omega,by simp only;rw[f4];exact hw.2.2.2.2⟩,hw.2.1,hw.2.2.1⟩
end
theorem n01:(nmL 0==nmL 1)=false:=by kernel_rfl
theorem n02:(nmL 0==nmL 2)=false:=by kernel_rfl
theorem n12:(nmL 1==nmL 2)=false:=by kernel_rfl
theorem nv0:Lzk (nmL 0)=true:=by kernel_rfl
theorem nv1:Lzk (nmL 1)=true:=by kernel_rfl
theorem nv2:Lzk (nmL 2)=true:=by kernel_rfl
theorem azco (i:Nat)(hi:i<=2):Lzk (nmL i)=true/\∀t:Nat,t<i->(nmL t==nmL i)=false:=by
 have h3:i=0\/i=1\/i=2:=qa
 rcases h3 with rfl|rfl|rfl
 ·exact⟨nv0,λt ht=>qa⟩
 ·refine⟨nv1,λt ht=>?_⟩;obtain rfl:t=0:=qa
  exact n01
 ·refine⟨nv2,λt ht=>?_⟩;have:t=0\/t=1:=qa
  rcases this with rfl|rfl
  ·exact n02
  ·exact n12
theorem Zzi {l:List Int}(hl:l.length<4294967296){r:azn}{l2:List Int}{n2:Int}(e:(izb l 0).o=some (r,l2,n2)):dz1 r=0:=by
 obtain⟨⟨r',l',n'⟩,e1,e2,⟨⟨h1,h2,h3⟩,h4,h5⟩,-⟩:=Tza hl (n:=0) qa qa;simp only at e2 h1 h2 h3 h4 h5;rw[e1]at e;cases e;have hj:∀t,t<r.Xa.length->uzw r.Xa t=0:=λt ht=>by
  obtain⟨q1,q2,q3,q4,q5,q6⟩:=h3 t ht;obtain⟨n1,n2⟩:=azco t qa;unfold uzw;have hf:czg (Bzs r.Xa (r.Xa.getD t qv).XB) t=true:=noneB_iff.2 λs hs=>by
   unfold Bzs;rw[(h3 s qa).1,q1];exact n2 s hs
  simp only
  rw[hf,q1,n1,q4,q6,qh (show ¬ (r.Xa.getD t qv).Xl<0 from qa),qh (show ¬ (r.Xa.getD t qv).Xl>6 from qa),qh (show ¬ (r.Xa.getD t qv).Xt< -1 from qa),qh (show ¬ (r.Xa.getD t qv).Xt>=(t:Int) from qa),
   qh (show ¬ (r.Xa.getD t qv).Lo>(r.Xa.getD t qv).Hi from qa),qh (show ¬ (r.Xa.getD t qv).Lo< -fzt (r.Xa.getD t qv).Xl from qa),qh (show ¬ (r.Xa.getD t qv).Hi>fzt (r.Xa.getD t qv).Xl from qa)]
  rfl
 show dz1 r=0;unfold dz1;rw[qb qa];have hs:scan (errJ r.Xa) r.Xa.length 0=none:=(ezt _ _).2 λt _ ht=>by
  unfold errJ;rw[hj t qa];rfl
 rw[hs];simp only;have hm:czg (badM r.Xa.length r.Xi) r.Xi.length=true:=noneB_iff.2 λt ht=>by
  unfold badM;rw[h5 _ (bz3 ht)];rfl
 rw[qb (by rw[hm];simp;omega)]
theorem Qzb (r:azn)(m:List Int)(hm:m.length<4294967296)(hr:RoB r)(hv:dz1 r=0):∃p,(wz9 r m).o=some p/\azx r p=true:=by
 have ef:(mz8 m).o=some (m,0):=rfl;obtain⟨r1,r2,r3⟩:=hr;suffices hs:∃p,(wz9 r m).o=some p/\(p.length=r.Xa.length/\∀t,t<r.Xa.length->(r.Xa.getD t qv).Lo<=p.getD t qv/\p.getD t qv<=(r.Xa.getD t qv).Hi) by
  obtain⟨p,p1,p2,p3⟩:=hs;refine⟨p,p1,?_⟩;unfold azx;simp only[qm,qf];refine⟨hv,p2,noneB_iff.2 λt ht=>?_⟩;have:=p3 t qa;unfold outJ;simp only[qp,qi];omega
 show ∃p,(wza r m).run NN=some p/\_;simp only[wza,qk,ef,qL]
 refine dzz (P:=λp:List Int=>p.length=r.Xa.length/\∀t,t<r.Xa.length->(r.Xa.getD t qv).Lo<=p.getD t qv/\p.getD t qv<=(r.Xa.getD t qv).Hi) (λk (y:List Int×Int×List Int×Int)=>∃j:Nat,y.1=m/\(0<=y.2.1/\y.2.1<=(m.length:Int))/\y.2.2.2=(j:Int)/\j+k=r.Xa.length/\y.2.2.1.length=j/\∀t,t<j->(r.Xa.getD t qv).Lo<=y.2.2.1.getD t qv/\y.2.2.1.getD t qv<=(r.Xa.getD t qv).Hi)
  (λz:List Int=>z.length=r.Xa.length/\∀t,t<r.Xa.length->(r.Xa.getD t qv).Lo<=z.getD t qv/\z.getD t qv<=(r.Xa.getD t qv).Hi) r.Xa.length ⟨0,rfl,⟨by simp,by simp⟩,rfl,qa,by simp[nl],λt ht=>qa⟩ qa ?_ (λz hz=>⟨_,rfl,hz⟩)
 rintro k ⟨l1,ix,p,y⟩ ⟨j,h1,⟨h2,h3⟩,h4,h5,h6,h7⟩;simp only at h1 h2 h3 h4 h6 h7⊢;subst h1;subst h4;cases k with
 |zero=>exact .inr (.inl ⟨_,by rw[az7 qa],qa,λt ht=>h7 t qa⟩)
 |succ k=>
  have hj:=r3 _ (bz3 (show j<r.Xa.length from qa));unfold JB at hj;have app:∀x,(r.Xa.getD j qv).Lo<=x/\x<=(r.Xa.getD j qv).Hi->∀t,t<j+1->(r.Xa.getD t qv).Lo<=(p++[x]).getD t qv/\(p++[x]).getD t qv<=(r.Xa.getD t qv).Hi:=λx hx t ht=>by
   by_cases e:t<j
   ·have:(p++[x]).getD t qv=p.getD t qv:=by simp[wm,zq (show t<p.length from qa)]
    rw[this];exact h7 t e
   ·obtain rfl:t=j:=qa
    have:(p++[x]).getD t qv=x:=by simp[wm,zr (show p.length<=t from qa),h6]
    rw[this];exact hx
  rw[az8 qa,aza qa,aza qa,qG,wn qa];obtain⟨s1,x1,e1,a1,b1,c1,d1⟩:=azt hm h2 h3 (k:=6) (by decide) (by decide);rw[e1];simp only[qL];by_cases q1:s1=0
  ·rw[dzj q1,aza (by simp only[wB,w8,azc];omega),az9];exact .inl ⟨_,k,rfl,xj k,j+1,rfl,⟨c1,d1⟩,rfl,qa,by simp only[xc,wB,w8];omega,app _ qa⟩
  ·rw[dze q1];by_cases q2:s1=1
   ·rw[dzj q2,aza (by simp only[wB,w8,azc];omega),az9];exact .inl ⟨_,k,rfl,xj k,j+1,rfl,⟨c1,d1⟩,rfl,qa,by simp only[xc,wB,w8];omega,app _ qa⟩
   ·rw[dze q2];have hw:qu.wrap ((r.Xa.getD j qv).Hi- (r.Xa.getD j qv).Lo)=(r.Xa.getD j qv).Hi- (r.Xa.getD j qv).Lo:=w64 qa qa;simp only[hw];have hw2:qu.wrap ((r.Xa.getD j qv).Hi- (r.Xa.getD j qv).Lo+1)=(r.Xa.getD j qv).Hi- (r.Xa.getD j qv).Lo+1:=w64 qa qa;simp only[hw2];obtain⟨s2,x2,e2,a2,b2,c2,d2⟩:=azt hm c1 d1 (k:=(r.Xa.getD j qv).Hi- (r.Xa.getD j qv).Lo+1) qa qa;rw[e2];simp only[qL];rw[w64 (x:=(r.Xa.getD j qv).Lo+s2) qa qa,aza (by simp only[wB,w8,azc];omega),az9];exact .inl ⟨_,k,rfl,xj k,j+1,rfl,⟨c2,d2⟩,rfl,qa,by simp only[xc,wB,w8];omega,app _ qa⟩
theorem Nza (r:azn)(n:Nat)(hn:n<=1000)(m:List Int)(hm:m.length<4294967296)(hr:RoB r)(hv:dz1 r=0):∃p,(Czc r (n:Int) m).o=some p/\p.length=n/\∀c∈p,azx r c=true:=by
 have ef:(mz8 m).o=some (m,0):=rfl;obtain⟨r1,r2,r3⟩:=hr;show ∃p,(tz7 r (n:Int) m).run NN=some p/\_;simp only[tz7,qk,ef,qL];have hw:qu.wrap (2 * (r.Xa.length:Int))=((2 * r.Xa.length:Nat):Int):=by rw[w64 qa qa];omega
 rw[hw]
 refine dzz (P:=λp:List (List Int)=>p.length=n/\∀c∈p,azx r c=true) (λk (y:List Int×Int×List (List Int)×Int)=>∃j:Nat,y.1=m/\(0<=y.2.1/\y.2.1<=(m.length:Int))/\y.2.2.2=(j:Int)/\j+k=n/\y.2.2.1.length=j/\∀c∈y.2.2.1,azx r c=true)
  (λz:List (List Int)=>z.length=n/\∀c∈z,azx r c=true) n ⟨0,rfl,⟨by simp,by simp⟩,rfl,qa,by simp[nl],λc hc=>by cases hc⟩ qa ?_ (λz hz=>⟨_,rfl,hz⟩)
 rintro k ⟨l1,ix,p,y⟩ ⟨j,h1,⟨h2,h3⟩,h4,h5,h6,h7⟩;simp only at h1 h2 h3 h4 h6 h7⊢;subst h1;subst h4;cases k with
 |zero=>exact .inr (.inl ⟨_,by rw[az7 qa],qa,h7⟩)
 |succ k=>
  rw[az8 qa,wn qa];suffices hi:∃s,_=some s/\(∃ (ix':Int) (c:List Int),s=Step3.next (l1,ix',p++[c],((j+1:Nat):Int))/\(0<=ix'/\ix'<=(l1.length:Int))/\azx r c=true) by
   obtain⟨s,e,ix',c,rfl,k1,k2⟩:=hi;refine .inl ⟨_,k,e,xj k,j+1,rfl,k1,rfl,qa,by simp only[xc,wB,w8];omega,λc' hc'=>?_⟩;rcases xh.1 hc' with hc'|hc'
   ·exact h7 c' hc'
   ·simp at hc';subst hc';exact k2
  refine dzz (λk (y:List Int×Int×List Int×Int)=>∃i:Nat,y.1=l1/\(0<=y.2.1/\y.2.1<=(l1.length:Int))/\y.2.2.2=(i:Int)/\i+k=2 * r.Xa.length/\y.2.2.1.length=i)
   (λz:List Int×Int×List Int=>z.1=l1/\(0<=z.2.1/\z.2.1<=(l1.length:Int))/\z.2.2.length=2 * r.Xa.length) (2 * r.Xa.length) ⟨0,rfl,⟨h2,h3⟩,rfl,qa,by simp[nl]⟩ qa ?_ ?_
  ·rintro k' ⟨l2,ix2,q,y2⟩ ⟨i,g1,⟨g2,g3⟩,g4,g5,g6⟩;simp only at g1 g2 g3 g4 g6⊢;subst g1;subst g4;cases k' with
   |zero=>exact .inr (.inl ⟨_,by rw[az7 qa],rfl,⟨g2,g3⟩,by simp only;omega⟩)
   |succ k'=>
    obtain⟨s1,x1,e1,a1,b1,c1,d1⟩:=azt hm g2 g3 (k:=1048576) (by decide) (by decide);rw[az8 qa,e1];simp only[qL];rw[aza (by simp only[wB,w8,azc];omega),wn qa];exact .inl ⟨_,k',rfl,xj k',i+1,rfl,⟨c1,d1⟩,rfl,qa,by simp only[xc,wB,w8];omega⟩
  ·rintro⟨l2,ix2,q⟩ ⟨g1,g2,g3⟩;simp only at g1 g2 g3⊢;subst g1;obtain⟨c,ec,lc⟩:=Qzb r q qa ⟨r1,r2,r3⟩ hv;rw[ec];simp only[qL];rw[aza (by simp only[wB,w8,azc];omega)];exact⟨_,rfl,ix2,c,rfl,g2,lc⟩
theorem Sz8 (r:azn)(pts:List (List Int))(j:Nat):∀k,(disL r pts j).length<=(disL r pts (j+k)).length
 |0=>wz _
 |k+1=>by
  refine wH (Sz8 r pts j k) ?_;show _<=(disL r pts ((j+k)+1)).length;have hs:disL r pts ((j+k)+1)=if azx r (pts.getD (j+k) qv)=true/\¬pts.getD (j+k) qv∈disL r pts (j+k)then disL r pts (j+k)++[pts.getD (j+k) qv]else disL r pts (j+k):=rfl
  rw[hs];split
  ·simp
  ·exact wz _
theorem az4d {r:azn}{pts:List (List Int)}(h:0<pts.length)(hi:∀c∈pts,azx r c=true):0<(disL r pts pts.length).length:=by
 have h1:=((Sz7 r pts 1 h).1).2 (λi hi'=>by
  obtain rfl:i=0:=qa
  exact⟨hi _ (bz3 h),by simp⟩)
 have h2:=Sz8 r pts 1 (pts.length-1);rw[show 1+(pts.length-1)=pts.length from qa]at h2;omega
open Go.Proofs
def NB (m:Int)(v:V3):Prop:= -m<=v.1/\v.1<=m/\ -m<=v.2.1/\v.2.1<=m/\ -m<=v.2.2/\v.2.2<=m
theorem NB.mono {a b:Int}{v:V3}(h:NB a v)(hab:a<=b):NB b v:=by
 obtain⟨k1,k2,k3,k4,k5,k6⟩:=h;exact⟨qa,qa,qa,qa,qa,qa⟩
def ShOk (n:Nat)(x:bz9):Prop:=yz9 n x=0
theorem azc2 {n:Nat}{k t:Int}{ps:List V3}(hk: -1<=k)(hk2:k<(n:Int))(h0:0<=t)(h1:t<4)(hp:1<=ps.length/\ps.length<=4/\∀v∈ps,NB 393216 v):
 ShOk n (⟨k,qu.wrap ((qu.wrap (qu.wrap (1+t) * 65536)).tdiv 8),ps⟩:bz9):=by
 have e1:qu.wrap (1+t)=1+t:=w64 qa qa;have e2:qu.wrap ((1+t) * 65536)=(1+t) * 65536:=w64 qa qa;have e3:((1+t) * 65536).tdiv 8=(1+t) * 8192:=by
  rw[xk qa];omega
 have e4:qu.wrap ((1+t) * 8192)=(1+t) * 8192:=w64 qa qa;rw[e1,e2,e3,e4];obtain⟨p1,p2,p3⟩:=hp;unfold ShOk yz9;have hf:czg (farP ps) ps.length=true:=noneB_iff.2 λi hi=>by
  obtain⟨k1,k2,k3,k4,k5,k6⟩:=p3 _ (bz3 hi);unfold farP;rw[nearV_iff.2 ⟨⟨qa,qa⟩,⟨qa,qa⟩,qa,qa⟩];rfl
 have hl:(kzo n k&&betV ((1+t) * 8192) 1 1048576)=true:=by
  simp only[kzo,betV,qm,qf];omega
 dsimp only;rw[hl,hf,qb (by rintro(h|h|h)<;>first|cases h|omega)];rfl
theorem Yzl {r:azn}{sh:List bz9}{sk:List jz7}(hr:dz1 r=0)(h1:sh.length<=6)(h2:∀x∈sh,ShOk r.Xa.length x)(h3:sk.length<=1)
 (h4:∀x∈sk,(-1<=x.A/\x.A<(r.Xa.length:Int)/\ -1<=x.B/\x.B<(r.Xa.length:Int))):czd (⟨⟨r.Xa,r.Xi⟩,sh,sk⟩:azd)=0:=by
 have er:(⟨r.Xa,r.Xi⟩:azn)=r:=rfl;unfold czd;simp only[er];have hs:scan (errS r.Xa.length sh) sh.length 0=none:=(ezt _ _).2 λj _ hj=>by
  have hx:=h2 _ (bz3 (l:=sh) (i:=j) qa);unfold ShOk at hx;unfold errS;rw[hx];rfl
 have hk:czg (badK r.Xa.length sk) sk.length=true:=noneB_iff.2 λi hi=>by
  obtain⟨a,b,c,d⟩:=h4 _ (bz3 hi);unfold badK kzo;simp only[qg a,qg b,qg c,qg d];rfl
 rw[qb (by rw[hr];simp),qb qa,hs];simp only;rw[qb qa,hk];rfl
section
variable {l:List Int} (hl:l.length<4294967296) {n:Int} (h0:0<=n) (h1:n<=(l.length:Int))
include hl h0 h1
theorem Ezt {c:V3}(hc:NB 294912 c):∃b:List V3×List Int×Int,(pzg l n c).o=some b/\(b.2.1=l/\0<=b.2.2/\b.2.2<=(l.length:Int))/\(1<=b.1.length/\b.1.length<=4/\∀v∈b.1,NB 393216 v):=by
 have e0:(pzg l n c).o=(wzb l n c).run NN:=rfl;rw[e0];simp only[wzb,qk,T.ix];obtain⟨r1,n1,e1,a1,b1,c1,d1⟩:=azt hl h0 h1 (k:=4) (by decide) (by decide);rw[e1,qL];simp only;obtain⟨M,hM⟩:∃M:Nat,r1=(M:Int):=⟨r1.toNat,qa⟩;rw[hM]
 refine nz8 (g:=λb=>b) M qa (λj (y:List Int×Int×List V3×Int)=>y.1=l/\0<=y.2.1/\y.2.1<=(l.length:Int)/\(y.2.2.1.length=j+1/\∀v∈y.2.2.1,NB 393216 v)/\y.2.2.2=(M:Int)- (j:Int))
  (λ(w:List Int×Int×List V3)=>w.1=l/\0<=w.2.1/\w.2.1<=(l.length:Int)/\(1<=w.2.2.length/\w.2.2.length<=4/\∀v∈w.2.2,NB 393216 v)) ⟨rfl,c1,d1,⟨rfl,λv hv=>by rw[wO.1 hv];exact hc.mono (by decide)⟩,by simp⟩ (λj y hj hy=>?_) (λy hy=>?_) (λw hw=>⟨_,rfl,⟨hw.1,hw.2.1,hw.2.2.1⟩,hw.2.2.2⟩)
 ·obtain⟨g1,g2,g3,⟨g4,g6⟩,g5⟩:=hy;obtain⟨s1,m1,q1,u1,v1,w1,x1⟩:=cz9 hl g2 g3 (k:=3) (by decide) (by decide);obtain⟨s2,m2,q2,u2,v2,w2,x2⟩:=cz9 hl w1 x1 (k:=2) (by decide) (by decide);obtain⟨s3,m3,q3,u3,v3,w3,x3⟩:=cz9 hl w2 x2 (k:=2) (by decide) (by decide);rw[g5,g1,az8 qa,q1,qL,q2,qL,q3,qL];simp only;rw[aza ⟨by simp;omega,by simp[azc];omega⟩,w64 (x:=(M:Int)- (j:Int)-1) qa qa];refine⟨_,rfl,rfl,w3,x3,⟨by simp;omega,λv hv=>?_⟩,by simp only;omega⟩;rcases xh.1 hv with hv|hv
  ·exact g6 v hv
  ·rw[wO.1 hv];obtain⟨k1,k2,k3,k4,k5,k6⟩:=hc;have e1:qu.wrap (s1 * 32768)=s1 * 32768:=w64 qa qa;have e2:qu.wrap (s2 * 32768)=s2 * 32768:=w64 qa qa;have e3:qu.wrap (s3 * 32768)=s3 * 32768:=w64 qa qa;rw[e1,e2,e3,w64 (x:=c.1+_) qa qa,w64 (x:=c.2.1+_) qa qa,w64 (x:=c.2.2+_) qa qa];refine⟨?_,?_,?_,?_,?_,?_⟩<;>(dsimp only;omega)
 ·obtain⟨g1,g2,g3,⟨g4,g6⟩,g5⟩:=hy;rw[g5,az7 qa];exact⟨_,rfl,g1,g2,g3,by simp only;omega,by simp only;omega,g6⟩
end
theorem Tz7 (l:List Int)(hl:l.length<4294967296):∃s:azd,(zzg l).o=some s/\(1<=s.Xe.Xa.length/\s.Xe.Xa.length<=3/\∀j∈s.Xe.Xa,JB j)/\dz1 s.Xe=0/\czd s=0:=by
 have e0:(zzg l).o=(zzh l).run NN:=rfl;rw[e0];simp only[zzh,qk];have ef:(mz8 l).o=some (l,0):=rfl;rw[ef,qL];obtain⟨r,n0,er,hr,m0,m1⟩:=Tzb hl (n:=0) qa qa;have hr:(1<=r.Xa.length/\r.Xa.length<=3/\∀j∈r.Xa,JB j)/\dz1 r=0:=⟨hr,Zzi hl er⟩;rw[er,qL];simp only
 refine nz8 (g:=λb=>b) r.Xa.length qa (λj (y:List Int×Int×List bz9×Int)=>y.1=l/\0<=y.2.1/\y.2.1<=(l.length:Int)/\(y.2.2.1.length<=j/\∀x∈y.2.2.1,ShOk r.Xa.length x)/\y.2.2.2=(j:Int))
  (λ(w:List Int×Int×List bz9)=>w.1=l/\0<=w.2.1/\w.2.1<=(l.length:Int)/\w.2.2.length<=3/\∀x∈w.2.2,ShOk r.Xa.length x) ⟨rfl,m0,m1,⟨by simp[nl],λx hx=>by cases hx⟩,rfl⟩ (λj y hj hy=>?_) (λy hy=>?_) (λz hz=>?_)
 ·obtain⟨g1,g2,g3,⟨g4,g6⟩,g5⟩:=hy;obtain⟨s1,p1,q1,u1,v1,w1,x1⟩:=azt hl g2 g3 (k:=5) (by decide) (by decide);obtain⟨s2,p2,q2,u2,v2,w2,x2⟩:=azt hl w1 x1 (k:=3) (by decide) (by decide);obtain⟨s3,p3,q3,u3,v3,w3,x3⟩:=azt hl w2 x2 (k:=4) (by decide) (by decide);have e9:qu.wrap (s3 * 32768)=s3 * 32768:=w64 qa qa;obtain⟨⟨ps,l4,p4⟩,q4,⟨t4,w4,x4⟩,b4⟩:=Ezt hl w3 x3 (c:=(qu.wrap (s3 * 32768),0,0)) (by rw[e9];refine⟨?_,?_,?_,?_,?_,?_⟩<;>(dsimp only;omega));simp only at t4;subst t4;rw[g5,g1,az8 qa,q1,qL,wn qa];cases decide (s1<4)
  ·exact⟨_,rfl,rfl,w1,x1,⟨by simp only;omega,g6⟩,rfl⟩
  ·simp only[qe];rw[q2,qL,q3,qL,q4,qL];simp only;rw[aza ⟨by simp;omega,by simp[azc];omega⟩,az9];refine⟨_,rfl,rfl,w4,x4,⟨by simp;omega,λx hx=>?_⟩,rfl⟩;rcases xh.1 hx with hx|hx
   ·exact g6 x hx
   ·rw[wO.1 hx];exact azc2 qa qa u2 qa b4
 ·obtain⟨g1,g2,g3,⟨g4,g6⟩,g5⟩:=hy;rw[g5,az7 qa];exact⟨_,rfl,g1,g2,g3,by simp only;omega,g6⟩
 ·obtain⟨g1,g2,g3,g4,g6⟩:=hz;obtain⟨s1,p1,q1,u1,v1,w1,x1⟩:=azt hl g2 g3 (k:=3) (by decide) (by decide);rw[g1,q1,qL];simp only;rw[w64 (x:=1+s1) qa qa];obtain⟨M,hM⟩:∃M:Nat,1+s1=(M:Int):=⟨(1+s1).toNat,qa⟩;rw[hM]
  refine nz8 (g:=λb=>b) M qa (λj (y:List Int×Int×List bz9×Int)=>y.1=l/\0<=y.2.1/\y.2.1<=(l.length:Int)/\(y.2.2.1.length<=3+j/\∀x∈y.2.2.1,ShOk r.Xa.length x)/\y.2.2.2=(M:Int)- (j:Int))
   (λ(w:List Int×Int×List bz9)=>w.1=l/\0<=w.2.1/\w.2.1<=(l.length:Int)/\w.2.2.length<=6/\∀x∈w.2.2,ShOk r.Xa.length x) ⟨rfl,w1,x1,⟨by simp only;omega,g6⟩,by simp⟩ (λj y hj hy=>?_) (λy hy=>?_) (λw hw=>?_)
  ·obtain⟨g1,g2,g3,⟨g4,g6⟩,g5⟩:=hy;obtain⟨t1,p1,q1,u1,v1,w1,x1⟩:=cz9 hl g2 g3 (k:=9) (by decide) (by decide);obtain⟨t2,p2,q2,u2,v2,w2,x2⟩:=cz9 hl w1 x1 (k:=9) (by decide) (by decide);obtain⟨t3,p3,q3,u3,v3,w3,x3⟩:=cz9 hl w2 x2 (k:=2) (by decide) (by decide);obtain⟨t4,p4,q4,u4,v4,w4,x4⟩:=azt hl w3 x3 (k:=4) (by decide) (by decide);have e1:qu.wrap (t1 * 32768)=t1 * 32768:=w64 qa qa;have e2:qu.wrap (t2 * 32768)=t2 * 32768:=w64 qa qa;have e3:qu.wrap (t3 * 32768)=t3 * 32768:=w64 qa qa;obtain⟨⟨ps,l5,p5⟩,q5,⟨t5,w5,x5⟩,b5⟩:=Ezt hl w4 x4 (c:=(qu.wrap (t1 * 32768),qu.wrap (t2 * 32768),qu.wrap (t3 * 32768))) (by rw[e1,e2,e3];refine⟨?_,?_,?_,?_,?_,?_⟩<;>(dsimp only;omega));simp only at t5;subst t5;rw[g5,g1,az8 qa,q1,qL,q2,qL,q3,qL,q4,qL,q5,qL];simp only;rw[aza ⟨by simp;omega,by simp[azc];omega⟩,w64 (x:=(M:Int)- (j:Int)-1) qa qa];refine⟨_,rfl,rfl,w5,x5,⟨by simp;omega,λx hx=>?_⟩,by simp only;omega⟩;rcases xh.1 hx with hx|hx
   ·exact g6 x hx
   ·rw[wO.1 hx];exact azc2 qa qa u4 qa b5
  ·obtain⟨g1,g2,g3,⟨g4,g6⟩,g5⟩:=hy;rw[g5,az7 qa];exact⟨_,rfl,g1,g2,g3,by simp only;omega,g6⟩
  ·obtain⟨g1,g2,g3,g4,g6⟩:=hw;obtain⟨s1,p1,q1,u1,v1,w1,x1⟩:=azt hl g2 g3 (k:=5) (by decide) (by decide);obtain⟨s2,p2,q2,u2,v2,w2,x2⟩:=azt hl w1 x1 (k:=(r.Xa.length:Int)) qa qa;rw[g1,q1,qL];cases s1==1
   ·exact⟨_,rfl,hr.1,hr.2,Yzl hr.2 g4 g6 (by simp[nl]) (λx hx=>by cases hx)⟩
   ·simp only[qe];rw[q2,qL];simp only;rw[aza ⟨by simp,by simp[azc]⟩];refine⟨_,rfl,hr.1,hr.2,Yzl hr.2 g4 g6 (by simp) (λx hx=>?_)⟩;rw[wO.1 hx];refine⟨?_,?_,?_,?_⟩<;>(dsimp only;omega)
open Go.Proofs
theorem az7o:(wz7).o=some true:=by kernel_rfl
theorem azbe (r:azn)(pts:List (List Int))(k:Int)(hp:pts.length<=7)(h0:0<pts.length)(hr:dz1 r=0)(hi:∀c∈pts,azx r c=true):
 ∃m,(uz2 r pts k).o=some m/\LzOk m.Xb m.Xd.length m.Xd/\0<m.Xb.length/\m.Xb.length<=7/\m.Xd.length<=49/\∃S es,m.Xd=es.take 8192/\MapE r m.Xb S es:=by
 obtain⟨m,p1,p2,p3⟩:=Yz0 r pts k qa (λc hc=>by have:=hzm (hi c hc);omega);refine⟨m,p1,?_⟩;obtain⟨a1,es,a2,a3,a4⟩:=p3 hr;have hl:=Ezg r pts pts.length;have h7:m.Xb.length<=7:=by rw[a1];omega
 have h49:m.Xd.length<=49:=by
  rw[a2,List.length_take];have:m.Xb.length * m.Xb.length<=7 * 7:=Nat.mul_le_mul h7 h7;omega
 refine⟨⟨rfl,qa,qa,λc hc=>?_,λe he=>?_⟩,by rw[a1];exact az4d h0 hi,h7,h49,_,es,a2,a4⟩
 ·rw[a1]at hc;have:=hzm (Gzx r pts _ c hc);omega
 ·rw[a2]at he;obtain⟨a,b,-,-,-,h⟩:=(a4.2 e).1 (zb he);rw[h];exact azbi r _ _ _
theorem aza1 (E:List az4):untE E<=E.length:=List.countP_le_length
open Go.Proofs
open Go.Proofs
open Go.Proofs
open Go.Proofs
theorem az3r (s:azd)(P:List (List Int))(d:Int)(x:az4):(tstE s P d x).Xq≠0:=by
 unfold tstE Vzz stV;simp only;split
 ·decide
 ·split<;>decide
section
variable {s:azd} {P:List (List Int)} {x y d:Int} (h0:0<=d) (h20:d<=20) {n:Nat} {E:List az4} (h:LzOk P n E) {K:Nat} (hk:∀i,i<K->(nxV P x y (itE s P x y d E i)).2.2.2=3)
include h0 h20 h hk
end
open Go.Proofs
theorem azcx {W a b s:Int}{n:Nat}(hn:n<=10)(w0:1<=W)(w1:W<=1024)(ha: -4194304<=a/\a<=4194304)(hb: -4194304<=b/\b<=4194304)(h0:0<=s)(h1:s<=(n:Int) * 8589934592):
 0<=qu.wrap (s+qu.wrap (W * max (qu.wrap (b-a)) (qu.wrap (a-b))))/\qu.wrap (s+qu.wrap (W * max (qu.wrap (b-a)) (qu.wrap (a-b))))<=((n+1:Nat):Int) * 8589934592:=by
 rw[w64 (x:=b-a) qa qa,w64 (x:=a-b) qa qa];obtain⟨M,hM,m0,m1⟩:∃M:Int,max (b-a) (a-b)=M/\0<=M/\M<=8388608:=⟨_,rfl,qa,qa⟩;rw[hM];have p0:0<=W * M:=Int.mul_nonneg qa m0;have p1:W * M<=1024 * 8388608:=Int.mul_le_mul w1 m1 m0 (by decide);generalize W * M=p at p0 p1;rw[w64 (x:=p) qa qa,w64 (x:=s+p) qa qa];omega
theorem azcc {r:azn}{p:List Int}(hv:dz1 r=0)(hp:azx r p=true){i:Nat}(hi:i<r.Xa.length): -4194304<=p.getD i qv/\p.getD i qv<=4194304:=by
 have hl:=(hzm hp).1;unfold azx at hp;simp only[qm,noneB_iff]at hp;have h1:=hp.2.2 i qa;unfold outJ at h1;simp only[qp,qi]at h1;have h2:=(fz3 hv hi).lim;have h3:=Bzc (r.Xa.getD i qv).Xl;omega
theorem az0r {r:azn}{p q:List Int}(hv:dz1 r=0)(hp:azx r p=true)(hq:azx r q=true):0<=dstV r p q/\dstV r p q<=1099511627776:=by
 unfold dstV;cases badD r p q
 ·simp only[qd];have hj:=(fz6 hv).2.1;have key:∀n,n<=r.Xa.length->0<=sumD r p q n/\sumD r p q n<=(n:Int) * 8589934592:=by
   intro n;induction n with
   |zero=>intro _;exact⟨xi _,by show(0:Int)<=_;omega⟩
   |succ n ih=>
    intro hn;obtain⟨a,b⟩:=ih qa;have hc:=(fz3 hv (i:=n) qa).cost;unfold Sz6 betV at hc;simp only[qm,qf]at hc;exact azcx qa hc.1.1 hc.1.2 (azcc hv hp qa) (azcc hv hq qa) a b
  have:=key _ (wz _);omega
 ·simp only[qe];omega
theorem az8v {r:azn}{P:List (List Int)}{S:Nat->Nat->Prop}{es E:List az4}(hv:dz1 r=0)(hi:∀c∈P,azx r c=true)(hE:E=es.take 8192)(hm:MapE r P S es):WF ⟨P,E⟩:=by
 intro j hj;have hj:j<E.length:=hj;refine⟨?_,λh0=>?_⟩
 ·have:=bz3 hj;rw[hE]at this;obtain⟨a,b,h1,h2,-,h4⟩:=(hm.2 _).1 (zb this);rw[<-hE]at h4;show yze P.length (E.getD j qv);rw[h4];have hd:=az0r hv (hi _ (bz3 (l:=P) (i:=a) qa)) (hi _ (bz3 (l:=P) (i:=b) h2));unfold newE yze;simp only[qG];omega
 ·have hs:SoE E:=by rw[hE];exact hm.1.sublist (List.take_sublist _ _)
  have:=zm.1 hs (j-1) j qa hj qa;show eLt (E.getD (j-1) qv) (E.getD j qv);rw[wm,wm,wE hj,wE (show j-1<E.length from qa)];unfold ltE at this;simp only[qf]at this;exact this
theorem aza2 {P:List (List Int)}{E E':List az4}(hl:E'.length=E.length)(h:∀j,j<E.length->(E'.getD j qv).U=(E.getD j qv).U/\(E'.getD j qv).V=(E.getD j qv).V/\(E'.getD j qv).Xu=(E.getD j qv).Xu)(hw:WF ⟨P,E⟩):WF ⟨P,E'⟩:=by
 intro j hj;have hj:j<E.length:=by rw[<-hl];exact hj
 obtain⟨a1,a2,a3⟩:=h j hj;obtain⟨w1,w2⟩:=hw j hj;have w1:yze P.length (E.getD j qv):=w1;have w2:0<j->eLt (E.getD (j-1) qv) (E.getD j qv):=w2;refine⟨?_,λh0=>?_⟩
 ·show yze P.length (E'.getD j qv);unfold yze at w1⊢;rw[a1,a2,a3];exact w1
 ·obtain⟨b1,b2,-⟩:=h (j-1) qa;have:=w2 h0;show eLt (E'.getD (j-1) qv) (E'.getD j qv);unfold eLt at this⊢;rw[a1,a2,b1,b2];exact this
theorem azb1 {s:azd}{P:List (List Int)}{x y d:Int}(h0:0<=d)(h20:d<=20){n:Nat}{E:List az4}(h:LzOk P n E){K:Nat}(hk:∀i,i<K->(nxV P x y (itE s P x y d E i)).2.2.2=3):
 ∀i,i<=K->∀j,j<E.length->((itE s P x y d E i).getD j qv=E.getD j qv\/(itE s P x y d E i).getD j qv=tstE s P d (E.getD j qv))
 |0,_,j,_=>.inl rfl
 |i+1,hi,j,hj=>by
  have ih:=azb1 h0 h20 h hk i qa;have ho:=Xzr h0 h20 h hk i qa;have hit:itE s P x y d E (i+1)=stE s P x y d (itE s P x y d E i):=rfl;obtain⟨-,hn,-⟩:=az2c x y ho.small;obtain⟨e0,e1,e2,e3⟩:=hn.ed (hk i qa);have l1:=ho.len;have l2:=h.len;rw[hit];unfold stE;rw[zz6 qa];split
  ·rename_i hje;subst hje;rcases ih _ hj with q|q
   ·right;rw[q]
   ·rw[q]at e2;exact absurd e2 (az3r s P d _)
  ·exact ih j hj
open Go.Proofs
theorem Yzp (s:azd)(P:List (List Int))(d:Int)(x:az4):(tstE s P d x).U=x.U/\(tstE s P d x).V=x.V/\(tstE s P d x).Xu=x.Xu:=⟨rfl,rfl,rfl⟩
section
variable {s:azd} {P:List (List Int)} {d:Int} {E G F:List az4} (hz:∀j,j<E.length->(E.getD j qv).Xq=0) (hG:G.length=E.length) (hF:F.length=E.length)
 (ho:∀j,j<E.length->(G.getD j qv=E.getD j qv\/G.getD j qv=tstE s P d (E.getD j qv))) (ht:∀j,j<E.length->F.getD j qv=tstE s P d (E.getD j qv))
include hz hG hF ho ht
end
open Go.Proofs
theorem Yzz {m:azi}(hs:Bzo m){u v:Int}(hn:∀e,e<m.Xd.length->¬ ((m.Xd.getD e qv).U=u/\(m.Xd.getD e qv).V=v)):
 ∃r,(azw m.Xd (u,v)).o=some r/\r.2=false:=by
 have hN:100000<=NN:=by show 100000<=4294967296;decide
 have hs2:=hs.2;simp only[czb,bz4,qk];refine dzz (P:=λr:Int×Bool=>r.2=false) (λk (x:Int×Int)=>∃a b:Nat,x=((a:Int),(b:Int))/\a+k=b/\b<=m.Xd.length) (λy=>∃a:Nat,y=(a:Int)/\a<=m.Xd.length) m.Xd.length ⟨0,m.Xd.length,rfl,qa,qa⟩ qa ?_ ?_
 ·rintro k x ⟨a,b,rfl,hab,hb⟩;dsimp only;by_cases hlt:a<b
  ·left
   (rw[az8 qa];(repeat rw[azg qa]);rw[azat qa qa])
   obtain⟨h,hh⟩:∃h:Nat,((a:Int)+(b:Int)) / 2=(h:Int):=⟨(a+b) / 2,qa⟩;have hah:a<=h/\h<b:=qa
   (rw[hh];(repeat rw[azg qa]);rw[qG])
   obtain⟨c,hc,hc1,hc2⟩:=jza qa (m.Xd.getD h qv) u v;rw[hc,qL];by_cases hcl:c<0
   ·rw[az8 hcl,w64n qa];exact⟨_,b- (h+1),rfl,qa,h+1,b,rfl,qa,hb⟩
   ·rw[az7 hcl];exact⟨_,h-a,rfl,qa,a,h,rfl,qa,qa⟩
  ·right;left;rw[az7 qa];exact⟨_,rfl,a,rfl,qa⟩
 ·rintro y ⟨a,rfl,ha⟩;by_cases hlt:a<m.Xd.length
  ·(rw[az8 qa];(repeat rw[azg qa]);rw[qG])
   obtain⟨c,hc,hc1,hc2⟩:=jza qa (m.Xd.getD a qv) u v;rw[hc,qL];refine⟨_,rfl,?_⟩;cases hz:(c==0)with
   |false=>rfl
   |true=>exact absurd (hc2.1 (by simpa using hz)) (hn a hlt)
  ·rw[az7 qa];exact⟨_,rfl,rfl⟩
theorem Yzy {m:azi}(hs:Bzo m){x y:Int}(hn:∀e,e<m.Xd.length->¬ ((m.Xd.getD e qv).U=min x y/\(m.Xd.getD e qv).V=max x y)):∃r,(hzf m x y).o=some r/\r.2=false:=by
 obtain⟨r,h1,h2⟩:=Yzz hs hn;simp only[yz8,jzu,qk];rw[h1];exact⟨_,rfl,h2⟩
open Go.Proofs
def MapF (m:azi):Prop:=(∀c∈m.Xb,c.length<=4194304)/\∀e∈m.Xd,e.Xm.Xo.length<=4194304/\oz4 e.Xm.Xo<=4194304
theorem Wz5 {l:List az6}(h1:l.length<=4194304)(h2:oz4 l<=4194304):PkF (Lzq l):=by
 obtain⟨q1,q2⟩:=Lzp l;obtain⟨-,q3⟩:=Yz3 (l:=l) (T:=(fzn l).1) (List.prefix_refl _);refine⟨by show(fzn l).1.length<=_;omega,by show(fzn l).2.length<=_;omega,λu hu=>?_⟩;have hm:=List.mem_map_of_mem (f:=unU (fzn l).1) (show u∈(fzn l).2 from hu);rw[q3]at hm;have:=az22 hm;have e:(unU (fzn l).1 u).Xf.length=u.Xn.length:=by simp[unU]
 omega
def prfE (e:az4)(u:Int):azq:=if u=e.U then Lzq e.Xm.Xo else revK (Lzq e.Xm.Xo)
theorem azbs {m:azi}(hf:MapF m){e:Nat}(he:e<m.Xd.length)(u:Int):PkF (prfE (m.Xd.getD e qv) u):=by
 obtain⟨h1,h2⟩:=hf.2 _ (bz3 he);unfold prfE;split
 ·exact Wz5 h1 h2
 ·exact azbt (Wz5 h1 h2)
theorem az94 {l:List az6}(h1:l.length<=4194304)(h2:oz4 l<=4194304):(gz5 l).o=some (Lzq l)/\(nzy l).o=some (Lzq l):=
 ⟨az2j l (by show _<4294967296;omega) (by show _<4294967296;omega) qa qa,Yzg l (by show _<4294967296;omega) (by show _<4294967296;omega) qa qa⟩
theorem WF.ends {m:azi}(hw:WF m){e:Nat}(he:e<m.Xd.length):(0<=(m.Xd.getD e qv).U/\(m.Xd.getD e qv).U<(m.Xb.length:Int))/\(0<=(m.Xd.getD e qv).V/\(m.Xd.getD e qv).V<(m.Xb.length:Int))/\(m.Xd.getD e qv).U<(m.Xd.getD e qv).V:=by
 have:=(hw e he).1;unfold yze at this;omega
theorem azcw {m:azi}(hf:MapF m){a b:Nat}(ha:a<m.Xb.length)(hb:b<m.Xb.length){y:azq}(hy:PkF y):PaF ⟨[m.Xb.getD a qv,m.Xb.getD b qv],[y]⟩:=by
 refine⟨by simp,λc hc=>?_,by simp,λz hz=>by simp at hz;subst hz;exact hy⟩;simp at hc;rcases hc with rfl|rfl
 ·exact hf.1 _ (bz3 ha)
 ·exact hf.1 _ (bz3 hb)
theorem az97 {m:azi}(hf:MapF m)(hw:WF m){e:Nat}(he:e<m.Xd.length)(u:Int):(Dz2 m (e:Int) u).o=some (prfE (m.Xd.getD e qv) u):=by
 obtain⟨h1,h2⟩:=hf.2 _ (bz3 he);obtain⟨w1,w2,w3⟩:=hw.ends he;show(uzf m (e:Int) u).run NN=_;simp only[uzf,qk,qG,(az94 h1 h2).1,qL];rw[aza qa];unfold prfE;by_cases hu:u=(m.Xd.getD e qv).U
 ·rw[qc hu,dzj hu]
 ·rw[qb hu,dze hu,aza w1,aza w2,az07 _ (azcw hf qa qa (Wz5 h1 h2))];simp only[qL];rw[aza (by simp[revP])];rfl
def edX (m:azi)(u v:Int):Option Nat:=by
 classical
 exact if h:∃e,e<m.Xd.length/\(m.Xd.getD e qv).U=min u v/\(m.Xd.getD e qv).V=max u v/\(m.Xd.getD e qv).Xq=1 then some h.choose else none
theorem Pzj {m:azi}{u v:Int}{e:Nat}(h:edX m u v=some e):e<m.Xd.length/\(m.Xd.getD e qv).U=min u v/\(m.Xd.getD e qv).V=max u v/\(m.Xd.getD e qv).Xq=1:=by
 unfold edX at h;split at h
 ·rename_i hx;cases h;exact hx.choose_spec
 ·cases h
theorem az4g {m:azi}{u v:Int}(h:edX m u v=none)(e:Nat)(he:e<m.Xd.length)(hu:(m.Xd.getD e qv).U=min u v)(hv:(m.Xd.getD e qv).V=max u v):(m.Xd.getD e qv).Xq≠1:=by
 unfold edX at h;split at h
 ·cases h
 ·rename_i hx;exact λhs=>hx ⟨e,he,hu,hv,hs⟩
abbrev ptE (m:azi)(v:Int):List Int:=m.Xb.getD v.toNat qv
abbrev atE (t:List Int)(i:Nat):Int:=t.getD i qv
def stpE (m:azi)(t:List Int)(i:Nat):azq:=prfE (m.Xd.getD ((edX m (atE t i) (atE t (i+1))).getD 0) qv) (atE t i)
def Szr (m:azi)(t:List Int):Prop:=WF m/\1<=t.length/\t.length<=256/\∀i,i<t.length->0<=atE t i/\atE t i<(m.Xb.length:Int)
def Dzk (s:azd)(m:azi)(t:List Int):czy×Bool:=by
 classical
 exact if Szr m t then(if t.length=1 then((bldV s 0 [ptE m (atE t 0),ptE m (atE t 0)]).1,(bldV s 0 [ptE m (atE t 0),ptE m (atE t 0)]).2.2==0)
  else if ∀i,i+1<t.length->(edX m (atE t i) (atE t (i+1))).isSome=true then(⟨t.map (ptE m),tab (stpE m t) (t.length-1)⟩,true)else(⟨nl,nl⟩,false))else(⟨nl,nl⟩,false)
theorem zzl {s:azd}{m:azi}{t:List Int}(h:¬Szr m t):Dzk s m t=(⟨nl,nl⟩,false):=by unfold Dzk;rw[qb h]
theorem Tzq {s:azd}{m:azi}{t:List Int}(h:Szr m t)(h1:t.length=1):Dzk s m t=((bldV s 0 [ptE m (atE t 0),ptE m (atE t 0)]).1,(bldV s 0 [ptE m (atE t 0),ptE m (atE t 0)]).2.2==0):=by
 unfold Dzk;rw[qc h,qc h1]
theorem Lzv {s:azd}{m:azi}{t:List Int}(h:Szr m t)(h1:t.length≠1)(h2:∀i,i+1<t.length->(edX m (atE t i) (atE t (i+1))).isSome=true):Dzk s m t=(⟨t.map (ptE m),tab (stpE m t) (t.length-1)⟩,true):=by
 unfold Dzk;rw[qc h,qb h1,qc h2]
theorem Tzp {s:azd}{m:azi}{t:List Int}(h1:t.length≠1){i:Nat}(hi:i+1<t.length)(h2:edX m (atE t i) (atE t (i+1))=none):Dzk s m t=(⟨nl,nl⟩,false):=by
 by_cases h:Szr m t
 ·unfold Dzk;rw[qc h,qb h1,qb (λhh=>by have:=hh i hi;rw[h2]at this;cases this)]
 ·exact zzl h
theorem nn5:100000<=NN:=by show 100000<=4294967296;decide
theorem azab (s:azd)(m:azi)(r:dzs)(hs:Bzo m)(hf:MapF m):(pzp s m r).o=some (Dzk s m r.Xr):=by
 obtain⟨t,cost⟩:=r;have e0:(pzp s m ⟨t,cost⟩).o=(pzq s m ⟨t,cost⟩).run NN:=rfl;obtain⟨wb,hwb,hwf⟩:=Gzm m hs (by have:=nn5;omega);suffices hh:∃y,(pzq s m ⟨t,cost⟩).run NN=some y/\y=Dzk s m t by
  obtain⟨y,h1,rfl⟩:=hh;rw[e0];exact h1
 have es:(⟨s.Xe,s.Xc,s.Xj⟩:azd)=s:=rfl;have em:(⟨m.Xb,m.Xd⟩:azi)=m:=rfl;have hs1:=hs.1;simp only[pzq,qk,es,em,hwb,qL,mz6];by_cases hlen:1<=t.length/\t.length<=256
 ·rw[az7 qa,az7 qa,az9];cases wb with
  |false=>exact⟨_,rfl,(zzl λh=>by have:=hwf.2 h.1;cases this).symm⟩
  |true=>
   have hw:=hwf.1 rfl;simp only[qO,qd]
   refine dzz (P:=λy=>y=Dzk s m t) (λk (x:List (List Int)×Int)=>∃j:Nat,x=((t.take j).map (ptE m),(j:Int))/\j+k=t.length/\∀i,i<j->0<=atE t i/\atE t i<(m.Xb.length:Int))
    (λy=>y=t.map (ptE m)/\Szr m t) t.length ⟨0,by simp[nl],qa,λi hi=>qa⟩ qa ?_ ?_
   ·rintro k x ⟨j,rfl,hj,hin⟩;by_cases hlt:j<t.length
    ·rw[az8 qa,aza qa,qG];by_cases hp:0<=t.getD j qv/\t.getD j qv<(m.Xb.length:Int)
     ·left;have hc:=hf.1 _ (bz3 (l:=m.Xb) (i:=(t.getD j qv).toNat) qa);simp only[qg hp,qO,qd];rw[aza hp,Lz6 _ qa,qL,aza ⟨by simp;omega,by simp[azc];omega⟩,wn qa];refine⟨_,k-1,rfl,qa,j+1,?_,qa,λi hi=>?_⟩
      ·rw[izn hlt]
      ·by_cases e:i=j
       ·subst e;exact hp
       ·exact hin i qa
     ·right;right;simp only[qh hp,xp,qe];exact⟨_,rfl,(zzl λh=>hp (h.2.2.2 j hlt)).symm⟩
    ·right;left;have:j=t.length:=qa
     subst this;rw[az7 qa];exact⟨_,rfl,by rw[List.take_of_length_le (wz _)],hw,hlen.1,hlen.2,hin⟩
   ·rintro y ⟨rfl,hg⟩;have hlm:(t.map (ptE m)).length=t.length:=by simp
    have z0:(0:Int).toNat=0:=rfl;by_cases h1:t.length=1
    ·have hz:(t.map (ptE m)).getD 0 qv=ptE m (atE t 0):=zz4 qa;rw[show(((t.length:Nat):Int)==1)=true by rw[h1];rfl,qe,z0,aza qa,aza qa,aza qa,aza qa,hz,Tzr s (by decide) (by decide)];exact⟨_,rfl,(Tzq hg h1).symm⟩
    ·have z1:(1:Int).toNat=1:=rfl;have tl:((t.drop 1).take (t.length-1)).length=t.length-1:=by simp
     have tg:∀i,i+1<t.length->((t.drop 1).take (t.length-1)).getD i qv=atE t (i+1):=λi hi=>by
      simp only[wm];rw[List.getElem?_take_of_lt qa,List.getElem?_drop,zp 1 i]
     rw[show(((t.length:Nat):Int)==1)=false by simp;omega,qd];simp only[z1,qG,tl];rw[aza qa]
     refine dzz (P:=λy=>y=Dzk s m t) (λk (x:List azq×Int)=>∃j:Nat,x=(tab (stpE m t) j,(j:Int))/\j+k=t.length-1/\∀i,i<j->(edX m (atE t i) (atE t (i+1))).isSome=true)
      (λy=>y=tab (stpE m t) (t.length-1)/\∀i,i+1<t.length->(edX m (atE t i) (atE t (i+1))).isSome=true) (t.length-1) ⟨0,rfl,qa,λi hi=>qa⟩ qa ?_ ?_
     ·rintro k x ⟨j,rfl,hj,hin⟩;by_cases hlt:j<t.length-1
      ·rw[az8 qa,aza qa,aza qa,qG,tg j qa];cases hx:edX m (atE t j) (atE t (j+1))with
       |some e=>
        obtain⟨e1,e2,e3,e4⟩:=Pzj hx;left;rw[Gzr hs hw e1 e2 e3 nn5];simp only[qL,qO,qd,qG];rw[aza qa,az9,bza e4,az97 hf hw e1,qL,aza ⟨by simp[cz8];omega,by simp[cz8,azc];omega⟩,wn qa];refine⟨_,k-1,rfl,qa,j+1,?_,qa,λi hi=>?_⟩
        ·rw[izx];unfold stpE;rw[hx];rfl
        ·by_cases e:i=j
         ·subst e;rw[hx];rfl
         ·exact hin i qa
       |none=>
        right;right;have hbad:=(Tzp (s:=s) h1 (show j+1<t.length from qa) hx).symm;by_cases hex:∃e,e<m.Xd.length/\(m.Xd.getD e qv).U=min (atE t j) (atE t (j+1))/\(m.Xd.getD e qv).V=max (atE t j) (atE t (j+1))
        ·obtain⟨e,e1,e2,e3⟩:=hex;have e4:=az4g hx e e1 e2 e3;rw[Gzr hs hw e1 e2 e3 nn5];simp only[qL,qO,qd,qG];rw[aza qa,az9,bzn e4];exact⟨_,rfl,hbad⟩
        ·obtain⟨q,q1,q2⟩:=Yzy hs (x:=atE t j) (y:=atE t (j+1)) (λe he h=>hex ⟨e,he,h⟩);rw[q1];simp only[qL,q2,xp,qe,az9];exact⟨_,rfl,hbad⟩
      ·right;left;rw[az7 qa];have:j=t.length-1:=qa
       subst this;exact⟨_,rfl,rfl,λi hi=>hin i qa⟩
     ·rintro y ⟨rfl,hall⟩;exact⟨_,rfl,(Lzv hg h1 hall).symm⟩
 ·have hbad:=(zzl (s:=s) (m:=m) (t:=t) λh=>hlen ⟨h.2.1,h.2.2.1⟩).symm;by_cases h1:((t.length:Nat):Int)<1
  ·rw[az8 h1,az9];exact⟨_,rfl,hbad⟩
  ·rw[az7 h1,az8 qa,az9];exact⟨_,rfl,hbad⟩
open Go.Proofs
open Go.Proofs
open Go.Proofs
theorem az95 {s:azd}{m:azi}{t:List Int}(hf:MapF m):PaF (Dzk s m t).1:=by
 have nilF:PaF ⟨nl,nl⟩:=⟨by simp[nl],λc hc=>(by cases hc),by simp[nl],λe he=>(by cases he)⟩;by_cases hg:Szr m t
 ·by_cases h1:t.length=1
  ·rw[Tzq hg h1];exact(az7r s (by decide) (by decide) _).f
  ·by_cases h2:∀i,i+1<t.length->(edX m (atE t i) (atE t (i+1))).isSome=true
   ·rw[Lzv hg h1 h2];have h256:=hg.2.2.1;refine⟨by simp;omega,λc hc=>?_,by simp[cz8];omega,λy hy=>?_⟩
    ·obtain⟨v,hv,rfl⟩:=zd.1 hc;obtain⟨i,hi,rfl⟩:=wD hv;have hp:=hg.2.2.2 i hi;have e:atE t i=t[i]:=by show t.getD i qv=_;simp[wm,wE hi]
     rw[e]at hp;exact hf.1 _ (bz3 (l:=m.Xb) (i:=t[i].toNat) qa)
    ·obtain⟨i,hi,rfl⟩:=zd.1 hy;have hi:=List.mem_range.1 hi;have hx:=h2 i qa;unfold stpE;cases he:edX m (atE t i) (atE t (i+1))with
     |none=>rw[he]at hx;cases hx
     |some e=>exact azbs hf (Pzj he).1 _
   ·have:∃i,i+1<t.length/\edX m (atE t i) (atE t (i+1))=none:=by
     refine Classical.byContradiction λhn=>h2 λi hi=>?_
     cases he:edX m (atE t i) (atE t (i+1))with
     |none=>exact absurd ⟨i,hi,he⟩ hn
     |some e=>rfl
    obtain⟨i,hi,he⟩:=this;rw[Tzp h1 hi he];exact nilF
 ·rw[zzl hg];exact nilF
open Go.Proofs
theorem azbv {p:azq}(h:PkF p):(nzg p).o=some (ez1 p):=by
 have hu:az6r 4194304 p.Xv:=⟨h.2.1,h.2.2⟩;exact Zzy 4194304 p (by show 4194304<4294967296;decide) (by decide) hu
theorem Yzb (s:azd)(x:czy)(hx:PaF x):∃y,(izt s x).o=some y/\(y.2=0↔OkG s x):=by
 obtain⟨-,-,he,hp⟩:=hx;have es:(⟨s.Xe,s.Xc,s.Xj⟩:azd)=s:=rfl;have e0:(izt s x).o=(mzm s x).run NN:=rfl;rw[e0];simp only[mzm,qk,es,Mz1,qL];by_cases k:(Gzs s x.Xb).2=0
 ·obtain⟨hc,h2⟩:=Vza k;have hl:=hc.1;rw[bza k];by_cases k2:x.Xd.length+1=x.Xb.length
  ·rw[bza (by rw[w64 qa qa];omega)]
   refine dzz (P:=λy:Int×Int=>(y.2=0↔OkG s x)) (λm (y:Int)=>∃j:Nat,y=(j:Int)/\j+m=x.Xd.length/\∀i,i<j->(ez1 (x.Xd.getD i qv)).2=true/\(gzs s (x.Xb.getD i qv) (x.Xb.getD (i+1) qv) (ez1 (x.Xd.getD i qv)).1).2=0)
    (λ_=>∀i,i<x.Xd.length->(ez1 (x.Xd.getD i qv)).2=true/\(gzs s (x.Xb.getD i qv) (x.Xb.getD (i+1) qv) (ez1 (x.Xd.getD i qv)).1).2=0) x.Xd.length ⟨0,rfl,qa,λi hi=>qa⟩ qa ?_ (λ_ hz=>⟨_,rfl,λ_=>⟨k,qa,hz⟩,λ_=>rfl⟩)
   rintro m _ ⟨j,rfl,hm,hz⟩;cases m with
   |zero=>exact .inr (.inl ⟨_,by rw[az7 qa],λi hi=>hz i qa⟩)
   |succ m=>
    have ue:=azbv (hp _ (bz3 (show j<x.Xd.length from qa)));have l1:=hc.get (show j<x.Xb.length from qa);have l2:=hc.get (show j+1<x.Xb.length from qa);rw[az8 qa,aza qa,qG,ue];simp only[qL];cases hu:(ez1 (x.Xd.getD j qv)).2 with
    |false=>exact .inr (.inr ⟨_,rfl,λh=>(by cases h),λh=>absurd (h.2.2 j qa).1 (by rw[hu];decide)⟩)
    |true=>
     simp only[qO,qd,wn (show j<4294967296 from qa),qG];rw[aza qa,aza qa,vz4 s _ _ _ qa qa];simp only[qL];by_cases k3:(gzs s (x.Xb.getD j qv) (x.Xb.getD (j+1) qv) (ez1 (x.Xd.getD j qv)).1).2=0
     ·rw[bza k3];refine .inl ⟨_,m,rfl,xj m,j+1,rfl,qa,λi hi=>?_⟩;by_cases ei:i=j
      ·subst ei;exact⟨hu,k3⟩
      ·exact hz i qa
     ·rw[bzn k3];exact .inr (.inr ⟨_,rfl,λh=>absurd h k3,λh=>absurd (h.2.2 j qa).2 k3⟩)
  ·rw[bzn (by rw[w64 qa qa];omega)];exact⟨_,rfl,λh=>(by cases h),λh=>absurd h.2.1.symm k2⟩
 ·rw[bzn k];exact⟨_,rfl,λh=>absurd h k,λh=>absurd h.1 k⟩
def wayD (r:azn)(c:List (List Int)):Nat->Int
 |0=>0
 |n+1=>wayD r c n+dstV r (c.getD n qv) (c.getD (n+1) qv)
theorem az7i {r:azn}(hv:dz1 r=0){c:List (List Int)}(h:∀i,i<c.length->azx r (c.getD i qv)=true):∀n,n<c.length->0<=wayD r c n/\wayD r c n<=(n:Int) * 1099511627776
 |0,_=>⟨xi _,by show(0:Int)<=_;omega⟩
 |n+1,hn=>by
  obtain⟨b,d⟩:=az7i hv h n qa;have e:=az0r hv (h n qa) (h (n+1) hn);simp only[wayD];generalize dstV r (c.getD n qv) (c.getD (n+1) qv)=t at e⊢;generalize wayD r c n=w at b d⊢;omega
theorem Zz9 {r:azn}{p q:List Int}(hp:azx r p=true)(hq:azx r q=true):dstV r p q=sumI r p q r.Xa.length:=by
 obtain⟨s1,l1,l2,hv⟩:=iz9 hp;obtain⟨s2,l3,l4,-⟩:=iz9 hq;have hb:badD r p q=false:=by
  unfold badD;rw[qg l1,qg l3,s1,s2,qg hv];rfl
 have he:dstV r p q=sumD r p q r.Xa.length:=by unfold dstV;rw[hb];rfl
 rw[he];exact(azc4 hv hp hq _ (wz _)).1
theorem Yzm (r:azn)(p q:List Int):∀n,sumI r p q n=sumI r q p n
 |0=>rfl
 |n+1=>by
  simp only[sumI,Yzm r p q n];congr 2;omega
theorem az85 {r:azn}{p q:List Int}(hp:azx r p=true)(hq:azx r q=true):dstV r p q=dstV r q p:=by
 rw[Zz9 hp hq,Zz9 hq hp];exact Yzm r p q _
theorem az86 {r:azn}{p m q:List Int}(hp:azx r p=true)(hm:azx r m=true)(hq:azx r q=true):dstV r p q<=dstV r p m+dstV r m q:=by
 have hv:=(iz9 hp).2.2.2;rw[Zz9 hp hq,Zz9 hp hm,Zz9 hm hq];exact az3n hv p m q _ (wz _)
theorem az4f {r:azn}{p:List Int}(hp:azx r p=true):dstV r p p=0:=by
 rw[Zz9 hp hp];exact Yzn r p _
theorem Pz0 {r:azn}{c:List (List Int)}(h:∀i,i<c.length->azx r (c.getD i qv)=true):∀n,n<c.length->dstV r (c.getD 0 qv) (c.getD n qv)<=wayD r c n
 |0,hn=>by rw[az4f (h 0 hn)];exact xi _
 |n+1,hn=>by
  have ih:=Pz0 h n qa;have t:=az86 (h 0 qa) (h n qa) (h (n+1) hn);simp only[wayD];omega
theorem Wzk (s:azd)(x:czy)(hx:PaF x)(ok:OkG s x):(Czp s x).o=some (wayD s.Xe x.Xb x.Xd.length):=by
 obtain⟨y,y1,y2⟩:=Yzb s x hx;obtain⟨k1,k2,k3⟩:=chkPV_iff.1 ok.1;have hE:=ok.2.1;have hv:=(iz9 (k3 0 qa)).2.2.2;show(tzp s x).run NN=_;simp only[tzp,qk,y1,qL];rw[bza (y2.2 ok)];refine(bzv (λj=>(wayD s.Xe x.Xb j,((j+1:Nat):Int))) (wayD s.Xe x.Xb x.Xd.length) x.Xd.length rfl (by show _<4294967296;omega) (λj hj=>?_) ?_).trans rfl
 ·have e1:qu.wrap (((j+1:Nat):Int)-1)=(j:Int):=by rw[w64 qa qa];omega
  have l1:=hx.2.1 _ (bz3 (l:=x.Xb) (i:=j) qa);have l2:=hx.2.1 _ (bz3 (l:=x.Xb) (i:=j+1) qa);have b:=(az7i hv k3 j qa);have b2:=az0r hv (k3 j qa) (k3 (j+1) qa);simp only[e1,qG];rw[az8 qa,aza qa,aza qa,Fzs _ _ _ qa qa];simp only[qL];rw[wn qa,w64 qa qa];rfl
 ·rw[az7 qa]
theorem Yzq (r:azn)(a b:List Int)(c:List (List Int)):∀n,wayD r (a::b::c) (n+1)=dstV r a b+wayD r (b::c) n
 |0=>by simp[wayD]
 |n+1=>by
  have ih:=Yzq r a b c n;rw[wayD,ih];show _=dstV r a b+(wayD r (b::c) n+dstV r ((b::c).getD n qv) ((b::c).getD (n+1) qv));have e1:(a::b::c).getD (n+1) qv=(b::c).getD n qv:=by simp
  have e2:(a::b::c).getD (n+1+1) qv=(b::c).getD (n+1) qv:=by simp
  rw[e1,e2];omega
theorem az9c {r:azn}{P:List (List Int)}{E:Int->Int->Int->Prop}{t v n C:Int}{l:List Int}(g:Graph E n C)(hE:∀u w c,E u w c->c=dstV r (P.getD u.toNat qv) (P.getD w.toNat qv))(h:Rt E t v l):∀ {c k:Int},Best E t v c k->c=wayD r ((v::l).map λv=>P.getD v.toNat qv) l.length:=by
 induction h with
 |nil=>
  intro c k hb;obtain⟨rfl,-⟩:=hb.unique (Best.self g);rfl
 |cons hv hn hr ih=>
  intro c k hb;obtain⟨c',k',e,h1,h2,h3⟩:=hn.1;obtain⟨rfl,rfl⟩:=hb.unique h1;have:=ih h3;simp only[xN,wB];rw[Yzq,<-hE _ _ _ h2];simp only[xN]at this;omega
theorem az9d {E:Int->Int->Int->Prop}{t v:Int}{l:List Int}(h:Rt E t v l):(v::l).getD l.length qv=t:=by
 induction h with
 |nil=>rfl
 |cons _ _ _ ih=>simpa using ih
theorem azc6 (s:azd){P:List (List Int)}{x:az4}{d:Int}(h0:0<=d)(h20:d<=20)(hp:∀c∈P,c.length<=10)(hU:x.U.toNat<P.length)(hV:x.V.toNat<P.length):((tstE s P d x).Xm.Xo.length<=4194304/\oz4 (tstE s P d x).Xm.Xo<=4194304)/\
 ((tstE s P d x).Xq=1->(gzs s (P.getD x.U.toNat qv) (P.getD x.V.toNat qv) (tstE s P d x).Xm.Xo).2=0):=by
 have h1:=hp _ (bz3 hU);have h2:=hp _ (bz3 hV);obtain⟨-,ok⟩:=az99 s (P.getD x.U.toNat qv) (P.getD x.V.toNat qv) qa qa h0 h20;have hb:=ok.bd;have ht:=Tzv hb;have hl:=hb.1;have e:(tstE s P d x).Xm=pvR s (P.getD x.U.toNat qv) (P.getD x.V.toNat qv) d:=rfl;rw[e];refine⟨⟨qa,qa⟩,λhs=>Lzy h0 h20 ok ?_⟩;have hs:stV (pvR s (P.getD x.U.toNat qv) (P.getD x.V.toNat qv) d).Xl=1:=hs;unfold stV at hs;split at hs
 ·assumption
 ·split at hs<;>omega
open Go.Proofs
theorem az14 (f:Int->List Int){l:List Int}{i:Nat}(h:i<l.length):(l.map f).getD i qv=f (l.getD i qv):=by
 simp[wm,wE h]
structure Cert (s:azd) (P:List (List Int)) (E G:List az4) (d:Int):Prop where
 d0:0<=d
 d20:d<=20
 hz:∀j,j<E.length->(E.getD j qv).Xq=0
 hG:G.length=E.length
 hE2:E.length<=200
 hP1:P.length<=100
 ho:∀j,j<E.length->(G.getD j qv=E.getD j qv\/G.getD j qv=tstE s P d (E.getD j qv))
 hc:∀j,j<E.length->(E.getD j qv).Xu=dstV s.Xe (P.getD (E.getD j qv).U.toNat qv) (P.getD (E.getD j qv).V.toNat qv)
 hn0:∀j,j<E.length->(E.getD j qv).Xm.Xo=nl
 hsv:czd s=0
 hin:∀c∈P,azx s.Xe c=true
 hw:WF ⟨P,E⟩
section
variable {s:azd} {P:List (List Int)} {E G:List az4} {d:Int}
theorem az0j (h:Cert s P E G d):WF ⟨P,G⟩:=by
 obtain⟨d0,d20,hz,hG,hE2,hP1,ho,hc,hn0,hsv,hin,hw⟩:=h;refine aza2 hG (λj hj=>?_) hw;rcases ho j hj with q|q
 ·rw[q];exact⟨rfl,rfl,rfl⟩
 ·rw[q];exact Yzp s P d _
theorem Rzy (h:Cert s P E G d){j:Nat}(hj:j<E.length):(G.getD j qv).U=(E.getD j qv).U/\(G.getD j qv).V=(E.getD j qv).V/\(G.getD j qv).Xu=(E.getD j qv).Xu:=by
 rcases h.ho j hj with q|q
 ·rw[q];exact⟨rfl,rfl,rfl⟩
 ·rw[q];exact Yzp s P d _
theorem Vz9 (h:Cert s P E G d){j:Nat}(hj:j<E.length):0<=(E.getD j qv).U/\(E.getD j qv).U<(E.getD j qv).V/\(E.getD j qv).V<(P.length:Int):=by
 obtain⟨o1,o2,o3,-,-⟩:=(h.hw j hj).1;exact⟨o1,o2,o3⟩
theorem az48 (h:Cert s P E G d):MapF ⟨P,G⟩:=by
 obtain⟨d0,d20,hz,hG,hE2,hP1,ho,hc,hn0,hsv,hin,hw⟩:=h;have h10:∀c∈P,c.length<=10:=λc hc=>(hzm (hin c hc)).2
 refine⟨λc hc=>by have:=h10 c hc;omega,λe he=>?_⟩;have he:e∈G:=he;obtain⟨q,hq,rfl⟩:=wD he;have hq':q<E.length:=qa
 obtain⟨o1,o2,o3⟩:=Vz9 ⟨d0,d20,hz,hG,hE2,hP1,ho,hc,hn0,hsv,hin,hw⟩ hq';have e0:G[q]=G.getD q qv:=by rw[wm,wE hq,wF]
 rw[e0];rcases ho q hq' with h|h
 ·rw[h,hn0 q hq'];exact⟨by decide,by decide⟩
 ·rw[h];exact(azc6 s d0 d20 h10 qa qa).1
theorem az7t (h:Cert s P E G d){x y:Int}(hx:0<=x/\x<(P.length:Int))(hy:0<=y/\y<(P.length:Int))(hxy:x≠y)(h1:(nxV P x y G).2.2.2=1):
 ∃z,Dzk s ⟨P,G⟩ (nxV P x y G).2.1=(z,true)/\OkG s z/\z.Xb.getD 0 qv=P.getD x.toNat qv/\z.Xb.getD (z.Xb.length-1) qv=P.getD y.toNat qv/\
  wayD s.Xe z.Xb z.Xd.length=(nxV P x y G).2.2.1/\dstV s.Xe (P.getD x.toNat qv) (P.getD y.toNat qv)<=(nxV P x y G).2.2.1:=by
 obtain⟨d0,d20,hz,hG,hE2,hP1,ho,hc,hn0,hsv,hin,hw⟩:=h;have hsG:Bzo ⟨P,G⟩:=⟨hP1,by show G.length<=200;omega⟩;have hwG:WF ⟨P,G⟩:=az0j ⟨d0,d20,hz,hG,hE2,hP1,ho,hc,hn0,hsv,hin,hw⟩;have h10:∀c∈P,c.length<=10:=λc hc=>(hzm (hin c hc)).2
 obtain⟨-,hnx,hp⟩:=az2c x y hsG;have hlen:=hnx.len;generalize nxV P x y G=z at h1 hp hlen⊢;obtain⟨ze,zv,zc,zs⟩:=z;simp only at h1 hp hlen⊢;subst h1;have key:∃k l,Best (Eg ⟨P,G⟩ 1) y x zc k/\Rt (Eg ⟨P,G⟩ 1) y x l/\zv=x::l/\∀i,i+1<(x::l).length->∀e,EI ⟨P,G⟩ (x::l) i e->(G.getD e qv).Xq≠0:=by
  rcases hp with⟨h,-⟩|⟨ha,rt,hrt,⟨q1,q2⟩|⟨q1,q2⟩⟩
  ·exact absurd ⟨hwG,hx,hy⟩ h
  ·simp only[Prod.mk.injEq]at q2;exact absurd q2.2.2 (by decide)
  ·rcases q2 with⟨q2,q3⟩|⟨i,e,-,-,-,q2,-⟩
   ·rcases hrt with⟨h,-⟩|⟨-,c,k,l,b1,b2,b3⟩
    ·rw[h]at q1;cases q1
    ·rw[b3]at q2 q3;simp only[Prod.mk.injEq,dzs.mk.injEq]at q2;obtain⟨-,⟨rfl,rfl⟩,-⟩:=q2;exact⟨k,l,b1,b2,rfl,q3⟩
   ·simp only[Prod.mk.injEq]at q2;exact absurd q2.2.2 (by decide)
 obtain⟨k,l,hb,hr,rfl,h0⟩:=key;have g:=Eg.graph hwG 1;have hl0:l≠[]:=λh=>by
  subst h;cases hr;exact hxy rfl
 have hll:0<l.length:=by cases l with|nil=>exact absurd rfl hl0|cons=>simp
 simp only[wB]at hlen h0;have hv:∀i,i<l.length+1->0<=(x::l).getD i qv/\(x::l).getD i qv<(P.length:Int):=λi hi=>by
  by_cases hi2:i<l.length
  ·obtain⟨c,hh⟩:=hr.adj i hi2;obtain⟨a1,a2,-,-⟩:=g.lt _ _ _ hh;exact⟨a1,a2⟩
  ·obtain⟨c,hh⟩:=hr.adj (i-1) qa;obtain⟨-,-,a1,a2⟩:=g.lt _ _ _ hh;rw[show i-1+1=i from qa]at a1 a2;exact⟨a1,a2⟩
 have hgd:Szr ⟨P,G⟩ (x::l):=⟨hwG,by simp,by simp only[wB];omega,λi hi=>hv i (by simpa using hi)⟩;have hst:∀i,i<l.length->∃e:Nat,edX ⟨P,G⟩ ((x::l).getD i qv) ((x::l).getD (i+1) qv)=some e:=λi hi=>by
  obtain⟨c,j,a1,a2,a3,a4⟩:=hr.adj i hi;have a1:j<G.length:=a1;have a2:Ez7 (G.getD j qv).Xq 1=true:=a2;have a4:(G.getD j qv).U=(x::l).getD i qv/\(G.getD j qv).V=(x::l).getD (i+1) qv\/(G.getD j qv).U=(x::l).getD (i+1) qv/\(G.getD j qv).V=(x::l).getD i qv:=a4;obtain⟨o1,o2,o3,-,-⟩:=(hwG j a1).1;have o2:(G.getD j qv).U<(G.getD j qv).V:=o2;have hU:(G.getD j qv).U=min ((x::l).getD i qv) ((x::l).getD (i+1) qv):=qa
  have hV:(G.getD j qv).V=max ((x::l).getD i qv) ((x::l).getD (i+1) qv):=qa
  have hs:=h0 i qa j ⟨a1,hU,hV⟩;have h1:(G.getD j qv).Xq=1:=by
   unfold Ez7 at a2;rw[qb (by decide),qc rfl]at a2;simp only[qZ,qj]at a2;omega
  have hex:∃e,e<(⟨P,G⟩:azi).Xd.length/\((⟨P,G⟩:azi).Xd.getD e qv).U=min ((x::l).getD i qv) ((x::l).getD (i+1) qv)/\((⟨P,G⟩:azi).Xd.getD e qv).V=max ((x::l).getD i qv) ((x::l).getD (i+1) qv)/\((⟨P,G⟩:azi).Xd.getD e qv).Xq=1:=⟨j,a1,hU,hV,h1⟩;refine⟨hex.choose,?_⟩;unfold edX;exact dif_pos hex
 have hpv:=Lzv (s:=s) hgd (by simp only[wB];omega) (λi hi=>by
  obtain⟨e,he⟩:=hst i (by simpa using hi);show(edX _ ((x::l).getD i qv) ((x::l).getD (i+1) qv)).isSome=true;rw[he];rfl)
 have hpt:∀i,i<l.length+1->((x::l).map (ptE ⟨P,G⟩)).getD i qv=P.getD ((x::l).getD i qv).toNat qv:=λi hi=>az14 _ (by simpa using hi)
 have hpi:∀i,i<l.length+1->azx s.Xe (((x::l).map (ptE ⟨P,G⟩)).getD i qv)=true:=λi hi=>by
  rw[hpt i hi];have:=hv i hi;exact hin _ (bz3 qa)
 have hlast:(x::l).getD l.length qv=y:=az9d hr;have hcost:zc=wayD s.Xe ((x::l).map (ptE ⟨P,G⟩)) l.length:=az9c g (r:=s.Xe) (P:=P) (λu w c hh=>by
  obtain⟨j,a1,a2,a3,a4⟩:=hh;have a1:j<G.length:=a1;have a1':j<E.length:=qa
  have a3:(G.getD j qv).Xu=c:=a3;have a4:(G.getD j qv).U=u/\(G.getD j qv).V=w\/(G.getD j qv).U=w/\(G.getD j qv).V=u:=a4;obtain⟨t1,t2,t3⟩:=Rzy ⟨d0,d20,hz,hG,hE2,hP1,ho,hc,hn0,hsv,hin,hw⟩ a1';obtain⟨o1,o2,o3⟩:=Vz9 ⟨d0,d20,hz,hG,hE2,hP1,ho,hc,hn0,hsv,hin,hw⟩ a1';have hc':=hc j a1';rw[t1,t2]at a4;rcases a4 with⟨rfl,rfl⟩|⟨rfl,rfl⟩
  ·rw[<-a3,t3];exact hc'
  ·rw[<-a3,t3,hc'];exact az85 (hin _ (bz3 qa)) (hin _ (bz3 qa))) hr hb
 refine⟨_,hpv,⟨?_,?_,?_⟩,?_,?_,?_,?_⟩
 ·refine chkPV_iff.2 ⟨hsv,by simp only[zf,wB];omega,λi hi=>hpi i (by simpa using hi)⟩
 ·simp only[zf,wB,cz8];omega
 ·intro i hi;simp only[wB,cz8,wI]at hi;simp only[hpt i qa,hpt (i+1) qa];rw[hzx (by simpa using hi)];obtain⟨e,he⟩:=hst i hi;obtain⟨e1,e2,e3,e4⟩:=Pzj he;have e1:e<G.length:=e1;have e1':e<E.length:=qa
  have e4:(G.getD e qv).Xq=1:=e4;have e2:(G.getD e qv).U=min ((x::l).getD i qv) ((x::l).getD (i+1) qv):=e2;have e3:(G.getD e qv).V=max ((x::l).getD i qv) ((x::l).getD (i+1) qv):=e3;have hse:stpE ⟨P,G⟩ (x::l) i=prfE (G.getD e qv) ((x::l).getD i qv):=by
   unfold stpE;show prfE (G.getD ((edX ⟨P,G⟩ ((x::l).getD i qv) ((x::l).getD (i+1) qv)).getD 0) qv) _=_;rw[he];rfl
  rw[hse];obtain⟨o1,o2,o3⟩:=Vz9 ⟨d0,d20,hz,hG,hE2,hP1,ho,hc,hn0,hsv,hin,hw⟩ e1';obtain⟨t1,t2,-⟩:=Rzy ⟨d0,d20,hz,hG,hE2,hP1,ho,hc,hn0,hsv,hin,hw⟩ e1';rcases ho e e1' with q|q
  ·rw[q,hz e e1']at e4;cases e4
  ·have hck:=(azc6 s (x:=E.getD e qv) d0 d20 h10 qa qa).2 (by rw[<-q];exact e4);rw[<-q]at hck;rw[<-t1,<-t2,e2,e3]at hck;have hrt:ez1 (Lzq (G.getD e qv).Xm.Xo)=((G.getD e qv).Xm.Xo,true):=Ozt _;unfold prfE;by_cases hd:(x::l).getD i qv=(G.getD e qv).U
   ·rw[qc hd,hrt];refine⟨rfl,?_⟩;rw[show min ((x::l).getD i qv) ((x::l).getD (i+1) qv)=(x::l).getD i qv from qa,show max ((x::l).getD i qv) ((x::l).getD (i+1) qv)=(x::l).getD (i+1) qv from qa]at hck;exact hck
   ·rw[qb hd];rw[show min ((x::l).getD i qv) ((x::l).getD (i+1) qv)=(x::l).getD (i+1) qv from qa,show max ((x::l).getD i qv) ((x::l).getD (i+1) qv)=(x::l).getD i qv from qa]at hck;have hco:Rzo (G.getD e qv).Xm.Xo:=(check_iff.1 hck).2.1;obtain⟨u1,u2⟩:=az05 (y:=Lzq (G.getD e qv).Xm.Xo) (by rw[hrt]) (by rw[hrt];exact hco);rw[hrt]at u2;exact⟨u1,az27 u2 hck⟩
 ·exact hpt 0 qa
 ·show((x::l).map (ptE ⟨P,G⟩)).getD (((x::l).map (ptE ⟨P,G⟩)).length-1) qv=_;rw[zf,wB,wI,hpt l.length qa,hlast]
 ·simp only[wB,cz8,wI];exact hcost.symm
 ·have:=Pz0 (r:=s.Xe) (c:=(x::l).map (ptE ⟨P,G⟩)) (λi hi=>hpi i (by simpa using hi)) l.length (by simp);rw[hpt 0 qa,hpt l.length qa,hlast,<-hcost]at this;exact this
end
open Go.Proofs
theorem Bzu (l m:List Int)(n k fr t:Int)(hl:l.length<4294967296)(hm:m.length<4294967296):(dz8 l m n k fr t).o=some true:=by
 have es:∀s:azd,(⟨s.Xe,s.Xc,s.Xj⟩:azd)=s:=λ_=>rfl
 have em:∀m:azi,(⟨m.Xb,m.Xd⟩:azi)=m:=λ_=>rfl
 have ep:∀m:czy,(⟨m.Xb,m.Xd⟩:czy)=m:=λ_=>rfl
 suffices hh:∃b,(hz4 l m n k fr t).run NN=some b/\b=true by
  obtain⟨b,b1,b2⟩:=hh;rw[<-b2];exact b1
 obtain⟨s,e1,hr,hv,hsv⟩:=Tz7 l hl;have e2:(fzd n 6).o=some (n % 6):=nzq (by decide) (by decide);have e3:(fzd k 3).o=some (k % 3):=nzq (by decide) (by decide);obtain⟨cn,hcn⟩:∃cn:Nat,n % 6=(cn:Int):=⟨(n % 6).toNat,qa⟩;have w2:qu.wrap (2+(cn:Int))=((2+cn:Nat):Int):=by rw[w64 qa qa];omega
 obtain⟨pts,e5,lp,hp⟩:=Nza s.Xe (2+cn) qa m hm hr hv;obtain⟨a,e6,ha,a0,a7,a49,S,es',a2,a4⟩:=azbe s.Xe pts (qu.wrap (1+k % 3)) qa qa hv hp;have hin:∀c∈a.Xb,azx s.Xe c=true:=by
  obtain⟨a',p1,-,p3⟩:=Yz0 s.Xe pts (qu.wrap (1+k % 3)) qa (λc hc=>by have:=hzm (hp c hc);omega);rw[e6]at p1;injection p1 with p1
  rw[p1,(p3 hv).1];exact Gzx s.Xe pts _
 have hwf:WF ⟨a.Xb,a.Xd⟩:=az8v hv hin a2 a4;have e7:(fzd fr (a.Xb.length:Int)).o=some (fr % (a.Xb.length:Int)):=nzq qa qa;have e8:(fzd t (a.Xb.length:Int)).o=some (t % (a.Xb.length:Int)):=nzq qa qa;have hx:0<=fr % (a.Xb.length:Int)/\fr % (a.Xb.length:Int)<(a.Xb.length:Int):=⟨xf _ qa,xg _ qa⟩;have hy:0<=t % (a.Xb.length:Int)/\t % (a.Xb.length:Int)<(a.Xb.length:Int):=⟨xf _ qa,xg _ qa⟩;generalize fr % (a.Xb.length:Int)=x at e7 hx;generalize t % (a.Xb.length:Int)=y at e8 hy;have hnew:∀j,j<a.Xd.length->∃u v:Nat,a.Xd.getD j qv=newE s.Xe a.Xb u v:=λj hj=>by
  have:=bz3 hj;rw[a2]at this;obtain⟨u,v,-,-,-,h⟩:=(a4.2 _).1 (zb this);rw[<-a2]at h;exact⟨u,v,h⟩
 have hsc:=gz1 s;rw[hsv]at hsc;obtain⟨K,k1,k2,k3⟩:=stops (s:=s) (d:=4) (x:=x) (y:=y) (by decide) (by decide) _ _ ha (wz _);have hu:=aza1 a.Xd;have hor:=azb1 (x:=x) (y:=y) (by decide) (by decide) ha k2 K (wz _);have hok:=Xzr (x:=x) (y:=y) (by decide) (by decide) ha k2 K (wz _);have hGl:(itE s a.Xb x y 4 a.Xd K).length=a.Xd.length:=hok.len
 have hC:Cert s a.Xb a.Xd (itE s a.Xb x y 4 a.Xd K) 4:=⟨by decide,by decide,λj hj=>by obtain⟨u,v,h⟩:=hnew j hj;rw[h];rfl,hGl,qa,qa,hor,
  λj hj=>by obtain⟨u,v,h⟩:=hnew j hj;rw[h];rfl,λj hj=>by obtain⟨u,v,h⟩:=hnew j hj;rw[h];rfl,hsv,hin,hwf⟩
 have z1:(xzb s a x y 4 100).o=_:=azb8 s a x y (d:=4) (by decide) (by decide) ha hsc k2 k3 qa 100;rw[qc qa]at z1;have hsG:Bzo ⟨a.Xb,itE s a.Xb x y 4 a.Xd K⟩:=⟨by show a.Xb.length<=100;omega,by show(itE s a.Xb x y 4 a.Xd K).length<=200;omega⟩;obtain⟨-,hnx,hnp⟩:=az2c x y hsG;have hF:=az48 hC;have cok:=λhxy=>az7t hC hx hy hxy
 have z0:(nxV a.Xb x y (itE s a.Xb x y 4 a.Xd K)).2.2.2≠0:=by
  intro h0;rcases hnp with⟨h,-⟩|⟨-,rt,-,⟨-,q⟩|⟨-,q⟩⟩
  ·exact absurd ⟨az0j hC,hx,hy⟩ h
  ·simp only[Prod.mk.injEq]at q;omega
  ·rcases q with⟨q,-⟩|⟨i,e,-,-,-,q,-⟩<;>simp only[Prod.mk.injEq]at q<;>omega
 have hst:=hnx.st;generalize itE s a.Xb x y 4 a.Xd K=G at cok hst z0 k3 hF hsG z1;unfold lzR at z1;generalize nxV a.Xb x y G=z at cok hst z0 k3 z1;obtain⟨ze,zv,zc,zs⟩:=z;simp only at cok hst z0 k3 z1;have z2:(pzp s ⟨a.Xb,G⟩ ⟨zv,zc⟩).o=some (Dzk s ⟨a.Xb,G⟩ zv):=azab s _ _ hsG hF;simp only[hz4,qk,es,em,ep,e1,e2,e3,hcn,w2,e5,e6,e7,e8,z1,z2,qL,az7o];by_cases h1:zs=1
 ·subst h1;by_cases hxy:x=y
  ·subst hxy;simp only[bne_self_eq_false,qd,beq_self_eq_true,qe,qL];exact⟨_,rfl,rfl⟩
  ·obtain⟨p,p1,p2,p3,p4,p5,p6⟩:=cok hxy rfl;have hPF:PaF p:=by have:=az95 (s:=s) (t:=zv) hF;rw[p1]at this;exact this
   obtain⟨w,w1,w2'⟩:=Yzb s p hPF;have hw0:=w2'.2 p2;obtain⟨-,⟨q1,q2⟩,q3⟩:=chkPV_iff.1 p2.1;have l1:(a.Xb.getD x.toNat qv).length<=10:=(hzm (hin _ (bz3 qa))).2;have l2:(a.Xb.getD y.toNat qv).length<=10:=(hzm (hin _ (bz3 qa))).2;have wl:qu.wrap ((p.Xb.length:Int)-1)=((p.Xb.length-1:Nat):Int):=by rw[w64 qa qa];omega
   have s1:(gzo (p.Xb.getD 0 qv) (a.Xb.getD x.toNat qv)).o=some true:=by rw[p3];exact Uzk _ qa
   have s2:(gzo (p.Xb.getD (p.Xb.length-1) qv) (a.Xb.getD y.toNat qv)).o=some true:=by rw[p4];exact Uzk _ qa
   have s3:=Wzk s p hPF p2;rw[p5]at s3;have e0:(0:Int).toNat=0:=rfl;simp only[p1,w1,hw0,qL,bne_self_eq_false,qd,qO,beq_eq_false_iff_ne.2 hxy,qh (show ¬ ((p.Xb.length:Int)<2) from qa),qe];rw[aza qa,aza qa];simp only[e0,s1,qL,qe];rw[aza (by rw[wl];omega),aza qa];simp only[wl,qG,s2,s3,qL,qe,beq_self_eq_true];rw[aza qa,aza qa,Fzs _ _ _ qa qa];exact⟨_,rfl,qg p6⟩
 ·have h2:zs=2:=qa
  subst h2;exact⟨true,rfl,rfl⟩
end Go.Abs
