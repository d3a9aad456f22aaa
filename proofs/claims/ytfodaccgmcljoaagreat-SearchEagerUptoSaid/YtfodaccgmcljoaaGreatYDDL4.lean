/-
  DL4 (a part of a claim: our own text).
-/
import Derived.Test.YtfodaccgmcljoaaGreatYDDL1
import Derived.Test.YtfodaccgmcljoaaGreatYDDL3
import Derived.Test.YtfodaccgmcljoaaGreatYDDL2
namespace Go.Abs
theorem Iz2 {σ τ R:Type}{f:σ->Option (Step3 σ τ R)}(I:Nat->σ->Prop)(Q:τ->Prop)
 (hr:∀m x,I m x->(∃x' m',f x=some (.next x')/\m'<m/\I m' x')\/∃y,f x=some (.out y)/\Q y):
 ∀ (N m:Nat) (x:σ),I m x->m<N->∃y,iter f N x=some (.inl y)/\Q y
 |0,_,_,_,h=>by omega
 |N+1,m,x,hi,h=>by
  rcases hr m x hi with⟨x',m',h1,h2,h3⟩|⟨y,h1,h2⟩
  ·rw[tz6 h1];exact Iz2 I Q hr N m' x' h3 (by omega)
  ·exact⟨y,by simp[iter,h1],h2⟩
theorem Lz8 {σ τ R:Type}{f:σ->Option (Step3 σ τ R)}(I:Nat->σ->Prop)(Q:τ ⊕ R->Prop)
 (hr:∀m x,I m x->(∃x' m',f x=some (.next x')/\m'<m/\I m' x')\/(∃y,f x=some (.out y)/\Q (.inl y))\/∃r,f x=some (.fin r)/\Q (.inr r)):
 ∀ (N m:Nat) (x:σ),I m x->m<N->∃y,iter f N x=some y/\Q y
 |0,_,_,_,h=>by omega
 |N+1,m,x,hi,h=>by
  rcases hr m x hi with⟨x',m',h1,h2,h3⟩|⟨y,h1,h2⟩|⟨y,h1,h2⟩
  ·rw[tz6 h1];exact Lz8 I Q hr N m' x' h3 (by omega)
  ·exact⟨_,by simp[iter,h1],h2⟩
  ·exact⟨_,by simp[iter,h1],h2⟩
theorem Qz5 {σ τ R:Type}{f:σ->Option (Step3 σ τ R)}{k:τ->Option R}{P:R->Prop}{N:Nat}{x:σ}(I:Nat->σ->Prop)(Q:τ->Prop)(m:Nat)(h0:I m x)(hN:m<N)
 (hr:∀m x,I m x->(∃x' m',f x=some (.next x')/\m'<m/\I m' x')\/∃y,f x=some (.out y)/\Q y) (hk:∀y,Q y->∃r,k y=some r/\P r):∃r,andK (iter f N x) k=some r/\P r:=by
 obtain⟨y,hy,hq⟩:=Iz2 I Q hr N m x h0 hN
 rw[qz2 hy]
 exact hk y hq
theorem Yz2 {σ τ R β:Type}{f:σ->Option (Step3 σ τ R)}{k:τ->Option R}{g:β->R}{P:β->Prop}{N:Nat}{x:σ}(I:Nat->σ->Prop)(Q:τ->Prop)(m:Nat)(h0:I m x)(hN:m<N)
 (hr:∀m x,I m x->(∃x' m',f x=some (.next x')/\m'<m/\I m' x')\/∃y,f x=some (.out y)/\Q y) (hk:∀y,Q y->∃b,k y=some (g b)/\P b):∃b,andK (iter f N x) k=some (g b)/\P b:=by
 obtain⟨y,hy,hq⟩:=Iz2 I Q hr N m x h0 hN
 rw[qz2 hy]
 exact hk y hq
theorem Nz7 {σ τ R β:Type}{f:σ->Option (Step3 σ τ R)}{k:τ->Option R}{g:β->R}{P:β->Prop}{N:Nat}{x:σ}(I:Nat->σ->Prop)(Q:τ->Prop)(m:Nat)(h0:I m x)(hN:m<N)
 (hr:∀m x,I m x->(∃x',f x=some (.next x')/\∃m',m'<m/\I m' x')\/∃y,f x=some (.out y)/\Q y) (hk:∀y,Q y->∃b,k y=some (g b)/\P b):∃b,andK (iter f N x) k=some (g b)/\P b:=by
 refine Yz2 I Q m h0 hN (fun m x h=>?_) hk
 rcases hr m x h with⟨x',h1,m',h2,h3⟩|h
 ·exact .inl ⟨x',m',h1,h2,h3⟩
 ·exact .inr h
theorem kzy {σ τ R:Type}{f:σ->Option (Step3 σ τ R)}{k:τ->Option R}{P:R->Prop}{N:Nat}{x:σ}(I:Nat->σ->Prop)(Q:τ->Prop)(m:Nat)(h0:I m x)(hN:m<N)
 (hr:∀m x,I m x->(∃x' m',f x=some (.next x')/\m'<m/\I m' x')\/(∃y,f x=some (.out y)/\Q y)\/∃r,f x=some (.fin r)/\P r) (hk:∀y,Q y->∃r,k y=some r/\P r):∃r,andK (iter f N x) k=some r/\P r:=by
 obtain⟨y,hy,hq⟩:=Lz8 I (fun y=>match y with| .inl y=>Q y| .inr r=>P r) hr N m x h0 hN
 cases y with
 |inl y=>rw[qz2 hy];exact hk y hq
 |inr r=>rw[Tzs hy];exact⟨r,rfl,hq⟩
theorem Yz9 (p:Nat->Prop)(h:∃n,p n):∃n,p n/\∀m,p m->n≤m:=by
 obtain⟨n,hn⟩:=h
 induction n using Nat.strongRecOn with
 |_ n ih=>
  by_cases hh:∃m,m<n/\p m
  ·obtain⟨m,hm,hp⟩:=hh;exact ih m hm hp
  ·refine⟨n,hn,fun m hm=>?_⟩
   by_cases hlt:m<n
   ·exact absurd ⟨m,hlt,hm⟩ hh
   ·omega
theorem az2l:∀ (n k:Nat) (g:Nat->Nat),(∀j,j≤k->∃v,v<n/\g v=j)->k<n
 |0,k,g,h=>by obtain⟨v,hv,_⟩:=h 0 (by omega);omega
 |n+1,k,g,h=>by
  by_cases hk:k=0
  ·omega
  ·have:=az2l n (k-1) (fun v=>if g v=k then g n else g v) (fun j hj=>by
    by_cases hm:g n=k
    ·obtain⟨v,hv,hg⟩:=h j (by omega)
     have:v≠n:=fun e=>by subst e;omega
     exact⟨v,by omega,by show(if _ then _ else _)=_;rw[if_neg (by omega)];exact hg⟩
    ·by_cases hj2:j=g n
     ·obtain⟨v,hv,hg⟩:=h k (by omega)
      have:v≠n:=fun e=>by subst e;omega
      exact⟨v,by omega,by show(if _ then _ else _)=_;rw[if_pos hg];exact hj2.symm⟩
     ·obtain⟨v,hv,hg⟩:=h j (by omega)
      have:v≠n:=fun e=>by subst e;omega
      exact⟨v,by omega,by show(if _ then _ else _)=_;rw[if_neg (by omega)];exact hg⟩)
   omega
section
variable (E:Int->Int->Int->Prop) (t:Int)
inductive Walk:Int->Int->Int->Prop
 |nil:Walk t 0 0
 |cons {v u c d k:Int}:E v u c->Walk u d k->Walk v (d+c) (k+1)
def Best (v c k:Int):Prop:=Walk E t v c k/\∀c' k',Walk E t v c' k'->c<c'\/c=c'/\k≤k'
structure Graph (n C:Int):Prop where
 sym:∀u v c,E u v c->E v u c
 cost:∀u v c,E u v c->0≤c/\c≤C
 lt:∀u v c,E u v c->0≤u/\u<n/\0≤v/\v<n
end
variable {E:Int->Int->Int->Prop} {t n C:Int}
theorem Walk.ge (g:Graph E n C){v c k:Int}(h:Walk E t v c k):0≤c/\0≤k:=by
 induction h with
 |nil=>omega
 |cons he _ ih=>have:=g.cost _ _ _ he;omega
theorem Walk.le (g:Graph E n C){v c k:Int}(h:Walk E t v c k):c≤k * C:=by
 induction h with
 |nil=>simp
 |cons he _ ih=>have:=g.cost _ _ _ he;rw[Int.add_mul];omega
theorem Walk.lt (g:Graph E n C)(ht:0≤t/\t<n){v c k:Int}(h:Walk E t v c k):0≤v/\v<n:=by
 cases h with
 |nil=>exact ht
 |cons he _=>have:=g.lt _ _ _ he;omega
theorem Walk.zero (g:Graph E n C){v c k:Int}(h:Walk E t v c k)(hk:k=0):v=t/\c=0:=by
 cases h with
 |nil=>exact⟨rfl,rfl⟩
 |cons he hw=>have:=hw.ge g;omega
theorem Best.exists (g:Graph E n C){v c k:Int}(h:Walk E t v c k):∃c' k',Best E t v c' k':=by
 have h0:=h.ge g
 obtain⟨a,⟨k1,ha⟩,hmin⟩:=Yz9 (fun a=>∃k,Walk E t v (a:Int) k) ⟨c.toNat,k,by rw[Int.toNat_of_nonneg h0.1];exact h⟩
 have h1:=ha.ge g
 obtain⟨b,hb,hmin2⟩:=Yz9 (fun b=>Walk E t v (a:Int) (b:Int)) ⟨k1.toNat,by rw[Int.toNat_of_nonneg h1.2];exact ha⟩
 refine⟨a,b,hb,fun c' k' hw=>?_⟩
 have h2:=hw.ge g
 have h3:=hmin c'.toNat ⟨k',by rw[Int.toNat_of_nonneg h2.1];exact hw⟩
 by_cases hc:(a:Int)=c'
 ·subst hc
  have:=hmin2 k'.toNat (by rw[Int.toNat_of_nonneg h2.2];exact hw)
  omega
 ·omega
theorem Best.unique {v c k c' k':Int}(h:Best E t v c k)(h':Best E t v c' k'):c=c'/\k=k':=by
 have h1:=h.2 _ _ h'.1
 have h2:=h'.2 _ _ h.1
 omega
theorem Best.self (g:Graph E n C):Best E t t 0 0:=⟨.nil,fun c' k' h=>by have:=h.ge g;omega⟩
theorem Best.step {v c k:Int}(h:Best E t v c k)(hk:k≠0):∃u e,E v u e/\Best E t u (c-e) (k-1):=by
 obtain⟨hw,hm⟩:=h
 cases hw with
 |nil=>omega
 |cons he hw=>
  rename_i u e d j
  refine⟨u,e,he,?_⟩
  rw[show d+e-e=d by omega,show j+1-1=j by omega]
  refine⟨hw,fun c' k' h=>?_⟩
  have:=hm _ _ (Walk.cons he h)
  omega
theorem Best.ne (g:Graph E n C){v c k:Int}(h:Best E t v c k)(hv:v≠t):1≤k:=by
 have h1:=h.1.ge g
 by_cases h0:k=0
 ·exact absurd (h.1.zero g h0).1 hv
 ·omega
theorem Best.lower (g:Graph E n C)(j:Nat):∀ (k:Nat) {v c:Int},Best E t v c (k:Int)->j≤k->∃u c',Best E t u c' (j:Int)
 |0,v,c,h,hj=>⟨v,c,by have:j=0:=by omega
                      subst this;exact h⟩
 |k+1,v,c,h,hj=>by
  by_cases hk:j=k+1
  ·subst hk;exact⟨v,c,h⟩
  ·obtain⟨u,e,_,hb⟩:=h.step (by omega)
   rw[show((k+1:Nat):Int)-1=(k:Int) by omega]at hb
   exact Best.lower g j k hb (by omega)
theorem Best.few (g:Graph E n C)(ht:0≤t/\t<n){v c k:Int}(h:Best E t v c k):k<n:=by
 have h0:=h.1.ge g
 obtain⟨k',rfl⟩:∃k':Nat,k=k':=⟨k.toNat,by omega⟩
 have key:=az2l n.toNat k' (fun v=>open Classical in if hh:∃k:Nat,∃c,Best E t (v:Int) c (k:Int)then Classical.choose hh else 0) (fun j hj=>by
  obtain⟨u,c',hb⟩:=Best.lower g j k' h hj
  have hu:=hb.1.lt g ht
  refine⟨u.toNat,by omega,?_⟩
  have hb':Best E t ((u.toNat:Nat):Int) c' (j:Int):=by rw[Int.toNat_of_nonneg hu.1];exact hb
  have hh:∃k:Nat,∃c,Best E t ((u.toNat:Nat):Int) c (k:Int):=⟨j,c',hb'⟩
  refine(dif_pos hh).trans ?_
  obtain⟨c2,hc2⟩:=Classical.choose_spec hh
  have:=hb'.unique hc2
  omega)
 omega
theorem Wzz {lc lk:Int->Int}{isSet:Int->Prop}(h0:isSet t/\lc t=0/\lk t=0)(hc:∀v u e,E v u e->isSet u->isSet v/\(lc v<lc u+e\/lc v=lc u+e/\lk v≤lk u+1))
 {v c k:Int} (h:Walk E t v c k):isSet v/\(lc v<c\/lc v=c/\lk v≤k):=by
 induction h with
 |nil=>exact⟨h0.1,.inr ⟨h0.2.1,by omega⟩⟩
 |cons he _ ih=>
  obtain⟨h1,h2⟩:=hc _ _ _ he ih.1
  exact⟨h1,by omega⟩
theorem Walk.mono {E':Int->Int->Int->Prop}(h:∀u v c,E u v c->E' u v c){v c k:Int}(hw:Walk E t v c k):Walk E' t v c k:=by
 induction hw with
 |nil=>exact .nil
 |cons he _ ih=>exact .cons (h _ _ _ he) ih
def NextV (E:Int->Int->Int->Prop)(t v w:Int):Prop:=
 (∃c k e,Best E t v c k/\E v w e/\Best E t w (c-e) (k-1))/\∀w',(∃c k e,Best E t v c k/\E v w' e/\Best E t w' (c-e) (k-1))->w≤w'
inductive Rt (E:Int->Int->Int->Prop) (t:Int):Int->List Int->Prop
 |nil:Rt E t t []
 |cons {v w:Int} {l:List Int}:v≠t->NextV E t v w->Rt E t w l->Rt E t v (w::l)
theorem NextV.unique {v w w':Int}(h:NextV E t v w)(h':NextV E t v w'):w=w':=by
 have h1:=h.2 w' h'.1
 have h2:=h'.2 w h.1
 omega
theorem Rt.unique {v:Int}{l l':List Int}(h:Rt E t v l)(h':Rt E t v l'):l=l':=by
 induction h generalizing l' with
 |nil=>cases h' with
  |nil=>rfl
  |cons hv _ _=>exact absurd rfl hv
 |cons hv hn _ ih=>
  cases h' with
  |nil=>exact absurd rfl hv
  |cons _ hn' hr'=>
   cases hn.unique hn'
   rw[ih hr']
theorem Rt.length (g:Graph E n C){v:Int}{l:List Int}(h:Rt E t v l):∀ {c k:Int},Best E t v c k->(l.length:Int)=k:=by
 induction h with
 |nil=>intro c k hb;have:=hb.unique (Best.self g);simp;omega
 |cons hv hn _ ih=>
  intro c k hb
  obtain⟨c',k',e,h1,_,h3⟩:=hn.1
  have:=hb.unique h1
  have:=ih h3
  simp;omega
theorem Czo (a0:azc)(a1:azc):(fzc a0 a1).o=(nzy a0 a1).run NN:=rfl
theorem Qzu (a0:(List azf))(a1:azf):(xzg a0 a1).o=(xzh a0 a1).run NN:=rfl
theorem Szx (a0:(List azf)):(Bz4 a0).o=(Bz5 a0).run NN:=rfl
def ltR (a b:azc):Prop:=a.cost<b.cost\/a.cost=b.cost/\a.points<b.points
theorem tzu {a b:azc}(h:b.points=0\/ltR a b):(fzc a b).o=some true:=by
 simp only[Czo,nzy,T.run];unfold ltR at*
 by_cases h0:b.points=0
 ·rw[cz8 (by simpa using h0)]
 ·rw[czt (by simpa using h0)]
  by_cases h1:a.cost<b.cost
  ·rw[az7 h1]
  ·rw[az6 h1,cz8 (by simp;omega)];simp;omega
theorem qz3 {a b:azc}(h0:b.points≠0)(h:¬ltR a b):(fzc a b).o=some false:=by
 simp only[Czo,nzy,T.run];unfold ltR at*
 rw[czt (by simpa using h0),az6 (by omega)]
 by_cases h1:a.cost=b.cost
 ·rw[cz8 (by simpa using h1)];simp;omega
 ·rw[czt (by simpa using h1)]
section
variable {α:Type} [Inhabited α]
theorem mem_getD {l:List α}{y:α}:y∈l↔∃i,i<l.length/\l.getD i default=y:=by
 rw[List.mem_iff_getElem]
 constructor
 ·rintro⟨i,hi,rfl⟩;exact⟨i,hi,by simp[hi]⟩
 ·rintro⟨i,hi,rfl⟩;exact⟨i,hi,by simp[hi]⟩
theorem jzb {l:List α}{i k:Nat}{x:α}(hi:i<l.length):(l.set i x).getD k default=if k=i then x else l.getD k default:=by
 rw[List.getD_eq_getElem?_getD,List.getElem?_set]
 by_cases h:k=i
 ·subst h;simp[hi]
 ·rw[if_neg (fun e=>h e.symm),if_neg h,List.getD_eq_getElem?_getD]
theorem wzs {l:List α}{i j k:Nat}(hi:i<l.length)(hj:j<l.length):
 ((l.set i (l.getD j default)).set j (l.getD i default)).getD k default=if k=j then l.getD i default else if k=i then l.getD j default else l.getD k default:=by
 rw[jzb (by simpa using hj),jzb hi]
theorem Uzn {l:List α}{i j:Nat}(hi:i<l.length)(hj:j<l.length){y:α}:y∈(l.set i (l.getD j default)).set j (l.getD i default)↔y∈l:=by
 rw[mem_getD,mem_getD]
 simp only[List.length_set]
 constructor
 ·rintro⟨k,hk,h⟩
  rw[wzs hi hj]at h
  split at h
  ·exact⟨i,hi,h⟩
  ·split at h
   ·exact⟨j,hj,h⟩
   ·exact⟨k,hk,h⟩
 ·rintro⟨k,hk,h⟩
  by_cases h1:k=i
  ·exact⟨j,hj,by rw[wzs hi hj,if_pos rfl,←h1];exact h⟩
  ·by_cases h2:k=j
   ·refine⟨i,hi,?_⟩
    rw[wzs hi hj,if_neg (by omega),if_pos rfl,←h2];exact h
   ·exact⟨k,hk,by rw[wzs hi hj,if_neg h2,if_neg h1];exact h⟩
end
abbrev rk (l:List azf)(i:Nat):azc:=(l.getD i default).rank
def Heap (l:List azf):Prop:=∀i,0<i->i<l.length->¬ltR (rk l i) (rk l ((i-1) / 2))
def Pts (l:List azf):Prop:=∀y∈l,1≤y.rank.points
theorem Pts.rk {l:List azf}(h:Pts l){i:Nat}(hi:i<l.length):(Go.Abs.rk l i).points≠0:=by
 have:=h _ (mem_getD.2 ⟨i,hi,rfl⟩)
 unfold Go.Abs.rk;omega
theorem yze {l:List azf}{i j k:Nat}(hi:i<l.length)(hj:j<l.length):
 rk ((l.set i (l.getD j default)).set j (l.getD i default)) k=if k=j then rk l i else if k=i then rk l j else rk l k:=by
 unfold rk
 rw[wzs hi hj]
 split
 ·rfl
 ·split<;>rfl
theorem Izg {a b:azc}(h:ltR a b):¬ltR b a:=by unfold ltR at *;omega
theorem Yz3 {a b c:azc}(h:ltR a b)(h':ltR b c):ltR a c:=by unfold ltR at *;omega
theorem Izc {a b c:azc}(h:¬ltR b a)(h':¬ltR c b):¬ltR c a:=by unfold ltR at *;omega
theorem az0n {l:List azf}(h:Heap l):∀ (i:Nat),i<l.length->¬ltR (rk l i) (rk l 0):=by
 intro i
 induction i using Nat.strongRecOn with
 |_ i ih=>
  intro hi
  by_cases h0:i=0
  ·subst h0;unfold ltR;omega
  ·exact Izc (ih ((i-1) / 2) (by omega) (by omega)) (h i (by omega) hi)
theorem az3j {i:Int}(h:0<i)(h2:i<4000000000000):IntKind.i64.wrap ((IntKind.i64.wrap (i-1)).tdiv 2)=(((i.toNat-1) / 2:Nat):Int):=by
 rw[w64 (x:=i-1) (by omega) (by omega),Int.tdiv_eq_ediv_of_nonneg (by omega),w64 (by omega) (by omega)]
 omega
theorem az3z (q:List azf)(x:azf)(hN:q.length+1<NN)(hlen:q.length<1000000000)(hh:Heap q)(hp:Pts q)(hx:1≤x.rank.points):
 ∃r,(xzg q x).o=some r/\Heap r/\r.length=q.length+1/\∀y,y∈r↔(y∈q\/y=x):=by
 simp only[Qzu,xzh,T.run,List.length_append,List.length_singleton]
 ((repeat(first|rw[azs (by omega)]|rw[azs (by simp only[List.length_singleton,List.length_set,List.length_replicate,azr,and_true];omega)])))
 have hstart:IntKind.i64.wrap (((q.length+1:Nat):Int)-1)=(q.length:Int):=by rw[w64 (by omega) (by omega)];omega
 rw[hstart]
 refine Qz5 (fun m (s:List azf×Int)=>0≤s.2/\s.2.toNat=m/\s.2.toNat<s.1.length/\s.1.length=q.length+1/\(∀y,y∈s.1↔(y∈q\/y=x))/\
  (∀j,0<j->j<s.1.length->j≠s.2.toNat->¬ltR (rk s.1 j) (rk s.1 ((j-1) / 2)))/\
  (∀j,0<j->j<s.1.length->(j-1) / 2=s.2.toNat->0<s.2.toNat->¬ltR (rk s.1 j) (rk s.1 ((s.2.toNat-1) / 2))))
  (fun r=>Heap r/\r.length=q.length+1/\∀y,y∈r↔(y∈q\/y=x)) q.length ?_ (by omega) ?_ (fun y h=>⟨y,rfl,h⟩)
 rotate_left
 ·rintro m ⟨l,i⟩ ⟨i0,im,il,ll,hmem,hA,hB⟩
  simp only at i0 im il ll hmem hA hB⊢
  have hpl:Pts l:=fun y hy=>by
   rcases(hmem y).1 hy with h|h
   ·exact hp y h
   ·rw[h];exact hx
  by_cases hi:i>0
  ·rw[az7 hi]
   have hup:=az3j hi (by omega)
   rw[hup]
   have hupl:(i.toNat-1) / 2<l.length:=by omega
   ((repeat rw[azs (by omega)]);rw[Int.toNat_natCast])
   by_cases hlt:ltR (rk l i.toNat) (rk l ((i.toNat-1) / 2))
   ·left
    (rw[tzu (.inr hlt),Option.bind_some,czt (by rfl)];(repeat(first|rw[azs (by omega)]|rw[azs (by simp only[List.length_set];omega)])))
    refine⟨_,(i.toNat-1) / 2,rfl,by omega,by simp only;omega,by simp only;omega,by simp only[List.length_set,Int.toNat_natCast];omega,by simpa using ll,fun y=>?_,fun j j0 jl hj=>?_,fun j j0 jl hj hup0=>?_⟩
    ·rw[Uzn il hupl];exact hmem y
    ·simp only[Int.toNat_natCast,List.length_set]at jl hj⊢
     rw[yze il hupl,yze il hupl,if_neg hj]
     by_cases hji:j=i.toNat
     ·subst hji
      rw[if_pos rfl,if_pos rfl]
      exact Izg hlt
     ·rw[if_neg hji]
      by_cases hp1:(j-1) / 2=(i.toNat-1) / 2
      ·rw[if_pos hp1]
       intro hc
       have:=hA j j0 jl hji
       rw[hp1]at this
       exact this (Yz3 hc hlt)
      ·rw[if_neg hp1]
       by_cases hp2:(j-1) / 2=i.toNat
       ·rw[if_pos hp2]
        exact hB j j0 jl hp2 (by omega)
       ·rw[if_neg hp2]
        exact hA j j0 jl hji
    ·simp only[Int.toNat_natCast,List.length_set]at jl hj hup0⊢
     rw[yze il hupl,yze il hupl,if_neg (by omega)]
     rw[if_neg (show ¬ ((i.toNat-1) / 2-1) / 2=(i.toNat-1) / 2 by omega),if_neg (show ¬ ((i.toNat-1) / 2-1) / 2=i.toNat by omega)]
     have hu:=hA ((i.toNat-1) / 2) hup0 hupl (by omega)
     by_cases hji:j=i.toNat
     ·rw[if_pos hji];exact hu
     ·rw[if_neg hji]
      have:=hA j j0 jl hji
      rw[hj]at this
      exact Izc hu this
   ·right
    rw[qz3 (hpl.rk hupl) hlt,Option.bind_some,cz8 (by rfl)]
    refine⟨_,rfl,fun j j0 jl=>?_,ll,hmem⟩
    by_cases hji:j=i.toNat
    ·subst hji;exact hlt
    ·exact hA j j0 jl hji
  ·right
   rw[az6 hi]
   exact⟨_,rfl,fun j j0 jl=>hA j j0 jl (by omega),ll,hmem⟩
 ·refine⟨by simp,by simp,by simp,by simp,fun y=>by simp,fun j j0 jl hj=>?_,fun j j0 jl hj _=>?_⟩
  ·simp only[Int.toNat_natCast,List.length_append,List.length_cons,List.length_nil]at jl hj
   have e1:∀k,k<q.length->rk (q++[x]) k=rk q k:=fun k hk=>by unfold rk;rw[getD_left hk]
   rw[e1 j (by omega),e1 _ (by omega)]
   exact hh j j0 (by omega)
  ·simp only[Int.toNat_natCast,List.length_append,List.length_cons,List.length_nil]at jl hj
   omega
theorem az6i (q:List azf)(hN:q.length+1<NN)(hq:0<q.length)(hlen:q.length<1000000000)(hh:Heap q)(hp:Pts q):
 ∃r,(Bz4 q).o=some (q.getD 0 default,r)/\Heap r/\r.length+1=q.length/\(∀y∈r,y∈q)/\(∀y∈q,y=q.getD 0 default\/y∈r)/\∀y∈q,¬ltR y.rank (q.getD 0 default).rank:=by
 simp only[Szx,Bz5,T.run]
 have hlast:IntKind.i64.wrap (((q.length:Nat):Int)-1)=((q.length-1:Nat):Int):=by rw[w64 (by omega) (by omega)];omega
 rw[hlast]
 have e0:(0:Int).toNat=0:=rfl
 (rw[e0];(repeat(first|rw[azs (by omega)]|rw[azs (by simp only[List.length_set];omega)]));rw[Int.toNat_natCast])
 have hmin:∀y∈q,¬ltR y.rank (q.getD 0 default).rank:=by
  intro y hy
  obtain⟨i,hi,rfl⟩:=mem_getD.1 hy
  exact az0n hh i hi
 have hg0:∀k,k<q.length-1->((q.set 0 (q.getD (q.length-1) default)).take (q.length-1)).getD k default=if k=0 then q.getD (q.length-1) default else q.getD k default:=by
  intro k hk
  rw[List.getD_eq_getElem?_getD,List.getElem?_take,if_pos hk,←List.getD_eq_getElem?_getD,jzb hq]
 have hl0:((q.set 0 (q.getD (q.length-1) default)).take (q.length-1)).length=q.length-1:=by simp
 have hm1:∀y∈(q.set 0 (q.getD (q.length-1) default)).take (q.length-1),y∈q:=by
  intro y hy
  obtain⟨k,hk,h⟩:=mem_getD.1 hy
  rw[hl0]at hk
  rw[hg0 k hk]at h
  split at h
  ·exact mem_getD.2 ⟨_,by omega,h⟩
  ·exact mem_getD.2 ⟨k,by omega,h⟩
 have hm2:∀y∈q,y=q.getD 0 default\/y∈(q.set 0 (q.getD (q.length-1) default)).take (q.length-1):=by
  intro y hy
  obtain⟨k,hk,h⟩:=mem_getD.1 hy
  by_cases hk0:k=0
  ·subst hk0;exact .inl h.symm
  ·right
   by_cases hkl:k=q.length-1
   ·exact mem_getD.2 ⟨0,by rw[hl0];omega,by rw[hg0 0 (by omega),if_pos rfl,←hkl];exact h⟩
   ·exact mem_getD.2 ⟨k,by rw[hl0];omega,by rw[hg0 k (by omega),if_neg hk0];exact h⟩
 generalize (q.set 0 (q.getD (q.length-1) default)).take (q.length-1)=l0 at hg0 hl0 hm1 hm2⊢
 refine Yz2 (fun m (s:List azf×Int)=>0≤s.2/\s.2.toNat+m=q.length/\s.1.length=q.length-1/\(∀y,y∈s.1↔y∈l0)/\
  (∀j,0<j->j<s.1.length->(j-1) / 2≠s.2.toNat->¬ltR (rk s.1 j) (rk s.1 ((j-1) / 2)))/\
  (∀j,0<j->j<s.1.length->(j-1) / 2=s.2.toNat->0<s.2.toNat->¬ltR (rk s.1 j) (rk s.1 ((s.2.toNat-1) / 2))))
  (fun r=>Heap r/\r.length=q.length-1/\∀y,y∈r↔y∈l0) q.length ?_ (by omega) ?_ (fun y ⟨h1,h2,h3⟩=>⟨y,rfl,h1,by omega,fun z hz=>hm1 z ((h3 z).1 hz),fun z hz=>(hm2 z hz).imp (fun h=>h) (fun h=>(h3 z).2 h),hmin⟩)
 rotate_left
 ·rintro m ⟨l,i⟩ ⟨i0,im,ll,hmem,hA,hB⟩
  simp only at i0 im ll hmem hA hB⊢
  have hpl:Pts l:=fun y hy=>hp y (hm1 y ((hmem y).1 hy))
  have w1:IntKind.i64.wrap ((IntKind.i64.wrap (2 * i))+1)=((2 * i.toNat+1:Nat):Int):=by
   rw[w64 (x:=2 * i) (by omega) (by omega),w64 (by omega) (by omega)];omega
  have w2:IntKind.i64.wrap (((2 * i.toNat+1:Nat):Int)+1)=((2 * i.toNat+2:Nat):Int):=by
   rw[w64 (by omega) (by omega)];omega
  rw[w1,w2]
  by_cases hin:2 * i.toNat+1<q.length-1
  ·rw[az7 (by omega)]
   obtain⟨d,hd,hdl,hdm,hX⟩:∃d:Nat,(d=2 * i.toNat+1\/d=2 * i.toNat+2)/\d<l.length/\(∀c,c<l.length->(c=2 * i.toNat+1\/c=2 * i.toNat+2)->¬ltR (rk l c) (rk l d))/\
    (andC (bif (decide (((2 * i.toNat+2:Nat):Int)<((q.length-1:Nat):Int)))then
     grd (0≤((2 * i.toNat+2:Nat):Int)/\((2 * i.toNat+2:Nat):Int)<((l.length:Nat):Int))<|
     grd ((((2 * i.toNat+2:Nat):Int)).toNat<l.length)<|
     grd (0≤((2 * i.toNat+1:Nat):Int)/\((2 * i.toNat+1:Nat):Int)<((l.length:Nat):Int))<|
     grd ((((2 * i.toNat+1:Nat):Int)).toNat<l.length)<|
     ((fzc ((l.getD ((((2 * i.toNat+2:Nat):Int)).toNat) default).rank) ((l.getD ((((2 * i.toNat+1:Nat):Int)).toNat) default).rank)).o).bind fun y104=>
     some (.out y104)
     else
      some (.out false):Option (Step3 Unit Bool (Step3 Unit Int (Step3 (List azf×Int) (List azf) (azf×List azf))))) fun y103=>
     bif y103 then some (.out ((2 * i.toNat+2:Nat):Int))else some (.out ((2 * i.toNat+1:Nat):Int)))=some (.out (d:Int)):=by
    by_cases hin2:2 * i.toNat+2<q.length-1
    ·(rw[az7 (by omega)];(repeat rw[azs (by omega)]);rw[Int.toNat_natCast,Int.toNat_natCast])
     by_cases hlt:ltR (rk l (2 * i.toNat+2)) (rk l (2 * i.toNat+1))
     ·rw[tzu (.inr hlt)]
      refine⟨2 * i.toNat+2,.inr rfl,by omega,fun c hc h=>?_,rfl⟩
      rcases h with rfl|rfl
      ·exact Izg hlt
      ·unfold ltR;omega
     ·rw[qz3 (hpl.rk (by omega)) hlt]
      refine⟨2 * i.toNat+1,.inl rfl,by omega,fun c hc h=>?_,rfl⟩
      rcases h with rfl|rfl
      ·unfold ltR;omega
      ·exact hlt
    ·rw[az6 (by omega)]
     refine⟨2 * i.toNat+1,.inl rfl,by omega,fun c hc h=>?_,rfl⟩
     rcases h with rfl|rfl
     ·unfold ltR;omega
     ·omega
   (rw[hX,az8];(repeat rw[azs (by omega)]);rw[Int.toNat_natCast])
   have il:i.toNat<l.length:=by omega
   by_cases hlt:ltR (rk l d) (rk l i.toNat)
   ·left
    (rw[tzu (.inr hlt),Option.bind_some,czt (by rfl)];(repeat(first|rw[azs (by omega)]|rw[azs (by simp only[List.length_set];omega)])))
    refine⟨_,q.length-d,rfl,by omega,by simp only;omega,by simp only[Int.toNat_natCast];omega,by simpa using ll,fun y=>?_,fun j j0 jl hj=>?_,fun j j0 jl hj hup0=>?_⟩
    ·rw[Uzn il hdl];exact hmem y
    ·simp only[Int.toNat_natCast,List.length_set]at jl hj⊢
     rw[yze il hdl,yze il hdl,if_neg hj]
     by_cases hjd:j=d
     ·subst hjd
      rw[if_pos rfl,if_pos (by omega)]
      exact Izg hlt
     ·rw[if_neg hjd]
      by_cases hji:j=i.toNat
      ·rw[if_pos hji,if_neg (by omega)]
       have:=hB d (by omega) hdl (by omega) (by omega)
       rw[hji];exact this
      ·rw[if_neg hji]
       by_cases hp2:(j-1) / 2=i.toNat
       ·rw[if_pos hp2]
        exact hdm j jl (by omega)
       ·rw[if_neg hp2]
        exact hA j j0 jl hp2
    ·simp only[Int.toNat_natCast,List.length_set]at jl hj hup0⊢
     rw[yze il hdl,yze il hdl,if_neg (by omega),if_neg (by omega),if_neg (by omega),if_pos (by omega)]
     have:=hA j j0 jl (by omega)
     rw[hj]at this
     exact this
   ·right
    rw[qz3 (hpl.rk il) hlt,Option.bind_some,cz8 (by rfl)]
    refine⟨_,rfl,fun j j0 jl=>?_,ll,hmem⟩
    by_cases hp2:(j-1) / 2=i.toNat
    ·rw[hp2]
     exact Izc hlt (hdm j jl (by omega))
    ·exact hA j j0 jl hp2
  ·right
   rw[az6 (by omega)]
   exact⟨_,rfl,fun j j0 jl=>hA j j0 jl (by omega),ll,hmem⟩
 ·refine⟨by simp,by simp,hl0,fun y=>Iff.rfl,fun j j0 jl hj=>?_,fun j j0 jl hj h=>by simp at h⟩
  simp only[Int.toNat_zero]at hj jl⊢
  have e1:rk l0 j=rk q j:=by unfold rk;rw[hg0 j (by omega),if_neg (by omega)]
  have e2:rk l0 ((j-1) / 2)=rk q ((j-1) / 2):=by unfold rk;rw[hg0 _ (by omega),if_neg (by omega)]
  rw[e1,e2]
  exact hh j j0 (by omega)
theorem Ez5 (a0:Int)(a1:Int):(hzf a0 a1).o=(kzs a0 a1).run NN:=rfl
theorem Pza (a0:(List Int)):(wzh a0).o=(wzi a0).run NN:=rfl
theorem zzg (a0:az4)(a1:(Int×Int)):(ezk a0 a1).o=(iz1 a0 a1).run NN:=rfl
theorem Gzw (a0:az9)(a1:Int):(dzt a0 a1).o=(nzf a0 a1).run NN:=rfl
theorem Bzn (a0:az9):(gza a0).o=(izx a0).run NN:=rfl
theorem Jz9 (a0:az9):(pzf a0).o=(pzg a0).run NN:=rfl
theorem Kzm (a0:az9):(sz8 a0).o=(sz9 a0).run NN:=rfl
theorem Jzl (a0:Int)(a1:Int):(pzm a0 a1).o=(pzn a0 a1).run NN:=rfl
theorem Kzs (a0:az9)(a1:Int):(izi a0 a1).o=(szn a0 a1).run NN:=rfl
theorem Hzg (a0:Int):(ozi a0).o=(ozj a0).run NN:=rfl
def szx (n:Nat)(e:az4):Prop:=0≤e.U/\e.U<e.V/\e.V<(n:Int)/\0≤e.Cost/\e.Cost≤1099511627776
def eLt (a b:az4):Prop:=a.U<b.U\/a.U=b.U/\a.V<b.V
def Pre (m:az9)(k:Nat):Prop:=∀j,j<k->szx m.Points.length (m.Edges.getD j default)/\(0<j->eLt (m.Edges.getD (j-1) default) (m.Edges.getD j default))
def WF (m:az9):Prop:=Pre m m.Edges.length
def oza (m:az9):Prop:=m.Points.length≤100/\m.Edges.length≤200
theorem Lz1 (a b:Int):(hzf a b).o=some (if a<b then -1 else if a>b then 1 else 0):=by
 simp only[Ez5,kzs,Hzg,ozj,T.run]
 simp only[Option.bind_some,bne_self_eq_false,cond_false]
 by_cases h:a<b
 ·rw[az7 h,if_pos h]
 ·rw[az6 h,if_neg h]
  by_cases h2:a>b
  ·rw[az7 h2,if_pos h2]
  ·rw[az6 h2,if_neg h2]
theorem az7d (hN:3≤NN)(a b:Int):(wzh [a,b]).o=some (if a≠0 then a else b):=by
 obtain⟨M,hM⟩:∃M,NN=M+3:=⟨NN-3,by omega⟩
 have w1:IntKind.i64.wrap (1:Int)=1:=by decide
 have w2:IntKind.i64.wrap (2:Int)=2:=by decide
 simp only[Pza,wzi,T.run];rw[hM]
 by_cases ha:a=0
 ·subst ha
  by_cases hb:b=0
  ·subst hb;simp[iter,andK,grd,w1,w2]
  ·have:(b !=0)=true:=by simpa using hb
   simp[iter,andK,grd,w1,this]
 ·have:(a !=0)=true:=by simpa using ha
  simp[iter,andK,grd,this,ha]
theorem rz6 (hN:3≤NN)(e:az4)(u v:Int):∃c,(ezk e (u,v)).o=some c/\(c<0↔e.U<u\/e.U=u/\e.V<v)/\(c=0↔e.U=u/\e.V=v):=by
 simp only[zzg,iz1,T.run]
 ((repeat rw[azs (by omega)]);rw[Lz1,Option.bind_some];(repeat rw[azs (by omega)]);rw[Lz1,Option.bind_some,az7d hN,Option.bind_some])
 refine⟨_,rfl,?_⟩
 by_cases h1:e.U<u
 ·rw[if_pos h1];simp;omega
 ·rw[if_neg h1]
  by_cases h2:e.U>u
  ·rw[if_pos h2];simp;omega
  ·rw[if_neg h2,if_neg (by omega)]
   by_cases h3:e.V<v
   ·rw[if_pos h3];omega
   ·rw[if_neg h3]
    by_cases h4:e.V>v
    ·rw[if_pos h4];omega
    ·rw[if_neg h4];omega
theorem oz6 (m:az9)(v:Int):(dzt m v).o=some (decide (0≤v/\v<(m.Points.length:Int))):=by
 simp only[Gzw,nzf,T.run]
 by_cases h:v≥0
 ·rw[az7 h];simp[show 0≤v from h]
 ·rw[az6 h];simp;omega
theorem Ozl (m:az9)(hs:oza m)(hN:1000≤NN):∃b,(gza m).o=some b/\(b=true↔WF m):=by
 obtain⟨hs1,hs2⟩:=hs
 simp only[Bzn,izx,T.run]
 rw[az6 (by omega),az8,az6 (by omega)]
 refine kzy (fun k (x:Int)=>∃i:Nat,x=(i:Int)/\i+k=m.Edges.length/\Pre m i) (fun _=>WF m) m.Edges.length ⟨0,rfl,by omega,fun j hj=>by omega⟩ (by omega) ?_ (fun _ h=>⟨true,rfl,by simp[h]⟩)
 rintro k x ⟨i,rfl,hi,hpre⟩
 by_cases hlt:i<m.Edges.length
 ·(rw[az7 (by omega)];(repeat rw[azs (by omega)]);rw[Int.toNat_natCast])
  have hno:¬szx m.Points.length (m.Edges.getD i default)->¬WF m:=fun h hw=>h (hw i hlt).1
  by_cases hok:szx m.Points.length (m.Edges.getD i default)
  ·obtain⟨o1,o2,o3,o4,o5⟩:=hok
   rw[oz6,Option.bind_some,yzw (by simp only;omega),oz6,Option.bind_some,yzw (by simp only;omega),az6 (by omega),az6 (by omega),az8,az6 (by omega)]
   by_cases h0:i=0
   ·subst h0
    rw[az6 (by simp),az8,czt (by rfl),w64n (by omega)]
    refine .inl ⟨_,k-1,rfl,by omega,1,rfl,by omega,fun j hj=>?_⟩
    have hj0:j=0:=by omega
    subst hj0
    exact⟨⟨o1,o2,o3,o4,o5⟩,fun h=>absurd h (by omega)⟩
   ·have hw:IntKind.i64.wrap ((i:Int)-1)=((i-1:Nat):Int):=by rw[w64 (by omega) (by omega)];omega
    (rw[az7 (by omega),hw];(repeat rw[azs (by omega)]);rw[Int.toNat_natCast])
    obtain⟨c,hc,hc1,hc2⟩:=rz6 (by omega) (m.Edges.getD (i-1) default) (m.Edges.getD i default).U (m.Edges.getD i default).V
    rw[hc,Option.bind_some,az8]
    by_cases hcl:c<0
    ·rw[az6 (by omega),w64n (by omega)]
     refine .inl ⟨_,k-1,rfl,by omega,i+1,rfl,by omega,fun j hj=>?_⟩
     by_cases hji:j=i
     ·subst hji;exact⟨⟨o1,o2,o3,o4,o5⟩,fun _=>hc1.1 hcl⟩
     ·exact hpre j (by omega)
    ·rw[az7 (by omega)]
     refine .inr (.inr ⟨_,rfl,?_⟩)
     simp only[Bool.false_eq_true,false_iff]
     intro hw
     exact hcl (hc1.2 ((hw i hlt).2 (by omega)))
  ·have hnw:=hno hok
   refine .inr (.inr ⟨false,?_,by simp[hnw]⟩)
   unfold szx at hok
   rw[oz6,Option.bind_some]
   by_cases h1:0≤(m.Edges.getD i default).U/\(m.Edges.getD i default).U<(m.Points.length:Int)
   ·rw[yzw h1,oz6,Option.bind_some]
    by_cases h2:0≤(m.Edges.getD i default).V/\(m.Edges.getD i default).V<(m.Points.length:Int)
    ·rw[yzw h2]
     by_cases h3:(m.Edges.getD i default).U≥(m.Edges.getD i default).V
     ·rw[az7 h3,az8,cz8 (by rfl)]
     ·rw[az6 h3]
      by_cases h4:(m.Edges.getD i default).Cost<0
      ·rw[az7 h4,az8,cz8 (by rfl)]
      ·rw[az6 h4,az8,az7 (by omega)]
    ·rw[Gzz h2,az8,cz8 (by rfl)]
   ·rw[Gzz h1,az8,cz8 (by rfl)]
 ·rw[az6 (by omega)]
  refine .inr (.inl ⟨_,rfl,?_⟩)
  have:i=m.Edges.length:=by omega
  subst this;exact hpre
theorem Vzm (m:az9)(hs:oza m)(hN:1000≤NN)(hcost:∀j,j<m.Edges.length->0≤(m.Edges.getD j default).Cost/\(m.Edges.getD j default).Cost≤1099511627776):∃b,(pzf m).o=some b/\(b=true↔WF m):=by
 obtain⟨hs1,hs2⟩:=hs
 simp only[Jz9,pzg,T.run]
 refine kzy (fun k (x:Int)=>∃i:Nat,x=(i:Int)/\i+k=m.Edges.length/\Pre m i) (fun _=>WF m) m.Edges.length ⟨0,rfl,by omega,fun j hj=>by omega⟩ (by omega) ?_ (fun _ h=>⟨true,by rw[az7 (by omega)];simp;omega,by simp[h]⟩)
 rintro k x ⟨i,rfl,hi,hpre⟩
 by_cases hlt:i<m.Edges.length
 ·(rw[az7 (by omega)];(repeat rw[azs (by omega)]);rw[Int.toNat_natCast])
  have hno:¬szx m.Points.length (m.Edges.getD i default)->¬WF m:=fun h hw=>h (hw i hlt).1
  have hci:=hcost i hlt
  by_cases hok:szx m.Points.length (m.Edges.getD i default)
  ·obtain⟨o1,o2,o3,o4,o5⟩:=hok
   rw[az6 (by omega),az6 (by omega),az8,az6 (by omega)]
   by_cases h0:i=0
   ·subst h0
    rw[az6 (by simp),az8,czt (by rfl),w64n (by omega)]
    refine .inl ⟨_,k-1,rfl,by omega,1,rfl,by omega,fun j hj=>?_⟩
    have hj0:j=0:=by omega
    subst hj0
    exact⟨⟨o1,o2,o3,o4,o5⟩,fun h=>absurd h (by omega)⟩
   ·have hw:IntKind.i64.wrap ((i:Int)-1)=((i-1:Nat):Int):=by rw[w64 (by omega) (by omega)];omega
    (rw[az7 (by omega),hw];(repeat rw[azs (by omega)]);rw[Int.toNat_natCast])
    by_cases hcl:eLt (m.Edges.getD (i-1) default) (m.Edges.getD i default)
    ·refine .inl ⟨((i+1:Nat):Int),k-1,?_,by omega,i+1,rfl,by omega,fun j hj=>?_⟩
     ·unfold eLt at hcl
      (rw[az6 (by omega)];(repeat rw[azs (by omega)]))
      by_cases he:(m.Edges.getD (i-1) default).U=(m.Edges.getD i default).U
      ·(rw[cz4 he];(repeat rw[azs (by omega)]);rw[az8,az6 (by omega),w64n (by omega)])
      ·rw[czj he,az8,czt (by rfl),w64n (by omega)]
     ·by_cases hji:j=i
      ·subst hji;exact⟨⟨o1,o2,o3,o4,o5⟩,fun _=>hcl⟩
      ·exact hpre j (by omega)
    ·refine .inr (.inr ⟨false,?_,?_⟩)
     ·unfold eLt at hcl
      by_cases hg:(m.Edges.getD (i-1) default).U>(m.Edges.getD i default).U
      ·rw[az7 hg,az8,cz8 (by rfl)]
      ·(rw[az6 hg];(repeat rw[azs (by omega)]);rw[cz4 (by omega)];(repeat rw[azs (by omega)]);rw[az8,az7 (by omega)])
     ·simp only[Bool.false_eq_true,false_iff]
      intro hw
      exact hcl ((hw i hlt).2 (by omega))
  ·have hnw:=hno hok
   refine .inr (.inr ⟨false,?_,by simp[hnw]⟩)
   unfold szx at hok
   by_cases h1:(m.Edges.getD i default).U<0
   ·rw[az7 h1,az8,cz8 (by rfl)]
   ·rw[az6 h1]
    by_cases h3:(m.Edges.getD i default).U≥(m.Edges.getD i default).V
    ·rw[az7 h3,az8,cz8 (by rfl)]
    ·rw[az6 h3,az8,az7 (by omega)]
 ·rw[az6 (by omega)]
  refine .inr (.inl ⟨_,rfl,?_⟩)
  have:i=m.Edges.length:=by omega
  subst this;exact hpre
theorem Xze (m:az9)(hs:oza m)(hN:1000≤NN):∃b,(sz8 m).o=some b/\(b=true↔WF m):=by
 have hss:=hs
 obtain⟨hs1,hs2⟩:=hs
 simp only[Kzm,sz9,T.run]
 refine kzy (fun k (x:Int)=>∃i:Nat,x=(i:Int)/\i+k=m.Edges.length/\∀j,j<i->0≤(m.Edges.getD j default).Cost/\(m.Edges.getD j default).Cost≤1099511627776) (fun _=>∀j,j<m.Edges.length->0≤(m.Edges.getD j default).Cost/\(m.Edges.getD j default).Cost≤1099511627776) m.Edges.length ⟨0,rfl,by omega,fun j hj=>by omega⟩ (by omega) ?_ (fun _ h=>?_)
 ·rintro k x ⟨i,rfl,hi,hpre⟩
  by_cases hlt:i<m.Edges.length
  ·(rw[az7 (by omega)];(repeat rw[azs (by omega)]);rw[Int.toNat_natCast])
   by_cases hok:0≤(m.Edges.getD i default).Cost/\(m.Edges.getD i default).Cost≤1099511627776
   ·(rw[az6 (by omega)];(repeat rw[azs (by omega)]);rw[az8,az6 (by omega),w64n (by omega)])
    refine .inl ⟨_,k-1,rfl,by omega,i+1,rfl,by omega,fun j hj=>?_⟩
    by_cases hji:j=i
    ·subst hji;exact hok
    ·exact hpre j (by omega)
   ·refine .inr (.inr ⟨false,?_,?_⟩)
    ·by_cases h1:(m.Edges.getD i default).Cost<0
     ·rw[az7 h1,az8,cz8 (by rfl)]
     ·(rw[az6 h1];(repeat rw[azs (by omega)]);rw[az8,az7 (by omega)])
    ·simp only[Bool.false_eq_true,false_iff]
     intro hw
     obtain⟨_,_,_,h4,h5⟩:=(hw i hlt).1
     exact hok ⟨h4,h5⟩
  ·rw[az6 (by omega)]
   refine .inr (.inl ⟨_,rfl,?_⟩)
   have:i=m.Edges.length:=by omega
   subst this;exact hpre
 ·obtain⟨b,hb,hw⟩:=Vzm m hss hN h
  exact⟨b,by rw[hb];rfl,hw⟩
def ezi (s mode:Int):Bool:=if mode=0 then s==1 else if mode=1 then(s==1||s==0)else if mode=2 then s !=2 else false
theorem Rzo (s mode:Int):(pzm s mode).o=some (ezi s mode):=by
 simp only[Jzl,pzn,T.run];unfold ezi
 by_cases h0:mode=0
 ·rw[cz8 (by simpa using h0),if_pos h0]
 ·rw[czt (by simpa using h0),if_neg h0]
  by_cases h1:mode=1
  ·rw[cz8 (by simpa using h1),if_pos h1]
   cases s==1<;>rfl
  ·rw[czt (by simpa using h1),if_neg h1]
   by_cases h2:mode=2
   ·rw[cz8 (by simpa using h2),if_pos h2]
   ·rw[czt (by simpa using h2),if_neg h2]
theorem Jzt (e:az4)(mode:Int):(nz8 e mode).o=some (ezi e.State mode):=Rzo e.State mode
def Eg (m:az9)(mode u v c:Int):Prop:=∃i,i<m.Edges.length/\ezi (m.Edges.getD i default).State mode=true/\(m.Edges.getD i default).Cost=c/\((m.Edges.getD i default).U=u/\(m.Edges.getD i default).V=v\/(m.Edges.getD i default).U=v/\(m.Edges.getD i default).V=u)
theorem Eg.graph {m:az9}(h:WF m)(mode:Int):Graph (Eg m mode) m.Points.length 1099511627776:=by
 refine⟨fun u v c ⟨i,h1,h2,h3,h4⟩=>⟨i,h1,h2,h3,h4.symm⟩,fun u v c ⟨i,h1,h2,h3,h4⟩=>?_,fun u v c ⟨i,h1,h2,h3,h4⟩=>?_⟩
 ·obtain⟨_,_,_,h5,h6⟩:=(h i h1).1;omega
 ·obtain⟨_,_,_,h5,h6⟩:=(h i h1).1;omega
theorem WF.lt {m:az9}(h:WF m){i j:Nat}(hij:i<j)(hj:j<m.Edges.length):eLt (m.Edges.getD i default) (m.Edges.getD j default):=by
 induction j with
 |zero=>omega
 |succ j ih=>
  have h1:=(h (j+1) hj).2 (by omega)
  rw[show j+1-1=j by omega]at h1
  by_cases he:i=j
  ·subst he;exact h1
  ·have:=ih (by omega) (by omega)
   unfold eLt at *;omega
theorem WF.one {m:az9}(h:WF m){i j:Nat}(hi:i<m.Edges.length)(hj:j<m.Edges.length)(hu:(m.Edges.getD i default).U=(m.Edges.getD j default).U)(hv:(m.Edges.getD i default).V=(m.Edges.getD j default).V):i=j:=by
 rcases Nat.lt_trichotomy i j with hlt|he|hlt
 ·have:=h.lt hlt hj;unfold eLt at this;omega
 ·exact he
 ·have:=h.lt hlt hi;unfold eLt at this;omega
def lk (mode v:Int)(e:az4):List aze:=if ezi e.State mode=true then(if e.U=v then [⟨e.V,e.Cost⟩]else if e.V=v then [⟨e.U,e.Cost⟩]else [])else []
def Bz0 (es:List az4)(mode v:Int):List aze:=es.flatMap (lk mode v)
theorem Lza (es:List az4)(e:az4)(mode v:Int):Bz0 (es++[e]) mode v=Bz0 es mode v++lk mode v e:=by simp[Bz0]
theorem Izd (es:List az4)(mode v:Int):(Bz0 es mode v).length≤es.length:=by
 induction es with
 |nil=>simp[Bz0]
 |cons e es ih=>
  have:(lk mode v e).length≤1:=by
   unfold lk;split
   ·split
    ·simp
    ·split<;>simp
   ·simp
  simp only[Bz0,List.flatMap_cons,List.length_append,List.length_cons]at ih⊢
  omega
theorem az0t (m:az9)(mode:Int)(hs:oza m)(hw:WF m)(hN:1000≤NN):
 ∃L,(izi m mode).o=some L/\L.length=m.Points.length/\∀v,v<m.Points.length->L.getD v default=Bz0 m.Edges mode v:=by
 obtain⟨hs1,hs2⟩:=hs
 simp only[Kzs,szn,T.run]
 ((repeat rw[azs (by omega)]))
 refine Qz5 (fun k (x:List (List aze)×Int)=>∃i:Nat,x.2=(i:Int)/\i+k=m.Edges.length/\x.1.length=m.Points.length/\∀v,v<m.Points.length->x.1.getD v default=Bz0 (m.Edges.take i) mode v)
  (fun L=>L.length=m.Points.length/\∀v,v<m.Points.length->L.getD v default=Bz0 m.Edges mode v) m.Edges.length ⟨0,rfl,by omega,by simp,fun v hv=>?_⟩ (by omega) ?_ (fun L h=>⟨L,rfl,h⟩)
 ·simp[List.getD_eq_getElem?_getD,hv,Bz0,nl]
 ·rintro k ⟨L,x⟩ ⟨i,hx,hi,hL,hlk⟩
  simp only at hx hL hlk
  subst hx
  simp only
  by_cases hlt:i<m.Edges.length
  ·(rw[az7 (by omega)];(repeat rw[azs (by omega)]);rw[Int.toNat_natCast,Rzo,Option.bind_some])
   obtain⟨o1,o2,o3,o4,o5⟩:=(hw i hlt).1
   have htake:=Jzr hlt
   left
   by_cases hu:ezi (m.Edges.getD i default).State mode=true
   ·rw[cz8 hu]
    have hlenU:(L.getD (m.Edges.getD i default).U.toNat default).length≤m.Edges.length:=by
     rw[hlk _ (by omega)];have:=Izd (m.Edges.take i) mode (((m.Edges.getD i default).U.toNat:Nat):Int);simp at this⊢;omega
    have hlenV:(L.getD (m.Edges.getD i default).V.toNat default).length≤m.Edges.length:=by
     rw[hlk _ (by omega)];have:=Izd (m.Edges.take i) mode (((m.Edges.getD i default).V.toNat:Nat):Int);simp at this⊢;omega
    ((repeat rw[azs (by omega)]))
    rw[jzb (i:=(m.Edges.getD i default).U.toNat) (k:=(m.Edges.getD i default).V.toNat) (by omega),if_neg (by omega)]
    (rw[List.length_set];(repeat(first|rw[azs (by omega)]|rw[azs (by simp only[List.length_singleton,List.length_set,List.length_replicate,azr,and_true];omega)]));rw[az8,w64n (by omega)])
    refine⟨_,k-1,rfl,by omega,i+1,rfl,by omega,by simpa using hL,fun v hv=>?_⟩
    simp only
    rw[jzb (by rw[List.length_set];omega),jzb (by omega),htake,Lza,←hlk v hv]
    by_cases h1:v=(m.Edges.getD i default).V.toNat
    ·rw[if_pos h1]
     unfold lk
     rw[if_pos hu,if_neg (by omega),if_pos (by omega),h1]
    ·rw[if_neg h1]
     by_cases h2:v=(m.Edges.getD i default).U.toNat
     ·rw[if_pos h2]
      unfold lk
      rw[if_pos hu,if_pos (by omega),h2]
     ·rw[if_neg h2]
      unfold lk
      rw[if_pos hu,if_neg (by omega),if_neg (by omega),List.append_nil]
   ·rw[czt (by simpa using hu),az8,w64n (by omega)]
    refine⟨_,k-1,rfl,by omega,i+1,rfl,by omega,hL,fun v hv=>?_⟩
    simp only
    rw[htake,Lza,←hlk v hv]
    unfold lk
    rw[if_neg hu,List.append_nil]
  ·right
   rw[az6 (by omega)]
   refine⟨_,rfl,hL,fun v hv=>?_⟩
   rw[hlk v hv,az1p (by omega)]
theorem Yz8 {m:az9}(h:WF m){mode v w c:Int}:(⟨w,c⟩:aze)∈Bz0 m.Edges mode v↔Eg m mode v w c:=by
 unfold Bz0
 rw[List.mem_flatMap]
 constructor
 ·rintro⟨e,he,hl⟩
  obtain⟨i,hi,rfl⟩:=mem_getD.1 he
  obtain⟨o1,o2,o3,o4,o5⟩:=(h i hi).1
  unfold lk at hl
  split at hl
  ·rename_i hu
   split at hl
   ·rename_i h1
    simp at hl
    exact⟨i,hi,hu,hl.2.symm,.inl ⟨h1,hl.1.symm⟩⟩
   ·split at hl
    ·rename_i h1 h2
     simp at hl
     exact⟨i,hi,hu,hl.2.symm,.inr ⟨hl.1.symm,h2⟩⟩
    ·simp at hl
  ·simp at hl
 ·rintro⟨i,hi,hu,hc,huv⟩
  obtain⟨o1,o2,o3,o4,o5⟩:=(h i hi).1
  refine⟨(m.Edges.getD i default),mem_getD.2 ⟨i,hi,rfl⟩,?_⟩
  unfold lk
  rw[if_pos hu]
  rcases huv with⟨h1,h2⟩|⟨h1,h2⟩
  ·rw[if_pos h1,h2,hc];exact List.mem_singleton.2 rfl
  ·rw[if_neg (by omega),if_pos h2,h1,hc];exact List.mem_singleton.2 rfl
theorem Qz4 {m:az9}(h:WF m)(mode v:Int):(Bz0 m.Edges mode v).Pairwise (fun a b=>a.to<b.to):=by
 have hp:m.Edges.Pairwise (fun a b=>eLt a b/\a.U<a.V/\b.U<b.V):=by
  rw[List.pairwise_iff_getElem]
  intro i j hi hj hij
  have h1:=h.lt hij hj
  have h2:=(h i hi).1
  have h3:=(h j hj).1
  simp only[List.getD_eq_getElem?_getD,List.getElem?_eq_getElem hi,List.getElem?_eq_getElem hj,Option.getD_some]at h1 h2 h3
  exact⟨h1,h2.2.1,h3.2.1⟩
 unfold Bz0
 generalize m.Edges=es at hp
 induction es with
 |nil=>simp
 |cons e es ih=>
  rw[List.pairwise_cons]at hp
  rw[List.flatMap_cons,List.pairwise_append]
  refine⟨?_,ih hp.2,fun a ha b hb=>?_⟩
  ·unfold lk;split
   ·split
    ·simp
    ·split<;>simp
   ·simp
  ·rw[List.mem_flatMap]at hb
   obtain⟨e',he',hb⟩:=hb
   obtain⟨h1,h2,h3⟩:=hp.1 e' he'
   unfold eLt at h1
   unfold lk at ha hb
   split at ha
   ·split at hb
    ·split at ha
     ·split at hb
      ·simp at ha hb;subst ha;subst hb;simp only;omega
      ·split at hb
       ·simp at ha hb;subst ha;subst hb;simp only;omega
       ·simp at hb
     ·split at ha
      ·split at hb
       ·simp at ha hb;subst ha;subst hb;simp only;omega
       ·split at hb
        ·simp at ha hb;subst ha;subst hb;simp only;omega
        ·simp at hb
      ·simp at ha
    ·simp at hb
   ·simp at ha
abbrev rkv (R:List azc)(v:Int):azc:=R.getD v.toNat default
abbrev leR (a b:azc):Prop:=a.cost<b.cost\/a.cost=b.cost/\a.points≤b.points
theorem Tz9 {R:List azc}{q v:Int}{x:azc}(hq:0≤q/\q<(R.length:Int))(hv:0≤v):rkv (R.set q.toNat x) v=if v=q then x else rkv R v:=by
 unfold rkv
 rw[jzb (by omega)]
 by_cases h:v=q
 ·subst h;rw[if_pos rfl,if_pos rfl]
 ·rw[if_neg (by omega),if_neg h]
def rest (d:Nat->Nat)(S:Nat->Bool):Nat->Nat
 |0=>0
 |n+1=>rest d S n+if S n=true then 0 else d n
theorem Jzf {d:Nat->Nat}{S S':Nat->Bool}:∀ {n:Nat},(∀i,i<n->S' i=S i)->rest d S' n=rest d S n
 |0,_=>rfl
 |n+1,h=>by simp only[rest];rw[Jzf (fun i hi=>h i (by omega)),h n (by omega)]
theorem Vz1 {d:Nat->Nat}{S:Nat->Bool}{v:Nat}(hv:S v=false):∀ {n:Nat},v<n->rest d (fun i=>i==v||S i) n+d v=rest d S n
 |0,h=>by omega
 |n+1,h=>by
  simp only[rest]
  by_cases e:n=v
  ·subst e
   rw[Jzf (S:=S) (fun i hi=>by have:(i==n)=false:=by simp;omega
                               simp[this])]
   simp[hv]
  ·have:=Vz1 (d:=d) hv (n:=n) (by omega)
   have h2:(n==v)=false:=by simpa using e
   simp only[h2,Bool.false_or]
   omega
theorem Tz7 {d:Nat->Nat}{S:Nat->Bool}{B:Nat}(h:∀i,d i≤B):∀ (n:Nat),rest d S n≤n * B
 |0=>by simp[rest]
 |n+1=>by
  have:=Tz7 (S:=S) h n
  have:=h n
  simp only[rest,Nat.succ_mul]
  split<;>omega
section
variable (E:Int->Int->Int->Prop) (t fr:Int) (L:List (List aze))
structure DInv (R:List azc) (q:List azf) (S:Nat->Bool) (V:Int->Int->Int->Prop):Prop where
 len:R.length=L.length
 walk:∀v:Int,0≤v->v<(L.length:Int)->(rkv R v).points=0\/(1≤(rkv R v).points/\Walk E t v (rkv R v).cost ((rkv R v).points-1))
 few:∀v:Int,0≤v->v<(L.length:Int)->(rkv R v).points≤L.length+1
 src:rkv R t=⟨0,1⟩
 best:∀v:Int,0≤v->v<(L.length:Int)->S v.toNat=true->Best E t v (rkv R v).cost ((rkv R v).points-1)/\1≤(rkv R v).points
 relaxed:∀v w c:Int,0≤v->v<(L.length:Int)->S v.toNat=true->V v w c->1≤(rkv R w).points/\leR (rkv R w) ⟨(rkv R v).cost+c,(rkv R v).points+1⟩
 queued:∀v:Int,0≤v->v<(L.length:Int)->1≤(rkv R v).points->S v.toNat=false->(⟨rkv R v,v⟩:azf)∈q
 entry:∀e∈q,0≤e.point/\e.point<(L.length:Int)/\1≤e.rank.points/\1≤(rkv R e.point).points/\leR (rkv R e.point) e.rank
 low:∀v:Int,0≤v->v<(L.length:Int)->S v.toNat=true->∀e∈q,leR (rkv R v) e.rank
 heap:Heap q
 notFrom:S fr.toNat=false
end
variable {E:Int->Int->Int->Prop} {t fr C:Int} {L:List (List aze)}
theorem DInv.pts {R:List azc}{q:List azf}{S:Nat->Bool}{V:Int->Int->Int->Prop}(h:DInv E t fr L R q S V):Pts q:=fun y hy=>(h.entry y hy).2.2.1
theorem DInv.key (g:Graph E L.length C)(ht:0≤t/\t<(L.length:Int)){R:List azc}{q:List azf}{S:Nat->Bool}(h:DInv E t fr L R q S E):
 ∀ (k:Nat) (w c:Int),Best E t w c (k:Int)->S w.toNat=true\/∃e∈q,leR e.rank ⟨c,k+1⟩:=by
 intro k
 induction k with
 |zero=>
  intro w c hb
  obtain⟨rfl,rfl⟩:=hb.1.zero g (by omega)
  cases hs:S w.toNat with
  |true=>exact .inl rfl
  |false=>
   have hp:1≤(rkv R w).points:=by rw[h.src];decide
   refine .inr ⟨_,h.queued w ht.1 ht.2 hp hs,?_⟩
   rw[h.src];exact .inr ⟨rfl,by simp⟩
 |succ k ih=>
  intro w c hb
  obtain⟨u,e,he,hbu⟩:=hb.step (by omega)
  have hlt:=g.lt _ _ _ he
  have hce:=g.cost _ _ _ he
  rw[show((k+1:Nat):Int)-1=(k:Int) by omega]at hbu
  rcases ih u (c-e) hbu with hs|⟨y,hy,hle⟩
  ·have h1:=h.relaxed u w e hlt.2.2.1 hlt.2.2.2 hs (g.sym _ _ _ he)
   have h2:=h.best u hlt.2.2.1 hlt.2.2.2 hs
   have h3:=h2.1.unique hbu
   cases hsw:S w.toNat with
   |true=>exact .inl rfl
   |false=>
    refine .inr ⟨_,h.queued w hlt.1 hlt.2.1 h1.1 hsw,?_⟩
    simp only[leR]at h1⊢
    omega
  ·refine .inr ⟨y,hy,?_⟩
   simp only[leR]at hle⊢
   omega
theorem DInv.first (g:Graph E L.length C)(ht:0≤t/\t<(L.length:Int)){R:List azc}{q:List azf}{S:Nat->Bool}(h:DInv E t fr L R q S E){v:Int}(hv:0≤v/\v<(L.length:Int))
 {r:azc} (hr:rkv R v=r) (hset:1≤r.points) (hmin:∀y∈q,¬ltR y.rank r):Best E t v r.cost (r.points-1):=by
 obtain⟨hp,hw⟩:=(h.walk v hv.1 hv.2).resolve_left (by rw[hr];omega)
 rw[hr]at hw
 obtain⟨c,k,hb⟩:=Best.exists g hw
 have h0:=hb.1.ge g
 have h1:=hb.2 _ _ hw
 obtain⟨k',rfl⟩:∃k':Nat,k=k':=⟨k.toNat,by omega⟩
 rcases h.key g ht k' v c hb with hs|⟨y,hy,hle⟩
 ·have:=(h.best v hv.1 hv.2 hs).1
  rw[hr]at this;exact this
 ·have h2:=hmin y hy
  unfold ltR at h2
  simp only[leR]at hle
  have e1:r.cost=c:=by omega
  have e2:r.points-1=k':=by omega
  rw[e1,e2];exact hb
theorem DInv.settled (g:Graph E L.length C)(ht:0≤t/\t<(L.length:Int)){R:List azc}{q:List azf}{S:Nat->Bool}(h:DInv E t fr L R q S E){w c k:Int}(hb:Best E t w c k)
 (hmin:∀y∈q,ltR ⟨c,k+1⟩ y.rank):rkv R w=⟨c,k+1⟩:=by
 have h0:=hb.1.ge g
 have hw:=hb.1.lt g ht
 obtain⟨k',rfl⟩:∃k':Nat,k=k':=⟨k.toNat,by omega⟩
 rcases h.key g ht k' w c hb with hs|⟨y,hy,hle⟩
 ·obtain⟨h1,h2⟩:=h.best w hw.1 hw.2 hs
  have:=h1.unique hb
  generalize rkv R w=z at this
  obtain⟨z1,z2⟩:=z
  simp only at this
  rw[this.1,show z2=(k':Int)+1 by omega]
 ·have:=hmin y hy
  unfold ltR at this
  simp only[leR]at this hle
  omega
theorem DInv.relax (g:Graph E L.length C){R:List azc}{q q':List azf}{S:Nat->Bool}{V:Int->Int->Int->Prop}(hV:∀v w c,V v w c->E v w c)(h:DInv E t fr L R q S V){v w c:Int}
 (ht:0≤t/\t<(L.length:Int)) (hs:S v.toNat=true) (he:E v w c) (hbet:(rkv R w).points=0\/ltR ⟨(rkv R v).cost+c,(rkv R v).points+1⟩ (rkv R w)) (hh:Heap q')
 (hq':∀y,y∈q'↔(y∈q\/y=⟨⟨(rkv R v).cost+c,(rkv R v).points+1⟩,w⟩)) (hlow:∀u:Int,0≤u->u<(L.length:Int)->S u.toNat=true->leR (rkv R u) (rkv R v)):
 DInv E t fr L (R.set w.toNat ⟨(rkv R v).cost+c,(rkv R v).points+1⟩) q' S (fun a b d=>V a b d\/(a=v/\b=w/\d=c))/\w≠v/\S w.toNat=false:=by
 have hlt:=g.lt _ _ _ he
 have hce:=g.cost _ _ _ he
 obtain⟨hbv,hpv⟩:=h.best v hlt.1 hlt.2.1 hs
 have hww:Walk E t w ((rkv R v).cost+c) ((rkv R v).points-1+1):=.cons (g.sym _ _ _ he) hbv.1
 have hnot:S w.toNat=false:=by
  cases hsw:S w.toNat with
  |false=>rfl
  |true=>
   obtain⟨b1,b2⟩:=h.best w hlt.2.2.1 hlt.2.2.2 hsw
   have:=b1.2 _ _ hww
   unfold ltR at hbet
   simp only at hbet
   omega
 have hwv:w≠v:=fun e=>by rw[e,hs]at hnot;cases hnot
 have hset:∀u:Int,0≤u->rkv (R.set w.toNat ⟨(rkv R v).cost+c,(rkv R v).points+1⟩) u=if u=w then⟨(rkv R v).cost+c,(rkv R v).points+1⟩else rkv R u:=fun u hu=>Tz9 ⟨hlt.2.2.1,by have:=h.len;omega⟩ hu
 have hS:∀u:Int,0≤u->S u.toNat=true->rkv (R.set w.toNat ⟨(rkv R v).cost+c,(rkv R v).points+1⟩) u=rkv R u:=fun u hu hsu=>by
  rw[hset u hu,if_neg (fun e=>by subst e;rw[hnot]at hsu;cases hsu)]
 have hmono:∀u:Int,0≤u->1≤(rkv R u).points->1≤(rkv (R.set w.toNat ⟨(rkv R v).cost+c,(rkv R v).points+1⟩) u).points/\leR (rkv (R.set w.toNat ⟨(rkv R v).cost+c,(rkv R v).points+1⟩) u) (rkv R u):=fun u hu hp=>by
  rw[hset u hu]
  by_cases e:u=w
  ·subst e
   rw[if_pos rfl]
   unfold ltR at hbet
   simp only[leR]at hbet⊢
   omega
  ·rw[if_neg e];exact⟨hp,.inr ⟨rfl,Int.le_refl _⟩⟩
 refine⟨⟨by simpa using h.len,fun u h0 h1=>?_,fun u h0 h1=>?_,?_,fun u h0 h1 hsu=>?_,fun u x d h0 h1 hsu hv=>?_,fun u h0 h1 hp hsu=>?_,fun y hy=>?_,fun u h0 h1 hsu y hy=>?_,hh,h.notFrom⟩,hwv,hnot⟩
 ·rw[hset u h0]
  by_cases e:u=w
  ·subst e
   rw[if_pos rfl]
   refine .inr ⟨by simp only;omega,?_⟩
   have:(rkv R v).points-1+1=(rkv R v).points+1-1:=by omega
   rw[this]at hww
   exact hww
  ·rw[if_neg e];exact h.walk u h0 h1
 ·rw[hset u h0]
  by_cases e:u=w
  ·rw[if_pos e]
   have:=hbv.few g ht
   simp only;omega
  ·rw[if_neg e];exact h.few u h0 h1
 ·rw[hset t ht.1,if_neg (fun e=>?_)]
  ·exact h.src
  ·subst e
   rw[h.src]at hbet
   have h0:=hbv.1.ge g
   unfold ltR at hbet
   simp only at hbet
   omega
 ·rw[hS u h0 hsu];exact h.best u h0 h1 hsu
 ·rw[hS u h0 hsu]
  rcases hv with hv|⟨rfl,rfl,rfl⟩
  ·have h2:=h.relaxed u x d h0 h1 hsu hv
   have hx:=(g.lt _ _ _ (hV _ _ _ hv)).2.2.1
   have h3:=hmono x hx h2.1
   refine⟨h3.1,?_⟩
   have h4:=h2.2
   have h5:=h3.2
   simp only[leR]at h4 h5⊢
   omega
  ·rw[hset x hlt.2.2.1,if_pos rfl]
   exact⟨by simp only;omega,.inr ⟨rfl,Int.le_refl _⟩⟩
 ·rw[hset u h0]at hp⊢
  by_cases e:u=w
  ·rw[if_pos e];exact(hq' _).2 (.inr (by rw[e]))
  ·rw[if_neg e]at hp⊢;exact(hq' _).2 (.inl (h.queued u h0 h1 hp hsu))
 ·rcases(hq' y).1 hy with hy|rfl
  ·obtain⟨e1,e2,e3,e4,e5⟩:=h.entry y hy
   have h3:=hmono y.point e1 e4
   refine⟨e1,e2,e3,h3.1,?_⟩
   have h5:=h3.2
   simp only[leR]at h5 e5⊢
   omega
  ·refine⟨hlt.2.2.1,hlt.2.2.2,by simp only;omega,?_⟩
   simp only
   rw[hset w hlt.2.2.1,if_pos rfl]
   exact⟨by simp only;omega,.inr ⟨rfl,Int.le_refl _⟩⟩
 ·rw[hS u h0 hsu]
  rcases(hq' y).1 hy with hy|rfl
  ·exact h.low u h0 h1 hsu y hy
  ·have:=hlow u h0 h1 hsu
   simp only[leR]at this⊢
   omega
theorem DInv.skip {R:List azc}{q:List azf}{S:Nat->Bool}{V:Int->Int->Int->Prop}(h:DInv E t fr L R q S V){v w c:Int}
 (hbet:¬ ((rkv R w).points=0\/ltR ⟨(rkv R v).cost+c,(rkv R v).points+1⟩ (rkv R w))) (hw:0≤w/\w<(L.length:Int)):
 DInv E t fr L R q S (fun a b d=>V a b d\/(a=v/\b=w/\d=c)):=by
 refine⟨h.len,h.walk,h.few,h.src,h.best,fun u x d h0 h1 hsu hv=>?_,h.queued,h.entry,h.low,h.heap,h.notFrom⟩
 rcases hv with hv|⟨rfl,rfl,rfl⟩
 ·exact h.relaxed u x d h0 h1 hsu hv
 ·have:=h.walk x hw.1 hw.2
  unfold ltR at hbet
  simp only[leR]at hbet⊢
  omega
theorem DInv.congr {R:List azc}{q:List azf}{S:Nat->Bool}{V V':Int->Int->Int->Prop}(h:DInv E t fr L R q S V)(hv:∀a b d,S a.toNat=true->V' a b d->V a b d):DInv E t fr L R q S V':=
 ⟨h.len,h.walk,h.few,h.src,h.best,fun u x d h0 h1 hsu hv'=>h.relaxed u x d h0 h1 hsu (hv _ _ _ hsu hv'),h.queued,h.entry,h.low,h.heap,h.notFrom⟩
theorem Bzm (a0:aze)(a1:(List azc))(a2:Int):(fz3 a0 a1 a2).o=(izw a0 a1 a2).run NN:=rfl
theorem gzk (a0:(List aze))(a1:(List azc))(a2:Int):(bzr a0 a1 a2).o=(czg a0 a1 a2).run NN:=rfl
theorem Fza (a0:(List (List aze)))(a1:Int)(a2:Int):(ezy a0 a1 a2).o=(lzg a0 a1 a2).run NN:=rfl
structure Lks (E:Int->Int->Int->Prop) (L:List (List aze)):Prop where
 graph:Graph E L.length 1099511627776
 mem:∀v w c:Int,0≤v->v<(L.length:Int)->((⟨w,c⟩:aze)∈L.getD v.toNat default↔E v w c)
 few:∀i,(L.getD i default).length≤200
 len:L.length≤100
 sorted:∀i,i<L.length->(L.getD i default).Pairwise (fun a b=>a.to<b.to)
def az72 (E:Int->Int->Int->Prop)(t fr:Int)(L:List (List aze))(R:List azc):Prop:=
 R.length=L.length/\(∀v:Int,0≤v->v<(L.length:Int)->(rkv R v).points=0\/(1≤(rkv R v).points/\Walk E t v (rkv R v).cost ((rkv R v).points-1)))/\
 (∀v:Int,0≤v->v<(L.length:Int)->(rkv R v).points≤L.length+1)/\
 ∀c k,Best E t fr c k->rkv R fr=⟨c,k+1⟩/\∀w c' k',Best E t w c' k'->(c'<c\/c'=c/\k'<k)->rkv R w=⟨c',k'+1⟩
variable {E:Int->Int->Int->Prop} {t fr:Int} {L:List (List aze)}
theorem DInv.drop {R:List azc}{q q1:List azf}{S:Nat->Bool}{V:Int->Int->Int->Prop}{x:azf}(h:DInv E t fr L R q S V)(h1:∀y∈q1,y∈q)(h2:∀y∈q,y=x\/y∈q1)(hh:Heap q1)
 (hx:rkv R x.point≠x.rank):DInv E t fr L R q1 S V:=
 ⟨h.len,h.walk,h.few,h.src,h.best,h.relaxed,fun v h0 hl hp hs=>(h2 _ (h.queued v h0 hl hp hs)).resolve_left (fun e=>hx (by rw[←e])),fun y hy=>h.entry y (h1 y hy),fun v h0 hl hs y hy=>h.low v h0 hl hs y (h1 y hy),hh,h.notFrom⟩
theorem DInv.settle (g:Graph E L.length 1099511627776)(ht:0≤t/\t<(L.length:Int))(hf:0≤fr){R:List azc}{q q1:List azf}{S:Nat->Bool}{x:azf}(h:DInv E t fr L R q S E)(hxq:x∈q)(h1:∀y∈q1,y∈q)(h2:∀y∈q,y=x\/y∈q1)(hh:Heap q1)
 (hx:rkv R x.point=x.rank) (hmin:∀y∈q,¬ltR y.rank x.rank) (hxf:x.point≠fr):
 DInv E t fr L R q1 (fun i=>i==x.point.toNat||S i) (fun a b d=>S a.toNat=true/\E a b d):=by
 obtain⟨e1,e2,e3,e4,e5⟩:=h.entry x hxq
 have hb:=h.first g ht ⟨e1,e2⟩ hx e3 hmin
 have hS:∀u:Int,0≤u->(u.toNat==x.point.toNat||S u.toNat)=true->u=x.point\/S u.toNat=true:=by
  intro u hu h
  rw[Bool.or_eq_true]at h
  rcases h with h|h
  ·left;have:=eq_of_beq h;omega
  ·exact .inr h
 refine⟨h.len,h.walk,h.few,h.src,fun v h0 hl hs=>?_,fun v w c h0 hl hs hv=>h.relaxed v w c h0 hl hv.1 hv.2,fun v h0 hl hp hs=>?_,fun y hy=>h.entry y (h1 y hy),fun v h0 hl hs y hy=>?_,hh,?_⟩
 ·rcases hS v h0 hs with rfl|hs
  ·rw[hx];exact⟨hb,e3⟩
  ·exact h.best v h0 hl hs
 ·simp only[Bool.or_eq_false_iff]at hs
  refine(h2 _ (h.queued v h0 hl hp hs.2)).resolve_left (fun e=>?_)
  have:v=x.point:=by rw[←e]
  rw[this]at hs
  simp at hs
 ·rcases hS v h0 hs with rfl|hs
  ·rw[hx]
   have:=hmin y (h1 y hy)
   unfold ltR at this
   simp only[leR];omega
  ·exact h.low v h0 hl hs y (h1 y hy)
 ·simp only[Bool.or_eq_false_iff]
  refine⟨?_,h.notFrom⟩
  rw[beq_eq_false_iff_ne];omega
theorem az32 {l:aze}{R:List azc}{v:Int}(h1:0≤l.to/\l.to<(R.length:Int))(h2:0≤v/\v<(R.length:Int))(h3:1≤(rkv R v).points/\(rkv R v).points≤1000000)(h4:0≤l.cost/\l.cost≤1099511627776)
 (h5:(rkv R l.to).points=(rkv R v).points-1->0≤(rkv R l.to).cost/\(rkv R l.to).cost≤4000000000000000000):
 (fz3 l R v).o=some (decide ((rkv R l.to).points=(rkv R v).points-1/\(rkv R l.to).cost+l.cost=(rkv R v).cost),R,v):=by
 simp only[Bzm,izw,T.run]
 ((repeat rw[azs (by omega)]);rw[w64 (x:=(rkv R v).points-1) (by omega) (by omega)])
 by_cases hp:(rkv R l.to).points=(rkv R v).points-1
 ·have:=h5 hp
  (rw[cz4 hp];(repeat rw[azs (by omega)]);rw[w64 (x:=(rkv R l.to).cost+l.cost) (by omega) (by omega)])
  by_cases hc:(rkv R l.to).cost+l.cost=(rkv R v).cost
  ·rw[decide_eq_true ⟨hp,hc⟩,beq_iff_eq.2 hc]
  ·rw[decide_eq_false (fun h=>hc h.2),beq_eq_false_iff_ne.2 hc]
 ·rw[czj hp,decide_eq_false (fun h=>hp h.1)]
theorem az0p {l:List aze}{R:List azc}{v:Int}(M:aze->Prop)[DecidablePred M](hN:l.length+1<NN)(hl:l.length<1000000)(h:∀x∈l,(fz3 x R v).o=some (decide (M x),R,v))(hex:∃x∈l,M x):
 ∃i:Nat,(bzr l R v).o=some ((i:Int),R,v)/\i<l.length/\M (l.getD i default)/\∀j,j<i->¬M (l.getD j default):=by
 have key:∃r,(bzr l R v).o=some r/\∃i:Nat,r=((i:Int),R,v)/\i<l.length/\M (l.getD i default)/\∀j,j<i->¬M (l.getD j default):=by
  simp only[gzk,czg,T.run]
  refine kzy (fun k (x:List azc×Int×Int)=>∃i:Nat,x=(R,v,(i:Int))/\i+k=l.length/\∀j,j<i->¬M (l.getD j default)) (fun _=>False) l.length ⟨0,rfl,by omega,fun j hj=>by omega⟩ (by omega) ?_ (fun _ h=>h.elim)
  rintro k x ⟨i,rfl,hi,hpre⟩
  dsimp only
  by_cases hlt:i<l.length
  ·(rw[az7 (by omega)];(repeat rw[azs (by omega)]);rw[Int.toNat_natCast,h _ (mem_getD.2 ⟨i,hlt,rfl⟩),Option.bind_some])
   dsimp only
   by_cases hM:M (l.getD i default)
   ·rw[az7 hM]
    exact .inr (.inr ⟨_,rfl,i,rfl,hlt,hM,hpre⟩)
   ·rw[az6 hM,w64n (by omega)]
    refine .inl ⟨_,k-1,rfl,by omega,i+1,rfl,by omega,fun j hj=>?_⟩
    by_cases hji:j=i
    ·subst hji;exact hM
    ·exact hpre j (by omega)
  ·exfalso
   obtain⟨x,hx,hMx⟩:=hex
   obtain⟨j,hj,rfl⟩:=mem_getD.1 hx
   exact hpre j (by omega) hMx
 obtain⟨r,h1,i,rfl,h2⟩:=key
 exact⟨i,h1,h2⟩
theorem Rzi (hk:Lks E L)(ht:0≤t/\t<(L.length:Int))(hfr:0≤fr/\fr<(L.length:Int))(hN:100000≤NN):
 ∃r:List Int×Int×Bool,(ezy L fr t).o=some r/\((r.2.2=false/\r.1=nl/\r.2.1=0/\∀c k,¬Walk E t fr c k)\/(r.2.2=true/\∃c k l,Best E t fr c k/\Rt E t fr l/\r.1=fr::l/\r.2.1=c)):=by
 have g:=hk.graph
 have hlen:=hk.len
 simp only[Fza,lzg,T.run]
 ((repeat rw[azs (by omega)]);rw[Int.toNat_natCast];(repeat rw[azs (by omega)]))
 have hset:∀v:Int,0≤v->rkv ((List.replicate L.length (⟨0,0⟩:azc)).set t.toNat ⟨0,1⟩) v=if v=t then⟨0,1⟩else rkv (List.replicate L.length ⟨0,0⟩) v:=fun v hv=>Tz9 ⟨ht.1,by simpa using ht.2⟩ hv
 have hrep:∀v:Int,rkv (List.replicate L.length (⟨0,0⟩:azc)) v=⟨0,0⟩:=fun v=>by
  unfold rkv
  rw[List.getD_eq_getElem?_getD,List.getElem?_replicate]
  split<;>rfl
 have hl0:((List.replicate L.length (⟨0,0⟩:azc)).set t.toNat ⟨0,1⟩).length=L.length:=by simp
 generalize (List.replicate L.length (⟨0,0⟩:azc)).set t.toNat ⟨0,1⟩=R0 at hset hl0
 have hR0t:rkv R0 t=⟨0,1⟩:=by rw[hset t ht.1,if_pos rfl]
 ((repeat(first|rw[azs (by omega)]|rw[azs (by simp only[List.length_singleton,List.length_set,List.length_replicate,azr,and_true];omega)])))
 rw[show R0.getD t.toNat default=⟨0,1⟩from hR0t]
 refine Nz7 (g:=fun r=>r) (fun m (x:List azc×List azf)=>∃S,DInv E t fr L x.1 x.2 S E/\x.2.length+rest (fun i=>(L.getD i default).length) S L.length≤m/\m≤20001)
  (az72 E t fr L) (1+rest (fun i=>(L.getD i default).length) (fun _=>false) L.length) ⟨fun _=>false,⟨hl0,fun v h0 h1=>?_,fun v h0 h1=>?_,hR0t,by simp,by simp,fun v h0 h1 hp _=>?_,fun e he=>?_,by simp,?_,rfl⟩,by simp,?_⟩ ?_ ?_ ?_
 ·rw[hset v h0]
  by_cases e:v=t
  ·rw[if_pos e];subst e;exact .inr ⟨by decide,.nil⟩
  ·rw[if_neg e,hrep];exact .inl rfl
 ·rw[hset v h0]
  by_cases e:v=t
  ·rw[if_pos e];simp only;omega
  ·rw[if_neg e,hrep];simp only;omega
 ·rw[hset v h0]at hp⊢
  by_cases e:v=t
  ·rw[if_pos e,e];simp
  ·rw[if_neg e,hrep]at hp;exact absurd hp (by decide)
 ·simp only[List.mem_singleton]at he
  subst he
  refine⟨ht.1,ht.2,Int.le_refl 1,?_⟩
  simp only
  rw[hR0t]
  exact⟨by decide,.inr ⟨rfl,Int.le_refl _⟩⟩
 ·intro i h0 h1;simp at h1;omega
 ·have:=Tz7 (S:=fun _=>false) (fun i=>hk.few i) L.length
  have:L.length * 200≤100 * 200:=Nat.mul_le_mul_right _ hlen
  omega
 ·have:=Tz7 (S:=fun _=>false) (fun i=>hk.few i) L.length
  have:L.length * 200≤100 * 200:=Nat.mul_le_mul_right _ hlen
  omega
 ·rintro m ⟨R,q⟩ ⟨S,hI,hm,hm2⟩
  simp only at hI hm
  dsimp only
  by_cases hq:0<q.length
  ·rw[az7 (by omega)]
   obtain⟨q1,hpop,hheap1,hlen1,hsub,hsup,hmin⟩:=az6i q (by omega) hq (by omega) hI.heap hI.pts
   have hxq:q.getD 0 default∈q:=mem_getD.2 ⟨0,hq,rfl⟩
   rw[hpop,Option.bind_some]
   generalize q.getD 0 default=x at hsup hmin hxq
   dsimp only
   obtain⟨e1,e2,e3,e4,e5⟩:=hI.entry x hxq
   have hRl:=hI.len
   by_cases hxf:x.point=fr
   ·right
    rw[cz4 hxf]
    refine⟨_,rfl,hI.len,hI.walk,hI.few,fun c k hb=>?_⟩
    rw[hxf]at e4 e5
    have hb0:=hb.1.ge g
    have hw:=(hI.walk fr hfr.1 hfr.2).resolve_left (by omega)
    have h1:=hb.2 _ _ hw.2
    obtain⟨k',rfl⟩:∃k':Nat,k=k':=⟨k.toNat,by omega⟩
    obtain⟨y,hy,hle⟩:=(hI.key g ht k' fr c hb).resolve_left (by rw[hI.notFrom];simp)
    have h2:=hmin y hy
    unfold ltR at h2
    simp only[leR]at hle e5
    have a1:(rkv R fr).cost=c:=by omega
    have a2:(rkv R fr).points=k'+1:=by omega
    have a3:x.rank.cost=c/\x.rank.points=k'+1:=by omega
    refine⟨?_,fun w c' k2 hb' hlt=>hI.settled g ht hb' fun y' hy'=>?_⟩
    ·generalize rkv R fr=z at a1 a2
     obtain⟨z1,z2⟩:=z
     simp only at a1 a2
     rw[a1,a2]
    ·have h3:=hmin y' hy'
     unfold ltR at h3⊢
     simp only
     omega
   ·left
    (rw[czj hxf];(repeat rw[azs (by omega)]))
    by_cases hst:x.rank.cost=(rkv R x.point).cost/\x.rank.points=(rkv R x.point).points
    ·have hx:rkv R x.point=x.rank:=by
      obtain⟨s1,s2⟩:=hst
      generalize rkv R x.point=z at s1 s2
      generalize x.rank=z' at s1 s2
      obtain⟨z1,z2⟩:=z
      obtain⟨z3,z4⟩:=z'
      simp only at s1 s2
      rw[s1,s2]
     (rw[czt (by rw[beq_iff_eq.2 hst.1,beq_iff_eq.2 hst.2];rfl)];(repeat rw[azs (by omega)]))
     have hb:=hI.first g ht ⟨e1,e2⟩ hx e3 hmin
     have hb0:=hb.1.ge g
     have hbn:=hb.few g ht
     have hbc:=hb.1.le g
     have hbc2:(x.rank.points-1) * 1099511627776≤100 * 1099511627776:=Int.mul_le_mul_of_nonneg_right (by omega) (by omega)
     have hS0:=hI.settle g ht hfr.1 hxq hsub hsup hheap1 hx hmin hxf
     have hfew:=hk.few x.point.toNat
     refine Nz7 (g:=Step3.next) (fun k' (z:List azc×List azf×Int)=>∃j:Nat,z.2.2=(j:Int)/\j+k'=(L.getD x.point.toNat default).length/\
      DInv E t fr L z.1 z.2.1 (fun i=>i==x.point.toNat||S i) (fun a b d=>(S a.toNat=true/\E a b d)\/(a=x.point/\∃i,i<j/\(L.getD x.point.toNat default).getD i default=⟨b,d⟩))/\rkv z.1 x.point=x.rank/\
      (∀u:Int,0≤u->u<(L.length:Int)->(u.toNat==x.point.toNat||S u.toNat)=true->leR (rkv z.1 u) x.rank)/\z.2.1.length≤q1.length+j/\(S x.point.toNat=true->z.2.1=q1))
      (fun z=>DInv E t fr L z.1 z.2 (fun i=>i==x.point.toNat||S i) (fun a b d=>(S a.toNat=true/\E a b d)\/(a=x.point/\∃i,i<(L.getD x.point.toNat default).length/\(L.getD x.point.toNat default).getD i default=⟨b,d⟩))/\
       z.2.length≤q1.length+(L.getD x.point.toNat default).length/\(S x.point.toNat=true->z.2=q1))
      (L.getD x.point.toNat default).length ⟨0,rfl,by omega,hS0.congr (fun a b d _ hv=>?_),hx,fun u h0 h1 hsu=>?_,by simp,fun _=>rfl⟩ (by omega) ?_ ?_
     ·rcases hv with hv|⟨_,i,hi,_⟩
      ·exact hv
      ·omega
     ·rw[Bool.or_eq_true]at hsu
      rcases hsu with hsu|hsu
      ·have:u=x.point:=by have:=eq_of_beq hsu;omega
       rw[this,hx];exact .inr ⟨rfl,Int.le_refl _⟩
      ·exact hI.low u h0 h1 hsu x hxq
     ·rintro k' ⟨R',q',jj⟩ ⟨j,hj,hjk,hD,hrx,hlow,hql,hsame⟩
      simp only at hj hD hrx hlow hql hsame
      subst hj
      dsimp only
      by_cases hlt:j<(L.getD x.point.toNat default).length
      ·left
       (rw[az7 (by omega)];(repeat rw[azs (by omega)]);rw[Int.toNat_natCast])
       have hmem:(L.getD x.point.toNat default).getD j default∈L.getD x.point.toNat default:=mem_getD.2 ⟨j,hlt,rfl⟩
       have he:=(hk.mem x.point _ _ e1 e2).1 (show(⟨((L.getD x.point.toNat default).getD j default).to,((L.getD x.point.toNat default).getD j default).cost⟩:aze)∈_ from hmem)
       have hlj:(L.getD x.point.toNat default).getD j default=⟨((L.getD x.point.toNat default).getD j default).to,((L.getD x.point.toNat default).getD j default).cost⟩:=rfl
       generalize hw:((L.getD x.point.toNat default).getD j default).to=w at he hlj
       generalize hc:((L.getD x.point.toNat default).getD j default).cost=c at he hlj
       have hwl:=g.lt _ _ _ he
       have hce:=g.cost _ _ _ he
       have hDl:=hD.len
       ((repeat rw[azs (by omega)]);rw[w64 (x:=x.rank.cost+c) (by omega) (by omega),w64 (x:=x.rank.points+1) (by omega) (by omega)])
       have hV:∀a b d,((S a.toNat=true/\E a b d)\/(a=x.point/\∃i,i<j/\(L.getD x.point.toNat default).getD i default=⟨b,d⟩))->E a b d:=by
        rintro a b d (h|⟨rfl,i,hi,he'⟩)
        ·exact h.2
        ·exact(hk.mem x.point _ _ e1 e2).1 (he'▸mem_getD.2 ⟨i,by omega,rfl⟩)
       have hsv:(x.point.toNat==x.point.toNat||S x.point.toNat)=true:=by simp
       by_cases hbet:(rkv R' w).points=0\/ltR ⟨x.rank.cost+c,x.rank.points+1⟩ (rkv R' w)
       ·(rw[tzu hbet,Option.bind_some,cz8 (by rfl)];(repeat rw[azs (by omega)]))
        obtain⟨q2,hpush,hh2,hl2,hm2'⟩:=az3z q' ⟨⟨x.rank.cost+c,x.rank.points+1⟩,w⟩ (by omega) (by omega) hD.heap hD.pts (by simp only;omega)
        rw[hpush,Option.bind_some,az8,w64n (by omega)]
        obtain⟨hD2,hwv,hsw⟩:=hD.relax g hV ht hsv he (by rw[hrx];exact hbet) hh2 (by rw[hrx];exact hm2') (by rw[hrx];exact hlow)
        rw[hrx]at hD2
        have hset2:∀u:Int,0≤u->rkv (R'.set w.toNat ⟨x.rank.cost+c,x.rank.points+1⟩) u=if u=w then⟨x.rank.cost+c,x.rank.points+1⟩else rkv R' u:=fun u hu=>Tz9 ⟨hwl.2.2.1,by omega⟩ hu
        refine⟨_,rfl,k'-1,by omega,j+1,rfl,by omega,hD2.congr (fun a b d _ hv=>?_),?_,fun u h0 h1 hsu=>?_,by dsimp only;omega,fun hsx=>?_⟩
        ·rcases hv with hv|⟨rfl,i,hi,he'⟩
         ·exact .inl (.inl hv)
         ·by_cases hij:i=j
          ·subst hij
           rw[hlj]at he'
           cases he'
           exact .inr ⟨rfl,rfl,rfl⟩
          ·exact .inl (.inr ⟨rfl,i,by omega,he'⟩)
        ·dsimp only;rw[hset2 _ e1,if_neg (fun e=>hwv e.symm)];exact hrx
        ·dsimp only
         rw[hset2 u h0,if_neg (fun e=>by subst e;rw[hsw]at hsu;cases hsu)]
         exact hlow u h0 h1 hsu
        ·exfalso
         have h3:=hD.relaxed x.point w c e1 e2 hsv (.inl ⟨hsx,he⟩)
         rw[hrx]at h3
         unfold ltR at hbet
         simp only[leR]at h3 hbet
         omega
       ·rw[qz3 (fun h=>hbet (.inl h)) (fun h=>hbet (.inr h)),Option.bind_some,czt (by rfl),az8,w64n (by omega)]
        have hD2:=hD.skip (v:=x.point) (w:=w) (c:=c) (by rw[hrx];exact hbet) ⟨hwl.2.2.1,hwl.2.2.2⟩
        refine⟨_,rfl,k'-1,by omega,j+1,rfl,by omega,hD2.congr (fun a b d _ hv=>?_),hrx,hlow,by dsimp only;omega,hsame⟩
        rcases hv with hv|⟨rfl,i,hi,he'⟩
        ·exact .inl (.inl hv)
        ·by_cases hij:i=j
         ·subst hij
          rw[hlj]at he'
          cases he'
          exact .inr ⟨rfl,rfl,rfl⟩
         ·exact .inl (.inr ⟨rfl,i,by omega,he'⟩)
      ·right
       rw[az6 (by omega)]
       have hje:j=(L.getD x.point.toNat default).length:=by omega
       subst hje
       exact⟨_,rfl,hD,hql,hsame⟩
     ·rintro⟨R',q'⟩ ⟨hD,hql,hsame⟩
      simp only at hD hql hsame
      have hm':q'.length+rest (fun i=>(L.getD i default).length) (fun i=>i==x.point.toNat||S i) L.length<m:=by
       cases hsx:S x.point.toNat with
       |true=>
        have:=hsame hsx
        subst this
        rw[Jzf (S:=S) (fun i hi=>by
         by_cases hix:i=x.point.toNat
         ·subst hix;simp[hsx]
         ·have:(i==x.point.toNat)=false:=by simpa using hix
          simp[this])]
        omega
       |false=>
        have:=Vz1 (d:=fun i=>(L.getD i default).length) hsx (n:=L.length) (by omega)
        omega
      refine⟨_,rfl,_,hm',_,hD.congr (fun a b d hsa hv=>?_),Nat.le_refl _,by omega⟩
      rw[Bool.or_eq_true]at hsa
      rcases hsa with hsa|hsa
      ·have hab:=g.lt _ _ _ hv
       have:a=x.point:=by have:=eq_of_beq hsa;omega
       subst this
       obtain⟨i,hi,he'⟩:=mem_getD.1 ((hk.mem x.point _ _ e1 e2).2 hv)
       exact .inr ⟨rfl,i,hi,he'⟩
      ·exact .inl ⟨hsa,hv⟩
    ·rw[cz8 (by
      rw[Bool.not_eq_true',Bool.and_eq_false_iff]
      by_cases h1:x.rank.cost=(rkv R x.point).cost
      ·right
       rw[Bool.and_true]
       exact beq_eq_false_iff_ne.2 (fun h2=>hst ⟨h1,h2⟩)
      ·exact .inl (beq_eq_false_iff_ne.2 h1))]
     refine⟨_,rfl,q1.length+rest (fun i=>(L.getD i default).length) S L.length,by omega,S,hI.drop hsub hsup hheap1 (fun e=>hst ?_),Nat.le_refl _,by omega⟩
     rw[e];exact⟨rfl,rfl⟩
  ·right
   rw[az6 (by omega)]
   have hnil:q=[]:=List.eq_nil_of_length_eq_zero (by omega)
   subst hnil
   exact⟨_,rfl,hI.len,hI.walk,hI.few,fun c k hb=>⟨hI.settled g ht hb (by simp),fun w c' k' hb' _=>hI.settled g ht hb' (by simp)⟩⟩
 ·rintro R ⟨hRl,hwalk,hfew,hfound⟩
  ((repeat rw[azs (by omega)]))
  by_cases hp:(rkv R fr).points=0
  ·rw[cz4 hp]
   refine⟨_,rfl,.inl ⟨rfl,rfl,rfl,fun c k hw=>?_⟩⟩
   obtain⟨c',k',hb⟩:=Best.exists g hw
   have h0:=hb.1.ge g
   have:=(hfound _ _ hb).1
   rw[this]at hp
   simp only at hp
   omega
  ·(rw[czj hp];(repeat rw[azs (by omega)]))
   obtain⟨c,k,hb⟩:=Best.exists g ((hwalk fr hfr.1 hfr.2).resolve_left hp).2
   have hb0:=hb.1.ge g
   have hbn:=hb.few g ht
   obtain⟨hf1,hf2⟩:=hfound c k hb
   rw[show R.getD fr.toNat default=⟨c,k+1⟩from hf1]
   refine Nz7 (g:=fun r=>r) (fun m (z:List azc×List Int×Int)=>∃c',z.1=R/\Best E t z.2.2 c' (m:Int)/\(c'<c\/c'=c/\(m:Int)≤k)/\rkv R z.2.2=⟨c',m+1⟩/\
    ∃pre,z.2.1=fr::pre/\(pre.length+m:Int)≤k/\∀l,Rt E t z.2.2 l->Rt E t fr (pre++l))
    (fun acc=>∃l,acc=fr::l/\Rt E t fr l) k.toNat ⟨c,rfl,?_,?_,?_,[],rfl,by simp;omega,fun l h=>h⟩ (by omega) ?_ ?_
   ·dsimp only;rw[Int.toNat_of_nonneg hb0.2];exact hb
   ·right;exact⟨rfl,by omega⟩
   ·dsimp only;rw[Int.toNat_of_nonneg hb0.2];exact hf1
   ·rintro m ⟨R',acc,v⟩ ⟨c',hR',hbv,hle,hrv,pre,hacc,hpl,hrt⟩
    simp only at hR' hbv hle hrv hacc hpl hrt
    subst hR'
    subst hacc
    dsimp only
    by_cases hvt:v=t
    ·right
     rw[bzl hvt]
     refine⟨_,rfl,pre,rfl,?_⟩
     have:=hrt [] (by rw[hvt];exact .nil)
     simpa using this
    ·left
     have hvl:=hbv.1.lt g ht
     have hbv0:=hbv.1.ge g
     have hm1:=hbv.ne g hvt
     have hmn:=hbv.few g ht
     (rw[czo hvt];(repeat rw[azs (by omega)]))
     have hE:∀x∈L.getD v.toNat default,E v x.to x.cost:=fun x hx=>(hk.mem v _ _ hvl.1 hvl.2).1 hx
     have hM:∀x:aze,E v x.to x.cost->(((rkv R' x.to).points=(rkv R' v).points-1/\(rkv R' x.to).cost+x.cost=(rkv R' v).cost)↔Best E t x.to (c'-x.cost) (m-1)):=by
      intro x hx
      have hxl:=g.lt _ _ _ hx
      have hxc:=g.cost _ _ _ hx
      rw[hrv]
      simp only
      constructor
      ·rintro⟨h1,h2⟩
       have hw:=((hwalk x.to hxl.2.2.1 hxl.2.2.2).resolve_left (by omega)).2
       have a1:(rkv R' x.to).cost=c'-x.cost:=by omega
       have a2:(rkv R' x.to).points-1=(m:Int)-1:=by omega
       rw[a1,a2]at hw
       refine⟨hw,fun c2 k2 hw2=>?_⟩
       have:=hbv.2 _ _ (Walk.cons hx hw2)
       omega
      ·intro hbx
       have:=hf2 _ _ _ hbx (by omega)
       rw[this]
       simp only
       omega
     have hcond:∀x∈L.getD v.toNat default,(fz3 x R' v).o=some (decide ((rkv R' x.to).points=(rkv R' v).points-1/\(rkv R' x.to).cost+x.cost=(rkv R' v).cost),R',v):=by
      intro x hx
      have hxE:=hE x hx
      have hxl:=g.lt _ _ _ hxE
      have hxc:=g.cost _ _ _ hxE
      refine az32 ⟨hxl.2.2.1,by omega⟩ ⟨hvl.1,by omega⟩ (by rw[hrv];simp only;omega) hxc (fun hpp=>?_)
      rw[hrv]at hpp
      simp only at hpp
      have hw:=((hwalk x.to hxl.2.2.1 hxl.2.2.2).resolve_left (by omega)).2
      have h1:=hw.ge g
      have h2:=hw.le g
      have:((rkv R' x.to).points-1) * 1099511627776≤100 * 1099511627776:=Int.mul_le_mul_of_nonneg_right (by omega) (by omega)
      omega
     obtain⟨u0,e0,he0,hbu0⟩:=hbv.step (by omega)
     have hfew2:=hk.few v.toNat
     obtain⟨i,hidx,hil,hMi,hno⟩:=az0p (fun x=>(rkv R' x.to).points=(rkv R' v).points-1/\(rkv R' x.to).cost+x.cost=(rkv R' v).cost) (by omega) (by omega) hcond ⟨⟨u0,e0⟩,(hk.mem v _ _ hvl.1 hvl.2).2 he0,(hM ⟨u0,e0⟩ he0).2 hbu0⟩
     rw[hidx,Option.bind_some]
     dsimp only
     ((repeat(first|rw[azs (by omega)]|rw[azs (by simp only[List.length_set];omega)]|rw[azs (by simp only[List.length_cons,List.length_nil,azr];omega)]|rw[azs (by simp only[List.length_singleton,List.length_set,List.length_replicate,azr,and_true];omega)]|rw[azs (by rw[azr];simp only[List.length_cons];omega)]));rw[Int.toNat_natCast])
     have hmem:(L.getD v.toNat default).getD i default∈L.getD v.toNat default:=mem_getD.2 ⟨i,hil,rfl⟩
     have hxE:=hE _ hmem
     have hbi:=(hM _ hxE).1 hMi
     have hsort:=hk.sorted v.toNat (by omega)
     generalize hx:(L.getD v.toNat default).getD i default=x at hmem hxE hbi
     have hxc:=g.cost _ _ _ hxE
     have hb1:=hbi.1.ge g
     have hnext:NextV E t v x.to:=by
      refine⟨⟨c',m,x.cost,hbv,hxE,hbi⟩,?_⟩
      rintro w' ⟨c2,k2,e2,hbv2,he2,hbw2⟩
      obtain⟨rfl,rfl⟩:=hbv.unique hbv2
      have hmem2:=(hk.mem v _ _ hvl.1 hvl.2).2 he2
      obtain⟨j,hj,hje⟩:=mem_getD.1 hmem2
      have hMj:=(hM ⟨w',e2⟩ he2).2 hbw2
      by_cases hji:j<i
      ·exact absurd (by rw[hje];exact hMj) (hno j hji)
      ·by_cases hij:i=j
       ·subst hij;rw[hx]at hje;rw[hje];exact Int.le_refl _
       ·have:=(List.pairwise_iff_getElem.1 hsort) i j hil hj (by omega)
        have a1:(L.getD v.toNat default)[i]=x:=by rw[←hx,List.getD_eq_getElem?_getD (l:=L.getD v.toNat default),List.getElem?_eq_getElem hil];rfl
        have a2:(L.getD v.toNat default)[j]=⟨w',e2⟩:=by rw[←hje,List.getD_eq_getElem?_getD (l:=L.getD v.toNat default),List.getElem?_eq_getElem hj];rfl
        rw[a1,a2]at this
        simp only at this
        omega
     have hmm:((m-1:Nat):Int)=(m:Int)-1:=by omega
     refine⟨_,rfl,m-1,by omega,c'-x.cost,rfl,by dsimp only;rw[hmm];exact hbi,by omega,?_,pre++[x.to],by simp,by simp;omega,fun l hl=>?_⟩
     ·dsimp only
      have:=hf2 _ _ _ hbi (by omega)
      rw[this,hmm]
     ·have:=hrt (x.to::l) (.cons hvt hnext hl)
      simpa using this
   ·rintro acc ⟨l,rfl,hl⟩
    exact⟨_,rfl,.inr ⟨rfl,c,k,l,hb,hl,rfl,rfl⟩⟩
theorem Tzj (hk:Lks E L)(ht:0≤t/\t<(L.length:Int))(hfr:0≤fr/\fr<(L.length:Int))(hN:100000≤NN):
 ∃r:bzf×Bool,(ezy L fr t).o=some (r.1.Vertices,r.1.Cost,r.2)/\((r.2=false/\r.1=⟨nl,0⟩/\∀c k,¬Walk E t fr c k)\/(r.2=true/\∃c k l,Best E t fr c k/\Rt E t fr l/\r.1=⟨fr::l,c⟩)):=by
 obtain⟨⟨v,c,b⟩,h1,h2⟩:=Rzi hk ht hfr hN
 dsimp only at h2
 refine⟨(⟨v,c⟩,b),h1,h2.imp (fun h=>⟨h.1,by dsimp only;rw[h.2.1,h.2.2.1],h.2.2.2⟩) (fun ⟨a,c',k,l,a1,a2,a3,a4⟩=>⟨a,c',k,l,a1,a2,by dsimp only;rw[a3,a4]⟩)⟩
theorem Oz1 (a0:az9)(a1:Int)(a2:Int):(oz2 a0 a1 a2).o=(uzy a0 a1 a2).run NN:=rfl
theorem wz3 (a0:az9)(a1:Int)(a2:Int)(a3:Int):(fz8 a0 a1 a2 a3).o=(izm a0 a1 a2 a3).run NN:=rfl
def Ez1 (m:az9)(fr t:Int):Prop:=WF m/\(0≤fr/\fr<(m.Points.length:Int))/\(0≤t/\t<(m.Points.length:Int))
def Routed (m:az9)(fr t mode:Int)(r:bzf×Bool):Prop:=
 (r.2=false/\r.1=⟨nl,0⟩/\∀c k,¬Walk (Eg m mode) t fr c k)\/(r.2=true/\∃c k l,Best (Eg m mode) t fr c k/\Rt (Eg m mode) t fr l/\r.1=⟨fr::l,c⟩)
def az5c (m:az9)(fr t mode:Int)(r:bzf×Bool):Prop:=
 (¬ (Ez1 m fr t/\0≤mode/\mode≤2)/\r=(⟨nl,0⟩,false))\/((Ez1 m fr t/\0≤mode/\mode≤2)/\Routed m fr t mode r)
theorem Routed.unique {m:az9}{fr t mode:Int}{r r':bzf×Bool}(h:Routed m fr t mode r)(h':Routed m fr t mode r'):r=r':=by
 obtain⟨r1,r2⟩:=r
 obtain⟨s1,s2⟩:=r'
 rcases h with⟨h1,h2,h3⟩|⟨h1,c,k,l,h2,h3,h4⟩<;>rcases h' with⟨h1',h2',h3'⟩|⟨h1',c',k',l',h2',h3',h4'⟩
 ·simp only at h1 h2 h1' h2';rw[h1,h2,h1',h2']
 ·exact absurd h2'.1 (h3 _ _)
 ·exact absurd h2.1 (h3' _ _)
 ·simp only at h1 h4 h1' h4'
  rw[h1,h4,h1',h4',(h2.unique h2').1,h3.unique h3']
theorem az66 {m:az9}{mode:Int}(hs:oza m)(hw:WF m){L:List (List aze)}(hl:L.length=m.Points.length)(hL:∀v,v<m.Points.length->L.getD v default=Bz0 m.Edges mode v):Lks (Eg m mode) L:=by
 refine⟨by rw[hl];exact Eg.graph hw mode,fun v w c h0 h1=>?_,fun i=>?_,by rw[hl];exact hs.1,fun i hi=>?_⟩
 ·rw[hL v.toNat (by omega),Int.toNat_of_nonneg h0];exact Yz8 hw
 ·by_cases h:i<m.Points.length
  ·rw[hL i h];exact Nat.le_trans (Izd _ _ _) hs.2
  ·rw[List.getD_eq_getElem?_getD,List.getElem?_eq_none (by omega)];exact Nat.zero_le _
 ·rw[hL i (by omega)];exact Qz4 hw mode i
theorem Szw (m:az9)(fr t mode:Int)(hs:oza m)(h:Ez1 m fr t)(hN:100000≤NN):∃L r,(izi m mode).o=some L/\(ezy L fr t).o=some (r.1.Vertices,r.1.Cost,r.2)/\Routed m fr t mode r:=by
 obtain⟨hw,hf,ht⟩:=h
 obtain⟨L,h1,h2,h3⟩:=az0t m mode hs hw (by omega)
 obtain⟨r,h4,h5⟩:=Tzj (E:=Eg m mode) (t:=t) (fr:=fr) (az66 hs hw h2 h3) (by omega) (by omega) hN
 exact⟨L,r,h1,h4,h5⟩
theorem Izi (a0:(List Int))(a1:(List Int)):(ozx a0 a1).o=(ozy a0 a1).run NN:=rfl
theorem Gzj (a0:bzf)(a1:bzf):(dzr a0 a1).o=(mzx a0 a1).run NN:=rfl
theorem Zzd (a:List Int)(h:a.length<NN)(h2:a.length<1000000000000):(ozx a a).o=some true:=by
 simp only[Izi,ozy,T.run]
 rw[bzl rfl]
 refine qz2 (y:=.u) (Uzj (fun i=>(i:Int)) rfl a.length h (fun i hi=>?_) ?_)
 ·try dsimp only
  (rw[az7 (by omega)];(repeat rw[azs (by omega)]);rw[bzl rfl,w64n (by omega)])
 ·try dsimp only
  rw[az6 (by omega)]
theorem Fz7 (a:bzf)(h:a.Vertices.length<NN)(h2:a.Vertices.length<1000000000000):(dzr a a).o=some true:=by
 simp only[Gzj,mzx,T.run]
 rw[cz4 rfl,Zzd _ h h2];rfl
theorem Routed.len {m:az9}{fr t mode:Int}{r:bzf×Bool}(hs:oza m)(ha:Ez1 m fr t)(h:Routed m fr t mode r):r.1.Vertices.length≤101:=by
 rcases h with⟨_,h2,_⟩|⟨_,c,k,l,h2,h3,h4⟩
 ·rw[h2];simp[nl]
 ·have g:=Eg.graph ha.1 mode
  have e1:=h3.length g h2
  have e2:=h2.few g ha.2.2
  have:=hs.1
  rw[h4];simp;omega
theorem dzo (a0:(List az4))(a1:(Int×Int)):(azz a0 a1).o=(bzc a0 a1).run NN:=rfl
theorem Gzv (a0:az9)(a1:Int)(a2:Int):(nzd a0 a1 a2).o=(nze a0 a1 a2).run NN:=rfl
theorem Kzl (a0:az9)(a1:Int)(a2:Int):(lzy a0 a1 a2).o=(sz7 a0 a1 a2).run NN:=rfl
theorem Ozd (a0:az9)(a1:Int)(a2:Int):(gz9 a0 a1 a2).o=(vz9 a0 a1 a2).run NN:=rfl
theorem Rz0 (a0:az9)(a1:Int)(a2:Int):(qzn a0 a1 a2).o=(yz4 a0 a1 a2).run NN:=rfl
theorem az77 {x:Int}(h:0≤x)(h2:x<4000000000000):IntKind.i64.wrap ((IntKind.u64.wrap (IntKind.i64.wrap x)).fdiv (2 ^ (min (1:Int).toNat 64)))=x / 2:=by
 have e1:IntKind.u64.wrap x=x:=by
  simp only[IntKind.wrap,IntKind.bits,IntKind.signed,Bool.false_and,Bool.false_eq_true,if_false]
  omega
 have e2:(2:Int) ^ (min (1:Int).toNat 64)=2:=by decide
 rw[w64 (x:=x) (by omega) (by omega),e1,e2,Int.fdiv_eq_ediv_of_nonneg _ (by omega),w64 (by omega) (by omega)]
theorem Vzc {m:az9}(hs:oza m)(hw:WF m){u v:Int}{e:Nat}(he:e<m.Edges.length)(hu:(m.Edges.getD e default).U=u)(hv:(m.Edges.getD e default).V=v)(hN:100000≤NN):
 (azz m.Edges (u,v)).o=some ((e:Int),true):=by
 have hs2:=hs.2
 have key:∃r,(azz m.Edges (u,v)).o=some r/\r=((e:Int),true):=by
  simp only[dzo,bzc,T.run]
  refine Nz7 (g:=fun r=>r) (fun k (x:Int×Int)=>∃a b:Nat,x=((a:Int),(b:Int))/\a+k=b/\b≤m.Edges.length/\a≤e/\e≤b) (fun y=>y=(e:Int)) m.Edges.length ⟨0,m.Edges.length,rfl,by omega,by omega,by omega,by omega⟩ (by omega) ?_ ?_
  ·rintro k x ⟨a,b,rfl,hab,hb,h1,h2⟩
   dsimp only
   by_cases hlt:a<b
   ·left
    (rw[az7 (by omega)];(repeat rw[azs (by omega)]);rw[az77 (by omega) (by omega)])
    obtain⟨h,hh⟩:∃h:Nat,((a:Int)+(b:Int)) / 2=(h:Int):=⟨(a+b) / 2,by omega⟩
    have hah:a≤h/\h<b:=by omega
    (rw[hh];(repeat rw[azs (by omega)]);rw[Int.toNat_natCast])
    obtain⟨c,hc,hc1,hc2⟩:=rz6 (by omega) (m.Edges.getD h default) u v
    rw[hc,Option.bind_some]
    by_cases hcl:c<0
    ·rw[az7 hcl,w64n (by omega)]
     refine⟨_,rfl,b- (h+1),by omega,h+1,b,rfl,by omega,hb,?_,h2⟩
     have:=hc1.1 hcl
     rcases Nat.lt_or_ge h e with hhe|hhe
     ·omega
     ·exfalso
      by_cases hee:h=e
      ·subst hee;omega
      ·have:=hw.lt (i:=e) (j:=h) (by omega) (by omega);unfold eLt at this;omega
    ·rw[az6 hcl]
     refine⟨_,rfl,h-a,by omega,a,h,rfl,by omega,by omega,h1,?_⟩
     rcases Nat.lt_or_ge h e with hhe|hhe
     ·exfalso
      have:=hw.lt (i:=h) (j:=e) hhe he
      unfold eLt at this
      exact hcl (hc1.2 (by omega))
     ·exact hhe
   ·right
    rw[az6 (by omega)]
    exact⟨_,rfl,by omega⟩
  ·rintro y rfl
   (rw[az7 (by omega)];(repeat rw[azs (by omega)]);rw[Int.toNat_natCast])
   obtain⟨c,hc,hc1,hc2⟩:=rz6 (by omega) (m.Edges.getD e default) u v
   rw[hc,Option.bind_some]
   have:=hc2.2 ⟨hu,hv⟩
   exact⟨_,rfl,by rw[this];rfl⟩
 obtain⟨r,h1,rfl⟩:=key
 exact h1
def EI (m:az9)(vs:List Int)(i e:Nat):Prop:=e<m.Edges.length/\(m.Edges.getD e default).U=min (vs.getD i default) (vs.getD (i+1) default)/\(m.Edges.getD e default).V=max (vs.getD i default) (vs.getD (i+1) default)
theorem Vzb {m:az9}(hs:oza m)(hw:WF m){x y:Int}{e:Nat}(he:e<m.Edges.length)(hu:(m.Edges.getD e default).U=min x y)(hv:(m.Edges.getD e default).V=max x y)(hN:100000≤NN):(nzd m x y).o=some ((e:Int),true):=by
 simp only[Gzv,nze,T.run]
 rw[Vzc hs hw he hu hv hN];rfl
theorem Rt.adj {E:Int->Int->Int->Prop}{t:Int}{v:Int}{l:List Int}(h:Rt E t v l):∀i,i<l.length->∃c,E ((v::l).getD i default) ((v::l).getD (i+1) default) c:=by
 induction h with
 |nil=>intro i hi;simp at hi
 |cons hv hn _ ih=>
  intro i hi
  cases i with
  |zero=>
   obtain⟨_,_,e,_,he,_⟩:=hn.1
   exact⟨e,by simpa using he⟩
  |succ i=>
   obtain⟨c,hc⟩:=ih i (by simpa using hi)
   exact⟨c,by simpa using hc⟩
theorem EI.exists {m:az9}(hw:WF m){mode fr t:Int}{l:List Int}(h:Rt (Eg m mode) t fr l){i:Nat}(hi:i<l.length):∃e,EI m (fr::l) i e:=by
 obtain⟨c,e,he,hu,hc,hpq⟩:=h.adj i hi
 obtain⟨o1,o2,o3,o4,o5⟩:=(hw e he).1
 exact⟨e,he,by omega,by omega⟩
theorem EI.unique {m:az9}(hw:WF m){vs:List Int}{i e e':Nat}(h:EI m vs i e)(h':EI m vs i e'):e=e':=hw.one h.1 h'.1 (by rw[h.2.1,h'.2.1]) (by rw[h.2.2,h'.2.2])
def NextQ (m:az9)(rt:bzf)(r:Int×bzf×Int):Prop:=
 (r=(-1,rt,1)/\∀i,i+1<rt.Vertices.length->∀e,EI m rt.Vertices i e->(m.Edges.getD e default).State≠0)\/
 ∃i e:Nat,i+1<rt.Vertices.length/\EI m rt.Vertices i e/\(m.Edges.getD e default).State=0/\r=((e:Int),rt,3)/\∀j,j<i->∀e',EI m rt.Vertices j e'->(m.Edges.getD e' default).State≠0
theorem NextQ.unique {m:az9}(hw:WF m){rt:bzf}{r r':Int×bzf×Int}(h:NextQ m rt r)(h':NextQ m rt r'):r=r':=by
 rcases h with⟨h1,h2⟩|⟨i,e,h1,h2,h3,h4,h5⟩<;>rcases h' with⟨h1',h2'⟩|⟨i',e',h1',h2',h3',h4',h5'⟩
 ·rw[h1,h1']
 ·exact absurd h3' (h2 i' h1' e' h2')
 ·exact absurd h3 (h2' i h1 e h2)
 ·have hi:i=i':=by
   rcases Nat.lt_trichotomy i i' with hlt|he|hlt
   ·exact absurd h3 (h5' i hlt e h2)
   ·exact he
   ·exact absurd h3' (h5 i' hlt e' h2')
  subst hi
  rw[h4,h4',h2.unique hw h2']
theorem NextQ.route {m:az9}{rt:bzf}{r:Int×bzf×Int}(h:NextQ m rt r):r.2.1=rt:=by
 rcases h with⟨h1,_⟩|⟨i,e,_,_,_,h4,_⟩
 ·rw[h1]
 ·rw[h4]
def NextP (m:az9)(fr t:Int)(r:Int×bzf×Int):Prop:=
 (¬Ez1 m fr t/\r=(-1,⟨nl,0⟩,0))\/(Ez1 m fr t/\∃rt,Routed m fr t 1 rt/\((rt.2=false/\r=(-1,⟨nl,0⟩,2))\/(rt.2=true/\NextQ m rt.1 r)))
theorem NextP.unique {m:az9}{fr t:Int}{r r':Int×bzf×Int}(h:NextP m fr t r)(h':NextP m fr t r'):r=r':=by
 rcases h with⟨h1,h2⟩|⟨h1,rt,h2,h3⟩<;>rcases h' with⟨h1',h2'⟩|⟨h1',rt',h2',h3'⟩
 ·rw[h2,h2']
 ·exact absurd h1' h1
 ·exact absurd h1 h1'
 ·have:=h2.unique h2'
  subst this
  rcases h3 with⟨a,b⟩|⟨a,b⟩<;>rcases h3' with⟨a',b'⟩|⟨a',b'⟩
  ·rw[b,b']
  ·rw[a]at a';cases a'
  ·rw[a]at a';cases a'
  ·exact b.unique h1.1 b'
theorem NextP.len {m:az9}{fr t:Int}{r:Int×bzf×Int}(hs:oza m)(h:NextP m fr t r):r.2.1.Vertices.length≤101:=by
 rcases h with⟨_,h2⟩|⟨h1,rt,h2,⟨_,h3⟩|⟨_,h3⟩⟩
 ·rw[h2];simp[nl]
 ·rw[h3];simp[nl]
 ·rw[h3.route];exact h2.len hs h1
theorem az2w (m:az9)(fr t:Int)(hs:oza m)(hN:100000≤NN):∃r:Int×bzf×Int,(gz9 m fr t).o=some (r.1,r.2.1.Vertices,r.2.1.Cost,r.2.2)/\NextP m fr t r:=by
 suffices h:∃r:Int×List Int×Int×Int,(gz9 m fr t).o=some r/\NextP m fr t (r.1,⟨r.2.1,r.2.2.1⟩,r.2.2.2)from h.elim fun r h=>⟨(r.1,⟨r.2.1,r.2.2.1⟩,r.2.2.2),h⟩
 simp only[Ozd,vz9,T.run]
 obtain⟨b,hb,hbw⟩:=Ozl m hs (by omega)
 rw[hb,Option.bind_some]
 have none:¬Ez1 m fr t->∃r:Int×List Int×Int×Int,(some ((-1:Int),(nl:List Int),(0:Int),(0:Int)):Option (Int×List Int×Int×Int))=some r/\NextP m fr t (r.1,⟨r.2.1,r.2.2.1⟩,r.2.2.2):=fun h=>⟨_,rfl,.inl ⟨h,rfl⟩⟩
 cases b with
 |false=>
  rw[cz8 (by rfl),az8,cz8 (by rfl)]
  exact none (fun h=>by have:=hbw.2 h.1;cases this)
 |true=>
  have hw:=hbw.1 rfl
  rw[czt (by rfl),oz6,Option.bind_some]
  by_cases h1:0≤fr/\fr<(m.Points.length:Int)
  ·rw[yzw h1,oz6,Option.bind_some,az8]
   by_cases h2:0≤t/\t<(m.Points.length:Int)
   ·rw[yzw h2]
    have ha:Ez1 m fr t:=⟨hw,h1,h2⟩
    obtain⟨L,rt,e1,e2,e3⟩:=Szw m fr t 1 hs ha hN
    have hrl:=e3.len hs ha
    rw[e1,Option.bind_some,e2,Option.bind_some]
    rcases e3 with⟨q1,q2,q3⟩|⟨q1,c,k,l,q2,q3,q4⟩
    ·rw[q1,cz8 (by rfl)]
     exact⟨_,rfl,.inr ⟨ha,rt,.inl ⟨q1,q2,q3⟩,.inl ⟨q1,rfl⟩⟩⟩
    ·have hP:∀r,NextQ m rt.1 r->NextP m fr t r:=fun r h=>.inr ⟨ha,rt,.inr ⟨q1,c,k,l,q2,q3,q4⟩,.inr ⟨q1,h⟩⟩
     rw[q1,czt (by rfl)]
     rw[q4]at hP hrl⊢
     simp only[List.length_cons]at hrl
     dsimp only
     have e0:(1:Int).toNat=1:=rfl
     have e9:(((((fr::l).length:Nat):Int)).toNat-1)=l.length:=by simp
     (repeat(first|rw[azs (by omega)]|rw[azs (by simp only[List.length_cons,List.length_nil];omega)]))
     rw[e0,e9]
     refine(kzy (P:=fun r:Int×List Int×Int×Int=>NextQ m ⟨fr::l,c⟩ (r.1,⟨r.2.1,r.2.2.1⟩,r.2.2.2)) (fun k (x:Int)=>∃i:Nat,x=(i:Int)/\i+k=l.length/\∀j,j<i->∀e,EI m (fr::l) j e->(m.Edges.getD e default).State≠0)
      (fun _=>∀j,j<l.length->∀e,EI m (fr::l) j e->(m.Edges.getD e default).State≠0) l.length ⟨0,rfl,by omega,fun j hj=>by omega⟩ (by omega) ?_ ?_).imp (fun r h=>⟨h.1,hP _ h.2⟩)
     ·rintro k' x ⟨i,rfl,hi,hpre⟩
      by_cases hlt:i<l.length
      ·rw[az7 (by omega)]
       (repeat rw[azs (by omega)])
       rw[Int.toNat_natCast]
       (repeat rw[azs (by omega)])
       rw[show(fr::l).getD (1+i) default=l.getD i default by rw[Nat.add_comm];rfl]
       obtain⟨e,he⟩:=EI.exists hw q3 hlt
       have hbt:=Vzb hs hw (x:=(fr::l).getD i default) (y:=l.getD i default) he.1 (by have:=he.2.1;simpa using this) (by have:=he.2.2;simpa using this) hN
       rw[hbt,Option.bind_some]
       dsimp only
       have hel:=he.1
       ((repeat rw[azs (by omega)]);rw[Int.toNat_natCast])
       by_cases hst:(m.Edges.getD e default).State=0
       ·rw[cz4 hst]
        exact .inr (.inr ⟨_,rfl,.inr ⟨i,e,by simp only[List.length_cons];omega,he,hst,rfl,hpre⟩⟩)
       ·rw[czj hst,w64n (by omega)]
        refine .inl ⟨_,k'-1,rfl,by omega,i+1,rfl,by omega,fun j hj e' he'=>?_⟩
        by_cases hji:j=i
        ·subst hji;rw[he'.unique hw he];exact hst
        ·exact hpre j (by omega) e' he'
      ·rw[az6 (by omega)]
       exact .inr (.inl ⟨_,rfl,fun j hj=>hpre j (by omega)⟩)
     ·intro _ h
      exact⟨_,rfl,.inl ⟨rfl,fun i hi=>h i (by simp only[List.length_cons]at hi;omega)⟩⟩
   ·rw[Gzz h2];exact none (fun h=>h2 h.2.2)
  ·rw[Gzz h1,az8,cz8 (by rfl)];exact none (fun h=>h1 h.2.1)
theorem Rz1 (a0:azh)(a1:azh):(qzp a0 a1).o=(yz7 a0 a1).run NN:=rfl
theorem Kzn (a0:az9)(a1:Int)(a2:Int):(szc a0 a1 a2).o=(szd a0 a1 a2).run NN:=rfl
abbrev lab (l:List azh)(v:Int):azh:=l.getD v.toNat default
def xz1 (a b:azh):Prop:=b.Cost<0\/a.Cost<b.Cost\/a.Cost=b.Cost/\a.Edges<b.Edges
instance (a b:azh):Decidable (xz1 a b):=by unfold xz1;infer_instance
theorem az3r {a b:azh}(h:0≤a.Cost):(qzp a b).o=some (decide (xz1 a b)):=by
 simp only[Rz1,yz7,T.run]
 by_cases h1:b.Cost<0
 ·rw[az7 h1,az8,cz8 (by rfl),az7 (by omega),decide_eq_true h1,decide_eq_true (show xz1 a b from .inl h1)]
 ·rw[az6 h1,az8,az6 (by omega)]
  by_cases h2:a.Cost<b.Cost
  ·rw[az7 h2,decide_eq_true (show xz1 a b from .inr (.inl h2))]
  ·rw[az6 h2]
   by_cases h3:a.Cost=b.Cost
   ·rw[cz4 h3]
    by_cases h4:a.Edges<b.Edges
    ·rw[decide_eq_true h4,decide_eq_true (show xz1 a b from .inr (.inr ⟨h3,h4⟩))]
    ·rw[decide_eq_false h4,decide_eq_false (by unfold xz1;omega)]
   ·rw[czj h3,decide_eq_false (by unfold xz1;omega)]
def kzp (p q c:Int)(s:List azh×Bool):List azh×Bool:=
 if(lab s.1 p).Cost<0 then s else
 if xz1 ⟨(lab s.1 p).Cost+c,(lab s.1 p).Edges+1⟩ (lab s.1 q)then(s.1.set q.toNat ⟨(lab s.1 p).Cost+c,(lab s.1 p).Edges+1⟩,true)else s
noncomputable abbrev rlx {R:Type}(c:Int)(ps:List (Int×Int))(x:List azh×Bool×Int):Option (Step3 (List azh×Bool×Int) (List azh×Bool) R):=
 bif decide (x.2.2<((ps.length:Nat):Int))then
  andC (grd (0≤x.2.2/\x.2.2<((ps.length:Nat):Int))<|
   grd (x.2.2.toNat<ps.length)<|
   grd (0≤(ps.getD x.2.2.toNat default).1/\(ps.getD x.2.2.toNat default).1<((x.1.length:Nat):Int))<|
   grd ((ps.getD x.2.2.toNat default).1.toNat<x.1.length)<|
   bif decide ((x.1.getD (ps.getD x.2.2.toNat default).1.toNat default).Cost<0)then some (.out (x.1,x.2.1))else
   grd (0≤(ps.getD x.2.2.toNat default).2/\(ps.getD x.2.2.toNat default).2<((x.1.length:Nat):Int))<|
   grd ((ps.getD x.2.2.toNat default).2.toNat<x.1.length)<|
   (qzp (⟨IntKind.i64.wrap ((x.1.getD (ps.getD x.2.2.toNat default).1.toNat default).Cost+c),IntKind.i64.wrap ((x.1.getD (ps.getD x.2.2.toNat default).1.toNat default).Edges+1)⟩:azh) (x.1.getD (ps.getD x.2.2.toNat default).2.toNat default)).o.bind fun y=>
   bif y then
    grd (0≤(ps.getD x.2.2.toNat default).2/\(ps.getD x.2.2.toNat default).2<((x.1.length:Nat):Int))<|
    grd ((ps.getD x.2.2.toNat default).2.toNat<x.1.length/\0≤(ps.getD x.2.2.toNat default).2.toNat)<|
    some (.out (x.1.set (ps.getD x.2.2.toNat default).2.toNat (⟨IntKind.i64.wrap ((x.1.getD (ps.getD x.2.2.toNat default).1.toNat default).Cost+c),IntKind.i64.wrap ((x.1.getD (ps.getD x.2.2.toNat default).1.toNat default).Edges+1)⟩:azh),true))
   else some (.out (x.1,x.2.1)):Option (Step3 Unit (List azh×Bool) (Step3 (List azh×Bool×Int) (List azh×Bool) R))) fun y=>some (.next (y.1,y.2,IntKind.i64.wrap (x.2.2+1)))
 else some (.out (x.1,x.2.1))
def LB (l:List azh):Prop:=∀v:Int,0≤v->v<(l.length:Int)->(lab l v).Cost<0\/(0≤(lab l v).Cost/\(lab l v).Cost≤4000000000000000000/\0≤(lab l v).Edges/\(lab l v).Edges≤1000000000)
theorem Yzy {R:Type}{c p q:Int}{l:List azh}{ag:Bool}{ps:List (Int×Int)}{j:Nat}(hj:j<2)(hp:ps.length=2)(hpq:ps.getD j default=(p,q))(hc:0≤c/\c≤1099511627776)
 (h1:0≤p/\p<(l.length:Int)) (h2:0≤q/\q<(l.length:Int)) (hl:LB l):
 rlx (R:=R) c ps (l,ag,(j:Int))=some (.next ((kzp p q c (l,ag)).1,(kzp p q c (l,ag)).2,((j+1:Nat):Int))):=by
 unfold rlx kzp
 simp only
 (rw[az7 (by omega)];(repeat rw[azs (by omega)]);rw[Int.toNat_natCast,hpq])
 simp only
 ((repeat rw[azs (by omega)]))
 have hlp:=hl p h1.1 h1.2
 by_cases hn:(lab l p).Cost<0
 ·rw[az7 hn,az8,if_pos hn,w64n (by omega)]
 ·(rw[az6 hn,if_neg hn];(repeat rw[azs (by omega)]);rw[w64 (x:=(lab l p).Cost+c) (by omega) (by omega),w64 (x:=(lab l p).Edges+1) (by omega) (by omega),az3r (by simp only;omega),Option.bind_some])
  by_cases hls:xz1 ⟨(lab l p).Cost+c,(lab l p).Edges+1⟩ (lab l q)
  ·(rw[az7 hls,if_pos hls];(repeat rw[azs (by omega)]);rw[az8,w64n (by omega)])
  ·rw[az6 hls,if_neg hls,az8,w64n (by omega)]
section
variable {m:az9} {mode t:Int}
local instance:Inhabited Int:=⟨0⟩
def LOk (m:az9)(mode t B:Int)(l:List azh):Prop:=
 l.length=m.Points.length/\lab l t=⟨0,0⟩/\∀v:Int,0≤v->v<(l.length:Int)->(lab l v).Cost<0\/(Walk (Eg m mode) t v (lab l v).Cost (lab l v).Edges/\(lab l v).Edges≤B)
def Fin' (m:az9)(mode t r:Int)(l:List azh):Prop:=∀v c k,Best (Eg m mode) t v c k->k≤r->lab l v=⟨c,k⟩
def Sat' (l:List azh)(p q c:Int):Prop:=0≤(lab l p).Cost->0≤(lab l q).Cost/\((lab l q).Cost<(lab l p).Cost+c\/(lab l q).Cost=(lab l p).Cost+c/\(lab l q).Edges≤(lab l p).Edges+1)
def Zzv (l l':List azh):Prop:=∀v:Int,0≤(lab l v).Cost->0≤(lab l' v).Cost/\((lab l' v).Cost<(lab l v).Cost\/(lab l' v).Cost=(lab l v).Cost/\(lab l' v).Edges≤(lab l v).Edges)
theorem LOk.LB (hw:WF m){B:Int}(hB:B≤1000000){l:List azh}(h:LOk m mode t B l):LB l:=by
 intro v h0 h1
 rcases h.2.2 v h0 h1 with h2|⟨h2,h3⟩
 ·exact .inl h2
 ·have h4:=h2.ge (Eg.graph hw mode)
  have h5:=h2.le (Eg.graph hw mode)
  have:(lab l v).Edges * 1099511627776≤1000000 * 1099511627776:=Int.mul_le_mul_of_nonneg_right (by omega) (by omega)
  exact .inr ⟨h4.1,by omega,h4.2,by omega⟩
theorem Xzy {l:List azh}{q v:Int}{x:azh}(hq:0≤q/\q<(l.length:Int))(hv:0≤v):lab (l.set q.toNat x) v=if v=q then x else lab l v:=by
 unfold lab
 rw[jzb (by omega)]
 by_cases h:v=q
 ·subst h;rw[if_pos rfl,if_pos rfl]
 ·rw[if_neg (by omega),if_neg h]
theorem Jzb (hw:WF m)(ht:0≤t/\t<(m.Points.length:Int)){B r c p q:Int}{l:List azh}{ag:Bool}(h:LOk m mode t B l)(hf:Fin' m mode t r l)(he:Eg m mode q p c)(hpq:p≠q):
 LOk m mode t (B+1) (kzp p q c (l,ag)).1/\Fin' m mode t r (kzp p q c (l,ag)).1/\Zzv l (kzp p q c (l,ag)).1/\Sat' (kzp p q c (l,ag)).1 p q c/\
  ((kzp p q c (l,ag)).2=ag\/((kzp p q c (l,ag)).2=true/\r<(m.Points.length:Int)))/\((kzp p q c (l,ag)).2=false->(kzp p q c (l,ag)).1=l/\ag=false):=by
 have g:=Eg.graph hw mode
 obtain⟨q0,q1,p0,p1⟩:=g.lt _ _ _ he
 have hce:=g.cost _ _ _ he
 obtain⟨hl,hlt,hlw⟩:=h
 have same:∀s:List azh×Bool,s=(l,ag)->(0≤(lab l p).Cost->¬xz1 ⟨(lab l p).Cost+c,(lab l p).Edges+1⟩ (lab l q))->
  LOk m mode t (B+1) s.1/\Fin' m mode t r s.1/\Zzv l s.1/\Sat' s.1 p q c/\(s.2=ag\/(s.2=true/\r<(m.Points.length:Int)))/\(s.2=false->s.1=l/\ag=false):=by
  rintro s rfl hns
  refine⟨⟨hl,hlt,fun v h0 h1=>?_⟩,hf,fun v hv=>⟨hv,.inr ⟨rfl,Int.le_refl _⟩⟩,fun h0=>?_,.inl rfl,fun h=>⟨rfl,h⟩⟩
  ·rcases hlw v h0 h1 with h2|⟨h2,h3⟩
   ·exact .inl h2
   ·exact .inr ⟨h2,Int.le_trans h3 (by omega)⟩
  ·have:=hns h0
   unfold xz1 at this
   simp only at this⊢
   omega
 unfold kzp
 simp only
 by_cases hn:(lab l p).Cost<0
 ·rw[if_pos hn];exact same _ rfl (fun h=>by omega)
 ·rw[if_neg hn]
  by_cases hls:xz1 ⟨(lab l p).Cost+c,(lab l p).Edges+1⟩ (lab l q)
  ·rw[if_pos hls]
   simp only
   obtain⟨hwp,hep⟩:=(hlw p p0 (by omega)).resolve_left hn
   have hwq:=Walk.cons he hwp
   have hql:0≤q/\q<(l.length:Int):=⟨q0,by omega⟩
   have hset:∀v:Int,0≤v->lab (l.set q.toNat ⟨(lab l p).Cost+c,(lab l p).Edges+1⟩) v=if v=q then⟨(lab l p).Cost+c,(lab l p).Edges+1⟩else lab l v:=fun v hv=>Xzy hql hv
   obtain⟨cb,kb,hb⟩:=Best.exists g hwq
   have hkb:r<kb:=by
    refine Classical.byContradiction fun hc=>?_
    have h1:=hf q cb kb hb (by omega)
    have h2:=hb.2 _ _ hwq
    have h3:=hb.1.ge g
    rw[h1]at hls
    unfold xz1 at hls
    simp only at hls
    omega
   have hkn:=hb.few g ht
   have hqt:q≠t:=fun e=>by
    subst e
    have h1:=hwp.ge g
    rw[hlt]at hls
    unfold xz1 at hls
    simp only at hls
    omega
   refine⟨⟨by simpa using hl,by rw[hset t ht.1,if_neg (fun e=>hqt e.symm)];exact hlt,fun v h0 h1=>?_⟩,fun v c' k hbv hk=>?_,fun v hv=>?_,fun h0=>?_,.inr ⟨by trivial,by omega⟩,by simp⟩
   ·rw[hset v h0]
    by_cases hvq:v=q
    ·rw[if_pos hvq];subst hvq;exact .inr ⟨hwq,by simp only;omega⟩
    ·rw[if_neg hvq]
     rcases hlw v h0 (by simpa using h1)with h2|⟨h2,h3⟩
     ·exact .inl h2
     ·exact .inr ⟨h2,by omega⟩
   ·have hv:=hbv.1.lt g ht
    rw[hset v hv.1,if_neg (fun e=>?_)]
    ·exact hf v c' k hbv hk
    ·subst e
     have:=hb.unique hbv
     omega
   ·by_cases hv0:0≤v
    ·rw[hset v hv0]
     by_cases hvq:v=q
     ·subst hvq
      rw[if_pos rfl]
      unfold xz1 at hls
      simp only at hls⊢
      have:=hwp.ge g
      omega
     ·rw[if_neg hvq];exact⟨hv,.inr ⟨rfl,Int.le_refl _⟩⟩
    ·have e1:v.toNat=0:=by omega
     by_cases hq0:q=0
     ·subst hq0
      have:lab (l.set (0:Int).toNat ⟨(lab l p).Cost+c,(lab l p).Edges+1⟩) v=lab (l.set (0:Int).toNat ⟨(lab l p).Cost+c,(lab l p).Edges+1⟩) 0:=by unfold lab;rw[e1];rfl
      have e2:lab l v=lab l 0:=by unfold lab;rw[e1];rfl
      rw[this,hset 0 (by omega),if_pos rfl,e2]
      rw[e2]at hv
      unfold xz1 at hls
      simp only at hls⊢
      have:=hwp.ge g
      omega
     ·have:lab (l.set q.toNat ⟨(lab l p).Cost+c,(lab l p).Edges+1⟩) v=lab l v:=by
       unfold lab;rw[jzb (by omega),if_neg (by omega)]
      rw[this];exact⟨hv,.inr ⟨rfl,Int.le_refl _⟩⟩
   ·rw[hset q q0,hset p p0,if_pos rfl,if_neg hpq]
    have:=hwp.ge g
    exact⟨by simp only;omega,.inr ⟨rfl,Int.le_refl _⟩⟩
  ·rw[if_neg hls];exact same _ rfl (fun _=>hls)
theorem az4i {R:Type}(hN:3≤NN)(hw:WF m)(ht:0≤t/\t<(m.Points.length:Int)){B r:Int}(hB:B+1≤1000000){l:List azh}{ag:Bool}(h:LOk m mode t B l)(hf:Fin' m mode t r l){i:Nat}(hi:i<m.Edges.length)
 (hu:ezi (m.Edges.getD i default).State mode=true):
 iter (rlx (R:=R) (m.Edges.getD i default).Cost [((m.Edges.getD i default).U,(m.Edges.getD i default).V),((m.Edges.getD i default).V,(m.Edges.getD i default).U)]) NN (l,ag,0)=
  some (.inl (kzp (m.Edges.getD i default).V (m.Edges.getD i default).U (m.Edges.getD i default).Cost (kzp (m.Edges.getD i default).U (m.Edges.getD i default).V (m.Edges.getD i default).Cost (l,ag)))):=by
 obtain⟨o1,o2,o3,o4,o5⟩:=(hw i hi).1
 obtain⟨M,hM⟩:∃M,NN=M+3:=⟨NN-3,by omega⟩
 have he:Eg m mode (m.Edges.getD i default).V (m.Edges.getD i default).U (m.Edges.getD i default).Cost:=⟨i,hi,hu,rfl,.inr ⟨rfl,rfl⟩⟩
 have hl:=h.1
 have h1:=Yzy (R:=R) (c:=(m.Edges.getD i default).Cost) (l:=l) (ag:=ag) (j:=0) (ps:=[((m.Edges.getD i default).U,(m.Edges.getD i default).V),((m.Edges.getD i default).V,(m.Edges.getD i default).U)]) (by omega) rfl rfl ⟨o4,o5⟩ ⟨by omega,by omega⟩ ⟨by omega,by omega⟩ (h.LB hw (by omega))
 obtain⟨k1,k2,_⟩:=Jzb (ag:=ag) hw ht h hf he (by omega)
 generalize kzp (m.Edges.getD i default).U (m.Edges.getD i default).V (m.Edges.getD i default).Cost (l,ag)=s1 at h1 k1 k2⊢
 obtain⟨l1,a1⟩:=s1
 have hl1:l1.length=m.Points.length:=k1.1
 have h2:=Yzy (R:=R) (c:=(m.Edges.getD i default).Cost) (l:=l1) (ag:=a1) (j:=1) (ps:=[((m.Edges.getD i default).U,(m.Edges.getD i default).V),((m.Edges.getD i default).V,(m.Edges.getD i default).U)]) (by omega) rfl rfl ⟨o4,o5⟩ ⟨by omega,by omega⟩ ⟨by omega,by omega⟩ (k1.LB hw (by omega))
 generalize kzp (m.Edges.getD i default).V (m.Edges.getD i default).U (m.Edges.getD i default).Cost (l1,a1)=s2 at h2⊢
 rw[hM];exact((tz6 (f:=rlx (R:=R) (m.Edges.getD i default).Cost [((m.Edges.getD i default).U,(m.Edges.getD i default).V),((m.Edges.getD i default).V,(m.Edges.getD i default).U)]) (N:=M+2) h1).trans (tz6 (f:=rlx (R:=R) (m.Edges.getD i default).Cost [((m.Edges.getD i default).U,(m.Edges.getD i default).V),((m.Edges.getD i default).V,(m.Edges.getD i default).U)]) (N:=M+1) h2)).trans rfl
def Done (m:az9)(mode t r:Int)(l:List azh)(j:Nat):Prop:=
 ezi (m.Edges.getD j default).State mode=true->∀p q,((m.Edges.getD j default).U=p/\(m.Edges.getD j default).V=q\/(m.Edges.getD j default).U=q/\(m.Edges.getD j default).V=p)->∀c k,Best (Eg m mode) t p c k->k≤r->
  0≤(lab l q).Cost/\((lab l q).Cost<c+(m.Edges.getD j default).Cost\/(lab l q).Cost=c+(m.Edges.getD j default).Cost/\(lab l q).Edges≤k+1)
def SatE (m:az9)(mode:Int)(l:List azh)(j:Nat):Prop:=
 ezi (m.Edges.getD j default).State mode=true->Sat' l (m.Edges.getD j default).U (m.Edges.getD j default).V (m.Edges.getD j default).Cost/\Sat' l (m.Edges.getD j default).V (m.Edges.getD j default).U (m.Edges.getD j default).Cost
theorem Done.mono {r:Int}{l l':List azh}{j:Nat}(h:Done m mode t r l j)(hm:Zzv l l'):Done m mode t r l' j:=by
 intro hu p q hpq c k hb hk
 have h1:=h hu p q hpq c k hb hk
 have h2:=hm q h1.1
 omega
theorem Xzz (m:az9)(mode t:Int)(hs:oza m)(hw:WF m)(ht:0≤t/\t<(m.Points.length:Int))(hN:100000≤NN):
 ∃l,(szc m t mode).o=some l/\l.length=m.Points.length/\∀v:Int,0≤v->v<(m.Points.length:Int)->
  ((lab l v).Cost<0/\∀c k,¬Walk (Eg m mode) t v c k)\/Best (Eg m mode) t v (lab l v).Cost (lab l v).Edges:=by
 have g:=Eg.graph hw mode
 obtain⟨hs1,hs2⟩:=hs
 simp only[Kzn,szd,T.run]
 ((repeat rw[azs (by omega)]))
 refine Nz7 (g:=fun l=>l) (fun k (x:List azh×Int)=>∃i:Nat,x.2=(i:Int)/\i+k=m.Points.length/\x.1.length=m.Points.length/\∀v,v<i->(x.1.getD v default).Cost<0)
  (fun l=>l.length=m.Points.length/\∀v,v<m.Points.length->(l.getD v default).Cost<0) m.Points.length ⟨0,rfl,by omega,by simp,fun v hv=>by omega⟩ (by omega) ?_ ?_
 ·rintro k ⟨l,x⟩ ⟨i,hx,hi,hl,hn⟩
  simp only at hx hl hn
  subst hx
  dsimp only
  by_cases hlt:i<l.length
  ·left
   (rw[az7 (by omega)];(repeat rw[azs (by omega)]);rw[Int.toNat_natCast];(repeat rw[azs (by omega)]);rw[w64n (by omega)])
   refine⟨_,rfl,k-1,by omega,i+1,rfl,by omega,by simpa using hl,fun v hv=>?_⟩
   dsimp only
   rw[jzb hlt]
   by_cases hvi:v=i
   ·rw[if_pos hvi];show(-1:Int)<0;decide
   ·rw[if_neg hvi];exact hn v (by omega)
  ·right
   rw[az6 (by omega)]
   exact⟨_,rfl,hl,fun v hv=>hn v (by omega)⟩
 ·rintro y ⟨hyl,hyn⟩
  ((repeat rw[azs (by omega)]))
  have hset:∀v:Int,0≤v->lab (y.set t.toNat ⟨0,0⟩) v=if v=t then⟨0,0⟩else lab y v:=fun v hv=>Xzy ⟨ht.1,by omega⟩ hv
  refine Nz7 (g:=fun l=>l) (fun k (x:List azh×Bool)=>∃r:Nat,r+k=m.Points.length+2/\r≤m.Points.length+1/\LOk m mode t (2 * m.Edges.length * r) x.1/\Fin' m mode t r x.1/\(x.2=false->∀j,j<m.Edges.length->SatE m mode x.1 j)/\(r=m.Points.length+1->x.2=false))
   (fun l=>LOk m mode t (2 * m.Edges.length * (m.Points.length+1)) l/\∀j,j<m.Edges.length->SatE m mode l j) (m.Points.length+2) ⟨0,by omega,by omega,⟨by simpa using hyl,by rw[hset t ht.1,if_pos rfl],fun v h0 h1=>?_⟩,fun v c k hb hk=>?_,by simp,by simp⟩ (by omega) ?_ ?_
  ·rw[hset v h0]
   by_cases hvt:v=t
   ·rw[if_pos hvt];subst hvt;exact .inr ⟨.nil,by simp⟩
   ·rw[if_neg hvt];simp only[List.length_set]at h1;exact .inl (hyn v.toNat (by omega))
  ·have h1:=hb.1.ge g
   obtain⟨rfl,rfl⟩:=hb.1.zero g (by omega)
   have:k=0:=by omega
   subst this
   rw[hset v ht.1,if_pos rfl]
  ·rintro k ⟨l,ag⟩ ⟨r,hr,hrn,hlok,hfin,hsat,hlast⟩
   simp only at hlok hfin hsat hlast
   dsimp only
   cases ag with
   |false=>
    right
    rw[czt (by rfl)]
    refine⟨_,rfl,⟨hlok.1,hlok.2.1,fun v h0 h1=>?_⟩,hsat rfl⟩
    rcases hlok.2.2 v h0 h1 with h2|⟨h2,h3⟩
    ·exact .inl h2
    ·refine .inr ⟨h2,Int.le_trans h3 ?_⟩
     exact Int.mul_le_mul_of_nonneg_left (by omega) (by omega)
   |true=>
    left
    rw[cz8 (by rfl)]
    have hrn':r≤m.Points.length:=by
     by_cases h:r=m.Points.length+1
     ·exact absurd (hlast h) (by simp)
     ·omega
    have hB:(2 * m.Edges.length * r:Int)≤40000:=by
     have h1:(2 * m.Edges.length * r:Int)≤2 * m.Edges.length * 100:=Int.mul_le_mul_of_nonneg_left (by omega) (by omega)
     omega
    refine Nz7 (g:=Step3.next) (fun k' (x:List azh×Bool×Int)=>∃i:Nat,x.2.2=(i:Int)/\i+k'=m.Edges.length/\LOk m mode t (2 * m.Edges.length * r+2 * i) x.1/\Fin' m mode t r x.1/\(∀j,j<i->Done m mode t r x.1 j)/\
     (x.2.1=true->r<m.Points.length)/\(x.2.1=false->∀j,j<i->SatE m mode x.1 j))
     (fun x=>LOk m mode t (2 * m.Edges.length * r+2 * m.Edges.length) x.1/\Fin' m mode t r x.1/\(∀j,j<m.Edges.length->Done m mode t r x.1 j)/\
      (x.2=true->r<m.Points.length)/\(x.2=false->∀j,j<m.Edges.length->SatE m mode x.1 j)) m.Edges.length ⟨0,rfl,by omega,by simpa using hlok,hfin,fun j hj=>by omega,by simp,fun _ j hj=>by omega⟩ (by omega) ?_ ?_
    ·rintro k' ⟨l',ag',x⟩ ⟨i,hx,hi,q1,q2,q3,q4,q5⟩
     simp only at hx q1 q2 q3 q4 q5
     subst hx
     dsimp only
     by_cases hlt:i<m.Edges.length
     ·left
      (rw[az7 (by omega)];(repeat rw[azs (by omega)]);rw[Int.toNat_natCast,Jzt,Option.bind_some])
      by_cases hu:ezi (m.Edges.getD i default).State mode=true
      ·rw[czt (by rw[hu];rfl)]
       have htwo:=az4i (R:=Step3 Unit (List azh×Bool) (Step3 (List azh×Bool×Int) (List azh×Bool) (Step3 (List azh×Bool) (List azh) (List azh)))) (by omega) hw ht (by omega) q1 q2 (ag:=ag') hlt hu
       obtain⟨o1,o2,o3,o4,o5⟩:=(hw i hlt).1
       have he1:Eg m mode (m.Edges.getD i default).V (m.Edges.getD i default).U (m.Edges.getD i default).Cost:=⟨i,hlt,hu,rfl,.inr ⟨rfl,rfl⟩⟩
       obtain⟨k1,k2,k3,k4,k5,k6⟩:=Jzb (ag:=ag') hw ht q1 q2 he1 (by omega)
       have he2:=g.sym _ _ _ he1
       generalize hs1:kzp (m.Edges.getD i default).U (m.Edges.getD i default).V (m.Edges.getD i default).Cost (l',ag')=s1 at htwo k1 k2 k3 k4 k5 k6
       obtain⟨l1,a1⟩:=s1
       simp only at k1 k2 k3 k4 k5 k6
       obtain⟨j1,j2,j3,j4,j5,j6⟩:=Jzb (ag:=a1) hw ht k1 k2 he2 (by omega)
       generalize hs2:kzp (m.Edges.getD i default).V (m.Edges.getD i default).U (m.Edges.getD i default).Cost (l1,a1)=s2 at htwo j1 j2 j3 j4 j5 j6
       obtain⟨l2,a2⟩:=s2
       simp only at j1 j2 j3 j4 j5 j6
       rw[qz2 htwo,az8,w64n (by omega)]
       have hmono:Zzv l' l2:=fun v hv=>by
        have h1:=k3 v hv
        have h2:=j3 v h1.1
        omega
       refine⟨_,rfl,k'-1,by omega,i+1,rfl,by omega,by simpa[show(2 * m.Edges.length * r+2 * i+1+1:Int)=2 * m.Edges.length * r+2 * ((i+1:Nat):Int) by omega]using j1,j2,fun j hj=>?_,fun ha=>?_,fun ha j hj=>?_⟩
       ·by_cases hji:j=i
        ·subst hji
         intro _ p q hpq c k hb hk
         rcases hpq with⟨rfl,rfl⟩|⟨rfl,rfl⟩
         ·have e1:=k2 _ _ _ hb hk
          have e0:=hb.1.ge g
          unfold Sat' at k4
          rw[e1]at k4
          have h1:=k4 e0.1
          have h2:=j3 _ h1.1
          simp only at h1
          dsimp only
          omega
         ·have e1:=j2 _ _ _ hb hk
          have e0:=hb.1.ge g
          unfold Sat' at j4
          rw[e1]at j4
          have h1:=j4 e0.1
          simp only at h1
          exact h1
        ·exact(q3 j (by omega)).mono hmono
       ·simp only at ha
        rcases j5 with h|h
        ·rw[ha]at h
         rcases k5 with h'|h'
         ·rw[←h]at h';exact q4 h'.symm
         ·omega
        ·omega
       ·simp only at ha
        obtain⟨rfl,rfl⟩:=j6 ha
        obtain⟨rfl,rfl⟩:=k6 rfl
        by_cases hji:j=i
        ·subst hji;intro _;exact⟨k4,j4⟩
        ·exact q5 rfl j (by omega)
      ·have huf:ezi (m.Edges.getD i default).State mode=false:=by simpa using hu
       rw[huf,cz8 (by rfl),az8,w64n (by omega)]
       refine⟨_,rfl,k'-1,by omega,i+1,rfl,by omega,⟨q1.1,q1.2.1,fun v h0 h1=>?_⟩,q2,fun j hj=>?_,q4,fun ha j hj=>?_⟩
       ·rcases q1.2.2 v h0 h1 with h2|⟨h2,h3⟩
        ·exact .inl h2
        ·exact .inr ⟨h2,Int.le_trans h3 (by omega)⟩
       ·by_cases hji:j=i
        ·subst hji;intro h;exact absurd h hu
        ·exact q3 j (by omega)
       ·by_cases hji:j=i
        ·subst hji;intro h;exact absurd h hu
        ·exact q5 ha j (by omega)
     ·right
      rw[az6 (by omega)]
      have hie:i=m.Edges.length:=by omega
      subst hie
      exact⟨_,rfl,q1,q2,q3,q4,q5⟩
    ·rintro⟨l',ag'⟩ ⟨q1,q2,q3,q4,q5⟩
     simp only at q1 q2 q3 q4 q5
     refine⟨_,rfl,k-1,by omega,r+1,by omega,by omega,?_,fun v c kk hb hk=>?_,q5,fun h=>?_⟩
     ·have:(2 * m.Edges.length * ((r+1:Nat):Int):Int)=2 * m.Edges.length * r+2 * m.Edges.length:=by
       rw[show((r+1:Nat):Int)=(r:Int)+1 by omega,Int.mul_add];omega
      rw[this];exact q1
     ·by_cases hkr:kk≤r
      ·exact q2 v c kk hb hkr
      ·obtain⟨u,e,⟨j,hj,hu,hc,hpq⟩,hbu⟩:=hb.step (by omega)
       have h1:=q3 j hj hu u v (by omega) _ _ hbu (by omega)
       have hv:=hb.1.lt g ht
       have hq1l:=q1.1
       rcases q1.2.2 v hv.1 (by omega)with h2|⟨h2,_⟩
       ·omega
       ·have h3:=hb.2 _ _ h2
        have e1:(lab l' v).Cost=c:=by omega
        have e2:(lab l' v).Edges=kk:=by omega
        generalize lab l' v=z at e1 e2
        obtain⟨z1,z2⟩:=z
        simp only at e1 e2
        rw[e1,e2]
     ·cases ag' with
      |false=>rfl
      |true=>have:=q4 rfl;omega
  ·rintro l ⟨hlok,hsat⟩
   refine⟨l,rfl,hlok.1,fun v h0 h1=>?_⟩
   have hclosed:∀v c k,Walk (Eg m mode) t v c k->0≤(lab l v).Cost/\((lab l v).Cost<c\/(lab l v).Cost=c/\(lab l v).Edges≤k):=by
    intro v c k hwk
    refine Wzz (lc:=fun v=>(lab l v).Cost) (lk:=fun v=>(lab l v).Edges) (isSet:=fun v=>0≤(lab l v).Cost) ?_ ?_ hwk
    ·rw[hlok.2.1];simp
    ·rintro v u e ⟨j,hj,hu,hc,hpq⟩ hset
     obtain⟨s1,s2⟩:=hsat j hj hu
     rcases hpq with⟨rfl,rfl⟩|⟨rfl,rfl⟩
     ·have:=s2 hset;rw[hc]at this;exact this
     ·have:=s1 hset;rw[hc]at this;exact this
   have hll:=hlok.1
   rcases hlok.2.2 v h0 (by omega)with h2|⟨h2,_⟩
   ·refine .inl ⟨h2,fun c k hwk=>?_⟩
    have:=(hclosed v c k hwk).1
    omega
   ·exact .inr ⟨h2,fun c' k' hwk=>(hclosed v c' k' hwk).2⟩
end
theorem Lzz (m:az9)(fr t:Int)(hs:oza m)(hN:100000≤NN):∃b,(oz2 m fr t).o=some b/\(b=true↔Ez1 m fr t):=by
 simp only[Oz1,uzy,T.run];unfold Ez1
 obtain⟨b,hb,hbw⟩:=Xze m hs (by omega)
 rw[hb,Option.bind_some]
 cases b with
 |false=>
  rw[czt (by rfl)]
  exact⟨_,rfl,by simp only[Bool.false_eq_true,false_iff];intro h;have:=hbw.2 h.1;cases this⟩
 |true=>
  have hw:=hbw.1 rfl
  rw[cz8 (by rfl)]
  by_cases h1:fr≥0
  ·rw[az7 h1]
   by_cases h2:fr<(m.Points.length:Int)
   ·rw[az7 h2]
    by_cases h3:t≥0
    ·rw[az7 h3]
     exact⟨_,rfl,by simp only[decide_eq_true_eq];exact⟨fun h=>⟨hw,⟨h1,h2⟩,h3,h⟩,fun h=>h.2.2.2⟩⟩
    ·rw[az6 h3];exact⟨_,rfl,by simp only[Bool.false_eq_true,false_iff];omega⟩
   ·rw[az6 h2];exact⟨_,rfl,by simp only[Bool.false_eq_true,false_iff];omega⟩
  ·rw[az6 h1];exact⟨_,rfl,by simp only[Bool.false_eq_true,false_iff];omega⟩
theorem Lzo (m:az9)(fr t mode:Int)(hs:oza m)(h:Ez1 m fr t)(hm:0≤mode/\mode≤2)(hN:100000≤NN):∃r,(fz8 m fr t mode).o=some r/\Routed m fr t mode r:=by
 obtain⟨b,hb,hbw⟩:=Lzz m fr t hs hN
 have hbt:=hbw.2 h
 subst hbt
 obtain⟨hw,hf,ht⟩:=h
 have g:=Eg.graph hw mode
 obtain⟨l,hl,hll,hlab⟩:=Xzz m mode t hs hw ht hN
 simp only[wz3,izm,T.run]
 (rw[hb,Option.bind_some,czt (by rfl),az6 (by omega),az8,az6 (by omega),hl,Option.bind_some];(repeat rw[azs (by omega)]))
 have hs1:=hs.1
 have hs2:=hs.2
 rcases hlab fr hf.1 hf.2 with⟨h1,h2⟩|hb
 ·rw[az7 h1];exact⟨_,rfl,.inl ⟨rfl,rfl,h2⟩⟩
 ·have hb0:=hb.1.ge g
  have hbn:=hb.few g ht
  (rw[az6 (show ¬ (lab l fr).Cost<0 by omega)];(repeat rw[azs (by omega)]))
  generalize hcf:(lab l fr).Cost=cf at hb hb0
  generalize hkf:(lab l fr).Edges=kf at hb hb0 hbn
  refine Nz7 (g:=fun r=>r) (fun k (z:List Int×Int)=>∃c',Best (Eg m mode) t z.2 c' (k:Int)/\lab l z.2=⟨c',k⟩/\∃pre,z.1=fr::pre/\(pre.length+k:Int)≤kf/\∀l',Rt (Eg m mode) t z.2 l'->Rt (Eg m mode) t fr (pre++l'))
   (fun acc=>∃l',acc=fr::l'/\Rt (Eg m mode) t fr l') kf.toNat ⟨cf,by dsimp only;rw[Int.toNat_of_nonneg hb0.2];exact hb,?_,[],rfl,by simp;omega,fun l' h=>h⟩ (by omega) ?_ ?_
  ·dsimp only
   rw[Int.toNat_of_nonneg hb0.2]
   generalize lab l fr=z at hcf hkf
   obtain⟨z1,z2⟩:=z
   simp only at hcf hkf
   rw[hcf,hkf]
  ·rintro k ⟨acc,v⟩ ⟨c',hbv,hlv,pre,hacc,hpl,hrt⟩
   simp only at hbv hlv hacc hpl hrt
   subst hacc
   dsimp only
   by_cases hvt:v=t
   ·right
    rw[bzl hvt]
    refine⟨_,rfl,pre,rfl,?_⟩
    have:=hrt [] (by rw[hvt];exact .nil)
    simpa using this
   ·left
    rw[czo hvt]
    have hvl:=hbv.1.lt g ht
    have hbv0:=hbv.1.ge g
    have hk1:=hbv.ne g hvt
    have hvc:(lab l v).Cost=c':=by rw[hlv]
    have hve:(lab l v).Edges=k:=by rw[hlv]
    have hcand:∀i,i<m.Edges.length->ezi (m.Edges.getD i default).State mode=true->∀w,((m.Edges.getD i default).U=v/\(m.Edges.getD i default).V=w\/(m.Edges.getD i default).V=v/\(m.Edges.getD i default).U=w)->
     (0≤(lab l w).Cost/\(lab l w).Cost+(m.Edges.getD i default).Cost=c'/\(lab l w).Edges+1=k↔Best (Eg m mode) t w (c'- (m.Edges.getD i default).Cost) (k-1)):=by
     intro i hi hu w hvw
     have he:Eg m mode v w (m.Edges.getD i default).Cost:=⟨i,hi,hu,rfl,by omega⟩
     have hwl:=g.lt _ _ _ he
     rcases hlab w hwl.2.2.1 hwl.2.2.2 with⟨h1,h2⟩|hbw
     ·constructor
      ·intro h;omega
      ·intro h;exact absurd h.1 (h2 _ _)
     ·constructor
      ·rintro⟨_,h3,h4⟩
       rw[show c'- (m.Edges.getD i default).Cost=(lab l w).Cost by omega,show(k:Int)-1=(lab l w).Edges by omega];exact hbw
      ·intro h
       have:=hbw.unique h
       have:=hbw.1.ge g
       omega
    refine Nz7 (g:=Step3.next) (fun k' (z:Int×Int)=>∃i:Nat,z.2=(i:Int)/\i+k'=m.Edges.length/\
     ((z.1= -1/\∀j,j<i->ezi (m.Edges.getD j default).State mode=true->∀w,((m.Edges.getD j default).U=v/\(m.Edges.getD j default).V=w\/(m.Edges.getD j default).V=v/\(m.Edges.getD j default).U=w)->¬Best (Eg m mode) t w (c'- (m.Edges.getD j default).Cost) (k-1))\/
      (0≤z.1/\(∃e,Eg m mode v z.1 e/\Best (Eg m mode) t z.1 (c'-e) (k-1))/\∀j,j<i->ezi (m.Edges.getD j default).State mode=true->∀w,((m.Edges.getD j default).U=v/\(m.Edges.getD j default).V=w\/(m.Edges.getD j default).V=v/\(m.Edges.getD j default).U=w)->Best (Eg m mode) t w (c'- (m.Edges.getD j default).Cost) (k-1)->z.1≤w)))
     (fun w=>NextV (Eg m mode) t v w/\∃e,Eg m mode v w e/\Best (Eg m mode) t w (c'-e) (k-1)) m.Edges.length ⟨0,rfl,by omega,.inl ⟨rfl,fun j hj=>by omega⟩⟩ (by omega) ?_ ?_
    ·rintro k' ⟨nx,x⟩ ⟨i,hx,hi,hinv⟩
     simp only at hx hinv
     subst hx
     dsimp only
     by_cases hlt:i<m.Edges.length
     ·left
      obtain⟨o1,o2,o3,o4,o5⟩:=(hw i hlt).1
      (rw[az7 (by omega)];(repeat rw[azs (by omega)]);rw[Int.toNat_natCast,Jzt,Option.bind_some])
      have skip:(∀w,ezi (m.Edges.getD i default).State mode=true->((m.Edges.getD i default).U=v/\(m.Edges.getD i default).V=w\/(m.Edges.getD i default).V=v/\(m.Edges.getD i default).U=w)->¬Best (Eg m mode) t w (c'- (m.Edges.getD i default).Cost) (k-1))->
       ∃x',(some (Step3.next (nx,((i+1:Nat):Int))):Option (Step3 (Int×Int) Int (Step3 (List Int×Int) (List Int) (bzf×Bool))))=some (.next x')/\∃m',m'<k'/\∃i:Nat,x'.2=(i:Int)/\i+m'=m.Edges.length/\
      ((x'.1= -1/\∀j,j<i->ezi (m.Edges.getD j default).State mode=true->∀w,((m.Edges.getD j default).U=v/\(m.Edges.getD j default).V=w\/(m.Edges.getD j default).V=v/\(m.Edges.getD j default).U=w)->¬Best (Eg m mode) t w (c'- (m.Edges.getD j default).Cost) (k-1))\/
       (0≤x'.1/\(∃e,Eg m mode v x'.1 e/\Best (Eg m mode) t x'.1 (c'-e) (k-1))/\∀j,j<i->ezi (m.Edges.getD j default).State mode=true->∀w,((m.Edges.getD j default).U=v/\(m.Edges.getD j default).V=w\/(m.Edges.getD j default).V=v/\(m.Edges.getD j default).U=w)->Best (Eg m mode) t w (c'- (m.Edges.getD j default).Cost) (k-1)->x'.1≤w)):=by
        intro hno
        refine⟨_,rfl,k'-1,by omega,i+1,rfl,by omega,?_⟩
        rcases hinv with⟨h1,h2⟩|⟨h1,h2,h3⟩
        ·refine .inl ⟨h1,fun j hj hu w hvw=>?_⟩
         by_cases hji:j=i
         ·subst hji;exact hno w hu hvw
         ·exact h2 j (by omega) hu w hvw
        ·refine .inr ⟨h1,h2,fun j hj hu w hvw hbw=>?_⟩
         by_cases hji:j=i
         ·subst hji;exact absurd hbw (hno w hu hvw)
         ·exact h3 j (by omega) hu w hvw hbw
      by_cases hu:ezi (m.Edges.getD i default).State mode=true
      ·rw[czt (by rw[hu];rfl)]
       by_cases hend:(m.Edges.getD i default).U=v\/(m.Edges.getD i default).V=v
       ·have hy:(bif ((m.Edges.getD i default).U !=v)then(some (.out ((m.Edges.getD i default).V !=v)):Option (Step3 Unit Bool (Step3 Unit Int (Step3 (Int×Int) Int (Step3 (List Int×Int) (List Int) (bzf×Bool))))))else some (.out false))=some (.out false):=by
         by_cases h1:(m.Edges.getD i default).U=v
         ·rw[bzl h1]
         ·rw[czo h1]
          have:((m.Edges.getD i default).V !=v)=false:=by simpa using hend.resolve_left h1
          rw[this]
        rw[hy,az8,czt (by rfl)]
        obtain⟨w,hvw,hz⟩:∃w,((m.Edges.getD i default).U=v/\(m.Edges.getD i default).V=w\/(m.Edges.getD i default).V=v/\(m.Edges.getD i default).U=w)/\IntKind.i64.wrap (IntKind.i64.wrap ((m.Edges.getD i default).U+(m.Edges.getD i default).V)-v)=w:=by
         rw[w64 (x:=(m.Edges.getD i default).U+(m.Edges.getD i default).V) (by omega) (by omega),w64 (by omega) (by omega)]
         refine⟨_,?_,rfl⟩
         omega
        rw[hz]
        have he:Eg m mode v w (m.Edges.getD i default).Cost:=⟨i,hlt,hu,rfl,by omega⟩
        have hwl:=g.lt _ _ _ he
        have hc:=hcand i hlt hu w hvw
        have hone:∀w',((m.Edges.getD i default).U=v/\(m.Edges.getD i default).V=w'\/(m.Edges.getD i default).V=v/\(m.Edges.getD i default).U=w')->w'=w:=fun w' h=>by omega
        have hlw:(lab l w).Cost<0\/(0≤(lab l w).Cost/\(lab l w).Cost≤100 * 1099511627776/\0≤(lab l w).Edges/\(lab l w).Edges≤100):=by
         rcases hlab w hwl.2.2.1 hwl.2.2.2 with⟨h1,_⟩|hbw
         ·exact .inl h1
         ·have a1:=hbw.1.ge g
          have a2:=hbw.1.le g
          have a3:=hbw.few g ht
          have a4:(lab l w).Edges * 1099511627776≤100 * 1099511627776:=Int.mul_le_mul_of_nonneg_right (by omega) (by omega)
          exact .inr ⟨a1.1,by omega,a1.2,by omega⟩
        ((repeat rw[azs (by omega)]))
        by_cases hok:0≤(lab l w).Cost/\(lab l w).Cost+(m.Edges.getD i default).Cost=c'/\(lab l w).Edges+1=k
        ·have hbw:=hc.1 hok
         (rw[az7 (show(lab l w).Cost≥0 by omega)];(repeat rw[azs (by omega)]);rw[w64 (x:=(lab l w).Cost+(m.Edges.getD i default).Cost) (by omega) (by omega),cz4 (show(lab l w).Cost+(m.Edges.getD i default).Cost=(lab l v).Cost by omega)];(repeat rw[azs (by omega)]);rw[w64 (x:=(lab l w).Edges+1) (by omega) (by omega),cz4 (show(lab l w).Edges+1=(lab l v).Edges by omega)])
         by_cases hnx:nx<0
         ·rw[az7 hnx,az8,cz8 (by rfl),az8,w64n (by omega)]
          refine⟨_,rfl,k'-1,by omega,i+1,rfl,by omega,.inr ⟨hwl.2.2.1,⟨_,he,hbw⟩,fun j hj hu' w' hvw' hbw'=>?_⟩⟩
          by_cases hji:j=i
          ·subst hji;rw[hone w' hvw'];exact Int.le_refl _
          ·rcases hinv with⟨_,h2⟩|⟨h1,_⟩
           ·exact absurd hbw' (h2 j (by omega) hu' w' hvw')
           ·omega
         ·rw[az6 hnx,az8]
          rcases hinv with⟨h1,h2⟩|⟨h1,h2,h3⟩
          ·omega
          ·by_cases hlt2:w<nx
           ·rw[az7 hlt2,az8,w64n (by omega)]
            refine⟨_,rfl,k'-1,by omega,i+1,rfl,by omega,.inr ⟨hwl.2.2.1,⟨_,he,hbw⟩,fun j hj hu' w' hvw' hbw'=>?_⟩⟩
            by_cases hji:j=i
            ·subst hji;rw[hone w' hvw'];exact Int.le_refl _
            ·have:=h3 j (by omega) hu' w' hvw' hbw'
             dsimp only;omega
           ·rw[az6 hlt2,az8,w64n (by omega)]
            refine⟨_,rfl,k'-1,by omega,i+1,rfl,by omega,.inr ⟨h1,h2,fun j hj hu' w' hvw' hbw'=>?_⟩⟩
            by_cases hji:j=i
            ·subst hji;rw[hone w' hvw'];dsimp only;omega
            ·exact h3 j (by omega) hu' w' hvw' hbw'
        ·have hfin:(bif (decide ((lab l w).Cost≥0))then
          bif ((IntKind.i64.wrap ((lab l w).Cost+(m.Edges.getD i default).Cost))==(lab l v).Cost)then
           bif ((IntKind.i64.wrap ((lab l w).Edges+1))==(lab l v).Edges)then
            bif (decide (nx<0))then
             some (.out true)
            else
             some (.out (decide (w<nx)))
           else
            some (.out false)
          else
           some (.out false)
          else
           (some (.out false):Option (Step3 Unit Bool (Step3 Unit Int (Step3 (Int×Int) Int (Step3 (List Int×Int) (List Int) (bzf×Bool)))))))=some (.out false):=by
          by_cases h1:(lab l w).Cost≥0
          ·(rw[az7 h1];(repeat rw[azs (by omega)]);rw[w64 (x:=(lab l w).Cost+(m.Edges.getD i default).Cost) (by omega) (by omega)])
           by_cases h2:(lab l w).Cost+(m.Edges.getD i default).Cost=(lab l v).Cost
           ·(rw[cz4 h2];(repeat rw[azs (by omega)]);rw[w64 (x:=(lab l w).Edges+1) (by omega) (by omega),czj (by omega)])
           ·rw[czj h2]
          ·rw[az6 h1]
         rw[hfin,az8,czt (by rfl),az8,w64n (by omega)]
         exact skip (fun w' _ hvw' hbw'=>hok (hc.2 (by rw[←hone w' hvw'];exact hbw')))
       ·rw[czo (fun h=>hend (.inl h))]
        have:((m.Edges.getD i default).V !=v)=true:=by
         rw[bne_iff_ne];exact fun h=>hend (.inr h)
        rw[this,az8,cz8 (by rfl),az8,w64n (by omega)]
        exact skip (fun w' _ hvw' _=>hend (by omega))
      ·have huf:ezi (m.Edges.getD i default).State mode=false:=by simpa using hu
       rw[huf,cz8 (by rfl),az8,cz8 (by rfl),az8,w64n (by omega)]
       exact skip (fun w' h _ _=>hu h)
     ·right
      rw[az6 (by omega)]
      have hie:i=m.Edges.length:=by omega
      subst hie
      obtain⟨u0,e0,⟨j0,hj0,hu0,hc0,hpq0⟩,hbu0⟩:=hbv.step (by omega)
      rcases hinv with⟨_,h2⟩|⟨h1,h2,h3⟩
      ·exact absurd (by rw[hc0];exact hbu0) (h2 j0 hj0 hu0 u0 (by omega))
      ·obtain⟨e1,he1,hb1⟩:=h2
       refine⟨_,rfl,⟨⟨c',k,e1,hbv,he1,hb1⟩,?_⟩,e1,he1,hb1⟩
       rintro w' ⟨c2,k2,e2,hbv2,⟨j,hj,hu,hc,hpq⟩,hbw2⟩
       obtain⟨rfl,rfl⟩:=hbv.unique hbv2
       exact h3 j hj hu w' (by omega) (by rw[hc];exact hbw2)
    ·rintro w ⟨hnext,e1,he1,hb1⟩
     have hwl:=g.lt _ _ _ he1
     have hb10:=hb1.1.ge g
     have hkk:((k-1:Nat):Int)=(k:Int)-1:=by omega
     ((repeat(first|rw[azs (by omega)]|rw[azs (by simp only[List.length_set];omega)]|rw[azs (by simp only[List.length_cons,List.length_nil,azr];omega)]|rw[azs (by simp only[List.length_singleton,List.length_set,List.length_replicate,azr,and_true];omega)]|rw[azs (by rw[azr];simp only[List.length_cons];omega)])))
     refine⟨_,rfl,k-1,by omega,c'-e1,by dsimp only;rw[hkk];exact hb1,?_,pre++[w],by simp,by simp;omega,fun l' hl'=>?_⟩
     ·dsimp only
      rcases hlab w hwl.2.2.1 hwl.2.2.2 with⟨_,h2⟩|hbw
      ·exact absurd hb1.1 (h2 _ _)
      ·have:=hbw.unique hb1
       generalize lab l w=z at this
       obtain⟨z1,z2⟩:=z
       simp only at this
       rw[this.1,this.2,hkk]
     ·have:=hrt (w::l') (.cons hvt hnext hl')
      simpa using this
  ·rintro acc ⟨l',rfl,hl'⟩
   exact⟨_,rfl,.inr ⟨rfl,cf,kf,l',hb,hl',rfl⟩⟩
theorem Kzq (m:az9)(fr t mode:Int)(hs:oza m)(hN:100000≤NN):∃r,(fz8 m fr t mode).o=some r/\az5c m fr t mode r:=by
 by_cases h:Ez1 m fr t/\0≤mode/\mode≤2
 ·obtain⟨r,h1,h2⟩:=Lzo m fr t mode hs h.1 h.2 hN
  exact⟨r,h1,.inr ⟨h,h2⟩⟩
 ·refine⟨_,?_,.inl ⟨h,rfl⟩⟩
  obtain⟨b,hb,hbw⟩:=Lzz m fr t hs hN
  simp only[wz3,izm,T.run]
  rw[hb,Option.bind_some]
  cases b with
  |false=>rw[cz8 (by rfl),az8,cz8 (by rfl)]
  |true=>
   have ha:=hbw.1 rfl
   rw[czt (by rfl)]
   by_cases h3:mode<0
   ·rw[az7 h3,az8,cz8 (by rfl)]
   ·rw[az6 h3,az8,az7 (by
     refine Classical.byContradiction fun hc=>h ⟨ha,by omega,by omega⟩)]
open Go.Proofs
theorem Zzb (a:List Int)(h:a.length<4294967296):(hzk a a).o=some true:=by
 show(lz0 a a).run NN=_
 simp only[lz0,T.run]
 rw[bzl rfl]
 refine(fzj (fun _=>none) a.length h (fun j hj=>?_) (by rw[az6 (by omega)])).trans ?_
 ·rw[az7 (by omega),azb (by omega),azb (by omega),wn (by omega),bzl rfl]
 ·rw[(fzd _ _).2 (fun _ _ _=>rfl)]
theorem Zzc (a:List (List Int))(h:a.length<4294967296)(hn:∀c∈a,c.length<4294967296):(kzo a a).o=some true:=by
 show(gzq a a).run NN=_
 simp only[gzq,T.run]
 rw[bzl rfl]
 refine(fzj (fun _=>none) a.length h (fun j hj=>?_) (by rw[az6 (by omega)])).trans ?_
 ·rw[az7 (by omega),azb (by omega),azb (by omega),wn (by omega),Int.toNat_natCast,Zzb _ (hn _ (bzy hj))];rfl
 ·rw[(fzd _ _).2 (fun _ _ _=>rfl)]
theorem az1l (a:List (Int×Int×Int))(h:a.length<4294967296):(ozw a a).o=some true:=by
 show(izt a a).run NN=_
 simp only[izt,T.run]
 rw[bzl rfl]
 refine(fzj (fun _=>none) a.length h (fun j hj=>?_) (by rw[az6 (by omega)])).trans ?_
 ·rw[az7 (by omega),azb (by omega),azb (by omega),wn (by omega)];simp
 ·rw[(fzd _ _).2 (fun _ _ _=>rfl)]
def PieB (x:azk):Prop:=x.Normals.length<4294967296
theorem Rzf (x:azk)(h:PieB x):(mzv x x).o=some true:=by
 show(mzw x x).run NN=_
 simp only[mzw,T.run,az1l _ h]
 rw[cz4 rfl,cz4 rfl];rfl
theorem Wz0 (a:List azk)(h:a.length<4294967296)(hn:∀c∈a,PieB c):(tz9 a a).o=some true:=by
 show(kzz a a).run NN=_
 simp only[kzz,T.run]
 rw[bzl rfl]
 refine(fzj (fun _=>none) a.length h (fun j hj=>?_) (by rw[az6 (by omega)])).trans ?_
 ·rw[az7 (by omega),azb (by omega),azb (by omega),wn (by omega),Int.toNat_natCast,Rzf _ (hn _ (bzy hj))];rfl
 ·rw[(fzd _ _).2 (fun _ _ _=>rfl)]
def ResM (x:azi):Prop:=(x.Pieces.length<4294967296/\∀c∈x.Pieces,PieB c)/\PieB x.At/\x.Witness.Left.length<4294967296/\x.Witness.Right.length<4294967296
theorem az1k (x:azi)(h:ResM x):(xz5 x x).o=some true:=by
 obtain⟨⟨h1,h2⟩,h3,h4,h5⟩:=h
 have hw:(qzb x.Witness x.Witness).o=some true:=by
  show(jzm x.Witness x.Witness).run NN=_
  simp only[jzm,T.run,Zzb _ h4,Zzb _ h5,Option.bind_some,cond_true]
  rw[cz4 rfl]
 show(ozv x x).run NN=_
 simp only[ozv,T.run,Wz0 _ h1 h2,Rzf _ h3,hw,Option.bind_some,cond_true]
 rw[cz4 rfl]
theorem az4x (m:az9)(h1:m.Points.length<4294967296)(h2:∀c∈m.Points,c.length<4294967296)(h3:m.Edges.length<4294967296)(h4:∀e∈m.Edges,ResM e.Proof):(iz5 m m).o=some true:=by
 show(rzm m m).run NN=_
 simp only[rzm,T.run,Zzc _ h1 h2,Option.bind_some,Bool.not_true,cond_false]
 have hb:((m.Edges.length:Int) !=(m.Edges.length:Int))=false:=by simp
 rw[hb,az8]
 simp only[cond_false]
 refine(fzj (fun _=>none) m.Edges.length h3 (fun j hj=>?_) (by rw[az6 (by omega)])).trans ?_
 ·rw[az7 (by omega),azb (by omega),azb (by omega),wn (by omega),Int.toNat_natCast,bzl rfl,bzl rfl,bzl rfl,bzl rfl,az1k _ (h4 _ (bzy hj))];rfl
 ·rw[(fzd _ _).2 (fun _ _ _=>rfl)]
theorem az6a (r:azl)(P:List (List Int))(a b:Int):ResM (newE r P a b).Proof:=
 ⟨⟨(by show(0:Nat)<4294967296;decide),fun c hc=>(by cases hc)⟩,(by show(0:Nat)<4294967296;decide),(by show(0:Nat)<4294967296;decide),(by show(0:Nat)<4294967296;decide)⟩
theorem Wzx (l:List (List Int))(h:l.length<4294967296):(hzu l).o=some l:=by
 show(fz6 l).run NN=_
 cases l with
 |nil=>rfl
 |cons a l=>
  simp only[fz6,T.run]
  simp only[List.length_cons]at h
  rw[azb (by simp),azb ⟨by simp only[List.length_nil,List.length_cons];omega,by simp only[List.length_nil,List.length_cons,azr];omega⟩];rfl
theorem Sz1 (l:List az4)(h:l.length<100000):(dz6 l).o=some l:=by
 show(cz3 l).run NN=_
 cases l with
 |nil=>rfl
 |cons a l=>
  simp only[cz3,T.run]
  simp only[List.length_cons]at h
  rw[azb (by simp),azb ⟨by simp only[List.length_nil,List.length_cons];omega,by simp only[List.length_nil,List.length_cons,azr];omega⟩];rfl
theorem Pz8 (l:List azk)(h:l.length<4294967296):(fz5 l).o=some l:=by
 show(dze l).run NN=_
 cases l with
 |nil=>rfl
 |cons a l=>
  simp only[dze,T.run]
  simp only[List.length_cons]at h
  rw[azb (by simp),azb ⟨by simp only[List.length_nil,List.length_cons];omega,by simp only[List.length_nil,List.length_cons,azr];omega⟩];rfl
theorem Lz0 (l:List (Int×Int×Int))(h:l.length<4294967296):(ez9 l).o=some l:=by
 show(eza l).run NN=_
 cases l with
 |nil=>rfl
 |cons a l=>
  simp only[eza,T.run]
  simp only[List.length_cons]at h
  rw[azb (by simp),azb ⟨by simp only[List.length_nil,List.length_cons];omega,by simp only[List.length_nil,List.length_cons,azr];omega⟩];rfl
theorem Dzg {α:Type}[Inhabited α](l:List α){i:Nat}(h:i<l.length):l.set i (l.getD i default)=l:=by
 refine Uzd (by simp) fun j hj=>?_
 rw[List.length_set]at hj
 rw[az0g h]
 split
 ·rename_i e;rw[e]
 ·rfl
theorem tzw (x:azi)(h:ResM x):(ez8 x).o=some x:=by
 obtain⟨⟨h1,h2⟩,h3,h4,h5⟩:=h
 show(hza x).run NN=_
 simp only[hza,T.run,Pz8 _ h1,Option.bind_some]
 refine(czd (fun j=>(x.Pieces,(j:Int))) x.Pieces x.Pieces.length rfl h1 (fun j hj=>?_) (by dsimp only;rw[az6 (by omega)])).trans ?_
 ·dsimp only
  have hp:=h2 _ (bzy hj)
  rw[az7 (by omega),azb (by omega),azb (by omega),Int.toNat_natCast,Lz0 _ hp]
  simp only[Option.bind_some]
  rw[azb (by omega),azb (by omega),wn (by omega)]
  have:(⟨(x.Pieces.getD j default).Depth,(x.Pieces.getD j default).Index,(x.Pieces.getD j default).Normals⟩:azk)=x.Pieces.getD j default:=rfl
  rw[this,Dzg _ hj]
 ·rw[Lz0 _ h3,zz0 _ h4,zz0 _ h5];rfl
theorem az31 (m:az9)(h1:m.Points.length<4294967296)(h2:∀c∈m.Points,c.length<4294967296)(h3:m.Edges.length<100000)(h4:∀e∈m.Edges,ResM e.Proof):(yzf m).o=some (m.Points,m.Edges):=by
 show(pzh m).run NN=_
 simp only[pzh,T.run,Wzx _ h1,Sz1 _ h3,Option.bind_some]
 refine(czd (fun j=>(m.Points,(j:Int))) m.Points m.Points.length rfl h1 (fun j hj=>?_) (by dsimp only;rw[az6 (by omega)])).trans ?_
 ·dsimp only
  rw[az7 (by omega),azb (by omega),azb (by omega),Int.toNat_natCast,zz0 _ (h2 _ (bzy hj))]
  simp only[Option.bind_some]
  rw[azb (by omega),azb (by omega),wn (by omega),Dzg _ hj]
 ·refine(czd (fun j=>(m.Edges,(j:Int))) m.Edges m.Edges.length rfl (by show _<4294967296;omega) (fun j hj=>?_) (by dsimp only;rw[az6 (by omega)])).trans rfl
  dsimp only
  rw[az7 (by omega),azb (by omega),azb (by omega),Int.toNat_natCast,tzw _ (h4 _ (bzy hj))]
  simp only[Option.bind_some]
  rw[azb (by omega),azb (by omega),wn (by omega)]
  have:(⟨(m.Edges.getD j default).U,(m.Edges.getD j default).V,(m.Edges.getD j default).Cost,(m.Edges.getD j default).State,(m.Edges.getD j default).Proof⟩:az4)=m.Edges.getD j default:=rfl
  rw[this,Dzg _ hj]
open Go.Proofs
theorem Vzd (l:List (List Int))(h:l.length<4294967296):(gzx l).o=some l:=by
 show(ezo l).run NN=_
 cases l with
 |nil=>rfl
 |cons a l=>
  simp only[ezo,T.run]
  simp only[List.length_cons]at h
  rw[azb (by simp),azb ⟨by simp only[List.length_nil,List.length_cons];omega,by simp only[List.length_nil,List.length_cons,azr];omega⟩];rfl
theorem Pz7 (E:List az4)(i n:Nat)(h0:0<E.length)(hl:E.length<100000)(hn:i+n≤E.length):(czz E i n).o=some ((E.drop i).take n):=by
 show(cz0 E i n).run NN=_
 simp only[cz0,T.run]
 rw[azb h0,azb ⟨by simp only[List.length_nil];omega,by simp only[List.length_nil,azr];omega,hn⟩];rfl
theorem Vzg {E:List az4}{i:Nat}(h:i<E.length):(E.drop i).take 1=[E.getD i default]:=by
 rw[List.drop_eq_getElem_cons h,List.take_succ_cons,List.take_zero,List.getD_eq_getElem?_getD,List.getElem?_eq_getElem h];rfl
theorem az05 (P:List (List Int))(E:List az4)(i:Nat)(h1:P.length<4294967296)(h2:∀c∈P,c.length<4294967296)(hi:i<E.length)(h3:E.length<100000)(h4:∀e∈E,ResM e.Proof):
 (tzh P E i 1).o=some (P,[E.getD i default]):=by
 show(lze P E i 1).run NN=_
 simp only[lze,T.run,Vzd _ h1,Pz7 E i 1 (by omega) h3 (by omega),Option.bind_some,Vzg hi]
 have h5:ResM (E.getD i default).Proof:=h4 _ (bzy hi)
 generalize E.getD i default=x at h5⊢
 refine(czd (fun j=>(P,(j:Int))) P P.length rfl h1 (fun j hj=>?_) (by dsimp only;rw[az6 (by omega)])).trans ?_
 ·dsimp only
  rw[az7 (by omega),azb (by omega),azb (by omega),Int.toNat_natCast,zz0 _ (h2 _ (bzy hj))]
  simp only[Option.bind_some]
  rw[azb (by omega),azb (by omega),wn (by omega),Dzg _ hj]
 ·have hl:[x].length=1:=rfl
  refine(czd (fun j=>([x],(j:Int))) [x] [x].length rfl (by rw[hl];decide) (fun j hj=>?_) (by dsimp only;rw[az6 (by omega)])).trans rfl
  dsimp only
  obtain rfl:j=0:=by rw[hl]at hj;omega
  have hx:[x].getD 0 default=x:=rfl
  rw[az7 (by omega),azb (by omega),azb (by omega),Int.toNat_natCast,hx,tzw _ h5]
  simp only[Option.bind_some]
  rw[azb (by omega),azb (by omega),wn (by omega)]
  rfl
def stV (k:Int):Int:=if k=1 then 1 else if k=2 then 2 else 3
def Izk (x:az4)(r:azi):az4:=⟨x.U,x.V,x.Cost,stV r.Kind,r⟩
theorem az3t (P:List (List Int))(E:List az4)(i:Nat)(h1:P.length<4294967296)(h2:∀c∈P,c.length<4294967296)(hi:i<E.length)(h3:E.length<100000)(h4:∀e∈E,ResM e.Proof)
 (hs:(E.getD i default).State=0) {r:azi} (hr:ResM r) (hk:r.Kind=0\/r.Kind=1\/r.Kind=2):
 (nza P E i 1 0 r).o=some (P,[Izk (E.getD i default) r],true):=by
 suffices h:∃y,(nzb P E i 1 0 r).run NN=some y/\y=(P,[Izk (E.getD i default) r],true) by
  obtain⟨y,a,b⟩:=h
  rw[←b];exact a
 have e0:(0:Int).toNat=0:=rfl
 simp only[nzb,T.run,az05 P E i h1 h2 hi h3 h4,Option.bind_some,e0,Nat.add_zero]
 rw[az6 (by omega),az8,decide_eq_false (by omega)]
 simp only[cond_false]
 have b1:((E.getD i default).State==1)=false:=by rw[hs];rfl
 have b2:((E.getD i default).State==2)=false:=by rw[hs];rfl
 rw[azb (by omega),azb hi,b1,b2]
 simp only[cond_false,az8,tzw r hr,Option.bind_some]
 generalize E.getD i default=x
 have k1:(izg 1).o=some 1:=rfl
 have k2:(izg 2).o=some 2:=rfl
 have k3:(izg 3).o=some 0:=rfl
 have hl:([1,2,3]:List Int).length=3:=rfl
 refine ez7 (P:=fun y:List (List Int)×List az4×Bool=>y=(P,[Izk x r],true)) (fun mm (y:Int)=>∃t:Nat,y=(t:Int)/\t+mm=3/\t≤2/\(1≤t->r.Kind≠1)/\(2≤t->r.Kind≠2)) (fun _=>False) 3 ⟨0,rfl,rfl,by omega,by omega,by omega⟩ (by decide) ?_ (fun _ h=>h.elim)
 rintro mm y ⟨t,rfl,t1,t2,t3,t4⟩
 rw[az7 (by rw[hl];omega),azb (by rw[hl];omega),Int.toNat_natCast,azb (by rw[hl];omega),wn (by omega)]
 have fin:∀s:Int,s=stV r.Kind->(P,([x].set 0 ⟨([x].getD 0 default).U,([x].getD 0 default).V,([x].getD 0 default).Cost,s,([x].getD 0 default).Proof⟩).set 0 ⟨(([x].set 0 ⟨([x].getD 0 default).U,([x].getD 0 default).V,([x].getD 0 default).Cost,s,([x].getD 0 default).Proof⟩).getD 0 default).U,(([x].set 0 ⟨([x].getD 0 default).U,([x].getD 0 default).V,([x].getD 0 default).Cost,s,([x].getD 0 default).Proof⟩).getD 0 default).V,(([x].set 0 ⟨([x].getD 0 default).U,([x].getD 0 default).V,([x].getD 0 default).Cost,s,([x].getD 0 default).Proof⟩).getD 0 default).Cost,(([x].set 0 ⟨([x].getD 0 default).U,([x].getD 0 default).V,([x].getD 0 default).Cost,s,([x].getD 0 default).Proof⟩).getD 0 default).State,r⟩,true)=(P,[Izk x r],true):=fun s h=>by
  subst h;rfl
 have ht3:t=0\/t=1\/t=2:=by omega
 have g1:[x].length=1:=rfl
 rcases ht3 with rfl|rfl|rfl
 ·have g:([1,2,3]:List Int).getD 0 default=1:=rfl
  rw[g,k1]
  simp only[Option.bind_some]
  by_cases c1:r.Kind=1
  ·rw[cz4 c1.symm,azb (by rw[g1];omega),azb (by rw[g1];omega),azb (by rw[List.length_set,g1];omega),azb (by rw[List.length_set,g1];omega)]
   exact .inr (.inr ⟨_,rfl,fin 1 (by rw[c1];rfl)⟩)
  ·rw[czj (Ne.symm c1)]
   exact .inl ⟨_,mm-1,rfl,by omega,1,rfl,by omega,by omega,fun _=>c1,fun h=>by omega⟩
 ·have g:([1,2,3]:List Int).getD 1 default=2:=rfl
  rw[g,k2]
  simp only[Option.bind_some]
  by_cases c1:r.Kind=2
  ·rw[cz4 c1.symm,azb (by rw[g1];omega),azb (by rw[g1];omega),azb (by rw[List.length_set,g1];omega),azb (by rw[List.length_set,g1];omega)]
   exact .inr (.inr ⟨_,rfl,fin 2 (by rw[c1];rfl)⟩)
  ·rw[czj (Ne.symm c1)]
   exact .inl ⟨_,mm-1,rfl,by omega,2,rfl,by omega,by omega,fun _=>t3 (by omega),fun _=>c1⟩
 ·have g:([1,2,3]:List Int).getD 2 default=3:=rfl
  have c1:r.Kind=0:=by
   have:=t3 (by omega)
   have:=t4 (by omega)
   omega
  rw[g,k3]
  simp only[Option.bind_some]
  rw[cz4 c1.symm,azb (by rw[g1];omega),azb (by rw[g1];omega),azb (by rw[List.length_set,g1];omega),azb (by rw[List.length_set,g1];omega)]
  exact .inr (.inr ⟨_,rfl,fin 3 (by rw[c1];rfl)⟩)
theorem Lz7 (P:List (List Int))(E:List az4)(i n:Nat){v:Int}(h0:0≤v)(h1:v<(P.length:Int)):(kzh P E i n v).o=some true:=by
 show(kzi P E i n v).run NN=_
 simp only[kzi,T.run]
 rw[az7 h0,decide_eq_true h1]
theorem az2m {s:azg}{p q:List Int}{d:Int}{r:azi}(h:ProveOk s p q d r):ResM r:=by
 obtain⟨b1,b2⟩:=h.bd
 obtain⟨l1,l2⟩:=h.lens
 refine⟨⟨by omega,fun c hc=>?_⟩,?_,by omega,by omega⟩
 ·have:=b2 c hc
  show c.Normals.length<4294967296
  omega
 ·show r.At.Normals.length<4294967296
  rw[h.norm];decide
noncomputable def pvR (s:azg)(p q:List Int)(d:Int):azi:=match(izz s p q d).o with|some r=>r|none=>default
theorem az40 (s:azg)(p q:List Int)(hp:p.length<4294967296)(hq:q.length<4294967296){d:Int}(h0:0≤d)(h20:d≤20):(izz s p q d).o=some (pvR s p q d)/\ProveOk s p q d (pvR s p q d):=by
 obtain⟨r,h1,h2⟩:=Qzr s p q hp hq h0 h20
 have:pvR s p q d=r:=by unfold pvR;rw[h1]
 rw[this];exact⟨h1,h2⟩
noncomputable def tstE (s:azg)(P:List (List Int))(d:Int)(x:az4):az4:=Izk x (pvR s (P.getD x.U.toNat default) (P.getD x.V.toNat default) d)
theorem az2u (s:azg)(P:List (List Int))(E:List az4)(i:Nat)(h1:P.length<4294967296)(h2:∀c∈P,c.length<4294967296)(hi:i<E.length)(h3:E.length<100000)(h4:∀e∈E,ResM e.Proof)
 (hs:(E.getD i default).State=0) (hU:0≤(E.getD i default).U/\(E.getD i default).U<(P.length:Int)) (hV:0≤(E.getD i default).V/\(E.getD i default).V<(P.length:Int)) {d:Int} (h0:0≤d) (h20:d≤20):
 (Dzf s P E i 1 0 d).o=some (P,[tstE s P d (E.getD i default)],true):=by
 show(vza s P E i 1 0 d).run NN=_
 have es:(⟨s.Robot,s.Shapes,s.Skips⟩:azg)=s:=rfl
 have e0:(0:Int).toNat=0:=rfl
 simp only[vza,T.run,es,e0,Nat.add_zero,Lz7 P E i 1 hU.1 hU.2,Lz7 P E i 1 hV.1 hV.2,Option.bind_some]
 rw[az6 (by omega),az8,decide_eq_false (by omega)]
 simp only[cond_false,Bool.not_true]
 have b1:((E.getD i default).State==1)=false:=by rw[hs];rfl
 have b2:((E.getD i default).State==2)=false:=by rw[hs];rfl
 obtain⟨p1,p2⟩:=az40 s (P.getD (E.getD i default).U.toNat default) (P.getD (E.getD i default).V.toNat default) (h2 _ (bzy (by omega))) (h2 _ (bzy (by omega))) h0 h20
 rw[azb (by omega),azb hi,b1,b2]
 simp only[cond_false,az8]
 rw[azb hU,azb (by omega),azb hV,azb (by omega),p1]
 simp only[Option.bind_some]
 rw[az3t P E i h1 h2 hi h3 h4 hs (az2m p2) p2.kind]
 rfl
open Go.Proofs
noncomputable def nxV (P:List (List Int))(x y:Int)(E:List az4):Int×List Int×Int×Int:=match(gz9 ⟨P,E⟩ x y).o with|some r=>r|none=>default
structure NxOk (P:List (List Int)) (E:List az4) (r:Int×List Int×Int×Int):Prop where
 st:r.2.2.2=0\/r.2.2.2=1\/r.2.2.2=2\/r.2.2.2=3
 ed:r.2.2.2=3->0≤r.1/\r.1<(E.length:Int)/\(E.getD r.1.toNat default).State=0/\szx P.length (E.getD r.1.toNat default)
 len:r.2.1.length≤101
theorem Qzm {P:List (List Int)}(x y:Int){E:List az4}(hs:oza ⟨P,E⟩):(gz9 ⟨P,E⟩ x y).o=some (nxV P x y E)/\NxOk P E (nxV P x y E)/\NextP ⟨P,E⟩ x y ((nxV P x y E).1,⟨(nxV P x y E).2.1,(nxV P x y E).2.2.1⟩,(nxV P x y E).2.2.2):=by
 obtain⟨⟨e,⟨vs,c⟩,st⟩,h1,h2⟩:=az2w ⟨P,E⟩ x y hs (by decide)
 have hn:nxV P x y E=(e,vs,c,st):=by unfold nxV;rw[h1]
 have hl:=h2.len hs
 rw[hn]
 refine⟨h1,⟨?_,fun h=>?_,hl⟩,h2⟩
 ·rcases h2 with⟨_,h⟩|⟨_,rt,_,⟨_,h⟩|⟨_,h⟩⟩
  ·cases h;exact .inl rfl
  ·cases h;exact .inr (.inr (.inl rfl))
  ·rcases h with⟨h,_⟩|⟨_,_,_,_,_,h,_⟩<;>simp only[Prod.mk.injEq]at h
   ·exact .inr (.inl h.2.2)
   ·exact .inr (.inr (.inr h.2.2))
 ·simp only at h
  subst h
  rcases h2 with⟨_,h⟩|⟨ha,rt,_,⟨_,h⟩|⟨_,h⟩⟩
  ·cases h
  ·cases h
  ·rcases h with⟨h,_⟩|⟨i,e',hi,he,hst,h,_⟩<;>simp only[Prod.mk.injEq]at h
   ·exact absurd h.2.2 (by decide)
   ·obtain⟨rfl,-,-⟩:=h
    have hl:e'<E.length:=he.1
    refine⟨by simp only;omega,by simp only;omega,hst,?_⟩
    exact(ha.1 e' hl).1
noncomputable def stE (s:azg)(P:List (List Int))(x y d:Int)(E:List az4):List az4:=
 E.set (nxV P x y E).1.toNat (tstE s P d (E.getD (nxV P x y E).1.toNat default))
noncomputable def itE (s:azg)(P:List (List Int))(x y d:Int)(E:List az4):Nat->List az4
 |0=>E
 |n+1=>stE s P x y d (itE s P x y d E n)
theorem Xzs (s:azg)(P:List (List Int))(x y d:Int)(E:List az4)(a:Nat):∀b,itE s P x y d (itE s P x y d E a) b=itE s P x y d E (a+b)
 |0=>rfl
 |b+1=>by
  show stE s P x y d (itE s P x y d (itE s P x y d E a) b)=stE s P x y d (itE s P x y d E (a+b))
  rw[Xzs s P x y d E a b]
structure LzOk (P:List (List Int)) (n:Nat) (E:List az4):Prop where
 len:E.length=n
 n200:n≤200
 p100:P.length≤100
 pts:∀c∈P,c.length<4294967296
 prf:∀e∈E,ResM e.Proof
theorem LzOk.small {P:List (List Int)}{n:Nat}{E:List az4}(h:LzOk P n E):oza ⟨P,E⟩:=⟨h.p100,by show E.length≤200;rw[h.len];exact h.n200⟩
def untE (E:List az4):Nat:=E.countP fun e=>e.State==0
section
variable {s:azg} {P:List (List Int)} {x y d:Int} (h0:0≤d) (h20:d≤20)
include h0 h20
theorem Zzi {n:Nat}{E:List az4}(h:LzOk P n E)(ht:(nxV P x y E).2.2.2=3):LzOk P n (stE s P x y d E)/\untE (stE s P x y d E)+1=untE E:=by
 obtain⟨-,hn,-⟩:=Qzm x y h.small
 obtain⟨e0,e1,e2,e3⟩:=hn.ed ht
 have hi:(nxV P x y E).1.toNat<E.length:=by omega
 have hp:ProveOk s _ _ d _:=(az40 s (P.getD (E.getD (nxV P x y E).1.toNat default).U.toNat default) (P.getD (E.getD (nxV P x y E).1.toNat default).V.toNat default) (h.pts _ (bzy (by have:=e3.1;have:=e3.2.1;have:=e3.2.2.1;omega))) (h.pts _ (bzy (by have:=e3.1;have:=e3.2.1;have:=e3.2.2.1;omega))) h0 h20).2
 refine⟨⟨by unfold stE;rw[List.length_set,h.len],h.n200,h.p100,h.pts,fun e he=>?_⟩,?_⟩
 ·unfold stE at he
  rcases List.mem_or_eq_of_mem_set he with he|he
  ·exact h.prf e he
  ·subst he;exact az2m hp
 ·unfold stE untE
  rw[List.countP_set hi]
  have hg:E[(nxV P x y E).1.toNat]=E.getD (nxV P x y E).1.toNat default:=by rw[List.getD_eq_getElem?_getD,List.getElem?_eq_getElem hi];rfl
  have hs0:(E[(nxV P x y E).1.toNat].State==0)=true:=by rw[hg,e2];rfl
  have hs1:((tstE s P d (E.getD (nxV P x y E).1.toNat default)).State==0)=false:=by
   unfold tstE Izk stV
   simp only
   split
   ·rfl
   ·split<;>rfl
  have hpos:0<E.countP fun e=>e.State==0:=List.countP_pos_iff.2 ⟨_,List.getElem_mem hi,hs0⟩
  simp only[hs0,hs1,if_true]
  simp
  omega
theorem stops {n:Nat}:∀ (u:Nat) (E:List az4),LzOk P n E->untE E≤u->∃K,K≤u/\(∀i,i<K->(nxV P x y (itE s P x y d E i)).2.2.2=3)/\(nxV P x y (itE s P x y d E K)).2.2.2≠3:=by
 intro u
 induction u with
 |zero=>
  intro E h hu
  refine⟨0,Nat.le_refl _,fun i hi=>by omega,fun ht=>?_⟩
  have:=(Zzi (s:=s) h0 h20 h ht).2
  omega
 |succ u ih=>
  intro E h hu
  by_cases ht:(nxV P x y E).2.2.2=3
  ·obtain⟨h1,h2⟩:=Zzi (s:=s) h0 h20 h ht
   obtain⟨K,k1,k2,k3⟩:=ih _ h1 (by omega)
   have e1:∀i,itE s P x y d (stE s P x y d E) i=itE s P x y d E (i+1):=fun i=>by
    have:=Xzs s P x y d E 1 i
    rw[Nat.add_comm 1 i]at this
    exact this
   refine⟨K+1,by omega,fun i hi=>?_,by rw[←e1];exact k3⟩
   cases i with
   |zero=>exact ht
   |succ i=>rw[←e1];exact k2 i (by omega)
  ·exact⟨0,by omega,fun i hi=>by omega,ht⟩
theorem Iz0 {n:Nat}{E:List az4}(h:LzOk P n E){K:Nat}(hk:∀i,i<K->(nxV P x y (itE s P x y d E i)).2.2.2=3):∀i,i≤K->LzOk P n (itE s P x y d E i)
 |0,_=>h
 |i+1,hi=>(Zzi h0 h20 (Iz0 h hk i (by omega)) (hk i (by omega))).1
end
noncomputable def lzR (P:List (List Int))(x y:Int)(E:List az4)(st:Int)(i:Nat):az9×bzf×Int×Int:=(⟨P,E⟩,⟨(nxV P x y E).2.1,(nxV P x y E).2.2.1⟩,st,(i:Int))
theorem Bzp (m:az9)(h1:m.Points.length<4294967296)(h2:∀c∈m.Points,c.length<4294967296)(h3:m.Edges.length<100000)(h4:∀e∈m.Edges,ResM e.Proof):(qzv m).o=some (m.Points,m.Edges):=by
 have em:(⟨m.Points,m.Edges⟩:az9)=m:=rfl
 have hm:(Azg m (-1) (⟨0,nl,(⟨0,0,nl⟩:azk),(⟨0,nl,nl⟩:bz1)⟩:azi)).o=some (m.Points,m.Edges,false):=by
  show(szj m (-1) _).run NN=_
  simp only[szj,T.run,em,az31 m h1 h2 h3 h4,Option.bind_some]
  rw[az7 (by decide),az8];rfl
 show(kzj m).run NN=_
 simp only[kzj,T.run,em,hm,Option.bind_some]
theorem az61 (s:azg)(m:az9)(x y:Int){d:Int}(h0:0≤d)(h20:d≤20){n:Nat}(h:LzOk m.Points n m.Edges)(hs:(dzn s).o=some 0){K:Nat}
 (hk:∀i,i<K->(nxV m.Points x y (itE s m.Points x y d m.Edges i)).2.2.2=3) (hK:(nxV m.Points x y (itE s m.Points x y d m.Edges K)).2.2.2≠3) (hK2:K≤200) (t:Nat):
 (hzr s m x y d (t:Int)).o=some (if K≤t then lzR m.Points x y (itE s m.Points x y d m.Edges K) (nxV m.Points x y (itE s m.Points x y d m.Edges K)).2.2.2 K else lzR m.Points x y (itE s m.Points x y d m.Edges t) 4 t):=by
 have em:(⟨m.Points,m.Edges⟩:az9)=m:=rfl
 have es:(⟨s.Robot,s.Shapes,s.Skips⟩:azg)=s:=rfl
 have hP:=h.p100
 suffices hh:∃r,(gz8 s m x y d (t:Int)).run NN=some r/\r=(if K≤t then lzR m.Points x y (itE s m.Points x y d m.Edges K) (nxV m.Points x y (itE s m.Points x y d m.Edges K)).2.2.2 K else lzR m.Points x y (itE s m.Points x y d m.Edges t) 4 t) by
  obtain⟨r,a,b⟩:=hh
  rw[←b];exact a
 simp only[gz8,T.run,em,es,Bzp m (by omega) h.pts (by rw[h.len];have:=h.n200;omega) h.prf,hs,Option.bind_some]
 rw[bzl rfl]
 refine ez7 (fun mm (z:List az4×Int)=>∃i:Nat,i≤K/\i≤t/\mm+i=K/\z=(itE s m.Points x y d m.Edges i,(i:Int))) (fun _=>False) K ⟨0,by omega,by omega,by omega,rfl⟩ (by omega) ?_ (fun _ h=>h.elim)
 rintro mm z ⟨i,ik,it,im,rfl⟩
 have hi:=Iz0 h0 h20 h hk i ik
 obtain⟨q1,q2,-⟩:=Qzm x y hi.small
 have q1':(pzl m.Points (itE s m.Points x y d m.Edges i) x y).o=some (nxV m.Points x y (itE s m.Points x y d m.Edges i)):=q1
 simp only[q1',Option.bind_some]
 by_cases hKi:i=K
 ·subst hKi
  rw[czo hK]
  refine .inr (.inr ⟨_,rfl,?_⟩)
  rw[if_pos it];rfl
 ·have ht:=hk i (by omega)
  rw[bzl ht]
  by_cases hti:i=t
  ·subst hti
   rw[az7 (by omega)]
   refine .inr (.inr ⟨_,rfl,?_⟩)
   rw[if_neg (by omega)];rfl
  ·rw[az6 (by omega)]
   obtain⟨e0,e1,e2,e3⟩:=q2.ed ht
   have hl:=hi.len
   have hn:=h.n200
   obtain⟨w0,w1,w2,-,-⟩:=e3
   have hit:itE s m.Points x y d m.Edges (i+1)=stE s m.Points x y d (itE s m.Points x y d m.Edges i):=rfl
   unfold stE at hit
   generalize itE s m.Points x y d m.Edges i=E at hi q1 q1' q2 ht e0 e1 e2 w0 w1 w2 hl hit⊢
   generalize nxV m.Points x y E=r at q1 q1' q2 ht e0 e1 e2 w0 w1 w2 hit⊢
   obtain⟨j,hj⟩:∃j:Nat,r.1=(j:Int):=⟨r.1.toNat,by omega⟩
   rw[hj]at e0 e1 e2 w0 w1 w2 hit⊢
   simp only[Int.toNat_natCast]at e2 w0 w1 w2 hit⊢
   have hw:IntKind.i64.wrap ((j:Int)+1)=((j+1:Nat):Int):=wn (by omega)
   rw[hw,azb (by omega)]
   have h11:((j+1:Nat):Int).toNat-j=1:=by omega
   rw[h11,az2u s m.Points E j (by omega) h.pts (by omega) (by omega) hi.prf e2 ⟨w0,by omega⟩ ⟨by omega,w2⟩ h0 h20]
   simp only[Option.bind_some,cond_true]
   have l1:[tstE s m.Points d (E.getD j default)].length=1:=rfl
   rw[azb (by rw[l1];omega),azb (by rw[l1];decide),azb (by omega),azb (by omega),az8,wn (by omega)]
   refine .inl ⟨_,mm-1,rfl,by omega,i+1,by omega,by omega,by omega,?_⟩
   rw[hit];rfl
theorem az0r (s:azg)(m:az9)(x y:Int)(d t:Int){n:Nat}(h:LzOk m.Points n m.Edges){z:Int}(hs:(dzn s).o=some z)(hz:z≠0):
 (hzr s m x y d t).o=some (m,⟨nl,0⟩,0,0):=by
 have em:(⟨m.Points,m.Edges⟩:az9)=m:=rfl
 have hP:=h.p100
 show(gz8 s m x y d t).run NN=_
 simp only[gz8,T.run,em,Bzp m (by omega) h.pts (by rw[h.len];have:=h.n200;omega) h.prf,hs,Option.bind_some]
 rw[czo hz]
open Go.Proofs
theorem Lzp (x:Int)(k:Nat)(h0:0<k)(hk:k<4294967296):∃z,(bzp x (k:Int)).o=some z:=⟨_,ezq (by omega) (by omega)⟩
theorem Wz9:(nzv).o=some true:=by kernel_rfl
theorem az25 (r:azl)(pts:List (List Int))(k:Int)(hp:pts.length≤7)(h0:0<pts.length)(hr:dz4 r=0)(hi:∀c∈pts,cz9 r c=true):
 ∃m,(lzz r pts k).o=some m/\LzOk m.Points m.Edges.length m.Edges/\0<m.Points.length/\m.Points.length≤7/\m.Edges.length≤49/\∃S es,m.Edges=es.take 8192/\MapE r m.Points S es:=by
 obtain⟨m,p1,p2,p3⟩:=Uzp r pts k (by omega) (fun c hc=>by have:=oz5 (hi c hc);omega)
 refine⟨m,p1,?_⟩
 obtain⟨a1,es,a2,a3,a4⟩:=p3 hr
 have hl:=Cz0 r pts pts.length
 have h7:m.Points.length≤7:=by rw[a1];omega
 have h49:m.Edges.length≤49:=by
  rw[a2,List.length_take]
  have:m.Points.length * m.Points.length≤7 * 7:=Nat.mul_le_mul h7 h7
  omega
 refine⟨⟨rfl,by omega,by omega,fun c hc=>?_,fun e he=>?_⟩,by rw[a1];exact az07 h0 hi,h7,h49,_,es,a2,a4⟩
 ·rw[a1]at hc
  have:=oz5 (Ez9 r pts _ c hc)
  omega
 ·rw[a2]at he
  obtain⟨a,b,-,-,-,h⟩:=(a4.2 e).1 (List.mem_of_mem_take he)
  rw[h];exact az6a r _ _ _
theorem Lzq {P:List (List Int)}{n:Nat}{E:List az4}(h:LzOk P n E):(iz5 ⟨P,E⟩ ⟨P,E⟩).o=some true:=by
 have:=h.p100
 have:=h.n200
 have:=h.len
 exact az4x ⟨P,E⟩ (by simp only;omega) h.pts (by simp only;omega) h.prf
theorem Zzp (E:List az4):untE E≤E.length:=List.countP_le_length
end Go.Abs
