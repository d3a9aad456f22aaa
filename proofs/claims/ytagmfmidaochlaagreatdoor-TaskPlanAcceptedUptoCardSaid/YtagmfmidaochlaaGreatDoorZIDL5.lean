import Derived.Test.YtagmfmidaochlaaGreatDoorZIDL4
import Derived.Test.YtagmfmidaochlaaGreatDoorZIDL3
open Bool renaming true->AD,false->AE
open Go.IntKind renaming wrap->AG
open List renaming length->AA,getD->AF
open Option renaming some->AB
open Array renaming toList_extract->xX
open Bool renaming and_eq_true->ql,not_false->wF,not_true->qI,and_false->wv,false_and->wt,true_and->qL,or_eq_true->qX,eq_false_iff->zi,and_eq_true_iff->xM
open Classical renaming byContradiction->xC
open Decidable renaming decide->qu
open Go.IntKind renaming i64->qs
open Inhabited renaming default->qt
open Int renaming toNat_natCast->qE,fdiv_eq_ediv_of_nonneg->xV
open List renaming length_set->wc,range->xU,all_eq_true->qk,mem_range->xA,length_take->w8,length_drop->xQ,size_toArray->xW,drop_zero->xF,pairwise_iff_getElem->xm,mem_map->xi,append_assoc->wE,length_append->wW,drop_eq_getElem_cons->xh,getD_eq_getElem?_getD->qZ,getElem?_eq_getElem->w6,nodup_append->xY,nodup_cons->xZ,pairwise_append->xu,pairwise_cons->xw,length_cons->qx,length_nil->qz,mem_append_left->x7,nil_append->x8,map_cons->wY,perm_middle->x9,mem_cons_self->za,length_replicate->w9,replicate->qr,mem_append->wH,getElem_of_mem->wh,mem_cons->wQ,mem_cons_of_mem->zb,nodup_nil->zd,append_of_mem->zf,mem_of_mem_take->zg,map_reverse->zh,mem_singleton->wP,take_length->xI,length_map->xj,length_singleton->wV
open Nat renaming le_refl->wg,sub_zero->xE,zero_le->wN,lt_succ_self->wB
open Option renaming bind_some->qH,getD_some->w7
open Go.Abs.T renaming run->qj
noncomputable section
namespace Go.Abs
open Go.Proofs
open Go.Sort (swp scanSorted shiftDown shiftUp partialIns partialInsertionSort)
theorem oM {σ τ R:Type}{f:σ->Option (aA σ τ R)}{k:τ->Option R}{x:σ}(Y:τ)(I:Nat->σ->Prop)(m:Nat)(g:I m x)(j:m<4294967296)
 (hr:∀m x,I m x->(∃b a,f x=AB (.next b)/\a<m/\I a b)\/f x=AB (.out Y)):andK (iter f NN x) k=k Y:=by
 have e:∀ (N m:Nat) (x:σ),I m x->m<N->iter f N x=AB (.inl Y):=by
  intro N;induction N with
  |zero=>intro m x _ h;omega
  |succ N s=>
   intro m x o h;rcases hr m x o with⟨b,a,d,t,i⟩|d
   {simp only[iter,d];exact s a b i qa};simp[iter,d]
 rw[fu (e NN m x g j)]
section
variable {α:Type} [Inhabited α] {l:List α} {lo n:Nat} {cmp:α->α->Option Int} {lt:α->α->Bool} {S:α->Prop}
theorem UP:∀ (j:Nat) (d:Array α),j<n->Ok S n d->Ok S n (shiftDown lt j d)
 |0,_,_,h=>h
 |j+1,d,a,h=>by
  rw[shiftDown];split;{exact h};exact UP j _ qa (h.swp qa qa)
theorem UQ {b:Nat}(a:b<=n):∀ (k j:Nat) (d:Array α),b-j<=k->Ok S n d->Ok S n (shiftUp lt b j d)
 |0,j,d,h,hd=>by rw[shiftUp,qb qa];exact hd
 |k+1,j,d,h,hd=>by
  rw[shiftUp];split
  ·split;{exact hd};exact UQ a k _ _ qa (hd.swp qa qa)
  exact hd
theorem SV (b:Nat)(d:Array α):∀ (k i:Nat),b-i<=k->i<=b->i<=scanSorted lt d b i/\scanSorted lt d b i<=b
 |0,i,h,e=>by
  rw[scanSorted,qb (by simp only[ql,qf];omega)];omega
 |k+1,i,h,e=>by
  rw[scanSorted];split;{rename_i a;simp only[ql,qf]at a;have:=SV b d k (i+1) qa qa;omega};omega
theorem aco (U:dW S cmp lt)(hl:lo+n<=AA l)(hn:n<=1000000)(d:Array α)(Z:Ok S n d)(a b:Nat)(ha:a<b)(hb:b<=n):
 lJ cmp (W l lo d) lo n (a:Int) (b:Int)=AB ((partialInsertionSort lt d a b).2,W l lo (partialInsertionSort lt d a b).1):=by
 have hd:=Z.1;simp only[lJ,nzg,qj,dm_o];unfold partialInsertionSort;rw[wn qa];refine fV (λm (y:List α×Int×Int)=>∃ (i s:Nat) (e:Array α),y.1=W l lo e/\y.2.1=(i:Int)/\y.2.2=5- (s:Int)/\Ok S n e/\a+1<=i/\i<=b/\s<=m/\s<=5/\partialIns lt a b s i e=partialIns lt a b 5 (a+1) d) 5 ⟨a+1,5,d,rfl,rfl,rfl,Z,qa,qa,qa,qa,rfl⟩ qa ?_;rintro m ⟨l1,y1,y2⟩ ⟨i,s,e,H,L,M,R,hi1,hi2,hsm,hs5,g⟩;have he:=R.1;simp only at H L M⊢;subst H;subst L;subst M;have hW:=ev (l:=l) (lo:=lo) (d:=e) qa;cases s with
 |zero=>
  rw[partialIns]at g;rw[ai qa];exact .inr (.inl ⟨_,rfl,by rw[<-g]⟩)
 |succ s=>
 rw[partialIns]at g;simp only at g;obtain⟨k1,k2⟩:=SV (lt:=lt) b e _ i (wg _) hi2;rw[ah qa];rw[oM (k:=_) ((scanSorted lt e b i:Nat):Int) (λm (y:Int)=>∃w:Nat,y=(w:Int)/\i<=w/\w<=b/\b<=w+m/\scanSorted lt e b w=scanSorted lt e b i) b ⟨i,rfl,wg _,hi2,qa,rfl⟩ qa (by
  rintro m y ⟨w,rfl,q1,q2,q3,D⟩;rw[scanSorted]at D;by_cases G:w<b
  ·obtain⟨z,N,O⟩:=e7 U hl R (i:=w) (j:=w-1) qa qa;rw[ah qa,wprd qa qa];simp only[qE];rw[ab qa,ab qa,ab qa,ab qa,N];simp only[qH,ag,O];cases h:lt e[w]! e[w-1]! with
   |false=>
    rw[h,qg G,qc (show(AD&& !AE)=AD from rfl)]at D;simp only[wF,qe];rw[wn qa];exact .inl ⟨_,m-1,rfl,qa,w+1,rfl,qa,qa,qa,D⟩
   |true=>
    rw[h,qI,wv,qb (show ¬AE=AD by decide)]at D;exact .inr (by rw[<-D];rfl)
  rw[qh G,wt,qb (show ¬AE=AD by decide)]at D;rw[ai qa,ag];exact .inr (by rw[<-D];rfl))]
 generalize scanSorted lt e b i=p at *
 by_cases I:p=b;{rw[qc I]at g;rw[cN qa];exact .inr (.inr (by rw[<-g];rfl))};rw[qb I]at g;have e1:AG qs ((b:Int)- (a:Int))=((b-a:Nat):Int):=by rw[w64 qa qa];omega
 rw[cr qa,e1];by_cases F:b-a<50;{rw[qc F]at g;rw[ah qa];exact .inr (.inr (by rw[<-g];rfl))};rw[qb F]at g;have e2:AG qs ((p:Int)- (a:Int))=((p-a:Nat):Int):=by rw[w64 qa qa];omega
 have e3:AG qs ((b:Int)- (p:Int))=((b-p:Nat):Int):=by rw[w64 qa qa];omega
 have e4:=wprd (n:=p) qa qa;simp only[e2,e3,e4,qE];rw[ai qa,ab qa,ab qa,ab qa,ab qa,ab qa,ab qa,ab qa,ab (by rw[wc];omega),ex qa qa qa];have A:Ok S n (swp e p (p-1)):=R.swp qa qa;generalize swp e p (p-1)=d1 at *
 have hd1:=A.1;have B:Ok S n (if p-a>=2 then shiftDown lt (p-1) d1 else d1):=by
  split;{exact UP _ _ qa A};exact A
 rw[s9 (y:=W l lo (if p-a>=2 then shiftDown lt (p-1) d1 else d1)) (by
  by_cases E:p-a>=2
  ·rw[ah qa,qc E];refine fV (λm (y:List α×Int)=>∃ (j:Nat) (t:Array α),y.1=W l lo t/\y.2=(j:Int)/\Ok S n t/\j<n/\j<=m/\shiftDown lt j t=shiftDown lt (p-1) d1) (p-1) ⟨p-1,d1,rfl,rfl,A,qa,wg _,rfl⟩ qa ?_;rintro m ⟨l2,y⟩ ⟨j,t,x,K,o,hj,Y,f⟩;have X:=o.1;simp only at x K⊢;subst x;subst K;have hW:=ev (l:=l) (lo:=lo) (d:=t) qa;cases j with
   |zero=>
    rw[shiftDown]at f;rw[ai qa];exact .inr (.inl ⟨_,rfl,by rw[f]⟩)
   |succ j=>
    rw[shiftDown]at f;obtain⟨z,N,O⟩:=e7 U hl o (i:=(j+1)) (j:=j) qa qa;rw[ah qa,Gl qa];simp only[qE];rw[ab qa,ab qa,ab qa,ab qa,N];simp only[qH,O];cases h:lt t[j+1]! t[j]! with
    |false=>
     rw[h,qc (show(!AE)=AD from rfl)]at f;exact .inr (.inl ⟨_,rfl,by rw[f]⟩)
    |true=>
     rw[h,qb (show ¬ (!AD)=AD by decide)]at f;simp only[qI,qd];rw[ab qa,ab qa,ab qa,ab qa,ab qa,ab qa,ab qa,ab (by rw[wc];omega)];exact .inl ⟨_,j,rfl,qa,j,_,ex qa qa qa,rfl,o.swp qa qa,qa,wg _,f⟩
  rw[ai qa,qb E])]
 generalize (if p-a>=2 then shiftDown lt (p-1) d1 else d1)=d2 at *
 have hd2:=B.1;have V:Ok S n (if b-p>=2 then shiftUp lt b (p+1) d2 else d2):=by
  split;{exact UQ hb _ _ _ (wg _) B};exact B
 rw[s9 (y:=(W l lo (if b-p>=2 then shiftUp lt b (p+1) d2 else d2),((p:Nat):Int))) (by
  by_cases E:b-p>=2
  ·rw[ah qa,qc E,wn qa];refine fV (λm (y:List α×Int)=>∃ (j:Nat) (t:Array α),y.1=W l lo t/\y.2=(j:Int)/\Ok S n t/\1<=j/\j<=b/\b<=j+m/\shiftUp lt b j t=shiftUp lt b (p+1) d2) b ⟨p+1,d2,rfl,rfl,B,qa,qa,qa,rfl⟩ qa ?_;rintro m ⟨l2,y⟩ ⟨j,t,x,K,o,hj,hjb,Y,f⟩;have X:=o.1;simp only at x K⊢;subst x;subst K;have hW:=ev (l:=l) (lo:=lo) (d:=t) qa;rw[shiftUp]at f;by_cases C:j<b
   ·rw[qc C]at f;obtain⟨z,N,O⟩:=e7 U hl o (i:=j) (j:=(j-1)) qa qa;rw[ah qa,wprd qa qa];simp only[qE];rw[ab qa,ab qa,ab qa,ab qa,N];simp only[qH,O];cases h:lt t[j]! t[j-1]! with
    |false=>
     rw[h,qc (show(!AE)=AD from rfl)]at f;exact .inr (.inl ⟨_,rfl,by rw[f]⟩)
    |true=>
     rw[h,qb (show ¬ (!AD)=AD by decide)]at f;simp only[qI,qd];rw[ab qa,ab qa,ab qa,ab qa,ab qa,ab qa,ab qa,ab (by rw[wc];omega),wn qa];exact .inl ⟨_,m-1,rfl,qa,j+1,_,ex qa qa qa,rfl,o.swp qa qa,qa,qa,qa,f⟩
   rw[qb C]at f;rw[ai qa];exact .inr (.inl ⟨_,rfl,by rw[f]⟩)
  rw[ai qa,qb E])]
 have e5:AG qs (5- ((s+1:Nat):Int)+1)=5- (s:Int):=by rw[w64 qa qa];omega
 rw[e5];exact .inl ⟨_,s,rfl,qa,p,s,_,rfl,rfl,rfl,V,qa,qa,wg _,qa,g⟩
end
open Go.Sort (swp scanUp scanDown scanUp_spec scanDown_spec partLoop partLoop_eq partEqLoop partEqLoop_eq partition partitionEqual)
section
variable {α:Type} [Inhabited α] {l:List α} {lo n:Nat} {cmp:α->α->Option Int} {lt:α->α->Bool} {S:α->Prop}
theorem up_o {R:Type}{f:Int->Option (aA Int Int R)}{k:Int->Option R}(p:α->Bool)(d:Array α)(i j:Nat)(e:i<=j+1)(w:j<1000000)
 (o:∀t,i<=t->t<=j+1->f ((t:Nat):Int)=if qu (t<=j)&&p d[t]! then AB (.next ((t+1:Nat):Int))else AB (.out ((t:Nat):Int))):andK (iter f NN (i:Int)) k=k ((scanUp p d j i:Nat):Int):=by
 refine oM _ (λm (y:Int)=>∃t:Nat,y=(t:Int)/\i<=t/\t<=j+1/\j+1<=t+m/\scanUp p d j t=scanUp p d j i) (j+1) ⟨i,rfl,wg _,e,qa,rfl⟩ qa ?_;rintro m y ⟨t,rfl,g,h,s,a⟩;rw[o t g h];rw[scanUp]at a;by_cases b:(qu (t<=j)&&p d[t]!)=AD
 ·rw[qc b]at a⊢;have:t<=j:=by simp only[ql,qf]at b;exact b.1
  exact .inl ⟨_,m-1,rfl,qa,t+1,rfl,qa,qa,qa,a⟩
 rw[qb b]at a⊢;exact .inr (by rw[a])
theorem FD {R:Type}{f:Int->Option (aA Int Int R)}{k:Int->Option R}(p:α->Bool)(d:Array α)(i j:Nat)(o:1<=i)(s:j<1000000)
 (g:∀t,t<=j->f ((t:Nat):Int)=if qu (i<=t)&&p d[t]! then AB (.next ((t-1:Nat):Int))else AB (.out ((t:Nat):Int))):andK (iter f NN (j:Int)) k=k ((scanDown p d i j:Nat):Int):=by
 refine oM _ (λm (y:Int)=>∃t:Nat,y=(t:Int)/\t<=j/\t<=m/\scanDown p d i t=scanDown p d i j) j ⟨j,rfl,wg _,wg _,rfl⟩ qa ?_;rintro m y ⟨t,rfl,e,h,a⟩;rw[g t e];cases t with
 |zero=>
  rw[scanDown]at a;rw[qh qa,wt,qb (show ¬AE=AD by decide)];exact .inr (by rw[<-a])
 |succ t=>
  rw[scanDown]at a;by_cases b:(qu (i<=t+1)&&p d[t+1]!)=AD;{rw[qc b]at a⊢;exact .inl ⟨_,m-1,rfl,qa,t,rfl,qa,qa,a⟩};rw[qb b]at a⊢;exact .inr (by rw[a])
theorem Eb (p q:α->Bool)(hq:∀x,q x= !p x)(d:Array α){i j:Nat}(y:1<=i)(a:i<=j+1):i<=scanUp p d j i/\scanUp p d j i<=j+1/\scanDown q d (scanUp p d j i) j<=j/\scanUp p d j i<=scanDown q d (scanUp p d j i) j+1/\¬scanUp p d j i=scanDown q d (scanUp p d j i) j:=by obtain⟨f,b,t,g⟩:=scanUp_spec p d j _ i rfl;obtain⟨k,m,w,o⟩:=scanDown_spec q d (scanUp p d j i) j;refine⟨f,b a,k,m (b a),λh=>?_⟩;have s:=g qa;have e:=o qa qa;rw[hq,<-h,s]at e;cases e
theorem adg (G:dW S cmp lt)(hl:lo+n<=AA l)(Y:n<=1000000)(d:Array α)(F:Ok S n d)(a b p:Nat)(K:a<=p)(N:p<b)(U:b<=n):
 lR cmp (W l lo d) lo n (a:Int) (b:Int) (p:Int)=AB (((partitionEqual lt d a b p).1:Int),W l lo (partitionEqual lt d a b p).2):=by
 have hd:=F.1;simp only[lR,Azl,qj,dm_o];unfold partitionEqual;have H:=ev (l:=l) (lo:=lo) (d:=d) qa;simp only[qE];rw[ab qa,ab qa,ab qa,ab qa,ab qa,ab qa,ab qa,ab (by rw[wc];omega),ex qa qa qa,wn qa,wprd qa qa];have g:Ok S n (swp d a p):=F.swp qa qa;generalize swp d a p=d1 at *
 have L:=g.1;refine fV (λm (y:List α×Int×Int)=>∃ (i j:Nat) (e:Array α),y.1=W l lo e/\y.2.1=(i:Int)/\y.2.2=(j:Int)/\Ok S n e/\a<i/\i<=j+1/\j<b/\j+1<=i+m/\partEqLoop lt a i j e=partEqLoop lt a (a+1) (b-1) d1) b ⟨a+1,b-1,d1,rfl,rfl,rfl,g,qa,qa,qa,qa,rfl⟩ qa ?_;rintro m ⟨l1,y1,y2⟩ ⟨i,j,e,s,A,B,C,I,k,M,X,f⟩;have V:=C.1;simp only at s A B⊢;subst s;subst A;subst B;have H:=ev (l:=l) (lo:=lo) (d:=e) qa;rw[partEqLoop_eq]at f;obtain⟨s1,s2,s3,s4,s5⟩:=Eb (λx=> !lt e[a]! x) (λx=>lt e[a]! x) (λx=>jV) e (i:=i) (j:=j) qa k;rw[up_o (λx=> !lt e[a]! x) e i j k qa (λt O R=>by
  by_cases w:t<=j;{obtain⟨z,D,E⟩:=e7 G hl C (i:=a) (j:=t) qa qa;simp only[qE];rw[ah qa,ab qa,ab qa,ab qa,ab qa,D,qg w];simp only[qH,ag,E,qL];rw[wn qa];cases lt e[a]! e[t]!<;>rfl};rw[ai qa,ag,qh w];rfl)]
 generalize scanUp (λx=> !lt e[a]! x) e j i=i2 at *
 rw[FD (λx=>lt e[a]! x) e i2 j qa qa (λt Z=>by
  by_cases o:i2<=t;{obtain⟨z,D,E⟩:=e7 G hl C (i:=a) (j:=t) qa qa;simp only[qE];rw[ah qa,ab qa,ab qa,ab qa,ab qa,D,qg o];simp only[qH,ag,E,qL];rw[wprd qa qa];cases lt e[a]! e[t]!<;>rfl};rw[ai qa,ag,qh o];rfl)]
 generalize scanDown (λx=>lt e[a]! x) e i2 j=j2 at *
 by_cases h:i2>j2;{rw[qc h]at f;rw[ah qa];exact .inr (.inl ⟨_,rfl,by rw[<-f]⟩)};rw[qb h]at f;simp only[qE];rw[ai qa,ab qa,ab qa,ab qa,ab qa,ab qa,ab qa,ab qa,ab (by rw[wc];omega),ex qa qa qa,wn qa,wprd qa qa];exact .inl ⟨_,m-2,rfl,qa,i2+1,j2-1,_,rfl,rfl,rfl,C.swp qa qa,qa,qa,qa,qa,f⟩
theorem agY (F:dW S cmp lt)(hl:lo+n<=AA l)(hn:n<=1000000)(d:Array α)(K:Ok S n d)(a b p:Nat)(M:a<=p)(U:p<b)(hb:b<=n):
 md cmp (W l lo d) lo n (a:Int) (b:Int) (p:Int)=AB (((partition lt d a b p).1:Int),(partition lt d a b p).2.1,W l lo (partition lt d a b p).2.2):=by
 have hd:=K.1;simp only[md,Yz5,qj,dm_o];unfold partition;have G:=ev (l:=l) (lo:=lo) (d:=d) qa;simp only[qE];rw[ab qa,ab qa,ab qa,ab qa,ab qa,ab qa,ab qa,ab (by rw[wc];omega)];simp only[ex (l:=l) (lo:=lo) (d:=d) (i:=a) (j:=p) qa qa qa];rw[wn qa];simp only[wprd (n:=b) qa qa];have o:Ok S n (swp d a p):=K.swp qa qa;generalize swp d a p=e at *
 have N:=o.1;clear G;have G:=ev (l:=l) (lo:=lo) (d:=e) qa;obtain⟨X,Y,Z,s4,s5⟩:=Eb (λx=>lt x e[a]!) (λx=> !lt x e[a]!) (λx=>rfl) e (i:=a+1) (j:=b-1) qa qa;rw[up_o (λx=>lt x e[a]!) e (a+1) (b-1) qa qa (λt H I=>by
  by_cases k:t<=b-1;{obtain⟨z,s,w⟩:=e7 F hl o (i:=t) (j:=a) qa qa;simp only[qE];rw[ah qa,ab qa,ab qa,ab qa,ab qa,s,qg k];simp only[qH,ag,w,qL];rw[wn qa];cases lt e[t]! e[a]!<;>rfl};rw[ai qa,ag,qh k];rfl)]
 generalize scanUp (λx=>lt x e[a]!) e (b-1) (a+1)=i1 at *
 rw[FD (λx=> !lt x e[a]!) e i1 (b-1) qa qa (λt V=>by
  by_cases h:i1<=t;{obtain⟨z,s,w⟩:=e7 F hl o (i:=t) (j:=a) qa qa;simp only[qE];rw[ah qa,ab qa,ab qa,ab qa,ab qa,s,qg h];simp only[qH,ag,w,qL];rw[wprd qa qa];cases lt e[t]! e[a]!<;>rfl};rw[ai qa,ag,qh h];rfl)]
 generalize scanDown (λx=> !lt x e[a]!) e i1 (b-1)=j1 at *
 simp only[qE];by_cases g:i1>j1;{rw[ah qa,qc g,ab qa,ab qa,ab qa,ab qa,ab qa,ab qa,ab qa,ab (by rw[wc];omega),ex qa qa qa]};rw[ai qa,qb g,ab qa,ab qa,ab qa,ab qa,ab qa,ab qa,ab qa,ab (by rw[wc];omega),ex qa qa qa,wn qa,wprd qa qa];have A:Ok S n (swp e i1 j1):=o.swp qa qa;generalize swp e i1 j1=d2 at *
 have O:=A.1;refine fV (λm (y:List α×Int×Int)=>∃ (i j:Nat) (e:Array α),y.1=W l lo e/\y.2.1=(i:Int)/\y.2.2=(j:Int)/\Ok S n e/\a<i/\i<=j+1/\j<b/\j+1<=i+m/\partLoop lt a i j e=partLoop lt a (i1+1) (j1-1) d2) b ⟨i1+1,j1-1,d2,rfl,rfl,rfl,A,qa,qa,qa,qa,rfl⟩ qa ?_;rintro m ⟨l1,y1,y2⟩ ⟨i,j,e,C,D,E,o,L,B,R,hm,f⟩;have he:=o.1;simp only at C D E⊢;subst C;subst D;subst E;have G:=ev (l:=l) (lo:=lo) (d:=e) qa;rw[partLoop_eq]at f;obtain⟨X,Y,Z,s4,s5⟩:=Eb (λx=>lt x e[a]!) (λx=> !lt x e[a]!) (λx=>rfl) e (i:=i) (j:=j) qa B;rw[up_o (λx=>lt x e[a]!) e i j B qa (λt H I=>by
  by_cases k:t<=j;{obtain⟨z,s,w⟩:=e7 F hl o (i:=t) (j:=a) qa qa;simp only[qE];rw[ah qa,ab qa,ab qa,ab qa,ab qa,s,qg k];simp only[qH,ag,w,qL];rw[wn qa];cases lt e[t]! e[a]!<;>rfl};rw[ai qa,ag,qh k];rfl)]
 generalize scanUp (λx=>lt x e[a]!) e j i=i2 at *
 rw[FD (λx=> !lt x e[a]!) e i2 j qa qa (λt V=>by
  by_cases h:i2<=t;{obtain⟨z,s,w⟩:=e7 F hl o (i:=t) (j:=a) qa qa;simp only[qE];rw[ah qa,ab qa,ab qa,ab qa,ab qa,s,qg h];simp only[qH,ag,w,qL];rw[wprd qa qa];cases lt e[t]! e[a]!<;>rfl};rw[ai qa,ag,qh h];rfl)]
 generalize scanDown (λx=> !lt x e[a]!) e i2 j=j2 at *
 by_cases g:i2>j2;{rw[qc g]at f;rw[ah qa];refine .inr (.inl ⟨_,rfl,?_⟩);rw[<-f];simp only[qE];rw[ab qa,ab qa,ab qa,ab qa,ab qa,ab qa,ab qa,ab (by rw[wc];omega),ex qa qa qa]};rw[qb g]at f;simp only[qE];rw[ai qa,ab qa,ab qa,ab qa,ab qa,ab qa,ab qa,ab qa,ab (by rw[wc];omega),ex qa qa qa,wn qa,wprd qa qa];exact .inl ⟨_,m-2,rfl,qa,i2+1,j2-1,_,rfl,rfl,rfl,o.swp qa qa,qa,qa,qa,qa,f⟩
end
open Go.Sort (swp size_swp PermIn SortedIn Below SWO swp_permIn permIn_refl permIn_trans insertionSort_holds heapSort_holds partialInsertionSort_holds partition_holds partitionEqual_holds reverseRange_holds choosePivot_holds round_eq round_part choosePivot partition partitionEqual reverseRange partialInsertionSort)
def Rd {σ τ R:Type}(I:Nat->σ->Prop)(P:R->Prop)(m:Nat)(o:Option (aA σ τ R)):Prop:=(∃b a,o=AB (.next b)/\a<m/\I a b)\/∃r,o=AB (.fin r)/\P r
theorem ahe {σ τ R:Type}{f:σ->Option (aA σ τ R)}{k:τ->Option R}{P:R->Prop}{x:σ}(I:Nat->σ->Prop)(m:Nat)(d:I m x)(a:m<4294967296)(b:∀m x,I m x->Rd I P m (f x)):∃r,andK (iter f NN x) k=AB r/\P r:=
 bU I (λ_=>False) m d a (λm x c=>(b m x c).elim .inl λh=>.inr (.inr h)) (λ_ h=>h.elim)
theorem ta {τ R:Type}{A:Option (aA Unit τ R)}{k:τ->Option R}{G:Option R->Prop}(Q:τ->Prop)(h:(∃y,A=AB (.out y)/\Q y)\/∃r,A=AB (.fin r)/\G (AB r))(a:∀y,Q y->G (k y)):G (andC A k):=by rcases h with⟨y,rfl,h⟩|⟨r,rfl,h⟩;{exact a y h};exact h
section
variable {α:Type} [Inhabited α] {l:List α} {lo n:Nat} {cmp:α->α->Option Int} {lt:α->α->Bool} {S:α->Prop} {npow:Int->Option Int} {xnext:Int->Option (Int×Int)}
theorem wu (n:Int):IntKind.u64.wrap n=n % 18446744073709551616:=rfl
theorem ai0 (x:Int)(P:Nat)(a:1<=P)(b:P<=4000000):∃t:Nat,AG qs (IntKind.u64.wrap (((BitVec.ofInt 64 x&&&BitVec.ofInt 64 (IntKind.u64.wrap ((P:Int)-1))).toNat:Int)))=(t:Int)/\t<P:=by grind[wu,BitVec.ofInt,Nat.and_le_right,w64]
def NpOk (a:Int->Option Int):Prop:=∀m:Nat,8<=m->m<=1000000->∃P:Nat,a (m:Int)=AB (P:Int)/\1<=P/\P<=2 * m
def XnOk (a:Int->Option (Int×Int)):Prop:=∀x,∃y,a x=AB y
theorem aeB (p:NpOk npow)(k:XnOk xnext)(hl:lo+n<=AA l)(X:n<=1000000)(d:Array α)(s:Ok S n d)(a b:Nat)(R:a<=b)(U:b<=n):
 ∃e,lW cmp npow xnext (W l lo d) lo n (a:Int) (b:Int)=AB (W l lo e)/\PermIn a b d e:=by
 have hd:=s.1;simp only[lW,mr,qj,dm_o];have z:AG qs ((b:Int)- (a:Int))=((b-a:Nat):Int):=by grind[w64]
 have A:AG qs ((((b-a:Nat):Int)).tdiv 4)=(((b-a) / 4:Nat):Int):=by
  grind[w64]
 have B:AG qs ((((b-a) / 4:Nat):Int) * 2)=(((b-a) / 4 * 2:Nat):Int):=by grind[w64]
 have C:AG qs ((a:Int)+(((b-a) / 4 * 2:Nat):Int))=((a+(b-a) / 4 * 2:Nat):Int):=by grind[w64]
 simp only[z,A,B,C];by_cases D:b-a>=8
 ·obtain⟨P,I,K,p3⟩:=p (b-a) D qa;rw[ah qa,I,wn qa,wprd qa qa];suffices h:∃r,_=AB r/\∃e,r=W l lo e/\PermIn a b d e by
   obtain⟨r,g,e,rfl,u⟩:=h;exact⟨e,g,u⟩
  refine bU (λm (y:List α×Int×Int)=>∃ (t:Nat) (e:Array α),y.1=W l lo e/\y.2.2=(t:Int)/\Ok S n e/\a<=t/\t<=a+(b-a) / 4 * 2+2/\n+3<=t+m/\PermIn a b d e) (λy=>∃e,y=W l lo e/\PermIn a b d e) (n+3) ⟨a+(b-a) / 4 * 2-1,d,rfl,rfl,s,qa,qa,qa,permIn_refl _ _ _⟩ qa ?_ (λy j=>⟨_,rfl,j⟩);rintro m ⟨Z,L,y2⟩ ⟨t,e,i,j,f,g,u,N,w⟩;have V:=f.1;simp only at i j⊢;subst i;subst j;have O:=ev (l:=l) (lo:=lo) (d:=e) qa;by_cases Y:t<=a+(b-a) / 4 * 2+1
  ·obtain⟨x,G⟩:=k L;obtain⟨o,H,o2⟩:=ai0 x.1 P K qa;rw[ah qa,G];simp only[qH];rw[H];have E:(bif qu ((o:Int)>=((b-a:Nat):Int))then AB (aA.out (AG qs ((o:Int)- ((b-a:Nat):Int))))else AB (aA.out (o:Int)):Option (aA Unit Int (aA (List α×Int×Int) (List α) (List α))))=AB (.out ((if o>=b-a then o- (b-a)else o:Nat):Int)):=by
    grind[w64]
   rw[s9 E];have F:(if o>=b-a then o- (b-a)else o)<b-a:=jX;generalize (if o>=b-a then o- (b-a)else o)=q at F;have M:AG qs ((a:Int)+(q:Int))=((a+q:Nat):Int):=by rw[w64 qa qa];omega
   rw[ab qa,ab qa,ab qa,ab qa,ab qa,ab qa,ab qa,ab (by rw[wc];omega),ex qa qa qa,wn qa];exact .inl ⟨_,m-1,rfl,qa,t+1,_,rfl,rfl,f.swp qa qa,qa,qa,qa,permIn_trans _ _ _ _ _ w (swp_permIn _ _ _ _ _ qa qa qa qa qa)⟩
  rw[ai qa];exact .inr (.inl ⟨_,rfl,e,rfl,w⟩)
 rw[ai qa];exact⟨d,rfl,permIn_refl _ _ _⟩
def tz (l:List α)(lo:Nat)(lt:α->α->Bool)(d:Array α)(a b:Nat)(r:List α):Prop:=∃e,r=W l lo e/\PermIn a b d e/\SortedIn lt a b e
theorem aim (Z:dW S cmp lt)(M:SWO lt)(hnp:NpOk npow)(hxn:XnOk xnext)(hl:lo+n<=AA l)(N:n<=1000000){rec:(List α)×Nat×Nat×Int×Int×Int->Option (List α)}(d:Array α)(Hd:Ok S n d)(a b L:Nat)(hab:a<=b)(hb:b<=n)(hB:Below lt a b d)(X:L<=1000)
 (O:∀ (e:Array α) (x y L:Nat),L<=1000->Ok S n e->x<=y->y<=n->y-x<b-a->Below lt x y e->∃r,rec (W l lo e,lo,n,(x:Int),(y:Int),(L:Int))=AB r/\tz l lo lt e x y r):
 ∃r,lc cmp npow xnext rec (W l lo d) lo n (a:Int) (b:Int) (L:Int)=AB r/\tz l lo lt d a b r:=by
 have hd:=Hd.1;simp only[lc,Yz6,qj,dm_o]
 refine ahe (λm (y:List α×Int×Int×Int×Bool×Bool)=>∃ (e:Array α) (f g L:Nat),y.1=W l lo e/\y.2.1=(f:Int)/\y.2.2.1=(g:Int)/\(y.2.2.2.1=(L:Int)/\L<=1000)/\Ok S n e/\a<=f/\f<=g/\g<=b/\g-f<=m/\Below lt f g e/\∀R,PermIn f g e R->SortedIn lt f g R->PermIn a b d R/\SortedIn lt a b R)
  (b-a) ⟨d,a,b,L,rfl,rfl,rfl,⟨rfl,X⟩,Hd,wg _,hab,wg _,wg _,hB,λR U V=>⟨U,V⟩⟩ qa ?_
 rintro m ⟨l1,y1,y2,y3,wb,wp⟩ ⟨e,f,g,L,hl1,hy1,hy2,⟨hy3,X⟩,He,ha1,s,hb1,hm,hB1,q⟩;have he:=He.1;simp only at hl1 hy1 hy2 hy3⊢;subst hl1;subst hy1;subst hy2;subst hy3;have e1:AG qs ((g:Int)- (f:Int))=((g-f:Nat):Int):=by rw[w64 qa qa];omega
 simp only[e1];have Y:g<=e.size:=qa;by_cases h12:g-f<=12;{obtain⟨u,F⟩:=insertionSort_holds (lt:=lt) M e f g s Y;rw[ah qa,ail Z hl N e He f g qa qa];exact .inr ⟨_,rfl,_,rfl,q _ u F⟩};rw[ai qa];by_cases hL:L=0;{obtain⟨u,F⟩:=heapSort_holds (lt:=lt) M e f g s Y;rw[cN qa,agX Z hl N e He f g qa qa];exact .inr ⟨_,rfl,_,rfl,q _ u F⟩};rw[cr qa];refine ta (λy:List α×Int=>∃ (t:Array α) (K:Nat),y=(W l lo t,(K:Int))/\K<=1000/\PermIn f g e t) (.inl ?_) ?_
 ·cases wb with
  |false=>
   obtain⟨t,u,F⟩:=aeB (cmp:=cmp) hnp hxn hl N e He f g s qa;simp only[wF,qe];rw[u];simp only[qH];rw[wprd qa qa];exact⟨_,rfl,t,L-1,rfl,qa,F⟩
  |true=>exact⟨_,rfl,e,L,rfl,X,permIn_refl _ _ _⟩
 rintro _ ⟨t,K,rfl,G,s1⟩;have A:Ok S n t:=He.perm s1 qa;have hd1:=A.1;have b1d:g<=t.size:=qa;have hc0:=choosePivot_holds lt t f g qa;simp only;rw[adf Z hl N t A f g qa qa];simp only[qH];generalize choosePivot lt t f g=c at hc0⊢;refine ta (λy:List α×Int×Int=>∃ (d2:Array α) (o:Nat) (h:Int),y=(W l lo d2,(o:Int),h)/\PermIn f g t d2/\f<=o/\o<g) (.inl ?_) ?_
 ·by_cases hh:tI c.2=2
  ·rw[cN hh,acp hl N t A f g qa qa];have e2:AG qs ((c.1:Int)- (f:Int))=((c.1-f:Nat):Int):=by rw[w64 qa qa];omega
   have e3:AG qs (((g-1:Nat):Int)- ((c.1-f:Nat):Int))=((g-1- (c.1-f):Nat):Int):=by rw[w64 qa qa];omega
   simp only[qH];rw[wprd qa qa,e2,e3];exact⟨_,rfl,_,_,1,rfl,reverseRange_holds t f g s b1d,qa,qa⟩
  rw[cr hh];exact⟨_,rfl,t,c.1,tI c.2,rfl,permIn_refl _ _ _,hc0.1,hc0.2⟩
 rintro _ ⟨d2,o,h,rfl,s2,C,D⟩;have H:Ok S n d2:=A.perm s2 qa;have hd2:=H.1;have B2:Below lt f g d2:=(hB1.perm Y s1).perm b1d s2;simp only[aU,ag];refine ta (λy:List α=>∃k:Array α,y=W l lo k/\PermIn f g d2 k) ?_ ?_
 ·generalize (bif wb then bif wp then h==1 else AE else AE)=bb;cases bb with
  |false=>exact .inl ⟨_,rfl,d2,rfl,permIn_refl _ _ _⟩
  |true=>
   obtain⟨u,F⟩:=partialInsertionSort_holds (lt:=lt) M d2 f g qa qa B2;simp only[qe];rw[aco Z hl N d2 H f g qa qa];simp only[qH];cases hps:(partialInsertionSort lt d2 f g).2 with
   |false=>exact .inl ⟨_,rfl,_,rfl,u⟩
   |true=>exact .inr ⟨_,rfl,.inr ⟨_,rfl,_,rfl,q _ (permIn_trans _ _ _ _ _ (permIn_trans _ _ _ _ _ s1 s2) u) (F hps)⟩⟩
 rintro _ ⟨k,rfl,s3⟩;have p:Ok S n k:=H.perm s3 qa;have hd3:=p.1;have B3:Below lt f g k:=B2.perm qa s3;have P3:PermIn f g e k:=permIn_trans _ _ _ _ _ (permIn_trans _ _ _ _ _ s1 s2) s3;have hW:=ev (l:=l) (lo:=lo) (d:=k) qa;refine ta (λy:Bool=>y=(qu (f>0)&& !lt k[f-1]! k[o]!)) (.inl ?_) ?_
 ·by_cases h0:f>0;{obtain⟨z,z1,z2⟩:=e7 Z hl p (i:=f-1) (j:=o) qa qa;rw[ah qa,wprd qa qa];simp only[qE];rw[ab qa,ab qa,ab qa,ab qa,z1];simp only[qH,z2];exact⟨_,rfl,by rw[qg h0];rfl⟩};rw[ai qa];exact⟨_,rfl,by rw[qh h0];rfl⟩
 rintro _ rfl;cases I:(qu (f>0)&& !lt k[f-1]! k[o]!)with
 |true=>
  simp only[ql,qf,Bool.not_eq_true']at I;obtain⟨g1,g2,g3,g4,g5⟩:=round_eq (mid:=(partitionEqual lt k f g o).1) (d4:=(partitionEqual lt k f g o).2) M (partitionEqual_holds lt) I.1 C D qa B3 I.2 rfl;simp only[qe];have hge:∀i,f<=i->i<g->lt k[i]! k[o]! =false:=λi hi hi'=>by
   rcases B3 with h0|hB;{omega};exact M.ntrans _ _ _ (hB i hi hi') I.2
  have B:Ok S n (partitionEqual lt k f g o).2:=p.perm (partitionEqual_holds lt M k f g o C D qa hge).2.2.1 qa;rw[adg Z hl N k p f g o C D qa];simp only[qH];refine .inl ⟨_,g- (partitionEqual lt k f g o).1,rfl,qa,_,_,g,K,rfl,rfl,rfl,⟨rfl,G⟩,B,qa,g2,hb1,wg _,g4,λR U V=>?_⟩;obtain⟨u,F⟩:=g5 R U V;exact q R (permIn_trans _ _ _ _ _ P3 u) F
 |false=>
  obtain⟨g1,g2,g3,g4,g5,g6,g7⟩:=round_part (mid:=(partition lt k f g o).1) (ap:=(partition lt k f g o).2.1) (d4:=(partition lt k f g o).2.2) M (partition_holds lt) C D qa B3 rfl;simp only[qd];have B:Ok S n (partition lt k f g o).2.2:=p.perm (partition_holds lt M k f g o C D qa).2.2.1 qa;rw[agY Z hl N k p f g o C D qa];simp only[qH];generalize (partition lt k f g o).1=w at *
  generalize (partition lt k f g o).2.2=d4 at *
  have e4:AG qs ((w:Int)+1)=((w+1:Nat):Int):=wn qa;simp only[e4];cases qu (AG qs ((w:Int)- (f:Int))<AG qs ((g:Int)- (w:Int)))with
  |true=>
   obtain⟨r,r1,E,rfl,r2,r3⟩:=O d4 f w K G B g1 qa qa g4;obtain⟨w1,w2⟩:=g6 E r2 r3;rw[r1];refine .inl ⟨_,g- (w+1),rfl,qa,E,w+1,g,K,rfl,rfl,rfl,⟨rfl,G⟩,B.perm r2 qa,qa,qa,hb1,wg _,w1,λR U V=>?_⟩;obtain⟨u,F⟩:=w2 R U V;exact q R (permIn_trans _ _ _ _ _ P3 u) F
  |false=>
   obtain⟨r,r1,E,rfl,r2,r3⟩:=O d4 (w+1) g K G B qa qa qa g5;obtain⟨w1,w2⟩:=g7 E r2 r3;rw[r1];refine .inl ⟨_,w-f,rfl,qa,E,f,w,K,rfl,rfl,rfl,⟨rfl,G⟩,B.perm r2 qa,ha1,g1,qa,wg _,w1,λR U V=>?_⟩;obtain⟨u,F⟩:=w2 R U V;exact q R (permIn_trans _ _ _ _ _ P3 u) F
def kn (cmp:α->α->Option Int)(c:Int->Option Int)(b:Int->Option (Int×Int)):Nat->(List α)×Nat×Nat×Int×Int×Int->Option (List α)
 |0,_=>none
 |N+1,a=>lc cmp c b (kn cmp c b N) a.1 a.2.1 a.2.2.1 a.2.2.2.1 a.2.2.2.2.1 a.2.2.2.2.2
theorem Fl (q:dW S cmp lt)(s:SWO lt)(g:NpOk npow)(i:XnOk xnext)(p:lo+n<=AA l)(o:n<=1000000):∀ (N:Nat) (d:Array α) (a b L:Nat),L<=1000->Ok S n d->a<=b->b<=n->b-a<N->Below lt a b d->
 ∃r,kn cmp npow xnext N (W l lo d,lo,n,(a:Int),(b:Int),(L:Int))=AB r/\tz l lo lt d a b r
 |0,_,_,_,_,_,_,_,_,h,_=>qa
 |N+1,d,a,b,L,j,z,m,w,h,B=>aim q s g i p o d z a b L m w B j λe x y L j A v t u k=>Fl q s g i p o N e x y L j A v t qa k
end
open Go.Sort (PermIn SortedIn SWO)
def Ub (i:Nat):Bool:=match(gQ (i:Int)).o with
 |some k=>qu (0<=k)&&(qu (k<=8)&&(qu (i=0)||qu (2 ^ k.toNat<=2 * i)))
 |none=>AE
theorem aiz:(xU 256).all Ub=true:=jY
theorem Uc {i:Nat}(h:i<256):∃k:Nat,(gQ (i:Int)).o=AB (k:Int)/\k<=8/\(1<=i->2 ^ k<=2 * i):=by
 have a:=qk.1 aiz i (xA.2 h);unfold Ub at a;split at a
 ·rename_i k b;simp only[ql,qX,qf]at a;exact⟨k.toNat,by rw[b,Int.toNat_of_nonneg a.1],qa,λd=>by
   rcases a.2.2 with h|h;{omega};exact h⟩
 cases a
theorem fd16 (n:Nat):Int.fdiv (n:Int) (2 ^ (min (16:Int).toNat 64))=((n / 65536:Nat):Int):=by have:(2:Int) ^ (min (16:Int).toNat 64)=65536:=jU;rw[this,xV _ jU];omega
theorem fd8 (n:Nat):Int.fdiv (n:Int) (2 ^ (min (8:Int).toNat 64))=((n / 256:Nat):Int):=by have:(2:Int) ^ (min (8:Int).toNat 64)=256:=jU;rw[this,xV _ jU];omega
set_option maxRecDepth 100000 in
theorem F9 (n:Nat)(A:n<=1000000):∃k:Nat,(pG (n:Int)).o=AB (k:Int)/\k<=24/\(1<=n->2 ^ k<=2 * n):=by
 have e:(pG (n:Int)).o=(gQ (n:Int)).o:=by
  show(KC (n:Int)).run NN=_;simp only[KC,qj];cases (gQ (n:Int)).o<;>rfl
 rw[e];by_cases b:n<256;{obtain⟨k,i,w,j⟩:=Uc b;exact⟨k,i,qa,j⟩};have f:∀ (m s:Nat),m<256->s<=16->(∀k,(pr (m:Int)).run NN=AB ((k:Nat):Int)->k<=8->(pr (n:Int)).run NN=AB (((s+k:Nat)):Int))->2 ^ s * m<=n->1<=m->∃k:Nat,(gQ (n:Int)).o=AB (k:Int)/\k<=24/\(1<=n->2 ^ k<=2 * n):=λm s f y h x b=>by
  obtain⟨k,i,w,j⟩:=Uc f;refine⟨s+k,h k i w,qa,λ_=>?_⟩;rw[Nat.pow_add];have:=Nat.mul_le_mul_left (2 ^ s) (j b);have z:2 ^ s * (2 * m)=2 * (2 ^ s * m):=by rw[Nat.mul_left_comm]
  omega
 have fin:∀ {C:Prop} [Decidable C] {q:Int} {s k:Nat},s<=16->k<=8->grd C (AB (AG qs (0+q)))=AB (k:Int)->AG qs q=q->grd C (AB (AG qs ((s:Int)+q)))=AB ((s+k:Nat):Int):=λ{C _ q s k} y a h hq=>by
  obtain⟨b,d⟩:=grd_some.1 h;rw[ab b];simp only[Option.some.injEq]at d;rw[Int.zero_add,hq]at d;rw[d,w64 qa qa];congr 1
 by_cases d:n<65536
 ·refine f (n / 256) 8 qa jU (λk a t=>?_) qa qa;simp only[pr,qj]at a⊢;rw[ai qa,ag]at a⊢;simp only at a⊢;rw[ai qa,ag]at a⊢;simp only at a⊢;rw[ai qa,ag]at a;rw[ah qa,ag,fd8];have g:AG qs (0+8)=((8:Nat):Int):=by decide
  simp only[g]at a⊢;exact fin jU t a (U1 _)
 refine f (n / 65536) 16 qa jU (λk a t=>?_) qa qa;simp only[pr,qj]at a⊢;rw[ai qa,ag]at a⊢;simp only at a⊢;rw[ai qa,ag]at a;rw[ah qa,ag,fd16];simp only at a⊢;rw[ai qa,ag]at a;rw[ai qa,ag];have g:AG qs (0+16)=((16:Nat):Int):=by decide
 simp only[g]at a⊢;exact fin jU t a (U1 _)
theorem u64n {n:Nat}(h:n<=1000000):IntKind.u64.wrap (n:Int)=(n:Int):=by rw[wu];omega
abbrev f8:Int->Option Int:=λx=>(Ht x).o
abbrev f6:Int->Option (Int×Int):=λx=>(Lk x).o
theorem UO:NpOk f8:=λm f b=>by
 obtain⟨k,e,g,d⟩:=F9 m b;refine⟨2 ^ k,?_,Nat.one_le_two_pow,d qa⟩;show(Hu (m:Int)).run NN=_;simp only[Hu,qj];rw[u64n b,e];simp only[qH,qE];have a:=d qa;rw[ab qa,Nat.min_eq_left qa,wu];have hp:(2:Int) ^ k=((2 ^ k:Nat):Int):=jV;rw[hp];generalize 2 ^ k=P at a;congr 1;omega
theorem U3:XnOk f6:=λ_=>⟨_,rfl⟩
section
variable {α:Type} [Inhabited α]
theorem Ts {l:List α}{lo n:Nat}{S:α->Prop}(hl:lo+n<=AA l)(b:∀x∈(l.drop lo).take n,S x):Ok S n ((l.drop lo).take n).toArray:=by
 have h:AA ((l.drop lo).take n)=n:=by rw[w8,xQ];omega
 refine⟨by rw[xW,h],λi a=>?_⟩;rw[getElem!_pos _ i (by rw[xW,h];exact a),List.getElem_toArray];exact b _ (List.getElem_mem _)
theorem QX {l:List α}{lo n:Nat}{lt:α->α->Bool}{r:List α}(hl:lo+n<=AA l)(h:tz l lo lt ((l.drop lo).take n).toArray 0 n r):
 ∃s,r=l.take lo++s++l.drop (lo+n)/\s.Perm ((l.drop lo).take n)/\s.Pairwise λa b=>lt b a=false:=by
 obtain⟨e,rfl,k,x⟩:=h;have y:((l.drop lo).take n).toArray.size=n:=by simp only[xW,w8,xQ];omega
 have o:e.size=n:=by rw[k.1];exact y
 refine⟨e.toList,by unfold W;rw[o],?_,?_⟩
 ·have m:=k.2.2;have t:(e.extract 0 n).toList=e.toList:=by
   rw[xX];simp only[List.extract_eq_take_drop,xF,xE];exact List.take_of_length_le (by simp[o])
  have w:(((l.drop lo).take n).toArray.extract 0 n).toList=(l.drop lo).take n:=by rw[xX];simp[List.take_take]
  rw[t,w]at m;exact m
 refine xm.2 λi j hi hj f=>?_
 have d:i<e.size:=kb;have g:j<e.size:=ka;have:=x i j (wN _) f qa;simpa[d,g]using this
end
open Go.Sort (SWO)
abbrev dU (pts:A8)(a:Int):Int->Int->Option Int:=λx y=>(kD x y pts a).o
theorem Yo (pts:A8)(d:Int)(l:A7)(lo n:Nat)(a b:Int):(Vz l lo n a b pts d).o=lX (dU pts d) l lo n a b:=by show(GR l lo n a b pts d).run NN=_;simp only[GR,lX,Azj,qj,dm_o]
theorem aba (pts:A8)(d:Int)(l:A7)(lo n:Nat)(a b c:Int):(VT l lo n a b c pts d).o=mn (dU pts d) l lo n a b c:=by show(G9 l lo n a b c pts d).run NN=_;simp only[G9,mn,Azn,qj,dm_o]
theorem aaB (pts:A8)(d:Int)(l:A7)(lo n:Nat)(a b:Int):(VR l lo n a b pts d).o=ml (dU pts d) l lo n a b:=by show(G5 l lo n a b pts d).run NN=_;simp only[G5,ml,Azi,qj,dm_o,aba]
theorem acA (pts:A8)(d:Int)(l:A7)(lo n:Nat)(a b c:Int):(VV l lo n a b c pts d).o=lm (dU pts d) l lo n a b c:=by show(Hh l lo n a b c pts d).run NN=_;simp only[Hh,lm,Yz4,qj,dm_o]
theorem QH (pts:A8)(e:Int)(l:A7)(lo n:Nat)(a b c d:Int):(Hf l lo n a b c d pts e).o=iQ (dU pts e) l lo n a b c d:=by show(Hg l lo n a b c d pts e).run NN=_;simp only[Hg,iQ,Yz3,qj,dm_o,acA]
theorem W4 (pts:A8)(d:Int)(l:A7)(lo n:Nat)(a b:Int):(Vt l lo n a b pts d).o=lQ (dU pts d) l lo n a b:=by show(GK l lo n a b pts d).run NN=_;simp only[GK,lQ,Azk,qj,dm_o,QH]
theorem Y2 (pts:A8)(d:Int)(l:A7)(lo n:Nat)(a b:Int):(VE l lo n a b pts d).o=l8 (dU pts d) l lo n a b:=by show(GU l lo n a b pts d).run NN=_;simp only[GU,l8,Azh,qj,dm_o,QH,W4]
theorem YP (pts:A8)(d:Int)(l:A7)(lo n:Nat)(a b:Int):(VD l lo n a b pts d).o=l4 (dU pts d) l lo n a b:=by show(GT l lo n a b pts d).run NN=_;simp only[GT,l4,mu,qj]
theorem Wy (pts:A8)(d:Int)(l:A7)(lo n:Nat)(a b:Int):(Vd l lo n a b pts d).o=lJ (dU pts d) l lo n a b:=by show(Gv l lo n a b pts d).run NN=_;simp only[Gv,lJ,nzg,qj,dm_o]
theorem W7 (pts:A8)(d:Int)(l:A7)(lo n:Nat)(a b c:Int):(Vu l lo n a b c pts d).o=lR (dU pts d) l lo n a b c:=by show(GM l lo n a b c pts d).run NN=_;simp only[GM,lR,Azl,qj,dm_o]
theorem aae (pts:A8)(d:Int)(l:A7)(lo n:Nat)(a b c:Int):(VN l lo n a b c pts d).o=md (dU pts d) l lo n a b c:=by show(G1 l lo n a b c pts d).run NN=_;simp only[G1,md,Yz5,qj,dm_o]
theorem Yf (pts:A8)(d:Int)(l:A7)(lo n:Nat)(a b:Int):(Vx l lo n a b pts d).o=lW (dU pts d) f8 f6 l lo n a b:=by show(GP l lo n a b pts d).run NN=_;simp only[GP,lW,mr,qj,dm_o]
theorem Ty (pts:A8)(d:Int)(lo n:Nat):∀ (N:Nat) (l:A7) (a b L:Int),(bC.fix t5 N).o (l,lo,n,a,b,L,pts,d)=kn (dU pts d) f8 f6 N (l,lo,n,a,b,L)
 |0,_,_,_,_=>rfl
 |N+1,l,a,b,L=>by
  show(Hb (bC.fix t5 N) l lo n a b L pts d).run NN=lc (dU pts d) f8 f6 (kn (dU pts d) f8 f6 N) l lo n a b L;have e:∀ (l:A7) (a b L:Int),((bC.fix t5 N).C (l,lo,n,a,b,L,pts,d)).o=kn (dU pts d) f8 f6 N (l,lo,n,a,b,L):=λl a b L=>Ty pts d lo n N l a b L
  simp only[Hb,lc,Yz6,qj,dm_o,e,Yo,aaB,Yf,Y2,YP,Wy,W7,aae]
theorem agb (pts:A8)(d:Int){S:Int->Prop}{lt:Int->Int->Bool}(j:dW S (dU pts d) lt)(i:SWO lt)(l:A7)(lo n:Nat)(hl:lo+n<=AA l)(e:n<=1000000)(m:∀x∈(l.drop lo).take n,S x):
 ∃s,(VX l lo n pts d).o=AB (l.take lo++s++l.drop (lo+n))/\s.Perm ((l.drop lo).take n)/\s.Pairwise λa b=>lt b a=false:=by
 obtain⟨k,t,A,-⟩:=F9 n e;have f:=Ts hl m;obtain⟨r,g,w⟩:=Fl (l:=l) (lo:=lo) j i UO U3 hl e NN ((l.drop lo).take n).toArray 0 n k qa f (wN _) (wg _) (by show n-0<4294967296;omega) (.inl rfl);obtain⟨s,rfl,y,z⟩:=QX hl w;refine⟨s,?_,y,z⟩;rw[TP hl]at g;show(Hk l lo n pts d).run NN=_;have h:(VU l lo n 0 (n:Int) (k:Int) pts d).o=_:=(Ty pts d lo n NN l 0 (n:Int) (k:Int)).trans g;simp only[Hk,qj];rw[u64n e,t];simp only[qH];rw[h];rfl
open Go.Sort (SWO)
def vK (P:A8)(a x:Int):Int:=(AF P x.toNat qt).getD a.toNat qt
def ltK (P:A8)(a x y:Int):Bool:=qu (vK P a x<vK P a y\/(vK P a x=vK P a y/\x<y))
theorem ltK_iff {P:A8}{a x y:Int}:ltK P a x y=AD↔vK P a x<vK P a y\/(vK P a x=vK P a y/\x<y):=by grind[ltK]
theorem ltK_not {P:A8}{a x y:Int}:ltK P a x y=AE↔¬ (vK P a x<vK P a y\/(vK P a x=vK P a y/\x<y)):=by grind[ltK]
theorem swoK (P:A8)(a:Int):SWO (ltK P a)where
 irrefl x:=ltK_not.2 qa
 trans x y z c b:=by grind[ltK_iff]
 ntrans x y z c b:=by grind[ltK_not]
theorem TU (a b:Int):(HU a b).o=AB (cmpI' a b):=by
 have h:∀x,(IJ x).o=AB (x !=x):=λ_=>rfl
 show(HV a b).run NN=_;simp only[HV,qj,h,qH,bne_self_eq_false,qd];grind[cmpI']
def PtsOk (P:A8)(J:Nat):Prop:=AA P<=1000/\(1<=J/\J<=10)/\∀c∈P,AA c=J/\∀x∈c,-4194304<=x/\x<=4194304
def InP (P:A8)(x:Int):Prop:=0<=x/\x<(AA P:Int)
theorem PtsOk.at {P:A8}{J:Nat}(h:PtsOk P J){x:Int}(a:InP P x):AA (AF P x.toNat qt)=J:=(h.2.2 _ (aM (by unfold InP at a;omega))).1
theorem Tv {P:A8}{J:Nat}(h:PtsOk P J){a x y:Int}(e:0<=a/\a<(J:Int))(c:InP P x)(b:InP P y):∃z,(uk P a x y).o=AB z/\qu (z<0)=ltK P a x y:=by have f:=h.at c;have g:=h.at b;refine⟨if cmpI' (vK P a x) (vK P a y)≠0 then cmpI' (vK P a x) (vK P a y)else cmpI' x y,?_,?_⟩;{show(JL P a x y).run NN=_;simp only[JL,qj];unfold InP at c b;have d:(fI x y).o=AB (cmpI' x y):=cmpI x y;rw[ab qa,ab qa,ab qa,ab qa,TU,d];simp only[qH];rw[TV];rfl};rw[Bool.eq_iff_iff,qf,ltK_iff];unfold cmpI';split<;>split<;>(try split)<;>omega
theorem agI {P:A8}{J:Nat}(h:PtsOk P J){a:Int}(b:0<=a/\a<(J:Int)):dW (InP P) (dU P a) (ltK P a):=λx y c e=>by
 obtain⟨z,f,d⟩:=Tv h b c e;refine⟨z,?_,d⟩;show(HJ x y P a).run NN=_;grind[HJ,qj]
theorem TG (c:A7)(a:AA c<=10)(d:∀x∈c,-4194304<=x/\x<=4194304):(ul c).o=AB true:=by show(JM c).run NN=_;simp only[JM,qj];refine(aR (λ_=>none) (AA c) qa (λj b=>?_) jW).trans ?_;all_goals grind[aM,ab,ag,wn,dp]
theorem Q1 {P:A8}{J:Nat}(h:PtsOk P J):(Hv P).o=AB true:=by obtain⟨i,e,a⟩:=h;show(Hw P).run NN=_;simp only[Hw,qj];rw[ai qa];refine(aR (λ_=>none) (AA P) qa (λj b=>?_) jW).trans ?_;{obtain⟨g,c⟩:=a _ (aM b);obtain⟨f,-⟩:=a _ (aM (show 0<AA P from qa));have d:(0:Int).toNat=0:=rfl;rw[ah qa,ab qa,qE,d,ai qa,ai qa,ab qa,aS qa,TG _ qa c];simp only[qH,ag,qI,qd];rw[wn qa]};rw[(dp _ _).2 (λ_ _ _=>rfl)]
abbrev nd (Q:An)(j:Nat):fg:=AF Q j qt
inductive KD (P:A8) (J:Nat) (Q:An):Int->Nat->Nat->Prop
 |nil (b:Nat):KD P J Q (-1) b b
 |node (b m e:Nat) (hb:b<AA Q) (h1:KD P J Q (nd Q b).XT (b+1) m) (h2:KD P J Q (nd Q b).XR m e) (ha:0<=(nd Q b).XN/\(nd Q b).XN<(J:Int)) (hp:InP P (nd Q b).Xu)
  (o1:∀j,b+1<=j->j<m->ltK P (nd Q b).XN (nd Q j).Xu (nd Q b).Xu=AD) (o2:∀j,m<=j->j<e->ltK P (nd Q b).XN (nd Q b).Xu (nd Q j).Xu=AD):KD P J Q (b:Int) b e
theorem KD.le {P:A8}{J:Nat}{Q:An}{i:Int}{b e:Nat}(h:KD P J Q i b e):b<=e:=by induction h<;>grind
theorem KD.congr {P:A8}{J:Nat}{Q d:An}{i:Int}{b e:Nat}(h:KD P J Q i b e)(o:e<=AA d)(f:∀j,b<=j->j<e->nd Q j=nd d j):KD P J d i b e:=by
 induction h with
 |nil b=>exact .nil b
 |node b m e w c a k n r s p t=>
  have u:=c.le;have v:=a.le;have q:=f b (wg _) qa;have g:=p qa λj c a=>f j qa qa
  have l:=t o λj c a=>f j qa a
  rw[q]at g l k n r s;exact .node b m e qa g l k n (λj c a=>jX) (λj c a=>jX)
theorem P5 {Q U:An}{j:Nat}(h:j<AA Q):nd (Q++U) j=nd Q j:=by grind
theorem rh {Q U:An}{j:Nat}(h:AA Q<=j):nd (Q++U) j=nd U (j-AA Q):=by grind
theorem Uf {U:An}{j:Nat}(h:j<AA U):(nd U j).Xu∈U.map (·.Xu):=xi.2 ⟨_,aM h,rfl⟩
theorem Ei {P:A8}{J:Nat}(hP:PtsOk P J):∀ (N:Nat) (X R Y:A7) (b:Nat) (Q:An),AA R<N->(∀x∈R,InP P x)->R.Nodup->b+AA R<=2000->AA Q+AA R<=2000->AA R<=1000->
 ∃s k i,(bC.fix nj N).o (X++R++Y,AA X,AA R,(b:Int),P,Q)=AB (i,X++s++Y,Q++k)/\s.Perm R/\(AA k)=AA R/\(k.map (·.Xu)).Perm R/\KD P J (Q++k) i (AA Q) (AA Q+AA R)
 |0,_,_,_,_,_,h,_,_,_,_,_=>qa
 |N+1,X,R,Y,b,Q,hN,hR,hnd,hlv,hTl,hRl=>by
  have ho:(bC.fix nj (N+1)).o (X++R++Y,AA X,AA R,(b:Int),P,Q)=(Ie (bC.fix nj N) (X++R++Y) (AA X) (AA R) (b:Int) P Q).run NN:=rfl;rw[ho];simp only[Ie,qj];by_cases h0:AA R=0;{obtain rfl:=List.length_eq_zero_iff.1 h0;rw[cN jV];exact⟨[],[],-1,jV,List.Perm.refl _,rfl,List.Perm.refl _,.nil _⟩};rw[cr qa];obtain⟨hp1,hp2,hp3⟩:=hP;have hP:PtsOk P J:=⟨hp1,hp2,hp3⟩;have hpl:0<AA P:=by
   obtain⟨x,L⟩:=List.exists_mem_of_length_pos (show 0<AA R from qa);grind[InP]
  have hJ:=(hp3 _ (aM hpl)).1;have z0:(0:Int).toNat=0:=rfl;have eax:Int.tmod (b:Int) (J:Int)=((b % J:Nat):Int):=by rfl
  have hax:b % J<J:=Nat.mod_lt _ qa;have e2:AG qs (Int.tdiv (AA R:Int) 2)=((AA R / 2:Nat):Int):=by grind[w64]
  have e3:AG qs (((AA R / 2:Nat):Int)+1)=((AA R / 2+1:Nat):Int):=wn qa;have e4:AG qs ((b:Int)+1)=((b+1:Nat):Int):=wn qa;simp only[z0,hJ,eax,e2,e3,e4,qE,Nat.add_zero,xE];have hdr:(X++R++Y).drop (AA X)=R++Y:=jW;have htk:((X++R++Y).drop (AA X)).take (AA R)=R:=jW;obtain⟨s,s1,M,s3⟩:=agb P ((b % J:Nat):Int) (agI hP ⟨qa,qa⟩) (swoK P _) (X++R++Y) (AA X) (AA R) jV qa (by rw[htk];exact hR);rw[htk]at M;have etk:(X++R++Y).take (AA X)=X:=by rw[wE,List.take_left]
  have edr:(X++R++Y).drop (AA X+AA R)=Y:=by rw[<-wW,List.drop_left]
  rw[etk,edr]at s1;rw[ab qa,ab qa,s1];simp only[qH];have hsl:AA s=AA R:=M.length_eq;obtain⟨h,hh⟩:∃h,h=AA R / 2:=⟨_,rfl⟩;rw[<-hh];have V:h<AA s:=qa;obtain⟨p,hpv⟩:∃p,p=AF s h qt:=⟨_,rfl⟩;have f:s=s.take h++p::s.drop (h+1):=by
   conv=>lhs;rw[<-List.take_append_drop h s]
   rw[xh V,hpv,qZ,w6 V,w7]
  have H:AA (s.take h)=h:=by rw[w8];omega
  have hl2:AA (s.drop (h+1))=AA R- (h+1):=by rw[xQ];omega
  generalize s.take h=A at *
  generalize s.drop (h+1)=B at *
  have hgp:AF (X++s++Y) (AA X+h) qt=p:=by
   rw[f];simp[qZ,<-H]
  have hXs:AA (X++s++Y)=AA X+AA R+AA Y:=by simp only[wW,hsl]
  have g:s.Nodup:=M.nodup_iff.2 hnd;rw[f]at g s3;obtain⟨n1,n2,n3⟩:=xY.1 g;obtain⟨n4,n5⟩:=xZ.1 n2;obtain⟨w1,w2,w3⟩:=xu.1 s3;have w4:=(xw.1 w2).1;have hS:∀x∈A++p::B,InP P x:=λx L=>hR x (M.mem_iff.1 (by rw[f];exact L))
  rw[ab qa,ab qa,hgp];obtain⟨D,hD⟩:∃D:fg,D=⟨p,((b % J:Nat):Int),0,0⟩:=⟨_,rfl⟩;rw[<-hD,ab (by simp only[qx,qz,aF];omega),ab qa];have ea:X++s++Y=X++A++(p::B++Y):=by rw[f];simp
  obtain⟨sA,a,iA,a1,a2,a3,a4,a5⟩:=Ei hP N X A (p::B++Y) (b+1) (Q++[D]) qa (λx L=>hS x (x7 _ L)) n1 qa jZ qa;have hcA:((bC.fix nj N).C (X++s++Y,AA X,h,((b+1:Nat):Int),P,Q++[D])).o=AB (iA,X++sA++(p::B++Y),Q++[D]++a):=by
   rw[ea,<-H];exact a1
  rw[hcA];simp only[qH];have hslA:AA sA=AA A:=a2.length_eq;have eb:X++sA++(p::B++Y)=(X++sA++[p])++B++Y:=jV;obtain⟨sB,c,iB,b1,b2,b3,b4,b5⟩:=Ei hP N (X++sA++[p]) B Y (b+1) (Q++[D]++a) qa (λx L=>hS x (by simp[L])) n5 qa jZ qa;have hcB:((bC.fix nj N).C (X++sA++(p::B++Y),AA X+(h+1),AA R- (h+1),((b+1:Nat):Int),P,Q++[D]++a)).o=AB (iB,(X++sA++[p])++sB++Y,Q++[D]++a++c):=by
   have:AA X+(h+1)=AA (X++sA++[p]):=jZ;rw[eb,this,<-hl2];exact b1
  rw[ab qa,hcB];simp only[qH];have hg:Q++[D]++a++c=Q++D::(a++c):=jV;rw[hg];have hgl:AA (Q++D::(a++c))=AA Q+AA R:=jZ;have hgd:AF (Q++D::(a++c)) (AA Q) qt=D:=by simp[qZ]
  have hst:∀E F:fg,(Q++F::(a++c)).set (AA Q) E=Q++E::(a++c):=λE F=>by
   rw[List.set_append_right _ _ (wg _)];simp
  rw[ab qa,ab qa,ab (by rw[wc];omega),ab (by rw[wc];omega),hgd,hst];obtain⟨F,K⟩:∃F:fg,F=⟨p,((b % J:Nat):Int),iA,iB⟩:=⟨_,rfl⟩;have G:F.Xu=p:=by rw[K]
  have z:F.XN=((b % J:Nat):Int):=by rw[K]
  have hFl:F.XT=iA:=by rw[K]
  have hFh:F.XR=iB:=by rw[K]
  refine⟨sA++p::sB,F::(a++c),(AA Q:Int),?_,?_,jZ,?_,?_⟩
  ·rw[hst,hD,K];have hq:∀E:fg,AF (Q++E::(a++c)) (AA Q) qt=E:=λE=>by simp[qZ]
   simp only[hq,wE,List.cons_append,x8]
  {refine List.Perm.trans ?_ M;rw[f];exact a2.append (b2.cons p)};{refine List.Perm.trans ?_ M;rw[f];simp only[wY,List.map_append,K];exact(List.Perm.cons p (a4.append b4)).trans x9.symm};have d:nd (Q++F::(a++c)) (AA Q)=F:=by simp[nd,qZ]
  have O:∀j,AA Q<j->nd (Q++[D]++a++c) j=nd (Q++F::(a++c)) j:=λj hj=>by
   rw[hg,rh qa,rh qa];obtain⟨t,ht⟩:∃t,j-AA Q=t+1:=⟨j-AA Q-1,qa⟩;rw[ht];rfl
  have hpA:∀j,AA Q+1<=j->j<AA Q+1+h->(nd (Q++F::(a++c)) j).Xu∈A:=λj m w=>by
   rw[rh qa];obtain⟨t,ht⟩:∃t,j-AA Q=t+1:=⟨j-AA Q-1,qa⟩;have:nd (F::(a++c)) (t+1)=nd a t:=by
    show nd (a++c) t=_;exact P5 qa
   rw[ht,this];exact a4.mem_iff.1 (Uf qa)
  have hpB:∀j,AA Q+1+h<=j->j<AA Q+AA R->(nd (Q++F::(a++c)) j).Xu∈B:=λj m w=>by
   rw[rh qa];obtain⟨t,ht⟩:∃t,j-AA Q=t+1:=⟨j-AA Q-1,qa⟩;have:nd (F::(a++c)) (t+1)=nd c (t-AA a):=by
    show nd (a++c) t=_;exact rh qa
   rw[ht,this];exact b4.mem_iff.1 (Uf qa)
  have tot:∀x y,x≠y->ltK P ((b % J:Nat):Int) y x=false->ltK P ((b % J:Nat):Int) x y=true:=λx y hxy hf=>by
   rw[ltK_not]at hf;rw[ltK_iff];omega
  have U:AA (Q++[D])=AA Q+1:=jV;have I:AA (Q++[D]++a)=AA Q+1+h:=jZ;refine .node (AA Q) (AA Q+1+h) _ (by rw[wW,qx];omega) ?_ ?_ ?_ ?_ (λj m w=>?_) (λj m w=>?_)
  ·rw[d,hFl];rw[U]at a5;rw[show AA A=h from H]at a5;refine a5.congr jZ λj m w=>?_
   rw[<-O j qa,P5 (Q:=Q++[D]++a) qa]
  ·rw[d,hFh];rw[I]at b5;have:AA Q+1+h+AA B=AA Q+AA R:=qa;rw[this]at b5;exact b5.congr jZ λj m w=>O j qa
  {rw[d,z];omega};{rw[d,G];exact hS p jV};{rw[d,z,G];have Z:=hpA j m w;exact tot _ _ (λe=>n3 _ Z p (za ..) e) (w3 _ Z p (za ..))};rw[d,z,G];have Z:=hpB j m w;exact tot _ _ (λe=>n4 (by rw[show p=_ from e];exact Z)) (w4 _ Z)
theorem Ms (n:Nat):(cE (xU n)).Nodup:=by refine List.Pairwise.map _ (λa b h=>?_) (List.nodup_range (n:=n));simp only[ne_eq];omega
theorem agA {P:A8}{J:Nat}(hP:PtsOk P J):∃Q i,(M6 P).o=AB Q/\(AA Q)=AA P/\(Q.map (·.Xu)).Perm (cE (xU (AA P)))/\KD P J Q i 0 (AA P):=by
 show ∃Q i,(JJ P).run NN=AB Q/\_;have D:=hP.1;simp only[JJ,qj,Q1 hP,qH,qI,qd,qE,w9];rw[ab qa];have key:∀k:A7->Option An,andK (iter (λx:A7×Int=>bif qu (x.2<((AA P:Nat):Int))then grd (0<=x.2/\x.2<((AA x.1:Nat):Int)) (grd ((x.2).toNat<AA x.1/\0<=(x.2).toNat) (AB (aA.next (x.1.set (x.2).toNat x.2,AG qs (x.2+1)))))else AB (aA.out x.1)) NN (qr (AA P) (0:Int),0)) k=k (cE (xU (AA P))):=λk=>by
  refine oM _ (λm (y:A7×Int)=>∃j:Nat,y.2=(j:Int)/\j+m=AA P/\(AA y.1)=AA P/\∀t,t<j->AF y.1 t qt=(t:Int)) (AA P) ⟨0,rfl,qa,jV,λt a=>qa⟩ qa ?_;rintro m ⟨z,y⟩ ⟨j,e,g,d,a⟩;simp only at e d a⊢;subst e;cases m with
  |zero=>
   rw[ai qa];refine .inr ?_;have:z=cE (xU (AA P)):=kX (by simp[d]) λi E=>by
    rw[a i qa,ad2 jZ];simp[qZ,List.getElem?_range (show i<AA P from qa)]
   rw[this]
  |succ m=>
   rw[ah qa,ab qa,qE,ab qa,wn qa];refine .inl ⟨_,m,rfl,wB m,j+1,rfl,qa,by simp only[wc];exact d,λt h=>?_⟩;simp only;rw[od qa];split;{omega};exact a t qa
 rw[key];have hl:(cE (xU (AA P))).length=AA P:=jV;obtain⟨s,b,i,A,F,G,B,C⟩:=Ei hP NN [] (cE (xU (AA P))) [] 0 [] (by rw[hl];show _<4294967296;omega) (λx w=>by
  obtain⟨t,a,rfl⟩:=xi.1 w;have:=xA.1 a;unfold InP;omega) (Ms _) qa (by rw[hl];simp;omega) qa
 have f:(Wh (cE (xU (AA P))) 0 (cE (xU (AA P))).length 0 P nl).o=AB (i,[]++s++[],[]++b):=by
  rw[<-A];simp[nl];rfl
 rw[f];refine⟨b,i,rfl,qa,B,?_⟩;simpa[hl]using C
def Pa (Q:An)(p c:Nat):Prop:=(nd Q p).XT=(c:Int)\/(nd Q p).XR=(c:Int)
section
variable {P:A8} {J:Nat} {Q:An}
theorem KD.root {i:Int}{b e:Nat}(h:KD P J Q i b e):(i= -1/\b=e)\/(i=(b:Int)/\b<e):=by
 cases h with
 |nil b=>exact .inl ⟨rfl,rfl⟩
 |node b m e g a d f hp j k=>exact .inr ⟨rfl,by have:=a.le;have:=d.le;omega⟩
theorem KD.child {i:Int}{b e:Nat}(h:KD P J Q i b e):∀p,b<=p->p<e->((nd Q p).XT= -1\/((p:Int)<(nd Q p).XT/\(nd Q p).XT<(e:Int)))/\((nd Q p).XR= -1\/((p:Int)<(nd Q p).XR/\(nd Q p).XR<(e:Int))):=by
 induction h with
 |nil b=>intro p a d;omega
 |node b m e s a d o hp x y j k=>
  intro p g f;have t:=a.le;have w:=d.le;have z:=a.root;have A:=d.root;by_cases c:p=b;{subst c;omega};by_cases c2:p<m;{have:=j p qa c2;omega};exact k p qa f
theorem KD.parent {i:Int}{b e:Nat}(h:KD P J Q i b e):∀c,b<c->c<e->∃p,b<=p/\p<c/\Pa Q p c:=by
 induction h with
 |nil b=>intro c a d;omega
 |node b m e y a d x hp B C s t=>
  intro c o f;have z:=a.le;have A:=d.le;have D:=a.root;have E:=d.root;by_cases k:c<m
  ·by_cases c2:c=b+1;{exact⟨b,wg _,qa,.inl qa⟩};obtain⟨p,w,g,j⟩:=s c qa k;exact⟨p,qa,g,j⟩
  by_cases c2:c=m;{exact⟨b,wg _,qa,.inr qa⟩};obtain⟨p,w,g,j⟩:=t c qa f;exact⟨p,qa,g,j⟩
theorem KD.single {i:Int}{b e:Nat}(h:KD P J Q i b e):∀p q c,b<=p->p<e->b<=q->q<e->Pa Q p c->Pa Q q c->p=q:=by
 induction h with
 |nil b=>intro p q c k o;omega
 |node b m e C k o B hp F G z A=>
  intro p q c g a s t hp hq;have D:=k.le;have E:=o.le;have H:=k.root;have I:=o.root;have j:∀p,b<=p->p<e->Pa Q p c->(p=b/\(c=b+1/\b+1<m\/c=m/\m<e))\/((b+1<=p/\p<m)/\b+1<c/\c<m)\/((m<=p/\p<e)/\m<c/\c<e):=λp g a hp=>by
   unfold Pa at hp;by_cases y:p=b;{subst y;exact .inl ⟨rfl,qa⟩};by_cases c2:p<m;{have:=k.child p qa c2;exact .inr (.inl ⟨⟨qa,c2⟩,qa⟩)};have:=o.child p qa a;exact .inr (.inr ⟨⟨qa,a⟩,qa⟩)
  rcases j p g a hp with⟨d,w⟩|⟨d,w⟩|⟨d,w⟩<;>rcases j q s t hq with⟨f,x⟩|⟨f,x⟩|⟨f,x⟩<;>first|omega|exact z p q c d.1 d.2 f.1 f.2 hp hq|exact A p q c d.1 d.2 f.1 f.2 hp hq
theorem KD.lowHigh {i:Int}{b e:Nat}(h:KD P J Q i b e):∀p,b<=p->p<e->(nd Q p).XT=(nd Q p).XR->(nd Q p).XT= -1:=by
 induction h with
 |nil b=>intro p a f;omega
 |node b m e t a f s hp x y k o=>
  intro p j d g;have w:=a.le;have z:=a.root;have A:=f.root;by_cases c:p=b;{subst c;omega};by_cases c2:p<m;{exact k p qa c2 g};exact o p qa d g
theorem KD.sub {i:Int}{b e:Nat}(h:KD P J Q i b e):∀p,b<=p->p<e->∃a,KD P J Q (p:Int) p a/\a<=e:=by
 induction h with
 |nil b=>intro p g d;omega
 |node b m e k g d j hp x y s t=>
  intro p o f;have A:=d.le;by_cases c:p=b;{subst c;exact⟨e,.node p m e k g d j hp x y,wg _⟩};by_cases c2:p<m;{obtain⟨a,w,z⟩:=s p qa c2;exact⟨a,w,qa⟩};exact t p qa f
theorem KD.data {i:Int}{b e:Nat}(h:KD P J Q i b e):∀p,b<=p->p<e->p<AA Q/\(0<=(nd Q p).XN/\(nd Q p).XN<(J:Int))/\InP P (nd Q p).Xu:=by
 induction h with
 |nil b=>intro p d f;omega
 |node b m e j d f g hp t w o s=>
  intro p k a;by_cases c:p=b;{subst c;exact⟨j,g,hp⟩};by_cases c2:p<m;{exact o p qa c2};exact s p qa a
theorem KD.inv {b e:Nat}(h:KD P J Q (b:Int) b e):∃m,KD P J Q (nd Q b).XT (b+1) m/\KD P J Q (nd Q b).XR m e/\(∀j,b+1<=j->j<m->ltK P (nd Q b).XN (nd Q j).Xu (nd Q b).Xu=AD)/\∀j,m<=j->j<e->ltK P (nd Q b).XN (nd Q b).Xu (nd Q j).Xu=true:=by
 generalize s:(b:Int)=i at h;cases h with
 |nil b=>omega
 |node b m e o a d k hp f g=>exact⟨m,a,d,f,g⟩
theorem KD.det {i:Int}{b e:Nat}(h:KD P J Q i b e):∀a,KD P J Q i b a->e=a:=by
 induction h with
 |nil b=>
  intro a h;have:=h.root;omega
 |node b m e w o s t hp x y d f=>
  intro a h;obtain⟨k,g,j,-,-⟩:=h.inv;have:=d k g;subst this;exact f a j
end
section
variable {P:A8} {J:Nat} {Q:An}
def P2 (Q:An)(j t p c:Nat):Prop:=(p<j/\Pa Q p c)\/(p=j/\((1<=t/\(nd Q j).XT=(c:Int))\/(2<=t/\(nd Q j).XR=(c:Int))))
def AbAt (Q:An)(j t c:Nat)(v:Int):Prop:=(v= -1/\∀p,¬P2 Q j t p c)\/∃p,P2 Q j t p c/\v=(p:Int)
theorem AbAt.congr {j t e f c:Nat}{v:Int}(h:AbAt Q j t c v)(g:∀p,P2 Q j t p c↔P2 Q e f p c):AbAt Q e f c v:=by rcases h with⟨b,a⟩|⟨p,b,a⟩;{exact .inl ⟨b,λp d=>a p ((g p).2 d)⟩};exact .inr ⟨p,(g p).1 b,a⟩
structure KDw (P:A8) (J:Nat) (Q:An):Prop where
 len:AA Q=AA P
 kd:∃i,KD P J Q i 0 (AA P)
 inj:∀p q,p<AA P->q<AA P->(nd Q p).Xu=(nd Q q).Xu->p=q
theorem adQ (hP:PtsOk P J)(h:KDw P J Q):∃A,(Ih P Q).o=AB (A,AD)/\(AA A)=AA P/\∀c,c<AA P->(c=0/\AF A c qt= -1)\/∃p,p<c/\Pa Q p c/\AF A c qt=(p:Int):=by
 obtain⟨hl,⟨i0,V⟩,O⟩:=h;have hn:=hP.1;have kch:=V.child;have kpa:=V.parent;have ksi:=V.single;have klh:=V.lowHigh;have kda:=V.data;suffices hs:∃r,(Ih P Q).o=AB r/\(r.2=AD/\(AA r.1)=AA P/\∀c,c<AA P->AbAt Q (AA P) 0 c (AF r.1 c qt)) by
  obtain⟨⟨A,b⟩,k,i,h3,h4⟩:=hs;simp only at i h3 h4;subst i;refine⟨A,k,h3,λc B=>?_⟩;rcases h4 c B with⟨C,F⟩|⟨p,C,F⟩
  ·by_cases c0:c=0;{omega};obtain⟨p,p1,p2,p3⟩:=kpa c qa B;exact absurd (.inl ⟨qa,p3⟩) (F p)
  rcases C with⟨q1,q2⟩|⟨rfl,q⟩;{have:=kch p qa q1;unfold Pa at q2;exact .inr ⟨p,qa,q2,F⟩};omega
 show ∃r,(Ii P Q).run NN=AB r/\_;simp only[Ii,qj,qE,w9];rw[ab qa,hl]
 refine bU (P:=λr:A7×Bool=>r.2=AD/\(AA r.1)=AA P/\∀c,c<AA P->AbAt Q (AA P) 0 c (AF r.1 c qt)) (λm (y:A7×Int)=>∃j:Nat,y.2=(j:Int)/\j+m=AA P/\(AA y.1)=AA P/\∀t,t<j->AF y.1 t qt= -1)
  (λz:A7=>AA z=AA P/\∀t,t<AA P->AF z t qt= -1) (AA P) ⟨0,rfl,qa,jV,λt I=>qa⟩ qa ?_ ?_
 ·rintro m ⟨z,y⟩ ⟨j,R,hjm,D,I⟩;simp only at R D I⊢;subst R;cases m with
  |zero=>
   rw[ai qa];exact .inr (.inl ⟨_,rfl,D,λt h=>I t qa⟩)
  |succ m=>
   rw[ah qa,ab qa,qE,ab qa,wn qa];refine .inl ⟨_,m,rfl,wB m,j+1,rfl,qa,by simp only[wc];exact D,λt h=>?_⟩;simp only;rw[od qa];split;{rfl};exact I t qa
 rintro A0 ⟨hA0,g⟩;rw[ab qa]
 refine bU (P:=λr:A7×Bool=>r.2=AD/\(AA r.1)=AA P/\∀c,c<AA P->AbAt Q (AA P) 0 c (AF r.1 c qt))
  (λm (y:A7×List Bool×Int)=>∃j:Nat,y.2.2=(j:Int)/\j+m=AA P/\(AA y.1)=AA P/\(AA y.2.1)=AA P/\(∀c,c<AA P->AbAt Q j 0 c (AF y.1 c qt))/\∀x,x<AA P->AF y.2.1 x qt=true->∃t,t<j/\(nd Q t).Xu=(x:Int))
  (λz:A7=>AA z=AA P/\∀c,c<AA P->AbAt Q (AA P) 0 c (AF z c qt)) (AA P)
  ⟨0,rfl,qa,hA0,jV,λc B=>.inl ⟨g c B,λp hp=>by unfold P2 at hp;omega⟩,λx hx E=>by simp[qZ,hx]at E⟩ qa ?_ (λz D=>⟨_,rfl,rfl,D⟩)
 rintro m ⟨A,U,y⟩ ⟨j,R,hjm,hA,hU,G,H⟩;simp only at R hA hU G H⊢;subst R;cases m with
 |zero=>
  obtain rfl:j=AA P:=qa;rw[ai qa];exact .inr (.inl ⟨_,rfl,hA,G⟩)
 |succ m=>
  have f:j<AA P:=qa;obtain⟨-,hax,X⟩:=kda j qa f;have hch:=kch j qa f;have hpl:=(hP.2.2 _ (aM (show 0<AA P from qa))).1;have z0:(0:Int).toNat=0:=rfl;have hnd:AF Q j qt=nd Q j:=rfl;have hu0:AF U (nd Q j).Xu.toNat qt=false:=by
   cases E:AF U (nd Q j).Xu.toNat qt with
   |false=>rfl
   |true=>
    unfold InP at X;obtain⟨t,t1,t2⟩:=H _ qa E;have:=O t j qa f qa;omega
  simp only[qE,hnd,z0,hpl];have Y:=X;unfold InP at Y;rw[ah qa,ab qa,ai qa,ai qa,ab qa,ab qa,hu0,ag];simp only[qd];rw[ab qa,ab qa,ai qa,ab qa,qh (p:=(nd Q j).XN>=(J:Int)) qa,ag];simp only[qd];suffices hi:∃s,_=AB s/\(∃A':A7,s=aA.next (A',U.set (nd Q j).Xu.toNat AD,((j+1:Nat):Int))/\(AA A')=AA P/\∀c,c<AA P->AbAt Q (j+1) 0 c (AF A' c qt)) by
   obtain⟨s,e,A',rfl,C,F⟩:=hi;refine .inl ⟨_,m,e,wB m,j+1,rfl,qa,C,by simp only[wc];exact hU,F,λx hx E=>?_⟩;simp only at E;rw[od qa]at E;split at E;{exact⟨j,qa,qa⟩};obtain⟨t,t1,t2⟩:=H x hx E;exact⟨t,qa,t2⟩
  have e2:(AA ([(nd Q j).XT,(nd Q j).XR]:A7):Int)=2:=rfl;simp only[e2];refine bU (λm (y:A7×Int)=>∃t:Nat,y.2=(t:Int)/\t+m=2/\(AA y.1)=AA P/\∀c,c<AA P->AbAt Q j t c (AF y.1 c qt)) (λz:A7=>AA z=AA P/\∀c,c<AA P->AbAt Q j 2 c (AF z c qt)) 2 ⟨0,rfl,qa,hA,G⟩ qa ?_ ?_
  ·rintro m ⟨A1,y⟩ ⟨t,I,htm,g,a⟩;simp only at I g a⊢;subst I;cases m with
   |zero=>
    obtain rfl:t=2:=qa;rw[ai qa];exact .inr (.inl ⟨_,rfl,g,a⟩)
   |succ m=>
    obtain⟨z,D⟩:∃z,z=AF ([(nd Q j).XT,(nd Q j).XR]:A7) t qt:=⟨_,rfl⟩;have hzc:(t=0/\z=(nd Q j).XT)\/(t=1/\z=(nd Q j).XR):=by
     have:t=0\/t=1:=qa;rcases this with rfl|rfl;{exact .inl ⟨rfl,D⟩};exact .inr ⟨rfl,D⟩
    simp only[qE,<-D];rw[ah qa,ab qa,ab (by simp only[qx,qz];omega),wn qa];by_cases Z:z= -1
    ·rw[cN Z,ag];refine .inl ⟨_,m,rfl,wB m,t+1,rfl,qa,g,λc B=>(a c B).congr λp=>?_⟩;unfold P2;constructor
     ·rintro(h|⟨k,i⟩);{exact .inl h};exact .inr ⟨k,qa⟩
     rintro(h|⟨k,i⟩);{exact .inl h};exact .inr ⟨k,qa⟩
    have hzr:(j:Int)<z/\z<(AA P:Int):=qa;obtain⟨c,B⟩:∃c:Nat,z=(c:Int):=⟨z.toNat,qa⟩;have hpc:Pa Q j c:=by unfold Pa;omega
    have hlh:=klh j qa f;have hno:∀p,¬P2 Q j t p c:=λp hp=>by
     rcases hp with⟨p1,p2⟩|⟨p1,p2⟩;{have:=ksi p j c qa qa qa f p2 hpc;omega};have:(nd Q j).XT=(nd Q j).XR:=qa;have:=hlh this;omega
    have hac:AF A1 c qt= -1:=by
     rcases a c (qa)with⟨C,-⟩|⟨p,C,-⟩;{exact C};exact absurd C (hno p)
    rw[cr Z,ai qa,ai qa,ab qa,B,qE,ab qa,hac,ag];have hb:((-1:Int) != -1)=false:=rfl;rw[hb];simp only[qd];rw[ab qa,ab qa,ag];refine .inl ⟨_,m,rfl,wB m,t+1,rfl,qa,by simp only[wc];exact g,λd hd=>?_⟩;simp only;rw[od qa];by_cases N:c=d;{subst N;rw[qc rfl];exact .inr ⟨j,.inr ⟨rfl,qa⟩,rfl⟩};rw[qb N];refine(a d hd).congr λp=>?_
    unfold P2;constructor
    ·rintro(h|⟨k,i⟩);{exact .inl h};exact .inr ⟨k,qa⟩
    rintro(h|⟨k,i⟩);{exact .inl h};exact .inr ⟨k,qa⟩
  rintro K ⟨L,M⟩;have w:∀c,c<AA P->AbAt Q (j+1) 0 c (AF K c qt):=λc B=>(M c B).congr λp=>by
   unfold P2 Pa;constructor
   ·rintro(⟨k,i⟩|⟨rfl,i⟩);{exact .inl ⟨qa,i⟩};exact .inl ⟨qa,qa⟩
   rintro(⟨k,i⟩|⟨k,i⟩)
   ·by_cases e:p=j;{subst e;exact .inr ⟨rfl,qa⟩};exact .inl ⟨qa,i⟩
   omega
  by_cases h0:0<j
  ·have hne:AF K j qt≠ -1:=by
    obtain⟨p,p1,p2,p3⟩:=kpa j h0 f;rcases w j f with⟨C,F⟩|⟨p',C,F⟩;{exact absurd (.inl ⟨qa,p3⟩) (F p)};omega
   have hb:(AF K j qt== -1)=false:=by simpa using hne
   rw[ah qa,ab qa,ab qa,hb,ag];rw[wn qa];exact⟨_,rfl,K,rfl,L,w⟩
  rw[ai qa,ag];rw[wn qa];exact⟨_,rfl,K,rfl,L,w⟩
theorem acB (L:PtsOk P J)(h:KDw P J Q){A:A7}(hA:AA A=AA P)(E:∀c,c<AA P->(c=0/\AF A c qt= -1)\/∃p,p<c/\Pa Q p c/\AF A c qt=(p:Int)):(Wj P Q A).o=AB true:=by
 obtain⟨hl,⟨i0,O⟩,K⟩:=h;have hn:=L.1;have n:=O.sub;have k:=O.data;show(Ig P Q A).run NN=_;simp only[Ig,qj];rw[hl];refine(aR (λ_=>none) (AA P) qa (λj w=>?_) jW).trans ?_
 ·rw[ah qa,ab qa,ab qa,qE,wn qa];obtain⟨-,-,f⟩:=k j qa w;have g:∀x,AF Q x qt=nd Q x:=λ_=>rfl
  obtain⟨V,M,-⟩:=n j qa w;have G:andK (iter (λx:Int×Int=>bif x.2 != -1 then grd (0<=x.2/\x.2<(AA P:Int)) (grd (0<=x.2/\x.2<(AA P:Int)) ((uk P (AF Q x.2.toNat qt).XN (AF Q j qt).Xu (AF Q x.2.toNat qt).Xu).o.bind λy=>grd (0<=x.2/\x.2<(AA P:Int)) (bif !(qu (y<0)==(x.1==(AF Q x.2.toNat qt).XT))then AB (aA.fin (aA.fin AE))else grd (0<=x.2/\x.2<(AA A:Int)) (AB (aA.next (x.2,AF A x.2.toNat qt))))))else AB (aA.out U0.u)) NN ((j:Int),AF A j qt)) (λ_=>AB (aA.next ((j+1:Nat):Int)))=(AB (aA.next ((j+1:Nat):Int)):Option (aA Int U0 Bool)):=by
   refine oM U0.u (λm (y:Int×Int)=>∃c e:Nat,y.1=(c:Int)/\y.2=AF A c qt/\c<=m/\c<AA P/\KD P J Q (c:Int) c e/\c<=j/\j<e) j ⟨j,V,rfl,rfl,wg _,w,M,wg _,by have:=M.root;omega⟩ qa ?_;rintro m ⟨y1,y2⟩ ⟨c,e,s,C,q,F,R,Z,hje⟩;subst s;subst C;rcases E c F with⟨-,X⟩|⟨p,p1,p2,p3⟩
   {rw[X,aS rfl];exact .inr rfl};obtain⟨-,D,i⟩:=k p qa qa;obtain⟨r,I,-⟩:=n p qa qa;obtain⟨z,S,z2⟩:=Tv L D f i;obtain⟨t,H,N,o1,o2⟩:=I.inv;have r1:=H.root;have r2:=N.root;rw[p3,bS qa,ab qa,ab qa,qE,g,g,S];simp only[qH];rw[ab qa,z2];have a:(!(ltK P (nd Q p).XN (nd Q j).Xu (nd Q p).Xu==((c:Int)==(nd Q p).XT)))=AE/\j<r:=by
    unfold Pa at p2;by_cases b:(nd Q p).XT=(c:Int)
    ·have v:c=p+1:=qa;have:KD P J Q (c:Int) c t:=by rw[<-b,v];exact H
     have:=R.det t this;have B:=o1 j qa qa;rw[B,b];exact⟨jV,qa⟩
    have d:(nd Q p).XR=(c:Int):=qa;have q:c=t:=qa;have:KD P J Q (c:Int) c r:=by rw[<-d,q];exact N
    have:=R.det r this;have B:=o2 j qa qa;have U:ltK P (nd Q p).XN (nd Q j).Xu (nd Q p).Xu=false:=by
     rw[ltK_iff]at B;rw[ltK_not];omega
    have Y:((c:Int)==(nd Q p).XT)=false:=by
     simp only[beq_eq_false_iff_ne,ne_eq];omega
    rw[U,Y];exact⟨rfl,qa⟩
   rw[a.1];rw[ab qa];exact .inl ⟨_,p,rfl,qa,p,r,rfl,rfl,wg _,qa,I,qa,a.2⟩
  exact G
 rw[(dp _ _).2 (λ_ _ _=>rfl)]
theorem agl (a:PtsOk P J)(h:KDw P J Q):(M7 P Q).o=AB true:=by
 obtain⟨A,b,d,e⟩:=adQ a h;show(JK P Q).run NN=_;simp only[JK,qj,Q1 a,b,qH,qI,qd];have c:((AA Q:Int) !=(AA P:Int))=false:=by simp[h.len]
 grind[ag,acB]
end
def dv (a:A7)(x:Int):Int:=AF a x.toNat qt
def gtD (a:A7)(x y:Int):Bool:=qu (dv a x>dv a y\/(dv a x=dv a y/\x>y))
theorem gtD_iff {a:A7}{x y:Int}:gtD a x y=AD↔dv a x>dv a y\/(dv a x=dv a y/\x>y):=by grind[gtD]
def Wo (a:A7)(x y:Int):Prop:=dv a x>dv a y\/(dv a x=dv a y/\x>y)
def InD (a h:A7):Prop:=∀x∈h,0<=x/\x<(AA a:Int)
abbrev gd (h:A7)(i:Nat):Int:=AF h i qt
def sw2 (h:A7)(i j:Nat):A7:=(h.set i (gd h j)).set j (gd h i)
theorem ahR (h:A7)(i j:Nat):AA (sw2 h i j)=AA h:=by simp[sw2]
theorem Fw {h:A7}{i j:Nat}(b:i<AA h)(a:j<AA h)(k:Nat):gd (sw2 h i j) k=if j=k then gd h i else if i=k then gd h j else gd h k:=by grind[sw2]
theorem E2 {h:A7}{i j:Nat}(b:i<AA h)(a:j<AA h):(sw2 h i j).Perm h:=by grind[sw2]
theorem InD.perm {e h a:A7}(d:InD e h)(b:a.Perm h):InD e a:=λx c=>d x (b.mem_iff.1 c)
theorem FK {s h:A7}(c:InD s h){i j:Nat}(e:i<AA h)(d:j<AA h):(pw h s (i:Int) (j:Int)).o=AB (gtD s (gd h i) (gd h j),h,s):=by
 have l:=c _ (aM e);have k:=c _ (aM d);show(JO h s (i:Int) (j:Int)).run NN=_;simp only[JO,qj,qE];have m:∀a b:Int,0<=a/\a<(AA s:Int)->0<=b/\b<(AA s:Int)->(V6 a b s).o=AB (gtD s a b,s):=λa b g n=>by
  show(HK a b s).run NN=_;simp only[HK,qj];have f:(fI a b).o=AB (cmpI' a b):=cmpI a b;rw[ab qa,ab qa,ab qa,ab qa,TU,f];simp only[qH];rw[TV];simp only[qH];congr 2;grind[gtD_iff,cmpI',dv]
 grind[ab]
theorem FW {d h:A7}{i j:Nat}(b:i<AA h)(a:j<AA h):(px h d (i:Int) (j:Int)).o=AB (sw2 h i j,d):=by show(JQ h d (i:Int) (j:Int)).run NN=_;simp only[JQ,qj,qE];rw[ab qa,ab qa,ab qa,ab qa,ab qa,ab qa,ab jW,ab jW];rfl
theorem oX (h a:A7):(nw h a).o=AB ((AA h:Int),h,a):=rfl
def HP (a h:A7)(n:Nat):Prop:=∀k,0<k->k<n->¬Wo a (gd h k) (gd h ((k-1) / 2))
theorem up_x {U h:A7}(F:InD U h)(Q:AA h<=100000){j:Nat}(M:j<AA h)(G:∀k,0<k->k<AA h->k≠j->¬Wo U (gd h k) (gd h ((k-1) / 2)))
 (I:∀k,0<k->k<AA h->(k-1) / 2=j->0<j->¬Wo U (gd h k) (gd h ((j-1) / 2))):∃t,(HW h U (j:Int)).o=AB (t,U)/\t.Perm h/\HP U t (AA h):=by
 suffices R:∃r,(HW h U (j:Int)).o=AB r/\(r.2=U/\r.1.Perm h/\HP U r.1 (AA h)) by
  grind
 show ∃r,(HX h U (j:Int)).run NN=AB r/\_;simp only[HX,qj]
 refine bU (P:=λr:A7×A7=>r.2=U/\r.1.Perm h/\HP U r.1 (AA h)) (x:=(h,U,(j:Int)))
  (λm (y:A7×A7×Int)=>∃j:Nat,y.2.1=U/\y.2.2=(j:Int)/\j<=m/\j<AA h/\y.1.Perm h/\(∀k,0<k->k<AA h->k≠j->¬Wo U (gd y.1 k) (gd y.1 ((k-1) / 2)))/\∀k,0<k->k<AA h->(k-1) / 2=j->0<j->¬Wo U (gd y.1 k) (gd y.1 ((j-1) / 2)))
  (λz:A7×A7=>z.2=U/\z.1.Perm h/\HP U z.1 (AA h)) j ⟨j,rfl,rfl,wg _,M,List.Perm.refl _,G,I⟩ qa ?_ (λz K=>⟨_,rfl,K⟩)
 rintro m ⟨g,S,y⟩ ⟨j,p,D,L,O,l,f,E⟩;simp only at p D l f E⊢;rw[p];subst D;have N:=l.length_eq;have v:=F.perm l;by_cases u:j=0;{subst u;exact .inr (.inl ⟨_,rfl,rfl,l,λk b a=>f k b a qa⟩)};have H:AG qs ((AG qs ((j:Int)-1)).tdiv 2)=(((j-1) / 2:Nat):Int):=by
  rw[wprd qa qa,Int.tdiv_eq_ediv_of_nonneg qa,w64 qa qa];omega
 rw[H,cr qa,FK v qa qa];simp only[qH,ag];cases e:gtD U (gd g j) (gd g ((j-1) / 2))with
 |false=>
  refine .inr (.inl ⟨_,rfl,rfl,l,λk b a=>?_⟩);by_cases n:k=j;{subst n;intro C;rw[gtD_iff.2 C]at e;cases e};exact f k b a n
 |true=>
  have C:=gtD_iff.1 e;rw[FW qa qa];have q:=λk=>Fw (h:=g) (i:=(j-1) / 2) (j:=j) qa qa k
  refine .inl ⟨_,(j-1) / 2,rfl,qa,(j-1) / 2,rfl,rfl,wg _,qa,(E2 qa qa).trans l,λk b a d=>?_,λk b a d A=>?_⟩
  ·rw[q,q];by_cases c:j=k;{subst c;rw[qc rfl,qb qa,qc rfl];unfold Wo at *;omega};rw[qb c,qb (Ne.symm d)];have s:=f k b a (Ne.symm c);by_cases B:j=(k-1) / 2;{rw[qc B];exact E k b a B.symm qa};rw[qb B];by_cases w:(j-1) / 2=(k-1) / 2;{rw[qc w];rw[<-w]at s;unfold Wo at *;omega};rw[qb w];exact s
  rw[q,q,qb (show ¬j=((j-1) / 2-1) / 2 from qa),qb (show ¬ (j-1) / 2=((j-1) / 2-1) / 2 from qa)];have J:=f ((j-1) / 2) A qa qa;by_cases c:j=k;{rw[qc c];exact J};rw[qb c,qb qa];have s:=f k b a (Ne.symm c);rw[d]at s;unfold Wo at *;omega
theorem aid {f h:A7}(hd:InD f h)(hl:AA h<=100000){n:Nat}(hn:n<=AA h)(Y:∀k,0<k->k<n->(k-1) / 2≠0->¬Wo f (gd h k) (gd h ((k-1) / 2))):
 ∃b F,(HB h f 0 (n:Int)).o=AB (b,F,f)/\F.Perm h/\(∀k,n<=k->gd F k=gd h k)/\HP f F n:=by
 suffices hs:∃r,(HB h f 0 (n:Int)).o=AB r/\(r.2.2=f/\r.2.1.Perm h/\(∀k,n<=k->gd r.2.1 k=gd h k)/\HP f r.2.1 n) by
  grind
 show ∃r,(HC h f 0 (n:Int)).run NN=AB r/\_;simp only[HC,qj]
 refine bU (P:=λr:Bool×A7×A7=>r.2.2=f/\r.2.1.Perm h/\(∀k,n<=k->gd r.2.1 k=gd h k)/\HP f r.2.1 n) (x:=(h,f,(0:Int)))
  (λm (y:A7×A7×Int)=>∃i:Nat,y.2.1=f/\y.2.2=(i:Int)/\n<=i+m/\i<=200000/\y.1.Perm h/\(∀k,n<=k->gd y.1 k=gd h k)/\(∀k,0<k->k<n->(k-1) / 2≠i->¬Wo f (gd y.1 k) (gd y.1 ((k-1) / 2)))/\∀k,0<k->k<n->(k-1) / 2=i->0<i->¬Wo f (gd y.1 k) (gd y.1 ((i-1) / 2)))
  (λz:A7×A7×Int=>z.2.1=f/\z.1.Perm h/\(∀k,n<=k->gd z.1 k=gd h k)/\HP f z.1 n) n ⟨0,rfl,rfl,qa,qa,List.Perm.refl _,λ_ _=>rfl,Y,λk _ _ _ h=>qa⟩ qa ?_ (λz hz=>⟨_,rfl,hz⟩)
 rintro m ⟨g,d',y⟩ ⟨i,B,M,him,hi2,q,G,w,L⟩;simp only at B M q G w L⊢;rw[B];subst M;have hgl:=q.length_eq;have C:=hd.perm q;have U:AG qs (2 * (i:Int))=((2 * i:Nat):Int):=by grind[w64]
 have V:AG qs (((2 * i:Nat):Int)+1)=((2 * i+1:Nat):Int):=wn qa;have X:AG qs (((2 * i+1:Nat):Int)+1)=((2 * i+2:Nat):Int):=wn qa;simp only[U,V,X];by_cases hin:2 * i+1>=n;{rw[ah qa,ag];exact .inr (.inl ⟨_,rfl,rfl,q,G,λk d a=>w k d a qa⟩)};rw[ai qa,qh qa,ag];simp only[qd];obtain⟨c,H,I,hA,A⟩:∃c:Nat,(c=2 * i+1\/c=2 * i+2)/\c<n/\(bif qu (((2 * i+2:Nat):Int)<(n:Int))then(pw g f ((2 * i+2:Nat):Int) ((2 * i+1:Nat):Int)).o.bind λy=>AB (aA.out (y.2.1,y.2.2,y.1))else AB (aA.out (g,f,AE)):Option (aA Unit (A7×A7×Bool) (aA Unit (A7×A7×Int) (aA (A7×A7×Int) (A7×A7×Int) (Bool×A7×A7)))))=AB (.out (g,f,qu (c=2 * i+2)))/\∀k,0<k->k<n->(k-1) / 2=i->¬Wo f (gd g k) (gd g c):=by
  by_cases Z:2 * i+2<n
  ·rw[ah qa,FK C qa qa];simp only[qH];cases e:gtD f (gd g (2 * i+2)) (gd g (2 * i+1))with
   |true=>
    have D:=gtD_iff.1 e;refine⟨2 * i+2,.inr rfl,Z,by rw[qg rfl],λk N O R=>?_⟩;have:k=2 * i+1\/k=2 * i+2:=qa;rcases this with rfl|rfl<;>(unfold Wo;omega)
   |false=>
    refine⟨2 * i+1,.inl rfl,qa,by rw[qh qa],λk N O R=>?_⟩;have:k=2 * i+1\/k=2 * i+2:=qa;rcases this with rfl|rfl;{unfold Wo;omega};intro D;rw[gtD_iff.2 D]at e;cases e
  rw[ai qa];refine⟨2 * i+1,.inl rfl,qa,by rw[qh qa],λk N O R=>?_⟩;have:k=2 * i+1:=qa;subst this;unfold Wo;omega
 rw[hA,ag];simp only;have hB:(bif qu (c=2 * i+2)then AB (aA.out (g,f,((2 * i+2:Nat):Int)))else AB (aA.out (g,f,((2 * i+1:Nat):Int))):Option (aA Unit (A7×A7×Int) (aA (A7×A7×Int) (A7×A7×Int) (Bool×A7×A7))))=AB (.out (g,f,(c:Int))):=by
  rcases H with rfl|rfl;{rw[qh qa];rfl};rw[qg rfl];rfl
 rw[hB,ag];simp only;rw[FK C qa qa];simp only[qH];cases e:gtD f (gd g c) (gd g i)with
 |false=>
  have hnw:¬Wo f (gd g c) (gd g i):=λD=>by rw[gtD_iff.2 D]at e;cases e
  refine .inr (.inl ⟨_,rfl,rfl,q,G,λk d a=>?_⟩);by_cases l:(k-1) / 2=i;{have:=A k d a l;show ¬Wo f (gd g k) (gd g ((k-1) / 2));rw[l];unfold Wo at *;omega};exact w k d a l
 |true=>
  have D:=gtD_iff.1 e;rw[FW qa qa];have s:=λk=>Fw (h:=g) (i:=i) (j:=c) qa qa k
  refine .inl ⟨_,n-c,rfl,qa,c,rfl,rfl,qa,qa,(E2 qa qa).trans q,λk K=>?_,λk d a p=>?_,λk d a p hk4=>?_⟩;{rw[s,qb qa,qb qa];exact G k K}
  ·rw[s,s,qb (show ¬c=(k-1) / 2 from Ne.symm p)];by_cases E:i=(k-1) / 2
   ·rw[qc E];by_cases t:c=k;{rw[qc t];unfold Wo at *;omega};rw[qb t,qb qa];exact A k d a E.symm
   rw[qb E,qb (show ¬c=k from qa)];by_cases t:i=k;{subst t;rw[qc rfl];exact L c qa I qa qa};rw[qb t];exact w k d a (Ne.symm E)
  rw[s,s,qb (show ¬c=k from qa),qb (show ¬i=k from qa),qb (show ¬c=(c-1) / 2 from qa),qc (show i=(c-1) / 2 from qa)];have:=w k d a qa;rw[p]at this;exact this
theorem HP.top {f h:A7}{n:Nat}(b:HP f h n):∀k,k<n->¬Wo f (gd h k) (gd h 0):=by
 intro k;induction k using Nat.strongRecOn with
 |ind k c=>
  intro a;by_cases e:k=0;{grind[Wo]};have d:=b k qa a;grind[Wo]
theorem aiP {A h:A7}(l:InD A h)(z:AA h<=90000)(m:HP A h (AA h)){x:Int}(u:0<=x/\x<(AA A:Int)):∃a,(Na h A x).o=AB (a,A)/\a.Perm (x::h)/\HP A a (AA h+1):=by
 have i:AA (h++[x])=AA h+1:=jV;have c:InD A (h++[x]):=λy b=>by
  rcases wH.1 b with b|b;{exact l y b};simp_all
 have e:∀k,k<AA h->gd (h++[x]) k=gd h k:=λk w=>jX
 obtain⟨a,s,p,q⟩:=up_x c qa (j:=AA h) qa (λk f g n=>by rw[e k qa,e _ qa];exact m k f qa) (λk f g n r=>qa);have d:(M9 h A x).o=AB (h++[x],A):=by
  show(JP h A x).run NN=_;grind[JP,qj,ab,aF]
 have v:AG qs ((AA (h++[x]):Int)-1)=(AA h:Int):=by grind[Gl]
 have t:(V1 h A x).o=AB (a,A):=by
  show(HA h A x).run NN=_;grind[HA,qj,oX]
 refine⟨a,?_,p.trans (List.perm_append_singleton x h),jW⟩;show(JR h A x).run NN=_;grind[JR,qj]
theorem US {ds h:A7}(w:InD ds h)(I:AA h<=90000)(u:HP ds h (AA h))(c:0<AA h):∃a,(ux h ds).o=AB (gd h 0,a,ds)/\(gd h 0::a).Perm h/\HP ds a (AA a)/\∀x∈h,¬Wo ds x (gd h 0):=by
 have z:(sw2 h 0 (AA h-1)).length=AA h:=ahR ..;have p:(sw2 h 0 (AA h-1)).Perm h:=E2 c qa;have q:=λk=>Fw (h:=h) (i:=0) (j:=AA h-1) c qa k
 obtain⟨b,g,E,A,G,y⟩:=aid (w.perm p) qa (n:=AA h-1) qa (λk m d D=>by
  rw[q,q,qb qa,qb qa,qb qa,qb qa];exact u k m qa)
 have B:=A.length_eq;have J:AG qs ((AA h:Int)-1)=((AA h-1:Nat):Int):=wprd qa qa;have f:AF g (AA h-1) qt=gd h 0:=by
  grind
 have s:(Nx g ds).o=AB (gd h 0,g.take (AA h-1),ds):=by
  show(KF g ds).run NN=_;grind[KF,qj,qE,ab]
 have v:(px h ds 0 ((AA h-1:Nat):Int)).o=AB (sw2 h 0 (AA h-1),ds):=FW (i:=0) c qa;have H:(V4 h ds).o=AB (gd h 0,g.take (AA h-1),ds):=by
  show(HH h ds).run NN=_;simp_all[HH,qj,oX]
 have e:(g.take (AA h-1)).length=AA h-1:=jW;refine⟨g.take (AA h-1),?_,?_,?_,λx C=>?_⟩
 ·show(KG h ds).run NN=_;grind[KG,qj]
 ·have:g=g.take (AA h-1)++[gd h 0]:=by
   have F:=dJ (l:=g) (k:=AA h-1) qa;grind
  grind
 ·rw[e];intro k m d;have r:∀k,k<AA h-1->gd (g.take (AA h-1)) k=gd g k:=λk t=>by grind
  rw[r k d,r _ qa];exact y k m d
 obtain⟨k,t,rfl⟩:=wh C;have:=u.top k t;simp_all
theorem Sr {l:A3}{i:Nat}(h:fU l i=0):(1<=(AF l i qt).XB/\(AF l i qt).XB<=1024)/\ -4194304<=(AF l i qt).Lo/\(AF l i qt).Hi<=4194304:=by unfold fU at h;have a:=lh (AF l i qt).Xp;grind[m6,betV]
def RoV (r:am):Prop:=bF r=0
theorem RoV.w {r:am}(h:RoV r){i:Nat}(a:i<AA r.Xa):1<=(AF r.Xa i qt).XB/\(AF r.Xa i qt).XB<=1024:=(Sr ((cZ h).2.2 i a)).1
def QOk (J:Nat)(q:A7):Prop:=AA q=J/\∀x∈q,-4194304<=x/\x<=4194304
theorem rP {r:am}{c:A7}(h:aI r c=AD):QOk (AA r.Xa) c:=by have a:=gm h;unfold aI at h;simp only[ql,qf]at h;obtain⟨b,g,e⟩:=h;refine⟨a.1,λx d=>?_⟩;obtain⟨i,f,rfl⟩:=wh d;have j:=(Sr ((cZ b).2.2 i qa)).2;grind[noneB_iff,outJ]
theorem Uk {r:am}{P:A8}(b:RoV r)(e:AA P<=1000)(h:∀c∈P,aI r c=AD):PtsOk P (AA r.Xa):=by have:=cZ b;exact⟨e,⟨this.1,this.2.1⟩,λc d=>rP (h c d)⟩
def aB (a b:Int):Int:=max (a-b) (b-a)
def sumR (r:am)(p q:A7):Nat->Int
 |0=>0
 |n+1=>sumR r p q n+(AF r.Xa n qt).XB * aB (AF q n qt) (AF p n qt)
theorem QOk.at {J:Nat}{q:A7}(h:QOk J q)(i:Nat): -4194304<=AF q i qt/\AF q i qt<=4194304:=by by_cases a:i<AA q;{exact h.2 _ (aM a)};simp_all
section
variable {r:am} {p q:A7} (hr:RoV r) (hp:QOk (AA r.Xa) p) (hq:QOk (AA r.Xa) q)
include hr hp hq
theorem mN {n:Nat}(c:n<AA r.Xa):(0<=aB (AF q n qt) (AF p n qt)/\aB (AF q n qt) (AF p n qt)<=8388608)/\aB (AF q n qt) (AF p n qt)<=(AF r.Xa n qt).XB * aB (AF q n qt) (AF p n qt)/\(AF r.Xa n qt).XB * aB (AF q n qt) (AF p n qt)<=8589934592:=by
 have b:=hr.w c;have g:=hp.at n;have e:=hq.at n;have a:0<=aB (AF q n qt) (AF p n qt)/\aB (AF q n qt) (AF p n qt)<=8388608:=by unfold aB;omega
 refine⟨a,?_,?_⟩;{have:=Int.mul_le_mul_of_nonneg_right b.1 a.1;omega};have:=Int.mul_le_mul b.2 a.2 a.1 qa;omega
theorem tq:∀n,n<=AA r.Xa->0<=sumR r p q n/\sumR r p q n<=8589934592 * (n:Int)
 |0,_=>⟨Int.le_refl _,by simp[sumR]⟩
 |n+1,h=>by
  have e:=tq n qa;have d:=mN hr hp hq (show n<AA r.Xa from qa);rw[sumR];omega
theorem Fv:∀n,n<=AA r.Xa->∀t,t<n->(AF r.Xa t qt).XB * aB (AF q t qt) (AF p t qt)<=sumR r p q n
 |0,_,_,h=>qa
 |n+1,h,t,d=>by
  have g:=tq hr hp hq n qa;have f:=mN hr hp hq (show n<AA r.Xa from qa);rw[sumR];by_cases e:t=n;{grind};have:=Fv n qa t qa;omega
theorem ahQ (c:p≠q):0<sumR r p q (AA r.Xa):=by
 refine xC λh=>c ?_
 refine kX (by rw[hp.1,hq.1]) λi j=>?_
 have a:i<AA r.Xa:=by rw[<-hp.1];omega
 have f:=Fv hr hp hq (AA r.Xa) (wg _) i a;have g:=mN hr hp hq a;grind[aB]
theorem TI:∀n,n<=AA r.Xa->sumD r p q n=sumR r p q n
 |0,_=>rfl
 |n+1,h=>by
  have j:=tq hr hp hq n qa;have g:=mN hr hp hq (show n<AA r.Xa from qa);have i:=(cZ hr).2.1;have d:=hp.at n;have f:=hq.at n;rw[sumD,tP,TI n qa,sumR,w64 (x:=AF q n qt-AF p n qt) qa qa,w64 (x:=AF p n qt-AF q n qt) qa qa];have e:max (AF q n qt-AF p n qt) (AF p n qt-AF q n qt)=aB (AF q n qt) (AF p n qt):=rfl;rw[e,w64 (x:=(AF r.Xa n qt).XB * aB (AF q n qt) (AF p n qt)) qa qa,w64 qa qa]
theorem aif:dstV r p q=sumR r p q (AA r.Xa):=by
 have f:badD r p q=false:=by
  unfold badD;have s:∀ {c:A7},QOk (AA r.Xa) c->cQ c=true:=λ{c} b=>by
   refine noneB_iff.2 λi g=>?_
   have:=b.at i;grind[big1]
  rw[qg hp.1,qg hq.1,s hp,s hq,qg (show bF r=0 from hr)];rfl
 grind[dstV,TI]
end
def dI (r:am)(P:A8)(q:A7)(x:Int):Int:=dQ r P q x.toNat
section
variable {r:am} {P:A8} {q:A7} (hr:RoV r) (hP:PtsOk P (AA r.Xa)) (hq:QOk (AA r.Xa) q)
include hr hP hq
theorem tD {x:Int}(a:InP P x):dI r P q x=sumR r (AF P x.toNat qt) q (AA r.Xa):=
 aif hr (hP.2.2 _ (aM (by unfold InP at a;omega))) hq
theorem acj (Q:An){x:Int}(c:InP P x):(MM ⟨r.Xa,P,Q,q⟩ x).o=AB (dI r P q x):=by
 have a:=hP.2.2 _ (aM (show x.toNat<AA P by unfold InP at c;omega));have a:QOk (AA r.Xa) (AF P x.toNat qt):=a;rw[tD hr hP hq c];show(Jh ⟨r.Xa,P,Q,q⟩ x).run NN=_;have l:=(cZ hr).2.1;simp only[Jh,qj];unfold InP at c;rw[ab qa];have i:=a.1;have g:=hq.1;generalize AF P x.toNat qt=p at a i⊢;refine(aW (λj=>(sumR r p q j,(j:Int))) (sumR r p q (AA r.Xa)) (AA r.Xa) rfl (by show _<4294967296;omega) (λj h=>?_) ?_).trans rfl
 ·have k:=tq hr a hq j qa;have n:=mN hr a hq h;have s:=a.at j;have m:=hq.at j;rw[ah qa,ab qa,ab qa,ab qa,qE,w64 (x:=AF q j qt-AF p j qt) qa qa,w64 (x:=0- (AF q j qt-AF p j qt)) qa qa];have e:max (AF q j qt-AF p j qt) (0- (AF q j qt-AF p j qt))=aB (AF q j qt) (AF p j qt):=by unfold aB;omega
  rw[e,w64 (x:=(AF r.Xa j qt).XB * aB (AF q j qt) (AF p j qt)) qa qa,w64 qa qa,wn qa];rfl
 simp_all
end
def LtI (d:Int->Int)(x y:Int):Prop:=d x<d y\/(d x=d y/\x<y)
structure WI (P:A8) (d:Int->Int) (k:Nat) (Z:Int->Prop) (ds h:A7):Prop where
 dl:AA ds=AA P
 nd:h.Nodup
 hz:∀x∈h,Z x
 zp:∀z,Z z->InP P z
 dd:∀x∈h,dv ds x=d x
 hp:HP ds h (AA h)
 lk:AA h<=k
 all:AA h<k->∀z,Z z->z∈h
 best:∀x∈h,∀z,Z z->¬z∈h->LtI d x z
theorem WI.congr {P:A8}{d:Int->Int}{k:Nat}{Z e:Int->Prop}{g h:A7}(w:WI P d k Z g h)(b:∀z,Z z↔e z):WI P d k e g h:=
 ⟨w.dl,w.nd,λx c=>(b x).1 (w.hz x c),λz h=>w.zp z ((b z).2 h),w.dd,w.hp,w.lk,λh z a=>w.all h z ((b z).2 a),λx c z a f=>w.best x c z ((b z).2 a) f⟩
theorem WI.inD {P:A8}{d:Int->Int}{k:Nat}{Z:Int->Prop}{a h:A7}(w:WI P d k Z a h):InD a h:=λx b=>by
 have:=w.zp x (w.hz x b);rw[w.dl];exact this
theorem T2 {d:A7}{x y v:Int}(a:0<=x/\x<(AA d:Int))(b:0<=y):dv (d.set x.toNat v) y=if x=y then v else dv d y:=by grind[dv]
theorem aj5 {P:A8}{d:Int->Int}{k:Nat}{Z:Int->Prop}{ds h:A7}(w:WI P d k Z ds h)(hk1:1<=k)(hk2:k<=2000){x:Int}(hx:InP P x)(hn:¬Z x):
 ∃J h',(HM x (d x) ds h (k:Int)).o=AB (J,h')/\WI P d k (λz=>Z z\/z=x) J h':=by
 have C:¬x∈h:=λV=>hn (w.hz x V)
 have hxd:0<=x/\x<(AA ds:Int):=by rw[w.dl];exact hx
 obtain⟨D,hD⟩:∃D,D=ds.set x.toNat (d x):=⟨_,rfl⟩;have s:AA D=AA ds:=jW;have Q:∀y,0<=y->y≠x->dv D y=dv ds y:=λy a hyx=>by grind[T2]
 have hDx:dv D x=d x:=by grind[T2]
 have H:=w.inD;have E:∀y∈h,dv D y=d y:=λy a=>by
  rw[Q y (H y a).1 (λe=>C jW)];exact w.dd y a
 have n:InD D h:=λy a=>by rw[s];exact H y a
 have U:HP D h (AA h):=λi i1 i2=>by
  have m1:=aM i2;have X:=aM (show(i-1) / 2<AA h from qa);have:=w.hp i i1 i2;unfold Wo at this⊢;rw[E _ m1,E _ X];rw[w.dd _ m1,w.dd _ X]at this;omega
 have hlk:=w.lk;obtain⟨b,p1,g,p3⟩:=aiP n qa U (x:=x) qa;have N:AA b=AA h+1:=by rw[g.length_eq];rfl
 have L:InD D b:=λy a=>by
  rcases wQ.1 (g.mem_iff.1 a)with rfl|a;{omega};exact n y a
 have m:∀y∈b,dv D y=d y:=λy a=>by
  grind
 have v:b.Nodup:=g.nodup_iff.2 (xZ.2 ⟨C,w.nd⟩);have F:∀y∈b,Z y\/y=x:=λy a=>by
  rcases wQ.1 (g.mem_iff.1 a)with rfl|a;{omega};exact .inl (w.hz y a)
 have A:∀z,Z z\/z=x->InP P z:=λz c=>by
  rcases c with c|rfl;{exact w.zp z c};omega
 have O:∀z,¬z∈b->¬z∈h/\z≠x:=λz c=>⟨λj=>c (g.mem_iff.2 (zb _ j)),λj=>c (g.mem_iff.2 jW)⟩
 have e0:(HM x (d x) ds h (k:Int)).o=(HN x (d x) ds h (k:Int)).run NN:=rfl;rw[e0];simp only[HN,qj];rw[ab qa,ab qa,<-hD,p1];simp only[qH,oX];by_cases hgt:AA b>k
 ·obtain⟨M,t1,K,t3,t4⟩:=US L qa (by rw[N];exact p3) qa;rw[ah qa,t1];have hl2:AA M+1=AA b:=by have:=K.length_eq;simpa using this
  have S:(gd b 0::M).Nodup:=K.nodup_iff.2 v;have f:∀y∈M,y∈b:=λy a=>K.mem_iff.1 (zb _ a)
  obtain⟨n1,n2⟩:=xZ.1 S;have p:gd b 0∈b:=K.mem_iff.1 (za ..);have I:∀y∈M,LtI d y (gd b 0):=λy a=>by
   have Y:=t4 y (f y a);have h4:y≠gd b 0:=λe=>n1 (by rw[<-e];exact a)
   unfold Wo at Y;rw[m y (f y a),m _ p]at Y;unfold LtI;omega
  refine⟨D,M,rfl,⟨by rw[s];exact w.dl,n2,λy a=>F y (f y a),A,λy a=>m y (f y a),t3,qa,λj=>qa,λy a z c r=>?_⟩⟩;by_cases u:z=gd b 0;{rw[u];exact I y a};have G:¬z∈b:=λj=>by
   rcases wQ.1 (K.mem_iff.2 j)with j|j;{exact u j};exact r j
  obtain⟨l,t⟩:=O z G;have B:Z z:=c.resolve_right t;rcases wQ.1 (g.mem_iff.1 (f y a))with rfl|W
  ·have R:gd b 0∈h:=by
    rcases wQ.1 (g.mem_iff.1 p)with e|e;{exact absurd (by rw[e];exact a) n1};exact e
   have k1:=w.best _ R z B l;have k2:=I y a;unfold LtI at *;omega
  exact w.best y W z B l
 rw[ai qa];refine⟨D,b,rfl,⟨by rw[s];exact w.dl,v,F,A,m,by rw[N];exact p3,qa,λ_ z c=>?_,λy a z c r=>?_⟩⟩
 ·rcases c with c|rfl;{exact g.mem_iff.2 (zb _ (w.all qa z c))};exact g.mem_iff.2 (za ..)
 obtain⟨l,t⟩:=O z r;exact absurd (w.all qa z (c.resolve_right t)) l
section
variable {r:am} {P:A8} {q:A7} (hr:RoV r) (hP:PtsOk P (AA r.Xa)) (hq:QOk (AA r.Xa) q)
include hr hP hq
theorem T4 {a b x:Int}(j:0<=a/\a<(AA r.Xa:Int))(_:InP P b)(e:InP P x)(l:(AF q a.toNat qt<=vK P a b/\vK P a b<=vK P a x)\/(vK P a x<=vK P a b/\vK P a b<=AF q a.toNat qt)):
 (AF r.Xa a.toNat qt).XB * aB (AF q a.toNat qt) (vK P a b)<=dI r P q x:=by
 have c:=hP.2.2 _ (aM (show x.toNat<AA P by unfold InP at e;omega));rw[tD hr hP hq e];have i:=Fv hr c hq (AA r.Xa) (wg _) a.toNat qa;have k:=hr.w (show a.toNat<AA r.Xa from qa);refine Int.le_trans (Int.mul_le_mul_of_nonneg_left ?_ qa) i;grind[aB,vK]
theorem FY {Q:An}(p:∀a b,a<AA P->b<AA P->(nd Q a).Xu=(nd Q b).Xu->a=b)(hQ:AA Q=AA P){k:Nat}(R:1<=k)(U:k<=2000):∀ (N:Nat) (i:Int) (b e:Nat) (Z:Int->Prop) (Y h:A7),e-b<N->KD P (AA r.Xa) Q i b e->e<=AA P->
 (∀j,b<=j->j<e->¬Z (nd Q j).Xu)->WI P (dI r P q) k Z Y h->
 ∃y h',(bC.fix nq N).o (i,r.Xa,P,Q,q,Y,h,(k:Int))=AB (y,h')/\WI P (dI r P q) k (λz=>Z z\/∃j,b<=j/\j<e/\z=(nd Q j).Xu) y h'
 |0,_,_,_,_,_,_,hN,_,_,_,_=>qa
 |N+1,i,b,e,Z,Y,h,hN,kd,heP,hZ,w=>by
  have ho:(bC.fix nq (N+1)).o (i,r.Xa,P,Q,q,Y,h,(k:Int))=(J8 (bC.fix nq N) i r.Xa P Q q Y h (k:Int)).run NN:=rfl;rw[ho];simp only[J8,qj];rcases kd.root with⟨rfl,rfl⟩|⟨rfl,M⟩
  {rw[cN rfl];exact⟨Y,h,rfl,w.congr λz=>⟨.inl,λh=>h.elim id λ⟨j,n,f,_⟩=>qa⟩⟩};obtain⟨hbQ,hax,s⟩:=kd.data b (wg _) M;obtain⟨m,k1,k2,o1,o2⟩:=kd.inv;have l1:=k1.le;have l2:=k2.le;have hnd:AF Q b qt=nd Q b:=rfl;have hJl:=hP.at s;have hql:=hq.1;rw[cr qa,ab qa];simp only[qE,hnd];rw[acj hr hP hq Q s];simp only[qH];obtain⟨ds1,h1,t1,w1⟩:=aj5 w R U s (hZ b (wg _) M);have hpt':=s;unfold InP at hpt';rw[t1];simp only[qH];rw[ab qa,ab qa,ab qa];obtain⟨v,hv⟩:∃v,v=vK P (nd Q b).XN (nd Q b).Xu:=⟨_,rfl⟩;have X:(AF P (nd Q b).Xu.toNat qt).getD (nd Q b).XN.toNat qt=v:=by rw[hv];rfl
  rw[X];have hqb:=hq.at (nd Q b).XN.toNat;have H:=hP.2.2 _ (aM (show(nd Q b).Xu.toNat<AA P from qa));have H:QOk (AA r.Xa) (AF P (nd Q b).Xu.toNat qt):=H;have hvb:=H.at (nd Q b).XN.toNat;rw[X]at hvb;have hww:=hr.w (show(nd Q b).XN.toNat<AA r.Xa from qa);have eg:AG qs (AF q (nd Q b).XN.toNat qt-v)=AF q (nd Q b).XN.toNat qt-v:=w64 qa qa;have eg2:AG qs (0- (AF q (nd Q b).XN.toNat qt-v))=0- (AF q (nd Q b).XN.toNat qt-v):=w64 qa qa;have emx:max (AF q (nd Q b).XN.toNat qt-v) (0- (AF q (nd Q b).XN.toNat qt-v))=aB (AF q (nd Q b).XN.toNat qt) v:=by unfold aB;omega
  have ewt:AG qs ((AF r.Xa (nd Q b).XN.toNat qt).XB * aB (AF q (nd Q b).XN.toNat qt) v)=(AF r.Xa (nd Q b).XN.toNat qt).XB * aB (AF q (nd Q b).XN.toNat qt) v:=by
   have:=mN hr H hq (show(nd Q b).XN.toNat<AA r.Xa from qa);rw[X]at this;exact w64 qa qa
  simp only[eg,eg2,emx,ewt];have O:∀j,b<j->j<e->InP P (nd Q j).Xu:=λj n f=>(kd.data j qa f).2.2
  obtain⟨iN,F,G,iF,D,E,hA,kN,kF,hrng,hlr,hfar⟩:∃iN F G iF D E,(bif qu (AF q (nd Q b).XN.toNat qt-v>0)then AB (aA.out ((nd Q b).XR,(nd Q b).XT))else AB (aA.out ((nd Q b).XT,(nd Q b).XR)):Option (aA Unit (Int×Int) (A7×A7)))=AB (.out (iN,iF))/\KD P (AA r.Xa) Q iN F G/\KD P (AA r.Xa) Q iF D E/\
   (∀j,(F<=j/\j<G)\/(D<=j/\j<E)↔b+1<=j/\j<e)/\((G<=D\/E<=F)/\(b+1<=F/\G<=e/\F<=G)/\(b+1<=D/\E<=e/\D<=E))/\∀j,D<=j->j<E->(AF r.Xa (nd Q b).XN.toNat qt).XB * aB (AF q (nd Q b).XN.toNat qt) v<=dI r P q (nd Q j).Xu:=by
   by_cases K:AF q (nd Q b).XN.toNat qt-v>0;{refine⟨_,m,e,_,b+1,m,by rw[ah K],k2,k1,λj=>qa,qa,λj n f=>?_⟩;have:=ltK_iff.1 (o1 j n f);rw[hv];exact T4 hr hP hq hax s (O j qa qa) (.inr qa)};refine⟨_,b+1,m,_,m,e,by rw[ai K],k1,k2,λj=>qa,qa,λj n f=>?_⟩;have:=ltK_iff.1 (o2 j n f);rw[hv];exact T4 hr hP hq hax s (O j qa qa) (.inl qa)
  rw[hA,ag];simp only;have B:∀j,b<j->j<e->(nd Q j).Xu≠(nd Q b).Xu:=λj n f L=>by
   have:=p j b qa qa L;omega
  obtain⟨g,d,t2,l⟩:=FY p hQ R U N iN F G (λz=>Z z\/z=(nd Q b).Xu) ds1 h1 qa kN qa (λj n f c=>by
   rcases c with c|c;{exact hZ j qa qa c};exact B j qa qa c) w1
  have hC:((bC.fix nq N).C (iN,r.Xa,P,Q,q,ds1,h1,(k:Int))).o=AB (g,d):=t2;rw[hC];simp only[qH];rw[ab qa];have I:∀z,((Z z\/z=(nd Q b).Xu)\/∃j,F<=j/\j<G/\z=(nd Q j).Xu)\/(∃j,D<=j/\j<E/\z=(nd Q j).Xu)↔Z z\/∃j,b<=j/\j<e/\z=(nd Q j).Xu:=λz=>by
   constructor
   ·rintro(((h|h)|⟨j,n,f,h⟩)|⟨j,n,f,h⟩);{exact .inl h};{exact .inr ⟨b,wg _,M,h⟩};{exact .inr ⟨j,qa,qa,h⟩};exact .inr ⟨j,qa,qa,h⟩
   rintro(h|⟨j,n,f,h⟩);{exact .inl (.inl (.inl h))};by_cases hjb:j=b;{subst hjb;exact .inl (.inl (.inr h))};rcases(hrng j).2 ⟨qa,f⟩with L|L;{exact .inl (.inr ⟨j,L.1,L.2,h⟩)};exact .inr ⟨j,L.1,L.2,h⟩
  have hnz:∀j,D<=j->j<E->¬ ((Z (nd Q j).Xu\/(nd Q j).Xu=(nd Q b).Xu)\/∃j',F<=j'/\j'<G/\(nd Q j).Xu=(nd Q j').Xu):=λj n f c=>by
   rcases c with(c|c)|⟨j',a1,a2,c⟩;{exact hZ j qa qa c};{exact B j qa qa c};have:=p j j' qa qa c;omega
  have e3:(V7 d g (k:Int)).o=(HL d g (k:Int)).run NN:=rfl;rw[e3];simp only[HL,qj,oX,qH];have go:∃y h',((bC.fix nq N).C (iF,r.Xa,P,Q,q,g,d,(k:Int))).o=AB (y,h')/\WI P (dI r P q) k (λz=>Z z\/∃j,b<=j/\j<e/\z=(nd Q j).Xu) y h':=by
   obtain⟨A,h3,t3,w3⟩:=FY p hQ R U N iF D E _ g d qa kF qa hnz l;exact⟨A,h3,t3,w3.congr I⟩
  by_cases hlt:AA d<k;{obtain⟨A,h3,t3,w3⟩:=go;rw[ah qa];simp only[qH,wF,qe,ag];rw[t3];exact⟨A,h3,rfl,w3⟩};have hlk:=l.lk;have hlen:AA d=k:=qa;have z0:(0:Int).toNat=0:=rfl;have V:gd d 0∈d:=aM (show 0<AA d from qa);have hi0:=l.inD _ V;have hgd:AF d 0 qt=gd d 0:=rfl;rw[ai qa];simp only[z0,hgd];rw[ab qa,ab qa,ab qa,ab qa];simp only[qH,qI,qd,ag];have hdv:AF g (gd d 0).toNat qt=dI r P q (gd d 0):=l.dd _ V;rw[hdv];by_cases hle:(AF r.Xa (nd Q b).XN.toNat qt).XB * aB (AF q (nd Q b).XN.toNat qt) v<=dI r P q (gd d 0);{obtain⟨A,h3,t3,w3⟩:=go;rw[ah hle,t3];exact⟨A,h3,rfl,w3⟩};rw[ai hle];refine⟨g,d,rfl,WI.congr ?_ I⟩;refine⟨l.dl,l.nd,λx hx=>.inl (l.hz x hx),λz c=>?_,l.dd,l.hp,l.lk,λL=>qa,λx hx z c hnz'=>?_⟩
  ·rcases c with c|⟨j,n,f,rfl⟩;{exact l.zp z c};exact O j qa qa
  rcases c with c|⟨j,n,f,rfl⟩;{exact l.best x hx z c hnz'};have h3:=hfar j n f;obtain⟨t,ht,htx⟩:=wh hx;have h4:=l.hp.top t ht;have h5:gd d t=x:=by rw[<-htx];simp[gd,qZ,ht]
  rw[h5]at h4;unfold Wo at h4;rw[l.dd x hx,l.dd _ V]at h4;unfold LtI;omega
def F3 (P:A8)(d:Int->Int)(k:Nat)(L:A7):Prop:=L.Pairwise (LtI d)/\(∀x∈L,InP P x)/\(AA L)<=k/\(AA L<k->∀z,InP P z->z∈L)/\∀x∈L,∀z,InP P z->¬z∈L->LtI d x z
omit hr hP hq in
theorem aiM {f:A7}{n0:Nat}(T:n0<=90000){d:Int->Int}{b:A7}(I:AA b=n0)(w:b.Nodup)(v:InD f b)(s:HP f b (AA b))(H:∀x∈b,dv f x=d x):∃L,andK (iter (λx:A7×A7×A7×Int=>bif qu (x.2.2.2>=0)then(ux x.2.1 x.2.2.1).o.bind λy=>grd (0<=x.2.2.2/\x.2.2.2<(AA x.1:Int)) (grd (x.2.2.2.toNat<AA x.1/\0<=x.2.2.2.toNat) (AB (aA.next (x.1.set x.2.2.2.toNat y.1,y.2.1,y.2.2,AG qs (x.2.2.2-1)))))else AB (aA.out x.1)) NN (qr n0 (0:Int),b,f,AG qs ((n0:Int)-1))) (λy=>AB y)=AB L/\L.Perm b/\L.Pairwise (LtI d):=by
 refine bU (P:=λL:A7=>L.Perm b/\L.Pairwise (LtI d)) (x:=(qr n0 (0:Int),b,f,AG qs ((n0:Int)-1)))
  (λm (y:A7×A7×A7×Int)=>y.2.2.1=f/\y.2.2.2=(AA y.2.1:Int)-1/\(AA y.2.1)<=m/\(AA y.2.1)<=n0/\(AA y.1)=n0/\(y.2.1++y.1.drop (AA y.2.1)).Perm b/\HP f y.2.1 (AA y.2.1)/\(y.1.drop (AA y.2.1)).Pairwise (LtI d)/\∀x∈y.2.1,∀t∈y.1.drop (AA y.2.1),LtI d x t)
  (λL:A7=>L.Perm b/\L.Pairwise (LtI d)) n0 ⟨rfl,by grind[w64],jW,jW,jV,jX,s,jX,jX⟩ qa ?_ (λz r=>⟨_,rfl,r⟩)
 rintro m ⟨z,h,U,y⟩ ⟨p,M,R,A,r,q,G,F,B⟩;simp only at p M R A r q G F B⊢;rw[p];have c:∀x∈h,x∈b:=λx l=>q.mem_iff.1 (x7 _ l)
 by_cases K:AA h=0;{simp_all};obtain⟨g,J,n,O,N⟩:=US (ds:=f) (h:=h) (λx l=>v x (c x l)) qa G qa;have D:AA g+1=AA h:=by have:=n.length_eq;simpa using this
 have C:h.Nodup:=by
  have:=q.nodup_iff.2 w;exact(xY.1 this).1
 obtain⟨Q,W⟩:=xZ.1 (n.nodup_iff.2 C);have i:gd h 0∈h:=n.mem_iff.1 (za ..);have u:y=(AA g:Int):=qa;subst u;rw[ah qa,J];simp only[qH,qE];rw[ab qa,ab qa];have a:(z.set (AA g) (gd h 0)).drop (AA g)=gd h 0::z.drop (AA h):=by
  rw[List.drop_set,qb qa,Nat.sub_self,<-D];have:z.drop (AA g)=AF z (AA g) qt::z.drop (AA g+1):=by
   rw[xh qa,qZ,w6 qa,w7]
  rw[this];rfl
 refine .inl ⟨_,m-1,rfl,qa,rfl,w64 qa qa,j8,j8,by simp only[wc];exact r,?_,O,?_,λx l t k=>?_⟩;{rw[a];exact(x9.trans (List.Perm.append_right _ n)).trans q};{rw[a];exact xw.2 ⟨λt k=>B _ i t k,F⟩};rw[a]at k;have j:x∈h:=n.mem_iff.1 (zb _ l);rcases wQ.1 k with rfl|k
 ·have E:=N x j;have V:x≠gd h 0:=λe=>Q (by rw[<-e];exact l)
  unfold Wo at E;rw[H x (c x j),H _ (c _ i)]at E;unfold LtI;omega
 exact B x j t k
theorem aij {Q:An}(e:KDw P (AA r.Xa) Q):(Nw r P Q q).o=AB true:=by have f:(⟨r.Xa,r.Xn⟩:am)=r:=rfl;have h:=cZ hr;have c:bF r=0:=hr;have a:(ul q).o=AB true:=TG q (by rw[hq.1];omega) hq.2;show(KE r P Q q).run NN=_;simp only[KE,qj,f,l6,c,a,agl hP e,qH];rw[aS rfl,aS (by rw[hq.1])];simp only[qI,qd,ag];by_cases i:AA P=0;{simp_all};have:=(hP.2.2 _ (aM (show 0<AA P from qa))).1;grind[ab]
theorem adK {Q:An}(e:KDw P (AA r.Xa) Q){k:Nat}(f:1<=k)(m:k<=2000)(p:∀x,InP P x->∃j,j<AA P/\(nd Q j).Xu=x):∃L,(Wi r P Q q (k:Int)).o=AB L/\F3 P (dI r P q) k L:=by
 have y:(⟨r.Xa,r.Xn⟩:am)=r:=rfl;obtain⟨K,g⟩:=e.kd;have N:=hP.1;show ∃L,(If r P Q q (k:Int)).run NN=AB L/\_;simp only[If,qj,y,aij hr hP hq e,qH];rw[ai qa,ag];rw[ab qa];simp only[qE]
 have n:WI P (dI r P q) k (λ_=>False) (qr (AA P) (0:Int)) []:=
  ⟨jV,zd,λx c=>jX,λz b=>b.elim,λx c=>jX,λi O J=>jX,wN _,λ_ z b=>b.elim,λx c=>jV⟩
 obtain⟨s,h,I,w⟩:∃s h,(Oy ⟨r.Xa,P,Q,q⟩ nl (qr (AA P) (0:Int)) (k:Int)).o=AB (h,s)/\WI P (dI r P q) k (InP P) s h:=by
  show ∃s h,(Ml ⟨r.Xa,P,Q,q⟩ nl (qr (AA P) (0:Int)) (k:Int)).run NN=AB (h,s)/\_;simp only[Ml,qj];have v:=e.len;by_cases M:0<AA P
  ·have a:KD P (AA r.Xa) Q 0 0 (AA P):=by
    rcases g.root with⟨-,h⟩|⟨h,-⟩;all_goals simp_all
   obtain⟨s,h,t,w⟩:=FY hr hP hq e.inj v f m NN 0 0 (AA P) (λ_=>False) (qr (AA P) (0:Int)) [] (by show _<4294967296;omega) a (wg _) (λ_ _ _ h=>h) n;have C:(Ni 0 r.Xa P Q q (qr (AA P) (0:Int)) nl (k:Int)).o=AB (s,h):=t;rw[ah qa,C];refine⟨s,h,rfl,w.congr λz=>?_⟩;constructor
   ·rintro(h|⟨j,G,H,rfl⟩);{simp_all};exact(a.data j G H).2.2
   grind
  rw[ai qa];exact⟨_,_,rfl,n.congr λz=>⟨λh=>h.elim,λb=>jW⟩⟩
 rw[I];simp only[qH,oX,qE,w9];have D:=w.lk;rw[ab qa];obtain⟨L,A,d,B⟩:=aiM (n0:=AA h) qa rfl w.nd w.inD w.hp w.dd;refine⟨L,A,B,λx c=>w.zp x (w.hz x (d.mem_iff.1 c)),by rw[d.length_eq];omega,λu z b=>d.mem_iff.2 (w.all (by rw[<-d.length_eq];omega) z b),λx c z b l=>w.best x (d.mem_iff.1 c) z b λu=>l (d.mem_iff.2 u)⟩
end
open Go.Sort (SWO)
abbrev dS:(Int×Int)->(Int×Int)->Option Int:=λx y=>(kC x y).o
theorem WU (l:List (Int×Int))(lo n:Nat)(a b:Int):(Vq l lo n a b).o=lX dS l lo n a b:=by show(GI l lo n a b).run NN=_;simp only[GI,lX,Azj,qj,dm_o]
theorem Z3 (l:List (Int×Int))(lo n:Nat)(a b c:Int):(VL l lo n a b c).o=mn dS l lo n a b c:=by show(GZ l lo n a b c).run NN=_;simp only[GZ,mn,Azn,qj,dm_o]
theorem ZG (l:List (Int×Int))(lo n:Nat)(a b:Int):(VK l lo n a b).o=ml dS l lo n a b:=by show(GY l lo n a b).run NN=_;simp only[GY,ml,Azi,qj,dm_o,Z3]
theorem aaH (l:List (Int×Int))(lo n:Nat)(a b c:Int):(VS l lo n a b c).o=lm dS l lo n a b c:=by show(G8 l lo n a b c).run NN=_;simp only[G8,lm,Yz4,qj,dm_o]
theorem Pt (l:List (Int×Int))(lo n:Nat)(a b c d:Int):(G6 l lo n a b c d).o=iQ dS l lo n a b c d:=by show(G7 l lo n a b c d).run NN=_;simp only[G7,iQ,Yz3,qj,dm_o,aaH]
theorem WL (l:List (Int×Int))(lo n:Nat)(a b:Int):(Vn l lo n a b).o=lQ dS l lo n a b:=by show(GF l lo n a b).run NN=_;simp only[GF,lQ,Azk,qj,dm_o,Pt]
theorem Yg (l:List (Int×Int))(lo n:Nat)(a b:Int):(Vy l lo n a b).o=l8 dS l lo n a b:=by show(GQ l lo n a b).run NN=_;simp only[GQ,l8,Azh,qj,dm_o,Pt,WL]
theorem X9 (l:List (Int×Int))(lo n:Nat)(a b:Int):(Vv l lo n a b).o=l4 dS l lo n a b:=by show(GN l lo n a b).run NN=_;simp only[GN,l4,mu,qj]
theorem ajV (l:List (Int×Int))(lo n:Nat)(a b:Int):(Va l lo n a b).o=lJ dS l lo n a b:=by show(Gs l lo n a b).run NN=_;simp only[Gs,lJ,nzg,qj,dm_o]
theorem WN (l:List (Int×Int))(lo n:Nat)(a b c:Int):(Vo l lo n a b c).o=lR dS l lo n a b c:=by show(GG l lo n a b c).run NN=_;simp only[GG,lR,Azl,qj,dm_o]
theorem Zg (l:List (Int×Int))(lo n:Nat)(a b c:Int):(VF l lo n a b c).o=md dS l lo n a b c:=by show(GV l lo n a b c).run NN=_;simp only[GV,md,Yz5,qj,dm_o]
theorem WR (l:List (Int×Int))(lo n:Nat)(a b:Int):(Vp l lo n a b).o=lW dS f8 f6 l lo n a b:=by show(GH l lo n a b).run NN=_;simp only[GH,lW,mr,qj,dm_o]
theorem RH (lo n:Nat):∀ (N:Nat) (l:List (Int×Int)) (a b L:Int),(bC.fix tY N).o (l,lo,n,a,b,L)=kn dS f8 f6 N (l,lo,n,a,b,L)
 |0,_,_,_,_=>rfl
 |N+1,l,a,b,L=>by
  show(G3 (bC.fix tY N) l lo n a b L).run NN=lc dS f8 f6 (kn dS f8 f6 N) l lo n a b L;have d:∀ (l:List (Int×Int)) (a b L:Int),((bC.fix tY N).C (l,lo,n,a,b,L)).o=kn dS f8 f6 N (l,lo,n,a,b,L):=λl a b L=>RH lo n N l a b L
  simp only[G3,lc,Yz6,qj,dm_o,d,WU,ZG,WR,Yg,X9,ajV,WN,Zg]
theorem acS {S:(Int×Int)->Prop}{lt:(Int×Int)->(Int×Int)->Bool}(i:dW S dS lt)(h:SWO lt)(l:List (Int×Int))(lo n:Nat)(hl:lo+n<=AA l)(d:n<=1000000)(j:∀x∈(l.drop lo).take n,S x):
 ∃s,(VM l lo n).o=AB (l.take lo++s++l.drop (lo+n))/\s.Perm ((l.drop lo).take n)/\s.Pairwise λa b=>lt b a=false:=by
 obtain⟨k,m,z,-⟩:=F9 n d;have e:=Ts hl j;obtain⟨r,f,t⟩:=Fl (l:=l) (lo:=lo) i h UO U3 hl d NN ((l.drop lo).take n).toArray 0 n k qa e (wN _) (wg _) (by show n-0<4294967296;omega) (.inl rfl);obtain⟨s,rfl,w,y⟩:=QX hl t;refine⟨s,?_,w,y⟩;rw[TP hl]at f;show(G0 l lo n).run NN=_;have g:(VO l lo n 0 (n:Int) (k:Int)).o=_:=(RH lo n NN l 0 (n:Int) (k:Int)).trans f;simp only[G0,qj];rw[u64n d,m];simp only[qH];rw[g];rfl
open Go.Sort (SWO)
theorem Rz {A B:A7}(c:A.Nodup)(h:∀x∈A,x∈B):AA A<=AA B:=by
 induction A generalizing B with
 |nil=>simp_all
 |cons a A e=>
  have b:=h a (za ..);have d:=List.perm_cons_erase b;grind[qx]
theorem Ry {a:Type}{l:List a}(h:l.Nodup){i j:Nat}(b:i<AA l)(c:j<AA l)(e:l[i]=l[j]):i=j:=by grind[xm]
theorem LtI.nd {d:Int->Int}{L:A7}(h:L.Pairwise (LtI d)):L.Nodup:=h.imp λh e=>by grind[LtI]
theorem adJ {P:A8}{d:Int->Int}{k:Nat}{L F:A7}(h:F3 P d k L)(l:F.Pairwise (LtI d))(m:∀x,x∈F↔InP P x)(v:Int):v∈L↔v∈F.take k:=by
 obtain⟨D,y,U,E,G⟩:=h;have r:=LtI.nd D;have b:=LtI.nd l;constructor
 ·intro f;obtain⟨A,B,a⟩:=zf ((m v).2 (y v f));rw[a]at l b;obtain⟨C,N,q⟩:=xY.1 b;have H:∀x∈A,x∈L:=λx c=>by
   grind[LtI]
  have p:(v::A).Nodup:=xZ.2 ⟨λw=>q v w v (za ..) rfl,C⟩;have:=Rz p (B:=L) λx c=>by
   rcases wQ.1 c with rfl|c;{exact f};exact H x c
  simp only[qx]at this;rw[a,List.take_append];obtain⟨t,M⟩:∃t,k-AA A=t+1:=⟨k-AA A-1,qa⟩;rw[M,List.take_succ_cons];exact List.mem_append_right _ (za ..)
 intro f;refine xC λn=>?_
 have i:=zg f;have j:=(m v).1 i;have I:¬AA L<k:=λw=>n (E w v j)
 obtain⟨A,B,a⟩:=zf i;rw[a]at l b f;obtain⟨V,O,X⟩:=xu.1 l;obtain⟨C,N,q⟩:=xY.1 b;have R:=(xw.1 O).1;have o:∀x∈L,x∈A:=λx c=>by
  have K:=G x c v j n;have g:=(m x).2 (y x c);rw[a]at g;rcases wH.1 g with s|e
  {exact s};rcases wQ.1 e with rfl|e;{exact absurd c n};have:=R x e;unfold LtI at *;omega
 have z:=Rz r o;have u:v∈A:=by
  rw[List.take_append_of_le_length qa]at f;exact zg f
 exact q v u v (za ..) rfl
section
variable {r:am} {P:A8} (hr:RoV r) (hl:AA P<=900) (hin:∀c∈P,aI r c=AD) (hnd:P.Nodup)
include hr hl hin hnd
theorem adI {u k:Nat}(A:u<AA P)(_:1<=k){L:A7}(h:F3 P (dI r P (AF P u qt)) (min k (AA P)+1) L)(v:Int):(v∈L/\v≠(u:Int))↔∃w:Nat,v=(w:Int)/\dX r P (k:Int) u w:=by
 have z:=Uk hr qa hin;have s:=rP (hin _ (aM A));have m:∀c∈P,AA c<4294967296:=λc I=>by grind[gm]
 obtain⟨l,-,o,-,d⟩:=aek r P (AF P u qt) (u:Int) qa m (m _ (aM A));have y:∀w,w∈o↔w<AA P/\(w:Int)≠(u:Int):=λw=>d.1.mem_iff.trans mem_ixs
 have K:dI r P (AF P u qt) (u:Int)=0:=by
  rw[tD hr z s (by unfold InP;omega),qE];have:∀n,sumR r (AF P u qt) (AF P u qt) n=0:=λn=>by
   induction n<;>grind[sumR,aB]
  simp_all
 have t:∀w,w<AA P->w≠u->0<dI r P (AF P u qt) (w:Int):=λw f p=>by
  rw[tD hr z s (by unfold InP;omega),qE];refine ahQ hr (rP (hin _ (aM f))) s λe=>p ?_
  grind[Ry]
 have F:(cE (u::o)).Pairwise (LtI (dI r P (AF P u qt))):=by
  refine List.Pairwise.map _ (λa b h=>h) (xw (R:=λa b:Nat=>LtI (dI r P (AF P u qt)) (a:Int) (b:Int)).2 ⟨λw f=>?_,d.2.imp λ{a b} h=>?_⟩);all_goals grind[LtI,LtD,dI,qE]
 have G:∀x,x∈cE (u::o)↔InP P x:=λx=>by
  rw[xi];constructor;{grind[InP]};intro H;unfold InP at H;refine⟨x.toNat,?_,qa⟩;grind
 rw[adJ h F G v];have C:(cE (u::o)).take (min k (AA P)+1)=(u:Int)::cE (o.take (min k (AA P))):=by
  simp_all
 rw[C];have E:AA o<=AA P:=by
  rw[d.1.length_eq];grind[ixs]
 constructor
 ·rintro⟨g,D⟩;rcases wQ.1 g with g|g
  {exact absurd g D};obtain⟨w,f,rfl⟩:=xi.1 g;obtain⟨j,B⟩:=(Pv d).1 f;exact⟨w,rfl,j,qa⟩
 rintro⟨w,rfl,j,B⟩;have:=ai7 d j;have f:=(Pv d (i:=min k (AA P))).2 ⟨j,qa⟩;refine⟨zb _ (xi.2 ⟨w,f,rfl⟩),(mem_ixs.1 j).2⟩
omit hr hl hin hnd in
theorem key2 (a b:Int×Int):cu (eE a) (eE b)=AD↔a=b:=by grind[cu,eE,cp]
def mapP (l:List (Int×Int)):List ((Int×Int)×Bool):=(l.map λc=>(c,AD)).reverse
omit hr hl hin hnd in
theorem afs (l:List (Int×Int))(c:Int×Int):dV eE (mapP l) (eE c)=AD↔c∈l:=by unfold mapP;rw[<-zh];have:c∈l↔c∈l.reverse:=jV;rw[this];induction l.reverse<;>grind[dV,key2]
def lt2 (a b:Int×Int):Bool:=qu (a.1<b.1\/(a.1=b.1/\a.2<b.2))
omit hr hl hin hnd in
theorem sS {a b:Int×Int}:lt2 a b=AD↔a.1<b.1\/(a.1=b.1/\a.2<b.2):=by grind[lt2]
omit hr hl hin hnd in
theorem lt2_not {a b:Int×Int}:lt2 a b=AE↔¬ (a.1<b.1\/(a.1=b.1/\a.2<b.2)):=by grind[lt2]
omit hr hl hin hnd in
theorem swo2:SWO lt2 where
 irrefl x:=lt2_not.2 qa
 trans x y z d c:=by grind[sS]
 ntrans x y z d c:=by grind[lt2_not]
omit hr hl hin hnd in
theorem agH:dW (λ_=>True) dS lt2:=λx y _ _=>by
 refine⟨if cmpI' x.1 y.1≠0 then cmpI' x.1 y.1 else if cmpI' x.2 y.2≠0 then cmpI' x.2 y.2 else 0,?_,?_⟩
 ·have e:∀a b:Int,(fI a b).o=AB (cmpI' a b):=cmpI;have g:(VZ x.1 x.2 y.1 y.2).o=AB (if cmpI' x.1 y.1≠0 then cmpI' x.1 y.1 else if cmpI' x.2 y.2≠0 then cmpI' x.2 y.2 else 0):=by
   show(Hs x.1 x.2 y.1 y.2).run NN=_;simp only[Hs,qj,e,qH];grind[ab]
  show(HE x y).run NN=_;grind[HE,qj]
 grind[sS,cmpI']
def PairL (n:Nat)(S:Nat->Nat->Prop)(l:List (Int×Int)):Prop:=l.Nodup/\∀p,p∈l↔∃a b:Nat,a<b/\b<n/\S a b/\p=((a:Int),(b:Int))
omit hr hl hin hnd in
theorem PairL.congr {n:Nat}{S i:Nat->Nat->Prop}{l:List (Int×Int)}(h:PairL n S l)(g:∀a b,a<b->b<n->(S a b↔i a b)):PairL n i l:=
 ⟨h.1,λp=>(h.2 p).trans ⟨λ⟨a,b,d,c,f,e⟩=>⟨a,b,d,c,(g a b d c).1 f,e⟩,λ⟨a,b,d,c,f,e⟩=>⟨a,b,d,c,(g a b d c).2 f,e⟩⟩⟩
omit hr hl hin hnd in
theorem PairL.add {n:Nat}{S:Nat->Nat->Prop}{X:List (Int×Int)}(h:PairL n S X){x y:Nat}(g:x<y)(q:y<n):(((x:Int),(y:Int))∈X->PairL n (λa b=>S a b\/(a=x/\b=y)) X)/\(¬ ((x:Int),(y:Int))∈X->PairL n (λa b=>S a b\/(a=x/\b=y)) (X++[((x:Int),(y:Int))])):=by
 refine⟨λc=>h.congr λa b u s=>⟨.inl,λe=>e.elim id λ⟨l,i⟩=>?_⟩,λc=>⟨?_,λp=>?_⟩⟩
 ·obtain⟨w,d,r,o,t,k⟩:=(h.2 _).1 c;grind
 ·refine xY.2 ⟨h.1,jV,λa m b v=>?_⟩;grind
 rw[wH,h.2 p,wP];grind
theorem abC {k:Int}(hk:1<=k):∃D,(Wb r P k).o=AB D/\D.Pairwise (λa b=>lt2 a b=AD)/\PairL (AA P) (lB r P k) D:=by
 have hP:=Uk hr qa hin;obtain⟨Q,i0,b1,b2,b3,b4⟩:=agA hP;have E:∀p q,p<AA P->q<AA P->(nd Q p).Xu=(nd Q q).Xu->p=q:=λp q hp hq h=>by
  have hn:(Q.map (·.Xu)).Nodup:=b3.nodup_iff.2 (Ms _);have hg:∀t,t<AA P->∃h:t<AA (Q.map (·.Xu)),(Q.map (·.Xu))[t]=(nd Q t).Xu:=λt ht=>⟨jW,jW⟩
  grind[Ry]
 have hw:KDw P (AA r.Xa) Q:=⟨b2,⟨i0,b4⟩,E⟩;have V:∀x,InP P x->∃j,j<AA P/\(nd Q j).Xu=x:=λx hx=>by
  unfold InP at hx;have F:x∈Q.map (·.Xu):=b3.mem_iff.2 (xi.2 ⟨x.toNat,xA.2 qa,qa⟩);grind[wh]
 obtain⟨Y,hkn,R⟩:∃Y:Nat,k=(Y:Int)/\1<=Y:=⟨k.toNat,qa,qa⟩;have er:(⟨r.Xa,r.Xn⟩:am)=r:=rfl;show ∃D,(H1 r P k).run NN=AB D/\_;simp only[H1,qj,er,b1,qH];have hw1:AG qs (min k (AA P:Int)+1)=((min Y (AA P)+1:Nat):Int):=by grind[w64]
 rw[hw1]
 refine bU (x:=((nl:List (Int×Int)),(nl:List ((Int×Int)×Bool)),(0:Int))) (P:=λD:List (Int×Int)=>D.Pairwise (λa b=>lt2 a b=AD)/\PairL (AA P) (lB r P k) D)
  (λm (y:List (Int×Int)×List ((Int×Int)×Bool)×Int)=>∃u:Nat,y.2.2=(u:Int)/\u+m=AA P/\y.2.1=mapP y.1/\(AA y.1)<=1001 * u/\PairL (AA P) (λa b=>(a<u/\dX r P k a b)\/(b<u/\dX r P k b a)) y.1)
  (λz:List (Int×Int)=>AA z<=1000000/\PairL (AA P) (lB r P k) z) (AA P) ⟨0,rfl,qa,rfl,by simp[nl],zd,λp=>⟨λh=>(by cases h),λ⟨a,b,_,_,h,_⟩=>qa⟩⟩ qa ?_ ?_
 ·rintro m ⟨X,M,y⟩ ⟨u,hu,hum,hM,n,A⟩;simp only at hu hM n A⊢;subst hu;rw[hM];cases m with
  |zero=>
   obtain rfl:u=AA P:=qa;rw[ai qa];exact .inr (.inl ⟨_,rfl,qa,A.congr λa b B C=>by grind[lB]⟩)
  |succ m=>
   have G:u<AA P:=qa;have hq:=rP (hin _ (aM G));obtain⟨L,n1,n2⟩:=adK hr hP hq hw (k:=min Y (AA P)+1) qa qa V;have I:=adI hr hl hin hnd G R n2;have hLn:=LtI.nd n2.1;have hLP:=n2.2.1;have hLl:=n2.2.2.1;rw[ah qa,ab qa,qE,n1,wn qa];simp only[qH];rw[<-hkn]at I;suffices Z:∃s,_=AB s/\(∃H:List (Int×Int),s=aA.next (H,mapP H,((u+1:Nat):Int))/\(AA H)<=1001 * (u+1)/\PairL (AA P) (λa b=>(a<u+1/\dX r P k a b)\/(b<u+1/\dX r P k b a)) H) by
    obtain⟨s,e,H,rfl,k1,k2⟩:=Z;exact .inl ⟨_,m,e,wB m,u+1,rfl,qa,rfl,k1,k2⟩
   refine bU (x:=(X,mapP X,(0:Int))) (λd (y:List (Int×Int)×List ((Int×Int)×Bool)×Int)=>∃i:Nat,y.2.2=(i:Int)/\i+d=AA L/\y.2.1=mapP y.1/\(AA y.1)<=1001 * u+i/\PairL (AA P) (λa b=>((a<u/\dX r P k a b)\/(b<u/\dX r P k b a))\/(a=u/\(b:Int)∈L.take i)\/(b=u/\(a:Int)∈L.take i)) y.1)
    (λy:List (Int×Int)×List ((Int×Int)×Bool)=>y.2=mapP y.1/\(AA y.1)<=1001 * (u+1)/\PairL (AA P) (λa b=>(a<u+1/\dX r P k a b)\/(b<u+1/\dX r P k b a)) y.1) (AA L) ⟨0,rfl,qa,rfl,j8,A.congr λa b _ _=>jV⟩ qa ?_ ?_
   ·rintro d ⟨X1,M1,y⟩ ⟨i,Z,him,K,N,g⟩;simp only at Z K N g⊢;subst Z;rw[K];cases d with
    |zero=>
     obtain rfl:i=AA L:=qa;rw[ai qa];refine .inr (.inl ⟨_,rfl,rfl,j8,g.congr λa b B C=>?_⟩);rw[xI];have f:∀w:Nat,w≠u->((w:Int)∈L↔dX r P k u w):=λw hwu=>by
      have:=I (w:Int);constructor
      ·intro hw;obtain⟨w',e,h⟩:=this.1 ⟨hw,qa⟩;have:w'=w:=qa;rw[this]at h;exact h
      intro h;exact(this.2 ⟨w,rfl,h⟩).1
     constructor
     ·rintro((h|h)|⟨rfl,h⟩|⟨rfl,h⟩);{exact .inl ⟨qa,h.2⟩};{exact .inr ⟨qa,h.2⟩};{exact .inl ⟨qa,(f b qa).1 h⟩};exact .inr ⟨qa,(f a qa).1 h⟩
     rintro(⟨h,c⟩|⟨h,c⟩)
     ·by_cases e:a=u;{subst e;exact .inr (.inl ⟨rfl,(f b qa).2 c⟩)};exact .inl (.inl ⟨qa,c⟩)
     by_cases e:b=u;{subst e;exact .inr (.inr ⟨rfl,(f a qa).2 c⟩)};exact .inl (.inr ⟨qa,c⟩)
    |succ d=>
     have hv:=hLP _ (aM (show i<AA L from qa));have ht:L.take (i+1)=L.take i++[AF L i qt]:=dJ qa;rw[ah qa,ab qa,qE,wn qa];generalize AF L i qt=v at hv ht⊢;unfold InP at hv;obtain⟨w,rfl⟩:∃w:Nat,v=(w:Int):=⟨v.toNat,qa⟩;by_cases huw:u=w
     ·have hb:((u:Int) !=(w:Int))=false:=by simp[huw]
      rw[hb];simp only[qd,ag];refine .inl ⟨_,d,rfl,wB d,i+1,rfl,qa,rfl,j8,g.congr λa b B C=>?_⟩;rw[ht];simp only[wH,wP];constructor
      ·rintro(h|⟨h,c⟩|⟨h,c⟩);{exact .inl h};{exact .inr (.inl ⟨h,.inl c⟩)};exact .inr (.inr ⟨h,.inl c⟩)
      rintro(h|⟨h,c|c⟩|⟨h,c|c⟩);{exact .inl h};{exact .inr (.inl ⟨h,c⟩)};{omega};{exact .inr (.inr ⟨h,c⟩)};omega
     have hb:((u:Int) !=(w:Int))=true:=by simp;omega
     have hmn:min (u:Int) (w:Int)=((min u w:Nat):Int):=qa;have hmx:max (u:Int) (w:Int)=((max u w:Nat):Int):=qa;rw[hb,hmn,hmx];simp only[qe];obtain⟨g1,g2⟩:=g.add (x:=min u w) (y:=max u w) qa qa;have O:∀a b:Nat,a<b->b<AA P->((((a<u/\dX r P k a b)\/(b<u/\dX r P k b a))\/(a=u/\(b:Int)∈L.take i)\/(b=u/\(a:Int)∈L.take i))\/(a=min u w/\b=max u w)↔((a<u/\dX r P k a b)\/(b<u/\dX r P k b a))\/(a=u/\(b:Int)∈L.take (i+1))\/(b=u/\(a:Int)∈L.take (i+1))):=λa b B C=>by
      rw[ht];simp only[wH,wP];constructor
      ·rintro((h|⟨h,c⟩|⟨h,c⟩)|h);{exact .inl h};{exact .inr (.inl ⟨h,.inl c⟩)};{exact .inr (.inr ⟨h,.inl c⟩)};by_cases hlt:u<w;{exact .inr (.inl ⟨qa,.inr qa⟩)};exact .inr (.inr ⟨qa,.inr qa⟩)
      rintro(h|⟨h,c|c⟩|⟨h,c|c⟩);{exact .inl (.inl h)};{exact .inl (.inr (.inl ⟨h,c⟩))};{exact .inr qa};{exact .inl (.inr (.inr ⟨h,c⟩))};exact .inr qa
     have U:=afs X1 (((min u w:Nat):Int),((max u w:Nat):Int));by_cases F:(((min u w:Nat):Int),((max u w:Nat):Int))∈X1;{rw[U.2 F];exact .inl ⟨_,d,rfl,wB d,i+1,rfl,qa,rfl,j8,(g1 F).congr O⟩};have hf:dV eE (mapP X1) (eE (((min u w:Nat):Int),((max u w:Nat):Int)))=false:=zi.2 λh=>F (U.1 h)
     rw[hf];rw[ab (by simp only[qx,qz,aF];omega),ag];refine .inl ⟨_,d,rfl,wB d,i+1,rfl,qa,?_,by simp only[wW,qx,qz];omega,(g2 F).congr O⟩;simp[mapP]
   rintro⟨X2,M2⟩ ⟨B,C,h3⟩;rw[B];exact⟨_,rfl,X2,rfl,C,h3⟩
 rintro X ⟨n,A⟩;obtain⟨s,s1,s2,s3⟩:=acS agH swo2 X 0 (AA X) qa n (λ_ _=>trivial);simp only[List.take_zero,x8,Nat.zero_add,List.drop_length,List.append_nil,xF,xI]at s1 s2;rw[s1];refine⟨s,rfl,?_,s2.nodup_iff.2 A.1,λp=>s2.mem_iff.trans (A.2 p)⟩;have hsn:s.Nodup:=s2.nodup_iff.2 A.1;refine(List.pairwise_and_iff.2 ⟨s3,hsn⟩).imp λ{a b} h=>?_
 obtain⟨B,C⟩:=h;rw[lt2_not]at B;rw[sS];have:¬ (a.1=b.1/\a.2=b.2):=λhh=>C (Prod.ext hh.1 hh.2)
 omega
end
theorem abp (r:am)(p q:A7)(hp:AA p<4294967296)(hq:AA q<4294967296):(Mt r p q).o=AB (dstV r p q):=by
 show(IK r p q).run NN=_;have b:(⟨r.Xa,r.Xn⟩:am)=r:=rfl;simp only[IK,qj,pN p hp,pN q hq,l6,qH];unfold dstV badD;by_cases a:AA p=AA r.Xa
 ·by_cases c2:AA q=AA r.Xa
  ·rw[aS qa,aS qa,qg a,qg c2];simp only[aU,ag,qL];cases cQ p with
   |false=>rfl
   |true=>
    cases cQ q with
    |false=>rfl
    |true=>
     by_cases c3:bF r=0
     ·have hr:=(cZ c3).2.1;rw[qg c3];simp only[qI,qd,c3,bne_self_eq_false,Bool.and_self,qI];refine(aW (λj=>(sumD r p q j,(j:Int))) (sumD r p q (AA r.Xa)) (AA r.Xa) rfl (by show _<4294967296;omega) (λj g=>?_) ?_).trans rfl
      ·have d:0<=(j:Int)/\(j:Int)<(AA r.Xa:Int):=qa;have e:0<=(j:Int)/\(j:Int)<(AA p:Int):=qa;have f:0<=(j:Int)/\(j:Int)<(AA q:Int):=qa;rw[ah qa];simp only[ab d,ab e,ab f,wn (show j<4294967296 from qa),qE];rfl
      rw[ai qa]
     rw[qh c3];have:(bF r !=0)=true:=by simpa using c3
     simp only[qI,qd,this,wv,wF,qe]
  rw[aS qa,bS qa,ag,qh c2];simp only[wv,wt,wF,qe]
 rw[bS qa,ag,qh a];simp only[wt,wF,qe]
theorem UH (a b:K10):cu (fh a) (fh b)=AD↔a=b:=by obtain⟨d,e,f,g,h,i,j,k,m,o⟩:=a;obtain⟨s,t,w,x,y,z,A,B,C,D⟩:=b;simp only[cu,fh,cp,if_true,Option.map_some];simp
theorem afr (l:A8)(c:A7):dV fh (mapC l) (fh (keyC c))=AD↔∃x∈l,keyC x=keyC c:=by
 unfold mapC;rw[<-zh];have:(∃x∈l,keyC x=keyC c)↔∃x∈l.reverse,keyC x=keyC c:=jV;rw[this];induction l.reverse with
 |nil=>simp[dV]
 |cons a l f=>
  simp only[wY,dV];by_cases e:cu (fh (keyC c)) (fh (keyC a))=AD;{rw[qc e];exact⟨λ_=>⟨a,za ..,((UH _ _).1 e).symm⟩,λ_=>rfl⟩};rw[qb e];refine Iff.trans f ⟨λ⟨x,b,d⟩=>⟨x,zb _ b,d⟩,λ⟨x,b,d⟩=>?_⟩;rcases wQ.1 b with rfl|b
  {exact absurd ((UH _ _).2 d.symm) e};exact⟨x,b,d⟩
theorem abk (l:A7)(h:AA l<4294967296):(gM l).o=AB l:=dM qa jU
theorem ack (r:am)(pts:A8)(hl:AA pts<=1000):(Wn r pts).o=AB (disL r pts (AA pts)):=by
 show(Ix r pts).run NN=_;have g:(⟨r.Xa,r.Xn⟩:am)=r:=rfl;simp only[Ix,qj,g,kI,qH];refine(aW (λj=>(disL r pts j,mapC (disL r pts j),(j:Int))) (disL r pts (AA pts)) (AA pts) rfl (by show _<4294967296;omega) (λj t=>?_) ?_).trans rfl
 ·have f:=ss r pts j;have hin:=ou r pts j;dsimp only;rw[ah qa,ab qa,cr qa,wn qa,qE];have s:disL r pts (j+1)=if aI r (AF pts j qt)=AD/\¬AF pts j qt∈disL r pts j then disL r pts j++[AF pts j qt]else disL r pts j:=rfl
  rw[s];generalize AF pts j qt=c at *
  cases k:aI r c with
  |false=>simp only[wF,qe,ag];rw[qb (λh=>by cases h.1)]
  |true=>
   simp only[qI,qd];have m:=gm k;have a:=afr (disL r pts j) c;have b:(∃x∈disL r pts j,keyC x=keyC c)↔c∈disL r pts j:=⟨λ⟨x,e,i⟩=>by
    have w:=gm (hin x e);have:=afi qa qa i;rw[<-this];exact e,λh=>⟨c,h,rfl⟩⟩
   rw[b]at a;by_cases d:c∈disL r pts j;{have a:=a.2 d;unfold keyC at a;rw[qb (c:=True/\¬c∈disL r pts j) (λh=>h.2 d)];simp only[a];rfl};have a:=zi.2 (λh=>d (a.1 h));unfold keyC at a;rw[qc (c:=True/\¬c∈disL r pts j) ⟨trivial,d⟩];simp only[a];simp only[wF,qe];rw[abk c qa];simp only[qH];rw[ab (by simp only[qx,qz,aF];omega),ag];have:mapC (disL r pts j++[c])=(keyC c,AD)::mapC (disL r pts j):=by simp[mapC]
   rw[this];rfl
 dsimp only;rw[ai qa]
theorem Qu (r:am)(pts:A8):∀j,(disL r pts j).Nodup
 |0=>zd
 |j+1=>by
  have:=Qu r pts j;unfold disL;split;{rename_i g;refine xY.2 ⟨this,jV,λa f b d=>?_⟩;simp at d;subst d;intro e;subst e;exact g.2 f};exact this
theorem acV (r:am)(P:A8)(d:∀c∈P,AA c<4294967296){a b:Nat}(f:a<AA P)(g:b<AA P):(Wp r P (a:Int) (b:Int)).o=AB (newE r P (a:Int) (b:Int)):=by have e:(⟨r.Xa,r.Xn⟩:am)=r:=rfl;show(Iy r P (a:Int) (b:Int)).run NN=_;simp only[Iy,qj,qE];rw[ab qa,ab qa,abp r _ _ (d _ (aM f)) (d _ (aM g))];rfl
theorem UM (r:am)(pts:A8)(k:Int)(hp:AA pts<=900):
 ∃m,(yL r pts k).o=AB m/\(bF r≠0->m.Xb=[]/\m.Xf=[])/\(bF r=0->m.Xb=disL r pts (AA pts)/\∃C,m.Xf=C.take 8192/\MapE r m.Xb (lB r m.Xb k) C):=by
 have G:(⟨r.Xa,r.Xn⟩:am)=r:=rfl;show ∃m,(yM r pts k).run NN=AB m/\_;simp only[yM,qj,l6,ack r pts qa,qH];by_cases hr:bF r≠0;{rw[bS hr];exact⟨_,rfl,λ_=>⟨rfl,rfl⟩,λh=>absurd h hr⟩};have hr:bF r=0:=Classical.not_not.1 hr;rw[aS hr];have x:=ss r pts (AA pts);have hin:=ou r pts (AA pts);have hnd:=Qu r pts (AA pts);have f:∀c∈disL r pts (AA pts),AA c<4294967296:=λc K=>by have:=gm (hin c K);omega
 obtain⟨P,hP⟩:∃P,P=disL r pts (AA pts):=⟨_,rfl⟩;rw[<-hP]at x hin hnd f⊢;by_cases E:k<1;{rw[ah E];refine⟨_,rfl,λh=>absurd hr h,λ_=>⟨rfl,[],rfl,(MapE.nil r P).congr λa b _ _=>⟨λh=>h.elim,λh=>?_⟩⟩⟩;unfold lB dX at h;rcases h with h|h<;>(have:=h.2;omega)};rw[ai E];obtain⟨d,F,H,w⟩:=abC (r:=r) hr qa hin hnd (k:=k) qa;have z:MapE r P (lB r P k) (d.map λp=>newE r P p.1 p.2):=by
  refine⟨List.Pairwise.map _ (λa b h=>?_) H,λe=>?_⟩;{rw[sS]at h;rw[Tn];exact h};rw[xi];constructor;{rintro⟨p,hp,rfl⟩;obtain⟨a,b,t,i,B,rfl⟩:=(w.2 p).1 hp;exact⟨a,b,t,i,B,rfl⟩};rintro⟨a,b,t,i,B,rfl⟩;exact⟨_,(w.2 _).2 ⟨a,b,t,i,B,rfl⟩,rfl⟩
 rw[F];simp only[qH];rw[ab qa];have N:(0:Int).toNat=0:=rfl;have g:(min (AA d:Int) 8192).toNat=min (AA d) 8192:=qa;have A:(d.drop 0).take (min (AA d) 8192-0)=d.take 8192:=by
  rw[xF,xE,Nat.min_comm,List.take_eq_take_iff];omega
 simp only[N,g,A];obtain⟨R,s⟩:∃R,R=d.take 8192:=⟨_,rfl⟩;have I:AA R<=8192:=by rw[s,w8];omega
 have y:∀p∈R,p∈d:=λp hp=>zg (by rw[<-s];exact hp)
 rw[<-s];refine⟨⟨P,R.map λp=>newE r P p.1 p.2⟩,?_,λh=>absurd hr h,λ_=>⟨rfl,_,?_,z⟩⟩
 ·refine(aW (λj=>((R.take j).map (λp=>newE r P p.1 p.2),(j:Int))) (R.map λp=>newE r P p.1 p.2) (AA R) (by simp[nl]) (by show _<4294967296;omega) (λj D=>?_) ?_).trans rfl;{obtain⟨a,b,t,i,-,M⟩:=(w.2 _).1 (y _ (aM D));have L:R.take (j+1)=R.take j++[AF R j qt]:=dJ D;dsimp only;rw[ah qa,ab qa,qE,L,M];dsimp only;rw[acV r P f qa i];simp only[qH];rw[ab (by simp only[qx,qz,xj,w8,aF];omega),wn qa];simp};dsimp only;rw[ai qa,xI]
 rw[s,List.map_take]
def lmtV (r:am):Ah:=if bF r=0 then tab (λi=>(⟨(AF r.Xa i qt).Lo,(AF r.Xa i qt).Hi⟩:af)) (AA r.Xa) else nl
theorem Qv (r:am){pts:A8}{a b:A7}(f:AF pts 0 qt=a)(g:AF pts 1 qt=b)(i:aI r a=AD)(k:aI r b=AD)(d:a≠b):∀j,AF (disL r pts (j+2)) 1 qt=b/\2<=AA (disL r pts (j+2))
 |0=>by
  have o:disL r pts 1=[a]:=by
   unfold disL;rw[f,qc ⟨i,by simp[disL]⟩];simp[disL]
  unfold disL;rw[o,g,qc ⟨k,by simpa using λh=>d h.symm⟩];exact⟨rfl,wg 2⟩
 |j+1=>by
  obtain⟨m,s⟩:=Qv r f g i k d j;have e:disL r pts (j+1+2)=if aI r (AF pts (j+2) qt)=AD/\¬AF pts (j+2) qt∈disL r pts (j+2)then disL r pts (j+2)++[AF pts (j+2) qt]else disL r pts (j+2):=rfl
  rw[e];split;{refine⟨?_,by rw[wW];omega⟩;rw[qZ,List.getElem?_append_left qa,<-qZ];exact m};exact⟨m,s⟩
theorem QJ (e:c6):(pn e).o=AB (rngV e):=by show(H4 e).run NN=_;simp only[H4,qj,iL,oG,rngV]
theorem afn (r:am):(Ku r).o=AB (lmtV r):=by
 have a:(Ku r).o=(Kv r).run NN:=rfl;rw[a];simp only[Kv,qj,l6,qH,lmtV];by_cases h:bF r=0
 ·have hl:=ajt h;rw[aS h,qc h];generalize e:(λi=>(⟨(AF r.Xa i qt).Lo,(AF r.Xa i qt).Hi⟩:af))=F;have f:∀i,(⟨(AF r.Xa i qt).Lo,(AF r.Xa i qt).Hi⟩:af)=F i:=λi=>by rw[<-e]
  have b:(Vh r.Xa).o=AB (tab F (AA r.Xa)):=by
   show(GA r.Xa).run NN=_;have d:∀j,(Mw (AF r.Xa j qt)).o=AB (F j):=λj=>by
    show(IN (AF r.Xa j qt)).run NN=_;simp only[IN,qj,f]
   simp only[GA,qj];rw[ab qa];refine(aW (λj=>(half F (⟨0,0⟩:af) (AA r.Xa) j,(j:Int))) (tab F (AA r.Xa)) (AA r.Xa) (by rw[sa];rfl) (show _<4294967296 from qa) (λj g=>?_) ?_).trans rfl;{dsimp only;rw[ah qa,ab qa,qE,d,qH,g8 qa,ab qa,ab qa,wn qa,g9 g]};dsimp only;rw[ai qa,iM]
  simp only[b,qH]
 rw[bS h,qb h]
theorem ahv {n d:Int}(lo b:Int)(g:0<=n)(h:n<65536)(e:0<d):∃y,(KZ n d lo b).o=AB y:=by
 have f:(KZ n d lo b).o=(K0 n d lo b).run NN:=rfl;have k:(ML lo b).o=AB (vV ⟨lo,b⟩):=by
  show(Jg lo b).run NN=_;simp only[Jg,qj,fJ,qH]
 rw[f];simp only[K0,qj,k,qH];cases hv:vV ⟨lo,b⟩with
 |false=>exact⟨_,rfl⟩
 |true=>
  obtain⟨w1,m,s⟩:=vV_iff.1 hv;simp only at w1 m s;simp only[qI,qd,ag];by_cases t:n<d
  ·rw[ai qa];have j:IntKind.u64.wrap (AG qs (AG qs (b-lo)+1))=b-lo+1:=by
    rw[w64 (x:=b-lo) qa qa,w64 qa qa,mZ qa qa]
   rw[j,ajo g h qa qa];obtain⟨r,i,-⟩:=ajj (a:=n * (b-lo+1)) (show d≠0 from qa) e;simp only[qH,i];exact⟨_,rfl⟩
  rw[ah qa];exact⟨_,rfl⟩
def okP (o:Option (Int×Int)):Bool:=
 match o with
 |some r=>qu (0<=r.1)&&(qu (r.1<65536)&&qu (0<r.2))
 |_=>AE
theorem aaO:(primes.all λp=>(xU 8).all λi=>okP (uh p (i:Int)).o)=true:=jY
theorem adU {p i:Int}(hp:p∈primes)(a:0<=i)(b:i<8):∃r:Int×Int,(uh p i).o=AB r/\0<=r.1/\r.1<65536/\0<r.2:=by
 have h:=qk.1 aaO p hp;have h:=qk.1 h i.toNat (xA.2 qa);rw[show((i.toNat:Nat):Int)=i from qa]at h;generalize (uh p i).o=o at h⊢;cases o with
 |none=>cases h
 |some r=>
  simp only[okP,ql,qf]at h;exact⟨r,rfl,h⟩
theorem ahw {k:Nat}(h:k<10):(K1 (k:Int)).o=AB (AF primes k 0):=by have a:(K1 (k:Int)).o=(K2 (k:Int)).run NN:=rfl;rw[a];simp only[K2,qj];rw[ai qa];simp only[ag];rw[ai qa,ab qa,qE];rfl
theorem ah4 (l:Ah):Gx (K3 l).o λb=>b=true->AA l<=10:=by
 have a:(K3 l).o=(K4 l).run NN:=rfl;rw[a];simp only[K4,qj,fJ,qH,aU,ag,bO];by_cases h:1<=AA l/\(AA l)<=10
 ·rw[qh (show ¬ (AA l:Int)<1 from qa),qh (show ¬ (AA l:Int)>10 from qa)];refine Gx.loop (λn (x:Int)=>∃j:Nat,x=(j:Int)/\j+n=AA l) (λ_:U0=>True) (AA l) ⟨0,rfl,qa⟩ qa ?_ (λ_ _=>.some λ_=>h.2);rintro n _ ⟨j,rfl,d⟩;cases n with
  |zero=>rw[ai qa];exact .some trivial
  |succ n=>
   rw[ah qa,ab qa];cases !vV (AF l ((j:Int)).toNat qt)with
   |true=>exact .some λh=>by cases h
   |false=>rw[qd,wn qa];exact .some ⟨n,qa,j+1,rfl,qa⟩
 have:(qu ((AA l:Int)<1)||qu ((AA l:Int)>10))=true:=by simp only[qX,qf];omega
 rw[this];exact .some λh=>by cases h
theorem af4 (l:Ah){i:Int}(g:0<=i)(h:i<8):Gx (J3 l i).o λc=>AA c<=10:=by
 have e:(J3 l i).o=(J4 l i).run NN:=rfl;rw[e];simp only[J4,qj];refine .bind (ah4 l) ?_;rintro b f;cases b with
 |false=>exact .some (wN _)
 |true=>
  have hl:=f rfl;simp only[qI,qd];refine Gx.loop (λn (z:A7×Int)=>∃j:Nat,z.2=(j:Int)/\j+n=AA l/\(AA z.1)=j) (λy=>AA y<=10) (AA l) ⟨0,rfl,qa,rfl⟩ qa ?_ (λy a=>.some a);rintro n ⟨L,_⟩ ⟨j,rfl,t,d⟩;dsimp only at d⊢;cases n with
  |zero=>rw[ai jZ];exact .some (by show AA L<=10;omega)
  |succ n=>
   obtain⟨r,k,m,r3,s⟩:=adU (adS (show j<10 from qa)) g h;obtain⟨y,a⟩:=ahv (AF l j qt).Lo (AF l j qt).Hi m r3 s;rw[ah jZ,ab ⟨jV,jZ⟩];simp only[ahw (show j<10 from qa),k,qH,qE,a];rw[ab ⟨by rw[wV];omega,by rw[wV,aF];omega⟩,wn qa];exact .some ⟨n,qa,j+1,rfl,qa,by rw[wW,wV,d]⟩
theorem aiE (s:aj){a b:A7}{pts:A8}{k:Int}{m:aJ}(hr:bF s.Xe=0)(K:aI s.Xe a=AD)(L:aI s.Xe b=AD)(hp:PtsP a b pts)(R:(yL s.Xe pts k).o=AB m):MotM s a b m/\m.Xb=disL s.Xe pts (AA pts):=by
 obtain⟨⟨Z,h2⟩,⟨C,D⟩,h5⟩:=hp;obtain⟨m',t,-,Y⟩:=UM s.Xe pts k qa;rw[R]at t;injection t with t;subst t;obtain⟨f,w,g,i⟩:=Y hr;have hl:=ss s.Xe pts (AA pts);have I:AA m.Xb<=7:=by rw[f];omega
 have hin:∀c∈m.Xb,aI s.Xe c=true:=by rw[f];exact ou s.Xe pts _
 have E:=Rb s.Xe pts (by rw[C];exact K) (AA pts) qa;have N:AA w<=49:=by
  have A:∀e∈w,∃u v:Nat,u<7/\v<7/\e=newE s.Xe m.Xb u v:=λe d=>by
   obtain⟨u,v,F,G,-,H⟩:=(i.2 e).1 d;exact⟨u,v,qa,qa,H⟩
  have:=sD 49 (l:=w.map λe=>(e.U * 7+e.V).toNat) (List.pairwise_map.2 (i.1.imp_of_mem λ{x y} B X h e=>?_)) λx B=>?_
  {rwa[xj]at this};{obtain⟨u,v,F,G,rfl⟩:=A x B;obtain⟨u',v',q3,H,rfl⟩:=A y X;rw[Tn]at h;simp only[newE]at h e;omega};obtain⟨e,d,rfl⟩:=xi.1 B;obtain⟨u,v,F,G,rfl⟩:=A e d;simp only[newE];omega
 have z:AA m.Xf<=49:=by rw[g,w8];omega
 refine⟨⟨⟨rfl,qa,qa,λc M=>?_,λe d=>?_⟩,I,z,hin,ahf hr hin g i,λj O=>?_,?_,?_⟩,f⟩;{have:=gm (hin c M);omega};{rw[g]at d;obtain⟨u,v,-,-,-,h⟩:=(i.2 e).1 (zg d);rw[h];exact aiG s.Xe _ _ _};{have:=aM O;rw[g]at this;obtain⟨u,v,-,-,-,h⟩:=(i.2 _).1 (zg this);rw[<-g]at h;exact⟨u,v,h⟩};{rw[f];exact⟨E.1.trans C,E.2⟩};rw[f,<-D];exact Tc s.Xe pts _ 1 qa (by rw[D];exact L)
variable {G:Goes}
theorem afx(hG:GoOk G)(e:c6)(hE:e.XA<=5):MotQ G e:=by
 intro s a b;have es:(⟨s.Xe,s.Xc,s.Xo⟩:aj)=s:=rfl;have Z:(Jn s a b e).o=(Jo s a b e).run NN:=rfl;have no:∀n:Int,MotP G s a b ((⟨nl,nl⟩:aY),n,AE):=λn=>⟨ahk,λh=>by cases h⟩
 rw[Z];simp only[Jo,qj,es,iy,kI,QJ,afn,qH];by_cases E:aT s≠0;{rw[bS E];exact .some (no 0)};have F:aT s=0:=qa;clear E;rw[aS F];cases D:aI s.Xe a with
 |false=>exact .some (no 0)
 |true=>
  cases L:aI s.Xe b with
  |false=>exact .some (no 0)
  |true=>
   cases hr:rngV e with
   |false=>exact .some (no 0)
   |true=>
    simp only[qI,qd,ag];simp only[rngV,ql,qf]at hr;obtain⟨r1,r2,r3,r4,C,g,t0,t1⟩:=hr;have la:=gm D;have lb:=gm L;have A:=(mq D).1;refine Gx.loop (λn (z:A8×Int)=>PtsP a b z.1/\∃j:Nat,z.2=(j:Int)/\(AA z.1)=j+2/\j+n=5) (PtsP a b) 5 ⟨⟨⟨wg 2,(show 2<=7 by decide)⟩,⟨rfl,rfl⟩,λc t=>?_⟩,0,rfl,rfl,rfl⟩ jU ?_ ?_
    ·rcases wQ.1 t with rfl|t;{omega};rw[wP.1 t];omega
    ·rintro n ⟨pts,_⟩ ⟨hp,j,rfl,hl,hj⟩;dsimp only at hp hl⊢;by_cases t:(j:Int)<e.XA
     ·have V:IntKind.u64.wrap (IntKind.u64.wrap (j:Int)+1)=(j:Int)+1:=by rw[mZ (x:=(j:Int)) qa qa,mZ qa qa]
      rw[ah t,V];obtain⟨y,ey,X⟩:=af4 (lmtV s.Xe) (i:=(j:Int)+1) qa qa;rw[ey,qH,ab ⟨by rw[wV];omega,by rw[wV,aF];omega⟩,wn qa];exact .some ⟨n-1,qa,hp.add qa qa,j+1,rfl,by rw[wW,wV];omega,qa⟩
     rw[ai t];exact .some hp
    intro pts hp;obtain⟨m,Y,-⟩:=UM s.Xe pts e.XI (by have:=hp.1.2;omega);obtain⟨k,w⟩:=aiE s A D L hp Y;obtain⟨y,N,X,M⟩:∃y:Int,(if a=b then 0 else 1:Int)=y/\(0<=y/\y<(AA m.Xb:Int))/\AF m.Xb y.toNat qt=b:=by
     refine⟨_,rfl,?_⟩;have hf:=k.fst;by_cases f:a=b;{rw[qc f];exact⟨⟨Int.le_refl _,qa⟩,hf.1.trans f⟩};rw[qb f];obtain⟨n,E⟩:∃n,AA pts=n+2:=⟨AA pts-2,by have:=hp.1.1;omega⟩;have R:=Qv s.Xe hp.2.1.1 hp.2.1.2 D L f n;rw[<-E,<-w]at R;exact⟨⟨jU,qa⟩,R.1⟩
    have q:(bif eqW a b then AB (.out 0)else AB (.out 1):Option (aA Unit Int (aY×Int×Bool)))=AB (.out y):=by
     rw[<-N];unfold eqW;by_cases f:a=b;{rw[qg f,qc f];rfl};rw[qh f,qb f];rfl
    simp only[agR a b qa,qH,q,ag,Y];obtain⟨K,k1,O,k3⟩:=stops (s:=s) (d:=e.Xh) (x:=0) (y:=y) C g _ _ k.lz (wg _);have V:=ahW m.Xf;have h49:=k.e49;have B:=iy s;rw[F]at B;rw[aiy s m 0 y C g k.lz B O k3 qa e.XO];simp only[qH];by_cases U:K<=e.XO.toNat
    ·rw[qc U];unfold lzR;by_cases I:(nxV m.Xb 0 y (itE s m.Xb 0 y e.Xh m.Xf K)).2.2.2=1
     ·rw[aS I];obtain⟨H,q1⟩:=Sz k F C g O;have H:=aem H;have ep:(uY s (⟨m.Xb,itE s m.Xb 0 y e.Xh m.Xf K⟩:aJ) (⟨(nxV m.Xb 0 y (itE s m.Xb 0 y e.Xh m.Xf K)).2.1,(nxV m.Xb 0 y (itE s m.Xb 0 y e.Xh m.Xf K)).2.2.1⟩:dq)).o=_:=ahZ s _ _ q1 H;simp only[ep,qH];cases hz:(dY s ⟨m.Xb,itE s m.Xb 0 y e.Xh m.Xf K⟩ (nxV m.Xb 0 y (itE s m.Xb 0 y e.Xh m.Xf K)).2.1).2 with
      |true=>exact .some ⟨ahq H,λ_=>hG _ _ _ _ _ _ _ k F C g X M O I hz⟩
      |false=>exact .some (no _)
     rw[bS I];exact .some (no _)
    rw[qb U];exact .some (no _)
theorem ajB(w:al)(m:aD)(b:A7)(l:Ac)(e:c6)(K:j0)(hM:MotQ G e)(ho:∀o∈w.Xd,AA o.Xc<4294967296)(hv:bJ w m=AD)(hK:KnOk G w b K)(hA:actW w l m.Xg)(hl:AA l<=16):
 (∃r,(lN w.Xi.Xe.Xa w.Xi.Xe.Xn w.Xi.Xc w.Xi.Xo w.Xd w.Xj w.Xm w.Xl w.Xq e.XA e.XI e.Xh e.XO K m b l).o=AB r/\KnOk G w b r.2.2.2.2.2)\/
 ((lN w.Xi.Xe.Xa w.Xi.Xe.Xn w.Xi.Xc w.Xi.Xo w.Xd w.Xj w.Xm w.Xl w.Xq e.XA e.XI e.Xh e.XO K m b l).o=none/\
   ∃r,(nv w.Xi.Xe.Xa w.Xi.Xe.Xn w.Xi.Xc w.Xi.Xo w.Xd w.Xj w.Xm w.Xl w.Xq e.XA e.XI e.Xh e.XO K m b l).o=AB r/\(fS G w r.1 m.Xg b/\eA w r.1 m.Xg=fD w l m.Xg)/\(AA r.1)<=16/\∀x∈r.1,PaF x.Path):=by
 have e0:(lN w.Xi.Xe.Xa w.Xi.Xe.Xn w.Xi.Xc w.Xi.Xo w.Xd w.Xj w.Xm w.Xl w.Xq e.XA e.XI e.Xh e.XO K m b l).o=(pE w.Xi.Xe.Xa w.Xi.Xe.Xn w.Xi.Xc w.Xi.Xo w.Xd w.Xj w.Xm w.Xl w.Xq e.XA e.XI e.Xh e.XO K m b l).run NN:=rfl;have e1:(nv w.Xi.Xe.Xa w.Xi.Xe.Xn w.Xi.Xc w.Xi.Xo w.Xd w.Xj w.Xm w.Xl w.Xq e.XA e.XI e.Xh e.XO K m b l).o=(pF w.Xi.Xe.Xa w.Xi.Xe.Xn w.Xi.Xc w.Xi.Xo w.Xd w.Xj w.Xm w.Xl w.Xq e.XA e.XI e.Xh e.XO K m b l).run NN:=rfl;have ew:(⟨(⟨(⟨w.Xi.Xe.Xa,w.Xi.Xe.Xn⟩:am),w.Xi.Xc,w.Xi.Xo⟩:aj),w.Xd,w.Xj,w.Xm,w.Xl,w.Xq⟩:al)=w:=rfl;have ea:∀u a,(mc w u a).o=AB (appV w u a):=λu a=>PQ w u a ho
 have eS:∀x:dc,(⟨(⟨x.Xt.Xp,x.Xt.Xs,x.Xt.Place⟩:aO),x.XJ,(⟨x.Path.Xb,x.Path.Xf⟩:aY)⟩:dc)=x:=λ_=>rfl
 rw[e0,e1];simp only[pE,pF,qj,ew,aiZ,ea,qH]
 refine afq (λn (z:A7×j0×A7×B4×Int×Int)=>∃j:Nat,(z.2.2.2.2.2=(j:Int)/\j+n=AA l/\(AA z.2.2.2.1)=j)/\(bJ w ⟨z.2.2.1⟩=AD/\KnOk G w b z.2.1/\qOf w b z.2.2.2.2.1=z.1)/\
  (fS G w z.2.2.2.1 m.Xg b/\eA w z.2.2.2.1 m.Xg=z.2.2.1/\oV w z.2.2.2.1 b=z.1)/\(actW w (l.drop j) z.2.2.1/\fD w (l.drop j) z.2.2.1=fD w l m.Xg)/\∀x∈z.2.2.2.1,PaF x.Path)
  (λy:B4×j0=>(fS G w y.1 m.Xg b/\eA w y.1 m.Xg=fD w l m.Xg)/\(AA y.1)<=16/\∀x∈y.1,PaF x.Path) (AA l)
  ⟨0,⟨rfl,qa,rfl⟩,⟨hv,hK,rfl⟩,⟨trivial,rfl,rfl⟩,⟨hA,rfl⟩,λx Z=>by cases Z⟩ qa ?_ ?_
 ·rintro n ⟨q,H,B,out,la,_⟩ ⟨j,⟨rfl,hj,M⟩,⟨s,f,hq⟩,⟨D,i,N⟩,⟨g,h⟩,E⟩;dsimp only at M s f hq D i N g h E⊢;cases n with
  |zero=>
   refine .inr (.inr ⟨(out,H),?_,?_,⟨D,?_⟩,by show AA out<=16;omega,E⟩);{rw[ai qa]};{rw[ai qa]};rw[List.drop_of_length_le qa]at h;show eA w out m.Xg=_;rw[i];exact h
  |succ n=>
   have L:j<AA l:=qa;have Z:l.drop j=AF l j qt::l.drop (j+1):=by
    rw[qZ,w6 L,w7];exact xh L
   rw[Z]at g h;obtain⟨V,g⟩:=g;have Y:=rX s V
   have go:∀ (x:dc) (O:j0),KnOk G w b O->StpOk G w B q (AF l j qt) x->
    (0<=x.XJ/\x.XJ<(AA w.Xl:Int))/\∃A:Nat,(AG qs ((j:Int)+1)=(A:Int)/\A+n=AA l/\(AA (out++[x]))=A)/\(bJ w ⟨(appV w ⟨B⟩ (AF l j qt)).1.Xg⟩=AD/\KnOk G w b O/\qOf w b x.XJ=(AF w.Xl x.XJ.toNat qt).At)/\
     (fS G w (out++[x]) m.Xg b/\eA w (out++[x]) m.Xg=(appV w ⟨B⟩ (AF l j qt)).1.Xg/\oV w (out++[x]) b=(AF w.Xl x.XJ.toNat qt).At)/\(actW w (l.drop A) (appV w ⟨B⟩ (AF l j qt)).1.Xg/\fD w (l.drop A) (appV w ⟨B⟩ (AF l j qt)).1.Xg=fD w l m.Xg)/\∀y∈out++[x],PaF y.Path:=by
    intro x O U ⟨x1,x2,x3,x4⟩;have X:0<=x.XJ/\x.XJ<(AA w.Xl:Int):=by
     have:=x3;unfold lH at this;exact SW (xM.1 (xM.1 this).2).1
    obtain⟨s1,s2,s3⟩:=RJ (x:=x) D (by rw[i];exact x3) (by rw[i,N];exact x4);rw[i,x1]at s2;refine⟨X,j+1,⟨wn qa,qa,by rw[wW,wV,M]⟩,⟨Y,U,?_⟩,⟨s1,s2,s3⟩,⟨g,h⟩,λy F=>?_⟩;{unfold qOf;rw[qb qa];rfl};rcases wH.1 F with F|F;{exact E y F};rw[wP.1 F];exact x2
   have t:∀k:Nat,k=1->(AA out+k) * 80<=140737488355328/\(AA out)+k<=maxLen:=λk hk=>⟨qa,by rw[aF];omega⟩
   rw[ah qa,ah qa,ab qa,ab qa,qE];generalize hga:AF l j qt=a at *
   cases hd:mdom bV H (bV (situ B la a))with
   |true=>
    have d:=f B la a s hd;rw[hq]at d;simp only[qI,qd,ag,eS];generalize d8 bV H (bV (situ B la a))=x at d⊢;obtain⟨I,A,R⟩:=go x H f d;rw[ab (t [x].length rfl),ab (t [x].length rfl),ab I,ab I];exact .inl ⟨_,n,rfl,rfl,wB n,A,R⟩
   |false=>
    obtain⟨⟨x,ok⟩,er,hr⟩:=agW w B q a e H hM ho s;simp only[wF,qe,er,qH];cases ok with
    |false=>exact .inr (.inl ⟨_,rfl,f⟩)
    |true=>
     have d:=hr rfl;simp only at d;have C:=d;rw[<-hq]at C;obtain⟨I,A,R⟩:=go x _ (f.add s C) d;simp only[qI,qd,ag,eS];rw[ab (t [x].length rfl),ab (t [x].length rfl),ab I,ab I];exact .inl ⟨_,n,rfl,rfl,wB n,A,R⟩
 rintro y F;exact⟨rfl,_,rfl,F⟩
def ahY (G:Goes)(w:al)(m c g:A7)(r:B4×Int):Prop:=
 (r.2=1/\(fS G w r.1 m c/\gD (eA w r.1 m) g=AD)/\(AA r.1)<=16/\∀x∈r.1,PaF x.Path)\/(r.1=nl/\(r.2=2\/r.2=4))
theorem ahs(w:al)(m:aD)(c g:A7)(e:c6)(t:Int)(E:MotQ G e)(d:∀o∈w.Xd,AA o.Xc<4294967296)(hv:bJ w m=AD)(F:aI w.Xi.Xe c=AD)(x:AA g=AA w.Xd)(H:rngV e=AD)(O:1<=t/\t<=64):
 Gx (lT w m c g e t).o (ahY G w m.Xg c g):=by
 have y:(lT w m c g e t).o=(pJ w m c g e t).run NN:=rfl;have D:(⟨w.Xi,w.Xd,w.Xj,w.Xm,w.Xl,w.Xq⟩:al)=w:=rfl;have A:(⟨m.Xg⟩:aD)=m:=rfl;rw[y];simp only[pJ,qj,D,A,uU w m d,hv,kI,F,QJ,H,qH,qI,qd];rw[show((AA g:Int) !=(AA w.Xd:Int))=AE by rw[x];simp,ag,qd,ai qa,ai qa,ag,qd];refine Gx.loop (λn (z:j0×Ae×Int)=>KnOk G w c z.1/\∃j:Nat,z.2.2=(j:Int)/\j+n=64/\(AA z.2.1)=j) (λ_=>True) 64 ⟨.nil,0,rfl,rfl,rfl⟩ jU ?_ (λ_ _=>.some (.inr ⟨rfl,.inr rfl⟩));rintro n ⟨K,B,_⟩ ⟨s,j,rfl,N,k⟩;dsimp only at s k⊢;by_cases a:(j:Int)<t
 ·rw[ah a];refine .bind (afD w m g B d qa hv x) ?_;rintro⟨l,ok⟩ hl;cases ok with
  |false=>exact .some (.inr ⟨rfl,.inl rfl⟩)
  |true=>
   obtain⟨⟨f,h⟩,i⟩:=hl rfl;simp only at f h i;simp only[qI,qd];rcases ajB w m c l e K E d hv s f i with⟨r,b,hr⟩|⟨C,r,b,⟨I,L⟩,r3,M⟩;{simp only[b,Option.isSome_some,qe,qH];rw[ab ⟨by rw[wV];omega,by rw[wV,aF];omega⟩,wn qa];exact .some ⟨n-1,qa,hr,j+1,rfl,qa,by rw[wW,wV,k]⟩};simp only[C,b,Option.isSome_none,qd,qH];exact .some (.inl ⟨rfl,⟨I,by rw[L];exact h⟩,r3,M⟩)
 rw[ai a];exact .some trivial
theorem WE (l m o c:A7)(a d k:Int)(hl:AA l<4294967296)(O:AA m<4294967296)(w:AA o<4294967296)(M:AA c<4294967296):
 (Hq l m o c a d k).o=AB true:=by
 obtain⟨v,K,hv⟩:=YI l hl;obtain⟨n,H,s⟩:=abA hv m O;obtain⟨p,I,x⟩:=aaa R0 c M aiS rob0;obtain⟨g,G,t⟩:=aio hv o w;have j:=hv.small;have D:∀z,(l9 z 4).o=AB (z % 4):=λz=>A2 jU jU
 have y:∀z,(l9 z 20).o=AB (z % 20):=λz=>A2 jU jU
 have E:(nC a d).o=AB (⟨a % 4,3,4,d % 20⟩:c6):=by
  show(LI a d).run NN=_;simp only[LI,qj,D,y,qH]
 have b:aI v.Xi.Xe p=true:=by rw[hv.rob];exact x
 have hr:rngV (⟨a % 4,3,4,d % 20⟩:c6)=true:=by
  simp only[rngV,ql,qf];omega
 have R:AG qs (1+k % 4)=1+k % 4:=w64 qa qa;obtain⟨⟨f,V⟩,F,N⟩:=ahs v n p g (⟨a % 4,3,4,d % 20⟩:c6) (1+k % 4) (afx go_L _ (show a % 4<=5 from qa)) j s b t hr qa;show(Hr l m o c a d k).run NN=_;simp only[Hr,qj,K,H,hv.rob,I,G,E,D,R,F,agv,qH,qe];rcases N with⟨i,⟨e,B⟩,L,C⟩|⟨i,e⟩
 ·simp only at i e B L C;subst i;have A:=aen s b e t;have U:=Z0 v n p g f j qa C;rw[B,qe]at A;have c2:(chkV v n p g f).1=(AA f:Int):=by
   obtain⟨w1,X,-⟩:=valid_parts' s;unfold chkV;rw[aS w1,s,b,qh (show ¬AA g≠(AA v.Xd) from λh=>h t)];simp only[qI,qd,Bool.false_or];rw[EV e];simp
  simp only[U,A,c2,qH,beq_self_eq_true,qe];rfl
 simp only at i e;subst i;rcases e with rfl|rfl<;>rfl
end Go.Abs
