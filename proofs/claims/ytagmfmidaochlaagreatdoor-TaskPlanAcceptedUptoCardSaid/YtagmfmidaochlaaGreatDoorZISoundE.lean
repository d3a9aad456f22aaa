import Derived.Test.YtagmfmidaochlaaGreatDoorZISoundD
open Option renaming some->AB
open Go renaming World->qm
open Nat renaming le_refl->wg,mul_le_mul_right->xo,zero_add->zq
open Option renaming getD_some->w7
namespace Go.Abs
def ib:Res->Option Res
 | .vec a n f _ e=>AB (.vec a n f n e)
 | .vecT _ n f e _ none=>AB (.vec 1 n f n e)
 | .vecU a n f _ e _ _ _ []=>AB (.vec a n f n e)
 |_=>none
def ShareCells (w:qm)(ρ:Env)(i:Nat)(r:Res)(b o:Nat):Prop:=
 match r with
 | .vec l n _ _ _=>∃j,ρ.vec i=AB (b,n,j)/\o<n * l
 | .vecT l n _ _ _ none=>(∃j,ρ.vec i=AB (b,n,j)/\o<n)\/
  ∃e g j c f q d a,ρ.vec i=AB (e,g,j)/\w.heap[e]?=AB (.cells c f (0,0))/\q<n/\c[q]?=AB (.slice (AB ⟨b,0,none⟩) d a)/\o<d * l
 | .vecU l n _ k _ p h _ []=>(∃j,ρ.vec i=AB (b,n,j)/\o<n * l)\/
  ∃e g j c f q d a,ρ.vec i=AB (e,g,j)/\w.heap[e]?=AB (.cells c f (0,0))/\q<n/\q<k/\c[q * l+p]?=AB (.slice (AB ⟨b,0,none⟩) d a)/\o<d * h
 |_=>False
def cM (F:Cells)(w:qm)(ρ:Env)(m:Mem)(is:List Nat):Cells:=λb o=>
 F b o\/∃i∈is,∃r,m.get i=AB r/\ShareCells w ρ i r b o
variable {r:Res}
theorem ShareCells.owns{w:qm}{ρ:Env}{i b o:Nat}(h:ShareCells w ρ i r b o):aE w ρ i r b:=by
 unfold ShareCells at h;split at h;{obtain⟨p,h,_⟩:=h;exact .inl (by simp[aX,h])}
 ·rcases h with⟨p,h,_⟩|⟨m,d,p,c,j,q,g,a,l,k,f,e,_⟩;{exact .inl (by simp[aX,h])};exact .inr ⟨m,d,p,c,j,q,l,k,f,jV,g,a,e⟩
 ·rcases h with⟨p,h,_⟩|⟨m,d,p,c,j,q,g,a,l,k,f,e,n,_⟩;{exact .inl (by simp[aX,h])};exact .inr ⟨m,d,p,c,j,q,l,k,f,e,rfl,g,a,n⟩
 simp_all
theorem ShareCells.shared{w:qm}{ρ:Env}{i b o:Nat}(h:ShareCells w ρ i r b o):∃a,ib r=AB a:=by unfold ShareCells at h;split at h;{exact⟨_,rfl⟩};{exact⟨_,rfl⟩};{exact⟨_,rfl⟩};simp_all
theorem PO {m:Mem}(id:Nat)(l:List Nat):bG m (id::l)=match(m.get id).bind ib with|some a=>(id,a)::bG m l|none=>bG m l:=by
 simp only[bG];cases m.get id with
 |none=>rfl
 |some r=>cases r with
  |vecT _ _ _ _ _ h=>cases h<;>rfl
  |vecU _ _ _ _ _ _ _ _ h=>cases h<;>rfl
  |_=>rfl
theorem fk {m:Mem}:∀ {is:List Nat} {j:Nat} {r:Res},(bG m is).get j=AB r->j∈is/\∃c,m.get j=AB c/\ib c=AB r
 |[],j,r,h=>by grind[bG,Mem.get]
 |i::is,j,r,h=>by
  rw[PO]at h;split at h
  ·rename_i e f;obtain⟨c,a,b⟩:=Option.bind_eq_some_iff.1 f;simp only[Mem.get]at h;split at h;{rename_i d;subst d;cases h;exact⟨jV,c,a,b⟩};obtain⟨a,b⟩:=fk h;exact⟨by simp[a],b⟩
  obtain⟨a,b⟩:=fk h;exact⟨by simp[a],b⟩
theorem rA {m:Mem}:∀ {is:List Nat} {j:Nat} {r d:Res},j∈is->m.get j=AB r->ib r=AB d->(bG m is).get j=AB d
 |[],j,_,_,h,_,_=>jX
 |i::is,j,r,d,h,e,c=>by
  rw[PO];by_cases a:i=j;{subst a;rw[e];simp[Mem.get,c]};have b:j∈is:=by simpa[Ne.symm a]using h
  split;{simp only[Mem.get];rw[qb a];exact rA b e c};exact rA b e c
variable {a:Res}
theorem CU(h:ib r=AB a)(i:Nat):a.has i=false:=by unfold ib at h;split at h<;>cases h<;>rfl
theorem BX{w:qm}{ρ:Env}{j b:Nat}(h:ib r=AB a)(c:aE w ρ j a b):aE w ρ j r b:=by
 unfold ib at h;split at h<;>cases h
 {exact c};{exact .inl (owns_vec.1 c)};exact .inl (owns_vec.1 c)
variable {P:Program} {o:Oper} {env:Operand->ac} {m:Mem} {id:Nat}
section
variable {F:Cells} {w:qm} {ρ:Env} {Mine:Nat->Prop} {M:Mem}
theorem k8 (S:aG F w ρ Mine M)(g:bM F w Mine){is:List Nat}(P:∀i∈is,M.get i=m.get i):
 Step Mine F w (cM F w ρ m is) w/\aG (cM F w ρ m is) w ρ Mine (bG m is++M):=by
 have E:∀i∈is,∀r b o,m.get i=AB r->ShareCells w ρ i r b o->M.get i=AB r/\aE w ρ i r b:=by
  intro i hi r b o B y;exact⟨(P i hi).trans B,y.owns⟩
 have st:Step Mine F w (cM F w ρ m is) w:=by
  refine⟨λb o h=>.inl h,λ_ _ _=>rfl,λb o h=>?_,λb o h=>?_,Keep.refl _ _⟩
  ·rcases h with h|⟨i,hi,r,B,y⟩;{simp_all};obtain⟨Y,U⟩:=E i hi _ _ _ B y;exact .inr (S.mine i _ b Y U).1
  rcases h with h|⟨i,hi,r,B,y⟩;{exact g.lt b o h};obtain⟨Y,U⟩:=E i hi _ _ _ B y;exact(S.mine i _ b Y U).2
 have s:∀j r b o,M.get j=AB r->aE w ρ j r b->cM F w ρ m is b o->F b o\/(j∈is/\ShareCells w ρ j r b o):=by
  intro j r b o H X d;rcases d with d|⟨i,hi,r',B,y⟩
  {simp_all};obtain⟨Y,U⟩:=E i hi _ _ _ B y;have:i=j:=S.disj i j _ r b Y H U X;simp_all
 refine⟨st,aG.step S st (λ_=>True) (λ_ _=>⟨rfl,rfl⟩) (bG m is) (λj r h hn=>⟨trivial,λi hi=>absurd trivial hi,λb X=>⟨rfl,λo d=>?_⟩⟩) (λj r h=>?_) (λj O r r' b h h' X L=>?_)⟩
 ·rcases s j r b o h X d with d|⟨H,d⟩;{omega};obtain⟨r',hr'⟩:=d.shared;grind[rA]
 ·obtain⟨H,r0,B,y⟩:=fk h;have Z:=(P j H).trans B;have z:=S.ok j _ Z;refine⟨?_,λb X=>?_⟩
  ·unfold ib at y;split at y
   ·rename_i sz n f k e;cases y;refine⟨wg _,?_⟩;obtain⟨hk,z⟩:=z;rcases z with hnil|⟨b,cap,c,D,N,q3,q4,q5,q6,R,q8⟩
    {simp_all};refine .inr ⟨b,cap,c,D,N,q3,q4,q5,λo d=>?_,R,λi O p hi t=>?_⟩
    ·rcases s j _ b o Z (.inl (by simp[aX,D])) d with d|⟨_,a,_,d⟩;{exact Nat.lt_of_lt_of_le (q6 o d) (xo _ hk)};omega
    obtain⟨v,Q,T,v3⟩:=q8 i O p hi t;exact⟨v,Q,T,v3.mono st.sub st.cell⟩
   ·rename_i sz n f e e';cases y;refine⟨wg _,.inr ?_⟩;obtain⟨b,cap,c,D,N,q3,q4,q5,q6,R,q8,q9⟩:=z;have hcl:∀i,i<n->∃C g',f i=.lst sz C g':=λi hi=>by
     obtain⟨v,_,_,hv⟩:=R i hi;obtain⟨x,C,g',I,_,_⟩:=hv.resolve_left jV;simp_all
    refine⟨b,cap,c,D,N,q3,q4,qa,λo d=>?_,λi hi=>?_,λi O p hi t=>?_⟩
    ·rcases s j _ b o Z (.inl (by simp[aX,D])) d with d|⟨_,d⟩;{simp_all};rcases d with⟨_,_,d⟩|⟨b0,n0,cap0,c0,e0,q,C,a,I,J,G,p4,_⟩;{omega};rw[D]at I;cases I;rw[N]at J;cases J;exact absurd ⟨G,jV,C,a,p4⟩ (q9 q)
    {obtain⟨C,g',e1⟩:=hcl i hi;rw[e1];rfl};obtain⟨v,Q,T,hv⟩:=R i hi;obtain⟨x,C,g',I,J,G⟩:=hv.resolve_left jV;rw[I]at t;have K:O=0:=by
     grind[ae.cells]
    subst K;simp[ae.cells]at t;subst t;refine⟨v,jW,T,?_⟩;subst J;obtain⟨_,G⟩:=G;rcases G with⟨rfl,rfl⟩|⟨b',a,c',rfl,r2,r3,r4,r5,r6,r7,r8⟩
    {exact .nil};refine .sl (λx=>(c'[x]?).getD undef) r3 r4 r7 (λA j p l t=>?_) (λA j p l t=>?_)
    ·obtain⟨u,W,u2,u3⟩:=r8 A j p l t;simp only[zq,W,w7];refine⟨.inr ⟨_,H,_,B,.inr ⟨b,n,cap,c,e,i,C,a,D,N,hi,Q,?_⟩⟩,by grind[cell_of_row],u2⟩;have H:j<sz:=by grind
     calc A * sz+j<A * sz+sz:=qa
      _=(A+1) * sz:=jX
      _<=C * sz:=xo _ l
    obtain⟨u,W,u2,u3⟩:=r8 A j p l t;simp only[W,w7];exact u3.mono (λb o h=>.inl h) (λ_ _ _=>rfl)
   ·rename_i sz n f k e off s' e';cases y;obtain⟨hoff,hkn,z⟩:=z;refine⟨wg _,?_⟩;rcases z with⟨hn1,hn2,_⟩|⟨b,cap,c,D,N,q3,q4,q5,q6,R,q9⟩
    {simp_all};refine .inr ⟨b,cap,c,D,N,q3,q4,q5,λo d=>?_,R.len,λi O p hi t=>?_⟩
    ·rcases s j _ b o Z (.inl (by simp[aX,D])) d with d|⟨_,d⟩;{simp_all};rcases d with⟨_,_,d⟩|⟨b0,n0,cap0,c0,e0,q,C,a,I,J,G,p4,p5,_⟩;{omega};rw[D]at I;cases I;rw[N]at J;cases J;exact absurd ⟨G,p4,rfl,C,a,p5⟩ (q9 q)
    by_cases K:O=off
    ·subst K;obtain⟨v,Q,T,v3,v4⟩:=R.own i p hi rfl t;refine⟨v,Q,T,?_⟩;by_cases V:i<k
     ·obtain⟨x,C,g',I,J,G⟩:=v3 V;subst I;subst J;obtain⟨_,G⟩:=G;rcases G with⟨rfl,rfl⟩|⟨b',a,c',rfl,r2,r3,r4,r5,r6,r7,r8⟩;{exact .nil};refine .sl (λx=>(c'[x]?).getD undef) r3 r4 r7 (λA j p l t=>?_) (λA j p l t=>?_)
      ·obtain⟨u,W,u2,u3⟩:=r8 A j p l t;simp only[zq,W,w7];refine⟨.inr ⟨_,H,_,B,.inr ⟨b,n,cap,c,e,i,C,a,D,N,hi,V,Q,?_⟩⟩,by grind[cell_of_row],u2⟩;have H:j<s':=by grind
       calc A * s'+j<A * s'+s':=qa
        _=(A+1) * s':=jX
        _<=C * s':=xo _ l
      obtain⟨u,W,u2,u3⟩:=r8 A j p l t;simp only[W,w7];exact u3.mono (λb o h=>.inl h) (λ_ _ _=>rfl)
     exact(v4 (Nat.le_of_not_lt V)).mono (λb o h=>.inl h) (λ_ _ _=>rfl)
    obtain⟨v,Q,T,v3⟩:=R.cell i O p hi K t;exact⟨v,Q,T,v3.mono (λb o h=>.inl h) (λ_ _ _=>rfl)⟩
   simp_all
  have L:aE w ρ j r0 b:=BX y X;obtain⟨Y,U⟩:=S.mine j _ b Z L;refine⟨Y,U,λk' r' hk' hn' hbk=>?_⟩;have:=S.disj j k' _ r' b Z hk' L hbk;simp_all
 obtain⟨H,r0,B,y⟩:=fk h;obtain⟨hj',r0',h1',h2'⟩:=fk h';exact S.disj j O _ _ b ((P j H).trans B) ((P O hj').trans h1') (BX y X) (BX h2' L)
theorem RM (P:aG F w ρ Mine M)(g:bM F w Mine){a:ac}{v:Value}{p:ae}{is js:List Nat}(h:o9 m a=AB (p,is))(t:∀i∈is,i∈js)(H:∀i∈is,M.get i=m.get i)
 (G:ak F w ρ a v):aH (cM F w ρ m js) w p v:=by
 unfold o9 at h;split at h
 ·rename_i i;split at h
  ·rename_i sz n f k e hi;obtain⟨rfl,rfl⟩:=h;obtain⟨Q,W⟩:=P.ok i _ ((H i jV).trans hi);rcases W with⟨J,C⟩|⟨b,cap,c,O,q2,Z,Y,q5,q6,q7,T⟩
   ·cases G with
    |vnil l=>subst C;exact .nil
    |vec l=>simp_all
   cases G with
   |vnil l=>simp_all
   |vec l=>
    rw[l]at O;cases O;refine .sl (λx=>(c[x]?).getD undef) Z Y q7 (λs j p d A=>?_) (λs j p d A=>?_)
    ·obtain⟨u,z,B,D⟩:=T s j p d A;simp only[zq,z,w7];refine⟨.inr ⟨i,t i jV,_,hi,cap,l,?_⟩,by grind[cell_of_row],B⟩;have hj:j<sz:=by grind
     calc s * sz+j<s * sz+sz:=qa
      _=(s+1) * sz:=jX
      _<=n * sz:=xo _ d
    obtain⟨u,z,B,D⟩:=T s j p d A;simp only[z,w7];exact D.mono (λb o h=>.inl h) (λ_ _ _=>rfl)
  ·rename_i sz n f e e' hi;obtain⟨rfl,rfl⟩:=h;have hM:=(H i jV).trans hi;obtain⟨_,I⟩:=k8 (m:=m) P g (is:=[i]) qa;have E:=I.ok i (.vec 1 n f n e) (by rw[Mem.get_append,rA jV hi rfl];rfl);obtain⟨_,E⟩:=E;obtain⟨b,cap,c,O,q2,Z,Y,q5,q6,q7,T,q9⟩:=P.ok i _ hM;cases G with
   |vnil l=>simp_all
   |vec l=>
    rw[l]at O;cases O;rcases E with⟨J,C⟩|⟨b',N,V,L,r2,S,U,r5,r6,X,K⟩
    {simp_all};rw[l]at L;cases L;have y:∀b o,cM F w ρ m [i] b o->cM F w ρ m js b o:=by
     intro b o h;rcases h with h|⟨k,Q,r,J,C⟩
     {exact .inl h};exact .inr ⟨k,t k Q,r,J,C⟩
    refine .sl (λx=>(V[x]?).getD undef) S U X (λs j p d A=>?_) (λs j p d A=>?_)
    ·obtain⟨u,z,B,D⟩:=K s j p d A;simp only[zq,z,w7];refine⟨.inr ⟨i,t i jV,_,hi,.inl ⟨cap,l,?_⟩⟩,by grind[cell_of_row],B⟩;grind
    obtain⟨u,z,B,D⟩:=K s j p d A;simp only[z,w7];exact D.mono y (λ_ _ _=>rfl)
  ·rename_i sz n f k e off s' e' hi;obtain⟨rfl,rfl⟩:=h;obtain⟨_,I⟩:=k8 (m:=m) P g (is:=[i]) qa;have E:=I.ok i (.vec sz n f n e) (by rw[Mem.get_append,rA jV hi rfl];rfl);obtain⟨_,E⟩:=E;rcases E with⟨J,C⟩|⟨b',N,V,L,r2,S,U,r5,r6,X,K⟩
   ·cases G with
    |vnil l=>subst C;exact .nil
    |vec l=>simp_all
   cases G with
   |vnil l=>simp_all
   |vec l=>
    rw[l]at L;cases L;have y:∀b o,cM F w ρ m [i] b o->cM F w ρ m js b o:=by
     intro b o h;rcases h with h|⟨k,Q,r,J,C⟩
     {exact .inl h};exact .inr ⟨k,t k Q,r,J,C⟩
    refine .sl (λx=>(V[x]?).getD undef) S U X (λs j p d A=>?_) (λs j p d A=>?_)
    ·obtain⟨u,z,B,D⟩:=K s j p d A;simp only[zq,z,w7];refine⟨.inr ⟨i,t i jV,_,hi,.inl ⟨_,l,?_⟩⟩,by grind[cell_of_row],B⟩;have hj:j<sz:=by grind
     calc s * sz+j<s * sz+sz:=qa
      _=(s+1) * sz:=jX
      _<=n * sz:=xo _ d
    obtain⟨u,z,B,D⟩:=K s j p d A;simp only[z,w7];exact D.mono y (λ_ _ _=>rfl)
  ·rename_i hi;obtain⟨rfl,rfl⟩:=h;have R:ρ.vec i=none:=P.ok i _ ((H i jV).trans hi);cases G with
   |vnil l=>exact .nil
   |vec l=>simp_all
  grind
 split at h;{rename_i q hq;obtain⟨rfl,rfl⟩:=h;exact(G.toP hq).mono (λb o h=>.inl h) (λ_ _ _=>rfl)};grind
theorem RN (e:aG F w ρ Mine M)(g:bM F w Mine){z:List Nat}:∀ {l:List ac} {x:List ae} {is:List Nat},pa m l=AB (x,is)->(∀i∈is,i∈z)->(∀i∈is,M.get i=m.get i)->
 l.length=x.length/\∀ (j:Nat) (p:ae),x[j]?=AB p->∃a,l[j]?=AB a/\∀v,ak F w ρ a v->aH (cM F w ρ m z) w p v
 |[],x,is,h,_,_=>by grind[pa]
 |a::l,x,is,h,b,c=>by
  simp only[pa]at h;split at h
  ·rename_i p o r;split at h
   ·rename_i s n k;obtain⟨rfl,rfl⟩:=h;obtain⟨u,t⟩:=RN e g k (λi y=>b i jX) (λi y=>c i jX);refine⟨jX,λj q d=>?_⟩;cases j with
    |zero=>simp at d;subst d;exact⟨a,jV,λv f=>RM e g r (λi y=>b i jX) (λi y=>c i jX) f⟩
    |succ j=>simp_all
   grind
  grind
theorem mf (n:aG F w ρ Mine M)(g:bM F w Mine){a:ac}{v:Value}{p:ae}{is js:List Nat}(h:fZ m a=AB (p,is))(b:∀i∈is,i∈js)(c:∀i∈is,M.get i=m.get i)
 (d:ak F w ρ a v):aH (cM F w ρ m js) w p v:=by
 unfold fZ at h;split at h
 ·split at h
  ·rename_i t k e;split at h
   ·obtain⟨rfl,rfl⟩:=h;obtain⟨f,q⟩:=RN n g e b c;cases d with
    |agg l o=>
     refine .agg (f▸l) λj p u r s=>?_
     grind
   grind
  grind
 grind[RM]
theorem OL (e:aG F w ρ Mine M)(g:bM F w Mine){js:List Nat}:∀ {l:List ac} {x:List ae} {is:List Nat},n7 m l=AB (x,is)->(∀i∈is,i∈js)->(∀i∈is,M.get i=m.get i)->
 l.length=x.length/\∀ (j:Nat) (p:ae),x[j]?=AB p->∃a,l[j]?=AB a/\∀v,ak F w ρ a v->aH (cM F w ρ m js) w p v
 |[],x,is,h,_,_=>by grind[n7]
 |a::l,x,is,h,b,c=>by
  simp only[n7]at h;split at h
  ·rename_i p o r;split at h
   ·rename_i s n k;obtain⟨rfl,rfl⟩:=h;obtain⟨u,t⟩:=OL e g k (λi y=>b i jX) (λi y=>c i jX);refine⟨jX,λj q d=>?_⟩;cases j with
    |zero=>simp at d;subst d;exact⟨a,jV,λv f=>mf e g r (λi y=>b i jX) (λi y=>c i jX) f⟩
    |succ j=>simp_all
   grind
  grind
end
end Go.Abs
