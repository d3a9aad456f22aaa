import Derived.Test.YtnfbbidmdkfilaaGreatDoorZDSoundD
open Go renaming World->qn
open Nat renaming le_refl->qk,mul_le_mul_right->zf,zero_add->xM
open Option renaming getD_some->wS
namespace Go.Abs
def Bzm:Res->Option Res
 | .vec sz n f _ e=>some (.vec sz n f n e)
 | .vecT _ n f e _ none=>some (.vec 1 n f n e)
 | .vecU sz n f _ e _ _ _ []=>some (.vec sz n f n e)
 |_=>none
def ShareCells (w:qn)(ρ:Env)(i:Nat)(r:Res)(b o:Nat):Prop:=
 match r with
 | .vec sz n _ _ _=>∃cap,ρ.vec i=some (b,n,cap)/\o<n * sz
 | .vecT sz n _ _ _ none=>(∃cap,ρ.vec i=some (b,n,cap)/\o<n)\/
  ∃e g cap c f q d a,ρ.vec i=some (e,g,cap)/\w.heap[e]?=some (.cells c f (0,0))/\q<n/\c[q]?=some (.slice (some ⟨b,0,none⟩) d a)/\o<d * sz
 | .vecU sz n _ k _ off h _ []=>(∃cap,ρ.vec i=some (b,n,cap)/\o<n * sz)\/
  ∃e g cap c f q d a,ρ.vec i=some (e,g,cap)/\w.heap[e]?=some (.cells c f (0,0))/\q<n/\q<k/\c[q * sz+off]?=some (.slice (some ⟨b,0,none⟩) d a)/\o<d * h
 |_=>False
def dzv (F:Cells)(w:qn)(ρ:Env)(m:Mem)(is:List Nat):Cells:=λb o=>
 F b o\/∃i∈is,∃r,m.get i=some r/\ShareCells w ρ i r b o
theorem ShareCells.owns {w:qn}{ρ:Env}{i:Nat}{r:Res}{b o:Nat}(h:ShareCells w ρ i r b o):Owns w ρ i r b:=by
 unfold ShareCells at h;split at h
 ·obtain⟨cap,h,_⟩:=h;exact .inl (by simp[bz8,h])
 ·rcases h with⟨cap,h,_⟩|⟨m,d,cap,c,j,q,g,a,l,k,f,e,_⟩
  ·exact .inl (by simp[bz8,h])
  ·exact .inr ⟨m,d,cap,c,j,q,l,k,f,jq,g,a,e⟩
 ·rcases h with⟨cap,h,_⟩|⟨m,d,cap,c,j,q,g,a,l,k,f,e,n,_⟩
  ·exact .inl (by simp[bz8,h])
  ·exact .inr ⟨m,d,cap,c,j,q,l,k,f,e,rfl,g,a,n⟩
 simp_all
theorem ShareCells.shared {w:qn}{ρ:Env}{i:Nat}{r:Res}{b o:Nat}(h:ShareCells w ρ i r b o):∃a,Bzm r=some a:=by
 unfold ShareCells at h;split at h
 ·exact⟨_,rfl⟩
 ·exact⟨_,rfl⟩
 ·exact⟨_,rfl⟩
 simp_all
theorem Ozv {m:Mem}(id:Nat)(l:List Nat):bzk m (id::l)=match(m.get id).bind Bzm with|some a=>(id,a)::bzk m l|none=>bzk m l:=by
 simp only[bzk];cases m.get id with
 |none=>rfl
 |some r=>cases r with
  |vecT _ _ _ _ _ h=>cases h<;>rfl
  |vecU _ _ _ _ _ _ _ _ h=>cases h<;>rfl
  |_=>rfl
theorem ez5 {m:Mem}:∀ {is:List Nat} {j:Nat} {r:Res},(bzk m is).get j=some r->j∈is/\∃c,m.get j=some c/\Bzm c=some r
 |[],j,r,h=>by grind[bzk,Mem.get]
 |i::is,j,r,h=>by
  rw[Ozv]at h;split at h
  ·rename_i e hi;obtain⟨c,a,b⟩:=Option.bind_eq_some_iff.1 hi;simp only[Mem.get]at h;split at h
   ·rename_i d;subst d;cases h;exact⟨jq,c,a,b⟩
   ·obtain⟨a,b⟩:=ez5 h;exact⟨by simp[a],b⟩
  ·obtain⟨a,b⟩:=ez5 h;exact⟨by simp[a],b⟩
theorem tzi {m:Mem}:∀ {is:List Nat} {j:Nat} {r d:Res},j∈is->m.get j=some r->Bzm r=some d->(bzk m is).get j=some d
 |[],j,_,_,h,_,_=>jt
 |i::is,j,r,d,h,e,c=>by
  rw[Ozv];by_cases a:i=j
  ·subst a;rw[e];simp[Mem.get,c]
  ·have b:j∈is:=by simpa[Ne.symm a]using h
   split
   ·simp only[Mem.get];rw[qb a];exact tzi b e c
   ·exact tzi b e c
theorem Jzc {r a:Res}(h:Bzm r=some a)(i:Nat):a.has i=false:=by
 unfold Bzm at h;split at h<;>cases h<;>rfl
theorem Fzf {w:qn}{ρ:Env}{j b:Nat}{r c:Res}(h:Bzm r=some c)(a:Owns w ρ j c b):Owns w ρ j r b:=by
 unfold Bzm at h;split at h<;>cases h
 ·exact a
 ·exact .inl (owns_vec.1 a)
 ·exact .inl (owns_vec.1 a)
variable {P:Program} {o:Oper} {env:Operand->AVal} {m:Mem} {id:Nat}
section
variable {F:Cells} {w:qn} {ρ:Env} {Mine:Nat->Prop} {M:Mem}
theorem qzx (S:MemOk F w ρ Mine M)(g:Good F w Mine){is:List Nat}(P:∀i∈is,M.get i=m.get i):
 Step Mine F w (dzv F w ρ m is) w/\MemOk (dzv F w ρ m is) w ρ Mine (bzk m is++M):=by
 have E:∀i∈is,∀r b o,m.get i=some r->ShareCells w ρ i r b o->M.get i=some r/\Owns w ρ i r b:=by
  intro i hi r b o B y;exact⟨(P i hi).trans B,y.owns⟩
 have st:Step Mine F w (dzv F w ρ m is) w:=by
  refine⟨λb o h=>.inl h,λ_ _ _=>rfl,λb o h=>?_,λb o h=>?_,Keep.refl _ _⟩
  ·rcases h with h|⟨i,hi,r,B,y⟩
   ·simp_all
   ·obtain⟨Y,U⟩:=E i hi _ _ _ B y;exact .inr (S.mine i _ b Y U).1
  ·rcases h with h|⟨i,hi,r,B,y⟩
   ·exact g.lt b o h
   ·obtain⟨Y,U⟩:=E i hi _ _ _ B y;exact(S.mine i _ b Y U).2
 have s:∀j r b o,M.get j=some r->Owns w ρ j r b->dzv F w ρ m is b o->F b o\/(j∈is/\ShareCells w ρ j r b o):=by
  intro j r b o H X d;rcases d with d|⟨i,hi,r',B,y⟩
  ·simp_all
  ·obtain⟨Y,U⟩:=E i hi _ _ _ B y;have:i=j:=S.disj i j _ r b Y H U X
   simp_all
 refine⟨st,MemOk.step S st (λ_=>True) (λ_ _=>⟨rfl,rfl⟩) (bzk m is) (λj r h hn=>⟨trivial,λi hi=>absurd trivial hi,λb X=>⟨rfl,λo d=>?_⟩⟩) (λj r h=>?_) (λj O r r' b h h' X L=>?_)⟩
 ·rcases s j r b o h X d with d|⟨H,d⟩
  ·omega
  ·obtain⟨r',hr'⟩:=d.shared
   grind[tzi]
 ·obtain⟨H,r0,B,y⟩:=ez5 h;have Z:=(P j H).trans B;have z:=S.ok j _ Z;refine⟨?_,λb X=>?_⟩
  ·unfold Bzm at y;split at y
   ·rename_i sz n f k e;cases y;refine⟨qk _,?_⟩;obtain⟨hk,z⟩:=z;rcases z with hnil|⟨b,cap,c,D,N,q3,q4,q5,q6,R,q8⟩
    ·simp_all
    ·refine .inr ⟨b,cap,c,D,N,q3,q4,q5,λo d=>?_,R,λi O p hi t=>?_⟩
     ·rcases s j _ b o Z (.inl (by simp[bz8,D])) d with d|⟨_,a,_,d⟩
      ·exact Nat.lt_of_lt_of_le (q6 o d) (zf _ hk)
      omega
     ·obtain⟨v,Q,T,v3⟩:=q8 i O p hi t;exact⟨v,Q,T,v3.mono st.sub st.cell⟩
   ·rename_i sz n f e e';cases y;refine⟨qk _,.inr ?_⟩;obtain⟨b,cap,c,D,N,q3,q4,q5,q6,R,q8,q9⟩:=z;have hcl:∀i,i<n->∃C g',f i=.lst sz C g':=λi hi=>by
     obtain⟨v,_,_,hv⟩:=R i hi;obtain⟨x,C,g',I,_,_⟩:=hv.resolve_left jq
     simp_all
    refine⟨b,cap,c,D,N,q3,q4,qa,λo d=>?_,λi hi=>?_,λi O p hi t=>?_⟩
    ·rcases s j _ b o Z (.inl (by simp[bz8,D])) d with d|⟨_,d⟩
     ·simp_all
     ·rcases d with⟨_,_,d⟩|⟨b0,n0,cap0,c0,e0,q,C,a,I,J,G,p4,_⟩
      ·omega
      ·rw[D]at I;cases I;rw[N]at J;cases J;exact absurd ⟨G,jq,C,a,p4⟩ (q9 q)
    ·obtain⟨C,g',e1⟩:=hcl i hi;rw[e1];rfl
    ·obtain⟨v,Q,T,hv⟩:=R i hi;obtain⟨x,C,g',I,J,G⟩:=hv.resolve_left jq;rw[I]at t;have K:O=0:=by
      grind[PVal.cells]
     subst K;simp[PVal.cells]at t;subst t;refine⟨v,jr,T,?_⟩;subst J;obtain⟨_,G⟩:=G;rcases G with⟨rfl,rfl⟩|⟨b',a,c',rfl,r2,r3,r4,r5,r6,r7,r8⟩
     ·exact .nil
     ·refine .sl (λx=>(c'[x]?).getD undef) r3 r4 r7 (λA j p l t=>?_) (λA j p l t=>?_)
      ·obtain⟨u,W,u2,u3⟩:=r8 A j p l t;simp only[xM,W,wS];refine⟨.inr ⟨_,H,_,B,.inr ⟨b,n,cap,c,e,i,C,a,D,N,hi,Q,?_⟩⟩,by grind[cell_of_row],u2⟩;have H:j<sz:=by grind
       calc A * sz+j<A * sz+sz:=qa
        _=(A+1) * sz:=jt
        _<=C * sz:=zf _ l
      ·obtain⟨u,W,u2,u3⟩:=r8 A j p l t;simp only[W,wS];exact u3.mono (λb o h=>.inl h) (λ_ _ _=>rfl)
   ·rename_i sz n f k e off s' e';cases y;obtain⟨hoff,hkn,z⟩:=z;refine⟨qk _,?_⟩;rcases z with⟨hn1,hn2,_⟩|⟨b,cap,c,D,N,q3,q4,q5,q6,R,q9⟩
    ·simp_all
    refine .inr ⟨b,cap,c,D,N,q3,q4,q5,λo d=>?_,R.len,λi O p hi t=>?_⟩
    ·rcases s j _ b o Z (.inl (by simp[bz8,D])) d with d|⟨_,d⟩
     ·simp_all
     ·rcases d with⟨_,_,d⟩|⟨b0,n0,cap0,c0,e0,q,C,a,I,J,G,p4,p5,_⟩
      ·omega
      ·rw[D]at I;cases I;rw[N]at J;cases J;exact absurd ⟨G,p4,rfl,C,a,p5⟩ (q9 q)
    ·by_cases K:O=off
     ·subst K;obtain⟨v,Q,T,v3,v4⟩:=R.own i p hi rfl t;refine⟨v,Q,T,?_⟩;by_cases V:i<k
      ·obtain⟨x,C,g',I,J,G⟩:=v3 V;subst I;subst J;obtain⟨_,G⟩:=G;rcases G with⟨rfl,rfl⟩|⟨b',a,c',rfl,r2,r3,r4,r5,r6,r7,r8⟩
       ·exact .nil
       ·refine .sl (λx=>(c'[x]?).getD undef) r3 r4 r7 (λA j p l t=>?_) (λA j p l t=>?_)
        ·obtain⟨u,W,u2,u3⟩:=r8 A j p l t;simp only[xM,W,wS];refine⟨.inr ⟨_,H,_,B,.inr ⟨b,n,cap,c,e,i,C,a,D,N,hi,V,Q,?_⟩⟩,by grind[cell_of_row],u2⟩;have H:j<s':=by grind
         calc A * s'+j<A * s'+s':=qa
          _=(A+1) * s':=jt
          _<=C * s':=zf _ l
        ·obtain⟨u,W,u2,u3⟩:=r8 A j p l t;simp only[W,wS];exact u3.mono (λb o h=>.inl h) (λ_ _ _=>rfl)
      ·exact(v4 (Nat.le_of_not_lt V)).mono (λb o h=>.inl h) (λ_ _ _=>rfl)
     ·obtain⟨v,Q,T,v3⟩:=R.cell i O p hi K t;exact⟨v,Q,T,v3.mono (λb o h=>.inl h) (λ_ _ _=>rfl)⟩
   simp_all
  ·have L:Owns w ρ j r0 b:=Fzf y X;obtain⟨Y,U⟩:=S.mine j _ b Z L;refine⟨Y,U,λk' r' hk' hn' hbk=>?_⟩;have:=S.disj j k' _ r' b Z hk' L hbk
   simp_all
 ·obtain⟨H,r0,B,y⟩:=ez5 h;obtain⟨hj',r0',h1',h2'⟩:=ez5 h';exact S.disj j O _ _ b ((P j H).trans B) ((P O hj').trans h1') (Fzf y X) (Fzf h2' L)
theorem az2k (P:MemOk F w ρ Mine M)(g:Good F w Mine){a:AVal}{v:Value}{p:PVal}{is js:List Nat}(h:az9a m a=some (p,is))(t:∀i∈is,i∈js)(H:∀i∈is,M.get i=m.get i)
 (G:ARel F w ρ a v):PRel (dzv F w ρ m js) w p v:=by
 unfold az9a at h;split at h
 ·rename_i i;split at h
  ·rename_i sz n f k e hi;obtain⟨rfl,rfl⟩:=h;obtain⟨Q,W⟩:=P.ok i _ ((H i jq).trans hi);rcases W with⟨J,C⟩|⟨b,cap,c,O,q2,Z,Y,q5,q6,q7,T⟩
   ·cases G with
    |vnil l=>subst C;exact .nil
    |vec l=>simp_all
   ·cases G with
    |vnil l=>simp_all
    |vec l=>
     rw[l]at O;cases O;refine .sl (λx=>(c[x]?).getD undef) Z Y q7 (λs j p d A=>?_) (λs j p d A=>?_)
     ·obtain⟨u,z,B,D⟩:=T s j p d A;simp only[xM,z,wS];refine⟨.inr ⟨i,t i jq,_,hi,cap,l,?_⟩,by grind[cell_of_row],B⟩;have hj:j<sz:=by grind
      calc s * sz+j<s * sz+sz:=qa
       _=(s+1) * sz:=jt
       _<=n * sz:=zf _ d
     ·obtain⟨u,z,B,D⟩:=T s j p d A;simp only[z,wS];exact D.mono (λb o h=>.inl h) (λ_ _ _=>rfl)
  ·rename_i sz n f e e' hi;obtain⟨rfl,rfl⟩:=h;have hM:=(H i jq).trans hi;obtain⟨_,I⟩:=qzx (m:=m) P g (is:=[i]) qa;have E:=I.ok i (.vec 1 n f n e) (by rw[Mem.get_append,tzi jq hi rfl];rfl);obtain⟨_,E⟩:=E;obtain⟨b,cap,c,O,q2,Z,Y,q5,q6,q7,T,q9⟩:=P.ok i _ hM;cases G with
   |vnil l=>simp_all
   |vec l=>
    rw[l]at O;cases O;rcases E with⟨J,C⟩|⟨b',N,V,L,r2,S,U,r5,r6,X,K⟩
    ·simp_all
    ·rw[l]at L;cases L;have y:∀b o,dzv F w ρ m [i] b o->dzv F w ρ m js b o:=by
      intro b o h;rcases h with h|⟨k,Q,r,J,C⟩
      ·exact .inl h
      ·exact .inr ⟨k,t k Q,r,J,C⟩
     refine .sl (λx=>(V[x]?).getD undef) S U X (λs j p d A=>?_) (λs j p d A=>?_)
     ·obtain⟨u,z,B,D⟩:=K s j p d A;simp only[xM,z,wS];refine⟨.inr ⟨i,t i jq,_,hi,.inl ⟨cap,l,?_⟩⟩,by grind[cell_of_row],B⟩
      grind
     ·obtain⟨u,z,B,D⟩:=K s j p d A;simp only[z,wS];exact D.mono y (λ_ _ _=>rfl)
  ·rename_i sz n f k e off s' e' hi;obtain⟨rfl,rfl⟩:=h;obtain⟨_,I⟩:=qzx (m:=m) P g (is:=[i]) qa;have E:=I.ok i (.vec sz n f n e) (by rw[Mem.get_append,tzi jq hi rfl];rfl);obtain⟨_,E⟩:=E;rcases E with⟨J,C⟩|⟨b',N,V,L,r2,S,U,r5,r6,X,K⟩
   ·cases G with
    |vnil l=>subst C;exact .nil
    |vec l=>simp_all
   cases G with
   |vnil l=>simp_all
   |vec l=>
    rw[l]at L;cases L;have y:∀b o,dzv F w ρ m [i] b o->dzv F w ρ m js b o:=by
     intro b o h;rcases h with h|⟨k,Q,r,J,C⟩
     ·exact .inl h
     ·exact .inr ⟨k,t k Q,r,J,C⟩
    refine .sl (λx=>(V[x]?).getD undef) S U X (λs j p d A=>?_) (λs j p d A=>?_)
    ·obtain⟨u,z,B,D⟩:=K s j p d A;simp only[xM,z,wS];refine⟨.inr ⟨i,t i jq,_,hi,.inl ⟨_,l,?_⟩⟩,by grind[cell_of_row],B⟩;have hj:j<sz:=by grind
     calc s * sz+j<s * sz+sz:=qa
      _=(s+1) * sz:=jt
      _<=n * sz:=zf _ d
    ·obtain⟨u,z,B,D⟩:=K s j p d A;simp only[z,wS];exact D.mono y (λ_ _ _=>rfl)
  ·rename_i hi;obtain⟨rfl,rfl⟩:=h;have R:ρ.vec i=none:=P.ok i _ ((H i jq).trans hi);cases G with
   |vnil l=>exact .nil
   |vec l=>simp_all
  grind
 ·split at h
  ·rename_i q hq;obtain⟨rfl,rfl⟩:=h;exact(G.toP hq).mono (λb o h=>.inl h) (λ_ _ _=>rfl)
  grind
theorem az2l (e:MemOk F w ρ Mine M)(g:Good F w Mine){js:List Nat}:∀ {l:List AVal} {ps:List PVal} {is:List Nat},azdw m l=some (ps,is)->(∀i∈is,i∈js)->(∀i∈is,M.get i=m.get i)->
 l.length=ps.length/\∀ (j:Nat) (p:PVal),ps[j]?=some p->∃a,l[j]?=some a/\∀v,ARel F w ρ a v->PRel (dzv F w ρ m js) w p v
 |[],ps,is,h,_,_=>by grind[azdw]
 |a::l,ps,is,h,b,c=>by
  simp only[azdw]at h;split at h
  ·rename_i p o r;split at h
   ·rename_i s n k;obtain⟨rfl,rfl⟩:=h;obtain⟨u,t⟩:=az2l e g k (λi hi=>b i jt) (λi hi=>c i jt);refine⟨jt,λj q d=>?_⟩;cases j with
    |zero=>simp at d;subst d;exact⟨a,jq,λv f=>az2k e g r (λi hi=>b i jt) (λi hi=>c i jt) f⟩
    |succ j=>simp_all
   grind
  grind
theorem kza (n:MemOk F w ρ Mine M)(g:Good F w Mine){a:AVal}{v:Value}{p:PVal}{is js:List Nat}(h:Cz7 m a=some (p,is))(b:∀i∈is,i∈js)(c:∀i∈is,M.get i=m.get i)
 (d:ARel F w ρ a v):PRel (dzv F w ρ m js) w p v:=by
 unfold Cz7 at h;split at h
 ·split at h
  ·rename_i ps k e;split at h
   ·obtain⟨rfl,rfl⟩:=h;obtain⟨f,q⟩:=az2l n g e b c;cases d with
    |agg l o=>
     refine .agg (f▸l) λj p u r s=>?_
     grind
   grind
  grind
 grind[az2k]
theorem Kzp (e:MemOk F w ρ Mine M)(g:Good F w Mine){js:List Nat}:∀ {l:List AVal} {ps:List PVal} {is:List Nat},Ez3 m l=some (ps,is)->(∀i∈is,i∈js)->(∀i∈is,M.get i=m.get i)->
 l.length=ps.length/\∀ (j:Nat) (p:PVal),ps[j]?=some p->∃a,l[j]?=some a/\∀v,ARel F w ρ a v->PRel (dzv F w ρ m js) w p v
 |[],ps,is,h,_,_=>by grind[Ez3]
 |a::l,ps,is,h,b,c=>by
  simp only[Ez3]at h;split at h
  ·rename_i p o r;split at h
   ·rename_i s n k;obtain⟨rfl,rfl⟩:=h;obtain⟨u,t⟩:=Kzp e g k (λi hi=>b i jt) (λi hi=>c i jt);refine⟨jt,λj q d=>?_⟩;cases j with
    |zero=>simp at d;subst d;exact⟨a,jq,λv f=>kza e g r (λi hi=>b i jt) (λi hi=>c i jt) f⟩
    |succ j=>simp_all
   grind
  grind
end
end Go.Abs
