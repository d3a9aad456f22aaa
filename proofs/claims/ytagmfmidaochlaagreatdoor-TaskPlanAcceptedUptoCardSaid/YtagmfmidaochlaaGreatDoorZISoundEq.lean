import Derived.Test.YtagmfmidaochlaaGreatDoorZISoundV
open List renaming length->S
open Option renaming some->T
open Bool renaming and_assoc->zP,and_eq_true->ql,not_eq_true'->qY
open Go renaming TypeId->qp,Value->qq,Program->qn,run_underlying->zN
open Go.Result renaming andThen_ok->zB
open List renaming cons_append->wD,drop_drop->zQ,take_append_drop->xS,replicate->qr,eq_nil_of_length_eq_zero->zR
open Option renaming map_eq_some_iff->zK
namespace Go.Abs
variable {F:Cells} {w:World} {ρ:Env} {P:qn}
def IsCells (P:qn)(F:Cells)(w:World)(t:qp)(x:qq)(a:List ae):Prop:=
 (bA P t=T true/\∃b:Array qq,x=.agg b/\(S a)=b.size/\∀ (j:Nat) (p:ae) (v:qq),a[j]?=T p->b[j]?=T v->aH F w p v)\/
 (bA P t=T false/\∃p,a=[p]/\aH F w p x)
theorem Ln:∀ {a e b g:List ae} {r:Bool},S a=S e->cp (a++b) (e++g)=T r->
 ∃f c,cp a e=T f/\cp b g=T c/\r=(f&&c)
 |[],[],b,g,r,_,h=>⟨true,r,rfl,jW,jV⟩
 |[],_::_,_,_,_,l,_=>jX
 |_::_,[],_,_,_,l,_=>jX
 |x::a,y::e,b,g,r,l,h=>by
  have d:S a=S e:=by simpa using l
  simp only[wD]at h;cases x<;>cases y<;>simp only[cp]at h<;>try(cases h;done)
  all_goals
   first
   |(split at h
     {simp only[zK]at h;obtain⟨q,j,rfl⟩:=h;obtain⟨f,c,i,k,rfl⟩:=Ln d j;rename_i m;exact⟨_,c,by simp[cp,i,m];rfl,k,by simp[zP]⟩};cases h)
   |(simp only[zK]at h
     obtain⟨q,j,rfl⟩:=h;obtain⟨f,c,i,k,rfl⟩:=Ln d j;exact⟨_,c,by simp[cp,i];rfl,k,by simp[zP]⟩)
theorem IsCells.part {t:qp}{s:Nat}{i:Array qq}{k:List ae}(g:Nat)(c:aQ P t=T s)(e:S k=i.size)
 (h:∀ (j:Nat) (p:ae) (v:qq),k[j]?=T p->i[j]?=T v->aH F w p v) (b:g+s<=i.size) (a:(bA P t=T true)\/(bA P t=T false/\s=1)):
 ∃x,(Go.part t i g).run P w=.ok x w/\IsCells P F w t x ((k.drop g).take s):=by
 rcases a with a|⟨a,rfl⟩
 ·refine⟨_,iP (.inl ⟨a,s,c,rfl⟩),.inl ⟨a,_,rfl,jX,λj p v d f=>?_⟩⟩;grind
 refine⟨i[g],iP (.inr ⟨a,jV⟩),.inr ⟨a,k[g],?_,h g _ _ jV jV⟩⟩;grind[List.drop_eq_getElem_cons]
theorem rI:∀ {a b:List Nat} {f:List ae},fits (a++b) f=true->fits a (f.take (S a))=true/\fits b (f.drop (S a))=true/\(S a)<=S f
 |[],b,f,h=>by simpa[fits]using h
 |k::a,b,[],h=>by simp[fits]at h
 |k::a,b,p::f,h=>by
  simp only[wD,fits,ql]at h;obtain⟨c,e,d⟩:=rI h.2;simp[fits,h.1,c,e,d]
theorem rv:∀ {a:List Nat} {b:List ae},fits a b=true->S b=S a
 |[],[],_=>rfl
 |[],_::_,h=>by simp[fits]at h
 |_::_,[],h=>by simp[fits]at h
 |_::a,_::b,h=>by
  simp only[fits,ql]at h;simp[rv h.2]
def ol (P:qn)(t:qp)(a:List Nat):Prop:=(bA P t=T true)\/(bA P t=T false/\(S a)=1)
theorem sy {d:Nat}{t:qp}{b:List Nat}(h:dt P d t=T b):ol P t b:=by
 cases d with
 |zero=>simp[dt]at h
 |succ d=>
  simp only[dt]at h
  split at h<;>rename_i a<;>first
   |(simp at h;subst h;right;simp[bA,a];done)
   |(left;simp[bA,a];done)
   |simp_all
def tw (P:qn)(F:Cells)(w:World)(D:Nat)(t:qp)(b:List Nat):Prop:=
 ∀ (x y:qq) (c a:List ae) (r:Bool),IsCells P F w t x c->IsCells P F w t y a->fits b c=true->fits b a=true->cp c a=T r->
   (Op.equalIn D t x y).run P w=.ok r w
theorem Te {D:Nat}{e:qp}{a b:List Nat}(E:tw P F w D e a)(n:ol P e a)(k:aQ P e=T (S a))(I:0<S a){Q i:Array qq}{O c:List ae}
 (s:S O=Q.size) (g:S c=i.size) (z:∀ (j:Nat) (p:ae) (v:qq),O[j]?=T p->Q[j]?=T v->aH F w p v)
 (u:∀ (j:Nat) (p:ae) (v:qq),c[j]?=T p->i[j]?=T v->aH F w p v) {N:Nat} {r:Bool}
 (K:fits (a++b) (O.drop N)=true) (L:fits (a++b) (c.drop N)=true) (h:cp (O.drop N) (c.drop N)=T r):
 ∃x y d f,(part e Q N).run P w=.ok x w/\(part e i N).run P w=.ok y w/\(Op.equalIn D e x y).run P w=.ok d w/\r=(d&&f)/\
  fits b (O.drop (N+S a))=true/\fits b (c.drop (N+S a))=true/\cp (O.drop (N+S a)) (c.drop (N+S a))=T f:=by
 obtain⟨t,m,G⟩:=rI K;obtain⟨M,l,H⟩:=rI L;rw[zQ]at m l;simp only[List.length_drop]at G H;rw[<-xS (S a) (O.drop N),<-xS (S a) (c.drop N),zQ,zQ]at h;obtain⟨d,f,B,o,rfl⟩:=Ln jW h;obtain⟨x,C,J⟩:=IsCells.part (P:=P) (F:=F) (w:=w) N k s z qa n;obtain⟨y,A,q⟩:=IsCells.part (P:=P) (F:=F) (w:=w) N k g u qa n;exact⟨x,y,d,f,C,A,E x y _ _ d J q t M B,rfl,m,l,o⟩
theorem Sd {D:Nat}{e:qp}{a:List Nat}(t:tw P F w D e a)(A:ol P e a)(m:aQ P e=T (S a))(d:0<S a){Q l:Array qq}{O f:List ae}
 (q:S O=Q.size) (c:S f=l.size) (s:∀ (j:Nat) (p:ae) (v:qq),O[j]?=T p->Q[j]?=T v->aH F w p v)
 (z:∀ (j:Nat) (p:ae) (v:qq),f[j]?=T p->l[j]?=T v->aH F w p v):
 ∀ (k i:Nat) (r:Bool),fits (qr k a).flatten (O.drop (i * S a))=true->fits (qr k a).flatten (f.drop (i * S a))=true->
   cp (O.drop (i * S a)) (f.drop (i * S a))=T r->(Op.eqItems D e (P.cellsOf e) Q l (List.range' i k)).run P w=.ok r w
 |0,i,r,g,n,h=>by
  have N:=rv g;have M:=rv n;simp_all[zR,cp,Op.eqItems]
 |k+1,i,r,g,n,h=>by
  have u:P.cellsOf e=S a:=by
   obtain⟨G,R,o⟩:=kQ m;simp[Program.cellsOf,R,o]
  obtain⟨x,y,J,I,K,H,L,rfl,C,B,E⟩:=Te t A m d q c s z g n h;rw[show i * S a+S a=(i+1) * S a by rw[Nat.add_mul];omega]at C B E;have b:=Sd t A m d q c s z k (i+1) I C B E;rw[List.range'_succ];rw[u]at b;simp only[Op.eqItems,u,Sem.run_bind,K,H,L,zB];cases J;{simp};simpa using b
theorem Rc {D:Nat}{g:qp->Option (List Nat)}{X n:Array qq}{V e:List ae}(C:∀t a,g t=T a->tw P F w D t a/\ol P t a)
 (z:S V=X.size) (d:S e=n.size) (A:∀ (j:Nat) (p:ae) (v:qq),V[j]?=T p->X[j]?=T v->aH F w p v)
 (q:∀ (j:Nat) (p:ae) (v:qq),e[j]?=T p->n[j]?=T v->aH F w p v):
 ∀ (i:List Field) (U:Nat) (a:List Nat) (r:Bool),ic P g i U=T a->fits a (V.drop U)=true->fits a (e.drop U)=true->
   cp (V.drop U) (e.drop U)=T r->(Op.eqFields D X n i).run P w=.ok r w
 |[],U,a,r,h,k,l,m=>by
  simp[ic]at h;subst h;rw[zR (rv k),zR (rv l)]at m;simp_all[cp,Op.eqFields]
 |f::i,U,a,r,h,k,l,m=>by
  simp only[ic]at h;split at h
  ·rename_i s;simp only[ql,qf,bne_iff_ne,ne_eq]at s;obtain⟨rfl,b⟩:=s;split at h
   ·rename_i Q o;split at h
    ·rename_i u;simp only[ql,qf,qY]at u;split at h;{rename_i R c;simp at h;subst h;obtain⟨L,K⟩:=C _ _ o;obtain⟨x,y,N,I,G,J,O,rfl,M,H,E⟩:=Te L K u.1 jX z d A q k l m;have B:=Rc C z d A q i _ _ I c M H E;simp only[Op.eqFields,ne_eq,b,not_false_eq_true,if_true,Sem.run_bind,G,J,O,zB];cases N;all_goals simp_all};grind
    grind
   grind
  grind
theorem su:∀ (d:Nat) (t:qp) (o:List Nat),dt P d t=T o->∀ (D:Nat),tw P F w (D+d) t o
 |0,_,_,h,_=>by simp[dt]at h
 |d+1,t,o,h,D=>by
  intro x y V z r J G c b H;have i:bA P t=T false->∃p q,V=[p]/\z=[q]/\aH F w p x/\aH F w q y:=by
   intro Q;rcases J with⟨B,_⟩|⟨_,p,rfl,m⟩
   {simp_all};rcases G with⟨B,_⟩|⟨_,q,rfl,l⟩;all_goals simp_all
  have s:bA P t=T true->(∃U:Array qq,x=.agg U/\(S V)=U.size/\∀ (j:Nat) (p:ae) (v:qq),V[j]?=T p->U[j]?=T v->aH F w p v)/\
   (∃U:Array qq,y=.agg U/\(S z)=U.size/\∀ (j:Nat) (p:ae) (v:qq),z[j]?=T p->U[j]?=T v->aH F w p v):=by
   intro Q;rcases J with⟨_,B⟩|⟨B,_⟩
   {rcases G with⟨_,O⟩|⟨O,_⟩;all_goals simp_all};simp_all
  rw[show D+(d+1)=(D+d)+1 from rfl];simp only[dt]at h;split at h<;>rename_i k
  ·obtain⟨p,q,rfl,rfl,m,l⟩:=i (by simp[bA,k]);simp at h;subst h;cases m<;>simp[fits,iY]at c
   cases l<;>simp[fits,iY]at b
   simp_all[cp,Op.equalIn,zN]
  ·obtain⟨p,q,rfl,rfl,m,l⟩:=i (by simp[bA,k]);simp at h;subst h;cases m<;>simp[fits,iY]at c
   cases l<;>simp[fits,iY]at b
   simp[cp]at H;obtain⟨rfl,rfl⟩:=H;simp[Op.equalIn,zN k]
  ·obtain⟨p,q,rfl,rfl,m,l⟩:=i (by simp[bA,k]);simp at h;subst h;cases m<;>simp[fits,iY]at c
   cases l<;>simp[fits,iY]at b
   simp_all[cp,Op.equalIn,zN]
  ·rename_i n e;split at h
   ·rename_i N I;split at h;{rename_i A;simp only[ql,qf,qY]at A;obtain⟨⟨X,rfl,E,f⟩,⟨C,rfl,a,g⟩⟩:=s (by simp[bA,k]);obtain⟨L,Y,M⟩:=kQ A.1;rw[run_equalIn_array w (D+d) X C k Y,List.range_eq_range'];exact Sd (su d e N I D) (sy I) A.1 jX E a f g n 0 r jW jW jW};grind
   grind
  ·rename_i K;split at h;{cases h};obtain⟨⟨X,rfl,E,f⟩,⟨C,rfl,a,g⟩⟩:=s (by simp[bA,k]);have R:P.underlying t=T (.struct (P.fieldsOf t)):=by grind[Program.fieldsOf]
   have u:P.fieldsOf t=K:=jW;rw[run_equalIn_struct w (D+d) t X C R jW,u];exact Rc (λt o h=>⟨su d t o h D,sy h⟩) E a f g K.toList 0 o r h jW jW jW
  grind
theorem Dg:∀ (d:Nat) (t:qp) (b:List Nat),dt P d t=T b->∀D,d<=D->P.eqGuardType D t=false
 |0,_,_,h,_,_=>by simp[dt]at h
 |d+1,t,b,h,0,p=>qa
 |d+1,t,b,h,D+1,p=>by
  simp only[dt]at h;simp only[Program.eqGuardType];split at h<;>rename_i o<;>(try simp only[o])
  ·rename_i n e;split at h;{rename_i g k;exact Dg d e g k D qa};cases h
  ·split at h;{cases h};rw[<-Array.any_toList]
   have:∀ (l:List Field) (c:Nat) (b:List Nat),ic P (dt P d) l c=T b->(l.any λf=>f.name != "_" &&P.eqGuardType D f.type)=false:=by
    intro l;induction l with
    |nil=>simp
    |cons f l m=>
     intro c b a;simp only[ic]at a;split at a
     ·split at a
      ·rename_i g i;split at a
       ·split at a;{rename_i q j;simp[m _ _ j,Dg d _ _ i D qa]};cases a
       cases a
      cases a
     cases a
   exact this _ _ _ h
  cases h
end Go.Abs
