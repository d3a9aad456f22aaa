import Derived.Test.YtagmfmidaochlaaGreatDoorZISoundJ
import Derived.MapKept
open Bool renaming true->AD,false->AE
open List renaming length->AA
open Option renaming some->AB
open Array renaming toList_modify->jy
open Bool renaming and_eq_true->ql,not_eq_true'->qY
open Go renaming TypeId->qp,Value->qq,run_underlying->zN
open Go.Op renaming operands->zL
open Go.Result renaming andThen_ok->zB
open Go.Sem renaming run_bind->zC,run_pure->zD
open List renaming modify_succ_cons->jx,mem_iff_getElem?->jz
namespace Go.Abs
variable {P:Program} {o:Oper} {env:Operand->ac} {m:Mem} {id:Nat} {F:Cells} {w:World} {ρ:Env}
theorem ac8 {p:ae}{v:qq}(h:iV p v=AD):aH F w p v:=by
 cases p<;>cases v<;>simp[iV]at h
 {subst h;exact .bool};obtain⟨rfl,rfl⟩:=h;exact .int
theorem PX:∀ {c:List ae} {d:List qq},dE c d=true->AA c=AA d/\∀ (j:Nat) (p:ae) (v:qq),c[j]?=AB p->d[j]?=AB v->aH F w p v
 |[],[],_=>⟨rfl,jV⟩
 |[],_::_,h=>by simp[dE]at h
 |_::_,[],h=>by simp[dE]at h
 |p::c,v::d,h=>by
  simp only[dE,ql]at h;obtain⟨a,b⟩:=PX h.2;grind[ac8]
theorem Qj:∀ {b i:List ae} {k:List qq},bE b i=true->AA i=AA k->(∀ (j:Nat) (p:ae) (v:qq),i[j]?=AB p->k[j]?=AB v->aH F w p v)->dE i k=AD
 |[],[],[],_,_,_=>rfl
 |[],[],_::_,_,h,_=>jX
 |[],_::_,_,h,_,_=>by simp[bE]at h
 |_::_,[],_,h,_,_=>by simp[bE]at h
 |_::_,_::_,[],_,h,_=>jX
 |t::b,p::i,v::k,h,d,a=>by
  simp only[bE,ql]at h;have c:=a 0 p v jV jV;have e:=Qj h.2 (by simpa using d) (λj q u f g=>a (j+1) q u jW jW);simp only[dE,e,Bool.and_true];cases c<;>cases t<;>simp[lr]at h<;>simp[iV]
theorem Eh:∀ {f p q:List ae},bE f p=true->bE f q=true->∃r,cp p q=AB r/\∀l,dE q l=true->dE p l=r
 |[],[],[],_,_=>⟨AD,rfl,λl h=>qa⟩
 |[],_::_,_,h,_=>by simp[bE]at h
 |[],_,_::_,_,h=>by simp[bE]at h
 |_::_,[],_,h,_=>by simp[bE]at h
 |_::_,_,[],_,h=>by simp[bE]at h
 |t::f,a::p,b::q,d,e=>by
  simp only[bE,ql]at d e;obtain⟨r,g,i⟩:=Eh d.2 e.2;cases t<;>cases a<;>simp[lr]at d<;>cases b<;>simp[lr]at e
  ·rename_i x y;refine⟨(x==y)&&r,by simp[cp,g],λl c=>?_⟩;cases l with
   |nil=>simp[dE]at c
   |cons v l=>
    simp only[dE,ql]at c⊢;rw[i l c.2];cases v<;>simp[iV]at c⊢
    rw[c.1]
  rename_i o n m k s j;obtain⟨rfl,d⟩:=d;obtain⟨rfl,e⟩:=e;refine⟨(k==j)&&r,by simp[cp,g],λl c=>?_⟩;cases l with
  |nil=>simp[dE]at c
  |cons v l=>
   simp only[dE,ql]at c⊢;rw[i l c.2];cases v<;>simp[iV]at c⊢
   obtain⟨⟨rfl,rfl⟩,_⟩:=c;simp
theorem Q5 {a p q:List ae}(e:bE a p=AD)(c:bE a q=AD){v:qq}(b:b8 q v=AD):cp p q=AB (b8 p v):=by
 obtain⟨r,d,f⟩:=Eh e c;cases v<;>simp[b8]at b
 rw[d,b8,f _ b]
theorem nT:∀ {b:List Nat} {a f:List ae},bE a f=true->fits b a=true->fits b f=AD
 |[],[],[],_,_=>rfl
 |_,[],_::_,h,_=>by simp[bE]at h
 |_,_::_,[],h,_=>by simp[bE]at h
 |[],_::_,_::_,_,h=>by simp[fits]at h
 |_::_,[],[],_,h=>qa
 |k::b,t::a,p::f,h,c=>by
  simp only[bE,fits,ql]at h c⊢;refine⟨?_,nT h.2 c.2⟩;have e:=h.1;have d:=c.1;cases t<;>cases p<;>simp[lr]at e<;>revert d<;>unfold iY<;>split<;>simp_all
variable {e:qp}{t:List ae}
theorem PY{D:Nat}{em:Bool}{a:List Nat}(b:ol P e a)(d:aQ P e=AB (AA a))
 (l:∀x t,IsCells P F w e x t->fits a t=true->(Instr.checkKey em D e x).run P w=.ok () w) {y:Array qq}  (n:AA t=y.size)
 (h:∀ (j:Nat) (p:ae) (v:qq),t[j]?=AB p->y[j]?=AB v->aH F w p v) {s:Nat} {c:List Nat} (f:fits (a++c) (t.drop s)=AD):
 ∃x,(part e y s).run P w=.ok x w/\(Instr.checkKey em D e x).run P w=.ok () w/\fits c (t.drop (s+AA a))=true:=by
 obtain⟨q,g,i⟩:=rI f;rw[List.drop_drop]at g;simp only[List.length_drop]at i;by_cases m:s+AA a<=AA t
 ·obtain⟨x,r,o⟩:=IsCells.part (P:=P) (F:=F) (w:=w) s d n h qa b;grind
 rcases b with b|⟨b,f⟩
 ·have k:AA a=0:=qa;refine⟨_,iP (.inl ⟨b,AA a,d,rfl⟩),l _ [] (.inl ⟨b,_,rfl,jX,jV⟩) ?_,g⟩;simp_all
 omega
theorem rE (U:Bool):∀ (d:Nat) (t:qp) (g:List Nat),dt P d t=AB g->∀ (D:Nat) (x:qq) (B:List ae),IsCells P F w t x B->fits g B=true->
 (Instr.checkKey U (D+d) t x).run P w=.ok () w
 |0,_,_,h,_,_,_,_,_=>by simp[dt]at h
 |d+1,t,g,h,D,x,B,R,N=>by
  rw[show D+(d+1)=(D+d)+1 from rfl];have C:bA P t=AB true->∃X:Array qq,x=.agg X/\(AA B)=X.size/\∀ (j:Nat) (p:ae) (v:qq),B[j]?=AB p->X[j]?=AB v->aH F w p v:=by
   rcases R with⟨_,s⟩|⟨s,_⟩;all_goals simp_all
  simp only[dt]at h;split at h<;>rename_i r
  {simp[Instr.checkKey,zN r]};{simp[Instr.checkKey,zN r]};{simp[Instr.checkKey,zN r]}
  ·rename_i n e;split at h
   ·rename_i A J;split at h
    ·rename_i u;simp only[ql,qf,qY]at u;obtain⟨Y,rfl,E,m⟩:=C (by simp[bA,r]);rw[Instr.checkKey];simp only[zC,zN r,zB]
     have z:∀ (k i:Nat),fits (List.replicate k A).flatten (B.drop (i * AA A))=true->
      (forIn (List.range' i k) PUnit.unit λi _=>(do
       let a<-sizeOf e;let b<-part e Y (i * a)
       Instr.checkKey U (D+d) e b
       pure (ForInStep.yield PUnit.unit):Sem (ForInStep PUnit))).run P w=.ok PUnit.unit w:=by
      intro k;induction k with
      |zero=>simp_all
      |succ k I=>
       intro i q;obtain⟨y,H,K,M⟩:=PY (em:=U) (D:=D+d) (sy J) u.1 (λx B s G=>rE U d e A J D x B s G) E m q;simp_all[Nat.add_mul,List.range'_succ,cz]
     simp_all
    grind
   grind
  ·rename_i O;split at h;{cases h};obtain⟨Y,rfl,E,m⟩:=C (by simp[bA,r]);rw[Instr.checkKey];simp only[zC,zN r,zB]
   have z:∀ (l:List Field) (V:Nat) (g:List Nat),ic P (dt P d) l V=AB g->fits g (B.drop V)=true->
    (forIn l PUnit.unit λf _=>(if f.name≠ "_" then(do
     let b<-part f.type Y f.offset
     Instr.checkKey U (D+d) f.type b
     pure (ForInStep.yield PUnit.unit))else pure (ForInStep.yield PUnit.unit):Sem (ForInStep PUnit))).run P w=.ok PUnit.unit w:=by
    intro l;induction l with
    |nil=>simp
    |cons f l I=>
     intro V g c q;simp only[ic]at c;split at c
     ·rename_i L;simp only[ql,qf,bne_iff_ne,ne_eq]at L;obtain⟨rfl,o⟩:=L;split at c
      ·rename_i A s;split at c
       ·rename_i u;simp only[ql,qf,qY]at u;split at c;{rename_i T G;simp at c;subst c;obtain⟨y,H,K,M⟩:=PY (em:=U) (D:=D+d) (sy s) u.1 (λx B Q S=>rE U d f.type A s D x B Q S) E m q;simp only[List.forIn_cons,ne_eq,o,not_false_eq_true,if_true,zC,H,K,zB,zD];exact I _ _ G M};cases c
       cases c
      cases c
     cases c
   have:=z O.toList 0 g h (by simpa using N);simp at this;simp[this]
  cases h
theorem rH (p:List ae):∀ (l:List MapEntry) (i:Nat),(d9 p l i).map (·.2)=c7 p l
 |[],_=>rfl
 |e::l,i=>by
  simp only[d9,c7];split;{rfl};exact rH p l (i+1)
theorem vq {p:List ae}:∀ {l:List MapEntry} {i n:Nat} {v:qq},d9 p l i=AB (n,v)->∃j e,n=i+j/\l[j]?=AB e/\b8 p e.key=AD/\e.val=v
 |[],i,n,v,h=>by simp[d9]at h
 |e::l,i,n,v,h=>by
  simp only[d9]at h;split at h;{rename_i a;simp at h;exact⟨0,e,qa,jV,a,h.2⟩};obtain⟨j,f,g,d,c,b⟩:=vq h;exact⟨j+1,f,qa,by simpa using d,c,b⟩
theorem rK(b:bA P e=AB AD){q:List ae}{v:qq}(h:b8 q v=AD):IsCells P F w e v q:=by
 cases v<;>simp[b8]at h
 rename_i f;obtain⟨t,a⟩:=PX (F:=F) (w:=w) h;exact .inl ⟨b,f,rfl,qa,λj p v c d=>a j p v c jW⟩
theorem ST {k:qp}{j:List Nat}{m c:List ae}{a:qq}(p:dt P 20 k=AB j)(n:bA P k=AB AD)(f:fits j m=AD)(d:bE m c=AD)(b:b8 c a=AD):
 ∀ (l:List MapEntry) (i:Nat),(∀e∈l,∃q,bE m q=AD/\b8 q e.key=AD)->(Instr.findAsking k a l i).run P w=.ok (d9 c l i) w
 |[],i,_=>by rfl
 |e::l,i,o=>by
  obtain⟨q,r,s⟩:=o e jV;have g:=su (P:=P) (F:=λ_ _=>False) (w:=w) 20 k j p 9980 a e.key c q (b8 c e.key) (rK n b) (rK n s) (nT d f) (nT r f) (Q5 d r s);have h:(Op.equal k a e.key).run P w=.ok (b8 c e.key) w:=g;simp only[Instr.findAsking,d9,zC,h,zB];cases t:b8 c e.key with
  |true=>simp
  |false=>
   exact ST p n f d b l (i+1) (λe g=>o e (by simp[g]))
variable {f:List ae}
theorem run_findKey'{g:List Nat}{a:qq}(o:dt P 20 e=AB g)(n:bA P e=AB AD)(m:fits g t=AD)(i:bE t f=AD)(b:b8 f a=AD)
 (l:List MapEntry) (p:∀k∈l,∃q,bE t q=AD/\b8 q k.key=AD):(Instr.findKey e a l).run P w=.ok (d9 f l 0) w:=by
 obtain⟨d,j⟩:∃d,P.underlying e=AB d:=by
  grind[bA]
 simp only[Instr.findKey,zC,zN j,zB];have h:∃r,a=.agg r:=by cases a<;>simp[b8]at b;simp_all
 cases l with
 |nil=>rfl
 |cons k l=>
  grind[Instr.sameNow,Instr.findNow,ST]
theorem Po (p:List ae)(e:MapEntry):∀ (l:List MapEntry),c7 p (l++[e])=(c7 p l).or (if b8 p e.key then AB e.val else none)
 |[]=>by rfl
 |x::l=>by
  simp only[List.cons_append,c7];split;{rfl};exact Po p e l
theorem AP {p:List ae}{a v:qq}(d:b8 p a=AD):∀ (l:List MapEntry) (i n:Nat) (b:qq),d9 p l i=AB (i+n,b)->
 c7 p (l.modify n (λe=>{e with key:=a,val:=v}))=AB v
 |[],i,n,b,h=>by simp[d9]at h
 |e::l,i,n,b,h=>by
  simp only[d9]at h;split at h;{simp at h;obtain⟨rfl,_⟩:=h;simp[c7,d]};rename_i c;obtain⟨j,g,k,_⟩:=vq h;obtain⟨n,rfl⟩:∃f,n=f+1:=⟨n-1,qa⟩;rw[show i+(n+1)=i+1+n from qa]at h;simp only[jx,c7,c,Bool.false_eq_true,if_false];exact AP d l (i+1) n b h
theorem vL {p q:List ae}{a v:qq}(d:b8 p a=AD)(c:∀u,b8 p u=true->b8 q u=AE):∀ (l:List MapEntry) (i n:Nat) (b:qq),d9 p l i=AB (i+n,b)->
 c7 q (l.modify n (λe=>{e with key:=a,val:=v}))=c7 q l
 |[],i,n,b,h=>jW
 |e::l,i,n,b,h=>by
  simp only[d9]at h;split at h;{grind[c7]};obtain⟨j,k,g,_⟩:=vq h;obtain⟨n,rfl⟩:∃f,n=f+1:=⟨n-1,qa⟩;rw[show i+(n+1)=i+1+n from qa]at h;simp only[jx,c7];rw[vL d c l (i+1) n b h]
theorem CY:∀ {f p q:List ae},bE f p=true->bE f q=true->cp p q=AB true->p=q
 |[],[],[],_,_,_=>rfl
 |[],_::_,_,h,_,_=>by simp[bE]at h
 |[],_,_::_,_,h,_=>by simp[bE]at h
 |_::_,[],_,h,_,_=>by simp[bE]at h
 |_::_,_,[],_,h,_=>by simp[bE]at h
 |t::f,a::p,b::q,c,d,h=>by
  simp only[bE,ql]at c d;obtain⟨r,e,_⟩:=Eh c.2 d.2;cases t<;>cases a<;>simp[lr]at c<;>cases b<;>simp[lr]at d
  {simp[cp,e]at h;obtain⟨rfl,rfl⟩:=h;rw[CY c d e]};obtain⟨rfl,c⟩:=c;obtain⟨rfl,d⟩:=d;simp[cp,e]at h;obtain⟨rfl,rfl⟩:=h;rw[CY c d e]
theorem Cv {a p q:List ae}(c:bE a p=AD)(b:bE a q=AD):(cu q p=AD/\q=p)\/(cu q p=AE/\∀u,b8 p u=true->b8 q u=AE):=by grind[cu,CY,Q5]
theorem ab5{a b:qq}(h:b8 t a=AD)(i:b8 t b=AD):a=b/\Instr.sameBits 10000 a b=true:=by
 cases a<;>simp[b8]at h
 cases b<;>simp[b8]at i
 rename_i r d;have g:∀ (t:List ae) (r d:List qq),dE t r=true->dE t d=true->r=d/\((r.zip d).all λ(x,y)=>Instr.sameBits 9999 x y)=true:=by
  intro t;induction t with
  |nil=>intro r d f e;cases r<;>cases d<;>simp_all [dE]
  |cons c t n=>
   intro r d f e;cases r with
   |nil=>simp[dE]at f
   |cons x r=>
    cases d with
    |nil=>simp[dE]at e
    |cons y d=>
     simp only[dE,ql]at f e;have k:=f.1;have j:=e.1;have:x=y/\Instr.sameBits 9999 x y=true:=by
      cases c<;>cases x<;>simp[iV]at k<;>cases y<;>simp[iV]at j
      all_goals grind[Instr.sameBits]
     grind[List.zip_cons_cons]
 obtain⟨m,l⟩:=g t r.toList d.toList h i;simp_all[Instr.sameBits]
variable {b:List ae->Bool}
theorem To{i:Nat->Prop}{M:Mem}{c:List ae->ae}{j:Nat}(g:aG F w ρ i M)(h:M.get j=AB (.map t b c)):
 ∃f a,w.heap[ρ.blk j]?=AB (.map f a)/\(∀o,¬F (ρ.blk j) o)/\(∀e∈f.toList,∃q,bE t q=AD/\b8 q e.key=AD)/\
  (∀p,bE t p=true->c7 p f.toList=none->b p=AE)/\(∀p v,bE t p=true->c7 p f.toList=AB v->b p=AD/\aH F w (c p) v):=g.ok j _ h
theorem aef{z:ae}(h:tT P e=AB z):∃v,(zeroValue e).run P w=.ok v w/\aH F w z v:=by
 unfold tT at h;split at h
 ·split at h
  ·rename_i k g;split at h;{rename_i r c;cases h;obtain⟨m,f⟩:=gp c;refine⟨.agg k,by simp_all[zeroValue,typeInfo],.agg jW (λj p v l i=>?_)⟩;obtain⟨a,b,d⟩:=f j p l;simp[i]at b;subst b;exact(nF (F:=F) (w:=w) (ρ:=⟨λ_=>0,λ_=>none⟩) v).toP d};grind
  {rename_i v _ g;exact⟨v,by simp_all[zeroValue,typeInfo],(nF (F:=F) (w:=w) (ρ:=⟨λ_=>0,λ_=>none⟩) v).toP h⟩};grind
 grind
theorem Ua{b:ac}{v:qq}(e:b.toP=AB (.agg f))(a:ak F w ρ b v)(d:bE t f=AD):b8 f v=true:=by
 have:=a.toP e;cases this with
 |agg k h=>exact Qj d qa (λj p v g l=>h j p v g jW)
theorem afS{x ix:Operand}{ok:Bool}{out:Out}(O:o.op=.lookup e x ix ok)(h:Eu P e (env x) (env ix) ok m=AB out)(Q:holds out.obl):aq P o env m id out:=by
 unfold Eu at h;split at h
 ·rename_i k t j Z hx;split at h
  ·rename_i tm I val cs N L;split at h
   ·rename_i ks z Y hz;split at h
    ·rename_i X;simp only[ql,qf]at X;obtain⟨⟨y,B⟩,c⟩:=X;cases h;intro F w ρ Mine M a hm g fr hrd hfe ha;have hM:=hrd j jV;obtain⟨D,H,V,hF,p,hn,hs⟩:=To hm (hM.trans N);have R:a.eval x=.map (AB (ρ.blk j)):=by
      have:=hx▸ha x (by simp[O,zL]);generalize a.eval x=v at this;cases this;rfl
     have f:b8 cs (a.eval ix)=true:=Ua L (ha ix (by simp[O,zL])) c;have A:∀J,(Instr.checkKey J 10000 k (a.eval ix)).run P w=.ok () w:=λJ=>rE (F:=λ_ _=>False) J 20 k ks Y 9980 _ cs (rK y f) (nT c B)
     have d:=run_findKey' (w:=w) Y y B c f D.toList p;obtain⟨zv,U,S⟩:=aef (P:=P) (F:=F) (w:=w) hz;obtain⟨v,b,hv,K,C⟩:∃v b,aH F w (val cs) v/\I cs=b/\(Instr.lookup e (.map (AB (ρ.blk j))) (a.eval ix) ok).run P w=.ok (if ok then .tuple #[v,.bool b]else v) w:=by
      cases G:d9 cs D.toList 0 with
      |none=>
       have l:c7 cs D.toList=none:=by rw[<-rH cs _ 0,G];rfl
       have hd:=hn cs c l;refine⟨zv,AE,(Q hd).rel _ _ _ S,hd,?_⟩;rw[G]at d;simp[Instr.lookup,zN Z,MapKept.run_getObj_map V,A,d,U]
      |some r=>
       obtain⟨n,v⟩:=r;have l:c7 cs D.toList=AB v:=by rw[<-rH cs _ 0,G];rfl
       obtain⟨hd,hr⟩:=hs cs v c l;refine⟨v,AD,hr,hd,?_⟩;rw[G]at d;simp[Instr.lookup,zN Z,MapKept.run_getObj_map V,A,d]
     refine⟨if ok then .tuple #[v,.bool b]else v,w,F,ρ,.inl (by simp only[execOp,O,zC,R,C,zB,zD]),Step.refl g,λ_ _=>⟨rfl,rfl⟩,?_,hm⟩;cases ok;{exact .pure hv};simp only[if_true];refine .tup jV (λi a' v' s E=>?_)
     match i with
     |0=>simp at s E;subst s;subst E;exact .pure hv
     |1=>simp at s E;subst s;subst E;rw[K];exact .pure .bool
     |n+2=>simp at s
    cases h
   cases h
  cases h
 cases h
theorem afv{U:Nat->Prop}{M:Mem}{j:Nat}{z c:List ae->Bool}{u d:List ae->ae}{O a:Array MapEntry}{n clock':Nat}(s:aG F w ρ U M)(g:bM F w U)
 (A:M.get j=AB (.map t z u)) (P:w.heap[ρ.blk j]?=AB (.map O n)) (H:∀o,¬F (ρ.blk j) o)
 (E:∀e∈a.toList,∃q,bE t q=AD/\b8 q e.key=AD) (K:∀p,bE t p=true->c7 p a.toList=none->c p=AE)
 (C:∀p v,bE t p=true->c7 p a.toList=AB v->c p=AD/\aH F w (d p) v):
 Step U F w F {w with heap:=w.heap.setIfInBounds (ρ.blk j) (.map a clock')}/\aG F {w with heap:=w.heap.setIfInBounds (ρ.blk j) (.map a clock')} ρ U ([(j,.map t c d)]++M):=by
 obtain⟨N,L⟩:=MapKept.heap_set (o':=.map a clock') P;have m:=s.mine j _ _ A (.inl rfl);have f:∀b o,F b o->({w with heap:=w.heap.setIfInBounds (ρ.blk j) (.map a clock')}:World).cell? ⟨b,o,none⟩=w.cell? ⟨b,o,none⟩:=by
  grind[World.cell?]
 have B:Step U F w F {w with heap:=w.heap.setIfInBounds (ρ.blk j) (.map a clock')}:=by
  refine⟨λ_ _ h=>h,f,λ_ _ h=>.inl h,λb o h=>by simpa using g.lt b o h,⟨rfl,rfl,rfl,jV,λk _ E=>?_⟩⟩;grind
 refine⟨B,s.step B (λ_=>True) (λ_ _=>⟨rfl,rfl⟩) [(j,.map t c d)] (λi r X R=>⟨trivial,λ_ h=>absurd trivial h,λb l=>⟨?_,λ_ h=>h⟩⟩) (λi r X=>?_) (λi S r Q b X I _ _=>?_)⟩
 ·refine L b (λe=>?_);have:=s.disj i j _ _ b X A l (by rw[e];exact .inl rfl);grind[Mem.get]
 ·simp only[Mem.get]at X;split at X
  ·rename_i e;subst e;cases X;refine⟨⟨a,clock',N,H,E,K,λp v G D=>⟨(C p v G D).1,(C p v G D).2.mono (λ_ _ h=>h) f⟩⟩,λb l=>?_⟩;simp only[aE,cX,or_false,aX,Option.some.injEq]at l;subst l;refine⟨m.1,jW,λk Q x J y=>?_⟩;have:=s.disj k j _ _ _ x A y (.inl rfl);grind[Mem.get]
  simp_all
 grind[Mem.get]
theorem Ql{x f y:Operand}{out:Out}(ho:o.op=.mapUpdate e x f y\/o.op=.insert e x f y)(h:rG P e (env x) (env f) (env y) m=AB out):aq P o env m id out:=by
 unfold rG at h;split at h
 ·rename_i k t j hu hx;split at h
  ·rename_i S O Z C p I X hy;split at h
   ·rename_i ks hf;split at h
    ·rename_i hc;simp only[ql,qf]at hc;obtain⟨⟨N,Q⟩,u⟩:=hc;cases h;intro F w ρ Mine M a hm g fr hrd hfe U;have hM:=hrd j jV;obtain⟨D,d,E,hF,l,hn,hs⟩:=To hm (hM.trans I);have z:x∈o.op.operands/\f∈o.op.operands/\y∈o.op.operands:=by grind[zL]
     have hxv:a.eval x=.map (AB (ρ.blk j)):=by
      have:=hx▸U x z.1;generalize a.eval x=v at this;cases this;rfl
     have b:b8 C (a.eval f)=true:=Ua X (U f z.2.1) u;have hv:=(U y z.2.2).toP hy;have J:∀em,(Instr.checkKey em 10000 k (a.eval f)).run P w=.ok () w:=λem=>rE (F:=λ_ _=>False) em 20 k ks hf 9980 _ C (rK N b) (nT u Q)
     have A:=run_findKey' (w:=w) hf N Q u b D.toList l
     obtain⟨s,K,hrun,T,hn',V⟩:∃s K,(Instr.mapUpdate e (.map (AB (ρ.blk j))) (a.eval f) (a.eval y)).run P w=.ok () {w with heap:=w.heap.setIfInBounds (ρ.blk j) (.map s K)}/\
      (∀t∈s.toList,∃q,bE S q=AD/\b8 q t.key=AD)/\(∀q,bE S q=true->c7 q s.toList=none->(cu q C||O q)=AE)/\
      (∀q v,bE S q=true->c7 q s.toList=AB v->(cu q C||O q)=AD/\aH F w (if cu q C then p else Z q) v):=by
      cases R:d9 C D.toList 0 with
      |none=>
       have hfv:c7 C D.toList=none:=by grind[rH]
       rw[R]at A;refine⟨D.push {key:=a.eval f,val:=a.eval y,born:=d},d+1,?_,λt he=>?_,λq L c=>?_,λq v L c=>?_⟩;{simp[Instr.mapUpdate,zN hu,MapKept.run_getObj_map E,J,A,MapKept.run_setObj_map _ E]};all_goals grind[Po,Cv]
      |some r=>
       obtain⟨n,H⟩:=r;obtain⟨j',e0,hj',hej,hke,_⟩:=vq R;obtain⟨hee,hsb⟩:=ab5 hke b;rw[R]at A;have B:d9 C D.toList 0=AB (0+n,H):=jW;have Y:D[n]?=AB e0:=jW;have G:(Instr.keyThatStays e0.key (a.eval f)).run P w=.ok (a.eval f) w:=by
        simp_all[Instr.keyThatStays]
       refine⟨D.modify n (λt=>{t with key:=a.eval f,val:=a.eval y}),d,?_,λt he=>?_,λq L c=>?_,λq v L c=>?_⟩;{simp[Instr.mapUpdate,zN hu,MapKept.run_getObj_map E,J,A,Y,G,MapKept.run_setObj_map _ E]}
       ·rw[jy]at he;obtain⟨i,hi⟩:=jz.1 he;rw[List.getElem?_modify]at hi;split at hi;{grind};exact l t (jz.2 ⟨i,jW⟩)
       ·rw[jy]at c;rcases Cv u L with⟨W,rfl⟩|⟨W,h2⟩
        {rw[AP b _ 0 n H B]at c;grind};rw[vL b h2 _ 0 n H B]at c;simp_all
       rw[jy]at c;rcases Cv u L with⟨W,rfl⟩|⟨W,h2⟩
       ·rw[AP b _ 0 n H B]at c;simp_all
       rw[vL b h2 _ 0 n H B]at c;simp_all
     obtain⟨st,hm'⟩:=afv (clock':=K) hm g (hM.trans I) E hF T hn' V;refine⟨undef,_,F,ρ,.inr ⟨?_,rfl⟩,st,λ_ _=>⟨rfl,rfl⟩,.any,hm'⟩;grind[execOp,zC,zB,zD]
    grind
   grind
  grind
 grind
theorem ae6{out:Out}(f:o.op=.makeMap e none)(h:DH P e id=AB out):aq P o env m id out:=by
 unfold DH at h;split at h
 ·split at h
  ·rename_i D z E H;cases h;intro F w ρ Mine M a l g y _ C J;have n:Step Mine F w F (w.alloc (.map #[] 0)):=by
    have s:=Step.alloc g (.map #[] 0) (λ_=>False);simp_all
   let ρ':=ρ.setBlk id w.heap.size;have u:ρ'.blk id=w.heap.size:=qc rfl;have A:cA id ρ ρ':=λi K=>⟨qb (λh=>K ⟨qa,qa⟩),rfl⟩
   refine⟨.map (AB w.heap.size),w.alloc (.map #[] 0),F,ρ',.inl ?_,n,A,?_,?_⟩;{simp[execOp,f,Instr.makeMap]};{rw[<-u];exact .map};refine l.step n (λi=>¬Own id i) A [(id,.map D (λ_=>AE) (λ_=>z))] (λj r d _=>⟨λf=>?_,λi K=>y.has i j r (Classical.not_not.1 K) d,λb c=>⟨heap_alloc_old w _ (l.mine j r b d c).2,λ_ h=>h⟩⟩) (λj r d=>?_) (λj I r x b d G _ _=>?_);{have:=y.none j f;simp_all}
   ·simp only[Mem.get]at d;split at d;{rename_i t;subst t;cases d;refine⟨⟨#[],0,by grind[heap_alloc_new],λo f=>by exact absurd (g.lt _ _ f) qa,jV,λ_ _ _=>rfl,λp v _ h=>by simp[c7]at h⟩,λb c=>?_⟩;simp only[aE,cX,or_false,aX,u,Option.some.injEq]at c;subst c;exact⟨g.mine _ (Nat.le_refl _),jV,λq x B _ k=>absurd (l.mine q x _ B k).2 qa⟩};simp_all
   grind[Mem.get]
  grind
 grind
end Go.Abs
