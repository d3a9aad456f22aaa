import Derived.Test.YtagmfmidaochlaaGreatDoorZIRegion
open Bool renaming and_eq_true->ql
open Go renaming World->qm,Program->qn
open List renaming all_eq_true->qk
namespace Go.Abs
inductive Ex where
 |normal
 |exit (id:Nat)
 |ret
def Ex.to:Ex->Exit
 | .normal=>.normal
 | .exit id=>.exit id
 | .ret=>.ret
inductive Scr:Type 1 where
 |nil
 |hint (r i:Nat) (h:Hint) (rest:Scr)
 |loop (n:Nat) (σ:Type) (I:σ->St) (Inv:σ->Prop) (μ:σ->Nat) (inner:σ->Scr) (rest:Scr)
 |unroll (n k:Nat) (rest:Scr)
structure LoopS:Type 1 where
 σ:Type
 I:σ->St
 Inv:σ->Prop
 μ:σ->Nat
 inner:σ->Scr
mutual
def FM (e:Nat):ac->ac->List (Nat×Nat)
 | .vec i,.vec j=>if i<e then []else [(i,j)]
 | .ptr i _,.ptr j _=>if i<e then []else [(i,j)]
 | .map i,.map j=>if i<e then []else [(i,j)]
 | .bsl i _,.bsl j _=>if i<e then []else [(i,j)]
 | .view i _ _ _,.view j _ _ _=>if i<e then []else [(i,j)]
 | .iface _ a,.iface _ b=>FM e a b
 | .agg f,.agg g=>i7 e f g
 | .tup f,.tup g=>i7 e f g
 | .func _ a b,.func _ c d=>i7 e a c++i7 e b d
 |_,_=>[]
def i7 (e:Nat):List ac->List ac->List (Nat×Nat)
 |a::l,b::m=>FM e a b++i7 e l m
 |_,_=>[]
end
def Tp (b:Nat)(s:St):List (Nat×ac)->List (Nat×Nat)
 |[]=>[]
 |(t,a)::l=>FM b a (s.get t)++Tp b s l
def idOf (a:Nat)(σ:List (Nat×Nat))(i:Nat):Nat:=if i<a then i else(gB σ i).getD i
def kZ (a:Nat)(s:St)(σ:List (Nat×Nat)):Mem->List (Nat×Nat)
 |[]=>[]
 |(i,.box c)::m=>(match s.mem.get (idOf a σ i)with
  |some (.box e)=>i7 a c e
  |_=>[])++kZ a s σ m
 |(i,.vecX _ _ _ _ _ _ k)::m=>(match s.mem.get (idOf a σ i)with
  |some (.vecX _ _ _ _ _ _ f)=>if k<a then []else [(k,f)]
  |_=>[])++kZ a s σ m
 |(i,.vecU _ _ _ _ _ _ _ _ d)::m=>(match s.mem.get (idOf a σ i)with
  |some (.vecU _ _ _ _ _ _ _ _ b)=>(d.zip b).filterMap λx=>if x.1.2<a then none else some (x.1.2,x.2.2)
  |_=>[])++kZ a s σ m
 |_::m=>kZ a s σ m
def EQ (b:Nat)(s a:St):List (Nat×Nat):=
 let σ:=Tp b s a.fr++i7 b a.df s.df;let d:=σ++kZ b s σ a.mem;let c:=d++kZ b s d a.mem
 c++kZ b s c a.mem
def fT:Res->Bool
 | .gone=>true
 |_=>false
variable {w:qm}
theorem Ro{ρ:Env}{i b:Nat}{r:Res}(h:fT r=true):¬aE w ρ i r b:=by grind[fT,aE,cX,aX]
def injB (τ:Nat->Nat)(m:Mem):Bool:=m.all λx=>m.all λy=>τ x.1 !=τ y.1||x.1==y.1||fT x.2||fT y.2
theorem Th {τ:Nat->Nat}{m:Mem}(h:injB τ m=true){x y:Nat×Res}(a:x∈m)(b:y∈m)(c:τ x.1=τ y.1)(e:fT x.2=false)(d:fT y.2=false):x.1=y.1:=by have:=qk.1 (qk.1 h x a) y b;simp_all
theorem vt{ρ:Env}{i b:Nat}{r:Res}(h:aE w ρ i r b):fT r=false:=by grind[Ro]
theorem afy{F:Cells}{ρ:Env}{f:Nat->Prop}{m:Mem}(c:aG F w ρ f m){a b:ac}{v:Value}(h:ak F w ρ a v):ak F w ρ (nilP m a b) v:=by
 unfold nilP;split
 ·rename_i i p;split
  ·rename_i g;have d:ρ.vec i=none:=c.ok i _ g;cases h with
   |vnil _=>exact .pure .nil
   |vec e=>simp_all
  omega
 omega
def tH (s:St)(τ:Nat->Nat):List (Nat×ac)->Prop
 |[]=>True
 |(t,a)::l=>bR (nilP s.mem (s.get t) a) (a.ren τ)/\tH s τ l
def isFn:ac->Bool
 | .func _ _ _=>true
 |_=>false
def Ent (b:Nat)(s a:St):Prop:=
 let τ:=idOf b (EQ b s a)
 if injB τ a.mem&&a.df.all isFn then tH s τ a.fr/\ej s.mem (Mem.ren τ a.mem)/\ei s.df (ac.renL τ a.df)else False
def mh:List Oper->Option (List Oper×Operand)
 |[]=>none
 |[o]=>match o.op,o.dst,o.guard with
  | .defer c,none,none=>match c.callee,c.args.toList with
    | .value x,[]=>some ([],x)
    |_,_=>none
  |_,_,_=>none
 |o::b::a=>match mh (b::a)with
  |some (l,x)=>some (o::l,x)
  |none=>none
section
variable (P:qn) (nt n0:Nat) (drawOk:List Oper->List aP->Bool)
end
theorem Rk {s:St}{τ:Nat->Nat}:∀ {l:List (Nat×ac)},tH s τ l->∀t,bR (nilP s.mem (s.get t) (di l t)) ((di l t).ren τ)
 |[],_,t=>⟨λF w ρ v _=>.any⟩
 |(i,a)::l,h,t=>by
  simp only[di];split;{rename_i e;subst e;exact h.1};exact Rk h.2 t
theorem Ent.sat{X:Cx}{F:Cells}{ρ:Env}{s n:St}{a:Act}(h:Ent X.n0 s n)(f:Sat X F w ρ s a):∃ρ',Sat X F w ρ' n a:=by
 unfold Ent at h;simp only at h;generalize O:EQ X.n0 s n=σ at h;generalize H:idOf X.n0 σ=τ at h;split at h
 ·rename_i c;simp only[ql]at c;obtain⟨c,e⟩:=c;obtain⟨I,J,q⟩:=h;have p:∀x∈n.mem,∀y∈n.mem,τ x.1=τ y.1->fT x.2=false->fT y.2=false->x.1=y.1:=λx L y W Y I J=>Th c L W Y I J
  have m:∀i r,n.mem.get i=some r->∃j,s.mem.get (τ i)=some j/\RSub j (r.ren τ):=λi r M=>k0 J (sT (dK M))
  have d:∀i r b,n.mem.get i=some r->aE w (ρ.pull τ) i r b->∃j,s.mem.get (τ i)=some j/\aE w ρ (τ i) j b:=by
   intro i r b M B;obtain⟨j,k,l⟩:=m i r M;refine⟨j,k,(l.rel F w ρ (τ i) (f.mem.ok _ _ k)).2 b ?_⟩;rw[iK (ρ:=ρ.pull τ) (ρ':=ρ) ⟨rfl,rfl⟩];omega
  refine⟨ρ.pull τ,f.size,λt=>ak.unren _ _ ((Rk I t).rel F w ρ _ (afy f.mem (f.fr t))),⟨λi r M=>?_,λi r b M B=>?_,λi R r S b M v B z=>?_⟩,?_,f.good,f.from0,λi M=>?_⟩;{obtain⟨j,k,l⟩:=m i r M;exact(l.rel F w ρ (τ i) (f.mem.ok _ _ k)).1.unren};{obtain⟨j,k,l⟩:=d i r b M B;exact f.mem.mine _ _ _ k l};{obtain⟨j,k,l⟩:=d i r b M B;obtain⟨G,T,P⟩:=d R S b v z;exact p _ (dK M) _ (dK v) (f.mem.disj _ _ _ _ b k T l P) (vt B) (vt z)}
  ·have E:=f.df;revert q E e;generalize s.df=ds;generalize n.df=A;generalize a.defers=Z;intro e q E;induction E generalizing A with
   |nil=>cases A with
    |nil=>exact .nil
    |cons _ _=>exact q.elim
   |cons L _ Q=>
    cases A with
    |nil=>exact q.elim
    |cons y A=>
     simp only[List.all_cons,ql]at e;refine .cons ?_ (Q A e.2 q.2);obtain⟨g,o,u,U,V,rfl,rfl,G,N⟩:=L;have C:ak F w ρ (.func g o u) (.func (.func g) U V):=.func G.1 G.2 N.1 N.2;have:=ak.unren _ _ (q.1.rel F w ρ _ C);cases y<;>simp[isFn]at e
     cases this with
     |func k K l D=>exact⟨_,_,_,_,_,rfl,rfl,⟨k,K⟩,⟨l,D⟩⟩
  have:τ i=i:=by rw[<-H];simp[idOf,M]
  have h4:=f.env0 i M;exact⟨by show ρ.blk (τ i)=_;simp_all,by show ρ.vec (τ i)=_;simp_all⟩
 simp_all
theorem wp_loop'{P:qn}{Q:Exit->Act->qm->Prop}{a:Act}{c:Code}{σ:Type}(I:σ->Act->qm->Prop)(y:σ->Nat)(C:σ)(u:I C a w)
 (j:∀x a w,I x a w->c.wp P (Exit.then (λq p=>∃t,I t q p/\y t<y x) Q) a w):(Code.loop c).wp P Q a w:=by
 intro b k B
 have A:∀n x a w,y x=n->I x a w->
  ∃e q p,Q e q p/\Arrives P (lone (b.at a (.code c:: .inLoop c::k)) B w) b k B e q p:=by
  intro n;induction n using Nat.strongRecOn with
  |_ n F=>
   intro x a w E D;obtain⟨e,f,g,i,d⟩:=j x a w D b (.inLoop c::k) B;cases e with
   |normal=>
    obtain⟨t,o,z⟩:=i;obtain⟨s,v,r,m,h⟩:=F (y t) (E▸z) t f g rfl o;exact⟨s,v,r,m,.of_steps (Steps.trans d (.one step_inLoop)) h⟩
   |exit id=>exact⟨_,f,g,i,.pass (x:=.inLoop c) rfl (λ_ _=>.inl jV) d⟩
   |goto l=>exact⟨_,f,g,i,.pass (x:=.inLoop c) rfl (λ_ _=>.inl jV) d⟩
   |ret=>exact⟨_,f,g,i,.pass (x:=.inLoop c) rfl (λ_ _=>.inl jV) d⟩
   |panic G=>exact⟨_,f,g,i,.pass (x:=.inLoop c) rfl (λ_ _=>.inl jV) d⟩
   |outgrown=>exact⟨_,f,g,i,.pass (x:=.inLoop c) rfl (λ_ _=>.inl jV) d⟩
 obtain⟨e,q,p,i,d⟩:=A _ C a w rfl u;exact⟨e,q,p,i,.of_steps (.one step_loop) d⟩
def fp (P:qn)(b:List Oper->List aP->Bool):Prop:=
 ∀ (X:Cx) (h:List Oper) (hint:Nat->Option Hint) (K:St->List aP->Prop) (Q:Exit->Act->qm->Prop) (id:Nat) (s:St) (F:Cells) (w:qm) (ρ:Env) (a:Act) (d:Nat),
   cG P X.nt h hint 0 h id s [] (λc i=>b h i=true/\K c i)->s.lt id=true->X.n0<=id->Sat X F w ρ s a->
   (∀c e j g ρ' f,K c e->c.lt (id+64 * h.length)=true->Sat X j g ρ' c f->Q .normal f g)->(Code.region d h.toArray true).wp P Q a w
theorem DB {P:qn}{nt:Nat}{d:List Oper}{hint:Nat->Option Hint}{K g:St->List aP->Prop}(l:∀s m,K s m->g s m):
 ∀ (a:List Oper) (i id:Nat) (s:St) (m:List aP),cG P nt d hint i a id s m K->cG P nt d hint i a id s m g
 |[],i,id,s,m,h=>l s m h
 |o::a,i,id,s,m,h=>by
  have f:∀ (s:St),(match cU P hint i o id s with
   |some (out,_)=>if cY nt o.dst&&eC id out then gc out.obl (cG P nt d hint (i+1) a (id+64) (dr s o out) (m++[ez d o id out]) K)else False
   |none=>False)->(match cU P hint i o id s with
   |some (out,_)=>if cY nt o.dst&&eC id out then gc out.obl (cG P nt d hint (i+1) a (id+64) (dr s o out) (m++[ez d o id out]) g)else False
   |none=>False):=by
   intro s h;split at h
   ·split at h;{rename_i k;simp only[k,if_true];rw[andO_iff]at h⊢;exact⟨h.1,DB l a _ _ _ _ h.2⟩};exact h.elim
   exact h.elim
  have c:∀ (s:St),(if cY nt o.dst then cG P nt d hint (i+1) a (id+64) (s.putD o.dst (.tup [])) (m++[⟨o.dst,fb d o,id,.tup [],[],[]⟩]) K else False)->
   (if cY nt o.dst then cG P nt d hint (i+1) a (id+64) (s.putD o.dst (.tup [])) (m++[⟨o.dst,fb d o,id,.tup [],[],[]⟩]) g else False):=by
   intro s h;split at h;{rename_i k;simp only[k,if_true];exact DB l a _ _ _ _ h};exact h.elim
  simp only[cG]at h⊢;split at h;{exact f s h};{exact c s h};{exact h.elim};rename_i t b e _;refine⟨λj=>?_,λj=>?_⟩
  ·have:=h.1 j;cases e;{exact c _ this};exact f _ this
  have:=h.2 j;cases e;{exact f _ this};exact c _ this
theorem NR:∀ {j l:List Oper} {x:Operand},mh j=some (l,x)->∃o c,j=l++[o]/\o.op=.defer c/\o.dst=none/\o.guard=none/\c.callee=.value x/\c.args=#[]
 |[],l,x,h=>by simp[mh]at h
 |[o],l,x,h=>by
  grind[mh]
 |o::k::a,l,x,h=>by
  simp only[mh]at h;split at h;{rename_i i g d;cases h;obtain⟨e,c,f,b⟩:=NR d;exact⟨e,c,by rw[f];rfl,b⟩};cases h
end Go.Abs
