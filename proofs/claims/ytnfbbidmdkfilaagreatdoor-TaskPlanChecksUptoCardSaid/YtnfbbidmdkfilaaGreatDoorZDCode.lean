import Derived.Test.YtnfbbidmdkfilaaGreatDoorZDRegion
open Bool renaming and_eq_true->qm
open Go renaming World->qn,Program->qo
open List renaming all_eq_true->ql
namespace Go.Abs
inductive Ex where
 |normal
 |exit (id:Nat)
 |ret
def Ex.to:Ex->Exit
 | .normal=>.normal
 | .exit id=>.exit id
 | .ret=>.ret
inductive Scr:Type 1 where
 |nil
 |hint (r i:Nat) (h:Hint) (rest:Scr)
 |loop (n:Nat) (σ:Type) (I:σ->St) (Inv:σ->Prop) (μ:σ->Nat) (inner:σ->Scr) (rest:Scr)
 |unroll (n k:Nat) (rest:Scr)
structure LoopS:Type 1 where
 σ:Type
 I:σ->St
 Inv:σ->Prop
 μ:σ->Nat
 inner:σ->Scr
mutual
def azcp (e:Nat):AVal->AVal->List (Nat×Nat)
 | .vec i,.vec j=>if i<e then []else [(i,j)]
 | .ptr i _,.ptr j _=>if i<e then []else [(i,j)]
 | .map i,.map j=>if i<e then []else [(i,j)]
 | .bsl i _,.bsl j _=>if i<e then []else [(i,j)]
 | .view i _ _ _,.view j _ _ _=>if i<e then []else [(i,j)]
 | .iface _ a,.iface _ b=>azcp e a b
 | .agg f,.agg ds=>Oza e f ds
 | .tup f,.tup ds=>Oza e f ds
 | .func _ a b,.func _ c d=>Oza e a c++Oza e b d
 |_,_=>[]
def Oza (e:Nat):List AVal->List AVal->List (Nat×Nat)
 |a::l,b::m=>azcp e a b++Oza e l m
 |_,_=>[]
end
def azcq (b:Nat)(s:St):List (Nat×AVal)->List (Nat×Nat)
 |[]=>[]
 |(t,a)::l=>azcp b a (s.get t)++azcq b s l
def idOf (a:Nat)(σ:List (Nat×Nat))(i:Nat):Nat:=if i<a then i else(Hzn σ i).getD i
def uzk (a:Nat)(s:St)(σ:List (Nat×Nat)):Mem->List (Nat×Nat)
 |[]=>[]
 |(i,.box c)::m=>(match s.mem.get (idOf a σ i)with
  |some (.box ds)=>Oza a c ds
  |_=>[])++uzk a s σ m
 |(i,.vecX _ _ _ _ _ _ k)::m=>(match s.mem.get (idOf a σ i)with
  |some (.vecX _ _ _ _ _ _ k')=>if k<a then []else [(k,k')]
  |_=>[])++uzk a s σ m
 |(i,.vecU _ _ _ _ _ _ _ _ d)::m=>(match s.mem.get (idOf a σ i)with
  |some (.vecU _ _ _ _ _ _ _ _ b)=>(d.zip b).filterMap λx=>if x.1.2<a then none else some (x.1.2,x.2.2)
  |_=>[])++uzk a s σ m
 |_::m=>uzk a s σ m
def Yzm (b:Nat)(s a:St):List (Nat×Nat):=
 let σ:=azcq b s a.fr++Oza b a.df s.df;let d:=σ++uzk b s σ a.mem;let c:=d++uzk b s d a.mem
 c++uzk b s c a.mem
def Dzp:Res->Bool
 | .gone=>true
 |_=>false
theorem az1g {w:qn}{ρ:Env}{i b:Nat}{r:Res}(h:Dzp r=true):¬Owns w ρ i r b:=by
 grind[Dzp,Owns,mzh,bz8]
def injB (τ:Nat->Nat)(m:Mem):Bool:=m.all λx=>m.all λy=>τ x.1 !=τ y.1||x.1==y.1||Dzp x.2||Dzp y.2
theorem azby {τ:Nat->Nat}{m:Mem}(h:injB τ m=true){x y:Nat×Res}(a:x∈m)(b:y∈m)(c:τ x.1=τ y.1)(e:Dzp x.2=false)(d:Dzp y.2=false):x.1=y.1:=by
 have:=ql.1 (ql.1 h x a) y b
 simp_all
theorem uzm {w:qn}{ρ:Env}{i b:Nat}{r:Res}(h:Owns w ρ i r b):Dzp r=false:=by
 grind[az1g]
theorem azhj {F:Cells}{w:qn}{ρ:Env}{Mine:Nat->Prop}{m:Mem}(c:MemOk F w ρ Mine m){a b:AVal}{v:Value}(h:ARel F w ρ a v):ARel F w ρ (nilP m a b) v:=by
 unfold nilP;split
 ·rename_i i p;split
  ·rename_i hi;have d:ρ.vec i=none:=c.ok i _ hi;cases h with
   |vnil _=>exact .pure .nil
   |vec e=>simp_all
  omega
 omega
def azg7 (s:St)(τ:Nat->Nat):List (Nat×AVal)->Prop
 |[]=>True
 |(t,a)::l=>ASub (nilP s.mem (s.get t) a) (a.ren τ)/\azg7 s τ l
def isFn:AVal->Bool
 | .func _ _ _=>true
 |_=>false
def Ent (b:Nat)(s a:St):Prop:=
 let τ:=idOf b (Yzm b s a)
 if injB τ a.mem&&a.df.all isFn then azg7 s τ a.fr/\MSub s.mem (Mem.ren τ a.mem)/\Gza s.df (AVal.renL τ a.df)else False
def nzq:List Oper->Option (List Oper×Operand)
 |[]=>none
 |[o]=>match o.op,o.dst,o.guard with
  | .defer c,none,none=>match c.callee,c.args.toList with
    | .value x,[]=>some ([],x)
    |_,_=>none
  |_,_,_=>none
 |o::o'::a=>match nzq (o'::a)with
  |some (l,x)=>some (o::l,x)
  |none=>none
section
variable (P:qo) (nt n0:Nat) (drawOk:List Oper->List Eff->Bool)
end
theorem az1d {s:St}{τ:Nat->Nat}:∀ {l:List (Nat×AVal)},azg7 s τ l->∀t,ASub (nilP s.mem (s.get t) (rzz l t)) ((rzz l t).ren τ)
 |[],_,t=>⟨λF w ρ v _=>.any⟩
 |(i,a)::l,h,t=>by
  simp only[rzz];split
  ·rename_i e;subst e;exact h.1
  ·exact az1d h.2 t
theorem Ent.sat {X:Cx}{F:Cells}{w:qn}{ρ:Env}{s n:St}{a:Act}(h:Ent X.n0 s n)(f:Sat X F w ρ s a):∃ρ',Sat X F w ρ' n a:=by
 unfold Ent at h;simp only at h;generalize O:Yzm X.n0 s n=σ at h;generalize H:idOf X.n0 σ=τ at h;split at h
 ·rename_i c;simp only[qm]at c;obtain⟨c,e⟩:=c;obtain⟨I,J,q⟩:=h;have p:∀x∈n.mem,∀y∈n.mem,τ x.1=τ y.1->Dzp x.2=false->Dzp y.2=false->x.1=y.1:=λx L y W Y I J=>azby c L W Y I J
  have m:∀i r,n.mem.get i=some r->∃j,s.mem.get (τ i)=some j/\RSub j (r.ren τ):=λi r hi=>uzl J (Yzr (gzz hi))
  have d:∀i r b,n.mem.get i=some r->Owns w (ρ.pull τ) i r b->∃j,s.mem.get (τ i)=some j/\Owns w ρ (τ i) j b:=by
   intro i r b hi B;obtain⟨j,k,l⟩:=m i r hi;refine⟨j,k,(l.rel F w ρ (τ i) (f.mem.ok _ _ k)).2 b ?_⟩;rw[qzf (ρ:=ρ.pull τ) (ρ':=ρ) ⟨rfl,rfl⟩];omega
  refine⟨ρ.pull τ,f.size,λt=>ARel.unren _ _ ((az1d I t).rel F w ρ _ (azhj f.mem (f.fr t))),⟨λi r hi=>?_,λi r b hi B=>?_,λi R r S b hi v B z=>?_⟩,?_,f.good,f.from0,λi hi=>?_⟩
  ·obtain⟨j,k,l⟩:=m i r hi;exact(l.rel F w ρ (τ i) (f.mem.ok _ _ k)).1.unren
  ·obtain⟨j,k,l⟩:=d i r b hi B;exact f.mem.mine _ _ _ k l
  ·obtain⟨j,k,l⟩:=d i r b hi B;obtain⟨G,T,P⟩:=d R S b v z;exact p _ (gzz hi) _ (gzz v) (f.mem.disj _ _ _ _ b k T l P) (uzm B) (uzm z)
  ·have E:=f.df;revert q E e;generalize s.df=ds;generalize n.df=A;generalize a.defers=Z;intro e q E;induction E generalizing A with
   |nil=>cases A with
    |nil=>exact .nil
    |cons _ _=>exact q.elim
   |cons L _ Q=>
    cases A with
    |nil=>exact q.elim
    |cons y A=>
     simp only[List.all_cons,qm]at e;refine .cons ?_ (Q A e.2 q.2);obtain⟨g,o,u,U,V,rfl,rfl,G,N⟩:=L;have C:ARel F w ρ (.func g o u) (.func (.func g) U V):=.func G.1 G.2 N.1 N.2;have:=ARel.unren _ _ (q.1.rel F w ρ _ C);cases y<;>simp[isFn]at e
     cases this with
     |func k K l D=>exact⟨_,_,_,_,_,rfl,rfl,⟨k,K⟩,⟨l,D⟩⟩
  ·have:τ i=i:=by rw[<-H];simp[idOf,hi]
   have h4:=f.env0 i hi;exact⟨by show ρ.blk (τ i)=_;simp_all,by show ρ.vec (τ i)=_;simp_all⟩
 simp_all
theorem wp_loop' {P:qo}{Q:Exit->Act->qn->Prop}{a:Act}{w:qn}{c:Code}{σ:Type}(I:σ->Act->qn->Prop)(y:σ->Nat)(C:σ)(u:I C a w)
 (j:∀x a w,I x a w->c.wp P (Exit.then (λq p=>∃t,I t q p/\y t<y x) Q) a w):(Code.loop c).wp P Q a w:=by
 intro b k B
 have A:∀n x a w,y x=n->I x a w->
  ∃e q p,Q e q p/\Arrives P (lone (b.at a (.code c:: .inLoop c::k)) B w) b k B e q p:=by
  intro n;induction n using Nat.strongRecOn with
  |_ n F=>
   intro x a w E D;obtain⟨e,f,g,i,d⟩:=j x a w D b (.inLoop c::k) B;cases e with
   |normal=>
    obtain⟨t,o,z⟩:=i;obtain⟨s,v,r,m,h⟩:=F (y t) (E▸z) t f g rfl o;exact⟨s,v,r,m,.of_steps (Steps.trans d (.one step_inLoop)) h⟩
   |exit id=>exact⟨_,f,g,i,.pass (x:=.inLoop c) rfl (λ_ _=>.inl jq) d⟩
   |goto l=>exact⟨_,f,g,i,.pass (x:=.inLoop c) rfl (λ_ _=>.inl jq) d⟩
   |ret=>exact⟨_,f,g,i,.pass (x:=.inLoop c) rfl (λ_ _=>.inl jq) d⟩
   |panic G=>exact⟨_,f,g,i,.pass (x:=.inLoop c) rfl (λ_ _=>.inl jq) d⟩
   |outgrown=>exact⟨_,f,g,i,.pass (x:=.inLoop c) rfl (λ_ _=>.inl jq) d⟩
 obtain⟨e,q,p,i,d⟩:=A _ C a w rfl u;exact⟨e,q,p,i,.of_steps (.one step_loop) d⟩
def gzb (P:qo)(b:List Oper->List Eff->Bool):Prop:=
 ∀ (X:Cx) (ops:List Oper) (hint:Nat->Option Hint) (K:St->List Eff->Prop) (Q:Exit->Act->qn->Prop) (id:Nat) (s:St) (F:Cells) (w:qn) (ρ:Env) (a:Act) (d:Nat),
   kz5 P X.nt ops hint 0 ops id s [] (λc tr=>b ops tr=true/\K c tr)->s.lt id=true->X.n0<=id->Sat X F w ρ s a->
   (∀c e F' g ρ' f,K c e->c.lt (id+64 * ops.length)=true->Sat X F' g ρ' c f->Q .normal f g)->(Code.region d ops.toArray true).wp P Q a w
theorem Nzt {P:qo}{nt:Nat}{ops:List Oper}{hint:Nat->Option Hint}{K g:St->List Eff->Prop}(l:∀s tr,K s tr->g s tr):
 ∀ (a:List Oper) (i id:Nat) (s:St) (tr:List Eff),kz5 P nt ops hint i a id s tr K->kz5 P nt ops hint i a id s tr g
 |[],i,id,s,tr,h=>l s tr h
 |o::a,i,id,s,tr,h=>by
  have f:∀ (s:St),(match gzv P hint i o id s with
   |some (out,_)=>if oza nt o.dst&&Izi id out then andO out.obl (kz5 P nt ops hint (i+1) a (id+64) (izt s o out) (tr++[Iz5 ops o id out]) K)else False
   |none=>False)->(match gzv P hint i o id s with
   |some (out,_)=>if oza nt o.dst&&Izi id out then andO out.obl (kz5 P nt ops hint (i+1) a (id+64) (izt s o out) (tr++[Iz5 ops o id out]) g)else False
   |none=>False):=by
   intro s h;split at h
   ·split at h
    ·rename_i k;simp only[k,if_true];rw[andO_iff]at h⊢;exact⟨h.1,Nzt l a _ _ _ _ h.2⟩
    ·exact h.elim
   ·exact h.elim
  have c:∀ (s:St),(if oza nt o.dst then kz5 P nt ops hint (i+1) a (id+64) (s.putD o.dst (.tup [])) (tr++[⟨o.dst,yzk ops o,id,.tup [],[],[]⟩]) K else False)->
   (if oza nt o.dst then kz5 P nt ops hint (i+1) a (id+64) (s.putD o.dst (.tup [])) (tr++[⟨o.dst,yzk ops o,id,.tup [],[],[]⟩]) g else False):=by
   intro s h;split at h
   ·rename_i k;simp only[k,if_true];exact Nzt l a _ _ _ _ h
   ·exact h.elim
  simp only[kz5]at h⊢;split at h
  ·exact f s h
  ·exact c s h
  ·exact h.elim
  ·rename_i t b e _;refine⟨λj=>?_,λj=>?_⟩
   ·have:=h.1 j;cases e
    ·exact c _ this
    ·exact f _ this
   ·have:=h.2 j;cases e
    ·exact f _ this
    ·exact c _ this
theorem Fzj:∀ {ops l:List Oper} {x:Operand},nzq ops=some (l,x)->∃o c,ops=l++[o]/\o.op=.defer c/\o.dst=none/\o.guard=none/\c.callee=.value x/\c.args=#[]
 |[],l,x,h=>by simp[nzq]at h
 |[o],l,x,h=>by
  grind[nzq]
 |o::o'::a,l,x,h=>by
  simp only[nzq]at h;split at h
  ·rename_i i g d;cases h;obtain⟨e,c,f,b⟩:=Fzj d;exact⟨e,c,by rw[f];rfl,b⟩
  ·cases h
end Go.Abs
