import Derived.Test.YtjonhijmljhjlaaGreatYIRegion
open Bool renaming and_eq_true->qn
open Go renaming World->qo,Program->qp
open List renaming all_eq_true->qm
namespace Go.Abs
inductive Ex where
 |normal
 |exit (id:Nat)
 |ret
def Ex.to:Ex->Exit
 | .normal=>.normal
 | .exit id=>.exit id
 | .ret=>.ret
inductive Scr:Type 1 where
 |nil
 |hint (r i:Nat) (h:Hint) (rest:Scr)
 |loop (n:Nat) (σ:Type) (I:σ->St) (Inv:σ->Prop) (μ:σ->Nat) (inner:σ->Scr) (rest:Scr)
 |unroll (n k:Nat) (rest:Scr)
structure LoopS:Type 1 where
 σ:Type
 I:σ->St
 Inv:σ->Prop
 μ:σ->Nat
 inner:σ->Scr
mutual
def az30 (n0:Nat):AVal->AVal->List (Nat×Nat)
 | .vec i,.vec j=>if i<n0 then []else [(i,j)]
 | .ptr i _,.ptr j _=>if i<n0 then []else [(i,j)]
 | .map i,.map j=>if i<n0 then []else [(i,j)]
 | .bsl i _,.bsl j _=>if i<n0 then []else [(i,j)]
 | .view i _ _ _,.view j _ _ _=>if i<n0 then []else [(i,j)]
 | .iface _ a,.iface _ b=>az30 n0 a b
 | .agg cs,.agg ds=>Izf n0 cs ds
 | .tup cs,.tup ds=>Izf n0 cs ds
 | .func _ a b,.func _ c d=>Izf n0 a c++Izf n0 b d
 |_,_=>[]
def Izf (n0:Nat):List AVal->List AVal->List (Nat×Nat)
 |a::l,b::m=>az30 n0 a b++Izf n0 l m
 |_,_=>[]
end
def az31 (n0:Nat)(s:St):List (Nat×AVal)->List (Nat×Nat)
 |[]=>[]
 |(t,a)::l=>az30 n0 a (s.get t)++az31 n0 s l
def idOf (n0:Nat)(σ:List (Nat×Nat))(i:Nat):Nat:=if i<n0 then i else(Dz8 σ i).getD i
def rzt (n0:Nat)(s:St)(σ:List (Nat×Nat)):Mem->List (Nat×Nat)
 |[]=>[]
 |(i,.box cs)::m=>(match s.mem.get (idOf n0 σ i)with
  |some (.box ds)=>Izf n0 cs ds
  |_=>[])++rzt n0 s σ m
 |(i,.vecX _ _ _ _ _ _ k)::m=>(match s.mem.get (idOf n0 σ i)with
  |some (.vecX _ _ _ _ _ _ k')=>if k<n0 then []else [(k,k')]
  |_=>[])++rzt n0 s σ m
 |(i,.vecU _ _ _ _ _ _ _ _ hs)::m=>(match s.mem.get (idOf n0 σ i)with
  |some (.vecU _ _ _ _ _ _ _ _ hs')=>(hs.zip hs').filterMap λx=>if x.1.2<n0 then none else some (x.1.2,x.2.2)
  |_=>[])++rzt n0 s σ m
 |_::m=>rzt n0 s σ m
def Qzk (n0:Nat)(s s':St):List (Nat×Nat):=
 let σ:=az31 n0 s s'.fr++Izf n0 s'.df s.df;let σ1:=σ++rzt n0 s σ s'.mem;let σ2:=σ1++rzt n0 s σ1 s'.mem
 σ2++rzt n0 s σ2 s'.mem
def yz6:Res->Bool
 | .gone=>true
 |_=>false
theorem Tzb {w:qo}{ρ:Env}{i b:Nat}{r:Res}(h:yz6 r=true):¬Owns w ρ i r b:=by
 cases r<;>simp[yz6]at h
 simp[Owns,nzk,bzi]
def injB (τ:Nat->Nat)(m:Mem):Bool:=m.all λx=>m.all λy=>τ x.1 !=τ y.1||x.1==y.1||yz6 x.2||yz6 y.2
theorem az2b {τ:Nat->Nat}{m:Mem}(h:injB τ m=true){x y:Nat×Res}(hx:x∈m)(hy:y∈m)(he:τ x.1=τ y.1)(h1:yz6 x.2=false)(h2:yz6 y.2=false):x.1=y.1:=by
 have:=qm.1 (qm.1 h x hx) y hy;simpa[he,h1,h2]using this
theorem rzw {w:qo}{ρ:Env}{i b:Nat}{r:Res}(h:Owns w ρ i r b):yz6 r=false:=by
 cases hg:yz6 r with
 |false=>rfl
 |true=>exact absurd h (Tzb hg)
theorem az6w {F:Cells}{w:qo}{ρ:Env}{Mine:Nat->Prop}{m:Mem}(hm:MemOk F w ρ Mine m){a b:AVal}{v:Value}(h:ARel F w ρ a v):ARel F w ρ (nilP m a b) v:=by
 unfold nilP;split
 ·rename_i i p;split
  ·rename_i hi;have hn:ρ.vec i=none:=hm.ok i _ hi;cases h with
   |vnil _=>exact .pure .nil
   |vec hh=>rw[hh]at hn;cases hn
  ·exact h
 ·exact h
def az5z (s:St)(τ:Nat->Nat):List (Nat×AVal)->Prop
 |[]=>True
 |(t,a)::l=>ASub (nilP s.mem (s.get t) a) (a.ren τ)/\az5z s τ l
def isFn:AVal->Bool
 | .func _ _ _=>true
 |_=>false
def Ent (n0:Nat)(s s':St):Prop:=
 let τ:=idOf n0 (Qzk n0 s s')
 if injB τ s'.mem&&s'.df.all isFn then az5z s τ s'.fr/\MSub s.mem (Mem.ren τ s'.mem)/\Cz1 s.df (AVal.renL τ s'.df)else False
def mzw:List Oper->Option (List Oper×Operand)
 |[]=>none
 |[o]=>match o.op,o.dst,o.guard with
  | .defer c,none,none=>match c.callee,c.args.toList with
    | .value x,[]=>some ([],x)
    |_,_=>none
  |_,_,_=>none
 |o::o'::rest=>match mzw (o'::rest)with
  |some (l,x)=>some (o::l,x)
  |none=>none
section
variable (P:qp) (nt n0:Nat) (drawOk:List Oper->List Eff->Bool)
end
theorem Tz5 {s:St}{τ:Nat->Nat}:∀ {l:List (Nat×AVal)},az5z s τ l->∀t,ASub (nilP s.mem (s.get t) (qz8 l t)) ((qz8 l t).ren τ)
 |[],_,t=>⟨λF w ρ v _=>.any⟩
 |(i,a)::l,h,t=>by
  simp only[qz8];split
  ·rename_i e;subst e;exact h.1
  ·exact Tz5 h.2 t
theorem Ent.sat {X:Cx}{F:Cells}{w:qo}{ρ:Env}{s s':St}{a:Act}(h:Ent X.n0 s s')(hs:Sat X F w ρ s a):∃ρ',Sat X F w ρ' s' a:=by
 unfold Ent at h;simp only at h;generalize hσ:Qzk X.n0 s s'=σ at h;generalize hτ:idOf X.n0 σ=τ at h;split at h
 ·rename_i hinj;simp only[qn]at hinj;obtain⟨hinj,hfn⟩:=hinj;obtain⟨h1,h2,h3⟩:=h;have hinj':∀x∈s'.mem,∀y∈s'.mem,τ x.1=τ y.1->yz6 x.2=false->yz6 y.2=false->x.1=y.1:=λx hx y hy he h1 h2=>az2b hinj hx hy he h1 h2
  have hget:∀i r,s'.mem.get i=some r->∃r0,s.mem.get (τ i)=some r0/\RSub r0 (r.ren τ):=λi r hi=>rzv h2 (Qzp (gzo hi))
  have hblk:∀i r b,s'.mem.get i=some r->Owns w (ρ.pull τ) i r b->∃r0,s.mem.get (τ i)=some r0/\Owns w ρ (τ i) r0 b:=by
   intro i r b hi hb;obtain⟨r0,q1,q2⟩:=hget i r hi;refine⟨r0,q1,(q2.rel F w ρ (τ i) (hs.mem.ok _ _ q1)).2 b ?_⟩;rw[Bzk (ρ:=ρ.pull τ) (ρ':=ρ) ⟨rfl,rfl⟩];exact hb
  refine⟨ρ.pull τ,hs.size,λt=>ARel.unren _ _ ((Tz5 h1 t).rel F w ρ _ (az6w hs.mem (hs.fr t))),⟨λi r hi=>?_,λi r b hi hb=>?_,λi i' r r' b hi hi' hb hb'=>?_⟩,?_,hs.good,hs.from0,λi hi=>?_⟩
  ·obtain⟨r0,q1,q2⟩:=hget i r hi;exact(q2.rel F w ρ (τ i) (hs.mem.ok _ _ q1)).1.unren
  ·obtain⟨r0,q1,q2⟩:=hblk i r b hi hb;exact hs.mem.mine _ _ _ q1 q2
  ·obtain⟨r0,q1,q2⟩:=hblk i r b hi hb;obtain⟨r1,q3,q4⟩:=hblk i' r' b hi' hb';exact hinj' _ (gzo hi) _ (gzo hi') (hs.mem.disj _ _ _ _ b q1 q3 q2 q4) (rzw hb) (rzw hb')
  ·have hd:=hs.df;revert h3 hd hfn;generalize s.df=ds;generalize s'.df=es;generalize a.defers=dd;clear h1 h2 hget hblk hinj' hinj hs hτ hσ;intro hfn h3 hd;induction hd generalizing es with
   |nil=>cases es with
    |nil=>exact .nil
    |cons _ _=>exact h3.elim
   |cons hx _ ih=>
    cases es with
    |nil=>exact h3.elim
    |cons y es=>
     simp only[List.all_cons,qn]at hfn;refine .cons ?_ (ih es hfn.2 h3.2);obtain⟨g,first,caps,v1,v2,rfl,rfl,r1,r2⟩:=hx;have hrel:ARel F w ρ (.func g first caps) (.func (.func g) v1 v2):=.func r1.1 r1.2 r2.1 r2.2;have:=ARel.unren _ _ (h3.1.rel F w ρ _ hrel);cases y<;>simp[isFn]at hfn
     cases this with
     |func q1 q1' q2 q2'=>exact⟨_,_,_,_,_,rfl,rfl,⟨q1,q1'⟩,⟨q2,q2'⟩⟩
  ·have:τ i=i:=by rw[<-hτ];simp[idOf,hi]
   have h4:=hs.env0 i hi;exact⟨by show ρ.blk (τ i)=_;rw[this];exact h4.1,by show ρ.vec (τ i)=_;rw[this];exact h4.2⟩
 ·exact h.elim
theorem wp_loop' {P:qp}{Q:Exit->Act->qo->Prop}{a:Act}{w:qo}{c:Code}{σ:Type}(I:σ->Act->qo->Prop)(μ:σ->Nat)(x0:σ)(h₀:I x0 a w)
 (round:∀x a w,I x a w->c.wp P (Exit.then (λa' w'=>∃x',I x' a' w'/\μ x'<μ x) Q) a w):(Code.loop c).wp P Q a w:=by
 intro b k cs
 have key:∀n x a w,μ x=n->I x a w->
  ∃e a' w',Q e a' w'/\Arrives P (lone (b.at a (.code c:: .inLoop c::k)) cs w) b k cs e a' w':=by
  intro n;induction n using Nat.strongRecOn with
  |_ n ih=>
   intro x a w hn hI;obtain⟨e,a₁,w₁,hq,harr⟩:=round x a w hI b (.inLoop c::k) cs;cases e with
   |normal=>
    obtain⟨x',hI₁,hlt⟩:=hq;obtain⟨e₂,a₂,w₂,hq₂,harr₂⟩:=ih (μ x') (hn▸hlt) x' a₁ w₁ rfl hI₁;exact⟨e₂,a₂,w₂,hq₂,.of_steps (Steps.trans harr (.one step_inLoop)) harr₂⟩
   |exit id=>exact⟨_,a₁,w₁,hq,.pass (x:=.inLoop c) rfl (λ_ _=>.inl (by simp)) harr⟩
   |goto l=>exact⟨_,a₁,w₁,hq,.pass (x:=.inLoop c) rfl (λ_ _=>.inl (by simp)) harr⟩
   |ret=>exact⟨_,a₁,w₁,hq,.pass (x:=.inLoop c) rfl (λ_ _=>.inl (by simp)) harr⟩
   |panic ch=>exact⟨_,a₁,w₁,hq,.pass (x:=.inLoop c) rfl (λ_ _=>.inl (by simp)) harr⟩
   |outgrown=>exact⟨_,a₁,w₁,hq,.pass (x:=.inLoop c) rfl (λ_ _=>.inl (by simp)) harr⟩
 obtain⟨e,a',w',hq,harr⟩:=key _ x0 a w rfl h₀;exact⟨e,a',w',hq,.of_steps (.one step_loop) harr⟩
def gz2 (P:qp)(drawOk:List Oper->List Eff->Bool):Prop:=
 ∀ (X:Cx) (ops:List Oper) (hint:Nat->Option Hint) (K:St->List Eff->Prop) (Q:Exit->Act->qo->Prop) (id:Nat) (s:St) (F:Cells) (w:qo) (ρ:Env) (a:Act) (rid:Nat),
   jzw P X.nt ops hint 0 ops id s [] (λs' tr=>drawOk ops tr=true/\K s' tr)->s.lt id=true->X.n0<=id->Sat X F w ρ s a->
   (∀s' tr' F' w' ρ' a',K s' tr'->s'.lt (id+64 * ops.length)=true->Sat X F' w' ρ' s' a'->Q .normal a' w')->(Code.region rid ops.toArray true).wp P Q a w
theorem Iz1 {P:qp}{nt:Nat}{ops:List Oper}{hint:Nat->Option Hint}{K K':St->List Eff->Prop}(hK:∀s tr,K s tr->K' s tr):
 ∀ (rest:List Oper) (i id:Nat) (s:St) (tr:List Eff),jzw P nt ops hint i rest id s tr K->jzw P nt ops hint i rest id s tr K'
 |[],i,id,s,tr,h=>hK s tr h
 |o::rest,i,id,s,tr,h=>by
  have run:∀ (s:St),(match fzy P hint i o id s with
   |some (out,_)=>if nzl nt o.dst&&Dzs id out then andO out.obl (jzw P nt ops hint (i+1) rest (id+64) (hzt s o out) (tr++[Cz4 ops o id out]) K)else False
   |none=>False)->(match fzy P hint i o id s with
   |some (out,_)=>if nzl nt o.dst&&Dzs id out then andO out.obl (jzw P nt ops hint (i+1) rest (id+64) (hzt s o out) (tr++[Cz4 ops o id out]) K')else False
   |none=>False):=by
   intro s h;split at h
   ·split at h
    ·rename_i hc;simp only[hc,if_true];rw[andO_iff]at h⊢;exact⟨h.1,Iz1 hK rest _ _ _ _ h.2⟩
    ·exact h.elim
   ·exact h.elim
  have skip:∀ (s:St),(if nzl nt o.dst then jzw P nt ops hint (i+1) rest (id+64) (s.putD o.dst (.tup [])) (tr++[⟨o.dst,vzn ops o,id,.tup [],[],[]⟩]) K else False)->
   (if nzl nt o.dst then jzw P nt ops hint (i+1) rest (id+64) (s.putD o.dst (.tup [])) (tr++[⟨o.dst,vzn ops o,id,.tup [],[],[]⟩]) K' else False):=by
   intro s h;split at h
   ·rename_i hc;simp only[hc,if_true];exact Iz1 hK rest _ _ _ _ h
   ·exact h.elim
  simp only[jzw]at h⊢;split at h
  ·exact run s h
  ·exact skip s h
  ·exact h.elim
  ·rename_i t b want _;refine⟨λhb=>?_,λhb=>?_⟩
   ·have:=h.1 hb;cases want
    ·exact skip _ this
    ·exact run _ this
   ·have:=h.2 hb;cases want
    ·exact run _ this
    ·exact skip _ this
theorem Bze:∀ {ops l:List Oper} {x:Operand},mzw ops=some (l,x)->∃o c,ops=l++[o]/\o.op=.defer c/\o.dst=none/\o.guard=none/\c.callee=.value x/\c.args=#[]
 |[],l,x,h=>by simp[mzw]at h
 |[o],l,x,h=>by
  simp only[mzw]at h;split at h
  ·rename_i c h1 h2 h3;split at h
   ·rename_i y h4 h5;cases h;exact⟨o,c,rfl,h1,h2,h3,h4,by simpa using h5⟩
   ·cases h
  ·cases h
 |o::o'::rest,l,x,h=>by
  simp only[mzw]at h;split at h
  ·rename_i l' x' h';cases h;obtain⟨o1,c,h1,h2⟩:=Bze h';exact⟨o1,c,by rw[h1];rfl,h2⟩
  ·cases h
end Go.Abs
