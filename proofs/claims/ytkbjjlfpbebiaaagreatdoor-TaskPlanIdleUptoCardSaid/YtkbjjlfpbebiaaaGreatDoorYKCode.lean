/-
  Code (a part of a claim: our own text).
-/
import Derived.Test.YtkbjjlfpbebiaaaGreatDoorYKRegion
namespace Go.Abs
inductive Ex where
 |normal
 |exit (id:Nat)
 |ret
def Ex.to:Ex->Exit
 | .normal=>.normal
 | .exit id=>.exit id
 | .ret=>.ret
inductive Scr:Type 1 where
 |nil
 |hint (r i:Nat) (h:Hint) (rest:Scr)
 |loop (n:Nat) (σ:Type) (I:σ->St) (Inv:σ->Prop) (μ:σ->Nat) (inner:σ->Scr) (rest:Scr)
 |unroll (n k:Nat) (rest:Scr)
structure LoopS:Type 1 where
 σ:Type
 I:σ->St
 Inv:σ->Prop
 μ:σ->Nat
 inner:σ->Scr
mutual
def Ozx (n0:Nat):AVal->AVal->List (Nat×Nat)
 | .vec i,.vec j=>if i<n0 then []else [(i,j)]
 | .ptr i _,.ptr j _=>if i<n0 then []else [(i,j)]
 | .map i,.map j=>if i<n0 then []else [(i,j)]
 | .bsl i _,.bsl j _=>if i<n0 then []else [(i,j)]
 | .view i _ _ _,.view j _ _ _=>if i<n0 then []else [(i,j)]
 | .iface _ a,.iface _ b=>Ozx n0 a b
 | .agg cs,.agg ds=>xzw n0 cs ds
 | .tup cs,.tup ds=>xzw n0 cs ds
 | .func _ a b,.func _ c d=>xzw n0 a c++xzw n0 b d
 |_,_=>[]
def xzw (n0:Nat):List AVal->List AVal->List (Nat×Nat)
 |a::l,b::m=>Ozx n0 a b++xzw n0 l m
 |_,_=>[]
end
def Ozy (n0:Nat)(s:St):List (Nat×AVal)->List (Nat×Nat)
 |[]=>[]
 |(t,a)::l=>Ozx n0 a (s.get t)++Ozy n0 s l
def idOf (n0:Nat)(σ:List (Nat×Nat))(i:Nat):Nat:=if i<n0 then i else(szb σ i).getD i
def mz8 (n0:Nat)(s:St)(σ:List (Nat×Nat)):Mem->List (Nat×Nat)
 |[]=>[]
 |(i,.box cs)::m=>(match s.mem.get (idOf n0 σ i)with
  |some (.box ds)=>xzw n0 cs ds
  |_=>[])++mz8 n0 s σ m
 |(i,.vecX _ _ _ _ _ _ k)::m=>(match s.mem.get (idOf n0 σ i)with
  |some (.vecX _ _ _ _ _ _ k')=>if k<n0 then []else [(k,k')]
  |_=>[])++mz8 n0 s σ m
 |(i,.vecU _ _ _ _ _ _ _ _ hs)::m=>(match s.mem.get (idOf n0 σ i)with
  |some (.vecU _ _ _ _ _ _ _ _ hs')=>(hs.zip hs').filterMap fun x=>if x.1.2<n0 then none else some (x.1.2,x.2.2)
  |_=>[])++mz8 n0 s σ m
 |_::m=>mz8 n0 s σ m
def Hz7 (n0:Nat)(s s':St):List (Nat×Nat):=
 let σ:=Ozy n0 s s'.fr++xzw n0 s'.df s.df
 let σ1:=σ++mz8 n0 s σ s'.mem
 let σ2:=σ1++mz8 n0 s σ1 s'.mem
 σ2++mz8 n0 s σ2 s'.mem
def ozz:Res->Bool
 | .gone=>true
 |_=>false
theorem Jz3 {w:World}{ρ:Env}{i b:Nat}{r:Res}(h:ozz r=true):¬Owns w ρ i r b:=by
 cases r<;>simp[ozz]at h
 simp[Owns,hzm,bzc]
def injB (τ:Nat->Nat)(m:Mem):Bool:=m.all fun x=>m.all fun y=>τ x.1 !=τ y.1||x.1==y.1||ozz x.2||ozz y.2
theorem Ozf {τ:Nat->Nat}{m:Mem}(h:injB τ m=true){x y:Nat×Res}(hx:x∈m)(hy:y∈m)(he:τ x.1=τ y.1)(h1:ozz x.2=false)(h2:ozz y.2=false):x.1=y.1:=by
 have:=List.all_eq_true.1 (List.all_eq_true.1 h x hx) y hy
 simpa[he,h1,h2]using this
theorem mzc {w:World}{ρ:Env}{i b:Nat}{r:Res}(h:Owns w ρ i r b):ozz r=false:=by
 cases hg:ozz r with
 |false=>rfl
 |true=>exact absurd h (Jz3 hg)
theorem Rzi {F:Cells}{w:World}{ρ:Env}{Mine:Nat->Prop}{m:Mem}(hm:MemOk F w ρ Mine m){a b:AVal}{v:Value}(h:ARel F w ρ a v):ARel F w ρ (nilP m a b) v:=by
 unfold nilP
 split
 ·rename_i i p
  split
  ·rename_i hi
   have hn:ρ.vec i=none:=hm.ok i _ hi
   cases h with
   |vnil _=>exact .pure .nil
   |vec hh=>rw[hh]at hn;cases hn
  ·exact h
 ·exact h
def Qz7 (s:St)(τ:Nat->Nat):List (Nat×AVal)->Prop
 |[]=>True
 |(t,a)::l=>ASub (nilP s.mem (s.get t) a) (a.ren τ)/\Qz7 s τ l
def isFn:AVal->Bool
 | .func _ _ _=>true
 |_=>false
def Ent (n0:Nat)(s s':St):Prop:=
 let τ:=idOf n0 (Hz7 n0 s s')
 if injB τ s'.mem&&s'.df.all isFn then Qz7 s τ s'.fr/\MSub s.mem (Mem.ren τ s'.mem)/\rzb s.df (AVal.renL τ s'.df)else False
def jz4:List Oper->Option (List Oper×Operand)
 |[]=>none
 |[o]=>match o.op,o.dst,o.guard with
  | .defer c,none,none=>match c.callee,c.args.toList with
    | .value x,[]=>some ([],x)
    |_,_=>none
  |_,_,_=>none
 |o::o'::rest=>match jz4 (o'::rest)with
  |some (l,x)=>some (o::l,x)
  |none=>none
section
variable (P:Program) (nt n0:Nat) (drawOk:List Oper->List Eff->Bool)
end
theorem Izz {s:St}{τ:Nat->Nat}:∀ {l:List (Nat×AVal)},Qz7 s τ l->∀t,ASub (nilP s.mem (s.get t) (lz8 l t)) ((lz8 l t).ren τ)
 |[],_,t=>⟨fun F w ρ v _=>.any⟩
 |(i,a)::l,h,t=>by
  simp only[lz8]
  split
  ·rename_i e;subst e;exact h.1
  ·exact Izz h.2 t
theorem Ent.sat {X:Cx}{F:Cells}{w:World}{ρ:Env}{s s':St}{a:Act}(h:Ent X.n0 s s')(hs:Sat X F w ρ s a):∃ρ',Sat X F w ρ' s' a:=by
 unfold Ent at h
 simp only at h
 generalize hσ:Hz7 X.n0 s s'=σ at h
 generalize hτ:idOf X.n0 σ=τ at h
 split at h
 ·rename_i hinj
  simp only[Bool.and_eq_true]at hinj
  obtain⟨hinj,hfn⟩:=hinj
  obtain⟨h1,h2,h3⟩:=h
  have hinj':∀x∈s'.mem,∀y∈s'.mem,τ x.1=τ y.1->ozz x.2=false->ozz y.2=false->x.1=y.1:=fun x hx y hy he h1 h2=>Ozf hinj hx hy he h1 h2
  have hget:∀i r,s'.mem.get i=some r->∃r0,s.mem.get (τ i)=some r0/\RSub r0 (r.ren τ):=fun i r hi=>mz9 h2 (Hzb (fz4 hi))
  have hblk:∀i r b,s'.mem.get i=some r->Owns w (ρ.pull τ) i r b->∃r0,s.mem.get (τ i)=some r0/\Owns w ρ (τ i) r0 b:=by
   intro i r b hi hb
   obtain⟨r0,q1,q2⟩:=hget i r hi
   refine⟨r0,q1,(q2.rel F w ρ (τ i) (hs.mem.ok _ _ q1)).2 b ?_⟩
   rw[kzd (ρ:=ρ.pull τ) (ρ':=ρ) ⟨rfl,rfl⟩];exact hb
  refine⟨ρ.pull τ,hs.size,fun t=>ARel.unren _ _ ((Izz h1 t).rel F w ρ _ (Rzi hs.mem (hs.fr t))),⟨fun i r hi=>?_,fun i r b hi hb=>?_,fun i i' r r' b hi hi' hb hb'=>?_⟩,?_,hs.good,hs.from0,fun i hi=>?_⟩
  ·obtain⟨r0,q1,q2⟩:=hget i r hi
   exact(q2.rel F w ρ (τ i) (hs.mem.ok _ _ q1)).1.unren
  ·obtain⟨r0,q1,q2⟩:=hblk i r b hi hb
   exact hs.mem.mine _ _ _ q1 q2
  ·obtain⟨r0,q1,q2⟩:=hblk i r b hi hb
   obtain⟨r1,q3,q4⟩:=hblk i' r' b hi' hb'
   exact hinj' _ (fz4 hi) _ (fz4 hi') (hs.mem.disj _ _ _ _ b q1 q3 q2 q4) (mzc hb) (mzc hb')
  ·have hd:=hs.df
   revert h3 hd hfn
   generalize s.df=ds
   generalize s'.df=es
   generalize a.defers=dd
   clear h1 h2 hget hblk hinj' hinj hs hτ hσ
   intro hfn h3 hd
   induction hd generalizing es with
   |nil=>cases es with
    |nil=>exact .nil
    |cons _ _=>exact h3.elim
   |cons hx _ ih=>
    cases es with
    |nil=>exact h3.elim
    |cons y es=>
     simp only[List.all_cons,Bool.and_eq_true]at hfn
     refine .cons ?_ (ih es hfn.2 h3.2)
     obtain⟨g,first,caps,v1,v2,rfl,rfl,r1,r2⟩:=hx
     have hrel:ARel F w ρ (.func g first caps) (.func (.func g) v1 v2):=.func r1.1 r1.2 r2.1 r2.2
     have:=ARel.unren _ _ (h3.1.rel F w ρ _ hrel)
     cases y<;>simp[isFn]at hfn
     cases this with
     |func q1 q1' q2 q2'=>exact⟨_,_,_,_,_,rfl,rfl,⟨q1,q1'⟩,⟨q2,q2'⟩⟩
  ·have:τ i=i:=by rw[←hτ];simp[idOf,hi]
   have h4:=hs.env0 i hi
   exact⟨by show ρ.blk (τ i)=_;rw[this];exact h4.1,by show ρ.vec (τ i)=_;rw[this];exact h4.2⟩
 ·exact h.elim
theorem wp_loop' {P:Program}{Q:Exit->Act->World->Prop}{a:Act}{w:World}{c:Code}{σ:Type}(I:σ->Act->World->Prop)(μ:σ->Nat)(x0:σ)(h₀:I x0 a w)
 (round:∀x a w,I x a w->c.wp P (Exit.then (fun a' w'=>∃x',I x' a' w'/\μ x'<μ x) Q) a w):(Code.loop c).wp P Q a w:=by
 intro b k cs
 have key:∀n x a w,μ x=n->I x a w->
  ∃e a' w',Q e a' w'/\Arrives P (lone (b.at a (.code c:: .inLoop c::k)) cs w) b k cs e a' w':=by
  intro n
  induction n using Nat.strongRecOn with
  |_ n ih=>
   intro x a w hn hI
   obtain⟨e,a₁,w₁,hq,harr⟩:=round x a w hI b (.inLoop c::k) cs
   cases e with
   |normal=>
    obtain⟨x',hI₁,hlt⟩:=hq
    obtain⟨e₂,a₂,w₂,hq₂,harr₂⟩:=ih (μ x') (hn▸hlt) x' a₁ w₁ rfl hI₁
    exact⟨e₂,a₂,w₂,hq₂,.of_steps (Steps.trans harr (.one step_inLoop)) harr₂⟩
   |exit id=>exact⟨_,a₁,w₁,hq,.pass (x:=.inLoop c) rfl (fun _ _=>.inl (by simp)) harr⟩
   |goto l=>exact⟨_,a₁,w₁,hq,.pass (x:=.inLoop c) rfl (fun _ _=>.inl (by simp)) harr⟩
   |ret=>exact⟨_,a₁,w₁,hq,.pass (x:=.inLoop c) rfl (fun _ _=>.inl (by simp)) harr⟩
   |panic ch=>exact⟨_,a₁,w₁,hq,.pass (x:=.inLoop c) rfl (fun _ _=>.inl (by simp)) harr⟩
   |outgrown=>exact⟨_,a₁,w₁,hq,.pass (x:=.inLoop c) rfl (fun _ _=>.inl (by simp)) harr⟩
 obtain⟨e,a',w',hq,harr⟩:=key _ x0 a w rfl h₀
 exact⟨e,a',w',hq,.of_steps (.one step_loop) harr⟩
def ezp (P:Program)(drawOk:List Oper->List Eff->Bool):Prop:=
 ∀ (X:Cx) (ops:List Oper) (hint:Nat->Option Hint) (K:St->List Eff->Prop) (Q:Exit->Act->World->Prop) (id:Nat) (s:St) (F:Cells) (w:World) (ρ:Env) (a:Act) (rid:Nat),
   hz4 P X.nt ops hint 0 ops id s [] (fun s' tr=>drawOk ops tr=true/\K s' tr)->s.lt id=true->X.n0≤id->Sat X F w ρ s a->
   (∀s' tr' F' w' ρ' a',K s' tr'->s'.lt (id+64 * ops.length)=true->Sat X F' w' ρ' s' a'->Q .normal a' w')->(Code.region rid ops.toArray true).wp P Q a w
theorem xzj {P:Program}{nt:Nat}{ops:List Oper}{hint:Nat->Option Hint}{K K':St->List Eff->Prop}(hK:∀s tr,K s tr->K' s tr):
 ∀ (rest:List Oper) (i id:Nat) (s:St) (tr:List Eff),hz4 P nt ops hint i rest id s tr K->hz4 P nt ops hint i rest id s tr K'
 |[],i,id,s,tr,h=>hK s tr h
 |o::rest,i,id,s,tr,h=>by
  have run:∀ (s:St),(match ezl P hint i o id s with
   |some (out,_)=>if jzb nt o.dst&&tz4 id out then andO out.obl (hz4 P nt ops hint (i+1) rest (id+64) (fzo s o out) (tr++[rzi ops o id out]) K)else False
   |none=>False)->(match ezl P hint i o id s with
   |some (out,_)=>if jzb nt o.dst&&tz4 id out then andO out.obl (hz4 P nt ops hint (i+1) rest (id+64) (fzo s o out) (tr++[rzi ops o id out]) K')else False
   |none=>False):=by
   intro s h
   split at h
   ·split at h
    ·rename_i hc;simp only[hc,if_true];rw[andO_iff]at h⊢;exact⟨h.1,xzj hK rest _ _ _ _ h.2⟩
    ·exact h.elim
   ·exact h.elim
  have skip:∀ (s:St),(if jzb nt o.dst then hz4 P nt ops hint (i+1) rest (id+64) (s.putD o.dst (.tup [])) (tr++[⟨o.dst,nzm ops o,id,.tup [],[],[]⟩]) K else False)->
   (if jzb nt o.dst then hz4 P nt ops hint (i+1) rest (id+64) (s.putD o.dst (.tup [])) (tr++[⟨o.dst,nzm ops o,id,.tup [],[],[]⟩]) K' else False):=by
   intro s h
   split at h
   ·rename_i hc;simp only[hc,if_true];exact xzj hK rest _ _ _ _ h
   ·exact h.elim
  simp only[hz4]at h⊢
  split at h
  ·exact run s h
  ·exact skip s h
  ·exact h.elim
  ·rename_i t b want _
   refine⟨fun hb=>?_,fun hb=>?_⟩
   ·have:=h.1 hb
    cases want
    ·exact skip _ this
    ·exact run _ this
   ·have:=h.2 hb
    cases want
    ·exact run _ this
    ·exact skip _ this
theorem qzs:∀ {ops l:List Oper} {x:Operand},jz4 ops=some (l,x)->∃o c,ops=l++[o]/\o.op=.defer c/\o.dst=none/\o.guard=none/\c.callee=.value x/\c.args=#[]
 |[],l,x,h=>by simp[jz4]at h
 |[o],l,x,h=>by
  simp only[jz4]at h
  split at h
  ·rename_i c h1 h2 h3
   split at h
   ·rename_i y h4 h5
    cases h
    exact⟨o,c,rfl,h1,h2,h3,h4,by simpa using h5⟩
   ·cases h
  ·cases h
 |o::o'::rest,l,x,h=>by
  simp only[jz4]at h
  split at h
  ·rename_i l' x' h'
   cases h
   obtain⟨o1,c,h1,h2⟩:=qzs h'
   exact⟨o1,c,by rw[h1];rfl,h2⟩
  ·cases h
end Go.Abs
