import Derived.Test.YtagmfmidaochlaaGreatDoorZIFunc
open Bool renaming true->W,false->Y
open List renaming length->T
open Option renaming some->U,none->V
open Array renaming getD_eq_getD_getElem?->zn,getElem?_eq_getElem->zo,getElem?_replicate->zu
open Bool renaming and_eq_true->ql,or_self->qR,or_eq_true->qX,not_eq_true'->qY
open Classical renaming not_not->zt
open Decidable renaming decide->qu
open Go renaming World->qm,Program->qn
open List renaming mem_map->xi,getElem?_cons_zero->zm,length_cons->qx,all_eq_true->qk,take_length->xI
open Nat renaming add_assoc->zj,add_comm->xr,add_zero->xz,sub_self->zk,sub_zero->xE,zero_add->zq,lt_trichotomy->zr
open Option renaming getD_some->w7
namespace Go.Abs
def Ga (ops:List Oper):List Nat:=
 ops.foldl (λa o=>a++[o.after.toList.foldl (λs e=>if Region.binds .any e then s|||2 ^ e.on|||a.getD e.on 0 else s) 0]) []
mutual
def ac.free (d:Nat):ac->Bool
 | .agg c| .tup c=>ac.freeL d c
 | .iface _ a=>ac.free d a
 | .vec i| .ptr i _| .eptr i _ _ _| .map i| .bsl i _| .view i _ _ _=>qu (i<d)||qu (d+64<=i)
 | .func _ a b=>ac.freeL d a&&ac.freeL d b
 | .any| .pure _| .tt| .ff| .ref _| .anyb| .yld _| .clip _| .nilp=>W
def ac.freeL (b:Nat):List ac->Bool
 |[]=>W
 |a::l=>ac.free b a&&ac.freeL b l
end
def Res.free (c:Nat):Res->Bool
 | .box b=>ac.freeL c b
 | .vecX _ _ _ _ _ _ i=>qu (i<c)||qu (c+64<=i)
 | .vecU _ _ _ _ _ _ _ _ a=>a.all λx=>qu (x.2<c)||qu (c+64<=x.2)
 |_=>W
def oA (a:Nat):Mem->Bool
 |[]=>W
 |(i,r)::m=>(qu (i<a)||qu (a+64<=i))&&Res.free a r&&oA a m
def ids (m:Mem):List Nat:=m.map (·.1)
def disj (a b:List Nat):Bool:=a.all λx=> !b.contains x
def oK (d:Option Nat)(l:List Nat):Bool:=
 match d with
 |none=>W
 |some t=> !l.contains t
def h8 (o:Oper):Bool:=
 match o.op with
 | .call c=>match c.callee with
   | .builtin .len=>W
   |_=>Y
 |_=>Y
def vlen:Res->Option Nat
 | .vec _ n _ _ _=>U n
 | .vecU _ n _ _ _ _ _ _ _=>U n
 | .nilv=>U 0
 |_=>V
def isV:Res->Bool
 | .vec _ _ _ _ _=>W
 | .vecU _ _ _ _ _ _ _ _ _=>W
 | .nilv=>W
 |_=>Y
def sC (l:List Nat):Mem->Bool
 |[]=>W
 |(i,r)::m=>(!l.contains i||isV r)&&sC l m
def oF (a:Bool)(x y:aP):Bool:=
 oK x.dst y.uses&&oK y.dst x.uses&&oK x.dst y.dst.toList&&
 disj (ids x.wr) y.rd&&(disj (ids y.wr) x.rd||(a&&sC x.rd y.wr))&&disj (ids x.wr) (ids y.wr)&&
 ac.free x.id y.val&&oA x.id y.wr
def sc (b:List Nat)(a:Bool)(x:aP)(i:Nat):Nat->List aP->Bool
 |_,[]=>W
 |j,y::l=>((b.getD j 0).testBit i||oF a x y)&&sc b a x i (j+1) l
def oB (b:List Nat)(a:List Bool):Nat->List aP->Bool
 |_,[]=>W
 |i,x::l=>sc b (a.getD i Y) x i (i+1) l&&oB b a (i+1) l
def ow:Nat->List Oper->Bool
 |_,[]=>W
 |i,o::l=>o.after.toList.all (λe=> !Region.binds .any e||qu (e.on<i))&&ow (i+1) l
def lI (ops:List Oper)(tr:List aP):Bool:=ow 0 ops&&oB (Ga ops) (ops.map h8) 0 tr
def cT (s:St)(e:aP):St:={(s.putD e.dst e.val)with mem:=e.wr++s.mem}
def bK (L:Nat->Bool):Nat->List aP->St->St
 |_,[],s=>s
 |j,e::tr,s=>bK L (j+1) tr (if L j then cT s e else s)
theorem iD (s:St)(e:aP)(t:Nat):(cT s e).get t=if e.dst=U t then e.val else s.get t:=by cases h:e.dst<;>grind[cT,St.putD,St.get,St.put,di]
theorem abe (s:St)(e:aP):(cT s e).df=s.df:=by cases h:e.dst<;>simp[cT,St.putD,h,St.put]
theorem sI (L:Nat->Bool):∀ (tr:List aP) (j:Nat) (s:St),(bK L j tr s).df=s.df
 |[],j,s=>rfl
 |e::tr,j,s=>by
  simp only[bK];rw[sI L tr];split;{exact abe s e};rfl
theorem pI {L L':Nat->Bool}{t:Nat}:∀ (tr:List aP) (j:Nat) (s d:St),s.get t=d.get t->(∀k e,tr[k]?=U e->e.dst=U t->L (j+k)=L' (j+k))->(bK L j tr s).get t=(bK L' j tr d).get t
 |[],j,s,d,h,_=>h
 |e::tr,j,s,d,h,g=>by
  refine pI tr (j+1) _ _ ?_ (λk l i c=>by have:=g (k+1) l (by simpa using i) c;simpa[zj,xr 1 k]using this);by_cases c:e.dst=U t
  ·have:=g 0 e jV c;rw[xz]at this;rw[this];split;{rw[iD,iD,qc c,qc c]};exact h
  have f:∀ (b:Bool) (s:St),(if b then cT s e else s).get t=s.get t:=by
   intro b s;cases b;{rfl};simp only[if_true];rw[iD,qb c]
  rw[f,f];exact h
theorem uz {L L':Nat->Bool}{i:Nat}:∀ (tr:List aP) (j:Nat) (s c:St),s.mem.get i=c.mem.get i->(∀k e,tr[k]?=U e->i∈ids e.wr->L (j+k)=L' (j+k))->(bK L j tr s).mem.get i=(bK L' j tr c).mem.get i
 |[],j,s,c,h,_=>h
 |e::tr,j,s,c,h,f=>by
  refine uz tr (j+1) _ _ ?_ (λk l n d=>by have:=f (k+1) l (by simpa using n) d;simpa[zj,xr 1 k]using this);by_cases d:i∈ids e.wr
  ·have:=f 0 e jV d;rw[xz]at this;rw[this];split;{simp only[cT,Mem.get_append,h]};exact h
  have o:e.wr.get i=none:=by
   cases m:e.wr.get i with
   |none=>rfl
   |some r=>exact absurd (xi.2 ⟨_,dK m,rfl⟩) d
  have g:∀ (b:Bool) (s:St),(if b then cT s e else s).mem.get i=s.mem.get i:=by
   intro b s;cases b;{rfl};simp only[if_true,cT,Mem.get_append,o,Option.none_or]
  rw[g,g];exact h
theorem Pc {L:Nat->Bool}{t n:Nat}:∀ (tr:List aP) (j:Nat) (s c:St) (a:aP),j<=n->tr[n-j]?=U a->L n=false->s.get t=c.get t->
 (∀k e,tr[k]?=U e->n<j+k->L (j+k)=true->e.dst=U t->a.dst=U t->False)->
 (bK (λx=>if x=n then W else L x) j tr s).get t=if a.dst=U t then a.val else(bK L j tr c).get t
 |[],j,s,c,a,_,h,_,_,_=>jX
 |e::tr,j,s,c,a,B,p,y,A,b=>by
  simp only[bK];by_cases r:j=n
  ·subst r;simp only[zk,zm,Option.some.injEq]at p;subst p;by_cases v:e.dst=U t
   ·have u:=pI (L:=λx=>if x=j then W else L x) (L':=λ_=>Y) (t:=t) tr (j+1) (cT s e) (cT s e) rfl (λk m f d=>by
     have i:¬j+1+k=j:=qa;simp only[qb i];cases g:L (j+1+k)with
     |false=>rfl
     |true=>exact(b (k+1) m jW qa jX d v).elim)
    have q:∀ (tr:List aP) (j:Nat) (s:St),bK (λ_=>Y) j tr s=s:=by
     intro tr;induction tr<;>grind[bK]
    grind[iD]
   grind[pI,iD]
  have l:tr[n- (j+1)]?=U a:=by
   grind
  refine Pc tr (j+1) _ _ a qa l y ?_ (λk m f o g z w=>b (k+1) m jW qa jX z w);grind[iD]
theorem Pe {L:Nat->Bool}{i n:Nat}:∀ (tr:List aP) (j:Nat) (s d:St) (b:aP),j<=n->tr[n-j]?=U b->L n=false->s.mem.get i=d.mem.get i->
 (∀k e,tr[k]?=U e->n<j+k->L (j+k)=true->i∈ids e.wr->i∈ids b.wr->False)->
 (bK (λx=>if x=n then W else L x) j tr s).mem.get i=(b.wr.get i).or ((bK L j tr d).mem.get i)
 |[],j,s,d,b,_,h,_,_,_=>jX
 |e::tr,j,s,d,b,F,v,A,H,c=>by
  simp only[bK];by_cases E:j=n
  ·subst E;simp only[zk,zm,Option.some.injEq]at v;subst v;by_cases f:i∈ids e.wr
   ·have C:=uz (L:=λx=>if x=j then W else L x) (L':=λ_=>Y) (i:=i) tr (j+1) (cT s e) (cT s e) rfl (λk g p q=>by
     have l:¬j+1+k=j:=qa;simp only[qb l];cases t:L (j+1+k)with
     |false=>rfl
     |true=>exact(c (k+1) g jW qa jX q f).elim)
    have none:∀ (tr:List aP) (j:Nat) (s:St),bK (λ_=>Y) j tr s=s:=by
     intro tr;induction tr<;>grind[bK]
    obtain⟨x,w,rfl⟩:=xi.1 f;obtain⟨r,G⟩:=EL (m:=e.wr) ⟨x,w,rfl⟩;grind[cT,Mem.get_append]
   have y:e.wr.get i=none:=by
    cases B:e.wr.get i with
    |none=>rfl
    |some r=>exact absurd (xi.2 ⟨_,dK B,rfl⟩) f
   grind[uz,cT,Mem.get_append]
  have o:tr[n- (j+1)]?=U b:=by
   grind
  refine Pe tr (j+1) _ _ b qa o A ?_ (λk g p u t D z=>c (k+1) g jW qa jX D z);grind[cT,Mem.get_append]
theorem Pf {L:Nat->Bool}{x i:Nat}{R:Res->Prop}:∀ (tr:List aP) (j:Nat) (s d:St),(s.mem.get x=d.mem.get x\/(i<=j/\∃r,s.mem.get x=U r/\R r))->
 (∀k e,tr[k]?=U e->x∈ids e.wr->j+k<i->L (j+k)=W)->
 (∀k e,tr[k]?=U e->i<=j+k->L (j+k)=true->∀r,e.wr.get x=U r->R r)->
 (bK L j tr s).mem.get x=(bK (λy=>qu (y<i)) j tr d).mem.get x\/∃r,(bK L j tr s).mem.get x=U r/\R r
 |[],j,s,d,h,_,_=>h.imp id λh=>h.2
 |e::tr,j,s,d,h,n,l=>by
  refine Pf tr (j+1) _ _ ?_ (λk g f c u=>by have:=n (k+1) g jW c qa;grind)
   (λk g f u o=>l (k+1) g jW qa jX)
  have a:x∉ids e.wr->∀ (b:Bool) (s:St),(if b then cT s e else s).mem.get x=s.mem.get x:=by
   intro c b s;have w:e.wr.get x=none:=by
    cases t:e.wr.get x with
    |none=>rfl
    |some r=>exact absurd (xi.2 ⟨_,dK t,rfl⟩) c
   grind[cT,Mem.get_append]
  by_cases q:j<i
  ·have f:s.mem.get x=d.mem.get x:=by
    grind
   left;by_cases c:x∈ids e.wr
   ·have o:L j=true:=by have:=n 0 e jV c qa;omega
    grind[cT,Mem.get_append]
   rw[a c,a c,f]
  by_cases c:x∈ids e.wr
  ·cases o:L j with
   |false=>
    grind
   |true=>
    right;obtain⟨y,p,rfl⟩:=xi.1 c;obtain⟨r,v⟩:=EL (m:=e.wr) ⟨y,p,rfl⟩;refine⟨qa,r,?_,l 0 e jV qa qa r v⟩;grind[cT,Mem.get_append]
  rw[a c];grind
inductive Path (P:qn) (nt:Nat) (ops:List Oper) (hint:Nat->Option Hint):Nat->List Oper->Nat->St->List aP->St->Prop
 |nil {i id:Nat} {s:St}:Path P nt ops hint i [] id s [] s
 |dec {i id:Nat} {rest:List Oper} {s s':St} {tr:List aP} {t:Nat} {b:Bool} (hx:s.get t=.pure (.bool b))
  (h:Path P nt ops hint i rest id (s.put t (if b then .tt else .ff)) tr s'):Path P nt ops hint i rest id s tr s'
 |run {i id:Nat} {o:Oper} {rest:List Oper} {s s':St} {tr:List aP} {out:Out} {fl:Bool} (hg:cB ops s o=.run)
  (hst:cU P hint i o id s=U (out,fl)) (hd:cY nt o.dst=W) (ho:eC id out=W) (hob:holds out.obl)
  (h:Path P nt ops hint (i+1) rest (id+64) (dr s o out) tr s'):Path P nt ops hint i (o::rest) id s (ez ops o id out::tr) s'
 |skip {i id:Nat} {o:Oper} {rest:List Oper} {s s':St} {tr:List aP} (hg:cB ops s o=.skip) (hd:cY nt o.dst=W)
  (h:Path P nt ops hint (i+1) rest (id+64) (s.putD o.dst (.tup [])) tr s'):Path P nt ops hint i (o::rest) id s (⟨o.dst,fb ops o,id,.tup [],[],[]⟩::tr) s'
theorem Fn {P:qn}{z:Nat}{ops:List Oper}{hint:Nat->Option Hint}{K:St->List aP->Prop}:
 ∀ (d:List Oper) (i id:Nat) (s:St) (tr:List aP),cG P z ops hint i d id s tr K->∃a e,Path P z ops hint i d id s a e/\K e (tr++a)
 |[],i,id,s,tr,h=>⟨[],s,.nil,by simpa[cG]using h⟩
 |o::d,i,id,s,tr,h=>by
  have p:∀ (s:St),cB ops s o=.run->(match cU P hint i o id s with
   |some (out,_)=>if cY z o.dst&&eC id out then gc out.obl (cG P z ops hint (i+1) d (id+64) (dr s o out) (tr++[ez ops o id out]) K)else False
   |none=>False)->∃a e,Path P z ops hint i (o::d) id s a e/\K e (tr++a):=by
   intro s f h;split at h
   ·rename_i out y m;split at h;{rename_i v;simp only[ql]at v;obtain⟨w,r⟩:=andO_iff.1 h;obtain⟨a,e,j,k⟩:=Fn d _ _ _ _ r;exact⟨_,e,.run f m v.1 v.2 w j,by simpa using k⟩};exact h.elim
   exact h.elim
  have g:∀ (s:St),cB ops s o=.skip->(if cY z o.dst then cG P z ops hint (i+1) d (id+64) (s.putD o.dst (.tup [])) (tr++[⟨o.dst,fb ops o,id,.tup [],[],[]⟩]) K else False)->
   ∃a e,Path P z ops hint i (o::d) id s a e/\K e (tr++a):=by
   intro s f h;split at h;{rename_i x;obtain⟨a,e,j,k⟩:=Fn d _ _ _ _ h;exact⟨_,e,.skip f x j,by simpa using k⟩};exact h.elim
  simp only[cG]at h;split at h;{rename_i f;exact p s f h};{rename_i f;exact g s f h};{exact h.elim};rename_i t b l f;obtain⟨u,_⟩:=DQ f;cases b with
  |true=>
   have k:=rJ (c:=W) f;have q:=h.1 rfl;cases l with
   |true=>obtain⟨a,e,j,n⟩:=p _ k q;exact⟨a,e,.dec u j,n⟩
   |false=>obtain⟨a,e,j,n⟩:=g _ k q;exact⟨a,e,.dec u j,n⟩
  |false=>
   have k:=rJ (c:=Y) f;have q:=h.2 rfl;cases l with
   |true=>obtain⟨a,e,j,n⟩:=g _ k q;exact⟨a,e,.dec u j,n⟩
   |false=>obtain⟨a,e,j,n⟩:=p _ k q;exact⟨a,e,.dec u j,n⟩
structure At (P:qn) (nt:Nat) (ops:List Oper) (hint:Nat->Option Hint) (i:Nat) (o:Oper) (e:aP) (p s:St) (id:Nat):Prop where
 dst:e.dst=o.dst
 uses:e.uses=fb ops o
 eid:e.id=id
 ok:cY nt o.dst=W
 get:∀t,bR (p.get t) (s.get t)
 mem:s.mem=p.mem
 lt:s.lt id=W
 vlt:e.val.lt (id+64)=W
 wlt:b6 (id+64) e.wr=W
 does:(cB ops s o=.run/\∃out fl,cU P hint i o id s=U (out,fl)/\holds out.obl/\e.val=out.val/\e.rd=out.rd/\e.wr=out.wr)\/
  (cB ops s o=.skip/\e.val=.tup []/\e.rd=[]/\e.wr=[])
def pre:List aP->St->St
 |[],p=>p
 |e::tr,p=>pre tr (cT p e)
theorem bR.refl (a:ac):bR a a:=⟨λ_ _ _ _ h=>h⟩
theorem bR.trans {a b c:ac}(h:bR a b)(d:bR b c):bR a c:=⟨λF w ρ v x=>d.rel F w ρ v (h.rel F w ρ v x)⟩
theorem ac4 (b:Bool):bR (.pure (.bool b)) (if b then .tt else .ff):=⟨λF w ρ v h=>by
 have:=h.pure_inv.bool_inv;subst this;cases b;{exact .ff};exact .tt⟩
theorem ac2 (s:St)(o:Oper)(out:Out)(t:Nat):(dr s o out).get t=if o.dst=U t then out.val else s.get t:=by cases h:o.dst<;>grind[dr,St.putD,St.get,St.put,di]
theorem SK (s:St)(d:Option Nat)(a:ac)(t:Nat):(s.putD d a).get t=if d=U t then a else s.get t:=by cases d<;>grind[St.putD,St.put,St.get,di]
theorem ahr {P:qn}{F:Nat}{ops:List Oper}{hint:Nat->Option Hint}{i:Nat}{c:List Oper}{id:Nat}{s l:St}{tr:List aP}(h:Path P F ops hint i c id s tr l):
 ∀ (p:St),(∀t,bR (p.get t) (s.get t))->s.mem=p.mem->s.lt id=true->
 (T tr)=T c/\(∀k o,c[k]?=U o->∃e A,tr[k]?=U e/\At P F ops hint (i+k) o e (pre (tr.take k) p) A (id+64 * k))/\
 (∀t,bR ((pre tr p).get t) (l.get t))/\l.mem=(pre tr p).mem/\l.df=s.df/\l.lt (id+64 * T c)=true:=by
 induction h with
 |nil=>
  intro p m j g;exact⟨rfl,jV,m,j,rfl,qa⟩
 |@dec i id c s l tr t b K h x=>
  intro p m j g;have:=x p (λJ=>by
   have e:=SK s (U t) (if b then .tt else .ff) J;simp only[St.putD]at e;rw[e];split;{rename_i e;cases e;exact(m t).trans (by grind[ac4])};simp_all) j (mY g (a:=if b then .tt else .ff) (by cases b<;>rfl) (U t))
  exact this
 |@run i id o c s l tr out H B D C E z h x=>
  intro p m j g;obtain⟨q,y,f,d,r,w⟩:=x (cT p (ez ops o id out)) (λt=>by
   grind[ac2,iD,ez,bR.refl]) (by grind[cT,dr,ez]) (Q4 g E)
  have u:=E;simp only[eC,ql]at u;refine⟨jW,λk L v=>?_,f,d,?_,?_⟩
  ·cases k with
   |zero=>
    simp at v;subst v;exact⟨_,s,rfl,rfl,rfl,rfl,C,m,j,g,u.1,u.2,.inl ⟨B,out,H,D,z,rfl,rfl,rfl⟩⟩
   |succ k=>
    grind[pre]
  {rw[r];cases n:o.dst<;>simp[dr,St.putD,n,St.put]};rw[qx,show id+64 * (T c+1)=id+64+64 * T c from qa];omega
 |@skip i id o c s l tr B C h x=>
  intro p m j g;obtain⟨q,y,f,d,r,w⟩:=x (cT p ⟨o.dst,fb ops o,id,.tup [],[],[]⟩) (λt=>by
   rw[SK,iD];by_cases e:o.dst=U t;{rw[qc e,qc e];exact bR.refl _};rw[qb e,qb e];exact m t) (by simp only[cT];cases o.dst<;>simp[St.putD,St.put,j]) (St.lt_mono qa (mY g rfl o.dst))
  refine⟨by simp[q],λk L v=>?_,f,d,?_,?_⟩
  ·cases k with
   |zero=>
    simp at v;subst v;exact⟨_,s,rfl,rfl,rfl,rfl,C,m,j,g,rfl,rfl,.inr ⟨B,rfl,rfl,rfl⟩⟩
   |succ k=>
    obtain⟨e,A,I,G⟩:=y k L (by simpa using v);refine⟨e,A,by simpa using I,?_⟩;rw[show i+(k+1)=i+1+k from qa,show id+64 * (k+1)=id+64+64 * k from qa];simpa[pre]using G
  {rw[r];cases n:o.dst<;>simp[St.putD,St.put]};rw[qx,show id+64 * (T c+1)=id+64+64 * T c from qa];exact w
theorem iJ (n:Nat):∀ (tr:List aP) (j:Nat) (p:St),bK (λx=>qu (x<n)) j tr p=pre (tr.take (n-j)) p
 |[],j,p=>by simp[bK,pre]
 |e::tr,j,p=>by
  simp only[bK];by_cases h:j<n;{rw[qc kc,iJ n tr,show n-j=(n- (j+1))+1 from qa];simp[pre]};rw[qb kc,iJ n tr,show n-j=0 from qa,show n- (j+1)=0 from qa];simp[pre]
theorem Pd {R:ac->Prop}{L:Nat->Bool}{t:Nat}:∀ (tr:List aP) (j:Nat) (s:St),R (s.get t)->(∀k e,tr[k]?=U e->L (j+k)=true->R e.val)->R ((bK L j tr s).get t)
 |[],j,s,h,_=>h
 |e::tr,j,s,h,a=>by
  refine Pd tr (j+1) _ ?_ (λk b d c=>a (k+1) b jW jX);split
  ·rw[iD];split;{exact a 0 e jV qa};omega
  omega
theorem yY {R:Nat->Res->Prop}{L:Nat->Bool}:∀ (tr:List aP) (j:Nat) (s:St),(∀i r,s.mem.get i=U r->R i r)->(∀k e,tr[k]?=U e->L (j+k)=true->∀i r,e.wr.get i=U r->R i r)->∀i r,(bK L j tr s).mem.get i=U r->R i r
 |[],j,s,h,_=>h
 |e::tr,j,s,h,b=>by
  refine yY tr (j+1) _ ?_ (λk f g l=>b (k+1) f jW jX);split
  ·intro i r a;simp only[cT,Mem.get_append]at a;cases c:e.wr.get i with
   |none=>simp_all
   |some d=>rw[c]at a;simp at a;subst a;exact b 0 e jV qa i d c
  omega
mutual
theorem EH {e i:Nat}(d:Own e i):∀ {a:ac},a.free e=true->a.has i=Y
 | .agg c,h=>by exact mp d h
 | .tup c,h=>by exact mp d h
 | .vec j,h=>by simp[ac.free]at h;simp[ac.has];have:=d.1;have:=d.2;omega
 | .ptr j _,h=>by simp[ac.free]at h;simp[ac.has];have:=d.1;have:=d.2;omega
 | .eptr j _ _ _,h=>by simp[ac.free]at h;simp[ac.has];have:=d.1;have:=d.2;omega
 | .map j,h=>by simp[ac.free]at h;simp[ac.has];have:=d.1;have:=d.2;omega
 | .bsl j _,h=>by simp[ac.free]at h;simp[ac.has];have:=d.1;have:=d.2;omega
 | .view j _ _ _,h=>by simp[ac.free]at h;simp[ac.has];have:=d.1;have:=d.2;omega
 | .iface _ a,h=>by simp only[ac.has];exact EH d h
 | .func _ a b,h=>by
   simp only[ac.free,ql]at h;simp only[ac.has,mp d h.1,mp d h.2,qR]
 | .any,_=>rfl
 | .pure _,_=>rfl
 | .tt,_=>rfl
 | .ff,_=>rfl
 | .ref _,_=>rfl
 | .anyb,_=>rfl
 | .nilp,_=>rfl
 | .clip _,_=>rfl
 | .yld _,_=>rfl
theorem mp {c i:Nat}(b:Own c i):∀ {l:List ac},ac.freeL c l=true->ac.hasL i l=Y
 |[],_=>rfl
 |a::l,h=>by
  simp only[ac.freeL,ql]at h;simp only[ac.hasL,EH b h.1,mp b h.2,qR]
end
theorem P4 {l:Nat}:∀ {m:Mem},oA l m=true->∀ {i:Nat} {r:Res},m.get i=U r->¬Own l i/\∀x,Own l x->r.has x=Y
 |[],_,i,r,h=>by simp[Mem.get]at h
 |(k,q)::m,b,i,r,h=>by
  simp only[oA,ql]at b;simp only[Mem.get]at h;split at h
  ·cases h;refine⟨λd=>?_,λx a=>?_⟩;{have:=d.1;have:=d.2;simp at *;omega};cases q with
   |box g=>exact mp a b.1.2
   |vecX _ _ _ _ _ _ i=>have:=a.1;have:=a.2;simp[Res.free]at *;simp[Res.has];omega
   |vecU _ _ _ _ _ _ _ _ j=>
    have c:=b.1.2;simp only[Res.free,qk,qX,qf]at c;simp only[Res.has,List.any_eq_false,beq_iff_eq];exact λy f e=>by have:=c y f;have:=a.1;have:=a.2;omega
   |_=>rfl
  exact P4 b.2 h
variable {F:Cells}{m c:Mem}
theorem aG.congr{w:qm}{ρ:Env}{k:Nat->Prop}(h:aG F w ρ k m)(j:∀i,c.get i=m.get i):aG F w ρ k c:=
 ⟨λid r e=>h.ok id r jW,λid r b e=>h.mine id r b jW,λid a r d b g f=>h.disj id a r d b jW jW⟩
theorem Oc {c:List Nat}{b:Bool}{x:aP}{i:Nat}:∀ {l:List aP} {j:Nat},sc c b x i j l=true->∀k y,l[k]?=U y->(c.getD (j+k) 0).testBit i=W\/oF b x y=W
 |[],j,_,k,y,h=>jX
 |z::l,j,h,k,y,a=>by
  simp only[sc,ql,qX]at h;cases k with
  |zero=>simp at a;subst a;simpa using h.1
  |succ k=>
   have:=Oc h.2 k y (by simpa using a);rwa[show j+(k+1)=j+1+k from qa]
theorem Bn {d:List Nat}{e:List Bool}:∀ {l:List aP} {i:Nat},oB d e i l=true->∀a b x y,a<b->l[a]?=U x->l[b]?=U y->(d.getD (i+b) 0).testBit (i+a)=W\/oF (e.getD (i+a) Y) x y=W
 |[],i,_,a,b,x,y,_,h,_=>jX
 |z::l,i,h,a,b,x,y,g,c,f=>by
  simp only[oB,ql]at h;obtain⟨b,rfl⟩:∃j,b=j+1:=⟨b-1,qa⟩;cases a with
  |zero=>
   simp at c;subst c;have:=Oc h.1 b y (by simpa using f);rwa[show i+(b+1)=i+1+b from qa]
  |succ a=>
   have:=Bn h.2 a b x y qa (by simpa using c) (by simpa using f);rwa[show i+(b+1)=i+1+b from qa,show i+(a+1)=i+1+a from qa]
theorem Cs {d:Option Nat}{l:List Nat}{t:Nat}(h:oK d l=W)(a:d=U t)(b:t∈l):False:=by grind[oK]
theorem DE {a b:List Nat}{i:Nat}(h:disj a b=W)(c:i∈a)(d:i∈b):False:=by grind[disj]
theorem Pp {l:List Nat}:∀ {m:Mem},sC l m=true->∀ {i:Nat} {r:Res},i∈l->m.get i=U r->isV r=W
 |[],_,i,r,_,h=>by simp[Mem.get]at h
 |(k,q)::m,a,i,r,c,h=>by
  simp only[sC,ql,qX,qY,List.contains_eq_mem,qi]at a;simp only[Mem.get]at h;split at h
  ·rename_i e;subst e;cases h;rcases a.1 with b|b
   {exact absurd c b};exact b
  exact Pp a.2 c h
structure Apart (lx:Bool) (x y:aP):Prop where
 xy:∀t,x.dst=U t->t∈y.uses->False
 yx:∀t,y.dst=U t->t∈x.uses->False
 dd:∀t,x.dst=U t->y.dst=U t->False
 wr:∀i,i∈ids x.wr->i∈y.rd->False
 rw:(∀i,i∈ids y.wr->i∈x.rd->False)\/(lx=W/\∀i r,i∈x.rd->y.wr.get i=U r->isV r=W)
 ww:∀i,i∈ids x.wr->i∈ids y.wr->False
 val:y.val.free x.id=W
 mem:oA x.id y.wr=W
theorem Qo {d:Bool}{x y:aP}(h:oF d x y=W):Apart d x y:=by simp only[oF,ql,qX]at h;obtain⟨⟨⟨⟨⟨⟨⟨k,g⟩,f⟩,m⟩,c⟩,e⟩,j⟩,l⟩:=h;exact⟨λt a b=>Cs k a b,λt a b=>Cs g a b,λt a b=>Cs f a jX,λi a b=>DE m a b,c.imp (λc i a b=>DE c a b) (λc=>⟨c.1,λi r a b=>Pp c.2 a b⟩),λi a b=>DE e a b,j,l⟩
def slen:Option (Nat×Nat×Nat)->Nat
 |none=>0
 |some x=>x.2.1
variable {r:Res}
theorem Fz{w:qm}{ρ:Env}{id n:Nat}(h:cH F w ρ id r)(d:vlen r=U n):slen (ρ.vec id)=n:=by
 cases r<;>simp only[vlen,Option.some.injEq,reduceCtorEq]at d
 {subst d;rw[h];rfl}
 ·subst d;obtain⟨_,⟨a,e⟩|⟨b,f,c,a,_⟩⟩:=h;{rw[a,e];rfl};rw[a];rfl
 subst d;obtain⟨_,_,⟨a,e,_⟩|⟨b,f,c,a,_⟩⟩:=h;{rw[a,e];rfl};rw[a];rfl
theorem af8(h:isV r=W):∃n,vlen r=U n:=by cases r<;>simp[isV]at h<;>exact⟨_,rfl⟩
theorem adb{P:qn}{f:Array TypeId}{a:ac}{out:Out}(h:lC P f a m=U out)
 (d:∀x∈out.rd,∀n,(m.get x).bind vlen=U n->(c.get x).bind vlen=U n):lC P f a c=U out:=by
 have b:∀ (id n:Nat),(c.get id).bind vlen=U n->(match c.get id with
  |some (.vec _ n _ _ _)=>U (⟨.pure (.int .i64 n),[id],[],V⟩:Out)
  |some (.vecU _ n _ _ _ _ _ _ _)=>U ⟨.pure (.int .i64 n),[id],[],V⟩
  |some .nilv=>U ⟨.pure (.int .i64 (0:Nat)),[id],[],V⟩
  |_=>V)=U ⟨.pure (.int .i64 n),[id],[],V⟩:=by
  intro id n e;cases g:c.get id with
  |none=>simp_all
  |some r=>
   rw[g]at e;cases r<;>simp[vlen]at e<;>subst e<;>rfl
 unfold lC at h⊢;split at h
 ·split at h;{exact h};{exact h}
  ·rename_i j i id k;cases M:m.get id with
   |none=>simp_all
   |some r=>
    rw[M]at h;cases r<;>simp only[reduceCtorEq,Option.some.injEq]at h
    {subst h;exact b _ _ (d _ jV 0 (by rw[M];rfl))};{subst h;exact b _ _ (d _ jV _ (by rw[M];rfl))};subst h;exact b _ _ (d _ jV _ (by rw[M];rfl))
  all_goals omega
 omega
theorem agd{P:qn}{hint:Nat->Option Hint}{i id:Nat}{o:Oper}{s:St}{out:Out}{l:Bool}(e:h8 o=W)(h:cU P hint i o id s=U (out,l))
 (r:∀x∈out.rd,∀n,(s.mem.get x).bind vlen=U n->(m.get x).bind vlen=U n):cU P hint i o id {s with mem:=m}=U (out,l):=by
 have q:aL {s with mem:=m}=aL s:=rfl;have k:∀a f,eL P hint i o id s=U (a,f)->(∀x∈a.rd,∀n,(s.mem.get x).bind vlen=U n->(m.get x).bind vlen=U n)->eL P hint i o id {s with mem:=m}=U (a,f):=by
  intro a f b g;unfold h8 at e;unfold eL at b⊢;split at e
  ·rename_i c d;split at e
   ·rename_i p;rw[d]at b⊢;simp only[p,F8,Bool.and_false,Bool.false_eq_true,if_false,rZ,q]at b⊢;split at b
    ·rename_i x t;split at b;{exact b};cases j:lC P c.argTypes (aL s x) s.mem with
     |none=>rw[j]at b;simp at b
     |some v=>
      rw[j]at b;simp at b;rw[adb j (by rw[b.1];exact g)];simp[b.1,b.2]
    simp at b
   cases e
  cases e
 unfold cU at h⊢;split at h
 ·rename_i a f b;split at h
  ·rename_i u d;simp only[Option.some.injEq,Prod.mk.injEq]at h;have M:a.rd=out.rd:=by
    rw[<-h.1];unfold lj at d;split at d;{cases d;rfl}
    ·split at d;{cases d;rfl};{cases d;rfl};cases d
    split at d;{cases d;rfl};cases d
   rw[k _ _ b (by rw[M];exact r)];simp only[d,h.1,h.2]
  cases h
 cases h
theorem Sat.conv{X:Cx}{w:qm}{ρ:Env}{s b:St}{a:Act}(h:Sat X F w ρ s a)(e:∀t,bR (s.get t) (b.get t))(c:∀i,b.mem.get i=s.mem.get i)(d:b.df=s.df):Sat X F w ρ b a:=
 ⟨h.size,λt=>(e t).rel _ _ _ _ (h.fr t),h.mem.congr c,d▸h.df,h.good,h.from0,h.env0⟩
theorem Pn:∀ {l:List Oper} {i:Nat},ow i l=true->∀j o,l[j]?=U o->∀e∈o.after,Region.binds .any e=true->e.on<i+j
 |[],i,_,j,o,h=>jX
 |x::l,i,h,j,o,c=>by
  simp only[ow,ql,qk,qX,qY,qf]at h;cases j with
  |zero=>
   grind
  |succ j=>
   intro e a b;have:=Pn h.2 j o jW e a b;omega
def mO (ops:List Oper)(L:Nat->Bool)(j:Nat):Prop:=∀o,ops[j]?=U o->∀e∈o.after,Region.binds .any e=true->L e.on=W
theorem P1 {L:Nat->Bool}{b:List Nat}(a:∀j,L j=true->∀k,(b.getD j 0).testBit k=true->L k=W):
 ∀ (c:List Edge) (m:Nat),(∀e∈c,Region.binds .any e=true->L e.on=W)->(∀k,m.testBit k=true->L k=W)->
   ∀k,(c.foldl (λs e=>if Region.binds .any e then s|||2 ^ e.on|||b.getD e.on 0 else s) m).testBit k=true->L k=W
 |[],m,_,d,k,h=>d k h
 |e::c,m,g,d,k,h=>by
  refine P1 a c _ (λi f=>g i (List.mem_cons_of_mem _ f)) (λo l=>?_) k h;grind
theorem QG {ops:List Oper}{L:Nat->Bool}(g:∀j,L j=true->mO ops L j):∀j,mO ops L j->∀k,((Ga ops).getD j 0).testBit k=true->L k=true:=by
 have c:∀ (l:List Oper) (a:List Nat),(∀j,l[j]?=ops[T a+j]?)->(∀j,mO ops L j->∀k,(a.getD j 0).testBit k=true->L k=W)->
  ∀j,mO ops L j->∀k,((l.foldl (λa o=>a++[o.after.toList.foldl (λs e=>if Region.binds .any e then s|||2 ^ e.on|||a.getD e.on 0 else s) 0]) a).getD j 0).testBit k=true->L k=true:=by
  intro l;induction l with
  |nil=>simp_all
  |cons o l i=>
   intro a f h;refine i _ (λj=>?_) (λj d k b=>?_)
   ·have:=f (j+1);grind
   rw[List.getD_eq_getElem?_getD,List.getElem?_append]at b;split at b;{exact h j d k jW};by_cases e:j=T a
   ·subst e;simp only[zk,zm,w7]at b;have p:ops[T a]?=U o:=by have:=f 0;simp_all
    exact P1 (λj m=>h j (g j m)) o.after.toList 0 (λe q n=>d o p e jW n) jV k b
   grind
 exact c ops [] jV jV
theorem aaA {F:Cells}{w:qm}{ρ:Env}{s:St}{a:Act}{ops:List Oper}{o:Oper}(h:∀t∈EM ops o,ak F w ρ (s.get t) (a.tmps.getD t undef)):
 (cB ops s o=.run->Region.wanted o (yielded ops.toArray a.tmps)=W)/\(cB ops s o=.skip->Region.wanted o (yielded ops.toArray a.tmps)=Y):=by
 have y:∀ {j t:Nat} {d:Oper} {b:Bool},ops[j]?=U d->d.dst=U t->a.tmps.getD t undef=.bool b->yielded ops.toArray a.tmps j=U b:=by
  intro j t d b k i m;have g:a.tmps[t]?=U (.bool b):=by
   rw[zn]at m;grind[undef]
  grind[yielded]
 cases u:o.guard with
 |none=>grind[Region.wanted,cB]
 |some l=>
  obtain⟨j,e⟩:=l;cases k:ops[j]? with
  |none=>grind[cB]
  |some d=>
   cases i:d.dst with
   |none=>grind[cB]
   |some t=>
    have c:=h t (by grind[EM]);have q:∀b:Bool,a.tmps.getD t undef=.bool b->Region.wanted o (yielded ops.toArray a.tmps)=(b==e):=by
     grind[Region.wanted]
    cases f:s.get t with
    |tt=>
     rw[f]at c;have x:a.tmps.getD t undef=.bool true:=by generalize a.tmps.getD t undef=v at c;cases c;rfl
     grind[cB]
    |ff=>
     rw[f]at c;have x:a.tmps.getD t undef=.bool false:=by generalize a.tmps.getD t undef=v at c;cases c;rfl
     grind[cB]
    |pure p=>
     grind[cB]
    |tup r=>
     constructor;{grind[cB]};cases r with
     |cons _ _=>grind[cB]
     |nil=>
      rw[f]at c;have g:a.tmps.getD t undef=.tuple #[]:=by
       generalize a.tmps.getD t undef=v at c;cases c<;>grind
      rw[zn]at g;grind[yielded,Region.wanted]
    |_=>constructor<;>intro n<;>simp[cB,u,k,i,f]at n
theorem ad6 {l:List Bool}{i n:Nat}(a:l[i]?=U Y)(h:l.count Y=n+1):(l.set i W).count Y=n:=by grind
theorem QI{i:Nat}(h:m.get i=U r):i∈ids m:=xi.2 ⟨_,dK h,rfl⟩
section
variable {P:qn} {X:Cx} {ops:List Oper} {hint:Nat->Option Hint} {Q:Exit->Act->qm->Prop} {tr:List aP} {s0:St} {id0:Nat}
def aja (tr:List aP)(s0:St)(L:Nat->Bool)(ρ:Env):Prop:=
 (∀x r n,s0.mem.get x=U r->vlen r=U n->slen (ρ.vec x)=n)/\
 ∀k a x r n,tr[k]?=U a->L k=true->a.wr.get x=U r->vlen r=U n->slen (ρ.vec x)=n
theorem aes (hlen:T tr=T ops)
 (hat:∀k o,ops[k]?=U o->∃e s,tr[k]?=U e/\At P X.nt ops hint k o e (pre (tr.take k) s0) s (id0+64 * k))
 (hedge:ow 0 ops=W) (hpair:oB (Ga ops) (ops.map h8) 0 tr=W) (I:s0.lt id0=W) (hn0:X.n0<=id0)
 (fin:∀F w ρ a,Sat X F w ρ (pre tr s0) a->Q .normal a w):
 ∀ (B:Nat) (b:Array Bool) (F:Cells) (w:qm) (ρ:Env) (a:Act),b.size=T ops->b.toList.count Y=B->
   (∀j,b.getD j Y=true->mO ops (λj=>b.getD j Y) j)->Sat X F w ρ (bK (λj=>b.getD j Y) 0 tr s0) a->aja tr s0 (λj=>b.getD j Y) ρ->wpAnyIn Fence.wide 0 P .any ops.toArray Q B b a w:=by
 intro B;have done:∀ (b:Array Bool) (F:Cells) (w:qm) (ρ:Env) (a:Act),(∀j,j<T ops->b.getD j Y=W)->Sat X F w ρ (bK (λj=>b.getD j Y) 0 tr s0) a->Q .normal a w:=by
  intro b F w ρ a hall hs;refine fin F w ρ a (hs.conv (λt=>?_) (λi=>?_) ?_)
  ·have e:(bK (λj=>b.getD j Y) 0 tr s0).get t=(pre tr s0).get t:=by
    rw[pI (L':=λx=>qu (x<T tr)) tr 0 s0 s0 rfl,iJ,xE,xI];grind
   grind[bR.refl]
  ·rw[uz (L':=λx=>qu (x<T tr)) tr 0 s0 s0 rfl,iJ,xE,xI];grind
  have:=iJ (T tr) tr 0 s0;grind[sI]
 have J:∀ (b:Array Bool),b.size=T ops->Region.ready .any ops.toArray b=[]->∀j,j<T ops->b.getD j Y=true:=by
  intro b hsz D j;induction j using Nat.strongRecOn with
  |_ j ih=>
   intro hj;have hjl:j<b.size:=qa;have hgd:b.getD j W=b.getD j false:=by
    simp_all
   cases m:b.getD j Y with
   |true=>rfl
   |false=>
    have:j∈Region.ready .any ops.toArray b:=by
     refine mem_ready.2 ⟨jW,ops[j],jV,λe he hb=>?_⟩;have:=Pn hedge j ops[j] jV e he hb;grind
    simp_all
 induction B with
 |zero=>
  intro b F w ρ a hsz hcnt hcl hs _;have hall:∀j,j<T ops->b.getD j Y=true:=by
   intro j hj;have hjl:j<b.size:=qa;rw[zn,zo hjl,w7];grind[List.count_pos_iff]
  refine⟨?_,done b F w ρ a hall hs⟩;simp_all[Region.ready]
 |succ B ih=>
  intro b F w ρ a hsz hcnt hcl hs hln;refine⟨λD=>done b F w ρ a (J b hsz D) hs,λi hi=>?_⟩;obtain⟨hli,o,ho,hed⟩:=mem_ready.1 hi;have ho':ops[i]?=U o:=jW;have hil:i<T ops:=(List.getElem?_eq_some_iff.1 ho').1;have Z:i<b.size:=qa;have G:b.getD i Y=false:=by
   simp_all
  obtain⟨e,s,he,C⟩:=hat i o ho';have hcli:mO ops (λj=>b.getD j Y) i:=λo2 E e2 he2 hb=>jW
  have z:∀k l,k<i->tr[k]?=U l->b.getD k Y=W\/Apart ((ops.map h8).getD k Y) l e:=by
   intro k l u hek;rcases Bn hpair k i l e u hek he with h|h;all_goals grind[QG,Qo]
  have c:∀k l,i<k->tr[k]?=U l->b.getD k Y=true->Apart (h8 o) e l:=by
   intro k l u hek p;rcases Bn hpair i k e l u he hek with h|h;all_goals grind[QG,Qo]
  have hget:∀t∈e.uses,(bK (λj=>b.getD j Y) 0 tr s0).get t=(pre (tr.take i) s0).get t:=by
   intro t ht;rw[pI (L':=λx=>qu (x<i)) tr 0 s0 s0 rfl,iJ,xE];intro k l u hd;rw[zq];rcases zr k i with h|h|h
   ·rcases z k l h u with A|A;{simp_all};exact(A.xy t hd ht).elim
   {simp_all};cases p:b.getD k Y with
   |false=>grind
   |true=>exact((c k l h u p).yx t hd ht).elim
  have hmem:∀x∈e.rd,(bK (λj=>b.getD j Y) 0 tr s0).mem.get x=(pre (tr.take i) s0).mem.get x\/(h8 o=W/\∃r,(bK (λj=>b.getD j Y) 0 tr s0).mem.get x=U r/\isV r=W):=by
   intro x m;have hw:∀k l,tr[k]?=U l->x∈ids l.wr->k<i->b.getD k Y=true:=by
    intro k l u hd h;rcases z k l h u with A|A
    {omega};exact(A.wr x hd m).elim
   have:=Pf (L:=λj=>b.getD j Y) (x:=x) (i:=i) (R:=λr=>h8 o=W/\isV r=W) tr 0 s0 s0 (.inl rfl) (λk l u hd h=>jW) (λk l u h p r D=>by
    rw[zq]at h p;rcases Nat.lt_or_eq_of_le h with h|h
    {rcases(c k l h u p).rw with A|⟨A,E⟩;all_goals grind[QI]};subst h;rw[G]at p;cases p)
   rw[iJ,xE]at this;rcases this with h|⟨r,A,E,h3⟩
   {exact .inl h};exact .inr ⟨E,r,A,h3⟩
  have hpre:∀x∈e.rd,∀r n,(pre (tr.take i) s0).mem.get x=U r->vlen r=U n->slen (ρ.vec x)=n:=by
   intro x m r n D N;have:=yY (R:=λj r=>j=x->∀n,vlen r=U n->slen (ρ.vec x)=n) (L:=λy=>qu (y<i)) tr 0 s0 (λj r hj e n N=>by subst e;exact hln.1 j r n hj N) (λk l u p j r hj e n N=>by
    subst e;rw[zq]at p;have h:k<i:=by simpa using p
    rcases z k l h u with A|A;{exact hln.2 k l j r n u A hj N};exact(A.wr j (QI hj) m).elim)
   rw[iJ,xE]at this;exact this x r D rfl n N
  have K:=I;simp only[St.lt,ql]at K;have hvfree:∀t x,Own e.id x->((bK (λj=>b.getD j Y) 0 tr s0).get t).has x=false:=by
   intro t x m;rw[C.eid]at m;refine Pd (R:=λv=>v.has x=Y) tr 0 s0 (iZ (by have:=m.1;omega) (oc K.1.1 t)) (λk l u p=>?_);rw[zq]at p;rcases zr k i with h|h|h
   {obtain⟨ok,hok⟩:∃ok,ops[k]?=U ok:=⟨ops[k],jV⟩;obtain⟨ek',sk,hk',hAk⟩:=hat k ok hok;rw[u]at hk';cases hk';exact iZ (by have:=m.1;omega) hAk.vlt};{subst h;rw[G]at p;cases p};exact EH (by rw[C.eid];exact m) (c k l h u p).val
  have S:∀k l,tr[k]?=U l->b.getD k Y=true->∀j r,l.wr.get j=U r->¬Own e.id j/\∀x,Own e.id x->r.has x=false:=by
   intro k l u p j r D;rcases zr k i with h|h|h
   {obtain⟨ok,hok⟩:∃ok,ops[k]?=U ok:=⟨ops[k],jV⟩;obtain⟨ek',sk,hk',hAk⟩:=hat k ok hok;rw[u]at hk';cases hk';have:=ft hAk.wlt D;refine⟨λm=>?_,λx m=>my (by rw[C.eid]at m;have:=m.1;omega) this.2⟩;rw[C.eid]at m;have:=m.1;omega};{subst h;rw[G]at p;cases p};exact P4 (c k l h u p).mem D
  have O:∀j r,s0.mem.get j=U r->¬Own e.id j/\∀x,Own e.id x->r.has x=false:=by
   intro j r D;have:=ft K.1.2 D;refine⟨λm=>?_,λx m=>my (by rw[C.eid]at m;have:=m.1;omega) this.2⟩;rw[C.eid]at m;have:=m.1;omega
  have M:∀j r,(bK (λj=>b.getD j Y) 0 tr s0).mem.get j=U r->¬Own e.id j/\∀x,Own e.id x->r.has x=false:=
   yY (R:=λj r=>¬Own e.id j/\∀x,Own e.id x->r.has x=Y) tr 0 s0 O (λk l u p j r D=>by rw[zq]at p;exact S k l u p j r D)
  have hfr:dN e.id (bK (λj=>b.getD j Y) 0 tr s0).mem:=by
   refine⟨λx m=>?_,λx j r m hj=>(M j r hj).2 x m⟩;cases hg:(bK (λj=>b.getD j Y) 0 tr s0).mem.get x with
   |none=>rfl
   |some r=>exact absurd m (M x r hg).1
  have hrel:∀t∈e.uses,ak F w ρ (s.get t) (a.tmps.getD t undef):=λt ht=>(C.get t).rel _ _ _ _ (hget t ht▸hs.fr t)
  have hL':(λj=>(b.setIfInBounds i W).getD j Y)=λx=>if x=i then W else b.getD x false:=by
   funext x;by_cases h:x=i;{subst h;simp[Z]};rw[qb h];exact getD_set_ne Y (Ne.symm h)
  have next:∀ (F':Cells) (w':qm) (ρ':Env) (v:Value),Step X.Mine F w F' w'->cA e.id ρ ρ'->ak F' w' ρ' e.val v->aG F' w' ρ' X.Mine (e.wr++(bK (λj=>b.getD j Y) 0 tr s0).mem)->
   wpAnyIn Fence.wide 0 P .any ops.toArray Q B (b.setIfInBounds i W) (a.put o.dst v) w':=by
   intro F' w' ρ' v st H hv hm;have hget':∀t,(bK (λx=>if x=i then W else b.getD x Y) 0 tr s0).get t=if e.dst=U t then e.val else(bK (λj=>b.getD j Y) 0 tr s0).get t:=λt=>
    Pc (L:=λj=>b.getD j Y) tr 0 s0 s0 e qa (by simpa using he) G rfl (λk l u I p A E=>by
     rw[zq]at I p;exact(c k l I u p).dd t E A)
   have hmem':∀x,(bK (λx=>if x=i then W else b.getD x Y) 0 tr s0).mem.get x=(e.wr.get x).or ((bK (λj=>b.getD j Y) 0 tr s0).mem.get x):=λx=>
    Pe (L:=λj=>b.getD j Y) tr 0 s0 s0 e qa (by simpa using he) G rfl (λk l u I p A E=>by
     rw[zq]at I p;exact(c k l I u p).ww x E A)
   refine ih (b.setIfInBounds i W) F' w' ρ' _ (by simpa using hsz) ?_ (λj hj=>?_) ?_ ?_;{rw[Array.toList_setIfInBounds];refine ad6 ?_ hcnt;rw[Array.getElem?_toList,zo Z];rw[zn,zo Z]at G;simpa using G}
   ·intro o2 E e2 he2 hb;simp only;by_cases hji:j=i;{subst hji;exact getD_set_true (hcli o2 E e2 he2 hb)};rw[getD_set_ne Y (Ne.symm hji)]at hj;exact getD_set_true (hcl j hj o2 E e2 he2 hb)
   ·rw[hL'];have hold:∀t,ak F' w' ρ' ((bK (λj=>b.getD j Y) 0 tr s0).get t) (a.tmps.getD t undef):=λt=>
     (hs.fr t).mono (λi=>¬Own e.id i) st.sub st.cell H (λx m=>hvfree t x (zt.1 m))
    refine⟨?_,λt=>?_,hm.congr (λx=>by rw[hmem',Mem.get_append]),?_,st.good hs.good,hs.from0.trans st,λx m=>?_⟩
    ·cases hdst:o.dst with
     |none=>exact hs.size
     |some d=>simpa[Act.put]using hs.size
    ·rw[hget',C.dst];cases hdst:o.dst with
     |none=>simpa[Act.put]using hold t
     |some d=>
      have hds:d<a.tmps.size:=by rw[hs.size];have:=C.ok;rw[hdst]at this;simpa[cY]using this
      rw[EK a d v t hds];by_cases hdt:d=t;{subst hdt;simpa using hv};simpa[hdt]using hold t
    ·have:(a.put o.dst v).defers=a.defers:=by cases o.dst<;>rfl
     rw[this];have h0:=hs.df;rw[sI]at h0⊢;exact mG (λi=>¬Own e.id i) st.sub st.cell H h0 (λx m=>ia (by have:=(zt.1 m).1;rw[C.eid]at this;omega) K.2)
    have A:=H x (λhx'=>by have:=hx'.1;rw[C.eid]at this;omega);have E:=hs.env0 x m;exact⟨A.1.trans E.1,A.2.trans E.2⟩
   refine⟨λx r n D N=>?_,λk l x r n u p D N=>?_⟩;{rw[(H x (O x r D).1).2];exact hln.1 x r n D N};simp only at p;by_cases hki:k=i;{subst hki;rw[he]at u;cases u;exact Fz (hm.ok x r (by rw[Mem.get_append,D];rfl)) N};rw[getD_set_ne Y (Ne.symm hki)]at p;rw[(H x (S k l u p x r D).1).2];exact hln.2 k l x r n u p D N
  have hgw:=aaA (F:=F) (w:=w) (ρ:=ρ) (s:=s) (a:=a) (ops:=ops) (o:=o) (λt ht=>hrel t (by rw[C.uses];exact List.mem_append_right _ ht));unfold wpOpIn;simp only[ho];rcases C.does with⟨hg,out,fl,hst,hob,e1,e2,e3⟩|⟨hg,e1,e2,e3⟩
  ·rw[qc (hgw.1 hg)];obtain⟨s1,hst1,hrd1,hfr1⟩:∃s1,cU P hint i o (id0+64 * i) s1=U (out,fl)/\(∀x∈out.rd,(bK (λj=>b.getD j Y) 0 tr s0).mem.get x=s1.mem.get x)/\aL s1=aL s:=by
    cases hlo:h8 o with
    |true=>
     refine⟨{s with mem:=(bK (λj=>b.getD j Y) 0 tr s0).mem},agd hlo hst (λx m n N=>?_),λ_ _=>rfl,rfl⟩;rcases hmem x (e2▸m)with h|⟨_,r,A,E⟩
     {rw[h,<-C.mem];exact N};obtain⟨n',hn'⟩:=af8 E;rw[C.mem]at N;obtain⟨r0,hr0,hn0'⟩:=Option.bind_eq_some_iff.1 N;have q1:=hpre x (e2▸m) r0 n hr0 hn0';have q2:=Fz (hs.mem.ok x r A) hn';rw[A,Option.bind_some,hn',<-q2,q1]
    |false=>
     refine⟨s,hst,λx m=>?_,rfl⟩;rcases hmem x (e2▸m)with h|⟨h,_⟩
     {rw[h,C.mem]};rw[hlo]at h;cases h
   have hsnd:=PP hst1 hob F w ρ X.Mine (bK (λj=>b.getD j Y) 0 tr s0).mem a hs.mem hs.good (C.eid▸hfr) hrd1
    (λx _ i hi=>by rw[hfr1];exact iZ hi.1 (FE C.lt x)) (λx m=>by
     rw[hfr1];cases x with
     |tmp t=>exact hrel t (by rw[C.uses];exact List.mem_append_left _ (List.mem_filterMap.2 ⟨.tmp t,by simpa using m,rfl⟩))
     |const v=>exact Dc v
     |global g=>exact oa hs (.global g)
     |func f=>exact .func rfl jV rfl jV)
   refine hsnd _ _ ?_;rintro v w' ⟨F',ρ',st,H,hv,hm⟩;exact next F' w' ρ' v st (C.eid▸H) (e1▸hv) (e3▸hm)
  rw[qb (by rw[hgw.2 hg];simp)];refine⟨λ_ _=>trivial,?_⟩;exact next F w ρ undef (Step.refl hs.good) (λi _=>⟨rfl,rfl⟩) (by rw[e1];exact .tup rfl jV) (by rw[e3];exact hs.mem)
end
theorem acl {P:qn}(z:P.follows .mixedOrders=W):fp P lI:=by
 intro X ops hint K Q id s F w ρ a D h f p c E;obtain⟨tr,G,N,u,H⟩:=Fn ops 0 id s [] h;obtain⟨m,M,e,y,J,g⟩:=ahr N s (λt=>bR.refl _) rfl f;simp only[lI,ql]at u;refine wpIn_wide.1 (wpIn_region_any (n:=0) z ?_);have q:Sat X F {w with drawn:=w.drawn+1} ρ s a:=by
  have d:Step X.Mine F w F {w with drawn:=w.drawn+1}:=⟨λ_ _ h=>h,λ_ _ _=>rfl,λ_ _ h=>.inl h,c.good.lt,⟨rfl,rfl,rfl,Nat.le_refl _,λ_ _ _=>rfl⟩⟩;refine⟨c.size,λt=>(c.fr t).mono' d.sub d.cell,?_,mG (λ_=>True) d.sub d.cell (λ_ _=>⟨rfl,rfl⟩) c.df (λ_ h=>absurd trivial h),d.good c.good,c.from0.trans d,c.env0⟩;have:=c.mem.step d (λ_=>True) (λ_ _=>⟨rfl,rfl⟩) [] (λj r _ _=>⟨trivial,λ_ h=>absurd trivial h,λb _=>⟨rfl,λ_ h=>h⟩⟩) (by simp[Mem.get]) (by simp[Mem.get]);simp_all
 refine aes (hint:=hint) (tr:=tr) (s0:=s) (id0:=id) m (λk o S=>jW) u.1 u.2 f p (λF' O ρ' B l=>?_) _ _ F _ ρ a jV ?_ (λj I=>?_) ?_ ⟨λx r n C L=>Fz (q.mem.ok x r C) L,λk R x r n _ A=>?_⟩
 ·refine E G tr F' O ρ' B H g (l.conv e (λi=>jX) ?_);have:=iJ (T tr) tr 0 s;grind[sI]
 {simp}
 ·simp only[zn,zu]at I;grind
 ·have:(λj=>(Array.replicate ops.toArray.size Y).getD j Y)=λ_=>false:=by
   simp only[zn,zu];grind
  have v:∀ (tr:List aP) (j:Nat) (s:St),bK (λ_=>Y) j tr s=s:=by
   intro tr;induction tr<;>grind[bK]
  simp_all
 simp only[zn,zu]at A;grind
end Go.Abs
