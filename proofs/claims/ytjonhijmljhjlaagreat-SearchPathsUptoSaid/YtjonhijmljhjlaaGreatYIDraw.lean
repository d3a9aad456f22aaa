import Derived.Test.YtjonhijmljhjlaaGreatYIFunc
open Bool renaming false_eq_true->za
open List renaming mem_map->zi,getElem?_cons_zero->zo
open Nat renaming add_assoc->zj,add_comm->zk,add_zero->qE,sub_self->zn
open Option renaming none_or->zm,some_or->zp
namespace Go.Abs
def azad (ops:List Oper):List Nat:=
 ops.foldl (λacc o=>acc++[o.after.toList.foldl (λs e=>if Region.binds .any e then s|||2 ^ e.on|||acc.getD e.on 0 else s) 0]) []
mutual
def AVal.free (lo:Nat):AVal->Bool
 | .agg cs| .tup cs=>AVal.freeL lo cs
 | .iface _ a=>AVal.free lo a
 | .vec i| .ptr i _| .eptr i _ _ _| .map i| .bsl i _| .view i _ _ _=>decide (i<lo)||decide (lo+64<=i)
 | .func _ a b=>AVal.freeL lo a&&AVal.freeL lo b
 | .any| .pure _| .tt| .ff| .ref _| .anyb| .yld _| .clip _=>true
def AVal.freeL (lo:Nat):List AVal->Bool
 |[]=>true
 |a::l=>AVal.free lo a&&AVal.freeL lo l
end
def Res.free (lo:Nat):Res->Bool
 | .box cs=>AVal.freeL lo cs
 | .vecX _ _ _ _ _ _ i=>decide (i<lo)||decide (lo+64<=i)
 | .vecU _ _ _ _ _ _ _ _ hs=>hs.all λx=>decide (x.2<lo)||decide (lo+64<=x.2)
 |_=>true
def Lzc (lo:Nat):Mem->Bool
 |[]=>true
 |(i,r)::m=>(decide (i<lo)||decide (lo+64<=i))&&Res.free lo r&&Lzc lo m
def ids (m:Mem):List Nat:=m.map (·.1)
def disj (a b:List Nat):Bool:=a.all λx=> !b.contains x
def Szs (d:Option Nat)(l:List Nat):Bool:=
 match d with
 |none=>true
 |some t=> !l.contains t
def qzb (o:Oper):Bool:=
 match o.op with
 | .call c=>match c.callee with
   | .builtin .len=>true
   |_=>false
 |_=>false
def vlen:Res->Option Nat
 | .vec _ n _ _ _=>some n
 | .vecU _ n _ _ _ _ _ _ _=>some n
 | .nilv=>some 0
 |_=>none
def isV:Res->Bool
 | .vec _ _ _ _ _=>true
 | .vecU _ _ _ _ _ _ _ _ _=>true
 | .nilv=>true
 |_=>false
def Kz5 (l:List Nat):Mem->Bool
 |[]=>true
 |(i,r)::m=>(!l.contains i||isV r)&&Kz5 l m
def Sz4 (lx:Bool)(x y:Eff):Bool:=
 Szs x.dst y.uses&&Szs y.dst x.uses&&Szs x.dst y.dst.toList&&
 disj (ids x.wr) y.rd&&(disj (ids y.wr) x.rd||(lx&&Kz5 x.rd y.wr))&&disj (ids x.wr) (ids y.wr)&&
 AVal.free x.id y.val&&Lzc x.id y.wr
def Fza (ms:List Nat)(lx:Bool)(x:Eff)(i:Nat):Nat->List Eff->Bool
 |_,[]=>true
 |j,y::l=>((ms.getD j 0).testBit i||Sz4 lx x y)&&Fza ms lx x i (j+1) l
def Lzm (ms:List Nat)(ls:List Bool):Nat->List Eff->Bool
 |_,[]=>true
 |i,x::l=>Fza ms (ls.getD i false) x i (i+1) l&&Lzm ms ls (i+1) l
def Kzw:Nat->List Oper->Bool
 |_,[]=>true
 |i,o::l=>o.after.toList.all (λe=> !Region.binds .any e||decide (e.on<i))&&Kzw (i+1) l
def az9l (ops:List Oper)(tr:List Eff):Bool:=Kzw 0 ops&&Lzm (azad ops) (ops.map qzb) 0 tr
def dz2 (s:St)(e:Eff):St:={(s.putD e.dst e.val)with mem:=e.wr++s.mem}
def ezt (L:Nat->Bool):Nat->List Eff->St->St
 |_,[],s=>s
 |j,e::tr,s=>ezt L (j+1) tr (if L j then dz2 s e else s)
theorem fz2 (s:St)(e:Eff)(t:Nat):(dz2 s e).get t=if e.dst=some t then e.val else s.get t:=by
 cases h:e.dst with
 |none=>simp[dz2,St.putD,h,St.get]
 |some d=>
  simp only[dz2,St.putD,h,St.put,St.get,qz8];by_cases e:d=t<;>simp[e]
theorem Vzj (s:St)(e:Eff):(dz2 s e).df=s.df:=by
 cases h:e.dst<;>simp[dz2,St.putD,h,St.put]
theorem Gze (L:Nat->Bool):∀ (tr:List Eff) (j:Nat) (s:St),(ezt L j tr s).df=s.df
 |[],j,s=>rfl
 |e::tr,j,s=>by
  simp only[ezt];rw[Gze L tr];split
  ·exact Vzj s e
  ·rfl
theorem iz5 {L L':Nat->Bool}{t:Nat}:∀ (tr:List Eff) (j:Nat) (s s':St),s.get t=s'.get t->(∀k e,tr[k]?=some e->e.dst=some t->L (j+k)=L' (j+k))->(ezt L j tr s).get t=(ezt L' j tr s').get t
 |[],j,s,s',h,_=>h
 |e::tr,j,s,s',h,hL=>by
  simp only[ezt];refine iz5 tr (j+1) _ _ ?_ (λk e' he hd=>by have:=hL (k+1) e' (by simpa using he) hd;simpa[zj,zk 1 k]using this);by_cases hd:e.dst=some t
  ·have:=hL 0 e (by simp) hd;rw[qE]at this;rw[this];split
   ·rw[fz2,fz2,qc hd,qc hd]
   ·exact h
  ·have e1:∀ (b:Bool) (s:St),(if b then dz2 s e else s).get t=s.get t:=by
    intro b s;cases b
    ·rfl
    ·simp only[if_true];rw[fz2,qb hd]
   rw[e1,e1];exact h
theorem lzr {L L':Nat->Bool}{i:Nat}:∀ (tr:List Eff) (j:Nat) (s s':St),s.mem.get i=s'.mem.get i->(∀k e,tr[k]?=some e->i∈ids e.wr->L (j+k)=L' (j+k))->(ezt L j tr s).mem.get i=(ezt L' j tr s').mem.get i
 |[],j,s,s',h,_=>h
 |e::tr,j,s,s',h,hL=>by
  simp only[ezt];refine lzr tr (j+1) _ _ ?_ (λk e' he hd=>by have:=hL (k+1) e' (by simpa using he) hd;simpa[zj,zk 1 k]using this);by_cases hd:i∈ids e.wr
  ·have:=hL 0 e (by simp) hd;rw[qE]at this;rw[this];split
   ·simp only[dz2,Mem.get_append,h]
   ·exact h
  ·have hn:e.wr.get i=none:=by
    cases hg:e.wr.get i with
    |none=>rfl
    |some r=>exact absurd (zi.2 ⟨_,gzo hg,rfl⟩) hd
   have e1:∀ (b:Bool) (s:St),(if b then dz2 s e else s).mem.get i=s.mem.get i:=by
    intro b s;cases b
    ·rfl
    ·simp only[if_true,dz2,Mem.get_append,hn,zm]
   rw[e1,e1];exact h
theorem Gzf {L:Nat->Bool}{t n:Nat}:∀ (tr:List Eff) (j:Nat) (s s':St) (en:Eff),j<=n->tr[n-j]?=some en->L n=false->s.get t=s'.get t->
 (∀k e,tr[k]?=some e->n<j+k->L (j+k)=true->e.dst=some t->en.dst=some t->False)->
 (ezt (λx=>if x=n then true else L x) j tr s).get t=if en.dst=some t then en.val else(ezt L j tr s').get t
 |[],j,s,s',en,_,h,_,_,_=>by simp at h
 |e::tr,j,s,s',en,hj,hn,hL,hs,hno=>by
  simp only[ezt];by_cases he:j=n
  ·subst he;simp only[zn,zo,Option.some.injEq]at hn;subst hn;simp only[if_true,hL,za,if_false];by_cases hd:e.dst=some t
   ·rw[qc hd];have key:=iz5 (L:=λx=>if x=j then true else L x) (L':=λ_=>false) (t:=t) tr (j+1) (dz2 s e) (dz2 s e) rfl (λk e' he' hd'=>by
     have hne:¬j+1+k=j:=qa
     simp only[qb hne];cases hLk:L (j+1+k)with
     |false=>rfl
     |true=>exact(hno (k+1) e' (by simpa using he') qa (by rw[<-hLk];congr 1;omega) hd' hd).elim)
    rw[key];have none:∀ (tr:List Eff) (j:Nat) (s:St),ezt (λ_=>false) j tr s=s:=by
     intro tr;induction tr with
     |nil=>intros;rfl
     |cons e tr ih=>intro j s;simp only[ezt];exact ih _ _
    rw[none,fz2,qc hd]
   ·rw[qb hd];refine iz5 tr (j+1) _ _ (by rw[fz2,qb hd];exact hs) (λk e' _ _=>by rw[qb qa])
  ·have hlt:j<n:=qa
   simp only[qb he];have hn':tr[n- (j+1)]?=some en:=by
    rw[show n-j=(n- (j+1))+1 from qa]at hn;simpa using hn
   refine Gzf tr (j+1) _ _ en qa hn' hL ?_ (λk e' he' hlt' hLk h1 h2=>hno (k+1) e' (by simpa using he') qa (by rw[<-hLk];congr 1;omega) h1 h2);split
   ·rw[fz2,fz2,hs]
   ·exact hs
theorem Gzh {L:Nat->Bool}{i n:Nat}:∀ (tr:List Eff) (j:Nat) (s s':St) (en:Eff),j<=n->tr[n-j]?=some en->L n=false->s.mem.get i=s'.mem.get i->
 (∀k e,tr[k]?=some e->n<j+k->L (j+k)=true->i∈ids e.wr->i∈ids en.wr->False)->
 (ezt (λx=>if x=n then true else L x) j tr s).mem.get i=(en.wr.get i).or ((ezt L j tr s').mem.get i)
 |[],j,s,s',en,_,h,_,_,_=>by simp at h
 |e::tr,j,s,s',en,hj,hn,hL,hs,hno=>by
  simp only[ezt];by_cases he:j=n
  ·subst he;simp only[zn,zo,Option.some.injEq]at hn;subst hn;simp only[if_true,hL,za,if_false];by_cases hd:i∈ids e.wr
   ·have key:=lzr (L:=λx=>if x=j then true else L x) (L':=λ_=>false) (i:=i) tr (j+1) (dz2 s e) (dz2 s e) rfl (λk e' he' hd'=>by
     have hne:¬j+1+k=j:=qa
     simp only[qb hne];cases hLk:L (j+1+k)with
     |false=>rfl
     |true=>exact(hno (k+1) e' (by simpa using he') qa (by rw[<-hLk];congr 1;omega) hd' hd).elim)
    rw[key];have none:∀ (tr:List Eff) (j:Nat) (s:St),ezt (λ_=>false) j tr s=s:=by
     intro tr;induction tr with
     |nil=>intros;rfl
     |cons e tr ih=>intro j s;simp only[ezt];exact ih _ _
    rw[none];obtain⟨x,hx,rfl⟩:=zi.1 hd;obtain⟨r,hr⟩:=Qzc (m:=e.wr) ⟨x,hx,rfl⟩;simp only[dz2,Mem.get_append,hr,zp]
   ·have hnn:e.wr.get i=none:=by
     cases hg:e.wr.get i with
     |none=>rfl
     |some r=>exact absurd (zi.2 ⟨_,gzo hg,rfl⟩) hd
    rw[hnn,zm];refine lzr tr (j+1) _ _ (by simp only[dz2,Mem.get_append,hnn,zm];exact hs) (λk e' _ _=>by rw[qb qa])
  ·simp only[qb he];have hn':tr[n- (j+1)]?=some en:=by
    rw[show n-j=(n- (j+1))+1 from qa]at hn;simpa using hn
   refine Gzh tr (j+1) _ _ en qa hn' hL ?_ (λk e' he' hlt' hLk h1 h2=>hno (k+1) e' (by simpa using he') qa (by rw[<-hLk];congr 1;omega) h1 h2);split
   ·simp only[dz2,Mem.get_append,hs]
   ·exact hs
theorem Gzi {L:Nat->Bool}{x i:Nat}{R:Res->Prop}:∀ (tr:List Eff) (j:Nat) (s s':St),(s.mem.get x=s'.mem.get x\/(i<=j/\∃r,s.mem.get x=some r/\R r))->
 (∀k e,tr[k]?=some e->x∈ids e.wr->j+k<i->L (j+k)=true)->
 (∀k e,tr[k]?=some e->i<=j+k->L (j+k)=true->∀r,e.wr.get x=some r->R r)->
 (ezt L j tr s).mem.get x=(ezt (λy=>decide (y<i)) j tr s').mem.get x\/∃r,(ezt L j tr s).mem.get x=some r/\R r
 |[],j,s,s',h,_,_=>h.imp id λh=>h.2
 |e::tr,j,s,s',h,h1,h2=>by
  simp only[ezt]
  refine Gzi tr (j+1) _ _ ?_ (λk e' he hd hk=>by have:=h1 (k+1) e' (by simpa using he) hd qa;simpa[zj,zk 1 k]using this)
   (λk e' he hk hl=>h2 (k+1) e' (by simpa using he) qa (by rw[<-hl];congr 1;omega))
  have keep:x∉ids e.wr->∀ (b:Bool) (s:St),(if b then dz2 s e else s).mem.get x=s.mem.get x:=by
   intro hd b s;have hn:e.wr.get x=none:=by
    cases hg:e.wr.get x with
    |none=>rfl
    |some r=>exact absurd (zi.2 ⟨_,gzo hg,rfl⟩) hd
   cases b
   ·rfl
   ·simp only[if_true,dz2,Mem.get_append,hn,zm]
  by_cases hji:j<i
  ·have he:s.mem.get x=s'.mem.get x:=by
    rcases h with h|h
    ·exact h
    ·exact absurd h.1 qa
   left;by_cases hd:x∈ids e.wr
   ·have hl:L j=true:=by have:=h1 0 e (by simp) hd qa;simpa using this
    rw[hl];simp only[if_true,qg hji,dz2,Mem.get_append,he]
   ·rw[keep hd,keep hd,he]
  ·simp only[qh hji,za,if_false];by_cases hd:x∈ids e.wr
   ·cases hl:L j with
    |false=>
     simp only[za,if_false];exact h.imp id λh=>⟨qa,h.2⟩
    |true=>
     right;obtain⟨y,hy,rfl⟩:=zi.1 hd;obtain⟨r,hr⟩:=Qzc (m:=e.wr) ⟨y,hy,rfl⟩;refine⟨qa,r,?_,h2 0 e (by simp) qa (by simpa using hl) r hr⟩;simp only[if_true,dz2,Mem.get_append,hr,zp]
   ·rw[keep hd];exact h.imp id λh=>⟨qa,h.2⟩
end Go.Abs
