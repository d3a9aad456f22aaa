import Derived.Test.YtjonhijmljhjlaaGreatYJFunc
open Bool renaming false_eq_true->zi
open List renaming mem_map->zd,getElem?_cons_zero->zx
open Nat renaming add_assoc->zt,add_comm->zp,add_zero->qD,sub_self->zw
open Option renaming none_or->zu,some_or->zy
namespace Go.Abs
def az8y (ops:List Oper):List Nat:=
 ops.foldl (λacc o=>acc++[o.after.toList.foldl (λs e=>if Region.binds .any e then s|||2 ^ e.on|||acc.getD e.on 0 else s) 0]) []
mutual
def AVal.free (lo:Nat):AVal->Bool
 | .agg cs| .tup cs=>AVal.freeL lo cs
 | .iface _ a=>AVal.free lo a
 | .vec i| .ptr i _| .eptr i _ _ _| .map i| .bsl i _| .view i _ _ _=>decide (i<lo)||decide (lo+64<=i)
 | .func _ a b=>AVal.freeL lo a&&AVal.freeL lo b
 | .any| .pure _| .tt| .ff| .ref _| .anyb| .yld _| .clip _=>true
def AVal.freeL (lo:Nat):List AVal->Bool
 |[]=>true
 |a::l=>AVal.free lo a&&AVal.freeL lo l
end
def Res.free (lo:Nat):Res->Bool
 | .box cs=>AVal.freeL lo cs
 | .vecX _ _ _ _ _ _ i=>decide (i<lo)||decide (lo+64<=i)
 | .vecU _ _ _ _ _ _ _ _ hs=>hs.all λx=>decide (x.2<lo)||decide (lo+64<=x.2)
 |_=>true
def Lzg (lo:Nat):Mem->Bool
 |[]=>true
 |(i,r)::m=>(decide (i<lo)||decide (lo+64<=i))&&Res.free lo r&&Lzg lo m
def ids (m:Mem):List Nat:=m.map (·.1)
def disj (a b:List Nat):Bool:=a.all λx=> !b.contains x
def Sza (d:Option Nat)(l:List Nat):Bool:=
 match d with
 |none=>true
 |some t=> !l.contains t
def qzh (o:Oper):Bool:=
 match o.op with
 | .call c=>match c.callee with
   | .builtin .len=>true
   |_=>false
 |_=>false
def vlen:Res->Option Nat
 | .vec _ n _ _ _=>some n
 | .vecU _ n _ _ _ _ _ _ _=>some n
 | .nilv=>some 0
 |_=>none
def isV:Res->Bool
 | .vec _ _ _ _ _=>true
 | .vecU _ _ _ _ _ _ _ _ _=>true
 | .nilv=>true
 |_=>false
def Kz0 (l:List Nat):Mem->Bool
 |[]=>true
 |(i,r)::m=>(!l.contains i||isV r)&&Kz0 l m
def Rzu (lx:Bool)(x y:Eff):Bool:=
 Sza x.dst y.uses&&Sza y.dst x.uses&&Sza x.dst y.dst.toList&&
 disj (ids x.wr) y.rd&&(disj (ids y.wr) x.rd||(lx&&Kz0 x.rd y.wr))&&disj (ids x.wr) (ids y.wr)&&
 AVal.free x.id y.val&&Lzg x.id y.wr
def Fz4 (ms:List Nat)(lx:Bool)(x:Eff)(i:Nat):Nat->List Eff->Bool
 |_,[]=>true
 |j,y::l=>((ms.getD j 0).testBit i||Rzu lx x y)&&Fz4 ms lx x i (j+1) l
def Lzr (ms:List Nat)(ls:List Bool):Nat->List Eff->Bool
 |_,[]=>true
 |i,x::l=>Fz4 ms (ls.getD i false) x i (i+1) l&&Lzr ms ls (i+1) l
def Kzr:Nat->List Oper->Bool
 |_,[]=>true
 |i,o::l=>o.after.toList.all (λe=> !Region.binds .any e||decide (e.on<i))&&Kzr (i+1) l
def az84 (ops:List Oper)(tr:List Eff):Bool:=Kzr 0 ops&&Lzr (az8y ops) (ops.map qzh) 0 tr
def dz5 (s:St)(e:Eff):St:={(s.putD e.dst e.val)with mem:=e.wr++s.mem}
def fz4 (L:Nat->Bool):Nat->List Eff->St->St
 |_,[],s=>s
 |j,e::tr,s=>fz4 L (j+1) tr (if L j then dz5 s e else s)
theorem fzc (s:St)(e:Eff)(t:Nat):(dz5 s e).get t=if e.dst=some t then e.val else s.get t:=by
 cases h:e.dst with
 |none=>simp[dz5,St.putD,h,St.get]
 |some d=>
  simp only[dz5,St.putD,h,St.put,St.get,qze];by_cases e:d=t<;>simp[e]
theorem Vz4 (s:St)(e:Eff):(dz5 s e).df=s.df:=by
 cases h:e.dst<;>simp[dz5,St.putD,h,St.put]
theorem Gz9 (L:Nat->Bool):∀ (tr:List Eff) (j:Nat) (s:St),(fz4 L j tr s).df=s.df
 |[],j,s=>rfl
 |e::tr,j,s=>by
  simp only[fz4];rw[Gz9 L tr];split
  ·exact Vz4 s e
  ·rfl
theorem izh {L L':Nat->Bool}{t:Nat}:∀ (tr:List Eff) (j:Nat) (s s':St),s.get t=s'.get t->(∀k e,tr[k]?=some e->e.dst=some t->L (j+k)=L' (j+k))->(fz4 L j tr s).get t=(fz4 L' j tr s').get t
 |[],j,s,s',h,_=>h
 |e::tr,j,s,s',h,hL=>by
  simp only[fz4];refine izh tr (j+1) _ _ ?_ (λk e' he hd=>by have:=hL (k+1) e' (by simpa using he) hd;simpa[zt,zp 1 k]using this);by_cases hd:e.dst=some t
  ·have:=hL 0 e (by simp) hd;rw[qD]at this;rw[this];split
   ·rw[fzc,fzc,qc hd,qc hd]
   ·exact h
  ·have e1:∀ (b:Bool) (s:St),(if b then dz5 s e else s).get t=s.get t:=by
    intro b s;cases b
    ·rfl
    ·simp only[if_true];rw[fzc,qb hd]
   rw[e1,e1];exact h
theorem lzr {L L':Nat->Bool}{i:Nat}:∀ (tr:List Eff) (j:Nat) (s s':St),s.mem.get i=s'.mem.get i->(∀k e,tr[k]?=some e->i∈ids e.wr->L (j+k)=L' (j+k))->(fz4 L j tr s).mem.get i=(fz4 L' j tr s').mem.get i
 |[],j,s,s',h,_=>h
 |e::tr,j,s,s',h,hL=>by
  simp only[fz4];refine lzr tr (j+1) _ _ ?_ (λk e' he hd=>by have:=hL (k+1) e' (by simpa using he) hd;simpa[zt,zp 1 k]using this);by_cases hd:i∈ids e.wr
  ·have:=hL 0 e (by simp) hd;rw[qD]at this;rw[this];split
   ·simp only[dz5,Mem.get_append,h]
   ·exact h
  ·have hn:e.wr.get i=none:=by
    cases hg:e.wr.get i with
    |none=>rfl
    |some r=>exact absurd (zd.2 ⟨_,hz3 hg,rfl⟩) hd
   have e1:∀ (b:Bool) (s:St),(if b then dz5 s e else s).mem.get i=s.mem.get i:=by
    intro b s;cases b
    ·rfl
    ·simp only[if_true,dz5,Mem.get_append,hn,zu]
   rw[e1,e1];exact h
theorem Gza {L:Nat->Bool}{t n:Nat}:∀ (tr:List Eff) (j:Nat) (s s':St) (en:Eff),j<=n->tr[n-j]?=some en->L n=false->s.get t=s'.get t->
 (∀k e,tr[k]?=some e->n<j+k->L (j+k)=true->e.dst=some t->en.dst=some t->False)->
 (fz4 (λx=>if x=n then true else L x) j tr s).get t=if en.dst=some t then en.val else(fz4 L j tr s').get t
 |[],j,s,s',en,_,h,_,_,_=>by simp at h
 |e::tr,j,s,s',en,hj,hn,hL,hs,hno=>by
  simp only[fz4];by_cases he:j=n
  ·subst he;simp only[zw,zx,Option.some.injEq]at hn;subst hn;simp only[if_true,hL,zi,if_false];by_cases hd:e.dst=some t
   ·rw[qc hd];have key:=izh (L:=λx=>if x=j then true else L x) (L':=λ_=>false) (t:=t) tr (j+1) (dz5 s e) (dz5 s e) rfl (λk e' he' hd'=>by
     have hne:¬j+1+k=j:=qa
     simp only[qb hne];cases hLk:L (j+1+k)with
     |false=>rfl
     |true=>exact(hno (k+1) e' (by simpa using he') qa (by rw[<-hLk];congr 1;omega) hd' hd).elim)
    rw[key];have none:∀ (tr:List Eff) (j:Nat) (s:St),fz4 (λ_=>false) j tr s=s:=by
     intro tr;induction tr with
     |nil=>intros;rfl
     |cons e tr ih=>intro j s;simp only[fz4];exact ih _ _
    rw[none,fzc,qc hd]
   ·rw[qb hd];refine izh tr (j+1) _ _ (by rw[fzc,qb hd];exact hs) (λk e' _ _=>by rw[qb qa])
  ·have hlt:j<n:=qa
   simp only[qb he];have hn':tr[n- (j+1)]?=some en:=by
    rw[show n-j=(n- (j+1))+1 from qa]at hn;simpa using hn
   refine Gza tr (j+1) _ _ en qa hn' hL ?_ (λk e' he' hlt' hLk h1 h2=>hno (k+1) e' (by simpa using he') qa (by rw[<-hLk];congr 1;omega) h1 h2);split
   ·rw[fzc,fzc,hs]
   ·exact hs
theorem Gzc {L:Nat->Bool}{i n:Nat}:∀ (tr:List Eff) (j:Nat) (s s':St) (en:Eff),j<=n->tr[n-j]?=some en->L n=false->s.mem.get i=s'.mem.get i->
 (∀k e,tr[k]?=some e->n<j+k->L (j+k)=true->i∈ids e.wr->i∈ids en.wr->False)->
 (fz4 (λx=>if x=n then true else L x) j tr s).mem.get i=(en.wr.get i).or ((fz4 L j tr s').mem.get i)
 |[],j,s,s',en,_,h,_,_,_=>by simp at h
 |e::tr,j,s,s',en,hj,hn,hL,hs,hno=>by
  simp only[fz4];by_cases he:j=n
  ·subst he;simp only[zw,zx,Option.some.injEq]at hn;subst hn;simp only[if_true,hL,zi,if_false];by_cases hd:i∈ids e.wr
   ·have key:=lzr (L:=λx=>if x=j then true else L x) (L':=λ_=>false) (i:=i) tr (j+1) (dz5 s e) (dz5 s e) rfl (λk e' he' hd'=>by
     have hne:¬j+1+k=j:=qa
     simp only[qb hne];cases hLk:L (j+1+k)with
     |false=>rfl
     |true=>exact(hno (k+1) e' (by simpa using he') qa (by rw[<-hLk];congr 1;omega) hd' hd).elim)
    rw[key];have none:∀ (tr:List Eff) (j:Nat) (s:St),fz4 (λ_=>false) j tr s=s:=by
     intro tr;induction tr with
     |nil=>intros;rfl
     |cons e tr ih=>intro j s;simp only[fz4];exact ih _ _
    rw[none];obtain⟨x,hx,rfl⟩:=zd.1 hd;obtain⟨r,hr⟩:=Qz4 (m:=e.wr) ⟨x,hx,rfl⟩;simp only[dz5,Mem.get_append,hr,zy]
   ·have hnn:e.wr.get i=none:=by
     cases hg:e.wr.get i with
     |none=>rfl
     |some r=>exact absurd (zd.2 ⟨_,hz3 hg,rfl⟩) hd
    rw[hnn,zu];refine lzr tr (j+1) _ _ (by simp only[dz5,Mem.get_append,hnn,zu];exact hs) (λk e' _ _=>by rw[qb qa])
  ·simp only[qb he];have hn':tr[n- (j+1)]?=some en:=by
    rw[show n-j=(n- (j+1))+1 from qa]at hn;simpa using hn
   refine Gzc tr (j+1) _ _ en qa hn' hL ?_ (λk e' he' hlt' hLk h1 h2=>hno (k+1) e' (by simpa using he') qa (by rw[<-hLk];congr 1;omega) h1 h2);split
   ·simp only[dz5,Mem.get_append,hs]
   ·exact hs
theorem Gzd {L:Nat->Bool}{x i:Nat}{R:Res->Prop}:∀ (tr:List Eff) (j:Nat) (s s':St),(s.mem.get x=s'.mem.get x\/(i<=j/\∃r,s.mem.get x=some r/\R r))->
 (∀k e,tr[k]?=some e->x∈ids e.wr->j+k<i->L (j+k)=true)->
 (∀k e,tr[k]?=some e->i<=j+k->L (j+k)=true->∀r,e.wr.get x=some r->R r)->
 (fz4 L j tr s).mem.get x=(fz4 (λy=>decide (y<i)) j tr s').mem.get x\/∃r,(fz4 L j tr s).mem.get x=some r/\R r
 |[],j,s,s',h,_,_=>h.imp id λh=>h.2
 |e::tr,j,s,s',h,h1,h2=>by
  simp only[fz4]
  refine Gzd tr (j+1) _ _ ?_ (λk e' he hd hk=>by have:=h1 (k+1) e' (by simpa using he) hd qa;simpa[zt,zp 1 k]using this)
   (λk e' he hk hl=>h2 (k+1) e' (by simpa using he) qa (by rw[<-hl];congr 1;omega))
  have keep:x∉ids e.wr->∀ (b:Bool) (s:St),(if b then dz5 s e else s).mem.get x=s.mem.get x:=by
   intro hd b s;have hn:e.wr.get x=none:=by
    cases hg:e.wr.get x with
    |none=>rfl
    |some r=>exact absurd (zd.2 ⟨_,hz3 hg,rfl⟩) hd
   cases b
   ·rfl
   ·simp only[if_true,dz5,Mem.get_append,hn,zu]
  by_cases hji:j<i
  ·have he:s.mem.get x=s'.mem.get x:=by
    rcases h with h|h
    ·exact h
    ·exact absurd h.1 qa
   left;by_cases hd:x∈ids e.wr
   ·have hl:L j=true:=by have:=h1 0 e (by simp) hd qa;simpa using this
    rw[hl];simp only[if_true,qg hji,dz5,Mem.get_append,he]
   ·rw[keep hd,keep hd,he]
  ·simp only[qh hji,zi,if_false];by_cases hd:x∈ids e.wr
   ·cases hl:L j with
    |false=>
     simp only[zi,if_false];exact h.imp id λh=>⟨qa,h.2⟩
    |true=>
     right;obtain⟨y,hy,rfl⟩:=zd.1 hd;obtain⟨r,hr⟩:=Qz4 (m:=e.wr) ⟨y,hy,rfl⟩;refine⟨qa,r,?_,h2 0 e (by simp) qa (by simpa using hl) r hr⟩;simp only[if_true,dz5,Mem.get_append,hr,zy]
   ·rw[keep hd];exact h.imp id λh=>⟨qa,h.2⟩
end Go.Abs
