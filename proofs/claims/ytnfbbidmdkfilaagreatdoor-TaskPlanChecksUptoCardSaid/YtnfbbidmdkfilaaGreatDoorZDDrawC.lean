import Derived.Test.YtnfbbidmdkfilaaGreatDoorZDFunc
open Array renaming getD_eq_getD_getElem?->xK,getElem?_eq_getElem->xL,getElem?_replicate->xP
open Bool renaming and_eq_true->qm,or_self->xJ,or_eq_true->xl,not_eq_true'->qX
open Classical renaming not_not->xO
open Decidable renaming decide->qv
open Go renaming World->qn,Program->qo
open List renaming mem_map->xh,getElem?_cons_zero->xI,length_cons->qy,all_eq_true->ql,take_length->wD
open Nat renaming add_assoc->xE,add_comm->xF,add_zero->xG,sub_self->xH,sub_zero->wG,zero_add->xM,lt_trichotomy->xN
open Option renaming getD_some->wS
namespace Go.Abs
def azly (ops:List Oper):List Nat:=
 ops.foldl (λa o=>a++[o.after.toList.foldl (λs e=>if Region.binds .any e then s|||2 ^ e.on|||a.getD e.on 0 else s) 0]) []
mutual
def AVal.free (lo:Nat):AVal->Bool
 | .agg c| .tup c=>AVal.freeL lo c
 | .iface _ a=>AVal.free lo a
 | .vec i| .ptr i _| .eptr i _ _ _| .map i| .bsl i _| .view i _ _ _=>qv (i<lo)||qv (lo+64<=i)
 | .func _ a b=>AVal.freeL lo a&&AVal.freeL lo b
 | .any| .pure _| .tt| .ff| .ref _| .anyb| .yld _| .clip _| .nilp=>true
def AVal.freeL (lo:Nat):List AVal->Bool
 |[]=>true
 |a::l=>AVal.free lo a&&AVal.freeL lo l
end
def Res.free (lo:Nat):Res->Bool
 | .box b=>AVal.freeL lo b
 | .vecX _ _ _ _ _ _ i=>qv (i<lo)||qv (lo+64<=i)
 | .vecU _ _ _ _ _ _ _ _ a=>a.all λx=>qv (x.2<lo)||qv (lo+64<=x.2)
 |_=>true
def Sz6 (lo:Nat):Mem->Bool
 |[]=>true
 |(i,r)::m=>(qv (i<lo)||qv (lo+64<=i))&&Res.free lo r&&Sz6 lo m
def ids (m:Mem):List Nat:=m.map (·.1)
def disj (a b:List Nat):Bool:=a.all λx=> !b.contains x
def az10 (d:Option Nat)(l:List Nat):Bool:=
 match d with
 |none=>true
 |some t=> !l.contains t
def zzq (o:Oper):Bool:=
 match o.op with
 | .call c=>match c.callee with
   | .builtin .len=>true
   |_=>false
 |_=>false
def vlen:Res->Option Nat
 | .vec _ n _ _ _=>some n
 | .vecU _ n _ _ _ _ _ _ _=>some n
 | .nilv=>some 0
 |_=>none
def isV:Res->Bool
 | .vec _ _ _ _ _=>true
 | .vecU _ _ _ _ _ _ _ _ _=>true
 | .nilv=>true
 |_=>false
def Qzi (l:List Nat):Mem->Bool
 |[]=>true
 |(i,r)::m=>(!l.contains i||isV r)&&Qzi l m
def az0b (a:Bool)(x y:Eff):Bool:=
 az10 x.dst y.uses&&az10 y.dst x.uses&&az10 x.dst y.dst.toList&&
 disj (ids x.wr) y.rd&&(disj (ids y.wr) x.rd||(a&&Qzi x.rd y.wr))&&disj (ids x.wr) (ids y.wr)&&
 AVal.free x.id y.val&&Sz6 x.id y.wr
def Kzl (b:List Nat)(a:Bool)(x:Eff)(i:Nat):Nat->List Eff->Bool
 |_,[]=>true
 |j,y::l=>((b.getD j 0).testBit i||az0b a x y)&&Kzl b a x i (j+1) l
def Szh (b:List Nat)(a:List Bool):Nat->List Eff->Bool
 |_,[]=>true
 |i,x::l=>Kzl b (a.getD i false) x i (i+1) l&&Szh b a (i+1) l
def Rzg:Nat->List Oper->Bool
 |_,[]=>true
 |i,o::l=>o.after.toList.all (λe=> !Region.binds .any e||qv (e.on<i))&&Rzg (i+1) l
def azb6 (ops:List Oper)(tr:List Eff):Bool:=Rzg 0 ops&&Szh (azly ops) (ops.map zzq) 0 tr
def dz7 (s:St)(e:Eff):St:={(s.putD e.dst e.val)with mem:=e.wr++s.mem}
def fzk (L:Nat->Bool):Nat->List Eff->St->St
 |_,[],s=>s
 |j,e::tr,s=>fzk L (j+1) tr (if L j then dz7 s e else s)
theorem fzt (s:St)(e:Eff)(t:Nat):(dz7 s e).get t=if e.dst=some t then e.val else s.get t:=by
 cases h:e.dst<;>grind[dz7,St.putD,St.get,St.put,rzz]
theorem az40 (s:St)(e:Eff):(dz7 s e).df=s.df:=by
 cases h:e.dst<;>simp[dz7,St.putD,h,St.put]
theorem Qzn (L:Nat->Bool):∀ (tr:List Eff) (j:Nat) (s:St),(fzk L j tr s).df=s.df
 |[],j,s=>rfl
 |e::tr,j,s=>by
  simp only[fzk];rw[Qzn L tr];split
  ·exact az40 s e
  ·rfl
theorem iz7 {L L':Nat->Bool}{t:Nat}:∀ (tr:List Eff) (j:Nat) (s d:St),s.get t=d.get t->(∀k e,tr[k]?=some e->e.dst=some t->L (j+k)=L' (j+k))->(fzk L j tr s).get t=(fzk L' j tr d).get t
 |[],j,s,d,h,_=>h
 |e::tr,j,s,d,h,g=>by
  refine iz7 tr (j+1) _ _ ?_ (λk l i c=>by have:=g (k+1) l (by simpa using i) c;simpa[xE,xF 1 k]using this);by_cases c:e.dst=some t
  ·have:=g 0 e jq c;rw[xG]at this;rw[this];split
   ·rw[fzt,fzt,qc c,qc c]
   ·exact h
  ·have f:∀ (b:Bool) (s:St),(if b then dz7 s e else s).get t=s.get t:=by
    intro b s;cases b
    ·rfl
    ·simp only[if_true];rw[fzt,qb c]
   rw[f,f];exact h
theorem mz0 {L L':Nat->Bool}{i:Nat}:∀ (tr:List Eff) (j:Nat) (s c:St),s.mem.get i=c.mem.get i->(∀k e,tr[k]?=some e->i∈ids e.wr->L (j+k)=L' (j+k))->(fzk L j tr s).mem.get i=(fzk L' j tr c).mem.get i
 |[],j,s,c,h,_=>h
 |e::tr,j,s,c,h,f=>by
  refine mz0 tr (j+1) _ _ ?_ (λk l n d=>by have:=f (k+1) l (by simpa using n) d;simpa[xE,xF 1 k]using this);by_cases d:i∈ids e.wr
  ·have:=f 0 e jq d;rw[xG]at this;rw[this];split
   ·simp only[dz7,Mem.get_append,h]
   ·exact h
  ·have o:e.wr.get i=none:=by
    cases m:e.wr.get i with
    |none=>rfl
    |some r=>exact absurd (xh.2 ⟨_,gzz m,rfl⟩) d
   have g:∀ (b:Bool) (s:St),(if b then dz7 s e else s).mem.get i=s.mem.get i:=by
    intro b s;cases b
    ·rfl
    ·simp only[if_true,dz7,Mem.get_append,o,Option.none_or]
   rw[g,g];exact h
theorem Lzu {L:Nat->Bool}{t n:Nat}:∀ (tr:List Eff) (j:Nat) (s c:St) (a:Eff),j<=n->tr[n-j]?=some a->L n=false->s.get t=c.get t->
 (∀k e,tr[k]?=some e->n<j+k->L (j+k)=true->e.dst=some t->a.dst=some t->False)->
 (fzk (λx=>if x=n then true else L x) j tr s).get t=if a.dst=some t then a.val else(fzk L j tr c).get t
 |[],j,s,c,a,_,h,_,_,_=>jt
 |e::tr,j,s,c,a,B,p,y,A,b=>by
  simp only[fzk];by_cases r:j=n
  ·subst r;simp only[xH,xI,Option.some.injEq]at p;subst p;by_cases v:e.dst=some t
   ·have u:=iz7 (L:=λx=>if x=j then true else L x) (L':=λ_=>false) (t:=t) tr (j+1) (dz7 s e) (dz7 s e) rfl (λk m f d=>by
     have i:¬j+1+k=j:=qa
     simp only[qb i];cases g:L (j+1+k)with
     |false=>rfl
     |true=>exact(b (k+1) m jr qa jt d v).elim)
    have q:∀ (tr:List Eff) (j:Nat) (s:St),fzk (λ_=>false) j tr s=s:=by
     intro tr;induction tr<;>grind[fzk]
    grind[fzt]
   grind[iz7,fzt]
  ·have l:tr[n- (j+1)]?=some a:=by
    grind
   refine Lzu tr (j+1) _ _ a qa l y ?_ (λk m f o g z w=>b (k+1) m jr qa jt z w)
   grind[fzt]
theorem Lzw {L:Nat->Bool}{i n:Nat}:∀ (tr:List Eff) (j:Nat) (s d:St) (b:Eff),j<=n->tr[n-j]?=some b->L n=false->s.mem.get i=d.mem.get i->
 (∀k e,tr[k]?=some e->n<j+k->L (j+k)=true->i∈ids e.wr->i∈ids b.wr->False)->
 (fzk (λx=>if x=n then true else L x) j tr s).mem.get i=(b.wr.get i).or ((fzk L j tr d).mem.get i)
 |[],j,s,d,b,_,h,_,_,_=>jt
 |e::tr,j,s,d,b,F,v,A,H,c=>by
  simp only[fzk];by_cases E:j=n
  ·subst E;simp only[xH,xI,Option.some.injEq]at v;subst v;by_cases f:i∈ids e.wr
   ·have C:=mz0 (L:=λx=>if x=j then true else L x) (L':=λ_=>false) (i:=i) tr (j+1) (dz7 s e) (dz7 s e) rfl (λk g p q=>by
     have l:¬j+1+k=j:=qa
     simp only[qb l];cases t:L (j+1+k)with
     |false=>rfl
     |true=>exact(c (k+1) g jr qa jt q f).elim)
    have none:∀ (tr:List Eff) (j:Nat) (s:St),fzk (λ_=>false) j tr s=s:=by
     intro tr;induction tr<;>grind[fzk]
    obtain⟨x,w,rfl⟩:=xh.1 f;obtain⟨r,G⟩:=Yza (m:=e.wr) ⟨x,w,rfl⟩
    grind[dz7,Mem.get_append]
   ·have y:e.wr.get i=none:=by
     cases B:e.wr.get i with
     |none=>rfl
     |some r=>exact absurd (xh.2 ⟨_,gzz B,rfl⟩) f
    grind[mz0,dz7,Mem.get_append]
  ·have o:tr[n- (j+1)]?=some b:=by
    grind
   refine Lzw tr (j+1) _ _ b qa o A ?_ (λk g p u t D z=>c (k+1) g jr qa jt D z)
   grind[dz7,Mem.get_append]
theorem Lzx {L:Nat->Bool}{x i:Nat}{R:Res->Prop}:∀ (tr:List Eff) (j:Nat) (s d:St),(s.mem.get x=d.mem.get x\/(i<=j/\∃r,s.mem.get x=some r/\R r))->
 (∀k e,tr[k]?=some e->x∈ids e.wr->j+k<i->L (j+k)=true)->
 (∀k e,tr[k]?=some e->i<=j+k->L (j+k)=true->∀r,e.wr.get x=some r->R r)->
 (fzk L j tr s).mem.get x=(fzk (λy=>qv (y<i)) j tr d).mem.get x\/∃r,(fzk L j tr s).mem.get x=some r/\R r
 |[],j,s,d,h,_,_=>h.imp id λh=>h.2
 |e::tr,j,s,d,h,n,l=>by
  refine Lzx tr (j+1) _ _ ?_ (λk g f c u=>by have:=n (k+1) g jr c qa;grind)
   (λk g f u o=>l (k+1) g jr qa jt)
  have a:x∉ids e.wr->∀ (b:Bool) (s:St),(if b then dz7 s e else s).mem.get x=s.mem.get x:=by
   intro c b s;have w:e.wr.get x=none:=by
    cases t:e.wr.get x with
    |none=>rfl
    |some r=>exact absurd (xh.2 ⟨_,gzz t,rfl⟩) c
   grind[dz7,Mem.get_append]
  by_cases q:j<i
  ·have f:s.mem.get x=d.mem.get x:=by
    grind
   left;by_cases c:x∈ids e.wr
   ·have o:L j=true:=by have:=n 0 e jq c qa;omega
    grind[dz7,Mem.get_append]
   ·rw[a c,a c,f]
  ·by_cases c:x∈ids e.wr
   ·cases o:L j with
    |false=>
     grind
    |true=>
     right;obtain⟨y,p,rfl⟩:=xh.1 c;obtain⟨r,v⟩:=Yza (m:=e.wr) ⟨y,p,rfl⟩;refine⟨qa,r,?_,l 0 e jq qa qa r v⟩
     grind[dz7,Mem.get_append]
   ·rw[a c]
    grind
inductive Path (P:qo) (nt:Nat) (ops:List Oper) (hint:Nat->Option Hint):Nat->List Oper->Nat->St->List Eff->St->Prop
 |nil {i id:Nat} {s:St}:Path P nt ops hint i [] id s [] s
 |dec {i id:Nat} {rest:List Oper} {s s':St} {tr:List Eff} {t:Nat} {b:Bool} (hx:s.get t=.pure (.bool b))
  (h:Path P nt ops hint i rest id (s.put t (if b then .tt else .ff)) tr s'):Path P nt ops hint i rest id s tr s'
 |run {i id:Nat} {o:Oper} {rest:List Oper} {s s':St} {tr:List Eff} {out:Out} {fl:Bool} (hg:dzi ops s o=.run)
  (hst:gzv P hint i o id s=some (out,fl)) (hd:oza nt o.dst=true) (ho:Izi id out=true) (hob:holds out.obl)
  (h:Path P nt ops hint (i+1) rest (id+64) (izt s o out) tr s'):Path P nt ops hint i (o::rest) id s (Iz5 ops o id out::tr) s'
 |skip {i id:Nat} {o:Oper} {rest:List Oper} {s s':St} {tr:List Eff} (hg:dzi ops s o=.skip) (hd:oza nt o.dst=true)
  (h:Path P nt ops hint (i+1) rest (id+64) (s.putD o.dst (.tup [])) tr s'):Path P nt ops hint i (o::rest) id s (⟨o.dst,yzk ops o,id,.tup [],[],[]⟩::tr) s'
theorem az58 {P:qo}{nt:Nat}{ops:List Oper}{hint:Nat->Option Hint}{K:St->List Eff->Prop}:
 ∀ (d:List Oper) (i id:Nat) (s:St) (tr:List Eff),kz5 P nt ops hint i d id s tr K->∃a e,Path P nt ops hint i d id s a e/\K e (tr++a)
 |[],i,id,s,tr,h=>⟨[],s,.nil,by simpa[kz5]using h⟩
 |o::d,i,id,s,tr,h=>by
  have p:∀ (s:St),dzi ops s o=.run->(match gzv P hint i o id s with
   |some (out,_)=>if oza nt o.dst&&Izi id out then andO out.obl (kz5 P nt ops hint (i+1) d (id+64) (izt s o out) (tr++[Iz5 ops o id out]) K)else False
   |none=>False)->∃a e,Path P nt ops hint i (o::d) id s a e/\K e (tr++a):=by
   intro s f h;split at h
   ·rename_i out y m;split at h
    ·rename_i v;simp only[qm]at v;obtain⟨w,r⟩:=andO_iff.1 h;obtain⟨a,e,j,k⟩:=az58 d _ _ _ _ r;exact⟨_,e,.run f m v.1 v.2 w j,by simpa using k⟩
    ·exact h.elim
   ·exact h.elim
  have g:∀ (s:St),dzi ops s o=.skip->(if oza nt o.dst then kz5 P nt ops hint (i+1) d (id+64) (s.putD o.dst (.tup [])) (tr++[⟨o.dst,yzk ops o,id,.tup [],[],[]⟩]) K else False)->
   ∃a e,Path P nt ops hint i (o::d) id s a e/\K e (tr++a):=by
   intro s f h;split at h
   ·rename_i x;obtain⟨a,e,j,k⟩:=az58 d _ _ _ _ h;exact⟨_,e,.skip f x j,by simpa using k⟩
   ·exact h.elim
  simp only[kz5]at h;split at h
  ·rename_i f;exact p s f h
  ·rename_i f;exact g s f h
  ·exact h.elim
  ·rename_i t b l f;obtain⟨u,_⟩:=Rzy f;cases b with
   |true=>
    have k:=zzl (c:=true) f;have q:=h.1 rfl;cases l with
    |true=>obtain⟨a,e,j,n⟩:=p _ k q;exact⟨a,e,.dec u j,n⟩
    |false=>obtain⟨a,e,j,n⟩:=g _ k q;exact⟨a,e,.dec u j,n⟩
   |false=>
    have k:=zzl (c:=false) f;have q:=h.2 rfl;cases l with
    |true=>obtain⟨a,e,j,n⟩:=g _ k q;exact⟨a,e,.dec u j,n⟩
    |false=>obtain⟨a,e,j,n⟩:=p _ k q;exact⟨a,e,.dec u j,n⟩
structure At (P:qo) (nt:Nat) (ops:List Oper) (hint:Nat->Option Hint) (i:Nat) (o:Oper) (e:Eff) (p s:St) (id:Nat):Prop where
 dst:e.dst=o.dst
 uses:e.uses=yzk ops o
 eid:e.id=id
 ok:oza nt o.dst=true
 get:∀t,ASub (p.get t) (s.get t)
 mem:s.mem=p.mem
 lt:s.lt id=true
 vlt:e.val.lt (id+64)=true
 wlt:hzt (id+64) e.wr=true
 does:(dzi ops s o=.run/\∃out fl,gzv P hint i o id s=some (out,fl)/\holds out.obl/\e.val=out.val/\e.rd=out.rd/\e.wr=out.wr)\/
  (dzi ops s o=.skip/\e.val=.tup []/\e.rd=[]/\e.wr=[])
def pre:List Eff->St->St
 |[],p=>p
 |e::tr,p=>pre tr (dz7 p e)
theorem ASub.refl (a:AVal):ASub a a:=⟨λ_ _ _ _ h=>h⟩
theorem ASub.trans {a b c:AVal}(h:ASub a b)(d:ASub b c):ASub a c:=⟨λF w ρ v x=>d.rel F w ρ v (h.rel F w ρ v x)⟩
theorem az8c (b:Bool):ASub (.pure (.bool b)) (if b then .tt else .ff):=⟨λF w ρ v h=>by
 have:=h.pure_inv.bool_inv;subst this;cases b
 ·exact .ff
 ·exact .tt⟩
theorem az8a (s:St)(o:Oper)(out:Out)(t:Nat):(izt s o out).get t=if o.dst=some t then out.val else s.get t:=by
 cases h:o.dst<;>grind[izt,St.putD,St.get,St.put,rzz]
theorem az7s (s:St)(d:Option Nat)(a:AVal)(t:Nat):(s.putD d a).get t=if d=some t then a else s.get t:=by
 cases d<;>grind[St.putD,St.put,St.get,rzz]
theorem azm6 {P:qo}{nt:Nat}{ops:List Oper}{hint:Nat->Option Hint}{i:Nat}{c:List Oper}{id:Nat}{s l:St}{tr:List Eff}(h:Path P nt ops hint i c id s tr l):
 ∀ (p:St),(∀t,ASub (p.get t) (s.get t))->s.mem=p.mem->s.lt id=true->
 tr.length=c.length/\(∀k o,c[k]?=some o->∃e A,tr[k]?=some e/\At P nt ops hint (i+k) o e (pre (tr.take k) p) A (id+64 * k))/\
 (∀t,ASub ((pre tr p).get t) (l.get t))/\l.mem=(pre tr p).mem/\l.df=s.df/\l.lt (id+64 * c.length)=true:=by
 induction h with
 |nil=>
  intro p m j g;exact⟨rfl,jq,m,j,rfl,qa⟩
 |@dec i id c s l tr t b K h x=>
  intro p m j g;have:=x p (λJ=>by
   have e:=az7s s (some t) (if b then .tt else .ff) J;simp only[St.putD]at e;rw[e];split
   ·rename_i e;cases e;exact(m t).trans (by grind[az8c])
   simp_all) j (Wzq g (a:=if b then .tt else .ff) (by cases b<;>rfl) (some t))
  exact this
 |@run i id o c s l tr out H B D C E z h x=>
  intro p m j g;obtain⟨q,y,f,d,r,w⟩:=x (dz7 p (Iz5 ops o id out)) (λt=>by
   grind[az8a,fzt,Iz5,ASub.refl]) (by grind[dz7,izt,Iz5]) (az07 g E)
  have u:=E;simp only[Izi,qm]at u;refine⟨jr,λk o' v=>?_,f,d,?_,?_⟩
  ·cases k with
   |zero=>
    simp at v;subst v;exact⟨_,s,rfl,rfl,rfl,rfl,C,m,j,g,u.1,u.2,.inl ⟨B,out,H,D,z,rfl,rfl,rfl⟩⟩
   |succ k=>
    grind[pre]
  ·rw[r];cases n:o.dst<;>simp[izt,St.putD,n,St.put]
  ·rw[qy,show id+64 * (c.length+1)=id+64+64 * c.length from qa];omega
 |@skip i id o c s l tr B C h x=>
  intro p m j g;obtain⟨q,y,f,d,r,w⟩:=x (dz7 p ⟨o.dst,yzk ops o,id,.tup [],[],[]⟩) (λt=>by
   rw[az7s,fzt];by_cases e:o.dst=some t
   ·rw[qc e,qc e];exact ASub.refl _
   ·rw[qb e,qb e];exact m t) (by simp only[dz7];cases o.dst<;>simp[St.putD,St.put,j]) (St.lt_mono qa (Wzq g rfl o.dst))
  refine⟨by simp[q],λk o' v=>?_,f,d,?_,?_⟩
  ·cases k with
   |zero=>
    simp at v;subst v;exact⟨_,s,rfl,rfl,rfl,rfl,C,m,j,g,rfl,rfl,.inr ⟨B,rfl,rfl,rfl⟩⟩
   |succ k=>
    obtain⟨e,A,I,G⟩:=y k o' (by simpa using v);refine⟨e,A,by simpa using I,?_⟩;rw[show i+(k+1)=i+1+k from qa,show id+64 * (k+1)=id+64+64 * k from qa];simpa[pre]using G
  ·rw[r];cases n:o.dst<;>simp[St.putD,St.put]
  ·rw[qy,show id+64 * (c.length+1)=id+64+64 * c.length from qa];exact w
theorem mz1 (n:Nat):∀ (tr:List Eff) (j:Nat) (p:St),fzk (λx=>qv (x<n)) j tr p=pre (tr.take (n-j)) p
 |[],j,p=>by simp[fzk,pre]
 |e::tr,j,p=>by
  simp only[fzk];by_cases h:j<n
  ·rw[qc jy,mz1 n tr,show n-j=(n- (j+1))+1 from qa];simp[pre]
  ·rw[qb jy,mz1 n tr,show n-j=0 from qa,show n- (j+1)=0 from qa];simp[pre]
theorem Lzv {R:AVal->Prop}{L:Nat->Bool}{t:Nat}:∀ (tr:List Eff) (j:Nat) (s:St),R (s.get t)->(∀k e,tr[k]?=some e->L (j+k)=true->R e.val)->R ((fzk L j tr s).get t)
 |[],j,s,h,_=>h
 |e::tr,j,s,h,a=>by
  refine Lzv tr (j+1) _ ?_ (λk b d c=>a (k+1) b jr jt);split
  ·rw[fzt];split
   ·exact a 0 e jq qa
   omega
  omega
theorem Bzo {R:Nat->Res->Prop}{L:Nat->Bool}:∀ (tr:List Eff) (j:Nat) (s:St),(∀i r,s.mem.get i=some r->R i r)->(∀k e,tr[k]?=some e->L (j+k)=true->∀i r,e.wr.get i=some r->R i r)->∀i r,(fzk L j tr s).mem.get i=some r->R i r
 |[],j,s,h,_=>h
 |e::tr,j,s,h,b=>by
  refine Bzo tr (j+1) _ ?_ (λk f g l=>b (k+1) f jr jt);split
  ·intro i r a;simp only[dz7,Mem.get_append]at a;cases c:e.wr.get i with
   |none=>simp_all
   |some d=>rw[c]at a;simp at a;subst a;exact b 0 e jq qa i d c
  omega
mutual
theorem Yz6 {lo i:Nat}(hi:Own lo i):∀ {a:AVal},a.free lo=true->a.has i=false
 | .agg c,h=>by exact xzx hi h
 | .tup c,h=>by exact xzx hi h
 | .vec j,h=>by simp[AVal.free]at h;simp[AVal.has];have:=hi.1;have:=hi.2;omega
 | .ptr j _,h=>by simp[AVal.free]at h;simp[AVal.has];have:=hi.1;have:=hi.2;omega
 | .eptr j _ _ _,h=>by simp[AVal.free]at h;simp[AVal.has];have:=hi.1;have:=hi.2;omega
 | .map j,h=>by simp[AVal.free]at h;simp[AVal.has];have:=hi.1;have:=hi.2;omega
 | .bsl j _,h=>by simp[AVal.free]at h;simp[AVal.has];have:=hi.1;have:=hi.2;omega
 | .view j _ _ _,h=>by simp[AVal.free]at h;simp[AVal.has];have:=hi.1;have:=hi.2;omega
 | .iface _ a,h=>by simp only[AVal.has];exact Yz6 hi h
 | .func _ a b,h=>by
   simp only[AVal.free,qm]at h;simp only[AVal.has,xzx hi h.1,xzx hi h.2,xJ]
 | .any,_=>rfl
 | .pure _,_=>rfl
 | .tt,_=>rfl
 | .ff,_=>rfl
 | .ref _,_=>rfl
 | .anyb,_=>rfl
 | .nilp,_=>rfl
 | .clip _,_=>rfl
 | .yld _,_=>rfl
theorem xzx {lo i:Nat}(hi:Own lo i):∀ {l:List AVal},AVal.freeL lo l=true->AVal.hasL i l=false
 |[],_=>rfl
 |a::l,h=>by
  simp only[AVal.freeL,qm]at h;simp only[AVal.hasL,Yz6 hi h.1,xzx hi h.2,xJ]
end
theorem Sz7 {lo:Nat}:∀ {m:Mem},Sz6 lo m=true->∀ {i:Nat} {r:Res},m.get i=some r->¬Own lo i/\∀x,Own lo x->r.has x=false
 |[],_,i,r,h=>by simp[Mem.get]at h
 |(k,q)::m,b,i,r,h=>by
  simp only[Sz6,qm]at b;simp only[Mem.get]at h;split at h
  ·cases h;refine⟨λd=>?_,λx a=>?_⟩
   ·have:=d.1;have:=d.2;simp at *;omega
   ·cases q with
    |box g=>exact xzx a b.1.2
    |vecX _ _ _ _ _ _ i=>have:=a.1;have:=a.2;simp[Res.free]at *;simp[Res.has];omega
    |vecU _ _ _ _ _ _ _ _ j=>
     have c:=b.1.2;simp only[Res.free,ql,xl,qf]at c;simp only[Res.has,List.any_eq_false,beq_iff_eq];exact λy f e=>by have:=c y f;have:=a.1;have:=a.2;omega
    |_=>rfl
  ·exact Sz7 b.2 h
theorem MemOk.congr {F:Cells}{w:qn}{ρ:Env}{Mine:Nat->Prop}{m c:Mem}(h:MemOk F w ρ Mine m)(j:∀i,c.get i=m.get i):MemOk F w ρ Mine c:=
 ⟨λid r e=>h.ok id r jr,λid r b e=>h.mine id r b jr,λid a r d b g f=>h.disj id a r d b jr jr⟩
theorem Hz8 {c:List Nat}{b:Bool}{x:Eff}{i:Nat}:∀ {l:List Eff} {j:Nat},Kzl c b x i j l=true->∀k y,l[k]?=some y->(c.getD (j+k) 0).testBit i=true\/az0b b x y=true
 |[],j,_,k,y,h=>jt
 |z::l,j,h,k,y,a=>by
  simp only[Kzl,qm,xl]at h;cases k with
  |zero=>simp at a;subst a;simpa using h.1
  |succ k=>
   have:=Hz8 h.2 k y (by simpa using a);rwa[show j+(k+1)=j+1+k from qa]
theorem Dzw {d:List Nat}{e:List Bool}:∀ {l:List Eff} {i:Nat},Szh d e i l=true->∀a b x y,a<b->l[a]?=some x->l[b]?=some y->(d.getD (i+b) 0).testBit (i+a)=true\/az0b (e.getD (i+a) false) x y=true
 |[],i,_,a,b,x,y,_,h,_=>jt
 |z::l,i,h,a,b,x,y,g,c,f=>by
  simp only[Szh,qm]at h;obtain⟨b,rfl⟩:∃j,b=j+1:=⟨b-1,qa⟩;cases a with
  |zero=>
   simp at c;subst c;have:=Hz8 h.1 b y (by simpa using f);rwa[show i+(b+1)=i+1+b from qa]
  |succ a=>
   have:=Dzw h.2 a b x y qa (by simpa using c) (by simpa using f);rwa[show i+(b+1)=i+1+b from qa,show i+(a+1)=i+1+a from qa]
theorem Iz4 {d:Option Nat}{l:List Nat}{t:Nat}(h:az10 d l=true)(a:d=some t)(b:t∈l):False:=by
 grind[az10]
theorem Rzd {a b:List Nat}{i:Nat}(h:disj a b=true)(c:i∈a)(d:i∈b):False:=by
 grind[disj]
theorem Oz6 {l:List Nat}:∀ {m:Mem},Qzi l m=true->∀ {i:Nat} {r:Res},i∈l->m.get i=some r->isV r=true
 |[],_,i,r,_,h=>by simp[Mem.get]at h
 |(k,q)::m,a,i,r,hi,h=>by
  simp only[Qzi,qm,xl,qX,List.contains_eq_mem,qi]at a;simp only[Mem.get]at h;split at h
  ·rename_i e;subst e;cases h;rcases a.1 with b|b
   ·exact absurd hi b
   ·exact b
  ·exact Oz6 a.2 hi h
structure Apart (lx:Bool) (x y:Eff):Prop where
 xy:∀t,x.dst=some t->t∈y.uses->False
 yx:∀t,y.dst=some t->t∈x.uses->False
 dd:∀t,x.dst=some t->y.dst=some t->False
 wr:∀i,i∈ids x.wr->i∈y.rd->False
 rw:(∀i,i∈ids y.wr->i∈x.rd->False)\/(lx=true/\∀i r,i∈x.rd->y.wr.get i=some r->isV r=true)
 ww:∀i,i∈ids x.wr->i∈ids y.wr->False
 val:y.val.free x.id=true
 mem:Sz6 x.id y.wr=true
theorem Vzw {d:Bool}{x y:Eff}(h:az0b d x y=true):Apart d x y:=by
 simp only[az0b,qm,xl]at h;obtain⟨⟨⟨⟨⟨⟨⟨k,g⟩,f⟩,m⟩,c⟩,e⟩,j⟩,l⟩:=h;exact⟨λt a b=>Iz4 k a b,λt a b=>Iz4 g a b,λt a b=>Iz4 f a jt,λi a b=>Rzd m a b,c.imp (λc i a b=>Rzd c a b) (λc=>⟨c.1,λi r a b=>Oz6 c.2 a b⟩),λi a b=>Rzd e a b,j,l⟩
def slen:Option (Nat×Nat×Nat)->Nat
 |none=>0
 |some x=>x.2.1
theorem az66 {F:Cells}{w:qn}{ρ:Env}{id n:Nat}{r:Res}(h:ResOk F w ρ id r)(d:vlen r=some n):slen (ρ.vec id)=n:=by
 cases r<;>simp only[vlen,Option.some.injEq,reduceCtorEq]at d
 ·subst d;rw[h];rfl
 ·subst d;obtain⟨_,⟨a,e⟩|⟨b,cap,c,a,_⟩⟩:=h
  ·rw[a,e];rfl
  ·rw[a];rfl
 ·subst d;obtain⟨_,_,⟨a,e,_⟩|⟨b,cap,c,a,_⟩⟩:=h
  ·rw[a,e];rfl
  ·rw[a];rfl
theorem azgy {r:Res}(h:isV r=true):∃n,vlen r=some n:=by
 cases r<;>simp[isV]at h<;>exact⟨_,rfl⟩
theorem azbi {P:qo}{f:Array TypeId}{a:AVal}{m M:Mem}{out:Out}(h:az4l P f a m=some out)
 (d:∀x∈out.rd,∀n,(m.get x).bind vlen=some n->(M.get x).bind vlen=some n):az4l P f a M=some out:=by
 have b:∀ (id n:Nat),(M.get id).bind vlen=some n->(match M.get id with
  |some (.vec _ n _ _ _)=>some (⟨.pure (.int .i64 n),[id],[],none⟩:Out)
  |some (.vecU _ n _ _ _ _ _ _ _)=>some ⟨.pure (.int .i64 n),[id],[],none⟩
  |some .nilv=>some ⟨.pure (.int .i64 (0:Nat)),[id],[],none⟩
  |_=>none)=some ⟨.pure (.int .i64 n),[id],[],none⟩:=by
  intro id n e;cases g:M.get id with
  |none=>simp_all
  |some r=>
   rw[g]at e;cases r<;>simp[vlen]at e<;>subst e<;>rfl
 unfold az4l at h⊢;split at h
 ·split at h
  ·exact h
  ·exact h
  ·rename_i j i id k;cases c:m.get id with
   |none=>simp_all
   |some r=>
    rw[c]at h;cases r<;>simp only[reduceCtorEq,Option.some.injEq]at h
    ·subst h;exact b _ _ (d _ jq 0 (by rw[c];rfl))
    ·subst h;exact b _ _ (d _ jq _ (by rw[c];rfl))
    ·subst h;exact b _ _ (d _ jq _ (by rw[c];rfl))
  all_goals omega
 omega
theorem azix {P:qo}{hint:Nat->Option Hint}{i id:Nat}{o:Oper}{s:St}{M:Mem}{out:Out}{l:Bool}(e:zzq o=true)(h:gzv P hint i o id s=some (out,l))
 (r:∀x∈out.rd,∀n,(s.mem.get x).bind vlen=some n->(M.get x).bind vlen=some n):gzv P hint i o id {s with mem:=M}=some (out,l):=by
 have q:bzz {s with mem:=M}=bzz s:=rfl;have k:∀a f,kz4 P hint i o id s=some (a,f)->(∀x∈a.rd,∀n,(s.mem.get x).bind vlen=some n->(M.get x).bind vlen=some n)->kz4 P hint i o id {s with mem:=M}=some (a,f):=by
  intro a f b g;unfold zzq at e;unfold kz4 at b⊢;split at e
  ·rename_i c d;split at e
   ·rename_i p;rw[d]at b⊢;simp only[p,azli,Bool.and_false,Bool.false_eq_true,if_false,Jzv,q]at b⊢;split at b
    ·rename_i x t;split at b
     ·exact b
     ·cases j:az4l P c.argTypes (bzz s x) s.mem with
      |none=>rw[j]at b;simp at b
      |some v=>
       rw[j]at b;simp at b;rw[azbi j (by rw[b.1];exact g)];simp[b.1,b.2]
    ·simp at b
   ·cases e
  ·cases e
 unfold gzv at h⊢;split at h
 ·rename_i a f b;split at h
  ·rename_i u d;simp only[Option.some.injEq,Prod.mk.injEq]at h;have m:a.rd=out.rd:=by
    rw[<-h.1];unfold Iz3 at d;split at d
    ·cases d;rfl
    ·split at d
     ·cases d;rfl
     ·cases d;rfl
     ·cases d
    ·split at d
     ·cases d;rfl
     ·cases d
   rw[k _ _ b (by rw[m];exact r)];simp only[d,h.1,h.2]
  ·cases h
 ·cases h
theorem Sat.conv {X:Cx}{F:Cells}{w:qn}{ρ:Env}{s b:St}{a:Act}(h:Sat X F w ρ s a)(e:∀t,ASub (s.get t) (b.get t))(c:∀i,b.mem.get i=s.mem.get i)(d:b.df=s.df):Sat X F w ρ b a:=
 ⟨h.size,λt=>(e t).rel _ _ _ _ (h.fr t),h.mem.congr c,d▸h.df,h.good,h.from0,h.env0⟩
theorem Oz2:∀ {l:List Oper} {i:Nat},Rzg i l=true->∀j o,l[j]?=some o->∀e∈o.after,Region.binds .any e=true->e.on<i+j
 |[],i,_,j,o,h=>jt
 |x::l,i,h,j,o,c=>by
  simp only[Rzg,qm,ql,xl,qX,qf]at h;cases j with
  |zero=>
   grind
  |succ j=>
   intro e a b;have:=Oz2 h.2 j o jr e a b;omega
def Vzv (ops:List Oper)(L:Nat->Bool)(j:Nat):Prop:=∀o,ops[j]?=some o->∀e∈o.after,Region.binds .any e=true->L e.on=true
theorem Sz4 {L:Nat->Bool}{b:List Nat}(a:∀j,L j=true->∀k,(b.getD j 0).testBit k=true->L k=true):
 ∀ (c:List Edge) (m:Nat),(∀e∈c,Region.binds .any e=true->L e.on=true)->(∀k,m.testBit k=true->L k=true)->
   ∀k,(c.foldl (λs e=>if Region.binds .any e then s|||2 ^ e.on|||b.getD e.on 0 else s) m).testBit k=true->L k=true
 |[],m,_,d,k,h=>d k h
 |e::c,m,g,d,k,h=>by
  refine Sz4 a c _ (λi f=>g i (List.mem_cons_of_mem _ f)) (λk' l=>?_) k h
  grind
theorem Wzl {ops:List Oper}{L:Nat->Bool}(g:∀j,L j=true->Vzv ops L j):∀j,Vzv ops L j->∀k,((azly ops).getD j 0).testBit k=true->L k=true:=by
 have c:∀ (l:List Oper) (a:List Nat),(∀j,l[j]?=ops[a.length+j]?)->(∀j,Vzv ops L j->∀k,(a.getD j 0).testBit k=true->L k=true)->
  ∀j,Vzv ops L j->∀k,((l.foldl (λa o=>a++[o.after.toList.foldl (λs e=>if Region.binds .any e then s|||2 ^ e.on|||a.getD e.on 0 else s) 0]) a).getD j 0).testBit k=true->L k=true:=by
  intro l;induction l with
  |nil=>simp_all
  |cons o l i=>
   intro a f h;refine i _ (λj=>?_) (λj d k b=>?_)
   ·have:=f (j+1)
    grind
   ·rw[List.getD_eq_getElem?_getD,List.getElem?_append]at b;split at b
    ·exact h j d k jr
    ·by_cases e:j=a.length
     ·subst e;simp only[xH,xI,wS]at b;have p:ops[a.length]?=some o:=by have:=f 0;simp_all
      exact Sz4 (λj m=>h j (g j m)) o.after.toList 0 (λe q n=>d o p e jr n) jq k b
     grind
 exact c ops [] jq jq
theorem az1h {F:Cells}{w:qn}{ρ:Env}{s:St}{a:Act}{ops:List Oper}{o:Oper}(h:∀t∈Yzd ops o,ARel F w ρ (s.get t) (a.tmps.getD t undef)):
 (dzi ops s o=.run->Region.wanted o (yielded ops.toArray a.tmps)=true)/\(dzi ops s o=.skip->Region.wanted o (yielded ops.toArray a.tmps)=false):=by
 have y:∀ {j t:Nat} {d:Oper} {b:Bool},ops[j]?=some d->d.dst=some t->a.tmps.getD t undef=.bool b->yielded ops.toArray a.tmps j=some b:=by
  intro j t d b k i m;have g:a.tmps[t]?=some (.bool b):=by
   rw[xK]at m
   grind[undef]
  grind[yielded]
 cases u:o.guard with
 |none=>grind[Region.wanted,dzi]
 |some l=>
  obtain⟨j,e⟩:=l;cases k:ops[j]? with
  |none=>grind[dzi]
  |some d=>
   cases i:d.dst with
   |none=>grind[dzi]
   |some t=>
    have c:=h t (by grind[Yzd]);have q:∀b:Bool,a.tmps.getD t undef=.bool b->Region.wanted o (yielded ops.toArray a.tmps)=(b==e):=by
     grind[Region.wanted]
    cases f:s.get t with
    |tt=>
     rw[f]at c;have x:a.tmps.getD t undef=.bool true:=by generalize a.tmps.getD t undef=v at c;cases c;rfl
     grind[dzi]
    |ff=>
     rw[f]at c;have x:a.tmps.getD t undef=.bool false:=by generalize a.tmps.getD t undef=v at c;cases c;rfl
     grind[dzi]
    |pure p=>
     grind[dzi]
    |tup r=>
     constructor
     ·grind[dzi]
     ·cases r with
      |cons _ _=>grind[dzi]
      |nil=>
       rw[f]at c;have g:a.tmps.getD t undef=.tuple #[]:=by
        generalize a.tmps.getD t undef=v at c;cases c<;>grind
       rw[xK]at g
       grind[yielded,Region.wanted]
    |_=>constructor<;>intro n<;>simp[dzi,u,k,i,f]at n
theorem azb2 {l:List Bool}{i n:Nat}(hi:l[i]?=some false)(h:l.count false=n+1):(l.set i true).count false=n:=by
 grind
theorem Wzm {m:Mem}{i:Nat}{r:Res}(h:m.get i=some r):i∈ids m:=xh.2 ⟨_,gzz h,rfl⟩
section
variable {P:qo} {X:Cx} {ops:List Oper} {hint:Nat->Option Hint} {Q:Exit->Act->qn->Prop} {tr:List Eff} {s0:St} {id0:Nat}
def azpu (tr:List Eff)(s0:St)(L:Nat->Bool)(ρ:Env):Prop:=
 (∀x r n,s0.mem.get x=some r->vlen r=some n->slen (ρ.vec x)=n)/\
 ∀k a x r n,tr[k]?=some a->L k=true->a.wr.get x=some r->vlen r=some n->slen (ρ.vec x)=n
theorem azfx (hlen:tr.length=ops.length)
 (hat:∀k o,ops[k]?=some o->∃e s,tr[k]?=some e/\At P X.nt ops hint k o e (pre (tr.take k) s0) s (id0+64 * k))
 (hedge:Rzg 0 ops=true) (hpair:Szh (azly ops) (ops.map zzq) 0 tr=true) (hlt:s0.lt id0=true) (hn0:X.n0<=id0)
 (fin:∀F w ρ a,Sat X F w ρ (pre tr s0) a->Q .normal a w):
 ∀ (fuel:Nat) (b:Array Bool) (F:Cells) (w:qn) (ρ:Env) (a:Act),b.size=ops.length->b.toList.count false=fuel->
   (∀j,b.getD j false=true->Vzv ops (λj=>b.getD j false) j)->Sat X F w ρ (fzk (λj=>b.getD j false) 0 tr s0) a->azpu tr s0 (λj=>b.getD j false) ρ->wpAnyIn Fence.wide 0 P .any ops.toArray Q fuel b a w:=by
 intro fuel;have done:∀ (b:Array Bool) (F:Cells) (w:qn) (ρ:Env) (a:Act),(∀j,j<ops.length->b.getD j false=true)->Sat X F w ρ (fzk (λj=>b.getD j false) 0 tr s0) a->Q .normal a w:=by
  intro b F w ρ a hall hs;refine fin F w ρ a (hs.conv (λt=>?_) (λi=>?_) ?_)
  ·have e:(fzk (λj=>b.getD j false) 0 tr s0).get t=(pre tr s0).get t:=by
    rw[iz7 (L':=λx=>qv (x<tr.length)) tr 0 s0 s0 rfl,mz1,wG,wD]
    grind
   grind[ASub.refl]
  ·rw[mz0 (L':=λx=>qv (x<tr.length)) tr 0 s0 s0 rfl,mz1,wG,wD]
   grind
  ·have:=mz1 tr.length tr 0 s0
   grind[Qzn]
 have ready_nil:∀ (b:Array Bool),b.size=ops.length->Region.ready .any ops.toArray b=[]->∀j,j<ops.length->b.getD j false=true:=by
  intro b hsz hr j;induction j using Nat.strongRecOn with
  |_ j ih=>
   intro hj;have hjl:j<b.size:=qa
   have hgd:b.getD j true=b.getD j false:=by
    simp_all
   cases m:b.getD j false with
   |true=>rfl
   |false=>
    have:j∈Region.ready .any ops.toArray b:=by
     refine mem_ready.2 ⟨jr,ops[j],jq,λe he hb=>?_⟩;have:=Oz2 hedge j ops[j] jq e he hb
     grind
    simp_all
 induction fuel with
 |zero=>
  intro b F w ρ a hsz hcnt hcl hs _;have hall:∀j,j<ops.length->b.getD j false=true:=by
   intro j hj;have hjl:j<b.size:=qa
   rw[xK,xL hjl,wS]
   grind[List.count_pos_iff]
  refine⟨?_,done b F w ρ a hall hs⟩
  simp_all[Region.ready]
 |succ fuel ih=>
  intro b F w ρ a hsz hcnt hcl hs hln;refine⟨λhr=>done b F w ρ a (ready_nil b hsz hr) hs,λi hi=>?_⟩;obtain⟨hli,o,ho,hed⟩:=mem_ready.1 hi;have ho':ops[i]?=some o:=jr
  have hil:i<ops.length:=(List.getElem?_eq_some_iff.1 ho').1;have hils:i<b.size:=qa
  have hLi:b.getD i false=false:=by
   simp_all
  obtain⟨e,s,he,hA⟩:=hat i o ho';have hcli:Vzv ops (λj=>b.getD j false) i:=λo2 h2 e2 he2 hb=>jr
  have z:∀k l,k<i->tr[k]?=some l->b.getD k false=true\/Apart ((ops.map zzq).getD k false) l e:=by
   intro k l u hek;rcases Dzw hpair k i l e u hek he with h|h;all_goals grind[Wzl,Vzw]
  have c:∀k l,i<k->tr[k]?=some l->b.getD k false=true->Apart (zzq o) e l:=by
   intro k l u hek p;rcases Dzw hpair i k e l u he hek with h|h;all_goals grind[Wzl,Vzw]
  have hget:∀t∈e.uses,(fzk (λj=>b.getD j false) 0 tr s0).get t=(pre (tr.take i) s0).get t:=by
   intro t ht;rw[iz7 (L':=λx=>qv (x<i)) tr 0 s0 s0 rfl,mz1,wG];intro k l u hd;rw[xM];rcases xN k i with h|h|h
   ·rcases z k l h u with A|A
    ·simp_all
    ·exact(A.xy t hd ht).elim
   ·simp_all
   ·cases p:b.getD k false with
    |false=>grind
    |true=>exact((c k l h u p).yx t hd ht).elim
  have hmem:∀x∈e.rd,(fzk (λj=>b.getD j false) 0 tr s0).mem.get x=(pre (tr.take i) s0).mem.get x\/(zzq o=true/\∃r,(fzk (λj=>b.getD j false) 0 tr s0).mem.get x=some r/\isV r=true):=by
   intro x m;have hw:∀k l,tr[k]?=some l->x∈ids l.wr->k<i->b.getD k false=true:=by
    intro k l u hd h;rcases z k l h u with A|A
    ·omega
    ·exact(A.wr x hd m).elim
   have:=Lzx (L:=λj=>b.getD j false) (x:=x) (i:=i) (R:=λr=>zzq o=true/\isV r=true) tr 0 s0 s0 (.inl rfl) (λk l u hd h=>jr) (λk l u h p r hr=>by
    rw[xM]at h p;rcases Nat.lt_or_eq_of_le h with h|h
    ·rcases(c k l h u p).rw with A|⟨A,h2⟩;all_goals grind[Wzm]
    ·subst h;rw[hLi]at p;cases p)
   rw[mz1,wG]at this;rcases this with h|⟨r,A,h2,h3⟩
   ·exact .inl h
   ·exact .inr ⟨h2,r,A,h3⟩
  have hpre:∀x∈e.rd,∀r n,(pre (tr.take i) s0).mem.get x=some r->vlen r=some n->slen (ρ.vec x)=n:=by
   intro x m r n hr hn;have:=Bzo (R:=λj r=>j=x->∀n,vlen r=some n->slen (ρ.vec x)=n) (L:=λy=>qv (y<i)) tr 0 s0 (λj r hj e n hn=>by subst e;exact hln.1 j r n hj hn) (λk l u p j r hj e n hn=>by
    subst e;rw[xM]at p;have h:k<i:=by simpa using p
    rcases z k l h u with A|A
    ·exact hln.2 k l j r n u A hj hn
    ·exact(A.wr j (Wzm hj) m).elim)
   rw[mz1,wG]at this;exact this x r hr rfl n hn
  have hlt':=hlt;simp only[St.lt,qm]at hlt';have hvfree:∀t x,Own e.id x->((fzk (λj=>b.getD j false) 0 tr s0).get t).has x=false:=by
   intro t x m;rw[hA.eid]at m;refine Lzv (R:=λv=>v.has x=false) tr 0 s0 (Oz8 (by have:=m.1;omega) (Jzz hlt'.1.1 t)) (λk l u p=>?_);rw[xM]at p;rcases xN k i with h|h|h
   ·obtain⟨ok,hok⟩:∃ok,ops[k]?=some ok:=⟨ops[k],jq⟩;obtain⟨ek',sk,hk',hAk⟩:=hat k ok hok;rw[u]at hk';cases hk';exact Oz8 (by have:=m.1;omega) hAk.vlt
   ·subst h;rw[hLi]at p;cases p
   ·exact Yz6 (by rw[hA.eid];exact m) (c k l h u p).val
  have hwfree:∀k l,tr[k]?=some l->b.getD k false=true->∀j r,l.wr.get j=some r->¬Own e.id j/\∀x,Own e.id x->r.has x=false:=by
   intro k l u p j r hr;rcases xN k i with h|h|h
   ·obtain⟨ok,hok⟩:∃ok,ops[k]?=some ok:=⟨ops[k],jq⟩;obtain⟨ek',sk,hk',hAk⟩:=hat k ok hok;rw[u]at hk';cases hk';have:=gzn hAk.wlt hr;refine⟨λm=>?_,λx m=>yz8 (by rw[hA.eid]at m;have:=m.1;omega) this.2⟩;rw[hA.eid]at m;have:=m.1;omega
   ·subst h;rw[hLi]at p;cases p
   ·exact Sz7 (c k l h u p).mem hr
  have hsfree:∀j r,s0.mem.get j=some r->¬Own e.id j/\∀x,Own e.id x->r.has x=false:=by
   intro j r hr;have:=gzn hlt'.1.2 hr;refine⟨λm=>?_,λx m=>yz8 (by rw[hA.eid]at m;have:=m.1;omega) this.2⟩;rw[hA.eid]at m;have:=m.1;omega
  have hmfree:∀j r,(fzk (λj=>b.getD j false) 0 tr s0).mem.get j=some r->¬Own e.id j/\∀x,Own e.id x->r.has x=false:=
   Bzo (R:=λj r=>¬Own e.id j/\∀x,Own e.id x->r.has x=false) tr 0 s0 hsfree (λk l u p j r hr=>by rw[xM]at p;exact hwfree k l u p j r hr)
  have hfr:Fresh e.id (fzk (λj=>b.getD j false) 0 tr s0).mem:=by
   refine⟨λx m=>?_,λx j r m hj=>(hmfree j r hj).2 x m⟩;cases hg:(fzk (λj=>b.getD j false) 0 tr s0).mem.get x with
   |none=>rfl
   |some r=>exact absurd m (hmfree x r hg).1
  have hrel:∀t∈e.uses,ARel F w ρ (s.get t) (a.tmps.getD t undef):=λt ht=>(hA.get t).rel _ _ _ _ (hget t ht▸hs.fr t)
  have hL':(λj=>(b.setIfInBounds i true).getD j false)=λx=>if x=i then true else b.getD x false:=by
   funext x;by_cases h:x=i
   ·subst h;simp[hils]
   ·rw[qb h];exact getD_set_ne false (Ne.symm h)
  have next:∀ (F':Cells) (w':qn) (ρ':Env) (v:Value),Step X.Mine F w F' w'->dz4 e.id ρ ρ'->ARel F' w' ρ' e.val v->MemOk F' w' ρ' X.Mine (e.wr++(fzk (λj=>b.getD j false) 0 tr s0).mem)->
   wpAnyIn Fence.wide 0 P .any ops.toArray Q fuel (b.setIfInBounds i true) (a.put o.dst v) w':=by
   intro F' w' ρ' v st hen hv hm;have hget':∀t,(fzk (λx=>if x=i then true else b.getD x false) 0 tr s0).get t=if e.dst=some t then e.val else(fzk (λj=>b.getD j false) 0 tr s0).get t:=λt=>
    Lzu (L:=λj=>b.getD j false) tr 0 s0 s0 e qa (by simpa using he) hLi rfl (λk l u hlt p A h2=>by
     rw[xM]at hlt p;exact(c k l hlt u p).dd t h2 A)
   have hmem':∀x,(fzk (λx=>if x=i then true else b.getD x false) 0 tr s0).mem.get x=(e.wr.get x).or ((fzk (λj=>b.getD j false) 0 tr s0).mem.get x):=λx=>
    Lzw (L:=λj=>b.getD j false) tr 0 s0 s0 e qa (by simpa using he) hLi rfl (λk l u hlt p A h2=>by
     rw[xM]at hlt p;exact(c k l hlt u p).ww x h2 A)
   refine ih (b.setIfInBounds i true) F' w' ρ' _ (by simpa using hsz) ?_ (λj hj=>?_) ?_ ?_
   ·rw[Array.toList_setIfInBounds];refine azb2 ?_ hcnt;rw[Array.getElem?_toList,xL hils];rw[xK,xL hils]at hLi;simpa using hLi
   ·intro o2 h2 e2 he2 hb;simp only;by_cases hji:j=i
    ·subst hji;exact getD_set_true (hcli o2 h2 e2 he2 hb)
    ·rw[getD_set_ne false (Ne.symm hji)]at hj;exact getD_set_true (hcl j hj o2 h2 e2 he2 hb)
   ·rw[hL'];have hold:∀t,ARel F' w' ρ' ((fzk (λj=>b.getD j false) 0 tr s0).get t) (a.tmps.getD t undef):=λt=>
     (hs.fr t).mono (λi=>¬Own e.id i) st.sub st.cell hen (λx m=>hvfree t x (xO.1 m))
    refine⟨?_,λt=>?_,hm.congr (λx=>by rw[hmem',Mem.get_append]),?_,st.good hs.good,hs.from0.trans st,λx m=>?_⟩
    ·cases hdst:o.dst with
     |none=>exact hs.size
     |some d=>simpa[Act.put]using hs.size
    ·rw[hget',hA.dst];cases hdst:o.dst with
     |none=>simpa[Act.put]using hold t
     |some d=>
      have hds:d<a.tmps.size:=by rw[hs.size];have:=hA.ok;rw[hdst]at this;simpa[oza]using this
      rw[Yz9 a d v t hds];by_cases hdt:d=t
      ·subst hdt;simpa using hv
      ·simpa[hdt]using hold t
    ·have:(a.put o.dst v).defers=a.defers:=by cases o.dst<;>rfl
     rw[this];have h0:=hs.df;rw[Qzn]at h0⊢;exact Mz7 (λi=>¬Own e.id i) st.sub st.cell hen h0 (λx m=>zzt (by have:=(xO.1 m).1;rw[hA.eid]at this;omega) hlt'.2)
    ·have A:=hen x (λhx'=>by have:=hx'.1;rw[hA.eid]at this;omega);have h2:=hs.env0 x m;exact⟨A.1.trans h2.1,A.2.trans h2.2⟩
   ·refine⟨λx r n hr hn=>?_,λk l x r n u p hr hn=>?_⟩
    ·rw[(hen x (hsfree x r hr).1).2];exact hln.1 x r n hr hn
    ·simp only at p;by_cases hki:k=i
     ·subst hki;rw[he]at u;cases u;exact az66 (hm.ok x r (by rw[Mem.get_append,hr];rfl)) hn
     ·rw[getD_set_ne false (Ne.symm hki)]at p;rw[(hen x (hwfree k l u p x r hr).1).2];exact hln.2 k l x r n u p hr hn
  have hgw:=az1h (F:=F) (w:=w) (ρ:=ρ) (s:=s) (a:=a) (ops:=ops) (o:=o) (λt ht=>hrel t (by rw[hA.uses];exact List.mem_append_right _ ht));unfold wpOpIn;simp only[ho];rcases hA.does with⟨hg,out,fl,hst,hob,e1,e2,e3⟩|⟨hg,e1,e2,e3⟩
  ·rw[qc (hgw.1 hg)];obtain⟨s1,hst1,hrd1,hfr1⟩:∃s1,gzv P hint i o (id0+64 * i) s1=some (out,fl)/\(∀x∈out.rd,(fzk (λj=>b.getD j false) 0 tr s0).mem.get x=s1.mem.get x)/\bzz s1=bzz s:=by
    cases hlo:zzq o with
    |true=>
     refine⟨{s with mem:=(fzk (λj=>b.getD j false) 0 tr s0).mem},azix hlo hst (λx m n hn=>?_),λ_ _=>rfl,rfl⟩;rcases hmem x (e2▸m)with h|⟨_,r,A,h2⟩
     ·rw[h,<-hA.mem];exact hn
     ·obtain⟨n',hn'⟩:=azgy h2;rw[hA.mem]at hn;obtain⟨r0,hr0,hn0'⟩:=Option.bind_eq_some_iff.1 hn;have q1:=hpre x (e2▸m) r0 n hr0 hn0';have q2:=az66 (hs.mem.ok x r A) hn';rw[A,Option.bind_some,hn',<-q2,q1]
    |false=>
     refine⟨s,hst,λx m=>?_,rfl⟩;rcases hmem x (e2▸m)with h|⟨h,_⟩
     ·rw[h,hA.mem]
     ·rw[hlo]at h;cases h
   have hsnd:=Ozz hst1 hob F w ρ X.Mine (fzk (λj=>b.getD j false) 0 tr s0).mem a hs.mem hs.good (hA.eid▸hfr) hrd1
    (λx _ i hi=>by rw[hfr1];exact Oz8 hi.1 (azbd hA.lt x)) (λx m=>by
     rw[hfr1];cases x with
     |tmp t=>exact hrel t (by rw[hA.uses];exact List.mem_append_left _ (List.mem_filterMap.2 ⟨.tmp t,by simpa using m,rfl⟩))
     |const v=>exact Mzi v
     |global g=>exact Jzw hs (.global g)
     |func f=>exact .func rfl jq rfl jq)
   refine hsnd _ _ ?_;rintro v w' ⟨F',ρ',st,hen,hv,hm⟩;exact next F' w' ρ' v st (hA.eid▸hen) (e1▸hv) (e3▸hm)
  ·rw[qb (by rw[hgw.2 hg];simp)];refine⟨λ_ _=>trivial,?_⟩;exact next F w ρ undef (Step.refl hs.good) (λi _=>⟨rfl,rfl⟩) (by rw[e1];exact .tup rfl jq) (by rw[e3];exact hs.mem)
end
theorem az8n {P:qo}(z:P.follows .mixedOrders=true):gzb P azb6:=by
 intro X ops hint K Q id s F w ρ a D h f p c E;obtain⟨tr,G,N,u,H⟩:=az58 ops 0 id s [] h;obtain⟨m,M,e,y,J,g⟩:=azm6 N s (λt=>ASub.refl _) rfl f;simp only[azb6,qm]at u;refine wpIn_wide.1 (wpIn_region_any (n:=0) z ?_);have q:Sat X F {w with drawn:=w.drawn+1} ρ s a:=by
  have d:Step X.Mine F w F {w with drawn:=w.drawn+1}:=⟨λ_ _ h=>h,λ_ _ _=>rfl,λ_ _ h=>.inl h,c.good.lt,⟨rfl,rfl,rfl,Nat.le_refl _,λ_ _ _=>rfl⟩⟩;refine⟨c.size,λt=>(c.fr t).mono' d.sub d.cell,?_,Mz7 (λ_=>True) d.sub d.cell (λ_ _=>⟨rfl,rfl⟩) c.df (λ_ h=>absurd trivial h),d.good c.good,c.from0.trans d,c.env0⟩;have:=c.mem.step d (λ_=>True) (λ_ _=>⟨rfl,rfl⟩) [] (λj r _ _=>⟨trivial,λ_ h=>absurd trivial h,λb _=>⟨rfl,λ_ h=>h⟩⟩) (by simp[Mem.get]) (by simp[Mem.get])
  simp_all
 refine azfx (hint:=hint) (tr:=tr) (s0:=s) (id0:=id) m (λk o S=>jr) u.1 u.2 f p (λF' O ρ' B l=>?_) _ _ F _ ρ a jq ?_ (λj I=>?_) ?_ ⟨λx r n C L=>az66 (q.mem.ok x r C) L,λk R x r n _ A=>?_⟩
 ·refine E G tr F' O ρ' B H g (l.conv e (λi=>jt) ?_);have:=mz1 tr.length tr 0 s
  grind[Qzn]
 ·simp
 ·simp only[xK,xP]at I
  grind
 ·have:(λj=>(Array.replicate ops.toArray.size false).getD j false)=λ_=>false:=by
   simp only[xK,xP]
   grind
  have v:∀ (tr:List Eff) (j:Nat) (s:St),fzk (λ_=>false) j tr s=s:=by
   intro tr;induction tr<;>grind[fzk]
  simp_all
 ·simp only[xK,xP]at A
  grind
end Go.Abs
