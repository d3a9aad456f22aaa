/-
  DrawC (a part of a claim: our own text).
-/
import Derived.Test.YtlmicknhpllbdaaGreatDoorYMFunc
namespace Go.Abs
def azdw (ops:List Oper):List Nat:=
 ops.foldl (fun a o=>a++[o.after.toList.foldl (fun s e=>if Region.binds .any e then s|||2 ^ e.on|||a.getD e.on 0 else s) 0]) []
mutual
def AVal.free (lo:Nat):AVal->Bool
 | .agg c| .tup c=>AVal.freeL lo c
 | .iface _ a=>AVal.free lo a
 | .vec i| .ptr i _| .eptr i _ _ _| .map i| .bsl i _| .view i _ _ _=>decide (i<lo)||decide (lo+64≤i)
 | .func _ a b=>AVal.freeL lo a&&AVal.freeL lo b
 | .any| .pure _| .tt| .ff| .ref _| .anyb| .yld _| .clip _| .nilp=>true
def AVal.freeL (lo:Nat):List AVal->Bool
 |[]=>true
 |a::l=>AVal.free lo a&&AVal.freeL lo l
end
def Res.free (lo:Nat):Res->Bool
 | .box b=>AVal.freeL lo b
 | .vecX _ _ _ _ _ _ i=>decide (i<lo)||decide (lo+64≤i)
 | .vecU _ _ _ _ _ _ _ _ a=>a.all fun x=>decide (x.2<lo)||decide (lo+64≤x.2)
 |_=>true
def Pz2 (lo:Nat):Mem->Bool
 |[]=>true
 |(i,r)::m=>(decide (i<lo)||decide (lo+64≤i))&&Res.free lo r&&Pz2 lo m
def ids (m:Mem):List Nat:=m.map (·.1)
def disj (a b:List Nat):Bool:=a.all fun x=> !b.contains x
def Xzi (d:Option Nat)(l:List Nat):Bool:=
 match d with
 |none=>true
 |some t=> !l.contains t
def xze (o:Oper):Bool:=
 match o.op with
 | .call c=>match c.callee with
   | .builtin .len=>true
   |_=>false
 |_=>false
def vlen:Res->Option Nat
 | .vec _ n _ _ _=>some n
 | .vecU _ n _ _ _ _ _ _ _=>some n
 | .nilv=>some 0
 |_=>none
def isV:Res->Bool
 | .vec _ _ _ _ _=>true
 | .vecU _ _ _ _ _ _ _ _ _=>true
 | .nilv=>true
 |_=>false
def Nzi (l:List Nat):Mem->Bool
 |[]=>true
 |(i,r)::m=>(!l.contains i||isV r)&&Nzi l m
def Xz3 (a:Bool)(x y:Eff):Bool:=
 Xzi x.dst y.uses&&Xzi y.dst x.uses&&Xzi x.dst y.dst.toList&&
 disj (ids x.wr) y.rd&&(disj (ids y.wr) x.rd||(a&&Nzi x.rd y.wr))&&disj (ids x.wr) (ids y.wr)&&
 AVal.free x.id y.val&&Pz2 x.id y.wr
def Hzb (b:List Nat)(a:Bool)(x:Eff)(i:Nat):Nat->List Eff->Bool
 |_,[]=>true
 |j,y::l=>((b.getD j 0).testBit i||Xz3 a x y)&&Hzb b a x i (j+1) l
def Pzd (b:List Nat)(a:List Bool):Nat->List Eff->Bool
 |_,[]=>true
 |i,x::l=>Hzb b (a.getD i false) x i (i+1) l&&Pzd b a (i+1) l
def Ozb:Nat->List Oper->Bool
 |_,[]=>true
 |i,o::l=>o.after.toList.all (fun e=> !Region.binds .any e||decide (e.on<i))&&Ozb (i+1) l
def az5k (ops:List Oper)(tr:List Eff):Bool:=Ozb 0 ops&&Pzd (azdw ops) (ops.map xze) 0 tr
def czp (s:St)(e:Eff):St:={(s.putD e.dst e.val)with mem:=e.wr++s.mem}
def fz6 (L:Nat->Bool):Nat->List Eff->St->St
 |_,[],s=>s
 |j,e::tr,s=>fz6 L (j+1) tr (if L j then czp s e else s)
theorem fzj (s:St)(e:Eff)(t:Nat):(czp s e).get t=if e.dst=some t then e.val else s.get t:=by
 cases h:e.dst<;>grind[czp,St.putD,St.get,St.put,rzd]
theorem az03 (s:St)(e:Eff):(czp s e).df=s.df:=by
 cases h:e.dst<;>simp[czp,St.putD,h,St.put]
theorem Nzm (L:Nat->Bool):∀ (tr:List Eff) (j:Nat) (s:St),(fz6 L j tr s).df=s.df
 |[],j,s=>rfl
 |e::tr,j,s=>by
  simp only[fz6]
  rw[Nzm L tr]
  split
  ·exact az03 s e
  ·rfl
theorem ize {L L':Nat->Bool}{t:Nat}:∀ (tr:List Eff) (j:Nat) (s d:St),s.get t=d.get t->(∀k e,tr[k]?=some e->e.dst=some t->L (j+k)=L' (j+k))->(fz6 L j tr s).get t=(fz6 L' j tr d).get t
 |[],j,s,d,h,_=>h
 |e::tr,j,s,d,h,g=>by
  refine ize tr (j+1) _ _ ?_ (fun k l i c=>by have:=g (k+1) l (by simpa using i) c;simpa[Nat.add_assoc,Nat.add_comm 1 k]using this)
  by_cases c:e.dst=some t
  ·have:=g 0 e (by simp) c
   rw[Nat.add_zero]at this
   rw[this]
   split
   ·rw[fzj,fzj,if_pos c,if_pos c]
   ·exact h
  ·have f:∀ (b:Bool) (s:St),(if b then czp s e else s).get t=s.get t:=by
    intro b s
    cases b
    ·rfl
    ·simp only[if_true];rw[fzj,if_neg c]
   rw[f,f];exact h
theorem mz8 {L L':Nat->Bool}{i:Nat}:∀ (tr:List Eff) (j:Nat) (s c:St),s.mem.get i=c.mem.get i->(∀k e,tr[k]?=some e->i∈ids e.wr->L (j+k)=L' (j+k))->(fz6 L j tr s).mem.get i=(fz6 L' j tr c).mem.get i
 |[],j,s,c,h,_=>h
 |e::tr,j,s,c,h,f=>by
  refine mz8 tr (j+1) _ _ ?_ (fun k l n d=>by have:=f (k+1) l (by simpa using n) d;simpa[Nat.add_assoc,Nat.add_comm 1 k]using this)
  by_cases d:i∈ids e.wr
  ·have:=f 0 e (by simp) d
   rw[Nat.add_zero]at this
   rw[this]
   split
   ·simp only[czp,Mem.get_append,h]
   ·exact h
  ·have o:e.wr.get i=none:=by
    cases m:e.wr.get i with
    |none=>rfl
    |some r=>exact absurd (List.mem_map.2 ⟨_,gzk m,rfl⟩) d
   have g:∀ (b:Bool) (s:St),(if b then czp s e else s).mem.get i=s.mem.get i:=by
    intro b s
    cases b
    ·rfl
    ·simp only[if_true,czp,Mem.get_append,o,Option.none_or]
   rw[g,g];exact h
theorem Izi {L:Nat->Bool}{t n:Nat}:∀ (tr:List Eff) (j:Nat) (s c:St) (a:Eff),j≤n->tr[n-j]?=some a->L n=false->s.get t=c.get t->
 (∀k e,tr[k]?=some e->n<j+k->L (j+k)=true->e.dst=some t->a.dst=some t->False)->
 (fz6 (fun x=>if x=n then true else L x) j tr s).get t=if a.dst=some t then a.val else(fz6 L j tr c).get t
 |[],j,s,c,a,_,h,_,_,_=>by grind
 |e::tr,j,s,c,a,B,p,y,A,b=>by
  simp only[fz6]
  by_cases r:j=n
  ·subst r
   simp only[Nat.sub_self,List.getElem?_cons_zero,Option.some.injEq]at p
   subst p
   by_cases v:e.dst=some t
   ·have u:=ize (L:=fun x=>if x=j then true else L x) (L':=fun _=>false) (t:=t) tr (j+1) (czp s e) (czp s e) rfl (fun k m f d=>by
     have i:¬j+1+k=j:=by omega
     simp only[if_neg i]
     cases g:L (j+1+k)with
     |false=>rfl
     |true=>exact(b (k+1) m (by simp_all) (by omega) (by grind) d v).elim)
    have q:∀ (tr:List Eff) (j:Nat) (s:St),fz6 (fun _=>false) j tr s=s:=by
     intro tr
     induction tr<;>grind[fz6]
    grind[fzj]
   grind[ize,fzj]
  ·have l:tr[n- (j+1)]?=some a:=by
    grind
   refine Izi tr (j+1) _ _ a (by omega) l y ?_ (fun k m f o g z w=>b (k+1) m (by simp_all) (by omega) (by grind) z w)
   grind[fzj]
theorem Izk {L:Nat->Bool}{i n:Nat}:∀ (tr:List Eff) (j:Nat) (s d:St) (b:Eff),j≤n->tr[n-j]?=some b->L n=false->s.mem.get i=d.mem.get i->
 (∀k e,tr[k]?=some e->n<j+k->L (j+k)=true->i∈ids e.wr->i∈ids b.wr->False)->
 (fz6 (fun x=>if x=n then true else L x) j tr s).mem.get i=(b.wr.get i).or ((fz6 L j tr d).mem.get i)
 |[],j,s,d,b,_,h,_,_,_=>by grind
 |e::tr,j,s,d,b,F,v,A,H,c=>by
  simp only[fz6]
  by_cases E:j=n
  ·subst E
   simp only[Nat.sub_self,List.getElem?_cons_zero,Option.some.injEq]at v
   subst v
   by_cases f:i∈ids e.wr
   ·have C:=mz8 (L:=fun x=>if x=j then true else L x) (L':=fun _=>false) (i:=i) tr (j+1) (czp s e) (czp s e) rfl (fun k g p q=>by
     have l:¬j+1+k=j:=by omega
     simp only[if_neg l]
     cases t:L (j+1+k)with
     |false=>rfl
     |true=>exact(c (k+1) g (by simp_all) (by omega) (by grind) q f).elim)
    have none:∀ (tr:List Eff) (j:Nat) (s:St),fz6 (fun _=>false) j tr s=s:=by
     intro tr
     induction tr<;>grind[fz6]
    obtain⟨x,w,rfl⟩:=List.mem_map.1 f
    obtain⟨r,G⟩:=Vz5 (m:=e.wr) ⟨x,w,rfl⟩
    grind[czp,Mem.get_append]
   ·have y:e.wr.get i=none:=by
     cases B:e.wr.get i with
     |none=>rfl
     |some r=>exact absurd (List.mem_map.2 ⟨_,gzk B,rfl⟩) f
    grind[mz8,czp,Mem.get_append]
  ·have o:tr[n- (j+1)]?=some b:=by
    grind
   refine Izk tr (j+1) _ _ b (by omega) o A ?_ (fun k g p u t D z=>c (k+1) g (by simp_all) (by omega) (by grind) D z)
   grind[czp,Mem.get_append]
theorem Izl {L:Nat->Bool}{x i:Nat}{R:Res->Prop}:∀ (tr:List Eff) (j:Nat) (s d:St),(s.mem.get x=d.mem.get x\/(i≤j/\∃r,s.mem.get x=some r/\R r))->
 (∀k e,tr[k]?=some e->x∈ids e.wr->j+k<i->L (j+k)=true)->
 (∀k e,tr[k]?=some e->i≤j+k->L (j+k)=true->∀r,e.wr.get x=some r->R r)->
 (fz6 L j tr s).mem.get x=(fz6 (fun y=>decide (y<i)) j tr d).mem.get x\/∃r,(fz6 L j tr s).mem.get x=some r/\R r
 |[],j,s,d,h,_,_=>h.imp id fun h=>h.2
 |e::tr,j,s,d,h,n,l=>by
  refine Izl tr (j+1) _ _ ?_ (fun k g f c u=>by have:=n (k+1) g (by simp_all) c (by omega);grind)
   (fun k g f u o=>l (k+1) g (by simp_all) (by omega) (by grind))
  have a:x∉ids e.wr->∀ (b:Bool) (s:St),(if b then czp s e else s).mem.get x=s.mem.get x:=by
   intro c b s
   have w:e.wr.get x=none:=by
    cases t:e.wr.get x with
    |none=>rfl
    |some r=>exact absurd (List.mem_map.2 ⟨_,gzk t,rfl⟩) c
   grind[czp,Mem.get_append]
  by_cases q:j<i
  ·have f:s.mem.get x=d.mem.get x:=by
    grind
   left
   by_cases c:x∈ids e.wr
   ·have o:L j=true:=by have:=n 0 e (by simp) c (by omega);omega
    grind[czp,Mem.get_append]
   ·rw[a c,a c,f]
  ·by_cases c:x∈ids e.wr
   ·cases o:L j with
    |false=>
     grind
    |true=>
     right
     obtain⟨y,p,rfl⟩:=List.mem_map.1 c
     obtain⟨r,v⟩:=Vz5 (m:=e.wr) ⟨y,p,rfl⟩
     refine⟨by omega,r,?_,l 0 e (by simp) (by omega) (by omega) r v⟩
     grind[czp,Mem.get_append]
   ·rw[a c]
    grind
inductive Path (P:Program) (nt:Nat) (ops:List Oper) (hint:Nat->Option Hint):Nat->List Oper->Nat->St->List Eff->St->Prop
 |nil {i id:Nat} {s:St}:Path P nt ops hint i [] id s [] s
 |dec {i id:Nat} {rest:List Oper} {s s':St} {tr:List Eff} {t:Nat} {b:Bool} (hx:s.get t=.pure (.bool b))
  (h:Path P nt ops hint i rest id (s.put t (if b then .tt else .ff)) tr s'):Path P nt ops hint i rest id s tr s'
 |run {i id:Nat} {o:Oper} {rest:List Oper} {s s':St} {tr:List Eff} {out:Out} {fl:Bool} (hg:dz4 ops s o=.run)
  (hst:gzj P hint i o id s=some (out,fl)) (hd:oz1 nt o.dst=true) (ho:Fz7 id out=true) (hob:holds out.obl)
  (h:Path P nt ops hint (i+1) rest (id+64) (izx s o out) tr s'):Path P nt ops hint i (o::rest) id s (Ezw ops o id out::tr) s'
 |skip {i id:Nat} {o:Oper} {rest:List Oper} {s s':St} {tr:List Eff} (hg:dz4 ops s o=.skip) (hd:oz1 nt o.dst=true)
  (h:Path P nt ops hint (i+1) rest (id+64) (s.putD o.dst (.tup [])) tr s'):Path P nt ops hint i (o::rest) id s (⟨o.dst,wzc ops o,id,.tup [],[],[]⟩::tr) s'
theorem az17 {P:Program}{nt:Nat}{ops:List Oper}{hint:Nat->Option Hint}{K:St->List Eff->Prop}:
 ∀ (d:List Oper) (i id:Nat) (s:St) (tr:List Eff),kzg P nt ops hint i d id s tr K->∃a e,Path P nt ops hint i d id s a e/\K e (tr++a)
 |[],i,id,s,tr,h=>⟨[],s,.nil,by simpa[kzg]using h⟩
 |o::d,i,id,s,tr,h=>by
  have p:∀ (s:St),dz4 ops s o=.run->(match gzj P hint i o id s with
   |some (out,_)=>if oz1 nt o.dst&&Fz7 id out then andO out.obl (kzg P nt ops hint (i+1) d (id+64) (izx s o out) (tr++[Ezw ops o id out]) K)else False
   |none=>False)->∃a e,Path P nt ops hint i (o::d) id s a e/\K e (tr++a):=by
   intro s f h
   split at h
   ·rename_i out y m
    split at h
    ·rename_i v
     simp only[Bool.and_eq_true]at v
     obtain⟨w,r⟩:=andO_iff.1 h
     obtain⟨a,e,j,k⟩:=az17 d _ _ _ _ r
     exact⟨_,e,.run f m v.1 v.2 w j,by simpa using k⟩
    ·exact h.elim
   ·exact h.elim
  have g:∀ (s:St),dz4 ops s o=.skip->(if oz1 nt o.dst then kzg P nt ops hint (i+1) d (id+64) (s.putD o.dst (.tup [])) (tr++[⟨o.dst,wzc ops o,id,.tup [],[],[]⟩]) K else False)->
   ∃a e,Path P nt ops hint i (o::d) id s a e/\K e (tr++a):=by
   intro s f h
   split at h
   ·rename_i x
    obtain⟨a,e,j,k⟩:=az17 d _ _ _ _ h
    exact⟨_,e,.skip f x j,by simpa using k⟩
   ·exact h.elim
  simp only[kzg]at h
  split at h
  ·rename_i f;exact p s f h
  ·rename_i f;exact g s f h
  ·exact h.elim
  ·rename_i t b l f
   obtain⟨u,_⟩:=Ozs f
   cases b with
   |true=>
    have k:=xza (c:=true) f
    have q:=h.1 rfl
    cases l with
    |true=>obtain⟨a,e,j,n⟩:=p _ k q;exact⟨a,e,.dec u j,n⟩
    |false=>obtain⟨a,e,j,n⟩:=g _ k q;exact⟨a,e,.dec u j,n⟩
   |false=>
    have k:=xza (c:=false) f
    have q:=h.2 rfl
    cases l with
    |true=>obtain⟨a,e,j,n⟩:=g _ k q;exact⟨a,e,.dec u j,n⟩
    |false=>obtain⟨a,e,j,n⟩:=p _ k q;exact⟨a,e,.dec u j,n⟩
structure At (P:Program) (nt:Nat) (ops:List Oper) (hint:Nat->Option Hint) (i:Nat) (o:Oper) (e:Eff) (p s:St) (id:Nat):Prop where
 dst:e.dst=o.dst
 uses:e.uses=wzc ops o
 eid:e.id=id
 ok:oz1 nt o.dst=true
 get:∀t,ASub (p.get t) (s.get t)
 mem:s.mem=p.mem
 lt:s.lt id=true
 vlt:e.val.lt (id+64)=true
 wlt:hzw (id+64) e.wr=true
 does:(dz4 ops s o=.run/\∃out fl,gzj P hint i o id s=some (out,fl)/\holds out.obl/\e.val=out.val/\e.rd=out.rd/\e.wr=out.wr)\/
  (dz4 ops s o=.skip/\e.val=.tup []/\e.rd=[]/\e.wr=[])
def pre:List Eff->St->St
 |[],p=>p
 |e::tr,p=>pre tr (czp p e)
theorem ASub.refl (a:AVal):ASub a a:=⟨fun _ _ _ _ h=>h⟩
theorem ASub.trans {a b c:AVal}(h:ASub a b)(d:ASub b c):ASub a c:=⟨fun F w ρ v x=>d.rel F w ρ v (h.rel F w ρ v x)⟩
theorem az3j (b:Bool):ASub (.pure (.bool b)) (if b then .tt else .ff):=⟨fun F w ρ v h=>by
 have:=h.pure_inv.bool_inv;subst this;cases b
 ·exact .ff
 ·exact .tt⟩
theorem az3h (s:St)(o:Oper)(out:Out)(t:Nat):(izx s o out).get t=if o.dst=some t then out.val else s.get t:=by
 cases h:o.dst<;>grind[izx,St.putD,St.get,St.put,rzd]
theorem az33 (s:St)(d:Option Nat)(a:AVal)(t:Nat):(s.putD d a).get t=if d=some t then a else s.get t:=by
 cases d<;>grind[St.putD,St.put,St.get,rzd]
theorem aze1 {P:Program}{nt:Nat}{ops:List Oper}{hint:Nat->Option Hint}{i:Nat}{c:List Oper}{id:Nat}{s l:St}{tr:List Eff}(h:Path P nt ops hint i c id s tr l):
 ∀ (p:St),(∀t,ASub (p.get t) (s.get t))->s.mem=p.mem->s.lt id=true->
 tr.length=c.length/\(∀k o,c[k]?=some o->∃e A,tr[k]?=some e/\At P nt ops hint (i+k) o e (pre (tr.take k) p) A (id+64 * k))/\
 (∀t,ASub ((pre tr p).get t) (l.get t))/\l.mem=(pre tr p).mem/\l.df=s.df/\l.lt (id+64 * c.length)=true:=by
 induction h with
 |nil=>
  intro p m j g
  exact⟨rfl,by simp,m,j,rfl,by omega⟩
 |@dec i id c s l tr t b K h x=>
  intro p m j g
  have:=x p (fun J=>by
   have e:=az33 s (some t) (if b then .tt else .ff) J
   simp only[St.putD]at e
   rw[e]
   split
   ·rename_i e;cases e
    exact(m t).trans (by grind[az3j])
   simp_all) j (Tzp g (a:=if b then .tt else .ff) (by cases b<;>rfl) (some t))
  exact this
 |@run i id o c s l tr out H B D C E z h x=>
  intro p m j g
  obtain⟨q,y,f,d,r,w⟩:=x (czp p (Ezw ops o id out)) (fun t=>by
   grind[az3h,fzj,Ezw,ASub.refl]) (by grind[czp,izx,Ezw]) (Wzz g E)
  have u:=E
  simp only[Fz7,Bool.and_eq_true]at u
  refine⟨by simp_all,fun k o' v=>?_,f,d,?_,?_⟩
  ·cases k with
   |zero=>
    simp at v;subst v
    exact⟨_,s,rfl,rfl,rfl,rfl,C,m,j,g,u.1,u.2,.inl ⟨B,out,H,D,z,rfl,rfl,rfl⟩⟩
   |succ k=>
    grind[pre]
  ·rw[r];cases n:o.dst<;>simp[izx,St.putD,n,St.put]
  ·rw[List.length_cons,show id+64 * (c.length+1)=id+64+64 * c.length by omega];omega
 |@skip i id o c s l tr B C h x=>
  intro p m j g
  obtain⟨q,y,f,d,r,w⟩:=x (czp p ⟨o.dst,wzc ops o,id,.tup [],[],[]⟩) (fun t=>by
   rw[az33,fzj]
   by_cases e:o.dst=some t
   ·rw[if_pos e,if_pos e];exact ASub.refl _
   ·rw[if_neg e,if_neg e];exact m t) (by simp only[czp];cases o.dst<;>simp[St.putD,St.put,j]) (St.lt_mono (by omega) (Tzp g rfl o.dst))
  refine⟨by simp[q],fun k o' v=>?_,f,d,?_,?_⟩
  ·cases k with
   |zero=>
    simp at v;subst v
    exact⟨_,s,rfl,rfl,rfl,rfl,C,m,j,g,rfl,rfl,.inr ⟨B,rfl,rfl,rfl⟩⟩
   |succ k=>
    obtain⟨e,A,I,G⟩:=y k o' (by simpa using v)
    refine⟨e,A,by simpa using I,?_⟩
    rw[show i+(k+1)=i+1+k by omega,show id+64 * (k+1)=id+64+64 * k by omega]
    simpa[pre]using G
  ·rw[r];cases n:o.dst<;>simp[St.putD,St.put]
  ·rw[List.length_cons,show id+64 * (c.length+1)=id+64+64 * c.length by omega];exact w
theorem mz9 (n:Nat):∀ (tr:List Eff) (j:Nat) (p:St),fz6 (fun x=>decide (x<n)) j tr p=pre (tr.take (n-j)) p
 |[],j,p=>by simp[fz6,pre]
 |e::tr,j,p=>by
  simp only[fz6]
  by_cases h:j<n
  ·rw[if_pos (by simpa using h),mz9 n tr,show n-j=(n- (j+1))+1 by omega]
   simp[pre]
  ·rw[if_neg (by simpa using h),mz9 n tr,show n-j=0 by omega,show n- (j+1)=0 by omega]
   simp[pre]
theorem Izj {R:AVal->Prop}{L:Nat->Bool}{t:Nat}:∀ (tr:List Eff) (j:Nat) (s:St),R (s.get t)->(∀k e,tr[k]?=some e->L (j+k)=true->R e.val)->R ((fz6 L j tr s).get t)
 |[],j,s,h,_=>h
 |e::tr,j,s,h,a=>by
  refine Izj tr (j+1) _ ?_ (fun k b d c=>a (k+1) b (by simp_all) (by grind))
  split
  ·rw[fzj]
   split
   ·exact a 0 e (by simp) (by omega)
   omega
  omega
theorem yzu {R:Nat->Res->Prop}{L:Nat->Bool}:∀ (tr:List Eff) (j:Nat) (s:St),(∀i r,s.mem.get i=some r->R i r)->(∀k e,tr[k]?=some e->L (j+k)=true->∀i r,e.wr.get i=some r->R i r)->∀i r,(fz6 L j tr s).mem.get i=some r->R i r
 |[],j,s,h,_=>h
 |e::tr,j,s,h,b=>by
  refine yzu tr (j+1) _ ?_ (fun k f g l=>b (k+1) f (by simp_all) (by grind))
  split
  ·intro i r a
   simp only[czp,Mem.get_append]at a
   cases c:e.wr.get i with
   |none=>simp_all
   |some d=>rw[c]at a;simp at a;subst a;exact b 0 e (by simp) (by omega) i d c
  omega
mutual
theorem Vz3 {lo i:Nat}(hi:Own lo i):∀ {a:AVal},a.free lo=true->a.has i=false
 | .agg c,h=>by exact vzr hi h
 | .tup c,h=>by exact vzr hi h
 | .vec j,h=>by simp[AVal.free]at h;simp[AVal.has];have:=hi.1;have:=hi.2;omega
 | .ptr j _,h=>by simp[AVal.free]at h;simp[AVal.has];have:=hi.1;have:=hi.2;omega
 | .eptr j _ _ _,h=>by simp[AVal.free]at h;simp[AVal.has];have:=hi.1;have:=hi.2;omega
 | .map j,h=>by simp[AVal.free]at h;simp[AVal.has];have:=hi.1;have:=hi.2;omega
 | .bsl j _,h=>by simp[AVal.free]at h;simp[AVal.has];have:=hi.1;have:=hi.2;omega
 | .view j _ _ _,h=>by simp[AVal.free]at h;simp[AVal.has];have:=hi.1;have:=hi.2;omega
 | .iface _ a,h=>by simp only[AVal.has];exact Vz3 hi h
 | .func _ a b,h=>by
   simp only[AVal.free,Bool.and_eq_true]at h
   simp only[AVal.has,vzr hi h.1,vzr hi h.2,Bool.or_self]
 | .any,_=>rfl
 | .pure _,_=>rfl
 | .tt,_=>rfl
 | .ff,_=>rfl
 | .ref _,_=>rfl
 | .anyb,_=>rfl
 | .nilp,_=>rfl
 | .clip _,_=>rfl
 | .yld _,_=>rfl
theorem vzr {lo i:Nat}(hi:Own lo i):∀ {l:List AVal},AVal.freeL lo l=true->AVal.hasL i l=false
 |[],_=>rfl
 |a::l,h=>by
  simp only[AVal.freeL,Bool.and_eq_true]at h
  simp only[AVal.hasL,Vz3 hi h.1,vzr hi h.2,Bool.or_self]
end
theorem Pz3 {lo:Nat}:∀ {m:Mem},Pz2 lo m=true->∀ {i:Nat} {r:Res},m.get i=some r->¬Own lo i/\∀x,Own lo x->r.has x=false
 |[],_,i,r,h=>by simp[Mem.get]at h
 |(k,q)::m,b,i,r,h=>by
  simp only[Pz2,Bool.and_eq_true]at b
  simp only[Mem.get]at h
  split at h
  ·cases h
   refine⟨fun d=>?_,fun x a=>?_⟩
   ·have:=d.1;have:=d.2;simp at *;omega
   ·cases q with
    |box g=>exact vzr a b.1.2
    |vecX _ _ _ _ _ _ i=>have:=a.1;have:=a.2;simp[Res.free]at *;simp[Res.has];omega
    |vecU _ _ _ _ _ _ _ _ j=>
     have c:=b.1.2
     simp only[Res.free,List.all_eq_true,Bool.or_eq_true,decide_eq_true_eq]at c
     simp only[Res.has,List.any_eq_false,beq_iff_eq]
     exact fun y f e=>by have:=c y f;have:=a.1;have:=a.2;omega
    |_=>rfl
  ·exact Pz3 b.2 h
theorem MemOk.congr {F:Cells}{w:World}{ρ:Env}{Mine:Nat->Prop}{m c:Mem}(h:MemOk F w ρ Mine m)(j:∀i,c.get i=m.get i):MemOk F w ρ Mine c:=
 ⟨fun id r e=>h.ok id r (by simp_all),fun id r b e=>h.mine id r b (by simp_all),fun id a r d b g f=>h.disj id a r d b (by simp_all) (by simp_all)⟩
theorem Ez0 {c:List Nat}{b:Bool}{x:Eff}{i:Nat}:∀ {l:List Eff} {j:Nat},Hzb c b x i j l=true->∀k y,l[k]?=some y->(c.getD (j+k) 0).testBit i=true\/Xz3 b x y=true
 |[],j,_,k,y,h=>by grind
 |z::l,j,h,k,y,a=>by
  simp only[Hzb,Bool.and_eq_true,Bool.or_eq_true]at h
  cases k with
  |zero=>simp at a;subst a;simpa using h.1
  |succ k=>
   have:=Ez0 h.2 k y (by simpa using a)
   rwa[show j+(k+1)=j+1+k by omega]
theorem Bz3 {d:List Nat}{e:List Bool}:∀ {l:List Eff} {i:Nat},Pzd d e i l=true->∀a b x y,a<b->l[a]?=some x->l[b]?=some y->(d.getD (i+b) 0).testBit (i+a)=true\/Xz3 (e.getD (i+a) false) x y=true
 |[],i,_,a,b,x,y,_,h,_=>by grind
 |z::l,i,h,a,b,x,y,g,c,f=>by
  simp only[Pzd,Bool.and_eq_true]at h
  obtain⟨b,rfl⟩:∃j,b=j+1:=⟨b-1,by omega⟩
  cases a with
  |zero=>
   simp at c;subst c
   have:=Ez0 h.1 b y (by simpa using f)
   rwa[show i+(b+1)=i+1+b by omega]
  |succ a=>
   have:=Bz3 h.2 a b x y (by omega) (by simpa using c) (by simpa using f)
   rwa[show i+(b+1)=i+1+b by omega,show i+(a+1)=i+1+a by omega]
theorem Ezv {d:Option Nat}{l:List Nat}{t:Nat}(h:Xzi d l=true)(a:d=some t)(b:t∈l):False:=by
 grind[Xzi]
theorem Oz7 {a b:List Nat}{i:Nat}(h:disj a b=true)(c:i∈a)(d:i∈b):False:=by
 grind[disj]
theorem Lz5 {l:List Nat}:∀ {m:Mem},Nzi l m=true->∀ {i:Nat} {r:Res},i∈l->m.get i=some r->isV r=true
 |[],_,i,r,_,h=>by simp[Mem.get]at h
 |(k,q)::m,a,i,r,hi,h=>by
  simp only[Nzi,Bool.and_eq_true,Bool.or_eq_true,Bool.not_eq_true',List.contains_eq_mem,decide_eq_false_iff_not]at a
  simp only[Mem.get]at h
  split at h
  ·rename_i e;subst e;cases h
   rcases a.1 with b|b
   ·exact absurd hi b
   ·exact b
  ·exact Lz5 a.2 hi h
structure Apart (lx:Bool) (x y:Eff):Prop where
 xy:∀t,x.dst=some t->t∈y.uses->False
 yx:∀t,y.dst=some t->t∈x.uses->False
 dd:∀t,x.dst=some t->y.dst=some t->False
 wr:∀i,i∈ids x.wr->i∈y.rd->False
 rw:(∀i,i∈ids y.wr->i∈x.rd->False)\/(lx=true/\∀i r,i∈x.rd->y.wr.get i=some r->isV r=true)
 ww:∀i,i∈ids x.wr->i∈ids y.wr->False
 val:y.val.free x.id=true
 mem:Pz2 x.id y.wr=true
theorem Szx {d:Bool}{x y:Eff}(h:Xz3 d x y=true):Apart d x y:=by
 simp only[Xz3,Bool.and_eq_true,Bool.or_eq_true]at h
 obtain⟨⟨⟨⟨⟨⟨⟨k,g⟩,f⟩,m⟩,c⟩,e⟩,j⟩,l⟩:=h
 exact⟨fun t a b=>Ezv k a b,fun t a b=>Ezv g a b,fun t a b=>Ezv f a (by grind),fun i a b=>Oz7 m a b,c.imp (fun c i a b=>Oz7 c a b) (fun c=>⟨c.1,fun i r a b=>Lz5 c.2 a b⟩),fun i a b=>Oz7 e a b,j,l⟩
def slen:Option (Nat×Nat×Nat)->Nat
 |none=>0
 |some x=>x.2.1
theorem az1z {F:Cells}{w:World}{ρ:Env}{id n:Nat}{r:Res}(h:ResOk F w ρ id r)(d:vlen r=some n):slen (ρ.vec id)=n:=by
 cases r<;>simp only[vlen,Option.some.injEq,reduceCtorEq]at d
 ·subst d
  rw[h];rfl
 ·subst d
  obtain⟨_,⟨a,e⟩|⟨b,cap,c,a,_⟩⟩:=h
  ·rw[a,e];rfl
  ·rw[a];rfl
 ·subst d
  obtain⟨_,_,⟨a,e,_⟩|⟨b,cap,c,a,_⟩⟩:=h
  ·rw[a,e];rfl
  ·rw[a];rfl
theorem az9s {r:Res}(h:isV r=true):∃n,vlen r=some n:=by
 cases r<;>simp[isV]at h<;>exact⟨_,rfl⟩
theorem az5t {P:Program}{f:Array TypeId}{a:AVal}{m M:Mem}{out:Out}(h:az0m P f a m=some out)
 (d:∀x∈out.rd,∀n,(m.get x).bind vlen=some n->(M.get x).bind vlen=some n):az0m P f a M=some out:=by
 have b:∀ (id n:Nat),(M.get id).bind vlen=some n->(match M.get id with
  |some (.vec _ n _ _ _)=>some (⟨.pure (.int .i64 n),[id],[],none⟩:Out)
  |some (.vecU _ n _ _ _ _ _ _ _)=>some ⟨.pure (.int .i64 n),[id],[],none⟩
  |some .nilv=>some ⟨.pure (.int .i64 (0:Nat)),[id],[],none⟩
  |_=>none)=some ⟨.pure (.int .i64 n),[id],[],none⟩:=by
  intro id n e
  cases g:M.get id with
  |none=>simp_all
  |some r=>
   rw[g]at e
   cases r<;>simp[vlen]at e<;>subst e<;>rfl
 unfold az0m at h⊢
 split at h
 ·split at h
  ·exact h
  ·exact h
  ·rename_i j i id k
   cases c:m.get id with
   |none=>simp_all
   |some r=>
    rw[c]at h
    cases r<;>simp only[reduceCtorEq,Option.some.injEq]at h
    ·subst h
     exact b _ _ (d _ (by simp) 0 (by rw[c];rfl))
    ·subst h
     exact b _ _ (d _ (by simp) _ (by rw[c];rfl))
    ·subst h
     exact b _ _ (d _ (by simp) _ (by rw[c];rfl))
  all_goals omega
 omega
theorem azbf {P:Program}{hint:Nat->Option Hint}{i id:Nat}{o:Oper}{s:St}{M:Mem}{out:Out}{l:Bool}(e:xze o=true)(h:gzj P hint i o id s=some (out,l))
 (r:∀x∈out.rd,∀n,(s.mem.get x).bind vlen=some n->(M.get x).bind vlen=some n):gzj P hint i o id {s with mem:=M}=some (out,l):=by
 have q:bzt {s with mem:=M}=bzt s:=rfl
 have k:∀a f,kzf P hint i o id s=some (a,f)->(∀x∈a.rd,∀n,(s.mem.get x).bind vlen=some n->(M.get x).bind vlen=some n)->kzf P hint i o id {s with mem:=M}=some (a,f):=by
  intro a f b g
  unfold xze at e
  unfold kzf at b⊢
  split at e
  ·rename_i c d
   split at e
   ·rename_i p
    rw[d]at b⊢
    simp only[p,azdi,Bool.and_false,Bool.false_eq_true,if_false,Gzf,q]at b⊢
    split at b
    ·rename_i x t
     split at b
     ·exact b
     ·cases j:az0m P c.argTypes (bzt s x) s.mem with
      |none=>rw[j]at b;simp at b
      |some v=>
       rw[j]at b
       simp at b
       rw[az5t j (by rw[b.1];exact g)]
       simp[b.1,b.2]
    ·simp at b
   ·cases e
  ·cases e
 unfold gzj at h⊢
 split at h
 ·rename_i a f b
  split at h
  ·rename_i u d
   simp only[Option.some.injEq,Prod.mk.injEq]at h
   have m:a.rd=out.rd:=by
    rw[←h.1]
    unfold Ezt at d
    split at d
    ·cases d;rfl
    ·split at d
     ·cases d;rfl
     ·cases d;rfl
     ·cases d
    ·split at d
     ·cases d;rfl
     ·cases d
   rw[k _ _ b (by rw[m];exact r)]
   simp only[d,h.1,h.2]
  ·cases h
 ·cases h
theorem Sat.conv {X:Cx}{F:Cells}{w:World}{ρ:Env}{s b:St}{a:Act}(h:Sat X F w ρ s a)(e:∀t,ASub (s.get t) (b.get t))(c:∀i,b.mem.get i=s.mem.get i)(d:b.df=s.df):Sat X F w ρ b a:=
 ⟨h.size,fun t=>(e t).rel _ _ _ _ (h.fr t),h.mem.congr c,d▸h.df,h.good,h.from0,h.env0⟩
theorem Lz2:∀ {l:List Oper} {i:Nat},Ozb i l=true->∀j o,l[j]?=some o->∀e∈o.after,Region.binds .any e=true->e.on<i+j
 |[],i,_,j,o,h=>by grind
 |x::l,i,h,j,o,c=>by
  simp only[Ozb,Bool.and_eq_true,List.all_eq_true,Bool.or_eq_true,Bool.not_eq_true',decide_eq_true_eq]at h
  cases j with
  |zero=>
   grind
  |succ j=>
   intro e a b
   have:=Lz2 h.2 j o (by simp_all) e a b
   omega
def Szw (ops:List Oper)(L:Nat->Bool)(j:Nat):Prop:=∀o,ops[j]?=some o->∀e∈o.after,Region.binds .any e=true->L e.on=true
theorem Ozz {L:Nat->Bool}{b:List Nat}(a:∀j,L j=true->∀k,(b.getD j 0).testBit k=true->L k=true):
 ∀ (c:List Edge) (m:Nat),(∀e∈c,Region.binds .any e=true->L e.on=true)->(∀k,m.testBit k=true->L k=true)->
   ∀k,(c.foldl (fun s e=>if Region.binds .any e then s|||2 ^ e.on|||b.getD e.on 0 else s) m).testBit k=true->L k=true
 |[],m,_,d,k,h=>d k h
 |e::c,m,g,d,k,h=>by
  refine Ozz a c _ (fun i f=>g i (List.mem_cons_of_mem _ f)) (fun k' l=>?_) k h
  grind
theorem Tzg {ops:List Oper}{L:Nat->Bool}(g:∀j,L j=true->Szw ops L j):∀j,Szw ops L j->∀k,((azdw ops).getD j 0).testBit k=true->L k=true:=by
 have c:∀ (l:List Oper) (a:List Nat),(∀j,l[j]?=ops[a.length+j]?)->(∀j,Szw ops L j->∀k,(a.getD j 0).testBit k=true->L k=true)->
  ∀j,Szw ops L j->∀k,((l.foldl (fun a o=>a++[o.after.toList.foldl (fun s e=>if Region.binds .any e then s|||2 ^ e.on|||a.getD e.on 0 else s) 0]) a).getD j 0).testBit k=true->L k=true:=by
  intro l
  induction l with
  |nil=>simp_all
  |cons o l i=>
   intro a f h
   refine i _ (fun j=>?_) (fun j d k b=>?_)
   ·have:=f (j+1)
    grind
   ·rw[List.getD_eq_getElem?_getD,List.getElem?_append]at b
    split at b
    ·exact h j d k (by simp_all)
    ·by_cases e:j=a.length
     ·subst e
      simp only[Nat.sub_self,List.getElem?_cons_zero,Option.getD_some]at b
      have p:ops[a.length]?=some o:=by have:=f 0;simp_all
      exact Ozz (fun j m=>h j (g j m)) o.after.toList 0 (fun e q n=>d o p e (by simp_all) n) (by simp) k b
     grind
 exact c ops [] (by simp) (by simp)
theorem Xzz {F:Cells}{w:World}{ρ:Env}{s:St}{a:Act}{ops:List Oper}{o:Oper}(h:∀t∈Vz8 ops o,ARel F w ρ (s.get t) (a.tmps.getD t undef)):
 (dz4 ops s o=.run->Region.wanted o (yielded ops.toArray a.tmps)=true)/\(dz4 ops s o=.skip->Region.wanted o (yielded ops.toArray a.tmps)=false):=by
 have y:∀ {j t:Nat} {d:Oper} {b:Bool},ops[j]?=some d->d.dst=some t->a.tmps.getD t undef=.bool b->yielded ops.toArray a.tmps j=some b:=by
  intro j t d b k i m
  have g:a.tmps[t]?=some (.bool b):=by
   rw[Array.getD_eq_getD_getElem?]at m
   grind[undef]
  grind[yielded]
 cases u:o.guard with
 |none=>grind[Region.wanted,dz4]
 |some l=>
  obtain⟨j,e⟩:=l
  cases k:ops[j]? with
  |none=>grind[dz4]
  |some d=>
   cases i:d.dst with
   |none=>grind[dz4]
   |some t=>
    have c:=h t (by grind[Vz8])
    have q:∀b:Bool,a.tmps.getD t undef=.bool b->Region.wanted o (yielded ops.toArray a.tmps)=(b==e):=by
     grind[Region.wanted]
    cases f:s.get t with
    |tt=>
     rw[f]at c
     have x:a.tmps.getD t undef=.bool true:=by generalize a.tmps.getD t undef=v at c;cases c;rfl
     grind[dz4]
    |ff=>
     rw[f]at c
     have x:a.tmps.getD t undef=.bool false:=by generalize a.tmps.getD t undef=v at c;cases c;rfl
     grind[dz4]
    |pure p=>
     grind[dz4]
    |tup r=>
     constructor
     ·grind[dz4]
     ·cases r with
      |cons _ _=>grind[dz4]
      |nil=>
       rw[f]at c
       have g:a.tmps.getD t undef=.tuple #[]:=by
        generalize a.tmps.getD t undef=v at c
        cases c<;>grind
       rw[Array.getD_eq_getD_getElem?]at g
       grind[yielded,Region.wanted]
    |_=>constructor<;>intro n<;>simp[dz4,u,k,i,f]at n
theorem az5h {l:List Bool}{i n:Nat}(hi:l[i]?=some false)(h:l.count false=n+1):(l.set i true).count false=n:=by
 grind
theorem Tzh {m:Mem}{i:Nat}{r:Res}(h:m.get i=some r):i∈ids m:=List.mem_map.2 ⟨_,gzk h,rfl⟩
section
variable {P:Program} {X:Cx} {ops:List Oper} {hint:Nat->Option Hint} {Q:Exit->Act->World->Prop} {tr:List Eff} {s0:St} {id0:Nat}
def azgu (tr:List Eff)(s0:St)(L:Nat->Bool)(ρ:Env):Prop:=
 (∀x r n,s0.mem.get x=some r->vlen r=some n->slen (ρ.vec x)=n)/\
 ∀k a x r n,tr[k]?=some a->L k=true->a.wr.get x=some r->vlen r=some n->slen (ρ.vec x)=n
theorem az8p (hlen:tr.length=ops.length)
 (hat:∀k o,ops[k]?=some o->∃e s,tr[k]?=some e/\At P X.nt ops hint k o e (pre (tr.take k) s0) s (id0+64 * k))
 (hedge:Ozb 0 ops=true) (hpair:Pzd (azdw ops) (ops.map xze) 0 tr=true) (hlt:s0.lt id0=true) (hn0:X.n0≤id0)
 (fin:∀F w ρ a,Sat X F w ρ (pre tr s0) a->Q .normal a w):
 ∀ (fuel:Nat) (b:Array Bool) (F:Cells) (w:World) (ρ:Env) (a:Act),b.size=ops.length->b.toList.count false=fuel->
   (∀j,b.getD j false=true->Szw ops (fun j=>b.getD j false) j)->Sat X F w ρ (fz6 (fun j=>b.getD j false) 0 tr s0) a->azgu tr s0 (fun j=>b.getD j false) ρ->wpAnyIn Fence.wide 0 P .any ops.toArray Q fuel b a w:=by
 intro fuel
 have done:∀ (b:Array Bool) (F:Cells) (w:World) (ρ:Env) (a:Act),(∀j,j<ops.length->b.getD j false=true)->Sat X F w ρ (fz6 (fun j=>b.getD j false) 0 tr s0) a->Q .normal a w:=by
  intro b F w ρ a hall hs
  refine fin F w ρ a (hs.conv (fun t=>?_) (fun i=>?_) ?_)
  ·have e:(fz6 (fun j=>b.getD j false) 0 tr s0).get t=(pre tr s0).get t:=by
    rw[ize (L':=fun x=>decide (x<tr.length)) tr 0 s0 s0 rfl,mz9,Nat.sub_zero,List.take_length]
    grind
   grind[ASub.refl]
  ·rw[mz8 (L':=fun x=>decide (x<tr.length)) tr 0 s0 s0 rfl,mz9,Nat.sub_zero,List.take_length]
   grind
  ·have:=mz9 tr.length tr 0 s0
   grind[Nzm]
 have ready_nil:∀ (b:Array Bool),b.size=ops.length->Region.ready .any ops.toArray b=[]->∀j,j<ops.length->b.getD j false=true:=by
  intro b hsz hr j
  induction j using Nat.strongRecOn with
  |_ j ih=>
   intro hj
   have hjl:j<b.size:=by omega
   have hgd:b.getD j true=b.getD j false:=by
    simp_all
   cases m:b.getD j false with
   |true=>rfl
   |false=>
    have:j∈Region.ready .any ops.toArray b:=by
     refine mem_ready.2 ⟨by simp_all,ops[j],by simp,fun e he hb=>?_⟩
     have:=Lz2 hedge j ops[j] (by simp) e he hb
     grind
    simp_all
 induction fuel with
 |zero=>
  intro b F w ρ a hsz hcnt hcl hs _
  have hall:∀j,j<ops.length->b.getD j false=true:=by
   intro j hj
   have hjl:j<b.size:=by omega
   rw[Array.getD_eq_getD_getElem?,Array.getElem?_eq_getElem hjl,Option.getD_some]
   grind[List.count_pos_iff]
  refine⟨?_,done b F w ρ a hall hs⟩
  simp_all[Region.ready]
 |succ fuel ih=>
  intro b F w ρ a hsz hcnt hcl hs hln
  refine⟨fun hr=>done b F w ρ a (ready_nil b hsz hr) hs,fun i hi=>?_⟩
  obtain⟨hli,o,ho,hed⟩:=mem_ready.1 hi
  have ho':ops[i]?=some o:=by simp_all
  have hil:i<ops.length:=(List.getElem?_eq_some_iff.1 ho').1
  have hils:i<b.size:=by omega
  have hLi:b.getD i false=false:=by
   simp_all
  obtain⟨e,s,he,hA⟩:=hat i o ho'
  have hcli:Szw ops (fun j=>b.getD j false) i:=fun o2 h2 e2 he2 hb=>by simp_all
  have z:∀k l,k<i->tr[k]?=some l->b.getD k false=true\/Apart ((ops.map xze).getD k false) l e:=by
   intro k l u hek
   rcases Bz3 hpair k i l e u hek he with h|h
   all_goals grind[Tzg,Szx]
  have c:∀k l,i<k->tr[k]?=some l->b.getD k false=true->Apart (xze o) e l:=by
   intro k l u hek p
   rcases Bz3 hpair i k e l u he hek with h|h
   all_goals grind[Tzg,Szx]
  have hget:∀t∈e.uses,(fz6 (fun j=>b.getD j false) 0 tr s0).get t=(pre (tr.take i) s0).get t:=by
   intro t ht
   rw[ize (L':=fun x=>decide (x<i)) tr 0 s0 s0 rfl,mz9,Nat.sub_zero]
   intro k l u hd
   rw[Nat.zero_add]
   rcases Nat.lt_trichotomy k i with h|h|h
   ·rcases z k l h u with A|A
    ·simp_all
    ·exact(A.xy t hd ht).elim
   ·simp_all
   ·cases p:b.getD k false with
    |false=>grind
    |true=>exact((c k l h u p).yx t hd ht).elim
  have hmem:∀x∈e.rd,(fz6 (fun j=>b.getD j false) 0 tr s0).mem.get x=(pre (tr.take i) s0).mem.get x\/(xze o=true/\∃r,(fz6 (fun j=>b.getD j false) 0 tr s0).mem.get x=some r/\isV r=true):=by
   intro x m
   have hw:∀k l,tr[k]?=some l->x∈ids l.wr->k<i->b.getD k false=true:=by
    intro k l u hd h
    rcases z k l h u with A|A
    ·omega
    ·exact(A.wr x hd m).elim
   have:=Izl (L:=fun j=>b.getD j false) (x:=x) (i:=i) (R:=fun r=>xze o=true/\isV r=true) tr 0 s0 s0 (.inl rfl) (fun k l u hd h=>by simp_all) (fun k l u h p r hr=>by
    rw[Nat.zero_add]at h p
    rcases Nat.lt_or_eq_of_le h with h|h
    ·rcases(c k l h u p).rw with A|⟨A,h2⟩
     all_goals grind[Tzh]
    ·subst h;rw[hLi]at p;cases p)
   rw[mz9,Nat.sub_zero]at this
   rcases this with h|⟨r,A,h2,h3⟩
   ·exact .inl h
   ·exact .inr ⟨h2,r,A,h3⟩
  have hpre:∀x∈e.rd,∀r n,(pre (tr.take i) s0).mem.get x=some r->vlen r=some n->slen (ρ.vec x)=n:=by
   intro x m r n hr hn
   have:=yzu (R:=fun j r=>j=x->∀n,vlen r=some n->slen (ρ.vec x)=n) (L:=fun y=>decide (y<i)) tr 0 s0 (fun j r hj e n hn=>by subst e;exact hln.1 j r n hj hn) (fun k l u p j r hj e n hn=>by
    subst e
    rw[Nat.zero_add]at p
    have h:k<i:=by simpa using p
    rcases z k l h u with A|A
    ·exact hln.2 k l j r n u A hj hn
    ·exact(A.wr j (Tzh hj) m).elim)
   rw[mz9,Nat.sub_zero]at this
   exact this x r hr rfl n hn
  have hlt':=hlt
  simp only[St.lt,Bool.and_eq_true]at hlt'
  have hvfree:∀t x,Own e.id x->((fz6 (fun j=>b.getD j false) 0 tr s0).get t).has x=false:=by
   intro t x m
   rw[hA.eid]at m
   refine Izj (R:=fun v=>v.has x=false) tr 0 s0 (Lz7 (by have:=m.1;omega) (Gzk hlt'.1.1 t)) (fun k l u p=>?_)
   rw[Nat.zero_add]at p
   rcases Nat.lt_trichotomy k i with h|h|h
   ·obtain⟨ok,hok⟩:∃ok,ops[k]?=some ok:=⟨ops[k],by simp⟩
    obtain⟨ek',sk,hk',hAk⟩:=hat k ok hok
    rw[u]at hk';cases hk'
    exact Lz7 (by have:=m.1;omega) hAk.vlt
   ·subst h;rw[hLi]at p;cases p
   ·exact Vz3 (by rw[hA.eid];exact m) (c k l h u p).val
  have hwfree:∀k l,tr[k]?=some l->b.getD k false=true->∀j r,l.wr.get j=some r->¬Own e.id j/\∀x,Own e.id x->r.has x=false:=by
   intro k l u p j r hr
   rcases Nat.lt_trichotomy k i with h|h|h
   ·obtain⟨ok,hok⟩:∃ok,ops[k]?=some ok:=⟨ops[k],by simp⟩
    obtain⟨ek',sk,hk',hAk⟩:=hat k ok hok
    rw[u]at hk';cases hk'
    have:=gz7 hAk.wlt hr
    refine⟨fun m=>?_,fun x m=>wz1 (by rw[hA.eid]at m;have:=m.1;omega) this.2⟩
    rw[hA.eid]at m;have:=m.1;omega
   ·subst h;rw[hLi]at p;cases p
   ·exact Pz3 (c k l h u p).mem hr
  have hsfree:∀j r,s0.mem.get j=some r->¬Own e.id j/\∀x,Own e.id x->r.has x=false:=by
   intro j r hr
   have:=gz7 hlt'.1.2 hr
   refine⟨fun m=>?_,fun x m=>wz1 (by rw[hA.eid]at m;have:=m.1;omega) this.2⟩
   rw[hA.eid]at m;have:=m.1;omega
  have hmfree:∀j r,(fz6 (fun j=>b.getD j false) 0 tr s0).mem.get j=some r->¬Own e.id j/\∀x,Own e.id x->r.has x=false:=
   yzu (R:=fun j r=>¬Own e.id j/\∀x,Own e.id x->r.has x=false) tr 0 s0 hsfree (fun k l u p j r hr=>by rw[Nat.zero_add]at p;exact hwfree k l u p j r hr)
  have hfr:Fresh e.id (fz6 (fun j=>b.getD j false) 0 tr s0).mem:=by
   refine⟨fun x m=>?_,fun x j r m hj=>(hmfree j r hj).2 x m⟩
   cases hg:(fz6 (fun j=>b.getD j false) 0 tr s0).mem.get x with
   |none=>rfl
   |some r=>exact absurd m (hmfree x r hg).1
  have hrel:∀t∈e.uses,ARel F w ρ (s.get t) (a.tmps.getD t undef):=fun t ht=>(hA.get t).rel _ _ _ _ (hget t ht▸hs.fr t)
  have hL':(fun j=>(b.setIfInBounds i true).getD j false)=fun x=>if x=i then true else b.getD x false:=by
   funext x
   by_cases h:x=i
   ·subst h;simp[hils]
   ·rw[if_neg h];exact getD_set_ne false (Ne.symm h)
  have next:∀ (F':Cells) (w':World) (ρ':Env) (v:Value),Step X.Mine F w F' w'->dz3 e.id ρ ρ'->ARel F' w' ρ' e.val v->MemOk F' w' ρ' X.Mine (e.wr++(fz6 (fun j=>b.getD j false) 0 tr s0).mem)->
   wpAnyIn Fence.wide 0 P .any ops.toArray Q fuel (b.setIfInBounds i true) (a.put o.dst v) w':=by
   intro F' w' ρ' v st hen hv hm
   have hget':∀t,(fz6 (fun x=>if x=i then true else b.getD x false) 0 tr s0).get t=if e.dst=some t then e.val else(fz6 (fun j=>b.getD j false) 0 tr s0).get t:=fun t=>
    Izi (L:=fun j=>b.getD j false) tr 0 s0 s0 e (by omega) (by simpa using he) hLi rfl (fun k l u hlt p A h2=>by
     rw[Nat.zero_add]at hlt p
     exact(c k l hlt u p).dd t h2 A)
   have hmem':∀x,(fz6 (fun x=>if x=i then true else b.getD x false) 0 tr s0).mem.get x=(e.wr.get x).or ((fz6 (fun j=>b.getD j false) 0 tr s0).mem.get x):=fun x=>
    Izk (L:=fun j=>b.getD j false) tr 0 s0 s0 e (by omega) (by simpa using he) hLi rfl (fun k l u hlt p A h2=>by
     rw[Nat.zero_add]at hlt p
     exact(c k l hlt u p).ww x h2 A)
   refine ih (b.setIfInBounds i true) F' w' ρ' _ (by simpa using hsz) ?_ (fun j hj=>?_) ?_ ?_
   ·rw[Array.toList_setIfInBounds]
    refine az5h ?_ hcnt
    rw[Array.getElem?_toList,Array.getElem?_eq_getElem hils]
    rw[Array.getD_eq_getD_getElem?,Array.getElem?_eq_getElem hils]at hLi
    simpa using hLi
   ·intro o2 h2 e2 he2 hb
    simp only
    by_cases hji:j=i
    ·subst hji;exact getD_set_true (hcli o2 h2 e2 he2 hb)
    ·rw[getD_set_ne false (Ne.symm hji)]at hj
     exact getD_set_true (hcl j hj o2 h2 e2 he2 hb)
   ·rw[hL']
    have hold:∀t,ARel F' w' ρ' ((fz6 (fun j=>b.getD j false) 0 tr s0).get t) (a.tmps.getD t undef):=fun t=>
     (hs.fr t).mono (fun i=>¬Own e.id i) st.sub st.cell hen (fun x m=>hvfree t x (Classical.not_not.1 m))
    refine⟨?_,fun t=>?_,hm.congr (fun x=>by rw[hmem',Mem.get_append]),?_,st.good hs.good,hs.from0.trans st,fun x m=>?_⟩
    ·cases hdst:o.dst with
     |none=>exact hs.size
     |some d=>simpa[Act.put]using hs.size
    ·rw[hget',hA.dst]
     cases hdst:o.dst with
     |none=>simpa[Act.put]using hold t
     |some d=>
      have hds:d<a.tmps.size:=by rw[hs.size];have:=hA.ok;rw[hdst]at this;simpa[oz1]using this
      rw[Vz4 a d v t hds]
      by_cases hdt:d=t
      ·subst hdt;simpa using hv
      ·simpa[hdt]using hold t
    ·have:(a.put o.dst v).defers=a.defers:=by cases o.dst<;>rfl
     rw[this]
     have h0:=hs.df
     rw[Nzm]at h0⊢
     exact Izw (fun i=>¬Own e.id i) st.sub st.cell hen h0 (fun x m=>xzi (by have:=(Classical.not_not.1 m).1;rw[hA.eid]at this;omega) hlt'.2)
    ·have A:=hen x (fun hx'=>by have:=hx'.1;rw[hA.eid]at this;omega)
     have h2:=hs.env0 x m
     exact⟨A.1.trans h2.1,A.2.trans h2.2⟩
   ·refine⟨fun x r n hr hn=>?_,fun k l x r n u p hr hn=>?_⟩
    ·rw[(hen x (hsfree x r hr).1).2];exact hln.1 x r n hr hn
    ·simp only at p
     by_cases hki:k=i
     ·subst hki
      rw[he]at u;cases u
      exact az1z (hm.ok x r (by rw[Mem.get_append,hr];rfl)) hn
     ·rw[getD_set_ne false (Ne.symm hki)]at p
      rw[(hen x (hwfree k l u p x r hr).1).2];exact hln.2 k l x r n u p hr hn
  have hgw:=Xzz (F:=F) (w:=w) (ρ:=ρ) (s:=s) (a:=a) (ops:=ops) (o:=o) (fun t ht=>hrel t (by rw[hA.uses];exact List.mem_append_right _ ht))
  unfold wpOpIn
  simp only[ho]
  rcases hA.does with⟨hg,out,fl,hst,hob,e1,e2,e3⟩|⟨hg,e1,e2,e3⟩
  ·rw[if_pos (hgw.1 hg)]
   obtain⟨s1,hst1,hrd1,hfr1⟩:∃s1,gzj P hint i o (id0+64 * i) s1=some (out,fl)/\(∀x∈out.rd,(fz6 (fun j=>b.getD j false) 0 tr s0).mem.get x=s1.mem.get x)/\bzt s1=bzt s:=by
    cases hlo:xze o with
    |true=>
     refine⟨{s with mem:=(fz6 (fun j=>b.getD j false) 0 tr s0).mem},azbf hlo hst (fun x m n hn=>?_),fun _ _=>rfl,rfl⟩
     rcases hmem x (e2▸m)with h|⟨_,r,A,h2⟩
     ·rw[h,←hA.mem];exact hn
     ·obtain⟨n',hn'⟩:=az9s h2
      rw[hA.mem]at hn
      obtain⟨r0,hr0,hn0'⟩:=Option.bind_eq_some_iff.1 hn
      have q1:=hpre x (e2▸m) r0 n hr0 hn0'
      have q2:=az1z (hs.mem.ok x r A) hn'
      rw[A,Option.bind_some,hn',←q2,q1]
    |false=>
     refine⟨s,hst,fun x m=>?_,rfl⟩
     rcases hmem x (e2▸m)with h|⟨h,_⟩
     ·rw[h,hA.mem]
     ·rw[hlo]at h;cases h
   have hsnd:=Lzx hst1 hob F w ρ X.Mine (fz6 (fun j=>b.getD j false) 0 tr s0).mem a hs.mem hs.good (hA.eid▸hfr) hrd1
    (fun x _ i hi=>by rw[hfr1];exact Lz7 hi.1 (az5p hA.lt x)) (fun x m=>by
     rw[hfr1]
     cases x with
     |tmp t=>exact hrel t (by rw[hA.uses];exact List.mem_append_left _ (List.mem_filterMap.2 ⟨.tmp t,by simpa using m,rfl⟩))
     |const v=>exact Jz7 v
     |global g=>exact Gzg hs (.global g)
     |func f=>exact .func rfl (by simp) rfl (by simp))
   refine hsnd _ _ ?_
   rintro v w' ⟨F',ρ',st,hen,hv,hm⟩
   exact next F' w' ρ' v st (hA.eid▸hen) (e1▸hv) (e3▸hm)
  ·rw[if_neg (by rw[hgw.2 hg];simp)]
   refine⟨fun _ _=>trivial,?_⟩
   exact next F w ρ undef (Step.refl hs.good) (fun i _=>⟨rfl,rfl⟩) (by rw[e1];exact .tup rfl (by simp)) (by rw[e3];exact hs.mem)
end
theorem az3r {P:Program}(z:P.follows .mixedOrders=true):fzw P az5k:=by
 intro X ops hint K Q id s F w ρ a D h f p c E
 obtain⟨tr,G,N,u,H⟩:=az17 ops 0 id s [] h
 obtain⟨m,M,e,y,J,g⟩:=aze1 N s (fun t=>ASub.refl _) rfl f
 simp only[az5k,Bool.and_eq_true]at u
 refine wpIn_wide.1 (wpIn_region_any (n:=0) z ?_)
 have q:Sat X F {w with drawn:=w.drawn+1} ρ s a:=by
  have d:Step X.Mine F w F {w with drawn:=w.drawn+1}:=⟨fun _ _ h=>h,fun _ _ _=>rfl,fun _ _ h=>.inl h,c.good.lt,⟨rfl,rfl,rfl,Nat.le_refl _,fun _ _ _=>rfl⟩⟩
  refine⟨c.size,fun t=>(c.fr t).mono' d.sub d.cell,?_,Izw (fun _=>True) d.sub d.cell (fun _ _=>⟨rfl,rfl⟩) c.df (fun _ h=>absurd trivial h),d.good c.good,c.from0.trans d,c.env0⟩
  have:=c.mem.step d (fun _=>True) (fun _ _=>⟨rfl,rfl⟩) [] (fun j r _ _=>⟨trivial,fun _ h=>absurd trivial h,fun b _=>⟨rfl,fun _ h=>h⟩⟩) (by simp[Mem.get]) (by simp[Mem.get])
  simp_all
 refine az8p (hint:=hint) (tr:=tr) (s0:=s) (id0:=id) m (fun k o S=>by simp_all) u.1 u.2 f p (fun F' O ρ' B l=>?_) _ _ F _ ρ a (by simp) ?_ (fun j I=>?_) ?_ ⟨fun x r n C L=>az1z (q.mem.ok x r C) L,fun k R x r n _ A=>?_⟩
 ·refine E G tr F' O ρ' B H g (l.conv e (fun i=>by grind) ?_)
  have:=mz9 tr.length tr 0 s
  grind[Nzm]
 ·simp
 ·simp only[Array.getD_eq_getD_getElem?,Array.getElem?_replicate]at I
  grind
 ·have:(fun j=>(Array.replicate ops.toArray.size false).getD j false)=fun _=>false:=by
   simp only[Array.getD_eq_getD_getElem?,Array.getElem?_replicate]
   grind
  have v:∀ (tr:List Eff) (j:Nat) (s:St),fz6 (fun _=>false) j tr s=s:=by
   intro tr
   induction tr<;>grind[fz6]
  simp_all
 ·simp only[Array.getD_eq_getD_getElem?,Array.getElem?_replicate]at A
  grind
end Go.Abs
