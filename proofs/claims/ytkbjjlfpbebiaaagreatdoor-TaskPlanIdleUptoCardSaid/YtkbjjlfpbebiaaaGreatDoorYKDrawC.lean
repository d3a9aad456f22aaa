/-
  DrawC (a part of a claim: our own text).
-/
import Derived.Test.YtkbjjlfpbebiaaaGreatDoorYKFunc
namespace Go.Abs
def Tzw (ops:List Oper):List Nat:=
 ops.foldl (fun acc o=>acc++[o.after.toList.foldl (fun s e=>if Region.binds .any e then s|||2 ^ e.on|||acc.getD e.on 0 else s) 0]) []
mutual
def AVal.free (lo:Nat):AVal->Bool
 | .agg cs| .tup cs=>AVal.freeL lo cs
 | .iface _ a=>AVal.free lo a
 | .vec i| .ptr i _| .eptr i _ _ _| .map i| .bsl i _| .view i _ _ _=>decide (i<lo)||decide (lo+64≤i)
 | .func _ a b=>AVal.freeL lo a&&AVal.freeL lo b
 | .any| .pure _| .tt| .ff| .ref _| .anyb| .yld _| .clip _| .nilp=>true
def AVal.freeL (lo:Nat):List AVal->Bool
 |[]=>true
 |a::l=>AVal.free lo a&&AVal.freeL lo l
end
def Res.free (lo:Nat):Res->Bool
 | .box cs=>AVal.freeL lo cs
 | .vecX _ _ _ _ _ _ i=>decide (i<lo)||decide (lo+64≤i)
 | .vecU _ _ _ _ _ _ _ _ hs=>hs.all fun x=>decide (x.2<lo)||decide (lo+64≤x.2)
 |_=>true
def Bzs (lo:Nat):Mem->Bool
 |[]=>true
 |(i,r)::m=>(decide (i<lo)||decide (lo+64≤i))&&Res.free lo r&&Bzs lo m
def ids (m:Mem):List Nat:=m.map (·.1)
def disj (a b:List Nat):Bool:=a.all fun x=> !b.contains x
def Izq (d:Option Nat)(l:List Nat):Bool:=
 match d with
 |none=>true
 |some t=> !l.contains t
def lzb (o:Oper):Bool:=
 match o.op with
 | .call c=>match c.callee with
   | .builtin .len=>true
   |_=>false
 |_=>false
def vlen:Res->Option Nat
 | .vec _ n _ _ _=>some n
 | .vecU _ n _ _ _ _ _ _ _=>some n
 | .nilv=>some 0
 |_=>none
def isV:Res->Bool
 | .vec _ _ _ _ _=>true
 | .vecU _ _ _ _ _ _ _ _ _=>true
 | .nilv=>true
 |_=>false
def Az6 (l:List Nat):Mem->Bool
 |[]=>true
 |(i,r)::m=>(!l.contains i||isV r)&&Az6 l m
def Izi (lx:Bool)(x y:Eff):Bool:=
 Izq x.dst y.uses&&Izq y.dst x.uses&&Izq x.dst y.dst.toList&&
 disj (ids x.wr) y.rd&&(disj (ids y.wr) x.rd||(lx&&Az6 x.rd y.wr))&&disj (ids x.wr) (ids y.wr)&&
 AVal.free x.id y.val&&Bzs x.id y.wr
def uzs (ms:List Nat)(lx:Bool)(x:Eff)(i:Nat):Nat->List Eff->Bool
 |_,[]=>true
 |j,y::l=>((ms.getD j 0).testBit i||Izi lx x y)&&uzs ms lx x i (j+1) l
def Cz1 (ms:List Nat)(ls:List Bool):Nat->List Eff->Bool
 |_,[]=>true
 |i,x::l=>uzs ms (ls.getD i false) x i (i+1) l&&Cz1 ms ls (i+1) l
def Bz2:Nat->List Oper->Bool
 |_,[]=>true
 |i,o::l=>o.after.toList.all (fun e=> !Region.binds .any e||decide (e.on<i))&&Bz2 (i+1) l
def Tze (ops:List Oper)(tr:List Eff):Bool:=Bz2 0 ops&&Cz1 (Tzw ops) (ops.map lzb) 0 tr
def czh (s:St)(e:Eff):St:={(s.putD e.dst e.val)with mem:=e.wr++s.mem}
def dzn (L:Nat->Bool):Nat->List Eff->St->St
 |_,[],s=>s
 |j,e::tr,s=>dzn L (j+1) tr (if L j then czh s e else s)
theorem dzt (s:St)(e:Eff)(t:Nat):(czh s e).get t=if e.dst=some t then e.val else s.get t:=by
 cases h:e.dst with
 |none=>simp[czh,St.putD,h,St.get]
 |some d=>
  simp only[czh,St.putD,h,St.put,St.get,lz8]
  by_cases e:d=t<;>simp[e]
theorem Kzn (s:St)(e:Eff):(czh s e).df=s.df:=by
 cases h:e.dst<;>simp[czh,St.putD,h,St.put]
theorem vzh (L:Nat->Bool):∀ (tr:List Eff) (j:Nat) (s:St),(dzn L j tr s).df=s.df
 |[],j,s=>rfl
 |e::tr,j,s=>by
  simp only[dzn]
  rw[vzh L tr]
  split
  ·exact Kzn s e
  ·rfl
theorem fzy {L L':Nat->Bool}{t:Nat}:∀ (tr:List Eff) (j:Nat) (s s':St),s.get t=s'.get t->(∀k e,tr[k]?=some e->e.dst=some t->L (j+k)=L' (j+k))->(dzn L j tr s).get t=(dzn L' j tr s').get t
 |[],j,s,s',h,_=>h
 |e::tr,j,s,s',h,hL=>by
  simp only[dzn]
  refine fzy tr (j+1) _ _ ?_ (fun k e' he hd=>by have:=hL (k+1) e' (by simpa using he) hd;simpa[Nat.add_assoc,Nat.add_comm 1 k]using this)
  by_cases hd:e.dst=some t
  ·have:=hL 0 e (by simp) hd
   rw[Nat.add_zero]at this
   rw[this]
   split
   ·rw[dzt,dzt,if_pos hd,if_pos hd]
   ·exact h
  ·have e1:∀ (b:Bool) (s:St),(if b then czh s e else s).get t=s.get t:=by
    intro b s
    cases b
    ·rfl
    ·simp only[if_true];rw[dzt,if_neg hd]
   rw[e1,e1];exact h
theorem ize {L L':Nat->Bool}{i:Nat}:∀ (tr:List Eff) (j:Nat) (s s':St),s.mem.get i=s'.mem.get i->(∀k e,tr[k]?=some e->i∈ids e.wr->L (j+k)=L' (j+k))->(dzn L j tr s).mem.get i=(dzn L' j tr s').mem.get i
 |[],j,s,s',h,_=>h
 |e::tr,j,s,s',h,hL=>by
  simp only[dzn]
  refine ize tr (j+1) _ _ ?_ (fun k e' he hd=>by have:=hL (k+1) e' (by simpa using he) hd;simpa[Nat.add_assoc,Nat.add_comm 1 k]using this)
  by_cases hd:i∈ids e.wr
  ·have:=hL 0 e (by simp) hd
   rw[Nat.add_zero]at this
   rw[this]
   split
   ·simp only[czh,Mem.get_append,h]
   ·exact h
  ·have hn:e.wr.get i=none:=by
    cases hg:e.wr.get i with
    |none=>rfl
    |some r=>exact absurd (List.mem_map.2 ⟨_,fz4 hg,rfl⟩) hd
   have e1:∀ (b:Bool) (s:St),(if b then czh s e else s).mem.get i=s.mem.get i:=by
    intro b s
    cases b
    ·rfl
    ·simp only[if_true,czh,Mem.get_append,hn,Option.none_or]
   rw[e1,e1];exact h
theorem vzi {L:Nat->Bool}{t n:Nat}:∀ (tr:List Eff) (j:Nat) (s s':St) (en:Eff),j≤n->tr[n-j]?=some en->L n=false->s.get t=s'.get t->
 (∀k e,tr[k]?=some e->n<j+k->L (j+k)=true->e.dst=some t->en.dst=some t->False)->
 (dzn (fun x=>if x=n then true else L x) j tr s).get t=if en.dst=some t then en.val else(dzn L j tr s').get t
 |[],j,s,s',en,_,h,_,_,_=>by simp at h
 |e::tr,j,s,s',en,hj,hn,hL,hs,hno=>by
  simp only[dzn]
  by_cases he:j=n
  ·subst he
   simp only[Nat.sub_self,List.getElem?_cons_zero,Option.some.injEq]at hn
   subst hn
   simp only[if_true,hL,Bool.false_eq_true,if_false]
   by_cases hd:e.dst=some t
   ·rw[if_pos hd]
    have key:=fzy (L:=fun x=>if x=j then true else L x) (L':=fun _=>false) (t:=t) tr (j+1) (czh s e) (czh s e) rfl (fun k e' he' hd'=>by
     have hne:¬j+1+k=j:=by omega
     simp only[if_neg hne]
     cases hLk:L (j+1+k)with
     |false=>rfl
     |true=>exact(hno (k+1) e' (by simpa using he') (by omega) (by rw[←hLk];congr 1;omega) hd' hd).elim)
    rw[key]
    have none:∀ (tr:List Eff) (j:Nat) (s:St),dzn (fun _=>false) j tr s=s:=by
     intro tr
     induction tr with
     |nil=>intros;rfl
     |cons e tr ih=>intro j s;simp only[dzn];exact ih _ _
    rw[none,dzt,if_pos hd]
   ·rw[if_neg hd]
    refine fzy tr (j+1) _ _ (by rw[dzt,if_neg hd];exact hs) (fun k e' _ _=>by rw[if_neg (by omega)])
  ·have hlt:j<n:=by omega
   simp only[if_neg he]
   have hn':tr[n- (j+1)]?=some en:=by
    rw[show n-j=(n- (j+1))+1 by omega]at hn
    simpa using hn
   refine vzi tr (j+1) _ _ en (by omega) hn' hL ?_ (fun k e' he' hlt' hLk h1 h2=>hno (k+1) e' (by simpa using he') (by omega) (by rw[←hLk];congr 1;omega) h1 h2)
   split
   ·rw[dzt,dzt,hs]
   ·exact hs
theorem vzk {L:Nat->Bool}{i n:Nat}:∀ (tr:List Eff) (j:Nat) (s s':St) (en:Eff),j≤n->tr[n-j]?=some en->L n=false->s.mem.get i=s'.mem.get i->
 (∀k e,tr[k]?=some e->n<j+k->L (j+k)=true->i∈ids e.wr->i∈ids en.wr->False)->
 (dzn (fun x=>if x=n then true else L x) j tr s).mem.get i=(en.wr.get i).or ((dzn L j tr s').mem.get i)
 |[],j,s,s',en,_,h,_,_,_=>by simp at h
 |e::tr,j,s,s',en,hj,hn,hL,hs,hno=>by
  simp only[dzn]
  by_cases he:j=n
  ·subst he
   simp only[Nat.sub_self,List.getElem?_cons_zero,Option.some.injEq]at hn
   subst hn
   simp only[if_true,hL,Bool.false_eq_true,if_false]
   by_cases hd:i∈ids e.wr
   ·have key:=ize (L:=fun x=>if x=j then true else L x) (L':=fun _=>false) (i:=i) tr (j+1) (czh s e) (czh s e) rfl (fun k e' he' hd'=>by
     have hne:¬j+1+k=j:=by omega
     simp only[if_neg hne]
     cases hLk:L (j+1+k)with
     |false=>rfl
     |true=>exact(hno (k+1) e' (by simpa using he') (by omega) (by rw[←hLk];congr 1;omega) hd' hd).elim)
    rw[key]
    have none:∀ (tr:List Eff) (j:Nat) (s:St),dzn (fun _=>false) j tr s=s:=by
     intro tr
     induction tr with
     |nil=>intros;rfl
     |cons e tr ih=>intro j s;simp only[dzn];exact ih _ _
    rw[none]
    obtain⟨x,hx,rfl⟩:=List.mem_map.1 hd
    obtain⟨r,hr⟩:=Gzw (m:=e.wr) ⟨x,hx,rfl⟩
    simp only[czh,Mem.get_append,hr,Option.some_or]
   ·have hnn:e.wr.get i=none:=by
     cases hg:e.wr.get i with
     |none=>rfl
     |some r=>exact absurd (List.mem_map.2 ⟨_,fz4 hg,rfl⟩) hd
    rw[hnn,Option.none_or]
    refine ize tr (j+1) _ _ (by simp only[czh,Mem.get_append,hnn,Option.none_or];exact hs) (fun k e' _ _=>by rw[if_neg (by omega)])
  ·simp only[if_neg he]
   have hn':tr[n- (j+1)]?=some en:=by
    rw[show n-j=(n- (j+1))+1 by omega]at hn
    simpa using hn
   refine vzk tr (j+1) _ _ en (by omega) hn' hL ?_ (fun k e' he' hlt' hLk h1 h2=>hno (k+1) e' (by simpa using he') (by omega) (by rw[←hLk];congr 1;omega) h1 h2)
   split
   ·simp only[czh,Mem.get_append,hs]
   ·exact hs
theorem vzl {L:Nat->Bool}{x i:Nat}{R:Res->Prop}:∀ (tr:List Eff) (j:Nat) (s s':St),(s.mem.get x=s'.mem.get x\/(i≤j/\∃r,s.mem.get x=some r/\R r))->
 (∀k e,tr[k]?=some e->x∈ids e.wr->j+k<i->L (j+k)=true)->
 (∀k e,tr[k]?=some e->i≤j+k->L (j+k)=true->∀r,e.wr.get x=some r->R r)->
 (dzn L j tr s).mem.get x=(dzn (fun y=>decide (y<i)) j tr s').mem.get x\/∃r,(dzn L j tr s).mem.get x=some r/\R r
 |[],j,s,s',h,_,_=>h.imp id fun h=>h.2
 |e::tr,j,s,s',h,h1,h2=>by
  simp only[dzn]
  refine vzl tr (j+1) _ _ ?_ (fun k e' he hd hk=>by have:=h1 (k+1) e' (by simpa using he) hd (by omega);simpa[Nat.add_assoc,Nat.add_comm 1 k]using this)
   (fun k e' he hk hl=>h2 (k+1) e' (by simpa using he) (by omega) (by rw[←hl];congr 1;omega))
  have keep:x∉ids e.wr->∀ (b:Bool) (s:St),(if b then czh s e else s).mem.get x=s.mem.get x:=by
   intro hd b s
   have hn:e.wr.get x=none:=by
    cases hg:e.wr.get x with
    |none=>rfl
    |some r=>exact absurd (List.mem_map.2 ⟨_,fz4 hg,rfl⟩) hd
   cases b
   ·rfl
   ·simp only[if_true,czh,Mem.get_append,hn,Option.none_or]
  by_cases hji:j<i
  ·have he:s.mem.get x=s'.mem.get x:=by
    rcases h with h|h
    ·exact h
    ·exact absurd h.1 (by omega)
   left
   by_cases hd:x∈ids e.wr
   ·have hl:L j=true:=by have:=h1 0 e (by simp) hd (by omega);simpa using this
    rw[hl]
    simp only[if_true,decide_eq_true hji,czh,Mem.get_append,he]
   ·rw[keep hd,keep hd,he]
  ·simp only[decide_eq_false hji,Bool.false_eq_true,if_false]
   by_cases hd:x∈ids e.wr
   ·cases hl:L j with
    |false=>
     simp only[Bool.false_eq_true,if_false]
     exact h.imp id fun h=>⟨by omega,h.2⟩
    |true=>
     right
     obtain⟨y,hy,rfl⟩:=List.mem_map.1 hd
     obtain⟨r,hr⟩:=Gzw (m:=e.wr) ⟨y,hy,rfl⟩
     refine⟨by omega,r,?_,h2 0 e (by simp) (by omega) (by simpa using hl) r hr⟩
     simp only[if_true,czh,Mem.get_append,hr,Option.some_or]
   ·rw[keep hd]
    exact h.imp id fun h=>⟨by omega,h.2⟩
inductive Path (P:Program) (nt:Nat) (ops:List Oper) (hint:Nat->Option Hint):Nat->List Oper->Nat->St->List Eff->St->Prop
 |nil {i id:Nat} {s:St}:Path P nt ops hint i [] id s [] s
 |dec {i id:Nat} {rest:List Oper} {s s':St} {tr:List Eff} {t:Nat} {b:Bool} (hx:s.get t=.pure (.bool b))
  (h:Path P nt ops hint i rest id (s.put t (if b then .tt else .ff)) tr s'):Path P nt ops hint i rest id s tr s'
 |run {i id:Nat} {o:Oper} {rest:List Oper} {s s':St} {tr:List Eff} {out:Out} {fl:Bool} (hg:czn ops s o=.run)
  (hst:ezl P hint i o id s=some (out,fl)) (hd:jzb nt o.dst=true) (ho:tz4 id out=true) (hob:holds out.obl)
  (h:Path P nt ops hint (i+1) rest (id+64) (fzo s o out) tr s'):Path P nt ops hint i (o::rest) id s (rzi ops o id out::tr) s'
 |skip {i id:Nat} {o:Oper} {rest:List Oper} {s s':St} {tr:List Eff} (hg:czn ops s o=.skip) (hd:jzb nt o.dst=true)
  (h:Path P nt ops hint (i+1) rest (id+64) (s.putD o.dst (.tup [])) tr s'):Path P nt ops hint i (o::rest) id s (⟨o.dst,nzm ops o,id,.tup [],[],[]⟩::tr) s'
theorem Lzg {P:Program}{nt:Nat}{ops:List Oper}{hint:Nat->Option Hint}{K:St->List Eff->Prop}:
 ∀ (rest:List Oper) (i id:Nat) (s:St) (tr:List Eff),hz4 P nt ops hint i rest id s tr K->∃tr' s',Path P nt ops hint i rest id s tr' s'/\K s' (tr++tr')
 |[],i,id,s,tr,h=>⟨[],s,.nil,by simpa[hz4]using h⟩
 |o::rest,i,id,s,tr,h=>by
  have run:∀ (s:St),czn ops s o=.run->(match ezl P hint i o id s with
   |some (out,_)=>if jzb nt o.dst&&tz4 id out then andO out.obl (hz4 P nt ops hint (i+1) rest (id+64) (fzo s o out) (tr++[rzi ops o id out]) K)else False
   |none=>False)->∃tr' s',Path P nt ops hint i (o::rest) id s tr' s'/\K s' (tr++tr'):=by
   intro s hg h
   split at h
   ·rename_i out fl hstep
    split at h
    ·rename_i hc
     simp only[Bool.and_eq_true]at hc
     obtain⟨hob,hrec⟩:=andO_iff.1 h
     obtain⟨tr',s',hp,hk⟩:=Lzg rest _ _ _ _ hrec
     exact⟨_,s',.run hg hstep hc.1 hc.2 hob hp,by simpa using hk⟩
    ·exact h.elim
   ·exact h.elim
  have skip:∀ (s:St),czn ops s o=.skip->(if jzb nt o.dst then hz4 P nt ops hint (i+1) rest (id+64) (s.putD o.dst (.tup [])) (tr++[⟨o.dst,nzm ops o,id,.tup [],[],[]⟩]) K else False)->
   ∃tr' s',Path P nt ops hint i (o::rest) id s tr' s'/\K s' (tr++tr'):=by
   intro s hg h
   split at h
   ·rename_i hd
    obtain⟨tr',s',hp,hk⟩:=Lzg rest _ _ _ _ h
    exact⟨_,s',.skip hg hd hp,by simpa using hk⟩
   ·exact h.elim
  simp only[hz4]at h
  split at h
  ·rename_i hg;exact run s hg h
  ·rename_i hg;exact skip s hg h
  ·exact h.elim
  ·rename_i t b want hg
   obtain⟨hx,_⟩:=Bzj hg
   cases b with
   |true=>
    have hk:=oz6 (c:=true) hg
    have h':=h.1 rfl
    cases want with
    |true=>obtain⟨tr',s',hp,hq⟩:=run _ hk h';exact⟨tr',s',.dec hx hp,hq⟩
    |false=>obtain⟨tr',s',hp,hq⟩:=skip _ hk h';exact⟨tr',s',.dec hx hp,hq⟩
   |false=>
    have hk:=oz6 (c:=false) hg
    have h':=h.2 rfl
    cases want with
    |true=>obtain⟨tr',s',hp,hq⟩:=skip _ hk h';exact⟨tr',s',.dec hx hp,hq⟩
    |false=>obtain⟨tr',s',hp,hq⟩:=run _ hk h';exact⟨tr',s',.dec hx hp,hq⟩
structure At (P:Program) (nt:Nat) (ops:List Oper) (hint:Nat->Option Hint) (i:Nat) (o:Oper) (e:Eff) (p s:St) (id:Nat):Prop where
 dst:e.dst=o.dst
 uses:e.uses=nzm ops o
 eid:e.id=id
 ok:jzb nt o.dst=true
 get:∀t,ASub (p.get t) (s.get t)
 mem:s.mem=p.mem
 lt:s.lt id=true
 vlt:e.val.lt (id+64)=true
 wlt:fz6 (id+64) e.wr=true
 does:(czn ops s o=.run/\∃out fl,ezl P hint i o id s=some (out,fl)/\holds out.obl/\e.val=out.val/\e.rd=out.rd/\e.wr=out.wr)\/
  (czn ops s o=.skip/\e.val=.tup []/\e.rd=[]/\e.wr=[])
def pre:List Eff->St->St
 |[],p=>p
 |e::tr,p=>pre tr (czh p e)
theorem ASub.refl (a:AVal):ASub a a:=⟨fun _ _ _ _ h=>h⟩
theorem ASub.trans {a b c:AVal}(h:ASub a b)(h':ASub b c):ASub a c:=⟨fun F w ρ v x=>h'.rel F w ρ v (h.rel F w ρ v x)⟩
theorem Mzy (b:Bool):ASub (.pure (.bool b)) (if b then .tt else .ff):=⟨fun F w ρ v h=>by
 have:=h.pure_inv.bool_inv;subst this;cases b
 ·exact .ff
 ·exact .tt⟩
theorem Mzx (s:St)(o:Oper)(out:Out)(t:Nat):(fzo s o out).get t=if o.dst=some t then out.val else s.get t:=by
 cases h:o.dst with
 |none=>simp[fzo,St.putD,h,St.get]
 |some d=>
  simp only[fzo,St.putD,h,St.put,St.get,lz8]
  by_cases e:d=t<;>simp[e]
theorem Mzm (s:St)(d:Option Nat)(a:AVal)(t:Nat):(s.putD d a).get t=if d=some t then a else s.get t:=by
 cases d with
 |none=>simp[St.putD]
 |some d=>
  simp only[St.putD,St.put,St.get,lz8]
  by_cases e:d=t<;>simp[e]
theorem Tzz {P:Program}{nt:Nat}{ops:List Oper}{hint:Nat->Option Hint}{i:Nat}{rest:List Oper}{id:Nat}{s s':St}{tr:List Eff}(h:Path P nt ops hint i rest id s tr s'):
 ∀ (p:St),(∀t,ASub (p.get t) (s.get t))->s.mem=p.mem->s.lt id=true->
 tr.length=rest.length/\(∀k o,rest[k]?=some o->∃e s1,tr[k]?=some e/\At P nt ops hint (i+k) o e (pre (tr.take k) p) s1 (id+64 * k))/\
 (∀t,ASub ((pre tr p).get t) (s'.get t))/\s'.mem=(pre tr p).mem/\s'.df=s.df/\s'.lt (id+64 * rest.length)=true:=by
 induction h with
 |nil=>
  intro p h1 h2 h3
  exact⟨rfl,by simp,h1,h2,rfl,by simpa using h3⟩
 |@dec i id rest s s' tr t b hx h ih=>
  intro p h1 h2 h3
  have:=ih p (fun t'=>by
   have e:=Mzm s (some t) (if b then .tt else .ff) t'
   simp only[St.putD]at e
   rw[e]
   split
   ·rename_i e;cases e
    exact(h1 t).trans (by rw[hx];exact Mzy b)
   ·exact h1 t') h2 (Fzu h3 (a:=if b then .tt else .ff) (by cases b<;>rfl) (some t))
  exact this
 |@run i id o rest s s' tr out fl hg hst hd ho hob h ih=>
  intro p h1 h2 h3
  obtain⟨hlen,hat,hget,hmem,hdf,hlt⟩:=ih (czh p (rzi ops o id out)) (fun t=>by
   rw[Mzx,dzt]
   by_cases e:o.dst=some t
   ·rw[if_pos e,if_pos (show(rzi ops o id out).dst=some t from e)];exact ASub.refl _
   ·rw[if_neg e,if_neg (show ¬ (rzi ops o id out).dst=some t from e)];exact h1 t) (by simp only[czh,fzo,rzi,h2]) (Izc h3 ho)
  have ho':=ho
  simp only[tz4,Bool.and_eq_true]at ho'
  refine⟨by simp[hlen],fun k o' hk=>?_,hget,hmem,?_,?_⟩
  ·cases k with
   |zero=>
    simp at hk;subst hk
    exact⟨_,s,rfl,rfl,rfl,rfl,hd,h1,h2,h3,ho'.1,ho'.2,.inl ⟨hg,out,fl,hst,hob,rfl,rfl,rfl⟩⟩
   |succ k=>
    obtain⟨e,s1,h4,h5⟩:=hat k o' (by simpa using hk)
    refine⟨e,s1,by simpa using h4,?_⟩
    rw[show i+(k+1)=i+1+k by omega,show id+64 * (k+1)=id+64+64 * k by omega]
    simpa[pre]using h5
  ·rw[hdf];cases hdst:o.dst<;>simp[fzo,St.putD,hdst,St.put]
  ·rw[List.length_cons,show id+64 * (rest.length+1)=id+64+64 * rest.length by omega];exact hlt
 |@skip i id o rest s s' tr hg hd h ih=>
  intro p h1 h2 h3
  obtain⟨hlen,hat,hget,hmem,hdf,hlt⟩:=ih (czh p ⟨o.dst,nzm ops o,id,.tup [],[],[]⟩) (fun t=>by
   rw[Mzm,dzt]
   simp only
   by_cases e:o.dst=some t
   ·rw[if_pos e,if_pos e];exact ASub.refl _
   ·rw[if_neg e,if_neg e];exact h1 t) (by simp only[czh];cases o.dst<;>simp[St.putD,St.put,h2]) (St.lt_mono (by omega) (Fzu h3 rfl o.dst))
  refine⟨by simp[hlen],fun k o' hk=>?_,hget,hmem,?_,?_⟩
  ·cases k with
   |zero=>
    simp at hk;subst hk
    exact⟨_,s,rfl,rfl,rfl,rfl,hd,h1,h2,h3,rfl,rfl,.inr ⟨hg,rfl,rfl,rfl⟩⟩
   |succ k=>
    obtain⟨e,s1,h4,h5⟩:=hat k o' (by simpa using hk)
    refine⟨e,s1,by simpa using h4,?_⟩
    rw[show i+(k+1)=i+1+k by omega,show id+64 * (k+1)=id+64+64 * k by omega]
    simpa[pre]using h5
  ·rw[hdf];cases hdst:o.dst<;>simp[St.putD,St.put]
  ·rw[List.length_cons,show id+64 * (rest.length+1)=id+64+64 * rest.length by omega];exact hlt
theorem izf (n:Nat):∀ (tr:List Eff) (j:Nat) (p:St),dzn (fun x=>decide (x<n)) j tr p=pre (tr.take (n-j)) p
 |[],j,p=>by simp[dzn,pre]
 |e::tr,j,p=>by
  simp only[dzn]
  by_cases h:j<n
  ·rw[if_pos (by simpa using h),izf n tr,show n-j=(n- (j+1))+1 by omega]
   simp[pre]
  ·rw[if_neg (by simpa using h),izf n tr,show n-j=0 by omega,show n- (j+1)=0 by omega]
   simp[pre]
theorem vzj {R:AVal->Prop}{L:Nat->Bool}{t:Nat}:∀ (tr:List Eff) (j:Nat) (s:St),R (s.get t)->(∀k e,tr[k]?=some e->L (j+k)=true->R e.val)->R ((dzn L j tr s).get t)
 |[],j,s,h,_=>h
 |e::tr,j,s,h,hL=>by
  simp only[dzn]
  refine vzj tr (j+1) _ ?_ (fun k e' he hl=>hL (k+1) e' (by simpa using he) (by rw[←hl];congr 1;omega))
  split
  ·rename_i hl
   rw[dzt]
   split
   ·exact hL 0 e (by simp) (by simpa using hl)
   ·exact h
  ·exact h
theorem ozr {R:Nat->Res->Prop}{L:Nat->Bool}:∀ (tr:List Eff) (j:Nat) (s:St),(∀i r,s.mem.get i=some r->R i r)->(∀k e,tr[k]?=some e->L (j+k)=true->∀i r,e.wr.get i=some r->R i r)->∀i r,(dzn L j tr s).mem.get i=some r->R i r
 |[],j,s,h,_=>h
 |e::tr,j,s,h,hL=>by
  simp only[dzn]
  refine ozr tr (j+1) _ ?_ (fun k e' he hl=>hL (k+1) e' (by simpa using he) (by rw[←hl];congr 1;omega))
  split
  ·rename_i hl
   intro i r hg
   simp only[czh,Mem.get_append]at hg
   cases hw:e.wr.get i with
   |none=>rw[hw]at hg;exact h i r (by simpa using hg)
   |some r'=>rw[hw]at hg;simp at hg;subst hg;exact hL 0 e (by simp) (by simpa using hl) i r' hw
  ·exact h
mutual
theorem Gzu {lo i:Nat}(hi:Own lo i):∀ {a:AVal},a.free lo=true->a.has i=false
 | .agg cs,h=>by simp only[AVal.free]at h;simp only[AVal.has];exact nz5 hi h
 | .tup cs,h=>by simp only[AVal.free]at h;simp only[AVal.has];exact nz5 hi h
 | .vec j,h=>by simp[AVal.free]at h;simp[AVal.has];have:=hi.1;have:=hi.2;omega
 | .ptr j _,h=>by simp[AVal.free]at h;simp[AVal.has];have:=hi.1;have:=hi.2;omega
 | .eptr j _ _ _,h=>by simp[AVal.free]at h;simp[AVal.has];have:=hi.1;have:=hi.2;omega
 | .map j,h=>by simp[AVal.free]at h;simp[AVal.has];have:=hi.1;have:=hi.2;omega
 | .bsl j _,h=>by simp[AVal.free]at h;simp[AVal.has];have:=hi.1;have:=hi.2;omega
 | .view j _ _ _,h=>by simp[AVal.free]at h;simp[AVal.has];have:=hi.1;have:=hi.2;omega
 | .iface _ a,h=>by simp only[AVal.free]at h;simp only[AVal.has];exact Gzu hi h
 | .func _ a b,h=>by
   simp only[AVal.free,Bool.and_eq_true]at h
   simp only[AVal.has,nz5 hi h.1,nz5 hi h.2,Bool.or_self]
 | .any,_=>rfl
 | .pure _,_=>rfl
 | .tt,_=>rfl
 | .ff,_=>rfl
 | .ref _,_=>rfl
 | .anyb,_=>rfl
 | .nilp,_=>rfl
 | .clip _,_=>rfl
 | .yld _,_=>rfl
theorem nz5 {lo i:Nat}(hi:Own lo i):∀ {l:List AVal},AVal.freeL lo l=true->AVal.hasL i l=false
 |[],_=>rfl
 |a::l,h=>by
  simp only[AVal.freeL,Bool.and_eq_true]at h
  simp only[AVal.hasL,Gzu hi h.1,nz5 hi h.2,Bool.or_self]
end
theorem Bzt {lo:Nat}:∀ {m:Mem},Bzs lo m=true->∀ {i:Nat} {r:Res},m.get i=some r->¬Own lo i/\∀x,Own lo x->r.has x=false
 |[],_,i,r,h=>by simp[Mem.get]at h
 |(k,q)::m,hm,i,r,h=>by
  simp only[Bzs,Bool.and_eq_true]at hm
  simp only[Mem.get]at h
  split at h
  ·rename_i e;subst e;cases h
   refine⟨fun ho=>?_,fun x hx=>?_⟩
   ·have:=hm.1.1;have:=ho.1;have:=ho.2;simp at *;omega
   ·cases q with
    |box cs=>exact nz5 hx hm.1.2
    |vecX _ _ _ _ _ _ i=>have:=hm.1.2;have:=hx.1;have:=hx.2;simp[Res.free]at *;simp[Res.has];omega
    |vecU _ _ _ _ _ _ _ _ hs=>
     have h1:=hm.1.2
     simp only[Res.free,List.all_eq_true,Bool.or_eq_true,decide_eq_true_eq]at h1
     simp only[Res.has,List.any_eq_false,beq_iff_eq]
     exact fun y hy e=>by have:=h1 y hy;have:=hx.1;have:=hx.2;omega
    |_=>rfl
  ·exact Bzt hm.2 h
theorem MemOk.congr {F:Cells}{w:World}{ρ:Env}{Mine:Nat->Prop}{m m':Mem}(h:MemOk F w ρ Mine m)(he:∀i,m'.get i=m.get i):MemOk F w ρ Mine m':=
 ⟨fun id r hr=>h.ok id r (by rw[←he];exact hr),fun id r b hr=>h.mine id r b (by rw[←he];exact hr),fun id id' r r' b h1 h2=>h.disj id id' r r' b (by rw[←he];exact h1) (by rw[←he];exact h2)⟩
theorem sz8 {ms:List Nat}{lx:Bool}{x:Eff}{i:Nat}:∀ {l:List Eff} {j:Nat},uzs ms lx x i j l=true->∀k y,l[k]?=some y->(ms.getD (j+k) 0).testBit i=true\/Izi lx x y=true
 |[],j,_,k,y,h=>by simp at h
 |z::l,j,h,k,y,hy=>by
  simp only[uzs,Bool.and_eq_true,Bool.or_eq_true]at h
  cases k with
  |zero=>simp at hy;subst hy;simpa using h.1
  |succ k=>
   have:=sz8 h.2 k y (by simpa using hy)
   rwa[show j+(k+1)=j+1+k by omega]
theorem qzd {ms:List Nat}{ls:List Bool}:∀ {l:List Eff} {i:Nat},Cz1 ms ls i l=true->∀a b x y,a<b->l[a]?=some x->l[b]?=some y->(ms.getD (i+b) 0).testBit (i+a)=true\/Izi (ls.getD (i+a) false) x y=true
 |[],i,_,a,b,x,y,_,h,_=>by simp at h
 |z::l,i,h,a,b,x,y,hab,hx,hy=>by
  simp only[Cz1,Bool.and_eq_true]at h
  obtain⟨b,rfl⟩:∃b',b=b'+1:=⟨b-1,by omega⟩
  cases a with
  |zero=>
   simp at hx;subst hx
   have:=sz8 h.1 b y (by simpa using hy)
   rwa[show i+(b+1)=i+1+b by omega]
  |succ a=>
   have:=qzd h.2 a b x y (by omega) (by simpa using hx) (by simpa using hy)
   rwa[show i+(b+1)=i+1+b by omega,show i+(a+1)=i+1+a by omega]
theorem szp {d:Option Nat}{l:List Nat}{t:Nat}(h:Izq d l=true)(hd:d=some t)(ht:t∈l):False:=by
 subst hd
 simp only[Izq,Bool.not_eq_true',List.contains_eq_mem,decide_eq_false_iff_not]at h
 exact h ht
theorem Bz0 {a b:List Nat}{i:Nat}(h:disj a b=true)(ha:i∈a)(hb:i∈b):False:=by
 simp only[disj,List.all_eq_true,Bool.not_eq_true',List.contains_eq_mem,decide_eq_false_iff_not]at h
 exact h i ha hb
theorem xzs {l:List Nat}:∀ {m:Mem},Az6 l m=true->∀ {i:Nat} {r:Res},i∈l->m.get i=some r->isV r=true
 |[],_,i,r,_,h=>by simp[Mem.get]at h
 |(k,q)::m,hm,i,r,hi,h=>by
  simp only[Az6,Bool.and_eq_true,Bool.or_eq_true,Bool.not_eq_true',List.contains_eq_mem,decide_eq_false_iff_not]at hm
  simp only[Mem.get]at h
  split at h
  ·rename_i e;subst e;cases h
   rcases hm.1 with h1|h1
   ·exact absurd hi h1
   ·exact h1
  ·exact xzs hm.2 hi h
structure Apart (lx:Bool) (x y:Eff):Prop where
 xy:∀t,x.dst=some t->t∈y.uses->False
 yx:∀t,y.dst=some t->t∈x.uses->False
 dd:∀t,x.dst=some t->y.dst=some t->False
 wr:∀i,i∈ids x.wr->i∈y.rd->False
 rw:(∀i,i∈ids y.wr->i∈x.rd->False)\/(lx=true/\∀i r,i∈x.rd->y.wr.get i=some r->isV r=true)
 ww:∀i,i∈ids x.wr->i∈ids y.wr->False
 val:y.val.free x.id=true
 mem:Bzs x.id y.wr=true
theorem Fzg {lx:Bool}{x y:Eff}(h:Izi lx x y=true):Apart lx x y:=by
 simp only[Izi,Bool.and_eq_true,Bool.or_eq_true]at h
 obtain⟨⟨⟨⟨⟨⟨⟨h1,h2⟩,h3⟩,h4⟩,h5⟩,h6⟩,h7⟩,h8⟩:=h
 exact⟨fun t a b=>szp h1 a b,fun t a b=>szp h2 a b,fun t a b=>szp h3 a (by simp[b]),fun i a b=>Bz0 h4 a b,h5.imp (fun h5 i a b=>Bz0 h5 a b) (fun h5=>⟨h5.1,fun i r a b=>xzs h5.2 a b⟩),fun i a b=>Bz0 h6 a b,h7,h8⟩
def slen:Option (Nat×Nat×Nat)->Nat
 |none=>0
 |some x=>x.2.1
theorem Mz3 {F:Cells}{w:World}{ρ:Env}{id n:Nat}{r:Res}(h:ResOk F w ρ id r)(hr:vlen r=some n):slen (ρ.vec id)=n:=by
 cases r<;>simp only[vlen,Option.some.injEq,reduceCtorEq]at hr
 ·subst hr
  simp only[ResOk]at h
  rw[h];rfl
 ·subst hr
  simp only[ResOk]at h
  obtain⟨_,⟨h1,h2⟩|⟨b,cap,c,h1,_⟩⟩:=h
  ·rw[h1,h2];rfl
  ·rw[h1];rfl
 ·subst hr
  simp only[ResOk]at h
  obtain⟨_,_,⟨h1,h2,_⟩|⟨b,cap,c,h1,_⟩⟩:=h
  ·rw[h1,h2];rfl
  ·rw[h1];rfl
theorem Rz0 {r:Res}(h:isV r=true):∃n,vlen r=some n:=by
 cases r<;>simp[isV]at h<;>exact⟨_,rfl⟩
theorem Oz5 {P:Program}{ts:Array TypeId}{a:AVal}{m M:Mem}{out:Out}(h:Lz0 P ts a m=some out)
 (hm:∀x∈out.rd,∀n,(m.get x).bind vlen=some n->(M.get x).bind vlen=some n):Lz0 P ts a M=some out:=by
 have key:∀ (id n:Nat),(M.get id).bind vlen=some n->(match M.get id with
  |some (.vec _ n _ _ _)=>some (⟨.pure (.int .i64 n),[id],[],none⟩:Out)
  |some (.vecU _ n _ _ _ _ _ _ _)=>some ⟨.pure (.int .i64 n),[id],[],none⟩
  |some .nilv=>some ⟨.pure (.int .i64 (0:Nat)),[id],[],none⟩
  |_=>none)=some ⟨.pure (.int .i64 n),[id],[],none⟩:=by
  intro id n hn
  cases hg:M.get id with
  |none=>rw[hg]at hn;simp at hn
  |some r=>
   rw[hg]at hn
   cases r<;>simp[vlen]at hn<;>subst hn<;>rfl
 unfold Lz0 at h⊢
 split at h
 ·split at h
  ·exact h
  ·exact h
  ·rename_i xa et id hu
   cases hk:m.get id with
   |none=>rw[hk]at h;cases h
   |some r=>
    rw[hk]at h
    cases r<;>simp only[reduceCtorEq,Option.some.injEq]at h
    ·subst h
     exact key _ _ (hm _ (by simp) 0 (by rw[hk];rfl))
    ·subst h
     exact key _ _ (hm _ (by simp) _ (by rw[hk];rfl))
    ·subst h
     exact key _ _ (hm _ (by simp) _ (by rw[hk];rfl))
  ·exact h
  ·exact h
  ·cases h
 ·cases h
theorem Szf {P:Program}{hint:Nat->Option Hint}{i id:Nat}{o:Oper}{s:St}{M:Mem}{out:Out}{fl:Bool}(ho:lzb o=true)(h:ezl P hint i o id s=some (out,fl))
 (hm:∀x∈out.rd,∀n,(s.mem.get x).bind vlen=some n->(M.get x).bind vlen=some n):ezl P hint i o id {s with mem:=M}=some (out,fl):=by
 have he:bzx {s with mem:=M}=bzx s:=rfl
 have key:∀out0 b0,hz2 P hint i o id s=some (out0,b0)->(∀x∈out0.rd,∀n,(s.mem.get x).bind vlen=some n->(M.get x).bind vlen=some n)->hz2 P hint i o id {s with mem:=M}=some (out0,b0):=by
  intro out0 b0 h0 hm0
  unfold lzb at ho
  unfold hz2 at h0⊢
  split at ho
  ·rename_i c hc
   split at ho
   ·rename_i hb
    rw[hc]at h0⊢
    simp only[hb,Tzl,Bool.and_false,Bool.false_eq_true,if_false,tzr,he]at h0⊢
    split at h0
    ·rename_i x hx
     split at h0
     ·exact h0
     ·rename_i h1
      cases h2:Lz0 P c.argTypes (bzx s x) s.mem with
      |none=>rw[h2]at h0;simp at h0
      |some o2=>
       rw[h2]at h0
       simp at h0
       rw[Oz5 h2 (by rw[h0.1];exact hm0)]
       simp[h0.1,h0.2]
    ·simp at h0
   ·cases ho
  ·cases ho
 unfold ezl at h⊢
 split at h
 ·rename_i out0 b0 h0
  split at h
  ·rename_i o1 hc
   simp only[Option.some.injEq,Prod.mk.injEq]at h
   have hr:out0.rd=out.rd:=by
    rw[←h.1]
    unfold szo at hc
    split at hc
    ·cases hc;rfl
    ·split at hc
     ·cases hc;rfl
     ·cases hc;rfl
     ·cases hc
    ·split at hc
     ·cases hc;rfl
     ·cases hc
   rw[key _ _ h0 (by rw[hr];exact hm)]
   simp only[hc,h.1,h.2]
  ·cases h
 ·cases h
theorem Sat.conv {X:Cx}{F:Cells}{w:World}{ρ:Env}{s s':St}{a:Act}(h:Sat X F w ρ s a)(hg:∀t,ASub (s.get t) (s'.get t))(hm:∀i,s'.mem.get i=s.mem.get i)(hd:s'.df=s.df):Sat X F w ρ s' a:=
 ⟨h.size,fun t=>(hg t).rel _ _ _ _ (h.fr t),h.mem.congr hm,hd▸h.df,h.good,h.from0,h.env0⟩
theorem xzq:∀ {l:List Oper} {i:Nat},Bz2 i l=true->∀j o,l[j]?=some o->∀e∈o.after,Region.binds .any e=true->e.on<i+j
 |[],i,_,j,o,h=>by simp at h
 |x::l,i,h,j,o,ho=>by
  simp only[Bz2,Bool.and_eq_true,List.all_eq_true,Bool.or_eq_true,Bool.not_eq_true',decide_eq_true_eq]at h
  cases j with
  |zero=>
   simp at ho;subst ho
   intro e he hb
   rcases h.1 e (by simpa using he)with h'|h'
   ·rw[hb]at h';cases h'
   ·simpa using h'
  |succ j=>
   intro e he hb
   have:=xzq h.2 j o (by simpa using ho) e he hb
   omega
def Fzf (ops:List Oper)(L:Nat->Bool)(j:Nat):Prop:=∀o,ops[j]?=some o->∀e∈o.after,Region.binds .any e=true->L e.on=true
theorem Bzq {L:Nat->Bool}{acc:List Nat}(hacc:∀j,L j=true->∀k,(acc.getD j 0).testBit k=true->L k=true):
 ∀ (es:List Edge) (m:Nat),(∀e∈es,Region.binds .any e=true->L e.on=true)->(∀k,m.testBit k=true->L k=true)->
   ∀k,(es.foldl (fun s e=>if Region.binds .any e then s|||2 ^ e.on|||acc.getD e.on 0 else s) m).testBit k=true->L k=true
 |[],m,_,hm,k,h=>hm k h
 |e::es,m,he,hm,k,h=>by
  rw[List.foldl_cons]at h
  refine Bzq hacc es _ (fun e' h'=>he e' (List.mem_cons_of_mem _ h')) (fun k' hk'=>?_) k h
  split at hk'
  ·rename_i hb
   have hl:=he e (List.mem_cons_self ..) hb
   rw[Nat.testBit_or,Nat.testBit_or,Nat.testBit_two_pow,Bool.or_eq_true,Bool.or_eq_true,decide_eq_true_eq]at hk'
   rcases hk' with(h1|h1)|h1
   ·exact hm k' h1
   ·subst h1;exact hl
   ·exact hacc e.on hl k' h1
  ·exact hm k' hk'
theorem Fzp {ops:List Oper}{L:Nat->Bool}(hL:∀j,L j=true->Fzf ops L j):∀j,Fzf ops L j->∀k,((Tzw ops).getD j 0).testBit k=true->L k=true:=by
 have gen:∀ (l:List Oper) (acc:List Nat),(∀j,l[j]?=ops[acc.length+j]?)->(∀j,Fzf ops L j->∀k,(acc.getD j 0).testBit k=true->L k=true)->
  ∀j,Fzf ops L j->∀k,((l.foldl (fun acc o=>acc++[o.after.toList.foldl (fun s e=>if Region.binds .any e then s|||2 ^ e.on|||acc.getD e.on 0 else s) 0]) acc).getD j 0).testBit k=true->L k=true:=by
  intro l
  induction l with
  |nil=>intro acc _ h;exact h
  |cons o l ih=>
   intro acc hl h
   rw[List.foldl_cons]
   refine ih _ (fun j=>?_) (fun j hc k hk=>?_)
   ·have:=hl (j+1)
    simp only[List.getElem?_cons_succ]at this
    rw[this,List.length_append,List.length_singleton]
    congr 1;omega
   ·rw[List.getD_eq_getElem?_getD,List.getElem?_append]at hk
    split at hk
    ·exact h j hc k (by rw[List.getD_eq_getElem?_getD];exact hk)
    ·rename_i hge
     by_cases e:j=acc.length
     ·subst e
      simp only[Nat.sub_self,List.getElem?_cons_zero,Option.getD_some]at hk
      have ho:ops[acc.length]?=some o:=by have:=hl 0;simpa using this.symm
      exact Bzq (fun j hj=>h j (hL j hj)) o.after.toList 0 (fun e he hb=>hc o ho e (by simpa using he) hb) (by simp) k hk
     ·rw[show j-acc.length=(j-acc.length-1)+1 by omega]at hk
      simp at hk
 exact gen ops [] (by simp) (by simp)
theorem Jz4 {F:Cells}{w:World}{ρ:Env}{s:St}{a:Act}{ops:List Oper}{o:Oper}(h:∀t∈Hz1 ops o,ARel F w ρ (s.get t) (a.tmps.getD t undef)):
 (czn ops s o=.run->Region.wanted o (yielded ops.toArray a.tmps)=true)/\(czn ops s o=.skip->Region.wanted o (yielded ops.toArray a.tmps)=false):=by
 have yl:∀ {j t:Nat} {oj:Oper} {b:Bool},ops[j]?=some oj->oj.dst=some t->a.tmps.getD t undef=.bool b->yielded ops.toArray a.tmps j=some b:=by
  intro j t oj b hj ht h1
  have h2:a.tmps[t]?=some (.bool b):=by
   rw[Array.getD_eq_getD_getElem?]at h1
   cases hg:a.tmps[t]? with
   |none=>rw[hg]at h1;simp[undef]at h1
   |some v=>rw[hg]at h1;simp at h1;rw[h1]
  simp[yielded,hj,ht,h2]
 cases hn:o.guard with
 |none=>exact⟨fun _=>by simp[Region.wanted,hn],fun hg=>by simp[czn,hn]at hg⟩
 |some jw=>
  obtain⟨j,want⟩:=jw
  cases hj:ops[j]? with
  |none=>exact⟨fun hg=>by simp[czn,hn,hj]at hg,fun hg=>by simp[czn,hn,hj]at hg⟩
  |some oj=>
   cases ht:oj.dst with
   |none=>exact⟨fun hg=>by simp[czn,hn,hj,ht]at hg,fun hg=>by simp[czn,hn,hj,ht]at hg⟩
   |some t=>
    have hr:=h t (by simp[Hz1,hn,hj,ht])
    have key:∀b:Bool,a.tmps.getD t undef=.bool b->Region.wanted o (yielded ops.toArray a.tmps)=(b==want):=by
     intro b hb
     simp only[Region.wanted,hn,yl hj ht hb]
     cases b<;>cases want<;>rfl
    cases hx:s.get t with
    |tt=>
     rw[hx]at hr
     have hv:a.tmps.getD t undef=.bool true:=by generalize a.tmps.getD t undef=v at hr;cases hr;rfl
     rw[key true hv]
     constructor<;>intro hg<;>simp[czn,hn,hj,ht,hx]at hg<;>cases want<;>simp_all
    |ff=>
     rw[hx]at hr
     have hv:a.tmps.getD t undef=.bool false:=by generalize a.tmps.getD t undef=v at hr;cases hr;rfl
     rw[key false hv]
     constructor<;>intro hg<;>simp[czn,hn,hj,ht,hx]at hg<;>cases want<;>simp_all
    |pure p=>
     constructor<;>intro hg<;>simp only[czn,hn,hj,ht,hx]at hg<;>cases p<;>simp at hg
    |tup cs=>
     constructor
     ·intro hg;simp only[czn,hn,hj,ht,hx]at hg;cases cs<;>simp at hg
     ·intro hg
      cases cs with
      |cons _ _=>simp[czn,hn,hj,ht,hx]at hg
      |nil=>
       rw[hx]at hr
       have h2:a.tmps.getD t undef=.tuple #[]:=by
        generalize a.tmps.getD t undef=v at hr
        cases hr with
        |@tup _ vs hl _=>rw[show vs=#[]from Array.eq_empty_of_size_eq_zero hl.symm]
       rw[Array.getD_eq_getD_getElem?]at h2
       have hy:yielded ops.toArray a.tmps j=none:=by
        cases hg:a.tmps[t]? with
        |none=>simp[yielded,hj,ht,hg]
        |some v=>rw[hg]at h2;simp at h2;subst h2;simp[yielded,hj,ht,hg]
       simp[Region.wanted,hn,hy]
    |_=>constructor<;>intro hg<;>simp[czn,hn,hj,ht,hx]at hg
theorem Nzy {l:List Bool}{i n:Nat}(hi:l[i]?=some false)(h:l.count false=n+1):(l.set i true).count false=n:=by
 induction l generalizing i n with
 |nil=>simp at hi
 |cons x l ih=>
  cases i with
  |zero=>
   simp at hi;subst hi
   simp at h
   simpa using h
  |succ i=>
   simp at hi
   simp only[List.set_cons_succ]
   cases x with
   |true=>simp at h⊢;exact ih hi h
   |false=>
    simp only[List.count_cons_self]at h⊢
    have hp:0<l.count false:=List.count_pos_iff.2 (List.mem_of_getElem? hi)
    obtain⟨m,hm⟩:∃m,l.count false=m+1:=⟨l.count false-1,by omega⟩
    have:=ih hi hm
    omega
theorem Fzq {m:Mem}{i:Nat}{r:Res}(h:m.get i=some r):i∈ids m:=List.mem_map.2 ⟨_,fz4 h,rfl⟩
section
variable {P:Program} {X:Cx} {ops:List Oper} {hint:Nat->Option Hint} {Q:Exit->Act->World->Prop} {tr:List Eff} {s0:St} {id0:Nat}
def Vzq (tr:List Eff)(s0:St)(L:Nat->Bool)(ρ:Env):Prop:=
 (∀x r n,s0.mem.get x=some r->vlen r=some n->slen (ρ.vec x)=n)/\
 ∀k ek x r n,tr[k]?=some ek->L k=true->ek.wr.get x=some r->vlen r=some n->slen (ρ.vec x)=n
theorem Qz4 (hlen:tr.length=ops.length)
 (hat:∀k o,ops[k]?=some o->∃e s,tr[k]?=some e/\At P X.nt ops hint k o e (pre (tr.take k) s0) s (id0+64 * k))
 (hedge:Bz2 0 ops=true) (hpair:Cz1 (Tzw ops) (ops.map lzb) 0 tr=true) (hlt:s0.lt id0=true) (hn0:X.n0≤id0)
 (fin:∀F w ρ a,Sat X F w ρ (pre tr s0) a->Q .normal a w):
 ∀ (fuel:Nat) (listed:Array Bool) (F:Cells) (w:World) (ρ:Env) (a:Act),listed.size=ops.length->listed.toList.count false=fuel->
   (∀j,listed.getD j false=true->Fzf ops (fun j=>listed.getD j false) j)->Sat X F w ρ (dzn (fun j=>listed.getD j false) 0 tr s0) a->Vzq tr s0 (fun j=>listed.getD j false) ρ->wpAnyIn Fence.wide 0 P .any ops.toArray Q fuel listed a w:=by
 intro fuel
 have done:∀ (listed:Array Bool) (F:Cells) (w:World) (ρ:Env) (a:Act),(∀j,j<ops.length->listed.getD j false=true)->Sat X F w ρ (dzn (fun j=>listed.getD j false) 0 tr s0) a->Q .normal a w:=by
  intro listed F w ρ a hall hs
  refine fin F w ρ a (hs.conv (fun t=>?_) (fun i=>?_) ?_)
  ·have e:(dzn (fun j=>listed.getD j false) 0 tr s0).get t=(pre tr s0).get t:=by
    rw[fzy (L':=fun x=>decide (x<tr.length)) tr 0 s0 s0 rfl,izf,Nat.sub_zero,List.take_length]
    intro k e hk _
    have hk':k<tr.length:=(List.getElem?_eq_some_iff.1 hk).1
    rw[Nat.zero_add,hall k (by omega)];simpa using hk'
   rw[e];exact ASub.refl _
  ·rw[ize (L':=fun x=>decide (x<tr.length)) tr 0 s0 s0 rfl,izf,Nat.sub_zero,List.take_length]
   intro k e hk _
   have hk':k<tr.length:=(List.getElem?_eq_some_iff.1 hk).1
   rw[Nat.zero_add,hall k (by omega)];simpa using hk'
  ·have:=izf tr.length tr 0 s0
   rw[Nat.sub_zero,List.take_length]at this
   rw[←this,vzh,vzh]
 have ready_nil:∀ (listed:Array Bool),listed.size=ops.length->Region.ready .any ops.toArray listed=[]->∀j,j<ops.length->listed.getD j false=true:=by
  intro listed hsz hr j
  induction j using Nat.strongRecOn with
  |_ j ih=>
   intro hj
   have hjl:j<listed.size:=by omega
   have hgd:listed.getD j true=listed.getD j false:=by
    simp[Array.getD_eq_getD_getElem?,Array.getElem?_eq_getElem hjl]
   cases hx:listed.getD j false with
   |true=>rfl
   |false=>
    have:j∈Region.ready .any ops.toArray listed:=by
     refine mem_ready.2 ⟨by rw[hgd];exact hx,ops[j],by simp[hj],fun e he hb=>?_⟩
     have:=xzq hedge j ops[j] (by simp) e he hb
     exact ih e.on (by omega) (by omega)
    rw[hr]at this;cases this
 induction fuel with
 |zero=>
  intro listed F w ρ a hsz hcnt hcl hs _
  have hall:∀j,j<ops.length->listed.getD j false=true:=by
   intro j hj
   have hjl:j<listed.size:=by omega
   rw[Array.getD_eq_getD_getElem?,Array.getElem?_eq_getElem hjl,Option.getD_some]
   cases hx:listed[j]with
   |true=>rfl
   |false=>
    have:false∈listed.toList:=by rw[←hx];exact Array.getElem_mem_toList hjl
    have:=List.count_pos_iff.2 this
    omega
  refine⟨?_,done listed F w ρ a hall hs⟩
  cases hr:Region.ready .any ops.toArray listed with
  |nil=>rfl
  |cons x l=>
   have hx:x∈Region.ready .any ops.toArray listed:=by rw[hr];simp
   obtain⟨h1,o,h2,_⟩:=mem_ready.1 hx
   have hxl:x<ops.length:=by have:=(Array.getElem?_eq_some_iff.1 h2).1;simpa using this
   have:=hall x hxl
   have hxs:x<listed.size:=by omega
   rw[Array.getD_eq_getD_getElem?,Array.getElem?_eq_getElem hxs]at h1 this
   simp at h1 this
   rw[h1]at this;cases this
 |succ fuel ih=>
  intro listed F w ρ a hsz hcnt hcl hs hln
  refine⟨fun hr=>done listed F w ρ a (ready_nil listed hsz hr) hs,fun i hi=>?_⟩
  obtain⟨hli,o,ho,hed⟩:=mem_ready.1 hi
  have ho':ops[i]?=some o:=by simpa using ho
  have hil:i<ops.length:=(List.getElem?_eq_some_iff.1 ho').1
  have hils:i<listed.size:=by omega
  have hLi:listed.getD i false=false:=by
   rw[Array.getD_eq_getD_getElem?,Array.getElem?_eq_getElem hils]at hli⊢;simpa using hli
  obtain⟨e,s,he,hA⟩:=hat i o ho'
  have hcli:Fzf ops (fun j=>listed.getD j false) i:=fun o2 h2 e2 he2 hb=>by rw[ho']at h2;cases h2;exact hed e2 he2 hb
  have hbefore:∀k ek,k<i->tr[k]?=some ek->listed.getD k false=true\/Apart ((ops.map lzb).getD k false) ek e:=by
   intro k ek hk hek
   rcases qzd hpair k i ek e hk hek he with h|h
   ·exact .inl (Fzp (L:=fun j=>listed.getD j false) hcl i hcli k (by simpa using h))
   ·rw[Nat.zero_add]at h;exact .inr (Fzg h)
  have hbehind:∀k ek,i<k->tr[k]?=some ek->listed.getD k false=true->Apart (lzb o) e ek:=by
   intro k ek hk hek hl
   rcases qzd hpair i k e ek hk he hek with h|h
   ·have:=Fzp (L:=fun j=>listed.getD j false) hcl k (hcl k hl) i (by simpa using h)
    rw[hLi]at this;cases this
   ·rw[Nat.zero_add,show(ops.map lzb).getD i false=lzb o by simp[List.getD_eq_getElem?_getD,ho']]at h;exact Fzg h
  have hget:∀t∈e.uses,(dzn (fun j=>listed.getD j false) 0 tr s0).get t=(pre (tr.take i) s0).get t:=by
   intro t ht
   rw[fzy (L':=fun x=>decide (x<i)) tr 0 s0 s0 rfl,izf,Nat.sub_zero]
   intro k ek hk hd
   rw[Nat.zero_add]
   rcases Nat.lt_trichotomy k i with h|h|h
   ·rcases hbefore k ek h hk with h1|h1
    ·rw[h1];simpa using h
    ·exact(h1.xy t hd ht).elim
   ·subst h;rw[hLi];simp
   ·cases hl:listed.getD k false with
    |false=>symm;simpa using(by omega:i≤k)
    |true=>exact((hbehind k ek h hk hl).yx t hd ht).elim
  have hmem:∀x∈e.rd,(dzn (fun j=>listed.getD j false) 0 tr s0).mem.get x=(pre (tr.take i) s0).mem.get x\/(lzb o=true/\∃r,(dzn (fun j=>listed.getD j false) 0 tr s0).mem.get x=some r/\isV r=true):=by
   intro x hx
   have hw:∀k ek,tr[k]?=some ek->x∈ids ek.wr->k<i->listed.getD k false=true:=by
    intro k ek hk hd h
    rcases hbefore k ek h hk with h1|h1
    ·exact h1
    ·exact(h1.wr x hd hx).elim
   have:=vzl (L:=fun j=>listed.getD j false) (x:=x) (i:=i) (R:=fun r=>lzb o=true/\isV r=true) tr 0 s0 s0 (.inl rfl) (fun k ek hk hd h=>by rw[Nat.zero_add]at h⊢;exact hw k ek hk hd h) (fun k ek hk h hl r hr=>by
    rw[Nat.zero_add]at h hl
    rcases Nat.lt_or_eq_of_le h with h|h
    ·rcases(hbehind k ek h hk hl).rw with h1|⟨h1,h2⟩
     ·exact(h1 x (Fzq hr) hx).elim
     ·exact⟨h1,h2 x r hx hr⟩
    ·subst h;rw[hLi]at hl;cases hl)
   rw[izf,Nat.sub_zero]at this
   rcases this with h|⟨r,h1,h2,h3⟩
   ·exact .inl h
   ·exact .inr ⟨h2,r,h1,h3⟩
  have hpre:∀x∈e.rd,∀r n,(pre (tr.take i) s0).mem.get x=some r->vlen r=some n->slen (ρ.vec x)=n:=by
   intro x hx r n hr hn
   have:=ozr (R:=fun j r=>j=x->∀n,vlen r=some n->slen (ρ.vec x)=n) (L:=fun y=>decide (y<i)) tr 0 s0 (fun j r hj e n hn=>by subst e;exact hln.1 j r n hj hn) (fun k ek hk hl j r hj e n hn=>by
    subst e
    rw[Nat.zero_add]at hl
    have h:k<i:=by simpa using hl
    rcases hbefore k ek h hk with h1|h1
    ·exact hln.2 k ek j r n hk h1 hj hn
    ·exact(h1.wr j (Fzq hj) hx).elim)
   rw[izf,Nat.sub_zero]at this
   exact this x r hr rfl n hn
  have hlt':=hlt
  simp only[St.lt,Bool.and_eq_true]at hlt'
  have hvfree:∀t x,Own e.id x->((dzn (fun j=>listed.getD j false) 0 tr s0).get t).has x=false:=by
   intro t x hx
   rw[hA.eid]at hx
   refine vzj (R:=fun v=>v.has x=false) tr 0 s0 (xzu (by have:=hx.1;omega) (tzy hlt'.1.1 t)) (fun k ek hk hl=>?_)
   rw[Nat.zero_add]at hl
   rcases Nat.lt_trichotomy k i with h|h|h
   ·obtain⟨ok,hok⟩:∃ok,ops[k]?=some ok:=⟨ops[k],by simp⟩
    obtain⟨ek',sk,hk',hAk⟩:=hat k ok hok
    rw[hk]at hk';cases hk'
    exact xzu (by have:=hx.1;omega) hAk.vlt
   ·subst h;rw[hLi]at hl;cases hl
   ·exact Gzu (by rw[hA.eid];exact hx) (hbehind k ek h hk hl).val
  have hwfree:∀k ek,tr[k]?=some ek->listed.getD k false=true->∀j r,ek.wr.get j=some r->¬Own e.id j/\∀x,Own e.id x->r.has x=false:=by
   intro k ek hk hl j r hr
   rcases Nat.lt_trichotomy k i with h|h|h
   ·obtain⟨ok,hok⟩:∃ok,ops[k]?=some ok:=⟨ops[k],by simp⟩
    obtain⟨ek',sk,hk',hAk⟩:=hat k ok hok
    rw[hk]at hk';cases hk'
    have:=ezv hAk.wlt hr
    refine⟨fun hx=>?_,fun x hx=>nzg (by rw[hA.eid]at hx;have:=hx.1;omega) this.2⟩
    rw[hA.eid]at hx;have:=hx.1;omega
   ·subst h;rw[hLi]at hl;cases hl
   ·exact Bzt (hbehind k ek h hk hl).mem hr
  have hsfree:∀j r,s0.mem.get j=some r->¬Own e.id j/\∀x,Own e.id x->r.has x=false:=by
   intro j r hr
   have:=ezv hlt'.1.2 hr
   refine⟨fun hx=>?_,fun x hx=>nzg (by rw[hA.eid]at hx;have:=hx.1;omega) this.2⟩
   rw[hA.eid]at hx;have:=hx.1;omega
  have hmfree:∀j r,(dzn (fun j=>listed.getD j false) 0 tr s0).mem.get j=some r->¬Own e.id j/\∀x,Own e.id x->r.has x=false:=
   ozr (R:=fun j r=>¬Own e.id j/\∀x,Own e.id x->r.has x=false) tr 0 s0 hsfree (fun k ek hk hl j r hr=>by rw[Nat.zero_add]at hl;exact hwfree k ek hk hl j r hr)
  have hfr:Fresh e.id (dzn (fun j=>listed.getD j false) 0 tr s0).mem:=by
   refine⟨fun x hx=>?_,fun x j r hx hj=>(hmfree j r hj).2 x hx⟩
   cases hg:(dzn (fun j=>listed.getD j false) 0 tr s0).mem.get x with
   |none=>rfl
   |some r=>exact absurd hx (hmfree x r hg).1
  have hrel:∀t∈e.uses,ARel F w ρ (s.get t) (a.tmps.getD t undef):=fun t ht=>(hA.get t).rel _ _ _ _ (hget t ht▸hs.fr t)
  have hL':(fun j=>(listed.setIfInBounds i true).getD j false)=fun x=>if x=i then true else listed.getD x false:=by
   funext x
   by_cases h:x=i
   ·subst h;simp[hils]
   ·rw[if_neg h];exact getD_set_ne false (Ne.symm h)
  have next:∀ (F':Cells) (w':World) (ρ':Env) (v:Value),Step X.Mine F w F' w'->czm e.id ρ ρ'->ARel F' w' ρ' e.val v->MemOk F' w' ρ' X.Mine (e.wr++(dzn (fun j=>listed.getD j false) 0 tr s0).mem)->
   wpAnyIn Fence.wide 0 P .any ops.toArray Q fuel (listed.setIfInBounds i true) (a.put o.dst v) w':=by
   intro F' w' ρ' v st hen hv hm
   have hget':∀t,(dzn (fun x=>if x=i then true else listed.getD x false) 0 tr s0).get t=if e.dst=some t then e.val else(dzn (fun j=>listed.getD j false) 0 tr s0).get t:=fun t=>
    vzi (L:=fun j=>listed.getD j false) tr 0 s0 s0 e (by omega) (by simpa using he) hLi rfl (fun k ek hk hlt hl h1 h2=>by
     rw[Nat.zero_add]at hlt hl
     exact(hbehind k ek hlt hk hl).dd t h2 h1)
   have hmem':∀x,(dzn (fun x=>if x=i then true else listed.getD x false) 0 tr s0).mem.get x=(e.wr.get x).or ((dzn (fun j=>listed.getD j false) 0 tr s0).mem.get x):=fun x=>
    vzk (L:=fun j=>listed.getD j false) tr 0 s0 s0 e (by omega) (by simpa using he) hLi rfl (fun k ek hk hlt hl h1 h2=>by
     rw[Nat.zero_add]at hlt hl
     exact(hbehind k ek hlt hk hl).ww x h2 h1)
   refine ih (listed.setIfInBounds i true) F' w' ρ' _ (by simpa using hsz) ?_ (fun j hj=>?_) ?_ ?_
   ·rw[Array.toList_setIfInBounds]
    refine Nzy ?_ hcnt
    rw[Array.getElem?_toList,Array.getElem?_eq_getElem hils]
    rw[Array.getD_eq_getD_getElem?,Array.getElem?_eq_getElem hils]at hLi
    simpa using hLi
   ·intro o2 h2 e2 he2 hb
    simp only
    by_cases hji:j=i
    ·subst hji;exact getD_set_true (hcli o2 h2 e2 he2 hb)
    ·rw[getD_set_ne false (Ne.symm hji)]at hj
     exact getD_set_true (hcl j hj o2 h2 e2 he2 hb)
   ·rw[hL']
    have hold:∀t,ARel F' w' ρ' ((dzn (fun j=>listed.getD j false) 0 tr s0).get t) (a.tmps.getD t undef):=fun t=>
     (hs.fr t).mono (fun i=>¬Own e.id i) st.sub st.cell hen (fun x hx=>hvfree t x (Classical.not_not.1 hx))
    refine⟨?_,fun t=>?_,hm.congr (fun x=>by rw[hmem',Mem.get_append]),?_,st.good hs.good,hs.from0.trans st,fun x hx=>?_⟩
    ·cases hdst:o.dst with
     |none=>exact hs.size
     |some d=>simpa[Act.put]using hs.size
    ·rw[hget',hA.dst]
     cases hdst:o.dst with
     |none=>simpa[Act.put]using hold t
     |some d=>
      have hds:d<a.tmps.size:=by rw[hs.size];have:=hA.ok;rw[hdst]at this;simpa[jzb]using this
      rw[Gzv a d v t hds]
      by_cases hdt:d=t
      ·subst hdt;simpa using hv
      ·simpa[hdt]using hold t
    ·have:(a.put o.dst v).defers=a.defers:=by cases o.dst<;>rfl
     rw[this]
     have h0:=hs.df
     rw[vzh]at h0⊢
     exact pzk (fun i=>¬Own e.id i) st.sub st.cell hen h0 (fun x hx=>ozb (by have:=(Classical.not_not.1 hx).1;rw[hA.eid]at this;omega) hlt'.2)
    ·have h1:=hen x (fun hx'=>by have:=hx'.1;rw[hA.eid]at this;omega)
     have h2:=hs.env0 x hx
     exact⟨h1.1.trans h2.1,h1.2.trans h2.2⟩
   ·refine⟨fun x r n hr hn=>?_,fun k ek x r n hk hl hr hn=>?_⟩
    ·rw[(hen x (hsfree x r hr).1).2];exact hln.1 x r n hr hn
    ·simp only at hl
     by_cases hki:k=i
     ·subst hki
      rw[he]at hk;cases hk
      exact Mz3 (hm.ok x r (by rw[Mem.get_append,hr];rfl)) hn
     ·rw[getD_set_ne false (Ne.symm hki)]at hl
      rw[(hen x (hwfree k ek hk hl x r hr).1).2];exact hln.2 k ek x r n hk hl hr hn
  have hgw:=Jz4 (F:=F) (w:=w) (ρ:=ρ) (s:=s) (a:=a) (ops:=ops) (o:=o) (fun t ht=>hrel t (by rw[hA.uses];exact List.mem_append_right _ ht))
  unfold wpOpIn
  simp only[ho]
  rcases hA.does with⟨hg,out,fl,hst,hob,e1,e2,e3⟩|⟨hg,e1,e2,e3⟩
  ·rw[if_pos (hgw.1 hg)]
   obtain⟨s1,hst1,hrd1,hfr1⟩:∃s1,ezl P hint i o (id0+64 * i) s1=some (out,fl)/\(∀x∈out.rd,(dzn (fun j=>listed.getD j false) 0 tr s0).mem.get x=s1.mem.get x)/\bzx s1=bzx s:=by
    cases hlo:lzb o with
    |true=>
     refine⟨{s with mem:=(dzn (fun j=>listed.getD j false) 0 tr s0).mem},Szf hlo hst (fun x hx n hn=>?_),fun _ _=>rfl,rfl⟩
     rcases hmem x (e2▸hx)with h|⟨_,r,h1,h2⟩
     ·rw[h,←hA.mem];exact hn
     ·obtain⟨n',hn'⟩:=Rz0 h2
      rw[hA.mem]at hn
      obtain⟨r0,hr0,hn0'⟩:=Option.bind_eq_some_iff.1 hn
      have q1:=hpre x (e2▸hx) r0 n hr0 hn0'
      have q2:=Mz3 (hs.mem.ok x r h1) hn'
      rw[h1,Option.bind_some,hn',←q2,q1]
    |false=>
     refine⟨s,hst,fun x hx=>?_,rfl⟩
     rcases hmem x (e2▸hx)with h|⟨h,_⟩
     ·rw[h,hA.mem]
     ·rw[hlo]at h;cases h
   have hsnd:=yz7 hst1 hob F w ρ X.Mine (dzn (fun j=>listed.getD j false) 0 tr s0).mem a hs.mem hs.good (hA.eid▸hfr) hrd1
    (fun x _ i hi=>by rw[hfr1];exact xzu hi.1 (Oz1 hA.lt x)) (fun x hx=>by
     rw[hfr1]
     cases x with
     |tmp t=>exact hrel t (by rw[hA.uses];exact List.mem_append_left _ (List.mem_filterMap.2 ⟨.tmp t,by simpa using hx,rfl⟩))
     |const v=>exact wzb v
     |global g=>exact tzu hs (.global g)
     |func f=>exact .func rfl (by simp) rfl (by simp))
   refine hsnd _ _ ?_
   rintro v w' ⟨F',ρ',st,hen,hv,hm⟩
   exact next F' w' ρ' v st (hA.eid▸hen) (e1▸hv) (e3▸hm)
  ·rw[if_neg (by rw[hgw.2 hg];simp)]
   refine⟨fun _ _=>trivial,?_⟩
   exact next F w ρ undef (Step.refl hs.good) (fun i _=>⟨rfl,rfl⟩) (by rw[e1];exact .tup rfl (by simp)) (by rw[e3];exact hs.mem)
end
theorem Nz3 {P:Program}(hm:P.follows .mixedOrders=true):ezp P Tze:=by
 intro X ops hint K Q id s F w ρ a rid h hlt hn0 hs hK
 obtain⟨tr,s',hp,hd,hk⟩:=Lzg ops 0 id s [] h
 rw[List.nil_append]at hd hk
 obtain⟨hlen,hat,hget,hmem,hdf,hlt'⟩:=Tzz hp s (fun t=>ASub.refl _) rfl hlt
 simp only[Tze,Bool.and_eq_true]at hd
 refine wpIn_wide.1 (wpIn_region_any (n:=0) hm ?_)
 have hs':Sat X F {w with drawn:=w.drawn+1} ρ s a:=by
  have st:Step X.Mine F w F {w with drawn:=w.drawn+1}:=⟨fun _ _ h=>h,fun _ _ _=>rfl,fun _ _ h=>.inl h,hs.good.lt,⟨rfl,rfl,rfl,Nat.le_refl _,fun _ _ _=>rfl⟩⟩
  refine⟨hs.size,fun t=>(hs.fr t).mono' st.sub st.cell,?_,pzk (fun _=>True) st.sub st.cell (fun _ _=>⟨rfl,rfl⟩) hs.df (fun _ h=>absurd trivial h),st.good hs.good,hs.from0.trans st,hs.env0⟩
  have:=hs.mem.step st (fun _=>True) (fun _ _=>⟨rfl,rfl⟩) [] (fun j r _ _=>⟨trivial,fun _ h=>absurd trivial h,fun b _=>⟨rfl,fun _ h=>h⟩⟩) (by simp[Mem.get]) (by simp[Mem.get])
  simpa using this
 refine Qz4 (hint:=hint) (tr:=tr) (s0:=s) (id0:=id) hlen (fun k o ho=>by have:=hat k o ho;simpa using this) hd.1 hd.2 hlt hn0 (fun F' w' ρ' a' hs''=>?_) _ _ F _ ρ a (by simp) ?_ (fun j hj=>?_) ?_ ⟨fun x r n hr hn=>Mz3 (hs'.mem.ok x r hr) hn,fun k ek x r n _ hl=>?_⟩
 ·refine hK s' tr F' w' ρ' a' hk hlt' (hs''.conv hget (fun i=>by rw[hmem]) ?_)
  rw[hdf]
  have:=izf tr.length tr 0 s
  rw[Nat.sub_zero,List.take_length]at this
  rw[←this,vzh]
 ·simp
 ·simp only[Array.getD_eq_getD_getElem?,Array.getElem?_replicate]at hj
  split at hj<;>simp at hj
 ·have:(fun j=>(Array.replicate ops.toArray.size false).getD j false)=fun _=>false:=by
   funext j
   simp only[Array.getD_eq_getD_getElem?,Array.getElem?_replicate]
   split<;>rfl
  rw[this]
  have none:∀ (tr:List Eff) (j:Nat) (s:St),dzn (fun _=>false) j tr s=s:=by
   intro tr
   induction tr with
   |nil=>intros;rfl
   |cons e tr ih=>intro j s;simp only[dzn];exact ih _ _
  rw[none];exact hs'
 ·simp only[Array.getD_eq_getD_getElem?,Array.getElem?_replicate]at hl
  split at hl<;>simp at hl
end Go.Abs
