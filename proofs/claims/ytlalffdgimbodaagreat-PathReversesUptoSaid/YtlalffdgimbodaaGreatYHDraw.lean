/-
  Draw (a part of a claim: our own text).
-/
import Derived.Test.YtlalffdgimbodaaGreatYHFunc
namespace Go.Abs
def az3u (ops:List Oper):List Nat:=
 ops.foldl (fun acc o=>acc++[o.after.toList.foldl (fun s e=>if Region.binds .any e then s|||2 ^ e.on|||acc.getD e.on 0 else s) 0]) []
mutual
def AVal.free (lo:Nat):AVal->Bool
 | .agg cs| .tup cs=>AVal.freeL lo cs
 | .iface _ a=>AVal.free lo a
 | .vec i| .ptr i _| .eptr i _ _ _| .map i| .bsl i _| .view i _ _ _=>decide (i<lo)||decide (lo+64≤i)
 | .func _ a b=>AVal.freeL lo a&&AVal.freeL lo b
 | .any| .pure _| .tt| .ff| .ref _| .anyb| .yld _| .clip _=>true
def AVal.freeL (lo:Nat):List AVal->Bool
 |[]=>true
 |a::l=>AVal.free lo a&&AVal.freeL lo l
end
def Res.free (lo:Nat):Res->Bool
 | .box cs=>AVal.freeL lo cs
 | .vecX _ _ _ _ _ _ i=>decide (i<lo)||decide (lo+64≤i)
 | .vecU _ _ _ _ _ _ _ _ hs=>hs.all fun x=>decide (x.2<lo)||decide (lo+64≤x.2)
 |_=>true
def Iz3 (lo:Nat):Mem->Bool
 |[]=>true
 |(i,r)::m=>(decide (i<lo)||decide (lo+64≤i))&&Res.free lo r&&Iz3 lo m
def ids (m:Mem):List Nat:=m.map (·.1)
def disj (a b:List Nat):Bool:=a.all fun x=> !b.contains x
def Ozb (d:Option Nat)(l:List Nat):Bool:=
 match d with
 |none=>true
 |some t=> !l.contains t
def ozi (o:Oper):Bool:=
 match o.op with
 | .call c=>match c.callee with
   | .builtin .len=>true
   |_=>false
 |_=>false
def vlen:Res->Option Nat
 | .vec _ n _ _ _=>some n
 | .vecU _ n _ _ _ _ _ _ _=>some n
 | .nilv=>some 0
 |_=>none
def isV:Res->Bool
 | .vec _ _ _ _ _=>true
 | .vecU _ _ _ _ _ _ _ _ _=>true
 | .nilv=>true
 |_=>false
def Gzu (l:List Nat):Mem->Bool
 |[]=>true
 |(i,r)::m=>(!l.contains i||isV r)&&Gzu l m
def Nzy (lx:Bool)(x y:Eff):Bool:=
 Ozb x.dst y.uses&&Ozb y.dst x.uses&&Ozb x.dst y.dst.toList&&
 disj (ids x.wr) y.rd&&(disj (ids y.wr) x.rd||(lx&&Gzu x.rd y.wr))&&disj (ids x.wr) (ids y.wr)&&
 AVal.free x.id y.val&&Iz3 x.id y.wr
def Czc (ms:List Nat)(lx:Bool)(x:Eff)(i:Nat):Nat->List Eff->Bool
 |_,[]=>true
 |j,y::l=>((ms.getD j 0).testBit i||Nzy lx x y)&&Czc ms lx x i (j+1) l
def Iz9 (ms:List Nat)(ls:List Bool):Nat->List Eff->Bool
 |_,[]=>true
 |i,x::l=>Czc ms (ls.getD i false) x i (i+1) l&&Iz9 ms ls (i+1) l
def Hzn:Nat->List Oper->Bool
 |_,[]=>true
 |i,o::l=>o.after.toList.all (fun e=> !Region.binds .any e||decide (e.on<i))&&Hzn (i+1) l
def az2z (ops:List Oper)(tr:List Eff):Bool:=Hzn 0 ops&&Iz9 (az3u ops) (ops.map ozi) 0 tr
def czg (s:St)(e:Eff):St:={(s.putD e.dst e.val)with mem:=e.wr++s.mem}
def ez7 (L:Nat->Bool):Nat->List Eff->St->St
 |_,[],s=>s
 |j,e::tr,s=>ez7 L (j+1) tr (if L j then czg s e else s)
theorem ezf (s:St)(e:Eff)(t:Nat):(czg s e).get t=if e.dst=some t then e.val else s.get t:=by
 cases h:e.dst with
 |none=>simp[czg,St.putD,h,St.get]
 |some d=>
  simp only[czg,St.putD,h,St.put,St.get,ozf]
  by_cases e:d=t<;>simp[e]
theorem Qzv (s:St)(e:Eff):(czg s e).df=s.df:=by
 cases h:e.dst<;>simp[czg,St.putD,h,St.put]
theorem Dzc (L:Nat->Bool):∀ (tr:List Eff) (j:Nat) (s:St),(ez7 L j tr s).df=s.df
 |[],j,s=>rfl
 |e::tr,j,s=>by
  simp only[ez7]
  rw[Dzc L tr]
  split
  ·exact Qzv s e
  ·rfl
theorem hzb {L L':Nat->Bool}{t:Nat}:∀ (tr:List Eff) (j:Nat) (s s':St),s.get t=s'.get t->(∀k e,tr[k]?=some e->e.dst=some t->L (j+k)=L' (j+k))->(ez7 L j tr s).get t=(ez7 L' j tr s').get t
 |[],j,s,s',h,_=>h
 |e::tr,j,s,s',h,hL=>by
  simp only[ez7]
  refine hzb tr (j+1) _ _ ?_ (fun k e' he hd=>by have:=hL (k+1) e' (by simpa using he) hd;simpa[Nat.add_assoc,Nat.add_comm 1 k]using this)
  by_cases hd:e.dst=some t
  ·have:=hL 0 e (by simp) hd
   rw[Nat.add_zero]at this
   rw[this]
   split
   ·rw[ezf,ezf,if_pos hd,if_pos hd]
   ·exact h
  ·have e1:∀ (b:Bool) (s:St),(if b then czg s e else s).get t=s.get t:=by
    intro b s
    cases b
    ·rfl
    ·simp only[if_true];rw[ezf,if_neg hd]
   rw[e1,e1];exact h
theorem kzk {L L':Nat->Bool}{i:Nat}:∀ (tr:List Eff) (j:Nat) (s s':St),s.mem.get i=s'.mem.get i->(∀k e,tr[k]?=some e->i∈ids e.wr->L (j+k)=L' (j+k))->(ez7 L j tr s).mem.get i=(ez7 L' j tr s').mem.get i
 |[],j,s,s',h,_=>h
 |e::tr,j,s,s',h,hL=>by
  simp only[ez7]
  refine kzk tr (j+1) _ _ ?_ (fun k e' he hd=>by have:=hL (k+1) e' (by simpa using he) hd;simpa[Nat.add_assoc,Nat.add_comm 1 k]using this)
  by_cases hd:i∈ids e.wr
  ·have:=hL 0 e (by simp) hd
   rw[Nat.add_zero]at this
   rw[this]
   split
   ·simp only[czg,Mem.get_append,h]
   ·exact h
  ·have hn:e.wr.get i=none:=by
    cases hg:e.wr.get i with
    |none=>rfl
    |some r=>exact absurd (List.mem_map.2 ⟨_,gz5 hg,rfl⟩) hd
   have e1:∀ (b:Bool) (s:St),(if b then czg s e else s).mem.get i=s.mem.get i:=by
    intro b s
    cases b
    ·rfl
    ·simp only[if_true,czg,Mem.get_append,hn,Option.none_or]
   rw[e1,e1];exact h
theorem Dzd {L:Nat->Bool}{t n:Nat}:∀ (tr:List Eff) (j:Nat) (s s':St) (en:Eff),j≤n->tr[n-j]?=some en->L n=false->s.get t=s'.get t->
 (∀k e,tr[k]?=some e->n<j+k->L (j+k)=true->e.dst=some t->en.dst=some t->False)->
 (ez7 (fun x=>if x=n then true else L x) j tr s).get t=if en.dst=some t then en.val else(ez7 L j tr s').get t
 |[],j,s,s',en,_,h,_,_,_=>by simp at h
 |e::tr,j,s,s',en,hj,hn,hL,hs,hno=>by
  simp only[ez7]
  by_cases he:j=n
  ·subst he
   simp only[Nat.sub_self,List.getElem?_cons_zero,Option.some.injEq]at hn
   subst hn
   simp only[if_true,hL,Bool.false_eq_true,if_false]
   by_cases hd:e.dst=some t
   ·rw[if_pos hd]
    have key:=hzb (L:=fun x=>if x=j then true else L x) (L':=fun _=>false) (t:=t) tr (j+1) (czg s e) (czg s e) rfl (fun k e' he' hd'=>by
     have hne:¬j+1+k=j:=by omega
     simp only[if_neg hne]
     cases hLk:L (j+1+k)with
     |false=>rfl
     |true=>exact(hno (k+1) e' (by simpa using he') (by omega) (by rw[←hLk];congr 1;omega) hd' hd).elim)
    rw[key]
    have none:∀ (tr:List Eff) (j:Nat) (s:St),ez7 (fun _=>false) j tr s=s:=by
     intro tr
     induction tr with
     |nil=>intros;rfl
     |cons e tr ih=>intro j s;simp only[ez7];exact ih _ _
    rw[none,ezf,if_pos hd]
   ·rw[if_neg hd]
    refine hzb tr (j+1) _ _ (by rw[ezf,if_neg hd];exact hs) (fun k e' _ _=>by rw[if_neg (by omega)])
  ·have hlt:j<n:=by omega
   simp only[if_neg he]
   have hn':tr[n- (j+1)]?=some en:=by
    rw[show n-j=(n- (j+1))+1 by omega]at hn
    simpa using hn
   refine Dzd tr (j+1) _ _ en (by omega) hn' hL ?_ (fun k e' he' hlt' hLk h1 h2=>hno (k+1) e' (by simpa using he') (by omega) (by rw[←hLk];congr 1;omega) h1 h2)
   split
   ·rw[ezf,ezf,hs]
   ·exact hs
theorem Dzf {L:Nat->Bool}{i n:Nat}:∀ (tr:List Eff) (j:Nat) (s s':St) (en:Eff),j≤n->tr[n-j]?=some en->L n=false->s.mem.get i=s'.mem.get i->
 (∀k e,tr[k]?=some e->n<j+k->L (j+k)=true->i∈ids e.wr->i∈ids en.wr->False)->
 (ez7 (fun x=>if x=n then true else L x) j tr s).mem.get i=(en.wr.get i).or ((ez7 L j tr s').mem.get i)
 |[],j,s,s',en,_,h,_,_,_=>by simp at h
 |e::tr,j,s,s',en,hj,hn,hL,hs,hno=>by
  simp only[ez7]
  by_cases he:j=n
  ·subst he
   simp only[Nat.sub_self,List.getElem?_cons_zero,Option.some.injEq]at hn
   subst hn
   simp only[if_true,hL,Bool.false_eq_true,if_false]
   by_cases hd:i∈ids e.wr
   ·have key:=kzk (L:=fun x=>if x=j then true else L x) (L':=fun _=>false) (i:=i) tr (j+1) (czg s e) (czg s e) rfl (fun k e' he' hd'=>by
     have hne:¬j+1+k=j:=by omega
     simp only[if_neg hne]
     cases hLk:L (j+1+k)with
     |false=>rfl
     |true=>exact(hno (k+1) e' (by simpa using he') (by omega) (by rw[←hLk];congr 1;omega) hd' hd).elim)
    rw[key]
    have none:∀ (tr:List Eff) (j:Nat) (s:St),ez7 (fun _=>false) j tr s=s:=by
     intro tr
     induction tr with
     |nil=>intros;rfl
     |cons e tr ih=>intro j s;simp only[ez7];exact ih _ _
    rw[none]
    obtain⟨x,hx,rfl⟩:=List.mem_map.1 hd
    obtain⟨r,hr⟩:=Mzd (m:=e.wr) ⟨x,hx,rfl⟩
    simp only[czg,Mem.get_append,hr,Option.some_or]
   ·have hnn:e.wr.get i=none:=by
     cases hg:e.wr.get i with
     |none=>rfl
     |some r=>exact absurd (List.mem_map.2 ⟨_,gz5 hg,rfl⟩) hd
    rw[hnn,Option.none_or]
    refine kzk tr (j+1) _ _ (by simp only[czg,Mem.get_append,hnn,Option.none_or];exact hs) (fun k e' _ _=>by rw[if_neg (by omega)])
  ·simp only[if_neg he]
   have hn':tr[n- (j+1)]?=some en:=by
    rw[show n-j=(n- (j+1))+1 by omega]at hn
    simpa using hn
   refine Dzf tr (j+1) _ _ en (by omega) hn' hL ?_ (fun k e' he' hlt' hLk h1 h2=>hno (k+1) e' (by simpa using he') (by omega) (by rw[←hLk];congr 1;omega) h1 h2)
   split
   ·simp only[czg,Mem.get_append,hs]
   ·exact hs
theorem Dzg {L:Nat->Bool}{x i:Nat}{R:Res->Prop}:∀ (tr:List Eff) (j:Nat) (s s':St),(s.mem.get x=s'.mem.get x\/(i≤j/\∃r,s.mem.get x=some r/\R r))->
 (∀k e,tr[k]?=some e->x∈ids e.wr->j+k<i->L (j+k)=true)->
 (∀k e,tr[k]?=some e->i≤j+k->L (j+k)=true->∀r,e.wr.get x=some r->R r)->
 (ez7 L j tr s).mem.get x=(ez7 (fun y=>decide (y<i)) j tr s').mem.get x\/∃r,(ez7 L j tr s).mem.get x=some r/\R r
 |[],j,s,s',h,_,_=>h.imp id fun h=>h.2
 |e::tr,j,s,s',h,h1,h2=>by
  simp only[ez7]
  refine Dzg tr (j+1) _ _ ?_ (fun k e' he hd hk=>by have:=h1 (k+1) e' (by simpa using he) hd (by omega);simpa[Nat.add_assoc,Nat.add_comm 1 k]using this)
   (fun k e' he hk hl=>h2 (k+1) e' (by simpa using he) (by omega) (by rw[←hl];congr 1;omega))
  have keep:x∉ids e.wr->∀ (b:Bool) (s:St),(if b then czg s e else s).mem.get x=s.mem.get x:=by
   intro hd b s
   have hn:e.wr.get x=none:=by
    cases hg:e.wr.get x with
    |none=>rfl
    |some r=>exact absurd (List.mem_map.2 ⟨_,gz5 hg,rfl⟩) hd
   cases b
   ·rfl
   ·simp only[if_true,czg,Mem.get_append,hn,Option.none_or]
  by_cases hji:j<i
  ·have he:s.mem.get x=s'.mem.get x:=by
    rcases h with h|h
    ·exact h
    ·exact absurd h.1 (by omega)
   left
   by_cases hd:x∈ids e.wr
   ·have hl:L j=true:=by have:=h1 0 e (by simp) hd (by omega);simpa using this
    rw[hl]
    simp only[if_true,decide_eq_true hji,czg,Mem.get_append,he]
   ·rw[keep hd,keep hd,he]
  ·simp only[decide_eq_false hji,Bool.false_eq_true,if_false]
   by_cases hd:x∈ids e.wr
   ·cases hl:L j with
    |false=>
     simp only[Bool.false_eq_true,if_false]
     exact h.imp id fun h=>⟨by omega,h.2⟩
    |true=>
     right
     obtain⟨y,hy,rfl⟩:=List.mem_map.1 hd
     obtain⟨r,hr⟩:=Mzd (m:=e.wr) ⟨y,hy,rfl⟩
     refine⟨by omega,r,?_,h2 0 e (by simp) (by omega) (by simpa using hl) r hr⟩
     simp only[if_true,czg,Mem.get_append,hr,Option.some_or]
   ·rw[keep hd]
    exact h.imp id fun h=>⟨by omega,h.2⟩
end Go.Abs
