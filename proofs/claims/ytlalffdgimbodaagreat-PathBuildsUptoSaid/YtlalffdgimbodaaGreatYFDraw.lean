/-
  Draw (a part of a claim: our own text).
-/
import Derived.Test.YtlalffdgimbodaaGreatYFFunc
namespace Go.Abs
def az1x (ops:List Oper):List Nat:=
 ops.foldl (fun acc o=>acc++[o.after.toList.foldl (fun s e=>if Region.binds .any e then s|||2 ^ e.on|||acc.getD e.on 0 else s) 0]) []
mutual
def AVal.free (lo:Nat):AVal->Bool
 | .agg cs| .tup cs=>AVal.freeL lo cs
 | .iface _ a=>AVal.free lo a
 | .vec i| .ptr i _| .eptr i _ _ _| .map i| .bsl i _| .view i _ _ _=>decide (i<lo)||decide (lo+64≤i)
 | .func _ a b=>AVal.freeL lo a&&AVal.freeL lo b
 | .any| .pure _| .tt| .ff| .ref _| .anyb| .yld _| .clip _=>true
def AVal.freeL (lo:Nat):List AVal->Bool
 |[]=>true
 |a::l=>AVal.free lo a&&AVal.freeL lo l
end
def Res.free (lo:Nat):Res->Bool
 | .box cs=>AVal.freeL lo cs
 | .vecX _ _ _ _ _ _ i=>decide (i<lo)||decide (lo+64≤i)
 |_=>true
def Hze (lo:Nat):Mem->Bool
 |[]=>true
 |(i,r)::m=>(decide (i<lo)||decide (lo+64≤i))&&Res.free lo r&&Hze lo m
def ids (m:Mem):List Nat:=m.map (·.1)
def disj (a b:List Nat):Bool:=a.all fun x=> !b.contains x
def Nzk (d:Option Nat)(l:List Nat):Bool:=
 match d with
 |none=>true
 |some t=> !l.contains t
def Nz4 (x y:Eff):Bool:=
 Nzk x.dst y.uses&&Nzk y.dst x.uses&&Nzk x.dst y.dst.toList&&
 disj (ids x.wr) y.rd&&disj (ids y.wr) x.rd&&disj (ids x.wr) (ids y.wr)&&
 AVal.free x.id y.val&&Hze x.id y.wr
def Bzk (ms:List Nat)(x:Eff)(i:Nat):Nat->List Eff->Bool
 |_,[]=>true
 |j,y::l=>((ms.getD j 0).testBit i||Nz4 x y)&&Bzk ms x i (j+1) l
def Hzk (ms:List Nat):Nat->List Eff->Bool
 |_,[]=>true
 |i,x::l=>Bzk ms x i (i+1) l&&Hzk ms (i+1) l
def Gzq:Nat->List Oper->Bool
 |_,[]=>true
 |i,o::l=>o.after.toList.all (fun e=> !Region.binds .any e||decide (e.on<i))&&Gzq (i+1) l
def az16 (ops:List Oper)(tr:List Eff):Bool:=Gzq 0 ops&&Hzk (az1x ops) 0 tr
def czx (s:St)(e:Eff):St:={(s.putD e.dst e.val)with mem:=e.wr++s.mem}
def ezp (L:Nat->Bool):Nat->List Eff->St->St
 |_,[],s=>s
 |j,e::tr,s=>ezp L (j+1) tr (if L j then czx s e else s)
theorem ez0 (s:St)(e:Eff)(t:Nat):(czx s e).get t=if e.dst=some t then e.val else s.get t:=by
 cases h:e.dst with
 |none=>simp[czx,St.putD,h,St.get]
 |some d=>
  simp only[czx,St.putD,h,St.put,St.get,oz0]
  by_cases e:d=t<;>simp[e]
theorem Pzu (s:St)(e:Eff):(czx s e).df=s.df:=by
 cases h:e.dst<;>simp[czx,St.putD,h,St.put]
theorem Czm (L:Nat->Bool):∀ (tr:List Eff) (j:Nat) (s:St),(ezp L j tr s).df=s.df
 |[],j,s=>rfl
 |e::tr,j,s=>by
  simp only[ezp]
  rw[Czm L tr]
  split
  ·exact Pzu s e
  ·rfl
theorem gzm {L L':Nat->Bool}{t:Nat}:∀ (tr:List Eff) (j:Nat) (s s':St),s.get t=s'.get t->(∀k e,tr[k]?=some e->e.dst=some t->L (j+k)=L' (j+k))->(ezp L j tr s).get t=(ezp L' j tr s').get t
 |[],j,s,s',h,_=>h
 |e::tr,j,s,s',h,hL=>by
  simp only[ezp]
  refine gzm tr (j+1) _ _ ?_ (fun k e' he hd=>by have:=hL (k+1) e' (by simpa using he) hd;simpa[Nat.add_assoc,Nat.add_comm 1 k]using this)
  by_cases hd:e.dst=some t
  ·have:=hL 0 e (by simp) hd
   rw[Nat.add_zero]at this
   rw[this]
   split
   ·rw[ez0,ez0,if_pos hd,if_pos hd]
   ·exact h
  ·have e1:∀ (b:Bool) (s:St),(if b then czx s e else s).get t=s.get t:=by
    intro b s
    cases b
    ·rfl
    ·simp only[if_true];rw[ez0,if_neg hd]
   rw[e1,e1];exact h
theorem gzn {L L':Nat->Bool}{i:Nat}:∀ (tr:List Eff) (j:Nat) (s s':St),s.mem.get i=s'.mem.get i->(∀k e,tr[k]?=some e->i∈ids e.wr->L (j+k)=L' (j+k))->(ezp L j tr s).mem.get i=(ezp L' j tr s').mem.get i
 |[],j,s,s',h,_=>h
 |e::tr,j,s,s',h,hL=>by
  simp only[ezp]
  refine gzn tr (j+1) _ _ ?_ (fun k e' he hd=>by have:=hL (k+1) e' (by simpa using he) hd;simpa[Nat.add_assoc,Nat.add_comm 1 k]using this)
  by_cases hd:i∈ids e.wr
  ·have:=hL 0 e (by simp) hd
   rw[Nat.add_zero]at this
   rw[this]
   split
   ·simp only[czx,Mem.get_append,h]
   ·exact h
  ·have hn:e.wr.get i=none:=by
    cases hg:e.wr.get i with
    |none=>rfl
    |some r=>exact absurd (List.mem_map.2 ⟨_,gzd hg,rfl⟩) hd
   have e1:∀ (b:Bool) (s:St),(if b then czx s e else s).mem.get i=s.mem.get i:=by
    intro b s
    cases b
    ·rfl
    ·simp only[if_true,czx,Mem.get_append,hn,Option.none_or]
   rw[e1,e1];exact h
theorem Czn {L:Nat->Bool}{t n:Nat}:∀ (tr:List Eff) (j:Nat) (s s':St) (en:Eff),j≤n->tr[n-j]?=some en->L n=false->s.get t=s'.get t->
 (∀k e,tr[k]?=some e->n<j+k->L (j+k)=true->e.dst=some t->en.dst=some t->False)->
 (ezp (fun x=>if x=n then true else L x) j tr s).get t=if en.dst=some t then en.val else(ezp L j tr s').get t
 |[],j,s,s',en,_,h,_,_,_=>by simp at h
 |e::tr,j,s,s',en,hj,hn,hL,hs,hno=>by
  simp only[ezp]
  by_cases he:j=n
  ·subst he
   simp only[Nat.sub_self,List.getElem?_cons_zero,Option.some.injEq]at hn
   subst hn
   simp only[if_true,hL,Bool.false_eq_true,if_false]
   by_cases hd:e.dst=some t
   ·rw[if_pos hd]
    have key:=gzm (L:=fun x=>if x=j then true else L x) (L':=fun _=>false) (t:=t) tr (j+1) (czx s e) (czx s e) rfl (fun k e' he' hd'=>by
     have hne:¬j+1+k=j:=by omega
     simp only[if_neg hne]
     cases hLk:L (j+1+k)with
     |false=>rfl
     |true=>exact(hno (k+1) e' (by simpa using he') (by omega) (by rw[←hLk];congr 1;omega) hd' hd).elim)
    rw[key]
    have none:∀ (tr:List Eff) (j:Nat) (s:St),ezp (fun _=>false) j tr s=s:=by
     intro tr
     induction tr with
     |nil=>intros;rfl
     |cons e tr ih=>intro j s;simp only[ezp];exact ih _ _
    rw[none,ez0,if_pos hd]
   ·rw[if_neg hd]
    refine gzm tr (j+1) _ _ (by rw[ez0,if_neg hd];exact hs) (fun k e' _ _=>by rw[if_neg (by omega)])
  ·have hlt:j<n:=by omega
   simp only[if_neg he]
   have hn':tr[n- (j+1)]?=some en:=by
    rw[show n-j=(n- (j+1))+1 by omega]at hn
    simpa using hn
   refine Czn tr (j+1) _ _ en (by omega) hn' hL ?_ (fun k e' he' hlt' hLk h1 h2=>hno (k+1) e' (by simpa using he') (by omega) (by rw[←hLk];congr 1;omega) h1 h2)
   split
   ·rw[ez0,ez0,hs]
   ·exact hs
theorem Czp {L:Nat->Bool}{i n:Nat}:∀ (tr:List Eff) (j:Nat) (s s':St) (en:Eff),j≤n->tr[n-j]?=some en->L n=false->s.mem.get i=s'.mem.get i->
 (∀k e,tr[k]?=some e->n<j+k->L (j+k)=true->i∈ids e.wr->i∈ids en.wr->False)->
 (ezp (fun x=>if x=n then true else L x) j tr s).mem.get i=(en.wr.get i).or ((ezp L j tr s').mem.get i)
 |[],j,s,s',en,_,h,_,_,_=>by simp at h
 |e::tr,j,s,s',en,hj,hn,hL,hs,hno=>by
  simp only[ezp]
  by_cases he:j=n
  ·subst he
   simp only[Nat.sub_self,List.getElem?_cons_zero,Option.some.injEq]at hn
   subst hn
   simp only[if_true,hL,Bool.false_eq_true,if_false]
   by_cases hd:i∈ids e.wr
   ·have key:=gzn (L:=fun x=>if x=j then true else L x) (L':=fun _=>false) (i:=i) tr (j+1) (czx s e) (czx s e) rfl (fun k e' he' hd'=>by
     have hne:¬j+1+k=j:=by omega
     simp only[if_neg hne]
     cases hLk:L (j+1+k)with
     |false=>rfl
     |true=>exact(hno (k+1) e' (by simpa using he') (by omega) (by rw[←hLk];congr 1;omega) hd' hd).elim)
    rw[key]
    have none:∀ (tr:List Eff) (j:Nat) (s:St),ezp (fun _=>false) j tr s=s:=by
     intro tr
     induction tr with
     |nil=>intros;rfl
     |cons e tr ih=>intro j s;simp only[ezp];exact ih _ _
    rw[none]
    obtain⟨x,hx,rfl⟩:=List.mem_map.1 hd
    obtain⟨r,hr⟩:=Sz5 (m:=e.wr) ⟨x,hx,rfl⟩
    simp only[czx,Mem.get_append,hr,Option.some_or]
   ·have hnn:e.wr.get i=none:=by
     cases hg:e.wr.get i with
     |none=>rfl
     |some r=>exact absurd (List.mem_map.2 ⟨_,gzd hg,rfl⟩) hd
    rw[hnn,Option.none_or]
    refine gzn tr (j+1) _ _ (by simp only[czx,Mem.get_append,hnn,Option.none_or];exact hs) (fun k e' _ _=>by rw[if_neg (by omega)])
  ·simp only[if_neg he]
   have hn':tr[n- (j+1)]?=some en:=by
    rw[show n-j=(n- (j+1))+1 by omega]at hn
    simpa using hn
   refine Czp tr (j+1) _ _ en (by omega) hn' hL ?_ (fun k e' he' hlt' hLk h1 h2=>hno (k+1) e' (by simpa using he') (by omega) (by rw[←hLk];congr 1;omega) h1 h2)
   split
   ·simp only[czx,Mem.get_append,hs]
   ·exact hs
end Go.Abs
