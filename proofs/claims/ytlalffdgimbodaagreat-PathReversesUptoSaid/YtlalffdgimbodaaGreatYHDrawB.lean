/-
  DrawB (a part of a claim: our own text).
-/
import Derived.Test.YtlalffdgimbodaaGreatYHDraw
namespace Go.Abs
inductive Path (P:Program) (nt:Nat) (ops:List Oper) (hint:Nat->Option Hint):Nat->List Oper->Nat->St->List Eff->St->Prop
 |nil {i id:Nat} {s:St}:Path P nt ops hint i [] id s [] s
 |dec {i id:Nat} {rest:List Oper} {s s':St} {tr:List Eff} {t:Nat} {b:Bool} (hx:s.get t=.pure (.bool b))
  (h:Path P nt ops hint i rest id (s.put t (if b then .tt else .ff)) tr s'):Path P nt ops hint i rest id s tr s'
 |run {i id:Nat} {o:Oper} {rest:List Oper} {s s':St} {tr:List Eff} {out:Out} {fl:Bool} (hg:czj ops s o=.run)
  (hst:fzf P hint i o id s=some (out,fl)) (hd:mz6 nt o.dst=true) (ho:Azw id out=true) (hob:holds out.obl)
  (h:Path P nt ops hint (i+1) rest (id+64) (gzy s o out) tr s'):Path P nt ops hint i (o::rest) id s (zzc ops o id out::tr) s'
 |skip {i id:Nat} {o:Oper} {rest:List Oper} {s s':St} {tr:List Eff} (hg:czj ops s o=.skip) (hd:mz6 nt o.dst=true)
  (h:Path P nt ops hint (i+1) rest (id+64) (s.putD o.dst (.tup [])) tr s'):Path P nt ops hint i (o::rest) id s (⟨o.dst,tzd ops o,id,.tup [],[],[]⟩::tr) s'
theorem Rzw {P:Program}{nt:Nat}{ops:List Oper}{hint:Nat->Option Hint}{K:St->List Eff->Prop}:
 ∀ (rest:List Oper) (i id:Nat) (s:St) (tr:List Eff),izz P nt ops hint i rest id s tr K->∃tr' s',Path P nt ops hint i rest id s tr' s'/\K s' (tr++tr')
 |[],i,id,s,tr,h=>⟨[],s,.nil,by simpa[izz]using h⟩
 |o::rest,i,id,s,tr,h=>by
  have run:∀ (s:St),czj ops s o=.run->(match fzf P hint i o id s with
   |some (out,_)=>if mz6 nt o.dst&&Azw id out then andO out.obl (izz P nt ops hint (i+1) rest (id+64) (gzy s o out) (tr++[zzc ops o id out]) K)else False
   |none=>False)->∃tr' s',Path P nt ops hint i (o::rest) id s tr' s'/\K s' (tr++tr'):=by
   intro s hg h
   split at h
   ·rename_i out fl hstep
    split at h
    ·rename_i hc
     simp only[Bool.and_eq_true]at hc
     obtain⟨hob,hrec⟩:=andO_iff.1 h
     obtain⟨tr',s',hp,hk⟩:=Rzw rest _ _ _ _ hrec
     exact⟨_,s',.run hg hstep hc.1 hc.2 hob hp,by simpa using hk⟩
    ·exact h.elim
   ·exact h.elim
  have skip:∀ (s:St),czj ops s o=.skip->(if mz6 nt o.dst then izz P nt ops hint (i+1) rest (id+64) (s.putD o.dst (.tup [])) (tr++[⟨o.dst,tzd ops o,id,.tup [],[],[]⟩]) K else False)->
   ∃tr' s',Path P nt ops hint i (o::rest) id s tr' s'/\K s' (tr++tr'):=by
   intro s hg h
   split at h
   ·rename_i hd
    obtain⟨tr',s',hp,hk⟩:=Rzw rest _ _ _ _ h
    exact⟨_,s',.skip hg hd hp,by simpa using hk⟩
   ·exact h.elim
  simp only[izz]at h
  split at h
  ·rename_i hg;exact run s hg h
  ·rename_i hg;exact skip s hg h
  ·exact h.elim
  ·rename_i t b want hg
   obtain⟨hx,_⟩:=Hzv hg
   cases b with
   |true=>
    have hk:=uz0 (c:=true) hg
    have h':=h.1 rfl
    cases want with
    |true=>obtain⟨tr',s',hp,hq⟩:=run _ hk h';exact⟨tr',s',.dec hx hp,hq⟩
    |false=>obtain⟨tr',s',hp,hq⟩:=skip _ hk h';exact⟨tr',s',.dec hx hp,hq⟩
   |false=>
    have hk:=uz0 (c:=false) hg
    have h':=h.2 rfl
    cases want with
    |true=>obtain⟨tr',s',hp,hq⟩:=skip _ hk h';exact⟨tr',s',.dec hx hp,hq⟩
    |false=>obtain⟨tr',s',hp,hq⟩:=run _ hk h';exact⟨tr',s',.dec hx hp,hq⟩
structure At (P:Program) (nt:Nat) (ops:List Oper) (hint:Nat->Option Hint) (i:Nat) (o:Oper) (e:Eff) (p s:St) (id:Nat):Prop where
 dst:e.dst=o.dst
 uses:e.uses=tzd ops o
 eid:e.id=id
 ok:mz6 nt o.dst=true
 get:∀t,ASub (p.get t) (s.get t)
 mem:s.mem=p.mem
 lt:s.lt id=true
 vlt:e.val.lt (id+64)=true
 wlt:gza (id+64) e.wr=true
 does:(czj ops s o=.run/\∃out fl,fzf P hint i o id s=some (out,fl)/\holds out.obl/\e.val=out.val/\e.rd=out.rd/\e.wr=out.wr)\/
  (czj ops s o=.skip/\e.val=.tup []/\e.rd=[]/\e.wr=[])
def pre:List Eff->St->St
 |[],p=>p
 |e::tr,p=>pre tr (czg p e)
theorem ASub.refl (a:AVal):ASub a a:=⟨fun _ _ _ _ h=>h⟩
theorem ASub.trans {a b c:AVal}(h:ASub a b)(h':ASub b c):ASub a c:=⟨fun F w ρ v x=>h'.rel F w ρ v (h.rel F w ρ v x)⟩
theorem Uz8 (b:Bool):ASub (.pure (.bool b)) (if b then .tt else .ff):=⟨fun F w ρ v h=>by
 have:=h.pure_inv.bool_inv;subst this;cases b
 ·exact .ff
 ·exact .tt⟩
theorem Uz5 (s:St)(o:Oper)(out:Out)(t:Nat):(gzy s o out).get t=if o.dst=some t then out.val else s.get t:=by
 cases h:o.dst with
 |none=>simp[gzy,St.putD,h,St.get]
 |some d=>
  simp only[gzy,St.putD,h,St.put,St.get,ozf]
  by_cases e:d=t<;>simp[e]
theorem Tzr (s:St)(d:Option Nat)(a:AVal)(t:Nat):(s.putD d a).get t=if d=some t then a else s.get t:=by
 cases d with
 |none=>simp[St.putD]
 |some d=>
  simp only[St.putD,St.put,St.get,ozf]
  by_cases e:d=t<;>simp[e]
theorem az41 {P:Program}{nt:Nat}{ops:List Oper}{hint:Nat->Option Hint}{i:Nat}{rest:List Oper}{id:Nat}{s s':St}{tr:List Eff}(h:Path P nt ops hint i rest id s tr s'):
 ∀ (p:St),(∀t,ASub (p.get t) (s.get t))->s.mem=p.mem->s.lt id=true->
 tr.length=rest.length/\(∀k o,rest[k]?=some o->∃e s1,tr[k]?=some e/\At P nt ops hint (i+k) o e (pre (tr.take k) p) s1 (id+64 * k))/\
 (∀t,ASub ((pre tr p).get t) (s'.get t))/\s'.mem=(pre tr p).mem/\s'.df=s.df/\s'.lt (id+64 * rest.length)=true:=by
 induction h with
 |nil=>
  intro p h1 h2 h3
  exact⟨rfl,by simp,h1,h2,rfl,by simpa using h3⟩
 |@dec i id rest s s' tr t b hx h ih=>
  intro p h1 h2 h3
  have:=ih p (fun t'=>by
   have e:=Tzr s (some t) (if b then .tt else .ff) t'
   simp only[St.putD]at e
   rw[e]
   split
   ·rename_i e;cases e
    exact(h1 t).trans (by rw[hx];exact Uz8 b)
   ·exact h1 t') h2 (Kzw h3 (a:=if b then .tt else .ff) (by cases b<;>rfl) (some t))
  exact this
 |@run i id o rest s s' tr out fl hg hst hd ho hob h ih=>
  intro p h1 h2 h3
  obtain⟨hlen,hat,hget,hmem,hdf,hlt⟩:=ih (czg p (zzc ops o id out)) (fun t=>by
   rw[Uz5,ezf]
   by_cases e:o.dst=some t
   ·rw[if_pos e,if_pos (show(zzc ops o id out).dst=some t from e)];exact ASub.refl _
   ·rw[if_neg e,if_neg (show ¬ (zzc ops o id out).dst=some t from e)];exact h1 t) (by simp only[czg,gzy,zzc,h2]) (Nzu h3 ho)
  have ho':=ho
  simp only[Azw,Bool.and_eq_true]at ho'
  refine⟨by simp[hlen],fun k o' hk=>?_,hget,hmem,?_,?_⟩
  ·cases k with
   |zero=>
    simp at hk;subst hk
    exact⟨_,s,rfl,rfl,rfl,rfl,hd,h1,h2,h3,ho'.1,ho'.2,.inl ⟨hg,out,fl,hst,hob,rfl,rfl,rfl⟩⟩
   |succ k=>
    obtain⟨e,s1,h4,h5⟩:=hat k o' (by simpa using hk)
    refine⟨e,s1,by simpa using h4,?_⟩
    rw[show i+(k+1)=i+1+k by omega,show id+64 * (k+1)=id+64+64 * k by omega]
    simpa[pre]using h5
  ·rw[hdf];cases hdst:o.dst<;>simp[gzy,St.putD,hdst,St.put]
  ·rw[List.length_cons,show id+64 * (rest.length+1)=id+64+64 * rest.length by omega];exact hlt
 |@skip i id o rest s s' tr hg hd h ih=>
  intro p h1 h2 h3
  obtain⟨hlen,hat,hget,hmem,hdf,hlt⟩:=ih (czg p ⟨o.dst,tzd ops o,id,.tup [],[],[]⟩) (fun t=>by
   rw[Tzr,ezf]
   simp only
   by_cases e:o.dst=some t
   ·rw[if_pos e,if_pos e];exact ASub.refl _
   ·rw[if_neg e,if_neg e];exact h1 t) (by simp only[czg];cases o.dst<;>simp[St.putD,St.put,h2]) (St.lt_mono (by omega) (Kzw h3 rfl o.dst))
  refine⟨by simp[hlen],fun k o' hk=>?_,hget,hmem,?_,?_⟩
  ·cases k with
   |zero=>
    simp at hk;subst hk
    exact⟨_,s,rfl,rfl,rfl,rfl,hd,h1,h2,h3,rfl,rfl,.inr ⟨hg,rfl,rfl,rfl⟩⟩
   |succ k=>
    obtain⟨e,s1,h4,h5⟩:=hat k o' (by simpa using hk)
    refine⟨e,s1,by simpa using h4,?_⟩
    rw[show i+(k+1)=i+1+k by omega,show id+64 * (k+1)=id+64+64 * k by omega]
    simpa[pre]using h5
  ·rw[hdf];cases hdst:o.dst<;>simp[St.putD,St.put]
  ·rw[List.length_cons,show id+64 * (rest.length+1)=id+64+64 * rest.length by omega];exact hlt
theorem kzl (n:Nat):∀ (tr:List Eff) (j:Nat) (p:St),ez7 (fun x=>decide (x<n)) j tr p=pre (tr.take (n-j)) p
 |[],j,p=>by simp[ez7,pre]
 |e::tr,j,p=>by
  simp only[ez7]
  by_cases h:j<n
  ·rw[if_pos (by simpa using h),kzl n tr,show n-j=(n- (j+1))+1 by omega]
   simp[pre]
  ·rw[if_neg (by simpa using h),kzl n tr,show n-j=0 by omega,show n- (j+1)=0 by omega]
   simp[pre]
theorem Dze {R:AVal->Prop}{L:Nat->Bool}{t:Nat}:∀ (tr:List Eff) (j:Nat) (s:St),R (s.get t)->(∀k e,tr[k]?=some e->L (j+k)=true->R e.val)->R ((ez7 L j tr s).get t)
 |[],j,s,h,_=>h
 |e::tr,j,s,h,hL=>by
  simp only[ez7]
  refine Dze tr (j+1) _ ?_ (fun k e' he hl=>hL (k+1) e' (by simpa using he) (by rw[←hl];congr 1;omega))
  split
  ·rename_i hl
   rw[ezf]
   split
   ·exact hL 0 e (by simp) (by simpa using hl)
   ·exact h
  ·exact h
theorem vzg {R:Nat->Res->Prop}{L:Nat->Bool}:∀ (tr:List Eff) (j:Nat) (s:St),(∀i r,s.mem.get i=some r->R i r)->(∀k e,tr[k]?=some e->L (j+k)=true->∀i r,e.wr.get i=some r->R i r)->∀i r,(ez7 L j tr s).mem.get i=some r->R i r
 |[],j,s,h,_=>h
 |e::tr,j,s,h,hL=>by
  simp only[ez7]
  refine vzg tr (j+1) _ ?_ (fun k e' he hl=>hL (k+1) e' (by simpa using he) (by rw[←hl];congr 1;omega))
  split
  ·rename_i hl
   intro i r hg
   simp only[czg,Mem.get_append]at hg
   cases hw:e.wr.get i with
   |none=>rw[hw]at hg;exact h i r (by simpa using hg)
   |some r'=>rw[hw]at hg;simp at hg;subst hg;exact hL 0 e (by simp) (by simpa using hl) i r' hw
  ·exact h
mutual
theorem Mzb {lo i:Nat}(hi:Own lo i):∀ {a:AVal},a.free lo=true->a.has i=false
 | .agg cs,h=>by simp only[AVal.free]at h;simp only[AVal.has];exact szs hi h
 | .tup cs,h=>by simp only[AVal.free]at h;simp only[AVal.has];exact szs hi h
 | .vec j,h=>by simp[AVal.free]at h;simp[AVal.has];have:=hi.1;have:=hi.2;omega
 | .ptr j _,h=>by simp[AVal.free]at h;simp[AVal.has];have:=hi.1;have:=hi.2;omega
 | .eptr j _ _ _,h=>by simp[AVal.free]at h;simp[AVal.has];have:=hi.1;have:=hi.2;omega
 | .map j,h=>by simp[AVal.free]at h;simp[AVal.has];have:=hi.1;have:=hi.2;omega
 | .bsl j _,h=>by simp[AVal.free]at h;simp[AVal.has];have:=hi.1;have:=hi.2;omega
 | .view j _ _ _,h=>by simp[AVal.free]at h;simp[AVal.has];have:=hi.1;have:=hi.2;omega
 | .iface _ a,h=>by simp only[AVal.free]at h;simp only[AVal.has];exact Mzb hi h
 | .func _ a b,h=>by
   simp only[AVal.free,Bool.and_eq_true]at h
   simp only[AVal.has,szs hi h.1,szs hi h.2,Bool.or_self]
 | .any,_=>rfl
 | .pure _,_=>rfl
 | .tt,_=>rfl
 | .ff,_=>rfl
 | .ref _,_=>rfl
 | .anyb,_=>rfl
 | .clip _,_=>rfl
 | .yld _,_=>rfl
theorem szs {lo i:Nat}(hi:Own lo i):∀ {l:List AVal},AVal.freeL lo l=true->AVal.hasL i l=false
 |[],_=>rfl
 |a::l,h=>by
  simp only[AVal.freeL,Bool.and_eq_true]at h
  simp only[AVal.hasL,Mzb hi h.1,szs hi h.2,Bool.or_self]
end
theorem Iz4 {lo:Nat}:∀ {m:Mem},Iz3 lo m=true->∀ {i:Nat} {r:Res},m.get i=some r->¬Own lo i/\∀x,Own lo x->r.has x=false
 |[],_,i,r,h=>by simp[Mem.get]at h
 |(k,q)::m,hm,i,r,h=>by
  simp only[Iz3,Bool.and_eq_true]at hm
  simp only[Mem.get]at h
  split at h
  ·rename_i e;subst e;cases h
   refine⟨fun ho=>?_,fun x hx=>?_⟩
   ·have:=hm.1.1;have:=ho.1;have:=ho.2;simp at *;omega
   ·cases q with
    |box cs=>exact szs hx hm.1.2
    |vecX _ _ _ _ _ _ i=>have:=hm.1.2;have:=hx.1;have:=hx.2;simp[Res.free]at *;simp[Res.has];omega
    |vecU _ _ _ _ _ _ _ _ hs=>
     have h1:=hm.1.2
     simp only[Res.free,List.all_eq_true,Bool.or_eq_true,decide_eq_true_eq]at h1
     simp only[Res.has,List.any_eq_false,beq_iff_eq]
     exact fun y hy e=>by have:=h1 y hy;have:=hx.1;have:=hx.2;omega
    |_=>rfl
  ·exact Iz4 hm.2 h
theorem MemOk.congr {F:Cells}{w:World}{ρ:Env}{Mine:Nat->Prop}{m m':Mem}(h:MemOk F w ρ Mine m)(he:∀i,m'.get i=m.get i):MemOk F w ρ Mine m':=
 ⟨fun id r hr=>h.ok id r (by rw[←he];exact hr),fun id r b hr=>h.mine id r b (by rw[←he];exact hr),fun id id' r r' b h1 h2=>h.disj id id' r r' b (by rw[←he];exact h1) (by rw[←he];exact h2)⟩
theorem zzw {ms:List Nat}{lx:Bool}{x:Eff}{i:Nat}:∀ {l:List Eff} {j:Nat},Czc ms lx x i j l=true->∀k y,l[k]?=some y->(ms.getD (j+k) 0).testBit i=true\/Nzy lx x y=true
 |[],j,_,k,y,h=>by simp at h
 |z::l,j,h,k,y,hy=>by
  simp only[Czc,Bool.and_eq_true,Bool.or_eq_true]at h
  cases k with
  |zero=>simp at hy;subst hy;simpa using h.1
  |succ k=>
   have:=zzw h.2 k y (by simpa using hy)
   rwa[show j+(k+1)=j+1+k by omega]
theorem xzd {ms:List Nat}{ls:List Bool}:∀ {l:List Eff} {i:Nat},Iz9 ms ls i l=true->∀a b x y,a<b->l[a]?=some x->l[b]?=some y->(ms.getD (i+b) 0).testBit (i+a)=true\/Nzy (ls.getD (i+a) false) x y=true
 |[],i,_,a,b,x,y,_,h,_=>by simp at h
 |z::l,i,h,a,b,x,y,hab,hx,hy=>by
  simp only[Iz9,Bool.and_eq_true]at h
  obtain⟨b,rfl⟩:∃b',b=b'+1:=⟨b-1,by omega⟩
  cases a with
  |zero=>
   simp at hx;subst hx
   have:=zzw h.1 b y (by simpa using hy)
   rwa[show i+(b+1)=i+1+b by omega]
  |succ a=>
   have:=xzd h.2 a b x y (by omega) (by simpa using hx) (by simpa using hy)
   rwa[show i+(b+1)=i+1+b by omega,show i+(a+1)=i+1+a by omega]
theorem Azo {d:Option Nat}{l:List Nat}{t:Nat}(h:Ozb d l=true)(hd:d=some t)(ht:t∈l):False:=by
 subst hd
 simp only[Ozb,Bool.not_eq_true',List.contains_eq_mem,decide_eq_false_iff_not]at h
 exact h ht
theorem Hzj {a b:List Nat}{i:Nat}(h:disj a b=true)(ha:i∈a)(hb:i∈b):False:=by
 simp only[disj,List.all_eq_true,Bool.not_eq_true',List.contains_eq_mem,decide_eq_false_iff_not]at h
 exact h i ha hb
theorem Fz5 {l:List Nat}:∀ {m:Mem},Gzu l m=true->∀ {i:Nat} {r:Res},i∈l->m.get i=some r->isV r=true
 |[],_,i,r,_,h=>by simp[Mem.get]at h
 |(k,q)::m,hm,i,r,hi,h=>by
  simp only[Gzu,Bool.and_eq_true,Bool.or_eq_true,Bool.not_eq_true',List.contains_eq_mem,decide_eq_false_iff_not]at hm
  simp only[Mem.get]at h
  split at h
  ·rename_i e;subst e;cases h
   rcases hm.1 with h1|h1
   ·exact absurd hi h1
   ·exact h1
  ·exact Fz5 hm.2 hi h
structure Apart (lx:Bool) (x y:Eff):Prop where
 xy:∀t,x.dst=some t->t∈y.uses->False
 yx:∀t,y.dst=some t->t∈x.uses->False
 dd:∀t,x.dst=some t->y.dst=some t->False
 wr:∀i,i∈ids x.wr->i∈y.rd->False
 rw:(∀i,i∈ids y.wr->i∈x.rd->False)\/(lx=true/\∀i r,i∈x.rd->y.wr.get i=some r->isV r=true)
 ww:∀i,i∈ids x.wr->i∈ids y.wr->False
 val:y.val.free x.id=true
 mem:Iz3 x.id y.wr=true
theorem Kza {lx:Bool}{x y:Eff}(h:Nzy lx x y=true):Apart lx x y:=by
 simp only[Nzy,Bool.and_eq_true,Bool.or_eq_true]at h
 obtain⟨⟨⟨⟨⟨⟨⟨h1,h2⟩,h3⟩,h4⟩,h5⟩,h6⟩,h7⟩,h8⟩:=h
 exact⟨fun t a b=>Azo h1 a b,fun t a b=>Azo h2 a b,fun t a b=>Azo h3 a (by simp[b]),fun i a b=>Hzj h4 a b,h5.imp (fun h5 i a b=>Hzj h5 a b) (fun h5=>⟨h5.1,fun i r a b=>Fz5 h5.2 a b⟩),fun i a b=>Hzj h6 a b,h7,h8⟩
def slen:Option (Nat×Nat×Nat)->Nat
 |none=>0
 |some x=>x.2.1
theorem Szs {F:Cells}{w:World}{ρ:Env}{id n:Nat}{r:Res}(h:ResOk F w ρ id r)(hr:vlen r=some n):slen (ρ.vec id)=n:=by
 cases r<;>simp only[vlen,Option.some.injEq,reduceCtorEq]at hr
 ·subst hr
  simp only[ResOk]at h
  rw[h];rfl
 ·subst hr
  simp only[ResOk]at h
  obtain⟨_,⟨h1,h2⟩|⟨b,cap,c,h1,_⟩⟩:=h
  ·rw[h1,h2];rfl
  ·rw[h1];rfl
 ·subst hr
  simp only[ResOk]at h
  obtain⟨_,_,⟨h1,h2,_⟩|⟨b,cap,c,h1,_⟩⟩:=h
  ·rw[h1,h2];rfl
  ·rw[h1];rfl
theorem az03 {r:Res}(h:isV r=true):∃n,vlen r=some n:=by
 cases r<;>simp[isV]at h<;>exact⟨_,rfl⟩
theorem Wzf {P:Program}{ts:Array TypeId}{a:AVal}{m M:Mem}{out:Out}(h:Rzb P ts a m=some out)
 (hm:∀x∈out.rd,∀n,(m.get x).bind vlen=some n->(M.get x).bind vlen=some n):Rzb P ts a M=some out:=by
 have key:∀ (id n:Nat),(M.get id).bind vlen=some n->(match M.get id with
  |some (.vec _ n _ _ _)=>some (⟨.pure (.int .i64 n),[id],[],none⟩:Out)
  |some (.vecU _ n _ _ _ _ _ _ _)=>some ⟨.pure (.int .i64 n),[id],[],none⟩
  |some .nilv=>some ⟨.pure (.int .i64 (0:Nat)),[id],[],none⟩
  |_=>none)=some ⟨.pure (.int .i64 n),[id],[],none⟩:=by
  intro id n hn
  cases hg:M.get id with
  |none=>rw[hg]at hn;simp at hn
  |some r=>
   rw[hg]at hn
   cases r<;>simp[vlen]at hn<;>subst hn<;>rfl
 unfold Rzb at h⊢
 split at h
 ·split at h
  ·exact h
  ·exact h
  ·rename_i xa et id hu
   cases hk:m.get id with
   |none=>rw[hk]at h;cases h
   |some r=>
    rw[hk]at h
    cases r<;>simp only[reduceCtorEq,Option.some.injEq]at h
    ·subst h
     exact key _ _ (hm _ (by simp) 0 (by rw[hk];rfl))
    ·subst h
     exact key _ _ (hm _ (by simp) _ (by rw[hk];rfl))
    ·subst h
     exact key _ _ (hm _ (by simp) _ (by rw[hk];rfl))
  ·exact h
  ·exact h
  ·cases h
 ·cases h
theorem az1g {P:Program}{hint:Nat->Option Hint}{i id:Nat}{o:Oper}{s:St}{M:Mem}{out:Out}{fl:Bool}(ho:ozi o=true)(h:fzf P hint i o id s=some (out,fl))
 (hm:∀x∈out.rd,∀n,(s.mem.get x).bind vlen=some n->(M.get x).bind vlen=some n):fzf P hint i o id {s with mem:=M}=some (out,fl):=by
 have he:bzq {s with mem:=M}=bzq s:=rfl
 have key:∀out0 b0,izx P hint i o id s=some (out0,b0)->(∀x∈out0.rd,∀n,(s.mem.get x).bind vlen=some n->(M.get x).bind vlen=some n)->izx P hint i o id {s with mem:=M}=some (out0,b0):=by
  intro out0 b0 h0 hm0
  unfold ozi at ho
  unfold izx at h0⊢
  split at ho
  ·rename_i c hc
   split at ho
   ·rename_i hb
    rw[hc]at h0⊢
    simp only[hb,az3h,Bool.and_false,Bool.false_eq_true,if_false,Bzp,he]at h0⊢
    split at h0
    ·rename_i x hx
     split at h0
     ·exact h0
     ·rename_i h1
      cases h2:Rzb P c.argTypes (bzq s x) s.mem with
      |none=>rw[h2]at h0;simp at h0
      |some o2=>
       rw[h2]at h0
       simp at h0
       rw[Wzf h2 (by rw[h0.1];exact hm0)]
       simp[h0.1,h0.2]
    ·simp at h0
   ·cases ho
  ·cases ho
 unfold fzf at h⊢
 split at h
 ·rename_i out0 b0 h0
  split at h
  ·rename_i o1 hc
   simp only[Option.some.injEq,Prod.mk.injEq]at h
   have hr:out0.rd=out.rd:=by
    rw[←h.1]
    unfold Azn at hc
    split at hc
    ·cases hc;rfl
    ·split at hc
     ·cases hc;rfl
     ·cases hc;rfl
     ·cases hc
    ·split at hc
     ·cases hc;rfl
     ·cases hc
   rw[key _ _ h0 (by rw[hr];exact hm)]
   simp only[hc,h.1,h.2]
  ·cases h
 ·cases h
end Go.Abs
