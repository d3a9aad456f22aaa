import Derived.Test.YtjonhijmljhjlaaGreatYJDraw
open Bool renaming and_eq_true->qm,or_self->wi,or_eq_true->qZ,not_eq_true'->wc
open Go renaming Program->qo
open List renaming length_cons->wB,all_eq_true->ql,contains_eq_mem->zz
namespace Go.Abs
inductive Path (P:qo) (nt:Nat) (ops:List Oper) (hint:Nat->Option Hint):Nat->List Oper->Nat->St->List Eff->St->Prop
 |nil {i id:Nat} {s:St}:Path P nt ops hint i [] id s [] s
 |dec {i id:Nat} {rest:List Oper} {s s':St} {tr:List Eff} {t:Nat} {b:Bool} (hx:s.get t=.pure (.bool b))
  (h:Path P nt ops hint i rest id (s.put t (if b then .tt else .ff)) tr s'):Path P nt ops hint i rest id s tr s'
 |run {i id:Nat} {o:Oper} {rest:List Oper} {s s':St} {tr:List Eff} {out:Out} {fl:Bool} (hg:dzc ops s o=.run)
  (hst:gza P hint i o id s=some (out,fl)) (hd:nzm nt o.dst=true) (ho:Dzj id out=true) (hob:holds out.obl)
  (h:Path P nt ops hint (i+1) rest (id+64) (iz5 s o out) tr s'):Path P nt ops hint i (o::rest) id s (Bzr ops o id out::tr) s'
 |skip {i id:Nat} {o:Oper} {rest:List Oper} {s s':St} {tr:List Eff} (hg:dzc ops s o=.skip) (hd:nzm nt o.dst=true)
  (h:Path P nt ops hint (i+1) rest (id+64) (s.putD o.dst (.tup [])) tr s'):Path P nt ops hint i (o::rest) id s (⟨o.dst,vze ops o,id,.tup [],[],[]⟩::tr) s'
theorem Wz7 {P:qo}{nt:Nat}{ops:List Oper}{hint:Nat->Option Hint}{K:St->List Eff->Prop}:
 ∀ (rest:List Oper) (i id:Nat) (s:St) (tr:List Eff),kz4 P nt ops hint i rest id s tr K->∃tr' s',Path P nt ops hint i rest id s tr' s'/\K s' (tr++tr')
 |[],i,id,s,tr,h=>⟨[],s,.nil,by simpa[kz4]using h⟩
 |o::rest,i,id,s,tr,h=>by
  have run:∀ (s:St),dzc ops s o=.run->(match gza P hint i o id s with
   |some (out,_)=>if nzm nt o.dst&&Dzj id out then andO out.obl (kz4 P nt ops hint (i+1) rest (id+64) (iz5 s o out) (tr++[Bzr ops o id out]) K)else False
   |none=>False)->∃tr' s',Path P nt ops hint i (o::rest) id s tr' s'/\K s' (tr++tr'):=by
   intro s hg h;split at h
   ·rename_i out fl hstep;split at h
    ·rename_i hc;simp only[qm]at hc;obtain⟨hob,hrec⟩:=andO_iff.1 h;obtain⟨tr',s',hp,hk⟩:=Wz7 rest _ _ _ _ hrec;exact⟨_,s',.run hg hstep hc.1 hc.2 hob hp,by simpa using hk⟩
    ·exact h.elim
   ·exact h.elim
  have skip:∀ (s:St),dzc ops s o=.skip->(if nzm nt o.dst then kz4 P nt ops hint (i+1) rest (id+64) (s.putD o.dst (.tup [])) (tr++[⟨o.dst,vze ops o,id,.tup [],[],[]⟩]) K else False)->
   ∃tr' s',Path P nt ops hint i (o::rest) id s tr' s'/\K s' (tr++tr'):=by
   intro s hg h;split at h
   ·rename_i hd;obtain⟨tr',s',hp,hk⟩:=Wz7 rest _ _ _ _ h;exact⟨_,s',.skip hg hd hp,by simpa using hk⟩
   ·exact h.elim
  simp only[kz4]at h;split at h
  ·rename_i hg;exact run s hg h
  ·rename_i hg;exact skip s hg h
  ·exact h.elim
  ·rename_i t b want hg;obtain⟨hx,_⟩:=Lz1 hg;cases b with
   |true=>
    have hk:=wz1 (c:=true) hg;have h':=h.1 rfl;cases want with
    |true=>obtain⟨tr',s',hp,hq⟩:=run _ hk h';exact⟨tr',s',.dec hx hp,hq⟩
    |false=>obtain⟨tr',s',hp,hq⟩:=skip _ hk h';exact⟨tr',s',.dec hx hp,hq⟩
   |false=>
    have hk:=wz1 (c:=false) hg;have h':=h.2 rfl;cases want with
    |true=>obtain⟨tr',s',hp,hq⟩:=skip _ hk h';exact⟨tr',s',.dec hx hp,hq⟩
    |false=>obtain⟨tr',s',hp,hq⟩:=run _ hk h';exact⟨tr',s',.dec hx hp,hq⟩
structure At (P:qo) (nt:Nat) (ops:List Oper) (hint:Nat->Option Hint) (i:Nat) (o:Oper) (e:Eff) (p s:St) (id:Nat):Prop where
 dst:e.dst=o.dst
 uses:e.uses=vze ops o
 eid:e.id=id
 ok:nzm nt o.dst=true
 get:∀t,ASub (p.get t) (s.get t)
 mem:s.mem=p.mem
 lt:s.lt id=true
 vlt:e.val.lt (id+64)=true
 wlt:hz9 (id+64) e.wr=true
 does:(dzc ops s o=.run/\∃out fl,gza P hint i o id s=some (out,fl)/\holds out.obl/\e.val=out.val/\e.rd=out.rd/\e.wr=out.wr)\/
  (dzc ops s o=.skip/\e.val=.tup []/\e.rd=[]/\e.wr=[])
def pre:List Eff->St->St
 |[],p=>p
 |e::tr,p=>pre tr (dz5 p e)
theorem ASub.refl (a:AVal):ASub a a:=⟨λ_ _ _ _ h=>h⟩
theorem ASub.trans {a b c:AVal}(h:ASub a b)(h':ASub b c):ASub a c:=⟨λF w ρ v x=>h'.rel F w ρ v (h.rel F w ρ v x)⟩
theorem Yzx (b:Bool):ASub (.pure (.bool b)) (if b then .tt else .ff):=⟨λF w ρ v h=>by
 have:=h.pure_inv.bool_inv;subst this;cases b
 ·exact .ff
 ·exact .tt⟩
theorem Yzv (s:St)(o:Oper)(out:Out)(t:Nat):(iz5 s o out).get t=if o.dst=some t then out.val else s.get t:=by
 cases h:o.dst with
 |none=>simp[iz5,St.putD,h,St.get]
 |some d=>
  simp only[iz5,St.putD,h,St.put,St.get,qze];by_cases e:d=t<;>simp[e]
theorem Yza (s:St)(d:Option Nat)(a:AVal)(t:Nat):(s.putD d a).get t=if d=some t then a else s.get t:=by
 cases d with
 |none=>simp[St.putD]
 |some d=>
  simp only[St.putD,St.put,St.get,qze];by_cases e:d=t<;>simp[e]
theorem az96 {P:qo}{nt:Nat}{ops:List Oper}{hint:Nat->Option Hint}{i:Nat}{rest:List Oper}{id:Nat}{s s':St}{tr:List Eff}(h:Path P nt ops hint i rest id s tr s'):
 ∀ (p:St),(∀t,ASub (p.get t) (s.get t))->s.mem=p.mem->s.lt id=true->
 tr.length=rest.length/\(∀k o,rest[k]?=some o->∃e s1,tr[k]?=some e/\At P nt ops hint (i+k) o e (pre (tr.take k) p) s1 (id+64 * k))/\
 (∀t,ASub ((pre tr p).get t) (s'.get t))/\s'.mem=(pre tr p).mem/\s'.df=s.df/\s'.lt (id+64 * rest.length)=true:=by
 induction h with
 |nil=>
  intro p h1 h2 h3;exact⟨rfl,by simp,h1,h2,rfl,by simpa using h3⟩
 |@dec i id rest s s' tr t b hx h ih=>
  intro p h1 h2 h3;have:=ih p (λt'=>by
   have e:=Yza s (some t) (if b then .tt else .ff) t';simp only[St.putD]at e;rw[e];split
   ·rename_i e;cases e;exact(h1 t).trans (by rw[hx];exact Yzx b)
   ·exact h1 t') h2 (Ozp h3 (a:=if b then .tt else .ff) (by cases b<;>rfl) (some t))
  exact this
 |@run i id o rest s s' tr out fl hg hst hd ho hob h ih=>
  intro p h1 h2 h3;obtain⟨hlen,hat,hget,hmem,hdf,hlt⟩:=ih (dz5 p (Bzr ops o id out)) (λt=>by
   rw[Yzv,fzc];by_cases e:o.dst=some t
   ·rw[qc e,qc (show(Bzr ops o id out).dst=some t from e)];exact ASub.refl _
   ·rw[qb e,qb (show ¬ (Bzr ops o id out).dst=some t from e)];exact h1 t) (by simp only[dz5,iz5,Bzr,h2]) (Rzq h3 ho)
  have ho':=ho;simp only[Dzj,qm]at ho';refine⟨by simp[hlen],λk o' hk=>?_,hget,hmem,?_,?_⟩
  ·cases k with
   |zero=>
    simp at hk;subst hk;exact⟨_,s,rfl,rfl,rfl,rfl,hd,h1,h2,h3,ho'.1,ho'.2,.inl ⟨hg,out,fl,hst,hob,rfl,rfl,rfl⟩⟩
   |succ k=>
    obtain⟨e,s1,h4,h5⟩:=hat k o' (by simpa using hk);refine⟨e,s1,by simpa using h4,?_⟩;rw[show i+(k+1)=i+1+k from qa,show id+64 * (k+1)=id+64+64 * k from qa];simpa[pre]using h5
  ·rw[hdf];cases hdst:o.dst<;>simp[iz5,St.putD,hdst,St.put]
  ·rw[wB,show id+64 * (rest.length+1)=id+64+64 * rest.length from qa];exact hlt
 |@skip i id o rest s s' tr hg hd h ih=>
  intro p h1 h2 h3;obtain⟨hlen,hat,hget,hmem,hdf,hlt⟩:=ih (dz5 p ⟨o.dst,vze ops o,id,.tup [],[],[]⟩) (λt=>by
   rw[Yza,fzc];simp only;by_cases e:o.dst=some t
   ·rw[qc e,qc e];exact ASub.refl _
   ·rw[qb e,qb e];exact h1 t) (by simp only[dz5];cases o.dst<;>simp[St.putD,St.put,h2]) (St.lt_mono qa (Ozp h3 rfl o.dst))
  refine⟨by simp[hlen],λk o' hk=>?_,hget,hmem,?_,?_⟩
  ·cases k with
   |zero=>
    simp at hk;subst hk;exact⟨_,s,rfl,rfl,rfl,rfl,hd,h1,h2,h3,rfl,rfl,.inr ⟨hg,rfl,rfl,rfl⟩⟩
   |succ k=>
    obtain⟨e,s1,h4,h5⟩:=hat k o' (by simpa using hk);refine⟨e,s1,by simpa using h4,?_⟩;rw[show i+(k+1)=i+1+k from qa,show id+64 * (k+1)=id+64+64 * k from qa];simpa[pre]using h5
  ·rw[hdf];cases hdst:o.dst<;>simp[St.putD,St.put]
  ·rw[wB,show id+64 * (rest.length+1)=id+64+64 * rest.length from qa];exact hlt
theorem lzs (n:Nat):∀ (tr:List Eff) (j:Nat) (p:St),fz4 (λx=>decide (x<n)) j tr p=pre (tr.take (n-j)) p
 |[],j,p=>by simp[fz4,pre]
 |e::tr,j,p=>by
  simp only[fz4];by_cases h:j<n
  ·rw[qc (by simpa using h),lzs n tr,show n-j=(n- (j+1))+1 from qa];simp[pre]
  ·rw[qb (by simpa using h),lzs n tr,show n-j=0 from qa,show n- (j+1)=0 from qa];simp[pre]
theorem Gzb {R:AVal->Prop}{L:Nat->Bool}{t:Nat}:∀ (tr:List Eff) (j:Nat) (s:St),R (s.get t)->(∀k e,tr[k]?=some e->L (j+k)=true->R e.val)->R ((fz4 L j tr s).get t)
 |[],j,s,h,_=>h
 |e::tr,j,s,h,hL=>by
  simp only[fz4];refine Gzb tr (j+1) _ ?_ (λk e' he hl=>hL (k+1) e' (by simpa using he) (by rw[<-hl];congr 1;omega));split
  ·rename_i hl;rw[fzc];split
   ·exact hL 0 e (by simp) (by simpa using hl)
   ·exact h
  ·exact h
theorem xzi {R:Nat->Res->Prop}{L:Nat->Bool}:∀ (tr:List Eff) (j:Nat) (s:St),(∀i r,s.mem.get i=some r->R i r)->(∀k e,tr[k]?=some e->L (j+k)=true->∀i r,e.wr.get i=some r->R i r)->∀i r,(fz4 L j tr s).mem.get i=some r->R i r
 |[],j,s,h,_=>h
 |e::tr,j,s,h,hL=>by
  simp only[fz4];refine xzi tr (j+1) _ ?_ (λk e' he hl=>hL (k+1) e' (by simpa using he) (by rw[<-hl];congr 1;omega));split
  ·rename_i hl;intro i r hg;simp only[dz5,Mem.get_append]at hg;cases hw:e.wr.get i with
   |none=>rw[hw]at hg;exact h i r (by simpa using hg)
   |some r'=>rw[hw]at hg;simp at hg;subst hg;exact hL 0 e (by simp) (by simpa using hl) i r' hw
  ·exact h
mutual
theorem Qz2 {lo i:Nat}(hi:Own lo i):∀ {a:AVal},a.free lo=true->a.has i=false
 | .agg cs,h=>by simp only[AVal.free]at h;simp only[AVal.has];exact uzu hi h
 | .tup cs,h=>by simp only[AVal.free]at h;simp only[AVal.has];exact uzu hi h
 | .vec j,h=>by simp[AVal.free]at h;simp[AVal.has];have:=hi.1;have:=hi.2;omega
 | .ptr j _,h=>by simp[AVal.free]at h;simp[AVal.has];have:=hi.1;have:=hi.2;omega
 | .eptr j _ _ _,h=>by simp[AVal.free]at h;simp[AVal.has];have:=hi.1;have:=hi.2;omega
 | .map j,h=>by simp[AVal.free]at h;simp[AVal.has];have:=hi.1;have:=hi.2;omega
 | .bsl j _,h=>by simp[AVal.free]at h;simp[AVal.has];have:=hi.1;have:=hi.2;omega
 | .view j _ _ _,h=>by simp[AVal.free]at h;simp[AVal.has];have:=hi.1;have:=hi.2;omega
 | .iface _ a,h=>by simp only[AVal.free]at h;simp only[AVal.has];exact Qz2 hi h
 | .func _ a b,h=>by
   simp only[AVal.free,qm]at h;simp only[AVal.has,uzu hi h.1,uzu hi h.2,wi]
 | .any,_=>rfl
 | .pure _,_=>rfl
 | .tt,_=>rfl
 | .ff,_=>rfl
 | .ref _,_=>rfl
 | .anyb,_=>rfl
 | .clip _,_=>rfl
 | .yld _,_=>rfl
theorem uzu {lo i:Nat}(hi:Own lo i):∀ {l:List AVal},AVal.freeL lo l=true->AVal.hasL i l=false
 |[],_=>rfl
 |a::l,h=>by
  simp only[AVal.freeL,qm]at h;simp only[AVal.hasL,Qz2 hi h.1,uzu hi h.2,wi]
end
theorem Lzh {lo:Nat}:∀ {m:Mem},Lzg lo m=true->∀ {i:Nat} {r:Res},m.get i=some r->¬Own lo i/\∀x,Own lo x->r.has x=false
 |[],_,i,r,h=>by simp[Mem.get]at h
 |(k,q)::m,hm,i,r,h=>by
  simp only[Lzg,qm]at hm;simp only[Mem.get]at h;split at h
  ·rename_i e;subst e;cases h;refine⟨λho=>?_,λx hx=>?_⟩
   ·have:=hm.1.1;have:=ho.1;have:=ho.2;simp at *;omega
   ·cases q with
    |box cs=>exact uzu hx hm.1.2
    |vecX _ _ _ _ _ _ i=>have:=hm.1.2;have:=hx.1;have:=hx.2;simp[Res.free]at *;simp[Res.has];omega
    |vecU _ _ _ _ _ _ _ _ hs=>
     have h1:=hm.1.2;simp only[Res.free,ql,qZ,qf]at h1;simp only[Res.has,List.any_eq_false,qj];exact λy hy e=>by have:=h1 y hy;have:=hx.1;have:=hx.2;omega
    |_=>rfl
  ·exact Lzh hm.2 h
theorem MemOk.congr {F:Cells}{w:World}{ρ:Env}{Mine:Nat->Prop}{m m':Mem}(h:MemOk F w ρ Mine m)(he:∀i,m'.get i=m.get i):MemOk F w ρ Mine m':=
 ⟨λid r hr=>h.ok id r (by rw[<-he];exact hr),λid r b hr=>h.mine id r b (by rw[<-he];exact hr),λid id' r r' b h1 h2=>h.disj id id' r r' b (by rw[<-he];exact h1) (by rw[<-he];exact h2)⟩
theorem Czg {ms:List Nat}{lx:Bool}{x:Eff}{i:Nat}:∀ {l:List Eff} {j:Nat},Fz4 ms lx x i j l=true->∀k y,l[k]?=some y->(ms.getD (j+k) 0).testBit i=true\/Rzu lx x y=true
 |[],j,_,k,y,h=>by simp at h
 |z::l,j,h,k,y,hy=>by
  simp only[Fz4,qm,qZ]at h;cases k with
  |zero=>simp at hy;subst hy;simpa using h.1
  |succ k=>
   have:=Czg h.2 k y (by simpa using hy);rwa[show j+(k+1)=j+1+k from qa]
theorem zzk {ms:List Nat}{ls:List Bool}:∀ {l:List Eff} {i:Nat},Lzr ms ls i l=true->∀a b x y,a<b->l[a]?=some x->l[b]?=some y->(ms.getD (i+b) 0).testBit (i+a)=true\/Rzu (ls.getD (i+a) false) x y=true
 |[],i,_,a,b,x,y,_,h,_=>by simp at h
 |z::l,i,h,a,b,x,y,hab,hx,hy=>by
  simp only[Lzr,qm]at h;obtain⟨b,rfl⟩:∃b',b=b'+1:=⟨b-1,qa⟩;cases a with
  |zero=>
   simp at hx;subst hx;have:=Czg h.1 b y (by simpa using hy);rwa[show i+(b+1)=i+1+b from qa]
  |succ a=>
   have:=zzk h.2 a b x y qa (by simpa using hx) (by simpa using hy);rwa[show i+(b+1)=i+1+b from qa,show i+(a+1)=i+1+a from qa]
theorem Dzc {d:Option Nat}{l:List Nat}{t:Nat}(h:Sza d l=true)(hd:d=some t)(ht:t∈l):False:=by
 subst hd;simp only[Sza,wc,zz,qi]at h;exact h ht
theorem Kzn {a b:List Nat}{i:Nat}(h:disj a b=true)(ha:i∈a)(hb:i∈b):False:=by
 simp only[disj,ql,wc,zz,qi]at h;exact h i ha hb
theorem Izb {l:List Nat}:∀ {m:Mem},Kz0 l m=true->∀ {i:Nat} {r:Res},i∈l->m.get i=some r->isV r=true
 |[],_,i,r,_,h=>by simp[Mem.get]at h
 |(k,q)::m,hm,i,r,hi,h=>by
  simp only[Kz0,qm,qZ,wc,zz,qi]at hm;simp only[Mem.get]at h;split at h
  ·rename_i e;subst e;cases h;rcases hm.1 with h1|h1
   ·exact absurd hi h1
   ·exact h1
  ·exact Izb hm.2 hi h
structure Apart (lx:Bool) (x y:Eff):Prop where
 xy:∀t,x.dst=some t->t∈y.uses->False
 yx:∀t,y.dst=some t->t∈x.uses->False
 dd:∀t,x.dst=some t->y.dst=some t->False
 wr:∀i,i∈ids x.wr->i∈y.rd->False
 rw:(∀i,i∈ids y.wr->i∈x.rd->False)\/(lx=true/\∀i r,i∈x.rd->y.wr.get i=some r->isV r=true)
 ww:∀i,i∈ids x.wr->i∈ids y.wr->False
 val:y.val.free x.id=true
 mem:Lzg x.id y.wr=true
theorem Nzz {lx:Bool}{x y:Eff}(h:Rzu lx x y=true):Apart lx x y:=by
 simp only[Rzu,qm,qZ]at h;obtain⟨⟨⟨⟨⟨⟨⟨h1,h2⟩,h3⟩,h4⟩,h5⟩,h6⟩,h7⟩,h8⟩:=h;exact⟨λt a b=>Dzc h1 a b,λt a b=>Dzc h2 a b,λt a b=>Dzc h3 a (by simp[b]),λi a b=>Kzn h4 a b,h5.imp (λh5 i a b=>Kzn h5 a b) (λh5=>⟨h5.1,λi r a b=>Izb h5.2 a b⟩),λi a b=>Kzn h6 a b,h7,h8⟩
def slen:Option (Nat×Nat×Nat)->Nat
 |none=>0
 |some x=>x.2.1
theorem Xz5 {F:Cells}{w:World}{ρ:Env}{id n:Nat}{r:Res}(h:ResOk F w ρ id r)(hr:vlen r=some n):slen (ρ.vec id)=n:=by
 cases r<;>simp only[vlen,Option.some.injEq,reduceCtorEq]at hr
 ·subst hr;simp only[ResOk]at h;rw[h];rfl
 ·subst hr;simp only[ResOk]at h;obtain⟨_,⟨h1,h2⟩|⟨b,cap,c,h1,_⟩⟩:=h
  ·rw[h1,h2];rfl
  ·rw[h1];rfl
 ·subst hr;simp only[ResOk]at h;obtain⟨_,_,⟨h1,h2,_⟩|⟨b,cap,c,h1,_⟩⟩:=h
  ·rw[h1,h2];rfl
  ·rw[h1];rfl
theorem az57 {r:Res}(h:isV r=true):∃n,vlen r=some n:=by
 cases r<;>simp[isV]at h<;>exact⟨_,rfl⟩
theorem az0y {P:qo}{ts:Array TypeId}{a:AVal}{m M:Mem}{out:Out}(h:Vzl P ts a m=some out)
 (hm:∀x∈out.rd,∀n,(m.get x).bind vlen=some n->(M.get x).bind vlen=some n):Vzl P ts a M=some out:=by
 have key:∀ (id n:Nat),(M.get id).bind vlen=some n->(match M.get id with
  |some (.vec _ n _ _ _)=>some (⟨.pure (.int .i64 n),[id],[],none⟩:Out)
  |some (.vecU _ n _ _ _ _ _ _ _)=>some ⟨.pure (.int .i64 n),[id],[],none⟩
  |some .nilv=>some ⟨.pure (.int .i64 (0:Nat)),[id],[],none⟩
  |_=>none)=some ⟨.pure (.int .i64 n),[id],[],none⟩:=by
  intro id n hn;cases hg:M.get id with
  |none=>rw[hg]at hn;simp at hn
  |some r=>
   rw[hg]at hn;cases r<;>simp[vlen]at hn<;>subst hn<;>rfl
 unfold Vzl at h⊢;split at h
 ·split at h
  ·exact h
  ·exact h
  ·rename_i xa et id hu;cases hk:m.get id with
   |none=>rw[hk]at h;cases h
   |some r=>
    rw[hk]at h;cases r<;>simp only[reduceCtorEq,Option.some.injEq]at h
    ·subst h;exact key _ _ (hm _ (by simp) 0 (by rw[hk];rfl))
    ·subst h;exact key _ _ (hm _ (by simp) _ (by rw[hk];rfl))
    ·subst h;exact key _ _ (hm _ (by simp) _ (by rw[hk];rfl))
  ·exact h
  ·exact h
  ·cases h
 ·cases h
theorem az6j {P:qo}{hint:Nat->Option Hint}{i id:Nat}{o:Oper}{s:St}{M:Mem}{out:Out}{fl:Bool}(ho:qzh o=true)(h:gza P hint i o id s=some (out,fl))
 (hm:∀x∈out.rd,∀n,(s.mem.get x).bind vlen=some n->(M.get x).bind vlen=some n):gza P hint i o id {s with mem:=M}=some (out,fl):=by
 have he:cza {s with mem:=M}=cza s:=rfl;have key:∀out0 b0,kz3 P hint i o id s=some (out0,b0)->(∀x∈out0.rd,∀n,(s.mem.get x).bind vlen=some n->(M.get x).bind vlen=some n)->kz3 P hint i o id {s with mem:=M}=some (out0,b0):=by
  intro out0 b0 h0 hm0;unfold qzh at ho;unfold kz3 at h0⊢;split at ho
  ·rename_i c hc;split at ho
   ·rename_i hb;rw[hc]at h0⊢;simp only[hb,az8k,Bool.and_false,Bool.false_eq_true,if_false,Ezj,he]at h0⊢;split at h0
    ·rename_i x hx;split at h0
     ·exact h0
     ·rename_i h1;cases h2:Vzl P c.argTypes (cza s x) s.mem with
      |none=>rw[h2]at h0;simp at h0
      |some o2=>
       rw[h2]at h0;simp at h0;rw[az0y h2 (by rw[h0.1];exact hm0)];simp[h0.1,h0.2]
    ·simp at h0
   ·cases ho
  ·cases ho
 unfold gza at h⊢;split at h
 ·rename_i out0 b0 h0;split at h
  ·rename_i o1 hc;simp only[Option.some.injEq,Prod.mk.injEq]at h;have hr:out0.rd=out.rd:=by
    rw[<-h.1];unfold Dzb at hc;split at hc
    ·cases hc;rfl
    ·split at hc
     ·cases hc;rfl
     ·cases hc;rfl
     ·cases hc
    ·split at hc
     ·cases hc;rfl
     ·cases hc
   rw[key _ _ h0 (by rw[hr];exact hm)];simp only[hc,h.1,h.2]
  ·cases h
 ·cases h
end Go.Abs
