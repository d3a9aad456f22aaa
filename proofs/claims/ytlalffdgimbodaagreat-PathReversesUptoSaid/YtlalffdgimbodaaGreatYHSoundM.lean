/-
  SoundM (a part of a claim: our own text).
-/
import Derived.Test.YtlalffdgimbodaaGreatYHSoundL
namespace Go.Abs
variable {P:Program} {m:Mem}
theorem pzt {F:Cells}{w:World}{ρ:Env}{Mine:Nat->Prop}{M:Mem}(hm:MemOk F w ρ Mine M)(g:Good F w Mine){js:List Nat}:∀ {ex l:List AVal} {vs:List Value},l.length=vs.length->
 (∀ (j:Nat) (a:AVal) (v:Value),l[j]?=some a->vs[j]?=some v->ARel F w ρ a v)->(∀i∈(bzs m ex l).2,i∈js)->(∀i∈(bzs m ex l).2,M.get i=m.get i)->
 (bzs m ex l).1.length=vs.length/\∀ (j:Nat) (a:AVal) (v:Value),(bzs m ex l).1[j]?=some a->vs[j]?=some v->ARel (dzo F w ρ m js) w ρ a v
 |_,[],[],_,_,_,_=>by simp[bzs]
 |_,[],_::_,h,_,_,_=>by simp at h
 |_,_::_,[],h,_,_,_=>by simp at h
 |ex,a::l,v::vs,hl,hr,hsub,hrd=>by
  have hl':l.length=vs.length:=by simpa using hl
  have hr':∀ (j:Nat) (a:AVal) (v:Value),l[j]?=some a->vs[j]?=some v->ARel F w ρ a v:=fun j a v ha hv=>hr (j+1) a v (by simpa using ha) (by simpa using hv)
  have h0:=hr 0 a v (by simp) (by simp)
  have hF:∀b o,F b o->dzo F w ρ m js b o:=fun b o h=>.inl h
  by_cases hlent:az60 (ex.headD .any)=true
  ·simp only[bzs,hlent,if_true]at hsub hrd⊢
   obtain⟨h1,h2⟩:=pzt hm g hl' hr' hsub hrd
   refine⟨by simp[h1],fun j b u hb hu=>?_⟩
   cases j with
   |zero=>simp at hb hu;subst hb;subst hu;exact h0.mono' hF (fun _ _ _=>rfl)
   |succ j=>exact h2 j b u (by simpa using hb) (by simpa using hu)
  simp only[bzs,hlent,if_false,Bool.false_eq_true]at hsub hrd⊢
  split
  ·rename_i p is hp
   rw[hp]at hsub hrd
   simp only[List.mem_append]at hsub hrd
   obtain⟨h1,h2⟩:=pzt hm g hl' hr' (fun i hi=>hsub i (.inr hi)) (fun i hi=>hrd i (.inr hi))
   refine⟨by simp[h1],fun j b u hb hu=>?_⟩
   cases j with
   |zero=>
    simp at hb hu;subst hb;subst hu
    unfold Yz3 at hp
    split at hp
    ·split at hp
     ·rename_i hq
      cases hp
      cases h0 with
      |iface h0=>exact .iface (.pure (gzj hm g hq (fun i hi=>hsub i (.inl hi)) (fun i hi=>hrd i (.inl hi)) h0))
     ·cases hp
    ·split at hp
     ·rename_i hq
      cases hp
      exact .pure (gzj hm g hq (fun i hi=>hsub i (.inl hi)) (fun i hi=>hrd i (.inl hi)) h0)
     ·cases hp
   |succ j=>exact h2 j b u (by simpa using hb) (by simpa using hu)
  ·rename_i hp
   rw[hp]at hsub hrd
   obtain⟨h1,h2⟩:=pzt hm g hl' hr' hsub hrd
   refine⟨by simp[h1],fun j b u hb hu=>?_⟩
   cases j with
   |zero=>simp at hb hu;subst hb;subst hu;exact h0.mono' hF (fun _ _ _=>rfl)
   |succ j=>exact h2 j b u (by simpa using hb) (by simpa using hu)
theorem vzl {F:Cells}{w:World}{ρ:Env}{Mine:Nat->Prop}{M:Mem}(hm:MemOk F w ρ Mine M):∀ {ex l:List AVal} {vs:List Value},l.length=vs.length->
 (∀ (j:Nat) (a:AVal) (v:Value),l[j]?=some a->vs[j]?=some v->ARel F w ρ a v)->(∀i∈(cze m ex l).2,M.get i=m.get i)->
 (cze m ex l).1.length=vs.length/\∀ (j:Nat) (a:AVal) (v:Value),(cze m ex l).1[j]?=some a->vs[j]?=some v->ARel F w ρ a v
 |_,[],[],_,_,_=>by simp[cze]
 |_,[],_::_,h,_,_=>by simp at h
 |_,_::_,[],h,_,_=>by simp at h
 |ex,a::l,v::vs,hl,hr,hrd=>by
  have hl':l.length=vs.length:=by simpa using hl
  have hr':∀ (j:Nat) (a:AVal) (v:Value),l[j]?=some a->vs[j]?=some v->ARel F w ρ a v:=fun j a v ha hv=>hr (j+1) a v (by simpa using ha) (by simpa using hv)
  have h0:=hr 0 a v (by simp) (by simp)
  have keep:(∀i∈(cze m ex.tail l).2,M.get i=m.get i)->∀a':AVal,ARel F w ρ a' v->(a'::(cze m ex.tail l).1).length=(v::vs).length/\
   ∀ (j:Nat) (b:AVal) (u:Value),(a'::(cze m ex.tail l).1)[j]?=some b->(v::vs)[j]?=some u->ARel F w ρ b u:=by
   intro hrd' a' ha'
   obtain⟨h1,h2⟩:=vzl hm hl' hr' hrd'
   refine⟨by simp[h1],fun j b u hb hu=>?_⟩
   cases j with
   |zero=>simp at hb hu;subst hb;subst hu;exact ha'
   |succ j=>exact h2 j b u (by simpa using hb) (by simpa using hu)
  unfold cze at hrd⊢
  split at hrd
  ·rename_i k sz lo n id he
   split at hrd
   ·rename_i sz' n' f' k' e' hg
    split at hrd
    ·rename_i hs
     subst hs
     simp only[↓reduceIte]
     refine keep (fun i hi=>hrd i (by simp[hi])) _ ?_
     obtain⟨_,hok⟩:=hm.ok id _ ((hrd id (by simp)).trans hg)
     cases h0 with
     |vnil hh=>
      rcases hok with⟨_,rfl⟩|⟨b,cap,c,q1,_⟩
      ·exact .viewN hh rfl
      ·rw[hh]at q1;cases q1
     |vec hh=>
      rcases hok with⟨q1,_⟩|⟨b,cap,c,q1,_⟩
      ·rw[hh]at q1;cases q1
      ·rw[hh]at q1
       cases q1
       have hv:=ARel.view (F:=F) (w:=w) (sz:=sz') (lo:=0) (n:=n') (a:=⟨_,0,none⟩) hh (by omega) (fun _=>by simp;rfl)
       simpa using hv
    ·rename_i hs
     simp only[hs,↓reduceIte]
     exact keep hrd _ h0
   ·exact keep hrd _ h0
  ·exact keep hrd _ h0
theorem oz7 {F:Cells}{w:World}{ρ:Env}:∀ {as bs:List AVal},zz9 as bs->as.length=bs.length/\∀ (j:Nat) (b:AVal),bs[j]?=some b->∃a,as[j]?=some a/\∀v,ARel F w ρ a v->ARel F w ρ b v
 |[],[],_=>by simp
 |a::as,b::bs,h=>by
  obtain⟨h1,h2⟩:=h
  obtain⟨h3,h4⟩:=oz7 (F:=F) (w:=w) (ρ:=ρ) h2
  refine⟨by simp[h3],fun j c hc=>?_⟩
  cases j with
  |zero=>simp at hc;subst hc;exact⟨a,by simp,fun v hv=>h1.rel F w ρ v hv⟩
  |succ j=>simpa using h4 j c (by simpa using hc)
 |[],_::_,h=>h.elim
 |_::_,[],h=>h.elim
theorem qz1 {m0:Mem}:∀ {m1:Mem},MSub m0 m1->∀ {i:Nat} {r:Res},(i,r)∈m1->∃r0,m0.get i=some r0/\RSub r0 r
 |[],_,i,r,h=>by simp at h
 |(k,r1)::m1,hs,i,r,h=>by
  simp only[MSub]at hs
  simp only[List.mem_cons,Prod.mk.injEq]at h
  rcases h with⟨rfl,rfl⟩|h
  ·cases hg:m0.get i with
   |none=>rw[hg]at hs;exact hs.1.elim
   |some r0=>rw[hg]at hs;exact⟨r0,rfl,hs.1⟩
  ·exact qz1 hs.2 h
theorem yzd {σ:List (Nat×Nat)}{k id i:Nat}(h:Own k i):dzm σ k id i=id+(i-k):=if_pos h
theorem Izq {σ:List (Nat×Nat)}{k id i:Nat}(h:¬Own k i):dzm σ k id i=match Azb σ i with|some b=>b|none=>id+64+i:=if_neg h
theorem zz4:∀ {σ:List (Nat×Nat)} {i b:Nat},Azb σ i=some b->(i,b)∈σ
 |[],i,b,h=>by simp[Azb]at h
 |(x,y)::σ,i,b,h=>by
  simp only[Azb]at h
  split at h
  ·rename_i e;subst e;cases h;simp
  ·simp[zz4 h]
theorem Bzc:∀ {σ:List (Nat×Nat)} {i:Nat},(∃y∈σ,y.1=i)->∃b,Azb σ i=some b
 |[],i,⟨y,hy,_⟩=>by simp at hy
 |(x,z)::σ,i,⟨y,hy,he⟩=>by
  simp only[Azb]
  split
  ·exact⟨z,rfl⟩
  ·rename_i hne
   simp only[List.mem_cons]at hy
   rcases hy with rfl|hy
   ·exact absurd he hne
   ·exact Bzc ⟨y,hy,he⟩
structure RenOk (h:Hint) (id:Nat):Prop where
 old:∀i,¬Own h.k i->¬Own id (dzm h.σ h.k id i)
 inj:∀i j,(Own h.k i\/∃y∈h.σ,y.1=i)->(Own h.k j\/∃y∈h.σ,y.1=j)->dzm h.σ h.k id i=dzm h.σ h.k id j->i=j
 m:∀x∈h.m,¬Own h.k x.1/\∃y∈h.σ,y.1=x.1
 m':∀x∈h.m',Own h.k x.1\/∃y∈h.σ,y.1=x.1
 sub:∀x∈h.m,∃y∈h.m',y.1=x.1
theorem Tzs {h:Hint}{id:Nat}(hb:Izp h id=true):RenOk h id:=by
 simp only[Izp,Bool.and_eq_true,List.all_eq_true,Bool.not_eq_true',Bool.and_eq_false_iff,decide_eq_false_iff_not,List.any_eq_true,beq_iff_eq,Bool.or_eq_true,bne_iff_ne,decide_eq_true_eq,Nat.not_lt,Nat.not_le]at hb
 obtain⟨⟨⟨⟨h1,h2⟩,h3⟩,h4⟩,h5⟩:=hb
 have old:∀i,¬Own h.k i->¬Own id (dzm h.σ h.k id i):=by
  intro i hi ho
  rw[Izq hi]at ho
  cases hg:Azb h.σ i with
  |none=>rw[hg]at ho;obtain⟨_,o2⟩:=ho;simp at o2;omega
  |some b=>
   rw[hg]at ho
   obtain⟨o1,o2⟩:=ho
   have:=h1 _ (zz4 hg)
   simp at this o1 o2
   omega
 refine⟨old,fun i j hi hj he=>?_,fun x hx=>?_,fun x hx=>?_,fun x hx=>?_⟩
 ·by_cases oi:Own h.k i<;>by_cases oj:Own h.k j
  ·rw[yzd oi,yzd oj]at he
   obtain⟨a1,a2⟩:=oi;obtain⟨b1,b2⟩:=oj;omega
  ·exfalso
   apply old j oj
   rw[←he,yzd oi]
   obtain⟨a1,a2⟩:=oi
   exact⟨by omega,by omega⟩
  ·exfalso
   apply old i oi
   rw[he,yzd oj]
   obtain⟨a1,a2⟩:=oj
   exact⟨by omega,by omega⟩
  ·obtain⟨bi,hbi⟩:=Bzc (hi.resolve_left oi)
   obtain⟨bj,hbj⟩:=Bzc (hj.resolve_left oj)
   rw[Izq oi,Izq oj,hbi,hbj]at he
   simp only at he
   subst he
   have:=h2 _ (zz4 hbi) _ (zz4 hbj)
   simpa using this
 ·obtain⟨a1,a2⟩:=h3 x hx
  exact⟨fun ⟨o1,o2⟩=>by rcases a1 with a1|a1<;>omega,a2⟩
 ·exact(h4 x hx).imp (fun ⟨a1,a2⟩=>⟨a1,a2⟩) (fun h=>h)
 ·exact h5 x hx
theorem Mzp {τ:Nat->Nat}{i:Nat}{r:Res}:∀ {m:Mem},(i,r)∈m->(τ i,r.ren τ)∈Mem.ren τ m
 |[],h=>by simp at h
 |(k,q)::l,h=>by
  simp only[List.mem_cons,Prod.mk.injEq]at h
  simp only[Mem.ren,List.mem_cons,Prod.mk.injEq]
  rcases h with⟨rfl,rfl⟩|h
  ·exact .inl ⟨rfl,rfl⟩
  ·exact .inr (Mzp h)
theorem Oz1 {C:Array Value->World->(Ending->World->Prop)->Prop}(mono:∀ {vs w R R'},C vs w R->(∀e w',R e w'->R' e w')->C vs w R'){h:Hint}{id:Nat}
 (hs:∀ (F:Cells) (w:World) (ρ:Env) (Mine:Nat->Prop) (vs:Array Value),MemOk F w ρ Mine h.m->Good F w Mine->Bzg F w ρ h.args vs->
  C vs w fun e w'=>∃v F' ρ',e=.returned v/\Step Mine F w F' w'/\czz h.k ρ ρ'/\ARel F' w' ρ' h.res v/\MemOk F' w' ρ' Mine h.m') (ro:RenOk h id) {F:Cells} {w:World} {ρ:Env} {Mine:Nat->Prop} {M:Mem} (hm:MemOk F w ρ Mine M) (g:Good F w Mine) (fr:Fresh id M)
 (hmem:∀x∈Mem.ren (dzm h.σ h.k id) h.m,∃r0,M.get x.1=some r0/\RSub r0 x.2) {vs:Array Value} (hargs:Bzg F w ρ (AVal.renL (dzm h.σ h.k id) h.args) vs):
 C vs w fun e w'=>∃v F' ρ',e=.returned v/\Step Mine F w F' w'/\czz id ρ ρ'/\ARel F' w' ρ' (h.res.ren (dzm h.σ h.k id)) v/\MemOk F' w' ρ' Mine (Mem.ren (dzm h.σ h.k id) h.m'++M):=by
 generalize hτ:dzm h.σ h.k id=τ at *
 have hold:∀i,¬Own h.k i->¬Own id (τ i):=by rw[←hτ];exact ro.old
 have hinj:∀i j,(Own h.k i\/∃y∈h.σ,y.1=i)->(Own h.k j\/∃y∈h.σ,y.1=j)->τ i=τ j->i=j:=by rw[←hτ];exact ro.inj
 have hnewτ:∀i,Own h.k i->τ i=id+(i-h.k):=by rw[←hτ];exact fun i hi=>yzd hi
 have hmget:∀i r,h.m.get i=some r->∃r0,M.get (τ i)=some r0/\RSub r0 (r.ren τ):=by
  intro i r hi
  have hin:(τ i,r.ren τ)∈Mem.ren τ h.m:=Mzp (gz5 hi)
  exact hmem _ hin
 have hblk0:∀i r b,h.m.get i=some r->Owns w (ρ.pull τ) i r b->∃r0,M.get (τ i)=some r0/\Owns w ρ (τ i) r0 b:=by
  intro i r b hi hb
  obtain⟨r0,h1,h2⟩:=hmget i r hi
  refine⟨r0,h1,(h2.rel F w ρ (τ i) (hm.ok _ _ h1)).2 b ?_⟩
  rw[yzv (ρ:=ρ.pull τ) (ρ':=ρ) ⟨rfl,rfl⟩];exact hb
 have hdomM:∀i r,h.m.get i=some r->Own h.k i\/∃y∈h.σ,y.1=i:=fun i r hi=>.inr (ro.m _ (gz5 hi)).2
 let Mine0:Nat->Prop:=fun b=>(∃i r,h.m.get i=some r/\Owns w (ρ.pull τ) i r b)\/w.heap.size≤b
 have hM0:MemOk F w (ρ.pull τ) Mine0 h.m:=by
  refine⟨fun i r hi=>?_,fun i r b hi hb=>⟨.inl ⟨i,r,hi,hb⟩,?_⟩,fun i i' r r' b hi hi' hb hb'=>?_⟩
  ·obtain⟨r0,h1,h2⟩:=hmget i r hi
   exact(h2.rel F w ρ (τ i) (hm.ok _ _ h1)).1.unren
  ·obtain⟨r0,h1,h2⟩:=hblk0 i r b hi hb
   exact(hm.mine _ _ _ h1 h2).2
  ·obtain⟨r0,h1,h2⟩:=hblk0 i r b hi hb
   obtain⟨r1,h3,h4⟩:=hblk0 i' r' b hi' hb'
   exact hinj i i' (hdomM i r hi) (hdomM i' r' hi') (hm.disj _ _ _ _ b h1 h3 h2 h4)
 have hMine:∀b,Mine0 b->Mine b:=by
  intro b hb
  rcases hb with⟨i,r,hi,hb⟩|hb
  ·obtain⟨r0,h1,h2⟩:=hblk0 i r b hi hb
   exact(hm.mine _ _ _ h1 h2).1
  ·exact g.mine b hb
 have g0:Good F w Mine0:=⟨g.lt,fun b hb=>.inr hb⟩
 have hargs0:Bzg F w (ρ.pull τ) h.args vs:=by
  refine⟨by rw[←hargs.1,ez6],fun j a v ha hv=>ARel.unren a v (hargs.2 j _ v (by rw[kze,ha];rfl) hv)⟩
 refine mono (hs F w (ρ.pull τ) Mine0 vs hM0 g0 hargs0) ?_
 rintro e w' ⟨v,F',ρ0',rfl,st0,he0,hres,hM'⟩
 let ρ':Env:=⟨fun j=>if id≤j/\j<id+64 then ρ0'.blk (h.k+(j-id))else ρ.blk j,fun j=>if id≤j/\j<id+64 then ρ0'.vec (h.k+(j-id))else ρ.vec j⟩
 have he:czz id ρ ρ':=fun i hi=>⟨if_neg hi,if_neg hi⟩
 have hag:∀i,ρ'.blk (τ i)=ρ0'.blk i/\ρ'.vec (τ i)=ρ0'.vec i:=by
  intro i
  by_cases hi:Own h.k i
  ·have e1:=hnewτ i hi
   obtain⟨i1,i2⟩:=hi
   have hO:id≤τ i/\τ i<id+64:=by omega
   have e2:h.k+(τ i-id)=i:=by omega
   constructor
   ·show(if _ then _ else _)=_
    rw[if_pos hO,e2]
   ·show(if _ then _ else _)=_
    rw[if_pos hO,e2]
  ·obtain⟨a1,a2⟩:=he _ (hold i hi)
   obtain⟨b1,b2⟩:=he0 i hi
   exact⟨a1.trans b1.symm,a2.trans b2.symm⟩
 have st:Step Mine F w F' w':=⟨st0.sub,st0.cell,fun b o hF=>(st0.new b o hF).imp (fun h=>h) (hMine b),st0.lt,
  ⟨st0.keep.os,st0.keep.tape,st0.keep.output,st0.keep.size,fun k hk hn=>st0.keep.block k hk (fun h=>hn (hMine k h))⟩⟩
 refine⟨v,F',ρ',rfl,st,he,hres.ren hag,?_⟩
 have hdom':∀i r,h.m'.get i=some r->Own h.k i\/∃y∈h.σ,y.1=i:=fun i r hi=>ro.m' _ (gz5 hi)
 have hget':∀j r',(Mem.ren τ h.m').get j=some r'->∃i r,h.m'.get i=some r/\j=τ i/\r'=r.ren τ:=by
  intro j r' hj
  obtain⟨i,r,h1,rfl,rfl⟩:=Lz0 hj
  have:=Sz7 (τ:=τ) (m:=h.m') (fun x hx j hj hy=>by
   obtain⟨y,hy,rfl⟩:=hy
   exact hinj _ _ (ro.m' x hx) (ro.m' y hy) hj) i ⟨_,h1,rfl⟩
  rw[hj]at this
  cases hg:h.m'.get i with
  |none=>rw[hg]at this;simp at this
  |some r2=>
   rw[hg]at this
   simp only[Option.map_some,Option.some.injEq]at this
   exact⟨i,r2,hg,rfl,this⟩
 have hnot0:∀j r b,M.get j=some r->(Mem.ren τ h.m').get j=none->Owns w ρ j r b->¬Mine0 b:=by
  intro j r b hj hn hb hmine0
  rcases hmine0 with⟨i,r1,hi,hb1⟩|hge
  ·obtain⟨r0,h1,h2⟩:=hblk0 i r1 b hi hb1
   have:τ i=j:=hm.disj _ _ _ _ b h1 hj h2 hb
   subst this
   obtain⟨y,hy,he⟩:=ro.sub _ (gz5 hi)
   have:=Sz7 (τ:=τ) (m:=h.m') (fun x hx j hj hy=>by
    obtain⟨y,hy,rfl⟩:=hy
    exact hinj _ _ (ro.m' x hx) (ro.m' y hy) hj) i ⟨y,hy,he⟩
   obtain⟨r2,hr2⟩:=Mzd (m:=h.m') ⟨y,hy,he⟩
   rw[hn,hr2]at this
   simp at this
  ·have:=(hm.mine j r b hj hb).2
   omega
 refine MemOk.step hm st (fun i=>¬Own id i) he _ (fun j r hj hn=>⟨fun ho=>(by rw[fr.none j ho]at hj;cases hj),fun i hi=>fr.has i j r (Classical.not_not.1 hi) hj,fun b hb=>⟨?_,fun o hF=>?_⟩⟩) (fun j r' hj=>?_) (fun j j' r r' b hj hj' hb hb'=>?_)
 ·exact st0.keep.block b (hm.mine j r b hj hb).2 (hnot0 j r b hj hn hb)
 ·exact(st0.new b o hF).resolve_right (hnot0 j r b hj hn hb)
 ·obtain⟨i,r,hi,rfl,rfl⟩:=hget' j r' hj
  refine⟨(hM'.ok i r hi).ren hag,fun b hb=>?_⟩
  rw[yzv (hag i)]at hb
  obtain⟨q1,q2⟩:=hM'.mine i r b hi hb
  exact⟨hMine b q1,q2,fun k r1 hk hn hbk=>hnot0 k r1 b hk hn hbk q1⟩
 ·obtain⟨i,r1,hi,rfl,rfl⟩:=hget' j r hj
  obtain⟨i',r2,hi',rfl,rfl⟩:=hget' j' r' hj'
  rw[yzv (hag i)]at hb
  rw[yzv (hag i')]at hb'
  rw[hM'.disj i i' r1 r2 b hi hi' hb hb']
end Go.Abs
