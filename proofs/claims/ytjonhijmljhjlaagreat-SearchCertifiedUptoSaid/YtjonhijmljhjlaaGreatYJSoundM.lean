import Derived.Test.YtjonhijmljhjlaaGreatYJSoundL
open Go renaming Value->qr,World->qn
open List renaming mem_cons->wC
namespace Go.Abs
variable {P:Program} {m:Mem}
theorem nzo {F:Cells}{w:qn}{ρ:Env}{Mine:Nat->Prop}{M:Mem}(hm:MemOk F w ρ Mine M)(g:Good F w Mine){js:List Nat}:∀ {ex l:List AVal} {vs:List qr},l.length=vs.length->
 (∀ (j:Nat) (a:AVal) (v:qr),l[j]?=some a->vs[j]?=some v->ARel F w ρ a v)->(∀i∈(bzq m ex l).2,i∈js)->(∀i∈(bzq m ex l).2,M.get i=m.get i)->
 (bzq m ex l).1.length=vs.length/\∀ (j:Nat) (a:AVal) (v:qr),(bzq m ex l).1[j]?=some a->vs[j]?=some v->ARel (ez0 F w ρ m js) w ρ a v
 |_,[],[],_,_,_,_=>by simp[bzq]
 |_,[],_::_,h,_,_,_=>by simp at h
 |_,_::_,[],h,_,_,_=>by simp at h
 |ex,a::l,v::vs,hl,hr,hsub,hrd=>by
  have hl':l.length=vs.length:=by simpa using hl
  have hr':∀ (j:Nat) (a:AVal) (v:qr),l[j]?=some a->vs[j]?=some v->ARel F w ρ a v:=λj a v ha hv=>hr (j+1) a v (by simpa using ha) (by simpa using hv)
  have h0:=hr 0 a v (by simp) (by simp);have hF:∀b o,F b o->ez0 F w ρ m js b o:=λb o h=>.inl h
  by_cases hlent:azba (ex.headD .any)=true
  ·simp only[bzq,hlent,if_true]at hsub hrd⊢;obtain⟨h1,h2⟩:=nzo hm g hl' hr' hsub hrd;refine⟨by simp[h1],λj b u hb hu=>?_⟩;cases j with
   |zero=>simp at hb hu;subst hb;subst hu;exact h0.mono' hF (λ_ _ _=>rfl)
   |succ j=>exact h2 j b u (by simpa using hb) (by simpa using hu)
  simp only[bzq,hlent,if_false,Bool.false_eq_true]at hsub hrd⊢;split
  ·rename_i p is hp;rw[hp]at hsub hrd;simp only[List.mem_append]at hsub hrd;obtain⟨h1,h2⟩:=nzo hm g hl' hr' (λi hi=>hsub i (.inr hi)) (λi hi=>hrd i (.inr hi));refine⟨by simp[h1],λj b u hb hu=>?_⟩;cases j with
   |zero=>
    simp at hb hu;subst hb;subst hu;unfold az2u at hp;split at hp
    ·split at hp
     ·rename_i hq;cases hp;cases h0 with
      |iface h0=>exact .iface (.pure (izq hm g hq (λi hi=>hsub i (.inl hi)) (λi hi=>hrd i (.inl hi)) h0))
     ·cases hp
    ·split at hp
     ·rename_i hq;cases hp;exact .pure (izq hm g hq (λi hi=>hsub i (.inl hi)) (λi hi=>hrd i (.inl hi)) h0)
     ·cases hp
   |succ j=>exact h2 j b u (by simpa using hb) (by simpa using hu)
  ·rename_i hp;rw[hp]at hsub hrd;obtain⟨h1,h2⟩:=nzo hm g hl' hr' hsub hrd;refine⟨by simp[h1],λj b u hb hu=>?_⟩;cases j with
   |zero=>simp at hb hu;subst hb;subst hu;exact h0.mono' hF (λ_ _ _=>rfl)
   |succ j=>exact h2 j b u (by simpa using hb) (by simpa using hu)
theorem xzl {F:Cells}{w:qn}{ρ:Env}{Mine:Nat->Prop}{M:Mem}(hm:MemOk F w ρ Mine M):∀ {ex l:List AVal} {vs:List qr},l.length=vs.length->
 (∀ (j:Nat) (a:AVal) (v:qr),l[j]?=some a->vs[j]?=some v->ARel F w ρ a v)->(∀i∈(dz3 m ex l).2,M.get i=m.get i)->
 (dz3 m ex l).1.length=vs.length/\∀ (j:Nat) (a:AVal) (v:qr),(dz3 m ex l).1[j]?=some a->vs[j]?=some v->ARel F w ρ a v
 |_,[],[],_,_,_=>by simp[dz3]
 |_,[],_::_,h,_,_=>by simp at h
 |_,_::_,[],h,_,_=>by simp at h
 |ex,a::l,v::vs,hl,hr,hrd=>by
  have hl':l.length=vs.length:=by simpa using hl
  have hr':∀ (j:Nat) (a:AVal) (v:qr),l[j]?=some a->vs[j]?=some v->ARel F w ρ a v:=λj a v ha hv=>hr (j+1) a v (by simpa using ha) (by simpa using hv)
  have h0:=hr 0 a v (by simp) (by simp)
  have keep:(∀i∈(dz3 m ex.tail l).2,M.get i=m.get i)->∀a':AVal,ARel F w ρ a' v->(a'::(dz3 m ex.tail l).1).length=(v::vs).length/\
   ∀ (j:Nat) (b:AVal) (u:qr),(a'::(dz3 m ex.tail l).1)[j]?=some b->(v::vs)[j]?=some u->ARel F w ρ b u:=by
   intro hrd' a' ha';obtain⟨h1,h2⟩:=xzl hm hl' hr' hrd';refine⟨by simp[h1],λj b u hb hu=>?_⟩;cases j with
   |zero=>simp at hb hu;subst hb;subst hu;exact ha'
   |succ j=>exact h2 j b u (by simpa using hb) (by simpa using hu)
  unfold dz3 at hrd⊢;split at hrd
  ·rename_i k sz lo n id he;split at hrd
   ·rename_i sz' n' f' k' e' hg;split at hrd
    ·rename_i hs;subst hs;simp only[↓reduceIte];refine keep (λi hi=>hrd i (by simp[hi])) _ ?_;obtain⟨_,hok⟩:=hm.ok id _ ((hrd id (by simp)).trans hg);cases h0 with
     |vnil hh=>
      rcases hok with⟨_,rfl⟩|⟨b,cap,c,q1,_⟩
      ·exact .viewN hh rfl
      ·rw[hh]at q1;cases q1
     |vec hh=>
      rcases hok with⟨q1,_⟩|⟨b,cap,c,q1,_⟩
      ·rw[hh]at q1;cases q1
      ·rw[hh]at q1;cases q1;have hv:=ARel.view (F:=F) (w:=w) (sz:=sz') (lo:=0) (n:=n') (a:=⟨_,0,none⟩) hh qa (λ_=>by simp;rfl);simpa using hv
    ·rename_i hs;simp only[hs,↓reduceIte];exact keep hrd _ h0
   ·exact keep hrd _ h0
  ·exact keep hrd _ h0
theorem qz3 {F:Cells}{w:qn}{ρ:Env}:∀ {as bs:List AVal},Bzn as bs->as.length=bs.length/\∀ (j:Nat) (b:AVal),bs[j]?=some b->∃a,as[j]?=some a/\∀v,ARel F w ρ a v->ARel F w ρ b v
 |[],[],_=>by simp
 |a::as,b::bs,h=>by
  obtain⟨h1,h2⟩:=h;obtain⟨h3,h4⟩:=qz3 (F:=F) (w:=w) (ρ:=ρ) h2;refine⟨by simp[h3],λj c hc=>?_⟩;cases j with
  |zero=>simp at hc;subst hc;exact⟨a,by simp,λv hv=>h1.rel F w ρ v hv⟩
  |succ j=>simpa using h4 j c (by simpa using hc)
 |[],_::_,h=>h.elim
 |_::_,[],h=>h.elim
theorem rzu {m0:Mem}:∀ {m1:Mem},MSub m0 m1->∀ {i:Nat} {r:Res},(i,r)∈m1->∃r0,m0.get i=some r0/\RSub r0 r
 |[],_,i,r,h=>by simp at h
 |(k,r1)::m1,hs,i,r,h=>by
  simp only[MSub]at hs;simp only[wC,Prod.mk.injEq]at h;rcases h with⟨rfl,rfl⟩|h
  ·cases hg:m0.get i with
   |none=>rw[hg]at hs;exact hs.1.elim
   |some r0=>rw[hg]at hs;exact⟨r0,rfl,hs.1⟩
  ·exact rzu hs.2 h
theorem Azm {σ:List (Nat×Nat)}{k id i:Nat}(h:Own k i):ezk σ k id i=id+(i-k):=qc h
theorem Mzc {σ:List (Nat×Nat)}{k id i:Nat}(h:¬Own k i):ezk σ k id i=match Czx σ i with|some b=>b|none=>id+64+i:=qb h
theorem Bzh:∀ {σ:List (Nat×Nat)} {i b:Nat},Czx σ i=some b->(i,b)∈σ
 |[],i,b,h=>by simp[Czx]at h
 |(x,y)::σ,i,b,h=>by
  simp only[Czx]at h;split at h
  ·rename_i e;subst e;cases h;simp
  ·simp[Bzh h]
theorem Ez2:∀ {σ:List (Nat×Nat)} {i:Nat},(∃y∈σ,y.1=i)->∃b,Czx σ i=some b
 |[],i,⟨y,hy,_⟩=>by simp at hy
 |(x,z)::σ,i,⟨y,hy,he⟩=>by
  simp only[Czx];split
  ·exact⟨z,rfl⟩
  ·rename_i hne;simp only[wC]at hy;rcases hy with rfl|hy
   ·exact absurd he hne
   ·exact Ez2 ⟨y,hy,he⟩
structure RenOk (h:Hint) (id:Nat):Prop where
 old:∀i,¬Own h.k i->¬Own id (ezk h.σ h.k id i)
 inj:∀i j,(Own h.k i\/∃y∈h.σ,y.1=i)->(Own h.k j\/∃y∈h.σ,y.1=j)->ezk h.σ h.k id i=ezk h.σ h.k id j->i=j
 m:∀x∈h.m,¬Own h.k x.1/\∃y∈h.σ,y.1=x.1
 m':∀x∈h.m',Own h.k x.1\/∃y∈h.σ,y.1=x.1
 sub:∀x∈h.m,∃y∈h.m',y.1=x.1
theorem Yzc {h:Hint}{id:Nat}(hb:Mzb h id=true):RenOk h id:=by
 simp only[Mzb,Bool.and_eq_true,List.all_eq_true,Bool.not_eq_true',Bool.and_eq_false_iff,qi,List.any_eq_true,qj,Bool.or_eq_true,bne_iff_ne,qf,Nat.not_lt,Nat.not_le]at hb;obtain⟨⟨⟨⟨h1,h2⟩,h3⟩,h4⟩,h5⟩:=hb;have old:∀i,¬Own h.k i->¬Own id (ezk h.σ h.k id i):=by
  intro i hi ho;rw[Mzc hi]at ho;cases hg:Czx h.σ i with
  |none=>rw[hg]at ho;obtain⟨_,o2⟩:=ho;simp at o2;omega
  |some b=>
   rw[hg]at ho;obtain⟨o1,o2⟩:=ho;have:=h1 _ (Bzh hg);simp at this o1 o2;omega
 refine⟨old,λi j hi hj he=>?_,λx hx=>?_,λx hx=>?_,λx hx=>?_⟩
 ·by_cases oi:Own h.k i<;>by_cases oj:Own h.k j
  ·rw[Azm oi,Azm oj]at he;obtain⟨a1,a2⟩:=oi;obtain⟨b1,b2⟩:=oj;omega
  ·exfalso
   apply old j oj;rw[<-he,Azm oi];obtain⟨a1,a2⟩:=oi;exact⟨qa,qa⟩
  ·exfalso
   apply old i oi;rw[he,Azm oj];obtain⟨a1,a2⟩:=oj;exact⟨qa,qa⟩
  ·obtain⟨bi,hbi⟩:=Ez2 (hi.resolve_left oi);obtain⟨bj,hbj⟩:=Ez2 (hj.resolve_left oj);rw[Mzc oi,Mzc oj,hbi,hbj]at he;simp only at he;subst he;have:=h2 _ (Bzh hbi) _ (Bzh hbj);simpa using this
 ·obtain⟨a1,a2⟩:=h3 x hx;exact⟨λ⟨o1,o2⟩=>by rcases a1 with a1|a1<;>omega,a2⟩
 ·exact(h4 x hx).imp (λ⟨a1,a2⟩=>⟨a1,a2⟩) (λh=>h)
 ·exact h5 x hx
theorem Qzj {τ:Nat->Nat}{i:Nat}{r:Res}:∀ {m:Mem},(i,r)∈m->(τ i,r.ren τ)∈Mem.ren τ m
 |[],h=>by simp at h
 |(k,q)::l,h=>by
  simp only[wC,Prod.mk.injEq]at h;simp only[Mem.ren,wC,Prod.mk.injEq];rcases h with⟨rfl,rfl⟩|h
  ·exact .inl ⟨rfl,rfl⟩
  ·exact .inr (Qzj h)
theorem Rzx {C:Array qr->qn->(Ending->qn->Prop)->Prop}(mono:∀ {vs w R R'},C vs w R->(∀e w',R e w'->R' e w')->C vs w R'){h:Hint}{id:Nat}
 (hs:∀ (F:Cells) (w:qn) (ρ:Env) (Mine:Nat->Prop) (vs:Array qr),MemOk F w ρ Mine h.m->Good F w Mine->Dz5 F w ρ h.args vs->
  C vs w λe w'=>∃v F' ρ',e=.returned v/\Step Mine F w F' w'/\dzr h.k ρ ρ'/\ARel F' w' ρ' h.res v/\MemOk F' w' ρ' Mine h.m') (ro:RenOk h id) {F:Cells} {w:qn} {ρ:Env} {Mine:Nat->Prop} {M:Mem} (hm:MemOk F w ρ Mine M) (g:Good F w Mine) (fr:Fresh id M)
 (hmem:∀x∈Mem.ren (ezk h.σ h.k id) h.m,∃r0,M.get x.1=some r0/\RSub r0 x.2) {vs:Array qr} (hargs:Dz5 F w ρ (AVal.renL (ezk h.σ h.k id) h.args) vs):
 C vs w λe w'=>∃v F' ρ',e=.returned v/\Step Mine F w F' w'/\dzr id ρ ρ'/\ARel F' w' ρ' (h.res.ren (ezk h.σ h.k id)) v/\MemOk F' w' ρ' Mine (Mem.ren (ezk h.σ h.k id) h.m'++M):=by
 generalize hτ:ezk h.σ h.k id=τ at *
 have hold:∀i,¬Own h.k i->¬Own id (τ i):=by rw[<-hτ];exact ro.old
 have hinj:∀i j,(Own h.k i\/∃y∈h.σ,y.1=i)->(Own h.k j\/∃y∈h.σ,y.1=j)->τ i=τ j->i=j:=by rw[<-hτ];exact ro.inj
 have hnewτ:∀i,Own h.k i->τ i=id+(i-h.k):=by rw[<-hτ];exact λi hi=>Azm hi
 have hmget:∀i r,h.m.get i=some r->∃r0,M.get (τ i)=some r0/\RSub r0 (r.ren τ):=by
  intro i r hi;have hin:(τ i,r.ren τ)∈Mem.ren τ h.m:=Qzj (hz3 hi);exact hmem _ hin
 have hblk0:∀i r b,h.m.get i=some r->Owns w (ρ.pull τ) i r b->∃r0,M.get (τ i)=some r0/\Owns w ρ (τ i) r0 b:=by
  intro i r b hi hb;obtain⟨r0,h1,h2⟩:=hmget i r hi;refine⟨r0,h1,(h2.rel F w ρ (τ i) (hm.ok _ _ h1)).2 b ?_⟩;rw[pz9 (ρ:=ρ.pull τ) (ρ':=ρ) ⟨rfl,rfl⟩];exact hb
 have hdomM:∀i r,h.m.get i=some r->Own h.k i\/∃y∈h.σ,y.1=i:=λi r hi=>.inr (ro.m _ (hz3 hi)).2
 let Mine0:Nat->Prop:=λb=>(∃i r,h.m.get i=some r/\Owns w (ρ.pull τ) i r b)\/w.heap.size<=b
 have hM0:MemOk F w (ρ.pull τ) Mine0 h.m:=by
  refine⟨λi r hi=>?_,λi r b hi hb=>⟨.inl ⟨i,r,hi,hb⟩,?_⟩,λi i' r r' b hi hi' hb hb'=>?_⟩
  ·obtain⟨r0,h1,h2⟩:=hmget i r hi;exact(h2.rel F w ρ (τ i) (hm.ok _ _ h1)).1.unren
  ·obtain⟨r0,h1,h2⟩:=hblk0 i r b hi hb;exact(hm.mine _ _ _ h1 h2).2
  ·obtain⟨r0,h1,h2⟩:=hblk0 i r b hi hb;obtain⟨r1,h3,h4⟩:=hblk0 i' r' b hi' hb';exact hinj i i' (hdomM i r hi) (hdomM i' r' hi') (hm.disj _ _ _ _ b h1 h3 h2 h4)
 have hMine:∀b,Mine0 b->Mine b:=by
  intro b hb;rcases hb with⟨i,r,hi,hb⟩|hb
  ·obtain⟨r0,h1,h2⟩:=hblk0 i r b hi hb;exact(hm.mine _ _ _ h1 h2).1
  ·exact g.mine b hb
 have g0:Good F w Mine0:=⟨g.lt,λb hb=>.inr hb⟩;have hargs0:Dz5 F w (ρ.pull τ) h.args vs:=by
  refine⟨by rw[<-hargs.1,fz2],λj a v ha hv=>ARel.unren a v (hargs.2 j _ v (by rw[lzi,ha];rfl) hv)⟩
 refine mono (hs F w (ρ.pull τ) Mine0 vs hM0 g0 hargs0) ?_;rintro e w' ⟨v,F',ρ0',rfl,st0,he0,hres,hM'⟩;let ρ':Env:=⟨λj=>if id<=j/\j<id+64 then ρ0'.blk (h.k+(j-id))else ρ.blk j,λj=>if id<=j/\j<id+64 then ρ0'.vec (h.k+(j-id))else ρ.vec j⟩;have he:dzr id ρ ρ':=λi hi=>⟨qb hi,qb hi⟩
 have hag:∀i,ρ'.blk (τ i)=ρ0'.blk i/\ρ'.vec (τ i)=ρ0'.vec i:=by
  intro i;by_cases hi:Own h.k i
  ·have e1:=hnewτ i hi;obtain⟨i1,i2⟩:=hi;have hO:id<=τ i/\τ i<id+64:=qa
   have e2:h.k+(τ i-id)=i:=qa
   constructor
   ·show(if _ then _ else _)=_;rw[qc hO,e2]
   ·show(if _ then _ else _)=_;rw[qc hO,e2]
  ·obtain⟨a1,a2⟩:=he _ (hold i hi);obtain⟨b1,b2⟩:=he0 i hi;exact⟨a1.trans b1.symm,a2.trans b2.symm⟩
 have st:Step Mine F w F' w':=⟨st0.sub,st0.cell,λb o hF=>(st0.new b o hF).imp (λh=>h) (hMine b),st0.lt,
  ⟨st0.keep.os,st0.keep.tape,st0.keep.output,st0.keep.size,λk hk hn=>st0.keep.block k hk (λh=>hn (hMine k h))⟩⟩
 refine⟨v,F',ρ',rfl,st,he,hres.ren hag,?_⟩;have hdom':∀i r,h.m'.get i=some r->Own h.k i\/∃y∈h.σ,y.1=i:=λi r hi=>ro.m' _ (hz3 hi)
 have hget':∀j r',(Mem.ren τ h.m').get j=some r'->∃i r,h.m'.get i=some r/\j=τ i/\r'=r.ren τ:=by
  intro j r' hj;obtain⟨i,r,h1,rfl,rfl⟩:=Hzw hj;have:=Rz5 (τ:=τ) (m:=h.m') (λx hx j hj hy=>by
   obtain⟨y,hy,rfl⟩:=hy;exact hinj _ _ (ro.m' x hx) (ro.m' y hy) hj) i ⟨_,h1,rfl⟩
  rw[hj]at this;cases hg:h.m'.get i with
  |none=>rw[hg]at this;simp at this
  |some r2=>
   rw[hg]at this;simp only[Option.map_some,Option.some.injEq]at this;exact⟨i,r2,hg,rfl,this⟩
 have hnot0:∀j r b,M.get j=some r->(Mem.ren τ h.m').get j=none->Owns w ρ j r b->¬Mine0 b:=by
  intro j r b hj hn hb hmine0;rcases hmine0 with⟨i,r1,hi,hb1⟩|hge
  ·obtain⟨r0,h1,h2⟩:=hblk0 i r1 b hi hb1;have:τ i=j:=hm.disj _ _ _ _ b h1 hj h2 hb;subst this;obtain⟨y,hy,he⟩:=ro.sub _ (hz3 hi);have:=Rz5 (τ:=τ) (m:=h.m') (λx hx j hj hy=>by
    obtain⟨y,hy,rfl⟩:=hy;exact hinj _ _ (ro.m' x hx) (ro.m' y hy) hj) i ⟨y,hy,he⟩
   obtain⟨r2,hr2⟩:=Qz4 (m:=h.m') ⟨y,hy,he⟩;rw[hn,hr2]at this;simp at this
  ·have:=(hm.mine j r b hj hb).2;omega
 refine MemOk.step hm st (λi=>¬Own id i) he _ (λj r hj hn=>⟨λho=>(by rw[fr.none j ho]at hj;cases hj),λi hi=>fr.has i j r (Classical.not_not.1 hi) hj,λb hb=>⟨?_,λo hF=>?_⟩⟩) (λj r' hj=>?_) (λj j' r r' b hj hj' hb hb'=>?_)
 ·exact st0.keep.block b (hm.mine j r b hj hb).2 (hnot0 j r b hj hn hb)
 ·exact(st0.new b o hF).resolve_right (hnot0 j r b hj hn hb)
 ·obtain⟨i,r,hi,rfl,rfl⟩:=hget' j r' hj;refine⟨(hM'.ok i r hi).ren hag,λb hb=>?_⟩;rw[pz9 (hag i)]at hb;obtain⟨q1,q2⟩:=hM'.mine i r b hi hb;exact⟨hMine b q1,q2,λk r1 hk hn hbk=>hnot0 k r1 b hk hn hbk q1⟩
 ·obtain⟨i,r1,hi,rfl,rfl⟩:=hget' j r hj;obtain⟨i',r2,hi',rfl,rfl⟩:=hget' j' r' hj';rw[pz9 (hag i)]at hb;rw[pz9 (hag i')]at hb';rw[hM'.disj i i' r1 r2 b hi hi' hb hb']
end Go.Abs
