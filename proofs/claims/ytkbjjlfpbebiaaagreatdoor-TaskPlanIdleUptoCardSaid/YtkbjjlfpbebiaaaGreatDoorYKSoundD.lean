/-
  SoundD (a part of a claim: our own text).
-/
import Derived.Test.YtkbjjlfpbebiaaaGreatDoorYKSoundB
namespace Go.Abs
theorem VecAt.mono {F F':Cells}{w w':World}{sz n k:Nat}{f:Nat->PVal}{e:TypeId}{x:Option (Nat×Nat×Nat)}(h:VecAt F w sz n f k e x)(hF:∀b o,F b o->F' b o)
 (hw:∀b o,F b o->w'.cell? ⟨b,o,none⟩=w.cell? ⟨b,o,none⟩) (hx:∀b m cap,x=some (b,m,cap)->w'.heap[b]?=w.heap[b]?/\∀o,F' b o->F b o):VecAt F' w' sz n f k e x:=by
 obtain⟨h0,h⟩:=h
 refine⟨h0,?_⟩
 rcases h with h|⟨b,cap,c,h1,h2,h3,h4,h5,h6,h7,h8⟩
 ·exact .inl h
 ·obtain⟨q1,q2⟩:=hx _ _ _ h1
  refine .inr ⟨b,cap,c,h1,by rw[q1];exact h2,h3,h4,h5,fun o ho=>h6 o (q2 o ho),h7,fun i j p hi hp=>?_⟩
  obtain⟨v,v1,v2,v3⟩:=h8 i j p hi hp
  exact⟨v,v1,v2,v3.mono hF hw⟩
theorem ResOk.keep {F F':Cells}{w w':World}{ρ ρ':Env}{j:Nat}{r:Res}(h:ResOk F w ρ j r)(N:Nat->Prop)(hF:∀b o,F b o->F' b o)
 (hw:∀b o,F b o->w'.cell? ⟨b,o,none⟩=w.cell? ⟨b,o,none⟩) (hρ:∀i,N i->ρ'.blk i=ρ.blk i/\ρ'.vec i=ρ.vec i) (hj:N j)
 (hr:∀i,¬N i->r.has i=false) (hown:∀b,Owns w ρ j r b->w'.heap[b]?=w.heap[b]?/\∀o,F' b o->F b o):ResOk F' w' ρ' j r:=by
 obtain⟨hb,hv⟩:=hρ j hj
 cases r with
 |gone=>trivial
 |nilv=>show ρ'.vec j=none;rw[hv];exact h
 |box cs=>
  obtain⟨c,e,h1,h2,h3,h4⟩:=h
  obtain⟨ho,hf⟩:=hown _ (.inl rfl)
  refine⟨c,e,by rw[hb,ho];exact h1,h2,fun o hh=>?_,fun k a v ha hv'=>?_⟩
  ·rw[hb]at hh;exact h3 o (hf o hh)
  ·obtain⟨h5,h6⟩:=h4 k a v ha hv'
   refine⟨h5.mono N hF hw hρ fun i hi=>?_,h6⟩
   exact kzh (by simpa[Res.has]using hr i hi) ha
 |map tm dom val=>
  obtain⟨es,clock,h1,h2,h3,h4,h5⟩:=h
  obtain⟨ho,hf⟩:=hown _ (.inl rfl)
  exact⟨es,clock,by rw[hb,ho];exact h1,fun o hh=>by rw[hb]at hh;exact h2 o (hf o hh),h3,h4,fun p v hp hv=>⟨(h5 p v hp hv).1,(h5 p v hp hv).2.mono hF hw⟩⟩
 |iter s pos=>
  obtain⟨h1,h2⟩:=h
  obtain⟨ho,hf⟩:=hown _ (.inl rfl)
  exact⟨by rw[hb,ho];exact h1,fun o hh=>by rw[hb]at hh;exact h2 o (hf o hh)⟩
 |tok τ p=>exact τ.keep h hF hw fun b hb=>hown b (.inr hb)
 |dat sz n f=>show PRel F' w' (.lst sz n f) (ez4 (ρ'.vec j));rw[hv];exact PRel.mono hF hw h
 |vecT sz n f e e' hh=>
  obtain⟨b,cap,c,h1,h2,h3,h4,h5,h6,h7,h8,h9⟩:=h
  obtain⟨ho,hf⟩:=hown b (.inl (by simp[bzc,h1]))
  refine⟨b,cap,c,by rw[hv];exact h1,by rw[ho];exact h2,h3,h4,h5,fun o hh=>h6 o (hf o hh),fun i hi=>?_,h8,h9⟩
  obtain⟨v,v1,v2,v3⟩:=h7 i hi
  refine⟨v,v1,v2,?_⟩
  by_cases hi':hh=some i
  ·exact .inl hi'
  ·refine .inr ?_
   obtain⟨x,n',g,q1,q2,q3⟩:=v3.resolve_left hi'
   refine⟨x,n',g,q1,q2,q3.mono hF hw fun b1 m cap1 hx=>?_⟩
   subst hx
   exact hown b1 (.inr ⟨b,n,cap,c,e,i,h1,h2,hi,hi',m,cap1,by rw[v1,q2];rfl⟩)
 |vecX sz n f e h off i=>
  obtain⟨h0,b,cap,c,h1,h2,h3,h4,h6,h5⟩:=h
  have hi:ρ'.vec i=ρ.vec i:=by
   by_cases hN:N i
   ·exact(hρ i hN).2
   ·have:=hr i hN;simp[Res.has]at this
  obtain⟨ho,hf⟩:=hown b (.inl (by simp[bzc,h1]))
  refine⟨?_,b,cap,c,by rw[hv];exact h1,by rw[ho];exact h2,h3,h4,h6,by rw[hi];exact h5⟩
  rw[hv]
  exact h0.mono hF hw fun b' m cap' hx=>by rw[h1]at hx;cases hx;exact⟨ho,hf⟩
 |vecU sz n f k e off s' e' hs=>
  obtain⟨h0,hk,h⟩:=h
  refine⟨h0,hk,?_⟩
  rcases h with⟨h1,h2⟩|⟨b,cap,c,h1,h2,h3,h4,h5,h6,h7,h8⟩
  ·exact .inl ⟨by rw[hv];exact h1,h2⟩
  ·obtain⟨ho,hf⟩:=hown b (.inl (by simp[bzc,h1]))
   refine .inr ⟨b,cap,c,by rw[hv];exact h1,by rw[ho];exact h2,h3,h4,h5,fun o hh=>h6 o (hf o hh),⟨h7.len,fun i j' p hi hj' hp=>?_,fun i p hi hop hp=>?_,fun x hx=>⟨(h7.hole x hx).1,?_⟩,h7.nodup,h7.inj⟩,h8⟩
   ·obtain⟨v,hv1,hv2,hv3⟩:=h7.cell i j' p hi hj' hp
    exact⟨v,hv1,hv2,hv3.mono hF hw⟩
   ·obtain⟨v,hv1,hv2,hv3,hv4⟩:=h7.own i p hi hop hp
    refine⟨v,hv1,hv2,fun hik=>?_,fun hik=>(hv4 hik).mono hF hw⟩
    obtain⟨x,n',g,q1,q2,q3⟩:=hv3 hik
    refine⟨x,n',g,q1,q2,q3.mono hF hw fun b1 m cap1 hx=>?_⟩
    subst hx
    exact hown b1 (.inr ⟨b,n,cap,c,e,i,h1,h2,hi,hik,hop,m,cap1,by rw[hv1,q2];rfl⟩)
   ·have hi:ρ'.vec x.2=ρ.vec x.2:=by
     by_cases hN:N x.2
     ·exact(hρ x.2 hN).2
     ·have:=hr x.2 hN
      simp only[Res.has,List.any_eq_false]at this
      exact absurd (by simp) (this x hx)
    rw[hi];exact(h7.hole x hx).2
 |vec sz n f k e=>
  obtain⟨hk,h⟩:=h
  refine⟨hk,?_⟩
  rcases h with⟨h1,h2⟩|⟨b,cap,c,h1,h2,h3,h4,h5,h6,h7,h8⟩
  ·exact .inl ⟨by rw[hv];exact h1,h2⟩
  ·obtain⟨ho,hf⟩:=hown b (.inl (by simp[bzc,h1]))
   refine .inr ⟨b,cap,c,by rw[hv];exact h1,by rw[ho];exact h2,h3,h4,h5,fun o hh=>h6 o (hf o hh),h7,fun i j' p hi hp=>?_⟩
   obtain⟨v,hv1,hv2,hv3⟩:=h8 i j' p hi hp
   exact⟨v,hv1,hv2,hv3.mono hF hw⟩
theorem nzp {w w':World}{ρ ρ':Env}{j:Nat}{r:Res}(h:ρ'.blk j=ρ.blk j/\ρ'.vec j=ρ.vec j)(hw:∀b,Owns w ρ j r b->w'.heap[b]?=w.heap[b]?)(b:Nat):Owns w' ρ' j r b↔Owns w ρ j r b:=by
 have e1:bzc ρ' j r=bzc ρ j r:=by cases r<;>simp[bzc,h.1,h.2]
 unfold Owns
 rw[e1]
 refine or_congr Iff.rfl ?_
 cases r with
 |vecT sz n f e e' hh=>
  simp only[hzm,h.2]
  refine⟨fun ⟨b0,n0,cap,c,e0,i,q1,q2,q3⟩=>⟨b0,n0,cap,c,e0,i,q1,?_,q3⟩,fun ⟨b0,n0,cap,c,e0,i,q1,q2,q3⟩=>⟨b0,n0,cap,c,e0,i,q1,?_,q3⟩⟩
  ·rw[←hw b0 (.inl (by simp[bzc,q1]))];exact q2
  ·rw[hw b0 (.inl (by simp[bzc,q1]))];exact q2
 |vecU sz n f k e off s' e' hs=>
  simp only[hzm,h.2]
  refine⟨fun ⟨b0,n0,cap,c,e0,i,q1,q2,q3⟩=>⟨b0,n0,cap,c,e0,i,q1,?_,q3⟩,fun ⟨b0,n0,cap,c,e0,i,q1,q2,q3⟩=>⟨b0,n0,cap,c,e0,i,q1,?_,q3⟩⟩
  ·rw[←hw b0 (.inl (by simp[bzc,q1]))];exact q2
  ·rw[hw b0 (.inl (by simp[bzc,q1]))];exact q2
 |_=>exact Iff.rfl
theorem owns_vec {w:World}{ρ:Env}{j sz n k b:Nat}{f:Nat->PVal}{e:TypeId}:Owns w ρ j (.vec sz n f k e) b↔(ρ.vec j).map (·.1)=some b:=by
 simp[Owns,hzm,bzc]
theorem MemOk.step {F F':Cells}{w w':World}{ρ ρ':Env}{Mine:Nat->Prop}{M:Mem}(hm:MemOk F w ρ Mine M)(st:Step Mine F w F' w')(N:Nat->Prop)
 (hρ:∀i,N i->ρ'.blk i=ρ.blk i/\ρ'.vec i=ρ.vec i) (wr:Mem)
 (hold:∀j r,M.get j=some r->wr.get j=none->N j/\(∀i,¬N i->r.has i=false)/\∀b,Owns w ρ j r b->w'.heap[b]?=w.heap[b]?/\∀o,F' b o->F b o)
 (hnew:∀j r,wr.get j=some r->ResOk F' w' ρ' j r/\∀b,Owns w' ρ' j r b->Mine b/\b<w'.heap.size/\∀k r',M.get k=some r'->wr.get k=none->¬Owns w ρ k r' b)
 (hdis:∀j j' r r' b,wr.get j=some r->wr.get j'=some r'->Owns w' ρ' j r b->Owns w' ρ' j' r' b->j=j'):MemOk F' w' ρ' Mine (wr++M):=by
 have split:∀j r,Mem.get (wr++M) j=some r->(wr.get j=some r)\/(wr.get j=none/\M.get j=some r):=by
  intro j r h
  rw[Mem.get_append]at h
  cases hw:wr.get j with
  |none=>rw[hw]at h;exact .inr ⟨rfl,by simpa using h⟩
  |some r'=>rw[hw]at h;exact .inl (by simpa using h)
 refine⟨fun j r h=>?_,fun j r b h hb=>?_,fun j j' r r' b h h' hb hb'=>?_⟩
 ·rcases split j r h with h|⟨h1,h2⟩
  ·exact(hnew j r h).1
  ·obtain⟨a1,a2,a3⟩:=hold j r h2 h1
   exact(hm.ok j r h2).keep N st.sub st.cell hρ a1 a2 a3
 ·rcases split j r h with h|⟨h1,h2⟩
  ·obtain⟨a1,a2,_⟩:=(hnew j r h).2 b hb
   exact⟨a1,a2⟩
  ·obtain⟨a1,a2,a3⟩:=hold j r h2 h1
   rw[nzp (hρ j a1) (fun b hb=>(a3 b hb).1)]at hb
   obtain⟨b1,b2⟩:=hm.mine j r b h2 hb
   exact⟨b1,Nat.lt_of_lt_of_le b2 st.keep.size⟩
 ·rcases split j r h with h|⟨h1,h2⟩<;>rcases split j' r' h' with h'|⟨h1',h2'⟩
  ·exact hdis j j' r r' b h h' hb hb'
  ·obtain⟨a1,_,a3⟩:=hold j' r' h2' h1'
   rw[nzp (hρ j' a1) (fun b hb=>(a3 b hb).1)]at hb'
   exact absurd hb' (((hnew j r h).2 b hb).2.2 j' r' h2' h1')
  ·obtain⟨a1,_,a3⟩:=hold j r h2 h1
   rw[nzp (hρ j a1) (fun b hb=>(a3 b hb).1)]at hb
   exact absurd hb (((hnew j' r' h').2 b hb').2.2 j r h2 h1)
  ·obtain⟨a1,_,a3⟩:=hold j r h2 h1
   obtain⟨a1',_,a3'⟩:=hold j' r' h2' h1'
   rw[nzp (hρ j a1) (fun b hb=>(a3 b hb).1)]at hb
   rw[nzp (hρ j' a1') (fun b hb=>(a3' b hb).1)]at hb'
   exact hm.disj j j' r r' b h2 h2' hb hb'
theorem Step.alloc {Mine:Nat->Prop}{F:Cells}{w:World}(g:Good F w Mine)(ob:Obj)(G:Nat->Prop):
 Step Mine F w (fun b o=>F b o\/(b=w.heap.size/\G o)) (w.alloc ob):=by
 refine⟨fun b o h=>.inl h,fun b o h=>World.cell?_alloc_lt _ _ _ (g.lt b o h),fun b o h=>?_,fun b o h=>?_,⟨rfl,rfl,rfl,by simp,fun k hk _=>heap_alloc_old w ob hk⟩⟩
 ·rcases h with h|⟨rfl,_⟩
  ·exact .inl h
  ·exact .inr (g.mine _ (Nat.le_refl _))
 ·rcases h with h|⟨rfl,_⟩
  ·have:=g.lt b o h;simp;omega
  ·simp
theorem Step.draw {Mine:Nat->Prop}{F:Cells}{w:World}(g:Good F w Mine):Step Mine F w F w.drew:=
 ⟨fun _ _ h=>h,fun _ _ _=>rfl,fun _ _ h=>.inl h,g.lt,⟨rfl,rfl,rfl,Nat.le_refl _,fun _ _ _=>rfl⟩⟩
theorem Jzi {F:Cells}{w:World}{ρ:Env}{Mine:Nat->Prop}{M:Mem}{id:Nat}(hm:MemOk F w ρ Mine M)(fr:Fresh id M)(ob:Obj)(G:Nat->Prop)(j:Nat)(r:Res)(h:M.get j=some r):
 ¬Own id j/\(∀i,¬¬Own id i->r.has i=false)/\∀b,Owns w ρ j r b->(w.alloc ob).heap[b]?=w.heap[b]?/\∀o,(F b o\/(b=w.heap.size/\G o))->F b o:=by
 refine⟨fun hj=>?_,fun i hi=>fr.has i j r (Classical.not_not.1 hi) h,fun b hb=>?_⟩
 ·rw[fr.none j hj]at h;cases h
 ·have hlt:=(hm.mine j r b h hb).2
  refine⟨heap_alloc_old w ob hlt,fun o ho=>?_⟩
  rcases ho with ho|⟨rfl,_⟩
  ·exact ho
  ·omega
def Env.setBlk (ρ:Env)(id b:Nat):Env:={ρ with blk:=fun i=>if i=id then b else ρ.blk i}
def Env.setVec (ρ:Env)(id:Nat)(x:Option (Nat×Nat×Nat)):Env:={ρ with vec:=fun i=>if i=id then x else ρ.vec i}
def Env.clear (ρ:Env)(id:Nat):Env:={ρ with vec:=fun i=>if id≤i/\i<id+64 then none else ρ.vec i}
theorem rza {F:Cells}{w:World}{ρ:Env}:∀ (l:List Value) (id:Nat),(∀i,id≤i->i<id+l.length->ρ.vec i=none)->
 (lzr id l).length=l.length/\∀ (j:Nat) (a:AVal) (v:Value),(lzr id l)[j]?=some a->l[j]?=some v->ARel F w ρ a v
 |[],id,_=>by simp[lzr]
 |x::l,id,h=>by
  have ih:=rza (F:=F) (w:=w) (ρ:=ρ) l (id+1) (fun i h1 h2=>h i (by omega) (by simp;omega))
  have key:∀ (hd:AVal),ARel F w ρ hd x->(hd::lzr (id+1) l).length=(x::l).length/\∀ (j:Nat) (a:AVal) (v:Value),(hd::lzr (id+1) l)[j]?=some a->(x::l)[j]?=some v->ARel F w ρ a v:=by
   intro hd hhd
   refine⟨by simp[ih.1],fun j a v ha hv=>?_⟩
   cases j with
   |zero=>simp at ha hv;subst ha;subst hv;exact hhd
   |succ j=>exact ih.2 j a v (by simpa using ha) (by simpa using hv)
  by_cases hx:x=.slice none 0 0
  ·subst hx
   exact key _ (.vnil (h id (Nat.le_refl _) (by simp)))
  ·have:lzr id (x::l)=dzq x::lzr (id+1) l:=by
    conv=>lhs;unfold lzr
    split<;>simp_all
   rw[this]
   exact key _ (eza x)
theorem Az9:∀ (l:List Value) (id i:Nat) (r:Res),(zmem id l).get i=some r->r=.nilv/\id≤i/\i<id+l.length
 |[],id,i,r,h=>by simp[zmem,Mem.get]at h
 |x::l,id,i,r,h=>by
  have ih:=Az9 l (id+1) i r
  by_cases hx:x=.slice none 0 0
  ·subst hx
   simp only[zmem,Mem.get]at h
   split at h
   ·simp at h;subst h;rename_i e;subst e;exact⟨rfl,Nat.le_refl _,by simp⟩
   ·obtain⟨h1,h2,h3⟩:=ih h;exact⟨h1,by omega,by simp;omega⟩
  ·have:zmem id (x::l)=zmem (id+1) l:=by
    conv=>lhs;unfold zmem
    split<;>simp_all
   rw[this]at h
   obtain⟨h1,h2,h3⟩:=ih h;exact⟨h1,by omega,by simp;omega⟩
variable {P:Program} {o:Oper} {env:Operand->AVal} {m:Mem} {id:Nat}
theorem Jzh {F:Cells}{w:World}{ρ:Env}{Mine:Nat->Prop}{M:Mem}(hm:MemOk F w ρ Mine M)(g:Good F w Mine)(fr:Fresh id M)(e:TypeId)(c:Array Value)(cs:List AVal)(zs:Mem)
 (hz:∀i r,zs.get i=some r->r=.nilv/\id<i/\i<id+64) (hl:cs.length=c.size)
 (hc:∀ (F':Cells) (w':World) (ρ':Env),(∀b o,F b o->F' b o)->(∀b o,F b o->w'.cell? ⟨b,o,none⟩=w.cell? ⟨b,o,none⟩)->czm id ρ ρ'->(∀i,Own id i->ρ'.vec i=none)->
  ∀ (j:Nat) (a:AVal) (v:Value),cs[j]?=some a->c[j]?=some v->ARel F' w' ρ' a v/\v.oneCell'=true):
 ∃F' ρ',Step Mine F w F' (w.alloc (.cells c e))/\czm id ρ ρ'/\ρ'.blk id=w.heap.size/\MemOk F' (w.alloc (.cells c e)) ρ' Mine ((id,.box cs)::zs++M):=by
 have st:=Step.alloc g (.cells c e) (fun _=>False)
 let ρ':=(ρ.clear id).setBlk id w.heap.size
 have he:czm id ρ ρ':=by
  intro i hi
  constructor
  ·show(if i=id then _ else _)=_
   rw[if_neg (fun h=>hi ⟨by omega,by omega⟩)];rfl
  ·exact if_neg hi
 have hvn:∀i,Own id i->ρ'.vec i=none:=fun i hi=>if_pos hi
 have hb:ρ'.blk id=w.heap.size:=by show(if id=id then _ else _)=_;rw[if_pos rfl]
 refine⟨_,ρ',st,he,hb,?_⟩
 have hget:∀j r,Mem.get ((id,.box cs)::zs) j=some r->(j=id/\r=.box cs)\/(r=.nilv/\id<j/\j<id+64):=by
  intro j r h
  simp only[Mem.get]at h
  split at h
  ·rename_i e;subst e;simp at h;exact .inl ⟨rfl,h.symm⟩
  ·exact .inr (hz j r h)
 refine MemOk.step hm st (fun i=>¬Own id i) he ((id,.box cs)::zs) (fun j r h _=>Jzi hm fr _ _ j r h) (fun j r h=>?_) (fun j j' r r' b h h' hb1 hb2=>?_)
 ·rcases hget j r h with⟨rfl,rfl⟩|⟨rfl,h1,h2⟩
  ·refine⟨⟨c,e,by rw[hb];exact heap_alloc_new w _,hl.symm,fun o ho=>?_,fun k a v ha hv=>hc _ _ _ st.sub st.cell he hvn k a v ha hv⟩,fun b hbb=>?_⟩
   ·rw[hb]at ho
    rcases ho with ho|⟨_,ho⟩
    ·exact absurd (g.lt _ _ ho) (by omega)
    ·exact ho
   ·simp only[Owns,hzm,or_false,bzc,hb,Option.some.injEq]at hbb
    subst hbb
    refine⟨g.mine _ (Nat.le_refl _),by simp,fun k r' hk _ hbk=>?_⟩
    exact absurd (hm.mine k r' _ hk hbk).2 (by omega)
  ·exact⟨hvn j ⟨by omega,h2⟩,fun b hbb=>by simp[Owns,hzm,bzc]at hbb⟩
 ·rcases hget j r h with⟨rfl,rfl⟩|⟨rfl,h1,h2⟩
  ·rcases hget j' r' h' with⟨rfl,rfl⟩|⟨rfl,h1,h2⟩
   ·rfl
   ·simp[Owns,hzm,bzc]at hb2
  ·simp[Owns,hzm,bzc]at hb1
theorem Wz6 {e:TypeId}{x:Operand}(ho:o.op=.box e x)(hs:(env x).cells.all (·.scalar)=true):Sound1 P o env m id ⟨.ptr id 0,[],[(id,.box (env x).cells)],none⟩:=by
 intro F w ρ Mine M a hm g fr _ hfe ha
 have hop:x∈o.op.operands:=by simp[ho,Op.operands]
 have h1:=ha x hop
 obtain⟨hl,_⟩:=h1.cells hs
 obtain⟨F',ρ',st,he,hb,hm'⟩:=Jzh hm g fr e (a.eval x).cells (env x).cells [] (by simp[Mem.get]) hl (fun F' w' ρ' hF hw he _ j y v hy hv=>by
  have h2:=h1.mono (fun i=>¬Own id i) hF hw he (fun i hi=>hfe x hop i (Classical.not_not.1 hi))
  exact(h2.cells hs).2 j y v hy hv)
 refine⟨.pointer (some ⟨w.heap.size,0,none⟩),w.alloc (.cells (a.eval x).cells e),F',ρ',.value ?_,st,he,?_,by simpa using hm'⟩
 ·simp[execOp,ho,Instr.box,newVar,newRow]
 ·rw[←hb];exact .ptr
theorem Uz2 {e:TypeId}{z:List Value}(ho:o.op=.alloc e)(hz:gzt P e=some z)(hlen:z.length<60)(h1:z.all (fun v=>v.oneCell')=true):
 Sound1 P o env m id ⟨.ptr id 0,[],(id,.box (lzr (id+1) z))::zmem (id+1) z,none⟩:=by
 intro F w ρ Mine M a hm g fr _ hfe ha
 obtain⟨v,hv,hvz⟩:=rz6 (P:=P) (w:=w) hz
 have hsz:v.cells.size=z.length:=by rw[←hvz];simp
 obtain⟨F',ρ',st,he,hb,hm'⟩:=Jzh hm g fr e v.cells (lzr (id+1) z) (zmem (id+1) z)
  (fun i r h=>by obtain⟨q1,q2,q3⟩:=Az9 z (id+1) i r h;exact⟨q1,by omega,by omega⟩)
  (by rw[hsz];exact(rza (F:=F) (w:=w) (ρ:=ρ.clear id) z (id+1) (fun i h1 h2=>if_pos ⟨by omega,by omega⟩)).1)
  (fun F' w' ρ' hF hw he hvn j y u hy hu=>by
   have:=(rza (F:=F') (w:=w') (ρ:=ρ') z (id+1) (fun i h1 h2=>hvn i ⟨by omega,by omega⟩)).2 j y u hy
   have hu':z[j]?=some u:=by rw[←hvz];simpa using hu
   exact⟨this hu',List.all_eq_true.1 h1 u (List.mem_of_getElem? hu')⟩)
 refine⟨.pointer (some ⟨w.heap.size,0,none⟩),w.alloc (.cells v.cells e),F',ρ',.value ?_,st,he,?_,by simpa using hm'⟩
 ·simp[execOp,ho,Instr.alloc,newVar,newRow,hv]
 ·rw[←hb];exact .ptr
inductive All2 {α β:Type} (R:α->β->Prop):List α->List β->Prop
 |nil:All2 R [] []
 |cons {a:α} {b:β} {l:List α} {m:List β}:R a b->All2 R l m->All2 R (a::l) (b::m)
theorem Izx (off:Nat):∀ (vs:List Value) (i:Nat) (cs:Array Value),off+i+vs.length≤cs.size->
 ((vs.zipIdx i).foldl (fun cs (x:Value×Nat)=>cs.setIfInBounds (off+x.2) x.1) cs)=(cs.toList.take (off+i)++vs++cs.toList.drop (off+i+vs.length)).toArray
 |[],i,cs,_=>by simp
 |v::vs,i,cs,h=>by
  simp only[List.length_cons]at h
  simp only[List.zipIdx_cons,List.foldl_cons]
  rw[Izx off vs (i+1) _ (by simp;omega)]
  have e:=list_seg_step cs.toList (off+i) v vs (by simp;omega)
  simpa[Array.toList_setIfInBounds,Nat.add_assoc]using e
theorem Izu (vs:Array Value)(off:Nat)(cs:Array Value)(h:off+vs.size≤cs.size):
 (vs.zipIdx.foldl (fun cs (c,j)=>cs.setIfInBounds (off+j) c) cs)=(cs.toList.take off++vs.toList++cs.toList.drop (off+vs.size)).toArray:=by
 have:=Izx off vs.toList 0 cs (by simpa using h)
 rw[←Array.foldl_toList,Array.toList_zipIdx]
 simpa using this
theorem ezc {α:Type}(cs vs:List α)(off j:Nat)(h:off+vs.length≤cs.length):
 (cs.take off++vs++cs.drop (off+vs.length))[j]?=if off≤j/\j<off+vs.length then vs[j-off]? else cs[j]?:=by
 by_cases h1:j<off
 ·rw[if_neg (by omega),List.append_assoc,List.getElem?_append_left (by simp;omega),List.getElem?_take_of_lt h1]
 ·by_cases h2:j<off+vs.length
  ·rw[if_pos ⟨by omega,h2⟩,List.append_assoc,List.getElem?_append_right (by simp;omega),List.getElem?_append_left (by simp;omega)]
   congr 1;simp;omega
  ·rw[if_neg (by omega),List.getElem?_append_right (by simp;omega),List.getElem?_drop]
   congr 1;simp;omega
theorem dz4 {α:Type}(cs vs:List α)(off:Nat)(h:off+vs.length≤cs.length):(cs.take off++vs++cs.drop (off+vs.length)).length=cs.length:=by
 simp;omega
variable {P:Program} {o:Oper} {env:Operand->AVal} {m:Mem} {id:Nat}
section
variable {F:Cells} {w:World} {ρ:Env}
def LRel (F:Cells)(w:World)(ρ:Env)(cs:List AVal)(vs:List Value):Prop:=
 cs.length=vs.length/\∀ (j:Nat) (a:AVal) (v:Value),cs[j]?=some a->vs[j]?=some v->ARel F w ρ a v
theorem LRel.over {cs us:List AVal}{vs xs:List Value}(h:LRel F w ρ cs vs)(h':LRel F w ρ us xs)(off:Nat)(hle:off+us.length≤cs.length):
 LRel F w ρ (cs.take off++us++cs.drop (off+us.length)) (vs.take off++xs++vs.drop (off+xs.length)):=by
 have e1:=h.1
 have e2:=h'.1
 refine⟨by rw[dz4 _ _ _ hle,dz4 _ _ _ (by omega)];exact e1,fun j a v ha hv=>?_⟩
 rw[ezc _ _ _ _ hle]at ha
 rw[ezc _ _ _ _ (by omega),←e2]at hv
 split at ha
 ·rename_i hc;rw[if_pos hc]at hv;exact h'.2 _ a v ha hv
 ·rename_i hc;rw[if_neg hc]at hv;exact h.2 _ a v ha hv
theorem Mza {a:Act}(place:Nat->Option (Nat×Nat)):∀ (parts:List (Nat×Operand)) (ps:List (Nat×List AVal)) (cs cs':List AVal) (vs:Array Value),
 LRel F w ρ cs vs.toList->(∀x∈parts,ARel F w ρ (env x.2) (a.eval x.2))->
 (All2 (fun (x:Nat×Operand) (y:Nat×List AVal)=>∃s,place x.1=some (y.1,s)/\y.2=(env x.2).cells/\y.2.length=s/\y.2.all (·.scalar)=true) parts ps)->
 over cs ps=some cs'->∃vs':Array Value,Instr.fill place vs (parts.map fun x=>(x.1,a.eval x.2))=some vs'/\LRel F w ρ cs' vs'.toList
 |[],_,cs,cs',vs,hr,_,hf,h=>by
  cases hf
  simp[over]at h;subst h
  exact⟨vs,by simp[Instr.fill],hr⟩
 |x::parts,_,cs,cs',vs,hr,ha,hf,h=>by
  cases hf with
  |cons hxy hf=>
   rename_i y ps
   obtain⟨s,h1,h2,h3,h4⟩:=hxy
   obtain⟨i,x⟩:=x
   obtain⟨off,us⟩:=y
   simp only at h1 h2 h3 h4
   subst h2
   simp only[over]at h
   split at h
   ·rename_i hle
    have hx:=ha (i,x) (by simp)
    obtain⟨hl,hc⟩:=hx.cells h4
    simp only at hl hc
    have hcs:cs.length=vs.size:=by simpa using hr.1
    have hus:LRel F w ρ (env x).cells (a.eval x).cells.toList:=⟨by simpa using hl,fun j b v hb hv=>(hc j b v hb (by simpa using hv)).1⟩
    have hnew:=hr.over hus off hle
    obtain⟨vs',h5,h6⟩:=Mza place parts ps _ cs' ((vs.toList.take off++(a.eval x).cells.toList++vs.toList.drop (off+(a.eval x).cells.toList.length)).toArray) (by simpa using hnew) (fun z hz=>ha z (by simp[hz])) hf h
    refine⟨vs',?_,h6⟩
    rw[List.map_cons]
    simp only[Instr.fill,h1]
    rw[if_neg (by simp only[Bool.or_eq_true,decide_eq_true_eq,not_or];exact⟨fun hh=>hh (by rw[←h3,hl]),by omega⟩),Izu _ _ _ (by omega)]
    simpa using h5
   ·cases h
end
def wzx (P:Program)(t:TypeId)(i:Nat):Option (Nat×Nat):=
 match P.underlying t with
 |some (.struct fs)=>match fs[i]? with
  |some f=>match bzi P f.type with
   |some s=>some (f.offset,s)
   |none=>none
  |none=>none
 |some (.array _ e)=>match bzi P e with
  |some s=>some (i * s,s)
  |none=>none
 |_=>none
theorem sz9 {t:TypeId}:∀ (parts:List (Nat×Operand)) (ps:List (Nat×List AVal)),kzw P t env parts=some ps->
 All2 (fun (x:Nat×Operand) (y:Nat×List AVal)=>∃s,wzx P t x.1=some (y.1,s)/\y.2=(env x.2).cells/\y.2.length=s/\y.2.all (·.scalar)=true) parts ps
 |[],ps,h=>by simp[kzw]at h;subst h;exact .nil
 |(i,x)::parts,ps,h=>by
  have e:kzw P t env ((i,x)::parts)=match wzx P t i,kzw P t env parts with
   |some (off,s),some l=>if(env x).cells.length=s&&(env x).cells.all (·.scalar)then some ((off,(env x).cells)::l)else none
   |_,_=>none:=rfl
  rw[e]at h
  split at h
  ·rename_i off s l h1 h2
   split at h
   ·rename_i hc
    simp only[Bool.and_eq_true,decide_eq_true_eq]at hc
    simp at h;subst h
    exact .cons ⟨s,h1,rfl,hc.1,hc.2⟩ (sz9 parts l h2)
   ·cases h
  ·cases h
theorem Fzt:∀ (fs:List Field),(fs.all fun f=>(bzi P f.type).isSome)=true->∃pl,fs.mapM (fun (f:Field)=>(P.info? f.type).map fun i=>(f.offset,i.size))=some pl/\
 ∀ (i:Nat),pl[i]?=match fs[i]? with|some f=>(match bzi P f.type with|some s=>some (f.offset,s)|none=>none)|none=>none
 |[],_=>⟨[],by simp,by simp⟩
 |f::fs,h=>by
  simp only[List.all_cons,Bool.and_eq_true]at h
  obtain⟨pl,h1,h2⟩:=Fzt fs h.2
  obtain⟨s,hs⟩:=Option.isSome_iff_exists.1 h.1
  obtain⟨inf,hi,hsz⟩:=ez2 hs
  refine⟨(f.offset,s)::pl,by simp[List.mapM_cons,hi,hsz,h1],fun i=>?_⟩
  cases i with
  |zero=>simp[hs]
  |succ i=>simpa using h2 i
theorem run_build' {w:World}{t:TypeId}{z:List Value}(hz:gzt P t=some z)(hs:Pzr P t=true)(parts:Array (Nat×Value))(cells:Array Value)
 (h:Instr.fill (wzx P t) z.toArray parts.toList=some cells):(Instr.build t parts).run P w=.ok (.agg cells) w:=by
 refine run_build w t parts cells ?_
 obtain⟨it,v,hi,hzv,hvz⟩:=hz3 hz
 have hc:v.cells=z.toArray:=by rw[←hvz]
 unfold Pzr at hs
 split at hs
 ·rename_i fs hu
  obtain⟨pl,h1,h2⟩:=Fzt (P:=P) fs.toList hs
  simp only[Program.built,hi,hu,hzv,h1,hc]
  rw[←h]
  congr 1
  funext i
  rw[List.getElem?_toArray,h2]
  simp only[wzx,hu,Array.getElem?_toList]
 ·rename_i n e hu
  obtain⟨s,hs'⟩:=Option.isSome_iff_exists.1 hs
  obtain⟨inf,hie,hsz⟩:=ez2 hs'
  simp only[Program.built,hi,hu,hzv,hie,hc]
  rw[←h]
  congr 1
  funext i
  simp[wzx,hu,hs',hsz]
 ·cases hs
theorem Izm {F:Cells}{w:World}{ρ:Env}{Mine:Nat->Prop}{M:Mem}(hm:MemOk F w ρ Mine M)(g:Good F w Mine)(fr:Fresh id M)(zs:Mem)
 (hz:∀i r,zs.get i=some r->r=.nilv/\Own id i):czm id ρ (ρ.clear id)/\MemOk F w (ρ.clear id) Mine (zs++M):=by
 have he:czm id ρ (ρ.clear id):=fun i hi=>⟨rfl,if_neg hi⟩
 refine⟨he,MemOk.step hm (Step.refl g) (fun i=>¬Own id i) he zs (fun j r h _=>⟨fun hj=>(by rw[fr.none j hj]at h;cases h),fun i hi=>fr.has i j r (Classical.not_not.1 hi) h,fun b _=>⟨rfl,fun _ h=>h⟩⟩) (fun j r h=>?_) (fun j j' r r' b h h' hb hb'=>?_)⟩
 ·obtain⟨rfl,ho⟩:=hz j r h
  exact⟨if_pos ho,fun b hb=>by simp[Owns,hzm,bzc]at hb⟩
 ·obtain⟨rfl,_⟩:=hz j r h
  simp[Owns,hzm,bzc]at hb
theorem Uz3 {t:TypeId}{parts:Array (Nat×Operand)}{out:Out}(ho:o.op=.build t parts)(h:Kzv P t id env parts.toList=some out):Sound1 P o env m id out:=by
 unfold Kzv at h
 split at h
 ·rename_i z ps hz hps
  split at h
  ·rename_i cs hcs
   split at h
   ·rename_i hs
    simp only[Bool.and_eq_true,decide_eq_true_eq]at hs
    cases h
    intro F w ρ Mine M a hm g fr _ hfe ha
    have hop:∀x∈parts.toList,x.2∈o.op.operands:=fun x hx=>by
     simp only[ho,Op.operands,List.mem_toArray,List.mem_map]
     exact⟨x,hx,rfl⟩
    obtain⟨he,hm'⟩:=Izm hm g fr (zmem id z) (fun i r h=>by obtain⟨q1,q2,q3⟩:=Az9 z id i r h;exact⟨q1,q2,by omega⟩)
    have hz0:=rza (F:=F) (w:=w) (ρ:=ρ.clear id) z id (fun i h1 h2=>if_pos ⟨h1,by omega⟩)
    obtain⟨vs',h1,h2⟩:=Mza (F:=F) (w:=w) (ρ:=ρ.clear id) (env:=env) (a:=a) (wzx P t) parts.toList ps (lzr id z) cs z.toArray ⟨by simpa using hz0.1,by simpa using hz0.2⟩
     (fun x hx=>(ha x.2 (hop x hx)).mono (fun i=>¬Own id i) (fun _ _ h=>h) (fun _ _ _=>rfl) he (fun i hi=>hfe x.2 (hop x hx) i (Classical.not_not.1 hi))) (sz9 parts.toList ps hps) hcs
    refine⟨.agg vs',w,F,ρ.clear id,.value ?_,Step.refl g,he,ARel.mkAgg (by simpa using h2.1) (fun j b v hb hv=>h2.2 j b v hb (by simpa using hv)),hm'⟩
    have hr:=run_build' (w:=w) hz hs.1 (parts.map fun x=>(x.1,a.eval x.2)) vs' (by simpa using h1)
    simp only[execOp,ho,Sem.run_bind]
    rw[show(parts.map fun (x:Nat×Operand)=>match x with|(i,x)=>(i,a.eval x))=parts.map fun x=>(x.1,a.eval x.2)from rfl,hr]
    simp
   ·cases h
  ·cases h
 ·cases h
theorem Wz9 (ho:o.op=.assign (.const (.slice none 0 0))):Sound1 P o env m id ⟨.vec id,[],[(id,.nilv)],none⟩:=by
 intro F w ρ Mine M a hm g fr _ _ _
 obtain⟨he,hm'⟩:=Izm hm g fr [(id,.nilv)] (fun i r h=>by
  simp only[Mem.get]at h
  split at h
  ·rename_i e;subst e;cases h;exact⟨rfl,Nat.le_refl _,by omega⟩
  ·cases h)
 exact⟨.slice none 0 0,w,F,ρ.clear id,.value (by simp[execOp,ho,Act.eval]),Step.refl g,he,.vnil (if_pos ⟨Nat.le_refl _,by omega⟩),hm'⟩
end Go.Abs
