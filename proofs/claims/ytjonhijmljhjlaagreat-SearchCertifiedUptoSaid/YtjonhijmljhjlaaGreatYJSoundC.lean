import Derived.Test.YtjonhijmljhjlaaGreatYJSoundB
open Classical renaming not_not->zG
open Go renaming TypeId->qq,Value->qr,World->qn
open Nat renaming le_refl->wz
namespace Go.Abs
theorem VecAt.mono {F F':Cells}{w w':qn}{sz n k:Nat}{f:Nat->PVal}{e:qq}{x:Option (Nat×Nat×Nat)}(h:VecAt F w sz n f k e x)(hF:∀b o,F b o->F' b o)
 (hw:∀b o,F b o->w'.cell? ⟨b,o,none⟩=w.cell? ⟨b,o,none⟩) (hx:∀b m cap,x=some (b,m,cap)->w'.heap[b]?=w.heap[b]?/\∀o,F' b o->F b o):VecAt F' w' sz n f k e x:=by
 obtain⟨h0,h⟩:=h;refine⟨h0,?_⟩;rcases h with h|⟨b,cap,c,h1,h2,h3,h4,h5,h6,h7,h8⟩
 ·exact .inl h
 ·obtain⟨q1,q2⟩:=hx _ _ _ h1;refine .inr ⟨b,cap,c,h1,by rw[q1];exact h2,h3,h4,h5,λo ho=>h6 o (q2 o ho),h7,λi j p hi hp=>?_⟩;obtain⟨v,v1,v2,v3⟩:=h8 i j p hi hp;exact⟨v,v1,v2,v3.mono hF hw⟩
theorem ResOk.keep {F F':Cells}{w w':qn}{ρ ρ':Env}{j:Nat}{r:Res}(h:ResOk F w ρ j r)(N:Nat->Prop)(hF:∀b o,F b o->F' b o)
 (hw:∀b o,F b o->w'.cell? ⟨b,o,none⟩=w.cell? ⟨b,o,none⟩) (hρ:∀i,N i->ρ'.blk i=ρ.blk i/\ρ'.vec i=ρ.vec i) (hj:N j)
 (hr:∀i,¬N i->r.has i=false) (hown:∀b,Owns w ρ j r b->w'.heap[b]?=w.heap[b]?/\∀o,F' b o->F b o):ResOk F' w' ρ' j r:=by
 obtain⟨hb,hv⟩:=hρ j hj;cases r with
 |gone=>trivial
 |nilv=>show ρ'.vec j=none;rw[hv];exact h
 |box cs=>
  obtain⟨c,e,h1,h2,h3,h4⟩:=h;obtain⟨ho,hf⟩:=hown _ (.inl rfl);refine⟨c,e,by rw[hb,ho];exact h1,h2,λo hh=>?_,λk a v ha hv'=>?_⟩
  ·rw[hb]at hh;exact h3 o (hf o hh)
  ·obtain⟨h5,h6⟩:=h4 k a v ha hv';refine⟨h5.mono N hF hw hρ λi hi=>?_,h6⟩;exact pzd (by simpa[Res.has]using hr i hi) ha
 |map tm dom val=>
  obtain⟨es,clock,h1,h2,h3,h4,h5⟩:=h;obtain⟨ho,hf⟩:=hown _ (.inl rfl);exact⟨es,clock,by rw[hb,ho];exact h1,λo hh=>by rw[hb]at hh;exact h2 o (hf o hh),h3,h4,λp v hp hv=>⟨(h5 p v hp hv).1,(h5 p v hp hv).2.mono hF hw⟩⟩
 |iter s pos=>
  obtain⟨h1,h2⟩:=h;obtain⟨ho,hf⟩:=hown _ (.inl rfl);exact⟨by rw[hb,ho];exact h1,λo hh=>by rw[hb]at hh;exact h2 o (hf o hh)⟩
 |tok τ p=>exact τ.keep h hF hw λb hb=>hown b (.inr hb)
 |dat sz n f=>show PRel F' w' (.lst sz n f) (hzg (ρ'.vec j));rw[hv];exact PRel.mono hF hw h
 |vecT sz n f e e' hh=>
  obtain⟨b,cap,c,h1,h2,h3,h4,h5,h6,h7,h8,h9⟩:=h;obtain⟨ho,hf⟩:=hown b (.inl (by simp[bzg,h1]));refine⟨b,cap,c,by rw[hv];exact h1,by rw[ho];exact h2,h3,h4,h5,λo hh=>h6 o (hf o hh),λi hi=>?_,h8,h9⟩;obtain⟨v,v1,v2,v3⟩:=h7 i hi;refine⟨v,v1,v2,?_⟩;by_cases hi':hh=some i
  ·exact .inl hi'
  ·refine .inr ?_;obtain⟨x,n',g,q1,q2,q3⟩:=v3.resolve_left hi';refine⟨x,n',g,q1,q2,q3.mono hF hw λb1 m cap1 hx=>?_⟩;subst hx;exact hown b1 (.inr ⟨b,n,cap,c,e,i,h1,h2,hi,hi',m,cap1,by rw[v1,q2];rfl⟩)
 |vecX sz n f e h off i=>
  obtain⟨h0,b,cap,c,h1,h2,h3,h4,h6,h5⟩:=h;have hi:ρ'.vec i=ρ.vec i:=by
   by_cases hN:N i
   ·exact(hρ i hN).2
   ·have:=hr i hN;simp[Res.has]at this
  obtain⟨ho,hf⟩:=hown b (.inl (by simp[bzg,h1]));refine⟨?_,b,cap,c,by rw[hv];exact h1,by rw[ho];exact h2,h3,h4,h6,by rw[hi];exact h5⟩;rw[hv];exact h0.mono hF hw λb' m cap' hx=>by rw[h1]at hx;cases hx;exact⟨ho,hf⟩
 |vecU sz n f k e off s' e' hs=>
  obtain⟨h0,hk,h⟩:=h;refine⟨h0,hk,?_⟩;rcases h with⟨h1,h2⟩|⟨b,cap,c,h1,h2,h3,h4,h5,h6,h7,h8⟩
  ·exact .inl ⟨by rw[hv];exact h1,h2⟩
  ·obtain⟨ho,hf⟩:=hown b (.inl (by simp[bzg,h1]));refine .inr ⟨b,cap,c,by rw[hv];exact h1,by rw[ho];exact h2,h3,h4,h5,λo hh=>h6 o (hf o hh),⟨h7.len,λi j' p hi hj' hp=>?_,λi p hi hop hp=>?_,λx hx=>⟨(h7.hole x hx).1,?_⟩,h7.nodup,h7.inj⟩,h8⟩
   ·obtain⟨v,hv1,hv2,hv3⟩:=h7.cell i j' p hi hj' hp;exact⟨v,hv1,hv2,hv3.mono hF hw⟩
   ·obtain⟨v,hv1,hv2,hv3,hv4⟩:=h7.own i p hi hop hp;refine⟨v,hv1,hv2,λhik=>?_,λhik=>(hv4 hik).mono hF hw⟩;obtain⟨x,n',g,q1,q2,q3⟩:=hv3 hik;refine⟨x,n',g,q1,q2,q3.mono hF hw λb1 m cap1 hx=>?_⟩;subst hx;exact hown b1 (.inr ⟨b,n,cap,c,e,i,h1,h2,hi,hik,hop,m,cap1,by rw[hv1,q2];rfl⟩)
   ·have hi:ρ'.vec x.2=ρ.vec x.2:=by
     by_cases hN:N x.2
     ·exact(hρ x.2 hN).2
     ·have:=hr x.2 hN;simp only[Res.has,List.any_eq_false]at this;exact absurd (by simp) (this x hx)
    rw[hi];exact(h7.hole x hx).2
 |vec sz n f k e=>
  obtain⟨hk,h⟩:=h;refine⟨hk,?_⟩;rcases h with⟨h1,h2⟩|⟨b,cap,c,h1,h2,h3,h4,h5,h6,h7,h8⟩
  ·exact .inl ⟨by rw[hv];exact h1,h2⟩
  ·obtain⟨ho,hf⟩:=hown b (.inl (by simp[bzg,h1]));refine .inr ⟨b,cap,c,by rw[hv];exact h1,by rw[ho];exact h2,h3,h4,h5,λo hh=>h6 o (hf o hh),h7,λi j' p hi hp=>?_⟩;obtain⟨v,hv1,hv2,hv3⟩:=h8 i j' p hi hp;exact⟨v,hv1,hv2,hv3.mono hF hw⟩
theorem vzh {w w':qn}{ρ ρ':Env}{j:Nat}{r:Res}(h:ρ'.blk j=ρ.blk j/\ρ'.vec j=ρ.vec j)(hw:∀b,Owns w ρ j r b->w'.heap[b]?=w.heap[b]?)(b:Nat):Owns w' ρ' j r b↔Owns w ρ j r b:=by
 have e1:bzg ρ' j r=bzg ρ j r:=by cases r<;>simp[bzg,h.1,h.2]
 unfold Owns;rw[e1];refine or_congr Iff.rfl ?_;cases r with
 |vecT sz n f e e' hh=>
  simp only[nzl,h.2];refine⟨λ⟨b0,n0,cap,c,e0,i,q1,q2,q3⟩=>⟨b0,n0,cap,c,e0,i,q1,?_,q3⟩,λ⟨b0,n0,cap,c,e0,i,q1,q2,q3⟩=>⟨b0,n0,cap,c,e0,i,q1,?_,q3⟩⟩
  ·rw[<-hw b0 (.inl (by simp[bzg,q1]))];exact q2
  ·rw[hw b0 (.inl (by simp[bzg,q1]))];exact q2
 |vecU sz n f k e off s' e' hs=>
  simp only[nzl,h.2];refine⟨λ⟨b0,n0,cap,c,e0,i,q1,q2,q3⟩=>⟨b0,n0,cap,c,e0,i,q1,?_,q3⟩,λ⟨b0,n0,cap,c,e0,i,q1,q2,q3⟩=>⟨b0,n0,cap,c,e0,i,q1,?_,q3⟩⟩
  ·rw[<-hw b0 (.inl (by simp[bzg,q1]))];exact q2
  ·rw[hw b0 (.inl (by simp[bzg,q1]))];exact q2
 |_=>exact Iff.rfl
theorem owns_vec {w:qn}{ρ:Env}{j sz n k b:Nat}{f:Nat->PVal}{e:qq}:Owns w ρ j (.vec sz n f k e) b↔(ρ.vec j).map (·.1)=some b:=by
 simp[Owns,nzl,bzg]
theorem MemOk.step {F F':Cells}{w w':qn}{ρ ρ':Env}{Mine:Nat->Prop}{M:Mem}(hm:MemOk F w ρ Mine M)(st:Step Mine F w F' w')(N:Nat->Prop)
 (hρ:∀i,N i->ρ'.blk i=ρ.blk i/\ρ'.vec i=ρ.vec i) (wr:Mem)
 (hold:∀j r,M.get j=some r->wr.get j=none->N j/\(∀i,¬N i->r.has i=false)/\∀b,Owns w ρ j r b->w'.heap[b]?=w.heap[b]?/\∀o,F' b o->F b o)
 (hnew:∀j r,wr.get j=some r->ResOk F' w' ρ' j r/\∀b,Owns w' ρ' j r b->Mine b/\b<w'.heap.size/\∀k r',M.get k=some r'->wr.get k=none->¬Owns w ρ k r' b)
 (hdis:∀j j' r r' b,wr.get j=some r->wr.get j'=some r'->Owns w' ρ' j r b->Owns w' ρ' j' r' b->j=j'):MemOk F' w' ρ' Mine (wr++M):=by
 have split:∀j r,Mem.get (wr++M) j=some r->(wr.get j=some r)\/(wr.get j=none/\M.get j=some r):=by
  intro j r h;rw[Mem.get_append]at h;cases hw:wr.get j with
  |none=>rw[hw]at h;exact .inr ⟨rfl,by simpa using h⟩
  |some r'=>rw[hw]at h;exact .inl (by simpa using h)
 refine⟨λj r h=>?_,λj r b h hb=>?_,λj j' r r' b h h' hb hb'=>?_⟩
 ·rcases split j r h with h|⟨h1,h2⟩
  ·exact(hnew j r h).1
  ·obtain⟨a1,a2,a3⟩:=hold j r h2 h1;exact(hm.ok j r h2).keep N st.sub st.cell hρ a1 a2 a3
 ·rcases split j r h with h|⟨h1,h2⟩
  ·obtain⟨a1,a2,_⟩:=(hnew j r h).2 b hb;exact⟨a1,a2⟩
  ·obtain⟨a1,a2,a3⟩:=hold j r h2 h1;rw[vzh (hρ j a1) (λb hb=>(a3 b hb).1)]at hb;obtain⟨b1,b2⟩:=hm.mine j r b h2 hb;exact⟨b1,Nat.lt_of_lt_of_le b2 st.keep.size⟩
 ·rcases split j r h with h|⟨h1,h2⟩<;>rcases split j' r' h' with h'|⟨h1',h2'⟩
  ·exact hdis j j' r r' b h h' hb hb'
  ·obtain⟨a1,_,a3⟩:=hold j' r' h2' h1';rw[vzh (hρ j' a1) (λb hb=>(a3 b hb).1)]at hb';exact absurd hb' (((hnew j r h).2 b hb).2.2 j' r' h2' h1')
  ·obtain⟨a1,_,a3⟩:=hold j r h2 h1;rw[vzh (hρ j a1) (λb hb=>(a3 b hb).1)]at hb;exact absurd hb (((hnew j' r' h').2 b hb').2.2 j r h2 h1)
  ·obtain⟨a1,_,a3⟩:=hold j r h2 h1;obtain⟨a1',_,a3'⟩:=hold j' r' h2' h1';rw[vzh (hρ j a1) (λb hb=>(a3 b hb).1)]at hb;rw[vzh (hρ j' a1') (λb hb=>(a3' b hb).1)]at hb';exact hm.disj j j' r r' b h2 h2' hb hb'
theorem Step.alloc {Mine:Nat->Prop}{F:Cells}{w:qn}(g:Good F w Mine)(ob:Obj)(G:Nat->Prop):
 Step Mine F w (λb o=>F b o\/(b=w.heap.size/\G o)) (w.alloc ob):=by
 refine⟨λb o h=>.inl h,λb o h=>World.cell?_alloc_lt _ _ _ (g.lt b o h),λb o h=>?_,λb o h=>?_,⟨rfl,rfl,rfl,by simp,λk hk _=>heap_alloc_old w ob hk⟩⟩
 ·rcases h with h|⟨rfl,_⟩
  ·exact .inl h
  ·exact .inr (g.mine _ (wz _))
 ·rcases h with h|⟨rfl,_⟩
  ·have:=g.lt b o h;simp;omega
  ·simp
theorem Step.draw {Mine:Nat->Prop}{F:Cells}{w:qn}(g:Good F w Mine):Step Mine F w F w.drew:=
 ⟨λ_ _ h=>h,λ_ _ _=>rfl,λ_ _ h=>.inl h,g.lt,⟨rfl,rfl,rfl,wz _,λ_ _ _=>rfl⟩⟩
theorem Tzm {F:Cells}{w:qn}{ρ:Env}{Mine:Nat->Prop}{M:Mem}{id:Nat}(hm:MemOk F w ρ Mine M)(fr:Fresh id M)(ob:Obj)(G:Nat->Prop)(j:Nat)(r:Res)(h:M.get j=some r):
 ¬Own id j/\(∀i,¬¬Own id i->r.has i=false)/\∀b,Owns w ρ j r b->(w.alloc ob).heap[b]?=w.heap[b]?/\∀o,(F b o\/(b=w.heap.size/\G o))->F b o:=by
 refine⟨λhj=>?_,λi hi=>fr.has i j r (zG.1 hi) h,λb hb=>?_⟩
 ·rw[fr.none j hj]at h;cases h
 ·have hlt:=(hm.mine j r b h hb).2;refine⟨heap_alloc_old w ob hlt,λo ho=>?_⟩;rcases ho with ho|⟨rfl,_⟩
  ·exact ho
  ·omega
def Env.setBlk (ρ:Env)(id b:Nat):Env:={ρ with blk:=λi=>if i=id then b else ρ.blk i}
def Env.setVec (ρ:Env)(id:Nat)(x:Option (Nat×Nat×Nat)):Env:={ρ with vec:=λi=>if i=id then x else ρ.vec i}
def Env.clear (ρ:Env)(id:Nat):Env:={ρ with vec:=λi=>if id<=i/\i<id+64 then none else ρ.vec i}
theorem Bzm {F:Cells}{w:qn}{ρ:Env}:∀ (l:List qr) (id:Nat),(∀i,id<=i->i<id+l.length->ρ.vec i=none)->
 (rzf id l).length=l.length/\∀ (j:Nat) (a:AVal) (v:qr),(rzf id l)[j]?=some a->l[j]?=some v->ARel F w ρ a v
 |[],id,_=>by simp[rzf]
 |x::l,id,h=>by
  have ih:=Bzm (F:=F) (w:=w) (ρ:=ρ) l (id+1) (λi h1 h2=>h i qa (by simp;omega));have key:∀ (hd:AVal),ARel F w ρ hd x->(hd::rzf (id+1) l).length=(x::l).length/\∀ (j:Nat) (a:AVal) (v:qr),(hd::rzf (id+1) l)[j]?=some a->(x::l)[j]?=some v->ARel F w ρ a v:=by
   intro hd hhd;refine⟨by simp[ih.1],λj a v ha hv=>?_⟩;cases j with
   |zero=>simp at ha hv;subst ha;subst hv;exact hhd
   |succ j=>exact ih.2 j a v (by simpa using ha) (by simpa using hv)
  by_cases hx:x=.slice none 0 0
  ·subst hx;exact key _ (.vnil (h id (wz _) (by simp)))
  ·have:rzf id (x::l)=fzl x::rzf (id+1) l:=by
    conv=>lhs;unfold rzf
    split<;>simp_all
   rw[this];exact key _ (gzz x)
theorem Rzn:∀ (l:List qr) (id i:Nat) (r:Res),(zmem id l).get i=some r->r=.nilv/\id<=i/\i<id+l.length
 |[],id,i,r,h=>by simp[zmem,Mem.get]at h
 |x::l,id,i,r,h=>by
  have ih:=Rzn l (id+1) i r;by_cases hx:x=.slice none 0 0
  ·subst hx;simp only[zmem,Mem.get]at h;split at h
   ·simp at h;subst h;rename_i e;subst e;exact⟨rfl,wz _,by simp⟩
   ·obtain⟨h1,h2,h3⟩:=ih h;exact⟨h1,qa,by simp;omega⟩
  ·have:zmem id (x::l)=zmem (id+1) l:=by
    conv=>lhs;unfold zmem
    split<;>simp_all
   rw[this]at h;obtain⟨h1,h2,h3⟩:=ih h;exact⟨h1,qa,by simp;omega⟩
variable {P:Program} {o:Oper} {env:Operand->AVal} {m:Mem} {id:Nat}
theorem Xzz {F:Cells}{w:qn}{ρ:Env}{Mine:Nat->Prop}{M:Mem}(hm:MemOk F w ρ Mine M)(g:Good F w Mine)(fr:Fresh id M)(e:qq)(c:Array qr)(cs:List AVal)(zs:Mem)
 (hz:∀i r,zs.get i=some r->r=.nilv/\id<i/\i<id+64) (hl:cs.length=c.size)
 (hc:∀ (F':Cells) (w':qn) (ρ':Env),(∀b o,F b o->F' b o)->(∀b o,F b o->w'.cell? ⟨b,o,none⟩=w.cell? ⟨b,o,none⟩)->dzr id ρ ρ'->(∀i,Own id i->ρ'.vec i=none)->
  ∀ (j:Nat) (a:AVal) (v:qr),cs[j]?=some a->c[j]?=some v->ARel F' w' ρ' a v/\v.oneCell'=true):
 ∃F' ρ',Step Mine F w F' (w.alloc (.cells c e))/\dzr id ρ ρ'/\ρ'.blk id=w.heap.size/\MemOk F' (w.alloc (.cells c e)) ρ' Mine ((id,.box cs)::zs++M):=by
 have st:=Step.alloc g (.cells c e) (λ_=>False);let ρ':=(ρ.clear id).setBlk id w.heap.size;have he:dzr id ρ ρ':=by
  intro i hi;constructor
  ·show(if i=id then _ else _)=_;rw[qb (λh=>hi ⟨qa,qa⟩)];rfl
  ·exact qb hi
 have hvn:∀i,Own id i->ρ'.vec i=none:=λi hi=>qc hi
 have hb:ρ'.blk id=w.heap.size:=by show(if id=id then _ else _)=_;rw[qc rfl]
 refine⟨_,ρ',st,he,hb,?_⟩;have hget:∀j r,Mem.get ((id,.box cs)::zs) j=some r->(j=id/\r=.box cs)\/(r=.nilv/\id<j/\j<id+64):=by
  intro j r h;simp only[Mem.get]at h;split at h
  ·rename_i e;subst e;simp at h;exact .inl ⟨rfl,h.symm⟩
  ·exact .inr (hz j r h)
 refine MemOk.step hm st (λi=>¬Own id i) he ((id,.box cs)::zs) (λj r h _=>Tzm hm fr _ _ j r h) (λj r h=>?_) (λj j' r r' b h h' hb1 hb2=>?_)
 ·rcases hget j r h with⟨rfl,rfl⟩|⟨rfl,h1,h2⟩
  ·refine⟨⟨c,e,by rw[hb];exact heap_alloc_new w _,hl.symm,λo ho=>?_,λk a v ha hv=>hc _ _ _ st.sub st.cell he hvn k a v ha hv⟩,λb hbb=>?_⟩
   ·rw[hb]at ho;rcases ho with ho|⟨_,ho⟩
    ·exact absurd (g.lt _ _ ho) qa
    ·exact ho
   ·simp only[Owns,nzl,or_false,bzg,hb,Option.some.injEq]at hbb;subst hbb;refine⟨g.mine _ (wz _),by simp,λk r' hk _ hbk=>?_⟩;exact absurd (hm.mine k r' _ hk hbk).2 qa
  ·exact⟨hvn j ⟨qa,h2⟩,λb hbb=>by simp[Owns,nzl,bzg]at hbb⟩
 ·rcases hget j r h with⟨rfl,rfl⟩|⟨rfl,h1,h2⟩
  ·rcases hget j' r' h' with⟨rfl,rfl⟩|⟨rfl,h1,h2⟩
   ·rfl
   ·simp[Owns,nzl,bzg]at hb2
  ·simp[Owns,nzl,bzg]at hb1
theorem azcr {e:qq}{x:Operand}(ho:o.op=.box e x)(hs:(env x).cells.all (·.scalar)=true):Sound1 P o env m id ⟨.ptr id 0,[],[(id,.box (env x).cells)],none⟩:=by
 intro F w ρ Mine M a hm g fr _ hfe ha;have hop:x∈o.op.operands:=by simp[ho,Op.operands]
 have h1:=ha x hop;obtain⟨hl,_⟩:=h1.cells hs;obtain⟨F',ρ',st,he,hb,hm'⟩:=Xzz hm g fr e (a.eval x).cells (env x).cells [] (by simp[Mem.get]) hl (λF' w' ρ' hF hw he _ j y v hy hv=>by
  have h2:=h1.mono (λi=>¬Own id i) hF hw he (λi hi=>hfe x hop i (zG.1 hi));exact(h2.cells hs).2 j y v hy hv)
 refine⟨.pointer (some ⟨w.heap.size,0,none⟩),w.alloc (.cells (a.eval x).cells e),F',ρ',.value ?_,st,he,?_,by simpa using hm'⟩
 ·simp[execOp,ho,Instr.box,newVar,newRow]
 ·rw[<-hb];exact .ptr
theorem az9f {e:qq}{z:List qr}(ho:o.op=.alloc e)(hz:oz5 P e=some z)(hlen:z.length<60)(h1:z.all (λv=>v.oneCell')=true):
 Sound1 P o env m id ⟨.ptr id 0,[],(id,.box (rzf (id+1) z))::zmem (id+1) z,none⟩:=by
 intro F w ρ Mine M a hm g fr _ hfe ha;obtain⟨v,hv,hvz⟩:=Kz2 (P:=P) (w:=w) hz;have hsz:v.cells.size=z.length:=by rw[<-hvz];simp
 obtain⟨F',ρ',st,he,hb,hm'⟩:=Xzz hm g fr e v.cells (rzf (id+1) z) (zmem (id+1) z)
  (λi r h=>by obtain⟨q1,q2,q3⟩:=Rzn z (id+1) i r h;exact⟨q1,qa,qa⟩)
  (by rw[hsz];exact(Bzm (F:=F) (w:=w) (ρ:=ρ.clear id) z (id+1) (λi h1 h2=>qc ⟨qa,qa⟩)).1)
  (λF' w' ρ' hF hw he hvn j y u hy hu=>by
   have:=(Bzm (F:=F') (w:=w') (ρ:=ρ') z (id+1) (λi h1 h2=>hvn i ⟨qa,qa⟩)).2 j y u hy;have hu':z[j]?=some u:=by rw[<-hvz];simpa using hu
   exact⟨this hu',List.all_eq_true.1 h1 u (List.mem_of_getElem? hu')⟩)
 refine⟨.pointer (some ⟨w.heap.size,0,none⟩),w.alloc (.cells v.cells e),F',ρ',.value ?_,st,he,?_,by simpa using hm'⟩
 ·simp[execOp,ho,Instr.alloc,newVar,newRow,hv]
 ·rw[<-hb];exact .ptr
end Go.Abs
