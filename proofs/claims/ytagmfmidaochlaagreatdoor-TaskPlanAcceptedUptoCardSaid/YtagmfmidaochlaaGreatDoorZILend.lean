import Derived.Test.YtagmfmidaochlaaGreatDoorZITBase
open Bool renaming true->A,false->B
open Bool renaming and_eq_true->ql
namespace Go.Abs
mutual
def ae.flat:ae->Bool
 | .agg cs=>ae.flatL cs
 | .lst _ _ _=>B
 |_=>A
def ae.flatL:List ae->Bool
 |[]=>A
 |p::l=>ae.flat p&&ae.flatL l
end
theorem DK:∀ {l:List ae} {j:Nat} {p:ae},ae.flatL l=true->l[j]?=some p->p.flat=A
 |[],_,_,_,h=>by simp at h
 |x::l,0,p,h,a=>by
  simp only[ae.flatL,ql]at h;simp at a;subst a;exact h.1
 |x::l,j+1,p,h,a=>by
  simp only[ae.flatL,ql]at h;exact DK (j:=j) h.2 (by simpa using a)
theorem aH.flat {F c:Cells}{w f:World}{p:ae}{v:Value}(h:aH F w p v)(a:p.flat=A):aH c f p v:=by
 induction h with
 |unk h=>exact .unk h
 |bool=>exact .bool
 |int=>exact .int
 |str=>exact .str
 |nilI=>exact .nilI
 |agg d _ e=>exact .agg d λj p v b hv=>e j p v b hv (DK a b)
 |nil=>cases a
 |emp=>cases a
 |sl=>cases a
mutual
def ac.flat:ac->Bool
 | .pure p=>p.flat
 | .tt| .ff| .vec _=>A
 | .agg cs| .tup cs=>ac.flatL cs
 |_=>B
def ac.flatL:List ac->Bool
 |[]=>A
 |a::l=>ac.flat a&&ac.flatL l
end
theorem CX:∀ {l:List ac} {j:Nat} {p:ac},ac.flatL l=true->l[j]?=some p->p.flat=A
 |[],_,_,_,h=>by simp at h
 |x::l,0,p,h,a=>by
  simp only[ac.flatL,ql]at h;simp at a;subst a;exact h.1
 |x::l,j+1,p,h,a=>by
  simp only[ac.flatL,ql]at h;exact CX (j:=j) h.2 (by simpa using a)
theorem ak.flat {F f:Cells}{w g:World}{ρ:Env}{a:ac}{v:Value}(h:ak F w ρ a v)(c:a.flat=A):ak f g ρ a v:=by
 induction h with
 |pure h=>exact .pure (h.flat c)
 |tt=>exact .tt
 |ff=>exact .ff
 |agg d _ e=>exact .agg d λj p v b hv=>e j p v b hv (CX c b)
 |tup d _ e=>exact .tup d λj p v b hv=>e j p v b hv (CX c b)
 |vnil h=>exact .vnil h
 |vec h=>exact .vec h
 |_=>cases c
def Res.flat:Res->Prop
 | .vec _ _ f _ _=>∀i,(f i).flat=A
 | .nilv=>True
 |_=>False
def Mem.flat:Mem->Prop
 |[]=>True
 |(_,r)::m=>r.flat/\Mem.flat m
theorem Mem.flat_get:∀ {m:Mem} {i:Nat} {r:Res},m.flat->m.get i=some r->r.flat
 |[],_,_,_,h=>by simp[Mem.get]at h
 |(k,q)::m,i,r,a,h=>by
  simp only[Mem.get]at h;split at h;{cases h;exact a.1};exact Mem.flat_get a.2 h
theorem cH.flat {F g:Cells}{w:World}{ρ:Env}{id:Nat}{r:Res}(h:cH F w ρ id r)(z:∀b o,g b o->F b o)(l:r.flat):cH g w ρ id r:=by
 cases r with
 |nilv=>exact h
 |vec D n f k e=>
  obtain⟨x,y⟩:=h;refine⟨x,y.imp (λh=>h) ?_⟩;rintro⟨b,cap,c,a1,a2,a3,a4,a5,a6,a7,a8⟩;refine⟨b,cap,c,a1,a2,a3,a4,a5,λo h=>a6 o (z _ _ h),a7,λi j p C d=>?_⟩;obtain⟨v,m,s,t⟩:=a8 i j p C d;refine⟨v,m,s,t.flat ?_⟩;have a:=l i;revert d;generalize f i=q at a;cases q with
  |agg cs=>exact λd=>DK a d
  |_=>intro d;rcases j with _|j<;>simp[ae.cells]at d<;>subst d<;>exact a
 |_=>exact l.elim
theorem Res.flat_ren {τ:Nat->Nat}{r:Res}(a:r.flat):r.ren τ=r:=by
 cases r with
 |nilv=>rfl
 |vec=>rfl
 |_=>exact a.elim
def sE:List ac->Bool
 |[]=>A
 | .pure _::l=>sE l
 |_=>B
theorem PE:∀ {l:List ac} {j:Nat} {a:ac},sE l=true->l[j]?=some a->∃p,a=.pure p
 |[],_,_,_,h=>by simp at h
 | .pure p::l,0,a,_,h=>⟨p,by simpa using h.symm⟩
 | .pure p::l,j+1,a,b,h=>PE (l:=l) (j:=j) b kc
def mo (id:Nat):Mem->Bool
 |[]=>A
 |(i,.vec _ _ _ _ _)::l=>decide (i<id)&&mo id l
 |(i,.nilv)::l=>decide (i<id)&&mo id l
 |_=>B
theorem ve {id:Nat}:∀ {M:Mem} {i:Nat} {r:Res},mo id M=true->M.get i=some r->i<id/\∀j,r.has j=B
 |[],_,_,_,h=>by simp[Mem.get]at h
 |(k,.vec _ _ _ _ _)::l,i,r,hv,h=>by
  simp only[mo,ql,qf]at hv;simp only[Mem.get]at h;split at h;{rename_i a;cases h;exact⟨a▸hv.1,λ_=>rfl⟩};exact ve hv.2 h
 |(k,.nilv)::l,i,r,hv,h=>by
  simp only[mo,ql,qf]at hv;simp only[Mem.get]at h;split at h;{rename_i a;cases h;exact⟨a▸hv.1,λ_=>rfl⟩};exact ve hv.2 h
theorem eD.lend {P:Program}{f:FuncId}{c:List ac}{res:ac}{Q:Mem}(hs:eD P f 0 c [] res Q){M:Mem}{id:Nat}{d:List ac}(hp:sE c=A)
 (ha:(bP M c d).1=c) (hM:mo id M=A) (hr:res.flat=A) (H:Q.flat):
 eD P f id d M (res.ren (id+·)) (Mem.ren (id+·) Q++M):=by
 refine⟨hs.callable,λF w ρ J vs hm g C=>?_⟩;have hx:∀b o,cM F w ρ M (bP M c d).2 b o->F b o\/∃i r,M.get i=some r/\aE w ρ i r b:=λb o h=>h.imp (λh=>h) (λ⟨i,_,r,s,y⟩=>⟨i,r,s,y.owns⟩)
 have g0:bM (cM F w ρ M (bP M c d).2) w (λb=>w.heap.size<=b):=⟨λb o h=>(hx b o h).elim (g.lt b o) (λ⟨i,r,s,y⟩=>(hm.mine _ _ _ s y).2),λb G=>G,g.tab.step (λb o h=>.inl h) λ_ _ _=>rfl⟩;have hA:=rf hm g (m:=M) (t:=c) (l:=d) (vs:=vs.toList) (by simpa using C.1) (λj a v s y=>C.2 j a v s (by simpa using y)) (js:=(bP M c d).2) (λi hi=>hi) (λi _=>rfl);rw[ha]at hA;have hA':eh (cM F w ρ M (bP M c d).2) w ⟨λi=>ρ.blk (id+i),λi=>ρ.vec (id+i)⟩ c vs:=⟨by simpa using hA.1,λj a v s y=>by
  obtain⟨p,rfl⟩:=PE hp s;cases hA.2 j _ v s (by simpa using y)with
  |pure h=>exact .pure h⟩
 have hE:aG (cM F w ρ M (bP M c d).2) w ⟨λi=>ρ.blk (id+i),λi=>ρ.vec (id+i)⟩ (λb=>w.heap.size<=b) []:=
  ⟨λi r h=>by simp[Mem.get]at h,λi r b h=>by simp[Mem.get]at h,λi i' r R b h=>by simp[Mem.get]at h⟩
 refine(hs.calls _ w _ _ vs hE g0 hA').mono ?_;rintro e S ⟨v,V,ρ0,rfl,I,he,hv,O⟩;have N:∀b,w.heap.size<=b->J b:=g.mine;let ρ':Env:=⟨λj=>if id<=j then ρ0.blk (j-id)else ρ.blk j,λj=>if id<=j then ρ0.vec (j-id)else ρ.vec j⟩;have hρ:∀i,ρ'.blk (id+i)=ρ0.blk i/\ρ'.vec (id+i)=ρ0.vec i:=λi=>by
  constructor;{show(if id<=id+i then _ else _)=_;rw[qc qa];congr 1;omega};show(if id<=id+i then _ else _)=_;rw[qc qa];congr 1;omega
 have hE':cA id ρ ρ':=λi hi=>by
  by_cases h:id<=i
  ·have h64:¬Own 0 (i-id):=λy=>hi ⟨h,by have:=y.2;omega⟩
   obtain⟨e1,e2⟩:=he (i-id) h64;have U:id+(i-id)=i:=qa;simp only[U]at e1 e2;exact⟨by show(if id<=i then _ else _)=_;rw[qc h];exact e1,by show(if id<=i then _ else _)=_;rw[qc h];exact e2⟩
  exact⟨qb h,qb h⟩
 let F':Cells:=λb o=>F b o\/(w.heap.size<=b/\V b o)
 have Y:∀b o,F' b o->V b o:=λb o h=>h.elim (λh=>I.sub b o (.inl h)) (λh=>h.2)
 have st':Step J F w F' S:=⟨λb o h=>.inl h,λb o h=>I.cell b o (.inl h),λb o h=>h.imp (λh=>h) (λh=>N b h.1),λb o h=>I.lt b o (Y b o h),
  ⟨I.keep.os,I.keep.tape,I.keep.output,I.keep.size,λk hk hn=>I.keep.block k hk (λh=>hn (N k h))⟩⟩
 refine⟨v,F',ρ',rfl,st',hE',(hv.flat hr).ren hρ,?_⟩;have D:∀j r,(Mem.ren (id+·) Q).get j=some r->∃i,Q.get i=some r/\j=id+i:=λj r h=>by
  obtain⟨i,q,s,rfl,rfl⟩:=Dy h;have y:=sY (τ:=(id+·)) (m:=Q) (λx _ j z _=>by have:id+x.1=id+j:=z;omega) i ⟨_,s,rfl⟩;rw[h]at y;cases U:Q.get i with
  |none=>rw[U]at y;cases y
  |some q'=>
   rw[U]at y;have K:=Mem.flat_get H U;simp only[Option.map_some,Option.some.injEq,Res.flat_ren K]at y;exact⟨i,by rw[y];exact U,rfl⟩
 have E:∀j,w.heap.size<=j->∀k r,M.get k=some r->¬aE w ρ k r j:=λj z k r hk h=>by have:=(hm.mine k r j hk h).2;omega
 refine aG.step hm st' (λi=>i<id) (λi hi=>⟨qb qa,qb qa⟩) _ (λj r z _=>⟨(ve hM z).1,λi _=>(ve hM z).2 i,λb G=>⟨?_,λo hF=>?_⟩⟩) (λj r z=>?_) (λj j' r R b z hj' G hb'=>?_);{exact I.keep.block b (hm.mine j r b z G).2 (λh=>E b h j r z G)};{exact hF.elim (λh=>h) (λh=>(E b h.1 j r z G).elim)}
 ·obtain⟨i,s,rfl⟩:=D j r z;have K:=Mem.flat_get H s;have h5:=((O.ok i r s).flat Y K).ren hρ;rw[Res.flat_ren K]at h5;refine⟨h5,λb G=>?_⟩;have L:aE S ρ0 i r b:=by
   have:=(iK (w:=S) (b:=b) (r:=r) (hρ i)).1 (by rw[Res.flat_ren K];exact G);exact this
  obtain⟨q1,q2⟩:=O.mine i r b s L;exact⟨N b q1,q2,λk R hk _=>E b q1 k R hk⟩
 obtain⟨i,s,rfl⟩:=D j r z;obtain⟨i',X,rfl⟩:=D j' R hj';have K:=Mem.flat_get H s;have h4':=Mem.flat_get H X;have L:aE S ρ0 i r b:=(iK (w:=S) (b:=b) (r:=r) (hρ i)).1 (by rw[Res.flat_ren K];exact G);have Z:aE S ρ0 i' R b:=(iK (w:=S) (b:=b) (r:=R) (hρ i')).1 (by rw[Res.flat_ren h4'];exact hb');rw[O.disj i i' r R b s X L Z]
noncomputable def azs2 {α:Type}(c:aK α)(f:FuncId)(id:Nat)(a:List ac)(M:Mem)(b:c.f=.fn f)(d:c.k=0)(e:c.m=[])(j:sE c.args=A)(h:(bP M c.args a).1=c.args)
 (g:mo id M=A) (l:∀y,(c.res y).flat=A) (i:∀y,(c.m' y).flat):aK α:=
 ⟨c.P,.fn f,c.o,id,a,M,λy=>(c.res y).ren (id+·),λy=>Mem.ren (id+·) (c.m' y)++M,λy p=>by
  have:=c.ok y p;rw[b,d,e]at this;exact eD.lend this j h g (l y) (i y)⟩
end Go.Abs
