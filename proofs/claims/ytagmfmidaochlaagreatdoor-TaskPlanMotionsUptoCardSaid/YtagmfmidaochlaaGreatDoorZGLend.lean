import Derived.Test.YtagmfmidaochlaaGreatDoorZGTBase
open Bool renaming true->A,false->B
open Bool renaming and_eq_true->ql
namespace Go.Abs
mutual
def ae.flat:ae->Bool
 | .agg cs=>ae.flatL cs
 | .lst _ _ _=>B
 |_=>A
def ae.flatL:List ae->Bool
 |[]=>A
 |p::l=>ae.flat p&&ae.flatL l
end
theorem Fr:∀ {l:List ae} {j:Nat} {p:ae},ae.flatL l=true->l[j]?=some p->p.flat=A
 |[],_,_,_,h=>by simp at h
 |x::l,0,p,h,a=>by
  simp only[ae.flatL,ql]at h;simp at a;subst a;exact h.1
 |x::l,j+1,p,h,a=>by
  simp only[ae.flatL,ql]at h;exact Fr (j:=j) h.2 (by simpa using a)
theorem az.flat {F c:Cells}{w f:World}{p:ae}{v:Value}(h:az F w p v)(a:p.flat=A):az c f p v:=by
 induction h with
 |unk h=>exact .unk h
 |bool=>exact .bool
 |int=>exact .int
 |str=>exact .str
 |nilI=>exact .nilI
 |agg d _ e=>exact .agg d λj p v b hv=>e j p v b hv (Fr a b)
 |nil=>cases a
 |emp=>cases a
 |sl=>cases a
mutual
def ac.flat:ac->Bool
 | .pure p=>p.flat
 | .tt| .ff| .vec _=>A
 | .agg cs| .tup cs=>ac.flatL cs
 |_=>B
def ac.flatL:List ac->Bool
 |[]=>A
 |a::l=>ac.flat a&&ac.flatL l
end
theorem EO:∀ {l:List ac} {j:Nat} {p:ac},ac.flatL l=true->l[j]?=some p->p.flat=A
 |[],_,_,_,h=>by simp at h
 |x::l,0,p,h,a=>by
  simp only[ac.flatL,ql]at h;simp at a;subst a;exact h.1
 |x::l,j+1,p,h,a=>by
  simp only[ac.flatL,ql]at h;exact EO (j:=j) h.2 (by simpa using a)
theorem al.flat {F f:Cells}{w g:World}{ρ:Env}{a:ac}{v:Value}(h:al F w ρ a v)(c:a.flat=A):al f g ρ a v:=by
 induction h with
 |pure h=>exact .pure (h.flat c)
 |tt=>exact .tt
 |ff=>exact .ff
 |agg d _ e=>exact .agg d λj p v b hv=>e j p v b hv (EO c b)
 |tup d _ e=>exact .tup d λj p v b hv=>e j p v b hv (EO c b)
 |vnil h=>exact .vnil h
 |vec h=>exact .vec h
 |_=>cases c
def Res.flat:Res->Prop
 | .vec _ _ f _ _=>∀i,(f i).flat=A
 | .nilv=>True
 |_=>False
def Mem.flat:Mem->Prop
 |[]=>True
 |(_,r)::m=>r.flat/\Mem.flat m
theorem Mem.flat_get:∀ {m:Mem} {i:Nat} {r:Res},m.flat->m.get i=some r->r.flat
 |[],_,_,_,h=>by simp[Mem.get]at h
 |(k,q)::m,i,r,a,h=>by
  simp only[Mem.get]at h;split at h;{cases h;exact a.1};exact Mem.flat_get a.2 h
theorem cL.flat {F g:Cells}{w:World}{ρ:Env}{id:Nat}{r:Res}(h:cL F w ρ id r)(z:∀b o,g b o->F b o)(l:r.flat):cL g w ρ id r:=by
 cases r with
 |nilv=>exact h
 |vec D n f k e=>
  obtain⟨x,y⟩:=h;refine⟨x,y.imp (λh=>h) ?_⟩;rintro⟨b,cap,c,a1,a2,a3,a4,a5,a6,a7,a8⟩;refine⟨b,cap,c,a1,a2,a3,a4,a5,λo h=>a6 o (z _ _ h),a7,λi j p C d=>?_⟩;obtain⟨v,m,s,t⟩:=a8 i j p C d;refine⟨v,m,s,t.flat ?_⟩;have a:=l i;revert d;generalize f i=q at a;cases q with
  |agg cs=>exact λd=>Fr a d
  |_=>intro d;rcases j with _|j<;>simp[ae.cells]at d<;>subst d<;>exact a
 |_=>exact l.elim
theorem Res.flat_ren {τ:Nat->Nat}{r:Res}(a:r.flat):r.ren τ=r:=by
 cases r with
 |nilv=>rfl
 |vec=>rfl
 |_=>exact a.elim
def tq:List ac->Bool
 |[]=>A
 | .pure _::l=>tq l
 |_=>B
theorem Qb:∀ {l:List ac} {j:Nat} {a:ac},tq l=true->l[j]?=some a->∃p,a=.pure p
 |[],_,_,_,h=>by simp at h
 | .pure p::l,0,a,_,h=>⟨p,by simpa using h.symm⟩
 | .pure p::l,j+1,a,b,h=>Qb (l:=l) (j:=j) b ka
def mw (id:Nat):Mem->Bool
 |[]=>A
 |(i,.vec _ _ _ _ _)::l=>decide (i<id)&&mw id l
 |(i,.nilv)::l=>decide (i<id)&&mw id l
 |_=>B
theorem yb {id:Nat}:∀ {M:Mem} {i:Nat} {r:Res},mw id M=true->M.get i=some r->i<id/\∀j,r.has j=B
 |[],_,_,_,h=>by simp[Mem.get]at h
 |(k,.vec _ _ _ _ _)::l,i,r,hv,h=>by
  simp only[mw,ql,qf]at hv;simp only[Mem.get]at h;split at h;{rename_i a;cases h;exact⟨a▸hv.1,λ_=>rfl⟩};exact yb hv.2 h
 |(k,.nilv)::l,i,r,hv,h=>by
  simp only[mw,ql,qf]at hv;simp only[Mem.get]at h;split at h;{rename_i a;cases h;exact⟨a▸hv.1,λ_=>rfl⟩};exact yb hv.2 h
theorem eG.lend {P:Program}{f:FuncId}{c:List ac}{res:ac}{O:Mem}(hs:eG P f 0 c [] res O){M:Mem}{id:Nat}{d:List ac}(hp:tq c=A)
 (ha:(bT M c d).1=c) (hM:mw id M=A) (hr:res.flat=A) (H:O.flat):
 eG P f id d M (res.ren (id+·)) (Mem.ren (id+·) O++M):=by
 refine⟨hs.callable,λF w ρ I vs hm g C=>?_⟩;have hx:∀b o,cO F w ρ M (bT M c d).2 b o->F b o\/∃i r,M.get i=some r/\ax w ρ i r b:=λb o h=>h.imp (λh=>h) (λ⟨i,_,r,s,y⟩=>⟨i,r,s,y.owns⟩)
 have g0:bO (cO F w ρ M (bT M c d).2) w (λb=>w.heap.size<=b):=⟨λb o h=>(hx b o h).elim (g.lt b o) (λ⟨i,r,s,y⟩=>(hm.mine _ _ _ s y).2),λb G=>G,g.tab.step (λb o h=>.inl h) λ_ _ _=>rfl⟩;have hA:=rV hm g (m:=M) (t:=c) (l:=d) (vs:=vs.toList) (by simpa using C.1) (λj a v s y=>C.2 j a v s (by simpa using y)) (js:=(bT M c d).2) (λi hi=>hi) (λi _=>rfl);rw[ha]at hA;have hA':ev (cO F w ρ M (bT M c d).2) w ⟨λi=>ρ.blk (id+i),λi=>ρ.vec (id+i)⟩ c vs:=⟨by simpa using hA.1,λj a v s y=>by
  obtain⟨p,rfl⟩:=Qb hp s;cases hA.2 j _ v s (by simpa using y)with
  |pure h=>exact .pure h⟩
 have hE:ay (cO F w ρ M (bT M c d).2) w ⟨λi=>ρ.blk (id+i),λi=>ρ.vec (id+i)⟩ (λb=>w.heap.size<=b) []:=
  ⟨λi r h=>by simp[Mem.get]at h,λi r b h=>by simp[Mem.get]at h,λi i' r Q b h=>by simp[Mem.get]at h⟩
 refine(hs.calls _ w _ _ vs hE g0 hA').mono ?_;rintro e R ⟨v,U,ρ0,rfl,st,he,hv,N⟩;have L:∀b,w.heap.size<=b->I b:=g.mine;let ρ':Env:=⟨λj=>if id<=j then ρ0.blk (j-id)else ρ.blk j,λj=>if id<=j then ρ0.vec (j-id)else ρ.vec j⟩;have hρ:∀i,ρ'.blk (id+i)=ρ0.blk i/\ρ'.vec (id+i)=ρ0.vec i:=λi=>by
  constructor;{show(if id<=id+i then _ else _)=_;rw[qc qa];congr 1;omega};show(if id<=id+i then _ else _)=_;rw[qc qa];congr 1;omega
 have hE':cG id ρ ρ':=λi hi=>by
  by_cases h:id<=i
  ·have h64:¬Own 0 (i-id):=λy=>hi ⟨h,by have:=y.2;omega⟩
   obtain⟨e1,e2⟩:=he (i-id) h64;have S:id+(i-id)=i:=qa;simp only[S]at e1 e2;exact⟨by show(if id<=i then _ else _)=_;rw[qc h];exact e1,by show(if id<=i then _ else _)=_;rw[qc h];exact e2⟩
  exact⟨qb h,qb h⟩
 let F':Cells:=λb o=>F b o\/(w.heap.size<=b/\U b o)
 have X:∀b o,F' b o->U b o:=λb o h=>h.elim (λh=>st.sub b o (.inl h)) (λh=>h.2)
 have st':Step I F w F' R:=⟨λb o h=>.inl h,λb o h=>st.cell b o (.inl h),λb o h=>h.imp (λh=>h) (λh=>L b h.1),λb o h=>st.lt b o (X b o h),
  ⟨st.keep.os,st.keep.tape,st.keep.output,st.keep.size,λk Z hn=>st.keep.block k Z (λh=>hn (L k h))⟩⟩
 refine⟨v,F',ρ',rfl,st',hE',(hv.flat hr).ren hρ,?_⟩;have D:∀j r,(Mem.ren (id+·) O).get j=some r->∃i,O.get i=some r/\j=id+i:=λj r h=>by
  obtain⟨i,q,s,rfl,rfl⟩:=Ff h;have y:=tO (τ:=(id+·)) (m:=O) (λx _ j z _=>by have:id+x.1=id+j:=z;omega) i ⟨_,s,rfl⟩;rw[h]at y;cases S:O.get i with
  |none=>rw[S]at y;cases y
  |some q'=>
   rw[S]at y;have J:=Mem.flat_get H S;simp only[Option.map_some,Option.some.injEq,Res.flat_ren J]at y;exact⟨i,by rw[y];exact S,rfl⟩
 have E:∀j,w.heap.size<=j->∀k r,M.get k=some r->¬ax w ρ k r j:=λj z k r Z h=>by have:=(hm.mine k r j Z h).2;omega
 refine ay.step hm st' (λi=>i<id) (λi hi=>⟨qb qa,qb qa⟩) _ (λj r z _=>⟨(yb hM z).1,λi _=>(yb hM z).2 i,λb G=>⟨?_,λo hF=>?_⟩⟩) (λj r z=>?_) (λj j' r Q b z hj' G hb'=>?_);{exact st.keep.block b (hm.mine j r b z G).2 (λh=>E b h j r z G)};{exact hF.elim (λh=>h) (λh=>(E b h.1 j r z G).elim)}
 ·obtain⟨i,s,rfl⟩:=D j r z;have J:=Mem.flat_get H s;have h5:=((N.ok i r s).flat X J).ren hρ;rw[Res.flat_ren J]at h5;refine⟨h5,λb G=>?_⟩;have K:ax R ρ0 i r b:=by
   have:=(iR (w:=R) (b:=b) (r:=r) (hρ i)).1 (by rw[Res.flat_ren J];exact G);exact this
  obtain⟨q1,q2⟩:=N.mine i r b s K;exact⟨L b q1,q2,λk Q Z _=>E b q1 k Q Z⟩
 obtain⟨i,s,rfl⟩:=D j r z;obtain⟨i',V,rfl⟩:=D j' Q hj';have J:=Mem.flat_get H s;have h4':=Mem.flat_get H V;have K:ax R ρ0 i r b:=(iR (w:=R) (b:=b) (r:=r) (hρ i)).1 (by rw[Res.flat_ren J];exact G);have Y:ax R ρ0 i' Q b:=(iR (w:=R) (b:=b) (r:=Q) (hρ i')).1 (by rw[Res.flat_ren h4'];exact hb');rw[N.disj i i' r Q b s V K Y]
noncomputable def aztu {α:Type}(c:aC α)(f:FuncId)(id:Nat)(a:List ac)(M:Mem)(b:c.f=.fn f)(d:c.k=0)(e:c.m=[])(j:tq c.args=A)(h:(bT M c.args a).1=c.args)
 (g:mw id M=A) (l:∀y,(c.res y).flat=A) (i:∀y,(c.m' y).flat):aC α:=
 ⟨c.P,.fn f,c.o,id,a,M,λy=>(c.res y).ren (id+·),λy=>Mem.ren (id+·) (c.m' y)++M,λy p=>by
  have:=c.ok y p;rw[b,d,e]at this;exact eG.lend this j h g (l y) (i y)⟩
end Go.Abs
