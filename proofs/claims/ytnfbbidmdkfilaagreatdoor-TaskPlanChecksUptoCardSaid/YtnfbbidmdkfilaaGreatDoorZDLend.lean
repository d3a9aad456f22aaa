import Derived.Test.YtnfbbidmdkfilaaGreatDoorZDTBase
open Bool renaming and_eq_true->qm
namespace Go.Abs
mutual
def PVal.flat:PVal->Bool
 | .agg cs=>PVal.flatL cs
 | .lst _ _ _=>false
 |_=>true
def PVal.flatL:List PVal->Bool
 |[]=>true
 |p::l=>PVal.flat p&&PVal.flatL l
end
theorem Rzs:∀ {l:List PVal} {j:Nat} {p:PVal},PVal.flatL l=true->l[j]?=some p->p.flat=true
 |[],_,_,_,h=>by simp at h
 |x::l,0,p,h,h2=>by
  simp only[PVal.flatL,qm]at h;simp at h2;subst h2;exact h.1
 |x::l,j+1,p,h,h2=>by
  simp only[PVal.flatL,qm]at h;exact Rzs (j:=j) h.2 (by simpa using h2)
theorem PRel.flat {F F':Cells}{w w':World}{p:PVal}{v:Value}(h:PRel F w p v)(hf:p.flat=true):PRel F' w' p v:=by
 induction h with
 |unk h=>exact .unk h
 |bool=>exact .bool
 |int=>exact .int
 |str=>exact .str
 |nilI=>exact .nilI
 |agg hl _ ih=>exact .agg hl λj p v hj hv=>ih j p v hj hv (Rzs hf hj)
 |nil=>cases hf
 |emp=>cases hf
 |sl=>cases hf
mutual
def AVal.flat:AVal->Bool
 | .pure p=>p.flat
 | .tt| .ff| .vec _=>true
 | .agg cs| .tup cs=>AVal.flatL cs
 |_=>false
def AVal.flatL:List AVal->Bool
 |[]=>true
 |a::l=>AVal.flat a&&AVal.flatL l
end
theorem Mz5:∀ {l:List AVal} {j:Nat} {p:AVal},AVal.flatL l=true->l[j]?=some p->p.flat=true
 |[],_,_,_,h=>by simp at h
 |x::l,0,p,h,h2=>by
  simp only[AVal.flatL,qm]at h;simp at h2;subst h2;exact h.1
 |x::l,j+1,p,h,h2=>by
  simp only[AVal.flatL,qm]at h;exact Mz5 (j:=j) h.2 (by simpa using h2)
theorem ARel.flat {F F':Cells}{w w':World}{ρ:Env}{a:AVal}{v:Value}(h:ARel F w ρ a v)(hf:a.flat=true):ARel F' w' ρ a v:=by
 induction h with
 |pure h=>exact .pure (h.flat hf)
 |tt=>exact .tt
 |ff=>exact .ff
 |agg hl _ ih=>exact .agg hl λj p v hj hv=>ih j p v hj hv (Mz5 hf hj)
 |tup hl _ ih=>exact .tup hl λj p v hj hv=>ih j p v hj hv (Mz5 hf hj)
 |vnil h=>exact .vnil h
 |vec h=>exact .vec h
 |_=>cases hf
def Res.flat:Res->Prop
 | .vec _ _ f _ _=>∀i,(f i).flat=true
 | .nilv=>True
 |_=>False
def Mem.flat:Mem->Prop
 |[]=>True
 |(_,r)::m=>r.flat/\Mem.flat m
theorem Mem.flat_get:∀ {m:Mem} {i:Nat} {r:Res},m.flat->m.get i=some r->r.flat
 |[],_,_,_,h=>by simp[Mem.get]at h
 |(k,q)::m,i,r,hf,h=>by
  simp only[Mem.get]at h;split at h
  ·cases h;exact hf.1
  ·exact Mem.flat_get hf.2 h
theorem ResOk.flat {F F':Cells}{w:World}{ρ:Env}{id:Nat}{r:Res}(h:ResOk F w ρ id r)(hF:∀b o,F' b o->F b o)(hf:r.flat):ResOk F' w ρ id r:=by
 cases r with
 |nilv=>exact h
 |vec sz n f k e=>
  obtain⟨h1,h2⟩:=h;refine⟨h1,h2.imp (λh=>h) ?_⟩;rintro⟨b,cap,c,a1,a2,a3,a4,a5,a6,a7,a8⟩;refine⟨b,cap,c,a1,a2,a3,a4,a5,λo h=>a6 o (hF _ _ h),a7,λi j p hi hp=>?_⟩;obtain⟨v,b1,b2,b3⟩:=a8 i j p hi hp;refine⟨v,b1,b2,b3.flat ?_⟩;have hfi:=hf i;revert hp;generalize f i=q at hfi;cases q with
  |agg cs=>exact λhp=>Rzs hfi hp
  |_=>intro hp;rcases j with _|j<;>simp[PVal.cells]at hp<;>subst hp<;>exact hfi
 |_=>exact hf.elim
theorem Res.flat_ren {τ:Nat->Nat}{r:Res}(hf:r.flat):r.ren τ=r:=by
 cases r with
 |nilv=>rfl
 |vec=>rfl
 |_=>exact hf.elim
def Qzk:List AVal->Bool
 |[]=>true
 | .pure _::l=>Qzk l
 |_=>false
theorem Ozj:∀ {l:List AVal} {j:Nat} {a:AVal},Qzk l=true->l[j]?=some a->∃p,a=.pure p
 |[],_,_,_,h=>by simp at h
 | .pure p::l,0,a,_,h=>⟨p,by simpa using h.symm⟩
 | .pure p::l,j+1,a,hp,h=>Ozj (l:=l) (j:=j) hp jy
def tzu (id:Nat):Mem->Bool
 |[]=>true
 |(i,.vec _ _ _ _ _)::l=>decide (i<id)&&tzu id l
 |(i,.nilv)::l=>decide (i<id)&&tzu id l
 |_=>false
theorem rzb {id:Nat}:∀ {M:Mem} {i:Nat} {r:Res},tzu id M=true->M.get i=some r->i<id/\∀j,r.has j=false
 |[],_,_,_,h=>by simp[Mem.get]at h
 |(k,.vec _ _ _ _ _)::l,i,r,hv,h=>by
  simp only[tzu,qm,qf]at hv;simp only[Mem.get]at h;split at h
  ·rename_i hk;cases h;exact⟨hk▸hv.1,λ_=>rfl⟩
  ·exact rzb hv.2 h
 |(k,.nilv)::l,i,r,hv,h=>by
  simp only[tzu,qm,qf]at hv;simp only[Mem.get]at h;split at h
  ·rename_i hk;cases h;exact⟨hk▸hv.1,λ_=>rfl⟩
  ·exact rzb hv.2 h
theorem Spec.lend {P:Program}{f:FuncId}{args:List AVal}{res:AVal}{m':Mem}(hs:Spec P f 0 args [] res m'){M:Mem}{id:Nat}{args':List AVal}(hp:Qzk args=true)
 (ha:(bzh M args args').1=args) (hM:tzu id M=true) (hr:res.flat=true) (hm':m'.flat):
 Spec P f id args' M (res.ren (id+·)) (Mem.ren (id+·) m'++M):=by
 refine⟨hs.callable,λF w ρ Mine vs hm g hargs=>?_⟩;have hx:∀b o,dzv F w ρ M (bzh M args args').2 b o->F b o\/∃i r,M.get i=some r/\Owns w ρ i r b:=λb o h=>h.imp (λh=>h) (λ⟨i,_,r,h1,h2⟩=>⟨i,r,h1,h2.owns⟩)
 have g0:Good (dzv F w ρ M (bzh M args args').2) w (λb=>w.heap.size<=b):=⟨λb o h=>(hx b o h).elim (g.lt b o) (λ⟨i,r,h1,h2⟩=>(hm.mine _ _ _ h1 h2).2),λb hb=>hb,g.tab.step (λb o h=>.inl h) λ_ _ _=>rfl⟩;have hA:=ozb hm g (m:=M) (t:=args) (l:=args') (vs:=vs.toList) (by simpa using hargs.1) (λj a v h1 h2=>hargs.2 j a v h1 (by simpa using h2)) (js:=(bzh M args args').2) (λi hi=>hi) (λi _=>rfl);rw[ha]at hA;have hA':Hzu (dzv F w ρ M (bzh M args args').2) w ⟨λi=>ρ.blk (id+i),λi=>ρ.vec (id+i)⟩ args vs:=⟨by simpa using hA.1,λj a v h1 h2=>by
  obtain⟨p,rfl⟩:=Ozj hp h1;cases hA.2 j _ v h1 (by simpa using h2)with
  |pure h=>exact .pure h⟩
 have hE:MemOk (dzv F w ρ M (bzh M args args').2) w ⟨λi=>ρ.blk (id+i),λi=>ρ.vec (id+i)⟩ (λb=>w.heap.size<=b) []:=
  ⟨λi r h=>by simp[Mem.get]at h,λi r b h=>by simp[Mem.get]at h,λi i' r r' b h=>by simp[Mem.get]at h⟩
 refine(hs.calls _ w _ _ vs hE g0 hA').mono ?_;rintro e w' ⟨v,Fx',ρ0,rfl,st,he,hv,hm2⟩;have hle:∀b,w.heap.size<=b->Mine b:=g.mine;let ρ':Env:=⟨λj=>if id<=j then ρ0.blk (j-id)else ρ.blk j,λj=>if id<=j then ρ0.vec (j-id)else ρ.vec j⟩;have hρ:∀i,ρ'.blk (id+i)=ρ0.blk i/\ρ'.vec (id+i)=ρ0.vec i:=λi=>by
  constructor
  ·show(if id<=id+i then _ else _)=_;rw[qc qa];congr 1;omega
  ·show(if id<=id+i then _ else _)=_;rw[qc qa];congr 1;omega
 have hE':dz4 id ρ ρ':=λi hi=>by
  by_cases h:id<=i
  ·have h64:¬Own 0 (i-id):=λh2=>hi ⟨h,by have:=h2.2;omega⟩
   obtain⟨e1,e2⟩:=he (i-id) h64;have h3:id+(i-id)=i:=qa
   simp only[h3]at e1 e2;exact⟨by show(if id<=i then _ else _)=_;rw[qc h];exact e1,by show(if id<=i then _ else _)=_;rw[qc h];exact e2⟩
  ·exact⟨qb h,qb h⟩
 let F':Cells:=λb o=>F b o\/(w.heap.size<=b/\Fx' b o)
 have hF':∀b o,F' b o->Fx' b o:=λb o h=>h.elim (λh=>st.sub b o (.inl h)) (λh=>h.2)
 have st':Step Mine F w F' w':=⟨λb o h=>.inl h,λb o h=>st.cell b o (.inl h),λb o h=>h.imp (λh=>h) (λh=>hle b h.1),λb o h=>st.lt b o (hF' b o h),
  ⟨st.keep.os,st.keep.tape,st.keep.output,st.keep.size,λk hk hn=>st.keep.block k hk (λh=>hn (hle k h))⟩⟩
 refine⟨v,F',ρ',rfl,st',hE',(hv.flat hr).ren hρ,?_⟩;have hget:∀j r,(Mem.ren (id+·) m').get j=some r->∃i,m'.get i=some r/\j=id+i:=λj r h=>by
  obtain⟨i,q,h1,rfl,rfl⟩:=Nzf h;have h2:=Zzb (τ:=(id+·)) (m:=m') (λx _ j hj _=>by have:id+x.1=id+j:=hj;omega) i ⟨_,h1,rfl⟩;rw[h]at h2;cases h3:m'.get i with
  |none=>rw[h3]at h2;cases h2
  |some q'=>
   rw[h3]at h2;have h4:=Mem.flat_get hm' h3;simp only[Option.map_some,Option.some.injEq,Res.flat_ren h4]at h2;exact⟨i,by rw[h2];exact h3,rfl⟩
 have hold:∀j,w.heap.size<=j->∀k r,M.get k=some r->¬Owns w ρ k r j:=λj hj k r hk h=>by have:=(hm.mine k r j hk h).2;omega
 refine MemOk.step hm st' (λi=>i<id) (λi hi=>⟨qb qa,qb qa⟩) _ (λj r hj _=>⟨(rzb hM hj).1,λi _=>(rzb hM hj).2 i,λb hb=>⟨?_,λo hF=>?_⟩⟩) (λj r hj=>?_) (λj j' r r' b hj hj' hb hb'=>?_)
 ·exact st.keep.block b (hm.mine j r b hj hb).2 (λh=>hold b h j r hj hb)
 ·exact hF.elim (λh=>h) (λh=>(hold b h.1 j r hj hb).elim)
 ·obtain⟨i,h1,rfl⟩:=hget j r hj;have h4:=Mem.flat_get hm' h1;have h5:=((hm2.ok i r h1).flat hF' h4).ren hρ;rw[Res.flat_ren h4]at h5;refine⟨h5,λb hb=>?_⟩;have hb2:Owns w' ρ0 i r b:=by
   have:=(qzf (w:=w') (b:=b) (r:=r) (hρ i)).1 (by rw[Res.flat_ren h4];exact hb);exact this
  obtain⟨q1,q2⟩:=hm2.mine i r b h1 hb2;exact⟨hle b q1,q2,λk r' hk _=>hold b q1 k r' hk⟩
 ·obtain⟨i,h1,rfl⟩:=hget j r hj;obtain⟨i',h1',rfl⟩:=hget j' r' hj';have h4:=Mem.flat_get hm' h1;have h4':=Mem.flat_get hm' h1';have hb2:Owns w' ρ0 i r b:=(qzf (w:=w') (b:=b) (r:=r) (hρ i)).1 (by rw[Res.flat_ren h4];exact hb);have hb2':Owns w' ρ0 i' r' b:=(qzf (w:=w') (b:=b) (r:=r') (hρ i')).1 (by rw[Res.flat_ren h4'];exact hb');rw[hm2.disj i i' r r' b h1 h1' hb2 hb2']
noncomputable def azq5 {α:Type}(c:CallS α)(f:FuncId)(id:Nat)(args:List AVal)(M:Mem)(h1:c.f=.fn f)(h2:c.k=0)(h3:c.m=[])(hp:Qzk c.args=true)(ha:(bzh M c.args args).1=c.args)
 (hM:tzu id M=true) (hr:∀y,(c.res y).flat=true) (hm:∀y,(c.m' y).flat):CallS α:=
 ⟨c.P,.fn f,c.o,id,args,M,λy=>(c.res y).ren (id+·),λy=>Mem.ren (id+·) (c.m' y)++M,λy hy=>by
  have:=c.ok y hy;rw[h1,h2,h3]at this;exact Spec.lend this hp ha hM (hr y) (hm y)⟩
end Go.Abs
