import Derived.Test.YtagmfmidaochlaaGreatDoorZISoundM
open Option renaming some->AB,none->AC
open Bool renaming and_eq_true->ql
open Go renaming Operand->zw,Value->qq,World->qm,execOp->zM,run_underlying->zN
open Go.Op renaming operands->zL
open Go.Result renaming andThen_ok->zB
open Go.Sem renaming run_bind->zC,run_pure->zD
open List renaming cons_append->wD,mem_append->wH
open Option renaming none_or->jw,map_eq_some_iff->zK
namespace Go.Abs
variable {P:Program}{f:FuncId}{d:Array qq}{w:qm}
theorem rm(h:Ef P f):(callFunc f d).run P w=.ok (.enter f d) w:=by obtain⟨fn,a,c,b⟩:=h;grind[callFunc,zC,run_program,zB,zD]
theorem run_eql_slice_nil' (w:qm)(t e:TypeId)(a:Option Addr)(l c:Nat)(h:P.underlying t=AB (.slice e)):(binOp .eql t (.slice a l c) (.slice AC 0 0)).run P w=.ok (.bool a.isNone) w:=by
 have b:∀d:Nat,(Op.equalIn (d+1) t (.slice a l c) (.slice AC 0 0)).run P w=.ok a.isNone w:=λd=>by
  cases a<;>simp[Op.equalIn,zN h]
 simp_all[binOp,Op.equal,Op.maxDepth]
variable {m:Mem}{j:Nat}
theorem ab7{is:List Nat}(h:j∉is):(bG m is).get j=none:=by cases a:(bG m is).get j<;>grind[fk]
variable {o:Oper}{s:St}{h:Hint}{l:List ac}{F:Cells}{a:Act}
theorem Ej{C:Array qq->qm->(Ending->qm->Prop)->Prop}(f:∀ {vs w R S},C vs w R->(∀e c,R e c->S e c)->C vs w S){id:Nat}
 (W:((bP s.mem h.args l).2.all λj=>(Mem.ren (bn h.σ h.k id) h.m).all λx=>x.1 !=j)=true) (G:ga h id=true)
 (Y:ei (bP s.mem h.args l).1 (ac.renL (bn h.σ h.k id) h.args)) (h2:ej s.mem (Mem.ren (bn h.σ h.k id) h.m))
 (X:∀ (F:Cells) (w:qm) (ρ:Env) (Mine:Nat->Prop) (vs:Array qq),aG F w ρ Mine h.m->bM F w Mine->eh F w ρ h.args vs->
  C vs w λe c=>∃v F' ρ',e=.returned v/\Step Mine F w F' c/\cA h.k ρ ρ'/\ak F' c ρ' h.res v/\aG F' c ρ' Mine h.m')
   {ρ:Env} {Mine:Nat->Prop}   (L:aG F w ρ Mine m) (g:bM F w Mine) (E:dN id m)
 (J:∀i∈(Mem.ren (bn h.σ h.k id) h.m).map (·.1)++(bP s.mem h.args l).2,m.get i=s.mem.get i) {vs:Array qq} (B:∀ (d:Act->qm->Prop) (Q:Exit->Act->qm->Prop),(C vs w λe c=>∃v,e=.returned v/\d (a.put o.dst v) c)->o.wpIn Fence.wide 0 P a w d Q)
 (p:l.length=vs.toList.length/\∀ (j:Nat) (b:ac) (v:qq),l[j]?=AB b->vs.toList[j]?=AB v->ak F w ρ b v):
 rL P o a w λv c=>∃F' ρ',Step Mine F w F' c/\cA id ρ ρ'/\ak F' c ρ' (ac.ren (bn h.σ h.k id) h.res) v/\
  aG F' c ρ' Mine ((Mem.ren (bn h.σ h.k id) h.m'++bG s.mem (bP s.mem h.args l).2)++m):=by
 intro d Q Z;generalize I:bP s.mem h.args l=n at *
 have u:∀i∈n.2,m.get i=s.mem.get i:=λi hi=>J i jX
 obtain⟨A,H⟩:=k8 (m:=s.mem) L g u;have V:=rf (m:=s.mem) (js:=n.2) L g p.1 p.2 (by rw[I];simp_all) jW;obtain⟨hl,N⟩:=mi (F:=cM F w ρ s.mem n.2) (w:=w) (ρ:=ρ) Y;have q:eh (cM F w ρ s.mem n.2) w ρ (ac.renL (bn h.σ h.k id) h.args) vs:=by
  refine⟨jW,λj b v hb hv=>?_⟩;grind
 have D:dN id (bG s.mem n.2++m):=by
  refine⟨λi hi=>?_,λi j r hi hj=>?_⟩
  ·rw[Mem.get_append];cases U:(bG s.mem n.2).get i with
   |none=>simpa using E.none i hi
   |some r=>
    obtain⟨T,K,O,_⟩:=fk U;have:=E.none i hi;simp_all
  rw[Mem.get_append]at hj;cases U:(bG s.mem n.2).get j with
  |none=>exact E.has i j r hi jW
  |some r'=>
   grind[fk,CU]
 have z:∀y∈Mem.ren (bn h.σ h.k id) h.m,∃K,(bG s.mem n.2++m).get y.1=AB K/\RSub K y.2:=by
  grind[k0,Mem.get_append,ab7]
 have t:=Q6 (C:=C) (λh k=>f h k) X (SQ G) H (A.good g) D z q;refine B d Q (f t ?_);rintro e c ⟨v,F',ρ',rfl,T,O,q3,q4⟩;exact⟨v,rfl,Z v c ⟨F',ρ',A.trans T,O,q3,jW⟩⟩
theorem UW(c:(zM a.eval o).run P w=.ok (.enter f d) w)(b:Act->qm->Prop)(Q:Exit->Act->qm->Prop)
 (h:Calls P f d w λe g=>∃v,e=.returned v/\b (a.put o.dst v) g):o.wpIn Fence.wide 0 P a w b Q:=by
 refine DD ?_;unfold Oper.wp;rw[c];refine h.mono ?_;simp_all
theorem aj7(c:(zM a.eval o).run P w=(Instr.yield j d).run P w)(b:Act->qm->Prop)(Q:Exit->Act->qm->Prop)
 (h:YieldAt Fence.wide 0 P j d w λe l=>∃v,e=.returned v/\b (a.put o.dst v) l):o.wpIn Fence.wide 0 P a w b Q:=by
 obtain⟨fn,g,m,f,k,i⟩:=h;refine⟨λ_ _=>trivial,?_⟩;show o.uponIn Fence.wide 0 P a b Q ((zM a.eval o).run P w);rw[c,k,Oper.uponIn_round];refine⟨(λh=>by cases h),i.mono ?_⟩;simp_all
theorem abb{R f:Ending->qm->Prop}(h:YieldAt Fence.wide 0 P j d w R)(l:∀e k,R e k->f e k):YieldAt Fence.wide 0 P j d w f:=by obtain⟨fn,b,a,c,i,g⟩:=h;exact⟨fn,b,a,c,i,g.mono l⟩
theorem ag5 {a b:ac}(h:Ge a b=true):a=b:=by unfold Ge at h;grind
theorem RQ:∀ {l c:List ac},tn l c=true->l=c
 |[],[],_=>rfl
 |a::l,b::c,h=>by
  simp only[tn,ql]at h;rw[ag5 h.1,RQ h.2]
 |[],_::_,h=>by cases h
 |_::_,[],h=>by cases h
theorem y9 {m d M S:Mem}(c:∀y∈d,M.get y.1=m.get y.1)(f:∀i n,m.get i=AB (.box n)->S.get i=AC):∀ (L:Mem) (i:Nat),Mem.get (fv m d L++(S++M)) i=Mem.get (L++(S++M)) i
 |[],_=>rfl
 |(k,r)::l,i=>by
  have b:∀g,Mem.get (((k,g)::fv m d l)++(S++M)) i=Mem.get (((k,g)::l)++(S++M)) i:=λg=>by
   have:=y9 c f l i;simp only[wD,Mem.get];split;{rfl};exact this
  unfold fv;split
  ·rename_i n a o;split
   ·rename_i j;simp only[ql,List.any_eq_true,List.all_eq_true,beq_iff_eq,bne_iff_ne]at j;obtain⟨⟨s,y,u,A⟩,p⟩:=j;rw[y9 c f l i];simp only[wD,Mem.get];split
    ·rename_i e;subst e;have v:∀q:Mem,(∀x∈q,x.1≠k)->Mem.get q k=none:=by
      intro q;induction q with
      |nil=>intro _;rfl
      |cons x q w=>
       intro h;rw[Mem.get,qb (h x (List.mem_cons_self ..))];exact w λz t=>h z (List.mem_cons_of_mem _ t)
     rw[Mem.get_append,v l p,jw,Mem.get_append,f k a o,jw];have:=c y u;rw[A,o]at this;rw[this,RQ s]
    rfl
   exact b _
  exact b _
variable {g:Nat->Prop}{b:Mem}
theorem aG.sameGet{ρ:Env}(h:aG F w ρ g m)(f:∀i,b.get i=m.get i):aG F w ρ g b:=
 ⟨λi r j=>h.ok i r jW,λi r a j=>h.mine i r a jW,λi d r c a j e=>h.disj i d r c a jW jW⟩
theorem abU{is:List Nat}(h:m.get j=AB (.box l)):(bG m is).get j=none:=by
 cases d:(bG m is).get j with
 |none=>rfl
 |some r=>
  obtain⟨_,e,a,c⟩:=fk d;rw[h]at a;cases a;cases c
variable {c:ac}
theorem DF{ρ:Env}{M m e L:Mem}{is s:List Nat}{id:Nat}
 (k:∀i∈e.map (·.1)++is++s,M.get i=m.get i)
 (h:rL P o a w λv b=>∃r ρ',Step g F w r b/\cA id ρ ρ'/\ak r b ρ' c v/\aG r b ρ' g ((L++bG m is)++M)):
 rL P o a w λv b=>∃r ρ',Step g F w r b/\cA id ρ ρ'/\ak r b ρ' c v/\aG r b ρ' g ((fv m e L++bG m is)++M):=by
 intro d Q f;refine h d Q λv b ⟨r,ρ',p,l,j,n⟩=>f v b ⟨r,ρ',p,l,j,n.sameGet λi=>?_⟩
 grind[y9,abU]
variable {e:Call}{Z:Option Prop}
theorem aiU{x:zw}{id:Nat}{d c:List ac}(U:o.op=.call e)(N:e.callee=.value x)(O:aL s x=.func f d c)
 (t:((bP s.mem h.args (b7 s.mem h.args (d++e.args.toList.map (aL s)++c)).1).2.all λj=>(Mem.ren (bn h.σ h.k id) h.m).all λx=>x.1 !=j)=true) (z:ga h id=true)
 (B:ei (bP s.mem h.args (b7 s.mem h.args (d++e.args.toList.map (aL s)++c)).1).1 (ac.renL (bn h.σ h.k id) h.args)/\ej s.mem (Mem.ren (bn h.σ h.k id) h.m)/\eD P f h.k h.args h.m h.res h.m') :
 Sound2 P o (aL s) s.mem id ⟨ac.ren (bn h.σ h.k id) h.res,(Mem.ren (bn h.σ h.k id) h.m).map (·.1)++(bP s.mem h.args (b7 s.mem h.args (d++e.args.toList.map (aL s)++c)).1).2++(b7 s.mem h.args (d++e.args.toList.map (aL s)++c)).2,
  fv s.mem (Mem.ren (bn h.σ h.k id) h.m) (Mem.ren (bn h.σ h.k id) h.m')++bG s.mem (bP s.mem h.args (b7 s.mem h.args (d++e.args.toList.map (aL s)++c)).1).2,Z⟩:=by
 obtain⟨R,K,H⟩:=B;intro F w ρ Mine M a G g I n T S;have p:x∈o.op.operands:=by grind[zL,Call.operands]
 have E:∀y∈e.args.toList,y∈o.op.operands:=λy X=>by grind[zL,Call.operands]
 have q:=O▸S x p;generalize L:a.eval x=u at q;cases q with
 |func W Q V J=>
  rename_i A D;have r:(zM a.eval o).run P w=.ok (.enter f (A++e.args.map a.eval++D)) w:=by
   simp only[zM,U,resolve,N,L,Deferred.ofValue,zC,zD,zB,invoke,rm H.callable]
  have l:(d++e.args.toList.map (aL s)++c).length=(A++e.args.map a.eval++D).toList.length/\
   ∀ (j:Nat) (b:ac) (v:qq),(d++e.args.toList.map (aL s)++c)[j]?=AB b->(A++e.args.map a.eval++D).toList[j]?=AB v->ak F w ρ b v:=by
   grind
  exact DF n (Ej (C:=Calls P f) (λh k=>h.mono k) t z R K H.calls G g I (λi Y=>n i (wH.2 (.inl Y))) (UW r) (rN G l.1 l.2 (λi Y=>n i (wH.2 (.inr Y)))))
theorem ahN{x:zw}{id:Nat}(O:o.op=.call e)(N:e.callee=.value x)(G:aL s x=.yld j)
 (f:((bP s.mem h.args (b7 s.mem h.args (e.args.toList.map (aL s))).1).2.all λl=>(Mem.ren (bn h.σ h.k id) h.m).all λx=>x.1 !=l)=true) (r:ga h id=true)
 (t:ei (bP s.mem h.args (b7 s.mem h.args (e.args.toList.map (aL s))).1).1 (ac.renL (bn h.σ h.k id) h.args)/\ej s.mem (Mem.ren (bn h.σ h.k id) h.m)/\YSpec P j h.k h.args h.m h.res h.m') :
 Sound2 P o (aL s) s.mem id ⟨ac.ren (bn h.σ h.k id) h.res,(Mem.ren (bn h.σ h.k id) h.m).map (·.1)++(bP s.mem h.args (b7 s.mem h.args (e.args.toList.map (aL s))).1).2++(b7 s.mem h.args (e.args.toList.map (aL s))).2,
  fv s.mem (Mem.ren (bn h.σ h.k id) h.m) (Mem.ren (bn h.σ h.k id) h.m')++bG s.mem (bP s.mem h.args (b7 s.mem h.args (e.args.toList.map (aL s))).1).2,Z⟩:=by
 obtain⟨I,H,J⟩:=t;intro F w ρ Mine M a z g D c E B;have p:x∈o.op.operands:=by grind[zL,Call.operands]
 have A:∀y∈e.args.toList,y∈o.op.operands:=λy K=>by grind[zL,Call.operands]
 have q:=G▸B x p;generalize L:a.eval x=u at q;cases q with
 |yld=>
  have n:(zM a.eval o).run P w=(Instr.yield j (e.args.map a.eval)).run P w:=by
   grind[zM,resolve,Deferred.ofValue,invoke]
  have d:(e.args.toList.map (aL s)).length=(e.args.map a.eval).toList.length/\
   ∀ (l:Nat) (b:ac) (v:qq),(e.args.toList.map (aL s))[l]?=AB b->(e.args.map a.eval).toList[l]?=AB v->ak F w ρ b v:=by
   grind
  exact DF c (Ej (C:=YieldAt Fence.wide 0 P j) (λh k=>abb h k) f r I H J.calls z g D (λi Q=>c i (wH.2 (.inl Q))) (aj7 n) (rN z d.1 d.2 (λi Q=>c i (wH.2 (.inr Q)))))
theorem acM{t:TypeId}{a:String}(h:og P t a=AB f)(n:Nat)(v:qq)(w:qm):(method (n+1) t v a).run P w=.ok (f,v) w:=by
 unfold og at h;split at h
 ·rename_i i o;split at h
  ·rename_i m j;split at h
   ·have b:m.path.toList=[]:=by
     simp_all
    split at h;{rename_i k e c g;cases h;simp only[method,typeInfo,zC,run_program,zB,o,zD,j,b,follow,c,receiverAt,zN g,Place.get]};{cases h};{rename_i k d l c g;cases h;simp only[method,typeInfo,zC,run_program,zB,o,zD,j,b,follow,c,receiverAt,zN g];cases d<;>first|(simp only[Place.get,zD,zB];done)|(exact absurd rfl (l _))};cases h
   cases h
  cases h
 cases h
theorem afR{x:zw}{d:String}{id:Nat}{t:TypeId}(L:o.op=.call e)(J:e.callee=.invoke x d)(S:aL s x=.iface t c)(N:og P t d=AB f)
 (z:((bP s.mem h.args (b7 s.mem h.args (c::e.args.toList.map (aL s))).1).2.all λj=>(Mem.ren (bn h.σ h.k id) h.m).all λx=>x.1 !=j)=true) (A:ga h id=true)
 (B:ei (bP s.mem h.args (b7 s.mem h.args (c::e.args.toList.map (aL s))).1).1 (ac.renL (bn h.σ h.k id) h.args)/\ej s.mem (Mem.ren (bn h.σ h.k id) h.m)/\eD P f h.k h.args h.m h.res h.m') :
 Sound2 P o (aL s) s.mem id ⟨ac.ren (bn h.σ h.k id) h.res,(Mem.ren (bn h.σ h.k id) h.m).map (·.1)++(bP s.mem h.args (b7 s.mem h.args (c::e.args.toList.map (aL s))).1).2++(b7 s.mem h.args (c::e.args.toList.map (aL s))).2,
  fv s.mem (Mem.ren (bn h.σ h.k id) h.m) (Mem.ren (bn h.σ h.k id) h.m')++bG s.mem (bP s.mem h.args (b7 s.mem h.args (c::e.args.toList.map (aL s))).1).2,Z⟩:=by
 obtain⟨T,R,E⟩:=B;intro F w ρ Mine M a G g O l I U;have n:x∈o.op.operands:=by grind[zL,Call.operands]
 have D:∀y∈e.args.toList,y∈o.op.operands:=λy W=>by grind[zL,Call.operands]
 have p:=S▸U x n;generalize Q:a.eval x=u at p;cases p with
 |iface V=>
  rename_i v;have q:(zM a.eval o).run P w=.ok (.enter f (#[v]++e.args.map a.eval)) w:=by
   have H:(#[Value.iface t v]++e.args.map a.eval)[0]?=AB (.iface t v):=jX;have K:(#[Value.iface t v]++e.args.map a.eval).extract 1 (#[Value.iface t v]++e.args.map a.eval).size=e.args.map a.eval:=by
    simp_all
   simp only[zM,L,resolve,J,Q,zC,zD,zB,invoke,H,K,callMethod,run_program,Made.depth,acM N,rm E.callable]
  suffices r:(c::e.args.toList.map (aL s)).length=(#[v]++e.args.map a.eval).toList.length/\∀ (j:Nat) (b:ac) (u:qq),(c::e.args.toList.map (aL s))[j]?=AB b->(#[v]++e.args.map a.eval).toList[j]?=AB u->ak F w ρ b u from
   DF l (Ej (C:=Calls P f) (λh k=>h.mono k) z A T R E.calls G g O (λi X=>l i (wH.2 (.inl X))) (UW q) (rN G r.1 r.2 (λi X=>l i (wH.2 (.inr X)))))
  grind
theorem afl{ρ:Env}(t:aG F w ρ g m){v:qq}{n:Nat}{is:List Nat}(o:∀i∈is,m.get i=b.get i)
 (h:lenV b c=AB (n,is)) (p:ak F w ρ c v):∃M l a,v=.slice M l a/\(0<n->M.isNone=false):=by
 unfold lenV at h;split at h
 ·rename_i j;split at h
  ·rename_i C x f k e q;cases h;rcases t.ok j _ ((o j jV).trans q)with⟨_,⟨d,s⟩|⟨u,B,a,r,_⟩⟩
   {cases p<;>simp_all};cases p<;>simp_all
  grind
 ·rename_i j _ _ _;split at h
  ·rename_i C x f k e q;cases h;cases p with
   |view y z A=>simp_all
   |viewN y z=>
    rcases t.ok j _ ((o j jV).trans q)with⟨_,⟨d,s⟩|⟨u,B,a,r,_⟩⟩;all_goals simp_all
  grind
 grind
theorem u9{hint:Nat->Option Hint}{id:Nat}{out:Out}{b:Bool}(h:eL P hint j o id s=AB (out,b))(g:holds out.obl):Sound2 P o (aL s) s.mem id out:=by
 unfold eL at h;split at h
 ·rename_i c d;split at h
  ·rename_i bb V;split at h
   ·rename_i S;simp only[ql]at S;rw[zK]at h;obtain⟨q,k,p⟩:=h;cases p;have Q:bb=.append:=by
     grind[F8]
    subst Q;obtain⟨K,args,U⟩:=c;simp only at V;subst V;unfold T3 at k;simp only at k;split at k
    ·rename_i s1 x1 E;have:args=#[s1,x1]:=by grind
     subst this;split at k
     ·rename_i hsz;have N:∀t,U[0]?=AB t->U[1]?=AB t->U=#[t,t]:=λt T B=>by
       grind
      exact(ae3 d N k g).to2
     simp_all
    simp_all
   rw[zK]at h;obtain⟨q,k,p⟩:=h;cases p;refine(kR (o:=o) ?_ g).to2;grind[evOp]
  ·rename_i x E;split at h
   ·rename_i f R X L C z;simp only at h;split at h;{rename_i D;simp only[ql]at D;cases h;exact aiU d E C D.1 D.2 g};grind
   ·rename_i l L C z;simp only at h;split at h;{rename_i D;simp only[ql]at D;cases h;exact ahN d E C D.1 D.2 g};grind
   grind
  rename_i x W E;split at h
  ·rename_i t r L C z;split at h
   ·rename_i f hf;simp only at h;split at h;{rename_i D;simp only[ql]at D;cases h;exact afR d E C hf D.1 D.2 g};grind
   grind
  grind
 ·rename_i x d;split at h
  ·rename_i i L E z;split at h
   ·rename_i str pos hj;split at h;{cases h;exact(abR d E hj g).to2};cases h;exact(abS d E hj g).to2
   grind
  grind
 ·rename_i op t x y ty d;split at h
  ·rename_i hnt;split at h
   ·rename_i sz n f e E hu;have Z:op=.eql/\y=.const (.slice AC 0 0):=by
     grind[sU]
    obtain⟨rfl,rfl⟩:=Z;have H:∀ {a:Act} {w:qm} {b:Option Addr} {l c:Nat},a.eval x=.slice b l c->Ran P o a w (.bool b.isNone) w:=by
     intro a w b l c A;have B:(eqGuard .eql t x (.const (.slice AC 0 0)) (.slice b l c) (.slice AC 0 0)).run P w=.ok () w:=by
      rfl
     have O:a.eval (.const (.slice AC 0 0))=.slice AC 0 0:=rfl;exact .value (by grind[zM,zC,zB,run_eql_slice_nil',zD])
    split at h
    ·cases h;refine(aq.still (P:=P) (o:=o) (env:=aL s) (m:=s.mem) (id:=id) λF w ρ Y M a I u G=>?_).to2;have B:=(E▸G x (by simp[d,zL])).pure_inv;rcases B.lst_inv with⟨A,_⟩|⟨_,_,A,_,_⟩|⟨b,off,cap,c,A,_⟩
     {exact⟨_,H A,.anyb⟩};{exact⟨_,H A,.anyb⟩};exact⟨_,H A,.anyb⟩
    cases h;refine(aq.still (P:=P) (o:=o) (env:=aL s) (m:=s.mem) (id:=id) λF w ρ Y M a I u G=>?_).to2;have hn:0<n:=g;have B:=(E▸G x (by simp[d,zL])).pure_inv;rcases B.lst_inv with⟨A,T⟩|⟨_,_,A,T,_⟩|⟨b,off,cap,c,A,_⟩
    {omega};{omega};exact⟨_,H A,.ff⟩
   ·rename_i e hu _;have Z:op=.eql/\y=.const (.slice AC 0 0):=by
     grind[sU]
    split at h
    ·rename_i n is hl
     have J:∀ (F:Cells) (w:qm) (ρ:Env) (Y:Nat->Prop) (M:Mem) (a:Act),aG F w ρ Y M->(∀j∈is,M.get j=s.mem.get j)->
      (∀x∈o.op.operands,ak F w ρ (aL s x) (a.eval x))->∃b,Ran P o a w (.bool b) w/\(0<n->b=false):=by
      intro F w ρ Y M a I u G;obtain⟨b,l,c,A,V⟩:=afl I u hl (G x (by simp[d,zL]));refine⟨b.isNone,?_,λT=>jX⟩;have B:(eqGuard .eql t x (.const (.slice AC 0 0)) (.slice b l c) (.slice AC 0 0)).run P w=.ok () w:=by
       rfl
      have O:a.eval (.const (.slice AC 0 0))=.slice AC 0 0:=rfl;exact .value (by grind[zM,zC,zB,run_eql_slice_nil',zD])
     split at h
     ·cases h;exact(aq.still (P:=P) (o:=o) (env:=aL s) (m:=s.mem) (id:=id) λF w ρ Y M a I u G=>by
       obtain⟨b,B,_⟩:=J F w ρ Y M a I u G;exact⟨_,B,.anyb⟩).to2
     cases h;have hn:0<n:=g;exact(aq.still (P:=P) (o:=o) (env:=aL s) (m:=s.mem) (id:=id) λF w ρ Y M a I u G=>by
      obtain⟨b,B,O⟩:=J F w ρ Y M a I u G;rw[O hn]at B;exact⟨_,B,.ff⟩).to2
    grind
   grind
  rw[zK]at h;obtain⟨q,k,p⟩:=h;exact(kR jW g).to2
 ·rename_i t l c d;split at h;{rw[zK]at h;obtain⟨q,k,p⟩:=h;cases p;exact(ab4 d k g).to2};rw[zK]at h;obtain⟨q,k,p⟩:=h;cases p;exact(Qk d k g).to2
 ·rename_i t x v d;split at h;{rw[zK]at h;obtain⟨q,k,p⟩:=h;cases p;exact(s6 d k g).to2};split at h;{rw[zK]at h;obtain⟨q,k,p⟩:=h;cases p;exact(ag3 d k g).to2};rw[zK]at h;obtain⟨q,k,p⟩:=h;exact(kR jW g).to2
 ·rename_i t x d;split at h;{rw[zK]at h;obtain⟨q,k,p⟩:=h;cases p;exact(ahJ d k g).to2};rw[zK]at h;obtain⟨q,k,p⟩:=h;exact(kR jW g).to2
 ·rename_i t d;split at h;{rw[zK]at h;obtain⟨q,k,p⟩:=h;cases p;exact(afM d k).to2};split at h;{rw[zK]at h;obtain⟨q,k,p⟩:=h;cases p;exact(afL d k).to2};rw[zK]at h;obtain⟨q,k,p⟩:=h;exact(kR jW g).to2
 ·rename_i t x lo hi mx d;split at h;{rw[zK]at h;obtain⟨q,k,p⟩:=h;cases p;exact(afX d k g).to2};split at h;{rw[zK]at h;obtain⟨q,k,p⟩:=h;cases p;exact(afY d k g).to2};rw[zK]at h;obtain⟨q,k,p⟩:=h;exact(kR jW g).to2
 ·rename_i t n ps d;split at h;{rw[zK]at h;obtain⟨q,k,p⟩:=h;cases p;exact(aap d k).to2};rw[zK]at h;obtain⟨q,k,p⟩:=h;exact(kR jW g).to2
 rw[zK]at h;obtain⟨q,k,p⟩:=h;cases p;exact(kR k g).to2
theorem Sound2.weaken{Y:zw->ac}{id:Nat}{out c:Out}(h:Sound2 P o Y m id out)(y:c.rd=out.rd)
 (L:bR out.val c.val) (A:c.wr=out.wr\/∃j r q l,out.wr=(j,r)::l/\c.wr=(j,q)::l/\RSub r q):Sound2 P o Y m id c:=by
 intro F w ρ Mine M a I S V R E K p Q H;refine h F w ρ Mine M a I S V (y▸R) E K p Q (λv D e=>H v D ?_);obtain⟨Z,ρ',W,U,J,g⟩:=e;refine⟨Z,ρ',W,U,L.rel Z D ρ' v J,?_⟩;rcases A with A|⟨j,r,q,l,T,G,X⟩
 {simp_all};rw[T]at g;rw[G];have d:∀i x,Mem.get ((j,q)::l++M) i=AB x->∃f,Mem.get ((j,r)::l++M) i=AB f/\(RSub f x):=by
  intro i x e;simp only[wD,Mem.get]at e⊢;split at e;{simp_all};exact⟨x,jW,⟨λ_ _ _ _ h=>⟨h,λ_ h=>h⟩⟩⟩
 refine⟨λi x e=>?_,λi x b e z=>?_,λi s x O b e t z u=>?_⟩;{obtain⟨f,k,n⟩:=d i x e;exact(n.rel _ _ _ i (g.ok i f k)).1};{obtain⟨f,k,n⟩:=d i x e;exact g.mine i f b k ((n.rel _ _ _ i (g.ok i f k)).2 b z)};obtain⟨f,k,n⟩:=d i x e;obtain⟨C,B,N⟩:=d s O t;exact g.disj i s f C b k B ((n.rel _ _ _ i (g.ok i f k)).2 b z) ((N.rel _ _ _ s (g.ok s C B)).2 b u)
theorem PP{hint:Nat->Option Hint}{id:Nat}{out:Out}{b:Bool}(h:cU P hint j o id s=AB (out,b))(d:holds out.obl):Sound2 P o (aL s) s.mem id out:=by
 unfold cU at h;split at h
 ·rename_i B D n;split at h
  ·rename_i A e;cases h;generalize cvOf (hint j)=c at e d;have f:∀a:ac,bR a a:=λa=>⟨λ_ _ _ _ h=>h⟩
   cases c with
   |none=>
    simp only[lj,Option.some.injEq]at e;subst e;exact(u9 n d).weaken rfl (f _) (.inl rfl)
   |val z p q t=>
    simp only[sP,holds,andO_iff,ot]at d;obtain⟨u,k,y⟩:=d;simp only[lj]at e;split at e;{rename_i x g;cases e;rw[g]at k;subst k;refine(u9 n u).weaken rfl ?_ (.inl rfl);rw[g];exact⟨λF w ρ v m=>.pure ((t y).rel F w v m.pure_inv)⟩};{rename_i x g;cases e;rw[g]at k;subst k;refine(u9 n u).weaken rfl ?_ (.inl rfl);rw[g];exact⟨λF w ρ v m=>by cases m with|clip m=>exact .clip ((t y).rel F w _ m)⟩};simp_all
   |res z r C t=>
    simp only[sP,holds,andO_iff,ot]at d;obtain⟨u,k,y⟩:=d;simp only[lj]at e;split at e;{rename_i i x l g;cases e;rw[g]at k;subst k;exact(u9 n u).weaken rfl (f _) (.inr ⟨i,x,C,l,g,rfl,t y⟩)};simp_all
  grind
 grind
end Go.Abs
