import Derived.Test.YtnfbbidmdkfilaaGreatDoorZDSoundM
open Bool renaming and_eq_true->qm
open Go renaming Operand->xQ,Value->qr,World->qn,execOp->zb,run_underlying->zd
open Go.Op renaming operands->za
open Go.Result renaming andThen_ok->xT
open Go.Sem renaming run_bind->xU,run_pure->xV
open List renaming cons_append->xW,mem_append->wW
open Option renaming none_or->zQ,map_eq_some_iff->x9
namespace Go.Abs
variable {P:Program}
theorem ozl {f:FuncId}{vs:Array qr}{w:qn}(h:Xz2 P f):(callFunc f vs).run P w=.ok (.enter f vs) w:=by
 obtain⟨fn,a,c,b⟩:=h
 grind[callFunc,xU,run_program,xT,xV]
theorem run_eql_slice_nil' (w:qn)(t e:TypeId)(a:Option Addr)(l c:Nat)(h:P.underlying t=some (.slice e)):(binOp .eql t (.slice a l c) (.slice none 0 0)).run P w=.ok (.bool a.isNone) w:=by
 have b:∀d:Nat,(Op.equalIn (d+1) t (.slice a l c) (.slice none 0 0)).run P w=.ok a.isNone w:=λd=>by
  cases a<;>simp[Op.equalIn,zd h]
 simp_all[binOp,Op.equal,Op.maxDepth]
theorem az3g {m:Mem}{is:List Nat}{j:Nat}(h:j∉is):(bzk m is).get j=none:=by
 cases a:(bzk m is).get j<;>grind[ez5]
theorem Xzc {C:Array qr->qn->(Ending->qn->Prop)->Prop}(f:∀ {vs w R S},C vs w R->(∀e c,R e c->S e c)->C vs w S){o:Oper}{s:St}{id:Nat}{h:Hint}{l:List AVal}
 (W:((bzh s.mem h.args l).2.all λj=>(Mem.ren (ezc h.σ h.k id) h.m).all λx=>x.1 !=j)=true) (G:Tzf h id=true)
 (Y:Gza (bzh s.mem h.args l).1 (AVal.renL (ezc h.σ h.k id) h.args)) (h2:MSub s.mem (Mem.ren (ezc h.σ h.k id) h.m))
 (X:∀ (F:Cells) (w:qn) (ρ:Env) (Mine:Nat->Prop) (vs:Array qr),MemOk F w ρ Mine h.m->Good F w Mine->Hzu F w ρ h.args vs->
  C vs w λe c=>∃v F' ρ',e=.returned v/\Step Mine F w F' c/\dz4 h.k ρ ρ'/\ARel F' c ρ' h.res v/\MemOk F' c ρ' Mine h.m')
 {F:Cells} {w:qn} {ρ:Env} {Mine:Nat->Prop} {M:Mem} {a:Act} (L:MemOk F w ρ Mine M) (g:Good F w Mine) (E:Fresh id M)
 (J:∀i∈(Mem.ren (ezc h.σ h.k id) h.m).map (·.1)++(bzh s.mem h.args l).2,M.get i=s.mem.get i) {vs:Array qr} (B:∀ (d:Act->qn->Prop) (Q:Exit->Act->qn->Prop),(C vs w λe c=>∃v,e=.returned v/\d (a.put o.dst v) c)->o.wpIn Fence.wide 0 P a w d Q)
 (p:l.length=vs.toList.length/\∀ (j:Nat) (b:AVal) (v:qr),l[j]?=some b->vs.toList[j]?=some v->ARel F w ρ b v):
 Does P o a w λv c=>∃F' ρ',Step Mine F w F' c/\dz4 id ρ ρ'/\ARel F' c ρ' (AVal.ren (ezc h.σ h.k id) h.res) v/\
  MemOk F' c ρ' Mine ((Mem.ren (ezc h.σ h.k id) h.m'++bzk s.mem (bzh s.mem h.args l).2)++M):=by
 intro d Q Z;generalize I:bzh s.mem h.args l=n at *
 have u:∀i∈n.2,M.get i=s.mem.get i:=λi hi=>J i jt
 obtain⟨A,H⟩:=qzx (m:=s.mem) L g u;have V:=ozb (m:=s.mem) (js:=n.2) L g p.1 p.2 (by rw[I];simp_all) jr;obtain⟨hl,N⟩:=rzo (F:=dzv F w ρ s.mem n.2) (w:=w) (ρ:=ρ) Y;have q:Hzu (dzv F w ρ s.mem n.2) w ρ (AVal.renL (ezc h.σ h.k id) h.args) vs:=by
  refine⟨jr,λj b v hb hv=>?_⟩
  grind
 have D:Fresh id (bzk s.mem n.2++M):=by
  refine⟨λi hi=>?_,λi j r hi hj=>?_⟩
  ·rw[Mem.get_append];cases U:(bzk s.mem n.2).get i with
   |none=>simpa using E.none i hi
   |some r=>
    obtain⟨T,K,O,_⟩:=ez5 U;have:=E.none i hi
    simp_all
  ·rw[Mem.get_append]at hj;cases U:(bzk s.mem n.2).get j with
   |none=>exact E.has i j r hi jr
   |some r'=>
    grind[ez5,Jzc]
 have z:∀y∈Mem.ren (ezc h.σ h.k id) h.m,∃K,(bzk s.mem n.2++M).get y.1=some K/\RSub K y.2:=by
  grind[uzl,Mem.get_append,az3g]
 have t:=az0k (C:=C) (λh k=>f h k) X (az7u G) H (A.good g) D z q;refine B d Q (f t ?_);rintro e c ⟨v,F',ρ',rfl,T,O,q3,q4⟩;exact⟨v,rfl,Z v c ⟨F',ρ',A.trans T,O,q3,jr⟩⟩
theorem azpn {o:Oper}{f:FuncId}{vs:Array qr}{a:Act}{w:qn}(c:(zb a.eval o).run P w=.ok (.enter f vs) w)(b:Act->qn->Prop)(Q:Exit->Act->qn->Prop)
 (h:Calls P f vs w λe d=>∃v,e=.returned v/\b (a.put o.dst v) d):o.wpIn Fence.wide 0 P a w b Q:=by
 refine Nzv ?_;unfold Oper.wp;rw[c];refine h.mono ?_
 simp_all
theorem azpo {o:Oper}{l:Nat}{vs:Array qr}{a:Act}{w:qn}(c:(zb a.eval o).run P w=(Instr.yield l vs).run P w)(b:Act->qn->Prop)(Q:Exit->Act->qn->Prop)
 (h:YieldAt Fence.wide 0 P l vs w λe j=>∃v,e=.returned v/\b (a.put o.dst v) j):o.wpIn Fence.wide 0 P a w b Q:=by
 obtain⟨fn,g,d,f,k,i⟩:=h;refine⟨λ_ _=>trivial,?_⟩;show o.uponIn Fence.wide 0 P a b Q ((zb a.eval o).run P w);rw[c,k,Oper.uponIn_round];refine⟨(λh=>by cases h),i.mono ?_⟩
 simp_all
theorem az3u {l:Nat}{vs:Array qr}{w:qn}{R f:Ending->qn->Prop}(h:YieldAt Fence.wide 0 P l vs w R)(j:∀e d,R e d->f e d):YieldAt Fence.wide 0 P l vs w f:=by
 obtain⟨fn,b,a,c,i,g⟩:=h;exact⟨fn,b,a,c,i,g.mono j⟩
theorem aziq {a b:AVal}(h:azna a b=true):a=b:=by
 unfold azna at h
 grind
theorem az3c:∀ {l c:List AVal},az81 l c=true->l=c
 |[],[],_=>rfl
 |a::l,b::c,h=>by
  simp only[az81,qm]at h;rw[aziq h.1,az3c h.2]
 |[],_::_,h=>by cases h
 |_::_,[],h=>by cases h
theorem Dz5 {m d M S:Mem}(c:∀y∈d,M.get y.1=m.get y.1)(f:∀i n,m.get i=some (.box n)->S.get i=none):∀ (L:Mem) (i:Nat),Mem.get (izf m d L++(S++M)) i=Mem.get (L++(S++M)) i
 |[],_=>rfl
 |(k,r)::l,i=>by
  have b:∀g,Mem.get (((k,g)::izf m d l)++(S++M)) i=Mem.get (((k,g)::l)++(S++M)) i:=λg=>by
   have:=Dz5 c f l i;simp only[xW,Mem.get];split
   ·rfl
   ·exact this
  unfold izf;split
  ·rename_i n ds o;split
   ·rename_i j;simp only[qm,List.any_eq_true,List.all_eq_true,beq_iff_eq,bne_iff_ne]at j;obtain⟨⟨s,y,u,A⟩,p⟩:=j;rw[Dz5 c f l i];simp only[xW,Mem.get];split
    ·rename_i e;subst e;have v:∀q:Mem,(∀x∈q,x.1≠k)->Mem.get q k=none:=by
      intro q;induction q with
      |nil=>intro _;rfl
      |cons x q w=>
       intro h;rw[Mem.get,qb (h x (List.mem_cons_self ..))];exact w λz t=>h z (List.mem_cons_of_mem _ t)
     rw[Mem.get_append,v l p,zQ,Mem.get_append,f k ds o,zQ];have:=c y u;rw[A,o]at this;rw[this,az3c s]
    ·rfl
   ·exact b _
  ·exact b _
theorem MemOk.sameGet {F:Cells}{w:qn}{ρ:Env}{Mine:Nat->Prop}{M a:Mem}(h:MemOk F w ρ Mine M)(f:∀i,a.get i=M.get i):MemOk F w ρ Mine a:=
 ⟨λi r hi=>h.ok i r jr,λi r b hi=>h.mine i r b jr,λi d r c b hi e=>h.disj i d r c b jr jr⟩
theorem az5z {m:Mem}{is:List Nat}{i:Nat}{b:List AVal}(h:m.get i=some (.box b)):(bzk m is).get i=none:=by
 cases d:(bzk m is).get i with
 |none=>rfl
 |some r=>
  obtain⟨_,e,a,c⟩:=ez5 d;rw[h]at a;cases a;cases c
theorem Rze {o:Oper}{a:Act}{w:qn}{F:Cells}{ρ:Env}{Mine:Nat->Prop}{M m e L:Mem}{is js:List Nat}{id:Nat}{c:AVal}
 (k:∀i∈e.map (·.1)++is++js,M.get i=m.get i)
 (h:Does P o a w λv b=>∃F' ρ',Step Mine F w F' b/\dz4 id ρ ρ'/\ARel F' b ρ' c v/\MemOk F' b ρ' Mine ((L++bzk m is)++M)):
 Does P o a w λv b=>∃F' ρ',Step Mine F w F' b/\dz4 id ρ ρ'/\ARel F' b ρ' c v/\MemOk F' b ρ' Mine ((izf m e L++bzk m is)++M):=by
 intro d Q f;refine h d Q λv b ⟨F',ρ',g,l,j,n⟩=>f v b ⟨F',ρ',g,l,j,n.sameGet λi=>?_⟩
 grind[Dz5,az5z]
theorem azpe {o:Oper}{c:Call}{x:xQ}{s:St}{id:Nat}{f:FuncId}{d e:List AVal}{h:Hint}(U:o.op=.call c)(N:c.callee=.value x)(O:bzz s x=.func f d e)
 (t:((bzh s.mem h.args (dz1 s.mem h.args (d++c.args.toList.map (bzz s)++e)).1).2.all λj=>(Mem.ren (ezc h.σ h.k id) h.m).all λx=>x.1 !=j)=true) (z:Tzf h id=true)
 (B:Gza (bzh s.mem h.args (dz1 s.mem h.args (d++c.args.toList.map (bzz s)++e)).1).1 (AVal.renL (ezc h.σ h.k id) h.args)/\MSub s.mem (Mem.ren (ezc h.σ h.k id) h.m)/\Spec P f h.k h.args h.m h.res h.m') {ob:Option Prop}:
 Sound2 P o (bzz s) s.mem id ⟨AVal.ren (ezc h.σ h.k id) h.res,(Mem.ren (ezc h.σ h.k id) h.m).map (·.1)++(bzh s.mem h.args (dz1 s.mem h.args (d++c.args.toList.map (bzz s)++e)).1).2++(dz1 s.mem h.args (d++c.args.toList.map (bzz s)++e)).2,
  izf s.mem (Mem.ren (ezc h.σ h.k id) h.m) (Mem.ren (ezc h.σ h.k id) h.m')++bzk s.mem (bzh s.mem h.args (dz1 s.mem h.args (d++c.args.toList.map (bzz s)++e)).1).2,ob⟩:=by
 obtain⟨R,K,H⟩:=B;intro F w ρ Mine M a G g I n T S;have p:x∈o.op.operands:=by grind[za,Call.operands]
 have E:∀y∈c.args.toList,y∈o.op.operands:=λy X=>by grind[za,Call.operands]
 have q:=O▸S x p;generalize L:a.eval x=u at q;cases q with
 |func W Q V J=>
  rename_i A D;have r:(zb a.eval o).run P w=.ok (.enter f (A++c.args.map a.eval++D)) w:=by
   simp only[zb,U,resolve,N,L,Deferred.ofValue,xU,xV,xT,invoke,ozl H.callable]
  have l:(d++c.args.toList.map (bzz s)++e).length=(A++c.args.map a.eval++D).toList.length/\
   ∀ (j:Nat) (b:AVal) (v:qr),(d++c.args.toList.map (bzz s)++e)[j]?=some b->(A++c.args.map a.eval++D).toList[j]?=some v->ARel F w ρ b v:=by
   grind
  exact Rze n (Xzc (C:=Calls P f) (λh k=>h.mono k) t z R K H.calls G g I (λi hi=>n i (wW.2 (.inl hi))) (azpn r) (Bzs G l.1 l.2 (λi hi=>n i (wW.2 (.inr hi)))))
theorem azn9 {o:Oper}{c:Call}{x:xQ}{s:St}{id:Nat}{l:Nat}{h:Hint}(O:o.op=.call c)(N:c.callee=.value x)(G:bzz s x=.yld l)
 (f:((bzh s.mem h.args (dz1 s.mem h.args (c.args.toList.map (bzz s))).1).2.all λj=>(Mem.ren (ezc h.σ h.k id) h.m).all λx=>x.1 !=j)=true) (r:Tzf h id=true)
 (t:Gza (bzh s.mem h.args (dz1 s.mem h.args (c.args.toList.map (bzz s))).1).1 (AVal.renL (ezc h.σ h.k id) h.args)/\MSub s.mem (Mem.ren (ezc h.σ h.k id) h.m)/\YSpec P l h.k h.args h.m h.res h.m') {ob:Option Prop}:
 Sound2 P o (bzz s) s.mem id ⟨AVal.ren (ezc h.σ h.k id) h.res,(Mem.ren (ezc h.σ h.k id) h.m).map (·.1)++(bzh s.mem h.args (dz1 s.mem h.args (c.args.toList.map (bzz s))).1).2++(dz1 s.mem h.args (c.args.toList.map (bzz s))).2,
  izf s.mem (Mem.ren (ezc h.σ h.k id) h.m) (Mem.ren (ezc h.σ h.k id) h.m')++bzk s.mem (bzh s.mem h.args (dz1 s.mem h.args (c.args.toList.map (bzz s))).1).2,ob⟩:=by
 obtain⟨I,H,J⟩:=t;intro F w ρ Mine M a z g D e E B;have p:x∈o.op.operands:=by grind[za,Call.operands]
 have A:∀y∈c.args.toList,y∈o.op.operands:=λy K=>by grind[za,Call.operands]
 have q:=G▸B x p;generalize L:a.eval x=u at q;cases q with
 |yld=>
  have n:(zb a.eval o).run P w=(Instr.yield l (c.args.map a.eval)).run P w:=by
   grind[zb,resolve,Deferred.ofValue,invoke]
  have d:(c.args.toList.map (bzz s)).length=(c.args.map a.eval).toList.length/\
   ∀ (j:Nat) (b:AVal) (v:qr),(c.args.toList.map (bzz s))[j]?=some b->(c.args.map a.eval).toList[j]?=some v->ARel F w ρ b v:=by
   grind
  exact Rze e (Xzc (C:=YieldAt Fence.wide 0 P l) (λh k=>az3u h k) f r I H J.calls z g D (λi hi=>e i (wW.2 (.inl hi))) (azpo n) (Bzs z d.1 d.2 (λi hi=>e i (wW.2 (.inr hi)))))
theorem az9m {t:TypeId}{a:String}{f:FuncId}(h:Kza P t a=some f)(n:Nat)(v:qr)(w:qn):(method (n+1) t v a).run P w=.ok (f,v) w:=by
 unfold Kza at h;split at h
 ·rename_i i hi;split at h
  ·rename_i m j;split at h
   ·have b:m.path.toList=[]:=by
     simp_all
    split at h
    ·rename_i k e c g;cases h;simp only[method,typeInfo,xU,run_program,xT,hi,xV,j,b,follow,c,receiverAt,zd g,Place.get]
    ·cases h
    ·rename_i k d l c g;cases h;simp only[method,typeInfo,xU,run_program,xT,hi,xV,j,b,follow,c,receiverAt,zd g];cases d<;>first|(simp only[Place.get,xV,xT];done)|(exact absurd rfl (l _))
    ·cases h
   ·cases h
  ·cases h
 ·cases h
theorem azic {o:Oper}{c:Call}{x:xQ}{d:String}{s:St}{id:Nat}{t:TypeId}{r:AVal}{f:FuncId}{h:Hint}(L:o.op=.call c)(J:c.callee=.invoke x d)(S:bzz s x=.iface t r)(N:Kza P t d=some f)
 (z:((bzh s.mem h.args (dz1 s.mem h.args (r::c.args.toList.map (bzz s))).1).2.all λj=>(Mem.ren (ezc h.σ h.k id) h.m).all λx=>x.1 !=j)=true) (A:Tzf h id=true)
 (B:Gza (bzh s.mem h.args (dz1 s.mem h.args (r::c.args.toList.map (bzz s))).1).1 (AVal.renL (ezc h.σ h.k id) h.args)/\MSub s.mem (Mem.ren (ezc h.σ h.k id) h.m)/\Spec P f h.k h.args h.m h.res h.m') {ob:Option Prop}:
 Sound2 P o (bzz s) s.mem id ⟨AVal.ren (ezc h.σ h.k id) h.res,(Mem.ren (ezc h.σ h.k id) h.m).map (·.1)++(bzh s.mem h.args (dz1 s.mem h.args (r::c.args.toList.map (bzz s))).1).2++(dz1 s.mem h.args (r::c.args.toList.map (bzz s))).2,
  izf s.mem (Mem.ren (ezc h.σ h.k id) h.m) (Mem.ren (ezc h.σ h.k id) h.m')++bzk s.mem (bzh s.mem h.args (dz1 s.mem h.args (r::c.args.toList.map (bzz s))).1).2,ob⟩:=by
 obtain⟨T,R,E⟩:=B;intro F w ρ Mine M a G g O l I U;have n:x∈o.op.operands:=by grind[za,Call.operands]
 have D:∀y∈c.args.toList,y∈o.op.operands:=λy W=>by grind[za,Call.operands]
 have p:=S▸U x n;generalize Q:a.eval x=u at p;cases p with
 |iface V=>
  rename_i v;have q:(zb a.eval o).run P w=.ok (.enter f (#[v]++c.args.map a.eval)) w:=by
   have H:(#[Value.iface t v]++c.args.map a.eval)[0]?=some (.iface t v):=jt
   have K:(#[Value.iface t v]++c.args.map a.eval).extract 1 (#[Value.iface t v]++c.args.map a.eval).size=c.args.map a.eval:=by
    simp_all
   simp only[zb,L,resolve,J,Q,xU,xV,xT,invoke,H,K,callMethod,run_program,Made.depth,az9m N,ozl E.callable]
  suffices e:(r::c.args.toList.map (bzz s)).length=(#[v]++c.args.map a.eval).toList.length/\∀ (j:Nat) (b:AVal) (u:qr),(r::c.args.toList.map (bzz s))[j]?=some b->(#[v]++c.args.map a.eval).toList[j]?=some u->ARel F w ρ b u from
   Rze l (Xzc (C:=Calls P f) (λh k=>h.mono k) z A T R E.calls G g O (λi hi=>l i (wW.2 (.inl hi))) (azpn q) (Bzs G e.1 e.2 (λi hi=>l i (wW.2 (.inr hi)))))
  grind
theorem azhb {F:Cells}{w:qn}{ρ:Env}{Mine:Nat->Prop}{M m:Mem}(t:MemOk F w ρ Mine M){a:AVal}{v:qr}{n:Nat}{is:List Nat}(o:∀i∈is,M.get i=m.get i)
 (h:lenV m a=some (n,is)) (p:ARel F w ρ a v):∃b l c,v=.slice b l c/\(0<n->b.isNone=false):=by
 unfold lenV at h;split at h
 ·rename_i j;split at h
  ·rename_i sz x f k e q;cases h;rcases t.ok j _ ((o j jq).trans q)with⟨_,⟨d,s⟩|⟨u,g,c,r,_⟩⟩
   ·cases p<;>simp_all
   ·cases p<;>simp_all
  grind
 ·rename_i j _ _ _;split at h
  ·rename_i sz x f k e q;cases h;cases p with
   |view y z A=>simp_all
   |viewN y z=>
    rcases t.ok j _ ((o j jq).trans q)with⟨_,⟨d,s⟩|⟨u,g,c,r,_⟩⟩;all_goals simp_all
  grind
 grind
theorem rz9 {hint:Nat->Option Hint}{i:Nat}{o:Oper}{id:Nat}{s:St}{out:Out}{b:Bool}(h:kz4 P hint i o id s=some (out,b))(g:holds out.obl):Sound2 P o (bzz s) s.mem id out:=by
 unfold kz4 at h;split at h
 ·rename_i c d;split at h
  ·rename_i bb V;split at h
   ·rename_i S;simp only[qm]at S;rw[x9]at h;obtain⟨q,k,p⟩:=h;cases p;have Q:bb=.append:=by
     grind[azli]
    subst Q;obtain⟨K,args,U⟩:=c;simp only at V;subst V;unfold azjg at k;simp only at k;split at k
    ·rename_i s1 x1 E;have:args=#[s1,x1]:=by grind
     subst this;split at k
     ·rename_i hsz;have N:∀t,U[0]?=some t->U[1]?=some t->U=#[t,t]:=λt T B=>by
       grind
      exact(azel d N k g).to2
     simp_all
    simp_all
   ·rw[x9]at h;obtain⟨q,k,p⟩:=h;cases p;refine(kz6 (o:=o) ?_ g).to2
    grind[evOp]
  ·rename_i x E;split at h
   ·rename_i f R X L C z;simp only at h;split at h
    ·rename_i D;simp only[qm]at D;cases h;exact azpe d E C D.1 D.2 g
    grind
   ·rename_i l L C z;simp only at h;split at h
    ·rename_i D;simp only[qm]at D;cases h;exact azn9 d E C D.1 D.2 g
    grind
   grind
  ·rename_i x W E;split at h
   ·rename_i t r L C z;split at h
    ·rename_i f hf;simp only at h;split at h
     ·rename_i D;simp only[qm]at D;cases h;exact azic d E C hf D.1 D.2 g
     grind
    grind
   grind
 ·rename_i x d;split at h
  ·rename_i j L E z;split at h
   ·rename_i str pos hj;split at h
    ·cases h;exact(az5v d E hj g).to2
    ·cases h;exact(az5w d E hj g).to2
   grind
  grind
 ·rename_i op t x y ty d;split at h
  ·rename_i hnt;split at h
   ·rename_i sz n f e E hu;have Z:op=.eql/\y=.const (.slice none 0 0):=by
     grind[Yzt]
    obtain⟨rfl,rfl⟩:=Z;have H:∀ {a:Act} {w:qn} {b:Option Addr} {l c:Nat},a.eval x=.slice b l c->Ran P o a w (.bool b.isNone) w:=by
     intro a w b l c A;have B:(eqGuard .eql t x (.const (.slice none 0 0)) (.slice b l c) (.slice none 0 0)).run P w=.ok () w:=by
      rfl
     have O:a.eval (.const (.slice none 0 0))=.slice none 0 0:=rfl;exact .value (by grind[zb,xU,xT,run_eql_slice_nil',xV])
    split at h
    ·cases h;refine(Sound1.still (P:=P) (o:=o) (env:=bzz s) (m:=s.mem) (id:=id) λF w ρ Mine M a I u G=>?_).to2;have B:=(E▸G x (by simp[d,za])).pure_inv;rcases B.lst_inv with⟨A,_⟩|⟨_,_,A,_,_⟩|⟨b,off,cap,c,A,_⟩
     ·exact⟨_,H A,.anyb⟩
     ·exact⟨_,H A,.anyb⟩
     ·exact⟨_,H A,.anyb⟩
    ·cases h;refine(Sound1.still (P:=P) (o:=o) (env:=bzz s) (m:=s.mem) (id:=id) λF w ρ Mine M a I u G=>?_).to2;have hn:0<n:=g;have B:=(E▸G x (by simp[d,za])).pure_inv;rcases B.lst_inv with⟨A,T⟩|⟨_,_,A,T,_⟩|⟨b,off,cap,c,A,_⟩
     ·omega
     ·omega
     ·exact⟨_,H A,.ff⟩
   ·rename_i e hu _;have Z:op=.eql/\y=.const (.slice none 0 0):=by
     grind[Yzt]
    split at h
    ·rename_i n is hl
     have J:∀ (F:Cells) (w:qn) (ρ:Env) (Mine:Nat->Prop) (M:Mem) (a:Act),MemOk F w ρ Mine M->(∀i∈is,M.get i=s.mem.get i)->
      (∀x∈o.op.operands,ARel F w ρ (bzz s x) (a.eval x))->∃b,Ran P o a w (.bool b) w/\(0<n->b=false):=by
      intro F w ρ Mine M a I u G;obtain⟨b,l,c,A,V⟩:=azhb I u hl (G x (by simp[d,za]));refine⟨b.isNone,?_,λT=>jt⟩;have B:(eqGuard .eql t x (.const (.slice none 0 0)) (.slice b l c) (.slice none 0 0)).run P w=.ok () w:=by
       rfl
      have O:a.eval (.const (.slice none 0 0))=.slice none 0 0:=rfl;exact .value (by grind[zb,xU,xT,run_eql_slice_nil',xV])
     split at h
     ·cases h;exact(Sound1.still (P:=P) (o:=o) (env:=bzz s) (m:=s.mem) (id:=id) λF w ρ Mine M a I u G=>by
       obtain⟨b,B,_⟩:=J F w ρ Mine M a I u G;exact⟨_,B,.anyb⟩).to2
     ·cases h;have hn:0<n:=g;exact(Sound1.still (P:=P) (o:=o) (env:=bzz s) (m:=s.mem) (id:=id) λF w ρ Mine M a I u G=>by
       obtain⟨b,B,O⟩:=J F w ρ Mine M a I u G;rw[O hn]at B;exact⟨_,B,.ff⟩).to2
    grind
   grind
  ·rw[x9]at h;obtain⟨q,k,p⟩:=h;exact(kz6 jr g).to2
 ·rename_i t l c d;split at h
  ·rw[x9]at h;obtain⟨q,k,p⟩:=h;cases p;exact(az3b d k g).to2
  ·rw[x9]at h;obtain⟨q,k,p⟩:=h;cases p;exact(Tzn d k g).to2
 ·rename_i t x v d;split at h
  ·rw[x9]at h;obtain⟨q,k,p⟩:=h;cases p;exact(Zzm d k g).to2
  ·split at h
   ·rw[x9]at h;obtain⟨q,k,p⟩:=h;cases p;exact(azio d k g).to2
   ·rw[x9]at h;obtain⟨q,k,p⟩:=h;exact(kz6 jr g).to2
 ·rename_i t x d;split at h
  ·rw[x9]at h;obtain⟨q,k,p⟩:=h;cases p;exact(azn5 d k g).to2
  ·rw[x9]at h;obtain⟨q,k,p⟩:=h;exact(kz6 jr g).to2
 ·rename_i t d;split at h
  ·rw[x9]at h;obtain⟨q,k,p⟩:=h;cases p;exact(azi7 d k).to2
  ·split at h
   ·rw[x9]at h;obtain⟨q,k,p⟩:=h;cases p;exact(azi6 d k).to2
   ·rw[x9]at h;obtain⟨q,k,p⟩:=h;exact(kz6 jr g).to2
 ·rename_i t x lo hi mx d;split at h
  ·rw[x9]at h;obtain⟨q,k,p⟩:=h;cases p;exact(azii d k g).to2
  ·split at h
   ·rw[x9]at h;obtain⟨q,k,p⟩:=h;cases p;exact(azij d k g).to2
   ·rw[x9]at h;obtain⟨q,k,p⟩:=h;exact(kz6 jr g).to2
 ·rename_i t n ps d;split at h
  ·rw[x9]at h;obtain⟨q,k,p⟩:=h;cases p;exact(Zzl d k).to2
  ·rw[x9]at h;obtain⟨q,k,p⟩:=h;exact(kz6 jr g).to2
 ·rw[x9]at h;obtain⟨q,k,p⟩:=h;cases p;exact(kz6 k g).to2
theorem Sound2.weaken {o:Oper}{env:xQ->AVal}{m:Mem}{id:Nat}{out c:Out}(h:Sound2 P o env m id out)(y:c.rd=out.rd)
 (L:ASub out.val c.val) (A:c.wr=out.wr\/∃j r q l,out.wr=(j,r)::l/\c.wr=(j,q)::l/\RSub r q):Sound2 P o env m id c:=by
 intro F w ρ Mine M a I S V R E K p Q H;refine h F w ρ Mine M a I S V (y▸R) E K p Q (λv D e=>H v D ?_);obtain⟨F',ρ',W,U,J,g⟩:=e;refine⟨F',ρ',W,U,L.rel F' D ρ' v J,?_⟩;rcases A with A|⟨j,r,q,l,T,G,X⟩
 ·simp_all
 ·rw[T]at g;rw[G];have d:∀i x,Mem.get ((j,q)::l++M) i=some x->∃f,Mem.get ((j,r)::l++M) i=some f/\(RSub f x):=by
   intro i x e;simp only[xW,Mem.get]at e⊢;split at e
   ·simp_all
   ·exact⟨x,jr,⟨λ_ _ _ _ h=>⟨h,λ_ h=>h⟩⟩⟩
  refine⟨λi x e=>?_,λi x b e z=>?_,λi s x O b e t z u=>?_⟩
  ·obtain⟨f,k,n⟩:=d i x e;exact(n.rel _ _ _ i (g.ok i f k)).1
  ·obtain⟨f,k,n⟩:=d i x e;exact g.mine i f b k ((n.rel _ _ _ i (g.ok i f k)).2 b z)
  ·obtain⟨f,k,n⟩:=d i x e;obtain⟨C,B,N⟩:=d s O t;exact g.disj i s f C b k B ((n.rel _ _ _ i (g.ok i f k)).2 b z) ((N.rel _ _ _ s (g.ok s C B)).2 b u)
theorem Ozz {hint:Nat->Option Hint}{i:Nat}{o:Oper}{id:Nat}{s:St}{out:Out}{b:Bool}(h:gzv P hint i o id s=some (out,b))(d:holds out.obl):Sound2 P o (bzz s) s.mem id out:=by
 unfold gzv at h;split at h
 ·rename_i B D n;split at h
  ·rename_i A e;cases h;generalize cvOf (hint i)=c at e d;have f:∀a:AVal,ASub a a:=λa=>⟨λ_ _ _ _ h=>h⟩
   cases c with
   |none=>
    simp only[Iz3,Option.some.injEq]at e;subst e;exact(rz9 n d).weaken rfl (f _) (.inl rfl)
   |val z p q t=>
    simp only[Xzh,holds,andO_iff,Rzb]at d;obtain⟨u,k,y⟩:=d;simp only[Iz3]at e;split at e
    ·rename_i x g;cases e;rw[g]at k;subst k;refine(rz9 n u).weaken rfl ?_ (.inl rfl);rw[g];exact⟨λF w ρ v m=>.pure ((t y).rel F w v m.pure_inv)⟩
    ·rename_i x g;cases e;rw[g]at k;subst k;refine(rz9 n u).weaken rfl ?_ (.inl rfl);rw[g];exact⟨λF w ρ v m=>by cases m with|clip m=>exact .clip ((t y).rel F w _ m)⟩
    simp_all
   |res z r C t=>
    simp only[Xzh,holds,andO_iff,Rzb]at d;obtain⟨u,k,y⟩:=d;simp only[Iz3]at e;split at e
    ·rename_i j x l g;cases e;rw[g]at k;subst k;exact(rz9 n u).weaken rfl (f _) (.inr ⟨j,x,C,l,g,rfl,t y⟩)
    simp_all
  grind
 grind
end Go.Abs
