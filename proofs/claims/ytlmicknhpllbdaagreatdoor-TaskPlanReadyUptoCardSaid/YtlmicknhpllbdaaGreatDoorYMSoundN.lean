/-
  SoundN (a part of a claim: our own text).
-/
import Derived.Test.YtlmicknhpllbdaaGreatDoorYMSoundM
namespace Go.Abs
variable {P:Program}
theorem ozc {f:FuncId}{vs:Array Value}{w:World}(h:Tzy P f):(callFunc f vs).run P w=.ok (.enter f vs) w:=by
 obtain⟨fn,a,c,b⟩:=h
 grind[callFunc,Sem.run_bind,run_program,Result.andThen_ok,Sem.run_pure]
theorem run_eql_slice_nil' (w:World)(t e:TypeId)(a:Option Addr)(l c:Nat)(h:P.underlying t=some (.slice e)):(binOp .eql t (.slice a l c) (.slice none 0 0)).run P w=.ok (.bool a.isNone) w:=by
 have b:∀d:Nat,(Op.equalIn (d+1) t (.slice a l c) (.slice none 0 0)).run P w=.ok a.isNone w:=fun d=>by
  cases a<;>simp[Op.equalIn,run_underlying h]
 simp_all[binOp,Op.equal,Op.maxDepth]
theorem Zzm {m:Mem}{is:List Nat}{j:Nat}(h:j∉is):(bzi m is).get j=none:=by
 cases a:(bzi m is).get j<;>grind[dzv]
theorem Uz8 {C:Array Value->World->(Ending->World->Prop)->Prop}(f:∀ {vs w R S},C vs w R->(∀e c,R e c->S e c)->C vs w S){o:Oper}{s:St}{id:Nat}{h:Hint}{l:List AVal}
 (W:((bz8 s.mem h.args l).2.all fun j=>(Mem.ren (ez0 h.σ h.k id) h.m).all fun x=>x.1 !=j)=true) (G:Qz4 h id=true)
 (Y:Czz (bz8 s.mem h.args l).1 (AVal.renL (ez0 h.σ h.k id) h.args)) (h2:MSub s.mem (Mem.ren (ez0 h.σ h.k id) h.m))
 (X:∀ (F:Cells) (w:World) (ρ:Env) (Mine:Nat->Prop) (vs:Array Value),MemOk F w ρ Mine h.m->Good F w Mine->Ezj F w ρ h.args vs->
  C vs w fun e c=>∃v F' ρ',e=.returned v/\Step Mine F w F' c/\dz3 h.k ρ ρ'/\ARel F' c ρ' h.res v/\MemOk F' c ρ' Mine h.m')
 {F:Cells} {w:World} {ρ:Env} {Mine:Nat->Prop} {M:Mem} {a:Act} (L:MemOk F w ρ Mine M) (g:Good F w Mine) (E:Fresh id M)
 (J:∀i∈(Mem.ren (ez0 h.σ h.k id) h.m).map (·.1)++(bz8 s.mem h.args l).2,M.get i=s.mem.get i) {vs:Array Value} (B:∀ (d:Act->World->Prop) (Q:Exit->Act->World->Prop),(C vs w fun e c=>∃v,e=.returned v/\d (a.put o.dst v) c)->o.wpIn Fence.wide 0 P a w d Q)
 (p:l.length=vs.toList.length/\∀ (j:Nat) (b:AVal) (v:Value),l[j]?=some b->vs.toList[j]?=some v->ARel F w ρ b v):
 Does P o a w fun v c=>∃F' ρ',Step Mine F w F' c/\dz3 id ρ ρ'/\ARel F' c ρ' (AVal.ren (ez0 h.σ h.k id) h.res) v/\
  MemOk F' c ρ' Mine ((Mem.ren (ez0 h.σ h.k id) h.m'++bzi s.mem (bz8 s.mem h.args l).2)++M):=by
 intro d Q Z
 generalize I:bz8 s.mem h.args l=n at *
 have u:∀i∈n.2,M.get i=s.mem.get i:=fun i hi=>J i (by grind)
 obtain⟨A,H⟩:=tzt (m:=s.mem) L g u
 have V:=oz2 (m:=s.mem) (js:=n.2) L g p.1 p.2 (by rw[I];simp_all) (by simp_all)
 obtain⟨hl,N⟩:=rz5 (F:=dzh F w ρ s.mem n.2) (w:=w) (ρ:=ρ) Y
 have q:Ezj (dzh F w ρ s.mem n.2) w ρ (AVal.renL (ez0 h.σ h.k id) h.args) vs:=by
  refine⟨by simp_all,fun j b v hb hv=>?_⟩
  grind
 have D:Fresh id (bzi s.mem n.2++M):=by
  refine⟨fun i hi=>?_,fun i j r hi hj=>?_⟩
  ·rw[Mem.get_append]
   cases U:(bzi s.mem n.2).get i with
   |none=>simpa using E.none i hi
   |some r=>
    obtain⟨T,K,O,_⟩:=dzv U
    have:=E.none i hi
    simp_all
  ·rw[Mem.get_append]at hj
   cases U:(bzi s.mem n.2).get j with
   |none=>exact E.has i j r hi (by simp_all)
   |some r'=>
    grind[dzv,Fzy]
 have z:∀y∈Mem.ren (ez0 h.σ h.k id) h.m,∃K,(bzi s.mem n.2++M).get y.1=some K/\RSub K y.2:=by
  grind[tzd,Mem.get_append,Zzm]
 have t:=Xzc (C:=C) (fun h k=>f h k) X (az36 G) H (A.good g) D z q
 refine B d Q (f t ?_)
 rintro e c ⟨v,F',ρ',rfl,T,O,q3,q4⟩
 exact⟨v,rfl,Z v c ⟨F',ρ',A.trans T,O,q3,by simp_all⟩⟩
theorem azgn {o:Oper}{f:FuncId}{vs:Array Value}{a:Act}{w:World}(c:(execOp a.eval o).run P w=.ok (.enter f vs) w)(b:Act->World->Prop)(Q:Exit->Act->World->Prop)
 (h:Calls P f vs w fun e d=>∃v,e=.returned v/\b (a.put o.dst v) d):o.wpIn Fence.wide 0 P a w b Q:=by
 refine Kzv ?_
 unfold Oper.wp
 rw[c]
 refine h.mono ?_
 simp_all
theorem azgo {o:Oper}{l:Nat}{vs:Array Value}{a:Act}{w:World}(c:(execOp a.eval o).run P w=(Instr.yield l vs).run P w)(b:Act->World->Prop)(Q:Exit->Act->World->Prop)
 (h:YieldAt Fence.wide 0 P l vs w fun e j=>∃v,e=.returned v/\b (a.put o.dst v) j):o.wpIn Fence.wide 0 P a w b Q:=by
 obtain⟨fn,g,d,f,k,i⟩:=h
 refine⟨fun _ _=>trivial,?_⟩
 show o.uponIn Fence.wide 0 P a b Q ((execOp a.eval o).run P w)
 rw[c,k,Oper.uponIn_round]
 refine⟨(fun h=>by cases h),i.mono ?_⟩
 simp_all
theorem Zzy {l:Nat}{vs:Array Value}{w:World}{R f:Ending->World->Prop}(h:YieldAt Fence.wide 0 P l vs w R)(j:∀e d,R e d->f e d):YieldAt Fence.wide 0 P l vs w f:=by
 obtain⟨fn,b,a,c,i,g⟩:=h
 exact⟨fn,b,a,c,i,g.mono j⟩
theorem azba {a b:AVal}(h:azes a b=true):a=b:=by
 unfold azes at h
 grind
theorem Zzi:∀ {l c:List AVal},az3c l c=true->l=c
 |[],[],_=>rfl
 |a::l,b::c,h=>by
  simp only[az3c,Bool.and_eq_true]at h
  rw[azba h.1,Zzi h.2]
 |[],_::_,h=>by cases h
 |_::_,[],h=>by cases h
theorem Aza {m d M S:Mem}(c:∀y∈d,M.get y.1=m.get y.1)(f:∀i n,m.get i=some (.box n)->S.get i=none):∀ (L:Mem) (i:Nat),Mem.get (izk m d L++(S++M)) i=Mem.get (L++(S++M)) i
 |[],_=>rfl
 |(k,r)::l,i=>by
  have b:∀g,Mem.get (((k,g)::izk m d l)++(S++M)) i=Mem.get (((k,g)::l)++(S++M)) i:=fun g=>by
   have:=Aza c f l i
   simp only[List.cons_append,Mem.get]
   split
   ·rfl
   ·exact this
  unfold izk
  split
  ·rename_i n ds o
   split
   ·rename_i j
    simp only[Bool.and_eq_true,List.any_eq_true,List.all_eq_true,beq_iff_eq,bne_iff_ne]at j
    obtain⟨⟨s,y,u,A⟩,p⟩:=j
    rw[Aza c f l i]
    simp only[List.cons_append,Mem.get]
    split
    ·rename_i e
     subst e
     have v:∀q:Mem,(∀x∈q,x.1≠k)->Mem.get q k=none:=by
      intro q
      induction q with
      |nil=>intro _;rfl
      |cons x q w=>
       intro h
       rw[Mem.get,if_neg (h x (List.mem_cons_self ..))]
       exact w fun z t=>h z (List.mem_cons_of_mem _ t)
     rw[Mem.get_append,v l p,Option.none_or,Mem.get_append,f k ds o,Option.none_or]
     have:=c y u
     rw[A,o]at this
     rw[this,Zzi s]
    ·rfl
   ·exact b _
  ·exact b _
theorem MemOk.sameGet {F:Cells}{w:World}{ρ:Env}{Mine:Nat->Prop}{M a:Mem}(h:MemOk F w ρ Mine M)(f:∀i,a.get i=M.get i):MemOk F w ρ Mine a:=
 ⟨fun i r hi=>h.ok i r (by simp_all),fun i r b hi=>h.mine i r b (by simp_all),fun i d r c b hi e=>h.disj i d r c b (by simp_all) (by simp_all)⟩
theorem az1s {m:Mem}{is:List Nat}{i:Nat}{b:List AVal}(h:m.get i=some (.box b)):(bzi m is).get i=none:=by
 cases d:(bzi m is).get i with
 |none=>rfl
 |some r=>
  obtain⟨_,e,a,c⟩:=dzv d
  rw[h]at a
  cases a
  cases c
theorem Oza {o:Oper}{a:Act}{w:World}{F:Cells}{ρ:Env}{Mine:Nat->Prop}{M m e L:Mem}{is js:List Nat}{id:Nat}{c:AVal}
 (k:∀i∈e.map (·.1)++is++js,M.get i=m.get i)
 (h:Does P o a w fun v b=>∃F' ρ',Step Mine F w F' b/\dz3 id ρ ρ'/\ARel F' b ρ' c v/\MemOk F' b ρ' Mine ((L++bzi m is)++M)):
 Does P o a w fun v b=>∃F' ρ',Step Mine F w F' b/\dz3 id ρ ρ'/\ARel F' b ρ' c v/\MemOk F' b ρ' Mine ((izk m e L++bzi m is)++M):=by
 intro d Q f
 refine h d Q fun v b ⟨F',ρ',g,l,j,n⟩=>f v b ⟨F',ρ',g,l,j,n.sameGet fun i=>?_⟩
 grind[Aza,az1s]
theorem azgd {o:Oper}{c:Call}{x:Operand}{s:St}{id:Nat}{f:FuncId}{d e:List AVal}{h:Hint}(U:o.op=.call c)(N:c.callee=.value x)(O:bzt s x=.func f d e)
 (t:((bz8 s.mem h.args (czl s.mem h.args (d++c.args.toList.map (bzt s)++e)).1).2.all fun j=>(Mem.ren (ez0 h.σ h.k id) h.m).all fun x=>x.1 !=j)=true) (z:Qz4 h id=true)
 (B:Czz (bz8 s.mem h.args (czl s.mem h.args (d++c.args.toList.map (bzt s)++e)).1).1 (AVal.renL (ez0 h.σ h.k id) h.args)/\MSub s.mem (Mem.ren (ez0 h.σ h.k id) h.m)/\Spec P f h.k h.args h.m h.res h.m') {ob:Option Prop}:
 Sound2 P o (bzt s) s.mem id ⟨AVal.ren (ez0 h.σ h.k id) h.res,(Mem.ren (ez0 h.σ h.k id) h.m).map (·.1)++(bz8 s.mem h.args (czl s.mem h.args (d++c.args.toList.map (bzt s)++e)).1).2++(czl s.mem h.args (d++c.args.toList.map (bzt s)++e)).2,
  izk s.mem (Mem.ren (ez0 h.σ h.k id) h.m) (Mem.ren (ez0 h.σ h.k id) h.m')++bzi s.mem (bz8 s.mem h.args (czl s.mem h.args (d++c.args.toList.map (bzt s)++e)).1).2,ob⟩:=by
 obtain⟨R,K,H⟩:=B
 intro F w ρ Mine M a G g I n T S
 have p:x∈o.op.operands:=by grind[Op.operands,Call.operands]
 have E:∀y∈c.args.toList,y∈o.op.operands:=fun y X=>by grind[Op.operands,Call.operands]
 have q:=O▸S x p
 generalize L:a.eval x=u at q
 cases q with
 |func W Q V J=>
  rename_i A D
  have r:(execOp a.eval o).run P w=.ok (.enter f (A++c.args.map a.eval++D)) w:=by
   simp only[execOp,U,resolve,N,L,Deferred.ofValue,Sem.run_bind,Sem.run_pure,Result.andThen_ok,invoke,ozc H.callable]
  have l:(d++c.args.toList.map (bzt s)++e).length=(A++c.args.map a.eval++D).toList.length/\
   ∀ (j:Nat) (b:AVal) (v:Value),(d++c.args.toList.map (bzt s)++e)[j]?=some b->(A++c.args.map a.eval++D).toList[j]?=some v->ARel F w ρ b v:=by
   grind
  exact Oza n (Uz8 (C:=Calls P f) (fun h k=>h.mono k) t z R K H.calls G g I (fun i hi=>n i (List.mem_append.2 (.inl hi))) (azgn r) (yzx G l.1 l.2 (fun i hi=>n i (List.mem_append.2 (.inr hi)))))
theorem azer {o:Oper}{c:Call}{x:Operand}{s:St}{id:Nat}{l:Nat}{h:Hint}(O:o.op=.call c)(N:c.callee=.value x)(G:bzt s x=.yld l)
 (f:((bz8 s.mem h.args (czl s.mem h.args (c.args.toList.map (bzt s))).1).2.all fun j=>(Mem.ren (ez0 h.σ h.k id) h.m).all fun x=>x.1 !=j)=true) (r:Qz4 h id=true)
 (t:Czz (bz8 s.mem h.args (czl s.mem h.args (c.args.toList.map (bzt s))).1).1 (AVal.renL (ez0 h.σ h.k id) h.args)/\MSub s.mem (Mem.ren (ez0 h.σ h.k id) h.m)/\YSpec P l h.k h.args h.m h.res h.m') {ob:Option Prop}:
 Sound2 P o (bzt s) s.mem id ⟨AVal.ren (ez0 h.σ h.k id) h.res,(Mem.ren (ez0 h.σ h.k id) h.m).map (·.1)++(bz8 s.mem h.args (czl s.mem h.args (c.args.toList.map (bzt s))).1).2++(czl s.mem h.args (c.args.toList.map (bzt s))).2,
  izk s.mem (Mem.ren (ez0 h.σ h.k id) h.m) (Mem.ren (ez0 h.σ h.k id) h.m')++bzi s.mem (bz8 s.mem h.args (czl s.mem h.args (c.args.toList.map (bzt s))).1).2,ob⟩:=by
 obtain⟨I,H,J⟩:=t
 intro F w ρ Mine M a z g D e E B
 have p:x∈o.op.operands:=by grind[Op.operands,Call.operands]
 have A:∀y∈c.args.toList,y∈o.op.operands:=fun y K=>by grind[Op.operands,Call.operands]
 have q:=G▸B x p
 generalize L:a.eval x=u at q
 cases q with
 |yld=>
  have n:(execOp a.eval o).run P w=(Instr.yield l (c.args.map a.eval)).run P w:=by
   grind[execOp,resolve,Deferred.ofValue,invoke]
  have d:(c.args.toList.map (bzt s)).length=(c.args.map a.eval).toList.length/\
   ∀ (j:Nat) (b:AVal) (v:Value),(c.args.toList.map (bzt s))[j]?=some b->(c.args.map a.eval).toList[j]?=some v->ARel F w ρ b v:=by
   grind
  exact Oza e (Uz8 (C:=YieldAt Fence.wide 0 P l) (fun h k=>Zzy h k) f r I H J.calls z g D (fun i hi=>e i (List.mem_append.2 (.inl hi))) (azgo n) (yzx z d.1 d.2 (fun i hi=>e i (List.mem_append.2 (.inr hi)))))
theorem az4c {t:TypeId}{a:String}{f:FuncId}(h:Gzv P t a=some f)(n:Nat)(v:Value)(w:World):(method (n+1) t v a).run P w=.ok (f,v) w:=by
 unfold Gzv at h
 split at h
 ·rename_i i hi
  split at h
  ·rename_i m j
   split at h
   ·have b:m.path.toList=[]:=by
     simp_all
    split at h
    ·rename_i k e c g
     cases h
     simp only[method,typeInfo,Sem.run_bind,run_program,Result.andThen_ok,hi,Sem.run_pure,j,b,follow,c,receiverAt,run_underlying g,Place.get]
    ·cases h
    ·rename_i k d l c g
     cases h
     simp only[method,typeInfo,Sem.run_bind,run_program,Result.andThen_ok,hi,Sem.run_pure,j,b,follow,c,receiverAt,run_underlying g]
     cases d<;>first|(simp only[Place.get,Sem.run_pure,Result.andThen_ok];done)|(exact absurd rfl (l _))
    ·cases h
   ·cases h
  ·cases h
 ·cases h
theorem azaw {o:Oper}{c:Call}{x:Operand}{d:String}{s:St}{id:Nat}{t:TypeId}{r:AVal}{f:FuncId}{h:Hint}(L:o.op=.call c)(J:c.callee=.invoke x d)(S:bzt s x=.iface t r)(N:Gzv P t d=some f)
 (z:((bz8 s.mem h.args (czl s.mem h.args (r::c.args.toList.map (bzt s))).1).2.all fun j=>(Mem.ren (ez0 h.σ h.k id) h.m).all fun x=>x.1 !=j)=true) (A:Qz4 h id=true)
 (B:Czz (bz8 s.mem h.args (czl s.mem h.args (r::c.args.toList.map (bzt s))).1).1 (AVal.renL (ez0 h.σ h.k id) h.args)/\MSub s.mem (Mem.ren (ez0 h.σ h.k id) h.m)/\Spec P f h.k h.args h.m h.res h.m') {ob:Option Prop}:
 Sound2 P o (bzt s) s.mem id ⟨AVal.ren (ez0 h.σ h.k id) h.res,(Mem.ren (ez0 h.σ h.k id) h.m).map (·.1)++(bz8 s.mem h.args (czl s.mem h.args (r::c.args.toList.map (bzt s))).1).2++(czl s.mem h.args (r::c.args.toList.map (bzt s))).2,
  izk s.mem (Mem.ren (ez0 h.σ h.k id) h.m) (Mem.ren (ez0 h.σ h.k id) h.m')++bzi s.mem (bz8 s.mem h.args (czl s.mem h.args (r::c.args.toList.map (bzt s))).1).2,ob⟩:=by
 obtain⟨T,R,E⟩:=B
 intro F w ρ Mine M a G g O l I U
 have n:x∈o.op.operands:=by grind[Op.operands,Call.operands]
 have D:∀y∈c.args.toList,y∈o.op.operands:=fun y W=>by grind[Op.operands,Call.operands]
 have p:=S▸U x n
 generalize Q:a.eval x=u at p
 cases p with
 |iface V=>
  rename_i v
  have q:(execOp a.eval o).run P w=.ok (.enter f (#[v]++c.args.map a.eval)) w:=by
   have H:(#[Value.iface t v]++c.args.map a.eval)[0]?=some (.iface t v):=by grind
   have K:(#[Value.iface t v]++c.args.map a.eval).extract 1 (#[Value.iface t v]++c.args.map a.eval).size=c.args.map a.eval:=by
    simp_all
   simp only[execOp,L,resolve,J,Q,Sem.run_bind,Sem.run_pure,Result.andThen_ok,invoke,H,K,callMethod,run_program,Made.depth,az4c N,ozc E.callable]
  suffices e:(r::c.args.toList.map (bzt s)).length=(#[v]++c.args.map a.eval).toList.length/\∀ (j:Nat) (b:AVal) (u:Value),(r::c.args.toList.map (bzt s))[j]?=some b->(#[v]++c.args.map a.eval).toList[j]?=some u->ARel F w ρ b u from
   Oza l (Uz8 (C:=Calls P f) (fun h k=>h.mono k) z A T R E.calls G g O (fun i hi=>l i (List.mem_append.2 (.inl hi))) (azgn q) (yzx G e.1 e.2 (fun i hi=>l i (List.mem_append.2 (.inr hi)))))
  grind
theorem aza3 {F:Cells}{w:World}{ρ:Env}{Mine:Nat->Prop}{M m:Mem}(t:MemOk F w ρ Mine M){a:AVal}{v:Value}{n:Nat}{is:List Nat}(o:∀i∈is,M.get i=m.get i)
 (h:lenV m a=some (n,is)) (p:ARel F w ρ a v):∃b l c,v=.slice b l c/\(0<n->b.isNone=false):=by
 unfold lenV at h
 split at h
 ·rename_i j
  split at h
  ·rename_i sz x f k e q
   cases h
   rcases t.ok j _ ((o j (by simp)).trans q)with⟨_,⟨d,s⟩|⟨u,g,c,r,_⟩⟩
   ·cases p<;>simp_all
   ·cases p<;>simp_all
  grind
 ·rename_i j _ _ _
  split at h
  ·rename_i sz x f k e q
   cases h
   cases p with
   |view y z A=>simp_all
   |viewN y z=>
    rcases t.ok j _ ((o j (by simp)).trans q)with⟨_,⟨d,s⟩|⟨u,g,c,r,_⟩⟩
    all_goals simp_all
  grind
 grind
theorem qzp {hint:Nat->Option Hint}{i:Nat}{o:Oper}{id:Nat}{s:St}{out:Out}{b:Bool}(h:kzf P hint i o id s=some (out,b))(g:holds out.obl):Sound2 P o (bzt s) s.mem id out:=by
 unfold kzf at h
 split at h
 ·rename_i c d
  split at h
  ·rename_i bb V
   split at h
   ·rename_i S
    simp only[Bool.and_eq_true]at S
    rw[Option.map_eq_some_iff]at h
    obtain⟨q,k,p⟩:=h
    cases p
    have Q:bb=.append:=by
     grind[azdi]
    subst Q
    obtain⟨K,args,U⟩:=c
    simp only at V
    subst V
    unfold azbz at k
    simp only at k
    split at k
    ·rename_i s1 x1 E
     have:args=#[s1,x1]:=by grind
     subst this
     split at k
     ·rename_i hsz
      have N:∀t,U[0]?=some t->U[1]?=some t->U=#[t,t]:=fun t T B=>by
       grind
      exact(az7t d N k g).to2
     simp_all
    simp_all
   ·rw[Option.map_eq_some_iff]at h
    obtain⟨q,k,p⟩:=h
    cases p
    refine(kzh (o:=o) ?_ g).to2
    grind[evOp]
  ·rename_i x E
   split at h
   ·rename_i f R X L C z
    simp only at h
    split at h
    ·rename_i D
     simp only[Bool.and_eq_true]at D
     cases h
     exact azgd d E C D.1 D.2 g
    grind
   ·rename_i l L C z
    simp only at h
    split at h
    ·rename_i D
     simp only[Bool.and_eq_true]at D
     cases h
     exact azer d E C D.1 D.2 g
    grind
   grind
  ·rename_i x W E
   split at h
   ·rename_i t r L C z
    split at h
    ·rename_i f hf
     simp only at h
     split at h
     ·rename_i D
      simp only[Bool.and_eq_true]at D
      cases h
      exact azaw d E C hf D.1 D.2 g
     grind
    grind
   grind
 ·rename_i x d
  split at h
  ·rename_i j L E z
   split at h
   ·rename_i str pos hj
    split at h
    ·cases h;exact(az1n d E hj g).to2
    ·cases h;exact(az1o d E hj g).to2
   grind
  grind
 ·rename_i op t x y ty d
  split at h
  ·rename_i hnt
   split at h
   ·rename_i sz n f e E hu
    have Z:op=.eql/\y=.const (.slice none 0 0):=by
     grind[Vzk]
    obtain⟨rfl,rfl⟩:=Z
    have H:∀ {a:Act} {w:World} {b:Option Addr} {l c:Nat},a.eval x=.slice b l c->Ran P o a w (.bool b.isNone) w:=by
     intro a w b l c A
     have B:(eqGuard .eql t x (.const (.slice none 0 0)) (.slice b l c) (.slice none 0 0)).run P w=.ok () w:=by
      rfl
     have O:a.eval (.const (.slice none 0 0))=.slice none 0 0:=rfl
     exact .value (by grind[execOp,Sem.run_bind,Result.andThen_ok,run_eql_slice_nil',Sem.run_pure])
    split at h
    ·cases h
     refine(Sound1.still (P:=P) (o:=o) (env:=bzt s) (m:=s.mem) (id:=id) fun F w ρ Mine M a I u G=>?_).to2
     have B:=(E▸G x (by simp[d,Op.operands])).pure_inv
     rcases B.lst_inv with⟨A,_⟩|⟨_,_,A,_,_⟩|⟨b,off,cap,c,A,_⟩
     ·exact⟨_,H A,.anyb⟩
     ·exact⟨_,H A,.anyb⟩
     ·exact⟨_,H A,.anyb⟩
    ·cases h
     refine(Sound1.still (P:=P) (o:=o) (env:=bzt s) (m:=s.mem) (id:=id) fun F w ρ Mine M a I u G=>?_).to2
     have hn:0<n:=g
     have B:=(E▸G x (by simp[d,Op.operands])).pure_inv
     rcases B.lst_inv with⟨A,T⟩|⟨_,_,A,T,_⟩|⟨b,off,cap,c,A,_⟩
     ·omega
     ·omega
     ·exact⟨_,H A,.ff⟩
   ·rename_i e hu _
    have Z:op=.eql/\y=.const (.slice none 0 0):=by
     grind[Vzk]
    split at h
    ·rename_i n is hl
     have J:∀ (F:Cells) (w:World) (ρ:Env) (Mine:Nat->Prop) (M:Mem) (a:Act),MemOk F w ρ Mine M->(∀i∈is,M.get i=s.mem.get i)->
      (∀x∈o.op.operands,ARel F w ρ (bzt s x) (a.eval x))->∃b,Ran P o a w (.bool b) w/\(0<n->b=false):=by
      intro F w ρ Mine M a I u G
      obtain⟨b,l,c,A,V⟩:=aza3 I u hl (G x (by simp[d,Op.operands]))
      refine⟨b.isNone,?_,fun T=>by grind⟩
      have B:(eqGuard .eql t x (.const (.slice none 0 0)) (.slice b l c) (.slice none 0 0)).run P w=.ok () w:=by
       rfl
      have O:a.eval (.const (.slice none 0 0))=.slice none 0 0:=rfl
      exact .value (by grind[execOp,Sem.run_bind,Result.andThen_ok,run_eql_slice_nil',Sem.run_pure])
     split at h
     ·cases h
      exact(Sound1.still (P:=P) (o:=o) (env:=bzt s) (m:=s.mem) (id:=id) fun F w ρ Mine M a I u G=>by
       obtain⟨b,B,_⟩:=J F w ρ Mine M a I u G
       exact⟨_,B,.anyb⟩).to2
     ·cases h
      have hn:0<n:=g
      exact(Sound1.still (P:=P) (o:=o) (env:=bzt s) (m:=s.mem) (id:=id) fun F w ρ Mine M a I u G=>by
       obtain⟨b,B,O⟩:=J F w ρ Mine M a I u G
       rw[O hn]at B
       exact⟨_,B,.ff⟩).to2
    grind
   grind
  ·rw[Option.map_eq_some_iff]at h
   obtain⟨q,k,p⟩:=h
   exact(kzh (by simp_all) g).to2
 ·rename_i t l c d
  split at h
  ·rw[Option.map_eq_some_iff]at h
   obtain⟨q,k,p⟩:=h
   cases p
   exact(Zzh d k g).to2
  ·rw[Option.map_eq_some_iff]at h
   obtain⟨q,k,p⟩:=h
   cases p
   exact(Qzf d k g).to2
 ·rename_i t x v d
  split at h
  ·rw[Option.map_eq_some_iff]at h
   obtain⟨q,k,p⟩:=h
   cases p
   exact(Wzb d k g).to2
  ·split at h
   ·rw[Option.map_eq_some_iff]at h
    obtain⟨q,k,p⟩:=h
    cases p
    exact(azb8 d k g).to2
   ·rw[Option.map_eq_some_iff]at h
    obtain⟨q,k,p⟩:=h
    exact(kzh (by simp_all) g).to2
 ·rename_i t x d
  split at h
  ·rw[Option.map_eq_some_iff]at h
   obtain⟨q,k,p⟩:=h
   cases p
   exact(azen d k g).to2
  ·rw[Option.map_eq_some_iff]at h
   obtain⟨q,k,p⟩:=h
   exact(kzh (by simp_all) g).to2
 ·rename_i t d
  split at h
  ·rw[Option.map_eq_some_iff]at h
   obtain⟨q,k,p⟩:=h
   cases p
   exact(azar d k).to2
  ·split at h
   ·rw[Option.map_eq_some_iff]at h
    obtain⟨q,k,p⟩:=h
    cases p
    exact(azaq d k).to2
   ·rw[Option.map_eq_some_iff]at h
    obtain⟨q,k,p⟩:=h
    exact(kzh (by simp_all) g).to2
 ·rename_i t x lo hi mx d
  split at h
  ·rw[Option.map_eq_some_iff]at h
   obtain⟨q,k,p⟩:=h
   cases p
   exact(azb2 d k g).to2
  ·split at h
   ·rw[Option.map_eq_some_iff]at h
    obtain⟨q,k,p⟩:=h
    cases p
    exact(azb3 d k g).to2
   ·rw[Option.map_eq_some_iff]at h
    obtain⟨q,k,p⟩:=h
    exact(kzh (by simp_all) g).to2
 ·rename_i t n ps d
  split at h
  ·rw[Option.map_eq_some_iff]at h
   obtain⟨q,k,p⟩:=h
   cases p
   exact(Wza d k).to2
  ·rw[Option.map_eq_some_iff]at h
   obtain⟨q,k,p⟩:=h
   exact(kzh (by simp_all) g).to2
 ·rw[Option.map_eq_some_iff]at h
  obtain⟨q,k,p⟩:=h
  cases p
  exact(kzh k g).to2
theorem Sound2.weaken {o:Oper}{env:Operand->AVal}{m:Mem}{id:Nat}{out c:Out}(h:Sound2 P o env m id out)(y:c.rd=out.rd)
 (L:ASub out.val c.val) (A:c.wr=out.wr\/∃j r q l,out.wr=(j,r)::l/\c.wr=(j,q)::l/\RSub r q):Sound2 P o env m id c:=by
 intro F w ρ Mine M a I S V R E K p Q H
 refine h F w ρ Mine M a I S V (y▸R) E K p Q (fun v D e=>H v D ?_)
 obtain⟨F',ρ',W,U,J,g⟩:=e
 refine⟨F',ρ',W,U,L.rel F' D ρ' v J,?_⟩
 rcases A with A|⟨j,r,q,l,T,G,X⟩
 ·simp_all
 ·rw[T]at g
  rw[G]
  have d:∀i x,Mem.get ((j,q)::l++M) i=some x->∃f,Mem.get ((j,r)::l++M) i=some f/\(RSub f x):=by
   intro i x e
   simp only[List.cons_append,Mem.get]at e⊢
   split at e
   ·simp_all
   ·exact⟨x,by simp_all,⟨fun _ _ _ _ h=>⟨h,fun _ h=>h⟩⟩⟩
  refine⟨fun i x e=>?_,fun i x b e z=>?_,fun i s x O b e t z u=>?_⟩
  ·obtain⟨f,k,n⟩:=d i x e
   exact(n.rel _ _ _ i (g.ok i f k)).1
  ·obtain⟨f,k,n⟩:=d i x e
   exact g.mine i f b k ((n.rel _ _ _ i (g.ok i f k)).2 b z)
  ·obtain⟨f,k,n⟩:=d i x e
   obtain⟨C,B,N⟩:=d s O t
   exact g.disj i s f C b k B ((n.rel _ _ _ i (g.ok i f k)).2 b z) ((N.rel _ _ _ s (g.ok s C B)).2 b u)
theorem Lzx {hint:Nat->Option Hint}{i:Nat}{o:Oper}{id:Nat}{s:St}{out:Out}{b:Bool}(h:gzj P hint i o id s=some (out,b))(d:holds out.obl):Sound2 P o (bzt s) s.mem id out:=by
 unfold gzj at h
 split at h
 ·rename_i B D n
  split at h
  ·rename_i A e
   cases h
   generalize cvOf (hint i)=c at e d
   have f:∀a:AVal,ASub a a:=fun a=>⟨fun _ _ _ _ h=>h⟩
   cases c with
   |none=>
    simp only[Ezt,Option.some.injEq]at e
    subst e
    exact(qzp n d).weaken rfl (f _) (.inl rfl)
   |val z p q t=>
    simp only[Uzf,holds,andO_iff,Oz6]at d
    obtain⟨u,k,y⟩:=d
    simp only[Ezt]at e
    split at e
    ·rename_i x g
     cases e
     rw[g]at k
     subst k
     refine(qzp n u).weaken rfl ?_ (.inl rfl)
     rw[g]
     exact⟨fun F w ρ v m=>.pure ((t y).rel F w v m.pure_inv)⟩
    ·rename_i x g
     cases e
     rw[g]at k
     subst k
     refine(qzp n u).weaken rfl ?_ (.inl rfl)
     rw[g]
     exact⟨fun F w ρ v m=>by cases m with|clip m=>exact .clip ((t y).rel F w _ m)⟩
    simp_all
   |res z r C t=>
    simp only[Uzf,holds,andO_iff,Oz6]at d
    obtain⟨u,k,y⟩:=d
    simp only[Ezt]at e
    split at e
    ·rename_i j x l g
     cases e
     rw[g]at k
     subst k
     exact(qzp n u).weaken rfl (f _) (.inr ⟨j,x,C,l,g,rfl,t y⟩)
    simp_all
  grind
 grind
end Go.Abs
