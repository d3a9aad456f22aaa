import Derived.Test.YtjonhijmljhjlaaGreatYJSoundM
open Array renaming getElem?_eq_getElem->zE
open Bool renaming and_eq_true->qm
open Go renaming Operand->zI,Value->qr,World->qn,execOp->zW,run_underlying->zX
open Go.Op renaming operands->zV
open Go.Result renaming andThen_ok->zL
open Go.Sem renaming run_bind->zM,run_pure->zN
open List renaming mem_append->xh,mem_map->zd,all_eq_true->ql,append_assoc->xo,cons_append->xn,getElem?_append_left->zq,getElem?_append_right->zr
open Option renaming none_or->zu,map_eq_some_iff->zT
namespace Go.Abs
variable {P:Program}
theorem oz1 {f:FuncId}{vs:Array qr}{w:qn}(h:Pz1 P f):(callFunc f vs).run P w=.ok (.enter f vs) w:=by
 obtain⟨fn,h1,h2,h3⟩:=h;simp only[callFunc,zM,run_program,zL,h1,h2,h3,Bool.false_eq_true,if_false,zN]
theorem run_eql_slice_nil' (w:qn)(t e:TypeId)(a:Option Addr)(l c:Nat)(h:P.underlying t=some (.slice e)):(binOp .eql t (.slice a l c) (.slice none 0 0)).run P w=.ok (.bool a.isNone) w:=by
 have hh:∀d:Nat,(Op.equalIn (d+1) t (.slice a l c) (.slice none 0 0)).run P w=.ok a.isNone w:=λd=>by
  cases a<;>simp[Op.equalIn,zX h]
 simp only[binOp];simp[Op.equal,Op.maxDepth,hh 9999]
theorem Uzm {m:Mem}{is:List Nat}{j:Nat}(h:j∉is):(bzp m is).get j=none:=by
 cases hg:(bzp m is).get j with
 |none=>rfl
 |some r=>exact absurd (ezl hg).1 h
theorem Pz7 {C:Array qr->qn->(Ending->qn->Prop)->Prop}(mono:∀ {vs w R R'},C vs w R->(∀e w',R e w'->R' e w')->C vs w R'){o:Oper}{s:St}{id:Nat}{h:Hint}{l:List AVal}
 (hdis:((bzq s.mem h.args l).2.all λj=>(Mem.ren (ezk h.σ h.k id) h.m).all λx=>x.1 !=j)=true) (hro:Mzb h id=true)
 (h1:Bzn (bzq s.mem h.args l).1 (AVal.renL (ezk h.σ h.k id) h.args)) (h2:MSub s.mem (Mem.ren (ezk h.σ h.k id) h.m))
 (h3:∀ (F:Cells) (w:qn) (ρ:Env) (Mine:Nat->Prop) (vs:Array qr),MemOk F w ρ Mine h.m->Good F w Mine->Dz5 F w ρ h.args vs->
  C vs w λe w'=>∃v F' ρ',e=.returned v/\Step Mine F w F' w'/\dzr h.k ρ ρ'/\ARel F' w' ρ' h.res v/\MemOk F' w' ρ' Mine h.m')
 {F:Cells} {w:qn} {ρ:Env} {Mine:Nat->Prop} {M:Mem} {a:Act} (hm:MemOk F w ρ Mine M) (g:Good F w Mine) (fr:Fresh id M)
 (hrd:∀i∈(Mem.ren (ezk h.σ h.k id) h.m).map (·.1)++(bzq s.mem h.args l).2,M.get i=s.mem.get i) {vs:Array qr} (hup:∀ (next:Act->qn->Prop) (Q:Exit->Act->qn->Prop),(C vs w λe w'=>∃v,e=.returned v/\next (a.put o.dst v) w')->o.wpIn Fence.wide 0 P a w next Q)
 (hall:l.length=vs.toList.length/\∀ (j:Nat) (b:AVal) (v:qr),l[j]?=some b->vs.toList[j]?=some v->ARel F w ρ b v):
 Does P o a w λv w'=>∃F' ρ',Step Mine F w F' w'/\dzr id ρ ρ'/\ARel F' w' ρ' (AVal.ren (ezk h.σ h.k id) h.res) v/\
  MemOk F' w' ρ' Mine ((Mem.ren (ezk h.σ h.k id) h.m'++bzp s.mem (bzq s.mem h.args l).2)++M):=by
 intro next Q hn
 generalize has:bzq s.mem h.args l=as at *
 have hrd1:∀i∈as.2,M.get i=s.mem.get i:=λi hi=>hrd i (by simp[hi])
 have hrd2:∀y∈Mem.ren (ezk h.σ h.k id) h.m,M.get y.1=s.mem.get y.1:=λy hy=>hrd y.1 (by simp only[xh,zd];exact .inl ⟨y,hy,rfl⟩)
 obtain⟨st1,hm1⟩:=nzj (m:=s.mem) hm g hrd1;have hrel:=nzo (m:=s.mem) (js:=as.2) hm g hall.1 hall.2 (by rw[has];exact λ_ h=>h) (by rw[has];exact hrd1);rw[has]at hrel;obtain⟨hl,hsub⟩:=qz3 (F:=ez0 F w ρ s.mem as.2) (w:=w) (ρ:=ρ) h1;have hargs:Dz5 (ez0 F w ρ s.mem as.2) w ρ (AVal.renL (ezk h.σ h.k id) h.args) vs:=by
  refine⟨by rw[<-hl,hrel.1];simp,λj b v hb hv=>?_⟩;obtain⟨a',ha',hv'⟩:=hsub j b hb;exact hv' v (hrel.2 j a' v ha' (by rw[Array.getElem?_toList];exact hv))
 have fr1:Fresh id (bzp s.mem as.2++M):=by
  refine⟨λi hi=>?_,λi j r hi hj=>?_⟩
  ·rw[Mem.get_append];cases hg:(bzp s.mem as.2).get i with
   |none=>simpa using fr.none i hi
   |some r=>
    obtain⟨q1,r0,q2,_⟩:=ezl hg;have:=fr.none i hi;rw[hrd1 i q1,q2]at this;cases this
  ·rw[Mem.get_append]at hj;cases hg:(bzp s.mem as.2).get j with
   |none=>rw[hg]at hj;exact fr.has i j r hi (by simpa using hj)
   |some r'=>
    rw[hg]at hj;simp at hj;subst hj;obtain⟨q1,r0,q2,q3⟩:=ezl hg;exact Ez6 q3 i
 have hmem:∀y∈Mem.ren (ezk h.σ h.k id) h.m,∃r0,(bzp s.mem as.2++M).get y.1=some r0/\RSub r0 y.2:=by
  intro y hy;obtain⟨r0,q1,q2⟩:=rzu h2 (i:=y.1) (r:=y.2) hy;refine⟨r0,?_,q2⟩;have hnot:y.1∉as.2:=by
   intro hin;have:=ql.1 (ql.1 hdis y.1 hin) y hy;simp at this
  rw[Mem.get_append,Uzm hnot];simp[hrd2 y hy,q1]
 have hcall:=Rzx (C:=C) (λh k=>mono h k) h3 (Yzc hro) hm1 (st1.good g) fr1 hmem hargs;refine hup next Q (mono hcall ?_)
 rintro e w' ⟨v,F',ρ',rfl,q1,q2,q3,q4⟩;exact⟨v,rfl,hn v w' ⟨F',ρ',st1.trans q1,q2,q3,by simpa[xo]using q4⟩⟩
theorem azc7 {o:Oper}{f:FuncId}{vs:Array qr}{a:Act}{w:qn}(hrun:(zW a.eval o).run P w=.ok (.enter f vs) w)(next:Act->qn->Prop)(Q:Exit->Act->qn->Prop)
 (h:Calls P f vs w λe w'=>∃v,e=.returned v/\next (a.put o.dst v) w'):o.wpIn Fence.wide 0 P a w next Q:=by
 refine Iz4 ?_;unfold Oper.wp;rw[hrun];refine h.mono ?_;rintro e w' ⟨v,rfl,hn⟩;exact hn
theorem azc8 {o:Oper}{l:Nat}{vs:Array qr}{a:Act}{w:qn}(hrun:(zW a.eval o).run P w=(Instr.yield l vs).run P w)(next:Act->qn->Prop)(Q:Exit->Act->qn->Prop)
 (h:YieldAt Fence.wide 0 P l vs w λe w'=>∃v,e=.returned v/\next (a.put o.dst v) w'):o.wpIn Fence.wide 0 P a w next Q:=by
 obtain⟨fn,tmps,assign,body,h1,h2⟩:=h;refine⟨λ_ _=>trivial,?_⟩;show o.uponIn Fence.wide 0 P a next Q ((zW a.eval o).run P w)
 rw[hrun,h1,Oper.uponIn_round];refine⟨(λh=>by cases h),h2.mono ?_⟩;rintro e w' ⟨v,rfl,hn⟩;exact hn
theorem Uzy {l:Nat}{vs:Array qr}{w:qn}{R R':Ending->qn->Prop}(h:YieldAt Fence.wide 0 P l vs w R)(hr:∀e w',R e w'->R' e w'):YieldAt Fence.wide 0 P l vs w R':=by
 obtain⟨fn,tmps,assign,body,h1,h2⟩:=h;exact⟨fn,tmps,assign,body,h1,h2.mono hr⟩
theorem az6f {a b:AVal}(h:az9r a b=true):a=b:=by
 unfold az9r at h;split at h
 ·simp at h;rw[h]
 ·simp at h;rw[h.1,h.2]
 ·cases h
theorem Uzi:∀ {l l':List AVal},Yzj l l'=true->l=l'
 |[],[],_=>rfl
 |a::l,b::l',h=>by
  simp only[Yzj,qm]at h;rw[az6f h.1,Uzi h.2]
 |[],_::_,h=>by cases h
 |_::_,[],h=>by cases h
theorem yzr {m mr M S:Mem}(hrd:∀y∈mr,M.get y.1=m.get y.1)(hS:∀i cs,m.get i=some (.box cs)->S.get i=none):∀ (L:Mem) (i:Nat),Mem.get (izk m mr L++(S++M)) i=Mem.get (L++(S++M)) i
 |[],_=>rfl
 |(k,r)::l,i=>by
  have keep:∀r',Mem.get (((k,r')::izk m mr l)++(S++M)) i=Mem.get (((k,r')::l)++(S++M)) i:=λr'=>by
   have:=yzr hrd hS l i;simp only[xn,Mem.get];split
   ·rfl
   ·exact this
  unfold izk;split
  ·rename_i cs ds hm;split
   ·rename_i hc;simp only[qm,List.any_eq_true,ql,qj,bne_iff_ne]at hc;obtain⟨⟨h1,y,h2,h3⟩,h4⟩:=hc;rw[yzr hrd hS l i];simp only[xn,Mem.get];split
    ·rename_i e;subst e;have hl:∀q:Mem,(∀x∈q,x.1≠k)->Mem.get q k=none:=by
      intro q;induction q with
      |nil=>intro _;rfl
      |cons x q ih=>
       intro hq;rw[Mem.get,qb (hq x (List.mem_cons_self ..))];exact ih λz hz=>hq z (List.mem_cons_of_mem _ hz)
     rw[Mem.get_append,hl l h4,zu,Mem.get_append,hS k ds hm,zu];have:=hrd y h2;rw[h3,hm]at this;rw[this,Uzi h1]
    ·rfl
   ·exact keep _
  ·exact keep _
theorem MemOk.sameGet {F:Cells}{w:qn}{ρ:Env}{Mine:Nat->Prop}{M M':Mem}(h:MemOk F w ρ Mine M)(he:∀i,M'.get i=M.get i):MemOk F w ρ Mine M':=
 ⟨λi r hi=>h.ok i r (by rw[<-he];exact hi),λi r b hi=>h.mine i r b (by rw[<-he];exact hi),λi i' r r' b hi hi'=>h.disj i i' r r' b (by rw[<-he];exact hi) (by rw[<-he];exact hi')⟩
theorem Wzw {m:Mem}{is:List Nat}{i:Nat}{cs:List AVal}(h:m.get i=some (.box cs)):(bzp m is).get i=none:=by
 cases hg:(bzp m is).get i with
 |none=>rfl
 |some r=>
  obtain⟨_,r0,q2,q3⟩:=ezl hg;rw[h]at q2;cases q2;cases q3
theorem Kzp {o:Oper}{a:Act}{w:qn}{F:Cells}{ρ:Env}{Mine:Nat->Prop}{M m mr L:Mem}{is js:List Nat}{id:Nat}{val:AVal}
 (hrd:∀i∈mr.map (·.1)++is++js,M.get i=m.get i)
 (h:Does P o a w λv w'=>∃F' ρ',Step Mine F w F' w'/\dzr id ρ ρ'/\ARel F' w' ρ' val v/\MemOk F' w' ρ' Mine ((L++bzp m is)++M)):
 Does P o a w λv w'=>∃F' ρ',Step Mine F w F' w'/\dzr id ρ ρ'/\ARel F' w' ρ' val v/\MemOk F' w' ρ' Mine ((izk m mr L++bzp m is)++M):=by
 intro next Q hn
 refine h next Q λv w' ⟨F',ρ',h1,h2,h3,h4⟩=>hn v w' ⟨F',ρ',h1,h2,h3,h4.sameGet λi=>?_⟩
 rw[xo,xo];exact yzr (λy hy=>hrd y.1 (by simp only[xh,zd];exact .inl (.inl ⟨y,hy,rfl⟩))) (λi cs hi=>Wzw hi) L i
theorem azbw {o:Oper}{c:Call}{x:zI}{s:St}{id:Nat}{f:FuncId}{first caps:List AVal}{h:Hint}(ho:o.op=.call c)(hc:c.callee=.value x)(hx:cza s x=.func f first caps)
 (hdis:((bzq s.mem h.args (dz3 s.mem h.args (first++c.args.toList.map (cza s)++caps)).1).2.all λj=>(Mem.ren (ezk h.σ h.k id) h.m).all λx=>x.1 !=j)=true) (hro:Mzb h id=true)
 (hob:Bzn (bzq s.mem h.args (dz3 s.mem h.args (first++c.args.toList.map (cza s)++caps)).1).1 (AVal.renL (ezk h.σ h.k id) h.args)/\MSub s.mem (Mem.ren (ezk h.σ h.k id) h.m)/\Spec P f h.k h.args h.m h.res h.m') {ob:Option Prop}:
 Sound2 P o (cza s) s.mem id ⟨AVal.ren (ezk h.σ h.k id) h.res,(Mem.ren (ezk h.σ h.k id) h.m).map (·.1)++(bzq s.mem h.args (dz3 s.mem h.args (first++c.args.toList.map (cza s)++caps)).1).2++(dz3 s.mem h.args (first++c.args.toList.map (cza s)++caps)).2,
  izk s.mem (Mem.ren (ezk h.σ h.k id) h.m) (Mem.ren (ezk h.σ h.k id) h.m')++bzp s.mem (bzq s.mem h.args (dz3 s.mem h.args (first++c.args.toList.map (cza s)++caps)).1).2,ob⟩:=by
 obtain⟨h1,h2,h3⟩:=hob;intro F w ρ Mine M a hm g fr hrd hfe ha;have hopx:x∈o.op.operands:=by simp[ho,zV,Call.operands,hc]
 have hopa:∀y∈c.args.toList,y∈o.op.operands:=λy hy=>by simp[ho,zV,Call.operands,hc];exact .inr (by simpa using hy)
 have hfx:=hx▸ha x hopx;generalize hu:a.eval x=u at hfx;cases hfx with
 |func g1 g1' g2 g2'=>
  rename_i v1 v2;have hrun:(zW a.eval o).run P w=.ok (.enter f (v1++c.args.map a.eval++v2)) w:=by
   simp only[zW,ho,resolve,hc,hu,Deferred.ofValue,zM,zN,zL,invoke,oz1 h3.callable]
  have hall:(first++c.args.toList.map (cza s)++caps).length=(v1++c.args.map a.eval++v2).toList.length/\
   ∀ (j:Nat) (b:AVal) (v:qr),(first++c.args.toList.map (cza s)++caps)[j]?=some b->(v1++c.args.map a.eval++v2).toList[j]?=some v->ARel F w ρ b v:=by
   refine⟨by simp[g1,g2],λj b v hb hv=>?_⟩;simp only[Array.toList_append,Array.toList_map]at hv;have hmid:=Fzt (env:=cza s) c.args.toList (F:=F) (w:=w) (ρ:=ρ) (a:=a) (λy hy=>ha y (hopa y hy));rw[xo]at hb hv;by_cases hj1:j<first.length
   ·rw[zq hj1]at hb;rw[zq (by simp;omega)]at hv;exact g1' j b v hb (by simpa using hv)
   ·rw[zr qa]at hb;rw[zr (by simp;omega)]at hv;rw[Array.length_toList,<-g1]at hv;by_cases hj2:j-first.length<(c.args.toList.map (cza s)).length
    ·rw[zq hj2]at hb;rw[zq (by rw[<-hmid.1];exact hj2)]at hv;exact hmid.2 _ b v hb hv
    ·rw[zr qa]at hb;rw[zr (by rw[<-hmid.1];omega),<-hmid.1]at hv;exact g2' _ b v hb (by simpa using hv)
  exact Kzp hrd (Pz7 (C:=Calls P f) (λh k=>h.mono k) hdis hro h1 h2 h3.calls hm g fr (λi hi=>hrd i (xh.2 (.inl hi))) (azc7 hrun) (xzl hm hall.1 hall.2 (λi hi=>hrd i (xh.2 (.inr hi)))))
theorem az9q {o:Oper}{c:Call}{x:zI}{s:St}{id:Nat}{l:Nat}{h:Hint}(ho:o.op=.call c)(hc:c.callee=.value x)(hx:cza s x=.yld l)
 (hdis:((bzq s.mem h.args (dz3 s.mem h.args (c.args.toList.map (cza s))).1).2.all λj=>(Mem.ren (ezk h.σ h.k id) h.m).all λx=>x.1 !=j)=true) (hro:Mzb h id=true)
 (hob:Bzn (bzq s.mem h.args (dz3 s.mem h.args (c.args.toList.map (cza s))).1).1 (AVal.renL (ezk h.σ h.k id) h.args)/\MSub s.mem (Mem.ren (ezk h.σ h.k id) h.m)/\YSpec P l h.k h.args h.m h.res h.m') {ob:Option Prop}:
 Sound2 P o (cza s) s.mem id ⟨AVal.ren (ezk h.σ h.k id) h.res,(Mem.ren (ezk h.σ h.k id) h.m).map (·.1)++(bzq s.mem h.args (dz3 s.mem h.args (c.args.toList.map (cza s))).1).2++(dz3 s.mem h.args (c.args.toList.map (cza s))).2,
  izk s.mem (Mem.ren (ezk h.σ h.k id) h.m) (Mem.ren (ezk h.σ h.k id) h.m')++bzp s.mem (bzq s.mem h.args (dz3 s.mem h.args (c.args.toList.map (cza s))).1).2,ob⟩:=by
 obtain⟨h1,h2,h3⟩:=hob;intro F w ρ Mine M a hm g fr hrd hfe ha;have hopx:x∈o.op.operands:=by simp[ho,zV,Call.operands,hc]
 have hopa:∀y∈c.args.toList,y∈o.op.operands:=λy hy=>by simp[ho,zV,Call.operands,hc];exact .inr (by simpa using hy)
 have hfx:=hx▸ha x hopx;generalize hu:a.eval x=u at hfx;cases hfx with
 |yld=>
  have hrun:(zW a.eval o).run P w=(Instr.yield l (c.args.map a.eval)).run P w:=by
   simp[zW,ho,resolve,hc,hu,Deferred.ofValue,invoke]
  have hall:(c.args.toList.map (cza s)).length=(c.args.map a.eval).toList.length/\
   ∀ (j:Nat) (b:AVal) (v:qr),(c.args.toList.map (cza s))[j]?=some b->(c.args.map a.eval).toList[j]?=some v->ARel F w ρ b v:=by
   have hmid:=Fzt (env:=cza s) c.args.toList (F:=F) (w:=w) (ρ:=ρ) (a:=a) (λy hy=>ha y (hopa y hy));refine⟨by simp,λj b v hb hv=>hmid.2 j b v hb (by simpa using hv)⟩
  exact Kzp hrd (Pz7 (C:=YieldAt Fence.wide 0 P l) (λh k=>Uzy h k) hdis hro h1 h2 h3.calls hm g fr (λi hi=>hrd i (xh.2 (.inl hi))) (azc8 hrun) (xzl hm hall.1 hall.2 (λi hi=>hrd i (xh.2 (.inr hi)))))
theorem Zzx {t:TypeId}{name:String}{f:FuncId}(h:Ezx P t name=some f)(n:Nat)(v:qr)(w:qn):(method (n+1) t v name).run P w=.ok (f,v) w:=by
 unfold Ezx at h;split at h
 ·rename_i i hi;split at h
  ·rename_i m hm;split at h
   ·rename_i hp;have hpl:m.path.toList=[]:=by
     have:m.path=#[]:=by simpa using hp
     rw[this]
    split at h
    ·rename_i f' e hf hu;cases h;simp only[method,typeInfo,zM,run_program,zL,hi,zN,hm,hpl,follow,hf,receiverAt,zX hu,Place.get]
    ·cases h
    ·rename_i f' d hd hf hu;cases h;simp only[method,typeInfo,zM,run_program,zL,hi,zN,hm,hpl,follow,hf,receiverAt,zX hu];cases d<;>first|(simp only[Place.get,zN,zL];done)|(exact absurd rfl (hd _))
    ·cases h
   ·cases h
  ·cases h
 ·cases h
theorem az62 {o:Oper}{c:Call}{x:zI}{name:String}{s:St}{id:Nat}{t:TypeId}{r:AVal}{f:FuncId}{h:Hint}(ho:o.op=.call c)(hc:c.callee=.invoke x name)(hx:cza s x=.iface t r)(hf:Ezx P t name=some f)
 (hdis:((bzq s.mem h.args (dz3 s.mem h.args (r::c.args.toList.map (cza s))).1).2.all λj=>(Mem.ren (ezk h.σ h.k id) h.m).all λx=>x.1 !=j)=true) (hro:Mzb h id=true)
 (hob:Bzn (bzq s.mem h.args (dz3 s.mem h.args (r::c.args.toList.map (cza s))).1).1 (AVal.renL (ezk h.σ h.k id) h.args)/\MSub s.mem (Mem.ren (ezk h.σ h.k id) h.m)/\Spec P f h.k h.args h.m h.res h.m') {ob:Option Prop}:
 Sound2 P o (cza s) s.mem id ⟨AVal.ren (ezk h.σ h.k id) h.res,(Mem.ren (ezk h.σ h.k id) h.m).map (·.1)++(bzq s.mem h.args (dz3 s.mem h.args (r::c.args.toList.map (cza s))).1).2++(dz3 s.mem h.args (r::c.args.toList.map (cza s))).2,
  izk s.mem (Mem.ren (ezk h.σ h.k id) h.m) (Mem.ren (ezk h.σ h.k id) h.m')++bzp s.mem (bzq s.mem h.args (dz3 s.mem h.args (r::c.args.toList.map (cza s))).1).2,ob⟩:=by
 obtain⟨h1,h2,h3⟩:=hob;intro F w ρ Mine M a hm g fr hrd hfe ha;have hopx:x∈o.op.operands:=by simp[ho,zV,Call.operands,hc]
 have hopa:∀y∈c.args.toList,y∈o.op.operands:=λy hy=>by simp[ho,zV,Call.operands,hc];exact .inr (by simpa using hy)
 have hfx:=hx▸ha x hopx;generalize hu:a.eval x=u at hfx;cases hfx with
 |iface hr=>
  rename_i v;have hrun:(zW a.eval o).run P w=.ok (.enter f (#[v]++c.args.map a.eval)) w:=by
   have e1:(#[Value.iface t v]++c.args.map a.eval)[0]?=some (.iface t v):=by rw[Array.getElem?_append_left (by simp)];rfl
   have e2:(#[Value.iface t v]++c.args.map a.eval).extract 1 (#[Value.iface t v]++c.args.map a.eval).size=c.args.map a.eval:=by
    apply Array.ext';simp;rw[List.take_of_length_le (by simp)]
   simp only[zW,ho,resolve,hc,hu,zM,zN,zL,invoke,e1,e2,callMethod,run_program,Made.depth,Zzx hf,oz1 h3.callable]
  suffices hall:(r::c.args.toList.map (cza s)).length=(#[v]++c.args.map a.eval).toList.length/\∀ (j:Nat) (b:AVal) (u:qr),(r::c.args.toList.map (cza s))[j]?=some b->(#[v]++c.args.map a.eval).toList[j]?=some u->ARel F w ρ b u from
   Kzp hrd (Pz7 (C:=Calls P f) (λh k=>h.mono k) hdis hro h1 h2 h3.calls hm g fr (λi hi=>hrd i (xh.2 (.inl hi))) (azc7 hrun) (xzl hm hall.1 hall.2 (λi hi=>hrd i (xh.2 (.inr hi)))))
  refine⟨by simp,λj b u hb hu'=>?_⟩;have hmid:=Fzt (env:=cza s) c.args.toList (F:=F) (w:=w) (ρ:=ρ) (a:=a) (λy hy=>ha y (hopa y hy));cases j with
  |zero=>simp at hb hu';subst hb;subst hu';exact hr
  |succ j=>exact hmid.2 j b u (by simpa using hb) (by simpa using hu')
theorem az5h {F:Cells}{w:qn}{ρ:Env}{Mine:Nat->Prop}{M m:Mem}(hm:MemOk F w ρ Mine M){a:AVal}{v:qr}{n:Nat}{is:List Nat}(hrd:∀i∈is,M.get i=m.get i)
 (h:lenV m a=some (n,is)) (ha:ARel F w ρ a v):∃b l c,v=.slice b l c/\(0<n->b.isNone=false):=by
 unfold lenV at h;split at h
 ·rename_i j;split at h
  ·rename_i sz n' f k e hk;cases h;rcases hm.ok j _ ((hrd j (by simp)).trans hk)with⟨_,⟨hnone,hn0⟩|⟨b',cap',c,hv',_⟩⟩
   ·cases ha with
    |vec hh=>rw[hh]at hnone;cases hnone
    |vnil hh=>exact⟨_,_,_,rfl,λh=>qa⟩
   ·cases ha with
    |vnil hh=>rw[hh]at hv';cases hv'
    |vec hh=>exact⟨_,_,_,rfl,λ_=>rfl⟩
  ·cases h
 ·rename_i j _ _ _;split at h
  ·rename_i sz n' f k e hk;cases h;cases ha with
   |view h1 h2 h3=>exact⟨_,_,_,rfl,λ_=>rfl⟩
   |viewN h1 h2=>
    rcases hm.ok j _ ((hrd j (by simp)).trans hk)with⟨_,⟨hnone,hn0⟩|⟨b',cap',c,hv',_⟩⟩
    ·exact⟨_,_,_,rfl,λh=>qa⟩
    ·rw[h1]at hv';cases hv'
  ·cases h
 ·cases h
theorem pzr {hint:Nat->Option Hint}{i:Nat}{o:Oper}{id:Nat}{s:St}{out:Out}{b:Bool}(h:kz3 P hint i o id s=some (out,b))(hob:holds out.obl):Sound2 P o (cza s) s.mem id out:=by
 unfold kz3 at h;split at h
 ·rename_i c hop;split at h
  ·rename_i bb hb;split at h
   ·rename_i hmk;simp only[qm]at hmk;rw[zT]at h;obtain⟨q,hq,he⟩:=h;cases he;have hbb:bb=.append:=by
     have:=hmk.2;cases bb<;>first|rfl|(simp[az8k]at this)
    subst hbb;obtain⟨callee,args,ts⟩:=c;simp only at hb;subst hb;unfold az6x at hq;simp only at hq;split at hq
    ·rename_i s1 x1 hx;have:args=#[s1,x1]:=by rw[<-Array.toArray_toList (xs:=args),hx]
     subst this;split at hq
     ·rename_i hsz;have hts:∀t,ts[0]?=some t->ts[1]?=some t->ts=#[t,t]:=λt h0 h1=>by
       refine Array.ext (by simpa using hsz) λi hi _=>?_
       have hi2:i<2:=qa
       match i,hi2 with
       |0,_=>simpa[zE (show 0<ts.size from qa)]using h0
       |1,_=>simpa[zE (show 1<ts.size from qa)]using h1
      exact(az38 hop hts hq hob).to2
     ·cases hq
    ·cases hq
   ·rw[zT]at h;obtain⟨q,hq,he⟩:=h;cases he;refine(kz5 (o:=o) ?_ hob).to2;rw[hop];simp only[evOp,hb];exact hq
  ·rename_i x hx;split at h
   ·rename_i f first caps hh hfx hhint
    simp only at h;split at h
    ·rename_i hc;simp only[qm]at hc;cases h;exact azbw hop hx hfx hc.1 hc.2 hob
    ·cases h
   ·rename_i l hh hfx hhint;simp only at h;split at h
    ·rename_i hc;simp only[qm]at hc;cases h;exact az9q hop hx hfx hc.1 hc.2 hob
    ·cases h
   ·cases h
  ·rename_i x name hx;split at h
   ·rename_i t r hh hfx hhint;split at h
    ·rename_i f hf;simp only at h;split at h
     ·rename_i hc;simp only[qm]at hc;cases h;exact az62 hop hx hfx hf hc.1 hc.2 hob
     ·cases h
    ·cases h
   ·cases h
 ·rename_i x hop;split at h
  ·rename_i j hh hx hhint;split at h
   ·rename_i str pos hj;split at h
    ·cases h;exact(Wzs hop hx hj hob).to2
    ·cases h;exact(Wzt hop hx hj hob).to2
   ·cases h
  ·cases h
 ·rename_i op t x y ty hop;split at h
  ·rename_i hnt;split at h
   ·rename_i sz n f e hx hu;have hy:op=.eql/\y=.const (.slice none 0 0):=by
     unfold Qzo at hnt;split at hnt
     ·exact⟨rfl,rfl⟩
     ·cases hnt
    obtain⟨rfl,rfl⟩:=hy;have run:∀ {a:Act} {w:qn} {b:Option Addr} {l c:Nat},a.eval x=.slice b l c->Ran P o a w (.bool b.isNone) w:=by
     intro a w b l c hv;have h1:(eqGuard .eql t x (.const (.slice none 0 0)) (.slice b l c) (.slice none 0 0)).run P w=.ok () w:=by
      cases b<;>simp[eqGuard]
     have h2:a.eval (.const (.slice none 0 0))=.slice none 0 0:=rfl;exact .value (by simp only[zW,hop,zM,hv,h2,h1,zL,run_eql_slice_nil' w t e b l c hu,zN])
    split at h
    ·cases h;refine(Sound1.still (P:=P) (o:=o) (env:=cza s) (m:=s.mem) (id:=id) λF w ρ Mine M a hm hrd ha=>?_).to2;have h1:=(hx▸ha x (by simp[hop,zV])).pure_inv;rcases h1.lst_inv with⟨hv,_⟩|⟨_,_,hv,_,_⟩|⟨b,off,cap,c,hv,_⟩
     ·exact⟨_,run hv,.anyb⟩
     ·exact⟨_,run hv,.anyb⟩
     ·exact⟨_,run hv,.anyb⟩
    ·cases h;refine(Sound1.still (P:=P) (o:=o) (env:=cza s) (m:=s.mem) (id:=id) λF w ρ Mine M a hm hrd ha=>?_).to2;have hn:0<n:=hob;have h1:=(hx▸ha x (by simp[hop,zV])).pure_inv;rcases h1.lst_inv with⟨hv,h0⟩|⟨_,_,hv,h0,_⟩|⟨b,off,cap,c,hv,_⟩
     ·omega
     ·omega
     ·exact⟨_,run hv,.ff⟩
   ·rename_i e hu _;have hy:op=.eql/\y=.const (.slice none 0 0):=by
     unfold Qzo at hnt;split at hnt
     ·exact⟨rfl,rfl⟩
     ·cases hnt
    obtain⟨rfl,rfl⟩:=hy;split at h
    ·rename_i n is hl
     have key:∀ (F:Cells) (w:qn) (ρ:Env) (Mine:Nat->Prop) (M:Mem) (a:Act),MemOk F w ρ Mine M->(∀i∈is,M.get i=s.mem.get i)->
      (∀x∈o.op.operands,ARel F w ρ (cza s x) (a.eval x))->∃b,Ran P o a w (.bool b) w/\(0<n->b=false):=by
      intro F w ρ Mine M a hm hrd ha;obtain⟨b,l,c,hv,hb⟩:=az5h hm hrd hl (ha x (by simp[hop,zV]));refine⟨b.isNone,?_,λh0=>by rw[hb h0]⟩;have h1:(eqGuard .eql t x (.const (.slice none 0 0)) (.slice b l c) (.slice none 0 0)).run P w=.ok () w:=by
       cases b<;>simp[eqGuard]
      have h2:a.eval (.const (.slice none 0 0))=.slice none 0 0:=rfl;exact .value (by simp only[zW,hop,zM,hv,h2,h1,zL,run_eql_slice_nil' w t e b l c hu,zN])
     split at h
     ·cases h;exact(Sound1.still (P:=P) (o:=o) (env:=cza s) (m:=s.mem) (id:=id) λF w ρ Mine M a hm hrd ha=>by
       obtain⟨b,h1,_⟩:=key F w ρ Mine M a hm hrd ha;exact⟨_,h1,.anyb⟩).to2
     ·cases h;have hn:0<n:=hob;exact(Sound1.still (P:=P) (o:=o) (env:=cza s) (m:=s.mem) (id:=id) λF w ρ Mine M a hm hrd ha=>by
       obtain⟨b,h1,h2⟩:=key F w ρ Mine M a hm hrd ha;rw[h2 hn]at h1;exact⟨_,h1,.ff⟩).to2
    ·cases h
   ·cases h
  ·rw[zT]at h;obtain⟨q,hq,he⟩:=h;cases he;exact(kz5 (by rw[hop];exact hq) hob).to2
 ·rename_i t l c hop;split at h
  ·rw[zT]at h;obtain⟨q,hq,he⟩:=h;cases he;exact(Uzh hop hq hob).to2
  ·rw[zT]at h;obtain⟨q,hq,he⟩:=h;cases he;exact(Mzh hop hq hob).to2
 ·rename_i t x v hop;split at h
  ·rw[zT]at h;obtain⟨q,hq,he⟩:=h;cases he;exact(Rzc hop hq hob).to2
  ·split at h
   ·rw[zT]at h;obtain⟨q,hq,he⟩:=h;cases he;exact(az6d hop hq hob).to2
   ·rw[zT]at h;obtain⟨q,hq,he⟩:=h;cases he;exact(kz5 (by rw[hop];exact hq) hob).to2
 ·rename_i t x hop;split at h
  ·rw[zT]at h;obtain⟨q,hq,he⟩:=h;cases he;exact(az9m hop hq hob).to2
  ·rw[zT]at h;obtain⟨q,hq,he⟩:=h;cases he;exact(kz5 (by rw[hop];exact hq) hob).to2
 ·rename_i t hop;split at h
  ·rw[zT]at h;obtain⟨q,hq,he⟩:=h;cases he;exact(az5x hop hq).to2
  ·split at h
   ·rw[zT]at h;obtain⟨q,hq,he⟩:=h;cases he;exact(az5w hop hq).to2
   ·rw[zT]at h;obtain⟨q,hq,he⟩:=h;cases he;exact(kz5 (by rw[hop];exact hq) hob).to2
 ·rename_i t x lo hi mx hop;split at h
  ·rw[zT]at h;obtain⟨q,hq,he⟩:=h;cases he;exact(az67 hop hq hob).to2
  ·split at h
   ·rw[zT]at h;obtain⟨q,hq,he⟩:=h;cases he;exact(az68 hop hq hob).to2
   ·rw[zT]at h;obtain⟨q,hq,he⟩:=h;cases he;exact(kz5 (by rw[hop];exact hq) hob).to2
 ·rename_i t n ps hop;split at h
  ·rw[zT]at h;obtain⟨q,hq,he⟩:=h;cases he;exact(Rzb hop hq).to2
  ·rw[zT]at h;obtain⟨q,hq,he⟩:=h;cases he;exact(kz5 (by rw[hop];exact hq) hob).to2
 ·rw[zT]at h;obtain⟨q,hq,he⟩:=h;cases he;exact(kz5 hq hob).to2
theorem Sound2.weaken {o:Oper}{env:zI->AVal}{m:Mem}{id:Nat}{out out':Out}(h:Sound2 P o env m id out)(hrd:out'.rd=out.rd)
 (hv:ASub out.val out'.val) (hw:out'.wr=out.wr\/∃j r r' l,out.wr=(j,r)::l/\out'.wr=(j,r')::l/\RSub r r'):Sound2 P o env m id out':=by
 intro F w ρ Mine M a h1 h2 h3 h4 h5 h6 next Q hn
 refine h F w ρ Mine M a h1 h2 h3 (hrd▸h4) h5 h6 next Q (λv w' hx=>hn v w' ?_)
 obtain⟨F',ρ',q1,q2,q3,q4⟩:=hx;refine⟨F',ρ',q1,q2,hv.rel F' w' ρ' v q3,?_⟩;rcases hw with hw|⟨j,r,r',l,e1,e2,hr⟩
 ·rw[hw];exact q4
 ·rw[e1]at q4;rw[e2];have hget:∀i x,Mem.get ((j,r')::l++M) i=some x->∃x0,Mem.get ((j,r)::l++M) i=some x0/\(RSub x0 x):=by
   intro i x hx;simp only[xn,Mem.get]at hx⊢;split at hx
   ·rename_i e;cases hx;exact⟨r,by rw[qc e],hr⟩
   ·rename_i e;exact⟨x,by rw[qb e];exact hx,⟨λ_ _ _ _ h=>⟨h,λ_ h=>h⟩⟩⟩
  refine⟨λi x hx=>?_,λi x b hx hb=>?_,λi i' x x' b hx hx' hb hb'=>?_⟩
  ·obtain⟨x0,g1,g2⟩:=hget i x hx;exact(g2.rel _ _ _ i (q4.ok i x0 g1)).1
  ·obtain⟨x0,g1,g2⟩:=hget i x hx;exact q4.mine i x0 b g1 ((g2.rel _ _ _ i (q4.ok i x0 g1)).2 b hb)
  ·obtain⟨x0,g1,g2⟩:=hget i x hx;obtain⟨x1,g3,g4⟩:=hget i' x' hx';exact q4.disj i i' x0 x1 b g1 g3 ((g2.rel _ _ _ i (q4.ok i x0 g1)).2 b hb) ((g4.rel _ _ _ i' (q4.ok i' x1 g3)).2 b hb')
theorem Jz6 {hint:Nat->Option Hint}{i:Nat}{o:Oper}{id:Nat}{s:St}{out:Out}{b:Bool}(h:gza P hint i o id s=some (out,b))(hob:holds out.obl):Sound2 P o (cza s) s.mem id out:=by
 unfold gza at h;split at h
 ·rename_i out0 b0 hs;split at h
  ·rename_i out1 hc;cases h;generalize cvOf (hint i)=c at hc hob;have refl:∀a:AVal,ASub a a:=λa=>⟨λ_ _ _ _ h=>h⟩
   cases c with
   |none=>
    simp only[Dzb,Option.some.injEq]at hc;subst hc;exact(pzr hs hob).weaken rfl (refl _) (.inl rfl)
   |val pre p q hh=>
    simp only[Pzh,holds,andO_iff,Kzm]at hob;obtain⟨o1,o2,o3⟩:=hob;simp only[Dzb]at hc;split at hc
    ·rename_i x hx;cases hc;rw[hx]at o2;simp only at o2;subst o2;refine(pzr hs o1).weaken rfl ?_ (.inl rfl);rw[hx];exact⟨λF w ρ v hv=>.pure ((hh o3).rel F w v hv.pure_inv)⟩
    ·rename_i x hx;cases hc;rw[hx]at o2;simp only at o2;subst o2;refine(pzr hs o1).weaken rfl ?_ (.inl rfl);rw[hx];exact⟨λF w ρ v hv=>by cases hv with|clip hv=>exact .clip ((hh o3).rel F w _ hv)⟩
    ·cases hc
   |res pre r r' hh=>
    simp only[Pzh,holds,andO_iff,Kzm]at hob;obtain⟨o1,o2,o3⟩:=hob;simp only[Dzb]at hc;split at hc
    ·rename_i j x l hx;cases hc;rw[hx]at o2;simp only at o2;subst o2;exact(pzr hs o1).weaken rfl (refl _) (.inr ⟨j,x,r',l,hx,rfl,hh o3⟩)
    ·cases hc
  ·cases h
 ·cases h
end Go.Abs
