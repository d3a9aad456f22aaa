import Derived.Test.YtjonhijmljhjlaaGreatYISoundM
open Array renaming getElem?_eq_getElem->zx
open Bool renaming and_eq_true->qn
open Go renaming Operand->zB,Value->qt,World->qo,execOp->zP,run_underlying->zQ
open Go.Op renaming operands->zO
open Go.Result renaming andThen_ok->zE
open Go.Sem renaming run_bind->zF,run_pure->zG
open List renaming mem_append->xg,mem_map->zi,all_eq_true->qm,append_assoc->xn,cons_append->xm,getElem?_append_left->ze,getElem?_append_right->zf
open Option renaming none_or->zm,map_eq_some_iff->zM
namespace Go.Abs
variable {P:Program}
theorem oz0 {f:FuncId}{vs:Array qt}{w:qo}(h:Pz5 P f):(callFunc f vs).run P w=.ok (.enter f vs) w:=by
 obtain⟨fn,h1,h2,h3⟩:=h;simp only[callFunc,zF,run_program,zE,h1,h2,h3,Bool.false_eq_true,if_false,zG]
theorem run_eql_slice_nil' (w:qo)(t e:TypeId)(a:Option Addr)(l c:Nat)(h:P.underlying t=some (.slice e)):(binOp .eql t (.slice a l c) (.slice none 0 0)).run P w=.ok (.bool a.isNone) w:=by
 have hh:∀d:Nat,(Op.equalIn (d+1) t (.slice a l c) (.slice none 0 0)).run P w=.ok a.isNone w:=λd=>by
  cases a<;>simp[Op.equalIn,zQ h]
 simp only[binOp];simp[Op.equal,Op.maxDepth,hh 9999]
theorem Vz2 {m:Mem}{is:List Nat}{j:Nat}(h:j∉is):(bzt m is).get j=none:=by
 cases hg:(bzt m is).get j with
 |none=>rfl
 |some r=>exact absurd (ezc hg).1 h
theorem Pzf {C:Array qt->qo->(Ending->qo->Prop)->Prop}(mono:∀ {vs w R R'},C vs w R->(∀e w',R e w'->R' e w')->C vs w R'){o:Oper}{s:St}{id:Nat}{h:Hint}{l:List AVal}
 (hdis:((czf s.mem h.args l).2.all λj=>(Mem.ren (ezb h.σ h.k id) h.m).all λx=>x.1 !=j)=true) (hro:Mza h id=true)
 (h1:Cz1 (czf s.mem h.args l).1 (AVal.renL (ezb h.σ h.k id) h.args)) (h2:MSub s.mem (Mem.ren (ezb h.σ h.k id) h.m))
 (h3:∀ (F:Cells) (w:qo) (ρ:Env) (Mine:Nat->Prop) (vs:Array qt),MemOk F w ρ Mine h.m->Good F w Mine->Ezg F w ρ h.args vs->
  C vs w λe w'=>∃v F' ρ',e=.returned v/\Step Mine F w F' w'/\dzn h.k ρ ρ'/\ARel F' w' ρ' h.res v/\MemOk F' w' ρ' Mine h.m')
 {F:Cells} {w:qo} {ρ:Env} {Mine:Nat->Prop} {M:Mem} {a:Act} (hm:MemOk F w ρ Mine M) (g:Good F w Mine) (fr:Fresh id M)
 (hrd:∀i∈(Mem.ren (ezb h.σ h.k id) h.m).map (·.1)++(czf s.mem h.args l).2,M.get i=s.mem.get i) {vs:Array qt} (hup:∀ (next:Act->qo->Prop) (Q:Exit->Act->qo->Prop),(C vs w λe w'=>∃v,e=.returned v/\next (a.put o.dst v) w')->o.wpIn Fence.wide 0 P a w next Q)
 (hall:l.length=vs.toList.length/\∀ (j:Nat) (b:AVal) (v:qt),l[j]?=some b->vs.toList[j]?=some v->ARel F w ρ b v):
 Does P o a w λv w'=>∃F' ρ',Step Mine F w F' w'/\dzn id ρ ρ'/\ARel F' w' ρ' (AVal.ren (ezb h.σ h.k id) h.res) v/\
  MemOk F' w' ρ' Mine ((Mem.ren (ezb h.σ h.k id) h.m'++bzt s.mem (czf s.mem h.args l).2)++M):=by
 intro next Q hn
 generalize has:czf s.mem h.args l=as at *
 have hrd1:∀i∈as.2,M.get i=s.mem.get i:=λi hi=>hrd i (by simp[hi])
 have hrd2:∀y∈Mem.ren (ezb h.σ h.k id) h.m,M.get y.1=s.mem.get y.1:=λy hy=>hrd y.1 (by simp only[xg,zi];exact .inl ⟨y,hy,rfl⟩)
 obtain⟨st1,hm1⟩:=nzi (m:=s.mem) hm g hrd1;have hrel:=rzo (m:=s.mem) (js:=as.2) hm g hall.1 hall.2 (by rw[has];exact λ_ h=>h) (by rw[has];exact hrd1);rw[has]at hrel;obtain⟨hl,hsub⟩:=pzx (F:=ezi F w ρ s.mem as.2) (w:=w) (ρ:=ρ) h1;have hargs:Ezg (ezi F w ρ s.mem as.2) w ρ (AVal.renL (ezb h.σ h.k id) h.args) vs:=by
  refine⟨by rw[<-hl,hrel.1];simp,λj b v hb hv=>?_⟩;obtain⟨a',ha',hv'⟩:=hsub j b hb;exact hv' v (hrel.2 j a' v ha' (by rw[Array.getElem?_toList];exact hv))
 have fr1:Fresh id (bzt s.mem as.2++M):=by
  refine⟨λi hi=>?_,λi j r hi hj=>?_⟩
  ·rw[Mem.get_append];cases hg:(bzt s.mem as.2).get i with
   |none=>simpa using fr.none i hi
   |some r=>
    obtain⟨q1,r0,q2,_⟩:=ezc hg;have:=fr.none i hi;rw[hrd1 i q1,q2]at this;cases this
  ·rw[Mem.get_append]at hj;cases hg:(bzt s.mem as.2).get j with
   |none=>rw[hg]at hj;exact fr.has i j r hi (by simpa using hj)
   |some r'=>
    rw[hg]at hj;simp at hj;subst hj;obtain⟨q1,r0,q2,q3⟩:=ezc hg;exact Ezd q3 i
 have hmem:∀y∈Mem.ren (ezb h.σ h.k id) h.m,∃r0,(bzt s.mem as.2++M).get y.1=some r0/\RSub r0 y.2:=by
  intro y hy;obtain⟨r0,q1,q2⟩:=rzv h2 (i:=y.1) (r:=y.2) hy;refine⟨r0,?_,q2⟩;have hnot:y.1∉as.2:=by
   intro hin;have:=qm.1 (qm.1 hdis y.1 hin) y hy;simp at this
  rw[Mem.get_append,Vz2 hnot];simp[hrd2 y hy,q1]
 have hcall:=Szb (C:=C) (λh k=>mono h k) h3 (Zz5 hro) hm1 (st1.good g) fr1 hmem hargs;refine hup next Q (mono hcall ?_)
 rintro e w' ⟨v,F',ρ',rfl,q1,q2,q3,q4⟩;exact⟨v,rfl,hn v w' ⟨F',ρ',st1.trans q1,q2,q3,by simpa[xn]using q4⟩⟩
theorem azdo {o:Oper}{f:FuncId}{vs:Array qt}{a:Act}{w:qo}(hrun:(zP a.eval o).run P w=.ok (.enter f vs) w)(next:Act->qo->Prop)(Q:Exit->Act->qo->Prop)
 (h:Calls P f vs w λe w'=>∃v,e=.returned v/\next (a.put o.dst v) w'):o.wpIn Fence.wide 0 P a w next Q:=by
 refine Iz3 ?_;unfold Oper.wp;rw[hrun];refine h.mono ?_;rintro e w' ⟨v,rfl,hn⟩;exact hn
theorem azdp {o:Oper}{l:Nat}{vs:Array qt}{a:Act}{w:qo}(hrun:(zP a.eval o).run P w=(Instr.yield l vs).run P w)(next:Act->qo->Prop)(Q:Exit->Act->qo->Prop)
 (h:YieldAt Fence.wide 0 P l vs w λe w'=>∃v,e=.returned v/\next (a.put o.dst v) w'):o.wpIn Fence.wide 0 P a w next Q:=by
 obtain⟨fn,tmps,assign,body,h1,h2⟩:=h;refine⟨λ_ _=>trivial,?_⟩;show o.uponIn Fence.wide 0 P a next Q ((zP a.eval o).run P w)
 rw[hrun,h1,Oper.uponIn_round];refine⟨(λh=>by cases h),h2.mono ?_⟩;rintro e w' ⟨v,rfl,hn⟩;exact hn
theorem Vzd {l:Nat}{vs:Array qt}{w:qo}{R R':Ending->qo->Prop}(h:YieldAt Fence.wide 0 P l vs w R)(hr:∀e w',R e w'->R' e w'):YieldAt Fence.wide 0 P l vs w R':=by
 obtain⟨fn,tmps,assign,body,h1,h2⟩:=h;exact⟨fn,tmps,assign,body,h1,h2.mono hr⟩
theorem az7r {a b:AVal}(h:azbf a b=true):a=b:=by
 unfold azbf at h;split at h
 ·simp at h;rw[h]
 ·simp at h;rw[h.1,h.2]
 ·cases h
theorem Uzz:∀ {l l':List AVal},Zzb l l'=true->l=l'
 |[],[],_=>rfl
 |a::l,b::l',h=>by
  simp only[Zzb,qn]at h;rw[az7r h.1,Uzz h.2]
 |[],_::_,h=>by cases h
 |_::_,[],h=>by cases h
theorem zz5 {m mr M S:Mem}(hrd:∀y∈mr,M.get y.1=m.get y.1)(hS:∀i cs,m.get i=some (.box cs)->S.get i=none):∀ (L:Mem) (i:Nat),Mem.get (iz8 m mr L++(S++M)) i=Mem.get (L++(S++M)) i
 |[],_=>rfl
 |(k,r)::l,i=>by
  have keep:∀r',Mem.get (((k,r')::iz8 m mr l)++(S++M)) i=Mem.get (((k,r')::l)++(S++M)) i:=λr'=>by
   have:=zz5 hrd hS l i;simp only[xm,Mem.get];split
   ·rfl
   ·exact this
  unfold iz8;split
  ·rename_i cs ds hm;split
   ·rename_i hc;simp only[qn,List.any_eq_true,qm,qj,bne_iff_ne]at hc;obtain⟨⟨h1,y,h2,h3⟩,h4⟩:=hc;rw[zz5 hrd hS l i];simp only[xm,Mem.get];split
    ·rename_i e;subst e;have hl:∀q:Mem,(∀x∈q,x.1≠k)->Mem.get q k=none:=by
      intro q;induction q with
      |nil=>intro _;rfl
      |cons x q ih=>
       intro hq;rw[Mem.get,qb (hq x (List.mem_cons_self ..))];exact ih λz hz=>hq z (List.mem_cons_of_mem _ hz)
     rw[Mem.get_append,hl l h4,zm,Mem.get_append,hS k ds hm,zm];have:=hrd y h2;rw[h3,hm]at this;rw[this,Uzz h1]
    ·rfl
   ·exact keep _
  ·exact keep _
theorem MemOk.sameGet {F:Cells}{w:qo}{ρ:Env}{Mine:Nat->Prop}{M M':Mem}(h:MemOk F w ρ Mine M)(he:∀i,M'.get i=M.get i):MemOk F w ρ Mine M':=
 ⟨λi r hi=>h.ok i r (by rw[<-he];exact hi),λi r b hi=>h.mine i r b (by rw[<-he];exact hi),λi i' r r' b hi hi'=>h.disj i i' r r' b (by rw[<-he];exact hi) (by rw[<-he];exact hi')⟩
theorem Xzc {m:Mem}{is:List Nat}{i:Nat}{cs:List AVal}(h:m.get i=some (.box cs)):(bzt m is).get i=none:=by
 cases hg:(bzt m is).get i with
 |none=>rfl
 |some r=>
  obtain⟨_,r0,q2,q3⟩:=ezc hg;rw[h]at q2;cases q2;cases q3
theorem Kzu {o:Oper}{a:Act}{w:qo}{F:Cells}{ρ:Env}{Mine:Nat->Prop}{M m mr L:Mem}{is js:List Nat}{id:Nat}{val:AVal}
 (hrd:∀i∈mr.map (·.1)++is++js,M.get i=m.get i)
 (h:Does P o a w λv w'=>∃F' ρ',Step Mine F w F' w'/\dzn id ρ ρ'/\ARel F' w' ρ' val v/\MemOk F' w' ρ' Mine ((L++bzt m is)++M)):
 Does P o a w λv w'=>∃F' ρ',Step Mine F w F' w'/\dzn id ρ ρ'/\ARel F' w' ρ' val v/\MemOk F' w' ρ' Mine ((iz8 m mr L++bzt m is)++M):=by
 intro next Q hn
 refine h next Q λv w' ⟨F',ρ',h1,h2,h3,h4⟩=>hn v w' ⟨F',ρ',h1,h2,h3,h4.sameGet λi=>?_⟩
 rw[xn,xn];exact zz5 (λy hy=>hrd y.1 (by simp only[xg,zi];exact .inl (.inl ⟨y,hy,rfl⟩))) (λi cs hi=>Xzc hi) L i
theorem azde {o:Oper}{c:Call}{x:zB}{s:St}{id:Nat}{f:FuncId}{first caps:List AVal}{h:Hint}(ho:o.op=.call c)(hc:c.callee=.value x)(hx:czc s x=.func f first caps)
 (hdis:((czf s.mem h.args (dz0 s.mem h.args (first++c.args.toList.map (czc s)++caps)).1).2.all λj=>(Mem.ren (ezb h.σ h.k id) h.m).all λx=>x.1 !=j)=true) (hro:Mza h id=true)
 (hob:Cz1 (czf s.mem h.args (dz0 s.mem h.args (first++c.args.toList.map (czc s)++caps)).1).1 (AVal.renL (ezb h.σ h.k id) h.args)/\MSub s.mem (Mem.ren (ezb h.σ h.k id) h.m)/\Spec P f h.k h.args h.m h.res h.m') {ob:Option Prop}:
 Sound2 P o (czc s) s.mem id ⟨AVal.ren (ezb h.σ h.k id) h.res,(Mem.ren (ezb h.σ h.k id) h.m).map (·.1)++(czf s.mem h.args (dz0 s.mem h.args (first++c.args.toList.map (czc s)++caps)).1).2++(dz0 s.mem h.args (first++c.args.toList.map (czc s)++caps)).2,
  iz8 s.mem (Mem.ren (ezb h.σ h.k id) h.m) (Mem.ren (ezb h.σ h.k id) h.m')++bzt s.mem (czf s.mem h.args (dz0 s.mem h.args (first++c.args.toList.map (czc s)++caps)).1).2,ob⟩:=by
 obtain⟨h1,h2,h3⟩:=hob;intro F w ρ Mine M a hm g fr hrd hfe ha;have hopx:x∈o.op.operands:=by simp[ho,zO,Call.operands,hc]
 have hopa:∀y∈c.args.toList,y∈o.op.operands:=λy hy=>by simp[ho,zO,Call.operands,hc];exact .inr (by simpa using hy)
 have hfx:=hx▸ha x hopx;generalize hu:a.eval x=u at hfx;cases hfx with
 |func g1 g1' g2 g2'=>
  rename_i v1 v2;have hrun:(zP a.eval o).run P w=.ok (.enter f (v1++c.args.map a.eval++v2)) w:=by
   simp only[zP,ho,resolve,hc,hu,Deferred.ofValue,zF,zG,zE,invoke,oz0 h3.callable]
  have hall:(first++c.args.toList.map (czc s)++caps).length=(v1++c.args.map a.eval++v2).toList.length/\
   ∀ (j:Nat) (b:AVal) (v:qt),(first++c.args.toList.map (czc s)++caps)[j]?=some b->(v1++c.args.map a.eval++v2).toList[j]?=some v->ARel F w ρ b v:=by
   refine⟨by simp[g1,g2],λj b v hb hv=>?_⟩;simp only[Array.toList_append,Array.toList_map]at hv;have hmid:=Fzz (env:=czc s) c.args.toList (F:=F) (w:=w) (ρ:=ρ) (a:=a) (λy hy=>ha y (hopa y hy));rw[xn]at hb hv;by_cases hj1:j<first.length
   ·rw[ze hj1]at hb;rw[ze (by simp;omega)]at hv;exact g1' j b v hb (by simpa using hv)
   ·rw[zf qa]at hb;rw[zf (by simp;omega)]at hv;rw[Array.length_toList,<-g1]at hv;by_cases hj2:j-first.length<(c.args.toList.map (czc s)).length
    ·rw[ze hj2]at hb;rw[ze (by rw[<-hmid.1];exact hj2)]at hv;exact hmid.2 _ b v hb hv
    ·rw[zf qa]at hb;rw[zf (by rw[<-hmid.1];omega),<-hmid.1]at hv;exact g2' _ b v hb (by simpa using hv)
  exact Kzu hrd (Pzf (C:=Calls P f) (λh k=>h.mono k) hdis hro h1 h2 h3.calls hm g fr (λi hi=>hrd i (xg.2 (.inl hi))) (azdo hrun) (xzx hm hall.1 hall.2 (λi hi=>hrd i (xg.2 (.inr hi)))))
theorem azbe {o:Oper}{c:Call}{x:zB}{s:St}{id:Nat}{l:Nat}{h:Hint}(ho:o.op=.call c)(hc:c.callee=.value x)(hx:czc s x=.yld l)
 (hdis:((czf s.mem h.args (dz0 s.mem h.args (c.args.toList.map (czc s))).1).2.all λj=>(Mem.ren (ezb h.σ h.k id) h.m).all λx=>x.1 !=j)=true) (hro:Mza h id=true)
 (hob:Cz1 (czf s.mem h.args (dz0 s.mem h.args (c.args.toList.map (czc s))).1).1 (AVal.renL (ezb h.σ h.k id) h.args)/\MSub s.mem (Mem.ren (ezb h.σ h.k id) h.m)/\YSpec P l h.k h.args h.m h.res h.m') {ob:Option Prop}:
 Sound2 P o (czc s) s.mem id ⟨AVal.ren (ezb h.σ h.k id) h.res,(Mem.ren (ezb h.σ h.k id) h.m).map (·.1)++(czf s.mem h.args (dz0 s.mem h.args (c.args.toList.map (czc s))).1).2++(dz0 s.mem h.args (c.args.toList.map (czc s))).2,
  iz8 s.mem (Mem.ren (ezb h.σ h.k id) h.m) (Mem.ren (ezb h.σ h.k id) h.m')++bzt s.mem (czf s.mem h.args (dz0 s.mem h.args (c.args.toList.map (czc s))).1).2,ob⟩:=by
 obtain⟨h1,h2,h3⟩:=hob;intro F w ρ Mine M a hm g fr hrd hfe ha;have hopx:x∈o.op.operands:=by simp[ho,zO,Call.operands,hc]
 have hopa:∀y∈c.args.toList,y∈o.op.operands:=λy hy=>by simp[ho,zO,Call.operands,hc];exact .inr (by simpa using hy)
 have hfx:=hx▸ha x hopx;generalize hu:a.eval x=u at hfx;cases hfx with
 |yld=>
  have hrun:(zP a.eval o).run P w=(Instr.yield l (c.args.map a.eval)).run P w:=by
   simp[zP,ho,resolve,hc,hu,Deferred.ofValue,invoke]
  have hall:(c.args.toList.map (czc s)).length=(c.args.map a.eval).toList.length/\
   ∀ (j:Nat) (b:AVal) (v:qt),(c.args.toList.map (czc s))[j]?=some b->(c.args.map a.eval).toList[j]?=some v->ARel F w ρ b v:=by
   have hmid:=Fzz (env:=czc s) c.args.toList (F:=F) (w:=w) (ρ:=ρ) (a:=a) (λy hy=>ha y (hopa y hy));refine⟨by simp,λj b v hb hv=>hmid.2 j b v hb (by simpa using hv)⟩
  exact Kzu hrd (Pzf (C:=YieldAt Fence.wide 0 P l) (λh k=>Vzd h k) hdis hro h1 h2 h3.calls hm g fr (λi hi=>hrd i (xg.2 (.inl hi))) (azdp hrun) (xzx hm hall.1 hall.2 (λi hi=>hrd i (xg.2 (.inr hi)))))
theorem az0m {t:TypeId}{name:String}{f:FuncId}(h:Fz4 P t name=some f)(n:Nat)(v:qt)(w:qo):(method (n+1) t v name).run P w=.ok (f,v) w:=by
 unfold Fz4 at h;split at h
 ·rename_i i hi;split at h
  ·rename_i m hm;split at h
   ·rename_i hp;have hpl:m.path.toList=[]:=by
     have:m.path=#[]:=by simpa using hp
     rw[this]
    split at h
    ·rename_i f' e hf hu;cases h;simp only[method,typeInfo,zF,run_program,zE,hi,zG,hm,hpl,follow,hf,receiverAt,zQ hu,Place.get]
    ·cases h
    ·rename_i f' d hd hf hu;cases h;simp only[method,typeInfo,zF,run_program,zE,hi,zG,hm,hpl,follow,hf,receiverAt,zQ hu];cases d<;>first|(simp only[Place.get,zG,zE];done)|(exact absurd rfl (hd _))
    ·cases h
   ·cases h
  ·cases h
 ·cases h
theorem az7e {o:Oper}{c:Call}{x:zB}{name:String}{s:St}{id:Nat}{t:TypeId}{r:AVal}{f:FuncId}{h:Hint}(ho:o.op=.call c)(hc:c.callee=.invoke x name)(hx:czc s x=.iface t r)(hf:Fz4 P t name=some f)
 (hdis:((czf s.mem h.args (dz0 s.mem h.args (r::c.args.toList.map (czc s))).1).2.all λj=>(Mem.ren (ezb h.σ h.k id) h.m).all λx=>x.1 !=j)=true) (hro:Mza h id=true)
 (hob:Cz1 (czf s.mem h.args (dz0 s.mem h.args (r::c.args.toList.map (czc s))).1).1 (AVal.renL (ezb h.σ h.k id) h.args)/\MSub s.mem (Mem.ren (ezb h.σ h.k id) h.m)/\Spec P f h.k h.args h.m h.res h.m') {ob:Option Prop}:
 Sound2 P o (czc s) s.mem id ⟨AVal.ren (ezb h.σ h.k id) h.res,(Mem.ren (ezb h.σ h.k id) h.m).map (·.1)++(czf s.mem h.args (dz0 s.mem h.args (r::c.args.toList.map (czc s))).1).2++(dz0 s.mem h.args (r::c.args.toList.map (czc s))).2,
  iz8 s.mem (Mem.ren (ezb h.σ h.k id) h.m) (Mem.ren (ezb h.σ h.k id) h.m')++bzt s.mem (czf s.mem h.args (dz0 s.mem h.args (r::c.args.toList.map (czc s))).1).2,ob⟩:=by
 obtain⟨h1,h2,h3⟩:=hob;intro F w ρ Mine M a hm g fr hrd hfe ha;have hopx:x∈o.op.operands:=by simp[ho,zO,Call.operands,hc]
 have hopa:∀y∈c.args.toList,y∈o.op.operands:=λy hy=>by simp[ho,zO,Call.operands,hc];exact .inr (by simpa using hy)
 have hfx:=hx▸ha x hopx;generalize hu:a.eval x=u at hfx;cases hfx with
 |iface hr=>
  rename_i v;have hrun:(zP a.eval o).run P w=.ok (.enter f (#[v]++c.args.map a.eval)) w:=by
   have e1:(#[Value.iface t v]++c.args.map a.eval)[0]?=some (.iface t v):=by rw[Array.getElem?_append_left (by simp)];rfl
   have e2:(#[Value.iface t v]++c.args.map a.eval).extract 1 (#[Value.iface t v]++c.args.map a.eval).size=c.args.map a.eval:=by
    apply Array.ext';simp;rw[List.take_of_length_le (by simp)]
   simp only[zP,ho,resolve,hc,hu,zF,zG,zE,invoke,e1,e2,callMethod,run_program,Made.depth,az0m hf,oz0 h3.callable]
  suffices hall:(r::c.args.toList.map (czc s)).length=(#[v]++c.args.map a.eval).toList.length/\∀ (j:Nat) (b:AVal) (u:qt),(r::c.args.toList.map (czc s))[j]?=some b->(#[v]++c.args.map a.eval).toList[j]?=some u->ARel F w ρ b u from
   Kzu hrd (Pzf (C:=Calls P f) (λh k=>h.mono k) hdis hro h1 h2 h3.calls hm g fr (λi hi=>hrd i (xg.2 (.inl hi))) (azdo hrun) (xzx hm hall.1 hall.2 (λi hi=>hrd i (xg.2 (.inr hi)))))
  refine⟨by simp,λj b u hb hu'=>?_⟩;have hmid:=Fzz (env:=czc s) c.args.toList (F:=F) (w:=w) (ρ:=ρ) (a:=a) (λy hy=>ha y (hopa y hy));cases j with
  |zero=>simp at hb hu';subst hb;subst hu';exact hr
  |succ j=>exact hmid.2 j b u (by simpa using hb) (by simpa using hu')
theorem az6r {F:Cells}{w:qo}{ρ:Env}{Mine:Nat->Prop}{M m:Mem}(hm:MemOk F w ρ Mine M){a:AVal}{v:qt}{n:Nat}{is:List Nat}(hrd:∀i∈is,M.get i=m.get i)
 (h:lenV m a=some (n,is)) (ha:ARel F w ρ a v):∃b l c,v=.slice b l c/\(0<n->b.isNone=false):=by
 unfold lenV at h;split at h
 ·rename_i j;split at h
  ·rename_i sz n' f k e hk;cases h;rcases hm.ok j _ ((hrd j (by simp)).trans hk)with⟨_,⟨hnone,hn0⟩|⟨b',cap',c,hv',_⟩⟩
   ·cases ha with
    |vec hh=>rw[hh]at hnone;cases hnone
    |vnil hh=>exact⟨_,_,_,rfl,λh=>qa⟩
   ·cases ha with
    |vnil hh=>rw[hh]at hv';cases hv'
    |vec hh=>exact⟨_,_,_,rfl,λ_=>rfl⟩
  ·cases h
 ·rename_i j _ _ _;split at h
  ·rename_i sz n' f k e hk;cases h;cases ha with
   |view h1 h2 h3=>exact⟨_,_,_,rfl,λ_=>rfl⟩
   |viewN h1 h2=>
    rcases hm.ok j _ ((hrd j (by simp)).trans hk)with⟨_,⟨hnone,hn0⟩|⟨b',cap',c,hv',_⟩⟩
    ·exact⟨_,_,_,rfl,λh=>qa⟩
    ·rw[h1]at hv';cases hv'
  ·cases h
 ·cases h
theorem pzn {hint:Nat->Option Hint}{i:Nat}{o:Oper}{id:Nat}{s:St}{out:Out}{b:Bool}(h:jzv P hint i o id s=some (out,b))(hob:holds out.obl):Sound2 P o (czc s) s.mem id out:=by
 unfold jzv at h;split at h
 ·rename_i c hop;split at h
  ·rename_i bb hb;split at h
   ·rename_i hmk;simp only[qn]at hmk;rw[zM]at h;obtain⟨q,hq,he⟩:=h;cases he;have hbb:bb=.append:=by
     have:=hmk.2;cases bb<;>first|rfl|(simp[az9x]at this)
    subst hbb;obtain⟨callee,args,ts⟩:=c;simp only at hb;subst hb;unfold az89 at hq;simp only at hq;split at hq
    ·rename_i s1 x1 hx;have:args=#[s1,x1]:=by rw[<-Array.toArray_toList (xs:=args),hx]
     subst this;split at hq
     ·rename_i hsz;have hts:∀t,ts[0]?=some t->ts[1]?=some t->ts=#[t,t]:=λt h0 h1=>by
       refine Array.ext (by simpa using hsz) λi hi _=>?_
       have hi2:i<2:=qa
       match i,hi2 with
       |0,_=>simpa[zx (show 0<ts.size from qa)]using h0
       |1,_=>simpa[zx (show 1<ts.size from qa)]using h1
      exact(az4j hop hts hq hob).to2
     ·cases hq
    ·cases hq
   ·rw[zM]at h;obtain⟨q,hq,he⟩:=h;cases he;refine(jzy (o:=o) ?_ hob).to2;rw[hop];simp only[evOp,hb];exact hq
  ·rename_i x hx;split at h
   ·rename_i f first caps hh hfx hhint
    simp only at h;split at h
    ·rename_i hc;simp only[qn]at hc;cases h;exact azde hop hx hfx hc.1 hc.2 hob
    ·cases h
   ·rename_i l hh hfx hhint;simp only at h;split at h
    ·rename_i hc;simp only[qn]at hc;cases h;exact azbe hop hx hfx hc.1 hc.2 hob
    ·cases h
   ·cases h
  ·rename_i x name hx;split at h
   ·rename_i t r hh hfx hhint;split at h
    ·rename_i f hf;simp only at h;split at h
     ·rename_i hc;simp only[qn]at hc;cases h;exact az7e hop hx hfx hf hc.1 hc.2 hob
     ·cases h
    ·cases h
   ·cases h
 ·rename_i x hop;split at h
  ·rename_i j hh hx hhint;split at h
   ·rename_i str pos hj;split at h
    ·cases h;exact(Xz7 hop hx hj hob).to2
    ·cases h;exact(Xz8 hop hx hj hob).to2
   ·cases h
  ·cases h
 ·rename_i op t x y ty hop;split at h
  ·rename_i hnt;split at h
   ·rename_i sz n f e hx hu;have hy:op=.eql/\y=.const (.slice none 0 0):=by
     unfold Qzu at hnt;split at hnt
     ·exact⟨rfl,rfl⟩
     ·cases hnt
    obtain⟨rfl,rfl⟩:=hy;have run:∀ {a:Act} {w:qo} {b:Option Addr} {l c:Nat},a.eval x=.slice b l c->Ran P o a w (.bool b.isNone) w:=by
     intro a w b l c hv;have h1:(eqGuard .eql t x (.const (.slice none 0 0)) (.slice b l c) (.slice none 0 0)).run P w=.ok () w:=by
      cases b<;>simp[eqGuard]
     have h2:a.eval (.const (.slice none 0 0))=.slice none 0 0:=rfl;exact .value (by simp only[zP,hop,zF,hv,h2,h1,zE,run_eql_slice_nil' w t e b l c hu,zG])
    split at h
    ·cases h;refine(Sound1.still (P:=P) (o:=o) (env:=czc s) (m:=s.mem) (id:=id) λF w ρ Mine M a hm hrd ha=>?_).to2;have h1:=(hx▸ha x (by simp[hop,zO])).pure_inv;rcases h1.lst_inv with⟨hv,_⟩|⟨_,_,hv,_,_⟩|⟨b,off,cap,c,hv,_⟩
     ·exact⟨_,run hv,.anyb⟩
     ·exact⟨_,run hv,.anyb⟩
     ·exact⟨_,run hv,.anyb⟩
    ·cases h;refine(Sound1.still (P:=P) (o:=o) (env:=czc s) (m:=s.mem) (id:=id) λF w ρ Mine M a hm hrd ha=>?_).to2;have hn:0<n:=hob;have h1:=(hx▸ha x (by simp[hop,zO])).pure_inv;rcases h1.lst_inv with⟨hv,h0⟩|⟨_,_,hv,h0,_⟩|⟨b,off,cap,c,hv,_⟩
     ·omega
     ·omega
     ·exact⟨_,run hv,.ff⟩
   ·rename_i e hu _;have hy:op=.eql/\y=.const (.slice none 0 0):=by
     unfold Qzu at hnt;split at hnt
     ·exact⟨rfl,rfl⟩
     ·cases hnt
    obtain⟨rfl,rfl⟩:=hy;split at h
    ·rename_i n is hl
     have key:∀ (F:Cells) (w:qo) (ρ:Env) (Mine:Nat->Prop) (M:Mem) (a:Act),MemOk F w ρ Mine M->(∀i∈is,M.get i=s.mem.get i)->
      (∀x∈o.op.operands,ARel F w ρ (czc s x) (a.eval x))->∃b,Ran P o a w (.bool b) w/\(0<n->b=false):=by
      intro F w ρ Mine M a hm hrd ha;obtain⟨b,l,c,hv,hb⟩:=az6r hm hrd hl (ha x (by simp[hop,zO]));refine⟨b.isNone,?_,λh0=>by rw[hb h0]⟩;have h1:(eqGuard .eql t x (.const (.slice none 0 0)) (.slice b l c) (.slice none 0 0)).run P w=.ok () w:=by
       cases b<;>simp[eqGuard]
      have h2:a.eval (.const (.slice none 0 0))=.slice none 0 0:=rfl;exact .value (by simp only[zP,hop,zF,hv,h2,h1,zE,run_eql_slice_nil' w t e b l c hu,zG])
     split at h
     ·cases h;exact(Sound1.still (P:=P) (o:=o) (env:=czc s) (m:=s.mem) (id:=id) λF w ρ Mine M a hm hrd ha=>by
       obtain⟨b,h1,_⟩:=key F w ρ Mine M a hm hrd ha;exact⟨_,h1,.anyb⟩).to2
     ·cases h;have hn:0<n:=hob;exact(Sound1.still (P:=P) (o:=o) (env:=czc s) (m:=s.mem) (id:=id) λF w ρ Mine M a hm hrd ha=>by
       obtain⟨b,h1,h2⟩:=key F w ρ Mine M a hm hrd ha;rw[h2 hn]at h1;exact⟨_,h1,.ff⟩).to2
    ·cases h
   ·cases h
  ·rw[zM]at h;obtain⟨q,hq,he⟩:=h;cases he;exact(jzy (by rw[hop];exact hq) hob).to2
 ·rename_i t l c hop;split at h
  ·rw[zM]at h;obtain⟨q,hq,he⟩:=h;cases he;exact(Uzy hop hq hob).to2
  ·rw[zM]at h;obtain⟨q,hq,he⟩:=h;cases he;exact(Mzf hop hq hob).to2
 ·rename_i t x v hop;split at h
  ·rw[zM]at h;obtain⟨q,hq,he⟩:=h;cases he;exact(Rzm hop hq hob).to2
  ·split at h
   ·rw[zM]at h;obtain⟨q,hq,he⟩:=h;cases he;exact(az7p hop hq hob).to2
   ·rw[zM]at h;obtain⟨q,hq,he⟩:=h;cases he;exact(jzy (by rw[hop];exact hq) hob).to2
 ·rename_i t x hop;split at h
  ·rw[zM]at h;obtain⟨q,hq,he⟩:=h;cases he;exact(azba hop hq hob).to2
  ·rw[zM]at h;obtain⟨q,hq,he⟩:=h;cases he;exact(jzy (by rw[hop];exact hq) hob).to2
 ·rename_i t hop;split at h
  ·rw[zM]at h;obtain⟨q,hq,he⟩:=h;cases he;exact(az79 hop hq).to2
  ·split at h
   ·rw[zM]at h;obtain⟨q,hq,he⟩:=h;cases he;exact(az78 hop hq).to2
   ·rw[zM]at h;obtain⟨q,hq,he⟩:=h;cases he;exact(jzy (by rw[hop];exact hq) hob).to2
 ·rename_i t x lo hi mx hop;split at h
  ·rw[zM]at h;obtain⟨q,hq,he⟩:=h;cases he;exact(az7j hop hq hob).to2
  ·split at h
   ·rw[zM]at h;obtain⟨q,hq,he⟩:=h;cases he;exact(az7k hop hq hob).to2
   ·rw[zM]at h;obtain⟨q,hq,he⟩:=h;cases he;exact(jzy (by rw[hop];exact hq) hob).to2
 ·rename_i t n ps hop;split at h
  ·rw[zM]at h;obtain⟨q,hq,he⟩:=h;cases he;exact(Rzl hop hq).to2
  ·rw[zM]at h;obtain⟨q,hq,he⟩:=h;cases he;exact(jzy (by rw[hop];exact hq) hob).to2
 ·rw[zM]at h;obtain⟨q,hq,he⟩:=h;cases he;exact(jzy hq hob).to2
theorem Sound2.weaken {o:Oper}{env:zB->AVal}{m:Mem}{id:Nat}{out out':Out}(h:Sound2 P o env m id out)(hrd:out'.rd=out.rd)
 (hv:ASub out.val out'.val) (hw:out'.wr=out.wr\/∃j r r' l,out.wr=(j,r)::l/\out'.wr=(j,r')::l/\RSub r r'):Sound2 P o env m id out':=by
 intro F w ρ Mine M a h1 h2 h3 h4 h5 h6 next Q hn
 refine h F w ρ Mine M a h1 h2 h3 (hrd▸h4) h5 h6 next Q (λv w' hx=>hn v w' ?_)
 obtain⟨F',ρ',q1,q2,q3,q4⟩:=hx;refine⟨F',ρ',q1,q2,hv.rel F' w' ρ' v q3,?_⟩;rcases hw with hw|⟨j,r,r',l,e1,e2,hr⟩
 ·rw[hw];exact q4
 ·rw[e1]at q4;rw[e2];have hget:∀i x,Mem.get ((j,r')::l++M) i=some x->∃x0,Mem.get ((j,r)::l++M) i=some x0/\(RSub x0 x):=by
   intro i x hx;simp only[xm,Mem.get]at hx⊢;split at hx
   ·rename_i e;cases hx;exact⟨r,by rw[qc e],hr⟩
   ·rename_i e;exact⟨x,by rw[qb e];exact hx,⟨λ_ _ _ _ h=>⟨h,λ_ h=>h⟩⟩⟩
  refine⟨λi x hx=>?_,λi x b hx hb=>?_,λi i' x x' b hx hx' hb hb'=>?_⟩
  ·obtain⟨x0,g1,g2⟩:=hget i x hx;exact(g2.rel _ _ _ i (q4.ok i x0 g1)).1
  ·obtain⟨x0,g1,g2⟩:=hget i x hx;exact q4.mine i x0 b g1 ((g2.rel _ _ _ i (q4.ok i x0 g1)).2 b hb)
  ·obtain⟨x0,g1,g2⟩:=hget i x hx;obtain⟨x1,g3,g4⟩:=hget i' x' hx';exact q4.disj i i' x0 x1 b g1 g3 ((g2.rel _ _ _ i (q4.ok i x0 g1)).2 b hb) ((g4.rel _ _ _ i' (q4.ok i' x1 g3)).2 b hb')
theorem Jz7 {hint:Nat->Option Hint}{i:Nat}{o:Oper}{id:Nat}{s:St}{out:Out}{b:Bool}(h:fzy P hint i o id s=some (out,b))(hob:holds out.obl):Sound2 P o (czc s) s.mem id out:=by
 unfold fzy at h;split at h
 ·rename_i out0 b0 hs;split at h
  ·rename_i out1 hc;cases h;generalize cvOf (hint i)=c at hc hob;have refl:∀a:AVal,ASub a a:=λa=>⟨λ_ _ _ _ h=>h⟩
   cases c with
   |none=>
    simp only[Dzl,Option.some.injEq]at hc;subst hc;exact(pzn hs hob).weaken rfl (refl _) (.inl rfl)
   |val pre p q hh=>
    simp only[Pzp,holds,andO_iff,Kzq]at hob;obtain⟨o1,o2,o3⟩:=hob;simp only[Dzl]at hc;split at hc
    ·rename_i x hx;cases hc;rw[hx]at o2;simp only at o2;subst o2;refine(pzn hs o1).weaken rfl ?_ (.inl rfl);rw[hx];exact⟨λF w ρ v hv=>.pure ((hh o3).rel F w v hv.pure_inv)⟩
    ·rename_i x hx;cases hc;rw[hx]at o2;simp only at o2;subst o2;refine(pzn hs o1).weaken rfl ?_ (.inl rfl);rw[hx];exact⟨λF w ρ v hv=>by cases hv with|clip hv=>exact .clip ((hh o3).rel F w _ hv)⟩
    ·cases hc
   |res pre r r' hh=>
    simp only[Pzp,holds,andO_iff,Kzq]at hob;obtain⟨o1,o2,o3⟩:=hob;simp only[Dzl]at hc;split at hc
    ·rename_i j x l hx;cases hc;rw[hx]at o2;simp only at o2;subst o2;exact(pzn hs o1).weaken rfl (refl _) (.inr ⟨j,x,r',l,hx,rfl,hh o3⟩)
    ·cases hc
  ·cases h
 ·cases h
end Go.Abs
