/-
  SoundN (a part of a claim: our own text).
-/
import Derived.Test.YtkbjjlfpbebiaaaGreatDoorYKSoundM
namespace Go.Abs
variable {P:Program}
theorem jzf {f:FuncId}{vs:Array Value}{w:World}(h:Fzz P f):(callFunc f vs).run P w=.ok (.enter f vs) w:=by
 obtain⟨fn,h1,h2,h3⟩:=h
 simp only[callFunc,Sem.run_bind,run_program,Result.andThen_ok,h1,h2,h3,Bool.false_eq_true,if_false,Sem.run_pure]
theorem run_eql_slice_nil' (w:World)(t e:TypeId)(a:Option Addr)(l c:Nat)(h:P.underlying t=some (.slice e)):(binOp .eql t (.slice a l c) (.slice none 0 0)).run P w=.ok (.bool a.isNone) w:=by
 have hh:∀d:Nat,(Op.equalIn (d+1) t (.slice a l c) (.slice none 0 0)).run P w=.ok a.isNone w:=fun d=>by
  cases a<;>simp[Op.equalIn,run_underlying h]
 simp only[binOp]
 simp[Op.equal,Op.maxDepth,hh 9999]
theorem Kza {m:Mem}{is:List Nat}{j:Nat}(h:j∉is):(bz6 m is).get j=none:=by
 cases hg:(bz6 m is).get j with
 |none=>rfl
 |some r=>exact absurd (dzb hg).1 h
theorem Gz6 {C:Array Value->World->(Ending->World->Prop)->Prop}(mono:∀ {vs w R R'},C vs w R->(∀e w',R e w'->R' e w')->C vs w R'){o:Oper}{s:St}{id:Nat}{h:Hint}{l:List AVal}
 (hdis:((bzp s.mem h.args l).2.all fun j=>(Mem.ren (dza h.σ h.k id) h.m).all fun x=>x.1 !=j)=true) (hro:Cza h id=true)
 (h1:rzb (bzp s.mem h.args l).1 (AVal.renL (dza h.σ h.k id) h.args)) (h2:MSub s.mem (Mem.ren (dza h.σ h.k id) h.m))
 (h3:∀ (F:Cells) (w:World) (ρ:Env) (Mine:Nat->Prop) (vs:Array Value),MemOk F w ρ Mine h.m->Good F w Mine->szi F w ρ h.args vs->
  C vs w fun e w'=>∃v F' ρ',e=.returned v/\Step Mine F w F' w'/\czm h.k ρ ρ'/\ARel F' w' ρ' h.res v/\MemOk F' w' ρ' Mine h.m')
 {F:Cells} {w:World} {ρ:Env} {Mine:Nat->Prop} {M:Mem} {a:Act} (hm:MemOk F w ρ Mine M) (g:Good F w Mine) (fr:Fresh id M)
 (hrd:∀i∈(Mem.ren (dza h.σ h.k id) h.m).map (·.1)++(bzp s.mem h.args l).2,M.get i=s.mem.get i) {vs:Array Value} (hup:∀ (next:Act->World->Prop) (Q:Exit->Act->World->Prop),(C vs w fun e w'=>∃v,e=.returned v/\next (a.put o.dst v) w')->o.wpIn Fence.wide 0 P a w next Q)
 (hall:l.length=vs.toList.length/\∀ (j:Nat) (b:AVal) (v:Value),l[j]?=some b->vs.toList[j]?=some v->ARel F w ρ b v):
 Does P o a w fun v w'=>∃F' ρ',Step Mine F w F' w'/\czm id ρ ρ'/\ARel F' w' ρ' (AVal.ren (dza h.σ h.k id) h.res) v/\
  MemOk F' w' ρ' Mine ((Mem.ren (dza h.σ h.k id) h.m'++bz6 s.mem (bzp s.mem h.args l).2)++M):=by
 intro next Q hn
 generalize has:bzp s.mem h.args l=as at *
 have hrd1:∀i∈as.2,M.get i=s.mem.get i:=fun i hi=>hrd i (by simp[hi])
 have hrd2:∀y∈Mem.ren (dza h.σ h.k id) h.m,M.get y.1=s.mem.get y.1:=fun y hy=>hrd y.1 (by simp only[List.mem_append,List.mem_map];exact .inl ⟨y,hy,rfl⟩)
 obtain⟨st1,hm1⟩:=iz4 (m:=s.mem) hm g hrd1
 have hrel:=jzd (m:=s.mem) (js:=as.2) hm g hall.1 hall.2 (by rw[has];exact fun _ h=>h) (by rw[has];exact hrd1)
 rw[has]at hrel
 obtain⟨hl,hsub⟩:=lz1 (F:=czu F w ρ s.mem as.2) (w:=w) (ρ:=ρ) h1
 have hargs:szi (czu F w ρ s.mem as.2) w ρ (AVal.renL (dza h.σ h.k id) h.args) vs:=by
  refine⟨by rw[←hl,hrel.1];simp,fun j b v hb hv=>?_⟩
  obtain⟨a',ha',hv'⟩:=hsub j b hb
  exact hv' v (hrel.2 j a' v ha' (by rw[Array.getElem?_toList];exact hv))
 have fr1:Fresh id (bz6 s.mem as.2++M):=by
  refine⟨fun i hi=>?_,fun i j r hi hj=>?_⟩
  ·rw[Mem.get_append]
   cases hg:(bz6 s.mem as.2).get i with
   |none=>simpa using fr.none i hi
   |some r=>
    obtain⟨q1,r0,q2,_⟩:=dzb hg
    have:=fr.none i hi
    rw[hrd1 i q1,q2]at this;cases this
  ·rw[Mem.get_append]at hj
   cases hg:(bz6 s.mem as.2).get j with
   |none=>rw[hg]at hj;exact fr.has i j r hi (by simpa using hj)
   |some r'=>
    rw[hg]at hj
    simp at hj;subst hj
    obtain⟨q1,r0,q2,q3⟩:=dzb hg
    exact tze q3 i
 have hmem:∀y∈Mem.ren (dza h.σ h.k id) h.m,∃r0,(bz6 s.mem as.2++M).get y.1=some r0/\RSub r0 y.2:=by
  intro y hy
  obtain⟨r0,q1,q2⟩:=mz9 h2 (i:=y.1) (r:=y.2) hy
  refine⟨r0,?_,q2⟩
  have hnot:y.1∉as.2:=by
   intro hin
   have:=List.all_eq_true.1 (List.all_eq_true.1 hdis y.1 hin) y hy
   simp at this
  rw[Mem.get_append,Kza hnot]
  simp[hrd2 y hy,q1]
 have hcall:=Izl (C:=C) (fun h k=>mono h k) h3 (Mzn hro) hm1 (st1.good g) fr1 hmem hargs
 refine hup next Q (mono hcall ?_)
 rintro e w' ⟨v,F',ρ',rfl,q1,q2,q3,q4⟩
 exact⟨v,rfl,hn v w' ⟨F',ρ',st1.trans q1,q2,q3,by simpa[List.append_assoc]using q4⟩⟩
theorem Vzm {o:Oper}{f:FuncId}{vs:Array Value}{a:Act}{w:World}(hrun:(execOp a.eval o).run P w=.ok (.enter f vs) w)(next:Act->World->Prop)(Q:Exit->Act->World->Prop)
 (h:Calls P f vs w fun e w'=>∃v,e=.returned v/\next (a.put o.dst v) w'):o.wpIn Fence.wide 0 P a w next Q:=by
 refine xzl ?_
 unfold Oper.wp
 rw[hrun]
 refine h.mono ?_
 rintro e w' ⟨v,rfl,hn⟩
 exact hn
theorem Vzn {o:Oper}{l:Nat}{vs:Array Value}{a:Act}{w:World}(hrun:(execOp a.eval o).run P w=(Instr.yield l vs).run P w)(next:Act->World->Prop)(Q:Exit->Act->World->Prop)
 (h:YieldAt Fence.wide 0 P l vs w fun e w'=>∃v,e=.returned v/\next (a.put o.dst v) w'):o.wpIn Fence.wide 0 P a w next Q:=by
 obtain⟨fn,tmps,assign,body,h1,h2⟩:=h
 refine⟨fun _ _=>trivial,?_⟩
 show o.uponIn Fence.wide 0 P a next Q ((execOp a.eval o).run P w)
 rw[hrun,h1,Oper.uponIn_round]
 refine⟨(fun h=>by cases h),h2.mono ?_⟩
 rintro e w' ⟨v,rfl,hn⟩
 exact hn
theorem Kzh {l:Nat}{vs:Array Value}{w:World}{R R':Ending->World->Prop}(h:YieldAt Fence.wide 0 P l vs w R)(hr:∀e w',R e w'->R' e w'):YieldAt Fence.wide 0 P l vs w R':=by
 obtain⟨fn,tmps,assign,body,h1,h2⟩:=h
 exact⟨fn,tmps,assign,body,h1,h2.mono hr⟩
theorem Sza {a b:AVal}(h:Uze a b=true):a=b:=by
 unfold Uze at h
 split at h
 ·simp at h;rw[h]
 ·simp at h;rw[h.1,h.2]
 ·cases h
theorem Kz8:∀ {l l':List AVal},Mzt l l'=true->l=l'
 |[],[],_=>rfl
 |a::l,b::l',h=>by
  simp only[Mzt,Bool.and_eq_true]at h
  rw[Sza h.1,Kz8 h.2]
 |[],_::_,h=>by cases h
 |_::_,[],h=>by cases h
theorem pzu {m mr M S:Mem}(hrd:∀y∈mr,M.get y.1=m.get y.1)(hS:∀i cs,m.get i=some (.box cs)->S.get i=none):∀ (L:Mem) (i:Nat),Mem.get (gz2 m mr L++(S++M)) i=Mem.get (L++(S++M)) i
 |[],_=>rfl
 |(k,r)::l,i=>by
  have keep:∀r',Mem.get (((k,r')::gz2 m mr l)++(S++M)) i=Mem.get (((k,r')::l)++(S++M)) i:=fun r'=>by
   have:=pzu hrd hS l i
   simp only[List.cons_append,Mem.get]
   split
   ·rfl
   ·exact this
  unfold gz2
  split
  ·rename_i cs ds hm
   split
   ·rename_i hc
    simp only[Bool.and_eq_true,List.any_eq_true,List.all_eq_true,beq_iff_eq,bne_iff_ne]at hc
    obtain⟨⟨h1,y,h2,h3⟩,h4⟩:=hc
    rw[pzu hrd hS l i]
    simp only[List.cons_append,Mem.get]
    split
    ·rename_i e
     subst e
     have hl:∀q:Mem,(∀x∈q,x.1≠k)->Mem.get q k=none:=by
      intro q
      induction q with
      |nil=>intro _;rfl
      |cons x q ih=>
       intro hq
       rw[Mem.get,if_neg (hq x (List.mem_cons_self ..))]
       exact ih fun z hz=>hq z (List.mem_cons_of_mem _ hz)
     rw[Mem.get_append,hl l h4,Option.none_or,Mem.get_append,hS k ds hm,Option.none_or]
     have:=hrd y h2
     rw[h3,hm]at this
     rw[this,Kz8 h1]
    ·rfl
   ·exact keep _
  ·exact keep _
theorem MemOk.sameGet {F:Cells}{w:World}{ρ:Env}{Mine:Nat->Prop}{M M':Mem}(h:MemOk F w ρ Mine M)(he:∀i,M'.get i=M.get i):MemOk F w ρ Mine M':=
 ⟨fun i r hi=>h.ok i r (by rw[←he];exact hi),fun i r b hi=>h.mine i r b (by rw[←he];exact hi),fun i i' r r' b hi hi'=>h.disj i i' r r' b (by rw[←he];exact hi) (by rw[←he];exact hi')⟩
theorem Lzw {m:Mem}{is:List Nat}{i:Nat}{cs:List AVal}(h:m.get i=some (.box cs)):(bz6 m is).get i=none:=by
 cases hg:(bz6 m is).get i with
 |none=>rfl
 |some r=>
  obtain⟨_,r0,q2,q3⟩:=dzb hg
  rw[h]at q2
  cases q2
  cases q3
theorem Bz1 {o:Oper}{a:Act}{w:World}{F:Cells}{ρ:Env}{Mine:Nat->Prop}{M m mr L:Mem}{is js:List Nat}{id:Nat}{val:AVal}
 (hrd:∀i∈mr.map (·.1)++is++js,M.get i=m.get i)
 (h:Does P o a w fun v w'=>∃F' ρ',Step Mine F w F' w'/\czm id ρ ρ'/\ARel F' w' ρ' val v/\MemOk F' w' ρ' Mine ((L++bz6 m is)++M)):
 Does P o a w fun v w'=>∃F' ρ',Step Mine F w F' w'/\czm id ρ ρ'/\ARel F' w' ρ' val v/\MemOk F' w' ρ' Mine ((gz2 m mr L++bz6 m is)++M):=by
 intro next Q hn
 refine h next Q fun v w' ⟨F',ρ',h1,h2,h3,h4⟩=>hn v w' ⟨F',ρ',h1,h2,h3,h4.sameGet fun i=>?_⟩
 rw[List.append_assoc,List.append_assoc]
 exact pzu (fun y hy=>hrd y.1 (by simp only[List.mem_append,List.mem_map];exact .inl (.inl ⟨y,hy,rfl⟩))) (fun i cs hi=>Lzw hi) L i
theorem Vzd {o:Oper}{c:Call}{x:Operand}{s:St}{id:Nat}{f:FuncId}{first caps:List AVal}{h:Hint}(ho:o.op=.call c)(hc:c.callee=.value x)(hx:bzx s x=.func f first caps)
 (hdis:((bzp s.mem h.args (czg s.mem h.args (first++c.args.toList.map (bzx s)++caps)).1).2.all fun j=>(Mem.ren (dza h.σ h.k id) h.m).all fun x=>x.1 !=j)=true) (hro:Cza h id=true)
 (hob:rzb (bzp s.mem h.args (czg s.mem h.args (first++c.args.toList.map (bzx s)++caps)).1).1 (AVal.renL (dza h.σ h.k id) h.args)/\MSub s.mem (Mem.ren (dza h.σ h.k id) h.m)/\Spec P f h.k h.args h.m h.res h.m') {ob:Option Prop}:
 Sound2 P o (bzx s) s.mem id ⟨AVal.ren (dza h.σ h.k id) h.res,(Mem.ren (dza h.σ h.k id) h.m).map (·.1)++(bzp s.mem h.args (czg s.mem h.args (first++c.args.toList.map (bzx s)++caps)).1).2++(czg s.mem h.args (first++c.args.toList.map (bzx s)++caps)).2,
  gz2 s.mem (Mem.ren (dza h.σ h.k id) h.m) (Mem.ren (dza h.σ h.k id) h.m')++bz6 s.mem (bzp s.mem h.args (czg s.mem h.args (first++c.args.toList.map (bzx s)++caps)).1).2,ob⟩:=by
 obtain⟨h1,h2,h3⟩:=hob
 intro F w ρ Mine M a hm g fr hrd hfe ha
 have hopx:x∈o.op.operands:=by simp[ho,Op.operands,Call.operands,hc]
 have hopa:∀y∈c.args.toList,y∈o.op.operands:=fun y hy=>by simp[ho,Op.operands,Call.operands,hc];exact .inr (by simpa using hy)
 have hfx:=hx▸ha x hopx
 generalize hu:a.eval x=u at hfx
 cases hfx with
 |func g1 g1' g2 g2'=>
  rename_i v1 v2
  have hrun:(execOp a.eval o).run P w=.ok (.enter f (v1++c.args.map a.eval++v2)) w:=by
   simp only[execOp,ho,resolve,hc,hu,Deferred.ofValue,Sem.run_bind,Sem.run_pure,Result.andThen_ok,invoke,jzf h3.callable]
  have hall:(first++c.args.toList.map (bzx s)++caps).length=(v1++c.args.map a.eval++v2).toList.length/\
   ∀ (j:Nat) (b:AVal) (v:Value),(first++c.args.toList.map (bzx s)++caps)[j]?=some b->(v1++c.args.map a.eval++v2).toList[j]?=some v->ARel F w ρ b v:=by
   refine⟨by simp[g1,g2],fun j b v hb hv=>?_⟩
   simp only[Array.toList_append,Array.toList_map]at hv
   have hmid:=uzy (env:=bzx s) c.args.toList (F:=F) (w:=w) (ρ:=ρ) (a:=a) (fun y hy=>ha y (hopa y hy))
   rw[List.append_assoc]at hb hv
   by_cases hj1:j<first.length
   ·rw[List.getElem?_append_left hj1]at hb
    rw[List.getElem?_append_left (by simp;omega)]at hv
    exact g1' j b v hb (by simpa using hv)
   ·rw[List.getElem?_append_right (by omega)]at hb
    rw[List.getElem?_append_right (by simp;omega)]at hv
    rw[Array.length_toList,←g1]at hv
    by_cases hj2:j-first.length<(c.args.toList.map (bzx s)).length
    ·rw[List.getElem?_append_left hj2]at hb
     rw[List.getElem?_append_left (by rw[←hmid.1];exact hj2)]at hv
     exact hmid.2 _ b v hb hv
    ·rw[List.getElem?_append_right (by omega)]at hb
     rw[List.getElem?_append_right (by rw[←hmid.1];omega),←hmid.1]at hv
     exact g2' _ b v hb (by simpa using hv)
  exact Bz1 hrd (Gz6 (C:=Calls P f) (fun h k=>h.mono k) hdis hro h1 h2 h3.calls hm g fr (fun i hi=>hrd i (List.mem_append.2 (.inl hi))) (Vzm hrun) (ozt hm hall.1 hall.2 (fun i hi=>hrd i (List.mem_append.2 (.inr hi)))))
theorem Uzd {o:Oper}{c:Call}{x:Operand}{s:St}{id:Nat}{l:Nat}{h:Hint}(ho:o.op=.call c)(hc:c.callee=.value x)(hx:bzx s x=.yld l)
 (hdis:((bzp s.mem h.args (czg s.mem h.args (c.args.toList.map (bzx s))).1).2.all fun j=>(Mem.ren (dza h.σ h.k id) h.m).all fun x=>x.1 !=j)=true) (hro:Cza h id=true)
 (hob:rzb (bzp s.mem h.args (czg s.mem h.args (c.args.toList.map (bzx s))).1).1 (AVal.renL (dza h.σ h.k id) h.args)/\MSub s.mem (Mem.ren (dza h.σ h.k id) h.m)/\YSpec P l h.k h.args h.m h.res h.m') {ob:Option Prop}:
 Sound2 P o (bzx s) s.mem id ⟨AVal.ren (dza h.σ h.k id) h.res,(Mem.ren (dza h.σ h.k id) h.m).map (·.1)++(bzp s.mem h.args (czg s.mem h.args (c.args.toList.map (bzx s))).1).2++(czg s.mem h.args (c.args.toList.map (bzx s))).2,
  gz2 s.mem (Mem.ren (dza h.σ h.k id) h.m) (Mem.ren (dza h.σ h.k id) h.m')++bz6 s.mem (bzp s.mem h.args (czg s.mem h.args (c.args.toList.map (bzx s))).1).2,ob⟩:=by
 obtain⟨h1,h2,h3⟩:=hob
 intro F w ρ Mine M a hm g fr hrd hfe ha
 have hopx:x∈o.op.operands:=by simp[ho,Op.operands,Call.operands,hc]
 have hopa:∀y∈c.args.toList,y∈o.op.operands:=fun y hy=>by simp[ho,Op.operands,Call.operands,hc];exact .inr (by simpa using hy)
 have hfx:=hx▸ha x hopx
 generalize hu:a.eval x=u at hfx
 cases hfx with
 |yld=>
  have hrun:(execOp a.eval o).run P w=(Instr.yield l (c.args.map a.eval)).run P w:=by
   simp[execOp,ho,resolve,hc,hu,Deferred.ofValue,invoke]
  have hall:(c.args.toList.map (bzx s)).length=(c.args.map a.eval).toList.length/\
   ∀ (j:Nat) (b:AVal) (v:Value),(c.args.toList.map (bzx s))[j]?=some b->(c.args.map a.eval).toList[j]?=some v->ARel F w ρ b v:=by
   have hmid:=uzy (env:=bzx s) c.args.toList (F:=F) (w:=w) (ρ:=ρ) (a:=a) (fun y hy=>ha y (hopa y hy))
   refine⟨by simp,fun j b v hb hv=>hmid.2 j b v hb (by simpa using hv)⟩
  exact Bz1 hrd (Gz6 (C:=YieldAt Fence.wide 0 P l) (fun h k=>Kzh h k) hdis hro h1 h2 h3.calls hm g fr (fun i hi=>hrd i (List.mem_append.2 (.inl hi))) (Vzn hrun) (ozt hm hall.1 hall.2 (fun i hi=>hrd i (List.mem_append.2 (.inr hi)))))
theorem Nzg {t:TypeId}{name:String}{f:FuncId}(h:uzb P t name=some f)(n:Nat)(v:Value)(w:World):(method (n+1) t v name).run P w=.ok (f,v) w:=by
 unfold uzb at h
 split at h
 ·rename_i i hi
  split at h
  ·rename_i m hm
   split at h
   ·rename_i hp
    have hpl:m.path.toList=[]:=by
     have:m.path=#[]:=by simpa using hp
     rw[this]
    split at h
    ·rename_i f' e hf hu
     cases h
     simp only[method,typeInfo,Sem.run_bind,run_program,Result.andThen_ok,hi,Sem.run_pure,hm,hpl,follow,hf,receiverAt,run_underlying hu,Place.get]
    ·cases h
    ·rename_i f' d hd hf hu
     cases h
     simp only[method,typeInfo,Sem.run_bind,run_program,Result.andThen_ok,hi,Sem.run_pure,hm,hpl,follow,hf,receiverAt,run_underlying hu]
     cases d<;>first|(simp only[Place.get,Sem.run_pure,Result.andThen_ok];done)|(exact absurd rfl (hd _))
    ·cases h
   ·cases h
  ·cases h
 ·cases h
theorem Rzx {o:Oper}{c:Call}{x:Operand}{name:String}{s:St}{id:Nat}{t:TypeId}{r:AVal}{f:FuncId}{h:Hint}(ho:o.op=.call c)(hc:c.callee=.invoke x name)(hx:bzx s x=.iface t r)(hf:uzb P t name=some f)
 (hdis:((bzp s.mem h.args (czg s.mem h.args (r::c.args.toList.map (bzx s))).1).2.all fun j=>(Mem.ren (dza h.σ h.k id) h.m).all fun x=>x.1 !=j)=true) (hro:Cza h id=true)
 (hob:rzb (bzp s.mem h.args (czg s.mem h.args (r::c.args.toList.map (bzx s))).1).1 (AVal.renL (dza h.σ h.k id) h.args)/\MSub s.mem (Mem.ren (dza h.σ h.k id) h.m)/\Spec P f h.k h.args h.m h.res h.m') {ob:Option Prop}:
 Sound2 P o (bzx s) s.mem id ⟨AVal.ren (dza h.σ h.k id) h.res,(Mem.ren (dza h.σ h.k id) h.m).map (·.1)++(bzp s.mem h.args (czg s.mem h.args (r::c.args.toList.map (bzx s))).1).2++(czg s.mem h.args (r::c.args.toList.map (bzx s))).2,
  gz2 s.mem (Mem.ren (dza h.σ h.k id) h.m) (Mem.ren (dza h.σ h.k id) h.m')++bz6 s.mem (bzp s.mem h.args (czg s.mem h.args (r::c.args.toList.map (bzx s))).1).2,ob⟩:=by
 obtain⟨h1,h2,h3⟩:=hob
 intro F w ρ Mine M a hm g fr hrd hfe ha
 have hopx:x∈o.op.operands:=by simp[ho,Op.operands,Call.operands,hc]
 have hopa:∀y∈c.args.toList,y∈o.op.operands:=fun y hy=>by simp[ho,Op.operands,Call.operands,hc];exact .inr (by simpa using hy)
 have hfx:=hx▸ha x hopx
 generalize hu:a.eval x=u at hfx
 cases hfx with
 |iface hr=>
  rename_i v
  have hrun:(execOp a.eval o).run P w=.ok (.enter f (#[v]++c.args.map a.eval)) w:=by
   have e1:(#[Value.iface t v]++c.args.map a.eval)[0]?=some (.iface t v):=by rw[Array.getElem?_append_left (by simp)];rfl
   have e2:(#[Value.iface t v]++c.args.map a.eval).extract 1 (#[Value.iface t v]++c.args.map a.eval).size=c.args.map a.eval:=by
    apply Array.ext'
    simp
    rw[List.take_of_length_le (by simp)]
   simp only[execOp,ho,resolve,hc,hu,Sem.run_bind,Sem.run_pure,Result.andThen_ok,invoke,e1,e2,callMethod,run_program,Made.depth,Nzg hf,jzf h3.callable]
  suffices hall:(r::c.args.toList.map (bzx s)).length=(#[v]++c.args.map a.eval).toList.length/\∀ (j:Nat) (b:AVal) (u:Value),(r::c.args.toList.map (bzx s))[j]?=some b->(#[v]++c.args.map a.eval).toList[j]?=some u->ARel F w ρ b u from
   Bz1 hrd (Gz6 (C:=Calls P f) (fun h k=>h.mono k) hdis hro h1 h2 h3.calls hm g fr (fun i hi=>hrd i (List.mem_append.2 (.inl hi))) (Vzm hrun) (ozt hm hall.1 hall.2 (fun i hi=>hrd i (List.mem_append.2 (.inr hi)))))
  refine⟨by simp,fun j b u hb hu'=>?_⟩
  have hmid:=uzy (env:=bzx s) c.args.toList (F:=F) (w:=w) (ρ:=ρ) (a:=a) (fun y hy=>ha y (hopa y hy))
  cases j with
  |zero=>simp at hb hu';subst hb;subst hu';exact hr
  |succ j=>exact hmid.2 j b u (by simpa using hb) (by simpa using hu')
theorem Rzb {F:Cells}{w:World}{ρ:Env}{Mine:Nat->Prop}{M m:Mem}(hm:MemOk F w ρ Mine M){a:AVal}{v:Value}{n:Nat}{is:List Nat}(hrd:∀i∈is,M.get i=m.get i)
 (h:lenV m a=some (n,is)) (ha:ARel F w ρ a v):∃b l c,v=.slice b l c/\(0<n->b.isNone=false):=by
 unfold lenV at h
 split at h
 ·rename_i j
  split at h
  ·rename_i sz n' f k e hk
   cases h
   rcases hm.ok j _ ((hrd j (by simp)).trans hk)with⟨_,⟨hnone,hn0⟩|⟨b',cap',c,hv',_⟩⟩
   ·cases ha with
    |vec hh=>rw[hh]at hnone;cases hnone
    |vnil hh=>exact⟨_,_,_,rfl,fun h=>by omega⟩
   ·cases ha with
    |vnil hh=>rw[hh]at hv';cases hv'
    |vec hh=>exact⟨_,_,_,rfl,fun _=>rfl⟩
  ·cases h
 ·rename_i j _ _ _
  split at h
  ·rename_i sz n' f k e hk
   cases h
   cases ha with
   |view h1 h2 h3=>exact⟨_,_,_,rfl,fun _=>rfl⟩
   |viewN h1 h2=>
    rcases hm.ok j _ ((hrd j (by simp)).trans hk)with⟨_,⟨hnone,hn0⟩|⟨b',cap',c,hv',_⟩⟩
    ·exact⟨_,_,_,rfl,fun h=>by omega⟩
    ·rw[h1]at hv';cases hv'
  ·cases h
 ·cases h
theorem kzu {hint:Nat->Option Hint}{i:Nat}{o:Oper}{id:Nat}{s:St}{out:Out}{b:Bool}(h:hz2 P hint i o id s=some (out,b))(hob:holds out.obl):Sound2 P o (bzx s) s.mem id out:=by
 unfold hz2 at h
 split at h
 ·rename_i c hop
  split at h
  ·rename_i bb hb
   split at h
   ·rename_i hmk
    simp only[Bool.and_eq_true]at hmk
    rw[Option.map_eq_some_iff]at h
    obtain⟨q,hq,he⟩:=h
    cases he
    have hbb:bb=.append:=by
     have:=hmk.2
     cases bb<;>first|rfl|(simp[Tzl]at this)
    subst hbb
    obtain⟨callee,args,ts⟩:=c
    simp only at hb
    subst hb
    unfold Szr at hq
    simp only at hq
    split at hq
    ·rename_i s1 x1 hx
     have:args=#[s1,x1]:=by rw[←Array.toArray_toList (xs:=args),hx]
     subst this
     split at hq
     ·rename_i hsz
      have hts:∀t,ts[0]?=some t->ts[1]?=some t->ts=#[t,t]:=fun t h0 h1=>by
       refine Array.ext (by simpa using hsz) fun i hi _=>?_
       have hi2:i<2:=by omega
       match i,hi2 with
       |0,_=>simpa[Array.getElem?_eq_getElem (show 0<ts.size by omega)]using h0
       |1,_=>simpa[Array.getElem?_eq_getElem (show 1<ts.size by omega)]using h1
      exact(Pzk hop hts hq hob).to2
     ·cases hq
    ·cases hq
   ·rw[Option.map_eq_some_iff]at h
    obtain⟨q,hq,he⟩:=h
    cases he
    refine(hz6 (o:=o) ?_ hob).to2
    rw[hop]
    simp only[evOp,hb]
    exact hq
  ·rename_i x hx
   split at h
   ·rename_i f first caps hh hfx hhint
    simp only at h
    split at h
    ·rename_i hc
     simp only[Bool.and_eq_true]at hc
     cases h
     exact Vzd hop hx hfx hc.1 hc.2 hob
    ·cases h
   ·rename_i l hh hfx hhint
    simp only at h
    split at h
    ·rename_i hc
     simp only[Bool.and_eq_true]at hc
     cases h
     exact Uzd hop hx hfx hc.1 hc.2 hob
    ·cases h
   ·cases h
  ·rename_i x name hx
   split at h
   ·rename_i t r hh hfx hhint
    split at h
    ·rename_i f hf
     simp only at h
     split at h
     ·rename_i hc
      simp only[Bool.and_eq_true]at hc
      cases h
      exact Rzx hop hx hfx hf hc.1 hc.2 hob
     ·cases h
    ·cases h
   ·cases h
 ·rename_i x hop
  split at h
  ·rename_i j hh hx hhint
   split at h
   ·rename_i str pos hj
    split at h
    ·cases h;exact(Lzs hop hx hj hob).to2
    ·cases h;exact(Lzt hop hx hj hob).to2
   ·cases h
  ·cases h
 ·rename_i op t x y ty hop
  split at h
  ·rename_i hnt
   split at h
   ·rename_i sz n f e hx hu
    have hy:op=.eql/\y=.const (.slice none 0 0):=by
     unfold Hze at hnt
     split at hnt
     ·exact⟨rfl,rfl⟩
     ·cases hnt
    obtain⟨rfl,rfl⟩:=hy
    have run:∀ {a:Act} {w:World} {b:Option Addr} {l c:Nat},a.eval x=.slice b l c->Ran P o a w (.bool b.isNone) w:=by
     intro a w b l c hv
     have h1:(eqGuard .eql t x (.const (.slice none 0 0)) (.slice b l c) (.slice none 0 0)).run P w=.ok () w:=by
      cases b<;>simp[eqGuard]
     have h2:a.eval (.const (.slice none 0 0))=.slice none 0 0:=rfl
     exact .value (by simp only[execOp,hop,Sem.run_bind,hv,h2,h1,Result.andThen_ok,run_eql_slice_nil' w t e b l c hu,Sem.run_pure])
    split at h
    ·cases h
     refine(Sound1.still (P:=P) (o:=o) (env:=bzx s) (m:=s.mem) (id:=id) fun F w ρ Mine M a hm hrd ha=>?_).to2
     have h1:=(hx▸ha x (by simp[hop,Op.operands])).pure_inv
     rcases h1.lst_inv with⟨hv,_⟩|⟨_,_,hv,_,_⟩|⟨b,off,cap,c,hv,_⟩
     ·exact⟨_,run hv,.anyb⟩
     ·exact⟨_,run hv,.anyb⟩
     ·exact⟨_,run hv,.anyb⟩
    ·cases h
     refine(Sound1.still (P:=P) (o:=o) (env:=bzx s) (m:=s.mem) (id:=id) fun F w ρ Mine M a hm hrd ha=>?_).to2
     have hn:0<n:=hob
     have h1:=(hx▸ha x (by simp[hop,Op.operands])).pure_inv
     rcases h1.lst_inv with⟨hv,h0⟩|⟨_,_,hv,h0,_⟩|⟨b,off,cap,c,hv,_⟩
     ·omega
     ·omega
     ·exact⟨_,run hv,.ff⟩
   ·rename_i e hu _
    have hy:op=.eql/\y=.const (.slice none 0 0):=by
     unfold Hze at hnt
     split at hnt
     ·exact⟨rfl,rfl⟩
     ·cases hnt
    obtain⟨rfl,rfl⟩:=hy
    split at h
    ·rename_i n is hl
     have key:∀ (F:Cells) (w:World) (ρ:Env) (Mine:Nat->Prop) (M:Mem) (a:Act),MemOk F w ρ Mine M->(∀i∈is,M.get i=s.mem.get i)->
      (∀x∈o.op.operands,ARel F w ρ (bzx s x) (a.eval x))->∃b,Ran P o a w (.bool b) w/\(0<n->b=false):=by
      intro F w ρ Mine M a hm hrd ha
      obtain⟨b,l,c,hv,hb⟩:=Rzb hm hrd hl (ha x (by simp[hop,Op.operands]))
      refine⟨b.isNone,?_,fun h0=>by rw[hb h0]⟩
      have h1:(eqGuard .eql t x (.const (.slice none 0 0)) (.slice b l c) (.slice none 0 0)).run P w=.ok () w:=by
       cases b<;>simp[eqGuard]
      have h2:a.eval (.const (.slice none 0 0))=.slice none 0 0:=rfl
      exact .value (by simp only[execOp,hop,Sem.run_bind,hv,h2,h1,Result.andThen_ok,run_eql_slice_nil' w t e b l c hu,Sem.run_pure])
     split at h
     ·cases h
      exact(Sound1.still (P:=P) (o:=o) (env:=bzx s) (m:=s.mem) (id:=id) fun F w ρ Mine M a hm hrd ha=>by
       obtain⟨b,h1,_⟩:=key F w ρ Mine M a hm hrd ha
       exact⟨_,h1,.anyb⟩).to2
     ·cases h
      have hn:0<n:=hob
      exact(Sound1.still (P:=P) (o:=o) (env:=bzx s) (m:=s.mem) (id:=id) fun F w ρ Mine M a hm hrd ha=>by
       obtain⟨b,h1,h2⟩:=key F w ρ Mine M a hm hrd ha
       rw[h2 hn]at h1
       exact⟨_,h1,.ff⟩).to2
    ·cases h
   ·cases h
  ·rw[Option.map_eq_some_iff]at h
   obtain⟨q,hq,he⟩:=h
   cases he
   exact(hz6 (by rw[hop];exact hq) hob).to2
 ·rename_i t l c hop
  split at h
  ·rw[Option.map_eq_some_iff]at h
   obtain⟨q,hq,he⟩:=h
   cases he
   exact(Kz7 hop hq hob).to2
  ·rw[Option.map_eq_some_iff]at h
   obtain⟨q,hq,he⟩:=h
   cases he
   exact(Czl hop hq hob).to2
 ·rename_i t x v hop
  split at h
  ·rw[Option.map_eq_some_iff]at h
   obtain⟨q,hq,he⟩:=h
   cases he
   exact(Hzs hop hq hob).to2
  ·split at h
   ·rw[Option.map_eq_some_iff]at h
    obtain⟨q,hq,he⟩:=h
    cases he
    exact(Sz9 hop hq hob).to2
   ·rw[Option.map_eq_some_iff]at h
    obtain⟨q,hq,he⟩:=h
    cases he
    exact(hz6 (by rw[hop];exact hq) hob).to2
 ·rename_i t x hop
  split at h
  ·rw[Option.map_eq_some_iff]at h
   obtain⟨q,hq,he⟩:=h
   cases he
   exact(Uz9 hop hq hob).to2
  ·rw[Option.map_eq_some_iff]at h
   obtain⟨q,hq,he⟩:=h
   cases he
   exact(hz6 (by rw[hop];exact hq) hob).to2
 ·rename_i t hop
  split at h
  ·rw[Option.map_eq_some_iff]at h
   obtain⟨q,hq,he⟩:=h
   cases he
   exact(Rzt hop hq).to2
  ·split at h
   ·rw[Option.map_eq_some_iff]at h
    obtain⟨q,hq,he⟩:=h
    cases he
    exact(Rzs hop hq).to2
   ·rw[Option.map_eq_some_iff]at h
    obtain⟨q,hq,he⟩:=h
    cases he
    exact(hz6 (by rw[hop];exact hq) hob).to2
 ·rename_i t x lo hi mx hop
  split at h
  ·rw[Option.map_eq_some_iff]at h
   obtain⟨q,hq,he⟩:=h
   cases he
   exact(Sz3 hop hq hob).to2
  ·split at h
   ·rw[Option.map_eq_some_iff]at h
    obtain⟨q,hq,he⟩:=h
    cases he
    exact(Sz4 hop hq hob).to2
   ·rw[Option.map_eq_some_iff]at h
    obtain⟨q,hq,he⟩:=h
    cases he
    exact(hz6 (by rw[hop];exact hq) hob).to2
 ·rename_i t n ps hop
  split at h
  ·rw[Option.map_eq_some_iff]at h
   obtain⟨q,hq,he⟩:=h
   cases he
   exact(Hzr hop hq).to2
  ·rw[Option.map_eq_some_iff]at h
   obtain⟨q,hq,he⟩:=h
   cases he
   exact(hz6 (by rw[hop];exact hq) hob).to2
 ·rw[Option.map_eq_some_iff]at h
  obtain⟨q,hq,he⟩:=h
  cases he
  exact(hz6 hq hob).to2
theorem Sound2.weaken {o:Oper}{env:Operand->AVal}{m:Mem}{id:Nat}{out out':Out}(h:Sound2 P o env m id out)(hrd:out'.rd=out.rd)
 (hv:ASub out.val out'.val) (hw:out'.wr=out.wr\/∃j r r' l,out.wr=(j,r)::l/\out'.wr=(j,r')::l/\RSub r r'):Sound2 P o env m id out':=by
 intro F w ρ Mine M a h1 h2 h3 h4 h5 h6 next Q hn
 refine h F w ρ Mine M a h1 h2 h3 (hrd▸h4) h5 h6 next Q (fun v w' hx=>hn v w' ?_)
 obtain⟨F',ρ',q1,q2,q3,q4⟩:=hx
 refine⟨F',ρ',q1,q2,hv.rel F' w' ρ' v q3,?_⟩
 rcases hw with hw|⟨j,r,r',l,e1,e2,hr⟩
 ·rw[hw];exact q4
 ·rw[e1]at q4
  rw[e2]
  have hget:∀i x,Mem.get ((j,r')::l++M) i=some x->∃x0,Mem.get ((j,r)::l++M) i=some x0/\(RSub x0 x):=by
   intro i x hx
   simp only[List.cons_append,Mem.get]at hx⊢
   split at hx
   ·rename_i e;cases hx;exact⟨r,by rw[if_pos e],hr⟩
   ·rename_i e;exact⟨x,by rw[if_neg e];exact hx,⟨fun _ _ _ _ h=>⟨h,fun _ h=>h⟩⟩⟩
  refine⟨fun i x hx=>?_,fun i x b hx hb=>?_,fun i i' x x' b hx hx' hb hb'=>?_⟩
  ·obtain⟨x0,g1,g2⟩:=hget i x hx
   exact(g2.rel _ _ _ i (q4.ok i x0 g1)).1
  ·obtain⟨x0,g1,g2⟩:=hget i x hx
   exact q4.mine i x0 b g1 ((g2.rel _ _ _ i (q4.ok i x0 g1)).2 b hb)
  ·obtain⟨x0,g1,g2⟩:=hget i x hx
   obtain⟨x1,g3,g4⟩:=hget i' x' hx'
   exact q4.disj i i' x0 x1 b g1 g3 ((g2.rel _ _ _ i (q4.ok i x0 g1)).2 b hb) ((g4.rel _ _ _ i' (q4.ok i' x1 g3)).2 b hb')
theorem yz7 {hint:Nat->Option Hint}{i:Nat}{o:Oper}{id:Nat}{s:St}{out:Out}{b:Bool}(h:ezl P hint i o id s=some (out,b))(hob:holds out.obl):Sound2 P o (bzx s) s.mem id out:=by
 unfold ezl at h
 split at h
 ·rename_i out0 b0 hs
  split at h
  ·rename_i out1 hc
   cases h
   generalize cvOf (hint i)=c at hc hob
   have refl:∀a:AVal,ASub a a:=fun a=>⟨fun _ _ _ _ h=>h⟩
   cases c with
   |none=>
    simp only[szo,Option.some.injEq]at hc
    subst hc
    exact(kzu hs hob).weaken rfl (refl _) (.inl rfl)
   |val pre p q hh=>
    simp only[Gza,holds,andO_iff,Azz]at hob
    obtain⟨o1,o2,o3⟩:=hob
    simp only[szo]at hc
    split at hc
    ·rename_i x hx
     cases hc
     rw[hx]at o2
     simp only at o2
     subst o2
     refine(kzu hs o1).weaken rfl ?_ (.inl rfl)
     rw[hx]
     exact⟨fun F w ρ v hv=>.pure ((hh o3).rel F w v hv.pure_inv)⟩
    ·rename_i x hx
     cases hc
     rw[hx]at o2
     simp only at o2
     subst o2
     refine(kzu hs o1).weaken rfl ?_ (.inl rfl)
     rw[hx]
     exact⟨fun F w ρ v hv=>by cases hv with|clip hv=>exact .clip ((hh o3).rel F w _ hv)⟩
    ·cases hc
   |res pre r r' hh=>
    simp only[Gza,holds,andO_iff,Azz]at hob
    obtain⟨o1,o2,o3⟩:=hob
    simp only[szo]at hc
    split at hc
    ·rename_i j x l hx
     cases hc
     rw[hx]at o2
     simp only at o2
     subst o2
     exact(kzu hs o1).weaken rfl (refl _) (.inr ⟨j,x,r',l,hx,rfl,hh o3⟩)
    ·cases hc
  ·cases h
 ·cases h
end Go.Abs
