/-
  SoundK (a part of a claim: our own text).
-/
import Derived.Test.YtfodaccgmcljoaaGreatYDSoundT
import Derived.Laws.CopyRow
namespace Go.Abs
variable {P:Program} {o:Oper} {env:Operand->AVal} {m:Mem} {id:Nat}
theorem Zza {t:TypeId}{x y:Operand}{out:Out}(ho:o.op=.store t x y)(h:Pzk P t (env x) (env y) m=some out)(hob:holds out.obl):Sound1 P o env m id out:=by cases (show none=some _ from h)
theorem Oz9 {t:TypeId}{len:Nat}{parts:Array (Nat×Operand)}{out:Out}(ho:o.op=.buildSlice t len parts)(h:Cz2 P t len id env m parts.toList=some out):Sound1 P o env m id out:=by cases (show none=some _ from h)
theorem az13 {e:TypeId}{k:Nat}{out:Out}(ho:o.op=.alloc e)(h:Uz6 P k e id=some out):Sound1 P o env m id out:=by cases (show none=some _ from h)
variable {P:Program} {o:Oper} {env:Operand->AVal} {m:Mem} {id:Nat}
theorem az1b {t:TypeId}{x:Operand}{lo hi mx:Option Operand}{out:Out}(ho:o.op=.slice t x lo hi mx)
 (h:Uz9 P t (env x) (lo.map env) (hi.map env) (mx.map env)=some out) (hob:holds out.obl):Sound1 P o env m id out:=by cases (show none=some _ from h)
theorem Zz5 {s x:Operand}{ts:Array TypeId}{out:Out}(ho:o.op=.call {callee:=.builtin .append,args:=#[s,x],argTypes:=ts})
 (hts:∀t,ts[0]?=some t->ts[1]?=some t->ts=#[t,t]) (h:Pzh P ts id (env s) (env x) m=some out) (hob:holds out.obl):Sound1 P o env m id out:=by cases (show none=some _ from h)
variable {P:Program} {o:Oper} {env:Operand->AVal} {m:Mem} {id:Nat}
theorem az1a {t:TypeId}{x:Operand}{lo hi mx:Option Operand}{out:Out}(ho:o.op=.slice t x lo hi mx)
 (h:Uz8 P t (env x) (lo.map env) (hi.map env) (mx.map env)=some out):Sound1 P o env m id out:=by cases (show none=some _ from h)
theorem az4m {d s:Operand}{ts:Array TypeId}{out:Out}(ho:o.op=.call {callee:=.builtin .copy,args:=#[d,s],argTypes:=ts})(hts:ts.size=2)
 (h:Xz9 P ts (env d) (env s) m=some out):Sound1 P o env m id out:=by cases (show none=some _ from h)
theorem az6p {x:Operand}{ts:Array TypeId}{out:Out}(ho:o.op=.call {callee:=.builtin .len,args:=#[x],argTypes:=ts})(h:Xza P ts (env x)=some out):Sound1 P o env m id out:=by
 have hop:x∈o.op.operands:=by simp[ho,Op.operands,Call.operands]
 unfold Xza at h
 split at h
 ·rename_i i sz lo n t hx ht
  split at h
  ·rename_i e hu
   cases h
   refine Sound1.still fun F w ρ Mine M a _ _ ha=>⟨.int .i64 n,Bzl ho ?_,.pure .int⟩
   have h1:=hx▸ha x hop
   generalize a.eval x=u at h1⊢
   cases h1 with
   |view=>simp[Builtin.len_,ht,run_underlying hu,goInt]
   |viewN hh hn=>subst hn;simp[Builtin.len_,ht,run_underlying hu,goInt]
  ·cases h
 ·cases h
theorem Rzb {t:TypeId}{x i:Operand}{out:Out}(ho:o.op=.indexAddr t x i)(h:wzn P t (env x) (env i)=some out)(hob:holds out.obl):Sound1 P o env m id out:=by
 unfold wzn at h
 split at h
 ·rename_i k sz lo n ik iv hx hi
  split at h
  ·rename_i e hu
   split at h
   ·rename_i hs
    cases h
    obtain⟨h0,hn⟩:=hob
    refine Sound1.still fun F w ρ Mine M a _ _ ha=>?_
    have hiv:a.eval i=.int ik iv:=(hi▸ha i (by simp[ho,Op.operands])).pure_inv.int_inv
    have h1:=ha x (by simp[ho,Op.operands])
    rw[hx]at h1
    generalize hu':a.eval x=u at h1
    cases h1 with
    |viewN hh hn'=>omega
    |@view _ _ _ _ b n0 cap ad hh hle had=>
     have had:=had (.inl (by omega))
     subst had
     refine⟨.pointer (some ⟨b,(lo+iv.toNat) * sz+0,none⟩),.value ?_,.eptr hh⟩
     simp only[execOp,ho,Instr.indexAt,Sem.run_bind,hiv,hu',asIntOf,Sem.run_pure,Result.andThen_ok,run_underlying hu]
     simp[h0,hn,ez3 hs,hzw,Nat.add_mul]
   ·cases h
  ·cases h
 ·cases h
theorem Zz9 {t:TypeId}{x:Operand}{lo hi mx:Option Operand}{out:Out}(ho:o.op=.slice t x lo hi mx)
 (h:Pzj P t (env x) (lo.map env) (hi.map env) (mx.map env) m=some out) (hob:holds out.obl):Sound1 P o env m id out:=by cases (show none=some _ from h)
variable {P:Program} {o:Oper} {env:Operand->AVal} {m:Mem} {id:Nat}
theorem Rzq {n:Int}(h0: -9223372036854775808≤n)(h1:n≤9223372036854775807):IntKind.i64.wrap n=n:=by
 simp only[IntKind.wrap,IntKind.bits,IntKind.signed,Bool.true_and,ge_iff_le,decide_eq_true_eq]
 split<;>omega
theorem Kz7 {F:Cells}{w:World}{ρ:Env}{Mine:Nat->Prop}{M:Mem}(hm:MemOk F w ρ Mine M)(g:Good F w Mine)(fr:Fresh id M){t e:TypeId}{sz by_:Nat}{z:List Value}{ps:List PVal}{p:PVal}{l c:Int}
 (hu:P.underlying t=some (.slice e)) (hs:czb P e=some sz) (hby:yzu P e=some by_) (hz:pzv P e=some z) (hzl:z.length=sz) (hps:allP (z.map gzd)=some ps) (hsc:ps.all (·.scalar)=true)
 (hpc:p.cells=ps) (h0:0≤l) (h1:l≤c) (h2:c≤9223372036854775807) (h3:c * by_≤140737488355328):
 ∃v w' F' ρ',(Instr.makeSlice t (.int .i64 l) (.int .i64 c)).run P w=.ok v w'/\Step Mine F w F' w'/\dzd id ρ ρ'/\ARel F' w' ρ' (.vec id) v/\MemOk F' w' ρ' Mine ([(id,.vec sz l.toNat (fun _=>p) 0 e)]++M):=by
 obtain⟨i,zv,hi,hzv,hzz⟩:=lzk hz
 obtain⟨i',hi',hsz⟩:=gzc hs
 rw[hi]at hi';cases hi'
 obtain⟨i',hi',hbb⟩:=rz0 hby
 rw[hi]at hi';cases hi'
 have hzs:zv.cells.size=sz:=by rw[←hzl,←hzz];simp
 have hwl:=Rzq (n:=l) (by omega) (by omega)
 have hwc:=Rzq (n:=c) (by omega) (by omega)
 have hbc:¬ (281474976710656<(by_:Int) * c):=by rw[Int.mul_comm];omega
 obtain⟨A,hA⟩:∃A:Array Value,A=(Array.range (c.toNat * sz)).map (fun x=>zv.cells[x % zv.cells.size]!):=⟨_,rfl⟩
 have hrun:(Instr.makeSlice t (.int .i64 l) (.int .i64 c)).run P w=.ok (.slice (some ⟨w.heap.size,0,none⟩) l.toNat c.toNat) (w.alloc (.cells A e)):=by
  have hnl:¬l<0:=by omega
  have hcl:¬l>c:=by omega
  have hc0:¬c<0:=by omega
  have hb48:¬ (by_:Int) * c>2 ^ 48:=by simpa using hbc
  simp only[Instr.makeSlice,Sem.run_bind,run_underlying hu,Result.andThen_ok,asInt,asIntOf,Sem.run_pure,typeInfo,run_program,hi,hwl,hwc,hbb,ez3 hs,
   hc0,hnl,hcl,hb48,decide_false,Bool.or_false,Bool.false_eq_true,if_false,run_askRoom]
  by_cases hn:c.toNat * sz=0
  ·rw[if_pos hn]
   have hA0:A=#[]:=by rw[hA];simp[hn]
   have e0:(Array.range 0:Array Nat)=#[]:=by decide
   simp only[hn,newRow,Sem.run_bind,run_newObj,Sem.run_pure,Result.andThen_ok,hA0,e0,List.map_toArray,List.map_nil]
   rfl
  ·rw[if_neg hn]
   simp[newRow,zeroValue,typeInfo,hi,hzv,hA]
 have hsize:A.size=c.toNat * sz:=by rw[hA];simp
 have hel:∀ (q j:Nat) (x:PVal),q<c.toNat->ps[j]?=some x->∃v,A[q * sz+j]?=some v/\v.oneCell'=true/\PRel F (w.alloc (.cells A e)) x v:=by
  intro q j x hq hx
  obtain⟨hl1,hl2⟩:=qz1 hps
  have hj:j<sz:=by have:=(List.getElem?_eq_some_iff.1 hx).1;simp at hl1;omega
  obtain⟨aa,ha1,ha2⟩:=hl2 j x hx
  simp only[List.getElem?_map,Option.map_eq_some_iff]at ha1
  obtain⟨v,hv,rfl⟩:=ha1
  have hr:=(jz7 (F:=F) (w:=w.alloc (.cells A e)) (ρ:=ρ) v).toP ha2
  refine⟨v,?_,hr.one (List.all_eq_true.1 hsc x (List.mem_of_getElem? hx)),hr⟩
  have hlt:=rzc hq hj
  have hmod:(q * sz+j) % sz=j:=by rw[Nat.mul_comm,Nat.mul_add_mod];exact Nat.mod_eq_of_lt hj
  have hzj:zv.cells[j]?=some v:=by rw[←hzz]at hv;simpa using hv
  rw[hA]
  rw[Array.getElem?_map,Array.getElem?_range]
  simp only[hlt,if_true,Option.map_some,hzs,hmod]
  simp[getElem!_def,hzj]
 have st:Step Mine F w F (w.alloc (.cells A e)):=by
  have s:=Step.alloc g (.cells A e) (fun _=>False)
  exact⟨fun _ _ h=>h,s.cell,fun _ _ h=>.inl h,fun b o h=>by have:=g.lt b o h;simp;omega,s.keep⟩
 have hv:(ρ.setVec id (some (w.heap.size,l.toNat,c.toNat))).vec id=some (w.heap.size,l.toNat,c.toNat):=if_pos rfl
 have hpl:ps.length=sz:=by have:=(qz1 hps).1;simp at this;omega
 have hmem:=hm.newVec fr st (some (w.heap.size,l.toNat,c.toNat)) [] sz l.toNat 0 (fun _=>p) e
  ⟨Nat.zero_le _,.inr ⟨w.heap.size,c.toNat,A,hv,heap_alloc_new w _,by omega,by simp only[maxLen];omega,hsize,fun o hF=>absurd (g.lt _ _ hF) (by omega),fun _ _=>by rw[hpc];exact hpl,fun q j x hq hx=>hel q j x (by omega) (by rw[←hpc];exact hx)⟩⟩
  (fun b hb=>by
   simp at hb;subst hb
   exact⟨g.mine _ (Nat.le_refl _),by simp,fun q r' hq _ hbq=>absurd (hm.mine q r' _ hq hbq).2 (by omega)⟩)
  (fun j r b hj _ hbj=>⟨heap_alloc_old w _ (hm.mine j r b hj hbj).2,fun _ h=>h⟩)
 exact⟨_,_,F,_,hrun,st,cz7 ρ id _,.vec hv,by simpa using hmem⟩
theorem Jzi {t:TypeId}{x y:Operand}{out:Out}(ho:o.op=.makeSlice t x y)(h:uz1 P t id (env x) (env y)=some out)(hob:holds out.obl):Sound1 P o env m id out:=by
 unfold uz1 at h
 split at h
 ·rename_i l c hx hy
  split at h
  ·rename_i e hu
   split at h
   ·rename_i sz by_ z hs hby hz
    split at h
    ·rename_i hzl
     split at h
     ·rename_i ps hps
      split at h
      ·rename_i hsc
       have fin:∀ (p:PVal),p.cells=ps->(0≤l/\l≤c/\c≤9223372036854775807/\c * by_≤140737488355328)->
        Sound1 P o env m id ⟨.vec id,[],[(id,.vec (sz+1) l.toNat (fun _=>p) 0 e)],some (0≤l/\l≤c/\c≤9223372036854775807/\c * by_≤140737488355328)⟩:=by
        intro p hp hb F w ρ Mine M a hm g fr _ _ ha
        obtain⟨v,w',F',ρ',h1,h2,h3,h4,h5⟩:=Kz7 (P:=P) hm g fr hu hs hby hz hzl hps hsc hp hb.1 hb.2.1 hb.2.2.1 hb.2.2.2
        have e1:=(hx▸ha x (by simp[ho,Op.operands])).pure_inv.int_inv
        have e2:=(hy▸ha y (by simp[ho,Op.operands])).pure_inv.int_inv
        exact⟨v,w',F',ρ',.value (by simp only[execOp,ho,Sem.run_bind,e1,e2,h1,Result.andThen_ok,Sem.run_pure]),h2,h3,h4,h5⟩
       split at h
       ·cases h;exact fin (.agg ps) rfl hob
       ·split at h
        ·rename_i p
         cases h
         exact fin p (PVal.cells_scalar (by simpa using hsc)) hob
        ·cases h
       ·cases h
      ·cases h
     ·cases h
    ·cases h
   ·cases h
  ·cases h
 ·cases h
theorem Nz8 {w:World}{t e:TypeId}{sz by_:Nat}{z:List Value}{l c:Int}
 (hu:P.underlying t=some (.slice e)) (hs:czb P e=some sz) (hby:yzu P e=some by_) (hz:pzv P e=some z) (hzl:z.length=sz) (h0:0≤l) (h1:l≤c) (h2:c≤9223372036854775807) (h3:c * by_≤140737488355328):
 ∃A:Array Value,(Instr.makeSlice t (.int .i64 l) (.int .i64 c)).run P w=.ok (.slice (some ⟨w.heap.size,0,none⟩) l.toNat c.toNat) (w.alloc (.cells A e))/\A.size=c.toNat * sz/\
  ∀ (q j:Nat) (v:Value),q<c.toNat->z[j]?=some v->A[q * sz+j]?=some v:=by
 obtain⟨i,zv,hi,hzv,hzz⟩:=lzk hz
 obtain⟨i',hi',hsz⟩:=gzc hs
 rw[hi]at hi';cases hi'
 obtain⟨i',hi',hbb⟩:=rz0 hby
 rw[hi]at hi';cases hi'
 have hzs:zv.cells.size=sz:=by rw[←hzl,←hzz];simp
 have hwl:=Rzq (n:=l) (by omega) (by omega)
 have hwc:=Rzq (n:=c) (by omega) (by omega)
 have hbc:¬ (281474976710656<(by_:Int) * c):=by rw[Int.mul_comm];omega
 obtain⟨A,hA⟩:∃A:Array Value,A=(Array.range (c.toNat * sz)).map (fun x=>zv.cells[x % zv.cells.size]!):=⟨_,rfl⟩
 refine⟨A,?_,by rw[hA];simp,fun q j v hq hv=>?_⟩
 ·have hnl:¬l<0:=by omega
  have hcl:¬l>c:=by omega
  have hc0:¬c<0:=by omega
  have hb48:¬ (by_:Int) * c>2 ^ 48:=by simpa using hbc
  simp only[Instr.makeSlice,Sem.run_bind,run_underlying hu,Result.andThen_ok,asInt,asIntOf,Sem.run_pure,typeInfo,run_program,hi,hwl,hwc,hbb,ez3 hs,
   hc0,hnl,hcl,hb48,decide_false,Bool.or_false,Bool.false_eq_true,if_false,run_askRoom]
  by_cases hn:c.toNat * sz=0
  ·rw[if_pos hn]
   have hA0:A=#[]:=by rw[hA];simp[hn]
   have e0:(Array.range 0:Array Nat)=#[]:=by decide
   simp only[hn,newRow,Sem.run_bind,run_newObj,Sem.run_pure,Result.andThen_ok,hA0,e0,List.map_toArray,List.map_nil]
   rfl
  ·rw[if_neg hn]
   simp[newRow,zeroValue,typeInfo,hi,hzv,hA]
 ·have hj:j<sz:=by have:=(List.getElem?_eq_some_iff.1 hv).1;omega
  have hlt:=rzc hq hj
  have hmod:(q * sz+j) % sz=j:=by rw[Nat.mul_comm,Nat.mul_add_mod];exact Nat.mod_eq_of_lt hj
  have hzj:zv.cells[j]?=some v:=by rw[←hzz]at hv;simpa using hv
  rw[hA]
  rw[Array.getElem?_map,Array.getElem?_range]
  simp only[hlt,if_true,Option.map_some,hzs,hmod]
  simp[getElem!_def,hzj]
theorem Rzd {t:TypeId}{x y:Operand}{out:Out}(ho:o.op=.makeSlice t x y)(h:wzo P t id (env x) (env y)=some out)(hob:holds out.obl):Sound1 P o env m id out:=by
 unfold wzo at h
 split at h
 ·rename_i l c hx hy
  split at h
  ·rename_i e hu
   split at h
   ·rename_i by_ e' hs hby hz hu'
    split at h
    ·rename_i sz hs'
     cases h
     obtain⟨h0,h1,h2,h3⟩:=hob
     intro F w ρ Mine M a hm g fr _ _ ha
     have e1:=(hx▸ha x (by simp[ho,Op.operands])).pure_inv.int_inv
     have e2:=(hy▸ha y (by simp[ho,Op.operands])).pure_inv.int_inv
     obtain⟨A,hrun,hA,hget⟩:=Nz8 (P:=P) (w:=w) hu hs hby hz rfl h0 h1 h2 h3
     have hnil:∀q,q<c.toNat->A[q]?=some (.slice none 0 0):=fun q hq=>by
      have:=hget q 0 _ hq rfl
      simpa using this
     have st:Step Mine F w F (w.alloc (.cells A e)):=by
      have s:=Step.alloc g (.cells A e) (fun _=>False)
      exact⟨fun _ _ h=>h,s.cell,fun _ _ h=>.inl h,fun b o h=>by have:=g.lt b o h;simp;omega,s.keep⟩
     have hv:(ρ.setVec id (some (w.heap.size,l.toNat,c.toNat))).vec id=some (w.heap.size,l.toNat,c.toNat):=if_pos rfl
     have hno:∀q b,¬Inn A l.toNat none q b:=by
      intro q b ⟨r1,_,n',cap',r3⟩
      rw[hnil q (by omega)]at r3
      simp at r3
     have hget1:∀k r,Mem.get [(id,Res.vecT sz l.toNat (fun _=>.lst sz 0 fun _=>.unk) e e' none)] k=some r->k=id/\r=.vecT sz l.toNat (fun _=>.lst sz 0 fun _=>.unk) e e' none:=by
      intro k r hk
      simp only[Mem.get]at hk
      split at hk
      ·rename_i e1;subst e1;cases hk;exact⟨rfl,rfl⟩
      ·cases hk
     refine⟨_,_,F,ρ.setVec id (some (w.heap.size,l.toNat,c.toNat)),.value (by simp only[execOp,ho,Sem.run_bind,e1,e2,hrun,Result.andThen_ok,Sem.run_pure]),st,cz7 ρ id _,.vec hv,MemOk.step hm st (fun i=>¬Own id i) (cz7 ρ id _) _ (fun j r h _=>?_) (fun j r h=>?_) (fun j j' r r' b h h' _ _=>?_)⟩
     ·obtain⟨q1,q2,q3⟩:=Qzn hm fr (.cells A e) (fun _=>False) j r h
      exact⟨q1,q2,fun b hb=>⟨(q3 b hb).1,fun _ h=>h⟩⟩
     ·obtain⟨rfl,rfl⟩:=hget1 j r h
      refine⟨⟨w.heap.size,c.toNat,A,hv,heap_alloc_new w _,by omega,by simp only[maxLen];omega,by omega,fun o hF=>absurd (g.lt _ _ hF) (by omega),fun q hq=>⟨_,hnil q (by omega),rfl,.inr ⟨none,0,fun _=>.unk,rfl,rfl,Nat.le_refl _,.inl ⟨rfl,rfl⟩⟩⟩,fun q q' b h=>absurd h (hno q b),fun q h=>hno q _ h⟩,fun b hb=>?_⟩
      rcases hb with hb|⟨b0,n0,cap,c0,e0,q,r1,r2,r3⟩
      ·simp only[bzu,hv,Option.map_some,Option.some.injEq]at hb
       subst hb
       exact⟨g.mine _ (Nat.le_refl _),by simp,fun q r' hq _ hbq=>absurd (hm.mine q r' _ hq hbq).2 (by omega)⟩
      ·rw[hv]at r1;cases r1
       rw[heap_alloc_new w _]at r2;cases r2
       exact absurd r3 (hno q b)
     ·obtain⟨rfl,rfl⟩:=hget1 j r h
      obtain⟨rfl,rfl⟩:=hget1 j' r' h'
      rfl
    ·cases h
   ·cases h
  ·cases h
 ·cases h
theorem Lz4 {mx:Bool}{f:Int->Int->Int}(hf:f=if mx then(fun a b=>max a b)else(fun a b=>min a b)){k:IntKind}{F:Cells}{w:World}{ρ:Env}:∀ (l:List AVal) (vs:List Value) (a r:Int),Lz3 f k a l=some r->l.length=vs.length->(∀ (j:Nat) (x:AVal) (v:Value),l[j]?=some x->vs[j]?=some v->ARel F w ρ x v)->
 (vs.foldlM (if mx then Builtin.max2 else Builtin.min2) (.int k a)).run P w=.ok (.int k r) w
 |[],[],a,r,h,_,_=>by simp[Lz3]at h;subst h;rfl
 |[],_::_,_,_,_,hl,_=>by simp at hl
 |_::_,[],_,_,_,hl,_=>by simp at hl
 |x::l,v::vs,a,r,h,hl,hr=>by
  have hx:=hr 0 x v (by simp) (by simp)
  obtain⟨b,rfl,h2⟩:∃b,x=.pure (.int k b)/\Lz3 f k (f a b) l=some r:=by
   match x,h with
   | .pure (.int k' b),h=>
     simp only[Lz3]at h
     split at h
     ·rename_i hk;subst hk;exact⟨b,rfl,h⟩
     ·cases h
  have hv:=hx.pure_inv.int_inv
  subst hv
  have ih:=Lz4 hf l vs _ r h2 (by simpa using hl) (fun j x v h1 h2=>hr (j+1) x v (by simpa using h1) (by simpa using h2))
  cases mx with
  |true=>
   simp only[if_true]at ih hf⊢
   subst hf
   simp only[List.foldlM_cons,Builtin.max2,Sem.run_bind,Sem.run_pure,Result.andThen_ok]
   rw[show(if b>a then b else a)=max a b by omega];exact ih
  |false=>
   simp only[Bool.false_eq_true,if_false]at ih hf⊢
   subst hf
   simp only[List.foldlM_cons,Builtin.min2,Sem.run_bind,Sem.run_pure,Result.andThen_ok]
   rw[show(if b<a then b else a)=min a b by omega];exact ih
theorem Vz3 {b:Builtin}{mx:Bool}{ff:Int->Int->Int}(hff:ff=if mx then(fun a b=>max a b)else(fun a b=>min a b)){xs:Array Operand}{ts:Array TypeId}{p:PVal}(hb:b=if mx then .max else .min)(ho:o.op=.call {callee:=.builtin b,args:=xs,argTypes:=ts})
 (h:Hz4 ff (xs.toList.map env)=some p):Sound1 P o env m id (.v (.pure p)):=by
 unfold Hz4 at h
 split at h
 ·rename_i k a' l hl
  split at h
  ·rename_i r hr
   cases h
   refine Sound1.still fun F w ρ Mine M a _ _ ha=>?_
   obtain⟨x,ys,hxs⟩:∃x ys,xs.toList=x::ys:=by
    cases hh:xs.toList with
    |nil=>rw[hh]at hl;simp at hl
    |cons x ys=>exact⟨x,ys,rfl⟩
   rw[hxs,List.map_cons]at hl
   simp only[List.cons.injEq]at hl
   obtain⟨hx,rfl⟩:=hl
   have hmem:∀z∈xs.toList,z∈o.op.operands:=fun z hz=>by simp[ho,Op.operands,Call.operands];simpa using hz
   have e1:=(hx▸ha x (hmem x (by rw[hxs];simp))).pure_inv.int_inv
   have hf:=Lz4 (P:=P) hff (F:=F) (w:=w) (ρ:=ρ) (ys.map env) (ys.map a.eval) a' r hr (by simp) (fun j u v hu hv=>by
    simp only[List.getElem?_map,Option.map_eq_some_iff]at hu hv
    obtain⟨z,hz,rfl⟩:=hu
    obtain⟨z',hz',rfl⟩:=hv
    rw[hz]at hz';cases hz'
    exact ha z (hmem z (by rw[hxs];exact List.mem_cons_of_mem _ (List.mem_of_getElem? hz))))
   have hargs:(xs.map a.eval).toList=a.eval x::ys.map a.eval:=by simp[hxs]
   refine⟨.int k r,.value ?_,.pure .int⟩
   cases mx with
   |true=>
    simp only[if_true]at hb hf
    subst hb
    simp only[execOp,ho,resolve,Sem.run_bind,Sem.run_pure,Result.andThen_ok,invoke,builtin,Builtin.max_,hargs,e1,hf]
   |false=>
    simp only[Bool.false_eq_true,if_false]at hb hf
    subst hb
    simp only[execOp,ho,resolve,Sem.run_bind,Sem.run_pure,Result.andThen_ok,invoke,builtin,Builtin.min_,hargs,e1,hf]
  ·cases h
 ·cases h
theorem kzv {out:Out}(h:evOp P o.op id env m=some out)(hob:holds out.obl):Sound1 P o env m id out:=by
 generalize hop:o.op=op at h
 cases op<;>simp only[evOp]at h
 all_goals try(cases h;done)
 case move x=>cases h;exact az6r hop
 case assign x=>
  split at h
  ·rename_i hn
   have:x=.const (.slice none 0 0):=by
    unfold az5v at hn
    split at hn
    ·rfl
    ·cases hn
   subst this
   cases h;exact az7h hop
  ·cases h;exact az17 hop
 case pick c x y=>
  split at h
  ·rename_i hc;cases h;exact az2p (b:=true) hop hc
  ·rename_i hc;cases h;exact az2p (b:=false) hop hc
  ·cases h
 case alloc t=>
  split at h
  ·rename_i z hz
   split at h
   ·rename_i hc
    simp only[Bool.and_eq_true,decide_eq_true_eq]at hc
    cases h;exact az4k hop hz hc.1 hc.2
   ·cases h
  ·cases h
 case box t x=>
  split at h
  ·rename_i hc;cases h;exact az7f hop hc
  ·cases h
 case build t ps=>exact az4l hop h
 case buildSlice t n ps=>
  split at h
  ·rename_i out' ho';cases h;exact Rz8 hop ho'
  ·exact Oz8 hop h
 case load t a=>
  split at h
  ·rename_i out' ho';cases h;exact az4q hop ho' hob
  ·split at h
   ·rename_i out' ho';cases h;exact az4r hop ho' hob
   ·exact az6q hop h hob
 case store t a v=>
  split at h
  ·rename_i out' ho';cases h;exact az1h hop ho' hob
  ·split at h
   ·rename_i out' ho';cases h;exact az1i hop ho' hob
   ·split at h
    ·rename_i out' ho';cases h;exact Zza hop ho' hob
    ·split at h
     ·rename_i out' ho';cases h;exact az1g hop ho'
     ·split at h
      ·rename_i out' ho';cases h;exact az1f hop ho' hob
      ·split at h
       ·rename_i out' ho';cases h;exact az1e hop ho' hob
       ·exact Oza hop h hob
 case nilCheck x=>
  split at h<;>rename_i hx<;>first|(cases h;rw[←hx];exact Vzy hop (by rw[hx];trivial))|(cases h)
 case binOp op t x y t'=>
  split at h
  ·rename_i p q hp hq
   split at h
   ·rename_i r ob hr;cases h;exact az7e hop hp hq hr hob
   ·cases h
  ·cases h
 case unOp op t x=>
  split at h
  ·rename_i hx
   split at h
   ·cases h;exact az6s (b:=true) hop hx
   ·cases h
  ·rename_i hx
   split at h
   ·cases h;exact az6s (b:=false) hop hx
   ·cases h
  ·rename_i p hx
   split at h
   ·rename_i r hr;cases h;exact s_un hop hx hr
   ·cases h
  ·cases h
 case convert s d x=>
  split at h
  ·rename_i p hp
   split at h
   ·rename_i r hr
    split at h
    ·rename_i hs;cases h;exact az6o hop hs hp hr
    ·cases h
   ·cases h
  ·cases h
 case makeFunc fn a b=>
  split at h
  ·cases h;exact Vzx hop
  ·cases h
 case makeSlice t l c=>exact Jzi hop h hob
 case makeMap t r=>
  split at h
  ·exact Zz8 hop h
  ·cases h
 case slice t x lo hi mx=>
  split at h
  ·rename_i out' ho';cases h;exact az1b hop ho' hob
  ·split at h
   ·rename_i out' ho';cases h;exact az1a hop ho'
   ·split at h
    ·rename_i out' ho';cases h;exact Zz9 hop ho' hob
    ·exact az4u hop h hob
 case fieldAddr s x f=>exact az4n hop h
 case field s x f=>exact az18 hop h
 case indexAddr t x i=>
  split at h
  ·rename_i out' ho';cases h;exact Rza hop ho' hob
  ·split at h
   ·rename_i out' ho';cases h;exact Rzc hop ho' hob
   ·split at h
    ·rename_i out' ho';cases h;exact Rz9 hop ho' hob
    ·split at h
     ·rename_i out' ho';cases h;exact Rzb hop ho' hob
     ·exact Tzd hop h hob
 case makeInterface t x=>exact az4o hop h
 case typeAssert x xt a ok=>exact az16 hop h
 case index t x i=>exact az4p hop h hob
 case range t x=>
  split at h
  ·rename_i s hu hx
   cases h;exact az4t hop hu hx
  ·cases h
 case extract x i=>
  split at h
  ·rename_i cs hx
   split at h
   ·rename_i v hv;cases h;exact Zz7 hop hx hv
   ·cases h
  ·cases h
 case call c=>
  split at h
  ·rename_i b hb
   obtain⟨callee,args,ts⟩:=c
   simp only at hb h
   subst hb
   unfold Hzt at h
   split at h
   ·split at h
    ·rename_i x hx
     have:args=#[x]:=by rw[←Array.toArray_toList (xs:=args),hx]
     subst this
     split at h
     ·rename_i out' ho';cases h;exact az6p hop ho'
     ·exact az7g hop h
    ·cases h
   ·split at h
    ·rename_i d s hx
     have:args=#[d,s]:=by rw[←Array.toArray_toList (xs:=args),hx]
     subst this
     split at h
     ·rename_i hsz;exact az4m hop hsz h
     ·cases h
    ·cases h
   ·split at h
    ·rename_i s x hx
     have:args=#[s,x]:=by rw[←Array.toArray_toList (xs:=args),hx]
     subst this
     split at h
     ·rename_i hsz
      have hts:∀t,ts[0]?=some t->ts[1]?=some t->ts=#[t,t]:=fun t h0 h1=>by
       refine Array.ext (by simpa using hsz) fun i hi _=>?_
       have hi2:i<2:=by omega
       match i,hi2 with
       |0,_=>simpa[Array.getElem?_eq_getElem (show 0<ts.size by omega)]using h0
       |1,_=>simpa[Array.getElem?_eq_getElem (show 1<ts.size by omega)]using h1
      split at h
      ·rename_i out' ho';cases h;exact Zz6 hop hts ho' hob
      ·split at h
       ·rename_i out' ho';cases h;exact Zz5 hop hts ho' hob
       ·exact az15 hop hts h hob
     ·cases h
    ·cases h
   ·split at h
    ·rename_i p hp;cases h;exact Vz3 (mx:=false) rfl rfl hop hp
    ·cases h
   ·split at h
    ·rename_i p hp;cases h;exact Vz3 (mx:=true) rfl rfl hop hp
    ·cases h
   ·cases h
  ·cases h
end Go.Abs
