import Derived.Test.YtagmfmidaochlaaGreatDoorZIDrawC
open Array renaming replicate->zx
namespace Go.Abs
structure GShape (P:Program) (fn:Func)where
 id:Nat
 o0:Oper
 o1:Oper
 t1:Nat
 t2:Nat
 X:Code
 c:Call
 ty:TypeId
 ty':TypeId
 body:fn.body=some (.seq (.region id #[o0,o1] false) (.cond (.tmp t2) X .skip))
 h0:o0.op=.call c
 hc:c.callee=.builtin .recover
 d0:o0.dst=some t1
 g0:o0.guard=none
 h1:o1.op=.binOp .neq ty (.tmp t1) (.const .nilIface) ty'
 d1:o1.dst=some t2
 g1:o1.guard=none
 und:∃ms,P.underlying ty=some (.interface ms)
 lt1:t1<fn.ntmps
 lt2:t2<fn.ntmps
 res:fn.results=#[]
theorem acr {P:Program}{g:FuncId}{fn:Func}(q:P.funcs[g]?=some fn)(f:(fn.name== "runtime.NumGoroutine")=false)(S:GShape P fn):GuardFn P g:=by
 refine⟨⟨fn,q,f,by rw[S.body];rfl⟩,λD w=>?_⟩;refine Zw q S.body λe x p=>?_
 apply wpS_seq;apply wpS_region;have h:∀ (D:Array Value),fn.ntmps<=(D++zx (fn.ntmps-D.size) undef).size:=jX;have h:=h D;generalize D++zx (fn.ntmps-D.size) undef=b at h;have n:∀ (a:Act) (w:World),(execOp a.eval S.o0).run P w=.ok .recover w:=by
  intro a w;simp only[execOp,S.h0,resolve,S.hc];rfl
 obtain⟨B,k⟩:=S.und;have r:(underlying S.ty).run P w=.ok (.interface B) w:=run_underlying k w;have m:∀ (a:Act),a.eval (.tmp S.t1)=.nilIface->(execOp a.eval S.o1).run P w=.ok (.value (.bool false)) w:=by
  intro a v;have A:a.eval (.const .nilIface)=.nilIface:=rfl;have s:(Op.equal S.ty .nilIface .nilIface).run P w=.ok true w:=by
   have u:∀d,(Op.equalIn (d+1) S.ty .nilIface .nilIface).run P w=.ok true w:=by
    simp_all[Op.equalIn]
   exact u 9999
  simp only[execOp,S.h1,v,A];simp[eqGuard,binOp,s]
 have l:recoverD (e::x)=none:=by simp[recoverD,p]
 have c:List.range (#[S.o0,S.o1]:Array Oper).size=[0,1]:=rfl;rw[c];have C:=S.lt1;have z:=S.lt2;have o:(Act.put {tmps:=b,defers:=[]} (some S.t1) .nilIface).eval (.tmp S.t1)=.nilIface:=by
  simp[Act.put,Act.eval,show S.t1<b.size from qa]
 have i:∀y,Region.wanted S.o0 y=true:=λy=>by simp[Region.wanted,S.g0]
 have j:∀y,Region.wanted S.o1 y=true:=λy=>by simp[Region.wanted,S.g1]
 simp only[wpOpsS,List.getElem?_toArray,List.getElem?_cons_zero,List.getElem?_cons_succ,i,j,if_true,n,l,S.d0];simp only[m _ o,Oper.upon_value,S.d1,Exit.thenS];refine wpS_cond (t:=false) (by simp[Act.put,Act.eval,show S.t2<b.size from qa]) ?_;refine wpS_of_wp (wp_skip ?_);cases e;subst p;exact⟨rfl,.returning,rfl,.tuple #[],by simp[results,S.res],⟨_,rfl⟩,rfl,rfl⟩
end Go.Abs
