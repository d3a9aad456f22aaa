/-
  Guard (a part of a claim: our own text).
-/
import Derived.Test.YtkbjjlfpbebiaaaGreatDoorYKDrawC
namespace Go.Abs
structure GShape (P:Program) (fn:Func)where
 id:Nat
 o0:Oper
 o1:Oper
 t1:Nat
 t2:Nat
 X:Code
 c:Call
 ty:TypeId
 ty':TypeId
 body:fn.body=some (.seq (.region id #[o0,o1] false) (.cond (.tmp t2) X .skip))
 h0:o0.op=.call c
 hc:c.callee=.builtin .recover
 d0:o0.dst=some t1
 g0:o0.guard=none
 h1:o1.op=.binOp .neq ty (.tmp t1) (.const .nilIface) ty'
 d1:o1.dst=some t2
 g1:o1.guard=none
 und:∃ms,P.underlying ty=some (.interface ms)
 lt1:t1<fn.ntmps
 lt2:t2<fn.ntmps
 res:fn.results=#[]
theorem bzu {P:Program}{g:FuncId}{fn:Func}(hf:P.funcs[g]?=some fn)(hname:(fn.name== "runtime.NumGoroutine")=false)(S:GShape P fn):GuardFn P g:=by
 refine⟨⟨fn,hf,hname,by rw[S.body];rfl⟩,fun args w=>?_⟩
 refine Dzm hf S.body fun c₀ cs hu=>?_
 apply wpS_seq
 apply wpS_region
 have hsz:∀ (args:Array Value),fn.ntmps≤(args++Array.replicate (fn.ntmps-args.size) undef).size:=by intro args;simp;omega
 have hsz:=hsz args
 generalize args++Array.replicate (fn.ntmps-args.size) undef=tmps at hsz
 have hr0:∀ (a:Act) (w:World),(execOp a.eval S.o0).run P w=.ok .recover w:=by
  intro a w
  simp only[execOp,S.h0,resolve,S.hc]
  rfl
 obtain⟨ms,hms⟩:=S.und
 have hund:(underlying S.ty).run P w=.ok (.interface ms) w:=run_underlying hms w
 have hr1:∀ (a:Act),a.eval (.tmp S.t1)=.nilIface->(execOp a.eval S.o1).run P w=.ok (.value (.bool false)) w:=by
  intro a ha
  have he:a.eval (.const .nilIface)=.nilIface:=rfl
  have hq:(Op.equal S.ty .nilIface .nilIface).run P w=.ok true w:=by
   have hd:∀d,(Op.equalIn (d+1) S.ty .nilIface .nilIface).run P w=.ok true w:=by
    intro d
    simp only[Op.equalIn,Sem.run_bind,hund,Result.andThen_ok]
    rfl
   exact hd 9999
  simp only[execOp,S.h1,ha,he]
  simp[eqGuard,binOp,hq]
 have hre:recoverD (c₀::cs)=none:=by simp[recoverD,hu]
 have hrange:List.range (#[S.o0,S.o1]:Array Oper).size=[0,1]:=rfl
 rw[hrange]
 have lt1:=S.lt1
 have lt2:=S.lt2
 have hev:(Act.put {tmps:=tmps,defers:=[]} (some S.t1) .nilIface).eval (.tmp S.t1)=.nilIface:=by
  simp[Act.put,Act.eval,show S.t1<tmps.size by omega]
 have hw0:∀y,Region.wanted S.o0 y=true:=fun y=>by simp[Region.wanted,S.g0]
 have hw1:∀y,Region.wanted S.o1 y=true:=fun y=>by simp[Region.wanted,S.g1]
 simp only[wpOpsS,List.getElem?_toArray,List.getElem?_cons_zero,List.getElem?_cons_succ,hw0,hw1,if_true,hr0,hre,S.d0]
 simp only[hr1 _ hev,Oper.upon_value,S.d1,Exit.thenS]
 refine wpS_cond (t:=false) (by simp[Act.put,Act.eval,show S.t2<tmps.size by omega]) ?_
 simp only[Bool.false_eq_true,if_false]
 refine wpS_of_wp (wp_skip ?_)
 cases c₀
 simp only at hu
 subst hu
 exact⟨rfl,.returning,rfl,.tuple #[],by simp[results,S.res],⟨_,rfl⟩,rfl,rfl⟩
end Go.Abs
