/-
  Func (a part of a claim: our own text).
-/
import Derived.Test.YtlmicknhpllbdaaGreatDoorYMCode
namespace Go.Abs
def azdj:AVal->Bool
 | .pure _=>true
 |_=>false
def jzy (m:Mem):List AVal->List AVal->List AVal×List Nat
 |a::l,r::rs=>match(if azdj r then Bz9 m a else none)with
  |some (p,is)=>(.pure p::(jzy m l rs).1,is++(jzy m l rs).2)
  |none=>(a::(jzy m l rs).1,(jzy m l rs).2)
 |l,_=>(l,[])
def pzd (P:Program)(s:St):List ResultVar->Option (List AVal)
 |[]=>some []
 | .tmp t::l=>match pzd P s l with
   |some vs=>some (s.get t::vs)
   |none=>none
 | .cell t ty::l=>match s.get t with
   | .ptr i o=>match Dzm P ty (.ptr i o) s.mem,pzd P s l with
     |some out,some vs=>some (out.val::vs)
     |_,_=>none
   |_=>none
def jz3:AVal->List AVal
 | .tup b=>b
 |a=>[a]
theorem Uza {P:Program}{f:FuncId}{args:Array Value}{u:FrameMode}{w:World}{R:Ending->FrameMode->World->Prop}(h:CallsDIn Fence.wide 0 P f args u w R):CallsD P f args u w R:=by
 intro c a b
 obtain⟨e,m,k,i,g,l,j,_,d⟩:=h.2 c a b (room_wide _)
 grind[comesIn_wide]
theorem Rzc {P:Program}{f:FuncId}{fn:Func}{c:Code}{args:Array Value}{u:FrameMode}{w:World}{R:Ending->FrameMode->World->Prop}
 (s:P.funcs[f]?=some fn) (z:fn.body=some c)
 (h:∀ (a:Frame) (p:List Frame),a.mode=u->
  c.wpS P (bodyPostS P fn a p R) {tmps:=args++Array.replicate (fn.ntmps-args.size) undef,defers:=[]} (a::p) w):
 CallsDIn Fence.wide 0 P f args u w R:=by
 refine⟨trivial,fun a p x _=>?_⟩
 let b:Frame:={(default:Frame)with fn:=f,kind:=.deferred}
 have g:Frame.enter P f args .deferred=
  b.at {tmps:=args++Array.replicate (fn.ntmps-args.size) undef,defers:=[]} [.code c]:=by
  grind[Frame.enter,Frame.at]
 obtain⟨e,A,y,q,m,d⟩:=h a p x b [] rfl rfl
 rw[←g]at d
 cases e with
 |normal=>
  obtain⟨n,j,rfl,v,r,i⟩:=m
  exact⟨.returned v,j,q,_,i,stepsIn_wide.2 (Steps.trans d (.one step_end)),rfl,rfl,rfl,n,fn,s,r⟩
 |ret=>
  obtain⟨n,j,rfl,v,r,i⟩:=m
  obtain⟨o,t⟩:=d
  exact⟨.returned v,j,q,_,i,stepsIn_wide.2 t,rfl,rfl,rfl,n,fn,s,r⟩
 |panic k=>
  obtain⟨n,j,rfl,i⟩:=m
  obtain⟨o,t⟩:=d
  exact⟨.panicked k,j,q,_,i,stepsIn_wide.2 t,rfl,rfl,rfl,n,fn,s⟩
 |exit id=>exact m.elim
 |goto l=>exact m.elim
 |outgrown=>
  obtain⟨j,i⟩:=m
  exact⟨.outgrown,j,q,b,i,d.resolve_left (by simp),rfl,rfl,trivial⟩
structure GuardFn (P:Program) (g:FuncId):Prop where
 callable:Tzy P g
 calls:∀args w,CallsDIn Fence.wide 0 P g args .returning w fun e u w'=>(∃v,e=.returned v)/\u=.returning/\w'=w
def wzf (P:Program):List AVal->Prop
 |[]=>True
 | .func g _ _::l=>GuardFn P g/\wzf P l
 |_::_=>False
def Vzb (b:Nat)(s:St)(a rs:List AVal)(c:Mem):List (Nat×Nat):=
 let σ:=Lz9 b rs a
 σ++tzc b s σ c
mutual
def AVal.inIds (n0 k:Nat):AVal->Bool
 | .agg cs| .tup cs=>AVal.inL n0 k cs
 | .iface _ a=>AVal.inIds n0 k a
 | .vec i| .ptr i _| .eptr i _ _ _| .map i| .bsl i _| .view i _ _ _=>decide (i<n0)||(decide (k≤i)&&decide (i<k+64))
 | .func _ a b=>AVal.inL n0 k a&&AVal.inL n0 k b
 | .any| .pure _| .tt| .ff| .ref _| .anyb| .yld _| .clip _| .nilp=>true
def AVal.inL (c k:Nat):List AVal->Bool
 |[]=>true
 |a::l=>AVal.inIds c k a&&AVal.inL c k l
end
def Res.inIds (a k:Nat):Res->Bool
 | .box c=>AVal.inL a k c
 | .vecX _ _ _ _ _ _ i=>decide (i<a)||(decide (k≤i)&&decide (i<k+64))
 | .vecU _ _ _ _ _ _ _ _ b=>b.all fun x=>decide (x.2<a)||(decide (k≤x.2)&&decide (x.2<k+64))
 |_=>true
def az6q (a k:Nat):Mem->Bool
 |[]=>true
 |(i,r)::m=>(decide (i<a)||(decide (k≤i)&&decide (i<k+64)))&&Res.inIds a k r&&az6q a k m
def az69:AVal->Bool
 | .tup _=>true
 |_=>false
def Wz3 (P:Program)(d k:Nat)(a:List ResultVar)(b:AVal)(c:Mem)(s:St):Prop:=
 match pzd P s a with
 |none=>False
 |some vs=>
  let e:=jzy s.mem vs (jz3 b)
  let τ:=idOf d (Vzb d s e.1 (jz3 b) c)
  if injB τ c&&az6q d k c&&AVal.inL d k (jz3 b)&&((a.length==1) !=az69 b)then
   Czz e.1 (AVal.renL τ (jz3 b))/\MSub (bzi s.mem e.2++s.mem) (Mem.ren τ c)/\wzf P s.df
  else False
def yzz:Nat->List AVal->List (Nat×AVal)
 |_,[]=>[]
 |i,a::l=>(i,a)::yzz (i+1) l
theorem Izy:∀ (l:List AVal) (i t:Nat),rzd (yzz i l) t=if i≤t then(l[t-i]?).getD .any else .any
 |[],i,t=>by simp[yzz,rzd]
 |a::l,i,t=>by
  simp only[yzz,rzd]
  by_cases h:i=t
  ·subst h;simp
  ·rw[if_neg h,Izy l (i+1) t]
   by_cases b:i≤t
   ·rw[if_pos b,if_pos (by omega),show t-i=(t- (i+1))+1 by omega]
    simp
   ·rw[if_neg b,if_neg (by omega)]
mutual
theorem az64 {n0 k i:Nat}(hi:¬ (i<n0\/Own k i)):∀ {a:AVal},a.inIds n0 k=true->a.has i=false
 | .agg cs,h=>by simp only[AVal.inIds]at h;simp only[AVal.has];exact Jzj hi h
 | .tup cs,h=>by simp only[AVal.inIds]at h;simp only[AVal.has];exact Jzj hi h
 | .vec j,h=>by
   simp[AVal.inIds]at h;simp[AVal.has]
   exact fun e=>hi (by subst e;exact h)
 | .ptr j _,h=>by
   simp[AVal.inIds]at h;simp[AVal.has]
   exact fun e=>hi (by subst e;exact h)
 | .eptr j _ _ _,h=>by
   simp[AVal.inIds]at h;simp[AVal.has]
   exact fun e=>hi (by subst e;exact h)
 | .map j,h=>by
   simp[AVal.inIds]at h;simp[AVal.has]
   exact fun e=>hi (by subst e;exact h)
 | .bsl j _,h=>by
   simp[AVal.inIds]at h;simp[AVal.has]
   exact fun e=>hi (by subst e;exact h)
 | .view j _ _ _,h=>by
   simp[AVal.inIds]at h;simp[AVal.has]
   exact fun e=>hi (by subst e;exact h)
 | .iface _ a,h=>by simp only[AVal.inIds]at h;simp only[AVal.has];exact az64 hi h
 | .func _ a b,h=>by
   simp only[AVal.inIds,Bool.and_eq_true]at h
   simp only[AVal.has,Jzj hi h.1,Jzj hi h.2,Bool.or_self]
 | .any,_=>rfl
 | .pure _,_=>rfl
 | .tt,_=>rfl
 | .ff,_=>rfl
 | .ref _,_=>rfl
 | .anyb,_=>rfl
 | .nilp,_=>rfl
 | .clip _,_=>rfl
 | .yld _,_=>rfl
theorem Jzj {c k i:Nat}(hi:¬ (i<c\/Own k i)):∀ {l:List AVal},AVal.inL c k l=true->AVal.hasL i l=false
 |[],_=>rfl
 |a::l,h=>by
  simp only[AVal.inL,Bool.and_eq_true]at h
  simp only[AVal.hasL,az64 hi h.1,Jzj hi h.2,Bool.or_self]
end
theorem Pz4 {b k:Nat}:∀ {m:Mem},az6q b k m=true->∀ {i:Nat} {r:Res},m.get i=some r->(i<b\/Own k i)/\r.inIds b k=true
 |[],_,i,r,h=>by simp[Mem.get]at h
 |(j,q)::m,a,i,r,h=>by
  simp only[az6q,Bool.and_eq_true,Bool.or_eq_true,decide_eq_true_eq]at a
  simp only[Mem.get]at h
  split at h
  ·rename_i e;subst e;cases h;exact⟨a.1.1,a.1.2⟩
  ·exact Pz4 a.2 h
variable {P:Program}
theorem Azr {F:Cells}{w:World}{ρ:Env}{Mine:Nat->Prop}{m:Mem}(x:MemOk F w ρ Mine m)(g:Good F w Mine){js:List Nat}:∀ {l rs:List AVal} {vs:List Value},l.length=vs.length->
 (∀ (j:Nat) (a:AVal) (v:Value),l[j]?=some a->vs[j]?=some v->ARel F w ρ a v)->(∀i∈(jzy m l rs).2,i∈js)->
 (jzy m l rs).1.length=vs.length/\∀ (j:Nat) (a:AVal) (v:Value),(jzy m l rs).1[j]?=some a->vs[j]?=some v->ARel (dzh F w ρ m js) w ρ a v
 |[],rs,vs,q,_,_=>by
  grind[jzy]
 |a::l,[],vs,q,n,_=>by
  exact⟨q,fun j b v d y=>(n j b v d y).mono' (fun b o h=>.inl h) (fun _ _ _=>rfl)⟩
 |a::l,r::rs,[],q,_,_=>by grind
 |a::l,r::rs,v::vs,q,n,c=>by
  have e:l.length=vs.length:=by simp_all
  have k:∀ (j:Nat) (a:AVal) (v:Value),l[j]?=some a->vs[j]?=some v->ARel F w ρ a v:=fun j a v C y=>n (j+1) a v (by simp_all) (by simp_all)
  have z:=n 0 a v (by simp) (by simp)
  simp only[jzy]at c⊢
  split
  ·rename_i p is t
   rw[t]at c
   simp only[List.mem_append]at c
   have s:Bz9 m a=some (p,is):=by simp_all
   obtain⟨B,A⟩:=Azr x g (rs:=rs) e k (fun i hi=>c i (.inr hi))
   refine⟨by grind,fun j b u d f=>?_⟩
   cases j with
   |zero=>
    simp at d f;subst d;subst f
    exact .pure (mzw x g s (fun i hi=>c i (.inl hi)) (fun i hi=>rfl) z)
   |succ j=>grind
  ·rename_i t
   rw[t]at c
   obtain⟨B,A⟩:=Azr x g (rs:=rs) e k c
   refine⟨by grind,fun j b u d f=>?_⟩
   cases j with
   |zero=>simp at d f;subst d;subst f;exact z.mono' (fun b o h=>.inl h) (fun _ _ _=>rfl)
   |succ j=>grind
def az37 (a:Array Value):ResultVar->Sem Value
 | .tmp t=>pure (a.getD t undef)
 | .cell x t=>do loadVar t (←asAddr (a.getD x undef))
theorem az49 (fn:Func)(a:Array Value):results fn a=(do
 let vs←fn.results.mapM (az37 a)
 pure (if h:vs.size=1 then vs[0]else .tuple vs)):=rfl
theorem az63 {b k:Nat}:∀ {l:List AVal} {j:Nat} {r:AVal},AVal.inL b k l=true->l[j]?=some r->r.inIds b k=true
 |[],j,r,_,h=>by grind
 |x::l,0,r,h,a=>by grind[AVal.inL]
 |x::l,j+1,r,h,a=>by
  simp only[AVal.inL,Bool.and_eq_true]at h
  exact az63 (l:=l) (j:=j) h.2 (by simpa using a)
theorem Fzr {X:Cx}{F:Cells}{w:World}{ρ:Env}{s:St}{a:Act}(r:Sat X F w ρ s a):∀ (l:List ResultVar) (vs:List AVal),pzd P s l=some vs->
 ∃m:List Value,(l.mapM (az37 a.tmps)).run P w=.ok m w/\vs.length=m.length/\
  ∀ (j:Nat) (b:AVal) (v:Value),vs[j]?=some b->m[j]?=some v->ARel F w ρ b v
 |[],vs,h=>by simp_all[pzd]
 | .tmp t::l,vs,h=>by
   simp only[pzd]at h
   split at h
   ·rename_i n p
    cases h
    obtain⟨m,f,g,o⟩:=Fzr r l n p
    refine⟨a.tmps.getD t undef::m,by simp only[List.mapM_cons,az37,Sem.run_bind,Sem.run_pure,Result.andThen_ok];rw[f];rfl,by simp[g],fun j b v d k=>?_⟩
    cases j with
    |zero=>simp only[List.getElem?_cons_zero,Option.some.injEq]at d k;subst d;subst k;exact r.fr t
    |succ j=>exact o j b v (by simpa using d) (by simpa using k)
   ·cases h
 | .cell t ty::l,vs,h=>by
   simp only[pzd]at h
   split at h
   ·rename_i i off E
    split at h
    ·rename_i out n q p
     cases h
     obtain⟨m,f,g,o⟩:=Fzr r l n p
     have B:=E▸r.fr t
     simp only[Dzm]at q
     split at q
     ·rename_i J z
      split at q
      ·rename_i v k
       cases q
       obtain⟨c,e,d,I,_,H⟩:=Nzx r.mem z
       generalize D:a.tmps.getD t undef=u at B
       cases B with
       |ptr=>
        obtain⟨x,C,A⟩:∃x,(loadVar ty ⟨ρ.blk i,off,none⟩).run P w=.ok x w/\ARel F w ρ v x:=by
         rcases Vzm (F:=F) (w:=w) (ρ:=ρ) k I.symm (fun j a v f g=>(H j a v f g).1)with⟨f,s,g,o,G⟩|⟨f,u,g,o⟩
         ·exact⟨_,qzt d (.inl ⟨f,s,g,o,rfl⟩),G⟩
         ·exact⟨_,qzt d (.inr ⟨f,g⟩),o⟩
        have y:(asAddr (a.tmps.getD t undef)).run P w=.ok ⟨ρ.blk i,off,none⟩ w:=by rw[D];rfl
        refine⟨x::m,by rw[List.mapM_cons];simp only[Sem.run_bind,show az37 a.tmps (.cell t ty)=(do loadVar ty (←asAddr (a.tmps.getD t undef)))from rfl,y,Result.andThen_ok,C,f,Sem.run_pure],by simp[g],fun j b v d k=>?_⟩
        cases j with
        |zero=>simp only[List.getElem?_cons_zero,Option.some.injEq]at d k;subst d;subst k;exact A
        |succ j=>exact o j b v (by simpa using d) (by simpa using k)
      ·cases q
     ·cases q
    ·cases h
   ·cases h
theorem Dzv {fn:Func}{a:Array Value}{R:Ending->World->Prop}{F:Cells}{w:World}{ρ:Env}{v:Value}(k:(results fn a).run P w=.ok v w)(j:R (.returned v) w):
 ∀ {ds:List Deferred} {xs:List AVal},All2B [] (DRel F w ρ) ds xs->wzf P xs->Leaves P fn a R ds .returning w
 |_,_,.nil,_=>⟨v,k,j⟩
 |_,_,.cons m b,n=>by
  obtain⟨g,h,i,l,d,rfl,rfl,_,_⟩:=m
  obtain⟨⟨p,c⟩,f⟩:=n
  refine⟨by simp,.func g,d,g,l++d,rfl,by grind[invoke,ozc],?_⟩
  refine CallsD.mono (Uza (c (l++d) w)) ?_
  rintro e u o ⟨⟨q,rfl⟩,rfl,rfl⟩
  exact Dzv k j b f
theorem Azv {fn:Func}{a:Array Value}{R:Ending->World->Prop}{F:Cells}{o w:World}{ρ:Env}{v:Value}(l:(results fn a).run P w=.ok v w)(k:R (.returned v) w):
 ∀ {ds:List Deferred} {xs:List AVal},All2B [] (DRel F o ρ) ds xs->wzf P xs->LeavesInM Fence.wide 0 P fn a R ds .returning w
 |_,_,.nil,_=>⟨v,l,k⟩
 |_,_,.cons n b,p=>by
  obtain⟨g,i,j,m,d,rfl,rfl,_,_⟩:=n
  obtain⟨⟨r,c⟩,f⟩:=p
  refine⟨by simp,.inr ⟨(fun h=>by cases h),.func g,d,g,m++d,rfl,by grind[invoke,ozc],fun _ _=>trivial,?_⟩⟩
  refine CallsDIn.mono (c (m++d) w) ?_
  rintro e u q ⟨⟨s,rfl⟩,rfl,rfl⟩
  exact Azv l k b f
theorem az1i {X:Cx}{F:Cells}{w:World}{ρ:Env}{s:St}{a:Act}{fn:Func}(e:Sat X F w ρ s a){vs:List AVal}(h:pzd P s fn.results.toList=some vs):
 ∃c:List Value,(results fn a.tmps).run P w=.ok (if h:c.length=1 then c[0]else .tuple c.toArray) w/\vs.length=c.length/\fn.results.toList.length=c.length/\
  ∀ (j:Nat) (b:AVal) (v:Value),vs[j]?=some b->c[j]?=some v->ARel F w ρ b v:=by
 obtain⟨c,g,i,f⟩:=Fzr e _ _ h
 have d:∀ (l:List ResultVar) (vs:List AVal),pzd P s l=some vs->l.length=vs.length:=by
  intro l
  induction l with
  |nil=>grind[pzd]
  |cons r l k=>
   cases r<;>grind[pzd]
 grind[az49,Array.mapM_eq_mapM_toList,Sem.run_bind,Sem.run_map,Result.andThen_ok,Sem.run_pure]
end Go.Abs
