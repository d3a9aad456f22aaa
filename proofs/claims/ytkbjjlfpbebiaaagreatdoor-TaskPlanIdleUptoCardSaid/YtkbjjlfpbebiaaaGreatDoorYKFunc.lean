/-
  Func (a part of a claim: our own text).
-/
import Derived.Test.YtkbjjlfpbebiaaaGreatDoorYKCode
namespace Go.Abs
def Tzm:AVal->Bool
 | .pure _=>true
 |_=>false
def gz5 (m:Mem):List AVal->List AVal->List AVal×List Nat
 |a::l,r::rs=>match(if Tzm r then kzb m a else none)with
  |some (p,is)=>(.pure p::(gz5 m l rs).1,is++(gz5 m l rs).2)
  |none=>(a::(gz5 m l rs).1,(gz5 m l rs).2)
 |l,_=>(l,[])
def izx (P:Program)(s:St):List ResultVar->Option (List AVal)
 |[]=>some []
 | .tmp t::l=>match izx P s l with
   |some vs=>some (s.get t::vs)
   |none=>none
 | .cell t ty::l=>match s.get t with
   | .ptr i o=>match sz4 P ty (.ptr i o) s.mem,izx P s l with
     |some out,some vs=>some (out.val::vs)
     |_,_=>none
   |_=>none
def gzd:AVal->List AVal
 | .tup cs=>cs
 |a=>[a]
theorem Gz8 {P:Program}{f:FuncId}{args:Array Value}{u:FrameMode}{w:World}{R:Ending->FrameMode->World->Prop}(h:CallsDIn Fence.wide 0 P f args u w R):CallsD P f args u w R:=by
 intro c cs hu
 obtain⟨e,u',w',fr,hR,hs,h1,_,h2⟩:=h.2 c cs hu (room_wide _)
 exact⟨e,u',w',fr,hR,comesIn_wide.1 hs,h1,h2⟩
theorem Dzm {P:Program}{f:FuncId}{fn:Func}{c:Code}{args:Array Value}{u:FrameMode}{w:World}{R:Ending->FrameMode->World->Prop}
 (hf:P.funcs[f]?=some fn) (hb:fn.body=some c)
 (h:∀ (c₀:Frame) (cs:List Frame),c₀.mode=u->
  c.wpS P (bodyPostS P fn c₀ cs R) {tmps:=args++Array.replicate (fn.ntmps-args.size) undef,defers:=[]} (c₀::cs) w):
 CallsDIn Fence.wide 0 P f args u w R:=by
 refine⟨trivial,fun c₀ cs hu _=>?_⟩
 let b:Frame:={(default:Frame)with fn:=f,kind:=.deferred}
 have henter:Frame.enter P f args .deferred=
  b.at {tmps:=args++Array.replicate (fn.ntmps-args.size) undef,defers:=[]} [.code c]:=by
  simp[Frame.enter,Frame.at,hf,hb,b]
 obtain⟨e,a',cs',w',hq,harr⟩:=h c₀ cs hu b [] rfl rfl
 rw[←henter]at harr
 cases e with
 |normal=>
  obtain⟨hd,u',rfl,v,hr,hR⟩:=hq
  exact⟨.returned v,u',w',_,hR,stepsIn_wide.2 (Steps.trans harr (.one step_end)),rfl,rfl,rfl,hd,fn,hf,hr⟩
 |ret=>
  obtain⟨hd,u',rfl,v,hr,hR⟩:=hq
  obtain⟨todo,hs⟩:=harr
  exact⟨.returned v,u',w',_,hR,stepsIn_wide.2 hs,rfl,rfl,rfl,hd,fn,hf,hr⟩
 |panic chain=>
  obtain⟨hd,u',rfl,hR⟩:=hq
  obtain⟨todo,hs⟩:=harr
  exact⟨.panicked chain,u',w',_,hR,stepsIn_wide.2 hs,rfl,rfl,rfl,hd,fn,hf⟩
 |exit id=>exact hq.elim
 |goto l=>exact hq.elim
 |outgrown=>
  obtain⟨u',hR⟩:=hq
  exact⟨.outgrown,u',w',b,hR,harr.resolve_left (by simp[b]),rfl,rfl,trivial⟩
structure GuardFn (P:Program) (g:FuncId):Prop where
 callable:Fzz P g
 calls:∀args w,CallsDIn Fence.wide 0 P g args .returning w fun e u w'=>(∃v,e=.returned v)/\u=.returning/\w'=w
def nzo (P:Program):List AVal->Prop
 |[]=>True
 | .func g _ _::l=>GuardFn P g/\nzo P l
 |_::_=>False
def Hz8 (n0:Nat)(s:St)(acts rs:List AVal)(m':Mem):List (Nat×Nat):=
 let σ:=xzw n0 rs acts
 σ++mz8 n0 s σ m'
mutual
def AVal.inIds (n0 k:Nat):AVal->Bool
 | .agg cs| .tup cs=>AVal.inL n0 k cs
 | .iface _ a=>AVal.inIds n0 k a
 | .vec i| .ptr i _| .eptr i _ _ _| .map i| .bsl i _| .view i _ _ _=>decide (i<n0)||(decide (k≤i)&&decide (i<k+64))
 | .func _ a b=>AVal.inL n0 k a&&AVal.inL n0 k b
 | .any| .pure _| .tt| .ff| .ref _| .anyb| .yld _| .clip _| .nilp=>true
def AVal.inL (n0 k:Nat):List AVal->Bool
 |[]=>true
 |a::l=>AVal.inIds n0 k a&&AVal.inL n0 k l
end
def Res.inIds (n0 k:Nat):Res->Bool
 | .box cs=>AVal.inL n0 k cs
 | .vecX _ _ _ _ _ _ i=>decide (i<n0)||(decide (k≤i)&&decide (i<k+64))
 | .vecU _ _ _ _ _ _ _ _ hs=>hs.all fun x=>decide (x.2<n0)||(decide (k≤x.2)&&decide (x.2<k+64))
 |_=>true
def Pz0 (n0 k:Nat):Mem->Bool
 |[]=>true
 |(i,r)::m=>(decide (i<n0)||(decide (k≤i)&&decide (i<k+64)))&&Res.inIds n0 k r&&Pz0 n0 k m
def Jz6:AVal->Bool
 | .tup _=>true
 |_=>false
def Hzm (P:Program)(n0 k:Nat)(results:List ResultVar)(res:AVal)(m':Mem)(s:St):Prop:=
 match izx P s results with
 |none=>False
 |some vs=>
  let hb:=gz5 s.mem vs (gzd res)
  let τ:=idOf n0 (Hz8 n0 s hb.1 (gzd res) m')
  if injB τ m'&&Pz0 n0 k m'&&AVal.inL n0 k (gzd res)&&((results.length==1) !=Jz6 res)then
   rzb hb.1 (AVal.renL τ (gzd res))/\MSub (bz6 s.mem hb.2++s.mem) (Mem.ren τ m')/\nzo P s.df
  else False
def ozv:Nat->List AVal->List (Nat×AVal)
 |_,[]=>[]
 |i,a::l=>(i,a)::ozv (i+1) l
theorem wz2:∀ (l:List AVal) (i t:Nat),lz8 (ozv i l) t=if i≤t then(l[t-i]?).getD .any else .any
 |[],i,t=>by simp[ozv,lz8]
 |a::l,i,t=>by
  simp only[ozv,lz8]
  by_cases h:i=t
  ·subst h;simp
  ·rw[if_neg h,wz2 l (i+1) t]
   by_cases h2:i≤t
   ·rw[if_pos h2,if_pos (by omega),show t-i=(t- (i+1))+1 by omega]
    simp
   ·rw[if_neg h2,if_neg (by omega)]
mutual
theorem Oze {n0 k i:Nat}(hi:¬ (i<n0\/Own k i)):∀ {a:AVal},a.inIds n0 k=true->a.has i=false
 | .agg cs,h=>by simp only[AVal.inIds]at h;simp only[AVal.has];exact wzg hi h
 | .tup cs,h=>by simp only[AVal.inIds]at h;simp only[AVal.has];exact wzg hi h
 | .vec j,h=>by
   simp[AVal.inIds]at h;simp[AVal.has]
   exact fun e=>hi (by subst e;exact h)
 | .ptr j _,h=>by
   simp[AVal.inIds]at h;simp[AVal.has]
   exact fun e=>hi (by subst e;exact h)
 | .eptr j _ _ _,h=>by
   simp[AVal.inIds]at h;simp[AVal.has]
   exact fun e=>hi (by subst e;exact h)
 | .map j,h=>by
   simp[AVal.inIds]at h;simp[AVal.has]
   exact fun e=>hi (by subst e;exact h)
 | .bsl j _,h=>by
   simp[AVal.inIds]at h;simp[AVal.has]
   exact fun e=>hi (by subst e;exact h)
 | .view j _ _ _,h=>by
   simp[AVal.inIds]at h;simp[AVal.has]
   exact fun e=>hi (by subst e;exact h)
 | .iface _ a,h=>by simp only[AVal.inIds]at h;simp only[AVal.has];exact Oze hi h
 | .func _ a b,h=>by
   simp only[AVal.inIds,Bool.and_eq_true]at h
   simp only[AVal.has,wzg hi h.1,wzg hi h.2,Bool.or_self]
 | .any,_=>rfl
 | .pure _,_=>rfl
 | .tt,_=>rfl
 | .ff,_=>rfl
 | .ref _,_=>rfl
 | .anyb,_=>rfl
 | .nilp,_=>rfl
 | .clip _,_=>rfl
 | .yld _,_=>rfl
theorem wzg {n0 k i:Nat}(hi:¬ (i<n0\/Own k i)):∀ {l:List AVal},AVal.inL n0 k l=true->AVal.hasL i l=false
 |[],_=>rfl
 |a::l,h=>by
  simp only[AVal.inL,Bool.and_eq_true]at h
  simp only[AVal.hasL,Oze hi h.1,wzg hi h.2,Bool.or_self]
end
theorem Bzu {n0 k:Nat}:∀ {m:Mem},Pz0 n0 k m=true->∀ {i:Nat} {r:Res},m.get i=some r->(i<n0\/Own k i)/\r.inIds n0 k=true
 |[],_,i,r,h=>by simp[Mem.get]at h
 |(j,q)::m,hm,i,r,h=>by
  simp only[Pz0,Bool.and_eq_true,Bool.or_eq_true,decide_eq_true_eq]at hm
  simp only[Mem.get]at h
  split at h
  ·rename_i e;subst e;cases h;exact⟨hm.1.1,hm.1.2⟩
  ·exact Bzu hm.2 h
variable {P:Program}
theorem qz7 {F:Cells}{w:World}{ρ:Env}{Mine:Nat->Prop}{m:Mem}(hm:MemOk F w ρ Mine m)(g:Good F w Mine){js:List Nat}:∀ {l rs:List AVal} {vs:List Value},l.length=vs.length->
 (∀ (j:Nat) (a:AVal) (v:Value),l[j]?=some a->vs[j]?=some v->ARel F w ρ a v)->(∀i∈(gz5 m l rs).2,i∈js)->
 (gz5 m l rs).1.length=vs.length/\∀ (j:Nat) (a:AVal) (v:Value),(gz5 m l rs).1[j]?=some a->vs[j]?=some v->ARel (czu F w ρ m js) w ρ a v
 |[],rs,vs,hl,_,_=>by
  have e:gz5 m [] rs=([],[]):=by cases rs<;>rfl
  rw[e];exact⟨hl,by simp⟩
 |a::l,[],vs,hl,hr,_=>by
  simp only[gz5]
  exact⟨hl,fun j b v hb hv=>(hr j b v hb hv).mono' (fun b o h=>.inl h) (fun _ _ _=>rfl)⟩
 |a::l,r::rs,[],hl,_,_=>by simp at hl
 |a::l,r::rs,v::vs,hl,hr,hsub=>by
  have hl':l.length=vs.length:=by simpa using hl
  have hr':∀ (j:Nat) (a:AVal) (v:Value),l[j]?=some a->vs[j]?=some v->ARel F w ρ a v:=fun j a v ha hv=>hr (j+1) a v (by simpa using ha) (by simpa using hv)
  have h0:=hr 0 a v (by simp) (by simp)
  simp only[gz5]at hsub⊢
  split
  ·rename_i p is hp
   rw[hp]at hsub
   simp only[List.mem_append]at hsub
   have hp':kzb m a=some (p,is):=by split at hp<;>first|exact hp|cases hp
   obtain⟨h1,h2⟩:=qz7 hm g (rs:=rs) hl' hr' (fun i hi=>hsub i (.inr hi))
   refine⟨by simp[h1],fun j b u hb hu=>?_⟩
   cases j with
   |zero=>
    simp at hb hu;subst hb;subst hu
    exact .pure (fze hm g hp' (fun i hi=>hsub i (.inl hi)) (fun i hi=>rfl) h0)
   |succ j=>exact h2 j b u (by simpa using hb) (by simpa using hu)
  ·rename_i hp
   rw[hp]at hsub
   obtain⟨h1,h2⟩:=qz7 hm g (rs:=rs) hl' hr' hsub
   refine⟨by simp[h1],fun j b u hb hu=>?_⟩
   cases j with
   |zero=>simp at hb hu;subst hb;subst hu;exact h0.mono' (fun b o h=>.inl h) (fun _ _ _=>rfl)
   |succ j=>exact h2 j b u (by simpa using hb) (by simpa using hu)
def Mzo (tmps:Array Value):ResultVar->Sem Value
 | .tmp t=>pure (tmps.getD t undef)
 | .cell x t=>do loadVar t (←asAddr (tmps.getD x undef))
theorem Nzd (fn:Func)(tmps:Array Value):results fn tmps=(do
 let vs←fn.results.mapM (Mzo tmps)
 pure (if h:vs.size=1 then vs[0]else .tuple vs)):=rfl
theorem Ozd {n0 k:Nat}:∀ {l:List AVal} {j:Nat} {r:AVal},AVal.inL n0 k l=true->l[j]?=some r->r.inIds n0 k=true
 |[],j,r,_,h=>by simp at h
 |x::l,0,r,h,h2=>by simp only[AVal.inL,Bool.and_eq_true]at h;simp at h2;subst h2;exact h.1
 |x::l,j+1,r,h,h2=>by
  simp only[AVal.inL,Bool.and_eq_true]at h
  exact Ozd (l:=l) (j:=j) h.2 (by simpa using h2)
theorem tz6 {X:Cx}{F:Cells}{w:World}{ρ:Env}{s:St}{a:Act}(hs:Sat X F w ρ s a):∀ (l:List ResultVar) (vs:List AVal),izx P s l=some vs->
 ∃us:List Value,(l.mapM (Mzo a.tmps)).run P w=.ok us w/\vs.length=us.length/\
  ∀ (j:Nat) (b:AVal) (v:Value),vs[j]?=some b->us[j]?=some v->ARel F w ρ b v
 |[],vs,h=>by simp[izx]at h;subst h;exact⟨[],by simp,by simp,by simp⟩
 | .tmp t::l,vs,h=>by
   simp only[izx]at h
   split at h
   ·rename_i vs' hv'
    cases h
    obtain⟨us,h1,h2,h3⟩:=tz6 hs l vs' hv'
    refine⟨a.tmps.getD t undef::us,by simp only[List.mapM_cons,Mzo,Sem.run_bind,Sem.run_pure,Result.andThen_ok];rw[h1];rfl,by simp[h2],fun j b v hb hv=>?_⟩
    cases j with
    |zero=>simp only[List.getElem?_cons_zero,Option.some.injEq]at hb hv;subst hb;subst hv;exact hs.fr t
    |succ j=>exact h3 j b v (by simpa using hb) (by simpa using hv)
   ·cases h
 | .cell t ty::l,vs,h=>by
   simp only[izx]at h
   split at h
   ·rename_i i off ht
    split at h
    ·rename_i out vs' ho hv'
     cases h
     obtain⟨us,h1,h2,h3⟩:=tz6 hs l vs' hv'
     have hp:=ht▸hs.fr t
     simp only[sz4]at ho
     split at ho
     ·rename_i cs hcs
      split at ho
      ·rename_i v hv
       cases ho
       obtain⟨c,e,hb,hl,_,hr⟩:=Azo hs.mem hcs
       generalize hu:a.tmps.getD t undef=u at hp
       cases hp with
       |ptr=>
        obtain⟨x,hx,hxr⟩:∃x,(loadVar ty ⟨ρ.blk i,off,none⟩).run P w=.ok x w/\ARel F w ρ v x:=by
         rcases Hzg (F:=F) (w:=w) (ρ:=ρ) hv hl.symm (fun j a v h1 h2=>(hr j a v h1 h2).1)with⟨h1,s,h2,h3,h4⟩|⟨h1,u,h2,h3⟩
         ·exact⟨_,izu hb (.inl ⟨h1,s,h2,h3,rfl⟩),h4⟩
         ·exact⟨_,izu hb (.inr ⟨h1,h2⟩),h3⟩
        have hasa:(asAddr (a.tmps.getD t undef)).run P w=.ok ⟨ρ.blk i,off,none⟩ w:=by rw[hu];rfl
        refine⟨x::us,by rw[List.mapM_cons];simp only[Sem.run_bind,show Mzo a.tmps (.cell t ty)=(do loadVar ty (←asAddr (a.tmps.getD t undef)))from rfl,hasa,Result.andThen_ok,hx,h1,Sem.run_pure],by simp[h2],fun j b v hb hv=>?_⟩
        cases j with
        |zero=>simp only[List.getElem?_cons_zero,Option.some.injEq]at hb hv;subst hb;subst hv;exact hxr
        |succ j=>exact h3 j b v (by simpa using hb) (by simpa using hv)
      ·cases ho
     ·cases ho
    ·cases h
   ·cases h
theorem sz7 {fn:Func}{tmps:Array Value}{R:Ending->World->Prop}{F:Cells}{w:World}{ρ:Env}{v:Value}(hr:(results fn tmps).run P w=.ok v w)(hR:R (.returned v) w):
 ∀ {ds:List Deferred} {xs:List AVal},All2B [] (DRel F w ρ) ds xs->nzo P xs->Leaves P fn tmps R ds .returning w
 |_,_,.nil,_=>⟨v,hr,hR⟩
 |_,_,.cons hx hrest,hg=>by
  obtain⟨g,first,caps,v1,v2,rfl,rfl,_,_⟩:=hx
  obtain⟨⟨hc,hcall⟩,hg'⟩:=hg
  refine⟨by simp,.func g,v2,g,v1++v2,rfl,by simp only[invoke,jzf hc],?_⟩
  refine CallsD.mono (Gz8 (hcall (v1++v2) w)) ?_
  rintro e u w' ⟨⟨v',rfl⟩,rfl,rfl⟩
  exact sz7 hr hR hrest hg'
theorem qz9 {fn:Func}{tmps:Array Value}{R:Ending->World->Prop}{F:Cells}{w0 w:World}{ρ:Env}{v:Value}(hr:(results fn tmps).run P w=.ok v w)(hR:R (.returned v) w):
 ∀ {ds:List Deferred} {xs:List AVal},All2B [] (DRel F w0 ρ) ds xs->nzo P xs->LeavesInM Fence.wide 0 P fn tmps R ds .returning w
 |_,_,.nil,_=>⟨v,hr,hR⟩
 |_,_,.cons hx hrest,hg=>by
  obtain⟨g,first,caps,v1,v2,rfl,rfl,_,_⟩:=hx
  obtain⟨⟨hc,hcall⟩,hg'⟩:=hg
  refine⟨by simp,.inr ⟨(fun h=>by cases h),.func g,v2,g,v1++v2,rfl,by simp only[invoke,jzf hc],fun _ _=>trivial,?_⟩⟩
  refine CallsDIn.mono (hcall (v1++v2) w) ?_
  rintro e u w' ⟨⟨v',rfl⟩,rfl,rfl⟩
  exact qz9 hr hR hrest hg'
theorem Lzn {X:Cx}{F:Cells}{w:World}{ρ:Env}{s:St}{a:Act}{fn:Func}(hs:Sat X F w ρ s a){vs:List AVal}(h:izx P s fn.results.toList=some vs):
 ∃us:List Value,(results fn a.tmps).run P w=.ok (if h:us.length=1 then us[0]else .tuple us.toArray) w/\vs.length=us.length/\fn.results.toList.length=us.length/\
  ∀ (j:Nat) (b:AVal) (v:Value),vs[j]?=some b->us[j]?=some v->ARel F w ρ b v:=by
 obtain⟨us,h1,h2,h3⟩:=tz6 hs _ _ h
 have hlen:∀ (l:List ResultVar) (vs:List AVal),izx P s l=some vs->l.length=vs.length:=by
  intro l
  induction l with
  |nil=>intro vs h;simp[izx]at h;subst h;rfl
  |cons r l ih=>
   intro vs h
   cases r with
   |tmp t=>
    simp only[izx]at h
    split at h
    ·rename_i vs' hv;cases h;simp[ih _ hv]
    ·cases h
   |cell t ty=>
    simp only[izx]at h
    split at h
    ·split at h
     ·rename_i hv;cases h;simp[ih _ hv]
     ·cases h
    ·cases h
 refine⟨us,?_,h2,by rw[hlen _ _ h,h2],h3⟩
 rw[Nzd,Array.mapM_eq_mapM_toList]
 simp only[Sem.run_bind,Sem.run_map,h1,Result.andThen_ok,Sem.run_pure]
 congr 1
end Go.Abs
