import Derived.Test.YtjonhijmljhjlaaGreatYJCode
open Array renaming replicate->zJ
open Bool renaming and_eq_true->qm,or_self->wi
open Go renaming Value->qr,World->qn,Program->qo
open Go.Result renaming andThen_ok->zL
open Go.Sem renaming run_bind->zM,run_pure->zN
open List renaming mapM_cons->zK,getElem?_cons_zero->zx
namespace Go.Abs
def az8l:AVal->Bool
 | .pure _=>true
 |_=>false
def izm (m:Mem):List AVal->List AVal->List AVal×List Nat
 |a::l,r::rs=>match(if az8l r then vz1 m a else none)with
  |some (p,is)=>(.pure p::(izm m l rs).1,is++(izm m l rs).2)
  |none=>(a::(izm m l rs).1,(izm m l rs).2)
 |l,_=>(l,[])
def mzr (P:qo)(s:St):List ResultVar->Option (List AVal)
 |[]=>some []
 | .tmp t::l=>match mzr P s l with
   |some vs=>some (s.get t::vs)
   |none=>none
 | .cell t ty::l=>match s.get t with
   | .ptr i o=>match Cz3 P ty (.ptr i o) s.mem,mzr P s l with
     |some out,some vs=>some (out.val::vs)
     |_,_=>none
   |_=>none
def jz4:AVal->List AVal
 | .tup cs=>cs
 |a=>[a]
theorem Pz9 {P:qo}{f:FuncId}{args:Array qr}{u:FrameMode}{w:qn}{R:Ending->FrameMode->qn->Prop}(h:CallsDIn Fence.wide 0 P f args u w R):CallsD P f args u w R:=by
 intro c cs hu;obtain⟨e,u',w',fr,hR,hs,h1,_,h2⟩:=h.2 c cs hu (room_wide _);exact⟨e,u',w',fr,hR,comesIn_wide.1 hs,h1,h2⟩
theorem Nz0 {P:qo}{f:FuncId}{fn:Func}{c:Code}{args:Array qr}{u:FrameMode}{w:qn}{R:Ending->FrameMode->qn->Prop}
 (hf:P.funcs[f]?=some fn) (hb:fn.body=some c)
 (h:∀ (c₀:Frame) (cs:List Frame),c₀.mode=u->
  c.wpS P (bodyPostS P fn c₀ cs R) {tmps:=args++zJ (fn.ntmps-args.size) undef,defers:=[]} (c₀::cs) w):
 CallsDIn Fence.wide 0 P f args u w R:=by
 refine⟨trivial,λc₀ cs hu _=>?_⟩;let b:Frame:={(default:Frame)with fn:=f,kind:=.deferred}
 have henter:Frame.enter P f args .deferred=
  b.at {tmps:=args++zJ (fn.ntmps-args.size) undef,defers:=[]} [.code c]:=by
  simp[Frame.enter,Frame.at,hf,hb,b]
 obtain⟨e,a',cs',w',hq,harr⟩:=h c₀ cs hu b [] rfl rfl;rw[<-henter]at harr;cases e with
 |normal=>
  obtain⟨hd,u',rfl,v,hr,hR⟩:=hq;exact⟨.returned v,u',w',_,hR,stepsIn_wide.2 (Steps.trans harr (.one step_end)),rfl,rfl,rfl,hd,fn,hf,hr⟩
 |ret=>
  obtain⟨hd,u',rfl,v,hr,hR⟩:=hq;obtain⟨todo,hs⟩:=harr;exact⟨.returned v,u',w',_,hR,stepsIn_wide.2 hs,rfl,rfl,rfl,hd,fn,hf,hr⟩
 |panic chain=>
  obtain⟨hd,u',rfl,hR⟩:=hq;obtain⟨todo,hs⟩:=harr;exact⟨.panicked chain,u',w',_,hR,stepsIn_wide.2 hs,rfl,rfl,rfl,hd,fn,hf⟩
 |exit id=>exact hq.elim
 |goto l=>exact hq.elim
 |outgrown=>
  obtain⟨u',hR⟩:=hq;exact⟨.outgrown,u',w',b,hR,harr.resolve_left (by simp[b]),rfl,rfl,trivial⟩
structure GuardFn (P:qo) (g:FuncId):Prop where
 callable:Pz1 P g
 calls:∀args w,CallsDIn Fence.wide 0 P g args .returning w λe u w'=>(∃v,e=.returned v)/\u=.returning/\w'=w
def vzg (P:qo):List AVal->Prop
 |[]=>True
 | .func g _ _::l=>GuardFn P g/\vzg P l
 |_::_=>False
def Qzf (n0:Nat)(s:St)(acts rs:List AVal)(m':Mem):List (Nat×Nat):=
 let σ:=Izf n0 rs acts
 σ++rzs n0 s σ m'
mutual
def AVal.inIds (n0 k:Nat):AVal->Bool
 | .agg cs| .tup cs=>AVal.inL n0 k cs
 | .iface _ a=>AVal.inIds n0 k a
 | .vec i| .ptr i _| .eptr i _ _ _| .map i| .bsl i _| .view i _ _ _=>decide (i<n0)||(decide (k<=i)&&decide (i<k+64))
 | .func _ a b=>AVal.inL n0 k a&&AVal.inL n0 k b
 | .any| .pure _| .tt| .ff| .ref _| .anyb| .yld _| .clip _=>true
def AVal.inL (n0 k:Nat):List AVal->Bool
 |[]=>true
 |a::l=>AVal.inIds n0 k a&&AVal.inL n0 k l
end
def Res.inIds (n0 k:Nat):Res->Bool
 | .box cs=>AVal.inL n0 k cs
 | .vecX _ _ _ _ _ _ i=>decide (i<n0)||(decide (k<=i)&&decide (i<k+64))
 | .vecU _ _ _ _ _ _ _ _ hs=>hs.all λx=>decide (x.2<n0)||(decide (k<=x.2)&&decide (x.2<k+64))
 |_=>true
def az1z (n0 k:Nat):Mem->Bool
 |[]=>true
 |(i,r)::m=>(decide (i<n0)||(decide (k<=i)&&decide (i<k+64)))&&Res.inIds n0 k r&&az1z n0 k m
def Szw:AVal->Bool
 | .tup _=>true
 |_=>false
def Rz7 (P:qo)(n0 k:Nat)(results:List ResultVar)(res:AVal)(m':Mem)(s:St):Prop:=
 match mzr P s results with
 |none=>False
 |some vs=>
  let hb:=izm s.mem vs (jz4 res);let τ:=idOf n0 (Qzf n0 s hb.1 (jz4 res) m')
  if injB τ m'&&az1z n0 k m'&&AVal.inL n0 k (jz4 res)&&((results.length==1) !=Szw res)then
   Bzn hb.1 (AVal.renL τ (jz4 res))/\MSub (bzp s.mem hb.2++s.mem) (Mem.ren τ m')/\vzg P s.df
  else False
def xzn:Nat->List AVal->List (Nat×AVal)
 |_,[]=>[]
 |i,a::l=>(i,a)::xzn (i+1) l
theorem Gzq:∀ (l:List AVal) (i t:Nat),qze (xzn i l) t=if i<=t then(l[t-i]?).getD .any else .any
 |[],i,t=>by simp[xzn,qze]
 |a::l,i,t=>by
  simp only[xzn,qze];by_cases h:i=t
  ·subst h;simp
  ·rw[qb h,Gzq l (i+1) t];by_cases h2:i<=t
   ·rw[qc h2,qc qa,show t-i=(t- (i+1))+1 from qa];simp
   ·rw[qb h2,qb qa]
mutual
theorem az19 {n0 k i:Nat}(hi:¬ (i<n0\/Own k i)):∀ {a:AVal},a.inIds n0 k=true->a.has i=false
 | .agg cs,h=>by simp only[AVal.inIds]at h;simp only[AVal.has];exact Hz4 hi h
 | .tup cs,h=>by simp only[AVal.inIds]at h;simp only[AVal.has];exact Hz4 hi h
 | .vec j,h=>by
   simp[AVal.inIds]at h;simp[AVal.has];exact λe=>hi (by subst e;exact h)
 | .ptr j _,h=>by
   simp[AVal.inIds]at h;simp[AVal.has];exact λe=>hi (by subst e;exact h)
 | .eptr j _ _ _,h=>by
   simp[AVal.inIds]at h;simp[AVal.has];exact λe=>hi (by subst e;exact h)
 | .map j,h=>by
   simp[AVal.inIds]at h;simp[AVal.has];exact λe=>hi (by subst e;exact h)
 | .bsl j _,h=>by
   simp[AVal.inIds]at h;simp[AVal.has];exact λe=>hi (by subst e;exact h)
 | .view j _ _ _,h=>by
   simp[AVal.inIds]at h;simp[AVal.has];exact λe=>hi (by subst e;exact h)
 | .iface _ a,h=>by simp only[AVal.inIds]at h;simp only[AVal.has];exact az19 hi h
 | .func _ a b,h=>by
   simp only[AVal.inIds,qm]at h;simp only[AVal.has,Hz4 hi h.1,Hz4 hi h.2,wi]
 | .any,_=>rfl
 | .pure _,_=>rfl
 | .tt,_=>rfl
 | .ff,_=>rfl
 | .ref _,_=>rfl
 | .anyb,_=>rfl
 | .clip _,_=>rfl
 | .yld _,_=>rfl
theorem Hz4 {n0 k i:Nat}(hi:¬ (i<n0\/Own k i)):∀ {l:List AVal},AVal.inL n0 k l=true->AVal.hasL i l=false
 |[],_=>rfl
 |a::l,h=>by
  simp only[AVal.inL,qm]at h;simp only[AVal.hasL,az19 hi h.1,Hz4 hi h.2,wi]
end
theorem Lzi {n0 k:Nat}:∀ {m:Mem},az1z n0 k m=true->∀ {i:Nat} {r:Res},m.get i=some r->(i<n0\/Own k i)/\r.inIds n0 k=true
 |[],_,i,r,h=>by simp[Mem.get]at h
 |(j,q)::m,hm,i,r,h=>by
  simp only[az1z,qm,Bool.or_eq_true,qf]at hm;simp only[Mem.get]at h;split at h
  ·rename_i e;subst e;cases h;exact⟨hm.1.1,hm.1.2⟩
  ·exact Lzi hm.2 h
variable {P:qo}
theorem zz7 {F:Cells}{w:qn}{ρ:Env}{Mine:Nat->Prop}{m:Mem}(hm:MemOk F w ρ Mine m)(g:Good F w Mine){js:List Nat}:∀ {l rs:List AVal} {vs:List qr},l.length=vs.length->
 (∀ (j:Nat) (a:AVal) (v:qr),l[j]?=some a->vs[j]?=some v->ARel F w ρ a v)->(∀i∈(izm m l rs).2,i∈js)->
 (izm m l rs).1.length=vs.length/\∀ (j:Nat) (a:AVal) (v:qr),(izm m l rs).1[j]?=some a->vs[j]?=some v->ARel (ez0 F w ρ m js) w ρ a v
 |[],rs,vs,hl,_,_=>by
  have e:izm m [] rs=([],[]):=by cases rs<;>rfl
  rw[e];exact⟨hl,by simp⟩
 |a::l,[],vs,hl,hr,_=>by
  simp only[izm];exact⟨hl,λj b v hb hv=>(hr j b v hb hv).mono' (λb o h=>.inl h) (λ_ _ _=>rfl)⟩
 |a::l,r::rs,[],hl,_,_=>by simp at hl
 |a::l,r::rs,v::vs,hl,hr,hsub=>by
  have hl':l.length=vs.length:=by simpa using hl
  have hr':∀ (j:Nat) (a:AVal) (v:qr),l[j]?=some a->vs[j]?=some v->ARel F w ρ a v:=λj a v ha hv=>hr (j+1) a v (by simpa using ha) (by simpa using hv)
  have h0:=hr 0 a v (by simp) (by simp);simp only[izm]at hsub⊢;split
  ·rename_i p is hp;rw[hp]at hsub;simp only[List.mem_append]at hsub;have hp':vz1 m a=some (p,is):=by split at hp<;>first|exact hp|cases hp
   obtain⟨h1,h2⟩:=zz7 hm g (rs:=rs) hl' hr' (λi hi=>hsub i (.inr hi));refine⟨by simp[h1],λj b u hb hu=>?_⟩;cases j with
   |zero=>
    simp at hb hu;subst hb;subst hu;exact .pure (izq hm g hp' (λi hi=>hsub i (.inl hi)) (λi hi=>rfl) h0)
   |succ j=>exact h2 j b u (by simpa using hb) (by simpa using hu)
  ·rename_i hp;rw[hp]at hsub;obtain⟨h1,h2⟩:=zz7 hm g (rs:=rs) hl' hr' hsub;refine⟨by simp[h1],λj b u hb hu=>?_⟩;cases j with
   |zero=>simp at hb hu;subst hb;subst hu;exact h0.mono' (λb o h=>.inl h) (λ_ _ _=>rfl)
   |succ j=>exact h2 j b u (by simpa using hb) (by simpa using hu)
def Yzd (tmps:Array qr):ResultVar->Sem qr
 | .tmp t=>pure (tmps.getD t undef)
 | .cell x t=>do loadVar t (<-asAddr (tmps.getD x undef))
theorem Zzu (fn:Func)(tmps:Array qr):results fn tmps=(do
 let vs<-fn.results.mapM (Yzd tmps)
 pure (if h:vs.size=1 then vs[0]else .tuple vs)):=rfl
theorem az18 {n0 k:Nat}:∀ {l:List AVal} {j:Nat} {r:AVal},AVal.inL n0 k l=true->l[j]?=some r->r.inIds n0 k=true
 |[],j,r,_,h=>by simp at h
 |x::l,0,r,h,h2=>by simp only[AVal.inL,qm]at h;simp at h2;subst h2;exact h.1
 |x::l,j+1,r,h,h2=>by
  simp only[AVal.inL,qm]at h;exact az18 (l:=l) (j:=j) h.2 (by simpa using h2)
theorem Ez3 {X:Cx}{F:Cells}{w:qn}{ρ:Env}{s:St}{a:Act}(hs:Sat X F w ρ s a):∀ (l:List ResultVar) (vs:List AVal),mzr P s l=some vs->
 ∃us:List qr,(l.mapM (Yzd a.tmps)).run P w=.ok us w/\vs.length=us.length/\
  ∀ (j:Nat) (b:AVal) (v:qr),vs[j]?=some b->us[j]?=some v->ARel F w ρ b v
 |[],vs,h=>by simp[mzr]at h;subst h;exact⟨[],by simp,by simp,by simp⟩
 | .tmp t::l,vs,h=>by
   simp only[mzr]at h;split at h
   ·rename_i vs' hv';cases h;obtain⟨us,h1,h2,h3⟩:=Ez3 hs l vs' hv';refine⟨a.tmps.getD t undef::us,by simp only[zK,Yzd,zM,zN,zL];rw[h1];rfl,by simp[h2],λj b v hb hv=>?_⟩;cases j with
    |zero=>simp only[zx,Option.some.injEq]at hb hv;subst hb;subst hv;exact hs.fr t
    |succ j=>exact h3 j b v (by simpa using hb) (by simpa using hv)
   ·cases h
 | .cell t ty::l,vs,h=>by
   simp only[mzr]at h;split at h
   ·rename_i i off ht;split at h
    ·rename_i out vs' ho hv';cases h;obtain⟨us,h1,h2,h3⟩:=Ez3 hs l vs' hv';have hp:=ht▸hs.fr t;simp only[Cz3]at ho;split at ho
     ·rename_i cs hcs;split at ho
      ·rename_i v hv;cases ho;obtain⟨c,e,hb,hl,_,hr⟩:=Vz7 hs.mem hcs;generalize hu:a.tmps.getD t undef=u at hp;cases hp with
       |ptr=>
        obtain⟨x,hx,hxr⟩:∃x,(loadVar ty ⟨ρ.blk i,off,none⟩).run P w=.ok x w/\ARel F w ρ v x:=by
         rcases Qzr (F:=F) (w:=w) (ρ:=ρ) hv hl.symm (λj a v h1 h2=>(hr j a v h1 h2).1)with⟨h1,s,h2,h3,h4⟩|⟨h1,u,h2,h3⟩
         ·exact⟨_,mz7 hb (.inl ⟨h1,s,h2,h3,rfl⟩),h4⟩
         ·exact⟨_,mz7 hb (.inr ⟨h1,h2⟩),h3⟩
        have hasa:(asAddr (a.tmps.getD t undef)).run P w=.ok ⟨ρ.blk i,off,none⟩ w:=by rw[hu];rfl
        refine⟨x::us,by rw[zK];simp only[zM,show Yzd a.tmps (.cell t ty)=(do loadVar ty (<-asAddr (a.tmps.getD t undef)))from rfl,hasa,zL,hx,h1,zN],by simp[h2],λj b v hb hv=>?_⟩;cases j with
        |zero=>simp only[zx,Option.some.injEq]at hb hv;subst hb;subst hv;exact hxr
        |succ j=>exact h3 j b v (by simpa using hb) (by simpa using hv)
      ·cases ho
     ·cases ho
    ·cases h
   ·cases h
theorem Czb {fn:Func}{tmps:Array qr}{R:Ending->qn->Prop}{F:Cells}{w:qn}{ρ:Env}{v:qr}(hr:(results fn tmps).run P w=.ok v w)(hR:R (.returned v) w):
 ∀ {ds:List Deferred} {xs:List AVal},All2B [] (DRel F w ρ) ds xs->vzg P xs->Leaves P fn tmps R ds .returning w
 |_,_,.nil,_=>⟨v,hr,hR⟩
 |_,_,.cons hx hrest,hg=>by
  obtain⟨g,first,caps,v1,v2,rfl,rfl,_,_⟩:=hx;obtain⟨⟨hc,hcall⟩,hg'⟩:=hg;refine⟨by simp,.func g,v2,g,v1++v2,rfl,by simp only[invoke,oz1 hc],?_⟩;refine CallsD.mono (Pz9 (hcall (v1++v2) w)) ?_;rintro e u w' ⟨⟨v',rfl⟩,rfl,rfl⟩;exact Czb hr hR hrest hg'
theorem zzc {fn:Func}{tmps:Array qr}{R:Ending->qn->Prop}{F:Cells}{w0 w:qn}{ρ:Env}{v:qr}(hr:(results fn tmps).run P w=.ok v w)(hR:R (.returned v) w):
 ∀ {ds:List Deferred} {xs:List AVal},All2B [] (DRel F w0 ρ) ds xs->vzg P xs->LeavesInM Fence.wide 0 P fn tmps R ds .returning w
 |_,_,.nil,_=>⟨v,hr,hR⟩
 |_,_,.cons hx hrest,hg=>by
  obtain⟨g,first,caps,v1,v2,rfl,rfl,_,_⟩:=hx;obtain⟨⟨hc,hcall⟩,hg'⟩:=hg;refine⟨by simp,.inr ⟨(λh=>by cases h),.func g,v2,g,v1++v2,rfl,by simp only[invoke,oz1 hc],λ_ _=>trivial,?_⟩⟩;refine CallsDIn.mono (hcall (v1++v2) w) ?_;rintro e u w' ⟨⟨v',rfl⟩,rfl,rfl⟩;exact zzc hr hR hrest hg'
theorem Wzm {X:Cx}{F:Cells}{w:qn}{ρ:Env}{s:St}{a:Act}{fn:Func}(hs:Sat X F w ρ s a){vs:List AVal}(h:mzr P s fn.results.toList=some vs):
 ∃us:List qr,(results fn a.tmps).run P w=.ok (if h:us.length=1 then us[0]else .tuple us.toArray) w/\vs.length=us.length/\fn.results.toList.length=us.length/\
  ∀ (j:Nat) (b:AVal) (v:qr),vs[j]?=some b->us[j]?=some v->ARel F w ρ b v:=by
 obtain⟨us,h1,h2,h3⟩:=Ez3 hs _ _ h;have hlen:∀ (l:List ResultVar) (vs:List AVal),mzr P s l=some vs->l.length=vs.length:=by
  intro l;induction l with
  |nil=>intro vs h;simp[mzr]at h;subst h;rfl
  |cons r l ih=>
   intro vs h;cases r with
   |tmp t=>
    simp only[mzr]at h;split at h
    ·rename_i vs' hv;cases h;simp[ih _ hv]
    ·cases h
   |cell t ty=>
    simp only[mzr]at h;split at h
    ·split at h
     ·rename_i hv;cases h;simp[ih _ hv]
     ·cases h
    ·cases h
 refine⟨us,?_,h2,by rw[hlen _ _ h,h2],h3⟩;rw[Zzu,Array.mapM_eq_mapM_toList];simp only[zM,Sem.run_map,h1,zL,zN];congr 1
end Go.Abs
