import Derived.Test.YtnfbbidmdkfilaaGreatDoorZDCode
open Array renaming replicate->xR
open Bool renaming and_eq_true->qm,or_self->xJ
open Go renaming Value->qr,World->qn,Program->qo
open Go.Result renaming andThen_ok->xT
open Go.Sem renaming run_bind->xU,run_pure->xV
open List renaming mapM_cons->xS,getElem?_cons_zero->xI
namespace Go.Abs
def azlj:AVal->Bool
 | .pure _=>true
 |_=>false
def jzk (m:Mem):List AVal->List AVal->List AVal×List Nat
 |a::l,r::rs=>match(if azlj r then Cz7 m a else none)with
  |some (p,is)=>(.pure p::(jzk m l rs).1,is++(jzk m l rs).2)
  |none=>(a::(jzk m l rs).1,(jzk m l rs).2)
 |l,_=>(l,[])
def pzt (P:qo)(s:St):List ResultVar->Option (List AVal)
 |[]=>some []
 | .tmp t::l=>match pzt P s l with
   |some vs=>some (s.get t::vs)
   |none=>none
 | .cell t ty::l=>match s.get t with
   | .ptr i o=>match Gzx P ty (.ptr i o) s.mem,pzt P s l with
     |some out,some vs=>some (out.val::vs)
     |_,_=>none
   |_=>none
def izz:AVal->List AVal
 | .tup b=>b
 |a=>[a]
theorem Xze {P:qo}{f:FuncId}{args:Array qr}{u:FrameMode}{w:qn}{R:Ending->FrameMode->qn->Prop}(h:CallsDIn Fence.wide 0 P f args u w R):CallsD P f args u w R:=by
 intro c a b;obtain⟨e,m,k,i,g,l,j,_,d⟩:=h.2 c a b (room_wide _)
 grind[comesIn_wide]
theorem Uzc {P:qo}{f:FuncId}{fn:Func}{c:Code}{args:Array qr}{u:FrameMode}{w:qn}{R:Ending->FrameMode->qn->Prop}
 (s:P.funcs[f]?=some fn) (z:fn.body=some c)
 (h:∀ (a:Frame) (p:List Frame),a.mode=u->
  c.wpS P (bodyPostS P fn a p R) {tmps:=args++xR (fn.ntmps-args.size) undef,defers:=[]} (a::p) w):
 CallsDIn Fence.wide 0 P f args u w R:=by
 refine⟨trivial,λa p x _=>?_⟩;let b:Frame:={(default:Frame)with fn:=f,kind:=.deferred}
 have g:Frame.enter P f args .deferred=
  b.at {tmps:=args++xR (fn.ntmps-args.size) undef,defers:=[]} [.code c]:=by
  grind[Frame.enter,Frame.at]
 obtain⟨e,A,y,q,m,d⟩:=h a p x b [] rfl rfl;rw[<-g]at d;cases e with
 |normal=>
  obtain⟨n,j,rfl,v,r,i⟩:=m;exact⟨.returned v,j,q,_,i,stepsIn_wide.2 (Steps.trans d (.one step_end)),rfl,rfl,rfl,n,fn,s,r⟩
 |ret=>
  obtain⟨n,j,rfl,v,r,i⟩:=m;obtain⟨o,t⟩:=d;exact⟨.returned v,j,q,_,i,stepsIn_wide.2 t,rfl,rfl,rfl,n,fn,s,r⟩
 |panic k=>
  obtain⟨n,j,rfl,i⟩:=m;obtain⟨o,t⟩:=d;exact⟨.panicked k,j,q,_,i,stepsIn_wide.2 t,rfl,rfl,rfl,n,fn,s⟩
 |exit id=>exact m.elim
 |goto l=>exact m.elim
 |outgrown=>
  obtain⟨j,i⟩:=m;exact⟨.outgrown,j,q,b,i,d.resolve_left jq,rfl,rfl,trivial⟩
structure GuardFn (P:qo) (g:FuncId):Prop where
 callable:Xz2 P g
 calls:∀args w,CallsDIn Fence.wide 0 P g args .returning w λe u w'=>(∃v,e=.returned v)/\u=.returning/\w'=w
def yzn (P:qo):List AVal->Prop
 |[]=>True
 | .func g _ _::l=>GuardFn P g/\yzn P l
 |_::_=>False
def Yzn (b:Nat)(s:St)(a rs:List AVal)(c:Mem):List (Nat×Nat):=
 let σ:=Oza b rs a
 σ++uzk b s σ c
mutual
def AVal.inIds (n0 k:Nat):AVal->Bool
 | .agg cs| .tup cs=>AVal.inL n0 k cs
 | .iface _ a=>AVal.inIds n0 k a
 | .vec i| .ptr i _| .eptr i _ _ _| .map i| .bsl i _| .view i _ _ _=>decide (i<n0)||(decide (k<=i)&&decide (i<k+64))
 | .func _ a b=>AVal.inL n0 k a&&AVal.inL n0 k b
 | .any| .pure _| .tt| .ff| .ref _| .anyb| .yld _| .clip _| .nilp=>true
def AVal.inL (c k:Nat):List AVal->Bool
 |[]=>true
 |a::l=>AVal.inIds c k a&&AVal.inL c k l
end
def Res.inIds (a k:Nat):Res->Bool
 | .box c=>AVal.inL a k c
 | .vecX _ _ _ _ _ _ i=>decide (i<a)||(decide (k<=i)&&decide (i<k+64))
 | .vecU _ _ _ _ _ _ _ _ b=>b.all λx=>decide (x.2<a)||(decide (k<=x.2)&&decide (x.2<k+64))
 |_=>true
def azcr (a k:Nat):Mem->Bool
 |[]=>true
 |(i,r)::m=>(decide (i<a)||(decide (k<=i)&&decide (i<k+64)))&&Res.inIds a k r&&azcr a k m
def azc2:AVal->Bool
 | .tup _=>true
 |_=>false
def Zze (P:qo)(d k:Nat)(a:List ResultVar)(b:AVal)(c:Mem)(s:St):Prop:=
 match pzt P s a with
 |none=>False
 |some vs=>
  let e:=jzk s.mem vs (izz b);let τ:=idOf d (Yzn d s e.1 (izz b) c)
  if injB τ c&&azcr d k c&&AVal.inL d k (izz b)&&((a.length==1) !=azc2 b)then
   Gza e.1 (AVal.renL τ (izz b))/\MSub (bzk s.mem e.2++s.mem) (Mem.ren τ c)/\yzn P s.df
  else False
def Bzu:Nat->List AVal->List (Nat×AVal)
 |_,[]=>[]
 |i,a::l=>(i,a)::Bzu (i+1) l
theorem Mza:∀ (l:List AVal) (i t:Nat),rzz (Bzu i l) t=if i<=t then(l[t-i]?).getD .any else .any
 |[],i,t=>by simp[Bzu,rzz]
 |a::l,i,t=>by
  simp only[Bzu,rzz];by_cases h:i=t
  ·subst h;simp
  ·rw[qb h,Mza l (i+1) t];by_cases b:i<=t
   ·rw[qc b,qc qa,show t-i=(t- (i+1))+1 from qa];simp
   ·rw[qb b,qb qa]
mutual
theorem azbx {n0 k i:Nat}(hi:¬ (i<n0\/Own k i)):∀ {a:AVal},a.inIds n0 k=true->a.has i=false
 | .agg cs,h=>by simp only[AVal.inIds]at h;simp only[AVal.has];exact Mzp hi h
 | .tup cs,h=>by simp only[AVal.inIds]at h;simp only[AVal.has];exact Mzp hi h
 | .vec j,h=>by
   simp[AVal.inIds]at h;simp[AVal.has];exact λe=>hi (by subst e;exact h)
 | .ptr j _,h=>by
   simp[AVal.inIds]at h;simp[AVal.has];exact λe=>hi (by subst e;exact h)
 | .eptr j _ _ _,h=>by
   simp[AVal.inIds]at h;simp[AVal.has];exact λe=>hi (by subst e;exact h)
 | .map j,h=>by
   simp[AVal.inIds]at h;simp[AVal.has];exact λe=>hi (by subst e;exact h)
 | .bsl j _,h=>by
   simp[AVal.inIds]at h;simp[AVal.has];exact λe=>hi (by subst e;exact h)
 | .view j _ _ _,h=>by
   simp[AVal.inIds]at h;simp[AVal.has];exact λe=>hi (by subst e;exact h)
 | .iface _ a,h=>by simp only[AVal.inIds]at h;simp only[AVal.has];exact azbx hi h
 | .func _ a b,h=>by
   simp only[AVal.inIds,qm]at h;simp only[AVal.has,Mzp hi h.1,Mzp hi h.2,xJ]
 | .any,_=>rfl
 | .pure _,_=>rfl
 | .tt,_=>rfl
 | .ff,_=>rfl
 | .ref _,_=>rfl
 | .anyb,_=>rfl
 | .nilp,_=>rfl
 | .clip _,_=>rfl
 | .yld _,_=>rfl
theorem Mzp {c k i:Nat}(hi:¬ (i<c\/Own k i)):∀ {l:List AVal},AVal.inL c k l=true->AVal.hasL i l=false
 |[],_=>rfl
 |a::l,h=>by
  simp only[AVal.inL,qm]at h;simp only[AVal.hasL,azbx hi h.1,Mzp hi h.2,xJ]
end
theorem Sz8 {b k:Nat}:∀ {m:Mem},azcr b k m=true->∀ {i:Nat} {r:Res},m.get i=some r->(i<b\/Own k i)/\r.inIds b k=true
 |[],_,i,r,h=>by simp[Mem.get]at h
 |(j,q)::m,a,i,r,h=>by
  simp only[azcr,qm,Bool.or_eq_true,qf]at a;simp only[Mem.get]at h;split at h
  ·rename_i e;subst e;cases h;exact⟨a.1.1,a.1.2⟩
  ·exact Sz8 a.2 h
variable {P:qo}
theorem Dzm {F:Cells}{w:qn}{ρ:Env}{Mine:Nat->Prop}{m:Mem}(x:MemOk F w ρ Mine m)(g:Good F w Mine){js:List Nat}:∀ {l rs:List AVal} {vs:List qr},l.length=vs.length->
 (∀ (j:Nat) (a:AVal) (v:qr),l[j]?=some a->vs[j]?=some v->ARel F w ρ a v)->(∀i∈(jzk m l rs).2,i∈js)->
 (jzk m l rs).1.length=vs.length/\∀ (j:Nat) (a:AVal) (v:qr),(jzk m l rs).1[j]?=some a->vs[j]?=some v->ARel (dzv F w ρ m js) w ρ a v
 |[],rs,vs,q,_,_=>by
  grind[jzk]
 |a::l,[],vs,q,n,_=>by
  exact⟨q,λj b v d y=>(n j b v d y).mono' (λb o h=>.inl h) (λ_ _ _=>rfl)⟩
 |a::l,r::rs,[],q,_,_=>jt
 |a::l,r::rs,v::vs,q,n,c=>by
  have e:l.length=vs.length:=jr
  have k:∀ (j:Nat) (a:AVal) (v:qr),l[j]?=some a->vs[j]?=some v->ARel F w ρ a v:=λj a v C y=>n (j+1) a v jr jr
  have z:=n 0 a v jq jq;simp only[jzk]at c⊢;split
  ·rename_i p is t;rw[t]at c;simp only[List.mem_append]at c;have s:Cz7 m a=some (p,is):=by simp_all
   obtain⟨B,A⟩:=Dzm x g (rs:=rs) e k (λi hi=>c i (.inr hi));refine⟨jt,λj b u d f=>?_⟩;cases j with
   |zero=>
    simp at d f;subst d;subst f;exact .pure (kza x g s (λi hi=>c i (.inl hi)) (λi hi=>rfl) z)
   |succ j=>grind
  ·rename_i t;rw[t]at c;obtain⟨B,A⟩:=Dzm x g (rs:=rs) e k c;refine⟨jt,λj b u d f=>?_⟩;cases j with
   |zero=>simp at d f;subst d;subst f;exact z.mono' (λb o h=>.inl h) (λ_ _ _=>rfl)
   |succ j=>grind
def az7v (a:Array qr):ResultVar->Sem qr
 | .tmp t=>pure (a.getD t undef)
 | .cell x t=>do loadVar t (<-asAddr (a.getD x undef))
theorem az9i (fn:Func)(a:Array qr):results fn a=(do
 let vs<-fn.results.mapM (az7v a)
 pure (if h:vs.size=1 then vs[0]else .tuple vs)):=rfl
theorem azbw {b k:Nat}:∀ {l:List AVal} {j:Nat} {r:AVal},AVal.inL b k l=true->l[j]?=some r->r.inIds b k=true
 |[],j,r,_,h=>jt
 |x::l,0,r,h,a=>by grind[AVal.inL]
 |x::l,j+1,r,h,a=>by
  simp only[AVal.inL,qm]at h;exact azbw (l:=l) (j:=j) h.2 (by simpa using a)
theorem Jz5 {X:Cx}{F:Cells}{w:qn}{ρ:Env}{s:St}{a:Act}(r:Sat X F w ρ s a):∀ (l:List ResultVar) (vs:List AVal),pzt P s l=some vs->
 ∃m:List qr,(l.mapM (az7v a.tmps)).run P w=.ok m w/\vs.length=m.length/\
  ∀ (j:Nat) (b:AVal) (v:qr),vs[j]?=some b->m[j]?=some v->ARel F w ρ b v
 |[],vs,h=>by simp_all[pzt]
 | .tmp t::l,vs,h=>by
   simp only[pzt]at h;split at h
   ·rename_i n p;cases h;obtain⟨m,f,g,o⟩:=Jz5 r l n p;refine⟨a.tmps.getD t undef::m,by simp only[xS,az7v,xU,xV,xT];rw[f];rfl,by simp[g],λj b v d k=>?_⟩;cases j with
    |zero=>simp only[xI,Option.some.injEq]at d k;subst d;subst k;exact r.fr t
    |succ j=>exact o j b v (by simpa using d) (by simpa using k)
   ·cases h
 | .cell t ty::l,vs,h=>by
   simp only[pzt]at h;split at h
   ·rename_i i off E;split at h
    ·rename_i out n q p;cases h;obtain⟨m,f,g,o⟩:=Jz5 r l n p;have B:=E▸r.fr t;simp only[Gzx]at q;split at q
     ·rename_i J z;split at q
      ·rename_i v k;cases q;obtain⟨c,e,d,I,_,H⟩:=Rz1 r.mem z;generalize D:a.tmps.getD t undef=u at B;cases B with
       |ptr=>
        obtain⟨x,C,A⟩:∃x,(loadVar ty ⟨ρ.blk i,off,none⟩).run P w=.ok x w/\ARel F w ρ v x:=by
         rcases Yzv (F:=F) (w:=w) (ρ:=ρ) k I.symm (λj a v f g=>(H j a v f g).1)with⟨f,s,g,o,G⟩|⟨f,u,g,o⟩
         ·exact⟨_,rzd d (.inl ⟨f,s,g,o,rfl⟩),G⟩
         ·exact⟨_,rzd d (.inr ⟨f,g⟩),o⟩
        have y:(asAddr (a.tmps.getD t undef)).run P w=.ok ⟨ρ.blk i,off,none⟩ w:=by rw[D];rfl
        refine⟨x::m,by rw[xS];simp only[xU,show az7v a.tmps (.cell t ty)=(do loadVar ty (<-asAddr (a.tmps.getD t undef)))from rfl,y,xT,C,f,xV],by simp[g],λj b v d k=>?_⟩;cases j with
        |zero=>simp only[xI,Option.some.injEq]at d k;subst d;subst k;exact A
        |succ j=>exact o j b v (by simpa using d) (by simpa using k)
      ·cases q
     ·cases q
    ·cases h
   ·cases h
theorem Hz4 {fn:Func}{a:Array qr}{R:Ending->qn->Prop}{F:Cells}{w:qn}{ρ:Env}{v:qr}(k:(results fn a).run P w=.ok v w)(j:R (.returned v) w):
 ∀ {ds:List Deferred} {xs:List AVal},All2B [] (DRel F w ρ) ds xs->yzn P xs->Leaves P fn a R ds .returning w
 |_,_,.nil,_=>⟨v,k,j⟩
 |_,_,.cons m b,n=>by
  obtain⟨g,h,i,l,d,rfl,rfl,_,_⟩:=m;obtain⟨⟨p,c⟩,f⟩:=n;refine⟨jq,.func g,d,g,l++d,rfl,by grind[invoke,ozl],?_⟩;refine CallsD.mono (Xze (c (l++d) w)) ?_;rintro e u o ⟨⟨q,rfl⟩,rfl,rfl⟩;exact Hz4 k j b f
theorem Dzr {fn:Func}{a:Array qr}{R:Ending->qn->Prop}{F:Cells}{o w:qn}{ρ:Env}{v:qr}(l:(results fn a).run P w=.ok v w)(k:R (.returned v) w):
 ∀ {ds:List Deferred} {xs:List AVal},All2B [] (DRel F o ρ) ds xs->yzn P xs->LeavesInM Fence.wide 0 P fn a R ds .returning w
 |_,_,.nil,_=>⟨v,l,k⟩
 |_,_,.cons n b,p=>by
  obtain⟨g,i,j,m,d,rfl,rfl,_,_⟩:=n;obtain⟨⟨r,c⟩,f⟩:=p;refine⟨jq,.inr ⟨(λh=>by cases h),.func g,d,g,m++d,rfl,by grind[invoke,ozl],λ_ _=>trivial,?_⟩⟩;refine CallsDIn.mono (c (m++d) w) ?_;rintro e u q ⟨⟨s,rfl⟩,rfl,rfl⟩;exact Dzr l k b f
theorem az5q {X:Cx}{F:Cells}{w:qn}{ρ:Env}{s:St}{a:Act}{fn:Func}(e:Sat X F w ρ s a){vs:List AVal}(h:pzt P s fn.results.toList=some vs):
 ∃c:List qr,(results fn a.tmps).run P w=.ok (if h:c.length=1 then c[0]else .tuple c.toArray) w/\vs.length=c.length/\fn.results.toList.length=c.length/\
  ∀ (j:Nat) (b:AVal) (v:qr),vs[j]?=some b->c[j]?=some v->ARel F w ρ b v:=by
 obtain⟨c,g,i,f⟩:=Jz5 e _ _ h;have d:∀ (l:List ResultVar) (vs:List AVal),pzt P s l=some vs->l.length=vs.length:=by
  intro l;induction l with
  |nil=>grind[pzt]
  |cons r l k=>
   cases r<;>grind[pzt]
 grind[az9i,Array.mapM_eq_mapM_toList,xU,Sem.run_map,xT,xV]
end Go.Abs
