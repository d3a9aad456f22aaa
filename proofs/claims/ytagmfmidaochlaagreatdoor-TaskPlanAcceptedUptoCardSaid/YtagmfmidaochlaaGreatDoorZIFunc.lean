import Derived.Test.YtagmfmidaochlaaGreatDoorZICode
open List renaming length->K
open Option renaming some->L,none->M
open Array renaming replicate->zx
open Bool renaming and_eq_true->ql,or_self->qR
open Go renaming Value->qq,World->qm,Program->qn
open Go.Result renaming andThen_ok->zB
open Go.Sem renaming run_bind->zC,run_pure->zD
open List renaming mapM_cons->zy,getElem?_cons_zero->zm
namespace Go.Abs
def ah5:ac->Bool
 | .pure _=>true
 |_=>false
def fP (m:Mem):List ac->List ac->List ac×List Nat
 |a::l,r::rs=>match(if ah5 r then fZ m a else M)with
  |some (p,is)=>(.pure p::(fP m l rs).1,is++(fP m l rs).2)
  |none=>(a::(fP m l rs).1,(fP m l rs).2)
 |l,_=>(l,[])
def fR (P:qn)(s:St):List ResultVar->Option (List ac)
 |[]=>L []
 | .tmp t::l=>match fR P s l with
   |some a=>L (s.get t::a)
   |none=>M
 | .cell t b::l=>match s.get t with
   | .ptr i o=>match gv P b (.ptr i o) s.mem,fR P s l with
     |some out,L a=>L (out.val::a)
     |_,_=>M
   |_=>M
def et:ac->List ac
 | .tup b=>b
 |a=>[a]
variable {R:Ending->FrameMode->qm->Prop}
theorem Z9{P:qn}{f:FuncId}{o:Array qq}{u:FrameMode}{w:qm}(h:CallsDIn Fence.wide 0 P f o u w R):CallsD P f o u w R:=by intro c a b;obtain⟨e,m,k,i,g,l,j,_,d⟩:=h.2 c a b (room_wide _);grind[comesIn_wide]
theorem Zw{P:qn}{f:FuncId}{fn:Func}{c:Code}{B:Array qq}{u:FrameMode}{w:qm}
 (s:P.funcs[f]?=L fn) (z:fn.body=L c)
 (h:∀ (a:Frame) (p:List Frame),a.mode=u->
  c.wpS P (bodyPostS P fn a p R) {tmps:=B++zx (fn.ntmps-B.size) undef,defers:=[]} (a::p) w):
 CallsDIn Fence.wide 0 P f B u w R:=by
 refine⟨trivial,λa p x _=>?_⟩;let b:Frame:={(default:Frame)with fn:=f,kind:=.deferred}
 have g:Frame.enter P f B .deferred=
  b.at {tmps:=B++zx (fn.ntmps-B.size) undef,defers:=[]} [.code c]:=by
  grind[Frame.enter,Frame.at]
 obtain⟨e,A,y,q,m,d⟩:=h a p x b [] rfl rfl;rw[<-g]at d;cases e with
 |normal=>
  obtain⟨n,j,rfl,v,r,i⟩:=m;exact⟨.returned v,j,q,_,i,stepsIn_wide.2 (Steps.trans d (.one step_end)),rfl,rfl,rfl,n,fn,s,r⟩
 |ret=>
  obtain⟨n,j,rfl,v,r,i⟩:=m;obtain⟨o,t⟩:=d;exact⟨.returned v,j,q,_,i,stepsIn_wide.2 t,rfl,rfl,rfl,n,fn,s,r⟩
 |panic k=>
  obtain⟨n,j,rfl,i⟩:=m;obtain⟨o,t⟩:=d;exact⟨.panicked k,j,q,_,i,stepsIn_wide.2 t,rfl,rfl,rfl,n,fn,s⟩
 |exit id=>exact m.elim
 |goto l=>exact m.elim
 |outgrown=>
  obtain⟨j,i⟩:=m;exact⟨.outgrown,j,q,b,i,d.resolve_left jV,rfl,rfl,trivial⟩
structure GuardFn (P:qn) (g:FuncId):Prop where
 callable:Ef P g
 calls:∀args w,CallsDIn Fence.wide 0 P g args .returning w λe u w'=>(∃v,e=.returned v)/\u=.returning/\w'=w
def k9 (P:qn):List ac->Prop
 |[]=>True
 | .func g _ _::l=>GuardFn P g/\k9 P l
 |_::_=>False
def ER (b:Nat)(s:St)(a d:List ac)(c:Mem):List (Nat×Nat):=
 let σ:=i7 b d a
 σ++kZ b s σ c
mutual
def ac.inIds (c k:Nat):ac->Bool
 | .agg cs| .tup cs=>ac.inL c k cs
 | .iface _ a=>ac.inIds c k a
 | .vec i| .ptr i _| .eptr i _ _ _| .map i| .bsl i _| .view i _ _ _=>decide (i<c)||(decide (k<=i)&&decide (i<k+64))
 | .func _ a b=>ac.inL c k a&&ac.inL c k b
 | .any| .pure _| .tt| .ff| .ref _| .anyb| .yld _| .clip _| .nilp=>true
def ac.inL (c k:Nat):List ac->Bool
 |[]=>true
 |a::l=>ac.inIds c k a&&ac.inL c k l
end
def Res.inIds (a k:Nat):Res->Bool
 | .box c=>ac.inL a k c
 | .vecX _ _ _ _ _ _ i=>decide (i<a)||(decide (k<=i)&&decide (i<k+64))
 | .vecU _ _ _ _ _ _ _ _ b=>b.all λx=>decide (x.2<a)||(decide (k<=x.2)&&decide (x.2<k+64))
 |_=>true
def oZ (a k:Nat):Mem->Bool
 |[]=>true
 |(i,r)::m=>(decide (i<a)||(decide (k<=i)&&decide (i<k+64)))&&Res.inIds a k r&&oZ a k m
def oT:ac->Bool
 | .tup _=>true
 |_=>false
def il (P:qn)(d k:Nat)(a:List ResultVar)(b:ac)(c:Mem)(s:St):Prop:=
 match fR P s a with
 |none=>False
 |some f=>
  let e:=fP s.mem f (et b);let τ:=idOf d (ER d s e.1 (et b) c)
  if injB τ c&&oZ d k c&&ac.inL d k (et b)&&((K a==1) !=oT b)then
   ei e.1 (ac.renL τ (et b))/\ej (bG s.mem e.2++s.mem) (Mem.ren τ c)/\k9 P s.df
  else False
def fz:Nat->List ac->List (Nat×ac)
 |_,[]=>[]
 |i,a::l=>(i,a)::fz (i+1) l
theorem Da:∀ (l:List ac) (i t:Nat),di (fz i l) t=if i<=t then(l[t-i]?).getD .any else .any
 |[],i,t=>by simp[fz,di]
 |a::l,i,t=>by
  simp only[fz,di];by_cases h:i=t;{subst h;simp};rw[qb h,Da l (i+1) t];by_cases b:i<=t;{rw[qc b,qc qa,show t-i=(t- (i+1))+1 from qa];simp};rw[qb b,qb qa]
mutual
theorem FJ {d k i:Nat}(c:¬ (i<d\/Own k i)):∀ {a:ac},a.inIds d k=true->a.has i=false
 | .agg cs,h=>by simp only[ac.inIds]at h;simp only[ac.has];exact mJ c h
 | .tup cs,h=>by simp only[ac.inIds]at h;simp only[ac.has];exact mJ c h
 | .vec j,h=>by
   simp[ac.inIds]at h;simp[ac.has];exact λe=>c (by subst e;exact h)
 | .ptr j _,h=>by
   simp[ac.inIds]at h;simp[ac.has];exact λe=>c (by subst e;exact h)
 | .eptr j _ _ _,h=>by
   simp[ac.inIds]at h;simp[ac.has];exact λe=>c (by subst e;exact h)
 | .map j,h=>by
   simp[ac.inIds]at h;simp[ac.has];exact λe=>c (by subst e;exact h)
 | .bsl j _,h=>by
   simp[ac.inIds]at h;simp[ac.has];exact λe=>c (by subst e;exact h)
 | .view j _ _ _,h=>by
   simp[ac.inIds]at h;simp[ac.has];exact λe=>c (by subst e;exact h)
 | .iface _ a,h=>by simp only[ac.inIds]at h;simp only[ac.has];exact FJ c h
 | .func _ a b,h=>by
   simp only[ac.inIds,ql]at h;simp only[ac.has,mJ c h.1,mJ c h.2,qR]
 | .any,_=>rfl
 | .pure _,_=>rfl
 | .tt,_=>rfl
 | .ff,_=>rfl
 | .ref _,_=>rfl
 | .anyb,_=>rfl
 | .nilp,_=>rfl
 | .clip _,_=>rfl
 | .yld _,_=>rfl
theorem mJ {c k i:Nat}(b:¬ (i<c\/Own k i)):∀ {l:List ac},ac.inL c k l=true->ac.hasL i l=false
 |[],_=>rfl
 |a::l,h=>by
  simp only[ac.inL,ql]at h;simp only[ac.hasL,FJ b h.1,mJ b h.2,qR]
end
theorem DY {b k:Nat}:∀ {m:Mem},oZ b k m=true->∀ {i:Nat} {r:Res},m.get i=L r->(i<b\/Own k i)/\r.inIds b k=true
 |[],_,i,r,h=>by simp[Mem.get]at h
 |(j,q)::m,a,i,r,h=>by
  simp only[oZ,ql,Bool.or_eq_true,qf]at a;simp only[Mem.get]at h;split at h;{rename_i e;subst e;cases h;exact⟨a.1.1,a.1.2⟩};exact DY a.2 h
variable {P:qn}
theorem AU {F:Cells}{w:qm}{ρ:Env}{E:Nat->Prop}{m:Mem}(x:aG F w ρ E m)(g:bM F w E){js:List Nat}:∀ {l rs:List ac} {D:List qq},K l=K D->
 (∀ (j:Nat) (a:ac) (v:qq),l[j]?=L a->D[j]?=L v->ak F w ρ a v)->(∀i∈(fP m l rs).2,i∈js)->
 (fP m l rs).1.length=K D/\∀ (j:Nat) (a:ac) (v:qq),(fP m l rs).1[j]?=L a->D[j]?=L v->ak (cM F w ρ m js) w ρ a v
 |[],rs,D,q,_,_=>by
  grind[fP]
 |a::l,[],D,q,n,_=>by
  exact⟨q,λj b v d y=>(n j b v d y).mono' (λb o h=>.inl h) (λ_ _ _=>rfl)⟩
 |a::l,r::rs,[],q,_,_=>jX
 |a::l,r::rs,v::D,q,n,c=>by
  have e:K l=K D:=jW;have k:∀ (j:Nat) (a:ac) (v:qq),l[j]?=L a->D[j]?=L v->ak F w ρ a v:=λj a v C y=>n (j+1) a v jW jW
  have z:=n 0 a v jV jV;simp only[fP]at c⊢;split
  ·rename_i p is t;rw[t]at c;simp only[List.mem_append]at c;have s:fZ m a=L (p,is):=by simp_all
   obtain⟨B,A⟩:=AU x g (rs:=rs) e k (λi G=>c i (.inr G));refine⟨jX,λj b u d f=>?_⟩;cases j with
   |zero=>
    simp at d f;subst d;subst f;exact .pure (mf x g s (λi G=>c i (.inl G)) (λi G=>rfl) z)
   |succ j=>grind
  rename_i t;rw[t]at c;obtain⟨B,A⟩:=AU x g (rs:=rs) e k c;refine⟨jX,λj b u d f=>?_⟩;cases j with
  |zero=>simp at d f;subst d;subst f;exact z.mono' (λb o h=>.inl h) (λ_ _ _=>rfl)
  |succ j=>grind
def tk (a:Array qq):ResultVar->Sem qq
 | .tmp t=>pure (a.getD t undef)
 | .cell x t=>do loadVar t (<-asAddr (a.getD x undef))
theorem acJ (fn:Func)(a:Array qq):results fn a=(do
 let vs<-fn.results.mapM (tk a)
 pure (if h:vs.size=1 then vs[0]else .tuple vs)):=rfl
theorem Tg {b k:Nat}:∀ {l:List ac} {j:Nat} {r:ac},ac.inL b k l=true->l[j]?=L r->r.inIds b k=true
 |[],j,r,_,h=>jX
 |x::l,0,r,h,a=>by grind[ac.inL]
 |x::l,j+1,r,h,a=>by
  simp only[ac.inL,ql]at h;exact Tg (l:=l) (j:=j) h.2 (by simpa using a)
theorem CT {X:Cx}{F:Cells}{w:qm}{ρ:Env}{s:St}{a:Act}(r:Sat X F w ρ s a):∀ (l:List ResultVar) (N:List ac),fR P s l=L N->
 ∃m:List qq,(l.mapM (tk a.tmps)).run P w=.ok m w/\(K N)=K m/\
  ∀ (j:Nat) (b:ac) (v:qq),N[j]?=L b->m[j]?=L v->ak F w ρ b v
 |[],N,h=>by simp_all[fR]
 | .tmp t::l,N,h=>by
   simp only[fR]at h;split at h
   ·rename_i n p;cases h;obtain⟨m,f,g,o⟩:=CT r l n p;refine⟨a.tmps.getD t undef::m,by simp only[zy,tk,zC,zD,zB];rw[f];rfl,by simp[g],λj b v d k=>?_⟩;cases j with
    |zero=>simp only[zm,Option.some.injEq]at d k;subst d;subst k;exact r.fr t
    |succ j=>exact o j b v (by simpa using d) (by simpa using k)
   cases h
 | .cell t Q::l,N,h=>by
   simp only[fR]at h;split at h
   ·rename_i i O E;split at h
    ·rename_i out n q p;cases h;obtain⟨m,f,g,o⟩:=CT r l n p;have B:=E▸r.fr t;simp only[gv]at q;split at q
     ·rename_i J z;split at q
      ·rename_i v k;cases q;obtain⟨c,e,d,I,_,H⟩:=om r.mem z;generalize D:a.tmps.getD t undef=u at B;cases B with
       |ptr=>
        obtain⟨x,C,A⟩:∃x,(loadVar Q ⟨ρ.blk i,O,M⟩).run P w=.ok x w/\ak F w ρ v x:=by
         rcases ET (F:=F) (w:=w) (ρ:=ρ) k I.symm (λj a v f g=>(H j a v f g).1)with⟨f,s,g,o,G⟩|⟨f,u,g,o⟩;{exact⟨_,nP d (.inl ⟨f,s,g,o,rfl⟩),G⟩};exact⟨_,nP d (.inr ⟨f,g⟩),o⟩
        have y:(asAddr (a.tmps.getD t undef)).run P w=.ok ⟨ρ.blk i,O,M⟩ w:=by rw[D];rfl
        refine⟨x::m,by rw[zy];simp only[zC,show tk a.tmps (.cell t Q)=(do loadVar Q (<-asAddr (a.tmps.getD t undef)))from rfl,y,zB,C,f,zD],by simp[g],λj b v d k=>?_⟩;cases j with
        |zero=>simp only[zm,Option.some.injEq]at d k;subst d;subst k;exact A
        |succ j=>exact o j b v (by simpa using d) (by simpa using k)
      cases q
     cases q
    cases h
   cases h
theorem N7 {fn:Func}{a:Array qq}{R:Ending->qm->Prop}{F:Cells}{w:qm}{ρ:Env}{v:qq}(k:(results fn a).run P w=.ok v w)(j:R (.returned v) w):
 ∀ {r:List Deferred} {s:List ac},All2B [] (DRel F w ρ) r s->k9 P s->Leaves P fn a R r .returning w
 |_,_,.nil,_=>⟨v,k,j⟩
 |_,_,.cons m b,n=>by
  obtain⟨g,h,i,l,d,rfl,rfl,_,_⟩:=m;obtain⟨⟨p,c⟩,f⟩:=n;refine⟨jV,.func g,d,g,l++d,rfl,by grind[invoke,rm],?_⟩;refine CallsD.mono (Z9 (c (l++d) w)) ?_;rintro e u o ⟨⟨q,rfl⟩,rfl,rfl⟩;exact N7 k j b f
theorem Nu {fn:Func}{a:Array qq}{R:Ending->qm->Prop}{F:Cells}{o w:qm}{ρ:Env}{v:qq}(l:(results fn a).run P w=.ok v w)(k:R (.returned v) w):
 ∀ {t:List Deferred} {x:List ac},All2B [] (DRel F o ρ) t x->k9 P x->LeavesInM Fence.wide 0 P fn a R t .returning w
 |_,_,.nil,_=>⟨v,l,k⟩
 |_,_,.cons n b,p=>by
  obtain⟨g,i,j,m,d,rfl,rfl,_,_⟩:=n;obtain⟨⟨r,c⟩,f⟩:=p;refine⟨jV,.inr ⟨(λh=>by cases h),.func g,d,g,m++d,rfl,by grind[invoke,rm],λ_ _=>trivial,?_⟩⟩;refine CallsDIn.mono (c (m++d) w) ?_;rintro e u q ⟨⟨s,rfl⟩,rfl,rfl⟩;exact Nu l k b f
theorem abP {X:Cx}{F:Cells}{w:qm}{ρ:Env}{s:St}{a:Act}{fn:Func}(e:Sat X F w ρ s a){m:List ac}(h:fR P s fn.results.toList=L m):
 ∃c:List qq,(results fn a.tmps).run P w=.ok (if h:K c=1 then c[0]else .tuple c.toArray) w/\(K m)=K c/\(K fn.results.toList)=K c/\
  ∀ (j:Nat) (b:ac) (v:qq),m[j]?=L b->c[j]?=L v->ak F w ρ b v:=by
 obtain⟨c,g,i,f⟩:=CT e _ _ h;have d:∀ (l:List ResultVar) (m:List ac),fR P s l=L m->K l=K m:=by
  intro l;induction l with
  |nil=>grind[fR]
  |cons r l k=>
   cases r<;>grind[fR]
 grind[acJ,Array.mapM_eq_mapM_toList,zC,Sem.run_map,zB,zD]
end Go.Abs
