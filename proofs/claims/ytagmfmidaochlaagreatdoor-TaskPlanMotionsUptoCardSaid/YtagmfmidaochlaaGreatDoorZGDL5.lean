import Derived.Test.YtagmfmidaochlaaGreatDoorZGDL4
import Derived.Test.YtagmfmidaochlaaGreatDoorZGDL3
import Derived.Test.YtagmfmidaochlaaGreatDoorZGDL1
import Derived.Test.YtagmfmidaochlaaGreatDoorZGDL2
import Derived.Sort.AssemblyPlain
open Bool renaming true->AD,false->AE
open Go.IntKind renaming wrap->AG
open List renaming length->AA,getD->AF
open Option renaming some->AB
open Bool renaming not_true->qH,and_eq_true->ql
open Decidable renaming decide->qu
open Go.IntKind renaming i64->qs
open Inhabited renaming default->qt
open Int renaming toNat_natCast->qD,mul_nonneg->qI,mul_le_mul->qJ,tdiv_eq_ediv_of_nonneg->xi
open List renaming getElem_of_mem->wh,all_eq_true->qk,getD_eq_getElem?_getD->qY,getElem?_eq_getElem->xa,length_append->wV,getElem?_append_left->xP,length_take->w9,mem_of_mem_take->xL,length_drop->xQ,append_assoc->wH,take_append_drop->xS,length_set->qZ
open Nat renaming le_refl->we,add_sub_cancel_left->xR
open Option renaming bind_some->qG,getD_some->xb
open Go.Abs.T renaming run->qj
noncomputable section
namespace Go.Abs
open Go.Proofs
def farG (l:List V3)(i:Nat):Bool:= !cd (AF l i qt) 2097152
def badH (w:aT)(i:Nat):Bool:=qu ((AF w.Xx i qt).XF<0)||(qu ((AF w.Xx i qt).XF>=(AA w.Xr.Xe.Xb:Int))|| !cd (AF w.Xx i qt).XH 2097152)
def ajf (w:aT)(h p:Int):Bool:=qu (0<=h)&&(qu (h<(AA w.Xx:Int))&&(qu (0<=p)&&qu (p<(AA w.Xu:Int))))
def badG (w:aT)(i:Nat):Bool:= !ajf w (AF w.Xz i qt).XN (AF w.Xz i qt).Place|| !aI w.Xr.Xe (AF w.Xz i qt).At
def ajH (w:aT):Bool:=qu (AA w.Xm<=6/\(AA w.Xu)<=8/\(AA w.Xx)<=3/\(AA w.Xz)<=32)
def ajI (w:aT):Bool:=qu (0<=w.Xy/\w.Xy<=65536)
def fitV (w:aT):Bool:=ajH w&&(ajI w&&(aA (farG w.Xu) (AA w.Xu)&&(aA (badH w) (AA w.Xx)&&aA (badG w) (AA w.Xz))))
def ajU (o:fv)(i:Nat):Bool:=(!fU (AF o.Xd i qt)||((AF o.Xd i qt).XF !=0))|| !aA (farG (AF o.Xd i qt).Xc) (AF o.Xd i qt).Xc.length
def UN (o:fv):Bool:=aA (ajU o) (AA o.Xd)&&qu (0<AA o.Xd)
def badO (l:A6)(i:Nat):Bool:= !fM (AF l i qt).XO||(!aA (λk=>(AF l k qt).XO==(AF l i qt).XO) i|| !UN (AF l i qt))
def cntV (w:aT)(i:Nat):Nat:=AA w.Xr.Xd+((w.Xm.take i).map (λo=>AA o.Xd)).sum
def akl (w:aT):Int:=
 if aM w.Xr≠0 then aM w.Xr else if fitV w=AE then 3401 else if aA (badO w.Xm) (AA w.Xm)=AE then 3402 else if 24<cntV w (AA w.Xm) then 3401 else 0
def ajT (w:aT)(m:bF)(i:Nat):Bool:=
 qu (AF m.Xv i qt< -(AA w.Xx:Int))||(qu (AF m.Xv i qt>=(AA w.Xu:Int))|| !aA (λk=>AF m.Xv i qt==AF m.Xv k qt) i)
def ajP (w:aT)(m:bF):Bool:=qu (akl w=0/\(AA m.Xv)=AA w.Xm)&&aA (ajT w m) (AA m.Xv)
def R0:ao:=⟨[⟨nmL 0,4,-1,(0,0,0),0,64,1,65536,65536,65536⟩,⟨nmL 1,5,0,(0,0,0),0,64,1,65536,65536,65536⟩],[]⟩
theorem ahg:(rG 2 64).o=AB R0:=by rfl
theorem rob0:aQ R0=0:=by rfl
def PlOk (v:V3):Prop:=16<=v.1/\v.1<=64/\0<=v.2.1/\v.2.1<=16/\v.2.2=0
def HdOk (h:kP):Prop:=h.XF=1/\cd h.XH 2097152=AD
def GrOk (H P:Nat)(g:gl):Prop:=0<=g.XN/\g.XN<(H:Int)/\0<=g.Place/\g.Place<(P:Int)/\aI R0 g.At=AD
def ObOk (n:Nat)(o:fv):Prop:=o.XO=nmL n/\(AA o.Xd)=1/\UN o=AD
structure MadeW (w:aT):Prop where
 rob:w.Xr.Xe=R0
 scene:aM w.Xr=0
 shapes:AA w.Xr.Xd<=2
 pl:2<=AA w.Xu/\(AA w.Xu)<=4/\∀v∈w.Xu,PlOk v
 hd:1<=AA w.Xx/\(AA w.Xx)<=2/\∀h∈w.Xx,HdOk h
 sl:4<=w.Xy/\w.Xy<=7
 ob:1<=AA w.Xm/\(AA w.Xm)<=2/\∀j,j<AA w.Xm->ObOk (AA w.Xm-j) (AF w.Xm j qt)
 gr:AA w.Xz<=8/\∀g∈w.Xz,GrOk (AA w.Xx) (AA w.Xu) g
theorem ST {a:Type}[Inhabited a]{l:List a}{p:a->Prop}(h:∀i,i<AA l->p (AF l i qt)):∀x∈l,p x:=λx b=>by
 grind[wh]
def pick {a β:Type}(g:a->Bool)(f:a->β)(l:List a):List β:=(l.filter g).map f
theorem ahM (a b:A7)(h:AA a<4294967296):(uE a b).o=AB (eqW a b):=by
 show(IK a b).run NN=_;simp only[IK,qj];unfold eqW;by_cases e:AA a=AA b
 ·rw[aJ qa];refine(aU (λj=>sw (AF a j qt !=AF b j qt) AE) (AA a) h (λj k=>?_) ?_).trans ?_;{rw[ai qa,ab qa,ab qa,wn qa,qD,<-co]};{rw[aj qa]};rw[ct];by_cases c:aA (λj=>AF a j qt !=AF b j qt) (AA a)=AD
  ·rw[c];have:a=b:=mI e λi g=>by
    have:=of_decide_eq_true c i g;simpa using this
   rw[qg this];rfl
  have f:aA (λj=>AF a j qt !=AF b j qt) (AA a)=false:=by simpa using c
  rw[f];have:a≠b:=λh=>c (by subst h;exact qg (λi _=>jV))
  rw[qh this];rfl
 rw[bJ qa,qh (λh=>e (by rw[h]))]
def w1:aT:=⟨⟨⟨[⟨⟨#[97]⟩,4,-1,(0,0,0),0,64,1,65536,65536,65536⟩,⟨⟨#[98]⟩,5,0,(0,0,0),0,64,1,65536,65536,65536⟩],[]⟩,[],[]⟩,[⟨⟨#[111]⟩,[⟨0,1,[(0,0,0)]⟩]⟩],[(16,0,0),(32,0,0)],[⟨1,(0,0,0)⟩],[⟨0,0,[16,0]⟩,⟨0,1,[32,0]⟩],0⟩
def st1:eT:=⟨⟨1,0,0⟩,0,⟨[[0,0],[16,0]],[⟨[],[⟨0,0,[]⟩]⟩]⟩⟩
def st2:eT:=⟨⟨2,0,1⟩,1,⟨[[16,0],[32,0]],[⟨[],[⟨0,0,[]⟩]⟩]⟩⟩
def kn1:Bf:=[(⟨(0,0,0,0,0,0),-1,⟨1,0,0⟩⟩,st1)]
def kn2:Bf:=[(⟨(-1,0,0,0,0,0),0,⟨2,0,1⟩⟩,st2),(⟨(0,0,0,0,0,0),-1,⟨1,0,0⟩⟩,st1)]
def ac1:Ac:=[⟨1,0,0⟩,⟨2,0,1⟩]
def xs1:Nat->A7×Bf×A7×B5×Int×Int
 |0=>([0,0],[],[0],[],-1,0)
 |1=>([16,0],kn1,[-1],[st1],0,1)
 |_=>([32,0],kn2,[1],[st1,st2],1,2)
theorem one1:law39_one_C.o=AB w1:=jY
theorem eff1:(nG 1 9).o=AB (⟨1,3,4,9⟩:bX):=jY
theorem val1:(iI w1 (⟨[0]⟩:bF)).o=AB true:=jY
theorem ins1:(eJ w1.Xr.Xe [0,0]).o=AB true:=jY
theorem mod1:(pC (⟨1,3,4,9⟩:bX)).o=AB true:=jY
theorem sol1:(Ec w1 (⟨[0]⟩:bF) [1] 16 nl).o=AB (ac1,AD):=jY
theorem v1_o (a0 a1 a2 a3 a4 a5 a6 a7 a8 a9 a10 a11 a12 a13 a14 a15 a16):(ve a0 a1 a2 a3 a4 a5 a6 a7 a8 a9 a10 a11 a12 a13 a14 a15 a16).o=(LX a0 a1 a2 a3 a4 a5 a6 a7 a8 a9 a10 a11 a12 a13 a14 a15 a16).run NN:=rfl
set_option maxHeartbeats 0 in
theorem try1:(ve w1.Xr.Xe.Xb w1.Xr.Xe.Xl w1.Xr.Xd w1.Xr.Xi w1.Xm w1.Xu w1.Xx w1.Xz w1.Xy 1 3 4 9 nl (⟨[0]⟩:bF) [0,0] ac1).o=AB ([st1,st2],kn2):=by
 rw[v1_o];unfold LX;simp only[qj];exact aO xs1 ([st1,st2],kn2) 2 rfl jU (λj a=>match j,a with
  |0,_=>kc
  |1,_=>kc) kc
theorem v0_o (a0 a1 a2 a3 a4 a5 a6 a7 a8 a9 a10 a11 a12 a13 a14 a15 a16):(uK a0 a1 a2 a3 a4 a5 a6 a7 a8 a9 a10 a11 a12 a13 a14 a15 a16).o=(LW a0 a1 a2 a3 a4 a5 a6 a7 a8 a9 a10 a11 a12 a13 a14 a15 a16).run NN:=rfl
set_option maxHeartbeats 0 in
theorem try0:(uK w1.Xr.Xe.Xb w1.Xr.Xe.Xl w1.Xr.Xd w1.Xr.Xi w1.Xm w1.Xu w1.Xx w1.Xz w1.Xy 1 3 4 9 nl (⟨[0]⟩:bF) [0,0] ac1).o=none:=by
 rw[v0_o];unfold LW;simp only[qj];exact aO xs1 ([st1,st2],kn2) 2 rfl jU (λj a=>match j,a with
  |0,_=>kc
  |1,_=>kc) kc
theorem aeJ {σ τ R:Type}{f:σ->Option (am σ τ R)}{k:τ->Option R}{x:σ}{r:R}(h:f x=AB (.fin r)):andK (iter f NN x) k=AB r:=by
 have:iter f NN x=AB (.inr r):=by
  show iter f (4294967295+1) x=_;simp only[iter,h]
 rw[this];rfl
theorem ahS {w:aT}{m:bF}{q g:A7}{e:bX}{n:Int}{a:Ac}{r:B5×Bf}
 (l:AA g=AA w.Xm) (d:¬n<1) (c:¬n>64) (f:(iI w m).o=AB AD) (h:(eJ w.Xr.Xe q).o=AB AD)
 (i:(pC e).o=AB AD) (k:(Ec w m g 16 nl).o=AB (a,AD))
 (j:(uK w.Xr.Xe.Xb w.Xr.Xe.Xl w.Xr.Xd w.Xr.Xi w.Xm w.Xu w.Xx w.Xz w.Xy e.Xt e.XE e.Xg e.XM nl m q a).o=none)
 (p:(ve w.Xr.Xe.Xb w.Xr.Xe.Xl w.Xr.Xd w.Xr.Xi w.Xm w.Xu w.Xx w.Xz w.Xy e.Xt e.XE e.Xg e.XM nl m q a).o=AB r):
 (vy w m q g e n).o=AB (r.1,1):=by
 show(MF w m q g e n).run NN=_;have b:(iI (⟨w.Xr,w.Xm,w.Xu,w.Xx,w.Xz,w.Xy⟩:aT) (⟨m.Xv⟩:bF)).o=AB true:=f;simp only[MF,qj,b,h,qG,qH,qd];rw[aj d,aj c,i];rw[show(((AA g:Nat):Int) !=((AA w.Xm:Nat):Int))=AE by simp_all];refine aeJ ?_;rw[ai (show((nl,nl,0):Bf×Ae×Int).2.2<n by grind)];simp_all
theorem ak3:(vy w1 (⟨[0]⟩:bF) [0,0] [1] (⟨1,3,4,9⟩:bX) 3).o=AB ([st1,st2],1):=
 ahS rfl jU jU val1 ins1 mod1 sol1 try0 try1
theorem chk1:(LF (⟨w1.Xr,w1.Xm,w1.Xu,w1.Xx,w1.Xz,w1.Xy⟩:aT) (⟨[0]⟩:bF) [0,0] [1] [st1,st2]).o=AB (2,0):=jY
theorem tB {α β:Type}{o:Option α}{a:α}(h:o=AB a)(k:α->Option β){x:Option β}(b:k a=x):o.bind k=x:=by subst h;exact b
theorem aiO {c:aC aT}{d:aC bX}(a:law39_one_C=c)(b:nG 1 9=d):law39_awake_T.run NN=c.o.bind λw=>d.o.bind λe=>(vy w (⟨[0]⟩:bF) [0,0] [1] e 3).o.bind λr=>(LF (⟨w.Xr,w.Xm,w.Xu,w.Xx,w.Xz,w.Xy⟩:aT) (⟨[0]⟩:bF) [0,0] [1] r.1).o.bind λy=>
 bif r.2==1 then bif ((AA r.1:Nat):Int)==2 then bif y.1==2 then AB (y.2==0)else AB AE else AB AE else AB false:=by
 unfold law39_awake_T;rw[a,b];simp only[qj]
theorem Tw:law39_awake_C.o=AB true:=by
 have e:law39_awake_C.o=law39_awake_T.run NN:=by simp only[law39_awake_C,mkD,mkC]
 rw[e,aiO (c:=law39_one_C) (d:=nG 1 9) rfl rfl];exact tB one1 _ (tB eff1 _ (tB ak3 _ (tB chk1 _ jY)))
theorem Zh (s:ak):∃b,(M8 s).o=AB b:=by show ∃b,(Kt s).run NN=_;simp only[Kt,qj,gq];simp_all
def Gx {a:Type}(o:Option a)(P:a->Prop):Prop:=∃r,o=AB r/\P r
theorem Gx.some {a:Type}{P:a->Prop}{r:a}(h:P r):Gx (AB r) P:=⟨r,rfl,h⟩
theorem Gx.bind {a β:Type}{o:Option a}{k:a->Option β}{P:a->Prop}{Q:β->Prop}(h:Gx o P)(b:∀r,P r->Gx (k r) Q):Gx (o.bind k) Q:=by obtain⟨r,rfl,h⟩:=h;simp_all
theorem Gx.andC {τ R:Type}{o:Option (am Unit τ R)}{k:τ->Option R}{P:am Unit τ R->Prop}{Q:R->Prop}(h:Gx o P)(a:∀r,P r->Gx (Go.Abs.andC (.some r) k) Q):Gx (Go.Abs.andC o k) Q:=by obtain⟨r,rfl,h⟩:=h;simp_all
def Stp {σ τ R:Type}(I:Nat->σ->Prop)(Q:τ->Prop)(P:R->Prop)(m:Nat):am σ τ R->Prop
 | .next x=>∃a,a<m/\I a x
 | .out y=>Q y
 | .fin r=>P r
theorem Gx.loop {σ τ R:Type}{f:σ->Option (am σ τ R)}{k:τ->Option R}{P:R->Prop}{x:σ}(I:Nat->σ->Prop)(Q:τ->Prop)(m:Nat)(b:I m x)(g:m<4294967296)
 (c:∀m x,I m x->Gx (f x) (Stp I Q P m)) (d:∀y,Q y->Gx (k y) P):Gx (andK (iter f NN x) k) P:=by
 refine bS I Q m b g (λm x a=>?_) d;obtain⟨r,e,h⟩:=c m x a;cases r with
 |next l=>obtain⟨i,j,n⟩:=h;grind
 |out y=>exact .inr (.inl ⟨y,e,h⟩)
 |fin r=>exact .inr (.inr ⟨r,e,h⟩)
structure NdOk (w:aT) (L:List yc):Prop where
 v:∀x∈L,ajP w x.mode=AD
 nd:(L.map λx=>x.mode.Xv).Nodup
 be:∀i,i<AA L-> -1<=(AF L i qt).before/\(AF L i qt).before<(i:Int)
theorem ajl {a:Type}[Inhabited a]{l:List a}{x:a}(h:x∈l):∃i,i<AA l/\AF l i qt=x:=by obtain⟨i,b,rfl⟩:=wh h;exact⟨i,b,jW⟩
abbrev Goes:=ak->aH->A7->A7->Prop
def MotP (G:Goes)(s:ak)(a b:A7)(r:aH×Int×Bool):Prop:=PaF r.1/\(r.2.2=true->G s r.1 a b)
def MotO (G:Goes)(e:bX):Prop:=∀s a b,Gx (l3 s a b e).o (MotP G s a b)
theorem ij {x:Int}(a:0<=x)(b:x<18446744073709551616):IntKind.u64.wrap x=x:=by have:IntKind.u64.wrap x=x % 18446744073709551616:=rfl;omega
theorem GA {x:Int}(a:0<=x)(c:x<18446744073709551616):((BitVec.ofInt 64 x&&&BitVec.ofInt 64 4294967295).toNat:Int)=x % 4294967296:=by obtain⟨n,rfl⟩:=Int.eq_ofNat_of_zero_le a;have e:(BitVec.ofInt 64 (n:Int)).toNat=n:=jX;have b:(BitVec.ofInt 64 4294967295).toNat=2 ^ 32-1:=jU;rw[BitVec.toNat_and,e,b,Nat.and_two_pow_sub_one_eq_mod];omega
theorem ak8 {a b:Int}(c:0<=a)(m:a<65536)(d:0<=b)(n:b<17179869184):(Kv a b).o=AB (0,a * b):=by
 have e:(2:Int) ^ (min (32:Int).toNat 64)=4294967296:=jU;have f:∀x:Int,x.fdiv 4294967296=x / 4294967296:=λx=>Int.fdiv_eq_ediv_of_nonneg x jU
 show(Kw a b).run NN=_;simp only[Kw,qj,e,f,GA c (show a<18446744073709551616 from qa),GA d (show b<18446744073709551616 from qa)];have h:a % 4294967296=a:=qa;have g:a / 4294967296=0:=qa;rw[h,g];have i:0<=a * (b % 4294967296):=qI c qa;have j:a * (b % 4294967296)<=65535 * 4294967295:=qJ qa qa qa jU;have q:0<=a * (b / 4294967296):=qI c qa;have p:a * (b / 4294967296)<=65535 * 3:=qJ qa qa qa jU;have k:0<=a * b:=qI c d;have l:a * b<=65535 * 17179869183:=qJ qa qa d jU;rw[ij c qa,ij (x:=b % 4294967296) qa qa];generalize a * (b % 4294967296)=P at i j⊢;grind[ij,GA]
theorem ak2 {a b:Int}(h:b≠0)(c:0<b):∃r,(uM 0 a b).o=AB r/\r.1=IntKind.u64.wrap (a.tdiv b):=by have e:(uM 0 a b).o=(Ku 0 a b).run NN:=rfl;grind[Ku,qj,ab]
def plcV (n d a b:Int):Int:=if vV ⟨a,b⟩=AD/\n<d then AG qs (a+AG qs (IntKind.u64.wrap ((n * (b-a+1)).tdiv d)))else a
theorem aij {n d:Int}(c b:Int)(w:0<=n)(h:n<65536)(q:0<d):(vu n d c b).o=AB (plcV n d c b)/\(v9 n d c b).o=AB (plcV n d c b):=by
 have j:(vu n d c b).o=(Mt n d c b).run NN:=rfl;have f:(v9 n d c b).o=(CC n d c b).run NN:=rfl;have l:(Nk c b).o=AB (vV ⟨c,b⟩):=by
  show(KN c b).run NN=_;grind[KN,qj,fP]
 have e:(Od c b).o=AB (vV ⟨c,b⟩):=by
  show(Mk c b).run NN=_;grind[Mk,qj,gT]
 rw[j,f];simp only[Mt,CC,qj,l,e,qG,plcV];cases m:vV ⟨c,b⟩with
 |false=>exact⟨rfl,rfl⟩
 |true=>
  obtain⟨s,t,i⟩:=vV_iff.1 m;simp only at s t i;simp only[qH,qd,ah,true_and];by_cases k:n<d
  ·rw[qc k,aj qa,aj qa];have g:IntKind.u64.wrap (AG qs (AG qs (b-c)+1))=b-c+1:=by
    grind[w64,ij]
   have p:IntKind.u64.wrap (IntKind.u64.wrap (AG qs (b-c))+1)=b-c+1:=by
    grind[w64,ij]
   rw[g,p,ak8 w h qa qa];obtain⟨r,v,u⟩:=ak2 (a:=n * (b-c+1)) (show d≠0 from qa) q;simp_all
  grind
def primes:A7:=[2,3,5,7,11,13,17,19,23,29]
def okR (o p:Option (Int×Int)):Bool:=
 match o,p with
 |some r,AB q=>r.1==q.1&&(r.2==q.2&&(qu (0<=r.1)&&(qu (r.1<65536)&&qu (0<r.2))))
 |_,_=>AE
theorem acL:(primes.all λp=>(List.range 8).all λi=>okR (pJ p (i:Int)).o (nD p (i:Int)).o)=true:=by rfl
theorem af4 {p i:Int}(a:p∈primes)(b:0<=i)(c:i<8):∃r:Int×Int,(pJ p i).o=AB r/\(nD p i).o=AB r/\0<=r.1/\r.1<65536/\0<r.2:=by
 have h:=qk.1 acL p a;have h:=qk.1 h i.toNat (List.mem_range.2 qa);rw[show((i.toNat:Nat):Int)=i from qa]at h;generalize (pJ p i).o=o at h⊢;generalize (nD p i).o=q at h⊢;cases o with
 |none=>cases h
 |some r=>
  cases q<;>grind[okR]
theorem TZ {k:Nat}(h:k<10):(Mu (k:Int)).o=AB (AF primes k 0)/\(CD (k:Int)).o=AB (AF primes k 0):=by have a:(Mu (k:Int)).o=(Mv (k:Int)).run NN:=rfl;have b:(CD (k:Int)).o=(CE (k:Int)).run NN:=rfl;rw[a,b];simp only[Mv,CE,qj];rw[aj qa];simp only[ah];rw[aj qa,ab qa,qD];exact⟨rfl,rfl⟩
theorem af2 {k:Nat}(h:k<10):AF primes k 0∈primes:=by rw[qY,xa (show k<AA primes from h),xb];simp_all
theorem Tx (l:Ah):(Mw l).o=AB (qu (1<=AA l/\(AA l)<=10)&&aA (λi=> !vV (AF l i qt)) (AA l))/\
 (Mn l).o=AB (qu (1<=AA l/\(AA l)<=10)&&aA (λi=> !vV (AF l i qt)) (AA l)):=by
 have a:(Mw l).o=(Mx l).run NN:=rfl;have c:(Mn l).o=(Mo l).run NN:=rfl;rw[a,c];simp only[Mx,Mo,qj,fP,gT,qG,aS,ah,cB];have d:(qu ((AA l:Int)<1)||qu ((AA l:Int)>10))= !qu (1<=AA l/\(AA l)<=10):=by
  grind
 rw[d];by_cases h:1<=AA l/\(AA l)<=10
 ·have b:∀f:Int->Option (am Int U0 Bool),(∀x,f x=bif qu (x<(AA l:Int))then grd (0<=x/\x<(AA l:Int)) (bif !vV (AF l x.toNat qt)then AB (.fin AE)else AB (.next (AG qs (x+1))))else AB (.out .u))->
   andK (iter f NN 0) (λ_=>AB AD)=AB (aA (λi=> !vV (AF l i qt)) (AA l)):=λf e=>by
   refine(aU (λi=>sw (!vV (AF l i qt)) AE) (AA l) qa (λj g=>?_) ?_).trans ?_;{rw[e,ai qa,ab qa,wn qa,qD,co]};{simp_all};rw[ct];cases aA (λi=> !vV (AF l i qt)) (AA l)<;>rfl
  simp_all
 grind
def rdxV (p i:Int):Int×Int:=((nD p i).o).getD (0,1)
def hltV (l:Ah)(i:Int):A7:=
 if(qu (1<=AA l/\(AA l)<=10)&&aA (λi=> !vV (AF l i qt)) (AA l))=AD then tab (λk=>plcV (rdxV (AF primes k 0) i).1 (rdxV (AF primes k 0) i).2 (AF l k qt).Lo (AF l k qt).Hi) (AA l) else nl
theorem Gu (l:Ah){i:Int}(b:0<=i)(d:i<8):(Lv l i).o=AB (hltV l i)/\(y0 l i).o=AB (hltV l i):=by
 have c:(Lv l i).o=(Lw l i).run NN:=rfl;have e:(y0 l i).o=(y4 l i).run NN:=rfl;rw[c,e];simp only[Lw,y4,qj,(Tx l).1,(Tx l).2,qG,hltV];cases f:(qu (1<=AA l/\(AA l)<=10)&&aA (λi=> !vV (AF l i qt)) (AA l))with
 |false=>simp_all
 |true=>
  have h:=of_decide_eq_true (Bool.and_eq_true_iff.1 f).1;generalize m:(λk=>plcV (rdxV (AF primes k 0) i).1 (rdxV (AF primes k 0) i).2 (AF l k qt).Lo (AF l k qt).Hi)=F;have t:∀j,j<AA l->∃r:Int×Int,(pJ (AF primes j 0) i).o=AB r/\(nD (AF primes j 0) i).o=AB r/\(vu r.1 r.2 (AF l j qt).Lo (AF l j qt).Hi).o=AB (F j)/\(v9 r.1 r.2 (AF l j qt).Lo (AF l j qt).Hi).o=AB (F j):=λj a=>by
   obtain⟨r,n,g,s,p,q⟩:=af4 (af2 (show j<10 from qa)) b d;grind[rdxV,aij]
  constructor;{refine(aO (λj=>(tab F j,(j:Int))) (tab F (AA l)) (AA l) (by rfl) (show _<4294967296 from qa) (λj a=>?_) ?_).trans rfl;all_goals grind[ab,TZ,aZ,au,wn,dM]};refine(aO (λj=>(tab F j,(j:Int))) (tab F (AA l)) (AA l) (by rfl) (show _<4294967296 from qa) (λj a=>?_) ?_).trans rfl;all_goals grind[TZ,ab,aZ,au,wn,dM]
structure Cert (s:ak) (P:A8) (E G:Ao) (d:Int):Prop where
 d0:0<=d
 d20:d<=20
 hz:∀j,j<AA E->(AF E j qt).Xo=0
 hG:AA G=AA E
 hE2:AA E<=200
 hP1:AA P<=100
 ho:∀j,j<AA E->(AF G j qt=AF E j qt\/AF G j qt=tstE s P d (AF E j qt))
 hc:∀j,j<AA E->(AF E j qt).Xh=dstV s.Xe (AF P (AF E j qt).U.toNat qt) (AF P (AF E j qt).V.toNat qt)
 hn0:∀j,j<AA E->(AF E j qt).XA.Xs=nl
 hsv:aM s=0
 hin:∀c∈P,aI s.Xe c=AD
 hw:WF ⟨P,E⟩
section
variable {s:ak} {P:A8} {E G:Ao} {d:Int}
theorem ahA (h:Cert s P E G d){j:Nat}(a:j<AA E):0<=(AF E j qt).U/\(AF E j qt).U<(AF E j qt).V/\(AF E j qt).V<(AA P:Int):=by obtain⟨b,c,e,-,-⟩:=(h.hw j a).1;exact⟨b,c,e⟩
theorem SC (h:Cert s P E G d):MapF ⟨P,G⟩:=by
 obtain⟨r,b,A,x,k,m,t,g,j,p,i,z⟩:=h;have f:∀c∈P,AA c<=10:=λc g=>(ec (i c g)).2
 refine⟨λc g=>by have:=f c g;omega,λe o=>?_⟩;have o:e∈G:=o;obtain⟨q,y,rfl⟩:=wh o;have a:q<AA E:=qa;obtain⟨B,C,D⟩:=ahA ⟨r,b,A,x,k,m,t,g,j,p,i,z⟩ a;have w:G[q]=AF G q qt:=by rw[qY,xa y,xb]
 rw[w];rcases t q a with h|h
 {rw[h,j q a];exact⟨jU,jU⟩};rw[h];exact(akj s r b f qa qa).1
end
theorem Vh {r:ao}(h:aQ r=0):AA r.Xb<=10:=by grind[aQ]
theorem acS (r:ao):Gx (rm r).o λ_=>True:=by
 have b:(rm r).o=(rn r).run NN:=rfl;rw[b];simp only[rn,qj,gO,qG];by_cases h:aQ r=0
 ·have c:=Vh h;rw[aJ h];refine Gx.loop (λn (z:Ah×Int)=>∃j:Nat,z.2=(j:Int)/\j+n=AA r.Xb/\(AA z.1)=j) (λ_=>True) (AA r.Xb) ⟨0,rfl,qa,rfl⟩ qa ?_ (λ_ _=>.some trivial);rintro n ⟨l,_⟩ ⟨j,rfl,d,a⟩;cases n with
  |zero=>rw[aj qa];exact .some trivial
  |succ n=>
   rw[ai qa,ab qa,ab qa,ab ⟨jX,by grind[au]⟩,wn qa];exact .some ⟨n,qa,j+1,rfl,qa,jW⟩
 rw[bJ h];exact .some trivial
theorem TF (l:Ah)(i:Int):AA (hltV l i)<=10:=by unfold hltV;split;{grind[aZ]};exact Nat.zero_le _
def PtsP (a b:A7)(d:A8):Prop:=(2<=AA d/\(AA d)<=7)/\(AF d 0 qt=a/\AF d 1 qt=b)/\∀c∈d,AA c<4294967296
theorem PtsP.add {a b c:A7}{d:A8}(h:PtsP a b d)(l:AA d<=6)(k:AA c<4294967296):PtsP a b (d++[c]):=by obtain⟨⟨j,i⟩,⟨g,f⟩,e⟩:=h;refine⟨jX,⟨?_,?_⟩,λx m=>?_⟩;all_goals grind
theorem afs (s:ak)(a b:A7)(e:bX)(t:e.Xt<=5)(l:AA a<4294967296)(q:AA b<4294967296):
 Gx (pX s a b e).o λm=>∃d,PtsP a b d/\(lZ s.Xe d e.XE).o=AB m:=by
 have i:(pX s a b e).o=(pY s a b e).run NN:=rfl;rw[i];simp only[pY,qj];refine .bind (acS _) ?_;intro L _;refine Gx.loop (λn (z:A8×Int)=>PtsP a b z.1/\∃j:Nat,z.2=(j:Int)+1/\(AA z.1)=j+2/\j+n=5) (PtsP a b) 5 ⟨⟨⟨we 2,(show 2<=7 by decide)⟩,⟨rfl,rfl⟩,λc g=>?_⟩,0,rfl,rfl,rfl⟩ jU ?_ ?_;{grind}
 ·rintro n ⟨d,_⟩ ⟨f,j,rfl,p,u⟩;by_cases g:(j:Int)+1<=e.Xt
  ·have k:IntKind.u64.wrap ((j:Int)+1)=(j:Int)+1:=ij qa qa;rw[ai g,k,(Gu L qa qa).2,qG,ab ⟨jX,by grind[au]⟩];have r:=TF L ((j:Int)+1);refine .some ⟨n-1,qa,f.add qa qa,j+1,?_,jW,qa⟩;grind[w64]
  rw[aj g];exact .some f
 intro d f;obtain⟨m,h,-⟩:=tp s.Xe d e.XE (by have:=f.1.2;omega) f.2.2;rw[h];exact .some ⟨d,f,h⟩
theorem TB (r:ao)(a:A8):∀j i,i<j->aI r (AF a i qt)=true->AF a i qt∈disL r a j
 |j+1,i,h,c=>by
  unfold disL;by_cases e:i=j
  ·subst e;split;{simp};rename_i d;exact Classical.byContradiction λk=>d ⟨c,k⟩
  have:=TB r a j i qa c;split;{exact List.mem_append_left _ this};exact this
theorem RK (r:ao)(a:A8)(d:aI r (AF a 0 qt)=AD):∀j,0<j->AF (disL r a j) 0 qt=AF a 0 qt/\0<AA (disL r a j)
 |1,_=>by
  grind[disL]
 |j+2,_=>by
  obtain⟨c,b⟩:=RK r a d (j+1) qa;unfold disL;split;{refine⟨?_,by rw[wV];omega⟩;rw[qY,xP b,<-qY];exact c};exact⟨c,b⟩
theorem Td (l:A8)(c:A7)(f:AA l<4294967296)(d:∀x∈l,AA x<4294967296)(i:c∈l):Gx (KG l c).o λy=>(0<=y/\y<(AA l:Int))/\AF l y.toNat qt=c/\∀q:Nat,(q:Int)<y->AF l q qt≠c:=by
 have e:(KG l c).o=(KH l c).run NN:=rfl;rw[e];simp only[KH,qj];refine Gx.loop (λn (x:Int)=>∃j:Nat,x=(j:Int)/\j+n=AA l/\∀q:Nat,q<j->AF l q qt≠c) (λ_:U0=>False) (AA l) ⟨0,rfl,qa,λq b=>absurd b (Nat.not_lt_zero _)⟩ f ?_ (λ_ h=>h.elim);rintro n _ ⟨j,rfl,g,b⟩;cases n with
 |zero=>
  grind[ajl]
 |succ n=>
  rw[ai qa,ab qa,qD,Rq _ _ (d _ (aF qa)),qG];unfold eqW;by_cases h:AF l j qt=c;{rw[qg h];exact .some ⟨⟨qa,qa⟩,jW,λq a=>b q qa⟩};rw[qh h,qd,wn qa];refine .some ⟨n,qa,j+1,rfl,qa,λq a=>?_⟩;grind
theorem aid:PaF ⟨nl,nl⟩:=nil_PaB.f
def rngV (e:bX):Bool:=qu (e.Xt>=0)&&(qu (e.Xt<=1022)&&(qu (e.XE>=1)&&(qu (e.XE<=16)&&(qu (e.Xg>=0)&&(qu (e.Xg<=20)&&(qu (e.XM>=0)&&qu (e.XM<=8192)))))))
theorem QO (e:bX):(OV e).o=AB (rngV e):=by show(AH e).run NN=_;simp_all[AH,qj,gq,rngV]
structure MotM (s:ak) (a b:A7) (m:aw):Prop where
 lz:LzOk m.Xc (AA m.Xa) m.Xa
 p7:AA m.Xc<=7
 e49:AA m.Xa<=49
 hin:∀c∈m.Xc,aI s.Xe c=AD
 wf:WF ⟨m.Xc,m.Xa⟩
 hz:∀j,j<AA m.Xa->∃u v:Nat,AF m.Xa j qt=newE s.Xe m.Xc u v
 fst:AF m.Xc 0 qt=a/\0<AA m.Xc
 snd:b∈m.Xc
theorem motM (s:ak){a b:A7}{d:A8}{k:Int}{m:aw}(t:aQ s.Xe=0)(D:aI s.Xe a=AD)(J:aI s.Xe b=AD)(w:PtsP a b d)(B:(lZ s.Xe d k).o=AB m):MotM s a b m:=by
 obtain⟨⟨C,E⟩,⟨F,L⟩,x⟩:=w;obtain⟨N,i,-,A⟩:=tp s.Xe d k qa x;rw[B]at i;injection i with i;subst i;obtain⟨H,G,l,I,q⟩:=A t;have M:=k0 s.Xe d (AA d);have p:AA m.Xc<=7:=jX;have n:AA m.Xa<=49:=by
  rw[l,w9];have:AA m.Xc * AA m.Xc<=7 * 7:=Nat.mul_le_mul p p;omega
 have f:∀c∈m.Xc,aI s.Xe c=true:=by grind[iW]
 have K:=RK s.Xe d jW (AA d) qa;refine⟨⟨rfl,qa,qa,λc y=>?_,λe r=>?_⟩,p,n,f,aia t f l q,λj z=>?_,?_,?_⟩;{have:=ec (f c y);omega}
 ·rw[l]at r;obtain⟨u,v,-,-,-,h⟩:=(q.2 e).1 (xL r);grind[ajn]
 ·have:=aF z;rw[l]at this;obtain⟨u,v,-,-,-,h⟩:=(q.2 _).1 (xL this);grind
 all_goals grind[TB]
theorem S5 {s:ak}{a b:A7}{m:aw}(c:MotM s a b m)(p:aM s=0){d:Int}(g:0<=d)(e:d<=20){y:Int}{K:Nat}
 (o:∀i,i<K->(nxV m.Xc 0 y (itE s m.Xc 0 y d m.Xa i)).2.2.2=3):Cert s m.Xc m.Xa (itE s m.Xc 0 y d m.Xa K) d/\cX ⟨m.Xc,itE s m.Xc 0 y d m.Xa K⟩:=by
 have k:=U5 (x:=0) (y:=y) g e c.lz o K (we _);have l:=oT (x:=0) (y:=y) g e c.lz o K (we _);have n:AA (itE s m.Xc 0 y d m.Xa K)=AA m.Xa:=l.len;have t:=c.p7;have q:=c.e49
 have r:Cert s m.Xc m.Xa (itE s m.Xc 0 y d m.Xa K) d:=⟨g,e,λj f=>by obtain⟨u,v,h⟩:=c.hz j f;rw[h];rfl,n,qa,qa,k,
  λj f=>by obtain⟨u,v,h⟩:=c.hz j f;rw[h];rfl,λj f=>by obtain⟨u,v,h⟩:=c.hz j f;rw[h];rfl,p,c.hin,c.wf⟩
 grind[cX]
def GoOk (G:Goes):Prop:=∀ (s:ak) (a b:A7) (m:aw) (d y:Int) (K:Nat),MotM s a b m->aM s=0->0<=d->d<=20->(0<=y/\y<(AA m.Xc:Int))->AF m.Xc y.toNat qt=b->
 (∀i,i<K->(nxV m.Xc 0 y (itE s m.Xc 0 y d m.Xa i)).2.2.2=3)->(nxV m.Xc 0 y (itE s m.Xc 0 y d m.Xa K)).2.2.2=1->
  (dp s ⟨m.Xc,itE s m.Xc 0 y d m.Xa K⟩ (nxV m.Xc 0 y (itE s m.Xc 0 y d m.Xa K)).2.1).2=true->G s (dp s ⟨m.Xc,itE s m.Xc 0 y d m.Xa K⟩ (nxV m.Xc 0 y (itE s m.Xc 0 y d m.Xa K)).2.1).1 a b
abbrev GT:Goes:=λ_ _ _ _=>True
theorem go_T:GoOk GT:=λ_ _ _ _ _ _ _ _ _ _ _ _ _ _ _ _=>trivial
theorem acT {G:Goes}(L:GoOk G)(e:bX)(M:e.Xt<=5):MotO G e:=by
 intro s a b;have F:(⟨s.Xe,s.Xd,s.Xi⟩:ak)=s:=rfl;have H:(⟨e.Xt,e.XE,e.Xg,e.XM⟩:bX)=e:=rfl;have D:(l3 s a b e).o=(ry s a b e).run NN:=rfl;have v:∀n:Int,MotP G s a b ((⟨nl,nl⟩:aH),n,AE):=λn=>⟨aid,λh=>by cases h⟩
 rw[D];simp only[ry,qj,F,H,gP,nH,QO,qG];refine .andC (P:=λr=>∃z,r=.out z/\(z=false->aM s=0/\aI s.Xe a=AD/\aI s.Xe b=AD/\rngV e=AD)) ?_ ?_
 ·by_cases h:aM s=0
  ·rw[aJ h];cases j:aI s.Xe a with
   |false=>exact .some ⟨_,rfl,λh=>by cases h⟩
   |true=>
    cases u:aI s.Xe b with
    |false=>exact .some ⟨_,rfl,λh=>by cases h⟩
    |true=>
     refine .some ⟨_,rfl,λt=>⟨h,?_,?_,jW⟩⟩<;>trivial
  rw[bJ h];exact .some ⟨_,rfl,λh=>by cases h⟩
 rintro _ ⟨z,rfl,N⟩;cases z with
 |true=>exact .some (v 0)
 |false=>
  obtain⟨l,j,u,t⟩:=N rfl;simp only[rngV,ql,qf]at t;obtain⟨S,r2,Y,U,g,c,Z,t1⟩:=t;have W:=ec j;have X:=ec u;refine .bind (afs s a b e M qa qa) ?_;rintro m ⟨O,Q,R⟩;have f:=motM s (Fy j).1 j u Q R;refine .bind (Td m.Xc b (by have:=f.p7;omega) (λx C=>by have:=ec (f.hin x C);omega) f.snd) ?_;rintro y ⟨B,k,-⟩;obtain⟨K,k1,p,J⟩:=stops (s:=s) (d:=e.Xg) (x:=0) (y:=y) g c _ _ f.lz (we _);have V:=Ua m.Xa;have I:=f.e49;have E:(⟨m.Xc,m.Xa⟩:aw)=m:=rfl;rw[E,Sl s m 0 y g c f.lz l p J qa e.XM,qG];by_cases w:K<=e.XM.toNat
  ·rw[qc w];unfold rlR;by_cases q:(nxV m.Xc 0 y (itE s m.Xc 0 y e.Xg m.Xa K)).2.2.2=1;{rw[aJ q];obtain⟨i,A⟩:=S5 f l g c p;have i:=SC i;rw[Ss s _ _ A i,qG];exact .some ⟨aih i,L _ _ _ _ _ _ _ f l g c B k p q⟩};rw[bJ q];exact .some (v _)
  rw[qb w];exact .some (v _)
def dmC {R:Type}(o:Option R):aC R:=⟨Tryz.prog,.yld 0,o,0,[],[(0,.tok ⟨λ_=>False,λ_ _ _=>False,λh _ _ _=>h⟩ .nilI)],λ_=>.tt,λ_=>[],λ_ _=>⟨λ_ _ _ _ _ a=>(a.ok 0 _ rfl).elim⟩⟩
theorem dm_o {R:Type}(o:Option R):(dmC o).o=o:=rfl
abbrev dmE {α:Type}:En α:=⟨0,λ_=>.nilI⟩
variable {α:Type} [Inhabited α] (cmp:α->α->Option Int)
noncomputable def lW (a:(List α))(b c:Nat)(e f:Int):Option (List α):=haveI:En α:=dmE;(Czb (λx y=>dmC (cmp x y)) [] 0 [] [] a b c e f).run NN
noncomputable def mq (a:(List α))(b c:Nat)(e f g:Int):Option (List α):=haveI:En α:=dmE;(Czf (λx y=>dmC (cmp x y)) [] 0 [] [] a b c e f g).run NN
noncomputable def mp (a:(List α))(b c:Nat)(e f:Int):Option (List α):=haveI:En α:=dmE;(Cza (λg h i j k m=>dmC (mq cmp g h i j k m)) [] 0 [] a b c e f).run NN
noncomputable def lh (a:(List α))(b c:Nat)(e f g:Int):Option (Int×Int×Int):=haveI:En α:=dmE;(Zzz (λx y=>dmC (cmp x y)) [] a b c e f g).run NN
noncomputable def iX (a:(List α))(b c:Nat)(e f g h:Int):Option (Int×Int):=haveI:En α:=dmE;(Zzy (λi j k m o p=>dmC (lh cmp i j k m o p)) [] a b c e f g h).run NN
noncomputable def lO (a:(List α))(b c:Nat)(e f:Int):Option (Int×Int):=haveI:En α:=dmE;(Czc (λg h i j k m o=>dmC (iX cmp g h i j k m o)) [] a b c e f).run NN
noncomputable def ma (g:(List α))(h i:Nat)(j k:Int):Option (Int×Int):=haveI:En α:=dmE;(Cz9 (λa b c e f m o=>dmC (iX cmp a b c e f m o)) (λa b c e f=>dmC (lO cmp a b c e f)) [] 0 [] g h i j k).run NN
noncomputable def l7 (_:α->α->Option Int)(b:(List α))(c e:Nat)(f g:Int):Option (List α):=haveI:En α:=dmE;(mB [] 0 b c e f g).run NN
noncomputable def lI (a:(List α))(b c:Nat)(e f:Int):Option (Bool×(List α)):=haveI:En α:=dmE;(nzx (λx y=>dmC (cmp x y)) [] 0 [] [] a b c e f).run NN
noncomputable def lP (a:(List α))(b c:Nat)(e f g:Int):Option (Int×(List α)):=haveI:En α:=dmE;(Czd (λx y=>dmC (cmp x y)) 0 [] [] [] a b c e f g).run NN
noncomputable def me (a:(List α))(b c:Nat)(e f g:Int):Option (Int×Bool×(List α)):=haveI:En α:=dmE;(az00 (λx y=>dmC (cmp x y)) 0 [] [] [] a b c e f g).run NN
noncomputable def lV (_:α->α->Option Int)(b:Int->Option Int)(a:Int->Option (Int×Int))(e:(List α))(f g:Nat)(h j:Int):Option (List α):=haveI:En α:=dmE;(mA (λi=>dmC (b i)) (λi=>dmC (a i)) [] 0 0 [] [] e f g h j).run NN
noncomputable def k8 (i:Int->Option Int)(h:Int->Option (Int×Int))(rec:(List α)×Nat×Nat×Int×Int×Int->Option (List α))(k:(List α))(m o:Nat)(p r t:Int):Option (List α):=haveI:En α:=dmE;(az01 (λx y=>dmC (cmp x y)) (λa c e f g=>dmC (lW cmp a c e f g)) (λa c e f g=>dmC (mp cmp a c e f g)) (λa c e f g=>dmC (ma cmp a c e f g)) (λa c e f g=>dmC (l7 cmp a c e f g)) (λa c e f g=>dmC (lI cmp a c e f g)) (λa c e f g j=>dmC (lP cmp a c e f g j)) (λa c e f g j=>dmC (me cmp a c e f g j)) (λa c e f g=>dmC (lV cmp i h a c e f g)) (λb=>dmC (rec b)) [] 0 0 [] [] [] k m o p r t).run NN
open Go.Sort (swp size_swp insInner insOuter insertionSort SWO)
theorem fW {σ τ R:Type}{f:σ->Option (am σ τ R)}{k:τ->Option R}{x:σ}{r:R}(I:Nat->σ->Prop)(m:Nat)(c:I m x)(i:m<4294967296)
 (o:∀m x,I m x->(∃b a,f x=AB (.next b)/\a<m/\I a b)\/(∃y,f x=AB (.out y)/\k y=AB r)\/f x=AB (.fin r)):andK (iter f NN x) k=AB r:=by
 obtain⟨z,e,g⟩:=bS (P:=λz=>z=r) (k:=k) (f:=f) I (λy=>k y=AB r) m c i (λm x j=>by
  rcases o m x j with h|h|h;{exact .inl h};{exact .inr (.inl h)};exact .inr (.inr ⟨r,h,rfl⟩)) (λy p=>⟨r,p,rfl⟩)
 rw[e,g]
section
variable {α:Type}
def W (l:List α)(lo:Nat)(d:Array α):List α:=l.take lo++d.toList++l.drop (lo+d.size)
variable {l:List α} {lo:Nat} {d:Array α}
theorem eB (h:lo+d.size<=AA l):AA (W l lo d)=AA l:=by unfold W;simp only[wV,w9,xQ,Array.length_toList];omega
theorem UV (h:lo+d.size<=AA l){i:Nat}(b:i<d.size)(x:α):(W l lo d).set (lo+i) x=W l lo (d.setIfInBounds i x):=by
 unfold W;have a:AA (l.take lo)=lo:=by rw[w9];omega
 rw[wH,List.set_append_right _ _ qa,a,xR,List.set_append_left _ _ (by simpa using b),wH];simp
theorem Uc {n:Nat}(h:lo+n<=AA l):W l lo ((l.drop lo).take n).toArray=l:=by
 unfold W;have:AA ((l.drop lo).take n)=n:=by rw[w9,xQ];omega
 simp only[List.size_toArray,this];rw[wH,<-List.drop_drop,xS,xS]
variable [Inhabited α]
theorem ui (h:lo+d.size<=AA l){i:Nat}(a:i<d.size):(W l lo d).getD (lo+i) qt=d[i]!:=by
 unfold W;have b:AA (l.take lo)=lo:=by rw[w9];omega
 rw[qY,wH,List.getElem?_append_right qa,b,xR,xP (by simpa using a)];simp[a]
theorem eC (h:lo+d.size<=AA l){i j:Nat}(a:i<d.size)(hj:j<d.size):
 ((W l lo d).set (lo+i) ((W l lo d).getD (lo+j) qt)).set (lo+j) ((W l lo d).getD (lo+i) qt)=W l lo (swp d i j):=by
 rw[ui h hj,ui h a,UV h a,UV ka j9];rfl
theorem H2 {j:Nat}(h:j<4294967296):AG qs (((j+1:Nat):Int)-1)=((j:Nat):Int):=by rw[w64 qa qa];omega
variable {cmp:α->α->Option Int} {lt:α->α->Bool} {n:Nat}
variable {S:α->Prop}
def dX (S:α->Prop)(cmp:α->α->Option Int)(lt:α->α->Bool):Prop:=∀x y,S x->S y->∃z,cmp x y=AB z/\qu (z<0)=lt x y
def Ok (S:α->Prop)(n:Nat)(e:Array α):Prop:=e.size=n/\∀i,i<n->S e[i]!
theorem Ok.swp {e:Array α}(h:Ok S n e){i j:Nat}(b:i<n)(c:j<n):Ok S n (swp e i j):=by have g:=h.1;refine⟨by rw[size_swp];exact h.1,λk f=>?_⟩;by_cases a:k=j;{subst a;rw[Go.Sort.swp_right _ _ _ qa];exact h.2 i b};by_cases c2:k=i;{subst c2;rw[Go.Sort.swp_left _ _ _ qa qa];exact h.2 j c};rw[Go.Sort.swp_other _ _ _ _ c2 a];exact h.2 k f
theorem Ok.perm {e f:Array α}(h:Ok S n e){a b:Nat}(g:Go.Sort.PermIn a b e f)(p:b<=n):Ok S n f:=by have r:=h.1;refine⟨by rw[g.1];exact h.1,λk j=>?_⟩;by_cases c:k<a\/b<=k;{rw[g.2.1 k c];exact h.2 k j};exact Go.Sort.permIn_all e f a b S qa g (λi m o=>h.2 i qa) k qa qa
theorem fg (b:dX S cmp lt)(g:lo+n<=AA l){e:Array α}(a:Ok S n e){i j:Nat}(c:i<n)(f:j<n):∃z,cmp ((W l lo e).getD (lo+i) qt) ((W l lo e).getD (lo+j) qt)=AB z/\qu (z<0)=lt e[i]! e[j]!:=by have h:=a.1;rw[ui qa qa,ui qa qa];exact b _ _ (a.2 i c) (a.2 j f)
theorem UE (a:Nat):∀ (j:Nat) (e:Array α),Ok S n e->j<n->Ok S n (insInner lt a j e)
 |0,_,h,_=>h
 |j+1,e,h,b=>by
  unfold insInner;split;{exact UE a j _ (h.swp b qa) qa};exact h
theorem aj3 (C:dX S cmp lt)(J:lo+n<=AA l)(R:n<=1000000)(d:Array α)(A:Ok S n d)(a b:Nat)(N:a<=n)(O:b<=n):
 lW cmp (W l lo d) lo n (a:Int) (b:Int)=AB (W l lo (insertionSort lt d a b)):=by
 have hd:=A.1;simp only[lW,Czb,qj,dm_o];unfold insertionSort;rw[wn qa];refine fW (λm (y:List α×Int)=>∃ (i:Nat) (e:Array α),y.1=W l lo e/\y.2=(i:Int)/\Ok S n e/\b<=i+m/\insOuter lt a b i e=insOuter lt a b (a+1) d) b ⟨a+1,d,rfl,rfl,A,qa,rfl⟩ qa ?_;rintro m ⟨U,y⟩ ⟨i,e,p,B,x,F,f⟩;have Q:=x.1;simp only at p B⊢;subst p;subst B;rw[insOuter]at f;by_cases k:i<b
 ·rw[qc k]at f;rw[ai qa,wn qa];refine .inl ⟨(W l lo (insInner lt a i e),((i+1:Nat):Int)),m-1,?_,qa,i+1,_,rfl,rfl,?_,qa,f⟩
  ·refine fW (λm (y:List α×Int)=>∃ (j:Nat) (g:Array α),y.1=W l lo g/\y.2=(j:Int)/\Ok S n g/\j<n/\j<=m/\insInner lt a j g=insInner lt a i e) i ⟨i,e,rfl,rfl,x,qa,we _,rfl⟩ qa ?_;rintro m ⟨V,X⟩ ⟨j,g,r,w,h,I,H,c⟩;have D:=h.1;simp only at r w⊢;subst r;subst w;have M:=eB (l:=l) (lo:=lo) (d:=g) qa;cases j with
   |zero=>
    rw[insInner]at c;rw[aj qa,ah];exact .inr (.inl ⟨_,rfl,by rw[c]⟩)
   |succ j=>
    rw[insInner]at c;by_cases o:j+1>a
    ·obtain⟨z,K,L⟩:=fg C J h (i:=(j+1)) (j:=j) qa qa;rw[ai qa,H2 qa];simp only[qD];rw[ab qa,ab qa,ab qa,ab qa,K];simp only[qG,ah,L];cases t:lt g[j+1]! g[j]! with
     |false=>
      rw[t,Bool.and_false]at c;exact .inr (.inl ⟨_,rfl,by rw[<-c];rfl⟩)
     |true=>
      rw[t,qg o]at c;simp only[qe];rw[ab qa,ab qa,ab qa,ab qa,ab qa,ab qa,ab qa,ab (by rw[qZ];omega)];refine .inl ⟨_,j,rfl,qa,j,swp g (j+1) j,?_,rfl,h.swp qa qa,qa,we _,c⟩;exact eC qa qa qa
    rw[aj qa,ah];rw[qh o]at c;exact .inr (.inl ⟨_,rfl,by rw[<-c];rfl⟩)
  exact UE a i e x qa
 rw[qb k]at f;rw[aj qa];exact .inr (.inl ⟨_,rfl,by rw[f]⟩)
end
open Go.Sort (swp siftDown heapBuild heapPop heapSort)
theorem tU {τ R:Type}{A:Option (am Unit τ R)}{k:τ->Option R}{y:τ}(h:A=AB (.out y)):andC A k=k y:=by rw[h];rfl
section
variable {α:Type} [Inhabited α] {l:List α} {lo n:Nat} {cmp:α->α->Option Int} {lt:α->α->Bool} {S:α->Prop}
theorem TT {a first:Nat}(e:first+a<=n)(root:Nat)(d:Array α)(h:Ok S n d):Ok S n (siftDown lt a first root d):=by
 suffices c:∀ (k root:Nat) (d:Array α),a-root<=k->Ok S n d->Ok S n (siftDown lt a first root d)from c _ root d (we _) h
 intro k;induction k with
 |zero=>intro root d h hd;rw[siftDown,dif_pos qa];exact hd
 |succ k b=>
  intro root d h hd;rw[siftDown];split;{exact hd};split
  ·split;{exact hd};split;{exact b _ _ qa (hd.swp qa qa)};exact hd
  split;{exact hd};exact b _ _ qa (hd.swp qa qa)
theorem TE (B:dX S cmp lt)(C:lo+n<=AA l)(Z:n<=1000000)(d:Array α)(x:Ok S n d)(root b first:Nat)(X:first+b<=n)(Q:root<=1000000):
 mq cmp (W l lo d) lo n (root:Int) (b:Int) (first:Int)=AB (W l lo (siftDown lt b first root d)):=by
 have hd:=x.1;simp only[mq,Czf,qj,dm_o];refine fW (λm (y:List α×Int)=>∃ (r:Nat) (e:Array α),y.1=W l lo e/\y.2=(r:Int)/\Ok S n e/\r<=1000000/\b<=r+m/\siftDown lt b first r e=siftDown lt b first root d) b ⟨root,d,rfl,rfl,x,Q,qa,rfl⟩ qa ?_;rintro m ⟨l1,y⟩ ⟨r,e,o,D,p,R,Y,a⟩;have V:=p.1;simp only at o D⊢;subst o;subst D;have U:=eB (l:=l) (lo:=lo) (d:=e) qa;have F:AG qs (2 * (r:Int))=((2 * r:Nat):Int):=by rw[w64 qa qa];omega
 have H:AG qs (((2 * r:Nat):Int)+1)=((2 * r+1:Nat):Int):=wn qa;simp only[F,H];rw[siftDown]at a;by_cases A:2 * r+1>=b;{rw[dif_pos A]at a;rw[ai qa];exact .inr (.inl ⟨_,rfl,by rw[a]⟩)};rw[dif_neg A]at a;have I:AG qs (((2 * r+1:Nat):Int)+1)=((2 * r+2:Nat):Int):=wn qa;have J:AG qs ((first:Int)+((2 * r+1:Nat):Int))=((first+(2 * r+1):Nat):Int):=by rw[w64 qa qa];omega
 have K:AG qs (((first+(2 * r+1):Nat):Int)+1)=((first+(2 * r+1)+1:Nat):Int):=wn qa;have L:AG qs ((first:Int)+(r:Int))=((first+r:Nat):Int):=by rw[w64 qa qa];omega
 simp only[I,J,K,L,qD];rw[aj qa];obtain⟨c,g,N,O,a⟩:∃c:Nat,c=(if 2 * r+2<b/\lt e[first+(2 * r+1)]! e[first+(2 * r+1)+1]! =AD then 2 * r+2 else 2 * r+1)/\c<b/\r<c/\(if(!lt e[first+r]! e[first+c]!)=AD then e else siftDown lt b first c (swp e (first+r) (first+c)))=siftDown lt b first root d:=by
  by_cases k:2 * r+1+1<b/\lt e[first+(2 * r+1)]! e[first+(2 * r+1)+1]! =AD
  ·rw[qc (by simp only[ql,qf];exact k)]at a;refine⟨2 * r+2,by rw[qc ⟨qa,k.2⟩],qa,qa,?_⟩;rw[<-a];split;{rfl};rw[dif_pos qa]
  rw[qb (by simp only[ql,qf];exact k)]at a;exact⟨2 * r+1,by rw[qb (λh=>k ⟨qa,h.2⟩)],qa,qa,a⟩
 rw[tU (y:=(c:Int)) (by
  by_cases k:2 * r+2<b
  ·obtain⟨z,t,w⟩:=fg B C p (i:=(first+(2 * r+1))) (j:=(first+(2 * r+1)+1)) qa qa;rw[ai qa,ab qa,ab qa,ab qa,ab qa,t];simp only[qG,ah,w];cases f:lt e[first+(2 * r+1)]! e[first+(2 * r+1)+1]! with
   |true=>rw[g,qc ⟨k,f⟩];rfl
   |false=>rw[g,qb (λh=>by rw[f]at h;cases h.2)];rfl
  rw[aj qa,ah,g,qb (λh=>k h.1)];rfl)]
 clear g;have M:AG qs ((first:Int)+(c:Int))=((first+c:Nat):Int):=by rw[w64 qa qa];omega
 simp only[M,qD];obtain⟨z,t,w⟩:=fg B C p (i:=(first+r)) (j:=(first+c)) qa qa;rw[ab qa,ab qa,ab qa,ab qa,t];simp only[qG,w];cases f:lt e[first+r]! e[first+c]! with
 |false=>
  rw[f]at a;exact .inr (.inr (by rw[<-a];rfl))
 |true=>
  rw[f]at a;simp only[qH,qd];rw[ab qa,ab qa,ab qa,ab qa,ab qa,ab qa,ab qa,ab (by rw[qZ];omega)];exact .inl ⟨_,b-c,rfl,qa,c,_,eC qa qa qa,rfl,p.swp qa qa,qa,qa,a⟩
theorem ahT (A:dX S cmp lt)(B:lo+n<=AA l)(C:n<=1000000)(d:Array α)(z:Ok S n d)(a b:Nat)(K:a<=b)(N:b<=n):
 mp cmp (W l lo d) lo n (a:Int) (b:Int)=AB (W l lo (heapSort lt d a b)):=by
 have hd:=z.1;simp only[mp,Cza,qj,dm_o];unfold heapSort;have D:AG qs ((b:Int)- (a:Int))=((b-a:Nat):Int):=by rw[w64 qa qa];omega
 have F:AG qs (((b-a:Nat):Int)-1)=((b-a:Nat):Int)-1:=w64 qa qa;have H:AG qs ((((b-a:Nat):Int)-1).tdiv 2)=(((b-a-1) / 2+1:Nat):Int)-1:=by
  by_cases h:b-a=0;{rw[h];decide};rw[xi qa,w64 qa qa];omega
 simp only[D,F,H];refine fW (λm (y:List α×Int)=>∃ (k:Nat) (e:Array α),y.1=W l lo e/\y.2=(k:Int)-1/\Ok S n e/\k<=m/\k<=n+1/\heapBuild lt (b-a) a k e=heapBuild lt (b-a) a ((b-a-1) / 2+1) d) ((b-a-1) / 2+1) ⟨_,d,rfl,rfl,z,we _,qa,rfl⟩ qa ?_;rintro m ⟨Q,y⟩ ⟨k,e,j,p,r,w,x,f⟩;have O:=r.1;simp only at j p⊢;subst j;subst p;cases k with
 |succ k=>
  rw[heapBuild]at f;have t:((k+1:Nat):Int)-1=(k:Int):=qa;rw[t,ai qa,TE A B C e r k (b-a) a qa qa];simp only[qG];exact .inl ⟨_,k,rfl,qa,k,_,rfl,w64 qa qa,TT qa _ _ r,we _,qa,f⟩
 |zero=>
  rw[heapBuild]at f;rw[aj qa];refine .inr (.inl ⟨_,rfl,?_⟩);rw[<-f];refine fW (λm (y:List α×Int)=>∃ (k:Nat) (i:Array α),y.1=W l lo i/\y.2=(k:Int)-1/\Ok S n i/\k<=m/\k<=b-a/\heapPop lt a k i=heapPop lt a (b-a) e) (b-a) ⟨_,e,rfl,rfl,r,we _,we _,rfl⟩ qa ?_;rintro m ⟨R,y⟩ ⟨k,i,o,p,g,w,x,c⟩;have L:=g.1;simp only at o p⊢;subst o;subst p;have M:=eB (l:=l) (lo:=lo) (d:=i) qa;cases k with
  |succ k=>
   rw[heapPop]at c;have t:((k+1:Nat):Int)-1=(k:Int):=qa;have I:AG qs ((a:Int)+(k:Int))=((a+k:Nat):Int):=by rw[w64 qa qa];omega
   simp only[t,I,qD];have J:(0:Int)=((0:Nat):Int):=rfl;rw[ai qa,ab qa,ab qa,ab qa,ab qa,ab qa,ab qa,ab qa,ab (by rw[qZ];omega),eC qa qa qa];rw[J,TE A B C (swp i a (a+k)) (g.swp qa qa) 0 k a qa qa];simp only[qG];exact .inl ⟨_,k,rfl,qa,k,_,rfl,w64 qa qa,TT qa _ _ (g.swp qa qa),we _,qa,c⟩
  |zero=>
   rw[heapPop]at c;rw[aj qa];exact .inr (.inl ⟨_,rfl,by rw[c]⟩)
end
open Go.Sort (swp order2 median medianAdjacent choosePivot reverseLoop reverseRange)
section
variable {α:Type} [Inhabited α] {l:List α} {lo n:Nat} {cmp:α->α->Option Int} {lt:α->α->Bool} {S:α->Prop}
abbrev c3 (r:Nat×Nat×Nat):Int×Int×Int:=(((r.1:Nat):Int),((r.2.1:Nat):Int),((r.2.2:Nat):Int))
abbrev c2 (r:Nat×Nat):Int×Int:=(((r.1:Nat):Int),((r.2:Nat):Int))
theorem oj (d:Array α){a b:Nat}(s:Nat)(c:a<n)(e:b<n):(order2 lt d a b s).1<n/\(order2 lt d a b s).2.1<n/\(order2 lt d a b s).2.2<=s+1:=by unfold order2;split<;>exact⟨by assumption,by assumption,jV⟩
theorem Fv (e:dX S cmp lt)(f:lo+n<=AA l)(d:Array α)(c:Ok S n d)(a b s:Nat)(o:a<n)(p:b<n)(g:s<4294967296):
 lh cmp (W l lo d) lo n (a:Int) (b:Int) (s:Int)=AB (c3 (order2 lt d a b s)):=by
 have hd:=c.1;have m:=eB (l:=l) (lo:=lo) (d:=d) qa;obtain⟨z,h,k⟩:=fg e f c (i:=b) (j:=a) qa qa;simp only[lh,Zzz,qj,dm_o];unfold order2;simp only[qD];rw[ab qa,ab qa,ab qa,ab qa,h];simp only[qG,k];cases lt d[b]! d[a]! with
 |true=>rw[wn g];rfl
 |false=>rfl
theorem FE (d:Array α){a b c:Nat}(s:Nat)(e:a<n)(f:b<n)(g:c<n):(median lt d a b c s).1<n/\(median lt d a b c s).2<=s+3:=by unfold median;obtain⟨h,i,k⟩:=oj (lt:=lt) d s e f;obtain⟨j,m,o⟩:=oj (lt:=lt) d (order2 lt d a b s).2.2 i g;obtain⟨p,r2,r3⟩:=oj (lt:=lt) d (order2 lt d (order2 lt d a b s).2.1 c (order2 lt d a b s).2.2).2.2 h j;exact⟨r2,j8⟩
theorem Fu (g:dX S cmp lt)(h:lo+n<=AA l)(d:Array α)(f:Ok S n d)(a b c s:Nat)(i:a<n)(j:b<n)(e:c<n)(p:s<4000000000):
 iX cmp (W l lo d) lo n (a:Int) (b:Int) (c:Int) (s:Int)=AB (c2 (median lt d a b c s)):=by
 have hd:=f.1;simp only[iX,Zzy,qj,dm_o];unfold median;obtain⟨m,k,r⟩:=oj (lt:=lt) d s i j;obtain⟨o,t,w⟩:=oj (lt:=lt) d (order2 lt d a b s).2.2 k e;rw[Fv g h d f a b s i j qa];simp only[qG];rw[Fv g h d f _ c _ k e qa];simp only[qG];rw[Fv g h d f _ _ _ m o qa];rfl
theorem Ft (f:dX S cmp lt)(g:lo+n<=AA l)(i:n<=1000000)(d:Array α)(b:Ok S n d)(a s:Nat)(c:1<=a)(e:a+1<n)(h:s<4000000000):
 lO cmp (W l lo d) lo n (a:Int) (s:Int)=AB (c2 (medianAdjacent lt d a s)):=by
 have hd:=b.1;simp only[lO,Czc,qj,dm_o];unfold medianAdjacent;rw[wprd c qa,wn qa,Fu f g d b _ _ _ _ qa qa e h];rfl
def uq:Go.Sort.Hint->Int
 | .unknown=>0
 | .increasing=>1
 | .decreasing=>2
theorem aer (g:dX S cmp lt)(i:lo+n<=AA l)(j:n<=1000000)(d:Array α)(e:Ok S n d)(a b:Nat)(Q:a<b)(R:b<=n):
 ma cmp (W l lo d) lo n (a:Int) (b:Int)=AB (((choosePivot lt d a b).1:Int),uq (choosePivot lt d a b).2):=by
 have hd:=e.1;simp only[ma,Cz9,qj,dm_o];unfold choosePivot;have x:AG qs ((b:Int)- (a:Int))=((b-a:Nat):Int):=by rw[w64 qa qa];omega
 have y:AG qs ((((b-a:Nat):Int)).tdiv 4)=(((b-a) / 4:Nat):Int):=by
  rw[xi qa,w64 qa qa];omega
 have z:AG qs ((((b-a) / 4:Nat):Int) * 1)=(((b-a) / 4 * 1:Nat):Int):=by rw[w64 qa qa];omega
 have D:AG qs ((((b-a) / 4:Nat):Int) * 2)=(((b-a) / 4 * 2:Nat):Int):=by rw[w64 qa qa];omega
 have F:AG qs ((((b-a) / 4:Nat):Int) * 3)=(((b-a) / 4 * 3:Nat):Int):=by rw[w64 qa qa];omega
 have H:AG qs ((a:Int)+(((b-a) / 4 * 1:Nat):Int))=((a+(b-a) / 4 * 1:Nat):Int):=by rw[w64 qa qa];omega
 have I:AG qs ((a:Int)+(((b-a) / 4 * 2:Nat):Int))=((a+(b-a) / 4 * 2:Nat):Int):=by rw[w64 qa qa];omega
 have J:AG qs ((a:Int)+(((b-a) / 4 * 3:Nat):Int))=((a+(b-a) / 4 * 3:Nat):Int):=by rw[w64 qa qa];omega
 have m:(0:Int)=((0:Nat):Int):=rfl;simp only[x,y,z,D,F,H,I,J];suffices h:∀r:Nat×Nat,(bif ((r.2:Nat):Int)==0 then AB (((r.1:Nat):Int),(1:Int))else bif ((r.2:Nat):Int)==12 then AB (((r.1:Nat):Int),2)else AB (((r.1:Nat):Int),0))=AB (((r.1:Nat):Int),uq (if r.2=0 then .increasing else if r.2=12 then .decreasing else .unknown)) by
  by_cases o:b-a>=8
  ·rw[ai qa,qc o];by_cases f:b-a>=50
   ·rw[ai qa,qc f];obtain⟨p,N⟩:=FE (lt:=lt) (n:=n) d (a:=a+(b-a) / 4 * 1-1) (b:=a+(b-a) / 4 * 1) (c:=a+(b-a) / 4 * 1+1) 0 qa qa qa;have K:=Ft g i j d e (a+(b-a) / 4 * 1) 0 qa qa qa;change (medianAdjacent lt d (a+(b-a) / 4 * 1) 0).1<n at p;change (medianAdjacent lt d (a+(b-a) / 4 * 1) 0).2<=0+3 at N;rw[m,K];simp only[qG];generalize medianAdjacent lt d (a+(b-a) / 4 * 1) 0=A at *
    obtain⟨t,O⟩:=FE (lt:=lt) (n:=n) d (a:=a+(b-a) / 4 * 2-1) (b:=a+(b-a) / 4 * 2) (c:=a+(b-a) / 4 * 2+1) A.2 qa qa qa;have L:=Ft g i j d e (a+(b-a) / 4 * 2) A.2 qa qa qa;change (medianAdjacent lt d (a+(b-a) / 4 * 2) A.2).1<n at t;change (medianAdjacent lt d (a+(b-a) / 4 * 2) A.2).2<=A.2+3 at O;rw[L];simp only[qG];generalize medianAdjacent lt d (a+(b-a) / 4 * 2) A.2=B at *
    obtain⟨w,r2⟩:=FE (lt:=lt) (n:=n) d (a:=a+(b-a) / 4 * 3-1) (b:=a+(b-a) / 4 * 3) (c:=a+(b-a) / 4 * 3+1) B.2 qa qa qa;have M:=Ft g i j d e (a+(b-a) / 4 * 3) B.2 qa qa qa;change (medianAdjacent lt d (a+(b-a) / 4 * 3) B.2).1<n at w;change (medianAdjacent lt d (a+(b-a) / 4 * 3) B.2).2<=B.2+3 at r2;rw[M];simp only[qG,ah];generalize medianAdjacent lt d (a+(b-a) / 4 * 3) B.2=C at *
    rw[Fu g i d e _ _ _ _ p t w qa];simp only[qG,ah];exact h _
   rw[aj qa,qb f,ah];simp only;rw[m,Fu g i d e _ _ _ _ qa qa qa qa];simp only[qG,ah];exact h _
  rw[aj qa,qb o,ah];exact h (_,0)
 intro r;by_cases k:r.2=0;{rw[bK qa,qc k];rfl};rw[bB qa,qb k];by_cases c2:r.2=12;{rw[bK qa,qc c2];rfl};rw[bB qa,qb c2];rfl
theorem adt (B:lo+n<=AA l)(D:n<=1000000)(d:Array α)(o:Ok S n d)(a b:Nat)(t:a<b)(w:b<=n):
 l7 cmp (W l lo d) lo n (a:Int) (b:Int)=AB (W l lo (reverseRange d a b)):=by
 have hd:=o.1;simp only[l7,mB,qj];unfold reverseRange;rw[wprd qa qa];refine fW (λm (y:List α×Int×Int)=>∃ (i j:Nat) (e:Array α),y.1=W l lo e/\y.2.1=(i:Int)/\y.2.2=(j:Int)/\Ok S n e/\i<=n/\j<n/\j<=i+m/\reverseLoop i j e=reverseLoop a (b-1) d) b ⟨a,b-1,d,rfl,rfl,rfl,o,qa,qa,qa,rfl⟩ qa ?_;rintro m ⟨F,H,I⟩ ⟨i,j,e,g,h,k,p,z,A,C,c⟩;have x:=p.1;simp only at g h k⊢;subst g;subst h;subst k;have r:=eB (l:=l) (lo:=lo) (d:=e) qa;rw[reverseLoop]at c;by_cases f:i<j;{rw[qc f]at c;simp only[qD];rw[ai qa,ab qa,ab qa,ab qa,ab qa,ab qa,ab qa,ab qa,ab (by rw[qZ];omega),eC qa qa qa,wn qa,wprd qa qa];exact .inl ⟨_,m-2,rfl,qa,i+1,j-1,_,rfl,rfl,rfl,p.swp qa qa,qa,qa,qa,c⟩};rw[qb f]at c;rw[aj qa];exact .inr (.inl ⟨_,rfl,by rw[c]⟩)
end
end Go.Abs
