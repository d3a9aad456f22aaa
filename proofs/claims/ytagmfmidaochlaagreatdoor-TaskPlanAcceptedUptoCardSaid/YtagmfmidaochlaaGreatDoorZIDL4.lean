import Derived.Test.YtagmfmidaochlaaGreatDoorZIDL3
import Derived.Test.YtagmfmidaochlaaGreatDoorZIDL2
import Derived.Test.YtagmfmidaochlaaGreatDoorZIDL1
import Derived.Sort.AssemblyPlain
open Bool renaming true->AD,false->AE
open Go.IntKind renaming wrap->AG
open List renaming length->AA,getD->AF
open Option renaming some->AB
open Bool renaming and_eq_true->ql,or_eq_false_iff->qo,not_true->qI,true_and->qL,eq_iff_iff->qQ,or_eq_true->qX,false_or->xH,not_eq_false'->wG,not_false->wF,and_eq_true_iff->xM
open Classical renaming byContradiction->xC
open Decidable renaming decide->qu
open Go.IntKind renaming i64->qs
open Inhabited renaming default->qt
open Int renaming mul_nonneg->qJ,mul_le_mul->qK,le_refl->wL,toNat_natCast->qE,zero_sub->xG,tdiv_eq_ediv_of_nonneg->xT
open List renaming mem_map->xi,getElem_of_mem->wh,getD_eq_getElem?_getD->qZ,getElem?_eq_getElem->w6,mem_range->xA,take_add_one->xD,drop_zero->xF,drop_eq_getElem_cons->xh,map_append->wX,take_length->xI,length_set->wc,length_append->wW,map_congr_left->xJ,map_id->xK,append_assoc->wE,length_map->xj,mem_append->wH,mem_singleton->wP,length_singleton->wV,length_take->w8,append_nil->xl,length_cons->qx,replicate->qr,replicate_succ->xN,cons_append->wD,map_cons->wY,getElem?_append_left->xP,length_drop->xQ,take_append_drop->xS
open Nat renaming lt_succ_self->wB,le_refl->wg,sub_zero->xE,not_lt_zero->xL,zero_le->wN,add_sub_cancel->xO,add_sub_cancel_left->xR
open Option renaming bind_some->qH,getD_some->w7,map_some->wx
open Go.Abs.T renaming run->qj
noncomputable section
namespace Go.Abs
open Go.Proofs
theorem aec (s:aj)(P:A8)(d:Int)(x:cw):(tstE s P d x).Xz≠0:=by unfold tstE lD stV;simp only;split;{decide};split<;>decide
section
variable {s:aj} {P:A8} {x y d:Int} (h0:0<=d) (h20:d<=20) {n:Nat} {E:Ao} (h:LzOk P n E) {K:Nat} (hk:∀i,i<K->(nxV P x y (itE s P x y d E i)).2.2.2=3)
include h0 h20 h hk
end
def NB (m:Int)(v:V3):Prop:= -m<=v.1/\v.1<=m/\ -m<=v.2.1/\v.2.1<=m/\ -m<=v.2.2/\v.2.2<=m
theorem NB.mono {a b:Int}{v:V3}(h:NB a v)(c:a<=b):NB b v:=by obtain⟨e,f,g,k,m,o⟩:=h;exact⟨qa,qa,qa,qa,qa,qa⟩
def ShOk (n:Nat)(x:bD):Prop:=eM n x=0
variable {r:am}
theorem ag8{e:A5}{f:Ag}(t:bF r=0)(h1:AA e<=6)(m:∀x∈e,ShOk (AA r.Xa) x)(z:AA f<=1)
 (o:∀x∈f,(-1<=x.A/\x.A<(AA r.Xa:Int)/\ -1<=x.B/\x.B<(AA r.Xa:Int))):aT (⟨⟨r.Xa,r.Xn⟩,e,f⟩:aj)=0:=by
 have k:(⟨r.Xa,r.Xn⟩:am)=r:=rfl;unfold aT;simp only[k];have w:scan (errS (AA r.Xa) e) (AA e) 0=none:=(dp _ _).2 λj _ C=>by
  have g:=m _ (aM (l:=e) (i:=j) qa);unfold ShOk at g;unfold errS;rw[g];rfl
 have hk:aC (badK (AA r.Xa) f) (AA f)=true:=noneB_iff.2 λi p=>by
  obtain⟨a,b,c,d⟩:=o _ (aM p);unfold badK dh;simp only[qg a,qg b,qg c,qg d];rfl
 rw[qb (by rw[t];simp),qb qa,w];simp only;rw[qb qa,hk];rfl
section
variable {l:A7} (hl:AA l<4294967296) {n:Int} (h0:0<=n) (h1:n<=(AA l:Int))
include hl h0 h1
end
theorem ajF {W a b s:Int}{n:Nat}(o:n<=10)(m:1<=W)(d:W<=1024)(f: -4194304<=a/\a<=4194304)(h: -4194304<=b/\b<=4194304)(g:0<=s)(l:s<=(n:Int) * 8589934592):
 0<=AG qs (s+AG qs (W * max (AG qs (b-a)) (AG qs (a-b))))/\AG qs (s+AG qs (W * max (AG qs (b-a)) (AG qs (a-b))))<=((n+1:Nat):Int) * 8589934592:=by
 obtain⟨M,i,c,e⟩:∃M:Int,max (b-a) (a-b)=M/\0<=M/\M<=8388608:=⟨_,rfl,qa,qa⟩;have j:0<=W * M:=qJ qa c;have k:W * M<=1024 * 8388608:=qK d e c jU;grind[w64]
theorem U2{p:A7}(c:bF r=0)(a:aI r p=AD){i:Nat}(d:i<AA r.Xa): -4194304<=AF p i qt/\AF p i qt<=4194304:=by have f:=(gm a).1;unfold aI at a;simp only[ql,noneB_iff]at a;have b:=a.2.2 i qa;unfold outJ at b;simp only[qo,qi]at b;have g:=(fj c d).lim;have e:=lh (AF r.Xa i qt).Xp;omega
theorem aie{p q:A7}(d:bF r=0)(g:aI r p=AD)(h:aI r q=AD):0<=dstV r p q/\dstV r p q<=1099511627776:=by
 unfold dstV;cases badD r p q
 ·have j:=(cZ d).2.1;have e:∀n,n<=AA r.Xa->0<=sumD r p q n/\sumD r p q n<=(n:Int) * 8589934592:=by
   intro n;induction n with
   |zero=>intro _;exact⟨wL _,by show(0:Int)<=_;omega⟩
   |succ n f=>
    intro k;obtain⟨a,b⟩:=f qa;have c:=(fj d (i:=n) qa).cost;unfold m6 betV at c;simp only[ql,qf]at c;exact ajF qa c.1.1 c.1.2 (U2 d g qa) (U2 d h qa) a b
  grind
 simp_all
theorem ahf{P:A8}{S:Nat->Nat->Prop}{f E:Ao}(i:bF r=0)(p:∀c∈P,aI r c=AD)(e:E=f.take 8192)(g:MapE r P S f):WF ⟨P,E⟩:=by
 intro j h;refine⟨?_,λk=>?_⟩
 ·have:=aM h;rw[e]at this;obtain⟨a,b,o,m,-,n⟩:=(g.2 _).1 (List.mem_of_mem_take this);grind[iU,aie,newE]
 have l:SoE E:=by rw[e];exact g.1.sublist (List.take_sublist _ _)
 grind[List.pairwise_iff_getElem,eLt,ltE]
theorem ahX {P:A8}{E a:Ao}(f:AA a=AA E)(h:∀j,j<AA E->(AF a j qt).U=(AF E j qt).U/\(AF a j qt).V=(AF E j qt).V/\(AF a j qt).XM=(AF E j qt).XM)(c:WF ⟨P,E⟩):WF ⟨P,a⟩:=by intro j b;have b:j<AA E:=jW;obtain⟨e,d⟩:=c j b;grind[iU,eLt]
theorem UF {s:aj}{P:A8}{x y d:Int}(f:0<=d)(a:d<=20){n:Nat}{E:Ao}(h:LzOk P n E){K:Nat}(e:∀i,i<K->(nxV P x y (itE s P x y d E i)).2.2.2=3):
 ∀i,i<=K->∀j,j<AA E->(AF (itE s P x y d E i) j qt=AF E j qt\/AF (itE s P x y d E i) j qt=tstE s P d (AF E j qt))
 |0,_,j,_=>.inl rfl
 |i+1,t,j,l=>by
  have g:=UF f a h e i qa;have m:=tf f a h e i qa;have b:itE s P x y d E (i+1)=stE s P x y d (itE s P x y d E i):=rfl;obtain⟨-,o,-⟩:=ng x y m.small;obtain⟨r,u,k,p⟩:=o.ed (e i qa);rw[b];unfold stE;rw[ox qa];split
  ·rename_i c;subst c;rcases g _ l with q|q
   {right;rw[q]};rw[q]at k;exact absurd k (aec s P d _)
  exact g j l
theorem ahq {s:aj}{m:aJ}{t:A7}(w:MapF m):PaF (dY s m t).1:=by
 have g:PaF ⟨nl,nl⟩:=⟨by simp[nl],λc p=>(by cases p),by simp[nl],λe b=>(by cases b)⟩;by_cases k:kp m t
 ·by_cases h1:AA t=1;{rw[D3 k h1];exact(agz s jU jU _).f};by_cases o:∀i,i+1<AA t->(edX m (atE t i) (atE t (i+1))).isSome=AD
  ·rw[D2 k h1 o];have r:=k.2.2.1;refine⟨jZ,λc p=>?_,by simp[bL];omega,λy C=>?_⟩
   ·obtain⟨v,hv,rfl⟩:=xi.1 p;obtain⟨i,a,rfl⟩:=wh hv;have B:=k.2.2.2 i a;have e:atE t i=t[i]:=by show AF t i qt=_;simp[qZ,w6 a]
    rw[e]at B;exact w.1 _ (aM (l:=m.Xb) (i:=t[i].toNat) qa)
   obtain⟨i,a,rfl⟩:=xi.1 C;have a:=xA.1 a;have z:=o i qa;unfold stpE;cases b:edX m (atE t i) (atE t (i+1))with
   |none=>rw[b]at z;cases z
   |some e=>exact aiO w (Eo b).1 _
  have:∃i,i+1<AA t/\edX m (atE t i) (atE t (i+1))=none:=by
   refine xC λA=>o λi a=>?_
   cases b:edX m (atE t i) (atE t (i+1))with
   |none=>exact absurd ⟨i,a,b⟩ A
   |some e=>rfl
  obtain⟨i,a,b⟩:=this;rw[RG h1 a b];exact g
 rw[sd k];exact g
theorem S0 (s:aj)(P:A8)(d:Int)(x:cw):(tstE s P d x).U=x.U/\(tstE s P d x).V=x.V/\(tstE s P d x).XM=x.XM:=⟨rfl,rfl,rfl⟩
section
variable {s:aj} {P:A8} {d:Int} {E G F:Ao} (hz:∀j,j<AA E->(AF E j qt).Xz=0) (hG:AA G=AA E) (hF:AA F=AA E)
 (ho:∀j,j<AA E->(AF G j qt=AF E j qt\/AF G j qt=tstE s P d (AF E j qt))) (ht:∀j,j<AA E->AF F j qt=tstE s P d (AF E j qt))
include hz hG hF ho ht
end
theorem aiT {p:co}(h:PkF p):(uM p).o=AB (cJ p):=by have a:TO 4194304 p.XF:=⟨h.2.1,h.2.2⟩;exact acN 4194304 p (by show 4194304<4294967296;decide) jU a
theorem afF (s:aj)(x:aY)(t:PaF x):∃y,(I4 s x).o=AB y/\(y.2=0↔OkG s x):=by
 obtain⟨-,-,B,r⟩:=t;have p:(⟨s.Xe,s.Xc,s.Xo⟩:aj)=s:=rfl;have f:(I4 s x).o=(I5 s x).run NN:=rfl;rw[f];simp only[I5,qj,p,Zi,qH];by_cases k:(fd s x.Xb).2=0
 ·obtain⟨b,A⟩:=oq k;have hl:=b.1;rw[aS k];by_cases w:AA x.Xf+1=AA x.Xb
  ·rw[aS (by rw[w64 qa qa];omega)]
   refine bU (P:=λy:Int×Int=>(y.2=0↔OkG s x)) (λm (y:Int)=>∃j:Nat,y=(j:Int)/\j+m=AA x.Xf/\∀i,i<j->(cJ (AF x.Xf i qt)).2=AD/\(c8 s (AF x.Xb i qt) (AF x.Xb (i+1) qt) (cJ (AF x.Xf i qt)).1).2=0)
    (λ_=>∀i,i<AA x.Xf->(cJ (AF x.Xf i qt)).2=AD/\(c8 s (AF x.Xb i qt) (AF x.Xb (i+1) qt) (cJ (AF x.Xf i qt)).1).2=0) (AA x.Xf) ⟨0,rfl,qa,λi c=>qa⟩ qa ?_ (λ_ hz=>⟨_,rfl,λ_=>⟨k,qa,hz⟩,λ_=>rfl⟩)
   rintro m _ ⟨j,rfl,C,hz⟩;cases m with
   |zero=>exact .inr (.inl ⟨_,by rw[ai qa],λi c=>hz i qa⟩)
   |succ m=>
    have z:=aiT (r _ (aM (show j<AA x.Xf from qa)));have D:=b.get (show j<AA x.Xb from qa);have H:=b.get (show j+1<AA x.Xb from qa);rw[ah qa,ab qa,qE,z];simp only[qH];cases e:(cJ (AF x.Xf j qt)).2 with
    |false=>exact .inr (.inr ⟨_,rfl,λh=>(by cases h),λh=>absurd (h.2.2 j qa).1 (by rw[e];decide)⟩)
    |true=>
     simp only[qI,qd,wn (show j<4294967296 from qa),qE];rw[ab qa,ab qa,Yv s _ _ _ qa qa];simp only[qH];by_cases a:(c8 s (AF x.Xb j qt) (AF x.Xb (j+1) qt) (cJ (AF x.Xf j qt)).1).2=0
     ·rw[aS a];refine .inl ⟨_,m,rfl,wB m,j+1,rfl,qa,λi c=>?_⟩;by_cases g:i=j;{subst g;exact⟨e,a⟩};exact hz i qa
     rw[bS a];exact .inr (.inr ⟨_,rfl,λh=>absurd h a,λh=>absurd (h.2.2 j qa).2 a⟩)
  rw[bS (by rw[w64 qa qa];omega)];exact⟨_,rfl,λh=>(by cases h),λh=>absurd h.2.1.symm w⟩
 rw[bS k];exact⟨_,rfl,λh=>absurd h k,λh=>absurd h.1 k⟩
def wayD (r:am)(c:A8):Nat->Int
 |0=>0
 |n+1=>wayD r c n+dstV r (AF c n qt) (AF c (n+1) qt)
theorem oR{p q:A7}(a:aI r p=AD)(b:aI r q=AD):dstV r p q=sumI r p q (AA r.Xa):=by grind[rg,badD,dstV,UU]
theorem SX (r:am)(p q:A7):∀n,sumI r p q n=sumI r q p n
 |0=>rfl
 |n+1=>by
  simp only[sumI,SX r p q n];congr 2;omega
theorem agP{p q:A7}(a:aI r p=AD)(b:aI r q=AD):dstV r p q=dstV r q p:=by grind[oR,SX]
theorem agQ{p m q:A7}(a:aI r p=AD)(b:aI r m=AD)(c:aI r q=AD):dstV r p q<=dstV r p m+dstV r m q:=by have d:=(rg a).2.2.2;rw[oR a c,oR a b,oR b c];exact TJ d p m q _ (wg _)
theorem aet{p:A7}(a:aI r p=AD):dstV r p p=0:=by grind[oR,SY]
theorem Q2 {r:am}{c:A8}(h:∀i,i<AA c->aI r (AF c i qt)=AD):∀n,n<AA c->dstV r (AF c 0 qt) (AF c n qt)<=wayD r c n
 |0,a=>by rw[aet (h 0 a)];exact wL _
 |n+1,a=>by
  have b:=Q2 h n qa;have t:=agQ (h 0 qa) (h n qa) (h (n+1) a);simp only[wayD];omega
theorem S5 (r:am)(a b:A7)(c:A8):∀n,wayD r (a::b::c) (n+1)=dstV r a b+wayD r (b::c) n
 |0=>by simp[wayD]
 |n+1=>by
  have f:=S5 r a b c n;rw[wayD,f];show _=dstV r a b+(wayD r (b::c) n+dstV r (AF (b::c) n qt) (AF (b::c) (n+1) qt));have d:AF (a::b::c) (n+1) qt=AF (b::c) n qt:=jV;have e:AF (a::b::c) (n+1+1) qt=AF (b::c) (n+1) qt:=jV;rw[d,e];omega
theorem ahA {r:am}{P:A8}{E:Int->Int->Int->Prop}{t v n C:Int}{l:A7}(g:Graph E n C)(q:∀u w c,E u w c->c=dstV r (AF P u.toNat qt) (AF P w.toNat qt))(h:Rt E t v l):∀ {c k:Int},Best E t v c k->c=wayD r ((v::l).map λv=>AF P v.toNat qt) (AA l):=by
 induction h with
 |nil=>
  intro c k a;obtain⟨rfl,-⟩:=a.unique (Best.self g);rfl
 |cons f d i j=>
  intro c k a;obtain⟨p,s,e,b,o,m⟩:=d.1;obtain⟨rfl,rfl⟩:=a.unique b;grind[S5]
theorem ahB {E:Int->Int->Int->Prop}{t v:Int}{l:A7}(h:Rt E t v l):AF (v::l) (AA l) qt=t:=by induction h<;>simp_all
theorem UV (s:aj){P:A8}{x:cw}{d:Int}(b:0<=d)(a:d<=20)(f:∀c∈P,AA c<=10)(j:x.U.toNat<AA P)(k:x.V.toNat<AA P):((tstE s P d x).XD.Xx.length<=4194304/\dm (tstE s P d x).XD.Xx<=4194304)/\
 ((tstE s P d x).Xz=1->(c8 s (AF P x.U.toNat qt) (AF P x.V.toNat qt) (tstE s P d x).XD.Xx).2=0):=by
 have o:=f _ (aM j);have m:=f _ (aM k);obtain⟨-,h⟩:=Gc s (AF P x.U.toNat qt) (AF P x.V.toNat qt) qa qa b a;have g:=h.bd;have l:=RL g;have n:=g.1;have e:(tstE s P d x).XD=pvR s (AF P x.U.toNat qt) (AF P x.V.toNat qt) d:=rfl;rw[e];refine⟨⟨qa,qa⟩,λi=>P9 b a h ?_⟩;have i:stV (pvR s (AF P x.U.toNat qt) (AF P x.V.toNat qt) d).Xp=1:=i;grind[stV]
theorem aiC (x m:Int)(a:0<=m):(min (max x (-m)) m==x)=(qu (-m<=x)&&qu (x<=m)):=by grind
theorem AT (v:V3):(vr v).o=AB (cK v 2097152):=by show(AS v).run NN=_;simp_all[AS,qj,aiC,cK,Bool.and_assoc]
def farG (l:List V3)(i:Nat):Bool:= !cK (AF l i qt) 2097152
def badH (w:al)(i:Nat):Bool:=qu ((AF w.Xm i qt).Xy<0)||(qu ((AF w.Xm i qt).Xy>=(AA w.Xi.Xe.Xa:Int))|| !cK (AF w.Xm i qt).XH 2097152)
def e9 (w:al)(h p:Int):Bool:=qu (0<=h)&&(qu (h<(AA w.Xm:Int))&&(qu (0<=p)&&qu (p<(AA w.Xj:Int))))
theorem OG (w:al)(h p:Int):(vW w h p).o=AB (e9 w h p):=by show(vX w h p).run NN=_;grind[vX,qj,e9]
def badG (w:al)(i:Nat):Bool:= !e9 w (AF w.Xl i qt).Xs (AF w.Xl i qt).Place|| !aI w.Xi.Xe (AF w.Xl i qt).At
def f0 (w:al):Bool:=qu (AA w.Xd<=6/\(AA w.Xj)<=8/\(AA w.Xm)<=3/\(AA w.Xl)<=32)
def i9 (w:al):Bool:=qu (0<=w.Xq/\w.Xq<=65536)
def fitV (w:al):Bool:=f0 w&&(i9 w&&(aC (farG w.Xj) (AA w.Xj)&&(aC (badH w) (AA w.Xm)&&aC (badG w) (AA w.Xl))))
theorem Zd (w:al):(Kz w).o=AB (fitV w):=by
 show(KA w).run NN=_;simp only[KA,qj,aU,ag,bO,fitV];have b:(qu ((AA w.Xd:Int)>6)||(qu ((AA w.Xj:Int)>8)||(qu ((AA w.Xm:Int)>3)||qu ((AA w.Xl:Int)>32))))= !f0 w:=by
  grind[f0]
 have d:(qu (w.Xq<0)||qu (w.Xq>65536))= !i9 w:=by
  grind[i9]
 rw[b,d];cases c:f0 w;{rfl};have e:=of_decide_eq_true c;cases i9 w;{rfl};refine(aR (λi=>sw (farG w.Xj i) AE) (AA w.Xj) qa (λj a=>?_) ?_).trans ?_;{rw[ah qa,ab qa,wn qa,qE,<-bH];simp only[AT,qH];rfl};{simp_all};rw[bB];cases aC (farG w.Xj) (AA w.Xj);{rfl};refine(aR (λi=>sw (badH w i) AE) (AA w.Xm) qa (λj a=>?_) ?_).trans ?_;{rw[ah qa,ab qa,wn qa,qE,<-bH];simp only[AT,qH,aU,ag,bO];rfl};{simp_all};rw[bB];cases aC (badH w) (AA w.Xm);{rfl};refine(aR (λi=>sw (badG w i) AE) (AA w.Xl) qa (λj a=>?_) ?_).trans ?_;{rw[ah qa,ab qa,wn qa,qE,<-bH];simp only[OG,kI,qH,aU,ag,bO];rfl};{simp_all};rw[bB];cases aC (badG w) (AA w.Xl)<;>rfl
def m5 (o:dF)(i:Nat):Bool:=(!eu (AF o.Xc i qt)||((AF o.Xc i qt).Xy !=0))|| !aC (farG (AF o.Xc i qt).Xb) (AF o.Xc i qt).Xb.length
def fB (o:dF):Bool:=aC (m5 o) (AA o.Xc)&&qu (0<AA o.Xc)
theorem aa8 (o:dF)(h:AA o.Xc<4294967296):(vY o).o=AB (fB o):=by
 show(vZ o).run NN=_;simp only[vZ,qj];refine(aR (λi=>sw (m5 o i) AE) (AA o.Xc) h (λj d=>?_) ?_).trans ?_
 ·rw[ah qa,ab qa,wn qa,qE];simp only[O8,qH,aU,ag,bO];unfold m5;cases b:eu (AF o.Xc j qt);{rfl};cases (AF o.Xc j qt).Xy !=0
  ·have c:=(rz b).2;refine(aR (λi=>sw (farG (AF o.Xc j qt).Xb i) (aA.fin AE)) (AF o.Xc j qt).Xb.length qa (λk a=>?_) ?_).trans ?_;{rw[ah qa,ab qa,wn qa,qE,<-bH];simp only[AT,qH];rfl};{simp_all};rw[bB];cases aC (farG (AF o.Xc j qt).Xb) (AF o.Xc j qt).Xb.length<;>rfl
  rfl
 {simp_all};rw[bB,fB];grind[aC,sw]
theorem ai5 (l:A6)(a:ByteArray)(b:A5)(h:AA l<4294967296):(U9 l a b).o=AB (!aC (λi=>(AF l i qt).XL==a) (AA l),a,b):=by
 have c:(Vc l a b).o=AB (match scan (λi=>sw ((AF l i qt).XL==a) (i:Int)) (AA l) 0 with|some x=>x|none=> -1,a,b):=by
  show(Gu l a b).run NN=_;simp only[Gu,qj];have c:∀m,(Ns m a b).o=AB (m.XL==a,a,b):=λm=>rfl
  refine(fq (λj=>(a,b,(j:Int))) (λi=>sw ((AF l i qt).XL==a) ((i:Int),a,b)) (a,b) (AA l) rfl h (λj d=>?_) ?_).trans ?_;{rw[ah jW,ab ⟨jV,jW⟩];simp only[c,qH,qE];rw[wn qa];cases (AF l j qt).XL==a<;>rfl};{simp_all};rw[sG (f:=λx=>(x,a,b)) (r:=λi=>(i:Int))];grind
 show(Gq l a b).run NN=_;simp only[Gq,qj,c,qH];exact congrArg (λx=>AB (x,a,b)) (ln (g:=λi=>(AF l i qt).XL==a))
def badO (l:A6)(i:Nat):Bool:= !eB (AF l i qt).XL||(!aC (λk=>(AF l k qt).XL==(AF l i qt).XL) i|| !fB (AF l i qt))
def cntV (w:al)(i:Nat):Nat:=AA w.Xi.Xc+((w.Xd.take i).map (λo=>AA o.Xc)).sum
variable {w:al}
theorem iH{i:Nat}(h:i<AA w.Xd):cntV w (i+1)=cntV w i+(AF w.Xd i qt).Xc.length:=by grind[cntV,xD]
def cd (w:al):Int:=
 if aT w.Xi≠0 then aT w.Xi else if fitV w=AE then 3401 else if aC (badO w.Xd) (AA w.Xd)=AE then 3402 else if 24<cntV w (AA w.Xd) then 3401 else 0
theorem sf {s:aj}(h:aT s=0):AA s.Xc<=24:=by grind[aT]
theorem FA {w:al}(a:∀o∈w.Xd,AA o.Xc<4294967296)(b:AA w.Xi.Xc<=24):∀i,i<=AA w.Xd->cntV w i<=24+i * 4294967296
 |0,_=>by simp[cntV];omega
 |i+1,d=>by
  have e:=FA a b i qa;have c:=a _ (aM (l:=w.Xd) (i:=i) qa);rw[iH qa];omega
theorem vR (w:al)(b:∀o∈w.Xd,AA o.Xc<4294967296):(nG w).o=AB (cd w):=by
 show(vQ w).run NN=_;simp only[vQ,qj,iy,qH,cd];by_cases h:aT w.Xi=0
 ·rw[aS h,qb qa];have d:(Kz (⟨w.Xi,w.Xd,w.Xj,w.Xm,w.Xl,w.Xq⟩:al)).o=AB (fitV w):=Zd w;simp only[d,qH];cases l:fitV w;{rfl};have c:f0 w=true:=by grind[fitV]
  have c:=of_decide_eq_true c;have n:=FA b (sf h);refine(fq (λj=>((cntV w j:Int),(j:Int))) (λi=>sw (badO w.Xd i) 3402) (cntV w (AA w.Xd):Int) (AA w.Xd) (by rfl) (by unfold NN;omega) (λj e=>?_) ?_).trans ?_
  ·have a:(AF w.Xd j qt).Xc.length<4294967296:=b _ (aM e);rw[ah qa,ab ⟨jV,qa⟩];simp only[PS,qH,qE,xE,show((0:Int).toNat)=0 from rfl,xF];rw[ab ⟨qa,qa,qa⟩,ai5 _ _ _ jX];have g:(vY (⟨(AF w.Xd j qt).XL,(AF w.Xd j qt).Xc⟩:dF)).o=AB (fB (AF w.Xd j qt)):=aa8 _ a;have m:aC (λi=>(AF (w.Xd.take j) i qt).XL==(AF w.Xd j qt).XL) (AA (w.Xd.take j))=aC (λk=>(AF w.Xd k qt).XL==(AF w.Xd j qt).XL) j:=by
    grind[P6]
   have f:AG qs ((cntV w j:Int)+((AF w.Xd j qt).Xc.length:Int))=(cntV w (j+1):Int):=by
    grind[iH,w64]
   grind[badO,ag,wn,sw]
  {simp_all};rw[bB];grind[sw]
 grind
theorem aci (l:A7)(x:Int)(h:AA l<4294967296):(VW l x).o=AB (!aC (λi=>x==AF l i qt) (AA l)):=by
 have a:(V0 l x).o=AB (match scan (λi=>sw (x==AF l i qt) (i:Int)) (AA l) 0 with|some y=>y|none=> -1):=by
  show(Hz l x).run NN=_;simp only[Hz,qj];refine(aR (λi=>sw (x==AF l i qt) (i:Int)) (AA l) h (λj b=>?_) ?_).trans ?_;all_goals grind[ab,wn,sw]
 show(Hj l x).run NN=_;simp only[Hj,qj,a,qH];exact congrArg AB (ln (g:=λi=>x==AF l i qt))
def gF (w:al)(m:aD)(i:Nat):Bool:=
 qu (AF m.Xg i qt< -(AA w.Xm:Int))||(qu (AF m.Xg i qt>=(AA w.Xj:Int))|| !aC (λk=>AF m.Xg i qt==AF m.Xg k qt) i)
def bJ (w:al)(m:aD):Bool:=qu (cd w=0/\(AA m.Xg)=AA w.Xd)&&aC (gF w m) (AA m.Xg)
theorem eW {w:al}(h:cd w=0):aT w.Xi=0/\fitV w=AD/\(AA w.Xd)<=6/\(AA w.Xj)<=8/\(AA w.Xm)<=3/\(AA w.Xl)<=32:=by grind[cd,fitV,f0]
theorem uU (w:al)(m:aD)(a:∀o∈w.Xd,AA o.Xc<4294967296):(gU w m).o=AB (bJ w m):=by
 show(vU w m).run NN=_;have d:(nG (⟨w.Xi,w.Xd,w.Xj,w.Xm,w.Xl,w.Xq⟩:al)).o=AB (cd w):=vR w a;simp only[vU,qj,d,qH,aU,ag,bO,bJ];have e:((cd w !=0)||((AA m.Xg:Int) !=(AA w.Xd:Int)))= !qu (cd w=0/\(AA m.Xg)=AA w.Xd):=by
  grind
 rw[e];cases f:qu (cd w=0/\(AA m.Xg)=AA w.Xd);{rfl};obtain⟨c,l⟩:=of_decide_eq_true f;obtain⟨_,_,g,p,n,_⟩:=eW c;refine(aR (λi=>sw (gF w m i) AE) (AA m.Xg) qa (λj h=>?_) ?_).trans ?_
 ·rw[ah qa,ab qa,wn qa];simp only[qE,show((0:Int).toNat)=0 from rfl,xF,xE];rw[ab ⟨qa,qa,qa⟩,aci _ _ jX];have b:aC (λi=>AF m.Xg j qt==AF (m.Xg.take j) i qt) (AA (m.Xg.take j))=aC (λk=>AF m.Xg j qt==AF m.Xg k qt) j:=by
   grind[P6]
  simp only[qH,b,aU,ag,bO];rw[w64 (x:=0- (AA w.Xm:Int)) qa qa,xG,<-bH];rfl
 {simp_all};rw[bB];cases aC (gF w m) (AA m.Xg)<;>rfl
theorem ZX (o:dF)(h:AA o.Xc<4294967296):(On o).o=AB (eB o.XL&&fB o):=by
 show(L9 o).run NN=_;simp only[L9,qj,Qi,qH,aU,ag,bO];cases eB o.XL;{rfl};by_cases e:AA o.Xc=0;{grind[fB]};rw[show(((AA o.Xc:Nat):Int)==0)=AE by simp_all];refine(aR (λi=>sw (m5 o i) AE) (AA o.Xc) h (λj d=>?_) ?_).trans ?_
 ·rw[ah qa,ab qa,wn qa,qE];simp only[Wl,qH,ag];unfold m5;cases b:eu (AF o.Xc j qt);{rfl};cases (AF o.Xc j qt).Xy !=0
  ·have c:=(rz b).2;refine(aR (λi=>sw (farG (AF o.Xc j qt).Xb i) (aA.fin AE)) (AF o.Xc j qt).Xb.length qa (λk a=>?_) ?_).trans ?_;{rw[ah qa,ab qa,wn qa,qE,<-bH];simp only[kP _ (show(0:Int)<=2097152 by decide) jU,qH];rfl};{simp_all};rw[bB];cases aC (farG (AF o.Xc j qt).Xb) (AF o.Xc j qt).Xb.length<;>rfl
  rfl
 {simp_all};rw[bB,fB];grind[aC,sw]
theorem uf (w:al)(e:∀o∈w.Xd,AA o.Xc<4294967296):(nk w).o=AB (cd w):=by
 show(I7 w).run NN=_;simp only[I7,qj,lM,qH,cd];by_cases h:aT w.Xi=0
 ·rw[aS h,qb qa];simp only[aU,ag,bO];have l:(qu ((AA w.Xd:Int)>6)||(qu ((AA w.Xj:Int)>8)||(qu ((AA w.Xm:Int)>3)||(qu ((AA w.Xl:Int)>32)||(qu (w.Xq<0)||qu (w.Xq>65536))))))= !(f0 w&&i9 w):=by
   grind[f0,i9]
  have p:fitV w=((f0 w&&i9 w)&&(aC (farG w.Xj) (AA w.Xj)&&(aC (badH w) (AA w.Xm)&&aC (badG w) (AA w.Xl)))):=by grind[fitV]
  rw[l,p];cases r:f0 w&&i9 w;{rfl};have f:f0 w=true:=by simp_all
  have f:=of_decide_eq_true f;have n:=FA e (sf h);simp only[qI,qd,qL];refine(aR (λi=>sw (farG w.Xj i) 3401) (AA w.Xj) qa (λj a=>?_) ?_).trans ?_;{rw[ah qa,ab qa,wn qa,qE,<-bH];simp only[kP _ (show(0:Int)<=2097152 by decide) jU,qH];rfl};{simp_all};rw[bB];cases aC (farG w.Xj) (AA w.Xj);{rfl};simp only[sw,qI,qd,qL];refine(aR (λi=>sw (badH w i) 3401) (AA w.Xm) qa (λj a=>?_) ?_).trans ?_;{rw[ah qa,ab qa,wn qa,qE,<-bH];simp only[kP _ (show(0:Int)<=2097152 by decide) jU,qH,aU,ag,bO];rfl};{rw[ai qa]};rw[bB];cases aC (badH w) (AA w.Xm);{rfl};refine(aR (λi=>sw (badG w i) 3401) (AA w.Xl) qa (λj a=>?_) ?_).trans ?_
  ·rw[ah qa,ab qa,wn qa,qE];simp only[pT,qH,aU,ag,bO];have g:(qu ((AF w.Xl j qt).Xs<0)||(qu ((AF w.Xl j qt).Xs>=(AA w.Xm:Int))||(qu ((AF w.Xl j qt).Place<0)||(qu ((AF w.Xl j qt).Place>=(AA w.Xj:Int))|| !aI w.Xi.Xe (AF w.Xl j qt).At))))=badG w j:=by
    unfold badG;cases aI w.Xi.Xe (AF w.Xl j qt).At;{simp};rw[qQ];simp only[e9,qX,Bool.not_eq_true',Bool.and_eq_false_iff,qf,qi,qI,Bool.false_eq_true,or_false];omega
   rw[g,<-bH]
  {rw[ai qa]};rw[bB];cases aC (badG w) (AA w.Xl);{rfl};rw[qb jV];refine(fq (λj=>((cntV w j:Int),(j:Int))) (λi=>sw (badO w.Xd i) 3402) (cntV w (AA w.Xd):Int) (AA w.Xd) (by simp[cntV]) (by unfold NN;omega) (λj a=>?_) ?_).trans ?_
  ·have c:=n (j+1) qa;have b:(AF w.Xd j qt).Xc.length<4294967296:=e _ (aM a);rw[ah (by simpa using a),ab ⟨jV,by simpa using a⟩];simp only[qE,ZX _ b,qH];rw[iH a]at c;have m:AG qs ((cntV w j:Int)+((AF w.Xd j qt).Xc.length:Int))=(cntV w (j+1):Int):=by
    rw[iH a,w64 qa qa];omega
   unfold badO;cases q:eB (AF w.Xd j qt).XL;{rfl};cases t:fB (AF w.Xd j qt);{simp[sw]};simp only[qI,Bool.and_self,qd,xH,Bool.or_false];refine(aR (λk=>sw ((AF w.Xd k qt).XL==(AF w.Xd j qt).XL) (aA.fin 3402)) j qa (λk s=>?_) ?_).trans ?_;{rw[ah qa,ab qa,ab ⟨qa,qa⟩,wn qa,qE,<-bH]};{rw[ai qa]};rw[bB];cases aC (λk=>(AF w.Xd k qt).XL==(AF w.Xd j qt).XL) j;{rfl};simp only[sw,qI,qd];rw[ab ⟨qa,qa⟩,m,wn qa]
  {rw[ai jV]};rw[bB];cases aC (badO w.Xd) (AA w.Xd);{rfl};simp only[sw,qI,qd];rw[qb jV];by_cases d:24<cntV w (AA w.Xd);{rw[ah qa,qc d]};rw[ai qa,qb d]
 rw[bS h,qc kc]
theorem ug (w:al)(m:aD)(b:∀o∈w.Xd,AA o.Xc<4294967296):(pt w m).o=AB (bJ w m):=by
 show(I8 w m).run NN=_;have c:(nk (⟨w.Xi,w.Xd,w.Xj,w.Xm,w.Xl,w.Xq⟩:al)).o=AB (cd w):=uf w b;simp only[I8,qj,c,qH,aU,ag,bO,bJ];have d:((cd w !=0)||((AA m.Xg:Int) !=(AA w.Xd:Int)))= !qu (cd w=0/\(AA m.Xg)=AA w.Xd):=by
  grind
 rw[d];cases e:qu (cd w=0/\(AA m.Xg)=AA w.Xd);{rfl};obtain⟨a,l⟩:=of_decide_eq_true e;obtain⟨_,_,p,f,n,_⟩:=eW a;refine(aR (λi=>sw (gF w m i) AE) (AA m.Xg) qa (λj h=>?_) ?_).trans ?_
 ·rw[ah qa,ab qa,wn qa,ab qa];simp only[qE,aU,ag,bO];rw[w64 (x:=0- (AA w.Xm:Int)) qa qa,xG];unfold gF;cases qu (AF m.Xg j qt< -(AA w.Xm:Int))
  ·cases qu (AF m.Xg j qt>=(AA w.Xj:Int))
   ·refine(aR (λk=>sw (AF m.Xg j qt==AF m.Xg k qt) (aA.fin AE)) j qa (λk g=>?_) ?_).trans ?_;{rw[ah qa,ab qa,ab ⟨qa,qa⟩,wn qa,qE,<-bH,Bool.beq_comm]};{simp_all};rw[bB];cases aC (λk=>AF m.Xg j qt==AF m.Xg k qt) j<;>rfl
   rfl
  rfl
 {simp_all};rw[bB];cases aC (gF w m) (AA m.Xg)<;>rfl
theorem acf (l:List V3)(h:AA l<4294967296):(VI l).o=AB l:=dM qa jU
theorem abl (l:A3)(h:AA l<4294967296):(Vs l).o=AB l:=dM qa jU
theorem aca (l:Ab)(h:AA l<4294967296):(VA l).o=AB l:=dM qa jU
theorem acd (l:Ag)(h:AA l<4294967296):(VB l).o=AB l:=dM qa jU
def upto {a:Type}(g:a->a)(l:List a)(j:Nat):List a:=(l.take j).map g++l.drop j
theorem agi {a:Type}{g:a->a}{l:List a}:upto g l (AA l)=l.map g:=by simp[upto]
theorem S3 {a:Type}{g:a->a}{l:List a}{j:Nat}:AA (upto g l j)=AA l:=by simp[upto];omega
theorem agj {a:Type}[Inhabited a]{g:a->a}{l:List a}{j:Nat}(h:j<AA l):AF (upto g l j) j qt=AF l j qt:=by grind[upto]
theorem agk {a:Type}[Inhabited a]{g:a->a}{l:List a}{j:Nat}(h:j<AA l):(upto g l j).set j (g (AF l j qt))=upto g l (j+1):=by grind[xh,xD,upto]
theorem adi {b:Type}[Inhabited b]{l:List b}{j:Nat}{a:b}(h:j<AA l):AF (l.set j a) j qt=a:=by simp_all
def lw (v p:V3):V3:=(AG qs (p.1+v.1),AG qs (p.2.1+v.2.1),AG qs (p.2.2+v.2.2))
def fa (k:Int)(v:V3)(s:bD):bD:=⟨k,s.XC,s.Xb.map (lw v)⟩
theorem Zl (s:bD)(k:Int)(v:V3)(h:AA s.Xb<4294967296):(NF s k v).o=AB (fa k v s):=by
 show(KR s k v).run NN=_;simp only[KR,qj];refine(aW (λj=>((s.Xb.take j).map (lw v),(j:Int))) (s.Xb.map (lw v)) (AA s.Xb) rfl (show AA s.Xb<4294967296 from h) (λj a=>?_) ?_).trans rfl
 ·have b:s.Xb.take (j+1)=s.Xb.take j++[AF s.Xb j qt]:=by
   simp_all
  rw[ah (by simpa using a),ab ⟨jV,by simpa using a⟩];rw[ab ⟨jZ,by simp[aF];omega⟩,wn qa,b,wX];rfl
 rw[ai jV,xI]
theorem N0 (l:A5)(v:V3)(h:AA l<4294967296)(e:∀s∈l,AA s.Xb<4294967296):(Ly l v).o=AB (l.map λs=>fa s.Xy v s):=by
 show(Lz l v).run NN=_;simp only[Lz,qj];rw[ab ⟨qa,qa,qa,qa⟩];refine(aW (λj=>((l.take j).map (λs=>fa s.Xy v s),(j:Int))) (l.map λs=>fa s.Xy v s) (AA l) rfl (show AA l<4294967296 from h) (λj b=>?_) ?_).trans rfl
 ·have a:=e _ (aM b);have f:l.take (j+1)=l.take j++[AF l j qt]:=by
   rw[xD,qZ,w6 b];rfl
  rw[ah (by simpa using b),ab ⟨jV,by simpa using b⟩];simp only[qE,acf _ a,qH];refine(aW (λi=>(upto (lw v) (AF l j qt).Xb i,(i:Int))) ((AF l j qt).Xb.map (lw v)) (AF l j qt).Xb.length (by rfl) (show _<4294967296 from a) (λi c=>?_) ?_).trans ?_
  ·have d:i<AA (upto (lw v) (AF l j qt).Xb i):=by rw[S3];exact c
   rw[ah (by simpa using c)];simp only[qE,wc,List.set_set,adi d,S3,agj c];repeat rw[ab qa]
   rw[wn qa,<-agk c];rfl
  {rw[ai jV,agi]};rw[ab ⟨jZ,by simp[aF];omega⟩,wn qa,f,wX];rfl
 rw[ai jV,xI]
theorem s8 {a:Type}[Inhabited a]{l:List a}{i:Nat}(h:i<AA l):l.take (i+1)=l.take i++[AF l i qt]:=by simp_all
theorem ahg {a β:Type}[Inhabited a][Inhabited β]{l:List a}{f:a->β}{i:Nat}(h:i<AA l):AF (l.map f) i qt=f (AF l i qt):=by simp_all
theorem S6 {τ R:Type}{o:Option (aA Unit τ R)}{k:τ->Option R}{y:τ}(h:o=AB (.out y)):andC o k=k y:=by rw[h];rfl
theorem valid_parts' {w:al}{m:aD}(h:bJ w m=AD):cd w=0/\(AA m.Xg)=AA w.Xd/\∀i,i<AA w.Xd->gF w m i=false:=by grind[bJ,noneB_iff]
theorem S4 {w:al}{m:aD}(h:bJ w m=AD){i:Nat}(a:i<AA w.Xd): -(AA w.Xm:Int)<=AF m.Xg i qt/\AF m.Xg i qt<(AA w.Xj:Int):=by have:=(valid_parts' h).2.2 i a;grind[gF]
theorem Ee(h:cd w=0):(∀i,i<AA w.Xd->badO w.Xd i=AE)/\cntV w (AA w.Xd)<=24:=by grind[cd,noneB_iff]
theorem RA {w:al}(h:cd w=0){i:Nat}(a:i<AA w.Xd):∀s∈(AF w.Xd i qt).Xc,AA s.Xb<=8:=by grind[Ee,badO,fB,wh,noneB_iff,m5,rz]
theorem El {w:al}:∀ {j i:Nat},i<=j->j<=AA w.Xd->cntV w i<=cntV w j
 |0,i,h,_=>jW
 |j+1,i,h,b=>by
  rcases Nat.lt_or_ge i (j+1)with a|a;{have:=El (w:=w) (show i<=j from qa) qa;rw[iH qa];omega};rw[show i=j+1 from qa];exact wg _
def whV (w:al)(x:Int):Int×V3:=
 bif qu (x>=0)then(-1,AF w.Xj x.toNat qt)else((AF w.Xm (-1-x).toNat qt).Xy,(AF w.Xm (-1-x).toNat qt).XH)
def objV (w:al)(m:aD)(i:Nat):A5:=(AF w.Xd i qt).Xc.map (fa (whV w (AF m.Xg i qt)).1 (whV w (AF m.Xg i qt)).2)
def shpV (w:al)(m:aD)(i:Nat):A5:=w.Xi.Xc++(tab (objV w m) i).flatten
def scnV (w:al)(m:aD):aj:=⟨w.Xi.Xe,shpV w m (AA w.Xd),w.Xi.Xo⟩
theorem EY (w:al)(m:aD)(i:Nat):shpV w m (i+1)=shpV w m i++objV w m i:=by simp[shpV,eY]
theorem Fu {w:al}{m:aD}:∀ {i:Nat},i<=AA w.Xd->AA (shpV w m i)=cntV w i
 |0,_=>by simp[shpV,tab,cntV]
 |i+1,h=>by rw[EY,wW,Fu qa,iH qa];simp[objV]
theorem acR {s:bD}{n:Nat}(h:eM n s=0):fa s.Xy (0,0,0) s=s:=by
 have d:aC (farP s.Xb) (AA s.Xb)=true:=by
  grind[eM]
 have f:s.Xb.map (lw (0,0,0))=s.Xb:=by
  refine(xJ λp a=>?_).trans (xK _);obtain⟨k,c,rfl⟩:=wh a;have b:=noneB_iff.1 d k c;simp only[farP,wG,qZ,w6 c,w7]at b;have e:=nearV_iff.1 b;generalize s.Xb[k]=q at e⊢;show(AG qs (q.1+0),AG qs (q.2.1+0),AG qs (q.2.2+0))=q;grind[w64]
 unfold fa;rw[f]
theorem abT {s:aj}(h:aT s=0):(s.Xc.map λx=>fa x.Xy (0,0,0) x)=s.Xc:=by refine(xJ λx b=>?_).trans (xK _);obtain⟨k,a,rfl⟩:=wh b;have:=(kW h).shape k a;grind[acR]
theorem ab6 {s:aj}(h:aT s=0):∀x∈s.Xc,AA x.Xb<4294967296:=by intro x b;obtain⟨k,a,rfl⟩:=wh b;have:=(kW h).shape k a;grind[eM]
theorem aaX(h:bF r=0):AA r.Xn<=32:=by grind[bF,eo,errJ,sw]
def cq (w:al)(m:aD):aj×Int:=
 if cd w≠0 then(⟨⟨nl,nl⟩,nl,nl⟩,cd w)else if bJ w m=AE then(⟨⟨nl,nl⟩,nl,nl⟩,3403)else(scnV w m,0)
theorem Zk (w:al)(m:aD)(k:∀o∈w.Xd,AA o.Xc<4294967296):(KP w m).o=AB (cq w m):=by
 show(KQ w m).run NN=_;simp only[KQ,qj,uf w k,ug w m k,qH,cq];by_cases h:cd w=0
 ·rw[aS h,qb qa];cases g:bJ w m;{rfl};obtain⟨_,z,_⟩:=valid_parts' g;obtain⟨f,_,t,n,p,_⟩:=eW h;have v:=(Ee h).2;have u:=sf f;rw[qb jV,ab ⟨qa,by simp[aF];omega⟩];refine(aW (λj=>(shpV w m j,(j:Int))) (shpV w m (AA w.Xd)) (AA w.Xd) (by simp[shpV,tab]) (show AA w.Xd<4294967296 from qa) (λj a=>?_) ?_).trans rfl
  ·have A:=S4 g a;have c:=RA h a;have d:=El (w:=w) (show j+1<=AA w.Xd from qa) (wg _);have q:=Fu (w:=w) (m:=m) (show j<=AA w.Xd from qa);rw[iH a]at d;rw[ah qa,ab ⟨jV,qa⟩];simp only[qE];refine(S6 (y:=((whV w (AF m.Xg j qt)).1,(whV w (AF m.Xg j qt)).2.1,(whV w (AF m.Xg j qt)).2.2.1,(whV w (AF m.Xg j qt)).2.2.2)) ?_).trans ?_
   ·unfold whV;by_cases l:AF m.Xg j qt>=0;{grind[ab]};have e:=w64 (x:= -1-AF m.Xg j qt) qa qa;rw[ai l,ai l,ab qa,ab qa,e]
   refine(aW (λi=>(shpV w m j++((AF w.Xd j qt).Xc.take i).map (fa (whV w (AF m.Xg j qt)).1 (whV w (AF m.Xg j qt)).2),(i:Int))) (shpV w m (j+1)) (AF w.Xd j qt).Xc.length jV (show _<4294967296 from qa) (λi b=>?_) ?_).trans ?_;{have r:=c _ (aM b);have s:(AF w.Xd j qt).Xc.take (i+1)=(AF w.Xd j qt).Xc.take i++[(AF w.Xd j qt).Xc.getD i qt]:=s8 b;rw[ab ⟨jV,by simpa using a⟩,ah (by simpa using b),ab ⟨jV,by simpa using a⟩,ab ⟨jV,by simpa using b⟩];simp only[qE];rw[Zl _ _ _ qa];simp only[qH];rw[ab ⟨jZ,by simp[aF];omega⟩,wn qa,s,wX,<-wE];rfl};{rw[ab ⟨jV,by simpa using a⟩,ai jV,EY,xI];rfl};rw[wn qa]
  rw[ai jV]
 rw[bS h,qc kc]
theorem OF (w:al)(m:aD)(p:∀o∈w.Xd,AA o.Xc<4294967296):(uT w m).o=AB (cq w m):=by
 show(vT w m).run NN=_;simp only[vT,qj,vR w p,uU w m p,qH,cq];by_cases h:cd w=0
 ·rw[aS h,qb qa];cases q:bJ w m;{rfl};obtain⟨_,G,_⟩:=valid_parts' q;obtain⟨a,_,E,t,C,_⟩:=eW h;have F:=(Ee h).2;have n:=sf a;have b:=kW a;have u:=(cZ b.robot).2.1;have A:=aaX b.robot;have v:=b.skips;rw[qb jV,abl _ qa,qH,aca _ qa,qH,N0 _ _ qa (ab6 a),qH,acd _ qa,qH,abT a];refine(aW (λj=>(shpV w m j,(j:Int))) (shpV w m (AA w.Xd)) (AA w.Xd) (by simp[shpV,tab]) (show AA w.Xd<4294967296 from qa) (λj c=>?_) ?_).trans rfl
  ·have r:=S4 q c;have k:=RA h c;have l:=El (w:=w) (show j+1<=AA w.Xd from qa) (wg _);have B:=Fu (w:=w) (m:=m) (show j<=AA w.Xd from qa);rw[iH c]at l;rw[ah (by simpa using c),ab ⟨jV,by simpa using c⟩,ab ⟨jV,qa⟩];simp only[qE];refine(S6 (y:=((whV w (AF m.Xg j qt)).1,(whV w (AF m.Xg j qt)).2.1,(whV w (AF m.Xg j qt)).2.2.1,(whV w (AF m.Xg j qt)).2.2.2)) ?_).trans ?_
   ·unfold whV;by_cases d:AF m.Xg j qt>=0;{rw[ah d,ah d,ab ⟨d,r.2⟩]};have e:=w64 (x:= -1-AF m.Xg j qt) qa qa;rw[ai d,ai d,ab qa,ab qa,e]
   rw[N0 _ _ qa (λs n=>by have:=k s n;omega),qH];have g:AA ((AF w.Xd j qt).Xc.map λs=>fa s.Xy ((whV w (AF m.Xg j qt)).2.1,(whV w (AF m.Xg j qt)).2.2.1,(whV w (AF m.Xg j qt)).2.2.2) s)=(AF w.Xd j qt).Xc.length:=xj _;refine(aW (λi=>(shpV w m j++((AF w.Xd j qt).Xc.take i).map (fa (whV w (AF m.Xg j qt)).1 (whV w (AF m.Xg j qt)).2),(i:Int))) (shpV w m (j+1)) (AF w.Xd j qt).Xc.length jV (show _<4294967296 from qa) (λi f=>?_) ?_).trans ?_;{have D:(AF w.Xd j qt).Xc.take (i+1)=(AF w.Xd j qt).Xc.take i++[(AF w.Xd j qt).Xc.getD i qt]:=s8 f;have z:((AF w.Xd j qt).Xc.map λs=>fa s.Xy ((whV w (AF m.Xg j qt)).2.1,(whV w (AF m.Xg j qt)).2.2.1,(whV w (AF m.Xg j qt)).2.2.2) s).getD i qt=fa ((AF w.Xd j qt).Xc.getD i qt).Xy ((whV w (AF m.Xg j qt)).2.1,(whV w (AF m.Xg j qt)).2.2.1,(whV w (AF m.Xg j qt)).2.2.2) ((AF w.Xd j qt).Xc.getD i qt):=ahg f;rw[g,ah (by simpa using f),ab ⟨jV,by simpa using f⟩];simp only[qE];rw[ab f,z,ab ⟨jZ,by simp[aF];omega⟩,wn qa,D,wX,<-wE];rfl};{rw[g,ai jV,EY,xI];rfl};rw[wn qa]
  rw[ai jV]
 rw[bS h,qc kc]
theorem abJ (c:A7)(a:AA c<4294967296):(Qa c).o=AB (ptB c):=by
 show(CE c).run NN=_;simp only[CE,qj,p9 c a,qH];unfold ptB;cases d:cQ c with
 |false=>rfl
 |true=>
  refine(aW (λi=>(tab (ptI c) i,(i:Int))) (tab (ptI c) (AA c)) (AA c) rfl a (λi b=>?_) ?_).trans rfl;{rw[ah qa,ab qa,ab qa,qE,ab (by grind[bL,aF]),wn qa,eY];rfl};simp_all
theorem Pm (c:A7)(a:AA c<4294967296):(y7 c).o=AB (ptB c):=by
 show(y8 c).run NN=_;simp only[y8,qj,pN c a,qH];unfold ptB;cases f:cQ c with
 |false=>rfl
 |true=>
  have e:(Vr c).o=AB (tab (ptI c) (AA c)):=by
   show(GJ c).run NN=_;simp only[GJ,qj];rw[ab ⟨qa,qa,qa,qa⟩,qE];refine(aW (λj=>(half (ptI c) (⟨0,0⟩:af) (AA c) j,(j:Int))) (tab (ptI c) (AA c)) (AA c) (by rfl) a (λj d=>?_) ?_).trans rfl
   ·have b:=noneB_iff.1 f j d;simp only[big1,qo,qi]at b;grind[ofV,ptI,clV,ab,nH,g8,wn,g9]
   grind[iM]
  simp_all
theorem Qz{c:A7}(h:aI r c=AD):bF r=0/\(AA c)=AA r.Xa/\(AA c)<=10/\cQ c=AD/\boxV r (ptB c)=true:=by
 simp only[aI,ql,qf]at h;obtain⟨a,e,g⟩:=h;have j:=cZ a;have b:cQ c=true:=by
  unfold cQ;rw[noneB_iff];intro i d;have k:=(fj a (i:=i) qa).lim;have f:=lh (AF r.Xa i qt).Xp;grind[noneB_iff,outJ,big1]
 refine⟨a,e,qa,b,?_⟩;unfold ptB boxV;rw[qc b,bL,ql,qf,noneB_iff];refine⟨e,λi d=>?_⟩;have l:=noneB_iff.1 b i d;grind[big1,notV,dL,vV,ptI]
theorem tq3 {a b:Bool}:(bif a then((AD,AD,AD):Bool×Bool×Bool)else(AE,b,b)).2.2=(a||b):=jX
theorem tq4 {a b:Bool}:(bif a then((AD,AD,AD,AD):Bool×Bool×Bool×Bool)else(AE,b,b,b)).2.2.2=(a||b):=jX
theorem aii {b c:Bool}:(bif b then AB AE else AB c)=AB (!b&&c):=jX
def mT (w:al)(h p:Int)(c:A7):Bool:=qu (cd w=0)&&(e9 w h p&&aI w.Xi.Xe c)
theorem ado{h p:Int}{c:A7}(a:mT w h p c=AD):
 bF w.Xi.Xe=0/\boxV w.Xi.Xe (ptB c)=AD/\(AA c)<4294967296/\(0<=h/\h<(AA w.Xm:Int))/\(0<=p/\p<(AA w.Xj:Int))/\0<=(AF w.Xm h.toNat qt).Xy/\(AF w.Xm h.toNat qt).Xy<(AA w.Xi.Xe.Xa:Int):=by
 grind[mT,e9,Qz,eW,fitV,noneB_iff,badH]
theorem Us (w:al)(h p:Int)(c:A7)(f:∀o∈w.Xd,AA o.Xc<4294967296):∃b,(kT w h p c).o=AB b/\(nE w h p c).o=AB b:=by
 have k:(kT w h p c).o=(Dh w h p c).run NN:=rfl;have m:(nE w h p c).o=(L8 w h p c).run NN:=rfl;rw[k,m];unfold Dh L8;simp only[qj,vR w f,uf w f,OG,kI,pT,qH,aU,ag,bO];have j:((cd w !=0)||(!e9 w h p|| !aI w.Xi.Xe c))= !mT w h p c:=by
  grind[mT]
 have s:((cd w !=0)||(qu (h<0)||(qu (h>=(AA w.Xm:Int))||(qu (p<0)||(qu (p>=(AA w.Xj:Int))|| !aI w.Xi.Xe c)))))= !mT w h p c:=by
  grind[e9]
 rw[j,s];cases q:mT w h p c;{simp_all};obtain⟨d,a,g,i,n,l,t⟩:=ado q;have r:(We w.Xi.Xe (ptB c)).o=AB (tab (lkP w.Xi.Xe (ptB c)) (AA w.Xi.Xe.Xa)):=by
  show(H9 w.Xi.Xe (ptB c)).run NN=_;have u:AA (ptB c)<4294967296:=by
   grind[boxV,cZ]
  have y:(ua (⟨w.Xi.Xe.Xa,w.Xi.Xe.Xn⟩:am) (ptB c)).o=AB true:=(Wf _ _ u).trans (congrArg AB a);have v:(iw (⟨w.Xi.Xe.Xa,w.Xi.Xe.Xn⟩:am)).o=AB 0:=(l6 _).trans (congrArg AB d);have x:(ub (⟨w.Xi.Xe.Xa,w.Xi.Xe.Xn⟩:am) (ptB c)).o=AB (tab (lkP w.Xi.Xe (ptB c)) (AA w.Xi.Xe.Xa)):=Wg d a;simp_all[H9,qj,ag]
 rw[ab i,ab i,Pm c g,abJ c g];simp only[qH];rw[r,OP d a];simp only[qH,bL];have e:0<=(AF w.Xm h.toNat qt).Xy/\(AF w.Xm h.toNat qt).Xy<(AA w.Xi.Xe.Xa:Int):=⟨l,t⟩;simp only[uD,rl,PA,PH,qH,ab n,ab e,aU,ag,bO,tq3,tq4,aii];refine⟨_,rfl,?_⟩
 ac_rfl
theorem agu {τ R:Type}{o:Option (aA Unit τ R)}{k:τ->Option R}{P:R->Prop}(Q:τ->Prop)(h:∃y,o=AB (.out y)/\Q y)(a:∀y,Q y->∃r,k y=AB r/\P r):∃r,andC o k=AB r/\P r:=by obtain⟨y,rfl,b⟩:=h;exact a y b
def R0:am:=⟨[⟨nmL 0,4,-1,(0,0,0),0,64,1,65536,65536,65536⟩,⟨nmL 1,5,0,(0,0,0),0,64,1,65536,65536,65536⟩],[]⟩
theorem aga:(v9 2 64).o=AB R0:=by rfl
theorem rob0:bF R0=0:=by rfl
theorem ah3 {x y:Int}(b:0<=x)(d:x<=64)(c:0<=y)(e:y<=64):aI R0 [x,y]=true:=by
 unfold aI;rw[rob0,qg rfl,qg (show([x,y]:A7).length=AA R0.Xa from rfl),qL,qL,noneB_iff];intro i a
 match i,a with
 |0,_=>
  show(decide _||decide _)=AE;simp only[qo,qi];exact⟨by show ¬x<0;omega,by show ¬x>64;omega⟩
 |1,_=>
  show(decide _||decide _)=AE;simp only[qo,qi];exact⟨by show ¬y<0;omega,by show ¬y>64;omega⟩
theorem tL {v:V3}{m:Int}(h:NB m v):cK v m=true:=by obtain⟨a,b,c,d,e,f⟩:=h;grind[nearV_iff]
theorem Tu {v:V3}(h:NB 4194304 v):aC (farP [v]) (AA ([v]:List V3))=true:=noneB_iff.2 λi a=>by
 match i,a with
 |0,_=>show(!cK v 4194304)=AE;rw[tL h];rfl
theorem afz {v:V3}(h:NB 2097152 v):aC (farG [v]) (AA ([v]:List V3))=true:=noneB_iff.2 λi a=>by
 match i,a with
 |0,_=>show(!cK v 2097152)=AE;rw[tL h];rfl
theorem Uo {n:Nat}{k t:Int}{v:V3}(d: -1<=k)(a:k<(n:Int))(c:1<=t)(e:t<=1048576)(b:NB 4194304 v):ShOk n (⟨k,t,[v]⟩:bD):=by grind[ShOk,eM,dh,betV,Tu]
theorem aj1 {a:ByteArray}{t:Int}{v:V3}(e:1<=t)(d:t<=1048576)(b:NB 2097152 v):fB (⟨a,[⟨0,t,[v]⟩]⟩:dF)=true:=by
 unfold fB;rw[show qu (0<AA ([⟨0,t,[v]⟩]:A5))=AD from rfl,Bool.and_true,noneB_iff];intro i c
 match i,c with
 |0,_=>
  show((!eu (⟨0,t,[v]⟩:bD)||((0:Int) !=0))|| !aC (farG [v]) (AA ([v]:List V3)))=AE;rw[afz b];unfold eu;rw[Tu (b.mono jU),show betV t 1 1048576=AD by simp[betV];omega];rfl
def PlOk (v:V3):Prop:=16<=v.1/\v.1<=64/\0<=v.2.1/\v.2.1<=16/\v.2.2=0
def HdOk (h:it):Prop:=h.Xy=1/\cK h.XH 2097152=AD
def GrOk (H P:Nat)(g:fK):Prop:=0<=g.Xs/\g.Xs<(H:Int)/\0<=g.Place/\g.Place<(P:Int)/\aI R0 g.At=AD
def ObOk (n:Nat)(o:dF):Prop:=o.XL=nmL n/\(AA o.Xc)=1/\fB o=AD
structure MadeW (w:al):Prop where
 rob:w.Xi.Xe=R0
 scene:aT w.Xi=0
 shapes:AA w.Xi.Xc<=2
 pl:2<=AA w.Xj/\(AA w.Xj)<=4/\∀v∈w.Xj,PlOk v
 hd:1<=AA w.Xm/\(AA w.Xm)<=2/\∀h∈w.Xm,HdOk h
 sl:4<=w.Xq/\w.Xq<=7
 ob:1<=AA w.Xd/\(AA w.Xd)<=2/\∀j,j<AA w.Xd->ObOk (AA w.Xd-j) (AF w.Xd j qt)
 gr:AA w.Xl<=8/\∀g∈w.Xl,GrOk (AA w.Xm) (AA w.Xj) g
theorem afm {i:Nat}(h:i<=2):(xn (i:Int)).o=AB (nmL i):=by show(ya (i:Int)).run NN=_;simp only[ya,qj];rw[wn qa,ab ⟨qa,qa,by rw[show((⟨#[97,98,99,100,101,102,103,104,105,106]⟩:ByteArray).size)=10 from rfl];omega⟩];rfl
theorem EJ {a:Type}[Inhabited a]{l:List a}{x:a}{i:Nat}:AF (l++[x]) i qt=if i<AA l then AF l i qt else if i=AA l then x else qt:=by grind
theorem YI (l:A7)(q:AA l<4294967296):∃w,(MY l).o=AB w/\MadeW w:=by
 show ∃w,(JD l).run NN=AB w/\_;simp only[JD,qj];have ef:(kO l).o=AB (l,0):=rfl;rw[ef,qH,aga,qH,ab ⟨jU,by simp[aF]⟩];have s0:ShOk 2 (⟨1,1,[(0,0,20)]⟩:bD):=Uo jU jU jU jU ⟨jU,jU,jU,jU,jU,jU⟩;refine agu (λ(y:A7×Int×A5)=>y.1=l/\0<=y.2.1/\y.2.1<=(AA l:Int)/\(AA y.2.2)<=2/\∀x∈y.2.2,ShOk 2 x) ?_ (λy1 h=>?_)
 ·obtain⟨Q,n1,q1,a1,b1,c1,d1⟩:=dR q (n:=0) qa qa (k:=2) jU jU;rw[q1,qH];cases Q==1;{simp_all};obtain⟨X,n2,q2,a2,b2,c2,d2⟩:=dR q c1 d1 (k:=5) jU jU;obtain⟨r3,n3,q3,a3,b3,c3,d3⟩:=dR q c2 d2 (k:=65) jU jU;obtain⟨Z,n4,q4,a4,b4,c4,d4⟩:=dR q c3 d3 (k:=65) jU jU;obtain⟨r5,n5,q5,a5,b5,c5,d5⟩:=dR q c4 d4 (k:=20) jU jU;simp only[qe];rw[q2,qH,q3,qH,q4,qH,q5,qH,ab ⟨jV,by simp[aF]⟩,w64 (x:=1+X) qa qa];refine⟨_,rfl,rfl,c5,d5,jV,λx t=>?_⟩;rcases wH.1 t with t|t;{simp_all};rw[wP.1 t];exact Uo jU jU qa qa ⟨qa,qa,jX,jX,jX,jX⟩
 obtain⟨u,y12,sh⟩:=y1;obtain⟨d,f,c,V,J⟩:=h;simp only at d f c V J;subst d;have hsc:aT (⟨R0,sh,[]⟩:aj)=0:=ag8 rob0 qa J jV (λx t=>jX);obtain⟨Q,n1,q1,a1,b1,c1,d1⟩:=dR q f c (k:=3) jU jU;simp only;rw[q1,qH];simp only;rw[w64 (x:=2+Q) qa qa];obtain⟨M,hM⟩:∃M:Nat,2+Q=(M:Int):=⟨(2+Q).toNat,qa⟩;rw[hM]
 refine mE (g:=λb=>b) M qa (λj (y:A7×Int×List V3×Int)=>y.1=u/\0<=y.2.1/\y.2.1<=(AA u:Int)/\(AA y.2.2.1=j/\∀v∈y.2.2.1,PlOk v)/\y.2.2.2=(M:Int)- (j:Int))
  (λ(z:A7×Int×List V3)=>z.1=u/\0<=z.2.1/\z.2.1<=(AA u:Int)/\(AA z.2.2)=M/\∀v∈z.2.2,PlOk v) ⟨rfl,c1,d1,⟨rfl,λv a=>by cases a⟩,jV⟩ (λj y Y h=>?_) (λy h=>?_) (λz s=>?_)
 ·obtain⟨d,f,c,⟨r,p⟩,m⟩:=h;obtain⟨I,m1,K,u1,v1,E,D⟩:=dR q f c (k:=3) jU jU;rw[m,d,ah qa,K,qH];simp only;rw[ab ⟨jZ,by simp[aF];omega⟩,w64 (x:=(M:Int)- (j:Int)-1) qa qa,w64 (x:=16 * ((M:Int)- (j:Int))) qa qa,w64 (x:=8 * I) qa qa];refine⟨_,rfl,rfl,E,D,⟨jZ,λv a=>?_⟩,j8⟩;rcases wH.1 a with a|a;{exact p v a};rw[wP.1 a];exact⟨j9,j9,j9,j9,rfl⟩
 {obtain⟨d,f,c,⟨r,p⟩,m⟩:=h;rw[m,ai qa];exact⟨_,rfl,d,f,c,r,p⟩};obtain⟨z1,z2,pl⟩:=z;obtain⟨d,f,c,W,C⟩:=s;simp only at d f c W C;subst d;obtain⟨X,n2,q2,a2,b2,c2,d2⟩:=dR q f c (k:=2) jU jU;simp only;rw[q2,qH];simp only;rw[w64 (x:=1+X) qa qa];obtain⟨H,hH⟩:∃H:Nat,1+X=(H:Int):=⟨(1+X).toNat,qa⟩;rw[hH];refine mE (g:=λb=>b) H qa (λj (y:A4×Int)=>(AA y.1=j/\∀v∈y.1,HdOk v)/\y.2=(H:Int)- (j:Int)) (λ(z:A4)=>AA z=H/\∀v∈z,HdOk v) ⟨⟨rfl,λv a=>by cases a⟩,jV⟩ (λj y Y h=>?_) (λy h=>?_) (λhd s=>?_)
 ·obtain⟨⟨r,p⟩,m⟩:=h;rw[m,ah qa,ab ⟨jZ,by simp[aF];omega⟩,w64 (x:=(H:Int)- (j:Int)-1) qa qa,w64 (x:=2 * ((H:Int)- (j:Int)-1)) qa qa];refine⟨_,rfl,⟨jZ,λv a=>?_⟩,j8⟩;rcases wH.1 a with a|a;{exact p v a};rw[wP.1 a];exact⟨rfl,tL ⟨j9,j9,j9,j9,j9,j9⟩⟩
 {obtain⟨⟨r,p⟩,m⟩:=h;rw[m,ai qa];exact⟨_,rfl,r,p⟩};obtain⟨hhl,hhv⟩:=s;obtain⟨r3,n3,q3,a3,b3,c3,d3⟩:=dR q c2 d2 (k:=4) jU jU;obtain⟨Z,n4,q4,a4,b4,c4,d4⟩:=dR q c3 d3 (k:=2) jU jU;rw[q3,qH];simp only;rw[q4,qH];simp only;rw[w64 (x:=1+Z) qa qa,w64 (x:=r3+4) qa qa];obtain⟨O,hO⟩:∃O:Nat,1+Z=(O:Int):=⟨(1+Z).toNat,qa⟩;rw[hO]
 refine mE (g:=λb=>b) O qa (λj (y:A7×Int×A6×Int)=>y.1=z1/\0<=y.2.1/\y.2.1<=(AA z1:Int)/\(AA y.2.2.1=j/\∀i,i<j->ObOk (O-i) (AF y.2.2.1 i qt))/\y.2.2.2=(O:Int)- (j:Int))
  (λ(z:A7×Int×A6)=>z.1=z1/\0<=z.2.1/\z.2.1<=(AA z1:Int)/\(AA z.2.2)=O/\∀i,i<O->ObOk (O-i) (AF z.2.2 i qt)) ⟨rfl,c4,d4,⟨rfl,λi hi=>qa⟩,jV⟩ (λj y Y h=>?_) (λy h=>?_) (λz s=>?_)
 ·obtain⟨d,f,c,⟨r,p⟩,m⟩:=h;obtain⟨I,m1,K,u1,v1,E,D⟩:=dR q f c (k:=2) jU jU;obtain⟨s2,m2,p2,u2,v2,w2,x2⟩:=dR q E D (k:=3) jU jU;have A:=afm (i:=O-j) qa;rw[show((O-j:Nat):Int)=(O:Int)- (j:Int) from qa]at A;rw[m,d,ah qa,A,qH,K,qH];simp only;rw[p2,qH];simp only;rw[ab ⟨jZ,by simp[aF];omega⟩,w64 (x:=(O:Int)- (j:Int)-1) qa qa,w64 (x:=1+I) qa qa];refine⟨_,rfl,rfl,w2,x2,⟨jZ,λi hi=>?_⟩,j8⟩;dsimp only;rw[EJ];by_cases e:i<j;{rw[qc qa];exact p i e};rw[qb qa,qc qa,show i=j from qa];exact⟨rfl,rfl,aj1 qa qa ⟨j9,j9,j9,j9,j9,j9⟩⟩
 {obtain⟨d,f,c,⟨r,p⟩,m⟩:=h;rw[m,ai qa];exact⟨_,rfl,d,f,c,r,p⟩};obtain⟨B,t2,ob⟩:=z;obtain⟨d,f,c,U,L⟩:=s;simp only at d f c U L;subst d;simp only
 refine mE (g:=λb=>b) H qa (λj (y:A7×Int×Aa×Int)=>y.1=B/\0<=y.2.1/\y.2.1<=(AA B:Int)/\(AA y.2.2.1<=4 * j/\∀v∈y.2.2.1,GrOk H M v)/\y.2.2.2=(j:Int))
  (λ(z:Aa)=>AA z<=8/\∀v∈z,GrOk H M v) ⟨rfl,f,c,⟨by simp[nl],λv a=>by cases a⟩,rfl⟩ (λj y Y h=>?_) (λy h=>?_) (λgr s=>?_)
 ·obtain⟨d,f,c,⟨r,p⟩,m⟩:=h;rw[m,ah qa]
  refine mE (g:=aA.next) (P:=λ(F:A7×Int×Aa×Int)=>F.1=B/\0<=F.2.1/\F.2.1<=(AA B:Int)/\(AA F.2.2.1<=4 * (j+1)/\∀v∈F.2.2.1,GrOk H M v)/\F.2.2.2=((j+1:Nat):Int)) M qa (λk (x:A7×Int×Aa×Int)=>x.1=B/\0<=x.2.1/\x.2.1<=(AA B:Int)/\(AA x.2.2.1<=4 * j+k/\∀v∈x.2.2.1,GrOk H M v)/\x.2.2.2=(k:Int))
   (λ(z:A7×Int×Aa)=>z.1=B/\0<=z.2.1/\z.2.1<=(AA B:Int)/\(AA z.2.2<=4 * (j+1)/\∀v∈z.2.2,GrOk H M v)) ⟨d,f,c,⟨by simpa using r,p⟩,rfl⟩ (λk x hk t=>?_) (λx t=>?_) (λz s=>?_)
  ·obtain⟨R,S,N,⟨k4,G⟩,k5⟩:=t;obtain⟨I,m1,K,u1,v1,E,D⟩:=dR q S N (k:=8) jU jU;obtain⟨s2,m2,p2,u2,v2,w2,x2⟩:=YZ q E D (k:=2) jU jU;have hp:=C _ (aM (l:=pl) (i:=k) qa);obtain⟨i1,i2,i3,i4,i5⟩:=hp;rw[k5,R,ah qa,K,qH];simp only;by_cases hs:I<7
   ·rw[ah hs,ab ⟨qa,qa⟩,qE,ab qa,p2,qH];simp only;rw[ab ⟨qa,qa⟩,ab qa,ab ⟨jZ,by simp[aF];omega⟩,ag,wn qa,w64 (x:=_+s2) qa qa];refine⟨_,rfl,rfl,w2,x2,⟨jZ,λv a=>?_⟩,rfl⟩;rcases wH.1 a with a|a
    {exact G v a};rw[wP.1 a];exact⟨j9,j9,j9,j9,ah3 qa qa qa qa⟩
   rw[ai hs,ag,wn qa];exact⟨_,rfl,rfl,E,D,⟨j9,G⟩,rfl⟩
  {obtain⟨R,S,N,⟨k4,G⟩,k5⟩:=t;rw[k5,ai qa];exact⟨_,rfl,R,S,N,j9,G⟩};obtain⟨R,S,N,k4,G⟩:=s;rw[wn qa];exact⟨_,rfl,R,S,N,⟨k4,G⟩,rfl⟩
 {obtain⟨d,f,c,⟨r,p⟩,m⟩:=h;rw[m,ai qa];exact⟨_,rfl,qa,p⟩};obtain⟨hgl,hgv⟩:=s;exact⟨_,rfl,rfl,hsc,V,⟨j9,j9,C⟩,⟨j9,j9,hhv⟩,⟨j9,j9⟩,⟨j9,j9,λj Y=>by dsimp only at Y⊢;rw[U];exact L j qa⟩,⟨hgl,λg hg=>by rw[hhl,W];exact hgv g hg⟩⟩
theorem Sk {a:Type}[Inhabited a]{l:List a}{p:a->Prop}(h:∀i,i<AA l->p (AF l i qt)):∀x∈l,p x:=λx b=>by
 grind[wh]
theorem MadeW.small(h:MadeW w):∀o∈w.Xd,AA o.Xc<4294967296:=Sk λi a=>by
 rw[(h.ob.2.2 i a).2.1];decide
theorem ajp {a b:Nat}(h:1<=a)(d:a<=2)(i:1<=b)(g:b<=2)(f:a≠b):(nmL a==nmL b)=false:=by
 have e:(nmL 1==nmL 2)=false:=by rfl
 have c:(nmL 2==nmL 1)=false:=by rfl
 grind
theorem aee(h:MadeW w):cd w=0:=by
 obtain⟨z,u,p⟩:=h.pl;obtain⟨v,C,o⟩:=h.hd;obtain⟨A,q,g⟩:=h.ob;obtain⟨t,j⟩:=h.gr;obtain⟨B,y⟩:=h.sl;have l:fitV w=true:=by
  unfold fitV;simp only[ql,noneB_iff];refine⟨qg qa,qg qa,λi f=>?_,λi f=>?_,λi f=>?_⟩;{obtain⟨a,b,c,d,e⟩:=p _ (aM f);unfold farG;rw[tL ⟨qa,qa,qa,qa,qa,qa⟩];rfl};{obtain⟨a,b⟩:=o _ (aM f);unfold badH;rw[a,b,h.rob];rfl};obtain⟨a,b,c,d,e⟩:=j _ (aM f);unfold badG e9;rw[h.rob,e,qg a,qg b,qg c,qg d];rfl
 have n:aC (badO w.Xd) (AA w.Xd)=true:=noneB_iff.2 λi f=>by
  obtain⟨a,b,c⟩:=g i f;have m:=(ajq (AA w.Xd-i) qa).1;unfold badO;rw[a,c,m,noneB_iff.2 λk x=>?_];{rfl};rw[(g k qa).1];grind[ajp]
 have r:∀i,i<=AA w.Xd->cntV w i<=2+i:=by
  intro i;induction i with
  |zero=>have:=h.shapes;simp[cntV];omega
  |succ i s=>intro f;rw[iH qa,(g i qa).2.1];omega
 unfold cd;rw[qb (by rw[h.scene];simp),l,n,qb jV,qb jV,qb jX]
theorem aj8 (l:A7)(k:Int)(h:AA l<4294967296):(Cy l k).o=AB (!aC (λi=>AF l i qt==k) (AA l)):=by show(Cz l k).run NN=_;simp only[Cz,qj];refine(aR (λi=>sw (AF l i qt==k) AD) (AA l) h (λj a=>?_) ?_).trans ?_;{rw[ah qa,ab qa,wn qa,qE,bH]};{simp_all};rw[bB];cases aC (λi=>AF l i qt==k) (AA l)<;>rfl
def PlL (H P:Nat)(l:A7):Prop:=∀i,i<AA l-> -(H:Int)<=AF l i qt/\AF l i qt<(P:Int)/\∀k,k<i->AF l k qt≠AF l i qt
def MI (w:al)(m:A7)(j:Nat)(y:A7×Int×A7×Int):Prop:=
 y.1=m/\0<=y.2.1/\y.2.1<=(AA m:Int)/\(AA y.2.2.1=j/\PlL (AA w.Xm) (AA w.Xj) y.2.2.1)/\y.2.2.2=(j:Int)
def km (l:A7)(x:Int):Bool:=aC (λi=>AF l i qt==x) (AA l)
theorem PlL.app {H P:Nat}{l:A7}{x:Int}(h:PlL H P l)(m: -(H:Int)<=x)(g:x<(P:Int))(f:km l x=AD):PlL H P (l++[x]):=by
 intro i j;rw[EJ];by_cases e:i<AA l
 ·obtain⟨a,b,c⟩:=h i e;grind
 simp only[wW,wV]at j;have d:i=AA l:=qa;rw[qb e,qc d];refine⟨m,g,λk n=>?_⟩;rw[EJ,qc qa];have:=noneB_iff.1 f k qa;simp_all
theorem abA(h:MadeW w)(m:A7)(I:AA m<4294967296):∃n,(P0 w m).o=AB n/\bJ w n=true:=by
 obtain⟨p1,p2,p3⟩:=h.pl;obtain⟨h1,h2,W⟩:=h.hd;obtain⟨o1,o2,Z⟩:=h.ob;show ∃n,(Cw w m).run NN=AB n/\_;simp only[Cw,qj];have O:(kO m).o=AB (m,0):=rfl;rw[O,qH,w64 (x:=(AA w.Xj:Int)+(AA w.Xm:Int)) qa qa]
 refine mE (g:=λb=>b) (AA w.Xd) qa (MI w m) (λ(z:A7)=>AA z=AA w.Xd/\PlL (AA w.Xm) (AA w.Xj) z)
  (show MI w m 0 (m,0,nl,0)from⟨rfl,wL _,Int.natCast_nonneg _,⟨rfl,λi s=>absurd s (xL _)⟩,rfl⟩) (λj y Y p=>?_) (λy p=>?_) (λz B=>?_)
 ·obtain⟨G,D,C,⟨E,A⟩,q⟩:=p;obtain⟨F,m1,S,u1,v1,K,f⟩:=dR I D C (k:=(AA w.Xj:Int)+(AA w.Xm:Int)) qa qa;rw[q,G,ah qa,S,qH];simp only;rw[w64 (x:=F- (AA w.Xm:Int)) qa qa];suffices R:∃r,andK (iter _ NN (F- (AA w.Xm:Int))) _=AB r/\∃d,r=aA.next d/\MI w m (j+1) d from by
   obtain⟨r,J,d,rfl,v⟩:=R;exact⟨d,J,v⟩
  refine bU (P:=λr=>∃d,r=aA.next d/\MI w m (j+1) d) (λn (x:Int)=> -(AA w.Xm:Int)<=x/\x<(AA w.Xj:Int)/\n<=1/\(n=0->km y.2.2.1 x=AD)) (λx=> -(AA w.Xm:Int)<=x/\x<(AA w.Xj:Int)/\km y.2.2.1 x=AD) 1 ⟨qa,qa,qa,qa⟩ jU (λn x l=>?_) (λx l=>?_)
  ·obtain⟨f,t,H,X⟩:=l;have N:(Cy y.2.2.1 x).o=AB (!km y.2.2.1 x):=aj8 _ _ qa;rw[N,qH];cases L:km y.2.2.1 x
   ·simp only[wF,qe];have hn:n=1:=by
     grind
    obtain⟨z,B⟩:∃z,y.2.2.1=[z]:=by
     grind[km,noneB_iff,List.length_eq_one_iff]
    have u:z=x:=by
     grind[km,noneB_iff]
    subst u;rw[w64 (x:=z+1) qa qa,w64 (x:=z+1+_) qa qa,ab qa,Int.tmod_eq_emod_of_nonneg qa];have ht:0<=(z+1+(AA w.Xm:Int)) % ((AA w.Xj:Int)+(AA w.Xm:Int))/\(z+1+(AA w.Xm:Int)) % ((AA w.Xj:Int)+(AA w.Xm:Int))<(AA w.Xj:Int)+(AA w.Xm:Int):=⟨Int.emod_nonneg _ qa,Int.emod_lt_of_pos _ qa⟩;have U:(z+1+(AA w.Xm:Int)) % ((AA w.Xj:Int)+(AA w.Xm:Int))- (AA w.Xm:Int)≠z:=by
     by_cases e:z+1+(AA w.Xm:Int)<(AA w.Xj:Int)+(AA w.Xm:Int);{rw[Int.emod_eq_of_lt qa e];omega};rw[show z+1+(AA w.Xm:Int)=(AA w.Xj:Int)+(AA w.Xm:Int) from qa,Int.emod_self];omega
    grind[w64,km,noneB_iff]
   right;left;exact⟨_,rfl,f,t,L⟩
  obtain⟨f,t,H⟩:=l;rw[ab ⟨jZ,by simp[aF];omega⟩,wn qa];exact⟨_,rfl,_,rfl,rfl,K,by assumption,⟨jZ,A.app f t H⟩,rfl⟩
 {obtain⟨G,D,C,⟨E,A⟩,q⟩:=p;rw[q,ai qa];exact⟨_,rfl,E,A⟩};obtain⟨M,Q⟩:=B;refine⟨_,rfl,?_⟩;unfold bJ;rw[qg ⟨aee h,M⟩,qL,noneB_iff];intro i s;obtain⟨a,b,c⟩:=Q i s;unfold gF;dsimp only;rw[qh qa,qh qa,noneB_iff.2 λk V=>?_];{rfl};exact beq_false_of_ne λe=>c k V e.symm
def pl6 (l:A7)(i:Nat):Int:=if i<AA l then AF l i qt else -1048577
def plT (l:A7):Int×Int×Int×Int×Int×Int:=(pl6 l 0,pl6 l 1,pl6 l 2,pl6 l 3,pl6 l 4,pl6 l 5)
theorem rQ (m:aD):(ny m).o=AB (plT m.Xg):=by show(Li m).run NN=_;simp only[Li,qj,T.ix];rfl
def idxV (g:Nat->Bool)(n:Nat):Int:=match scan (λi=>sw (g i) (i:Int)) n 0 with|some y=>y|none=> -1
theorem T6 {g:Nat->Bool}{n j:Nat}(h:j<n)(a:g j=AD)(b:∀k,k<j->g k=AE):idxV g n=(j:Int):=by grind[idxV,sw,dp,eo]
theorem T7 {g:Nat->Bool}{n:Nat}(h:∀k,k<n->g k=AE):idxV g n= -1:=by grind[idxV,dp,sw]
theorem DR (g:Nat->Bool)(n:Nat):(idxV g n= -1/\∀k,k<n->g k=AE)\/∃j,j<n/\idxV g n=(j:Int)/\g j=AD/\∀k,k<j->g k=false:=by
 cases e:aC g n with
 |true=>grind[T7,noneB_iff]
 |false=>
  right;cases f:scan (λi=>sw (g i) (i:Int)) n 0 with
  |none=>
   have:aC g n=true:=noneB_iff.2 λk b=>by
    have:=(dp _ _).1 f k qa qa;cases c:g k with
    |false=>rfl
    |true=>simp[sw,c]at this
   rw[this]at e;cases e
  |some r=>
   obtain⟨i,-,m,l,h⟩:=eo _ _ f;cases d:g i with
   |false=>simp[sw,d]at l
   |true=>
    have b:∀k,k<i->g k=false:=λk b=>by
     have:=h k qa b;cases c:g k with
     |false=>rfl
     |true=>simp[sw,c]at this
    exact⟨i,qa,T6 qa d b,d,b⟩
theorem ah2 {g a:Nat->Bool}{n b:Nat}(h:n<=b)(d:∀k,k<n->g k=a k)(f:∀k,n<=k->k<b->a k=AE):idxV a b=idxV g n:=by rcases DR g n with⟨e,c⟩|⟨j,i,e,l,c⟩;all_goals grind[T7,T6]
def posV (l:A7)(x:Int):Int:=idxV (λi=>AF l i qt==x) (AA l)
theorem JZ (m:aD)(x:Int)(h:AA m.Xg<4294967296):(np m x).o=AB (posV m.Xg x):=by show(JY m x).run NN=_;simp only[JY,qj];refine(aR (λi=>sw (AF m.Xg i qt==x) (i:Int)) (AA m.Xg) h (λj a=>?_) ?_).trans ?_;all_goals grind[ab,wn,posV,idxV,sw]
theorem FH (l:A7)(x:Int)(h:AA l<=6)(d:x≠ -1048577):(gV (plT l) x).o=AB (posV l x):=by
 have e:(gV (plT l) x).o=AB (idxV (λi=>pl6 l i==x) 6):=by
  show(yf (plT l) x).run NN=_;simp only[yf,qj];refine(aR (λi=>sw (pl6 l i==x) (i:Int)) 6 jU (λj c=>?_) ?_).trans ?_
  ·have b:AF ([(plT l).1,(plT l).2.1,(plT l).2.2.1,(plT l).2.2.2.1,(plT l).2.2.2.2.1,(plT l).2.2.2.2.2]:A7) j 0=pl6 l j:=by
    rcases(show j=0\/j=1\/j=2\/j=3\/j=4\/j=5 from qa)with rfl|rfl|rfl|rfl|rfl|rfl<;>rfl
   rw[ah qa,ab qa,wn qa,qE,b,bH]
  all_goals grind[idxV]
 rw[e];refine congrArg AB (ah2 h (λk a=>?_) λk a _=>?_);all_goals grind[pl6]
def gI (w:al)(h p:Int):Bool:= !aC (λi=>(AF w.Xl i qt).Xs==h&&(AF w.Xl i qt).Place==p) (AA w.Xl)
theorem Zm (w:al)(h p:Int)(a:AA w.Xl<4294967296):(NG w h p).o=AB (gI w h p):=by
 show(KU w h p).run NN=_;simp only[KU,qj];refine(aR (λi=>sw ((AF w.Xl i qt).Xs==h&&(AF w.Xl i qt).Place==p) AD) (AA w.Xl) a (λj b=>?_) ?_).trans ?_
 ·rw[ah qa,ab qa,ab qa,wn qa,qE];simp_all[aU,ag,bH]
 {simp_all};rw[bB,gI];cases aC (λi=>(AF w.Xl i qt).Xs==h&&(AF w.Xl i qt).Place==p) (AA w.Xl)<;>rfl
theorem agC (w:al)(a b:Int)(h:AA w.Xl<4294967296):(Ve w.Xl a b).o=AB (gI w a b,a,b):=by
 have c:(Vk w.Xl a b).o=AB (match scan (λi=>sw ((AF w.Xl i qt).Xs==a&&(AF w.Xl i qt).Place==b) (i:Int)) (AA w.Xl) 0 with|some x=>x|none=> -1,a,b):=by
  show(GC w.Xl a b).run NN=_;simp only[GC,qj];have c:∀m,(MP m a b).o=AB (m.Xs==a&&m.Place==b,a,b):=λm=>by
   show(Jm m a b).run NN=_;grind[Jm,qj]
  refine(fq (λj=>(a,b,(j:Int))) (λi=>sw ((AF w.Xl i qt).Xs==a&&(AF w.Xl i qt).Place==b) ((i:Int),a,b)) (a,b) (AA w.Xl) rfl h (λj d=>?_) ?_).trans ?_;{rw[ah jW,ab ⟨jV,jW⟩];simp only[c,qH,qE];rw[wn qa];cases (AF w.Xl j qt).Xs==a&&(AF w.Xl j qt).Place==b<;>rfl};{simp_all};rw[sG (f:=λx=>(x,a,b)) (r:=λi=>(i:Int))];grind
 show(Gw w.Xl a b).run NN=_;simp only[Gw,qj,c,qH];exact congrArg (λx=>AB (x,a,b)) (ln (g:=λi=>(AF w.Xl i qt).Xs==a&&(AF w.Xl i qt).Place==b))
def mayV (m:aD)(a:aO):Bool:=
 (qu (a.Xp=1)&&(qu (posV m.Xg (-1-a.Xs)<0)&&qu (posV m.Xg a.Place>=0)))||(qu (a.Xp=2)&&(qu (posV m.Xg (-1-a.Xs)>=0)&&qu (posV m.Xg a.Place<0)))
def canV (w:al)(m:aD)(a:aO):Bool:=e9 w a.Xs a.Place&&(gI w a.Xs a.Place&&mayV m a)
theorem abO (w:al)(m:aD)(a:aO)(e:AA w.Xm<=3)(d:AA w.Xl<=32)(f:AA m.Xg<=6):(Qh w m a).o=AB (canV w m a):=by
 show(CO w m a).run NN=_;have b:∀x,(np (⟨m.Xg⟩:aD) x).o=AB (posV m.Xg x):=λx=>JZ m x qa
 simp only[CO,qj,Zm w _ _ (show AA w.Xl<4294967296 from qa),b,qH,aU,ag,bO];have c:(qu (a.Xs<0)||(qu (a.Xs>=(AA w.Xm:Int))||(qu (a.Place<0)||(qu (a.Place>=(AA w.Xj:Int))|| !gI w a.Xs a.Place))))= !(e9 w a.Xs a.Place&&gI w a.Xs a.Place):=by
  grind[e9]
 grind[canV,w64,mayV]
def pick {a β:Type}(g:a->Bool)(f:a->β)(l:List a):List β:=(l.filter g).map f
theorem D4 {b β:Type}(g:b->Bool)(f:b->β)(l:List b)(a:b):pick g f (l++[a])=pick g f l++(bif g a then [f a]else []):=by grind[pick]
theorem lg {a β:Type}(g:a->Bool)(f:a->β)(l:List a):AA (pick g f l)<=AA l:=by grind[pick]
theorem EU {c β:Type}{g:c->Bool}{f:c->β}{l:List c}{b:β}:b∈pick g f l↔∃a,a∈l/\g a=AD/\f a=b:=by grind[pick]
def rowT (w:al)(h k:Nat):Ac:=pick (λp:Nat=>gI w (h:Int) (p:Int)) (λp=>(⟨0,(h:Int),(p:Int)⟩:aO)) (List.range k)
def tabT (w:al)(k:Nat):Ac:=(tab (λh=>rowT w h (AA w.Xj)) k).flatten
theorem afJ (w:al)(h k:Nat):rowT w h (k+1)=rowT w h k++(bif gI w (h:Int) (k:Int)then [(⟨0,(h:Int),(k:Int)⟩:aO)]else []):=by grind[rowT,List.range_succ,D4]
theorem TF (w:al)(h k:Nat):AA (rowT w h k)<=k:=by have:=lg (λp:Nat=>gI w (h:Int) (p:Int)) (λp=>(⟨0,(h:Int),(p:Int)⟩:aO)) (List.range k);rw[List.length_range]at this;exact this
theorem Ea (w:al)(k:Nat):tabT w (k+1)=tabT w k++rowT w k (AA w.Xj):=by simp[tabT,eY]
theorem oj (w:al)(h:AA w.Xj<=8):∀k,AA (tabT w k)<=k * 8
 |0=>by simp[tabT,tab]
 |k+1=>by
  have:=TF w k (AA w.Xj);have:=oj w h k;rw[Ea,wW];omega
theorem tabT_mem {w:al}{a:aO}:∀ {k:Nat},a∈tabT w k↔a.Xp=0/\(0<=a.Xs/\a.Xs<(k:Int))/\(0<=a.Place/\a.Place<(AA w.Xj:Int))/\gI w a.Xs a.Place=AD
 |0=>by simp[tabT,tab];omega
 |k+1=>by
  rw[Ea,wH,tabT_mem,rowT,EU];constructor
  ·rintro(⟨b,f,d,c⟩|⟨p,h,i,rfl⟩);{exact⟨b,qa,d,c⟩};have:=xA.1 h;exact⟨rfl,⟨j8,j8⟩,⟨j8,j8⟩,i⟩
  rintro⟨b,f,d,c⟩;by_cases g:a.Xs=(k:Int)
  ·right;obtain⟨l,j,m⟩:=a;simp only at b f d c g;subst b g;have e:((m.toNat:Nat):Int)=m:=qa;exact⟨m.toNat,xA.2 qa,by rw[e];exact c,by rw[e]⟩
  exact .inl ⟨b,qa,d,c⟩
theorem QL (w:al)(e:AA w.Xm<=3)(a:AA w.Xj<=8)(c:AA w.Xl<=32):(Lg w).o=AB (tabT w (AA w.Xm)):=by
 show(Lh w).run NN=_;simp only[Lh,qj];refine(aW (λj=>(tabT w j,(j:Int))) (tabT w (AA w.Xm)) (AA w.Xm) rfl (show _<4294967296 from qa) (λj f=>?_) ?_).trans rfl
 ·have b:=oj w a j;rw[ah qa];refine(aW (λi=>(tabT w j++rowT w j i,(j:Int),(i:Int))) (tabT w (j+1)) (AA w.Xj) (by simp[rowT,pick]) (show _<4294967296 from qa) (λi d=>?_) ?_).trans ?_;{grind[TF,agC,afJ,ag,wn,ab,aF]};all_goals grind[Ea,wn]
 simp_all
def can1 (m:aD)(e:aO):Bool:=qu (posV m.Xg (-1-e.Xs)<0)&&qu (posV m.Xg e.Place>=0)
def can2 (m:aD)(e:aO):Bool:=qu (posV m.Xg (-1-e.Xs)>=0)&&qu (posV m.Xg e.Place<0)
def eN (w:al)(m:aD):Ac:=pick (can1 m) (λe=>⟨1,e.Xs,e.Place⟩) (tabT w (AA w.Xm))++pick (can2 m) (λe=>⟨2,e.Xs,e.Place⟩) (tabT w (AA w.Xm))
theorem TL (w:al)(m:aD)(r:AA w.Xm<=3)(l:AA w.Xj<=8)(h:AA m.Xg<=6):(Lc (tabT w (AA w.Xm)) (plT m.Xg)).o=AB (eN w m):=by
 have p:=oj w l (AA w.Xm);have b:∀x,x≠ -1048577->(gV ((plT m.Xg).1,(plT m.Xg).2.1,(plT m.Xg).2.2.1,(plT m.Xg).2.2.2.1,(plT m.Xg).2.2.2.2.1,(plT m.Xg).2.2.2.2.2) x).o=AB (posV m.Xg x):=λx f=>FH m.Xg x h f
 have d:∀j,j<(tabT w (AA w.Xm)).length->(0<=(AF (tabT w (AA w.Xm)) j qt).Xs/\(AF (tabT w (AA w.Xm)) j qt).Xs<(AA w.Xm:Int))/\(0<=(AF (tabT w (AA w.Xm)) j qt).Place/\(AF (tabT w (AA w.Xm)) j qt).Place<(AA w.Xj:Int)):=λj a=>by
  grind[tabT_mem,aM]
 show(Ld (tabT w (AA w.Xm)) (plT m.Xg)).run NN=_;simp only[Ld,qj];generalize g:tabT w (AA w.Xm)=L at p d⊢;refine(aW (λj=>(pick (can1 m) (λe=>(⟨1,e.Xs,e.Place⟩:aO)) (L.take j),(j:Int))) (pick (can1 m) (λe=>(⟨1,e.Xs,e.Place⟩:aO)) L) (AA L) rfl (show _<4294967296 from qa) (λj a=>?_) ?_).trans ?_
 ·obtain⟨i,n⟩:=d j a;have c:=lg (can1 m) (λe=>(⟨1,e.Xs,e.Place⟩:aO)) (L.take j);rw[w8]at c;rw[ah qa,ab ⟨jV,qa⟩];simp only[qE];rw[w64 (x:= -1- (AF L j qt).Xs) qa qa,b _ qa,b _ qa,s8 a,D4];simp only[qH,aU,ag,oG];rw[show(qu (posV m.Xg (-1- (AF L j qt).Xs)<0)&&qu (posV m.Xg (AF L j qt).Place>=0))=can1 m (AF L j qt)from rfl];cases can1 m (AF L j qt);{simp only[qd,ag,xl];rw[wn qa]};simp only[qe];rw[ab ⟨jZ,by simp[aF];omega⟩];simp only[ag];rw[wn qa]
 {rw[ai jV,xI]};have q:=lg (can1 m) (λe=>(⟨1,e.Xs,e.Place⟩:aO)) L;have k:eN w m=pick (can1 m) (λe=>(⟨1,e.Xs,e.Place⟩:aO)) L++pick (can2 m) (λe=>(⟨2,e.Xs,e.Place⟩:aO)) L:=by rw[<-g];rfl
 rw[k];generalize pick (can1 m) (λe=>(⟨1,e.Xs,e.Place⟩:aO)) L=Q at q⊢;refine(aW (λj=>(Q++pick (can2 m) (λe=>(⟨2,e.Xs,e.Place⟩:aO)) (L.take j),(j:Int))) (Q++pick (can2 m) (λe=>(⟨2,e.Xs,e.Place⟩:aO)) L) (AA L) (by simp[pick]) (show _<4294967296 from qa) (λj a=>?_) ?_).trans rfl
 ·obtain⟨i,n⟩:=d j a;have c:=lg (can2 m) (λe=>(⟨2,e.Xs,e.Place⟩:aO)) (L.take j);rw[w8]at c;rw[ah (by simpa using a),ab ⟨jV,by simpa using a⟩];simp only[qE];rw[w64 (x:= -1- (AF L j qt).Xs) qa qa,b _ qa,b _ qa,s8 a,D4];simp only[qH,aU,ag,oG];rw[show(qu (posV m.Xg (-1- (AF L j qt).Xs)>=0)&&qu (posV m.Xg (AF L j qt).Place<0))=can2 m (AF L j qt)from rfl];cases can2 m (AF L j qt);{simp only[qd,ag,xl];rw[wn qa]};simp only[qe];rw[ab ⟨jZ,by simp[aF];omega⟩];simp only[ag,wE];rw[wn qa]
 rw[ai jV,xI]
variable {m:aD}{a:aO}
theorem acts_mem:a∈eN w m↔canV w m a=true:=by
 unfold eN;rw[wH,EU,EU];simp only[canV,e9,mayV,ql,qX,qf];constructor;{grind[tabT_mem,can1,can2]};rintro⟨⟨f,e,d,c⟩,g,⟨b,h⟩|⟨b,h⟩⟩
 ·refine .inl ⟨⟨0,a.Xs,a.Place⟩,tabT_mem.2 ⟨rfl,⟨f,e⟩,⟨d,c⟩,g⟩,?_,?_⟩;{grind[can1]};rw[<-b]
 refine .inr ⟨⟨0,a.Xs,a.Place⟩,tabT_mem.2 ⟨rfl,⟨f,e⟩,⟨d,c⟩,g⟩,?_,?_⟩;{grind[can2]};rw[<-b]
theorem abq (l:Ac)(a:aO)(h:AA l<4294967296):∃b,(Vg l a).o=AB b/\(b=AD↔a∈l):=by
 let g:Nat->Bool:=λi=>(a.Xp==(AF l i qt).Xp)&&((a.Xs==(AF l i qt).Xs)&&((a.Place==(AF l i qt).Place)&&AD))
 have c:(Vm l a).o=AB (match scan (λi=>sw (g i) (i:Int)) (AA l) 0 with|some y=>y|none=> -1):=by
  show(GE l a).run NN=_;simp only[GE,qj];refine(aR (λi=>sw (g i) (i:Int)) (AA l) h (λj e=>?_) ?_).trans ?_;all_goals grind[ab,wn,sw]
 refine⟨!aC g (AA l),?_,?_⟩;{show(Gz l a).run NN=_;simp only[Gz,qj,c,qH];exact congrArg AB (ln (g:=g))};have d:∀i,g i=AD↔a=AF l i qt:=λi=>by
  simp only[g,ql,beq_iff_eq,and_true];constructor;{cases a;simp_all};simp_all
 grind[noneB_iff,wh]
theorem abm (l:A7)(h:AA l<4294967296):(t7 l).o=AB l:=dM qa jU
theorem set6 {l:A7}{j:Nat}{t:Int}(h:AA l<=6):(tab (λi=>if i=j then t else pl6 l i) 6).take (AA l)=l.set j t:=by grind[List.ext_getElem,w8,wc,tab,pl6]
def frV (a:aO):Int:=bif a.Xp==2 then -1-a.Xs else a.Place
def toV (a:aO):Int:=bif a.Xp==2 then a.Place else -1-a.Xs
theorem FR {l:A7}{x:Int}(h:posV l x>=0):(posV l x).toNat<AA l/\((posV l x).toNat:Int)=posV l x:=by grind[DR,posV]
theorem agr{l:A7}(h:AA l<=6)(k:0<=a.Xs/\a.Xs<=3)(m:0<=a.Place)(b:posV l (frV a)>=0):
 ∃y,(nN (plT l) a).o=AB y/\([y.1,y.2.1,y.2.2.1,y.2.2.2.1,y.2.2.2.2.1,y.2.2.2.2.2]:A7).take (AA l)=l.set (posV l (frV a)).toNat (toV a):=by
 obtain⟨i,f⟩:=FR b;generalize c:(posV l (frV a)).toNat=j at i f⊢;have g:(nN (plT l) a).o=(ru (plT l) a).run NN:=rfl;have d:(gV (plT l) (frV a)).o=AB (j:Int):=by grind[FH,frV]
 have e:(bif a.Xp==2 then AB (.out (AG qs (-1-a.Xs),a.Place))else AB (.out (a.Place,AG qs (-1-a.Xs))):Option (aA Unit (Int×Int) (Int×Int×Int×Int×Int×Int)))=AB (.out (frV a,toV a)):=by
  grind[frV,toV,w64]
 rw[g];simp only[ru,qj,T.ix,e,ag,d,qH];rw[<-set6 h];rcases(show j=0\/j=1\/j=2\/j=3\/j=4\/j=5 from qa)with rfl|rfl|rfl|rfl|rfl|rfl;all_goals exact⟨_,rfl,rfl⟩
def appV (w:al)(m:aD)(a:aO):aD×Bool:=bif bJ w m&&canV w m a then(⟨m.Xg.set (posV m.Xg (frV a)).toNat (toV a)⟩,AD)else(⟨nl⟩,AE)
theorem sN(h:canV w m a=AD):posV m.Xg (frV a)>=0/\(0<=a.Xs/\a.Xs<(AA w.Xm:Int))/\(0<=a.Place/\a.Place<(AA w.Xj:Int))/\(a.Xp=1\/a.Xp=2):=by grind[canV,e9,mayV,frV]
theorem PQ (w:al)(m:aD)(a:aO)(e:∀o∈w.Xd,AA o.Xc<4294967296):(mc w m a).o=AB (appV w m a):=by
 show(B9 w m a).run NN=_;have i:(OB (⟨w.Xi,w.Xd,w.Xj,w.Xm,w.Xl,w.Xq⟩:al) (⟨m.Xg⟩:aD)).o=AB (bif bJ w m then eN w m else nl):=by
  show(Mq w m).run NN=_;simp only[Mq,qj,uU w m e,qH];cases c:bJ w m;{rfl};obtain⟨d,g,-⟩:=valid_parts' c;simp_all[eW,QL,rQ,TL]
 simp only[B9,qj,i,qH,appV];cases c:bJ w m;{rfl};obtain⟨d,g,-⟩:=valid_parts' c;obtain⟨_,_,l,p,q,n⟩:=eW d;have j:AA (eN w m)<4294967296:=by
  grind[oj,lg,eN]
 obtain⟨b,k,r⟩:=abq (eN w m) a j;have f:b=canV w m a:=by grind[acts_mem]
 subst f;simp only[qe,k,qH,qL];cases h:canV w m a;{rfl};obtain⟨s,u,t,-⟩:=sN h;grind[agr,rQ,qE,ab,abm]
theorem aam (w:al)(m:aD)(a:aO)(p:∀o∈w.Xd,AA o.Xc<4294967296):(yD w m a).o=AB (appV w m a):=by
 show(yE w m a).run NN=_;simp only[yE,qj,ug w m p,qH,appV];cases j:bJ w m;{rfl};obtain⟨l,r,-⟩:=valid_parts' j;obtain⟨_,_,u,q,n,i⟩:=eW l;simp only[qI,qd,abO w m a n i qa,qH,ag,qL];cases h:canV w m a;{rfl};obtain⟨d,s,t,g⟩:=sN h;obtain⟨b,f⟩:=FR d;rw[ab ⟨qa,by simp[aF];omega⟩,JZ m _ qa,JZ m _ qa,w64 (x:= -1-a.Xs) qa qa];simp only[qH];rcases g with k|k
 ·have c:frV a=a.Place:=by unfold frV;simp_all
  have e:toV a= -1-a.Xs:=by unfold toV;simp_all
  rw[c]at b f d⊢;rw[e,show(a.Xp==1)=AD by grind,qe,ab ⟨qa,qa⟩,ab ⟨b,qa⟩];rfl
 have c:frV a= -1-a.Xs:=by unfold frV;simp_all
 have e:toV a=a.Place:=by unfold toV;simp_all
 rw[c]at b f d⊢;rw[e,show(a.Xp==1)=AE by grind,qd,ab ⟨qa,qa⟩,ab ⟨b,qa⟩];rfl
def tp (w:al)(m:aD)(c:A7):Bool:=bif (cq w m).2==0 then(clsV (cq w m).1 (ptB c) nl).Xp==1 else AE
theorem ahy (c:A7):AA (ptB c)<=AA c:=by unfold ptB;by_cases h:cQ c=AD;{grind[bL]};rw[qb h];exact wN _
theorem YX (w:al)(m:aD)(c:A7)(a:∀o∈w.Xd,AA o.Xc<4294967296)(b:AA c<4294967296):(un w m c).o=AB (tp w m c):=by show(Kf w m c).run NN=_;have d:=ahy c;have e:(nz (⟨(cq w m).1.Xe,(cq w m).1.Xc,(cq w m).1.Xo⟩:aj) (ptB c) nl).o=AB (clsV (cq w m).1 (ptB c) nl):=NX _ _ _ qa jU;simp only[Kf,qj,OF w m a,Pm c b,e,qH,tp];grind
def fG (w:al)(a:aO)(n:Int):Bool:=
 qu (0<=n)&&(qu (n<(AA w.Xl:Int))&&((AF w.Xl n.toNat qt).Xs==a.Xs&&(AF w.Xl n.toNat qt).Place==a.Place))
theorem ahP (w:al)(a:aO)(n:Int):(uo w a n).o=AB (fG w a n):=by show(Kg w a n).run NN=_;grind[Kg,qj,fG,ab]
theorem ago (w:al)(m:aD)(a:aO)(n:Int)(e:∀o∈w.Xd,AA o.Xc<4294967296):∃b,(Kd w m a n).o=AB b/\True/\(b=true->(appV w m a).2=AD/\fG w a n=AD/\(kT w a.Xs a.Place (AF w.Xl n.toNat qt).At).o=AB AD):=by
 have x:(Kd w m a n).o=(Ke w m a n).run NN:=rfl;rw[x];have H:(mc (⟨w.Xi,w.Xd,w.Xj,w.Xm,w.Xl,w.Xq⟩:al) (⟨m.Xg⟩:aD) a).o=AB (appV w m a):=PQ w m a e;have G:(uo w (⟨a.Xp,a.Xs,a.Place⟩:aO) n).o=AB (fG w a n):=ahP w a n;unfold Ke;simp only[qj,H,G,qH,aU,ag,bO];cases I:(appV w m a).2;{exact⟨AE,rfl,trivial,λh=>by cases h⟩};cases i:fG w a n;{simp_all};simp only[fG,ql,qf]at i;obtain⟨y,B,-⟩:=i;have s:bJ w m=true:=by
  grind[appV]
 obtain⟨D,-,-⟩:=valid_parts' s;have p:=(eW D).2.1;simp only[fitV,ql]at p;have j:=noneB_iff.1 p.2.2.2.2 n.toNat qa;simp only[badG,qo,wG]at j;have A:=(Qz j.2).2.2.1;generalize (AF w.Xl n.toNat qt).At=c at A⊢;have l:AA c<4294967296:=qa;obtain⟨b,g,-⟩:=Us w a.Xs a.Place c e;have t:∀d,(un (⟨w.Xi,w.Xd,w.Xj,w.Xm,w.Xl,w.Xq⟩:al) (⟨d.Xg⟩:aD) c).o=AB (tp w d c):=λd=>YX w d c e l
 have F:(kT (⟨w.Xi,w.Xd,w.Xj,w.Xm,w.Xl,w.Xq⟩:al) a.Xs a.Place c).o=AB b:=g;simp only[qI,ab (show 0<=n/\n<(AA w.Xl:Int)from⟨y,B⟩),F,t,qH];cases b;{exact⟨_,rfl,trivial,λh=>by cases h⟩};cases tp w m c;{exact⟨_,rfl,trivial,λh=>by cases h⟩};exact⟨_,rfl,trivial,λ_=>⟨trivial,trivial,rfl⟩⟩
theorem agR (a b:A7)(h:AA a<4294967296):(t6 a b).o=AB (eqW a b):=by
 show(Hc a b).run NN=_;simp only[Hc,qj];unfold eqW;by_cases e:AA a=AA b
 ·rw[aS qa];refine(aR (λj=>sw (AF a j qt !=AF b j qt) AE) (AA a) h (λj k=>?_) ?_).trans ?_;{rw[ah qa,ab qa,ab qa,wn qa,qE,<-bH]};{rw[ai qa]};rw[bB];by_cases c:aC (λj=>AF a j qt !=AF b j qt) (AA a)=AD
  ·rw[c];have:a=b:=kX e λi g=>by
    have:=of_decide_eq_true c i g;simpa using this
   rw[qg this];rfl
  have f:aC (λj=>AF a j qt !=AF b j qt) (AA a)=false:=by simpa using c
  rw[f];have:a≠b:=λh=>c (by subst h;exact qg (λi _=>jV))
  rw[qh this];rfl
 rw[bS qa,qh (λh=>e (by rw[h]))]
open Classical in
def oW (s:aj)(x:aY)(a b:A7):Bool:=qu (OkG s x/\AF x.Xb 0 qt=a/\AF x.Xb (AA x.Xb-1) qt=b)
open Classical in
theorem leadB_iff {s:aj}{x:aY}{a b:A7}:oW s x a b=AD↔OkG s x/\AF x.Xb 0 qt=a/\AF x.Xb (AA x.Xb-1) qt=b:=by unfold oW;exact decide_eq_true_iff
theorem afk {s:aj}{x:aY}{a b:A7}{c:Bool}(h:c=AD↔OkG s x/\AF x.Xb 0 qt=a/\AF x.Xb (AA x.Xb-1) qt=b):c=oW s x a b:=by rw[qQ,leadB_iff];exact h
theorem ahm {s:aj}{x:aY}(h:OkG s x):2<=AA x.Xb/\(AA x.Xb)<=256/\∀i,i<AA x.Xb->AA (AF x.Xb i qt)<=1000:=by obtain⟨h1,a⟩:=oq h.1;exact⟨a,h1.1,λi b=>h1.get b⟩
theorem acH (x:aY)(a b:A7)(f:AA x.Xb<=256)(c:∀i,i<AA x.Xb->AA (AF x.Xb i qt)<=1000):
 (yF x a b).o=AB (qu (0<AA x.Xb/\AF x.Xb 0 qt=a/\AF x.Xb (AA x.Xb-1) qt=b)):=by
 show(yG x a b).run NN=_;simp only[yG,qj];by_cases h0:0<AA x.Xb
 ·have e:AG qs ((AA x.Xb:Int)-1)=((AA x.Xb-1:Nat):Int):=by rw[w64 qa qa];omega
  rw[ah qa,ab qa,e,qE,Int.toNat_zero];rw[ab qa,QT _ _ (by have:=c 0 qa;omega),QT _ _ (by have:=c (AA x.Xb-1) qa;omega)];simp only[qH,eqW];by_cases h1:AF x.Xb 0 qt=a;{rw[qg h1];simp only[qe,h0,h1,true_and]};rw[qh h1,qh (show ¬ (0<AA x.Xb/\AF x.Xb 0 qt=a/\AF x.Xb (AA x.Xb-1) qt=b)from λk=>h1 k.2.1)];rfl
 rw[ai qa,qh (show ¬ (0<AA x.Xb/\AF x.Xb 0 qt=a/\AF x.Xb (AA x.Xb-1) qt=b)from λk=>h0 k.1)]
def gD (l g:A7):Bool:=aC (λi=>AF g i qt != -1048576&&AF g i qt !=AF l i qt) (AA g)
def ko (w:al)(m:aD)(g:A7):Bool:=bJ w m&&(qu (AA g=AA w.Xd)&&gD m.Xg g)
theorem Ue (l g:A7)(h:AA l<=6)(c:AA g=AA l):(uV (plT l) g).o=AB (gD l g):=by
 show(yg (plT l) g).run NN=_;simp only[yg,qj,T.ix];refine(aR (λi=>sw (AF g i qt != -1048576&&AF g i qt !=AF l i qt) AE) (AA g) qa (λj f=>?_) ?_).trans ?_
 ·rw[ah qa,ab qa,wn qa,qE];have a:∀i,i=j->pl6 l i=AF l j qt:=λi e=>by
   subst e;rw[pl6,qc qa]
  have b:j=0\/j=1\/j=2\/j=3\/j=4\/j=5:=qa;cases AF g j qt != -1048576;{rfl};rcases b with rfl|rfl|rfl|rfl|rfl|rfl;{simp only[plT,a 0 rfl];cases AF g 0 qt !=AF l 0 qt<;>rfl};{simp only[plT,a 1 rfl];cases AF g 1 qt !=AF l 1 qt<;>rfl};{simp only[plT,a 2 rfl];cases AF g 2 qt !=AF l 2 qt<;>rfl};{simp only[plT,a 3 rfl];cases AF g 3 qt !=AF l 3 qt<;>rfl};{simp only[plT,a 4 rfl];cases AF g 4 qt !=AF l 4 qt<;>rfl};simp only[plT,a 5 rfl];cases AF g 5 qt !=AF l 5 qt<;>rfl
 {rw[ai qa]};rw[bB];unfold gD;cases aC (λi=>AF g i qt != -1048576&&AF g i qt !=AF l i qt) (AA g)<;>rfl
theorem ahU (m:aD)(g:A7)(h:AA g=AA m.Xg)(hl:AA g<4294967296):(O1 m g).o=AB (gD m.Xg g):=by
 show(yH m g).run NN=_;simp only[yH,qj];refine(aR (λi=>sw (AF g i qt != -1048576&&AF g i qt !=AF m.Xg i qt) AE) (AA g) hl (λj a=>?_) ?_).trans ?_
 ·rw[ah qa,ab qa,ab qa,ab qa,wn qa,qE];cases AF g j qt != -1048576;{rfl};cases AF g j qt !=AF m.Xg j qt<;>rfl
 {rw[ai qa]};rw[bB];unfold gD;cases aC (λi=>AF g i qt != -1048576&&AF g i qt !=AF m.Xg i qt) (AA g)<;>rfl
theorem aaV (w:al)(m:aD)(g:A7)(ho:∀o∈w.Xd,AA o.Xc<4294967296):(KS w m g).o=AB (ko w m g):=by
 show(KT w m g).run NN=_;simp only[KT,qj,ug w m ho,qH,ko];cases hv:bJ w m with
 |false=>rfl
 |true=>
  obtain⟨h1,a,-⟩:=valid_parts' hv;obtain⟨_,_,b,-⟩:=eW h1;by_cases h:AA g=AA w.Xd;{rw[qe,cN qa,ahU _ _ qa qa,qg h];rfl};rw[qe,cr qa,qh h];rfl
def atG (w:al)(n:Int):A7:=(AF w.Xl n.toNat qt).At
def kq (w:al)(h p:Int)(c:A7):Bool:=((kT w h p c).o).getD AE
theorem aip (w:al)(h p:Int)(c:A7)(a:∀o∈w.Xd,AA o.Xc<4294967296):(kT w h p c).o=AB (kq w h p c)/\(nE w h p c).o=AB (kq w h p c):=by obtain⟨b,e,d⟩:=Us w h p c a;grind[kq]
def lH (w:al)(m:A7)(x:dc):Bool:=(appV w ⟨m⟩ x.Xt).2&&(fG w x.Xt x.XJ&&kq w x.Xt.Xs x.Xt.Place (atG w x.XJ))
def m7 (w:al)(m c:A7)(x:dc):Bool:=oW (cq w ⟨m⟩).1 x.Path c (atG w x.XJ)
def chkL (w:al)(g:A7):B4->Nat->A7->A7->Int×Int
 |[],i,m,_=>((i:Int),bif ko w ⟨m⟩ g then 0 else 3902)
 |x::l,i,m,c=>bif !lH w m x then((i:Int),3901)else bif !m7 w m c x then((i:Int),4401)else chkL w g l (i+1) (appV w ⟨m⟩ x.Xt).1.Xg (atG w x.XJ)
def chkV (w:al)(m:aD)(c g:A7)(l:B4):Int×Int:=
 bif cd w !=0 then(0,cd w)else bif !bJ w m then(0,3403)else bif !aI w.Xi.Xe c||qu (AA g≠(AA w.Xd))then(0,4501)else chkL w g l 0 m.Xg c
theorem Su {σ τ R:Type}{f:σ->Option (aA σ τ R)}{k:τ->Option R}{x:σ}{v:R}(I:Nat->σ->Prop)(Q:τ->Prop)(m:Nat)(e:I m x)(g:m<4294967296)
 (c:∀m x,I m x->(∃a b,f x=AB (.next a)/\b<m/\I b a)\/(∃y,f x=AB (.out y)/\Q y)\/∃r,f x=AB (.fin r)/\r=v) (d:∀y,Q y->∃r,k y=AB r/\r=v):andK (iter f NN x) k=AB v:=by
 obtain⟨r,h,rfl⟩:=bU (P:=λr=>r=v) I Q m e g c d;omega
theorem SW{n:Int}(h:fG w a n=AD):0<=n/\n<(AA w.Xl:Int):=by grind[fG]
theorem Z0 (w:al)(m:aD)(c g:A7)(l:B4)(ho:∀o∈w.Xd,AA o.Xc<4294967296)(hl:AA l<4294967296)(O:∀x∈l,PaF x.Path):
 (I9 w m c g l).o=AB (chkV w m c g l):=by
 have N:(I9 w m c g l).o=(Ja w m c g l).run NN:=rfl;rw[N];simp only[Ja,qj,uf w ho,ug w m ho,pT,qH,chkV];by_cases h0:cd w=0
 ·rw[aS h0,aS h0];cases hv:bJ w m with
  |false=>rfl
  |true=>
   cases Y:aI w.Xi.Xe c with
   |false=>rfl
   |true=>
    by_cases e:AA g=AA w.Xd
    ·have t:((AA g:Int) !=(AA w.Xd:Int))=false:=by rw[e];simp
     simp only[qI,qd,t,ag,xH,qh (show ¬AA g≠(AA w.Xd) from λh=>h e)]
     refine Su
      (λn (z:A7×A7×Int)=>∃j:Nat,z.2.2=(j:Int)/\j+n=AA l/\chkL w g (l.drop j) j z.2.1 z.1=chkL w g l 0 m.Xg c)
      (λy=>((AA l:Int),bif ko w ⟨y⟩ g then 0 else 3902)=chkL w g l 0 m.Xg c) (AA l) ⟨0,rfl,qa,rfl⟩ hl ?_ ?_
     ·rintro n ⟨q,a,_⟩ ⟨j,rfl,Z,hk⟩;dsimp only at hk⊢;cases n with
      |zero=>
       refine .inr (.inl ⟨a,by rw[ai qa],?_⟩);rw[List.drop_of_length_le qa]at hk;rw[<-hk,chkL,show j=AA l from qa]
      |succ n=>
       have A:j<AA l:=qa;have Q:l.drop j=AF l j qt::l.drop (j+1):=by
        rw[qZ,w6 A,w7];exact xh A
       rw[Q]at hk;have f:=O _ (aM A);rw[ah qa,ab qa,qE];generalize AF l j qt=x at hk f;have H:(yD (⟨w.Xi,w.Xd,w.Xj,w.Xm,w.Xl,w.Xq⟩:al) (⟨a⟩:aD) x.Xt).o=AB (appV w ⟨a⟩ x.Xt):=aam w _ _ ho;have I:(nE (⟨w.Xi,w.Xd,w.Xj,w.Xm,w.Xl,w.Xq⟩:al) x.Xt.Xs x.Xt.Place (AF w.Xl x.XJ.toNat qt).At).o=AB (kq w x.Xt.Xs x.Xt.Place (atG w x.XJ)):=(aip w _ _ _ ho).2;have J:(KP (⟨w.Xi,w.Xd,w.Xj,w.Xm,w.Xl,w.Xq⟩:al) (⟨a⟩:aD)).o=AB (cq w ⟨a⟩):=Zk w _ ho;obtain⟨y,M,c2⟩:=afF (cq w ⟨a⟩).1 x.Path f;simp only[H,qH];rw[chkL]at hk;unfold lH at hk;cases B:(appV w ⟨a⟩ x.Xt).2 with
       |false=>rw[B]at hk;exact .inr (.inr ⟨_,rfl,hk⟩)
       |true=>
        rw[B]at hk
        have V:(bif (!AD)then AB (.out AD)else bif qu (x.XJ<0)then AB (.out AD)else bif qu (x.XJ>=(AA w.Xl:Int))then AB (.out AD)else grd (0<=x.XJ/\x.XJ<(AA w.Xl:Int)) (bif (AF w.Xl x.XJ.toNat qt).Xs !=x.Xt.Xs then AB (.out AD)else grd (0<=x.XJ/\x.XJ<(AA w.Xl:Int)) (bif (AF w.Xl x.XJ.toNat qt).Place !=x.Xt.Place then AB (.out AD)else grd (0<=x.XJ/\x.XJ<(AA w.Xl:Int)) ((nE (⟨w.Xi,w.Xd,w.Xj,w.Xm,w.Xl,w.Xq⟩:al) x.Xt.Xs x.Xt.Place (AF w.Xl x.XJ.toNat qt).At).o.bind λy=>AB (.out (!y))))):Option (aA Unit Bool (aA (A7×A7×Int) A7 (Int×Int))))=
         AB (.out (!(fG w x.Xt x.XJ&&kq w x.Xt.Xs x.Xt.Place (atG w x.XJ)))):=by
         unfold fG;by_cases h0:0<=x.XJ
         ·by_cases h1:x.XJ<(AA w.Xl:Int);{rw[qI,qd,ai qa,ai qa,ab ⟨h0,h1⟩,ab ⟨h0,h1⟩,ab ⟨h0,h1⟩,I,qg h0,qg h1];unfold bne;cases (AF w.Xl x.XJ.toNat qt).Xs==x.Xt.Xs<;>cases (AF w.Xl x.XJ.toNat qt).Place==x.Xt.Place<;>rfl};rw[qI,qd,ai qa,ah qa,qh h1];simp
         rw[qI,qd,ah qa,qh h0];rfl
        rw[V];simp only[ag];rw[qL]at hk;cases r:(fG w x.Xt x.XJ&&kq w x.Xt.Xs x.Xt.Place (atG w x.XJ))with
        |false=>rw[r]at hk;exact .inr (.inr ⟨_,rfl,hk⟩)
        |true=>
         rw[r]at hk;have D:=SW (xM.1 r).1;simp only[qI,qd,J,M,qH];have X:(bif y.2 !=0 then AB (.out AD)else grd (0<=x.XJ/\x.XJ<(AA w.Xl:Int)) ((yF x.Path q (AF w.Xl x.XJ.toNat qt).At).o.bind λz=>AB (.out (!z))):Option (aA Unit Bool (aA (A7×A7×Int) A7 (Int×Int))))=AB (.out (!m7 w a q x)):=by
          by_cases k:y.2=0
          ·have ok:=c2.1 k;obtain⟨l1,R,U⟩:=ahm ok
           have e:qu (0<AA x.Path.Xb/\AF x.Path.Xb 0 qt=q/\AF x.Path.Xb (AA x.Path.Xb-1) qt=(AF w.Xl x.XJ.toNat qt).At)=m7 w a q x:=
            afk (by rw[decide_eq_true_iff];exact⟨λh=>⟨ok,h.2⟩,λh=>⟨qa,h.2⟩⟩)
           rw[aS k,ab D,acH _ _ _ R U,qH,e]
          rw[bS k];have:m7 w a q x=false:=by
           exact Bool.eq_false_iff.2 λh=>k (c2.2 (leadB_iff.1 h).1)
          rw[this];rfl
         rw[X];simp only[ag];cases C:m7 w a q x with
         |false=>rw[C]at hk;exact .inr (.inr ⟨_,rfl,hk⟩)
         |true=>
          rw[C]at hk;simp only[qI,qd,ab D];refine .inl ⟨_,n,rfl,wB n,j+1,wn qa,qa,hk⟩
     intro y p;have L:(KS w (⟨y⟩:aD) g).o=AB (ko w ⟨y⟩ g):=aaV w _ g ho;simp only[L,qH];cases b:ko w ⟨y⟩ g with
     |false=>rw[b]at p;exact⟨_,rfl,p⟩
     |true=>rw[b]at p;exact⟨_,rfl,p⟩
    have t:((AA g:Int) !=(AA w.Xd:Int))=true:=by simp;omega
    simp only[qI,qd,t,ag,xH,qg e,qe]
 rw[bS h0,bS h0]
def w1:al:=⟨⟨⟨[⟨⟨#[97]⟩,4,-1,(0,0,0),0,64,1,65536,65536,65536⟩,⟨⟨#[98]⟩,5,0,(0,0,0),0,64,1,65536,65536,65536⟩],[]⟩,[],[]⟩,[⟨⟨#[111]⟩,[⟨0,1,[(0,0,0)]⟩]⟩],[(16,0,0),(32,0,0)],[⟨1,(0,0,0)⟩],[⟨0,0,[16,0]⟩,⟨0,1,[32,0]⟩],0⟩
def st1:dc:=⟨⟨1,0,0⟩,0,⟨[[0,0],[16,0]],[⟨[],[⟨0,0,[]⟩]⟩]⟩⟩
def st2:dc:=⟨⟨2,0,1⟩,1,⟨[[16,0],[32,0]],[⟨[],[⟨0,0,[]⟩]⟩]⟩⟩
def kn1:Bc:=[(⟨(0,0,0,0,0,0),-1,⟨1,0,0⟩⟩,st1)]
def kn2:Bc:=[(⟨(-1,0,0,0,0,0),0,⟨2,0,1⟩⟩,st2),(⟨(0,0,0,0,0,0),-1,⟨1,0,0⟩⟩,st1)]
def ac1:Ac:=[⟨1,0,0⟩,⟨2,0,1⟩]
def xs1:Nat->A7×Bc×A7×B4×Int×Int
 |0=>([0,0],[],[0],[],-1,0)
 |1=>([16,0],kn1,[-1],[st1],0,1)
 |_=>([32,0],kn2,[1],[st1,st2],1,2)
theorem one1:law39_one_C.o=AB w1:=jY
theorem eff1:(nC 1 9).o=AB (⟨1,3,4,9⟩:c6):=jY
theorem val1:(gU w1 (⟨[0]⟩:aD)).o=AB true:=jY
theorem ins1:(eF w1.Xi.Xe [0,0]).o=AB true:=jY
theorem mod1:(pn (⟨1,3,4,9⟩:c6)).o=AB true:=jY
theorem sol1:(rr w1 (⟨[0]⟩:aD) [1] 16 nl).o=AB (ac1,AD):=jY
theorem v1_o (a0 a1 a2 a3 a4 a5 a6 a7 a8 a9 a10 a11 a12 a13 a14 a15 a16):(nv a0 a1 a2 a3 a4 a5 a6 a7 a8 a9 a10 a11 a12 a13 a14 a15 a16).o=(pF a0 a1 a2 a3 a4 a5 a6 a7 a8 a9 a10 a11 a12 a13 a14 a15 a16).run NN:=rfl
set_option maxHeartbeats 0 in
theorem try1:(nv w1.Xi.Xe.Xa w1.Xi.Xe.Xn w1.Xi.Xc w1.Xi.Xo w1.Xd w1.Xj w1.Xm w1.Xl w1.Xq 1 3 4 9 nl (⟨[0]⟩:aD) [0,0] ac1).o=AB ([st1,st2],kn2):=by
 rw[v1_o];unfold pF;simp only[qj];exact aW xs1 ([st1,st2],kn2) 2 rfl jU (λj a=>match j,a with
  |0,_=>ke
  |1,_=>ke) ke
theorem v0_o (a0 a1 a2 a3 a4 a5 a6 a7 a8 a9 a10 a11 a12 a13 a14 a15 a16):(lN a0 a1 a2 a3 a4 a5 a6 a7 a8 a9 a10 a11 a12 a13 a14 a15 a16).o=(pE a0 a1 a2 a3 a4 a5 a6 a7 a8 a9 a10 a11 a12 a13 a14 a15 a16).run NN:=rfl
set_option maxHeartbeats 0 in
theorem try0:(lN w1.Xi.Xe.Xa w1.Xi.Xe.Xn w1.Xi.Xc w1.Xi.Xo w1.Xd w1.Xj w1.Xm w1.Xl w1.Xq 1 3 4 9 nl (⟨[0]⟩:aD) [0,0] ac1).o=none:=by
 rw[v0_o];unfold pE;simp only[qj];exact aW xs1 ([st1,st2],kn2) 2 rfl jU (λj a=>match j,a with
  |0,_=>ke
  |1,_=>ke) ke
theorem adA {σ τ R:Type}{f:σ->Option (aA σ τ R)}{k:τ->Option R}{x:σ}{r:R}(h:f x=AB (.fin r)):andK (iter f NN x) k=AB r:=by
 have:iter f NN x=AB (.inr r):=by
  show iter f (4294967295+1) x=_;simp only[iter,h]
 rw[this];rfl
theorem agV{q g:A7}{e:c6}{n:Int}{a:Ac}{r:B4×Bc}
 (l:AA g=AA w.Xd) (d:¬n<1) (c:¬n>64) (f:(gU w m).o=AB AD) (h:(eF w.Xi.Xe q).o=AB AD)
 (i:(pn e).o=AB AD) (k:(rr w m g 16 nl).o=AB (a,AD))
 (j:(lN w.Xi.Xe.Xa w.Xi.Xe.Xn w.Xi.Xc w.Xi.Xo w.Xd w.Xj w.Xm w.Xl w.Xq e.XA e.XI e.Xh e.XO nl m q a).o=none)
 (p:(nv w.Xi.Xe.Xa w.Xi.Xe.Xn w.Xi.Xc w.Xi.Xo w.Xd w.Xj w.Xm w.Xl w.Xq e.XA e.XI e.Xh e.XO nl m q a).o=AB r):
 (lT w m q g e n).o=AB (r.1,1):=by
 show(pJ w m q g e n).run NN=_;have b:(gU (⟨w.Xi,w.Xd,w.Xj,w.Xm,w.Xl,w.Xq⟩:al) (⟨m.Xg⟩:aD)).o=AB true:=f;simp only[pJ,qj,b,h,qH,qI,qd];rw[ai d,ai c,i];rw[show(((AA g:Nat):Int) !=((AA w.Xd:Nat):Int))=AE by simp_all];refine adA ?_;rw[ah (show((nl,nl,0):Bc×Ae×Int).2.2<n by grind)];simp_all
theorem ajk:(lT w1 (⟨[0]⟩:aD) [0,0] [1] (⟨1,3,4,9⟩:c6) 3).o=AB ([st1,st2],1):=
 agV rfl jU jU val1 ins1 mod1 sol1 try0 try1
theorem chk1:(Kc (⟨w1.Xi,w1.Xd,w1.Xj,w1.Xm,w1.Xl,w1.Xq⟩:al) (⟨[0]⟩:aD) [0,0] [1] [st1,st2]).o=AB (2,0):=jY
theorem sM {α β:Type}{o:Option α}{a:α}(h:o=AB a)(k:α->Option β){x:Option β}(b:k a=x):o.bind k=x:=by subst h;exact b
theorem ai1 {c:aK al}{d:aK c6}(h1:law39_one_C=c)(a:nC 1 9=d):law39_awake_T.run NN=c.o.bind λw=>d.o.bind λe=>(lT w (⟨[0]⟩:aD) [0,0] [1] e 3).o.bind λr=>(Kc (⟨w.Xi,w.Xd,w.Xj,w.Xm,w.Xl,w.Xq⟩:al) (⟨[0]⟩:aD) [0,0] [1] r.1).o.bind λy=>
 bif r.2==1 then bif ((AA r.1:Nat):Int)==2 then bif y.1==2 then AB (y.2==0)else AB AE else AB AE else AB false:=by
 unfold law39_awake_T;rw[h1,a];simp only[qj]
theorem agv:law39_awake_C.o=AB true:=by
 have e:law39_awake_C.o=law39_awake_T.run NN:=by simp only[law39_awake_C,mkD,mkC]
 rw[e,ai1 (c:=law39_one_C) (d:=nC 1 9) rfl rfl];exact sM one1 _ (sM eff1 _ (sM ajk _ (sM chk1 _ jY)))
def Gx {a:Type}(o:Option a)(P:a->Prop):Prop:=∃r,o=AB r/\P r
theorem Gx.some {a:Type}{P:a->Prop}{r:a}(h:P r):Gx (AB r) P:=⟨r,rfl,h⟩
theorem Gx.bind {a β:Type}{o:Option a}{k:a->Option β}{P:a->Prop}{Q:β->Prop}(h:Gx o P)(b:∀r,P r->Gx (k r) Q):Gx (o.bind k) Q:=by obtain⟨r,rfl,h⟩:=h;simp_all
theorem Gx.andC {τ R:Type}{o:Option (aA Unit τ R)}{k:τ->Option R}{P:aA Unit τ R->Prop}{Q:R->Prop}(h:Gx o P)(a:∀r,P r->Gx (Go.Abs.andC (.some r) k) Q):Gx (Go.Abs.andC o k) Q:=by obtain⟨r,rfl,h⟩:=h;simp_all
def Stp {σ τ R:Type}(I:Nat->σ->Prop)(Q:τ->Prop)(P:R->Prop)(m:Nat):aA σ τ R->Prop
 | .next x=>∃a,a<m/\I a x
 | .out y=>Q y
 | .fin r=>P r
theorem Gx.loop {σ τ R:Type}{f:σ->Option (aA σ τ R)}{k:τ->Option R}{P:R->Prop}{x:σ}(I:Nat->σ->Prop)(Q:τ->Prop)(m:Nat)(b:I m x)(g:m<4294967296)
 (c:∀m x,I m x->Gx (f x) (Stp I Q P m)) (d:∀y,Q y->Gx (k y) P):Gx (andK (iter f NN x) k) P:=by
 refine bU I Q m b g (λm x a=>?_) d;obtain⟨r,e,h⟩:=c m x a;cases r with
 |next l=>obtain⟨i,j,n⟩:=h;grind
 |out y=>exact .inr (.inl ⟨y,e,h⟩)
 |fin r=>exact .inr (.inr ⟨r,e,h⟩)
theorem RX:bJ w m=AD↔(cd w=0/\(AA m.Xg)=AA w.Xd)/\∀i,i<AA m.Xg->
 (-(AA w.Xm:Int)<=AF m.Xg i qt/\AF m.Xg i qt<(AA w.Xj:Int))/\∀k,k<i->AF m.Xg i qt≠AF m.Xg k qt:=by
 grind[bJ,noneB_iff,gF]
theorem afB {l:A7}{x:Int}(h:posV l x<0):∀i,i<AA l->AF l i qt≠x:=by grind[DR,posV]
theorem R2(b:bJ w m=AD)(c:canV w m a=AD):appV w m a=(⟨m.Xg.set (posV m.Xg (frV a)).toNat (toV a)⟩,AD):=by grind[appV]
theorem rX(c:bJ w m=AD)(b:canV w m a=AD):bJ w (appV w m a).1=true:=by
 obtain⟨g,e,d,i⟩:=sN b;have h:posV m.Xg (toV a)<0:=by
  grind[canV,mayV,toV]
 have f: -(AA w.Xm:Int)<=toV a/\toV a<(AA w.Xj:Int):=by
  grind[toV]
 rw[R2 c b];grind[RX,afB]
def gG:A7->Nat
 |[]=>0
 |x::l=>(x+3).toNat+11 * gG l
theorem Tb:∀ {l:A7},(∀x∈l,0<=x+3/\x+3<11)->gG l<11 ^ AA l
 |[],_=>by simp[gG]
 |x::l,h=>by
  have b:=h x jV;have c:=Tb (l:=l) λy a=>h y (by simp[a])
  rw[gG,qx,Nat.pow_succ];omega
theorem R6:∀ {l a:A7},AA l=AA a->(∀x∈l,0<=x+3/\x+3<11)->(∀x∈a,0<=x+3/\x+3<11)->gG l=gG a->l=a
 |[],[],_,_,_,_=>rfl
 |[],_::_,h,_,_,_=>by cases h
 |_::_,[],h,_,_,_=>by cases h
 |x::l,y::a,d,h,c,e=>by
  have j:=h x jV;have i:=c y jV;simp only[gG]at e;have f:x=y:=qa;have g:gG l=gG a:=qa;rw[f,R6 (by simpa using d) (λz b=>h z (by simp[b])) (λz b=>c z (by simp[b])) g]
theorem sD:∀ (B:Nat) {l:List Nat},l.Nodup->(∀x∈l,x<B)->AA l<=B
 |0,l,_,h=>by
  cases l with
  |nil=>simp_all
  |cons x l=>exact absurd (h x jV) (xL _)
 |B+1,l,b,h=>by
  by_cases d:B∈l
  ·have:=sD B (b.erase B) λx a=>by
    obtain⟨g,f⟩:=b.mem_erase_iff.1 a;have:=h x f;omega
   rw[List.length_erase_of_mem d]at this;omega
  have:=sD B b λx a=>by
   have:=h x a;have:x≠B:=λe=>d (e▸a)
   omega
  omega
theorem afw(i:cd w=0){L:A8}(j:L.Nodup)(n:∀l∈L,bJ w ⟨l⟩=AD):AA L<=1771561:=by
 obtain⟨_,_,m,p,r,_⟩:=eW i;have c:∀l∈L,AA l=AA w.Xd/\∀x∈l,0<=x+3/\x+3<11:=λl f=>by
  grind[RX,wh]
 have:=sD 1771561 (l:=L.map gG) (List.pairwise_map.2 (j.imp_of_mem λ{a b} k d h e=>h (R6 jW (c a k).2 (c b d).2 e))) λx g=>by
  obtain⟨l,f,rfl⟩:=xi.1 g;have q:=Tb (c l f).2;have o:11 ^ AA l<=11 ^ 6:=Nat.pow_le_pow_right jU jW;omega
 simp_all
structure NdOk (w:al) (L:List vi):Prop where
 v:∀x∈L,bJ w x.mode=AD
 nd:(L.map λx=>x.mode.Xg).Nodup
 be:∀i,i<AA L-> -1<=(AF L i qt).before/\(AF L i qt).before<(i:Int)
abbrev K6:=Int×Int×Int×Int×Int×Int
theorem key6 (a b:K6):cu (cL a) (cL b)=qu (a=b):=by obtain⟨c,e,f,g,k,m⟩:=a;obtain⟨o,p,r,t,w,z⟩:=b;simp only[cu,cL,cp,if_true,wx];rw[qQ];simp
abbrev SMap:=List (K6×fi)
theorem dom6 (S:SMap)(k:K6):mdom cL S (cL k)=qu (k∈S.map (·.1)):=by
 induction S with
 |nil=>rfl
 |cons x S a=>
  simp only[mdom,key6,a];rw[qQ];simp
theorem Rl (S:SMap)(k a:K6)(o:fi):d8 cL ((k,o)::S) (cL a)=if a=k then o else d8 cL S (cL a):=by simp only[d8,key6];by_cases h:a=k;{rw[qg h,qc h,qc rfl]};rw[qh h,qb h,qb jU]
theorem aht {l:A7}{j i:Nat}{t:Int}(h:j<AA l):pl6 (l.set j t) i=if i=j then t else pl6 l i:=by
 unfold pl6;rw[wc,qZ,List.getElem?_set,qZ];by_cases e:j=i;{subst e;simp[h]};have a:¬i=j:=λq=>e q.symm
 rw[qb e,qb a]
theorem ahu {l a:A7}(h:AA l<=6)(hl:AA l=AA a)(e:plT l=plT a):l=a:=by
 simp only[plT,Prod.mk.injEq]at e;obtain⟨b,c,f,g,m,o⟩:=e;refine kX hl λi p=>?_
 have q:∀k,pl6 l k=pl6 a k->k=i->AF l i qt=AF a i qt:=λk hk e=>by
  subst e;rwa[pl6,qc p,pl6,qc qa]at hk
 rcases(show i=0\/i=1\/i=2\/i=3\/i=4\/i=5 from qa)with h|h|h|h|h|h;{exact q 0 b h.symm};{exact q 1 c h.symm};{exact q 2 f h.symm};{exact q 3 g h.symm};{exact q 4 m h.symm};exact q 5 o h.symm
theorem ags{l:A7}(h:AA l<=6)(h1:0<=a.Xs/\a.Xs<=3)(r:0<=a.Place)(m:posV l (frV a)>=0):
 (nN (plT l) a).o=AB (plT (l.set (posV l (frV a)).toNat (toV a))):=by
 obtain⟨c,b⟩:=FR m;generalize k:(posV l (frV a)).toNat=j at c b⊢;have e:(nN (plT l) a).o=(ru (plT l) a).run NN:=rfl;have f:(gV (plT l) (frV a)).o=AB (j:Int):=by rw[FH l _ h (by unfold frV;cases a.Xp==2<;>simp<;>omega),b]
 have g:(bif a.Xp==2 then AB (.out (AG qs (-1-a.Xs),a.Place))else AB (.out (a.Place,AG qs (-1-a.Xs))):Option (aA Unit (Int×Int) (Int×Int×Int×Int×Int×Int)))=AB (.out (frV a,toV a)):=by
  unfold frV toV;rw[w64 (x:= -1-a.Xs) qa qa];cases a.Xp==2<;>rfl
 rw[e];simp only[ru,qj,T.ix,g,ag,f,qH];have p:∀i,pl6 (l.set j (toV a)) i=if i=j then toV a else pl6 l i:=λi=>aht c
 generalize frV a=x at *
 rcases(show j=0\/j=1\/j=2\/j=3\/j=4\/j=5 from qa)with rfl|rfl|rfl|rfl|rfl|rfl
 all_goals
  unfold plT;simp only[p];rfl
def actW (w:al):Ac->A7->Prop
 |[],_=>True
 |a::l,m=>canV w ⟨m⟩ a=AD/\actW w l (appV w ⟨m⟩ a).1.Xg
def fD (w:al):Ac->A7->A7
 |[],m=>m
 |a::l,m=>fD w l (appV w ⟨m⟩ a).1.Xg
theorem Q3 {w:al}{a:aO}:∀ {l:Ac} {m:A7},actW w l m->canV w ⟨fD w l m⟩ a=true->actW w (l++[a]) m/\fD w (l++[a]) m=(appV w ⟨fD w l m⟩ a).1.Xg
 |[],m,_,h=>⟨⟨h,trivial⟩,rfl⟩
 |b::l,m,h,c=>by
  obtain⟨e,f⟩:=Q3 (l:=l) h.2 c;exact⟨⟨h.1,e⟩,f⟩
inductive Rch (w:al) (S:SMap) (m0:A7):Nat->A7->Ac->Prop
 |zero:Rch w S m0 0 m0 []
 |succ {n:Nat} {ms ms':A7} {l:Ac} {a:aO} (h:Rch w S m0 n ms l) (hc:canV w ⟨ms⟩ a=AD) (he:ms'=(appV w ⟨ms⟩ a).1.Xg)
  (hm:plT ms'∈S.map (·.1)) (hg:d8 cL S (cL (plT ms'))=⟨plT ms,a⟩):Rch w S m0 (n+1) ms' (l++[a])
theorem Rch.ok {w:al}{S:SMap}{a:A7}(hv:bJ w ⟨a⟩=AD){n:Nat}{b:A7}{l:Ac}(h:Rch w S a n b l):(bJ w ⟨b⟩=AD/\(AA l)=n)/\actW w l a/\fD w l a=b:=by
 induction h with
 |zero=>exact⟨⟨hv,rfl⟩,trivial,rfl⟩
 |succ h c e z t o=>
  obtain⟨⟨g,k⟩,m,f⟩:=o;obtain⟨p,r⟩:=Q3 m (by rw[f];exact c);refine⟨⟨?_,by rw[wW,k];rfl⟩,p,by rw[r,f,e]⟩;rw[e];exact rX g c
theorem Rch.add{S:SMap}{b:A7}{k:K6}{o:fi}(hk:¬k∈S.map (·.1)){n:Nat}{c:A7}{l:Ac}(h:Rch w S b n c l):Rch w ((k,o)::S) b n c l:=by
 induction h with
 |zero=>exact .zero
 |succ h f g a m p=>
  refine .succ p f g (List.mem_cons_of_mem _ a) ?_;rw[Rl,qb λe=>hk (by rw[<-e];exact a)];exact m
theorem TC {α:Type}{z x:α}{a:List α}:∀m:Nat,(qr (m+1) z++a).set m x=qr m z++x::a
 |0=>rfl
 |m+1=>by
  rw[xN,wD,List.set_cons_succ,TC m,xN,wD]
theorem ajE{S:SMap}{t:A7}{n:Nat}{k:A7}{l:Ac}(H:n<=16)(h:Rch w S t n k l):(QZ S (plT k) (n:Int)).o=AB l:=by
 show(DA S (plT k) (n:Int)).run NN=_;simp only[DA,qj,qE];rw[ab qa,w64 (x:=(n:Int)-1) qa qa]
 refine Su (λm (z:Int×Int×Int×Int×Int×Int×Ac×Int)=>z.2.2.2.2.2.2.2=(m:Int)-1/\m<=16/\∃c p b,Rch w S t m c p/\(z.1,z.2.1,z.2.2.1,z.2.2.2.1,z.2.2.2.2.1,z.2.2.2.2.2.1)=plT c/\p++b=l/\z.2.2.2.2.2.2.1=qr m (⟨0,0,0⟩:aO)++b) (λy=>y=l) n
  ⟨rfl,H,k,l,[],h,rfl,xl l,(xl _).symm⟩ qa ?_ ?_
 ·rintro m ⟨O,Q,R,U,V,X,L,i⟩ ⟨g,N,c,p,b,I,hk,hl,f⟩;dsimp only at g hk f⊢;subst g;cases I with
  |zero=>
   refine .inr (.inl ⟨L,by rw[ai qa],?_⟩);rw[f,<-hl];rfl
  |@succ m e _ r a A J M D C=>
   have g:((m+1:Nat):Int)-1=(m:Int):=qa;have B:m<AA L:=by rw[f,wW,List.length_replicate];omega
   rw[hk,C,g,ah qa,ab qa,qE,ab qa,w64 (x:=(m:Int)-1) qa qa];refine .inl ⟨_,m,rfl,wB m,rfl,qa,e,r,a::b,A,rfl,?_,?_⟩;{rw[<-hl,wE];rfl};show L.set m a=_;rw[f,TC]
 rintro y rfl;exact⟨_,rfl,rfl⟩
theorem agx (w:al)(B:Ae)(h:AA B<4294967296):Gx (Le w B).o λ_=>True:=by
 have a:(Le w B).o=(Lf w B).run NN:=rfl;rw[a];simp only[Lf,qj,rQ,qH];refine Gx.loop (λn (z:Be×Int)=>∃j:Nat,z.2=(j:Int)/\j+n=AA B) (λ_=>True) (AA B) ⟨0,rfl,qa⟩ h ?_ (λ_ _=>.some trivial);rintro n ⟨L,_⟩ ⟨j,rfl,b⟩;dsimp only;cases n with
 |zero=>rw[ai qa];exact .some trivial
 |succ n=>
  rw[ah qa,ab qa];refine .andC (P:=λr=>∃y,r=.out y) ?_ ?_;{cases (((AF B ((j:Int)).toNat qt).XZ.Xg.length:Nat):Int)==((AA w.Xd:Nat):Int)<;>exact .some ⟨_,rfl⟩};rintro _ ⟨y,rfl⟩;rw[ag,wn qa];exact .some ⟨n,qa,j+1,rfl,qa⟩
def SeenOk (w:al)(S:SMap):Prop:=∃W:A8,S.map (·.1)=W.map plT/\W.Nodup/\∀l∈W,bJ w ⟨l⟩=AD
theorem SeenOk.len{S:SMap}(c:cd w=0)(h:SeenOk w S):AA S<=1771561:=by
 obtain⟨W,h1,a,b⟩:=h;have:=afw c a b;have e:AA (S.map (·.1))=AA (W.map plT):=by rw[h1]
 rw[xj,xj]at e;omega
theorem SeenOk.add{S:SMap}{l:A7}{o:fi}(h:SeenOk w S)(hv:bJ w ⟨l⟩=AD)(e:¬plT l∈S.map (·.1)):SeenOk w ((plT l,o)::S):=by obtain⟨W,h1,b,c⟩:=h;refine⟨l::W,by rw[wY,wY,h1],List.nodup_cons.2 ⟨λh=>e (by rw[h1];exact List.mem_map_of_mem h),b⟩,λx a=>?_⟩;rcases List.mem_cons.1 a with rfl|a;{exact hv};exact c x a
def LayOk (w:al)(S:SMap)(b:A7)(n:Nat)(L:List K6):Prop:=∀p∈L,∃a l,p=plT a/\Rch w S b n a l
theorem LayOk.add {w:al}{S:SMap}{a:A7}{n:Nat}{L:List K6}{k:K6}{o:fi}(h:LayOk w S a n L)(hk:¬k∈S.map (·.1)):LayOk w ((k,o)::S) a n L:=λp c=>by
 obtain⟨e,l,h1,b⟩:=h p c;exact⟨e,l,h1,b.add hk⟩
def SolP (w:al)(a g:A7)(r:Ac×Bool):Prop:=r.2=true->(actW w r.1 a/\gD (fD w r.1 a) g=AD)/\(AA r.1)<=16
theorem afD (w:al)(m:aD)(g:A7)(B:Ae)(ho:∀o∈w.Xd,AA o.Xc<4294967296)(hB:AA B<4294967296)(hv:bJ w m=AD)(hg:AA g=AA w.Xd):
 Gx (rr w m g 16 B).o (SolP w m.Xg g):=by
 have e0:(rr w m g 16 B).o=(Ck w m g 16 B).run NN:=rfl;have no:SolP w m.Xg g (nl,AE):=λh=>by cases h
 obtain⟨hw,hml,-⟩:=valid_parts' hv;obtain⟨_,_,z1,z2,z3,z4⟩:=eW hw;have f:∀l,bJ w ⟨l⟩=true->AA l=AA w.Xd:=λl h=>(valid_parts' h).2.1
 have hm6:AA m.Xg<=6:=qa;have hgm:AA g=AA m.Xg:=qa;have ep:∀z:K6,(z.1,z.2.1,z.2.2.1,z.2.2.2.1,z.2.2.2.2.1,z.2.2.2.2.2)=z:=λ_=>rfl
 have ed:(⟨w.Xi,w.Xd,w.Xj,w.Xm,w.Xl,w.Xq⟩:al)=w:=rfl;rw[e0];simp only[Ck,qj,ed,uU w m ho,hv,ep,rQ,Ue m.Xg g hm6 hgm,QL w z3 z2 z4,qH,qI,qd];rw[aS (show(AA g:Int)=(AA w.Xd:Int) from qa),ai jU,show qu ((16:Int)>16)=AE from rfl,ag,qd];cases ht:gD m.Xg g with
 |true=>exact .some λ_=>⟨⟨trivial,ht⟩,wN _⟩
 |false=>
  rw[qd];refine .bind (agx w B hB) ?_;intro bm _
  refine Gx.loop (λn (z:SMap×List K6×Int)=>∃k:Nat,z.2.2=(k:Int)+1/\k+n=16/\(SeenOk w z.1/\LayOk w z.1 m.Xg k z.2.1)/\(AA z.2.1)<=AA z.1) (λ_=>True) 16
   ⟨0,rfl,rfl,⟨⟨[m.Xg],rfl,jV,λl hl=>by rw[wP.1 hl];exact hv⟩,λp Z=>⟨m.Xg,[],wP.1 Z,.zero⟩⟩,wg _⟩ jU ?_ (λ_ _=>.some no)
  rintro n ⟨S,L,_⟩ ⟨k,rfl,hk,⟨hS,hL⟩,hLS⟩;dsimp only at hS hL hLS⊢;have hSl:=hS.len hw;cases n with
  |zero=>
   rw[ai (show ¬ (k:Int)+1<=16 from qa),ag,qd];exact .some trivial
  |succ n=>
   rw[ah (show(k:Int)+1<=16 from qa),ag];cases qu (((AA L:Nat):Int)>0)with
   |false=>exact .some trivial
   |true=>
    rw[qe]
    refine Gx.loop (λn' (z:SMap×List K6×Int)=>(∃j:Nat,z.2.2=(j:Int)/\j+n'=AA L)/\((SeenOk w z.1/\LayOk w z.1 m.Xg k L)/\LayOk w z.1 m.Xg (k+1) z.2.1)/\(AA z.2.1)<=AA z.1) (λz:SMap×List K6=>(SeenOk w z.1/\LayOk w z.1 m.Xg (k+1) z.2)/\(AA z.2)<=AA z.1) (AA L)
     ⟨⟨0,rfl,qa⟩,⟨⟨hS,hL⟩,λp Z=>by cases Z⟩,wN _⟩ qa ?_ ?_
    ·rintro n' ⟨S1,N1,_⟩ ⟨⟨j,rfl,hj⟩,⟨⟨U,Q⟩,R⟩,D⟩;dsimp only at U Q R D⊢;cases n' with
     |zero=>rw[ai qa];exact .some ⟨⟨U,R⟩,D⟩
     |succ n'=>
      have hjl:j<AA L:=qa;obtain⟨b,lp,Z,hr⟩:=Q _ (aM hjl);obtain⟨⟨X,hll⟩,haw,hla⟩:=hr.ok hv;have hms:=f _ X;rw[ah qa,ab qa,qE,ab qa,Z,TL w ⟨b⟩ z3 z2 (by show AA b<=6;omega),qH];have hAl:AA (eN w ⟨b⟩)<4294967296:=by
       have q:=oj w z2 (AA w.Xm);have q1:=lg (can1 ⟨b⟩) (λe=>(⟨1,e.Xs,e.Place⟩:aO)) (tabT w (AA w.Xm));have q2:=lg (can2 ⟨b⟩) (λe=>(⟨2,e.Xs,e.Place⟩:aO)) (tabT w (AA w.Xm));unfold eN;rw[wW];omega
      refine Gx.loop (λM (z:SMap×List K6×Int)=>(∃i:Nat,z.2.2=(i:Int)/\i+M=AA (eN w ⟨b⟩))/\((SeenOk w z.1/\LayOk w z.1 m.Xg k L)/\LayOk w z.1 m.Xg (k+1) z.2.1)/\(AA z.2.1)<=AA z.1) (λz:SMap×List K6=>((SeenOk w z.1/\LayOk w z.1 m.Xg k L)/\LayOk w z.1 m.Xg (k+1) z.2)/\(AA z.2)<=AA z.1) (AA (eN w ⟨b⟩))
       ⟨⟨0,rfl,qa⟩,⟨⟨U,Q⟩,R⟩,D⟩ hAl ?_ ?_
      ·rintro M ⟨S2,N2,_⟩ ⟨⟨i,rfl,hi⟩,⟨⟨A,t⟩,C⟩,c⟩;dsimp only at A t C c⊢;have hS2l:=A.len hw;cases M with
       |zero=>rw[ai qa];exact .some ⟨⟨⟨A,t⟩,C⟩,c⟩
       |succ M=>
        rw[ah qa];refine .andC (P:=λr=>(∃N Y,r=.out (N,Y)/\((SeenOk w N/\LayOk w N m.Xg k L)/\LayOk w N m.Xg (k+1) Y)/\(AA Y)<=AA N)\/∃l,r=.fin (.fin (.fin (.fin (l,AD))))/\SolP w m.Xg g (l,AD)) ?_ ?_
        ·rw[ab qa,qE];have H:canV w ⟨b⟩ (AF (eN w ⟨b⟩) i qt)=true:=acts_mem.1 (aM qa);generalize AF (eN w ⟨b⟩) i qt=a at H⊢;obtain⟨c1,c2,c3,-⟩:=sN H;have hap:(appV w ⟨b⟩ a).1.Xg=b.set (posV b (frV a)).toNat (toV a):=by rw[R2 X H]
         have hva:=rX X H;have J:bJ w ⟨(appV w ⟨b⟩ a).1.Xg⟩=true:=hva;rw[ags (show AA b<=6 from qa) qa qa c1,qH,<-hap];generalize hmm:(appV w ⟨b⟩ a).1.Xg=mm at J⊢;have hmml:=f _ J;rw[dom6];by_cases hd:plT mm∈S2.map (·.1);{rw[qg hd,qe,ag,qe];exact .some (.inl ⟨S2,N2,rfl,⟨⟨A,t⟩,C⟩,c⟩)};rw[qh hd,qd,ag];cases dV gP bm (gP (⟨plT b,a⟩:ir))with
         |true=>exact .some (.inl ⟨S2,N2,rfl,⟨⟨A,t⟩,C⟩,c⟩)
         |false=>
          obtain⟨ms3,l3,h3,hr3⟩:=t _ (aM hjl);have e3:ms3=b:=by
           have v3:=(hr3.ok hv).1.1;exact(ahu (by rw[f _ v3];omega) (by rw[f _ v3];omega) (h3.symm.trans Z))
          subst e3;have V:=Rch.succ (S:=(plT mm,(⟨plT ms3,a⟩:fi))::S2) (hr3.add hd) H hmm.symm (List.mem_cons_self ..) (by rw[Rl,qc rfl]);rw[qd,Ue mm g qa qa,qH];cases hth:gD mm g with
          |true=>
           have hkc:(k:Int)+1=((k+1:Nat):Int):=qa;rw[qe,hkc,ajE qa V,qH];obtain⟨⟨-,q0⟩,q1,q2⟩:=V.ok hv;exact .some (.inr ⟨_,rfl,λ_=>⟨⟨q1,by rw[q2];exact hth⟩,by show List.length _<=16;rw[q0];omega⟩⟩)
          |false=>
           rw[qd,ab ⟨by rw[wV];omega,by rw[wV,aF];omega⟩];refine .some (.inl ⟨_,_,rfl,⟨⟨A.add J hd,t.add hd⟩,λp I=>?_⟩,by rw[wW,wV,qx];omega⟩);rcases wH.1 I with I|I
           {exact C.add hd p I};exact⟨mm,_,wP.1 I,V⟩
        rintro _ (⟨N,Y,rfl,h1,O⟩|⟨l,rfl,h1⟩);{rw[ag,wn qa];exact .some ⟨M,qa,⟨i+1,rfl,qa⟩,h1,O⟩};exact .some h1
      rintro⟨N,Y⟩ ⟨h1,O⟩;dsimp only at h1 O⊢;rw[wn qa];exact .some ⟨n',qa,⟨j+1,rfl,qa⟩,h1,O⟩
    rintro⟨N,Y⟩ ⟨⟨h1,O⟩,h3⟩;dsimp only at h1 O h3⊢;rw[w64 (x:=(k:Int)+1+1) qa qa];exact .some ⟨n,qa,k+1,by show(k:Int)+1+1=_;omega,qa,⟨h1,O⟩,h3⟩
def eA (w:al):B4->A7->A7
 |[],m=>m
 |x::l,m=>eA w l (appV w ⟨m⟩ x.Xt).1.Xg
def oV (w:al):B4->A7->A7
 |[],c=>c
 |x::l,_=>oV w l (atG w x.XJ)
abbrev Goes:=aj->aY->A7->A7->Prop
def F7 (G:Goes)(w:al)(m c:A7)(x:dc):Prop:=G (cq w ⟨m⟩).1 x.Path c (atG w x.XJ)
def fS (G:Goes)(w:al):B4->A7->A7->Prop
 |[],_,_=>True
 |x::l,m,c=>(lH w m x=AD/\F7 G w m c x)/\fS G w l (appV w ⟨m⟩ x.Xt).1.Xg (atG w x.XJ)
theorem RJ {G:Goes}{w:al}{x:dc}:∀ {l:B4} {m c:A7},fS G w l m c->lH w (eA w l m) x=true->F7 G w (eA w l m) (oV w l c) x->
 fS G w (l++[x]) m c/\eA w (l++[x]) m=(appV w ⟨eA w l m⟩ x.Xt).1.Xg/\oV w (l++[x]) c=atG w x.XJ
 |[],m,c,_,a,b=>⟨⟨⟨a,b⟩,trivial⟩,rfl,rfl⟩
 |y::l,m,c,h,a,b=>by
  obtain⟨d,f,e⟩:=RJ (l:=l) h.2 a b;exact⟨⟨h.1,d⟩,f,e⟩
def MotP (G:Goes)(s:aj)(a b:A7)(r:aY×Int×Bool):Prop:=PaF r.1/\(r.2.2=true->G s r.1 a b)
theorem afq {σ τ R0 R1:Type}{f:σ->Option (aA σ τ R0)}{g:σ->Option (aA σ τ R1)}{w:τ->Option R0}{z:τ->Option R1}{x:σ}{t:R0->Prop}{P:R1->Prop}(I:Nat->σ->Prop)(Q:τ->Prop)(m:Nat)(h0:I m x)(B:m<4294967296)
 (D:∀m x,I m x->(∃o p,f x=AB (.next o)/\g x=AB (.next o)/\p<m/\I p o)\/(∃r,f x=AB (.fin r)/\t r)\/∃y,f x=AB (.out y)/\g x=AB (.out y)/\Q y)
 (hk:∀y,Q y->w y=none/\∃r,z y=AB r/\P r):
 (∃r,andK (iter f NN x) w=AB r/\t r)\/(andK (iter f NN x) w=none/\∃r,andK (iter g NN x) z=AB r/\P r):=by
 have key:∀ (N m:Nat) (x:σ),I m x->m<N->(∃r,iter f N x=AB (.inr r)/\t r)\/∃y,iter f N x=AB (.inl y)/\iter g N x=AB (.inl y)/\Q y:=by
  intro N;induction N with
  |zero=>intro m x _ h;omega
  |succ N H=>
   intro m x C J;rcases D m x C with⟨o,p,c,k,h1,A⟩|⟨r,e,h⟩|⟨y,c,k,h⟩
   {simp only[iter,c,k];exact H p o A qa};{exact .inl ⟨r,by simp only[iter,e],h⟩};exact .inr ⟨y,by simp only[iter,c],by simp only[iter,k],h⟩
 rcases key NN m x h0 B with⟨r,e,h⟩|⟨y,c,k,h⟩;{exact .inl ⟨r,by rw[e];rfl,h⟩};obtain⟨a,b⟩:=hk y h;refine .inr ⟨by rw[c];exact a,?_⟩;rw[k];exact b
def situ (b:A7)(c:Int)(a:aO):fH:=
 ⟨((if 0<AA b then AF b 0 qt else 0),(if 1<AA b then AF b 1 qt else 0),(if 2<AA b then AF b 2 qt else 0),(if 3<AA b then AF b 3 qt else 0),(if 4<AA b then AF b 4 qt else 0),(if 5<AA b then AF b 5 qt else 0)),c,a⟩
theorem aiZ (b:A7)(c:Int)(a:aO):(⟨((if 0<AA b then AF b 0 qt else 0),(if 1<AA b then AF b 1 qt else 0),(if 2<AA b then AF b 2 qt else 0),(if 3<AA b then AF b 3 qt else 0),(if 4<AA b then AF b 4 qt else 0),(if 5<AA b then AF b 5 qt else 0)),c,a⟩:fH)=situ b c a:=rfl
theorem ag9 {g b:A7}{m f:Int}{a k:aO}(h:AA g<=6)(hl:AA g=AA b)(e:situ g m a=situ b f k):g=b/\m=f/\a=k:=by simp only[situ,fH.mk.injEq,Prod.mk.injEq]at e;obtain⟨⟨o,p,r,t,w,z⟩,A,B⟩:=e;refine⟨kX hl λi c=>?_,A,B⟩;rcases(show i=0\/i=1\/i=2\/i=3\/i=4\/i=5 from qa)with h|h|h|h|h|h;{subst h;rwa[qc c,qc qa]at o};{subst h;rwa[qc c,qc qa]at p};{subst h;rwa[qc c,qc qa]at r};{subst h;rwa[qc c,qc qa]at t};{subst h;rwa[qc c,qc qa]at w};subst h;rwa[qc c,qc qa]at z
noncomputable instance:DecidableEq fH:=λ_ _=>Classical.propDecidable _
theorem keyS (a b:fH):cu (bV a) (bV b)=qu (a=b):=by obtain⟨⟨f,g,k,m,o,p⟩,r,⟨t,w,c⟩⟩:=a;obtain⟨⟨z,A,B,C,D,H⟩,I,⟨J,L,e⟩⟩:=b;simp only[cu,bV,cp,if_true,wx];rw[qQ];simp;grind
abbrev j0:=Bc
structure StpOk (G:Goes) (w:al) (ms q:A7) (a:aO) (x:dc):Prop where
 act:x.Xt=a
 paf:PaF x.Path
 can:lH w ms x=AD
 go:F7 G w ms q x
def qOf (w:al)(b:A7)(a:Int):A7:=if a= -1 then b else atG w a
def KnOk (G:Goes)(w:al)(e:A7)(K:j0):Prop:=∀b c a,bJ w ⟨b⟩=true->mdom bV K (bV (situ b c a))=true->
 StpOk G w b (qOf w e c) a (d8 bV K (bV (situ b c a)))
theorem KnOk.nil{G:Goes}{a:A7}:KnOk G w a nl:=λ_ _ _ _ h=>by cases h
theorem KnOk.add{G:Goes}{o:A7}{K:j0}(h:KnOk G w o K){k:A7}{m:Int}{x:dc}(hv:bJ w ⟨k⟩=AD)(t:StpOk G w k (qOf w o m) a x):KnOk G w o ((situ k m a,x)::K):=by intro b g p f hd;simp only[mdom,d8,keyS]at hd⊢;obtain⟨r,hl,-⟩:=valid_parts' hv;have c:=(valid_parts' f).2.1;obtain⟨_,_,z,_⟩:=eW r;by_cases e:situ b g p=situ k m a;{obtain⟨rfl,rfl,rfl⟩:=ag9 (by show AA b<=6;have:AA b=AA w.Xd:=c;omega) (show AA b=AA k from c.trans hl.symm) e;rw[qg rfl,qc rfl];exact t};rw[qh e,xH]at hd;rw[qh e,qb jU];exact h b g p f hd
def MotQ (G:Goes)(e:c6):Prop:=∀s a b,Gx (Jn s a b e).o (MotP G s a b)
theorem agW {G:Goes}(w:al)(c q:A7)(a:aO)(e:c6)(K:j0)(M:MotQ G e)(ho:∀o∈w.Xd,AA o.Xc<4294967296)(hv:bJ w ⟨c⟩=AD):
 Gx (uS w.Xi.Xe.Xa w.Xi.Xe.Xn w.Xi.Xc w.Xi.Xo w.Xd w.Xj w.Xm w.Xl w.Xq e.XA e.XI e.Xh e.XO K (⟨c⟩:aD) q a).o λr=>r.2=true->StpOk G w c q a r.1:=by
 have B:(uS w.Xi.Xe.Xa w.Xi.Xe.Xn w.Xi.Xc w.Xi.Xo w.Xd w.Xj w.Xm w.Xl w.Xq e.XA e.XI e.Xh e.XO K (⟨c⟩:aD) q a).o=(vM w.Xi.Xe.Xa w.Xi.Xe.Xn w.Xi.Xc w.Xi.Xo w.Xd w.Xj w.Xm w.Xl w.Xq e.XA e.XI e.Xh e.XO K (⟨c⟩:aD) q a).run NN:=rfl;have f:(⟨(⟨(⟨w.Xi.Xe.Xa,w.Xi.Xe.Xn⟩:am),w.Xi.Xc,w.Xi.Xo⟩:aj),w.Xd,w.Xj,w.Xm,w.Xl,w.Xq⟩:al)=w:=rfl;obtain⟨O,-,-⟩:=valid_parts' hv;obtain⟨_,_,_,_,_,R⟩:=eW O;rw[B];simp only[vM,qj,f,OF w _ ho,qH];by_cases h0:(cq w ⟨c⟩).2=0
 ·rw[aS h0];refine Gx.loop (λn z=>∃k:Nat,z=(w.Xi.Xe.Xa,w.Xi.Xe.Xn,w.Xi.Xc,w.Xi.Xo,w.Xd,w.Xj,w.Xm,w.Xl,w.Xq,e.XA,e.XI,e.Xh,e.XO,c,a.Xp,a.Xs,a.Place,(cq w ⟨c⟩).1.Xe.Xa,(cq w ⟨c⟩).1.Xe.Xn,(cq w ⟨c⟩).1.Xc,(cq w ⟨c⟩).1.Xo,q,(k:Int))/\k+n=AA w.Xl) (λ_=>True) (AA w.Xl) ⟨0,rfl,qa⟩ qa ?_ (λ_ _=>.some λh=>by cases h);rintro n _ ⟨k,rfl,hk⟩;dsimp only;cases n with
  |zero=>rw[ai qa];exact .some trivial
  |succ n=>
   rw[ah qa];have C:(Nr (k:Int) w.Xi.Xe.Xa w.Xi.Xe.Xn w.Xi.Xc w.Xi.Xo w.Xd w.Xj w.Xm w.Xl w.Xq e.XA e.XI e.Xh e.XO K c a.Xp a.Xs a.Place (cq w ⟨c⟩).1.Xe.Xa (cq w ⟨c⟩).1.Xe.Xn (cq w ⟨c⟩).1.Xc (cq w ⟨c⟩).1.Xo q).o=(Kx (k:Int) w.Xi.Xe.Xa w.Xi.Xe.Xn w.Xi.Xc w.Xi.Xo w.Xd w.Xj w.Xm w.Xl w.Xq e.XA e.XI e.Xh e.XO K c a.Xp a.Xs a.Place (cq w ⟨c⟩).1.Xe.Xa (cq w ⟨c⟩).1.Xe.Xn (cq w ⟨c⟩).1.Xc (cq w ⟨c⟩).1.Xo q).run NN:=rfl;have D:(⟨a.Xp,a.Xs,a.Place⟩:aO)=a:=rfl;have J:(⟨(⟨(cq w ⟨c⟩).1.Xe.Xa,(cq w ⟨c⟩).1.Xe.Xn⟩:am),(cq w ⟨c⟩).1.Xc,(cq w ⟨c⟩).1.Xo⟩:aj)=(cq w ⟨c⟩).1:=rfl;have H:(⟨e.XA,e.XI,e.Xh,e.XO⟩:c6)=e:=rfl;obtain⟨b,Q,-,N⟩:=ago w ⟨c⟩ a (k:Int) ho;rw[C];simp only[Kx,qj,f,D,J,H,Q,qH];cases b with
   |false=>
    simp only[wF,qe,qH];rw[qd,wn qa];exact .some ⟨n,qa,k+1,rfl,qa⟩
   |true=>
    obtain⟨g,m,A⟩:=N rfl;simp only[qI,qd];rw[ab qa];obtain⟨⟨p,t,ok⟩,I,h1,L⟩:=M (cq w ⟨c⟩).1 q ((AF w.Xl ((k:Int)).toNat qt).At);simp only[I,qH];cases ok with
    |false=>
     rw[qd,wn qa];exact .some ⟨n,qa,k+1,rfl,qa⟩
    |true=>
     rw[qe];refine .some λ_=>⟨rfl,h1,?_,L rfl⟩
     unfold lH kq atG;rw[g,m];simp only[A];rfl
 rw[bS h0];exact .some λh=>by cases h
theorem mZ {x:Int}(a:0<=x)(b:x<18446744073709551616):IntKind.u64.wrap x=x:=by have:IntKind.u64.wrap x=x % 18446744073709551616:=rfl;omega
theorem EP {x:Int}(a:0<=x)(c:x<18446744073709551616):((BitVec.ofInt 64 x&&&BitVec.ofInt 64 4294967295).toNat:Int)=x % 4294967296:=by obtain⟨n,rfl⟩:=Int.eq_ofNat_of_zero_le a;have e:(BitVec.ofInt 64 (n:Int)).toNat=n:=jX;have b:(BitVec.ofInt 64 4294967295).toNat=2 ^ 32-1:=jU;rw[BitVec.toNat_and,e,b,Nat.and_two_pow_sub_one_eq_mod];omega
theorem ajo {a b:Int}(c:0<=a)(m:a<65536)(d:0<=b)(n:b<17179869184):(My a b).o=AB (0,a * b):=by
 have e:(2:Int) ^ (min (32:Int).toNat 64)=4294967296:=jU;have f:∀x:Int,x.fdiv 4294967296=x / 4294967296:=λx=>Int.fdiv_eq_ediv_of_nonneg x jU
 show(IV a b).run NN=_;simp only[IV,qj,e,f,EP c (show a<18446744073709551616 from qa),EP d (show b<18446744073709551616 from qa)];have h:a % 4294967296=a:=qa;have g:a / 4294967296=0:=qa;rw[h,g];have i:0<=a * (b % 4294967296):=qJ c qa;have j:a * (b % 4294967296)<=65535 * 4294967295:=qK qa qa qa jU;have q:0<=a * (b / 4294967296):=qJ c qa;have p:a * (b / 4294967296)<=65535 * 3:=qK qa qa qa jU;have k:0<=a * b:=qJ c d;have l:a * b<=65535 * 17179869183:=qK qa qa d jU;rw[mZ c qa,mZ (x:=b % 4294967296) qa qa];generalize a * (b % 4294967296)=P at i j⊢;grind[mZ,EP]
theorem ajj {a b:Int}(h:b≠0)(c:0<b):∃r,(IT 0 a b).o=AB r/\r.1=IntKind.u64.wrap (a.tdiv b):=by have e:(IT 0 a b).o=(IU 0 a b).run NN:=rfl;grind[IU,qj,ab]
def primes:A7:=[2,3,5,7,11,13,17,19,23,29]
theorem adS {k:Nat}(h:k<10):AF primes k 0∈primes:=by rw[qZ,w6 (show k<AA primes from h),w7];simp_all
theorem adh (f:Int->A7){l:A7}{i:Nat}(h:i<AA l):AF (l.map f) i qt=f (AF l i qt):=by simp[qZ,w6 h]
structure Cert (s:aj) (P:A8) (E G:Ao) (d:Int):Prop where
 d0:0<=d
 d20:d<=20
 hz:∀j,j<AA E->(AF E j qt).Xz=0
 hG:AA G=AA E
 hE2:AA E<=200
 hP1:AA P<=100
 ho:∀j,j<AA E->(AF G j qt=AF E j qt\/AF G j qt=tstE s P d (AF E j qt))
 hc:∀j,j<AA E->(AF E j qt).XM=dstV s.Xe (AF P (AF E j qt).U.toNat qt) (AF P (AF E j qt).V.toNat qt)
 hn0:∀j,j<AA E->(AF E j qt).XD.Xx=nl
 hsv:aT s=0
 hin:∀c∈P,aI s.Xe c=AD
 hw:WF ⟨P,E⟩
section
variable {s:aj} {P:A8} {E G:Ao} {d:Int}
theorem S9 (h:Cert s P E G d):WF ⟨P,G⟩:=by obtain⟨o,a,hz,hG,b,c,ho,p,g,k,e,m⟩:=h;refine ahX hG (λj f=>?_) m;rcases ho j f with q|q;{rw[q];exact⟨rfl,rfl,rfl⟩};rw[q];exact S0 s P d _
theorem Q7 (h:Cert s P E G d){j:Nat}(a:j<AA E):(AF G j qt).U=(AF E j qt).U/\(AF G j qt).V=(AF E j qt).V/\(AF G j qt).XM=(AF E j qt).XM:=by rcases h.ho j a with q|q;{rw[q];exact⟨rfl,rfl,rfl⟩};rw[q];exact S0 s P d _
theorem E6 (h:Cert s P E G d){j:Nat}(a:j<AA E):0<=(AF E j qt).U/\(AF E j qt).U<(AF E j qt).V/\(AF E j qt).V<(AA P:Int):=by obtain⟨b,c,e,-,-⟩:=(h.hw j a).1;exact⟨b,c,e⟩
theorem aem (h:Cert s P E G d):MapF ⟨P,G⟩:=by
 obtain⟨w,b,hz,hG,o,p,ho,g,m,t,k,B⟩:=h;have f:∀c∈P,AA c<=10:=λc g=>(gm (k c g)).2
 refine⟨λc g=>by have:=f c g;omega,λe r=>?_⟩;have r:e∈G:=r;obtain⟨q,A,rfl⟩:=wh r;have a:q<AA E:=qa;obtain⟨C,D,H⟩:=E6 ⟨w,b,hz,hG,o,p,ho,g,m,t,k,B⟩ a;have z:G[q]=AF G q qt:=by rw[qZ,w6 A,w7]
 rw[z];rcases ho q a with h|h
 {rw[h,m q a];exact⟨jU,jU⟩};rw[h];exact(UV s w b f qa qa).1
theorem agB (h:Cert s P E G d){x y:Int}(hx:0<=x/\x<(AA P:Int))(hy:0<=y/\y<(AA P:Int))(hxy:x≠y)(h1:(nxV P x y G).2.2.2=1):
 ∃z,dY s ⟨P,G⟩ (nxV P x y G).2.1=(z,AD)/\OkG s z/\AF z.Xb 0 qt=AF P x.toNat qt/\AF z.Xb (AA z.Xb-1) qt=AF P y.toNat qt/\
  wayD s.Xe z.Xb (AA z.Xf)=(nxV P x y G).2.2.1/\dstV s.Xe (AF P x.toNat qt) (AF P y.toNat qt)<=(nxV P x y G).2.2.1:=by
 obtain⟨X,o,hz,hG,C,p,ho,O,J,A,a,hw⟩:=h;have hsG:dO ⟨P,G⟩:=⟨p,by show AA G<=200;omega⟩;have N:WF ⟨P,G⟩:=S9 ⟨X,o,hz,hG,C,p,ho,O,J,A,a,hw⟩;have h10:∀c∈P,AA c<=10:=λc O=>(gm (a c O)).2
 obtain⟨-,hnx,hp⟩:=ng x y hsG;have I:=hnx.len;generalize nxV P x y G=z at h1 hp I⊢;obtain⟨ze,zv,zc,zs⟩:=z;simp only at h1 hp I⊢;subst h1;have key:∃k l,Best (Eg ⟨P,G⟩ 1) y x zc k/\Rt (Eg ⟨P,G⟩ 1) y x l/\zv=x::l/\∀i,i+1<AA (x::l)->∀e,EI ⟨P,G⟩ (x::l) i e->(AF G e qt).Xz≠0:=by
  rcases hp with⟨h,-⟩|⟨ha,rt,t,⟨q1,L⟩|⟨q1,L⟩⟩;{exact absurd ⟨N,hx,hy⟩ h};{simp only[Prod.mk.injEq]at L;exact absurd L.2.2 jU};rcases L with⟨L,q3⟩|⟨i,e,-,-,-,L,-⟩
  ·rcases t with⟨h,-⟩|⟨-,c,k,l,b1,b2,b3⟩;{rw[h]at q1;cases q1};rw[b3]at L q3;simp only[Prod.mk.injEq,dq.mk.injEq]at L;obtain⟨-,⟨rfl,rfl⟩,-⟩:=L;exact⟨k,l,b1,b2,rfl,q3⟩
  simp only[Prod.mk.injEq]at L;exact absurd L.2.2 jU
 obtain⟨k,l,hb,Y,rfl,h0⟩:=key;have g:=Eg.graph N 1;have hl0:l≠[]:=λh=>by
  subst h;cases Y;exact hxy rfl
 have hll:0<AA l:=by cases l with|nil=>exact absurd rfl hl0|cons=>simp
 simp only[qx]at I h0;have hv:∀i,i<AA l+1->0<=AF (x::l) i qt/\AF (x::l) i qt<(AA P:Int):=λi hi=>by
  by_cases hi2:i<AA l;{obtain⟨c,hh⟩:=Y.adj i hi2;obtain⟨m,B,-,-⟩:=g.lt _ _ _ hh;exact⟨m,B⟩};obtain⟨c,hh⟩:=Y.adj (i-1) qa;obtain⟨-,-,m,B⟩:=g.lt _ _ _ hh;rw[show i-1+1=i from qa]at m B;exact⟨m,B⟩
 have hgd:kp ⟨P,G⟩ (x::l):=⟨N,jV,by simp only[qx];omega,λi hi=>hv i kb⟩;have hst:∀i,i<AA l->∃e:Nat,edX ⟨P,G⟩ (AF (x::l) i qt) (AF (x::l) (i+1) qt)=AB e:=λi hi=>by
  obtain⟨c,j,m,B,Z,R⟩:=Y.adj i hi;have m:j<AA G:=m;have B:lq (AF G j qt).Xz 1=true:=B;have R:(AF G j qt).U=AF (x::l) i qt/\(AF G j qt).V=AF (x::l) (i+1) qt\/(AF G j qt).U=AF (x::l) (i+1) qt/\(AF G j qt).V=AF (x::l) i qt:=R;obtain⟨o1,o2,o3,-,-⟩:=(N j m).1;have o2:(AF G j qt).U<(AF G j qt).V:=o2;have hU:(AF G j qt).U=min (AF (x::l) i qt) (AF (x::l) (i+1) qt):=qa;have hV:(AF G j qt).V=max (AF (x::l) i qt) (AF (x::l) (i+1) qt):=qa;have hs:=h0 i qa j ⟨m,hU,hV⟩;have h1:(AF G j qt).Xz=1:=by
   unfold lq at B;rw[qb jU,qc rfl]at B;simp only[qX,beq_iff_eq]at B;omega
  have hex:∃e,e<(⟨P,G⟩:aJ).Xf.length/\((⟨P,G⟩:aJ).Xf.getD e qt).U=min (AF (x::l) i qt) (AF (x::l) (i+1) qt)/\((⟨P,G⟩:aJ).Xf.getD e qt).V=max (AF (x::l) i qt) (AF (x::l) (i+1) qt)/\((⟨P,G⟩:aJ).Xf.getD e qt).Xz=1:=⟨j,m,hU,hV,h1⟩;refine⟨hex.choose,?_⟩;unfold edX;exact dif_pos hex
 have hpv:=D2 (s:=s) hgd (by simp only[qx];omega) (λi hi=>by
  obtain⟨e,he⟩:=hst i kb;show(edX _ (AF (x::l) i qt) (AF (x::l) (i+1) qt)).isSome=AD;rw[he];rfl)
 have f:∀i,i<AA l+1->AF ((x::l).map (ptE ⟨P,G⟩)) i qt=AF P (AF (x::l) i qt).toNat qt:=λi hi=>adh _ kb
 have hpi:∀i,i<AA l+1->aI s.Xe (AF ((x::l).map (ptE ⟨P,G⟩)) i qt)=true:=λi hi=>by
  rw[f i hi];have:=hv i hi;exact a _ (aM qa)
 have H:AF (x::l) (AA l) qt=y:=ahB Y;have D:zc=wayD s.Xe ((x::l).map (ptE ⟨P,G⟩)) (AA l):=ahA g (r:=s.Xe) (P:=P) (λu w c hh=>by
  obtain⟨j,m,B,Z,R⟩:=hh;have m:j<AA G:=m;have Q:j<AA E:=qa;have Z:(AF G j qt).XM=c:=Z;have R:(AF G j qt).U=u/\(AF G j qt).V=w\/(AF G j qt).U=w/\(AF G j qt).V=u:=R;obtain⟨t1,t2,t3⟩:=Q7 ⟨X,o,hz,hG,C,p,ho,O,J,A,a,hw⟩ Q;obtain⟨o1,o2,o3⟩:=E6 ⟨X,o,hz,hG,C,p,ho,O,J,A,a,hw⟩ Q;have hc':=O j Q;rw[t1,t2]at R;rcases R with⟨rfl,rfl⟩|⟨rfl,rfl⟩
  {rw[<-Z,t3];exact hc'};rw[<-Z,t3,hc'];exact agP (a _ (aM qa)) (a _ (aM qa))) Y hb
 refine⟨_,hpv,⟨?_,?_,?_⟩,?_,?_,?_,?_⟩;{refine chkPV_iff.2 ⟨A,by simp only[xj,qx];omega,λi hi=>hpi i kb⟩};{simp only[xj,qx,bL];omega}
 ·intro i hi;simp only[qx,bL,xO]at hi;simp only[f i qa,f (i+1) qa];rw[dL kb];obtain⟨e,he⟩:=hst i hi;obtain⟨e1,e2,e3,e4⟩:=Eo he;have e1:e<AA G:=e1;have M:e<AA E:=qa;have e4:(AF G e qt).Xz=1:=e4;have e2:(AF G e qt).U=min (AF (x::l) i qt) (AF (x::l) (i+1) qt):=e2;have e3:(AF G e qt).V=max (AF (x::l) i qt) (AF (x::l) (i+1) qt):=e3;have hse:stpE ⟨P,G⟩ (x::l) i=prfE (AF G e qt) (AF (x::l) i qt):=by
   unfold stpE;show prfE (AF G ((edX ⟨P,G⟩ (AF (x::l) i qt) (AF (x::l) (i+1) qt)).getD 0) qt) _=_;rw[he];rfl
  rw[hse];obtain⟨o1,o2,o3⟩:=E6 ⟨X,o,hz,hG,C,p,ho,O,J,A,a,hw⟩ M;obtain⟨t1,t2,-⟩:=Q7 ⟨X,o,hz,hG,C,p,ho,O,J,A,a,hw⟩ M;rcases ho e M with q|q
  {rw[q,hz e M]at e4;cases e4};have b:=(UV s (x:=AF E e qt) X o h10 qa qa).2 (by rw[<-q];exact e4);rw[<-q]at b;rw[<-t1,<-t2,e2,e3]at b;have t:cJ (ij (AF G e qt).XD.Xx)=((AF G e qt).XD.Xx,AD):=QS _;unfold prfE;by_cases hd:AF (x::l) i qt=(AF G e qt).U;{rw[qc hd,t];refine⟨rfl,?_⟩;rw[show min (AF (x::l) i qt) (AF (x::l) (i+1) qt)=AF (x::l) i qt from qa,show max (AF (x::l) i qt) (AF (x::l) (i+1) qt)=AF (x::l) (i+1) qt from qa]at b;exact b};rw[qb hd];rw[show min (AF (x::l) i qt) (AF (x::l) (i+1) qt)=AF (x::l) (i+1) qt from qa,show max (AF (x::l) i qt) (AF (x::l) (i+1) qt)=AF (x::l) i qt from qa]at b;have hco:jp (AF G e qt).XD.Xx:=(check_iff.1 b).2.1;obtain⟨u1,u2⟩:=acU (y:=ij (AF G e qt).XD.Xx) (by rw[t]) (by rw[t];exact hco);rw[t]at u2;exact⟨u1,adG u2 b⟩
 {exact f 0 qa};{show((x::l).map (ptE ⟨P,G⟩)).getD (AA ((x::l).map (ptE ⟨P,G⟩))-1) qt=_;rw[xj,qx,xO,f (AA l) qa,H]};{simp only[qx,bL,xO];exact D.symm};have:=Q2 (r:=s.Xe) (c:=(x::l).map (ptE ⟨P,G⟩)) (λi hi=>hpi i kb) (AA l) jV;rw[f 0 qa,f (AA l) qa,H,<-D]at this;exact this
end
theorem ajt(h:bF r=0):AA r.Xa<=10:=by grind[bF]
def PtsP (a b:A7)(d:A8):Prop:=(2<=AA d/\(AA d)<=7)/\(AF d 0 qt=a/\AF d 1 qt=b)/\∀c∈d,AA c<4294967296
theorem PtsP.add {a b c:A7}{d:A8}(h:PtsP a b d)(l:AA d<=6)(k:AA c<4294967296):PtsP a b (d++[c]):=by obtain⟨⟨j,i⟩,⟨g,f⟩,e⟩:=h;refine⟨jX,⟨?_,?_⟩,λx m=>?_⟩;all_goals grind
theorem Tc (r:am)(a:A8):∀j i,i<j->aI r (AF a i qt)=true->AF a i qt∈disL r a j
 |j+1,i,h,c=>by
  unfold disL;by_cases e:i=j
  ·subst e;split;{simp};rename_i d;exact xC λk=>d ⟨c,k⟩
  have:=Tc r a j i qa c;split;{exact List.mem_append_left _ this};exact this
theorem Rb (r:am)(a:A8)(d:aI r (AF a 0 qt)=AD):∀j,0<j->AF (disL r a j) 0 qt=AF a 0 qt/\0<AA (disL r a j)
 |1,_=>by
  grind[disL]
 |j+2,_=>by
  obtain⟨c,b⟩:=Rb r a d (j+1) qa;unfold disL;split;{refine⟨?_,by rw[wW];omega⟩;rw[qZ,xP b,<-qZ];exact c};exact⟨c,b⟩
theorem ahk:PaF ⟨nl,nl⟩:=nil_PaB.f
def rngV (e:c6):Bool:=qu (e.XA>=0)&&(qu (e.XA<=1022)&&(qu (e.XI>=1)&&(qu (e.XI<=16)&&(qu (e.Xh>=0)&&(qu (e.Xh<=20)&&(qu (e.XO>=0)&&qu (e.XO<=8192)))))))
structure MotM (s:aj) (a b:A7) (m:aJ):Prop where
 lz:LzOk m.Xb (AA m.Xf) m.Xf
 p7:AA m.Xb<=7
 e49:AA m.Xf<=49
 hin:∀c∈m.Xb,aI s.Xe c=AD
 wf:WF ⟨m.Xb,m.Xf⟩
 hz:∀j,j<AA m.Xf->∃u v:Nat,AF m.Xf j qt=newE s.Xe m.Xb u v
 fst:AF m.Xb 0 qt=a/\0<AA m.Xb
 snd:b∈m.Xb
theorem Sz {s:aj}{a b:A7}{m:aJ}(c:MotM s a b m)(p:aT s=0){d:Int}(g:0<=d)(e:d<=20){y:Int}{K:Nat}
 (o:∀i,i<K->(nxV m.Xb 0 y (itE s m.Xb 0 y d m.Xf i)).2.2.2=3):Cert s m.Xb m.Xf (itE s m.Xb 0 y d m.Xf K) d/\dO ⟨m.Xb,itE s m.Xb 0 y d m.Xf K⟩:=by
 have k:=UF (x:=0) (y:=y) g e c.lz o K (wg _);have l:=tf (x:=0) (y:=y) g e c.lz o K (wg _);have n:AA (itE s m.Xb 0 y d m.Xf K)=AA m.Xf:=l.len;have t:=c.p7;have q:=c.e49
 have r:Cert s m.Xb m.Xf (itE s m.Xb 0 y d m.Xf K) d:=⟨g,e,λj f=>by obtain⟨u,v,h⟩:=c.hz j f;rw[h];rfl,n,qa,qa,k,
  λj f=>by obtain⟨u,v,h⟩:=c.hz j f;rw[h];rfl,λj f=>by obtain⟨u,v,h⟩:=c.hz j f;rw[h];rfl,p,c.hin,c.wf⟩
 grind[dO]
def GoOk (G:Goes):Prop:=∀ (s:aj) (a b:A7) (m:aJ) (d y:Int) (K:Nat),MotM s a b m->aT s=0->0<=d->d<=20->(0<=y/\y<(AA m.Xb:Int))->AF m.Xb y.toNat qt=b->
 (∀i,i<K->(nxV m.Xb 0 y (itE s m.Xb 0 y d m.Xf i)).2.2.2=3)->(nxV m.Xb 0 y (itE s m.Xb 0 y d m.Xf K)).2.2.2=1->
  (dY s ⟨m.Xb,itE s m.Xb 0 y d m.Xf K⟩ (nxV m.Xb 0 y (itE s m.Xb 0 y d m.Xf K)).2.1).2=true->G s (dY s ⟨m.Xb,itE s m.Xb 0 y d m.Xf K⟩ (nxV m.Xb 0 y (itE s m.Xb 0 y d m.Xf K)).2.1).1 a b
theorem aiS:RoB R0:=⟨jU,jU,Sk λi a=>by
 match i,a with
 |0,_=>exact⟨jU,jU,jU⟩
 |1,_=>exact⟨jU,jU,jU⟩⟩
theorem aio(h:MadeW w)(l:A7)(q:AA l<4294967296):Gx (AW w l).o λg=>AA g=AA w.Xd:=by
 obtain⟨D,C,s⟩:=h.pl;obtain⟨E,t,F⟩:=h.ob;have d:(AW w l).o=(AX w l).run NN:=rfl;have e:(kO l).o=AB (l,0):=rfl;rw[d];simp only[AX,qj,e,qH];refine Gx.loop (λn (z:A7×Int×A7×Int)=>(z.1=l/\0<=z.2.1/\z.2.1<=(AA l:Int))/\∃j:Nat,z.2.2.2=(j:Int)/\j+n=AA w.Xd/\(AA z.2.2.1)=j) (λg=>AA g=AA w.Xd) (AA w.Xd) ⟨⟨rfl,wL _,jW⟩,0,rfl,qa,rfl⟩ qa ?_ (λg a=>.some a);rintro n ⟨_,i,g,_⟩ ⟨⟨rfl,b,c⟩,j,rfl,u,a⟩;dsimp only at b c a⊢;cases n with
 |zero=>rw[ai qa];exact .some (by show AA g=_;omega)
 |succ n=>
  obtain⟨r,A,f,B,v,m,p⟩:=dR q b c (k:=(AA w.Xj:Int)+1) qa qa;rw[ah qa,w64 (x:=(AA w.Xj:Int)+1) qa qa,f,qH];refine .andC (P:=λr=>∃y,r=.out y) ?_ ?_
  ·cases r==(AA w.Xj:Int);{exact .some ⟨_,rfl⟩};exact .some ⟨_,rfl⟩
  rintro _ ⟨y,rfl⟩;rw[ag,ab ⟨jX,by grind[aF]⟩,wn qa];exact .some ⟨n,qa,⟨rfl,m,p⟩,j+1,rfl,qa,jW⟩
theorem ai2 {s:aj}{c:A8}(h:((bldV s 0 c).2.2==0)=AD):OkG s (bldV s 0 c).1/\(bldV s 0 c).1.Xb=c:=by
 unfold bldV at h⊢;by_cases k:(fd s c).2=0
 ·rw[qb (λh=>h k)]at h⊢;obtain⟨d,j⟩:=oq k;cases e:badE s 0 c with
  |some i=>simp_all
  |none=>
   refine⟨⟨k,by grind[bL],λi b=>?_⟩,rfl⟩;simp only[bL]at b;have a:i<AA c-1:=b;have g:=d.get (show i<AA c from qa);have f:=d.get (show i+1<AA c from qa);have l:=(F5 s (wL 0) jU (AF c i qt) (AF c (i+1) qt) qa qa).2.2.2 (acY e a);grind[dL]
 simp_all
abbrev GL:Goes:=λs p a b=>oW s p a b=AD
theorem go_L:GoOk GL:=by
 intro s a b m d y K v I H p E x N M B;obtain⟨A,r⟩:=Sz v I H p N;have n:(0:Int)<=0/\(0:Int)<(AA m.Xb:Int):=⟨wL _,qa⟩;by_cases g:(0:Int)=y
 ·subst g;obtain⟨-,-,t⟩:=ng 0 0 r;have j:=S9 A;generalize itE s m.Xb 0 0 d m.Xf K=G at *
  generalize nxV m.Xb 0 0 G=z at *
  obtain⟨S,L,X,W⟩:=z;have w:L=[0]:=by
   rcases t with⟨h,-⟩|⟨U,V,q,⟨o,f⟩|⟨o,f⟩⟩;{exact absurd ⟨j,n,n⟩ h};{simp_all};rcases f with⟨f,T⟩|⟨i,e,-,-,-,f,-⟩
   ·rcases q with⟨h,-⟩|⟨-,c,k,l,P,C,R⟩;{simp_all};cases C<;>simp_all
   simp_all
  subst w;have u:kp ⟨m.Xb,G⟩ [0]:=⟨j,jV,jV,λi Q=>by
   simp_all⟩
  rw[D3 u rfl]at B⊢;obtain⟨o,f⟩:=ai2 B;refine leadB_iff.2 ⟨o,?_,?_⟩;{rw[f];exact v.fst.1};simp_all
 obtain⟨z,O,D,J,F,-,-⟩:=agB A n E g M;rw[O];exact leadB_iff.2 ⟨D,J.trans v.fst.1,F.trans x⟩
theorem EV {w:al}{g:A7}:∀ {l:B4} {i:Nat} {m c:A7},fS GL w l m c->chkL w g l i m c=(((i+AA l:Nat):Int),bif ko w ⟨eA w l m⟩ g then 0 else 3902)
 |[],i,m,c,_=>rfl
 |x::l,i,m,c,h=>by
  rw[chkL,h.1.1,show m7 w m c x=AD from h.1.2];simp only[qI,qd,eA];rw[EV h.2];congr 2;simp only[qx];omega
theorem RI {G:Goes}{w:al}:∀ {l:B4} {m c:A7},fS G w l m c->bJ w ⟨m⟩=true->bJ w ⟨eA w l m⟩=AD
 |[],_,_,_,h=>h
 |x::l,m,c,h,d=>by
  refine RI (l:=l) h.2 ?_;have e:(appV w ⟨m⟩ x.Xt).2=true:=by
   have:=h.1.1;exact(xM.1 this).1
  have a:canV w ⟨m⟩ x.Xt=true:=by
   cases k:canV w ⟨m⟩ x.Xt with
   |true=>rfl
   |false=>simp[appV,k]at e
  exact rX d a
theorem aen{n:aD}{p g:A7}{f:B4}(a:bJ w n=AD)(h:aI w.Xi.Xe p=AD)(b:fS GL w f n.Xg p)(e:AA g=AA w.Xd):
 (chkV w n p g f).2=bif gD (eA w f n.Xg) g then 0 else 3902:=by
 obtain⟨i,d,-⟩:=valid_parts' a;have c:=RI b a;grind[chkV,EV,ko]
def dmC {R:Type}(o:Option R):aK R:=⟨Tryz.prog,.yld 0,o,0,[],[(0,.tok ⟨λ_=>False,λ_ _ _=>False,λh _ _ _=>h⟩ .nilI)],λ_=>.tt,λ_=>[],λ_ _=>⟨λ_ _ _ _ _ a=>(a.ok 0 _ rfl).elim⟩⟩
theorem dm_o {R:Type}(o:Option R):(dmC o).o=o:=rfl
abbrev dmE {α:Type}:En α:=⟨0,λ_=>.nilI⟩
variable {α:Type} [Inhabited α] (cmp:α->α->Option Int)
noncomputable def lX (a:(List α))(b c:Nat)(e f:Int):Option (List α):=haveI:En α:=dmE;(Azj (λx y=>dmC (cmp x y)) [] 0 [] [] a b c e f).run NN
noncomputable def mn (a:(List α))(b c:Nat)(e f g:Int):Option (List α):=haveI:En α:=dmE;(Azn (λx y=>dmC (cmp x y)) [] 0 [] [] a b c e f g).run NN
noncomputable def ml (a:(List α))(b c:Nat)(e f:Int):Option (List α):=haveI:En α:=dmE;(Azi (λg k m o p r=>dmC (mn cmp g k m o p r)) [] 0 [] a b c e f).run NN
noncomputable def lm (a:(List α))(b c:Nat)(e f g:Int):Option (Int×Int×Int):=haveI:En α:=dmE;(Yz4 (λx y=>dmC (cmp x y)) [] a b c e f g).run NN
noncomputable def iQ (a:(List α))(b c:Nat)(e f g k:Int):Option (Int×Int):=haveI:En α:=dmE;(Yz3 (λm o p r t w=>dmC (lm cmp m o p r t w)) [] a b c e f g k).run NN
noncomputable def lQ (a:(List α))(b c:Nat)(e f:Int):Option (Int×Int):=haveI:En α:=dmE;(Azk (λg k m o p r t=>dmC (iQ cmp g k m o p r t)) [] a b c e f).run NN
noncomputable def l8 (g:(List α))(k m:Nat)(o p:Int):Option (Int×Int):=haveI:En α:=dmE;(Azh (λa b c e f r t=>dmC (iQ cmp a b c e f r t)) (λa b c e f=>dmC (lQ cmp a b c e f)) [] 0 [] g k m o p).run NN
noncomputable def l4 (_:α->α->Option Int)(b:(List α))(c e:Nat)(f g:Int):Option (List α):=haveI:En α:=dmE;(mu [] 0 b c e f g).run NN
noncomputable def lJ (a:(List α))(b c:Nat)(e f:Int):Option (Bool×(List α)):=haveI:En α:=dmE;(nzg (λx y=>dmC (cmp x y)) [] 0 [] [] a b c e f).run NN
noncomputable def lR (a:(List α))(b c:Nat)(e f g:Int):Option (Int×(List α)):=haveI:En α:=dmE;(Azl (λx y=>dmC (cmp x y)) 0 [] [] [] a b c e f g).run NN
noncomputable def md (a:(List α))(b c:Nat)(e f g:Int):Option (Int×Bool×(List α)):=haveI:En α:=dmE;(Yz5 (λx y=>dmC (cmp x y)) 0 [] [] [] a b c e f g).run NN
noncomputable def lW (_:α->α->Option Int)(b:Int->Option Int)(a:Int->Option (Int×Int))(e:(List α))(f g:Nat)(k m:Int):Option (List α):=haveI:En α:=dmE;(mr (λi=>dmC (b i)) (λi=>dmC (a i)) [] 0 0 [] [] e f g k m).run NN
noncomputable def lc (m:Int->Option Int)(k:Int->Option (Int×Int))(rec:(List α)×Nat×Nat×Int×Int×Int->Option (List α))(p:(List α))(r t:Nat)(w z A:Int):Option (List α):=haveI:En α:=dmE;(Yz6 (λx y=>dmC (cmp x y)) (λa c e f g=>dmC (lX cmp a c e f g)) (λa c e f g=>dmC (ml cmp a c e f g)) (λa c e f g=>dmC (l8 cmp a c e f g)) (λa c e f g=>dmC (l4 cmp a c e f g)) (λa c e f g=>dmC (lJ cmp a c e f g)) (λa c e f g o=>dmC (lR cmp a c e f g o)) (λa c e f g o=>dmC (md cmp a c e f g o)) (λa c e f g=>dmC (lW cmp m k a c e f g)) (λb=>dmC (rec b)) [] 0 0 [] [] [] p r t w z A).run NN
open Go.Sort (swp size_swp insInner insOuter insertionSort SWO)
theorem fV {σ τ R:Type}{f:σ->Option (aA σ τ R)}{k:τ->Option R}{x:σ}{r:R}(I:Nat->σ->Prop)(m:Nat)(h0:I m x)(e:m<4294967296)
 (o:∀m x,I m x->(∃b a,f x=AB (.next b)/\a<m/\I a b)\/(∃y,f x=AB (.out y)/\k y=AB r)\/f x=AB (.fin r)):andK (iter f NN x) k=AB r:=by
 obtain⟨z,h1,c⟩:=bU (P:=λz=>z=r) (k:=k) (f:=f) I (λy=>k y=AB r) m h0 e (λm x g=>by
  rcases o m x g with h|h|h;{exact .inl h};{exact .inr (.inl h)};exact .inr (.inr ⟨r,h,rfl⟩)) (λy p=>⟨r,p,rfl⟩)
 rw[h1,c]
section
variable {α:Type}
def W (l:List α)(lo:Nat)(d:Array α):List α:=l.take lo++d.toList++l.drop (lo+d.size)
variable {l:List α} {lo:Nat} {d:Array α}
theorem ev (h:lo+d.size<=AA l):AA (W l lo d)=AA l:=by unfold W;simp only[wW,w8,xQ,Array.length_toList];omega
theorem Ux (h:lo+d.size<=AA l){i:Nat}(hi:i<d.size)(x:α):(W l lo d).set (lo+i) x=W l lo (d.setIfInBounds i x):=by
 unfold W;have h1:AA (l.take lo)=lo:=by rw[w8];omega
 rw[wE,List.set_append_right _ _ qa,h1,xR,List.set_append_left _ _ kb,wE];simp
theorem TP {n:Nat}(h:lo+n<=AA l):W l lo ((l.drop lo).take n).toArray=l:=by
 unfold W;have:AA ((l.drop lo).take n)=n:=by rw[w8,xQ];omega
 simp only[List.size_toArray,this];rw[wE,<-List.drop_drop,xS,xS]
variable [Inhabited α]
theorem tB (h:lo+d.size<=AA l){i:Nat}(hi:i<d.size):(W l lo d).getD (lo+i) qt=d[i]!:=by
 unfold W;have h1:AA (l.take lo)=lo:=by rw[w8];omega
 rw[qZ,wE,List.getElem?_append_right qa,h1,xR,xP kb];simp[hi]
theorem ex (h:lo+d.size<=AA l){i j:Nat}(a:i<d.size)(hj:j<d.size):
 ((W l lo d).set (lo+i) ((W l lo d).getD (lo+j) qt)).set (lo+j) ((W l lo d).getD (lo+i) qt)=W l lo (swp d i j):=by
 rw[tB h hj,tB h a,Ux h a,Ux kc ka];rfl
theorem Gl {j:Nat}(h:j<4294967296):AG qs (((j+1:Nat):Int)-1)=((j:Nat):Int):=by rw[w64 qa qa];omega
variable {cmp:α->α->Option Int} {lt:α->α->Bool} {n:Nat}
variable {S:α->Prop}
def dW (S:α->Prop)(cmp:α->α->Option Int)(lt:α->α->Bool):Prop:=∀x y,S x->S y->∃z,cmp x y=AB z/\qu (z<0)=lt x y
def Ok (S:α->Prop)(n:Nat)(e:Array α):Prop:=e.size=n/\∀i,i<n->S e[i]!
theorem Ok.swp {e:Array α}(h:Ok S n e){i j:Nat}(b:i<n)(c:j<n):Ok S n (swp e i j):=by have f:=h.1;refine⟨by rw[size_swp];exact h.1,λk hk=>?_⟩;by_cases a:k=j;{subst a;rw[Go.Sort.swp_right _ _ _ qa];exact h.2 i b};by_cases c2:k=i;{subst c2;rw[Go.Sort.swp_left _ _ _ qa qa];exact h.2 j c};rw[Go.Sort.swp_other _ _ _ _ c2 a];exact h.2 k hk
theorem Ok.perm {e f:Array α}(h:Ok S n e){a b:Nat}(g:Go.Sort.PermIn a b e f)(o:b<=n):Ok S n f:=by have p:=h.1;refine⟨by rw[g.1];exact h.1,λk hk=>?_⟩;by_cases c:k<a\/b<=k;{rw[g.2.1 k c];exact h.2 k hk};exact Go.Sort.permIn_all e f a b S qa g (λi h1 m=>h.2 i qa) k qa qa
theorem e7 (b:dW S cmp lt)(hl:lo+n<=AA l){e:Array α}(a:Ok S n e){i j:Nat}(c:i<n)(f:j<n):∃z,cmp ((W l lo e).getD (lo+i) qt) ((W l lo e).getD (lo+j) qt)=AB z/\qu (z<0)=lt e[i]! e[j]!:=by have g:=a.1;rw[tB qa qa,tB qa qa];exact b _ _ (a.2 i c) (a.2 j f)
theorem Ug (a:Nat):∀ (j:Nat) (e:Array α),Ok S n e->j<n->Ok S n (insInner lt a j e)
 |0,_,h,_=>h
 |j+1,e,h,b=>by
  unfold insInner;split;{exact Ug a j _ (h.swp b qa) qa};exact h
theorem ail (H:dW S cmp lt)(hl:lo+n<=AA l)(X:n<=1000000)(d:Array α)(C:Ok S n d)(a b:Nat)(R:a<=n)(U:b<=n):
 lX cmp (W l lo d) lo n (a:Int) (b:Int)=AB (W l lo (insertionSort lt d a b)):=by
 have hd:=C.1;simp only[lX,Azj,qj,dm_o];unfold insertionSort;rw[wn qa];refine fV (λm (y:List α×Int)=>∃ (i:Nat) (e:Array α),y.1=W l lo e/\y.2=(i:Int)/\Ok S n e/\b<=i+m/\insOuter lt a b i e=insOuter lt a b (a+1) d) b ⟨a+1,d,rfl,rfl,C,qa,rfl⟩ qa ?_;rintro m ⟨Y,y⟩ ⟨i,e,r,D,B,J,f⟩;have V:=B.1;simp only at r D⊢;subst r;subst D;rw[insOuter]at f;by_cases o:i<b
 ·rw[qc o]at f;rw[ah qa,wn qa];refine .inl ⟨(W l lo (insInner lt a i e),((i+1:Nat):Int)),m-1,?_,qa,i+1,_,rfl,rfl,?_,qa,f⟩
  ·refine fV (λm (y:List α×Int)=>∃ (j:Nat) (g:Array α),y.1=W l lo g/\y.2=(j:Int)/\Ok S n g/\j<n/\j<=m/\insInner lt a j g=insInner lt a i e) i ⟨i,e,rfl,rfl,B,qa,wg _,rfl⟩ qa ?_;rintro m ⟨Z,y2⟩ ⟨j,g,t,A,k,M,L,c⟩;have I:=k.1;simp only at t A⊢;subst t;subst A;have Q:=ev (l:=l) (lo:=lo) (d:=g) qa;cases j with
   |zero=>
    rw[insInner]at c;rw[ai qa,ag];exact .inr (.inl ⟨_,rfl,by rw[c]⟩)
   |succ j=>
    rw[insInner]at c;by_cases p:j+1>a
    ·obtain⟨z,N,O⟩:=e7 H hl k (i:=(j+1)) (j:=j) qa qa;rw[ah qa,Gl qa];simp only[qE];rw[ab qa,ab qa,ab qa,ab qa,N];simp only[qH,ag,O];cases w:lt g[j+1]! g[j]! with
     |false=>
      rw[w,Bool.and_false]at c;exact .inr (.inl ⟨_,rfl,by rw[<-c];rfl⟩)
     |true=>
      rw[w,qg p]at c;simp only[qe];rw[ab qa,ab qa,ab qa,ab qa,ab qa,ab qa,ab qa,ab (by rw[wc];omega)];refine .inl ⟨_,j,rfl,qa,j,swp g (j+1) j,?_,rfl,k.swp qa qa,qa,wg _,c⟩;exact ex qa qa qa
    rw[ai qa,ag];rw[qh p]at c;exact .inr (.inl ⟨_,rfl,by rw[<-c];rfl⟩)
  exact Ug a i e B qa
 rw[qb o]at f;rw[ai qa];exact .inr (.inl ⟨_,rfl,by rw[f]⟩)
end
open Go.Sort (swp siftDown heapBuild heapPop heapSort)
theorem s9 {τ R:Type}{A:Option (aA Unit τ R)}{k:τ->Option R}{y:τ}(h:A=AB (.out y)):andC A k=k y:=by rw[h];rfl
section
variable {α:Type} [Inhabited α] {l:List α} {lo n:Nat} {cmp:α->α->Option Int} {lt:α->α->Bool} {S:α->Prop}
theorem Tt {a first:Nat}(e:first+a<=n)(root:Nat)(d:Array α)(h:Ok S n d):Ok S n (siftDown lt a first root d):=by
 suffices c:∀ (k root:Nat) (d:Array α),a-root<=k->Ok S n d->Ok S n (siftDown lt a first root d)from c _ root d (wg _) h
 intro k;induction k with
 |zero=>intro root d h hd;rw[siftDown,dif_pos qa];exact hd
 |succ k b=>
  intro root d h hd;rw[siftDown];split;{exact hd};split
  ·split;{exact hd};split;{exact b _ _ qa (hd.swp qa qa)};exact hd
  split;{exact hd};exact b _ _ qa (hd.swp qa qa)
theorem Tf (B:dW S cmp lt)(hl:lo+n<=AA l)(hn:n<=1000000)(d:Array α)(A:Ok S n d)(root b first:Nat)(Y:first+b<=n)(R:root<=1000000):
 mn cmp (W l lo d) lo n (root:Int) (b:Int) (first:Int)=AB (W l lo (siftDown lt b first root d)):=by
 have hd:=A.1;simp only[mn,Azn,qj,dm_o];refine fV (λm (y:List α×Int)=>∃ (r:Nat) (e:Array α),y.1=W l lo e/\y.2=(r:Int)/\Ok S n e/\r<=1000000/\b<=r+m/\siftDown lt b first r e=siftDown lt b first root d) b ⟨root,d,rfl,rfl,A,R,qa,rfl⟩ qa ?_;rintro m ⟨l1,y⟩ ⟨r,e,o,C,p,U,Z,a⟩;have X:=p.1;simp only at o C⊢;subst o;subst C;have V:=ev (l:=l) (lo:=lo) (d:=e) qa;have D:AG qs (2 * (r:Int))=((2 * r:Nat):Int):=by rw[w64 qa qa];omega
 have H:AG qs (((2 * r:Nat):Int)+1)=((2 * r+1:Nat):Int):=wn qa;simp only[D,H];rw[siftDown]at a;by_cases h1:2 * r+1>=b;{rw[dif_pos h1]at a;rw[ah qa];exact .inr (.inl ⟨_,rfl,by rw[a]⟩)};rw[dif_neg h1]at a;have I:AG qs (((2 * r+1:Nat):Int)+1)=((2 * r+2:Nat):Int):=wn qa;have J:AG qs ((first:Int)+((2 * r+1:Nat):Int))=((first+(2 * r+1):Nat):Int):=by rw[w64 qa qa];omega
 have L:AG qs (((first+(2 * r+1):Nat):Int)+1)=((first+(2 * r+1)+1:Nat):Int):=wn qa;have M:AG qs ((first:Int)+(r:Int))=((first+r:Nat):Int):=by rw[w64 qa qa];omega
 simp only[I,J,L,M,qE];rw[ai qa];obtain⟨c,g,O,Q,a⟩:∃c:Nat,c=(if 2 * r+2<b/\lt e[first+(2 * r+1)]! e[first+(2 * r+1)+1]! =AD then 2 * r+2 else 2 * r+1)/\c<b/\r<c/\(if(!lt e[first+r]! e[first+c]!)=AD then e else siftDown lt b first c (swp e (first+r) (first+c)))=siftDown lt b first root d:=by
  by_cases k:2 * r+1+1<b/\lt e[first+(2 * r+1)]! e[first+(2 * r+1)+1]! =AD
  ·rw[qc (by simp only[ql,qf];exact k)]at a;refine⟨2 * r+2,by rw[qc ⟨qa,k.2⟩],qa,qa,?_⟩;rw[<-a];split;{rfl};rw[dif_pos qa]
  rw[qb (by simp only[ql,qf];exact k)]at a;exact⟨2 * r+1,by rw[qb (λh=>k ⟨qa,h.2⟩)],qa,qa,a⟩
 rw[s9 (y:=(c:Int)) (by
  by_cases k:2 * r+2<b
  ·obtain⟨z,t,w⟩:=e7 B hl p (i:=(first+(2 * r+1))) (j:=(first+(2 * r+1)+1)) qa qa;rw[ah qa,ab qa,ab qa,ab qa,ab qa,t];simp only[qH,ag,w];cases f:lt e[first+(2 * r+1)]! e[first+(2 * r+1)+1]! with
   |true=>rw[g,qc ⟨k,f⟩];rfl
   |false=>rw[g,qb (λh=>by rw[f]at h;cases h.2)];rfl
  rw[ai qa,ag,g,qb (λh=>k h.1)];rfl)]
 clear g;have N:AG qs ((first:Int)+(c:Int))=((first+c:Nat):Int):=by rw[w64 qa qa];omega
 simp only[N,qE];obtain⟨z,t,w⟩:=e7 B hl p (i:=(first+r)) (j:=(first+c)) qa qa;rw[ab qa,ab qa,ab qa,ab qa,t];simp only[qH,w];cases f:lt e[first+r]! e[first+c]! with
 |false=>
  rw[f]at a;exact .inr (.inr (by rw[<-a];rfl))
 |true=>
  rw[f]at a;simp only[qI,qd];rw[ab qa,ab qa,ab qa,ab qa,ab qa,ab qa,ab qa,ab (by rw[wc];omega)];exact .inl ⟨_,b-c,rfl,qa,c,_,ex qa qa qa,rfl,p.swp qa qa,qa,qa,a⟩
theorem agX (D:dW S cmp lt)(hl:lo+n<=AA l)(H:n<=1000000)(d:Array α)(C:Ok S n d)(a b:Nat)(N:a<=b)(R:b<=n):
 ml cmp (W l lo d) lo n (a:Int) (b:Int)=AB (W l lo (heapSort lt d a b)):=by
 have hd:=C.1;simp only[ml,Azi,qj,dm_o];unfold heapSort;have I:AG qs ((b:Int)- (a:Int))=((b-a:Nat):Int):=by rw[w64 qa qa];omega
 have J:AG qs (((b-a:Nat):Int)-1)=((b-a:Nat):Int)-1:=w64 qa qa;have L:AG qs ((((b-a:Nat):Int)-1).tdiv 2)=(((b-a-1) / 2+1:Nat):Int)-1:=by
  by_cases h:b-a=0;{rw[h];decide};rw[xT qa,w64 qa qa];omega
 simp only[I,J,L];refine fV (λm (y:List α×Int)=>∃ (k:Nat) (e:Array α),y.1=W l lo e/\y.2=(k:Int)-1/\Ok S n e/\k<=m/\k<=n+1/\heapBuild lt (b-a) a k e=heapBuild lt (b-a) a ((b-a-1) / 2+1) d) ((b-a-1) / 2+1) ⟨_,d,rfl,rfl,C,wg _,qa,rfl⟩ qa ?_;rintro m ⟨V,y⟩ ⟨k,e,p,t,w,A,B,f⟩;have U:=w.1;simp only at p t⊢;subst p;subst t;cases k with
 |succ k=>
  rw[heapBuild]at f;have z:((k+1:Nat):Int)-1=(k:Int):=qa;rw[z,ah qa,Tf D hl H e w k (b-a) a qa qa];simp only[qH];exact .inl ⟨_,k,rfl,qa,k,_,rfl,w64 qa qa,Tt qa _ _ w,wg _,qa,f⟩
 |zero=>
  rw[heapBuild]at f;rw[ai qa];refine .inr (.inl ⟨_,rfl,?_⟩);rw[<-f];refine fV (λm (y:List α×Int)=>∃ (k:Nat) (o:Array α),y.1=W l lo o/\y.2=(k:Int)-1/\Ok S n o/\k<=m/\k<=b-a/\heapPop lt a k o=heapPop lt a (b-a) e) (b-a) ⟨_,e,rfl,rfl,w,wg _,wg _,rfl⟩ qa ?_;rintro m ⟨X,y⟩ ⟨k,o,r,t,g,A,B,c⟩;have O:=g.1;simp only at r t⊢;subst r;subst t;have Q:=ev (l:=l) (lo:=lo) (d:=o) qa;cases k with
  |succ k=>
   rw[heapPop]at c;have z:((k+1:Nat):Int)-1=(k:Int):=qa;have M:AG qs ((a:Int)+(k:Int))=((a+k:Nat):Int):=by rw[w64 qa qa];omega
   simp only[z,M,qE];have h0:(0:Int)=((0:Nat):Int):=rfl;rw[ah qa,ab qa,ab qa,ab qa,ab qa,ab qa,ab qa,ab qa,ab (by rw[wc];omega),ex qa qa qa];rw[h0,Tf D hl H (swp o a (a+k)) (g.swp qa qa) 0 k a qa qa];simp only[qH];exact .inl ⟨_,k,rfl,qa,k,_,rfl,w64 qa qa,Tt qa _ _ (g.swp qa qa),wg _,qa,c⟩
  |zero=>
   rw[heapPop]at c;rw[ai qa];exact .inr (.inl ⟨_,rfl,by rw[c]⟩)
end
open Go.Sort (swp order2 median medianAdjacent choosePivot reverseLoop reverseRange)
section
variable {α:Type} [Inhabited α] {l:List α} {lo n:Nat} {cmp:α->α->Option Int} {lt:α->α->Bool} {S:α->Prop}
abbrev c3 (r:Nat×Nat×Nat):Int×Int×Int:=(((r.1:Nat):Int),((r.2.1:Nat):Int),((r.2.2:Nat):Int))
abbrev c2 (r:Nat×Nat):Int×Int:=(((r.1:Nat):Int),((r.2:Nat):Int))
theorem n6 (d:Array α){a b:Nat}(s:Nat)(c:a<n)(e:b<n):(order2 lt d a b s).1<n/\(order2 lt d a b s).2.1<n/\(order2 lt d a b s).2.2<=s+1:=by unfold order2;split<;>exact⟨by assumption,by assumption,jV⟩
theorem DO (e:dW S cmp lt)(hl:lo+n<=AA l)(d:Array α)(c:Ok S n d)(a b s:Nat)(o:a<n)(p:b<n)(f:s<4294967296):
 lm cmp (W l lo d) lo n (a:Int) (b:Int) (s:Int)=AB (c3 (order2 lt d a b s)):=by
 have hd:=c.1;have m:=ev (l:=l) (lo:=lo) (d:=d) qa;obtain⟨z,g,k⟩:=e7 e hl c (i:=b) (j:=a) qa qa;simp only[lm,Yz4,qj,dm_o];unfold order2;simp only[qE];rw[ab qa,ab qa,ab qa,ab qa,g];simp only[qH,k];cases lt d[b]! d[a]! with
 |true=>rw[wn f];rfl
 |false=>rfl
theorem DX (d:Array α){a b c:Nat}(s:Nat)(e:a<n)(f:b<n)(g:c<n):(median lt d a b c s).1<n/\(median lt d a b c s).2<=s+3:=by unfold median;obtain⟨k,m,r⟩:=n6 (lt:=lt) d s e f;obtain⟨o,t,w⟩:=n6 (lt:=lt) d (order2 lt d a b s).2.2 m g;obtain⟨z,p,r3⟩:=n6 (lt:=lt) d (order2 lt d (order2 lt d a b s).2.1 c (order2 lt d a b s).2.2).2.2 k o;exact⟨p,j8⟩
theorem DN (g:dW S cmp lt)(hl:lo+n<=AA l)(d:Array α)(f:Ok S n d)(a b c s:Nat)(k:a<n)(m:b<n)(e:c<n)(t:s<4000000000):
 iQ cmp (W l lo d) lo n (a:Int) (b:Int) (c:Int) (s:Int)=AB (c2 (median lt d a b c s)):=by
 have hd:=f.1;simp only[iQ,Yz3,qj,dm_o];unfold median;obtain⟨p,o,w⟩:=n6 (lt:=lt) d s k m;obtain⟨r,z,A⟩:=n6 (lt:=lt) d (order2 lt d a b s).2.2 o e;rw[DO g hl d f a b s k m qa];simp only[qH];rw[DO g hl d f _ c _ o e qa];simp only[qH];rw[DO g hl d f _ _ _ p r qa];rfl
theorem DM (f:dW S cmp lt)(hl:lo+n<=AA l)(k:n<=1000000)(d:Array α)(b:Ok S n d)(a s:Nat)(c:1<=a)(e:a+1<n)(g:s<4000000000):
 lQ cmp (W l lo d) lo n (a:Int) (s:Int)=AB (c2 (medianAdjacent lt d a s)):=by
 have hd:=b.1;simp only[lQ,Azk,qj,dm_o];unfold medianAdjacent;rw[wprd c qa,wn qa,DN f hl d b _ _ _ _ qa qa e g];rfl
def tI:Go.Sort.Hint->Int
 | .unknown=>0
 | .increasing=>1
 | .decreasing=>2
theorem adf (g:dW S cmp lt)(hl:lo+n<=AA l)(k:n<=1000000)(d:Array α)(e:Ok S n d)(a b:Nat)(Y:a<b)(Z:b<=n):
 l8 cmp (W l lo d) lo n (a:Int) (b:Int)=AB (((choosePivot lt d a b).1:Int),tI (choosePivot lt d a b).2):=by
 have hd:=e.1;simp only[l8,Azh,qj,dm_o];unfold choosePivot;have z:AG qs ((b:Int)- (a:Int))=((b-a:Nat):Int):=by rw[w64 qa qa];omega
 have D:AG qs ((((b-a:Nat):Int)).tdiv 4)=(((b-a) / 4:Nat):Int):=by
  rw[xT qa,w64 qa qa];omega
 have H:AG qs ((((b-a) / 4:Nat):Int) * 1)=(((b-a) / 4 * 1:Nat):Int):=by rw[w64 qa qa];omega
 have I:AG qs ((((b-a) / 4:Nat):Int) * 2)=(((b-a) / 4 * 2:Nat):Int):=by rw[w64 qa qa];omega
 have J:AG qs ((((b-a) / 4:Nat):Int) * 3)=(((b-a) / 4 * 3:Nat):Int):=by rw[w64 qa qa];omega
 have L:AG qs ((a:Int)+(((b-a) / 4 * 1:Nat):Int))=((a+(b-a) / 4 * 1:Nat):Int):=by rw[w64 qa qa];omega
 have M:AG qs ((a:Int)+(((b-a) / 4 * 2:Nat):Int))=((a+(b-a) / 4 * 2:Nat):Int):=by rw[w64 qa qa];omega
 have N:AG qs ((a:Int)+(((b-a) / 4 * 3:Nat):Int))=((a+(b-a) / 4 * 3:Nat):Int):=by rw[w64 qa qa];omega
 have h0:(0:Int)=((0:Nat):Int):=rfl;simp only[z,D,H,I,J,L,M,N];suffices h:∀r:Nat×Nat,(bif ((r.2:Nat):Int)==0 then AB (((r.1:Nat):Int),(1:Int))else bif ((r.2:Nat):Int)==12 then AB (((r.1:Nat):Int),2)else AB (((r.1:Nat):Int),0))=AB (((r.1:Nat):Int),tI (if r.2=0 then .increasing else if r.2=12 then .decreasing else .unknown)) by
  by_cases o:b-a>=8
  ·rw[ah qa,qc o];by_cases f:b-a>=50
   ·rw[ah qa,qc f];obtain⟨p,U⟩:=DX (lt:=lt) (n:=n) d (a:=a+(b-a) / 4 * 1-1) (b:=a+(b-a) / 4 * 1) (c:=a+(b-a) / 4 * 1+1) 0 qa qa qa;have O:=DM g hl k d e (a+(b-a) / 4 * 1) 0 qa qa qa;change (medianAdjacent lt d (a+(b-a) / 4 * 1) 0).1<n at p;change (medianAdjacent lt d (a+(b-a) / 4 * 1) 0).2<=0+3 at U;rw[h0,O];simp only[qH];generalize medianAdjacent lt d (a+(b-a) / 4 * 1) 0=A at *
    obtain⟨t,V⟩:=DX (lt:=lt) (n:=n) d (a:=a+(b-a) / 4 * 2-1) (b:=a+(b-a) / 4 * 2) (c:=a+(b-a) / 4 * 2+1) A.2 qa qa qa;have Q:=DM g hl k d e (a+(b-a) / 4 * 2) A.2 qa qa qa;change (medianAdjacent lt d (a+(b-a) / 4 * 2) A.2).1<n at t;change (medianAdjacent lt d (a+(b-a) / 4 * 2) A.2).2<=A.2+3 at V;rw[Q];simp only[qH];generalize medianAdjacent lt d (a+(b-a) / 4 * 2) A.2=B at *
    obtain⟨w,X⟩:=DX (lt:=lt) (n:=n) d (a:=a+(b-a) / 4 * 3-1) (b:=a+(b-a) / 4 * 3) (c:=a+(b-a) / 4 * 3+1) B.2 qa qa qa;have R:=DM g hl k d e (a+(b-a) / 4 * 3) B.2 qa qa qa;change (medianAdjacent lt d (a+(b-a) / 4 * 3) B.2).1<n at w;change (medianAdjacent lt d (a+(b-a) / 4 * 3) B.2).2<=B.2+3 at X;rw[R];simp only[qH,ag];generalize medianAdjacent lt d (a+(b-a) / 4 * 3) B.2=C at *
    rw[DN g hl d e _ _ _ _ p t w qa];simp only[qH,ag];exact h _
   rw[ai qa,qb f,ag];simp only;rw[h0,DN g hl d e _ _ _ _ qa qa qa qa];simp only[qH,ag];exact h _
  rw[ai qa,qb o,ag];exact h (_,0)
 intro r;by_cases m:r.2=0;{rw[cN qa,qc m];rfl};rw[cr qa,qb m];by_cases c2:r.2=12;{rw[cN qa,qc c2];rfl};rw[cr qa,qb c2];rfl
theorem acp (hl:lo+n<=AA l)(H:n<=1000000)(d:Array α)(p:Ok S n d)(a b:Nat)(w:a<b)(z:b<=n):
 l4 cmp (W l lo d) lo n (a:Int) (b:Int)=AB (W l lo (reverseRange d a b)):=by
 have hd:=p.1;simp only[l4,mu,qj];unfold reverseRange;rw[wprd qa qa];refine fV (λm (y:List α×Int×Int)=>∃ (i j:Nat) (e:Array α),y.1=W l lo e/\y.2.1=(i:Int)/\y.2.2=(j:Int)/\Ok S n e/\i<=n/\j<n/\j<=i+m/\reverseLoop i j e=reverseLoop a (b-1) d) b ⟨a,b-1,d,rfl,rfl,rfl,p,qa,qa,qa,rfl⟩ qa ?_;rintro m ⟨I,J,L⟩ ⟨i,j,e,g,k,o,r,B,C,D,c⟩;have A:=r.1;simp only at g k o⊢;subst g;subst k;subst o;have t:=ev (l:=l) (lo:=lo) (d:=e) qa;rw[reverseLoop]at c;by_cases f:i<j;{rw[qc f]at c;simp only[qE];rw[ah qa,ab qa,ab qa,ab qa,ab qa,ab qa,ab qa,ab qa,ab (by rw[wc];omega),ex qa qa qa,wn qa,wprd qa qa];exact .inl ⟨_,m-2,rfl,qa,i+1,j-1,_,rfl,rfl,rfl,r.swp qa qa,qa,qa,qa,c⟩};rw[qb f]at c;rw[ai qa];exact .inr (.inl ⟨_,rfl,by rw[c]⟩)
end
end Go.Abs
