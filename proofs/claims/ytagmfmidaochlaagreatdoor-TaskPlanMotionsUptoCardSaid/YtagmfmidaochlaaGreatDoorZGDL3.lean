import Derived.Test.YtagmfmidaochlaaGreatDoorZGDL2
import Derived.Test.YtagmfmidaochlaaGreatDoorZGD4
import Derived.Test.YtagmfmidaochlaaGreatDoorZGPLib
import Derived.Test.YtagmfmidaochlaaGreatDoorZGDL1
open Bool renaming true->AD,false->AE
open Go.IntKind renaming wrap->AG
open List renaming length->AA,getD->AF
open Option renaming some->AB,none->AC
open Bool renaming eq_iff_iff->qP,and_self->qL,true_and->qK,not_true->qH,not_false->wI,or_eq_true->qW,false_eq_true->xw
open Decidable renaming decide->qu
open Go.IntKind renaming i64->qs
open Inhabited renaming default->qt
open Int renaming toNat_natCast->qD,tdiv_eq_ediv_of_nonneg->xi,pow_succ->wo,pow_zero->xj,tdiv_one->xk,one_mul->xl,le_refl->wM,le_trans->xx,mul_le_mul_of_nonneg_left->qC
open List renaming findIdx?_eq_none_iff->wZ,length_set->qZ,length_cons->qw,length_nil->qy,length_singleton->wW,length_replicate->wg,findIdx?_eq_some_iff_getElem->w6,getD_eq_getElem?_getD->qY,foldl_append->wP,length_append->wV,map_append->w7,map_cons->w8,length_take->w9,mem_append->wC,getElem?_eq_getElem->xa,pairwise_iff_getElem->xc,prefix_rfl->xd,all_append->xe,all_cons->xf,all_nil->xg,map_nil->xh,replicate->qr,take_add_one->xm,append_nil->xo,take_length->wS,append_assoc->wH,drop_eq_nil_of_le->wF,nil_append->xp,getElem_of_mem->wh,getElem?_set->xq,ext_getElem->xr
open Nat renaming le_refl->we,pow_le_pow_right->qT,strongRecOn->xu
open Option renaming bind_some->qG,getD_some->xb
open Go.Abs.T renaming run->qj
noncomputable section
namespace Go.Abs
open Go.Proofs
theorem aai (a:(List (Int×Int×Int)))(b:(Int×Int×Int)):(yR a b).o=(yS a b).run NN:=rfl
theorem abN (a:Ar):(nT a).o=(DN a).run NN:=rfl
theorem Z3 (a:Ar):(lU a).o=(q0 a).run NN:=rfl
def num (l:List V3)(n:V3):Int:=
 match l.findIdx? (·==n)with
 |some i=>i
 |none=> -1
theorem HJ (a b:V3):((a.1==b.1)&&((a.2.1==b.2.1)&&((a.2.2==b.2.2)&&AD)))=(a==b):=by obtain⟨e,f,g⟩:=a;obtain⟨h,i,j⟩:=b;rw[qP];simp
theorem aeT (l:List V3)(n:V3)(h:AA l<NN)(p:AA l<1000000000000):(yR l n).o=AB (num l n):=by
 simp only[aai,yS,qj];unfold num;cases a:l.findIdx? (·==n)with
 |none=>
  rw[wZ]at a;refine fa (y:=.u) (mJ (λi=>(i:Int)) rfl (AA l) qa (λi b=>?_) ?_)
  ·have:=a _ (aF b);try dsimp only
   (rw[ai qa];(repeat(first|rw[an qa]|rw[an (by simp only[qZ];omega)]|rw[an (by simp only[qw,qy,au];omega)]|rw[an (by simp only[wW,qZ,wg,au,and_true];omega)]));rw[HJ,qD,cT this,w64n qa])
  try dsimp only
  rw[aj qa]
 |some k=>
  rw[w6]at a;obtain⟨j,f,g⟩:=a;refine FZ (agp (λi=>(i:Int)) rfl k qa (λi b=>?_) ?_)
  ·have e:i<AA l:=qa;have:=g i b;try dsimp only
   (rw[ai qa];(repeat(first|rw[an qa]|rw[an (by simp only[qZ];omega)]|rw[an (by simp only[qw,qy,au];omega)]|rw[an (by simp only[wW,qZ,wg,au,and_true];omega)]));rw[HJ,qD,cT (by simpa[qY,e]using this),w64n qa])
  try dsimp only
  (rw[ai qa];(repeat(first|rw[an qa]|rw[an (by simp only[qZ];omega)]|rw[an (by simp only[qw,qy,au];omega)]|rw[an (by simp only[wW,qZ,wg,au,and_true];omega)]));rw[HJ,qD,c6 (by simpa[qY,j]using f)])
theorem num_neg {l:List V3}{n:V3}:num l n<0↔n∉l:=by
 unfold num;cases a:l.findIdx? (·==n)with
 |none=>
  rw[wZ]at a;simp only[show(-1:Int)<0 from qa,true_iff];intro f;simpa using a n f
 |some k=>
  rw[w6]at a;obtain⟨e,b,_⟩:=a;have:n∈l:=by have:=List.getElem_mem e;rw[show l[k]=n by simpa using b]at this;exact this
  simp only[this,not_true,iff_false];omega
def addN (t:List V3)(n:V3):List V3×Int:=if n∈t then(t,num t n)else(t++[n],AA t)
def bQ (t b:List V3):List V3×A7:=b.foldl (λa n=>((addN a.1 n).1,a.2++[(addN a.1 n).2])) (t,[])
def ni (a:List V3×Az)(p:aE):List V3×Az:=((bQ a.1 p.Xf).1,a.2++[⟨p.Xg,p.Xj,(bQ a.1 p.Xf).2⟩])
def bG (l:Ar):List V3×Az:=l.foldl ni ([],[])
theorem nW (t a:List V3)(n:V3):bQ t (a++[n])=((addN (bQ t a).1 n).1,(bQ t a).2++[(addN (bQ t a).1 n).2]):=by simp[bQ,wP]
theorem n6 (l:Ar)(p:aE):bG (l++[p])=ni (bG l) p:=by simp[bG,wP]
theorem afy (t:List V3)(n:V3):AA t<=(addN t n).1.length/\(addN t n).1.length<=AA t+1:=by unfold addN;split<;>simp
theorem E2 (t ns:List V3):AA t<=(bQ t ns).1.length/\(bQ t ns).1.length<=AA t+AA ns/\(bQ t ns).2.length=AA ns:=by
 have key:∀k,k<=AA ns->AA t<=(bQ t (ns.take k)).1.length/\(bQ t (ns.take k)).1.length<=AA t+k/\(bQ t (ns.take k)).2.length=k:=by
  intro k;induction k with
  |zero=>intro _;simp[bQ]
  |succ k a=>
   intro e;rw[cS qa,nW];have h1:=a qa;have b:=afy (bQ t (ns.take k)).1 (AF ns k qt);simp only[wV,qw,qy];omega
 have:=key (AA ns) (we _);rwa[fb (we _)]at this
def dg (l:Ar):Nat:=(l.map (λp=>AA p.Xf)).sum
theorem Rx (l:Ar)(p:aE):dg (l++[p])=dg l+AA p.Xf:=by simp[dg]
theorem ae4 (l:Ar)(k:Nat):dg (l.take k)<=dg l:=by
 conv=>rhs;rw[<-List.take_append_drop k l]
 simp only[dg,w7,List.sum_append];omega
theorem FI (l:Ar):(bG l).1.length<=dg l/\(bG l).2.length=AA l:=by
 have key:∀k,k<=AA l->(bG (l.take k)).1.length<=dg (l.take k)/\(bG (l.take k)).2.length=k:=by
  intro k;induction k with
  |zero=>intro _;simp[bG,dg]
  |succ k a=>
   intro e;rw[cS qa,n6,Rx];have h1:=a qa;have b:=E2 (bG (l.take k)).1 (AF l k qt).Xf;simp only[ni,wV,qw,qy];omega
 have:=key (AA l) (we _);rwa[fb (we _)]at this
theorem aeN {l:Ar}{p:aE}(h:p∈l):AA p.Xf<=dg l:=by
 induction l with
 |nil=>cases h
 |cons a l b=>
  simp only[dg,w8,List.sum_cons];rcases List.mem_cons.1 h with rfl|h
  {omega};have:=b h;simp only[dg]at this;omega
variable {k:Nat}
theorem O5(l:Ar)(h:k<AA l):dg (l.take k)+(AF l k qt).Xf.length<=dg l:=by have:=ae4 l (k+1);rw[cS h,Rx]at this;exact this
theorem Tn (l:Ar)(h1:AA l<NN)(z:dg l<NN)(A:AA l<1000000000)(B:dg l<1000000000):(nT l).o=AB ⟨(bG l).1,(bG l).2⟩:=by
 simp only[abN,DN,qj];refine fa (y:=((bG l).1,(bG l).2)) (mJ (λi=>((bG (l.take i)).1,(bG (l.take i)).2,(i:Int))) rfl (AA l) h1 (λi b=>?_) ?_)
 ·dsimp only;have j:=FI (l.take i);have x:=O5 l b;have e:AA (l.take i)=i:=by rw[w9];omega
  (rw[ai qa];(repeat(first|rw[an qa]|rw[an (by simp only[qZ];omega)]|rw[an (by simp only[qw,qy,au];omega)]|rw[an (by simp only[wW,qZ,wg,au,and_true];omega)]));rw[qD])
  rw[cS b,n6];generalize AF l i qt=p at *
  generalize bG (l.take i)=q at *
  rw[show ni q p=((bQ q.1 p.Xf).1,q.2++[⟨p.Xg,p.Xj,(bQ q.1 p.Xf).2⟩])from rfl];refine(fa (y:=bQ q.1 p.Xf) (mJ (λk=>((bQ q.1 (p.Xf.take k)).1,(bQ q.1 (p.Xf.take k)).2,(k:Int))) rfl (AA p.Xf) qa (λk f=>?_) ?_)).trans ?_
  ·have w:=E2 q.1 (p.Xf.take k);have g:AA (p.Xf.take k)=k:=by rw[w9];omega
   dsimp only
   ((repeat(first|rw[an qa]|rw[an (by simp only[qZ];omega)]|rw[an (by simp only[qw,qy,au];omega)]|rw[an (by simp only[wW,qZ,wg,au,and_true];omega)]));rw[ai qa];(repeat(first|rw[an qa]|rw[an (by simp only[qZ];omega)]|rw[an (by simp only[qw,qy,au];omega)]|rw[an (by simp only[wW,qZ,wg,au,and_true];omega)]));rw[qD,aeT _ _ qa qa,qG])
   rw[cS f,nW];generalize bQ q.1 (p.Xf.take k)=r at *
   generalize AF p.Xf k qt=n at *
   by_cases a:n∈r.1
   ·have:¬num r.1 n<0:=λh=>num_neg.1 h a
    (rw[aj this,ah];(repeat(first|rw[an qa]|rw[an (by simp only[];omega)]|rw[an (by simp only[qw,qy,au];omega)]|rw[an (by simp only[wW,qZ,wg,au,and_true];omega)]|rw[an (by simp only[au];omega)]));rw[w64n qa])
    simp only[addN,a,if_true]
   have:num r.1 n<0:=num_neg.2 a
   (rw[ai this];(repeat(first|rw[an qa]|rw[an (by simp only[qZ];omega)]|rw[an (by simp only[qw,qy,au];omega)]|rw[an (by simp only[wW,qZ,wg,au,and_true];omega)]|rw[an (by simp only[au];omega)]));rw[ah];(repeat(first|rw[an qa]|rw[an (by simp only[];omega)]|rw[an (by simp only[qw,qy,au];omega)]|rw[an (by simp only[wW,qZ,wg,au,and_true];omega)]|rw[an (by simp only[au];omega)]));rw[w64n qa])
   simp only[addN,a,if_false]
  ·dsimp only
   ((repeat(first|rw[an qa]|rw[an (by simp only[qZ];omega)]|rw[an (by simp only[qw,qy,au];omega)]|rw[an (by simp only[wW,qZ,wg,au,and_true];omega)]));rw[aj qa,fb (we _)])
  dsimp only
  ((repeat(first|rw[an qa]|rw[an (by simp only[qZ];omega)]|rw[an (by simp only[qw,qy,au];omega)]|rw[an (by simp only[wW,qZ,wg,au,and_true];omega)]|rw[an (by simp only[au];omega)]));rw[w64n qa])
 dsimp only;rw[aj qa,fb (we _)]
def fK (t:List V3):List (V3×Int):=(t.zipIdx.map (λx=>(x.1,(x.2:Int)))).reverse
theorem EZ (t:List V3)(n:V3):fK (t++[n])=(n,(AA t:Int))::fK t:=by simp[fK,List.zipIdx_append]
theorem S1 (a b:V3):cQ (dq a) (dq b)=(a==b):=by obtain⟨e,f,g⟩:=a;obtain⟨h,i,j⟩:=b;simp only[cQ,dq,cH,if_true,Option.map_some];rw[qP];simp
theorem adD (t:List V3)(n:V3):mdom dq (fK t) (dq n)=qu (n∈t):=by
 have key:∀k,k<=AA t->mdom dq (fK (t.take k)) (dq n)=qu (n∈t.take k):=by
  intro k;induction k with
  |zero=>intro _;simp[fK,mdom]
  |succ k a=>
   intro b;rw[cS qa,EZ];simp only[mdom,S1,a qa];rw[qP];simp[wC];exact Or.comm
 have:=key (AA t) (we _);rwa[fb (we _)]at this
theorem ajp{t:List V3}(g:t.Nodup)(a:k<AA t):num t (AF t k qt)=k:=by
 unfold num;have:t.findIdx? (·==AF t k qt)=AB k:=by
  rw[w6];refine⟨a,by simp[qY,a],λj f=>?_⟩;have b:j<AA t:=qa;simp only[qY,a,xa,xb,beq_iff_eq];intro e;exact(xc.1 g) j k b a f e
 rw[this]
theorem adF (t:List V3)(n:V3)(a:t.Nodup):mget dq (fK t) (dq n)=if n∈t then num t n else 0:=by
 have key:∀k,k<=AA t->mget dq (fK (t.take k)) (dq n)=if n∈t.take k then num t n else 0:=by
  intro k;induction k with
  |zero=>intro _;simp[fK,mget]
  |succ k b=>
   intro f;rw[cS qa,EZ];simp only[mget,S1,b qa];by_cases e:n=AF t k qt;{subst e;rw[qc jV,qc jV,ajp a qa,w9];congr 1;omega};rw[qb (by simpa using e)];congr 1;simp only[wC,List.mem_singleton,eq_iff_iff];exact⟨.inl,λh=>h.resolve_right e⟩
 have:=key (AA t) (we _);rwa[fb (we _)]at this
theorem ad7 {t:List V3}{n:V3}(h:t.Nodup):(addN t n).1.Nodup:=by unfold addN;split;{exact h};rename_i i;simp only[List.nodup_append,h,true_and];refine⟨jV,λa g b f=>?_⟩;simp at f;subst f;intro e;subst e;exact i g
theorem P6 {t ns:List V3}(h:t.Nodup):(bQ t ns).1.Nodup:=by
 have key:∀k,k<=AA ns->(bQ t (ns.take k)).1.Nodup:=by
  intro k;induction k with
  |zero=>intro _;simpa[bQ]using h
  |succ k a=>intro b;rw[cS qa,nW];exact ad7 (a qa)
 have:=key (AA ns) (we _);rwa[fb (we _)]at this
theorem acH (l:Ar):(bG l).1.Nodup:=by
 have key:∀k,k<=AA l->(bG (l.take k)).1.Nodup:=by
  intro k;induction k with
  |zero=>intro _;simp[bG]
  |succ k a=>intro b;rw[cS qa,n6];exact P6 (a qa)
 have:=key (AA l) (we _);rwa[fb (we _)]at this
theorem TV (l:Ar)(h1:AA l<NN)(A:dg l<NN)(B:AA l<1000000000)(D:dg l<1000000000):(lU l).o=AB ⟨(bG l).1,(bG l).2⟩:=by
 simp only[Z3,q0,qj];refine fa (y:=((bG l).1,(bG l).2)) (mJ (λi=>((bG (l.take i)).1,(bG (l.take i)).2,fK (bG (l.take i)).1,(i:Int))) rfl (AA l) h1 (λi f=>?_) ?_)
 ·dsimp only;have w:=FI (l.take i);have b:=acH (l.take i);have z:=O5 l f;have g:AA (l.take i)=i:=by rw[w9];omega
  (rw[ai qa];(repeat(first|rw[an qa]|rw[an (by simp only[qZ];omega)]|rw[an (by simp only[qw,qy,au];omega)]|rw[an (by simp only[wW,qZ,wg,au,and_true];omega)]));rw[qD])
  rw[cS f,n6];generalize AF l i qt=p at *
  generalize bG (l.take i)=q at *
  rw[show ni q p=((bQ q.1 p.Xf).1,q.2++[⟨p.Xg,p.Xj,(bQ q.1 p.Xf).2⟩])from rfl];refine(fa (y:=((bQ q.1 p.Xf).1,fK (bQ q.1 p.Xf).1,(bQ q.1 p.Xf).2)) (mJ (λk=>((bQ q.1 (p.Xf.take k)).1,fK (bQ q.1 (p.Xf.take k)).1,(bQ q.1 (p.Xf.take k)).2,(k:Int))) rfl (AA p.Xf) qa (λk h=>?_) ?_)).trans ?_
  ·have x:=E2 q.1 (p.Xf.take k);have j:AA (p.Xf.take k)=k:=by rw[w9];omega
   have e:=P6 (ns:=p.Xf.take k) b;dsimp only
   (rw[ai qa];(repeat(first|rw[an qa]|rw[an (by simp only[qZ];omega)]|rw[an (by simp only[qw,qy,au];omega)]|rw[an (by simp only[wW,qZ,wg,au,and_true];omega)]));rw[qD])
   rw[cS h,nW];generalize bQ q.1 (p.Xf.take k)=r at *
   generalize AF p.Xf k qt=n at *
   rw[adD,adF _ _ e];by_cases a:n∈r.1
   ·((repeat(first|rw[an qa]|rw[an (by simp only[qZ];omega)]|rw[an (by simp only[qw,qy,au];omega)]|rw[an (by simp only[wW,qZ,wg,au,and_true];omega)]|rw[an (by simp[a])]));rw[cT (by simp[a]),ah];(repeat(first|rw[an qa]|rw[an (by simp only[];omega)]|rw[an (by simp only[qw,qy,au];omega)]|rw[an (by simp only[wW,qZ,wg,au,and_true];omega)]|rw[an (by simp only[au];omega)]));rw[w64n qa])
    simp only[addN,a,if_true]
   ·((repeat(first|rw[an qa]|rw[an (by simp only[qZ];omega)]|rw[an (by simp only[qw,qy,au];omega)]|rw[an (by simp only[wW,qZ,wg,au,and_true];omega)]|rw[an (by simp[a])]));rw[c6 (by simp[a])];(repeat(first|rw[an qa]|rw[an (by simp only[qZ];omega)]|rw[an (by simp only[qw,qy,au];omega)]|rw[an (by simp only[wW,qZ,wg,au,and_true];omega)]|rw[an (by simp only[au];omega)]));rw[ah];(repeat(first|rw[an qa]|rw[an (by simp only[];omega)]|rw[an (by simp only[qw,qy,au];omega)]|rw[an (by simp only[wW,qZ,wg,au,and_true];omega)]|rw[an (by simp only[au];omega)]));rw[w64n qa])
    simp only[addN,a,if_false,EZ]
  {dsimp only;rw[aj qa,fb (we _)]};dsimp only
  ((repeat(first|rw[an qa]|rw[an (by simp only[qZ];omega)]|rw[an (by simp only[qw,qy,au];omega)]|rw[an (by simp only[wW,qZ,wg,au,and_true];omega)]|rw[an (by simp only[au];omega)]));rw[w64n qa])
 dsimp only;rw[aj qa,fb (we _)]
def okN (t:List V3)(j:Int):Bool:=qu (0<=j/\j<AA t)
def unN (t:List V3)(j:Int):V3:=AF t j.toNat qt
def unU (t:List V3)(u:ez):aE:=⟨u.Xg,u.Xj,u.XD.map (unN t)⟩
def ll (p:cl):Ar×Bool:=
 if p.XI.all (λu=>u.XD.all (okN p.XP))then(p.XI.map (unU p.XP),AD)else(nl,AE)
theorem rI{α β:Type}[Inhabited α]{f:α->β}{l:List α}(h:k<AA l):(l.take (k+1)).map f=(l.take k).map f++[f (AF l k qt)]:=by rw[cS h];simp
theorem Te{t T:List V3}(h:t<+:T)(a:k<AA t):AF T k qt=AF t k qt:=by obtain⟨s,rfl⟩:=h;rw[getD_left a]
theorem Su (t:List V3)(n:V3):t<+:(addN t n).1:=by unfold addN;split;{exact xd};exact List.prefix_append _ _
theorem aie {t:List V3}{n:V3}(h:n∈t):0<=num t n/\num t n<AA t/\AF t (num t n).toNat qt=n:=by
 unfold num;cases a:t.findIdx? (·==n)with
 |none=>
  rw[wZ]at a;have:=a n h;simp at this
 |some k=>
  rw[w6]at a;obtain⟨b,e,_⟩:=a;refine⟨jV,by simpa using b,?_⟩;simp only[qD,qY,xa b,xb];simpa using e
theorem aht {t T:List V3}{n:V3}(h:(addN t n).1<+:T):okN T (addN t n).2=AD/\unN T (addN t n).2=n:=by have hl:=h.length_le;unfold okN unN;by_cases a:n∈t;{simp only[addN,a,if_true]at h hl⊢;obtain⟨h1,e,b⟩:=aie a;refine⟨by simp only[qf];omega,?_⟩;rw[Te h qa,b]};simp only[addN,a,if_false]at h hl⊢;simp only[wV,qw,qy]at hl;refine⟨by simp only[qf];omega,?_⟩;rw[qD,Te h jV,getD_right (we _)];simp
theorem adK (t a:List V3):t<+:(bQ t a).1:=by
 have key:∀k,k<=AA a->t<+:(bQ t (a.take k)).1:=by
  intro k;induction k with
  |zero=>intro _;simp[bQ]
  |succ k b=>intro e;rw[cS qa,nW];exact(b qa).trans (Su _ _)
 have:=key (AA a) (we _);rwa[fb (we _)]at this
theorem aeX {t ns T:List V3}(h:(bQ t ns).1<+:T):(bQ t ns).2.all (okN T)=AD/\(bQ t ns).2.map (unN T)=ns:=by
 have key:∀k,k<=AA ns->(bQ t (ns.take k)).1<+:T->(bQ t (ns.take k)).2.all (okN T)=AD/\(bQ t (ns.take k)).2.map (unN T)=ns.take k:=by
  intro k;induction k with
  |zero=>intro _ _;simp[bQ]
  |succ k g=>
   intro i a;rw[cS qa,nW]at a⊢;obtain⟨h1,b⟩:=g qa ((Su _ _).trans a);obtain⟨e,f⟩:=aht a;simp only[xe,w7,h1,b,xf,xg,w8,xh,e,f,qL,and_self]
 have:=key (AA ns) (we _);rw[fb (we _)]at this;exact this h
theorem aeW (l:Ar)(p:aE):(bG l).1<+:(bG (l++[p])).1:=by rw[n6];exact adK _ _
theorem S9 {l:Ar}{T:List V3}(h:(bG l).1<+:T):(bG l).2.all (λu=>u.XD.all (okN T))=AD/\(bG l).2.map (unU T)=l:=by
 have key:∀k,k<=AA l->(bG (l.take k)).1<+:T->(bG (l.take k)).2.all (λu=>u.XD.all (okN T))=AD/\(bG (l.take k)).2.map (unU T)=l.take k:=by
  intro k;induction k with
  |zero=>intro _ _;simp[bG]
  |succ k g=>
   intro i a;rw[cS qa]at a⊢;obtain⟨h1,b⟩:=g qa ((aeW _ _).trans a);rw[n6]at a⊢;obtain⟨e,f⟩:=aeX (t:=(bG (l.take k)).1) (ns:=(AF l k qt).Xf) a;simp only[ni,xe,w7,h1,b,xf,xg,w8,xh,e,f,qL,unU,and_self]
 have:=key (AA l) (we _);rw[fb (we _)]at this;exact this h
theorem adS (l:Ar):ll ⟨(bG l).1,(bG l).2⟩=(l,AD):=by obtain⟨h1,a⟩:=S9 (l:=l) xd;unfold ll;dsimp only;rw[qc h1,a]
theorem EY {σ τ R:Type}{f g:σ->Option (am σ τ R)}(I:σ->Prop)(h:∀x,I x->f x=g x/\∀y,g x=AB (.next y)->I y):∀ (N:Nat) (x:σ),I x->iter f N x=iter g N x
 |0,_,_=>rfl
 |N+1,x,b=>by
  obtain⟨d,c⟩:=h x b;simp only[iter,d];cases a:g x with
  |none=>rfl
  |some s=>cases s with
   |next y=>exact EY I h N y (c y a)
   |out _=>rfl
   |fin _=>rfl
theorem SY {σ c τ d R m:Type}{f:σ->Option (am σ τ R)}{g:c->Option (am c d m)}(S:σ->c->Prop)(T:τ->d->Prop)(U:R->m->Prop)
 (h:∀x y,S x y->(∃i e,f x=AB (.next i)/\g y=AB (.next e)/\S i e)\/(∃a b,f x=AB (.out a)/\g y=AB (.out b)/\T a b)\/(∃a b,f x=AB (.fin a)/\g y=AB (.fin b)/\U a b)):
 ∀ (N:Nat) (x:σ) (y:c),S x y->(∀b,iter g N y=AB (.inl b)->∃a,iter f N x=AB (.inl a)/\T a b)/\(∀b,iter g N y=AB (.inr b)->∃a,iter f N x=AB (.inr a)/\U a b)
 |0,_,_,_=>⟨λb h=>by simp[iter]at h,λb h=>by simp[iter]at h⟩
 |N+1,x,y,n=>by
  rcases h x y n with⟨i,e,l,k,j⟩|⟨a,b,l,k,j⟩|⟨a,b,l,k,j⟩
  ·have:=SY S T U h N i e j;grind[iter]
  all_goals grind[iter]
theorem UR (l:List V3)(w:A7)(c:AA w=AA l)(a:AA l<4294967296):(sO l w).o=(sn l w).o:=by show(oc l w).run NN=(so l w).run NN;simp only[oc,so,qj];refine congrArg (λz=>andK z _) (EY (λx=>0<=x.2.2.2/\x.2.2.2<=(AA l:Int)) (λx b=>?_) NN _ ⟨jV,jV⟩);grind[ab,w64]
theorem RX (l:List V3)(w:A7)(i t:Int)(a:AA w<4294967296):(vT l w i t).o=(rM w t i).o:=by show(rF l w i t).run NN=(rN w t i).run NN;simp only[rF,rN,qj];rw[ab (p:=AA w * 8<=140737488355328/\(AA w)<=maxLen) ⟨qa,by rw[au];omega⟩];refine congrArg (λz=>andK z _) (EY (λx=>AA x.1=AA w) (λx b=>?_) NN _ rfl);grind[grd]
theorem aag (a b:V3):(rO a b).o=AB (aP a b):=rfl
theorem Qd (a b:V3):(kM a b).o=AB (dx a b):=rfl
def clo (x:Int):Int:=cdiv (max x (AG qs (0-x))) 65536
def HU (v:V3)(m:Int):Bool:=qu (AG qs (AG qs (AG qs (0+AG qs (clo v.1 * clo v.1))+AG qs (clo v.2.1 * clo v.2.1))+AG qs (clo v.2.2 * clo v.2.2))<=AG qs (m * m))
theorem abK {v:V3}(h:inV v)(m:Int):(yl v m).o=AB (HU v m):=by show(sd v m).run NN=_;simp only[sd,qj,dr (h.1.max (InR.wr _)) (show(0:Int)<65536 by decide),dr (h.2.1.max (InR.wr _)) (show(0:Int)<65536 by decide),dr (h.2.2.max (InR.wr _)) (show(0:Int)<65536 by decide),qG];rfl
theorem aex {v:V3}(h:inV v)(m:Int):(Kx v m).o=AB (HU v m):=by
 show(pH v m).run NN=_;simp only[pH,qj];have a:∀x:Int,InR x->(dS (max x (AG qs (0-x))) 16).o=AB (clo x):=λx b=>su16 (b.max (InR.wr _))
 refine(aO (λj=>((match j with|0=>0|1=>AG qs (0+AG qs (clo v.1 * clo v.1))|2=>AG qs (AG qs (0+AG qs (clo v.1 * clo v.1))+AG qs (clo v.2.1 * clo v.2.1))|_=>AG qs (AG qs (AG qs (0+AG qs (clo v.1 * clo v.1))+AG qs (clo v.2.1 * clo v.2.1))+AG qs (clo v.2.2 * clo v.2.2)):Int),(j:Int)))
  (AG qs (AG qs (AG qs (0+AG qs (clo v.1 * clo v.1))+AG qs (clo v.2.1 * clo v.2.1))+AG qs (clo v.2.2 * clo v.2.2))) 3 rfl jU (λj c=>?_) ?_).trans rfl
 ·rw[ai qa,ab qa,qD,wn qa]
  match j,c with
  |0,_=>rw[show([v.1,v.2.1,v.2.2]:A7).getD 0 0=v.1 from rfl,a _ h.1];rfl
  |1,_=>rw[show([v.1,v.2.1,v.2.2]:A7).getD 1 0=v.2.1 from rfl,a _ h.2.1];rfl
  |2,_=>rw[show([v.1,v.2.1,v.2.2]:A7).getD 2 0=v.2.2 from rfl,a _ h.2.2];rfl
 rfl
def lC (a b:V3):Int:=if dx a (aP a b)<=0 then 0 else min 256 (AG qs ((dx a (aP a b)).tdiv (max 1 (AG qs ((dx (aP a b) (aP a b)).tdiv 256)))))
theorem aa6 (a b:V3):(yC a b).o=AB (lC a b):=by show(rg a b).run NN=_;simp only[rg,qj,vp,nP,qG,lC];grind[ab]
theorem tb (a:Int)(k:Nat):(a.tdiv (2 ^ k)).tdiv 2=a.tdiv (2 ^ (k+1)):=by
 have p:=dZ k;have c:∀a:Int,0<=a->(a.tdiv (2 ^ k)).tdiv 2=a.tdiv (2 ^ (k+1)):=λa b=>by
  rw[xi b,xi (Int.ediv_nonneg b qa),xi b,Int.ediv_ediv_of_nonneg qa,wo]
 rcases Int.le_total 0 a with h|h;{simp_all};have:=c (-a) qa;simp_all
def hv (v:V3)(k:Nat):V3:=(v.1.tdiv (2 ^ k),v.2.1.tdiv (2 ^ k),v.2.2.tdiv (2 ^ k))
theorem U3 {v:V3}(h:inV v)(k:Nat):inV (hv v k):=⟨h.1.tdiv (dZ k),h.2.1.tdiv (dZ k),h.2.2.tdiv (dZ k)⟩
def nm (v:V3):Bool:=(v.1==0)&&((v.2.1==0)&&((v.2.2==0)&&AD))
theorem ahq {v:V3}:nm v=AE↔v.1≠0\/v.2.1≠0\/v.2.2≠0:=by grind[nm]
theorem GN {a:Int}(h:a< -16384\/a>16384):a.tdiv 2≠0:=by grind
theorem Rz {v:V3}(h:inV v):(uW v).o=(nI v).o:=by
 obtain⟨n,ok,f,-⟩:=OM h;rw[f];have K:(nI v).o=(rq v).run NN:=rfl;rw[K]at f;show(pT v).run NN=_;simp only[pT,rq,qj]at f⊢;cases l:nm v with
 |true=>
  have j:((v.1==0)&&((v.2.1==0)&&((v.2.2==0)&&AD)))=true:=l;rw[j,qe]at f;simp only[Option.some.injEq,Prod.mk.injEq]at f;obtain⟨rfl,rfl⟩:=f;have v0:v.1=0/\v.2.1=0/\v.2.2=0:=by
   simp_all
  have nv:cd v 16384=true:=nearV_iff.2 qa;have Y:iter (λd:Int×Int×Int=>((nr (d.1,d.2.1,d.2.2)).o.bind λg=>bif !g then AB (am.next (AG qs (d.1.tdiv 2),AG qs (d.2.1.tdiv 2),AG qs (d.2.2.tdiv 2)))else AB (.out (d.1,d.2.1,d.2.2)):Option (am (Int×Int×Int) (Int×Int×Int) (V3×Bool)))) NN (v.1,v.2.1,v.2.2)=AB (.inl v):=by
   suffices hN:∀N:Nat,iter (λd:Int×Int×Int=>((nr (d.1,d.2.1,d.2.2)).o.bind λg=>bif !g then AB (am.next (AG qs (d.1.tdiv 2),AG qs (d.2.1.tdiv 2),AG qs (d.2.2.tdiv 2)))else AB (.out (d.1,d.2.1,d.2.2)):Option (am (Int×Int×Int) (Int×Int×Int) (V3×Bool)))) (N+1) (v.1,v.2.1,v.2.2)=AB (.inl v)from hN 4294967295
   grind[iter,uP]
  rw[Y];show AB ((v.1,v.2.1,v.2.2), !((v.1==0)&&((v.2.1==0)&&((v.2.2==0)&&AD))))=_;grind
 |false=>
  have j:((v.1==0)&&((v.2.1==0)&&((v.2.2==0)&&AD)))=false:=l;rw[j,qd]at f;have B:∀ (N k:Nat),k<=49->nm (hv v k)=false->∀r,iter (λ(i:Int)=>(grd (i≠0) (grd (i≠0) (grd (i≠0) ((gU ((AG qs (v.1.tdiv i)),(AG qs (v.2.1.tdiv i)),(AG qs (v.2.2.tdiv i))) 16384).o.bind λE=>
   bif E then AB (.fin (((AG qs (v.1.tdiv i)),(AG qs (v.2.1.tdiv i)),(AG qs (v.2.2.tdiv i))),AD))else AB (.next (AG qs (i * 2)))))):Option (am Int U0 (V3×Bool)))) N (2 ^ k)=AB (.inr r)->
   iter (λd:Int×Int×Int=>((nr (d.1,d.2.1,d.2.2)).o.bind λg=>bif !g then AB (am.next (AG qs (d.1.tdiv 2),AG qs (d.2.1.tdiv 2),AG qs (d.2.2.tdiv 2)))else AB (.out (d.1,d.2.1,d.2.2)):Option (am (Int×Int×Int) (Int×Int×Int) (V3×Bool)))) N (hv v k)=AB (.inl r.1)/\r.2=AD/\nm r.1=false:=by
   intro N;induction N with
   |zero=>grind[iter]
   |succ N J=>
    intro k hk l r f;have p:=dZ k;have s:=U3 h k;have A:(AG qs (v.1.tdiv (2 ^ k)),AG qs (v.2.1.tdiv (2 ^ k)),AG qs (v.2.2.tdiv (2 ^ k)))=hv v k:=by
     have a:=s.1.w;have b:=s.2.1.w;have c:=s.2.2.w;grind[hv]
    have H:(2:Int) ^ k<=562949953421312:=by
     have:(2:Int) ^ k<=2 ^ 49:=by exact_mod_cast qT (by decide:0<2) (show k<=49 from qa)
     omega
    simp only[iter]at f⊢;rw[ab qa,ab qa,ab qa,iO _ jU jU,A]at f;have Q:((hv v k).1,(hv v k).2.1,(hv v k).2.2)=hv v k:=rfl;simp only[qG]at f;rw[Q,uP];cases m:cd (hv v k) 16384 with
    |true=>
     rw[m]at f;simp only[qe,Option.some.injEq,Sum.inr.injEq]at f;subst f;exact⟨rfl,rfl,l⟩
    |false=>
     rw[m]at f;rw[w64 (x:=2 ^ k * 2) qa qa,<-wo]at f;have R:k<49:=by
      by_cases e:k=49
      ·have W:=mE h.1;have O:=mE h.2.1;have t3:=mE h.2.2;have:cd (hv v k) 16384=true:=by
        rw[e];exact nearV_iff.2 ⟨W,O,t3⟩
       rw[m]at this;cases this
      omega
     have u:(AG qs ((hv v k).1.tdiv 2),AG qs ((hv v k).2.1.tdiv 2),AG qs ((hv v k).2.2.tdiv 2))=hv v (k+1):=by
      have t:=U3 h (k+1);have a:=t.1.w;have b:=t.2.1.w;have c:=t.2.2.w;simp only[hv,tb]at a b c⊢;rw[a,b,c]
     have C:nm (hv v (k+1))=false:=by
      have:¬ ((-16384<=(hv v k).1/\(hv v k).1<=16384)/\(-16384<=(hv v k).2.1/\(hv v k).2.1<=16384)/\(-16384<=(hv v k).2.2/\(hv v k).2.2<=16384)):=λX=>by
       rw[nearV_iff.2 X]at m;cases m
      rw[ahq];have V:(hv v (k+1)).1=(hv v k).1.tdiv 2:=(tb _ _).symm;have I:(hv v (k+1)).2.1=(hv v k).2.1.tdiv 2:=(tb _ _).symm;have M:(hv v (k+1)).2.2=(hv v k).2.2.tdiv 2:=(tb _ _).symm;rw[V,I,M];by_cases Z:(hv v k).1< -16384\/(hv v k).1>16384;{exact .inl (GN Z)};by_cases S:(hv v k).2.1< -16384\/(hv v k).2.1>16384;{exact .inr (.inl (GN S))};exact .inr (.inr (GN qa))
     rw[u];exact J (k+1) qa C r f
  have F:hv v 0=v:=by
   unfold hv;rw[xj,xk,xk,xk]
  have D:=B NN 0 qa (by rw[F];exact l);rw[F,xj]at D;generalize iter _ NN (1:Int)=o at f D;cases o with
  |none=>cases f
  |some z=>cases z with
   |inl _=>cases f
   |inr r=>
    injection f with f
    subst f;obtain⟨L,G,U⟩:=D _ rfl;have P:(v.1,v.2.1,v.2.2)=v:=rfl;rw[P,L];show AB ((n.1,n.2.1,n.2.2), !((n.1==0)&&((n.2.1==0)&&((n.2.2==0)&&AD))))=_;have y:((n.1==0)&&((n.2.1==0)&&((n.2.2==0)&&AD)))=false:=U;simp only at G;rw[y,G];rfl
def bI (c:Int->Int->Bool)(f:Nat->Int):Nat->Nat
 |0=>0
 |j+1=>bif c (f j) (f (bI c f j))then j else bI c f j
theorem uj (c:Int->Int->Bool)(f:Nat->Int):∀j,bI c f j<=j-1
 |0=>we _
 |j+1=>by
  have:=uj c f j;simp only[bI];cases c (f j) (f (bI c f j))<;>simp only[qe,qd]<;>omega
def fN (n:V3)(l:List V3)(j:Nat):Int:=dx n (AF l j qt)
section
variable {n:V3} {l:List V3} (h0:1<=AA l) (hl:AA l<4294967296)
include h0 hl
theorem ai6 (w:A7):(Dr l w n).o=AB (fN n l (bI ltB (fN n l) (AA l)),(bI ltB (fN n l) (AA l):Int)):=by
 show(rW l w n).run NN=_;simp only[rW,qj,nP,qG];rw[ab qa];refine(aO (λj=>(fN n l (bI ltB (fN n l) j),((bI ltB (fN n l) j:Nat):Int),(j:Int))) (fN n l (bI ltB (fN n l) (AA l)),(bI ltB (fN n l) (AA l):Int)) (AA l) rfl hl (λj c=>?_) ?_).trans rfl
 ·rw[ai jW,ab ⟨jV,jW⟩];simp only[qD,wn (show j<4294967296 from qa)];have e:bI ltB (fN n l) (j+1)=bif ltB (fN n l j) (fN n l (bI ltB (fN n l) j))then j else bI ltB (fN n l) j:=rfl
  rw[e];by_cases a:fN n l j<fN n l (bI ltB (fN n l) j);{rw[show ltB (fN n l j) (fN n l (bI ltB (fN n l) j))=AD from qg a,ai (show dx n (AF l j qt)<fN n l (bI ltB (fN n l) j)from a)];rfl};rw[show ltB (fN n l j) (fN n l (bI ltB (fN n l) j))=AE from qh a,aj (show ¬dx n (AF l j qt)<fN n l (bI ltB (fN n l) j)from a)];rfl
 simp_all
theorem adw (w:A7):(Ls l w n).o=AB (fN n l (bI gtB (fN n l) (AA l)),(bI gtB (fN n l) (AA l):Int)):=by
 show(pR l w n).run NN=_;simp only[pR,qj,nP,qG];rw[ab qa];refine(aO (λj=>(fN n l (bI gtB (fN n l) j),((bI gtB (fN n l) j:Nat):Int),(j:Int))) (fN n l (bI gtB (fN n l) (AA l)),(bI gtB (fN n l) (AA l):Int)) (AA l) rfl hl (λj c=>?_) ?_).trans rfl
 ·rw[ai jW,ab ⟨jV,jW⟩];simp only[qD,wn (show j<4294967296 from qa)];have e:bI gtB (fN n l) (j+1)=bif gtB (fN n l j) (fN n l (bI gtB (fN n l) j))then j else bI gtB (fN n l) j:=rfl
  rw[e];by_cases a:fN n l j>fN n l (bI gtB (fN n l) j);{rw[show gtB (fN n l j) (fN n l (bI gtB (fN n l) j))=AD from qg a,ai (show dx n (AF l j qt)>fN n l (bI gtB (fN n l) j)from a)];rfl};rw[show gtB (fN n l j) (fN n l (bI gtB (fN n l) j))=AE from qh a,aj (show ¬dx n (AF l j qt)>fN n l (bI gtB (fN n l) j)from a)];rfl
 simp_all
theorem RQ {c:Int->Int->Bool}{a:Int}(f:∀i j,i<AA l->j<AA l->qu (AG qs (a * fN n l i)<AG qs (a * fN n l j))=c (fN n l i) (fN n l j))(h:∀x,c x x=AE):
 (lR n l a).o=AB (bI c (fN n l) (AA l):Int):=by
 show(pW n l a).run NN=_;simp only[pW,qj,Qd,qG];have g:bI c (fN n l) 1=0:=by show(bif c (fN n l 0) (fN n l 0)then 0 else 0)=0;simp_all
 refine(aO (λj=>(((bI c (fN n l) (j+1):Nat):Int),((j+1:Nat):Int))) ((bI c (fN n l) (AA l):Nat):Int) (AA l-1) jW (show AA l-1<4294967296 from qa) (λj k=>?_) ?_).trans rfl
 ·have m:=uj c (fN n l) (j+1);rw[ai qa,ab qa,ab qa];simp only[qD,wn (show j+1<4294967296 from qa)];have b:=f (j+1) (bI c (fN n l) (j+1)) qa qa;have d:qu (AG qs (a * dx n (AF l (j+1) qt))<AG qs (a * dx n (AF l (bI c (fN n l) (j+1)) qt)))=c (fN n l (j+1)) (fN n l (bI c (fN n l) (j+1))):=b;rw[d];have e:bI c (fN n l) (j+2)=bif c (fN n l (j+1)) (fN n l (bI c (fN n l) (j+1)))then j+1 else bI c (fN n l) (j+1):=rfl
  rw[e];cases c (fN n l (j+1)) (fN n l (bI c (fN n l) (j+1)))<;>rfl
 simp_all
end
theorem ahQ{l:List V3}(h:fewV l=AD)(a:k<AA l):cd (AF l k qt) 268435456=true:=by grind[fewV,noneB_iff,farN]
theorem um{n:V3}(a:bN n=AD){l:List V3}(f:fewV l=AD)(e:k<AA l): -13194139533312<=fN n l k/\fN n l k<=13194139533312:=by obtain⟨⟨c,b,d⟩,-⟩:=FU a;have g:=nearV_iff.1 (ahQ f e);unfold fN dx;have i:=ir c g.1;have h:=ir b g.2.1;have j:=ir d g.2.2;grind[w64]
theorem ahP {n:V3}(d:bN n=AD){l:List V3}(c:fewV l=AD):(lR n l 1).o=AB (bI ltB (fN n l) (AA l):Int):=by have:=mO c;refine RQ qa qa (λi j e f=>?_) (λx=>by simp[ltB]);have a:=um d c e;have b:=um d c f;rw[w64 (x:=1 * fN n l i) qa qa,w64 (x:=1 * fN n l j) qa qa,xl,xl];rfl
theorem ahO {n:V3}(d:bN n=AD){l:List V3}(c:fewV l=AD):(lR n l (-1)).o=AB (bI gtB (fN n l) (AA l):Int):=by have:=mO c;refine RQ qa qa (λi j e f=>?_) (λx=>by simp[gtB]);have a:=um d c e;have b:=um d c f;grind[w64,gtB]
theorem ajo (g:Nat->Bool):aA g 3=(!g 0&&(!g 1&& !g 2)):=by grind[noneB_iff]
def bey3 (x:Int):Bool:=qu (x< -268435456)||qu (x>268435456)
theorem aea (v:V3):(!bey3 v.1&&(!bey3 v.2.1&& !bey3 v.2.2))=cd v 268435456:=by grind[bey3,nearV_iff]
theorem Y7 (l:List V3):(uS l).o=AB (fewV l):=by
 show(pN l).run NN=_;simp only[pN,qj,aS,ah,cB];unfold fewV;by_cases h:1<=AA l/\(AA l)<=8
 ·rw[qh (p:=(AA l:Int)<1) qa,qh (p:=(AA l:Int)>8) qa,qg h,cT (by rfl),qK];refine(aU (λi=>sw (farN l i) AE) (AA l) qa (λj a=>?_) ?_).trans ?_
  ·rw[ai qa,ab qa,qD,wn qa];refine(aU (λi=>sw (bey3 (([(AF l j qt).1,(AF l j qt).2.1,(AF l j qt).2.2]:A7).getD i 0)) (am.fin AE)) 3 jU (λk b=>?_) ?_).trans ?_;{rw[ai qa,ab qa,wn qa,qD,<-co];rfl};{rfl};rw[ct,ajo];have e:(!(bey3 (([(AF l j qt).1,(AF l j qt).2.1,(AF l j qt).2.2]:A7).getD 0 0))&&(!(bey3 (([(AF l j qt).1,(AF l j qt).2.1,(AF l j qt).2.2]:A7).getD 1 0))&& !(bey3 (([(AF l j qt).1,(AF l j qt).2.1,(AF l j qt).2.2]:A7).getD 2 0))))=cd (AF l j qt) 268435456:=aea _;rw[e];unfold farN;cases cd (AF l j qt) 268435456<;>rfl
  {simp_all};rw[ct];cases aA (farN l) (AA l)<;>rfl
 grind
theorem adZ {σ c τ d R i:Type}{f:σ->Option (am σ τ R)}{g:c->Option (am c d i)}{p:τ->Option R}{n:d->Option i}{F:R->Option i}{x:σ}{y:c}{z:i}(S:σ->c->Prop)
 (h:∀x y,S x y->(∃m l,f x=AB (.next m)/\g y=AB (.next l)/\S m l)\/(∃a b,f x=AB (.fin a)/\g y=AB (.fin b)/\F a=AB b))
 (j:S x y) (_:∀b,n b=AC) (k:andK (iter g NN y) n=AB z):(andK (iter f NN x) p).bind F=AB z:=by
 have e:=SY (f:=f) (g:=g) S (λ_ _=>False) (λa b=>F a=AB b) (λx y j=>(h x y j).elim .inl λh=>.inr (.inr h)) NN x y j;generalize iter g NN y=o at k e;cases o with
 |none=>cases k
 |some u=>cases u with
  |inl b=>simp_all
  |inr b=>
   cases k;obtain⟨a,r,q⟩:=e.2 _ rfl;rw[r];exact q
theorem Sa (l:List V3)(a:1<=AA l)(b:AA l<4294967296):(uN l).o=AB (l,(qr (AA l) (0:Int)).set 0 65536):=by show(pI l).run NN=_;grind[pI,qj,ab]
theorem ae7 (a b:List V3)(m:Int):(lL a b m 64).o=(kH a b m 64).o:=by
 obtain⟨z,f,-⟩:=aaf a b m 64;rw[f];have V:(kH a b m 64).o=(rt a b m 64).run NN:=rfl;rw[V]at f;show(pM a b m 64).run NN=_;simp only[pM,rt,qj,QH,Y7,qG,aS,ah]at f⊢;cases u:fewV a with
 |false=>simp_all
 |true=>
  cases w:fewV b with
  |false=>simp_all
  |true=>
   rw[u,w]at f;have F:=mO u;have A:=mO w;simp only[qH,qd,cB]at f⊢;cases C:qu (m<0)||(qu (m>2097152)||(qu ((64:Int)<0)||qu ((64:Int)>64)))with
   |true=>grind
   |false=>
    rw[C]at f;simp only[Bool.or_eq_false_iff,qi]at C;simp only[qd,qD,wg,Sa a F.1 qa,Sa b A.1 qa,qG]at f⊢;rw[ab ⟨qa,qa,qa,qa⟩,ab ⟨qa,qa,qa,qa⟩,ab ⟨qa,qa⟩,ab ⟨qa,qa⟩,ab ⟨qa,qa⟩,ab ⟨qa,qa⟩]at f;show((ss a ((qr (AA a) (0:Int)).set 0 65536) b ((qr (AA b) (0:Int)).set 0 65536) 0 0 0 0 m 64).run NN).bind _=_;simp only[ss,qj];refine adZ (λx y=>y=(x.2.2.1,x.2.2.2.1,x.2.2.2.2.1,x.1,x.2.1,x.2.2.2.2.2)/\(AA x.1)=AA a/\(AA x.2.1)=AA b/\0<=x.2.2.2.2.2/\x.2.2.2.2.2<=64) ?_ ⟨rfl,jV,jV,jV,jV⟩ (λ_=>rfl) f;rintro⟨q,k,c1,c2,c3,r⟩ _ ⟨rfl,t,v,P,S⟩;simp only at t v P S⊢;obtain⟨d,N,-⟩:=sJ a q t qa;obtain⟨c,L,-⟩:=sJ b k v qa;have D:inV (aP d c):=⟨InR.wr _,InR.wr _,InR.wr _⟩;simp only[UR a q t qa,UR b k v qa,N,L,vp,aag,qG,aex D,abK D];cases HU (aP d c) m with
    |true=>exact .inr ⟨_,_,rfl,rfl,rfl⟩
    |false=>
     have l:inV (AG qs ((aP d c).1.tdiv 65536),AG qs ((aP d c).2.1.tdiv 65536),AG qs ((aP d c).2.2.tdiv 65536)):=⟨InR.wr _,InR.wr _,InR.wr _⟩;obtain⟨e,E,O⟩:=LC l.1 l.2.1 l.2.2;have B:=Rz l;rw[E]at B;simp only[E,<-B,qG,qd];cases s:e.2 with
     |false=>exact .inr ⟨_,_,rfl,rfl,rfl⟩
     |true=>
      have G:=O s;simp only[qH,qd,ai6 (n:=e.1) F.1 (show AA a<4294967296 from qa),adw (n:=e.1) A.1 (show AA b<4294967296 from qa),ahP G u,ahO G w,Qd,AY,DK,qG,qD];have H:=uj ltB (fN e.1 a) (AA a);have Q:=uj gtB (fN e.1 b) (AA b);generalize Z:bI ltB (fN e.1 a) (AA a)=I at H⊢;generalize hJ:bI gtB (fN e.1 b) (AA b)=J at Q⊢;have U:0<=(I:Int)/\(I:Int)<(AA a:Int):=qa;have X:0<=(J:Int)/\(J:Int)<(AA b:Int):=qa;have K:dx e.1 (AF a I qt)=fN e.1 a I:=rfl;have R:dx e.1 (AF b J qt)=fN e.1 b J:=rfl;simp only[ab U,ab X,K,R,aa6,qG];cases qu (AG qs (fN e.1 a I-fN e.1 b J)>AG qs (lB e.1 * m))with
      |true=>exact .inr ⟨_,_,rfl,rfl,rfl⟩
      |false=>
       simp only[qd];by_cases h:r=64;{rw[bK h,qg (p:=r>=64) qa];exact .inr ⟨_,_,rfl,rfl,rfl⟩};rw[bB h,qh (p:=r>=64) qa];simp only[Bool.false_or];by_cases i:dx ((AG qs ((aP d c).1.tdiv 65536),AG qs ((aP d c).2.1.tdiv 65536),AG qs ((aP d c).2.2.tdiv 65536)):V3) (aP ((AG qs ((aP d c).1.tdiv 65536),AG qs ((aP d c).2.1.tdiv 65536),AG qs ((aP d c).2.2.tdiv 65536)):V3) (aP (AF a I qt) (AF b J qt)))<=0
       ·have g:lC ((AG qs ((aP d c).1.tdiv 65536),AG qs ((aP d c).2.1.tdiv 65536),AG qs ((aP d c).2.2.tdiv 65536)):V3) (aP (AF a I qt) (AF b J qt))=0:=by unfold lC;rw[qc i]
        rw[ai i,g,bK rfl];exact .inr ⟨_,_,rfl,rfl,rfl⟩
       have g:min 256 (AG qs ((dx ((AG qs ((aP d c).1.tdiv 65536),AG qs ((aP d c).2.1.tdiv 65536),AG qs ((aP d c).2.2.tdiv 65536)):V3) (aP ((AG qs ((aP d c).1.tdiv 65536),AG qs ((aP d c).2.1.tdiv 65536),AG qs ((aP d c).2.2.tdiv 65536)):V3) (aP (AF a I qt) (AF b J qt)))).tdiv (max 1 (AG qs ((dx (aP ((AG qs ((aP d c).1.tdiv 65536),AG qs ((aP d c).2.1.tdiv 65536),AG qs ((aP d c).2.2.tdiv 65536)):V3) (aP (AF a I qt) (AF b J qt))) (aP ((AG qs ((aP d c).1.tdiv 65536),AG qs ((aP d c).2.1.tdiv 65536),AG qs ((aP d c).2.2.tdiv 65536)):V3) (aP (AF a I qt) (AF b J qt)))).tdiv 256)))))=lC ((AG qs ((aP d c).1.tdiv 65536),AG qs ((aP d c).2.1.tdiv 65536),AG qs ((aP d c).2.2.tdiv 65536)):V3) (aP (AF a I qt) (AF b J qt)):=by unfold lC;rw[qb i]
       rw[aj i,ab qa,g];generalize lC ((AG qs ((aP d c).1.tdiv 65536),AG qs ((aP d c).2.1.tdiv 65536),AG qs ((aP d c).2.2.tdiv 65536)):V3) (aP (AF a I qt) (AF b J qt))=T;by_cases j:T=0;{rw[bK j,bK j];exact .inr ⟨_,_,rfl,rfl,rfl⟩};rw[bB j,bB j,RX a q _ T qa,RX b k _ T qa];obtain⟨Y,M,l1⟩:=v7 q T I qa qa qa;obtain⟨u2,W,l2⟩:=v7 k T J qa qa qa;simp only[M,W,qG];exact .inl ⟨_,_,rfl,rfl,rfl,j8,j8,by simp only;rw[w64 qa qa];omega,by simp only;rw[w64 qa qa];omega⟩
def tot (g:Nat->Int):Nat->Int
 |0=>0
 |j+1=>tot g j+g j
theorem aiJ (a b:Int):AG qs (AG qs a * b)=AG qs (a * b):=by have h:∃t:Int,AG qs a=a-18446744073709551616 * t:=⟨(a+9223372036854775808) / 18446744073709551616,by rw[wr];omega⟩;obtain⟨t,c⟩:=h;rw[c,Int.sub_mul,Int.mul_assoc];grind[wr]
theorem Pg (l:List V3)(a:AA l<4294967296):(vX l).o=AB (AG qs (tot (λi=>(AF l i qt).1) (AA l)),AG qs (tot (λi=>(AF l i qt).2.1) (AA l)),AG qs (tot (λi=>(AF l i qt).2.2) (AA l))):=by
 show(rJ l).run NN=_;simp only[rJ,qj]
 refine(aO (λj=>(AG qs (tot (λi=>(AF l i qt).1) j),AG qs (tot (λi=>(AF l i qt).2.1) j),AG qs (tot (λi=>(AF l i qt).2.2) j),(j:Int)))
  (AG qs (tot (λi=>(AF l i qt).1) (AA l)),AG qs (tot (λi=>(AF l i qt).2.1) (AA l)),AG qs (tot (λi=>(AF l i qt).2.2) (AA l))) (AA l) rfl a (λj b=>?_) ?_).trans rfl
 {rw[ai jW,ab ⟨jV,jW⟩];simp only[qD,wn (show j<4294967296 from qa),Hp,tot]};simp_all
theorem GD {R:Type}{k:Int->Option R}(l:List V3)(a:V3->Int)(m c:Int)(d:AG qs c=c)(b:AA l<4294967296):
 andK (iter (λx:Int×Int=>(bif qu (x.2<((AA l:Nat):Int))then grd (0<=x.2/\x.2<((AA l:Nat):Int)) (AB (am.next (AG qs (x.1+AG qs (a (AF l x.2.toNat qt) * m)),AG qs (x.2+1))))else AB (.out x.1):Option (am (Int×Int) Int R))) NN (c,0)) k
  =k (AG qs (c+tot (λi=>a (AF l i qt)) (AA l) * m)):=by
 refine aO (λj=>(AG qs (c+tot (λi=>a (AF l i qt)) j * m),(j:Int))) _ (AA l) ?_ b (λj e=>?_) ?_;all_goals grind[tot,ab,qD,wn,aiI]
theorem GE {R:Type}{k:Int->Option R}(l:List V3)(a:V3->Int)(m c:Int)(d:AG qs c=c)(b:AA l<4294967296):
 andK (iter (λx:Int×Int=>(bif qu (x.2<((AA l:Nat):Int))then grd (0<=x.2/\x.2<((AA l:Nat):Int)) (AB (am.next (AG qs (x.1-AG qs (a (AF l x.2.toNat qt) * m)),AG qs (x.2+1))))else AB (.out x.1):Option (am (Int×Int) Int R))) NN (c,0)) k
  =k (AG qs (c-tot (λi=>a (AF l i qt)) (AA l) * m)):=by
 refine aO (λj=>(AG qs (c-tot (λi=>a (AF l i qt)) j * m),(j:Int))) _ (AA l) ?_ b (λj e=>?_) ?_;all_goals grind[tot,ab,qD,wn,tT,Ub]
theorem ahr (a b:List IV3):(Qc a b).o=AB (gH a b):=by
 rw[<-OH];show(DL a b).run NN=(rh a b).run NN;simp only[DL,rh,qj,iG,nJ,qG,aS,ah,MB,vr];cases e:bP a with
 |false=>rfl
 |true=>
  cases f:bP b with
  |false=>rfl
  |true=>
   have r:=e6 e;have q:=e6 f;have p:=SB e;have i:=SB f;simp only[qH,qd,Pg (cenV a) qa,Pg (cenV b) qa,qG];have m:=λ{R:Type} (k:Int->Option R) (c:Int) (d:AG qs c=c)=>GD (k:=k) (cenV a) (λv=>v.1) (AA (cenV b):Int) c d qa
   have g:=λ{R:Type} (k:Int->Option R) (c:Int) (d:AG qs c=c)=>GE (k:=k) (cenV b) (λv=>v.1) (AA (cenV a):Int) c d qa
   have l:=λ{R:Type} (k:Int->Option R) (c:Int) (d:AG qs c=c)=>GD (k:=k) (cenV a) (λv=>v.2.1) (AA (cenV b):Int) c d qa
   have j:=λ{R:Type} (k:Int->Option R) (c:Int) (d:AG qs c=c)=>GE (k:=k) (cenV b) (λv=>v.2.1) (AA (cenV a):Int) c d qa
   have n:=λ{R:Type} (k:Int->Option R) (c:Int) (d:AG qs c=c)=>GD (k:=k) (cenV a) (λv=>v.2.2) (AA (cenV b):Int) c d qa
   have h:=λ{R:Type} (k:Int->Option R) (c:Int) (d:AG qs c=c)=>GE (k:=k) (cenV b) (λv=>v.2.2) (AA (cenV a):Int) c d qa
   rw[m _ 0 rfl,g _ _ (pr _),l _ 0 rfl,j _ _ (pr _),n _ 0 rfl,h _ _ (pr _)];simp only[Int.zero_add,tT,Ub,aiJ,p,i];rw[Rz ⟨InR.wr _,InR.wr _,InR.wr _⟩]
theorem Qn (a b:List V3)(m:Int):(kH a b m 64).o=AB (eQ a b m):=by rw[<-ae7,K8]
theorem acw{l:List V3}(h:k<AA l):(l.take (k+1)).filter bN=(l.take k).filter bN++(bif bN (AF l k qt)then [AF l k qt]else []):=by grind[xm]
theorem aiK (a:List IV3)(e:Int)(b:List IV3)(f:Int)(c:List V3)(u:AA c<4294967280):(Wz a e b f c).o=AB (bif okF a e b f then io a e b f c else nl):=by
 show(J2 a e b f c).run NN=_;simp only[J2,qj,nJ,rv,qG,aS,ah,cB];have n:(!bP a||(!bP b||(!radV e|| !radV f)))= !okF a e b f:=by
  grind[okF]
 rw[n];cases okF a e b f with
 |false=>rfl
 |true=>
  have q:((c.take (AA c)).filter bN).length<=AA c:=by
   grind
  refine(aO (λj=>((c.take j).filter bN,(j:Int))) ((c.take (AA c)).filter bN) (AA c) rfl (show AA c<4294967296 from qa) (λj p=>?_) ?_).trans ?_
  ·have r:AA ((c.take j).filter bN)<=j:=by
    grind
   rw[ai qa,ab ⟨jV,qa⟩];simp only[qD,nK,qG,wn (show j<4294967296 from qa),acw p];cases bN (AF c j qt)with
   |true=>
    rw[ab ⟨qa,qa⟩,ab ⟨by simp only[qw,qy];omega,by simp only[qw,qy,au];omega⟩];rfl
   |false=>simp only[qd,xo,ah]
  {rw[aj jV]};simp only[ahr,qG];rw[wS]at q⊢;have l:ref14_Axes_C.o=AB axesL:=rfl;have h:∀w:List V3,AA w<=AA c+1->(ref14_Axes_C.o.bind λd=>grd ((AA w+AA d) * 24<=140737488355328/\(AA w)+AA d<=maxLen) ((iD a).o.bind λk=>(iD b).o.bind λi=>(kH k i (AG qs (e+f)) 64).o.bind λg=>
   andC ((kG g.XK).o.bind λm=>bif m then grd ((AA (w++d)+[g.XK].length) * 24<=140737488355328/\(AA (w++d))+[g.XK].length<=maxLen) (AB (.out (w++d++[g.XK])))else AB (.out (w++d)):Option (am Unit (List V3) (List V3))) λy=>AB y))=AB (w++(axesL++kp a e b f)):=by
   intro w s;have t:AA axesL=6:=rfl;rw[l,qG,ab ⟨qa,by rw[au];omega⟩,vr,qG,vr,qG,Qn,qG,nK,qG];unfold kp oW;cases bN (eQ (cenV a) (cenV b) (AG qs (e+f))).XK;{simp only[qd,ah,xo]};simp only[qe];rw[ab ⟨by simp only[wV,qw,qy];omega,by simp only[wV,qw,qy,au];omega⟩,ah,wH]
  unfold io nj;cases (gH a b).2 with
  |false=>
   exact h _ qa
  |true=>
   simp only[qe];rw[ab ⟨by simp only[qw,qy];omega,by simp only[qw,qy,au];omega⟩,ah];refine(h (c.filter bN++[(gH a b).1]) (by simp only[wV,qw,qy];omega)).trans ?_;rw[wH]
theorem aec (a:List IV3)(d:Int)(b:List IV3)(e:Int)(c:List V3):AA (io a d b e c)<=AA c+8:=by unfold io nj kp axesL;grind
theorem Sn {l:List V3}{p:V3->Bool}:∀ (m j:Nat),j+m=AA l->(match scan (λi=>sw (p (AF l i qt)) ((i:Int),AD)) m j with|some r=>AB (AF l r.1.toNat qt)|none=>AC)=(l.drop j).find? p
 |0,j,h=>by rw[wF qa];rfl
 |m+1,j,h=>by
  rw[F7 qa,oh];simp only[scan];cases a:p (AF l j qt)with
  |true=>rfl
  |false=>exact Sn m (j+1) qa
theorem aiL (a:List IV3)(d:Int)(b:List IV3)(c:Int)(e:List V3)(q:AA e<4294967280):(WA a d b c e).o=AB (fo a d b c e):=by
 show(J3 a d b c e).run NN=_;simp only[J3,qj,aiK a d b c e q,qG];unfold fo;cases v:okF a d b c with
 |false=>rfl
 |true=>
  have m:=aec a d b c e;simp only[qe];generalize io a d b c e=l at m⊢;rw[ab0 l a d b c qa,qG];have k:=Sn (l:=l) (p:=λn=>sepV n a d b c) (AA l) 0 qa;rw[List.drop_zero]at k;rw[<-k];have s:(λi=>sw (firB l a d b c i) ((i:Int),AD))=(λi=>sw (sepV (AF l i qt) a d b c) ((i:Int),AD)):=rfl;rw[s];cases h:scan (λi=>sw (sepV (AF l i qt) a d b c) ((i:Int),AD)) (AA l) 0 with
  |none=>rfl
  |some r=>
   obtain⟨j,t,u,f,-⟩:=e8 _ _ h;cases g:sepV (AF l j qt) a d b c with
   |false=>rw[g]at f;cases f
   |true=>
    rw[g]at f;simp only[sw,qe,Option.some.injEq]at f;subst f;simp only[xb,qH,qd];rw[ab ⟨qa,qa⟩];rfl
theorem ahk {a:Type}[Inhabited a]{f:Nat->a}{n i:Nat}(h:i<n):AF (tab f n) i qt=f i:=ek h
theorem agk(a:List V3)(_:k<4294967295){R:Type}{j:List V3->Option R}:(andC (bif qu ((k:Int)<(AA a:Int))then grd (0<=(k:Int)/\(k:Int)<=((k+1:Nat):Int)/\((k+1:Nat):Int)<=(AA a:Int)) (AB (.out ((a.drop k).take ((((k+1:Nat):Int)).toNat-k))))else AB (.out nl):Option (am Unit (List V3) R)) j)=j ((a.drop k).take 1):=by by_cases b:(k:Int)<(AA a:Int);{grind[ab,ah]};rw[aj b,ah,wF qa];rfl
theorem ad6 (s:ak)(b:Ah)(a:List V3)(d:AA b<4294967296)(_:AA a<4294967280):(NI s b a).o=AB (clsV s b a):=by
 have l:=mr s;show(Ll s b a).run NN=_;simp only[Ll,qj];rw[Pr s b d,qG];unfold clsV;by_cases h:aM s=0/\boxV s.Xe b=AD
 ·rw[qc h,qc h];simp only[qH,qd,aZ];refine(gn (λj=>((bif aA (misK s b a) j then(1:Int)else 0),tab (λk=>(fndK s b a k).1) j,(j:Int))) (colK s b a) ((bif aA (misK s b a) (AA (aL s)) then(1:Int)else 0),tab (λk=>(fndK s b a k).1) (AA (aL s))) (AA (aL s)) ?_ (show(aL s).length<4294967296 from qa) (λj n=>?_) ?_).trans ?_;{rfl}
  ·dsimp only;have c:0<=(j:Int)/\(j:Int)<(AA (aL s):Int):=qa;rw[ai qa,qD,wn qa,agk a qa];simp only[ahk n,ab c];have e:(pn s b j).points=aX s b (pA s j)/\(pn s b j).radius=bZ s (pA s j):=⟨rfl,rfl⟩;have f:(po s b j).points=aX s b (pB s j)/\(po s b j).radius=bZ s (pB s j):=⟨rfl,rfl⟩;have g:fo (aX s b (pA s j)) (bZ s (pA s j)) (aX s b (pB s j)) (bZ s (pB s j)) ((a.drop j).take 1)=fndK s b a j:=rfl;have i:ovV (eQ (cenV (aX s b (pA s j))) (cenV (aX s b (pB s j))) (AG qs (bZ s (pA s j)+bZ s (pB s j)))).Left (eQ (cenV (aX s b (pA s j))) (cenV (aX s b (pB s j))) (AG qs (bZ s (pA s j)+bZ s (pB s j)))).XL (aX s b (pA s j)) (bZ s (pA s j)) (aX s b (pB s j)) (bZ s (pB s j))=ovK s b j:=rfl;rw[e.1,e.2,f.1,f.2];simp only[aiL _ _ _ _ ((a.drop j).take 1) jX,qG,g,vr,Qn,NJ,i];rw[ab ⟨by grind[aZ],by grind[aZ,au]⟩,Rk,dM];unfold colK;have m:misK s b a j= !(fndK s b a j).2:=rfl;rw[m];cases p:(fndK s b a j).2 with
   |true=>
    grind[sw,ah]
   |false=>
    simp only[qd,qH,wI,Bool.and_false,qK];cases ovK s b j with
    |true=>rfl
    |false=>rfl
  {simp_all};cases scan (colK s b a) (AA (aL s)) 0 with
  |some v=>rfl
  |none=>rfl
 rw[qb h,qb h];rfl
abbrev PlS:=Ar×B8
def pp (s:ak)(p q:A7)(d:Int)(b:Ar)(a:B8)(k i:Int)(h:List V3):Option (am PlS Ar bR):=
 if 4096<=AA b then AB (.fin ⟨0,nl,⟨k,i,nl⟩,⟨0,nl,nl⟩⟩)else
 if(clsV s (bL p q k i).1 h).Xk=1 then AB (.next (b++[⟨k,i,(clsV s (bL p q k i).1 h).Xf⟩],a))else
 if(clsV s (bL p q k i).1 h).Xk=2 then AB (.fin ⟨2,nl,⟨k,i,nl⟩,(clsV s (bL p q k i).1 h).Xq⟩)else
 if k=d then AB (.fin ⟨0,nl,⟨k,i,nl⟩,⟨0,nl,nl⟩⟩)else
 AB (.next (b,a++[⟨AG qs (k+1),AG qs (AG qs (2 * i)+1),(clsV s (bL p q k i).1 h).Xf⟩,⟨AG qs (k+1),AG qs (2 * i),(clsV s (bL p q k i).1 h).Xf⟩]))
theorem oF{σ τ R:Type}{f:σ->Option (am σ τ R)}{x y:σ}(h:f x=AB (.next y)):iter f (k+1) x=iter f k y:=by simp only[iter,h]
theorem oU{σ τ R:Type}{f:σ->Option (am σ τ R)}{x:σ}{r:R}(h:f x=AB (.fin r)):iter f (k+1) x=AB (.inr r):=by simp only[iter,h]
theorem aja{σ τ R:Type}{f:σ->Option (am σ τ R)}{x:σ}{y:τ}(h:f x=AB (.out y)):iter f (k+1) x=AB (.inl y):=by simp only[iter,h]
theorem afL (s:ak)(p q:A7)(L:AA p<4294967296)(Q:AA q<4294967296){d:Int}(U:d<=20){f:PlS->Option (am PlS Ar bR)}
 (O:∀ps b k i h,AA ps<=4096->AA b<=1000000->0<=k->k<=d->AA h<=576->f (ps,b++[⟨k,i,h⟩])=pp s p q d ps b k i h):
 ∀ (m:Nat) (k i:Int) (h:List V3) (ps:Ar) (W:XW) (n:Nat) (b:B8),k+m=d->0<=k->m+1<=n->AA h<=576->PsB ps->AA b+m<=1000000->
   ∃E j S,exO n s p q d k i h ps W=AB (exR E j S s p q d)/\PsB j/\
    (E=true->∃c,c+1<=2 ^ (m+1)/\∀N,iter f (N+c) (ps,b++[⟨k,i,h⟩])=iter f N (j,b))/\
    (E=false->∃c,c+1<=2 ^ (m+1)/\∀N,iter f (N+c) (ps,b++[⟨k,i,h⟩])=AB (.inr (mW AE j S))):=by
 intro m;induction m with
 |zero=>
  intro k i h ps W n b hk J V H a F;obtain⟨n,rfl⟩:∃m,n=m+1:=⟨n-1,qa⟩;have z:=MM s (bL p q k i).1 h (by grind[sP]) qa;have o:=GR s (bL p q k i).1 h;have e:=O ps b k i h a.1 qa J qa H;rw[G3 n s p q d k i h ps W L Q z a];unfold pp at e;generalize clsV s (bL p q k i).1 h=v at z o e⊢;by_cases y:4096<=AA ps;{rw[qc y]at e⊢;exact⟨AE,ps,_,rfl,a,(λh=>by cases h),λ_=>⟨1,jU,λN=>oU e⟩⟩};rw[qb y]at e⊢;by_cases u:v.Xk=1
  ·rw[qc u]at e⊢;refine⟨AD,_,W,rfl,⟨jZ,λx g=>?_⟩,λ_=>⟨1,jU,λN=>oF e⟩,(λh=>by cases h)⟩;rcases wC.1 g with g|g
   {exact a.2 x g};simp at g;subst g;exact o
  rw[qb u]at e⊢;by_cases A:v.Xk=2;{rw[qc A]at e⊢;exact⟨AE,ps,_,rfl,a,(λh=>by cases h),λ_=>⟨1,jU,λN=>oU e⟩⟩};rw[qb A]at e⊢;rw[qc qa]at e;rw[qb qa];exact⟨AE,ps,_,rfl,a,(λh=>by cases h),λ_=>⟨1,jU,λN=>oU e⟩⟩
 |succ m R=>
  intro k i h ps W n b hk J V H a F;obtain⟨n,rfl⟩:∃m,n=m+1:=⟨n-1,qa⟩;have z:=MM s (bL p q k i).1 h (by have:=sP p q k i;omega) qa;have o:=GR s (bL p q k i).1 h;have e:=O ps b k i h a.1 qa J qa H;rw[G3 n s p q d k i h ps W L Q z a];unfold pp at e;generalize clsV s (bL p q k i).1 h=v at z o e⊢;have t:1+1<=2 ^ (m+1+1):=by have:=Nat.one_le_two_pow (n:=m+1);omega
  by_cases y:4096<=AA ps;{rw[qc y]at e⊢;exact⟨AE,ps,_,rfl,a,(λh=>by cases h),λ_=>⟨1,t,λN=>oU e⟩⟩};rw[qb y]at e⊢;by_cases u:v.Xk=1
  ·rw[qc u]at e⊢;refine⟨AD,_,W,rfl,⟨jZ,λx g=>?_⟩,λ_=>⟨1,t,λN=>oF e⟩,(λh=>by cases h)⟩;rcases wC.1 g with g|g
   {exact a.2 x g};simp at g;subst g;exact o
  rw[qb u]at e⊢;by_cases A:v.Xk=2;{rw[qc A]at e⊢;exact⟨AE,ps,_,rfl,a,(λh=>by cases h),λ_=>⟨1,t,λN=>oU e⟩⟩};rw[qb A]at e⊢;rw[qb qa]at e;rw[qc qa];have X:AG qs (k+1)=k+1:=w64 qa qa;rw[X]at e⊢;have G:f (ps,b++[⟨k,i,h⟩])=AB (.next (ps,(b++[⟨k+1,AG qs (AG qs (2 * i)+1),v.Xf⟩])++[⟨k+1,AG qs (2 * i),v.Xf⟩])):=by rw[e,wH];rfl
  obtain⟨I,w,M,e1,P,T,b3⟩:=R (k+1) (AG qs (2 * i)) v.Xf ps W n (b++[⟨k+1,AG qs (AG qs (2 * i)+1),v.Xf⟩]) qa qa qa o a jZ;rw[e1];cases I with
  |false=>
   obtain⟨c,hc,B⟩:=b3 rfl;exact⟨AE,w,M,rfl,P,(λh=>by cases h),λ_=>⟨c+1,qa,λN=>(oF G).trans (B N)⟩⟩
  |true=>
   obtain⟨c,hc,B⟩:=T rfl;obtain⟨D,C,W2,Z,d1,d2,Y⟩:=R (k+1) (AG qs (AG qs (2 * i)+1)) v.Xf w M n b qa qa qa o P qa;refine⟨D,C,W2,Z,d1,λh=>?_,λh=>?_⟩;{obtain⟨r,K,l⟩:=d2 h;refine⟨r+c+1,qa,λN=>?_⟩;rw[show N+(r+c+1)=(N+r)+c+1 from qa,oF G,B,l]};obtain⟨r,K,l⟩:=Y h;refine⟨r+c+1,qa,λN=>?_⟩;rw[show N+(r+c+1)=(N+r)+c+1 from qa,oF G,B,l]
theorem aim (s:ak)(p q:A7):(v8 s p q).o=AB (!ln s p q):=by show(rQ s p q).run NN=_;simp only[rQ,qj,gP,nH,qG];grind[ln]
theorem QW (s:ak)(p q:A7)(d:Int)(A:AA p<4294967296)(x:AA q<4294967296):
 ∃r,(l9 s p q d).o=AB r/\(Cr s p q d).o=AB r/\ResB r/\(¬ (0<=d/\d<=20)->r=fY):=by
 have I:PsB nl:=⟨by simp[nl],by simp[nl]⟩;have Y:ResB fY:=⟨by simp[fY,nl],by simp[fY,nl],by simp[fY,nl],by simp[fY,nl],by simp[fY,nl]⟩;have J:=aim s p q;by_cases e:0<=d/\d<=20
 ·obtain⟨H,C,b⟩:=FN s p q A x e.1 e.2;have l:ResB H:=⟨b.bd.1,b.bd.2,by rw[b.norm];simp,b.lens.1,b.lens.2⟩;refine⟨H,C,?_,l,λh=>absurd e h⟩;show(rP s p q d).run NN=_;simp only[rP,qj];rw[show(⟨s.Xe,s.Xd,s.Xi⟩:ak)=s from rfl,J,qG,qh (p:=d<0) qa,qh (p:=d>20) qa];cases G:ln s p q with
  |true=>
   obtain⟨w,M,W,E,-⟩:=Uu s p q A x e.2 d.toNat 0 0 nl nl W0 NN qa qa qa jU (by show _<=4294967296;omega) (by simp[nl]) I;have g:=E3 s p q d w M W e.1 e.2 E;rw[G,C]at g;simp only[qe,Option.some.injEq]at g;rw[g];rfl
  |false=>
   simp only[wI,qH,qd,ah];generalize K:(λt:Ar×B8=>(bif qu (((AA t.2:Nat):Int)>0)then _ else _:Option (am PlS Ar bR)))=f;have j:∀M a k i h,AA M<=4096->AA a<=1000000->0<=k->k<=d->AA h<=576->f (M,a++[⟨k,i,h⟩])=pp s p q d M a k i h:=by
    intro M a k i h h1 h2 h3 h4 h5;subst K;have hl:AA (a++[(⟨k,i,h⟩:eH)])=AA a+1:=jV;have V:AG qs (((AA (a++[(⟨k,i,h⟩:eH)]):Nat):Int)-1)=(AA a:Int):=by grind[w64]
    have S:AF (a++[(⟨k,i,h⟩:eH)]) (AA a) qt=⟨k,i,h⟩:=jW;have U:(a++[(⟨k,i,h⟩:eH)]).take (AA a)=a:=jV;have P:0<=(AA a:Int)/\(AA a:Int)<((AA (a++[(⟨k,i,h⟩:eH)]):Nat):Int):=qa;have Q:AA a<AA (a++[(⟨k,i,h⟩:eH)]):=qa;have R:0<=(AA a:Int)/\(AA a:Int)<=((AA (a++[(⟨k,i,h⟩:eH)]):Nat):Int)/\0<=AA a:=qa;have pl:=sP p q k i;simp only[V,qD,S,U,ab P,ab Q,ab R];rw[ai qa];unfold pp;by_cases F:4096<=AA M;{rw[qc F,ai qa]};rw[qb F,aj qa,BR p q k i A x];simp only[qG];rw[ad6 s (bL p q k i).1 h qa qa];simp only[qG];generalize clsV s (bL p q k i).1 h=v;by_cases y:v.Xk=1;{rw[qc y,bK y,ab ⟨by simp only[qw,qy];omega,by simp only[qw,qy,au];omega⟩]};rw[qb y,bB y];by_cases z:v.Xk=2;{rw[qc z,bK z]};rw[qb z,bB z];by_cases u:k=d;{rw[qc u,bK u]};rw[qb u,bB u,ab ⟨by simp only[qw,qy];omega,by simp only[qw,qy,au];omega⟩]
   obtain⟨w,M,W,E,Z,L,N⟩:=afL s p q A x e.2 j d.toNat 0 0 nl nl W0 NN [] qa qa (by show _<=4294967296;omega) (by simp[nl]) I jZ;have g:=E3 s p q d w M W e.1 e.2 E;rw[G,C]at g;have X:2 ^ (d.toNat+1)<=2097152:=by
    have:2 ^ (d.toNat+1)<=2 ^ 21:=qT jU qa;omega
   cases w with
   |true=>
    obtain⟨c,hc,D⟩:=L rfl;have m:=D (4294967295-c+1);rw[show 4294967295-c+1+c=NN by show _=4294967296;omega,xp]at m;rw[m];have B:f (M,[])=AB (.out M):=by subst K;rfl
    rw[aja B,g];rfl
   |false=>
    obtain⟨c,hc,D⟩:=N rfl;have m:=D (4294967296-c);rw[show 4294967296-c+c=NN by show _=4294967296;omega,xp]at m;rw[m,g];rfl
 refine⟨fY,?_,?_,Y,λ_=>rfl⟩
 ·show(rU s p q d).run NN=_;have O:(fw ⟨s.Xe,s.Xd,s.Xi⟩).o=AB (aM s):=iK s;simp only[rU,qj,O,nA,qG,aS,cB,ah];have:(qu (d<0)||qu (d>20))=true:=by simp only[qW,qf];omega
  rw[this];cases ((aM s !=0)||(!aI s.Xe p|| !aI s.Xe q))<;>rfl
 show(rP s p q d).run NN=_;simp only[rP,qj];rw[show(⟨s.Xe,s.Xd,s.Xi⟩:ak)=s from rfl,J,qG];simp only[aS,ah,cB];have:(qu (d<0)||qu (d>20))=true:=by simp only[qW,qf];omega
 rw[this,Bool.or_true];rfl
def f9 (l:Ar):cl:=⟨(bG l).1,(bG l).2⟩
theorem ahn{l:Ar}(h:∀x∈l,AA x.Xf<=k):dg l<=AA l * k:=by induction l<;>grind[dg,Nat.add_mul]
theorem Si {l:Ar}(h:PsB l):dg l<=2359296:=by have:=ahn h.2;have:AA l * 576<=4096 * 576:=Nat.mul_le_mul_right _ h.1;omega
theorem aeY {l:Ar}(h:PsB l):(lU l).o=AB (f9 l)/\(nT l).o=AB (f9 l):=by have b:=Si h;have a:=h.1;exact⟨TV l (by show _<4294967296;omega) (by show _<4294967296;omega) qa qa,Tn l (by show _<4294967296;omega) (by show _<4294967296;omega) qa qa⟩
theorem aek (s:ak){d:Int}(n:0<=d)(b:d<=20)(p q:A7)(k:AA p<4294967296)(v:AA q<4294967296):
 ∃x a,(rl ⟨s,d⟩ p q).o=AB (x,a)/\(ym s p q d).o=AB (x,a)/\PkB x/\(a=true->(ll x).2=AD/\(dH s p q (ll x).1).2=0):=by
 obtain⟨r,e,C,-,-⟩:=QW s p q d k v;obtain⟨G,i,a⟩:=FN s p q k v n b;rw[e]at i;injection i with i;subst i;have B:(⟨s.Xe,s.Xd,s.Xi⟩:ak)=s:=rfl;have w:(rl ⟨s,d⟩ p q).o=(yI ⟨s,d⟩ p q).run NN:=rfl;have D:(ym s p q d).o=(DM s p q d).run NN:=rfl;rw[w,D];simp only[yI,DM,qj,e,C,qG];by_cases c:r.Xk=1
 ·have F:∀x∈r.Xs,AA x.Xf<4294967296:=λx f=>by have:=a.bd.2 x f;omega
  have I:=a.bd.1;have A:=QF n b a c;have H:m8 s p q r.Xs=dJ (cz s p q) r.Xs:=by grind[m8]
  have t:=acC A;have m:PsB (dJ (cz s p q) r.Xs):=by
   refine⟨(check_tlb.1 t).2.1,λx f=>?_⟩;have z:=(check_tlb.1 t).2.2.2 x f;have E:=(free_iff.1 z).2.2.1;grind[mr]
  obtain⟨x,g,f⟩:=Z4 _ m;obtain⟨j,y⟩:=aeY m;rw[j]at g;injection g with g;have l:ll (f9 (dJ (cz s p q) r.Xs))=(dJ (cz s p q) r.Xs,AD):=adS _;refine⟨f9 (dJ (cz s p q) r.Xs),AD,?_,?_,g▸f,λ_=>?_⟩;all_goals grind[Zv,ab3]
 refine⟨⟨nl,nl⟩,AE,?_,?_,⟨by simp[nl],by simp[nl],λu l=>by cases l⟩,λh=>by cases h⟩;all_goals grind
def edE (s:ak)(d:Int)(p q:A7):cl×Bool:=(rl ⟨s,d⟩ p q).o.getD qt
theorem HO (s:ak){d:Int}(e:0<=d)(a:d<=20)(p q:A7)(b:AA p<4294967296)(c:AA q<4294967296):
 (rl ⟨s,d⟩ p q).o=AB (edE s d p q)/\(ym s p q d).o=AB (edE s d p q)/\PkB (edE s d p q).1/\((edE s d p q).2=true->(ll (edE s d p q).1).2=AD/\(dH s p q (ll (edE s d p q).1).1).2=0):=by
 obtain⟨x,h,i,g,j,f⟩:=aek s e a p q b c;grind[edE]
theorem ZK (s:ak)(c:A8):(N9 s c).o=AB (f7 s c):=by
 show(Me s c).run NN=_;simp only[Me,qj,gP,qG,nH];unfold f7;by_cases h:aM s=0
 ·rw[aJ h,qb (λa=>a h)];simp only[aS,ah,cB];by_cases b:AA c<2\/AA c>256;{grind};rw[qb b,cT jX];refine(aU (λi=>sw (outP s.Xe c i) ((i:Int),(1201:Int))) (AA c) qa (λj d=>?_) ?_).trans ?_;all_goals grind[ab,wn,sw,outP]
 grind
abbrev gE (s:ak)(d:Int)(c:A8)(i:Nat):cl×Bool:=edE s d (AF c i qt) (AF c (i+1) qt)
def badE (s:ak)(d:Int)(c:A8):Option Int:=scan (λi=>sw (!(gE s d c i).2) (i:Int)) (AA c-1) 0
def bldV (s:ak)(d:Int)(c:A8):aH×Int×Int:=
 if(f7 s c).2≠0 then(⟨nl,nl⟩,f7 s c)else match badE s d c with
  |some i=>(⟨nl,nl⟩,i,2204)
  |none=>(⟨c,tab (λi=>(gE s d c i).1) (AA c-1)⟩,0,0)
theorem Ts (s:ak){d:Int}(c:A8){R:Type}(f:Int->R):∀ (n i:Nat),scan (λi=>sw (!(gE s d c i).2) (f (i:Int))) n i=(scan (λi=>sw (!(gE s d c i).2) (i:Int)) n i).map f:=by
 intro n;induction n with
 |zero=>intro i;rfl
 |succ n a=>
  intro i;simp only[scan];rw[a (i+1)];cases (gE s d c i).2<;>rfl
section
variable (s:ak) {d:Int} (h0:0<=d) (h20:d<=20) (c:A8) (hc:CfB c) (h1:2<=AA c)
include h0 h20 hc h1
theorem aab:(OL c ⟨s,d⟩).o=AB (match badE s d c with|some i=>(nl,i,2204)|none=>(tab (λi=>(gE s d c i).1) (AA c-1),0,0)):=by
 have l:=hc.1;show(yG c ⟨s,d⟩).run NN=_;have b:(1:Int).toNat=1:=rfl;simp only[yG,qj,b,qD,ahl (show 1<=AA c from qa)];rw[ab qa];refine(gn (λj=>(tab (λi=>(gE s d c i).1) j,(j:Int))) (λi=>sw (!(gE s d c i).2) ((nl:B0),(i:Int),(2204:Int))) (tab (λi=>(gE s d c i).1) (AA c-1)) (AA c-1) rfl (by show _<4294967296;omega) (λj h=>?_) ?_).trans ?_
 ·have g:=hc.get (show j<AA c from qa);have m:=hc.get (show j+1<AA c from qa);obtain⟨e,-⟩:=HO s h0 h20 (AF c j qt) (AF c (j+1) qt) qa qa;grind[sw,ab,aZ,au,wn,dM]
 {simp_all};unfold badE;rw[Ts s (d:=d) c (λi=>((nl:B0),i,(2204:Int)))];grind
end
theorem GQ {s:ak}{c:A8}(k:(f7 s c).2=0):CfB c/\2<=AA c:=by obtain⟨g,a,f⟩:=chkPV_iff.1 k;refine⟨⟨a.2,λx d=>?_⟩,a.1⟩;obtain⟨i,e,rfl⟩:=wh d;have:=f i e;have:=Fy this;grind
theorem abC (s:ak){d:Int}(b:0<=d)(a:d<=20)(c:A8):(P7 s c d).o=AB (bldV s d c):=by show(DC s c d).run NN=_;simp only[DC,qj,Yu,qG];grind[bldV,GQ,aab,badE,aaC]
theorem ab2 (s:ak){d:Int}(m:0<=d)(f:d<=20)(c:A8):(Ps s c d).o=AB (bldV s d c):=by
 show(BY s c d).run NN=_;have r:(⟨s.Xe,s.Xd,s.Xi⟩:ak)=s:=rfl;simp only[BY,qj,ZK,qG];unfold bldV;by_cases k:(f7 s c).2=0
 ·obtain⟨l,y⟩:=GQ k;have z:=l.1;rw[aJ k,qb (λh=>h k)];refine(gn (λj=>(c.take j,tab (λi=>(gE s d c i).1) (j-1),(j:Int))) (λi=>if i=0 then AC else sw (!(gE s d c (i-1)).2) ((⟨nl,nl⟩:aH),((i-1:Nat):Int),(2204:Int))) (c,tab (λi=>(gE s d c i).1) (AA c-1)) (AA c) rfl (by show _<4294967296;omega) (λj v=>?_) ?_).trans ?_
  ·have A:=l.get v;dsimp only;have t:c.take (j+1)=c.take j++[AF c j qt]:=by
    simp_all
   rw[ai qa,ab qa,qD,ab (by rw[au];omega),ab (by grind[au]),wn qa];by_cases b:j=0;{grind[ah]};have w:AG qs ((j:Int)-1)=((j-1:Nat):Int):=by grind[w64]
   have x:=l.get (show j-1<AA c from qa);obtain⟨-,e,-⟩:=HO s m f (AF c (j-1) qt) (AF c j qt) qa qa;rw[qb b,show((j:Int)==0)=AE by simpa using b,qd,w,ab qa,ab qa,qD,e];simp only[qG];have p:edE s d (AF c (j-1) qt) (AF c j qt)=gE s d c (j-1):=by unfold gE;rw[show j-1+1=j from qa]
   rw[p];cases (gE s d c (j-1)).2 with
   |false=>rfl
   |true=>
    simp only[qH,qd,sw];rw[ab (by simp only[aZ,qw,qy,au];omega),ah,t,show j+1-1=(j-1)+1 from qa,dM]
  {dsimp only;rw[aj qa,wS]};have g:scan (λi=>if i=0 then AC else sw (!(gE s d c (i-1)).2) ((⟨nl,nl⟩:aH),((i-1:Nat):Int),(2204:Int))) (AA c) 0=(badE s d c).map λi=>((⟨nl,nl⟩:aH),i,(2204:Int)):=by
   unfold badE;rw[<-Ts s (d:=d) c (λi=>((⟨nl,nl⟩:aH),i,(2204:Int)))];have a:∀ (n i:Nat),scan (λi=>if i=0 then AC else sw (!(gE s d c (i-1)).2) ((⟨nl,nl⟩:aH),((i-1:Nat):Int),(2204:Int))) n (i+1)=scan (λi=>sw (!(gE s d c i).2) ((⟨nl,nl⟩:aH),(i:Int),(2204:Int))) n i:=by
    intro n;induction n with
    |zero=>intro i;rfl
    |succ n u=>
     intro i;simp only[scan];rw[u (i+1),qb qa,show i+1-1=i from qa]
   obtain⟨n,q⟩:∃n,AA c=n+1:=⟨AA c-1,qa⟩;rw[q,show n+1-1=n from qa,<-a n 0];rfl
  rw[g];cases badE s d c<;>rfl
 rw[bJ k,qc k]
def PkF (x:cl):Prop:=AA x.XP<=4194304/\(AA x.XI)<=4194304/\∀u∈x.XI,AA u.XD<=4194304
def PaF (x:aH):Prop:=AA x.Xc<=8388608/\(∀c∈x.Xc,AA c<=4194304)/\(AA x.Xa)<=8388608/\∀y∈x.Xa,PkF y
theorem PkB.f {x:cl}(h:PkB x):PkF x:=⟨by have:=h.1;omega,by have:=h.2.1;omega,λu a=>by have:=h.2.2 u a;omega⟩
theorem PaB.f {x:aH}(h:PaB x):PaF x:=⟨by have:=h.1.1;omega,λc hc=>by have:=h.1.2 c hc;omega,by have:=h.2.1;omega,λy a=>(h.2.2 y a).f⟩
theorem aaD (c:A8)(h:AA c<4294967296)(a:∀x∈c,AA x<4294967296):(uJ c).o=AB c:=by show(pD c).run NN=_;simp only[pD,qj,Qy c h,qG];refine(aO (λj=>(c,(j:Int))) c (AA c) rfl (show AA c<4294967296 from qa) (λj hj=>?_) ?_).trans rfl;{have b:=a _ (aF hj);rw[ai j9,ab ⟨jV,j9⟩];simp only[qD];rw[ab hj,QY _ qa,qG,ab ⟨qa,qa⟩,ab ⟨hj,qa⟩,wn qa];exact congrArg (λx=>AB (am.next (x,((j+1:Nat):Int)))) (mL hj)};rw[aj jV]
def eqV (a b:A7):Bool:=if AA a=AA b then match scan (λj=>sw (AF a j qt !=AF b j qt) AE) (AA a) 0 with|some r=>r|none=>AD else AE
theorem afo (a:A7)(h:AA a<4294967296):(M7 a a).o=AB true:=by show(Ks a a).run NN=_;simp only[Ks,qj];rw[aJ rfl];refine(aU (λ_=>AC) (AA a) h (λj b=>?_) ?_).trans ?_;{rw[ai qa,ab qa,ab qa,wn qa,aJ rfl]};{rw[aj qa]};rw[(di _ _).2 (λ_ _ _=>rfl)]
theorem afp (a:A7)(h:AA a<4294967296):(N1 a a).o=AB true:=by show(L3 a a).run NN=_;simp only[L3,qj];rw[aJ rfl];refine(aU (λ_=>AC) (AA a) h (λj b=>?_) ?_).trans ?_;{rw[ai qa,ab qa,ab qa,wn qa,aJ rfl]};{rw[aj qa]};rw[(di _ _).2 (λ_ _ _=>rfl)]
theorem adY (a:A8)(h:AA a<4294967296)(e:∀x∈a,AA x<4294967296):(Wf a a).o=AB true:=by show(I0 a a).run NN=_;simp only[I0,qj];rw[aJ rfl];refine(aU (λ_=>AC) (AA a) h (λj b=>?_) ?_).trans ?_;{rw[ai qa,ab qa,ab qa,wn qa,qD,afo _ (e _ (aF b))];rfl};{rw[aj qa]};rw[(di _ _).2 (λ_ _ _=>rfl)]
theorem acY (x:cl)(h:PkF x):(M6 x x).o=AB true:=by obtain⟨h0,h1,a⟩:=h;show(Kr x x).run NN=_;simp only[Kr,qj,ahf x.XP qa,qG,qH,qd,bne_self_eq_false,ah];refine(aU (λ_=>AC) (AA x.XI) qa (λj b=>?_) ?_).trans ?_;{have e:=a _ (aF b);rw[ai qa,ab qa,ab qa,wn qa,qD,afp _ qa];rfl};{rw[aj qa]};rw[(di _ _).2 (λ_ _ _=>rfl)]
theorem afq (x:aH)(h:PaF x):(L1 x x).o=AB true:=by obtain⟨h0,h1,e,a⟩:=h;show(L2 x x).run NN=_;simp only[L2,qj,adY x.Xc qa (λc hc=>by have:=h1 c hc;omega),qG,qH,qd,bne_self_eq_false,ah];refine(aU (λ_=>AC) (AA x.Xa) qa (λj b=>?_) ?_).trans ?_;{rw[ai qa,ab qa,ab qa,wn qa,qD,acY _ (a _ (aF b))];rfl};{rw[aj qa]};rw[(di _ _).2 (λ_ _ _=>rfl)]
def un (x:aH):Prop:=2<=AA x.Xc/\(AA x.Xa)+1=AA x.Xc
instance (x:aH):Decidable (un x):=by unfold un;infer_instance
def U6 (a b:aH):Prop:=un a/\un b/\eqV (AF a.Xc (AA a.Xc-1) qt) (AF b.Xc 0 qt)=AD/\(AA a.Xc)+AA b.Xc<=257
instance (a b:aH):Decidable (U6 a b):=by unfold U6;infer_instance
theorem nil_PaB:PaB ⟨nl,nl⟩:=⟨⟨by simp[nl],λx a=>by cases a⟩,by simp[nl],λx a=>by cases a⟩
theorem ahy (s:ak){d:Int}(h0:0<=d)(h20:d<=20)(c:A8):PaB (bldV s d c).1:=by
 unfold bldV;by_cases k:(f7 s c).2=0
 ·rw[qb (λh=>h k)];obtain⟨hc,j⟩:=GQ k;have hl:=hc.1;cases badE s d c with
  |some i=>exact nil_PaB
  |none=>
   refine⟨hc,by simp only[aZ];omega,λy b=>?_⟩;have b:y∈tab (λi=>(gE s d c i).1) (AA c-1):=b;obtain⟨i,a,rfl⟩:=wh b;have g:i<AA c-1:=by simpa only[aZ]using a
   have o:=hc.get (show i<AA c from qa);have p:=hc.get (show i+1<AA c from qa);have e:(tab (λi=>(gE s d c i).1) (AA c-1))[i]=(gE s d c i).1:=by
    have:=ek (d:=qt) (f:=λi=>(gE s d c i).1) g;rwa[qY,xa a,xb]at this
   rw[e];exact(HO s h0 h20 (AF c i qt) (AF c (i+1) qt) qa qa).2.2.1
 rw[qc k];exact nil_PaB
theorem adi (l:Az)(h:AA l<4294967296):(VX l).o=AB l:=fe qa jU
theorem acp (l:B0)(h:AA l<4294967296):(VF l).o=AB l:=fe qa jU
theorem adh (l:A7)(h:AA l<4294967296):(I5 l).o=AB l:=fe qa jU
theorem aaB (p:cl)(h:PkF p):(Wx p).o=AB (p.XP,p.XI):=by obtain⟨h0,h1,a⟩:=h;show(J0 p).run NN=_;simp only[J0,qj,adi p.XI qa,qG];refine(aO (λj=>(p.XI,(j:Int))) p.XI (AA p.XI) rfl (show AA p.XI<4294967296 from qa) (λj hj=>?_) ?_).trans ?_;{have b:=a _ (aF hj);rw[ai j9,ab ⟨jV,j9⟩];simp only[qD];rw[ab hj,adh _ qa,qG,ab ⟨qa,qa⟩,ab ⟨hj,qa⟩,wn qa];exact congrArg (λx=>AB (am.next (x,((j+1:Nat):Int)))) (mL hj)};{rw[aj jV]};rw[RJ p.XP qa];rfl
theorem acm (p:aH)(h:PaF p):(P8 p).o=AB (p.Xc,p.Xa):=by obtain⟨h0,h1,e,a⟩:=h;show(DD p).run NN=_;simp only[DD,qj,acp p.Xa qa,qG];refine(aO (λj=>(p.Xa,j,(j:Int))) p.Xa (AA p.Xa) rfl (show AA p.Xa<4294967296 from qa) (λj hj=>?_) ?_).trans ?_;{rw[ai j9,ab ⟨jV,j9⟩];simp only[qD];rw[ab ⟨we _,hj⟩,aaB _ (a _ (aF hj)),qG,ab ⟨qa,qa⟩,ab hj,ab trivial,wn qa];exact congrArg (λx=>AB (am.next (x,j+1,((j+1:Nat):Int)))) (mL hj)};{rw[aj jV,ab rfl]};rw[aaD p.Xc qa (λx b=>by have:=h1 x b;omega)];rfl
variable {j:Nat}
theorem ow{α:Type}[Inhabited α]{l:List α}{v:α}(h:k<AA l):AF (l.set k v) j qt=if k=j then v else AF l j qt:=by simp only[qY,xq,h,if_true];split<;>rfl
theorem mI {α:Type}[Inhabited α]{a b:List α}(hl:AA a=AA b)(h:∀i,i<AA a->AF a i qt=AF b i qt):a=b:=by refine xr hl (λi h1 e=>?_);have:=h i h1;simpa only[qY,xa h1,xa e,xb]using this
def eqW (a b:A7):Bool:=qu (a=b)
theorem Rq (a b:A7)(h:AA a<4294967296):(Jv a b).o=AB (eqW a b):=by
 show(Jw a b).run NN=_;simp only[Jw,qj];unfold eqW;by_cases e:AA a=AA b
 ·rw[aJ qa];refine(aU (λj=>sw (AF a j qt !=AF b j qt) AE) (AA a) h (λj k=>?_) ?_).trans ?_;{rw[ai qa,ab qa,ab qa,wn qa,qD,<-co]};{simp_all};rw[ct];by_cases d:aA (λj=>AF a j qt !=AF b j qt) (AA a)=AD
  ·rw[d];have:a=b:=mI e λi g=>by
    have:=of_decide_eq_true d i g;simp_all
   rw[qg this];rfl
  have f:aA (λj=>AF a j qt !=AF b j qt) (AA a)=false:=by simp_all
  rw[f];have:a≠b:=λh=>d (by subst h;exact qg (λi _=>jV))
  rw[qh this];rfl
 rw[bJ qa,qh (λh=>e (by rw[h]))]
def memB (l:A8)(c:A7):Bool:=qu (c∈l)
theorem af0 (l:A8)(c:A7)(a:AA l<4294967296)(b:∀x∈l,AA x<4294967296):∃z,(Mi l c).o=AB z/\qu (z>=0)=memB l c:=by refine⟨match scan (λi=>sw (eqW (AF l i qt) c) (i:Int)) (AA l) 0 with|some x=>x|none=> -1,?_,?_⟩;{show(Mj l c).run NN=_;simp only[Mj,qj];refine(aU (λi=>sw (eqW (AF l i qt) c) (i:Int)) (AA l) a (λj d=>?_) ?_).trans ?_;all_goals grind[ab,wn,Rq,sw]};refine(tR (g:=λi=>eqW (AF l i qt) c) (n:=AA l)).trans ?_;grind[memB,aA,eqW,wh]
abbrev K10:=Int×Int×Int×Int×Int×Int×Int×Int×Int×Int
def keyC (c:A7):K10:=((if 0<AA c then AF c 0 qt else 0),(if 1<AA c then AF c 1 qt else 0),(if 2<AA c then AF c 2 qt else 0),(if 3<AA c then AF c 3 qt else 0),(if 4<AA c then AF c 4 qt else 0),(if 5<AA c then AF c 5 qt else 0),(if 6<AA c then AF c 6 qt else 0),(if 7<AA c then AF c 7 qt else 0),(if 8<AA c then AF c 8 qt else 0),(if 9<AA c then AF c 9 qt else 0))
theorem agz {a b:A7}(d:AA a=AA b)(e:AA a<=10)(h:keyC a=keyC b):a=b:=by
 refine mI d λi f=>?_
 simp only[keyC,Prod.mk.injEq,<-d]at h;have c:i<10:=qa
 match i,c with
 |0,_=>omega
 |1,_=>omega
 |2,_=>omega
 |3,_=>omega
 |4,_=>omega
 |5,_=>omega
 |6,_=>omega
 |7,_=>omega
 |8,_=>omega
 |9,_=>omega
def mapC (l:A8):List (K10×Bool):=(l.map λc=>(keyC c,AD)).reverse
def disL (r:ao)(a:A8):Nat->A8
 |0=>[]
 |j+1=>if aI r (AF a j qt)=AD/\¬AF a j qt∈disL r a j then disL r a j++[AF a j qt]else disL r a j
theorem k0 (r:ao)(a:A8):∀j,AA (disL r a j)<=j
 |0=>we _
 |j+1=>by
  have:=k0 r a j;unfold disL;split;{simp;omega};omega
theorem iW (r:ao)(a:A8):∀j x,x∈disL r a j->aI r x=AD
 |0,_,h=>by cases h
 |j+1,x,h=>by
  unfold disL at h;split at h
  ·rename_i b;rcases wC.1 h with h|h
   {exact iW r a j x h};simp at h;subst h;exact b.1
  exact iW r a j x h
theorem oG (l:A7)(h:AA l<4294967296):(gK l).o=AB l:=fe qa jU
theorem ec {r:ao}{c:A7}(h:aI r c=AD):AA c=AA r.Xb/\(AA c)<=10:=by grind[aI,dA]
theorem max_comm' (a b:Int):max a b=max b a:=qa
def badD (r:ao)(p q:A7):Bool:= !(qu (AA p=AA r.Xb)&&(qu (AA q=AA r.Xb)&&(dD p&&(dD q&&qu (aQ r=0)))))
def Vm (r:ao)(p q:A7)(a:Int)(j:Nat):Int:=AG qs (a+AG qs ((AF r.Xb j qt).XG * max (AG qs (AF q j qt-AF p j qt)) (AG qs (AF p j qt-AF q j qt))))
def sumD (r:ao)(p q:A7):Nat->Int
 |0=>0
 |n+1=>Vm r p q (sumD r p q n) n
def dstV (r:ao)(p q:A7):Int:=bif badD r p q then 0 else sumD r p q (AA r.Xb)
theorem GH (r:ao)(p q:A7)(b:AA p<4294967296)(c:AA q<4294967296):(uG r p q).o=AB (dstV r p q):=by
 show(Li r p q).run NN=_;have i:(⟨r.Xb,r.Xl⟩:ao)=r:=rfl;simp only[Li,qj,i,v6 p b,v6 q c,gO,qG];unfold dstV badD;by_cases a:aQ r=0
 ·rw[aJ a,qg a];cases dD p with
  |false=>grind[ah]
  |true=>
   cases dD q with
   |false=>grind[ah]
   |true=>
    simp only[qH,qd];by_cases k:AA p=AA r.Xb
    ·rw[aJ qa];by_cases h:AA q=AA r.Xb
     ·have f:(((AA q:Nat):Int) !=((AA p:Nat):Int))=false:=by simp_all
      rw[f,ah,qg k,qg h];refine(aO (λj=>(sumD r p q j,(j:Int))) (sumD r p q (AA r.Xb)) (AA r.Xb) rfl (by show _<4294967296;omega) (λj l=>?_) ?_).trans rfl
      ·have e:0<=(j:Int)/\(j:Int)<(AA r.Xb:Int):=qa;have d:0<=(j:Int)/\(j:Int)<(AA p:Int):=qa;have g:0<=(j:Int)/\(j:Int)<(AA q:Int):=qa;rw[ai qa];simp only[ab e,ab d,ab g,wn (show j<4294967296 from qa),qD];rw[max_comm'];rfl
      simp_all
     grind[ah]
    grind[ah]
 grind[ah]
section
variable {α:Type} [Inhabited α]
def swK (l:List α):Nat->List α
 |0=>l
 |k+1=>((swK l k).set k (AF (swK l k) (AA l-1-k) qt)).set (AA l-1-k) (AF (swK l k) k qt)
theorem oM (l:List α):∀k,AA (swK l k)=AA l
 |0=>rfl
 |k+1=>by simp[swK,oM l k]
theorem RZ{l:List α}{v:α}(a:j<AA l):AF (l.set k v) j qt=if j=k then v else AF l j qt:=by simp only[qY,xq];by_cases e:k=j;{subst e;simp[a]};rw[qb e,qb (λh=>e h.symm)]
theorem T9 (l:List α):∀k,k<=AA l / 2->∀i,i<AA l->AF (swK l k) i qt=if i<k\/AA l-k<=i then AF l (AA l-1-i) qt else AF l i qt
 |0,_,i,a=>by rw[qb qa];rfl
 |k+1,g,i,a=>by
  have b:=T9 l k qa;have hl:=oM l k;simp only[swK];rw[RZ (by simp[hl];exact a),RZ (by rw[hl];exact a),b k qa,b _ qa,b i a];by_cases h1:i=AA l-1-k;{rw[qc h1,qb qa,qc qa,show AA l-1-i=k from qa]};rw[qb h1];by_cases e:i=k;{subst e;rw[qc rfl,qb qa,qc qa]};rw[qb e];by_cases f:i<k\/AA l-k<=i;{rw[qc f,qc qa]};rw[qb f,qb qa]
theorem aiE (l:List α):swK l (AA l / 2)=l.reverse:=by
 refine xr (by simp[oM]) λi h1 e=>?_
 have b:i<AA l:=by rw[oM]at h1;exact h1
 have:=T9 l _ (we _) i b;rw[qY,xa h1,xb]at this;rw[this,List.getElem_reverse];by_cases a:i<AA l / 2\/AA l-AA l / 2<=i;{rw[qc a,qY,xa qa,xb]};rw[qb a,qY,xa b,xb];congr 1;omega
theorem GI {R:Type}{f:List α×Int×Int->Option (am (List α×Int×Int) (List α) R)}{k:List α->Option R}(l:List α)(hl:AA l<4294967296)
 (b:∀ (X:List α) (i j:Nat),AA X=AA l->i<j->j<AA l->f (X,(i:Int),(j:Int))=AB (.next (((X.set i (AF X j qt)).set j (AF X i qt)),AG qs ((i:Int)+1),AG qs ((j:Int)-1))))
 (a:∀ (X:List α) (i j:Int),¬i<j->f (X,i,j)=AB (.out X)):andK (iter f NN (l,0,AG qs (((AA l:Nat):Int)-1))) k=k l.reverse:=by
 rw[w64 qa qa,<-aiE l];refine aO (λj=>(swK l j,(j:Int),((AA l:Nat):Int)-1- (j:Int))) _ (AA l / 2) ?_ (show AA l / 2<4294967296 from qa) (λj g=>?_) ?_;{simp only[swK];simp}
 ·have e:((AA l:Nat):Int)-1- (j:Int)=((AA l-1-j:Nat):Int):=qa;rw[e,b _ j (AA l-1-j) (oM l j) qa qa,w64 qa qa,w64 qa qa];simp only[swK];congr 4;omega
 exact a _ _ _ qa
def mapK (g:α->α)(l:List α)(k:Nat):List α:=(l.take k).map g++l.drop k
omit [Inhabited α]in
theorem Gz (g:α->α)(l:List α)(k:Nat):AA (mapK g l k)=AA l:=by simp[mapK];omega
theorem Gy(g:α->α)(l:List α)(h:k<AA l):AF (mapK g l k) k qt=AF l k qt:=by simp only[mapK,qY];rw[List.getElem?_append_right jZ];simp[show k-min k (AA l)=0 from qa]
theorem S3(g:α->α)(l:List α)(h:k<AA l):(mapK g l k).set k (g (AF l k qt))=mapK g l (k+1):=by
 simp only[mapK];rw[List.set_append_right _ _ jZ];have e:k- AA ((l.take k).map g)=0:=jZ;have a:l.take (k+1)=l.take k++[l[k]]:=by rw[xm,xa h];rfl
 rw[e,List.drop_eq_getElem_cons h,List.set_cons_zero,a,w7,wH];simp[qY,xa h]
omit [Inhabited α]in
theorem S2 (g:α->α)(l:List α):mapK g l (AA l)=l.map g:=by simp[mapK]
end
theorem afc (l:A8)(hl:AA l<4294967296):(V6 l).o=AB l.reverse:=by show(IC l).run NN=_;simp only[IC,qj];refine GI l hl (λX i j b a e=>?_) (λX i j h=>by rw[aj h]);simp only[qD,qZ];rw[ai qa,ab qa,ab qa,ab qa,ab qa,ab qa,ab qa,ab qa,ab qa]
theorem agP (l:Az)(hl:AA l<4294967296):(VS l).o=AB l.reverse:=by show(Iq l).run NN=_;simp only[Iq,qj];refine GI l hl (λX i j b a e=>?_) (λX i j h=>by rw[aj h]);simp only[qD,qZ];rw[ai qa,ab qa,ab qa,ab qa,ab qa,ab qa,ab qa,ab qa,ab qa]
theorem afd (l:B0)(hl:AA l<4294967296):(VE l).o=AB l.reverse:=by show(Ic l).run NN=_;simp only[Ic,qj];refine GI l hl (λX i j b a e=>?_) (λX i j h=>by rw[aj h]);simp only[qD];rw[ai qa,ab qa,ab qa,ab qa,ab qa,ab qa,ab qa,ab qa]
def revU (u:ez):ez:=if 0<=u.Xg/\u.Xg<=20 then⟨u.Xg,AG qs (2 ^ u.Xg.toNat-1-u.Xj),u.XD⟩else u
def revK (y:cl):cl:=⟨y.XP,y.XI.reverse.map revU⟩
def revP (x:aH):aH:=⟨x.Xc.reverse,x.Xa.reverse.map revK⟩
theorem Vk {d:Int}(h:0<=d/\d<=20)(i:Int):AG qs (AG qs (AG qs (1 * 2 ^ (min d.toNat 64))-1)-i)=AG qs (2 ^ d.toNat-1-i):=by have:=pow9 h.1 h.2;rw[show min d.toNat 64=d.toNat from qa,xl,w64 (x:=2 ^ d.toNat) qa qa,w64 (x:=2 ^ d.toNat-1) qa qa]
theorem ae6 (x:aH)(h:PaF x):(OK x).o=AB (revP x):=by
 obtain⟨h0,h1,B,w⟩:=h;show(yF x).run NN=_;have A:(⟨x.Xc,x.Xa⟩:aH)=x:=rfl;simp only[yF,qj,A,acm x ⟨h0,h1,B,w⟩,afc x.Xc qa,afd x.Xa qa,qG];have f:AA x.Xa.reverse=AA x.Xa:=jV;have e:∀y∈x.Xa.reverse,PkF y:=λy F=>w y (by simpa using F)
 unfold revP;generalize x.Xa.reverse=E at f e;refine(aO (λj=>(mapK revK E j,(j:Int))) (E.map revK) (AA E) (by simp[mapK]) (show AA E<4294967296 from qa) (λj k=>?_) ?_).trans rfl
 ·obtain⟨G,H,I⟩:=e _ (aF k);have hl:=Gz revK E j;rw[ai qa,qD];simp only;rw[ab qa,ab qa,Gy revK E k,agP _ qa,qG];have p:(AF E j qt).XI.reverse.length=(AF E j qt).XI.length:=by simp
  refine(aO (λi=>(mapK revU (AF E j qt).XI.reverse i,(i:Int))) ((AF E j qt).XI.reverse.map revU) (AF E j qt).XI.reverse.length (by simp[mapK]) (show(AF E j qt).XI.reverse.length<4294967296 from qa) (λi g=>?_) ?_).trans ?_
  ·generalize (AF E j qt).XI.reverse=U at g p;have D:=Gz revU U i;rw[ai qa,qD];simp only;rw[ab qa,ab qa,Gy revU U g];generalize hv:AF U i qt=u;have a:=S3 revU U g;rw[hv]at a;by_cases c:0<=u.Xg/\u.Xg<=20;{rw[qg c.1,qg c.2];simp only[qe,ah];rw[ab c.1,ab qa,ab ⟨qa,Nat.zero_le _⟩,Vk c,ah,wn qa];rw[show revU u=⟨u.Xg,AG qs (2 ^ u.Xg.toNat-1-u.Xj),u.XD⟩from qc c]at a;rw[a]};rw[show revU u=u from qb c]at a;have b:mapK revU U i=mapK revU U (i+1):=by
    rw[<-a,<-hv,<-Gy revU U g,mL qa]
   by_cases r:u.Xg>=0;{rw[qg r,qh (show ¬u.Xg<=20 from qa)];simp only[qe,qd,ah];rw[wn qa,<-b]};rw[qh r];simp only[qd,ah];rw[wn qa,<-b]
  {have D:=Gz revU (AF E j qt).XI.reverse (AF E j qt).XI.reverse.length;rw[aj qa,S2]};rw[wn qa];exact congrArg (λz=>AB (am.next (z,((j+1:Nat):Int)))) (S3 revK E k)
 rw[aj (by rw[f];omega),S2]
theorem afb (u:ez):(revU u).XD=u.XD:=by unfold revU;split<;>rfl
theorem ajy {y:cl}(h:PkF y):PkF (revK y):=by obtain⟨h0,h1,a⟩:=h;refine⟨h0,by simpa[revK]using h1,λu b=>?_⟩;obtain⟨v,hv,rfl⟩:=List.mem_map.1 b;rw[afb];exact a v (by simpa using hv)
theorem al0{α:Type}[Inhabited α]{l:List α}(h:k<AA l):AF l.reverse k qt=AF l (AA l-1-k) qt:=by rw[qY,qY,List.getElem?_reverse h]
theorem RY{α β:Type}[Inhabited α][Inhabited β]{g:α->β}{l:List α}(h:k<AA l):AF (l.map g) k qt=g (AF l k qt):=by simp[qY,xa h]
theorem Fz {σ τ R:Type}{f:σ->Option (am σ τ R)}(I:Nat->σ->Prop)(Q:τ->Prop)
 (d:∀m x,I m x->(∃a b,f x=AB (.next a)/\b<m/\I b a)\/∃y,f x=AB (.out y)/\Q y):
 ∀ (N m:Nat) (x:σ),I m x->m<N->∃y,iter f N x=AB (.inl y)/\Q y
 |0,_,_,_,h=>qa
 |N+1,m,x,g,h=>by
  rcases d m x g with⟨a,b,c,i,e⟩|⟨y,c,i⟩;{rw[mz c];exact Fz I Q d N b a e qa};grind[iter]
theorem Ra {σ τ R:Type}{f:σ->Option (am σ τ R)}(I:Nat->σ->Prop)(Q:τ ⊕ R->Prop)
 (e:∀m x,I m x->(∃a b,f x=AB (.next a)/\b<m/\I b a)\/(∃y,f x=AB (.out y)/\Q (.inl y))\/∃r,f x=AB (.fin r)/\Q (.inr r)):
 ∀ (N m:Nat) (x:σ),I m x->m<N->∃y,iter f N x=AB y/\Q y
 |0,_,_,_,h=>qa
 |N+1,m,x,i,h=>by
  rcases e m x i with⟨a,b,c,d,g⟩|⟨y,c,d⟩|⟨y,c,d⟩;{rw[mz c];exact Ra I Q e N b a g qa};all_goals grind[iter]
theorem R6{σ τ R:Type}{f:σ->Option (am σ τ R)}{N:τ->Option R}{P:R->Prop}{x:σ}(I:Nat->σ->Prop)(Q:τ->Prop)(m:Nat)(c:I m x)(d:m<k)
 (e:∀m x,I m x->(∃a b,f x=AB (.next a)/\b<m/\I b a)\/∃y,f x=AB (.out y)/\Q y) (i:∀y,Q y->∃r,N y=AB r/\P r):∃r,andK (iter f k x) N=AB r/\P r:=by
 obtain⟨y,g,h⟩:=Fz I Q e k m x c d;grind[fa]
theorem TO{σ τ R β:Type}{f:σ->Option (am σ τ R)}{N:τ->Option R}{g:β->R}{P:β->Prop}{x:σ}(I:Nat->σ->Prop)(Q:τ->Prop)(m:Nat)(d:I m x)(e:m<k)
 (h:∀m x,I m x->(∃a c,f x=AB (.next a)/\c<m/\I c a)\/∃y,f x=AB (.out y)/\Q y) (l:∀y,Q y->∃b,N y=AB (g b)/\P b):∃b,andK (iter f k x) N=AB (g b)/\P b:=by
 obtain⟨y,i,j⟩:=Fz I Q h k m x d e;grind[fa]
theorem ip{σ τ R β:Type}{f:σ->Option (am σ τ R)}{N:τ->Option R}{g:β->R}{P:β->Prop}{x:σ}(I:Nat->σ->Prop)(Q:τ->Prop)(m:Nat)(i:I m x)(e:m<k)
 (j:∀m x,I m x->(∃a,f x=AB (.next a)/\∃c,c<m/\I c a)\/∃y,f x=AB (.out y)/\Q y) (d:∀y,Q y->∃b,N y=AB (g b)/\P b):∃b,andK (iter f k x) N=AB (g b)/\P b:=by
 refine TO I Q m i e (λm x h=>?_) d;simp_all
theorem mg{σ τ R:Type}{f:σ->Option (am σ τ R)}{N:τ->Option R}{P:R->Prop}{x:σ}(I:Nat->σ->Prop)(Q:τ->Prop)(m:Nat)(c:I m x)(d:m<k)
 (e:∀m x,I m x->(∃a b,f x=AB (.next a)/\b<m/\I b a)\/(∃y,f x=AB (.out y)/\Q y)\/∃r,f x=AB (.fin r)/\P r) (i:∀y,Q y->∃r,N y=AB r/\P r):∃r,andK (iter f k x) N=AB r/\P r:=by
 obtain⟨y,g,h⟩:=Ra I (λy=>match y with| .inl y=>Q y| .inr r=>P r) e k m x c d;grind[fa,FZ]
theorem TR (p:Nat->Prop)(h:∃n,p n):∃n,p n/\∀m,p m->n<=m:=by obtain⟨n,a⟩:=h;induction n using xu<;>grind
theorem UG:∀ (n k:Nat) (g:Nat->Nat),(∀j,j<=k->∃v,v<n/\g v=j)->k<n
 |0,k,g,h=>jW
 |n+1,k,g,h=>by
  by_cases f:k=0;{omega};have:=UG n (k-1) (λv=>if g v=k then g n else g v) (λj d=>by
   by_cases e:g n=k
   ·obtain⟨v,a,b⟩:=h j qa;grind
   by_cases c:j=g n
   ·obtain⟨v,a,b⟩:=h k qa;grind
   obtain⟨v,a,b⟩:=h j qa;grind)
  omega
section
variable (E:Int->Int->Int->Prop) (t:Int)
inductive Walk:Int->Int->Int->Prop
 |nil:Walk t 0 0
 |cons {v u c d k:Int}:E v u c->Walk u d k->Walk v (d+c) (k+1)
def Best (v c k:Int):Prop:=Walk E t v c k/\∀a b,Walk E t v a b->c<a\/c=a/\k<=b
structure Graph (n C:Int):Prop where
 sym:∀u v c,E u v c->E v u c
 cost:∀u v c,E u v c->0<=c/\c<=C
 lt:∀u v c,E u v c->0<=u/\u<n/\0<=v/\v<n
end
variable {E:Int->Int->Int->Prop} {t n C:Int}
theorem Walk.ge (g:Graph E n C){v c k:Int}(h:Walk E t v c k):0<=c/\0<=k:=by
 induction h with
 |nil=>omega
 |cons a _ b=>have:=g.cost _ _ _ a;omega
theorem Walk.le (g:Graph E n C){v c k:Int}(h:Walk E t v c k):c<=k * C:=by
 induction h with
 |nil=>simp
 |cons a _ b=>have:=g.cost _ _ _ a;grind
theorem Walk.lt (g:Graph E n C)(b:0<=t/\t<n){v c k:Int}(h:Walk E t v c k):0<=v/\v<n:=by
 cases h with
 |nil=>omega
 |cons a _=>have:=g.lt _ _ _ a;omega
theorem Walk.zero (g:Graph E n C){v c k:Int}(h:Walk E t v c k)(d:k=0):v=t/\c=0:=by
 cases h with
 |nil=>omega
 |cons b a=>have:=a.ge g;omega
theorem Best.exists (g:Graph E n C){v c k:Int}(h:Walk E t v c k):∃f i,Best E t v f i:=by have s:=h.ge g;obtain⟨a,⟨l,m⟩,e⟩:=TR (λa=>∃k,Walk E t v (a:Int) k) ⟨c.toNat,k,jX⟩;have u:=m.ge g;obtain⟨b,j,d⟩:=TR (λb=>Walk E t v (a:Int) (b:Int)) ⟨l.toNat,jX⟩;refine⟨a,b,j,λf i o=>?_⟩;have r:=o.ge g;have q:=e f.toNat ⟨i,jX⟩;by_cases p:(a:Int)=f;{have:=d i.toNat jX;omega};omega
theorem Best.unique {v c k a d:Int}(h:Best E t v c k)(b:Best E t v a d):c=a/\k=d:=by have f:=h.2 _ _ b.1;have e:=b.2 _ _ h.1;omega
theorem Best.self (g:Graph E n C):Best E t t 0 0:=⟨.nil,λa b h=>by have:=h.ge g;omega⟩
theorem Best.step {v c k:Int}(h:Best E t v c k)(g:k≠0):∃u e,E v u e/\Best E t u (c-e) (k-1):=by
 obtain⟨a,f⟩:=h;cases a with
 |nil=>omega
 |cons b a=>
  rename_i u e d j;refine⟨u,e,b,?_⟩;rw[show d+e-e=d from qa,show j+1-1=j from qa];refine⟨a,λl i h=>?_⟩;have:=f _ _ (Walk.cons b h);omega
theorem Best.ne (g:Graph E n C){v c k:Int}(h:Best E t v c k)(a:v≠t):1<=k:=by have d:=h.1.ge g;by_cases b:k=0;{exact absurd (h.1.zero g b).1 a};omega
theorem Best.lower (g:Graph E n C)(j:Nat):∀ (k:Nat) {v c:Int},Best E t v c (k:Int)->j<=k->∃u b,Best E t u b (j:Int)
 |0,v,c,h,f=>⟨v,c,jW⟩
 |k+1,v,c,h,f=>by
  by_cases d:j=k+1;{subst d;grind};obtain⟨u,e,_,a⟩:=h.step qa;rw[show((k+1:Nat):Int)-1=(k:Int) from qa]at a;exact Best.lower g j k a qa
theorem Best.few (g:Graph E n C)(i:0<=t/\t<n){v c k:Int}(h:Best E t v c k):k<n:=by
 have q:=h.1.ge g;obtain⟨b,rfl⟩:∃b:Nat,k=b:=⟨k.toNat,qa⟩;have m:=UG n.toNat b (λv=>open Classical in if d:∃k:Nat,∃c,Best E t (v:Int) c (k:Int)then Classical.choose d else 0) (λj o=>by
  obtain⟨u,f,l⟩:=Best.lower g j b h o;have p:=l.1.lt g i;refine⟨u.toNat,qa,?_⟩;have a:Best E t ((u.toNat:Nat):Int) f (j:Int):=jX;have d:∃k:Nat,∃c,Best E t ((u.toNat:Nat):Int) c (k:Int):=⟨j,f,a⟩;refine(dif_pos d).trans ?_;obtain⟨r,e⟩:=Classical.choose_spec d;have:=a.unique e;omega)
 omega
theorem aeg {lc lk:Int->Int}{isSet:Int->Prop}(b:isSet t/\lc t=0/\lk t=0)(a:∀v u e,E v u e->isSet u->isSet v/\(lc v<lc u+e\/lc v=lc u+e/\lk v<=lk u+1))
 {v c k:Int} (h:Walk E t v c k):isSet v/\(lc v<c\/lc v=c/\lk v<=k):=by
 induction h<;>grind
def NextV (E:Int->Int->Int->Prop)(t v w:Int):Prop:=
 (∃c k e,Best E t v c k/\E v w e/\Best E t w (c-e) (k-1))/\∀a,(∃c k e,Best E t v c k/\E v a e/\Best E t a (c-e) (k-1))->w<=a
inductive Rt (E:Int->Int->Int->Prop) (t:Int):Int->A7->Prop
 |nil:Rt E t t []
 |cons {v w:Int} {l:A7}:v≠t->NextV E t v w->Rt E t w l->Rt E t v (w::l)
theorem NextV.unique {v w a:Int}(h:NextV E t v w)(b:NextV E t v a):w=a:=by have d:=h.2 a b.1;have c:=b.2 w h.1;omega
theorem Rt.unique {v:Int}{l b:A7}(h:Rt E t v l)(c:Rt E t v b):l=b:=by
 induction h generalizing b with
 |nil=>cases c<;>simp_all
 |cons f e _ g=>
  cases c with
  |nil=>omega
  |cons _ a d=>
   cases e.unique a;grind
theorem Rt.length (g:Graph E n C){v:Int}{l:A7}(h:Rt E t v l):∀ {c k:Int},Best E t v c k->(AA l:Int)=k:=by
 induction h with
 |nil=>intro c k a;have:=a.unique (Best.self g);simp_all
 |cons f d _ o=>
  intro c k a;obtain⟨m,j,e,b,_,i⟩:=d.1;have:=a.unique b;grind
theorem Pk (b a:dh):(kJ b a).o=(vY b a).run NN:=rfl
theorem abI (b:Ax)(a:eS):(DH b a).o=(DI b a).run NN:=rfl
theorem acK (a:Ax):(Et a).o=(Eu a).run NN:=rfl
def ltR (a b:dh):Prop:=a.cost<b.cost\/a.cost=b.cost/\a.points<b.points
variable {a b:dh}
theorem sy(h:b.points=0\/ltR a b):(kJ a b).o=AB true:=by grind[Pk,vY,qj,ltR]
theorem yd(c:b.points≠0)(h:¬ltR a b):(kJ a b).o=AB false:=by grind[Pk,vY,qj,ltR]
section
variable {α:Type} [Inhabited α]
theorem mem_getD {l:List α}{y:α}:y∈l↔∃i,i<AA l/\AF l i qt=y:=by rw[List.mem_iff_getElem];constructor;{rintro⟨i,b,rfl⟩;exact⟨i,b,jX⟩};grind
theorem li {l:List α}{i k:Nat}{x:α}(b:i<AA l):AF (l.set i x) k qt=if k=i then x else AF l k qt:=by grind
variable {e:Nat}
theorem akZ{l:List α}(b:k<AA l)(c:j<AA l):
 ((l.set k (AF l j qt)).set j (AF l k qt)).getD e qt=if e=j then AF l k qt else if e=k then AF l j qt else AF l e qt:=by
 grind
theorem S4{l:List α}(b:k<AA l)(c:j<AA l){y:α}:y∈(l.set k (AF l j qt)).set j (AF l k qt)↔y∈l:=by grind[mem_getD]
end
abbrev rk (l:Ax)(i:Nat):dh:=(AF l i qt).rank
def Heap (l:Ax):Prop:=∀i,0<i->i<AA l->¬ltR (rk l i) (rk l ((i-1) / 2))
def Pts (l:Ax):Prop:=∀y∈l,1<=y.rank.points
theorem Pts.rk {l:Ax}(h:Pts l){i:Nat}(a:i<AA l):(Go.Abs.rk l i).points≠0:=by have:=h _ (mem_getD.2 ⟨i,a,rfl⟩);grind
variable {e:Nat}
theorem iY{l:Ax}(b:k<AA l)(a:j<AA l):
 rk ((l.set k (AF l j qt)).set j (AF l k qt)) e=if e=j then rk l k else if e=k then rk l j else rk l e:=by
 grind
theorem FD(h:ltR a b):¬ltR b a:=by unfold ltR at *;omega
theorem aeK {a b c:dh}(h:ltR a b)(d:ltR b c):ltR a c:=by unfold ltR at *;omega
theorem FB {a b c:dh}(h:¬ltR b a)(d:¬ltR c b):¬ltR c a:=by unfold ltR at *;omega
theorem agj {l:Ax}(h:Heap l):∀ (i:Nat),i<AA l->¬ltR (rk l i) (rk l 0):=by
 intro i;induction i using xu with
 |_ i b=>
  intro a;by_cases c:i=0;{grind[ltR]};exact FB (b ((i-1) / 2) qa qa) (h i qa a)
theorem ahW {i:Int}(h:0<i)(a:i<4000000000000):AG qs ((AG qs (i-1)).tdiv 2)=(((i.toNat-1) / 2:Nat):Int):=by grind[w64]
theorem ail (q:Ax)(x:eS)(O:AA q+1<NN)(F:AA q<1000000000)(H:Heap q)(J:Pts q)(P:1<=x.rank.points):
 ∃r,(DH q x).o=AB r/\Heap r/\(AA r)=AA q+1/\∀y,y∈r↔(y∈q\/y=x):=by
 simp only[abI,DI,qj,wV,wW]
 ((repeat(first|rw[an qa]|rw[an (by grind[au])])))
 have n:AG qs (((AA q+1:Nat):Int)-1)=(AA q:Int):=by grind[w64]
 rw[n]
 refine R6 (λm (s:Ax×Int)=>0<=s.2/\s.2.toNat=m/\s.2.toNat<AA s.1/\(AA s.1)=AA q+1/\(∀y,y∈s.1↔(y∈q\/y=x))/\
  (∀j,0<j->j<AA s.1->j≠s.2.toNat->¬ltR (rk s.1 j) (rk s.1 ((j-1) / 2)))/\
  (∀j,0<j->j<AA s.1->(j-1) / 2=s.2.toNat->0<s.2.toNat->¬ltR (rk s.1 j) (rk s.1 ((s.2.toNat-1) / 2))))
  (λr=>Heap r/\(AA r)=AA q+1/\∀y,y∈r↔(y∈q\/y=x)) (AA q) ?_ qa ?_ (λy h=>⟨y,rfl,h⟩)
 rotate_left
 ·rintro m ⟨l,i⟩ ⟨M,N,z,A,c,v,G⟩;simp only at M N z A c v G⊢;have C:Pts l:=λy K=>by
   rcases(c y).1 K with h|h;{exact J y h};simp_all
  by_cases D:i>0
  ·rw[ai D];have B:=ahW D qa;rw[B];have b:(i.toNat-1) / 2<AA l:=qa
   ((repeat rw[an qa]);rw[qD])
   by_cases f:ltR (rk l i.toNat) (rk l ((i.toNat-1) / 2))
   ·left
    (rw[sy (.inr f),qG,cT (by rfl)];(repeat(first|rw[an qa]|rw[an (by simp only[qZ];omega)])))
    refine⟨_,(i.toNat-1) / 2,rfl,qa,j8,j8,by simp only[qZ,qD];omega,by simpa using A,λy=>?_,λj e d p=>?_,λj e d p t=>?_⟩;{rw[S4 z b];exact c y}
    ·simp only[qD,qZ]at d p⊢;rw[iY z b,iY z b,qb p];by_cases a:j=i.toNat;{subst a;rw[qc rfl,qc rfl];exact FD f};rw[qb a];by_cases u:(j-1) / 2=(i.toNat-1) / 2;{rw[qc u];intro hc;have:=v j e d a;rw[u]at this;exact this (aeK hc f)};rw[qb u];by_cases w:(j-1) / 2=i.toNat;{rw[qc w];exact G j e d w qa};rw[qb w];exact v j e d a
    simp only[qD,qZ]at d p t⊢;rw[iY z b,iY z b,qb qa];rw[qb (show ¬ ((i.toNat-1) / 2-1) / 2=(i.toNat-1) / 2 from qa),qb (show ¬ ((i.toNat-1) / 2-1) / 2=i.toNat from qa)];have E:=v ((i.toNat-1) / 2) t b qa;by_cases a:j=i.toNat;{rw[qc a];exact E};rw[qb a];have:=v j e d a;rw[p]at this;exact FB E this
   right;rw[yd (C.rk b) f,qG,c6 (by rfl)];refine⟨_,rfl,λj e d=>?_,A,c⟩;by_cases a:j=i.toNat;{subst a;exact f};exact v j e d a
  right;rw[aj D];exact⟨_,rfl,λj e d=>v j e d qa,A,c⟩
 refine⟨jV,jV,jV,jV,λy=>jV,λj e d p=>?_,λj e d p _=>?_⟩
 ·simp only[qD,wV,qw,qy]at d p;have g:∀k,k<AA q->rk (q++[x]) k=rk q k:=λk I=>by unfold rk;rw[getD_left I]
  rw[g j qa,g _ qa];exact H j e qa
 simp only[qD,wV,qw,qy]at d p;omega
theorem ajt (q:Ax)(hN:AA q+1<NN)(hq:0<AA q)(hlen:AA q<1000000000)(hh:Heap q)(hp:Pts q):
 ∃r,(Et q).o=AB (AF q 0 qt,r)/\Heap r/\(AA r)+1=AA q/\(∀y∈r,y∈q)/\(∀y∈q,y=AF q 0 qt\/y∈r)/\∀y∈q,¬ltR y.rank (AF q 0 qt).rank:=by
 simp only[acK,Eu,qj];have F:AG qs (((AA q:Nat):Int)-1)=((AA q-1:Nat):Int):=by rw[w64 qa qa];omega
 rw[F];have e0:(0:Int).toNat=0:=rfl
 (rw[e0];(repeat(first|rw[an qa]|rw[an (by simp only[qZ];omega)]));rw[qD])
 have Q:∀y∈q,¬ltR y.rank (AF q 0 qt).rank:=by
  intro y H;obtain⟨i,hi,rfl⟩:=mem_getD.1 H;exact agj hh i hi
 have g:∀k,k<AA q-1->((q.set 0 (AF q (AA q-1) qt)).take (AA q-1)).getD k qt=if k=0 then AF q (AA q-1) qt else AF q k qt:=by
  intro k N;rw[qY,List.getElem?_take,qc N,<-qY,li hq]
 have w:((q.set 0 (AF q (AA q-1) qt)).take (AA q-1)).length=AA q-1:=jV;have G:∀y∈(q.set 0 (AF q (AA q-1) qt)).take (AA q-1),y∈q:=by
  intro y H;obtain⟨k,N,h⟩:=mem_getD.1 H;rw[w]at N;rw[g k N]at h;split at h;{exact mem_getD.2 ⟨_,qa,h⟩};exact mem_getD.2 ⟨k,qa,h⟩
 have P:∀y∈q,y=AF q 0 qt\/y∈(q.set 0 (AF q (AA q-1) qt)).take (AA q-1):=by
  intro y H;obtain⟨k,N,h⟩:=mem_getD.1 H;by_cases O:k=0;{subst O;exact .inl h.symm};right;by_cases Y:k=AA q-1;{exact mem_getD.2 ⟨0,by rw[w];omega,by rw[g 0 qa,qc rfl,<-Y];exact h⟩};exact mem_getD.2 ⟨k,by rw[w];omega,by rw[g k qa,qb O];exact h⟩
 generalize (q.set 0 (AF q (AA q-1) qt)).take (AA q-1)=l0 at g w G P⊢
 refine TO (λm (s:Ax×Int)=>0<=s.2/\s.2.toNat+m=AA q/\(AA s.1)=AA q-1/\(∀y,y∈s.1↔y∈l0)/\
  (∀j,0<j->j<AA s.1->(j-1) / 2≠s.2.toNat->¬ltR (rk s.1 j) (rk s.1 ((j-1) / 2)))/\
  (∀j,0<j->j<AA s.1->(j-1) / 2=s.2.toNat->0<s.2.toNat->¬ltR (rk s.1 j) (rk s.1 ((s.2.toNat-1) / 2))))
  (λr=>Heap r/\(AA r)=AA q-1/\∀y,y∈r↔y∈l0) (AA q) ?_ qa ?_ (λy ⟨h1,h2,h3⟩=>⟨y,rfl,h1,qa,λz Z=>G z ((h3 z).1 Z),λz Z=>(P z Z).imp (λh=>h) (λh=>(h3 z).2 h),Q⟩)
 rotate_left
 ·rintro m ⟨l,i⟩ ⟨i0,im,X,b,J,hB⟩;simp only at i0 im X b J hB⊢;have R:Pts l:=λy H=>hp y (G y ((b y).1 H))
  have w1:AG qs ((AG qs (2 * i))+1)=((2 * i.toNat+1:Nat):Int):=by
   rw[w64 (x:=2 * i) qa qa,w64 qa qa];omega
  have w2:AG qs (((2 * i.toNat+1:Nat):Int)+1)=((2 * i.toNat+2:Nat):Int):=by
   rw[w64 qa qa];omega
  rw[w1,w2];by_cases hin:2 * i.toNat+1<AA q-1
  ·rw[ai qa]
   obtain⟨d,hd,f,K,hX⟩:∃d:Nat,(d=2 * i.toNat+1\/d=2 * i.toNat+2)/\d<AA l/\(∀c,c<AA l->(c=2 * i.toNat+1\/c=2 * i.toNat+2)->¬ltR (rk l c) (rk l d))/\
    (andC (bif (qu (((2 * i.toNat+2:Nat):Int)<((AA q-1:Nat):Int)))then
     grd (0<=((2 * i.toNat+2:Nat):Int)/\((2 * i.toNat+2:Nat):Int)<((AA l:Nat):Int))<|
     grd ((((2 * i.toNat+2:Nat):Int)).toNat<AA l)<|
     grd (0<=((2 * i.toNat+1:Nat):Int)/\((2 * i.toNat+1:Nat):Int)<((AA l:Nat):Int))<|
     grd ((((2 * i.toNat+1:Nat):Int)).toNat<AA l)<|
     ((kJ ((AF l ((((2 * i.toNat+2:Nat):Int)).toNat) qt).rank) ((AF l ((((2 * i.toNat+1:Nat):Int)).toNat) qt).rank)).o).bind λV=>
     AB (.out V)
     else
      AB (.out AE):Option (am Unit Bool (am Unit Int (am (Ax×Int) Ax (eS×Ax))))) λU=>
     bif U then AB (.out ((2 * i.toNat+2:Nat):Int))else AB (.out ((2 * i.toNat+1:Nat):Int)))=AB (.out (d:Int)):=by
    by_cases hin2:2 * i.toNat+2<AA q-1
    ·(rw[ai qa];(repeat rw[an qa]);rw[qD,qD])
     by_cases a:ltR (rk l (2 * i.toNat+2)) (rk l (2 * i.toNat+1))
     ·rw[sy (.inr a)];refine⟨2 * i.toNat+2,.inr rfl,qa,λc hc h=>?_,rfl⟩;rcases h with rfl|rfl
      {exact FD a};unfold ltR;omega
     rw[yd (R.rk qa) a];refine⟨2 * i.toNat+1,.inl rfl,qa,λc hc h=>?_,rfl⟩;rcases h with rfl|rfl
     {unfold ltR;omega};exact a
    rw[aj qa];refine⟨2 * i.toNat+1,.inl rfl,qa,λc hc h=>?_,rfl⟩;rcases h with rfl|rfl
    {unfold ltR;omega};omega
   (rw[hX,ah];(repeat rw[an qa]);rw[qD])
   have I:i.toNat<AA l:=qa;by_cases a:ltR (rk l d) (rk l i.toNat)
   ·left
    (rw[sy (.inr a),qG,cT (by rfl)];(repeat(first|rw[an qa]|rw[an (by simp only[qZ];omega)])))
    refine⟨_,AA q-d,rfl,qa,j8,by simp only[qD];omega,by simpa using X,λy=>?_,λj A e B=>?_,λj A e B S=>?_⟩;{rw[S4 I f];exact b y}
    ·simp only[qD,qZ]at e B⊢;rw[iY I f,iY I f,qb B];by_cases M:j=d;{subst M;rw[qc rfl,qc qa];exact FD a};rw[qb M];by_cases D:j=i.toNat;{rw[qc D,qb qa];have:=hB d qa f qa qa;rw[D];exact this};rw[qb D];by_cases p:(j-1) / 2=i.toNat;{rw[qc p];exact K j e qa};rw[qb p];exact J j A e p
    simp only[qD,qZ]at e B S⊢;rw[iY I f,iY I f,qb qa,qb qa,qb qa,qc qa];have:=J j A e qa;rw[B]at this;exact this
   right;rw[yd (R.rk I) a,qG,c6 (by rfl)];refine⟨_,rfl,λj A e=>?_,X,b⟩;by_cases p:(j-1) / 2=i.toNat;{rw[p];exact FB a (K j e qa)};exact J j A e p
  right;rw[aj qa];exact⟨_,rfl,λj A e=>J j A e qa,X,b⟩
 refine⟨jV,jV,w,λy=>Iff.rfl,λj A e B=>?_,λj A e B h=>by simp at h⟩;simp only[Int.toNat_zero]at B e⊢;have e1:rk l0 j=rk q j:=by unfold rk;rw[g j qa,qb qa]
 have e2:rk l0 ((j-1) / 2)=rk q ((j-1) / 2):=by unfold rk;rw[g _ qa,qb qa]
 rw[e1,e2];exact hh j A qa
theorem YE (b a:Int):(fO b a).o=(pF b a).run NN:=rfl
theorem abj (a:A7):(nS a).o=(rT a).run NN:=rfl
theorem W8 (b:bD)(a:(Int×Int)):(px b a).o=(Jl b a).run NN:=rfl
theorem Zg (b:aw)(a:Int):(lM b a).o=(Ly b a).run NN:=rfl
theorem Yh (a:aw):(uF a).o=(Jz a).run NN:=rfl
theorem ZN (a:aw):(Ml a).o=(Mm a).run NN:=rfl
theorem aan (a:aw):(vJ a).o=(yZ a).run NN:=rfl
theorem ZQ (b a:Int):(Mz b a).o=(MA b a).run NN:=rfl
theorem aas (b:aw)(a:Int):(vN b a).o=(AR b a).run NN:=rfl
theorem Zu (a:Int):(uZ a).o=(LO a).run NN:=rfl
def gy (n:Nat)(e:bD):Prop:=0<=e.U/\e.U<e.V/\e.V<(n:Int)/\0<=e.Xh/\e.Xh<=1099511627776
def eLt (a b:bD):Prop:=a.U<b.U\/a.U=b.U/\a.V<b.V
def Pre (m:aw)(k:Nat):Prop:=∀j,j<k->gy (AA m.Xc) (AF m.Xa j qt)/\(0<j->eLt (AF m.Xa (j-1) qt) (AF m.Xa j qt))
def WF (m:aw):Prop:=Pre m (AA m.Xa)
def cX (m:aw):Prop:=AA m.Xc<=100/\(AA m.Xa)<=200
theorem Q1 (a b:Int):(fO a b).o=AB (if a<b then -1 else if a>b then 1 else 0):=by simp only[YE,pF,Zu,LO,qj];grind
theorem akb (c:3<=NN)(a b:Int):(nS [a,b]).o=AB (if a≠0 then a else b):=by obtain⟨M,d⟩:∃M,NN=M+3:=⟨NN-3,qa⟩;have f:AG qs (1:Int)=1:=jU;have e:AG qs (2:Int)=2:=jU;simp only[abj,rT,qj];grind[iter,andK,grd]
theorem rc (a:3<=NN)(e:bD)(u v:Int):∃c,(px e (u,v)).o=AB c/\(c<0↔e.U<u\/e.U=u/\e.V<v)/\(c=0↔e.U=u/\e.V=v):=by
 simp only[W8,Jl,qj]
 (rw[Q1,qG];rw[Q1,qG,akb a,qG])
 grind
theorem mf (m:aw)(v:Int):(lM m v).o=AB (qu (0<=v/\v<(AA m.Xc:Int))):=by grind[Zg,Ly,qj]
theorem PQ (m:aw)(F:cX m)(K:1000<=NN):∃b,(uF m).o=AB b/\(b=AD↔WF m):=by
 obtain⟨G,J⟩:=F;simp only[Yh,Jz,qj];rw[aj qa,ah,aj qa];refine mg (λk (x:Int)=>∃i:Nat,x=(i:Int)/\i+k=AA m.Xa/\Pre m i) (λ_=>WF m) (AA m.Xa) ⟨0,rfl,qa,λj A=>qa⟩ qa ?_ (λ_ h=>⟨AD,rfl,jX⟩);rintro k x ⟨i,rfl,L,a⟩;by_cases e:i<AA m.Xa
 ·(rw[ai qa];(repeat rw[an qa]);rw[qD])
  have q:¬gy (AA m.Xc) (AF m.Xa i qt)->¬WF m:=λh l=>h (l i e).1
  by_cases d:gy (AA m.Xc) (AF m.Xa i qt)
  ·obtain⟨D,y,v,s,w⟩:=d;rw[mf,qG,mG j8,mf,qG,mG j8,aj qa,aj qa,ah,aj qa];by_cases H:i=0
   ·subst H;refine .inl ⟨_,k-1,rfl,qa,1,rfl,qa,λj A=>?_⟩;have r:j=0:=qa;subst r;exact⟨⟨D,y,v,s,w⟩,λh=>absurd h qa⟩
   have l:AG qs ((i:Int)-1)=((i-1:Nat):Int):=by rw[w64 qa qa];omega
   (rw[ai qa,l];(repeat rw[an qa]);rw[qD])
   obtain⟨c,E,f,I⟩:=rc qa (AF m.Xa (i-1) qt) (AF m.Xa i qt).U (AF m.Xa i qt).V;rw[E,qG,ah];by_cases g:c<0
   ·rw[aj qa,w64n qa];refine .inl ⟨_,k-1,rfl,qa,i+1,rfl,qa,λj A=>?_⟩;by_cases p:j=i;{subst p;exact⟨⟨D,y,v,s,w⟩,λ_=>f.1 g⟩};exact a j qa
   rw[ai qa];refine .inr (.inr ⟨_,rfl,?_⟩);simp only[xw,false_iff];intro l;exact g (f.2 ((l i e).2 qa))
  have n:=q d;refine .inr (.inr ⟨AE,?_,by simp[n]⟩);unfold gy at d;rw[mf,qG];by_cases t:0<=(AF m.Xa i qt).U/\(AF m.Xa i qt).U<(AA m.Xc:Int)
  ·rw[mG t,mf,qG];by_cases B:0<=(AF m.Xa i qt).V/\(AF m.Xa i qt).V<(AA m.Xc:Int)
   ·rw[mG B];by_cases z:(AF m.Xa i qt).U>=(AF m.Xa i qt).V;{rw[ai z,ah,c6 (by rfl)]};rw[aj z];by_cases u:(AF m.Xa i qt).Xh<0;{rw[ai u,ah,c6 (by rfl)]};rw[aj u,ah,ai qa]
   rw[tf B,ah,c6 (by rfl)]
  rw[tf t,ah,c6 (by rfl)]
 rw[aj qa];refine .inr (.inl ⟨_,rfl,?_⟩);have:i=AA m.Xa:=qa;subst this;exact a
theorem adJ (m:aw)(D:cX m)(I:1000<=NN)(f:∀j,j<AA m.Xa->0<=(AF m.Xa j qt).Xh/\(AF m.Xa j qt).Xh<=1099511627776):∃b,(Ml m).o=AB b/\(b=AD↔WF m):=by
 obtain⟨E,H⟩:=D;simp only[ZN,Mm,qj];refine mg (λk (x:Int)=>∃i:Nat,x=(i:Int)/\i+k=AA m.Xa/\Pre m i) (λ_=>WF m) (AA m.Xa) ⟨0,rfl,qa,λj y=>qa⟩ qa ?_ (λ_ h=>⟨AD,jX,jX⟩);rintro k x ⟨i,rfl,J,c⟩;by_cases d:i<AA m.Xa
 ·(rw[ai qa];(repeat rw[an qa]);rw[qD])
  have n:¬gy (AA m.Xc) (AF m.Xa i qt)->¬WF m:=λh g=>h (g i d).1
  have G:=f i d;by_cases e:gy (AA m.Xc) (AF m.Xa i qt)
  ·obtain⟨C,v,t,r,z⟩:=e;rw[aj qa,aj qa,ah,aj qa];by_cases F:i=0
   ·subst F;refine .inl ⟨_,k-1,rfl,qa,1,rfl,qa,λj y=>?_⟩;have p:j=0:=qa;subst p;exact⟨⟨C,v,t,r,z⟩,λh=>absurd h qa⟩
   have g:AG qs ((i:Int)-1)=((i-1:Nat):Int):=by rw[w64 qa qa];omega
   (rw[ai qa,g];(repeat rw[an qa]);rw[qD])
   by_cases a:eLt (AF m.Xa (i-1) qt) (AF m.Xa i qt)
   ·refine .inl ⟨((i+1:Nat):Int),k-1,?_,qa,i+1,rfl,qa,λj y=>?_⟩
    ·unfold eLt at a
     (rw[aj qa];(repeat rw[an qa]))
     by_cases s:(AF m.Xa (i-1) qt).U=(AF m.Xa i qt).U
     ·(rw[bK s];rw[ah,aj qa,w64n qa])
     rw[bB s,ah,cT (by rfl),w64n qa]
    by_cases l:j=i;{subst l;exact⟨⟨C,v,t,r,z⟩,λ_=>a⟩};exact c j qa
   refine .inr (.inr ⟨AE,?_,?_⟩)
   ·unfold eLt at a;by_cases B:(AF m.Xa (i-1) qt).U>(AF m.Xa i qt).U;{rw[ai B,ah,c6 (by rfl)]}
    ·(rw[aj B];rw[bK qa];rw[ah,ai qa])
   simp only[xw,false_iff];intro g;exact a ((g i d).2 qa)
  have q:=n e;refine .inr (.inr ⟨AE,?_,by simp[q]⟩);unfold gy at e;by_cases u:(AF m.Xa i qt).U<0;{rw[ai u,ah,c6 (by rfl)]};rw[aj u];by_cases w:(AF m.Xa i qt).U>=(AF m.Xa i qt).V;{rw[ai w,ah,c6 (by rfl)]};rw[aj w,ah,ai qa]
 rw[aj qa];refine .inr (.inl ⟨_,rfl,?_⟩);have:i=AA m.Xa:=qa;subst this;exact c
theorem RU (m:aw)(l:cX m)(w:1000<=NN):∃b,(vJ m).o=AB b/\(b=AD↔WF m):=by
 have g:=l;obtain⟨r,v⟩:=l;simp only[aan,yZ,qj];refine mg (λk (x:Int)=>∃i:Nat,x=(i:Int)/\i+k=AA m.Xa/\∀j,j<i->0<=(AF m.Xa j qt).Xh/\(AF m.Xa j qt).Xh<=1099511627776) (λ_=>∀j,j<AA m.Xa->0<=(AF m.Xa j qt).Xh/\(AF m.Xa j qt).Xh<=1099511627776) (AA m.Xa) ⟨0,rfl,qa,λj t=>qa⟩ qa ?_ (λ_ h=>?_)
 ·rintro k x ⟨i,rfl,y,a⟩;by_cases e:i<AA m.Xa
  ·(rw[ai qa];(repeat rw[an qa]);rw[qD])
   by_cases c:0<=(AF m.Xa i qt).Xh/\(AF m.Xa i qt).Xh<=1099511627776
   ·(rw[aj qa];rw[ah,aj qa,w64n qa])
    refine .inl ⟨_,k-1,rfl,qa,i+1,rfl,qa,λj t=>?_⟩;by_cases f:j=i;{subst f;exact c};exact a j qa
   refine .inr (.inr ⟨AE,?_,?_⟩)
   ·by_cases p:(AF m.Xa i qt).Xh<0;{rw[ai p,ah,c6 (by rfl)]}
    ·(rw[aj p];rw[ah,ai qa])
   simp only[xw,false_iff];intro d;obtain⟨_,_,_,q,s⟩:=(d i e).1;exact c ⟨q,s⟩
  rw[aj qa];refine .inr (.inl ⟨_,rfl,?_⟩);have:i=AA m.Xa:=qa;subst this;exact a
 obtain⟨b,u,d⟩:=adJ m g w h;exact⟨b,by rw[u];rfl,d⟩
def jza (s a:Int):Bool:=if a=0 then s==1 else if a=1 then(s==1||s==0)else if a=2 then s !=2 else AE
theorem Sr (s a:Int):(Mz s a).o=AB (jza s a):=by grind[ZQ,MA,qj,jza]
theorem QU (e:bD)(a:Int):(Lr e a).o=AB (jza e.Xo a):=Sr e.Xo a
def Eg (m:aw)(a u v c:Int):Prop:=∃i,i<AA m.Xa/\jza (AF m.Xa i qt).Xo a=AD/\(AF m.Xa i qt).Xh=c/\((AF m.Xa i qt).U=u/\(AF m.Xa i qt).V=v\/(AF m.Xa i qt).U=v/\(AF m.Xa i qt).V=u)
theorem Eg.graph {m:aw}(h:WF m)(a:Int):Graph (Eg m a) (AA m.Xc) 1099511627776:=by refine⟨λu v c ⟨i,b,f,e,d⟩=>⟨i,b,f,e,d.symm⟩,λu v c ⟨i,b,f,e,d⟩=>?_,λu v c ⟨i,b,f,e,d⟩=>?_⟩;{obtain⟨_,_,_,j,g⟩:=(h i b).1;omega};obtain⟨_,_,_,j,g⟩:=(h i b).1;omega
theorem WF.lt {m:aw}(h:WF m){i j:Nat}(b:i<j)(a:j<AA m.Xa):eLt (AF m.Xa i qt) (AF m.Xa j qt):=by
 induction j with
 |zero=>omega
 |succ j c=>
  have d:=(h (j+1) a).2 qa;grind[eLt]
theorem WF.one{m:aw}(h:WF m)(b:k<AA m.Xa)(c:j<AA m.Xa)(e:(AF m.Xa k qt).U=(AF m.Xa j qt).U)(f:(AF m.Xa k qt).V=(AF m.Xa j qt).V):k=j:=by rcases Nat.lt_trichotomy k j with a|d|a;{have:=h.lt a c;grind[eLt]};{omega};have:=h.lt a b;grind[eLt]
def lk (a v:Int)(e:bD):Av:=if jza e.Xo a=AD then(if e.U=v then [⟨e.V,e.Xh⟩]else if e.V=v then [⟨e.U,e.Xh⟩]else [])else []
def eP (b:Ao)(a v:Int):Av:=b.flatMap (lk a v)
theorem Rc (b:Ao)(e:bD)(a v:Int):eP (b++[e]) a v=eP b a v++lk a v e:=by simp[eP]
theorem FC (b:Ao)(a v:Int):AA (eP b a v)<=AA b:=by induction b<;>grind[eP,lk]
theorem agC (m:aw)(a:Int)(w:cX m)(s:WF m)(g:1000<=NN):
 ∃L,(vN m a).o=AB L/\(AA L)=AA m.Xc/\∀v,v<AA m.Xc->AF L v qt=eP m.Xa a v:=by
 obtain⟨u,t⟩:=w;simp only[aas,AR,qj]
 ((repeat rw[an qa]))
 refine R6 (λk (x:Aw×Int)=>∃i:Nat,x.2=(i:Int)/\i+k=AA m.Xa/\(AA x.1)=AA m.Xc/\∀v,v<AA m.Xc->AF x.1 v qt=eP (m.Xa.take i) a v)
  (λL=>AA L=AA m.Xc/\∀v,v<AA m.Xc->AF L v qt=eP m.Xa a v) (AA m.Xa) ⟨0,rfl,qa,jV,λv d=>?_⟩ qa ?_ (λL h=>⟨L,rfl,h⟩)
 {grind[eP,nl]};rintro k ⟨L,x⟩ ⟨i,r,z,j,b⟩;simp only at r j b;subst r;simp only;by_cases f:i<AA m.Xa
 ·(rw[ai qa];(repeat rw[an qa]);rw[qD,Sr,qG])
  obtain⟨A,D,B,y,C⟩:=(s i f).1;have c:=cS f;left;by_cases e:jza (AF m.Xa i qt).Xo a=AD
  ·rw[c6 e];have l:AA (AF L (AF m.Xa i qt).U.toNat qt)<=AA m.Xa:=by
    rw[b _ qa];have:=FC (m.Xa.take i) a (((AF m.Xa i qt).U.toNat:Nat):Int);simp at this⊢;omega
   have p:AA (AF L (AF m.Xa i qt).V.toNat qt)<=AA m.Xa:=by
    rw[b _ qa];have:=FC (m.Xa.take i) a (((AF m.Xa i qt).V.toNat:Nat):Int);simp at this⊢;omega
   rw[li (i:=(AF m.Xa i qt).U.toNat) (k:=(AF m.Xa i qt).V.toNat) qa,qb qa]
   ((repeat(first|rw[an qa]|rw[an (by simp only[wW,qZ,au,and_true];omega)]));rw[ah,w64n qa])
   refine⟨_,k-1,rfl,qa,i+1,rfl,qa,by simpa using j,λv d=>?_⟩;rw[li (by rw[qZ];omega),li qa,c,Rc,<-b v d];by_cases q:v=(AF m.Xa i qt).V.toNat;{rw[qc q];unfold lk;rw[qc e,qb qa,qc qa,q]};rw[qb q];by_cases n:v=(AF m.Xa i qt).U.toNat;{rw[qc n];unfold lk;rw[qc e,qc qa,n]};rw[qb n];unfold lk;rw[qc e,qb qa,qb qa,xo]
  rw[cT (by simpa using e),ah,w64n qa];refine⟨_,k-1,rfl,qa,i+1,rfl,qa,j,λv d=>?_⟩;rw[c,Rc,<-b v d];unfold lk;rw[qb e,xo]
 right;rw[aj qa];refine⟨_,rfl,j,λv d=>?_⟩;rw[b v d,fb qa]
theorem aeM {m:aw}(_:WF m){b v w c:Int}:(⟨w,c⟩:eR)∈eP m.Xa b v↔Eg m b v w c:=by
 unfold eP;rw[List.mem_flatMap];constructor
 ·rintro⟨e,l,a⟩;obtain⟨i,d,rfl⟩:=mem_getD.1 l;unfold lk at a;split at a
  ·rename_i f;split at a;{rename_i g;simp at a;exact⟨i,d,f,a.2.symm,.inl ⟨g,a.1.symm⟩⟩};split at a;{rename_i g k;simp at a;exact⟨i,d,f,a.2.symm,.inr ⟨a.1.symm,k⟩⟩};simp_all
  simp_all
 rintro⟨i,d,f,n,j⟩;refine⟨(AF m.Xa i qt),mem_getD.2 ⟨i,d,rfl⟩,?_⟩;grind[lk]
theorem abu {m:aw}(h:WF m)(c v:Int):(eP m.Xa c v).Pairwise (λa b=>a.to<b.to):=by
 have n:m.Xa.Pairwise (λa b=>eLt a b/\a.U<a.V/\b.U<b.V):=by
  rw[xc];intro i j k e d;have g:=h.lt d e;have l:=(h i k).1;have f:=(h j e).1;simp only[qY,xa k,xa e,xb]at g l f;exact⟨g,l.2.1,f.2.1⟩
 grind[eP,lk,eLt]
theorem abR (b a:dF):(yo b a).o=(D3 b a).run NN:=rfl
theorem aao (b:aw)(c a:Int):(y8 b c a).o=(y9 b c a).run NN:=rfl
abbrev lab (l:B6)(v:Int):dF:=AF l v.toNat qt
def fJ (a b:dF):Prop:=b.Xh<0\/a.Xh<b.Xh\/a.Xh=b.Xh/\a.Xa<b.Xa
instance (a b:dF):Decidable (fJ a b):=by unfold fJ;infer_instance
theorem ai8 {a b:dF}(h:0<=a.Xh):(yo a b).o=AB (qu (fJ a b)):=by simp only[abR,D3,qj];grind[ah,fJ]
def eo (p q c:Int)(s:B6×Bool):B6×Bool:=
 if(lab s.1 p).Xh<0 then s else
 if fJ ⟨(lab s.1 p).Xh+c,(lab s.1 p).Xa+1⟩ (lab s.1 q)then(s.1.set q.toNat ⟨(lab s.1 p).Xh+c,(lab s.1 p).Xa+1⟩,AD)else s
abbrev rlx {R:Type}(c:Int)(a:List (Int×Int))(x:B6×Bool×Int):Option (am (B6×Bool×Int) (B6×Bool) R):=
 bif qu (x.2.2<((AA a:Nat):Int))then
  andC (grd (0<=x.2.2/\x.2.2<((AA a:Nat):Int))<|
   grd (x.2.2.toNat<AA a)<|
   grd (0<=(AF a x.2.2.toNat qt).1/\(AF a x.2.2.toNat qt).1<((AA x.1:Nat):Int))<|
   grd ((AF a x.2.2.toNat qt).1.toNat<AA x.1)<|
   bif qu ((AF x.1 (AF a x.2.2.toNat qt).1.toNat qt).Xh<0)then AB (.out (x.1,x.2.1))else
   grd (0<=(AF a x.2.2.toNat qt).2/\(AF a x.2.2.toNat qt).2<((AA x.1:Nat):Int))<|
   grd ((AF a x.2.2.toNat qt).2.toNat<AA x.1)<|
   (yo (⟨AG qs ((AF x.1 (AF a x.2.2.toNat qt).1.toNat qt).Xh+c),AG qs ((AF x.1 (AF a x.2.2.toNat qt).1.toNat qt).Xa+1)⟩:dF) (AF x.1 (AF a x.2.2.toNat qt).2.toNat qt)).o.bind λy=>
   bif y then
    grd (0<=(AF a x.2.2.toNat qt).2/\(AF a x.2.2.toNat qt).2<((AA x.1:Nat):Int))<|
    grd ((AF a x.2.2.toNat qt).2.toNat<AA x.1/\0<=(AF a x.2.2.toNat qt).2.toNat)<|
    AB (.out (x.1.set (AF a x.2.2.toNat qt).2.toNat (⟨AG qs ((AF x.1 (AF a x.2.2.toNat qt).1.toNat qt).Xh+c),AG qs ((AF x.1 (AF a x.2.2.toNat qt).1.toNat qt).Xa+1)⟩:dF),AD))
   else AB (.out (x.1,x.2.1)):Option (am Unit (B6×Bool) (am (B6×Bool×Int) (B6×Bool) R))) λy=>AB (.next (y.1,y.2,AG qs (x.2.2+1)))
 else AB (.out (x.1,x.2.1))
def LB (l:B6):Prop:=∀v:Int,0<=v->v<(AA l:Int)->(lab l v).Xh<0\/(0<=(lab l v).Xh/\(lab l v).Xh<=4000000000000000000/\0<=(lab l v).Xa/\(lab l v).Xa<=1000000000)
theorem T2 {R:Type}{c p q:Int}{l:B6}{ag:Bool}{ps:List (Int×Int)}{j:Nat}(g:j<2)(i:AA ps=2)(a:AF ps j qt=(p,q))(h:0<=c/\c<=1099511627776)
 (b:0<=p/\p<(AA l:Int)) (f:0<=q/\q<(AA l:Int)) (e:LB l):
 rlx (R:=R) c ps (l,ag,(j:Int))=AB (.next ((eo p q c (l,ag)).1,(eo p q c (l,ag)).2,((j+1:Nat):Int))):=by
 unfold rlx eo;simp only
 (rw[qD,a])
 ((repeat rw[an qa]))
 have d:=e p b.1 b.2;grind[ah,w64,ai8]
section
variable {m:aw} {mode t:Int}
local instance:Inhabited Int:=⟨0⟩
def LOk (m:aw)(a t B:Int)(l:B6):Prop:=
 (AA l)=AA m.Xc/\lab l t=⟨0,0⟩/\∀v:Int,0<=v->v<(AA l:Int)->(lab l v).Xh<0\/(Walk (Eg m a) t v (lab l v).Xh (lab l v).Xa/\(lab l v).Xa<=B)
def Fin' (m:aw)(a t r:Int)(l:B6):Prop:=∀v c k,Best (Eg m a) t v c k->k<=r->lab l v=⟨c,k⟩
def Sat' (l:B6)(p q c:Int):Prop:=0<=(lab l p).Xh->0<=(lab l q).Xh/\((lab l q).Xh<(lab l p).Xh+c\/(lab l q).Xh=(lab l p).Xh+c/\(lab l q).Xa<=(lab l p).Xa+1)
def uf (l a:B6):Prop:=∀v:Int,0<=(lab l v).Xh->0<=(lab a v).Xh/\((lab a v).Xh<(lab l v).Xh\/(lab a v).Xh=(lab l v).Xh/\(lab a v).Xa<=(lab l v).Xa)
theorem LOk.LB (c:WF m){B:Int}(g:B<=1000000){l:B6}(h:LOk m mode t B l):LB l:=by
 intro v e d;rcases h.2.2 v e d with b|⟨b,f⟩
 {omega};have i:=b.le (Eg.graph c mode);omega
theorem TN {l:B6}{q v:Int}{x:dF}(b:0<=q/\q<(AA l:Int))(a:0<=v):lab (l.set q.toNat x) v=if v=q then x else lab l v:=by grind
theorem FO (hw:WF m)(O:0<=t/\t<(AA m.Xc:Int)){B r c p q:Int}{l:B6}{ag:Bool}(h:LOk m mode t B l)(G:Fin' m mode t r l)(F:Eg m mode q p c)(J:p≠q):
 LOk m mode t (B+1) (eo p q c (l,ag)).1/\Fin' m mode t r (eo p q c (l,ag)).1/\uf l (eo p q c (l,ag)).1/\Sat' (eo p q c (l,ag)).1 p q c/\
  ((eo p q c (l,ag)).2=ag\/((eo p q c (l,ag)).2=AD/\r<(AA m.Xc:Int)))/\((eo p q c (l,ag)).2=false->(eo p q c (l,ag)).1=l/\ag=AE):=by
 have g:=Eg.graph hw mode;obtain⟨V,q1,U,p1⟩:=g.lt _ _ _ F;have Z:=g.cost _ _ _ F;obtain⟨hl,x,y⟩:=h
 have o:∀s:B6×Bool,s=(l,ag)->(0<=(lab l p).Xh->¬fJ ⟨(lab l p).Xh+c,(lab l p).Xa+1⟩ (lab l q))->
  LOk m mode t (B+1) s.1/\Fin' m mode t r s.1/\uf l s.1/\Sat' s.1 p q c/\(s.2=ag\/(s.2=AD/\r<(AA m.Xc:Int)))/\(s.2=false->s.1=l/\ag=AE):=by
  rintro s rfl I;refine⟨⟨hl,x,λv h0 h1=>?_⟩,G,λv hv=>⟨hv,.inr ⟨rfl,wM _⟩⟩,λh0=>?_,.inl rfl,λh=>⟨rfl,h⟩⟩
  ·rcases y v h0 h1 with j|⟨j,D⟩;{exact .inl j};exact .inr ⟨j,xx D qa⟩
  have:=I h0;unfold fJ at this;simp only at this⊢;omega
 unfold eo;simp only;by_cases H:(lab l p).Xh<0;{rw[qc H];exact o _ rfl (λh=>qa)};rw[qb H];by_cases a:fJ ⟨(lab l p).Xh+c,(lab l p).Xa+1⟩ (lab l q)
 ·rw[qc a];simp only;obtain⟨i,hep⟩:=(y p U qa).resolve_left H;have z:=Walk.cons F i;have M:0<=q/\q<(AA l:Int):=⟨V,qa⟩;have b:∀v:Int,0<=v->lab (l.set q.toNat ⟨(lab l p).Xh+c,(lab l p).Xa+1⟩) v=if v=q then⟨(lab l p).Xh+c,(lab l p).Xa+1⟩else lab l v:=λv hv=>TN M hv
  obtain⟨Y,S,A⟩:=Best.exists g z;have hkb:r<S:=by
   refine Classical.byContradiction λhc=>?_
   have h1:=G q Y S A qa;have j:=A.2 _ _ z;have D:=A.1.ge g;rw[h1]at a;unfold fJ at a;simp only at a;omega
  have hkn:=A.few g O;have N:q≠t:=λe=>by
   subst e;have h1:=i.ge g;rw[x]at a;unfold fJ at a;simp only at a;omega
  refine⟨⟨by simpa using hl,by rw[b t O.1,qb (λe=>N e.symm)];exact x,λv h0 h1=>?_⟩,λv X k w hk=>?_,λv hv=>?_,λh0=>?_,.inr ⟨by trivial,qa⟩,jV⟩
  ·rw[b v h0];by_cases f:v=q;{rw[qc f];subst f;exact .inr ⟨z,j8⟩};rw[qb f];rcases y v h0 (by simpa using h1)with j|⟨j,D⟩
   {exact .inl j};exact .inr ⟨j,qa⟩
  ·have hv:=w.1.lt g O;rw[b v hv.1,qb (λe=>?_)];{exact G v X k w hk};subst e;have:=A.unique w;omega
  ·by_cases P:0<=v
   ·rw[b v P];by_cases f:v=q;{subst f;rw[qc rfl];unfold fJ at a;simp only at a⊢;have:=i.ge g;omega};rw[qb f];exact⟨hv,.inr ⟨rfl,wM _⟩⟩
   have Q:v.toNat=0:=qa;by_cases K:q=0
   ·subst K;have:lab (l.set (0:Int).toNat ⟨(lab l p).Xh+c,(lab l p).Xa+1⟩) v=lab (l.set (0:Int).toNat ⟨(lab l p).Xh+c,(lab l p).Xa+1⟩) 0:=by unfold lab;rw[Q];rfl
    have R:lab l v=lab l 0:=by unfold lab;rw[Q];rfl
    rw[this,b 0 qa,qc rfl,R];rw[R]at hv;unfold fJ at a;simp only at a⊢;have:=i.ge g;omega
   have:lab (l.set q.toNat ⟨(lab l p).Xh+c,(lab l p).Xa+1⟩) v=lab l v:=by
    unfold lab;rw[li qa,qb qa]
   rw[this];exact⟨hv,.inr ⟨rfl,wM _⟩⟩
  rw[b q V,b p U,qc rfl,qb J];have:=i.ge g;exact⟨j8,.inr ⟨rfl,wM _⟩⟩
 rw[qb a];exact o _ rfl (λ_=>a)
theorem aio{R:Type}(E:3<=NN)(b:WF m)(q:0<=t/\t<(AA m.Xc:Int)){B r:Int}(C:B+1<=1000000){l:B6}{ag:Bool}(h:LOk m mode t B l)(A:Fin' m mode t r l)(i:k<AA m.Xa)
 (z:jza (AF m.Xa k qt).Xo mode=AD):
 iter (rlx (R:=R) (AF m.Xa k qt).Xh [((AF m.Xa k qt).U,(AF m.Xa k qt).V),((AF m.Xa k qt).V,(AF m.Xa k qt).U)]) NN (l,ag,0)=
  AB (.inl (eo (AF m.Xa k qt).V (AF m.Xa k qt).U (AF m.Xa k qt).Xh (eo (AF m.Xa k qt).U (AF m.Xa k qt).V (AF m.Xa k qt).Xh (l,ag)))):=by
 obtain⟨D,H,G,g,o⟩:=(b k i).1;obtain⟨M,u⟩:∃M,NN=M+3:=⟨NN-3,qa⟩;have y:Eg m mode (AF m.Xa k qt).V (AF m.Xa k qt).U (AF m.Xa k qt).Xh:=⟨k,i,z,rfl,.inr ⟨rfl,rfl⟩⟩;have F:=h.1;have n:=T2 (R:=R) (c:=(AF m.Xa k qt).Xh) (l:=l) (ag:=ag) (j:=0) (ps:=[((AF m.Xa k qt).U,(AF m.Xa k qt).V),((AF m.Xa k qt).V,(AF m.Xa k qt).U)]) qa rfl rfl ⟨g,o⟩ ⟨qa,qa⟩ ⟨qa,qa⟩ (h.LB b qa);obtain⟨d,p,_⟩:=FO (ag:=ag) b q h A y qa;generalize eo (AF m.Xa k qt).U (AF m.Xa k qt).V (AF m.Xa k qt).Xh (l,ag)=x at n d p⊢;obtain⟨e,s⟩:=x;have w:AA e=AA m.Xc:=d.1;have v:=T2 (R:=R) (c:=(AF m.Xa k qt).Xh) (l:=e) (ag:=s) (j:=1) (ps:=[((AF m.Xa k qt).U,(AF m.Xa k qt).V),((AF m.Xa k qt).V,(AF m.Xa k qt).U)]) qa rfl rfl ⟨g,o⟩ ⟨qa,qa⟩ ⟨qa,qa⟩ (d.LB b qa);rw[u];exact((mz (f:=rlx (R:=R) (AF m.Xa k qt).Xh [((AF m.Xa k qt).U,(AF m.Xa k qt).V),((AF m.Xa k qt).V,(AF m.Xa k qt).U)]) (N:=M+2) n).trans (mz (f:=rlx (R:=R) (AF m.Xa k qt).Xh [((AF m.Xa k qt).U,(AF m.Xa k qt).V),((AF m.Xa k qt).V,(AF m.Xa k qt).U)]) (N:=M+1) v)).trans rfl
def Done (m:aw)(a t r:Int)(l:B6)(j:Nat):Prop:=
 jza (AF m.Xa j qt).Xo a=true->∀p q,((AF m.Xa j qt).U=p/\(AF m.Xa j qt).V=q\/(AF m.Xa j qt).U=q/\(AF m.Xa j qt).V=p)->∀c k,Best (Eg m a) t p c k->k<=r->
  0<=(lab l q).Xh/\((lab l q).Xh<c+(AF m.Xa j qt).Xh\/(lab l q).Xh=c+(AF m.Xa j qt).Xh/\(lab l q).Xa<=k+1)
def SatE (m:aw)(a:Int)(l:B6)(j:Nat):Prop:=
 jza (AF m.Xa j qt).Xo a=true->Sat' l (AF m.Xa j qt).U (AF m.Xa j qt).V (AF m.Xa j qt).Xh/\Sat' l (AF m.Xa j qt).V (AF m.Xa j qt).U (AF m.Xa j qt).Xh
theorem Done.mono{r:Int}{l d:B6}(h:Done m mode t r l j)(n:uf l d):Done m mode t r d j:=by intro g p q b c k f i;have e:=h g p q b c k f i;have o:=n q e.1;omega
theorem aeI (m:aw)(a t:Int)(hs:cX m)(hw:WF m)(X:0<=t/\t<(AA m.Xc:Int))(hN:100000<=NN):
 ∃l,(y8 m t a).o=AB l/\(AA l)=AA m.Xc/\∀v:Int,0<=v->v<(AA m.Xc:Int)->
  ((lab l v).Xh<0/\∀c k,¬Walk (Eg m a) t v c k)\/Best (Eg m a) t v (lab l v).Xh (lab l v).Xa:=by
 have g:=Eg.graph hw a;obtain⟨hs1,hs2⟩:=hs;simp only[aao,y9,qj]
 ((repeat rw[an qa]))
 refine ip (g:=λl=>l) (λk (x:B6×Int)=>∃i:Nat,x.2=(i:Int)/\i+k=AA m.Xc/\(AA x.1)=AA m.Xc/\∀v,v<i->(AF x.1 v qt).Xh<0)
  (λl=>AA l=AA m.Xc/\∀v,v<AA m.Xc->(AF l v qt).Xh<0) (AA m.Xc) ⟨0,rfl,qa,jV,λv hv=>qa⟩ qa ?_ ?_
 ·rintro k ⟨l,x⟩ ⟨i,hx,hi,hl,hn⟩;simp only at hx hl hn;subst hx;dsimp only;by_cases K:i<AA l
  ·left
   (rw[ai qa];(repeat rw[an qa]);rw[qD];(repeat rw[an qa]);rw[w64n qa])
   refine⟨_,rfl,k-1,qa,i+1,rfl,qa,jW,λv hv=>?_⟩;grind[li]
  grind
 rintro y ⟨hyl,hyn⟩
 ((repeat rw[an qa]))
 have d:∀v:Int,0<=v->lab (y.set t.toNat ⟨0,0⟩) v=if v=t then⟨0,0⟩else lab y v:=λv hv=>TN ⟨X.1,qa⟩ hv
 refine ip (g:=λl=>l) (λk (x:B6×Bool)=>∃r:Nat,r+k=AA m.Xc+2/\r<=AA m.Xc+1/\LOk m a t (2 * AA m.Xa * r) x.1/\Fin' m a t r x.1/\(x.2=false->∀j,j<AA m.Xa->SatE m a x.1 j)/\(r=AA m.Xc+1->x.2=AE))
  (λl=>LOk m a t (2 * AA m.Xa * (AA m.Xc+1)) l/\∀j,j<AA m.Xa->SatE m a l j) (AA m.Xc+2) ⟨0,qa,qa,⟨by simpa using hyl,by rw[d t X.1,qc rfl],λv h0 s=>?_⟩,λv c k C hk=>?_,jV,jV⟩ qa ?_ ?_
 ·rw[d v h0];by_cases Y:v=t;{rw[qc Y];subst Y;exact .inr ⟨.nil,jV⟩};rw[qb Y];simp only[qZ]at s;exact .inl (hyn v.toNat qa)
 ·have s:=C.1.ge g;obtain⟨rfl,rfl⟩:=C.1.zero g qa;have:k=0:=qa;subst this;rw[d v X.1,qc rfl]
 ·rintro k ⟨l,ag⟩ ⟨r,hr,hrn,b,N,B,F⟩;simp only at b N B F;dsimp only;cases ag with
  |false=>
   right;rw[cT (by rfl)];refine⟨_,rfl,⟨b.1,b.2.1,λv h0 s=>?_⟩,B rfl⟩;rcases b.2.2 v h0 s with w|⟨w,h3⟩
   {exact .inl w};refine .inr ⟨w,xx h3 ?_⟩;exact qC qa qa
  |true=>
   left;rw[c6 (by rfl)];have hrn':r<=AA m.Xc:=by
    by_cases h:r=AA m.Xc+1;{exact absurd (F h) jV};omega
   have hB:(2 * AA m.Xa * r:Int)<=40000:=by
    have s:(2 * AA m.Xa * r:Int)<=2 * AA m.Xa * 100:=qC qa qa;omega
   refine ip (g:=am.next) (λk' (x:B6×Bool×Int)=>∃i:Nat,x.2.2=(i:Int)/\i+k'=AA m.Xa/\LOk m a t (2 * AA m.Xa * r+2 * i) x.1/\Fin' m a t r x.1/\(∀j,j<i->Done m a t r x.1 j)/\
    (x.2.1=true->r<AA m.Xc)/\(x.2.1=false->∀j,j<i->SatE m a x.1 j))
    (λx=>LOk m a t (2 * AA m.Xa * r+2 * AA m.Xa) x.1/\Fin' m a t r x.1/\(∀j,j<AA m.Xa->Done m a t r x.1 j)/\
     (x.2=true->r<AA m.Xc)/\(x.2=false->∀j,j<AA m.Xa->SatE m a x.1 j)) (AA m.Xa) ⟨0,rfl,qa,by simpa using b,N,λj J=>qa,jV,λ_ j J=>qa⟩ qa ?_ ?_
   ·rintro k' ⟨l',D,x⟩ ⟨i,hx,hi,f,O,Z,q4,q5⟩;simp only at hx f O Z q4 q5;subst hx;dsimp only;by_cases K:i<AA m.Xa
    ·left
     (rw[ai qa];(repeat rw[an qa]);rw[qD,QU,qG])
     by_cases I:jza (AF m.Xa i qt).Xo a=AD
     ·rw[cT (by rw[I];rfl)];have G:=aio (R:=am Unit (B6×Bool) (am (B6×Bool×Int) (B6×Bool) (am (B6×Bool) B6 B6))) qa hw X qa f O (ag:=D) K I;obtain⟨o1,o2,o3,o4,o5⟩:=(hw i K).1;have he1:Eg m a (AF m.Xa i qt).V (AF m.Xa i qt).U (AF m.Xa i qt).Xh:=⟨i,K,I,rfl,.inr ⟨rfl,rfl⟩⟩;obtain⟨k1,k2,k3,k4,k5,k6⟩:=FO (ag:=D) hw X f O he1 qa;have he2:=g.sym _ _ _ he1;generalize hs1:eo (AF m.Xa i qt).U (AF m.Xa i qt).V (AF m.Xa i qt).Xh (l',D)=s1 at G k1 k2 k3 k4 k5 k6;obtain⟨l1,a1⟩:=s1;simp only at k1 k2 k3 k4 k5 k6;obtain⟨j1,j2,j3,j4,j5,j6⟩:=FO (ag:=a1) hw X k1 k2 he2 qa;generalize hs2:eo (AF m.Xa i qt).V (AF m.Xa i qt).U (AF m.Xa i qt).Xh (l1,a1)=s2 at G j1 j2 j3 j4 j5 j6;obtain⟨l2,a2⟩:=s2;simp only at j1 j2 j3 j4 j5 j6;rw[fa G,ah,w64n qa];have S:uf l' l2:=λv hv=>by
       have s:=k3 v hv;have w:=j3 v s.1;omega
      refine⟨_,rfl,k'-1,qa,i+1,rfl,qa,by simpa[show(2 * AA m.Xa * r+2 * i+1+1:Int)=2 * AA m.Xa * r+2 * ((i+1:Nat):Int) from qa]using j1,j2,λj J=>?_,λQ=>?_,λQ j J=>?_⟩
      ·by_cases A:j=i
       ·subst A;intro _ p q M c k C hk;rcases M with⟨rfl,rfl⟩|⟨rfl,rfl⟩
        {have P:=k2 _ _ _ C hk;have e0:=C.1.ge g;unfold Sat' at k4;rw[P]at k4;have s:=k4 e0.1;have w:=j3 _ s.1;simp only at s;dsimp only;omega};have P:=j2 _ _ _ C hk;have e0:=C.1.ge g;unfold Sat' at j4;rw[P]at j4;have s:=j4 e0.1;simp only at s;exact s
       exact(Z j qa).mono S
      ·simp only at Q;rcases j5 with h|h
       ·rw[Q]at h;rcases k5 with h'|h'
        {rw[<-h]at h';exact q4 h'.symm};omega
       omega
      simp only at Q;obtain⟨rfl,rfl⟩:=j6 Q;obtain⟨rfl,rfl⟩:=k6 rfl;by_cases A:j=i;{subst A;intro _;exact⟨k4,j4⟩};exact q5 rfl j qa
     have huf:jza (AF m.Xa i qt).Xo a=false:=by simpa using I
     rw[huf,c6 (by rfl),ah,w64n qa];refine⟨_,rfl,k'-1,qa,i+1,rfl,qa,⟨f.1,f.2.1,λv h0 s=>?_⟩,O,λj J=>?_,q4,λQ j J=>?_⟩
     ·rcases f.2.2 v h0 s with w|⟨w,h3⟩;{exact .inl w};exact .inr ⟨w,xx h3 qa⟩
     ·by_cases A:j=i;{subst A;intro h;exact absurd h I};exact Z j qa
     by_cases A:j=i;{subst A;intro h;exact absurd h I};exact q5 Q j qa
    right;rw[aj qa];have hie:i=AA m.Xa:=qa;subst hie;exact⟨_,rfl,f,O,Z,q4,q5⟩
   rintro⟨l',D⟩ ⟨f,O,Z,q4,q5⟩;simp only at f O Z q4 q5;refine⟨_,rfl,k-1,qa,r+1,qa,qa,?_,λv c kk C hk=>?_,q5,λh=>?_⟩
   ·have:(2 * AA m.Xa * ((r+1:Nat):Int):Int)=2 * AA m.Xa * r+2 * AA m.Xa:=by
     rw[show((r+1:Nat):Int)=(r:Int)+1 from qa,Int.mul_add];omega
    rw[this];exact f
   ·by_cases hkr:kk<=r;{exact O v c kk C hkr};obtain⟨u,e,⟨j,J,I,hc,M⟩,hbu⟩:=C.step qa;have s:=Z j J I u v qa _ _ hbu qa;have hv:=C.1.lt g X;have hq1l:=f.1;rcases f.2.2 v hv.1 (qa)with w|⟨w,_⟩;{omega};have h3:=C.2 _ _ w;have P:(lab l' v).Xh=c:=qa;have e2:(lab l' v).Xa=kk:=qa;generalize lab l' v=z at P e2;obtain⟨z1,z2⟩:=z;simp only at P e2;rw[P,e2]
   cases D with
   |false=>rfl
   |true=>have:=q4 rfl;omega
 rintro l ⟨b,B⟩;refine⟨l,rfl,b.1,λv h0 s=>?_⟩;have n:∀v c k,Walk (Eg m a) t v c k->0<=(lab l v).Xh/\((lab l v).Xh<c\/(lab l v).Xh=c/\(lab l v).Xa<=k):=by
  intro v c k H;refine aeg (lc:=λv=>(lab l v).Xh) (lk:=λv=>(lab l v).Xa) (isSet:=λv=>0<=(lab l v).Xh) ?_ ?_ H;{rw[b.2.1];simp};rintro v u e ⟨j,J,I,hc,M⟩ d;obtain⟨s1,s2⟩:=B j J I;rcases M with⟨rfl,rfl⟩|⟨rfl,rfl⟩
  {have:=s2 d;rw[hc]at this;exact this};have:=s1 d;rw[hc]at this;exact this
 have hll:=b.1;rcases b.2.2 v h0 (qa)with w|⟨w,_⟩
 {refine .inl ⟨w,λc k H=>?_⟩;have:=(n v c k H).1;omega};exact .inr ⟨w,λc' k' H=>(n v c' k' H).2⟩
end
abbrev rkv (R:Ay)(v:Int):dh:=AF R v.toNat qt
abbrev leR (a b:dh):Prop:=a.cost<b.cost\/a.cost=b.cost/\a.points<=b.points
variable {R:Ay}
theorem Hf{q v:Int}(b:0<=q/\q<(AA R:Int))(x:0<=v):rkv (R.set q.toNat a) v=if v=q then a else rkv R v:=by grind
def rest (d:Nat->Nat)(S:Nat->Bool):Nat->Nat
 |0=>0
 |n+1=>rest d S n+if S n=AD then 0 else d n
theorem FQ {d:Nat->Nat}{S a:Nat->Bool}:∀ {n:Nat},(∀i,i<n->a i=S i)->rest d a n=rest d S n
 |0,_=>rfl
 |n+1,h=>by simp only[rest];rw[FQ (λi b=>h i qa),h n qa]
theorem Tl {d:Nat->Nat}{S:Nat->Bool}{v:Nat}(a:S v=AE):∀ {n:Nat},v<n->rest d (λi=>i==v||S i) n+d v=rest d S n
 |0,h=>qa
 |n+1,h=>by
  simp only[rest];by_cases e:n=v
  ·rw[FQ (S:=S) (λi b=>by have:(i==n)=false:=(by grind);simp_all)]
   grind
  have:=Tl (d:=d) a (n:=n) qa;grind
theorem Hc {d:Nat->Nat}{S:Nat->Bool}{B:Nat}(h:∀i,d i<=B):∀ (n:Nat),rest d S n<=n * B
 |0=>by simp[rest]
 |n+1=>by
  have:=Hc (S:=S) h n;grind[rest]
section
variable (E:Int->Int->Int->Prop) (t fr:Int) (L:Aw)
structure DInv (R:Ay) (q:Ax) (S:Nat->Bool) (V:Int->Int->Int->Prop):Prop where
 len:AA R=AA L
 walk:∀v:Int,0<=v->v<(AA L:Int)->(rkv R v).points=0\/(1<=(rkv R v).points/\Walk E t v (rkv R v).cost ((rkv R v).points-1))
 few:∀v:Int,0<=v->v<(AA L:Int)->(rkv R v).points<=AA L+1
 src:rkv R t=⟨0,1⟩
 best:∀v:Int,0<=v->v<(AA L:Int)->S v.toNat=true->Best E t v (rkv R v).cost ((rkv R v).points-1)/\1<=(rkv R v).points
 relaxed:∀v w c:Int,0<=v->v<(AA L:Int)->S v.toNat=true->V v w c->1<=(rkv R w).points/\leR (rkv R w) ⟨(rkv R v).cost+c,(rkv R v).points+1⟩
 queued:∀v:Int,0<=v->v<(AA L:Int)->1<=(rkv R v).points->S v.toNat=false->(⟨rkv R v,v⟩:eS)∈q
 entry:∀e∈q,0<=e.point/\e.point<(AA L:Int)/\1<=e.rank.points/\1<=(rkv R e.point).points/\leR (rkv R e.point) e.rank
 low:∀v:Int,0<=v->v<(AA L:Int)->S v.toNat=true->∀e∈q,leR (rkv R v) e.rank
 heap:Heap q
 notFrom:S fr.toNat=AE
end
variable {E:Int->Int->Int->Prop} {t fr C:Int} {L:Aw}{S:Nat->Bool}
theorem DInv.pts{q:Ax}{V:Int->Int->Int->Prop}(h:DInv E t fr L R q S V):Pts q:=λy a=>(h.entry y a).2.2.1
theorem DInv.key(g:Graph E (AA L) C)(l:0<=t/\t<(AA L:Int)){q:Ax}(h:DInv E t fr L R q S E):
 ∀ (k:Nat) (w c:Int),Best E t w c (k:Int)->S w.toNat=AD\/∃e∈q,leR e.rank ⟨c,k+1⟩:=by
 intro k;induction k with
 |zero=>
  intro w c i;obtain⟨rfl,rfl⟩:=i.1.zero g qa;cases d:S w.toNat with
  |true=>simp_all
  |false=>
   have s:1<=(rkv R w).points:=by rw[h.src];decide
   refine .inr ⟨_,h.queued w l.1 l.2 s d,?_⟩;rw[h.src];grind
 |succ k n=>
  intro w c i;obtain⟨u,e,j,b⟩:=i.step qa;have a:=g.lt _ _ _ j;have m:=g.cost _ _ _ j;rw[show((k+1:Nat):Int)-1=(k:Int) from qa]at b;rcases n u (c-e) b with d|⟨y,v,r⟩
  ·have o:=h.relaxed u w e a.2.2.1 a.2.2.2 d (g.sym _ _ _ j);have p:=h.best u a.2.2.1 a.2.2.2 d;have x:=p.1.unique b;cases f:S w.toNat with
   |true=>simp_all
   |false=>
    refine .inr ⟨_,h.queued w a.1 a.2.1 o.1 f,?_⟩;grind
  grind
theorem DInv.first(g:Graph E (AA L) C)(m:0<=t/\t<(AA L:Int)){q:Ax}(h:DInv E t fr L R q S E){v:Int}(r:0<=v/\v<(AA L:Int))
  (p:rkv R v=a) (i:1<=a.points) (e:∀y∈q,¬ltR y.rank a):Best E t v a.cost (a.points-1):=by
 obtain⟨n,f⟩:=(h.walk v r.1 r.2).resolve_left jX;obtain⟨c,k,d⟩:=Best.exists g f;have u:=d.1.ge g;have s:=d.2 _ _ f;obtain⟨b,rfl⟩:∃b:Nat,k=b:=⟨k.toNat,qa⟩;rcases h.key g m b v c d with j|⟨y,o,l⟩
 ·have:=(h.best v r.1 r.2 j).1;simp_all
 grind[ltR]
theorem DInv.settled(g:Graph E (AA L) C)(f:0<=t/\t<(AA L:Int)){q:Ax}(h:DInv E t fr L R q S E){w c k:Int}(a:Best E t w c k)
 (i:∀y∈q,ltR ⟨c,k+1⟩ y.rank):rkv R w=⟨c,k+1⟩:=by
 have r:=a.1.ge g;have e:=a.1.lt g f;obtain⟨b,rfl⟩:∃b:Nat,k=b:=⟨k.toNat,qa⟩;rcases h.key g f b w c a with j|⟨y,n,m⟩
 ·obtain⟨l,o⟩:=h.best w e.1 e.2 j;have:=l.unique a;generalize rkv R w=z at this;obtain⟨s,p⟩:=z;grind
 grind[ltR]
theorem DInv.relax(g:Graph E (AA L) C){q O:Ax}{V:Int->Int->Int->Prop}(hV:∀v w c,V v w c->E v w c)(h:DInv E t fr L R q S V){v w c:Int}
 (X:0<=t/\t<(AA L:Int)) (U:S v.toNat=AD) (K:E v w c) (j:(rkv R w).points=0\/ltR ⟨(rkv R v).cost+c,(rkv R v).points+1⟩ (rkv R w)) (hh:Heap O)
 (r:∀y,y∈O↔(y∈q\/y=⟨⟨(rkv R v).cost+c,(rkv R v).points+1⟩,w⟩)) (F:∀u:Int,0<=u->u<(AA L:Int)->S u.toNat=true->leR (rkv R u) (rkv R v)):
 DInv E t fr L (R.set w.toNat ⟨(rkv R v).cost+c,(rkv R v).points+1⟩) O S (λa b d=>V a b d\/(a=v/\b=w/\d=c))/\w≠v/\S w.toNat=false:=by
 have k:=g.lt _ _ _ K;have hce:=g.cost _ _ _ K;obtain⟨z,hpv⟩:=h.best v k.1 k.2.1 U;have A:Walk E t w ((rkv R v).cost+c) ((rkv R v).points-1+1):=.cons (g.sym _ _ _ K) z.1;have o:S w.toNat=false:=by
  cases M:S w.toNat with
  |false=>rfl
  |true=>
   obtain⟨Y,b2⟩:=h.best w k.2.2.1 k.2.2.2 M;have:=Y.2 _ _ A;unfold ltR at j;simp only at j;omega
 have N:w≠v:=λe=>by rw[e,U]at o;cases o
 have i:∀u:Int,0<=u->rkv (R.set w.toNat ⟨(rkv R v).cost+c,(rkv R v).points+1⟩) u=if u=w then⟨(rkv R v).cost+c,(rkv R v).points+1⟩else rkv R u:=λu H=>Hf ⟨k.2.2.1,by have:=h.len;omega⟩ H
 have J:∀u:Int,0<=u->S u.toNat=true->rkv (R.set w.toNat ⟨(rkv R v).cost+c,(rkv R v).points+1⟩) u=rkv R u:=λu H f=>by
  rw[i u H,qb (λe=>by subst e;rw[o]at f;cases f)]
 have p:∀u:Int,0<=u->1<=(rkv R u).points->1<=(rkv (R.set w.toNat ⟨(rkv R v).cost+c,(rkv R v).points+1⟩) u).points/\leR (rkv (R.set w.toNat ⟨(rkv R v).cost+c,(rkv R v).points+1⟩) u) (rkv R u):=λu H G=>by
  rw[i u H];by_cases e:u=w;{subst e;rw[qc rfl];unfold ltR at j;simp only[leR]at j⊢;omega};rw[qb e];exact⟨G,.inr ⟨rfl,wM _⟩⟩
 refine⟨⟨by simpa using h.len,λu h0 h1=>?_,λu h0 h1=>?_,?_,λu h0 h1 f=>?_,λu x d h0 h1 f hv=>?_,λu h0 h1 G f=>?_,λy B=>?_,λu h0 h1 f y B=>?_,hh,h.notFrom⟩,N,o⟩
 ·rw[i u h0];by_cases e:u=w
  ·subst e;rw[qc rfl];refine .inr ⟨j8,?_⟩;have:(rkv R v).points-1+1=(rkv R v).points+1-1:=qa;rw[this]at A;exact A
  rw[qb e];exact h.walk u h0 h1
 ·rw[i u h0];by_cases e:u=w;{rw[qc e];have:=z.few g X;simp only;omega};rw[qb e];exact h.few u h0 h1
 ·rw[i t X.1,qb (λe=>?_)];{exact h.src};subst e;rw[h.src]at j;have h0:=z.1.ge g;unfold ltR at j;simp only at j;omega
 {rw[J u h0 f];exact h.best u h0 h1 f}
 ·rw[J u h0 f];rcases hv with hv|⟨rfl,rfl,rfl⟩
  {have Q:=h.relaxed u x d h0 h1 f hv;have hx:=(g.lt _ _ _ (hV _ _ _ hv)).2.2.1;have D:=p x hx Q.1;refine⟨D.1,?_⟩;have h4:=Q.2;have I:=D.2;simp only[leR]at h4 I⊢;omega};rw[i x k.2.2.1,qc rfl];exact⟨j8,.inr ⟨rfl,wM _⟩⟩
 ·rw[i u h0]at G⊢;by_cases e:u=w;{rw[qc e];exact(r _).2 (.inr (by rw[e]))};rw[qb e]at G⊢;exact(r _).2 (.inl (h.queued u h0 h1 G f))
 ·rcases(r y).1 B with B|rfl;{obtain⟨P,Z,e3,e4,e5⟩:=h.entry y B;have D:=p y.point P e4;refine⟨P,Z,e3,D.1,?_⟩;have I:=D.2;simp only[leR]at I e5⊢;omega};refine⟨k.2.2.1,k.2.2.2,j8,?_⟩;simp only;rw[i w k.2.2.1,qc rfl];exact⟨j8,.inr ⟨rfl,wM _⟩⟩
 rw[J u h0 f];rcases(r y).1 B with B|rfl
 {exact h.low u h0 h1 f y B};have:=F u h0 h1 f;simp only[leR]at this⊢;omega
theorem DInv.skip {R:Ay}{q:Ax}{S:Nat->Bool}{V:Int->Int->Int->Prop}(h:DInv E t fr L R q S V){v w c:Int}
 (i:¬ ((rkv R w).points=0\/ltR ⟨(rkv R v).cost+c,(rkv R v).points+1⟩ (rkv R w))) (g:0<=w/\w<(AA L:Int)):
 DInv E t fr L R q S (λa b d=>V a b d\/(a=v/\b=w/\d=c)):=by
 refine⟨h.len,h.walk,h.few,h.src,h.best,λu x d k j e f=>?_,h.queued,h.entry,h.low,h.heap,h.notFrom⟩;rcases f with f|⟨rfl,rfl,rfl⟩
 {exact h.relaxed u x d k j e f};have:=h.walk x g.1 g.2;grind[ltR]
theorem DInv.congr{q:Ax}{V f:Int->Int->Int->Prop}(h:DInv E t fr L R q S V)(g:∀a b d,S a.toNat=true->f a b d->V a b d):DInv E t fr L R q S f:=
 ⟨h.len,h.walk,h.few,h.src,h.best,λu x d j i c e=>h.relaxed u x d j i c (g _ _ _ c e),h.queued,h.entry,h.low,h.heap,h.notFrom⟩
end Go.Abs
