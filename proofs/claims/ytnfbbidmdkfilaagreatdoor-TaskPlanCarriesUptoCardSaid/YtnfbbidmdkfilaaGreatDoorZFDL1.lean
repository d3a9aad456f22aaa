import Derived.Test.YtnfbbidmdkfilaaGreatDoorZFPLib
import Derived.Test.YtnfbbidmdkfilaaGreatDoorZFD4
import Derived.Lib.DecodeN
open Bool renaming and_eq_true->qm,not_true->qJ,true_and->qM,and_self->qN,or_eq_false_iff->qp,eq_iff_iff->qR,false_ne_true->qS,not_eq_true->qX,not_eq_true'->qY,and_true->wi,false_and->wt,true_eq_false->wy,not_false->wJ
open Classical renaming byContradiction->wK
open Decidable renaming decide->qv
open Go.IntKind renaming i64->qt
open Inhabited renaming default->qu
open Int renaming mul_tdiv_add_tmod->qw,mul_neg->qx,le_of_lt->qB,le_ediv_iff_mul_le->qC,pow_add->qD,mul_le_mul_of_nonneg_left->qE,toNat_natCast->qF,natAbs_mul->qH,mul_nonneg->qK,mul_le_mul->qL,mul_le_mul_of_nonneg_right->wj,toNat->wk,pow_succ->wm,emod_nonneg->wz,emod_lt_of_pos->wA
open List renaming length_cons->qy,length_nil->qA,range->qT,range_succ->qU,getD_eq_getElem?_getD->qZ,length_set->wc,set_set->wd,length_replicate->we,mem_cons->wg,getElem_of_mem->wh,getD_cons_zero->wo,getD_cons_succ->ws,mem_append->wu,mem_singleton->wv,getElem?_eq_getElem->wB,length_append->wE,pairwise_append->wF,pairwise_cons->wG,getElem?_append->wH,append_assoc->wI
open Nat renaming mul_le_mul->qz,min_eq_left->qG,pow_le_pow_right->qW,le_refl->qk,lt_succ_self->wD
open Option renaming bind_some->qI,bind->qO,isSome_some->qP,isSome_none->qQ,map_some->wx,getD_some->wC
open Go.Abs.T renaming run->qj
noncomputable section
namespace Go.Abs
theorem gza {c:Type}{a b:Int}{x y:c}(h:a=b):(bif (a==b)then x else y)=x:=hzh jH
theorem gz1 {c:Type}{a b:Int}{x y:c}(h:a≠b):(bif (a==b)then x else y)=y:=hzt jH
theorem czc {c:Type}{a b:Int}{x y:c}(h:a≠b):(bif (a !=b)then x else y)=x:=hzh jH
theorem bz5 {c:Type}{a b:Int}{x y:c}(h:a=b):(bif (a !=b)then x else y)=y:=hzt jH
theorem wr (n:Int):qt.wrap n=(n+9223372036854775808) % 18446744073709551616-9223372036854775808:=by
 show(if(true&&qv (n % 18446744073709551616>=9223372036854775808))=true then n % 18446744073709551616-18446744073709551616 else n % 18446744073709551616)=_
 grind
theorem aznw (n:Int): -9223372036854775808<=qt.wrap n:=by rw[wr];omega
theorem aznv (n:Int):qt.wrap n<=9223372036854775807:=by rw[wr];omega
theorem azlk (n:Int):qt.wrap (qt.wrap n)=qt.wrap n:=w64 (aznw n) (aznv n)
theorem azdt (a b:Int):qt.wrap (qt.wrap a+b)=qt.wrap (a+b):=by simp only[wr];omega
theorem azli (a b:Int):qt.wrap (a+qt.wrap b)=qt.wrap (a+b):=by simp only[wr];omega
theorem az5b (a b:Int):qt.wrap (qt.wrap a-b)=qt.wrap (a-b):=by simp only[wr];omega
theorem azlj (a b:Int):qt.wrap (a-qt.wrap b)=qt.wrap (a-b):=by simp only[wr];omega
def InR (x:Int):Prop:= -9223372036854775808<=x/\x<=9223372036854775807
theorem InR.wr (n:Int):InR (qt.wrap n):=⟨aznw n,aznv n⟩
theorem InR.w {x:Int}(h:InR x):qt.wrap x=x:=w64 h.1 h.2
def cdiv (a b:Int):Int:= -((-a) / b)
theorem Bz7 {a b:Int}(c:0<=a):a.tdiv b=a / b:=Int.tdiv_eq_ediv_of_nonneg c
theorem azhp {a b:Int}(c:0<=a):a.tmod b=a % b:=Int.tmod_eq_emod_of_nonneg c
theorem az2v (a b:Int):(-a).tdiv b= -(a.tdiv b):=Int.neg_tdiv a b
theorem azdo (a b:Int):(-a).tmod b= -(a.tmod b):=Int.neg_tmod a b
theorem Fzh {a b q r:Int}(c:0<=r)(d:r<b)(h:a=b * q+r):a / b=q:=by
 subst h;rw[Int.mul_add_ediv_left _ _ (by omega:b≠0),Int.ediv_eq_zero_of_lt c d];omega
theorem az3z {a b:Int}(c:0<b):(if a.tmod b<0 then a.tdiv b-1 else a.tdiv b)=a / b:=by
 have f:=qw a b;have e:=Int.tmod_lt_of_pos a c;have d:=Int.lt_tmod_of_pos a c;split
 ·symm;exact Fzh (r:=a.tmod b+b) qa qa jI
 ·symm;exact Fzh (r:=a.tmod b) qa qa qa
theorem azhy {a b:Int}(d:0<b):(if a.tmod b>0 then a.tdiv b+1 else a.tdiv b)=cdiv a b:=by
 have:=az3z (a:= -a) d;rw[azdo,az2v]at this
 grind[cdiv]
theorem Vzs {a b:Int}(c:0<b):b * (a / b)<=a:=Int.mul_ediv_self_le qa
theorem az5p {a b:Int}(c:0<b):a<b * (a / b)+b:=Int.lt_mul_ediv_self_add c
theorem Nzz {a b:Int}(c:0<b):(0<=a->0<=a / b/\a / b<=a)/\(a<0->a<=a / b/\a / b<0):=by
 refine⟨λh=>⟨Int.ediv_nonneg h qa,Int.ediv_le_self _ h⟩,λh=>⟨?_,Int.ediv_neg_of_neg_of_pos h c⟩⟩;have e:=az5p (a:=a) c;by_cases g:a<=a / b
 ·omega
 ·have f:b * (a / b)+b=b * (a / b+1):=by grind
  have d:b * (a / b+1)<=1 * (a / b+1):=Int.mul_le_mul_of_nonpos_right qa qa;omega
theorem InR.div {a b:Int}(h:InR a)(c:0<b):InR (a / b):=by
 have:=Nzz (a:=a) c;obtain⟨e,d⟩:=h;by_cases f:0<=a
 ·exact⟨qa,qa⟩
 ·exact⟨qa,qa⟩
theorem Hzu {a b:Int}(c:0<b):(0<a->0<cdiv a b/\cdiv a b<=a)/\(a<=0->a<=cdiv a b/\cdiv a b<=0):=by
 have:=Nzz (a:= -a) c
 grind[cdiv]
theorem InR.cdiv {a b:Int}(h:InR a)(c:0<b):InR (Go.Abs.cdiv a b):=by
 have:=Hzu (a:=a) c;obtain⟨e,d⟩:=h;by_cases f:0<a
 ·exact⟨qa,qa⟩
 ·exact⟨qa,qa⟩
theorem azld {a b:Int}(c:0<b):(0<=a->0<=a.tdiv b/\a.tdiv b<=a)/\(a<=0->a<=a.tdiv b/\a.tdiv b<=0):=by
 refine⟨λh=>?_,λh=>?_⟩
 ·simp_all[Bz7,Nzz]
 ·have d:=(Nzz (a:= -a) c).1 qa
  grind[az2v]
theorem InR.tdiv {a b:Int}(h:InR a)(c:0<b):InR (a.tdiv b):=by
 have:=azld (a:=a) c;obtain⟨e,d⟩:=h;by_cases f:0<=a
 ·exact⟨qa,qa⟩
 ·exact⟨qa,qa⟩
theorem azmf {a b:Int}(e:InR a)(d:0<b):(bif qv (a.tmod b<0)then qt.wrap (qt.wrap (a.tdiv b)-1)else qt.wrap (a.tdiv b))=a / b:=by
 rw[(e.tdiv d).w,<-az3z d,cond_eq_ite];simp only[qf];split
 ·rename_i h;have:=e.div d;rw[<-az3z d,qc h]at this;exact this.w
 ·rfl
theorem azo1 {a b:Int}(e:InR a)(d:0<b):(bif qv (a.tmod b>0)then qt.wrap (qt.wrap (a.tdiv b)+1)else qt.wrap (a.tdiv b))=cdiv a b:=by
 rw[(e.tdiv d).w,<-azhy d,cond_eq_ite];simp only[qf];split
 ·rename_i h;have:=e.cdiv d;rw[<-azhy d,qc h]at this;exact this.w
 ·rfl
theorem Jze {a b q:Int}(c:0<b):cdiv a b=q↔a<=b * q/\b * q<a+b:=by
 unfold cdiv;have e:=Vzs (a:= -a) c;have d:=az5p (a:= -a) c;constructor
 ·grind[qx]
 ·intro h;have: -a / b= -q:=Fzh (r:=b * q-a) qa qa jI;omega
def scan {R:Type}(g:Nat->Option R):Nat->Nat->Option R
 |0,_=>none
 |n+1,i=>match g i with
  |some r=>some r
  |none=>scan g n (i+1)
theorem ez0 {R:Type}{g:Nat->Option R}:∀ (n i:Nat),scan g n i=none↔∀j,i<=j->j<i+n->g j=none
 |0,i=>by grind[scan]
 |n+1,i=>by
  simp only[scan];constructor
  ·intro h;split at h
   ·cases h
   ·rename_i a;intro j c b;by_cases e:j=i
    ·subst e;exact a
    ·exact(ez0 n (i+1)).1 h j qa qa
  ·intro h;rw[h i qa qa];exact(ez0 n (i+1)).2 λj c b=>h j qa qa
theorem ezh {R:Type}{g:Nat->Option R}{r:R}:∀ (n i:Nat),scan g n i=some r->∃j,i<=j/\j<i+n/\g j=some r/\∀k,i<=k->k<j->g k=none
 |0,i,h=>by cases h
 |n+1,i,h=>by
  simp only[scan]at h;split at h
  ·rename_i a;cases h;exact⟨i,qa,qa,a,λk f d=>qa⟩
  ·rename_i a;obtain⟨j,f,d,c,l⟩:=ezh n (i+1) h;refine⟨j,qa,qa,c,λk m b=>?_⟩;by_cases e:k=i
   ·subst e;exact a
   ·exact l k qa b
theorem az10 {σ τ R:Type}{f:σ->Option (Step3 σ τ R)}(c:Nat->σ)(g:Nat->Option R)(y:τ):
 ∀ (n i N:Nat),n<N->(∀j,i<=j->j<i+n->f (c j)=match g j with|some r=>some (.fin r)|none=>some (.next (c (j+1))))->f (c (i+n))=some (.out y)->
   iter f N (c i)=some (match scan g n i with|some r=>.inr r|none=>.inl y)
 |0,i,0,h,_,_=>qa
 |0,i,N+1,_,_,h=>by grind[iter,scan]
 |n+1,i,0,h,_,_=>qa
 |n+1,i,N+1,l,d,m=>by
  have e:=d i qa qa;simp only[scan];cases k:g i with
  |some r=>grind[iter]
  |none=>
   rw[k]at e;simp only[iter,e];exact az10 c g y n (i+1) N qa (λj a b=>d j qa qa) jI
theorem hz1 {σ τ R:Type}{f:σ->Option (Step3 σ τ R)}{k:τ->Option R}{x:σ}(a:Nat->σ)(g:Nat->Option R)(y:τ)(n:Nat)(c:x=a 0)(b:n<NN)
 (d:∀j,j<n->f (a j)=match g j with|some r=>some (.fin r)|none=>some (.next (a (j+1)))) (e:f (a n)=some (.out y)):
 andK (iter f NN x) k=match scan g n 0 with|some r=>some r|none=>k y:=by
 rw[c,az10 a g y n 0 NN b (λj _ h=>d j qa) jH];cases scan g n 0<;>rfl
theorem bzh {σ τ R:Type}{f:σ->Option (Step3 σ τ R)}{k:τ->Option R}{x:σ}(a:Nat->σ)(y:τ)(n:Nat)(e:x=a 0)(b:n<NN)
 (d:∀j,j<n->f (a j)=some (.next (a (j+1)))) (c:f (a n)=some (.out y)):andK (iter f NN x) k=k y:=by
 rw[e,gzv (nzo a rfl n b d c)]
theorem az9 {R:Type}{p:Prop}[Decidable p]{k:Option R}(h:p):grd p k=k:=by unfold grd;grind
theorem az06 {α:Type}[Inhabited α][En α]{t k:Nat}{l:List α}(h:l.length<4294967296)(hk:k<=32768):(izi t k l).run NN=some l:=by
 cases l with
 |nil=>rfl
 |cons a l=>
  simp only[izi,qj];simp only[qy]at h;have:(l.length+1) * k<=4294967296 * 32768:=qz qa hk;rw[az9 jG,az9 ⟨by simp only[qA,qy,Nat.zero_add];omega,by simp only[qA,qy,azd];omega⟩];rfl
theorem qze {a:Type}{b:Bool}{x y:a}:(bif b then some x else some y)=some (bif b then x else y):=jI
theorem bzb {σ τ R:Type}{b:Bool}{x y:τ}:(bif b then some (Step3.out x)else some (Step3.out y):Option (Step3 σ τ R))=some (.out (bif b then x else y)):=jI
theorem ezy {b c:Bool}:(bif b then true else c)=(b||c):=by rfl
theorem az98 {b c:Bool}:(bif b then c else false)=(b&&c):=jH
theorem dz8 {a b:Int}(c:InR a)(d:0<b):(bz7 a b).o=some (a / b):=by
 show(Ez2 a b).run NN=_
 grind[Ez2,qj,az9,az3,azmf]
theorem cza {a b:Int}(c:InR a)(d:0<b):(azz a b).o=some (cdiv a b):=by
 show(Izq a b).run NN=_
 grind[Izq,qj,az9,az3,azo1]
theorem cz4 (k:Nat):(0:Int)<2 ^ k:=Int.pow_pos qa
theorem Xzk (a:Int)(k:Nat):a.fdiv (2 ^ k)=a / 2 ^ k:=Int.fdiv_eq_ediv_of_nonneg _ (qB (cz4 k))
theorem mzk (a:Int)(k:Nat)(b:k<=64):(bza a (k:Int)).o=some (a / 2 ^ k):=by
 show(mzj a (k:Int)).run NN=_
 grind[mzj,qj,az9]
theorem up_w {a b:Int}(h:InR a)(d:0<b)(f:InR (b * (a / b))):(bif (qt.wrap (a / b * b) !=a)then qt.wrap (a / b+1)else a / b)=cdiv a b:=by
 rw[Int.mul_comm,f.w];have j:=Vzs (a:=a) d;have i:=az5p (a:=a) d
 symm
 rw[Jze d];by_cases e:b * (a / b)=a
 ·simp_all
 ·rw[czc e];have:qt.wrap (a / b+1)=a / b+1:=by
   have g:=h.cdiv d;have:cdiv a b=a / b+1:=by rw[Jze d,Int.mul_add];omega
   rw[this]at g;exact g.w
  rw[this,Int.mul_add];omega
theorem azn9 {a:Int}{k:Nat}(c:k<=63)(d:InR a):InR (2 ^ k * (a / 2 ^ k)):=by
 have b:=cz4 k;have g:=Vzs (a:=a) b;obtain⟨h,i⟩:=d;have f: -(2 ^ (63-k))<=a / 2 ^ k:=by
  rw[qC b,Int.neg_mul,<-qD,Nat.sub_add_cancel c];omega
 have e:2 ^ k * -(2:Int) ^ (63-k)<=2 ^ k * (a / 2 ^ k):=qE f qa;rw[qx,<-qD,Nat.add_sub_cancel' c]at e;exact⟨qa,qa⟩
theorem rzv {a:Int}(k:Nat)(c:k<=63)(b:InR a):(bzl a (k:Int)).o=some (cdiv a (2 ^ k)):=by
 show(rzu a (k:Int)).run NN=_;simp only[rzu,qj];rw[az8 qa,az9 qa,az9 qa,qF,qG qa,Xzk,bzb,az3,up_w b (cz4 k) (azn9 c b)]
theorem sd16 (a:Int):(bza a 16).o=some (a / 65536):=mzk a 16 jF
theorem sd30 (a:Int):(bza a 30).o=some (a / 1073741824):=mzk a 30 jF
theorem sd14 (a:Int):(bza a 14).o=some (a / 16384):=mzk a 14 jF
theorem su16 {a:Int}(h:InR a):(bzl a 16).o=some (cdiv a 65536):=rzv 16 jF h
theorem su30 {a:Int}(h:InR a):(bzl a 30).o=some (cdiv a 1073741824):=rzv 30 jF h
theorem su14 {a:Int}(h:InR a):(bzl a 14).o=some (cdiv a 16384):=rzv 14 jF h
def clV (x:Int):Int:=max (-2147483648) (min x 2147483648)
def vV (a:az0):Bool:=qv (-2147483648<=a.Lo)&&(qv (a.Lo<=a.Hi)&&qv (a.Hi<=2147483648))
theorem vV_iff {a:az0}:vV a=true↔ -2147483648<=a.Lo/\a.Lo<=a.Hi/\a.Hi<=2147483648:=by simp[vV]
def iz:az0:=⟨0,0⟩
def limV (lo a:Int):az0:=⟨clV lo,clV a⟩
def addV (a b:az0):az0:=if vV a&&vV b then limV (a.Lo+b.Lo) (a.Hi+b.Hi)else iz
def negV (a:az0):az0:=if vV a then⟨-a.Hi,-a.Lo⟩else iz
def Gz7 (a b:az0):Int:=min (min (min (a.Lo * b.Lo) (a.Lo * b.Hi)) (a.Hi * b.Lo)) (a.Hi * b.Hi)
def Gz6 (a b:az0):Int:=max (max (max (a.Lo * b.Lo) (a.Lo * b.Hi)) (a.Hi * b.Lo)) (a.Hi * b.Hi)
def mulV (a b:az0):az0:=if vV a&&vV b then limV (Gz7 a b / 65536) (cdiv (Gz6 a b) 65536)else iz
def qzj (a b:az0):az0:=if vV a&&vV b then⟨min a.Lo b.Lo,max a.Hi b.Hi⟩else iz
def ofV (x:Int):az0:=⟨clV x,clV x⟩
def midV (a:az0):Int:=if vV a then(a.Lo+a.Hi) / 2 else 0
theorem Xzn (a:Int):(yzv a).o=some (clV a):=by
 show(yzw a).run NN=_
 grind[yzw,qj,clV]
theorem czd (a:az0):(bzy a).o=some (vV a):=by
 show(pz0 a).run NN=_
 grind[pz0,qj,vV]
theorem fz6 (a:az0):(dz9 a).o=some (vV a):=by
 show(Ez8 a).run NN=_
 grind[Ez8,qj,vV]
theorem pz4 (a b:az0):(jzj a b).o=some (vV a&&vV b):=by
 show(pz3 a b).run NN=_
 grind[pz3,qj,czd]
theorem kzx (a b:Int):(hzj a b).o=some (limV a b):=by
 show(kzw a b).run NN=_
 grind[kzw,qj,Xzn,limV]
theorem Hzb (a b:Int):(wzd a b).o=some (limV a b):=by
 rfl
theorem ize (a:Int):(czl a).o=some (ofV a):=by
 show(zz9 a).run NN=_
 grind[zz9,qj,kzx,limV,ofV]
theorem Kzr (a:Int):(oze a).o=some (ofV a):=by
 rfl
theorem wsum {a b:Int}(c: -2147483648<=a/\a<=2147483648)(d: -2147483648<=b/\b<=2147483648):qt.wrap (a+b)=a+b:=w64 qa qa
theorem wmul {a b:Int}(c: -2147483648<=a/\a<=2147483648)(e: -2147483648<=b/\b<=2147483648):qt.wrap (a * b)=a * b/\ -4611686018427387904<=a * b/\a * b<=4611686018427387904:=by
 have h: -4611686018427387904<=a * b/\a * b<=4611686018427387904:=by
  have d:(a * b).natAbs<=2147483648 * 2147483648:=by rw[qH];exact qz qa qa
  omega
 grind[w64]
theorem vzi (a b:az0):(azn a b).o=some (addV a b):=by
 show(vzh a b).run NN=_;simp only[vzh,qj,pz4,kzx,qI,qze,addV];cases h:vV a&&vV b
 ·rfl
 grind[vV_iff,wsum]
theorem Nz1 (a b:az0):(bzn a b).o=some (addV a b):=by
 show(Nz0 a b).run NN=_;simp only[Nz0,qj,fz6,Hzb,qI,qze,addV];cases c:vV a
 ·rfl
 ·cases d:vV b
  ·rfl
  ·simp only[vV_iff]at c d;rw[wsum ⟨qa,qa⟩ ⟨qa,qa⟩,wsum ⟨qa,qa⟩ ⟨qa,qa⟩];rfl
theorem Gzu (a:az0):(nzn a).o=some (negV a):=by
 show(vzl a).run NN=_;simp only[vzl,qj,czd,qI,qze,negV];cases h:vV a
 ·rfl
 grind[vV_iff,w64]
theorem Wzf (a:az0):(Fzq a).o=some (negV a):=by
 show(Nz9 a).run NN=_;simp only[Nz9,qj,fz6,qI,qze,negV];cases h:vV a
 ·rfl
 grind[vV_iff,w64]
theorem Dz6 (a b:az0):(fzd a b).o=some (qzj a b):=by
 show(rzz a b).run NN=_;simp only[rzz,qj,pz4,qI,qze,qzj];cases h:vV a&&vV b<;>rfl
theorem az4n (a b:az0):(Azb a b).o=some (qzj a b):=by
 show(Izr a b).run NN=_;simp only[Izr,qj,fz6,qI,qze,qzj];cases c:vV a<;>cases d:vV b<;>rfl
theorem Bzg (a:az0)(h:vV a=true):(pz1 a).o=some (a.Hi-a.Lo):=by
 show(pz2 a).run NN=_
 grind[pz2,qj,czd,vV_iff,w64]
theorem Uzn (a:az0)(x:Int):(Gzs a x).o=some (vV a&&(qv (a.Lo<=x)&&qv (x<=a.Hi))):=by
 show(vzj a x).run NN=_
 grind[vzj,qj,czd]
theorem Mzk {a b:Int}(c:InR b):(xzo a b).o=some (limV (a / 65536) (cdiv b 65536)):=by
 show(mzl a b).run NN=_
 grind[mzl,qj,sd16,su16,kzx]
theorem az6d {a b:az0}(d:vV a=true)(c:vV b=true):InR (Gz7 a b)/\InR (Gz6 a b)/\Gz7 a b<=Gz6 a b:=by
 simp only[vV_iff]at d c;obtain⟨-,k,j⟩:=wmul (a:=a.Lo) (b:=b.Lo) ⟨qa,qa⟩ ⟨qa,qa⟩;obtain⟨-,g,f⟩:=wmul (a:=a.Lo) (b:=b.Hi) ⟨qa,qa⟩ ⟨qa,qa⟩;obtain⟨-,l,i⟩:=wmul (a:=a.Hi) (b:=b.Lo) ⟨qa,qa⟩ ⟨qa,qa⟩;obtain⟨-,e,h⟩:=wmul (a:=a.Hi) (b:=b.Hi) ⟨qa,qa⟩ ⟨qa,qa⟩
 grind[Gz7,Gz6,InR]
theorem Wze (a b:az0):(bz1 a b).o=some (mulV a b):=by
 show(Nz8 a b).run NN=_;simp only[Nz8,qj,fz6,Hzb,qI,qze,mulV];cases c:vV a
 ·rfl
 ·cases d:vV b
  ·rfl
  ·have e:=az6d c d;simp only[vV_iff]at c d
   rw[(wmul (a:=a.Lo) (b:=b.Lo) ⟨qa,qa⟩ ⟨qa,qa⟩).1,(wmul (a:=a.Lo) (b:=b.Hi) ⟨qa,qa⟩ ⟨qa,qa⟩).1,
    (wmul (a:=a.Hi) (b:=b.Lo) ⟨qa,qa⟩ ⟨qa,qa⟩).1,(wmul (a:=a.Hi) (b:=b.Hi) ⟨qa,qa⟩ ⟨qa,qa⟩).1]
   show(bz7 (Gz7 a b) 65536).o.bind _=_
   grind[dz8,Gz6,cza]
theorem Gzt (a b:az0):(azq a b).o=some (mulV a b):=by
 show(vzk a b).run NN=_;simp only[vzk,qj,pz4,qI,mulV];cases h:vV a&&vV b
 ·rfl
 ·simp only[qm]at h;have c:=az6d h.1 h.2;simp only[vV_iff]at h
  rw[(wmul (a:=a.Lo) (b:=b.Lo) ⟨qa,qa⟩ ⟨qa,qa⟩).1,(wmul (a:=a.Lo) (b:=b.Hi) ⟨qa,qa⟩ ⟨qa,qa⟩).1,
     (wmul (a:=a.Hi) (b:=b.Lo) ⟨qa,qa⟩ ⟨qa,qa⟩).1,(wmul (a:=a.Hi) (b:=b.Hi) ⟨qa,qa⟩ ⟨qa,qa⟩).1]
  simp only[qJ,qd];refine Eq.trans (bzh (λi=>match i with
   |0=>(a.Lo * b.Lo,a.Lo * b.Lo,0)
   |1=>(a.Lo * b.Lo,a.Lo * b.Lo,1)
   |2=>(min (a.Lo * b.Lo) (a.Lo * b.Hi),max (a.Lo * b.Lo) (a.Lo * b.Hi),2)
   |3=>(min (min (a.Lo * b.Lo) (a.Lo * b.Hi)) (a.Hi * b.Lo),max (max (a.Lo * b.Lo) (a.Lo * b.Hi)) (a.Hi * b.Lo),3)
   |_=>(Gz7 a b,Gz6 a b,4)) (Gz7 a b,Gz6 a b) 4 rfl jF ?_ ?_) ?_
  all_goals grind[az9,IntKind.wrap,IntKind.bits,Gz7,Gz6,Mzk]
def pd1 (x:Int):Int:=qt.wrap (x * 6746518852) / 65536
def pu1 (x:Int):Int:=cdiv (qt.wrap (x * 6746518853)) 65536
def pd (x:Int):Nat->Int
 |0=>pd1 x
 |k+1=>qt.wrap (pd x k * pd1 x) / 1073741824
def pu (x:Int):Nat->Int
 |0=>pu1 x
 |k+1=>cdiv (qt.wrap (pu x k * pu1 x)) 1073741824
theorem Bz9 (x:Int):(ozq x).o=some ((1073741824,pd x 0,pd x 1,pd x 2,pd x 3,pd x 4,pd x 5,pd x 6,pd x 7,pd x 8,pd x 9),(1073741824,pu x 0,pu x 1,pu x 2,pu x 3,pu x 4,pu x 5,pu x 6,pu x 7,pu x 8,pu x 9)):=by
 show(ozr x).run NN=_
 simp_all[ozr,qj,sd16,su16,InR.wr,sd30,su30,pd,pu,pd1,pu1]
theorem Kzu (x:Int):(Aze x).o=some ((0,pd x 0,pd x 1,pd x 2,pd x 3,pd x 4,pd x 5,pd x 6,pd x 7,pd x 8,pd x 9),(0,pu x 0,pu x 1,pu x 2,pu x 3,pu x 4,pu x 5,pu x 6,pu x 7,pu x 8,pu x 9)):=by
 have a:∀y:Int,(bz7 (qt.wrap y) 65536).o=some (qt.wrap y / 65536):=λy=>dz8 (InR.wr _) jF
 have d:∀y:Int,(azz (qt.wrap y) 65536).o=some (cdiv (qt.wrap y) 65536):=λy=>cza (InR.wr _) jF
 have c:∀y:Int,(bz7 (qt.wrap y) 1073741824).o=some (qt.wrap y / 1073741824):=λy=>dz8 (InR.wr _) jF
 have b:∀y:Int,(azz (qt.wrap y) 1073741824).o=some (cdiv (qt.wrap y) 1073741824):=λy=>cza (InR.wr _) jF
 show(Azf x).run NN=_
 simp_all[Azf,qj,pd,pu,pd1,pu1]
theorem azc7 {x:Int}(a:0<=x)(b:x<=8192):0<=pd1 x/\pd1 x<=1073741824:=by
 grind[pd1,w64]
theorem azcg {x:Int}(a:0<=x)(b:x<=8192):0<=pu1 x/\pu1 x<=1073741824:=by
 grind[pu1,cdiv,w64]
theorem Yzl {a b:Int}(d:0<=a/\a<=1073741824)(c:0<=b/\b<=1073741824):0<=a * b/\a * b<=1152921504606846976:=by
 refine⟨qK d.1 c.1,?_⟩;have:=qL d.2 c.2 c.1 (by omega:(0:Int)<=1073741824);omega
theorem az8a {x:Int}(a:0<=x)(b:x<=8192):∀k,0<=pd x k/\pd x k<=1073741824
 |0=>azc7 a b
 |k+1=>by
  have:=Yzl (az8a a b k) (azc7 a b)
  grind[pd,w64]
theorem az8c {x:Int}(a:0<=x)(b:x<=8192):∀k,0<=pu x k/\pu x k<=1073741824
 |0=>azcg a b
 |k+1=>by
  have:=Yzl (az8c a b k) (azcg a b)
  grind[pu,w64,cdiv]
theorem dzo {n d:Int}(h:0<=n)(g:n<=1073741824)(b:0<d)(e:d<=1073741824):(dzb n d).o=some (cdiv n d):=by
 show(rzj n d).run NN=_;simp only[rzj,qj];rw[az9 qa,w64 (x:=n+d) qa qa,w64 (x:=n+d-1) qa qa,Bz7 qa];have f:=Vzs (a:=n+d-1) b;have i:=az5p (a:=n+d-1) b;have c:=(Nzz (a:=n+d-1) b).1 qa
 grind[w64,Jze]
def alt (l:List Int):Nat->Int×Int
 |0=>(0,1)
 |k+1=>(qt.wrap ((alt l k).1+qt.wrap ((alt l k).2 * l.getD k qu)),qt.wrap (0- (alt l k).2))
theorem jzr (l:List Int)(h:l.length<4294967296):(czu l).o=some (alt l l.length).1:=by
 show(jzq l).run NN=_;simp only[jzq,qj];refine Eq.trans (bzh (λi=>((alt l i).1,(alt l i).2,(i:Int))) (alt l l.length).1 l.length rfl h ?_ ?_) rfl;all_goals grind[az9,alt,w64n]
theorem alt4 {a b c d:Int}(e:0<=a/\a<=1073741824)(f:0<=b/\b<=1073741824)(g:0<=c/\c<=1073741824)(h:0<=d/\d<=1073741824):(czu [a,b,c,d]).o=some (a-b+c-d):=by
 rw[jzr _ jG];simp[alt,wr];omega
theorem alt5 {a b c d e:Int}(f:0<=a/\a<=1073741824)(g:0<=b/\b<=1073741824)(i:0<=c/\c<=1073741824)(j:0<=d/\d<=1073741824)(h:0<=e/\e<=1073741824):(czu [a,b,c,d,e]).o=some (a-b+c-d+e):=by
 rw[jzr _ jG];simp[alt,wr];omega
theorem alt6 {a b c d e f:Int}(g:0<=a/\a<=1073741824)(h:0<=b/\b<=1073741824)(k:0<=c/\c<=1073741824)(l:0<=d/\d<=1073741824)(j:0<=e/\e<=1073741824)(i:0<=f/\f<=1073741824):(czu [a,b,c,d,e,f]).o=some (a-b+c-d+e-f):=by
 rw[jzr _ jG];simp[alt,wr];omega
def encV (lo a:Int):az0:=⟨max 0 (lo / 16384),min 65536 (cdiv a 16384)⟩
theorem xzf {a b:Int}(c:InR b):(mzd a b).o=some (encV a b):=by
 show(mze a b).run NN=_
 grind[mze,qj,sd14,su14,encV]
theorem Bzq {a b:Int}(c:InR a)(d:InR b):(pze a b).o=some (encV a b):=by
 show(pzf a b).run NN=_
 grind[pzf,qj,dz8,cza,encV]
def sLo (x:Int):Int:=pd x 0-cdiv (pu x 2) 6+pd x 4 / 120-cdiv (pu x 6) 5040
def sHi (x:Int):Int:=pu x 0-pd x 2 / 6+cdiv (pu x 4) 120-pd x 6 / 5040+cdiv (pu x 8) 362880
def cLo (x:Int):Int:=1073741824-cdiv (pu x 1) 2+pd x 3 / 24-cdiv (pu x 5) 720+pd x 7 / 40320-cdiv (pu x 9) 3628800
def cHi (x:Int):Int:=1073741824-pd x 1 / 2+cdiv (pu x 3) 24-pd x 5 / 720+cdiv (pu x 7) 40320
theorem q_bd {a b:Int}(c:0<=a/\a<=1073741824)(d:0<b):0<=a / b/\a / b<=1073741824:=by
 have:=(Nzz (a:=a) d).1 c.1;omega
theorem c_bd {a b:Int}(d:0<=a/\a<=1073741824)(c:0<b):0<=cdiv a b/\cdiv a b<=1073741824:=by
 have h:=Hzu (a:=a) c;omega
theorem wq {a b:Int}(c:0<=a/\a<=1073741824)(d:0<b):qt.wrap (a.tdiv b)=a / b:=by
 have:=q_bd c d;grind[w64]
theorem in30 {a:Int}(b:0<=a/\a<=1073741824):InR a:=⟨qa,qa⟩
section
variable {x:Int} (h0:0<=x) (h1:x<=8192)
include h0 h1
theorem Zzz:(Nzw x).o=some (encV (sLo x) (sHi x)):=by
 have P:=az8a h0 h1;have U:=az8c h0 h1;show(Cz9 x).run NN=_
 simp only[Cz9,qj,T.ix,Bz9,qI,dzo (U 2).1 (U 2).2 (show(0:Int)<6 by decide) jF,dzo (U 6).1 (U 6).2 (show(0:Int)<5040 by decide) jF,
  dzo (U 4).1 (U 4).2 (show(0:Int)<120 by decide) jF,dzo (U 8).1 (U 8).2 (show(0:Int)<362880 by decide) jF,wq (P 4) (show(0:Int)<120 by decide),wq (P 2) (show(0:Int)<6 by decide),wq (P 6) (show(0:Int)<5040 by decide),
  alt4 (P 0) (c_bd (U 2) (show(0:Int)<6 by decide)) (q_bd (P 4) (show(0:Int)<120 by decide)) (c_bd (U 6) (show(0:Int)<5040 by decide)),
  alt5 (U 0) (q_bd (P 2) (show(0:Int)<6 by decide)) (c_bd (U 4) (show(0:Int)<120 by decide)) (q_bd (P 6) (show(0:Int)<5040 by decide)) (c_bd (U 8) (show(0:Int)<362880 by decide))]
 have f:=U 0;have e:=q_bd (P 2) (show(0:Int)<6 by decide);have g:=c_bd (U 4) (show(0:Int)<120 by decide);have d:=q_bd (P 6) (show(0:Int)<5040 by decide);have c:=c_bd (U 8) (show(0:Int)<362880 by decide);rw[xzf ⟨qa,qa⟩];rfl
theorem Uz3:(Gzk x).o=some (encV (cLo x) (cHi x)):=by
 have P:=az8a h0 h1;have U:=az8c h0 h1;have a:(0:Int)<=1073741824/\(1073741824:Int)<=1073741824:=jF
 show(vz5 x).run NN=_
 simp only[vz5,qj,T.ix,Bz9,qI,dzo (U 1).1 (U 1).2 (show(0:Int)<2 by decide) jF,dzo (U 5).1 (U 5).2 (show(0:Int)<720 by decide) jF,dzo (U 9).1 (U 9).2 (show(0:Int)<3628800 by decide) jF,
  dzo (U 3).1 (U 3).2 (show(0:Int)<24 by decide) jF,dzo (U 7).1 (U 7).2 (show(0:Int)<40320 by decide) jF,wq (P 3) (show(0:Int)<24 by decide),wq (P 7) (show(0:Int)<40320 by decide),wq (P 1) (show(0:Int)<2 by decide),wq (P 5) (show(0:Int)<720 by decide),
  alt6 a (c_bd (U 1) (show(0:Int)<2 by decide)) (q_bd (P 3) (show(0:Int)<24 by decide)) (c_bd (U 5) (show(0:Int)<720 by decide)) (q_bd (P 7) (show(0:Int)<40320 by decide)) (c_bd (U 9) (show(0:Int)<3628800 by decide)),
  alt5 a (q_bd (P 1) (show(0:Int)<2 by decide)) (c_bd (U 3) (show(0:Int)<24 by decide)) (q_bd (P 5) (show(0:Int)<720 by decide)) (c_bd (U 7) (show(0:Int)<40320 by decide))]
 have g:=q_bd (P 1) (show(0:Int)<2 by decide);have f:=c_bd (U 3) (show(0:Int)<24 by decide);have d:=q_bd (P 5) (show(0:Int)<720 by decide);have e:=c_bd (U 7) (show(0:Int)<40320 by decide);rw[xzf ⟨qa,qa⟩];rfl
theorem az4q:(Tz0 x).o=some (encV (sLo x) (sHi x)):=by
 have P:=az8a h0 h1;have U:=az8c h0 h1;show(Izw x).run NN=_
 simp only[Izw,qj,T.ix,Kzu,qI,cza (in30 (U 2)) (show(0:Int)<6 by decide),cza (in30 (U 6)) (show(0:Int)<5040 by decide),cza (in30 (U 4)) (show(0:Int)<120 by decide),cza (in30 (U 8)) (show(0:Int)<362880 by decide),
  dz8 (in30 (P 4)) (show(0:Int)<120 by decide),dz8 (in30 (P 2)) (show(0:Int)<6 by decide),dz8 (in30 (P 6)) (show(0:Int)<5040 by decide),azdt,az5b]
 have k:=P 0;have d:=c_bd (U 2) (show(0:Int)<6 by decide);have f:=q_bd (P 4) (show(0:Int)<120 by decide);have e:=c_bd (U 6) (show(0:Int)<5040 by decide);have i:=U 0;have h:=q_bd (P 2) (show(0:Int)<6 by decide);have j:=c_bd (U 4) (show(0:Int)<120 by decide);have g:=q_bd (P 6) (show(0:Int)<5040 by decide);have c:=c_bd (U 8) (show(0:Int)<362880 by decide);rw[w64 (x:=pd x 0-cdiv (pu x 2) 6+pd x 4 / 120-cdiv (pu x 6) 5040) qa qa,w64 (x:=pu x 0-pd x 2 / 6+cdiv (pu x 4) 120-pd x 6 / 5040+cdiv (pu x 8) 362880) qa qa,Bzq ⟨qa,qa⟩ ⟨qa,qa⟩];rfl
theorem Yzv:(Kzt x).o=some (encV (cLo x) (cHi x)):=by
 have P:=az8a h0 h1;have U:=az8c h0 h1;show(Azd x).run NN=_
 simp only[Azd,qj,T.ix,Kzu,qI,cza (in30 (U 1)) (show(0:Int)<2 by decide),cza (in30 (U 5)) (show(0:Int)<720 by decide),cza (in30 (U 9)) (show(0:Int)<3628800 by decide),cza (in30 (U 3)) (show(0:Int)<24 by decide),cza (in30 (U 7)) (show(0:Int)<40320 by decide),
  dz8 (in30 (P 3)) (show(0:Int)<24 by decide),dz8 (in30 (P 7)) (show(0:Int)<40320 by decide),dz8 (in30 (P 1)) (show(0:Int)<2 by decide),dz8 (in30 (P 5)) (show(0:Int)<720 by decide),azdt,az5b]
 have e:=c_bd (U 1) (show(0:Int)<2 by decide);have j:=q_bd (P 3) (show(0:Int)<24 by decide);have f:=c_bd (U 5) (show(0:Int)<720 by decide);have d:=q_bd (P 7) (show(0:Int)<40320 by decide);have g:=c_bd (U 9) (show(0:Int)<3628800 by decide);have i:=q_bd (P 1) (show(0:Int)<2 by decide);have k:=c_bd (U 3) (show(0:Int)<24 by decide);have h:=q_bd (P 5) (show(0:Int)<720 by decide);have c:=c_bd (U 7) (show(0:Int)<40320 by decide);rw[w64 (x:=1073741824-cdiv (pu x 1) 2+pd x 3 / 24-cdiv (pu x 5) 720+pd x 7 / 40320-cdiv (pu x 9) 3628800) qa qa,w64 (x:=1073741824-pd x 1 / 2+cdiv (pu x 3) 24-pd x 5 / 720+cdiv (pu x 7) 40320) qa qa,Bzq ⟨qa,qa⟩ ⟨qa,qa⟩];rfl
end
def qV (r:Int):az0:=if r<=8192 then encV (sLo r) (sHi r)else encV (cLo (16384-r)) (cHi (16384-r))
theorem Wzr {r:Int}(a:0<=r)(b:r<=16384):(kzo r).o=some (qV r):=by
 show(yzh r).run NN=_
 grind[yzh,qj,qV,Zzz,w64,Uz3]
theorem Uzz {r:Int}(a:0<=r)(b:r<=16384):(jz6 r).o=some (qV r):=by
 show(wzb r).run NN=_
 grind[wzb,qj,qV,az4q,w64,Yzv]
theorem aze3 (a:Int):(((BitVec.ofInt 64 a&&&BitVec.ofInt 64 65535).toNat:Nat):Int)=a % 65536:=by
 have b:(BitVec.ofInt 64 65535).toNat=2 ^ 16-1:=jF
 rw[BitVec.toNat_and,b,Nat.and_two_pow_sub_one_eq_mod,BitVec.toNat_ofInt];omega
theorem rzl (a:Int):(kzq a).o=some (a % 65536):=by
 show(rzk a).run NN=_
 grind[rzk,qj,aze3,w64]
theorem Nz7 (a:Int):(Fzp a).o=some (a % 65536):=by
 show(Nz6 a).run NN=_
 grind[Nz6,qj,w64]
def sinV (a:Int):az0:=
 if a % 65536 / 16384=0 then qV (a % 65536 % 16384)else if a % 65536 / 16384=1 then qV (16384-a % 65536 % 16384)else
 if a % 65536 / 16384=2 then negV (qV (a % 65536 % 16384))else negV (qV (16384-a % 65536 % 16384))
theorem Qzu (a:Int):(yzg a).o=some (sinV a):=by
 show(Hzr a).run NN=_;simp only[Hzr,qj,rzl,qI,sinV]
 grind[w64,Wzr,Gzu]
theorem Wzg (a:Int):(Fzr a).o=some (sinV a):=by
 show(Nza a).run NN=_;simp only[Nza,qj,Nz7,qI,sinV]
 grind[w64,Uzz,Wzf]
def cosV (a:Int):az0:=sinV (a % 65536+16384)
theorem az35 (a:Int):(Hzp a).o=some (cosV a):=by
 show(Hzq a).run NN=_;simp only[Hzq,qj,rzl,qI,cosV]
 grind[w64,Qzu]
theorem az8f (a:Int):(Nz3 a).o=some (cosV a):=by
 show(Nz4 a).run NN=_;simp only[Nz4,qj,Nz7,qI,cosV]
 grind[w64,Wzg]
def izg (a:az0)(c:Int):Bool:=qv (a.Lo+(c-a.Lo) % 65536<=a.Hi)
def Gz5 (b:Bool)(x y:az0):az0:=if b then qzj x y else x
def sz4 (a lo d:az0)(b c:Int):az0:=
 if vV a then(if a.Hi-a.Lo>=65536 then⟨-65536,65536⟩else Gz5 (izg a c) (Gz5 (izg a b) (qzj lo d) (ofV 65536)) (ofV (-65536)))else iz
section
variable {a:az0} (h:vV a=true) {c:Int} (h0:0<=c) (h1:c<=65536)
include h h0 h1
theorem qzd:(kzp a c).o=some (izg a c):=by
 show(yzi a c).run NN=_;have b:=h;simp only[vV_iff]at b;simp only[yzi,qj,rzl,qI,Uzn,h,qM,izg];rw[w64 (x:=c-a.Lo) qa qa,w64 qa qa,qg (p:=a.Lo<=_) qa,qM]
theorem Ozl:(Ez9 a c).o=some (izg a c):=by
 show(Eza a c).run NN=_;have b:=h;simp only[vV_iff]at b;simp only[Eza,qj,Nz7,qI,izg];rw[w64 (x:=c-a.Lo) qa qa,w64 qa qa]
end
theorem Zzy (a:az0){t b:Int}(d:0<=t/\t<=65536)(c:0<=b/\b<=65536):(Nzv a t b).o=some (sz4 a (cosV a.Lo) (cosV a.Hi) t b):=by
 show(Cz8 a t b).run NN=_;simp only[Cz8,qj,czd,qI,sz4];cases h:vV a
 ·rfl
 ·simp only[qJ,qd,Bzg a h,qI,az35,Dz6,qzd h d.1 d.2,qzd h c.1 c.2,ize,if_true];by_cases e:a.Hi-a.Lo>=65536
  ·simp_all
  ·rw[az8 e,qb e];cases izg a t<;>cases izg a b<;>rfl
theorem Uz4 (a:az0){t b:Int}(d:0<=t/\t<=65536)(c:0<=b/\b<=65536):(Gzl a t b).o=some (sz4 a (sinV a.Lo) (sinV a.Hi) t b):=by
 show(vz6 a t b).run NN=_;simp only[vz6,qj,czd,qI,sz4];cases h:vV a
 ·rfl
 ·simp only[qJ,qd,Bzg a h,qI,Qzu,Dz6,qzd h d.1 d.2,qzd h c.1 c.2,ize,if_true];by_cases e:a.Hi-a.Lo>=65536
  ·simp_all
  ·rw[az8 e,qb e];cases izg a t<;>cases izg a b<;>rfl
theorem Szz (a lo c:az0){t b:Int}(d:0<=t/\t<=65536)(f:0<=b/\b<=65536):(Izu a lo c t b).o=some (sz4 a lo c t b):=by
 show(Izv a lo c t b).run NN=_;simp only[Izv,qj,fz6,qI,sz4];cases h:vV a
 ·rfl
 ·have g:=h;simp only[vV_iff]at g;rw[w64 qa qa];simp only[qJ,qd,qI,az4n,Ozl h d.1 d.2,Ozl h f.1 f.2,Kzr,if_true];by_cases e:a.Hi-a.Lo>=65536
  ·simp_all
  ·rw[az8 e,qb e];cases izg a t<;>cases izg a b<;>rfl
def sinO (a:az0):az0:=sz4 a (sinV a.Lo) (sinV a.Hi) 16384 49152
def cosO (a:az0):az0:=sz4 a (cosV a.Lo) (cosV a.Hi) 0 32768
theorem Qzt (a:az0):(Cz7 a).o=some (sinO a):=by
 show(rzi a).run NN=_
 grind[rzi,qj,Uz4,sinO]
theorem Qzs (a:az0):(Cz6 a).o=some (cosO a):=by
 show(rzh a).run NN=_
 grind[rzh,qj,Zzy,cosO]
theorem Vz0 (a:az0):(Hza a).o=some (sinO a):=by
 show(wzc a).run NN=_
 grind[wzc,qj,Wzg,Szz,sinO]
theorem Uzy (a:az0):(Hz9 a).o=some (cosO a):=by
 show(wza a).run NN=_
 simp_all[wza,qj,az8f,Szz,cosO]
abbrev IV3:=az0×az0×az0
abbrev IM3:=IV3×IV3×IV3
def izv:IV3:=(iz,iz,iz)
def mz8 (v:Int×Int×Int):IV3:=(ofV v.1,ofV v.2.1,ofV v.2.2)
def uz0:IM3:=((ofV 65536,iz,iz),(iz,ofV 65536,iz),(iz,iz,ofV 65536))
def Uz2 (a b:IV3):IV3:=(addV a.1 b.1,addV a.2.1 b.2.1,addV a.2.2 b.2.2)
def dotV (r v:IV3):az0:=addV (addV (mulV r.1 v.1) (mulV r.2.1 v.2.1)) (mulV r.2.2 v.2.2)
def Gzm (m:IM3)(v:IV3):IV3:=(dotV m.1 v,dotV m.2.1 v,dotV m.2.2 v)
def lim1 (a:az0):az0:=⟨max (-65536) (min a.Lo 65536),max (-65536) (min a.Hi 65536)⟩
def rowV (r:IV3)(b:IM3):IV3:=(lim1 (dotV r (b.1.1,b.2.1.1,b.2.2.1)),lim1 (dotV r (b.1.2.1,b.2.1.2.1,b.2.2.2.1)),lim1 (dotV r (b.1.2.2,b.2.1.2.2,b.2.2.2.2)))
def az0b (a b:IM3):IM3:=(rowV a.1 b,rowV a.2.1 b,rowV a.2.2 b)
def Tzv (axis:Int)(a:az0):IM3:=
 if vV a then(if axis=0 then((ofV 65536,iz,iz),(iz,cosO a,negV (sinO a)),(iz,sinO a,cosO a))else
  if axis=1 then((cosO a,iz,sinO a),(iz,ofV 65536,iz),(negV (sinO a),iz,cosO a))else
  if axis=2 then((cosO a,negV (sinO a),iz),(sinO a,cosO a,iz),(iz,iz,ofV 65536))else(izv,izv,izv))else(izv,izv,izv)
def Lzg (v:IV3):bz4:=⟨uz0,v⟩
def Zz0:bz4:=⟨uz0,izv⟩
def Pz0 (a b:bz4):bz4:=⟨az0b a.R b.R,Uz2 a.T (Gzm a.R b.T)⟩
def Mzq (p:bz4)(v:IV3):IV3:=Uz2 p.T (Gzm p.R v)
def Fz3 (k:Int)(a:az0):IV3:=if k=4 then(a,iz,iz)else if k=5 then(iz,a,iz)else(iz,iz,a)
def oz5 (j:azs)(a:az0):bz4:=
 Pz0 (Lzg (mz8 j.Xy)) (if j.Xn=1\/j.Xn=2\/j.Xn=3 then⟨Tzv (j.Xn-1) a,izv⟩else if j.Xn=4\/j.Xn=5\/j.Xn=6 then Lzg (Fz3 j.Xn a)else Zz0)
theorem Wzy {a b:Int}(h:a<=b):clV a<=clV b:=by unfold clV;omega
theorem az5l (a:Int): -2147483648<=clV a/\clV a<=2147483648:=by unfold clV;omega
theorem azbd {a b:Int}(h:a<=b):vV (limV a b)=true:=by
 rw[vV_iff];exact⟨(az5l a).1,Wzy h,(az5l b).2⟩
theorem Izd (a:Int):vV (ofV a)=true:=by rw[vV_iff];exact⟨(az5l a).1,Int.le_refl _,(az5l a).2⟩
theorem iz_v:vV iz=true:=rfl
theorem of0:ofV 0=iz:=rfl
theorem yzx {a b c:Int}(h:a<=b)(hc:0<c):a / c<=cdiv b c:=by
 have h1:=Vzs (a:=a) hc;have h2:=Vzs (a:= -b) hc;unfold cdiv;by_cases e:a / c<= -(-b / c)
 ·exact e
 ·exfalso
  have h3:c * (-(-b / c))<c * (a / c):=Int.mul_lt_mul_of_pos_left qa hc;rw[qx]at h3;omega
theorem azn1 (a b:az0):vV (mulV a b)=true:=by
 unfold mulV;split
 ·rename_i h;simp only[qm]at h;exact azbd (yzx (az6d h.1 h.2).2.2 jF)
 ·exact iz_v
theorem azj1 {x:az0}(h:vV x=true):addV iz x=x:=by
 have hv:=h;rw[vV_iff]at hv;obtain⟨lo,hi⟩:=x;simp only at hv;have e1:clV (0+lo)=lo:=by unfold clV;omega
 have e2:clV (0+hi)=hi:=by unfold clV;omega
 simp only[addV,h,iz_v,qN,if_true,limV];exact congr (congrArg az0.mk e1) e2
theorem add0 (a b:az0):addV ⟨0,0⟩ (mulV a b)=mulV a b:=azj1 (azn1 a b)
theorem nzp (v:Int×Int×Int):(jz1 v).o=some (mz8 v):=by
 show(vzn v).run NN=_;simp only[vzn,qj,ize,qI,mz8]
theorem ozf (v:Int×Int×Int):(uzq v).o=some (mz8 v):=by
 show(Ez3 v).run NN=_;simp only[Ez3,qj,Kzr,qI,mz8]
theorem Mzo:matrix_Identity_C.o=some uz0:=by
 show matrix_Identity_T.run NN=_;simp only[matrix_Identity_T,qj,ize,qI,uz0,iz]
theorem Szy:ref1_Unit_C.o=some uz0:=by
 show ref1_Unit_T.run NN=_;simp only[ref1_Unit_T,qj,Kzr,qI,uz0,iz]
theorem Ozb (a b:IV3):(Oza a b).o=some (Uz2 a b):=by
 show(Dzd a b).run NN=_;simp only[Dzd,qj,vzi,qI,Uz2]
theorem Kzq (a b:IV3):(Az9 a b).o=some (Uz2 a b):=by
 show(Aza a b).run NN=_;simp only[Aza,qj,Nz1,qI,Uz2]
theorem Gzz (m:IM3)(v:IV3):(Gzy m v).o=some (Gzm m v):=by
 show(vzm m v).run NN=_;simp only[vzm,qj,vzi,Gzt,qI,add0,Gzm,dotV]
theorem Dzz (m:IM3)(v:IV3):(sze m v).o=some (Gzm m v):=by
 show(szg m v).run NN=_;simp only[szg,qj,Nz1,Wze,qI,Gzm,dotV]
theorem Pza (x:Int):(bz3 x).o=some (max (-65536) (min x 65536)):=by
 show(pz7 x).run NN=_;simp only[pz7,qj,Option.some.injEq];omega
set_option maxRecDepth 20000 in
theorem Pz9 (a b:IM3):(Bzj a b).o=some (az0b a b):=by
 show(pz6 a b).run NN=_;simp only[pz6,qj,vzi,Gzt,Pza,qI,add0,az0b,rowV,dotV,lim1]
set_option maxRecDepth 20000 in
theorem Nz2 (a b:IM3):(xzv a b).o=some (az0b a b):=by
 show(mzw a b).run NN=_;simp only[mzw,qj,Nz1,Wze,qI,az0b,rowV,dotV,lim1]
theorem Yz9 (k:Int)(a:az0):(Jzv k a).o=some (Tzv k a):=by
 show(zzi k a).run NN=_;simp only[zzi,qj,czd,Qzs,Qzt,Gzu,ize,qI,Tzv,of0];cases h:vV a
 ·rfl
 ·simp only[qJ,qd,if_true];by_cases h0:k=0
  ·rw[gza h0,qc h0]
  ·rw[gz1 h0,qb h0];by_cases h1:k=1
   ·rw[gza h1,qc h1]
   ·rw[gz1 h1,qb h1];by_cases h2:k=2
    ·rw[gza h2,qc h2]
    ·rw[gz1 h2,qb h2];rfl
theorem az4p (k:Int)(a:az0):(Szx k a).o=some (Tzv k a):=by
 show(Izt k a).run NN=_;simp only[Izt,qj,fz6,Uzy,Vz0,Wzf,Kzr,qI,Tzv];cases h:vV a
 ·rfl
 ·simp only[qJ,qd,if_true];by_cases h0:k=0
  ·rw[gza h0,qc h0];rfl
  ·rw[gz1 h0,qb h0];by_cases h1:k=1
   ·rw[gza h1,qc h1];rfl
   ·rw[gz1 h1,qb h1];by_cases h2:k=2
    ·rw[gza h2,qc h2];rfl
    ·rw[gz1 h2,qb h2];rfl
theorem Ozg:pose_still_C.o=some izv:=by
 show pose_still_T.run NN=_;simp only[pose_still_T,qj,nzp,qI,mz8,of0,izv]
theorem oza (v:IV3):(uzi v).o=some (Lzg v):=by
 show(Dzl v).run NN=_;simp only[Dzl,qj,Mzo,qI,Lzg]
theorem Dzk:pose_Identity_C.o=some Zz0:=by
 show pose_Identity_T.run NN=_;simp only[pose_Identity_T,qj,Ozg,oza,qI,Lzg,Zz0]
theorem az4g (k:Int)(a:az0):(Szo k a).o=some ⟨Tzv k a,izv⟩:=by
 show(Izh k a).run NN=_;simp only[Izh,qj,Yz9,Ozg,qI]
theorem nzq (a b:bz4):(jz2 a b).o=some (Pz0 a b):=by
 show(vzo a b).run NN=_;have h1:(uzj a).o=(ozb a).run NN:=rfl;simp only[vzo,qj,h1,ozb,qI,Pz9];refine Eq.trans (congrArg (λo=>qO o _) (show(nzr _ _ _ _ _ _ _ _ _ _ _ _ _ _ _ _ _ _ _ _ _ _ _ _ _).o=(jz3 _ _ _ _ _ _ _ _ _ _ _ _ _ _ _ _ _ _ _ _ _ _ _ _ _).run NN from rfl)) ?_;simp only[jz3,qj,Gzz,Ozb,qI];rfl
theorem Ozf (a:bz4)(v:IV3):(Dzi a v).o=some (Mzq a v):=by
 show(Dzj a v).run NN=_;have h1:(uzj a).o=(ozb a).run NN:=rfl;simp only[Dzj,qj,h1,ozb,qI];refine Eq.trans (congrArg (λo=>qO o _) (show(nzr _ _ _ _ _ _ _ _ _ _ _ _ _ _ _ _ _ _ _ _ _ _ _ _ _).o=(jz3 _ _ _ _ _ _ _ _ _ _ _ _ _ _ _ _ _ _ _ _ _ _ _ _ _).run NN from rfl)) ?_;simp only[jz3,qj,Gzz,Ozb,qI];rfl
theorem Szv:ref1_Rest_C.o=some Zz0:=by
 show ref1_Rest_T.run NN=_;simp only[ref1_Rest_T,qj,Szy,qI];rfl
theorem Ez6 (v:IV3):(Ez4 v).o=some (Lzg v):=by
 show(Ez5 v).run NN=_;simp only[Ez5,qj,Szy,qI,Lzg]
theorem Szw (k:Int)(a:az0):(Ez7 k a).o=some ⟨Tzv k a,izv⟩:=by
 show(szi k a).run NN=_;simp only[szi,qj,az4p,qI];rfl
theorem nzu (a b:bz4):(wz8 a b).o=some (Pz0 a b):=by
 show(wz9 a b).run NN=_;simp only[wz9,qj,Nz2,Dzz,Kzq,qI,Pz0]
theorem Ozk (a:bz4)(v:IV3):(Ez0 a v).o=some (Mzq a v):=by
 show(Ez1 a v).run NN=_;simp only[Ez1,qj,Dzz,Kzq,qI,Mzq]
theorem az39 (k:Int)(a:az0):(Qzy k a).o=some ⟨Tzv k a,izv⟩:=by
 show(Hzt k a).run NN=_;simp only[Hzt,qj,az4g,qI]
theorem az38 (k:Int)(a:az0):(Qzx k a).o=some Zz0:=by
 show(Hzs k a).run NN=_;simp only[Hzs,qj,Dzk,qI]
theorem az01 {k:Int}(a:az0)(h:k=4\/k=5\/k=6):(Nzx (k-4) a).o=some (Lzg (Fz3 k a)):=by
 show(Cza (k-4) a).run NN=_;simp only[Cza,qj];rcases h with rfl|rfl|rfl
 ·simp only[show((4-4:Int)==0)=true from rfl,qe,az3,oza];rfl
 ·simp only[show((5-4:Int)==0)=false from rfl,show((5-4:Int)==1)=true from rfl,qe,qd,az3,oza];rfl
 ·simp only[show((6-4:Int)==0)=false from rfl,show((6-4:Int)==1)=false from rfl,show((6-4:Int)==2)=true from rfl,qe,qd,az3,oza];rfl
theorem az7z (k a b c:Int){R:Type}:(bif k==a then some (.out (k==a))else bif k==b then some (.out (k==b))else some (.out (k==c)):Option (Step3 Unit Bool R))=some (.out (qv (k=a\/k=b\/k=c))):=by
 by_cases h1:k=a
 ·rw[gza h1];simp[h1]
 ·rw[gz1 h1];by_cases h2:k=b
  ·rw[gza h2];simp[h2]
  ·rw[gz1 h2];simp[h1,h2,Bool.beq_eq_decide_eq]
theorem mo0 (k:Int):(gze k).o=if k=1\/k=2\/k=3 then some (k-1)else none:=by
 show(gzf k).run NN=_;simp only[gzf,qj,az7z,az3];by_cases h:k=1\/k=2\/k=3
 ·rw[az5 h,qc h,w64 qa qa]
 ·rw[az8 h,qb h];cases qv (k=4\/k=5\/k=6)<;>rfl
theorem mo1 (k:Int)(h:¬ (k=1\/k=2\/k=3)):(gzg k).o=if k=4\/k=5\/k=6 then some (k-4)else none:=by
 show(gzh k).run NN=_;simp only[gzh,qj,az7z,az3];rw[az8 h];by_cases h:k=4\/k=5\/k=6
 ·rw[az5 h,qc h,w64 qa qa]
 ·rw[az8 h,qb h]
theorem mo2 (k:Int)(h:¬ (k=1\/k=2\/k=3))(h':¬ (k=4\/k=5\/k=6)):(kz6 k).o=some 0:=by
 show(gzi k).run NN=_;simp only[gzi,qj,az7z,az3];rw[az8 h,az8 h']
theorem Jzt (j:azs)(a:az0):(uz7 j a).o=some (oz5 j a):=by
 show(kzy j a).run NN=_;simp only[kzy,qj,nzp,oza,qI,mo0,oz5];by_cases h:j.Xn=1\/j.Xn=2\/j.Xn=3
 ·simp only[qc h,qP,qe,qI,az39,nzq]
 ·simp only[qb h,qQ,qd,mo1 _ h];by_cases h':j.Xn=4\/j.Xn=5\/j.Xn=6
  ·simp only[qc h',qP,qe,qI,az01 a h',nzq]
  ·simp only[qb h',qQ,qd,mo2 _ h h',qI,az38,nzq]
theorem aznn (k:Int)(a:az0){R:Type}(h:k=4\/k=5\/k=6):(bif qt.wrap (k-4)==0 then some (.out (a.Lo,a.Hi,0,0,0,0))else bif qt.wrap (k-4)==1 then some (.out (0,0,a.Lo,a.Hi,0,0))else
 bif qt.wrap (k-4)==2 then some (.out (0,0,0,0,a.Lo,a.Hi))else none:Option (Step3 Unit (Int×Int×Int×Int×Int×Int) R))=some (.out ((Fz3 k a).1.Lo,(Fz3 k a).1.Hi,(Fz3 k a).2.1.Lo,(Fz3 k a).2.1.Hi,(Fz3 k a).2.2.Lo,(Fz3 k a).2.2.Hi)):=by
 rw[w64 qa qa];rcases h with rfl|rfl|rfl<;>rfl
theorem Yzn (j:azs)(a:az0):(Kze j a).o=some (oz5 j a):=by
 show(zzp j a).run NN=_;simp only[zzp,qj,Szv,qI,az7z,az3,oz5];by_cases h:j.Xn=1\/j.Xn=2\/j.Xn=3
 ·simp only[az5 h,qc h,Szw,qI,az3,ozf,Ez6,nzu];rw[w64 qa qa]
 ·simp only[az8 h,qb h];by_cases h':j.Xn=4\/j.Xn=5\/j.Xn=6
  ·simp only[az5 h',qc h',aznn _ _ h',az3,ozf,Ez6,nzu,qI]
  ·simp only[az8 h',qb h',az3,ozf,Ez6,nzu,qI]
theorem dza {R:Type}{f:Int->Option (Step3 Int U0 R)}{k:U0->Option R}(g:Nat->Option R)(n:Nat)(a:n<4294967296)
 (c:∀j,j<n->f (j:Int)=match g j with|some r=>some (.fin r)|none=>some (.next ((j+1:Nat):Int))) (b:f (n:Int)=some (.out .u)):
 andK (iter f NN 0) k=match scan g n 0 with|some r=>some r|none=>k .u:=hz1 (λj=>(j:Int)) g .u n rfl a c b
theorem wn {n:Nat}(h:n<4294967296):qt.wrap ((n:Int)+1)=((n+1:Nat):Int):=w64n qa
def sw {R:Type}(b:Bool)(r:R):Option R:=bif b then some r else none
theorem czr {σ τ R:Type}{b:Bool}{r:R}{x:σ}:(bif b then some (.fin r)else some (.next x):Option (Step3 σ τ R))=match sw b r with|some r=>some (.fin r)|none=>some (.next x):=by cases b<;>rfl
def bz0 (g:Nat->Bool)(n:Nat):Bool:=qv (∀i,i<n->g i=false)
theorem bzg {R:Type}{g:Nat->Bool}{n:Nat}{r:R}:scan (λi=>sw (g i) r) n 0=sw (!bz0 g n) r:=by
 cases h:scan (λi=>sw (g i) r) n 0<;>grind[sw,ez0,bz0,ezh]
theorem noneB_iff {g:Nat->Bool}{n:Nat}:bz0 g n=true↔∀i,i<n->g i=false:=by simp[bz0]
theorem Sz9 {g a:Nat->Bool}{n:Nat}(h:∀i,i<n->g i=a i):bz0 g n=bz0 a n:=by
 grind[bz0]
theorem azmh (s:ByteArray)(i:Nat):s.get! i=s.data.getD i 0:=by
 rfl
def Ozy (s:ByteArray)(i:Nat):Nat:=(s.data.getD i 0).toNat
theorem azi5 {s:ByteArray}{i:Nat}(h:Ozy s i<128):Utf8.decode s i=(Ozy s i,1):=by
 exact qc h
theorem azm9 {s:ByteArray}{i:Nat}(h:128<=Ozy s i):128<=(Utf8.decode s i).1:=by
 grind[Lib.decode_at,azmh,Lib.decodeN,Ozy]
def badN (s:ByteArray)(i:Nat):Bool:=qv (¬ (97<=Ozy s i/\Ozy s i<=122)/\(i=0\/(Ozy s i≠95/\¬ (48<=Ozy s i/\Ozy s i<=57))))
def Izc (s:ByteArray):Bool:= !(qv (s.size=0)||(qv (16<s.size)||(s==⟨#[119,111,114,108,100]⟩)))&&bz0 (badN s) s.size
theorem Tz7 (s:ByteArray):(Izy s).o=some (Izc s):=by
 show(Izz s).run NN=_;simp only[Izz,qj,bzb,az3,Izc,ezy];have a:qv ((s.size:Int)<1)=qv (s.size=0):=jI
 have b:qv ((s.size:Int)>16)=qv (16<s.size):=jI
 rw[a,b];cases h:(qv (s.size=0)||(qv (16<s.size)||(s==⟨#[119,111,114,108,100]⟩)))
 ·simp only[qp,qi]at h;refine(dza (λi=>sw (badN s i) false) s.size qa (λj c=>?_) ?_).trans ?_
  ·rw[az5 qa,<-czr,wn qa];simp only[qF,az9 (show 0<=(j:Int)/\(j:Int)<(s.size:Int) from qa),bzb,az3]
   grind[badN,Ozy]
  ·simp_all
  ·rw[bzg];cases bz0 (badN s) s.size<;>rfl
 ·rfl
theorem Qz5 (a:Int):(Bzw a).o=some (qv (97<=a)&&qv (a<=122)):=by
 show(qz7 a).run NN=_
 grind[qz7,qj]
theorem Tzu (a:Int):(Fzb a).o=some (qv (48<=a)&&qv (a<=57)):=by
 show(tzm a).run NN=_
 grind[tzm,qj]
theorem Ozx (s:ByteArray):(Fz9 s).o=some (Izc s):=by
 show(Fza s).run NN=_;simp only[Fza,qj,bzb,az3,Izc,ezy];have e:((s.size:Int)==0)=qv (s.size=0):=jI
 have d:qv ((s.size:Int)>16)=qv (16<s.size):=jI
 rw[e,d];cases h:(qv (s.size=0)||(qv (16<s.size)||(s==⟨#[119,111,114,108,100]⟩)))
 ·simp only[qp,qi]at h;refine(hz1 (λj=>j) (λi=>sw (badN s i) false) .u s.size rfl (show s.size<4294967296 from qa) (λj f=>?_) ?_).trans ?_
  ·rw[az5 f];simp only[Qz5,Tzu,qI,bzb,az3]
   have a:(bif !(qv (97<=((Utf8.decode s j).1:Int))&&qv (((Utf8.decode s j).1:Int)<=122))then bif ((j:Int)==0)then true else
    bif !(qv (48<=((Utf8.decode s j).1:Int))&&qv (((Utf8.decode s j).1:Int)<=57))then((Utf8.decode s j).1:Int) !=95 else false else false)=badN s j:=by
    by_cases g:Ozy s j<128
    ·grind[azi5,badN]
    grind[azm9,badN]
   rw[a];cases c:badN s j
   ·have:Ozy s j<128:=by
     grind[badN]
    rw[azi5 this];rfl
   ·rfl
  ·simp_all
  ·rw[bzg];cases bz0 (badN s) s.size<;>rfl
 ·rfl
def Rzm (l:List azs)(a:ByteArray)(i:Nat):Bool:=(l.getD i qu).XG==a
theorem az29 (r:azk)(a:ByteArray)(h:r.Xc.length<4294967296):(Ozt r a).o=some (match scan (λi=>sw (Rzm r.Xc a i) (i:Int)) r.Xc.length 0 with|some x=>x|none=> -1):=by
 show(Ezu r a).run NN=_;simp only[Ezu,qj];refine(dza (λi=>sw (Rzm r.Xc a i) (i:Int)) r.Xc.length h (λj b=>?_) ?_).trans ?_;all_goals grind[az9,wn,sw,Rzm]
theorem azj5 (b:ByteArray):(b==b)=true:=by
 obtain⟨d⟩:=b;show(d==d)=true
 simp_all
theorem azjl {l:List azs}{i:Nat}(b:i<l.length):((match scan (λk=>sw (Rzm l (l.getD i qu).XG k) (k:Int)) l.length 0 with|some x=>x|none=> -1) !=(i:Int))= !bz0 (Rzm l (l.getD i qu).XG) i:=by
 have a:Rzm l (l.getD i qu).XG i=true:=azj5 _;cases h:scan (λk=>sw (Rzm l (l.getD i qu).XG k) (k:Int)) l.length 0 with
 |none=>
  grind[ez0,sw]
 |some x=>
  grind[ezh,sw,noneB_iff]
def izh (v:Int×Int×Int)(m:Int):Bool:=qv (-m<=v.1)&&(qv (v.1<=m)&&(qv (-m<=v.2.1)&&(qv (v.2.1<=m)&&(qv (-m<=v.2.2)&&qv (v.2.2<=m)))))
theorem nearV_iff {v:Int×Int×Int}{m:Int}:izh v m=true↔(-m<=v.1/\v.1<=m)/\(-m<=v.2.1/\v.2.1<=m)/\(-m<=v.2.2/\v.2.2<=m):=by
 grind[izh]
theorem fzf (v:Int×Int×Int){m:Int}(a:0<=m)(b:m<=9223372036854775807):(ezs v m).o=some (izh v m):=by
 show(Jz0 v m).run NN=_;simp only[Jz0,qj,bzb,az3]
 grind[w64,nearV_iff]
def bey (x:Int):Bool:=qv (x< -4194304)||qv (x>4194304)
theorem Hzj (v:Int×Int×Int):(wzy v).o=some (!izh v 4194304):=by
 show(wzz v).run NN=_;simp only[wzz,qj,bzb,az3,ezy];refine(dza (λi=>sw (bey (([v.1,v.2.1,v.2.2]:List Int).getD i 0)) true) 3 jF (λj e=>?_) ?_).trans ?_
 ·rw[az5 qa,az9 qa,wn qa,qF,<-czr];rfl
 ·rfl
 ·rw[bzg];have:bz0 (λi=>bey (([v.1,v.2.1,v.2.2]:List Int).getD i 0)) 3=izh v 4194304:=by
   rw[qR,noneB_iff,nearV_iff];constructor
   ·intro h;have a:=h 0 jF;have b:=h 1 jF;have c:=h 2 jF
    grind[bey]
   grind[bey]
  rw[this];cases izh v 4194304<;>rfl
def ozc (k:Int):Int:=if k=0 then 0 else if k=1\/k=2\/k=3 then 524288 else 4194304
theorem Zz6 {k:Int}(a:0<=k)(b:k<=6):(Lz4 k).o=some (ozc k):=by
 show(Azw k).run NN=_;simp only[Azw,qj,az7z,az3,ozc]
 grind
theorem az26 (k:Int):(Ozr k).o=some (ozc k):=by
 show(Ezn k).run NN=_;simp only[Ezn,qj,az7z,az3,ozc]
 grind
def betV (x a b:Int):Bool:=qv (a<=x)&&qv (x<=b)
theorem Lz3 (x m:Int):(izm x m).o=some (betV x 1 m):=by
 show(Azv x m).run NN=_
 grind[Azv,qj,betV]
theorem wzw (x a b:Int):(fzz x a b).o=some (betV x a b):=by
 show(wzv x a b).run NN=_
 grind[wzv,qj,betV]
def azef (j:azs):Bool:=betV j.XQ 1 1024&&(betV j.XU 1 1048576&&(betV j.XV 1 1048576&&betV j.XR 1 1099511627776))
def Jzs (l:List azs)(i:Nat):Int:=
 let j:=l.getD i qu
 if !Izc j.XG|| !bz0 (Rzm l j.XG) i then 802 else if qv (j.Xn<0)||qv (j.Xn>6)then 803 else if qv (j.XD< -1)||qv (j.XD>=(i:Int))then 804 else if !izh j.Xy 4194304 then 805 else
 if qv (j.Lo>j.Hi)||(qv (j.Lo< -ozc j.Xn)||qv (j.Hi>ozc j.Xn))then 806 else if !azef j then 807 else 0
theorem azm6:∀a b c d:Bool,(bif !a||(!b||(!c|| !d))then some (807:Int)else some 0)=some (if(!(a&&(b&&(c&&d))))=true then 807 else 0):=jF
theorem Kzd (k:Int):0<=ozc k/\ozc k<=4194304:=by grind[ozc]
theorem az19 (k:Int):qt.wrap (0-ozc k)= -ozc k:=by
 have:=Kzd k;grind[w64]
theorem Lz2 (r:azk){i:Nat}(a:i<r.Xc.length)(h:r.Xc.length<4294967296):(uzv r (i:Int)).o=some (Jzs r.Xc i):=by
 show(lzk r (i:Int)).run NN=_;simp only[lzk,qj];rw[az9 qa,qF];simp only[Ozx,az29 r _ h,Hzj,Lz3,qI,bzb,az3,Jzs];rw[azjl a];generalize r.Xc.getD i qu=j;cases e:Izc j.XG
 ·rfl
 ·cases d:bz0 (Rzm r.Xc j.XG) i
  ·rfl
  ·by_cases c:j.Xn<0
   ·simp_all
   ·by_cases b:j.Xn>6
    ·simp_all
    ·simp only[qh c,qh b,qd,Bool.or_self,qb qS,Zz6 (show 0<=j.Xn from qa) qa,qI,az19,ezy];cases qv (j.XD< -1)||qv (j.XD>=(i:Int))
     ·cases izh j.Xy 4194304
      ·rfl
      ·cases qv (j.Lo>j.Hi)||(qv (j.Lo< -ozc j.Xn)||qv (j.Hi>ozc j.Xn));all_goals simp_all[azef,azm6]
     ·rfl
theorem Nzb (l:List azs){i:Nat}(d:i<l.length)(h:l.length<4294967296):(xzw l (i:Int)).o=some (Jzs l i):=by
 show(nz6 l (i:Int)).run NN=_;simp only[nz6,qj];rw[az9 qa,qF];simp only[Tz7,qI,Jzs];cases c:Izc (l.getD i qu).XG
 ·rfl
 ·refine(dza (λk=>sw (Rzm l (l.getD i qu).XG k) 802) i qa (λj a=>?_) ?_).trans ?_
  ·rw[az5 qa,az9 qa,wn qa,qF,<-czr];rfl
  ·simp_all
  ·rw[bzg];generalize l.getD i qu=j;cases b:bz0 (Rzm l j.XG) i
   ·rfl
   ·simp only[qJ,sw,qd,fzf _ (show(0:Int)<=4194304 by decide) jF,az26,wzw,qI,az19,bzb,az3,ezy];cases qv (j.Xn<0)||qv (j.Xn>6)
    ·cases qv (j.XD< -1)||qv (j.XD>=(i:Int))
     ·cases izh j.Xy 4194304
      ·rfl
      ·cases qv (j.Lo>j.Hi)||(qv (j.Lo< -ozc j.Xn)||qv (j.Hi>ozc j.Xn))
       ·exact azm6 _ _ _ _
       ·rfl
     ·rfl
    ·rfl
def tab {a:Type}(f:Nat->a)(n:Nat):List a:=(qT n).map f
theorem ezc {a:Type}(f:Nat->a)(n:Nat):tab f (n+1)=tab f n++[f n]:=by simp[tab,qU]
theorem bz9 {a:Type}(f:Nat->a)(n:Nat):(tab f n).length=n:=by simp[tab]
theorem fzh {a:Type}{f:Nat->a}{n i:Nat}{d:a}(h:i<n):(tab f n).getD i d=f i:=by grind[tab]
theorem azdn {a:Type}{f g:Nat->a}{n:Nat}(h:∀i,i<n->f i=g i):tab f n=tab g n:=by
 grind[tab,List.map_congr_left]
def half {a:Type}(f:Nat->a)(z:a)(n j:Nat):List a:=tab f j++List.replicate (n-j) z
theorem zz6 {a:Type}{f:Nat->a}{z:a}{n j:Nat}(h:j<=n):(half f z n j).length=n:=by grind[half,bz9]
theorem zz7 {a:Type}{f:Nat->a}{z:a}{n j:Nat}(h:j<n):(half f z n j).set j (f j)=half f z n (j+1):=by
 unfold half;rw[List.set_append_right _ _ (by rw[bz9];omega),bz9,Nat.sub_self];obtain⟨m,b⟩:∃m,n-j=m+1:=⟨n-j-1,qa⟩
 grind[ezc]
theorem Fzk {a:Type}(f:Nat->a)(z:a)(n:Nat):half f z n n=tab f n:=by simp[half]
def az81 (n:Nat)(m:bzx):Bool:=(qv (0<=m.XA)&&qv (m.XA<(n:Int)))&&(betV m.XX 1 65536&&izh m.XO 4194304)
theorem Nzf (r:azk)(m:bzx):(xzy r m).o=some (az81 r.Xc.length m):=by
 show(nz8 r m).run NN=_;simp only[nz8,qj,Lz3,Hzj,qI,az81]
 grind
def badM (n:Nat)(l:List bzx)(i:Nat):Bool:= !az81 n (l.getD i qu)
theorem azjt (l:List bzx)(a:List azs)(b:List bzx)(h:l.length<4294967296):(fz8 l a b).o=some (match scan (λi=>sw (badM a.length l i) (i:Int)) l.length 0 with|some x=>x|none=> -1,a,b):=by
 show(dze l a b).run NN=_;simp only[dze,qj];have d:∀m,(Ezt m a b).o=some (!az81 a.length m,a,b):=λm=>by
  show(tz2 m a b).run NN=_
  simp_all[tz2,qj,Nzf]
 refine(hz1 (λj=>(a,b,(j:Int))) (λi=>sw (badM a.length l i) ((i:Int),a,b)) (a,b) l.length rfl h (λj e=>?_) ?_).trans ?_
 ·rw[az5 jH,az9 ⟨jG,jH⟩];simp only[d,qI,qF];rw[wn qa];unfold badM;cases az81 a.length (l.getD j qu)<;>rfl
 ·simp_all
 ·have:∀n i,scan (λi=>sw (badM a.length l i) ((i:Int),a,b)) n i=(scan (λi=>sw (badM a.length l i) (i:Int)) n i).map λx=>(x,a,b):=by
   intro n;induction n with
   |zero=>intro i;rfl
   |succ n c=>
    intro i;simp only[scan];cases badM a.length l i with
    |true=>rfl
    |false=>exact c (i+1)
  grind
theorem Ezx {g:Nat->Bool}{n:Nat}:qv ((match scan (λi=>sw (g i) (i:Int)) n 0 with|some x=>x|none=> -1)>=0)= !bz0 g n:=by
 grind[sw,ez0,noneB_iff,ezh]
theorem azja (l:List bzx)(a:List azs)(b:List bzx)(h:l.length<4294967296):(ezj l a b).o=some (!bz0 (badM a.length l) l.length,a,b):=by
 show(czy l a b).run NN=_
 grind[czy,qj,azjt,Ezx]
def errJ (l:List azs)(i:Nat):Option Int:=sw (Jzs l i !=0) (Jzs l i)
def dz4 (r:azk):Int:=
 if r.Xc.length=0\/10<r.Xc.length then 801 else match scan (errJ r.Xc) r.Xc.length 0 with
  |some e=>e
  |none=>if 32<r.Xv.length\/bz0 (badM r.Xc.length r.Xv) r.Xv.length=false then 808 else 0
theorem Azu (r:azk):(fz3 r).o=some (dz4 r):=by
 show(Azt r).run NN=_;simp only[Azt,qj,bzb,az3,dz4];by_cases h:r.Xc.length=0\/10<r.Xc.length
 ·grind
 ·rw[qb h,gz1 qa,az8 qa];refine(dza (errJ r.Xc) r.Xc.length qa (λj b=>?_) ?_).trans ?_
  ·rw[az5 qa];simp only[Lz2 ⟨r.Xc,r.Xv⟩ b (show r.Xc.length<4294967296 from qa),qI];rw[wn qa,czr];rfl
  ·simp_all
  ·cases scan (errJ r.Xc) r.Xc.length 0 with
   |some e=>rfl
   |none=>
    by_cases a:32<r.Xv.length
    ·rw[az5 qa,qc (Or.inl a)];rfl
    ·rw[az8 qa,azja _ _ _ qa];cases c:bz0 (badM r.Xc.length r.Xv) r.Xv.length
     ·rw[qc (Or.inr rfl)];rfl
     ·rw[qb jH];rfl
theorem dz2 (r:azk):(cze r).o=some (dz4 r):=by
 show(nz4 r).run NN=_;simp only[nz4,qj,bzb,az3,dz4];by_cases h:r.Xc.length=0\/10<r.Xc.length
 ·grind
 ·rw[qb h,az8 qa,az8 qa];refine(dza (errJ r.Xc) r.Xc.length qa (λj a=>?_) ?_).trans ?_
  ·rw[az5 qa];simp only[Nzb r.Xc a (show r.Xc.length<4294967296 from qa),qI];rw[wn qa,czr];rfl
  ·simp_all
  ·cases scan (errJ r.Xc) r.Xc.length 0 with
   |some e=>rfl
   |none=>
    by_cases c:32<r.Xv.length
    ·grind
    ·rw[az8 qa];refine(dza (λi=>sw (badM r.Xc.length r.Xv i) 808) r.Xv.length qa (λj a=>?_) ?_).trans ?_
     ·rw[az5 qa,az9 qa,wn qa,qF,<-czr]
      grind[wzw,fzf,az3,badM,az81]
     ·simp_all
     ·rw[bzg];cases b:bz0 (badM r.Xc.length r.Xv) r.Xv.length
      ·rw[qc (Or.inr rfl)];rfl
      ·rw[qb jH];rfl
theorem ezg {r:azk}(h:dz4 r=0):1<=r.Xc.length/\r.Xc.length<=10/\∀i,i<r.Xc.length->Jzs r.Xc i=0:=by
 unfold dz4 at h
 grind[ezh,errJ,sw,ez0]
def tzr (n:Nat)(k:Int):Bool:=qv (-1<=k)&&qv (k<(n:Int))
theorem Hzk (s:az7)(k:Int):(oz0 s k).o=some (tzr s.Xf.Xc.length k):=by
 show(xz0 s k).run NN=_
 grind[xz0,qj,tzr]
theorem lzh (r:azk)(k:Int):(fz2 r k).o=some (tzr r.Xc.length k):=by
 show(Azq r k).run NN=_
 grind[Azq,qj,tzr]
def farP (l:List (Int×Int×Int))(i:Nat):Bool:= !izh (l.getD i qu) 4194304
def yz1 (n:Nat)(x:azh):Int:=
 if(tzr n x.XA&&betV x.XE 1 1048576)=false\/x.Xa.length=0\/8<x.Xa.length then 902 else if bz0 (farP x.Xa) x.Xa.length then 0 else 805
theorem far3 (v:Int×Int×Int):bz0 (λi=>bey (([v.1,v.2.1,v.2.2]:List Int).getD i 0)) 3=izh v 4194304:=by
 rw[qR,noneB_iff,nearV_iff];constructor
 ·intro h;have a:=h 0 jF;have b:=h 1 jF;have c:=h 2 jF
  grind[bey]
 grind[bey]
theorem Lz7 (s:az7)(x:azh):(uzw s x).o=some (yz1 s.Xf.Xc.length x):=by
 show(lzo s x).run NN=_;simp only[lzo,qj,Hzk,qI,bzb,az3,yz1];cases l:tzr s.Xf.Xc.length x.XA
 ·rfl
 ·simp only[qJ,qd,qM];by_cases a:x.XE<1
  ·grind[betV]
  ·rw[az8 a];by_cases b:x.XE>1048576
   ·grind[betV]
   ·rw[az8 b];by_cases e:x.Xa.length=0
    ·simp_all
    ·rw[az8 qa];by_cases g:8<x.Xa.length
     ·grind
     ·have c:betV x.XE 1 1048576=true:=by simp[betV];omega
      rw[az8 qa,c,qb (λd=>jI)];refine(dza (λi=>sw (farP x.Xa i) 805) x.Xa.length qa (λj h=>?_) ?_).trans ?_
      ·rw[az5 qa,az9 qa,qF,wn qa];refine(dza (λi=>sw (bey (([(x.Xa.getD j qu).1,(x.Xa.getD j qu).2.1,(x.Xa.getD j qu).2.2]:List Int).getD i 0)) (Step3.fin 805)) 3 jF (λk f=>?_) ?_).trans ?_
       ·rw[az5 qa,az9 qa,wn qa,qF,<-czr];rfl
       ·rfl
       ·rw[bzg,far3];unfold farP;cases izh (x.Xa.getD j qu) 4194304<;>rfl
      ·simp_all
      ·rw[bzg];cases bz0 (farP x.Xa) x.Xa.length<;>rfl
def errS (n:Nat)(l:List azh)(i:Nat):Option Int:=sw (yz1 n (l.getD i qu) !=0) (yz1 n (l.getD i qu))
def badK (n:Nat)(l:List ezp)(i:Nat):Bool:= !(tzr n (l.getD i qu).A&&tzr n (l.getD i qu).B)
def bzq (s:az7):Int:=
 if dz4 s.Xf≠0 then dz4 s.Xf else if 24<s.Xe.length then 901 else match scan (errS s.Xf.Xc.length s.Xe) s.Xe.length 0 with
  |some e=>e
  |none=>if 64<s.Xr.length then 903 else if bz0 (badK s.Xf.Xc.length s.Xr) s.Xr.length then 0 else 903
theorem izn (s:az7):(ezb s).o=some (bzq s):=by
 show(Azx s).run NN=_;simp only[Azx,qj,Azu,qI,bzq];by_cases h:dz4 s.Xf=0
 ·rw[bz5 h,qb qa];by_cases c:24<s.Xe.length
  ·grind
  ·rw[az8 qa,qb c];refine(dza (errS s.Xf.Xc.length s.Xe) s.Xe.length qa (λj a=>?_) ?_).trans ?_
   ·rw[az5 qa,az9 qa,wn qa,qF];simp only[Lz7,qI];rw[czr];rfl
   ·simp_all
   ·cases scan (errS s.Xf.Xc.length s.Xe) s.Xe.length 0 with
    |some e=>rfl
    |none=>
     by_cases b:64<s.Xr.length
     ·grind
     ·rw[az8 qa,qb b];refine(dza (λi=>sw (badK s.Xf.Xc.length s.Xr i) 903) s.Xr.length qa (λj a=>?_) ?_).trans ?_
      ·rw[az5 qa,az9 qa,wn qa,qF,<-czr]
       grind[Hzk,az3,badK]
      ·simp_all
      ·rw[bzg];cases bz0 (badK s.Xf.Xc.length s.Xr) s.Xr.length<;>rfl
 grind
theorem czg (s:az7):(czf s).o=some (bzq s):=by
 show(nz5 s).run NN=_;simp only[nz5,qj,dz2,qI,bzq];by_cases h:dz4 s.Xf=0
 ·rw[bz5 h,qb qa];by_cases a:24<s.Xe.length
  ·grind
  ·rw[az8 qa,qb a];refine(dza (errS s.Xf.Xc.length s.Xe) s.Xe.length qa (λj d=>?_) ?_).trans ?_
   ·rw[az5 qa,az9 qa,wn qa,qF];unfold errS;generalize s.Xe.getD j qu=x;simp only[lzh,wzw,qI,bzb,az3,yz1];cases n:tzr s.Xf.Xc.length x.XA
    ·rfl
    ·cases g:betV x.XE 1 1048576
     ·rfl
     ·simp only[qJ,qd,qN];by_cases c:x.Xa.length=0
      ·rw[az5 qa,qc (Or.inr (Or.inl c))];rfl
      ·rw[az8 qa];by_cases b:8<x.Xa.length
       ·rw[az5 qa,qc (Or.inr (Or.inr b))];rfl
       ·rw[az8 qa,qb (λm=>jI)];refine(dza (λi=>sw (farP x.Xa i) (Step3.fin 805)) x.Xa.length qa (λk l=>?_) ?_).trans ?_
        ·rw[az5 qa,az9 qa,wn qa,qF,<-czr];simp only[fzf _ (show(0:Int)<=4194304 by decide) jF,qI];rfl
        ·simp_all
        ·rw[bzg];cases bz0 (farP x.Xa) x.Xa.length<;>rfl
   ·simp_all
   ·cases scan (errS s.Xf.Xc.length s.Xe) s.Xe.length 0 with
    |some e=>rfl
    |none=>
     by_cases f:64<s.Xr.length
     ·grind
     ·rw[az8 qa,qb f];refine(dza (λi=>sw (badK s.Xf.Xc.length s.Xr i) 903) s.Xr.length qa (λj d=>?_) ?_).trans ?_
      ·rw[az5 qa,wn qa,<-czr]
       grind[az9,lzh,az3,badK]
      ·simp_all
      ·rw[bzg];cases bz0 (badK s.Xf.Xc.length s.Xr) s.Xr.length<;>rfl
 grind
def outJ (l:List azs)(c:List Int)(i:Nat):Bool:=qv (c.getD i qu<(l.getD i qu).Lo)||qv (c.getD i qu>(l.getD i qu).Hi)
def azu (r:azk)(c:List Int):Bool:=qv (dz4 r=0)&&(qv (c.length=r.Xc.length)&&bz0 (outJ r.Xc c) c.length)
theorem Uzd (l:List azs)(c:List Int)(h:l.length<4294967296):(gzp l c).o=some (qv (c.length=l.length)&&bz0 (outJ l c) c.length):=by
 show(ezf l c).run NN=_;simp only[ezf,qj];have b:∀j x,(xzi j x).o=some (qv (j.Lo<=x)&&qv (x<=j.Hi)):=λj x=>by
  show(mzg j x).run NN=_
  grind[mzg,qj]
 by_cases a:c.length=l.length
 ·rw[bz5 qa,qg a,qM];refine(dza (λi=>sw (outJ l c i) false) l.length h (λj d=>?_) ?_).trans ?_
  ·rw[az5 qa,az9 qa,az9 qa,wn qa,qF,<-czr]
   grind[outJ]
  ·simp_all
  ·rw[bzg,a];cases bz0 (outJ l c) l.length<;>rfl
 grind
theorem hzw (r:azk)(c:List Int):(bzt r c).o=some (azu r c):=by
 show(rzo r c).run NN=_
 grind[rzo,qj,Azu,azu,ezg,Uzd]
theorem fz4 (r:azk)(c:List Int):(dzn r c).o=some (azu r c):=by
 show(vzp r c).run NN=_;simp only[vzp,qj,dz2,qI,bzb,az3,azu];by_cases h:dz4 r=0
 ·have:=ezg h;rw[bz5 h,qg h,qM];by_cases a:c.length=r.Xc.length
  ·rw[bz5 qa,qg a,qM];refine(dza (λi=>sw (outJ r.Xc c i) false) c.length qa (λj b=>?_) ?_).trans ?_
   ·rw[az5 qa,wn qa,<-czr]
    grind[az9,az3,outJ]
   ·simp_all
   ·rw[bzg];cases bz0 (outJ r.Xc c) c.length<;>rfl
  grind
 grind
def big1 (l:List Int)(i:Nat):Bool:=qv (l.getD i qu< -2147483648)||qv (l.getD i qu>2147483648)
def hza (l:List Int):Bool:=bz0 (big1 l) l.length
theorem vzb (l:List Int)(h:l.length<4294967296):(hzb l).o=some (hza l):=by
 show(vza l).run NN=_;have b:∀x,(Bzd x).o=some (qv (x< -2147483648)||qv (x>2147483648)):=λx=>by
  show(ozx x).run NN=_
  grind[ozx,qj]
 have a:(gzt l).o=some (match scan (λi=>sw (big1 l i) (i:Int)) l.length 0 with|some x=>x|none=> -1):=by
  show(ezl l).run NN=_;simp only[ezl,qj];refine(dza (λi=>sw (big1 l i) (i:Int)) l.length h (λj d=>?_) ?_).trans ?_;all_goals grind[az9,wn,big1,sw]
 have c:(fzv l).o=some (!hza l):=by
  show(dzv l).run NN=_;simp only[dzv,qj,a,qI];rw[Ezx];rfl
 grind[vza,qj]
theorem lz9 (l:List Int)(h:l.length<4294967296):(izj l).o=some (hza l):=by
 show(zzw l).run NN=_;simp only[zzw,qj];refine(dza (λi=>sw (big1 l i) false) l.length h (λj a=>?_) ?_).trans ?_
 ·rw[az5 qa,wn qa,<-czr]
  grind[az9,az3,big1]
 ·simp_all
 ·rw[bzg];unfold hza;cases bz0 (big1 l) l.length<;>rfl
def pz8 (p q:List Int)(d:Int):Bool:=hza p&&(hza q&&(qv (p.length=q.length)&&(qv (0<=d)&&qv (d<=20))))
theorem az96 {a b:Nat}:((a:Int)==(b:Int))=qv (a=b):=jI
theorem Mz6 (p q:List Int)(d:Int)(a:p.length<4294967296)(b:q.length<4294967296):(xzj p q d).o=some (pz8 p q d):=by
 show(mzh p q d).run NN=_;simp only[mzh,qj,vzb p a,vzb q b,qI,pz8,az96]
 grind
theorem Hz6 (p q:List Int)(d:Int)(a:p.length<4294967296)(b:q.length<4294967296):(vzx p q d).o=some (pz8 p q d):=by
 show(vzy p q d).run NN=_;simp only[vzy,qj,lz9 p a,lz9 q b,qI,pz8,az96,ge_iff_le]
 grind
def ptI (c:List Int)(i:Nat):az0:=⟨c.getD i qu,c.getD i qu⟩
def ptB (c:List Int):List az0:=if hza c=true then tab (ptI c) c.length else nl
def xzr (p q:List Int)(d:Nat)(i:Int)(k:Nat):az0:=
 ⟨p.getD k qu+min (i * (q.getD k qu-p.getD k qu)) ((i+1) * (q.getD k qu-p.getD k qu)) / 2 ^ d,
  p.getD k qu+cdiv (max (i * (q.getD k qu-p.getD k qu)) ((i+1) * (q.getD k qu-p.getD k qu))) (2 ^ d)⟩
def dzi (p q:List Int)(d i:Int):List az0×Bool:=
 if pz8 p q d=true/\0<=i/\i<2 ^ d.toNat then(tab (xzr p q d.toNat i) p.length,true)else(nl,false)
theorem tze {l:List Int}(h:hza l=true){i:Nat}(a:i<l.length): -2147483648<=l.getD i qu/\l.getD i qu<=2147483648:=by
 have:=noneB_iff.1 h i a
 grind[big1]
theorem motionV_iff {p q:List Int}{d:Int}:pz8 p q d=true↔hza p=true/\hza q=true/\p.length=q.length/\0<=d/\d<=20:=by
 grind[pz8]
theorem az4h {k:Nat}(h:k<=20):(2:Int) ^ k<=1048576:=by
 have:(2:Int) ^ k<=2 ^ 20:=by
  exact_mod_cast qW (by decide:0<2) h
 omega
theorem azk8 {i D:Int}(a:0<=i)(c:i<=1048576)(b: -4294967296<=D/\D<=4294967296): -4503599627370496<=i * D/\i * D<=4503599627370496:=by
 have h:(i * D).natAbs<=1048576 * 4294967296:=by rw[qH];exact qz qa qa
 omega
theorem az2x {d:Int}(a:0<=d)(b:d<=20):IntKind.u64.wrap d=d:=by
 show(if(false&&qv (d % 18446744073709551616>=9223372036854775808))=true then d % 18446744073709551616-18446744073709551616 else d % 18446744073709551616)=d
 grind
theorem Wzz (a:Int)(k:Nat)(b:k<=64):(yzm a (k:Int)).o=some (a / 2 ^ k):=by
 show(yzn a (k:Int)).run NN=_
 grind[yzn,qj,az9]
section
variable {a b i:Int} {k:Nat} (ha: -2147483648<=a/\a<=2147483648) (hb: -2147483648<=b/\b<=2147483648) (h0:0<=i) (hi:i<2 ^ k) (hk:k<=20)
include ha hb h0 hi hk
theorem az6o:qt.wrap (b-a)=b-a/\qt.wrap (i+1)=i+1/\qt.wrap (i * (b-a))=i * (b-a)/\qt.wrap ((i+1) * (b-a))=(i+1) * (b-a)/\
 InR (min (i * (b-a)) ((i+1) * (b-a)))/\InR (max (i * (b-a)) ((i+1) * (b-a)))/\InR (-(max (i * (b-a)) ((i+1) * (b-a))))/\
 InR (a+min (i * (b-a)) ((i+1) * (b-a)) / 2 ^ k)/\InR (a+cdiv (max (i * (b-a)) ((i+1) * (b-a))) (2 ^ k)):=by
 have d:=az4h hk;have c:=cz4 k;have n:=azk8 h0 qa (show -4294967296<=b-a/\b-a<=4294967296 from qa);have m:=azk8 (i:=i+1) qa qa (show -4294967296<=b-a/\b-a<=4294967296 from qa);generalize i * (b-a)=u at *
 generalize (i+1) * (b-a)=v at *
 have g: -4503599627370496<=min u v/\min u v<=4503599627370496:=qa
 have f: -4503599627370496<=max u v/\max u v<=4503599627370496:=qa
 have o:=Nzz (a:=min u v) c;have l:=Hzu (a:=max u v) c;refine⟨w64 qa qa,w64 qa qa,w64 qa qa,w64 qa qa,⟨qa,qa⟩,⟨qa,qa⟩,⟨qa,qa⟩,?_,?_⟩
 ·generalize min u v=x at *
  by_cases e:0<=x
  ·exact⟨qa,qa⟩
  ·exact⟨qa,qa⟩
 ·generalize max u v=x at *
  by_cases e:0<x
  ·exact⟨qa,qa⟩
  ·exact⟨qa,qa⟩
theorem Pz2:(Bzc a b i (k:Int)).o=some (⟨a+min (i * (b-a)) ((i+1) * (b-a)) / 2 ^ k,a+cdiv (max (i * (b-a)) ((i+1) * (b-a))) (2 ^ k)⟩,i,(k:Int)):=by
 obtain⟨m,f,g,l,p,t,h,e,j⟩:=az6o ha hb h0 hi hk;show(ozw a b i (k:Int)).run NN=_;have d:qt.wrap (0-max (i * (b-a)) ((i+1) * (b-a)))= -(max (i * (b-a)) ((i+1) * (b-a))):=by rw[Int.zero_sub];exact h.w
 have c:a- -(max (i * (b-a)) ((i+1) * (b-a))) / 2 ^ k=a+cdiv (max (i * (b-a)) ((i+1) * (b-a))) (2 ^ k):=by rfl
 simp only[ozw,qj,m,f,g,l,d,Wzz _ k (show k<=64 from qa),qI,e.w,c,j.w]
end
theorem Rz8 {p q:List Int}{k:Nat}{i:Int}(g:hza p=true)(f:hza q=true)(h:p.length=q.length)(b:p.length<4294967296)(d:0<=i)(c:i<2 ^ k)(e:k<=20):
 (ez5 p q i (k:Int)).o=some (tab (xzr p q k i) p.length,i,(k:Int)):=by
 show(czn p q i (k:Int)).run NN=_;simp only[czn,qj];rw[az9 ⟨qa,qa,qa,qa⟩,qF];refine(bzh (λj=>(i,(k:Int),half (xzr p q k i) ⟨0,0⟩ p.length j,(j:Int))) (i,(k:Int),tab (xzr p q k i) p.length) p.length ?_ b (λj a=>?_) ?_).trans rfl
 ·rfl
 ·rw[az5 jH,az9 ⟨jG,jH⟩,az9 ⟨jG,jH⟩];simp only[qF,Pz2 (tze g a) (tze f (by omega:j<q.length)) d c e,qI,zz6 (show j<=p.length from qa)];rw[az9 ⟨qa,qa⟩,az9 ⟨a,qa⟩,wn qa];exact congrArg (λx=>some (Step3.next (i,(k:Int),x,((j+1:Nat):Int)))) (zz7 a)
 grind[Fzk]
theorem w2k {k:Nat}(h:k<=20):qt.wrap (1 * 2 ^ k)=2 ^ k:=by
 have:=az4h h;grind[w64]
theorem Uzc (p q:List Int)(d i:Int)(b:p.length<4294967296)(e:q.length<4294967296):(vz8 p q d i).o=some (dzi p q d i):=by
 show(vz9 p q d i).run NN=_;simp only[vz9,qj,Mz6 p q d b e,qI,dzi];by_cases a:pz8 p q d=true
 ·have c:=motionV_iff.1 a
  grind[az9,w2k,az3,Rz8]
 ·simp only[qX]at a;rw[a];rfl
theorem zzu (p q:List Int)(d i:Int)(f:p.length<4294967296)(h:q.length<4294967296):(qzo p q d i).o=some (dzi p q d i):=by
 show(zzt p q d i).run NN=_;simp only[zzt,qj,Hz6 p q d f h,qI,dzi];by_cases b:pz8 p q d=true
 ·have a:=motionV_iff.1 b;obtain⟨k,rfl⟩:∃k:Nat,d=(k:Int):=⟨d.toNat,qa⟩;have e:k<=20:=qa
  rw[b,qF,az2x qa qa,qF];simp only[qJ,qd];by_cases c:i<0
  ·rw[az5 c,qb qa];rfl
  ·rw[az8 c,az9 qa,qG qa,w2k e];simp only[az3];by_cases u:i>=2 ^ k
   ·simp_all
   ·rw[az8 u,qc ⟨trivial,qa,qa⟩,az9 qa];refine(bzh (λj=>(tab (xzr p q k i) j,(j:Int))) (tab (xzr p q k i) p.length) p.length rfl f (λj m=>?_) ?_).trans rfl
    ·obtain⟨n,r,v,l,x,s,y,g,t⟩:=az6o (tze a.1 m) (tze a.2.1 (by omega:j<q.length)) (by omega:0<=i) (by omega:i<2 ^ k) e;rw[az5 qa,az9 ⟨jG,qa⟩,az9 ⟨jG,qa⟩,az9 ⟨jG,qa⟩];simp only[qF,n,r,v,l,dz8 x (cz4 k),cza s (cz4 k),qI,g.w,t.w];rw[az9 ⟨qa,qa⟩,az9 ⟨by simp[bz9];omega,by grind[bz9,azd]⟩,wn qa,ezc];rfl
    simp_all
 ·simp only[qX]at b;rw[b];rfl
structure JointOk (l:List azs) (i:Nat):Prop where
 kind:0<=(l.getD i qu).Xn/\(l.getD i qu).Xn<=6
 parent: -1<=(l.getD i qu).XD/\(l.getD i qu).XD<(i:Int)
 off:izh (l.getD i qu).Xy 4194304=true
 lim:(l.getD i qu).Lo<=(l.getD i qu).Hi/\ -ozc (l.getD i qu).Xn<=(l.getD i qu).Lo/\(l.getD i qu).Hi<=ozc (l.getD i qu).Xn
 cost:azef (l.getD i qu)=true
theorem azb9 {l:List azs}{i:Nat}(h:Jzs l i=0):JointOk l i:=by
 unfold Jzs at h;simp only at h;split at h
 ·cases h
 ·split at h
  ·cases h
  ·rename_i d;split at h
   ·cases h
   ·rename_i c;split at h
    ·cases h
    ·rename_i b;split at h
     ·cases h
     ·rename_i e;split at h
      ·cases h
      ·rename_i a;simp only[Bool.or_eq_true,qf,qY,Bool.not_eq_false]at d c b e a;exact⟨qa,qa,b,qa,a⟩
theorem ezu {r:azk}(h:dz4 r=0){i:Nat}(a:i<r.Xc.length):JointOk r.Xc i:=azb9 ((ezg h).2.2 i a)
def notV (b:List az0)(i:Nat):Bool:= !vV (b.getD i qu)
def boxV (r:azk)(b:List az0):Bool:=qv (b.length=r.Xc.length)&&bz0 (notV b) b.length
theorem Pzo (b:List az0)(h:b.length<4294967296):(Bzp b).o=some (bz0 (notV b) b.length):=by
 show(pzc b).run NN=_;simp only[pzc,qj,fz6,qI];refine(dza (λi=>sw (notV b i) false) b.length h (λj a=>?_) ?_).trans ?_
 ·rw[az5 qa,az9 qa,wn qa,qF,<-czr];rfl
 ·simp_all
 ·rw[bzg];cases bz0 (notV b) b.length<;>rfl
theorem zzo (r:azk)(b:List az0)(h:b.length<4294967296):(qzn r b).o=some (boxV r b):=by
 show(zzn r b).run NN=_
 grind[zzn,qj,Pzo,boxV]
theorem uz9 (r:azk)(b:List az0)(h:b.length<4294967296):(hzk r b).o=some (boxV r b):=by
 have a:∀x,(qz9 x).o=some (!vV x):=λx=>by
  show(izu x).run NN=_
  grind[izu,qj,czd]
 have c:(dzl b).o=some (match scan (λi=>sw (notV b i) (i:Int)) b.length 0 with|some x=>x|none=> -1):=by
  show(cz7 b).run NN=_;simp only[cz7,qj,a,qI];refine(dza (λi=>sw (notV b i) (i:Int)) b.length h (λj e=>?_) ?_).trans ?_;all_goals grind[az9,wn,sw,notV]
 have d:(dzc b).o=some (!bz0 (notV b) b.length):=by
  show(cz2 b).run NN=_;simp only[cz2,qj,c,qI];exact congrArg some Ezx
 show(lz0 r b).run NN=_
 grind[lz0,qj,boxV]
section
variable (r:azk) (b:List az0)
def lk1 (L:List bz4)(i:Nat):bz4:=
 if(r.Xc.getD i qu).XD= -1 then oz5 (r.Xc.getD i qu) (b.getD i qu)else Pz0 (L.getD (r.Xc.getD i qu).XD.toNat qu) (oz5 (r.Xc.getD i qu) (b.getD i qu))
def lkL:Nat->List bz4
 |0=>[]
 |i+1=>lkL i++[lk1 r b (lkL i) i]
def lkP (i:Nat):bz4:=lk1 r b (lkL r b i) i
theorem az15:∀j,lkL r b j=tab (lkP r b) j
 |0=>rfl
 |j+1=>by rw[ezc,<-az15 j];rfl
end
variable {r:azk} {b:List az0}
theorem az66 {a:Type}{f:Nat->a}{z d:a}{n j i:Nat}(h:i<j):(half f z n j).getD i d=f i:=by
 unfold half;rw[qZ,List.getElem?_append_left (by rw[bz9];exact h),<-qZ,fzh h]
theorem Wzj {a:Type}{l:List a}{i j:Nat}{x d:a}(h:i≠j):(l.set i x).getD j d=l.getD j d:=by
 simp_all
theorem Kzg (d:dz4 r=0)(f:boxV r b=true):(zzr r b).o=some (tab (lkP r b) r.Xc.length):=by
 have i:=ezg d;have a:=f;simp only[boxV,qm,qf]at a;show(zzs r b).run NN=_;simp only[zzs,qj,dz2,zzo r b qa,f,d,qI];refine(bzh (λj=>(tab (lkP r b) j,(j:Int))) (tab (lkP r b) r.Xc.length) r.Xc.length rfl (show r.Xc.length<4294967296 from qa) (λj h=>?_) ?_).trans rfl
 ·have g:=ezu d h;rw[az5 qa,az9 ⟨jG,qa⟩,az9 ⟨jG,qa⟩];simp only[qF,Yzn,qI];rw[az9 ⟨qa,qa⟩,ezc];by_cases c:(r.Xc.getD j qu).XD= -1
  ·have e:lkP r b j=oz5 (r.Xc.getD j qu) (b.getD j qu):=by grind[lkP,lk1]
   rw[bz5 c];simp only[az3];rw[az9 ⟨by simp[bz9];omega,by grind[bz9,azd]⟩,wn qa,e]
  ·have k:=g.parent;have e:lkP r b j=Pz0 ((tab (lkP r b) j).getD (r.Xc.getD j qu).XD.toNat qu) (oz5 (r.Xc.getD j qu) (b.getD j qu)):=by
    unfold lkP lk1;rw[qb c,az15];rfl
   rw[czc c,az9 ⟨qa,qa⟩,az9 ⟨qa,by rw[bz9];omega⟩,az9 (by rw[bz9];omega)];simp only[nzu,qI,az3];rw[az9 ⟨by simp[bz9];omega,by simp[bz9,azd];omega⟩,wn qa,e]
 ·rw[az8 qa]
theorem uza (c:dz4 r=0)(g:boxV r b=true):(hzm r b).o=some (tab (lkP r b) r.Xc.length):=by
 have h:=ezg c;have a:=g;simp only[boxV,qm,qf]at a;show(lz1 r b).run NN=_;simp only[lz1,qj];rw[az9 ⟨qa,qa,qa,qa⟩,qF];refine(bzh (λj=>(half (lkP r b) (⟨(izv,izv,izv),izv⟩:bz4) r.Xc.length j,(j:Int))) (tab (lkP r b) r.Xc.length) r.Xc.length ?_ (show r.Xc.length<4294967296 from qa) (λj d=>?_) ?_).trans rfl
 ·rfl
 ·have f:=ezu c d;have k:=f.parent;rw[az5 qa,az9 ⟨jG,qa⟩,az9 ⟨jG,qa⟩];simp only[qF,Jzt,qI,wc,zz6 (show j<=r.Xc.length from qa)];rw[az9 ⟨qa,qa⟩,az9 ⟨d,qa⟩,wn qa];by_cases i:(r.Xc.getD j qu).XD= -1
  ·grind[lkP,lk1,az3,zz7]
  ·have e:lkP r b j=Pz0 (lkP r b (r.Xc.getD j qu).XD.toNat) (oz5 (r.Xc.getD j qu) (b.getD j qu)):=by
    grind[lkP,lk1,az15,fzh]
   grind[az9,Wzj,az66,zz6,nzq,az3,wd,zz7]
 grind[Fzk]
def iz4 (x:azh):Bool:=(betV x.XE 1 1048576&&qv (1<=x.Xa.length/\x.Xa.length<=8))&&bz0 (farP x.Xa) x.Xa.length
def Hz3 (x:azh)(p:bz4):List IV3:=if iz4 x then tab (λi=>Mzq p (mz8 (x.Xa.getD i qu))) x.Xa.length else nl
theorem nza {x:azh}(h:iz4 x=true):1<=x.Xa.length/\x.Xa.length<=8:=by
 grind[iz4]
theorem Wzk (x:azh){a:Type}(k:Bool->Option a):(andC (bif qv (x.XE<1)then some (.out true)else bif qv (x.XE>1048576)then some (.out true)else bif qv ((x.Xa.length:Int)<1)then some (.out true)else
 some (.out (qv ((x.Xa.length:Int)>8)))) k)=k (!(betV x.XE 1 1048576&&qv (1<=x.Xa.length/\x.Xa.length<=8))):=by
 grind[az3,betV,qi]
theorem uzk (x:azh):(lz7 x).o=some (iz4 x):=by
 show(lz8 x).run NN=_;simp only[lz8,qj,Wzk,iz4];cases h:betV x.XE 1 1048576&&qv (1<=x.Xa.length/\x.Xa.length<=8)
 ·rfl
 ·simp only[qm,qf]at h;refine(dza (λi=>sw (farP x.Xa i) false) x.Xa.length qa (λk a=>?_) ?_).trans ?_
  ·rw[az5 qa,az9 qa,wn qa,qF,<-czr];simp only[fzf _ (show(0:Int)<=4194304 by decide) jF,qI];rfl
  ·simp_all
  ·rw[bzg];cases bz0 (farP x.Xa) x.Xa.length<;>rfl
theorem Lzc (x:azh):(Azz x).o=some (iz4 x):=by
 show(Bz0 x).run NN=_;simp only[Bz0,qj,Wzk,iz4];cases h:betV x.XE 1 1048576&&qv (1<=x.Xa.length/\x.Xa.length<=8)
 ·rfl
 ·simp only[qm,qf]at h;refine(dza (λi=>sw (farP x.Xa i) false) x.Xa.length qa (λj a=>?_) ?_).trans ?_
  ·rw[az5 qa,az9 qa,qF,wn qa];refine(dza (λi=>sw (bey (([(x.Xa.getD j qu).1,(x.Xa.getD j qu).2.1,(x.Xa.getD j qu).2.2]:List Int).getD i 0)) (Step3.fin false)) 3 jF (λk b=>?_) ?_).trans ?_
   ·rw[az5 qa,az9 qa,wn qa,qF,<-czr];simp only[bzb,az3,ezy];rfl
   ·rfl
   ·rw[bzg,far3];unfold farP;cases izh (x.Xa.getD j qu) 4194304<;>rfl
  ·simp_all
  ·rw[bzg];cases bz0 (farP x.Xa) x.Xa.length<;>rfl
theorem Kzi (x:azh)(p:bz4):(Kzh x p).o=some (Hz3 x p):=by
 show(zzv x p).run NN=_;simp only[zzv,qj,uzk,qI,Hz3];cases h:iz4 x
 ·rfl
 ·have a:=nza h;refine(bzh (λj=>(tab (λi=>Mzq p (mz8 (x.Xa.getD i qu))) j,(j:Int))) (tab (λi=>Mzq p (mz8 (x.Xa.getD i qu))) x.Xa.length) x.Xa.length rfl (show x.Xa.length<4294967296 from qa) (λj b=>?_) ?_).trans rfl;all_goals grind[az9,ozf,Ozk,bz9,azd,wn,ezc]
theorem Lze (x:azh)(p:bz4):(Lzd x p).o=some (Hz3 x p):=by
 show(Bz1 x p).run NN=_;simp only[Bz1,qj,Lzc,qI,Hz3];cases h:iz4 x
 ·rfl
 ·have a:=nza h;rw[az9 ⟨qa,qa,qa,qa⟩,qF];refine(bzh (λj=>(half (λi=>Mzq p (mz8 (x.Xa.getD i qu))) izv x.Xa.length j,(j:Int))) (tab (λi=>Mzq p (mz8 (x.Xa.getD i qu))) x.Xa.length) x.Xa.length ?_ (show x.Xa.length<4294967296 from qa) (λj b=>?_) ?_).trans rfl
  ·rfl
  all_goals grind[az9,nzp,Ozf,zz6,wn,zz7,Fzk]
def linkP (r:azk)(b:List az0)(k:Int):bz4:=if k= -1 then Zz0 else lkP r b k.toNat
def bzf (s:az7)(b:List az0)(i:Nat):List IV3:=Hz3 (s.Xe.getD i qu) (linkP s.Xf b (s.Xe.getD i qu).XA)
def sz5 (s:az7)(b:List az0):List (List IV3):=if bzq s=0/\boxV s.Xf b=true then tab (bzf s b) s.Xe.length else nl
structure SceneOk (s:az7):Prop where
 robot:dz4 s.Xf=0
 len:s.Xe.length<=24
 shape:∀i,i<s.Xe.length->yz1 s.Xf.Xc.length (s.Xe.getD i qu)=0
 skips:s.Xr.length<=64
theorem jz9 {s:az7}(h:bzq s=0):SceneOk s:=by
 unfold bzq at h;split at h
 ·omega
 ·split at h
  ·cases h
  ·split at h
   ·grind[ezh,errS,sw]
   ·split at h
    ·cases h
    ·refine⟨qa,qa,λi a=>?_,qa⟩
     grind[ez0,errS,sw]
theorem ozj {n:Nat}{x:azh}(h:yz1 n x=0):iz4 x=true/\ -1<=x.XA/\x.XA<(n:Int):=by
 grind[yz1,tzr,iz4]
theorem Hz5 (s:az7)(b:List az0)(d:b.length<4294967296):(vzu s b).o=some (sz5 s b):=by
 show(vzv s b).run NN=_;simp only[vzv,qj,czg,zzo _ b d,qI,sz5];by_cases h:bzq s=0
 ·rw[bz5 h,az3];cases i:boxV s.Xf b
  ·simp_all
  ·have a:=jz9 h;rw[qc ⟨h,rfl⟩,qJ,qd,Kzg a.robot i,qI];refine(bzh (λj=>(tab (bzf s b) j,(j:Int))) (tab (bzf s b) s.Xe.length) s.Xe.length rfl (show s.Xe.length<4294967296 by have:=a.len;omega) (λj g=>?_) ?_).trans rfl
   ·have k:=a.len;have l:=(ozj (a.shape j g)).2;rw[az5 qa];simp only[qF,Szv,qI];rw[az9 ⟨qa,qa⟩,wn qa,ezc];by_cases c:(s.Xe.getD j qu).XA= -1
    ·have e:bzf s b j=Hz3 (s.Xe.getD j qu) Zz0:=by grind[bzf,linkP]
     rw[bz5 c];simp only[az3];rw[az9 ⟨qa,qa⟩];simp only[Kzi,qI];rw[az9 ⟨by simp[bz9];omega,by grind[bz9,azd]⟩,e]
    ·have e:bzf s b j=Hz3 (s.Xe.getD j qu) ((tab (lkP s.Xf b) s.Xf.Xc.length).getD (s.Xe.getD j qu).XA.toNat qu):=by
      unfold bzf linkP;rw[qb c,fzh qa]
     rw[czc c,az9 ⟨qa,qa⟩,az9 ⟨qa,by rw[bz9];omega⟩];simp only[az3];rw[az9 ⟨qa,qa⟩];simp only[Kzi,qI];rw[az9 ⟨by simp[bz9];omega,by simp[bz9,azd];omega⟩,e]
   ·rw[az8 jG]
 ·rw[czc h,az3,qe,qb (λf=>h f.1)]
theorem Iz7 (s:az7)(b:List az0)(c:b.length<4294967296):(sz0 s b).o=some (sz5 s b):=by
 show(jzs s b).run NN=_;simp only[jzs,qj,izn,uz9 _ b c,qI,sz5];cases i:boxV s.Xf b
 ·rw[qb (λh=>jI)];rfl
 ·simp only[qJ,qd,az3];by_cases h:bzq s=0
  ·have a:=jz9 h;have k:=a.len;rw[qc ⟨h,trivial⟩,bz5 h,uza a.robot i,qI,az9 ⟨qa,qa,qa,qa⟩,qF];refine(bzh (λj=>(half (bzf s b) nl s.Xe.length j,(j:Int))) (tab (bzf s b) s.Xe.length) s.Xe.length ?_ (show s.Xe.length<4294967296 from qa) (λj d=>?_) ?_).trans rfl
   ·rfl
   ·have l:=(ozj (a.shape j d)).2;rw[az5 qa,az9 ⟨jG,qa⟩];simp only[qF,Dzk,qI,zz6 (show j<=s.Xe.length from qa)];rw[wn qa,<-zz7 d];by_cases f:(s.Xe.getD j qu).XA= -1
    ·simp_all[bzf,linkP,az3,Lze,az9]
    ·have e:bzf s b j=Hz3 (s.Xe.getD j qu) ((tab (lkP s.Xf b) s.Xf.Xc.length).getD (s.Xe.getD j qu).XA.toNat qu):=by
      unfold bzf linkP;rw[qb f,fzh qa]
     rw[czc f,az9 ⟨qa,by rw[bz9];omega⟩];simp only[az3,Lze,qI];rw[az9 ⟨qa,qa⟩,az9 ⟨d,qa⟩,e]
   ·rw[az8 jG];simp only[Fzk]
  ·rw[qb (λg=>h g.1),czc h]
section
variable (par:Nat->Nat) (mv:Nat->Prop) [DecidablePred mv]
inductive AncN:Nat->Nat->Prop
 |self {m:Nat}:0<m->AncN m m
 |up {m x:Nat}:0<m->AncN (par m) x->AncN m x
def cF:Nat->Nat->Nat
 |0,_=>0
 |d+1,m=>if m=0 then 0 else if mv m then m else cF d (par m)
end
section
variable {par:Nat->Nat} {mv:Nat->Prop} [DecidablePred mv]
theorem AncN.pos {m x:Nat}(h:AncN par m x):0<m/\0<x:=by
 induction h<;>simp_all
theorem AncN.le {n m x:Nat}(b:∀m,0<m->m<=n->par m<m)(h:AncN par m x):m<=n->x<=m:=by
 induction h<;>grind
theorem az9d {n:Nat}(e:∀m,0<m->m<=n->par m<m):∀ (d b m:Nat),m<=n->m<d->m<b->cF par mv d m=cF par mv b m
 |0,_,_,_,h,_=>qa
 |_,0,_,_,_,h=>qa
 |d+1,b+1,m,g,i,j=>by
  simp only[cF];by_cases f:m=0
  ·simp only[f,if_true]
  ·simp only[f,if_false];have:=e m qa g;by_cases c:mv m
   ·simp only[c,if_true]
   ·simp only[c,if_false];exact az9d e d b (par m) qa qa qa
theorem az02 {n:Nat}(i:∀m,0<m->m<=n->par m<m):∀ (d m:Nat),m<=n->m<d->(∀x,mv x->(AncN par m x↔AncN par (cF par mv d m) x))/\(cF par mv d m≠0->mv (cF par mv d m)/\AncN par m (cF par mv d m))/\cF par mv d m<=m
 |0,_,_,h=>qa
 |d+1,m,l,h=>by
  simp only[cF];by_cases g:m=0
  ·subst g;exact⟨λ_ _=>Iff.rfl,λh=>absurd rfl h,qk _⟩
  ·simp only[g,if_false];have o:=i m qa l;by_cases c:mv m
   ·rw[qc c];exact⟨λ_ _=>Iff.rfl,λ_=>⟨c,.self qa⟩,qk _⟩
   ·simp only[c,if_false];obtain⟨k,j,p⟩:=az02 i d (par m) qa qa;refine⟨λx e=>?_,λf=>⟨(j f).1,.up qa (j f).2⟩,qa⟩;rw[<-k x e];constructor
    ·intro b;cases b with
     |self=>exact absurd e c
     |up _ b=>exact b
    ·intro b;exact .up qa b
theorem azhe {n:Nat}(e:∀m,0<m->m<=n->par m<m){a b d:Nat}(j:a<=n)(i:b<=n)(t:n<d):cF par mv d a=cF par mv d b↔∀x,mv x->(AncN par a x↔AncN par b x):=by
 obtain⟨q,f,r⟩:=az02 (mv:=mv) e d a j qa;obtain⟨k,p,s⟩:=az02 (mv:=mv) e d b i qa;constructor
 ·simp_all
 ·have o:∀ {a b:Nat},a<=n->b<=n->cF par mv d a≠0->(∀x,mv x->(AncN par a x↔AncN par b x))->cF par mv d a<=cF par mv d b:=by
   intro a b j i g h;obtain⟨q,f,r⟩:=az02 (mv:=mv) e d a j qa;obtain⟨k,p,s⟩:=az02 (mv:=mv) e d b i qa;have:=(k _ (f g).1).1 ((h _ (f g).1).1 (f g).2);exact this.le e qa
  grind
end
section
variable (r:azk)
def parN (m:Nat):Nat:=((r.Xc.getD (m-1) qu).XD+1).toNat
def mvN (m:Nat):Prop:=(r.Xc.getD (m-1) qu).Lo≠(r.Xc.getD (m-1) qu).Hi
instance:DecidablePred (mvN r):=λ_=>inferInstanceAs (Decidable (_≠_))
def carN (m:Nat):Nat:=cF (parN r) (mvN r) (r.Xc.length+1) m
end
variable {r:azk} (hr:dz4 r=0)
include hr
theorem Szf:∀m,0<m->m<=r.Xc.length->parN r m<m:=λm c a=>by
 have:=(ezu hr (show m-1<r.Xc.length from qa)).parent;unfold parN;omega
theorem az9i {i:Nat}(c:i<r.Xc.length):carN r (i+1)=if(r.Xc.getD i qu).Lo=(r.Xc.getD i qu).Hi then carN r ((r.Xc.getD i qu).XD+1).toNat else i+1:=by
 have a:=Szf hr (i+1) qa qa
 grind[carN,cF,az9d,Szf,parN,mvN]
def caP (r:azk)(m:Nat):Int:=(carN r m:Int)-1
theorem Pzu:(Bzr r).o=some (tab (caP r) (r.Xc.length+1)):=by
 have a:=ezg hr;show(pzt r).run NN=_;simp only[pzt,qj];rw[wn qa,qF,az9 ⟨qa,qa,qa,qa⟩];simp only[we];rw[az9 ⟨qa,qa⟩,az9 ⟨jG,qa⟩];refine(bzh (λj=>(half (caP r) 0 (r.Xc.length+1) (j+1),(j:Int))) (tab (caP r) (r.Xc.length+1)) r.Xc.length ?_ (show r.Xc.length<4294967296 from qa) (λj c=>?_) ?_).trans rfl
 ·rfl
 ·have d:=(ezu hr c).parent;simp only[qF,zz6 (show j+1<=r.Xc.length+1 from qa),wc];rw[wn qa,qF,az9 ⟨qa,qa⟩,az9 ⟨qa,qa⟩,w64 (x:=(r.Xc.getD j qu).XD+1) qa qa]
  grind[az9i,caP,az9,Wzj,az66,az3,wd,zz7]
 grind[Fzk]
theorem Ozo {k:Int}(i: -1<=k)(f:k<(r.Xc.length:Int)):∃L:List Int,(uzt r k).o=some L/\L.length<=r.Xc.length/\∀x:Nat,(x:Int)∈L↔AncN (parN r) (k+1).toNat (x+1):=by
 have p:=ezg hr;have n:(uzt r k).o=(Ezk r k).run NN:=rfl;rw[n];simp only[Ezk,qj,dz2,hr,lzh,qI];rw[bz5 rfl,az3,show tzr r.Xc.length k=true by simp[tzr];omega,qJ,qd]
 refine Xzj (β:=List Int) (g:=λL=>some L) (P:=λL=>L.length<=r.Xc.length/\∀x:Nat,(x:Int)∈L↔AncN (parN r) (k+1).toNat (x+1))
  (λ(y:List Int×Int)=> -1<=y.2/\y.2<(r.Xc.length:Int)/\y.1.length+(y.2+1).toNat<=r.Xc.length/\∀x:Nat,((x:Int)∈y.1\/AncN (parN r) (y.2+1).toNat (x+1))↔AncN (parN r) (k+1).toNat (x+1))
  (λ(y:List Int×Int)=>(y.2+1).toNat) (λ(L:List Int)=>L.length<=r.Xc.length/\∀x:Nat,(x:Int)∈L↔AncN (parN r) (k+1).toNat (x+1)) ⟨i,f,?_,λx=>?_⟩ ?_ (λy j=>?_) (λL l=>⟨L,rfl,l⟩)
 ·simp[nl];omega
 ·simp[nl]
 ·show(k+1).toNat<4294967296;omega
 ·obtain⟨a1,s,a3,d⟩:=j;by_cases t:y.2= -1
  ·refine .inr ⟨y.1,jH,qa,λx=>?_⟩;rw[<-d x];constructor
   ·simp_all
   ·rintro(h|h)
    ·exact h
    ·have:=h.pos.1;omega
  ·left;have e:=(ezu hr (show y.2.toNat<r.Xc.length from qa)).parent;refine⟨(y.2::y.1,(r.Xc.getD y.2.toNat qu).XD),?_,⟨e.1,qa,jI,λx=>?_⟩,qa⟩
   ·grind[az9,azd]
   ·rw[<-d x];have a:parN r (y.2+1).toNat=((r.Xc.getD y.2.toNat qu).XD+1).toNat:=by
     unfold parN;rw[show(y.2+1).toNat-1=y.2.toNat from qa]
    simp only[wg];constructor
    ·rintro((h|h)|h)
     ·right;rw[show(y.2+1).toNat=x+1 from qa];exact .self qa
     ·exact Or.inl h
     ·right;exact .up qa (a▸h)
    ·rintro(h|h)
     ·exact Or.inl (Or.inr h)
     ·generalize q:(y.2+1).toNat=m at h;cases h with
      |self h=>omega
      |up h b=>right;rw[<-q,a]at b;exact b
omit hr in
theorem Kzx (l:List Int)(x:Int)(h:l.length<4294967296):(Azr l x).o=some (qv (x∈l)):=by
 show(Azs l x).run NN=_;simp only[Azs,qj];refine(dza (λi=>sw (l.getD i qu==x) true) l.length h (λj c=>?_) ?_).trans ?_
 ·rw[az5 qa,az9 qa,wn qa,qF,<-czr]
 ·simp_all
 ·rw[bzg];have:bz0 (λi=>l.getD i qu==x) l.length= !qv (x∈l):=by
   grind[noneB_iff,wh]
  rw[this];cases qv (x∈l)<;>rfl
def betL (p:Nat->Bool)(n:Nat):List Int:=((qT n).filter p).map λ(i:Nat)=>(i:Int)
omit hr in
theorem az97 (p:Nat->Bool)(n:Nat):betL p (n+1)=if p n then betL p n++[(n:Int)]else betL p n:=by
 grind[betL,qU]
omit hr in
theorem az5h (p:Nat->Bool)(n:Nat):(betL p n).length<=n:=by
 grind[betL]
omit hr in
theorem aze7 {p:Nat->Bool}{n:Nat}{x:Int}:x∈betL p n↔∃i:Nat,x=(i:Int)/\i<n/\p i=true:=by
 grind[betL]
theorem Vz6 {a b:Int}(e: -1<=a)(d:a<(r.Xc.length:Int))(l: -1<=b)(f:b<(r.Xc.length:Int)):
 ∃L:List Int,(Hzf r a b).o=some L/\L.length<=r.Xc.length/\∀x:Int,x∈L↔∃i:Nat,x=(i:Int)/\i<r.Xc.length/\¬ (AncN (parN r) (a+1).toNat (i+1)↔AncN (parN r) (b+1).toNat (i+1)):=by
 have k:=ezg hr;obtain⟨X,h,s,n⟩:=Ozo hr e d;obtain⟨Y,g,m,q⟩:=Ozo hr l f;let p:Nat->Bool:=λi=> !(qv ((i:Int)∈X)==qv ((i:Int)∈Y))
 refine⟨betL p r.Xc.length,?_,az5h _ _,λx=>?_⟩
 ·show(wzt r a b).run NN=_;simp only[wzt,qj,dz2,hr,lzh,qI];rw[bz5 rfl,show tzr r.Xc.length a=true by simp[tzr];omega,show tzr r.Xc.length b=true by simp[tzr];omega];simp only[qJ,qd,az3,h,g,qI];refine(bzh (λj=>(betL p j,(j:Int))) (betL p r.Xc.length) r.Xc.length rfl (show r.Xc.length<4294967296 from qa) (λj t=>?_) ?_).trans rfl
  ·have:=az5h p j;simp only[Kzx X _ (show X.length<4294967296 from qa),Kzx Y _ (show Y.length<4294967296 from qa),qI]
   grind[wn,az97,az9,azd,andC]
  simp_all
 grind[aze7]
theorem az25 {a b:Int}(u: -1<=a)(s:a<(r.Xc.length:Int))(y: -1<=b)(v:b<(r.Xc.length:Int)):(Ozq r a b).o=some (qv (carN r (a+1).toNat=carN r (b+1).toNat)):=by
 have hr':=ezg hr;obtain⟨L,w,l2,m⟩:=Vz6 hr u s y v;show(Ezm r a b).run NN=_;simp only[Ezm,qj,dz2,hr,lzh,qI];rw[bz5 rfl,show tzr r.Xc.length a=true by simp[tzr];omega,show tzr r.Xc.length b=true by simp[tzr];omega];simp only[qJ,qd,az3,w,qI];have f:∀j,j<L.length->0<=L.getD j qu/\L.getD j qu<(r.Xc.length:Int):=λj g=>by
  grind[List.getElem_mem]
 refine(dza (λj=>sw (qv ((r.Xc.getD (L.getD j qu).toNat qu).Lo<(r.Xc.getD (L.getD j qu).toNat qu).Hi)) false) L.length qa (λj g=>?_) ?_).trans ?_
 ·rw[az5 qa,az9 qa,qF,az9 (f j g),az9 qa,az9 (f j g),wn qa,<-czr]
 ·simp_all
 ·rw[bzg];have:bz0 (λj=>qv ((r.Xc.getD (L.getD j qu).toNat qu).Lo<(r.Xc.getD (L.getD j qu).toNat qu).Hi)) L.length=qv (carN r (a+1).toNat=carN r (b+1).toNat):=by
   rw[qR,noneB_iff,qf];unfold carN;rw[azhe (Szf hr) qa qa qa];constructor
   ·intro h x t;by_cases n:AncN (parN r) (a+1).toNat x↔AncN (parN r) (b+1).toNat x
    ·omega
    ·exfalso
     have hx0:0<x/\x<=r.Xc.length:=by
      by_cases k:AncN (parN r) (a+1).toNat x
      ·have:=k.le (Szf hr) qa;exact⟨k.pos.2,qa⟩
      ·by_cases l:AncN (parN r) (b+1).toNat x
       ·have:=l.le (Szf hr) qa;exact⟨l.pos.2,qa⟩
       simp_all
     obtain⟨i,rfl⟩:∃i,x=i+1:=⟨x-1,qa⟩;have hm:(i:Int)∈L:=(m _).2 ⟨i,rfl,qa,n⟩;obtain⟨j,g,e⟩:=wh hm;have jo:=(ezu hr (show i<r.Xc.length from qa)).lim.1;apply t
     grind
   ·intro h j g;have:L.getD j qu∈L:=by grind
    obtain⟨i,k,l,q⟩:=(m _).1 this;rw[k,qF,qi];intro p;exact q (h (i+1) (by show(r.Xc.getD (i+1-1) qu).Lo≠(r.Xc.getD (i+1-1) qu).Hi;grind))
  rw[this];cases qv (carN r (a+1).toNat=carN r (b+1).toNat)<;>rfl
omit hr
def skB (l:List ezp)(a b:Int)(i:Nat):Bool:=((l.getD i qu).A==a&&(l.getD i qu).B==b)||((l.getD i qu).A==b&&(l.getD i qu).B==a)
def skV (s:az7)(a b:Int):Bool:= !bz0 (skB s.Xr a b) s.Xr.length
theorem Tzk (s:az7)(a b:Int)(h:s.Xr.length<4294967296):(Ezy s a b).o=some (skV s a b):=by
 show(tz8 s a b).run NN=_;simp only[tz8,qj,bzb,az3,wi,ezy];refine(dza (λi=>sw (skB s.Xr a b i) true) s.Xr.length h (λj c=>?_) ?_).trans ?_
 ·rw[az5 qa,az9 qa,wn qa,qF,<-czr];rfl
 ·simp_all
 ·rw[bzg];unfold skV;cases bz0 (skB s.Xr a b) s.Xr.length<;>rfl
theorem Vz7 (s:az7)(a b:Int)(h:s.Xr.length<4294967296):(Hzg s a b).o=some (skV s a b):=by
 show(wzu s a b).run NN=_;simp only[wzu,qj];refine(dza (λi=>sw (skB s.Xr a b i) true) s.Xr.length h (λj c=>?_) ?_).trans ?_
 ·rw[az5 qa,az9 qa,wn qa,qF,<-czr];unfold skB;cases (s.Xr.getD j qu).A==a<;>cases (s.Xr.getD j qu).B==b<;>cases (s.Xr.getD j qu).A==b<;>cases (s.Xr.getD j qu).B==a<;>rfl
 ·simp_all
 ·rw[bzg];unfold skV;cases bz0 (skB s.Xr a b) s.Xr.length<;>rfl
section
variable (c:Nat->Nat->Bool)
def pin (L:List czi)(i:Nat):Nat->List czi
 |0=>L
 |m+1=>if c i (i+1+m)then pin L i m++[⟨(i:Int),((i+1+m:Nat):Int)⟩]else pin L i m
def pou (n:Nat):Nat->List czi
 |0=>nl
 |i+1=>pin c (pou n i) i (n- (i+1))
theorem Yzi (L:List czi)(i:Nat):∀m,(pin c L i m).length<=L.length+m
 |0=>by simp[pin]
 |m+1=>by
  have:=Yzi L i m;simp only[pin];split
  ·simp;omega
  ·omega
theorem Yzj {n:Nat}:∀i,(pou c n i).length<=i * n
 |0=>by simp[pou,nl]
 |i+1=>by
  have a:=Yzj (n:=n) i;have b:=Yzi c (pou c n i) i (n- (i+1));simp only[pou];rw[Nat.add_mul];omega
end
def Wz4 (s:az7)(i:Nat):Int:=(s.Xe.getD i qu).XA
def tzu (s:az7)(i k:Nat):Bool:= !qv (carN s.Xf (Wz4 s i+1).toNat=carN s.Xf (Wz4 s k+1).toNat)&& !skV s (Wz4 s i) (Wz4 s k)
def cz3 (s:az7):List czi:=if bzq s=0 then pou (tzu s) s.Xe.length s.Xe.length else nl
theorem az24 (s:az7):(Ozp s).o=some (cz3 s):=by
 show(Ezl s).run NN=_;simp only[Ezl,qj,czg,qI,cz3];by_cases h:bzq s=0
 ·have a:=jz9 h;have f:=a.len;have j:=a.skips;rw[bz5 h,qc h];refine(bzh (λi=>(pou (tzu s) s.Xe.length i,(i:Int))) (pou (tzu s) s.Xe.length s.Xe.length) s.Xe.length rfl (show s.Xe.length<4294967296 from qa) (λi d=>?_) ?_).trans rfl
  ·rw[az5 qa];rw[wn qa];refine(bzh (λm=>(pin (tzu s) (pou (tzu s) s.Xe.length i) i m,((i+1+m:Nat):Int))) (pou (tzu s) s.Xe.length (i+1)) (s.Xe.length- (i+1)) rfl (show s.Xe.length- (i+1)<4294967296 from qa) (λm l=>?_) ?_).trans rfl
   ·have g:i+1+m<s.Xe.length:=qa
    have b:=(ozj (a.shape i d)).2;have c:=(ozj (a.shape (i+1+m) g)).2;have q:=Yzi (tzu s) (pou (tzu s) s.Xe.length i) i m;have lo:=Yzj (tzu s) (n:=s.Xe.length) i;have p:i * s.Xe.length<=24 * 24:=qz qa qa;simp only[qF];rw[az5 qa,az9 ⟨qa,qa⟩,az9 ⟨qa,qa⟩,wn qa];simp only[az25 a.robot b.1 b.2 c.1 c.2,Vz7 s _ _ (show s.Xr.length<4294967296 from qa),qI,pin]
    have e:(andC (bif (s.Xe.getD i qu).XA !=(s.Xe.getD (i+1+m) qu).XA then bif !qv (carN s.Xf ((s.Xe.getD i qu).XA+1).toNat=carN s.Xf ((s.Xe.getD (i+1+m) qu).XA+1).toNat)then
     some (.out (!skV s (s.Xe.getD i qu).XA (s.Xe.getD (i+1+m) qu).XA))else some (.out false)else some (.out false)):(Bool->Option (Step3 Unit (List czi) (Step3 (List czi×Int) (List czi) (Step3 (List czi×Int) (List czi) (List czi)))))->_)=λk=>k (tzu s i (i+1+m)):=by
     grind[az3,tzu,Wz4]
    rw[e];rw[az9 ⟨jI,by simp[azd];omega⟩];cases tzu s i (i+1+m)<;>rfl
   ·rw[az8 qa];rfl
  simp_all
 grind
theorem Zzd (s:az7):(Lz6 s).o=some (cz3 s):=by
 show(Azy s).run NN=_;simp only[Azy,qj,izn,qI,cz3];by_cases h:bzq s=0
 ·have a:=jz9 h;have f:=a.len;have e:=a.skips;have b:=ezg a.robot;rw[bz5 h,qc h,Pzu a.robot,qI];refine(bzh (λi=>(pou (tzu s) s.Xe.length i,(i:Int))) (pou (tzu s) s.Xe.length s.Xe.length) s.Xe.length rfl (show s.Xe.length<4294967296 from qa) (λi d=>?_) ?_).trans rfl
  ·rw[az5 qa,az9 ⟨jG,qa⟩];rw[wn qa];refine(bzh (λm=>(pin (tzu s) (pou (tzu s) s.Xe.length i) i m,((i+1+m:Nat):Int))) (pou (tzu s) s.Xe.length (i+1)) (s.Xe.length- (i+1)) rfl (show s.Xe.length- (i+1)<4294967296 from qa) (λm l=>?_) ?_).trans rfl
   ·have c:i+1+m<s.Xe.length:=qa
    have g:=(ozj (a.shape i d)).2;have p:=(ozj (a.shape (i+1+m) c)).2;have k:=Yzi (tzu s) (pou (tzu s) s.Xe.length i) i m;have lo:=Yzj (tzu s) (n:=s.Xe.length) i;have j:i * s.Xe.length<=24 * 24:=qz qa qa;simp only[qF,bz9]
    rw[az5 qa,az9 ⟨qa,qa⟩,w64 (x:=(s.Xe.getD i qu).XA+1) qa qa,w64 (x:=(s.Xe.getD (i+1+m) qu).XA+1) qa qa,
     az9 ⟨qa,qa⟩,az9 ⟨qa,qa⟩,wn qa,fzh qa,fzh qa]
    simp only[Tzk s _ _ (show s.Xr.length<4294967296 from qa),qI,pin]
    grind[andC,caP,tzu,Wz4,az9,azd]
   ·rw[az8 qa];rfl
  simp_all
 grind
theorem u64w {x:Int}(h0:0<=x)(h1:x<18446744073709551616):IntKind.u64.wrap x=x:=by
 show(if(false&&qv (x % 18446744073709551616>=9223372036854775808))=true then x % 18446744073709551616-18446744073709551616 else x % 18446744073709551616)=x;rw[qb jG];omega
theorem u8w {x:Int}(h0:0<=x)(h1:x<256):IntKind.u8.wrap x=x:=by
 show(if(false&&qv (x % 256>=128))=true then x % 256-256 else x % 256)=x;rw[qb jG];omega
def IsRoot (n s:Int):Prop:=0<=s/\s * s<=n/\n<(s+1) * (s+1)
theorem IsRoot.uniq {n s t:Int}(h1:IsRoot n s)(h2:IsRoot n t):s=t:=by
 obtain⟨a0,a1,a2⟩:=h1;obtain⟨b0,b1,b2⟩:=h2;by_cases h:s<t
 ·have:(s+1) * (s+1)<=t * t:=qL qa qa qa qa;omega
 ·by_cases h':t<s
  ·have:(t+1) * (t+1)<=s * s:=qL qa qa qa qa;omega
  ·omega
theorem az4o {n:Int}(h0:1<=n)(h1:n<4611686018427387904):∃s,(szh n).o=some s/\IsRoot n s:=by
 have e0:(szh n).o=(Izs n).run NN:=rfl;rw[e0];simp only[Izs,qj];rw[az8 qa]
 refine Xzj (β:=Int) (g:=λs=>some s) (P:=λs=>IsRoot n s) (λ(y:Int×Int)=>1<=y.1/\y.1<y.2/\y.2<=4294967296/\y.1 * y.1<=n/\n<y.2 * y.2) (λy=>(y.2-y.1).toNat) (λs=>IsRoot n s)
  ⟨jF,jF,jF,qa,jL⟩ jF (λy hy=>?_) (λs hs=>⟨s,rfl,hs⟩)
 obtain⟨a1,a2,a3,a4,a5⟩:=hy;rw[w64 (x:=y.2-y.1) qa qa];by_cases hd:y.2-y.1>1
 ·left;rw[az5 hd,Bz7 qa,w64 (x:=(y.2-y.1) / 2) qa qa,w64 (x:=y.1+(y.2-y.1) / 2) qa qa,az9 qa];generalize hm:y.1+(y.2-y.1) / 2=m;have m1:y.1<m/\m<y.2:=qa
  have q:=Nzz (a:=n) (b:=m) qa;have q1:=q.1 qa;rw[Bz7 qa,w64 (x:=n / m) qa qa];have key:m<=n / m↔m * m<=n:=qC qa;by_cases hc:m<=n / m
  ·rw[az5 hc];exact⟨_,rfl,⟨jL,jL,a3,key.1 hc,a5⟩,jL⟩
  ·rw[az8 hc];exact⟨_,rfl,⟨a1,jL,jL,a4,by simp only;have:=mt key.2 hc;omega⟩,jL⟩
 ·right;rw[az8 hd];exact⟨_,rfl,qa,a4,by rw[show y.1+1=y.2 from qa];exact a5⟩
def lenT (b:Nat):Nat:=((#[0,1,2,2,3,3,3,3,4,4,4,4,4,4,4,4,5,5,5,5,5,5,5,5,5,5,5,5,5,5,5,5,6,6,6,6,6,6,6,6,6,6,6,6,6,6,6,6,6,6,6,6,6,6,6,6,6,6,6,6,6,6,6,6,7,7,7,7,7,7,7,7,7,7,7,7,7,7,7,7,7,7,7,7,7,7,7,7,7,7,7,7,7,7,7,7,7,7,7,7,7,7,7,7,7,7,7,7,7,7,7,7,7,7,7,7,7,7,7,7,7,7,7,7,7,7,7,7,8,8,8,8,8,8,8,8,8,8,8,8,8,8,8,8,8,8,8,8,8,8,8,8,8,8,8,8,8,8,8,8,8,8,8,8,8,8,8,8,8,8,8,8,8,8,8,8,8,8,8,8,8,8,8,8,8,8,8,8,8,8,8,8,8,8,8,8,8,8,8,8,8,8,8,8,8,8,8,8,8,8,8,8,8,8,8,8,8,8,8,8,8,8,8,8,8,8,8,8,8,8,8,8,8,8,8,8,8,8,8,8,8,8,8,8,8,8,8,8,8,8,8,8,8,8,8,8]:Array UInt8).getD b 0).toNat
theorem azk1:∀b,b<256->b<2 ^ lenT b/\lenT b<=8:=of_decide_eq_true jJ
def lenE (y:Int×Int):Option Int:=grd (0<=IntKind.u8.wrap y.1/\IntKind.u8.wrap y.1<((256:Nat):Int)) (some (qt.wrap (y.2+qt.wrap ((lenT (IntKind.u8.wrap y.1).toNat:Nat):Int))))
theorem azmw (n:Int):(gzj n).o=
 andC (bif qv (n>=4294967296)then some (.out (n.fdiv (2 ^ min (32:Int).toNat 64),32))else some (.out (n,0)):Option (Step3 Unit (Int×Int) Int)) λy5=>
 andC (bif qv (y5.1>=65536)then some (.out (y5.1.fdiv (2 ^ min (16:Int).toNat 64),qt.wrap (y5.2+16)))else some (.out (y5.1,y5.2)):Option (Step3 Unit (Int×Int) Int)) λy6=>
 andC (bif qv (y6.1>=256)then some (.out (y6.1.fdiv (2 ^ min (8:Int).toNat 64),qt.wrap (y6.2+8)))else some (.out (y6.1,y6.2)):Option (Step3 Unit (Int×Int) Int)) λy7=>lenE y7:=jJ
theorem Mzn {n:Int}(h0:0<=n)(h1:n<4294967296):∃L:Nat,(gzj n).o=some (L:Int)/\n<2 ^ L/\L<=32:=by
 rw[azmw,az8 qa,az3];have fin:∀ (x:Int) (k:Nat),0<=x->x<256->k<=24->n<(x+1) * 2 ^ k->∃L:Nat,lenE (x,(k:Int))=some (L:Int)/\n<2 ^ L/\L<=32:=by
  intro x k x0 x1 hk hn;obtain⟨b,rfl⟩:∃b:Nat,x=(b:Int):=⟨x.toNat,qa⟩;have hb:=azk1 b qa;unfold lenE;simp only;rw[u8w qa qa,az9 ⟨qa,qa⟩,qF,w64 (x:=((lenT b:Nat):Int)) qa qa,w64 qa qa];refine⟨k+lenT b,by rw[Int.natCast_add],?_,qa⟩;have h2:(((b+1:Nat):Int)) * 2 ^ k<=2 ^ lenT b * 2 ^ k:=by
   refine wj ?_ (qB (cz4 k))
   exact_mod_cast hb.1
  rw[Nat.add_comm,qD];have h3:((b:Int)+1)=((b+1:Nat):Int):=qa
  rw[h3]at hn;omega
 have s16:∀x:Int,x.fdiv (2 ^ min (wk 16) 64)=x / 65536:=λx=>Xzk x 16
 have s8:∀x:Int,x.fdiv (2 ^ min (wk 8) 64)=x / 256:=λx=>Xzk x 8
 have p24:(2:Int) ^ 24=16777216:=jF
 have p16:(2:Int) ^ 16=65536:=jF
 have p8:(2:Int) ^ 8=256:=jF
 have e16:qt.wrap (0+16)=16:=jF
 have e8:qt.wrap (0+8)=8:=jF
 have e24:qt.wrap (16+8)=24:=jF
 by_cases c1:n>=65536
 ·rw[az5 c1,az3,s16,e16];by_cases c2:n / 65536>=256
  ·rw[az5 c2,az3,s8,e24];exact fin _ 24 qa qa qa (by rw[p24];omega)
  ·rw[az8 c2,az3];exact fin _ 16 qa qa qa (by rw[p16];omega)
 ·rw[az8 c1,az3];by_cases c2:n>=256
  ·rw[az5 c2,az3,s8,e8];exact fin _ 8 qa qa qa (by rw[p8];omega)
  ·rw[az8 c2,az3];exact fin _ 0 qa qa qa (by simp only[Int.pow_zero];omega)
theorem az0o {n:Int}(h0:1<=n)(h1:n<4294967296):∃s,(Czy n).o=some s/\IsRoot n s:=by
 have e0:(Czy n).o=(Czz n).run NN:=rfl;rw[e0];obtain⟨L,l1,l2,l3⟩:=Mzn (n:=n) qa h1;simp only[Czz,qj];rw[az8 qa,u64w (x:=n) qa qa,l1,qI,w64 (x:=(L:Int)+1) qa qa,Bz7 qa,w64 (x:=((L:Int)+1) / 2) qa qa,az9 qa];obtain⟨W,hW⟩:∃W:Nat,((L:Int)+1) / 2=(W:Int):=⟨(L+1) / 2,qa⟩;rw[hW,qF,qG qa,Int.one_mul];have hw16:W<=16:=qa
 have hpw:(2:Int) ^ W<=65536:=by
  have:(2:Int) ^ W<=2 ^ 16:=by exact_mod_cast qW (by decide:0<2) hw16
  have e:(2:Int) ^ 16=65536:=jF
  omega
 have hp0:=cz4 W;rw[u64w (x:=2 ^ W) qa qa];have hn4:n<2 ^ W * 2 ^ W:=by
  rw[<-qD];have:(2:Int) ^ L<=2 ^ (W+W):=by exact_mod_cast qW (by decide:0<2) (show L<=W+W from qa)
  omega
 refine Xzj (β:=Int) (g:=λs=>some s) (P:=λs=>IsRoot n s) (λ(y:Int×Int×Int)=>∃k:Nat,y.2.2=((W-k:Nat):Int)/\k<=W/\y.2.1=2 ^ k/\0<=y.1/\y.1<=2 ^ W-2 ^ k/\y.1 * y.1<=n/\n<(y.1+2 ^ k) * (y.1+2 ^ k))
  (λy=>((W:Int)-y.2.2).toNat) (λs=>IsRoot n s) ⟨W,jG,qk _,rfl,jG,jG,jK,by simp only[Int.zero_add];exact hn4⟩ (by show _<4294967296;simp only;omega) (λy hy=>?_) (λs hs=>⟨qt.wrap s,rfl,?_⟩)
 ·obtain⟨k,b1,b2,b3,b4,b5,b6,b7⟩:=hy;rw[b1,b3];cases k with
  |zero=>
   right;rw[az8 qa];exact⟨_,rfl,b4,b6,by simpa using b7⟩
  |succ k=>
   left;have hk2:(2:Int) ^ (k+1)=2 * 2 ^ k:=by rw[wm];omega
   have hkp:=cz4 k;rw[az5 qa,Bz7 qa,show(2:Int) ^ (k+1) / 2=2 ^ k from qa,u64w (x:=2 ^ k) qa qa,u64w (x:=y.1+2 ^ k) qa qa];have hsq:(y.1+2 ^ k) * (y.1+2 ^ k)<=65536 * 65536:=qL qa qa qa qa;have hsq0:0<=(y.1+2 ^ k) * (y.1+2 ^ k):=qK qa qa;rw[u64w (x:=(y.1+2 ^ k) * (y.1+2 ^ k)) hsq0 qa];have hi:qt.wrap (((W- (k+1):Nat):Int)+1)=((W-k:Nat):Int):=by rw[w64 qa qa];omega
   rw[hi];by_cases hc:(y.1+2 ^ k) * (y.1+2 ^ k)<=n
   ·rw[az5 hc,az3];exact⟨_,rfl,⟨k,rfl,qa,rfl,jL,jL,hc,by simp only;rw[show y.1+2 ^ k+2 ^ k=y.1+2 ^ (k+1) from qa];exact b7⟩,jL⟩
   ·rw[az8 hc,az3];exact⟨_,rfl,⟨k,rfl,qa,rfl,b4,jL,b6,jL⟩,jL⟩
 ·obtain⟨c1,c2,c3⟩:=hs;have:s<=n:=by
   by_cases hz:s=0
   ·omega
   ·have:s * 1<=s * s:=qE qa c1;omega
  rw[w64 qa qa];exact⟨c1,c2,c3⟩
def tzv (n:Int):Int:=(szh n).o.getD 0
theorem Qzf {n:Int}(h0:1<=n)(h1:n<4294967296):IsRoot n (tzv n)/\(szh n).o=some (tzv n):=by
 obtain⟨s,e,h⟩:=az4o h0 qa;unfold tzv;rw[e];exact⟨h,rfl⟩
theorem azd0 {n s:Int}(h0:1<=n)(h:IsRoot n s):s<=n:=by
 obtain⟨c1,c2,-⟩:=h;by_cases hz:s=0
 ·omega
 ·have:s * 1<=s * s:=qE qa c1;omega
def rupV (n:Int):Int:=if tzv n * tzv n<n then tzv n+1 else tzv n
theorem Uzl {n:Int}(h0:1<=n)(h1:n<4294967296):(Gzp n).o=some (rupV n):=by
 obtain⟨s,e,h⟩:=az0o h0 h1;obtain⟨k1,k2⟩:=Qzf h0 h1;have es:s=tzv n:=h.uniq k1;have sl:=azd0 h0 k1;obtain⟨r1,r2,r3⟩:=k1;show(vze n).run NN=_;simp only[vze,qj,e,qI,es,rupV];rw[w64 (x:=tzv n * tzv n) (by have:=qK r1 r1;omega) qa,w64 (x:=tzv n+1) qa qa];by_cases hc:tzv n * tzv n<n
 ·rw[az5 hc,qc hc,az3]
 ·rw[az8 hc,qb hc,az3]
theorem Yzu {n:Int}(h0:1<=n)(h1:n<4294967296):(Kzs n).o=some (rupV n):=by
 obtain⟨k1,k2⟩:=Qzf h0 h1;have sl:=azd0 h0 k1;obtain⟨r1,r2,r3⟩:=k1;show(Azc n).run NN=_;simp only[Azc,qj,k2,qI,rupV];rw[az5 qa,az3,w64 (x:=tzv n * tzv n) (by have:=qK r1 r1;omega) qa,w64 (x:=tzv n+1) qa qa];by_cases hc:tzv n * tzv n<n
 ·rw[az5 hc,qc hc,az3]
 ·rw[az8 hc,qb hc,az3]
theorem azks {n:Int}(h0:1<=n)(h1:n<4294967296):0<=rupV n/\rupV n<=65536:=by
 obtain⟨⟨r1,r2,r3⟩,-⟩:=Qzf h0 h1;have hb:tzv n<=65535:=by
  by_cases e:tzv n<=65535
  ·exact e
  ·have:65536 * 65536<=tzv n * tzv n:=qL qa qa qa qa;omega
 unfold rupV;split<;>omega
abbrev V3:=Int×Int×Int
def dz3 (n:V3):Bool:= !((n.1==0)&&((n.2.1==0)&&((n.2.2==0)&&true)))&&izh n 16384
theorem hze (n:V3):(fz5 n).o=some (dz3 n):=by
 show(vzw n).run NN=_;simp only[vzw,qj,fzf n (show(0:Int)<=16384 by decide) jF,qI,dz3];cases (n.1==0)&&((n.2.1==0)&&((n.2.2==0)&&true))<;>rfl
def bey2 (x:Int):Bool:=qv (x< -16384)||qv (x>16384)
theorem Nzo (v:V3):(yz5 v).o=some (izh v 16384):=by
 show(nzh v).run NN=_;simp only[nzh,qj,bzb,az3,ezy];refine(dza (λi=>sw (bey2 (([v.1,v.2.1,v.2.2]:List Int).getD i 0)) false) 3 jF (λj hj=>?_) ?_).trans ?_
 ·rw[az5 qa,az9 qa,wn qa,qF,<-czr];rfl
 ·rw[az8 qa]
 ·rw[bzg];have:bz0 (λi=>bey2 (([v.1,v.2.1,v.2.2]:List Int).getD i 0)) 3=izh v 16384:=by
   rw[qR,noneB_iff,nearV_iff];constructor
   ·intro h;have a:=h 0 jF;have b:=h 1 jF;have c:=h 2 jF;simp only[bey2,wo,ws,qp,qi]at a b c;omega
   ·intro h i hi
    match i,hi with
    |0,_=>simp only[bey2,wo,qp,qi];omega
    |1,_=>simp only[bey2,wo,ws,qp,qi];omega
    |2,_=>simp only[bey2,wo,ws,qp,qi];omega
  rw[this];cases izh v 16384<;>rfl
theorem qz3 (n:V3):(jzm n).o=some (dz3 n):=by
 show(qz2 n).run NN=_;simp only[qz2,qj,Nzo,qI,dz3];cases izh n 16384<;>cases (n.1==0)&&((n.2.1==0)&&((n.2.2==0)&&true))<;>rfl
theorem az2y {n:V3}(h:dz3 n=true):((-16384<=n.1/\n.1<=16384)/\(-16384<=n.2.1/\n.2.1<=16384)/\(-16384<=n.2.2/\n.2.2<=16384))/\(n.1≠0\/n.2.1≠0\/n.2.2≠0):=by
 simp only[dz3,qm,nearV_iff,qY,Bool.and_eq_false_iff,beq_eq_false_iff_ne,ne_eq,wi]at h;refine⟨h.2,?_⟩;rcases h.1 with h|h|h
 ·exact Or.inl h
 ·exact Or.inr (Or.inl h)
 ·exact Or.inr (Or.inr h)
theorem azl7 {x:Int}(h: -16384<=x/\x<=16384):0<=x * x/\x * x<=268435456/\(x≠0->1<=x * x):=by
 have h1:(x * x).natAbs<=16384 * 16384:=by rw[qH];exact qz qa qa
 have h0:0<=x * x:=by
  by_cases hx:0<=x
  ·exact qK hx hx
  ·exact Int.mul_nonneg_of_nonpos_of_nonpos qa qa
 refine⟨h0,qa,λhx=>?_⟩;have:x * x≠0:=Int.mul_ne_zero hx hx;omega
def sqV (n:V3):Int:=n.1 * n.1+n.2.1 * n.2.1+n.2.2 * n.2.2
def qzl (n:V3):Int:=if dz3 n then rupV (sqV n)else 0
theorem az74 {n:V3}(h:dz3 n=true):1<=sqV n/\sqV n<4294967296/\qt.wrap (qt.wrap (qt.wrap (n.1 * n.1)+qt.wrap (n.2.1 * n.2.1))+qt.wrap (n.2.2 * n.2.2))=sqV n:=by
 obtain⟨⟨b1,b2,b3⟩,hz⟩:=az2y h;have s1:=azl7 b1;have s2:=azl7 b2;have s3:=azl7 b3;unfold sqV;rw[w64 (x:=n.1 * n.1) qa qa,w64 (x:=n.2.1 * n.2.1) qa qa,w64 (x:=n.2.2 * n.2.2) qa qa,w64 (x:=n.1 * n.1+n.2.1 * n.2.1) qa qa,w64 qa qa];refine⟨?_,qa,rfl⟩;rcases hz with h|h|h
 ·have:=s1.2.2 h;omega
 ·have:=s2.2.2 h;omega
 ·have:=s3.2.2 h;omega
theorem Vzk (n:V3):(Hzm n).o=some (qzl n):=by
 show(xz7 n).run NN=_;simp only[xz7,qj,qz3,qI,qzl];cases h:dz3 n
 ·rfl
 ·have hs:=az74 h;simp only[qJ,qd,if_true];rw[hs.2.2,Uzl hs.1 hs.2.1];rfl
theorem Ozi (n:V3):(uzl n).o=some (qzl n):=by
 show(Dzp n).run NN=_;simp only[Dzp,qj,hze,qI,qzl];cases h:dz3 n
 ·rfl
 ·have hs:=az74 h;simp only[qJ,qd,if_true];rw[hs.2.2,Yzu hs.1 hs.2.1];rfl
theorem az6j (n:V3):0<=qzl n/\qzl n<=65536:=by
 unfold qzl;split
 ·rename_i h;have hs:=az74 h;exact azks hs.1 hs.2.1
 ·omega
def rng (x:az0):Bool:= !(qv (x.Lo< -268435456)||(qv (x.Lo>x.Hi)||qv (x.Hi>268435456)))
theorem Zz3 {x:az0}:rng x=true↔ -268435456<=x.Lo/\x.Lo<=x.Hi/\x.Hi<=268435456:=by
 grind[rng]
def dzy (v:IV3):Bool:=rng v.1&&(rng v.2.1&&rng v.2.2)
def farL (l:List IV3)(i:Nat):Bool:= !dzy (l.getD i qu)
def czo (l:List IV3):Bool:=qv (1<=l.length/\l.length<=8)&&bz0 (farL l) l.length
theorem ez1 {l:List IV3}(h:czo l=true){i:Nat}(a:i<l.length):dzy (l.getD i qu)=true:=by
 grind[czo,noneB_iff,farL]
theorem ez2 {l:List IV3}(h:czo l=true):1<=l.length/\l.length<=8:=by
 grind[czo]
theorem Dzq (v:IV3):(sz9 v).o=some (dzy v):=by
 show(sza v).run NN=_;simp only[sza,qj,bzb,az3,ezy,dzy,rng]
 grind
theorem xz2 (l:List IV3):(jza l).o=some (czo l):=by
 show(xz1 l).run NN=_;simp only[xz1,qj,bzb,az3,ezy,czo];by_cases h:1<=l.length/\l.length<=8
 ·rw[qg h,qh (p:=(l.length:Int)<1) qa,qh (p:=(l.length:Int)>8) qa];refine(dza (λi=>sw (farL l i) false) l.length qa (λj a=>?_) ?_).trans ?_
  ·rw[az5 qa,az9 qa,wn qa,qF,<-czr]
   grind[farL,dzy,rng]
  ·simp_all
  ·rw[bzg];cases bz0 (farL l) l.length<;>rfl
 grind
theorem hzd (l:List IV3):(ez9 l).o=some (czo l):=by
 show(vzt l).run NN=_;simp only[vzt,qj,bzb,az3,Dzq,qI];refine(dza (λi=>sw (farL l i) false) (min l.length 9) qa (λj a=>?_) ?_).trans ?_
 ·have e:(bif qv ((j:Int)<(l.length:Int))then qv ((j:Int)<=8)else false)=true:=by grind
  rw[e,qe,az9 qa,wn qa,qF,<-czr];rfl
 ·grind
 ·rw[bzg];unfold czo;by_cases h:1<=l.length/\l.length<=8
  ·rw[qg h,qG qa,qM];cases bz0 (farL l) l.length
   ·rfl
   ·show(bif qv ((l.length:Int)>=1)then _ else _)=_
    grind
  ·rw[qh h,wt];cases bz0 (farL l) (min l.length 9)
   ·rfl
   ·show(bif qv ((l.length:Int)>=1)then _ else _)=_
    grind
def dLo (n:V3)(v:IV3):Int:=min (n.1 * v.1.Lo) (n.1 * v.1.Hi)+min (n.2.1 * v.2.1.Lo) (n.2.1 * v.2.1.Hi)+min (n.2.2 * v.2.2.Lo) (n.2.2 * v.2.2.Hi)
def dHi (n:V3)(v:IV3):Int:=max (n.1 * v.1.Lo) (n.1 * v.1.Hi)+max (n.2.1 * v.2.1.Lo) (n.2.1 * v.2.1.Hi)+max (n.2.2 * v.2.2.Lo) (n.2.2 * v.2.2.Hi)
theorem az84 {a b:Int}(c: -16384<=a/\a<=16384)(d: -268435456<=b/\b<=268435456): -4398046511104<=a * b/\a * b<=4398046511104:=by
 have h:(a * b).natAbs<=16384 * 268435456:=by rw[qH];exact qz qa qa
 omega
theorem az5q {n:V3}{v:IV3}(e:dz3 n=true)(d:dzy v=true):
 qt.wrap (qt.wrap (qt.wrap (0+min (qt.wrap (n.1 * v.1.Lo)) (qt.wrap (n.1 * v.1.Hi)))+min (qt.wrap (n.2.1 * v.2.1.Lo)) (qt.wrap (n.2.1 * v.2.1.Hi)))+min (qt.wrap (n.2.2 * v.2.2.Lo)) (qt.wrap (n.2.2 * v.2.2.Hi)))=dLo n v/\
 qt.wrap (qt.wrap (qt.wrap (0+max (qt.wrap (n.1 * v.1.Lo)) (qt.wrap (n.1 * v.1.Hi)))+max (qt.wrap (n.2.1 * v.2.1.Lo)) (qt.wrap (n.2.1 * v.2.1.Hi)))+max (qt.wrap (n.2.2 * v.2.2.Lo)) (qt.wrap (n.2.2 * v.2.2.Hi)))=dHi n v/\
 (-13194139533312<=dLo n v/\dLo n v<=13194139533312)/\(-13194139533312<=dHi n v/\dHi n v<=13194139533312):=by
 obtain⟨⟨b,a,c⟩,-⟩:=az2y e;simp only[dzy,qm,Zz3]at d;have i:=az84 b (show -268435456<=v.1.Lo/\v.1.Lo<=268435456 from qa);have h:=az84 b (show -268435456<=v.1.Hi/\v.1.Hi<=268435456 from qa);have g:=az84 a (show -268435456<=v.2.1.Lo/\v.2.1.Lo<=268435456 from qa);have j:=az84 a (show -268435456<=v.2.1.Hi/\v.2.1.Hi<=268435456 from qa);have f:=az84 c (show -268435456<=v.2.2.Lo/\v.2.2.Lo<=268435456 from qa);have k:=az84 c (show -268435456<=v.2.2.Hi/\v.2.2.Hi<=268435456 from qa)
 grind[dLo,dHi,w64]
theorem Lzn {n:V3}{v:IV3}(b:dz3 n=true)(a:dzy v=true):(Bz5 n v).o=some (dLo n v,dHi n v):=by
 have h:=az5q b a;show(Bz6 n v).run NN=_
 simp_all[Bz6,qj]
theorem Szs {n:V3}{v:IV3}(b:dz3 n=true)(a:dzy v=true):(Izl n v).o=some (dLo n v,dHi n v):=by
 have h:=az5q b a;show(Izm n v).run NN=_
 simp_all[Izm,qj,hze,Dzq,az3]
def bst (c:Int->Int->Bool)(f:Nat->Int):Nat->Int×Int
 |0=>(0,0)
 |j+1=>if qv (j=0)||c (f j) (bst c f j).1 then(f j,(j:Int))else bst c f j
def ltB (a b:Int):Bool:=qv (a<b)
def gtB (a b:Int):Bool:=qv (a>b)
def Gzw (n:V3)(l:List IV3):Int×Int:=bst ltB (λi=>dLo n (l.getD i qu)) l.length
def Gzr (n:V3)(l:List IV3):Int×Int:=bst gtB (λi=>dHi n (l.getD i qu)) l.length
section
variable {n:V3} {l:List IV3} (hn:dz3 n=true) (hl:czo l=true)
include hn hl
theorem Pz3:(Bze n.1 n.2.1 n.2.2 l).o=some ((Gzw n l).1,(Gzw n l).2,n.1,n.2.1,n.2.2):=by
 have c:=ez2 hl;show(ozy n.1 n.2.1 n.2.2 l).run NN=_;simp only[ozy,qj];refine(bzh (λj=>(n.1,n.2.1,n.2.2,(bst ltB (λi=>dLo n (l.getD i qu)) j).1,(bst ltB (λi=>dLo n (l.getD i qu)) j).2,(j:Int))) (n.1,n.2.1,n.2.2,(Gzw n l).1,(Gzw n l).2) l.length rfl (show l.length<4294967296 from qa) (λj d=>?_) ?_).trans rfl
 ·rw[az5 jH,az9 ⟨jG,jH⟩];have g:(qza (l.getD j qu) n.1 n.2.1 n.2.2).o=some (dLo n (l.getD j qu),n.1,n.2.1,n.2.2):=by
   show(izy (l.getD j qu) n.1 n.2.1 n.2.2).run NN=_;simp only[izy,qj,Lzn (n:=(n.1,n.2.1,n.2.2)) hn (ez1 hl d),qI]
  have h:∀a b,(qzb a b).o=some (ltB a b):=λa b=>rfl
  grind[wn,az3,bst]
 ·rw[az8 jG];rfl
theorem Jzh:(uz3 n.1 n.2.1 n.2.2 l).o=some ((Gzr n l).1,(Gzr n l).2,n.1,n.2.1,n.2.2):=by
 have c:=ez2 hl;show(kzs n.1 n.2.1 n.2.2 l).run NN=_;simp only[kzs,qj];refine(bzh (λj=>(n.1,n.2.1,n.2.2,(bst gtB (λi=>dHi n (l.getD i qu)) j).1,(bst gtB (λi=>dHi n (l.getD i qu)) j).2,(j:Int))) (n.1,n.2.1,n.2.2,(Gzr n l).1,(Gzr n l).2) l.length rfl (show l.length<4294967296 from qa) (λj f=>?_) ?_).trans rfl
 ·rw[az5 jH,az9 ⟨jG,jH⟩];have g:(vz1 (l.getD j qu) n.1 n.2.1 n.2.2).o=some (dHi n (l.getD j qu),n.1,n.2.1,n.2.2):=by
   show(mz0 (l.getD j qu) n.1 n.2.1 n.2.2).run NN=_
   grind[mz0,qj,Lzn,ez1]
  have e:∀a b,(vz2 a b).o=some (gtB a b):=λa b=>rfl
  grind[wn,az3,bst]
 ·rw[az8 jG];rfl
end
def Wz3 (n:V3)(l:List IV3):Int×Int×Bool:=bif dz3 n&&czo l then((Gzw n l).1,(Gzw n l).2,true)else(0,0,false)
def Vzy (n:V3)(l:List IV3):Int×Int×Bool:=bif dz3 n&&czo l then((Gzr n l).1,(Gzr n l).2,true)else(0,0,false)
theorem Tzp (n:V3)(l:List IV3):(Fz5 n l).o=some (Wz3 n l):=by
 show(tzf n l).run NN=_;have a:(vz0 (n.1,n.2.1,n.2.2)).o=some (n.1,n.2.1,n.2.2):=rfl;simp only[tzf,qj,qz3,xz2,qI,Wz3,a]
 grind[az3,Pz3]
theorem Lzm (n:V3)(l:List IV3):(uzz n l).o=some (Vzy n l):=by
 show(lzz n l).run NN=_;have a:(Bzu (n.1,n.2.1,n.2.2)).o=some (n.1,n.2.1,n.2.2):=rfl;simp only[lzz,qj,qz3,xz2,qI,Vzy,a]
 grind[az3,Jzh]
theorem Yzo (n:V3)(l:List IV3):(Kzf n l).o=some (Wz3 n l):=by
 show(zzq n l).run NN=_;simp only[zzq,qj,hze,hzd,qI,Wz3];cases c:dz3 n
 ·rfl
 ·cases b:czo l
  ·rfl
  ·have a:=ez2 b;refine(bzh (λj=>((bst ltB (λi=>dLo n (l.getD i qu)) j).1,(bst ltB (λi=>dLo n (l.getD i qu)) j).2,(j:Int))) ((Gzw n l).1,(Gzw n l).2) l.length rfl (show l.length<4294967296 from qa) (λj d=>?_) ?_).trans rfl
   ·grind[az9,Szs,ez1,wn,az3,bst,ltB]
   ·rw[az8 jG];rfl
theorem Pzn (n:V3)(l:List IV3):(Bzo n l).o=some (Vzy n l):=by
 show(pzb n l).run NN=_;simp only[pzb,qj,hze,hzd,qI,Vzy];cases c:dz3 n
 ·rfl
 ·cases b:czo l
  ·rfl
  ·have a:=ez2 b;refine(bzh (λj=>((bst gtB (λi=>dHi n (l.getD i qu)) j).1,(bst gtB (λi=>dHi n (l.getD i qu)) j).2,(j:Int))) ((Gzr n l).1,(Gzr n l).2) l.length rfl (show l.length<4294967296 from qa) (λj d=>?_) ?_).trans rfl
   ·grind[az9,Szs,ez1,wn,az3,bst,gtB]
   ·rw[az8 jG];rfl
def radV (r:Int):Bool:=qv (0<=r)&&qv (r<=1048576)
def Izb (n:V3)(a:List IV3)(c:Int)(b:List IV3)(d:Int):Int:=
 qt.wrap (qt.wrap ((Gzw n a).1- (Gzr n b).1)-qt.wrap (qzl n * qt.wrap (c+d)))
def Zzm (n:V3)(a:List IV3)(c:Int)(b:List IV3)(d:Int):Bool:=dz3 n&&(czo a&&(czo b&&(radV c&&radV d)))
def sepV (n:V3)(a:List IV3)(c:Int)(b:List IV3)(d:Int):Bool:=Zzm n a c b d&&qv (Izb n a c b d>0)
theorem nzt (r:Int):(fzx r).o=some (radV r):=by
 show(wz1 r).run NN=_
 grind[wz1,qj,radV]
theorem Uzu (n:V3)(a:List IV3)(c:Int)(b:List IV3)(d:Int):(Hz7 n a c b d).o=some (bif Zzm n a c b d then(Izb n a c b d,true)else(0,false)):=by
 show(vzz n a c b d).run NN=_;simp only[vzz,qj,Yzo,Pzn,nzt,Ozi,qI,Wz3,Vzy,Zzm,Izb];cases dz3 n<;>cases czo a<;>cases czo b<;>cases radV c<;>cases radV d<;>rfl
theorem xzt (n:V3)(a:List IV3)(c:Int)(b:List IV3)(d:Int):(mzs n a c b d).o=some (sepV n a c b d):=by
 show(mzt n a c b d).run NN=_
 grind[mzt,qj,Uzu,sepV]
theorem az2p (x:fzr):(Fz0 x).o=some (czo x.points&&radV x.radius):=by
 show(Fz1 x).run NN=_
 grind[Fz1,qj,xz2,radV]
theorem Mzx (n:V3)(a:List IV3)(d:Int)(b:List IV3)(c:Int):(mzp n a d b c).o=some (sepV n a d b c):=by
 have g:(Oze a d b c).o=some ⟨⟨a,d⟩,⟨b,c⟩⟩:=rfl;have e:(Hzl ⟨⟨a,d⟩,⟨b,c⟩⟩ n).o=some (bif Zzm n a d b c then(Izb n a d b c,true)else(0,false)):=by
  show(xz3 ⟨⟨a,d⟩,⟨b,c⟩⟩ n).run NN=_;simp only[xz3,qj,az2p,Tzp,Lzm,Vzk,qI,Wz3,Vzy,Zzm,Izb];cases dz3 n<;>cases czo a<;>cases czo b<;>cases radV d<;>cases radV c<;>rfl
 have f:(yz2 ⟨⟨a,d⟩,⟨b,c⟩⟩ n).o=some (sepV n a d b c):=by
  show(nzb ⟨⟨a,d⟩,⟨b,c⟩⟩ n).run NN=_
  grind[nzb,qj,sepV]
 show(mzq n a d b c).run NN=_
 grind[mzq,qj]
theorem az4f {c:Nat->Nat->Bool}{L:List czi}{i:Nat}{x:czi}:∀ {m:Nat},x∈pin c L i m->x∈L\/∃k,k<m/\x=⟨(i:Int),((i+1+k:Nat):Int)⟩
 |0,h=>Or.inl h
 |m+1,h=>by
  simp only[pin]at h;split at h
  ·rcases wu.1 h with h|h
   ·rcases az4f h with h|⟨k,b,a⟩
    ·exact Or.inl h
    ·exact Or.inr ⟨k,qa,a⟩
   ·exact Or.inr ⟨m,qa,wv.1 h⟩
  ·rcases az4f h with h|⟨k,b,a⟩
   ·exact Or.inl h
   ·exact Or.inr ⟨k,qa,a⟩
theorem azcb {c:Nat->Nat->Bool}{n:Nat}{x:czi}:∀ {i:Nat},i<=n->x∈pou c n i->0<=x.A/\x.A<(n:Int)/\0<=x.B/\x.B<(n:Int)
 |0,_,h=>by simp[pou,nl]at h
 |i+1,a,h=>by
  rcases az4f h with h|⟨k,d,b⟩
  ·exact azcb qa h
  grind
theorem azx {a:Type}[Inhabited a]{l:List a}{i:Nat}(h:i<l.length):l.getD i qu∈l:=by
 simp_all
theorem Yzg {s:az7}(h:bzq s=0){k:Nat}(b:k<(cz3 s).length):(0<=((cz3 s).getD k qu).A/\((cz3 s).getD k qu).A<(s.Xe.length:Int))/\(0<=((cz3 s).getD k qu).B/\((cz3 s).getD k qu).B<(s.Xe.length:Int)):=by
 have a:=azx b;generalize (cz3 s).getD k qu=x at a⊢;unfold cz3 at a;rw[qc h]at a;have:=azcb (qk _) a;omega
theorem xzq (s:az7):(cz3 s).length<=576:=by
 unfold cz3;split
 ·rename_i h;have a:=(jz9 h).len;have c:=Yzj (tzu s) (n:=s.Xe.length) s.Xe.length;have b:s.Xe.length * s.Xe.length<=24 * 24:=qz a a;omega
 ·simp[nl]
def pA (s:az7)(k:Nat):Nat:=((cz3 s).getD k qu).A.toNat
def pB (s:az7)(k:Nat):Nat:=((cz3 s).getD k qu).B.toNat
def kzc (s:az7)(i:Nat):Int:=(s.Xe.getD i qu).XE
def sepK (s:az7)(b:List az0)(ns:List V3)(k:Nat):Bool:= !sepV (ns.getD k qu) (bzf s b (pA s k)) (kzc s (pA s k)) (bzf s b (pB s k)) (kzc s (pB s k))
def ozz (s:az7)(b:List az0)(ns:List V3):Bool:=
 qv (bzq s=0)&&(boxV s.Xf b&&(qv (ns.length=(cz3 s).length)&&bz0 (sepK s b ns) (cz3 s).length))
theorem Izg {s:az7}{b:List az0}(h:bzq s=0)(a:boxV s.Xf b=true):sz5 s b=tab (bzf s b) s.Xe.length:=by grind[sz5]
theorem Ozz (s:az7)(b:List az0)(a:b.length<4294967296):(ozt s b).o=some (if bzq s=0/\boxV s.Xf b=true then(⟨s.Xe,cz3 s,sz5 s b⟩,true)else(⟨nl,nl,nl⟩,false)):=by
 show(ozu s b).run NN=_;simp only[ozu,qj,izn,qI];by_cases h:bzq s=0
 ·rw[bz5 h,az3];by_cases e:b.length=s.Xf.Xc.length
  ·rw[bz5 qa];refine(dza (λi=>sw (notV b i) ((⟨nl,nl,nl⟩:czt),false)) b.length a (λj d=>?_) ?_).trans ?_
   ·rw[az5 qa,az9 qa,wn qa,qF,<-czr];simp only[czd,qI];rfl
   ·simp_all
   ·rw[bzg];have:boxV s.Xf b=bz0 (notV b) b.length:=by grind[boxV]
    rw[this];cases bz0 (notV b) b.length
    ·rw[qb (λh=>jI)];rfl
    ·simp_all[sw,Zzd,Iz7]
  grind[boxV]
 grind[az3]
theorem Fzy (s:az7)(b:List az0)(ns:List V3)(c:b.length<4294967296):(qz8 s b ns).o=some (ozz s b ns):=by
 have f:=xzq s;have e:=Ozz s b c;show(izt s b ns).run NN=_;have k:(Bzb s b ⟨ns⟩).o=some (ozz s b ns):=by
  show(ozs s b ⟨ns⟩).run NN=_;simp only[ozs,qj,e,qI];by_cases h:bzq s=0/\boxV s.Xf b=true
  ·have l:(uzy ⟨ns⟩ ⟨s.Xe,cz3 s,sz5 s b⟩).o=some (qv (ns.length=(cz3 s).length)&&bz0 (sepK s b ns) (cz3 s).length):=by
    show(lzp ⟨ns⟩ ⟨s.Xe,cz3 s,sz5 s b⟩).run NN=_;simp only[lzp,qj];by_cases d:ns.length=(cz3 s).length
    ·rw[bz5 qa,qg d,qM];refine(dza (λi=>sw (sepK s b ns i) false) ns.length qa (λj m=>?_) ?_).trans ?_
     ·have a:=Yzg h.1 (show j<(cz3 s).length from qa);have g:(yzj ⟨s.Xe,cz3 s,sz5 s b⟩ (j:Int)).o=some ⟨bzf s b (pA s j),bzf s b (pB s j),kzc s (pA s j),kzc s (pB s j)⟩:=by
       show(yzk ⟨s.Xe,cz3 s,sz5 s b⟩ (j:Int)).run NN=_;simp only[yzk,qj,qF,Izg h.1 h.2,bz9];rw[az9 ⟨qa,qa⟩,az9 a.1,az9 a.1,az9 a.2,az9 a.2,fzh qa,fzh qa];rfl
      rw[az5 qa,az9 qa,wn qa,qF,<-czr];simp only[g,Mzx,qI];rfl
     ·simp_all
     ·rw[bzg,d];cases bz0 (sepK s b ns) (cz3 s).length<;>rfl
    grind
   grind[ozz]
  grind[ozz]
 simp_all[izt,qj]
def azdg (s:az7)(b:List az0)(k:Nat):azw:=⟨bzf s b (pA s k),kzc s (pA s k)⟩
def azdh (s:az7)(b:List az0)(k:Nat):azw:=⟨bzf s b (pB s k),kzc s (pB s k)⟩
theorem Kzl (s:az7)(b:List az0)(a:b.length<4294967296):(Az1 s b).o=some (if bzq s=0/\boxV s.Xf b=true then(tab (azdg s b) (cz3 s).length,tab (azdh s b) (cz3 s).length,true)else(nl,nl,false)):=by
 have d:=xzq s;show(Az2 s b).run NN=_;simp only[Az2,qj,czg,zzo _ b a,qI];by_cases h:bzq s=0
 ·rw[bz5 h,az3];cases e:boxV s.Xf b
  ·simp_all
  ·rw[qc ⟨h,rfl⟩];simp only[qJ,qd,Hz5 s b a,az24,qI,Izg h e];refine(bzh (λj=>(tab (azdg s b) j,tab (azdh s b) j,(j:Int))) (tab (azdg s b) (cz3 s).length,tab (azdh s b) (cz3 s).length) (cz3 s).length rfl (show(cz3 s).length<4294967296 from qa) (λj f=>?_) ?_).trans rfl
   ·have c:=Yzg h f;rw[az5 jH,az9 ⟨jG,jH⟩,az9 ⟨jG,jH⟩];simp only[qF,bz9];rw[az9 c.1,az9 c.1,az9 ⟨jI,by simp[azd];omega⟩,az9 c.2,az9 c.2,az9 ⟨jI,by simp[azd];omega⟩,wn qa,fzh qa,fzh qa,ezc,ezc];rfl
   simp_all
 grind[az3]
theorem xzs (s:az7)(b:List az0)(ns:List V3)(a:b.length<4294967296):(izk s b ns).o=some (ozz s b ns):=by
 have e:=xzq s;show(mzr s b ns).run NN=_;simp only[mzr,qj,Kzl s b a,qI];by_cases h:bzq s=0/\boxV s.Xf b=true
 ·rw[qc h];simp only[qJ,qd,az3,bz9,ozz,h.2,qg h.1,qM];by_cases f:ns.length=(cz3 s).length
  ·rw[bz5 qa,qg f,qM];refine(dza (λi=>sw (sepK s b ns i) false) (cz3 s).length qa (λj d=>?_) ?_).trans ?_
   ·rw[az5 qa,az9 qa,az9 qa,az9 qa,az9 qa,az9 qa,wn qa,qF,<-czr,fzh d,fzh d];simp only[xzt,qI];rfl
   ·simp_all
   ·rw[bzg];cases bz0 (sepK s b ns) (cz3 s).length<;>rfl
  grind
 ·rw[qb h];have:ozz s b ns=false:=by
   grind[ozz]
  rw[this];rfl
def begV (x:az6):Option (Int×Int):=if(0<=x.Xj/\x.Xj<=20)/\0<=x.Xt/\x.Xt<2 ^ x.Xj.toNat then some (x.Xt * 2 ^ (20-x.Xj.toNat),2 ^ (20-x.Xj.toNat))else none
theorem Wzs {x:az6}{f n:Int}(h:begV x=some (f,n)):0<=f/\f<1048576/\0<n/\n<=1048576:=by
 unfold begV at h;split at h
 ·rename_i d;obtain⟨rfl,rfl⟩:=h;have a:=cz4 (20-x.Xj.toNat);have c:=az4h (show 20-x.Xj.toNat<=20 from qa);refine⟨qK d.2.1 qa,?_,a,c⟩;have b:(x.Xt+1) * 2 ^ (20-x.Xj.toNat)<=2 ^ x.Xj.toNat * 2 ^ (20-x.Xj.toNat):=wj qa qa;rw[<-qD,show x.Xj.toNat+(20-x.Xj.toNat)=20 from qa,Int.add_mul,Int.one_mul]at b;omega
 grind
theorem Kzo (x:az6):(Az6 x).o=some (match begV x with|some (f,n)=>(f,n,true)|none=>(0,0,false)):=by
 show(Az7 x).run NN=_;simp only[Az7,qj];by_cases d:x.Xj<0
 ·grind[begV,az3]
 ·rw[az8 d];by_cases a:x.Xj>20
  ·grind[begV,az3]
  ·rw[az8 a];by_cases c:x.Xt<0
   ·grind[begV,az3]
   ·rw[az8 c,az2x qa qa,az9 qa,az3,qG qa,w2k qa];by_cases e:x.Xt>=2 ^ x.Xj.toNat
    ·grind[begV]
    ·have b:begV x=some (x.Xt * 2 ^ (20-x.Xj.toNat),2 ^ (20-x.Xj.toNat)):=by grind[begV]
     have g:=Wzs b
     grind[w64,az2x,az9]
def plc (l:List az6):Nat->Int
 |0=>0
 |j+1=>match begV (l.getD j qu)with
  |some (f,n)=>f+n
  |none=>0
def badT (l:List az6)(j:Nat):Bool:=match begV (l.getD j qu)with
 |some (f,_)=>f !=plc l j
 |none=>true
theorem azn8 (l:List az6):∀j,0<=plc l j/\plc l j<=2097152
 |0=>by simp[plc]
 |j+1=>by
  simp only[plc];split
  ·rename_i f n h;have:=Wzs h;omega
  omega
theorem Wz2 {σ τ R:Type}{f:σ->Option (Step3 σ τ R)}(c:Nat->σ)(g:Nat->Option R)(r:R):
 ∀ (n i N:Nat),n<N->(∀j,i<=j->j<i+n->f (c j)=match g j with|some r=>some (.fin r)|none=>some (.next (c (j+1))))->f (c (i+n))=some (.fin r)->
   iter f N (c i)=some (.inr (match scan g n i with|some l=>l|none=>r))
 |0,i,0,h,_,_=>qa
 |0,i,N+1,_,_,h=>by grind[iter,scan]
 |n+1,i,0,h,_,_=>qa
 |n+1,i,N+1,o,d,m=>by
  have e:=d i qa qa;simp only[scan];cases k:g i with
  |some r=>grind[iter]
  |none=>
   rw[k]at e;simp only[iter,e];exact Wz2 c g r n (i+1) N qa (λj a b=>d j qa qa) jI
theorem Wz5 {σ τ R:Type}{f:σ->Option (Step3 σ τ R)}{k:τ->Option R}{x:σ}(a:Nat->σ)(g:Nat->Option R)(r:R)(n:Nat)(e:x=a 0)(b:n<NN)
 (d:∀j,j<n->f (a j)=match g j with|some r=>some (.fin r)|none=>some (.next (a (j+1)))) (i:f (a n)=some (.fin r)):
 andK (iter f NN x) k=some (match scan g n 0 with|some c=>c|none=>r):=by
 rw[e,Wz2 a g r n 0 NN b (λj _ h=>d j qa) jH];rfl
def uz2 (l:List az6):Int×Bool:=
 if l.length<=4096 then(match scan (λj=>sw (badT l j) ((j:Int),false)) l.length 0 with|some r=>r|none=>((l.length:Int),plc l l.length==1048576))
 else(match scan (λj=>sw (badT l j) ((j:Int),false)) 4096 0 with|some r=>r|none=>(4096,false))
theorem Vzr (l:List az6){j:Nat}(e:j<4096){σ τ:Type}{R:Type}(r:R)(x:Int->σ):
 (qO (Az6 (l.getD j qu)).o λy=>andC (bif !y.2.2 then some (.out true)else bif y.1 !=plc l j then some (.out true)else some (.out (qv ((j:Int)>=4096))):Option (Step3 Unit Bool (Step3 σ τ R))) λz=>bif z then some (.fin r)else some (.next (x (qt.wrap (y.1+y.2.1)))))=
  match sw (badT l j) r with|some r=>some (.fin r)|none=>some (.next (x (plc l (j+1)))):=by
 rw[Kzo,qI];unfold badT;cases b:begV (l.getD j qu)with
 |none=>rfl
 |some p=>
  obtain⟨f,n⟩:=p;have d:=Wzs b;simp only[qJ,qd];by_cases h:f=plc l j
  ·rw[bz5 h,az3,qh qa];have a:(f !=plc l j)=false:=by simp_all
   have c:plc l (j+1)=f+n:=by simp only[plc,b]
   rw[a,c,w64 qa qa];rfl
  ·have a:(f !=plc l j)=true:=by simp_all
   rw[czc h,az3,a];rfl
theorem Yzt (l:List az6):(Kzp l).o=some (uz2 l):=by
 show(Az8 l).run NN=_;simp only[Az8,qj,uz2];by_cases h:l.length<=4096
 ·refine(hz1 (λj=>(plc l j,(j:Int))) (λj=>sw (badT l j) ((j:Int),false)) (plc l l.length) l.length rfl (show l.length<4294967296 from qa) (λj a=>?_) ?_).trans ?_
  ·rw[az5 qa,az9 ⟨jG,qa⟩];rw[wn qa];exact Vzr l qa ((j:Int),false) (λz=>(z,((j+1:Nat):Int)))
  all_goals grind
 ·refine(Wz5 (λj=>(plc l j,(j:Int))) (λj=>sw (badT l j) ((j:Int),false)) (4096,false) 4096 rfl (show 4096<4294967296 from qa) (λj a=>?_) ?_).trans ?_
  ·rw[az5 qa,az9 ⟨jG,qa⟩];rw[wn qa];exact Vzr l qa ((j:Int),false) (λz=>(z,((j+1:Nat):Int)))
  ·rw[az5 qa,az9 ⟨jG,qa⟩,Kzo,qI];cases (match begV (l.getD (wk ((4096:Nat):Int)) qu)with|some (f,n)=>(f,n,true)|none=>(0,0,false)).2.2
   ·rfl
   ·cases ((match begV (l.getD (wk ((4096:Nat):Int)) qu)with|some (f,n)=>(f,n,true)|none=>(0,0,false)).1 !=plc l 4096)<;>rfl
  grind
theorem az2w (l:List az6){j:Nat}(q:j<4096){σ τ R:Type}(r:R)(x:Int->σ):∀y:az6,y=l.getD j qu->
 (andC (bif ((j:Int)==4096)then some (.out true)else bif qv (y.Xj<0)then some (.out true)else some (.out (qv (y.Xj>20))):Option (Step3 Unit Bool (Step3 σ τ R))) λk=>
  bif k then some (.fin r)else andC (bif qv (y.Xt<0)then some (.out true)else grd (0<=y.Xj) (some (.out (qv (y.Xt>=qt.wrap (1 * 2 ^ min y.Xj.toNat 64))))):Option (Step3 Unit Bool (Step3 σ τ R))) λn=>
  bif n then some (.fin r)else grd (0<=y.Xj) (bif qt.wrap (y.Xt * (1048576:Int).fdiv (2 ^ min y.Xj.toNat 64)) !=plc l j then some (.fin r)else some (.next (x (qt.wrap (plc l j+(1048576:Int).fdiv (2 ^ min y.Xj.toNat 64)))))))=
  match sw (badT l j) r with|some r=>some (.fin r)|none=>some (.next (x (plc l (j+1)))):=by
 intro y t;rw[gz1 qa];unfold badT;by_cases f:y.Xj<0
 ·have:begV (l.getD j qu)=none:=by grind[begV]
  rw[az5 f,az3,this];rfl
 ·rw[az8 f,az3];by_cases g:y.Xj>20
  ·have:begV (l.getD j qu)=none:=by grind[begV]
   rw[az5 g,this];rfl
  ·rw[az8 g];by_cases d:y.Xt<0
   ·have:begV (l.getD j qu)=none:=by grind[begV]
    rw[az5 d,az3,this];rfl
   ·rw[az8 d,az9 qa,az3,qG qa,w2k qa];by_cases c:y.Xt>=2 ^ y.Xj.toNat
    ·have:begV (l.getD j qu)=none:=by grind[begV]
     rw[az5 c,this];rfl
    ·have i:begV (l.getD j qu)=some (y.Xt * 2 ^ (20-y.Xj.toNat),2 ^ (20-y.Xj.toNat)):=by grind[begV]
     have s:=Wzs i;have m:(1048576:Int).fdiv (2 ^ y.Xj.toNat)=2 ^ (20-y.Xj.toNat):=by
      have e:(1048576:Int)=2 ^ y.Xj.toNat * 2 ^ (20-y.Xj.toNat):=by
       rw[<-qD,show y.Xj.toNat+(20-y.Xj.toNat)=20 from qa];decide
      grind[Int.mul_ediv_cancel_left]
     have p:=azn8 l j;rw[az8 c,az9 qa,m,w64 (x:=y.Xt * _) qa qa,w64 (x:=plc l j+_) qa qa];simp only[i];by_cases h:y.Xt * 2 ^ (20-y.Xj.toNat)=plc l j
     ·have b:(y.Xt * 2 ^ (20-y.Xj.toNat) !=plc l j)=false:=by simp_all
      have o:plc l (j+1)=plc l j+2 ^ (20-y.Xj.toNat):=by grind[plc]
      rw[bz5 h,b,o];rfl
     ·have b:(y.Xt * 2 ^ (20-y.Xj.toNat) !=plc l j)=true:=by simp_all
      rw[czc h,b];rfl
theorem Qzg {R S:Type}{g:Nat->Bool}{r:Nat->R}{f:R->S}:∀ (n i:Nat),scan (λj=>sw (g j) (f (r j))) n i=(scan (λj=>sw (g j) (r j)) n i).map f
 |0,_=>rfl
 |n+1,i=>by
  simp only[scan];cases g i with
  |true=>rfl
  |false=>exact Qzg n (i+1)
def azlf (l:List az6):Int×Int:=bif (uz2 l).2 then(0,0)else((uz2 l).1,2001)
theorem Qzh {g:Nat->Bool}{n:Nat}{r:Int×Bool}(h:scan (λj=>sw (g j) ((j:Int),false)) n 0=some r):r.2=false:=by
 grind[ezh,sw]
theorem Tzc (x:bzs):(Ezq x).o=some (azlf x.pieces):=by
 show(tz1 x).run NN=_;generalize c:x.pieces=l;simp only[tz1,qj,c,azlf,uz2];have b:∀n,scan (λj=>sw (badT l j) ((j:Int),(2001:Int))) n 0=(scan (λj=>sw (badT l j) ((j:Int),false)) n 0).map λr=>(r.1,2001):=λn=>Qzg (r:=λj=>((j:Int),false)) (f:=λr=>(r.1,(2001:Int))) n 0
 by_cases h:l.length<=4096
 ·rw[qc h];refine(hz1 (λj=>(plc l j,(j:Int))) (λj=>sw (badT l j) ((j:Int),2001)) (plc l l.length) l.length rfl (show l.length<4294967296 from qa) (λj d=>?_) ?_).trans ?_
  ·rw[az5 qa,az9 ⟨jG,qa⟩];rw[wn qa];exact az2w l qa ((j:Int),2001) (λz=>(z,((j+1:Nat):Int))) _ rfl
  ·simp_all
  ·rw[b];cases a:scan (λj=>sw (badT l j) ((j:Int),false)) l.length 0 with
   |none=>
    grind
   |some r=>simp only[wx,Qzh a,qd]
 ·rw[qb h];refine(Wz5 (λj=>(plc l j,(j:Int))) (λj=>sw (badT l j) ((j:Int),2001)) (4096,2001) 4096 rfl (show 4096<4294967296 from qa) (λj d=>?_) ?_).trans ?_
  ·rw[az5 qa,az9 ⟨jG,qa⟩];rw[wn qa];exact az2w l qa ((j:Int),2001) (λz=>(z,((j+1:Nat):Int))) _ rfl
  ·rw[az5 qa,az9 ⟨jG,qa⟩];rfl
  ·rw[b];cases a:scan (λj=>sw (badT l j) ((j:Int),false)) 4096 0 with
   |none=>rfl
   |some r=>simp only[wx,Qzh a,qd]
theorem Qz7 {l:List az6}(h:(uz2 l).2=true):l.length<=4096/\∀j,j<l.length->begV (l.getD j qu)≠none:=by
 unfold uz2 at h;split at h
 ·rename_i e;refine⟨e,λj f c=>?_⟩;split at h
  ·rename_i b;rw[Qzh b]at h;cases h
  ·rename_i b;have:=(ez0 _ _).1 b j (Nat.zero_le _) qa;have d:badT l j=true:=by unfold badT;rw[c]
   rw[d]at this;cases this
 ·split at h
  ·rename_i b;rw[Qzh b]at h;cases h
  grind
theorem Oz3 {r:azk}{c:List Int}(h:azu r c=true):hza c=true/\c.length=r.Xc.length/\r.Xc.length<=10/\dz4 r=0:=by
 simp only[azu,qm,qf]at h;obtain⟨a,d,e⟩:=h;refine⟨noneB_iff.2 λi f=>?_,d,(ezg a).2.1,a⟩;have:=noneB_iff.1 e i f;have b:=ezu a (show i<r.Xc.length from qa);have j:=Kzd (r.Xc.getD i qu).Xn;have g:=b.lim
 grind[outJ,big1]
theorem azgg {r:azk}{p q:List Int}(a:azu r p=true)(c:azu r q=true){x:az6}(b:begV x≠none):dzi p q x.Xj x.Xt=(tab (xzr p q x.Xj.toNat x.Xt) p.length,true):=by
 have d:=Oz3 a
 grind[Oz3,begV,dzi,motionV_iff]
theorem Szi (p q:List Int)(d i:Int)(a:p.length<4294967296):(dzi p q d i).1.length<4294967296:=by
 grind[dzi,bz9,nl]
def notF (s:az7)(p q:List Int)(l:List az6)(j:Nat):Bool:= !ozz s (dzi p q (l.getD j qu).Xj (l.getD j qu).Xt).1 (l.getD j qu).Xm
def hzu (s:az7)(p q:List Int)(l:List az6):Int×Int:=
 if bzq s≠0 then(0,904)else if(azu s.Xf p&&azu s.Xf q)=false then(0,1201)else if(uz2 l).2=false then((uz2 l).1,2001)else
 match scan (λj=>sw (notF s p q l j) ((j:Int),(2002:Int))) l.length 0 with|some r=>r|none=>(0,0)
section
variable (s:az7) (p q:List Int) (l:List az6) (hp:p.length<4294967296) (hq:q.length<4294967296)
include hp hq
theorem Mzz:(xzu s p q l).o=some (hzu s p q l):=by
 show(mzv s p q l).run NN=_;simp only[mzv,qj,czg,qI,hzu];by_cases h:bzq s=0
 ·have b:(qzr s p q).o=some (azu s.Xf p&&azu s.Xf q):=by
   show(lzd s p q).run NN=_;simp only[lzd,qj,czg,fz4,qI]
   grind
  rw[bz5 h,qb qa,b,qI];cases c:azu s.Xf p&&azu s.Xf q
  ·rfl
  ·simp only[qJ,qd,Yzt,qI,wy,if_false];cases a:(uz2 l).2
   ·rfl
   ·have d:=Qz7 a;refine(dza (λj=>sw (notF s p q l j) ((j:Int),(2002:Int))) l.length qa (λj e=>?_) ?_).trans ?_;all_goals grind[az9,wn,zzu,xzs,Szi,sw,notF]
 grind
theorem Mza:(xzk s p q l).o=some (hzu s p q l):=by
 show(mzi s p q l).run NN=_;have k:(Hzi ⟨s,p,q,l⟩).o=some (0,if bzq s=0 then 0 else 904):=by
  show(wzx ⟨s,p,q,l⟩).run NN=_
  grind[wzx,qj,izn]
 have f:(Ezp ⟨s,p,q,l⟩).o=some (0,bif azu s.Xf p&&azu s.Xf q then 0 else 1201):=by
  show(tz0 ⟨s,p,q,l⟩).run NN=_;simp only[tz0,qj,hzw,qI,bzb,az3]
  grind
 simp only[mzi,qj,k,qI,hzu];rw[az9 jF,az9 jF,az9 jF,az9 jF];by_cases h:bzq s=0
 ·rw[qc h,qb qa,bz5 rfl,f,qI];cases b:azu s.Xf p&&azu s.Xf q
  ·rfl
  ·simp only[qe,wy,if_false,Tzc,qI,azlf];cases g:(uz2 l).2
   ·rfl
   ·have i:=Qz7 g;simp only[qm]at b;have d:(uzu ⟨s,p,q,l⟩).o=some (match scan (λj=>sw (notF s p q l j) ((j:Int),(2002:Int))) l.length 0 with|some r=>r|none=>(0,0)):=by
     show(lzj ⟨s,p,q,l⟩).run NN=_;simp only[lzj,qj];refine(dza (λj=>sw (notF s p q l j) ((j:Int),(2002:Int))) l.length qa (λj e=>?_) ?_).trans ?_
     ·have c:=azgg b.1 b.2 (i.2 j e);rw[az5 qa,az9 qa,wn qa,qF,<-czr];simp only[Uzc p q _ _ hp hq,qI];have a:(dzi p q (l.getD j qu).Xj (l.getD j qu).Xt).2=true:=by rw[c]
      rw[a];simp only[qJ,qd,Fzy s _ _ (Szi p q _ _ hp),qI,az3];rfl
     all_goals grind
    simp only[d,qI]
    grind[sw,ezh]
 simp_all
end
theorem az05 {s:az7}{p q:List Int}{l:List az6}(h:(hzu s p q l).2=0):bzq s=0/\azu s.Xf p=true/\azu s.Xf q=true/\l.length<=4096:=by
 grind[hzu,Qz7]
def inV (v:V3):Prop:=InR v.1/\InR v.2.1/\InR v.2.2
theorem az8g (a:az0):(Fzo a).o=some (midV a):=by
 show(Nz5 a).run NN=_;simp only[Nz5,qj,fz6,qI,midV];cases h:vV a
 ·rfl
 ·simp only[vV_iff]at h;rw[w64 qa qa,dz8 ⟨qa,qa⟩ jF];rfl
def cenF (l:List IV3)(i:Nat):V3:=(midV (l.getD i qu).1,midV (l.getD i qu).2.1,midV (l.getD i qu).2.2)
def cenV (l:List IV3):List V3:=if czo l then tab (cenF l) l.length else nl
theorem lz6 (l:List IV3):(dzp l).o=some (cenV l):=by
 show(sz6 l).run NN=_;simp only[sz6,qj,hzd,qI,cenV];cases h:czo l
 ·rfl
 ·have a:=ez2 h;refine(bzh (λj=>(tab (cenF l) j,(j:Int))) (tab (cenF l) l.length) l.length rfl (show l.length<4294967296 from qa) (λj b=>?_) ?_).trans rfl
  ·rw[az5 qa,az9 ⟨jG,qa⟩];simp only[az8g,qI];rw[az9 ⟨jG,qa⟩,az9 ⟨jG,qa⟩,az9 ⟨by simp[bz9];omega,by grind[bz9,azd]⟩,wn qa,ezc];rfl
  simp_all
theorem az5k {l:List IV3}(h:czo l=true):(cenV l).length=l.length:=by grind[cenV,bz9]
theorem Tzt {a:Int}(b:InR a): -16384<=a.tdiv 562949953421312/\a.tdiv 562949953421312<=16384:=by
 obtain⟨d,c⟩:=b
 grind
theorem Hz4 {v:V3}(h:inV v):∃n c,(jz4 v).o=some (n,c)/\inV n:=by
 have j:(jz4 v).o=(vzs v).run NN:=rfl;rw[j];simp only[vzs,qj];cases (v.1==0)&&((v.2.1==0)&&((v.2.2==0)&&true))
 ·have b:∀ (m k N:Nat),k+m=49->m<N->∃n c,andK (iter (λ(a:Int)=>(grd (a≠0) (grd (a≠0) (grd (a≠0) ((ezs ((qt.wrap (v.1.tdiv a)),(qt.wrap (v.2.1.tdiv a)),(qt.wrap (v.2.2.tdiv a))) 16384).o.bind λd=>
   bif d then some (.fin (((qt.wrap (v.1.tdiv a)),(qt.wrap (v.2.1.tdiv a)),(qt.wrap (v.2.2.tdiv a))),true))else some (.next (qt.wrap (a * 2)))))):Option (Step3 Int U0 (V3×Bool)))) N (2 ^ k)) (λ_=>none)=some (n,c)/\inV n:=by
   intro m;induction m with
   |zero=>
    intro k N p r;obtain⟨M,rfl⟩:∃M,N=M+1:=⟨N-1,qa⟩;obtain rfl:k=49:=qa
    have e:(2:Int) ^ 49=562949953421312:=jF
    have l:=Tzt h.1;have g:=Tzt h.2.1;have q:=Tzt h.2.2;simp only[iter,e]
    rw[az9 jF,az9 jF,az9 jF,w64 (x:=v.1.tdiv _) qa qa,w64 (x:=v.2.1.tdiv _) qa qa,w64 (x:=v.2.2.tdiv _) qa qa,fzf _ jF jF,qI,
     show izh (v.1.tdiv 562949953421312,v.2.1.tdiv 562949953421312,v.2.2.tdiv 562949953421312) 16384=true from nearV_iff.2 ⟨l,g,q⟩]
    exact⟨_,_,rfl,⟨qa,qa⟩,⟨jI,jI⟩,⟨jI,jI⟩⟩
   |succ m i=>
    intro k N p r;obtain⟨M,rfl⟩:∃M,N=M+1:=⟨N-1,qa⟩;have s:=cz4 k;have f:(2:Int) ^ k<=562949953421312:=by
     have:(2:Int) ^ k<=2 ^ 49:=by exact_mod_cast qW (by decide:0<2) (show k<=49 from qa)
     omega
    simp only[iter];rw[az9 qa,az9 qa,az9 qa,fzf _ jF jF,qI];cases izh (qt.wrap (v.1.tdiv (2 ^ k)),qt.wrap (v.2.1.tdiv (2 ^ k)),qt.wrap (v.2.2.tdiv (2 ^ k))) 16384
    ·rw[w64 (x:=2 ^ k * 2) qa qa,<-wm];exact i (k+1) M qa qa
    ·exact⟨_,_,rfl,InR.wr _,InR.wr _,InR.wr _⟩
  exact b 49 0 NN rfl jF
 simp_all
def farN (l:List V3)(i:Nat):Bool:= !izh (l.getD i qu) 268435456
def fewV (l:List V3):Bool:=qv (1<=l.length/\l.length<=8)&&bz0 (farN l) l.length
theorem azab {l:List V3}(h:fewV l=true):1<=l.length/\l.length<=8:=by
 grind[fewV]
theorem az4m (l:List V3):(Izo l).o=some (fewV l):=by
 show(Izp l).run NN=_;simp only[Izp,qj,bzb,az3,fzf _ (show(0:Int)<=268435456 by decide) jF,qI];refine(dza (λi=>sw (farN l i) false) (min l.length 9) qa (λj a=>?_) ?_).trans ?_
 ·have e:(bif qv ((j:Int)<(l.length:Int))then qv ((j:Int)<=8)else false)=true:=by grind
  rw[e,qe,az9 qa,wn qa,qF,<-czr];rfl
 ·grind
 ·rw[bzg];unfold fewV;by_cases h:1<=l.length/\l.length<=8
  ·rw[qg h,qG qa,qM];cases bz0 (farN l) l.length
   ·rfl
   ·show(bif qv ((l.length:Int)>=1)then _ else _)=_
    grind
  ·rw[qh h,wt];cases bz0 (farN l) (min l.length 9)
   ·rfl
   ·show(bif qv ((l.length:Int)>=1)then _ else _)=_
    grind
theorem qzk {σ τ R β:Type}{f:σ->Option (Step3 σ τ R)}{k:τ->Option R}{g:β->R}{P:β->Prop}{x:σ}(n:Nat)(l:n<4294967296)(I:Nat->σ->Prop)(Q:τ->Prop)(d:I 0 x)
 (t:∀j y,j<n->I j y->∃c,f y=some (.next c)/\I (j+1) c) (u:∀y,I n y->∃z,f y=some (.out z)/\Q z) (p:∀z,Q z->∃b,k z=some (g b)/\P b):∃b,andK (iter f NN x) k=some (g b)/\P b:=by
 have a:∀ (m j N:Nat) (y:σ),j+m=n->m<N->I j y->∃z,iter f N y=some (.inl z)/\Q z:=by
  intro m;induction m with
  |zero=>
   intro j N y i s r;obtain⟨M,rfl⟩:∃M,N=M+1:=⟨N-1,qa⟩
   grind[iter]
  |succ m v=>
   intro j N y i s r;obtain⟨M,rfl⟩:∃M,N=M+1:=⟨N-1,qa⟩
   grind[iter]
 obtain⟨z,q,h⟩:=a n 0 NN x qa l d;obtain⟨b,e,o⟩:=p z h;exact⟨b,by rw[q];exact e,o⟩
theorem Szt (l:List V3)(w:List Int)(h:w.length=l.length)(a:l.length<4294967296):∃v,(zzz l w).o=some v/\True:=by
 have d:(zzz l w).o=(Izn l w).run NN:=rfl;rw[d];simp only[Izn,qj];refine qzk (g:=λb=>b) l.length a (λj (y:Int×Int×Int×Int)=>y.2.2.2=(j:Int)) (λ(_:V3)=>True) rfl (λj y e c=>?_) (λy c=>?_) (λz _=>⟨_,rfl,trivial⟩)
 ·grind[az9,wn]
 simp_all
theorem Az0 (a b:V3):∃v,(qzq a b).o=some v/\inV v:=⟨_,rfl,InR.wr _,InR.wr _,InR.wr _⟩
theorem mzu (a b:V3):∃v,(jzu a b).o=some v:=⟨_,rfl⟩
theorem InR.max {a b:Int}(c:InR a)(d:InR b):InR (max a b):=by
 grind
theorem az1y {v:V3}(h:inV v)(r:Int):∃b,(Dzt v r).o=some b:=by
 have a:(Dzt v r).o=(Dzu v r).run NN:=rfl;rw[a];simp only[Dzu,qj,cza (h.1.max (InR.wr _)) (show(0:Int)<65536 by decide),cza (h.2.1.max (InR.wr _)) (show(0:Int)<65536 by decide),cza (h.2.2.max (InR.wr _)) (show(0:Int)<65536 by decide),qI]
 simp_all
theorem Dzr (n:V3)(l:List V3)(a:Int)(s:1<=l.length)(u:l.length<4294967296):∃i:Int,(lzb n l a).o=some i/\0<=i/\i<(l.length:Int):=by
 have d:(lzb n l a).o=(szb n l a).run NN:=rfl;rw[d];simp only[szb,qj];refine qzk (g:=λb=>b) (l.length-1) qa (λj (y:Int×Int)=>y.2=((j+1:Nat):Int)/\0<=y.1/\y.1<(l.length:Int)) (λ(z:Int)=>0<=z/\z<(l.length:Int)) ⟨rfl,jG,qa⟩ (λj y t c=>?_) (λy c=>?_) (λz k=>⟨_,rfl,k⟩)
 ·obtain⟨r,m,e⟩:=c;obtain⟨q,h⟩:=mzu n (l.getD y.2.toNat qu);obtain⟨p,f⟩:=mzu n (l.getD y.1.toNat qu);rw[h,f,qI,qI,r,az5 qa,az9 ⟨qa,qa⟩,az9 ⟨qa,qa⟩,wn qa];cases qv (qt.wrap (a * q)<qt.wrap (a * p))
  ·exact⟨_,rfl,rfl,m,e⟩
  ·exact⟨_,rfl,rfl,qa,qa⟩
 simp_all
theorem Kzk (w:List Int)(t i:Int)(a:w.length<4294967296)(f:0<=i)(e:i<(w.length:Int)):∃u,(qzp w t i).o=some u/\u.length=w.length:=by
 have d:(qzp w t i).o=(zzy w t i).run NN:=rfl;rw[d];simp only[zzy,qj];rw[az9 ⟨qa,by rw[azd];omega⟩];refine qzk (g:=λb=>b) w.length a (λj (y:List Int×Int×Int)=>y.2.2=(j:Int)/\y.1.length=w.length) (λ(z:List Int×Int)=>z.1.length=w.length) ⟨rfl,rfl⟩ (λj y k c=>?_) (λy c=>?_) (λz h=>?_)
 ·grind[az9,wn]
 ·simp_all
 grind[az9]
def SO (x:ezw):Prop:=inV x.XN/\x.Left.length<=8/\x.XK.length<=8
theorem az51 {f:Int×Int×Int×List Int×List Int×Int->Option (Step3 (Int×Int×Int×List Int×List Int×Int) U0 ezw)}{k:U0->Option ezw}{y:Int×Int×Int×List Int×List Int×Int}(I:Int×Int×Int×List Int×List Int×Int->Prop)
 (l:∀y,I y->(∃a,f y=some (.next a)/\I a/\a.2.2.2.2.2=y.2.2.2.2.2+1)\/∃r,f y=some (.fin r)/\SO r) (j:∀y,I y->y.2.2.2.2.2<=65) (m:Nat) (e:I y) (d:y.2.2.2.2.2+m>=66) (c:m<NN):∃r,andK (iter f NN y) k=some r/\SO r:=by
 have b:∀ (m N:Nat) y,I y->y.2.2.2.2.2+m>=66->m<N->∃r,iter f N y=some (.inr r)/\SO r:=by
  intro m;induction m with
  |zero=>grind
  |succ m i=>
   intro N y e d c;obtain⟨M,rfl⟩:∃M,N=M+1:=⟨N-1,qa⟩
   grind[iter]
 obtain⟨r,h,g⟩:=b m NN y e d c;exact⟨r,by rw[h];rfl,g⟩
theorem Hz8 (a b:List V3)(d c:Int):∃x,(fzw a b d c).o=some x/\SO x:=by
 have f:inV ((0,0,0):V3):=⟨⟨jF,jF⟩,⟨jF,jF⟩,⟨jF,jF⟩⟩;have S:(fzw a b d c).o=(wz0 a b d c).run NN:=rfl;rw[S];simp only[wz0,qj,az4m,qI,bzb,az3];cases H:fewV a
 ·exact⟨_,rfl,f,by simp[nl],by simp[nl]⟩
 ·cases J:fewV b
  ·exact⟨_,rfl,f,by simp[nl],by simp[nl]⟩
  ·have I:=azab H;have K:=azab J;simp only[qJ,qd,ezy];cases hc:qv (d<0)||(qv (d>2097152)||(qv (c<0)||qv (c>64)))
   ·simp only[qp,qi]at hc;simp only[qd,qF,we];rw[az9 ⟨qa,qa,qa,qa⟩,az9 ⟨qa,qa,qa,qa⟩,az9 ⟨qa,qa⟩,az9 ⟨qa,qa⟩,az9 ⟨qa,qa⟩,az9 ⟨qa,qa⟩];refine az51 (λy=>inV (y.1,y.2.1,y.2.2.1)/\y.2.2.2.1.length=a.length/\y.2.2.2.2.1.length=b.length/\0<=y.2.2.2.2.2/\y.2.2.2.2.2<=c) (λy C=>?_) (λy C=>qa) 66 ⟨f,jG,jG,jG,jH⟩ jG jF;obtain⟨V,R,Q,i4,i5⟩:=C;obtain⟨s1,k,-⟩:=Szt a y.2.2.2.1 R qa;obtain⟨L,A,-⟩:=Szt b y.2.2.2.2.1 Q qa;obtain⟨w,O,F⟩:=Az0 s1 L;obtain⟨X,en⟩:=az1y F d;rw[k,qI,A,qI,O,qI,en,qI];cases X
    ·obtain⟨n,ok,eN,e⟩:=Hz4 (v:=(qt.wrap (w.1.tdiv 65536),qt.wrap (w.2.1.tdiv 65536),qt.wrap (w.2.2.tdiv 65536))) ⟨InR.wr _,InR.wr _,InR.wr _⟩;rw[eN,qI];cases ok
     ·right;exact⟨_,rfl,e,jL,jL⟩
     ·obtain⟨i,M,g,E⟩:=Dzr n a 1 I.1 qa;obtain⟨j,Z,m,D⟩:=Dzr n b (-1) K.1 qa;obtain⟨U,h⟩:=mzu n (a.getD i.toNat qu);obtain⟨d2,s⟩:=mzu n (b.getD j.toNat qu);obtain⟨G,W,hm⟩:=Az0 (a.getD i.toNat qu) (b.getD j.toNat qu);obtain⟨z,eE,he⟩:=Az0 (qt.wrap (w.1.tdiv 65536),qt.wrap (w.2.1.tdiv 65536),qt.wrap (w.2.2.tdiv 65536)) G;obtain⟨u,eu⟩:=mzu (qt.wrap (w.1.tdiv 65536),qt.wrap (w.2.1.tdiv 65536),qt.wrap (w.2.2.tdiv 65536)) z;obtain⟨v,P⟩:=mzu z z;obtain⟨p,B⟩:∃p,(uzl n).o=some p:=⟨_,Ozi n⟩;rw[M,qI,Z,qI,az9 ⟨g,E⟩,h,qI,az9 ⟨m,D⟩,s,qI,B,qI];cases qv (qt.wrap (U-d2)>qt.wrap (p * d))
      ·rw[az9 ⟨g,E⟩,az9 ⟨m,D⟩,W,qI,eE,qI,eu,qI,P,qI];cases hs:qv (y.2.2.2.2.2>=c)||qv (u<=0)
       ·simp only[qp,qi]at hs;have l:max 1 (qt.wrap (v.tdiv 256))≠0:=qa
        rw[az9 l];generalize min 256 (qt.wrap (u.tdiv (max 1 (qt.wrap (v.tdiv 256)))))=t;cases t==0
        ·obtain⟨m1,q,Y⟩:=Kzk y.2.2.2.1 t i qa g qa;obtain⟨m2,r,N⟩:=Kzk y.2.2.2.2.1 t j qa m qa;left;rw[q,qI,r,qI,w64 (x:=y.2.2.2.2.2+1) qa qa];exact⟨_,rfl,⟨e,jL,jL,jL,jL⟩,rfl⟩
        ·right;exact⟨_,rfl,e,jL,jL⟩
       ·right;exact⟨_,rfl,e,jL,jL⟩
      ·right;exact⟨_,rfl,e,jL,jL⟩
    ·right;exact⟨_,rfl,V,jL,jL⟩
   ·exact⟨_,rfl,f,by simp[nl],by simp[nl]⟩
def firB (l:List V3)(a:List IV3)(ra:Int)(b:List IV3)(rb:Int)(i:Nat):Bool:=sepV (l.getD i qu) a ra b rb
theorem Yzp (l:List V3)(a:List IV3)(ra:Int)(b:List IV3)(rb:Int)(hl:l.length<4294967296):(Kzj l a ra b rb).o=some ((scan (λi=>sw (firB l a ra b rb i) ((i:Int),true)) l.length 0).getD (0,false)):=by
 show(zzx l a ra b rb).run NN=_;simp only[zzx,qj,xzt,qI];refine(dza (λi=>sw (firB l a ra b rb i) ((i:Int),true)) l.length hl (λj hj=>?_) ?_).trans ?_
 ·rw[az5 qa,az9 qa,wn qa,qF,<-czr];rfl
 ·rw[az8 qa]
 ·cases scan (λi=>sw (firB l a ra b rb i) ((i:Int),true)) l.length 0<;>rfl
theorem Ozj (a:Int):(iz2 a).o=some (max a (qt.wrap (0-a))):=rfl
theorem lz2 {σ τ R:Type}{f:σ->Option (Step3 σ τ R)}{k:τ->Option R}{P:R->Prop}{x:σ}(I:Nat->σ->Prop)(Q:τ->Prop)(m:Nat)(h0:I m x)(hN:m<4294967296)
 (hr:∀m x,I m x->(∃x' m',f x=some (.next x')/\m'<m/\I m' x')\/(∃y,f x=some (.out y)/\Q y)\/∃r,f x=some (.fin r)/\P r) (hk:∀y,Q y->∃r,k y=some r/\P r):∃r,andK (iter f NN x) k=some r/\P r:=by
 have go:∀ (N m:Nat) (x:σ),I m x->m<N->(∃y,iter f N x=some (.inl y)/\Q y)\/∃r,iter f N x=some (.inr r)/\P r:=by
  intro N;induction N with
  |zero=>intro m x _ h;omega
  |succ N ih=>
   intro m x hi h;rcases hr m x hi with⟨x',m',h1,h2,h3⟩|⟨y,h1,h2⟩|⟨r,h1,h2⟩
   ·simp only[iter,h1];exact ih m' x' h3 qa
   ·exact .inl ⟨y,by simp[iter,h1],h2⟩
   ·exact .inr ⟨r,by simp[iter,h1],h2⟩
 rcases go NN m x h0 hN with⟨y,e1,e2⟩|⟨r,e1,e2⟩
 ·rw[gzv e1];exact hk y e2
 ·rw[yzf e1];exact⟨r,rfl,e2⟩
theorem oz7 {x k:Int}(c:0<k)(a:k<=4611686018427387904):(gzq x k).o=some (x % k):=by
 show(Dzb x k).run NN=_;have b:=qw x k
 grind[wz,wA,Dzb,qj,az9,az3,w64,Fzh]
section
variable {l:List Int} (hl:l.length<4294967296) {n:Int} (h0:0<=n) (h1:n<=(l.length:Int))
include hl h0 h1
theorem bzw {k:Int}(c:0<k)(a:k<=4611686018427387904):∃r b,(bzi l n k).o=some (r,l,b)/\0<=r/\r<k/\0<=b/\b<=(l.length:Int):=by
 have d:(bzi l n k).o=(yze l n k).run NN:=rfl;rw[d];simp only[yze,qj];by_cases h:n>=(l.length:Int)
 ·grind
 ·rw[az8 h,w64 (x:=n+1) qa qa,w64 qa qa,az9 ⟨qa,qa⟩,oz7 c a,qI];exact⟨_,_,rfl,wz _ qa,wA _ c,qa,qa⟩
theorem Qzp {k:Int}(j:0<=k)(c:k<=1000000):∃r a,(rzf l n k).o=some (r,l,a)/\ -k<=r/\r<=k/\0<=a/\a<=(l.length:Int):=by
 have b:(rzf l n k).o=(rzg l n k).run NN:=rfl;rw[b];simp only[rzg,qj];obtain⟨r,a,d,m,g,i,f⟩:=bzw hl h0 h1 (k:=2 * k+1) qa qa
 grind[w64]
def JB (j:azs):Prop:= -1048576<=j.Lo/\j.Lo<=j.Hi/\j.Hi<=1048576
end
open Go.Proofs
theorem Xzq {α:Type}[Inhabited α]{a b:List α}(hl:a.length=b.length)(h:∀i,i<a.length->a.getD i qu=b.getD i qu):a=b:=by
 refine List.ext_getElem hl (λi h1 h2=>?_);have:=h i h1;simpa only[qZ,wB h1,wB h2,wC]using this
open Go.Proofs
open Go.Proofs
def eqW (a b:List Int):Bool:=qv (a=b)
theorem Wzi (a b:List Int)(h:a.length<4294967296):(jzv a b).o=some (eqW a b):=by
 show(jzw a b).run NN=_;simp only[jzw,qj];unfold eqW;by_cases e:a.length=b.length
 ·rw[bz5 qa];refine(dza (λj=>sw (a.getD j qu !=b.getD j qu) false) a.length h (λj k=>?_) ?_).trans ?_
  ·rw[az5 qa,az9 qa,az9 qa,wn qa,qF,<-czr]
  ·simp_all
  ·rw[bzg];by_cases d:bz0 (λj=>a.getD j qu !=b.getD j qu) a.length=true
   ·rw[d];have:a=b:=Xzq e λi g=>by
     have:=of_decide_eq_true d i g
     simp_all
    rw[qg this];rfl
   ·have f:bz0 (λj=>a.getD j qu !=b.getD j qu) a.length=false:=by simp_all
    rw[f];have:a≠b:=λh=>d (by subst h;exact qg (λi _=>jG))
    rw[qh this];rfl
 ·rw[czc qa,qh (λh=>e (by rw[h]))]
def memB (l:List (List Int))(c:List Int):Bool:=qv (c∈l)
theorem azc9 (l:List (List Int))(c:List Int)(a:l.length<4294967296)(b:∀x∈l,x.length<4294967296):∃z,(szj l c).o=some z/\qv (z>=0)=memB l c:=by
 refine⟨match scan (λi=>sw (eqW (l.getD i qu) c) (i:Int)) l.length 0 with|some x=>x|none=> -1,?_,?_⟩
 ·show(szk l c).run NN=_;simp only[szk,qj];refine(dza (λi=>sw (eqW (l.getD i qu) c) (i:Int)) l.length a (λj d=>?_) ?_).trans ?_;all_goals grind[az9,wn,Wzi,sw]
 ·refine(Ezx (g:=λi=>eqW (l.getD i qu) c) (n:=l.length)).trans ?_
  grind[memB,bz0,eqW,wh]
def disL (r:azk)(a:List (List Int)):Nat->List (List Int)
 |0=>[]
 |j+1=>if azu r (a.getD j qu)=true/\¬a.getD j qu∈disL r a j then disL r a j++[a.getD j qu]else disL r a j
theorem Qz8 (r:azk)(a:List (List Int)):∀j,(disL r a j).length<=j
 |0=>qk _
 |j+1=>by
  have:=Qz8 r a j;unfold disL;split
  ·simp;omega
  ·omega
theorem Rza (r:azk)(a:List (List Int)):∀j x,x∈disL r a j->azu r x=true
 |0,_,h=>by cases h
 |j+1,x,h=>by
  unfold disL at h;split at h
  ·rename_i b;rcases wu.1 h with h|h
   ·exact Rza r a j x h
   ·simp at h;subst h;exact b.1
  ·exact Rza r a j x h
theorem kz5 {r:azk}{c:List Int}(h:azu r c=true):c.length=r.Xc.length/\c.length<=10:=by
 grind[azu,ezg]
theorem max_comm' (a b:Int):max a b=max b a:=qa
def badD (r:azk)(p q:List Int):Bool:= !(qv (p.length=r.Xc.length)&&(qv (q.length=r.Xc.length)&&(hza p&&(hza q&&qv (dz4 r=0)))))
def azor (r:azk)(p q:List Int)(a:Int)(j:Nat):Int:=qt.wrap (a+qt.wrap ((r.Xc.getD j qu).XQ * max (qt.wrap (q.getD j qu-p.getD j qu)) (qt.wrap (p.getD j qu-q.getD j qu))))
def sumD (r:azk)(p q:List Int):Nat->Int
 |0=>0
 |n+1=>azor r p q (sumD r p q n) n
def dstV (r:azk)(p q:List Int):Int:=bif badD r p q then 0 else sumD r p q r.Xc.length
theorem Yzx (r:azk)(p q:List Int)(b:p.length<4294967296)(c:q.length<4294967296):(hz3 r p q).o=some (dstV r p q):=by
 show(pza r p q).run NN=_;have i:(⟨r.Xc,r.Xv⟩:azk)=r:=rfl;simp only[pza,qj,lz9 p b,lz9 q c,dz2,qI];unfold dstV badD;by_cases a:dz4 r=0
 ·rw[bz5 a,qg a];cases hza p with
  |false=>grind[az3]
  |true=>
   cases hza q with
   |false=>grind[az3]
   |true=>
    simp only[qJ,qd];by_cases k:p.length=r.Xc.length
    ·rw[bz5 qa];by_cases h:q.length=r.Xc.length
     ·have f:(((q.length:Nat):Int) !=((p.length:Nat):Int))=false:=by simp_all
      rw[f,az3,qg k,qg h];refine(bzh (λj=>(sumD r p q j,(j:Int))) (sumD r p q r.Xc.length) r.Xc.length rfl (by show _<4294967296;omega) (λj l=>?_) ?_).trans rfl
      ·have e:0<=(j:Int)/\(j:Int)<(r.Xc.length:Int):=qa
       have d:0<=(j:Int)/\(j:Int)<(p.length:Int):=qa
       have g:0<=(j:Int)/\(j:Int)<(q.length:Int):=qa
       rw[az5 qa];simp only[az9 e,az9 d,az9 g,wn (show j<4294967296 from qa),qF];rw[max_comm'];rfl
      simp_all
     grind[az3]
    grind[az3]
 grind[az3]
open Go.Proofs
def ltE (a b:az1):Bool:=qv (a.U<b.U\/(a.U=b.U/\a.V<b.V))
theorem wprd {n:Nat}(h1:1<=n)(h:n<4294967296):qt.wrap ((n:Int)-1)=((n-1:Nat):Int):=by rw[w64 qa qa];omega
open Go.Proofs
open Go.Proofs
def RoB (r:azk):Prop:=1<=r.Xc.length/\r.Xc.length<=3/\∀j∈r.Xc,JB j
open Go.Proofs
def LtD (d:Nat->Int)(i j:Nat):Prop:=d i<d j\/(d i=d j/\i<j)
abbrev xzg (l:List Nat):List Int:=l.map λ(i:Nat)=>(i:Int)
theorem az9j {l:List Nat}{i:Nat}(h:i<l.length):(xzg l).getD i qu=((l.getD i qu:Nat):Int):=by
 simp_all
def ixs (a:Int)(n:Nat):List Nat:=(qT n).filter λ(i:Nat)=> !((i:Int)==a)
theorem az6a (a:Int)(n:Nat):ixs a (n+1)=if((n:Int)==a)=true then ixs a n else ixs a n++[n]:=by
 grind[ixs,qU]
theorem azmr {a:Int}{n i:Nat}(h:i∈ixs a n):i<n:=by
 grind[ixs]
def dQ (r:azk)(a:List (List Int))(q:List Int)(i:Nat):Int:=dstV r (a.getD i qu) q
def OrdQ (d:Nat->Int)(a:Int)(n:Nat)(ns:List Nat):Prop:=ns.Perm (ixs a n)/\ns.Pairwise (LtD d)
theorem aze8 (r:azk)(d:List (List Int))(q:List Int)(m:Int)(hp:d.length<=1000)(hn:∀c∈d,c.length<4294967296)(hq:q.length<4294967296):
 ∃l,(uzr r d q m).o=some l/\∃ns,l=xzg ns/\OrdQ (dQ r d q) m d.length ns:=by
 show ∃l,(lze r d q m).run NN=some l/\_;simp only[lze,qj];have G:∀ {j:Nat} {ns:List Nat},OrdQ (dQ r d q) m j ns->ns.length<=j/\∀i∈ns,i<j:=λh=>by
  have C:=h.1.length_eq;refine⟨?_,λi hi=>azmr (h.1.mem_iff.1 hi)⟩
  grind[ixs]
 refine lz2 (P:=λl:List Int=>∃ns,l=xzg ns/\OrdQ (dQ r d q) m d.length ns)
  (λk (y:List Int×Int)=>∃j:Nat,y.2=(j:Int)/\j+k=d.length/\∃ns,y.1=xzg ns/\OrdQ (dQ r d q) m j ns)
  (λl:List Int=>∃ns,l=xzg ns/\OrdQ (dQ r d q) m d.length ns) d.length ⟨0,rfl,qa,[],rfl,List.Perm.nil,List.Pairwise.nil⟩ qa ?_ (λz g=>⟨_,rfl,g⟩)
 rintro k ⟨l,y⟩ ⟨j,hj,hjk,ns,E,v⟩;simp only at hj E⊢;subst hj;subst E;cases k with
 |zero=>
  grind
 |succ k=>
  obtain⟨hl1,w⟩:=G v;rw[az5 qa,wn qa];by_cases c:(j:Int)=m
  ·rw[gza c,az3];refine .inl ⟨_,k,rfl,wD k,j+1,rfl,qa,ns,rfl,?_,v.2⟩;rw[az6a,qc jH];exact v.1
  ·have l1:=hn _ (azx (show j<d.length from qa));have D:(xzg ns).length=ns.length:=by simp
   rw[gz1 c,az9 (by simp only[qy,qA,azd,D];omega),az9 qa,az9 qa,qF,Yzx r _ _ l1 hq];simp only[qI];generalize hA:andK _ _=A;obtain⟨s,e,B,rfl,C⟩:∃s,A=some s/\(∃B:List Int,s=Step3.out B/\∃ns,B=xzg ns/\OrdQ (dQ r d q) m (j+1) ns):=by
    rw[<-hA]
    refine lz2 (λk' (y:List Int×Int)=>∃a b,y.2=((a.length:Nat):Int)/\a.length<=k'/\ns=a++b/\y.1=xzg a++(j:Int)::xzg b/\∀x∈b,dQ r d q j<dQ r d q x)
     (λB:List Int=>∃ns,B=xzg ns/\OrdQ (dQ r d q) m (j+1) ns) ns.length ⟨ns,[],by simp only[D],qk _,jG,rfl,λx n=>by cases n⟩ qa ?_ (λz g=>⟨_,rfl,z,rfl,g⟩)
    rintro k' ⟨l2,y2⟩ ⟨a,b,hi,hik,f,u,hb⟩;simp only at hi u⊢;subst hi;subst u;have hab':ns.length=a.length+b.length:=by rw[f,wE]
    have hll:(xzg a++(j:Int)::xzg b).length=a.length+1+b.length:=jK
    have t:(∀x∈a,dQ r d q x<=dQ r d q j)->∃ns',xzg a++(j:Int)::xzg b=xzg ns'/\OrdQ (dQ r d q) m (j+1) ns':=λha=>by
     refine⟨a++j::b,jG,?_,?_⟩
     ·rw[az6a,qb (by simpa using c)];have C:=v.1;rw[f]at C;exact List.perm_middle.trans ((List.Perm.cons j C).trans (List.perm_append_singleton j _).symm)
     ·have F:=v.2;rw[f]at F;obtain⟨p1,p2,p3⟩:=wF.1 F;refine wF.2 ⟨p1,wG.2 ⟨λx n=>.inl (hb x n),p2⟩,λx n y hy=>?_⟩;rcases wg.1 hy with rfl|hy
      ·have:=ha x n;have:=w x (by rw[f];exact List.mem_append_left _ n);unfold LtD;omega
      ·exact p3 x n y hy
    by_cases h0:a=[]
    ·subst h0;exact .inr (.inl ⟨_,rfl,t λx n=>by cases n⟩)
    ·obtain⟨p,x,rfl⟩:∃p x,a=p++[x]:=⟨a.dropLast,a.getLast h0,(List.dropLast_concat_getLast h0).symm⟩;have hal:(p++[x]).length=p.length+1:=by simp
     have n:=w x (by rw[f];simp);have l2':=hn _ (azx (show x<d.length from qa));have hg:(xzg (p++[x])++(j:Int)::xzg b).getD p.length qu=(x:Int):=by
      simp[qZ]
     have hg2:(xzg (p++[x])++(j:Int)::xzg b).getD (p.length+1) qu=(j:Int):=by
      simp[qZ]
     rw[hal]at hll⊢;rw[az5 qa,wprd qa qa,Nat.add_sub_cancel,az9 qa,qF,az9 qa,hg,az9 qa,qF,az9 qa,Yzx r _ _ l2' hq];simp only[qI,az3];by_cases hd:dstV r (d.getD j qu) q<dstV r (d.getD x qu) q
     ·rw[az5 hd,az9 qa,az9 qa,az9 qa,qF,az9 qa,az9 qa,az9 qa,az9 (by rw[wc];omega),az9 (by rw[wc];omega),hg2];refine .inl ⟨_,p.length,rfl,qa,p,x::b,rfl,qk _,by rw[f];simp,?_,λz g=>?_⟩
      ·simp
      ·rcases wg.1 g with rfl|g
       ·exact hd
       ·exact hb z g
     ·rw[az8 hd];refine .inr (.inl ⟨_,rfl,t λz g=>?_⟩);rcases wu.1 g with g|g
      ·have F:=v.2;rw[f,wI]at F;have:=(wF.1 F).2.2 z g x jG;unfold LtD at this;unfold dQ at *
       omega
      ·simp at g;subst g;unfold dQ;omega
   rw[e,az3];exact .inl ⟨_,k,rfl,wD k,j+1,rfl,qa,C⟩
def newE (r:azk)(a:List (List Int))(u v:Int):az1:=⟨u,v,dstV r (a.getD u.toNat qu) (a.getD v.toNat qu),0,⟨0,nl,⟨0,0,nl⟩,⟨0,nl,nl⟩⟩⟩
def hitE (u v:Int)(e:az1):Bool:=bif qv (e.U>u)then true else bif e.U==u then qv (e.V>=v)else false
def othE (u v:Int)(e:az1):Bool:=bif e.U !=u then true else e.V !=v
def insF (n:az1):List az1->List az1
 |[]=>[n]
 |e::t=>bif hitE n.U n.V e then(bif othE n.U n.V e then n::e::t else e::t)else e::insF n t
theorem Xzx (n:az1):∀l,(insF n l).length<=l.length+1
 |[]=>qk _
 |e::t=>by
  have:=Xzx n t;unfold insF;cases hitE n.U n.V e<;>cases othE n.U n.V e<;>simp<;>omega
theorem azfj (r:azk)(a:List (List Int))(d:List az1)(u v:Int)(s:∀c∈a,c.length<4294967296)(he:d.length<=1000000)(hu:0<=u/\u<(a.length:Int))(hv:0<=v/\v<(a.length:Int)):
 (Hzd r a d u v).o=some (insF (newE r a (min u v) (max u v)) d):=by
 have F:=s _ (azx (show(min u v).toNat<a.length from qa));have E:=s _ (azx (show(max u v).toNat<a.length from qa));obtain⟨N,p⟩:∃N,N=newE r a (min u v) (max u v):=⟨_,rfl⟩;have n:(⟨min u v,max u v,dstV r (a.getD (min u v).toNat qu) (a.getD (max u v).toNat qu),0,⟨0,nl,⟨0,0,nl⟩,⟨0,nl,nl⟩⟩⟩:az1)=N:=p.symm;have t:N.U=min u v:=jI
 have z:N.V=max u v:=jI
 have B:=Xzx N d;have f:∃x,(wzj r a d u v).run NN=some x/\x=insF N d:=by
  simp only[wzj,qj,Yzx r _ _ F E,qI,bzb,az3,n]
  refine lz2 (λk (y:List az1×Bool×Int)=>∃j:Nat,y.2.2=(j:Int)/\j+k=d.length/\y.1++(if y.2.1=true then d.drop j else insF N (d.drop j))=insF N d)
   (λy:List az1×Bool=>y.1++(if y.2=true then []else [N])=insF N d) d.length ⟨0,rfl,qa,by rfl⟩ qa ?_ ?_
  ·rintro k ⟨l,i,y⟩ ⟨j,w,D,b⟩;simp only at w b⊢;subst w;have m:l.length<=1000001:=by
    grind
   cases k with
   |zero=>
    obtain rfl:j=d.length:=qa
    refine .inr (.inl ⟨_,by rw[az8 qa],?_⟩);rw[List.drop_length]at b;exact b
   |succ k=>
    have C:d.drop j=d.getD j qu::d.drop (j+1):=by
     rw[List.drop_eq_getElem_cons qa,qZ,wB qa,wC]
    rw[C]at b;rw[az5 qa,az9 qa,az9 qa,qF,wn qa];generalize d.getD j qu=e at b⊢;have A:(bif qv (e.U>min u v)then true else bif e.U==min u v then qv (e.V>=max u v)else false)=hitE N.U N.V e:=by rw[t,z];rfl
    have ho:(bif e.U !=min u v then true else e.V !=max u v)=othE N.U N.V e:=by rw[t,z];rfl
    simp only[A,ho];cases i with
    |true=>
     simp only[qJ,qd,az3];rw[az9 (by simp only[qy,qA,azd];omega)];refine .inl ⟨_,k,rfl,wD k,j+1,rfl,qa,?_⟩;simp only[if_true,wI]at b⊢;exact b
    |false=>
     simp only[wJ,qe];simp only[insF]at b;cases h:hitE N.U N.V e with
     |false=>
      rw[h]at b;simp only[qd,az3];rw[az9 (by simp only[qy,qA,azd];omega)];refine .inl ⟨_,k,rfl,wD k,j+1,rfl,qa,?_⟩;simpa using b
     |true=>
      rw[h]at b;simp only[qe];cases g:othE N.U N.V e with
      |false=>
       rw[g]at b;simp only[qd,az3];rw[az9 (by simp only[qy,qA,azd];omega)];refine .inl ⟨_,k,rfl,wD k,j+1,rfl,qa,?_⟩;simpa using b
      |true=>
       rw[g]at b;simp only[qe]
       rw[az9 qa,az9 qa,az9 qa,az9 qa,az9 (by simp only[qy,qA,azd];omega),az3,
        az9 (by simp only[wE,qy,qA,azd];omega)]
       refine .inl ⟨_,k,rfl,wD k,j+1,rfl,qa,?_⟩;simpa using b
  ·rintro⟨l,i⟩ b;simp only at b⊢;have m:l.length<=1000001:=by
    have:=congrArg List.length b;rw[wE]at this;omega
   cases i with
   |true=>
    exact⟨_,rfl,by simpa using b⟩
   |false=>
    simp only[wJ,qe];rw[az9 qa,az9 qa,az9 qa,az9 qa,az9 (by simp only[qy,qA,azd];omega),az3];exact⟨_,rfl,by simpa using b⟩
 obtain⟨x,h,g⟩:=f;rw[<-p,<-g];exact h
open Go.Proofs
theorem Rzz {a b:az1}:ltE a b=true↔a.U<b.U\/(a.U=b.U/\a.V<b.V):=by grind[ltE]
theorem hitE_iff {n e:az1}:hitE n.U n.V e=true↔¬ltE e n=true:=by
 grind[Rzz,hitE]
theorem othE_iff {n e:az1}:othE n.U n.V e=true↔¬ (e.U=n.U/\e.V=n.V):=by
 grind[othE]
abbrev SoE (l:List az1):Prop:=l.Pairwise λa b=>ltE a b=true
theorem Xzy (n:az1):∀l,SoE l->∀e,e∈insF n l↔e∈l\/(e=n/\∀x∈l,¬ (x.U=n.U/\x.V=n.V))
 |[],_,e=>by simp[insF]
 |x::t,m,e=>by
  obtain⟨k,j⟩:=wG.1 m;have o:=Xzy n t j e;unfold insF;cases d:hitE n.U n.V x with
  |false=>
   have g:ltE x n=true:=by
    refine wK λh=>?_
    rw[hitE_iff.2 h]at d;cases d
   simp only[qd,wg,o];rw[Rzz]at g;constructor
   ·rintro(h|h|⟨h,c⟩)
    ·exact .inl (.inl h)
    ·exact .inl (.inr h)
    ·refine .inr ⟨h,λy a=>?_⟩;rcases a with rfl|a
     ·omega
     ·exact c y a
   ·rintro((h|h)|⟨h,c⟩)
    ·exact .inl h
    ·exact .inr (.inl h)
    ·exact .inr (.inr ⟨h,λy a=>c y (.inr a)⟩)
  |true=>
   have g:=hitE_iff.1 d;cases f:othE n.U n.V x with
   |false=>
    have b:x.U=n.U/\x.V=n.V:=by
     refine wK λh=>?_
     rw[othE_iff.2 h]at f;cases f
    refine⟨λh=>.inl h,λh=>?_⟩;rcases h with h|⟨h,c⟩
    ·exact h
    ·exact absurd b (c x (List.mem_cons_self ..))
   |true=>
    have b:=othE_iff.1 f;simp only[qe,wg];constructor
    ·rintro(h|h|h)
     ·refine .inr ⟨h,λy a=>?_⟩;rcases a with rfl|a
      ·exact b
      ·have:=k y a;rw[Rzz]at this g;omega
     ·exact .inl (.inl h)
     ·exact .inl (.inr h)
    ·rintro((h|h)|⟨h,-⟩)
     ·exact .inr (.inl h)
     ·exact .inr (.inr h)
     ·exact .inl h
theorem azas (n:az1):∀l,SoE l->SoE (insF n l)
 |[],_=>List.pairwise_singleton ..
 |x::t,d=>by
  obtain⟨g,i⟩:=wG.1 d;have j:=azas n t i;have k:=Xzy n t i;unfold insF;cases e:hitE n.U n.V x with
  |false=>
   have c:ltE x n=true:=by
    refine wK λh=>?_
    rw[hitE_iff.2 h]at e;cases e
   refine wG.2 ⟨λy a=>?_,j⟩;rcases(k y).1 a with a|⟨rfl,-⟩
   ·exact g y a
   ·exact c
  |true=>
   have c:=hitE_iff.1 e;cases o:othE n.U n.V x with
   |false=>exact d
   |true=>
    have m:=othE_iff.1 o;have b:ltE n x=true:=by rw[Rzz]at c⊢;omega
    refine wG.2 ⟨λy a=>?_,d⟩;rcases wg.1 a with rfl|a
    ·exact b
    ·have:=g y a;rw[Rzz]at this b⊢;omega
def MapE (r:azk)(P:List (List Int))(S:Nat->Nat->Prop)(c:List az1):Prop:=SoE c/\∀e,e∈c↔∃a b:Nat,a<b/\b<P.length/\S a b/\e=newE r P a b
theorem MapE.congr {r:azk}{P:List (List Int)}{S i:Nat->Nat->Prop}{j:List az1}(h:MapE r P S j)(k:∀a b,a<b->b<P.length->(S a b↔i a b)):MapE r P i j:=
 ⟨h.1,λe=>(h.2 e).trans ⟨λ⟨a,b,c,d,g,f⟩=>⟨a,b,c,d,(k a b c d).1 g,f⟩,λ⟨a,b,c,d,g,f⟩=>⟨a,b,c,d,(k a b c d).2 g,f⟩⟩⟩
theorem MapE.nil (r:azk)(P:List (List Int)):MapE r P (λ_ _=>False) []:=⟨List.Pairwise.nil,λe=>⟨λh=>(by cases h),λ⟨_,_,_,_,h,_⟩=>h.elim⟩⟩
theorem MapE.ins {r:azk}{P:List (List Int)}{S:Nat->Nat->Prop}{i:List az1}(h:MapE r P S i){x y:Nat}(q:x<y)(p:y<P.length):MapE r P (λa b=>S a b\/(a=x/\b=y)) (insF (newE r P x y) i):=by
 refine⟨azas _ _ h.1,λe=>(Xzy _ _ h.1 e).trans ⟨?_,?_⟩⟩
 ·rintro(l|⟨rfl,-⟩)
  ·obtain⟨a,b,f,d,g,c⟩:=(h.2 e).1 l
   grind
  grind
 ·rintro⟨a,b,f,d,g|⟨rfl,rfl⟩,c⟩
  ·exact .inl ((h.2 e).2 ⟨a,b,f,d,g,c⟩)
  ·by_cases j:S a b
   ·exact .inl ((h.2 e).2 ⟨a,b,f,d,j,c⟩)
   ·refine .inr ⟨c,λz k n=>?_⟩;obtain⟨u,o,m,s,t,rfl⟩:=(h.2 z).1 k
    grind[newE]
def cntD (d:Nat->Int)(a:Int)(n v:Nat):Nat:=((ixs a n).filter λw=>qv (d w<d v\/(d w=d v/\w<v))).length
theorem mem_ixs {a:Int}{n v:Nat}:v∈ixs a n↔v<n/\(v:Int)≠a:=by unfold ixs;simp
theorem Szb {d:Nat->Int}{c:Int}{n:Nat}{ns:List Nat}(h:OrdQ d c n ns){v:Nat}(e:v∈ns):∃a b,ns=a++v::b/\a.length=cntD d c n v/\¬v∈a:=by
 obtain⟨a,b,rfl⟩:=List.append_of_mem e;obtain⟨i,f⟩:=h;obtain⟨k,g,j⟩:=wF.1 f;have l:=(wG.1 g).1;refine⟨a,b,rfl,?_,λm=>?_⟩
 ·unfold cntD;rw[<-(i.filter _).length_eq,List.filter_append,List.filter_cons]
  grind[List.filter_eq_self,List.filter_eq_nil_iff,LtD]
 grind[LtD]
theorem az18 {d:Nat->Int}{e:Int}{n:Nat}{ns:List Nat}(h:OrdQ d e n ns){v i:Nat}:v∈ns.take i↔v∈ixs e n/\cntD d e n v<i:=by
 constructor
 ·intro f;have c:=List.mem_of_mem_take f;refine⟨h.1.mem_iff.1 c,?_⟩
  grind[Szb]
 ·rintro⟨g,k⟩;obtain⟨a,b,rfl,j,l⟩:=Szb h (h.1.mem_iff.2 g);rw[List.take_append];obtain⟨m,o⟩:∃m,i-a.length=m+1:=⟨i-a.length-1,qa⟩
  simp_all
theorem azm4 {d:Nat->Int}{c:Int}{n:Nat}{ns:List Nat}(h:OrdQ d c n ns){v:Nat}(e:v∈ixs c n):cntD d c n v<ns.length:=by
 obtain⟨a,b,rfl,f,g⟩:=Szb h (h.1.mem_iff.2 e)
 simp_all
def Jzc (r:azk)(P:List (List Int))(k:Int)(u v:Nat):Prop:=v∈ixs (u:Int) P.length/\(cntD (dQ r P (P.getD u qu)) (u:Int) P.length v:Int)<k
def az8x (r:azk)(P:List (List Int))(k:Int)(a b:Nat):Prop:=Jzc r P k a b\/Jzc r P k b a
theorem azca (l:List (List Int))(c:List Int)(a:l.length<4294967296)(b:∀x∈l,x.length<4294967296):∃z,(szj l c).o=some z/\qv (z<0)= !memB l c:=by
 obtain⟨z,e,d⟩:=azc9 l c a b
 grind
theorem az6h (r:azk)(d:List (List Int))(k:Int)(hp:d.length<=1000)(hn:∀c∈d,c.length<4294967296):
 ∃m,(nzw r d k).o=some m/\(dz4 r≠0->m=⟨[],[]⟩)/\(dz4 r=0->m.Xa=disL r d d.length/\∃f,m.Xb=f.take 8192/\f.length<=m.Xa.length * m.Xa.length/\MapE r m.Xa (az8x r m.Xa k) f):=by
 show ∃m,(wzh r d k).run NN=some m/\_;have er:(⟨r.Xc,r.Xv⟩:azk)=r:=rfl;simp only[wzh,qj,er,dz2,fz4,qI];by_cases C:dz4 r≠0
 ·rw[czc C];exact⟨_,rfl,λ_=>rfl,λh=>absurd h C⟩
 have C:dz4 r=0:=Classical.not_not.1 C;rw[bz5 C]
 refine lz2 (x:=((nl:List (List Int)),(0:Int))) (P:=λm:azc=>(dz4 r≠0->m=⟨[],[]⟩)/\(dz4 r=0->m.Xa=disL r d d.length/\∃f,m.Xb=f.take 8192/\f.length<=m.Xa.length * m.Xa.length/\MapE r m.Xa (az8x r m.Xa k) f))
  (λm (y:List (List Int)×Int)=>∃j:Nat,y.2=(j:Int)/\j+m=d.length/\y.1=disL r d j) (λz:List (List Int)=>z=disL r d d.length) d.length ⟨0,rfl,qa,rfl⟩ qa ?_ ?_
 ·rintro m ⟨l,y⟩ ⟨j,hj,hjm,hl⟩;simp only at hj hl⊢;subst hj;subst hl;have hlen:=Qz8 r d j;cases m with
  |zero=>
   grind[az3]
  |succ m=>
   have hin:=Rza r d j;have hs:disL r d (j+1)=if azu r (d.getD j qu)=true/\¬d.getD j qu∈disL r d j then disL r d j++[d.getD j qu]else disL r d j:=rfl
   have hc:=hn _ (azx (show j<d.length from qa));rw[az5 qa,qg (p:=((disL r d j).length:Int)<1024) qa,az3];simp only[qe];rw[az9 qa,wn qa,qF];generalize d.getD j qu=c at hs hc⊢;cases A:azu r c with
   |false=>
    simp only[qd,az3];refine .inl ⟨_,m,rfl,wD m,j+1,rfl,qa,?_⟩
    simp_all
   |true=>
    obtain⟨z,z1,z2⟩:=azca (disL r d j) c qa (λx hx=>by have:=kz5 (hin x hx);omega);simp only[qe];rw[az9 qa,z1];simp only[qI,az3,z2];by_cases hm:c∈disL r d j
    ·have:memB (disL r d j) c=true:=qg hm;rw[this];simp only[qJ,qd,az3];refine .inl ⟨_,m,rfl,wD m,j+1,rfl,qa,?_⟩
     simp_all
    ·have:memB (disL r d j) c=false:=qh hm;rw[this];simp only[wJ,qe];rw[az9 qa,az9 (by rw[azd];omega),az9 (by grind[azd]),az3];refine .inl ⟨_,m,rfl,wD m,j+1,rfl,qa,?_⟩
     simp_all
 ·rintro P hP;have hPl:P.length<=1000:=by have:=Qz8 r d d.length;rw[hP];omega
  have hPn:∀c∈P,c.length<4294967296:=λc hc=>by rw[hP]at hc;have:=kz5 (Rza r d _ c hc);omega
  refine lz2 (x:=((nl:List az1),(0:Int))) (P:=λm:azc=>(dz4 r≠0->m=⟨[],[]⟩)/\(dz4 r=0->m.Xa=disL r d d.length/\∃f,m.Xb=f.take 8192/\f.length<=m.Xa.length * m.Xa.length/\MapE r m.Xa (az8x r m.Xa k) f))
   (λm (y:List az1×Int)=>∃u:Nat,y.2=(u:Int)/\u+m=P.length/\y.1.length<=P.length * u/\MapE r P (λa b=>(a<u/\Jzc r P k a b)\/(b<u/\Jzc r P k b a)) y.1)
   (λf:List az1=>f.length<=P.length * P.length/\MapE r P (az8x r P k) f) P.length ⟨0,rfl,qa,by simp[nl],(MapE.nil r P).congr λa b _ _=>jG⟩ qa ?_ ?_
  ·rintro m ⟨f,y⟩ ⟨u,hu,hum,q,n⟩;simp only at hu q n⊢;subst hu;cases m with
   |zero=>
    obtain rfl:u=P.length:=qa
    rw[az8 qa];exact .inr (.inl ⟨_,rfl,q,n.congr λa b A h2=>by unfold az8x;constructor<;>rintro(h|h)<;>first|exact .inl h.2|exact .inr h.2|exact .inl ⟨qa,h⟩|exact .inr ⟨qa,h⟩⟩)
   |succ m=>
    rw[az5 qa,az9 qa,qF,az9 qa,wn qa];obtain⟨l,e1,ns,rfl,ho⟩:=aze8 r P (P.getD u qu) (u:Int) hPl hPn (hPn _ (azx qa));rw[e1];simp only[qI];have hnl:ns.length<=P.length:=by
     rw[ho.1.length_eq];unfold ixs;exact Nat.le_trans (List.length_filter_le _ _) jG
    suffices hi:∃s,_=some s/\(∃g:List az1,s=Step3.next (g,((u+1:Nat):Int))/\g.length<=P.length * (u+1)/\MapE r P (λa b=>(a<u+1/\Jzc r P k a b)\/(b<u+1/\Jzc r P k b a)) g) by
     obtain⟨s,e,g,rfl,k1,k2⟩:=hi;exact .inl ⟨_,m,e,wD m,u+1,rfl,qa,k1,k2⟩
    refine lz2 (λm' (y:List az1×Int)=>∃i:Nat,y.2=(i:Int)/\i+m'=ns.length/\((i:Int)<=k\/i=0)/\y.1.length<=P.length * u+i/\MapE r P (λa b=>((a<u/\Jzc r P k a b)\/(b<u/\Jzc r P k b a))\/(a=u/\b∈ns.take i)\/(b=u/\a∈ns.take i)) y.1)
     (λg:List az1=>g.length<=P.length * (u+1)/\MapE r P (λa b=>(a<u+1/\Jzc r P k a b)\/(b<u+1/\Jzc r P k b a)) g) ns.length ⟨0,rfl,qa,.inr rfl,jL,n.congr λa b _ _=>jG⟩ qa ?_ (λz hz=>⟨_,rfl,z,rfl,hz⟩)
    rintro m' ⟨w,y2⟩ ⟨i,hi,him,hik,hel2,t⟩;simp only at hi hel2 t⊢;subst hi;have hcl:(xzg ns).length=ns.length:=jG
    have hsq:P.length * u<=1000 * 990+10000-1000:=by
     have A:P.length * u<=P.length * (P.length-1):=Nat.mul_le_mul_left _ qa;have h2:P.length * (P.length-1)<=1000 * 999:=qz hPl qa;omega
    have B:(i=ns.length\/k<=(i:Int))->w.length<=P.length * (u+1)/\MapE r P (λa b=>(a<u+1/\Jzc r P k a b)\/(b<u+1/\Jzc r P k b a)) w:=λhs=>by
     have key:∀v,v∈ns.take i↔Jzc r P k u v:=λv=>by
      rw[az18 ho];unfold Jzc;constructor
      ·rintro⟨A,h2⟩;exact⟨A,qa⟩
      ·rintro⟨A,h2⟩;have:=azm4 ho A;exact⟨A,qa⟩
     refine⟨by rw[Nat.mul_succ];omega,t.congr λa b A h2=>?_⟩;rw[key,key];constructor
     ·rintro((h|h)|⟨rfl,h⟩|⟨rfl,h⟩)
      ·exact .inl ⟨qa,h.2⟩
      ·exact .inr ⟨qa,h.2⟩
      ·exact .inl ⟨qa,h⟩
      ·exact .inr ⟨qa,h⟩
     ·rintro(⟨h,h'⟩|⟨h,h'⟩)
      ·by_cases e:a=u
       ·subst e;exact .inr (.inl ⟨rfl,h'⟩)
       ·exact .inl (.inl ⟨qa,h'⟩)
      ·by_cases e:b=u
       ·subst e;exact .inr (.inr ⟨rfl,h'⟩)
       ·exact .inl (.inr ⟨qa,h'⟩)
    by_cases c1:i<ns.length
    ·by_cases c2:(i:Int)<k
     ·have hv:=azx c1;have hvx:=mem_ixs.1 (ho.1.mem_iff.1 hv);have hg:=az9j c1;rw[az5 qa,qg c2,az3];simp only[qe];rw[az9 qa,qF,hg,azfj r P w u _ hPn qa qa qa,wn qa];simp only[qI];have hil:=Xzx (newE r P (min (u:Int) ((ns.getD i qu:Nat):Int)) (max (u:Int) ((ns.getD i qu:Nat):Int))) w;have ht:ns.take (i+1)=ns.take i++[ns.getD i qu]:=ezm c1;refine .inl ⟨_,m'-1,rfl,qa,i+1,rfl,qa,.inl qa,jL,?_⟩;simp only;rw[ht];generalize ns.getD i qu=v at *
      have hmn:min (u:Int) (v:Int)=((min u v:Nat):Int):=qa
      have hmx:max (u:Int) (v:Int)=((max u v:Nat):Int):=qa
      rw[hmn,hmx];refine(t.ins (x:=min u v) (y:=max u v) qa qa).congr λa b A h2=>?_
      simp only[wu,wv];constructor
      ·rintro((h|⟨rfl,h⟩|⟨rfl,h⟩)|h)
       ·exact .inl h
       ·exact .inr (.inl ⟨rfl,.inl h⟩)
       ·exact .inr (.inr ⟨rfl,.inl h⟩)
       ·by_cases huv:u<v
        ·exact .inr (.inl ⟨qa,.inr qa⟩)
        ·exact .inr (.inr ⟨qa,.inr qa⟩)
      ·rintro(h|⟨rfl,h|h⟩|⟨rfl,h|h⟩)
       ·exact .inl (.inl h)
       ·exact .inl (.inr (.inl ⟨rfl,h⟩))
       ·exact .inr qa
       ·exact .inl (.inr (.inr ⟨rfl,h⟩))
       ·exact .inr qa
     ·rw[az5 qa,qh c2,az3];exact .inr (.inl ⟨_,rfl,B (.inr qa)⟩)
    ·rw[az8 qa,az3];exact .inr (.inl ⟨_,rfl,B (.inl qa)⟩)
  ·rintro f ⟨q,n⟩;by_cases h:((f.length:Nat):Int)>8192
   ·rw[az5 h,az9 qa,az3];exact⟨_,rfl,λh=>absurd C h,λ_=>⟨hP,f,rfl,q,n⟩⟩
   ·rw[az8 h,az3];exact⟨_,rfl,λh=>absurd C h,λ_=>⟨hP,f,(List.take_of_length_le jL).symm,q,n⟩⟩
open Go.Proofs
def nmL (i:Nat):ByteArray:=(⟨#[97,98,99,100,101,102,103,104,105,106]⟩:ByteArray).extract i (i+1)
section
variable {l:List Int} (hl:l.length<4294967296) {n:Int} (h0:0<=n) (h1:n<=(l.length:Int))
include hl h0 h1
end
theorem n01:(nmL 0==nmL 1)=false:=by rfl
theorem n02:(nmL 0==nmL 2)=false:=by rfl
theorem n12:(nmL 1==nmL 2)=false:=by rfl
theorem nv0:Izc (nmL 0)=true:=by rfl
theorem nv1:Izc (nmL 1)=true:=by rfl
theorem nv2:Izc (nmL 2)=true:=by rfl
theorem azog (i:Nat)(a:i<=2):Izc (nmL i)=true/\∀t:Nat,t<i->(nmL t==nmL i)=false:=by
 grind[nv0,nv1,n01,nv2,n02,n12]
theorem Yz2 (r:azk)(m:List Int)(e:m.length<4294967296)(A:RoB r)(Q:dz4 r=0):∃p,(zzd r m).o=some p/\azu r p=true:=by
 have v:(iz0 m).o=some (m,0):=rfl;obtain⟨O,S,H⟩:=A;suffices L:∃p,(zzd r m).o=some p/\(p.length=r.Xc.length/\∀t,t<r.Xc.length->(r.Xc.getD t qu).Lo<=p.getD t qu/\p.getD t qu<=(r.Xc.getD t qu).Hi) by
  grind[azu,noneB_iff,outJ]
 show ∃p,(zze r m).run NN=some p/\_;simp only[zze,qj,v,qI]
 refine lz2 (P:=λp:List Int=>p.length=r.Xc.length/\∀t,t<r.Xc.length->(r.Xc.getD t qu).Lo<=p.getD t qu/\p.getD t qu<=(r.Xc.getD t qu).Hi) (λk (y:List Int×Int×List Int×Int)=>∃j:Nat,y.1=m/\(0<=y.2.1/\y.2.1<=(m.length:Int))/\y.2.2.2=(j:Int)/\j+k=r.Xc.length/\y.2.2.1.length=j/\∀t,t<j->(r.Xc.getD t qu).Lo<=y.2.2.1.getD t qu/\y.2.2.1.getD t qu<=(r.Xc.getD t qu).Hi)
  (λz:List Int=>z.length=r.Xc.length/\∀t,t<r.Xc.length->(r.Xc.getD t qu).Lo<=z.getD t qu/\z.getD t qu<=(r.Xc.getD t qu).Hi) r.Xc.length ⟨0,rfl,⟨jG,jG⟩,rfl,qa,by rfl,λt C=>qa⟩ qa ?_ (λz s=>⟨_,rfl,s⟩)
 rintro k ⟨U,N,p,y⟩ ⟨j,h,⟨n,i⟩,g,Z,w,G⟩;simp only at h n i g w G⊢;subst h;subst g;cases k with
 |zero=>simp_all
 |succ k=>
  have F:=H _ (azx (show j<r.Xc.length from qa));unfold JB at F;have a:∀x,(r.Xc.getD j qu).Lo<=x/\x<=(r.Xc.getD j qu).Hi->∀t,t<j+1->(r.Xc.getD t qu).Lo<=(p++[x]).getD t qu/\(p++[x]).getD t qu<=(r.Xc.getD t qu).Hi:=λx M t C=>by
   grind
  rw[az5 qa,az9 qa,az9 qa,qF,wn qa];obtain⟨l,X,I,W,Y,b,c⟩:=bzw e n i (k:=6) jF jF;rw[I];simp only[qI];by_cases f:l=0
  ·rw[gza f,az9 (by simp only[qy,qA,azd];omega),az3];exact .inl ⟨_,k,rfl,wD k,j+1,rfl,⟨b,c⟩,rfl,qa,by simp only[wE,qy,qA];omega,a _ qa⟩
  ·rw[gz1 f];by_cases q:l=1
   ·rw[gza q,az9 (by simp only[qy,qA,azd];omega),az3];exact .inl ⟨_,k,rfl,wD k,j+1,rfl,⟨b,c⟩,rfl,qa,by simp only[wE,qy,qA];omega,a _ qa⟩
   ·rw[gz1 q];have E:qt.wrap ((r.Xc.getD j qu).Hi- (r.Xc.getD j qu).Lo)=(r.Xc.getD j qu).Hi- (r.Xc.getD j qu).Lo:=w64 qa qa;simp only[E];have d:qt.wrap ((r.Xc.getD j qu).Hi- (r.Xc.getD j qu).Lo+1)=(r.Xc.getD j qu).Hi- (r.Xc.getD j qu).Lo+1:=w64 qa qa;simp only[d];obtain⟨u,R,B,V,K,J,D⟩:=bzw e b c (k:=(r.Xc.getD j qu).Hi- (r.Xc.getD j qu).Lo+1) qa qa;rw[B];simp only[qI];rw[w64 (x:=(r.Xc.getD j qu).Lo+u) qa qa,az9 (by simp only[qy,qA,azd];omega),az3];exact .inl ⟨_,k,rfl,wD k,j+1,rfl,⟨J,D⟩,rfl,qa,by simp only[wE,qy,qA];omega,a _ qa⟩
open Go.Proofs
def NB (m:Int)(v:V3):Prop:= -m<=v.1/\v.1<=m/\ -m<=v.2.1/\v.2.1<=m/\ -m<=v.2.2/\v.2.2<=m
theorem NB.mono {a b:Int}{v:V3}(h:NB a v)(hab:a<=b):NB b v:=by
 obtain⟨k1,k2,k3,k4,k5,k6⟩:=h;exact⟨qa,qa,qa,qa,qa,qa⟩
def ShOk (n:Nat)(x:azh):Prop:=yz1 n x=0
theorem azhg {r:azk}{sh:List azh}{sk:List ezp}(hr:dz4 r=0)(h1:sh.length<=6)(h2:∀x∈sh,ShOk r.Xc.length x)(h3:sk.length<=1)
 (h4:∀x∈sk,(-1<=x.A/\x.A<(r.Xc.length:Int)/\ -1<=x.B/\x.B<(r.Xc.length:Int))):bzq (⟨⟨r.Xc,r.Xv⟩,sh,sk⟩:az7)=0:=by
 have er:(⟨r.Xc,r.Xv⟩:azk)=r:=rfl;unfold bzq;simp only[er];have hs:scan (errS r.Xc.length sh) sh.length 0=none:=(ez0 _ _).2 λj _ hj=>by
  have hx:=h2 _ (azx (l:=sh) (i:=j) qa);unfold ShOk at hx;unfold errS;rw[hx];rfl
 have hk:bz0 (badK r.Xc.length sk) sk.length=true:=noneB_iff.2 λi hi=>by
  obtain⟨a,b,c,d⟩:=h4 _ (azx hi);unfold badK tzr;simp only[qg a,qg b,qg c,qg d];rfl
 rw[qb (by rw[hr];simp),qb qa,hs];simp only;rw[qb qa,hk];rfl
section
variable {l:List Int} (hl:l.length<4294967296) {n:Int} (h0:0<=n) (h1:n<=(l.length:Int))
include hl h0 h1
end
end Go.Abs
