import Derived.Test.YtnfbbidmdkfilaaGreatDoorZDPLib
import Derived.Test.YtnfbbidmdkfilaaGreatDoorZDD4
import Derived.Lib.DecodeN
open Bool renaming and_eq_true->qm,not_true->qJ,true_and->qM,and_self->qN,or_eq_false_iff->qp,eq_iff_iff->qR,false_ne_true->qS,not_eq_true->qW,not_eq_true'->qX,and_true->wg,false_and->wo,true_eq_false->wt,not_eq_false'->wx
open Decidable renaming decide->qv
open Go.IntKind renaming i64->qt
open Inhabited renaming default->qu
open Int renaming mul_tdiv_add_tmod->qw,mul_neg->qx,le_of_lt->qB,le_ediv_iff_mul_le->qC,pow_add->qD,mul_le_mul_of_nonneg_left->qE,toNat_natCast->qF,natAbs_mul->qH,mul_nonneg->qK,mul_le_mul->qL,mul_le_mul_of_nonneg_right->wh,toNat->wi,pow_succ->wj,emod_nonneg->wu,emod_lt_of_pos->wv
open List renaming length_cons->qy,length_nil->qA,range_succ->qT,getD_eq_getElem?_getD->qY,length_set->qZ,set_set->wc,length_replicate->wd,getElem_of_mem->we,getD_cons_zero->wk,getD_cons_succ->wm
open Nat renaming mul_le_mul->qz,min_eq_left->qG,pow_le_pow_right->qU,le_refl->qk
open Option renaming bind_some->qI,bind->qO,isSome_some->qP,isSome_none->qQ,map_some->ws
open Go.Abs.T renaming run->qj
noncomputable section
namespace Go.Abs
theorem gz5 {c:Type}{a b:Int}{x y:c}(h:a=b):(bif (a==b)then x else y)=x:=hzj jr
theorem fzu {c:Type}{a b:Int}{x y:c}(h:a≠b):(bif (a==b)then x else y)=y:=hzx jr
theorem bzy {c:Type}{a b:Int}{x y:c}(h:a≠b):(bif (a !=b)then x else y)=x:=hzj jr
theorem bz4 {c:Type}{a b:Int}{x y:c}(h:a=b):(bif (a !=b)then x else y)=y:=hzx jr
theorem wr (n:Int):qt.wrap n=(n+9223372036854775808) % 18446744073709551616-9223372036854775808:=by
 show(if(true&&qv (n % 18446744073709551616>=9223372036854775808))=true then n % 18446744073709551616-18446744073709551616 else n % 18446744073709551616)=_
 grind
theorem azps (n:Int): -9223372036854775808<=qt.wrap n:=by rw[wr];omega
theorem azpr (n:Int):qt.wrap n<=9223372036854775807:=by rw[wr];omega
theorem azno (n:Int):qt.wrap (qt.wrap n)=qt.wrap n:=w64 (azps n) (azpr n)
theorem azf7 (a b:Int):qt.wrap (qt.wrap a+b)=qt.wrap (a+b):=by simp only[wr];omega
theorem aznm (a b:Int):qt.wrap (a+qt.wrap b)=qt.wrap (a+b):=by simp only[wr];omega
theorem az67 (a b:Int):qt.wrap (qt.wrap a-b)=qt.wrap (a-b):=by simp only[wr];omega
theorem aznn (a b:Int):qt.wrap (a-qt.wrap b)=qt.wrap (a-b):=by simp only[wr];omega
def InR (x:Int):Prop:= -9223372036854775808<=x/\x<=9223372036854775807
theorem InR.wr (n:Int):InR (qt.wrap n):=⟨azps n,azpr n⟩
theorem InR.w {x:Int}(h:InR x):qt.wrap x=x:=w64 h.1 h.2
def cdiv (a b:Int):Int:= -((-a) / b)
theorem Bzr {a b:Int}(c:0<=a):a.tdiv b=a / b:=Int.tdiv_eq_ediv_of_nonneg c
theorem aziz {a b:Int}(c:0<=a):a.tmod b=a % b:=Int.tmod_eq_emod_of_nonneg c
theorem az3o (a b:Int):(-a).tdiv b= -(a.tdiv b):=Int.neg_tdiv a b
theorem azf1 (a b:Int):(-a).tmod b= -(a.tmod b):=Int.neg_tmod a b
theorem Fzv {a b q r:Int}(c:0<=r)(d:r<b)(h:a=b * q+r):a / b=q:=by
 subst h;rw[Int.mul_add_ediv_left _ _ (by omega:b≠0),Int.ediv_eq_zero_of_lt c d];omega
theorem az4u {a b:Int}(c:0<b):(if a.tmod b<0 then a.tdiv b-1 else a.tdiv b)=a / b:=by
 have f:=qw a b;have e:=Int.tmod_lt_of_pos a c;have d:=Int.lt_tmod_of_pos a c;split
 ·symm;exact Fzv (r:=a.tmod b+b) qa qa jt
 ·symm;exact Fzv (r:=a.tmod b) qa qa qa
theorem azj7 {a b:Int}(d:0<b):(if a.tmod b>0 then a.tdiv b+1 else a.tdiv b)=cdiv a b:=by
 have:=az4u (a:= -a) d;rw[azf1,az3o]at this
 grind[cdiv]
theorem Wz6 {a b:Int}(c:0<b):b * (a / b)<=a:=Int.mul_ediv_self_le qa
theorem az6p {a b:Int}(c:0<b):a<b * (a / b)+b:=Int.lt_mul_ediv_self_add c
theorem Oz0 {a b:Int}(c:0<b):(0<=a->0<=a / b/\a / b<=a)/\(a<0->a<=a / b/\a / b<0):=by
 refine⟨λh=>⟨Int.ediv_nonneg h qa,Int.ediv_le_self _ h⟩,λh=>⟨?_,Int.ediv_neg_of_neg_of_pos h c⟩⟩;have e:=az6p (a:=a) c;by_cases g:a<=a / b
 ·omega
 ·have f:b * (a / b)+b=b * (a / b+1):=by grind
  have d:b * (a / b+1)<=1 * (a / b+1):=Int.mul_le_mul_of_nonpos_right qa qa;omega
theorem InR.div {a b:Int}(h:InR a)(c:0<b):InR (a / b):=by
 have:=Oz0 (a:=a) c;obtain⟨e,d⟩:=h;by_cases f:0<=a
 ·exact⟨qa,qa⟩
 ·exact⟨qa,qa⟩
theorem az45 {a b:Int}(c:0<b):(0<a->0<cdiv a b/\cdiv a b<=a)/\(a<=0->a<=cdiv a b/\cdiv a b<=0):=by
 have:=Oz0 (a:= -a) c
 grind[cdiv]
theorem InR.cdiv {a b:Int}(h:InR a)(c:0<b):InR (Go.Abs.cdiv a b):=by
 have:=az45 (a:=a) c;obtain⟨e,d⟩:=h;by_cases f:0<a
 ·exact⟨qa,qa⟩
 ·exact⟨qa,qa⟩
theorem azni {a b:Int}(c:0<b):(0<=a->0<=a.tdiv b/\a.tdiv b<=a)/\(a<=0->a<=a.tdiv b/\a.tdiv b<=0):=by
 refine⟨λh=>?_,λh=>?_⟩
 ·simp_all[Bzr,Oz0]
 ·have d:=(Oz0 (a:= -a) c).1 qa
  grind[az3o]
theorem InR.tdiv {a b:Int}(h:InR a)(c:0<b):InR (a.tdiv b):=by
 have:=azni (a:=a) c;obtain⟨e,d⟩:=h;by_cases f:0<=a
 ·exact⟨qa,qa⟩
 ·exact⟨qa,qa⟩
theorem azoe {a b:Int}(e:InR a)(d:0<b):(bif qv (a.tmod b<0)then qt.wrap (qt.wrap (a.tdiv b)-1)else qt.wrap (a.tdiv b))=a / b:=by
 rw[(e.tdiv d).w,<-az4u d,cond_eq_ite];simp only[qf];split
 ·rename_i h;have:=e.div d;rw[<-az4u d,qc h]at this;exact this.w
 ·rfl
theorem azpw {a b:Int}(e:InR a)(d:0<b):(bif qv (a.tmod b>0)then qt.wrap (qt.wrap (a.tdiv b)+1)else qt.wrap (a.tdiv b))=cdiv a b:=by
 rw[(e.tdiv d).w,<-azj7 d,cond_eq_ite];simp only[qf];split
 ·rename_i h;have:=e.cdiv d;rw[<-azj7 d,qc h]at this;exact this.w
 ·rfl
theorem Rz2 {a b q:Int}(c:0<b):cdiv a b=q↔a<=b * q/\b * q<a+b:=by
 unfold cdiv;have e:=Wz6 (a:= -a) c;have d:=az6p (a:= -a) c;constructor
 ·grind[qx]
 ·intro h;have: -a / b= -q:=Fzv (r:=b * q-a) qa qa jt;omega
def scan {R:Type}(g:Nat->Option R):Nat->Nat->Option R
 |0,_=>none
 |n+1,i=>match g i with
  |some r=>some r
  |none=>scan g n (i+1)
theorem ez3 {R:Type}{g:Nat->Option R}:∀ (n i:Nat),scan g n i=none↔∀j,i<=j->j<i+n->g j=none
 |0,i=>by grind[scan]
 |n+1,i=>by
  simp only[scan];constructor
  ·intro h;split at h
   ·cases h
   ·rename_i a;intro j c b;by_cases e:j=i
    ·subst e;exact a
    ·exact(ez3 n (i+1)).1 h j qa qa
  ·intro h;rw[h i qa qa];exact(ez3 n (i+1)).2 λj c b=>h j qa qa
theorem ezh {R:Type}{g:Nat->Option R}{r:R}:∀ (n i:Nat),scan g n i=some r->∃j,i<=j/\j<i+n/\g j=some r/\∀k,i<=k->k<j->g k=none
 |0,i,h=>by cases h
 |n+1,i,h=>by
  simp only[scan]at h;split at h
  ·rename_i a;cases h;exact⟨i,qa,qa,a,λk f d=>qa⟩
  ·rename_i a;obtain⟨j,f,d,c,l⟩:=ezh n (i+1) h;refine⟨j,qa,qa,c,λk m b=>?_⟩;by_cases e:k=i
   ·subst e;exact a
   ·exact l k qa b
theorem az1l {σ τ R:Type}{f:σ->Option (Step3 σ τ R)}(c:Nat->σ)(g:Nat->Option R)(y:τ):
 ∀ (n i N:Nat),n<N->(∀j,i<=j->j<i+n->f (c j)=match g j with|some r=>some (.fin r)|none=>some (.next (c (j+1))))->f (c (i+n))=some (.out y)->
   iter f N (c i)=some (match scan g n i with|some r=>.inr r|none=>.inl y)
 |0,i,0,h,_,_=>qa
 |0,i,N+1,_,_,h=>by grind[iter,scan]
 |n+1,i,0,h,_,_=>qa
 |n+1,i,N+1,l,d,m=>by
  have e:=d i qa qa;simp only[scan];cases k:g i with
  |some r=>grind[iter]
  |none=>
   rw[k]at e;simp only[iter,e];exact az1l c g y n (i+1) N qa (λj a b=>d j qa qa) jt
theorem hz3 {σ τ R:Type}{f:σ->Option (Step3 σ τ R)}{k:τ->Option R}{x:σ}(a:Nat->σ)(g:Nat->Option R)(y:τ)(n:Nat)(c:x=a 0)(b:n<NN)
 (d:∀j,j<n->f (a j)=match g j with|some r=>some (.fin r)|none=>some (.next (a (j+1)))) (e:f (a n)=some (.out y)):
 andK (iter f NN x) k=match scan g n 0 with|some r=>some r|none=>k y:=by
 rw[c,az1l a g y n 0 NN b (λj _ h=>d j qa) jr];cases scan g n 0<;>rfl
theorem bzo {σ τ R:Type}{f:σ->Option (Step3 σ τ R)}{k:τ->Option R}{x:σ}(a:Nat->σ)(y:τ)(n:Nat)(e:x=a 0)(b:n<NN)
 (d:∀j,j<n->f (a j)=some (.next (a (j+1)))) (c:f (a n)=some (.out y)):andK (iter f NN x) k=k y:=by
 rw[e,gzw (nzy a rfl n b d c)]
theorem az8 {R:Type}{p:Prop}[Decidable p]{k:Option R}(h:p):grd p k=k:=by unfold grd;grind
theorem az0t {α:Type}[Inhabited α][En α]{t k:Nat}{l:List α}(h:l.length<4294967296)(hk:k<=32768):(izl t k l).run NN=some l:=by
 cases l with
 |nil=>rfl
 |cons a l=>
  simp only[izl,qj];simp only[qy]at h;have:(l.length+1) * k<=4294967296 * 32768:=qz qa hk;rw[az8 jq,az8 ⟨by simp only[qA,qy,Nat.zero_add];omega,by simp only[qA,qy,aze];omega⟩];rfl
theorem kzs {a:Type}{b:Bool}{x y:a}:(bif b then some x else some y)=some (bif b then x else y):=jt
theorem bzb {σ τ R:Type}{b:Bool}{x y:τ}:(bif b then some (Step3.out x)else some (Step3.out y):Option (Step3 σ τ R))=some (.out (bif b then x else y)):=jt
theorem ezo {b c:Bool}:(bif b then true else c)=(b||c):=by rfl
theorem aza4 {b c:Bool}:(bif b then c else false)=(b&&c):=jr
theorem dzk {a b:Int}(c:InR a)(d:0<b):(bza a b).o=some (a / b):=by
 show(Ezi a b).run NN=_
 grind[Ezi,qj,az8,az3,azoe]
theorem czl {a b:Int}(c:InR a)(d:0<b):(bz3 a b).o=some (cdiv a b):=by
 show(Izs a b).run NN=_
 grind[Izs,qj,az8,az3,azpw]
theorem ezw (k:Nat):(0:Int)<2 ^ k:=Int.pow_pos qa
theorem Yz1 (a:Int)(k:Nat):a.fdiv (2 ^ k)=a / 2 ^ k:=Int.fdiv_eq_ediv_of_nonneg _ (qB (ezw k))
theorem mzq (a:Int)(k:Nat)(b:k<=64):(bz9 a (k:Int)).o=some (a / 2 ^ k):=by
 show(mzp a (k:Int)).run NN=_
 grind[mzp,qj,az8]
theorem up_w {a b:Int}(h:InR a)(d:0<b)(f:InR (b * (a / b))):(bif (qt.wrap (a / b * b) !=a)then qt.wrap (a / b+1)else a / b)=cdiv a b:=by
 rw[Int.mul_comm,f.w];have j:=Wz6 (a:=a) d;have i:=az6p (a:=a) d
 symm
 rw[Rz2 d];by_cases e:b * (a / b)=a
 ·simp_all
 ·rw[bzy e];have:qt.wrap (a / b+1)=a / b+1:=by
   have g:=h.cdiv d;have:cdiv a b=a / b+1:=by rw[Rz2 d,Int.mul_add];omega
   rw[this]at g;exact g.w
  rw[this,Int.mul_add];omega
theorem azp7 {a:Int}{k:Nat}(c:k<=63)(d:InR a):InR (2 ^ k * (a / 2 ^ k)):=by
 have b:=ezw k;have g:=Wz6 (a:=a) b;obtain⟨h,i⟩:=d;have f: -(2 ^ (63-k))<=a / 2 ^ k:=by
  rw[qC b,Int.neg_mul,<-qD,Nat.sub_add_cancel c];omega
 have e:2 ^ k * -(2:Int) ^ (63-k)<=2 ^ k * (a / 2 ^ k):=qE f qa;rw[qx,<-qD,Nat.add_sub_cancel' c]at e;exact⟨qa,qa⟩
theorem rzy {a:Int}(k:Nat)(c:k<=63)(b:InR a):(bzj a (k:Int)).o=some (cdiv a (2 ^ k)):=by
 show(rzx a (k:Int)).run NN=_;simp only[rzx,qj];rw[azb qa,az8 qa,az8 qa,qF,qG qa,Yz1,bzb,az3,up_w b (ezw k) (azp7 c b)]
theorem sd16 (a:Int):(bz9 a 16).o=some (a / 65536):=mzq a 16 jp
theorem sd30 (a:Int):(bz9 a 30).o=some (a / 1073741824):=mzq a 30 jp
theorem sd14 (a:Int):(bz9 a 14).o=some (a / 16384):=mzq a 14 jp
theorem su16 {a:Int}(h:InR a):(bzj a 16).o=some (cdiv a 65536):=rzy 16 jp h
theorem su30 {a:Int}(h:InR a):(bzj a 30).o=some (cdiv a 1073741824):=rzy 30 jp h
theorem su14 {a:Int}(h:InR a):(bzj a 14).o=some (cdiv a 16384):=rzy 14 jp h
def clV (x:Int):Int:=max (-2147483648) (min x 2147483648)
def vV (a:az0):Bool:=qv (-2147483648<=a.Lo)&&(qv (a.Lo<=a.Hi)&&qv (a.Hi<=2147483648))
theorem vV_iff {a:az0}:vV a=true↔ -2147483648<=a.Lo/\a.Lo<=a.Hi/\a.Hi<=2147483648:=by simp[vV]
def iz:az0:=⟨0,0⟩
def limV (lo a:Int):az0:=⟨clV lo,clV a⟩
def addV (a b:az0):az0:=if vV a&&vV b then limV (a.Lo+b.Lo) (a.Hi+b.Hi)else iz
def negV (a:az0):az0:=if vV a then⟨-a.Hi,-a.Lo⟩else iz
def az1u (a b:az0):Int:=min (min (min (a.Lo * b.Lo) (a.Lo * b.Hi)) (a.Hi * b.Lo)) (a.Hi * b.Hi)
def az1t (a b:az0):Int:=max (max (max (a.Lo * b.Lo) (a.Lo * b.Hi)) (a.Hi * b.Lo)) (a.Hi * b.Hi)
def mulV (a b:az0):az0:=if vV a&&vV b then limV (az1u a b / 65536) (cdiv (az1t a b) 65536)else iz
def az8v (a b:az0):az0:=if vV a&&vV b then⟨min a.Lo b.Lo,max a.Hi b.Hi⟩else iz
def ofV (x:Int):az0:=⟨clV x,clV x⟩
def midV (a:az0):Int:=if vV a then(a.Lo+a.Hi) / 2 else 0
theorem Yz4 (a:Int):(zzc a).o=some (clV a):=by
 show(zzd a).run NN=_
 grind[zzd,qj,clV]
theorem czb (a:az0):(bzw a).o=some (vV a):=by
 show(pz3 a).run NN=_
 grind[pz3,qj,vV]
theorem fz5 (a:az0):(dz8 a).o=some (vV a):=by
 show(Ezo a).run NN=_
 grind[Ezo,qj,vV]
theorem pz7 (a b:az0):(jzl a b).o=some (vV a&&vV b):=by
 show(pz6 a b).run NN=_
 grind[pz6,qj,czb]
theorem lz1 (a b:Int):(hzn a b).o=some (limV a b):=by
 show(lz0 a b).run NN=_
 grind[lz0,qj,Yz4,limV]
theorem Hzh (a b:Int):(wzo a b).o=some (limV a b):=by
 rfl
theorem izj (a:Int):(czo a).o=some (ofV a):=by
 show(zzp a).run NN=_
 grind[zzp,qj,lz1,limV,ofV]
theorem Lz5 (a:Int):(ozi a).o=some (ofV a):=by
 rfl
theorem wsum {a b:Int}(c: -2147483648<=a/\a<=2147483648)(d: -2147483648<=b/\b<=2147483648):qt.wrap (a+b)=a+b:=w64 qa qa
theorem wmul {a b:Int}(c: -2147483648<=a/\a<=2147483648)(e: -2147483648<=b/\b<=2147483648):qt.wrap (a * b)=a * b/\ -4611686018427387904<=a * b/\a * b<=4611686018427387904:=by
 have h: -4611686018427387904<=a * b/\a * b<=4611686018427387904:=by
  have d:(a * b).natAbs<=2147483648 * 2147483648:=by rw[qH];exact qz qa qa
  omega
 grind[w64]
theorem vzr (a b:az0):(azn a b).o=some (addV a b):=by
 show(vzq a b).run NN=_;simp only[vzq,qj,pz7,lz1,qI,kzs,addV];cases h:vV a&&vV b
 ·rfl
 grind[vV_iff,wsum]
theorem Nz4 (a b:az0):(bzl a b).o=some (addV a b):=by
 show(Nz3 a b).run NN=_;simp only[Nz3,qj,fz5,Hzh,qI,kzs,addV];cases c:vV a
 ·rfl
 ·cases d:vV b
  ·rfl
  ·simp only[vV_iff]at c d;rw[wsum ⟨qa,qa⟩ ⟨qa,qa⟩,wsum ⟨qa,qa⟩ ⟨qa,qa⟩];rfl
theorem Hz2 (a:az0):(nzx a).o=some (negV a):=by
 show(vzu a).run NN=_;simp only[vzu,qj,czb,qI,kzs,negV];cases h:vV a
 ·rfl
 grind[vV_iff,w64]
theorem Wzs (a:az0):(Gz3 a).o=some (negV a):=by
 show(Nzc a).run NN=_;simp only[Nzc,qj,fz5,qI,kzs,negV];cases h:vV a
 ·rfl
 grind[vV_iff,w64]
theorem Dzo (a b:az0):(fze a b).o=some (az8v a b):=by
 show(sz3 a b).run NN=_;simp only[sz3,qj,pz7,qI,kzs,az8v];cases h:vV a&&vV b<;>rfl
theorem az5g (a b:az0):(Azs a b).o=some (az8v a b):=by
 show(Izt a b).run NN=_;simp only[Izt,qj,fz5,qI,kzs,az8v];cases c:vV a<;>cases d:vV b<;>rfl
theorem Cz0 (a:az0)(h:vV a=true):(pz4 a).o=some (a.Hi-a.Lo):=by
 show(pz5 a).run NN=_
 grind[pz5,qj,czb,vV_iff,w64]
theorem Uzt (a:az0)(x:Int):(Hz0 a x).o=some (vV a&&(qv (a.Lo<=x)&&qv (x<=a.Hi))):=by
 show(vzs a x).run NN=_
 grind[vzs,qj,czb]
theorem Mzr {a b:Int}(c:InR b):(xzy a b).o=some (limV (a / 65536) (cdiv b 65536)):=by
 show(mzr a b).run NN=_
 grind[mzr,qj,sd16,su16,lz1]
theorem azcx {a b:az0}(d:vV a=true)(c:vV b=true):InR (az1u a b)/\InR (az1t a b)/\az1u a b<=az1t a b:=by
 simp only[vV_iff]at d c;obtain⟨-,k,j⟩:=wmul (a:=a.Lo) (b:=b.Lo) ⟨qa,qa⟩ ⟨qa,qa⟩;obtain⟨-,g,f⟩:=wmul (a:=a.Lo) (b:=b.Hi) ⟨qa,qa⟩ ⟨qa,qa⟩;obtain⟨-,l,i⟩:=wmul (a:=a.Hi) (b:=b.Lo) ⟨qa,qa⟩ ⟨qa,qa⟩;obtain⟨-,e,h⟩:=wmul (a:=a.Hi) (b:=b.Hi) ⟨qa,qa⟩ ⟨qa,qa⟩
 grind[az1u,az1t,InR]
theorem Wzr (a b:az0):(bz2 a b).o=some (mulV a b):=by
 show(Nzb a b).run NN=_;simp only[Nzb,qj,fz5,Hzh,qI,kzs,mulV];cases c:vV a
 ·rfl
 ·cases d:vV b
  ·rfl
  ·have e:=azcx c d;simp only[vV_iff]at c d
   rw[(wmul (a:=a.Lo) (b:=b.Lo) ⟨qa,qa⟩ ⟨qa,qa⟩).1,(wmul (a:=a.Lo) (b:=b.Hi) ⟨qa,qa⟩ ⟨qa,qa⟩).1,
    (wmul (a:=a.Hi) (b:=b.Lo) ⟨qa,qa⟩ ⟨qa,qa⟩).1,(wmul (a:=a.Hi) (b:=b.Hi) ⟨qa,qa⟩ ⟨qa,qa⟩).1]
   show(bza (az1u a b) 65536).o.bind _=_
   grind[dzk,az1t,czl]
theorem Hz1 (a b:az0):(azr a b).o=some (mulV a b):=by
 show(vzt a b).run NN=_;simp only[vzt,qj,pz7,qI,mulV];cases h:vV a&&vV b
 ·rfl
 ·simp only[qm]at h;have c:=azcx h.1 h.2;simp only[vV_iff]at h
  rw[(wmul (a:=a.Lo) (b:=b.Lo) ⟨qa,qa⟩ ⟨qa,qa⟩).1,(wmul (a:=a.Lo) (b:=b.Hi) ⟨qa,qa⟩ ⟨qa,qa⟩).1,
     (wmul (a:=a.Hi) (b:=b.Lo) ⟨qa,qa⟩ ⟨qa,qa⟩).1,(wmul (a:=a.Hi) (b:=b.Hi) ⟨qa,qa⟩ ⟨qa,qa⟩).1]
  simp only[qJ,qd];refine Eq.trans (bzo (λi=>match i with
   |0=>(a.Lo * b.Lo,a.Lo * b.Lo,0)
   |1=>(a.Lo * b.Lo,a.Lo * b.Lo,1)
   |2=>(min (a.Lo * b.Lo) (a.Lo * b.Hi),max (a.Lo * b.Lo) (a.Lo * b.Hi),2)
   |3=>(min (min (a.Lo * b.Lo) (a.Lo * b.Hi)) (a.Hi * b.Lo),max (max (a.Lo * b.Lo) (a.Lo * b.Hi)) (a.Hi * b.Lo),3)
   |_=>(az1u a b,az1t a b,4)) (az1u a b,az1t a b) 4 rfl jp ?_ ?_) ?_
  all_goals grind[az8,IntKind.wrap,IntKind.bits,az1u,az1t,Mzr]
def pd1 (x:Int):Int:=qt.wrap (x * 6746518852) / 65536
def pu1 (x:Int):Int:=cdiv (qt.wrap (x * 6746518853)) 65536
def pd (x:Int):Nat->Int
 |0=>pd1 x
 |k+1=>qt.wrap (pd x k * pd1 x) / 1073741824
def pu (x:Int):Nat->Int
 |0=>pu1 x
 |k+1=>cdiv (qt.wrap (pu x k * pu1 x)) 1073741824
theorem Bzt (x:Int):(ozu x).o=some ((1073741824,pd x 0,pd x 1,pd x 2,pd x 3,pd x 4,pd x 5,pd x 6,pd x 7,pd x 8,pd x 9),(1073741824,pu x 0,pu x 1,pu x 2,pu x 3,pu x 4,pu x 5,pu x 6,pu x 7,pu x 8,pu x 9)):=by
 show(ozv x).run NN=_
 simp_all[ozv,qj,sd16,su16,InR.wr,sd30,su30,pd,pu,pd1,pu1]
theorem Lz8 (x:Int):(Azv x).o=some ((0,pd x 0,pd x 1,pd x 2,pd x 3,pd x 4,pd x 5,pd x 6,pd x 7,pd x 8,pd x 9),(0,pu x 0,pu x 1,pu x 2,pu x 3,pu x 4,pu x 5,pu x 6,pu x 7,pu x 8,pu x 9)):=by
 have a:∀y:Int,(bza (qt.wrap y) 65536).o=some (qt.wrap y / 65536):=λy=>dzk (InR.wr _) jp
 have d:∀y:Int,(bz3 (qt.wrap y) 65536).o=some (cdiv (qt.wrap y) 65536):=λy=>czl (InR.wr _) jp
 have c:∀y:Int,(bza (qt.wrap y) 1073741824).o=some (qt.wrap y / 1073741824):=λy=>dzk (InR.wr _) jp
 have b:∀y:Int,(bz3 (qt.wrap y) 1073741824).o=some (cdiv (qt.wrap y) 1073741824):=λy=>czl (InR.wr _) jp
 show(Azw x).run NN=_
 simp_all[Azw,qj,pd,pu,pd1,pu1]
theorem azkc {x:Int}(a:0<=x)(b:x<=8192):0<=pd1 x/\pd1 x<=1073741824:=by
 grind[pd1,w64]
theorem azkf {x:Int}(a:0<=x)(b:x<=8192):0<=pu1 x/\pu1 x<=1073741824:=by
 grind[pu1,cdiv,w64]
theorem azdt {a b:Int}(d:0<=a/\a<=1073741824)(c:0<=b/\b<=1073741824):0<=a * b/\a * b<=1152921504606846976:=by
 refine⟨qK d.1 c.1,?_⟩;have:=qL d.2 c.2 c.1 (by omega:(0:Int)<=1073741824);omega
theorem azdl {x:Int}(a:0<=x)(b:x<=8192):∀k,0<=pd x k/\pd x k<=1073741824
 |0=>azkc a b
 |k+1=>by
  have:=azdt (azdl a b k) (azkc a b)
  grind[pd,w64]
theorem azdv {x:Int}(a:0<=x)(b:x<=8192):∀k,0<=pu x k/\pu x k<=1073741824
 |0=>azkf a b
 |k+1=>by
  have:=azdt (azdv a b k) (azkf a b)
  grind[pu,w64,cdiv]
theorem dzs {n d:Int}(h:0<=n)(g:n<=1073741824)(b:0<d)(e:d<=1073741824):(dza n d).o=some (cdiv n d):=by
 show(rzl n d).run NN=_;simp only[rzl,qj];rw[az8 qa,w64 (x:=n+d) qa qa,w64 (x:=n+d-1) qa qa,Bzr qa];have f:=Wz6 (a:=n+d-1) b;have i:=az6p (a:=n+d-1) b;have c:=(Oz0 (a:=n+d-1) b).1 qa
 grind[w64,Rz2]
def alt (l:List Int):Nat->Int×Int
 |0=>(0,1)
 |k+1=>(qt.wrap ((alt l k).1+qt.wrap ((alt l k).2 * l.getD k qu)),qt.wrap (0- (alt l k).2))
theorem jzt (l:List Int)(h:l.length<4294967296):(czu l).o=some (alt l l.length).1:=by
 show(jzs l).run NN=_;simp only[jzs,qj];refine Eq.trans (bzo (λi=>((alt l i).1,(alt l i).2,(i:Int))) (alt l l.length).1 l.length rfl h ?_ ?_) rfl;all_goals grind[az8,alt,w64n]
theorem alt4 {a b c d:Int}(e:0<=a/\a<=1073741824)(f:0<=b/\b<=1073741824)(g:0<=c/\c<=1073741824)(h:0<=d/\d<=1073741824):(czu [a,b,c,d]).o=some (a-b+c-d):=by
 rw[jzt _ jq];simp[alt,wr];omega
theorem alt5 {a b c d e:Int}(f:0<=a/\a<=1073741824)(g:0<=b/\b<=1073741824)(i:0<=c/\c<=1073741824)(j:0<=d/\d<=1073741824)(h:0<=e/\e<=1073741824):(czu [a,b,c,d,e]).o=some (a-b+c-d+e):=by
 rw[jzt _ jq];simp[alt,wr];omega
theorem alt6 {a b c d e f:Int}(g:0<=a/\a<=1073741824)(h:0<=b/\b<=1073741824)(k:0<=c/\c<=1073741824)(l:0<=d/\d<=1073741824)(j:0<=e/\e<=1073741824)(i:0<=f/\f<=1073741824):(czu [a,b,c,d,e,f]).o=some (a-b+c-d+e-f):=by
 rw[jzt _ jq];simp[alt,wr];omega
def encV (lo a:Int):az0:=⟨max 0 (lo / 16384),min 65536 (cdiv a 16384)⟩
theorem xzq {a b:Int}(c:InR b):(mzi a b).o=some (encV a b):=by
 show(mzj a b).run NN=_
 grind[mzj,qj,sd14,su14,encV]
theorem Cza {a b:Int}(c:InR a)(d:InR b):(pzh a b).o=some (encV a b):=by
 show(pzi a b).run NN=_
 grind[pzi,qj,dzk,czl,encV]
def sLo (x:Int):Int:=pd x 0-cdiv (pu x 2) 6+pd x 4 / 120-cdiv (pu x 6) 5040
def sHi (x:Int):Int:=pu x 0-pd x 2 / 6+cdiv (pu x 4) 120-pd x 6 / 5040+cdiv (pu x 8) 362880
def cLo (x:Int):Int:=1073741824-cdiv (pu x 1) 2+pd x 3 / 24-cdiv (pu x 5) 720+pd x 7 / 40320-cdiv (pu x 9) 3628800
def cHi (x:Int):Int:=1073741824-pd x 1 / 2+cdiv (pu x 3) 24-pd x 5 / 720+cdiv (pu x 7) 40320
theorem q_bd {a b:Int}(c:0<=a/\a<=1073741824)(d:0<b):0<=a / b/\a / b<=1073741824:=by
 have:=(Oz0 (a:=a) d).1 c.1;omega
theorem c_bd {a b:Int}(d:0<=a/\a<=1073741824)(c:0<b):0<=cdiv a b/\cdiv a b<=1073741824:=by
 have h:=az45 (a:=a) c;omega
theorem wq {a b:Int}(c:0<=a/\a<=1073741824)(d:0<b):qt.wrap (a.tdiv b)=a / b:=by
 have:=q_bd c d;grind[w64]
theorem in30 {a:Int}(b:0<=a/\a<=1073741824):InR a:=⟨qa,qa⟩
section
variable {x:Int} (h0:0<=x) (h1:x<=8192)
include h0 h1
theorem az0a:(Nzx x).o=some (encV (sLo x) (sHi x)):=by
 have P:=azdl h0 h1;have U:=azdv h0 h1;show(Czs x).run NN=_
 simp only[Czs,qj,T.ix,Bzt,qI,dzs (U 2).1 (U 2).2 (show(0:Int)<6 by decide) jp,dzs (U 6).1 (U 6).2 (show(0:Int)<5040 by decide) jp,
  dzs (U 4).1 (U 4).2 (show(0:Int)<120 by decide) jp,dzs (U 8).1 (U 8).2 (show(0:Int)<362880 by decide) jp,wq (P 4) (show(0:Int)<120 by decide),wq (P 2) (show(0:Int)<6 by decide),wq (P 6) (show(0:Int)<5040 by decide),
  alt4 (P 0) (c_bd (U 2) (show(0:Int)<6 by decide)) (q_bd (P 4) (show(0:Int)<120 by decide)) (c_bd (U 6) (show(0:Int)<5040 by decide)),
  alt5 (U 0) (q_bd (P 2) (show(0:Int)<6 by decide)) (c_bd (U 4) (show(0:Int)<120 by decide)) (q_bd (P 6) (show(0:Int)<5040 by decide)) (c_bd (U 8) (show(0:Int)<362880 by decide))]
 have f:=U 0;have e:=q_bd (P 2) (show(0:Int)<6 by decide);have g:=c_bd (U 4) (show(0:Int)<120 by decide);have d:=q_bd (P 6) (show(0:Int)<5040 by decide);have c:=c_bd (U 8) (show(0:Int)<362880 by decide);rw[xzq ⟨qa,qa⟩];rfl
theorem Uz9:(Gzu x).o=some (encV (cLo x) (cHi x)):=by
 have P:=azdl h0 h1;have U:=azdv h0 h1;have a:(0:Int)<=1073741824/\(1073741824:Int)<=1073741824:=jp
 show(vzd x).run NN=_
 simp only[vzd,qj,T.ix,Bzt,qI,dzs (U 1).1 (U 1).2 (show(0:Int)<2 by decide) jp,dzs (U 5).1 (U 5).2 (show(0:Int)<720 by decide) jp,dzs (U 9).1 (U 9).2 (show(0:Int)<3628800 by decide) jp,
  dzs (U 3).1 (U 3).2 (show(0:Int)<24 by decide) jp,dzs (U 7).1 (U 7).2 (show(0:Int)<40320 by decide) jp,wq (P 3) (show(0:Int)<24 by decide),wq (P 7) (show(0:Int)<40320 by decide),wq (P 1) (show(0:Int)<2 by decide),wq (P 5) (show(0:Int)<720 by decide),
  alt6 a (c_bd (U 1) (show(0:Int)<2 by decide)) (q_bd (P 3) (show(0:Int)<24 by decide)) (c_bd (U 5) (show(0:Int)<720 by decide)) (q_bd (P 7) (show(0:Int)<40320 by decide)) (c_bd (U 9) (show(0:Int)<3628800 by decide)),
  alt5 a (q_bd (P 1) (show(0:Int)<2 by decide)) (c_bd (U 3) (show(0:Int)<24 by decide)) (q_bd (P 5) (show(0:Int)<720 by decide)) (c_bd (U 7) (show(0:Int)<40320 by decide))]
 have g:=q_bd (P 1) (show(0:Int)<2 by decide);have f:=c_bd (U 3) (show(0:Int)<24 by decide);have d:=q_bd (P 5) (show(0:Int)<720 by decide);have e:=c_bd (U 7) (show(0:Int)<40320 by decide);rw[xzq ⟨qa,qa⟩];rfl
theorem az5j:(Tz5 x).o=some (encV (sLo x) (sHi x)):=by
 have P:=azdl h0 h1;have U:=azdv h0 h1;show(Izy x).run NN=_
 simp only[Izy,qj,T.ix,Lz8,qI,czl (in30 (U 2)) (show(0:Int)<6 by decide),czl (in30 (U 6)) (show(0:Int)<5040 by decide),czl (in30 (U 4)) (show(0:Int)<120 by decide),czl (in30 (U 8)) (show(0:Int)<362880 by decide),
  dzk (in30 (P 4)) (show(0:Int)<120 by decide),dzk (in30 (P 2)) (show(0:Int)<6 by decide),dzk (in30 (P 6)) (show(0:Int)<5040 by decide),azf7,az67]
 have k:=P 0;have d:=c_bd (U 2) (show(0:Int)<6 by decide);have f:=q_bd (P 4) (show(0:Int)<120 by decide);have e:=c_bd (U 6) (show(0:Int)<5040 by decide);have i:=U 0;have h:=q_bd (P 2) (show(0:Int)<6 by decide);have j:=c_bd (U 4) (show(0:Int)<120 by decide);have g:=q_bd (P 6) (show(0:Int)<5040 by decide);have c:=c_bd (U 8) (show(0:Int)<362880 by decide);rw[w64 (x:=pd x 0-cdiv (pu x 2) 6+pd x 4 / 120-cdiv (pu x 6) 5040) qa qa,w64 (x:=pu x 0-pd x 2 / 6+cdiv (pu x 4) 120-pd x 6 / 5040+cdiv (pu x 8) 362880) qa qa,Cza ⟨qa,qa⟩ ⟨qa,qa⟩];rfl
theorem Zz8:(Lz7 x).o=some (encV (cLo x) (cHi x)):=by
 have P:=azdl h0 h1;have U:=azdv h0 h1;show(Azu x).run NN=_
 simp only[Azu,qj,T.ix,Lz8,qI,czl (in30 (U 1)) (show(0:Int)<2 by decide),czl (in30 (U 5)) (show(0:Int)<720 by decide),czl (in30 (U 9)) (show(0:Int)<3628800 by decide),czl (in30 (U 3)) (show(0:Int)<24 by decide),czl (in30 (U 7)) (show(0:Int)<40320 by decide),
  dzk (in30 (P 3)) (show(0:Int)<24 by decide),dzk (in30 (P 7)) (show(0:Int)<40320 by decide),dzk (in30 (P 1)) (show(0:Int)<2 by decide),dzk (in30 (P 5)) (show(0:Int)<720 by decide),azf7,az67]
 have e:=c_bd (U 1) (show(0:Int)<2 by decide);have j:=q_bd (P 3) (show(0:Int)<24 by decide);have f:=c_bd (U 5) (show(0:Int)<720 by decide);have d:=q_bd (P 7) (show(0:Int)<40320 by decide);have g:=c_bd (U 9) (show(0:Int)<3628800 by decide);have i:=q_bd (P 1) (show(0:Int)<2 by decide);have k:=c_bd (U 3) (show(0:Int)<24 by decide);have h:=q_bd (P 5) (show(0:Int)<720 by decide);have c:=c_bd (U 7) (show(0:Int)<40320 by decide);rw[w64 (x:=1073741824-cdiv (pu x 1) 2+pd x 3 / 24-cdiv (pu x 5) 720+pd x 7 / 40320-cdiv (pu x 9) 3628800) qa qa,w64 (x:=1073741824-pd x 1 / 2+cdiv (pu x 3) 24-pd x 5 / 720+cdiv (pu x 7) 40320) qa qa,Cza ⟨qa,qa⟩ ⟨qa,qa⟩];rfl
end
def qV (r:Int):az0:=if r<=8192 then encV (sLo r) (sHi r)else encV (cLo (16384-r)) (cHi (16384-r))
theorem Xz4 {r:Int}(a:0<=r)(b:r<=16384):(kzp r).o=some (qV r):=by
 show(yzu r).run NN=_
 grind[yzu,qj,qV,az0a,w64,Uz9]
theorem Vz7 {r:Int}(a:0<=r)(b:r<=16384):(jza r).o=some (qV r):=by
 show(wzm r).run NN=_
 grind[wzm,qj,qV,az5j,w64,Zz8]
theorem azfh (a:Int):(((BitVec.ofInt 64 a&&&BitVec.ofInt 64 65535).toNat:Nat):Int)=a % 65536:=by
 have b:(BitVec.ofInt 64 65535).toNat=2 ^ 16-1:=jp
 rw[BitVec.toNat_and,b,Nat.and_two_pow_sub_one_eq_mod,BitVec.toNat_ofInt];omega
theorem rzn (a:Int):(kzr a).o=some (a % 65536):=by
 show(rzm a).run NN=_
 grind[rzm,qj,azfh,w64]
theorem Nza (a:Int):(Gz2 a).o=some (a % 65536):=by
 show(Nz9 a).run NN=_
 grind[Nz9,qj,w64]
def sinV (a:Int):az0:=
 if a % 65536 / 16384=0 then qV (a % 65536 % 16384)else if a % 65536 / 16384=1 then qV (16384-a % 65536 % 16384)else
 if a % 65536 / 16384=2 then negV (qV (a % 65536 % 16384))else negV (qV (16384-a % 65536 % 16384))
theorem Qzx (a:Int):(yzt a).o=some (sinV a):=by
 show(Hzx a).run NN=_;simp only[Hzx,qj,rzn,qI,sinV]
 grind[w64,Xz4,Hz2]
theorem Wzt (a:Int):(Gz4 a).o=some (sinV a):=by
 show(Nzd a).run NN=_;simp only[Nzd,qj,Nza,qI,sinV]
 grind[w64,Vz7,Wzs]
def cosV (a:Int):az0:=sinV (a % 65536+16384)
theorem az3z (a:Int):(Hzv a).o=some (cosV a):=by
 show(Hzw a).run NN=_;simp only[Hzw,qj,rzn,qI,cosV]
 grind[w64,Qzx]
theorem az9b (a:Int):(Nz6 a).o=some (cosV a):=by
 show(Nz7 a).run NN=_;simp only[Nz7,qj,Nza,qI,cosV]
 grind[w64,Wzt]
def Pzd (a:az0)(c:Int):Bool:=qv (a.Lo+(c-a.Lo) % 65536<=a.Hi)
def azoh (b:Bool)(x y:az0):az0:=if b then az8v x y else x
def az24 (a lo d:az0)(b c:Int):az0:=
 if vV a then(if a.Hi-a.Lo>=65536 then⟨-65536,65536⟩else azoh (Pzd a c) (azoh (Pzd a b) (az8v lo d) (ofV 65536)) (ofV (-65536)))else iz
section
variable {a:az0} (h:vV a=true) {c:Int} (h0:0<=c) (h1:c<=65536)
include h h0 h1
theorem qzg:(kzq a c).o=some (Pzd a c):=by
 show(yzv a c).run NN=_;have b:=h;simp only[vV_iff]at b;simp only[yzv,qj,rzn,qI,Uzt,h,qM,Pzd];rw[w64 (x:=c-a.Lo) qa qa,w64 qa qa,qg (p:=a.Lo<=_) qa,qM]
theorem Ozm:(Ezp a c).o=some (Pzd a c):=by
 show(Ezq a c).run NN=_;have b:=h;simp only[vV_iff]at b;simp only[Ezq,qj,Nza,qI,Pzd];rw[w64 (x:=c-a.Lo) qa qa,w64 qa qa]
end
theorem az09 (a:az0){t b:Int}(d:0<=t/\t<=65536)(c:0<=b/\b<=65536):(Nzw a t b).o=some (az24 a (cosV a.Lo) (cosV a.Hi) t b):=by
 show(Czr a t b).run NN=_;simp only[Czr,qj,czb,qI,az24];cases h:vV a
 ·rfl
 ·simp only[qJ,qd,Cz0 a h,qI,az3z,Dzo,qzg h d.1 d.2,qzg h c.1 c.2,izj,if_true];by_cases e:a.Hi-a.Lo>=65536
  ·simp_all
  ·rw[azb e,qb e];cases Pzd a t<;>cases Pzd a b<;>rfl
theorem Uza (a:az0){t b:Int}(d:0<=t/\t<=65536)(c:0<=b/\b<=65536):(Gzv a t b).o=some (az24 a (sinV a.Lo) (sinV a.Hi) t b):=by
 show(vze a t b).run NN=_;simp only[vze,qj,czb,qI,az24];cases h:vV a
 ·rfl
 ·simp only[qJ,qd,Cz0 a h,qI,Qzx,Dzo,qzg h d.1 d.2,qzg h c.1 c.2,izj,if_true];by_cases e:a.Hi-a.Lo>=65536
  ·simp_all
  ·rw[azb e,qb e];cases Pzd a t<;>cases Pzd a b<;>rfl
theorem Tz4 (a lo c:az0){t b:Int}(d:0<=t/\t<=65536)(f:0<=b/\b<=65536):(Izw a lo c t b).o=some (az24 a lo c t b):=by
 show(Izx a lo c t b).run NN=_;simp only[Izx,qj,fz5,qI,az24];cases h:vV a
 ·rfl
 ·have g:=h;simp only[vV_iff]at g;rw[w64 qa qa];simp only[qJ,qd,qI,az5g,Ozm h d.1 d.2,Ozm h f.1 f.2,Lz5,if_true];by_cases e:a.Hi-a.Lo>=65536
  ·simp_all
  ·rw[azb e,qb e];cases Pzd a t<;>cases Pzd a b<;>rfl
def sinO (a:az0):az0:=az24 a (sinV a.Lo) (sinV a.Hi) 16384 49152
def cosO (a:az0):az0:=az24 a (cosV a.Lo) (cosV a.Hi) 0 32768
theorem Qzw (a:az0):(Czq a).o=some (sinO a):=by
 show(rzk a).run NN=_
 grind[rzk,qj,Uza,sinO]
theorem Qzv (a:az0):(Czp a).o=some (cosO a):=by
 show(rzj a).run NN=_
 grind[rzj,qj,az09,cosO]
theorem Vz8 (a:az0):(Hzg a).o=some (sinO a):=by
 show(wzn a).run NN=_
 grind[wzn,qj,Wzt,Tz4,sinO]
theorem Vz6 (a:az0):(Hzf a).o=some (cosO a):=by
 show(wzl a).run NN=_
 simp_all[wzl,qj,az9b,Tz4,cosO]
abbrev IV3:=az0×az0×az0
abbrev IM3:=IV3×IV3×IV3
def izv:IV3:=(iz,iz,iz)
def Dzy (v:Int×Int×Int):IV3:=(ofV v.1,ofV v.2.1,ofV v.2.2)
def az9t:IM3:=((ofV 65536,iz,iz),(iz,ofV 65536,iz),(iz,iz,ofV 65536))
def az8b (a b:IV3):IV3:=(addV a.1 b.1,addV a.2.1 b.2.1,addV a.2.2 b.2.2)
def dotV (r v:IV3):az0:=addV (addV (mulV r.1 v.1) (mulV r.2.1 v.2.1)) (mulV r.2.2 v.2.2)
def Vzx (m:IM3)(v:IV3):IV3:=(dotV m.1 v,dotV m.2.1 v,dotV m.2.2 v)
def lim1 (a:az0):az0:=⟨max (-65536) (min a.Lo 65536),max (-65536) (min a.Hi 65536)⟩
def rowV (r:IV3)(b:IM3):IV3:=(lim1 (dotV r (b.1.1,b.2.1.1,b.2.2.1)),lim1 (dotV r (b.1.2.1,b.2.1.2.1,b.2.2.2.1)),lim1 (dotV r (b.1.2.2,b.2.1.2.2,b.2.2.2.2)))
def azb1 (a b:IM3):IM3:=(rowV a.1 b,rowV a.2.1 b,rowV a.2.2 b)
def az3q (axis:Int)(a:az0):IM3:=
 if vV a then(if axis=0 then((ofV 65536,iz,iz),(iz,cosO a,negV (sinO a)),(iz,sinO a,cosO a))else
  if axis=1 then((cosO a,iz,sinO a),(iz,ofV 65536,iz),(negV (sinO a),iz,cosO a))else
  if axis=2 then((cosO a,negV (sinO a),iz),(sinO a,cosO a,iz),(iz,iz,ofV 65536))else(izv,izv,izv))else(izv,izv,izv)
def Ozw (v:IV3):bz7:=⟨az9t,v⟩
def az5p:bz7:=⟨az9t,izv⟩
def az49 (a b:bz7):bz7:=⟨azb1 a.R b.R,az8b a.T (Vzx a.R b.T)⟩
def az1s (p:bz7)(v:IV3):IV3:=az8b p.T (Vzx p.R v)
def Ozy (k:Int)(a:az0):IV3:=if k=4 then(a,iz,iz)else if k=5 then(iz,a,iz)else(iz,iz,a)
def Kz4 (j:azt)(a:az0):bz7:=
 az49 (Ozw (Dzy j.XA)) (if j.Xo=1\/j.Xo=2\/j.Xo=3 then⟨az3q (j.Xo-1) a,izv⟩else if j.Xo=4\/j.Xo=5\/j.Xo=6 then Ozw (Ozy j.Xo a)else az5p)
theorem azfr {a b:Int}(h:a<=b):clV a<=clV b:=by unfold clV;omega
theorem azj8 (a:Int): -2147483648<=clV a/\clV a<=2147483648:=by unfold clV;omega
theorem azow {a b:Int}(h:a<=b):vV (limV a b)=true:=by
 rw[vV_iff];exact⟨(azj8 a).1,azfr h,(azj8 b).2⟩
theorem iz_v:vV iz=true:=rfl
theorem of0:ofV 0=iz:=rfl
theorem Yz5 {a b c:Int}(h:a<=b)(hc:0<c):a / c<=cdiv b c:=by
 have h1:=Wz6 (a:=a) hc;have h2:=Wz6 (a:= -b) hc;unfold cdiv;by_cases e:a / c<= -(-b / c)
 ·exact e
 ·exfalso
  have h3:c * (-(-b / c))<c * (a / c):=Int.mul_lt_mul_of_pos_left qa hc;rw[qx]at h3;omega
theorem azp0 (a b:az0):vV (mulV a b)=true:=by
 unfold mulV;split
 ·rename_i h;simp only[qm]at h;exact azow (Yz5 (azcx h.1 h.2).2.2 jp)
 ·exact iz_v
theorem azks {x:az0}(h:vV x=true):addV iz x=x:=by
 have hv:=h;rw[vV_iff]at hv;obtain⟨lo,hi⟩:=x;simp only at hv;have e1:clV (0+lo)=lo:=by unfold clV;omega
 have e2:clV (0+hi)=hi:=by unfold clV;omega
 simp only[addV,h,iz_v,qN,if_true,limV];exact congr (congrArg az0.mk e1) e2
theorem add0 (a b:az0):addV ⟨0,0⟩ (mulV a b)=mulV a b:=azks (azp0 a b)
theorem nzz (v:Int×Int×Int):(jz5 v).o=some (Dzy v):=by
 show(vzx v).run NN=_;simp only[vzx,qj,izj,qI,Dzy]
theorem ozj (v:Int×Int×Int):(uzx v).o=some (Dzy v):=by
 show(Ezj v).run NN=_;simp only[Ezj,qj,Lz5,qI,Dzy]
theorem Mzu:matrix_Identity_C.o=some az9t:=by
 show matrix_Identity_T.run NN=_;simp only[matrix_Identity_T,qj,izj,qI,az9t,iz]
theorem Tz3:ref1_Unit_C.o=some az9t:=by
 show ref1_Unit_T.run NN=_;simp only[ref1_Unit_T,qj,Lz5,qI,az9t,iz]
theorem Ozc (a b:IV3):(Ozb a b).o=some (az8b a b):=by
 show(Dzu a b).run NN=_;simp only[Dzu,qj,vzr,qI,az8b]
theorem Lz4 (a b:IV3):(Azq a b).o=some (az8b a b):=by
 show(Azr a b).run NN=_;simp only[Azr,qj,Nz4,qI,az8b]
theorem Hz6 (m:IM3)(v:IV3):(Hz5 m v).o=some (Vzx m v):=by
 show(vzw m v).run NN=_;simp only[vzw,qj,vzr,Hz1,qI,add0,Vzx,dotV]
theorem Ezf (m:IM3)(v:IV3):(szk m v).o=some (Vzx m v):=by
 show(szl m v).run NN=_;simp only[szl,qj,Nz4,Wzr,qI,Vzx,dotV]
theorem Pzc (x:Int):(bz5 x).o=some (max (-65536) (min x 65536)):=by
 show(pza x).run NN=_;simp only[pza,qj,Option.some.injEq];omega
set_option maxRecDepth 20000 in
theorem Pzb (a b:IM3):(Cz3 a b).o=some (azb1 a b):=by
 show(pz9 a b).run NN=_;simp only[pz9,qj,vzr,Hz1,Pzc,qI,add0,azb1,rowV,dotV,lim1]
set_option maxRecDepth 20000 in
theorem Nz5 (a b:IM3):(yz6 a b).o=some (azb1 a b):=by
 show(nz6 a b).run NN=_;simp only[nz6,qj,Nz4,Wzr,qI,azb1,rowV,dotV,lim1]
theorem Yzo (k:Int)(a:az0):(Kz9 k a).o=some (az3q k a):=by
 show(zzz k a).run NN=_;simp only[zzz,qj,czb,Qzv,Qzw,Hz2,izj,qI,az3q,of0];cases h:vV a
 ·rfl
 ·simp only[qJ,qd,if_true];by_cases h0:k=0
  ·rw[gz5 h0,qc h0]
  ·rw[fzu h0,qb h0];by_cases h1:k=1
   ·rw[gz5 h1,qc h1]
   ·rw[fzu h1,qb h1];by_cases h2:k=2
    ·rw[gz5 h2,qc h2]
    ·rw[fzu h2,qb h2];rfl
theorem az5i (k:Int)(a:az0):(Tz2 k a).o=some (az3q k a):=by
 show(Izv k a).run NN=_;simp only[Izv,qj,fz5,Vz6,Vz8,Wzs,Lz5,qI,az3q];cases h:vV a
 ·rfl
 ·simp only[qJ,qd,if_true];by_cases h0:k=0
  ·rw[gz5 h0,qc h0];rfl
  ·rw[fzu h0,qb h0];by_cases h1:k=1
   ·rw[gz5 h1,qc h1];rfl
   ·rw[fzu h1,qb h1];by_cases h2:k=2
    ·rw[gz5 h2,qc h2];rfl
    ·rw[fzu h2,qb h2];rfl
theorem Ozi:pose_still_C.o=some izv:=by
 show pose_still_T.run NN=_;simp only[pose_still_T,qj,nzz,qI,Dzy,of0,izv]
theorem oze (v:IV3):(uzp v).o=some (Ozw v):=by
 show(Ez2 v).run NN=_;simp only[Ez2,qj,Mzu,qI,Ozw]
theorem Ez1:pose_Identity_C.o=some az5p:=by
 show pose_Identity_T.run NN=_;simp only[pose_Identity_T,qj,Ozi,oze,qI,Ozw,az5p]
theorem az5a (k:Int)(a:az0):(Szt k a).o=some ⟨az3q k a,izv⟩:=by
 show(Izk k a).run NN=_;simp only[Izk,qj,Yzo,Ozi,qI]
theorem oz0 (a b:bz7):(jz6 a b).o=some (az49 a b):=by
 show(vzz a b).run NN=_;have h1:(uzq a).o=(ozf a).run NN:=rfl;simp only[vzz,qj,h1,ozf,qI,Pzb];refine Eq.trans (congrArg (λo=>qO o _) (show(oz1 _ _ _ _ _ _ _ _ _ _ _ _ _ _ _ _ _ _ _ _ _ _ _ _ _).o=(jz7 _ _ _ _ _ _ _ _ _ _ _ _ _ _ _ _ _ _ _ _ _ _ _ _ _).run NN from rfl)) ?_;simp only[jz7,qj,Hz6,Ozc,qI];rfl
theorem Ozh (a:bz7)(v:IV3):(Dzz a v).o=some (az1s a v):=by
 show(Ez0 a v).run NN=_;have h1:(uzq a).o=(ozf a).run NN:=rfl;simp only[Ez0,qj,h1,ozf,qI];refine Eq.trans (congrArg (λo=>qO o _) (show(oz1 _ _ _ _ _ _ _ _ _ _ _ _ _ _ _ _ _ _ _ _ _ _ _ _ _).o=(jz7 _ _ _ _ _ _ _ _ _ _ _ _ _ _ _ _ _ _ _ _ _ _ _ _ _).run NN from rfl)) ?_;simp only[jz7,qj,Hz6,Ozc,qI];rfl
theorem Tz0:ref1_Rest_C.o=some az5p:=by
 show ref1_Rest_T.run NN=_;simp only[ref1_Rest_T,qj,Tz3,qI];rfl
theorem Ezm (v:IV3):(Ezk v).o=some (Ozw v):=by
 show(Ezl v).run NN=_;simp only[Ezl,qj,Tz3,qI,Ozw]
theorem Tz1 (k:Int)(a:az0):(Ezn k a).o=some ⟨az3q k a,izv⟩:=by
 show(szn k a).run NN=_;simp only[szn,qj,az5i,qI];rfl
theorem oz2 (a b:bz7):(wzj a b).o=some (az49 a b):=by
 show(wzk a b).run NN=_;simp only[wzk,qj,Nz5,Ezf,Lz4,qI,az49]
theorem Ozl (a:bz7)(v:IV3):(Ezg a v).o=some (az1s a v):=by
 show(Ezh a v).run NN=_;simp only[Ezh,qj,Ezf,Lz4,qI,az1s]
theorem az42 (k:Int)(a:az0):(Rz0 k a).o=some ⟨az3q k a,izv⟩:=by
 show(Hzz k a).run NN=_;simp only[Hzz,qj,az5a,qI]
theorem az41 (k:Int)(a:az0):(Qzz k a).o=some az5p:=by
 show(Hzy k a).run NN=_;simp only[Hzy,qj,Ez1,qI]
theorem az0d {k:Int}(a:az0)(h:k=4\/k=5\/k=6):(Nzy (k-4) a).o=some (Ozw (Ozy k a)):=by
 show(Czt (k-4) a).run NN=_;simp only[Czt,qj];rcases h with rfl|rfl|rfl
 ·simp only[show((4-4:Int)==0)=true from rfl,qe,az3,oze];rfl
 ·simp only[show((5-4:Int)==0)=false from rfl,show((5-4:Int)==1)=true from rfl,qe,qd,az3,oze];rfl
 ·simp only[show((6-4:Int)==0)=false from rfl,show((6-4:Int)==1)=false from rfl,show((6-4:Int)==2)=true from rfl,qe,qd,az3,oze];rfl
theorem az8y (k a b c:Int){R:Type}:(bif k==a then some (.out (k==a))else bif k==b then some (.out (k==b))else some (.out (k==c)):Option (Step3 Unit Bool R))=some (.out (qv (k=a\/k=b\/k=c))):=by
 by_cases h1:k=a
 ·rw[gz5 h1];simp[h1]
 ·rw[fzu h1];by_cases h2:k=b
  ·rw[gz5 h2];simp[h2]
  ·rw[fzu h2];simp[h1,h2,Bool.beq_eq_decide_eq]
theorem mo0 (k:Int):(gzh k).o=if k=1\/k=2\/k=3 then some (k-1)else none:=by
 show(gzi k).run NN=_;simp only[gzi,qj,az8y,az3];by_cases h:k=1\/k=2\/k=3
 ·rw[az5 h,qc h,w64 qa qa]
 ·rw[azb h,qb h];cases qv (k=4\/k=5\/k=6)<;>rfl
theorem mo1 (k:Int)(h:¬ (k=1\/k=2\/k=3)):(gzj k).o=if k=4\/k=5\/k=6 then some (k-4)else none:=by
 show(gzk k).run NN=_;simp only[gzk,qj,az8y,az3];rw[azb h];by_cases h:k=4\/k=5\/k=6
 ·rw[az5 h,qc h,w64 qa qa]
 ·rw[azb h,qb h]
theorem mo2 (k:Int)(h:¬ (k=1\/k=2\/k=3))(h':¬ (k=4\/k=5\/k=6)):(kz8 k).o=some 0:=by
 show(gzl k).run NN=_;simp only[gzl,qj,az8y,az3];rw[azb h,azb h']
theorem Kz5 (j:azt)(a:az0):(uzd j a).o=some (Kz4 j a):=by
 show(lz2 j a).run NN=_;simp only[lz2,qj,nzz,oze,qI,mo0,Kz4];by_cases h:j.Xo=1\/j.Xo=2\/j.Xo=3
 ·simp only[qc h,qP,qe,qI,az42,oz0]
 ·simp only[qb h,qQ,qd,mo1 _ h];by_cases h':j.Xo=4\/j.Xo=5\/j.Xo=6
  ·simp only[qc h',qP,qe,qI,az0d a h',oz0]
  ·simp only[qb h',qQ,qd,mo2 _ h h',qI,az41,oz0]
theorem azpk (k:Int)(a:az0){R:Type}(h:k=4\/k=5\/k=6):(bif qt.wrap (k-4)==0 then some (.out (a.Lo,a.Hi,0,0,0,0))else bif qt.wrap (k-4)==1 then some (.out (0,0,a.Lo,a.Hi,0,0))else
 bif qt.wrap (k-4)==2 then some (.out (0,0,0,0,a.Lo,a.Hi))else none:Option (Step3 Unit (Int×Int×Int×Int×Int×Int) R))=some (.out ((Ozy k a).1.Lo,(Ozy k a).1.Hi,(Ozy k a).2.1.Lo,(Ozy k a).2.1.Hi,(Ozy k a).2.2.Lo,(Ozy k a).2.2.Hi)):=by
 rw[w64 qa qa];rcases h with rfl|rfl|rfl<;>rfl
theorem Zz0 (j:azt)(a:az0):(Kzs j a).o=some (Kz4 j a):=by
 show(Az6 j a).run NN=_;simp only[Az6,qj,Tz0,qI,az8y,az3,Kz4];by_cases h:j.Xo=1\/j.Xo=2\/j.Xo=3
 ·simp only[az5 h,qc h,Tz1,qI,az3,ozj,Ezm,oz2];rw[w64 qa qa]
 ·simp only[azb h,qb h];by_cases h':j.Xo=4\/j.Xo=5\/j.Xo=6
  ·simp only[az5 h',qc h',azpk _ _ h',az3,ozj,Ezm,oz2,qI]
  ·simp only[azb h',qb h',az3,ozj,Ezm,oz2,qI]
theorem dz9 {R:Type}{f:Int->Option (Step3 Int U0 R)}{k:U0->Option R}(g:Nat->Option R)(n:Nat)(a:n<4294967296)
 (c:∀j,j<n->f (j:Int)=match g j with|some r=>some (.fin r)|none=>some (.next ((j+1:Nat):Int))) (b:f (n:Int)=some (.out .u)):
 andK (iter f NN 0) k=match scan g n 0 with|some r=>some r|none=>k .u:=hz3 (λj=>(j:Int)) g .u n rfl a c b
theorem wn {n:Nat}(h:n<4294967296):qt.wrap ((n:Int)+1)=((n+1:Nat):Int):=w64n qa
def sw {R:Type}(b:Bool)(r:R):Option R:=bif b then some r else none
theorem czs {σ τ R:Type}{b:Bool}{r:R}{x:σ}:(bif b then some (.fin r)else some (.next x):Option (Step3 σ τ R))=match sw b r with|some r=>some (.fin r)|none=>some (.next x):=by cases b<;>rfl
def bz1 (g:Nat->Bool)(n:Nat):Bool:=qv (∀i,i<n->g i=false)
theorem bzf {R:Type}{g:Nat->Bool}{n:Nat}{r:R}:scan (λi=>sw (g i) r) n 0=sw (!bz1 g n) r:=by
 cases h:scan (λi=>sw (g i) r) n 0<;>grind[sw,ez3,bz1,ezh]
theorem noneB_iff {g:Nat->Bool}{n:Nat}:bz1 g n=true↔∀i,i<n->g i=false:=by simp[bz1]
theorem Szb {g a:Nat->Bool}{n:Nat}(h:∀i,i<n->g i=a i):bz1 g n=bz1 a n:=by
 grind[bz1]
theorem azog (s:ByteArray)(i:Nat):s.get! i=s.data.getD i 0:=by
 rfl
def Pz1 (s:ByteArray)(i:Nat):Nat:=(s.data.getD i 0).toNat
theorem azje {s:ByteArray}{i:Nat}(h:Pz1 s i<128):Utf8.decode s i=(Pz1 s i,1):=by
 exact qc h
theorem azo8 {s:ByteArray}{i:Nat}(h:128<=Pz1 s i):128<=(Utf8.decode s i).1:=by
 grind[Lib.decode_at,azog,Lib.decodeN,Pz1]
def badN (s:ByteArray)(i:Nat):Bool:=qv (¬ (97<=Pz1 s i/\Pz1 s i<=122)/\(i=0\/(Pz1 s i≠95/\¬ (48<=Pz1 s i/\Pz1 s i<=57))))
def Izg (s:ByteArray):Bool:= !(qv (s.size=0)||(qv (16<s.size)||(s==⟨#[119,111,114,108,100]⟩)))&&bz1 (badN s) s.size
theorem Tzc (s:ByteArray):(Jz0 s).o=some (Izg s):=by
 show(Jz1 s).run NN=_;simp only[Jz1,qj,bzb,az3,Izg,ezo];have a:qv ((s.size:Int)<1)=qv (s.size=0):=jt
 have b:qv ((s.size:Int)>16)=qv (16<s.size):=jt
 rw[a,b];cases h:(qv (s.size=0)||(qv (16<s.size)||(s==⟨#[119,111,114,108,100]⟩)))
 ·simp only[qp,qi]at h;refine(dz9 (λi=>sw (badN s i) false) s.size qa (λj c=>?_) ?_).trans ?_
  ·rw[az5 qa,<-czs,wn qa];simp only[qF,az8 (show 0<=(j:Int)/\(j:Int)<(s.size:Int) from qa),bzb,az3]
   grind[badN,Pz1]
  ·simp_all
  ·rw[bzf];cases bz1 (badN s) s.size<;>rfl
 ·rfl
theorem Qz8 (a:Int):(Czg a).o=some (qv (97<=a)&&qv (a<=122)):=by
 show(qza a).run NN=_
 grind[qza,qj]
theorem Uz1 (a:Int):(Fzq a).o=some (qv (48<=a)&&qv (a<=57)):=by
 show(tzt a).run NN=_
 grind[tzt,qj]
theorem Pz0 (s:ByteArray):(Fzo s).o=some (Izg s):=by
 show(Fzp s).run NN=_;simp only[Fzp,qj,bzb,az3,Izg,ezo];have e:((s.size:Int)==0)=qv (s.size=0):=jt
 have d:qv ((s.size:Int)>16)=qv (16<s.size):=jt
 rw[e,d];cases h:(qv (s.size=0)||(qv (16<s.size)||(s==⟨#[119,111,114,108,100]⟩)))
 ·simp only[qp,qi]at h;refine(hz3 (λj=>j) (λi=>sw (badN s i) false) .u s.size rfl (show s.size<4294967296 from qa) (λj f=>?_) ?_).trans ?_
  ·rw[az5 f];simp only[Qz8,Uz1,qI,bzb,az3]
   have a:(bif !(qv (97<=((Utf8.decode s j).1:Int))&&qv (((Utf8.decode s j).1:Int)<=122))then bif ((j:Int)==0)then true else
    bif !(qv (48<=((Utf8.decode s j).1:Int))&&qv (((Utf8.decode s j).1:Int)<=57))then((Utf8.decode s j).1:Int) !=95 else false else false)=badN s j:=by
    by_cases g:Pz1 s j<128
    ·grind[azje,badN]
    grind[azo8,badN]
   rw[a];cases c:badN s j
   ·have:Pz1 s j<128:=by
     grind[badN]
    rw[azje this];rfl
   ·rfl
  ·simp_all
  ·rw[bzf];cases bz1 (badN s) s.size<;>rfl
 ·rfl
def Rzp (l:List azt)(a:ByteArray)(i:Nat):Bool:=(l.getD i qu).XG==a
theorem az31 (r:azl)(a:ByteArray)(h:r.Xc.length<4294967296):(Ozu r a).o=some (match scan (λi=>sw (Rzp r.Xc a i) (i:Int)) r.Xc.length 0 with|some x=>x|none=> -1):=by
 show(Fza r a).run NN=_;simp only[Fza,qj];refine(dz9 (λi=>sw (Rzp r.Xc a i) (i:Int)) r.Xc.length h (λj b=>?_) ?_).trans ?_;all_goals grind[az8,wn,sw,Rzp]
theorem azkw (b:ByteArray):(b==b)=true:=by
 obtain⟨d⟩:=b;show(d==d)=true
 simp_all
theorem azlc {l:List azt}{i:Nat}(b:i<l.length):((match scan (λk=>sw (Rzp l (l.getD i qu).XG k) (k:Int)) l.length 0 with|some x=>x|none=> -1) !=(i:Int))= !bz1 (Rzp l (l.getD i qu).XG) i:=by
 have a:Rzp l (l.getD i qu).XG i=true:=azkw _;cases h:scan (λk=>sw (Rzp l (l.getD i qu).XG k) (k:Int)) l.length 0 with
 |none=>
  grind[ez3,sw]
 |some x=>
  grind[ezh,sw,noneB_iff]
def jzx (v:Int×Int×Int)(m:Int):Bool:=qv (-m<=v.1)&&(qv (v.1<=m)&&(qv (-m<=v.2.1)&&(qv (v.2.1<=m)&&(qv (-m<=v.2.2)&&qv (v.2.2<=m)))))
theorem nearV_iff {v:Int×Int×Int}{m:Int}:jzx v m=true↔(-m<=v.1/\v.1<=m)/\(-m<=v.2.1/\v.2.1<=m)/\(-m<=v.2.2/\v.2.2<=m):=by
 grind[jzx]
theorem fzh (v:Int×Int×Int){m:Int}(a:0<=m)(b:m<=9223372036854775807):(ezs v m).o=some (jzx v m):=by
 show(Jz2 v m).run NN=_;simp only[Jz2,qj,bzb,az3]
 grind[w64,nearV_iff]
def bey (x:Int):Bool:=qv (x< -4194304)||qv (x>4194304)
theorem Hzp (v:Int×Int×Int):(xz9 v).o=some (!jzx v 4194304):=by
 show(xza v).run NN=_;simp only[xza,qj,bzb,az3,ezo];refine(dz9 (λi=>sw (bey (([v.1,v.2.1,v.2.2]:List Int).getD i 0)) true) 3 jp (λj e=>?_) ?_).trans ?_
 ·rw[az5 qa,az8 qa,wn qa,qF,<-czs];rfl
 ·rfl
 ·rw[bzf];have:bz1 (λi=>bey (([v.1,v.2.1,v.2.2]:List Int).getD i 0)) 3=jzx v 4194304:=by
   rw[qR,noneB_iff,nearV_iff];constructor
   ·intro h;have a:=h 0 jp;have b:=h 1 jp;have c:=h 2 jp
    grind[bey]
   grind[bey]
  rw[this];cases jzx v 4194304<;>rfl
def ozg (k:Int):Int:=if k=0 then 0 else if k=1\/k=2\/k=3 then 524288 else 4194304
theorem Zzh {k:Int}(a:0<=k)(b:k<=6):(Lzh k).o=some (ozg k):=by
 show(Bzg k).run NN=_;simp only[Bzg,qj,az8y,az3,ozg]
 grind
theorem az2y (k:Int):(Ozs k).o=some (ozg k):=by
 show(Fz3 k).run NN=_;simp only[Fz3,qj,az8y,az3,ozg]
 grind
def betV (x a b:Int):Bool:=qv (a<=x)&&qv (x<=b)
theorem Lzg (x m:Int):(izr x m).o=some (betV x 1 m):=by
 show(Bzf x m).run NN=_
 grind[Bzf,qj,betV]
theorem xz7 (x a b:Int):(gz3 x a b).o=some (betV x a b):=by
 show(xz6 x a b).run NN=_
 grind[xz6,qj,betV]
def azfv (j:azt):Bool:=betV j.XP 1 1024&&(betV j.XS 1 1048576&&(betV j.XT 1 1048576&&betV j.XQ 1 1099511627776))
def Kz3 (l:List azt)(i:Nat):Int:=
 let j:=l.getD i qu
 if !Izg j.XG|| !bz1 (Rzp l j.XG) i then 802 else if qv (j.Xo<0)||qv (j.Xo>6)then 803 else if qv (j.XD< -1)||qv (j.XD>=(i:Int))then 804 else if !jzx j.XA 4194304 then 805 else
 if qv (j.Lo>j.Hi)||(qv (j.Lo< -ozg j.Xo)||qv (j.Hi>ozg j.Xo))then 806 else if !azfv j then 807 else 0
theorem azo6:∀a b c d:Bool,(bif !a||(!b||(!c|| !d))then some (807:Int)else some 0)=some (if(!(a&&(b&&(c&&d))))=true then 807 else 0):=jp
theorem Kzr (k:Int):0<=ozg k/\ozg k<=4194304:=by grind[ozg]
theorem az1v (k:Int):qt.wrap (0-ozg k)= -ozg k:=by
 have:=Kzr k;grind[w64]
theorem Lzf (r:azl){i:Nat}(a:i<r.Xc.length)(h:r.Xc.length<4294967296):(vz3 r (i:Int)).o=some (Kz3 r.Xc i):=by
 show(lzo r (i:Int)).run NN=_;simp only[lzo,qj];rw[az8 qa,qF];simp only[Pz0,az31 r _ h,Hzp,Lzg,qI,bzb,az3,Kz3];rw[azlc a];generalize r.Xc.getD i qu=j;cases e:Izg j.XG
 ·rfl
 ·cases d:bz1 (Rzp r.Xc j.XG) i
  ·rfl
  ·by_cases c:j.Xo<0
   ·simp_all
   ·by_cases b:j.Xo>6
    ·simp_all
    ·simp only[qh c,qh b,qd,Bool.or_self,qb qS,Zzh (show 0<=j.Xo from qa) qa,qI,az1v,ezo];cases qv (j.XD< -1)||qv (j.XD>=(i:Int))
     ·cases jzx j.XA 4194304
      ·rfl
      ·cases qv (j.Lo>j.Hi)||(qv (j.Lo< -ozg j.Xo)||qv (j.Hi>ozg j.Xo));all_goals simp_all[azfv,azo6]
     ·rfl
theorem Nze (l:List azt){i:Nat}(d:i<l.length)(h:l.length<4294967296):(yz7 l (i:Int)).o=some (Kz3 l i):=by
 show(nzh l (i:Int)).run NN=_;simp only[nzh,qj];rw[az8 qa,qF];simp only[Tzc,qI,Kz3];cases c:Izg (l.getD i qu).XG
 ·rfl
 ·refine(dz9 (λk=>sw (Rzp l (l.getD i qu).XG k) 802) i qa (λj a=>?_) ?_).trans ?_
  ·rw[az5 qa,az8 qa,wn qa,qF,<-czs];rfl
  ·simp_all
  ·rw[bzf];generalize l.getD i qu=j;cases b:bz1 (Rzp l j.XG) i
   ·rfl
   ·simp only[qJ,sw,qd,fzh _ (show(0:Int)<=4194304 by decide) jp,az2y,xz7,qI,az1v,bzb,az3,ezo];cases qv (j.Xo<0)||qv (j.Xo>6)
    ·cases qv (j.XD< -1)||qv (j.XD>=(i:Int))
     ·cases jzx j.XA 4194304
      ·rfl
      ·cases qv (j.Lo>j.Hi)||(qv (j.Lo< -ozg j.Xo)||qv (j.Hi>ozg j.Xo))
       ·exact azo6 _ _ _ _
       ·rfl
     ·rfl
    ·rfl
def tab {a:Type}(f:Nat->a)(n:Nat):List a:=(List.range n).map f
theorem ezq {a:Type}(f:Nat->a)(n:Nat):tab f (n+1)=tab f n++[f n]:=by simp[tab,qT]
theorem bzp {a:Type}(f:Nat->a)(n:Nat):(tab f n).length=n:=by simp[tab]
theorem jz3 {a:Type}{f:Nat->a}{n i:Nat}{d:a}(h:i<n):(tab f n).getD i d=f i:=by grind[tab]
def half {a:Type}(f:Nat->a)(z:a)(n j:Nat):List a:=tab f j++List.replicate (n-j) z
theorem zzm {a:Type}{f:Nat->a}{z:a}{n j:Nat}(h:j<=n):(half f z n j).length=n:=by grind[half,bzp]
theorem zzn {a:Type}{f:Nat->a}{z:a}{n j:Nat}(h:j<n):(half f z n j).set j (f j)=half f z n (j+1):=by
 unfold half;rw[List.set_append_right _ _ (by rw[bzp];omega),bzp,Nat.sub_self];obtain⟨m,b⟩:∃m,n-j=m+1:=⟨n-j-1,qa⟩
 grind[ezq]
theorem Fzx {a:Type}(f:Nat->a)(z:a)(n:Nat):half f z n n=tab f n:=by simp[half]
def az91 (n:Nat)(m:bzm):Bool:=(qv (0<=m.Xz)&&qv (m.Xz<(n:Int)))&&(betV m.XU 1 65536&&jzx m.XM 4194304)
theorem Nzi (r:azl)(m:bzm):(yz9 r m).o=some (az91 r.Xc.length m):=by
 show(nzj r m).run NN=_;simp only[nzj,qj,Lzg,Hzp,qI,az91]
 grind
def badM (n:Nat)(l:List bzm)(i:Nat):Bool:= !az91 n (l.getD i qu)
theorem azlk (l:List bzm)(a:List azt)(b:List bzm)(h:l.length<4294967296):(fz8 l a b).o=some (match scan (λi=>sw (badM a.length l i) (i:Int)) l.length 0 with|some x=>x|none=> -1,a,b):=by
 show(dzg l a b).run NN=_;simp only[dzg,qj];have d:∀m,(Fz9 m a b).o=some (!az91 a.length m,a,b):=λm=>by
  show(tz9 m a b).run NN=_
  simp_all[tz9,qj,Nzi]
 refine(hz3 (λj=>(a,b,(j:Int))) (λi=>sw (badM a.length l i) ((i:Int),a,b)) (a,b) l.length rfl h (λj e=>?_) ?_).trans ?_
 ·rw[az5 jr,az8 ⟨jq,jr⟩];simp only[d,qI,qF];rw[wn qa];unfold badM;cases az91 a.length (l.getD j qu)<;>rfl
 ·simp_all
 ·have:∀n i,scan (λi=>sw (badM a.length l i) ((i:Int),a,b)) n i=(scan (λi=>sw (badM a.length l i) (i:Int)) n i).map λx=>(x,a,b):=by
   intro n;induction n with
   |zero=>intro i;rfl
   |succ n c=>
    intro i;simp only[scan];cases badM a.length l i with
    |true=>rfl
    |false=>exact c (i+1)
  grind
theorem Fzd {g:Nat->Bool}{n:Nat}:qv ((match scan (λi=>sw (g i) (i:Int)) n 0 with|some x=>x|none=> -1)>=0)= !bz1 g n:=by
 grind[sw,ez3,noneB_iff,ezh]
theorem azl1 (l:List bzm)(a:List azt)(b:List bzm)(h:l.length<4294967296):(ezj l a b).o=some (!bz1 (badM a.length l) l.length,a,b):=by
 show(czy l a b).run NN=_
 grind[czy,qj,azlk,Fzd]
def errJ (l:List azt)(i:Nat):Option Int:=sw (Kz3 l i !=0) (Kz3 l i)
def dzd (r:azl):Int:=
 if r.Xc.length=0\/10<r.Xc.length then 801 else match scan (errJ r.Xc) r.Xc.length 0 with
  |some e=>e
  |none=>if 32<r.Xv.length\/bz1 (badM r.Xc.length r.Xv) r.Xv.length=false then 808 else 0
theorem Bze (r:azl):(fz3 r).o=some (dzd r):=by
 show(Bzd r).run NN=_;simp only[Bzd,qj,bzb,az3,dzd];by_cases h:r.Xc.length=0\/10<r.Xc.length
 ·grind
 ·rw[qb h,fzu qa,azb qa];refine(dz9 (errJ r.Xc) r.Xc.length qa (λj b=>?_) ?_).trans ?_
  ·rw[az5 qa];simp only[Lzf ⟨r.Xc,r.Xv⟩ b (show r.Xc.length<4294967296 from qa),qI];rw[wn qa,czs];rfl
  ·simp_all
  ·cases scan (errJ r.Xc) r.Xc.length 0 with
   |some e=>rfl
   |none=>
    by_cases a:32<r.Xv.length
    ·rw[az5 qa,qc (Or.inl a)];rfl
    ·rw[azb qa,azl1 _ _ _ qa];cases c:bz1 (badM r.Xc.length r.Xv) r.Xv.length
     ·rw[qc (Or.inr rfl)];rfl
     ·rw[qb jr];rfl
theorem dz3 (r:azl):(czd r).o=some (dzd r):=by
 show(nzf r).run NN=_;simp only[nzf,qj,bzb,az3,dzd];by_cases h:r.Xc.length=0\/10<r.Xc.length
 ·grind
 ·rw[qb h,azb qa,azb qa];refine(dz9 (errJ r.Xc) r.Xc.length qa (λj a=>?_) ?_).trans ?_
  ·rw[az5 qa];simp only[Nze r.Xc a (show r.Xc.length<4294967296 from qa),qI];rw[wn qa,czs];rfl
  ·simp_all
  ·cases scan (errJ r.Xc) r.Xc.length 0 with
   |some e=>rfl
   |none=>
    by_cases c:32<r.Xv.length
    ·grind
    ·rw[azb qa];refine(dz9 (λi=>sw (badM r.Xc.length r.Xv i) 808) r.Xv.length qa (λj a=>?_) ?_).trans ?_
     ·rw[az5 qa,az8 qa,wn qa,qF,<-czs]
      grind[xz7,fzh,az3,badM,az91]
     ·simp_all
     ·rw[bzf];cases b:bz1 (badM r.Xc.length r.Xv) r.Xv.length
      ·rw[qc (Or.inr rfl)];rfl
      ·rw[qb jr];rfl
theorem ezg {r:azl}(h:dzd r=0):1<=r.Xc.length/\r.Xc.length<=10/\∀i,i<r.Xc.length->Kz3 r.Xc i=0:=by
 unfold dzd at h
 grind[ezh,errJ,sw,ez3]
def tzy (n:Nat)(k:Int):Bool:=qv (-1<=k)&&qv (k<(n:Int))
theorem Hzq (s:az7)(k:Int):(oz8 s k).o=some (tzy s.Xg.Xc.length k):=by
 show(xzb s k).run NN=_
 grind[xzb,qj,tzy]
theorem lzl (r:azl)(k:Int):(fz2 r k).o=some (tzy r.Xc.length k):=by
 show(Bza r k).run NN=_
 grind[Bza,qj,tzy]
def farP (l:List (Int×Int×Int))(i:Nat):Bool:= !jzx (l.getD i qu) 4194304
def yzc (n:Nat)(x:azf):Int:=
 if(tzy n x.Xz&&betV x.XE 1 1048576)=false\/x.Xa.length=0\/8<x.Xa.length then 902 else if bz1 (farP x.Xa) x.Xa.length then 0 else 805
theorem far3 (v:Int×Int×Int):bz1 (λi=>bey (([v.1,v.2.1,v.2.2]:List Int).getD i 0)) 3=jzx v 4194304:=by
 rw[qR,noneB_iff,nearV_iff];constructor
 ·intro h;have a:=h 0 jp;have b:=h 1 jp;have c:=h 2 jp
  grind[bey]
 grind[bey]
theorem Lzk (s:az7)(x:azf):(vz4 s x).o=some (yzc s.Xg.Xc.length x):=by
 show(lzr s x).run NN=_;simp only[lzr,qj,Hzq,qI,bzb,az3,yzc];cases l:tzy s.Xg.Xc.length x.Xz
 ·rfl
 ·simp only[qJ,qd,qM];by_cases a:x.XE<1
  ·grind[betV]
  ·rw[azb a];by_cases b:x.XE>1048576
   ·grind[betV]
   ·rw[azb b];by_cases e:x.Xa.length=0
    ·simp_all
    ·rw[azb qa];by_cases g:8<x.Xa.length
     ·grind
     ·have c:betV x.XE 1 1048576=true:=by simp[betV];omega
      rw[azb qa,c,qb (λd=>jt)];refine(dz9 (λi=>sw (farP x.Xa i) 805) x.Xa.length qa (λj h=>?_) ?_).trans ?_
      ·rw[az5 qa,az8 qa,qF,wn qa];refine(dz9 (λi=>sw (bey (([(x.Xa.getD j qu).1,(x.Xa.getD j qu).2.1,(x.Xa.getD j qu).2.2]:List Int).getD i 0)) (Step3.fin 805)) 3 jp (λk f=>?_) ?_).trans ?_
       ·rw[az5 qa,az8 qa,wn qa,qF,<-czs];rfl
       ·rfl
       ·rw[bzf,far3];unfold farP;cases jzx (x.Xa.getD j qu) 4194304<;>rfl
      ·simp_all
      ·rw[bzf];cases bz1 (farP x.Xa) x.Xa.length<;>rfl
def errS (n:Nat)(l:List azf)(i:Nat):Option Int:=sw (yzc n (l.getD i qu) !=0) (yzc n (l.getD i qu))
def badK (n:Nat)(l:List dzo)(i:Nat):Bool:= !(tzy n (l.getD i qu).A&&tzy n (l.getD i qu).B)
def bzv (s:az7):Int:=
 if dzd s.Xg≠0 then dzd s.Xg else if 24<s.Xe.length then 901 else match scan (errS s.Xg.Xc.length s.Xe) s.Xe.length 0 with
  |some e=>e
  |none=>if 64<s.Xs.length then 903 else if bz1 (badK s.Xg.Xc.length s.Xs) s.Xs.length then 0 else 903
theorem izs (s:az7):(ezd s).o=some (bzv s):=by
 show(Bzh s).run NN=_;simp only[Bzh,qj,Bze,qI,bzv];by_cases h:dzd s.Xg=0
 ·rw[bz4 h,qb qa];by_cases c:24<s.Xe.length
  ·grind
  ·rw[azb qa,qb c];refine(dz9 (errS s.Xg.Xc.length s.Xe) s.Xe.length qa (λj a=>?_) ?_).trans ?_
   ·rw[az5 qa,az8 qa,wn qa,qF];simp only[Lzk,qI];rw[czs];rfl
   ·simp_all
   ·cases scan (errS s.Xg.Xc.length s.Xe) s.Xe.length 0 with
    |some e=>rfl
    |none=>
     by_cases b:64<s.Xs.length
     ·grind
     ·rw[azb qa,qb b];refine(dz9 (λi=>sw (badK s.Xg.Xc.length s.Xs i) 903) s.Xs.length qa (λj a=>?_) ?_).trans ?_
      ·rw[az5 qa,az8 qa,wn qa,qF,<-czs]
       grind[Hzq,az3,badK]
      ·simp_all
      ·rw[bzf];cases bz1 (badK s.Xg.Xc.length s.Xs) s.Xs.length<;>rfl
 grind
theorem czf (s:az7):(cze s).o=some (bzv s):=by
 show(nzg s).run NN=_;simp only[nzg,qj,dz3,qI,bzv];by_cases h:dzd s.Xg=0
 ·rw[bz4 h,qb qa];by_cases a:24<s.Xe.length
  ·grind
  ·rw[azb qa,qb a];refine(dz9 (errS s.Xg.Xc.length s.Xe) s.Xe.length qa (λj d=>?_) ?_).trans ?_
   ·rw[az5 qa,az8 qa,wn qa,qF];unfold errS;generalize s.Xe.getD j qu=x;simp only[lzl,xz7,qI,bzb,az3,yzc];cases n:tzy s.Xg.Xc.length x.Xz
    ·rfl
    ·cases g:betV x.XE 1 1048576
     ·rfl
     ·simp only[qJ,qd,qN];by_cases c:x.Xa.length=0
      ·rw[az5 qa,qc (Or.inr (Or.inl c))];rfl
      ·rw[azb qa];by_cases b:8<x.Xa.length
       ·rw[az5 qa,qc (Or.inr (Or.inr b))];rfl
       ·rw[azb qa,qb (λm=>jt)];refine(dz9 (λi=>sw (farP x.Xa i) (Step3.fin 805)) x.Xa.length qa (λk l=>?_) ?_).trans ?_
        ·rw[az5 qa,az8 qa,wn qa,qF,<-czs];simp only[fzh _ (show(0:Int)<=4194304 by decide) jp,qI];rfl
        ·simp_all
        ·rw[bzf];cases bz1 (farP x.Xa) x.Xa.length<;>rfl
   ·simp_all
   ·cases scan (errS s.Xg.Xc.length s.Xe) s.Xe.length 0 with
    |some e=>rfl
    |none=>
     by_cases f:64<s.Xs.length
     ·grind
     ·rw[azb qa,qb f];refine(dz9 (λi=>sw (badK s.Xg.Xc.length s.Xs i) 903) s.Xs.length qa (λj d=>?_) ?_).trans ?_
      ·rw[az5 qa,wn qa,<-czs]
       grind[az8,lzl,az3,badK]
      ·simp_all
      ·rw[bzf];cases bz1 (badK s.Xg.Xc.length s.Xs) s.Xs.length<;>rfl
 grind
def outJ (l:List azt)(c:List Int)(i:Nat):Bool:=qv (c.getD i qu<(l.getD i qu).Lo)||qv (c.getD i qu>(l.getD i qu).Hi)
def azv (r:azl)(c:List Int):Bool:=qv (dzd r=0)&&(qv (c.length=r.Xc.length)&&bz1 (outJ r.Xc c) c.length)
theorem Uzi (l:List azt)(c:List Int)(h:l.length<4294967296):(gzr l c).o=some (qv (c.length=l.length)&&bz1 (outJ l c) c.length):=by
 show(ezf l c).run NN=_;simp only[ezf,qj];have b:∀j x,(xzt j x).o=some (qv (j.Lo<=x)&&qv (x<=j.Hi)):=λj x=>by
  show(mzm j x).run NN=_
  grind[mzm,qj]
 by_cases a:c.length=l.length
 ·rw[bz4 qa,qg a,qM];refine(dz9 (λi=>sw (outJ l c i) false) l.length h (λj d=>?_) ?_).trans ?_
  ·rw[az5 qa,az8 qa,az8 qa,wn qa,qF,<-czs]
   grind[outJ]
  ·simp_all
  ·rw[bzf,a];cases bz1 (outJ l c) l.length<;>rfl
 grind
theorem hzy (r:azl)(c:List Int):(bzr r c).o=some (azv r c):=by
 show(rzs r c).run NN=_
 grind[rzs,qj,Bze,azv,ezg,Uzi]
theorem eza (r:azl)(c:List Int):(dzc r c).o=some (azv r c):=by
 show(wz0 r c).run NN=_;simp only[wz0,qj,dz3,qI,bzb,az3,azv];by_cases h:dzd r=0
 ·have:=ezg h;rw[bz4 h,qg h,qM];by_cases a:c.length=r.Xc.length
  ·rw[bz4 qa,qg a,qM];refine(dz9 (λi=>sw (outJ r.Xc c i) false) c.length qa (λj b=>?_) ?_).trans ?_
   ·rw[az5 qa,wn qa,<-czs]
    grind[az8,az3,outJ]
   ·simp_all
   ·rw[bzf];cases bz1 (outJ r.Xc c) c.length<;>rfl
  grind
 grind
def big1 (l:List Int)(i:Nat):Bool:=qv (l.getD i qu< -2147483648)||qv (l.getD i qu>2147483648)
def hzc (l:List Int):Bool:=bz1 (big1 l) l.length
theorem vzj (l:List Int)(h:l.length<4294967296):(hzd l).o=some (hzc l):=by
 show(vzi l).run NN=_;have b:∀x,(Bzx x).o=some (qv (x< -2147483648)||qv (x>2147483648)):=λx=>by
  show(pz1 x).run NN=_
  grind[pz1,qj]
 have a:(gzu l).o=some (match scan (λi=>sw (big1 l i) (i:Int)) l.length 0 with|some x=>x|none=> -1):=by
  show(ezl l).run NN=_;simp only[ezl,qj];refine(dz9 (λi=>sw (big1 l i) (i:Int)) l.length h (λj d=>?_) ?_).trans ?_;all_goals grind[az8,wn,big1,sw]
 have c:(fzy l).o=some (!hzc l):=by
  show(dzz l).run NN=_;simp only[dzz,qj,a,qI];rw[Fzd];rfl
 grind[vzi,qj]
theorem lzc (l:List Int)(h:l.length<4294967296):(izo l).o=some (hzc l):=by
 show(Azd l).run NN=_;simp only[Azd,qj];refine(dz9 (λi=>sw (big1 l i) false) l.length h (λj a=>?_) ?_).trans ?_
 ·rw[az5 qa,wn qa,<-czs]
  grind[az8,az3,big1]
 ·simp_all
 ·rw[bzf];unfold hzc;cases bz1 (big1 l) l.length<;>rfl
def Az1 (p q:List Int)(d:Int):Bool:=hzc p&&(hzc q&&(qv (p.length=q.length)&&(qv (0<=d)&&qv (d<=20))))
theorem aza2 {a b:Nat}:((a:Int)==(b:Int))=qv (a=b):=jt
theorem Mzf (p q:List Int)(d:Int)(a:p.length<4294967296)(b:q.length<4294967296):(xzu p q d).o=some (Az1 p q d):=by
 show(mzn p q d).run NN=_;simp only[mzn,qj,vzj p a,vzj q b,qI,Az1,aza2]
 grind
theorem Vz1 (p q:List Int)(d:Int)(a:p.length<4294967296)(b:q.length<4294967296):(Hzc p q d).o=some (Az1 p q d):=by
 show(wz7 p q d).run NN=_;simp only[wz7,qj,lzc p a,lzc q b,qI,Az1,aza2,ge_iff_le]
 grind
def ptI (c:List Int)(i:Nat):az0:=⟨c.getD i qu,c.getD i qu⟩
def ptB (c:List Int):List az0:=if hzc c=true then tab (ptI c) c.length else nl
def Szl (p q:List Int)(d:Nat)(i:Int)(k:Nat):az0:=
 ⟨p.getD k qu+min (i * (q.getD k qu-p.getD k qu)) ((i+1) * (q.getD k qu-p.getD k qu)) / 2 ^ d,
  p.getD k qu+cdiv (max (i * (q.getD k qu-p.getD k qu)) ((i+1) * (q.getD k qu-p.getD k qu))) (2 ^ d)⟩
def ezp (p q:List Int)(d i:Int):List az0×Bool:=
 if Az1 p q d=true/\0<=i/\i<2 ^ d.toNat then(tab (Szl p q d.toNat i) p.length,true)else(nl,false)
theorem Lzt {l:List Int}(h:hzc l=true){i:Nat}(a:i<l.length): -2147483648<=l.getD i qu/\l.getD i qu<=2147483648:=by
 have:=noneB_iff.1 h i a
 grind[big1]
theorem motionV_iff {p q:List Int}{d:Int}:Az1 p q d=true↔hzc p=true/\hzc q=true/\p.length=q.length/\0<=d/\d<=20:=by
 grind[Az1]
theorem azdp {k:Nat}(h:k<=20):(2:Int) ^ k<=1048576:=by
 have:(2:Int) ^ k<=2 ^ 20:=by
  exact_mod_cast qU (by decide:0<2) h
 omega
theorem azoz {i D:Int}(a:0<=i)(c:i<=1048576)(b: -4294967296<=D/\D<=4294967296): -4503599627370496<=i * D/\i * D<=4503599627370496:=by
 have h:(i * D).natAbs<=1048576 * 4294967296:=by rw[qH];exact qz qa qa
 omega
theorem azf3 {d:Int}(a:0<=d)(b:d<=20):IntKind.u64.wrap d=d:=by
 show(if(false&&qv (d % 18446744073709551616>=9223372036854775808))=true then d % 18446744073709551616-18446744073709551616 else d % 18446744073709551616)=d
 grind
theorem Xzg (a:Int)(k:Nat)(b:k<=64):(zz3 a (k:Int)).o=some (a / 2 ^ k):=by
 show(zz4 a (k:Int)).run NN=_
 grind[zz4,qj,az8]
section
variable {a b i:Int} {k:Nat} (ha: -2147483648<=a/\a<=2147483648) (hb: -2147483648<=b/\b<=2147483648) (h0:0<=i) (hi:i<2 ^ k) (hk:k<=20)
include ha hb h0 hi hk
theorem az7m:qt.wrap (b-a)=b-a/\qt.wrap (i+1)=i+1/\qt.wrap (i * (b-a))=i * (b-a)/\qt.wrap ((i+1) * (b-a))=(i+1) * (b-a)/\
 InR (min (i * (b-a)) ((i+1) * (b-a)))/\InR (max (i * (b-a)) ((i+1) * (b-a)))/\InR (-(max (i * (b-a)) ((i+1) * (b-a))))/\
 InR (a+min (i * (b-a)) ((i+1) * (b-a)) / 2 ^ k)/\InR (a+cdiv (max (i * (b-a)) ((i+1) * (b-a))) (2 ^ k)):=by
 have d:=azdp hk;have c:=ezw k;have n:=azoz h0 qa (show -4294967296<=b-a/\b-a<=4294967296 from qa);have m:=azoz (i:=i+1) qa qa (show -4294967296<=b-a/\b-a<=4294967296 from qa);generalize i * (b-a)=u at *
 generalize (i+1) * (b-a)=v at *
 have g: -4503599627370496<=min u v/\min u v<=4503599627370496:=qa
 have f: -4503599627370496<=max u v/\max u v<=4503599627370496:=qa
 have o:=Oz0 (a:=min u v) c;have l:=az45 (a:=max u v) c;refine⟨w64 qa qa,w64 qa qa,w64 qa qa,w64 qa qa,⟨qa,qa⟩,⟨qa,qa⟩,⟨qa,qa⟩,?_,?_⟩
 ·generalize min u v=x at *
  by_cases e:0<=x
  ·exact⟨qa,qa⟩
  ·exact⟨qa,qa⟩
 ·generalize max u v=x at *
  by_cases e:0<x
  ·exact⟨qa,qa⟩
  ·exact⟨qa,qa⟩
theorem Pz4:(Bzw a b i (k:Int)).o=some (⟨a+min (i * (b-a)) ((i+1) * (b-a)) / 2 ^ k,a+cdiv (max (i * (b-a)) ((i+1) * (b-a))) (2 ^ k)⟩,i,(k:Int)):=by
 obtain⟨m,f,g,l,p,t,h,e,j⟩:=az7m ha hb h0 hi hk;show(pz0 a b i (k:Int)).run NN=_;have d:qt.wrap (0-max (i * (b-a)) ((i+1) * (b-a)))= -(max (i * (b-a)) ((i+1) * (b-a))):=by rw[Int.zero_sub];exact h.w
 have c:a- -(max (i * (b-a)) ((i+1) * (b-a))) / 2 ^ k=a+cdiv (max (i * (b-a)) ((i+1) * (b-a))) (2 ^ k):=by rfl
 simp only[pz0,qj,m,f,g,l,d,Xzg _ k (show k<=64 from qa),qI,e.w,c,j.w]
end
theorem Rza {p q:List Int}{k:Nat}{i:Int}(g:hzc p=true)(f:hzc q=true)(h:p.length=q.length)(b:p.length<4294967296)(d:0<=i)(c:i<2 ^ k)(e:k<=20):
 (ez7 p q i (k:Int)).o=some (tab (Szl p q k i) p.length,i,(k:Int)):=by
 show(czq p q i (k:Int)).run NN=_;simp only[czq,qj];rw[az8 ⟨qa,qa,qa,qa⟩,qF];refine(bzo (λj=>(i,(k:Int),half (Szl p q k i) ⟨0,0⟩ p.length j,(j:Int))) (i,(k:Int),tab (Szl p q k i) p.length) p.length ?_ b (λj a=>?_) ?_).trans rfl
 ·rfl
 ·rw[az5 jr,az8 ⟨jq,jr⟩,az8 ⟨jq,jr⟩];simp only[qF,Pz4 (Lzt g a) (Lzt f (by omega:j<q.length)) d c e,qI,zzm (show j<=p.length from qa)];rw[az8 ⟨qa,qa⟩,az8 ⟨a,qa⟩,wn qa];exact congrArg (λx=>some (Step3.next (i,(k:Int),x,((j+1:Nat):Int)))) (zzn a)
 grind[Fzx]
theorem w2k {k:Nat}(h:k<=20):qt.wrap (1 * 2 ^ k)=2 ^ k:=by
 have:=azdp h;grind[w64]
theorem Uzh (p q:List Int)(d i:Int)(b:p.length<4294967296)(e:q.length<4294967296):(vzg p q d i).o=some (ezp p q d i):=by
 show(vzh p q d i).run NN=_;simp only[vzh,qj,Mzf p q d b e,qI,ezp];by_cases a:Az1 p q d=true
 ·have c:=motionV_iff.1 a
  grind[az8,w2k,az3,Rza]
 ·simp only[qW]at a;rw[a];rfl
theorem Azb (p q:List Int)(d i:Int)(f:p.length<4294967296)(h:q.length<4294967296):(qzp p q d i).o=some (ezp p q d i):=by
 show(Aza p q d i).run NN=_;simp only[Aza,qj,Vz1 p q d f h,qI,ezp];by_cases b:Az1 p q d=true
 ·have a:=motionV_iff.1 b;obtain⟨k,rfl⟩:∃k:Nat,d=(k:Int):=⟨d.toNat,qa⟩;have e:k<=20:=qa
  rw[b,qF,azf3 qa qa,qF];simp only[qJ,qd];by_cases c:i<0
  ·rw[az5 c,qb qa];rfl
  ·rw[azb c,az8 qa,qG qa,w2k e];simp only[az3];by_cases u:i>=2 ^ k
   ·simp_all
   ·rw[azb u,qc ⟨trivial,qa,qa⟩,az8 qa];refine(bzo (λj=>(tab (Szl p q k i) j,(j:Int))) (tab (Szl p q k i) p.length) p.length rfl f (λj m=>?_) ?_).trans rfl
    ·obtain⟨n,r,v,l,x,s,y,g,t⟩:=az7m (Lzt a.1 m) (Lzt a.2.1 (by omega:j<q.length)) (by omega:0<=i) (by omega:i<2 ^ k) e;rw[az5 qa,az8 ⟨jq,qa⟩,az8 ⟨jq,qa⟩,az8 ⟨jq,qa⟩];simp only[qF,n,r,v,l,dzk x (ezw k),czl s (ezw k),qI,g.w,t.w];rw[az8 ⟨qa,qa⟩,az8 ⟨by simp[bzp];omega,by grind[bzp,aze]⟩,wn qa,ezq];rfl
    simp_all
 ·simp only[qW]at b;rw[b];rfl
structure JointOk (l:List azt) (i:Nat):Prop where
 kind:0<=(l.getD i qu).Xo/\(l.getD i qu).Xo<=6
 parent: -1<=(l.getD i qu).XD/\(l.getD i qu).XD<(i:Int)
 off:jzx (l.getD i qu).XA 4194304=true
 lim:(l.getD i qu).Lo<=(l.getD i qu).Hi/\ -ozg (l.getD i qu).Xo<=(l.getD i qu).Lo/\(l.getD i qu).Hi<=ozg (l.getD i qu).Xo
 cost:azfv (l.getD i qu)=true
theorem azcf {l:List azt}{i:Nat}(h:Kz3 l i=0):JointOk l i:=by
 unfold Kz3 at h;simp only at h;split at h
 ·cases h
 ·split at h
  ·cases h
  ·rename_i d;split at h
   ·cases h
   ·rename_i c;split at h
    ·cases h
    ·rename_i b;split at h
     ·cases h
     ·rename_i e;split at h
      ·cases h
      ·rename_i a;simp only[Bool.or_eq_true,qf,qX,Bool.not_eq_false]at d c b e a;exact⟨qa,qa,b,qa,a⟩
theorem fzi {r:azl}(h:dzd r=0){i:Nat}(a:i<r.Xc.length):JointOk r.Xc i:=azcf ((ezg h).2.2 i a)
def notV (b:List az0)(i:Nat):Bool:= !vV (b.getD i qu)
def boxV (r:azl)(b:List az0):Bool:=qv (b.length=r.Xc.length)&&bz1 (notV b) b.length
theorem Pzr (b:List az0)(h:b.length<4294967296):(Cz9 b).o=some (bz1 (notV b) b.length):=by
 show(pze b).run NN=_;simp only[pze,qj,fz5,qI];refine(dz9 (λi=>sw (notV b i) false) b.length h (λj a=>?_) ?_).trans ?_
 ·rw[az5 qa,az8 qa,wn qa,qF,<-czs];rfl
 ·simp_all
 ·rw[bzf];cases bz1 (notV b) b.length<;>rfl
theorem Az5 (r:azl)(b:List az0)(h:b.length<4294967296):(qzo r b).o=some (boxV r b):=by
 show(Az4 r b).run NN=_
 grind[Az4,qj,Pzr,boxV]
theorem uzf (r:azl)(b:List az0)(h:b.length<4294967296):(hzo r b).o=some (boxV r b):=by
 have a:∀x,(qzc x).o=some (!vV x):=λx=>by
  show(izy x).run NN=_
  grind[izy,qj,czb]
 have c:(dzp b).o=some (match scan (λi=>sw (notV b i) (i:Int)) b.length 0 with|some x=>x|none=> -1):=by
  show(cz6 b).run NN=_;simp only[cz6,qj,a,qI];refine(dz9 (λi=>sw (notV b i) (i:Int)) b.length h (λj e=>?_) ?_).trans ?_;all_goals grind[az8,wn,sw,notV]
 have d:(dze b).o=some (!bz1 (notV b) b.length):=by
  show(cz1 b).run NN=_;simp only[cz1,qj,c,qI];exact congrArg some Fzd
 show(lz4 r b).run NN=_
 grind[lz4,qj,boxV]
section
variable (r:azl) (b:List az0)
def lk1 (L:List bz7)(i:Nat):bz7:=
 if(r.Xc.getD i qu).XD= -1 then Kz4 (r.Xc.getD i qu) (b.getD i qu)else az49 (L.getD (r.Xc.getD i qu).XD.toNat qu) (Kz4 (r.Xc.getD i qu) (b.getD i qu))
def lkL:Nat->List bz7
 |0=>[]
 |i+1=>lkL i++[lk1 r b (lkL i) i]
def lkP (i:Nat):bz7:=lk1 r b (lkL r b i) i
theorem azck:∀j,lkL r b j=tab (lkP r b) j
 |0=>rfl
 |j+1=>by rw[ezq,<-azck j];rfl
end
variable {r:azl} {b:List az0}
theorem az73 {a:Type}{f:Nat->a}{z d:a}{n j i:Nat}(h:i<j):(half f z n j).getD i d=f i:=by
 unfold half;rw[qY,List.getElem?_append_left (by rw[bzp];exact h),<-qY,jz3 h]
theorem Wzw {a:Type}{l:List a}{i j:Nat}{x d:a}(h:i≠j):(l.set i x).getD j d=l.getD j d:=by
 simp_all
theorem Kzu (d:dzd r=0)(f:boxV r b=true):(Az8 r b).o=some (tab (lkP r b) r.Xc.length):=by
 have i:=ezg d;have a:=f;simp only[boxV,qm,qf]at a;show(Az9 r b).run NN=_;simp only[Az9,qj,dz3,Az5 r b qa,f,d,qI];refine(bzo (λj=>(tab (lkP r b) j,(j:Int))) (tab (lkP r b) r.Xc.length) r.Xc.length rfl (show r.Xc.length<4294967296 from qa) (λj h=>?_) ?_).trans rfl
 ·have g:=fzi d h;rw[az5 qa,az8 ⟨jq,qa⟩,az8 ⟨jq,qa⟩];simp only[qF,Zz0,qI];rw[az8 ⟨qa,qa⟩,ezq];by_cases c:(r.Xc.getD j qu).XD= -1
  ·have e:lkP r b j=Kz4 (r.Xc.getD j qu) (b.getD j qu):=by grind[lkP,lk1]
   rw[bz4 c];simp only[az3];rw[az8 ⟨by simp[bzp];omega,by grind[bzp,aze]⟩,wn qa,e]
  ·have k:=g.parent;have e:lkP r b j=az49 ((tab (lkP r b) j).getD (r.Xc.getD j qu).XD.toNat qu) (Kz4 (r.Xc.getD j qu) (b.getD j qu)):=by
    unfold lkP lk1;rw[qb c,azck];rfl
   rw[bzy c,az8 ⟨qa,qa⟩,az8 ⟨qa,by rw[bzp];omega⟩,az8 (by rw[bzp];omega)];simp only[oz2,qI,az3];rw[az8 ⟨by simp[bzp];omega,by simp[bzp,aze];omega⟩,wn qa,e]
 ·rw[azb qa]
theorem uzg (c:dzd r=0)(g:boxV r b=true):(hzp r b).o=some (tab (lkP r b) r.Xc.length):=by
 have h:=ezg c;have a:=g;simp only[boxV,qm,qf]at a;show(lz5 r b).run NN=_;simp only[lz5,qj];rw[az8 ⟨qa,qa,qa,qa⟩,qF];refine(bzo (λj=>(half (lkP r b) (⟨(izv,izv,izv),izv⟩:bz7) r.Xc.length j,(j:Int))) (tab (lkP r b) r.Xc.length) r.Xc.length ?_ (show r.Xc.length<4294967296 from qa) (λj d=>?_) ?_).trans rfl
 ·rfl
 ·have f:=fzi c d;have k:=f.parent;rw[az5 qa,az8 ⟨jq,qa⟩,az8 ⟨jq,qa⟩];simp only[qF,Kz5,qI,qZ,zzm (show j<=r.Xc.length from qa)];rw[az8 ⟨qa,qa⟩,az8 ⟨d,qa⟩,wn qa];by_cases i:(r.Xc.getD j qu).XD= -1
  ·grind[lkP,lk1,az3,zzn]
  ·have e:lkP r b j=az49 (lkP r b (r.Xc.getD j qu).XD.toNat) (Kz4 (r.Xc.getD j qu) (b.getD j qu)):=by
    grind[lkP,lk1,azck,jz3]
   grind[az8,Wzw,az73,zzm,oz0,az3,wc,zzn]
 grind[Fzx]
def jz1 (x:azf):Bool:=(betV x.XE 1 1048576&&qv (1<=x.Xa.length/\x.Xa.length<=8))&&bz1 (farP x.Xa) x.Xa.length
def Ozf (x:azf)(p:bz7):List IV3:=if jz1 x then tab (λi=>az1s p (Dzy (x.Xa.getD i qu))) x.Xa.length else nl
theorem tzh {x:azf}(h:jz1 x=true):1<=x.Xa.length/\x.Xa.length<=8:=by
 grind[jz1]
theorem Wzx (x:azf){a:Type}(k:Bool->Option a):(andC (bif qv (x.XE<1)then some (.out true)else bif qv (x.XE>1048576)then some (.out true)else bif qv ((x.Xa.length:Int)<1)then some (.out true)else
 some (.out (qv ((x.Xa.length:Int)>8)))) k)=k (!(betV x.XE 1 1048576&&qv (1<=x.Xa.length/\x.Xa.length<=8))):=by
 grind[az3,betV,qi]
theorem uzr (x:azf):(lza x).o=some (jz1 x):=by
 show(lzb x).run NN=_;simp only[lzb,qj,Wzx,jz1];cases h:betV x.XE 1 1048576&&qv (1<=x.Xa.length/\x.Xa.length<=8)
 ·rfl
 ·simp only[qm,qf]at h;refine(dz9 (λi=>sw (farP x.Xa i) false) x.Xa.length qa (λk a=>?_) ?_).trans ?_
  ·rw[az5 qa,az8 qa,wn qa,qF,<-czs];simp only[fzh _ (show(0:Int)<=4194304 by decide) jp,qI];rfl
  ·simp_all
  ·rw[bzf];cases bz1 (farP x.Xa) x.Xa.length<;>rfl
theorem Lzp (x:azf):(Bzj x).o=some (jz1 x):=by
 show(Bzk x).run NN=_;simp only[Bzk,qj,Wzx,jz1];cases h:betV x.XE 1 1048576&&qv (1<=x.Xa.length/\x.Xa.length<=8)
 ·rfl
 ·simp only[qm,qf]at h;refine(dz9 (λi=>sw (farP x.Xa i) false) x.Xa.length qa (λj a=>?_) ?_).trans ?_
  ·rw[az5 qa,az8 qa,qF,wn qa];refine(dz9 (λi=>sw (bey (([(x.Xa.getD j qu).1,(x.Xa.getD j qu).2.1,(x.Xa.getD j qu).2.2]:List Int).getD i 0)) (Step3.fin false)) 3 jp (λk b=>?_) ?_).trans ?_
   ·rw[az5 qa,az8 qa,wn qa,qF,<-czs];simp only[bzb,az3,ezo];rfl
   ·rfl
   ·rw[bzf,far3];unfold farP;cases jzx (x.Xa.getD j qu) 4194304<;>rfl
  ·simp_all
  ·rw[bzf];cases bz1 (farP x.Xa) x.Xa.length<;>rfl
theorem Kzw (x:azf)(p:bz7):(Kzv x p).o=some (Ozf x p):=by
 show(Azc x p).run NN=_;simp only[Azc,qj,uzr,qI,Ozf];cases h:jz1 x
 ·rfl
 ·have a:=tzh h;refine(bzo (λj=>(tab (λi=>az1s p (Dzy (x.Xa.getD i qu))) j,(j:Int))) (tab (λi=>az1s p (Dzy (x.Xa.getD i qu))) x.Xa.length) x.Xa.length rfl (show x.Xa.length<4294967296 from qa) (λj b=>?_) ?_).trans rfl;all_goals grind[az8,ozj,Ozl,bzp,aze,wn,ezq]
theorem Lzr (x:azf)(p:bz7):(Lzq x p).o=some (Ozf x p):=by
 show(Bzl x p).run NN=_;simp only[Bzl,qj,Lzp,qI,Ozf];cases h:jz1 x
 ·rfl
 ·have a:=tzh h;rw[az8 ⟨qa,qa,qa,qa⟩,qF];refine(bzo (λj=>(half (λi=>az1s p (Dzy (x.Xa.getD i qu))) izv x.Xa.length j,(j:Int))) (tab (λi=>az1s p (Dzy (x.Xa.getD i qu))) x.Xa.length) x.Xa.length ?_ (show x.Xa.length<4294967296 from qa) (λj b=>?_) ?_).trans rfl
  ·rfl
  all_goals grind[az8,nzz,Ozh,zzm,wn,zzn,Fzx]
def azcj (r:azl)(b:List az0)(k:Int):bz7:=if k= -1 then az5p else lkP r b k.toNat
def cz2 (s:az7)(b:List az0)(i:Nat):List IV3:=Ozf (s.Xe.getD i qu) (azcj s.Xg b (s.Xe.getD i qu).Xz)
def sz9 (s:az7)(b:List az0):List (List IV3):=if bzv s=0/\boxV s.Xg b=true then tab (cz2 s b) s.Xe.length else nl
structure SceneOk (s:az7):Prop where
 robot:dzd s.Xg=0
 len:s.Xe.length<=24
 shape:∀i,i<s.Xe.length->yzc s.Xg.Xc.length (s.Xe.getD i qu)=0
 skips:s.Xs.length<=64
theorem ozn {s:az7}(h:bzv s=0):SceneOk s:=by
 unfold bzv at h;split at h
 ·omega
 ·split at h
  ·cases h
  ·split at h
   ·grind[ezh,errS,sw]
   ·split at h
    ·cases h
    ·refine⟨qa,qa,λi a=>?_,qa⟩
     grind[ez3,errS,sw]
theorem yzd {n:Nat}{x:azf}(h:yzc n x=0):jz1 x=true/\ -1<=x.Xz/\x.Xz<(n:Int):=by
 grind[yzc,tzy,jz1]
theorem Vz0 (s:az7)(b:List az0)(d:b.length<4294967296):(Hzb s b).o=some (sz9 s b):=by
 show(wz5 s b).run NN=_;simp only[wz5,qj,czf,Az5 _ b d,qI,sz9];by_cases h:bzv s=0
 ·rw[bz4 h,az3];cases i:boxV s.Xg b
  ·simp_all
  ·have a:=ozn h;rw[qc ⟨h,rfl⟩,qJ,qd,Kzu a.robot i,qI];refine(bzo (λj=>(tab (cz2 s b) j,(j:Int))) (tab (cz2 s b) s.Xe.length) s.Xe.length rfl (show s.Xe.length<4294967296 by have:=a.len;omega) (λj g=>?_) ?_).trans rfl
   ·have k:=a.len;have l:=(yzd (a.shape j g)).2;rw[az5 qa];simp only[qF,Tz0,qI];rw[az8 ⟨qa,qa⟩,wn qa,ezq];by_cases c:(s.Xe.getD j qu).Xz= -1
    ·have e:cz2 s b j=Ozf (s.Xe.getD j qu) az5p:=by grind[cz2,azcj]
     rw[bz4 c];simp only[az3];rw[az8 ⟨qa,qa⟩];simp only[Kzw,qI];rw[az8 ⟨by simp[bzp];omega,by grind[bzp,aze]⟩,e]
    ·have e:cz2 s b j=Ozf (s.Xe.getD j qu) ((tab (lkP s.Xg b) s.Xg.Xc.length).getD (s.Xe.getD j qu).Xz.toNat qu):=by
      unfold cz2 azcj;rw[qb c,jz3 qa]
     rw[bzy c,az8 ⟨qa,qa⟩,az8 ⟨qa,by rw[bzp];omega⟩];simp only[az3];rw[az8 ⟨qa,qa⟩];simp only[Kzw,qI];rw[az8 ⟨by simp[bzp];omega,by simp[bzp,aze];omega⟩,e]
   ·rw[azb jq]
 ·rw[bzy h,az3,qe,qb (λf=>h f.1)]
theorem Izc (s:az7)(b:List az0)(c:b.length<4294967296):(sz4 s b).o=some (sz9 s b):=by
 show(jzu s b).run NN=_;simp only[jzu,qj,izs,uzf _ b c,qI,sz9];cases i:boxV s.Xg b
 ·rw[qb (λh=>jt)];rfl
 ·simp only[qJ,qd,az3];by_cases h:bzv s=0
  ·have a:=ozn h;have k:=a.len;rw[qc ⟨h,trivial⟩,bz4 h,uzg a.robot i,qI,az8 ⟨qa,qa,qa,qa⟩,qF];refine(bzo (λj=>(half (cz2 s b) nl s.Xe.length j,(j:Int))) (tab (cz2 s b) s.Xe.length) s.Xe.length ?_ (show s.Xe.length<4294967296 from qa) (λj d=>?_) ?_).trans rfl
   ·rfl
   ·have l:=(yzd (a.shape j d)).2;rw[az5 qa,az8 ⟨jq,qa⟩];simp only[qF,Ez1,qI,zzm (show j<=s.Xe.length from qa)];rw[wn qa,<-zzn d];by_cases f:(s.Xe.getD j qu).Xz= -1
    ·simp_all[cz2,azcj,az3,Lzr,az8]
    ·have e:cz2 s b j=Ozf (s.Xe.getD j qu) ((tab (lkP s.Xg b) s.Xg.Xc.length).getD (s.Xe.getD j qu).Xz.toNat qu):=by
      unfold cz2 azcj;rw[qb f,jz3 qa]
     rw[bzy f,az8 ⟨qa,by rw[bzp];omega⟩];simp only[az3,Lzr,qI];rw[az8 ⟨qa,qa⟩,az8 ⟨d,qa⟩,e]
   ·rw[azb jq];simp only[Fzx]
  ·rw[qb (λg=>h g.1),bzy h]
section
variable (par:Nat->Nat) (mv:Nat->Prop) [DecidablePred mv]
inductive AncN:Nat->Nat->Prop
 |self {m:Nat}:0<m->AncN m m
 |up {m x:Nat}:0<m->AncN (par m) x->AncN m x
def cF:Nat->Nat->Nat
 |0,_=>0
 |d+1,m=>if m=0 then 0 else if mv m then m else cF d (par m)
end
section
variable {par:Nat->Nat} {mv:Nat->Prop} [DecidablePred mv]
theorem AncN.pos {m x:Nat}(h:AncN par m x):0<m/\0<x:=by
 induction h<;>simp_all
theorem AncN.le {n m x:Nat}(b:∀m,0<m->m<=n->par m<m)(h:AncN par m x):m<=n->x<=m:=by
 induction h<;>grind
theorem aza7 {n:Nat}(e:∀m,0<m->m<=n->par m<m):∀ (d b m:Nat),m<=n->m<d->m<b->cF par mv d m=cF par mv b m
 |0,_,_,_,h,_=>qa
 |_,0,_,_,_,h=>qa
 |d+1,b+1,m,g,i,j=>by
  simp only[cF];by_cases f:m=0
  ·simp only[f,if_true]
  ·simp only[f,if_false];have:=e m qa g;by_cases c:mv m
   ·simp only[c,if_true]
   ·simp only[c,if_false];exact aza7 e d b (par m) qa qa qa
theorem az0j {n:Nat}(i:∀m,0<m->m<=n->par m<m):∀ (d m:Nat),m<=n->m<d->(∀x,mv x->(AncN par m x↔AncN par (cF par mv d m) x))/\(cF par mv d m≠0->mv (cF par mv d m)/\AncN par m (cF par mv d m))/\cF par mv d m<=m
 |0,_,_,h=>qa
 |d+1,m,l,h=>by
  simp only[cF];by_cases g:m=0
  ·subst g;exact⟨λ_ _=>Iff.rfl,λh=>absurd rfl h,qk _⟩
  ·simp only[g,if_false];have o:=i m qa l;by_cases c:mv m
   ·rw[qc c];exact⟨λ_ _=>Iff.rfl,λ_=>⟨c,.self qa⟩,qk _⟩
   ·simp only[c,if_false];obtain⟨k,j,p⟩:=az0j i d (par m) qa qa;refine⟨λx e=>?_,λf=>⟨(j f).1,.up qa (j f).2⟩,qa⟩;rw[<-k x e];constructor
    ·intro b;cases b with
     |self=>exact absurd e c
     |up _ b=>exact b
    ·intro b;exact .up qa b
theorem azir {n:Nat}(e:∀m,0<m->m<=n->par m<m){a b d:Nat}(j:a<=n)(i:b<=n)(t:n<d):cF par mv d a=cF par mv d b↔∀x,mv x->(AncN par a x↔AncN par b x):=by
 obtain⟨q,f,r⟩:=az0j (mv:=mv) e d a j qa;obtain⟨k,p,s⟩:=az0j (mv:=mv) e d b i qa;constructor
 ·simp_all
 ·have o:∀ {a b:Nat},a<=n->b<=n->cF par mv d a≠0->(∀x,mv x->(AncN par a x↔AncN par b x))->cF par mv d a<=cF par mv d b:=by
   intro a b j i g h;obtain⟨q,f,r⟩:=az0j (mv:=mv) e d a j qa;obtain⟨k,p,s⟩:=az0j (mv:=mv) e d b i qa;have:=(k _ (f g).1).1 ((h _ (f g).1).1 (f g).2);exact this.le e qa
  grind
end
section
variable (r:azl)
def parN (m:Nat):Nat:=((r.Xc.getD (m-1) qu).XD+1).toNat
def mvN (m:Nat):Prop:=(r.Xc.getD (m-1) qu).Lo≠(r.Xc.getD (m-1) qu).Hi
instance:DecidablePred (mvN r):=λ_=>inferInstanceAs (Decidable (_≠_))
def carN (m:Nat):Nat:=cF (parN r) (mvN r) (r.Xc.length+1) m
end
variable {r:azl} (hr:dzd r=0)
include hr
theorem Szi:∀m,0<m->m<=r.Xc.length->parN r m<m:=λm c a=>by
 have:=(fzi hr (show m-1<r.Xc.length from qa)).parent;unfold parN;omega
theorem aza9 {i:Nat}(c:i<r.Xc.length):carN r (i+1)=if(r.Xc.getD i qu).Lo=(r.Xc.getD i qu).Hi then carN r ((r.Xc.getD i qu).XD+1).toNat else i+1:=by
 have a:=Szi hr (i+1) qa qa
 grind[carN,cF,aza7,Szi,parN,mvN]
def caP (r:azl)(m:Nat):Int:=(carN r m:Int)-1
theorem Pzx:(Czb r).o=some (tab (caP r) (r.Xc.length+1)):=by
 have a:=ezg hr;show(pzw r).run NN=_;simp only[pzw,qj];rw[wn qa,qF,az8 ⟨qa,qa,qa,qa⟩];simp only[wd];rw[az8 ⟨qa,qa⟩,az8 ⟨jq,qa⟩];refine(bzo (λj=>(half (caP r) 0 (r.Xc.length+1) (j+1),(j:Int))) (tab (caP r) (r.Xc.length+1)) r.Xc.length ?_ (show r.Xc.length<4294967296 from qa) (λj c=>?_) ?_).trans rfl
 ·rfl
 ·have d:=(fzi hr c).parent;simp only[qF,zzm (show j+1<=r.Xc.length+1 from qa),qZ];rw[wn qa,qF,az8 ⟨qa,qa⟩,az8 ⟨qa,qa⟩,w64 (x:=(r.Xc.getD j qu).XD+1) qa qa]
  grind[aza9,caP,az8,Wzw,az73,az3,wc,zzn]
 grind[Fzx]
theorem Ozp {k:Int}(i: -1<=k)(f:k<(r.Xc.length:Int)):∃L:List Int,(vz0 r k).o=some L/\L.length<=r.Xc.length/\∀x:Nat,(x:Int)∈L↔AncN (parN r) (k+1).toNat (x+1):=by
 have p:=ezg hr;have n:(vz0 r k).o=(Fz0 r k).run NN:=rfl;rw[n];simp only[Fz0,qj,dz3,hr,lzl,qI];rw[bz4 rfl,az3,show tzy r.Xc.length k=true by simp[tzy];omega,qJ,qd]
 refine Yz0 (β:=List Int) (g:=λL=>some L) (P:=λL=>L.length<=r.Xc.length/\∀x:Nat,(x:Int)∈L↔AncN (parN r) (k+1).toNat (x+1))
  (λ(y:List Int×Int)=> -1<=y.2/\y.2<(r.Xc.length:Int)/\y.1.length+(y.2+1).toNat<=r.Xc.length/\∀x:Nat,((x:Int)∈y.1\/AncN (parN r) (y.2+1).toNat (x+1))↔AncN (parN r) (k+1).toNat (x+1))
  (λ(y:List Int×Int)=>(y.2+1).toNat) (λ(L:List Int)=>L.length<=r.Xc.length/\∀x:Nat,(x:Int)∈L↔AncN (parN r) (k+1).toNat (x+1)) ⟨i,f,?_,λx=>?_⟩ ?_ (λy j=>?_) (λL l=>⟨L,rfl,l⟩)
 ·simp[nl];omega
 ·simp[nl]
 ·show(k+1).toNat<4294967296;omega
 ·obtain⟨a1,s,a3,d⟩:=j;by_cases t:y.2= -1
  ·refine .inr ⟨y.1,jr,qa,λx=>?_⟩;rw[<-d x];constructor
   ·simp_all
   ·rintro(h|h)
    ·exact h
    ·have:=h.pos.1;omega
  ·left;have e:=(fzi hr (show y.2.toNat<r.Xc.length from qa)).parent;refine⟨(y.2::y.1,(r.Xc.getD y.2.toNat qu).XD),?_,⟨e.1,qa,jt,λx=>?_⟩,qa⟩
   ·grind[az8,aze]
   ·rw[<-d x];have a:parN r (y.2+1).toNat=((r.Xc.getD y.2.toNat qu).XD+1).toNat:=by
     unfold parN;rw[show(y.2+1).toNat-1=y.2.toNat from qa]
    simp only[List.mem_cons];constructor
    ·rintro((h|h)|h)
     ·right;rw[show(y.2+1).toNat=x+1 from qa];exact .self qa
     ·exact Or.inl h
     ·right;exact .up qa (a▸h)
    ·rintro(h|h)
     ·exact Or.inl (Or.inr h)
     ·generalize q:(y.2+1).toNat=m at h;cases h with
      |self h=>omega
      |up h b=>right;rw[<-q,a]at b;exact b
omit hr in
theorem Lza (l:List Int)(x:Int)(h:l.length<4294967296):(Bzb l x).o=some (qv (x∈l)):=by
 show(Bzc l x).run NN=_;simp only[Bzc,qj];refine(dz9 (λi=>sw (l.getD i qu==x) true) l.length h (λj c=>?_) ?_).trans ?_
 ·rw[az5 qa,az8 qa,wn qa,qF,<-czs]
 ·simp_all
 ·rw[bzf];have:bz1 (λi=>l.getD i qu==x) l.length= !qv (x∈l):=by
   grind[noneB_iff,we]
  rw[this];cases qv (x∈l)<;>rfl
def betL (p:Nat->Bool)(n:Nat):List Int:=((List.range n).filter p).map λ(i:Nat)=>(i:Int)
omit hr in
theorem aza3 (p:Nat->Bool)(n:Nat):betL p (n+1)=if p n then betL p n++[(n:Int)]else betL p n:=by
 grind[betL,qT]
omit hr in
theorem az6d (p:Nat->Bool)(n:Nat):(betL p n).length<=n:=by
 grind[betL]
omit hr in
theorem azfl {p:Nat->Bool}{n:Nat}{x:Int}:x∈betL p n↔∃i:Nat,x=(i:Int)/\i<n/\p i=true:=by
 grind[betL]
theorem Vze {a b:Int}(e: -1<=a)(d:a<(r.Xc.length:Int))(l: -1<=b)(f:b<(r.Xc.length:Int)):
 ∃L:List Int,(Hzl r a b).o=some L/\L.length<=r.Xc.length/\∀x:Int,x∈L↔∃i:Nat,x=(i:Int)/\i<r.Xc.length/\¬ (AncN (parN r) (a+1).toNat (i+1)↔AncN (parN r) (b+1).toNat (i+1)):=by
 have k:=ezg hr;obtain⟨X,h,s,n⟩:=Ozp hr e d;obtain⟨Y,g,m,q⟩:=Ozp hr l f;let p:Nat->Bool:=λi=> !(qv ((i:Int)∈X)==qv ((i:Int)∈Y))
 refine⟨betL p r.Xc.length,?_,az6d _ _,λx=>?_⟩
 ·show(xz4 r a b).run NN=_;simp only[xz4,qj,dz3,hr,lzl,qI];rw[bz4 rfl,show tzy r.Xc.length a=true by simp[tzy];omega,show tzy r.Xc.length b=true by simp[tzy];omega];simp only[qJ,qd,az3,h,g,qI];refine(bzo (λj=>(betL p j,(j:Int))) (betL p r.Xc.length) r.Xc.length rfl (show r.Xc.length<4294967296 from qa) (λj t=>?_) ?_).trans rfl
  ·have:=az6d p j;simp only[Lza X _ (show X.length<4294967296 from qa),Lza Y _ (show Y.length<4294967296 from qa),qI]
   grind[wn,aza3,az8,aze,andC]
  simp_all
 grind[azfl]
theorem az2x {a b:Int}(u: -1<=a)(s:a<(r.Xc.length:Int))(y: -1<=b)(v:b<(r.Xc.length:Int)):(Ozr r a b).o=some (qv (carN r (a+1).toNat=carN r (b+1).toNat)):=by
 have hr':=ezg hr;obtain⟨L,w,l2,m⟩:=Vze hr u s y v;show(Fz2 r a b).run NN=_;simp only[Fz2,qj,dz3,hr,lzl,qI];rw[bz4 rfl,show tzy r.Xc.length a=true by simp[tzy];omega,show tzy r.Xc.length b=true by simp[tzy];omega];simp only[qJ,qd,az3,w,qI];have f:∀j,j<L.length->0<=L.getD j qu/\L.getD j qu<(r.Xc.length:Int):=λj g=>by
  grind[List.getElem_mem]
 refine(dz9 (λj=>sw (qv ((r.Xc.getD (L.getD j qu).toNat qu).Lo<(r.Xc.getD (L.getD j qu).toNat qu).Hi)) false) L.length qa (λj g=>?_) ?_).trans ?_
 ·rw[az5 qa,az8 qa,qF,az8 (f j g),az8 qa,az8 (f j g),wn qa,<-czs]
 ·simp_all
 ·rw[bzf];have:bz1 (λj=>qv ((r.Xc.getD (L.getD j qu).toNat qu).Lo<(r.Xc.getD (L.getD j qu).toNat qu).Hi)) L.length=qv (carN r (a+1).toNat=carN r (b+1).toNat):=by
   rw[qR,noneB_iff,qf];unfold carN;rw[azir (Szi hr) qa qa qa];constructor
   ·intro h x t;by_cases n:AncN (parN r) (a+1).toNat x↔AncN (parN r) (b+1).toNat x
    ·omega
    ·exfalso
     have hx0:0<x/\x<=r.Xc.length:=by
      by_cases k:AncN (parN r) (a+1).toNat x
      ·have:=k.le (Szi hr) qa;exact⟨k.pos.2,qa⟩
      ·by_cases l:AncN (parN r) (b+1).toNat x
       ·have:=l.le (Szi hr) qa;exact⟨l.pos.2,qa⟩
       simp_all
     obtain⟨i,rfl⟩:∃i,x=i+1:=⟨x-1,qa⟩;have hm:(i:Int)∈L:=(m _).2 ⟨i,rfl,qa,n⟩;obtain⟨j,g,e⟩:=we hm;have jo:=(fzi hr (show i<r.Xc.length from qa)).lim.1;apply t
     grind
   ·intro h j g;have:L.getD j qu∈L:=by grind
    obtain⟨i,k,l,q⟩:=(m _).1 this;rw[k,qF,qi];intro p;exact q (h (i+1) (by show(r.Xc.getD (i+1-1) qu).Lo≠(r.Xc.getD (i+1-1) qu).Hi;grind))
  rw[this];cases qv (carN r (a+1).toNat=carN r (b+1).toNat)<;>rfl
omit hr
def skB (l:List dzo)(a b:Int)(i:Nat):Bool:=((l.getD i qu).A==a&&(l.getD i qu).B==b)||((l.getD i qu).A==b&&(l.getD i qu).B==a)
def skV (s:az7)(a b:Int):Bool:= !bz1 (skB s.Xs a b) s.Xs.length
theorem Tzp (s:az7)(a b:Int)(h:s.Xs.length<4294967296):(Fze s a b).o=some (skV s a b):=by
 show(tzf s a b).run NN=_;simp only[tzf,qj,bzb,az3,wg,ezo];refine(dz9 (λi=>sw (skB s.Xs a b i) true) s.Xs.length h (λj c=>?_) ?_).trans ?_
 ·rw[az5 qa,az8 qa,wn qa,qF,<-czs];rfl
 ·simp_all
 ·rw[bzf];unfold skV;cases bz1 (skB s.Xs a b) s.Xs.length<;>rfl
theorem Vzf (s:az7)(a b:Int)(h:s.Xs.length<4294967296):(Hzm s a b).o=some (skV s a b):=by
 show(xz5 s a b).run NN=_;simp only[xz5,qj];refine(dz9 (λi=>sw (skB s.Xs a b i) true) s.Xs.length h (λj c=>?_) ?_).trans ?_
 ·rw[az5 qa,az8 qa,wn qa,qF,<-czs];unfold skB;cases (s.Xs.getD j qu).A==a<;>cases (s.Xs.getD j qu).B==b<;>cases (s.Xs.getD j qu).A==b<;>cases (s.Xs.getD j qu).B==a<;>rfl
 ·simp_all
 ·rw[bzf];unfold skV;cases bz1 (skB s.Xs a b) s.Xs.length<;>rfl
section
variable (c:Nat->Nat->Bool)
def pin (L:List czh)(i:Nat):Nat->List czh
 |0=>L
 |m+1=>if c i (i+1+m)then pin L i m++[⟨(i:Int),((i+1+m:Nat):Int)⟩]else pin L i m
def pou (n:Nat):Nat->List czh
 |0=>nl
 |i+1=>pin c (pou n i) i (n- (i+1))
theorem Yzw (L:List czh)(i:Nat):∀m,(pin c L i m).length<=L.length+m
 |0=>by simp[pin]
 |m+1=>by
  have:=Yzw L i m;simp only[pin];split
  ·simp;omega
  ·omega
theorem Yzx {n:Nat}:∀i,(pou c n i).length<=i * n
 |0=>by simp[pou,nl]
 |i+1=>by
  have a:=Yzx (n:=n) i;have b:=Yzw c (pou c n i) i (n- (i+1));simp only[pou];rw[Nat.add_mul];omega
end
def Wzj (s:az7)(i:Nat):Int:=(s.Xe.getD i qu).Xz
def uz1 (s:az7)(i k:Nat):Bool:= !qv (carN s.Xg (Wzj s i+1).toNat=carN s.Xg (Wzj s k+1).toNat)&& !skV s (Wzj s i) (Wzj s k)
def cz7 (s:az7):List czh:=if bzv s=0 then pou (uz1 s) s.Xe.length s.Xe.length else nl
theorem az2w (s:az7):(Ozq s).o=some (cz7 s):=by
 show(Fz1 s).run NN=_;simp only[Fz1,qj,czf,qI,cz7];by_cases h:bzv s=0
 ·have a:=ozn h;have f:=a.len;have j:=a.skips;rw[bz4 h,qc h];refine(bzo (λi=>(pou (uz1 s) s.Xe.length i,(i:Int))) (pou (uz1 s) s.Xe.length s.Xe.length) s.Xe.length rfl (show s.Xe.length<4294967296 from qa) (λi d=>?_) ?_).trans rfl
  ·rw[az5 qa];rw[wn qa];refine(bzo (λm=>(pin (uz1 s) (pou (uz1 s) s.Xe.length i) i m,((i+1+m:Nat):Int))) (pou (uz1 s) s.Xe.length (i+1)) (s.Xe.length- (i+1)) rfl (show s.Xe.length- (i+1)<4294967296 from qa) (λm l=>?_) ?_).trans rfl
   ·have g:i+1+m<s.Xe.length:=qa
    have b:=(yzd (a.shape i d)).2;have c:=(yzd (a.shape (i+1+m) g)).2;have q:=Yzw (uz1 s) (pou (uz1 s) s.Xe.length i) i m;have lo:=Yzx (uz1 s) (n:=s.Xe.length) i;have p:i * s.Xe.length<=24 * 24:=qz qa qa;simp only[qF];rw[az5 qa,az8 ⟨qa,qa⟩,az8 ⟨qa,qa⟩,wn qa];simp only[az2x a.robot b.1 b.2 c.1 c.2,Vzf s _ _ (show s.Xs.length<4294967296 from qa),qI,pin]
    have e:(andC (bif (s.Xe.getD i qu).Xz !=(s.Xe.getD (i+1+m) qu).Xz then bif !qv (carN s.Xg ((s.Xe.getD i qu).Xz+1).toNat=carN s.Xg ((s.Xe.getD (i+1+m) qu).Xz+1).toNat)then
     some (.out (!skV s (s.Xe.getD i qu).Xz (s.Xe.getD (i+1+m) qu).Xz))else some (.out false)else some (.out false)):(Bool->Option (Step3 Unit (List czh) (Step3 (List czh×Int) (List czh) (Step3 (List czh×Int) (List czh) (List czh)))))->_)=λk=>k (uz1 s i (i+1+m)):=by
     grind[az3,uz1,Wzj]
    rw[e];rw[az8 ⟨jt,by simp[aze];omega⟩];cases uz1 s i (i+1+m)<;>rfl
   ·rw[azb qa];rfl
  simp_all
 grind
theorem Zzn (s:az7):(Lzj s).o=some (cz7 s):=by
 show(Bzi s).run NN=_;simp only[Bzi,qj,izs,qI,cz7];by_cases h:bzv s=0
 ·have a:=ozn h;have f:=a.len;have e:=a.skips;have b:=ezg a.robot;rw[bz4 h,qc h,Pzx a.robot,qI];refine(bzo (λi=>(pou (uz1 s) s.Xe.length i,(i:Int))) (pou (uz1 s) s.Xe.length s.Xe.length) s.Xe.length rfl (show s.Xe.length<4294967296 from qa) (λi d=>?_) ?_).trans rfl
  ·rw[az5 qa,az8 ⟨jq,qa⟩];rw[wn qa];refine(bzo (λm=>(pin (uz1 s) (pou (uz1 s) s.Xe.length i) i m,((i+1+m:Nat):Int))) (pou (uz1 s) s.Xe.length (i+1)) (s.Xe.length- (i+1)) rfl (show s.Xe.length- (i+1)<4294967296 from qa) (λm l=>?_) ?_).trans rfl
   ·have c:i+1+m<s.Xe.length:=qa
    have g:=(yzd (a.shape i d)).2;have p:=(yzd (a.shape (i+1+m) c)).2;have k:=Yzw (uz1 s) (pou (uz1 s) s.Xe.length i) i m;have lo:=Yzx (uz1 s) (n:=s.Xe.length) i;have j:i * s.Xe.length<=24 * 24:=qz qa qa;simp only[qF,bzp]
    rw[az5 qa,az8 ⟨qa,qa⟩,w64 (x:=(s.Xe.getD i qu).Xz+1) qa qa,w64 (x:=(s.Xe.getD (i+1+m) qu).Xz+1) qa qa,
     az8 ⟨qa,qa⟩,az8 ⟨qa,qa⟩,wn qa,jz3 qa,jz3 qa]
    simp only[Tzp s _ _ (show s.Xs.length<4294967296 from qa),qI,pin]
    grind[andC,caP,uz1,Wzj,az8,aze]
   ·rw[azb qa];rfl
  simp_all
 grind
theorem u64w {x:Int}(h0:0<=x)(h1:x<18446744073709551616):IntKind.u64.wrap x=x:=by
 show(if(false&&qv (x % 18446744073709551616>=9223372036854775808))=true then x % 18446744073709551616-18446744073709551616 else x % 18446744073709551616)=x;rw[qb jq];omega
theorem u8w {x:Int}(h0:0<=x)(h1:x<256):IntKind.u8.wrap x=x:=by
 show(if(false&&qv (x % 256>=128))=true then x % 256-256 else x % 256)=x;rw[qb jq];omega
def IsRoot (n s:Int):Prop:=0<=s/\s * s<=n/\n<(s+1) * (s+1)
theorem IsRoot.uniq {n s t:Int}(h1:IsRoot n s)(h2:IsRoot n t):s=t:=by
 obtain⟨a0,a1,a2⟩:=h1;obtain⟨b0,b1,b2⟩:=h2;by_cases h:s<t
 ·have:(s+1) * (s+1)<=t * t:=qL qa qa qa qa;omega
 ·by_cases h':t<s
  ·have:(t+1) * (t+1)<=s * s:=qL qa qa qa qa;omega
  ·omega
theorem az5h {n:Int}(h0:1<=n)(h1:n<4611686018427387904):∃s,(szm n).o=some s/\IsRoot n s:=by
 have e0:(szm n).o=(Izu n).run NN:=rfl;rw[e0];simp only[Izu,qj];rw[azb qa]
 refine Yz0 (β:=Int) (g:=λs=>some s) (P:=λs=>IsRoot n s) (λ(y:Int×Int)=>1<=y.1/\y.1<y.2/\y.2<=4294967296/\y.1 * y.1<=n/\n<y.2 * y.2) (λy=>(y.2-y.1).toNat) (λs=>IsRoot n s)
  ⟨jp,jp,jp,qa,jw⟩ jp (λy hy=>?_) (λs hs=>⟨s,rfl,hs⟩)
 obtain⟨a1,a2,a3,a4,a5⟩:=hy;rw[w64 (x:=y.2-y.1) qa qa];by_cases hd:y.2-y.1>1
 ·left;rw[az5 hd,Bzr qa,w64 (x:=(y.2-y.1) / 2) qa qa,w64 (x:=y.1+(y.2-y.1) / 2) qa qa,az8 qa];generalize hm:y.1+(y.2-y.1) / 2=m;have m1:y.1<m/\m<y.2:=qa
  have q:=Oz0 (a:=n) (b:=m) qa;have q1:=q.1 qa;rw[Bzr qa,w64 (x:=n / m) qa qa];have key:m<=n / m↔m * m<=n:=qC qa;by_cases hc:m<=n / m
  ·rw[az5 hc];exact⟨_,rfl,⟨jw,jw,a3,key.1 hc,a5⟩,jw⟩
  ·rw[azb hc];exact⟨_,rfl,⟨a1,jw,jw,a4,by simp only;have:=mt key.2 hc;omega⟩,jw⟩
 ·right;rw[azb hd];exact⟨_,rfl,qa,a4,by rw[show y.1+1=y.2 from qa];exact a5⟩
def lenT (b:Nat):Nat:=((#[0,1,2,2,3,3,3,3,4,4,4,4,4,4,4,4,5,5,5,5,5,5,5,5,5,5,5,5,5,5,5,5,6,6,6,6,6,6,6,6,6,6,6,6,6,6,6,6,6,6,6,6,6,6,6,6,6,6,6,6,6,6,6,6,7,7,7,7,7,7,7,7,7,7,7,7,7,7,7,7,7,7,7,7,7,7,7,7,7,7,7,7,7,7,7,7,7,7,7,7,7,7,7,7,7,7,7,7,7,7,7,7,7,7,7,7,7,7,7,7,7,7,7,7,7,7,7,7,8,8,8,8,8,8,8,8,8,8,8,8,8,8,8,8,8,8,8,8,8,8,8,8,8,8,8,8,8,8,8,8,8,8,8,8,8,8,8,8,8,8,8,8,8,8,8,8,8,8,8,8,8,8,8,8,8,8,8,8,8,8,8,8,8,8,8,8,8,8,8,8,8,8,8,8,8,8,8,8,8,8,8,8,8,8,8,8,8,8,8,8,8,8,8,8,8,8,8,8,8,8,8,8,8,8,8,8,8,8,8,8,8,8,8,8,8,8,8,8,8,8,8,8,8,8,8,8]:Array UInt8).getD b 0).toNat
theorem azls:∀b,b<256->b<2 ^ lenT b/\lenT b<=8:=of_decide_eq_true ju
def lenE (y:Int×Int):Option Int:=grd (0<=IntKind.u8.wrap y.1/\IntKind.u8.wrap y.1<((256:Nat):Int)) (some (qt.wrap (y.2+qt.wrap ((lenT (IntKind.u8.wrap y.1).toNat:Nat):Int))))
theorem azou (n:Int):(gzm n).o=
 andC (bif qv (n>=4294967296)then some (.out (n.fdiv (2 ^ min (32:Int).toNat 64),32))else some (.out (n,0)):Option (Step3 Unit (Int×Int) Int)) λy5=>
 andC (bif qv (y5.1>=65536)then some (.out (y5.1.fdiv (2 ^ min (16:Int).toNat 64),qt.wrap (y5.2+16)))else some (.out (y5.1,y5.2)):Option (Step3 Unit (Int×Int) Int)) λy6=>
 andC (bif qv (y6.1>=256)then some (.out (y6.1.fdiv (2 ^ min (8:Int).toNat 64),qt.wrap (y6.2+8)))else some (.out (y6.1,y6.2)):Option (Step3 Unit (Int×Int) Int)) λy7=>lenE y7:=ju
theorem Mzt {n:Int}(h0:0<=n)(h1:n<4294967296):∃L:Nat,(gzm n).o=some (L:Int)/\n<2 ^ L/\L<=32:=by
 rw[azou,azb qa,az3];have fin:∀ (x:Int) (k:Nat),0<=x->x<256->k<=24->n<(x+1) * 2 ^ k->∃L:Nat,lenE (x,(k:Int))=some (L:Int)/\n<2 ^ L/\L<=32:=by
  intro x k x0 x1 hk hn;obtain⟨b,rfl⟩:∃b:Nat,x=(b:Int):=⟨x.toNat,qa⟩;have hb:=azls b qa;unfold lenE;simp only;rw[u8w qa qa,az8 ⟨qa,qa⟩,qF,w64 (x:=((lenT b:Nat):Int)) qa qa,w64 qa qa];refine⟨k+lenT b,by rw[Int.natCast_add],?_,qa⟩;have h2:(((b+1:Nat):Int)) * 2 ^ k<=2 ^ lenT b * 2 ^ k:=by
   refine wh ?_ (qB (ezw k))
   exact_mod_cast hb.1
  rw[Nat.add_comm,qD];have h3:((b:Int)+1)=((b+1:Nat):Int):=qa
  rw[h3]at hn;omega
 have s16:∀x:Int,x.fdiv (2 ^ min (wi 16) 64)=x / 65536:=λx=>Yz1 x 16
 have s8:∀x:Int,x.fdiv (2 ^ min (wi 8) 64)=x / 256:=λx=>Yz1 x 8
 have p24:(2:Int) ^ 24=16777216:=jp
 have p16:(2:Int) ^ 16=65536:=jp
 have p8:(2:Int) ^ 8=256:=jp
 have e16:qt.wrap (0+16)=16:=jp
 have e8:qt.wrap (0+8)=8:=jp
 have e24:qt.wrap (16+8)=24:=jp
 by_cases c1:n>=65536
 ·rw[az5 c1,az3,s16,e16];by_cases c2:n / 65536>=256
  ·rw[az5 c2,az3,s8,e24];exact fin _ 24 qa qa qa (by rw[p24];omega)
  ·rw[azb c2,az3];exact fin _ 16 qa qa qa (by rw[p16];omega)
 ·rw[azb c1,az3];by_cases c2:n>=256
  ·rw[az5 c2,az3,s8,e8];exact fin _ 8 qa qa qa (by rw[p8];omega)
  ·rw[azb c2,az3];exact fin _ 0 qa qa qa (by simp only[Int.pow_zero];omega)
theorem az19 {n:Int}(h0:1<=n)(h1:n<4294967296):∃s,(Dzh n).o=some s/\IsRoot n s:=by
 have e0:(Dzh n).o=(Dzi n).run NN:=rfl;rw[e0];obtain⟨L,l1,l2,l3⟩:=Mzt (n:=n) qa h1;simp only[Dzi,qj];rw[azb qa,u64w (x:=n) qa qa,l1,qI,w64 (x:=(L:Int)+1) qa qa,Bzr qa,w64 (x:=((L:Int)+1) / 2) qa qa,az8 qa];obtain⟨W,hW⟩:∃W:Nat,((L:Int)+1) / 2=(W:Int):=⟨(L+1) / 2,qa⟩;rw[hW,qF,qG qa,Int.one_mul];have hw16:W<=16:=qa
 have hpw:(2:Int) ^ W<=65536:=by
  have:(2:Int) ^ W<=2 ^ 16:=by exact_mod_cast qU (by decide:0<2) hw16
  have e:(2:Int) ^ 16=65536:=jp
  omega
 have hp0:=ezw W;rw[u64w (x:=2 ^ W) qa qa];have hn4:n<2 ^ W * 2 ^ W:=by
  rw[<-qD];have:(2:Int) ^ L<=2 ^ (W+W):=by exact_mod_cast qU (by decide:0<2) (show L<=W+W from qa)
  omega
 refine Yz0 (β:=Int) (g:=λs=>some s) (P:=λs=>IsRoot n s) (λ(y:Int×Int×Int)=>∃k:Nat,y.2.2=((W-k:Nat):Int)/\k<=W/\y.2.1=2 ^ k/\0<=y.1/\y.1<=2 ^ W-2 ^ k/\y.1 * y.1<=n/\n<(y.1+2 ^ k) * (y.1+2 ^ k))
  (λy=>((W:Int)-y.2.2).toNat) (λs=>IsRoot n s) ⟨W,jq,qk _,rfl,jq,jq,jv,by simp only[Int.zero_add];exact hn4⟩ (by show _<4294967296;simp only;omega) (λy hy=>?_) (λs hs=>⟨qt.wrap s,rfl,?_⟩)
 ·obtain⟨k,b1,b2,b3,b4,b5,b6,b7⟩:=hy;rw[b1,b3];cases k with
  |zero=>
   right;rw[azb qa];exact⟨_,rfl,b4,b6,by simpa using b7⟩
  |succ k=>
   left;have hk2:(2:Int) ^ (k+1)=2 * 2 ^ k:=by rw[wj];omega
   have hkp:=ezw k;rw[az5 qa,Bzr qa,show(2:Int) ^ (k+1) / 2=2 ^ k from qa,u64w (x:=2 ^ k) qa qa,u64w (x:=y.1+2 ^ k) qa qa];have hsq:(y.1+2 ^ k) * (y.1+2 ^ k)<=65536 * 65536:=qL qa qa qa qa;have hsq0:0<=(y.1+2 ^ k) * (y.1+2 ^ k):=qK qa qa;rw[u64w (x:=(y.1+2 ^ k) * (y.1+2 ^ k)) hsq0 qa];have hi:qt.wrap (((W- (k+1):Nat):Int)+1)=((W-k:Nat):Int):=by rw[w64 qa qa];omega
   rw[hi];by_cases hc:(y.1+2 ^ k) * (y.1+2 ^ k)<=n
   ·rw[az5 hc,az3];exact⟨_,rfl,⟨k,rfl,qa,rfl,jw,jw,hc,by simp only;rw[show y.1+2 ^ k+2 ^ k=y.1+2 ^ (k+1) from qa];exact b7⟩,jw⟩
   ·rw[azb hc,az3];exact⟨_,rfl,⟨k,rfl,qa,rfl,b4,jw,b6,jw⟩,jw⟩
 ·obtain⟨c1,c2,c3⟩:=hs;have:s<=n:=by
   by_cases hz:s=0
   ·omega
   ·have:s * 1<=s * s:=qE qa c1;omega
  rw[w64 qa qa];exact⟨c1,c2,c3⟩
def Czn (n:Int):Int:=(szm n).o.getD 0
theorem az7w {n:Int}(h0:1<=n)(h1:n<4294967296):IsRoot n (Czn n)/\(szm n).o=some (Czn n):=by
 obtain⟨s,e,h⟩:=az5h h0 qa;unfold Czn;rw[e];exact⟨h,rfl⟩
theorem azeg {n s:Int}(h0:1<=n)(h:IsRoot n s):s<=n:=by
 obtain⟨c1,c2,-⟩:=h;by_cases hz:s=0
 ·omega
 ·have:s * 1<=s * s:=qE qa c1;omega
def rupV (n:Int):Int:=if Czn n * Czn n<n then Czn n+1 else Czn n
theorem Uzq {n:Int}(h0:1<=n)(h1:n<4294967296):(Gzy n).o=some (rupV n):=by
 obtain⟨s,e,h⟩:=az19 h0 h1;obtain⟨k1,k2⟩:=az7w h0 h1;have es:s=Czn n:=h.uniq k1;have sl:=azeg h0 k1;obtain⟨r1,r2,r3⟩:=k1;show(vzm n).run NN=_;simp only[vzm,qj,e,qI,es,rupV];rw[w64 (x:=Czn n * Czn n) (by have:=qK r1 r1;omega) qa,w64 (x:=Czn n+1) qa qa];by_cases hc:Czn n * Czn n<n
 ·rw[az5 hc,qc hc,az3]
 ·rw[azb hc,qb hc,az3]
theorem Zz7 {n:Int}(h0:1<=n)(h1:n<4294967296):(Lz6 n).o=some (rupV n):=by
 obtain⟨k1,k2⟩:=az7w h0 h1;have sl:=azeg h0 k1;obtain⟨r1,r2,r3⟩:=k1;show(Azt n).run NN=_;simp only[Azt,qj,k2,qI,rupV];rw[az5 qa,az3,w64 (x:=Czn n * Czn n) (by have:=qK r1 r1;omega) qa,w64 (x:=Czn n+1) qa qa];by_cases hc:Czn n * Czn n<n
 ·rw[az5 hc,qc hc,az3]
 ·rw[azb hc,qb hc,az3]
abbrev V3:=Int×Int×Int
def dz6 (n:V3):Bool:= !((n.1==0)&&((n.2.1==0)&&((n.2.2==0)&&true)))&&jzx n 16384
theorem hzg (n:V3):(fz4 n).o=some (dz6 n):=by
 show(wz6 n).run NN=_;simp only[wz6,qj,fzh n (show(0:Int)<=16384 by decide) jp,qI,dz6];cases (n.1==0)&&((n.2.1==0)&&((n.2.2==0)&&true))<;>rfl
def bey2 (x:Int):Bool:=qv (x< -16384)||qv (x>16384)
theorem Nzq (v:V3):(yzi v).o=some (jzx v 16384):=by
 show(nzr v).run NN=_;simp only[nzr,qj,bzb,az3,ezo];refine(dz9 (λi=>sw (bey2 (([v.1,v.2.1,v.2.2]:List Int).getD i 0)) false) 3 jp (λj hj=>?_) ?_).trans ?_
 ·rw[az5 qa,az8 qa,wn qa,qF,<-czs];rfl
 ·rw[azb qa]
 ·rw[bzf];have:bz1 (λi=>bey2 (([v.1,v.2.1,v.2.2]:List Int).getD i 0)) 3=jzx v 16384:=by
   rw[qR,noneB_iff,nearV_iff];constructor
   ·intro h;have a:=h 0 jp;have b:=h 1 jp;have c:=h 2 jp;simp only[bey2,wk,wm,qp,qi]at a b c;omega
   ·intro h i hi
    match i,hi with
    |0,_=>simp only[bey2,wk,qp,qi];omega
    |1,_=>simp only[bey2,wk,wm,qp,qi];omega
    |2,_=>simp only[bey2,wk,wm,qp,qi];omega
  rw[this];cases jzx v 16384<;>rfl
theorem qz6 (n:V3):(jzo n).o=some (dz6 n):=by
 show(qz5 n).run NN=_;simp only[qz5,qj,Nzq,qI,dz6];cases jzx n 16384<;>cases (n.1==0)&&((n.2.1==0)&&((n.2.2==0)&&true))<;>rfl
theorem az3r {n:V3}(h:dz6 n=true):((-16384<=n.1/\n.1<=16384)/\(-16384<=n.2.1/\n.2.1<=16384)/\(-16384<=n.2.2/\n.2.2<=16384))/\(n.1≠0\/n.2.1≠0\/n.2.2≠0):=by
 simp only[dz6,qm,nearV_iff,qX,Bool.and_eq_false_iff,beq_eq_false_iff_ne,ne_eq,wg]at h;refine⟨h.2,?_⟩;rcases h.1 with h|h|h
 ·exact Or.inl h
 ·exact Or.inr (Or.inl h)
 ·exact Or.inr (Or.inr h)
theorem aznc {x:Int}(h: -16384<=x/\x<=16384):0<=x * x/\x * x<=268435456/\(x≠0->1<=x * x):=by
 have h1:(x * x).natAbs<=16384 * 16384:=by rw[qH];exact qz qa qa
 have h0:0<=x * x:=by
  by_cases hx:0<=x
  ·exact qK hx hx
  ·exact Int.mul_nonneg_of_nonpos_of_nonpos qa qa
 refine⟨h0,qa,λhx=>?_⟩;have:x * x≠0:=Int.mul_ne_zero hx hx;omega
def sqV (n:V3):Int:=n.1 * n.1+n.2.1 * n.2.1+n.2.2 * n.2.2
def azd0 (n:V3):Int:=if dz6 n then rupV (sqV n)else 0
theorem azkl {n:V3}(h:dz6 n=true):1<=sqV n/\sqV n<4294967296/\qt.wrap (qt.wrap (qt.wrap (n.1 * n.1)+qt.wrap (n.2.1 * n.2.1))+qt.wrap (n.2.2 * n.2.2))=sqV n:=by
 obtain⟨⟨b1,b2,b3⟩,hz⟩:=az3r h;have s1:=aznc b1;have s2:=aznc b2;have s3:=aznc b3;unfold sqV;rw[w64 (x:=n.1 * n.1) qa qa,w64 (x:=n.2.1 * n.2.1) qa qa,w64 (x:=n.2.2 * n.2.2) qa qa,w64 (x:=n.1 * n.1+n.2.1 * n.2.1) qa qa,w64 qa qa];refine⟨?_,qa,rfl⟩;rcases hz with h|h|h
 ·have:=s1.2.2 h;omega
 ·have:=s2.2.2 h;omega
 ·have:=s3.2.2 h;omega
theorem Vzs (n:V3):(Hzs n).o=some (azd0 n):=by
 show(xzi n).run NN=_;simp only[xzi,qj,qz6,qI,azd0];cases h:dz6 n
 ·rfl
 ·have hs:=azkl h;simp only[qJ,qd,if_true];rw[hs.2.2,Uzq hs.1 hs.2.1];rfl
theorem Ozk (n:V3):(uzs n).o=some (azd0 n):=by
 show(Ez5 n).run NN=_;simp only[Ez5,qj,hzg,qI,azd0];cases h:dz6 n
 ·rfl
 ·have hs:=azkl h;simp only[qJ,qd,if_true];rw[hs.2.2,Zz7 hs.1 hs.2.1];rfl
def rng (x:az0):Bool:= !(qv (x.Lo< -268435456)||(qv (x.Lo>x.Hi)||qv (x.Hi>268435456)))
theorem azed {x:az0}:rng x=true↔ -268435456<=x.Lo/\x.Lo<=x.Hi/\x.Hi<=268435456:=by
 grind[rng]
def izn (v:IV3):Bool:=rng v.1&&(rng v.2.1&&rng v.2.2)
def farL (l:List IV3)(i:Nat):Bool:= !izn (l.getD i qu)
def dzb (l:List IV3):Bool:=qv (1<=l.length/\l.length<=8)&&bz1 (farL l) l.length
theorem yz2 {l:List IV3}(h:dzb l=true){i:Nat}(a:i<l.length):izn (l.getD i qu)=true:=by
 grind[dzb,noneB_iff,farL]
theorem izm {l:List IV3}(h:dzb l=true):1<=l.length/\l.length<=8:=by
 grind[dzb]
theorem Ez6 (v:IV3):(szd v).o=some (izn v):=by
 show(sze v).run NN=_;simp only[sze,qj,bzb,az3,ezo,izn,rng]
 grind
theorem xzd (l:List IV3):(jzc l).o=some (dzb l):=by
 show(xzc l).run NN=_;simp only[xzc,qj,bzb,az3,ezo,dzb];by_cases h:1<=l.length/\l.length<=8
 ·rw[qg h,qh (p:=(l.length:Int)<1) qa,qh (p:=(l.length:Int)>8) qa];refine(dz9 (λi=>sw (farL l i) false) l.length qa (λj a=>?_) ?_).trans ?_
  ·rw[az5 qa,az8 qa,wn qa,qF,<-czs]
   grind[farL,izn,rng]
  ·simp_all
  ·rw[bzf];cases bz1 (farL l) l.length<;>rfl
 grind
theorem hzf (l:List IV3):(ezb l).o=some (dzb l):=by
 show(wz4 l).run NN=_;simp only[wz4,qj,bzb,az3,Ez6,qI];refine(dz9 (λi=>sw (farL l i) false) (min l.length 9) qa (λj a=>?_) ?_).trans ?_
 ·have e:(bif qv ((j:Int)<(l.length:Int))then qv ((j:Int)<=8)else false)=true:=by grind
  rw[e,qe,az8 qa,wn qa,qF,<-czs];rfl
 ·grind
 ·rw[bzf];unfold dzb;by_cases h:1<=l.length/\l.length<=8
  ·rw[qg h,qG qa,qM];cases bz1 (farL l) l.length
   ·rfl
   ·show(bif qv ((l.length:Int)>=1)then _ else _)=_
    grind
  ·rw[qh h,wo];cases bz1 (farL l) (min l.length 9)
   ·rfl
   ·show(bif qv ((l.length:Int)>=1)then _ else _)=_
    grind
def dLo (n:V3)(v:IV3):Int:=min (n.1 * v.1.Lo) (n.1 * v.1.Hi)+min (n.2.1 * v.2.1.Lo) (n.2.1 * v.2.1.Hi)+min (n.2.2 * v.2.2.Lo) (n.2.2 * v.2.2.Hi)
def dHi (n:V3)(v:IV3):Int:=max (n.1 * v.1.Lo) (n.1 * v.1.Hi)+max (n.2.1 * v.2.1.Lo) (n.2.1 * v.2.1.Hi)+max (n.2.2 * v.2.2.Lo) (n.2.2 * v.2.2.Hi)
theorem az94 {a b:Int}(c: -16384<=a/\a<=16384)(d: -268435456<=b/\b<=268435456): -4398046511104<=a * b/\a * b<=4398046511104:=by
 have h:(a * b).natAbs<=16384 * 268435456:=by rw[qH];exact qz qa qa
 omega
theorem azjf {n:V3}{v:IV3}(e:dz6 n=true)(d:izn v=true):
 qt.wrap (qt.wrap (qt.wrap (0+min (qt.wrap (n.1 * v.1.Lo)) (qt.wrap (n.1 * v.1.Hi)))+min (qt.wrap (n.2.1 * v.2.1.Lo)) (qt.wrap (n.2.1 * v.2.1.Hi)))+min (qt.wrap (n.2.2 * v.2.2.Lo)) (qt.wrap (n.2.2 * v.2.2.Hi)))=dLo n v/\
 qt.wrap (qt.wrap (qt.wrap (0+max (qt.wrap (n.1 * v.1.Lo)) (qt.wrap (n.1 * v.1.Hi)))+max (qt.wrap (n.2.1 * v.2.1.Lo)) (qt.wrap (n.2.1 * v.2.1.Hi)))+max (qt.wrap (n.2.2 * v.2.2.Lo)) (qt.wrap (n.2.2 * v.2.2.Hi)))=dHi n v/\
 (-13194139533312<=dLo n v/\dLo n v<=13194139533312)/\(-13194139533312<=dHi n v/\dHi n v<=13194139533312):=by
 obtain⟨⟨b,a,c⟩,-⟩:=az3r e;simp only[izn,qm,azed]at d;have i:=az94 b (show -268435456<=v.1.Lo/\v.1.Lo<=268435456 from qa);have h:=az94 b (show -268435456<=v.1.Hi/\v.1.Hi<=268435456 from qa);have g:=az94 a (show -268435456<=v.2.1.Lo/\v.2.1.Lo<=268435456 from qa);have j:=az94 a (show -268435456<=v.2.1.Hi/\v.2.1.Hi<=268435456 from qa);have f:=az94 c (show -268435456<=v.2.2.Lo/\v.2.2.Lo<=268435456 from qa);have k:=az94 c (show -268435456<=v.2.2.Hi/\v.2.2.Hi<=268435456 from qa)
 grind[dLo,dHi,w64]
theorem Mz0 {n:V3}{v:IV3}(b:dz6 n=true)(a:izn v=true):(Bzp n v).o=some (dLo n v,dHi n v):=by
 have h:=azjf b a;show(Bzq n v).run NN=_
 simp_all[Bzq,qj]
theorem Szy {n:V3}{v:IV3}(b:dz6 n=true)(a:izn v=true):(Izn n v).o=some (dLo n v,dHi n v):=by
 have h:=azjf b a;show(Izo n v).run NN=_
 simp_all[Izo,qj,hzg,Ez6,az3]
def bst (c:Int->Int->Bool)(f:Nat->Int):Nat->Int×Int
 |0=>(0,0)
 |j+1=>if qv (j=0)||c (f j) (bst c f j).1 then(f j,(j:Int))else bst c f j
def ltB (a b:Int):Bool:=qv (a<b)
def gtB (a b:Int):Bool:=qv (a>b)
def Kz7 (n:V3)(l:List IV3):Int×Int:=bst ltB (λi=>dLo n (l.getD i qu)) l.length
def Kz1 (n:V3)(l:List IV3):Int×Int:=bst gtB (λi=>dHi n (l.getD i qu)) l.length
section
variable {n:V3} {l:List IV3} (hn:dz6 n=true) (hl:dzb l=true)
include hn hl
theorem Pz5:(Bzy n.1 n.2.1 n.2.2 l).o=some ((Kz7 n l).1,(Kz7 n l).2,n.1,n.2.1,n.2.2):=by
 have c:=izm hl;show(pz2 n.1 n.2.1 n.2.2 l).run NN=_;simp only[pz2,qj];refine(bzo (λj=>(n.1,n.2.1,n.2.2,(bst ltB (λi=>dLo n (l.getD i qu)) j).1,(bst ltB (λi=>dLo n (l.getD i qu)) j).2,(j:Int))) (n.1,n.2.1,n.2.2,(Kz7 n l).1,(Kz7 n l).2) l.length rfl (show l.length<4294967296 from qa) (λj d=>?_) ?_).trans rfl
 ·rw[az5 jr,az8 ⟨jq,jr⟩];have g:(qzd (l.getD j qu) n.1 n.2.1 n.2.2).o=some (dLo n (l.getD j qu),n.1,n.2.1,n.2.2):=by
   show(jz2 (l.getD j qu) n.1 n.2.1 n.2.2).run NN=_;simp only[jz2,qj,Mz0 (n:=(n.1,n.2.1,n.2.2)) hn (yz2 hl d),qI]
  have h:∀a b,(qze a b).o=some (ltB a b):=λa b=>rfl
  grind[wn,az3,bst]
 ·rw[azb jq];rfl
theorem Jzq:(uz9 n.1 n.2.1 n.2.2 l).o=some ((Kz1 n l).1,(Kz1 n l).2,n.1,n.2.1,n.2.2):=by
 have c:=izm hl;show(kzv n.1 n.2.1 n.2.2 l).run NN=_;simp only[kzv,qj];refine(bzo (λj=>(n.1,n.2.1,n.2.2,(bst gtB (λi=>dHi n (l.getD i qu)) j).1,(bst gtB (λi=>dHi n (l.getD i qu)) j).2,(j:Int))) (n.1,n.2.1,n.2.2,(Kz1 n l).1,(Kz1 n l).2) l.length rfl (show l.length<4294967296 from qa) (λj f=>?_) ?_).trans rfl
 ·rw[az5 jr,az8 ⟨jq,jr⟩];have g:(vz9 (l.getD j qu) n.1 n.2.1 n.2.2).o=some (dHi n (l.getD j qu),n.1,n.2.1,n.2.2):=by
   show(mz3 (l.getD j qu) n.1 n.2.1 n.2.2).run NN=_
   grind[mz3,qj,Mz0,yz2]
  have e:∀a b,(vza a b).o=some (gtB a b):=λa b=>rfl
  grind[wn,az3,bst]
 ·rw[azb jq];rfl
end
def Wzi (n:V3)(l:List IV3):Int×Int×Bool:=bif dz6 n&&dzb l then((Kz7 n l).1,(Kz7 n l).2,true)else(0,0,false)
def Wzc (n:V3)(l:List IV3):Int×Int×Bool:=bif dz6 n&&dzb l then((Kz1 n l).1,(Kz1 n l).2,true)else(0,0,false)
theorem Tzw (n:V3)(l:List IV3):(Fzk n l).o=some (Wzi n l):=by
 show(tzm n l).run NN=_;have a:(vz8 (n.1,n.2.1,n.2.2)).o=some (n.1,n.2.1,n.2.2):=rfl;simp only[tzm,qj,qz6,xzd,qI,Wzi,a]
 grind[az3,Pz5]
theorem Lzz (n:V3)(l:List IV3):(vz7 n l).o=some (Wzc n l):=by
 show(mz2 n l).run NN=_;have a:(Cze (n.1,n.2.1,n.2.2)).o=some (n.1,n.2.1,n.2.2):=rfl;simp only[mz2,qj,qz6,xzd,qI,Wzc,a]
 grind[az3,Jzq]
theorem Zz1 (n:V3)(l:List IV3):(Kzt n l).o=some (Wzi n l):=by
 show(Az7 n l).run NN=_;simp only[Az7,qj,hzg,hzf,qI,Wzi];cases c:dz6 n
 ·rfl
 ·cases b:dzb l
  ·rfl
  ·have a:=izm b;refine(bzo (λj=>((bst ltB (λi=>dLo n (l.getD i qu)) j).1,(bst ltB (λi=>dLo n (l.getD i qu)) j).2,(j:Int))) ((Kz7 n l).1,(Kz7 n l).2) l.length rfl (show l.length<4294967296 from qa) (λj d=>?_) ?_).trans rfl
   ·grind[az8,Szy,yz2,wn,az3,bst,ltB]
   ·rw[azb jq];rfl
theorem Pzq (n:V3)(l:List IV3):(Cz8 n l).o=some (Wzc n l):=by
 show(pzd n l).run NN=_;simp only[pzd,qj,hzg,hzf,qI,Wzc];cases c:dz6 n
 ·rfl
 ·cases b:dzb l
  ·rfl
  ·have a:=izm b;refine(bzo (λj=>((bst gtB (λi=>dHi n (l.getD i qu)) j).1,(bst gtB (λi=>dHi n (l.getD i qu)) j).2,(j:Int))) ((Kz1 n l).1,(Kz1 n l).2) l.length rfl (show l.length<4294967296 from qa) (λj d=>?_) ?_).trans rfl
   ·grind[az8,Szy,yz2,wn,az3,bst,gtB]
   ·rw[azb jq];rfl
def radV (r:Int):Bool:=qv (0<=r)&&qv (r<=1048576)
def Sz3 (n:V3)(a:List IV3)(c:Int)(b:List IV3)(d:Int):Int:=
 qt.wrap (qt.wrap ((Kz7 n a).1- (Kz1 n b).1)-qt.wrap (azd0 n * qt.wrap (c+d)))
def azes (n:V3)(a:List IV3)(c:Int)(b:List IV3)(d:Int):Bool:=dz6 n&&(dzb a&&(dzb b&&(radV c&&radV d)))
def sepV (n:V3)(a:List IV3)(c:Int)(b:List IV3)(d:Int):Bool:=azes n a c b d&&qv (Sz3 n a c b d>0)
theorem wzd (r:Int):(gz1 r).o=some (radV r):=by
 show(wzc r).run NN=_
 grind[wzc,qj,radV]
theorem Vz2 (n:V3)(a:List IV3)(c:Int)(b:List IV3)(d:Int):(Hzd n a c b d).o=some (bif azes n a c b d then(Sz3 n a c b d,true)else(0,false)):=by
 show(wza n a c b d).run NN=_;simp only[wza,qj,Zz1,Pzq,wzd,Ozk,qI,Wzi,Wzc,azes,Sz3];cases dz6 n<;>cases dzb a<;>cases dzb b<;>cases radV c<;>cases radV d<;>rfl
theorem yz4 (n:V3)(a:List IV3)(c:Int)(b:List IV3)(d:Int):(mzz n a c b d).o=some (sepV n a c b d):=by
 show(nz0 n a c b d).run NN=_
 grind[nz0,qj,Vz2,sepV]
theorem az3h (x:fzs):(Fzg x).o=some (dzb x.points&&radV x.radius):=by
 show(Fzh x).run NN=_
 grind[Fzh,qj,xzd,radV]
theorem Nz2 (n:V3)(a:List IV3)(d:Int)(b:List IV3)(c:Int):(mzw n a d b c).o=some (sepV n a d b c):=by
 have g:(Ozg a d b c).o=some ⟨⟨a,d⟩,⟨b,c⟩⟩:=rfl;have e:(Hzr ⟨⟨a,d⟩,⟨b,c⟩⟩ n).o=some (bif azes n a d b c then(Sz3 n a d b c,true)else(0,false)):=by
  show(xze ⟨⟨a,d⟩,⟨b,c⟩⟩ n).run NN=_;simp only[xze,qj,az3h,Tzw,Lzz,Vzs,qI,Wzi,Wzc,azes,Sz3];cases dz6 n<;>cases dzb a<;>cases dzb b<;>cases radV d<;>cases radV c<;>rfl
 have f:(yzf ⟨⟨a,d⟩,⟨b,c⟩⟩ n).o=some (sepV n a d b c):=by
  show(nzl ⟨⟨a,d⟩,⟨b,c⟩⟩ n).run NN=_
  grind[nzl,qj,sepV]
 show(mzx n a d b c).run NN=_
 grind[mzx,qj]
theorem az59 {c:Nat->Nat->Bool}{L:List czh}{i:Nat}{x:czh}:∀ {m:Nat},x∈pin c L i m->x∈L\/∃k,k<m/\x=⟨(i:Int),((i+1+k:Nat):Int)⟩
 |0,h=>Or.inl h
 |m+1,h=>by
  simp only[pin]at h;split at h
  ·rcases List.mem_append.1 h with h|h
   ·rcases az59 h with h|⟨k,b,a⟩
    ·exact Or.inl h
    ·exact Or.inr ⟨k,qa,a⟩
   ·exact Or.inr ⟨m,qa,List.mem_singleton.1 h⟩
  ·rcases az59 h with h|⟨k,b,a⟩
   ·exact Or.inl h
   ·exact Or.inr ⟨k,qa,a⟩
theorem azdo {c:Nat->Nat->Bool}{n:Nat}{x:czh}:∀ {i:Nat},i<=n->x∈pou c n i->0<=x.A/\x.A<(n:Int)/\0<=x.B/\x.B<(n:Int)
 |0,_,h=>by simp[pou,nl]at h
 |i+1,a,h=>by
  rcases az59 h with h|⟨k,d,b⟩
  ·exact azdo qa h
  grind
theorem azw {a:Type}[Inhabited a]{l:List a}{i:Nat}(h:i<l.length):l.getD i qu∈l:=by
 simp_all
theorem az7k {s:az7}(h:bzv s=0){k:Nat}(b:k<(cz7 s).length):(0<=((cz7 s).getD k qu).A/\((cz7 s).getD k qu).A<(s.Xe.length:Int))/\(0<=((cz7 s).getD k qu).B/\((cz7 s).getD k qu).B<(s.Xe.length:Int)):=by
 have a:=azw b;generalize (cz7 s).getD k qu=x at a⊢;unfold cz7 at a;rw[qc h]at a;have:=azdo (qk _) a;omega
theorem yz1 (s:az7):(cz7 s).length<=576:=by
 unfold cz7;split
 ·rename_i h;have a:=(ozn h).len;have c:=Yzx (uz1 s) (n:=s.Xe.length) s.Xe.length;have b:s.Xe.length * s.Xe.length<=24 * 24:=qz a a;omega
 ·simp[nl]
def pA (s:az7)(k:Nat):Nat:=((cz7 s).getD k qu).A.toNat
def pB (s:az7)(k:Nat):Nat:=((cz7 s).getD k qu).B.toNat
def mz6 (s:az7)(i:Nat):Int:=(s.Xe.getD i qu).XE
def sepK (s:az7)(b:List az0)(ns:List V3)(k:Nat):Bool:= !sepV (ns.getD k qu) (cz2 s b (pA s k)) (mz6 s (pA s k)) (cz2 s b (pB s k)) (mz6 s (pB s k))
def vzn (s:az7)(b:List az0)(ns:List V3):Bool:=
 qv (bzv s=0)&&(boxV s.Xg b&&(qv (ns.length=(cz7 s).length)&&bz1 (sepK s b ns) (cz7 s).length))
theorem Szs {s:az7}{b:List az0}(h:bzv s=0)(a:boxV s.Xg b=true):sz9 s b=tab (cz2 s b) s.Xe.length:=by grind[sz9]
theorem Pz2 (s:az7)(b:List az0)(a:b.length<4294967296):(ozx s b).o=some (if bzv s=0/\boxV s.Xg b=true then(⟨s.Xe,cz7 s,sz9 s b⟩,true)else(⟨nl,nl,nl⟩,false)):=by
 show(ozy s b).run NN=_;simp only[ozy,qj,izs,qI];by_cases h:bzv s=0
 ·rw[bz4 h,az3];by_cases e:b.length=s.Xg.Xc.length
  ·rw[bz4 qa];refine(dz9 (λi=>sw (notV b i) ((⟨nl,nl,nl⟩:czt),false)) b.length a (λj d=>?_) ?_).trans ?_
   ·rw[az5 qa,az8 qa,wn qa,qF,<-czs];simp only[czb,qI];rfl
   ·simp_all
   ·rw[bzf];have:boxV s.Xg b=bz1 (notV b) b.length:=by grind[boxV]
    rw[this];cases bz1 (notV b) b.length
    ·rw[qb (λh=>jt)];rfl
    ·simp_all[sw,Zzn,Izc]
  grind[boxV]
 grind[az3]
theorem Gzc (s:az7)(b:List az0)(ns:List V3)(c:b.length<4294967296):(qzb s b ns).o=some (vzn s b ns):=by
 have f:=yz1 s;have e:=Pz2 s b c;show(izx s b ns).run NN=_;have k:(Bzv s b ⟨ns⟩).o=some (vzn s b ns):=by
  show(ozw s b ⟨ns⟩).run NN=_;simp only[ozw,qj,e,qI];by_cases h:bzv s=0/\boxV s.Xg b=true
  ·have l:(vz6 ⟨ns⟩ ⟨s.Xe,cz7 s,sz9 s b⟩).o=some (qv (ns.length=(cz7 s).length)&&bz1 (sepK s b ns) (cz7 s).length):=by
    show(lzs ⟨ns⟩ ⟨s.Xe,cz7 s,sz9 s b⟩).run NN=_;simp only[lzs,qj];by_cases d:ns.length=(cz7 s).length
    ·rw[bz4 qa,qg d,qM];refine(dz9 (λi=>sw (sepK s b ns i) false) ns.length qa (λj m=>?_) ?_).trans ?_
     ·have a:=az7k h.1 (show j<(cz7 s).length from qa);have g:(yzw ⟨s.Xe,cz7 s,sz9 s b⟩ (j:Int)).o=some ⟨cz2 s b (pA s j),cz2 s b (pB s j),mz6 s (pA s j),mz6 s (pB s j)⟩:=by
       show(yzx ⟨s.Xe,cz7 s,sz9 s b⟩ (j:Int)).run NN=_;simp only[yzx,qj,qF,Szs h.1 h.2,bzp];rw[az8 ⟨qa,qa⟩,az8 a.1,az8 a.1,az8 a.2,az8 a.2,jz3 qa,jz3 qa];rfl
      rw[az5 qa,az8 qa,wn qa,qF,<-czs];simp only[g,Nz2,qI];rfl
     ·simp_all
     ·rw[bzf,d];cases bz1 (sepK s b ns) (cz7 s).length<;>rfl
    grind
   grind[vzn]
  grind[vzn]
 simp_all[izx,qj]
def azet (s:az7)(b:List az0)(k:Nat):azz:=⟨cz2 s b (pA s k),mz6 s (pA s k)⟩
def azeu (s:az7)(b:List az0)(k:Nat):azz:=⟨cz2 s b (pB s k),mz6 s (pB s k)⟩
theorem Kzz (s:az7)(b:List az0)(a:b.length<4294967296):(Azi s b).o=some (if bzv s=0/\boxV s.Xg b=true then(tab (azet s b) (cz7 s).length,tab (azeu s b) (cz7 s).length,true)else(nl,nl,false)):=by
 have d:=yz1 s;show(Azj s b).run NN=_;simp only[Azj,qj,czf,Az5 _ b a,qI];by_cases h:bzv s=0
 ·rw[bz4 h,az3];cases e:boxV s.Xg b
  ·simp_all
  ·rw[qc ⟨h,rfl⟩];simp only[qJ,qd,Vz0 s b a,az2w,qI,Szs h e];refine(bzo (λj=>(tab (azet s b) j,tab (azeu s b) j,(j:Int))) (tab (azet s b) (cz7 s).length,tab (azeu s b) (cz7 s).length) (cz7 s).length rfl (show(cz7 s).length<4294967296 from qa) (λj f=>?_) ?_).trans rfl
   ·have c:=az7k h f;rw[az5 jr,az8 ⟨jq,jr⟩,az8 ⟨jq,jr⟩];simp only[qF,bzp];rw[az8 c.1,az8 c.1,az8 ⟨jt,by simp[aze];omega⟩,az8 c.2,az8 c.2,az8 ⟨jt,by simp[aze];omega⟩,wn qa,jz3 qa,jz3 qa,ezq,ezq];rfl
   simp_all
 grind[az3]
theorem yz3 (s:az7)(b:List az0)(ns:List V3)(a:b.length<4294967296):(izp s b ns).o=some (vzn s b ns):=by
 have e:=yz1 s;show(mzy s b ns).run NN=_;simp only[mzy,qj,Kzz s b a,qI];by_cases h:bzv s=0/\boxV s.Xg b=true
 ·rw[qc h];simp only[qJ,qd,az3,bzp,vzn,h.2,qg h.1,qM];by_cases f:ns.length=(cz7 s).length
  ·rw[bz4 qa,qg f,qM];refine(dz9 (λi=>sw (sepK s b ns i) false) (cz7 s).length qa (λj d=>?_) ?_).trans ?_
   ·rw[az5 qa,az8 qa,az8 qa,az8 qa,az8 qa,az8 qa,wn qa,qF,<-czs,jz3 d,jz3 d];simp only[yz4,qI];rfl
   ·simp_all
   ·rw[bzf];cases bz1 (sepK s b ns) (cz7 s).length<;>rfl
  grind
 ·rw[qb h];have:vzn s b ns=false:=by
   grind[vzn]
  rw[this];rfl
def begV (x:az6):Option (Int×Int):=if(0<=x.Xk/\x.Xk<=20)/\0<=x.Xu/\x.Xu<2 ^ x.Xk.toNat then some (x.Xu * 2 ^ (20-x.Xk.toNat),2 ^ (20-x.Xk.toNat))else none
theorem Xz5 {x:az6}{f n:Int}(h:begV x=some (f,n)):0<=f/\f<1048576/\0<n/\n<=1048576:=by
 unfold begV at h;split at h
 ·rename_i d;obtain⟨rfl,rfl⟩:=h;have a:=ezw (20-x.Xk.toNat);have c:=azdp (show 20-x.Xk.toNat<=20 from qa);refine⟨qK d.2.1 qa,?_,a,c⟩;have b:(x.Xu+1) * 2 ^ (20-x.Xk.toNat)<=2 ^ x.Xk.toNat * 2 ^ (20-x.Xk.toNat):=wh qa qa;rw[<-qD,show x.Xk.toNat+(20-x.Xk.toNat)=20 from qa,Int.add_mul,Int.one_mul]at b;omega
 grind
theorem Lz2 (x:az6):(Azn x).o=some (match begV x with|some (f,n)=>(f,n,true)|none=>(0,0,false)):=by
 show(Azo x).run NN=_;simp only[Azo,qj];by_cases d:x.Xk<0
 ·grind[begV,az3]
 ·rw[azb d];by_cases a:x.Xk>20
  ·grind[begV,az3]
  ·rw[azb a];by_cases c:x.Xu<0
   ·grind[begV,az3]
   ·rw[azb c,azf3 qa qa,az8 qa,az3,qG qa,w2k qa];by_cases e:x.Xu>=2 ^ x.Xk.toNat
    ·grind[begV]
    ·have b:begV x=some (x.Xu * 2 ^ (20-x.Xk.toNat),2 ^ (20-x.Xk.toNat)):=by grind[begV]
     have g:=Xz5 b
     grind[w64,azf3,az8]
def plc (l:List az6):Nat->Int
 |0=>0
 |j+1=>match begV (l.getD j qu)with
  |some (f,n)=>f+n
  |none=>0
def badT (l:List az6)(j:Nat):Bool:=match begV (l.getD j qu)with
 |some (f,_)=>f !=plc l j
 |none=>true
theorem azp6 (l:List az6):∀j,0<=plc l j/\plc l j<=2097152
 |0=>by simp[plc]
 |j+1=>by
  simp only[plc];split
  ·rename_i f n h;have:=Xz5 h;omega
  omega
theorem Wzh {σ τ R:Type}{f:σ->Option (Step3 σ τ R)}(c:Nat->σ)(g:Nat->Option R)(r:R):
 ∀ (n i N:Nat),n<N->(∀j,i<=j->j<i+n->f (c j)=match g j with|some r=>some (.fin r)|none=>some (.next (c (j+1))))->f (c (i+n))=some (.fin r)->
   iter f N (c i)=some (.inr (match scan g n i with|some l=>l|none=>r))
 |0,i,0,h,_,_=>qa
 |0,i,N+1,_,_,h=>by grind[iter,scan]
 |n+1,i,0,h,_,_=>qa
 |n+1,i,N+1,o,d,m=>by
  have e:=d i qa qa;simp only[scan];cases k:g i with
  |some r=>grind[iter]
  |none=>
   rw[k]at e;simp only[iter,e];exact Wzh c g r n (i+1) N qa (λj a b=>d j qa qa) jt
theorem Wzk {σ τ R:Type}{f:σ->Option (Step3 σ τ R)}{k:τ->Option R}{x:σ}(a:Nat->σ)(g:Nat->Option R)(r:R)(n:Nat)(e:x=a 0)(b:n<NN)
 (d:∀j,j<n->f (a j)=match g j with|some r=>some (.fin r)|none=>some (.next (a (j+1)))) (i:f (a n)=some (.fin r)):
 andK (iter f NN x) k=some (match scan g n 0 with|some c=>c|none=>r):=by
 rw[e,Wzh a g r n 0 NN b (λj _ h=>d j qa) jr];rfl
def uz8 (l:List az6):Int×Bool:=
 if l.length<=4096 then(match scan (λj=>sw (badT l j) ((j:Int),false)) l.length 0 with|some r=>r|none=>((l.length:Int),plc l l.length==1048576))
 else(match scan (λj=>sw (badT l j) ((j:Int),false)) 4096 0 with|some r=>r|none=>(4096,false))
theorem Wz5 (l:List az6){j:Nat}(e:j<4096){σ τ:Type}{R:Type}(r:R)(x:Int->σ):
 (qO (Azn (l.getD j qu)).o λy=>andC (bif !y.2.2 then some (.out true)else bif y.1 !=plc l j then some (.out true)else some (.out (qv ((j:Int)>=4096))):Option (Step3 Unit Bool (Step3 σ τ R))) λz=>bif z then some (.fin r)else some (.next (x (qt.wrap (y.1+y.2.1)))))=
  match sw (badT l j) r with|some r=>some (.fin r)|none=>some (.next (x (plc l (j+1)))):=by
 rw[Lz2,qI];unfold badT;cases b:begV (l.getD j qu)with
 |none=>rfl
 |some p=>
  obtain⟨f,n⟩:=p;have d:=Xz5 b;simp only[qJ,qd];by_cases h:f=plc l j
  ·rw[bz4 h,az3,qh qa];have a:(f !=plc l j)=false:=by simp_all
   have c:plc l (j+1)=f+n:=by simp only[plc,b]
   rw[a,c,w64 qa qa];rfl
  ·have a:(f !=plc l j)=true:=by simp_all
   rw[bzy h,az3,a];rfl
theorem Zz6 (l:List az6):(Lz3 l).o=some (uz8 l):=by
 show(Azp l).run NN=_;simp only[Azp,qj,uz8];by_cases h:l.length<=4096
 ·refine(hz3 (λj=>(plc l j,(j:Int))) (λj=>sw (badT l j) ((j:Int),false)) (plc l l.length) l.length rfl (show l.length<4294967296 from qa) (λj a=>?_) ?_).trans ?_
  ·rw[az5 qa,az8 ⟨jq,qa⟩];rw[wn qa];exact Wz5 l qa ((j:Int),false) (λz=>(z,((j+1:Nat):Int)))
  all_goals grind
 ·refine(Wzk (λj=>(plc l j,(j:Int))) (λj=>sw (badT l j) ((j:Int),false)) (4096,false) 4096 rfl (show 4096<4294967296 from qa) (λj a=>?_) ?_).trans ?_
  ·rw[az5 qa,az8 ⟨jq,qa⟩];rw[wn qa];exact Wz5 l qa ((j:Int),false) (λz=>(z,((j+1:Nat):Int)))
  ·rw[az5 qa,az8 ⟨jq,qa⟩,Lz2,qI];cases (match begV (l.getD (wi ((4096:Nat):Int)) qu)with|some (f,n)=>(f,n,true)|none=>(0,0,false)).2.2
   ·rfl
   ·cases ((match begV (l.getD (wi ((4096:Nat):Int)) qu)with|some (f,n)=>(f,n,true)|none=>(0,0,false)).1 !=plc l 4096)<;>rfl
  grind
theorem az3p (l:List az6){j:Nat}(q:j<4096){σ τ R:Type}(r:R)(x:Int->σ):∀y:az6,y=l.getD j qu->
 (andC (bif ((j:Int)==4096)then some (.out true)else bif qv (y.Xk<0)then some (.out true)else some (.out (qv (y.Xk>20))):Option (Step3 Unit Bool (Step3 σ τ R))) λk=>
  bif k then some (.fin r)else andC (bif qv (y.Xu<0)then some (.out true)else grd (0<=y.Xk) (some (.out (qv (y.Xu>=qt.wrap (1 * 2 ^ min y.Xk.toNat 64))))):Option (Step3 Unit Bool (Step3 σ τ R))) λn=>
  bif n then some (.fin r)else grd (0<=y.Xk) (bif qt.wrap (y.Xu * (1048576:Int).fdiv (2 ^ min y.Xk.toNat 64)) !=plc l j then some (.fin r)else some (.next (x (qt.wrap (plc l j+(1048576:Int).fdiv (2 ^ min y.Xk.toNat 64)))))))=
  match sw (badT l j) r with|some r=>some (.fin r)|none=>some (.next (x (plc l (j+1)))):=by
 intro y t;rw[fzu qa];unfold badT;by_cases f:y.Xk<0
 ·have:begV (l.getD j qu)=none:=by grind[begV]
  rw[az5 f,az3,this];rfl
 ·rw[azb f,az3];by_cases g:y.Xk>20
  ·have:begV (l.getD j qu)=none:=by grind[begV]
   rw[az5 g,this];rfl
  ·rw[azb g];by_cases d:y.Xu<0
   ·have:begV (l.getD j qu)=none:=by grind[begV]
    rw[az5 d,az3,this];rfl
   ·rw[azb d,az8 qa,az3,qG qa,w2k qa];by_cases c:y.Xu>=2 ^ y.Xk.toNat
    ·have:begV (l.getD j qu)=none:=by grind[begV]
     rw[az5 c,this];rfl
    ·have i:begV (l.getD j qu)=some (y.Xu * 2 ^ (20-y.Xk.toNat),2 ^ (20-y.Xk.toNat)):=by grind[begV]
     have s:=Xz5 i;have m:(1048576:Int).fdiv (2 ^ y.Xk.toNat)=2 ^ (20-y.Xk.toNat):=by
      have e:(1048576:Int)=2 ^ y.Xk.toNat * 2 ^ (20-y.Xk.toNat):=by
       rw[<-qD,show y.Xk.toNat+(20-y.Xk.toNat)=20 from qa];decide
      grind[Int.mul_ediv_cancel_left]
     have p:=azp6 l j;rw[azb c,az8 qa,m,w64 (x:=y.Xu * _) qa qa,w64 (x:=plc l j+_) qa qa];simp only[i];by_cases h:y.Xu * 2 ^ (20-y.Xk.toNat)=plc l j
     ·have b:(y.Xu * 2 ^ (20-y.Xk.toNat) !=plc l j)=false:=by simp_all
      have o:plc l (j+1)=plc l j+2 ^ (20-y.Xk.toNat):=by grind[plc]
      rw[bz4 h,b,o];rfl
     ·have b:(y.Xu * 2 ^ (20-y.Xk.toNat) !=plc l j)=true:=by simp_all
      rw[bzy h,b];rfl
theorem Qzl {R S:Type}{g:Nat->Bool}{r:Nat->R}{f:R->S}:∀ (n i:Nat),scan (λj=>sw (g j) (f (r j))) n i=(scan (λj=>sw (g j) (r j)) n i).map f
 |0,_=>rfl
 |n+1,i=>by
  simp only[scan];cases g i with
  |true=>rfl
  |false=>exact Qzl n (i+1)
def aznj (l:List az6):Int×Int:=bif (uz8 l).2 then(0,0)else((uz8 l).1,2001)
theorem Qzm {g:Nat->Bool}{n:Nat}{r:Int×Bool}(h:scan (λj=>sw (g j) ((j:Int),false)) n 0=some r):r.2=false:=by
 grind[ezh,sw]
theorem Tzh (x:bzq):(Fz6 x).o=some (aznj x.pieces):=by
 show(tz8 x).run NN=_;generalize c:x.pieces=l;simp only[tz8,qj,c,aznj,uz8];have b:∀n,scan (λj=>sw (badT l j) ((j:Int),(2001:Int))) n 0=(scan (λj=>sw (badT l j) ((j:Int),false)) n 0).map λr=>(r.1,2001):=λn=>Qzl (r:=λj=>((j:Int),false)) (f:=λr=>(r.1,(2001:Int))) n 0
 by_cases h:l.length<=4096
 ·rw[qc h];refine(hz3 (λj=>(plc l j,(j:Int))) (λj=>sw (badT l j) ((j:Int),2001)) (plc l l.length) l.length rfl (show l.length<4294967296 from qa) (λj d=>?_) ?_).trans ?_
  ·rw[az5 qa,az8 ⟨jq,qa⟩];rw[wn qa];exact az3p l qa ((j:Int),2001) (λz=>(z,((j+1:Nat):Int))) _ rfl
  ·simp_all
  ·rw[b];cases a:scan (λj=>sw (badT l j) ((j:Int),false)) l.length 0 with
   |none=>
    grind
   |some r=>simp only[ws,Qzm a,qd]
 ·rw[qb h];refine(Wzk (λj=>(plc l j,(j:Int))) (λj=>sw (badT l j) ((j:Int),2001)) (4096,2001) 4096 rfl (show 4096<4294967296 from qa) (λj d=>?_) ?_).trans ?_
  ·rw[az5 qa,az8 ⟨jq,qa⟩];rw[wn qa];exact az3p l qa ((j:Int),2001) (λz=>(z,((j+1:Nat):Int))) _ rfl
  ·rw[az5 qa,az8 ⟨jq,qa⟩];rfl
  ·rw[b];cases a:scan (λj=>sw (badT l j) ((j:Int),false)) 4096 0 with
   |none=>rfl
   |some r=>simp only[ws,Qzm a,qd]
theorem Qzc {l:List az6}(h:(uz8 l).2=true):l.length<=4096/\∀j,j<l.length->begV (l.getD j qu)≠none:=by
 unfold uz8 at h;split at h
 ·rename_i e;refine⟨e,λj f c=>?_⟩;split at h
  ·rename_i b;rw[Qzm b]at h;cases h
  ·rename_i b;have:=(ez3 _ _).1 b j (Nat.zero_le _) qa;have d:badT l j=true:=by unfold badT;rw[c]
   rw[d]at this;cases this
 ·split at h
  ·rename_i b;rw[Qzm b]at h;cases h
  grind
theorem Oz4 {r:azl}{c:List Int}(h:azv r c=true):hzc c=true/\c.length=r.Xc.length/\r.Xc.length<=10/\dzd r=0:=by
 simp only[azv,qm,qf]at h;obtain⟨a,d,e⟩:=h;refine⟨noneB_iff.2 λi f=>?_,d,(ezg a).2.1,a⟩;have:=noneB_iff.1 e i f;have b:=fzi a (show i<r.Xc.length from qa);have j:=Kzr (r.Xc.getD i qu).Xo;have g:=b.lim
 grind[outJ,big1]
theorem azhp {r:azl}{p q:List Int}(a:azv r p=true)(c:azv r q=true){x:az6}(b:begV x≠none):ezp p q x.Xk x.Xu=(tab (Szl p q x.Xk.toNat x.Xu) p.length,true):=by
 have d:=Oz4 a
 grind[Oz4,begV,ezp,motionV_iff]
theorem Szm (p q:List Int)(d i:Int)(a:p.length<4294967296):(ezp p q d i).1.length<4294967296:=by
 grind[ezp,bzp,nl]
def notF (s:az7)(p q:List Int)(l:List az6)(j:Nat):Bool:= !vzn s (ezp p q (l.getD j qu).Xk (l.getD j qu).Xu).1 (l.getD j qu).Xn
def gzq (s:az7)(p q:List Int)(l:List az6):Int×Int:=
 if bzv s≠0 then(0,904)else if(azv s.Xg p&&azv s.Xg q)=false then(0,1201)else if(uz8 l).2=false then((uz8 l).1,2001)else
 match scan (λj=>sw (notF s p q l j) ((j:Int),(2002:Int))) l.length 0 with|some r=>r|none=>(0,0)
section
variable (s:az7) (p q:List Int) (l:List az6) (hp:p.length<4294967296) (hq:q.length<4294967296)
include hp hq
theorem yz5:(nz2 s p q l).o=some (gzq s p q l):=by
 show(nz3 s p q l).run NN=_;simp only[nz3,qj,czf,qI,gzq];by_cases h:bzv s=0
 ·have b:(qzs s p q).o=some (azv s.Xg p&&azv s.Xg q):=by
   show(lzh s p q).run NN=_;simp only[lzh,qj,czf,eza,qI]
   grind
  rw[bz4 h,qb qa,b,qI];cases c:azv s.Xg p&&azv s.Xg q
  ·rfl
  ·simp only[qJ,qd,Zz6,qI,wt,if_false];cases a:(uz8 l).2
   ·rfl
   ·have d:=Qzc a;refine(dz9 (λj=>sw (notF s p q l j) ((j:Int),(2002:Int))) l.length qa (λj e=>?_) ?_).trans ?_;all_goals grind[az8,wn,Azb,yz3,Szm,sw,notF]
 grind
theorem Mzj:(xzv s p q l).o=some (gzq s p q l):=by
 show(mzo s p q l).run NN=_;have k:(Hzo ⟨s,p,q,l⟩).o=some (0,if bzv s=0 then 0 else 904):=by
  show(xz8 ⟨s,p,q,l⟩).run NN=_
  grind[xz8,qj,izs]
 have f:(Fz5 ⟨s,p,q,l⟩).o=some (0,bif azv s.Xg p&&azv s.Xg q then 0 else 1201):=by
  show(tz7 ⟨s,p,q,l⟩).run NN=_;simp only[tz7,qj,hzy,qI,bzb,az3]
  grind
 simp only[mzo,qj,k,qI,gzq];rw[az8 jp,az8 jp,az8 jp,az8 jp];by_cases h:bzv s=0
 ·rw[qc h,qb qa,bz4 rfl,f,qI];cases b:azv s.Xg p&&azv s.Xg q
  ·rfl
  ·simp only[qe,wt,if_false,Tzh,qI,aznj];cases g:(uz8 l).2
   ·rfl
   ·have i:=Qzc g;simp only[qm]at b;have d:(vz2 ⟨s,p,q,l⟩).o=some (match scan (λj=>sw (notF s p q l j) ((j:Int),(2002:Int))) l.length 0 with|some r=>r|none=>(0,0)):=by
     show(lzn ⟨s,p,q,l⟩).run NN=_;simp only[lzn,qj];refine(dz9 (λj=>sw (notF s p q l j) ((j:Int),(2002:Int))) l.length qa (λj e=>?_) ?_).trans ?_
     ·have c:=azhp b.1 b.2 (i.2 j e);rw[az5 qa,az8 qa,wn qa,qF,<-czs];simp only[Uzh p q _ _ hp hq,qI];have a:(ezp p q (l.getD j qu).Xk (l.getD j qu).Xu).2=true:=by rw[c]
      rw[a];simp only[qJ,qd,Gzc s _ _ (Szm p q _ _ hp),qI,az3];rfl
     all_goals grind
    simp only[d,qI]
    grind[sw,ezh]
 simp_all
end
theorem az0r {s:az7}{p q:List Int}{l:List az6}(h:(gzq s p q l).2=0):bzv s=0/\azv s.Xg p=true/\azv s.Xg q=true/\l.length<=4096:=by
 grind[gzq,Qzc]
def inV (v:V3):Prop:=InR v.1/\InR v.2.1/\InR v.2.2
theorem az9c (a:az0):(Gz1 a).o=some (midV a):=by
 show(Nz8 a).run NN=_;simp only[Nz8,qj,fz5,qI,midV];cases h:vV a
 ·rfl
 ·simp only[vV_iff]at h;rw[w64 qa qa,dzk ⟨qa,qa⟩ jp];rfl
def cenF (l:List IV3)(i:Nat):V3:=(midV (l.getD i qu).1,midV (l.getD i qu).2.1,midV (l.getD i qu).2.2)
def cenV (l:List IV3):List V3:=if dzb l then tab (cenF l) l.length else nl
theorem lz9 (l:List IV3):(dzt l).o=some (cenV l):=by
 show(sza l).run NN=_;simp only[sza,qj,hzf,qI,cenV];cases h:dzb l
 ·rfl
 ·have a:=izm h;refine(bzo (λj=>(tab (cenF l) j,(j:Int))) (tab (cenF l) l.length) l.length rfl (show l.length<4294967296 from qa) (λj b=>?_) ?_).trans rfl
  ·rw[az5 qa,az8 ⟨jq,qa⟩];simp only[az9c,qI];rw[az8 ⟨jq,qa⟩,az8 ⟨jq,qa⟩,az8 ⟨by simp[bzp];omega,by grind[bzp,aze]⟩,wn qa,ezq];rfl
  simp_all
theorem az6m {l:List IV3}(h:dzb l=true):(cenV l).length=l.length:=by grind[cenV,bzp]
theorem Uz0 {a:Int}(b:InR a): -16384<=a.tdiv 562949953421312/\a.tdiv 562949953421312<=16384:=by
 obtain⟨d,c⟩:=b
 grind
theorem Hza {v:V3}(h:inV v):∃n c,(jz8 v).o=some (n,c)/\inV n:=by
 have j:(jz8 v).o=(wz3 v).run NN:=rfl;rw[j];simp only[wz3,qj];cases (v.1==0)&&((v.2.1==0)&&((v.2.2==0)&&true))
 ·have b:∀ (m k N:Nat),k+m=49->m<N->∃n c,andK (iter (λ(a:Int)=>(grd (a≠0) (grd (a≠0) (grd (a≠0) ((ezs ((qt.wrap (v.1.tdiv a)),(qt.wrap (v.2.1.tdiv a)),(qt.wrap (v.2.2.tdiv a))) 16384).o.bind λd=>
   bif d then some (.fin (((qt.wrap (v.1.tdiv a)),(qt.wrap (v.2.1.tdiv a)),(qt.wrap (v.2.2.tdiv a))),true))else some (.next (qt.wrap (a * 2)))))):Option (Step3 Int U0 (V3×Bool)))) N (2 ^ k)) (λ_=>none)=some (n,c)/\inV n:=by
   intro m;induction m with
   |zero=>
    intro k N p r;obtain⟨M,rfl⟩:∃M,N=M+1:=⟨N-1,qa⟩;obtain rfl:k=49:=qa
    have e:(2:Int) ^ 49=562949953421312:=jp
    have l:=Uz0 h.1;have g:=Uz0 h.2.1;have q:=Uz0 h.2.2;simp only[iter,e]
    rw[az8 jp,az8 jp,az8 jp,w64 (x:=v.1.tdiv _) qa qa,w64 (x:=v.2.1.tdiv _) qa qa,w64 (x:=v.2.2.tdiv _) qa qa,fzh _ jp jp,qI,
     show jzx (v.1.tdiv 562949953421312,v.2.1.tdiv 562949953421312,v.2.2.tdiv 562949953421312) 16384=true from nearV_iff.2 ⟨l,g,q⟩]
    exact⟨_,_,rfl,⟨qa,qa⟩,⟨jt,jt⟩,⟨jt,jt⟩⟩
   |succ m i=>
    intro k N p r;obtain⟨M,rfl⟩:∃M,N=M+1:=⟨N-1,qa⟩;have s:=ezw k;have f:(2:Int) ^ k<=562949953421312:=by
     have:(2:Int) ^ k<=2 ^ 49:=by exact_mod_cast qU (by decide:0<2) (show k<=49 from qa)
     omega
    simp only[iter];rw[az8 qa,az8 qa,az8 qa,fzh _ jp jp,qI];cases jzx (qt.wrap (v.1.tdiv (2 ^ k)),qt.wrap (v.2.1.tdiv (2 ^ k)),qt.wrap (v.2.2.tdiv (2 ^ k))) 16384
    ·rw[w64 (x:=2 ^ k * 2) qa qa,<-wj];exact i (k+1) M qa qa
    ·exact⟨_,_,rfl,InR.wr _,InR.wr _,InR.wr _⟩
  exact b 49 0 NN rfl jp
 simp_all
def farN (l:List V3)(i:Nat):Bool:= !jzx (l.getD i qu) 268435456
def fewV (l:List V3):Bool:=qv (1<=l.length/\l.length<=8)&&bz1 (farN l) l.length
theorem azbj {l:List V3}(h:fewV l=true):1<=l.length/\l.length<=8:=by
 grind[fewV]
theorem az5f (l:List V3):(Izq l).o=some (fewV l):=by
 show(Izr l).run NN=_;simp only[Izr,qj,bzb,az3,fzh _ (show(0:Int)<=268435456 by decide) jp,qI];refine(dz9 (λi=>sw (farN l i) false) (min l.length 9) qa (λj a=>?_) ?_).trans ?_
 ·have e:(bif qv ((j:Int)<(l.length:Int))then qv ((j:Int)<=8)else false)=true:=by grind
  rw[e,qe,az8 qa,wn qa,qF,<-czs];rfl
 ·grind
 ·rw[bzf];unfold fewV;by_cases h:1<=l.length/\l.length<=8
  ·rw[qg h,qG qa,qM];cases bz1 (farN l) l.length
   ·rfl
   ·show(bif qv ((l.length:Int)>=1)then _ else _)=_
    grind
  ·rw[qh h,wo];cases bz1 (farN l) (min l.length 9)
   ·rfl
   ·show(bif qv ((l.length:Int)>=1)then _ else _)=_
    grind
theorem qzm {σ τ R β:Type}{f:σ->Option (Step3 σ τ R)}{k:τ->Option R}{g:β->R}{P:β->Prop}{x:σ}(n:Nat)(l:n<4294967296)(I:Nat->σ->Prop)(Q:τ->Prop)(d:I 0 x)
 (t:∀j y,j<n->I j y->∃c,f y=some (.next c)/\I (j+1) c) (u:∀y,I n y->∃z,f y=some (.out z)/\Q z) (p:∀z,Q z->∃b,k z=some (g b)/\P b):∃b,andK (iter f NN x) k=some (g b)/\P b:=by
 have a:∀ (m j N:Nat) (y:σ),j+m=n->m<N->I j y->∃z,iter f N y=some (.inl z)/\Q z:=by
  intro m;induction m with
  |zero=>
   intro j N y i s r;obtain⟨M,rfl⟩:∃M,N=M+1:=⟨N-1,qa⟩
   grind[iter]
  |succ m v=>
   intro j N y i s r;obtain⟨M,rfl⟩:∃M,N=M+1:=⟨N-1,qa⟩
   grind[iter]
 obtain⟨z,q,h⟩:=a n 0 NN x qa l d;obtain⟨b,e,o⟩:=p z h;exact⟨b,by rw[q];exact e,o⟩
theorem Szz (l:List V3)(w:List Int)(h:w.length=l.length)(a:l.length<4294967296):∃v,(Azg l w).o=some v/\True:=by
 have d:(Azg l w).o=(Izp l w).run NN:=rfl;rw[d];simp only[Izp,qj];refine qzm (g:=λb=>b) l.length a (λj (y:Int×Int×Int×Int)=>y.2.2.2=(j:Int)) (λ(_:V3)=>True) rfl (λj y e c=>?_) (λy c=>?_) (λz _=>⟨_,rfl,trivial⟩)
 ·grind[az8,wn]
 simp_all
theorem Azh (a b:V3):∃v,(qzr a b).o=some v/\inV v:=⟨_,rfl,InR.wr _,InR.wr _,InR.wr _⟩
theorem nz1 (a b:V3):∃v,(jzy a b).o=some v:=⟨_,rfl⟩
theorem InR.max {a b:Int}(c:InR a)(d:InR b):InR (max a b):=by
 grind
theorem az2p {v:V3}(h:inV v)(r:Int):∃b,(Ez9 v r).o=some b:=by
 have a:(Ez9 v r).o=(Eza v r).run NN:=rfl;rw[a];simp only[Eza,qj,czl (h.1.max (InR.wr _)) (show(0:Int)<65536 by decide),czl (h.2.1.max (InR.wr _)) (show(0:Int)<65536 by decide),czl (h.2.2.max (InR.wr _)) (show(0:Int)<65536 by decide),qI]
 simp_all
theorem Ez7 (n:V3)(l:List V3)(a:Int)(s:1<=l.length)(u:l.length<4294967296):∃i:Int,(lze n l a).o=some i/\0<=i/\i<(l.length:Int):=by
 have d:(lze n l a).o=(szg n l a).run NN:=rfl;rw[d];simp only[szg,qj];refine qzm (g:=λb=>b) (l.length-1) qa (λj (y:Int×Int)=>y.2=((j+1:Nat):Int)/\0<=y.1/\y.1<(l.length:Int)) (λ(z:Int)=>0<=z/\z<(l.length:Int)) ⟨rfl,jq,qa⟩ (λj y t c=>?_) (λy c=>?_) (λz k=>⟨_,rfl,k⟩)
 ·obtain⟨r,m,e⟩:=c;obtain⟨q,h⟩:=nz1 n (l.getD y.2.toNat qu);obtain⟨p,f⟩:=nz1 n (l.getD y.1.toNat qu);rw[h,f,qI,qI,r,az5 qa,az8 ⟨qa,qa⟩,az8 ⟨qa,qa⟩,wn qa];cases qv (qt.wrap (a * q)<qt.wrap (a * p))
  ·exact⟨_,rfl,rfl,m,e⟩
  ·exact⟨_,rfl,rfl,qa,qa⟩
 simp_all
theorem Kzy (w:List Int)(t i:Int)(a:w.length<4294967296)(f:0<=i)(e:i<(w.length:Int)):∃u,(qzq w t i).o=some u/\u.length=w.length:=by
 have d:(qzq w t i).o=(Azf w t i).run NN:=rfl;rw[d];simp only[Azf,qj];rw[az8 ⟨qa,by rw[aze];omega⟩];refine qzm (g:=λb=>b) w.length a (λj (y:List Int×Int×Int)=>y.2.2=(j:Int)/\y.1.length=w.length) (λ(z:List Int×Int)=>z.1.length=w.length) ⟨rfl,rfl⟩ (λj y k c=>?_) (λy c=>?_) (λz h=>?_)
 ·grind[az8,wn]
 ·simp_all
 grind[az8]
def SO (x:ezx):Prop:=inV x.XO/\x.Left.length<=8/\x.XL.length<=8
theorem az5x {f:Int×Int×Int×List Int×List Int×Int->Option (Step3 (Int×Int×Int×List Int×List Int×Int) U0 ezx)}{k:U0->Option ezx}{y:Int×Int×Int×List Int×List Int×Int}(I:Int×Int×Int×List Int×List Int×Int->Prop)
 (l:∀y,I y->(∃a,f y=some (.next a)/\I a/\a.2.2.2.2.2=y.2.2.2.2.2+1)\/∃r,f y=some (.fin r)/\SO r) (j:∀y,I y->y.2.2.2.2.2<=65) (m:Nat) (e:I y) (d:y.2.2.2.2.2+m>=66) (c:m<NN):∃r,andK (iter f NN y) k=some r/\SO r:=by
 have b:∀ (m N:Nat) y,I y->y.2.2.2.2.2+m>=66->m<N->∃r,iter f N y=some (.inr r)/\SO r:=by
  intro m;induction m with
  |zero=>grind
  |succ m i=>
   intro N y e d c;obtain⟨M,rfl⟩:∃M,N=M+1:=⟨N-1,qa⟩
   grind[iter]
 obtain⟨r,h,g⟩:=b m NN y e d c;exact⟨r,by rw[h];rfl,g⟩
theorem Hze (a b:List V3)(d c:Int):∃x,(gz0 a b d c).o=some x/\SO x:=by
 have f:inV ((0,0,0):V3):=⟨⟨jp,jp⟩,⟨jp,jp⟩,⟨jp,jp⟩⟩;have S:(gz0 a b d c).o=(wzb a b d c).run NN:=rfl;rw[S];simp only[wzb,qj,az5f,qI,bzb,az3];cases H:fewV a
 ·exact⟨_,rfl,f,by simp[nl],by simp[nl]⟩
 ·cases J:fewV b
  ·exact⟨_,rfl,f,by simp[nl],by simp[nl]⟩
  ·have I:=azbj H;have K:=azbj J;simp only[qJ,qd,ezo];cases hc:qv (d<0)||(qv (d>2097152)||(qv (c<0)||qv (c>64)))
   ·simp only[qp,qi]at hc;simp only[qd,qF,wd];rw[az8 ⟨qa,qa,qa,qa⟩,az8 ⟨qa,qa,qa,qa⟩,az8 ⟨qa,qa⟩,az8 ⟨qa,qa⟩,az8 ⟨qa,qa⟩,az8 ⟨qa,qa⟩];refine az5x (λy=>inV (y.1,y.2.1,y.2.2.1)/\y.2.2.2.1.length=a.length/\y.2.2.2.2.1.length=b.length/\0<=y.2.2.2.2.2/\y.2.2.2.2.2<=c) (λy C=>?_) (λy C=>qa) 66 ⟨f,jq,jq,jq,jr⟩ jq jp;obtain⟨V,R,Q,i4,i5⟩:=C;obtain⟨s1,k,-⟩:=Szz a y.2.2.2.1 R qa;obtain⟨L,A,-⟩:=Szz b y.2.2.2.2.1 Q qa;obtain⟨w,O,F⟩:=Azh s1 L;obtain⟨X,en⟩:=az2p F d;rw[k,qI,A,qI,O,qI,en,qI];cases X
    ·obtain⟨n,ok,eN,e⟩:=Hza (v:=(qt.wrap (w.1.tdiv 65536),qt.wrap (w.2.1.tdiv 65536),qt.wrap (w.2.2.tdiv 65536))) ⟨InR.wr _,InR.wr _,InR.wr _⟩;rw[eN,qI];cases ok
     ·right;exact⟨_,rfl,e,jw,jw⟩
     ·obtain⟨i,M,g,E⟩:=Ez7 n a 1 I.1 qa;obtain⟨j,Z,m,D⟩:=Ez7 n b (-1) K.1 qa;obtain⟨U,h⟩:=nz1 n (a.getD i.toNat qu);obtain⟨d2,s⟩:=nz1 n (b.getD j.toNat qu);obtain⟨G,W,hm⟩:=Azh (a.getD i.toNat qu) (b.getD j.toNat qu);obtain⟨z,eE,he⟩:=Azh (qt.wrap (w.1.tdiv 65536),qt.wrap (w.2.1.tdiv 65536),qt.wrap (w.2.2.tdiv 65536)) G;obtain⟨u,eu⟩:=nz1 (qt.wrap (w.1.tdiv 65536),qt.wrap (w.2.1.tdiv 65536),qt.wrap (w.2.2.tdiv 65536)) z;obtain⟨v,P⟩:=nz1 z z;obtain⟨p,B⟩:∃p,(uzs n).o=some p:=⟨_,Ozk n⟩;rw[M,qI,Z,qI,az8 ⟨g,E⟩,h,qI,az8 ⟨m,D⟩,s,qI,B,qI];cases qv (qt.wrap (U-d2)>qt.wrap (p * d))
      ·rw[az8 ⟨g,E⟩,az8 ⟨m,D⟩,W,qI,eE,qI,eu,qI,P,qI];cases hs:qv (y.2.2.2.2.2>=c)||qv (u<=0)
       ·simp only[qp,qi]at hs;have l:max 1 (qt.wrap (v.tdiv 256))≠0:=qa
        rw[az8 l];generalize min 256 (qt.wrap (u.tdiv (max 1 (qt.wrap (v.tdiv 256)))))=t;cases t==0
        ·obtain⟨m1,q,Y⟩:=Kzy y.2.2.2.1 t i qa g qa;obtain⟨m2,r,N⟩:=Kzy y.2.2.2.2.1 t j qa m qa;left;rw[q,qI,r,qI,w64 (x:=y.2.2.2.2.2+1) qa qa];exact⟨_,rfl,⟨e,jw,jw,jw,jw⟩,rfl⟩
        ·right;exact⟨_,rfl,e,jw,jw⟩
       ·right;exact⟨_,rfl,e,jw,jw⟩
      ·right;exact⟨_,rfl,e,jw,jw⟩
    ·right;exact⟨_,rfl,V,jw,jw⟩
   ·exact⟨_,rfl,f,by simp[nl],by simp[nl]⟩
def firB (l:List V3)(a:List IV3)(ra:Int)(b:List IV3)(rb:Int)(i:Nat):Bool:=sepV (l.getD i qu) a ra b rb
theorem Zz2 (l:List V3)(a:List IV3)(ra:Int)(b:List IV3)(rb:Int)(hl:l.length<4294967296):(Kzx l a ra b rb).o=some ((scan (λi=>sw (firB l a ra b rb i) ((i:Int),true)) l.length 0).getD (0,false)):=by
 show(Aze l a ra b rb).run NN=_;simp only[Aze,qj,yz4,qI];refine(dz9 (λi=>sw (firB l a ra b rb i) ((i:Int),true)) l.length hl (λj hj=>?_) ?_).trans ?_
 ·rw[az5 qa,az8 qa,wn qa,qF,<-czs];rfl
 ·rw[azb qa]
 ·cases scan (λi=>sw (firB l a ra b rb i) ((i:Int),true)) l.length 0<;>rfl
theorem az2r (a:Int):(iz5 a).o=some (max a (qt.wrap (0-a))):=rfl
theorem jzv {σ τ R:Type}{f:σ->Option (Step3 σ τ R)}{k:τ->Option R}{P:R->Prop}{x:σ}(I:Nat->σ->Prop)(Q:τ->Prop)(m:Nat)(h0:I m x)(hN:m<4294967296)
 (hr:∀m x,I m x->(∃x' m',f x=some (.next x')/\m'<m/\I m' x')\/(∃y,f x=some (.out y)/\Q y)\/∃r,f x=some (.fin r)/\P r) (hk:∀y,Q y->∃r,k y=some r/\P r):∃r,andK (iter f NN x) k=some r/\P r:=by
 have go:∀ (N m:Nat) (x:σ),I m x->m<N->(∃y,iter f N x=some (.inl y)/\Q y)\/∃r,iter f N x=some (.inr r)/\P r:=by
  intro N;induction N with
  |zero=>intro m x _ h;omega
  |succ N ih=>
   intro m x hi h;rcases hr m x hi with⟨x',m',h1,h2,h3⟩|⟨y,h1,h2⟩|⟨r,h1,h2⟩
   ·simp only[iter,h1];exact ih m' x' h3 qa
   ·exact .inl ⟨y,by simp[iter,h1],h2⟩
   ·exact .inr ⟨r,by simp[iter,h1],h2⟩
 rcases go NN m x h0 hN with⟨y,e1,e2⟩|⟨r,e1,e2⟩
 ·rw[gzw e1];exact hk y e2
 ·rw[yzs e1];exact⟨r,rfl,e2⟩
theorem ozc {x k:Int}(c:0<k)(a:k<=4611686018427387904):(czi x k).o=some (x % k):=by
 show(Dzs x k).run NN=_;have b:=qw x k
 grind[wu,wv,Dzs,qj,az8,az3,w64,Fzv]
section
variable {l:List Int} (hl:l.length<4294967296) {n:Int} (h0:0<=n) (h1:n<=(l.length:Int))
include hl h0 h1
theorem bzu {k:Int}(c:0<k)(a:k<=4611686018427387904):∃r b,(bzg l n k).o=some (r,l,b)/\0<=r/\r<k/\0<=b/\b<=(l.length:Int):=by
 have d:(bzg l n k).o=(yzr l n k).run NN:=rfl;rw[d];simp only[yzr,qj];by_cases h:n>=(l.length:Int)
 ·grind
 ·rw[azb h,w64 (x:=n+1) qa qa,w64 qa qa,az8 ⟨qa,qa⟩,ozc c a,qI];exact⟨_,_,rfl,wu _ qa,wv _ c,qa,qa⟩
theorem Qzs {k:Int}(j:0<=k)(c:k<=1000000):∃r a,(rzh l n k).o=some (r,l,a)/\ -k<=r/\r<=k/\0<=a/\a<=(l.length:Int):=by
 have b:(rzh l n k).o=(rzi l n k).run NN:=rfl;rw[b];simp only[rzi,qj];obtain⟨r,a,d,m,g,i,f⟩:=bzu hl h0 h1 (k:=2 * k+1) qa qa
 grind[w64]
def JB (j:azt):Prop:= -1048576<=j.Lo/\j.Lo<=j.Hi/\j.Hi<=1048576
end
def PB (n:Nat)(l:List az6):Prop:=l.length<=n/\∀x∈l,x.Xn.length<=1048576
def tW (w:List Int):Nat->Int
 |0=>0
 |j+1=>qt.wrap (tW w j+w.getD j qu)
def cW (w:List Int)(g:Nat->Int):Nat->Int
 |0=>0
 |j+1=>qt.wrap (cW w g j+qt.wrap (w.getD j qu * g j))
def cV (l:List IV3)(w:List Int)(j:Nat):IV3:=
 (⟨cW w (λi=>(l.getD i qu).1.Lo) j,cW w (λi=>(l.getD i qu).1.Hi) j⟩,⟨cW w (λi=>(l.getD i qu).2.1.Lo) j,cW w (λi=>(l.getD i qu).2.1.Hi) j⟩,⟨cW w (λi=>(l.getD i qu).2.2.Lo) j,cW w (λi=>(l.getD i qu).2.2.Hi) j⟩)
def badW (w:List Int)(j:Nat):Bool:=qv (w.getD j qu<0)||qv (w.getD j qu>65536)
def zc:IV3×Int×Bool:=((⟨0,0⟩,⟨0,0⟩,⟨0,0⟩),0,false)
def okC (l:List IV3)(w:List Int):Prop:=dzb l=true/\w.length=l.length/\bz1 (badW w) w.length=true/\1<=tW w w.length/\tW w w.length<=65536
instance (l:List IV3)(w:List Int):Decidable (okC l w):=by unfold okC;infer_instance
def Rz7 (l:List IV3)(w:List Int):IV3×Int×Bool:=if okC l w then(cV l w w.length,tW w w.length,true)else zc
theorem badW_iff {w:List Int}{n:Nat}:bz1 (badW w) n=true↔∀j,j<n->0<=w.getD j qu/\w.getD j qu<=65536:=by
 grind[noneB_iff,badW]
theorem azng {w:List Int}{n:Nat}(h:∀j,j<n->0<=w.getD j qu/\w.getD j qu<=65536)(a:n<=8):∀j,j<=n->0<=tW w j/\tW w j<=65536 * (j:Int)/\∀i,i<=j->tW w i<=tW w j
 |0,_=>⟨by simp[tW],by simp[tW],λi e=>jr⟩
 |j+1,f=>by
  obtain⟨d,c,b⟩:=azng h a j qa
  grind[tW,w64]
theorem azcz {l:List IV3}{w:List Int}(a:dzb l=false):¬okC l w:=λh=>by obtain⟨b,_⟩:=h;simp_all
def badR (w:List Int)(j:Nat):Bool:=qv (w.getD j qu<0)||qv (w.getD j qu>qt.wrap (65536-tW w j))
theorem azfj {w:List Int}{n:Nat}(a:n<=8):bz1 (badR w) n=true↔bz1 (badW w) n=true/\tW w n<=65536:=by
 rw[badW_iff];constructor
 ·intro h;rw[noneB_iff]at h;have b:∀j,j<=n->0<=tW w j/\tW w j<=65536:=by
   intro j;induction j<;>grind[tW,badR,w64]
  grind[badR,w64]
 ·rintro⟨h,c⟩;rw[noneB_iff];intro j f;have d:=azng h a n (qk _);have e:=azng h a j qa
  grind[tW,w64,badR]
theorem Szx (l:List IV3)(w:List Int):(szb l w).o=some (Rz7 l w):=by
 show(szc l w).run NN=_;simp only[szc,qj,hzf,qI,bzb,az3,Rz7];cases b:dzb l
 ·rw[qb (azcz b)];rfl
 ·have e:=izm b;simp only[qJ,qd];by_cases k:w.length=l.length
  ·rw[bz4 qa];refine(hz3 (λj=>(tW w j,(j:Int))) (λj=>sw (badR w j) zc) (tW w w.length) w.length rfl (show w.length<4294967296 from qa) (λj i=>?_) ?_).trans ?_
   ·rw[az5 qa,az8 ⟨qa,qa⟩,az8 ⟨qa,qa⟩,az8 ⟨qa,qa⟩,bzb,az3,qF,ezo,show(qv (w.getD j qu<0)||qv (w.getD j qu>qt.wrap (65536-tW w j)))=badR w j from rfl,wn qa];cases badR w j<;>rfl
   ·simp_all
   ·rw[bzf];have a:=azfj (w:=w) (n:=w.length) qa;cases g:bz1 (badR w) w.length
    ·rw[qb (λh=>by obtain⟨_,_,p,_,r⟩:=h;simp_all)];rfl
    ·obtain⟨c,f⟩:=a.1 g;by_cases d:tW w w.length<1
     ·rw[qb (λh=>by obtain⟨_,_,_,m,_⟩:=h;omega),az5 d];rfl
     ·rw[qc (show okC l w from⟨b,k,c,qa,qa⟩),azb d];refine(bzo (λj=>((cV l w j).1.Lo,(cV l w j).1.Hi,(cV l w j).2.1.Lo,(cV l w j).2.1.Hi,(cV l w j).2.2.Lo,(cV l w j).2.2.Hi,(j:Int))) ((cV l w w.length).1.Lo,(cV l w w.length).1.Hi,(cV l w w.length).2.1.Lo,(cV l w w.length).2.1.Hi,(cV l w w.length).2.2.Lo,(cV l w w.length).2.2.Hi) w.length rfl (show w.length<4294967296 from qa) (λj i=>?_) ?_).trans rfl
      ·dsimp only;rw[az5 qa];simp only[az8 (show 0<=(j:Int)/\(j:Int)<(w.length:Int) from qa),az8 (show 0<=(j:Int)/\(j:Int)<(l.length:Int) from qa),qF];rw[wn qa];rfl
      simp_all
  ·rw[bzy qa,qb (λh=>by obtain⟨_,q,_⟩:=h;omega)];rfl
theorem azq6 {a b:Int}(c:0<=a/\a<=65536)(d: -268435456<=b/\b<=268435456): -17592186044416<=a * b/\a * b<=17592186044416:=by
 have h:(a * b).natAbs<=65536 * 268435456:=by rw[qH];exact qz qa qa
 omega
theorem azo1 {w:List Int}{g:Nat->Int}{n:Nat}(h:∀j,j<n->0<=w.getD j qu/\w.getD j qu<=65536)(a:∀j,j<n-> -268435456<=g j/\g j<=268435456)(b:n<=8):∀j,j<=n-> -17592186044416 * (j:Int)<=cW w g j/\cW w g j<=17592186044416 * (j:Int)
 |0,_=>by simp[cW]
 |j+1,d=>by
  obtain⟨e,c⟩:=azo1 h a b j qa;have f:=azq6 (h j qa) (a j qa)
  grind[cW,w64]
def sm (x:Int):Prop:= -140737488355328<=x/\x<=140737488355328
def smV (v:IV3):Prop:=(sm v.1.Lo/\sm v.1.Hi)/\(sm v.2.1.Lo/\sm v.2.1.Hi)/\sm v.2.2.Lo/\sm v.2.2.Hi
theorem azft {l:List IV3}{w:List Int}(h:(Rz7 l w).2.2=true):1<=(Rz7 l w).2.1/\(Rz7 l w).2.1<=65536/\smV (Rz7 l w).1:=by
 unfold Rz7 at h⊢;by_cases c:okC l w
 ·rw[qc c];obtain⟨e,r,o,n,f⟩:=c;have q:=izm e;have p:=badW_iff.1 o;have k:∀j,j<w.length->izn (l.getD j qu)=true:=λj d=>yz2 e qa
  have a:∀g:IV3->Int,(∀v:IV3,izn v=true-> -268435456<=g v/\g v<=268435456)->sm (cW w (λi=>g (l.getD i qu)) w.length):=λg m=>by
   have:=azo1 p (g:=λi=>g (l.getD i qu)) (λj d=>m _ (k j d)) qa w.length (qk _);unfold sm;omega
  have s:∀v:IV3,izn v=true->(-268435456<=v.1.Lo/\v.1.Lo<=v.1.Hi/\v.1.Hi<=268435456)/\(-268435456<=v.2.1.Lo/\v.2.1.Lo<=v.2.1.Hi/\v.2.1.Hi<=268435456)/\(-268435456<=v.2.2.Lo/\v.2.2.Lo<=v.2.2.Hi/\v.2.2.Hi<=268435456):=λv b=>by
   grind[izn,azed]
  exact⟨n,f,⟨a (λv=>v.1.Lo) (λv b=>jt),a (λv=>v.1.Hi) (λv b=>jt)⟩,⟨a (λv=>v.2.1.Lo) (λv b=>jt),a (λv=>v.2.1.Hi) (λv b=>jt)⟩,a (λv=>v.2.2.Lo) (λv b=>jt),a (λv=>v.2.2.Hi) (λv b=>jt)⟩
 ·rw[qb c]at h;cases h
theorem Pzt (u v:List Int)(a:List IV3)(d:Int)(b:List IV3)(c:Int):∃y:Bool,(hz6 u v a d b c).o=some y:=by
 have r:∃y:Int×Bool,(wz8 u v a d b c).o=some y:=by
  have f:(wz8 u v a d b c).o=(wz9 u v a d b c).run NN:=rfl;rw[f];have g:(Rz7 a u).2.2=true->1<=(Rz7 a u).2.1:=λh=>(azft h).1
  generalize n:Rz7 a u=x at g;simp only[wz9,qj,Szx,n,wzd,qI,bzb,az3];generalize Rz7 b v=y;cases e:x.2.2
  ·simp_all
  ·have j:=g e;cases (bif !true then true else bif !y.2.2 then true else bif x.2.1 !=y.2.1 then true else bif !radV d then true else !radV c)
   ·have l:∀p q:Int,(bz3 (max (max (qt.wrap p) (qt.wrap (0-qt.wrap p))) (max (qt.wrap q) (qt.wrap (0-qt.wrap q)))) x.2.1).o=some (cdiv (max (max (qt.wrap p) (qt.wrap (0-qt.wrap p))) (max (qt.wrap q) (qt.wrap (0-qt.wrap q)))) x.2.1):=
     λp q=>czl (((InR.wr _).max (InR.wr _)).max ((InR.wr _).max (InR.wr _))) qa
    simp only[qd,az2r,qI,l];generalize cdiv _ _=i;cases qv (i>qt.wrap (d+c))
    ·generalize cdiv _ _=m;cases qv (m>qt.wrap (d+c))
     ·generalize cdiv _ _=k;cases qv (k>qt.wrap (d+c))<;>exact⟨_,rfl⟩
     simp_all
    simp_all
   simp_all
 have f:(hz6 u v a d b c).o=(pzg u v a d b c).run NN:=rfl
 grind[pzg,qj]
def ovV (u v:List Int)(a:List IV3)(c:Int)(b:List IV3)(d:Int):Bool:=(hz6 u v a c b d).o.getD false
theorem Pzs (u v:List Int)(a:List IV3)(c:Int)(b:List IV3)(d:Int):(hz6 u v a c b d).o=some (ovV u v a c b d):=by
 obtain⟨y,e⟩:=Pzt u v a c b d;rw[ovV,e];rfl
def azb0 (s:az7)(b:List az0)(w:bze):Bool:=
 if(bzv s=0/\boxV s.Xg b=true)/\0<=w.XR/\w.XR<((cz7 s).length:Int)then
  ovV w.Left w.XL (cz2 s b (pA s w.XR.toNat)) (mz6 s (pA s w.XR.toNat)) (cz2 s b (pB s w.XR.toNat)) (mz6 s (pB s w.XR.toNat))else false
section
variable (s:az7) (p q:List Int) (hp:p.length<4294967296) (hq:q.length<4294967296)
include hp hq
end
open Go.Proofs
open Go.Proofs
open Go.Proofs
def az92 (a b:List IV3):V3×Bool:=(uzv a b).o.getD qu
def Zzz (a b:List V3)(m:Int):ezx:=(gz0 a b m 64).o.getD qu
theorem azew (a b:List V3)(m:Int):(Zzz a b m).Left.length<=8/\(Zzz a b m).XL.length<=8:=by
 obtain⟨r,h,h1⟩:=Hze a b m 64;unfold Zzz;rw[h];exact h1.2
def axesL:List V3:=[(1,0,0),(-1,0,0),(0,1,0),(0,-1,0),(0,0,1),(0,0,-1)]
def az7c (a:List IV3)(c:Int)(b:List IV3)(d:Int):ezx:=Zzz (cenV a) (cenV b) (qt.wrap (c+d))
def azh9 (a:List IV3)(c:Int)(b:List IV3)(d:Int):List V3:=bif dz6 (az7c a c b d).XO then [(az7c a c b d).XO]else []
def azmv (a:List IV3)(c:Int)(b:List IV3)(d:Int):List V3:=(bif (az92 a b).2 then [(az92 a b).1]else [])++(axesL++azh9 a c b d)
def az8e (a:List IV3)(c:Int)(b:List IV3)(d:Int)(e:List V3):List V3:=e.filter dz6++azmv a c b d
def okF (a:List IV3)(c:Int)(b:List IV3)(d:Int):Bool:=dzb a&&(dzb b&&(radV c&&radV d))
def ofF:Option V3->V3×Bool
 |some n=>(n,true)
 |none=>((0,0,0),false)
def az4t (a:List IV3)(c:Int)(b:List IV3)(d:Int)(e:List V3):V3×Bool:=
 bif okF a c b d then ofF ((az8e a c b d e).find? λn=>sepV n a c b d)else((0,0,0),false)
def PR (F:Option V3)(d:Bool)(x:V3):Prop:=match F with
 |some n=>d=true/\x=n
 |none=>d=false
theorem azbm (sp:V3->Bool)(x:V3)(l:List V3):(x::l).find? sp=bif sp x then some x else l.find? sp:=by
 rfl
theorem azfy {l:List V3}{j:Nat}(h:j<l.length):l.drop j=l.getD j qu::l.drop (j+1):=by
 simp_all
open Go.Proofs
def az1w:bze:=⟨0,nl,nl⟩
def fndK (s:az7)(b:List az0)(a:List V3)(k:Nat):V3×Bool:=az4t (cz2 s b (pA s k)) (mz6 s (pA s k)) (cz2 s b (pB s k)) (mz6 s (pB s k)) ((a.drop k).take 1)
def nrK (s:az7)(b:List az0)(k:Nat):ezx:=az7c (cz2 s b (pA s k)) (mz6 s (pA s k)) (cz2 s b (pB s k)) (mz6 s (pB s k))
def ovK (s:az7)(b:List az0)(k:Nat):Bool:=ovV (nrK s b k).Left (nrK s b k).XL (cz2 s b (pA s k)) (mz6 s (pA s k)) (cz2 s b (pB s k)) (mz6 s (pB s k))
def colK (s:az7)(b:List az0)(a:List V3)(k:Nat):Option ezy:=sw (!(fndK s b a k).2&&ovK s b k) ⟨2,nl,⟨(k:Int),(nrK s b k).Left,(nrK s b k).XL⟩⟩
def misK (s:az7)(b:List az0)(a:List V3)(k:Nat):Bool:= !(fndK s b a k).2
def clsV (s:az7)(b:List az0)(a:List V3):ezy:=if bzv s=0/\boxV s.Xg b=true then
 (match scan (colK s b a) (cz7 s).length 0 with
  |some v=>v
  |none=>⟨bif bz1 (misK s b a) (cz7 s).length then 1 else 0,tab (λk=>(fndK s b a k).1) (cz7 s).length,az1w⟩)
 else⟨0,nl,az1w⟩
theorem azbl {a:List IV3}{c:Int}{b:List IV3}{d:Int}{e:List V3}(h:(az4t a c b d e).2=true):sepV (az4t a c b d e).1 a c b d=true:=by
 unfold az4t at h⊢;generalize okF a c b d=k at h⊢;cases k with
 |false=>cases h
 |true=>
  generalize f:List.find? _ _=F at h⊢;cases F with
  |none=>cases h
  |some n=>exact List.find?_some (p:=λn=>sepV n a c b d) f
theorem az96 {g:Nat->Bool}{n:Nat}:bz1 g (n+1)=(bz1 g n&& !g n):=by
 grind[noneB_iff]
theorem azaw (s:az7)(b:List az0)(a:List V3):
 ((clsV s b a).Xo=0/\(clsV s b a).Xw=az1w)\/
 ((clsV s b a).Xo=1/\(clsV s b a).Xw=az1w/\(bzv s=0/\boxV s.Xg b=true)/\vzn s b (clsV s b a).Xn=true)\/
 ((clsV s b a).Xo=2/\(clsV s b a).Xn=[]/\azb0 s b (clsV s b a).Xw=true/\(clsV s b a).Xw.Left.length<=8/\(clsV s b a).Xw.XL.length<=8):=by
 unfold clsV;by_cases h:bzv s=0/\boxV s.Xg b=true
 ·rw[qc h];cases f:scan (colK s b a) (cz7 s).length 0 with
  |some v=>
   obtain⟨j,-,i,e,-⟩:=ezh _ _ f;unfold colK sw at e;cases c:(!(fndK s b a j).2&&ovK s b j)with
   |false=>simp_all
   |true=>
    rw[c]at e;simp only[qe,Option.some.injEq]at e;subst e;simp only[qm]at c;have l:=azew (cenV (cz2 s b (pA s j))) (cenV (cz2 s b (pB s j))) (qt.wrap (mz6 s (pA s j)+mz6 s (pB s j)));refine .inr (.inr ⟨rfl,rfl,?_,l.1,l.2⟩);unfold azb0;rw[qc ⟨h,jr,jr⟩];exact c.2
  |none=>
   cases g:bz1 (misK s b a) (cz7 s).length with
   |false=>simp_all
   |true=>
    refine .inr (.inl ⟨rfl,rfl,h,?_⟩);simp only[vzn,qm,qf,noneB_iff,sepK,wx];refine⟨h.1,h.2,bzp _ _,λk c=>?_⟩;rw[jz3 c];have:=noneB_iff.1 g k c;simp only[misK,wx]at this;exact azbl this
 grind
theorem azl4 (s:az7)(b:List az0)(a:List V3):(clsV s b a).Xn.length<=576:=by
 grind[yz1,clsV,ezh,colK,sw,nl,bzp]
open Go.Proofs
theorem az99 (p q:List Int)(k i:Int):(ezp p q k i).1.length<=p.length:=by
 grind[ezp,bzp,nl]
abbrev XW:=Int×List az6×Int×Int×List V3×Int×List Int×List Int
def PsB (ps:List az6):Prop:=ps.length<=4096/\∀x∈ps,x.Xn.length<=576
open Go.Proofs
def azcy:azo:=⟨0,nl,⟨0,0,nl⟩,⟨0,nl,nl⟩⟩
def Oz1 (ok:Bool)(ps:List az6)(W:XW):azo:=
 bif ok then⟨1,ps,⟨0,0,nl⟩,⟨0,nl,nl⟩⟩else⟨W.1,W.2.1,⟨W.2.2.1,W.2.2.2.1,W.2.2.2.2.1⟩,⟨W.2.2.2.2.2.1,W.2.2.2.2.2.2.1,W.2.2.2.2.2.2.2⟩⟩
def W0:XW:=(0,nl,0,0,nl,0,nl,nl)
open Go.Proofs
def TileF (d:Int)(b:Nat):Int->List az6->Int->Prop
 |e,[],a=>e=a
 |e,x::l,a=>(0<=x.Xk/\x.Xk<=d/\x.Xn.length=b/\x.Xu * 2 ^ (d-x.Xk).toNat=e)/\TileF d b (e+2 ^ (d-x.Xk).toNat) l a
theorem TileF.append {d:Int}{e:Nat}:∀ {l m:List az6} {a b c:Int},TileF d e a l b->TileF d e b m c->TileF d e a (l++m) c
 |[],_,_,_,_,h,k=>by have h:_=_:=h;simp_all
 |_::_,_,_,_,_,h,k=>⟨h.1,TileF.append h.2 k⟩
def az3x (s:az7)(p q:List Int)(d:Int)(x:az6):Prop:=(0<=x.Xk/\x.Xk<=d)/\(0<=x.Xu/\x.Xu<2 ^ x.Xk.toNat)/\vzn s (ezp p q x.Xk x.Xu).1 x.Xn=true
def aznx (s:az7)(p q:List Int)(d:Int)(W:XW):Prop:=W.2.1=[]/\(0<=W.2.2.1/\W.2.2.1<=d)/\(0<=W.2.2.2.1/\W.2.2.2.1<2 ^ W.2.2.1.toNat)/\W.2.2.2.2.1=[]/\
 ((W.1=0/\W.2.2.2.2.2=(0,[],[]))\/(W.1=2/\azb0 s (ezp p q W.2.2.1 W.2.2.2.1).1 ⟨W.2.2.2.2.2.1,W.2.2.2.2.2.2.1,W.2.2.2.2.2.2.2⟩=true/\W.2.2.2.2.2.2.1.length<=8/\W.2.2.2.2.2.2.2.length<=8))
def az6c (s:az7)(p q:List Int):Bool:=(bzv s !=0)||(!azv s.Xg p|| !azv s.Xg q)
structure ProveOk (s:az7) (p q:List Int) (d:Int) (r:azo):Prop where
 kind:r.Xo=0\/r.Xo=1\/r.Xo=2
 ready:r.Xo≠0->bzv s=0/\azv s.Xg p=true/\azv s.Xg q=true
 tiles:r.Xo=1->TileF d (cz7 s).length 0 r.XC (2 ^ d.toNat)
 free:r.Xo=1->∀x∈r.XC,az3x s p q d x
 empty:r.Xo=1->r.At=⟨0,0,[]⟩
 none:r.Xo≠1->r.XC=[]
 depth:0<=r.At.Xk/\r.At.Xk<=d
 index:0<=r.At.Xu/\r.At.Xu<2 ^ r.At.Xk.toNat
 norm:r.At.Xn=[]
 coll:r.Xo=2->azb0 s (ezp p q r.At.Xk r.At.Xu).1 r.Xw=true
 wit:r.Xo≠2->r.Xw=az1w
 lens:r.Xw.Left.length<=8/\r.Xw.XL.length<=8
 bd:PsB r.XC
def d1 (x:Nat):Nat:=x * 6746518852 / 65536
def d2 (x:Nat):Nat:=d1 x * d1 x / 1073741824
def d3 (x:Nat):Nat:=d2 x * d1 x / 1073741824
def d4 (x:Nat):Nat:=d3 x * d1 x / 1073741824
def d5 (x:Nat):Nat:=d4 x * d1 x / 1073741824
def d6 (x:Nat):Nat:=d5 x * d1 x / 1073741824
def d7 (x:Nat):Nat:=d6 x * d1 x / 1073741824
def d8 (x:Nat):Nat:=d7 x * d1 x / 1073741824
def u1 (x:Nat):Nat:=(x * 6746518853+65535) / 65536
def u2 (x:Nat):Nat:=(u1 x * u1 x+1073741823) / 1073741824
def u3 (x:Nat):Nat:=(u2 x * u1 x+1073741823) / 1073741824
def u4 (x:Nat):Nat:=(u3 x * u1 x+1073741823) / 1073741824
def u5 (x:Nat):Nat:=(u4 x * u1 x+1073741823) / 1073741824
def u6 (x:Nat):Nat:=(u5 x * u1 x+1073741823) / 1073741824
def u7 (x:Nat):Nat:=(u6 x * u1 x+1073741823) / 1073741824
def u8 (x:Nat):Nat:=(u7 x * u1 x+1073741823) / 1073741824
section
variable {x:Nat} (h:x<=8192)
include h
end
end Go.Abs
