import Derived.Test.YtjonhijmljhjlaaGreatYIPLib
import Derived.Test.YtjonhijmljhjlaaGreatYID3
import Derived.Lib.DecodeN
open Bool renaming and_eq_true->qn,not_true->qP,true_and->qS,and_self->qT,or_eq_false_iff->qq,eq_iff_iff->qZ,or_eq_true->wc,not_eq_true'->wd,and_eq_false_iff->we,not_eq_true->wg,or_self->wj,false_ne_true->wk,not_not->ws,not_eq_false->wv,and_true->wI,false_and->wJ,and_false->wO,true_eq_false->wQ
open Decidable renaming decide->qx
open Go.IntKind renaming i64->qv
open Inhabited renaming default->qw
open Int renaming mul_tdiv_add_tmod->qy,tmod_lt_of_pos->qz,lt_tmod_of_pos->qA,ediv_neg_of_neg_of_pos->qB,mul_add->qC,mul_neg->qD,le_of_lt->qG,toNat_natCast->qH,le_ediv_iff_mul_le->qJ,pow_add->qK,mul_le_mul_of_nonneg_left->qL,natAbs_mul->qN,mul_nonneg->qQ,mul_le_mul->qR,one_mul->wu,mul_le_mul_of_nonneg_right->wK,toNat->wL,pow_succ->wM,toNat_zero->w8
open List renaming getD_cons_zero->wh,getD_cons_succ->wi,range_succ->wm,getD_eq_getElem?_getD->wo,replicate->qu,length_set->wx,set_set->wy,length_replicate->wz,length_cons->wA,mem_cons->wB,getElem_of_mem->wC,getElem?_eq_getElem->wD,getElem_mem->wF,mem_singleton->wN,foldl_append->wR,reverse_append->wS,reverse_cons->wT,reverse_nil->wU,nil_append->wV,singleton_append->wW,foldl_cons->wX,foldl_nil->wY,take_length->wZ,reverse_reverse->w6,length_nil->w7,length_append->xb,length_singleton->xc,length_reverse->xd
open Nat renaming add_zero->qE,zero_add->qF,min_eq_left->qI,mul_le_mul->qO,zero_le->qY,pow_le_pow_right->wt,le_refl->ql,le_trans->wG,add_sub_cancel->wH,sub_zero->w9
open Option renaming bind_some->qM,bind->qU,isSome_some->qW,isSome_none->qX,getD_some->wE,map_some->wP
open Go.Abs.T renaming run->qk
noncomputable section
namespace Go.Abs
theorem Xzo {α:Type}{p:Prop}[Decidable p]{x y:α}(h:¬p):(bif (!decide p)then x else y)=x:=by rw[qh h];rfl
theorem Jzx {α:Type}{p:Prop}[Decidable p]{x y:α}(h:p):(bif (!decide p)then x else y)=y:=by rw[qg h];rfl
theorem czn {α:Type}{a b:Int}{x y:α}(h:a=b):(bif (a==b)then x else y)=x:=dzo (by simpa using h)
theorem czo {α:Type}{a b:Int}{x y:α}(h:a≠b):(bif (a==b)then x else y)=y:=ez3 (by simpa using h)
theorem bzq {α:Type}{a b:Int}{x y:α}(h:a≠b):(bif (a !=b)then x else y)=x:=dzo (by simpa using h)
theorem bzb {α:Type}{a b:Int}{x y:α}(h:a=b):(bif (a !=b)then x else y)=y:=ez3 (by simpa using h)
theorem wr (n:Int):qv.wrap n=(n+9223372036854775808) % 18446744073709551616-9223372036854775808:=by
 show(if(true&&qx (n % 18446744073709551616>=9223372036854775808))=true then n % 18446744073709551616-18446744073709551616 else n % 18446744073709551616)=_;by_cases h:n % 18446744073709551616>=9223372036854775808
 ·rw[qc (by rw[qg h];rfl)];omega
 ·rw[qb (by rw[qh h];decide)];omega
theorem azds (n:Int): -9223372036854775808<=qv.wrap n:=by rw[wr];omega
theorem azdr (n:Int):qv.wrap n<=9223372036854775807:=by rw[wr];omega
theorem azbq (n:Int):qv.wrap (qv.wrap n)=qv.wrap n:=w64 (azds n) (azdr n)
theorem Rzw (a b:Int):qv.wrap (qv.wrap a+b)=qv.wrap (a+b):=by simp only[wr];omega
theorem azbo (a b:Int):qv.wrap (a+qv.wrap b)=qv.wrap (a+b):=by simp only[wr];omega
theorem Rzx (a b:Int):qv.wrap (qv.wrap a-b)=qv.wrap (a-b):=by simp only[wr];omega
theorem az57 (a b:Int):qv.wrap (a-qv.wrap b)=qv.wrap (a-b):=by simp only[wr];omega
def InR (x:Int):Prop:= -9223372036854775808<=x/\x<=9223372036854775807
theorem InR.wr (n:Int):InR (qv.wrap n):=⟨azds n,azdr n⟩
theorem InR.w {x:Int}(h:InR x):qv.wrap x=x:=w64 h.1 h.2
def cdiv (a b:Int):Int:= -((-a) / b)
theorem gz1 {a b:Int}(ha:0<=a):a.tdiv b=a / b:=Int.tdiv_eq_ediv_of_nonneg ha
theorem Kz8 {a b:Int}(ha:0<=a):a.tmod b=a % b:=Int.tmod_eq_emod_of_nonneg ha
theorem Gzo (a b:Int):(-a).tdiv b= -(a.tdiv b):=Int.neg_tdiv a b
theorem az52 (a b:Int):(-a).tmod b= -(a.tmod b):=Int.neg_tmod a b
theorem uzv {a b q r:Int}(h0:0<=r)(h1:r<b)(h:a=b * q+r):a / b=q:=by
 subst h;rw[Int.mul_add_ediv_left _ _ (by omega:b≠0),Int.ediv_eq_zero_of_lt h0 h1];omega
theorem Wz9 {a b:Int}(hb:0<b):(if a.tmod b<0 then a.tdiv b-1 else a.tdiv b)=a / b:=by
 have h1:=qy a b;have h2:=qz a hb;have h3:=qA a hb;split
 ·symm;exact uzv (r:=a.tmod b+b) qa qa (by rw[Int.mul_sub];omega)
 ·symm;exact uzv (r:=a.tmod b) qa qa qa
theorem az84 {a b:Int}(hb:0<b):(if a.tmod b>0 then a.tdiv b+1 else a.tdiv b)=cdiv a b:=by
 have:=Wz9 (a:= -a) hb;rw[az52,Gzo]at this;unfold cdiv;rw[<-this];split
 ·rw[qc qa];omega
 ·rw[qb qa];omega
theorem Kzt {a b:Int}(hb:0<b):b * (a / b)<=a:=Int.mul_ediv_self_le qa
theorem Szr {a b:Int}(hb:0<b):a<b * (a / b)+b:=Int.lt_mul_ediv_self_add hb
theorem Iz8 {a b:Int}(hb:0<b):(0<=a->0<=a / b/\a / b<=a)/\(a<0->a<=a / b/\a / b<0):=by
 refine⟨λh=>⟨Int.ediv_nonneg h qa,Int.ediv_le_self _ h⟩,λh=>⟨?_,qB h hb⟩⟩;have h1:=Szr (a:=a) hb;have h2:a / b<0:=qB h hb;by_cases hc:a<=a / b
 ·exact hc
 ·exfalso
  have h3:a / b+1<=a:=qa
  have h4:b * (a / b)+b=b * (a / b+1):=by rw[qC];omega
  have h5:b * (a / b+1)<=1 * (a / b+1):=Int.mul_le_mul_of_nonpos_right qa qa;omega
theorem InR.div {a b:Int}(h:InR a)(hb:0<b):InR (a / b):=by
 have:=Iz8 (a:=a) hb;obtain⟨h1,h2⟩:=h;by_cases h0:0<=a
 ·have:=this.1 h0;exact⟨qa,qa⟩
 ·have:=this.2 qa;exact⟨qa,qa⟩
theorem Pzj {a b:Int}(hb:0<b):(0<a->0<cdiv a b/\cdiv a b<=a)/\(a<=0->a<=cdiv a b/\cdiv a b<=0):=by
 have:=Iz8 (a:= -a) hb;unfold cdiv;exact⟨λh=>by have:=this.2 qa;omega,λh=>by have:=this.1 qa;omega⟩
theorem InR.cdiv {a b:Int}(h:InR a)(hb:0<b):InR (Go.Abs.cdiv a b):=by
 have:=Pzj (a:=a) hb;obtain⟨h1,h2⟩:=h;by_cases h0:0<a
 ·have:=this.1 h0;exact⟨qa,qa⟩
 ·have:=this.2 qa;exact⟨qa,qa⟩
theorem azbl {a b:Int}(hb:0<b):(0<=a->0<=a.tdiv b/\a.tdiv b<=a)/\(a<=0->a<=a.tdiv b/\a.tdiv b<=0):=by
 refine⟨λh=>?_,λh=>?_⟩
 ·rw[gz1 h];exact(Iz8 hb).1 h
 ·have h1:=(Iz8 (a:= -a) hb).1 qa;rw[<-gz1 qa,Gzo]at h1;omega
theorem InR.tdiv {a b:Int}(h:InR a)(hb:0<b):InR (a.tdiv b):=by
 have:=azbl (a:=a) hb;obtain⟨h1,h2⟩:=h;by_cases h0:0<=a
 ·have:=this.1 h0;exact⟨qa,qa⟩
 ·have:=this.2 qa;exact⟨qa,qa⟩
theorem azce {a b:Int}(ha:InR a)(hb:0<b):(bif qx (a.tmod b<0)then qv.wrap (qv.wrap (a.tdiv b)-1)else qv.wrap (a.tdiv b))=a / b:=by
 rw[(ha.tdiv hb).w,<-Wz9 hb,cond_eq_ite];simp only[qf];split
 ·rename_i h;have:=ha.div hb;rw[<-Wz9 hb,qc h]at this;exact this.w
 ·rfl
theorem azdw {a b:Int}(ha:InR a)(hb:0<b):(bif qx (a.tmod b>0)then qv.wrap (qv.wrap (a.tdiv b)+1)else qv.wrap (a.tdiv b))=cdiv a b:=by
 rw[(ha.tdiv hb).w,<-az84 hb,cond_eq_ite];simp only[qf];split
 ·rename_i h;have:=ha.cdiv hb;rw[<-az84 hb,qc h]at this;exact this.w
 ·rfl
theorem Ezm {a b q:Int}(hb:0<b):cdiv a b=q↔a<=b * q/\b * q<a+b:=by
 unfold cdiv;have h1:=Kzt (a:= -a) hb;have h2:=Szr (a:= -a) hb;constructor
 ·intro h;have:b * q= -(b * (-a / b)):=by rw[<-h,qD]
  omega
 ·intro h;have: -a / b= -q:=uzv (r:=b * q-a) qa qa (by rw[qD];omega);omega
def scan {R:Type}(g:Nat->Option R):Nat->Nat->Option R
 |0,_=>none
 |n+1,i=>match g i with
  |some r=>some r
  |none=>scan g n (i+1)
theorem dze {R:Type}{g:Nat->Option R}:∀ (n i:Nat),scan g n i=none↔∀j,i<=j->j<i+n->g j=none
 |0,i=>by simp only[scan,true_iff];intro j h1 h2;omega
 |n+1,i=>by
  simp only[scan];constructor
  ·intro h;split at h
   ·cases h
   ·rename_i h0;intro j h1 h2;by_cases e:j=i
    ·subst e;exact h0
    ·exact(dze n (i+1)).1 h j qa qa
  ·intro h;rw[h i qa qa];exact(dze n (i+1)).2 λj h1 h2=>h j qa qa
theorem fze {R:Type}{g:Nat->Option R}{r:R}:∀ (n i:Nat),scan g n i=some r->∃j,i<=j/\j<i+n/\g j=some r/\∀k,i<=k->k<j->g k=none
 |0,i,h=>by cases h
 |n+1,i,h=>by
  simp only[scan]at h;split at h
  ·rename_i h0;cases h;exact⟨i,qa,qa,h0,λk h1 h2=>qa⟩
  ·rename_i h0;obtain⟨j,h1,h2,h3,h4⟩:=fze n (i+1) h;refine⟨j,qa,qa,h3,λk h5 h6=>?_⟩;by_cases e:k=i
   ·subst e;exact h0
   ·exact h4 k qa h6
theorem Tzj {σ τ R:Type}{f:σ->Option (Step3 σ τ R)}(st:Nat->σ)(g:Nat->Option R)(y:τ):
 ∀ (n i N:Nat),n<N->(∀j,i<=j->j<i+n->f (st j)=match g j with|some r=>some (.fin r)|none=>some (.next (st (j+1))))->f (st (i+n))=some (.out y)->
   iter f N (st i)=some (match scan g n i with|some r=>.inr r|none=>.inl y)
 |0,i,0,h,_,_=>qa
 |0,i,N+1,_,_,h=>by simp only[qE]at h;simp[iter,h,scan]
 |n+1,i,0,h,_,_=>qa
 |n+1,i,N+1,h0,hs,he=>by
  have h1:=hs i qa qa;simp only[scan];cases hg:g i with
  |some r=>rw[hg]at h1;simp[iter,h1]
  |none=>
   rw[hg]at h1;simp only[iter,h1];exact Tzj st g y n (i+1) N qa (λj a b=>hs j qa qa) (by rw[<-he];congr 2;omega)
theorem hzy {σ τ R:Type}{f:σ->Option (Step3 σ τ R)}{k:τ->Option R}{x:σ}(st:Nat->σ)(g:Nat->Option R)(y:τ)(n:Nat)(hx:x=st 0)(hn:n<NN)
 (hs:∀j,j<n->f (st j)=match g j with|some r=>some (.fin r)|none=>some (.next (st (j+1)))) (he:f (st n)=some (.out y)):
 andK (iter f NN x) k=match scan g n 0 with|some r=>some r|none=>k y:=by
 rw[hx,Tzj st g y n 0 NN hn (λj _ h=>hs j qa) (by rw[qF];exact he)];cases scan g n 0<;>rfl
theorem cz8 {σ τ R:Type}{f:σ->Option (Step3 σ τ R)}{k:τ->Option R}{x:σ}(st:Nat->σ)(y:τ)(n:Nat)(hx:x=st 0)(hn:n<NN)
 (hs:∀j,j<n->f (st j)=some (.next (st (j+1)))) (he:f (st n)=some (.out y)):andK (iter f NN x) k=k y:=by
 rw[hx,jzf (Bzm st rfl n hn hs he)]
theorem aza {R:Type}{p:Prop}[Decidable p]{k:Option R}(h:p):grd p k=k:=by unfold grd;simp[h]
theorem dzv {α:Type}{b:Bool}{x y:α}:(bif b then some x else some y)=some (bif b then x else y):=by cases b<;>rfl
theorem bzf {σ τ R:Type}{b:Bool}{x y:τ}:(bif b then some (Step3.out x)else some (Step3.out y):Option (Step3 σ τ R))=some (.out (bif b then x else y)):=by cases b<;>rfl
theorem ez1 {b c:Bool}:(bif b then true else c)=(b||c):=by cases b<;>rfl
theorem pz1 {b c:Bool}:(bif b then c else false)=(b&&c):=by cases b<;>rfl
theorem dzm {a b:Int}(ha:InR a)(hb:0<b):(bzk a b).o=some (a / b):=by
 show(Azj a b).run NN=_;have h0:b≠0:=qa
 simp only[Azj,qk,aza h0,bzf,az7];exact congrArg some (azce ha hb)
theorem cz9 {a b:Int}(ha:InR a)(hb:0<b):(bz9 a b).o=some (cdiv a b):=by
 show(Dzz a b).run NN=_;have h0:b≠0:=qa
 simp only[Dzz,qk,aza h0,bzf,az7];exact congrArg some (azdw ha hb)
theorem czp (k:Nat):(0:Int)<2 ^ k:=Int.pow_pos qa
theorem Bzl (a:Int)(k:Nat):a.fdiv (2 ^ k)=a / 2 ^ k:=Int.fdiv_eq_ediv_of_nonneg _ (qG (czp k))
theorem iz9 (a:Int)(k:Nat)(hk:k<=64):(bze a (k:Int)).o=some (a / 2 ^ k):=by
 show(mz7 a (k:Int)).run NN=_;simp only[mz7,qk];rw[az5 qa,aza qa,qH,qI hk,Bzl]
theorem up_w {a b:Int}(ha:InR a)(hb:0<b)(hlo:InR (b * (a / b))):(bif (qv.wrap (a / b * b) !=a)then qv.wrap (a / b+1)else a / b)=cdiv a b:=by
 rw[Int.mul_comm,hlo.w];have h1:=Kzt (a:=a) hb;have h2:=Szr (a:=a) hb
 symm
 rw[Ezm hb];by_cases e:b * (a / b)=a
 ·rw[bzb e];omega
 ·rw[bzq e];have:qv.wrap (a / b+1)=a / b+1:=by
   have h3:=ha.cdiv hb;have:cdiv a b=a / b+1:=by rw[Ezm hb,qC];omega
   rw[this]at h3;exact h3.w
  rw[this,qC];omega
theorem azd8 {a:Int}{k:Nat}(hk:k<=63)(ha:InR a):InR (2 ^ k * (a / 2 ^ k)):=by
 have hp:=czp k;have h1:=Kzt (a:=a) hp;obtain⟨h3,h4⟩:=ha;have h5: -(2 ^ (63-k))<=a / 2 ^ k:=by
  rw[qJ hp,Int.neg_mul,<-qK,Nat.sub_add_cancel hk];have:(2:Int) ^ 63=9223372036854775808:=by decide
  omega
 have h6:2 ^ k * -(2:Int) ^ (63-k)<=2 ^ k * (a / 2 ^ k):=qL h5 qa;rw[qD,<-qK,Nat.add_sub_cancel' hk]at h6;have:(2:Int) ^ 63=9223372036854775808:=by decide
 exact⟨qa,qa⟩
theorem kzf {a:Int}(k:Nat)(hk:k<=63)(ha:InR a):(bzm a (k:Int)).o=some (cdiv a (2 ^ k)):=by
 show(qz7 a (k:Int)).run NN=_;simp only[qz7,qk];rw[az5 qa,aza qa,aza qa,qH,qI qa,Bzl,bzf,az7,up_w ha (czp k) (azd8 hk ha)]
theorem sd16 (a:Int):(bze a 16).o=some (a / 65536):=iz9 a 16 (by decide)
theorem sd30 (a:Int):(bze a 30).o=some (a / 1073741824):=iz9 a 30 (by decide)
theorem sd14 (a:Int):(bze a 14).o=some (a / 16384):=iz9 a 14 (by decide)
theorem su16 {a:Int}(h:InR a):(bzm a 16).o=some (cdiv a 65536):=kzf 16 (by decide) h
theorem su30 {a:Int}(h:InR a):(bzm a 30).o=some (cdiv a 1073741824):=kzf 30 (by decide) h
theorem su14 {a:Int}(h:InR a):(bzm a 14).o=some (cdiv a 16384):=kzf 14 (by decide) h
def clV (x:Int):Int:=max (-2147483648) (min x 2147483648)
def vV (a:az0):Bool:=qx (-2147483648<=a.Lo)&&(qx (a.Lo<=a.Hi)&&qx (a.Hi<=2147483648))
theorem vV_iff {a:az0}:vV a=true↔ -2147483648<=a.Lo/\a.Lo<=a.Hi/\a.Hi<=2147483648:=by simp[vV]
def iz:az0:=⟨0,0⟩
def limV (lo hi:Int):az0:=⟨clV lo,clV hi⟩
def addV (a b:az0):az0:=if vV a&&vV b then limV (a.Lo+b.Lo) (a.Hi+b.Hi)else iz
def negV (a:az0):az0:=if vV a then⟨-a.Hi,-a.Lo⟩else iz
def Tzz (a b:az0):Int:=min (min (min (a.Lo * b.Lo) (a.Lo * b.Hi)) (a.Hi * b.Lo)) (a.Hi * b.Hi)
def Tzy (a b:az0):Int:=max (max (max (a.Lo * b.Lo) (a.Lo * b.Hi)) (a.Hi * b.Lo)) (a.Hi * b.Hi)
def mulV (a b:az0):az0:=if vV a&&vV b then limV (Tzz a b / 65536) (cdiv (Tzy a b) 65536)else iz
def Zzy (a b:az0):az0:=if vV a&&vV b then⟨min a.Lo b.Lo,max a.Hi b.Hi⟩else iz
def ofV (x:Int):az0:=⟨clV x,clV x⟩
def midV (a:az0):Int:=if vV a then(a.Lo+a.Hi) / 2 else 0
theorem Qz8 (a:Int):(wz9 a).o=some (clV a):=by
 show(wza a).run NN=_;simp only[wza,qk,clV,Option.some.injEq];omega
theorem Izv (a:Int):(nzy a).o=some (clV a):=by
 show(Azi a).run NN=_;simp only[Azi,qk,clV]
theorem dz1 (a:az0):(czj a).o=some (vV a):=by
 show(ozd a).run NN=_;simp only[ozd,qk,vV,dzv,pz1]
theorem gzh (a:az0):(ez2 a).o=some (vV a):=by
 show(Azq a).run NN=_;simp only[Azq,qk,vV,dzv,pz1]
theorem ozh (a b:az0):(jzh a b).o=some (vV a&&vV b):=by
 show(ozg a b).run NN=_;simp only[ozg,qk,dz1,qM,dzv,pz1]
theorem kzj (a b:Int):(hzk a b).o=some (limV a b):=by
 show(kzi a b).run NN=_;simp only[kzi,qk,Qz8,qM,limV]
theorem Dz4 (a b:Int):(uz1 a b).o=some (limV a b):=by
 show(uz2 a b).run NN=_;simp only[uz2,qk,Izv,qM,limV]
theorem kzh (a:Int):(dz3 a).o=some (ofV a):=by
 show(wze a).run NN=_;simp only[wze,qk,kzj,qM,limV,ofV]
theorem Fzt (a:Int):(nzz a).o=some (ofV a):=by
 show(Lzz a).run NN=_;simp only[Lzz,qk,Izv,qM,ofV]
theorem wsum {a b:Int}(ha: -2147483648<=a/\a<=2147483648)(hb: -2147483648<=b/\b<=2147483648):qv.wrap (a+b)=a+b:=w64 qa qa
theorem wmul {a b:Int}(ha: -2147483648<=a/\a<=2147483648)(hb: -2147483648<=b/\b<=2147483648):qv.wrap (a * b)=a * b/\ -4611686018427387904<=a * b/\a * b<=4611686018427387904:=by
 have h: -4611686018427387904<=a * b/\a * b<=4611686018427387904:=by
  have h1:(a * b).natAbs<=2147483648 * 2147483648:=by rw[qN];exact qO qa qa
  omega
 exact⟨w64 qa qa,h⟩
theorem tz5 (a b:az0):(azs a b).o=some (addV a b):=by
 show(tz4 a b).run NN=_;simp only[tz4,qk,ozh,kzj,qM,dzv,addV];cases h:vV a&&vV b
 ·rfl
 ·simp only[qn,vV_iff]at h;rw[wsum ⟨qa,qa⟩ ⟨qa,qa⟩,wsum ⟨qa,qa⟩ ⟨qa,qa⟩];rfl
theorem Hzl (a b:az0):(bzw a b).o=some (addV a b):=by
 show(Hzk a b).run NN=_;simp only[Hzk,qk,gzh,Dz4,qM,dzv,bzf,az7,addV];cases h1:vV a
 ·rfl
 ·cases h2:vV b
  ·rfl
  ·simp only[vV_iff]at h1 h2;rw[wsum ⟨qa,qa⟩ ⟨qa,qa⟩,wsum ⟨qa,qa⟩ ⟨qa,qa⟩];rfl
theorem Czk (a:az0):(nz6 a).o=some (negV a):=by
 show(tz9 a).run NN=_;simp only[tz9,qk,dz1,qM,dzv,negV];cases h:vV a
 ·rfl
 ·simp only[vV_iff]at h;rw[w64 (x:=0-a.Hi) qa qa,w64 (x:=0-a.Lo) qa qa];simp
theorem Ozw (a:az0):(Bzt a).o=some (negV a):=by
 show(Hzt a).run NN=_;simp only[Hzt,qk,gzh,qM,dzv,negV];cases h:vV a
 ·rfl
 ·simp only[vV_iff]at h;rw[w64 (x:=0-a.Hi) qa qa,w64 (x:=0-a.Lo) qa qa];simp
theorem zzj (a b:az0):(fza a b).o=some (Zzy a b):=by
 show(qza a b).run NN=_;simp only[qza,qk,ozh,qM,dzv,Zzy];cases h:vV a&&vV b<;>rfl
theorem Wzt (a b:az0):(xz9 a b).o=some (Zzy a b):=by
 show(Ez0 a b).run NN=_;simp only[Ez0,qk,gzh,qM,dzv,bzf,az7,Zzy];cases h1:vV a<;>cases h2:vV b<;>rfl
theorem yz5 (a:az0)(h:vV a=true):(oze a).o=some (a.Hi-a.Lo):=by
 show(ozf a).run NN=_;simp only[ozf,qk,dz1,qM,dzv,h];simp only[vV_iff]at h;rw[w64 qa qa];rfl
theorem Nz7 (a:az0)(x:Int):(Czh a x).o=some (vV a&&(qx (a.Lo<=x)&&qx (x<=a.Hi))):=by
 show(tz6 a x).run NN=_;simp only[tz6,qk,dz1,qM,dzv,pz1]
theorem Hz7 {a b:Int}(hb:InR b):(uzy a b).o=some (limV (a / 65536) (cdiv b 65536)):=by
 show(mz8 a b).run NN=_;simp only[mz8,qk,sd16,su16 hb,kzj,qM]
theorem az38 {a b:az0}(ha:vV a=true)(hb:vV b=true):InR (Tzz a b)/\InR (Tzy a b)/\Tzz a b<=Tzy a b:=by
 simp only[vV_iff]at ha hb;obtain⟨-,p1,p2⟩:=wmul (a:=a.Lo) (b:=b.Lo) ⟨qa,qa⟩ ⟨qa,qa⟩;obtain⟨-,q1,q2⟩:=wmul (a:=a.Lo) (b:=b.Hi) ⟨qa,qa⟩ ⟨qa,qa⟩;obtain⟨-,r1,r2⟩:=wmul (a:=a.Hi) (b:=b.Lo) ⟨qa,qa⟩ ⟨qa,qa⟩;obtain⟨-,s1,s2⟩:=wmul (a:=a.Hi) (b:=b.Hi) ⟨qa,qa⟩ ⟨qa,qa⟩;unfold Tzz Tzy InR;generalize a.Lo * b.Lo=p at *
 generalize a.Lo * b.Hi=q at *
 generalize a.Hi * b.Lo=r at *
 generalize a.Hi * b.Hi=s at *
 omega
theorem Ozv (a b:az0):(bzc a b).o=some (mulV a b):=by
 show(Hzs a b).run NN=_;simp only[Hzs,qk,gzh,Dz4,qM,dzv,bzf,az7,mulV];cases h1:vV a
 ·rfl
 ·cases h2:vV b
  ·rfl
  ·have hm:=az38 h1 h2;simp only[vV_iff]at h1 h2
   rw[(wmul (a:=a.Lo) (b:=b.Lo) ⟨qa,qa⟩ ⟨qa,qa⟩).1,(wmul (a:=a.Lo) (b:=b.Hi) ⟨qa,qa⟩ ⟨qa,qa⟩).1,
    (wmul (a:=a.Hi) (b:=b.Lo) ⟨qa,qa⟩ ⟨qa,qa⟩).1,(wmul (a:=a.Hi) (b:=b.Hi) ⟨qa,qa⟩ ⟨qa,qa⟩).1]
   show(bzk (Tzz a b) 65536).o.bind _=_;rw[dzm hm.1 (by decide),qM];show(bz9 (Tzy a b) 65536).o.bind _=_;rw[cz9 hm.2.1 (by decide)];rfl
theorem Czj (a b:az0):(azw a b).o=some (mulV a b):=by
 show(tz8 a b).run NN=_;simp only[tz8,qk,ozh,qM,mulV];cases h:vV a&&vV b
 ·rfl
 ·simp only[qn]at h;have hm:=az38 h.1 h.2;simp only[vV_iff]at h
  rw[(wmul (a:=a.Lo) (b:=b.Lo) ⟨qa,qa⟩ ⟨qa,qa⟩).1,(wmul (a:=a.Lo) (b:=b.Hi) ⟨qa,qa⟩ ⟨qa,qa⟩).1,
     (wmul (a:=a.Hi) (b:=b.Lo) ⟨qa,qa⟩ ⟨qa,qa⟩).1,(wmul (a:=a.Hi) (b:=b.Hi) ⟨qa,qa⟩ ⟨qa,qa⟩).1]
  simp only[qP,qd];refine Eq.trans (cz8 (λi=>match i with
   |0=>(a.Lo * b.Lo,a.Lo * b.Lo,0)
   |1=>(a.Lo * b.Lo,a.Lo * b.Lo,1)
   |2=>(min (a.Lo * b.Lo) (a.Lo * b.Hi),max (a.Lo * b.Lo) (a.Lo * b.Hi),2)
   |3=>(min (min (a.Lo * b.Lo) (a.Lo * b.Hi)) (a.Hi * b.Lo),max (max (a.Lo * b.Lo) (a.Lo * b.Hi)) (a.Hi * b.Lo),3)
   |_=>(Tzz a b,Tzy a b,4)) (Tzz a b,Tzy a b) 4 rfl (by decide) ?_ ?_) ?_
  ·intro j hj
   match j,hj with
   |0,_=>simp[aza,IntKind.wrap,IntKind.bits,IntKind.signed]
   |1,_=>simp[aza,IntKind.wrap,IntKind.bits,IntKind.signed]
   |2,_=>simp[aza,IntKind.wrap,IntKind.bits,IntKind.signed]
   |3,_=>simp[aza,IntKind.wrap,IntKind.bits,IntKind.signed,Tzz,Tzy]
  ·rfl
  ·rw[Hz7 hm.2.1];rfl
def pd1 (x:Int):Int:=qv.wrap (x * 6746518852) / 65536
def pu1 (x:Int):Int:=cdiv (qv.wrap (x * 6746518853)) 65536
def pd (x:Int):Nat->Int
 |0=>pd1 x
 |k+1=>qv.wrap (pd x k * pd1 x) / 1073741824
def pu (x:Int):Nat->Int
 |0=>pu1 x
 |k+1=>cdiv (qv.wrap (pu x k * pu1 x)) 1073741824
theorem xzy (x:Int):(oz4 x).o=some ((1073741824,pd x 0,pd x 1,pd x 2,pd x 3,pd x 4,pd x 5,pd x 6,pd x 7,pd x 8,pd x 9),(1073741824,pu x 0,pu x 1,pu x 2,pu x 3,pu x 4,pu x 5,pu x 6,pu x 7,pu x 8,pu x 9)):=by
 show(oz5 x).run NN=_;simp only[oz5,qk,sd16,su16 (InR.wr _),sd30,su30 (InR.wr _),qM,pd,pu,pd1,pu1]
theorem Fzw (x:Int):(xzc x).o=some ((0,pd x 0,pd x 1,pd x 2,pd x 3,pd x 4,pd x 5,pd x 6,pd x 7,pd x 8,pd x 9),(0,pu x 0,pu x 1,pu x 2,pu x 3,pu x 4,pu x 5,pu x 6,pu x 7,pu x 8,pu x 9)):=by
 have h1:∀y:Int,(bzk (qv.wrap y) 65536).o=some (qv.wrap y / 65536):=λy=>dzm (InR.wr _) (by decide)
 have h2:∀y:Int,(bz9 (qv.wrap y) 65536).o=some (cdiv (qv.wrap y) 65536):=λy=>cz9 (InR.wr _) (by decide)
 have h3:∀y:Int,(bzk (qv.wrap y) 1073741824).o=some (qv.wrap y / 1073741824):=λy=>dzm (InR.wr _) (by decide)
 have h4:∀y:Int,(bz9 (qv.wrap y) 1073741824).o=some (cdiv (qv.wrap y) 1073741824):=λy=>cz9 (InR.wr _) (by decide)
 show(xzd x).run NN=_;simp only[xzd,qk,h1,h2,h3,h4,qM,pd,pu,pd1,pu1]
theorem az8u {x:Int}(h0:0<=x)(h1:x<=8192):0<=pd1 x/\pd1 x<=1073741824:=by
 unfold pd1;rw[w64 qa qa];omega
theorem az8w {x:Int}(h0:0<=x)(h1:x<=8192):0<=pu1 x/\pu1 x<=1073741824:=by
 unfold pu1 cdiv;rw[w64 qa qa];omega
theorem az3u {a b:Int}(ha:0<=a/\a<=1073741824)(hb:0<=b/\b<=1073741824):0<=a * b/\a * b<=1152921504606846976:=by
 refine⟨qQ ha.1 hb.1,?_⟩;have:=qR ha.2 hb.2 hb.1 (by omega:(0:Int)<=1073741824);omega
theorem az3q {x:Int}(h0:0<=x)(h1:x<=8192):∀k,0<=pd x k/\pd x k<=1073741824
 |0=>az8u h0 h1
 |k+1=>by
  have:=az3u (az3q h0 h1 k) (az8u h0 h1);simp only[pd];generalize pd x k * pd1 x=y at this⊢;rw[w64 qa qa];omega
theorem az3w {x:Int}(h0:0<=x)(h1:x<=8192):∀k,0<=pu x k/\pu x k<=1073741824
 |0=>az8w h0 h1
 |k+1=>by
  have:=az3u (az3w h0 h1 k) (az8w h0 h1);simp only[pu];generalize pu x k * pu1 x=y at this⊢;rw[w64 qa qa];unfold cdiv;omega
theorem dzu {n d:Int}(h0:0<=n)(h1:n<=1073741824)(h2:0<d)(h3:d<=1073741824):(dzc n d).o=some (cdiv n d):=by
 show(pzu n d).run NN=_;simp only[pzu,qk];rw[aza qa,w64 (x:=n+d) qa qa,w64 (x:=n+d-1) qa qa,gz1 qa];have h4:=Kzt (a:=n+d-1) h2;have h5:=Szr (a:=n+d-1) h2;have h6:=(Iz8 (a:=n+d-1) h2).1 qa;rw[w64 qa qa];congr 1;symm;rw[Ezm h2];omega
def alt (l:List Int):Nat->Int×Int
 |0=>(0,1)
 |k+1=>(qv.wrap ((alt l k).1+qv.wrap ((alt l k).2 * l.getD k qw)),qv.wrap (0- (alt l k).2))
theorem jzp (l:List Int)(h:l.length<4294967296):(czy l).o=some (alt l l.length).1:=by
 show(jzo l).run NN=_;simp only[jzo,qk];refine Eq.trans (cz8 (λi=>((alt l i).1,(alt l i).2,(i:Int))) (alt l l.length).1 l.length rfl h ?_ ?_) rfl
 ·intro j hj;rw[az6 (by simpa using hj),aza ⟨by simp,by simpa using hj⟩];simp only[alt,w64n (show j<9223372036854775807 from qa),qH]
 ·rw[az5 (by simp)]
theorem alt4 {a b c d:Int}(ha:0<=a/\a<=1073741824)(hb:0<=b/\b<=1073741824)(hc:0<=c/\c<=1073741824)(hd:0<=d/\d<=1073741824):(czy [a,b,c,d]).o=some (a-b+c-d):=by
 rw[jzp _ (by simp)];simp[alt,wr];omega
theorem alt5 {a b c d e:Int}(ha:0<=a/\a<=1073741824)(hb:0<=b/\b<=1073741824)(hc:0<=c/\c<=1073741824)(hd:0<=d/\d<=1073741824)(he:0<=e/\e<=1073741824):(czy [a,b,c,d,e]).o=some (a-b+c-d+e):=by
 rw[jzp _ (by simp)];simp[alt,wr];omega
theorem alt6 {a b c d e f:Int}(ha:0<=a/\a<=1073741824)(hb:0<=b/\b<=1073741824)(hc:0<=c/\c<=1073741824)(hd:0<=d/\d<=1073741824)(he:0<=e/\e<=1073741824)(hf:0<=f/\f<=1073741824):(czy [a,b,c,d,e,f]).o=some (a-b+c-d+e-f):=by
 rw[jzp _ (by simp)];simp[alt,wr];omega
def encV (lo hi:Int):az0:=⟨max 0 (lo / 16384),min 65536 (cdiv hi 16384)⟩
theorem uzs {a b:Int}(hb:InR b):(lzz a b).o=some (encV a b):=by
 show(mz0 a b).run NN=_;simp only[mz0,qk,sd14,su14 hb,qM,encV]
theorem yzi {a b:Int}(ha:InR a)(hb:InR b):(ozr a b).o=some (encV a b):=by
 show(ozs a b).run NN=_;simp only[ozs,qk,dzm ha (show(0:Int)<16384 by decide),cz9 hb (show(0:Int)<16384 by decide),qM,encV]
def sLo (x:Int):Int:=pd x 0-cdiv (pu x 2) 6+pd x 4 / 120-cdiv (pu x 6) 5040
def sHi (x:Int):Int:=pu x 0-pd x 2 / 6+cdiv (pu x 4) 120-pd x 6 / 5040+cdiv (pu x 8) 362880
def cLo (x:Int):Int:=1073741824-cdiv (pu x 1) 2+pd x 3 / 24-cdiv (pu x 5) 720+pd x 7 / 40320-cdiv (pu x 9) 3628800
def cHi (x:Int):Int:=1073741824-pd x 1 / 2+cdiv (pu x 3) 24-pd x 5 / 720+cdiv (pu x 7) 40320
theorem q_bd {a b:Int}(ha:0<=a/\a<=1073741824)(hb:0<b):0<=a / b/\a / b<=1073741824:=by
 have:=(Iz8 (a:=a) hb).1 ha.1;omega
theorem c_bd {a b:Int}(ha:0<=a/\a<=1073741824)(hb:0<b):0<=cdiv a b/\cdiv a b<=1073741824:=by
 have h:=Pzj (a:=a) hb;by_cases h0:a=0
 ·have:=h.2 qa;omega
 ·have:=h.1 qa;omega
theorem wq {a b:Int}(ha:0<=a/\a<=1073741824)(hb:0<b):qv.wrap (a.tdiv b)=a / b:=by
 rw[gz1 ha.1];have:=q_bd ha hb;exact w64 qa qa
theorem in30 {a:Int}(ha:0<=a/\a<=1073741824):InR a:=⟨qa,qa⟩
section
variable {x:Int} (h0:0<=x) (h1:x<=8192)
include h0 h1
theorem Sz3:(Iz5 x).o=some (encV (sLo x) (sHi x)):=by
 have P:=az3q h0 h1;have U:=az3w h0 h1;show(yzy x).run NN=_
 simp only[yzy,qk,T.ix,xzy,qM,dzu (U 2).1 (U 2).2 (show(0:Int)<6 by decide) (by decide),dzu (U 6).1 (U 6).2 (show(0:Int)<5040 by decide) (by decide),
  dzu (U 4).1 (U 4).2 (show(0:Int)<120 by decide) (by decide),dzu (U 8).1 (U 8).2 (show(0:Int)<362880 by decide) (by decide),wq (P 4) (show(0:Int)<120 by decide),wq (P 2) (show(0:Int)<6 by decide),wq (P 6) (show(0:Int)<5040 by decide),
  alt4 (P 0) (c_bd (U 2) (show(0:Int)<6 by decide)) (q_bd (P 4) (show(0:Int)<120 by decide)) (c_bd (U 6) (show(0:Int)<5040 by decide)),
  alt5 (U 0) (q_bd (P 2) (show(0:Int)<6 by decide)) (c_bd (U 4) (show(0:Int)<120 by decide)) (q_bd (P 6) (show(0:Int)<5040 by decide)) (c_bd (U 8) (show(0:Int)<362880 by decide))]
 have a0:=U 0;have a1:=q_bd (P 2) (show(0:Int)<6 by decide);have a2:=c_bd (U 4) (show(0:Int)<120 by decide);have a3:=q_bd (P 6) (show(0:Int)<5040 by decide);have a4:=c_bd (U 8) (show(0:Int)<362880 by decide);rw[uzs ⟨qa,qa⟩];rfl
theorem Mzy:(Czb x).o=some (encV (cLo x) (cHi x)):=by
 have P:=az3q h0 h1;have U:=az3w h0 h1;have one:(0:Int)<=1073741824/\(1073741824:Int)<=1073741824:=by decide
 show(szn x).run NN=_
 simp only[szn,qk,T.ix,xzy,qM,dzu (U 1).1 (U 1).2 (show(0:Int)<2 by decide) (by decide),dzu (U 5).1 (U 5).2 (show(0:Int)<720 by decide) (by decide),dzu (U 9).1 (U 9).2 (show(0:Int)<3628800 by decide) (by decide),
  dzu (U 3).1 (U 3).2 (show(0:Int)<24 by decide) (by decide),dzu (U 7).1 (U 7).2 (show(0:Int)<40320 by decide) (by decide),wq (P 3) (show(0:Int)<24 by decide),wq (P 7) (show(0:Int)<40320 by decide),wq (P 1) (show(0:Int)<2 by decide),wq (P 5) (show(0:Int)<720 by decide),
  alt6 one (c_bd (U 1) (show(0:Int)<2 by decide)) (q_bd (P 3) (show(0:Int)<24 by decide)) (c_bd (U 5) (show(0:Int)<720 by decide)) (q_bd (P 7) (show(0:Int)<40320 by decide)) (c_bd (U 9) (show(0:Int)<3628800 by decide)),
  alt5 one (q_bd (P 1) (show(0:Int)<2 by decide)) (c_bd (U 3) (show(0:Int)<24 by decide)) (q_bd (P 5) (show(0:Int)<720 by decide)) (c_bd (U 7) (show(0:Int)<40320 by decide))]
 have a1:=q_bd (P 1) (show(0:Int)<2 by decide);have a2:=c_bd (U 3) (show(0:Int)<24 by decide);have a3:=q_bd (P 5) (show(0:Int)<720 by decide);have a4:=c_bd (U 7) (show(0:Int)<40320 by decide);rw[uzs ⟨qa,qa⟩];rfl
theorem Wzw:(Mz5 x).o=some (encV (sLo x) (sHi x)):=by
 have P:=az3q h0 h1;have U:=az3w h0 h1;show(Ez5 x).run NN=_
 simp only[Ez5,qk,T.ix,Fzw,qM,cz9 (in30 (U 2)) (show(0:Int)<6 by decide),cz9 (in30 (U 6)) (show(0:Int)<5040 by decide),cz9 (in30 (U 4)) (show(0:Int)<120 by decide),cz9 (in30 (U 8)) (show(0:Int)<362880 by decide),
  dzm (in30 (P 4)) (show(0:Int)<120 by decide),dzm (in30 (P 2)) (show(0:Int)<6 by decide),dzm (in30 (P 6)) (show(0:Int)<5040 by decide),Rzw,Rzx]
 have b0:=P 0;have b1:=c_bd (U 2) (show(0:Int)<6 by decide);have b2:=q_bd (P 4) (show(0:Int)<120 by decide);have b3:=c_bd (U 6) (show(0:Int)<5040 by decide);have a0:=U 0;have a1:=q_bd (P 2) (show(0:Int)<6 by decide);have a2:=c_bd (U 4) (show(0:Int)<120 by decide);have a3:=q_bd (P 6) (show(0:Int)<5040 by decide);have a4:=c_bd (U 8) (show(0:Int)<362880 by decide);rw[w64 (x:=pd x 0-cdiv (pu x 2) 6+pd x 4 / 120-cdiv (pu x 6) 5040) qa qa,w64 (x:=pu x 0-pd x 2 / 6+cdiv (pu x 4) 120-pd x 6 / 5040+cdiv (pu x 8) 362880) qa qa,yzi ⟨qa,qa⟩ ⟨qa,qa⟩];rfl
theorem Rzd:(Fzv x).o=some (encV (cLo x) (cHi x)):=by
 have P:=az3q h0 h1;have U:=az3w h0 h1;show(xzb x).run NN=_
 simp only[xzb,qk,T.ix,Fzw,qM,cz9 (in30 (U 1)) (show(0:Int)<2 by decide),cz9 (in30 (U 5)) (show(0:Int)<720 by decide),cz9 (in30 (U 9)) (show(0:Int)<3628800 by decide),cz9 (in30 (U 3)) (show(0:Int)<24 by decide),cz9 (in30 (U 7)) (show(0:Int)<40320 by decide),
  dzm (in30 (P 3)) (show(0:Int)<24 by decide),dzm (in30 (P 7)) (show(0:Int)<40320 by decide),dzm (in30 (P 1)) (show(0:Int)<2 by decide),dzm (in30 (P 5)) (show(0:Int)<720 by decide),Rzw,Rzx]
 have b1:=c_bd (U 1) (show(0:Int)<2 by decide);have b2:=q_bd (P 3) (show(0:Int)<24 by decide);have b3:=c_bd (U 5) (show(0:Int)<720 by decide);have b4:=q_bd (P 7) (show(0:Int)<40320 by decide);have b5:=c_bd (U 9) (show(0:Int)<3628800 by decide);have a1:=q_bd (P 1) (show(0:Int)<2 by decide);have a2:=c_bd (U 3) (show(0:Int)<24 by decide);have a3:=q_bd (P 5) (show(0:Int)<720 by decide);have a4:=c_bd (U 7) (show(0:Int)<40320 by decide);rw[w64 (x:=1073741824-cdiv (pu x 1) 2+pd x 3 / 24-cdiv (pu x 5) 720+pd x 7 / 40320-cdiv (pu x 9) 3628800) qa qa,w64 (x:=1073741824-pd x 1 / 2+cdiv (pu x 3) 24-pd x 5 / 720+cdiv (pu x 7) 40320) qa qa,yzi ⟨qa,qa⟩ ⟨qa,qa⟩];rfl
end
def qV (r:Int):az0:=if r<=8192 then encV (sLo r) (sHi r)else encV (cLo (16384-r)) (cHi (16384-r))
theorem Ezi {r:Int}(h0:0<=r)(h1:r<=16384):(kz4 r).o=some (qV r):=by
 show(vzt r).run NN=_;simp only[vzt,qk,qV];by_cases h:r<=8192
 ·rw[az6 h,qc h,Sz3 h0 h];rfl
 ·rw[az5 h,qb h,w64 qa qa,Mzy qa qa];rfl
theorem Dz2 {r:Int}(h0:0<=r)(h1:r<=16384):(jzc r).o=some (qV r):=by
 show(tzz r).run NN=_;simp only[tzz,qk,qV];by_cases h:r<=8192
 ·rw[az6 h,qc h,Wzw h0 h];rfl
 ·rw[az5 h,qb h,w64 qa qa,Rzd qa qa];rfl
theorem az5h (a:Int):(((BitVec.ofInt 64 a&&&BitVec.ofInt 64 65535).toNat:Nat):Int)=a % 65536:=by
 have h1:(BitVec.ofInt 64 65535).toNat=2 ^ 16-1:=by decide
 rw[BitVec.toNat_and,h1,Nat.and_two_pow_sub_one_eq_mod,BitVec.toNat_ofInt];omega
theorem pzw (a:Int):(kz6 a).o=some (a % 65536):=by
 show(pzv a).run NN=_;simp only[pzv,qk];rw[az5h,w64 qa qa]
theorem Hzr (a:Int):(Bzs a).o=some (a % 65536):=by
 show(Hzq a).run NN=_;simp only[Hzq,qk];have h2:=qz a (show(0:Int)<65536 by decide);have h3:=qA a (show(0:Int)<65536 by decide);have h1:=qy a 65536;rw[w64 qa qa,Kz8 qa];congr 1;omega
def sinV (a:Int):az0:=
 if a % 65536 / 16384=0 then qV (a % 65536 % 16384)else if a % 65536 / 16384=1 then qV (16384-a % 65536 % 16384)else
 if a % 65536 / 16384=2 then negV (qV (a % 65536 % 16384))else negV (qV (16384-a % 65536 % 16384))
theorem Kzf (a:Int):(vzs a).o=some (sinV a):=by
 show(Dzi a).run NN=_;simp only[Dzi,qk,pzw,qM,sinV];rw[gz1 qa,Kz8 qa,w64 (x:=a % 65536 / 16384) qa qa,w64 (x:=16384-a % 65536 % 16384) qa qa,Ezi qa qa,Ezi qa qa];simp only[qM,Czk];by_cases h0:a % 65536 / 16384=0
 ·rw[czn h0,qc h0]
 ·rw[czo h0,qb h0];by_cases h1:a % 65536 / 16384=1
  ·rw[czn h1,qc h1]
  ·rw[czo h1,qb h1];by_cases h2:a % 65536 / 16384=2
   ·rw[czn h2,qc h2]
   ·rw[czo h2,qb h2]
theorem Ozx (a:Int):(Bzu a).o=some (sinV a):=by
 show(Hzu a).run NN=_;simp only[Hzu,qk,Hzr,qM,sinV];rw[gz1 qa,Kz8 qa,w64 (x:=a % 65536 / 16384) qa qa,w64 (x:=16384-a % 65536 % 16384) qa qa,Dz2 qa qa,Dz2 qa qa];simp only[qM,Ozw];by_cases h0:a % 65536 / 16384=0
 ·rw[czn h0,qc h0]
 ·rw[czo h0,qb h0];by_cases h1:a % 65536 / 16384=1
  ·rw[czn h1,qc h1]
  ·rw[czo h1,qb h1];by_cases h2:a % 65536 / 16384=2
   ·rw[czn h2,qc h2]
   ·rw[czo h2,qb h2]
def cosV (a:Int):az0:=sinV (a % 65536+16384)
theorem Vzi (a:Int):(Dzg a).o=some (cosV a):=by
 show(Dzh a).run NN=_;simp only[Dzh,qk,pzw,qM,cosV];rw[w64 qa qa,Kzf];rfl
theorem az0c (a:Int):(Hzn a).o=some (cosV a):=by
 show(Hzo a).run NN=_;simp only[Hzo,qk,Hzr,qM,cosV];rw[w64 qa qa,Ozx];rfl
def Jzk (a:az0)(c:Int):Bool:=qx (a.Lo+(c-a.Lo) % 65536<=a.Hi)
def azcg (b:Bool)(x y:az0):az0:=if b then Zzy x y else x
def Uz5 (a lo hi:az0)(top bot:Int):az0:=
 if vV a then(if a.Hi-a.Lo>=65536 then⟨-65536,65536⟩else azcg (Jzk a bot) (azcg (Jzk a top) (Zzy lo hi) (ofV 65536)) (ofV (-65536)))else iz
section
variable {a:az0} (h:vV a=true) {c:Int} (h0:0<=c) (h1:c<=65536)
include h h0 h1
theorem pz6:(kz5 a c).o=some (Jzk a c):=by
 show(vzu a c).run NN=_;have hv:=h;simp only[vV_iff]at hv;simp only[vzu,qk,pzw,qM,Nz7,h,qS,Jzk];rw[w64 (x:=c-a.Lo) qa qa,w64 qa qa,qg (p:=a.Lo<=_) qa,qS]
theorem Izw:(Azr a c).o=some (Jzk a c):=by
 show(Azs a c).run NN=_;have hv:=h;simp only[vV_iff]at hv;simp only[Azs,qk,Hzr,qM,Jzk];rw[w64 (x:=c-a.Lo) qa qa,w64 qa qa]
end
theorem Sz2 (a:az0){t b:Int}(ht:0<=t/\t<=65536)(hb:0<=b/\b<=65536):(Iz4 a t b).o=some (Uz5 a (cosV a.Lo) (cosV a.Hi) t b):=by
 show(yzx a t b).run NN=_;simp only[yzx,qk,dz1,qM,Uz5];cases h:vV a
 ·rfl
 ·simp only[qP,qd,yz5 a h,qM,Vzi,zzj,pz6 h ht.1 ht.2,pz6 h hb.1 hb.2,kzh,if_true];by_cases hw:a.Hi-a.Lo>=65536
  ·rw[az6 hw,qc hw]
  ·rw[az5 hw,qb hw];cases Jzk a t<;>cases Jzk a b<;>rfl
theorem Mzz (a:az0){t b:Int}(ht:0<=t/\t<=65536)(hb:0<=b/\b<=65536):(Czc a t b).o=some (Uz5 a (sinV a.Lo) (sinV a.Hi) t b):=by
 show(szo a t b).run NN=_;simp only[szo,qk,dz1,qM,Uz5];cases h:vV a
 ·rfl
 ·simp only[qP,qd,yz5 a h,qM,Kzf,zzj,pz6 h ht.1 ht.2,pz6 h hb.1 hb.2,kzh,if_true];by_cases hw:a.Hi-a.Lo>=65536
  ·rw[az6 hw,qc hw]
  ·rw[az5 hw,qb hw];cases Jzk a t<;>cases Jzk a b<;>rfl
theorem Mz4 (a lo hi:az0){t b:Int}(ht:0<=t/\t<=65536)(hb:0<=b/\b<=65536):(Ez3 a lo hi t b).o=some (Uz5 a lo hi t b):=by
 show(Ez4 a lo hi t b).run NN=_;simp only[Ez4,qk,gzh,qM,Uz5];cases h:vV a
 ·rfl
 ·have hv:=h;simp only[vV_iff]at hv;rw[w64 qa qa];simp only[qP,qd,qM,Wzt,Izw h ht.1 ht.2,Izw h hb.1 hb.2,Fzt,if_true];by_cases hw:a.Hi-a.Lo>=65536
  ·rw[az6 hw,qc hw]
  ·rw[az5 hw,qb hw];cases Jzk a t<;>cases Jzk a b<;>rfl
def sinO (a:az0):az0:=Uz5 a (sinV a.Lo) (sinV a.Hi) 16384 49152
def cosO (a:az0):az0:=Uz5 a (cosV a.Lo) (cosV a.Hi) 0 32768
theorem Kze (a:az0):(yzw a).o=some (sinO a):=by
 show(pzt a).run NN=_;simp only[pzt,qk,Mzz a (show(0:Int)<=16384/\(16384:Int)<=65536 by decide) (show(0:Int)<=49152/\(49152:Int)<=65536 by decide),qM,sinO]
theorem Kzd (a:az0):(yzv a).o=some (cosO a):=by
 show(pzs a).run NN=_;simp only[pzs,qk,Sz2 a (show(0:Int)<=0/\(0:Int)<=65536 by decide) (show(0:Int)<=32768/\(32768:Int)<=65536 by decide),qM,cosO]
theorem Nzs (a:az0):(Dz3 a).o=some (sinO a):=by
 show(uz0 a).run NN=_;simp only[uz0,qk,Ozx,Mz4 a _ _ (show(0:Int)<=16384/\(16384:Int)<=65536 by decide) (show(0:Int)<=49152/\(49152:Int)<=65536 by decide),qM,sinO]
theorem Nzr (a:az0):(Dz1 a).o=some (cosO a):=by
 show(tzy a).run NN=_;simp only[tzy,qk,az0c,Mz4 a _ _ (show(0:Int)<=0/\(0:Int)<=65536 by decide) (show(0:Int)<=32768/\(32768:Int)<=65536 by decide),qM,cosO]
abbrev IV3:=az0×az0×az0
abbrev IM3:=IV3×IV3×IV3
def izv:IV3:=(iz,iz,iz)
def Az1 (v:Int×Int×Int):IV3:=(ofV v.1,ofV v.2.1,ofV v.2.2)
def az0u:IM3:=((ofV 65536,iz,iz),(iz,ofV 65536,iz),(iz,iz,ofV 65536))
def Zzk (a b:IV3):IV3:=(addV a.1 b.1,addV a.2.1 b.2.1,addV a.2.2 b.2.2)
def dotV (r v:IV3):az0:=addV (addV (mulV r.1 v.1) (mulV r.2.1 v.2.1)) (mulV r.2.2 v.2.2)
def Oz4 (m:IM3)(v:IV3):IV3:=(dotV m.1 v,dotV m.2.1 v,dotV m.2.2 v)
def lim1 (a:az0):az0:=⟨max (-65536) (min a.Lo 65536),max (-65536) (min a.Hi 65536)⟩
def rowV (r:IV3)(b:IM3):IV3:=(lim1 (dotV r (b.1.1,b.2.1.1,b.2.2.1)),lim1 (dotV r (b.1.2.1,b.2.1.2.1,b.2.2.2.1)),lim1 (dotV r (b.1.2.2,b.2.1.2.2,b.2.2.2.2)))
def az1r (a b:IM3):IM3:=(rowV a.1 b,rowV a.2.1 b,rowV a.2.2 b)
def Vz9 (axis:Int)(a:az0):IM3:=
 if vV a then(if axis=0 then((ofV 65536,iz,iz),(iz,cosO a,negV (sinO a)),(iz,sinO a,cosO a))else
  if axis=1 then((cosO a,iz,sinO a),(iz,ofV 65536,iz),(negV (sinO a),iz,cosO a))else
  if axis=2 then((cosO a,negV (sinO a),iz),(sinO a,cosO a,iz),(iz,iz,ofV 65536))else(izv,izv,izv))else(izv,izv,izv)
def Jz5 (v:IV3):bz2:=⟨az0u,v⟩
def Uzr:bz2:=⟨az0u,izv⟩
def Vzt (a b:bz2):bz2:=⟨az1r a.R b.R,Zzk a.T (Oz4 a.R b.T)⟩
def Tzx (p:bz2)(v:IV3):IV3:=Zzk p.T (Oz4 p.R v)
def Jz6 (k:Int)(a:az0):IV3:=if k=4 then(a,iz,iz)else if k=5 then(iz,a,iz)else(iz,iz,a)
def Czm (j:azz)(a:az0):bz2:=
 Vzt (Jz5 (Az1 j.Xw)) (if j.Xm=1\/j.Xm=2\/j.Xm=3 then⟨Vz9 (j.Xm-1) a,izv⟩else if j.Xm=4\/j.Xm=5\/j.Xm=6 then Jz5 (Jz6 j.Xm a)else Uzr)
theorem az5n {a b:Int}(h:a<=b):clV a<=clV b:=by unfold clV;omega
theorem az85 (a:Int): -2147483648<=clV a/\clV a<=2147483648:=by unfold clV;omega
theorem azcu {a b:Int}(h:a<=b):vV (limV a b)=true:=by
 rw[vV_iff];exact⟨(az85 a).1,az5n h,(az85 b).2⟩
theorem iz_v:vV iz=true:=rfl
theorem of0:ofV 0=iz:=rfl
theorem Qz9 {a b c:Int}(h:a<=b)(hc:0<c):a / c<=cdiv b c:=by
 have h1:=Kzt (a:=a) hc;have h2:=Kzt (a:= -b) hc;unfold cdiv;by_cases e:a / c<= -(-b / c)
 ·exact e
 ·exfalso
  have h3:c * (-(-b / c))<c * (a / c):=Int.mul_lt_mul_of_pos_left qa hc;rw[qD]at h3;omega
theorem azcy (a b:az0):vV (mulV a b)=true:=by
 unfold mulV;split
 ·rename_i h;simp only[qn]at h;exact azcu (Qz9 (az38 h.1 h.2).2.2 (by decide))
 ·exact iz_v
theorem az97 {x:az0}(h:vV x=true):addV iz x=x:=by
 have hv:=h;rw[vV_iff]at hv;obtain⟨lo,hi⟩:=x;simp only at hv;have e1:clV (0+lo)=lo:=by unfold clV;omega
 have e2:clV (0+hi)=hi:=by unfold clV;omega
 simp only[addV,h,iz_v,qT,if_true,limV];exact congr (congrArg az0.mk e1) e2
theorem add0 (a b:az0):addV ⟨0,0⟩ (mulV a b)=mulV a b:=az97 (azcy a b)
theorem tze (v:Int×Int×Int):(nz8 v).o=some (Az1 v):=by
 show(tzd v).run NN=_;simp only[tzd,qk,T.ix,kzh,qM,Az1]
theorem sz8 (v:Int×Int×Int):(Azk v).o=some (Az1 v):=by
 show(Azl v).run NN=_;simp only[Azl,qk,T.ix,Fzt,qM,Az1]
theorem Hzc:matrix_Identity_C.o=some az0u:=by
 show matrix_Identity_T.run NN=_;simp only[matrix_Identity_T,qk,T.ix,kzh,qM,az0u,iz]
theorem Mz3:ref1_Unit_C.o=some az0u:=by
 show ref1_Unit_T.run NN=_;simp only[ref1_Unit_T,qk,Fzt,qM,az0u,iz]
theorem Izh (a b:IV3):(Izg a b).o=some (Zzk a b):=by
 show(zzv a b).run NN=_;simp only[zzv,qk,T.ix,tz5,qM,Zzk]
theorem Fzs (a b:IV3):(xz7 a b).o=some (Zzk a b):=by
 show(xz8 a b).run NN=_;simp only[xz8,qk,T.ix,Hzl,qM,Zzk]
theorem Czr (m:IM3)(v:IV3):(Czq m v).o=some (Oz4 m v):=by
 show(tzc m v).run NN=_;simp only[tzc,qk,T.ix,tz5,Czj,qM,add0,Oz4,dotV]
theorem Azg (m:IM3)(v:IV3):(qzt m v).o=some (Oz4 m v):=by
 show(qzu m v).run NN=_;simp only[qzu,qk,T.ix,Hzl,Ozv,qM,Oz4,dotV]
theorem Jzj (x:Int):(bzd x).o=some (max (-65536) (min x 65536)):=by
 show(ozj x).run NN=_;simp only[ozj,qk,Option.some.injEq];omega
set_option maxRecDepth 20000 in
theorem Jzi (a b:IM3):(yz9 a b).o=some (az1r a b):=by
 show(ozi a b).run NN=_;simp only[ozi,qk,T.ix,tz5,Czj,Jzj,qM,add0,az1r,rowV,dotV,lim1]
set_option maxRecDepth 20000 in
theorem Hzm (a b:IM3):(vze a b).o=some (az1r a b):=by
 show(mzo a b).run NN=_;simp only[mzo,qk,T.ix,Hzl,Ozv,qM,az1r,rowV,dotV,lim1]
theorem Qzm (k:Int)(a:az0):(Fz3 k a).o=some (Vz9 k a):=by
 show(wzl k a).run NN=_;simp only[wzl,qk,dz1,Kzd,Kze,Czk,kzh,qM,Vz9,of0];cases h:vV a
 ·rfl
 ·simp only[qP,qd,if_true];by_cases h0:k=0
  ·rw[czn h0,qc h0]
  ·rw[czo h0,qb h0];by_cases h1:k=1
   ·rw[czn h1,qc h1]
   ·rw[czo h1,qb h1];by_cases h2:k=2
    ·rw[czn h2,qc h2]
    ·rw[czo h2,qb h2];rfl
theorem Wzv (k:Int)(a:az0):(Mz2 k a).o=some (Vz9 k a):=by
 show(Ez2 k a).run NN=_;simp only[Ez2,qk,gzh,Nzr,Nzs,Ozw,Fzt,qM,Vz9];cases h:vV a
 ·rfl
 ·simp only[qP,qd,if_true];by_cases h0:k=0
  ·rw[czn h0,qc h0];rfl
  ·rw[czo h0,qb h0];by_cases h1:k=1
   ·rw[czn h1,qc h1];rfl
   ·rw[czo h1,qb h1];by_cases h2:k=2
    ·rw[czn h2,qc h2];rfl
    ·rw[czo h2,qb h2];rfl
theorem Izq:pose_still_C.o=some izv:=by
 show pose_still_T.run NN=_;simp only[pose_still_T,qk,tze,qM,Az1,of0,izv]
theorem nzv (v:IV3):(rzz v).o=some (Jz5 v):=by
 show(Az4 v).run NN=_;simp only[Az4,qk,Hzc,qM,Jz5]
theorem Az3:pose_Identity_C.o=some Uzr:=by
 show pose_Identity_T.run NN=_;simp only[pose_Identity_T,qk,Izq,nzv,qM,Jz5,Uzr]
theorem Wzm (k:Int)(a:az0):(Lzu k a).o=some ⟨Vz9 k a,izv⟩:=by
 show(Dzu k a).run NN=_;simp only[Dzu,qk,Qzm,Izq,qM]
theorem nzb (a b:bz2):(jz3 a b).o=some (Vzt a b):=by
 show(tzk a b).run NN=_;have h1:(sz0 a).o=(nzw a).run NN:=rfl;simp only[tzk,qk,h1,nzw,qM,Jzi];refine Eq.trans (congrArg (λo=>qU o _) (show(nzc _ _ _ _ _ _ _ _ _ _ _ _ _ _ _ _ _ _ _ _ _ _ _ _ _).o=(jz4 _ _ _ _ _ _ _ _ _ _ _ _ _ _ _ _ _ _ _ _ _ _ _ _ _).run NN from rfl)) ?_;simp only[jz4,qk,Czr,Izh,qM];rfl
theorem Uz9 (a:bz2)(v:IV3):(Izp a v).o=some (Tzx a v):=by
 show(Az2 a v).run NN=_;have h1:(sz0 a).o=(nzw a).run NN:=rfl;simp only[Az2,qk,h1,nzw,qM];refine Eq.trans (congrArg (λo=>qU o _) (show(nzc _ _ _ _ _ _ _ _ _ _ _ _ _ _ _ _ _ _ _ _ _ _ _ _ _).o=(jz4 _ _ _ _ _ _ _ _ _ _ _ _ _ _ _ _ _ _ _ _ _ _ _ _ _).run NN from rfl)) ?_;simp only[jz4,qk,Czr,Izh,qM];rfl
theorem Mz0:ref1_Rest_C.o=some Uzr:=by
 show ref1_Rest_T.run NN=_;simp only[ref1_Rest_T,qk,Mz3,qM];rfl
theorem Azo (v:IV3):(Azm v).o=some (Jz5 v):=by
 show(Azn v).run NN=_;simp only[Azn,qk,Mz3,qM,Jz5]
theorem Mz1 (k:Int)(a:az0):(Azp k a).o=some ⟨Vz9 k a,izv⟩:=by
 show(qzw k a).run NN=_;simp only[qzw,qk,Wzv,qM];rfl
theorem nze (a b:bz2):(tzw a b).o=some (Vzt a b):=by
 show(tzx a b).run NN=_;simp only[tzx,qk,Hzm,Azg,Fzs,qM,Vzt]
theorem Uzl (a:bz2)(v:IV3):(Izu a v).o=some (Tzx a v):=by
 show(Azh a v).run NN=_;simp only[Azh,qk,Azg,Fzs,qM,Tzx]
theorem Vzl (k:Int)(a:az0):(Kzh k a).o=some ⟨Vz9 k a,izv⟩:=by
 show(Dzk k a).run NN=_;simp only[Dzk,qk,Wzm,qM]
theorem Vzk (k:Int)(a:az0):(Kzg k a).o=some Uzr:=by
 show(Dzj k a).run NN=_;simp only[Dzj,qk,Az3,qM]
theorem Sz5 {k:Int}(a:az0)(h:k=4\/k=5\/k=6):(Iz6 (k-4) a).o=some (Jz5 (Jz6 k a)):=by
 show(yzz (k-4) a).run NN=_;simp only[yzz,qk,T.ix];rcases h with rfl|rfl|rfl
 ·simp only[show((4-4:Int)==0)=true from rfl,qe,az7,nzv];rfl
 ·simp only[show((5-4:Int)==0)=false from rfl,show((5-4:Int)==1)=true from rfl,qe,qd,az7,nzv];rfl
 ·simp only[show((6-4:Int)==0)=false from rfl,show((6-4:Int)==1)=false from rfl,show((6-4:Int)==2)=true from rfl,qe,qd,az7,nzv];rfl
theorem az02 (k a b c:Int){R:Type}:(bif k==a then some (.out (k==a))else bif k==b then some (.out (k==b))else some (.out (k==c)):Option (Step3 Unit Bool R))=some (.out (qx (k=a\/k=b\/k=c))):=by
 by_cases h1:k=a
 ·rw[czn h1];simp[h1]
 ·rw[czo h1];by_cases h2:k=b
  ·rw[czn h2];simp[h2]
  ·rw[czo h2];simp[h1,h2,Bool.beq_eq_decide_eq]
theorem mo0 (k:Int):(gz8 k).o=if k=1\/k=2\/k=3 then some (k-1)else none:=by
 show(gz9 k).run NN=_;simp only[gz9,qk,az02,az7];by_cases h:k=1\/k=2\/k=3
 ·rw[az6 h,qc h,w64 qa qa]
 ·rw[az5 h,qb h];cases qx (k=4\/k=5\/k=6)<;>rfl
theorem mo1 (k:Int)(h:¬ (k=1\/k=2\/k=3)):(gza k).o=if k=4\/k=5\/k=6 then some (k-4)else none:=by
 show(gzb k).run NN=_;simp only[gzb,qk,az02,az7];rw[az5 h];by_cases h:k=4\/k=5\/k=6
 ·rw[az6 h,qc h,w64 qa qa]
 ·rw[az5 h,qb h]
theorem mo2 (k:Int)(h:¬ (k=1\/k=2\/k=3))(h':¬ (k=4\/k=5\/k=6)):(jzz k).o=some 0:=by
 show(gzc k).run NN=_;simp only[gzc,qk,az02,az7];rw[az5 h,az5 h']
theorem Ezv (j:azz)(a:az0):(rzp j a).o=some (Czm j a):=by
 show(kzk j a).run NN=_;simp only[kzk,qk,tze,nzv,qM,mo0,Czm];by_cases h:j.Xm=1\/j.Xm=2\/j.Xm=3
 ·simp only[qc h,qW,qe,qM,Vzl,nzb]
 ·simp only[qb h,qX,qd,mo1 _ h];by_cases h':j.Xm=4\/j.Xm=5\/j.Xm=6
  ·simp only[qc h',qW,qe,qM,Sz5 a h',nzb]
  ·simp only[qb h',qX,qd,mo2 _ h h',qM,Vzk,nzb]
theorem azdm (k:Int)(a:az0){R:Type}(h:k=4\/k=5\/k=6):(bif qv.wrap (k-4)==0 then some (.out (a.Lo,a.Hi,0,0,0,0))else bif qv.wrap (k-4)==1 then some (.out (0,0,a.Lo,a.Hi,0,0))else
 bif qv.wrap (k-4)==2 then some (.out (0,0,0,0,a.Lo,a.Hi))else none:Option (Step3 Unit (Int×Int×Int×Int×Int×Int) R))=some (.out ((Jz6 k a).1.Lo,(Jz6 k a).1.Hi,(Jz6 k a).2.1.Lo,(Jz6 k a).2.1.Hi,(Jz6 k a).2.2.Lo,(Jz6 k a).2.2.Hi)):=by
 rw[w64 qa qa];rcases h with rfl|rfl|rfl<;>rfl
theorem Rz4 (j:azz)(a:az0):(Fzh j a).o=some (Czm j a):=by
 show(wzp j a).run NN=_;simp only[wzp,qk,T.ix,Mz0,qM,az02,az7,Czm];by_cases h:j.Xm=1\/j.Xm=2\/j.Xm=3
 ·simp only[az6 h,qc h,Mz1,qM,az7,sz8,Azo,nze];rw[w64 qa qa]
 ·simp only[az5 h,qb h];by_cases h':j.Xm=4\/j.Xm=5\/j.Xm=6
  ·simp only[az6 h',qc h',azdm _ _ h',az7,sz8,Azo,nze,qM]
  ·simp only[az5 h',qb h',az7,sz8,Azo,nze,qM]
theorem ezy {R:Type}{f:Int->Option (Step3 Int U0 R)}{k:U0->Option R}(g:Nat->Option R)(n:Nat)(hn:n<4294967296)
 (hs:∀j,j<n->f (j:Int)=match g j with|some r=>some (.fin r)|none=>some (.next ((j+1:Nat):Int))) (he:f (n:Int)=some (.out .u)):
 andK (iter f NN 0) k=match scan g n 0 with|some r=>some r|none=>k .u:=hzy (λj=>(j:Int)) g .u n rfl hn hs he
theorem wn {n:Nat}(h:n<4294967296):qv.wrap ((n:Int)+1)=((n+1:Nat):Int):=w64n qa
def sw {R:Type}(b:Bool)(r:R):Option R:=bif b then some r else none
theorem dzr {σ τ R:Type}{b:Bool}{r:R}{x:σ}:(bif b then some (.fin r)else some (.next x):Option (Step3 σ τ R))=match sw b r with|some r=>some (.fin r)|none=>some (.next x):=by cases b<;>rfl
def czh (g:Nat->Bool)(n:Nat):Bool:=qx (∀i,i<n->g i=false)
theorem dz9 {R:Type}{g:Nat->Bool}{n:Nat}{r:R}:scan (λi=>sw (g i) r) n 0=sw (!czh g n) r:=by
 cases h:scan (λi=>sw (g i) r) n 0 with
 |none=>
  rw[dze]at h;have:czh g n=true:=qg λi hi=>by
   have:=h i (qY _) qa;unfold sw at this;cases hg:g i with
   |true=>rw[hg]at this;cases this
   |false=>rfl
  rw[this];rfl
 |some x=>
  obtain⟨j,h1,h2,h3,-⟩:=fze _ _ h;have:czh g n=false:=qh λhn=>by
   have:=hn j qa;simp only[this,sw,qd]at h3;cases h3
  rw[this];unfold sw at h3⊢;cases hg:g j with
  |true=>rw[hg]at h3;simpa using h3.symm
  |false=>rw[hg]at h3;cases h3
theorem noneB_iff {g:Nat->Bool}{n:Nat}:czh g n=true↔∀i,i<n->g i=false:=by simp[czh]
theorem az8c (s:ByteArray)(i:Nat):s.get! i=s.data.getD i 0:=by
 cases s with|mk d=>simp only[ByteArray.get!];rw[getElem!_def,Array.getD_eq_getD_getElem?];cases d[i]?<;>rfl
def Jza (s:ByteArray)(i:Nat):Nat:=(s.data.getD i 0).toNat
theorem az87 {s:ByteArray}{i:Nat}(h:Jza s i<128):Utf8.decode s i=(Jza s i,1):=by
 rw[Lib.decode_at,az8c];exact qc h
theorem azcc {s:ByteArray}{i:Nat}(h:128<=Jza s i):128<=(Utf8.decode s i).1:=by
 rw[Lib.decode_at,az8c];unfold Lib.decodeN;rw[qb (by unfold Jza at h;omega)]
 repeat' split
 all_goals(simp only;omega)
def badN (s:ByteArray)(i:Nat):Bool:=qx (¬ (97<=Jza s i/\Jza s i<=122)/\(i=0\/(Jza s i≠95/\¬ (48<=Jza s i/\Jza s i<=57))))
def Lzg (s:ByteArray):Bool:= !(qx (s.size=0)||(qx (16<s.size)||(s==⟨#[119,111,114,108,100]⟩)))&&czh (badN s) s.size
theorem Wzx (s:ByteArray):(Mz7 s).o=some (Lzg s):=by
 show(Ez6 s).run NN=_;simp only[Ez6,qk,bzf,az7,Lzg,ez1];have e1:qx ((s.size:Int)<1)=qx (s.size=0):=by congr 1;apply propext;omega
 have e2:qx ((s.size:Int)>16)=qx (16<s.size):=by congr 1;apply propext;omega
 rw[e1,e2];cases h:(qx (s.size=0)||(qx (16<s.size)||(s==⟨#[119,111,114,108,100]⟩)))
 ·simp only[qq,qi]at h;rw[qd];refine(ezy (λi=>sw (badN s i) false) s.size qa (λj hj=>?_) ?_).trans ?_
  ·rw[az6 qa,<-dzr,wn qa];simp only[qH,aza (show 0<=(j:Int)/\(j:Int)<(s.size:Int) from qa),bzf,az7];refine congrArg (λb=>bif b then some (Step3.fin false)else some (Step3.next ((j+1:Nat):Int))) ?_;rw[qZ];simp only[ez1,pz1,badN,qn,wc,wd,we,qq,qf,qi,qj,bne_iff_ne,ne_eq];unfold Jza;omega
  ·rw[az5 qa]
  ·rw[dz9];cases czh (badN s) s.size<;>rfl
 ·rfl
theorem Jzv (a:Int):(yzp a).o=some (qx (97<=a)&&qx (a<=122)):=by
 show(pz0 a).run NN=_;simp only[pz0,qk,dzv,pz1]
theorem Mzq (a:Int):(Bzh a).o=some (qx (48<=a)&&qx (a<=57)):=by
 show(rzf a).run NN=_;simp only[rzf,qk,dzv,pz1]
theorem Vz8 (s:ByteArray):(Jz8 s).o=some (Lzg s):=by
 show(Bzg s).run NN=_;simp only[Bzg,qk,bzf,az7,Lzg,ez1];have e1:((s.size:Int)==0)=qx (s.size=0):=by rw[qZ];simp
 have e2:qx ((s.size:Int)>16)=qx (16<s.size):=by congr 1;apply propext;omega
 rw[e1,e2];cases h:(qx (s.size=0)||(qx (16<s.size)||(s==⟨#[119,111,114,108,100]⟩)))
 ·simp only[qq,qi]at h;rw[qd];refine(hzy (λj=>j) (λi=>sw (badN s i) false) .u s.size rfl (show s.size<4294967296 from qa) (λj hj=>?_) ?_).trans ?_
  ·rw[az6 hj];simp only[Jzv,Mzq,qM,bzf,az7]
   have key:(bif !(qx (97<=((Utf8.decode s j).1:Int))&&qx (((Utf8.decode s j).1:Int)<=122))then bif ((j:Int)==0)then true else
    bif !(qx (48<=((Utf8.decode s j).1:Int))&&qx (((Utf8.decode s j).1:Int)<=57))then((Utf8.decode s j).1:Int) !=95 else false else false)=badN s j:=by
    by_cases hb:Jza s j<128
    ·rw[az87 hb,qZ];simp only[ez1,pz1,badN,qn,wc,wd,we,qq,qf,qi,qj,bne_iff_ne,ne_eq];omega
    ·have:=azcc (s:=s) (i:=j) qa;rw[qZ];simp only[ez1,pz1,badN,qn,wc,wd,we,qq,qf,qi,qj,bne_iff_ne,ne_eq];omega
   rw[key];cases hbad:badN s j
   ·have:Jza s j<128:=by
     simp only[badN,qi]at hbad;omega
    rw[az87 this];rfl
   ·rfl
  ·rw[az5 qa]
  ·rw[dz9];cases czh (badN s) s.size<;>rfl
 ·rfl
def Cz5 (l:List azz)(nm:ByteArray)(i:Nat):Bool:=(l.getD i qw).XA==nm
theorem Uzs (r:azo)(nm:ByteArray)(h:r.Xb.length<4294967296):(Jz3 r nm).o=some (match scan (λi=>sw (Cz5 r.Xb nm i) (i:Int)) r.Xb.length 0 with|some x=>x|none=> -1):=by
 show(Bz5 r nm).run NN=_;simp only[Bz5,qk];refine(ezy (λi=>sw (Cz5 r.Xb nm i) (i:Int)) r.Xb.length h (λj hj=>?_) ?_).trans ?_
 ·rw[az6 qa,aza qa,wn qa,qH,<-dzr];rfl
 ·rw[az5 qa]
 ·cases scan (λi=>sw (Cz5 r.Xb nm i) (i:Int)) r.Xb.length 0<;>rfl
theorem az99 (b:ByteArray):(b==b)=true:=by
 obtain⟨d⟩:=b;show(d==d)=true;exact beq_self_eq_true d
theorem az9r {l:List azz}{i:Nat}(hi:i<l.length):((match scan (λk=>sw (Cz5 l (l.getD i qw).XA k) (k:Int)) l.length 0 with|some x=>x|none=> -1) !=(i:Int))= !czh (Cz5 l (l.getD i qw).XA) i:=by
 have hself:Cz5 l (l.getD i qw).XA i=true:=az99 _;cases h:scan (λk=>sw (Cz5 l (l.getD i qw).XA k) (k:Int)) l.length 0 with
 |none=>
  rw[dze]at h;have:=h i (qY _) qa;simp only[hself,sw,qe]at this;cases this
 |some x=>
  obtain⟨j,h1,h2,h3,h4⟩:=fze _ _ h;have hj:Cz5 l (l.getD i qw).XA j=true/\x=(j:Int):=by
   cases hb:Cz5 l (l.getD i qw).XA j with
   |false=>simp only[hb,sw,qd]at h3;cases h3
   |true=>simp only[hb,sw,qe,Option.some.injEq]at h3;exact⟨rfl,h3.symm⟩
  have hji:j<=i:=by
   by_cases e:j<=i
   ·exact e
   ·have:=h4 i (qY _) qa;simp only[hself,sw,qe]at this;cases this
  simp only[hj.2];rw[qZ];rw[bne_iff_ne,wd,<-wg];constructor
  ·intro hne hall;have:=noneB_iff.1 hall j qa;rw[hj.1]at this;cases this
  ·intro hn e;apply hn;rw[noneB_iff];intro k hk;have:=h4 k (qY _) qa;cases hb:Cz5 l (l.getD i qw).XA k with
   |false=>rfl
   |true=>simp only[hb,sw,qe]at this;cases this
def hze (v:Int×Int×Int)(m:Int):Bool:=qx (-m<=v.1)&&(qx (v.1<=m)&&(qx (-m<=v.2.1)&&(qx (v.2.1<=m)&&(qx (-m<=v.2.2)&&qx (v.2.2<=m)))))
theorem nearV_iff {v:Int×Int×Int}{m:Int}:hze v m=true↔(-m<=v.1/\v.1<=m)/\(-m<=v.2.1/\v.2.1<=m)/\(-m<=v.2.2/\v.2.2<=m):=by
 simp only[hze,qn,qf,and_assoc]
theorem gzq (v:Int×Int×Int){m:Int}(h0:0<=m)(h1:m<=9223372036854775807):(fzu v m).o=some (hze v m):=by
 show(Ez7 v m).run NN=_;simp only[Ez7,qk,T.ix,bzf,az7];simp only[dzv];rw[w64 (x:=0-m) qa qa];congr 1;rw[qZ,nearV_iff];simp only[ez1]
 cases h1:qx (v.1<0-m)||qx (v.1>m)<;>cases h2:qx (v.2.1<0-m)||qx (v.2.1>m)<;>cases h3:qx (v.2.2<0-m)||qx (v.2.2>m)<;>
  simp only[wc,qq,qf,qi]at h1 h2 h3<;>simp only[qe,qd,true_iff,false_iff,reduceCtorEq]<;>omega
def bey (x:Int):Bool:=qx (x< -4194304)||qx (x>4194304)
theorem Dza (v:Int×Int×Int):(uzg v).o=some (!hze v 4194304):=by
 show(uzh v).run NN=_;simp only[uzh,qk,bzf,az7,ez1];refine(ezy (λi=>sw (bey (([v.1,v.2.1,v.2.2]:List Int).getD i 0)) true) 3 (by decide) (λj hj=>?_) ?_).trans ?_
 ·rw[az6 qa,aza qa,wn qa,qH,<-dzr];rfl
 ·rw[az5 qa]
 ·rw[dz9];have:czh (λi=>bey (([v.1,v.2.1,v.2.2]:List Int).getD i 0)) 3=hze v 4194304:=by
   rw[qZ,noneB_iff,nearV_iff];constructor
   ·intro h;have a:=h 0 (by decide);have b:=h 1 (by decide);have c:=h 2 (by decide);simp only[bey,wh,wi,qq,qi]at a b c;omega
   ·intro h i hi
    match i,hi with
    |0,_=>simp only[bey,wh,qq,qi];omega
    |1,_=>simp only[bey,wh,wi,qq,qi];omega
    |2,_=>simp only[bey,wh,wi,qq,qi];omega
  rw[this];cases hze v 4194304<;>rfl
def fzg (k:Int):Int:=if k=0 then 0 else if k=1\/k=2\/k=3 then 524288 else 4194304
theorem Rzj {k:Int}(h0:0<=k)(h1:k<=6):(Gz3 k).o=some (fzg k):=by
 show(xzn k).run NN=_;simp only[xzn,qk,az02,az7,fzg];by_cases h:k=1\/k=2\/k=3
 ·rw[az6 h,qb qa,qc h]
 ·rw[az5 h];by_cases h':k=4\/k=5\/k=6
  ·rw[az6 h',qb qa,qb h]
  ·rw[az5 h',qc qa]
theorem Uzp (k:Int):(Jz1 k).o=some (fzg k):=by
 show(Bz0 k).run NN=_;simp only[Bz0,qk,az02,az7,fzg];by_cases h0:k=0
 ·rw[czn h0,qc h0]
 ·rw[czo h0,qb h0];by_cases h:k=1\/k=2\/k=3
  ·rw[az6 h,qc h]
  ·rw[az5 h,qb h]
def betV (x a b:Int):Bool:=qx (a<=x)&&qx (x<=b)
theorem Gz2 (x m:Int):(izi x m).o=some (betV x 1 m):=by
 show(xzm x m).run NN=_;simp only[xzm,qk,dzv,pz1,betV]
theorem uze (x a b:Int):(fzv x a b).o=some (betV x a b):=by
 show(uzd x a b).run NN=_;simp only[uzd,qk,dzv,pz1,betV]
def Vzu (j:azz):Bool:=betV j.XB 1 1024&&(betV j.XF 1 1048576&&(betV j.XG 1 1048576&&betV j.XE 1 1099511627776))
def vz1 (l:List azz)(i:Nat):Int:=
 let j:=l.getD i qw
 if !Lzg j.XA|| !czh (Cz5 l j.XA) i then 802 else if qx (j.Xm<0)||qx (j.Xm>6)then 803 else if qx (j.Xt< -1)||qx (j.Xt>=(i:Int))then 804 else if !hze j.Xw 4194304 then 805 else
 if qx (j.Lo>j.Hi)||(qx (j.Lo< -fzg j.Xm)||qx (j.Hi>fzg j.Xm))then 806 else if !Vzu j then 807 else 0
theorem azc5:∀a b c d:Bool,(bif !a||(!b||(!c|| !d))then some (807:Int)else some 0)=some (if(!(a&&(b&&(c&&d))))=true then 807 else 0):=by decide
theorem Fzf (k:Int):0<=fzg k/\fzg k<=4194304:=by unfold fzg;split<;>(try split)<;>omega
theorem Uz0 (k:Int):qv.wrap (0-fzg k)= -fzg k:=by
 have:=Fzf k;rw[w64 qa qa];omega
theorem Gz1 (r:azo){i:Nat}(hi:i<r.Xb.length)(h:r.Xb.length<4294967296):(szc r (i:Int)).o=some (vz1 r.Xb i):=by
 show(lzn r (i:Int)).run NN=_;simp only[lzn,qk];rw[aza qa,qH];simp only[Vz8,Uzs r _ h,Dza,Gz2,qM,bzf,az7,vz1];rw[az9r hi];generalize r.Xb.getD i qw=j;cases h1:Lzg j.XA
 ·rfl
 ·cases h2:czh (Cz5 r.Xb j.XA) i
  ·rfl
  ·simp only[qP,qd,wj,qb wk];by_cases h3:j.Xm<0
   ·rw[qg h3];rfl
   ·by_cases h4:j.Xm>6
    ·rw[qg h4,qh h3];rfl
    ·simp only[qh h3,qh h4,qd,wj,qb wk,Rzj (show 0<=j.Xm from qa) qa,qM,Uz0,bzf,az7,ez1];cases qx (j.Xt< -1)||qx (j.Xt>=(i:Int))
     ·cases hze j.Xw 4194304
      ·rfl
      ·simp only[qP,qd,qb wk];cases qx (j.Lo>j.Hi)||(qx (j.Lo< -fzg j.Xm)||qx (j.Hi>fzg j.Xm))
       ·simp only[qd,qb wk,Vzu];exact azc5 _ _ _ _
       ·rfl
     ·rfl
theorem Hzv (l:List azz){i:Nat}(hi:i<l.length)(h:l.length<4294967296):(vzf l (i:Int)).o=some (vz1 l i):=by
 show(mzr l (i:Int)).run NN=_;simp only[mzr,qk];rw[aza qa,qH];simp only[Wzx,qM,vz1];cases h1:Lzg (l.getD i qw).XA
 ·rfl
 ·simp only[qP,qd,Bool.false_or];refine(ezy (λk=>sw (Cz5 l (l.getD i qw).XA k) 802) i qa (λj hj=>?_) ?_).trans ?_
  ·rw[az6 qa,aza qa,wn qa,qH,<-dzr];rfl
  ·rw[az5 qa]
  ·rw[dz9];generalize l.getD i qw=j;cases h2:czh (Cz5 l j.XA) i
   ·rfl
   ·simp only[qP,sw,qd,qb wk,gzq _ (show(0:Int)<=4194304 by decide) (by decide),Uzp,uze,qM,Uz0,bzf,az7,ez1];cases qx (j.Xm<0)||qx (j.Xm>6)
    ·cases qx (j.Xt< -1)||qx (j.Xt>=(i:Int))
     ·cases hze j.Xw 4194304
      ·rfl
      ·simp only[qP,qd,qb wk];cases qx (j.Lo>j.Hi)||(qx (j.Lo< -fzg j.Xm)||qx (j.Hi>fzg j.Xm))
       ·simp only[qd,qb wk,Vzu];exact azc5 _ _ _ _
       ·rfl
     ·rfl
    ·rfl
def tab {α:Type}(f:Nat->α)(n:Nat):List α:=(List.range n).map f
theorem gz0 {α:Type}(f:Nat->α)(n:Nat):tab f (n+1)=tab f n++[f n]:=by simp[tab,wm]
theorem cz4 {α:Type}(f:Nat->α)(n:Nat):(tab f n).length=n:=by simp[tab]
theorem iz6 {α:Type}{f:Nat->α}{n i:Nat}{d:α}(h:i<n):(tab f n).getD i d=f i:=by simp[tab,wo,h]
def half {α:Type}(f:Nat->α)(z:α)(n j:Nat):List α:=tab f j++qu (n-j) z
theorem rzn {α:Type}{f:Nat->α}{z:α}{n j:Nat}(h:j<=n):(half f z n j).length=n:=by simp[half,cz4];omega
theorem nz5 {α:Type}{f:Nat->α}{z:α}{n j:Nat}(h:j<n):(half f z n j).set j (f j)=half f z n (j+1):=by
 unfold half;rw[List.set_append_right _ _ (by rw[cz4];omega),cz4,Nat.sub_self];obtain⟨m,hm⟩:∃m,n-j=m+1:=⟨n-j-1,qa⟩;rw[hm,List.replicate_succ,List.set_cons_zero,gz0,show n- (j+1)=m from qa];simp
theorem qz9 {α:Type}(f:Nat->α)(z:α)(n:Nat):half f z n 0=qu n z:=by simp[half,tab]
theorem wzc {α:Type}(f:Nat->α)(z:α)(n:Nat):half f z n n=tab f n:=by simp[half]
def Nzd (n:Nat)(m:cz6):Bool:=(qx (0<=m.Xp)&&qx (m.Xp<(n:Int)))&&(betV m.XH 1 65536&&hze m.XD 4194304)
theorem Hzw (r:azo)(m:cz6):(vzh r m).o=some (Nzd r.Xb.length m):=by
 show(mzu r m).run NN=_;simp only[mzu,qk,Gz2,Dza,qM,Nzd];cases qx (0<=m.Xp)<;>cases qx (m.Xp<(r.Xb.length:Int))<;>cases betV m.XH 1 65536<;>cases hze m.XD 4194304<;>rfl
def badM (n:Nat)(l:List cz6)(i:Nat):Bool:= !Nzd n (l.getD i qw)
theorem az9z (l:List cz6)(js:List azz)(ms:List cz6)(h:l.length<4294967296):(fz7 l js ms).o=some (match scan (λi=>sw (badM js.length l i) (i:Int)) l.length 0 with|some x=>x|none=> -1,js,ms):=by
 show(dzi l js ms).run NN=_;simp only[dzi,qk];have e1:∀m,(Bz4 m js ms).o=some (!Nzd js.length m,js,ms):=λm=>by
  show(rz4 m js ms).run NN=_;simp only[rz4,qk,Hzw,qM]
 refine(hzy (λj=>(js,ms,(j:Int))) (λi=>sw (badM js.length l i) ((i:Int),js,ms)) (js,ms) l.length rfl h (λj hj=>?_) ?_).trans ?_
 ·rw[az6 (by simpa using hj),aza ⟨by simp,by simpa using hj⟩];simp only[e1,qM,qH];rw[wn qa];unfold badM;cases Nzd js.length (l.getD j qw)<;>rfl
 ·rw[az5 (by simp)]
 ·have:∀n i,scan (λi=>sw (badM js.length l i) ((i:Int),js,ms)) n i=(scan (λi=>sw (badM js.length l i) (i:Int)) n i).map λx=>(x,js,ms):=by
   intro n;induction n with
   |zero=>intro i;rfl
   |succ n ih=>
    intro i;simp only[scan];cases badM js.length l i with
    |true=>rfl
    |false=>exact ih (i+1)
  rw[this];cases scan (λi=>sw (badM js.length l i) (i:Int)) l.length 0<;>rfl
theorem Rzn {g:Nat->Bool}{n:Nat}:qx ((match scan (λi=>sw (g i) (i:Int)) n 0 with|some x=>x|none=> -1)>=0)= !czh g n:=by
 cases h:scan (λi=>sw (g i) (i:Int)) n 0 with
 |none=>
  rw[dze]at h;have:czh g n=true:=noneB_iff.2 λi hi=>by
   have:=h i (qY _) qa;cases hg:g i with
   |true=>rw[hg]at this;cases this
   |false=>rfl
  rw[this];rfl
 |some x=>
  obtain⟨j,h1,h2,h3,-⟩:=fze _ _ h;cases hg:g j with
  |false=>rw[hg]at h3;cases h3
  |true=>
   rw[hg]at h3;simp only[sw,qe,Option.some.injEq]at h3;have:czh g n=false:=by
    cases hn:czh g n with
    |false=>rfl
    |true=>have:=noneB_iff.1 hn j qa;rw[hg]at this;cases this
   rw[this,<-h3];simp
theorem az9d (l:List cz6)(js:List azz)(ms:List cz6)(h:l.length<4294967296):(ezm l js ms).o=some (!czh (badM js.length l) l.length,js,ms):=by
 show(czz l js ms).run NN=_;simp only[czz,qk,az9z l js ms h,qM];rw[Rzn]
def errJ (l:List azz)(i:Nat):Option Int:=sw (vz1 l i !=0) (vz1 l i)
def dza (r:azo):Int:=
 if r.Xb.length=0\/10<r.Xb.length then 801 else match scan (errJ r.Xb) r.Xb.length 0 with
  |some e=>e
  |none=>if 32<r.Xh.length\/czh (badM r.Xb.length r.Xh) r.Xh.length=false then 808 else 0
theorem Gz0 (r:azo):(xzk r).o=some (dza r):=by
 show(xzl r).run NN=_;simp only[xzl,qk,bzf,az7,dza];by_cases h:r.Xb.length=0\/10<r.Xb.length
 ·rw[qc h];rcases h with h|h
  ·rw[czn qa];rfl
  ·rw[czo qa,az6 qa]
 ·rw[qb h,czo qa,az5 qa];refine(ezy (errJ r.Xb) r.Xb.length qa (λj hj=>?_) ?_).trans ?_
  ·rw[az6 qa];simp only[Gz1 ⟨r.Xb,r.Xh⟩ hj (show r.Xb.length<4294967296 from qa),qM];rw[wn qa,dzr];rfl
  ·rw[az5 qa]
  ·cases scan (errJ r.Xb) r.Xb.length 0 with
   |some e=>rfl
   |none=>
    simp only;by_cases hm:32<r.Xh.length
    ·rw[az6 qa,qc (Or.inl hm)];rfl
    ·rw[az5 qa,az9d _ _ _ qa];cases hn:czh (badM r.Xb.length r.Xh) r.Xh.length
     ·rw[qc (Or.inr rfl)];rfl
     ·rw[qb (by simp;omega)];rfl
theorem dz4 (r:azo):(czs r).o=some (dza r):=by
 show(mzp r).run NN=_;simp only[mzp,qk,bzf,az7,dza];by_cases h:r.Xb.length=0\/10<r.Xb.length
 ·rw[qc h];rcases h with h|h
  ·rw[az6 qa];rfl
  ·rw[az5 qa,az6 qa]
 ·rw[qb h,az5 qa,az5 qa];refine(ezy (errJ r.Xb) r.Xb.length qa (λj hj=>?_) ?_).trans ?_
  ·rw[az6 qa];simp only[Hzv r.Xb hj (show r.Xb.length<4294967296 from qa),qM];rw[wn qa,dzr];rfl
  ·rw[az5 qa]
  ·cases scan (errJ r.Xb) r.Xb.length 0 with
   |some e=>rfl
   |none=>
    simp only;by_cases hm:32<r.Xh.length
    ·rw[az6 qa,qc (Or.inl hm)]
    ·rw[az5 qa];refine(ezy (λi=>sw (badM r.Xb.length r.Xh i) 808) r.Xh.length qa (λj hj=>?_) ?_).trans ?_
     ·rw[az6 qa,aza qa,wn qa,qH,<-dzr];simp only[uze,gzq _ (show(0:Int)<=4194304 by decide) (by decide),qM,bzf,az7];refine congrArg (λb=>bif b then some (Step3.fin 808)else some (Step3.next ((j+1:Nat):Int))) ?_;unfold badM Nzd;generalize r.Xh.getD j qw=m;have e1:qx (m.Xp<0)= !qx (0<=m.Xp):=by rw[qZ];simp
      have e2:qx (m.Xp>=(r.Xb.length:Int))= !qx (m.Xp<(r.Xb.length:Int)):=by rw[qZ];simp
      rw[e1,e2];cases qx (0<=m.Xp)<;>cases qx (m.Xp<(r.Xb.length:Int))<;>cases betV m.XH 1 65536<;>cases hze m.XD 4194304<;>rfl
     ·rw[az5 qa]
     ·rw[dz9];cases hn:czh (badM r.Xb.length r.Xh) r.Xh.length
      ·rw[qc (Or.inr rfl)];rfl
      ·rw[qb (by simp;omega)];rfl
theorem fzd {r:azo}(h:dza r=0):1<=r.Xb.length/\r.Xb.length<=10/\∀i,i<r.Xb.length->vz1 r.Xb i=0:=by
 unfold dza at h;split at h
 ·cases h
 ·refine⟨qa,qa,λi hi=>?_⟩;split at h
  ·rename_i e he;obtain⟨j,-,-,h3,-⟩:=fze _ _ he;unfold errJ sw at h3;cases hb:vz1 r.Xb j !=0 with
   |false=>rw[hb]at h3;cases h3
   |true=>
    rw[hb]at h3;simp only[qe,Option.some.injEq]at h3;simp only[bne_iff_ne]at hb;rw[h3]at hb;exact absurd h hb
  ·rename_i he;have:=(dze _ _).1 he i (qY _) qa;unfold errJ sw at this;cases hb:vz1 r.Xb i !=0 with
   |false=>simpa using hb
   |true=>rw[hb]at this;cases this
def kzn (n:Nat)(k:Int):Bool:=qx (-1<=k)&&qx (k<(n:Int))
theorem Dzb (s:azd)(k:Int):(nzh s k).o=some (kzn s.Xf.Xb.length k):=by
 show(uzi s k).run NN=_;simp only[uzi,qk,dzv,pz1,kzn]
theorem lzk (r:azo)(k:Int):(ezx r k).o=some (kzn r.Xb.length k):=by
 show(xzh r k).run NN=_;simp only[xzh,qk,dzv,pz1,kzn,ge_iff_le]
def farP (l:List (Int×Int×Int))(i:Nat):Bool:= !hze (l.getD i qw) 4194304
def yzn (n:Nat)(x:bz7):Int:=
 if(kzn n x.Xp&&betV x.Xs 1 1048576)=false\/x.Xc.length=0\/8<x.Xc.length then 902 else if czh (farP x.Xc) x.Xc.length then 0 else 805
theorem far3 (v:Int×Int×Int):czh (λi=>bey (([v.1,v.2.1,v.2.2]:List Int).getD i 0)) 3=hze v 4194304:=by
 rw[qZ,noneB_iff,nearV_iff];constructor
 ·intro h;have a:=h 0 (by decide);have b:=h 1 (by decide);have c:=h 2 (by decide);simp only[bey,wh,wi,qq,qi]at a b c;omega
 ·intro h i hi
  match i,hi with
  |0,_=>simp only[bey,wh,qq,qi];omega
  |1,_=>simp only[bey,wh,wi,qq,qi];omega
  |2,_=>simp only[bey,wh,wi,qq,qi];omega
theorem Gz6 (s:azd)(x:bz7):(szd s x).o=some (yzn s.Xf.Xb.length x):=by
 show(lzp s x).run NN=_;simp only[lzp,qk,Dzb,qM,bzf,az7,yzn];cases hl:kzn s.Xf.Xb.length x.Xp
 ·rfl
 ·simp only[qP,qd,qS];by_cases h1:x.Xs<1
  ·rw[az6 h1,qc];· rfl
   simp[betV];omega
  ·rw[az5 h1];by_cases h2:x.Xs>1048576
   ·rw[az6 h2,qc];· rfl
    simp[betV];omega
   ·rw[az5 h2];by_cases h3:x.Xc.length=0
    ·rw[az6 qa,qc (Or.inr (Or.inl h3))];rfl
    ·rw[az5 qa];by_cases h4:8<x.Xc.length
     ·rw[az6 qa,qc (Or.inr (Or.inr h4))]
     ·have hb:betV x.Xs 1 1048576=true:=by simp[betV];omega
      rw[az5 qa,hb,qb (λh5=>by rcases h5 with h5|h5|h5;· cases h5
                               ·omega
                               ·omega)]
      refine(ezy (λi=>sw (farP x.Xc i) 805) x.Xc.length qa (λj hj=>?_) ?_).trans ?_
      ·rw[az6 qa,aza qa,qH,wn qa];refine(ezy (λi=>sw (bey (([(x.Xc.getD j qw).1,(x.Xc.getD j qw).2.1,(x.Xc.getD j qw).2.2]:List Int).getD i 0)) (Step3.fin 805)) 3 (by decide) (λk hk=>?_) ?_).trans ?_
       ·rw[az6 qa,aza qa,wn qa,qH,<-dzr];simp only[ez1];rfl
       ·rw[az5 qa]
       ·rw[dz9,far3];unfold farP;cases hze (x.Xc.getD j qw) 4194304<;>rfl
      ·rw[az5 qa]
      ·rw[dz9];cases czh (farP x.Xc) x.Xc.length<;>rfl
def errS (n:Nat)(l:List bz7)(i:Nat):Option Int:=sw (yzn n (l.getD i qw) !=0) (yzn n (l.getD i qw))
def badK (n:Nat)(l:List gz3)(i:Nat):Bool:= !(kzn n (l.getD i qw).A&&kzn n (l.getD i qw).B)
def czi (s:azd):Int:=
 if dza s.Xf≠0 then dza s.Xf else if 24<s.Xd.length then 901 else match scan (errS s.Xf.Xb.length s.Xd) s.Xd.length 0 with
  |some e=>e
  |none=>if 64<s.Xj.length then 903 else if czh (badK s.Xf.Xb.length s.Xj) s.Xj.length then 0 else 903
theorem gzr (s:azd):(ezz s).o=some (czi s):=by
 show(xzo s).run NN=_;simp only[xzo,qk,Gz0,qM,czi];by_cases h:dza s.Xf=0
 ·rw[bzb h,qb (by simpa using h)];by_cases h1:24<s.Xd.length
  ·rw[az6 qa,qc h1]
  ·rw[az5 qa,qb h1];refine(ezy (errS s.Xf.Xb.length s.Xd) s.Xd.length qa (λj hj=>?_) ?_).trans ?_
   ·rw[az6 qa,aza qa,wn qa,qH];simp only[Gz6,qM];rw[dzr];rfl
   ·rw[az5 qa]
   ·cases scan (errS s.Xf.Xb.length s.Xd) s.Xd.length 0 with
    |some e=>rfl
    |none=>
     simp only;by_cases h2:64<s.Xj.length
     ·rw[az6 qa,qc h2]
     ·rw[az5 qa,qb h2];refine(ezy (λi=>sw (badK s.Xf.Xb.length s.Xj i) 903) s.Xj.length qa (λj hj=>?_) ?_).trans ?_
      ·rw[az6 qa,aza qa,wn qa,qH,<-dzr];simp only[Dzb,qM,bzf,az7,badK];cases kzn s.Xf.Xb.length (s.Xj.getD j qw).A<;>cases kzn s.Xf.Xb.length (s.Xj.getD j qw).B<;>rfl
      ·rw[az5 qa]
      ·rw[dz9];cases czh (badK s.Xf.Xb.length s.Xj) s.Xj.length<;>rfl
 ·rw[bzq h,qc h]
theorem eza (s:azd):(ez9 s).o=some (czi s):=by
 show(mzq s).run NN=_;simp only[mzq,qk,dz4,qM,czi];by_cases h:dza s.Xf=0
 ·rw[bzb h,qb (by simpa using h)];by_cases h1:24<s.Xd.length
  ·rw[az6 qa,qc h1]
  ·rw[az5 qa,qb h1];refine(ezy (errS s.Xf.Xb.length s.Xd) s.Xd.length qa (λj hj=>?_) ?_).trans ?_
   ·rw[az6 qa,aza qa,wn qa,qH];unfold errS;generalize s.Xd.getD j qw=x;simp only[lzk,uze,qM,bzf,az7,yzn];cases hl:kzn s.Xf.Xb.length x.Xp
    ·rfl
    ·cases hr:betV x.Xs 1 1048576
     ·rfl
     ·simp only[qP,qd,qT];by_cases h3:x.Xc.length=0
      ·rw[az6 qa,qc (Or.inr (Or.inl h3))];rfl
      ·rw[az5 qa];by_cases h4:8<x.Xc.length
       ·rw[az6 qa,qc (Or.inr (Or.inr h4))];rfl
       ·rw[az5 qa,qb (λh5=>by rcases h5 with h5|h5|h5;· cases h5
                              ·omega
                              ·omega)]
        refine(ezy (λi=>sw (farP x.Xc i) (Step3.fin 805)) x.Xc.length qa (λk hk=>?_) ?_).trans ?_
        ·rw[az6 qa,aza qa,wn qa,qH,<-dzr];simp only[gzq _ (show(0:Int)<=4194304 by decide) (by decide),qM];rfl
        ·rw[az5 qa]
        ·rw[dz9];cases czh (farP x.Xc) x.Xc.length<;>rfl
   ·rw[az5 qa]
   ·cases scan (errS s.Xf.Xb.length s.Xd) s.Xd.length 0 with
    |some e=>rfl
    |none=>
     simp only;by_cases h2:64<s.Xj.length
     ·rw[az6 qa,qc h2]
     ·rw[az5 qa,qb h2];refine(ezy (λi=>sw (badK s.Xf.Xb.length s.Xj i) 903) s.Xj.length qa (λj hj=>?_) ?_).trans ?_
      ·rw[az6 qa,wn qa,<-dzr];simp only[qH,aza (show 0<=(j:Int)/\(j:Int)<(s.Xj.length:Int) from qa),lzk,qM,bzf,az7,badK];cases kzn s.Xf.Xb.length (s.Xj.getD j qw).A<;>cases kzn s.Xf.Xb.length (s.Xj.getD j qw).B<;>rfl
      ·rw[az5 qa]
      ·rw[dz9];cases czh (badK s.Xf.Xb.length s.Xj) s.Xj.length<;>rfl
 ·rw[bzq h,qc h]
def outJ (l:List azz)(c:List Int)(i:Nat):Bool:=qx (c.getD i qw<(l.getD i qw).Lo)||qx (c.getD i qw>(l.getD i qw).Hi)
def bz8 (r:azo)(c:List Int):Bool:=qx (dza r=0)&&(qx (c.length=r.Xb.length)&&czh (outJ r.Xb c) c.length)
theorem Nz4 (l:List azz)(c:List Int)(h:l.length<4294967296):(gzg l c).o=some (qx (c.length=l.length)&&czh (outJ l c) c.length):=by
 show(ezg l c).run NN=_;simp only[ezg,qk];have e1:∀j x,(uzt j x).o=some (qx (j.Lo<=x)&&qx (x<=j.Hi)):=λj x=>by
  show(mz3 j x).run NN=_;simp only[mz3,qk,dzv,pz1]
 by_cases h1:c.length=l.length
 ·rw[bzb qa,qg h1,qS];refine(ezy (λi=>sw (outJ l c i) false) l.length h (λj hj=>?_) ?_).trans ?_
  ·rw[az6 qa,aza qa,aza qa,wn qa,qH,<-dzr];simp only[e1,qM];refine congrArg (λb=>bif b then some (Step3.fin false)else some (Step3.next ((j+1:Nat):Int))) ?_;rw[qZ];simp only[outJ,wd,we,wc,qf,qi];omega
  ·rw[az5 qa]
  ·rw[dz9,h1];cases czh (outJ l c) l.length<;>rfl
 ·rw[bzq qa,qh h1];rfl
theorem kzb (r:azo)(c:List Int):(gz6 r c).o=some (bz8 r c):=by
 show(qz2 r c).run NN=_;simp only[qz2,qk,Gz0,qM,bz8];by_cases h:dza r=0
 ·have:=fzd h;rw[czn h,Nz4 _ _ qa,qg h];rfl
 ·rw[czo h,qh h];rfl
theorem jz6 (r:azo)(c:List Int):(hz9 r c).o=some (bz8 r c):=by
 show(tzm r c).run NN=_;simp only[tzm,qk,dz4,qM,bzf,az7,bz8];by_cases h:dza r=0
 ·have:=fzd h;rw[bzb h,qg h,qS];by_cases h1:c.length=r.Xb.length
  ·rw[bzb qa,qg h1,qS];refine(ezy (λi=>sw (outJ r.Xb c i) false) c.length qa (λj hj=>?_) ?_).trans ?_
   ·rw[az6 qa,wn qa,<-dzr];simp only[qH,aza (show 0<=(j:Int)/\(j:Int)<(c.length:Int) from qa),aza (show 0<=(j:Int)/\(j:Int)<(r.Xb.length:Int) from qa),bzf,az7,ez1,outJ]
   ·rw[az5 qa]
   ·rw[dz9];cases czh (outJ r.Xb c) c.length<;>rfl
  ·rw[bzq qa,qh h1];rfl
 ·rw[bzq h,qh h];rfl
def big1 (l:List Int)(i:Nat):Bool:=qx (l.getD i qw< -2147483648)||qx (l.getD i qw>2147483648)
def izl (l:List Int):Bool:=czh (big1 l) l.length
theorem Czd (l:List Int)(h:l.length<4294967296):(szz l).o=some (izl l):=by
 show(tz0 l).run NN=_;have e1:∀x,(yz3 x).o=some (qx (x< -2147483648)||qx (x>2147483648)):=λx=>by
  show(oza x).run NN=_;simp only[oza,qk,dzv,ez1]
 have e2:(gzj l).o=some (match scan (λi=>sw (big1 l i) (i:Int)) l.length 0 with|some x=>x|none=> -1):=by
  show(ezn l).run NN=_;simp only[ezn,qk];refine(ezy (λi=>sw (big1 l i) (i:Int)) l.length h (λj hj=>?_) ?_).trans ?_
  ·rw[az6 qa,aza qa,wn qa,qH,<-dzr];simp only[e1,qM,big1]
  ·rw[az5 qa]
  ·cases scan (λi=>sw (big1 l i) (i:Int)) l.length 0<;>rfl
 have e3:(fzo l).o=some (!izl l):=by
  show(ez0 l).run NN=_;simp only[ez0,qk,e2,qM];rw[Rzn];rfl
 simp only[tz0,qk,e3,qM,ws]
theorem pzi (l:List Int)(h:l.length<4294967296):(lz9 l).o=some (izl l):=by
 show(wzv l).run NN=_;simp only[wzv,qk];refine(ezy (λi=>sw (big1 l i) false) l.length h (λj hj=>?_) ?_).trans ?_
 ·rw[az6 qa,wn qa,<-dzr];simp only[qH,aza (show 0<=(j:Int)/\(j:Int)<(l.length:Int) from qa),bzf,az7,ez1,big1]
 ·rw[az5 qa]
 ·rw[dz9];unfold izl;cases czh (big1 l) l.length<;>rfl
def wzm (p q:List Int)(d:Int):Bool:=izl p&&(izl q&&(qx (p.length=q.length)&&(qx (0<=d)&&qx (d<=20))))
theorem Pz9 {a b:Nat}:((a:Int)==(b:Int))=qx (a=b):=by rw[qZ];simp only[qj,qf];omega
theorem Gzv (p q:List Int)(d:Int)(hp:p.length<4294967296)(hq:q.length<4294967296):(uzu p q d).o=some (wzm p q d):=by
 show(mz4 p q d).run NN=_;simp only[mz4,qk,Czd p hp,Czd q hq,qM,wzm,Pz9];cases qx (p.length=q.length)<;>cases izl p<;>cases izl q<;>cases qx (0<=d)<;>rfl
theorem Nzl (p q:List Int)(d:Int)(hp:p.length<4294967296)(hq:q.length<4294967296):(Czz p q d).o=some (wzm p q d):=by
 show(tzq p q d).run NN=_;simp only[tzq,qk,pzi p hp,pzi q hq,qM,wzm,Pz9,ge_iff_le];cases qx (p.length=q.length)<;>cases izl p<;>cases izl q<;>cases qx (0<=d)<;>rfl
def Lzt (p q:List Int)(d:Nat)(i:Int)(k:Nat):az0:=
 ⟨p.getD k qw+min (i * (q.getD k qw-p.getD k qw)) ((i+1) * (q.getD k qw-p.getD k qw)) / 2 ^ d,
  p.getD k qw+cdiv (max (i * (q.getD k qw-p.getD k qw)) ((i+1) * (q.getD k qw-p.getD k qw))) (2 ^ d)⟩
def dz6 (p q:List Int)(d i:Int):List az0×Bool:=
 if wzm p q d=true/\0<=i/\i<2 ^ d.toNat then(tab (Lzt p q d.toNat i) p.length,true)else(nl,false)
theorem Gzc {l:List Int}(h:izl l=true){i:Nat}(hi:i<l.length): -2147483648<=l.getD i qw/\l.getD i qw<=2147483648:=by
 have:=noneB_iff.1 h i hi;simp only[big1,qq,qi]at this;omega
theorem motionV_iff {p q:List Int}{d:Int}:wzm p q d=true↔izl p=true/\izl q=true/\p.length=q.length/\0<=d/\d<=20:=by
 simp only[wzm,qn,qf]
theorem az3t {k:Nat}(h:k<=20):(2:Int) ^ k<=1048576:=by
 have:(2:Int) ^ k<=2 ^ 20:=by
  exact_mod_cast wt (by decide:0<2) h
 have e:(2:Int) ^ 20=1048576:=by decide
 omega
theorem azcx {i D:Int}(h0:0<=i)(h1:i<=1048576)(h2: -4294967296<=D/\D<=4294967296): -4503599627370496<=i * D/\i * D<=4503599627370496:=by
 have h:(i * D).natAbs<=1048576 * 4294967296:=by rw[qN];exact qO qa qa
 omega
theorem az53 {d:Int}(h0:0<=d)(h1:d<=20):IntKind.u64.wrap d=d:=by
 show(if(false&&qx (d % 18446744073709551616>=9223372036854775808))=true then d % 18446744073709551616-18446744073709551616 else d % 18446744073709551616)=d;rw[qb (by simp)];omega
theorem Pzo (a:Int)(k:Nat)(hk:k<=64):(vzz a (k:Int)).o=some (a / 2 ^ k):=by
 show(wz0 a (k:Int)).run NN=_;simp only[wz0,qk];rw[aza qa,qH,qI hk,Bzl]
section
variable {a b i:Int} {k:Nat} (ha: -2147483648<=a/\a<=2147483648) (hb: -2147483648<=b/\b<=2147483648) (h0:0<=i) (hi:i<2 ^ k) (hk:k<=20)
include ha hb h0 hi hk
theorem Yzy:qv.wrap (b-a)=b-a/\qv.wrap (i+1)=i+1/\qv.wrap (i * (b-a))=i * (b-a)/\qv.wrap ((i+1) * (b-a))=(i+1) * (b-a)/\
 InR (min (i * (b-a)) ((i+1) * (b-a)))/\InR (max (i * (b-a)) ((i+1) * (b-a)))/\InR (-(max (i * (b-a)) ((i+1) * (b-a))))/\
 InR (a+min (i * (b-a)) ((i+1) * (b-a)) / 2 ^ k)/\InR (a+cdiv (max (i * (b-a)) ((i+1) * (b-a))) (2 ^ k)):=by
 have p20:=az3t hk;have hp:=czp k;have m1:=azcx h0 qa (show -4294967296<=b-a/\b-a<=4294967296 from qa);have m2:=azcx (i:=i+1) qa qa (show -4294967296<=b-a/\b-a<=4294967296 from qa);generalize i * (b-a)=u at *
 generalize (i+1) * (b-a)=v at *
 have b1: -4503599627370496<=min u v/\min u v<=4503599627370496:=qa
 have b2: -4503599627370496<=max u v/\max u v<=4503599627370496:=qa
 have d1:=Iz8 (a:=min u v) hp;have d2:=Pzj (a:=max u v) hp;refine⟨w64 qa qa,w64 qa qa,w64 qa qa,w64 qa qa,⟨qa,qa⟩,⟨qa,qa⟩,⟨qa,qa⟩,?_,?_⟩
 ·generalize min u v=x at *
  generalize x / 2 ^ k=y at *
  by_cases hx:0<=x
  ·have:=d1.1 hx;exact⟨qa,qa⟩
  ·have:=d1.2 qa;exact⟨qa,qa⟩
 ·generalize max u v=x at *
  generalize cdiv x (2 ^ k)=y at *
  by_cases hx:0<x
  ·have:=d2.1 hx;exact⟨qa,qa⟩
  ·have:=d2.2 qa;exact⟨qa,qa⟩
theorem Jzc:(yz2 a b i (k:Int)).o=some (⟨a+min (i * (b-a)) ((i+1) * (b-a)) / 2 ^ k,a+cdiv (max (i * (b-a)) ((i+1) * (b-a))) (2 ^ k)⟩,i,(k:Int)):=by
 obtain⟨e1,e2,e3,e4,e5,e6,e7,e8,e9⟩:=Yzy ha hb h0 hi hk;show(oz9 a b i (k:Int)).run NN=_;have e0:qv.wrap (0-max (i * (b-a)) ((i+1) * (b-a)))= -(max (i * (b-a)) ((i+1) * (b-a))):=by rw[Int.zero_sub];exact e7.w
 have e10:a- -(max (i * (b-a)) ((i+1) * (b-a))) / 2 ^ k=a+cdiv (max (i * (b-a)) ((i+1) * (b-a))) (2 ^ k):=by unfold cdiv;omega
 simp only[oz9,qk,e1,e2,e3,e4,e0,Pzo _ k (show k<=64 from qa),qM,e8.w,e10,e9.w]
end
theorem Kzp {p q:List Int}{k:Nat}{i:Int}(hp:izl p=true)(hq:izl q=true)(hl:p.length=q.length)(hn:p.length<4294967296)(h0:0<=i)(hi:i<2 ^ k)(hk:k<=20):
 (ezd p q i (k:Int)).o=some (tab (Lzt p q k i) p.length,i,(k:Int)):=by
 show(czv p q i (k:Int)).run NN=_;simp only[czv,qk];rw[aza ⟨qa,qa,qa,qa⟩,qH];refine(cz8 (λj=>(i,(k:Int),half (Lzt p q k i) ⟨0,0⟩ p.length j,(j:Int))) (i,(k:Int),tab (Lzt p q k i) p.length) p.length ?_ hn (λj hj=>?_) ?_).trans rfl
 ·rw[qz9];rfl
 ·rw[az6 (by simpa using hj),aza ⟨by simp,by simpa using hj⟩,aza ⟨by simp,by simp;omega⟩];simp only[qH,Jzc (Gzc hp hj) (Gzc hq (by omega:j<q.length)) h0 hi hk,qM,rzn (show j<=p.length from qa)];rw[aza ⟨qa,qa⟩,aza ⟨hj,qa⟩,wn qa];exact congrArg (λx=>some (Step3.next (i,(k:Int),x,((j+1:Nat):Int)))) (nz5 hj)
 ·rw[az5 (by simp)];simp only[wzc]
theorem w2k {k:Nat}(h:k<=20):qv.wrap (1 * 2 ^ k)=2 ^ k:=by
 have:=az3t h;have:=czp k;rw[wu];exact w64 qa qa
theorem szy (p q:List Int)(d i:Int)(hp:p.length<4294967296)(hq:q.length<4294967296):(nz1 p q d i).o=some (dz6 p q d i):=by
 show(szx p q d i).run NN=_;simp only[szx,qk,Gzv p q d hp hq,qM,dz6];by_cases hm:wzm p q d=true
 ·have hm':=motionV_iff.1 hm;obtain⟨k,rfl⟩:∃k:Nat,d=(k:Int):=⟨d.toNat,qa⟩;have hk:k<=20:=qa
  rw[hm,qH];simp only[qP,qd];by_cases h0:i<0
  ·rw[az6 h0,qb qa];rfl
  ·rw[az5 h0,aza qa,qI qa,w2k hk];simp only[az7];by_cases h1:i>=2 ^ k
   ·rw[az6 h1,qb qa]
   ·rw[az5 h1,qc ⟨trivial,qa,qa⟩,Kzp hm'.1 hm'.2.1 hm'.2.2.1 hp qa qa hk];rfl
 ·rw[qb (λh=>hm h.1)];simp only[wg]at hm;rw[hm];rfl
theorem wzt (p q:List Int)(d i:Int)(hp:p.length<4294967296)(hq:q.length<4294967296):(pzh p q d i).o=some (dz6 p q d i):=by
 show(wzs p q d i).run NN=_;simp only[wzs,qk,Nzl p q d hp hq,qM,dz6];by_cases hm:wzm p q d=true
 ·have hm':=motionV_iff.1 hm;obtain⟨k,rfl⟩:∃k:Nat,d=(k:Int):=⟨d.toNat,qa⟩;have hk:k<=20:=qa
  rw[hm,qH,az53 qa qa,qH];simp only[qP,qd];by_cases h0:i<0
  ·rw[az6 h0,qb qa];rfl
  ·rw[az5 h0,aza qa,qI qa,w2k hk];simp only[az7];by_cases h1:i>=2 ^ k
   ·rw[az6 h1,qb qa]
   ·rw[az5 h1,qc ⟨trivial,qa,qa⟩,aza qa];refine(cz8 (λj=>(tab (Lzt p q k i) j,(j:Int))) (tab (Lzt p q k i) p.length) p.length rfl hp (λj hj=>?_) ?_).trans rfl
    ·obtain⟨e1,e2,e3,e4,e5,e6,e7,e8,e9⟩:=Yzy (Gzc hm'.1 hj) (Gzc hm'.2.1 (by omega:j<q.length)) (by omega:0<=i) (by omega:i<2 ^ k) hk;rw[az6 (by simpa using hj),aza ⟨by simp,by simp;omega⟩,aza ⟨by simp,by simpa using hj⟩,aza ⟨by simp,by simpa using hj⟩];simp only[qH,e1,e2,e3,e4,dzm e5 (czp k),cz9 e6 (czp k),qM,e8.w,e9.w];rw[aza ⟨qa,qa⟩,aza ⟨by simp[cz4];omega,by simp[cz4,azg];omega⟩,wn qa,gz0];rfl
    ·rw[az5 (by simp)]
 ·rw[qb (λh=>hm h.1)];simp only[wg]at hm;rw[hm];rfl
structure JointOk (l:List azz) (i:Nat):Prop where
 kind:0<=(l.getD i qw).Xm/\(l.getD i qw).Xm<=6
 parent: -1<=(l.getD i qw).Xt/\(l.getD i qw).Xt<(i:Int)
 off:hze (l.getD i qw).Xw 4194304=true
 lim:(l.getD i qw).Lo<=(l.getD i qw).Hi/\ -fzg (l.getD i qw).Xm<=(l.getD i qw).Lo/\(l.getD i qw).Hi<=fzg (l.getD i qw).Xm
 cost:Vzu (l.getD i qw)=true
theorem az2t {l:List azz}{i:Nat}(h:vz1 l i=0):JointOk l i:=by
 unfold vz1 at h;simp only at h;split at h
 ·cases h
 ·split at h
  ·cases h
  ·rename_i h2;split at h
   ·cases h
   ·rename_i h3;split at h
    ·cases h
    ·rename_i h4;split at h
     ·cases h
     ·rename_i h5;split at h
      ·cases h
      ·rename_i h6;simp only[wc,qf,wd,wv]at h2 h3 h4 h5 h6;exact⟨qa,qa,h4,qa,h6⟩
theorem fzw {r:azo}(h:dza r=0){i:Nat}(hi:i<r.Xb.length):JointOk r.Xb i:=az2t ((fzd h).2.2 i hi)
def notV (b:List az0)(i:Nat):Bool:= !vV (b.getD i qw)
def boxV (r:azo)(b:List az0):Bool:=qx (b.length=r.Xb.length)&&czh (notV b) b.length
theorem Jzn (b:List az0)(h:b.length<4294967296):(yzf b).o=some (czh (notV b) b.length):=by
 show(ozp b).run NN=_;simp only[ozp,qk,gzh,qM];refine(ezy (λi=>sw (notV b i) false) b.length h (λj hj=>?_) ?_).trans ?_
 ·rw[az6 qa,aza qa,wn qa,qH,<-dzr];rfl
 ·rw[az5 qa]
 ·rw[dz9];cases czh (notV b) b.length<;>rfl
theorem wzo (r:azo)(b:List az0)(h:b.length<4294967296):(pzg r b).o=some (boxV r b):=by
 show(wzn r b).run NN=_;simp only[wzn,qk,Jzn b h,qM,boxV,Pz9];cases qx (b.length=r.Xb.length)<;>rfl
theorem Ezw (r:azo)(b:List az0)(h:b.length<4294967296):(rzq r b).o=some (boxV r b):=by
 have e1:∀x,(pz3 x).o=some (!vV x):=λx=>by
  show(izp x).run NN=_;simp only[izp,qk,dz1,qM]
 have e2:(dzq b).o=some (match scan (λi=>sw (notV b i) (i:Int)) b.length 0 with|some x=>x|none=> -1):=by
  show(czm b).run NN=_;simp only[czm,qk,e1,qM];refine(ezy (λi=>sw (notV b i) (i:Int)) b.length h (λj hj=>?_) ?_).trans ?_
  ·rw[az6 qa,aza qa,wn qa,qH,<-dzr];rfl
  ·rw[az5 qa]
  ·cases scan (λi=>sw (notV b i) (i:Int)) b.length 0<;>rfl
 have e3:(dzh b).o=some (!czh (notV b) b.length):=by
  show(cze b).run NN=_;simp only[cze,qk,e2,qM];exact congrArg some Rzn
 show(kzl r b).run NN=_;simp only[kzl,qk,e3,qM,boxV,Pz9,ws];cases qx (b.length=r.Xb.length)<;>rfl
section
variable (r:azo) (b:List az0)
def lk1 (L:List bz2)(i:Nat):bz2:=
 if(r.Xb.getD i qw).Xt= -1 then Czm (r.Xb.getD i qw) (b.getD i qw)else Vzt (L.getD (r.Xb.getD i qw).Xt.toNat qw) (Czm (r.Xb.getD i qw) (b.getD i qw))
def lkL:Nat->List bz2
 |0=>[]
 |i+1=>lkL i++[lk1 r b (lkL i) i]
def lkP (i:Nat):bz2:=lk1 r b (lkL r b i) i
theorem az2x:∀j,lkL r b j=tab (lkP r b) j
 |0=>rfl
 |j+1=>by rw[gz0,<-az2x j];rfl
end
variable {r:azo} {b:List az0}
theorem Yze {α:Type}{f:Nat->α}{z d:α}{n j i:Nat}(h:i<j):(half f z n j).getD i d=f i:=by
 unfold half;rw[wo,List.getElem?_append_left (by rw[cz4];exact h),<-wo,iz6 h]
theorem Pz0 {α:Type}{l:List α}{i j:Nat}{x d:α}(h:i≠j):(l.set i x).getD j d=l.getD j d:=by
 rw[wo,List.getElem?_set_ne h,wo]
theorem Ozz {α:Type}{l:List α}{i:Nat}{x d:α}(h:i<l.length):(l.set i x).getD i d=x:=by
 rw[wo,List.getElem?_set_self h];rfl
theorem Rz6 (hr:dza r=0)(hb:boxV r b=true):(Fzj r b).o=some (tab (lkP r b) r.Xb.length):=by
 have hr':=fzd hr;have hb':=hb;simp only[boxV,qn,qf]at hb';show(wzr r b).run NN=_;simp only[wzr,qk,dz4,wzo r b qa,hb,hr,qM];rw[bzb rfl,az7,qP,qd];refine(cz8 (λj=>(tab (lkP r b) j,(j:Int))) (tab (lkP r b) r.Xb.length) r.Xb.length rfl (show r.Xb.length<4294967296 from qa) (λj hj=>?_) ?_).trans rfl
 ·have jo:=fzw hr hj;rw[az6 (by simp;omega),aza ⟨by simp,by simpa using hj⟩,aza ⟨by simp,by simp;omega⟩];simp only[qH,Rz4,qM];rw[aza ⟨qa,qa⟩,gz0];by_cases hp:(r.Xb.getD j qw).Xt= -1
  ·have e:lkP r b j=Czm (r.Xb.getD j qw) (b.getD j qw):=by unfold lkP lk1;rw[qc hp]
   rw[bzb hp];simp only[az7];rw[aza ⟨by simp[cz4];omega,by simp[cz4,azg];omega⟩,wn qa,e]
  ·have jp:=jo.parent;have e:lkP r b j=Vzt ((tab (lkP r b) j).getD (r.Xb.getD j qw).Xt.toNat qw) (Czm (r.Xb.getD j qw) (b.getD j qw)):=by
    unfold lkP lk1;rw[qb hp,az2x];rfl
   rw[bzq hp,aza ⟨qa,qa⟩,aza ⟨qa,by rw[cz4];omega⟩,aza (by rw[cz4];omega)];simp only[nze,qM,az7];rw[aza ⟨by simp[cz4];omega,by simp[cz4,azg];omega⟩,wn qa,e]
 ·rw[az5 (by simp;omega)]
theorem Ezx (hr:dza r=0)(hb:boxV r b=true):(rzr r b).o=some (tab (lkP r b) r.Xb.length):=by
 have hr':=fzd hr;have hb':=hb;simp only[boxV,qn,qf]at hb';show(kzm r b).run NN=_;simp only[kzm,qk];rw[aza ⟨qa,qa,qa,qa⟩,qH];refine(cz8 (λj=>(half (lkP r b) (⟨(izv,izv,izv),izv⟩:bz2) r.Xb.length j,(j:Int))) (tab (lkP r b) r.Xb.length) r.Xb.length ?_ (show r.Xb.length<4294967296 from qa) (λj hj=>?_) ?_).trans rfl
 ·rw[qz9];rfl
 ·have jo:=fzw hr hj;have jp:=jo.parent;rw[az6 (by simp;omega),aza ⟨by simp,by simpa using hj⟩,aza ⟨by simp,by simp;omega⟩];simp only[qH,Ezv,qM,wx,rzn (show j<=r.Xb.length from qa)];rw[aza ⟨qa,qa⟩,aza ⟨hj,qa⟩,wn qa];by_cases hp:(r.Xb.getD j qw).Xt= -1
  ·have e:lkP r b j=Czm (r.Xb.getD j qw) (b.getD j qw):=by unfold lkP lk1;rw[qc hp]
   rw[bzb hp];simp only[az7];rw[<-nz5 hj,e]
  ·have e:lkP r b j=Vzt (lkP r b (r.Xb.getD j qw).Xt.toNat) (Czm (r.Xb.getD j qw) (b.getD j qw)):=by
    conv=>lhs;unfold lkP lk1
    rw[qb hp,az2x,iz6 qa]
   rw[bzq hp,aza ⟨qa,qa⟩,aza qa,aza ⟨qa,qa⟩,aza hj,Pz0 qa,Yze qa,Ozz (by rw[rzn qa];exact hj)];simp only[nzb,qM];rw[aza ⟨qa,qa⟩,aza ⟨hj,qa⟩,az7,wy,<-e,nz5 hj]
 ·rw[az5 (by simp)];simp only[wzc]
def rz8 (x:bz7):Bool:=(betV x.Xs 1 1048576&&qx (1<=x.Xc.length/\x.Xc.length<=8))&&czh (farP x.Xc) x.Xc.length
def Fzd (x:bz7)(p:bz2):List IV3:=if rz8 x then tab (λi=>Tzx p (Az1 (x.Xc.getD i qw))) x.Xc.length else nl
theorem Mzj {x:bz7}(h:rz8 x=true):1<=x.Xc.length/\x.Xc.length<=8:=by
 simp only[rz8,qn,qf]at h;exact h.1.2
theorem Pz1 (x:bz7){α:Type}(k:Bool->Option α):(andC (bif qx (x.Xs<1)then some (.out true)else bif qx (x.Xs>1048576)then some (.out true)else bif qx ((x.Xc.length:Int)<1)then some (.out true)else
 some (.out (qx ((x.Xc.length:Int)>8)))) k)=k (!(betV x.Xs 1 1048576&&qx (1<=x.Xc.length/\x.Xc.length<=8))):=by
 simp only[bzf,az7];congr 1;rw[qZ];simp only[ez1,betV,wc,wd,we,qf,qi];omega
theorem Fzg (x:bz7):(sz1 x).o=some (rz8 x):=by
 show(lz8 x).run NN=_;simp only[lz8,qk,Pz1,rz8];cases h:betV x.Xs 1 1048576&&qx (1<=x.Xc.length/\x.Xc.length<=8)
 ·rfl
 ·simp only[qn,qf]at h;simp only[qP,qd,qS];refine(ezy (λi=>sw (farP x.Xc i) false) x.Xc.length qa (λk hk=>?_) ?_).trans ?_
  ·rw[az6 qa,aza qa,wn qa,qH,<-dzr];simp only[gzq _ (show(0:Int)<=4194304 by decide) (by decide),qM];rfl
  ·rw[az5 qa]
  ·rw[dz9];cases czh (farP x.Xc) x.Xc.length<;>rfl
theorem Rzq (x:bz7):(Gz8 x).o=some (rz8 x):=by
 show(xzr x).run NN=_;simp only[xzr,qk,Pz1,rz8];cases h:betV x.Xs 1 1048576&&qx (1<=x.Xc.length/\x.Xc.length<=8)
 ·rfl
 ·simp only[qn,qf]at h;simp only[qP,qd,qS];refine(ezy (λi=>sw (farP x.Xc i) false) x.Xc.length qa (λj hj=>?_) ?_).trans ?_
  ·rw[az6 qa,aza qa,qH,wn qa];refine(ezy (λi=>sw (bey (([(x.Xc.getD j qw).1,(x.Xc.getD j qw).2.1,(x.Xc.getD j qw).2.2]:List Int).getD i 0)) (Step3.fin false)) 3 (by decide) (λk hk=>?_) ?_).trans ?_
   ·rw[az6 qa,aza qa,wn qa,qH,<-dzr];simp only[bzf,az7,ez1];rfl
   ·rw[az5 qa]
   ·rw[dz9,far3];unfold farP;cases hze (x.Xc.getD j qw) 4194304<;>rfl
  ·rw[az5 qa]
  ·rw[dz9];cases czh (farP x.Xc) x.Xc.length<;>rfl
theorem Fzl (x:bz7)(p:bz2):(Fzk x p).o=some (Fzd x p):=by
 show(wzu x p).run NN=_;simp only[wzu,qk,Fzg,qM,Fzd];cases h:rz8 x
 ·rfl
 ·have hl:=Mzj h;simp only[qP,qd,if_true];refine(cz8 (λj=>(tab (λi=>Tzx p (Az1 (x.Xc.getD i qw))) j,(j:Int))) (tab (λi=>Tzx p (Az1 (x.Xc.getD i qw))) x.Xc.length) x.Xc.length rfl (show x.Xc.length<4294967296 from qa) (λj hj=>?_) ?_).trans rfl
  ·rw[az6 (by simpa using hj),aza ⟨by simp,by simpa using hj⟩];simp only[qH,sz8,Uzl,qM];rw[aza ⟨by simp[cz4];omega,by simp[cz4,azg];omega⟩,wn qa,gz0]
  ·rw[az5 (by simp)]
theorem Gza (x:bz7)(p:bz2):(Gz9 x p).o=some (Fzd x p):=by
 show(xzs x p).run NN=_;simp only[xzs,qk,Rzq,qM,Fzd];cases h:rz8 x
 ·rfl
 ·have hl:=Mzj h;simp only[qP,qd,if_true];rw[aza ⟨qa,qa,qa,qa⟩,qH];refine(cz8 (λj=>(half (λi=>Tzx p (Az1 (x.Xc.getD i qw))) izv x.Xc.length j,(j:Int))) (tab (λi=>Tzx p (Az1 (x.Xc.getD i qw))) x.Xc.length) x.Xc.length ?_ (show x.Xc.length<4294967296 from qa) (λj hj=>?_) ?_).trans rfl
  ·rw[qz9];rfl
  ·rw[az6 (by simpa using hj),aza ⟨by simp,by simpa using hj⟩];simp only[qH,tze,Uz9,qM,rzn (show j<=x.Xc.length from qa)];rw[aza ⟨qa,qa⟩,aza ⟨hj,qa⟩,wn qa,<-nz5 hj]
  ·rw[az5 (by simp)];simp only[wzc]
def az2w (r:azo)(b:List az0)(k:Int):bz2:=if k= -1 then Uzr else lkP r b k.toNat
def bzs (s:azd)(b:List az0)(i:Nat):List IV3:=Fzd (s.Xd.getD i qw) (az2w s.Xf b (s.Xd.getD i qw).Xp)
def mzi (s:azd)(b:List az0):List (List IV3):=if czi s=0/\boxV s.Xf b=true then tab (bzs s b) s.Xd.length else nl
structure SceneOk (s:azd):Prop where
 robot:dza s.Xf=0
 len:s.Xd.length<=24
 shape:∀i,i<s.Xd.length->yzn s.Xf.Xb.length (s.Xd.getD i qw)=0
 skips:s.Xj.length<=64
theorem Bz8 {s:azd}(h:czi s=0):SceneOk s:=by
 unfold czi at h;split at h
 ·rename_i h1;exact absurd h h1
 ·rename_i h1;split at h
  ·cases h
  ·rename_i h2;split at h
   ·rename_i e he;obtain⟨j,-,-,h3,-⟩:=fze _ _ he;unfold errS sw at h3;cases hb:yzn s.Xf.Xb.length (s.Xd.getD j qw) !=0 with
    |false=>rw[hb]at h3;cases h3
    |true=>
     rw[hb]at h3;simp only[qe,Option.some.injEq]at h3;simp only[bne_iff_ne]at hb;rw[h3]at hb;exact absurd h hb
   ·rename_i he;split at h
    ·cases h
    ·rename_i h4;refine⟨by simpa using h1,qa,λi hi=>?_,qa⟩;have:=(dze _ _).1 he i (qY _) qa;unfold errS sw at this;cases hb:yzn s.Xf.Xb.length (s.Xd.getD i qw) !=0 with
     |false=>simpa using hb
     |true=>rw[hb]at this;cases this
theorem vzk {n:Nat}{x:bz7}(h:yzn n x=0):rz8 x=true/\ -1<=x.Xp/\x.Xp<(n:Int):=by
 unfold yzn at h;split at h
 ·cases h
 ·rename_i h1;split at h
  ·rename_i h2;have hb:(kzn n x.Xp&&betV x.Xs 1 1048576)=true:=by
    cases hc:(kzn n x.Xp&&betV x.Xs 1 1048576)with
    |true=>rfl
    |false=>exact absurd (Or.inl hc) h1
   simp only[qn]at hb;refine⟨?_,?_⟩
   ·simp only[rz8,qn,qf];exact⟨⟨hb.2,qa⟩,h2⟩
   ·have:=hb.1;simp only[kzn,qn,qf]at this;exact this
  ·cases h
theorem Nzk (s:azd)(b:List az0)(hbl:b.length<4294967296):(Czy s b).o=some (mzi s b):=by
 show(tzo s b).run NN=_;simp only[tzo,qk,eza,wzo _ b hbl,qM,mzi];by_cases h:czi s=0
 ·rw[bzb h,az7];cases hb:boxV s.Xf b
  ·rw[qb (λh=>by cases h.2)];rfl
  ·have so:=Bz8 h;rw[qc ⟨h,rfl⟩,qP,qd,Rz6 so.robot hb,qM];refine(cz8 (λj=>(tab (bzs s b) j,(j:Int))) (tab (bzs s b) s.Xd.length) s.Xd.length rfl (show s.Xd.length<4294967296 by have:=so.len;omega) (λj hj=>?_) ?_).trans rfl
   ·have so2:=so.len;have sl:=(vzk (so.shape j hj)).2;rw[az6 (by simpa using hj)];simp only[qH,Mz0,qM];rw[aza ⟨qa,qa⟩,wn qa,gz0];by_cases hp:(s.Xd.getD j qw).Xp= -1
    ·have e:bzs s b j=Fzd (s.Xd.getD j qw) Uzr:=by unfold bzs az2w;rw[qc hp]
     rw[bzb hp];simp only[az7];rw[aza ⟨qa,qa⟩];simp only[Fzl,qM];rw[aza ⟨by simp[cz4];omega,by simp[cz4,azg];omega⟩,e]
    ·have e:bzs s b j=Fzd (s.Xd.getD j qw) ((tab (lkP s.Xf b) s.Xf.Xb.length).getD (s.Xd.getD j qw).Xp.toNat qw):=by
      unfold bzs az2w;rw[qb hp,iz6 qa]
     rw[bzq hp,aza ⟨qa,qa⟩,aza ⟨qa,by rw[cz4];omega⟩];simp only[az7];rw[aza ⟨qa,qa⟩];simp only[Fzl,qM];rw[aza ⟨by simp[cz4];omega,by simp[cz4,azg];omega⟩,e]
   ·rw[az5 (by simp)]
 ·rw[bzq h,az7,qe,qb (λh'=>h h'.1)]
theorem Dzr (s:azd)(b:List az0)(hbl:b.length<4294967296):(qzc s b).o=some (mzi s b):=by
 show(jzq s b).run NN=_;simp only[jzq,qk,gzr,Ezw _ b hbl,qM,mzi];cases hb:boxV s.Xf b
 ·rw[qb (λh=>by cases h.2)];rfl
 ·simp only[qP,qd,az7];by_cases h:czi s=0
  ·have so:=Bz8 h;have so2:=so.len;rw[qc ⟨h,trivial⟩,bzb h,Ezx so.robot hb,qM,aza ⟨qa,qa,qa,qa⟩,qH];refine(cz8 (λj=>(half (bzs s b) nl s.Xd.length j,(j:Int))) (tab (bzs s b) s.Xd.length) s.Xd.length ?_ (show s.Xd.length<4294967296 from qa) (λj hj=>?_) ?_).trans rfl
   ·rw[qz9];rfl
   ·have sl:=(vzk (so.shape j hj)).2;rw[az6 (by simpa using hj),aza ⟨by simp,by simpa using hj⟩];simp only[qH,Az3,qM,rzn (show j<=s.Xd.length from qa)];rw[wn qa,<-nz5 hj];by_cases hp:(s.Xd.getD j qw).Xp= -1
    ·have e:bzs s b j=Fzd (s.Xd.getD j qw) Uzr:=by unfold bzs az2w;rw[qc hp]
     rw[bzb hp];simp only[az7,Gza,qM];rw[aza ⟨qa,qa⟩,aza ⟨hj,qa⟩,e]
    ·have e:bzs s b j=Fzd (s.Xd.getD j qw) ((tab (lkP s.Xf b) s.Xf.Xb.length).getD (s.Xd.getD j qw).Xp.toNat qw):=by
      unfold bzs az2w;rw[qb hp,iz6 qa]
     rw[bzq hp,aza ⟨qa,by rw[cz4];omega⟩];simp only[az7,Gza,qM];rw[aza ⟨qa,qa⟩,aza ⟨hj,qa⟩,e]
   ·rw[az5 (by simp)];simp only[wzc]
  ·rw[qb (λh'=>h h'.1),bzq h]
section
variable (par:Nat->Nat) (mv:Nat->Prop) [DecidablePred mv]
inductive AncN:Nat->Nat->Prop
 |self {m:Nat}:0<m->AncN m m
 |up {m x:Nat}:0<m->AncN (par m) x->AncN m x
def cF:Nat->Nat->Nat
 |0,_=>0
 |d+1,m=>if m=0 then 0 else if mv m then m else cF d (par m)
end
section
variable {par:Nat->Nat} {mv:Nat->Prop} [DecidablePred mv]
theorem AncN.pos {m x:Nat}(h:AncN par m x):0<m/\0<x:=by
 induction h with
 |self h=>exact⟨h,h⟩
 |up h _ ih=>exact⟨h,ih.2⟩
theorem AncN.le {n m x:Nat}(hp:∀m,0<m->m<=n->par m<m)(h:AncN par m x):m<=n->x<=m:=by
 induction h with
 |self=>intro _;exact ql _
 |up h0 _ ih=>rename_i m x _;intro hm;have:=hp m h0 hm;have:=ih qa;omega
theorem az13 {n:Nat}(hp:∀m,0<m->m<=n->par m<m):∀ (d d' m:Nat),m<=n->m<d->m<d'->cF par mv d m=cF par mv d' m
 |0,_,_,_,h,_=>qa
 |_,0,_,_,_,h=>qa
 |d+1,d'+1,m,hm,h1,h2=>by
  simp only[cF];by_cases h0:m=0
  ·simp only[h0,if_true]
  ·simp only[h0,if_false];have:=hp m qa hm;by_cases hv:mv m
   ·simp only[hv,if_true]
   ·simp only[hv,if_false];exact az13 hp d d' (par m) qa qa qa
theorem Sza {n:Nat}(hp:∀m,0<m->m<=n->par m<m):∀ (d m:Nat),m<=n->m<d->(∀x,mv x->(AncN par m x↔AncN par (cF par mv d m) x))/\(cF par mv d m≠0->mv (cF par mv d m)/\AncN par m (cF par mv d m))/\cF par mv d m<=m
 |0,_,_,h=>qa
 |d+1,m,hm,h=>by
  simp only[cF];by_cases h0:m=0
  ·rw[qc h0];subst h0;exact⟨λ_ _=>Iff.rfl,λh=>absurd rfl h,ql _⟩
  ·simp only[h0,if_false];have hl:=hp m qa hm;by_cases hv:mv m
   ·rw[qc hv];exact⟨λ_ _=>Iff.rfl,λ_=>⟨hv,.self qa⟩,ql _⟩
   ·simp only[hv,if_false];obtain⟨h1,h2,h3⟩:=Sza hp d (par m) qa qa;refine⟨λx hx=>?_,λhn=>⟨(h2 hn).1,.up qa (h2 hn).2⟩,qa⟩;rw[<-h1 x hx];constructor
    ·intro ha;cases ha with
     |self=>exact absurd hx hv
     |up _ ha=>exact ha
    ·intro ha;exact .up qa ha
theorem az7s {n:Nat}(hp:∀m,0<m->m<=n->par m<m){a b d:Nat}(ha:a<=n)(hb:b<=n)(hd:n<d):cF par mv d a=cF par mv d b↔∀x,mv x->(AncN par a x↔AncN par b x):=by
 obtain⟨a1,a2,a3⟩:=Sza (mv:=mv) hp d a ha qa;obtain⟨b1,b2,b3⟩:=Sza (mv:=mv) hp d b hb qa;constructor
 ·intro h x hx;rw[a1 x hx,b1 x hx,h]
 ·intro h;have key:∀ {a b:Nat},a<=n->b<=n->cF par mv d a≠0->(∀x,mv x->(AncN par a x↔AncN par b x))->cF par mv d a<=cF par mv d b:=by
   intro a b ha hb hn h;obtain⟨a1,a2,a3⟩:=Sza (mv:=mv) hp d a ha qa;obtain⟨b1,b2,b3⟩:=Sza (mv:=mv) hp d b hb qa;have:=(b1 _ (a2 hn).1).1 ((h _ (a2 hn).1).1 (a2 hn).2);exact this.le hp qa
  by_cases h0:cF par mv d a=0
  ·by_cases h1:cF par mv d b=0
   ·omega
   ·have:=key hb ha h1 (λx hx=>(h x hx).symm);omega
  ·have h2:=key ha hb h0 h;have h3:=key hb ha qa (λx hx=>(h x hx).symm);omega
end
section
variable (r:azo)
def parN (m:Nat):Nat:=((r.Xb.getD (m-1) qw).Xt+1).toNat
def mvN (m:Nat):Prop:=(r.Xb.getD (m-1) qw).Lo≠(r.Xb.getD (m-1) qw).Hi
instance:DecidablePred (mvN r):=λm=>inferInstanceAs (Decidable (_≠_))
def carN (m:Nat):Nat:=cF (parN r) (mvN r) (r.Xb.length+1) m
end
variable {r:azo} (hr:dza r=0)
include hr
theorem Lzn:∀m,0<m->m<=r.Xb.length->parN r m<m:=λm h0 hm=>by
 have:=(fzw hr (show m-1<r.Xb.length from qa)).parent;unfold parN;omega
omit hr in
theorem az16:carN r 0=0:=by
 unfold carN;simp only[cF,if_true]
theorem az15 {i:Nat}(hi:i<r.Xb.length):carN r (i+1)=if(r.Xb.getD i qw).Lo=(r.Xb.getD i qw).Hi then carN r ((r.Xb.getD i qw).Xt+1).toNat else i+1:=by
 have hl:=Lzn hr (i+1) qa qa;unfold carN
 conv=>lhs;simp only[cF]
 rw[qb qa];by_cases h:(r.Xb.getD i qw).Lo=(r.Xb.getD i qw).Hi
 ·rw[qb (λhm=>hm h),qc h];exact az13 (Lzn hr) _ _ (parN r (i+1)) qa qa qa
 ·rw[qc (show mvN r (i+1)from h),qb h]
def caP (r:azo)(m:Nat):Int:=(carN r m:Int)-1
theorem Jzr:(yzl r).o=some (tab (caP r) (r.Xb.length+1)):=by
 have hr':=fzd hr;show(ozw r).run NN=_;simp only[ozw,qk];rw[wn qa,qH,aza ⟨qa,qa,qa,qa⟩];simp only[wz];rw[aza ⟨qa,qa⟩,aza ⟨by simp,qa⟩];refine(cz8 (λj=>(half (caP r) 0 (r.Xb.length+1) (j+1),(j:Int))) (tab (caP r) (r.Xb.length+1)) r.Xb.length ?_ (show r.Xb.length<4294967296 from qa) (λj hj=>?_) ?_).trans rfl
 ·rw[<-nz5 qa,qz9];have:caP r 0= -1:=by unfold caP;rw[az16];rfl
  rw[this];rfl
 ·have jp:=(fzw hr hj).parent;rw[az6 (by simpa using hj),aza ⟨by simp,by simpa using hj⟩];simp only[qH,rzn (show j+1<=r.Xb.length+1 from qa),wx];rw[wn qa,qH,aza ⟨qa,qa⟩,aza ⟨qa,qa⟩,w64 (x:=(r.Xb.getD j qw).Xt+1) qa qa];have e:=az15 hr hj;by_cases h:(r.Xb.getD j qw).Lo=(r.Xb.getD j qw).Hi
  ·have e2:caP r (j+1)=caP r ((r.Xb.getD j qw).Xt+1).toNat:=by unfold caP;rw[e,qc h]
   rw[czn h,aza ⟨qa,qa⟩,aza qa,aza ⟨qa,qa⟩,aza ⟨qa,qa⟩,Pz0 qa,Yze qa,az7,wy,<-nz5 (j:=j+1) qa,e2]
  ·have e2:caP r (j+1)=(j:Int):=by unfold caP;rw[e,qb h];omega
   rw[czo h,az7,<-nz5 (j:=j+1) qa,e2]
 ·rw[az5 (by simp)];simp only[wzc]
theorem Izy {k:Int}(h0: -1<=k)(h1:k<(r.Xb.length:Int)):∃L:List Int,(sza r k).o=some L/\L.length<=r.Xb.length/\∀x:Nat,(x:Int)∈L↔AncN (parN r) (k+1).toNat (x+1):=by
 have hr':=fzd hr;have e0:(sza r k).o=(Azx r k).run NN:=rfl;rw[e0];simp only[Azx,qk,dz4,hr,lzk,qM];rw[bzb rfl,az7,show kzn r.Xb.length k=true by simp[kzn];omega,qP,qd]
 refine Qz6 (β:=List Int) (g:=λL=>some L) (P:=λL=>L.length<=r.Xb.length/\∀x:Nat,(x:Int)∈L↔AncN (parN r) (k+1).toNat (x+1))
  (λ(y:List Int×Int)=> -1<=y.2/\y.2<(r.Xb.length:Int)/\y.1.length+(y.2+1).toNat<=r.Xb.length/\∀x:Nat,((x:Int)∈y.1\/AncN (parN r) (y.2+1).toNat (x+1))↔AncN (parN r) (k+1).toNat (x+1))
  (λ(y:List Int×Int)=>(y.2+1).toNat) (λ(L:List Int)=>L.length<=r.Xb.length/\∀x:Nat,(x:Int)∈L↔AncN (parN r) (k+1).toNat (x+1)) ⟨h0,h1,?_,λx=>?_⟩ ?_ (λy hy=>?_) (λL hL=>⟨L,rfl,hL⟩)
 ·simp[nl];omega
 ·simp[nl]
 ·show(k+1).toNat<4294967296;omega
 ·obtain⟨a1,a2,a3,a4⟩:=hy;by_cases hk:y.2= -1
  ·refine .inr ⟨y.1,by rw[bzb hk],qa,λx=>?_⟩;rw[<-a4 x];constructor
   ·exact Or.inl
   ·rintro(h|h)
    ·exact h
    ·have:=h.pos.1;rw[hk]at this;exact absurd this (by decide)
  ·left;have jp:=(fzw hr (show y.2.toNat<r.Xb.length from qa)).parent;refine⟨(y.2::y.1,(r.Xb.getD y.2.toNat qw).Xt),?_,⟨jp.1,qa,by simp only[wA];omega,λx=>?_⟩,by simp only;omega⟩
   ·rw[bzq hk,aza ⟨by simp;omega,by simp[azg];omega⟩,aza ⟨qa,qa⟩];rfl
   ·rw[<-a4 x];have hpar:parN r (y.2+1).toNat=((r.Xb.getD y.2.toNat qw).Xt+1).toNat:=by
     unfold parN;rw[show(y.2+1).toNat-1=y.2.toNat from qa]
    simp only[wB];constructor
    ·rintro((h|h)|h)
     ·right;rw[show(y.2+1).toNat=x+1 from qa];exact .self qa
     ·exact Or.inl h
     ·right;exact .up qa (hpar▸h)
    ·rintro(h|h)
     ·exact Or.inl (Or.inr h)
     ·generalize hm:(y.2+1).toNat=m at h;cases h with
      |self h=>left;left;omega
      |up h ha=>right;rw[<-hm,hpar]at ha;exact ha
omit hr in
theorem Fzy (l:List Int)(x:Int)(h:l.length<4294967296):(xzi l x).o=some (qx (x∈l)):=by
 show(xzj l x).run NN=_;simp only[xzj,qk];refine(ezy (λi=>sw (l.getD i qw==x) true) l.length h (λj hj=>?_) ?_).trans ?_
 ·rw[az6 qa,aza qa,wn qa,qH,<-dzr]
 ·rw[az5 qa]
 ·rw[dz9];have:czh (λi=>l.getD i qw==x) l.length= !qx (x∈l):=by
   rw[qZ,noneB_iff,wd,qi];constructor
   ·intro hn hx;obtain⟨i,hi,e⟩:=wC hx;have:=hn i hi;rw[wo,wD hi,wE,e]at this;simp at this
   ·intro hn i hi;rw[wo,wD hi,wE];simp only[beq_eq_false_iff_ne,ne_eq];intro e;apply hn;rw[<-e];exact wF hi
  rw[this];cases qx (x∈l)<;>rfl
def betL (p:Nat->Bool)(n:Nat):List Int:=((List.range n).filter p).map λ(i:Nat)=>(i:Int)
omit hr in
theorem az0z (p:Nat->Bool)(n:Nat):betL p (n+1)=if p n then betL p n++[(n:Int)]else betL p n:=by
 unfold betL;rw[wm,List.filter_append,List.map_append];cases h:p n<;>simp[h]
omit hr in
theorem Xzn (p:Nat->Bool)(n:Nat):(betL p n).length<=n:=by
 unfold betL;rw[List.length_map];exact wG (List.length_filter_le _ _) (by simp)
omit hr in
theorem az5k {p:Nat->Bool}{n:Nat}{x:Int}:x∈betL p n↔∃i:Nat,x=(i:Int)/\i<n/\p i=true:=by
 unfold betL;simp only[List.mem_map,List.mem_filter,List.mem_range];constructor
 ·rintro⟨i,⟨h1,h2⟩,rfl⟩;exact⟨i,rfl,h1,h2⟩
 ·rintro⟨i,rfl,h1,h2⟩;exact⟨i,⟨h1,h2⟩,rfl⟩
theorem Nzv {a b:Int}(a0: -1<=a)(a1:a<(r.Xb.length:Int))(b0: -1<=b)(b1:b<(r.Xb.length:Int)):
 ∃L:List Int,(Dz6 r a b).o=some L/\L.length<=r.Xb.length/\∀x:Int,x∈L↔∃i:Nat,x=(i:Int)/\i<r.Xb.length/\¬ (AncN (parN r) (a+1).toNat (i+1)↔AncN (parN r) (b+1).toNat (i+1)):=by
 have hr':=fzd hr;obtain⟨X,x1,x2,x3⟩:=Izy hr a0 a1;obtain⟨Y,y1,y2,y3⟩:=Izy hr b0 b1;let p:Nat->Bool:=λi=> !(qx ((i:Int)∈X)==qx ((i:Int)∈Y))
 refine⟨betL p r.Xb.length,?_,Xzn _ _,λx=>?_⟩
 ·show(uzb r a b).run NN=_;simp only[uzb,qk,dz4,hr,lzk,qM];rw[bzb rfl,show kzn r.Xb.length a=true by simp[kzn];omega,show kzn r.Xb.length b=true by simp[kzn];omega];simp only[qP,qd,az7,x1,y1,qM];refine(cz8 (λj=>(betL p j,(j:Int))) (betL p r.Xb.length) r.Xb.length rfl (show r.Xb.length<4294967296 from qa) (λj hj=>?_) ?_).trans rfl
  ·have:=Xzn p j;rw[az6 (by simpa using hj)];simp only[Fzy X _ (show X.length<4294967296 from qa),Fzy Y _ (show Y.length<4294967296 from qa),qM];rw[wn qa,az0z,aza ⟨by simp;omega,by simp[azg];omega⟩];show andC (bif p j then _ else _) _=_;cases p j<;>rfl
  ·rw[az5 (by simp)]
 ·rw[az5k];constructor
  ·rintro⟨i,h1,h2,h3⟩;refine⟨i,h1,h2,?_⟩;rw[<-x3,<-y3];intro hh;simp only[p,wd,beq_eq_false_iff_ne,ne_eq,decide_eq_decide]at h3;exact h3 hh
  ·rintro⟨i,h1,h2,h3⟩;refine⟨i,h1,h2,?_⟩;rw[<-x3,<-y3]at h3;simp only[p,wd,beq_eq_false_iff_ne,ne_eq,decide_eq_decide];exact h3
theorem Uzo {a b:Int}(a0: -1<=a)(a1:a<(r.Xb.length:Int))(b0: -1<=b)(b1:b<(r.Xb.length:Int)):(Jz0 r a b).o=some (qx (carN r (a+1).toNat=carN r (b+1).toNat)):=by
 have hr':=fzd hr;obtain⟨L,l1,l2,l3⟩:=Nzv hr a0 a1 b0 b1;show(Azz r a b).run NN=_;simp only[Azz,qk,dz4,hr,lzk,qM];rw[bzb rfl,show kzn r.Xb.length a=true by simp[kzn];omega,show kzn r.Xb.length b=true by simp[kzn];omega];simp only[qP,qd,az7,l1,qM];have hin:∀j,j<L.length->0<=L.getD j qw/\L.getD j qw<(r.Xb.length:Int):=λj hj=>by
  have:L.getD j qw∈L:=by rw[wo,wD hj,wE];exact wF hj
  obtain⟨i,h1,h2,-⟩:=(l3 _).1 this;rw[h1];omega
 refine(ezy (λj=>sw (qx ((r.Xb.getD (L.getD j qw).toNat qw).Lo<(r.Xb.getD (L.getD j qw).toNat qw).Hi)) false) L.length qa (λj hj=>?_) ?_).trans ?_
 ·rw[az6 qa,aza qa,qH,aza (hin j hj),aza qa,aza (hin j hj),wn qa,<-dzr]
 ·rw[az5 qa]
 ·rw[dz9];have:czh (λj=>qx ((r.Xb.getD (L.getD j qw).toNat qw).Lo<(r.Xb.getD (L.getD j qw).toNat qw).Hi)) L.length=qx (carN r (a+1).toNat=carN r (b+1).toNat):=by
   rw[qZ,noneB_iff,qf];unfold carN;rw[az7s (Lzn hr) qa qa qa];constructor
   ·intro h x hx;by_cases hA:AncN (parN r) (a+1).toNat x↔AncN (parN r) (b+1).toNat x
    ·exact hA
    ·exfalso
     have hx0:0<x/\x<=r.Xb.length:=by
      by_cases h1:AncN (parN r) (a+1).toNat x
      ·have:=h1.le (Lzn hr) qa;exact⟨h1.pos.2,qa⟩
      ·by_cases h2:AncN (parN r) (b+1).toNat x
       ·have:=h2.le (Lzn hr) qa;exact⟨h2.pos.2,qa⟩
       ·exact absurd ⟨λh=>absurd h h1,λh=>absurd h h2⟩ hA
     obtain⟨i,rfl⟩:∃i,x=i+1:=⟨x-1,qa⟩;have hm:(i:Int)∈L:=(l3 _).2 ⟨i,rfl,qa,hA⟩;obtain⟨j,hj,e⟩:=wC hm;have:=h j hj;have e2:L.getD j qw=(i:Int):=by rw[wo,wD hj,wE,e]
     rw[e2,qH,qi]at this;have jo:=(fzw hr (show i<r.Xb.length from qa)).lim.1;apply hx;simp only[wH];omega
   ·intro h j hj;have:L.getD j qw∈L:=by rw[wo,wD hj,wE];exact wF hj
    obtain⟨i,h1,h2,h3⟩:=(l3 _).1 this;rw[h1,qH,qi];intro hlt;exact h3 (h (i+1) (by show(r.Xb.getD (i+1-1) qw).Lo≠(r.Xb.getD (i+1-1) qw).Hi;simp only[wH];omega))
  rw[this];cases qx (carN r (a+1).toNat=carN r (b+1).toNat)<;>rfl
omit hr
def skB (l:List gz3)(a b:Int)(i:Nat):Bool:=((l.getD i qw).A==a&&(l.getD i qw).B==b)||((l.getD i qw).A==b&&(l.getD i qw).B==a)
def skV (s:azd)(a b:Int):Bool:= !czh (skB s.Xj a b) s.Xj.length
theorem Mzh (s:azd)(a b:Int)(h:s.Xj.length<4294967296):(Bz9 s a b).o=some (skV s a b):=by
 show(rz5 s a b).run NN=_;simp only[rz5,qk,bzf,az7,wI,ez1];refine(ezy (λi=>sw (skB s.Xj a b i) true) s.Xj.length h (λj hj=>?_) ?_).trans ?_
 ·rw[az6 qa,aza qa,wn qa,qH,<-dzr];rfl
 ·rw[az5 qa]
 ·rw[dz9];unfold skV;cases czh (skB s.Xj a b) s.Xj.length<;>rfl
theorem Nzw (s:azd)(a b:Int)(h:s.Xj.length<4294967296):(Dz7 s a b).o=some (skV s a b):=by
 show(uzc s a b).run NN=_;simp only[uzc,qk];refine(ezy (λi=>sw (skB s.Xj a b i) true) s.Xj.length h (λj hj=>?_) ?_).trans ?_
 ·rw[az6 qa,aza qa,wn qa,qH,<-dzr];unfold skB;cases (s.Xj.getD j qw).A==a<;>cases (s.Xj.getD j qw).B==b<;>cases (s.Xj.getD j qw).A==b<;>cases (s.Xj.getD j qw).B==a<;>rfl
 ·rw[az5 qa]
 ·rw[dz9];unfold skV;cases czh (skB s.Xj a b) s.Xj.length<;>rfl
section
variable (c:Nat->Nat->Bool)
def pin (L:List czg)(i:Nat):Nat->List czg
 |0=>L
 |m+1=>if c i (i+1+m)then pin L i m++[⟨(i:Int),((i+1+m:Nat):Int)⟩]else pin L i m
def pou (n:Nat):Nat->List czg
 |0=>nl
 |i+1=>pin c (pou n i) i (n- (i+1))
theorem Rz0 (L:List czg)(i:Nat):∀m,(pin c L i m).length<=L.length+m
 |0=>by simp[pin]
 |m+1=>by
  have:=Rz0 L i m;simp only[pin];split
  ·simp;omega
  ·omega
theorem Rz1 {n:Nat}:∀i,(pou c n i).length<=i * n
 |0=>by simp[pou,nl]
 |i+1=>by
  have h1:=Rz1 (n:=n) i;have h2:=Rz0 c (pou c n i) i (n- (i+1));simp only[pou];rw[Nat.add_mul];omega
end
def Lz7 (s:azd)(i:Nat):Int:=(s.Xd.getD i qw).Xp
def nzt (s:azd)(i k:Nat):Bool:= !qx (carN s.Xf (Lz7 s i+1).toNat=carN s.Xf (Lz7 s k+1).toNat)&& !skV s (Lz7 s i) (Lz7 s k)
def cz2 (s:azd):List czg:=if czi s=0 then pou (nzt s) s.Xd.length s.Xd.length else nl
theorem Uzn (s:azd):(Izz s).o=some (cz2 s):=by
 show(Azy s).run NN=_;simp only[Azy,qk,eza,qM,cz2];by_cases h:czi s=0
 ·have so:=Bz8 h;have so2:=so.len;have so3:=so.skips;rw[bzb h,qc h];refine(cz8 (λi=>(pou (nzt s) s.Xd.length i,(i:Int))) (pou (nzt s) s.Xd.length s.Xd.length) s.Xd.length rfl (show s.Xd.length<4294967296 from qa) (λi hi=>?_) ?_).trans rfl
  ·rw[az6 (by simpa using hi)];simp only[qH];rw[wn qa];refine(cz8 (λm=>(pin (nzt s) (pou (nzt s) s.Xd.length i) i m,((i+1+m:Nat):Int))) (pou (nzt s) s.Xd.length (i+1)) (s.Xd.length- (i+1)) rfl (show s.Xd.length- (i+1)<4294967296 from qa) (λm hm=>?_) ?_).trans rfl
   ·have hk:i+1+m<s.Xd.length:=qa
    have l1:=(vzk (so.shape i hi)).2;have l2:=(vzk (so.shape (i+1+m) hk)).2;have lp:=Rz0 (nzt s) (pou (nzt s) s.Xd.length i) i m;have lo:=Rz1 (nzt s) (n:=s.Xd.length) i;have li:i * s.Xd.length<=24 * 24:=qO qa qa;simp only[qH];rw[az6 qa,aza ⟨qa,qa⟩,aza ⟨qa,qa⟩,wn qa];simp only[Uzo so.robot l1.1 l1.2 l2.1 l2.2,Nzw s _ _ (show s.Xj.length<4294967296 from qa),qM,pin]
    have e:(andC (bif (s.Xd.getD i qw).Xp !=(s.Xd.getD (i+1+m) qw).Xp then bif !qx (carN s.Xf ((s.Xd.getD i qw).Xp+1).toNat=carN s.Xf ((s.Xd.getD (i+1+m) qw).Xp+1).toNat)then
     some (.out (!skV s (s.Xd.getD i qw).Xp (s.Xd.getD (i+1+m) qw).Xp))else some (.out false)else some (.out false)):(Bool->Option (Step3 Unit (List czg) (Step3 (List czg×Int) (List czg) (Step3 (List czg×Int) (List czg) (List czg)))))->_)=λk=>k (nzt s i (i+1+m)):=by
     funext k;by_cases hl:(s.Xd.getD i qw).Xp=(s.Xd.getD (i+1+m) qw).Xp
     ·rw[bzb hl,az7];have:nzt s i (i+1+m)=false:=by simp only[nzt,Lz7,hl,decide_true,qP,wJ]
      rw[this]
     ·rw[bzq hl];unfold nzt Lz7;cases qx (carN s.Xf ((s.Xd.getD i qw).Xp+1).toNat=carN s.Xf ((s.Xd.getD (i+1+m) qw).Xp+1).toNat)<;>rfl
    rw[e];simp only;rw[aza ⟨by simp;omega,by simp[azg];omega⟩];cases nzt s i (i+1+m)<;>rfl
   ·rw[az5 qa];rfl
  ·rw[az5 (by simp)]
 ·rw[bzq h,qb h]
theorem Rzo (s:azd):(Gz5 s).o=some (cz2 s):=by
 show(xzp s).run NN=_;simp only[xzp,qk,gzr,qM,cz2];by_cases h:czi s=0
 ·have so:=Bz8 h;have so2:=so.len;have so3:=so.skips;have so4:=fzd so.robot;rw[bzb h,qc h,Jzr so.robot,qM];refine(cz8 (λi=>(pou (nzt s) s.Xd.length i,(i:Int))) (pou (nzt s) s.Xd.length s.Xd.length) s.Xd.length rfl (show s.Xd.length<4294967296 from qa) (λi hi=>?_) ?_).trans rfl
  ·rw[az6 (by simpa using hi),aza ⟨by simp,by simpa using hi⟩];simp only[qH];rw[wn qa];refine(cz8 (λm=>(pin (nzt s) (pou (nzt s) s.Xd.length i) i m,((i+1+m:Nat):Int))) (pou (nzt s) s.Xd.length (i+1)) (s.Xd.length- (i+1)) rfl (show s.Xd.length- (i+1)<4294967296 from qa) (λm hm=>?_) ?_).trans rfl
   ·have hk:i+1+m<s.Xd.length:=qa
    have l1:=(vzk (so.shape i hi)).2;have l2:=(vzk (so.shape (i+1+m) hk)).2;have lp:=Rz0 (nzt s) (pou (nzt s) s.Xd.length i) i m;have lo:=Rz1 (nzt s) (n:=s.Xd.length) i;have li:i * s.Xd.length<=24 * 24:=qO qa qa;simp only[qH,cz4]
    rw[az6 qa,aza ⟨qa,qa⟩,w64 (x:=(s.Xd.getD i qw).Xp+1) qa qa,w64 (x:=(s.Xd.getD (i+1+m) qw).Xp+1) qa qa,
     aza ⟨qa,qa⟩,aza ⟨qa,qa⟩,wn qa,iz6 qa,iz6 qa]
    simp only[Mzh s _ _ (show s.Xj.length<4294967296 from qa),qM,pin]
    have e:(andC (bif !(caP s.Xf ((s.Xd.getD i qw).Xp+1).toNat==caP s.Xf ((s.Xd.getD (i+1+m) qw).Xp+1).toNat)then
     some (.out (!skV s (s.Xd.getD i qw).Xp (s.Xd.getD (i+1+m) qw).Xp))else some (.out false)):(Bool->Option (Step3 Unit (List czg) (Step3 (List czg×Int) (List czg) (Step3 (List czg×Int) (List czg) (List czg)))))->_)=λk=>k (nzt s i (i+1+m)):=by
     funext k;have e1:(caP s.Xf ((s.Xd.getD i qw).Xp+1).toNat==caP s.Xf ((s.Xd.getD (i+1+m) qw).Xp+1).toNat)=qx (carN s.Xf ((s.Xd.getD i qw).Xp+1).toNat=carN s.Xf ((s.Xd.getD (i+1+m) qw).Xp+1).toNat):=by
      rw[qZ];unfold caP;simp only[qj,qf];omega
     rw[e1];unfold nzt Lz7;cases qx (carN s.Xf ((s.Xd.getD i qw).Xp+1).toNat=carN s.Xf ((s.Xd.getD (i+1+m) qw).Xp+1).toNat)<;>rfl
    rw[e];simp only;rw[aza ⟨by simp;omega,by simp[azg];omega⟩];cases nzt s i (i+1+m)<;>rfl
   ·rw[az5 qa];rfl
  ·rw[az5 (by simp)]
 ·rw[bzq h,qb h]
theorem u64w {x:Int}(h0:0<=x)(h1:x<18446744073709551616):IntKind.u64.wrap x=x:=by
 show(if(false&&qx (x % 18446744073709551616>=9223372036854775808))=true then x % 18446744073709551616-18446744073709551616 else x % 18446744073709551616)=x;rw[qb (by simp)];omega
theorem u8w {x:Int}(h0:0<=x)(h1:x<256):IntKind.u8.wrap x=x:=by
 show(if(false&&qx (x % 256>=128))=true then x % 256-256 else x % 256)=x;rw[qb (by simp)];omega
def IsRoot (n s:Int):Prop:=0<=s/\s * s<=n/\n<(s+1) * (s+1)
theorem IsRoot.uniq {n s t:Int}(h1:IsRoot n s)(h2:IsRoot n t):s=t:=by
 obtain⟨a0,a1,a2⟩:=h1;obtain⟨b0,b1,b2⟩:=h2;by_cases h:s<t
 ·have:(s+1) * (s+1)<=t * t:=qR qa qa qa qa;omega
 ·by_cases h':t<s
  ·have:(t+1) * (t+1)<=s * s:=qR qa qa qa qa;omega
  ·omega
theorem Wzu {n:Int}(h0:1<=n)(h1:n<4611686018427387904):∃s,(qzv n).o=some s/\IsRoot n s:=by
 have e0:(qzv n).o=(Ez1 n).run NN:=rfl;rw[e0];simp only[Ez1,qk];rw[az5 qa]
 refine Qz6 (β:=Int) (g:=λs=>some s) (P:=λs=>IsRoot n s) (λ(y:Int×Int)=>1<=y.1/\y.1<y.2/\y.2<=4294967296/\y.1 * y.1<=n/\n<y.2 * y.2) (λy=>(y.2-y.1).toNat) (λs=>IsRoot n s)
  ⟨by decide,by decide,by decide,qa,by simp only;omega⟩ (by decide) (λy hy=>?_) (λs hs=>⟨s,rfl,hs⟩)
 obtain⟨a1,a2,a3,a4,a5⟩:=hy;rw[w64 (x:=y.2-y.1) qa qa];by_cases hd:y.2-y.1>1
 ·left;rw[az6 hd,gz1 qa,w64 (x:=(y.2-y.1) / 2) qa qa,w64 (x:=y.1+(y.2-y.1) / 2) qa qa,aza qa];generalize hm:y.1+(y.2-y.1) / 2=m;have m1:y.1<m/\m<y.2:=qa
  have q:=Iz8 (a:=n) (b:=m) qa;have q1:=q.1 qa;rw[gz1 qa,w64 (x:=n / m) qa qa];have key:m<=n / m↔m * m<=n:=qJ qa;by_cases hc:m<=n / m
  ·rw[az6 hc];exact⟨_,rfl,⟨by simp only;omega,by simp only;omega,a3,key.1 hc,a5⟩,by simp only;omega⟩
  ·rw[az5 hc];exact⟨_,rfl,⟨a1,by simp only;omega,by simp only;omega,a4,by simp only;have:=mt key.2 hc;omega⟩,by simp only;omega⟩
 ·right;rw[az5 hd];exact⟨_,rfl,qa,a4,by rw[show y.1+1=y.2 from qa];exact a5⟩
def lenT (b:Nat):Nat:=((#[0,1,2,2,3,3,3,3,4,4,4,4,4,4,4,4,5,5,5,5,5,5,5,5,5,5,5,5,5,5,5,5,6,6,6,6,6,6,6,6,6,6,6,6,6,6,6,6,6,6,6,6,6,6,6,6,6,6,6,6,6,6,6,6,7,7,7,7,7,7,7,7,7,7,7,7,7,7,7,7,7,7,7,7,7,7,7,7,7,7,7,7,7,7,7,7,7,7,7,7,7,7,7,7,7,7,7,7,7,7,7,7,7,7,7,7,7,7,7,7,7,7,7,7,7,7,7,7,8,8,8,8,8,8,8,8,8,8,8,8,8,8,8,8,8,8,8,8,8,8,8,8,8,8,8,8,8,8,8,8,8,8,8,8,8,8,8,8,8,8,8,8,8,8,8,8,8,8,8,8,8,8,8,8,8,8,8,8,8,8,8,8,8,8,8,8,8,8,8,8,8,8,8,8,8,8,8,8,8,8,8,8,8,8,8,8,8,8,8,8,8,8,8,8,8,8,8,8,8,8,8,8,8,8,8,8,8,8,8,8,8,8,8,8,8,8,8,8,8,8,8,8,8,8,8,8]:Array UInt8).getD b 0).toNat
theorem aza8:∀b,b<256->b<2 ^ lenT b/\lenT b<=8:=of_decide_eq_true (by kernel_rfl)
def lenE (y:Int×Int):Option Int:=grd (0<=IntKind.u8.wrap y.1/\IntKind.u8.wrap y.1<((256:Nat):Int)) (some (qv.wrap (y.2+qv.wrap ((lenT (IntKind.u8.wrap y.1).toNat:Nat):Int))))
theorem azcs (n:Int):(mzd n).o=
 andC (bif qx (n>=4294967296)then some (.out (n.fdiv (2 ^ min (32:Int).toNat 64),32))else some (.out (n,0)):Option (Step3 Unit (Int×Int) Int)) λy5=>
 andC (bif qx (y5.1>=65536)then some (.out (y5.1.fdiv (2 ^ min (16:Int).toNat 64),qv.wrap (y5.2+16)))else some (.out (y5.1,y5.2)):Option (Step3 Unit (Int×Int) Int)) λy6=>
 andC (bif qx (y6.1>=256)then some (.out (y6.1.fdiv (2 ^ min (8:Int).toNat 64),qv.wrap (y6.2+8)))else some (.out (y6.1,y6.2)):Option (Step3 Unit (Int×Int) Int)) λy7=>lenE y7:=by kernel_rfl
theorem Hzb {n:Int}(h0:0<=n)(h1:n<4294967296):∃L:Nat,(mzd n).o=some (L:Int)/\n<2 ^ L/\L<=32:=by
 rw[azcs,az5 qa,az7];have fin:∀ (x:Int) (k:Nat),0<=x->x<256->k<=24->n<(x+1) * 2 ^ k->∃L:Nat,lenE (x,(k:Int))=some (L:Int)/\n<2 ^ L/\L<=32:=by
  intro x k x0 x1 hk hn;obtain⟨b,rfl⟩:∃b:Nat,x=(b:Int):=⟨x.toNat,qa⟩;have hb:=aza8 b qa;unfold lenE;simp only;rw[u8w qa qa,aza ⟨qa,qa⟩,qH,w64 (x:=((lenT b:Nat):Int)) qa qa,w64 qa qa];refine⟨k+lenT b,by rw[Int.natCast_add],?_,qa⟩;have h2:(((b+1:Nat):Int)) * 2 ^ k<=2 ^ lenT b * 2 ^ k:=by
   refine wK ?_ (qG (czp k))
   exact_mod_cast hb.1
  rw[Nat.add_comm,qK];have h3:((b:Int)+1)=((b+1:Nat):Int):=qa
  rw[h3]at hn;omega
 have s16:∀x:Int,x.fdiv (2 ^ min (wL 16) 64)=x / 65536:=λx=>Bzl x 16
 have s8:∀x:Int,x.fdiv (2 ^ min (wL 8) 64)=x / 256:=λx=>Bzl x 8
 have p24:(2:Int) ^ 24=16777216:=by decide
 have p16:(2:Int) ^ 16=65536:=by decide
 have p8:(2:Int) ^ 8=256:=by decide
 have e16:qv.wrap (0+16)=16:=by decide
 have e8:qv.wrap (0+8)=8:=by decide
 have e24:qv.wrap (16+8)=24:=by decide
 by_cases c1:n>=65536
 ·rw[az6 c1,az7,s16,e16];by_cases c2:n / 65536>=256
  ·rw[az6 c2,az7,s8,e24];exact fin _ 24 qa qa qa (by rw[p24];omega)
  ·rw[az5 c2,az7];exact fin _ 16 qa qa qa (by rw[p16];omega)
 ·rw[az5 c1,az7];by_cases c2:n>=256
  ·rw[az6 c2,az7,s8,e8];exact fin _ 8 qa qa qa (by rw[p8];omega)
  ·rw[az5 c2,az7];exact fin _ 0 qa qa qa (by simp only[Int.pow_zero];omega)
theorem Tz1 {n:Int}(h0:1<=n)(h1:n<4294967296):∃s,(zzf n).o=some s/\IsRoot n s:=by
 have e0:(zzf n).o=(zzg n).run NN:=rfl;rw[e0];obtain⟨L,l1,l2,l3⟩:=Hzb (n:=n) qa h1;simp only[zzg,qk];rw[az5 qa,u64w (x:=n) qa qa,l1,qM,w64 (x:=(L:Int)+1) qa qa,gz1 qa,w64 (x:=((L:Int)+1) / 2) qa qa,aza qa];obtain⟨W,hW⟩:∃W:Nat,((L:Int)+1) / 2=(W:Int):=⟨(L+1) / 2,qa⟩;rw[hW,qH,qI qa,wu];have hw16:W<=16:=qa
 have hpw:(2:Int) ^ W<=65536:=by
  have:(2:Int) ^ W<=2 ^ 16:=by exact_mod_cast wt (by decide:0<2) hw16
  have e:(2:Int) ^ 16=65536:=by decide
  omega
 have hp0:=czp W;rw[u64w (x:=2 ^ W) qa qa];have hn4:n<2 ^ W * 2 ^ W:=by
  rw[<-qK];have:(2:Int) ^ L<=2 ^ (W+W):=by exact_mod_cast wt (by decide:0<2) (show L<=W+W from qa)
  omega
 refine Qz6 (β:=Int) (g:=λs=>some s) (P:=λs=>IsRoot n s) (λ(y:Int×Int×Int)=>∃k:Nat,y.2.2=((W-k:Nat):Int)/\k<=W/\y.2.1=2 ^ k/\0<=y.1/\y.1<=2 ^ W-2 ^ k/\y.1 * y.1<=n/\n<(y.1+2 ^ k) * (y.1+2 ^ k))
  (λy=>((W:Int)-y.2.2).toNat) (λs=>IsRoot n s) ⟨W,by simp,ql _,rfl,by simp,by simp,by simp;omega,by simp only[Int.zero_add];exact hn4⟩ (by show _<4294967296;simp only;omega) (λy hy=>?_) (λs hs=>⟨qv.wrap s,rfl,?_⟩)
 ·obtain⟨k,b1,b2,b3,b4,b5,b6,b7⟩:=hy;rw[b1,b3];cases k with
  |zero=>
   right;rw[az5 qa];exact⟨_,rfl,b4,b6,by simpa using b7⟩
  |succ k=>
   left;have hk2:(2:Int) ^ (k+1)=2 * 2 ^ k:=by rw[wM];omega
   have hkp:=czp k;rw[az6 qa,gz1 qa,show(2:Int) ^ (k+1) / 2=2 ^ k from qa,u64w (x:=2 ^ k) qa qa,u64w (x:=y.1+2 ^ k) qa qa];have hsq:(y.1+2 ^ k) * (y.1+2 ^ k)<=65536 * 65536:=qR qa qa qa qa;have hsq0:0<=(y.1+2 ^ k) * (y.1+2 ^ k):=qQ qa qa;rw[u64w (x:=(y.1+2 ^ k) * (y.1+2 ^ k)) hsq0 qa];have hi:qv.wrap (((W- (k+1):Nat):Int)+1)=((W-k:Nat):Int):=by rw[w64 qa qa];omega
   rw[hi];by_cases hc:(y.1+2 ^ k) * (y.1+2 ^ k)<=n
   ·rw[az6 hc,az7];exact⟨_,rfl,⟨k,rfl,qa,rfl,by simp only;omega,by simp only;omega,hc,by simp only;rw[show y.1+2 ^ k+2 ^ k=y.1+2 ^ (k+1) from qa];exact b7⟩,by simp only;omega⟩
   ·rw[az5 hc,az7];exact⟨_,rfl,⟨k,rfl,qa,rfl,b4,by simp only;omega,b6,by simp only;omega⟩,by simp only;omega⟩
 ·obtain⟨c1,c2,c3⟩:=hs;have:s<=n:=by
   by_cases hz:s=0
   ·omega
   ·have:s * 1<=s * s:=qL qa c1;omega
  rw[w64 qa qa];exact⟨c1,c2,c3⟩
def yzr (n:Int):Int:=(qzv n).o.getD 0
theorem Zz7 {n:Int}(h0:1<=n)(h1:n<4294967296):IsRoot n (yzr n)/\(qzv n).o=some (yzr n):=by
 obtain⟨s,e,h⟩:=Wzu h0 qa;unfold yzr;rw[e];exact⟨h,rfl⟩
theorem az4h {n s:Int}(h0:1<=n)(h:IsRoot n s):s<=n:=by
 obtain⟨c1,c2,-⟩:=h;by_cases hz:s=0
 ·omega
 ·have:s * 1<=s * s:=qL qa c1;omega
def rupV (n:Int):Int:=if yzr n * yzr n<n then yzr n+1 else yzr n
theorem Nz6 {n:Int}(h0:1<=n)(h1:n<4294967296):(Czg n).o=some (rupV n):=by
 obtain⟨s,e,h⟩:=Tz1 h0 h1;obtain⟨k1,k2⟩:=Zz7 h0 h1;have es:s=yzr n:=h.uniq k1;have sl:=az4h h0 k1;obtain⟨r1,r2,r3⟩:=k1;show(tz3 n).run NN=_;simp only[tz3,qk,e,qM,es,rupV];rw[w64 (x:=yzr n * yzr n) (by have:=qQ r1 r1;omega) qa,w64 (x:=yzr n+1) qa qa];by_cases hc:yzr n * yzr n<n
 ·rw[az6 hc,qc hc,az7]
 ·rw[az5 hc,qb hc,az7]
theorem Rzc {n:Int}(h0:1<=n)(h1:n<4294967296):(Fzu n).o=some (rupV n):=by
 obtain⟨k1,k2⟩:=Zz7 h0 h1;have sl:=az4h h0 k1;obtain⟨r1,r2,r3⟩:=k1;show(xza n).run NN=_;simp only[xza,qk,k2,qM,rupV];rw[az6 qa,az7,w64 (x:=yzr n * yzr n) (by have:=qQ r1 r1;omega) qa,w64 (x:=yzr n+1) qa qa];by_cases hc:yzr n * yzr n<n
 ·rw[az6 hc,qc hc,az7]
 ·rw[az5 hc,qb hc,az7]
abbrev V3:=Int×Int×Int
def cz0 (n:V3):Bool:= !((n.1==0)&&((n.2.1==0)&&((n.2.2==0)&&true)))&&hze n 16384
theorem hzc (n:V3):(fz3 n).o=some (cz0 n):=by
 show(tzp n).run NN=_;simp only[tzp,qk,gzq n (show(0:Int)<=16384 by decide) (by decide),qM,cz0];cases (n.1==0)&&((n.2.1==0)&&((n.2.2==0)&&true))<;>rfl
def bey2 (x:Int):Bool:=qx (x< -16384)||qx (x>16384)
theorem izj (v:V3):(fz8 v).o=some (hze v 16384):=by
 show(mzx v).run NN=_;simp only[mzx,qk,bzf,az7,ez1];refine(ezy (λi=>sw (bey2 (([v.1,v.2.1,v.2.2]:List Int).getD i 0)) false) 3 (by decide) (λj hj=>?_) ?_).trans ?_
 ·rw[az6 qa,aza qa,wn qa,qH,<-dzr];rfl
 ·rw[az5 qa]
 ·rw[dz9];have:czh (λi=>bey2 (([v.1,v.2.1,v.2.2]:List Int).getD i 0)) 3=hze v 16384:=by
   rw[qZ,noneB_iff,nearV_iff];constructor
   ·intro h;have a:=h 0 (by decide);have b:=h 1 (by decide);have c:=h 2 (by decide);simp only[bey2,wh,wi,qq,qi]at a b c;omega
   ·intro h i hi
    match i,hi with
    |0,_=>simp only[bey2,wh,qq,qi];omega
    |1,_=>simp only[bey2,wh,wi,qq,qi];omega
    |2,_=>simp only[bey2,wh,wi,qq,qi];omega
  rw[this];cases hze v 16384<;>rfl
theorem fzl (n:V3):(fzk n).o=some (cz0 n):=by
 show(ozz n).run NN=_;simp only[ozz,qk,izj,qM,cz0];cases hze n 16384<;>cases (n.1==0)&&((n.2.1==0)&&((n.2.2==0)&&true))<;>rfl
theorem Mzs {n:V3}(h:cz0 n=true):((-16384<=n.1/\n.1<=16384)/\(-16384<=n.2.1/\n.2.1<=16384)/\(-16384<=n.2.2/\n.2.2<=16384))/\(n.1≠0\/n.2.1≠0\/n.2.2≠0):=by
 simp only[cz0,qn,nearV_iff,wd,we,beq_eq_false_iff_ne,ne_eq,wI]at h;refine⟨h.2,?_⟩;rcases h.1 with h|h|h
 ·exact Or.inl h
 ·exact Or.inr (Or.inl h)
 ·exact Or.inr (Or.inr h)
theorem azbg {x:Int}(h: -16384<=x/\x<=16384):0<=x * x/\x * x<=268435456/\(x≠0->1<=x * x):=by
 have h1:(x * x).natAbs<=16384 * 16384:=by rw[qN];exact qO qa qa
 have h0:0<=x * x:=by
  by_cases hx:0<=x
  ·exact qQ hx hx
  ·exact Int.mul_nonneg_of_nonpos_of_nonpos qa qa
 refine⟨h0,qa,λhx=>?_⟩;have:x * x≠0:=Int.mul_ne_zero hx hx;omega
def sqV (n:V3):Int:=n.1 * n.1+n.2.1 * n.2.1+n.2.2 * n.2.2
def Wzf (n:V3):Int:=if cz0 n then rupV (sqV n)else 0
theorem az90 {n:V3}(h:cz0 n=true):1<=sqV n/\sqV n<4294967296/\qv.wrap (qv.wrap (qv.wrap (n.1 * n.1)+qv.wrap (n.2.1 * n.2.1))+qv.wrap (n.2.2 * n.2.2))=sqV n:=by
 obtain⟨⟨b1,b2,b3⟩,hz⟩:=Mzs h;have s1:=azbg b1;have s2:=azbg b2;have s3:=azbg b3;unfold sqV;rw[w64 (x:=n.1 * n.1) qa qa,w64 (x:=n.2.1 * n.2.1) qa qa,w64 (x:=n.2.2 * n.2.2) qa qa,w64 (x:=n.1 * n.1+n.2.1 * n.2.1) qa qa,w64 qa qa];refine⟨?_,qa,rfl⟩;rcases hz with h|h|h
 ·have:=s1.2.2 h;omega
 ·have:=s2.2.2 h;omega
 ·have:=s3.2.2 h;omega
theorem uzp (n:V3):(uzn n).o=some (Wzf n):=by
 show(uzo n).run NN=_;simp only[uzo,qk,T.ix,fzl,qM,Wzf];cases h:cz0 n
 ·rfl
 ·have hs:=az90 h;simp only[qP,qd,if_true];rw[hs.2.2,Nz6 hs.1 hs.2.1];rfl
theorem Az8 (n:V3):(sz3 n).o=some (Wzf n):=by
 show(Az7 n).run NN=_;simp only[Az7,qk,T.ix,hzc,qM,Wzf];cases h:cz0 n
 ·rfl
 ·have hs:=az90 h;simp only[qP,qd,if_true];rw[hs.2.2,Rzc hs.1 hs.2.1];rfl
def rng (x:az0):Bool:= !(qx (x.Lo< -268435456)||(qx (x.Lo>x.Hi)||qx (x.Hi>268435456)))
theorem az4e {x:az0}:rng x=true↔ -268435456<=x.Lo/\x.Lo<=x.Hi/\x.Hi<=268435456:=by
 simp only[rng,wd,qq,qi];omega
def izg (v:IV3):Bool:=rng v.1&&(rng v.2.1&&rng v.2.2)
def farL (l:List IV3)(i:Nat):Bool:= !izg (l.getD i qw)
def cz3 (l:List IV3):Bool:=qx (1<=l.length/\l.length<=8)&&czh (farL l) l.length
theorem vz8 {l:List IV3}(h:cz3 l=true){i:Nat}(hi:i<l.length):izg (l.getD i qw)=true:=by
 simp only[cz3,qn]at h;have:=noneB_iff.1 h.2 i hi;simpa[farL]using this
theorem ezp {l:List IV3}(h:cz3 l=true):1<=l.length/\l.length<=8:=by
 simp only[cz3,qn,qf]at h;exact h.1
theorem Az9 (v:IV3):(qzm v).o=some (izg v):=by
 show(qzn v).run NN=_;simp only[qzn,qk,T.ix,bzf,az7,ez1,izg,rng]
 cases qx (v.1.Lo< -268435456)||(qx (v.1.Lo>v.1.Hi)||qx (v.1.Hi>268435456))<;>cases qx (v.2.1.Lo< -268435456)||(qx (v.2.1.Lo>v.2.1.Hi)||qx (v.2.1.Hi>268435456))<;>
  cases qx (v.2.2.Lo< -268435456)||(qx (v.2.2.Lo>v.2.2.Hi)||qx (v.2.2.Hi>268435456))<;>rfl
theorem ezf (l:List IV3):(dzs l).o=some (cz3 l):=by
 show(uzk l).run NN=_;simp only[uzk,qk,T.ix,bzf,az7,ez1,cz3];by_cases h:1<=l.length/\l.length<=8
 ·rw[qg h,qh (p:=(l.length:Int)<1) qa,qh (p:=(l.length:Int)>8) qa];simp only[wj,qd,qS];refine(ezy (λi=>sw (farL l i) false) l.length qa (λj hj=>?_) ?_).trans ?_
  ·rw[az6 qa,aza qa,wn qa,qH,<-dzr];unfold farL izg rng;generalize l.getD j qw=v
   cases qx (v.1.Lo< -268435456)||(qx (v.1.Lo>v.1.Hi)||qx (v.1.Hi>268435456))<;>cases qx (v.2.1.Lo< -268435456)||(qx (v.2.1.Lo>v.2.1.Hi)||qx (v.2.1.Hi>268435456))<;>
    cases qx (v.2.2.Lo< -268435456)||(qx (v.2.2.Lo>v.2.2.Hi)||qx (v.2.2.Hi>268435456))<;>rfl
  ·rw[az5 qa]
  ·rw[dz9];cases czh (farL l) l.length<;>rfl
 ·rw[qh h];by_cases h1:(l.length:Int)<1
  ·rw[qg h1];rfl
  ·rw[qh h1,qg (p:=(l.length:Int)>8) qa];rfl
theorem hzb (l:List IV3):(eze l).o=some (cz3 l):=by
 show(tzn l).run NN=_;simp only[tzn,qk,bzf,az7,Az9,qM];refine(ezy (λi=>sw (farL l i) false) (min l.length 9) qa (λj hj=>?_) ?_).trans ?_
 ·have e:(bif qx ((j:Int)<(l.length:Int))then qx ((j:Int)<=8)else false)=true:=by rw[az6 qa,qg (p:=(j:Int)<=8) qa]
  rw[e,qe,aza qa,wn qa,qH,<-dzr];rfl
 ·have e:(bif qx (((min l.length 9:Nat):Int)<(l.length:Int))then qx (((min l.length 9:Nat):Int)<=8)else false)=false:=by
   by_cases hl:l.length<=8
   ·rw[az5 qa]
   ·by_cases h9:((min l.length 9:Nat):Int)<(l.length:Int)
    ·rw[az6 h9,qh (p:=((min l.length 9:Nat):Int)<=8) qa]
    ·rw[az5 h9]
  rw[e,qd]
 ·rw[dz9];unfold cz3;by_cases h:1<=l.length/\l.length<=8
  ·rw[qg h,qI qa,qS];cases czh (farL l) l.length
   ·rfl
   ·show(bif qx ((l.length:Int)>=1)then _ else _)=_;rw[az6 qa,qg (p:=(l.length:Int)<=8) qa]
  ·rw[qh h,wJ];cases czh (farL l) (min l.length 9)
   ·rfl
   ·show(bif qx ((l.length:Int)>=1)then _ else _)=_;by_cases h1:(l.length:Int)>=1
    ·rw[az6 h1,qh (p:=(l.length:Int)<=8) qa]
    ·rw[az5 h1]
def dLo (n:V3)(v:IV3):Int:=min (n.1 * v.1.Lo) (n.1 * v.1.Hi)+min (n.2.1 * v.2.1.Lo) (n.2.1 * v.2.1.Hi)+min (n.2.2 * v.2.2.Lo) (n.2.2 * v.2.2.Hi)
def dHi (n:V3)(v:IV3):Int:=max (n.1 * v.1.Lo) (n.1 * v.1.Hi)+max (n.2.1 * v.2.1.Lo) (n.2.1 * v.2.1.Hi)+max (n.2.2 * v.2.2.Lo) (n.2.2 * v.2.2.Hi)
theorem Qzq {a b:Int}(ha: -16384<=a/\a<=16384)(hb: -268435456<=b/\b<=268435456): -4398046511104<=a * b/\a * b<=4398046511104:=by
 have h:(a * b).natAbs<=16384 * 268435456:=by rw[qN];exact qO qa qa
 omega
theorem az88 {n:V3}{v:IV3}(hn:cz0 n=true)(hv:izg v=true):
 qv.wrap (qv.wrap (qv.wrap (0+min (qv.wrap (n.1 * v.1.Lo)) (qv.wrap (n.1 * v.1.Hi)))+min (qv.wrap (n.2.1 * v.2.1.Lo)) (qv.wrap (n.2.1 * v.2.1.Hi)))+min (qv.wrap (n.2.2 * v.2.2.Lo)) (qv.wrap (n.2.2 * v.2.2.Hi)))=dLo n v/\
 qv.wrap (qv.wrap (qv.wrap (0+max (qv.wrap (n.1 * v.1.Lo)) (qv.wrap (n.1 * v.1.Hi)))+max (qv.wrap (n.2.1 * v.2.1.Lo)) (qv.wrap (n.2.1 * v.2.1.Hi)))+max (qv.wrap (n.2.2 * v.2.2.Lo)) (qv.wrap (n.2.2 * v.2.2.Hi)))=dHi n v/\
 (-13194139533312<=dLo n v/\dLo n v<=13194139533312)/\(-13194139533312<=dHi n v/\dHi n v<=13194139533312):=by
 obtain⟨⟨b1,b2,b3⟩,-⟩:=Mzs hn;simp only[izg,qn,az4e]at hv;obtain⟨v1,v2,v3⟩:=hv;have p1:=Qzq b1 (show -268435456<=v.1.Lo/\v.1.Lo<=268435456 from qa);have p2:=Qzq b1 (show -268435456<=v.1.Hi/\v.1.Hi<=268435456 from qa);have p3:=Qzq b2 (show -268435456<=v.2.1.Lo/\v.2.1.Lo<=268435456 from qa);have p4:=Qzq b2 (show -268435456<=v.2.1.Hi/\v.2.1.Hi<=268435456 from qa);have p5:=Qzq b3 (show -268435456<=v.2.2.Lo/\v.2.2.Lo<=268435456 from qa);have p6:=Qzq b3 (show -268435456<=v.2.2.Hi/\v.2.2.Hi<=268435456 from qa);unfold dLo dHi;generalize n.1 * v.1.Lo=x1 at *
 generalize n.1 * v.1.Hi=x2 at *
 generalize n.2.1 * v.2.1.Lo=x3 at *
 generalize n.2.1 * v.2.1.Hi=x4 at *
 generalize n.2.2 * v.2.2.Lo=x5 at *
 generalize n.2.2 * v.2.2.Hi=x6 at *
 rw[w64 (x:=x1) qa qa,w64 (x:=x2) qa qa,w64 (x:=x3) qa qa,w64 (x:=x4) qa qa,w64 (x:=x5) qa qa,w64 (x:=x6) qa qa];rw[w64 (x:=0+min x1 x2) qa qa,w64 (x:=0+max x1 x2) qa qa,w64 (x:=0+min x1 x2+min x3 x4) qa qa,w64 (x:=0+max x1 x2+max x3 x4) qa qa,w64 qa qa,w64 qa qa];refine⟨qa,qa,⟨qa,qa⟩,⟨qa,qa⟩⟩
theorem Gzk {n:V3}{v:IV3}(hn:cz0 n=true)(hv:izg v=true):(xzv n v).o=some (dLo n v,dHi n v):=by
 have h:=az88 hn hv;show(xzw n v).run NN=_;simp only[xzw,qk,T.ix,h.1,h.2.1]
theorem Lzw {n:V3}{v:IV3}(hn:cz0 n=true)(hv:izg v=true):(Dzv n v).o=some (dLo n v,dHi n v):=by
 have h:=az88 hn hv;show(Dzw n v).run NN=_;simp only[Dzw,qk,T.ix,hzc,Az9,hn,hv,qM,qP,qd,az7,h.1,h.2.1]
def bst (c:Int->Int->Bool)(f:Nat->Int):Nat->Int×Int
 |0=>(0,0)
 |j+1=>if qx (j=0)||c (f j) (bst c f j).1 then(f j,(j:Int))else bst c f j
def ltB (a b:Int):Bool:=qx (a<b)
def gtB (a b:Int):Bool:=qx (a>b)
def Ezy (n:V3)(l:List IV3):Int×Int:=bst ltB (λi=>dLo n (l.getD i qw)) l.length
def Ezu (n:V3)(l:List IV3):Int×Int:=bst gtB (λi=>dHi n (l.getD i qw)) l.length
section
variable {n:V3} {l:List IV3} (hn:cz0 n=true) (hl:cz3 l=true)
include hn hl
theorem Jzd:(yz4 n.1 n.2.1 n.2.2 l).o=some ((Ezy n l).1,(Ezy n l).2,n.1,n.2.1,n.2.2):=by
 have hlen:=ezp hl;show(ozb n.1 n.2.1 n.2.2 l).run NN=_;simp only[ozb,qk];refine(cz8 (λj=>(n.1,n.2.1,n.2.2,(bst ltB (λi=>dLo n (l.getD i qw)) j).1,(bst ltB (λi=>dLo n (l.getD i qw)) j).2,(j:Int))) (n.1,n.2.1,n.2.2,(Ezy n l).1,(Ezy n l).2) l.length rfl (show l.length<4294967296 from qa) (λj hj=>?_) ?_).trans rfl
 ·rw[az6 (by simpa using hj),aza ⟨by simp,by simpa using hj⟩];have e1:(pz4 (l.getD j qw) n.1 n.2.1 n.2.2).o=some (dLo n (l.getD j qw),n.1,n.2.1,n.2.2):=by
   show(izt (l.getD j qw) n.1 n.2.1 n.2.2).run NN=_;simp only[izt,qk,Gzk (n:=(n.1,n.2.1,n.2.2)) hn (vz8 hl hj),qM]
  have e2:∀a b,(pz5 a b).o=some (ltB a b):=λa b=>rfl
  simp only[qH,e1,e2,qM];rw[wn qa];simp only[bzf,az7,bst];have e:((j:Int)==0)=qx (j=0):=by rw[qZ];simp
  rw[e,ez1];cases qx (j=0)||ltB (dLo n (l.getD j qw)) (bst ltB (λi=>dLo n (l.getD i qw)) j).1<;>rfl
 ·rw[az5 (by simp)];rfl
theorem Ezp:(rzl n.1 n.2.1 n.2.2 l).o=some ((Ezu n l).1,(Ezu n l).2,n.1,n.2.1,n.2.2):=by
 have hlen:=ezp hl;show(kzc n.1 n.2.1 n.2.2 l).run NN=_;simp only[kzc,qk];refine(cz8 (λj=>(n.1,n.2.1,n.2.2,(bst gtB (λi=>dHi n (l.getD i qw)) j).1,(bst gtB (λi=>dHi n (l.getD i qw)) j).2,(j:Int))) (n.1,n.2.1,n.2.2,(Ezu n l).1,(Ezu n l).2) l.length rfl (show l.length<4294967296 from qa) (λj hj=>?_) ?_).trans rfl
 ·rw[az6 (by simpa using hj),aza ⟨by simp,by simpa using hj⟩];have e1:(szi (l.getD j qw) n.1 n.2.1 n.2.2).o=some (dHi n (l.getD j qw),n.1,n.2.1,n.2.2):=by
   show(lzu (l.getD j qw) n.1 n.2.1 n.2.2).run NN=_;simp only[lzu,qk,Gzk (n:=(n.1,n.2.1,n.2.2)) hn (vz8 hl hj),qM]
  have e2:∀a b,(szj a b).o=some (gtB a b):=λa b=>rfl
  simp only[qH,e1,e2,qM];rw[wn qa];simp only[bzf,az7,bst];have e:((j:Int)==0)=qx (j=0):=by rw[qZ];simp
  rw[e,ez1];cases qx (j=0)||gtB (dHi n (l.getD j qw)) (bst gtB (λi=>dHi n (l.getD i qw)) j).1<;>rfl
 ·rw[az5 (by simp)];rfl
end
def Ozj (n:V3)(l:List IV3):Int×Int×Bool:=bif cz0 n&&cz3 l then((Ezy n l).1,(Ezy n l).2,true)else(0,0,false)
def Ozf (n:V3)(l:List IV3):Int×Int×Bool:=bif cz0 n&&cz3 l then((Ezu n l).1,(Ezu n l).2,true)else(0,0,false)
theorem Mzo (n:V3)(l:List IV3):(Bzf n l).o=some (Ozj n l):=by
 show(rze n l).run NN=_;have e1:(szh (n.1,n.2.1,n.2.2)).o=some (n.1,n.2.1,n.2.2):=rfl;simp only[rze,qk,fzl,ezf,qM,Ozj,e1];cases hn:cz0 n
 ·rfl
 ·cases hl:cz3 l
  ·rfl
  ·simp only[qP,qd,az7,Jzd hn hl,qM,qT,qe]
theorem Gzj (n:V3)(l:List IV3):(szg n l).o=some (Ozf n l):=by
 show(lzt n l).run NN=_;have e1:(yzo (n.1,n.2.1,n.2.2)).o=some (n.1,n.2.1,n.2.2):=rfl;simp only[lzt,qk,fzl,ezf,qM,Ozf,e1];cases hn:cz0 n
 ·rfl
 ·cases hl:cz3 l
  ·rfl
  ·simp only[qP,qd,az7,Ezp hn hl,qM,qT,qe]
theorem Rz5 (n:V3)(l:List IV3):(Fzi n l).o=some (Ozj n l):=by
 show(wzq n l).run NN=_;simp only[wzq,qk,hzc,hzb,qM,Ozj];cases hn:cz0 n
 ·rfl
 ·cases hl:cz3 l
  ·rfl
  ·have hlen:=ezp hl;simp only[qP,qd,az7,qT,qe];refine(cz8 (λj=>((bst ltB (λi=>dLo n (l.getD i qw)) j).1,(bst ltB (λi=>dLo n (l.getD i qw)) j).2,(j:Int))) ((Ezy n l).1,(Ezy n l).2) l.length rfl (show l.length<4294967296 from qa) (λj hj=>?_) ?_).trans rfl
   ·rw[az6 (by simpa using hj),aza ⟨by simp,by simpa using hj⟩];simp only[qH,Lzw hn (vz8 hl hj),qM];rw[wn qa];simp only[bzf,az7,bst];have e:((j:Int)==0)=qx (j=0):=by rw[qZ];simp
    rw[e,ez1];have hc:∀a b:Int,qx (a<b)=ltB a b:=λ_ _=>rfl
    rw[hc];cases qx (j=0)||ltB (dLo n (l.getD j qw)) (bst ltB (λi=>dLo n (l.getD i qw)) j).1<;>rfl
   ·rw[az5 (by simp)];rfl
theorem Jzm (n:V3)(l:List IV3):(yze n l).o=some (Ozf n l):=by
 show(ozo n l).run NN=_;simp only[ozo,qk,hzc,hzb,qM,Ozf];cases hn:cz0 n
 ·rfl
 ·cases hl:cz3 l
  ·rfl
  ·have hlen:=ezp hl;simp only[qP,qd,az7,qT,qe];refine(cz8 (λj=>((bst gtB (λi=>dHi n (l.getD i qw)) j).1,(bst gtB (λi=>dHi n (l.getD i qw)) j).2,(j:Int))) ((Ezu n l).1,(Ezu n l).2) l.length rfl (show l.length<4294967296 from qa) (λj hj=>?_) ?_).trans rfl
   ·rw[az6 (by simpa using hj),aza ⟨by simp,by simpa using hj⟩];simp only[qH,Lzw hn (vz8 hl hj),qM];rw[wn qa];simp only[bzf,az7,bst];have e:((j:Int)==0)=qx (j=0):=by rw[qZ];simp
    rw[e,ez1];have hc:∀a b:Int,qx (a>b)=gtB a b:=λ_ _=>rfl
    rw[hc];cases qx (j=0)||gtB (dHi n (l.getD j qw)) (bst gtB (λi=>dHi n (l.getD i qw)) j).1<;>rfl
   ·rw[az5 (by simp)];rfl
def radV (r:Int):Bool:=qx (0<=r)&&qx (r<=1048576)
def Lz9 (n:V3)(a:List IV3)(ra:Int)(b:List IV3)(rb:Int):Int:=
 qv.wrap (qv.wrap ((Ezy n a).1- (Ezu n b).1)-qv.wrap (Wzf n * qv.wrap (ra+rb)))
def Xzb (n:V3)(a:List IV3)(ra:Int)(b:List IV3)(rb:Int):Bool:=cz0 n&&(cz3 a&&(cz3 b&&(radV ra&&radV rb)))
def sepV (n:V3)(a:List IV3)(ra:Int)(b:List IV3)(rb:Int):Bool:=Xzb n a ra b rb&&qx (Lz9 n a ra b rb>0)
theorem jzb (r:Int):(fz5 r).o=some (radV r):=by
 show(jza r).run NN=_;simp only[jza,qk,dzv,pz1,radV,ge_iff_le]
theorem Nzm (n:V3)(a:List IV3)(ra:Int)(b:List IV3)(rb:Int):(Dz0 n a ra b rb).o=some (bif Xzb n a ra b rb then(Lz9 n a ra b rb,true)else(0,false)):=by
 show(tzr n a ra b rb).run NN=_;simp only[tzr,qk,Rz5,Jzm,jzb,Az8,qM,Ozj,Ozf,Xzb,Lz9];cases cz0 n<;>cases cz3 a<;>cases cz3 b<;>cases radV ra<;>cases radV rb<;>rfl
theorem vzc (n:V3)(a:List IV3)(ra:Int)(b:List IV3)(rb:Int):(mzk n a ra b rb).o=some (sepV n a ra b rb):=by
 show(mzl n a ra b rb).run NN=_;simp only[mzl,qk,Nzm,qM,sepV];cases Xzb n a ra b rb<;>rfl
theorem Vz3 (x:fzm):(Bzc x).o=some (cz3 x.points&&radV x.radius):=by
 show(Bzd x).run NN=_;simp only[Bzd,qk,ezf,qM,radV];cases cz3 x.points<;>cases qx (0<=x.radius)<;>rfl
theorem vz9 (n:V3)(a:List IV3)(ra:Int)(b:List IV3)(rb:Int):(mzg n a ra b rb).o=some (sepV n a ra b rb):=by
 have e1:(Izo a ra b rb).o=some ⟨⟨a,ra⟩,⟨b,rb⟩⟩:=rfl;have e2:(Dze ⟨⟨a,ra⟩,⟨b,rb⟩⟩ n).o=some (bif Xzb n a ra b rb then(Lz9 n a ra b rb,true)else(0,false)):=by
  show(uzl ⟨⟨a,ra⟩,⟨b,rb⟩⟩ n).run NN=_;simp only[uzl,qk,Vz3,Mzo,Gzj,uzp,qM,Ozj,Ozf,Xzb,Lz9];cases cz0 n<;>cases cz3 a<;>cases cz3 b<;>cases radV ra<;>cases radV rb<;>rfl
 have e3:(vzl ⟨⟨a,ra⟩,⟨b,rb⟩⟩ n).o=some (sepV n a ra b rb):=by
  show(mzv ⟨⟨a,ra⟩,⟨b,rb⟩⟩ n).run NN=_;simp only[mzv,qk,e2,qM,sepV];cases Xzb n a ra b rb<;>rfl
 show(mzh n a ra b rb).run NN=_;simp only[mzh,qk,e1,e3,qM]
theorem Wzl {c:Nat->Nat->Bool}{L:List czg}{i:Nat}{x:czg}:∀ {m:Nat},x∈pin c L i m->x∈L\/∃k,k<m/\x=⟨(i:Int),((i+1+k:Nat):Int)⟩
 |0,h=>Or.inl h
 |m+1,h=>by
  simp only[pin]at h;split at h
  ·rcases List.mem_append.1 h with h|h
   ·rcases Wzl h with h|⟨k,h1,h2⟩
    ·exact Or.inl h
    ·exact Or.inr ⟨k,qa,h2⟩
   ·exact Or.inr ⟨m,qa,wN.1 h⟩
  ·rcases Wzl h with h|⟨k,h1,h2⟩
   ·exact Or.inl h
   ·exact Or.inr ⟨k,qa,h2⟩
theorem az3s {c:Nat->Nat->Bool}{n:Nat}{x:czg}:∀ {i:Nat},i<=n->x∈pou c n i->0<=x.A/\x.A<(n:Int)/\0<=x.B/\x.B<(n:Int)
 |0,_,h=>by simp[pou,nl]at h
 |i+1,hi,h=>by
  simp only[pou]at h;rcases Wzl h with h|⟨k,h1,h2⟩
  ·exact az3s qa h
  ·subst h2;simp only;omega
theorem bza {α:Type}[Inhabited α]{l:List α}{i:Nat}(h:i<l.length):l.getD i qw∈l:=by
 rw[wo,wD h,wE];exact wF h
theorem Qzy {s:azd}(h:czi s=0){k:Nat}(hk:k<(cz2 s).length):(0<=((cz2 s).getD k qw).A/\((cz2 s).getD k qw).A<(s.Xd.length:Int))/\(0<=((cz2 s).getD k qw).B/\((cz2 s).getD k qw).B<(s.Xd.length:Int)):=by
 have hm:=bza hk;generalize (cz2 s).getD k qw=x at hm⊢;unfold cz2 at hm;rw[qc h]at hm;have:=az3s (ql _) hm;omega
theorem qzi (s:azd):(cz2 s).length<=576:=by
 unfold cz2;split
 ·rename_i h;have h1:=(Bz8 h).len;have h2:=Rz1 (nzt s) (n:=s.Xd.length) s.Xd.length;have h3:s.Xd.length * s.Xd.length<=24 * 24:=qO h1 h1;omega
 ·simp[nl]
def pA (s:azd)(k:Nat):Nat:=((cz2 s).getD k qw).A.toNat
def pB (s:azd)(k:Nat):Nat:=((cz2 s).getD k qw).B.toNat
def gzw (s:azd)(i:Nat):Int:=(s.Xd.getD i qw).Xs
def sepK (s:azd)(b:List az0)(ns:List V3)(k:Nat):Bool:= !sepV (ns.getD k qw) (bzs s b (pA s k)) (gzw s (pA s k)) (bzs s b (pB s k)) (gzw s (pB s k))
def ozc (s:azd)(b:List az0)(ns:List V3):Bool:=
 qx (czi s=0)&&(boxV s.Xf b&&(qx (ns.length=(cz2 s).length)&&czh (sepK s b ns) (cz2 s).length))
theorem Dzt {s:azd}{b:List az0}(h:czi s=0)(hb:boxV s.Xf b=true):mzi s b=tab (bzs s b) s.Xd.length:=by unfold mzi;rw[qc ⟨h,hb⟩]
theorem yz1 (s:azd)(b:List az0)(hbl:b.length<4294967296):(oz7 s b).o=some (if czi s=0/\boxV s.Xf b=true then(⟨s.Xd,cz2 s,mzi s b⟩,true)else(⟨nl,nl,nl⟩,false)):=by
 show(oz8 s b).run NN=_;simp only[oz8,qk,gzr,qM];by_cases h:czi s=0
 ·rw[bzb h,az7];by_cases hl:b.length=s.Xf.Xb.length
  ·rw[bzb qa];refine(ezy (λi=>sw (notV b i) ((⟨nl,nl,nl⟩:czk),false)) b.length hbl (λj hj=>?_) ?_).trans ?_
   ·rw[az6 qa,aza qa,wn qa,qH,<-dzr];simp only[dz1,qM];rfl
   ·rw[az5 qa]
   ·rw[dz9];have:boxV s.Xf b=czh (notV b) b.length:=by unfold boxV;rw[qg hl,qS]
    rw[this];cases czh (notV b) b.length
    ·rw[qb (λh=>by cases h.2)];rfl
    ·rw[qc ⟨h,rfl⟩];simp only[sw,qP,qd,Rzo,Dzr s b hbl,qM]
  ·rw[bzq qa,qb];rintro⟨-,hb⟩;simp only[boxV,qn,qf]at hb;exact hl hb.1
 ·rw[bzq h,az7,qb (λh'=>h h'.1)];rfl
theorem pz2 (s:azd)(b:List az0)(ns:List V3)(hbl:b.length<4294967296):(izm s b ns).o=some (ozc s b ns):=by
 have hpl:=qzi s;have ep:=yz1 s b hbl;show(izn s b ns).run NN=_;have e2:(yz0 s b ⟨ns⟩).o=some (ozc s b ns):=by
  show(oz6 s b ⟨ns⟩).run NN=_;simp only[oz6,qk,ep,qM];by_cases h:czi s=0/\boxV s.Xf b=true
  ·rw[qc h];simp only[qe];have e3:(sze ⟨ns⟩ ⟨s.Xd,cz2 s,mzi s b⟩).o=some (qx (ns.length=(cz2 s).length)&&czh (sepK s b ns) (cz2 s).length):=by
    show(lzq ⟨ns⟩ ⟨s.Xd,cz2 s,mzi s b⟩).run NN=_;simp only[lzq,qk];by_cases hl:ns.length=(cz2 s).length
    ·rw[bzb qa,qg hl,qS];refine(ezy (λi=>sw (sepK s b ns i) false) ns.length qa (λj hj=>?_) ?_).trans ?_
     ·have hp:=Qzy h.1 (show j<(cz2 s).length from qa);have ec:(pz7 ⟨s.Xd,cz2 s,mzi s b⟩ (j:Int)).o=some ⟨bzs s b (pA s j),bzs s b (pB s j),gzw s (pA s j),gzw s (pB s j)⟩:=by
       show(kz7 ⟨s.Xd,cz2 s,mzi s b⟩ (j:Int)).run NN=_;simp only[kz7,qk,qH,Dzt h.1 h.2,cz4];rw[aza ⟨qa,qa⟩,aza hp.1,aza hp.1,aza hp.2,aza hp.2,iz6 qa,iz6 qa];rfl
      rw[az6 qa,aza qa,wn qa,qH,<-dzr];simp only[ec,vz9,qM];rfl
     ·rw[az5 qa]
     ·rw[dz9,hl];cases czh (sepK s b ns) (cz2 s).length<;>rfl
    ·rw[bzq qa,qh hl];rfl
   simp only[e3,qM,ozc,h.2,qg h.1,qS]
  ·rw[qb h];have:ozc s b ns=false:=by
    unfold ozc;by_cases h1:czi s=0
    ·have h2:boxV s.Xf b=false:=by cases hb:boxV s.Xf b with
      |false=>rfl
      |true=>exact absurd ⟨h1,hb⟩ h
     rw[h2,wJ,wO]
    ·rw[qh h1,wJ]
   rw[this];rfl
 simp only[izn,qk,e2,qM]
def az4s (s:azd)(b:List az0)(k:Nat):bz4:=⟨bzs s b (pA s k),gzw s (pA s k)⟩
def az4t (s:azd)(b:List az0)(k:Nat):bz4:=⟨bzs s b (pB s k),gzw s (pB s k)⟩
theorem Fzn (s:azd)(b:List az0)(hbl:b.length<4294967296):(wzz s b).o=some (if czi s=0/\boxV s.Xf b=true then(tab (az4s s b) (cz2 s).length,tab (az4t s b) (cz2 s).length,true)else(nl,nl,false)):=by
 have hpl:=qzi s;show(xz0 s b).run NN=_;simp only[xz0,qk,eza,wzo _ b hbl,qM];by_cases h:czi s=0
 ·rw[bzb h,az7];cases hb:boxV s.Xf b
  ·rw[qb (λh=>by cases h.2)];rfl
  ·rw[qc ⟨h,rfl⟩];simp only[qP,qd,Nzk s b hbl,Uzn,qM,Dzt h hb];refine(cz8 (λj=>(tab (az4s s b) j,tab (az4t s b) j,(j:Int))) (tab (az4s s b) (cz2 s).length,tab (az4t s b) (cz2 s).length) (cz2 s).length rfl (show(cz2 s).length<4294967296 from qa) (λj hj=>?_) ?_).trans rfl
   ·have hp:=Qzy h hj;rw[az6 (by simpa using hj),aza ⟨by simp,by simpa using hj⟩,aza ⟨by simp,by simpa using hj⟩];simp only[qH,cz4];rw[aza hp.1,aza hp.1,aza ⟨by simp;omega,by simp[azg];omega⟩,aza hp.2,aza hp.2,aza ⟨by simp;omega,by simp[azg];omega⟩,wn qa,iz6 qa,iz6 qa,gz0,gz0];rfl
   ·rw[az5 (by simp)]
 ·rw[bzq h,az7,qb (λh'=>h h'.1)];rfl
theorem vzb (s:azd)(b:List az0)(ns:List V3)(hbl:b.length<4294967296):(izh s b ns).o=some (ozc s b ns):=by
 have hpl:=qzi s;show(mzj s b ns).run NN=_;simp only[mzj,qk,Fzn s b hbl,qM];by_cases h:czi s=0/\boxV s.Xf b=true
 ·rw[qc h];simp only[qP,qd,az7,cz4,ozc,h.2,qg h.1,qS];by_cases hl:ns.length=(cz2 s).length
  ·rw[bzb qa,qg hl,qS];refine(ezy (λi=>sw (sepK s b ns i) false) (cz2 s).length qa (λj hj=>?_) ?_).trans ?_
   ·rw[az6 qa,aza qa,aza qa,aza qa,aza qa,aza qa,wn qa,qH,<-dzr,iz6 hj,iz6 hj];simp only[vzc,qM];rfl
   ·rw[az5 qa]
   ·rw[dz9];cases czh (sepK s b ns) (cz2 s).length<;>rfl
  ·rw[bzq qa,qh hl];rfl
 ·rw[qb h];have:ozc s b ns=false:=by
   unfold ozc;by_cases h1:czi s=0
   ·have h2:boxV s.Xf b=false:=by cases hb:boxV s.Xf b with
     |false=>rfl
     |true=>exact absurd ⟨h1,hb⟩ h
    rw[h2,wJ,wO]
   ·rw[qh h1,wJ]
  rw[this];rfl
def begV (x:az8):Option (Int×Int):=if(0<=x.Xg/\x.Xg<=20)/\0<=x.Xk/\x.Xk<2 ^ x.Xg.toNat then some (x.Xk * 2 ^ (20-x.Xg.toNat),2 ^ (20-x.Xg.toNat))else none
theorem Pz8 {x:az8}{f n:Int}(h:begV x=some (f,n)):0<=f/\f<1048576/\0<n/\n<=1048576:=by
 unfold begV at h;split at h
 ·rename_i hc;simp only[Option.some.injEq,Prod.mk.injEq]at h;obtain⟨rfl,rfl⟩:=h;have p1:=czp (20-x.Xg.toNat);have p2:=az3t (show 20-x.Xg.toNat<=20 from qa);refine⟨qQ hc.2.1 qa,?_,p1,p2⟩;have h1:(x.Xk+1) * 2 ^ (20-x.Xg.toNat)<=2 ^ x.Xg.toNat * 2 ^ (20-x.Xg.toNat):=wK qa qa;rw[<-qK,show x.Xg.toNat+(20-x.Xg.toNat)=20 from qa,Int.add_mul,wu]at h1;have e:(2:Int) ^ 20=1048576:=by decide
  omega
 ·cases h
theorem Fzq (x:az8):(xz4 x).o=some (match begV x with|some (f,n)=>(f,n,true)|none=>(0,0,false)):=by
 show(xz5 x).run NN=_;simp only[xz5,qk];by_cases h1:x.Xg<0
 ·have:begV x=none:=by unfold begV;rw[qb qa]
  rw[az6 h1,az7,this];rfl
 ·rw[az5 h1];by_cases h2:x.Xg>20
  ·have:begV x=none:=by unfold begV;rw[qb qa]
   rw[az6 h2,az7,this];rfl
  ·rw[az5 h2];by_cases h3:x.Xk<0
   ·have:begV x=none:=by unfold begV;rw[qb qa]
    rw[az6 h3,az7,this];rfl
   ·rw[az5 h3,az53 qa qa,aza qa,az7,qI qa,w2k qa];by_cases h4:x.Xk>=2 ^ x.Xg.toNat
    ·have:begV x=none:=by unfold begV;rw[qb qa]
     rw[az6 h4,this]
    ·have hb:begV x=some (x.Xk * 2 ^ (20-x.Xg.toNat),2 ^ (20-x.Xg.toNat)):=by unfold begV;rw[qc ⟨⟨qa,qa⟩,qa,qa⟩]
     have hr:=Pz8 hb;rw[az5 h4,hb,w64 (x:=20-x.Xg) qa qa,az53 qa qa,aza qa,qI qa,show(20-x.Xg).toNat=20-x.Xg.toNat from qa,w2k qa,w64 qa qa]
def plc (l:List az8):Nat->Int
 |0=>0
 |j+1=>match begV (l.getD j qw)with
  |some (f,n)=>f+n
  |none=>0
def badT (l:List az8)(j:Nat):Bool:=match begV (l.getD j qw)with
 |some (f,_)=>f !=plc l j
 |none=>true
theorem azd7 (l:List az8):∀j,0<=plc l j/\plc l j<=2097152
 |0=>by simp[plc]
 |j+1=>by
  simp only[plc];split
  ·rename_i f n h;have:=Pz8 h;omega
  ·omega
theorem Ozi {σ τ R:Type}{f:σ->Option (Step3 σ τ R)}(st:Nat->σ)(g:Nat->Option R)(r:R):
 ∀ (n i N:Nat),n<N->(∀j,i<=j->j<i+n->f (st j)=match g j with|some r=>some (.fin r)|none=>some (.next (st (j+1))))->f (st (i+n))=some (.fin r)->
   iter f N (st i)=some (.inr (match scan g n i with|some r'=>r'|none=>r))
 |0,i,0,h,_,_=>qa
 |0,i,N+1,_,_,h=>by simp only[qE]at h;simp[iter,h,scan]
 |n+1,i,0,h,_,_=>qa
 |n+1,i,N+1,h0,hs,he=>by
  have h1:=hs i qa qa;simp only[scan];cases hg:g i with
  |some r=>rw[hg]at h1;simp[iter,h1]
  |none=>
   rw[hg]at h1;simp only[iter,h1];exact Ozi st g r n (i+1) N qa (λj a b=>hs j qa qa) (by rw[<-he];congr 2;omega)
theorem Ozl {σ τ R:Type}{f:σ->Option (Step3 σ τ R)}{k:τ->Option R}{x:σ}(st:Nat->σ)(g:Nat->Option R)(r:R)(n:Nat)(hx:x=st 0)(hn:n<NN)
 (hs:∀j,j<n->f (st j)=match g j with|some r=>some (.fin r)|none=>some (.next (st (j+1)))) (he:f (st n)=some (.fin r)):
 andK (iter f NN x) k=some (match scan g n 0 with|some r'=>r'|none=>r):=by
 rw[hx,Ozi st g r n 0 NN hn (λj _ h=>hs j qa) (by rw[qF];exact he)];rfl
def rzk (l:List az8):Int×Bool:=
 if l.length<=4096 then(match scan (λj=>sw (badT l j) ((j:Int),false)) l.length 0 with|some r=>r|none=>((l.length:Int),plc l l.length==1048576))
 else(match scan (λj=>sw (badT l j) ((j:Int),false)) 4096 0 with|some r=>r|none=>(4096,false))
theorem Ozc (l:List az8){j:Nat}(hj:j<4096){σ τ:Type}{R:Type}(r:R)(x:Int->σ):
 (qU (xz4 (l.getD j qw)).o λy=>andC (bif !y.2.2 then some (.out true)else bif y.1 !=plc l j then some (.out true)else some (.out (qx ((j:Int)>=4096))):Option (Step3 Unit Bool (Step3 σ τ R))) λz=>bif z then some (.fin r)else some (.next (x (qv.wrap (y.1+y.2.1)))))=
  match sw (badT l j) r with|some r=>some (.fin r)|none=>some (.next (x (plc l (j+1)))):=by
 rw[Fzq,qM];unfold badT;cases hb:begV (l.getD j qw)with
 |none=>rfl
 |some p=>
  obtain⟨f,n⟩:=p;have hr:=Pz8 hb;simp only[qP,qd];by_cases h:f=plc l j
  ·rw[bzb h,az7,qh qa];have e1:(f !=plc l j)=false:=by simpa using h
   have e2:plc l (j+1)=f+n:=by simp only[plc,hb]
   rw[e1,e2,w64 qa qa];rfl
  ·have e1:(f !=plc l j)=true:=by simpa using h
   rw[bzq h,az7,e1];rfl
theorem Rzb (l:List az8):(Fzr l).o=some (rzk l):=by
 show(xz6 l).run NN=_;simp only[xz6,qk,rzk];by_cases h:l.length<=4096
 ·rw[qc h];refine(hzy (λj=>(plc l j,(j:Int))) (λj=>sw (badT l j) ((j:Int),false)) (plc l l.length) l.length rfl (show l.length<4294967296 from qa) (λj hj=>?_) ?_).trans ?_
  ·rw[az6 (by simpa using hj),aza ⟨by simp,by simpa using hj⟩];simp only[qH];rw[wn qa];exact Ozc l qa ((j:Int),false) (λz=>(z,((j+1:Nat):Int)))
  ·rw[az5 (by simp)]
  ·cases scan (λj=>sw (badT l j) ((j:Int),false)) l.length 0<;>rfl
 ·rw[qb h];refine(Ozl (λj=>(plc l j,(j:Int))) (λj=>sw (badT l j) ((j:Int),false)) (4096,false) 4096 rfl (show 4096<4294967296 from qa) (λj hj=>?_) ?_).trans ?_
  ·rw[az6 (by simp;omega),aza ⟨by simp,by simp;omega⟩];simp only[qH];rw[wn qa];exact Ozc l qa ((j:Int),false) (λz=>(z,((j+1:Nat):Int)))
  ·rw[az6 (by simp;omega),aza ⟨by simp,by simp;omega⟩,Fzq,qM];cases (match begV (l.getD (wL ((4096:Nat):Int)) qw)with|some (f,n)=>(f,n,true)|none=>(0,0,false)).2.2
   ·rfl
   ·simp only[qP,qd];cases ((match begV (l.getD (wL ((4096:Nat):Int)) qw)with|some (f,n)=>(f,n,true)|none=>(0,0,false)).1 !=plc l 4096)<;>rfl
  ·cases scan (λj=>sw (badT l j) ((j:Int),false)) 4096 0<;>rfl
theorem Vz7 (l:List az8){j:Nat}(hj:j<4096){σ τ R:Type}(r:R)(x:Int->σ):∀y:az8,y=l.getD j qw->
 (andC (bif ((j:Int)==4096)then some (.out true)else bif qx (y.Xg<0)then some (.out true)else some (.out (qx (y.Xg>20))):Option (Step3 Unit Bool (Step3 σ τ R))) λz1=>
  bif z1 then some (.fin r)else andC (bif qx (y.Xk<0)then some (.out true)else grd (0<=y.Xg) (some (.out (qx (y.Xk>=qv.wrap (1 * 2 ^ min y.Xg.toNat 64))))):Option (Step3 Unit Bool (Step3 σ τ R))) λz2=>
  bif z2 then some (.fin r)else grd (0<=y.Xg) (bif qv.wrap (y.Xk * (1048576:Int).fdiv (2 ^ min y.Xg.toNat 64)) !=plc l j then some (.fin r)else some (.next (x (qv.wrap (plc l j+(1048576:Int).fdiv (2 ^ min y.Xg.toNat 64)))))))=
  match sw (badT l j) r with|some r=>some (.fin r)|none=>some (.next (x (plc l (j+1)))):=by
 intro y hy;rw[czo qa];unfold badT;by_cases h1:y.Xg<0
 ·have:begV (l.getD j qw)=none:=by rw[<-hy];unfold begV;rw[qb qa]
  rw[az6 h1,az7,this];rfl
 ·rw[az5 h1,az7];by_cases h2:y.Xg>20
  ·have:begV (l.getD j qw)=none:=by rw[<-hy];unfold begV;rw[qb qa]
   rw[az6 h2,this];rfl
  ·rw[az5 h2];by_cases h3:y.Xk<0
   ·have:begV (l.getD j qw)=none:=by rw[<-hy];unfold begV;rw[qb qa]
    rw[az6 h3,az7,this];rfl
   ·rw[az5 h3,aza qa,az7,qI qa,w2k qa];by_cases h4:y.Xk>=2 ^ y.Xg.toNat
    ·have:begV (l.getD j qw)=none:=by rw[<-hy];unfold begV;rw[qb qa]
     rw[az6 h4,this];rfl
    ·have hb:begV (l.getD j qw)=some (y.Xk * 2 ^ (20-y.Xg.toNat),2 ^ (20-y.Xg.toNat)):=by rw[<-hy];unfold begV;rw[qc ⟨⟨qa,qa⟩,qa,qa⟩]
     have hr:=Pz8 hb;have hq:(1048576:Int).fdiv (2 ^ y.Xg.toNat)=2 ^ (20-y.Xg.toNat):=by
      rw[Bzl];have e:(1048576:Int)=2 ^ y.Xg.toNat * 2 ^ (20-y.Xg.toNat):=by
       rw[<-qK,show y.Xg.toNat+(20-y.Xg.toNat)=20 from qa];decide
      rw[e,Int.mul_ediv_cancel_left _ (by have:=czp y.Xg.toNat;omega)]
     have hp:=azd7 l j;rw[az5 h4,aza qa,hq,w64 (x:=y.Xk * _) qa qa,w64 (x:=plc l j+_) qa qa];simp only[hb];by_cases h:y.Xk * 2 ^ (20-y.Xg.toNat)=plc l j
     ·have e1:(y.Xk * 2 ^ (20-y.Xg.toNat) !=plc l j)=false:=by simpa using h
      have e2:plc l (j+1)=plc l j+2 ^ (20-y.Xg.toNat):=by rw[<-h];simp only[plc,hb]
      rw[bzb h,e1,e2];rfl
     ·have e1:(y.Xk * 2 ^ (20-y.Xg.toNat) !=plc l j)=true:=by simpa using h
      rw[bzq h,e1];rfl
theorem Zzc {R S:Type}{g:Nat->Bool}{r:Nat->R}{f:R->S}:∀ (n i:Nat),scan (λj=>sw (g j) (f (r j))) n i=(scan (λj=>sw (g j) (r j)) n i).map f
 |0,_=>rfl
 |n+1,i=>by
  simp only[scan];cases g i with
  |true=>rfl
  |false=>exact Zzc n (i+1)
def azbm (l:List az8):Int×Int:=bif (rzk l).2 then(0,0)else((rzk l).1,2001)
theorem Kz7 {g:Nat->Bool}{n:Nat}{r:Int×Bool}(h:scan (λj=>sw (g j) ((j:Int),false)) n 0=some r):r.2=false:=by
 obtain⟨j,-,-,h3,-⟩:=fze _ _ h;cases hb:g j with
 |false=>rw[hb]at h3;cases h3
 |true=>rw[hb]at h3;simp only[sw,qe,Option.some.injEq]at h3;rw[<-h3]
theorem Mzc (x:bzg):(Bz3 x).o=some (azbm x.pieces):=by
 show(rz3 x).run NN=_;generalize hl:x.pieces=l;simp only[rz3,qk,hl,azbm,rzk];have em:∀n,scan (λj=>sw (badT l j) ((j:Int),(2001:Int))) n 0=(scan (λj=>sw (badT l j) ((j:Int),false)) n 0).map λr=>(r.1,2001):=λn=>Zzc (r:=λj=>((j:Int),false)) (f:=λr=>(r.1,(2001:Int))) n 0
 by_cases h:l.length<=4096
 ·rw[qc h];refine(hzy (λj=>(plc l j,(j:Int))) (λj=>sw (badT l j) ((j:Int),2001)) (plc l l.length) l.length rfl (show l.length<4294967296 from qa) (λj hj=>?_) ?_).trans ?_
  ·rw[az6 (by simpa using hj),aza ⟨by simp,by simpa using hj⟩];simp only[qH];rw[wn qa];exact Vz7 l qa ((j:Int),2001) (λz=>(z,((j+1:Nat):Int))) _ rfl
  ·rw[az5 (by simp)]
  ·rw[em];cases hs:scan (λj=>sw (badT l j) ((j:Int),false)) l.length 0 with
   |none=>
    simp only[Option.map_none];by_cases hp:plc l l.length=1048576
    ·rw[bzb hp];simp only[hp];rfl
    ·have e:(plc l l.length==1048576)=false:=by simpa using hp
     rw[bzq hp];simp only[e];rfl
   |some r=>simp only[wP,Kz7 hs,qd]
 ·rw[qb h];refine(Ozl (λj=>(plc l j,(j:Int))) (λj=>sw (badT l j) ((j:Int),2001)) (4096,2001) 4096 rfl (show 4096<4294967296 from qa) (λj hj=>?_) ?_).trans ?_
  ·rw[az6 (by simp;omega),aza ⟨by simp,by simp;omega⟩];simp only[qH];rw[wn qa];exact Vz7 l qa ((j:Int),2001) (λz=>(z,((j+1:Nat):Int))) _ rfl
  ·rw[az6 (by simp;omega),aza ⟨by simp,by simp;omega⟩];rfl
  ·rw[em];cases hs:scan (λj=>sw (badT l j) ((j:Int),false)) 4096 0 with
   |none=>rfl
   |some r=>simp only[wP,Kz7 hs,qd]
theorem Jzy {l:List az8}(h:(rzk l).2=true):l.length<=4096/\∀j,j<l.length->begV (l.getD j qw)≠none:=by
 unfold rzk at h;split at h
 ·rename_i hl;refine⟨hl,λj hj hn=>?_⟩;split at h
  ·rename_i hs;rw[Kz7 hs]at h;cases h
  ·rename_i hs;have:=(dze _ _).1 hs j (qY _) qa;have hb:badT l j=true:=by unfold badT;rw[hn]
   rw[hb]at this;cases this
 ·split at h
  ·rename_i hs;rw[Kz7 hs]at h;cases h
  ·cases h
theorem Iza {r:azo}{c:List Int}(h:bz8 r c=true):izl c=true/\c.length=r.Xb.length/\r.Xb.length<=10/\dza r=0:=by
 simp only[bz8,qn,qf]at h;obtain⟨h1,h2,h3⟩:=h;refine⟨noneB_iff.2 λi hi=>?_,h2,(fzd h1).2.1,h1⟩;have:=noneB_iff.1 h3 i hi;have jo:=fzw h1 (show i<r.Xb.length from qa);have rb:=Fzf (r.Xb.getD i qw).Xm;have jl:=jo.lim;simp only[outJ,qq,qi]at this;simp only[big1,qq,qi];omega
theorem az6z {r:azo}{p q:List Int}(hp:bz8 r p=true)(hq:bz8 r q=true){x:az8}(hx:begV x≠none):dz6 p q x.Xg x.Xk=(tab (Lzt p q x.Xg.toNat x.Xk) p.length,true):=by
 have h1:=Iza hp;have h2:=Iza hq;unfold begV at hx;split at hx
 ·rename_i hc;unfold dz6;rw[qc ⟨motionV_iff.2 ⟨h1.1,h2.1,qa,qa,qa⟩,qa,qa⟩]
 ·exact absurd rfl hx
theorem Fzc (p q:List Int)(d i:Int)(hp:p.length<4294967296):(dz6 p q d i).1.length<4294967296:=by
 unfold dz6;split
 ·simp only[cz4];exact hp
 ·simp[nl]
def notF (s:azd)(p q:List Int)(l:List az8)(j:Nat):Bool:= !ozc s (dz6 p q (l.getD j qw).Xg (l.getD j qw).Xk).1 (l.getD j qw).Xe
def kz9 (s:azd)(p q:List Int)(l:List az8):Int×Int:=
 if czi s≠0 then(0,904)else if(bz8 s.Xf p&&bz8 s.Xf q)=false then(0,1201)else if(rzk l).2=false then((rzk l).1,2001)else
 match scan (λj=>sw (notF s p q l j) ((j:Int),(2002:Int))) l.length 0 with|some r=>r|none=>(0,0)
section
variable (s:azd) (p q:List Int) (l:List az8) (hp:p.length<4294967296) (hq:q.length<4294967296)
include hp hq
theorem Hzj:(vzd s p q l).o=some (kz9 s p q l):=by
 show(mzn s p q l).run NN=_;simp only[mzn,qk,eza,qM,kz9];by_cases h:czi s=0
 ·have er:(pzk s p q).o=some (bz8 s.Xf p&&bz8 s.Xf q):=by
   show(lzg s p q).run NN=_;simp only[lzg,qk,eza,jz6,qM];rw[czn h];cases bz8 s.Xf p<;>rfl
  rw[bzb h,qb (by simpa using h),er,qM];cases hi:bz8 s.Xf p&&bz8 s.Xf q
  ·rfl
  ·simp only[qP,qd,Rzb,qM,wQ,if_false];cases hc:(rzk l).2
   ·rfl
   ·have hl:=Jzy hc;simp only[qP,qd,wQ,if_false];refine(ezy (λj=>sw (notF s p q l j) ((j:Int),(2002:Int))) l.length qa (λj hj=>?_) ?_).trans ?_
    ·rw[az6 qa,aza qa,aza qa,wn qa,qH,<-dzr];simp only[wzt p q _ _ hp hq,qM];rw[aza qa];simp only[vzb s _ _ (Fzc p q _ _ hp),qM];rfl
    ·rw[az5 qa]
    ·cases scan (λj=>sw (notF s p q l j) ((j:Int),(2002:Int))) l.length 0<;>rfl
 ·rw[bzq h,qc h]
theorem Gzy:(uzw s p q l).o=some (kz9 s p q l):=by
 show(mz5 s p q l).run NN=_;have e1:(Dz9 ⟨s,p,q,l⟩).o=some (0,if czi s=0 then 0 else 904):=by
  show(uzf ⟨s,p,q,l⟩).run NN=_;simp only[uzf,qk,gzr,qM];by_cases h:czi s=0
  ·rw[bzb h,qc h]
  ·rw[bzq h,qb h]
 have e2:(Bz2 ⟨s,p,q,l⟩).o=some (0,bif bz8 s.Xf p&&bz8 s.Xf q then 0 else 1201):=by
  show(rz2 ⟨s,p,q,l⟩).run NN=_;simp only[rz2,qk,kzb,qM,bzf,az7];cases bz8 s.Xf p<;>cases bz8 s.Xf q<;>rfl
 simp only[mz5,qk,e1,qM,kz9];rw[aza (by decide),aza (by decide),aza (by decide),aza (by decide)];by_cases h:czi s=0
 ·rw[qc h,qb (by simpa using h),bzb rfl,e2,qM];cases hi:bz8 s.Xf p&&bz8 s.Xf q
  ·rfl
  ·simp only[qe,wQ,if_false,Mzc,qM,azbm];rw[bzb rfl];cases hc:(rzk l).2
   ·rfl
   ·have hl:=Jzy hc;simp only[qn]at hi;simp only[qe,wQ,if_false];rw[bzb rfl];have e3:(szb ⟨s,p,q,l⟩).o=some (match scan (λj=>sw (notF s p q l j) ((j:Int),(2002:Int))) l.length 0 with|some r=>r|none=>(0,0)):=by
     show(lzm ⟨s,p,q,l⟩).run NN=_;simp only[lzm,qk];refine(ezy (λj=>sw (notF s p q l j) ((j:Int),(2002:Int))) l.length qa (λj hj=>?_) ?_).trans ?_
     ·have ho:=az6z hi.1 hi.2 (hl.2 j hj);rw[az6 qa,aza qa,wn qa,qH,<-dzr];simp only[szy p q _ _ hp hq,qM];have ho2:(dz6 p q (l.getD j qw).Xg (l.getD j qw).Xk).2=true:=by rw[ho]
      rw[ho2];simp only[qP,qd,pz2 s _ _ (Fzc p q _ _ hp),qM,az7];rfl
     ·rw[az5 qa]
     ·cases scan (λj=>sw (notF s p q l j) ((j:Int),(2002:Int))) l.length 0<;>rfl
    simp only[e3,qM];cases hs:scan (λj=>sw (notF s p q l j) ((j:Int),(2002:Int))) l.length 0 with
    |none=>rfl
    |some r=>
     obtain⟨j,-,-,h3,-⟩:=fze _ _ hs;cases hb:notF s p q l j with
     |false=>rw[hb]at h3;cases h3
     |true=>rw[hb]at h3;simp only[sw,qe,Option.some.injEq]at h3;rw[<-h3];rfl
 ·rw[qb h,qc h];rfl
end
theorem Kzk {s:azd}{p q:List Int}{l:List az8}(h:(kz9 s p q l).2=0):czi s=0/\bz8 s.Xf p=true/\bz8 s.Xf q=true/\l.length<=4096:=by
 unfold kz9 at h;split at h
 ·cases h
 ·rename_i h1;split at h
  ·cases h
  ·rename_i h2;split at h
   ·cases h
   ·rename_i h3;simp only[wv,qn]at h2 h3;exact⟨by simpa using h1,h2.1,h2.2,(Jzy h3).1⟩
section
variable (J:az8->az8->Option az8)
def lzv:List az8->az8->List az8
 |[],x=>[x]
 |a::rs,x=>match J a x with
  |some w=>lzv rs w
  |none=>x::a::rs
def kz1 (l:List az8):List az8:=(l.foldl (lzv J) []).reverse
def Red (l:List az8)(j:Nat):Prop:=∀i,i+1<j->J (l.getD i qw) (l.getD (i+1) qw)=none
end
section
variable {J:az8->az8->Option az8}
theorem az25 {α:Type}[Inhabited α]{l:List α}{i:Nat}(h:i<l.length):l.getD i qw=l[i]:=by
 rw[wo,wD h];rfl
theorem Kz3 {l:List az8}:∀ {j:Nat},j<=l.length->Red J l j->(l.take j).foldl (lzv J) []=(l.take j).reverse
 |0,_,_=>by simp
 |1,h,_=>by
  rw[czr qa];simp[lzv]
 |j+2,h,hr=>by
  have ih:=Kz3 (j:=j+1) qa (λi hi=>hr i qa);rw[czr (show j+1<l.length from qa),wR,ih,czr (show j<l.length from qa)];simp only[wS,wT,wU,wV,wW,wX,wY,lzv];rw[hr j qa]
theorem az35 {l:List az8}(h:Red J l l.length):kz1 J l=l:=by
 unfold kz1;have:=Kz3 (ql _) h;rw[wZ]at this;rw[this,w6]
theorem az07 {l:List az8}{j:Nat}(h:j+1<l.length)(hr:Red J l (j+1)){w:az8}(hw:J (l.getD j qw) (l.getD (j+1) qw)=some w):kz1 J l=kz1 J (l.take j++[w]++l.drop (j+2)):=by
 unfold kz1;congr 1;have e:l=l.take j++[l.getD j qw]++[l.getD (j+1) qw]++l.drop (j+2):=by
  rw[<-czr qa,<-czr qa,List.take_append_drop]
 have f1:=Kz3 (j:=j+1) qa hr;have f0:=Kz3 (j:=j) qa (λi hi=>hr i qa);rw[czr (show j<l.length from qa)]at f1
 conv=>lhs;rw[e]
 rw[wR,wR,f1,wR,wR,f0];congr 1;simp only[wS,wT,wU,wV,wW,wX,wY,lzv,hw]
theorem az3z {l:List az8}{j:Nat}(h:j+1<l.length)(hr:Red J l (j+1))(hn:J (l.getD j qw) (l.getD (j+1) qw)=none):Red J l (j+2):=by
 intro i hi;by_cases e:i=j
 ·subst e;exact hn
 ·exact hr i qa
end
def izo (s:azd)(p q:List Int)(a b:az8):Option az8:=
 if a.Xg≠b.Xg\/a.Xg<=0\/a.Xk.tmod 2≠0\/b.Xk≠qv.wrap (a.Xk+1)then none else
 if(dz6 p q (qv.wrap (a.Xg-1)) (qv.wrap (a.Xk.tdiv 2))).2=false then none else
 if ozc s (dz6 p q (qv.wrap (a.Xg-1)) (qv.wrap (a.Xk.tdiv 2))).1 a.Xe then some ⟨qv.wrap (a.Xg-1),qv.wrap (a.Xk.tdiv 2),a.Xe⟩else
 if ozc s (dz6 p q (qv.wrap (a.Xg-1)) (qv.wrap (a.Xk.tdiv 2))).1 b.Xe then some ⟨qv.wrap (a.Xg-1),qv.wrap (a.Xk.tdiv 2),b.Xe⟩else none
section
variable (s:azd) {p q:List Int} (hp:p.length<4294967296) (hq:q.length<4294967296) (a b:az8)
include hp hq
theorem Nzp:∃x ok,(tzs s p q a b).o=some (x,ok)/\(izo s p q a b=if ok then some x else none):=by
 have e0:(tzs s p q a b).o=(tzt s p q a b).run NN:=rfl;rw[e0];simp only[tzt,qk,izo,wzt p q _ _ hp hq,vzb s _ _ (Fzc p q _ _ hp),qM];by_cases h1:a.Xg=b.Xg
 ·rw[bzb h1];by_cases h2:a.Xg<=0
  ·rw[az6 qa,az7];exact⟨_,_,rfl,by rw[qc (Or.inr (Or.inl h2))];rfl⟩
  ·rw[az5 qa];by_cases h3:a.Xk.tmod 2=0
   ·rw[bzb h3,az7];by_cases h4:b.Xk=qv.wrap (a.Xk+1)
    ·rw[bzb h4,qb (λh=>by rcases h with h|h|h|h;· exact h h1
                          ·exact h2 h
                          ·exact h h3
                          ·exact h h4)]
     generalize dz6 p q (qv.wrap (a.Xg-1)) (qv.wrap (a.Xk.tdiv 2))=B;cases hB:B.2
     ·exact⟨_,_,rfl,by simp⟩
     ·simp only[qe,az7,wQ,if_false];cases ozc s B.1 a.Xe
      ·simp only[qd,Bool.false_eq_true,if_false];exact⟨_,_,rfl,rfl⟩
      ·exact⟨_,_,rfl,by simp⟩
    ·rw[bzq h4];exact⟨_,_,rfl,by rw[qc (Or.inr (Or.inr (Or.inr h4)))];rfl⟩
   ·rw[bzq h3,az7];exact⟨_,_,rfl,by rw[qc (Or.inr (Or.inr (Or.inl h3)))];rfl⟩
 ·rw[bzq h1,az7];exact⟨_,_,rfl,by rw[qc (Or.inl h1)];rfl⟩
theorem Nz3:(szt s p q a b).o=some (match izo s p q a b with|some x=>(x,true)|none=>(⟨0,0,nl⟩,false)):=by
 show(szu s p q a b).run NN=_;simp only[szu,qk,izo,szy p q _ _ hp hq,pz2 s _ _ (Fzc p q _ _ hp),qM];by_cases h1:a.Xg=b.Xg
 ·rw[bzb h1];by_cases h2:a.Xg<=0
  ·rw[az6 h2,az7,qc (Or.inr (Or.inl h2))];rfl
  ·rw[az5 h2];by_cases h3:a.Xk.tmod 2=0
   ·rw[bzb h3,az7];by_cases h4:b.Xk=qv.wrap (a.Xk+1)
    ·rw[bzb h4,qb (λh=>by rcases h with h|h|h|h;· exact h h1
                          ·exact h2 h
                          ·exact h h3
                          ·exact h h4)]
     generalize dz6 p q (qv.wrap (a.Xg-1)) (qv.wrap (a.Xk.tdiv 2))=B;cases hB:B.2
     ·rfl
     ·simp only[qP,qd,wQ,if_false];refine(ezy (λi=>sw (ozc s B.1 (([a,b]:List az8).getD i qw).Xe) ((⟨qv.wrap (a.Xg-1),qv.wrap (a.Xk.tdiv 2),(([a,b]:List az8).getD i qw).Xe⟩:az8),true)) 2 (by decide) (λj hj=>?_) ?_).trans ?_
      ·rw[az6 (by simp;omega),aza ⟨qa,by simp;omega⟩,qH,aza (by simpa using hj),wn qa,<-dzr]
      ·rfl
      ·simp only[scan,wh,wi,sw];cases ozc s B.1 a.Xe<;>cases ozc s B.1 b.Xe<;>rfl
    ·rw[bzq h4,qc (Or.inr (Or.inr (Or.inr h4)))]
   ·rw[bzq h3,az7,qc (Or.inr (Or.inr (Or.inl h3)))];rfl
 ·rw[bzq h1,az7,qc (Or.inl h1)];rfl
end
theorem az01 {s:azd}{p q:List Int}{a b w:az8}(h:izo s p q a b=some w):w.Xe=a.Xe\/w.Xe=b.Xe:=by
 unfold izo at h;split at h
 ·cases h
 ·split at h
  ·cases h
  ·split at h
   ·cases h;exact Or.inl rfl
   ·split at h
    ·cases h;exact Or.inr rfl
    ·cases h
theorem Szk (l:List V3)(h:l.length<4294967296):(ezk l).o=some l:=by
 show(ezl l).run NN=_;cases l with
 |nil=>rfl
 |cons a l=>
  simp only[ezl,qk];simp only[wA]at h;rw[aza (by simp),aza ⟨by simp only[w7,wA];omega,by simp only[w7,wA,azg];omega⟩];rfl
theorem Vzr (l:List az8)(h:l.length<4294967296):(fzh l).o=some l:=by
 show(dzp l).run NN=_;cases l with
 |nil=>rfl
 |cons a l=>
  simp only[dzp,qk];simp only[wA]at h;rw[aza (by simp),aza ⟨by simp only[w7,wA];omega,by simp only[w7,wA,azg];omega⟩];rfl
theorem Bzw {α:Type}[Inhabited α]{l:List α}{i:Nat}(h:i<l.length):l.set i (l.getD i qw)=l:=by
 rw[az25 h];exact List.set_getElem_self h
theorem zz3 (l:List az8)(h:l.length<4294967296)(hn:∀x∈l,x.Xe.length<4294967296):(kza l).o=some l:=by
 show(qz1 l).run NN=_;simp only[qz1,qk,Vzr l h,qM];refine(cz8 (λj=>(l,(j:Int))) l l.length rfl h (λj hj=>?_) ?_).trans rfl
 ·rw[az6 (by simpa using hj),aza ⟨by simp,by simpa using hj⟩];simp only[qH];rw[aza hj,Szk _ (hn _ (bza hj)),qM,aza ⟨qa,qa⟩,aza ⟨hj,qa⟩,wn qa];exact congrArg (λx=>some (Step3.next (x,((j+1:Nat):Int)))) (Bzw hj)
 ·rw[az5 (by simp)]
def Ozo (s:azd)(p q:List Int)(l:List az8):List az8:=if(kz9 s p q l).2≠0 then l else kz1 (izo s p q) l
section
variable (s:azd) {p q:List Int} (hp:p.length<4294967296) (hq:q.length<4294967296) (l:List az8)
include hp hq
theorem Rza:(Fzp s p q l).o=some (Ozo s p q l):=by
 show(xz2 s p q l).run NN=_;simp only[xz2,qk,Hzj s p q l hp hq,qM,Ozo];by_cases h:(kz9 s p q l).2=0
 ·have hl:=(Kzk h).2.2.2;rw[bzb h,qb (by simpa using h),aza ⟨qa,by rw[azg];omega⟩];suffices hh:∃y,andK (iter _ NN (l,(0:Int))) (λy=>some y)=some y/\y=kz1 (izo s p q) l by
   obtain⟨y,h1,h2⟩:=hh;rw[<-h2];exact h1
  refine Qz6 (β:=List az8) (g:=λy=>some y) (P:=λy=>y=kz1 (izo s p q) l) (λ(y:List az8×Int)=>y.1.length<=4096/\∃j:Nat,y.2=(j:Int)/\j<=y.1.length/\Red (izo s p q) y.1 (j+1)/\kz1 (izo s p q) y.1=kz1 (izo s p q) l)
   (λy=>y.1.length * (y.1.length+1)-y.2.toNat) (λy=>y=kz1 (izo s p q) l) ⟨hl,0,rfl,by simp,λi hi=>qa,rfl⟩ ?_ (λy hy=>?_) (λy hy=>⟨y,rfl,hy⟩)
  ·show l.length * (l.length+1)-_<4294967296;have:l.length * (l.length+1)<=4096 * 4097:=qO hl qa;omega
  ·obtain⟨b0,j,b1,b2,b3,b4⟩:=hy;rw[b1,wn qa];by_cases hj:j+1<y.1.length
   ·left;rw[az6 qa,aza ⟨qa,qa⟩,qH,aza qa,aza ⟨qa,qa⟩,qH,aza hj];obtain⟨x,ok,e1,e2⟩:=Nzp s hp hq (y.1.getD j qw) (y.1.getD (j+1) qw);rw[e1,qM];have hm:j<=y.1.length * (y.1.length+1):=wG (by omega:j<=y.1.length * 1) (Nat.mul_le_mul_left _ qa);have hm2:y.1.length<=y.1.length * (y.1.length+1):=by rw[Nat.mul_add];omega
    cases ok
    ·rw[qb (by simp)]at e2;refine⟨(y.1,((j+1:Nat):Int)),rfl,⟨b0,j+1,rfl,by simp only;omega,az3z hj b3 e2,b4⟩,?_⟩;simp only[qH];omega
    ·rw[qc rfl]at e2;have hs:=az07 hj b3 e2;rw[w64 (x:=(j:Int)+2) qa qa];have i1:((j:Int)+2).toNat=j+2:=qa
     simp only[qP,qd,i1,qH,w8,w9,List.drop_zero];have L:(y.1.take j++[x]++y.1.drop (j+2)).length=y.1.length-1:=by simp;omega
     have e3:(y.1.drop (j+2)).take (y.1.length- (j+2))=y.1.drop (j+2):=by rw[List.take_of_length_le (by simp)]
     have l1:(y.1.take j).length=j:=by simp;omega
     have l2:(y.1.drop (j+2)).length=y.1.length- (j+2):=by simp
     rw[e3,aza ⟨qa,qa,qa⟩,aza ⟨by rw[l1];omega,by rw[l1,azg];omega⟩,aza ⟨by rw[l1];simp;omega,by rw[l1,azg];simp;omega⟩,aza ⟨qa,qa,qa⟩,
      aza ⟨by simp only[xb,l1,l2,xc];omega,by simp only[xb,l1,l2,xc,azg];omega⟩]
     refine⟨(y.1.take j++[x]++y.1.drop (j+2),0),rfl,⟨by simp only;omega,0,rfl,by simp,λi hi=>qa,by simp only;rw[<-hs];exact b4⟩,?_⟩;simp only[L,w8,w9];obtain⟨M,hM⟩:∃M,y.1.length=M+1:=⟨y.1.length-1,qa⟩;rw[hM];simp only[wH];have:(M+1) * (M+1+1)=M * (M+1)+(2 * M+2):=by simp only[Nat.add_mul,Nat.mul_add];omega
     omega
   ·right;rw[az5 qa];refine⟨_,rfl,?_⟩;rw[<-b4,az35];intro i hi;exact b3 i qa
 ·rw[bzq h,qc h]
theorem Kzo (hl:l.length<4294967296)(hn:∀x∈l,x.Xe.length<4294967296):(zz2 s p q l).o=some (Ozo s p q l):=by
 show(qz0 s p q l).run NN=_;simp only[qz0,qk,Gzy s p q l hp hq,qM,Ozo];by_cases h:(kz9 s p q l).2=0
 ·have hl:=(Kzk h).2.2.2;rw[bzb h,qb (by simpa using h)];let F:Nat->List az8:=λj=>((l.take j).foldl (lzv (izo s p q)) []).reverse
  have pushOk:∀ (rs:List az8) (x:az8),(∀y∈rs,y.Xe.length<4294967296)->x.Xe.length<4294967296->(∀y∈lzv (izo s p q) rs x,y.Xe.length<4294967296)/\(lzv (izo s p q) rs x).length<=rs.length+1:=by
   intro rs;induction rs with
   |nil=>intro x _ hx;simp only[lzv,wN];exact⟨λy hy=>by subst hy;exact hx,by simp⟩
   |cons a rs ih=>
    intro x hr hx;simp only[lzv];split
    ·rename_i w hw;have hw':w.Xe.length<4294967296:=by
      rcases az01 hw with e|e
      ·rw[e];exact hr a (by simp)
      ·rw[e];exact hx
     have:=ih w (λy hy=>hr y (by simp[hy])) hw';exact⟨this.1,by have:=this.2;simp only[wA];omega⟩
    ·refine⟨λy hy=>?_,by simp⟩;rcases wB.1 hy with rfl|hy
     ·exact hx
     ·exact hr y hy
  have F_ok:∀j,j<=l.length->(∀y∈F j,y.Xe.length<4294967296)/\(F j).length<=j:=by
   intro j;induction j with
   |zero=>intro _;simp[F]
   |succ j ih=>
    intro hj;have:=ih qa;have hx:(l.getD j qw).Xe.length<4294967296:=hn _ (bza qa);have e:F (j+1)=(lzv (izo s p q) (F j).reverse (l.getD j qw)).reverse:=by
     simp only[F];rw[czr qa,wR,w6];rfl
    have h2:=pushOk (F j).reverse (l.getD j qw) (λy hy=>this.1 y (by simpa using hy)) hx;rw[e];refine⟨λy hy=>h2.1 y (by simpa using hy),?_⟩;have:=h2.2;simp only[xd]at this⊢;omega
  refine(cz8 (λj=>(F j,(j:Int))) (F l.length) l.length rfl (show l.length<4294967296 from qa) (λj hj=>?_) ?_).trans ?_
  ·have hf:=F_ok j qa;rw[az6 (by simpa using hj),aza ⟨by simp,by simpa using hj⟩];simp only[qH];rw[wn qa];generalize hx0:l.getD j qw=x0;have hx:x0.Xe.length<4294967296:=by rw[<-hx0];exact hn _ (bza qa)
   have e:F (j+1)=(lzv (izo s p q) (F j).reverse x0).reverse:=by
    simp only[F];rw[czr qa,wR,w6,hx0];rfl
   rw[e];have inner:∀ (n N:Nat) (rs:List az8) (x:az8),rs.length=n->n<N->n<=4096->∃y:List az8×Int×Int×List V3,iter (λ(x231:List az8×Int×Int×List V3)=>
    (bif qx (((x231.1.length:Nat):Int)>0)then
     grd (0<=(qv.wrap (((x231.1.length:Nat):Int)-1))/\(qv.wrap (((x231.1.length:Nat):Int)-1))<((x231.1.length:Nat):Int))
     (grd (((qv.wrap (((x231.1.length:Nat):Int)-1))).toNat<x231.1.length)
     ((szt s p q (x231.1.getD (((qv.wrap (((x231.1.length:Nat):Int)-1))).toNat) qw) (⟨x231.2.1,x231.2.2.1,x231.2.2.2⟩:az8)).o.bind λy236=>
      bif !y236.2 then some (.out (x231.1,x231.2.1,x231.2.2.1,x231.2.2.2))else
       grd (0<=(qv.wrap (((x231.1.length:Nat):Int)-1))/\(qv.wrap (((x231.1.length:Nat):Int)-1))<=((x231.1.length:Nat):Int)/\0<=((qv.wrap (((x231.1.length:Nat):Int)-1))).toNat)
       (some (.next ((x231.1.take (((qv.wrap (((x231.1.length:Nat):Int)-1))).toNat)),y236.1.Xg,y236.1.Xk,y236.1.Xe)))))
     else some (.out (x231.1,x231.2.1,x231.2.2.1,x231.2.2.2)):Option (Step3 (List az8×Int×Int×List V3) (List az8×Int×Int×List V3) (Step3 (List az8×Int) (List az8) (List az8))))) N (rs.reverse,x.Xg,x.Xk,x.Xe)=some (.inl y)/\
    y.1++[(⟨y.2.1,y.2.2.1,y.2.2.2⟩:az8)]=(lzv (izo s p q) rs x).reverse/\y.1.length<=n:=by
    intro n;induction n with
    |zero=>
     intro N rs x hr hN _;obtain rfl:=List.eq_nil_of_length_eq_zero hr;obtain⟨M,rfl⟩:∃M,N=M+1:=⟨N-1,qa⟩;exact⟨([],x.Xg,x.Xk,x.Xe),by simp[iter],by simp[lzv],by simp⟩
    |succ n ih=>
     intro N rs x hr hN hn4;obtain⟨M,rfl⟩:∃M,N=M+1:=⟨N-1,qa⟩;obtain⟨a,rs',rfl⟩:∃a rs',rs=a::rs':=by cases rs with
      |nil=>simp at hr
      |cons a rs'=>exact⟨a,rs',rfl⟩
     have hr':rs'.length=n:=by simpa using hr
     have hlen:((a::rs').reverse).length=n+1:=by simp[hr']
     have hw:qv.wrap (((n+1:Nat):Int)-1)=(n:Int):=by rw[w64 qa qa];omega
     have hget:((a::rs').reverse).getD n qw=a:=by
      rw[wT,wo,List.getElem?_append_right (by simp[hr'])];simp[hr']
     have htake:((a::rs').reverse).take n=rs'.reverse:=by rw[wT,List.take_left' (by simp[hr'])]
     simp only[iter];rw[hlen,hw,az6 qa,aza ⟨qa,qa⟩,qH,aza qa,hget,htake,Nz3 s hp hq,qM];simp only[lzv];cases hJ:izo s p q a x with
     |none=>exact⟨_,rfl,by simp,by simp[hr']⟩
     |some w=>
      simp only[qP,qd];rw[aza ⟨qa,qa,qa⟩];obtain⟨y,y1,y2,y3⟩:=ih M rs' w hr' qa qa;exact⟨y,y1,y2,qa⟩
   obtain⟨y,y1,y2,y3⟩:=inner (F j).reverse.length NN (F j).reverse x0 rfl (show(F j).reverse.length<4294967296 by simp only[xd];omega) (by simp only[xd];omega);rw[w6]at y1;simp only[xd]at y3;refine(jzf y1).trans ?_;rw[aza ⟨by simp only[xc];omega,by simp only[xc,azg];omega⟩,y2]
  ·rw[az5 (by simp)]
  ·have hf:=F_ok l.length (ql _);show(kza (F l.length)).o.bind _=_;rw[zz3 _ qa hf.1];simp only[F,wZ];rfl
 ·rw[bzq h,qc h,zz3 l hl hn];rfl
end
def inV (v:V3):Prop:=InR v.1/\InR v.2.1/\InR v.2.2
theorem az0d (a:az0):(Bzr a).o=some (midV a):=by
 show(Hzp a).run NN=_;simp only[Hzp,qk,gzh,qM,midV];cases h:vV a
 ·rfl
 ·simp only[vV_iff]at h;rw[w64 qa qa,dzm ⟨qa,qa⟩ (by decide)];rfl
def cenF (l:List IV3)(i:Nat):V3:=(midV (l.getD i qw).1,midV (l.getD i qw).2.1,midV (l.getD i qw).2.2)
def cenV (l:List IV3):List V3:=if cz3 l then tab (cenF l) l.length else nl
theorem lz7 (l:List IV3):(dzz l).o=some (cenV l):=by
 show(qzj l).run NN=_;simp only[qzj,qk,T.ix,hzb,qM,cenV];cases h:cz3 l
 ·rfl
 ·have hl:=ezp h;simp only[qP,qd,if_true];refine(cz8 (λj=>(tab (cenF l) j,(j:Int))) (tab (cenF l) l.length) l.length rfl (show l.length<4294967296 from qa) (λj hj=>?_) ?_).trans rfl
  ·rw[az6 (by simpa using hj),aza ⟨by simp,by simpa using hj⟩];simp only[az0d,qM];rw[aza ⟨by simp,by simpa using hj⟩,aza ⟨by simp,by simpa using hj⟩,aza ⟨by simp[cz4];omega,by simp[cz4,azg];omega⟩,wn qa,gz0];rfl
  ·rw[az5 (by simp)]
theorem Yz1 {l:List IV3}(h:cz3 l=true):(cenV l).length=l.length:=by unfold cenV;rw[qc h,cz4]
theorem vzm {a:Int}(ha:InR a): -16384<=a.tdiv 562949953421312/\a.tdiv 562949953421312<=16384:=by
 obtain⟨h1,h2⟩:=ha;have e:=qy a 562949953421312;have l1:=qz a (show(0:Int)<562949953421312 by decide);have l2:=qA a (show(0:Int)<562949953421312 by decide);omega
theorem Czx {v:V3}(h:inV v):∃n ok,(hza v).o=some (n,ok)/\inV n:=by
 have e0:(hza v).o=(jz7 v).run NN:=rfl;rw[e0];simp only[jz7,qk,T.ix];cases (v.1==0)&&((v.2.1==0)&&((v.2.2==0)&&true))
 ·simp only[qd];have key:∀ (m k N:Nat),k+m=49->m<N->∃n ok,andK (iter (λ(x6:Int)=>(grd (x6≠0) (grd (x6≠0) (grd (x6≠0) ((fzu ((qv.wrap (v.1.tdiv x6)),(qv.wrap (v.2.1.tdiv x6)),(qv.wrap (v.2.2.tdiv x6))) 16384).o.bind λy15=>
   bif y15 then some (.fin (((qv.wrap (v.1.tdiv x6)),(qv.wrap (v.2.1.tdiv x6)),(qv.wrap (v.2.2.tdiv x6))),true))else some (.next (qv.wrap (x6 * 2)))))):Option (Step3 Int U0 (V3×Bool)))) N (2 ^ k)) (λ_=>none)=some (n,ok)/\inV n:=by
   intro m;induction m with
   |zero=>
    intro k N hk hN;obtain⟨M,rfl⟩:∃M,N=M+1:=⟨N-1,qa⟩;obtain rfl:k=49:=qa
    have e:(2:Int) ^ 49=562949953421312:=by decide
    have t1:=vzm h.1;have t2:=vzm h.2.1;have t3:=vzm h.2.2;simp only[iter,e]
    rw[aza (by decide),aza (by decide),aza (by decide),w64 (x:=v.1.tdiv _) qa qa,w64 (x:=v.2.1.tdiv _) qa qa,w64 (x:=v.2.2.tdiv _) qa qa,gzq _ (by decide) (by decide),qM,
     show hze (v.1.tdiv 562949953421312,v.2.1.tdiv 562949953421312,v.2.2.tdiv 562949953421312) 16384=true from nearV_iff.2 ⟨t1,t2,t3⟩]
    exact⟨_,_,rfl,⟨by simp only;omega,by simp only;omega⟩,⟨by simp only;omega,by simp only;omega⟩,⟨by simp only;omega,by simp only;omega⟩⟩
   |succ m ih=>
    intro k N hk hN;obtain⟨M,rfl⟩:∃M,N=M+1:=⟨N-1,qa⟩;have hp:=czp k;have hp2:(2:Int) ^ k<=562949953421312:=by
     have:(2:Int) ^ k<=2 ^ 49:=by exact_mod_cast wt (by decide:0<2) (show k<=49 from qa)
     have e:(2:Int) ^ 49=562949953421312:=by decide
     omega
    simp only[iter];rw[aza qa,aza qa,aza qa,gzq _ (by decide) (by decide),qM];cases hze (qv.wrap (v.1.tdiv (2 ^ k)),qv.wrap (v.2.1.tdiv (2 ^ k)),qv.wrap (v.2.2.tdiv (2 ^ k))) 16384
    ·simp only[qd];rw[w64 (x:=2 ^ k * 2) qa qa,<-wM];exact ih (k+1) M qa qa
    ·exact⟨_,_,rfl,InR.wr _,InR.wr _,InR.wr _⟩
  exact key 49 0 NN rfl (by decide)
 ·exact⟨_,_,rfl,h⟩
def farN (l:List V3)(i:Nat):Bool:= !hze (l.getD i qw) 268435456
def fewV (l:List V3):Bool:=qx (1<=l.length/\l.length<=8)&&czh (farN l) l.length
theorem Hz0 {l:List V3}(h:fewV l=true):1<=l.length/\l.length<=8:=by
 simp only[fewV,qn,qf]at h;exact h.1
theorem Lzx (l:List V3):(Dzx l).o=some (fewV l):=by
 show(Dzy l).run NN=_;simp only[Dzy,qk,bzf,az7,gzq _ (show(0:Int)<=268435456 by decide) (by decide),qM];refine(ezy (λi=>sw (farN l i) false) (min l.length 9) qa (λj hj=>?_) ?_).trans ?_
 ·have e:(bif qx ((j:Int)<(l.length:Int))then qx ((j:Int)<=8)else false)=true:=by rw[az6 qa,qg (p:=(j:Int)<=8) qa]
  rw[e,qe,aza qa,wn qa,qH,<-dzr];rfl
 ·have e:(bif qx (((min l.length 9:Nat):Int)<(l.length:Int))then qx (((min l.length 9:Nat):Int)<=8)else false)=false:=by
   by_cases hl:l.length<=8
   ·rw[az5 qa]
   ·by_cases h9:((min l.length 9:Nat):Int)<(l.length:Int)
    ·rw[az6 h9,qh (p:=((min l.length 9:Nat):Int)<=8) qa]
    ·rw[az5 h9]
  rw[e,qd]
 ·rw[dz9];unfold fewV;by_cases h:1<=l.length/\l.length<=8
  ·rw[qg h,qI qa,qS];cases czh (farN l) l.length
   ·rfl
   ·show(bif qx ((l.length:Int)>=1)then _ else _)=_;rw[az6 qa,qg (p:=(l.length:Int)<=8) qa]
  ·rw[qh h,wJ];cases czh (farN l) (min l.length 9)
   ·rfl
   ·show(bif qx ((l.length:Int)>=1)then _ else _)=_;by_cases h1:(l.length:Int)>=1
    ·rw[az6 h1,qh (p:=(l.length:Int)<=8) qa]
    ·rw[az5 h1]
theorem nz7 {σ τ R β:Type}{f:σ->Option (Step3 σ τ R)}{k:τ->Option R}{g:β->R}{P:β->Prop}{x:σ}(n:Nat)(hn:n<4294967296)(I:Nat->σ->Prop)(Q:τ->Prop)(h0:I 0 x)
 (hs:∀j y,j<n->I j y->∃y',f y=some (.next y')/\I (j+1) y') (he:∀y,I n y->∃z,f y=some (.out z)/\Q z) (hk:∀z,Q z->∃b,k z=some (g b)/\P b):∃b,andK (iter f NN x) k=some (g b)/\P b:=by
 have key:∀ (m j N:Nat) (y:σ),j+m=n->m<N->I j y->∃z,iter f N y=some (.inl z)/\Q z:=by
  intro m;induction m with
  |zero=>
   intro j N y hj hN hI;obtain⟨M,rfl⟩:∃M,N=M+1:=⟨N-1,qa⟩;obtain rfl:j=n:=qa
   obtain⟨z,h1,h2⟩:=he y hI;exact⟨z,by simp[iter,h1],h2⟩
  |succ m ih=>
   intro j N y hj hN hI;obtain⟨M,rfl⟩:∃M,N=M+1:=⟨N-1,qa⟩;obtain⟨y',h1,h2⟩:=hs j y qa hI;simp only[iter,h1];exact ih (j+1) M y' qa qa h2
 obtain⟨z,h1,h2⟩:=key n 0 NN x qa hn h0;obtain⟨b,h3,h4⟩:=hk z h2;exact⟨b,by rw[h1];exact h3,h4⟩
theorem wzx (l:List V3)(w:List Int)(h:w.length=l.length)(hl:l.length<4294967296):∃v,(qzo l w).o=some v/\True:=by
 have e0:(qzo l w).o=(qzp l w).run NN:=rfl;rw[e0];simp only[qzp,qk,T.ix];refine nz7 (g:=λb=>b) l.length hl (λj (y:Int×Int×Int×Int)=>y.2.2.2=(j:Int)) (λ(_:V3)=>True) rfl (λj y hj hy=>?_) (λy hy=>?_) (λz _=>⟨_,rfl,trivial⟩)
 ·rw[hy,az6 qa,aza ⟨qa,qa⟩,aza ⟨qa,qa⟩,aza ⟨qa,qa⟩,aza ⟨qa,qa⟩,aza ⟨qa,qa⟩,aza ⟨qa,qa⟩,wn qa];exact⟨_,rfl,rfl⟩
 ·rw[hy,az5 qa];exact⟨_,rfl,trivial⟩
theorem wzy (a b:V3):∃v,(lze a b).o=some v/\inV v:=⟨_,rfl,InR.wr _,InR.wr _,InR.wr _⟩
theorem mzm (a b:V3):∃v,(iz2 a b).o=some v:=⟨_,rfl⟩
theorem InR.max {a b:Int}(ha:InR a)(hb:InR b):InR (max a b):=by
 obtain⟨h1,h2⟩:=ha;obtain⟨h3,h4⟩:=hb;exact⟨qa,qa⟩
theorem Uzi {v:V3}(h:inV v)(r:Int):∃b,(sz6 v r).o=some b:=by
 have e0:(sz6 v r).o=(nzx v r).run NN:=rfl;rw[e0];simp only[nzx,qk,T.ix,cz9 (h.1.max (InR.wr _)) (show(0:Int)<65536 by decide),cz9 (h.2.1.max (InR.wr _)) (show(0:Int)<65536 by decide),cz9 (h.2.2.max (InR.wr _)) (show(0:Int)<65536 by decide),qM];exact⟨_,rfl⟩
theorem Aza (n:V3)(l:List V3)(sg:Int)(h0:1<=l.length)(hl:l.length<4294967296):∃i:Int,(fzc n l sg).o=some i/\0<=i/\i<(l.length:Int):=by
 have e0:(fzc n l sg).o=(iz1 n l sg).run NN:=rfl;rw[e0];simp only[iz1,qk];refine nz7 (g:=λb=>b) (l.length-1) qa (λj (y:Int×Int)=>y.2=((j+1:Nat):Int)/\0<=y.1/\y.1<(l.length:Int)) (λ(z:Int)=>0<=z/\z<(l.length:Int)) ⟨rfl,by simp,by simp;omega⟩ (λj y hj hy=>?_) (λy hy=>?_) (λz hz=>⟨_,rfl,hz⟩)
 ·obtain⟨h1,h2,h3⟩:=hy;obtain⟨d1,e1⟩:=mzm n (l.getD y.2.toNat qw);obtain⟨d2,e2⟩:=mzm n (l.getD y.1.toNat qw);rw[e1,e2,qM,qM,h1,az6 qa,aza ⟨qa,qa⟩,aza ⟨qa,qa⟩,wn qa];cases qx (qv.wrap (sg * d1)<qv.wrap (sg * d2))
  ·exact⟨_,rfl,rfl,h2,h3⟩
  ·exact⟨_,rfl,rfl,by simp only;omega,by simp only;omega⟩
 ·obtain⟨h1,h2,h3⟩:=hy;rw[h1,az5 qa];exact⟨_,rfl,h2,h3⟩
theorem pzj (w:List Int)(t i:Int)(hl:w.length<4294967296)(h0:0<=i)(h1:i<(w.length:Int)):∃u,(lzc w t i).o=some u/\u.length=w.length:=by
 have e0:(lzc w t i).o=(lzd w t i).run NN:=rfl;rw[e0];simp only[lzd,qk];rw[aza ⟨qa,by rw[azg];omega⟩];refine nz7 (g:=λb=>b) w.length hl (λj (y:List Int×Int×Int)=>y.2.2=(j:Int)/\y.1.length=w.length) (λ(z:List Int×Int)=>z.1.length=w.length) ⟨rfl,rfl⟩ (λj y hj hy=>?_) (λy hy=>?_) (λz hz=>?_)
 ·obtain⟨a1,a2⟩:=hy;rw[a1,az6 qa,aza ⟨qa,qa⟩,qH,aza qa,aza ⟨qa,qa⟩,aza qa,aza ⟨qa,qa⟩,aza ⟨qa,qa⟩,wn qa];exact⟨_,rfl,rfl,by simp only[wx];exact a2⟩
 ·obtain⟨a1,a2⟩:=hy;rw[a1,az5 qa];exact⟨_,rfl,a2⟩
 ·rw[aza ⟨qa,qa⟩,aza qa,aza ⟨qa,qa⟩,aza ⟨qa,qa⟩];exact⟨_,rfl,by rw[wx];exact hz⟩
def SO (x:dzk):Prop:=inV x.Xx/\x.Left.length<=8/\x.Xv.length<=8
theorem Xza {f:Int×Int×Int×List Int×List Int×Int->Option (Step3 (Int×Int×Int×List Int×List Int×Int) U0 dzk)}{k:U0->Option dzk}{y:Int×Int×Int×List Int×List Int×Int}(I:Int×Int×Int×List Int×List Int×Int->Prop)
 (hr:∀y,I y->(∃y',f y=some (.next y')/\I y'/\y'.2.2.2.2.2=y.2.2.2.2.2+1)\/∃r,f y=some (.fin r)/\SO r) (hI:∀y,I y->y.2.2.2.2.2<=65) (m:Nat) (h1:I y) (h2:y.2.2.2.2.2+m>=66) (h3:m<NN):∃r,andK (iter f NN y) k=some r/\SO r:=by
 have key:∀ (m N:Nat) y,I y->y.2.2.2.2.2+m>=66->m<N->∃r,iter f N y=some (.inr r)/\SO r:=by
  intro m;induction m with
  |zero=>intro N y h1 h2;have:=hI y h1;omega
  |succ m ih=>
   intro N y h1 h2 h3;obtain⟨M,rfl⟩:∃M,N=M+1:=⟨N-1,qa⟩;rcases hr y h1 with⟨y',e1,e2,e3⟩|⟨r,e1,e2⟩
   ·simp only[iter,e1];exact ih M y' e2 qa qa
   ·exact⟨r,by simp[iter,e1],e2⟩
 obtain⟨r,e1,e2⟩:=key m NN y h1 h2 h3;exact⟨r,by rw[e1];rfl,e2⟩
theorem Nzn (a b:List V3)(rho steps:Int):∃x,(fz4 a b rho steps).o=some x/\SO x:=by
 have z0:inV ((0,0,0):V3):=⟨⟨by decide,by decide⟩,⟨by decide,by decide⟩,⟨by decide,by decide⟩⟩;have e0:(fz4 a b rho steps).o=(jz9 a b rho steps).run NN:=rfl;rw[e0];simp only[jz9,qk,T.ix,Lzx,qM,bzf,az7];cases ha:fewV a
 ·exact⟨_,rfl,z0,by simp[nl],by simp[nl]⟩
 ·cases hb:fewV b
  ·exact⟨_,rfl,z0,by simp[nl],by simp[nl]⟩
  ·have la:=Hz0 ha;have lb:=Hz0 hb;simp only[qP,qd,ez1];cases hc:qx (rho<0)||(qx (rho>2097152)||(qx (steps<0)||qx (steps>64)))
   ·simp only[qq,qi]at hc;simp only[qd,qH,wz];rw[aza ⟨qa,qa,qa,qa⟩,aza ⟨qa,qa,qa,qa⟩,aza ⟨qa,qa⟩,aza ⟨by simp;omega,qa⟩,aza ⟨qa,qa⟩,aza ⟨by simp;omega,qa⟩];refine Xza (λy=>inV (y.1,y.2.1,y.2.2.1)/\y.2.2.2.1.length=a.length/\y.2.2.2.2.1.length=b.length/\0<=y.2.2.2.2.2/\y.2.2.2.2.2<=steps) (λy hy=>?_) (λy hy=>by have:=hy.2.2.2.2;omega) 66 ⟨z0,by simp,by simp,by simp,by simp;omega⟩ (by simp) (by decide);obtain⟨i1,i2,i3,i4,i5⟩:=hy;obtain⟨s1,es1,-⟩:=wzx a y.2.2.2.1 i2 qa;obtain⟨s2,es2,-⟩:=wzx b y.2.2.2.2.1 i3 qa;obtain⟨w,ew,hw⟩:=wzy s1 s2;obtain⟨nb,en⟩:=Uzi hw rho;rw[es1,qM,es2,qM,ew,qM,en,qM];cases nb
    ·simp only[qd];obtain⟨n,ok,eN,hN⟩:=Czx (v:=(qv.wrap (w.1.tdiv 65536),qv.wrap (w.2.1.tdiv 65536),qv.wrap (w.2.2.tdiv 65536))) ⟨InR.wr _,InR.wr _,InR.wr _⟩;rw[eN,qM];cases ok
     ·right;exact⟨_,rfl,hN,by simp only;omega,by simp only;omega⟩
     ·obtain⟨i,ei,i0,il⟩:=Aza n a 1 la.1 qa;obtain⟨j,ej,j0,jl⟩:=Aza n b (-1) lb.1 qa;obtain⟨d1,ed1⟩:=mzm n (a.getD i.toNat qw);obtain⟨d2,ed2⟩:=mzm n (b.getD j.toNat qw);obtain⟨mm,em,hm⟩:=wzy (a.getD i.toNat qw) (b.getD j.toNat qw);obtain⟨ee,eE,he⟩:=wzy (qv.wrap (w.1.tdiv 65536),qv.wrap (w.2.1.tdiv 65536),qv.wrap (w.2.2.tdiv 65536)) mm;obtain⟨u,eu⟩:=mzm (qv.wrap (w.1.tdiv 65536),qv.wrap (w.2.1.tdiv 65536),qv.wrap (w.2.2.tdiv 65536)) ee;obtain⟨v,ev⟩:=mzm ee ee;obtain⟨nv,env⟩:∃nv,(sz3 n).o=some nv:=⟨_,Az8 n⟩;simp only[qP,qd];rw[ei,qM,ej,qM,aza ⟨i0,il⟩,ed1,qM,aza ⟨j0,jl⟩,ed2,qM,env,qM];cases qx (qv.wrap (d1-d2)>qv.wrap (nv * rho))
      ·simp only[qd];rw[aza ⟨i0,il⟩,aza ⟨j0,jl⟩,em,qM,eE,qM,eu,qM,ev,qM];cases hs:qx (y.2.2.2.2.2>=steps)||qx (u<=0)
       ·simp only[qq,qi]at hs;simp only[qd];have hmx:max 1 (qv.wrap (v.tdiv 256))≠0:=qa
        rw[aza hmx];generalize min 256 (qv.wrap (u.tdiv (max 1 (qv.wrap (v.tdiv 256)))))=t;cases t==0
        ·simp only[qd];obtain⟨m1,em1,lm1⟩:=pzj y.2.2.2.1 t i qa i0 qa;obtain⟨m2,em2,lm2⟩:=pzj y.2.2.2.2.1 t j qa j0 qa;left;rw[em1,qM,em2,qM,w64 (x:=y.2.2.2.2.2+1) qa qa];exact⟨_,rfl,⟨hN,by simp only;omega,by simp only;omega,by simp only;omega,by simp only;omega⟩,rfl⟩
        ·right;exact⟨_,rfl,hN,by simp only;omega,by simp only;omega⟩
       ·right;exact⟨_,rfl,hN,by simp only;omega,by simp only;omega⟩
      ·right;exact⟨_,rfl,hN,by simp only;omega,by simp only;omega⟩
    ·right;exact⟨_,rfl,i1,by simp only;omega,by simp only;omega⟩
   ·exact⟨_,rfl,z0,by simp[nl],by simp[nl]⟩
def firB (l:List V3)(a:List IV3)(ra:Int)(b:List IV3)(rb:Int)(i:Nat):Bool:=sepV (l.getD i qw) a ra b rb
theorem Rz7 (l:List V3)(a:List IV3)(ra:Int)(b:List IV3)(rb:Int)(hl:l.length<4294967296):(Fzm l a ra b rb).o=some ((scan (λi=>sw (firB l a ra b rb i) ((i:Int),true)) l.length 0).getD (0,false)):=by
 show(wzw l a ra b rb).run NN=_;simp only[wzw,qk,vzc,qM];refine(ezy (λi=>sw (firB l a ra b rb i) ((i:Int),true)) l.length hl (λj hj=>?_) ?_).trans ?_
 ·rw[az6 qa,aza qa,wn qa,qH,<-dzr];rfl
 ·rw[az5 qa]
 ·cases scan (λi=>sw (firB l a ra b rb i) ((i:Int),true)) l.length 0<;>rfl
theorem Izt (a:Int):(iz3 a).o=some (max a (qv.wrap (0-a))):=rfl
end Go.Abs
