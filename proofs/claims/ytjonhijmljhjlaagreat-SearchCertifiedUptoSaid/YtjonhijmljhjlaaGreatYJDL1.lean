import Derived.Test.YtjonhijmljhjlaaGreatYJPLib
import Derived.Test.YtjonhijmljhjlaaGreatYJD3
import Derived.Lib.DecodeN
open Bool renaming and_eq_true->qm,not_true->qO,true_and->qR,and_self->qS,or_eq_false_iff->qp,eq_iff_iff->qY,or_eq_true->qZ,not_eq_true'->wc,and_eq_false_iff->wd,not_eq_true->we,or_self->wi,false_ne_true->wj,not_not->ws,not_eq_false->wv,and_true->wJ,false_and->wK,and_false->wP,true_eq_false->wR
open Decidable renaming decide->qw
open Go.IntKind renaming i64->qu
open Inhabited renaming default->qv
open Int renaming mul_tdiv_add_tmod->qx,tmod_lt_of_pos->qy,lt_tmod_of_pos->qz,ediv_neg_of_neg_of_pos->qA,mul_add->qB,mul_neg->qC,le_of_lt->qF,toNat_natCast->qG,le_ediv_iff_mul_le->qI,pow_add->qJ,mul_le_mul_of_nonneg_left->qK,natAbs_mul->qM,mul_nonneg->qP,mul_le_mul->qQ,one_mul->wu,mul_le_mul_of_nonneg_right->wL,toNat->wM,pow_succ->wN,toNat_zero->w9
open List renaming getD_cons_zero->wg,getD_cons_succ->wh,range_succ->wk,getD_eq_getElem?_getD->wm,mem_range->wo,replicate->qt,length_set->wx,set_set->wy,length_replicate->wA,length_cons->wB,mem_cons->wC,getElem_of_mem->wD,getElem?_eq_getElem->wE,getElem_mem->wG,mem_singleton->wO,foldl_append->wS,reverse_append->wT,reverse_cons->wU,reverse_nil->wV,nil_append->wW,singleton_append->wX,foldl_cons->wY,foldl_nil->wZ,take_length->w6,reverse_reverse->w7,length_nil->w8,length_append->xc,length_singleton->xd,length_reverse->xe
open Nat renaming add_zero->qD,zero_add->qE,min_eq_left->qH,mul_le_mul->qN,zero_le->qX,pow_le_pow_right->wt,le_refl->wz,le_trans->wH,add_sub_cancel->wI,sub_zero->xb
open Option renaming bind_some->qL,bind->qT,isSome_some->qU,isSome_none->qW,getD_some->wF,map_some->wQ
open Go.Abs.T renaming run->qk
noncomputable section
namespace Go.Abs
theorem Jzt {α:Type}{p:Prop}[Decidable p]{x y:α}(h:¬p):(bif (!decide p)then x else y)=x:=by rw[qh h];rfl
theorem Bz8 {α:Type}{p:Prop}[Decidable p]{x y:α}(h:p):(bif (!decide p)then x else y)=y:=by rw[qg h];rfl
theorem dzj {α:Type}{a b:Int}{x y:α}(h:a=b):(bif (a==b)then x else y)=x:=ezf (by simpa using h)
theorem dze {α:Type}{a b:Int}{x y:α}(h:a≠b):(bif (a==b)then x else y)=y:=ezp (by simpa using h)
theorem bzn {α:Type}{a b:Int}{x y:α}(h:a≠b):(bif (a !=b)then x else y)=x:=ezf (by simpa using h)
theorem bza {α:Type}{a b:Int}{x y:α}(h:a=b):(bif (a !=b)then x else y)=y:=ezp (by simpa using h)
theorem wr (n:Int):qu.wrap n=(n+9223372036854775808) % 18446744073709551616-9223372036854775808:=by
 show(if(true&&qw (n % 18446744073709551616>=9223372036854775808))=true then n % 18446744073709551616-18446744073709551616 else n % 18446744073709551616)=_;by_cases h:n % 18446744073709551616>=9223372036854775808
 ·rw[qc (by rw[qg h];rfl)];omega
 ·rw[qb (by rw[qh h];decide)];omega
theorem azcb (n:Int): -9223372036854775808<=qu.wrap n:=by rw[wr];omega
theorem azca (n:Int):qu.wrap n<=9223372036854775807:=by rw[wr];omega
theorem aza5 (n:Int):qu.wrap (qu.wrap n)=qu.wrap n:=w64 (azcb n) (azca n)
theorem Rzl (a b:Int):qu.wrap (qu.wrap a+b)=qu.wrap (a+b):=by simp only[wr];omega
theorem aza3 (a b:Int):qu.wrap (a+qu.wrap b)=qu.wrap (a+b):=by simp only[wr];omega
theorem Rzm (a b:Int):qu.wrap (qu.wrap a-b)=qu.wrap (a-b):=by simp only[wr];omega
theorem az3w (a b:Int):qu.wrap (a-qu.wrap b)=qu.wrap (a-b):=by simp only[wr];omega
def InR (x:Int):Prop:= -9223372036854775808<=x/\x<=9223372036854775807
theorem InR.wr (n:Int):InR (qu.wrap n):=⟨azcb n,azca n⟩
theorem InR.w {x:Int}(h:InR x):qu.wrap x=x:=w64 h.1 h.2
def cdiv (a b:Int):Int:= -((-a) / b)
theorem gzc {a b:Int}(ha:0<=a):a.tdiv b=a / b:=Int.tdiv_eq_ediv_of_nonneg ha
theorem Kz4 {a b:Int}(ha:0<=a):a.tmod b=a % b:=Int.tmod_eq_emod_of_nonneg ha
theorem Gzj (a b:Int):(-a).tdiv b= -(a.tdiv b):=Int.neg_tdiv a b
theorem az3q (a b:Int):(-a).tmod b= -(a.tmod b):=Int.neg_tmod a b
theorem uzs {a b q r:Int}(h0:0<=r)(h1:r<b)(h:a=b * q+r):a / b=q:=by
 subst h;rw[Int.mul_add_ediv_left _ _ (by omega:b≠0),Int.ediv_eq_zero_of_lt h0 h1];omega
theorem Vzu {a b:Int}(hb:0<b):(if a.tmod b<0 then a.tdiv b-1 else a.tdiv b)=a / b:=by
 have h1:=qx a b;have h2:=qy a hb;have h3:=qz a hb;split
 ·symm;exact uzs (r:=a.tmod b+b) qa qa (by rw[Int.mul_sub];omega)
 ·symm;exact uzs (r:=a.tmod b) qa qa qa
theorem az6s {a b:Int}(hb:0<b):(if a.tmod b>0 then a.tdiv b+1 else a.tdiv b)=cdiv a b:=by
 have:=Vzu (a:= -a) hb;rw[az3q,Gzj]at this;unfold cdiv;rw[<-this];split
 ·rw[qc qa];omega
 ·rw[qb qa];omega
theorem Kzo {a b:Int}(hb:0<b):b * (a / b)<=a:=Int.mul_ediv_self_le qa
theorem Sz9 {a b:Int}(hb:0<b):a<b * (a / b)+b:=Int.lt_mul_ediv_self_add hb
theorem Iz9 {a b:Int}(hb:0<b):(0<=a->0<=a / b/\a / b<=a)/\(a<0->a<=a / b/\a / b<0):=by
 refine⟨λh=>⟨Int.ediv_nonneg h qa,Int.ediv_le_self _ h⟩,λh=>⟨?_,qA h hb⟩⟩;have h1:=Sz9 (a:=a) hb;have h2:a / b<0:=qA h hb;by_cases hc:a<=a / b
 ·exact hc
 ·exfalso
  have h3:a / b+1<=a:=qa
  have h4:b * (a / b)+b=b * (a / b+1):=by rw[qB];omega
  have h5:b * (a / b+1)<=1 * (a / b+1):=Int.mul_le_mul_of_nonpos_right qa qa;omega
theorem InR.div {a b:Int}(h:InR a)(hb:0<b):InR (a / b):=by
 have:=Iz9 (a:=a) hb;obtain⟨h1,h2⟩:=h;by_cases h0:0<=a
 ·have:=this.1 h0;exact⟨qa,qa⟩
 ·have:=this.2 qa;exact⟨qa,qa⟩
theorem Pzb {a b:Int}(hb:0<b):(0<a->0<cdiv a b/\cdiv a b<=a)/\(a<=0->a<=cdiv a b/\cdiv a b<=0):=by
 have:=Iz9 (a:= -a) hb;unfold cdiv;exact⟨λh=>by have:=this.2 qa;omega,λh=>by have:=this.1 qa;omega⟩
theorem InR.cdiv {a b:Int}(h:InR a)(hb:0<b):InR (Go.Abs.cdiv a b):=by
 have:=Pzb (a:=a) hb;obtain⟨h1,h2⟩:=h;by_cases h0:0<a
 ·have:=this.1 h0;exact⟨qa,qa⟩
 ·have:=this.2 qa;exact⟨qa,qa⟩
theorem az9y {a b:Int}(hb:0<b):(0<=a->0<=a.tdiv b/\a.tdiv b<=a)/\(a<=0->a<=a.tdiv b/\a.tdiv b<=0):=by
 refine⟨λh=>?_,λh=>?_⟩
 ·rw[gzc h];exact(Iz9 hb).1 h
 ·have h1:=(Iz9 (a:= -a) hb).1 qa;rw[<-gzc qa,Gzj]at h1;omega
theorem InR.tdiv {a b:Int}(h:InR a)(hb:0<b):InR (a.tdiv b):=by
 have:=az9y (a:=a) hb;obtain⟨h1,h2⟩:=h;by_cases h0:0<=a
 ·have:=this.1 h0;exact⟨qa,qa⟩
 ·have:=this.2 qa;exact⟨qa,qa⟩
theorem azas {a b:Int}(ha:InR a)(hb:0<b):(bif qw (a.tmod b<0)then qu.wrap (qu.wrap (a.tdiv b)-1)else qu.wrap (a.tdiv b))=a / b:=by
 rw[(ha.tdiv hb).w,<-Vzu hb,cond_eq_ite];simp only[qf];split
 ·rename_i h;have:=ha.div hb;rw[<-Vzu hb,qc h]at this;exact this.w
 ·rfl
theorem azcg {a b:Int}(ha:InR a)(hb:0<b):(bif qw (a.tmod b>0)then qu.wrap (qu.wrap (a.tdiv b)+1)else qu.wrap (a.tdiv b))=cdiv a b:=by
 rw[(ha.tdiv hb).w,<-az6s hb,cond_eq_ite];simp only[qf];split
 ·rename_i h;have:=ha.cdiv hb;rw[<-az6s hb,qc h]at this;exact this.w
 ·rfl
theorem Ezc {a b q:Int}(hb:0<b):cdiv a b=q↔a<=b * q/\b * q<a+b:=by
 unfold cdiv;have h1:=Kzo (a:= -a) hb;have h2:=Sz9 (a:= -a) hb;constructor
 ·intro h;have:b * q= -(b * (-a / b)):=by rw[<-h,qC]
  omega
 ·intro h;have: -a / b= -q:=uzs (r:=b * q-a) qa qa (by rw[qC];omega);omega
def scan {R:Type}(g:Nat->Option R):Nat->Nat->Option R
 |0,_=>none
 |n+1,i=>match g i with
  |some r=>some r
  |none=>scan g n (i+1)
theorem ezt {R:Type}{g:Nat->Option R}:∀ (n i:Nat),scan g n i=none↔∀j,i<=j->j<i+n->g j=none
 |0,i=>by simp only[scan,true_iff];intro j h1 h2;omega
 |n+1,i=>by
  simp only[scan];constructor
  ·intro h;split at h
   ·cases h
   ·rename_i h0;intro j h1 h2;by_cases e:j=i
    ·subst e;exact h0
    ·exact(ezt n (i+1)).1 h j qa qa
  ·intro h;rw[h i qa qa];exact(ezt n (i+1)).2 λj h1 h2=>h j qa qa
theorem fzp {R:Type}{g:Nat->Option R}{r:R}:∀ (n i:Nat),scan g n i=some r->∃j,i<=j/\j<i+n/\g j=some r/\∀k,i<=k->k<j->g k=none
 |0,i,h=>by cases h
 |n+1,i,h=>by
  simp only[scan]at h;split at h
  ·rename_i h0;cases h;exact⟨i,qa,qa,h0,λk h1 h2=>qa⟩
  ·rename_i h0;obtain⟨j,h1,h2,h3,h4⟩:=fzp n (i+1) h;refine⟨j,qa,qa,h3,λk h5 h6=>?_⟩;by_cases e:k=i
   ·subst e;exact h0
   ·exact h4 k qa h6
theorem Szy {σ τ R:Type}{f:σ->Option (Step3 σ τ R)}(st:Nat->σ)(g:Nat->Option R)(y:τ):
 ∀ (n i N:Nat),n<N->(∀j,i<=j->j<i+n->f (st j)=match g j with|some r=>some (.fin r)|none=>some (.next (st (j+1))))->f (st (i+n))=some (.out y)->
   iter f N (st i)=some (match scan g n i with|some r=>.inr r|none=>.inl y)
 |0,i,0,h,_,_=>qa
 |0,i,N+1,_,_,h=>by simp only[qD]at h;simp[iter,h,scan]
 |n+1,i,0,h,_,_=>qa
 |n+1,i,N+1,h0,hs,he=>by
  have h1:=hs i qa qa;simp only[scan];cases hg:g i with
  |some r=>rw[hg]at h1;simp[iter,h1]
  |none=>
   rw[hg]at h1;simp only[iter,h1];exact Szy st g y n (i+1) N qa (λj a b=>hs j qa qa) (by rw[<-he];congr 2;omega)
theorem jzc {σ τ R:Type}{f:σ->Option (Step3 σ τ R)}{k:τ->Option R}{x:σ}(st:Nat->σ)(g:Nat->Option R)(y:τ)(n:Nat)(hx:x=st 0)(hn:n<NN)
 (hs:∀j,j<n->f (st j)=match g j with|some r=>some (.fin r)|none=>some (.next (st (j+1)))) (he:f (st n)=some (.out y)):
 andK (iter f NN x) k=match scan g n 0 with|some r=>some r|none=>k y:=by
 rw[hx,Szy st g y n 0 NN hn (λj _ h=>hs j qa) (by rw[qE];exact he)];cases scan g n 0<;>rfl
theorem bzv {σ τ R:Type}{f:σ->Option (Step3 σ τ R)}{k:τ->Option R}{x:σ}(st:Nat->σ)(y:τ)(n:Nat)(hx:x=st 0)(hn:n<NN)
 (hs:∀j,j<n->f (st j)=some (.next (st (j+1)))) (he:f (st n)=some (.out y)):andK (iter f NN x) k=k y:=by
 rw[hx,gzy (pze st rfl n hn hs he)]
theorem aza {R:Type}{p:Prop}[Decidable p]{k:Option R}(h:p):grd p k=k:=by unfold grd;simp[h]
theorem ez7 {α:Type}{b:Bool}{x y:α}:(bif b then some x else some y)=some (bif b then x else y):=by cases b<;>rfl
theorem bzd {σ τ R:Type}{b:Bool}{x y:τ}:(bif b then some (Step3.out x)else some (Step3.out y):Option (Step3 σ τ R))=some (.out (bif b then x else y)):=by cases b<;>rfl
theorem ezd {b c:Bool}:(bif b then true else c)=(b||c):=by cases b<;>rfl
theorem pz3 {b c:Bool}:(bif b then c else false)=(b&&c):=by cases b<;>rfl
theorem dzw {a b:Int}(ha:InR a)(hb:0<b):(bzh a b).o=some (a / b):=by
 show(Az8 a b).run NN=_;have h0:b≠0:=qa
 simp only[Az8,qk,aza h0,bzd,az9];exact congrArg some (azas ha hb)
theorem cz7 {a b:Int}(ha:InR a)(hb:0<b):(bz7 a b).o=some (cdiv a b):=by
 show(Dzt a b).run NN=_;have h0:b≠0:=qa
 simp only[Dzt,qk,aza h0,bzd,az9];exact congrArg some (azcg ha hb)
theorem czl (k:Nat):(0:Int)<2 ^ k:=Int.pow_pos qa
theorem Bz9 (a:Int)(k:Nat):a.fdiv (2 ^ k)=a / 2 ^ k:=Int.fdiv_eq_ediv_of_nonneg _ (qF (czl k))
theorem izl (a:Int)(k:Nat)(hk:k<=64):(bzc a (k:Int)).o=some (a / 2 ^ k):=by
 show(mz4 a (k:Int)).run NN=_;simp only[mz4,qk];rw[az7 qa,aza qa,qG,qH hk,Bz9]
theorem up_w {a b:Int}(ha:InR a)(hb:0<b)(hlo:InR (b * (a / b))):(bif (qu.wrap (a / b * b) !=a)then qu.wrap (a / b+1)else a / b)=cdiv a b:=by
 rw[Int.mul_comm,hlo.w];have h1:=Kzo (a:=a) hb;have h2:=Sz9 (a:=a) hb
 symm
 rw[Ezc hb];by_cases e:b * (a / b)=a
 ·rw[bza e];omega
 ·rw[bzn e];have:qu.wrap (a / b+1)=a / b+1:=by
   have h3:=ha.cdiv hb;have:cdiv a b=a / b+1:=by rw[Ezc hb,qB];omega
   rw[this]at h3;exact h3.w
  rw[this,qB];omega
theorem azbr {a:Int}{k:Nat}(hk:k<=63)(ha:InR a):InR (2 ^ k * (a / 2 ^ k)):=by
 have hp:=czl k;have h1:=Kzo (a:=a) hp;obtain⟨h3,h4⟩:=ha;have h5: -(2 ^ (63-k))<=a / 2 ^ k:=by
  rw[qI hp,Int.neg_mul,<-qJ,Nat.sub_add_cancel hk];have:(2:Int) ^ 63=9223372036854775808:=by decide
  omega
 have h6:2 ^ k * -(2:Int) ^ (63-k)<=2 ^ k * (a / 2 ^ k):=qK h5 qa;rw[qC,<-qJ,Nat.add_sub_cancel' hk]at h6;have:(2:Int) ^ 63=9223372036854775808:=by decide
 exact⟨qa,qa⟩
theorem kzg {a:Int}(k:Nat)(hk:k<=63)(ha:InR a):(bzj a (k:Int)).o=some (cdiv a (2 ^ k)):=by
 show(qzd a (k:Int)).run NN=_;simp only[qzd,qk];rw[az7 qa,aza qa,aza qa,qG,qH qa,Bz9,bzd,az9,up_w ha (czl k) (azbr hk ha)]
theorem sd16 (a:Int):(bzc a 16).o=some (a / 65536):=izl a 16 (by decide)
theorem sd30 (a:Int):(bzc a 30).o=some (a / 1073741824):=izl a 30 (by decide)
theorem sd14 (a:Int):(bzc a 14).o=some (a / 16384):=izl a 14 (by decide)
theorem su16 {a:Int}(h:InR a):(bzj a 16).o=some (cdiv a 65536):=kzg 16 (by decide) h
theorem su30 {a:Int}(h:InR a):(bzj a 30).o=some (cdiv a 1073741824):=kzg 30 (by decide) h
theorem su14 {a:Int}(h:InR a):(bzj a 14).o=some (cdiv a 16384):=kzg 14 (by decide) h
def clV (x:Int):Int:=max (-2147483648) (min x 2147483648)
def vV (a:az0):Bool:=qw (-2147483648<=a.Lo)&&(qw (a.Lo<=a.Hi)&&qw (a.Hi<=2147483648))
theorem vV_iff {a:az0}:vV a=true↔ -2147483648<=a.Lo/\a.Lo<=a.Hi/\a.Hi<=2147483648:=by simp[vV]
def iz:az0:=⟨0,0⟩
def limV (lo hi:Int):az0:=⟨clV lo,clV hi⟩
def addV (a b:az0):az0:=if vV a&&vV b then limV (a.Lo+b.Lo) (a.Hi+b.Hi)else iz
def negV (a:az0):az0:=if vV a then⟨-a.Hi,-a.Lo⟩else iz
def Tzi (a b:az0):Int:=min (min (min (a.Lo * b.Lo) (a.Lo * b.Hi)) (a.Hi * b.Lo)) (a.Hi * b.Hi)
def Tzh (a b:az0):Int:=max (max (max (a.Lo * b.Lo) (a.Lo * b.Hi)) (a.Hi * b.Lo)) (a.Hi * b.Hi)
def mulV (a b:az0):az0:=if vV a&&vV b then limV (Tzi a b / 65536) (cdiv (Tzh a b) 65536)else iz
def Zzd (a b:az0):az0:=if vV a&&vV b then⟨min a.Lo b.Lo,max a.Hi b.Hi⟩else iz
def ofV (x:Int):az0:=⟨clV x,clV x⟩
def midV (a:az0):Int:=if vV a then(a.Lo+a.Hi) / 2 else 0
theorem Qz0 (a:Int):(vzz a).o=some (clV a):=by
 show(wz0 a).run NN=_;simp only[wz0,qk,clV,Option.some.injEq];omega
theorem Izv (a:Int):(nzz a).o=some (clV a):=by
 show(Az7 a).run NN=_;simp only[Az7,qk,clV]
theorem dz4 (a:az0):(czi a).o=some (vV a):=by
 show(ozf a).run NN=_;simp only[ozf,qk,vV,ez7,pz3]
theorem gzu (a:az0):(eze a).o=some (vV a):=by
 show(Azf a).run NN=_;simp only[Azf,qk,vV,ez7,pz3]
theorem ozj (a b:az0):(jzs a b).o=some (vV a&&vV b):=by
 show(ozi a b).run NN=_;simp only[ozi,qk,dz4,qL,ez7,pz3]
theorem kzk (a b:Int):(hzy a b).o=some (limV a b):=by
 show(kzj a b).run NN=_;simp only[kzj,qk,Qz0,qL,limV]
theorem Czt (a b:Int):(uz0 a b).o=some (limV a b):=by
 show(uz1 a b).run NN=_;simp only[uz1,qk,Izv,qL,limV]
theorem kzi (a:Int):(dz7 a).o=some (ofV a):=by
 show(wz4 a).run NN=_;simp only[wz4,qk,kzk,qL,limV,ofV]
theorem Fzn (a:Int):(oz0 a).o=some (ofV a):=by
 show(Mz2 a).run NN=_;simp only[Mz2,qk,Izv,qL,ofV]
theorem wsum {a b:Int}(ha: -2147483648<=a/\a<=2147483648)(hb: -2147483648<=b/\b<=2147483648):qu.wrap (a+b)=a+b:=w64 qa qa
theorem wmul {a b:Int}(ha: -2147483648<=a/\a<=2147483648)(hb: -2147483648<=b/\b<=2147483648):qu.wrap (a * b)=a * b/\ -4611686018427387904<=a * b/\a * b<=4611686018427387904:=by
 have h: -4611686018427387904<=a * b/\a * b<=4611686018427387904:=by
  have h1:(a * b).natAbs<=2147483648 * 2147483648:=by rw[qM];exact qN qa qa
  omega
 exact⟨w64 qa qa,h⟩
theorem tz2 (a b:az0):(azr a b).o=some (addV a b):=by
 show(tz1 a b).run NN=_;simp only[tz1,qk,ozj,kzk,qL,ez7,addV];cases h:vV a&&vV b
 ·rfl
 ·simp only[qm,vV_iff]at h;rw[wsum ⟨qa,qa⟩ ⟨qa,qa⟩,wsum ⟨qa,qa⟩ ⟨qa,qa⟩];rfl
theorem Hzl (a b:az0):(bzt a b).o=some (addV a b):=by
 show(Hzk a b).run NN=_;simp only[Hzk,qk,gzu,Czt,qL,ez7,bzd,az9,addV];cases h1:vV a
 ·rfl
 ·cases h2:vV b
  ·rfl
  ·simp only[vV_iff]at h1 h2;rw[wsum ⟨qa,qa⟩ ⟨qa,qa⟩,wsum ⟨qa,qa⟩ ⟨qa,qa⟩];rfl
theorem Cz8 (a:az0):(nz7 a).o=some (negV a):=by
 show(tz6 a).run NN=_;simp only[tz6,qk,dz4,qL,ez7,negV];cases h:vV a
 ·rfl
 ·simp only[vV_iff]at h;rw[w64 (x:=0-a.Hi) qa qa,w64 (x:=0-a.Lo) qa qa];simp
theorem Ozr (a:az0):(Bzf a).o=some (negV a):=by
 show(Hzt a).run NN=_;simp only[Hzt,qk,gzu,qL,ez7,negV];cases h:vV a
 ·rfl
 ·simp only[vV_iff]at h;rw[w64 (x:=0-a.Hi) qa qa,w64 (x:=0-a.Lo) qa qa];simp
theorem zza (a b:az0):(fzm a b).o=some (Zzd a b):=by
 show(qzg a b).run NN=_;simp only[qzg,qk,ozj,qL,ez7,Zzd];cases h:vV a&&vV b<;>rfl
theorem Wzf (a b:az0):(wzx a b).o=some (Zzd a b):=by
 show(Dzu a b).run NN=_;simp only[Dzu,qk,gzu,qL,ez7,bzd,az9,Zzd];cases h1:vV a<;>cases h2:vV b<;>rfl
theorem xzt (a:az0)(h:vV a=true):(ozg a).o=some (a.Hi-a.Lo):=by
 show(ozh a).run NN=_;simp only[ozh,qk,dz4,qL,ez7,h];simp only[vV_iff]at h;rw[w64 qa qa];rfl
theorem Nz8 (a:az0)(x:Int):(Cz5 a x).o=some (vV a&&(qw (a.Lo<=x)&&qw (x<=a.Hi))):=by
 show(tz3 a x).run NN=_;simp only[tz3,qk,dz4,qL,ez7,pz3]
theorem Hz6 {a b:Int}(hb:InR b):(uzv a b).o=some (limV (a / 65536) (cdiv b 65536)):=by
 show(mz5 a b).run NN=_;simp only[mz5,qk,sd16,su16 hb,kzk,qL]
theorem az28 {a b:az0}(ha:vV a=true)(hb:vV b=true):InR (Tzi a b)/\InR (Tzh a b)/\Tzi a b<=Tzh a b:=by
 simp only[vV_iff]at ha hb;obtain⟨-,p1,p2⟩:=wmul (a:=a.Lo) (b:=b.Lo) ⟨qa,qa⟩ ⟨qa,qa⟩;obtain⟨-,q1,q2⟩:=wmul (a:=a.Lo) (b:=b.Hi) ⟨qa,qa⟩ ⟨qa,qa⟩;obtain⟨-,r1,r2⟩:=wmul (a:=a.Hi) (b:=b.Lo) ⟨qa,qa⟩ ⟨qa,qa⟩;obtain⟨-,s1,s2⟩:=wmul (a:=a.Hi) (b:=b.Hi) ⟨qa,qa⟩ ⟨qa,qa⟩;unfold Tzi Tzh InR;generalize a.Lo * b.Lo=p at *
 generalize a.Lo * b.Hi=q at *
 generalize a.Hi * b.Lo=r at *
 generalize a.Hi * b.Hi=s at *
 omega
theorem Ozq (a b:az0):(bz8 a b).o=some (mulV a b):=by
 show(Hzs a b).run NN=_;simp only[Hzs,qk,gzu,Czt,qL,ez7,bzd,az9,mulV];cases h1:vV a
 ·rfl
 ·cases h2:vV b
  ·rfl
  ·have hm:=az28 h1 h2;simp only[vV_iff]at h1 h2
   rw[(wmul (a:=a.Lo) (b:=b.Lo) ⟨qa,qa⟩ ⟨qa,qa⟩).1,(wmul (a:=a.Lo) (b:=b.Hi) ⟨qa,qa⟩ ⟨qa,qa⟩).1,
    (wmul (a:=a.Hi) (b:=b.Lo) ⟨qa,qa⟩ ⟨qa,qa⟩).1,(wmul (a:=a.Hi) (b:=b.Hi) ⟨qa,qa⟩ ⟨qa,qa⟩).1]
   show(bzh (Tzi a b) 65536).o.bind _=_;rw[dzw hm.1 (by decide),qL];show(bz7 (Tzh a b) 65536).o.bind _=_;rw[cz7 hm.2.1 (by decide)];rfl
theorem Cz7 (a b:az0):(azs a b).o=some (mulV a b):=by
 show(tz5 a b).run NN=_;simp only[tz5,qk,ozj,qL,mulV];cases h:vV a&&vV b
 ·rfl
 ·simp only[qm]at h;have hm:=az28 h.1 h.2;simp only[vV_iff]at h
  rw[(wmul (a:=a.Lo) (b:=b.Lo) ⟨qa,qa⟩ ⟨qa,qa⟩).1,(wmul (a:=a.Lo) (b:=b.Hi) ⟨qa,qa⟩ ⟨qa,qa⟩).1,
     (wmul (a:=a.Hi) (b:=b.Lo) ⟨qa,qa⟩ ⟨qa,qa⟩).1,(wmul (a:=a.Hi) (b:=b.Hi) ⟨qa,qa⟩ ⟨qa,qa⟩).1]
  simp only[qO,qd];refine Eq.trans (bzv (λi=>match i with
   |0=>(a.Lo * b.Lo,a.Lo * b.Lo,0)
   |1=>(a.Lo * b.Lo,a.Lo * b.Lo,1)
   |2=>(min (a.Lo * b.Lo) (a.Lo * b.Hi),max (a.Lo * b.Lo) (a.Lo * b.Hi),2)
   |3=>(min (min (a.Lo * b.Lo) (a.Lo * b.Hi)) (a.Hi * b.Lo),max (max (a.Lo * b.Lo) (a.Lo * b.Hi)) (a.Hi * b.Lo),3)
   |_=>(Tzi a b,Tzh a b,4)) (Tzi a b,Tzh a b) 4 rfl (by decide) ?_ ?_) ?_
  ·intro j hj
   match j,hj with
   |0,_=>simp[aza,IntKind.wrap,IntKind.bits,IntKind.signed]
   |1,_=>simp[aza,IntKind.wrap,IntKind.bits,IntKind.signed]
   |2,_=>simp[aza,IntKind.wrap,IntKind.bits,IntKind.signed]
   |3,_=>simp[aza,IntKind.wrap,IntKind.bits,IntKind.signed,Tzi,Tzh]
  ·rfl
  ·rw[Hz6 hm.2.1];rfl
def pd1 (x:Int):Int:=qu.wrap (x * 6746518852) / 65536
def pu1 (x:Int):Int:=cdiv (qu.wrap (x * 6746518853)) 65536
def pd (x:Int):Nat->Int
 |0=>pd1 x
 |k+1=>qu.wrap (pd x k * pd1 x) / 1073741824
def pu (x:Int):Nat->Int
 |0=>pu1 x
 |k+1=>cdiv (qu.wrap (pu x k * pu1 x)) 1073741824
theorem xzm (x:Int):(oz6 x).o=some ((1073741824,pd x 0,pd x 1,pd x 2,pd x 3,pd x 4,pd x 5,pd x 6,pd x 7,pd x 8,pd x 9),(1073741824,pu x 0,pu x 1,pu x 2,pu x 3,pu x 4,pu x 5,pu x 6,pu x 7,pu x 8,pu x 9)):=by
 show(oz7 x).run NN=_;simp only[oz7,qk,sd16,su16 (InR.wr _),sd30,su30 (InR.wr _),qL,pd,pu,pd1,pu1]
theorem Fzq (x:Int):(xz0 x).o=some ((0,pd x 0,pd x 1,pd x 2,pd x 3,pd x 4,pd x 5,pd x 6,pd x 7,pd x 8,pd x 9),(0,pu x 0,pu x 1,pu x 2,pu x 3,pu x 4,pu x 5,pu x 6,pu x 7,pu x 8,pu x 9)):=by
 have h1:∀y:Int,(bzh (qu.wrap y) 65536).o=some (qu.wrap y / 65536):=λy=>dzw (InR.wr _) (by decide)
 have h2:∀y:Int,(bz7 (qu.wrap y) 65536).o=some (cdiv (qu.wrap y) 65536):=λy=>cz7 (InR.wr _) (by decide)
 have h3:∀y:Int,(bzh (qu.wrap y) 1073741824).o=some (qu.wrap y / 1073741824):=λy=>dzw (InR.wr _) (by decide)
 have h4:∀y:Int,(bz7 (qu.wrap y) 1073741824).o=some (cdiv (qu.wrap y) 1073741824):=λy=>cz7 (InR.wr _) (by decide)
 show(xz1 x).run NN=_;simp only[xz1,qk,h1,h2,h3,h4,qL,pd,pu,pd1,pu1]
theorem az76 {x:Int}(h0:0<=x)(h1:x<=8192):0<=pd1 x/\pd1 x<=1073741824:=by
 unfold pd1;rw[w64 qa qa];omega
theorem az79 {x:Int}(h0:0<=x)(h1:x<=8192):0<=pu1 x/\pu1 x<=1073741824:=by
 unfold pu1 cdiv;rw[w64 qa qa];omega
theorem az2q {a b:Int}(ha:0<=a/\a<=1073741824)(hb:0<=b/\b<=1073741824):0<=a * b/\a * b<=1152921504606846976:=by
 refine⟨qP ha.1 hb.1,?_⟩;have:=qQ ha.2 hb.2 hb.1 (by omega:(0:Int)<=1073741824);omega
theorem az2k {x:Int}(h0:0<=x)(h1:x<=8192):∀k,0<=pd x k/\pd x k<=1073741824
 |0=>az76 h0 h1
 |k+1=>by
  have:=az2q (az2k h0 h1 k) (az76 h0 h1);simp only[pd];generalize pd x k * pd1 x=y at this⊢;rw[w64 qa qa];omega
theorem az2s {x:Int}(h0:0<=x)(h1:x<=8192):∀k,0<=pu x k/\pu x k<=1073741824
 |0=>az79 h0 h1
 |k+1=>by
  have:=az2q (az2s h0 h1 k) (az79 h0 h1);simp only[pu];generalize pu x k * pu1 x=y at this⊢;rw[w64 qa qa];unfold cdiv;omega
theorem ez6 {n d:Int}(h0:0<=n)(h1:n<=1073741824)(h2:0<d)(h3:d<=1073741824):(dzi n d).o=some (cdiv n d):=by
 show(qz0 n d).run NN=_;simp only[qz0,qk];rw[aza qa,w64 (x:=n+d) qa qa,w64 (x:=n+d-1) qa qa,gzc qa];have h4:=Kzo (a:=n+d-1) h2;have h5:=Sz9 (a:=n+d-1) h2;have h6:=(Iz9 (a:=n+d-1) h2).1 qa;rw[w64 qa qa];congr 1;symm;rw[Ezc h2];omega
def alt (l:List Int):Nat->Int×Int
 |0=>(0,1)
 |k+1=>(qu.wrap ((alt l k).1+qu.wrap ((alt l k).2 * l.getD k qv)),qu.wrap (0- (alt l k).2))
theorem jzy (l:List Int)(h:l.length<4294967296):(czz l).o=some (alt l l.length).1:=by
 show(jzx l).run NN=_;simp only[jzx,qk];refine Eq.trans (bzv (λi=>((alt l i).1,(alt l i).2,(i:Int))) (alt l l.length).1 l.length rfl h ?_ ?_) rfl
 ·intro j hj;rw[az8 (by simpa using hj),aza ⟨by simp,by simpa using hj⟩];simp only[alt,w64n (show j<9223372036854775807 from qa),qG]
 ·rw[az7 (by simp)]
theorem alt4 {a b c d:Int}(ha:0<=a/\a<=1073741824)(hb:0<=b/\b<=1073741824)(hc:0<=c/\c<=1073741824)(hd:0<=d/\d<=1073741824):(czz [a,b,c,d]).o=some (a-b+c-d):=by
 rw[jzy _ (by simp)];simp[alt,wr];omega
theorem alt5 {a b c d e:Int}(ha:0<=a/\a<=1073741824)(hb:0<=b/\b<=1073741824)(hc:0<=c/\c<=1073741824)(hd:0<=d/\d<=1073741824)(he:0<=e/\e<=1073741824):(czz [a,b,c,d,e]).o=some (a-b+c-d+e):=by
 rw[jzy _ (by simp)];simp[alt,wr];omega
theorem alt6 {a b c d e f:Int}(ha:0<=a/\a<=1073741824)(hb:0<=b/\b<=1073741824)(hc:0<=c/\c<=1073741824)(hd:0<=d/\d<=1073741824)(he:0<=e/\e<=1073741824)(hf:0<=f/\f<=1073741824):(czz [a,b,c,d,e,f]).o=some (a-b+c-d+e-f):=by
 rw[jzy _ (by simp)];simp[alt,wr];omega
def encV (lo hi:Int):az0:=⟨max 0 (lo / 16384),min 65536 (cdiv hi 16384)⟩
theorem uzo {a b:Int}(hb:InR b):(lzx a b).o=some (encV a b):=by
 show(lzy a b).run NN=_;simp only[lzy,qk,sd14,su14 hb,qL,encV]
theorem yz6 {a b:Int}(ha:InR a)(hb:InR b):(ozt a b).o=some (encV a b):=by
 show(ozu a b).run NN=_;simp only[ozu,qk,dzw ha (show(0:Int)<16384 by decide),cz7 hb (show(0:Int)<16384 by decide),qL,encV]
def sLo (x:Int):Int:=pd x 0-cdiv (pu x 2) 6+pd x 4 / 120-cdiv (pu x 6) 5040
def sHi (x:Int):Int:=pu x 0-pd x 2 / 6+cdiv (pu x 4) 120-pd x 6 / 5040+cdiv (pu x 8) 362880
def cLo (x:Int):Int:=1073741824-cdiv (pu x 1) 2+pd x 3 / 24-cdiv (pu x 5) 720+pd x 7 / 40320-cdiv (pu x 9) 3628800
def cHi (x:Int):Int:=1073741824-pd x 1 / 2+cdiv (pu x 3) 24-pd x 5 / 720+cdiv (pu x 7) 40320
theorem q_bd {a b:Int}(ha:0<=a/\a<=1073741824)(hb:0<b):0<=a / b/\a / b<=1073741824:=by
 have:=(Iz9 (a:=a) hb).1 ha.1;omega
theorem c_bd {a b:Int}(ha:0<=a/\a<=1073741824)(hb:0<b):0<=cdiv a b/\cdiv a b<=1073741824:=by
 have h:=Pzb (a:=a) hb;by_cases h0:a=0
 ·have:=h.2 qa;omega
 ·have:=h.1 qa;omega
theorem wq {a b:Int}(ha:0<=a/\a<=1073741824)(hb:0<b):qu.wrap (a.tdiv b)=a / b:=by
 rw[gzc ha.1];have:=q_bd ha hb;exact w64 qa qa
theorem in30 {a:Int}(ha:0<=a/\a<=1073741824):InR a:=⟨qa,qa⟩
section
variable {x:Int} (h0:0<=x) (h1:x<=8192)
include h0 h1
theorem Rzt:(Iz6 x).o=some (encV (sLo x) (sHi x)):=by
 have P:=az2k h0 h1;have U:=az2s h0 h1;show(yzk x).run NN=_
 simp only[yzk,qk,T.ix,xzm,qL,ez6 (U 2).1 (U 2).2 (show(0:Int)<6 by decide) (by decide),ez6 (U 6).1 (U 6).2 (show(0:Int)<5040 by decide) (by decide),
  ez6 (U 4).1 (U 4).2 (show(0:Int)<120 by decide) (by decide),ez6 (U 8).1 (U 8).2 (show(0:Int)<362880 by decide) (by decide),wq (P 4) (show(0:Int)<120 by decide),wq (P 2) (show(0:Int)<6 by decide),wq (P 6) (show(0:Int)<5040 by decide),
  alt4 (P 0) (c_bd (U 2) (show(0:Int)<6 by decide)) (q_bd (P 4) (show(0:Int)<120 by decide)) (c_bd (U 6) (show(0:Int)<5040 by decide)),
  alt5 (U 0) (q_bd (P 2) (show(0:Int)<6 by decide)) (c_bd (U 4) (show(0:Int)<120 by decide)) (q_bd (P 6) (show(0:Int)<5040 by decide)) (c_bd (U 8) (show(0:Int)<362880 by decide))]
 have a0:=U 0;have a1:=q_bd (P 2) (show(0:Int)<6 by decide);have a2:=c_bd (U 4) (show(0:Int)<120 by decide);have a3:=q_bd (P 6) (show(0:Int)<5040 by decide);have a4:=c_bd (U 8) (show(0:Int)<362880 by decide);rw[uzo ⟨qa,qa⟩];rfl
theorem Mzy:(Bzz x).o=some (encV (cLo x) (cHi x)):=by
 have P:=az2k h0 h1;have U:=az2s h0 h1;have one:(0:Int)<=1073741824/\(1073741824:Int)<=1073741824:=by decide
 show(szl x).run NN=_
 simp only[szl,qk,T.ix,xzm,qL,ez6 (U 1).1 (U 1).2 (show(0:Int)<2 by decide) (by decide),ez6 (U 5).1 (U 5).2 (show(0:Int)<720 by decide) (by decide),ez6 (U 9).1 (U 9).2 (show(0:Int)<3628800 by decide) (by decide),
  ez6 (U 3).1 (U 3).2 (show(0:Int)<24 by decide) (by decide),ez6 (U 7).1 (U 7).2 (show(0:Int)<40320 by decide) (by decide),wq (P 3) (show(0:Int)<24 by decide),wq (P 7) (show(0:Int)<40320 by decide),wq (P 1) (show(0:Int)<2 by decide),wq (P 5) (show(0:Int)<720 by decide),
  alt6 one (c_bd (U 1) (show(0:Int)<2 by decide)) (q_bd (P 3) (show(0:Int)<24 by decide)) (c_bd (U 5) (show(0:Int)<720 by decide)) (q_bd (P 7) (show(0:Int)<40320 by decide)) (c_bd (U 9) (show(0:Int)<3628800 by decide)),
  alt5 one (q_bd (P 1) (show(0:Int)<2 by decide)) (c_bd (U 3) (show(0:Int)<24 by decide)) (q_bd (P 5) (show(0:Int)<720 by decide)) (c_bd (U 7) (show(0:Int)<40320 by decide))]
 have a1:=q_bd (P 1) (show(0:Int)<2 by decide);have a2:=c_bd (U 3) (show(0:Int)<24 by decide);have a3:=q_bd (P 5) (show(0:Int)<720 by decide);have a4:=c_bd (U 7) (show(0:Int)<40320 by decide);rw[uzo ⟨qa,qa⟩];rfl
theorem Wzi:(Mz8 x).o=some (encV (sLo x) (sHi x)):=by
 have P:=az2k h0 h1;have U:=az2s h0 h1;show(Dzz x).run NN=_
 simp only[Dzz,qk,T.ix,Fzq,qL,cz7 (in30 (U 2)) (show(0:Int)<6 by decide),cz7 (in30 (U 6)) (show(0:Int)<5040 by decide),cz7 (in30 (U 4)) (show(0:Int)<120 by decide),cz7 (in30 (U 8)) (show(0:Int)<362880 by decide),
  dzw (in30 (P 4)) (show(0:Int)<120 by decide),dzw (in30 (P 2)) (show(0:Int)<6 by decide),dzw (in30 (P 6)) (show(0:Int)<5040 by decide),Rzl,Rzm]
 have b0:=P 0;have b1:=c_bd (U 2) (show(0:Int)<6 by decide);have b2:=q_bd (P 4) (show(0:Int)<120 by decide);have b3:=c_bd (U 6) (show(0:Int)<5040 by decide);have a0:=U 0;have a1:=q_bd (P 2) (show(0:Int)<6 by decide);have a2:=c_bd (U 4) (show(0:Int)<120 by decide);have a3:=q_bd (P 6) (show(0:Int)<5040 by decide);have a4:=c_bd (U 8) (show(0:Int)<362880 by decide);rw[w64 (x:=pd x 0-cdiv (pu x 2) 6+pd x 4 / 120-cdiv (pu x 6) 5040) qa qa,w64 (x:=pu x 0-pd x 2 / 6+cdiv (pu x 4) 120-pd x 6 / 5040+cdiv (pu x 8) 362880) qa qa,yz6 ⟨qa,qa⟩ ⟨qa,qa⟩];rfl
theorem Rz4:(Fzp x).o=some (encV (cLo x) (cHi x)):=by
 have P:=az2k h0 h1;have U:=az2s h0 h1;show(wzz x).run NN=_
 simp only[wzz,qk,T.ix,Fzq,qL,cz7 (in30 (U 1)) (show(0:Int)<2 by decide),cz7 (in30 (U 5)) (show(0:Int)<720 by decide),cz7 (in30 (U 9)) (show(0:Int)<3628800 by decide),cz7 (in30 (U 3)) (show(0:Int)<24 by decide),cz7 (in30 (U 7)) (show(0:Int)<40320 by decide),
  dzw (in30 (P 3)) (show(0:Int)<24 by decide),dzw (in30 (P 7)) (show(0:Int)<40320 by decide),dzw (in30 (P 1)) (show(0:Int)<2 by decide),dzw (in30 (P 5)) (show(0:Int)<720 by decide),Rzl,Rzm]
 have b1:=c_bd (U 1) (show(0:Int)<2 by decide);have b2:=q_bd (P 3) (show(0:Int)<24 by decide);have b3:=c_bd (U 5) (show(0:Int)<720 by decide);have b4:=q_bd (P 7) (show(0:Int)<40320 by decide);have b5:=c_bd (U 9) (show(0:Int)<3628800 by decide);have a1:=q_bd (P 1) (show(0:Int)<2 by decide);have a2:=c_bd (U 3) (show(0:Int)<24 by decide);have a3:=q_bd (P 5) (show(0:Int)<720 by decide);have a4:=c_bd (U 7) (show(0:Int)<40320 by decide);rw[w64 (x:=1073741824-cdiv (pu x 1) 2+pd x 3 / 24-cdiv (pu x 5) 720+pd x 7 / 40320-cdiv (pu x 9) 3628800) qa qa,w64 (x:=1073741824-pd x 1 / 2+cdiv (pu x 3) 24-pd x 5 / 720+cdiv (pu x 7) 40320) qa qa,yz6 ⟨qa,qa⟩ ⟨qa,qa⟩];rfl
end
def qV (r:Int):az0:=if r<=8192 then encV (sLo r) (sHi r)else encV (cLo (16384-r)) (cHi (16384-r))
theorem Ezb {r:Int}(h0:0<=r)(h1:r<=16384):(kz9 r).o=some (qV r):=by
 show(vzk r).run NN=_;simp only[vzk,qk,qV];by_cases h:r<=8192
 ·rw[az8 h,qc h,Rzt h0 h];rfl
 ·rw[az7 h,qb h,w64 qa qa,Mzy qa qa];rfl
theorem Czr {r:Int}(h0:0<=r)(h1:r<=16384):(jzo r).o=some (qV r):=by
 show(tzy r).run NN=_;simp only[tzy,qk,qV];by_cases h:r<=8192
 ·rw[az8 h,qc h,Wzi h0 h];rfl
 ·rw[az7 h,qb h,w64 qa qa,Rz4 qa qa];rfl
theorem az42 (a:Int):(((BitVec.ofInt 64 a&&&BitVec.ofInt 64 65535).toNat:Nat):Int)=a % 65536:=by
 have h1:(BitVec.ofInt 64 65535).toNat=2 ^ 16-1:=by decide
 rw[BitVec.toNat_and,h1,Nat.and_two_pow_sub_one_eq_mod,BitVec.toNat_ofInt];omega
theorem qz2 (a:Int):(kzb a).o=some (a % 65536):=by
 show(qz1 a).run NN=_;simp only[qz1,qk];rw[az42,w64 qa qa]
theorem Hzr (a:Int):(Bze a).o=some (a % 65536):=by
 show(Hzq a).run NN=_;simp only[Hzq,qk];have h2:=qy a (show(0:Int)<65536 by decide);have h3:=qz a (show(0:Int)<65536 by decide);have h1:=qx a 65536;rw[w64 qa qa,Kz4 qa];congr 1;omega
def sinV (a:Int):az0:=
 if a % 65536 / 16384=0 then qV (a % 65536 % 16384)else if a % 65536 / 16384=1 then qV (16384-a % 65536 % 16384)else
 if a % 65536 / 16384=2 then negV (qV (a % 65536 % 16384))else negV (qV (16384-a % 65536 % 16384))
theorem Kzb (a:Int):(vzj a).o=some (sinV a):=by
 show(Dz8 a).run NN=_;simp only[Dz8,qk,qz2,qL,sinV];rw[gzc qa,Kz4 qa,w64 (x:=a % 65536 / 16384) qa qa,w64 (x:=16384-a % 65536 % 16384) qa qa,Ezb qa qa,Ezb qa qa];simp only[qL,Cz8];by_cases h0:a % 65536 / 16384=0
 ·rw[dzj h0,qc h0]
 ·rw[dze h0,qb h0];by_cases h1:a % 65536 / 16384=1
  ·rw[dzj h1,qc h1]
  ·rw[dze h1,qb h1];by_cases h2:a % 65536 / 16384=2
   ·rw[dzj h2,qc h2]
   ·rw[dze h2,qb h2]
theorem Ozs (a:Int):(Bzg a).o=some (sinV a):=by
 show(Hzu a).run NN=_;simp only[Hzu,qk,Hzr,qL,sinV];rw[gzc qa,Kz4 qa,w64 (x:=a % 65536 / 16384) qa qa,w64 (x:=16384-a % 65536 % 16384) qa qa,Czr qa qa,Czr qa qa];simp only[qL,Ozr];by_cases h0:a % 65536 / 16384=0
 ·rw[dzj h0,qc h0]
 ·rw[dze h0,qb h0];by_cases h1:a % 65536 / 16384=1
  ·rw[dzj h1,qc h1]
  ·rw[dze h1,qb h1];by_cases h2:a % 65536 / 16384=2
   ·rw[dzj h2,qc h2]
   ·rw[dze h2,qb h2]
def cosV (a:Int):az0:=sinV (a % 65536+16384)
theorem Vz3 (a:Int):(Dz6 a).o=some (cosV a):=by
 show(Dz7 a).run NN=_;simp only[Dz7,qk,qz2,qL,cosV];rw[w64 qa qa,Kzb];rfl
theorem Zzq (a:Int):(Hzn a).o=some (cosV a):=by
 show(Hzo a).run NN=_;simp only[Hzo,qk,Hzr,qL,cosV];rw[w64 qa qa,Ozs];rfl
def Jzi (a:az0)(c:Int):Bool:=qw (a.Lo+(c-a.Lo) % 65536<=a.Hi)
def azau (b:Bool)(x y:az0):az0:=if b then Zzd x y else x
def Tzo (a lo hi:az0)(top bot:Int):az0:=
 if vV a then(if a.Hi-a.Lo>=65536 then⟨-65536,65536⟩else azau (Jzi a bot) (azau (Jzi a top) (Zzd lo hi) (ofV 65536)) (ofV (-65536)))else iz
section
variable {a:az0} (h:vV a=true) {c:Int} (h0:0<=c) (h1:c<=65536)
include h h0 h1
theorem pza:(kza a c).o=some (Jzi a c):=by
 show(vzl a c).run NN=_;have hv:=h;simp only[vV_iff]at hv;simp only[vzl,qk,qz2,qL,Nz8,h,qR,Jzi];rw[w64 (x:=c-a.Lo) qa qa,w64 qa qa,qg (p:=a.Lo<=_) qa,qR]
theorem Izw:(Azg a c).o=some (Jzi a c):=by
 show(Azh a c).run NN=_;have hv:=h;simp only[vV_iff]at hv;simp only[Azh,qk,Hzr,qL,Jzi];rw[w64 (x:=c-a.Lo) qa qa,w64 qa qa]
end
theorem Rzs (a:az0){t b:Int}(ht:0<=t/\t<=65536)(hb:0<=b/\b<=65536):(Iz5 a t b).o=some (Tzo a (cosV a.Lo) (cosV a.Hi) t b):=by
 show(yzj a t b).run NN=_;simp only[yzj,qk,dz4,qL,Tzo];cases h:vV a
 ·rfl
 ·simp only[qO,qd,xzt a h,qL,Vz3,zza,pza h ht.1 ht.2,pza h hb.1 hb.2,kzi,if_true];by_cases hw:a.Hi-a.Lo>=65536
  ·rw[az8 hw,qc hw]
  ·rw[az7 hw,qb hw];cases Jzi a t<;>cases Jzi a b<;>rfl
theorem Mzz (a:az0){t b:Int}(ht:0<=t/\t<=65536)(hb:0<=b/\b<=65536):(Cz0 a t b).o=some (Tzo a (sinV a.Lo) (sinV a.Hi) t b):=by
 show(szm a t b).run NN=_;simp only[szm,qk,dz4,qL,Tzo];cases h:vV a
 ·rfl
 ·simp only[qO,qd,xzt a h,qL,Kzb,zza,pza h ht.1 ht.2,pza h hb.1 hb.2,kzi,if_true];by_cases hw:a.Hi-a.Lo>=65536
  ·rw[az8 hw,qc hw]
  ·rw[az7 hw,qb hw];cases Jzi a t<;>cases Jzi a b<;>rfl
theorem Mz7 (a lo hi:az0){t b:Int}(ht:0<=t/\t<=65536)(hb:0<=b/\b<=65536):(Dzx a lo hi t b).o=some (Tzo a lo hi t b):=by
 show(Dzy a lo hi t b).run NN=_;simp only[Dzy,qk,gzu,qL,Tzo];cases h:vV a
 ·rfl
 ·have hv:=h;simp only[vV_iff]at hv;rw[w64 qa qa];simp only[qO,qd,qL,Wzf,Izw h ht.1 ht.2,Izw h hb.1 hb.2,Fzn,if_true];by_cases hw:a.Hi-a.Lo>=65536
  ·rw[az8 hw,qc hw]
  ·rw[az7 hw,qb hw];cases Jzi a t<;>cases Jzi a b<;>rfl
def sinO (a:az0):az0:=Tzo a (sinV a.Lo) (sinV a.Hi) 16384 49152
def cosO (a:az0):az0:=Tzo a (cosV a.Lo) (cosV a.Hi) 0 32768
theorem Kza (a:az0):(yzi a).o=some (sinO a):=by
 show(pzz a).run NN=_;simp only[pzz,qk,Mzz a (show(0:Int)<=16384/\(16384:Int)<=65536 by decide) (show(0:Int)<=49152/\(49152:Int)<=65536 by decide),qL,sinO]
theorem Kz9 (a:az0):(yzh a).o=some (cosO a):=by
 show(pzy a).run NN=_;simp only[pzy,qk,Rzs a (show(0:Int)<=0/\(0:Int)<=65536 by decide) (show(0:Int)<=32768/\(32768:Int)<=65536 by decide),qL,cosO]
theorem Nzr (a:az0):(Czs a).o=some (sinO a):=by
 show(tzz a).run NN=_;simp only[tzz,qk,Ozs,Mz7 a _ _ (show(0:Int)<=16384/\(16384:Int)<=65536 by decide) (show(0:Int)<=49152/\(49152:Int)<=65536 by decide),qL,sinO]
theorem Nzq (a:az0):(Czq a).o=some (cosO a):=by
 show(tzx a).run NN=_;simp only[tzx,qk,Zzq,Mz7 a _ _ (show(0:Int)<=0/\(0:Int)<=65536 by decide) (show(0:Int)<=32768/\(32768:Int)<=65536 by decide),qL,cosO]
abbrev IV3:=az0×az0×az0
abbrev IM3:=IV3×IV3×IV3
def izv:IV3:=(iz,iz,iz)
def zzo (v:Int×Int×Int):IV3:=(ofV v.1,ofV v.2.1,ofV v.2.2)
def az04:IM3:=((ofV 65536,iz,iz),(iz,ofV 65536,iz),(iz,iz,ofV 65536))
def Yzw (a b:IV3):IV3:=(addV a.1 b.1,addV a.2.1 b.2.1,addV a.2.2 b.2.2)
def dotV (r v:IV3):az0:=addV (addV (mulV r.1 v.1) (mulV r.2.1 v.2.1)) (mulV r.2.2 v.2.2)
def Oz0 (m:IM3)(v:IV3):IV3:=(dotV m.1 v,dotV m.2.1 v,dotV m.2.2 v)
def lim1 (a:az0):az0:=⟨max (-65536) (min a.Lo 65536),max (-65536) (min a.Hi 65536)⟩
def rowV (r:IV3)(b:IM3):IV3:=(lim1 (dotV r (b.1.1,b.2.1.1,b.2.2.1)),lim1 (dotV r (b.1.2.1,b.2.1.2.1,b.2.2.2.1)),lim1 (dotV r (b.1.2.2,b.2.1.2.2,b.2.2.2.2)))
def az0p (a b:IM3):IM3:=(rowV a.1 b,rowV a.2.1 b,rowV a.2.2 b)
def Uzt (axis:Int)(a:az0):IM3:=
 if vV a then(if axis=0 then((ofV 65536,iz,iz),(iz,cosO a,negV (sinO a)),(iz,sinO a,cosO a))else
  if axis=1 then((cosO a,iz,sinO a),(iz,ofV 65536,iz),(negV (sinO a),iz,cosO a))else
  if axis=2 then((cosO a,negV (sinO a),iz),(sinO a,cosO a,iz),(iz,iz,ofV 65536))else(izv,izv,izv))else(izv,izv,izv)
def Jz4 (v:IV3):bz2:=⟨az04,v⟩
def Uz9:bz2:=⟨az04,izv⟩
def Vzg (a b:bz2):bz2:=⟨az0p a.R b.R,Yzw a.T (Oz0 a.R b.T)⟩
def Tzg (p:bz2)(v:IV3):IV3:=Yzw p.T (Oz0 p.R v)
def Jz5 (k:Int)(a:az0):IV3:=if k=4 then(a,iz,iz)else if k=5 then(iz,a,iz)else(iz,iz,a)
def Cza (j:bz1)(a:az0):bz2:=
 Vzg (Jz4 (zzo j.Xy)) (if j.Xl=1\/j.Xl=2\/j.Xl=3 then⟨Uzt (j.Xl-1) a,izv⟩else if j.Xl=4\/j.Xl=5\/j.Xl=6 then Jz4 (Jz5 j.Xl a)else Uz9)
theorem az49 {a b:Int}(h:a<=b):clV a<=clV b:=by unfold clV;omega
theorem az6t (a:Int): -2147483648<=clV a/\clV a<=2147483648:=by unfold clV;omega
theorem azbc {a b:Int}(h:a<=b):vV (limV a b)=true:=by
 rw[vV_iff];exact⟨(az6t a).1,az49 h,(az6t b).2⟩
theorem iz_v:vV iz=true:=rfl
theorem of0:ofV 0=iz:=rfl
theorem Qz1 {a b c:Int}(h:a<=b)(hc:0<c):a / c<=cdiv b c:=by
 have h1:=Kzo (a:=a) hc;have h2:=Kzo (a:= -b) hc;unfold cdiv;by_cases e:a / c<= -(-b / c)
 ·exact e
 ·exfalso
  have h3:c * (-(-b / c))<c * (a / c):=Int.mul_lt_mul_of_pos_left qa hc;rw[qC]at h3;omega
theorem azbh (a b:az0):vV (mulV a b)=true:=by
 unfold mulV;split
 ·rename_i h;simp only[qm]at h;exact azbc (Qz1 (az28 h.1 h.2).2.2 (by decide))
 ·exact iz_v
theorem az7n {x:az0}(h:vV x=true):addV iz x=x:=by
 have hv:=h;rw[vV_iff]at hv;obtain⟨lo,hi⟩:=x;simp only at hv;have e1:clV (0+lo)=lo:=by unfold clV;omega
 have e2:clV (0+hi)=hi:=by unfold clV;omega
 simp only[addV,h,iz_v,qS,if_true,limV];exact congr (congrArg az0.mk e1) e2
theorem add0 (a b:az0):addV ⟨0,0⟩ (mulV a b)=mulV a b:=az7n (azbh a b)
theorem tza (v:Int×Int×Int):(nz9 v).o=some (zzo v):=by
 show(tz9 v).run NN=_;simp only[tz9,qk,T.ix,kzi,qL,zzo]
theorem sz6 (v:Int×Int×Int):(Az9 v).o=some (zzo v):=by
 show(Aza v).run NN=_;simp only[Aza,qk,T.ix,Fzn,qL,zzo]
theorem Hzc:matrix_Identity_C.o=some az04:=by
 show matrix_Identity_T.run NN=_;simp only[matrix_Identity_T,qk,T.ix,kzi,qL,az04,iz]
theorem Mz6:ref1_Unit_C.o=some az04:=by
 show ref1_Unit_T.run NN=_;simp only[ref1_Unit_T,qk,Fzn,qL,az04,iz]
theorem Izh (a b:IV3):(Izg a b).o=some (Yzw a b):=by
 show(zzi a b).run NN=_;simp only[zzi,qk,T.ix,tz2,qL,Yzw]
theorem Fzm (a b:IV3):(wzv a b).o=some (Yzw a b):=by
 show(wzw a b).run NN=_;simp only[wzw,qk,T.ix,Hzl,qL,Yzw]
theorem Cze (m:IM3)(v:IV3):(Czd m v).o=some (Oz0 m v):=by
 show(tz8 m v).run NN=_;simp only[tz8,qk,T.ix,tz2,Cz7,qL,add0,Oz0,dotV]
theorem Az5 (m:IM3)(v:IV3):(qzt m v).o=some (Oz0 m v):=by
 show(qzu m v).run NN=_;simp only[qzu,qk,T.ix,Hzl,Ozq,qL,Oz0,dotV]
theorem Jzh (x:Int):(bzb x).o=some (max (-65536) (min x 65536)):=by
 show(ozl x).run NN=_;simp only[ozl,qk,Option.some.injEq];omega
set_option maxRecDepth 20000 in
theorem Jzg (a b:IM3):(xzx a b).o=some (az0p a b):=by
 show(ozk a b).run NN=_;simp only[ozk,qk,T.ix,tz2,Cz7,Jzh,qL,add0,az0p,rowV,dotV,lim1]
set_option maxRecDepth 20000 in
theorem Hzm (a b:IM3):(vz5 a b).o=some (az0p a b):=by
 show(mzn a b).run NN=_;simp only[mzn,qk,T.ix,Hzl,Ozq,qL,az0p,rowV,dotV,lim1]
theorem Qzg (k:Int)(a:az0):(Ezw k a).o=some (Uzt k a):=by
 show(wzc k a).run NN=_;simp only[wzc,qk,dz4,Kz9,Kza,Cz8,kzi,qL,Uzt,of0];cases h:vV a
 ·rfl
 ·simp only[qO,qd,if_true];by_cases h0:k=0
  ·rw[dzj h0,qc h0]
  ·rw[dze h0,qb h0];by_cases h1:k=1
   ·rw[dzj h1,qc h1]
   ·rw[dze h1,qb h1];by_cases h2:k=2
    ·rw[dzj h2,qc h2]
    ·rw[dze h2,qb h2];rfl
theorem Wzh (k:Int)(a:az0):(Mz5 k a).o=some (Uzt k a):=by
 show(Dzw k a).run NN=_;simp only[Dzw,qk,gzu,Nzq,Nzr,Ozr,Fzn,qL,Uzt];cases h:vV a
 ·rfl
 ·simp only[qO,qd,if_true];by_cases h0:k=0
  ·rw[dzj h0,qc h0];rfl
  ·rw[dze h0,qb h0];by_cases h1:k=1
   ·rw[dzj h1,qc h1];rfl
   ·rw[dze h1,qb h1];by_cases h2:k=2
    ·rw[dzj h2,qc h2];rfl
    ·rw[dze h2,qb h2];rfl
theorem Izp:pose_still_C.o=some izv:=by
 show pose_still_T.run NN=_;simp only[pose_still_T,qk,tza,qL,zzo,of0,izv]
theorem nzv (v:IV3):(rzy v).o=some (Jz4 v):=by
 show(zzr v).run NN=_;simp only[zzr,qk,Hzc,qL,Jz4]
theorem zzq:pose_Identity_C.o=some Uz9:=by
 show pose_Identity_T.run NN=_;simp only[pose_Identity_T,qk,Izp,nzv,qL,Jz4,Uz9]
theorem Wz9 (k:Int)(a:az0):(Lzw k a).o=some ⟨Uzt k a,izv⟩:=by
 show(Dzm k a).run NN=_;simp only[Dzm,qk,Qzg,Izp,qL]
theorem nzc (a b:bz2):(jzf a b).o=some (Vzg a b):=by
 show(tzh a b).run NN=_;have h1:(rzz a).o=(nzw a).run NN:=rfl;simp only[tzh,qk,h1,nzw,qL,Jzg];refine Eq.trans (congrArg (λo=>qT o _) (show(nzd _ _ _ _ _ _ _ _ _ _ _ _ _ _ _ _ _ _ _ _ _ _ _ _ _).o=(jzg _ _ _ _ _ _ _ _ _ _ _ _ _ _ _ _ _ _ _ _ _ _ _ _ _).run NN from rfl)) ?_;simp only[jzg,qk,Cze,Izh,qL];rfl
theorem Tzt (a:bz2)(v:IV3):(Izo a v).o=some (Tzg a v):=by
 show(zzp a v).run NN=_;have h1:(rzz a).o=(nzw a).run NN:=rfl;simp only[zzp,qk,h1,nzw,qL];refine Eq.trans (congrArg (λo=>qT o _) (show(nzd _ _ _ _ _ _ _ _ _ _ _ _ _ _ _ _ _ _ _ _ _ _ _ _ _).o=(jzg _ _ _ _ _ _ _ _ _ _ _ _ _ _ _ _ _ _ _ _ _ _ _ _ _).run NN from rfl)) ?_;simp only[jzg,qk,Cze,Izh,qL];rfl
theorem Mz3:ref1_Rest_C.o=some Uz9:=by
 show ref1_Rest_T.run NN=_;simp only[ref1_Rest_T,qk,Mz6,qL];rfl
theorem Azd (v:IV3):(Azb v).o=some (Jz4 v):=by
 show(Azc v).run NN=_;simp only[Azc,qk,Mz6,qL,Jz4]
theorem Mz4 (k:Int)(a:az0):(Aze k a).o=some ⟨Uzt k a,izv⟩:=by
 show(qzw k a).run NN=_;simp only[qzw,qk,Wzh,qL];rfl
theorem nzh (a b:bz2):(tzv a b).o=some (Vzg a b):=by
 show(tzw a b).run NN=_;simp only[tzw,qk,Hzm,Az5,Fzm,qL,Vzg]
theorem Uz4 (a:bz2)(v:IV3):(Izu a v).o=some (Tzg a v):=by
 show(Az6 a v).run NN=_;simp only[Az6,qk,Az5,Fzm,qL,Tzg]
theorem Vz6 (k:Int)(a:az0):(Kzd k a).o=some ⟨Uzt k a,izv⟩:=by
 show(Dza k a).run NN=_;simp only[Dza,qk,Wz9,qL]
theorem Vz5 (k:Int)(a:az0):(Kzc k a).o=some Uz9:=by
 show(Dz9 k a).run NN=_;simp only[Dz9,qk,zzq,qL]
theorem Rzv {k:Int}(a:az0)(h:k=4\/k=5\/k=6):(Iz7 (k-4) a).o=some (Jz4 (Jz5 k a)):=by
 show(yzl (k-4) a).run NN=_;simp only[yzl,qk,T.ix];rcases h with rfl|rfl|rfl
 ·simp only[show((4-4:Int)==0)=true from rfl,qe,az9,nzv];rfl
 ·simp only[show((5-4:Int)==0)=false from rfl,show((5-4:Int)==1)=true from rfl,qe,qd,az9,nzv];rfl
 ·simp only[show((6-4:Int)==0)=false from rfl,show((6-4:Int)==1)=false from rfl,show((6-4:Int)==2)=true from rfl,qe,qd,az9,nzv];rfl
theorem Zzh (k a b c:Int){R:Type}:(bif k==a then some (.out (k==a))else bif k==b then some (.out (k==b))else some (.out (k==c)):Option (Step3 Unit Bool R))=some (.out (qw (k=a\/k=b\/k=c))):=by
 by_cases h1:k=a
 ·rw[dzj h1];simp[h1]
 ·rw[dze h1];by_cases h2:k=b
  ·rw[dzj h2];simp[h2]
  ·rw[dze h2];simp[h1,h2,Bool.beq_eq_decide_eq]
theorem mo0 (k:Int):(gzj k).o=if k=1\/k=2\/k=3 then some (k-1)else none:=by
 show(gzk k).run NN=_;simp only[gzk,qk,Zzh,az9];by_cases h:k=1\/k=2\/k=3
 ·rw[az8 h,qc h,w64 qa qa]
 ·rw[az7 h,qb h];cases qw (k=4\/k=5\/k=6)<;>rfl
theorem mo1 (k:Int)(h:¬ (k=1\/k=2\/k=3)):(gzl k).o=if k=4\/k=5\/k=6 then some (k-4)else none:=by
 show(gzm k).run NN=_;simp only[gzm,qk,Zzh,az9];rw[az7 h];by_cases h:k=4\/k=5\/k=6
 ·rw[az8 h,qc h,w64 qa qa]
 ·rw[az7 h,qb h]
theorem mo2 (k:Int)(h:¬ (k=1\/k=2\/k=3))(h':¬ (k=4\/k=5\/k=6)):(kz6 k).o=some 0:=by
 show(gzn k).run NN=_;simp only[gzn,qk,Zzh,az9];rw[az7 h,az7 h']
theorem Ezo (j:bz1)(a:az0):(rzo j a).o=some (Cza j a):=by
 show(kzl j a).run NN=_;simp only[kzl,qk,tza,nzv,qL,mo0,Cza];by_cases h:j.Xl=1\/j.Xl=2\/j.Xl=3
 ·simp only[qc h,qU,qe,qL,Vz6,nzc]
 ·simp only[qb h,qW,qd,mo1 _ h];by_cases h':j.Xl=4\/j.Xl=5\/j.Xl=6
  ·simp only[qc h',qU,qe,qL,Rzv a h',nzc]
  ·simp only[qb h',qW,qd,mo2 _ h h',qL,Vz5,nzc]
theorem azc3 (k:Int)(a:az0){R:Type}(h:k=4\/k=5\/k=6):(bif qu.wrap (k-4)==0 then some (.out (a.Lo,a.Hi,0,0,0,0))else bif qu.wrap (k-4)==1 then some (.out (0,0,a.Lo,a.Hi,0,0))else
 bif qu.wrap (k-4)==2 then some (.out (0,0,0,0,a.Lo,a.Hi))else none:Option (Step3 Unit (Int×Int×Int×Int×Int×Int) R))=some (.out ((Jz5 k a).1.Lo,(Jz5 k a).1.Hi,(Jz5 k a).2.1.Lo,(Jz5 k a).2.1.Hi,(Jz5 k a).2.2.Lo,(Jz5 k a).2.2.Hi)):=by
 rw[w64 qa qa];rcases h with rfl|rfl|rfl<;>rfl
theorem Qzw (j:bz1)(a:az0):(Fzb j a).o=some (Cza j a):=by
 show(wzf j a).run NN=_;simp only[wzf,qk,T.ix,Mz3,qL,Zzh,az9,Cza];by_cases h:j.Xl=1\/j.Xl=2\/j.Xl=3
 ·simp only[az8 h,qc h,Mz4,qL,az9,sz6,Azd,nzh];rw[w64 qa qa]
 ·simp only[az7 h,qb h];by_cases h':j.Xl=4\/j.Xl=5\/j.Xl=6
  ·simp only[az8 h',qc h',azc3 _ _ h',az9,sz6,Azd,nzh,qL]
  ·simp only[az7 h',qb h',az9,sz6,Azd,nzh,qL]
theorem fzu {R:Type}{f:Int->Option (Step3 Int U0 R)}{k:U0->Option R}(g:Nat->Option R)(n:Nat)(hn:n<4294967296)
 (hs:∀j,j<n->f (j:Int)=match g j with|some r=>some (.fin r)|none=>some (.next ((j+1:Nat):Int))) (he:f (n:Int)=some (.out .u)):
 andK (iter f NN 0) k=match scan g n 0 with|some r=>some r|none=>k .u:=jzc (λj=>(j:Int)) g .u n rfl hn hs he
theorem wn {n:Nat}(h:n<4294967296):qu.wrap ((n:Int)+1)=((n+1:Nat):Int):=w64n qa
def sw {R:Type}(b:Bool)(r:R):Option R:=bif b then some r else none
theorem ez3 {σ τ R:Type}{b:Bool}{r:R}{x:σ}:(bif b then some (.fin r)else some (.next x):Option (Step3 σ τ R))=match sw b r with|some r=>some (.fin r)|none=>some (.next x):=by cases b<;>rfl
def czg (g:Nat->Bool)(n:Nat):Bool:=qw (∀i,i<n->g i=false)
theorem dzd {R:Type}{g:Nat->Bool}{n:Nat}{r:R}:scan (λi=>sw (g i) r) n 0=sw (!czg g n) r:=by
 cases h:scan (λi=>sw (g i) r) n 0 with
 |none=>
  rw[ezt]at h;have:czg g n=true:=qg λi hi=>by
   have:=h i (qX _) qa;unfold sw at this;cases hg:g i with
   |true=>rw[hg]at this;cases this
   |false=>rfl
  rw[this];rfl
 |some x=>
  obtain⟨j,h1,h2,h3,-⟩:=fzp _ _ h;have:czg g n=false:=qh λhn=>by
   have:=hn j qa;simp only[this,sw,qd]at h3;cases h3
  rw[this];unfold sw at h3⊢;cases hg:g j with
  |true=>rw[hg]at h3;simpa using h3.symm
  |false=>rw[hg]at h3;cases h3
theorem noneB_iff {g:Nat->Bool}{n:Nat}:czg g n=true↔∀i,i<n->g i=false:=by simp[czg]
theorem az70 (s:ByteArray)(i:Nat):s.get! i=s.data.getD i 0:=by
 cases s with|mk d=>simp only[ByteArray.get!];rw[getElem!_def,Array.getD_eq_getD_getElem?];cases d[i]?<;>rfl
def Jz9 (s:ByteArray)(i:Nat):Nat:=(s.data.getD i 0).toNat
theorem az6v {s:ByteArray}{i:Nat}(h:Jz9 s i<128):Utf8.decode s i=(Jz9 s i,1):=by
 rw[Lib.decode_at,az70];exact qc h
theorem azaq {s:ByteArray}{i:Nat}(h:128<=Jz9 s i):128<=(Utf8.decode s i).1:=by
 rw[Lib.decode_at,az70];unfold Lib.decodeN;rw[qb (by unfold Jz9 at h;omega)]
 repeat' split
 all_goals(simp only;omega)
def badN (s:ByteArray)(i:Nat):Bool:=qw (¬ (97<=Jz9 s i/\Jz9 s i<=122)/\(i=0\/(Jz9 s i≠95/\¬ (48<=Jz9 s i/\Jz9 s i<=57))))
def Lzk (s:ByteArray):Bool:= !(qw (s.size=0)||(qw (16<s.size)||(s==⟨#[119,111,114,108,100]⟩)))&&czg (badN s) s.size
theorem Wzj (s:ByteArray):(Mz9 s).o=some (Lzk s):=by
 show(Ez0 s).run NN=_;simp only[Ez0,qk,bzd,az9,Lzk,ezd];have e1:qw ((s.size:Int)<1)=qw (s.size=0):=by congr 1;apply propext;omega
 have e2:qw ((s.size:Int)>16)=qw (16<s.size):=by congr 1;apply propext;omega
 rw[e1,e2];cases h:(qw (s.size=0)||(qw (16<s.size)||(s==⟨#[119,111,114,108,100]⟩)))
 ·simp only[qp,qi]at h;rw[qd];refine(fzu (λi=>sw (badN s i) false) s.size qa (λj hj=>?_) ?_).trans ?_
  ·rw[az8 qa,<-ez3,wn qa];simp only[qG,aza (show 0<=(j:Int)/\(j:Int)<(s.size:Int) from qa),bzd,az9];refine congrArg (λb=>bif b then some (Step3.fin false)else some (Step3.next ((j+1:Nat):Int))) ?_;rw[qY];simp only[ezd,pz3,badN,qm,qZ,wc,wd,qp,qf,qi,qj,bne_iff_ne,ne_eq];unfold Jz9;omega
  ·rw[az7 qa]
  ·rw[dzd];cases czg (badN s) s.size<;>rfl
 ·rfl
theorem Jzr (a:Int):(yzb a).o=some (qw (97<=a)&&qw (a<=122)):=by
 show(pz2 a).run NN=_;simp only[pz2,qk,ez7,pz3]
theorem Mzr (a:Int):(Bz5 a).o=some (qw (48<=a)&&qw (a<=57)):=by
 show(rzd a).run NN=_;simp only[rzd,qk,ez7,pz3]
theorem Uzs (s:ByteArray):(Jz7 s).o=some (Lzk s):=by
 show(Bz4 s).run NN=_;simp only[Bz4,qk,bzd,az9,Lzk,ezd];have e1:((s.size:Int)==0)=qw (s.size=0):=by rw[qY];simp
 have e2:qw ((s.size:Int)>16)=qw (16<s.size):=by congr 1;apply propext;omega
 rw[e1,e2];cases h:(qw (s.size=0)||(qw (16<s.size)||(s==⟨#[119,111,114,108,100]⟩)))
 ·simp only[qp,qi]at h;rw[qd];refine(jzc (λj=>j) (λi=>sw (badN s i) false) .u s.size rfl (show s.size<4294967296 from qa) (λj hj=>?_) ?_).trans ?_
  ·rw[az8 hj];simp only[Jzr,Mzr,qL,bzd,az9]
   have key:(bif !(qw (97<=((Utf8.decode s j).1:Int))&&qw (((Utf8.decode s j).1:Int)<=122))then bif ((j:Int)==0)then true else
    bif !(qw (48<=((Utf8.decode s j).1:Int))&&qw (((Utf8.decode s j).1:Int)<=57))then((Utf8.decode s j).1:Int) !=95 else false else false)=badN s j:=by
    by_cases hb:Jz9 s j<128
    ·rw[az6v hb,qY];simp only[ezd,pz3,badN,qm,qZ,wc,wd,qp,qf,qi,qj,bne_iff_ne,ne_eq];omega
    ·have:=azaq (s:=s) (i:=j) qa;rw[qY];simp only[ezd,pz3,badN,qm,qZ,wc,wd,qp,qf,qi,qj,bne_iff_ne,ne_eq];omega
   rw[key];cases hbad:badN s j
   ·have:Jz9 s j<128:=by
     simp only[badN,qi]at hbad;omega
    rw[az6v this];rfl
   ·rfl
  ·rw[az7 qa]
  ·rw[dzd];cases czg (badN s) s.size<;>rfl
 ·rfl
def Bzs (l:List bz1)(nm:ByteArray)(i:Nat):Bool:=(l.getD i qv).XB==nm
theorem Uzb (r:azn)(nm:ByteArray)(h:r.Xa.length<4294967296):(Jz2 r nm).o=some (match scan (λi=>sw (Bzs r.Xa nm i) (i:Int)) r.Xa.length 0 with|some x=>x|none=> -1):=by
 show(Azs r nm).run NN=_;simp only[Azs,qk];refine(fzu (λi=>sw (Bzs r.Xa nm i) (i:Int)) r.Xa.length h (λj hj=>?_) ?_).trans ?_
 ·rw[az8 qa,aza qa,wn qa,qG,<-ez3];rfl
 ·rw[az7 qa]
 ·cases scan (λi=>sw (Bzs r.Xa nm i) (i:Int)) r.Xa.length 0<;>rfl
theorem az7p (b:ByteArray):(b==b)=true:=by
 obtain⟨d⟩:=b;show(d==d)=true;exact beq_self_eq_true d
theorem az8b {l:List bz1}{i:Nat}(hi:i<l.length):((match scan (λk=>sw (Bzs l (l.getD i qv).XB k) (k:Int)) l.length 0 with|some x=>x|none=> -1) !=(i:Int))= !czg (Bzs l (l.getD i qv).XB) i:=by
 have hself:Bzs l (l.getD i qv).XB i=true:=az7p _;cases h:scan (λk=>sw (Bzs l (l.getD i qv).XB k) (k:Int)) l.length 0 with
 |none=>
  rw[ezt]at h;have:=h i (qX _) qa;simp only[hself,sw,qe]at this;cases this
 |some x=>
  obtain⟨j,h1,h2,h3,h4⟩:=fzp _ _ h;have hj:Bzs l (l.getD i qv).XB j=true/\x=(j:Int):=by
   cases hb:Bzs l (l.getD i qv).XB j with
   |false=>simp only[hb,sw,qd]at h3;cases h3
   |true=>simp only[hb,sw,qe,Option.some.injEq]at h3;exact⟨rfl,h3.symm⟩
  have hji:j<=i:=by
   by_cases e:j<=i
   ·exact e
   ·have:=h4 i (qX _) qa;simp only[hself,sw,qe]at this;cases this
  simp only[hj.2];rw[qY];rw[bne_iff_ne,wc,<-we];constructor
  ·intro hne hall;have:=noneB_iff.1 hall j qa;rw[hj.1]at this;cases this
  ·intro hn e;apply hn;rw[noneB_iff];intro k hk;have:=h4 k (qX _) qa;cases hb:Bzs l (l.getD i qv).XB k with
   |false=>rfl
   |true=>simp only[hb,sw,qe]at this;cases this
def hzq (v:Int×Int×Int)(m:Int):Bool:=qw (-m<=v.1)&&(qw (v.1<=m)&&(qw (-m<=v.2.1)&&(qw (v.2.1<=m)&&(qw (-m<=v.2.2)&&qw (v.2.2<=m)))))
theorem nearV_iff {v:Int×Int×Int}{m:Int}:hzq v m=true↔(-m<=v.1/\v.1<=m)/\(-m<=v.2.1/\v.2.1<=m)/\(-m<=v.2.2/\v.2.2<=m):=by
 simp only[hzq,qm,qf,and_assoc]
theorem hz6 (v:Int×Int×Int){m:Int}(h0:0<=m)(h1:m<=9223372036854775807):(gz7 v m).o=some (hzq v m):=by
 show(Ez1 v m).run NN=_;simp only[Ez1,qk,T.ix,bzd,az9];simp only[ez7];rw[w64 (x:=0-m) qa qa];congr 1;rw[qY,nearV_iff];simp only[ezd]
 cases h1:qw (v.1<0-m)||qw (v.1>m)<;>cases h2:qw (v.2.1<0-m)||qw (v.2.1>m)<;>cases h3:qw (v.2.2<0-m)||qw (v.2.2>m)<;>
  simp only[qZ,qp,qf,qi]at h1 h2 h3<;>simp only[qe,qd,true_iff,false_iff,reduceCtorEq]<;>omega
def bey (x:Int):Bool:=qw (x< -4194304)||qw (x>4194304)
theorem Dz0 (v:Int×Int×Int):(uzb v).o=some (!hzq v 4194304):=by
 show(uzc v).run NN=_;simp only[uzc,qk,bzd,az9,ezd];refine(fzu (λi=>sw (bey (([v.1,v.2.1,v.2.2]:List Int).getD i 0)) true) 3 (by decide) (λj hj=>?_) ?_).trans ?_
 ·rw[az8 qa,aza qa,wn qa,qG,<-ez3];rfl
 ·rw[az7 qa]
 ·rw[dzd];have:czg (λi=>bey (([v.1,v.2.1,v.2.2]:List Int).getD i 0)) 3=hzq v 4194304:=by
   rw[qY,noneB_iff,nearV_iff];constructor
   ·intro h;have a:=h 0 (by decide);have b:=h 1 (by decide);have c:=h 2 (by decide);simp only[bey,wg,wh,qp,qi]at a b c;omega
   ·intro h i hi
    match i,hi with
    |0,_=>simp only[bey,wg,qp,qi];omega
    |1,_=>simp only[bey,wg,wh,qp,qi];omega
    |2,_=>simp only[bey,wg,wh,qp,qi];omega
  rw[this];cases hzq v 4194304<;>rfl
def fzt (k:Int):Int:=if k=0 then 0 else if k=1\/k=2\/k=3 then 524288 else 4194304
theorem Rz9 {k:Int}(h0:0<=k)(h1:k<=6):(Fzx k).o=some (fzt k):=by
 show(xz8 k).run NN=_;simp only[xz8,qk,Zzh,az9,fzt];by_cases h:k=1\/k=2\/k=3
 ·rw[az8 h,qb qa,qc h]
 ·rw[az7 h];by_cases h':k=4\/k=5\/k=6
  ·rw[az8 h',qb qa,qb h]
  ·rw[az7 h',qc qa]
theorem Uz7 (k:Int):(Jz0 k).o=some (fzt k):=by
 show(Azl k).run NN=_;simp only[Azl,qk,Zzh,az9,fzt];by_cases h0:k=0
 ·rw[dzj h0,qc h0]
 ·rw[dze h0,qb h0];by_cases h:k=1\/k=2\/k=3
  ·rw[az8 h,qc h]
  ·rw[az7 h,qb h]
def betV (x a b:Int):Bool:=qw (a<=x)&&qw (x<=b)
theorem Fzw (x m:Int):(izu x m).o=some (betV x 1 m):=by
 show(xz7 x m).run NN=_;simp only[xz7,qk,ez7,pz3,betV]
theorem uz8 (x a b:Int):(gz8 x a b).o=some (betV x a b):=by
 show(uz7 x a b).run NN=_;simp only[uz7,qk,ez7,pz3,betV]
def Sz6 (j:bz1):Bool:=betV j.XA 1 1024&&(betV j.XF 1 1048576&&(betV j.XG 1 1048576&&betV j.XD 1 1099511627776))
def uzw (l:List bz1)(i:Nat):Int:=
 let j:=l.getD i qv
 if !Lzk j.XB|| !czg (Bzs l j.XB) i then 802 else if qw (j.Xl<0)||qw (j.Xl>6)then 803 else if qw (j.Xt< -1)||qw (j.Xt>=(i:Int))then 804 else if !hzq j.Xy 4194304 then 805 else
 if qw (j.Lo>j.Hi)||(qw (j.Lo< -fzt j.Xl)||qw (j.Hi>fzt j.Xl))then 806 else if !Sz6 j then 807 else 0
theorem azaj:∀a b c d:Bool,(bif !a||(!b||(!c|| !d))then some (807:Int)else some 0)=some (if(!(a&&(b&&(c&&d))))=true then 807 else 0):=by decide
theorem Bzc (k:Int):0<=fzt k/\fzt k<=4194304:=by unfold fzt;split<;>(try split)<;>omega
theorem Tzj (k:Int):qu.wrap (0-fzt k)= -fzt k:=by
 have:=Bzc k;rw[w64 qa qa];omega
theorem Fzv (r:azn){i:Nat}(hi:i<r.Xa.length)(h:r.Xa.length<4294967296):(sza r (i:Int)).o=some (uzw r.Xa i):=by
 show(lzk r (i:Int)).run NN=_;simp only[lzk,qk];rw[aza qa,qG];simp only[Uzs,Uzb r _ h,Dz0,Fzw,qL,bzd,az9,uzw];rw[az8b hi];generalize r.Xa.getD i qv=j;cases h1:Lzk j.XB
 ·rfl
 ·cases h2:czg (Bzs r.Xa j.XB) i
  ·rfl
  ·simp only[qO,qd,wi,qb wj];by_cases h3:j.Xl<0
   ·rw[qg h3];rfl
   ·by_cases h4:j.Xl>6
    ·rw[qg h4,qh h3];rfl
    ·simp only[qh h3,qh h4,qd,wi,qb wj,Rz9 (show 0<=j.Xl from qa) qa,qL,Tzj,bzd,az9,ezd];cases qw (j.Xt< -1)||qw (j.Xt>=(i:Int))
     ·cases hzq j.Xy 4194304
      ·rfl
      ·simp only[qO,qd,qb wj];cases qw (j.Lo>j.Hi)||(qw (j.Lo< -fzt j.Xl)||qw (j.Hi>fzt j.Xl))
       ·simp only[qd,qb wj,Sz6];exact azaj _ _ _ _
       ·rfl
     ·rfl
theorem Hzv (l:List bz1){i:Nat}(hi:i<l.length)(h:l.length<4294967296):(vz6 l (i:Int)).o=some (uzw l i):=by
 show(mzq l (i:Int)).run NN=_;simp only[mzq,qk];rw[aza qa,qG];simp only[Wzj,qL,uzw];cases h1:Lzk (l.getD i qv).XB
 ·rfl
 ·simp only[qO,qd,Bool.false_or];refine(fzu (λk=>sw (Bzs l (l.getD i qv).XB k) 802) i qa (λj hj=>?_) ?_).trans ?_
  ·rw[az8 qa,aza qa,wn qa,qG,<-ez3];rfl
  ·rw[az7 qa]
  ·rw[dzd];generalize l.getD i qv=j;cases h2:czg (Bzs l j.XB) i
   ·rfl
   ·simp only[qO,sw,qd,qb wj,hz6 _ (show(0:Int)<=4194304 by decide) (by decide),Uz7,uz8,qL,Tzj,bzd,az9,ezd];cases qw (j.Xl<0)||qw (j.Xl>6)
    ·cases qw (j.Xt< -1)||qw (j.Xt>=(i:Int))
     ·cases hzq j.Xy 4194304
      ·rfl
      ·simp only[qO,qd,qb wj];cases qw (j.Lo>j.Hi)||(qw (j.Lo< -fzt j.Xl)||qw (j.Hi>fzt j.Xl))
       ·simp only[qd,qb wj,Sz6];exact azaj _ _ _ _
       ·rfl
     ·rfl
    ·rfl
def tab {α:Type}(f:Nat->α)(n:Nat):List α:=(List.range n).map f
theorem izx {α:Type}(f:Nat->α)(n:Nat):tab f (n+1)=tab f n++[f n]:=by simp[tab,wk]
theorem cz8 {α:Type}(f:Nat->α)(n:Nat):(tab f n).length=n:=by simp[tab]
theorem hzx {α:Type}{f:Nat->α}{n i:Nat}{d:α}(h:i<n):(tab f n).getD i d=f i:=by simp[tab,wm,h]
theorem az3p {α:Type}{f g:Nat->α}{n:Nat}(h:∀i,i<n->f i=g i):tab f n=tab g n:=by
 unfold tab;apply List.map_congr_left;intro a ha;exact h a (wo.1 ha)
def half {α:Type}(f:Nat->α)(z:α)(n j:Nat):List α:=tab f j++qt (n-j) z
theorem rzn {α:Type}{f:Nat->α}{z:α}{n j:Nat}(h:j<=n):(half f z n j).length=n:=by simp[half,cz8];omega
theorem nz6 {α:Type}{f:Nat->α}{z:α}{n j:Nat}(h:j<n):(half f z n j).set j (f j)=half f z n (j+1):=by
 unfold half;rw[List.set_append_right _ _ (by rw[cz8];omega),cz8,Nat.sub_self];obtain⟨m,hm⟩:∃m,n-j=m+1:=⟨n-j-1,qa⟩;rw[hm,List.replicate_succ,List.set_cons_zero,izx,show n- (j+1)=m from qa];simp
theorem qzf {α:Type}(f:Nat->α)(z:α)(n:Nat):half f z n 0=qt n z:=by simp[half,tab]
theorem wz2 {α:Type}(f:Nat->α)(z:α)(n:Nat):half f z n n=tab f n:=by simp[half]
def Nzb (n:Nat)(m:czj):Bool:=(qw (0<=m.Xp)&&qw (m.Xp<(n:Int)))&&(betV m.XH 1 65536&&hzq m.XE 4194304)
theorem Hzx (r:azn)(m:czj):(vz9 r m).o=some (Nzb r.Xa.length m):=by
 show(mzu r m).run NN=_;simp only[mzu,qk,Fzw,Dz0,qL,Nzb];cases qw (0<=m.Xp)<;>cases qw (m.Xp<(r.Xa.length:Int))<;>cases betV m.XH 1 65536<;>cases hzq m.XE 4194304<;>rfl
def badM (n:Nat)(l:List czj)(i:Nat):Bool:= !Nzb n (l.getD i qv)
theorem az8m (l:List czj)(js:List bz1)(ms:List czj)(h:l.length<4294967296):(fzi l js ms).o=some (match scan (λi=>sw (badM js.length l i) (i:Int)) l.length 0 with|some x=>x|none=> -1,js,ms):=by
 show(dzo l js ms).run NN=_;simp only[dzo,qk];have e1:∀m,(Azr m js ms).o=some (!Nzb js.length m,js,ms):=λm=>by
  show(rz2 m js ms).run NN=_;simp only[rz2,qk,Hzx,qL]
 refine(jzc (λj=>(js,ms,(j:Int))) (λi=>sw (badM js.length l i) ((i:Int),js,ms)) (js,ms) l.length rfl h (λj hj=>?_) ?_).trans ?_
 ·rw[az8 (by simpa using hj),aza ⟨by simp,by simpa using hj⟩];simp only[e1,qL,qG];rw[wn qa];unfold badM;cases Nzb js.length (l.getD j qv)<;>rfl
 ·rw[az7 (by simp)]
 ·have:∀n i,scan (λi=>sw (badM js.length l i) ((i:Int),js,ms)) n i=(scan (λi=>sw (badM js.length l i) (i:Int)) n i).map λx=>(x,js,ms):=by
   intro n;induction n with
   |zero=>intro i;rfl
   |succ n ih=>
    intro i;simp only[scan];cases badM js.length l i with
    |true=>rfl
    |false=>exact ih (i+1)
  rw[this];cases scan (λi=>sw (badM js.length l i) (i:Int)) l.length 0<;>rfl
theorem Rzd {g:Nat->Bool}{n:Nat}:qw ((match scan (λi=>sw (g i) (i:Int)) n 0 with|some x=>x|none=> -1)>=0)= !czg g n:=by
 cases h:scan (λi=>sw (g i) (i:Int)) n 0 with
 |none=>
  rw[ezt]at h;have:czg g n=true:=noneB_iff.2 λi hi=>by
   have:=h i (qX _) qa;cases hg:g i with
   |true=>rw[hg]at this;cases this
   |false=>rfl
  rw[this];rfl
 |some x=>
  obtain⟨j,h1,h2,h3,-⟩:=fzp _ _ h;cases hg:g j with
  |false=>rw[hg]at h3;cases h3
  |true=>
   rw[hg]at h3;simp only[sw,qe,Option.some.injEq]at h3;have:czg g n=false:=by
    cases hn:czg g n with
    |false=>rfl
    |true=>have:=noneB_iff.1 hn j qa;rw[hg]at this;cases this
   rw[this,<-h3];simp
theorem az7u (l:List czj)(js:List bz1)(ms:List czj)(h:l.length<4294967296):(ezv l js ms).o=some (!czg (badM js.length l) l.length,js,ms):=by
 show(dz2 l js ms).run NN=_;simp only[dz2,qk,az8m l js ms h,qL];rw[Rzd]
def errJ (l:List bz1)(i:Nat):Option Int:=sw (uzw l i !=0) (uzw l i)
def dz1 (r:azn):Int:=
 if r.Xa.length=0\/10<r.Xa.length then 801 else match scan (errJ r.Xa) r.Xa.length 0 with
  |some e=>e
  |none=>if 32<r.Xi.length\/czg (badM r.Xa.length r.Xi) r.Xi.length=false then 808 else 0
theorem Fzu (r:azn):(xz5 r).o=some (dz1 r):=by
 show(xz6 r).run NN=_;simp only[xz6,qk,bzd,az9,dz1];by_cases h:r.Xa.length=0\/10<r.Xa.length
 ·rw[qc h];rcases h with h|h
  ·rw[dzj qa];rfl
  ·rw[dze qa,az8 qa]
 ·rw[qb h,dze qa,az7 qa];refine(fzu (errJ r.Xa) r.Xa.length qa (λj hj=>?_) ?_).trans ?_
  ·rw[az8 qa];simp only[Fzv ⟨r.Xa,r.Xi⟩ hj (show r.Xa.length<4294967296 from qa),qL];rw[wn qa,ez3];rfl
  ·rw[az7 qa]
  ·cases scan (errJ r.Xa) r.Xa.length 0 with
   |some e=>rfl
   |none=>
    simp only;by_cases hm:32<r.Xi.length
    ·rw[az8 qa,qc (Or.inl hm)];rfl
    ·rw[az7 qa,az7u _ _ _ qa];cases hn:czg (badM r.Xa.length r.Xi) r.Xi.length
     ·rw[qc (Or.inr rfl)];rfl
     ·rw[qb (by simp;omega)];rfl
theorem dzx (r:azn):(dz9 r).o=some (dz1 r):=by
 show(mzo r).run NN=_;simp only[mzo,qk,bzd,az9,dz1];by_cases h:r.Xa.length=0\/10<r.Xa.length
 ·rw[qc h];rcases h with h|h
  ·rw[az8 qa];rfl
  ·rw[az7 qa,az8 qa]
 ·rw[qb h,az7 qa,az7 qa];refine(fzu (errJ r.Xa) r.Xa.length qa (λj hj=>?_) ?_).trans ?_
  ·rw[az8 qa];simp only[Hzv r.Xa hj (show r.Xa.length<4294967296 from qa),qL];rw[wn qa,ez3];rfl
  ·rw[az7 qa]
  ·cases scan (errJ r.Xa) r.Xa.length 0 with
   |some e=>rfl
   |none=>
    simp only;by_cases hm:32<r.Xi.length
    ·rw[az8 qa,qc (Or.inl hm)]
    ·rw[az7 qa];refine(fzu (λi=>sw (badM r.Xa.length r.Xi i) 808) r.Xi.length qa (λj hj=>?_) ?_).trans ?_
     ·rw[az8 qa,aza qa,wn qa,qG,<-ez3];simp only[uz8,hz6 _ (show(0:Int)<=4194304 by decide) (by decide),qL,bzd,az9];refine congrArg (λb=>bif b then some (Step3.fin 808)else some (Step3.next ((j+1:Nat):Int))) ?_;unfold badM Nzb;generalize r.Xi.getD j qv=m;have e1:qw (m.Xp<0)= !qw (0<=m.Xp):=by rw[qY];simp
      have e2:qw (m.Xp>=(r.Xa.length:Int))= !qw (m.Xp<(r.Xa.length:Int)):=by rw[qY];simp
      rw[e1,e2];cases qw (0<=m.Xp)<;>cases qw (m.Xp<(r.Xa.length:Int))<;>cases betV m.XH 1 65536<;>cases hzq m.XE 4194304<;>rfl
     ·rw[az7 qa]
     ·rw[dzd];cases hn:czg (badM r.Xa.length r.Xi) r.Xi.length
      ·rw[qc (Or.inr rfl)];rfl
      ·rw[qb (by simp;omega)];rfl
theorem fz6 {r:azn}(h:dz1 r=0):1<=r.Xa.length/\r.Xa.length<=10/\∀i,i<r.Xa.length->uzw r.Xa i=0:=by
 unfold dz1 at h;split at h
 ·cases h
 ·refine⟨qa,qa,λi hi=>?_⟩;split at h
  ·rename_i e he;obtain⟨j,-,-,h3,-⟩:=fzp _ _ he;unfold errJ sw at h3;cases hb:uzw r.Xa j !=0 with
   |false=>rw[hb]at h3;cases h3
   |true=>
    rw[hb]at h3;simp only[qe,Option.some.injEq]at h3;simp only[bne_iff_ne]at hb;rw[h3]at hb;exact absurd h hb
  ·rename_i he;have:=(ezt _ _).1 he i (qX _) qa;unfold errJ sw at this;cases hb:uzw r.Xa i !=0 with
   |false=>simpa using hb
   |true=>rw[hb]at this;cases this
def kzo (n:Nat)(k:Int):Bool:=qw (-1<=k)&&qw (k<(n:Int))
theorem Dz1 (s:azd)(k:Int):(nzi s k).o=some (kzo s.Xe.Xa.length k):=by
 show(uzd s k).run NN=_;simp only[uzd,qk,ez7,pz3,kzo]
theorem lzh (r:azn)(k:Int):(fz9 r k).o=some (kzo r.Xa.length k):=by
 show(xz2 r k).run NN=_;simp only[xz2,qk,ez7,pz3,kzo,ge_iff_le]
def farP (l:List (Int×Int×Int))(i:Nat):Bool:= !hzq (l.getD i qv) 4194304
def yz9 (n:Nat)(x:bz9):Int:=
 if(kzo n x.Xp&&betV x.Xs 1 1048576)=false\/x.Xb.length=0\/8<x.Xb.length then 902 else if czg (farP x.Xb) x.Xb.length then 0 else 805
theorem far3 (v:Int×Int×Int):czg (λi=>bey (([v.1,v.2.1,v.2.2]:List Int).getD i 0)) 3=hzq v 4194304:=by
 rw[qY,noneB_iff,nearV_iff];constructor
 ·intro h;have a:=h 0 (by decide);have b:=h 1 (by decide);have c:=h 2 (by decide);simp only[bey,wg,wh,qp,qi]at a b c;omega
 ·intro h i hi
  match i,hi with
  |0,_=>simp only[bey,wg,qp,qi];omega
  |1,_=>simp only[bey,wg,wh,qp,qi];omega
  |2,_=>simp only[bey,wg,wh,qp,qi];omega
theorem Gz0 (s:azd)(x:bz9):(szb s x).o=some (yz9 s.Xe.Xa.length x):=by
 show(lzm s x).run NN=_;simp only[lzm,qk,Dz1,qL,bzd,az9,yz9];cases hl:kzo s.Xe.Xa.length x.Xp
 ·rfl
 ·simp only[qO,qd,qR];by_cases h1:x.Xs<1
  ·rw[az8 h1,qc];· rfl
   simp[betV];omega
  ·rw[az7 h1];by_cases h2:x.Xs>1048576
   ·rw[az8 h2,qc];· rfl
    simp[betV];omega
   ·rw[az7 h2];by_cases h3:x.Xb.length=0
    ·rw[az8 qa,qc (Or.inr (Or.inl h3))];rfl
    ·rw[az7 qa];by_cases h4:8<x.Xb.length
     ·rw[az8 qa,qc (Or.inr (Or.inr h4))]
     ·have hb:betV x.Xs 1 1048576=true:=by simp[betV];omega
      rw[az7 qa,hb,qb (λh5=>by rcases h5 with h5|h5|h5;· cases h5
                               ·omega
                               ·omega)]
      refine(fzu (λi=>sw (farP x.Xb i) 805) x.Xb.length qa (λj hj=>?_) ?_).trans ?_
      ·rw[az8 qa,aza qa,qG,wn qa];refine(fzu (λi=>sw (bey (([(x.Xb.getD j qv).1,(x.Xb.getD j qv).2.1,(x.Xb.getD j qv).2.2]:List Int).getD i 0)) (Step3.fin 805)) 3 (by decide) (λk hk=>?_) ?_).trans ?_
       ·rw[az8 qa,aza qa,wn qa,qG,<-ez3];simp only[ezd];rfl
       ·rw[az7 qa]
       ·rw[dzd,far3];unfold farP;cases hzq (x.Xb.getD j qv) 4194304<;>rfl
      ·rw[az7 qa]
      ·rw[dzd];cases czg (farP x.Xb) x.Xb.length<;>rfl
def errS (n:Nat)(l:List bz9)(i:Nat):Option Int:=sw (yz9 n (l.getD i qv) !=0) (yz9 n (l.getD i qv))
def badK (n:Nat)(l:List jz7)(i:Nat):Bool:= !(kzo n (l.getD i qv).A&&kzo n (l.getD i qv).B)
def czd (s:azd):Int:=
 if dz1 s.Xe≠0 then dz1 s.Xe else if 24<s.Xc.length then 901 else match scan (errS s.Xe.Xa.length s.Xc) s.Xc.length 0 with
  |some e=>e
  |none=>if 64<s.Xj.length then 903 else if czg (badK s.Xe.Xa.length s.Xj) s.Xj.length then 0 else 903
theorem gz1 (s:azd):(ezb s).o=some (czd s):=by
 show(xz9 s).run NN=_;simp only[xz9,qk,Fzu,qL,czd];by_cases h:dz1 s.Xe=0
 ·rw[bza h,qb (by simpa using h)];by_cases h1:24<s.Xc.length
  ·rw[az8 qa,qc h1]
  ·rw[az7 qa,qb h1];refine(fzu (errS s.Xe.Xa.length s.Xc) s.Xc.length qa (λj hj=>?_) ?_).trans ?_
   ·rw[az8 qa,aza qa,wn qa,qG];simp only[Gz0,qL];rw[ez3];rfl
   ·rw[az7 qa]
   ·cases scan (errS s.Xe.Xa.length s.Xc) s.Xc.length 0 with
    |some e=>rfl
    |none=>
     simp only;by_cases h2:64<s.Xj.length
     ·rw[az8 qa,qc h2]
     ·rw[az7 qa,qb h2];refine(fzu (λi=>sw (badK s.Xe.Xa.length s.Xj i) 903) s.Xj.length qa (λj hj=>?_) ?_).trans ?_
      ·rw[az8 qa,aza qa,wn qa,qG,<-ez3];simp only[Dz1,qL,bzd,az9,badK];cases kzo s.Xe.Xa.length (s.Xj.getD j qv).A<;>cases kzo s.Xe.Xa.length (s.Xj.getD j qv).B<;>rfl
      ·rw[az7 qa]
      ·rw[dzd];cases czg (badK s.Xe.Xa.length s.Xj) s.Xj.length<;>rfl
 ·rw[bzn h,qc h]
theorem ezj (s:azd):(ezi s).o=some (czd s):=by
 show(mzp s).run NN=_;simp only[mzp,qk,dzx,qL,czd];by_cases h:dz1 s.Xe=0
 ·rw[bza h,qb (by simpa using h)];by_cases h1:24<s.Xc.length
  ·rw[az8 qa,qc h1]
  ·rw[az7 qa,qb h1];refine(fzu (errS s.Xe.Xa.length s.Xc) s.Xc.length qa (λj hj=>?_) ?_).trans ?_
   ·rw[az8 qa,aza qa,wn qa,qG];unfold errS;generalize s.Xc.getD j qv=x;simp only[lzh,uz8,qL,bzd,az9,yz9];cases hl:kzo s.Xe.Xa.length x.Xp
    ·rfl
    ·cases hr:betV x.Xs 1 1048576
     ·rfl
     ·simp only[qO,qd,qS];by_cases h3:x.Xb.length=0
      ·rw[az8 qa,qc (Or.inr (Or.inl h3))];rfl
      ·rw[az7 qa];by_cases h4:8<x.Xb.length
       ·rw[az8 qa,qc (Or.inr (Or.inr h4))];rfl
       ·rw[az7 qa,qb (λh5=>by rcases h5 with h5|h5|h5;· cases h5
                              ·omega
                              ·omega)]
        refine(fzu (λi=>sw (farP x.Xb i) (Step3.fin 805)) x.Xb.length qa (λk hk=>?_) ?_).trans ?_
        ·rw[az8 qa,aza qa,wn qa,qG,<-ez3];simp only[hz6 _ (show(0:Int)<=4194304 by decide) (by decide),qL];rfl
        ·rw[az7 qa]
        ·rw[dzd];cases czg (farP x.Xb) x.Xb.length<;>rfl
   ·rw[az7 qa]
   ·cases scan (errS s.Xe.Xa.length s.Xc) s.Xc.length 0 with
    |some e=>rfl
    |none=>
     simp only;by_cases h2:64<s.Xj.length
     ·rw[az8 qa,qc h2]
     ·rw[az7 qa,qb h2];refine(fzu (λi=>sw (badK s.Xe.Xa.length s.Xj i) 903) s.Xj.length qa (λj hj=>?_) ?_).trans ?_
      ·rw[az8 qa,wn qa,<-ez3];simp only[qG,aza (show 0<=(j:Int)/\(j:Int)<(s.Xj.length:Int) from qa),lzh,qL,bzd,az9,badK];cases kzo s.Xe.Xa.length (s.Xj.getD j qv).A<;>cases kzo s.Xe.Xa.length (s.Xj.getD j qv).B<;>rfl
      ·rw[az7 qa]
      ·rw[dzd];cases czg (badK s.Xe.Xa.length s.Xj) s.Xj.length<;>rfl
 ·rw[bzn h,qc h]
def outJ (l:List bz1)(c:List Int)(i:Nat):Bool:=qw (c.getD i qv<(l.getD i qv).Lo)||qw (c.getD i qv>(l.getD i qv).Hi)
def azx (r:azn)(c:List Int):Bool:=qw (dz1 r=0)&&(qw (c.length=r.Xa.length)&&czg (outJ r.Xa c) c.length)
theorem Nz4 (l:List bz1)(c:List Int)(h:l.length<4294967296):(gzt l c).o=some (qw (c.length=l.length)&&czg (outJ l c) c.length):=by
 show(ezq l c).run NN=_;simp only[ezq,qk];have e1:∀j x,(uzq j x).o=some (qw (j.Lo<=x)&&qw (x<=j.Hi)):=λj x=>by
  show(mz0 j x).run NN=_;simp only[mz0,qk,ez7,pz3]
 by_cases h1:c.length=l.length
 ·rw[bza qa,qg h1,qR];refine(fzu (λi=>sw (outJ l c i) false) l.length h (λj hj=>?_) ?_).trans ?_
  ·rw[az8 qa,aza qa,aza qa,wn qa,qG,<-ez3];simp only[e1,qL];refine congrArg (λb=>bif b then some (Step3.fin false)else some (Step3.next ((j+1:Nat):Int))) ?_;rw[qY];simp only[outJ,wc,wd,qZ,qf,qi];omega
  ·rw[az7 qa]
  ·rw[dzd,h1];cases czg (outJ l c) l.length<;>rfl
 ·rw[bzn qa,qh h1];rfl
theorem kze (r:azn)(c:List Int):(gzh r c).o=some (azx r c):=by
 show(qz8 r c).run NN=_;simp only[qz8,qk,Fzu,qL,azx];by_cases h:dz1 r=0
 ·have:=fz6 h;rw[dzj h,Nz4 _ _ qa,qg h];rfl
 ·rw[dze h,qh h];rfl
theorem nze (r:azn)(c:List Int):(jzi r c).o=some (azx r c):=by
 show(tzj r c).run NN=_;simp only[tzj,qk,dzx,qL,bzd,az9,azx];by_cases h:dz1 r=0
 ·have:=fz6 h;rw[bza h,qg h,qR];by_cases h1:c.length=r.Xa.length
  ·rw[bza qa,qg h1,qR];refine(fzu (λi=>sw (outJ r.Xa c i) false) c.length qa (λj hj=>?_) ?_).trans ?_
   ·rw[az8 qa,wn qa,<-ez3];simp only[qG,aza (show 0<=(j:Int)/\(j:Int)<(c.length:Int) from qa),aza (show 0<=(j:Int)/\(j:Int)<(r.Xa.length:Int) from qa),bzd,az9,ezd,outJ]
   ·rw[az7 qa]
   ·rw[dzd];cases czg (outJ r.Xa c) c.length<;>rfl
  ·rw[bzn qa,qh h1];rfl
 ·rw[bzn h,qh h];rfl
def big1 (l:List Int)(i:Nat):Bool:=qw (l.getD i qv< -2147483648)||qw (l.getD i qv>2147483648)
def izy (l:List Int):Bool:=czg (big1 l) l.length
theorem Cz1 (l:List Int)(h:l.length<4294967296):(szu l).o=some (izy l):=by
 show(szx l).run NN=_;have e1:∀x,(xzr x).o=some (qw (x< -2147483648)||qw (x>2147483648)):=λx=>by
  show(ozc x).run NN=_;simp only[ozc,qk,ez7,ezd]
 have e2:(gzw l).o=some (match scan (λi=>sw (big1 l i) (i:Int)) l.length 0 with|some x=>x|none=> -1):=by
  show(ezw l).run NN=_;simp only[ezw,qk];refine(fzu (λi=>sw (big1 l i) (i:Int)) l.length h (λj hj=>?_) ?_).trans ?_
  ·rw[az8 qa,aza qa,wn qa,qG,<-ez3];simp only[e1,qL,big1]
  ·rw[az7 qa]
  ·cases scan (λi=>sw (big1 l i) (i:Int)) l.length 0<;>rfl
 have e3:(gz2 l).o=some (!izy l):=by
  show(ezc l).run NN=_;simp only[ezc,qk,e2,qL];rw[Rzd];rfl
 simp only[szx,qk,e3,qL,ws]
theorem pzl (l:List Int)(h:l.length<4294967296):(lz8 l).o=some (izy l):=by
 show(wzl l).run NN=_;simp only[wzl,qk];refine(fzu (λi=>sw (big1 l i) false) l.length h (λj hj=>?_) ?_).trans ?_
 ·rw[az8 qa,wn qa,<-ez3];simp only[qG,aza (show 0<=(j:Int)/\(j:Int)<(l.length:Int) from qa),bzd,az9,ezd,big1]
 ·rw[az7 qa]
 ·rw[dzd];unfold izy;cases czg (big1 l) l.length<;>rfl
def tzb (p q:List Int)(d:Int):Bool:=izy p&&(izy q&&(qw (p.length=q.length)&&(qw (0<=d)&&qw (d<=20))))
theorem Pz5 {a b:Nat}:((a:Int)==(b:Int))=qw (a=b):=by rw[qY];simp only[qj,qf];omega
theorem Gzu (p q:List Int)(d:Int)(hp:p.length<4294967296)(hq:q.length<4294967296):(uzr p q d).o=some (tzb p q d):=by
 show(mz1 p q d).run NN=_;simp only[mz1,qk,Cz1 p hp,Cz1 q hq,qL,tzb,Pz5];cases qw (p.length=q.length)<;>cases izy p<;>cases izy q<;>cases qw (0<=d)<;>rfl
theorem Nzj (p q:List Int)(d:Int)(hp:p.length<4294967296)(hq:q.length<4294967296):(Czn p q d).o=some (tzb p q d):=by
 show(tzn p q d).run NN=_;simp only[tzn,qk,pzl p hp,pzl q hq,qL,tzb,Pz5,ge_iff_le];cases qw (p.length=q.length)<;>cases izy p<;>cases izy q<;>cases qw (0<=d)<;>rfl
def Czk (p q:List Int)(d:Nat)(i:Int)(k:Nat):az0:=
 ⟨p.getD k qv+min (i * (q.getD k qv-p.getD k qv)) ((i+1) * (q.getD k qv-p.getD k qv)) / 2 ^ d,
  p.getD k qv+cdiv (max (i * (q.getD k qv-p.getD k qv)) ((i+1) * (q.getD k qv-p.getD k qv))) (2 ^ d)⟩
def czw (p q:List Int)(d i:Int):List az0×Bool:=
 if tzb p q d=true/\0<=i/\i<2 ^ d.toNat then(tab (Czk p q d.toNat i) p.length,true)else(nl,false)
theorem Gz7 {l:List Int}(h:izy l=true){i:Nat}(hi:i<l.length): -2147483648<=l.getD i qv/\l.getD i qv<=2147483648:=by
 have:=noneB_iff.1 h i hi;simp only[big1,qp,qi]at this;omega
theorem motionV_iff {p q:List Int}{d:Int}:tzb p q d=true↔izy p=true/\izy q=true/\p.length=q.length/\0<=d/\d<=20:=by
 simp only[tzb,qm,qf]
theorem az2p {k:Nat}(h:k<=20):(2:Int) ^ k<=1048576:=by
 have:(2:Int) ^ k<=2 ^ 20:=by
  exact_mod_cast wt (by decide:0<2) h
 have e:(2:Int) ^ 20=1048576:=by decide
 omega
theorem azbg {i D:Int}(h0:0<=i)(h1:i<=1048576)(h2: -4294967296<=D/\D<=4294967296): -4503599627370496<=i * D/\i * D<=4503599627370496:=by
 have h:(i * D).natAbs<=1048576 * 4294967296:=by rw[qM];exact qN qa qa
 omega
theorem az3s {d:Int}(h0:0<=d)(h1:d<=20):IntKind.u64.wrap d=d:=by
 show(if(false&&qw (d % 18446744073709551616>=9223372036854775808))=true then d % 18446744073709551616-18446744073709551616 else d % 18446744073709551616)=d;rw[qb (by simp)];omega
theorem Pzg (a:Int)(k:Nat)(hk:k<=64):(vzp a (k:Int)).o=some (a / 2 ^ k):=by
 show(vzq a (k:Int)).run NN=_;simp only[vzq,qk];rw[aza qa,qG,qH hk,Bz9]
section
variable {a b i:Int} {k:Nat} (ha: -2147483648<=a/\a<=2147483648) (hb: -2147483648<=b/\b<=2147483648) (h0:0<=i) (hi:i<2 ^ k) (hk:k<=20)
include ha hb h0 hi hk
theorem Yz5:qu.wrap (b-a)=b-a/\qu.wrap (i+1)=i+1/\qu.wrap (i * (b-a))=i * (b-a)/\qu.wrap ((i+1) * (b-a))=(i+1) * (b-a)/\
 InR (min (i * (b-a)) ((i+1) * (b-a)))/\InR (max (i * (b-a)) ((i+1) * (b-a)))/\InR (-(max (i * (b-a)) ((i+1) * (b-a))))/\
 InR (a+min (i * (b-a)) ((i+1) * (b-a)) / 2 ^ k)/\InR (a+cdiv (max (i * (b-a)) ((i+1) * (b-a))) (2 ^ k)):=by
 have p20:=az2p hk;have hp:=czl k;have m1:=azbg h0 qa (show -4294967296<=b-a/\b-a<=4294967296 from qa);have m2:=azbg (i:=i+1) qa qa (show -4294967296<=b-a/\b-a<=4294967296 from qa);generalize i * (b-a)=u at *
 generalize (i+1) * (b-a)=v at *
 have b1: -4503599627370496<=min u v/\min u v<=4503599627370496:=qa
 have b2: -4503599627370496<=max u v/\max u v<=4503599627370496:=qa
 have d1:=Iz9 (a:=min u v) hp;have d2:=Pzb (a:=max u v) hp;refine⟨w64 qa qa,w64 qa qa,w64 qa qa,w64 qa qa,⟨qa,qa⟩,⟨qa,qa⟩,⟨qa,qa⟩,?_,?_⟩
 ·generalize min u v=x at *
  generalize x / 2 ^ k=y at *
  by_cases hx:0<=x
  ·have:=d1.1 hx;exact⟨qa,qa⟩
  ·have:=d1.2 qa;exact⟨qa,qa⟩
 ·generalize max u v=x at *
  generalize cdiv x (2 ^ k)=y at *
  by_cases hx:0<x
  ·have:=d2.1 hx;exact⟨qa,qa⟩
  ·have:=d2.2 qa;exact⟨qa,qa⟩
theorem Jza:(xzq a b i (k:Int)).o=some (⟨a+min (i * (b-a)) ((i+1) * (b-a)) / 2 ^ k,a+cdiv (max (i * (b-a)) ((i+1) * (b-a))) (2 ^ k)⟩,i,(k:Int)):=by
 obtain⟨e1,e2,e3,e4,e5,e6,e7,e8,e9⟩:=Yz5 ha hb h0 hi hk;show(ozb a b i (k:Int)).run NN=_;have e0:qu.wrap (0-max (i * (b-a)) ((i+1) * (b-a)))= -(max (i * (b-a)) ((i+1) * (b-a))):=by rw[Int.zero_sub];exact e7.w
 have e10:a- -(max (i * (b-a)) ((i+1) * (b-a))) / 2 ^ k=a+cdiv (max (i * (b-a)) ((i+1) * (b-a))) (2 ^ k):=by unfold cdiv;omega
 simp only[ozb,qk,e1,e2,e3,e4,e0,Pzg _ k (show k<=64 from qa),qL,e8.w,e10,e9.w]
end
theorem Kzl {p q:List Int}{k:Nat}{i:Int}(hp:izy p=true)(hq:izy q=true)(hl:p.length=q.length)(hn:p.length<4294967296)(h0:0<=i)(hi:i<2 ^ k)(hk:k<=20):
 (ezm p q i (k:Int)).o=some (tab (Czk p q k i) p.length,i,(k:Int)):=by
 show(czu p q i (k:Int)).run NN=_;simp only[czu,qk];rw[aza ⟨qa,qa,qa,qa⟩,qG];refine(bzv (λj=>(i,(k:Int),half (Czk p q k i) ⟨0,0⟩ p.length j,(j:Int))) (i,(k:Int),tab (Czk p q k i) p.length) p.length ?_ hn (λj hj=>?_) ?_).trans rfl
 ·rw[qzf];rfl
 ·rw[az8 (by simpa using hj),aza ⟨by simp,by simpa using hj⟩,aza ⟨by simp,by simp;omega⟩];simp only[qG,Jza (Gz7 hp hj) (Gz7 hq (by omega:j<q.length)) h0 hi hk,qL,rzn (show j<=p.length from qa)];rw[aza ⟨qa,qa⟩,aza ⟨hj,qa⟩,wn qa];exact congrArg (λx=>some (Step3.next (i,(k:Int),x,((j+1:Nat):Int)))) (nz6 hj)
 ·rw[az7 (by simp)];simp only[wz2]
theorem w2k {k:Nat}(h:k<=20):qu.wrap (1 * 2 ^ k)=2 ^ k:=by
 have:=az2p h;have:=czl k;rw[wu];exact w64 qa qa
theorem szt (p q:List Int)(d i:Int)(hp:p.length<4294967296)(hq:q.length<4294967296):(nz3 p q d i).o=some (czw p q d i):=by
 show(szs p q d i).run NN=_;simp only[szs,qk,Gzu p q d hp hq,qL,czw];by_cases hm:tzb p q d=true
 ·have hm':=motionV_iff.1 hm;obtain⟨k,rfl⟩:∃k:Nat,d=(k:Int):=⟨d.toNat,qa⟩;have hk:k<=20:=qa
  rw[hm,qG];simp only[qO,qd];by_cases h0:i<0
  ·rw[az8 h0,qb qa];rfl
  ·rw[az7 h0,aza qa,qH qa,w2k hk];simp only[az9];by_cases h1:i>=2 ^ k
   ·rw[az8 h1,qb qa]
   ·rw[az7 h1,qc ⟨trivial,qa,qa⟩,Kzl hm'.1 hm'.2.1 hm'.2.2.1 hp qa qa hk];rfl
 ·rw[qb (λh=>hm h.1)];simp only[we]at hm;rw[hm];rfl
theorem wzj (p q:List Int)(d i:Int)(hp:p.length<4294967296)(hq:q.length<4294967296):(pzk p q d i).o=some (czw p q d i):=by
 show(wzi p q d i).run NN=_;simp only[wzi,qk,Nzj p q d hp hq,qL,czw];by_cases hm:tzb p q d=true
 ·have hm':=motionV_iff.1 hm;obtain⟨k,rfl⟩:∃k:Nat,d=(k:Int):=⟨d.toNat,qa⟩;have hk:k<=20:=qa
  rw[hm,qG,az3s qa qa,qG];simp only[qO,qd];by_cases h0:i<0
  ·rw[az8 h0,qb qa];rfl
  ·rw[az7 h0,aza qa,qH qa,w2k hk];simp only[az9];by_cases h1:i>=2 ^ k
   ·rw[az8 h1,qb qa]
   ·rw[az7 h1,qc ⟨trivial,qa,qa⟩,aza qa];refine(bzv (λj=>(tab (Czk p q k i) j,(j:Int))) (tab (Czk p q k i) p.length) p.length rfl hp (λj hj=>?_) ?_).trans rfl
    ·obtain⟨e1,e2,e3,e4,e5,e6,e7,e8,e9⟩:=Yz5 (Gz7 hm'.1 hj) (Gz7 hm'.2.1 (by omega:j<q.length)) (by omega:0<=i) (by omega:i<2 ^ k) hk;rw[az8 (by simpa using hj),aza ⟨by simp,by simp;omega⟩,aza ⟨by simp,by simpa using hj⟩,aza ⟨by simp,by simpa using hj⟩];simp only[qG,e1,e2,e3,e4,dzw e5 (czl k),cz7 e6 (czl k),qL,e8.w,e9.w];rw[aza ⟨qa,qa⟩,aza ⟨by simp[cz8];omega,by simp[cz8,azc];omega⟩,wn qa,izx];rfl
    ·rw[az7 (by simp)]
 ·rw[qb (λh=>hm h.1)];simp only[we]at hm;rw[hm];rfl
structure JointOk (l:List bz1) (i:Nat):Prop where
 kind:0<=(l.getD i qv).Xl/\(l.getD i qv).Xl<=6
 parent: -1<=(l.getD i qv).Xt/\(l.getD i qv).Xt<(i:Int)
 off:hzq (l.getD i qv).Xy 4194304=true
 lim:(l.getD i qv).Lo<=(l.getD i qv).Hi/\ -fzt (l.getD i qv).Xl<=(l.getD i qv).Lo/\(l.getD i qv).Hi<=fzt (l.getD i qv).Xl
 cost:Sz6 (l.getD i qv)=true
theorem az1r {l:List bz1}{i:Nat}(h:uzw l i=0):JointOk l i:=by
 unfold uzw at h;simp only at h;split at h
 ·cases h
 ·split at h
  ·cases h
  ·rename_i h2;split at h
   ·cases h
   ·rename_i h3;split at h
    ·cases h
    ·rename_i h4;split at h
     ·cases h
     ·rename_i h5;split at h
      ·cases h
      ·rename_i h6;simp only[qZ,qf,wc,wv]at h2 h3 h4 h5 h6;exact⟨qa,qa,h4,qa,h6⟩
theorem fz3 {r:azn}(h:dz1 r=0){i:Nat}(hi:i<r.Xa.length):JointOk r.Xa i:=az1r ((fz6 h).2.2 i hi)
def notV (b:List az0)(i:Nat):Bool:= !vV (b.getD i qv)
def boxV (r:azn)(b:List az0):Bool:=qw (b.length=r.Xa.length)&&czg (notV b) b.length
theorem Jzl (b:List az0)(h:b.length<4294967296):(yz3 b).o=some (czg (notV b) b.length):=by
 show(ozr b).run NN=_;simp only[ozr,qk,gzu,qL];refine(fzu (λi=>sw (notV b i) false) b.length h (λj hj=>?_) ?_).trans ?_
 ·rw[az8 qa,aza qa,wn qa,qG,<-ez3];rfl
 ·rw[az7 qa]
 ·rw[dzd];cases czg (notV b) b.length<;>rfl
theorem wze (r:azn)(b:List az0)(h:b.length<4294967296):(pzj r b).o=some (boxV r b):=by
 show(wzd r b).run NN=_;simp only[wzd,qk,Jzl b h,qL,boxV,Pz5];cases qw (b.length=r.Xa.length)<;>rfl
theorem Ezp (r:azn)(b:List az0)(h:b.length<4294967296):(rzp r b).o=some (boxV r b):=by
 have e1:∀x,(pz5 x).o=some (!vV x):=λx=>by
  show(jz2 x).run NN=_;simp only[jz2,qk,dz4,qL]
 have e2:(ez2 b).o=some (match scan (λi=>sw (notV b i) (i:Int)) b.length 0 with|some x=>x|none=> -1):=by
  show(czn b).run NN=_;simp only[czn,qk,e1,qL];refine(fzu (λi=>sw (notV b i) (i:Int)) b.length h (λj hj=>?_) ?_).trans ?_
  ·rw[az8 qa,aza qa,wn qa,qG,<-ez3];rfl
  ·rw[az7 qa]
  ·cases scan (λi=>sw (notV b i) (i:Int)) b.length 0<;>rfl
 have e3:(dzn b).o=some (!czg (notV b) b.length):=by
  show(cze b).run NN=_;simp only[cze,qk,e2,qL];exact congrArg some Rzd
 show(kzm r b).run NN=_;simp only[kzm,qk,e3,qL,boxV,Pz5,ws];cases qw (b.length=r.Xa.length)<;>rfl
section
variable (r:azn) (b:List az0)
def lk1 (L:List bz2)(i:Nat):bz2:=
 if(r.Xa.getD i qv).Xt= -1 then Cza (r.Xa.getD i qv) (b.getD i qv)else Vzg (L.getD (r.Xa.getD i qv).Xt.toNat qv) (Cza (r.Xa.getD i qv) (b.getD i qv))
def lkL:Nat->List bz2
 |0=>[]
 |i+1=>lkL i++[lk1 r b (lkL i) i]
def lkP (i:Nat):bz2:=lk1 r b (lkL r b i) i
theorem az1t:∀j,lkL r b j=tab (lkP r b) j
 |0=>rfl
 |j+1=>by rw[izx,<-az1t j];rfl
end
variable {r:azn} {b:List az0}
theorem Xzq {α:Type}{f:Nat->α}{z d:α}{n j i:Nat}(h:i<j):(half f z n j).getD i d=f i:=by
 unfold half;rw[wm,List.getElem?_append_left (by rw[cz8];exact h),<-wm,hzx h]
theorem Ozv {α:Type}{l:List α}{i j:Nat}{x d:α}(h:i≠j):(l.set i x).getD j d=l.getD j d:=by
 rw[wm,List.getElem?_set_ne h,wm]
theorem Ozu {α:Type}{l:List α}{i:Nat}{x d:α}(h:i<l.length):(l.set i x).getD i d=x:=by
 rw[wm,List.getElem?_set_self h];rfl
theorem Qzy (hr:dz1 r=0)(hb:boxV r b=true):(Fzd r b).o=some (tab (lkP r b) r.Xa.length):=by
 have hr':=fz6 hr;have hb':=hb;simp only[boxV,qm,qf]at hb';show(wzh r b).run NN=_;simp only[wzh,qk,dzx,wze r b qa,hb,hr,qL];rw[bza rfl,az9,qO,qd];refine(bzv (λj=>(tab (lkP r b) j,(j:Int))) (tab (lkP r b) r.Xa.length) r.Xa.length rfl (show r.Xa.length<4294967296 from qa) (λj hj=>?_) ?_).trans rfl
 ·have jo:=fz3 hr hj;rw[az8 (by simp;omega),aza ⟨by simp,by simpa using hj⟩,aza ⟨by simp,by simp;omega⟩];simp only[qG,Qzw,qL];rw[aza ⟨qa,qa⟩,izx];by_cases hp:(r.Xa.getD j qv).Xt= -1
  ·have e:lkP r b j=Cza (r.Xa.getD j qv) (b.getD j qv):=by unfold lkP lk1;rw[qc hp]
   rw[bza hp];simp only[az9];rw[aza ⟨by simp[cz8];omega,by simp[cz8,azc];omega⟩,wn qa,e]
  ·have jp:=jo.parent;have e:lkP r b j=Vzg ((tab (lkP r b) j).getD (r.Xa.getD j qv).Xt.toNat qv) (Cza (r.Xa.getD j qv) (b.getD j qv)):=by
    unfold lkP lk1;rw[qb hp,az1t];rfl
   rw[bzn hp,aza ⟨qa,qa⟩,aza ⟨qa,by rw[cz8];omega⟩,aza (by rw[cz8];omega)];simp only[nzh,qL,az9];rw[aza ⟨by simp[cz8];omega,by simp[cz8,azc];omega⟩,wn qa,e]
 ·rw[az7 (by simp;omega)]
theorem Ezq (hr:dz1 r=0)(hb:boxV r b=true):(rzq r b).o=some (tab (lkP r b) r.Xa.length):=by
 have hr':=fz6 hr;have hb':=hb;simp only[boxV,qm,qf]at hb';show(kzn r b).run NN=_;simp only[kzn,qk];rw[aza ⟨qa,qa,qa,qa⟩,qG];refine(bzv (λj=>(half (lkP r b) (⟨(izv,izv,izv),izv⟩:bz2) r.Xa.length j,(j:Int))) (tab (lkP r b) r.Xa.length) r.Xa.length ?_ (show r.Xa.length<4294967296 from qa) (λj hj=>?_) ?_).trans rfl
 ·rw[qzf];rfl
 ·have jo:=fz3 hr hj;have jp:=jo.parent;rw[az8 (by simp;omega),aza ⟨by simp,by simpa using hj⟩,aza ⟨by simp,by simp;omega⟩];simp only[qG,Ezo,qL,wx,rzn (show j<=r.Xa.length from qa)];rw[aza ⟨qa,qa⟩,aza ⟨hj,qa⟩,wn qa];by_cases hp:(r.Xa.getD j qv).Xt= -1
  ·have e:lkP r b j=Cza (r.Xa.getD j qv) (b.getD j qv):=by unfold lkP lk1;rw[qc hp]
   rw[bza hp];simp only[az9];rw[<-nz6 hj,e]
  ·have e:lkP r b j=Vzg (lkP r b (r.Xa.getD j qv).Xt.toNat) (Cza (r.Xa.getD j qv) (b.getD j qv)):=by
    conv=>lhs;unfold lkP lk1
    rw[qb hp,az1t,hzx qa]
   rw[bzn hp,aza ⟨qa,qa⟩,aza qa,aza ⟨qa,qa⟩,aza hj,Ozv qa,Xzq qa,Ozu (by rw[rzn qa];exact hj)];simp only[nzc,qL];rw[aza ⟨qa,qa⟩,aza ⟨hj,qa⟩,az9,wy,<-e,nz6 hj]
 ·rw[az7 (by simp)];simp only[wz2]
def rz6 (x:bz9):Bool:=(betV x.Xs 1 1048576&&qw (1<=x.Xb.length/\x.Xb.length<=8))&&czg (farP x.Xb) x.Xb.length
def Fz7 (x:bz9)(p:bz2):List IV3:=if rz6 x then tab (λi=>Tzg p (zzo (x.Xb.getD i qv))) x.Xb.length else nl
theorem Mzl {x:bz9}(h:rz6 x=true):1<=x.Xb.length/\x.Xb.length<=8:=by
 simp only[rz6,qm,qf]at h;exact h.1.2
theorem Ozw (x:bz9){α:Type}(k:Bool->Option α):(andC (bif qw (x.Xs<1)then some (.out true)else bif qw (x.Xs>1048576)then some (.out true)else bif qw ((x.Xb.length:Int)<1)then some (.out true)else
 some (.out (qw ((x.Xb.length:Int)>8)))) k)=k (!(betV x.Xs 1 1048576&&qw (1<=x.Xb.length/\x.Xb.length<=8))):=by
 simp only[bzd,az9];congr 1;rw[qY];simp only[ezd,betV,qZ,wc,wd,qf,qi];omega
theorem Fza (x:bz9):(sz0 x).o=some (rz6 x):=by
 show(lz7 x).run NN=_;simp only[lz7,qk,Ozw,rz6];cases h:betV x.Xs 1 1048576&&qw (1<=x.Xb.length/\x.Xb.length<=8)
 ·rfl
 ·simp only[qm,qf]at h;simp only[qO,qd,qR];refine(fzu (λi=>sw (farP x.Xb i) false) x.Xb.length qa (λk hk=>?_) ?_).trans ?_
  ·rw[az8 qa,aza qa,wn qa,qG,<-ez3];simp only[hz6 _ (show(0:Int)<=4194304 by decide) (by decide),qL];rfl
  ·rw[az7 qa]
  ·rw[dzd];cases czg (farP x.Xb) x.Xb.length<;>rfl
theorem Rzg (x:bz9):(Gz3 x).o=some (rz6 x):=by
 show(xzf x).run NN=_;simp only[xzf,qk,Ozw,rz6];cases h:betV x.Xs 1 1048576&&qw (1<=x.Xb.length/\x.Xb.length<=8)
 ·rfl
 ·simp only[qm,qf]at h;simp only[qO,qd,qR];refine(fzu (λi=>sw (farP x.Xb i) false) x.Xb.length qa (λj hj=>?_) ?_).trans ?_
  ·rw[az8 qa,aza qa,qG,wn qa];refine(fzu (λi=>sw (bey (([(x.Xb.getD j qv).1,(x.Xb.getD j qv).2.1,(x.Xb.getD j qv).2.2]:List Int).getD i 0)) (Step3.fin false)) 3 (by decide) (λk hk=>?_) ?_).trans ?_
   ·rw[az8 qa,aza qa,wn qa,qG,<-ez3];simp only[bzd,az9,ezd];rfl
   ·rw[az7 qa]
   ·rw[dzd,far3];unfold farP;cases hzq (x.Xb.getD j qv) 4194304<;>rfl
  ·rw[az7 qa]
  ·rw[dzd];cases czg (farP x.Xb) x.Xb.length<;>rfl
theorem Fzf (x:bz9)(p:bz2):(Fze x p).o=some (Fz7 x p):=by
 show(wzk x p).run NN=_;simp only[wzk,qk,Fza,qL,Fz7];cases h:rz6 x
 ·rfl
 ·have hl:=Mzl h;simp only[qO,qd,if_true];refine(bzv (λj=>(tab (λi=>Tzg p (zzo (x.Xb.getD i qv))) j,(j:Int))) (tab (λi=>Tzg p (zzo (x.Xb.getD i qv))) x.Xb.length) x.Xb.length rfl (show x.Xb.length<4294967296 from qa) (λj hj=>?_) ?_).trans rfl
  ·rw[az8 (by simpa using hj),aza ⟨by simp,by simpa using hj⟩];simp only[qG,sz6,Uz4,qL];rw[aza ⟨by simp[cz8];omega,by simp[cz8,azc];omega⟩,wn qa,izx]
  ·rw[az7 (by simp)]
theorem Gz5 (x:bz9)(p:bz2):(Gz4 x p).o=some (Fz7 x p):=by
 show(xzg x p).run NN=_;simp only[xzg,qk,Rzg,qL,Fz7];cases h:rz6 x
 ·rfl
 ·have hl:=Mzl h;simp only[qO,qd,if_true];rw[aza ⟨qa,qa,qa,qa⟩,qG];refine(bzv (λj=>(half (λi=>Tzg p (zzo (x.Xb.getD i qv))) izv x.Xb.length j,(j:Int))) (tab (λi=>Tzg p (zzo (x.Xb.getD i qv))) x.Xb.length) x.Xb.length ?_ (show x.Xb.length<4294967296 from qa) (λj hj=>?_) ?_).trans rfl
  ·rw[qzf];rfl
  ·rw[az8 (by simpa using hj),aza ⟨by simp,by simpa using hj⟩];simp only[qG,tza,Tzt,qL,rzn (show j<=x.Xb.length from qa)];rw[aza ⟨qa,qa⟩,aza ⟨hj,qa⟩,wn qa,<-nz6 hj]
  ·rw[az7 (by simp)];simp only[wz2]
def az1s (r:azn)(b:List az0)(k:Int):bz2:=if k= -1 then Uz9 else lkP r b k.toNat
def bzo (s:azd)(b:List az0)(i:Nat):List IV3:=Fz7 (s.Xc.getD i qv) (az1s s.Xe b (s.Xc.getD i qv).Xp)
def mzf (s:azd)(b:List az0):List (List IV3):=if czd s=0/\boxV s.Xe b=true then tab (bzo s b) s.Xc.length else nl
structure SceneOk (s:azd):Prop where
 robot:dz1 s.Xe=0
 len:s.Xc.length<=24
 shape:∀i,i<s.Xc.length->yz9 s.Xe.Xa.length (s.Xc.getD i qv)=0
 skips:s.Xj.length<=64
theorem Azv {s:azd}(h:czd s=0):SceneOk s:=by
 unfold czd at h;split at h
 ·rename_i h1;exact absurd h h1
 ·rename_i h1;split at h
  ·cases h
  ·rename_i h2;split at h
   ·rename_i e he;obtain⟨j,-,-,h3,-⟩:=fzp _ _ he;unfold errS sw at h3;cases hb:yz9 s.Xe.Xa.length (s.Xc.getD j qv) !=0 with
    |false=>rw[hb]at h3;cases h3
    |true=>
     rw[hb]at h3;simp only[qe,Option.some.injEq]at h3;simp only[bne_iff_ne]at hb;rw[h3]at hb;exact absurd h hb
   ·rename_i he;split at h
    ·cases h
    ·rename_i h4;refine⟨by simpa using h1,qa,λi hi=>?_,qa⟩;have:=(ezt _ _).1 he i (qX _) qa;unfold errS sw at this;cases hb:yz9 s.Xe.Xa.length (s.Xc.getD i qv) !=0 with
     |false=>simpa using hb
     |true=>rw[hb]at this;cases this
theorem vzb {n:Nat}{x:bz9}(h:yz9 n x=0):rz6 x=true/\ -1<=x.Xp/\x.Xp<(n:Int):=by
 unfold yz9 at h;split at h
 ·cases h
 ·rename_i h1;split at h
  ·rename_i h2;have hb:(kzo n x.Xp&&betV x.Xs 1 1048576)=true:=by
    cases hc:(kzo n x.Xp&&betV x.Xs 1 1048576)with
    |true=>rfl
    |false=>exact absurd (Or.inl hc) h1
   simp only[qm]at hb;refine⟨?_,?_⟩
   ·simp only[rz6,qm,qf];exact⟨⟨hb.2,qa⟩,h2⟩
   ·have:=hb.1;simp only[kzo,qm,qf]at this;exact this
  ·cases h
theorem Nzi (s:azd)(b:List az0)(hbl:b.length<4294967296):(Czm s b).o=some (mzf s b):=by
 show(tzl s b).run NN=_;simp only[tzl,qk,ezj,wze _ b hbl,qL,mzf];by_cases h:czd s=0
 ·rw[bza h,az9];cases hb:boxV s.Xe b
  ·rw[qb (λh=>by cases h.2)];rfl
  ·have so:=Azv h;rw[qc ⟨h,rfl⟩,qO,qd,Qzy so.robot hb,qL];refine(bzv (λj=>(tab (bzo s b) j,(j:Int))) (tab (bzo s b) s.Xc.length) s.Xc.length rfl (show s.Xc.length<4294967296 by have:=so.len;omega) (λj hj=>?_) ?_).trans rfl
   ·have so2:=so.len;have sl:=(vzb (so.shape j hj)).2;rw[az8 (by simpa using hj)];simp only[qG,Mz3,qL];rw[aza ⟨qa,qa⟩,wn qa,izx];by_cases hp:(s.Xc.getD j qv).Xp= -1
    ·have e:bzo s b j=Fz7 (s.Xc.getD j qv) Uz9:=by unfold bzo az1s;rw[qc hp]
     rw[bza hp];simp only[az9];rw[aza ⟨qa,qa⟩];simp only[Fzf,qL];rw[aza ⟨by simp[cz8];omega,by simp[cz8,azc];omega⟩,e]
    ·have e:bzo s b j=Fz7 (s.Xc.getD j qv) ((tab (lkP s.Xe b) s.Xe.Xa.length).getD (s.Xc.getD j qv).Xp.toNat qv):=by
      unfold bzo az1s;rw[qb hp,hzx qa]
     rw[bzn hp,aza ⟨qa,qa⟩,aza ⟨qa,by rw[cz8];omega⟩];simp only[az9];rw[aza ⟨qa,qa⟩];simp only[Fzf,qL];rw[aza ⟨by simp[cz8];omega,by simp[cz8,azc];omega⟩,e]
   ·rw[az7 (by simp)]
 ·rw[bzn h,az9,qe,qb (λh'=>h h'.1)]
theorem Dzh (s:azd)(b:List az0)(hbl:b.length<4294967296):(qzi s b).o=some (mzf s b):=by
 show(jzz s b).run NN=_;simp only[jzz,qk,gz1,Ezp _ b hbl,qL,mzf];cases hb:boxV s.Xe b
 ·rw[qb (λh=>by cases h.2)];rfl
 ·simp only[qO,qd,az9];by_cases h:czd s=0
  ·have so:=Azv h;have so2:=so.len;rw[qc ⟨h,trivial⟩,bza h,Ezq so.robot hb,qL,aza ⟨qa,qa,qa,qa⟩,qG];refine(bzv (λj=>(half (bzo s b) nl s.Xc.length j,(j:Int))) (tab (bzo s b) s.Xc.length) s.Xc.length ?_ (show s.Xc.length<4294967296 from qa) (λj hj=>?_) ?_).trans rfl
   ·rw[qzf];rfl
   ·have sl:=(vzb (so.shape j hj)).2;rw[az8 (by simpa using hj),aza ⟨by simp,by simpa using hj⟩];simp only[qG,zzq,qL,rzn (show j<=s.Xc.length from qa)];rw[wn qa,<-nz6 hj];by_cases hp:(s.Xc.getD j qv).Xp= -1
    ·have e:bzo s b j=Fz7 (s.Xc.getD j qv) Uz9:=by unfold bzo az1s;rw[qc hp]
     rw[bza hp];simp only[az9,Gz5,qL];rw[aza ⟨qa,qa⟩,aza ⟨hj,qa⟩,e]
    ·have e:bzo s b j=Fz7 (s.Xc.getD j qv) ((tab (lkP s.Xe b) s.Xe.Xa.length).getD (s.Xc.getD j qv).Xp.toNat qv):=by
      unfold bzo az1s;rw[qb hp,hzx qa]
     rw[bzn hp,aza ⟨qa,by rw[cz8];omega⟩];simp only[az9,Gz5,qL];rw[aza ⟨qa,qa⟩,aza ⟨hj,qa⟩,e]
   ·rw[az7 (by simp)];simp only[wz2]
  ·rw[qb (λh'=>h h'.1),bzn h]
section
variable (par:Nat->Nat) (mv:Nat->Prop) [DecidablePred mv]
inductive AncN:Nat->Nat->Prop
 |self {m:Nat}:0<m->AncN m m
 |up {m x:Nat}:0<m->AncN (par m) x->AncN m x
def cF:Nat->Nat->Nat
 |0,_=>0
 |d+1,m=>if m=0 then 0 else if mv m then m else cF d (par m)
end
section
variable {par:Nat->Nat} {mv:Nat->Prop} [DecidablePred mv]
theorem AncN.pos {m x:Nat}(h:AncN par m x):0<m/\0<x:=by
 induction h with
 |self h=>exact⟨h,h⟩
 |up h _ ih=>exact⟨h,ih.2⟩
theorem AncN.le {n m x:Nat}(hp:∀m,0<m->m<=n->par m<m)(h:AncN par m x):m<=n->x<=m:=by
 induction h with
 |self=>intro _;exact wz _
 |up h0 _ ih=>rename_i m x _;intro hm;have:=hp m h0 hm;have:=ih qa;omega
theorem az0d {n:Nat}(hp:∀m,0<m->m<=n->par m<m):∀ (d d' m:Nat),m<=n->m<d->m<d'->cF par mv d m=cF par mv d' m
 |0,_,_,_,h,_=>qa
 |_,0,_,_,_,h=>qa
 |d+1,d'+1,m,hm,h1,h2=>by
  simp only[cF];by_cases h0:m=0
  ·simp only[h0,if_true]
  ·simp only[h0,if_false];have:=hp m qa hm;by_cases hv:mv m
   ·simp only[hv,if_true]
   ·simp only[hv,if_false];exact az0d hp d d' (par m) qa qa qa
theorem Rzw {n:Nat}(hp:∀m,0<m->m<=n->par m<m):∀ (d m:Nat),m<=n->m<d->(∀x,mv x->(AncN par m x↔AncN par (cF par mv d m) x))/\(cF par mv d m≠0->mv (cF par mv d m)/\AncN par m (cF par mv d m))/\cF par mv d m<=m
 |0,_,_,h=>qa
 |d+1,m,hm,h=>by
  simp only[cF];by_cases h0:m=0
  ·rw[qc h0];subst h0;exact⟨λ_ _=>Iff.rfl,λh=>absurd rfl h,wz _⟩
  ·simp only[h0,if_false];have hl:=hp m qa hm;by_cases hv:mv m
   ·rw[qc hv];exact⟨λ_ _=>Iff.rfl,λ_=>⟨hv,.self qa⟩,wz _⟩
   ·simp only[hv,if_false];obtain⟨h1,h2,h3⟩:=Rzw hp d (par m) qa qa;refine⟨λx hx=>?_,λhn=>⟨(h2 hn).1,.up qa (h2 hn).2⟩,qa⟩;rw[<-h1 x hx];constructor
    ·intro ha;cases ha with
     |self=>exact absurd hx hv
     |up _ ha=>exact ha
    ·intro ha;exact .up qa ha
theorem az6g {n:Nat}(hp:∀m,0<m->m<=n->par m<m){a b d:Nat}(ha:a<=n)(hb:b<=n)(hd:n<d):cF par mv d a=cF par mv d b↔∀x,mv x->(AncN par a x↔AncN par b x):=by
 obtain⟨a1,a2,a3⟩:=Rzw (mv:=mv) hp d a ha qa;obtain⟨b1,b2,b3⟩:=Rzw (mv:=mv) hp d b hb qa;constructor
 ·intro h x hx;rw[a1 x hx,b1 x hx,h]
 ·intro h;have key:∀ {a b:Nat},a<=n->b<=n->cF par mv d a≠0->(∀x,mv x->(AncN par a x↔AncN par b x))->cF par mv d a<=cF par mv d b:=by
   intro a b ha hb hn h;obtain⟨a1,a2,a3⟩:=Rzw (mv:=mv) hp d a ha qa;obtain⟨b1,b2,b3⟩:=Rzw (mv:=mv) hp d b hb qa;have:=(b1 _ (a2 hn).1).1 ((h _ (a2 hn).1).1 (a2 hn).2);exact this.le hp qa
  by_cases h0:cF par mv d a=0
  ·by_cases h1:cF par mv d b=0
   ·omega
   ·have:=key hb ha h1 (λx hx=>(h x hx).symm);omega
  ·have h2:=key ha hb h0 h;have h3:=key hb ha qa (λx hx=>(h x hx).symm);omega
end
section
variable (r:azn)
def parN (m:Nat):Nat:=((r.Xa.getD (m-1) qv).Xt+1).toNat
def mvN (m:Nat):Prop:=(r.Xa.getD (m-1) qv).Lo≠(r.Xa.getD (m-1) qv).Hi
instance:DecidablePred (mvN r):=λm=>inferInstanceAs (Decidable (_≠_))
def carN (m:Nat):Nat:=cF (parN r) (mvN r) (r.Xa.length+1) m
end
variable {r:azn} (hr:dz1 r=0)
include hr
theorem Lzs:∀m,0<m->m<=r.Xa.length->parN r m<m:=λm h0 hm=>by
 have:=(fz3 hr (show m-1<r.Xa.length from qa)).parent;unfold parN;omega
omit hr in
theorem az0g:carN r 0=0:=by
 unfold carN;simp only[cF,if_true]
theorem az0f {i:Nat}(hi:i<r.Xa.length):carN r (i+1)=if(r.Xa.getD i qv).Lo=(r.Xa.getD i qv).Hi then carN r ((r.Xa.getD i qv).Xt+1).toNat else i+1:=by
 have hl:=Lzs hr (i+1) qa qa;unfold carN
 conv=>lhs;simp only[cF]
 rw[qb qa];by_cases h:(r.Xa.getD i qv).Lo=(r.Xa.getD i qv).Hi
 ·rw[qb (λhm=>hm h),qc h];exact az0d (Lzs hr) _ _ (parN r (i+1)) qa qa qa
 ·rw[qc (show mvN r (i+1)from h),qb h]
def caP (r:azn)(m:Nat):Int:=(carN r m:Int)-1
theorem Jzo:(yz7 r).o=some (tab (caP r) (r.Xa.length+1)):=by
 have hr':=fz6 hr;show(ozy r).run NN=_;simp only[ozy,qk];rw[wn qa,qG,aza ⟨qa,qa,qa,qa⟩];simp only[wA];rw[aza ⟨qa,qa⟩,aza ⟨by simp,qa⟩];refine(bzv (λj=>(half (caP r) 0 (r.Xa.length+1) (j+1),(j:Int))) (tab (caP r) (r.Xa.length+1)) r.Xa.length ?_ (show r.Xa.length<4294967296 from qa) (λj hj=>?_) ?_).trans rfl
 ·rw[<-nz6 qa,qzf];have:caP r 0= -1:=by unfold caP;rw[az0g];rfl
  rw[this];rfl
 ·have jp:=(fz3 hr hj).parent;rw[az8 (by simpa using hj),aza ⟨by simp,by simpa using hj⟩];simp only[qG,rzn (show j+1<=r.Xa.length+1 from qa),wx];rw[wn qa,qG,aza ⟨qa,qa⟩,aza ⟨qa,qa⟩,w64 (x:=(r.Xa.getD j qv).Xt+1) qa qa];have e:=az0f hr hj;by_cases h:(r.Xa.getD j qv).Lo=(r.Xa.getD j qv).Hi
  ·have e2:caP r (j+1)=caP r ((r.Xa.getD j qv).Xt+1).toNat:=by unfold caP;rw[e,qc h]
   rw[dzj h,aza ⟨qa,qa⟩,aza qa,aza ⟨qa,qa⟩,aza ⟨qa,qa⟩,Ozv qa,Xzq qa,az9,wy,<-nz6 (j:=j+1) qa,e2]
  ·have e2:caP r (j+1)=(j:Int):=by unfold caP;rw[e,qb h];omega
   rw[dze h,az9,<-nz6 (j:=j+1) qa,e2]
 ·rw[az7 (by simp)];simp only[wz2]
theorem Izx {k:Int}(h0: -1<=k)(h1:k<(r.Xa.length:Int)):∃L:List Int,(sz8 r k).o=some L/\L.length<=r.Xa.length/\∀x:Nat,(x:Int)∈L↔AncN (parN r) (k+1).toNat (x+1):=by
 have hr':=fz6 hr;have e0:(sz8 r k).o=(Azi r k).run NN:=rfl;rw[e0];simp only[Azi,qk,dzx,hr,lzh,qL];rw[bza rfl,az9,show kzo r.Xa.length k=true by simp[kzo];omega,qO,qd]
 refine Pzy (β:=List Int) (g:=λL=>some L) (P:=λL=>L.length<=r.Xa.length/\∀x:Nat,(x:Int)∈L↔AncN (parN r) (k+1).toNat (x+1))
  (λ(y:List Int×Int)=> -1<=y.2/\y.2<(r.Xa.length:Int)/\y.1.length+(y.2+1).toNat<=r.Xa.length/\∀x:Nat,((x:Int)∈y.1\/AncN (parN r) (y.2+1).toNat (x+1))↔AncN (parN r) (k+1).toNat (x+1))
  (λ(y:List Int×Int)=>(y.2+1).toNat) (λ(L:List Int)=>L.length<=r.Xa.length/\∀x:Nat,(x:Int)∈L↔AncN (parN r) (k+1).toNat (x+1)) ⟨h0,h1,?_,λx=>?_⟩ ?_ (λy hy=>?_) (λL hL=>⟨L,rfl,hL⟩)
 ·simp[nl];omega
 ·simp[nl]
 ·show(k+1).toNat<4294967296;omega
 ·obtain⟨a1,a2,a3,a4⟩:=hy;by_cases hk:y.2= -1
  ·refine .inr ⟨y.1,by rw[bza hk],qa,λx=>?_⟩;rw[<-a4 x];constructor
   ·exact Or.inl
   ·rintro(h|h)
    ·exact h
    ·have:=h.pos.1;rw[hk]at this;exact absurd this (by decide)
  ·left;have jp:=(fz3 hr (show y.2.toNat<r.Xa.length from qa)).parent;refine⟨(y.2::y.1,(r.Xa.getD y.2.toNat qv).Xt),?_,⟨jp.1,qa,by simp only[wB];omega,λx=>?_⟩,by simp only;omega⟩
   ·rw[bzn hk,aza ⟨by simp;omega,by simp[azc];omega⟩,aza ⟨qa,qa⟩];rfl
   ·rw[<-a4 x];have hpar:parN r (y.2+1).toNat=((r.Xa.getD y.2.toNat qv).Xt+1).toNat:=by
     unfold parN;rw[show(y.2+1).toNat-1=y.2.toNat from qa]
    simp only[wC];constructor
    ·rintro((h|h)|h)
     ·right;rw[show(y.2+1).toNat=x+1 from qa];exact .self qa
     ·exact Or.inl h
     ·right;exact .up qa (hpar▸h)
    ·rintro(h|h)
     ·exact Or.inl (Or.inr h)
     ·generalize hm:(y.2+1).toNat=m at h;cases h with
      |self h=>left;left;omega
      |up h ha=>right;rw[<-hm,hpar]at ha;exact ha
omit hr in
theorem Fzr (l:List Int)(x:Int)(h:l.length<4294967296):(xz3 l x).o=some (qw (x∈l)):=by
 show(xz4 l x).run NN=_;simp only[xz4,qk];refine(fzu (λi=>sw (l.getD i qv==x) true) l.length h (λj hj=>?_) ?_).trans ?_
 ·rw[az8 qa,aza qa,wn qa,qG,<-ez3]
 ·rw[az7 qa]
 ·rw[dzd];have:czg (λi=>l.getD i qv==x) l.length= !qw (x∈l):=by
   rw[qY,noneB_iff,wc,qi];constructor
   ·intro hn hx;obtain⟨i,hi,e⟩:=wD hx;have:=hn i hi;rw[wm,wE hi,wF,e]at this;simp at this
   ·intro hn i hi;rw[wm,wE hi,wF];simp only[beq_eq_false_iff_ne,ne_eq];intro e;apply hn;rw[<-e];exact wG hi
  rw[this];cases qw (x∈l)<;>rfl
def betL (p:Nat->Bool)(n:Nat):List Int:=((List.range n).filter p).map λ(i:Nat)=>(i:Int)
omit hr in
theorem az0a (p:Nat->Bool)(n:Nat):betL p (n+1)=if p n then betL p n++[(n:Int)]else betL p n:=by
 unfold betL;rw[wk,List.filter_append,List.map_append];cases h:p n<;>simp[h]
omit hr in
theorem Xz8 (p:Nat->Bool)(n:Nat):(betL p n).length<=n:=by
 unfold betL;rw[List.length_map];exact wH (List.length_filter_le _ _) (by simp)
omit hr in
theorem az45 {p:Nat->Bool}{n:Nat}{x:Int}:x∈betL p n↔∃i:Nat,x=(i:Int)/\i<n/\p i=true:=by
 unfold betL;simp only[List.mem_map,List.mem_filter,wo];constructor
 ·rintro⟨i,⟨h1,h2⟩,rfl⟩;exact⟨i,rfl,h1,h2⟩
 ·rintro⟨i,rfl,h1,h2⟩;exact⟨i,⟨h1,h2⟩,rfl⟩
theorem Nzs {a b:Int}(a0: -1<=a)(a1:a<(r.Xa.length:Int))(b0: -1<=b)(b1:b<(r.Xa.length:Int)):
 ∃L:List Int,(Czv r a b).o=some L/\L.length<=r.Xa.length/\∀x:Int,x∈L↔∃i:Nat,x=(i:Int)/\i<r.Xa.length/\¬ (AncN (parN r) (a+1).toNat (i+1)↔AncN (parN r) (b+1).toNat (i+1)):=by
 have hr':=fz6 hr;obtain⟨X,x1,x2,x3⟩:=Izx hr a0 a1;obtain⟨Y,y1,y2,y3⟩:=Izx hr b0 b1;let p:Nat->Bool:=λi=> !(qw ((i:Int)∈X)==qw ((i:Int)∈Y))
 refine⟨betL p r.Xa.length,?_,Xz8 _ _,λx=>?_⟩
 ·show(uz5 r a b).run NN=_;simp only[uz5,qk,dzx,hr,lzh,qL];rw[bza rfl,show kzo r.Xa.length a=true by simp[kzo];omega,show kzo r.Xa.length b=true by simp[kzo];omega];simp only[qO,qd,az9,x1,y1,qL];refine(bzv (λj=>(betL p j,(j:Int))) (betL p r.Xa.length) r.Xa.length rfl (show r.Xa.length<4294967296 from qa) (λj hj=>?_) ?_).trans rfl
  ·have:=Xz8 p j;rw[az8 (by simpa using hj)];simp only[Fzr X _ (show X.length<4294967296 from qa),Fzr Y _ (show Y.length<4294967296 from qa),qL];rw[wn qa,az0a,aza ⟨by simp;omega,by simp[azc];omega⟩];show andC (bif p j then _ else _) _=_;cases p j<;>rfl
  ·rw[az7 (by simp)]
 ·rw[az45];constructor
  ·rintro⟨i,h1,h2,h3⟩;refine⟨i,h1,h2,?_⟩;rw[<-x3,<-y3];intro hh;simp only[p,wc,beq_eq_false_iff_ne,ne_eq,decide_eq_decide]at h3;exact h3 hh
  ·rintro⟨i,h1,h2,h3⟩;refine⟨i,h1,h2,?_⟩;rw[<-x3,<-y3]at h3;simp only[p,wc,beq_eq_false_iff_ne,ne_eq,decide_eq_decide];exact h3
theorem Uz6 {a b:Int}(a0: -1<=a)(a1:a<(r.Xa.length:Int))(b0: -1<=b)(b1:b<(r.Xa.length:Int)):(Izz r a b).o=some (qw (carN r (a+1).toNat=carN r (b+1).toNat)):=by
 have hr':=fz6 hr;obtain⟨L,l1,l2,l3⟩:=Nzs hr a0 a1 b0 b1;show(Azk r a b).run NN=_;simp only[Azk,qk,dzx,hr,lzh,qL];rw[bza rfl,show kzo r.Xa.length a=true by simp[kzo];omega,show kzo r.Xa.length b=true by simp[kzo];omega];simp only[qO,qd,az9,l1,qL];have hin:∀j,j<L.length->0<=L.getD j qv/\L.getD j qv<(r.Xa.length:Int):=λj hj=>by
  have:L.getD j qv∈L:=by rw[wm,wE hj,wF];exact wG hj
  obtain⟨i,h1,h2,-⟩:=(l3 _).1 this;rw[h1];omega
 refine(fzu (λj=>sw (qw ((r.Xa.getD (L.getD j qv).toNat qv).Lo<(r.Xa.getD (L.getD j qv).toNat qv).Hi)) false) L.length qa (λj hj=>?_) ?_).trans ?_
 ·rw[az8 qa,aza qa,qG,aza (hin j hj),aza qa,aza (hin j hj),wn qa,<-ez3]
 ·rw[az7 qa]
 ·rw[dzd];have:czg (λj=>qw ((r.Xa.getD (L.getD j qv).toNat qv).Lo<(r.Xa.getD (L.getD j qv).toNat qv).Hi)) L.length=qw (carN r (a+1).toNat=carN r (b+1).toNat):=by
   rw[qY,noneB_iff,qf];unfold carN;rw[az6g (Lzs hr) qa qa qa];constructor
   ·intro h x hx;by_cases hA:AncN (parN r) (a+1).toNat x↔AncN (parN r) (b+1).toNat x
    ·exact hA
    ·exfalso
     have hx0:0<x/\x<=r.Xa.length:=by
      by_cases h1:AncN (parN r) (a+1).toNat x
      ·have:=h1.le (Lzs hr) qa;exact⟨h1.pos.2,qa⟩
      ·by_cases h2:AncN (parN r) (b+1).toNat x
       ·have:=h2.le (Lzs hr) qa;exact⟨h2.pos.2,qa⟩
       ·exact absurd ⟨λh=>absurd h h1,λh=>absurd h h2⟩ hA
     obtain⟨i,rfl⟩:∃i,x=i+1:=⟨x-1,qa⟩;have hm:(i:Int)∈L:=(l3 _).2 ⟨i,rfl,qa,hA⟩;obtain⟨j,hj,e⟩:=wD hm;have:=h j hj;have e2:L.getD j qv=(i:Int):=by rw[wm,wE hj,wF,e]
     rw[e2,qG,qi]at this;have jo:=(fz3 hr (show i<r.Xa.length from qa)).lim.1;apply hx;simp only[wI];omega
   ·intro h j hj;have:L.getD j qv∈L:=by rw[wm,wE hj,wF];exact wG hj
    obtain⟨i,h1,h2,h3⟩:=(l3 _).1 this;rw[h1,qG,qi];intro hlt;exact h3 (h (i+1) (by show(r.Xa.getD (i+1-1) qv).Lo≠(r.Xa.getD (i+1-1) qv).Hi;simp only[wI];omega))
  rw[this];cases qw (carN r (a+1).toNat=carN r (b+1).toNat)<;>rfl
omit hr
def skB (l:List jz7)(a b:Int)(i:Nat):Bool:=((l.getD i qv).A==a&&(l.getD i qv).B==b)||((l.getD i qv).A==b&&(l.getD i qv).B==a)
def skV (s:azd)(a b:Int):Bool:= !czg (skB s.Xj a b) s.Xj.length
theorem Mzj (s:azd)(a b:Int)(h:s.Xj.length<4294967296):(Azw s a b).o=some (skV s a b):=by
 show(rz3 s a b).run NN=_;simp only[rz3,qk,bzd,az9,wJ,ezd];refine(fzu (λi=>sw (skB s.Xj a b i) true) s.Xj.length h (λj hj=>?_) ?_).trans ?_
 ·rw[az8 qa,aza qa,wn qa,qG,<-ez3];rfl
 ·rw[az7 qa]
 ·rw[dzd];unfold skV;cases czg (skB s.Xj a b) s.Xj.length<;>rfl
theorem Nzt (s:azd)(a b:Int)(h:s.Xj.length<4294967296):(Czw s a b).o=some (skV s a b):=by
 show(uz6 s a b).run NN=_;simp only[uz6,qk];refine(fzu (λi=>sw (skB s.Xj a b i) true) s.Xj.length h (λj hj=>?_) ?_).trans ?_
 ·rw[az8 qa,aza qa,wn qa,qG,<-ez3];unfold skB;cases (s.Xj.getD j qv).A==a<;>cases (s.Xj.getD j qv).B==b<;>cases (s.Xj.getD j qv).A==b<;>cases (s.Xj.getD j qv).B==a<;>rfl
 ·rw[az7 qa]
 ·rw[dzd];unfold skV;cases czg (skB s.Xj a b) s.Xj.length<;>rfl
section
variable (c:Nat->Nat->Bool)
def pin (L:List czf)(i:Nat):Nat->List czf
 |0=>L
 |m+1=>if c i (i+1+m)then pin L i m++[⟨(i:Int),((i+1+m:Nat):Int)⟩]else pin L i m
def pou (n:Nat):Nat->List czf
 |0=>nl
 |i+1=>pin c (pou n i) i (n- (i+1))
theorem Qzs (L:List czf)(i:Nat):∀m,(pin c L i m).length<=L.length+m
 |0=>by simp[pin]
 |m+1=>by
  have:=Qzs L i m;simp only[pin];split
  ·simp;omega
  ·omega
theorem Qzu {n:Nat}:∀i,(pou c n i).length<=i * n
 |0=>by simp[pou,nl]
 |i+1=>by
  have h1:=Qzu (n:=n) i;have h2:=Qzs c (pou c n i) i (n- (i+1));simp only[pou];rw[Nat.add_mul];omega
end
def Lz8 (s:azd)(i:Nat):Int:=(s.Xc.getD i qv).Xp
def nzu (s:azd)(i k:Nat):Bool:= !qw (carN s.Xe (Lz8 s i+1).toNat=carN s.Xe (Lz8 s k+1).toNat)&& !skV s (Lz8 s i) (Lz8 s k)
def bzy (s:azd):List czf:=if czd s=0 then pou (nzu s) s.Xc.length s.Xc.length else nl
theorem Uz5 (s:azd):(Izy s).o=some (bzy s):=by
 show(Azj s).run NN=_;simp only[Azj,qk,ezj,qL,bzy];by_cases h:czd s=0
 ·have so:=Azv h;have so2:=so.len;have so3:=so.skips;rw[bza h,qc h];refine(bzv (λi=>(pou (nzu s) s.Xc.length i,(i:Int))) (pou (nzu s) s.Xc.length s.Xc.length) s.Xc.length rfl (show s.Xc.length<4294967296 from qa) (λi hi=>?_) ?_).trans rfl
  ·rw[az8 (by simpa using hi)];simp only[qG];rw[wn qa];refine(bzv (λm=>(pin (nzu s) (pou (nzu s) s.Xc.length i) i m,((i+1+m:Nat):Int))) (pou (nzu s) s.Xc.length (i+1)) (s.Xc.length- (i+1)) rfl (show s.Xc.length- (i+1)<4294967296 from qa) (λm hm=>?_) ?_).trans rfl
   ·have hk:i+1+m<s.Xc.length:=qa
    have l1:=(vzb (so.shape i hi)).2;have l2:=(vzb (so.shape (i+1+m) hk)).2;have lp:=Qzs (nzu s) (pou (nzu s) s.Xc.length i) i m;have lo:=Qzu (nzu s) (n:=s.Xc.length) i;have li:i * s.Xc.length<=24 * 24:=qN qa qa;simp only[qG];rw[az8 qa,aza ⟨qa,qa⟩,aza ⟨qa,qa⟩,wn qa];simp only[Uz6 so.robot l1.1 l1.2 l2.1 l2.2,Nzt s _ _ (show s.Xj.length<4294967296 from qa),qL,pin]
    have e:(andC (bif (s.Xc.getD i qv).Xp !=(s.Xc.getD (i+1+m) qv).Xp then bif !qw (carN s.Xe ((s.Xc.getD i qv).Xp+1).toNat=carN s.Xe ((s.Xc.getD (i+1+m) qv).Xp+1).toNat)then
     some (.out (!skV s (s.Xc.getD i qv).Xp (s.Xc.getD (i+1+m) qv).Xp))else some (.out false)else some (.out false)):(Bool->Option (Step3 Unit (List czf) (Step3 (List czf×Int) (List czf) (Step3 (List czf×Int) (List czf) (List czf)))))->_)=λk=>k (nzu s i (i+1+m)):=by
     funext k;by_cases hl:(s.Xc.getD i qv).Xp=(s.Xc.getD (i+1+m) qv).Xp
     ·rw[bza hl,az9];have:nzu s i (i+1+m)=false:=by simp only[nzu,Lz8,hl,decide_true,qO,wK]
      rw[this]
     ·rw[bzn hl];unfold nzu Lz8;cases qw (carN s.Xe ((s.Xc.getD i qv).Xp+1).toNat=carN s.Xe ((s.Xc.getD (i+1+m) qv).Xp+1).toNat)<;>rfl
    rw[e];simp only;rw[aza ⟨by simp;omega,by simp[azc];omega⟩];cases nzu s i (i+1+m)<;>rfl
   ·rw[az7 qa];rfl
  ·rw[az7 (by simp)]
 ·rw[bzn h,qb h]
theorem Rze (s:azd):(Fzz s).o=some (bzy s):=by
 show(xza s).run NN=_;simp only[xza,qk,gz1,qL,bzy];by_cases h:czd s=0
 ·have so:=Azv h;have so2:=so.len;have so3:=so.skips;have so4:=fz6 so.robot;rw[bza h,qc h,Jzo so.robot,qL];refine(bzv (λi=>(pou (nzu s) s.Xc.length i,(i:Int))) (pou (nzu s) s.Xc.length s.Xc.length) s.Xc.length rfl (show s.Xc.length<4294967296 from qa) (λi hi=>?_) ?_).trans rfl
  ·rw[az8 (by simpa using hi),aza ⟨by simp,by simpa using hi⟩];simp only[qG];rw[wn qa];refine(bzv (λm=>(pin (nzu s) (pou (nzu s) s.Xc.length i) i m,((i+1+m:Nat):Int))) (pou (nzu s) s.Xc.length (i+1)) (s.Xc.length- (i+1)) rfl (show s.Xc.length- (i+1)<4294967296 from qa) (λm hm=>?_) ?_).trans rfl
   ·have hk:i+1+m<s.Xc.length:=qa
    have l1:=(vzb (so.shape i hi)).2;have l2:=(vzb (so.shape (i+1+m) hk)).2;have lp:=Qzs (nzu s) (pou (nzu s) s.Xc.length i) i m;have lo:=Qzu (nzu s) (n:=s.Xc.length) i;have li:i * s.Xc.length<=24 * 24:=qN qa qa;simp only[qG,cz8]
    rw[az8 qa,aza ⟨qa,qa⟩,w64 (x:=(s.Xc.getD i qv).Xp+1) qa qa,w64 (x:=(s.Xc.getD (i+1+m) qv).Xp+1) qa qa,
     aza ⟨qa,qa⟩,aza ⟨qa,qa⟩,wn qa,hzx qa,hzx qa]
    simp only[Mzj s _ _ (show s.Xj.length<4294967296 from qa),qL,pin]
    have e:(andC (bif !(caP s.Xe ((s.Xc.getD i qv).Xp+1).toNat==caP s.Xe ((s.Xc.getD (i+1+m) qv).Xp+1).toNat)then
     some (.out (!skV s (s.Xc.getD i qv).Xp (s.Xc.getD (i+1+m) qv).Xp))else some (.out false)):(Bool->Option (Step3 Unit (List czf) (Step3 (List czf×Int) (List czf) (Step3 (List czf×Int) (List czf) (List czf)))))->_)=λk=>k (nzu s i (i+1+m)):=by
     funext k;have e1:(caP s.Xe ((s.Xc.getD i qv).Xp+1).toNat==caP s.Xe ((s.Xc.getD (i+1+m) qv).Xp+1).toNat)=qw (carN s.Xe ((s.Xc.getD i qv).Xp+1).toNat=carN s.Xe ((s.Xc.getD (i+1+m) qv).Xp+1).toNat):=by
      rw[qY];unfold caP;simp only[qj,qf];omega
     rw[e1];unfold nzu Lz8;cases qw (carN s.Xe ((s.Xc.getD i qv).Xp+1).toNat=carN s.Xe ((s.Xc.getD (i+1+m) qv).Xp+1).toNat)<;>rfl
    rw[e];simp only;rw[aza ⟨by simp;omega,by simp[azc];omega⟩];cases nzu s i (i+1+m)<;>rfl
   ·rw[az7 qa];rfl
  ·rw[az7 (by simp)]
 ·rw[bzn h,qb h]
theorem u64w {x:Int}(h0:0<=x)(h1:x<18446744073709551616):IntKind.u64.wrap x=x:=by
 show(if(false&&qw (x % 18446744073709551616>=9223372036854775808))=true then x % 18446744073709551616-18446744073709551616 else x % 18446744073709551616)=x;rw[qb (by simp)];omega
theorem u8w {x:Int}(h0:0<=x)(h1:x<256):IntKind.u8.wrap x=x:=by
 show(if(false&&qw (x % 256>=128))=true then x % 256-256 else x % 256)=x;rw[qb (by simp)];omega
def IsRoot (n s:Int):Prop:=0<=s/\s * s<=n/\n<(s+1) * (s+1)
theorem IsRoot.uniq {n s t:Int}(h1:IsRoot n s)(h2:IsRoot n t):s=t:=by
 obtain⟨a0,a1,a2⟩:=h1;obtain⟨b0,b1,b2⟩:=h2;by_cases h:s<t
 ·have:(s+1) * (s+1)<=t * t:=qQ qa qa qa qa;omega
 ·by_cases h':t<s
  ·have:(t+1) * (t+1)<=s * s:=qQ qa qa qa qa;omega
  ·omega
theorem Wzg {n:Int}(h0:1<=n)(h1:n<4611686018427387904):∃s,(qzv n).o=some s/\IsRoot n s:=by
 have e0:(qzv n).o=(Dzv n).run NN:=rfl;rw[e0];simp only[Dzv,qk];rw[az7 qa]
 refine Pzy (β:=Int) (g:=λs=>some s) (P:=λs=>IsRoot n s) (λ(y:Int×Int)=>1<=y.1/\y.1<y.2/\y.2<=4294967296/\y.1 * y.1<=n/\n<y.2 * y.2) (λy=>(y.2-y.1).toNat) (λs=>IsRoot n s)
  ⟨by decide,by decide,by decide,qa,by simp only;omega⟩ (by decide) (λy hy=>?_) (λs hs=>⟨s,rfl,hs⟩)
 obtain⟨a1,a2,a3,a4,a5⟩:=hy;rw[w64 (x:=y.2-y.1) qa qa];by_cases hd:y.2-y.1>1
 ·left;rw[az8 hd,gzc qa,w64 (x:=(y.2-y.1) / 2) qa qa,w64 (x:=y.1+(y.2-y.1) / 2) qa qa,aza qa];generalize hm:y.1+(y.2-y.1) / 2=m;have m1:y.1<m/\m<y.2:=qa
  have q:=Iz9 (a:=n) (b:=m) qa;have q1:=q.1 qa;rw[gzc qa,w64 (x:=n / m) qa qa];have key:m<=n / m↔m * m<=n:=qI qa;by_cases hc:m<=n / m
  ·rw[az8 hc];exact⟨_,rfl,⟨by simp only;omega,by simp only;omega,a3,key.1 hc,a5⟩,by simp only;omega⟩
  ·rw[az7 hc];exact⟨_,rfl,⟨a1,by simp only;omega,by simp only;omega,a4,by simp only;have:=mt key.2 hc;omega⟩,by simp only;omega⟩
 ·right;rw[az7 hd];exact⟨_,rfl,qa,a4,by rw[show y.1+1=y.2 from qa];exact a5⟩
def lenT (b:Nat):Nat:=((#[0,1,2,2,3,3,3,3,4,4,4,4,4,4,4,4,5,5,5,5,5,5,5,5,5,5,5,5,5,5,5,5,6,6,6,6,6,6,6,6,6,6,6,6,6,6,6,6,6,6,6,6,6,6,6,6,6,6,6,6,6,6,6,6,7,7,7,7,7,7,7,7,7,7,7,7,7,7,7,7,7,7,7,7,7,7,7,7,7,7,7,7,7,7,7,7,7,7,7,7,7,7,7,7,7,7,7,7,7,7,7,7,7,7,7,7,7,7,7,7,7,7,7,7,7,7,7,7,8,8,8,8,8,8,8,8,8,8,8,8,8,8,8,8,8,8,8,8,8,8,8,8,8,8,8,8,8,8,8,8,8,8,8,8,8,8,8,8,8,8,8,8,8,8,8,8,8,8,8,8,8,8,8,8,8,8,8,8,8,8,8,8,8,8,8,8,8,8,8,8,8,8,8,8,8,8,8,8,8,8,8,8,8,8,8,8,8,8,8,8,8,8,8,8,8,8,8,8,8,8,8,8,8,8,8,8,8,8,8,8,8,8,8,8,8,8,8,8,8,8,8,8,8,8,8,8]:Array UInt8).getD b 0).toNat
theorem az8u:∀b,b<256->b<2 ^ lenT b/\lenT b<=8:=of_decide_eq_true (by kernel_rfl)
def lenE (y:Int×Int):Option Int:=grd (0<=IntKind.u8.wrap y.1/\IntKind.u8.wrap y.1<((256:Nat):Int)) (some (qu.wrap (y.2+qu.wrap ((lenT (IntKind.u8.wrap y.1).toNat:Nat):Int))))
theorem azb9 (n:Int):(mza n).o=
 andC (bif qw (n>=4294967296)then some (.out (n.fdiv (2 ^ min (32:Int).toNat 64),32))else some (.out (n,0)):Option (Step3 Unit (Int×Int) Int)) λy5=>
 andC (bif qw (y5.1>=65536)then some (.out (y5.1.fdiv (2 ^ min (16:Int).toNat 64),qu.wrap (y5.2+16)))else some (.out (y5.1,y5.2)):Option (Step3 Unit (Int×Int) Int)) λy6=>
 andC (bif qw (y6.1>=256)then some (.out (y6.1.fdiv (2 ^ min (8:Int).toNat 64),qu.wrap (y6.2+8)))else some (.out (y6.1,y6.2)):Option (Step3 Unit (Int×Int) Int)) λy7=>lenE y7:=by kernel_rfl
theorem Hzb {n:Int}(h0:0<=n)(h1:n<4294967296):∃L:Nat,(mza n).o=some (L:Int)/\n<2 ^ L/\L<=32:=by
 rw[azb9,az7 qa,az9];have fin:∀ (x:Int) (k:Nat),0<=x->x<256->k<=24->n<(x+1) * 2 ^ k->∃L:Nat,lenE (x,(k:Int))=some (L:Int)/\n<2 ^ L/\L<=32:=by
  intro x k x0 x1 hk hn;obtain⟨b,rfl⟩:∃b:Nat,x=(b:Int):=⟨x.toNat,qa⟩;have hb:=az8u b qa;unfold lenE;simp only;rw[u8w qa qa,aza ⟨qa,qa⟩,qG,w64 (x:=((lenT b:Nat):Int)) qa qa,w64 qa qa];refine⟨k+lenT b,by rw[Int.natCast_add],?_,qa⟩;have h2:(((b+1:Nat):Int)) * 2 ^ k<=2 ^ lenT b * 2 ^ k:=by
   refine wL ?_ (qF (czl k))
   exact_mod_cast hb.1
  rw[Nat.add_comm,qJ];have h3:((b:Int)+1)=((b+1:Nat):Int):=qa
  rw[h3]at hn;omega
 have s16:∀x:Int,x.fdiv (2 ^ min (wM 16) 64)=x / 65536:=λx=>Bz9 x 16
 have s8:∀x:Int,x.fdiv (2 ^ min (wM 8) 64)=x / 256:=λx=>Bz9 x 8
 have p24:(2:Int) ^ 24=16777216:=by decide
 have p16:(2:Int) ^ 16=65536:=by decide
 have p8:(2:Int) ^ 8=256:=by decide
 have e16:qu.wrap (0+16)=16:=by decide
 have e8:qu.wrap (0+8)=8:=by decide
 have e24:qu.wrap (16+8)=24:=by decide
 by_cases c1:n>=65536
 ·rw[az8 c1,az9,s16,e16];by_cases c2:n / 65536>=256
  ·rw[az8 c2,az9,s8,e24];exact fin _ 24 qa qa qa (by rw[p24];omega)
  ·rw[az7 c2,az9];exact fin _ 16 qa qa qa (by rw[p16];omega)
 ·rw[az7 c1,az9];by_cases c2:n>=256
  ·rw[az8 c2,az9,s8,e8];exact fin _ 8 qa qa qa (by rw[p8];omega)
  ·rw[az7 c2,az9];exact fin _ 0 qa qa qa (by simp only[Int.pow_zero];omega)
theorem Szi {n:Int}(h0:1<=n)(h1:n<4294967296):∃s,(zz2 n).o=some s/\IsRoot n s:=by
 have e0:(zz2 n).o=(zz3 n).run NN:=rfl;rw[e0];obtain⟨L,l1,l2,l3⟩:=Hzb (n:=n) qa h1;simp only[zz3,qk];rw[az7 qa,u64w (x:=n) qa qa,l1,qL,w64 (x:=(L:Int)+1) qa qa,gzc qa,w64 (x:=((L:Int)+1) / 2) qa qa,aza qa];obtain⟨W,hW⟩:∃W:Nat,((L:Int)+1) / 2=(W:Int):=⟨(L+1) / 2,qa⟩;rw[hW,qG,qH qa,wu];have hw16:W<=16:=qa
 have hpw:(2:Int) ^ W<=65536:=by
  have:(2:Int) ^ W<=2 ^ 16:=by exact_mod_cast wt (by decide:0<2) hw16
  have e:(2:Int) ^ 16=65536:=by decide
  omega
 have hp0:=czl W;rw[u64w (x:=2 ^ W) qa qa];have hn4:n<2 ^ W * 2 ^ W:=by
  rw[<-qJ];have:(2:Int) ^ L<=2 ^ (W+W):=by exact_mod_cast wt (by decide:0<2) (show L<=W+W from qa)
  omega
 refine Pzy (β:=Int) (g:=λs=>some s) (P:=λs=>IsRoot n s) (λ(y:Int×Int×Int)=>∃k:Nat,y.2.2=((W-k:Nat):Int)/\k<=W/\y.2.1=2 ^ k/\0<=y.1/\y.1<=2 ^ W-2 ^ k/\y.1 * y.1<=n/\n<(y.1+2 ^ k) * (y.1+2 ^ k))
  (λy=>((W:Int)-y.2.2).toNat) (λs=>IsRoot n s) ⟨W,by simp,wz _,rfl,by simp,by simp,by simp;omega,by simp only[Int.zero_add];exact hn4⟩ (by show _<4294967296;simp only;omega) (λy hy=>?_) (λs hs=>⟨qu.wrap s,rfl,?_⟩)
 ·obtain⟨k,b1,b2,b3,b4,b5,b6,b7⟩:=hy;rw[b1,b3];cases k with
  |zero=>
   right;rw[az7 qa];exact⟨_,rfl,b4,b6,by simpa using b7⟩
  |succ k=>
   left;have hk2:(2:Int) ^ (k+1)=2 * 2 ^ k:=by rw[wN];omega
   have hkp:=czl k;rw[az8 qa,gzc qa,show(2:Int) ^ (k+1) / 2=2 ^ k from qa,u64w (x:=2 ^ k) qa qa,u64w (x:=y.1+2 ^ k) qa qa];have hsq:(y.1+2 ^ k) * (y.1+2 ^ k)<=65536 * 65536:=qQ qa qa qa qa;have hsq0:0<=(y.1+2 ^ k) * (y.1+2 ^ k):=qP qa qa;rw[u64w (x:=(y.1+2 ^ k) * (y.1+2 ^ k)) hsq0 qa];have hi:qu.wrap (((W- (k+1):Nat):Int)+1)=((W-k:Nat):Int):=by rw[w64 qa qa];omega
   rw[hi];by_cases hc:(y.1+2 ^ k) * (y.1+2 ^ k)<=n
   ·rw[az8 hc,az9];exact⟨_,rfl,⟨k,rfl,qa,rfl,by simp only;omega,by simp only;omega,hc,by simp only;rw[show y.1+2 ^ k+2 ^ k=y.1+2 ^ (k+1) from qa];exact b7⟩,by simp only;omega⟩
   ·rw[az7 hc,az9];exact⟨_,rfl,⟨k,rfl,qa,rfl,b4,by simp only;omega,b6,by simp only;omega⟩,by simp only;omega⟩
 ·obtain⟨c1,c2,c3⟩:=hs;have:s<=n:=by
   by_cases hz:s=0
   ·omega
   ·have:s * 1<=s * s:=qK qa c1;omega
  rw[w64 qa qa];exact⟨c1,c2,c3⟩
def yzd (n:Int):Int:=(qzv n).o.getD 0
theorem Yzf {n:Int}(h0:1<=n)(h1:n<4294967296):IsRoot n (yzd n)/\(qzv n).o=some (yzd n):=by
 obtain⟨s,e,h⟩:=Wzg h0 qa;unfold yzd;rw[e];exact⟨h,rfl⟩
theorem az36 {n s:Int}(h0:1<=n)(h:IsRoot n s):s<=n:=by
 obtain⟨c1,c2,-⟩:=h;by_cases hz:s=0
 ·omega
 ·have:s * 1<=s * s:=qK qa c1;omega
def rupV (n:Int):Int:=if yzd n * yzd n<n then yzd n+1 else yzd n
theorem Nz7 {n:Int}(h0:1<=n)(h1:n<4294967296):(Cz4 n).o=some (rupV n):=by
 obtain⟨s,e,h⟩:=Szi h0 h1;obtain⟨k1,k2⟩:=Yzf h0 h1;have es:s=yzd n:=h.uniq k1;have sl:=az36 h0 k1;obtain⟨r1,r2,r3⟩:=k1;show(tz0 n).run NN=_;simp only[tz0,qk,e,qL,es,rupV];rw[w64 (x:=yzd n * yzd n) (by have:=qP r1 r1;omega) qa,w64 (x:=yzd n+1) qa qa];by_cases hc:yzd n * yzd n<n
 ·rw[az8 hc,qc hc,az9]
 ·rw[az7 hc,qb hc,az9]
theorem Rz3 {n:Int}(h0:1<=n)(h1:n<4294967296):(Fzo n).o=some (rupV n):=by
 obtain⟨k1,k2⟩:=Yzf h0 h1;have sl:=az36 h0 k1;obtain⟨r1,r2,r3⟩:=k1;show(wzy n).run NN=_;simp only[wzy,qk,k2,qL,rupV];rw[az8 qa,az9,w64 (x:=yzd n * yzd n) (by have:=qP r1 r1;omega) qa,w64 (x:=yzd n+1) qa qa];by_cases hc:yzd n * yzd n<n
 ·rw[az8 hc,qc hc,az9]
 ·rw[az7 hc,qb hc,az9]
abbrev V3:=Int×Int×Int
def bzw (n:V3):Bool:= !((n.1==0)&&((n.2.1==0)&&((n.2.2==0)&&true)))&&hzq n 16384
theorem hzp (n:V3):(fze n).o=some (bzw n):=by
 show(tzm n).run NN=_;simp only[tzm,qk,hz6 n (show(0:Int)<=16384 by decide) (by decide),qL,bzw];cases (n.1==0)&&((n.2.1==0)&&((n.2.2==0)&&true))<;>rfl
def bey2 (x:Int):Bool:=qw (x< -16384)||qw (x>16384)
theorem izw (v:V3):(fzk v).o=some (hzq v 16384):=by
 show(mzy v).run NN=_;simp only[mzy,qk,bzd,az9,ezd];refine(fzu (λi=>sw (bey2 (([v.1,v.2.1,v.2.2]:List Int).getD i 0)) false) 3 (by decide) (λj hj=>?_) ?_).trans ?_
 ·rw[az8 qa,aza qa,wn qa,qG,<-ez3];rfl
 ·rw[az7 qa]
 ·rw[dzd];have:czg (λi=>bey2 (([v.1,v.2.1,v.2.2]:List Int).getD i 0)) 3=hzq v 16384:=by
   rw[qY,noneB_iff,nearV_iff];constructor
   ·intro h;have a:=h 0 (by decide);have b:=h 1 (by decide);have c:=h 2 (by decide);simp only[bey2,wg,wh,qp,qi]at a b c;omega
   ·intro h i hi
    match i,hi with
    |0,_=>simp only[bey2,wg,qp,qi];omega
    |1,_=>simp only[bey2,wg,wh,qp,qi];omega
    |2,_=>simp only[bey2,wg,wh,qp,qi];omega
  rw[this];cases hzq v 16384<;>rfl
theorem fzx (n:V3):(fzw n).o=some (bzw n):=by
 show(pz1 n).run NN=_;simp only[pz1,qk,izw,qL,bzw];cases hzq n 16384<;>cases (n.1==0)&&((n.2.1==0)&&((n.2.2==0)&&true))<;>rfl
theorem Mzs {n:V3}(h:bzw n=true):((-16384<=n.1/\n.1<=16384)/\(-16384<=n.2.1/\n.2.1<=16384)/\(-16384<=n.2.2/\n.2.2<=16384))/\(n.1≠0\/n.2.1≠0\/n.2.2≠0):=by
 simp only[bzw,qm,nearV_iff,wc,wd,beq_eq_false_iff_ne,ne_eq,wJ]at h;refine⟨h.2,?_⟩;rcases h.1 with h|h|h
 ·exact Or.inl h
 ·exact Or.inr (Or.inl h)
 ·exact Or.inr (Or.inr h)
theorem az9s {x:Int}(h: -16384<=x/\x<=16384):0<=x * x/\x * x<=268435456/\(x≠0->1<=x * x):=by
 have h1:(x * x).natAbs<=16384 * 16384:=by rw[qM];exact qN qa qa
 have h0:0<=x * x:=by
  by_cases hx:0<=x
  ·exact qP hx hx
  ·exact Int.mul_nonneg_of_nonpos_of_nonpos qa qa
 refine⟨h0,qa,λhx=>?_⟩;have:x * x≠0:=Int.mul_ne_zero hx hx;omega
def sqV (n:V3):Int:=n.1 * n.1+n.2.1 * n.2.1+n.2.2 * n.2.2
def Wz1 (n:V3):Int:=if bzw n then rupV (sqV n)else 0
theorem az7d {n:V3}(h:bzw n=true):1<=sqV n/\sqV n<4294967296/\qu.wrap (qu.wrap (qu.wrap (n.1 * n.1)+qu.wrap (n.2.1 * n.2.1))+qu.wrap (n.2.2 * n.2.2))=sqV n:=by
 obtain⟨⟨b1,b2,b3⟩,hz⟩:=Mzs h;have s1:=az9s b1;have s2:=az9s b2;have s3:=az9s b3;unfold sqV;rw[w64 (x:=n.1 * n.1) qa qa,w64 (x:=n.2.1 * n.2.1) qa qa,w64 (x:=n.2.2 * n.2.2) qa qa,w64 (x:=n.1 * n.1+n.2.1 * n.2.1) qa qa,w64 qa qa];refine⟨?_,qa,rfl⟩;rcases hz with h|h|h
 ·have:=s1.2.2 h;omega
 ·have:=s2.2.2 h;omega
 ·have:=s3.2.2 h;omega
theorem uzl (n:V3):(uzj n).o=some (Wz1 n):=by
 show(uzk n).run NN=_;simp only[uzk,qk,T.ix,fzx,qL,Wz1];cases h:bzw n
 ·rfl
 ·have hs:=az7d h;simp only[qO,qd,if_true];rw[hs.2.2,Nz7 hs.1 hs.2.1];rfl
theorem zzx (n:V3):(sz1 n).o=some (Wz1 n):=by
 show(zzw n).run NN=_;simp only[zzw,qk,T.ix,hzp,qL,Wz1];cases h:bzw n
 ·rfl
 ·have hs:=az7d h;simp only[qO,qd,if_true];rw[hs.2.2,Rz3 hs.1 hs.2.1];rfl
def rng (x:az0):Bool:= !(qw (x.Lo< -268435456)||(qw (x.Lo>x.Hi)||qw (x.Hi>268435456)))
theorem az33 {x:az0}:rng x=true↔ -268435456<=x.Lo/\x.Lo<=x.Hi/\x.Hi<=268435456:=by
 simp only[rng,wc,qp,qi];omega
def izr (v:IV3):Bool:=rng v.1&&(rng v.2.1&&rng v.2.2)
def farL (l:List IV3)(i:Nat):Bool:= !izr (l.getD i qv)
def cz1 (l:List IV3):Bool:=qw (1<=l.length/\l.length<=8)&&czg (farL l) l.length
theorem uzz {l:List IV3}(h:cz1 l=true){i:Nat}(hi:i<l.length):izr (l.getD i qv)=true:=by
 simp only[cz1,qm]at h;have:=noneB_iff.1 h.2 i hi;simpa[farL]using this
theorem ezy {l:List IV3}(h:cz1 l=true):1<=l.length/\l.length<=8:=by
 simp only[cz1,qm,qf]at h;exact h.1
theorem zzy (v:IV3):(qzn v).o=some (izr v):=by
 show(qzo v).run NN=_;simp only[qzo,qk,T.ix,bzd,az9,ezd,izr,rng]
 cases qw (v.1.Lo< -268435456)||(qw (v.1.Lo>v.1.Hi)||qw (v.1.Hi>268435456))<;>cases qw (v.2.1.Lo< -268435456)||(qw (v.2.1.Lo>v.2.1.Hi)||qw (v.2.1.Hi>268435456))<;>
  cases qw (v.2.2.Lo< -268435456)||(qw (v.2.2.Lo>v.2.2.Hi)||qw (v.2.2.Hi>268435456))<;>rfl
theorem ezo (l:List IV3):(ez4 l).o=some (cz1 l):=by
 show(uzg l).run NN=_;simp only[uzg,qk,T.ix,bzd,az9,ezd,cz1];by_cases h:1<=l.length/\l.length<=8
 ·rw[qg h,qh (p:=(l.length:Int)<1) qa,qh (p:=(l.length:Int)>8) qa];simp only[wi,qd,qR];refine(fzu (λi=>sw (farL l i) false) l.length qa (λj hj=>?_) ?_).trans ?_
  ·rw[az8 qa,aza qa,wn qa,qG,<-ez3];unfold farL izr rng;generalize l.getD j qv=v
   cases qw (v.1.Lo< -268435456)||(qw (v.1.Lo>v.1.Hi)||qw (v.1.Hi>268435456))<;>cases qw (v.2.1.Lo< -268435456)||(qw (v.2.1.Lo>v.2.1.Hi)||qw (v.2.1.Hi>268435456))<;>
    cases qw (v.2.2.Lo< -268435456)||(qw (v.2.2.Lo>v.2.2.Hi)||qw (v.2.2.Hi>268435456))<;>rfl
  ·rw[az7 qa]
  ·rw[dzd];cases czg (farL l) l.length<;>rfl
 ·rw[qh h];by_cases h1:(l.length:Int)<1
  ·rw[qg h1];rfl
  ·rw[qh h1,qg (p:=(l.length:Int)>8) qa];rfl
theorem hzo (l:List IV3):(ezn l).o=some (cz1 l):=by
 show(tzk l).run NN=_;simp only[tzk,qk,bzd,az9,zzy,qL];refine(fzu (λi=>sw (farL l i) false) (min l.length 9) qa (λj hj=>?_) ?_).trans ?_
 ·have e:(bif qw ((j:Int)<(l.length:Int))then qw ((j:Int)<=8)else false)=true:=by rw[az8 qa,qg (p:=(j:Int)<=8) qa]
  rw[e,qe,aza qa,wn qa,qG,<-ez3];rfl
 ·have e:(bif qw (((min l.length 9:Nat):Int)<(l.length:Int))then qw (((min l.length 9:Nat):Int)<=8)else false)=false:=by
   by_cases hl:l.length<=8
   ·rw[az7 qa]
   ·by_cases h9:((min l.length 9:Nat):Int)<(l.length:Int)
    ·rw[az8 h9,qh (p:=((min l.length 9:Nat):Int)<=8) qa]
    ·rw[az7 h9]
  rw[e,qd]
 ·rw[dzd];unfold cz1;by_cases h:1<=l.length/\l.length<=8
  ·rw[qg h,qH qa,qR];cases czg (farL l) l.length
   ·rfl
   ·show(bif qw ((l.length:Int)>=1)then _ else _)=_;rw[az8 qa,qg (p:=(l.length:Int)<=8) qa]
  ·rw[qh h,wK];cases czg (farL l) (min l.length 9)
   ·rfl
   ·show(bif qw ((l.length:Int)>=1)then _ else _)=_;by_cases h1:(l.length:Int)>=1
    ·rw[az8 h1,qh (p:=(l.length:Int)<=8) qa]
    ·rw[az7 h1]
def dLo (n:V3)(v:IV3):Int:=min (n.1 * v.1.Lo) (n.1 * v.1.Hi)+min (n.2.1 * v.2.1.Lo) (n.2.1 * v.2.1.Hi)+min (n.2.2 * v.2.2.Lo) (n.2.2 * v.2.2.Hi)
def dHi (n:V3)(v:IV3):Int:=max (n.1 * v.1.Lo) (n.1 * v.1.Hi)+max (n.2.1 * v.2.1.Lo) (n.2.1 * v.2.1.Hi)+max (n.2.2 * v.2.2.Lo) (n.2.2 * v.2.2.Hi)
theorem Qzk {a b:Int}(ha: -16384<=a/\a<=16384)(hb: -268435456<=b/\b<=268435456): -4398046511104<=a * b/\a * b<=4398046511104:=by
 have h:(a * b).natAbs<=16384 * 268435456:=by rw[qM];exact qN qa qa
 omega
theorem az6w {n:V3}{v:IV3}(hn:bzw n=true)(hv:izr v=true):
 qu.wrap (qu.wrap (qu.wrap (0+min (qu.wrap (n.1 * v.1.Lo)) (qu.wrap (n.1 * v.1.Hi)))+min (qu.wrap (n.2.1 * v.2.1.Lo)) (qu.wrap (n.2.1 * v.2.1.Hi)))+min (qu.wrap (n.2.2 * v.2.2.Lo)) (qu.wrap (n.2.2 * v.2.2.Hi)))=dLo n v/\
 qu.wrap (qu.wrap (qu.wrap (0+max (qu.wrap (n.1 * v.1.Lo)) (qu.wrap (n.1 * v.1.Hi)))+max (qu.wrap (n.2.1 * v.2.1.Lo)) (qu.wrap (n.2.1 * v.2.1.Hi)))+max (qu.wrap (n.2.2 * v.2.2.Lo)) (qu.wrap (n.2.2 * v.2.2.Hi)))=dHi n v/\
 (-13194139533312<=dLo n v/\dLo n v<=13194139533312)/\(-13194139533312<=dHi n v/\dHi n v<=13194139533312):=by
 obtain⟨⟨b1,b2,b3⟩,-⟩:=Mzs hn;simp only[izr,qm,az33]at hv;obtain⟨v1,v2,v3⟩:=hv;have p1:=Qzk b1 (show -268435456<=v.1.Lo/\v.1.Lo<=268435456 from qa);have p2:=Qzk b1 (show -268435456<=v.1.Hi/\v.1.Hi<=268435456 from qa);have p3:=Qzk b2 (show -268435456<=v.2.1.Lo/\v.2.1.Lo<=268435456 from qa);have p4:=Qzk b2 (show -268435456<=v.2.1.Hi/\v.2.1.Hi<=268435456 from qa);have p5:=Qzk b3 (show -268435456<=v.2.2.Lo/\v.2.2.Lo<=268435456 from qa);have p6:=Qzk b3 (show -268435456<=v.2.2.Hi/\v.2.2.Hi<=268435456 from qa);unfold dLo dHi;generalize n.1 * v.1.Lo=x1 at *
 generalize n.1 * v.1.Hi=x2 at *
 generalize n.2.1 * v.2.1.Lo=x3 at *
 generalize n.2.1 * v.2.1.Hi=x4 at *
 generalize n.2.2 * v.2.2.Lo=x5 at *
 generalize n.2.2 * v.2.2.Hi=x6 at *
 rw[w64 (x:=x1) qa qa,w64 (x:=x2) qa qa,w64 (x:=x3) qa qa,w64 (x:=x4) qa qa,w64 (x:=x5) qa qa,w64 (x:=x6) qa qa];rw[w64 (x:=0+min x1 x2) qa qa,w64 (x:=0+max x1 x2) qa qa,w64 (x:=0+min x1 x2+min x3 x4) qa qa,w64 (x:=0+max x1 x2+max x3 x4) qa qa,w64 qa qa,w64 qa qa];refine⟨qa,qa,⟨qa,qa⟩,⟨qa,qa⟩⟩
theorem Gzf {n:V3}{v:IV3}(hn:bzw n=true)(hv:izr v=true):(xzj n v).o=some (dLo n v,dHi n v):=by
 have h:=az6w hn hv;show(xzk n v).run NN=_;simp only[xzk,qk,T.ix,h.1,h.2.1]
theorem Lzz {n:V3}{v:IV3}(hn:bzw n=true)(hv:izr v=true):(Dzp n v).o=some (dLo n v,dHi n v):=by
 have h:=az6w hn hv;show(Dzq n v).run NN=_;simp only[Dzq,qk,T.ix,hzp,zzy,hn,hv,qL,qO,qd,az9,h.1,h.2.1]
def bst (c:Int->Int->Bool)(f:Nat->Int):Nat->Int×Int
 |0=>(0,0)
 |j+1=>if qw (j=0)||c (f j) (bst c f j).1 then(f j,(j:Int))else bst c f j
def ltB (a b:Int):Bool:=qw (a<b)
def gtB (a b:Int):Bool:=qw (a>b)
def Ezr (n:V3)(l:List IV3):Int×Int:=bst ltB (λi=>dLo n (l.getD i qv)) l.length
def Ezm (n:V3)(l:List IV3):Int×Int:=bst gtB (λi=>dHi n (l.getD i qv)) l.length
section
variable {n:V3} {l:List IV3} (hn:bzw n=true) (hl:cz1 l=true)
include hn hl
theorem Jzb:(xzs n.1 n.2.1 n.2.2 l).o=some ((Ezr n l).1,(Ezr n l).2,n.1,n.2.1,n.2.2):=by
 have hlen:=ezy hl;show(ozd n.1 n.2.1 n.2.2 l).run NN=_;simp only[ozd,qk];refine(bzv (λj=>(n.1,n.2.1,n.2.2,(bst ltB (λi=>dLo n (l.getD i qv)) j).1,(bst ltB (λi=>dLo n (l.getD i qv)) j).2,(j:Int))) (n.1,n.2.1,n.2.2,(Ezr n l).1,(Ezr n l).2) l.length rfl (show l.length<4294967296 from qa) (λj hj=>?_) ?_).trans rfl
 ·rw[az8 (by simpa using hj),aza ⟨by simp,by simpa using hj⟩];have e1:(pz7 (l.getD j qv) n.1 n.2.1 n.2.2).o=some (dLo n (l.getD j qv),n.1,n.2.1,n.2.2):=by
   show(jz6 (l.getD j qv) n.1 n.2.1 n.2.2).run NN=_;simp only[jz6,qk,Gzf (n:=(n.1,n.2.1,n.2.2)) hn (uzz hl hj),qL]
  have e2:∀a b,(pz8 a b).o=some (ltB a b):=λa b=>rfl
  simp only[qG,e1,e2,qL];rw[wn qa];simp only[bzd,az9,bst];have e:((j:Int)==0)=qw (j=0):=by rw[qY];simp
  rw[e,ezd];cases qw (j=0)||ltB (dLo n (l.getD j qv)) (bst ltB (λi=>dLo n (l.getD i qv)) j).1<;>rfl
 ·rw[az7 (by simp)];rfl
theorem Ezf:(rzl n.1 n.2.1 n.2.2 l).o=some ((Ezm n l).1,(Ezm n l).2,n.1,n.2.1,n.2.2):=by
 have hlen:=ezy hl;show(kzf n.1 n.2.1 n.2.2 l).run NN=_;simp only[kzf,qk];refine(bzv (λj=>(n.1,n.2.1,n.2.2,(bst gtB (λi=>dHi n (l.getD i qv)) j).1,(bst gtB (λi=>dHi n (l.getD i qv)) j).2,(j:Int))) (n.1,n.2.1,n.2.2,(Ezm n l).1,(Ezm n l).2) l.length rfl (show l.length<4294967296 from qa) (λj hj=>?_) ?_).trans rfl
 ·rw[az8 (by simpa using hj),aza ⟨by simp,by simpa using hj⟩];have e1:(szh (l.getD j qv) n.1 n.2.1 n.2.2).o=some (dHi n (l.getD j qv),n.1,n.2.1,n.2.2):=by
   show(lzu (l.getD j qv) n.1 n.2.1 n.2.2).run NN=_;simp only[lzu,qk,Gzf (n:=(n.1,n.2.1,n.2.2)) hn (uzz hl hj),qL]
  have e2:∀a b,(szi a b).o=some (gtB a b):=λa b=>rfl
  simp only[qG,e1,e2,qL];rw[wn qa];simp only[bzd,az9,bst];have e:((j:Int)==0)=qw (j=0):=by rw[qY];simp
  rw[e,ezd];cases qw (j=0)||gtB (dHi n (l.getD j qv)) (bst gtB (λi=>dHi n (l.getD i qv)) j).1<;>rfl
 ·rw[az7 (by simp)];rfl
end
def Ozd (n:V3)(l:List IV3):Int×Int×Bool:=bif bzw n&&cz1 l then((Ezr n l).1,(Ezr n l).2,true)else(0,0,false)
def Oz8 (n:V3)(l:List IV3):Int×Int×Bool:=bif bzw n&&cz1 l then((Ezm n l).1,(Ezm n l).2,true)else(0,0,false)
theorem Mzp (n:V3)(l:List IV3):(Bz3 n l).o=some (Ozd n l):=by
 show(rzc n l).run NN=_;have e1:(szg (n.1,n.2.1,n.2.2)).o=some (n.1,n.2.1,n.2.2):=rfl;simp only[rzc,qk,fzx,ezo,qL,Ozd,e1];cases hn:bzw n
 ·rfl
 ·cases hl:cz1 l
  ·rfl
  ·simp only[qO,qd,az9,Jzb hn hl,qL,qS,qe]
theorem Gze (n:V3)(l:List IV3):(sze n l).o=some (Oz8 n l):=by
 show(lzt n l).run NN=_;have e1:(yza (n.1,n.2.1,n.2.2)).o=some (n.1,n.2.1,n.2.2):=rfl;simp only[lzt,qk,fzx,ezo,qL,Oz8,e1];cases hn:bzw n
 ·rfl
 ·cases hl:cz1 l
  ·rfl
  ·simp only[qO,qd,az9,Ezf hn hl,qL,qS,qe]
theorem Qzx (n:V3)(l:List IV3):(Fzc n l).o=some (Ozd n l):=by
 show(wzg n l).run NN=_;simp only[wzg,qk,hzp,hzo,qL,Ozd];cases hn:bzw n
 ·rfl
 ·cases hl:cz1 l
  ·rfl
  ·have hlen:=ezy hl;simp only[qO,qd,az9,qS,qe];refine(bzv (λj=>((bst ltB (λi=>dLo n (l.getD i qv)) j).1,(bst ltB (λi=>dLo n (l.getD i qv)) j).2,(j:Int))) ((Ezr n l).1,(Ezr n l).2) l.length rfl (show l.length<4294967296 from qa) (λj hj=>?_) ?_).trans rfl
   ·rw[az8 (by simpa using hj),aza ⟨by simp,by simpa using hj⟩];simp only[qG,Lzz hn (uzz hl hj),qL];rw[wn qa];simp only[bzd,az9,bst];have e:((j:Int)==0)=qw (j=0):=by rw[qY];simp
    rw[e,ezd];have hc:∀a b:Int,qw (a<b)=ltB a b:=λ_ _=>rfl
    rw[hc];cases qw (j=0)||ltB (dLo n (l.getD j qv)) (bst ltB (λi=>dLo n (l.getD i qv)) j).1<;>rfl
   ·rw[az7 (by simp)];rfl
theorem Jzk (n:V3)(l:List IV3):(yz2 n l).o=some (Oz8 n l):=by
 show(ozq n l).run NN=_;simp only[ozq,qk,hzp,hzo,qL,Oz8];cases hn:bzw n
 ·rfl
 ·cases hl:cz1 l
  ·rfl
  ·have hlen:=ezy hl;simp only[qO,qd,az9,qS,qe];refine(bzv (λj=>((bst gtB (λi=>dHi n (l.getD i qv)) j).1,(bst gtB (λi=>dHi n (l.getD i qv)) j).2,(j:Int))) ((Ezm n l).1,(Ezm n l).2) l.length rfl (show l.length<4294967296 from qa) (λj hj=>?_) ?_).trans rfl
   ·rw[az8 (by simpa using hj),aza ⟨by simp,by simpa using hj⟩];simp only[qG,Lzz hn (uzz hl hj),qL];rw[wn qa];simp only[bzd,az9,bst];have e:((j:Int)==0)=qw (j=0):=by rw[qY];simp
    rw[e,ezd];have hc:∀a b:Int,qw (a>b)=gtB a b:=λ_ _=>rfl
    rw[hc];cases qw (j=0)||gtB (dHi n (l.getD j qv)) (bst gtB (λi=>dHi n (l.getD i qv)) j).1<;>rfl
   ·rw[az7 (by simp)];rfl
def radV (r:Int):Bool:=qw (0<=r)&&qw (r<=1048576)
def Lzd (n:V3)(a:List IV3)(ra:Int)(b:List IV3)(rb:Int):Int:=
 qu.wrap (qu.wrap ((Ezr n a).1- (Ezm n b).1)-qu.wrap (Wz1 n * qu.wrap (ra+rb)))
def Wzv (n:V3)(a:List IV3)(ra:Int)(b:List IV3)(rb:Int):Bool:=bzw n&&(cz1 a&&(cz1 b&&(radV ra&&radV rb)))
def sepV (n:V3)(a:List IV3)(ra:Int)(b:List IV3)(rb:Int):Bool:=Wzv n a ra b rb&&qw (Lzd n a ra b rb>0)
theorem jzn (r:Int):(fzg r).o=some (radV r):=by
 show(jzm r).run NN=_;simp only[jzm,qk,ez7,pz3,radV,ge_iff_le]
theorem Nzk (n:V3)(a:List IV3)(ra:Int)(b:List IV3)(rb:Int):(Czo n a ra b rb).o=some (bif Wzv n a ra b rb then(Lzd n a ra b rb,true)else(0,false)):=by
 show(tzo n a ra b rb).run NN=_;simp only[tzo,qk,Qzx,Jzk,jzn,zzx,qL,Ozd,Oz8,Wzv,Lzd];cases bzw n<;>cases cz1 a<;>cases cz1 b<;>cases radV ra<;>cases radV rb<;>rfl
theorem vz3 (n:V3)(a:List IV3)(ra:Int)(b:List IV3)(rb:Int):(mzh n a ra b rb).o=some (sepV n a ra b rb):=by
 show(mzi n a ra b rb).run NN=_;simp only[mzi,qk,Nzk,qL,sepV];cases Wzv n a ra b rb<;>rfl
theorem Uzo (x:fzy):(Bz0 x).o=some (cz1 x.points&&radV x.radius):=by
 show(Bz1 x).run NN=_;simp only[Bz1,qk,ezo,qL,radV];cases cz1 x.points<;>cases qw (0<=x.radius)<;>rfl
theorem vz0 (n:V3)(a:List IV3)(ra:Int)(b:List IV3)(rb:Int):(mzd n a ra b rb).o=some (sepV n a ra b rb):=by
 have e1:(Izn a ra b rb).o=some ⟨⟨a,ra⟩,⟨b,rb⟩⟩:=rfl;have e2:(Dz3 ⟨⟨a,ra⟩,⟨b,rb⟩⟩ n).o=some (bif Wzv n a ra b rb then(Lzd n a ra b rb,true)else(0,false)):=by
  show(uzh ⟨⟨a,ra⟩,⟨b,rb⟩⟩ n).run NN=_;simp only[uzh,qk,Uzo,Mzp,Gze,uzl,qL,Ozd,Oz8,Wzv,Lzd];cases bzw n<;>cases cz1 a<;>cases cz1 b<;>cases radV ra<;>cases radV rb<;>rfl
 have e3:(vzc ⟨⟨a,ra⟩,⟨b,rb⟩⟩ n).o=some (sepV n a ra b rb):=by
  show(mzw ⟨⟨a,ra⟩,⟨b,rb⟩⟩ n).run NN=_;simp only[mzw,qk,e2,qL,sepV];cases Wzv n a ra b rb<;>rfl
 show(mze n a ra b rb).run NN=_;simp only[mze,qk,e1,e3,qL]
theorem Wz8 {c:Nat->Nat->Bool}{L:List czf}{i:Nat}{x:czf}:∀ {m:Nat},x∈pin c L i m->x∈L\/∃k,k<m/\x=⟨(i:Int),((i+1+k:Nat):Int)⟩
 |0,h=>Or.inl h
 |m+1,h=>by
  simp only[pin]at h;split at h
  ·rcases List.mem_append.1 h with h|h
   ·rcases Wz8 h with h|⟨k,h1,h2⟩
    ·exact Or.inl h
    ·exact Or.inr ⟨k,qa,h2⟩
   ·exact Or.inr ⟨m,qa,wO.1 h⟩
  ·rcases Wz8 h with h|⟨k,h1,h2⟩
   ·exact Or.inl h
   ·exact Or.inr ⟨k,qa,h2⟩
theorem az2o {c:Nat->Nat->Bool}{n:Nat}{x:czf}:∀ {i:Nat},i<=n->x∈pou c n i->0<=x.A/\x.A<(n:Int)/\0<=x.B/\x.B<(n:Int)
 |0,_,h=>by simp[pou,nl]at h
 |i+1,hi,h=>by
  simp only[pou]at h;rcases Wz8 h with h|⟨k,h1,h2⟩
  ·exact az2o qa h
  ·subst h2;simp only;omega
theorem bz3 {α:Type}[Inhabited α]{l:List α}{i:Nat}(h:i<l.length):l.getD i qv∈l:=by
 rw[wm,wE h,wF];exact wG h
theorem Qzq {s:azd}(h:czd s=0){k:Nat}(hk:k<(bzy s).length):(0<=((bzy s).getD k qv).A/\((bzy s).getD k qv).A<(s.Xc.length:Int))/\(0<=((bzy s).getD k qv).B/\((bzy s).getD k qv).B<(s.Xc.length:Int)):=by
 have hm:=bz3 hk;generalize (bzy s).getD k qv=x at hm⊢;unfold bzy at hm;rw[qc h]at hm;have:=az2o (wz _) hm;omega
theorem qzj (s:azd):(bzy s).length<=576:=by
 unfold bzy;split
 ·rename_i h;have h1:=(Azv h).len;have h2:=Qzu (nzu s) (n:=s.Xc.length) s.Xc.length;have h3:s.Xc.length * s.Xc.length<=24 * 24:=qN h1 h1;omega
 ·simp[nl]
def pA (s:azd)(k:Nat):Nat:=((bzy s).getD k qv).A.toNat
def pB (s:azd)(k:Nat):Nat:=((bzy s).getD k qv).B.toNat
def hzc (s:azd)(i:Nat):Int:=(s.Xc.getD i qv).Xs
def sepK (s:azd)(b:List az0)(ns:List V3)(k:Nat):Bool:= !sepV (ns.getD k qv) (bzo s b (pA s k)) (hzc s (pA s k)) (bzo s b (pB s k)) (hzc s (pB s k))
def oze (s:azd)(b:List az0)(ns:List V3):Bool:=
 qw (czd s=0)&&(boxV s.Xe b&&(qw (ns.length=(bzy s).length)&&czg (sepK s b ns) (bzy s).length))
theorem Dzl {s:azd}{b:List az0}(h:czd s=0)(hb:boxV s.Xe b=true):mzf s b=tab (bzo s b) s.Xc.length:=by unfold mzf;rw[qc ⟨h,hb⟩]
theorem xzp (s:azd)(b:List az0)(hbl:b.length<4294967296):(oz9 s b).o=some (if czd s=0/\boxV s.Xe b=true then(⟨s.Xc,bzy s,mzf s b⟩,true)else(⟨nl,nl,nl⟩,false)):=by
 show(oza s b).run NN=_;simp only[oza,qk,gz1,qL];by_cases h:czd s=0
 ·rw[bza h,az9];by_cases hl:b.length=s.Xe.Xa.length
  ·rw[bza qa];refine(fzu (λi=>sw (notV b i) ((⟨nl,nl,nl⟩:czk),false)) b.length hbl (λj hj=>?_) ?_).trans ?_
   ·rw[az8 qa,aza qa,wn qa,qG,<-ez3];simp only[dz4,qL];rfl
   ·rw[az7 qa]
   ·rw[dzd];have:boxV s.Xe b=czg (notV b) b.length:=by unfold boxV;rw[qg hl,qR]
    rw[this];cases czg (notV b) b.length
    ·rw[qb (λh=>by cases h.2)];rfl
    ·rw[qc ⟨h,rfl⟩];simp only[sw,qO,qd,Rze,Dzh s b hbl,qL]
  ·rw[bzn qa,qb];rintro⟨-,hb⟩;simp only[boxV,qm,qf]at hb;exact hl hb.1
 ·rw[bzn h,az9,qb (λh'=>h h'.1)];rfl
theorem pz4 (s:azd)(b:List az0)(ns:List V3)(hbl:b.length<4294967296):(izz s b ns).o=some (oze s b ns):=by
 have hpl:=qzj s;have ep:=xzp s b hbl;show(jz0 s b ns).run NN=_;have e2:(xzo s b ⟨ns⟩).o=some (oze s b ns):=by
  show(oz8 s b ⟨ns⟩).run NN=_;simp only[oz8,qk,ep,qL];by_cases h:czd s=0/\boxV s.Xe b=true
  ·rw[qc h];simp only[qe];have e3:(szd ⟨ns⟩ ⟨s.Xc,bzy s,mzf s b⟩).o=some (qw (ns.length=(bzy s).length)&&czg (sepK s b ns) (bzy s).length):=by
    show(lzq ⟨ns⟩ ⟨s.Xc,bzy s,mzf s b⟩).run NN=_;simp only[lzq,qk];by_cases hl:ns.length=(bzy s).length
    ·rw[bza qa,qg hl,qR];refine(fzu (λi=>sw (sepK s b ns i) false) ns.length qa (λj hj=>?_) ?_).trans ?_
     ·have hp:=Qzq h.1 (show j<(bzy s).length from qa);have ec:(pzb ⟨s.Xc,bzy s,mzf s b⟩ (j:Int)).o=some ⟨bzo s b (pA s j),bzo s b (pB s j),hzc s (pA s j),hzc s (pB s j)⟩:=by
       show(kzc ⟨s.Xc,bzy s,mzf s b⟩ (j:Int)).run NN=_;simp only[kzc,qk,qG,Dzl h.1 h.2,cz8];rw[aza ⟨qa,qa⟩,aza hp.1,aza hp.1,aza hp.2,aza hp.2,hzx qa,hzx qa];rfl
      rw[az8 qa,aza qa,wn qa,qG,<-ez3];simp only[ec,vz0,qL];rfl
     ·rw[az7 qa]
     ·rw[dzd,hl];cases czg (sepK s b ns) (bzy s).length<;>rfl
    ·rw[bzn qa,qh hl];rfl
   simp only[e3,qL,oze,h.2,qg h.1,qR]
  ·rw[qb h];have:oze s b ns=false:=by
    unfold oze;by_cases h1:czd s=0
    ·have h2:boxV s.Xe b=false:=by cases hb:boxV s.Xe b with
      |false=>rfl
      |true=>exact absurd ⟨h1,hb⟩ h
     rw[h2,wK,wP]
    ·rw[qh h1,wK]
   rw[this];rfl
 simp only[jz0,qk,e2,qL]
def az3e (s:azd)(b:List az0)(k:Nat):bz5:=⟨bzo s b (pA s k),hzc s (pA s k)⟩
def az3f (s:azd)(b:List az0)(k:Nat):bz5:=⟨bzo s b (pB s k),hzc s (pB s k)⟩
theorem Fzh (s:azd)(b:List az0)(hbl:b.length<4294967296):(wzp s b).o=some (if czd s=0/\boxV s.Xe b=true then(tab (az3e s b) (bzy s).length,tab (az3f s b) (bzy s).length,true)else(nl,nl,false)):=by
 have hpl:=qzj s;show(wzq s b).run NN=_;simp only[wzq,qk,ezj,wze _ b hbl,qL];by_cases h:czd s=0
 ·rw[bza h,az9];cases hb:boxV s.Xe b
  ·rw[qb (λh=>by cases h.2)];rfl
  ·rw[qc ⟨h,rfl⟩];simp only[qO,qd,Nzi s b hbl,Uz5,qL,Dzl h hb];refine(bzv (λj=>(tab (az3e s b) j,tab (az3f s b) j,(j:Int))) (tab (az3e s b) (bzy s).length,tab (az3f s b) (bzy s).length) (bzy s).length rfl (show(bzy s).length<4294967296 from qa) (λj hj=>?_) ?_).trans rfl
   ·have hp:=Qzq h hj;rw[az8 (by simpa using hj),aza ⟨by simp,by simpa using hj⟩,aza ⟨by simp,by simpa using hj⟩];simp only[qG,cz8];rw[aza hp.1,aza hp.1,aza ⟨by simp;omega,by simp[azc];omega⟩,aza hp.2,aza hp.2,aza ⟨by simp;omega,by simp[azc];omega⟩,wn qa,hzx qa,hzx qa,izx,izx];rfl
   ·rw[az7 (by simp)]
 ·rw[bzn h,az9,qb (λh'=>h h'.1)];rfl
theorem vz2 (s:azd)(b:List az0)(ns:List V3)(hbl:b.length<4294967296):(izs s b ns).o=some (oze s b ns):=by
 have hpl:=qzj s;show(mzg s b ns).run NN=_;simp only[mzg,qk,Fzh s b hbl,qL];by_cases h:czd s=0/\boxV s.Xe b=true
 ·rw[qc h];simp only[qO,qd,az9,cz8,oze,h.2,qg h.1,qR];by_cases hl:ns.length=(bzy s).length
  ·rw[bza qa,qg hl,qR];refine(fzu (λi=>sw (sepK s b ns i) false) (bzy s).length qa (λj hj=>?_) ?_).trans ?_
   ·rw[az8 qa,aza qa,aza qa,aza qa,aza qa,aza qa,wn qa,qG,<-ez3,hzx hj,hzx hj];simp only[vz3,qL];rfl
   ·rw[az7 qa]
   ·rw[dzd];cases czg (sepK s b ns) (bzy s).length<;>rfl
  ·rw[bzn qa,qh hl];rfl
 ·rw[qb h];have:oze s b ns=false:=by
   unfold oze;by_cases h1:czd s=0
   ·have h2:boxV s.Xe b=false:=by cases hb:boxV s.Xe b with
     |false=>rfl
     |true=>exact absurd ⟨h1,hb⟩ h
    rw[h2,wK,wP]
   ·rw[qh h1,wK]
  rw[this];rfl
def begV (x:az6):Option (Int×Int):=if(0<=x.Xg/\x.Xg<=20)/\0<=x.Xh/\x.Xh<2 ^ x.Xg.toNat then some (x.Xh * 2 ^ (20-x.Xg.toNat),2 ^ (20-x.Xg.toNat))else none
theorem Pz4 {x:az6}{f n:Int}(h:begV x=some (f,n)):0<=f/\f<1048576/\0<n/\n<=1048576:=by
 unfold begV at h;split at h
 ·rename_i hc;simp only[Option.some.injEq,Prod.mk.injEq]at h;obtain⟨rfl,rfl⟩:=h;have p1:=czl (20-x.Xg.toNat);have p2:=az2p (show 20-x.Xg.toNat<=20 from qa);refine⟨qP hc.2.1 qa,?_,p1,p2⟩;have h1:(x.Xh+1) * 2 ^ (20-x.Xg.toNat)<=2 ^ x.Xg.toNat * 2 ^ (20-x.Xg.toNat):=wL qa qa;rw[<-qJ,show x.Xg.toNat+(20-x.Xg.toNat)=20 from qa,Int.add_mul,wu]at h1;have e:(2:Int) ^ 20=1048576:=by decide
  omega
 ·cases h
theorem Fzk (x:az6):(wzs x).o=some (match begV x with|some (f,n)=>(f,n,true)|none=>(0,0,false)):=by
 show(wzt x).run NN=_;simp only[wzt,qk];by_cases h1:x.Xg<0
 ·have:begV x=none:=by unfold begV;rw[qb qa]
  rw[az8 h1,az9,this];rfl
 ·rw[az7 h1];by_cases h2:x.Xg>20
  ·have:begV x=none:=by unfold begV;rw[qb qa]
   rw[az8 h2,az9,this];rfl
  ·rw[az7 h2];by_cases h3:x.Xh<0
   ·have:begV x=none:=by unfold begV;rw[qb qa]
    rw[az8 h3,az9,this];rfl
   ·rw[az7 h3,az3s qa qa,aza qa,az9,qH qa,w2k qa];by_cases h4:x.Xh>=2 ^ x.Xg.toNat
    ·have:begV x=none:=by unfold begV;rw[qb qa]
     rw[az8 h4,this]
    ·have hb:begV x=some (x.Xh * 2 ^ (20-x.Xg.toNat),2 ^ (20-x.Xg.toNat)):=by unfold begV;rw[qc ⟨⟨qa,qa⟩,qa,qa⟩]
     have hr:=Pz4 hb;rw[az7 h4,hb,w64 (x:=20-x.Xg) qa qa,az3s qa qa,aza qa,qH qa,show(20-x.Xg).toNat=20-x.Xg.toNat from qa,w2k qa,w64 qa qa]
def plc (l:List az6):Nat->Int
 |0=>0
 |j+1=>match begV (l.getD j qv)with
  |some (f,n)=>f+n
  |none=>0
def badT (l:List az6)(j:Nat):Bool:=match begV (l.getD j qv)with
 |some (f,_)=>f !=plc l j
 |none=>true
theorem azbp (l:List az6):∀j,0<=plc l j/\plc l j<=2097152
 |0=>by simp[plc]
 |j+1=>by
  simp only[plc];split
  ·rename_i f n h;have:=Pz4 h;omega
  ·omega
theorem Ozc {σ τ R:Type}{f:σ->Option (Step3 σ τ R)}(st:Nat->σ)(g:Nat->Option R)(r:R):
 ∀ (n i N:Nat),n<N->(∀j,i<=j->j<i+n->f (st j)=match g j with|some r=>some (.fin r)|none=>some (.next (st (j+1))))->f (st (i+n))=some (.fin r)->
   iter f N (st i)=some (.inr (match scan g n i with|some r'=>r'|none=>r))
 |0,i,0,h,_,_=>qa
 |0,i,N+1,_,_,h=>by simp only[qD]at h;simp[iter,h,scan]
 |n+1,i,0,h,_,_=>qa
 |n+1,i,N+1,h0,hs,he=>by
  have h1:=hs i qa qa;simp only[scan];cases hg:g i with
  |some r=>rw[hg]at h1;simp[iter,h1]
  |none=>
   rw[hg]at h1;simp only[iter,h1];exact Ozc st g r n (i+1) N qa (λj a b=>hs j qa qa) (by rw[<-he];congr 2;omega)
theorem Ozg {σ τ R:Type}{f:σ->Option (Step3 σ τ R)}{k:τ->Option R}{x:σ}(st:Nat->σ)(g:Nat->Option R)(r:R)(n:Nat)(hx:x=st 0)(hn:n<NN)
 (hs:∀j,j<n->f (st j)=match g j with|some r=>some (.fin r)|none=>some (.next (st (j+1)))) (he:f (st n)=some (.fin r)):
 andK (iter f NN x) k=some (match scan g n 0 with|some r'=>r'|none=>r):=by
 rw[hx,Ozc st g r n 0 NN hn (λj _ h=>hs j qa) (by rw[qE];exact he)];rfl
def rzk (l:List az6):Int×Bool:=
 if l.length<=4096 then(match scan (λj=>sw (badT l j) ((j:Int),false)) l.length 0 with|some r=>r|none=>((l.length:Int),plc l l.length==1048576))
 else(match scan (λj=>sw (badT l j) ((j:Int),false)) 4096 0 with|some r=>r|none=>(4096,false))
theorem Oz5 (l:List az6){j:Nat}(hj:j<4096){σ τ:Type}{R:Type}(r:R)(x:Int->σ):
 (qT (wzs (l.getD j qv)).o λy=>andC (bif !y.2.2 then some (.out true)else bif y.1 !=plc l j then some (.out true)else some (.out (qw ((j:Int)>=4096))):Option (Step3 Unit Bool (Step3 σ τ R))) λz=>bif z then some (.fin r)else some (.next (x (qu.wrap (y.1+y.2.1)))))=
  match sw (badT l j) r with|some r=>some (.fin r)|none=>some (.next (x (plc l (j+1)))):=by
 rw[Fzk,qL];unfold badT;cases hb:begV (l.getD j qv)with
 |none=>rfl
 |some p=>
  obtain⟨f,n⟩:=p;have hr:=Pz4 hb;simp only[qO,qd];by_cases h:f=plc l j
  ·rw[bza h,az9,qh qa];have e1:(f !=plc l j)=false:=by simpa using h
   have e2:plc l (j+1)=f+n:=by simp only[plc,hb]
   rw[e1,e2,w64 qa qa];rfl
  ·have e1:(f !=plc l j)=true:=by simpa using h
   rw[bzn h,az9,e1];rfl
theorem Rz2 (l:List az6):(Fzl l).o=some (rzk l):=by
 show(wzu l).run NN=_;simp only[wzu,qk,rzk];by_cases h:l.length<=4096
 ·rw[qc h];refine(jzc (λj=>(plc l j,(j:Int))) (λj=>sw (badT l j) ((j:Int),false)) (plc l l.length) l.length rfl (show l.length<4294967296 from qa) (λj hj=>?_) ?_).trans ?_
  ·rw[az8 (by simpa using hj),aza ⟨by simp,by simpa using hj⟩];simp only[qG];rw[wn qa];exact Oz5 l qa ((j:Int),false) (λz=>(z,((j+1:Nat):Int)))
  ·rw[az7 (by simp)]
  ·cases scan (λj=>sw (badT l j) ((j:Int),false)) l.length 0<;>rfl
 ·rw[qb h];refine(Ozg (λj=>(plc l j,(j:Int))) (λj=>sw (badT l j) ((j:Int),false)) (4096,false) 4096 rfl (show 4096<4294967296 from qa) (λj hj=>?_) ?_).trans ?_
  ·rw[az8 (by simp;omega),aza ⟨by simp,by simp;omega⟩];simp only[qG];rw[wn qa];exact Oz5 l qa ((j:Int),false) (λz=>(z,((j+1:Nat):Int)))
  ·rw[az8 (by simp;omega),aza ⟨by simp,by simp;omega⟩,Fzk,qL];cases (match begV (l.getD (wM ((4096:Nat):Int)) qv)with|some (f,n)=>(f,n,true)|none=>(0,0,false)).2.2
   ·rfl
   ·simp only[qO,qd];cases ((match begV (l.getD (wM ((4096:Nat):Int)) qv)with|some (f,n)=>(f,n,true)|none=>(0,0,false)).1 !=plc l 4096)<;>rfl
  ·cases scan (λj=>sw (badT l j) ((j:Int),false)) 4096 0<;>rfl
theorem Uzr (l:List az6){j:Nat}(hj:j<4096){σ τ R:Type}(r:R)(x:Int->σ):∀y:az6,y=l.getD j qv->
 (andC (bif ((j:Int)==4096)then some (.out true)else bif qw (y.Xg<0)then some (.out true)else some (.out (qw (y.Xg>20))):Option (Step3 Unit Bool (Step3 σ τ R))) λz1=>
  bif z1 then some (.fin r)else andC (bif qw (y.Xh<0)then some (.out true)else grd (0<=y.Xg) (some (.out (qw (y.Xh>=qu.wrap (1 * 2 ^ min y.Xg.toNat 64))))):Option (Step3 Unit Bool (Step3 σ τ R))) λz2=>
  bif z2 then some (.fin r)else grd (0<=y.Xg) (bif qu.wrap (y.Xh * (1048576:Int).fdiv (2 ^ min y.Xg.toNat 64)) !=plc l j then some (.fin r)else some (.next (x (qu.wrap (plc l j+(1048576:Int).fdiv (2 ^ min y.Xg.toNat 64)))))))=
  match sw (badT l j) r with|some r=>some (.fin r)|none=>some (.next (x (plc l (j+1)))):=by
 intro y hy;rw[dze qa];unfold badT;by_cases h1:y.Xg<0
 ·have:begV (l.getD j qv)=none:=by rw[<-hy];unfold begV;rw[qb qa]
  rw[az8 h1,az9,this];rfl
 ·rw[az7 h1,az9];by_cases h2:y.Xg>20
  ·have:begV (l.getD j qv)=none:=by rw[<-hy];unfold begV;rw[qb qa]
   rw[az8 h2,this];rfl
  ·rw[az7 h2];by_cases h3:y.Xh<0
   ·have:begV (l.getD j qv)=none:=by rw[<-hy];unfold begV;rw[qb qa]
    rw[az8 h3,az9,this];rfl
   ·rw[az7 h3,aza qa,az9,qH qa,w2k qa];by_cases h4:y.Xh>=2 ^ y.Xg.toNat
    ·have:begV (l.getD j qv)=none:=by rw[<-hy];unfold begV;rw[qb qa]
     rw[az8 h4,this];rfl
    ·have hb:begV (l.getD j qv)=some (y.Xh * 2 ^ (20-y.Xg.toNat),2 ^ (20-y.Xg.toNat)):=by rw[<-hy];unfold begV;rw[qc ⟨⟨qa,qa⟩,qa,qa⟩]
     have hr:=Pz4 hb;have hq:(1048576:Int).fdiv (2 ^ y.Xg.toNat)=2 ^ (20-y.Xg.toNat):=by
      rw[Bz9];have e:(1048576:Int)=2 ^ y.Xg.toNat * 2 ^ (20-y.Xg.toNat):=by
       rw[<-qJ,show y.Xg.toNat+(20-y.Xg.toNat)=20 from qa];decide
      rw[e,Int.mul_ediv_cancel_left _ (by have:=czl y.Xg.toNat;omega)]
     have hp:=azbp l j;rw[az7 h4,aza qa,hq,w64 (x:=y.Xh * _) qa qa,w64 (x:=plc l j+_) qa qa];simp only[hb];by_cases h:y.Xh * 2 ^ (20-y.Xg.toNat)=plc l j
     ·have e1:(y.Xh * 2 ^ (20-y.Xg.toNat) !=plc l j)=false:=by simpa using h
      have e2:plc l (j+1)=plc l j+2 ^ (20-y.Xg.toNat):=by rw[<-h];simp only[plc,hb]
      rw[bza h,e1,e2];rfl
     ·have e1:(y.Xh * 2 ^ (20-y.Xg.toNat) !=plc l j)=true:=by simpa using h
      rw[bzn h,e1];rfl
theorem Yzk {R S:Type}{g:Nat->Bool}{r:Nat->R}{f:R->S}:∀ (n i:Nat),scan (λj=>sw (g j) (f (r j))) n i=(scan (λj=>sw (g j) (r j)) n i).map f
 |0,_=>rfl
 |n+1,i=>by
  simp only[scan];cases g i with
  |true=>rfl
  |false=>exact Yzk n (i+1)
def az9z (l:List az6):Int×Int:=bif (rzk l).2 then(0,0)else((rzk l).1,2001)
theorem Kz3 {g:Nat->Bool}{n:Nat}{r:Int×Bool}(h:scan (λj=>sw (g j) ((j:Int),false)) n 0=some r):r.2=false:=by
 obtain⟨j,-,-,h3,-⟩:=fzp _ _ h;cases hb:g j with
 |false=>rw[hb]at h3;cases h3
 |true=>rw[hb]at h3;simp only[sw,qe,Option.some.injEq]at h3;rw[<-h3]
theorem Mzd (x:bzf):(Azo x).o=some (az9z x.pieces):=by
 show(rz0 x).run NN=_;generalize hl:x.pieces=l;simp only[rz0,qk,hl,az9z,rzk];have em:∀n,scan (λj=>sw (badT l j) ((j:Int),(2001:Int))) n 0=(scan (λj=>sw (badT l j) ((j:Int),false)) n 0).map λr=>(r.1,2001):=λn=>Yzk (r:=λj=>((j:Int),false)) (f:=λr=>(r.1,(2001:Int))) n 0
 by_cases h:l.length<=4096
 ·rw[qc h];refine(jzc (λj=>(plc l j,(j:Int))) (λj=>sw (badT l j) ((j:Int),2001)) (plc l l.length) l.length rfl (show l.length<4294967296 from qa) (λj hj=>?_) ?_).trans ?_
  ·rw[az8 (by simpa using hj),aza ⟨by simp,by simpa using hj⟩];simp only[qG];rw[wn qa];exact Uzr l qa ((j:Int),2001) (λz=>(z,((j+1:Nat):Int))) _ rfl
  ·rw[az7 (by simp)]
  ·rw[em];cases hs:scan (λj=>sw (badT l j) ((j:Int),false)) l.length 0 with
   |none=>
    simp only[Option.map_none];by_cases hp:plc l l.length=1048576
    ·rw[bza hp];simp only[hp];rfl
    ·have e:(plc l l.length==1048576)=false:=by simpa using hp
     rw[bzn hp];simp only[e];rfl
   |some r=>simp only[wQ,Kz3 hs,qd]
 ·rw[qb h];refine(Ozg (λj=>(plc l j,(j:Int))) (λj=>sw (badT l j) ((j:Int),2001)) (4096,2001) 4096 rfl (show 4096<4294967296 from qa) (λj hj=>?_) ?_).trans ?_
  ·rw[az8 (by simp;omega),aza ⟨by simp,by simp;omega⟩];simp only[qG];rw[wn qa];exact Uzr l qa ((j:Int),2001) (λz=>(z,((j+1:Nat):Int))) _ rfl
  ·rw[az8 (by simp;omega),aza ⟨by simp,by simp;omega⟩];rfl
  ·rw[em];cases hs:scan (λj=>sw (badT l j) ((j:Int),false)) 4096 0 with
   |none=>rfl
   |some r=>simp only[wQ,Kz3 hs,qd]
theorem Jzu {l:List az6}(h:(rzk l).2=true):l.length<=4096/\∀j,j<l.length->begV (l.getD j qv)≠none:=by
 unfold rzk at h;split at h
 ·rename_i hl;refine⟨hl,λj hj hn=>?_⟩;split at h
  ·rename_i hs;rw[Kz3 hs]at h;cases h
  ·rename_i hs;have:=(ezt _ _).1 hs j (qX _) qa;have hb:badT l j=true:=by unfold badT;rw[hn]
   rw[hb]at this;cases this
 ·split at h
  ·rename_i hs;rw[Kz3 hs]at h;cases h
  ·cases h
theorem iz9 {r:azn}{c:List Int}(h:azx r c=true):izy c=true/\c.length=r.Xa.length/\r.Xa.length<=10/\dz1 r=0:=by
 simp only[azx,qm,qf]at h;obtain⟨h1,h2,h3⟩:=h;refine⟨noneB_iff.2 λi hi=>?_,h2,(fz6 h1).2.1,h1⟩;have:=noneB_iff.1 h3 i hi;have jo:=fz3 h1 (show i<r.Xa.length from qa);have rb:=Bzc (r.Xa.getD i qv).Xl;have jl:=jo.lim;simp only[outJ,qp,qi]at this;simp only[big1,qp,qi];omega
theorem az5r {r:azn}{p q:List Int}(hp:azx r p=true)(hq:azx r q=true){x:az6}(hx:begV x≠none):czw p q x.Xg x.Xh=(tab (Czk p q x.Xg.toNat x.Xh) p.length,true):=by
 have h1:=iz9 hp;have h2:=iz9 hq;unfold begV at hx;split at hx
 ·rename_i hc;unfold czw;rw[qc ⟨motionV_iff.2 ⟨h1.1,h2.1,qa,qa,qa⟩,qa,qa⟩]
 ·exact absurd rfl hx
theorem Fz6 (p q:List Int)(d i:Int)(hp:p.length<4294967296):(czw p q d i).1.length<4294967296:=by
 unfold czw;split
 ·simp only[cz8];exact hp
 ·simp[nl]
def notF (s:azd)(p q:List Int)(l:List az6)(j:Nat):Bool:= !oze s (czw p q (l.getD j qv).Xg (l.getD j qv).Xh).1 (l.getD j qv).Xf
def gzs (s:azd)(p q:List Int)(l:List az6):Int×Int:=
 if czd s≠0 then(0,904)else if(azx s.Xe p&&azx s.Xe q)=false then(0,1201)else if(rzk l).2=false then((rzk l).1,2001)else
 match scan (λj=>sw (notF s p q l j) ((j:Int),(2002:Int))) l.length 0 with|some r=>r|none=>(0,0)
section
variable (s:azd) (p q:List Int) (l:List az6) (hp:p.length<4294967296) (hq:q.length<4294967296)
include hp hq
theorem vz4:(mzk s p q l).o=some (gzs s p q l):=by
 show(mzl s p q l).run NN=_;simp only[mzl,qk,ezj,qL,gzs];by_cases h:czd s=0
 ·have er:(pzn s p q).o=some (azx s.Xe p&&azx s.Xe q):=by
   show(lzf s p q).run NN=_;simp only[lzf,qk,ezj,nze,qL];rw[dzj h];cases azx s.Xe p<;>rfl
  rw[bza h,qb (by simpa using h),er,qL];cases hi:azx s.Xe p&&azx s.Xe q
  ·rfl
  ·simp only[qO,qd,Rz2,qL,wR,if_false];cases hc:(rzk l).2
   ·rfl
   ·have hl:=Jzu hc;simp only[qO,qd,wR,if_false];refine(fzu (λj=>sw (notF s p q l j) ((j:Int),(2002:Int))) l.length qa (λj hj=>?_) ?_).trans ?_
    ·rw[az8 qa,aza qa,aza qa,wn qa,qG,<-ez3];simp only[wzj p q _ _ hp hq,qL];rw[aza qa];simp only[vz2 s _ _ (Fz6 p q _ _ hp),qL];rfl
    ·rw[az7 qa]
    ·cases scan (λj=>sw (notF s p q l j) ((j:Int),(2002:Int))) l.length 0<;>rfl
 ·rw[bzn h,qc h]
theorem Gzy:(uzt s p q l).o=some (gzs s p q l):=by
 show(mz2 s p q l).run NN=_;have e1:(Czy ⟨s,p,q,l⟩).o=some (0,if czd s=0 then 0 else 904):=by
  show(uz9 ⟨s,p,q,l⟩).run NN=_;simp only[uz9,qk,gz1,qL];by_cases h:czd s=0
  ·rw[bza h,qc h]
  ·rw[bzn h,qb h]
 have e2:(Azn ⟨s,p,q,l⟩).o=some (0,bif azx s.Xe p&&azx s.Xe q then 0 else 1201):=by
  show(qzz ⟨s,p,q,l⟩).run NN=_;simp only[qzz,qk,kze,qL,bzd,az9];cases azx s.Xe p<;>cases azx s.Xe q<;>rfl
 simp only[mz2,qk,e1,qL,gzs];rw[aza (by decide),aza (by decide),aza (by decide),aza (by decide)];by_cases h:czd s=0
 ·rw[qc h,qb (by simpa using h),bza rfl,e2,qL];cases hi:azx s.Xe p&&azx s.Xe q
  ·rfl
  ·simp only[qe,wR,if_false,Mzd,qL,az9z];rw[bza rfl];cases hc:(rzk l).2
   ·rfl
   ·have hl:=Jzu hc;simp only[qm]at hi;simp only[qe,wR,if_false];rw[bza rfl];have e3:(sz9 ⟨s,p,q,l⟩).o=some (match scan (λj=>sw (notF s p q l j) ((j:Int),(2002:Int))) l.length 0 with|some r=>r|none=>(0,0)):=by
     show(lzj ⟨s,p,q,l⟩).run NN=_;simp only[lzj,qk];refine(fzu (λj=>sw (notF s p q l j) ((j:Int),(2002:Int))) l.length qa (λj hj=>?_) ?_).trans ?_
     ·have ho:=az5r hi.1 hi.2 (hl.2 j hj);rw[az8 qa,aza qa,wn qa,qG,<-ez3];simp only[szt p q _ _ hp hq,qL];have ho2:(czw p q (l.getD j qv).Xg (l.getD j qv).Xh).2=true:=by rw[ho]
      rw[ho2];simp only[qO,qd,pz4 s _ _ (Fz6 p q _ _ hp),qL,az9];rfl
     ·rw[az7 qa]
     ·cases scan (λj=>sw (notF s p q l j) ((j:Int),(2002:Int))) l.length 0<;>rfl
    simp only[e3,qL];cases hs:scan (λj=>sw (notF s p q l j) ((j:Int),(2002:Int))) l.length 0 with
    |none=>rfl
    |some r=>
     obtain⟨j,-,-,h3,-⟩:=fzp _ _ hs;cases hb:notF s p q l j with
     |false=>rw[hb]at h3;cases h3
     |true=>rw[hb]at h3;simp only[sw,qe,Option.some.injEq]at h3;rw[<-h3];rfl
 ·rw[qb h,qc h];rfl
end
theorem Kzg {s:azd}{p q:List Int}{l:List az6}(h:(gzs s p q l).2=0):czd s=0/\azx s.Xe p=true/\azx s.Xe q=true/\l.length<=4096:=by
 unfold gzs at h;split at h
 ·cases h
 ·rename_i h1;split at h
  ·cases h
  ·rename_i h2;split at h
   ·cases h
   ·rename_i h3;simp only[wv,qm]at h2 h3;exact⟨by simpa using h1,h2.1,h2.2,(Jzu h3).1⟩
section
variable (J:az6->az6->Option az6)
def lzv:List az6->az6->List az6
 |[],x=>[x]
 |a::rs,x=>match J a x with
  |some w=>lzv rs w
  |none=>x::a::rs
def kz7 (l:List az6):List az6:=(l.foldl (lzv J) []).reverse
def Red (l:List az6)(j:Nat):Prop:=∀i,i+1<j->J (l.getD i qv) (l.getD (i+1) qv)=none
end
section
variable {J:az6->az6->Option az6}
theorem az13 {α:Type}[Inhabited α]{l:List α}{i:Nat}(h:i<l.length):l.getD i qv=l[i]:=by
 rw[wm,wE h];rfl
theorem Jzz {l:List az6}:∀ {j:Nat},j<=l.length->Red J l j->(l.take j).foldl (lzv J) []=(l.take j).reverse
 |0,_,_=>by simp
 |1,h,_=>by
  rw[czp qa];simp[lzv]
 |j+2,h,hr=>by
  have ih:=Jzz (j:=j+1) qa (λi hi=>hr i qa);rw[czp (show j+1<l.length from qa),wS,ih,czp (show j<l.length from qa)];simp only[wT,wU,wV,wW,wX,wY,wZ,lzv];rw[hr j qa]
theorem az23 {l:List az6}(h:Red J l l.length):kz7 J l=l:=by
 unfold kz7;have:=Jzz (wz _) h;rw[w6]at this;rw[this,w7]
theorem Zzl {l:List az6}{j:Nat}(h:j+1<l.length)(hr:Red J l (j+1)){w:az6}(hw:J (l.getD j qv) (l.getD (j+1) qv)=some w):kz7 J l=kz7 J (l.take j++[w]++l.drop (j+2)):=by
 unfold kz7;congr 1;have e:l=l.take j++[l.getD j qv]++[l.getD (j+1) qv]++l.drop (j+2):=by
  rw[<-czp qa,<-czp qa,List.take_append_drop]
 have f1:=Jzz (j:=j+1) qa hr;have f0:=Jzz (j:=j) qa (λi hi=>hr i qa);rw[czp (show j<l.length from qa)]at f1
 conv=>lhs;rw[e]
 rw[wS,wS,f1,wS,wS,f0];congr 1;simp only[wT,wU,wV,wW,wX,wY,wZ,lzv,hw]
theorem az2v {l:List az6}{j:Nat}(h:j+1<l.length)(hr:Red J l (j+1))(hn:J (l.getD j qv) (l.getD (j+1) qv)=none):Red J l (j+2):=by
 intro i hi;by_cases e:i=j
 ·subst e;exact hn
 ·exact hr i qa
end
def jz1 (s:azd)(p q:List Int)(a b:az6):Option az6:=
 if a.Xg≠b.Xg\/a.Xg<=0\/a.Xh.tmod 2≠0\/b.Xh≠qu.wrap (a.Xh+1)then none else
 if(czw p q (qu.wrap (a.Xg-1)) (qu.wrap (a.Xh.tdiv 2))).2=false then none else
 if oze s (czw p q (qu.wrap (a.Xg-1)) (qu.wrap (a.Xh.tdiv 2))).1 a.Xf then some ⟨qu.wrap (a.Xg-1),qu.wrap (a.Xh.tdiv 2),a.Xf⟩else
 if oze s (czw p q (qu.wrap (a.Xg-1)) (qu.wrap (a.Xh.tdiv 2))).1 b.Xf then some ⟨qu.wrap (a.Xg-1),qu.wrap (a.Xh.tdiv 2),b.Xf⟩else none
section
variable (s:azd) {p q:List Int} (hp:p.length<4294967296) (hq:q.length<4294967296) (a b:az6)
include hp hq
theorem Nzo:∃x ok,(tzr s p q a b).o=some (x,ok)/\(jz1 s p q a b=if ok then some x else none):=by
 have e0:(tzr s p q a b).o=(tzs s p q a b).run NN:=rfl;rw[e0];simp only[tzs,qk,jz1,wzj p q _ _ hp hq,vz2 s _ _ (Fz6 p q _ _ hp),qL];by_cases h1:a.Xg=b.Xg
 ·rw[bza h1];by_cases h2:a.Xg<=0
  ·rw[az8 qa,az9];exact⟨_,_,rfl,by rw[qc (Or.inr (Or.inl h2))];rfl⟩
  ·rw[az7 qa];by_cases h3:a.Xh.tmod 2=0
   ·rw[bza h3,az9];by_cases h4:b.Xh=qu.wrap (a.Xh+1)
    ·rw[bza h4,qb (λh=>by rcases h with h|h|h|h;· exact h h1
                          ·exact h2 h
                          ·exact h h3
                          ·exact h h4)]
     generalize czw p q (qu.wrap (a.Xg-1)) (qu.wrap (a.Xh.tdiv 2))=B;cases hB:B.2
     ·exact⟨_,_,rfl,by simp⟩
     ·simp only[qe,az9,wR,if_false];cases oze s B.1 a.Xf
      ·simp only[qd,Bool.false_eq_true,if_false];exact⟨_,_,rfl,rfl⟩
      ·exact⟨_,_,rfl,by simp⟩
    ·rw[bzn h4];exact⟨_,_,rfl,by rw[qc (Or.inr (Or.inr (Or.inr h4)))];rfl⟩
   ·rw[bzn h3,az9];exact⟨_,_,rfl,by rw[qc (Or.inr (Or.inr (Or.inl h3)))];rfl⟩
 ·rw[bzn h1,az9];exact⟨_,_,rfl,by rw[qc (Or.inl h1)];rfl⟩
theorem Nz3:(szq s p q a b).o=some (match jz1 s p q a b with|some x=>(x,true)|none=>(⟨0,0,nl⟩,false)):=by
 show(szr s p q a b).run NN=_;simp only[szr,qk,jz1,szt p q _ _ hp hq,pz4 s _ _ (Fz6 p q _ _ hp),qL];by_cases h1:a.Xg=b.Xg
 ·rw[bza h1];by_cases h2:a.Xg<=0
  ·rw[az8 h2,az9,qc (Or.inr (Or.inl h2))];rfl
  ·rw[az7 h2];by_cases h3:a.Xh.tmod 2=0
   ·rw[bza h3,az9];by_cases h4:b.Xh=qu.wrap (a.Xh+1)
    ·rw[bza h4,qb (λh=>by rcases h with h|h|h|h;· exact h h1
                          ·exact h2 h
                          ·exact h h3
                          ·exact h h4)]
     generalize czw p q (qu.wrap (a.Xg-1)) (qu.wrap (a.Xh.tdiv 2))=B;cases hB:B.2
     ·rfl
     ·simp only[qO,qd,wR,if_false];refine(fzu (λi=>sw (oze s B.1 (([a,b]:List az6).getD i qv).Xf) ((⟨qu.wrap (a.Xg-1),qu.wrap (a.Xh.tdiv 2),(([a,b]:List az6).getD i qv).Xf⟩:az6),true)) 2 (by decide) (λj hj=>?_) ?_).trans ?_
      ·rw[az8 (by simp;omega),aza ⟨qa,by simp;omega⟩,qG,aza (by simpa using hj),wn qa,<-ez3]
      ·rfl
      ·simp only[scan,wg,wh,sw];cases oze s B.1 a.Xf<;>cases oze s B.1 b.Xf<;>rfl
    ·rw[bzn h4,qc (Or.inr (Or.inr (Or.inr h4)))]
   ·rw[bzn h3,az9,qc (Or.inr (Or.inr (Or.inl h3)))];rfl
 ·rw[bzn h1,az9,qc (Or.inl h1)];rfl
end
theorem Zzg {s:azd}{p q:List Int}{a b w:az6}(h:jz1 s p q a b=some w):w.Xf=a.Xf\/w.Xf=b.Xf:=by
 unfold jz1 at h;split at h
 ·cases h
 ·split at h
  ·cases h
  ·split at h
   ·cases h;exact Or.inl rfl
   ·split at h
    ·cases h;exact Or.inr rfl
    ·cases h
theorem Sz2 (l:List V3)(h:l.length<4294967296):(cz3 l).o=some l:=by
 show(czo l).run NN=_;cases l with
 |nil=>rfl
 |cons a l=>
  simp only[czo,qk];simp only[wB]at h;rw[aza (by simp),aza ⟨by simp only[w8,wB];omega,by simp only[w8,wB,azc];omega⟩];rfl
theorem Vze (l:List az6)(h:l.length<4294967296):(czr l).o=some l:=by
 show(cz6 l).run NN=_;cases l with
 |nil=>rfl
 |cons a l=>
  simp only[cz6,qk];simp only[wB]at h;rw[aza (by simp),aza ⟨by simp only[w8,wB];omega,by simp only[w8,wB,azc];omega⟩];rfl
theorem Bzi {α:Type}[Inhabited α]{l:List α}{i:Nat}(h:i<l.length):l.set i (l.getD i qv)=l:=by
 rw[az13 h];exact List.set_getElem_self h
theorem yzq (l:List az6)(h:l.length<4294967296)(hn:∀x∈l,x.Xf.length<4294967296):(kzd l).o=some l:=by
 show(qz7 l).run NN=_;simp only[qz7,qk,Vze l h,qL];refine(bzv (λj=>(l,(j:Int))) l l.length rfl h (λj hj=>?_) ?_).trans rfl
 ·rw[az8 (by simpa using hj),aza ⟨by simp,by simpa using hj⟩];simp only[qG];rw[aza hj,Sz2 _ (hn _ (bz3 hj)),qL,aza ⟨qa,qa⟩,aza ⟨hj,qa⟩,wn qa];exact congrArg (λx=>some (Step3.next (x,((j+1:Nat):Int)))) (Bzi hj)
 ·rw[az7 (by simp)]
def Ozj (s:azd)(p q:List Int)(l:List az6):List az6:=if(gzs s p q l).2≠0 then l else kz7 (jz1 s p q) l
section
variable (s:azd) {p q:List Int} (hp:p.length<4294967296) (hq:q.length<4294967296) (l:List az6)
include hp hq
theorem Rz1:(Fzi s p q l).o=some (Ozj s p q l):=by
 show(wzr s p q l).run NN=_;simp only[wzr,qk,vz4 s p q l hp hq,qL,Ozj];by_cases h:(gzs s p q l).2=0
 ·have hl:=(Kzg h).2.2.2;rw[bza h,qb (by simpa using h),aza ⟨qa,by rw[azc];omega⟩];suffices hh:∃y,andK (iter _ NN (l,(0:Int))) (λy=>some y)=some y/\y=kz7 (jz1 s p q) l by
   obtain⟨y,h1,h2⟩:=hh;rw[<-h2];exact h1
  refine Pzy (β:=List az6) (g:=λy=>some y) (P:=λy=>y=kz7 (jz1 s p q) l) (λ(y:List az6×Int)=>y.1.length<=4096/\∃j:Nat,y.2=(j:Int)/\j<=y.1.length/\Red (jz1 s p q) y.1 (j+1)/\kz7 (jz1 s p q) y.1=kz7 (jz1 s p q) l)
   (λy=>y.1.length * (y.1.length+1)-y.2.toNat) (λy=>y=kz7 (jz1 s p q) l) ⟨hl,0,rfl,by simp,λi hi=>qa,rfl⟩ ?_ (λy hy=>?_) (λy hy=>⟨y,rfl,hy⟩)
  ·show l.length * (l.length+1)-_<4294967296;have:l.length * (l.length+1)<=4096 * 4097:=qN hl qa;omega
  ·obtain⟨b0,j,b1,b2,b3,b4⟩:=hy;rw[b1,wn qa];by_cases hj:j+1<y.1.length
   ·left;rw[az8 qa,aza ⟨qa,qa⟩,qG,aza qa,aza ⟨qa,qa⟩,qG,aza hj];obtain⟨x,ok,e1,e2⟩:=Nzo s hp hq (y.1.getD j qv) (y.1.getD (j+1) qv);rw[e1,qL];have hm:j<=y.1.length * (y.1.length+1):=wH (by omega:j<=y.1.length * 1) (Nat.mul_le_mul_left _ qa);have hm2:y.1.length<=y.1.length * (y.1.length+1):=by rw[Nat.mul_add];omega
    cases ok
    ·rw[qb (by simp)]at e2;refine⟨(y.1,((j+1:Nat):Int)),rfl,⟨b0,j+1,rfl,by simp only;omega,az2v hj b3 e2,b4⟩,?_⟩;simp only[qG];omega
    ·rw[qc rfl]at e2;have hs:=Zzl hj b3 e2;rw[w64 (x:=(j:Int)+2) qa qa];have i1:((j:Int)+2).toNat=j+2:=qa
     simp only[qO,qd,i1,qG,w9,xb,List.drop_zero];have L:(y.1.take j++[x]++y.1.drop (j+2)).length=y.1.length-1:=by simp;omega
     have e3:(y.1.drop (j+2)).take (y.1.length- (j+2))=y.1.drop (j+2):=by rw[List.take_of_length_le (by simp)]
     have l1:(y.1.take j).length=j:=by simp;omega
     have l2:(y.1.drop (j+2)).length=y.1.length- (j+2):=by simp
     rw[e3,aza ⟨qa,qa,qa⟩,aza ⟨by rw[l1];omega,by rw[l1,azc];omega⟩,aza ⟨by rw[l1];simp;omega,by rw[l1,azc];simp;omega⟩,aza ⟨qa,qa,qa⟩,
      aza ⟨by simp only[xc,l1,l2,xd];omega,by simp only[xc,l1,l2,xd,azc];omega⟩]
     refine⟨(y.1.take j++[x]++y.1.drop (j+2),0),rfl,⟨by simp only;omega,0,rfl,by simp,λi hi=>qa,by simp only;rw[<-hs];exact b4⟩,?_⟩;simp only[L,w9,xb];obtain⟨M,hM⟩:∃M,y.1.length=M+1:=⟨y.1.length-1,qa⟩;rw[hM];simp only[wI];have:(M+1) * (M+1+1)=M * (M+1)+(2 * M+2):=by simp only[Nat.add_mul,Nat.mul_add];omega
     omega
   ·right;rw[az7 qa];refine⟨_,rfl,?_⟩;rw[<-b4,az23];intro i hi;exact b3 i qa
 ·rw[bzn h,qc h]
theorem Kzk (hl:l.length<4294967296)(hn:∀x∈l,x.Xf.length<4294967296):(yzp s p q l).o=some (Ozj s p q l):=by
 show(qz6 s p q l).run NN=_;simp only[qz6,qk,Gzy s p q l hp hq,qL,Ozj];by_cases h:(gzs s p q l).2=0
 ·have hl:=(Kzg h).2.2.2;rw[bza h,qb (by simpa using h)];let F:Nat->List az6:=λj=>((l.take j).foldl (lzv (jz1 s p q)) []).reverse
  have pushOk:∀ (rs:List az6) (x:az6),(∀y∈rs,y.Xf.length<4294967296)->x.Xf.length<4294967296->(∀y∈lzv (jz1 s p q) rs x,y.Xf.length<4294967296)/\(lzv (jz1 s p q) rs x).length<=rs.length+1:=by
   intro rs;induction rs with
   |nil=>intro x _ hx;simp only[lzv,wO];exact⟨λy hy=>by subst hy;exact hx,by simp⟩
   |cons a rs ih=>
    intro x hr hx;simp only[lzv];split
    ·rename_i w hw;have hw':w.Xf.length<4294967296:=by
      rcases Zzg hw with e|e
      ·rw[e];exact hr a (by simp)
      ·rw[e];exact hx
     have:=ih w (λy hy=>hr y (by simp[hy])) hw';exact⟨this.1,by have:=this.2;simp only[wB];omega⟩
    ·refine⟨λy hy=>?_,by simp⟩;rcases wC.1 hy with rfl|hy
     ·exact hx
     ·exact hr y hy
  have F_ok:∀j,j<=l.length->(∀y∈F j,y.Xf.length<4294967296)/\(F j).length<=j:=by
   intro j;induction j with
   |zero=>intro _;simp[F]
   |succ j ih=>
    intro hj;have:=ih qa;have hx:(l.getD j qv).Xf.length<4294967296:=hn _ (bz3 qa);have e:F (j+1)=(lzv (jz1 s p q) (F j).reverse (l.getD j qv)).reverse:=by
     simp only[F];rw[czp qa,wS,w7];rfl
    have h2:=pushOk (F j).reverse (l.getD j qv) (λy hy=>this.1 y (by simpa using hy)) hx;rw[e];refine⟨λy hy=>h2.1 y (by simpa using hy),?_⟩;have:=h2.2;simp only[xe]at this⊢;omega
  refine(bzv (λj=>(F j,(j:Int))) (F l.length) l.length rfl (show l.length<4294967296 from qa) (λj hj=>?_) ?_).trans ?_
  ·have hf:=F_ok j qa;rw[az8 (by simpa using hj),aza ⟨by simp,by simpa using hj⟩];simp only[qG];rw[wn qa];generalize hx0:l.getD j qv=x0;have hx:x0.Xf.length<4294967296:=by rw[<-hx0];exact hn _ (bz3 qa)
   have e:F (j+1)=(lzv (jz1 s p q) (F j).reverse x0).reverse:=by
    simp only[F];rw[czp qa,wS,w7,hx0];rfl
   rw[e];have inner:∀ (n N:Nat) (rs:List az6) (x:az6),rs.length=n->n<N->n<=4096->∃y:List az6×Int×Int×List V3,iter (λ(x231:List az6×Int×Int×List V3)=>
    (bif qw (((x231.1.length:Nat):Int)>0)then
     grd (0<=(qu.wrap (((x231.1.length:Nat):Int)-1))/\(qu.wrap (((x231.1.length:Nat):Int)-1))<((x231.1.length:Nat):Int))
     (grd (((qu.wrap (((x231.1.length:Nat):Int)-1))).toNat<x231.1.length)
     ((szq s p q (x231.1.getD (((qu.wrap (((x231.1.length:Nat):Int)-1))).toNat) qv) (⟨x231.2.1,x231.2.2.1,x231.2.2.2⟩:az6)).o.bind λy236=>
      bif !y236.2 then some (.out (x231.1,x231.2.1,x231.2.2.1,x231.2.2.2))else
       grd (0<=(qu.wrap (((x231.1.length:Nat):Int)-1))/\(qu.wrap (((x231.1.length:Nat):Int)-1))<=((x231.1.length:Nat):Int)/\0<=((qu.wrap (((x231.1.length:Nat):Int)-1))).toNat)
       (some (.next ((x231.1.take (((qu.wrap (((x231.1.length:Nat):Int)-1))).toNat)),y236.1.Xg,y236.1.Xh,y236.1.Xf)))))
     else some (.out (x231.1,x231.2.1,x231.2.2.1,x231.2.2.2)):Option (Step3 (List az6×Int×Int×List V3) (List az6×Int×Int×List V3) (Step3 (List az6×Int) (List az6) (List az6))))) N (rs.reverse,x.Xg,x.Xh,x.Xf)=some (.inl y)/\
    y.1++[(⟨y.2.1,y.2.2.1,y.2.2.2⟩:az6)]=(lzv (jz1 s p q) rs x).reverse/\y.1.length<=n:=by
    intro n;induction n with
    |zero=>
     intro N rs x hr hN _;obtain rfl:=List.eq_nil_of_length_eq_zero hr;obtain⟨M,rfl⟩:∃M,N=M+1:=⟨N-1,qa⟩;exact⟨([],x.Xg,x.Xh,x.Xf),by simp[iter],by simp[lzv],by simp⟩
    |succ n ih=>
     intro N rs x hr hN hn4;obtain⟨M,rfl⟩:∃M,N=M+1:=⟨N-1,qa⟩;obtain⟨a,rs',rfl⟩:∃a rs',rs=a::rs':=by cases rs with
      |nil=>simp at hr
      |cons a rs'=>exact⟨a,rs',rfl⟩
     have hr':rs'.length=n:=by simpa using hr
     have hlen:((a::rs').reverse).length=n+1:=by simp[hr']
     have hw:qu.wrap (((n+1:Nat):Int)-1)=(n:Int):=by rw[w64 qa qa];omega
     have hget:((a::rs').reverse).getD n qv=a:=by
      rw[wU,wm,List.getElem?_append_right (by simp[hr'])];simp[hr']
     have htake:((a::rs').reverse).take n=rs'.reverse:=by rw[wU,List.take_left' (by simp[hr'])]
     simp only[iter];rw[hlen,hw,az8 qa,aza ⟨qa,qa⟩,qG,aza qa,hget,htake,Nz3 s hp hq,qL];simp only[lzv];cases hJ:jz1 s p q a x with
     |none=>exact⟨_,rfl,by simp,by simp[hr']⟩
     |some w=>
      simp only[qO,qd];rw[aza ⟨qa,qa,qa⟩];obtain⟨y,y1,y2,y3⟩:=ih M rs' w hr' qa qa;exact⟨y,y1,y2,qa⟩
   obtain⟨y,y1,y2,y3⟩:=inner (F j).reverse.length NN (F j).reverse x0 rfl (show(F j).reverse.length<4294967296 by simp only[xe];omega) (by simp only[xe];omega);rw[w7]at y1;simp only[xe]at y3;refine(gzy y1).trans ?_;rw[aza ⟨by simp only[xd];omega,by simp only[xd,azc];omega⟩,y2]
  ·rw[az7 (by simp)]
  ·have hf:=F_ok l.length (wz _);show(kzd (F l.length)).o.bind _=_;rw[yzq _ qa hf.1];simp only[F,w6];rfl
 ·rw[bzn h,qc h,yzq l hl hn];rfl
end
def inV (v:V3):Prop:=InR v.1/\InR v.2.1/\InR v.2.2
theorem Zzr (a:az0):(Bzd a).o=some (midV a):=by
 show(Hzp a).run NN=_;simp only[Hzp,qk,gzu,qL,midV];cases h:vV a
 ·rfl
 ·simp only[vV_iff]at h;rw[w64 qa qa,dzw ⟨qa,qa⟩ (by decide)];rfl
def cenF (l:List IV3)(i:Nat):V3:=(midV (l.getD i qv).1,midV (l.getD i qv).2.1,midV (l.getD i qv).2.2)
def cenV (l:List IV3):List V3:=if cz1 l then tab (cenF l) l.length else nl
theorem lz6 (l:List IV3):(eza l).o=some (cenV l):=by
 show(qzk l).run NN=_;simp only[qzk,qk,T.ix,hzo,qL,cenV];cases h:cz1 l
 ·rfl
 ·have hl:=ezy h;simp only[qO,qd,if_true];refine(bzv (λj=>(tab (cenF l) j,(j:Int))) (tab (cenF l) l.length) l.length rfl (show l.length<4294967296 from qa) (λj hj=>?_) ?_).trans rfl
  ·rw[az8 (by simpa using hj),aza ⟨by simp,by simpa using hj⟩];simp only[Zzr,qL];rw[aza ⟨by simp,by simpa using hj⟩,aza ⟨by simp,by simpa using hj⟩,aza ⟨by simp[cz8];omega,by simp[cz8,azc];omega⟩,wn qa,izx];rfl
  ·rw[az7 (by simp)]
theorem Xzb {l:List IV3}(h:cz1 l=true):(cenV l).length=l.length:=by unfold cenV;rw[qc h,cz8]
theorem vzd {a:Int}(ha:InR a): -16384<=a.tdiv 562949953421312/\a.tdiv 562949953421312<=16384:=by
 obtain⟨h1,h2⟩:=ha;have e:=qx a 562949953421312;have l1:=qy a (show(0:Int)<562949953421312 by decide);have l2:=qz a (show(0:Int)<562949953421312 by decide);omega
theorem Czl {v:V3}(h:inV v):∃n ok,(hzn v).o=some (n,ok)/\inV n:=by
 have e0:(hzn v).o=(jzj v).run NN:=rfl;rw[e0];simp only[jzj,qk,T.ix];cases (v.1==0)&&((v.2.1==0)&&((v.2.2==0)&&true))
 ·simp only[qd];have key:∀ (m k N:Nat),k+m=49->m<N->∃n ok,andK (iter (λ(x6:Int)=>(grd (x6≠0) (grd (x6≠0) (grd (x6≠0) ((gz7 ((qu.wrap (v.1.tdiv x6)),(qu.wrap (v.2.1.tdiv x6)),(qu.wrap (v.2.2.tdiv x6))) 16384).o.bind λy15=>
   bif y15 then some (.fin (((qu.wrap (v.1.tdiv x6)),(qu.wrap (v.2.1.tdiv x6)),(qu.wrap (v.2.2.tdiv x6))),true))else some (.next (qu.wrap (x6 * 2)))))):Option (Step3 Int U0 (V3×Bool)))) N (2 ^ k)) (λ_=>none)=some (n,ok)/\inV n:=by
   intro m;induction m with
   |zero=>
    intro k N hk hN;obtain⟨M,rfl⟩:∃M,N=M+1:=⟨N-1,qa⟩;obtain rfl:k=49:=qa
    have e:(2:Int) ^ 49=562949953421312:=by decide
    have t1:=vzd h.1;have t2:=vzd h.2.1;have t3:=vzd h.2.2;simp only[iter,e]
    rw[aza (by decide),aza (by decide),aza (by decide),w64 (x:=v.1.tdiv _) qa qa,w64 (x:=v.2.1.tdiv _) qa qa,w64 (x:=v.2.2.tdiv _) qa qa,hz6 _ (by decide) (by decide),qL,
     show hzq (v.1.tdiv 562949953421312,v.2.1.tdiv 562949953421312,v.2.2.tdiv 562949953421312) 16384=true from nearV_iff.2 ⟨t1,t2,t3⟩]
    exact⟨_,_,rfl,⟨by simp only;omega,by simp only;omega⟩,⟨by simp only;omega,by simp only;omega⟩,⟨by simp only;omega,by simp only;omega⟩⟩
   |succ m ih=>
    intro k N hk hN;obtain⟨M,rfl⟩:∃M,N=M+1:=⟨N-1,qa⟩;have hp:=czl k;have hp2:(2:Int) ^ k<=562949953421312:=by
     have:(2:Int) ^ k<=2 ^ 49:=by exact_mod_cast wt (by decide:0<2) (show k<=49 from qa)
     have e:(2:Int) ^ 49=562949953421312:=by decide
     omega
    simp only[iter];rw[aza qa,aza qa,aza qa,hz6 _ (by decide) (by decide),qL];cases hzq (qu.wrap (v.1.tdiv (2 ^ k)),qu.wrap (v.2.1.tdiv (2 ^ k)),qu.wrap (v.2.2.tdiv (2 ^ k))) 16384
    ·simp only[qd];rw[w64 (x:=2 ^ k * 2) qa qa,<-wN];exact ih (k+1) M qa qa
    ·exact⟨_,_,rfl,InR.wr _,InR.wr _,InR.wr _⟩
  exact key 49 0 NN rfl (by decide)
 ·exact⟨_,_,rfl,h⟩
def farN (l:List V3)(i:Nat):Bool:= !hzq (l.getD i qv) 268435456
def fewV (l:List V3):Bool:=qw (1<=l.length/\l.length<=8)&&czg (farN l) l.length
theorem Hz0 {l:List V3}(h:fewV l=true):1<=l.length/\l.length<=8:=by
 simp only[fewV,qm,qf]at h;exact h.1
theorem Mz0 (l:List V3):(Dzr l).o=some (fewV l):=by
 show(Dzs l).run NN=_;simp only[Dzs,qk,bzd,az9,hz6 _ (show(0:Int)<=268435456 by decide) (by decide),qL];refine(fzu (λi=>sw (farN l i) false) (min l.length 9) qa (λj hj=>?_) ?_).trans ?_
 ·have e:(bif qw ((j:Int)<(l.length:Int))then qw ((j:Int)<=8)else false)=true:=by rw[az8 qa,qg (p:=(j:Int)<=8) qa]
  rw[e,qe,aza qa,wn qa,qG,<-ez3];rfl
 ·have e:(bif qw (((min l.length 9:Nat):Int)<(l.length:Int))then qw (((min l.length 9:Nat):Int)<=8)else false)=false:=by
   by_cases hl:l.length<=8
   ·rw[az7 qa]
   ·by_cases h9:((min l.length 9:Nat):Int)<(l.length:Int)
    ·rw[az8 h9,qh (p:=((min l.length 9:Nat):Int)<=8) qa]
    ·rw[az7 h9]
  rw[e,qd]
 ·rw[dzd];unfold fewV;by_cases h:1<=l.length/\l.length<=8
  ·rw[qg h,qH qa,qR];cases czg (farN l) l.length
   ·rfl
   ·show(bif qw ((l.length:Int)>=1)then _ else _)=_;rw[az8 qa,qg (p:=(l.length:Int)<=8) qa]
  ·rw[qh h,wK];cases czg (farN l) (min l.length 9)
   ·rfl
   ·show(bif qw ((l.length:Int)>=1)then _ else _)=_;by_cases h1:(l.length:Int)>=1
    ·rw[az8 h1,qh (p:=(l.length:Int)<=8) qa]
    ·rw[az7 h1]
theorem nz8 {σ τ R β:Type}{f:σ->Option (Step3 σ τ R)}{k:τ->Option R}{g:β->R}{P:β->Prop}{x:σ}(n:Nat)(hn:n<4294967296)(I:Nat->σ->Prop)(Q:τ->Prop)(h0:I 0 x)
 (hs:∀j y,j<n->I j y->∃y',f y=some (.next y')/\I (j+1) y') (he:∀y,I n y->∃z,f y=some (.out z)/\Q z) (hk:∀z,Q z->∃b,k z=some (g b)/\P b):∃b,andK (iter f NN x) k=some (g b)/\P b:=by
 have key:∀ (m j N:Nat) (y:σ),j+m=n->m<N->I j y->∃z,iter f N y=some (.inl z)/\Q z:=by
  intro m;induction m with
  |zero=>
   intro j N y hj hN hI;obtain⟨M,rfl⟩:∃M,N=M+1:=⟨N-1,qa⟩;obtain rfl:j=n:=qa
   obtain⟨z,h1,h2⟩:=he y hI;exact⟨z,by simp[iter,h1],h2⟩
  |succ m ih=>
   intro j N y hj hN hI;obtain⟨M,rfl⟩:∃M,N=M+1:=⟨N-1,qa⟩;obtain⟨y',h1,h2⟩:=hs j y qa hI;simp only[iter,h1];exact ih (j+1) M y' qa qa h2
 obtain⟨z,h1,h2⟩:=key n 0 NN x qa hn h0;obtain⟨b,h3,h4⟩:=hk z h2;exact⟨b,by rw[h1];exact h3,h4⟩
theorem wzn (l:List V3)(w:List Int)(h:w.length=l.length)(hl:l.length<4294967296):∃v,(qzp l w).o=some v/\True:=by
 have e0:(qzp l w).o=(qzq l w).run NN:=rfl;rw[e0];simp only[qzq,qk,T.ix];refine nz8 (g:=λb=>b) l.length hl (λj (y:Int×Int×Int×Int)=>y.2.2.2=(j:Int)) (λ(_:V3)=>True) rfl (λj y hj hy=>?_) (λy hy=>?_) (λz _=>⟨_,rfl,trivial⟩)
 ·rw[hy,az8 qa,aza ⟨qa,qa⟩,aza ⟨qa,qa⟩,aza ⟨qa,qa⟩,aza ⟨qa,qa⟩,aza ⟨qa,qa⟩,aza ⟨qa,qa⟩,wn qa];exact⟨_,rfl,rfl⟩
 ·rw[hy,az7 qa];exact⟨_,rfl,trivial⟩
theorem wzo (a b:V3):∃v,(lzd a b).o=some v/\inV v:=⟨_,rfl,InR.wr _,InR.wr _,InR.wr _⟩
theorem mzj (a b:V3):∃v,(izd a b).o=some v:=⟨_,rfl⟩
theorem InR.max {a b:Int}(ha:InR a)(hb:InR b):InR (max a b):=by
 obtain⟨h1,h2⟩:=ha;obtain⟨h3,h4⟩:=hb;exact⟨qa,qa⟩
theorem Uz1 {v:V3}(h:inV v)(r:Int):∃b,(sz5 v r).o=some b:=by
 have e0:(sz5 v r).o=(nzx v r).run NN:=rfl;rw[e0];simp only[nzx,qk,T.ix,cz7 (h.1.max (InR.wr _)) (show(0:Int)<65536 by decide),cz7 (h.2.1.max (InR.wr _)) (show(0:Int)<65536 by decide),cz7 (h.2.2.max (InR.wr _)) (show(0:Int)<65536 by decide),qL];exact⟨_,rfl⟩
theorem zzz (n:V3)(l:List V3)(sg:Int)(h0:1<=l.length)(hl:l.length<4294967296):∃i:Int,(fzo n l sg).o=some i/\0<=i/\i<(l.length:Int):=by
 have e0:(fzo n l sg).o=(izc n l sg).run NN:=rfl;rw[e0];simp only[izc,qk];refine nz8 (g:=λb=>b) (l.length-1) qa (λj (y:Int×Int)=>y.2=((j+1:Nat):Int)/\0<=y.1/\y.1<(l.length:Int)) (λ(z:Int)=>0<=z/\z<(l.length:Int)) ⟨rfl,by simp,by simp;omega⟩ (λj y hj hy=>?_) (λy hy=>?_) (λz hz=>⟨_,rfl,hz⟩)
 ·obtain⟨h1,h2,h3⟩:=hy;obtain⟨d1,e1⟩:=mzj n (l.getD y.2.toNat qv);obtain⟨d2,e2⟩:=mzj n (l.getD y.1.toNat qv);rw[e1,e2,qL,qL,h1,az8 qa,aza ⟨qa,qa⟩,aza ⟨qa,qa⟩,wn qa];cases qw (qu.wrap (sg * d1)<qu.wrap (sg * d2))
  ·exact⟨_,rfl,rfl,h2,h3⟩
  ·exact⟨_,rfl,rfl,by simp only;omega,by simp only;omega⟩
 ·obtain⟨h1,h2,h3⟩:=hy;rw[h1,az7 qa];exact⟨_,rfl,h2,h3⟩
theorem pzm (w:List Int)(t i:Int)(hl:w.length<4294967296)(h0:0<=i)(h1:i<(w.length:Int)):∃u,(lzb w t i).o=some u/\u.length=w.length:=by
 have e0:(lzb w t i).o=(lzc w t i).run NN:=rfl;rw[e0];simp only[lzc,qk];rw[aza ⟨qa,by rw[azc];omega⟩];refine nz8 (g:=λb=>b) w.length hl (λj (y:List Int×Int×Int)=>y.2.2=(j:Int)/\y.1.length=w.length) (λ(z:List Int×Int)=>z.1.length=w.length) ⟨rfl,rfl⟩ (λj y hj hy=>?_) (λy hy=>?_) (λz hz=>?_)
 ·obtain⟨a1,a2⟩:=hy;rw[a1,az8 qa,aza ⟨qa,qa⟩,qG,aza qa,aza ⟨qa,qa⟩,aza qa,aza ⟨qa,qa⟩,aza ⟨qa,qa⟩,wn qa];exact⟨_,rfl,rfl,by simp only[wx];exact a2⟩
 ·obtain⟨a1,a2⟩:=hy;rw[a1,az7 qa];exact⟨_,rfl,a2⟩
 ·rw[aza ⟨qa,qa⟩,aza qa,aza ⟨qa,qa⟩,aza ⟨qa,qa⟩];exact⟨_,rfl,by rw[wx];exact hz⟩
def SO (x:dzu):Prop:=inV x.Xz/\x.Left.length<=8/\x.Xx.length<=8
theorem Wzu {f:Int×Int×Int×List Int×List Int×Int->Option (Step3 (Int×Int×Int×List Int×List Int×Int) U0 dzu)}{k:U0->Option dzu}{y:Int×Int×Int×List Int×List Int×Int}(I:Int×Int×Int×List Int×List Int×Int->Prop)
 (hr:∀y,I y->(∃y',f y=some (.next y')/\I y'/\y'.2.2.2.2.2=y.2.2.2.2.2+1)\/∃r,f y=some (.fin r)/\SO r) (hI:∀y,I y->y.2.2.2.2.2<=65) (m:Nat) (h1:I y) (h2:y.2.2.2.2.2+m>=66) (h3:m<NN):∃r,andK (iter f NN y) k=some r/\SO r:=by
 have key:∀ (m N:Nat) y,I y->y.2.2.2.2.2+m>=66->m<N->∃r,iter f N y=some (.inr r)/\SO r:=by
  intro m;induction m with
  |zero=>intro N y h1 h2;have:=hI y h1;omega
  |succ m ih=>
   intro N y h1 h2 h3;obtain⟨M,rfl⟩:∃M,N=M+1:=⟨N-1,qa⟩;rcases hr y h1 with⟨y',e1,e2,e3⟩|⟨r,e1,e2⟩
   ·simp only[iter,e1];exact ih M y' e2 qa qa
   ·exact⟨r,by simp[iter,e1],e2⟩
 obtain⟨r,e1,e2⟩:=key m NN y h1 h2 h3;exact⟨r,by rw[e1];rfl,e2⟩
theorem Nzl (a b:List V3)(rho steps:Int):∃x,(fzf a b rho steps).o=some x/\SO x:=by
 have z0:inV ((0,0,0):V3):=⟨⟨by decide,by decide⟩,⟨by decide,by decide⟩,⟨by decide,by decide⟩⟩;have e0:(fzf a b rho steps).o=(jzl a b rho steps).run NN:=rfl;rw[e0];simp only[jzl,qk,T.ix,Mz0,qL,bzd,az9];cases ha:fewV a
 ·exact⟨_,rfl,z0,by simp[nl],by simp[nl]⟩
 ·cases hb:fewV b
  ·exact⟨_,rfl,z0,by simp[nl],by simp[nl]⟩
  ·have la:=Hz0 ha;have lb:=Hz0 hb;simp only[qO,qd,ezd];cases hc:qw (rho<0)||(qw (rho>2097152)||(qw (steps<0)||qw (steps>64)))
   ·simp only[qp,qi]at hc;simp only[qd,qG,wA];rw[aza ⟨qa,qa,qa,qa⟩,aza ⟨qa,qa,qa,qa⟩,aza ⟨qa,qa⟩,aza ⟨by simp;omega,qa⟩,aza ⟨qa,qa⟩,aza ⟨by simp;omega,qa⟩];refine Wzu (λy=>inV (y.1,y.2.1,y.2.2.1)/\y.2.2.2.1.length=a.length/\y.2.2.2.2.1.length=b.length/\0<=y.2.2.2.2.2/\y.2.2.2.2.2<=steps) (λy hy=>?_) (λy hy=>by have:=hy.2.2.2.2;omega) 66 ⟨z0,by simp,by simp,by simp,by simp;omega⟩ (by simp) (by decide);obtain⟨i1,i2,i3,i4,i5⟩:=hy;obtain⟨s1,es1,-⟩:=wzn a y.2.2.2.1 i2 qa;obtain⟨s2,es2,-⟩:=wzn b y.2.2.2.2.1 i3 qa;obtain⟨w,ew,hw⟩:=wzo s1 s2;obtain⟨nb,en⟩:=Uz1 hw rho;rw[es1,qL,es2,qL,ew,qL,en,qL];cases nb
    ·simp only[qd];obtain⟨n,ok,eN,hN⟩:=Czl (v:=(qu.wrap (w.1.tdiv 65536),qu.wrap (w.2.1.tdiv 65536),qu.wrap (w.2.2.tdiv 65536))) ⟨InR.wr _,InR.wr _,InR.wr _⟩;rw[eN,qL];cases ok
     ·right;exact⟨_,rfl,hN,by simp only;omega,by simp only;omega⟩
     ·obtain⟨i,ei,i0,il⟩:=zzz n a 1 la.1 qa;obtain⟨j,ej,j0,jl⟩:=zzz n b (-1) lb.1 qa;obtain⟨d1,ed1⟩:=mzj n (a.getD i.toNat qv);obtain⟨d2,ed2⟩:=mzj n (b.getD j.toNat qv);obtain⟨mm,em,hm⟩:=wzo (a.getD i.toNat qv) (b.getD j.toNat qv);obtain⟨ee,eE,he⟩:=wzo (qu.wrap (w.1.tdiv 65536),qu.wrap (w.2.1.tdiv 65536),qu.wrap (w.2.2.tdiv 65536)) mm;obtain⟨u,eu⟩:=mzj (qu.wrap (w.1.tdiv 65536),qu.wrap (w.2.1.tdiv 65536),qu.wrap (w.2.2.tdiv 65536)) ee;obtain⟨v,ev⟩:=mzj ee ee;obtain⟨nv,env⟩:∃nv,(sz1 n).o=some nv:=⟨_,zzx n⟩;simp only[qO,qd];rw[ei,qL,ej,qL,aza ⟨i0,il⟩,ed1,qL,aza ⟨j0,jl⟩,ed2,qL,env,qL];cases qw (qu.wrap (d1-d2)>qu.wrap (nv * rho))
      ·simp only[qd];rw[aza ⟨i0,il⟩,aza ⟨j0,jl⟩,em,qL,eE,qL,eu,qL,ev,qL];cases hs:qw (y.2.2.2.2.2>=steps)||qw (u<=0)
       ·simp only[qp,qi]at hs;simp only[qd];have hmx:max 1 (qu.wrap (v.tdiv 256))≠0:=qa
        rw[aza hmx];generalize min 256 (qu.wrap (u.tdiv (max 1 (qu.wrap (v.tdiv 256)))))=t;cases t==0
        ·simp only[qd];obtain⟨m1,em1,lm1⟩:=pzm y.2.2.2.1 t i qa i0 qa;obtain⟨m2,em2,lm2⟩:=pzm y.2.2.2.2.1 t j qa j0 qa;left;rw[em1,qL,em2,qL,w64 (x:=y.2.2.2.2.2+1) qa qa];exact⟨_,rfl,⟨hN,by simp only;omega,by simp only;omega,by simp only;omega,by simp only;omega⟩,rfl⟩
        ·right;exact⟨_,rfl,hN,by simp only;omega,by simp only;omega⟩
       ·right;exact⟨_,rfl,hN,by simp only;omega,by simp only;omega⟩
      ·right;exact⟨_,rfl,hN,by simp only;omega,by simp only;omega⟩
    ·right;exact⟨_,rfl,i1,by simp only;omega,by simp only;omega⟩
   ·exact⟨_,rfl,z0,by simp[nl],by simp[nl]⟩
def firB (l:List V3)(a:List IV3)(ra:Int)(b:List IV3)(rb:Int)(i:Nat):Bool:=sepV (l.getD i qv) a ra b rb
theorem Qzz (l:List V3)(a:List IV3)(ra:Int)(b:List IV3)(rb:Int)(hl:l.length<4294967296):(Fzg l a ra b rb).o=some ((scan (λi=>sw (firB l a ra b rb i) ((i:Int),true)) l.length 0).getD (0,false)):=by
 show(wzm l a ra b rb).run NN=_;simp only[wzm,qk,vz3,qL];refine(fzu (λi=>sw (firB l a ra b rb i) ((i:Int),true)) l.length hl (λj hj=>?_) ?_).trans ?_
 ·rw[az8 qa,aza qa,wn qa,qG,<-ez3];rfl
 ·rw[az7 qa]
 ·cases scan (λi=>sw (firB l a ra b rb i) ((i:Int),true)) l.length 0<;>rfl
theorem Izt (a:Int):(ize a).o=some (max a (qu.wrap (0-a))):=rfl
end Go.Abs
