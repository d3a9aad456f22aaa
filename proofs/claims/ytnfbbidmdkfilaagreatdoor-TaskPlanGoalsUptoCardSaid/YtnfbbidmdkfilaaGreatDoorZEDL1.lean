import Derived.Test.YtnfbbidmdkfilaaGreatDoorZEPLib
import Derived.Test.YtnfbbidmdkfilaaGreatDoorZED4
import Derived.Lib.DecodeN
open Bool renaming and_eq_true->qm,not_true->qJ,true_and->qM,and_self->qN,or_eq_false_iff->qp,eq_iff_iff->qR,false_ne_true->qS,not_eq_true->qW,not_eq_true'->qX,and_true->wg,false_and->wo,true_eq_false->wt,not_eq_false'->wx
open Decidable renaming decide->qv
open Go.IntKind renaming i64->qt
open Inhabited renaming default->qu
open Int renaming mul_tdiv_add_tmod->qw,mul_neg->qx,le_of_lt->qB,le_ediv_iff_mul_le->qC,pow_add->qD,mul_le_mul_of_nonneg_left->qE,toNat_natCast->qF,natAbs_mul->qH,mul_nonneg->qK,mul_le_mul->qL,mul_le_mul_of_nonneg_right->wh,toNat->wi,pow_succ->wj,emod_nonneg->wu,emod_lt_of_pos->wv
open List renaming length_cons->qy,length_nil->qA,range_succ->qT,getD_eq_getElem?_getD->qY,length_set->qZ,set_set->wc,length_replicate->wd,getElem_of_mem->we,getD_cons_zero->wk,getD_cons_succ->wm
open Nat renaming mul_le_mul->qz,min_eq_left->qG,pow_le_pow_right->qU,le_refl->qk
open Option renaming bind_some->qI,bind->qO,isSome_some->qP,isSome_none->qQ,map_some->ws
open Go.Abs.T renaming run->qj
noncomputable section
namespace Go.Abs
theorem gzg {c:Type}{a b:Int}{x y:c}(h:a=b):(bif (a==b)then x else y)=x:=hz9 ju
theorem gz2 {c:Type}{a b:Int}{x y:c}(h:a≠b):(bif (a==b)then x else y)=y:=hzj ju
theorem cze {c:Type}{a b:Int}{x y:c}(h:a≠b):(bif (a !=b)then x else y)=x:=hz9 ju
theorem bz8 {c:Type}{a b:Int}{x y:c}(h:a=b):(bif (a !=b)then x else y)=y:=hzj ju
theorem wr (n:Int):qt.wrap n=(n+9223372036854775808) % 18446744073709551616-9223372036854775808:=by
 show(if(true&&qv (n % 18446744073709551616>=9223372036854775808))=true then n % 18446744073709551616-18446744073709551616 else n % 18446744073709551616)=_
 grind
theorem azme (n:Int): -9223372036854775808<=qt.wrap n:=by rw[wr];omega
theorem azmd (n:Int):qt.wrap n<=9223372036854775807:=by rw[wr];omega
theorem azk6 (n:Int):qt.wrap (qt.wrap n)=qt.wrap n:=w64 (azme n) (azmd n)
theorem azco (a b:Int):qt.wrap (qt.wrap a+b)=qt.wrap (a+b):=by simp only[wr];omega
theorem azk4 (a b:Int):qt.wrap (a+qt.wrap b)=qt.wrap (a+b):=by simp only[wr];omega
theorem az4c (a b:Int):qt.wrap (qt.wrap a-b)=qt.wrap (a-b):=by simp only[wr];omega
theorem azk5 (a b:Int):qt.wrap (a-qt.wrap b)=qt.wrap (a-b):=by simp only[wr];omega
def InR (x:Int):Prop:= -9223372036854775808<=x/\x<=9223372036854775807
theorem InR.wr (n:Int):InR (qt.wrap n):=⟨azme n,azmd n⟩
theorem InR.w {x:Int}(h:InR x):qt.wrap x=x:=w64 h.1 h.2
def cdiv (a b:Int):Int:= -((-a) / b)
theorem Azq {a b:Int}(c:0<=a):a.tdiv b=a / b:=Int.tdiv_eq_ediv_of_nonneg c
theorem azg6 {a b:Int}(c:0<=a):a.tmod b=a % b:=Int.tmod_eq_emod_of_nonneg c
theorem az1v (a b:Int):(-a).tdiv b= -(a.tdiv b):=Int.neg_tdiv a b
theorem azci (a b:Int):(-a).tmod b= -(a.tmod b):=Int.neg_tmod a b
theorem Ezw {a b q r:Int}(c:0<=r)(d:r<b)(h:a=b * q+r):a / b=q:=by
 subst h;rw[Int.mul_add_ediv_left _ _ (by omega:b≠0),Int.ediv_eq_zero_of_lt c d];omega
theorem az31 {a b:Int}(c:0<b):(if a.tmod b<0 then a.tdiv b-1 else a.tdiv b)=a / b:=by
 have f:=qw a b;have e:=Int.tmod_lt_of_pos a c;have d:=Int.lt_tmod_of_pos a c;split
 ·symm;exact Ezw (r:=a.tmod b+b) qa qa jv
 ·symm;exact Ezw (r:=a.tmod b) qa qa qa
theorem azge {a b:Int}(d:0<b):(if a.tmod b>0 then a.tdiv b+1 else a.tdiv b)=cdiv a b:=by
 have:=az31 (a:= -a) d;rw[azci,az1v]at this
 grind[cdiv]
theorem Uzs {a b:Int}(c:0<b):b * (a / b)<=a:=Int.mul_ediv_self_le qa
theorem az4p {a b:Int}(c:0<b):a<b * (a / b)+b:=Int.lt_mul_ediv_self_add c
theorem Mzy {a b:Int}(c:0<b):(0<=a->0<=a / b/\a / b<=a)/\(a<0->a<=a / b/\a / b<0):=by
 refine⟨λh=>⟨Int.ediv_nonneg h qa,Int.ediv_le_self _ h⟩,λh=>⟨?_,Int.ediv_neg_of_neg_of_pos h c⟩⟩;have e:=az4p (a:=a) c;by_cases g:a<=a / b
 ·omega
 ·have f:b * (a / b)+b=b * (a / b+1):=by grind
  have d:b * (a / b+1)<=1 * (a / b+1):=Int.mul_le_mul_of_nonpos_right qa qa;omega
theorem InR.div {a b:Int}(h:InR a)(c:0<b):InR (a / b):=by
 have:=Mzy (a:=a) c;obtain⟨e,d⟩:=h;by_cases f:0<=a
 ·exact⟨qa,qa⟩
 ·exact⟨qa,qa⟩
theorem az2c {a b:Int}(c:0<b):(0<a->0<cdiv a b/\cdiv a b<=a)/\(a<=0->a<=cdiv a b/\cdiv a b<=0):=by
 have:=Mzy (a:= -a) c
 grind[cdiv]
theorem InR.cdiv {a b:Int}(h:InR a)(c:0<b):InR (Go.Abs.cdiv a b):=by
 have:=az2c (a:=a) c;obtain⟨e,d⟩:=h;by_cases f:0<a
 ·exact⟨qa,qa⟩
 ·exact⟨qa,qa⟩
theorem azjy {a b:Int}(c:0<b):(0<=a->0<=a.tdiv b/\a.tdiv b<=a)/\(a<=0->a<=a.tdiv b/\a.tdiv b<=0):=by
 refine⟨λh=>?_,λh=>?_⟩
 ·simp_all[Azq,Mzy]
 ·have d:=(Mzy (a:= -a) c).1 qa
  grind[az1v]
theorem InR.tdiv {a b:Int}(h:InR a)(c:0<b):InR (a.tdiv b):=by
 have:=azjy (a:=a) c;obtain⟨e,d⟩:=h;by_cases f:0<=a
 ·exact⟨qa,qa⟩
 ·exact⟨qa,qa⟩
theorem azkw {a b:Int}(e:InR a)(d:0<b):(bif qv (a.tmod b<0)then qt.wrap (qt.wrap (a.tdiv b)-1)else qt.wrap (a.tdiv b))=a / b:=by
 rw[(e.tdiv d).w,<-az31 d,cond_eq_ite];simp only[qf];split
 ·rename_i h;have:=e.div d;rw[<-az31 d,qc h]at this;exact this.w
 ·rfl
theorem azmi {a b:Int}(e:InR a)(d:0<b):(bif qv (a.tmod b>0)then qt.wrap (qt.wrap (a.tdiv b)+1)else qt.wrap (a.tdiv b))=cdiv a b:=by
 rw[(e.tdiv d).w,<-azge d,cond_eq_ite];simp only[qf];split
 ·rename_i h;have:=e.cdiv d;rw[<-azge d,qc h]at this;exact this.w
 ·rfl
theorem Pzv {a b q:Int}(c:0<b):cdiv a b=q↔a<=b * q/\b * q<a+b:=by
 unfold cdiv;have e:=Uzs (a:= -a) c;have d:=az4p (a:= -a) c;constructor
 ·grind[qx]
 ·intro h;have: -a / b= -q:=Ezw (r:=b * q-a) qa qa jv;omega
def scan {R:Type}(g:Nat->Option R):Nat->Nat->Option R
 |0,_=>none
 |n+1,i=>match g i with
  |some r=>some r
  |none=>scan g n (i+1)
theorem dzp {R:Type}{g:Nat->Option R}:∀ (n i:Nat),scan g n i=none↔∀j,i<=j->j<i+n->g j=none
 |0,i=>by grind[scan]
 |n+1,i=>by
  simp only[scan];constructor
  ·intro h;split at h
   ·cases h
   ·rename_i a;intro j c b;by_cases e:j=i
    ·subst e;exact a
    ·exact(dzp n (i+1)).1 h j qa qa
  ·intro h;rw[h i qa qa];exact(dzp n (i+1)).2 λj c b=>h j qa qa
theorem ezb {R:Type}{g:Nat->Option R}{r:R}:∀ (n i:Nat),scan g n i=some r->∃j,i<=j/\j<i+n/\g j=some r/\∀k,i<=k->k<j->g k=none
 |0,i,h=>by cases h
 |n+1,i,h=>by
  simp only[scan]at h;split at h
  ·rename_i a;cases h;exact⟨i,qa,qa,a,λk f d=>qa⟩
  ·rename_i a;obtain⟨j,f,d,c,l⟩:=ezb n (i+1) h;refine⟨j,qa,qa,c,λk m b=>?_⟩;by_cases e:k=i
   ·subst e;exact a
   ·exact l k qa b
theorem Zzw {σ τ R:Type}{f:σ->Option (Step3 σ τ R)}(c:Nat->σ)(g:Nat->Option R)(y:τ):
 ∀ (n i N:Nat),n<N->(∀j,i<=j->j<i+n->f (c j)=match g j with|some r=>some (.fin r)|none=>some (.next (c (j+1))))->f (c (i+n))=some (.out y)->
   iter f N (c i)=some (match scan g n i with|some r=>.inr r|none=>.inl y)
 |0,i,0,h,_,_=>qa
 |0,i,N+1,_,_,h=>by grind[iter,scan]
 |n+1,i,0,h,_,_=>qa
 |n+1,i,N+1,l,d,m=>by
  have e:=d i qa qa;simp only[scan];cases k:g i with
  |some r=>grind[iter]
  |none=>
   rw[k]at e;simp only[iter,e];exact Zzw c g y n (i+1) N qa (λj a b=>d j qa qa) jv
theorem gzt {σ τ R:Type}{f:σ->Option (Step3 σ τ R)}{k:τ->Option R}{x:σ}(a:Nat->σ)(g:Nat->Option R)(y:τ)(n:Nat)(c:x=a 0)(b:n<NN)
 (d:∀j,j<n->f (a j)=match g j with|some r=>some (.fin r)|none=>some (.next (a (j+1)))) (e:f (a n)=some (.out y)):
 andK (iter f NN x) k=match scan g n 0 with|some r=>some r|none=>k y:=by
 rw[c,Zzw a g y n 0 NN b (λj _ h=>d j qa) ju];cases scan g n 0<;>rfl
theorem bzm {σ τ R:Type}{f:σ->Option (Step3 σ τ R)}{k:τ->Option R}{x:σ}(a:Nat->σ)(y:τ)(n:Nat)(e:x=a 0)(b:n<NN)
 (d:∀j,j<n->f (a j)=some (.next (a (j+1)))) (c:f (a n)=some (.out y)):andK (iter f NN x) k=k y:=by
 rw[e,gzm (nza a rfl n b d c)]
theorem az8 {R:Type}{p:Prop}[Decidable p]{k:Option R}(h:p):grd p k=k:=by unfold grd;grind
theorem Zz3 {α:Type}[Inhabited α][En α]{t k:Nat}{l:List α}(h:l.length<4294967296)(hk:k<=32768):(iz8 t k l).run NN=some l:=by
 cases l with
 |nil=>rfl
 |cons a l=>
  simp only[iz8,qj];simp only[qy]at h;have:(l.length+1) * k<=4294967296 * 32768:=qz qa hk;rw[az8 jt,az8 ⟨by simp only[qA,qy,Nat.zero_add];omega,by simp only[qA,qy,azd];omega⟩];rfl
theorem pzu {a:Type}{b:Bool}{x y:a}:(bif b then some x else some y)=some (bif b then x else y):=jv
theorem bzc {σ τ R:Type}{b:Bool}{x y:τ}:(bif b then some (Step3.out x)else some (Step3.out y):Option (Step3 σ τ R))=some (.out (bif b then x else y)):=jv
theorem ezt {b c:Bool}:(bif b then true else c)=(b||c):=by rfl
theorem az86 {b c:Bool}:(bif b then c else false)=(b&&c):=ju
theorem dzh {a b:Int}(c:InR a)(d:0<b):(bz9 a b).o=some (a / b):=by
 show(Dzk a b).run NN=_
 grind[Dzk,qj,az8,az3,azkw]
theorem czf {a b:Int}(c:InR a)(d:0<b):(bz1 a b).o=some (cdiv a b):=by
 show(Hzx a b).run NN=_
 grind[Hzx,qj,az8,az3,azmi]
theorem ez1 (k:Nat):(0:Int)<2 ^ k:=Int.pow_pos qa
theorem Wzm (a:Int)(k:Nat):a.fdiv (2 ^ k)=a / 2 ^ k:=Int.fdiv_eq_ediv_of_nonneg _ (qB (ez1 k))
theorem mz7 (a:Int)(k:Nat)(b:k<=64):(bz7 a (k:Int)).o=some (a / 2 ^ k):=by
 show(mz6 a (k:Int)).run NN=_
 grind[mz6,qj,az8]
theorem up_w {a b:Int}(h:InR a)(d:0<b)(f:InR (b * (a / b))):(bif (qt.wrap (a / b * b) !=a)then qt.wrap (a / b+1)else a / b)=cdiv a b:=by
 rw[Int.mul_comm,f.w];have j:=Uzs (a:=a) d;have i:=az4p (a:=a) d
 symm
 rw[Pzv d];by_cases e:b * (a / b)=a
 ·simp_all
 ·rw[cze e];have:qt.wrap (a / b+1)=a / b+1:=by
   have g:=h.cdiv d;have:cdiv a b=a / b+1:=by rw[Pzv d,Int.mul_add];omega
   rw[this]at g;exact g.w
  rw[this,Int.mul_add];omega
theorem azlr {a:Int}{k:Nat}(c:k<=63)(d:InR a):InR (2 ^ k * (a / 2 ^ k)):=by
 have b:=ez1 k;have g:=Uzs (a:=a) b;obtain⟨h,i⟩:=d;have f: -(2 ^ (63-k))<=a / 2 ^ k:=by
  rw[qC b,Int.neg_mul,<-qD,Nat.sub_add_cancel c];omega
 have e:2 ^ k * -(2:Int) ^ (63-k)<=2 ^ k * (a / 2 ^ k):=qE f qa;rw[qx,<-qD,Nat.add_sub_cancel' c]at e;exact⟨qa,qa⟩
theorem rz9 {a:Int}(k:Nat)(c:k<=63)(b:InR a):(bzj a (k:Int)).o=some (cdiv a (2 ^ k)):=by
 show(rz8 a (k:Int)).run NN=_;simp only[rz8,qj];rw[az9 qa,az8 qa,az8 qa,qF,qG qa,Wzm,bzc,az3,up_w b (ez1 k) (azlr c b)]
theorem sd16 (a:Int):(bz7 a 16).o=some (a / 65536):=mz7 a 16 jr
theorem sd30 (a:Int):(bz7 a 30).o=some (a / 1073741824):=mz7 a 30 jr
theorem sd14 (a:Int):(bz7 a 14).o=some (a / 16384):=mz7 a 14 jr
theorem su16 {a:Int}(h:InR a):(bzj a 16).o=some (cdiv a 65536):=rz9 16 jr h
theorem su30 {a:Int}(h:InR a):(bzj a 30).o=some (cdiv a 1073741824):=rz9 30 jr h
theorem su14 {a:Int}(h:InR a):(bzj a 14).o=some (cdiv a 16384):=rz9 14 jr h
def clV (x:Int):Int:=max (-2147483648) (min x 2147483648)
def vV (a:az0):Bool:=qv (-2147483648<=a.Lo)&&(qv (a.Lo<=a.Hi)&&qv (a.Hi<=2147483648))
theorem vV_iff {a:az0}:vV a=true↔ -2147483648<=a.Lo/\a.Lo<=a.Hi/\a.Hi<=2147483648:=by simp[vV]
def iz:az0:=⟨0,0⟩
def limV (lo a:Int):az0:=⟨clV lo,clV a⟩
def addV (a b:az0):az0:=if vV a&&vV b then limV (a.Lo+b.Lo) (a.Hi+b.Hi)else iz
def negV (a:az0):az0:=if vV a then⟨-a.Hi,-a.Lo⟩else iz
def az06 (a b:az0):Int:=min (min (min (a.Lo * b.Lo) (a.Lo * b.Hi)) (a.Hi * b.Lo)) (a.Hi * b.Hi)
def az05 (a b:az0):Int:=max (max (max (a.Lo * b.Lo) (a.Lo * b.Hi)) (a.Hi * b.Lo)) (a.Hi * b.Hi)
def mulV (a b:az0):az0:=if vV a&&vV b then limV (az06 a b / 65536) (cdiv (az05 a b) 65536)else iz
def az6w (a b:az0):az0:=if vV a&&vV b then⟨min a.Lo b.Lo,max a.Hi b.Hi⟩else iz
def ofV (x:Int):az0:=⟨clV x,clV x⟩
def midV (a:az0):Int:=if vV a then(a.Lo+a.Hi) / 2 else 0
theorem Wzp (a:Int):(yzg a).o=some (clV a):=by
 show(yzh a).run NN=_
 grind[yzh,qj,clV]
theorem cz8 (a:az0):(bzw a).o=some (vV a):=by
 show(ozg a).run NN=_
 grind[ozg,qj,vV]
theorem fz1 (a:az0):(dz7 a).o=some (vV a):=by
 show(Dzq a).run NN=_
 grind[Dzq,qj,vV]
theorem ozk (a b:az0):(jz8 a b).o=some (vV a&&vV b):=by
 show(ozj a b).run NN=_
 grind[ozj,qj,cz8]
theorem kzl (a b:Int):(hzc a b).o=some (limV a b):=by
 show(kzk a b).run NN=_
 grind[kzk,qj,Wzp,limV]
theorem Gzm (a b:Int):(vzu a b).o=some (limV a b):=by
 rfl
theorem iz6 (a:Int):(czi a).o=some (ofV a):=by
 show(yzt a).run NN=_
 grind[yzt,qj,kzl,limV,ofV]
theorem Jzz (a:Int):(nzv a).o=some (ofV a):=by
 rfl
theorem wsum {a b:Int}(c: -2147483648<=a/\a<=2147483648)(d: -2147483648<=b/\b<=2147483648):qt.wrap (a+b)=a+b:=w64 qa qa
theorem wmul {a b:Int}(c: -2147483648<=a/\a<=2147483648)(e: -2147483648<=b/\b<=2147483648):qt.wrap (a * b)=a * b/\ -4611686018427387904<=a * b/\a * b<=4611686018427387904:=by
 have h: -4611686018427387904<=a * b/\a * b<=4611686018427387904:=by
  have d:(a * b).natAbs<=2147483648 * 2147483648:=by rw[qH];exact qz qa qa
  omega
 grind[w64]
theorem uzx (a b:az0):(azn a b).o=some (addV a b):=by
 show(uzw a b).run NN=_;simp only[uzw,qj,ozk,kzl,qI,pzu,addV];cases h:vV a&&vV b
 ·rfl
 grind[vV_iff,wsum]
theorem Mz1 (a b:az0):(bzl a b).o=some (addV a b):=by
 show(Mz0 a b).run NN=_;simp only[Mz0,qj,fz1,Gzm,qI,pzu,addV];cases c:vV a
 ·rfl
 ·cases d:vV b
  ·rfl
  ·simp only[vV_iff]at c d;rw[wsum ⟨qa,qa⟩ ⟨qa,qa⟩,wsum ⟨qa,qa⟩ ⟨qa,qa⟩];rfl
theorem Gz6 (a:az0):(nz9 a).o=some (negV a):=by
 show(vz0 a).run NN=_;simp only[vz0,qj,cz8,qI,pzu,negV];cases h:vV a
 ·rfl
 grind[vV_iff,w64]
theorem Vzf (a:az0):(Fz6 a).o=some (negV a):=by
 show(Mz9 a).run NN=_;simp only[Mz9,qj,fz1,qI,pzu,negV];cases h:vV a
 ·rfl
 grind[vV_iff,w64]
theorem Czq (a b:az0):(fz8 a b).o=some (az6w a b):=by
 show(rzd a b).run NN=_;simp only[rzd,qj,ozk,qI,pzu,az6w];cases h:vV a&&vV b<;>rfl
theorem az3n (a b:az0):(zzu a b).o=some (az6w a b):=by
 show(Hzy a b).run NN=_;simp only[Hzy,qj,fz1,qI,pzu,az6w];cases c:vV a<;>cases d:vV b<;>rfl
theorem Azz (a:az0)(h:vV a=true):(ozh a).o=some (a.Hi-a.Lo):=by
 show(ozi a).run NN=_
 grind[ozi,qj,cz8,vV_iff,w64]
theorem Tzn (a:az0)(x:Int):(Gz4 a x).o=some (vV a&&(qv (a.Lo<=x)&&qv (x<=a.Hi))):=by
 show(uzy a x).run NN=_
 grind[uzy,qj,cz8]
theorem Lzn {a b:Int}(c:InR b):(xz7 a b).o=some (limV (a / 65536) (cdiv b 65536)):=by
 show(mz8 a b).run NN=_
 grind[mz8,qj,sd16,su16,kzl]
theorem azao {a b:az0}(d:vV a=true)(c:vV b=true):InR (az06 a b)/\InR (az05 a b)/\az06 a b<=az05 a b:=by
 simp only[vV_iff]at d c;obtain⟨-,k,j⟩:=wmul (a:=a.Lo) (b:=b.Lo) ⟨qa,qa⟩ ⟨qa,qa⟩;obtain⟨-,g,f⟩:=wmul (a:=a.Lo) (b:=b.Hi) ⟨qa,qa⟩ ⟨qa,qa⟩;obtain⟨-,l,i⟩:=wmul (a:=a.Hi) (b:=b.Lo) ⟨qa,qa⟩ ⟨qa,qa⟩;obtain⟨-,e,h⟩:=wmul (a:=a.Hi) (b:=b.Hi) ⟨qa,qa⟩ ⟨qa,qa⟩
 grind[az06,az05,InR]
theorem Vze (a b:az0):(bz0 a b).o=some (mulV a b):=by
 show(Mz8 a b).run NN=_;simp only[Mz8,qj,fz1,Gzm,qI,pzu,mulV];cases c:vV a
 ·rfl
 ·cases d:vV b
  ·rfl
  ·have e:=azao c d;simp only[vV_iff]at c d
   rw[(wmul (a:=a.Lo) (b:=b.Lo) ⟨qa,qa⟩ ⟨qa,qa⟩).1,(wmul (a:=a.Lo) (b:=b.Hi) ⟨qa,qa⟩ ⟨qa,qa⟩).1,
    (wmul (a:=a.Hi) (b:=b.Lo) ⟨qa,qa⟩ ⟨qa,qa⟩).1,(wmul (a:=a.Hi) (b:=b.Hi) ⟨qa,qa⟩ ⟨qa,qa⟩).1]
   show(bz9 (az06 a b) 65536).o.bind _=_
   grind[dzh,az05,czf]
theorem Gz5 (a b:az0):(azq a b).o=some (mulV a b):=by
 show(uzz a b).run NN=_;simp only[uzz,qj,ozk,qI,mulV];cases h:vV a&&vV b
 ·rfl
 ·simp only[qm]at h;have c:=azao h.1 h.2;simp only[vV_iff]at h
  rw[(wmul (a:=a.Lo) (b:=b.Lo) ⟨qa,qa⟩ ⟨qa,qa⟩).1,(wmul (a:=a.Lo) (b:=b.Hi) ⟨qa,qa⟩ ⟨qa,qa⟩).1,
     (wmul (a:=a.Hi) (b:=b.Lo) ⟨qa,qa⟩ ⟨qa,qa⟩).1,(wmul (a:=a.Hi) (b:=b.Hi) ⟨qa,qa⟩ ⟨qa,qa⟩).1]
  simp only[qJ,qd];refine Eq.trans (bzm (λi=>match i with
   |0=>(a.Lo * b.Lo,a.Lo * b.Lo,0)
   |1=>(a.Lo * b.Lo,a.Lo * b.Lo,1)
   |2=>(min (a.Lo * b.Lo) (a.Lo * b.Hi),max (a.Lo * b.Lo) (a.Lo * b.Hi),2)
   |3=>(min (min (a.Lo * b.Lo) (a.Lo * b.Hi)) (a.Hi * b.Lo),max (max (a.Lo * b.Lo) (a.Lo * b.Hi)) (a.Hi * b.Lo),3)
   |_=>(az06 a b,az05 a b,4)) (az06 a b,az05 a b) 4 rfl jr ?_ ?_) ?_
  all_goals grind[az8,IntKind.wrap,IntKind.bits,az06,az05,Lzn]
def pd1 (x:Int):Int:=qt.wrap (x * 6746518852) / 65536
def pu1 (x:Int):Int:=cdiv (qt.wrap (x * 6746518853)) 65536
def pd (x:Int):Nat->Int
 |0=>pd1 x
 |k+1=>qt.wrap (pd x k * pd1 x) / 1073741824
def pu (x:Int):Nat->Int
 |0=>pu1 x
 |k+1=>cdiv (qt.wrap (pu x k * pu1 x)) 1073741824
theorem Azs (x:Int):(oz7 x).o=some ((1073741824,pd x 0,pd x 1,pd x 2,pd x 3,pd x 4,pd x 5,pd x 6,pd x 7,pd x 8,pd x 9),(1073741824,pu x 0,pu x 1,pu x 2,pu x 3,pu x 4,pu x 5,pu x 6,pu x 7,pu x 8,pu x 9)):=by
 show(oz8 x).run NN=_
 simp_all[oz8,qj,sd16,su16,InR.wr,sd30,su30,pd,pu,pd1,pu1]
theorem Kz2 (x:Int):(zzx x).o=some ((0,pd x 0,pd x 1,pd x 2,pd x 3,pd x 4,pd x 5,pd x 6,pd x 7,pd x 8,pd x 9),(0,pu x 0,pu x 1,pu x 2,pu x 3,pu x 4,pu x 5,pu x 6,pu x 7,pu x 8,pu x 9)):=by
 have a:∀y:Int,(bz9 (qt.wrap y) 65536).o=some (qt.wrap y / 65536):=λy=>dzh (InR.wr _) jr
 have d:∀y:Int,(bz1 (qt.wrap y) 65536).o=some (cdiv (qt.wrap y) 65536):=λy=>czf (InR.wr _) jr
 have c:∀y:Int,(bz9 (qt.wrap y) 1073741824).o=some (qt.wrap y / 1073741824):=λy=>dzh (InR.wr _) jr
 have b:∀y:Int,(bz1 (qt.wrap y) 1073741824).o=some (cdiv (qt.wrap y) 1073741824):=λy=>czf (InR.wr _) jr
 show(zzy x).run NN=_
 simp_all[zzy,qj,pd,pu,pd1,pu1]
theorem azh3 {x:Int}(a:0<=x)(b:x<=8192):0<=pd1 x/\pd1 x<=1073741824:=by
 grind[pd1,w64]
theorem azh6 {x:Int}(a:0<=x)(b:x<=8192):0<=pu1 x/\pu1 x<=1073741824:=by
 grind[pu1,cdiv,w64]
theorem azbc {a b:Int}(d:0<=a/\a<=1073741824)(c:0<=b/\b<=1073741824):0<=a * b/\a * b<=1152921504606846976:=by
 refine⟨qK d.1 c.1,?_⟩;have:=qL d.2 c.2 c.1 (by omega:(0:Int)<=1073741824);omega
theorem azb3 {x:Int}(a:0<=x)(b:x<=8192):∀k,0<=pd x k/\pd x k<=1073741824
 |0=>azh3 a b
 |k+1=>by
  have:=azbc (azb3 a b k) (azh3 a b)
  grind[pd,w64]
theorem azbe {x:Int}(a:0<=x)(b:x<=8192):∀k,0<=pu x k/\pu x k<=1073741824
 |0=>azh6 a b
 |k+1=>by
  have:=azbc (azbe a b k) (azh6 a b)
  grind[pu,w64,cdiv]
theorem dzn {n d:Int}(h:0<=n)(g:n<=1073741824)(b:0<d)(e:d<=1073741824):(dz9 n d).o=some (cdiv n d):=by
 show(qzx n d).run NN=_;simp only[qzx,qj];rw[az8 qa,w64 (x:=n+d) qa qa,w64 (x:=n+d-1) qa qa,Azq qa];have f:=Uzs (a:=n+d-1) b;have i:=az4p (a:=n+d-1) b;have c:=(Mzy (a:=n+d-1) b).1 qa
 grind[w64,Pzv]
def alt (l:List Int):Nat->Int×Int
 |0=>(0,1)
 |k+1=>(qt.wrap ((alt l k).1+qt.wrap ((alt l k).2 * l.getD k qu)),qt.wrap (0- (alt l k).2))
theorem jzg (l:List Int)(h:l.length<4294967296):(czr l).o=some (alt l l.length).1:=by
 show(jzf l).run NN=_;simp only[jzf,qj];refine Eq.trans (bzm (λi=>((alt l i).1,(alt l i).2,(i:Int))) (alt l l.length).1 l.length rfl h ?_ ?_) rfl;all_goals grind[az8,alt,w64n]
theorem alt4 {a b c d:Int}(e:0<=a/\a<=1073741824)(f:0<=b/\b<=1073741824)(g:0<=c/\c<=1073741824)(h:0<=d/\d<=1073741824):(czr [a,b,c,d]).o=some (a-b+c-d):=by
 rw[jzg _ jt];simp[alt,wr];omega
theorem alt5 {a b c d e:Int}(f:0<=a/\a<=1073741824)(g:0<=b/\b<=1073741824)(i:0<=c/\c<=1073741824)(j:0<=d/\d<=1073741824)(h:0<=e/\e<=1073741824):(czr [a,b,c,d,e]).o=some (a-b+c-d+e):=by
 rw[jzg _ jt];simp[alt,wr];omega
theorem alt6 {a b c d e f:Int}(g:0<=a/\a<=1073741824)(h:0<=b/\b<=1073741824)(k:0<=c/\c<=1073741824)(l:0<=d/\d<=1073741824)(j:0<=e/\e<=1073741824)(i:0<=f/\f<=1073741824):(czr [a,b,c,d,e,f]).o=some (a-b+c-d+e-f):=by
 rw[jzg _ jt];simp[alt,wr];omega
def encV (lo a:Int):az0:=⟨max 0 (lo / 16384),min 65536 (cdiv a 16384)⟩
theorem wzw {a b:Int}(c:InR b):(mz0 a b).o=some (encV a b):=by
 show(mz1 a b).run NN=_
 grind[mz1,qj,sd14,su14,encV]
theorem Bz9 {a b:Int}(c:InR a)(d:InR b):(ozu a b).o=some (encV a b):=by
 show(ozv a b).run NN=_
 grind[ozv,qj,dzh,czf,encV]
def sLo (x:Int):Int:=pd x 0-cdiv (pu x 2) 6+pd x 4 / 120-cdiv (pu x 6) 5040
def sHi (x:Int):Int:=pu x 0-pd x 2 / 6+cdiv (pu x 4) 120-pd x 6 / 5040+cdiv (pu x 8) 362880
def cLo (x:Int):Int:=1073741824-cdiv (pu x 1) 2+pd x 3 / 24-cdiv (pu x 5) 720+pd x 7 / 40320-cdiv (pu x 9) 3628800
def cHi (x:Int):Int:=1073741824-pd x 1 / 2+cdiv (pu x 3) 24-pd x 5 / 720+cdiv (pu x 7) 40320
theorem q_bd {a b:Int}(c:0<=a/\a<=1073741824)(d:0<b):0<=a / b/\a / b<=1073741824:=by
 have:=(Mzy (a:=a) d).1 c.1;omega
theorem c_bd {a b:Int}(d:0<=a/\a<=1073741824)(c:0<b):0<=cdiv a b/\cdiv a b<=1073741824:=by
 have h:=az2c (a:=a) c;omega
theorem wq {a b:Int}(c:0<=a/\a<=1073741824)(d:0<b):qt.wrap (a.tdiv b)=a / b:=by
 have:=q_bd c d;grind[w64]
theorem in30 {a:Int}(b:0<=a/\a<=1073741824):InR a:=⟨qa,qa⟩
section
variable {x:Int} (h0:0<=x) (h1:x<=8192)
include h0 h1
theorem Yzw:(Mzv x).o=some (encV (sLo x) (sHi x)):=by
 have P:=azb3 h0 h1;have U:=azbe h0 h1;show(Bzs x).run NN=_
 simp only[Bzs,qj,T.ix,Azs,qI,dzn (U 2).1 (U 2).2 (show(0:Int)<6 by decide) jr,dzn (U 6).1 (U 6).2 (show(0:Int)<5040 by decide) jr,
  dzn (U 4).1 (U 4).2 (show(0:Int)<120 by decide) jr,dzn (U 8).1 (U 8).2 (show(0:Int)<362880 by decide) jr,wq (P 4) (show(0:Int)<120 by decide),wq (P 2) (show(0:Int)<6 by decide),wq (P 6) (show(0:Int)<5040 by decide),
  alt4 (P 0) (c_bd (U 2) (show(0:Int)<6 by decide)) (q_bd (P 4) (show(0:Int)<120 by decide)) (c_bd (U 6) (show(0:Int)<5040 by decide)),
  alt5 (U 0) (q_bd (P 2) (show(0:Int)<6 by decide)) (c_bd (U 4) (show(0:Int)<120 by decide)) (q_bd (P 6) (show(0:Int)<5040 by decide)) (c_bd (U 8) (show(0:Int)<362880 by decide))]
 have f:=U 0;have e:=q_bd (P 2) (show(0:Int)<6 by decide);have g:=c_bd (U 4) (show(0:Int)<120 by decide);have d:=q_bd (P 6) (show(0:Int)<5040 by decide);have c:=c_bd (U 8) (show(0:Int)<362880 by decide);rw[wzw ⟨qa,qa⟩];rfl
theorem Tz4:(Fzy x).o=some (encV (cLo x) (cHi x)):=by
 have P:=azb3 h0 h1;have U:=azbe h0 h1;have a:(0:Int)<=1073741824/\(1073741824:Int)<=1073741824:=jr
 show(uzj x).run NN=_
 simp only[uzj,qj,T.ix,Azs,qI,dzn (U 1).1 (U 1).2 (show(0:Int)<2 by decide) jr,dzn (U 5).1 (U 5).2 (show(0:Int)<720 by decide) jr,dzn (U 9).1 (U 9).2 (show(0:Int)<3628800 by decide) jr,
  dzn (U 3).1 (U 3).2 (show(0:Int)<24 by decide) jr,dzn (U 7).1 (U 7).2 (show(0:Int)<40320 by decide) jr,wq (P 3) (show(0:Int)<24 by decide),wq (P 7) (show(0:Int)<40320 by decide),wq (P 1) (show(0:Int)<2 by decide),wq (P 5) (show(0:Int)<720 by decide),
  alt6 a (c_bd (U 1) (show(0:Int)<2 by decide)) (q_bd (P 3) (show(0:Int)<24 by decide)) (c_bd (U 5) (show(0:Int)<720 by decide)) (q_bd (P 7) (show(0:Int)<40320 by decide)) (c_bd (U 9) (show(0:Int)<3628800 by decide)),
  alt5 a (q_bd (P 1) (show(0:Int)<2 by decide)) (c_bd (U 3) (show(0:Int)<24 by decide)) (q_bd (P 5) (show(0:Int)<720 by decide)) (c_bd (U 7) (show(0:Int)<40320 by decide))]
 have g:=q_bd (P 1) (show(0:Int)<2 by decide);have f:=c_bd (U 3) (show(0:Int)<24 by decide);have d:=q_bd (P 5) (show(0:Int)<720 by decide);have e:=c_bd (U 7) (show(0:Int)<40320 by decide);rw[wzw ⟨qa,qa⟩];rfl
theorem az3q:(Sz0 x).o=some (encV (sLo x) (sHi x)):=by
 have P:=azb3 h0 h1;have U:=azbe h0 h1;show(Iz3 x).run NN=_
 simp only[Iz3,qj,T.ix,Kz2,qI,czf (in30 (U 2)) (show(0:Int)<6 by decide),czf (in30 (U 6)) (show(0:Int)<5040 by decide),czf (in30 (U 4)) (show(0:Int)<120 by decide),czf (in30 (U 8)) (show(0:Int)<362880 by decide),
  dzh (in30 (P 4)) (show(0:Int)<120 by decide),dzh (in30 (P 2)) (show(0:Int)<6 by decide),dzh (in30 (P 6)) (show(0:Int)<5040 by decide),azco,az4c]
 have k:=P 0;have d:=c_bd (U 2) (show(0:Int)<6 by decide);have f:=q_bd (P 4) (show(0:Int)<120 by decide);have e:=c_bd (U 6) (show(0:Int)<5040 by decide);have i:=U 0;have h:=q_bd (P 2) (show(0:Int)<6 by decide);have j:=c_bd (U 4) (show(0:Int)<120 by decide);have g:=q_bd (P 6) (show(0:Int)<5040 by decide);have c:=c_bd (U 8) (show(0:Int)<362880 by decide);rw[w64 (x:=pd x 0-cdiv (pu x 2) 6+pd x 4 / 120-cdiv (pu x 6) 5040) qa qa,w64 (x:=pu x 0-pd x 2 / 6+cdiv (pu x 4) 120-pd x 6 / 5040+cdiv (pu x 8) 362880) qa qa,Bz9 ⟨qa,qa⟩ ⟨qa,qa⟩];rfl
theorem Xzv:(Kz1 x).o=some (encV (cLo x) (cHi x)):=by
 have P:=azb3 h0 h1;have U:=azbe h0 h1;show(zzw x).run NN=_
 simp only[zzw,qj,T.ix,Kz2,qI,czf (in30 (U 1)) (show(0:Int)<2 by decide),czf (in30 (U 5)) (show(0:Int)<720 by decide),czf (in30 (U 9)) (show(0:Int)<3628800 by decide),czf (in30 (U 3)) (show(0:Int)<24 by decide),czf (in30 (U 7)) (show(0:Int)<40320 by decide),
  dzh (in30 (P 3)) (show(0:Int)<24 by decide),dzh (in30 (P 7)) (show(0:Int)<40320 by decide),dzh (in30 (P 1)) (show(0:Int)<2 by decide),dzh (in30 (P 5)) (show(0:Int)<720 by decide),azco,az4c]
 have e:=c_bd (U 1) (show(0:Int)<2 by decide);have j:=q_bd (P 3) (show(0:Int)<24 by decide);have f:=c_bd (U 5) (show(0:Int)<720 by decide);have d:=q_bd (P 7) (show(0:Int)<40320 by decide);have g:=c_bd (U 9) (show(0:Int)<3628800 by decide);have i:=q_bd (P 1) (show(0:Int)<2 by decide);have k:=c_bd (U 3) (show(0:Int)<24 by decide);have h:=q_bd (P 5) (show(0:Int)<720 by decide);have c:=c_bd (U 7) (show(0:Int)<40320 by decide);rw[w64 (x:=1073741824-cdiv (pu x 1) 2+pd x 3 / 24-cdiv (pu x 5) 720+pd x 7 / 40320-cdiv (pu x 9) 3628800) qa qa,w64 (x:=1073741824-pd x 1 / 2+cdiv (pu x 3) 24-pd x 5 / 720+cdiv (pu x 7) 40320) qa qa,Bz9 ⟨qa,qa⟩ ⟨qa,qa⟩];rfl
end
def qV (r:Int):az0:=if r<=8192 then encV (sLo r) (sHi r)else encV (cLo (16384-r)) (cHi (16384-r))
theorem Vzs {r:Int}(a:0<=r)(b:r<=16384):(kzb r).o=some (qV r):=by
 show(yz2 r).run NN=_
 grind[yz2,qj,qV,Yzw,w64,Tz4]
theorem Uz0 {r:Int}(a:0<=r)(b:r<=16384):(izw r).o=some (qV r):=by
 show(vzs r).run NN=_
 grind[vzs,qj,qV,az3q,w64,Xzv]
theorem azcx (a:Int):(((BitVec.ofInt 64 a&&&BitVec.ofInt 64 65535).toNat:Nat):Int)=a % 65536:=by
 have b:(BitVec.ofInt 64 65535).toNat=2 ^ 16-1:=jr
 rw[BitVec.toNat_and,b,Nat.and_two_pow_sub_one_eq_mod,BitVec.toNat_ofInt];omega
theorem qzz (a:Int):(kzd a).o=some (a % 65536):=by
 show(qzy a).run NN=_
 grind[qzy,qj,azcx,w64]
theorem Mz7 (a:Int):(Fz5 a).o=some (a % 65536):=by
 show(Mz6 a).run NN=_
 grind[Mz6,qj,w64]
def sinV (a:Int):az0:=
 if a % 65536 / 16384=0 then qV (a % 65536 % 16384)else if a % 65536 / 16384=1 then qV (16384-a % 65536 % 16384)else
 if a % 65536 / 16384=2 then negV (qV (a % 65536 % 16384))else negV (qV (16384-a % 65536 % 16384))
theorem Pzp (a:Int):(yz1 a).o=some (sinV a):=by
 show(Hz3 a).run NN=_;simp only[Hz3,qj,qzz,qI,sinV]
 grind[w64,Vzs,Gz6]
theorem Vzg (a:Int):(Fz7 a).o=some (sinV a):=by
 show(Mza a).run NN=_;simp only[Mza,qj,Mz7,qI,sinV]
 grind[w64,Uz0,Vzf]
def cosV (a:Int):az0:=sinV (a % 65536+16384)
theorem az26 (a:Int):(Hz1 a).o=some (cosV a):=by
 show(Hz2 a).run NN=_;simp only[Hz2,qj,qzz,qI,cosV]
 grind[w64,Pzp]
theorem az7d (a:Int):(Mz3 a).o=some (cosV a):=by
 show(Mz4 a).run NN=_;simp only[Mz4,qj,Mz7,qI,cosV]
 grind[w64,Vzg]
def Oza (a:az0)(c:Int):Bool:=qv (a.Lo+(c-a.Lo) % 65536<=a.Hi)
def azl0 (b:Bool)(x y:az0):az0:=if b then az6w x y else x
def az0c (a lo d:az0)(b c:Int):az0:=
 if vV a then(if a.Hi-a.Lo>=65536 then⟨-65536,65536⟩else azl0 (Oza a c) (azl0 (Oza a b) (az6w lo d) (ofV 65536)) (ofV (-65536)))else iz
section
variable {a:az0} (h:vV a=true) {c:Int} (h0:0<=c) (h1:c<=65536)
include h h0 h1
theorem pzt:(kzc a c).o=some (Oza a c):=by
 show(yz3 a c).run NN=_;have b:=h;simp only[vV_iff]at b;simp only[yz3,qj,qzz,qI,Tzn,h,qM,Oza];rw[w64 (x:=c-a.Lo) qa qa,w64 qa qa,qg (p:=a.Lo<=_) qa,qM]
theorem Nzj:(Dzr a c).o=some (Oza a c):=by
 show(Dzs a c).run NN=_;have b:=h;simp only[vV_iff]at b;simp only[Dzs,qj,Mz7,qI,Oza];rw[w64 (x:=c-a.Lo) qa qa,w64 qa qa]
end
theorem Yzv (a:az0){t b:Int}(d:0<=t/\t<=65536)(c:0<=b/\b<=65536):(Mzu a t b).o=some (az0c a (cosV a.Lo) (cosV a.Hi) t b):=by
 show(Bzr a t b).run NN=_;simp only[Bzr,qj,cz8,qI,az0c];cases h:vV a
 ·rfl
 ·simp only[qJ,qd,Azz a h,qI,az26,Czq,pzt h d.1 d.2,pzt h c.1 c.2,iz6,if_true];by_cases e:a.Hi-a.Lo>=65536
  ·simp_all
  ·rw[az9 e,qb e];cases Oza a t<;>cases Oza a b<;>rfl
theorem Tz5 (a:az0){t b:Int}(d:0<=t/\t<=65536)(c:0<=b/\b<=65536):(Fzz a t b).o=some (az0c a (sinV a.Lo) (sinV a.Hi) t b):=by
 show(uzk a t b).run NN=_;simp only[uzk,qj,cz8,qI,az0c];cases h:vV a
 ·rfl
 ·simp only[qJ,qd,Azz a h,qI,Pzp,Czq,pzt h d.1 d.2,pzt h c.1 c.2,iz6,if_true];by_cases e:a.Hi-a.Lo>=65536
  ·simp_all
  ·rw[az9 e,qb e];cases Oza a t<;>cases Oza a b<;>rfl
theorem Rzz (a lo c:az0){t b:Int}(d:0<=t/\t<=65536)(f:0<=b/\b<=65536):(Iz1 a lo c t b).o=some (az0c a lo c t b):=by
 show(Iz2 a lo c t b).run NN=_;simp only[Iz2,qj,fz1,qI,az0c];cases h:vV a
 ·rfl
 ·have g:=h;simp only[vV_iff]at g;rw[w64 qa qa];simp only[qJ,qd,qI,az3n,Nzj h d.1 d.2,Nzj h f.1 f.2,Jzz,if_true];by_cases e:a.Hi-a.Lo>=65536
  ·simp_all
  ·rw[az9 e,qb e];cases Oza a t<;>cases Oza a b<;>rfl
def sinO (a:az0):az0:=az0c a (sinV a.Lo) (sinV a.Hi) 16384 49152
def cosO (a:az0):az0:=az0c a (cosV a.Lo) (cosV a.Hi) 0 32768
theorem Pzo (a:az0):(Bzq a).o=some (sinO a):=by
 show(qzw a).run NN=_
 grind[qzw,qj,Tz5,sinO]
theorem Pzn (a:az0):(Bzp a).o=some (cosO a):=by
 show(qzv a).run NN=_
 grind[qzv,qj,Yzv,cosO]
theorem Uz1 (a:az0):(Gzl a).o=some (sinO a):=by
 show(vzt a).run NN=_
 grind[vzt,qj,Vzg,Rzz,sinO]
theorem Tzz (a:az0):(Gzk a).o=some (cosO a):=by
 show(vzr a).run NN=_
 simp_all[vzr,qj,az7d,Rzz,cosO]
abbrev IV3:=az0×az0×az0
abbrev IM3:=IV3×IV3×IV3
def izv:IV3:=(iz,iz,iz)
def Dz0 (v:Int×Int×Int):IV3:=(ofV v.1,ofV v.2.1,ofV v.2.2)
def az7u:IM3:=((ofV 65536,iz,iz),(iz,ofV 65536,iz),(iz,iz,ofV 65536))
def az6e (a b:IV3):IV3:=(addV a.1 b.1,addV a.2.1 b.2.1,addV a.2.2 b.2.2)
def dotV (r v:IV3):az0:=addV (addV (mulV r.1 v.1) (mulV r.2.1 v.2.1)) (mulV r.2.2 v.2.2)
def Uzp (m:IM3)(v:IV3):IV3:=(dotV m.1 v,dotV m.2.1 v,dotV m.2.2 v)
def lim1 (a:az0):az0:=⟨max (-65536) (min a.Lo 65536),max (-65536) (min a.Hi 65536)⟩
def rowV (r:IV3)(b:IM3):IV3:=(lim1 (dotV r (b.1.1,b.2.1.1,b.2.2.1)),lim1 (dotV r (b.1.2.1,b.2.1.2.1,b.2.2.2.1)),lim1 (dotV r (b.1.2.2,b.2.1.2.2,b.2.2.2.2)))
def az8n (a b:IM3):IM3:=(rowV a.1 b,rowV a.2.1 b,rowV a.2.2 b)
def az1x (axis:Int)(a:az0):IM3:=
 if vV a then(if axis=0 then((ofV 65536,iz,iz),(iz,cosO a,negV (sinO a)),(iz,sinO a,cosO a))else
  if axis=1 then((cosO a,iz,sinO a),(iz,ofV 65536,iz),(negV (sinO a),iz,cosO a))else
  if axis=2 then((cosO a,negV (sinO a),iz),(sinO a,cosO a,iz),(iz,iz,ofV 65536))else(izv,izv,izv))else(izv,izv,izv)
def Nzt (v:IV3):bz4:=⟨az7u,v⟩
def az3u:bz4:=⟨az7u,izv⟩
def az2g (a b:bz4):bz4:=⟨az8n a.R b.R,az6e a.T (Uzp a.R b.T)⟩
def az04 (p:bz4)(v:IV3):IV3:=az6e p.T (Uzp p.R v)
def Nzv (k:Int)(a:az0):IV3:=if k=4 then(a,iz,iz)else if k=5 then(iz,a,iz)else(iz,iz,a)
def Jz0 (j:azu)(a:az0):bz4:=
 az2g (Nzt (Dz0 j.XE)) (if j.Xo=1\/j.Xo=2\/j.Xo=3 then⟨az1x (j.Xo-1) a,izv⟩else if j.Xo=4\/j.Xo=5\/j.Xo=6 then Nzt (Nzv j.Xo a)else az3u)
theorem azd5 {a b:Int}(h:a<=b):clV a<=clV b:=by unfold clV;omega
theorem azgf (a:Int): -2147483648<=clV a/\clV a<=2147483648:=by unfold clV;omega
theorem azlf {a b:Int}(h:a<=b):vV (limV a b)=true:=by
 rw[vV_iff];exact⟨(azgf a).1,azd5 h,(azgf b).2⟩
theorem iz_v:vV iz=true:=rfl
theorem of0:ofV 0=iz:=rfl
theorem Wzq {a b c:Int}(h:a<=b)(hc:0<c):a / c<=cdiv b c:=by
 have h1:=Uzs (a:=a) hc;have h2:=Uzs (a:= -b) hc;unfold cdiv;by_cases e:a / c<= -(-b / c)
 ·exact e
 ·exfalso
  have h3:c * (-(-b / c))<c * (a / c):=Int.mul_lt_mul_of_pos_left qa hc;rw[qx]at h3;omega
theorem azlj (a b:az0):vV (mulV a b)=true:=by
 unfold mulV;split
 ·rename_i h;simp only[qm]at h;exact azlf (Wzq (azao h.1 h.2).2.2 jr)
 ·exact iz_v
theorem azhi {x:az0}(h:vV x=true):addV iz x=x:=by
 have hv:=h;rw[vV_iff]at hv;obtain⟨lo,hi⟩:=x;simp only at hv;have e1:clV (0+lo)=lo:=by unfold clV;omega
 have e2:clV (0+hi)=hi:=by unfold clV;omega
 simp only[addV,h,iz_v,qN,if_true,limV];exact congr (congrArg az0.mk e1) e2
theorem add0 (a b:az0):addV ⟨0,0⟩ (mulV a b)=mulV a b:=azhi (azlj a b)
theorem nzb (v:Int×Int×Int):(izq v).o=some (Dz0 v):=by
 show(vz2 v).run NN=_;simp only[vz2,qj,iz6,qI,Dz0]
theorem nzw (v:Int×Int×Int):(uz4 v).o=some (Dz0 v):=by
 show(Dzl v).run NN=_;simp only[Dzl,qj,Jzz,qI,Dz0]
theorem Lzq:matrix_Identity_C.o=some az7u:=by
 show matrix_Identity_T.run NN=_;simp only[matrix_Identity_T,qj,iz6,qI,az7u,iz]
theorem Rzy:ref1_Unit_C.o=some az7u:=by
 show ref1_Unit_T.run NN=_;simp only[ref1_Unit_T,qj,Jzz,qI,az7u,iz]
theorem Nz9 (a b:IV3):(Nz8 a b).o=some (az6e a b):=by
 show(Czw a b).run NN=_;simp only[Czw,qj,uzx,qI,az6e]
theorem Jzy (a b:IV3):(zzs a b).o=some (az6e a b):=by
 show(zzt a b).run NN=_;simp only[zzt,qj,Mz1,qI,az6e]
theorem Gza (m:IM3)(v:IV3):(Gz9 m v).o=some (Uzp m v):=by
 show(vz1 m v).run NN=_;simp only[vz1,qj,uzx,Gz5,qI,add0,Uzp,dotV]
theorem Dzh (m:IM3)(v:IV3):(rzq m v).o=some (Uzp m v):=by
 show(rzr m v).run NN=_;simp only[rzr,qj,Mz1,Vze,qI,Uzp,dotV]
theorem Oz9 (x:Int):(bz3 x).o=some (max (-65536) (min x 65536)):=by
 show(ozn x).run NN=_;simp only[ozn,qj,Option.some.injEq];omega
set_option maxRecDepth 20000 in
theorem Oz8 (a b:IM3):(Bz2 a b).o=some (az8n a b):=by
 show(ozm a b).run NN=_;simp only[ozm,qj,uzx,Gz5,Oz9,qI,add0,az8n,rowV,dotV,lim1]
set_option maxRecDepth 20000 in
theorem Mz2 (a b:IM3):(xze a b).o=some (az8n a b):=by
 show(mzj a b).run NN=_;simp only[mzj,qj,Mz1,Vze,qI,az8n,rowV,dotV,lim1]
theorem Xza (k:Int)(a:az0):(Jz4 k a).o=some (az1x k a):=by
 show(zz2 k a).run NN=_;simp only[zz2,qj,cz8,Pzn,Pzo,Gz6,iz6,qI,az1x,of0];cases h:vV a
 ·rfl
 ·simp only[qJ,qd,if_true];by_cases h0:k=0
  ·rw[gzg h0,qc h0]
  ·rw[gz2 h0,qb h0];by_cases h1:k=1
   ·rw[gzg h1,qc h1]
   ·rw[gz2 h1,qb h1];by_cases h2:k=2
    ·rw[gzg h2,qc h2]
    ·rw[gz2 h2,qb h2];rfl
theorem az3p (k:Int)(a:az0):(Rzx k a).o=some (az1x k a):=by
 show(Iz0 k a).run NN=_;simp only[Iz0,qj,fz1,Tzz,Uz1,Vzf,Jzz,qI,az1x];cases h:vV a
 ·rfl
 ·simp only[qJ,qd,if_true];by_cases h0:k=0
  ·rw[gzg h0,qc h0];rfl
  ·rw[gz2 h0,qb h0];by_cases h1:k=1
   ·rw[gzg h1,qc h1];rfl
   ·rw[gz2 h1,qb h1];by_cases h2:k=2
    ·rw[gzg h2,qc h2];rfl
    ·rw[gz2 h2,qb h2];rfl
theorem Nzf:pose_still_C.o=some izv:=by
 show pose_still_T.run NN=_;simp only[pose_still_T,qj,nzb,qI,Dz0,of0,izv]
theorem nzr (v:IV3):(tzw v).o=some (Nzt v):=by
 show(Dz4 v).run NN=_;simp only[Dz4,qj,Lzq,qI,Nzt]
theorem Dz3:pose_Identity_C.o=some az3u:=by
 show pose_Identity_T.run NN=_;simp only[pose_Identity_T,qj,Nzf,nzr,qI,Nzt,az3u]
theorem az3h (k:Int)(a:az0):(Rzn k a).o=some ⟨az1x k a,izv⟩:=by
 show(Hzp k a).run NN=_;simp only[Hzp,qj,Xza,Nzf,qI]
theorem nzc (a b:bz4):(izs a b).o=some (az2g a b):=by
 show(vz4 a b).run NN=_;have h1:(tzx a).o=(nzs a).run NN:=rfl;simp only[vz4,qj,h1,nzs,qI,Oz8];refine Eq.trans (congrArg (λo=>qO o _) (show(nzd _ _ _ _ _ _ _ _ _ _ _ _ _ _ _ _ _ _ _ _ _ _ _ _ _).o=(izt _ _ _ _ _ _ _ _ _ _ _ _ _ _ _ _ _ _ _ _ _ _ _ _ _).run NN from rfl)) ?_;simp only[izt,qj,Gza,Nz9,qI];rfl
theorem Nze (a:bz4)(v:IV3):(Dz1 a v).o=some (az04 a v):=by
 show(Dz2 a v).run NN=_;have h1:(tzx a).o=(nzs a).run NN:=rfl;simp only[Dz2,qj,h1,nzs,qI];refine Eq.trans (congrArg (λo=>qO o _) (show(nzd _ _ _ _ _ _ _ _ _ _ _ _ _ _ _ _ _ _ _ _ _ _ _ _ _).o=(izt _ _ _ _ _ _ _ _ _ _ _ _ _ _ _ _ _ _ _ _ _ _ _ _ _).run NN from rfl)) ?_;simp only[izt,qj,Gza,Nz9,qI];rfl
theorem Rzv:ref1_Rest_C.o=some az3u:=by
 show ref1_Rest_T.run NN=_;simp only[ref1_Rest_T,qj,Rzy,qI];rfl
theorem Dzo (v:IV3):(Dzm v).o=some (Nzt v):=by
 show(Dzn v).run NN=_;simp only[Dzn,qj,Rzy,qI,Nzt]
theorem Rzw (k:Int)(a:az0):(Dzp k a).o=some ⟨az1x k a,izv⟩:=by
 show(rzt k a).run NN=_;simp only[rzt,qj,az3p,qI];rfl
theorem nze (a b:bz4):(vzp a b).o=some (az2g a b):=by
 show(vzq a b).run NN=_;simp only[vzq,qj,Mz2,Dzh,Jzy,qI,az2g]
theorem Nzi (a:bz4)(v:IV3):(Dzi a v).o=some (az04 a v):=by
 show(Dzj a v).run NN=_;simp only[Dzj,qj,Dzh,Jzy,qI,az04]
theorem az29 (k:Int)(a:az0):(Pzt k a).o=some ⟨az1x k a,izv⟩:=by
 show(Hz5 k a).run NN=_;simp only[Hz5,qj,az3h,qI]
theorem az28 (k:Int)(a:az0):(Pzs k a).o=some az3u:=by
 show(Hz4 k a).run NN=_;simp only[Hz4,qj,Dz3,qI]
theorem Yzy {k:Int}(a:az0)(h:k=4\/k=5\/k=6):(Mzw (k-4) a).o=some (Nzt (Nzv k a)):=by
 show(Bzt (k-4) a).run NN=_;simp only[Bzt,qj];rcases h with rfl|rfl|rfl
 ·simp only[show((4-4:Int)==0)=true from rfl,qe,az3,nzr];rfl
 ·simp only[show((5-4:Int)==0)=false from rfl,show((5-4:Int)==1)=true from rfl,qe,qd,az3,nzr];rfl
 ·simp only[show((6-4:Int)==0)=false from rfl,show((6-4:Int)==1)=false from rfl,show((6-4:Int)==2)=true from rfl,qe,qd,az3,nzr];rfl
theorem az6z (k a b c:Int){R:Type}:(bif k==a then some (.out (k==a))else bif k==b then some (.out (k==b))else some (.out (k==c)):Option (Step3 Unit Bool R))=some (.out (qv (k=a\/k=b\/k=c))):=by
 by_cases h1:k=a
 ·rw[gzg h1];simp[h1]
 ·rw[gz2 h1];by_cases h2:k=b
  ·rw[gzg h2];simp[h2]
  ·rw[gz2 h2];simp[h1,h2,Bool.beq_eq_decide_eq]
theorem mo0 (k:Int):(gz5 k).o=if k=1\/k=2\/k=3 then some (k-1)else none:=by
 show(gz6 k).run NN=_;simp only[gz6,qj,az6z,az3];by_cases h:k=1\/k=2\/k=3
 ·rw[az5 h,qc h,w64 qa qa]
 ·rw[az9 h,qb h];cases qv (k=4\/k=5\/k=6)<;>rfl
theorem mo1 (k:Int)(h:¬ (k=1\/k=2\/k=3)):(gz7 k).o=if k=4\/k=5\/k=6 then some (k-4)else none:=by
 show(gz8 k).run NN=_;simp only[gz8,qj,az6z,az3];rw[az9 h];by_cases h:k=4\/k=5\/k=6
 ·rw[az5 h,qc h,w64 qa qa]
 ·rw[az9 h,qb h]
theorem mo2 (k:Int)(h:¬ (k=1\/k=2\/k=3))(h':¬ (k=4\/k=5\/k=6)):(jzu k).o=some 0:=by
 show(gz9 k).run NN=_;simp only[gz9,qj,az6z,az3];rw[az9 h,az9 h']
theorem Jz1 (j:azu)(a:az0):(tzj j a).o=some (Jz0 j a):=by
 show(kzm j a).run NN=_;simp only[kzm,qj,nzb,nzr,qI,mo0,Jz0];by_cases h:j.Xo=1\/j.Xo=2\/j.Xo=3
 ·simp only[qc h,qP,qe,qI,az29,nzc]
 ·simp only[qb h,qQ,qd,mo1 _ h];by_cases h':j.Xo=4\/j.Xo=5\/j.Xo=6
  ·simp only[qc h',qP,qe,qI,Yzy a h',nzc]
  ·simp only[qb h',qQ,qd,mo2 _ h h',qI,az28,nzc]
theorem azm4 (k:Int)(a:az0){R:Type}(h:k=4\/k=5\/k=6):(bif qt.wrap (k-4)==0 then some (.out (a.Lo,a.Hi,0,0,0,0))else bif qt.wrap (k-4)==1 then some (.out (0,0,a.Lo,a.Hi,0,0))else
 bif qt.wrap (k-4)==2 then some (.out (0,0,0,0,a.Lo,a.Hi))else none:Option (Step3 Unit (Int×Int×Int×Int×Int×Int) R))=some (.out ((Nzv k a).1.Lo,(Nzv k a).1.Hi,(Nzv k a).2.1.Lo,(Nzv k a).2.1.Hi,(Nzv k a).2.2.Lo,(Nzv k a).2.2.Hi)):=by
 rw[w64 qa qa];rcases h with rfl|rfl|rfl<;>rfl
theorem Xzn (j:azu)(a:az0):(Jzm j a).o=some (Jz0 j a):=by
 show(zz8 j a).run NN=_;simp only[zz8,qj,Rzv,qI,az6z,az3,Jz0];by_cases h:j.Xo=1\/j.Xo=2\/j.Xo=3
 ·simp only[az5 h,qc h,Rzw,qI,az3,nzw,Dzo,nze];rw[w64 qa qa]
 ·simp only[az9 h,qb h];by_cases h':j.Xo=4\/j.Xo=5\/j.Xo=6
  ·simp only[az5 h',qc h',azm4 _ _ h',az3,nzw,Dzo,nze,qI]
  ·simp only[az9 h',qb h',az3,nzw,Dzo,nze,qI]
theorem dz8 {R:Type}{f:Int->Option (Step3 Int U0 R)}{k:U0->Option R}(g:Nat->Option R)(n:Nat)(a:n<4294967296)
 (c:∀j,j<n->f (j:Int)=match g j with|some r=>some (.fin r)|none=>some (.next ((j+1:Nat):Int))) (b:f (n:Int)=some (.out .u)):
 andK (iter f NN 0) k=match scan g n 0 with|some r=>some r|none=>k .u:=gzt (λj=>(j:Int)) g .u n rfl a c b
theorem wn {n:Nat}(h:n<4294967296):qt.wrap ((n:Int)+1)=((n+1:Nat):Int):=w64n qa
def sw {R:Type}(b:Bool)(r:R):Option R:=bif b then some r else none
theorem czn {σ τ R:Type}{b:Bool}{r:R}{x:σ}:(bif b then some (.fin r)else some (.next x):Option (Step3 σ τ R))=match sw b r with|some r=>some (.fin r)|none=>some (.next x):=by cases b<;>rfl
def azz (g:Nat->Bool)(n:Nat):Bool:=qv (∀i,i<n->g i=false)
theorem bze {R:Type}{g:Nat->Bool}{n:Nat}{r:R}:scan (λi=>sw (g i) r) n 0=sw (!azz g n) r:=by
 cases h:scan (λi=>sw (g i) r) n 0<;>grind[sw,dzp,azz,ezb]
theorem noneB_iff {g:Nat->Bool}{n:Nat}:azz g n=true↔∀i,i<n->g i=false:=by simp[azz]
theorem Rz3 {g a:Nat->Bool}{n:Nat}(h:∀i,i<n->g i=a i):azz g n=azz a n:=by
 grind[azz]
theorem azky (s:ByteArray)(i:Nat):s.get! i=s.data.getD i 0:=by
 rfl
def Nzy (s:ByteArray)(i:Nat):Nat:=(s.data.getD i 0).toNat
theorem azgl {s:ByteArray}{i:Nat}(h:Nzy s i<128):Utf8.decode s i=(Nzy s i,1):=by
 exact qc h
theorem azkr {s:ByteArray}{i:Nat}(h:128<=Nzy s i):128<=(Utf8.decode s i).1:=by
 grind[Lib.decode_at,azky,Lib.decodeN,Nzy]
def badN (s:ByteArray)(i:Nat):Bool:=qv (¬ (97<=Nzy s i/\Nzy s i<=122)/\(i=0\/(Nzy s i≠95/\¬ (48<=Nzy s i/\Nzy s i<=57))))
def Hzn (s:ByteArray):Bool:= !(qv (s.size=0)||(qv (16<s.size)||(s==⟨#[119,111,114,108,100]⟩)))&&azz (badN s) s.size
theorem Sz7 (s:ByteArray):(Iz5 s).o=some (Hzn s):=by
 show(Iz6 s).run NN=_;simp only[Iz6,qj,bzc,az3,Hzn,ezt];have a:qv ((s.size:Int)<1)=qv (s.size=0):=jv
 have b:qv ((s.size:Int)>16)=qv (16<s.size):=jv
 rw[a,b];cases h:(qv (s.size=0)||(qv (16<s.size)||(s==⟨#[119,111,114,108,100]⟩)))
 ·simp only[qp,qi]at h;refine(dz8 (λi=>sw (badN s i) false) s.size qa (λj c=>?_) ?_).trans ?_
  ·rw[az5 qa,<-czn,wn qa];simp only[qF,az8 (show 0<=(j:Int)/\(j:Int)<(s.size:Int) from qa),bzc,az3]
   grind[badN,Nzy]
  ·simp_all
  ·rw[bze];cases azz (badN s) s.size<;>rfl
 ·rfl
theorem Pz6 (a:Int):(Bzf a).o=some (qv (97<=a)&&qv (a<=122)):=by
 show(pzn a).run NN=_
 grind[pzn,qj]
theorem Szw (a:Int):(Ezs a).o=some (qv (48<=a)&&qv (a<=57)):=by
 show(tz0 a).run NN=_
 grind[tz0,qj]
theorem Nzx (s:ByteArray):(Ezq s).o=some (Hzn s):=by
 show(Ezr s).run NN=_;simp only[Ezr,qj,bzc,az3,Hzn,ezt];have e:((s.size:Int)==0)=qv (s.size=0):=jv
 have d:qv ((s.size:Int)>16)=qv (16<s.size):=jv
 rw[e,d];cases h:(qv (s.size=0)||(qv (16<s.size)||(s==⟨#[119,111,114,108,100]⟩)))
 ·simp only[qp,qi]at h;refine(gzt (λj=>j) (λi=>sw (badN s i) false) .u s.size rfl (show s.size<4294967296 from qa) (λj f=>?_) ?_).trans ?_
  ·rw[az5 f];simp only[Pz6,Szw,qI,bzc,az3]
   have a:(bif !(qv (97<=((Utf8.decode s j).1:Int))&&qv (((Utf8.decode s j).1:Int)<=122))then bif ((j:Int)==0)then true else
    bif !(qv (48<=((Utf8.decode s j).1:Int))&&qv (((Utf8.decode s j).1:Int)<=57))then((Utf8.decode s j).1:Int) !=95 else false else false)=badN s j:=by
    by_cases g:Nzy s j<128
    ·grind[azgl,badN]
    grind[azkr,badN]
   rw[a];cases c:badN s j
   ·have:Nzy s j<128:=by
     grind[badN]
    rw[azgl this];rfl
   ·rfl
  ·simp_all
  ·rw[bze];cases azz (badN s) s.size<;>rfl
 ·rfl
def Qzi (l:List azu)(a:ByteArray)(i:Nat):Bool:=(l.getD i qu).XH==a
theorem az17 (r:azj)(a:ByteArray)(h:r.Xc.length<4294967296):(Nzr r a).o=some (match scan (λi=>sw (Qzi r.Xc a i) (i:Int)) r.Xc.length 0 with|some x=>x|none=> -1):=by
 show(Ezc r a).run NN=_;simp only[Ezc,qj];refine(dz8 (λi=>sw (Qzi r.Xc a i) (i:Int)) r.Xc.length h (λj b=>?_) ?_).trans ?_;all_goals grind[az8,wn,sw,Qzi]
theorem azhn (b:ByteArray):(b==b)=true:=by
 obtain⟨d⟩:=b;show(d==d)=true
 simp_all
theorem azi6 {l:List azu}{i:Nat}(b:i<l.length):((match scan (λk=>sw (Qzi l (l.getD i qu).XH k) (k:Int)) l.length 0 with|some x=>x|none=> -1) !=(i:Int))= !azz (Qzi l (l.getD i qu).XH) i:=by
 have a:Qzi l (l.getD i qu).XH i=true:=azhn _;cases h:scan (λk=>sw (Qzi l (l.getD i qu).XH k) (k:Int)) l.length 0 with
 |none=>
  grind[dzp,sw]
 |some x=>
  grind[ezb,sw,noneB_iff]
def jzj (v:Int×Int×Int)(m:Int):Bool:=qv (-m<=v.1)&&(qv (v.1<=m)&&(qv (-m<=v.2.1)&&(qv (v.2.1<=m)&&(qv (-m<=v.2.2)&&qv (v.2.2<=m)))))
theorem nearV_iff {v:Int×Int×Int}{m:Int}:jzj v m=true↔(-m<=v.1/\v.1<=m)/\(-m<=v.2.1/\v.2.1<=m)/\(-m<=v.2.2/\v.2.2<=m):=by
 grind[jzj]
theorem fzb (v:Int×Int×Int){m:Int}(a:0<=m)(b:m<=9223372036854775807):(ezn v m).o=some (jzj v m):=by
 show(Iz7 v m).run NN=_;simp only[Iz7,qj,bzc,az3]
 grind[w64,nearV_iff]
def bey (x:Int):Bool:=qv (x< -4194304)||qv (x>4194304)
theorem Gzu (v:Int×Int×Int):(wzf v).o=some (!jzj v 4194304):=by
 show(wzg v).run NN=_;simp only[wzg,qj,bzc,az3,ezt];refine(dz8 (λi=>sw (bey (([v.1,v.2.1,v.2.2]:List Int).getD i 0)) true) 3 jr (λj e=>?_) ?_).trans ?_
 ·rw[az5 qa,az8 qa,wn qa,qF,<-czn];rfl
 ·rfl
 ·rw[bze];have:azz (λi=>bey (([v.1,v.2.1,v.2.2]:List Int).getD i 0)) 3=jzj v 4194304:=by
   rw[qR,noneB_iff,nearV_iff];constructor
   ·intro h;have a:=h 0 jr;have b:=h 1 jr;have c:=h 2 jr
    grind[bey]
   grind[bey]
  rw[this];cases jzj v 4194304<;>rfl
def nzt (k:Int):Int:=if k=0 then 0 else if k=1\/k=2\/k=3 then 524288 else 4194304
theorem Yz3 {k:Int}(a:0<=k)(b:k<=6):(Kzc k).o=some (nzt k):=by
 show(Azf k).run NN=_;simp only[Azf,qj,az6z,az3,nzt]
 grind
theorem az14 (k:Int):(Nzp k).o=some (nzt k):=by
 show(Ez5 k).run NN=_;simp only[Ez5,qj,az6z,az3,nzt]
 grind
def betV (x a b:Int):Bool:=qv (a<=x)&&qv (x<=b)
theorem Kzb (x m:Int):(izd x m).o=some (betV x 1 m):=by
 show(Aze x m).run NN=_
 grind[Aze,qj,betV]
theorem wzd (x a b:Int):(fzs x a b).o=some (betV x a b):=by
 show(wzc x a b).run NN=_
 grind[wzc,qj,betV]
def az8o (j:azu):Bool:=betV j.XL 1 1024&&(betV j.XU 1 1048576&&(betV j.XV 1 1048576&&betV j.XR 1 1099511627776))
def Izz (l:List azu)(i:Nat):Int:=
 let j:=l.getD i qu
 if !Hzn j.XH|| !azz (Qzi l j.XH) i then 802 else if qv (j.Xo<0)||qv (j.Xo>6)then 803 else if qv (j.XD< -1)||qv (j.XD>=(i:Int))then 804 else if !jzj j.XE 4194304 then 805 else
 if qv (j.Lo>j.Hi)||(qv (j.Lo< -nzt j.Xo)||qv (j.Hi>nzt j.Xo))then 806 else if !az8o j then 807 else 0
theorem azkp:∀a b c d:Bool,(bif !a||(!b||(!c|| !d))then some (807:Int)else some 0)=some (if(!(a&&(b&&(c&&d))))=true then 807 else 0):=jr
theorem Fz3 (k:Int):0<=nzt k/\nzt k<=4194304:=by grind[nzt]
theorem az07 (k:Int):qt.wrap (0-nzt k)= -nzt k:=by
 have:=Fz3 k;grind[w64]
theorem Kza (r:azj){i:Nat}(a:i<r.Xc.length)(h:r.Xc.length<4294967296):(uz9 r (i:Int)).o=some (Izz r.Xc i):=by
 show(lz8 r (i:Int)).run NN=_;simp only[lz8,qj];rw[az8 qa,qF];simp only[Nzx,az17 r _ h,Gzu,Kzb,qI,bzc,az3,Izz];rw[azi6 a];generalize r.Xc.getD i qu=j;cases e:Hzn j.XH
 ·rfl
 ·cases d:azz (Qzi r.Xc j.XH) i
  ·rfl
  ·by_cases c:j.Xo<0
   ·simp_all
   ·by_cases b:j.Xo>6
    ·simp_all
    ·simp only[qh c,qh b,qd,Bool.or_self,qb qS,Yz3 (show 0<=j.Xo from qa) qa,qI,az07,ezt];cases qv (j.XD< -1)||qv (j.XD>=(i:Int))
     ·cases jzj j.XE 4194304
      ·rfl
      ·cases qv (j.Lo>j.Hi)||(qv (j.Lo< -nzt j.Xo)||qv (j.Hi>nzt j.Xo));all_goals simp_all[az8o,azkp]
     ·rfl
theorem Mzb (l:List azu){i:Nat}(d:i<l.length)(h:l.length<4294967296):(xzf l (i:Int)).o=some (Izz l i):=by
 show(mzt l (i:Int)).run NN=_;simp only[mzt,qj];rw[az8 qa,qF];simp only[Sz7,qI,Izz];cases c:Hzn (l.getD i qu).XH
 ·rfl
 ·refine(dz8 (λk=>sw (Qzi l (l.getD i qu).XH k) 802) i qa (λj a=>?_) ?_).trans ?_
  ·rw[az5 qa,az8 qa,wn qa,qF,<-czn];rfl
  ·simp_all
  ·rw[bze];generalize l.getD i qu=j;cases b:azz (Qzi l j.XH) i
   ·rfl
   ·simp only[qJ,sw,qd,fzb _ (show(0:Int)<=4194304 by decide) jr,az14,wzd,qI,az07,bzc,az3,ezt];cases qv (j.Xo<0)||qv (j.Xo>6)
    ·cases qv (j.XD< -1)||qv (j.XD>=(i:Int))
     ·cases jzj j.XE 4194304
      ·rfl
      ·cases qv (j.Lo>j.Hi)||(qv (j.Lo< -nzt j.Xo)||qv (j.Hi>nzt j.Xo))
       ·exact azkp _ _ _ _
       ·rfl
     ·rfl
    ·rfl
def tab {a:Type}(f:Nat->a)(n:Nat):List a:=(List.range n).map f
theorem ezk {a:Type}(f:Nat->a)(n:Nat):tab f (n+1)=tab f n++[f n]:=by simp[tab,qT]
theorem bzf {a:Type}(f:Nat->a)(n:Nat):(tab f n).length=n:=by simp[tab]
theorem hzb {a:Type}{f:Nat->a}{n i:Nat}{d:a}(h:i<n):(tab f n).getD i d=f i:=by grind[tab]
theorem azch {a:Type}{f g:Nat->a}{n:Nat}(h:∀i,i<n->f i=g i):tab f n=tab g n:=by
 grind[tab,List.map_congr_left]
def half {a:Type}(f:Nat->a)(z:a)(n j:Nat):List a:=tab f j++List.replicate (n-j) z
theorem yzq {a:Type}{f:Nat->a}{z:a}{n j:Nat}(h:j<=n):(half f z n j).length=n:=by grind[half,bzf]
theorem yzr {a:Type}{f:Nat->a}{z:a}{n j:Nat}(h:j<n):(half f z n j).set j (f j)=half f z n (j+1):=by
 unfold half;rw[List.set_append_right _ _ (by rw[bzf];omega),bzf,Nat.sub_self];obtain⟨m,b⟩:∃m,n-j=m+1:=⟨n-j-1,qa⟩
 grind[ezk]
theorem Ezz {a:Type}(f:Nat->a)(z:a)(n:Nat):half f z n n=tab f n:=by simp[half]
def az72 (n:Nat)(m:bzu):Bool:=(qv (0<=m.XB)&&qv (m.XB<(n:Int)))&&(betV m.XX 1 65536&&jzj m.XP 4194304)
theorem Mzf (r:azj)(m:bzu):(xzh r m).o=some (az72 r.Xc.length m):=by
 show(mzv r m).run NN=_;simp only[mzv,qj,Kzb,Gzu,qI,az72]
 grind
def badM (n:Nat)(l:List bzu)(i:Nat):Bool:= !az72 n (l.getD i qu)
theorem azie (l:List bzu)(a:List azu)(b:List bzu)(h:l.length<4294967296):(fz3 l a b).o=some (match scan (λi=>sw (badM a.length l i) (i:Int)) l.length 0 with|some x=>x|none=> -1,a,b):=by
 show(dzd l a b).run NN=_;simp only[dzd,qj];have d:∀m,(Ezb m a b).o=some (!az72 a.length m,a,b):=λm=>by
  show(szd m a b).run NN=_
  simp_all[szd,qj,Mzf]
 refine(gzt (λj=>(a,b,(j:Int))) (λi=>sw (badM a.length l i) ((i:Int),a,b)) (a,b) l.length rfl h (λj e=>?_) ?_).trans ?_
 ·rw[az5 ju,az8 ⟨jt,ju⟩];simp only[d,qI,qF];rw[wn qa];unfold badM;cases az72 a.length (l.getD j qu)<;>rfl
 ·simp_all
 ·have:∀n i,scan (λi=>sw (badM a.length l i) ((i:Int),a,b)) n i=(scan (λi=>sw (badM a.length l i) (i:Int)) n i).map λx=>(x,a,b):=by
   intro n;induction n with
   |zero=>intro i;rfl
   |succ n c=>
    intro i;simp only[scan];cases badM a.length l i with
    |true=>rfl
    |false=>exact c (i+1)
  grind
theorem Ezf {g:Nat->Bool}{n:Nat}:qv ((match scan (λi=>sw (g i) (i:Int)) n 0 with|some x=>x|none=> -1)>=0)= !azz g n:=by
 grind[sw,dzp,noneB_iff,ezb]
theorem azhs (l:List bzu)(a:List azu)(b:List bzu)(h:l.length<4294967296):(ezd l a b).o=some (!azz (badM a.length l) l.length,a,b):=by
 show(czx l a b).run NN=_
 grind[czx,qj,azie,Ezf]
def errJ (l:List azu)(i:Nat):Option Int:=sw (Izz l i !=0) (Izz l i)
def czv (r:azj):Int:=
 if r.Xc.length=0\/10<r.Xc.length then 801 else match scan (errJ r.Xc) r.Xc.length 0 with
  |some e=>e
  |none=>if 32<r.Xv.length\/azz (badM r.Xc.length r.Xv) r.Xv.length=false then 808 else 0
theorem Azd (r:azj):(ezy r).o=some (czv r):=by
 show(Azc r).run NN=_;simp only[Azc,qj,bzc,az3,czv];by_cases h:r.Xc.length=0\/10<r.Xc.length
 ·grind
 ·rw[qb h,gz2 qa,az9 qa];refine(dz8 (errJ r.Xc) r.Xc.length qa (λj b=>?_) ?_).trans ?_
  ·rw[az5 qa];simp only[Kza ⟨r.Xc,r.Xv⟩ b (show r.Xc.length<4294967296 from qa),qI];rw[wn qa,czn];rfl
  ·simp_all
  ·cases scan (errJ r.Xc) r.Xc.length 0 with
   |some e=>rfl
   |none=>
    by_cases a:32<r.Xv.length
    ·rw[az5 qa,qc (Or.inl a)];rfl
    ·rw[az9 qa,azhs _ _ _ qa];cases c:azz (badM r.Xc.length r.Xv) r.Xv.length
     ·rw[qc (Or.inr rfl)];rfl
     ·rw[qb ju];rfl
theorem dz1 (r:azj):(cz9 r).o=some (czv r):=by
 show(mzr r).run NN=_;simp only[mzr,qj,bzc,az3,czv];by_cases h:r.Xc.length=0\/10<r.Xc.length
 ·grind
 ·rw[qb h,az9 qa,az9 qa];refine(dz8 (errJ r.Xc) r.Xc.length qa (λj a=>?_) ?_).trans ?_
  ·rw[az5 qa];simp only[Mzb r.Xc a (show r.Xc.length<4294967296 from qa),qI];rw[wn qa,czn];rfl
  ·simp_all
  ·cases scan (errJ r.Xc) r.Xc.length 0 with
   |some e=>rfl
   |none=>
    by_cases c:32<r.Xv.length
    ·grind
    ·rw[az9 qa];refine(dz8 (λi=>sw (badM r.Xc.length r.Xv i) 808) r.Xv.length qa (λj a=>?_) ?_).trans ?_
     ·rw[az5 qa,az8 qa,wn qa,qF,<-czn]
      grind[wzd,fzb,az3,badM,az72]
     ·simp_all
     ·rw[bze];cases b:azz (badM r.Xc.length r.Xv) r.Xv.length
      ·rw[qc (Or.inr rfl)];rfl
      ·rw[qb ju];rfl
theorem dzy {r:azj}(h:czv r=0):1<=r.Xc.length/\r.Xc.length<=10/\∀i,i<r.Xc.length->Izz r.Xc i=0:=by
 unfold czv at h
 grind[ezb,errJ,sw,dzp]
def tz5 (n:Nat)(k:Int):Bool:=qv (-1<=k)&&qv (k<(n:Int))
theorem Gzv (s:az7)(k:Int):(nzk s k).o=some (tz5 s.Xg.Xc.length k):=by
 show(wzh s k).run NN=_
 grind[wzh,qj,tz5]
theorem lz5 (r:azj)(k:Int):(ezx r k).o=some (tz5 r.Xc.length k):=by
 show(Az9 r k).run NN=_
 grind[Az9,qj,tz5]
def farP (l:List (Int×Int×Int))(i:Nat):Bool:= !jzj (l.getD i qu) 4194304
def xzk (n:Nat)(x:azh):Int:=
 if(tz5 n x.XB&&betV x.XF 1 1048576)=false\/x.Xb.length=0\/8<x.Xb.length then 902 else if azz (farP x.Xb) x.Xb.length then 0 else 805
theorem far3 (v:Int×Int×Int):azz (λi=>bey (([v.1,v.2.1,v.2.2]:List Int).getD i 0)) 3=jzj v 4194304:=by
 rw[qR,noneB_iff,nearV_iff];constructor
 ·intro h;have a:=h 0 jr;have b:=h 1 jr;have c:=h 2 jr
  grind[bey]
 grind[bey]
theorem Kzf (s:az7)(x:azh):(uza s x).o=some (xzk s.Xg.Xc.length x):=by
 show(lzb s x).run NN=_;simp only[lzb,qj,Gzv,qI,bzc,az3,xzk];cases l:tz5 s.Xg.Xc.length x.XB
 ·rfl
 ·simp only[qJ,qd,qM];by_cases a:x.XF<1
  ·grind[betV]
  ·rw[az9 a];by_cases b:x.XF>1048576
   ·grind[betV]
   ·rw[az9 b];by_cases e:x.Xb.length=0
    ·simp_all
    ·rw[az9 qa];by_cases g:8<x.Xb.length
     ·grind
     ·have c:betV x.XF 1 1048576=true:=by simp[betV];omega
      rw[az9 qa,c,qb (λd=>jv)];refine(dz8 (λi=>sw (farP x.Xb i) 805) x.Xb.length qa (λj h=>?_) ?_).trans ?_
      ·rw[az5 qa,az8 qa,qF,wn qa];refine(dz8 (λi=>sw (bey (([(x.Xb.getD j qu).1,(x.Xb.getD j qu).2.1,(x.Xb.getD j qu).2.2]:List Int).getD i 0)) (Step3.fin 805)) 3 jr (λk f=>?_) ?_).trans ?_
       ·rw[az5 qa,az8 qa,wn qa,qF,<-czn];rfl
       ·rfl
       ·rw[bze,far3];unfold farP;cases jzj (x.Xb.getD j qu) 4194304<;>rfl
      ·simp_all
      ·rw[bze];cases azz (farP x.Xb) x.Xb.length<;>rfl
def errS (n:Nat)(l:List azh)(i:Nat):Option Int:=sw (xzk n (l.getD i qu) !=0) (xzk n (l.getD i qu))
def badK (n:Nat)(l:List ezj)(i:Nat):Bool:= !(tz5 n (l.getD i qu).A&&tz5 n (l.getD i qu).B)
def bzv (s:az7):Int:=
 if czv s.Xg≠0 then czv s.Xg else if 24<s.Xe.length then 901 else match scan (errS s.Xg.Xc.length s.Xe) s.Xe.length 0 with
  |some e=>e
  |none=>if 64<s.Xr.length then 903 else if azz (badK s.Xg.Xc.length s.Xr) s.Xr.length then 0 else 903
theorem ize (s:az7):(ez8 s).o=some (bzv s):=by
 show(Azg s).run NN=_;simp only[Azg,qj,Azd,qI,bzv];by_cases h:czv s.Xg=0
 ·rw[bz8 h,qb qa];by_cases c:24<s.Xe.length
  ·grind
  ·rw[az9 qa,qb c];refine(dz8 (errS s.Xg.Xc.length s.Xe) s.Xe.length qa (λj a=>?_) ?_).trans ?_
   ·rw[az5 qa,az8 qa,wn qa,qF];simp only[Kzf,qI];rw[czn];rfl
   ·simp_all
   ·cases scan (errS s.Xg.Xc.length s.Xe) s.Xe.length 0 with
    |some e=>rfl
    |none=>
     by_cases b:64<s.Xr.length
     ·grind
     ·rw[az9 qa,qb b];refine(dz8 (λi=>sw (badK s.Xg.Xc.length s.Xr i) 903) s.Xr.length qa (λj a=>?_) ?_).trans ?_
      ·rw[az5 qa,az8 qa,wn qa,qF,<-czn]
       grind[Gzv,az3,badK]
      ·simp_all
      ·rw[bze];cases azz (badK s.Xg.Xc.length s.Xr) s.Xr.length<;>rfl
 grind
theorem czb (s:az7):(cza s).o=some (bzv s):=by
 show(mzs s).run NN=_;simp only[mzs,qj,dz1,qI,bzv];by_cases h:czv s.Xg=0
 ·rw[bz8 h,qb qa];by_cases a:24<s.Xe.length
  ·grind
  ·rw[az9 qa,qb a];refine(dz8 (errS s.Xg.Xc.length s.Xe) s.Xe.length qa (λj d=>?_) ?_).trans ?_
   ·rw[az5 qa,az8 qa,wn qa,qF];unfold errS;generalize s.Xe.getD j qu=x;simp only[lz5,wzd,qI,bzc,az3,xzk];cases n:tz5 s.Xg.Xc.length x.XB
    ·rfl
    ·cases g:betV x.XF 1 1048576
     ·rfl
     ·simp only[qJ,qd,qN];by_cases c:x.Xb.length=0
      ·rw[az5 qa,qc (Or.inr (Or.inl c))];rfl
      ·rw[az9 qa];by_cases b:8<x.Xb.length
       ·rw[az5 qa,qc (Or.inr (Or.inr b))];rfl
       ·rw[az9 qa,qb (λm=>jv)];refine(dz8 (λi=>sw (farP x.Xb i) (Step3.fin 805)) x.Xb.length qa (λk l=>?_) ?_).trans ?_
        ·rw[az5 qa,az8 qa,wn qa,qF,<-czn];simp only[fzb _ (show(0:Int)<=4194304 by decide) jr,qI];rfl
        ·simp_all
        ·rw[bze];cases azz (farP x.Xb) x.Xb.length<;>rfl
   ·simp_all
   ·cases scan (errS s.Xg.Xc.length s.Xe) s.Xe.length 0 with
    |some e=>rfl
    |none=>
     by_cases f:64<s.Xr.length
     ·grind
     ·rw[az9 qa,qb f];refine(dz8 (λi=>sw (badK s.Xg.Xc.length s.Xr i) 903) s.Xr.length qa (λj d=>?_) ?_).trans ?_
      ·rw[az5 qa,wn qa,<-czn]
       grind[az8,lz5,az3,badK]
      ·simp_all
      ·rw[bze];cases azz (badK s.Xg.Xc.length s.Xr) s.Xr.length<;>rfl
 grind
def outJ (l:List azu)(c:List Int)(i:Nat):Bool:=qv (c.getD i qu<(l.getD i qu).Lo)||qv (c.getD i qu>(l.getD i qu).Hi)
def azs (r:azj)(c:List Int):Bool:=qv (czv r=0)&&(qv (c.length=r.Xc.length)&&azz (outJ r.Xc c) c.length)
theorem Tzd (l:List azu)(c:List Int)(h:l.length<4294967296):(gzh l c).o=some (qv (c.length=l.length)&&azz (outJ l c) c.length):=by
 show(eza l c).run NN=_;simp only[eza,qj];have b:∀j x,(xz0 j x).o=some (qv (j.Lo<=x)&&qv (x<=j.Hi)):=λj x=>by
  show(mz3 j x).run NN=_
  grind[mz3,qj]
 by_cases a:c.length=l.length
 ·rw[bz8 qa,qg a,qM];refine(dz8 (λi=>sw (outJ l c i) false) l.length h (λj d=>?_) ?_).trans ?_
  ·rw[az5 qa,az8 qa,az8 qa,wn qa,qF,<-czn]
   grind[outJ]
  ·simp_all
  ·rw[bze,a];cases azz (outJ l c) l.length<;>rfl
 grind
theorem hzk (r:azj)(c:List Int):(bzq r c).o=some (azs r c):=by
 show(rz2 r c).run NN=_
 grind[rz2,qj,Azd,azs,dzy,Tzd]
theorem ezz (r:azj)(c:List Int):(dzm r c).o=some (azs r c):=by
 show(vz5 r c).run NN=_;simp only[vz5,qj,dz1,qI,bzc,az3,azs];by_cases h:czv r=0
 ·have:=dzy h;rw[bz8 h,qg h,qM];by_cases a:c.length=r.Xc.length
  ·rw[bz8 qa,qg a,qM];refine(dz8 (λi=>sw (outJ r.Xc c i) false) c.length qa (λj b=>?_) ?_).trans ?_
   ·rw[az5 qa,wn qa,<-czn]
    grind[az8,az3,outJ]
   ·simp_all
   ·rw[bze];cases azz (outJ r.Xc c) c.length<;>rfl
  grind
 grind
def big1 (l:List Int)(i:Nat):Bool:=qv (l.getD i qu< -2147483648)||qv (l.getD i qu>2147483648)
def hz2 (l:List Int):Bool:=azz (big1 l) l.length
theorem uzp (l:List Int)(h:l.length<4294967296):(hz3 l).o=some (hz2 l):=by
 show(uzo l).run NN=_;have b:∀x,(Azw x).o=some (qv (x< -2147483648)||qv (x>2147483648)):=λx=>by
  show(oze x).run NN=_
  grind[oze,qj]
 have a:(gzk l).o=some (match scan (λi=>sw (big1 l i) (i:Int)) l.length 0 with|some x=>x|none=> -1):=by
  show(ezf l).run NN=_;simp only[ezf,qj];refine(dz8 (λi=>sw (big1 l i) (i:Int)) l.length h (λj d=>?_) ?_).trans ?_;all_goals grind[az8,wn,big1,sw]
 have c:(fzo l).o=some (!hz2 l):=by
  show(dzu l).run NN=_;simp only[dzu,qj,a,qI];rw[Ezf];rfl
 grind[uzo,qj]
theorem kzx (l:List Int)(h:l.length<4294967296):(izb l).o=some (hz2 l):=by
 show(zzf l).run NN=_;simp only[zzf,qj];refine(dz8 (λi=>sw (big1 l i) false) l.length h (λj a=>?_) ?_).trans ?_
 ·rw[az5 qa,wn qa,<-czn]
  grind[az8,az3,big1]
 ·simp_all
 ·rw[bze];unfold hz2;cases azz (big1 l) l.length<;>rfl
def vz3 (p q:List Int)(d:Int):Bool:=hz2 p&&(hz2 q&&(qv (p.length=q.length)&&(qv (0<=d)&&qv (d<=20))))
theorem az84 {a b:Nat}:((a:Int)==(b:Int))=qv (a=b):=jv
theorem Lza (p q:List Int)(d:Int)(a:p.length<4294967296)(b:q.length<4294967296):(xz1 p q d).o=some (vz3 p q d):=by
 show(mz4 p q d).run NN=_;simp only[mz4,qj,uzp p a,uzp q b,qI,vz3,az84]
 grind
theorem Tzu (p q:List Int)(d:Int)(a:p.length<4294967296)(b:q.length<4294967296):(Gzh p q d).o=some (vz3 p q d):=by
 show(vzc p q d).run NN=_;simp only[vzc,qj,kzx p a,kzx q b,qI,vz3,az84,ge_iff_le]
 grind
def ptI (c:List Int)(i:Nat):az0:=⟨c.getD i qu,c.getD i qu⟩
def ptB (c:List Int):List az0:=if hz2 c=true then tab (ptI c) c.length else nl
def Gze (p q:List Int)(d:Nat)(i:Int)(k:Nat):az0:=
 ⟨p.getD k qu+min (i * (q.getD k qu-p.getD k qu)) ((i+1) * (q.getD k qu-p.getD k qu)) / 2 ^ d,
  p.getD k qu+cdiv (max (i * (q.getD k qu-p.getD k qu)) ((i+1) * (q.getD k qu-p.getD k qu))) (2 ^ d)⟩
def dzx (p q:List Int)(d i:Int):List az0×Bool:=
 if vz3 p q d=true/\0<=i/\i<2 ^ d.toNat then(tab (Gze p q d.toNat i) p.length,true)else(nl,false)
theorem Kzo {l:List Int}(h:hz2 l=true){i:Nat}(a:i<l.length): -2147483648<=l.getD i qu/\l.getD i qu<=2147483648:=by
 have:=noneB_iff.1 h i a
 grind[big1]
theorem motionV_iff {p q:List Int}{d:Int}:vz3 p q d=true↔hz2 p=true/\hz2 q=true/\p.length=q.length/\0<=d/\d<=20:=by
 grind[vz3]
theorem azb8 {k:Nat}(h:k<=20):(2:Int) ^ k<=1048576:=by
 have:(2:Int) ^ k<=2 ^ 20:=by
  exact_mod_cast qU (by decide:0<2) h
 omega
theorem azli {i D:Int}(a:0<=i)(c:i<=1048576)(b: -4294967296<=D/\D<=4294967296): -4503599627370496<=i * D/\i * D<=4503599627370496:=by
 have h:(i * D).natAbs<=1048576 * 4294967296:=by rw[qH];exact qz qa qa
 omega
theorem azck {d:Int}(a:0<=d)(b:d<=20):IntKind.u64.wrap d=d:=by
 show(if(false&&qv (d % 18446744073709551616>=9223372036854775808))=true then d % 18446744073709551616-18446744073709551616 else d % 18446744073709551616)=d
 grind
theorem Wz0 (a:Int)(k:Nat)(b:k<=64):(yz7 a (k:Int)).o=some (a / 2 ^ k):=by
 show(yz8 a (k:Int)).run NN=_
 grind[yz8,qj,az8]
section
variable {a b i:Int} {k:Nat} (ha: -2147483648<=a/\a<=2147483648) (hb: -2147483648<=b/\b<=2147483648) (h0:0<=i) (hi:i<2 ^ k) (hk:k<=20)
include ha hb h0 hi hk
theorem az5m:qt.wrap (b-a)=b-a/\qt.wrap (i+1)=i+1/\qt.wrap (i * (b-a))=i * (b-a)/\qt.wrap ((i+1) * (b-a))=(i+1) * (b-a)/\
 InR (min (i * (b-a)) ((i+1) * (b-a)))/\InR (max (i * (b-a)) ((i+1) * (b-a)))/\InR (-(max (i * (b-a)) ((i+1) * (b-a))))/\
 InR (a+min (i * (b-a)) ((i+1) * (b-a)) / 2 ^ k)/\InR (a+cdiv (max (i * (b-a)) ((i+1) * (b-a))) (2 ^ k)):=by
 have d:=azb8 hk;have c:=ez1 k;have n:=azli h0 qa (show -4294967296<=b-a/\b-a<=4294967296 from qa);have m:=azli (i:=i+1) qa qa (show -4294967296<=b-a/\b-a<=4294967296 from qa);generalize i * (b-a)=u at *
 generalize (i+1) * (b-a)=v at *
 have g: -4503599627370496<=min u v/\min u v<=4503599627370496:=qa
 have f: -4503599627370496<=max u v/\max u v<=4503599627370496:=qa
 have o:=Mzy (a:=min u v) c;have l:=az2c (a:=max u v) c;refine⟨w64 qa qa,w64 qa qa,w64 qa qa,w64 qa qa,⟨qa,qa⟩,⟨qa,qa⟩,⟨qa,qa⟩,?_,?_⟩
 ·generalize min u v=x at *
  by_cases e:0<=x
  ·exact⟨qa,qa⟩
  ·exact⟨qa,qa⟩
 ·generalize max u v=x at *
  by_cases e:0<x
  ·exact⟨qa,qa⟩
  ·exact⟨qa,qa⟩
theorem Oz1:(Azv a b i (k:Int)).o=some (⟨a+min (i * (b-a)) ((i+1) * (b-a)) / 2 ^ k,a+cdiv (max (i * (b-a)) ((i+1) * (b-a))) (2 ^ k)⟩,i,(k:Int)):=by
 obtain⟨m,f,g,l,p,t,h,e,j⟩:=az5m ha hb h0 hi hk;show(ozd a b i (k:Int)).run NN=_;have d:qt.wrap (0-max (i * (b-a)) ((i+1) * (b-a)))= -(max (i * (b-a)) ((i+1) * (b-a))):=by rw[Int.zero_sub];exact h.w
 have c:a- -(max (i * (b-a)) ((i+1) * (b-a))) / 2 ^ k=a+cdiv (max (i * (b-a)) ((i+1) * (b-a))) (2 ^ k):=by rfl
 simp only[ozd,qj,m,f,g,l,d,Wz0 _ k (show k<=64 from qa),qI,e.w,c,j.w]
end
theorem Qz4 {p q:List Int}{k:Nat}{i:Int}(g:hz2 p=true)(f:hz2 q=true)(h:p.length=q.length)(b:p.length<4294967296)(d:0<=i)(c:i<2 ^ k)(e:k<=20):
 (ez2 p q i (k:Int)).o=some (tab (Gze p q k i) p.length,i,(k:Int)):=by
 show(czk p q i (k:Int)).run NN=_;simp only[czk,qj];rw[az8 ⟨qa,qa,qa,qa⟩,qF];refine(bzm (λj=>(i,(k:Int),half (Gze p q k i) ⟨0,0⟩ p.length j,(j:Int))) (i,(k:Int),tab (Gze p q k i) p.length) p.length ?_ b (λj a=>?_) ?_).trans rfl
 ·rfl
 ·rw[az5 ju,az8 ⟨jt,ju⟩,az8 ⟨jt,ju⟩];simp only[qF,Oz1 (Kzo g a) (Kzo f (by omega:j<q.length)) d c e,qI,yzq (show j<=p.length from qa)];rw[az8 ⟨qa,qa⟩,az8 ⟨a,qa⟩,wn qa];exact congrArg (λx=>some (Step3.next (i,(k:Int),x,((j+1:Nat):Int)))) (yzr a)
 grind[Ezz]
theorem w2k {k:Nat}(h:k<=20):qt.wrap (1 * 2 ^ k)=2 ^ k:=by
 have:=azb8 h;grind[w64]
theorem Tzc (p q:List Int)(d i:Int)(b:p.length<4294967296)(e:q.length<4294967296):(uzm p q d i).o=some (dzx p q d i):=by
 show(uzn p q d i).run NN=_;simp only[uzn,qj,Lza p q d b e,qI,dzx];by_cases a:vz3 p q d=true
 ·have c:=motionV_iff.1 a
  grind[az8,w2k,az3,Qz4]
 ·simp only[qW]at a;rw[a];rfl
theorem zzd (p q:List Int)(d i:Int)(f:p.length<4294967296)(h:q.length<4294967296):(qz2 p q d i).o=some (dzx p q d i):=by
 show(zzc p q d i).run NN=_;simp only[zzc,qj,Tzu p q d f h,qI,dzx];by_cases b:vz3 p q d=true
 ·have a:=motionV_iff.1 b;obtain⟨k,rfl⟩:∃k:Nat,d=(k:Int):=⟨d.toNat,qa⟩;have e:k<=20:=qa
  rw[b,qF,azck qa qa,qF];simp only[qJ,qd];by_cases c:i<0
  ·rw[az5 c,qb qa];rfl
  ·rw[az9 c,az8 qa,qG qa,w2k e];simp only[az3];by_cases u:i>=2 ^ k
   ·simp_all
   ·rw[az9 u,qc ⟨trivial,qa,qa⟩,az8 qa];refine(bzm (λj=>(tab (Gze p q k i) j,(j:Int))) (tab (Gze p q k i) p.length) p.length rfl f (λj m=>?_) ?_).trans rfl
    ·obtain⟨n,r,v,l,x,s,y,g,t⟩:=az5m (Kzo a.1 m) (Kzo a.2.1 (by omega:j<q.length)) (by omega:0<=i) (by omega:i<2 ^ k) e;rw[az5 qa,az8 ⟨jt,qa⟩,az8 ⟨jt,qa⟩,az8 ⟨jt,qa⟩];simp only[qF,n,r,v,l,dzh x (ez1 k),czf s (ez1 k),qI,g.w,t.w];rw[az8 ⟨qa,qa⟩,az8 ⟨by simp[bzf];omega,by grind[bzf,azd]⟩,wn qa,ezk];rfl
    simp_all
 ·simp only[qW]at b;rw[b];rfl
structure JointOk (l:List azu) (i:Nat):Prop where
 kind:0<=(l.getD i qu).Xo/\(l.getD i qu).Xo<=6
 parent: -1<=(l.getD i qu).XD/\(l.getD i qu).XD<(i:Int)
 off:jzj (l.getD i qu).XE 4194304=true
 lim:(l.getD i qu).Lo<=(l.getD i qu).Hi/\ -nzt (l.getD i qu).Xo<=(l.getD i qu).Lo/\(l.getD i qu).Hi<=nzt (l.getD i qu).Xo
 cost:az8o (l.getD i qu)=true
theorem aza4 {l:List azu}{i:Nat}(h:Izz l i=0):JointOk l i:=by
 unfold Izz at h;simp only at h;split at h
 ·cases h
 ·split at h
  ·cases h
  ·rename_i d;split at h
   ·cases h
   ·rename_i c;split at h
    ·cases h
    ·rename_i b;split at h
     ·cases h
     ·rename_i e;split at h
      ·cases h
      ·rename_i a;simp only[Bool.or_eq_true,qf,qX,Bool.not_eq_false]at d c b e a;exact⟨qa,qa,b,qa,a⟩
theorem dzz {r:azj}(h:czv r=0){i:Nat}(a:i<r.Xc.length):JointOk r.Xc i:=aza4 ((dzy h).2.2 i a)
def notV (b:List az0)(i:Nat):Bool:= !vV (b.getD i qu)
def boxV (r:azj)(b:List az0):Bool:=qv (b.length=r.Xc.length)&&azz (notV b) b.length
theorem Ozp (b:List az0)(h:b.length<4294967296):(Bz8 b).o=some (azz (notV b) b.length):=by
 show(ozr b).run NN=_;simp only[ozr,qj,fz1,qI];refine(dz8 (λi=>sw (notV b i) false) b.length h (λj a=>?_) ?_).trans ?_
 ·rw[az5 qa,az8 qa,wn qa,qF,<-czn];rfl
 ·simp_all
 ·rw[bze];cases azz (notV b) b.length<;>rfl
theorem zz7 (r:azj)(b:List az0)(h:b.length<4294967296):(qz1 r b).o=some (boxV r b):=by
 show(zz6 r b).run NN=_
 grind[zz6,qj,Ozp,boxV]
theorem tzl (r:azj)(b:List az0)(h:b.length<4294967296):(hzd r b).o=some (boxV r b):=by
 have a:∀x,(pzp x).o=some (!vV x):=λx=>by
  show(izk x).run NN=_
  grind[izk,qj,cz8]
 have c:(dzk b).o=some (match scan (λi=>sw (notV b i) (i:Int)) b.length 0 with|some x=>x|none=> -1):=by
  show(cz4 b).run NN=_;simp only[cz4,qj,a,qI];refine(dz8 (λi=>sw (notV b i) (i:Int)) b.length h (λj e=>?_) ?_).trans ?_;all_goals grind[az8,wn,sw,notV]
 have d:(dzb b).o=some (!azz (notV b) b.length):=by
  show(cz0 b).run NN=_;simp only[cz0,qj,c,qI];exact congrArg some Ezf
 show(kzo r b).run NN=_
 grind[kzo,qj,boxV]
section
variable (r:azj) (b:List az0)
def lk1 (L:List bz4)(i:Nat):bz4:=
 if(r.Xc.getD i qu).XD= -1 then Jz0 (r.Xc.getD i qu) (b.getD i qu)else az2g (L.getD (r.Xc.getD i qu).XD.toNat qu) (Jz0 (r.Xc.getD i qu) (b.getD i qu))
def lkL:Nat->List bz4
 |0=>[]
 |i+1=>lkL i++[lk1 r b (lkL i) i]
def lkP (i:Nat):bz4:=lk1 r b (lkL r b i) i
theorem aza8:∀j,lkL r b j=tab (lkP r b) j
 |0=>rfl
 |j+1=>by rw[ezk,<-aza8 j];rfl
end
variable {r:azj} {b:List az0}
theorem az54 {a:Type}{f:Nat->a}{z d:a}{n j i:Nat}(h:i<j):(half f z n j).getD i d=f i:=by
 unfold half;rw[qY,List.getElem?_append_left (by rw[bzf];exact h),<-qY,hzb h]
theorem Vzk {a:Type}{l:List a}{i j:Nat}{x d:a}(h:i≠j):(l.set i x).getD j d=l.getD j d:=by
 simp_all
theorem Jzo (d:czv r=0)(f:boxV r b=true):(zza r b).o=some (tab (lkP r b) r.Xc.length):=by
 have i:=dzy d;have a:=f;simp only[boxV,qm,qf]at a;show(zzb r b).run NN=_;simp only[zzb,qj,dz1,zz7 r b qa,f,d,qI];refine(bzm (λj=>(tab (lkP r b) j,(j:Int))) (tab (lkP r b) r.Xc.length) r.Xc.length rfl (show r.Xc.length<4294967296 from qa) (λj h=>?_) ?_).trans rfl
 ·have g:=dzz d h;rw[az5 qa,az8 ⟨jt,qa⟩,az8 ⟨jt,qa⟩];simp only[qF,Xzn,qI];rw[az8 ⟨qa,qa⟩,ezk];by_cases c:(r.Xc.getD j qu).XD= -1
  ·have e:lkP r b j=Jz0 (r.Xc.getD j qu) (b.getD j qu):=by grind[lkP,lk1]
   rw[bz8 c];simp only[az3];rw[az8 ⟨by simp[bzf];omega,by grind[bzf,azd]⟩,wn qa,e]
  ·have k:=g.parent;have e:lkP r b j=az2g ((tab (lkP r b) j).getD (r.Xc.getD j qu).XD.toNat qu) (Jz0 (r.Xc.getD j qu) (b.getD j qu)):=by
    unfold lkP lk1;rw[qb c,aza8];rfl
   rw[cze c,az8 ⟨qa,qa⟩,az8 ⟨qa,by rw[bzf];omega⟩,az8 (by rw[bzf];omega)];simp only[nze,qI,az3];rw[az8 ⟨by simp[bzf];omega,by simp[bzf,azd];omega⟩,wn qa,e]
 ·rw[az9 qa]
theorem tzm (c:czv r=0)(g:boxV r b=true):(hze r b).o=some (tab (lkP r b) r.Xc.length):=by
 have h:=dzy c;have a:=g;simp only[boxV,qm,qf]at a;show(kzp r b).run NN=_;simp only[kzp,qj];rw[az8 ⟨qa,qa,qa,qa⟩,qF];refine(bzm (λj=>(half (lkP r b) (⟨(izv,izv,izv),izv⟩:bz4) r.Xc.length j,(j:Int))) (tab (lkP r b) r.Xc.length) r.Xc.length ?_ (show r.Xc.length<4294967296 from qa) (λj d=>?_) ?_).trans rfl
 ·rfl
 ·have f:=dzz c d;have k:=f.parent;rw[az5 qa,az8 ⟨jt,qa⟩,az8 ⟨jt,qa⟩];simp only[qF,Jz1,qI,qZ,yzq (show j<=r.Xc.length from qa)];rw[az8 ⟨qa,qa⟩,az8 ⟨d,qa⟩,wn qa];by_cases i:(r.Xc.getD j qu).XD= -1
  ·grind[lkP,lk1,az3,yzr]
  ·have e:lkP r b j=az2g (lkP r b (r.Xc.getD j qu).XD.toNat) (Jz0 (r.Xc.getD j qu) (b.getD j qu)):=by
    grind[lkP,lk1,aza8,hzb]
   grind[az8,Vzk,az54,yzq,nzc,az3,wc,yzr]
 grind[Ezz]
def izn (x:azh):Bool:=(betV x.XF 1 1048576&&qv (1<=x.Xb.length/\x.Xb.length<=8))&&azz (farP x.Xb) x.Xb.length
def Nzc (x:azh)(p:bz4):List IV3:=if izn x then tab (λi=>az04 p (Dz0 (x.Xb.getD i qu))) x.Xb.length else nl
theorem szm {x:azh}(h:izn x=true):1<=x.Xb.length/\x.Xb.length<=8:=by
 grind[izn]
theorem Vzl (x:azh){a:Type}(k:Bool->Option a):(andC (bif qv (x.XF<1)then some (.out true)else bif qv (x.XF>1048576)then some (.out true)else bif qv ((x.Xb.length:Int)<1)then some (.out true)else
 some (.out (qv ((x.Xb.length:Int)>8)))) k)=k (!(betV x.XF 1 1048576&&qv (1<=x.Xb.length/\x.Xb.length<=8))):=by
 grind[az3,betV,qi]
theorem tzy (x:azh):(kzv x).o=some (izn x):=by
 show(kzw x).run NN=_;simp only[kzw,qj,Vzl,izn];cases h:betV x.XF 1 1048576&&qv (1<=x.Xb.length/\x.Xb.length<=8)
 ·rfl
 ·simp only[qm,qf]at h;refine(dz8 (λi=>sw (farP x.Xb i) false) x.Xb.length qa (λk a=>?_) ?_).trans ?_
  ·rw[az5 qa,az8 qa,wn qa,qF,<-czn];simp only[fzb _ (show(0:Int)<=4194304 by decide) jr,qI];rfl
  ·simp_all
  ·rw[bze];cases azz (farP x.Xb) x.Xb.length<;>rfl
theorem Kzk (x:azh):(Azi x).o=some (izn x):=by
 show(Azj x).run NN=_;simp only[Azj,qj,Vzl,izn];cases h:betV x.XF 1 1048576&&qv (1<=x.Xb.length/\x.Xb.length<=8)
 ·rfl
 ·simp only[qm,qf]at h;refine(dz8 (λi=>sw (farP x.Xb i) false) x.Xb.length qa (λj a=>?_) ?_).trans ?_
  ·rw[az5 qa,az8 qa,qF,wn qa];refine(dz8 (λi=>sw (bey (([(x.Xb.getD j qu).1,(x.Xb.getD j qu).2.1,(x.Xb.getD j qu).2.2]:List Int).getD i 0)) (Step3.fin false)) 3 jr (λk b=>?_) ?_).trans ?_
   ·rw[az5 qa,az8 qa,wn qa,qF,<-czn];simp only[bzc,az3,ezt];rfl
   ·rfl
   ·rw[bze,far3];unfold farP;cases jzj (x.Xb.getD j qu) 4194304<;>rfl
  ·simp_all
  ·rw[bze];cases azz (farP x.Xb) x.Xb.length<;>rfl
theorem Jzq (x:azh)(p:bz4):(Jzp x p).o=some (Nzc x p):=by
 show(zze x p).run NN=_;simp only[zze,qj,tzy,qI,Nzc];cases h:izn x
 ·rfl
 ·have a:=szm h;refine(bzm (λj=>(tab (λi=>az04 p (Dz0 (x.Xb.getD i qu))) j,(j:Int))) (tab (λi=>az04 p (Dz0 (x.Xb.getD i qu))) x.Xb.length) x.Xb.length rfl (show x.Xb.length<4294967296 from qa) (λj b=>?_) ?_).trans rfl;all_goals grind[az8,nzw,Nzi,bzf,azd,wn,ezk]
theorem Kzm (x:azh)(p:bz4):(Kzl x p).o=some (Nzc x p):=by
 show(Azk x p).run NN=_;simp only[Azk,qj,Kzk,qI,Nzc];cases h:izn x
 ·rfl
 ·have a:=szm h;rw[az8 ⟨qa,qa,qa,qa⟩,qF];refine(bzm (λj=>(half (λi=>az04 p (Dz0 (x.Xb.getD i qu))) izv x.Xb.length j,(j:Int))) (tab (λi=>az04 p (Dz0 (x.Xb.getD i qu))) x.Xb.length) x.Xb.length ?_ (show x.Xb.length<4294967296 from qa) (λj b=>?_) ?_).trans rfl
  ·rfl
  all_goals grind[az8,nzb,Nze,yzq,wn,yzr,Ezz]
def aza7 (r:azj)(b:List az0)(k:Int):bz4:=if k= -1 then az3u else lkP r b k.toNat
def cz1 (s:az7)(b:List az0)(i:Nat):List IV3:=Nzc (s.Xe.getD i qu) (aza7 s.Xg b (s.Xe.getD i qu).XB)
def rzh (s:az7)(b:List az0):List (List IV3):=if bzv s=0/\boxV s.Xg b=true then tab (cz1 s b) s.Xe.length else nl
structure SceneOk (s:az7):Prop where
 robot:czv s.Xg=0
 len:s.Xe.length<=24
 shape:∀i,i<s.Xe.length->xzk s.Xg.Xc.length (s.Xe.getD i qu)=0
 skips:s.Xr.length<=64
theorem oz0 {s:az7}(h:bzv s=0):SceneOk s:=by
 unfold bzv at h;split at h
 ·omega
 ·split at h
  ·cases h
  ·split at h
   ·grind[ezb,errS,sw]
   ·split at h
    ·cases h
    ·refine⟨qa,qa,λi a=>?_,qa⟩
     grind[dzp,errS,sw]
theorem xzl {n:Nat}{x:azh}(h:xzk n x=0):izn x=true/\ -1<=x.XB/\x.XB<(n:Int):=by
 grind[xzk,tz5,izn]
theorem Tzt (s:az7)(b:List az0)(d:b.length<4294967296):(Gzg s b).o=some (rzh s b):=by
 show(vza s b).run NN=_;simp only[vza,qj,czb,zz7 _ b d,qI,rzh];by_cases h:bzv s=0
 ·rw[bz8 h,az3];cases i:boxV s.Xg b
  ·simp_all
  ·have a:=oz0 h;rw[qc ⟨h,rfl⟩,qJ,qd,Jzo a.robot i,qI];refine(bzm (λj=>(tab (cz1 s b) j,(j:Int))) (tab (cz1 s b) s.Xe.length) s.Xe.length rfl (show s.Xe.length<4294967296 by have:=a.len;omega) (λj g=>?_) ?_).trans rfl
   ·have k:=a.len;have l:=(xzl (a.shape j g)).2;rw[az5 qa];simp only[qF,Rzv,qI];rw[az8 ⟨qa,qa⟩,wn qa,ezk];by_cases c:(s.Xe.getD j qu).XB= -1
    ·have e:cz1 s b j=Nzc (s.Xe.getD j qu) az3u:=by grind[cz1,aza7]
     rw[bz8 c];simp only[az3];rw[az8 ⟨qa,qa⟩];simp only[Jzq,qI];rw[az8 ⟨by simp[bzf];omega,by grind[bzf,azd]⟩,e]
    ·have e:cz1 s b j=Nzc (s.Xe.getD j qu) ((tab (lkP s.Xg b) s.Xg.Xc.length).getD (s.Xe.getD j qu).XB.toNat qu):=by
      unfold cz1 aza7;rw[qb c,hzb qa]
     rw[cze c,az8 ⟨qa,qa⟩,az8 ⟨qa,by rw[bzf];omega⟩];simp only[az3];rw[az8 ⟨qa,qa⟩];simp only[Jzq,qI];rw[az8 ⟨by simp[bzf];omega,by simp[bzf,azd];omega⟩,e]
   ·rw[az9 jt]
 ·rw[cze h,az3,qe,qb (λf=>h f.1)]
theorem Hzj (s:az7)(b:List az0)(c:b.length<4294967296):(rze s b).o=some (rzh s b):=by
 show(jzh s b).run NN=_;simp only[jzh,qj,ize,tzl _ b c,qI,rzh];cases i:boxV s.Xg b
 ·rw[qb (λh=>jv)];rfl
 ·simp only[qJ,qd,az3];by_cases h:bzv s=0
  ·have a:=oz0 h;have k:=a.len;rw[qc ⟨h,trivial⟩,bz8 h,tzm a.robot i,qI,az8 ⟨qa,qa,qa,qa⟩,qF];refine(bzm (λj=>(half (cz1 s b) nl s.Xe.length j,(j:Int))) (tab (cz1 s b) s.Xe.length) s.Xe.length ?_ (show s.Xe.length<4294967296 from qa) (λj d=>?_) ?_).trans rfl
   ·rfl
   ·have l:=(xzl (a.shape j d)).2;rw[az5 qa,az8 ⟨jt,qa⟩];simp only[qF,Dz3,qI,yzq (show j<=s.Xe.length from qa)];rw[wn qa,<-yzr d];by_cases f:(s.Xe.getD j qu).XB= -1
    ·simp_all[cz1,aza7,az3,Kzm,az8]
    ·have e:cz1 s b j=Nzc (s.Xe.getD j qu) ((tab (lkP s.Xg b) s.Xg.Xc.length).getD (s.Xe.getD j qu).XB.toNat qu):=by
      unfold cz1 aza7;rw[qb f,hzb qa]
     rw[cze f,az8 ⟨qa,by rw[bzf];omega⟩];simp only[az3,Kzm,qI];rw[az8 ⟨qa,qa⟩,az8 ⟨d,qa⟩,e]
   ·rw[az9 jt];simp only[Ezz]
  ·rw[qb (λg=>h g.1),cze h]
section
variable (par:Nat->Nat) (mv:Nat->Prop) [DecidablePred mv]
inductive AncN:Nat->Nat->Prop
 |self {m:Nat}:0<m->AncN m m
 |up {m x:Nat}:0<m->AncN (par m) x->AncN m x
def cF:Nat->Nat->Nat
 |0,_=>0
 |d+1,m=>if m=0 then 0 else if mv m then m else cF d (par m)
end
section
variable {par:Nat->Nat} {mv:Nat->Prop} [DecidablePred mv]
theorem AncN.pos {m x:Nat}(h:AncN par m x):0<m/\0<x:=by
 induction h<;>simp_all
theorem AncN.le {n m x:Nat}(b:∀m,0<m->m<=n->par m<m)(h:AncN par m x):m<=n->x<=m:=by
 induction h<;>grind
theorem az89 {n:Nat}(e:∀m,0<m->m<=n->par m<m):∀ (d b m:Nat),m<=n->m<d->m<b->cF par mv d m=cF par mv b m
 |0,_,_,_,h,_=>qa
 |_,0,_,_,_,h=>qa
 |d+1,b+1,m,g,i,j=>by
  simp only[cF];by_cases f:m=0
  ·simp only[f,if_true]
  ·simp only[f,if_false];have:=e m qa g;by_cases c:mv m
   ·simp only[c,if_true]
   ·simp only[c,if_false];exact az89 e d b (par m) qa qa qa
theorem Yzz {n:Nat}(i:∀m,0<m->m<=n->par m<m):∀ (d m:Nat),m<=n->m<d->(∀x,mv x->(AncN par m x↔AncN par (cF par mv d m) x))/\(cF par mv d m≠0->mv (cF par mv d m)/\AncN par m (cF par mv d m))/\cF par mv d m<=m
 |0,_,_,h=>qa
 |d+1,m,l,h=>by
  simp only[cF];by_cases g:m=0
  ·subst g;exact⟨λ_ _=>Iff.rfl,λh=>absurd rfl h,qk _⟩
  ·simp only[g,if_false];have o:=i m qa l;by_cases c:mv m
   ·rw[qc c];exact⟨λ_ _=>Iff.rfl,λ_=>⟨c,.self qa⟩,qk _⟩
   ·simp only[c,if_false];obtain⟨k,j,p⟩:=Yzz i d (par m) qa qa;refine⟨λx e=>?_,λf=>⟨(j f).1,.up qa (j f).2⟩,qa⟩;rw[<-k x e];constructor
    ·intro b;cases b with
     |self=>exact absurd e c
     |up _ b=>exact b
    ·intro b;exact .up qa b
theorem azfx {n:Nat}(e:∀m,0<m->m<=n->par m<m){a b d:Nat}(j:a<=n)(i:b<=n)(t:n<d):cF par mv d a=cF par mv d b↔∀x,mv x->(AncN par a x↔AncN par b x):=by
 obtain⟨q,f,r⟩:=Yzz (mv:=mv) e d a j qa;obtain⟨k,p,s⟩:=Yzz (mv:=mv) e d b i qa;constructor
 ·simp_all
 ·have o:∀ {a b:Nat},a<=n->b<=n->cF par mv d a≠0->(∀x,mv x->(AncN par a x↔AncN par b x))->cF par mv d a<=cF par mv d b:=by
   intro a b j i g h;obtain⟨q,f,r⟩:=Yzz (mv:=mv) e d a j qa;obtain⟨k,p,s⟩:=Yzz (mv:=mv) e d b i qa;have:=(k _ (f g).1).1 ((h _ (f g).1).1 (f g).2);exact this.le e qa
  grind
end
section
variable (r:azj)
def parN (m:Nat):Nat:=((r.Xc.getD (m-1) qu).XD+1).toNat
def mvN (m:Nat):Prop:=(r.Xc.getD (m-1) qu).Lo≠(r.Xc.getD (m-1) qu).Hi
instance:DecidablePred (mvN r):=λ_=>inferInstanceAs (Decidable (_≠_))
def carN (m:Nat):Nat:=cF (parN r) (mvN r) (r.Xc.length+1) m
end
variable {r:azj} (hr:czv r=0)
include hr
theorem Rza:∀m,0<m->m<=r.Xc.length->parN r m<m:=λm c a=>by
 have:=(dzz hr (show m-1<r.Xc.length from qa)).parent;unfold parN;omega
theorem az8b {i:Nat}(c:i<r.Xc.length):carN r (i+1)=if(r.Xc.getD i qu).Lo=(r.Xc.getD i qu).Hi then carN r ((r.Xc.getD i qu).XD+1).toNat else i+1:=by
 have a:=Rza hr (i+1) qa qa
 grind[carN,cF,az89,Rza,parN,mvN]
def caP (r:azj)(m:Nat):Int:=(carN r m:Int)-1
theorem Ozv:(Bza r).o=some (tab (caP r) (r.Xc.length+1)):=by
 have a:=dzy hr;show(pz9 r).run NN=_;simp only[pz9,qj];rw[wn qa,qF,az8 ⟨qa,qa,qa,qa⟩];simp only[wd];rw[az8 ⟨qa,qa⟩,az8 ⟨jt,qa⟩];refine(bzm (λj=>(half (caP r) 0 (r.Xc.length+1) (j+1),(j:Int))) (tab (caP r) (r.Xc.length+1)) r.Xc.length ?_ (show r.Xc.length<4294967296 from qa) (λj c=>?_) ?_).trans rfl
 ·rfl
 ·have d:=(dzz hr c).parent;simp only[qF,yzq (show j+1<=r.Xc.length+1 from qa),qZ];rw[wn qa,qF,az8 ⟨qa,qa⟩,az8 ⟨qa,qa⟩,w64 (x:=(r.Xc.getD j qu).XD+1) qa qa]
  grind[az8b,caP,az8,Vzk,az54,az3,wc,yzr]
 grind[Ezz]
theorem Nzm {k:Int}(i: -1<=k)(f:k<(r.Xc.length:Int)):∃L:List Int,(uz7 r k).o=some L/\L.length<=r.Xc.length/\∀x:Nat,(x:Int)∈L↔AncN (parN r) (k+1).toNat (x+1):=by
 have p:=dzy hr;have n:(uz7 r k).o=(Ez2 r k).run NN:=rfl;rw[n];simp only[Ez2,qj,dz1,hr,lz5,qI];rw[bz8 rfl,az3,show tz5 r.Xc.length k=true by simp[tz5];omega,qJ,qd]
 refine Wzl (β:=List Int) (g:=λL=>some L) (P:=λL=>L.length<=r.Xc.length/\∀x:Nat,(x:Int)∈L↔AncN (parN r) (k+1).toNat (x+1))
  (λ(y:List Int×Int)=> -1<=y.2/\y.2<(r.Xc.length:Int)/\y.1.length+(y.2+1).toNat<=r.Xc.length/\∀x:Nat,((x:Int)∈y.1\/AncN (parN r) (y.2+1).toNat (x+1))↔AncN (parN r) (k+1).toNat (x+1))
  (λ(y:List Int×Int)=>(y.2+1).toNat) (λ(L:List Int)=>L.length<=r.Xc.length/\∀x:Nat,(x:Int)∈L↔AncN (parN r) (k+1).toNat (x+1)) ⟨i,f,?_,λx=>?_⟩ ?_ (λy j=>?_) (λL l=>⟨L,rfl,l⟩)
 ·simp[nl];omega
 ·simp[nl]
 ·show(k+1).toNat<4294967296;omega
 ·obtain⟨a1,s,a3,d⟩:=j;by_cases t:y.2= -1
  ·refine .inr ⟨y.1,ju,qa,λx=>?_⟩;rw[<-d x];constructor
   ·simp_all
   ·rintro(h|h)
    ·exact h
    ·have:=h.pos.1;omega
  ·left;have e:=(dzz hr (show y.2.toNat<r.Xc.length from qa)).parent;refine⟨(y.2::y.1,(r.Xc.getD y.2.toNat qu).XD),?_,⟨e.1,qa,jv,λx=>?_⟩,qa⟩
   ·grind[az8,azd]
   ·rw[<-d x];have a:parN r (y.2+1).toNat=((r.Xc.getD y.2.toNat qu).XD+1).toNat:=by
     unfold parN;rw[show(y.2+1).toNat-1=y.2.toNat from qa]
    simp only[List.mem_cons];constructor
    ·rintro((h|h)|h)
     ·right;rw[show(y.2+1).toNat=x+1 from qa];exact .self qa
     ·exact Or.inl h
     ·right;exact .up qa (a▸h)
    ·rintro(h|h)
     ·exact Or.inl (Or.inr h)
     ·generalize q:(y.2+1).toNat=m at h;cases h with
      |self h=>omega
      |up h b=>right;rw[<-q,a]at b;exact b
omit hr in
theorem Kz5 (l:List Int)(x:Int)(h:l.length<4294967296):(Aza l x).o=some (qv (x∈l)):=by
 show(Azb l x).run NN=_;simp only[Azb,qj];refine(dz8 (λi=>sw (l.getD i qu==x) true) l.length h (λj c=>?_) ?_).trans ?_
 ·rw[az5 qa,az8 qa,wn qa,qF,<-czn]
 ·simp_all
 ·rw[bze];have:azz (λi=>l.getD i qu==x) l.length= !qv (x∈l):=by
   grind[noneB_iff,we]
  rw[this];cases qv (x∈l)<;>rfl
def betL (p:Nat->Bool)(n:Nat):List Int:=((List.range n).filter p).map λ(i:Nat)=>(i:Int)
omit hr in
theorem az85 (p:Nat->Bool)(n:Nat):betL p (n+1)=if p n then betL p n++[(n:Int)]else betL p n:=by
 grind[betL,qT]
omit hr in
theorem az4h (p:Nat->Bool)(n:Nat):(betL p n).length<=n:=by
 grind[betL]
omit hr in
theorem azd1 {p:Nat->Bool}{n:Nat}{x:Int}:x∈betL p n↔∃i:Nat,x=(i:Int)/\i<n/\p i=true:=by
 grind[betL]
theorem Uz7 {a b:Int}(e: -1<=a)(d:a<(r.Xc.length:Int))(l: -1<=b)(f:b<(r.Xc.length:Int)):
 ∃L:List Int,(Gzq r a b).o=some L/\L.length<=r.Xc.length/\∀x:Int,x∈L↔∃i:Nat,x=(i:Int)/\i<r.Xc.length/\¬ (AncN (parN r) (a+1).toNat (i+1)↔AncN (parN r) (b+1).toNat (i+1)):=by
 have k:=dzy hr;obtain⟨X,h,s,n⟩:=Nzm hr e d;obtain⟨Y,g,m,q⟩:=Nzm hr l f;let p:Nat->Bool:=λi=> !(qv ((i:Int)∈X)==qv ((i:Int)∈Y))
 refine⟨betL p r.Xc.length,?_,az4h _ _,λx=>?_⟩
 ·show(wza r a b).run NN=_;simp only[wza,qj,dz1,hr,lz5,qI];rw[bz8 rfl,show tz5 r.Xc.length a=true by simp[tz5];omega,show tz5 r.Xc.length b=true by simp[tz5];omega];simp only[qJ,qd,az3,h,g,qI];refine(bzm (λj=>(betL p j,(j:Int))) (betL p r.Xc.length) r.Xc.length rfl (show r.Xc.length<4294967296 from qa) (λj t=>?_) ?_).trans rfl
  ·have:=az4h p j;simp only[Kz5 X _ (show X.length<4294967296 from qa),Kz5 Y _ (show Y.length<4294967296 from qa),qI]
   grind[wn,az85,az8,azd,andC]
  simp_all
 grind[azd1]
theorem az13 {a b:Int}(u: -1<=a)(s:a<(r.Xc.length:Int))(y: -1<=b)(v:b<(r.Xc.length:Int)):(Nzo r a b).o=some (qv (carN r (a+1).toNat=carN r (b+1).toNat)):=by
 have hr':=dzy hr;obtain⟨L,w,l2,m⟩:=Uz7 hr u s y v;show(Ez4 r a b).run NN=_;simp only[Ez4,qj,dz1,hr,lz5,qI];rw[bz8 rfl,show tz5 r.Xc.length a=true by simp[tz5];omega,show tz5 r.Xc.length b=true by simp[tz5];omega];simp only[qJ,qd,az3,w,qI];have f:∀j,j<L.length->0<=L.getD j qu/\L.getD j qu<(r.Xc.length:Int):=λj g=>by
  grind[List.getElem_mem]
 refine(dz8 (λj=>sw (qv ((r.Xc.getD (L.getD j qu).toNat qu).Lo<(r.Xc.getD (L.getD j qu).toNat qu).Hi)) false) L.length qa (λj g=>?_) ?_).trans ?_
 ·rw[az5 qa,az8 qa,qF,az8 (f j g),az8 qa,az8 (f j g),wn qa,<-czn]
 ·simp_all
 ·rw[bze];have:azz (λj=>qv ((r.Xc.getD (L.getD j qu).toNat qu).Lo<(r.Xc.getD (L.getD j qu).toNat qu).Hi)) L.length=qv (carN r (a+1).toNat=carN r (b+1).toNat):=by
   rw[qR,noneB_iff,qf];unfold carN;rw[azfx (Rza hr) qa qa qa];constructor
   ·intro h x t;by_cases n:AncN (parN r) (a+1).toNat x↔AncN (parN r) (b+1).toNat x
    ·omega
    ·exfalso
     have hx0:0<x/\x<=r.Xc.length:=by
      by_cases k:AncN (parN r) (a+1).toNat x
      ·have:=k.le (Rza hr) qa;exact⟨k.pos.2,qa⟩
      ·by_cases l:AncN (parN r) (b+1).toNat x
       ·have:=l.le (Rza hr) qa;exact⟨l.pos.2,qa⟩
       simp_all
     obtain⟨i,rfl⟩:∃i,x=i+1:=⟨x-1,qa⟩;have hm:(i:Int)∈L:=(m _).2 ⟨i,rfl,qa,n⟩;obtain⟨j,g,e⟩:=we hm;have jo:=(dzz hr (show i<r.Xc.length from qa)).lim.1;apply t
     grind
   ·intro h j g;have:L.getD j qu∈L:=by grind
    obtain⟨i,k,l,q⟩:=(m _).1 this;rw[k,qF,qi];intro p;exact q (h (i+1) (by show(r.Xc.getD (i+1-1) qu).Lo≠(r.Xc.getD (i+1-1) qu).Hi;grind))
  rw[this];cases qv (carN r (a+1).toNat=carN r (b+1).toNat)<;>rfl
omit hr
def skB (l:List ezj)(a b:Int)(i:Nat):Bool:=((l.getD i qu).A==a&&(l.getD i qu).B==b)||((l.getD i qu).A==b&&(l.getD i qu).B==a)
def skV (s:az7)(a b:Int):Bool:= !azz (skB s.Xr a b) s.Xr.length
theorem Szl (s:az7)(a b:Int)(h:s.Xr.length<4294967296):(Ezg s a b).o=some (skV s a b):=by
 show(szk s a b).run NN=_;simp only[szk,qj,bzc,az3,wg,ezt];refine(dz8 (λi=>sw (skB s.Xr a b i) true) s.Xr.length h (λj c=>?_) ?_).trans ?_
 ·rw[az5 qa,az8 qa,wn qa,qF,<-czn];rfl
 ·simp_all
 ·rw[bze];unfold skV;cases azz (skB s.Xr a b) s.Xr.length<;>rfl
theorem Uz8 (s:az7)(a b:Int)(h:s.Xr.length<4294967296):(Gzr s a b).o=some (skV s a b):=by
 show(wzb s a b).run NN=_;simp only[wzb,qj];refine(dz8 (λi=>sw (skB s.Xr a b i) true) s.Xr.length h (λj c=>?_) ?_).trans ?_
 ·rw[az5 qa,az8 qa,wn qa,qF,<-czn];unfold skB;cases (s.Xr.getD j qu).A==a<;>cases (s.Xr.getD j qu).B==b<;>cases (s.Xr.getD j qu).A==b<;>cases (s.Xr.getD j qu).B==a<;>rfl
 ·simp_all
 ·rw[bze];unfold skV;cases azz (skB s.Xr a b) s.Xr.length<;>rfl
section
variable (c:Nat->Nat->Bool)
def pin (L:List czd)(i:Nat):Nat->List czd
 |0=>L
 |m+1=>if c i (i+1+m)then pin L i m++[⟨(i:Int),((i+1+m:Nat):Int)⟩]else pin L i m
def pou (n:Nat):Nat->List czd
 |0=>nl
 |i+1=>pin c (pou n i) i (n- (i+1))
theorem Xzi (L:List czd)(i:Nat):∀m,(pin c L i m).length<=L.length+m
 |0=>by simp[pin]
 |m+1=>by
  have:=Xzi L i m;simp only[pin];split
  ·simp;omega
  ·omega
theorem Xzk {n:Nat}:∀i,(pou c n i).length<=i * n
 |0=>by simp[pou,nl]
 |i+1=>by
  have a:=Xzk (n:=n) i;have b:=Xzi c (pou c n i) i (n- (i+1));simp only[pou];rw[Nat.add_mul];omega
end
def Vz5 (s:az7)(i:Nat):Int:=(s.Xe.getD i qu).XB
def tz8 (s:az7)(i k:Nat):Bool:= !qv (carN s.Xg (Vz5 s i+1).toNat=carN s.Xg (Vz5 s k+1).toNat)&& !skV s (Vz5 s i) (Vz5 s k)
def cz5 (s:az7):List czd:=if bzv s=0 then pou (tz8 s) s.Xe.length s.Xe.length else nl
theorem az12 (s:az7):(Nzn s).o=some (cz5 s):=by
 show(Ez3 s).run NN=_;simp only[Ez3,qj,czb,qI,cz5];by_cases h:bzv s=0
 ·have a:=oz0 h;have f:=a.len;have j:=a.skips;rw[bz8 h,qc h];refine(bzm (λi=>(pou (tz8 s) s.Xe.length i,(i:Int))) (pou (tz8 s) s.Xe.length s.Xe.length) s.Xe.length rfl (show s.Xe.length<4294967296 from qa) (λi d=>?_) ?_).trans rfl
  ·rw[az5 qa];rw[wn qa];refine(bzm (λm=>(pin (tz8 s) (pou (tz8 s) s.Xe.length i) i m,((i+1+m:Nat):Int))) (pou (tz8 s) s.Xe.length (i+1)) (s.Xe.length- (i+1)) rfl (show s.Xe.length- (i+1)<4294967296 from qa) (λm l=>?_) ?_).trans rfl
   ·have g:i+1+m<s.Xe.length:=qa
    have b:=(xzl (a.shape i d)).2;have c:=(xzl (a.shape (i+1+m) g)).2;have q:=Xzi (tz8 s) (pou (tz8 s) s.Xe.length i) i m;have lo:=Xzk (tz8 s) (n:=s.Xe.length) i;have p:i * s.Xe.length<=24 * 24:=qz qa qa;simp only[qF];rw[az5 qa,az8 ⟨qa,qa⟩,az8 ⟨qa,qa⟩,wn qa];simp only[az13 a.robot b.1 b.2 c.1 c.2,Uz8 s _ _ (show s.Xr.length<4294967296 from qa),qI,pin]
    have e:(andC (bif (s.Xe.getD i qu).XB !=(s.Xe.getD (i+1+m) qu).XB then bif !qv (carN s.Xg ((s.Xe.getD i qu).XB+1).toNat=carN s.Xg ((s.Xe.getD (i+1+m) qu).XB+1).toNat)then
     some (.out (!skV s (s.Xe.getD i qu).XB (s.Xe.getD (i+1+m) qu).XB))else some (.out false)else some (.out false)):(Bool->Option (Step3 Unit (List czd) (Step3 (List czd×Int) (List czd) (Step3 (List czd×Int) (List czd) (List czd)))))->_)=λk=>k (tz8 s i (i+1+m)):=by
     grind[az3,tz8,Vz5]
    rw[e];rw[az8 ⟨jv,by simp[azd];omega⟩];cases tz8 s i (i+1+m)<;>rfl
   ·rw[az9 qa];rfl
  simp_all
 grind
theorem Yz9 (s:az7):(Kze s).o=some (cz5 s):=by
 show(Azh s).run NN=_;simp only[Azh,qj,ize,qI,cz5];by_cases h:bzv s=0
 ·have a:=oz0 h;have f:=a.len;have e:=a.skips;have b:=dzy a.robot;rw[bz8 h,qc h,Ozv a.robot,qI];refine(bzm (λi=>(pou (tz8 s) s.Xe.length i,(i:Int))) (pou (tz8 s) s.Xe.length s.Xe.length) s.Xe.length rfl (show s.Xe.length<4294967296 from qa) (λi d=>?_) ?_).trans rfl
  ·rw[az5 qa,az8 ⟨jt,qa⟩];rw[wn qa];refine(bzm (λm=>(pin (tz8 s) (pou (tz8 s) s.Xe.length i) i m,((i+1+m:Nat):Int))) (pou (tz8 s) s.Xe.length (i+1)) (s.Xe.length- (i+1)) rfl (show s.Xe.length- (i+1)<4294967296 from qa) (λm l=>?_) ?_).trans rfl
   ·have c:i+1+m<s.Xe.length:=qa
    have g:=(xzl (a.shape i d)).2;have p:=(xzl (a.shape (i+1+m) c)).2;have k:=Xzi (tz8 s) (pou (tz8 s) s.Xe.length i) i m;have lo:=Xzk (tz8 s) (n:=s.Xe.length) i;have j:i * s.Xe.length<=24 * 24:=qz qa qa;simp only[qF,bzf]
    rw[az5 qa,az8 ⟨qa,qa⟩,w64 (x:=(s.Xe.getD i qu).XB+1) qa qa,w64 (x:=(s.Xe.getD (i+1+m) qu).XB+1) qa qa,
     az8 ⟨qa,qa⟩,az8 ⟨qa,qa⟩,wn qa,hzb qa,hzb qa]
    simp only[Szl s _ _ (show s.Xr.length<4294967296 from qa),qI,pin]
    grind[andC,caP,tz8,Vz5,az8,azd]
   ·rw[az9 qa];rfl
  simp_all
 grind
theorem u64w {x:Int}(h0:0<=x)(h1:x<18446744073709551616):IntKind.u64.wrap x=x:=by
 show(if(false&&qv (x % 18446744073709551616>=9223372036854775808))=true then x % 18446744073709551616-18446744073709551616 else x % 18446744073709551616)=x;rw[qb jt];omega
theorem u8w {x:Int}(h0:0<=x)(h1:x<256):IntKind.u8.wrap x=x:=by
 show(if(false&&qv (x % 256>=128))=true then x % 256-256 else x % 256)=x;rw[qb jt];omega
def IsRoot (n s:Int):Prop:=0<=s/\s * s<=n/\n<(s+1) * (s+1)
theorem IsRoot.uniq {n s t:Int}(h1:IsRoot n s)(h2:IsRoot n t):s=t:=by
 obtain⟨a0,a1,a2⟩:=h1;obtain⟨b0,b1,b2⟩:=h2;by_cases h:s<t
 ·have:(s+1) * (s+1)<=t * t:=qL qa qa qa qa;omega
 ·by_cases h':t<s
  ·have:(t+1) * (t+1)<=s * s:=qL qa qa qa qa;omega
  ·omega
theorem az3o {n:Int}(h0:1<=n)(h1:n<4611686018427387904):∃s,(rzs n).o=some s/\IsRoot n s:=by
 have e0:(rzs n).o=(Hzz n).run NN:=rfl;rw[e0];simp only[Hzz,qj];rw[az9 qa]
 refine Wzl (β:=Int) (g:=λs=>some s) (P:=λs=>IsRoot n s) (λ(y:Int×Int)=>1<=y.1/\y.1<y.2/\y.2<=4294967296/\y.1 * y.1<=n/\n<y.2 * y.2) (λy=>(y.2-y.1).toNat) (λs=>IsRoot n s)
  ⟨jr,jr,jr,qa,jy⟩ jr (λy hy=>?_) (λs hs=>⟨s,rfl,hs⟩)
 obtain⟨a1,a2,a3,a4,a5⟩:=hy;rw[w64 (x:=y.2-y.1) qa qa];by_cases hd:y.2-y.1>1
 ·left;rw[az5 hd,Azq qa,w64 (x:=(y.2-y.1) / 2) qa qa,w64 (x:=y.1+(y.2-y.1) / 2) qa qa,az8 qa];generalize hm:y.1+(y.2-y.1) / 2=m;have m1:y.1<m/\m<y.2:=qa
  have q:=Mzy (a:=n) (b:=m) qa;have q1:=q.1 qa;rw[Azq qa,w64 (x:=n / m) qa qa];have key:m<=n / m↔m * m<=n:=qC qa;by_cases hc:m<=n / m
  ·rw[az5 hc];exact⟨_,rfl,⟨jy,jy,a3,key.1 hc,a5⟩,jy⟩
  ·rw[az9 hc];exact⟨_,rfl,⟨a1,jy,jy,a4,by simp only;have:=mt key.2 hc;omega⟩,jy⟩
 ·right;rw[az9 hd];exact⟨_,rfl,qa,a4,by rw[show y.1+1=y.2 from qa];exact a5⟩
def lenT (b:Nat):Nat:=((#[0,1,2,2,3,3,3,3,4,4,4,4,4,4,4,4,5,5,5,5,5,5,5,5,5,5,5,5,5,5,5,5,6,6,6,6,6,6,6,6,6,6,6,6,6,6,6,6,6,6,6,6,6,6,6,6,6,6,6,6,6,6,6,6,7,7,7,7,7,7,7,7,7,7,7,7,7,7,7,7,7,7,7,7,7,7,7,7,7,7,7,7,7,7,7,7,7,7,7,7,7,7,7,7,7,7,7,7,7,7,7,7,7,7,7,7,7,7,7,7,7,7,7,7,7,7,7,7,8,8,8,8,8,8,8,8,8,8,8,8,8,8,8,8,8,8,8,8,8,8,8,8,8,8,8,8,8,8,8,8,8,8,8,8,8,8,8,8,8,8,8,8,8,8,8,8,8,8,8,8,8,8,8,8,8,8,8,8,8,8,8,8,8,8,8,8,8,8,8,8,8,8,8,8,8,8,8,8,8,8,8,8,8,8,8,8,8,8,8,8,8,8,8,8,8,8,8,8,8,8,8,8,8,8,8,8,8,8,8,8,8,8,8,8,8,8,8,8,8,8,8,8,8,8,8,8]:Array UInt8).getD b 0).toNat
theorem azim:∀b,b<256->b<2 ^ lenT b/\lenT b<=8:=of_decide_eq_true jw
def lenE (y:Int×Int):Option Int:=grd (0<=IntKind.u8.wrap y.1/\IntKind.u8.wrap y.1<((256:Nat):Int)) (some (qt.wrap (y.2+qt.wrap ((lenT (IntKind.u8.wrap y.1).toNat:Nat):Int))))
theorem azld (n:Int):(gza n).o=
 andC (bif qv (n>=4294967296)then some (.out (n.fdiv (2 ^ min (32:Int).toNat 64),32))else some (.out (n,0)):Option (Step3 Unit (Int×Int) Int)) λy5=>
 andC (bif qv (y5.1>=65536)then some (.out (y5.1.fdiv (2 ^ min (16:Int).toNat 64),qt.wrap (y5.2+16)))else some (.out (y5.1,y5.2)):Option (Step3 Unit (Int×Int) Int)) λy6=>
 andC (bif qv (y6.1>=256)then some (.out (y6.1.fdiv (2 ^ min (8:Int).toNat 64),qt.wrap (y6.2+8)))else some (.out (y6.1,y6.2)):Option (Step3 Unit (Int×Int) Int)) λy7=>lenE y7:=jw
theorem Lzp {n:Int}(h0:0<=n)(h1:n<4294967296):∃L:Nat,(gza n).o=some (L:Int)/\n<2 ^ L/\L<=32:=by
 rw[azld,az9 qa,az3];have fin:∀ (x:Int) (k:Nat),0<=x->x<256->k<=24->n<(x+1) * 2 ^ k->∃L:Nat,lenE (x,(k:Int))=some (L:Int)/\n<2 ^ L/\L<=32:=by
  intro x k x0 x1 hk hn;obtain⟨b,rfl⟩:∃b:Nat,x=(b:Int):=⟨x.toNat,qa⟩;have hb:=azim b qa;unfold lenE;simp only;rw[u8w qa qa,az8 ⟨qa,qa⟩,qF,w64 (x:=((lenT b:Nat):Int)) qa qa,w64 qa qa];refine⟨k+lenT b,by rw[Int.natCast_add],?_,qa⟩;have h2:(((b+1:Nat):Int)) * 2 ^ k<=2 ^ lenT b * 2 ^ k:=by
   refine wh ?_ (qB (ez1 k))
   exact_mod_cast hb.1
  rw[Nat.add_comm,qD];have h3:((b:Int)+1)=((b+1:Nat):Int):=qa
  rw[h3]at hn;omega
 have s16:∀x:Int,x.fdiv (2 ^ min (wi 16) 64)=x / 65536:=λx=>Wzm x 16
 have s8:∀x:Int,x.fdiv (2 ^ min (wi 8) 64)=x / 256:=λx=>Wzm x 8
 have p24:(2:Int) ^ 24=16777216:=jr
 have p16:(2:Int) ^ 16=65536:=jr
 have p8:(2:Int) ^ 8=256:=jr
 have e16:qt.wrap (0+16)=16:=jr
 have e8:qt.wrap (0+8)=8:=jr
 have e24:qt.wrap (16+8)=24:=jr
 by_cases c1:n>=65536
 ·rw[az5 c1,az3,s16,e16];by_cases c2:n / 65536>=256
  ·rw[az5 c2,az3,s8,e24];exact fin _ 24 qa qa qa (by rw[p24];omega)
  ·rw[az9 c2,az3];exact fin _ 16 qa qa qa (by rw[p16];omega)
 ·rw[az9 c1,az3];by_cases c2:n>=256
  ·rw[az5 c2,az3,s8,e8];exact fin _ 8 qa qa qa (by rw[p8];omega)
  ·rw[az9 c2,az3];exact fin _ 0 qa qa qa (by simp only[Int.pow_zero];omega)
theorem Zzi {n:Int}(h0:1<=n)(h1:n<4294967296):∃s,(Czi n).o=some s/\IsRoot n s:=by
 have e0:(Czi n).o=(Czj n).run NN:=rfl;rw[e0];obtain⟨L,l1,l2,l3⟩:=Lzp (n:=n) qa h1;simp only[Czj,qj];rw[az9 qa,u64w (x:=n) qa qa,l1,qI,w64 (x:=(L:Int)+1) qa qa,Azq qa,w64 (x:=((L:Int)+1) / 2) qa qa,az8 qa];obtain⟨W,hW⟩:∃W:Nat,((L:Int)+1) / 2=(W:Int):=⟨(L+1) / 2,qa⟩;rw[hW,qF,qG qa,Int.one_mul];have hw16:W<=16:=qa
 have hpw:(2:Int) ^ W<=65536:=by
  have:(2:Int) ^ W<=2 ^ 16:=by exact_mod_cast qU (by decide:0<2) hw16
  have e:(2:Int) ^ 16=65536:=jr
  omega
 have hp0:=ez1 W;rw[u64w (x:=2 ^ W) qa qa];have hn4:n<2 ^ W * 2 ^ W:=by
  rw[<-qD];have:(2:Int) ^ L<=2 ^ (W+W):=by exact_mod_cast qU (by decide:0<2) (show L<=W+W from qa)
  omega
 refine Wzl (β:=Int) (g:=λs=>some s) (P:=λs=>IsRoot n s) (λ(y:Int×Int×Int)=>∃k:Nat,y.2.2=((W-k:Nat):Int)/\k<=W/\y.2.1=2 ^ k/\0<=y.1/\y.1<=2 ^ W-2 ^ k/\y.1 * y.1<=n/\n<(y.1+2 ^ k) * (y.1+2 ^ k))
  (λy=>((W:Int)-y.2.2).toNat) (λs=>IsRoot n s) ⟨W,jt,qk _,rfl,jt,jt,jx,by simp only[Int.zero_add];exact hn4⟩ (by show _<4294967296;simp only;omega) (λy hy=>?_) (λs hs=>⟨qt.wrap s,rfl,?_⟩)
 ·obtain⟨k,b1,b2,b3,b4,b5,b6,b7⟩:=hy;rw[b1,b3];cases k with
  |zero=>
   right;rw[az9 qa];exact⟨_,rfl,b4,b6,by simpa using b7⟩
  |succ k=>
   left;have hk2:(2:Int) ^ (k+1)=2 * 2 ^ k:=by rw[wj];omega
   have hkp:=ez1 k;rw[az5 qa,Azq qa,show(2:Int) ^ (k+1) / 2=2 ^ k from qa,u64w (x:=2 ^ k) qa qa,u64w (x:=y.1+2 ^ k) qa qa];have hsq:(y.1+2 ^ k) * (y.1+2 ^ k)<=65536 * 65536:=qL qa qa qa qa;have hsq0:0<=(y.1+2 ^ k) * (y.1+2 ^ k):=qK qa qa;rw[u64w (x:=(y.1+2 ^ k) * (y.1+2 ^ k)) hsq0 qa];have hi:qt.wrap (((W- (k+1):Nat):Int)+1)=((W-k:Nat):Int):=by rw[w64 qa qa];omega
   rw[hi];by_cases hc:(y.1+2 ^ k) * (y.1+2 ^ k)<=n
   ·rw[az5 hc,az3];exact⟨_,rfl,⟨k,rfl,qa,rfl,jy,jy,hc,by simp only;rw[show y.1+2 ^ k+2 ^ k=y.1+2 ^ (k+1) from qa];exact b7⟩,jy⟩
   ·rw[az9 hc,az3];exact⟨_,rfl,⟨k,rfl,qa,rfl,b4,jy,b6,jy⟩,jy⟩
 ·obtain⟨c1,c2,c3⟩:=hs;have:s<=n:=by
   by_cases hz:s=0
   ·omega
   ·have:s * 1<=s * s:=qE qa c1;omega
  rw[w64 qa qa];exact⟨c1,c2,c3⟩
def Bzm (n:Int):Int:=(rzs n).o.getD 0
theorem az5w {n:Int}(h0:1<=n)(h1:n<4294967296):IsRoot n (Bzm n)/\(rzs n).o=some (Bzm n):=by
 obtain⟨s,e,h⟩:=az3o h0 qa;unfold Bzm;rw[e];exact⟨h,rfl⟩
theorem azbw {n s:Int}(h0:1<=n)(h:IsRoot n s):s<=n:=by
 obtain⟨c1,c2,-⟩:=h;by_cases hz:s=0
 ·omega
 ·have:s * 1<=s * s:=qE qa c1;omega
def rupV (n:Int):Int:=if Bzm n * Bzm n<n then Bzm n+1 else Bzm n
theorem Tzl {n:Int}(h0:1<=n)(h1:n<4294967296):(Gz2 n).o=some (rupV n):=by
 obtain⟨s,e,h⟩:=Zzi h0 h1;obtain⟨k1,k2⟩:=az5w h0 h1;have es:s=Bzm n:=h.uniq k1;have sl:=azbw h0 k1;obtain⟨r1,r2,r3⟩:=k1;show(uzs n).run NN=_;simp only[uzs,qj,e,qI,es,rupV];rw[w64 (x:=Bzm n * Bzm n) (by have:=qK r1 r1;omega) qa,w64 (x:=Bzm n+1) qa qa];by_cases hc:Bzm n * Bzm n<n
 ·rw[az5 hc,qc hc,az3]
 ·rw[az9 hc,qb hc,az3]
theorem Xzu {n:Int}(h0:1<=n)(h1:n<4294967296):(Kz0 n).o=some (rupV n):=by
 obtain⟨k1,k2⟩:=az5w h0 h1;have sl:=azbw h0 k1;obtain⟨r1,r2,r3⟩:=k1;show(zzv n).run NN=_;simp only[zzv,qj,k2,qI,rupV];rw[az5 qa,az3,w64 (x:=Bzm n * Bzm n) (by have:=qK r1 r1;omega) qa,w64 (x:=Bzm n+1) qa qa];by_cases hc:Bzm n * Bzm n<n
 ·rw[az5 hc,qc hc,az3]
 ·rw[az9 hc,qb hc,az3]
abbrev V3:=Int×Int×Int
def dz5 (n:V3):Bool:= !((n.1==0)&&((n.2.1==0)&&((n.2.2==0)&&true)))&&jzj n 16384
theorem hz6 (n:V3):(fz0 n).o=some (dz5 n):=by
 show(vzb n).run NN=_;simp only[vzb,qj,fzb n (show(0:Int)<=16384 by decide) jr,qI,dz5];cases (n.1==0)&&((n.2.1==0)&&((n.2.2==0)&&true))<;>rfl
def bey2 (x:Int):Bool:=qv (x< -16384)||qv (x>16384)
theorem Mzn (v:V3):(xzq v).o=some (jzj v 16384):=by
 show(nz3 v).run NN=_;simp only[nz3,qj,bzc,az3,ezt];refine(dz8 (λi=>sw (bey2 (([v.1,v.2.1,v.2.2]:List Int).getD i 0)) false) 3 jr (λj hj=>?_) ?_).trans ?_
 ·rw[az5 qa,az8 qa,wn qa,qF,<-czn];rfl
 ·rw[az9 qa]
 ·rw[bze];have:azz (λi=>bey2 (([v.1,v.2.1,v.2.2]:List Int).getD i 0)) 3=jzj v 16384:=by
   rw[qR,noneB_iff,nearV_iff];constructor
   ·intro h;have a:=h 0 jr;have b:=h 1 jr;have c:=h 2 jr;simp only[bey2,wk,wm,qp,qi]at a b c;omega
   ·intro h i hi
    match i,hi with
    |0,_=>simp only[bey2,wk,qp,qi];omega
    |1,_=>simp only[bey2,wk,wm,qp,qi];omega
    |2,_=>simp only[bey2,wk,wm,qp,qi];omega
  rw[this];cases jzj v 16384<;>rfl
theorem pzj (n:V3):(jzb n).o=some (dz5 n):=by
 show(pzi n).run NN=_;simp only[pzi,qj,Mzn,qI,dz5];cases jzj n 16384<;>cases (n.1==0)&&((n.2.1==0)&&((n.2.2==0)&&true))<;>rfl
theorem az1y {n:V3}(h:dz5 n=true):((-16384<=n.1/\n.1<=16384)/\(-16384<=n.2.1/\n.2.1<=16384)/\(-16384<=n.2.2/\n.2.2<=16384))/\(n.1≠0\/n.2.1≠0\/n.2.2≠0):=by
 simp only[dz5,qm,nearV_iff,qX,Bool.and_eq_false_iff,beq_eq_false_iff_ne,ne_eq,wg]at h;refine⟨h.2,?_⟩;rcases h.1 with h|h|h
 ·exact Or.inl h
 ·exact Or.inr (Or.inl h)
 ·exact Or.inr (Or.inr h)
theorem azjr {x:Int}(h: -16384<=x/\x<=16384):0<=x * x/\x * x<=268435456/\(x≠0->1<=x * x):=by
 have h1:(x * x).natAbs<=16384 * 16384:=by rw[qH];exact qz qa qa
 have h0:0<=x * x:=by
  by_cases hx:0<=x
  ·exact qK hx hx
  ·exact Int.mul_nonneg_of_nonpos_of_nonpos qa qa
 refine⟨h0,qa,λhx=>?_⟩;have:x * x≠0:=Int.mul_ne_zero hx hx;omega
def sqV (n:V3):Int:=n.1 * n.1+n.2.1 * n.2.1+n.2.2 * n.2.2
def azar (n:V3):Int:=if dz5 n then rupV (sqV n)else 0
theorem azhb {n:V3}(h:dz5 n=true):1<=sqV n/\sqV n<4294967296/\qt.wrap (qt.wrap (qt.wrap (n.1 * n.1)+qt.wrap (n.2.1 * n.2.1))+qt.wrap (n.2.2 * n.2.2))=sqV n:=by
 obtain⟨⟨b1,b2,b3⟩,hz⟩:=az1y h;have s1:=azjr b1;have s2:=azjr b2;have s3:=azjr b3;unfold sqV;rw[w64 (x:=n.1 * n.1) qa qa,w64 (x:=n.2.1 * n.2.1) qa qa,w64 (x:=n.2.2 * n.2.2) qa qa,w64 (x:=n.1 * n.1+n.2.1 * n.2.1) qa qa,w64 qa qa];refine⟨?_,qa,rfl⟩;rcases hz with h|h|h
 ·have:=s1.2.2 h;omega
 ·have:=s2.2.2 h;omega
 ·have:=s3.2.2 h;omega
theorem Uzk (n:V3):(Gzx n).o=some (azar n):=by
 show(wzo n).run NN=_;simp only[wzo,qj,pzj,qI,azar];cases h:dz5 n
 ·rfl
 ·have hs:=azhb h;simp only[qJ,qd,if_true];rw[hs.2.2,Tzl hs.1 hs.2.1];rfl
theorem Nzh (n:V3):(tzz n).o=some (azar n):=by
 show(Dz7 n).run NN=_;simp only[Dz7,qj,hz6,qI,azar];cases h:dz5 n
 ·rfl
 ·have hs:=azhb h;simp only[qJ,qd,if_true];rw[hs.2.2,Xzu hs.1 hs.2.1];rfl
def rng (x:az0):Bool:= !(qv (x.Lo< -268435456)||(qv (x.Lo>x.Hi)||qv (x.Hi>268435456)))
theorem azbt {x:az0}:rng x=true↔ -268435456<=x.Lo/\x.Lo<=x.Hi/\x.Hi<=268435456:=by
 grind[rng]
def iza (v:IV3):Bool:=rng v.1&&(rng v.2.1&&rng v.2.2)
def farL (l:List IV3)(i:Nat):Bool:= !iza (l.getD i qu)
def dza (l:List IV3):Bool:=qv (1<=l.length/\l.length<=8)&&azz (farL l) l.length
theorem xza {l:List IV3}(h:dza l=true){i:Nat}(a:i<l.length):iza (l.getD i qu)=true:=by
 grind[dza,noneB_iff,farL]
theorem iz9 {l:List IV3}(h:dza l=true):1<=l.length/\l.length<=8:=by
 grind[dza]
theorem Dz8 (v:IV3):(rzl v).o=some (iza v):=by
 show(rzm v).run NN=_;simp only[rzm,qj,bzc,az3,ezt,iza,rng]
 grind
theorem wzj (l:List IV3):(izz l).o=some (dza l):=by
 show(wzi l).run NN=_;simp only[wzi,qj,bzc,az3,ezt,dza];by_cases h:1<=l.length/\l.length<=8
 ·rw[qg h,qh (p:=(l.length:Int)<1) qa,qh (p:=(l.length:Int)>8) qa];refine(dz8 (λi=>sw (farL l i) false) l.length qa (λj a=>?_) ?_).trans ?_
  ·rw[az5 qa,az8 qa,wn qa,qF,<-czn]
   grind[farL,iza,rng]
  ·simp_all
  ·rw[bze];cases azz (farL l) l.length<;>rfl
 grind
theorem hz5 (l:List IV3):(ez6 l).o=some (dza l):=by
 show(vz9 l).run NN=_;simp only[vz9,qj,bzc,az3,Dz8,qI];refine(dz8 (λi=>sw (farL l i) false) (min l.length 9) qa (λj a=>?_) ?_).trans ?_
 ·have e:(bif qv ((j:Int)<(l.length:Int))then qv ((j:Int)<=8)else false)=true:=by grind
  rw[e,qe,az8 qa,wn qa,qF,<-czn];rfl
 ·grind
 ·rw[bze];unfold dza;by_cases h:1<=l.length/\l.length<=8
  ·rw[qg h,qG qa,qM];cases azz (farL l) l.length
   ·rfl
   ·show(bif qv ((l.length:Int)>=1)then _ else _)=_
    grind
  ·rw[qh h,wo];cases azz (farL l) (min l.length 9)
   ·rfl
   ·show(bif qv ((l.length:Int)>=1)then _ else _)=_
    grind
def dLo (n:V3)(v:IV3):Int:=min (n.1 * v.1.Lo) (n.1 * v.1.Hi)+min (n.2.1 * v.2.1.Lo) (n.2.1 * v.2.1.Hi)+min (n.2.2 * v.2.2.Lo) (n.2.2 * v.2.2.Hi)
def dHi (n:V3)(v:IV3):Int:=max (n.1 * v.1.Lo) (n.1 * v.1.Hi)+max (n.2.1 * v.2.1.Lo) (n.2.1 * v.2.1.Hi)+max (n.2.2 * v.2.2.Lo) (n.2.2 * v.2.2.Hi)
theorem az75 {a b:Int}(c: -16384<=a/\a<=16384)(d: -268435456<=b/\b<=268435456): -4398046511104<=a * b/\a * b<=4398046511104:=by
 have h:(a * b).natAbs<=16384 * 268435456:=by rw[qH];exact qz qa qa
 omega
theorem azgm {n:V3}{v:IV3}(e:dz5 n=true)(d:iza v=true):
 qt.wrap (qt.wrap (qt.wrap (0+min (qt.wrap (n.1 * v.1.Lo)) (qt.wrap (n.1 * v.1.Hi)))+min (qt.wrap (n.2.1 * v.2.1.Lo)) (qt.wrap (n.2.1 * v.2.1.Hi)))+min (qt.wrap (n.2.2 * v.2.2.Lo)) (qt.wrap (n.2.2 * v.2.2.Hi)))=dLo n v/\
 qt.wrap (qt.wrap (qt.wrap (0+max (qt.wrap (n.1 * v.1.Lo)) (qt.wrap (n.1 * v.1.Hi)))+max (qt.wrap (n.2.1 * v.2.1.Lo)) (qt.wrap (n.2.1 * v.2.1.Hi)))+max (qt.wrap (n.2.2 * v.2.2.Lo)) (qt.wrap (n.2.2 * v.2.2.Hi)))=dHi n v/\
 (-13194139533312<=dLo n v/\dLo n v<=13194139533312)/\(-13194139533312<=dHi n v/\dHi n v<=13194139533312):=by
 obtain⟨⟨b,a,c⟩,-⟩:=az1y e;simp only[iza,qm,azbt]at d;have i:=az75 b (show -268435456<=v.1.Lo/\v.1.Lo<=268435456 from qa);have h:=az75 b (show -268435456<=v.1.Hi/\v.1.Hi<=268435456 from qa);have g:=az75 a (show -268435456<=v.2.1.Lo/\v.2.1.Lo<=268435456 from qa);have j:=az75 a (show -268435456<=v.2.1.Hi/\v.2.1.Hi<=268435456 from qa);have f:=az75 c (show -268435456<=v.2.2.Lo/\v.2.2.Lo<=268435456 from qa);have k:=az75 c (show -268435456<=v.2.2.Hi/\v.2.2.Hi<=268435456 from qa)
 grind[dLo,dHi,w64]
theorem Kzu {n:V3}{v:IV3}(b:dz5 n=true)(a:iza v=true):(Azo n v).o=some (dLo n v,dHi n v):=by
 have h:=azgm b a;show(Azp n v).run NN=_
 simp_all[Azp,qj]
theorem Rzs {n:V3}{v:IV3}(b:dz5 n=true)(a:iza v=true):(Hzs n v).o=some (dLo n v,dHi n v):=by
 have h:=azgm b a;show(Hzt n v).run NN=_
 simp_all[Hzt,qj,hz6,Dz8,az3]
def bst (c:Int->Int->Bool)(f:Nat->Int):Nat->Int×Int
 |0=>(0,0)
 |j+1=>if qv (j=0)||c (f j) (bst c f j).1 then(f j,(j:Int))else bst c f j
def ltB (a b:Int):Bool:=qv (a<b)
def gtB (a b:Int):Bool:=qv (a>b)
def Jz2 (n:V3)(l:List IV3):Int×Int:=bst ltB (λi=>dLo n (l.getD i qu)) l.length
def Izx (n:V3)(l:List IV3):Int×Int:=bst gtB (λi=>dHi n (l.getD i qu)) l.length
section
variable {n:V3} {l:List IV3} (hn:dz5 n=true) (hl:dza l=true)
include hn hl
theorem Oz2:(Azx n.1 n.2.1 n.2.2 l).o=some ((Jz2 n l).1,(Jz2 n l).2,n.1,n.2.1,n.2.2):=by
 have c:=iz9 hl;show(ozf n.1 n.2.1 n.2.2 l).run NN=_;simp only[ozf,qj];refine(bzm (λj=>(n.1,n.2.1,n.2.2,(bst ltB (λi=>dLo n (l.getD i qu)) j).1,(bst ltB (λi=>dLo n (l.getD i qu)) j).2,(j:Int))) (n.1,n.2.1,n.2.2,(Jz2 n l).1,(Jz2 n l).2) l.length rfl (show l.length<4294967296 from qa) (λj d=>?_) ?_).trans rfl
 ·rw[az5 ju,az8 ⟨jt,ju⟩];have g:(pzq (l.getD j qu) n.1 n.2.1 n.2.2).o=some (dLo n (l.getD j qu),n.1,n.2.1,n.2.2):=by
   show(izo (l.getD j qu) n.1 n.2.1 n.2.2).run NN=_;simp only[izo,qj,Kzu (n:=(n.1,n.2.1,n.2.2)) hn (xza hl d),qI]
  have h:∀a b,(pzr a b).o=some (ltB a b):=λa b=>rfl
  grind[wn,az3,bst]
 ·rw[az9 jt];rfl
theorem Izn:(tzf n.1 n.2.1 n.2.2 l).o=some ((Izx n l).1,(Izx n l).2,n.1,n.2.1,n.2.2):=by
 have c:=iz9 hl;show(kzg n.1 n.2.1 n.2.2 l).run NN=_;simp only[kzg,qj];refine(bzm (λj=>(n.1,n.2.1,n.2.2,(bst gtB (λi=>dHi n (l.getD i qu)) j).1,(bst gtB (λi=>dHi n (l.getD i qu)) j).2,(j:Int))) (n.1,n.2.1,n.2.2,(Izx n l).1,(Izx n l).2) l.length rfl (show l.length<4294967296 from qa) (λj f=>?_) ?_).trans rfl
 ·rw[az5 ju,az8 ⟨jt,ju⟩];have g:(uzf (l.getD j qu) n.1 n.2.1 n.2.2).o=some (dHi n (l.getD j qu),n.1,n.2.1,n.2.2):=by
   show(lzn (l.getD j qu) n.1 n.2.1 n.2.2).run NN=_
   grind[lzn,qj,Kzu,xza]
  have e:∀a b,(uzg a b).o=some (gtB a b):=λa b=>rfl
  grind[wn,az3,bst]
 ·rw[az9 jt];rfl
end
def Vz4 (n:V3)(l:List IV3):Int×Int×Bool:=bif dz5 n&&dza l then((Jz2 n l).1,(Jz2 n l).2,true)else(0,0,false)
def Uzy (n:V3)(l:List IV3):Int×Int×Bool:=bif dz5 n&&dza l then((Izx n l).1,(Izx n l).2,true)else(0,0,false)
theorem Szr (n:V3)(l:List IV3):(Ezm n l).o=some (Vz4 n l):=by
 show(szr n l).run NN=_;have a:(uze (n.1,n.2.1,n.2.2)).o=some (n.1,n.2.1,n.2.2):=rfl;simp only[szr,qj,pzj,wzj,qI,Vz4,a]
 grind[az3,Oz2]
theorem Kzt (n:V3)(l:List IV3):(uzd n l).o=some (Uzy n l):=by
 show(lzm n l).run NN=_;have a:(Bzd (n.1,n.2.1,n.2.2)).o=some (n.1,n.2.1,n.2.2):=rfl;simp only[lzm,qj,pzj,wzj,qI,Uzy,a]
 grind[az3,Izn]
theorem Xzo (n:V3)(l:List IV3):(Jzn n l).o=some (Vz4 n l):=by
 show(zz9 n l).run NN=_;simp only[zz9,qj,hz6,hz5,qI,Vz4];cases c:dz5 n
 ·rfl
 ·cases b:dza l
  ·rfl
  ·have a:=iz9 b;refine(bzm (λj=>((bst ltB (λi=>dLo n (l.getD i qu)) j).1,(bst ltB (λi=>dLo n (l.getD i qu)) j).2,(j:Int))) ((Jz2 n l).1,(Jz2 n l).2) l.length rfl (show l.length<4294967296 from qa) (λj d=>?_) ?_).trans rfl
   ·grind[az8,Rzs,xza,wn,az3,bst,ltB]
   ·rw[az9 jt];rfl
theorem Ozo (n:V3)(l:List IV3):(Bz7 n l).o=some (Uzy n l):=by
 show(ozq n l).run NN=_;simp only[ozq,qj,hz6,hz5,qI,Uzy];cases c:dz5 n
 ·rfl
 ·cases b:dza l
  ·rfl
  ·have a:=iz9 b;refine(bzm (λj=>((bst gtB (λi=>dHi n (l.getD i qu)) j).1,(bst gtB (λi=>dHi n (l.getD i qu)) j).2,(j:Int))) ((Izx n l).1,(Izx n l).2) l.length rfl (show l.length<4294967296 from qa) (λj d=>?_) ?_).trans rfl
   ·grind[az8,Rzs,xza,wn,az3,bst,gtB]
   ·rw[az9 jt];rfl
def radV (r:Int):Bool:=qv (0<=r)&&qv (r<=1048576)
def Qzv (n:V3)(a:List IV3)(c:Int)(b:List IV3)(d:Int):Int:=
 qt.wrap (qt.wrap ((Jz2 n a).1- (Izx n b).1)-qt.wrap (azar n * qt.wrap (c+d)))
def azc8 (n:V3)(a:List IV3)(c:Int)(b:List IV3)(d:Int):Bool:=dz5 n&&(dza a&&(dza b&&(radV c&&radV d)))
def sepV (n:V3)(a:List IV3)(c:Int)(b:List IV3)(d:Int):Bool:=azc8 n a c b d&&qv (Qzv n a c b d>0)
theorem vzi (r:Int):(fzq r).o=some (radV r):=by
 show(vzh r).run NN=_
 grind[vzh,qj,radV]
theorem Tzv (n:V3)(a:List IV3)(c:Int)(b:List IV3)(d:Int):(Gzi n a c b d).o=some (bif azc8 n a c b d then(Qzv n a c b d,true)else(0,false)):=by
 show(vzf n a c b d).run NN=_;simp only[vzf,qj,Xzo,Ozo,vzi,Nzh,qI,Vz4,Uzy,azc8,Qzv];cases dz5 n<;>cases dza a<;>cases dza b<;>cases radV c<;>cases radV d<;>rfl
theorem xzc (n:V3)(a:List IV3)(c:Int)(b:List IV3)(d:Int):(mzf n a c b d).o=some (sepV n a c b d):=by
 show(mzg n a c b d).run NN=_
 grind[mzg,qj,Tzv,sepV]
theorem az1n (x:fzk):(Ezi x).o=some (dza x.points&&radV x.radius):=by
 show(Ezj x).run NN=_
 grind[Ezj,qj,wzj,radV]
theorem Lzy (n:V3)(a:List IV3)(d:Int)(b:List IV3)(c:Int):(mzc n a d b c).o=some (sepV n a d b c):=by
 have g:(Nzd a d b c).o=some ⟨⟨a,d⟩,⟨b,c⟩⟩:=rfl;have e:(Gzw ⟨⟨a,d⟩,⟨b,c⟩⟩ n).o=some (bif azc8 n a d b c then(Qzv n a d b c,true)else(0,false)):=by
  show(wzk ⟨⟨a,d⟩,⟨b,c⟩⟩ n).run NN=_;simp only[wzk,qj,az1n,Szr,Kzt,Uzk,qI,Vz4,Uzy,azc8,Qzv];cases dz5 n<;>cases dza a<;>cases dza b<;>cases radV d<;>cases radV c<;>rfl
 have f:(xzn ⟨⟨a,d⟩,⟨b,c⟩⟩ n).o=some (sepV n a d b c):=by
  show(mzx ⟨⟨a,d⟩,⟨b,c⟩⟩ n).run NN=_
  grind[mzx,qj,sepV]
 show(mzd n a d b c).run NN=_
 grind[mzd,qj]
theorem az3g {c:Nat->Nat->Bool}{L:List czd}{i:Nat}{x:czd}:∀ {m:Nat},x∈pin c L i m->x∈L\/∃k,k<m/\x=⟨(i:Int),((i+1+k:Nat):Int)⟩
 |0,h=>Or.inl h
 |m+1,h=>by
  simp only[pin]at h;split at h
  ·rcases List.mem_append.1 h with h|h
   ·rcases az3g h with h|⟨k,b,a⟩
    ·exact Or.inl h
    ·exact Or.inr ⟨k,qa,a⟩
   ·exact Or.inr ⟨m,qa,List.mem_singleton.1 h⟩
  ·rcases az3g h with h|⟨k,b,a⟩
   ·exact Or.inl h
   ·exact Or.inr ⟨k,qa,a⟩
theorem azb7 {c:Nat->Nat->Bool}{n:Nat}{x:czd}:∀ {i:Nat},i<=n->x∈pou c n i->0<=x.A/\x.A<(n:Int)/\0<=x.B/\x.B<(n:Int)
 |0,_,h=>by simp[pou,nl]at h
 |i+1,a,h=>by
  rcases az3g h with h|⟨k,d,b⟩
  ·exact azb7 qa h
  grind
theorem azw {a:Type}[Inhabited a]{l:List a}{i:Nat}(h:i<l.length):l.getD i qu∈l:=by
 simp_all
theorem az5k {s:az7}(h:bzv s=0){k:Nat}(b:k<(cz5 s).length):(0<=((cz5 s).getD k qu).A/\((cz5 s).getD k qu).A<(s.Xe.length:Int))/\(0<=((cz5 s).getD k qu).B/\((cz5 s).getD k qu).B<(s.Xe.length:Int)):=by
 have a:=azw b;generalize (cz5 s).getD k qu=x at a⊢;unfold cz5 at a;rw[qc h]at a;have:=azb7 (qk _) a;omega
theorem xz9 (s:az7):(cz5 s).length<=576:=by
 unfold cz5;split
 ·rename_i h;have a:=(oz0 h).len;have c:=Xzk (tz8 s) (n:=s.Xe.length) s.Xe.length;have b:s.Xe.length * s.Xe.length<=24 * 24:=qz a a;omega
 ·simp[nl]
def pA (s:az7)(k:Nat):Nat:=((cz5 s).getD k qu).A.toNat
def pB (s:az7)(k:Nat):Nat:=((cz5 s).getD k qu).B.toNat
def lzp (s:az7)(i:Nat):Int:=(s.Xe.getD i qu).XF
def sepK (s:az7)(b:List az0)(ns:List V3)(k:Nat):Bool:= !sepV (ns.getD k qu) (cz1 s b (pA s k)) (lzp s (pA s k)) (cz1 s b (pB s k)) (lzp s (pB s k))
def uzt (s:az7)(b:List az0)(ns:List V3):Bool:=
 qv (bzv s=0)&&(boxV s.Xg b&&(qv (ns.length=(cz5 s).length)&&azz (sepK s b ns) (cz5 s).length))
theorem Rzm {s:az7}{b:List az0}(h:bzv s=0)(a:boxV s.Xg b=true):rzh s b=tab (cz1 s b) s.Xe.length:=by grind[rzh]
theorem Nzz (s:az7)(b:List az0)(a:b.length<4294967296):(oza s b).o=some (if bzv s=0/\boxV s.Xg b=true then(⟨s.Xe,cz5 s,rzh s b⟩,true)else(⟨nl,nl,nl⟩,false)):=by
 show(ozb s b).run NN=_;simp only[ozb,qj,ize,qI];by_cases h:bzv s=0
 ·rw[bz8 h,az3];by_cases e:b.length=s.Xg.Xc.length
  ·rw[bz8 qa];refine(dz8 (λi=>sw (notV b i) ((⟨nl,nl,nl⟩:czq),false)) b.length a (λj d=>?_) ?_).trans ?_
   ·rw[az5 qa,az8 qa,wn qa,qF,<-czn];simp only[cz8,qI];rfl
   ·simp_all
   ·rw[bze];have:boxV s.Xg b=azz (notV b) b.length:=by grind[boxV]
    rw[this];cases azz (notV b) b.length
    ·rw[qb (λh=>jv)];rfl
    ·simp_all[sw,Yz9,Hzj]
  grind[boxV]
 grind[az3]
theorem Fzd (s:az7)(b:List az0)(ns:List V3)(c:b.length<4294967296):(pzo s b ns).o=some (uzt s b ns):=by
 have f:=xz9 s;have e:=Nzz s b c;show(izj s b ns).run NN=_;have k:(Azu s b ⟨ns⟩).o=some (uzt s b ns):=by
  show(oz9 s b ⟨ns⟩).run NN=_;simp only[oz9,qj,e,qI];by_cases h:bzv s=0/\boxV s.Xg b=true
  ·have l:(uzc ⟨ns⟩ ⟨s.Xe,cz5 s,rzh s b⟩).o=some (qv (ns.length=(cz5 s).length)&&azz (sepK s b ns) (cz5 s).length):=by
    show(lzc ⟨ns⟩ ⟨s.Xe,cz5 s,rzh s b⟩).run NN=_;simp only[lzc,qj];by_cases d:ns.length=(cz5 s).length
    ·rw[bz8 qa,qg d,qM];refine(dz8 (λi=>sw (sepK s b ns i) false) ns.length qa (λj m=>?_) ?_).trans ?_
     ·have a:=az5k h.1 (show j<(cz5 s).length from qa);have g:(yz4 ⟨s.Xe,cz5 s,rzh s b⟩ (j:Int)).o=some ⟨cz1 s b (pA s j),cz1 s b (pB s j),lzp s (pA s j),lzp s (pB s j)⟩:=by
       show(yz5 ⟨s.Xe,cz5 s,rzh s b⟩ (j:Int)).run NN=_;simp only[yz5,qj,qF,Rzm h.1 h.2,bzf];rw[az8 ⟨qa,qa⟩,az8 a.1,az8 a.1,az8 a.2,az8 a.2,hzb qa,hzb qa];rfl
      rw[az5 qa,az8 qa,wn qa,qF,<-czn];simp only[g,Lzy,qI];rfl
     ·simp_all
     ·rw[bze,d];cases azz (sepK s b ns) (cz5 s).length<;>rfl
    grind
   grind[uzt]
  grind[uzt]
 simp_all[izj,qj]
def azc9 (s:az7)(b:List az0)(k:Nat):azx:=⟨cz1 s b (pA s k),lzp s (pA s k)⟩
def azca (s:az7)(b:List az0)(k:Nat):azx:=⟨cz1 s b (pB s k),lzp s (pB s k)⟩
theorem Jzt (s:az7)(b:List az0)(a:b.length<4294967296):(zzk s b).o=some (if bzv s=0/\boxV s.Xg b=true then(tab (azc9 s b) (cz5 s).length,tab (azca s b) (cz5 s).length,true)else(nl,nl,false)):=by
 have d:=xz9 s;show(zzl s b).run NN=_;simp only[zzl,qj,czb,zz7 _ b a,qI];by_cases h:bzv s=0
 ·rw[bz8 h,az3];cases e:boxV s.Xg b
  ·simp_all
  ·rw[qc ⟨h,rfl⟩];simp only[qJ,qd,Tzt s b a,az12,qI,Rzm h e];refine(bzm (λj=>(tab (azc9 s b) j,tab (azca s b) j,(j:Int))) (tab (azc9 s b) (cz5 s).length,tab (azca s b) (cz5 s).length) (cz5 s).length rfl (show(cz5 s).length<4294967296 from qa) (λj f=>?_) ?_).trans rfl
   ·have c:=az5k h f;rw[az5 ju,az8 ⟨jt,ju⟩,az8 ⟨jt,ju⟩];simp only[qF,bzf];rw[az8 c.1,az8 c.1,az8 ⟨jv,by simp[azd];omega⟩,az8 c.2,az8 c.2,az8 ⟨jv,by simp[azd];omega⟩,wn qa,hzb qa,hzb qa,ezk,ezk];rfl
   simp_all
 grind[az3]
theorem xzb (s:az7)(b:List az0)(ns:List V3)(a:b.length<4294967296):(izc s b ns).o=some (uzt s b ns):=by
 have e:=xz9 s;show(mze s b ns).run NN=_;simp only[mze,qj,Jzt s b a,qI];by_cases h:bzv s=0/\boxV s.Xg b=true
 ·rw[qc h];simp only[qJ,qd,az3,bzf,uzt,h.2,qg h.1,qM];by_cases f:ns.length=(cz5 s).length
  ·rw[bz8 qa,qg f,qM];refine(dz8 (λi=>sw (sepK s b ns i) false) (cz5 s).length qa (λj d=>?_) ?_).trans ?_
   ·rw[az5 qa,az8 qa,az8 qa,az8 qa,az8 qa,az8 qa,wn qa,qF,<-czn,hzb d,hzb d];simp only[xzc,qI];rfl
   ·simp_all
   ·rw[bze];cases azz (sepK s b ns) (cz5 s).length<;>rfl
  grind
 ·rw[qb h];have:uzt s b ns=false:=by
   grind[uzt]
  rw[this];rfl
def begV (x:az6):Option (Int×Int):=if(0<=x.Xi/\x.Xi<=20)/\0<=x.Xs/\x.Xs<2 ^ x.Xi.toNat then some (x.Xs * 2 ^ (20-x.Xi.toNat),2 ^ (20-x.Xi.toNat))else none
theorem Vzu {x:az6}{f n:Int}(h:begV x=some (f,n)):0<=f/\f<1048576/\0<n/\n<=1048576:=by
 unfold begV at h;split at h
 ·rename_i d;obtain⟨rfl,rfl⟩:=h;have a:=ez1 (20-x.Xi.toNat);have c:=azb8 (show 20-x.Xi.toNat<=20 from qa);refine⟨qK d.2.1 qa,?_,a,c⟩;have b:(x.Xs+1) * 2 ^ (20-x.Xi.toNat)<=2 ^ x.Xi.toNat * 2 ^ (20-x.Xi.toNat):=wh qa qa;rw[<-qD,show x.Xi.toNat+(20-x.Xi.toNat)=20 from qa,Int.add_mul,Int.one_mul]at b;omega
 grind
theorem Jzw (x:az6):(zzp x).o=some (match begV x with|some (f,n)=>(f,n,true)|none=>(0,0,false)):=by
 show(zzq x).run NN=_;simp only[zzq,qj];by_cases d:x.Xi<0
 ·grind[begV,az3]
 ·rw[az9 d];by_cases a:x.Xi>20
  ·grind[begV,az3]
  ·rw[az9 a];by_cases c:x.Xs<0
   ·grind[begV,az3]
   ·rw[az9 c,azck qa qa,az8 qa,az3,qG qa,w2k qa];by_cases e:x.Xs>=2 ^ x.Xi.toNat
    ·grind[begV]
    ·have b:begV x=some (x.Xs * 2 ^ (20-x.Xi.toNat),2 ^ (20-x.Xi.toNat)):=by grind[begV]
     have g:=Vzu b
     grind[w64,azck,az8]
def plc (l:List az6):Nat->Int
 |0=>0
 |j+1=>match begV (l.getD j qu)with
  |some (f,n)=>f+n
  |none=>0
def badT (l:List az6)(j:Nat):Bool:=match begV (l.getD j qu)with
 |some (f,_)=>f !=plc l j
 |none=>true
theorem azlq (l:List az6):∀j,0<=plc l j/\plc l j<=2097152
 |0=>by simp[plc]
 |j+1=>by
  simp only[plc];split
  ·rename_i f n h;have:=Vzu h;omega
  omega
theorem Vz3 {σ τ R:Type}{f:σ->Option (Step3 σ τ R)}(c:Nat->σ)(g:Nat->Option R)(r:R):
 ∀ (n i N:Nat),n<N->(∀j,i<=j->j<i+n->f (c j)=match g j with|some r=>some (.fin r)|none=>some (.next (c (j+1))))->f (c (i+n))=some (.fin r)->
   iter f N (c i)=some (.inr (match scan g n i with|some l=>l|none=>r))
 |0,i,0,h,_,_=>qa
 |0,i,N+1,_,_,h=>by grind[iter,scan]
 |n+1,i,0,h,_,_=>qa
 |n+1,i,N+1,o,d,m=>by
  have e:=d i qa qa;simp only[scan];cases k:g i with
  |some r=>grind[iter]
  |none=>
   rw[k]at e;simp only[iter,e];exact Vz3 c g r n (i+1) N qa (λj a b=>d j qa qa) jv
theorem Vz6 {σ τ R:Type}{f:σ->Option (Step3 σ τ R)}{k:τ->Option R}{x:σ}(a:Nat->σ)(g:Nat->Option R)(r:R)(n:Nat)(e:x=a 0)(b:n<NN)
 (d:∀j,j<n->f (a j)=match g j with|some r=>some (.fin r)|none=>some (.next (a (j+1)))) (i:f (a n)=some (.fin r)):
 andK (iter f NN x) k=some (match scan g n 0 with|some c=>c|none=>r):=by
 rw[e,Vz3 a g r n 0 NN b (λj _ h=>d j qa) ju];rfl
def tze (l:List az6):Int×Bool:=
 if l.length<=4096 then(match scan (λj=>sw (badT l j) ((j:Int),false)) l.length 0 with|some r=>r|none=>((l.length:Int),plc l l.length==1048576))
 else(match scan (λj=>sw (badT l j) ((j:Int),false)) 4096 0 with|some r=>r|none=>(4096,false))
theorem Uzr (l:List az6){j:Nat}(e:j<4096){σ τ:Type}{R:Type}(r:R)(x:Int->σ):
 (qO (zzp (l.getD j qu)).o λy=>andC (bif !y.2.2 then some (.out true)else bif y.1 !=plc l j then some (.out true)else some (.out (qv ((j:Int)>=4096))):Option (Step3 Unit Bool (Step3 σ τ R))) λz=>bif z then some (.fin r)else some (.next (x (qt.wrap (y.1+y.2.1)))))=
  match sw (badT l j) r with|some r=>some (.fin r)|none=>some (.next (x (plc l (j+1)))):=by
 rw[Jzw,qI];unfold badT;cases b:begV (l.getD j qu)with
 |none=>rfl
 |some p=>
  obtain⟨f,n⟩:=p;have d:=Vzu b;simp only[qJ,qd];by_cases h:f=plc l j
  ·rw[bz8 h,az3,qh qa];have a:(f !=plc l j)=false:=by simp_all
   have c:plc l (j+1)=f+n:=by simp only[plc,b]
   rw[a,c,w64 qa qa];rfl
  ·have a:(f !=plc l j)=true:=by simp_all
   rw[cze h,az3,a];rfl
theorem Xzt (l:List az6):(Jzx l).o=some (tze l):=by
 show(zzr l).run NN=_;simp only[zzr,qj,tze];by_cases h:l.length<=4096
 ·refine(gzt (λj=>(plc l j,(j:Int))) (λj=>sw (badT l j) ((j:Int),false)) (plc l l.length) l.length rfl (show l.length<4294967296 from qa) (λj a=>?_) ?_).trans ?_
  ·rw[az5 qa,az8 ⟨jt,qa⟩];rw[wn qa];exact Uzr l qa ((j:Int),false) (λz=>(z,((j+1:Nat):Int)))
  all_goals grind
 ·refine(Vz6 (λj=>(plc l j,(j:Int))) (λj=>sw (badT l j) ((j:Int),false)) (4096,false) 4096 rfl (show 4096<4294967296 from qa) (λj a=>?_) ?_).trans ?_
  ·rw[az5 qa,az8 ⟨jt,qa⟩];rw[wn qa];exact Uzr l qa ((j:Int),false) (λz=>(z,((j+1:Nat):Int)))
  ·rw[az5 qa,az8 ⟨jt,qa⟩,Jzw,qI];cases (match begV (l.getD (wi ((4096:Nat):Int)) qu)with|some (f,n)=>(f,n,true)|none=>(0,0,false)).2.2
   ·rfl
   ·cases ((match begV (l.getD (wi ((4096:Nat):Int)) qu)with|some (f,n)=>(f,n,true)|none=>(0,0,false)).1 !=plc l 4096)<;>rfl
  grind
theorem az1w (l:List az6){j:Nat}(q:j<4096){σ τ R:Type}(r:R)(x:Int->σ):∀y:az6,y=l.getD j qu->
 (andC (bif ((j:Int)==4096)then some (.out true)else bif qv (y.Xi<0)then some (.out true)else some (.out (qv (y.Xi>20))):Option (Step3 Unit Bool (Step3 σ τ R))) λk=>
  bif k then some (.fin r)else andC (bif qv (y.Xs<0)then some (.out true)else grd (0<=y.Xi) (some (.out (qv (y.Xs>=qt.wrap (1 * 2 ^ min y.Xi.toNat 64))))):Option (Step3 Unit Bool (Step3 σ τ R))) λn=>
  bif n then some (.fin r)else grd (0<=y.Xi) (bif qt.wrap (y.Xs * (1048576:Int).fdiv (2 ^ min y.Xi.toNat 64)) !=plc l j then some (.fin r)else some (.next (x (qt.wrap (plc l j+(1048576:Int).fdiv (2 ^ min y.Xi.toNat 64)))))))=
  match sw (badT l j) r with|some r=>some (.fin r)|none=>some (.next (x (plc l (j+1)))):=by
 intro y t;rw[gz2 qa];unfold badT;by_cases f:y.Xi<0
 ·have:begV (l.getD j qu)=none:=by grind[begV]
  rw[az5 f,az3,this];rfl
 ·rw[az9 f,az3];by_cases g:y.Xi>20
  ·have:begV (l.getD j qu)=none:=by grind[begV]
   rw[az5 g,this];rfl
  ·rw[az9 g];by_cases d:y.Xs<0
   ·have:begV (l.getD j qu)=none:=by grind[begV]
    rw[az5 d,az3,this];rfl
   ·rw[az9 d,az8 qa,az3,qG qa,w2k qa];by_cases c:y.Xs>=2 ^ y.Xi.toNat
    ·have:begV (l.getD j qu)=none:=by grind[begV]
     rw[az5 c,this];rfl
    ·have i:begV (l.getD j qu)=some (y.Xs * 2 ^ (20-y.Xi.toNat),2 ^ (20-y.Xi.toNat)):=by grind[begV]
     have s:=Vzu i;have m:(1048576:Int).fdiv (2 ^ y.Xi.toNat)=2 ^ (20-y.Xi.toNat):=by
      have e:(1048576:Int)=2 ^ y.Xi.toNat * 2 ^ (20-y.Xi.toNat):=by
       rw[<-qD,show y.Xi.toNat+(20-y.Xi.toNat)=20 from qa];decide
      grind[Int.mul_ediv_cancel_left]
     have p:=azlq l j;rw[az9 c,az8 qa,m,w64 (x:=y.Xs * _) qa qa,w64 (x:=plc l j+_) qa qa];simp only[i];by_cases h:y.Xs * 2 ^ (20-y.Xi.toNat)=plc l j
     ·have b:(y.Xs * 2 ^ (20-y.Xi.toNat) !=plc l j)=false:=by simp_all
      have o:plc l (j+1)=plc l j+2 ^ (20-y.Xi.toNat):=by grind[plc]
      rw[bz8 h,b,o];rfl
     ·have b:(y.Xs * 2 ^ (20-y.Xi.toNat) !=plc l j)=true:=by simp_all
      rw[cze h,b];rfl
theorem Pzf {R S:Type}{g:Nat->Bool}{r:Nat->R}{f:R->S}:∀ (n i:Nat),scan (λj=>sw (g j) (f (r j))) n i=(scan (λj=>sw (g j) (r j)) n i).map f
 |0,_=>rfl
 |n+1,i=>by
  simp only[scan];cases g i with
  |true=>rfl
  |false=>exact Pzf n (i+1)
def azk0 (l:List az6):Int×Int:=bif (tze l).2 then(0,0)else((tze l).1,2001)
theorem Pzg {g:Nat->Bool}{n:Nat}{r:Int×Bool}(h:scan (λj=>sw (g j) ((j:Int),false)) n 0=some r):r.2=false:=by
 grind[ezb,sw]
theorem Szd (x:bzp):(Ez8 x).o=some (azk0 x.pieces):=by
 show(szc x).run NN=_;generalize c:x.pieces=l;simp only[szc,qj,c,azk0,tze];have b:∀n,scan (λj=>sw (badT l j) ((j:Int),(2001:Int))) n 0=(scan (λj=>sw (badT l j) ((j:Int),false)) n 0).map λr=>(r.1,2001):=λn=>Pzf (r:=λj=>((j:Int),false)) (f:=λr=>(r.1,(2001:Int))) n 0
 by_cases h:l.length<=4096
 ·rw[qc h];refine(gzt (λj=>(plc l j,(j:Int))) (λj=>sw (badT l j) ((j:Int),2001)) (plc l l.length) l.length rfl (show l.length<4294967296 from qa) (λj d=>?_) ?_).trans ?_
  ·rw[az5 qa,az8 ⟨jt,qa⟩];rw[wn qa];exact az1w l qa ((j:Int),2001) (λz=>(z,((j+1:Nat):Int))) _ rfl
  ·simp_all
  ·rw[b];cases a:scan (λj=>sw (badT l j) ((j:Int),false)) l.length 0 with
   |none=>
    grind
   |some r=>simp only[ws,Pzg a,qd]
 ·rw[qb h];refine(Vz6 (λj=>(plc l j,(j:Int))) (λj=>sw (badT l j) ((j:Int),2001)) (4096,2001) 4096 rfl (show 4096<4294967296 from qa) (λj d=>?_) ?_).trans ?_
  ·rw[az5 qa,az8 ⟨jt,qa⟩];rw[wn qa];exact az1w l qa ((j:Int),2001) (λz=>(z,((j+1:Nat):Int))) _ rfl
  ·rw[az5 qa,az8 ⟨jt,qa⟩];rfl
  ·rw[b];cases a:scan (λj=>sw (badT l j) ((j:Int),false)) 4096 0 with
   |none=>rfl
   |some r=>simp only[ws,Pzg a,qd]
theorem Pz7 {l:List az6}(h:(tze l).2=true):l.length<=4096/\∀j,j<l.length->begV (l.getD j qu)≠none:=by
 unfold tze at h;split at h
 ·rename_i e;refine⟨e,λj f c=>?_⟩;split at h
  ·rename_i b;rw[Pzg b]at h;cases h
  ·rename_i b;have:=(dzp _ _).1 b j (Nat.zero_le _) qa;have d:badT l j=true:=by unfold badT;rw[c]
   rw[d]at this;cases this
 ·split at h
  ·rename_i b;rw[Pzg b]at h;cases h
  grind
theorem nzp {r:azj}{c:List Int}(h:azs r c=true):hz2 c=true/\c.length=r.Xc.length/\r.Xc.length<=10/\czv r=0:=by
 simp only[azs,qm,qf]at h;obtain⟨a,d,e⟩:=h;refine⟨noneB_iff.2 λi f=>?_,d,(dzy a).2.1,a⟩;have:=noneB_iff.1 e i f;have b:=dzz a (show i<r.Xc.length from qa);have j:=Fz3 (r.Xc.getD i qu).Xo;have g:=b.lim
 grind[outJ,big1]
theorem azf3 {r:azj}{p q:List Int}(a:azs r p=true)(c:azs r q=true){x:az6}(b:begV x≠none):dzx p q x.Xi x.Xs=(tab (Gze p q x.Xi.toNat x.Xs) p.length,true):=by
 have d:=nzp a
 grind[nzp,begV,dzx,motionV_iff]
theorem Rzf (p q:List Int)(d i:Int)(a:p.length<4294967296):(dzx p q d i).1.length<4294967296:=by
 grind[dzx,bzf,nl]
def notF (s:az7)(p q:List Int)(l:List az6)(j:Nat):Bool:= !uzt s (dzx p q (l.getD j qu).Xi (l.getD j qu).Xs).1 (l.getD j qu).Xm
def gzs (s:az7)(p q:List Int)(l:List az6):Int×Int:=
 if bzv s≠0 then(0,904)else if(azs s.Xg p&&azs s.Xg q)=false then(0,1201)else if(tze l).2=false then((tze l).1,2001)else
 match scan (λj=>sw (notF s p q l j) ((j:Int),(2002:Int))) l.length 0 with|some r=>r|none=>(0,0)
section
variable (s:az7) (p q:List Int) (l:List az6) (hp:p.length<4294967296) (hq:q.length<4294967296)
include hp hq
theorem Lzz:(xzd s p q l).o=some (gzs s p q l):=by
 show(mzi s p q l).run NN=_;simp only[mzi,qj,czb,qI,gzs];by_cases h:bzv s=0
 ·have b:(qz5 s p q).o=some (azs s.Xg p&&azs s.Xg q):=by
   show(lz2 s p q).run NN=_;simp only[lz2,qj,czb,ezz,qI]
   grind
  rw[bz8 h,qb qa,b,qI];cases c:azs s.Xg p&&azs s.Xg q
  ·rfl
  ·simp only[qJ,qd,Xzt,qI,wt,if_false];cases a:(tze l).2
   ·rfl
   ·have d:=Pz7 a;refine(dz8 (λj=>sw (notF s p q l j) ((j:Int),(2002:Int))) l.length qa (λj e=>?_) ?_).trans ?_;all_goals grind[az8,wn,zzd,xzb,Rzf,sw,notF]
 grind
theorem Lze:(xz2 s p q l).o=some (gzs s p q l):=by
 show(mz5 s p q l).run NN=_;have k:(Gzt ⟨s,p,q,l⟩).o=some (0,if bzv s=0 then 0 else 904):=by
  show(wze ⟨s,p,q,l⟩).run NN=_
  grind[wze,qj,ize]
 have f:(Ez7 ⟨s,p,q,l⟩).o=some (0,bif azs s.Xg p&&azs s.Xg q then 0 else 1201):=by
  show(szb ⟨s,p,q,l⟩).run NN=_;simp only[szb,qj,hzk,qI,bzc,az3]
  grind
 simp only[mz5,qj,k,qI,gzs];rw[az8 jr,az8 jr,az8 jr,az8 jr];by_cases h:bzv s=0
 ·rw[qc h,qb qa,bz8 rfl,f,qI];cases b:azs s.Xg p&&azs s.Xg q
  ·rfl
  ·simp only[qe,wt,if_false,Szd,qI,azk0];cases g:(tze l).2
   ·rfl
   ·have i:=Pz7 g;simp only[qm]at b;have d:(uz8 ⟨s,p,q,l⟩).o=some (match scan (λj=>sw (notF s p q l j) ((j:Int),(2002:Int))) l.length 0 with|some r=>r|none=>(0,0)):=by
     show(lz7 ⟨s,p,q,l⟩).run NN=_;simp only[lz7,qj];refine(dz8 (λj=>sw (notF s p q l j) ((j:Int),(2002:Int))) l.length qa (λj e=>?_) ?_).trans ?_
     ·have c:=azf3 b.1 b.2 (i.2 j e);rw[az5 qa,az8 qa,wn qa,qF,<-czn];simp only[Tzc p q _ _ hp hq,qI];have a:(dzx p q (l.getD j qu).Xi (l.getD j qu).Xs).2=true:=by rw[c]
      rw[a];simp only[qJ,qd,Fzd s _ _ (Rzf p q _ _ hp),qI,az3];rfl
     all_goals grind
    simp only[d,qI]
    grind[sw,ezb]
 simp_all
end
theorem Zz2 {s:az7}{p q:List Int}{l:List az6}(h:(gzs s p q l).2=0):bzv s=0/\azs s.Xg p=true/\azs s.Xg q=true/\l.length<=4096:=by
 grind[gzs,Pz7]
def inV (v:V3):Prop:=InR v.1/\InR v.2.1/\InR v.2.2
theorem az7e (a:az0):(Fz4 a).o=some (midV a):=by
 show(Mz5 a).run NN=_;simp only[Mz5,qj,fz1,qI,midV];cases h:vV a
 ·rfl
 ·simp only[vV_iff]at h;rw[w64 qa qa,dzh ⟨qa,qa⟩ jr];rfl
def cenF (l:List IV3)(i:Nat):V3:=(midV (l.getD i qu).1,midV (l.getD i qu).2.1,midV (l.getD i qu).2.2)
def cenV (l:List IV3):List V3:=if dza l then tab (cenF l) l.length else nl
theorem kzu (l:List IV3):(dzo l).o=some (cenV l):=by
 show(rzi l).run NN=_;simp only[rzi,qj,hz5,qI,cenV];cases h:dza l
 ·rfl
 ·have a:=iz9 h;refine(bzm (λj=>(tab (cenF l) j,(j:Int))) (tab (cenF l) l.length) l.length rfl (show l.length<4294967296 from qa) (λj b=>?_) ?_).trans rfl
  ·rw[az5 qa,az8 ⟨jt,qa⟩];simp only[az7e,qI];rw[az8 ⟨jt,qa⟩,az8 ⟨jt,qa⟩,az8 ⟨by simp[bzf];omega,by grind[bzf,azd]⟩,wn qa,ezk];rfl
  simp_all
theorem az4k {l:List IV3}(h:dza l=true):(cenV l).length=l.length:=by grind[cenV,bzf]
theorem Szv {a:Int}(b:InR a): -16384<=a.tdiv 562949953421312/\a.tdiv 562949953421312<=16384:=by
 obtain⟨d,c⟩:=b
 grind
theorem Gzf {v:V3}(h:inV v):∃n c,(izu v).o=some (n,c)/\inV n:=by
 have j:(izu v).o=(vz8 v).run NN:=rfl;rw[j];simp only[vz8,qj];cases (v.1==0)&&((v.2.1==0)&&((v.2.2==0)&&true))
 ·have b:∀ (m k N:Nat),k+m=49->m<N->∃n c,andK (iter (λ(a:Int)=>(grd (a≠0) (grd (a≠0) (grd (a≠0) ((ezn ((qt.wrap (v.1.tdiv a)),(qt.wrap (v.2.1.tdiv a)),(qt.wrap (v.2.2.tdiv a))) 16384).o.bind λd=>
   bif d then some (.fin (((qt.wrap (v.1.tdiv a)),(qt.wrap (v.2.1.tdiv a)),(qt.wrap (v.2.2.tdiv a))),true))else some (.next (qt.wrap (a * 2)))))):Option (Step3 Int U0 (V3×Bool)))) N (2 ^ k)) (λ_=>none)=some (n,c)/\inV n:=by
   intro m;induction m with
   |zero=>
    intro k N p r;obtain⟨M,rfl⟩:∃M,N=M+1:=⟨N-1,qa⟩;obtain rfl:k=49:=qa
    have e:(2:Int) ^ 49=562949953421312:=jr
    have l:=Szv h.1;have g:=Szv h.2.1;have q:=Szv h.2.2;simp only[iter,e]
    rw[az8 jr,az8 jr,az8 jr,w64 (x:=v.1.tdiv _) qa qa,w64 (x:=v.2.1.tdiv _) qa qa,w64 (x:=v.2.2.tdiv _) qa qa,fzb _ jr jr,qI,
     show jzj (v.1.tdiv 562949953421312,v.2.1.tdiv 562949953421312,v.2.2.tdiv 562949953421312) 16384=true from nearV_iff.2 ⟨l,g,q⟩]
    exact⟨_,_,rfl,⟨qa,qa⟩,⟨jv,jv⟩,⟨jv,jv⟩⟩
   |succ m i=>
    intro k N p r;obtain⟨M,rfl⟩:∃M,N=M+1:=⟨N-1,qa⟩;have s:=ez1 k;have f:(2:Int) ^ k<=562949953421312:=by
     have:(2:Int) ^ k<=2 ^ 49:=by exact_mod_cast qU (by decide:0<2) (show k<=49 from qa)
     omega
    simp only[iter];rw[az8 qa,az8 qa,az8 qa,fzb _ jr jr,qI];cases jzj (qt.wrap (v.1.tdiv (2 ^ k)),qt.wrap (v.2.1.tdiv (2 ^ k)),qt.wrap (v.2.2.tdiv (2 ^ k))) 16384
    ·rw[w64 (x:=2 ^ k * 2) qa qa,<-wj];exact i (k+1) M qa qa
    ·exact⟨_,_,rfl,InR.wr _,InR.wr _,InR.wr _⟩
  exact b 49 0 NN rfl jr
 simp_all
def farN (l:List V3)(i:Nat):Bool:= !jzj (l.getD i qu) 268435456
def fewV (l:List V3):Bool:=qv (1<=l.length/\l.length<=8)&&azz (farN l) l.length
theorem az98 {l:List V3}(h:fewV l=true):1<=l.length/\l.length<=8:=by
 grind[fewV]
theorem az3m (l:List V3):(Hzv l).o=some (fewV l):=by
 show(Hzw l).run NN=_;simp only[Hzw,qj,bzc,az3,fzb _ (show(0:Int)<=268435456 by decide) jr,qI];refine(dz8 (λi=>sw (farN l i) false) (min l.length 9) qa (λj a=>?_) ?_).trans ?_
 ·have e:(bif qv ((j:Int)<(l.length:Int))then qv ((j:Int)<=8)else false)=true:=by grind
  rw[e,qe,az8 qa,wn qa,qF,<-czn];rfl
 ·grind
 ·rw[bze];unfold fewV;by_cases h:1<=l.length/\l.length<=8
  ·rw[qg h,qG qa,qM];cases azz (farN l) l.length
   ·rfl
   ·show(bif qv ((l.length:Int)>=1)then _ else _)=_
    grind
  ·rw[qh h,wo];cases azz (farN l) (min l.length 9)
   ·rfl
   ·show(bif qv ((l.length:Int)>=1)then _ else _)=_
    grind
theorem pzz {σ τ R β:Type}{f:σ->Option (Step3 σ τ R)}{k:τ->Option R}{g:β->R}{P:β->Prop}{x:σ}(n:Nat)(l:n<4294967296)(I:Nat->σ->Prop)(Q:τ->Prop)(d:I 0 x)
 (t:∀j y,j<n->I j y->∃c,f y=some (.next c)/\I (j+1) c) (u:∀y,I n y->∃z,f y=some (.out z)/\Q z) (p:∀z,Q z->∃b,k z=some (g b)/\P b):∃b,andK (iter f NN x) k=some (g b)/\P b:=by
 have a:∀ (m j N:Nat) (y:σ),j+m=n->m<N->I j y->∃z,iter f N y=some (.inl z)/\Q z:=by
  intro m;induction m with
  |zero=>
   intro j N y i s r;obtain⟨M,rfl⟩:∃M,N=M+1:=⟨N-1,qa⟩
   grind[iter]
  |succ m v=>
   intro j N y i s r;obtain⟨M,rfl⟩:∃M,N=M+1:=⟨N-1,qa⟩
   grind[iter]
 obtain⟨z,q,h⟩:=a n 0 NN x qa l d;obtain⟨b,e,o⟩:=p z h;exact⟨b,by rw[q];exact e,o⟩
theorem Rzt (l:List V3)(w:List Int)(h:w.length=l.length)(a:l.length<4294967296):∃v,(zzi l w).o=some v/\True:=by
 have d:(zzi l w).o=(Hzu l w).run NN:=rfl;rw[d];simp only[Hzu,qj];refine pzz (g:=λb=>b) l.length a (λj (y:Int×Int×Int×Int)=>y.2.2.2=(j:Int)) (λ(_:V3)=>True) rfl (λj y e c=>?_) (λy c=>?_) (λz _=>⟨_,rfl,trivial⟩)
 ·grind[az8,wn]
 simp_all
theorem zzj (a b:V3):∃v,(qz4 a b).o=some v/\inV v:=⟨_,rfl,InR.wr _,InR.wr _,InR.wr _⟩
theorem mzh (a b:V3):∃v,(jzk a b).o=some v:=⟨_,rfl⟩
theorem InR.max {a b:Int}(c:InR a)(d:InR b):InR (max a b):=by
 grind
theorem az0v {v:V3}(h:inV v)(r:Int):∃b,(Dzb v r).o=some b:=by
 have a:(Dzb v r).o=(Dzc v r).run NN:=rfl;rw[a];simp only[Dzc,qj,czf (h.1.max (InR.wr _)) (show(0:Int)<65536 by decide),czf (h.2.1.max (InR.wr _)) (show(0:Int)<65536 by decide),czf (h.2.2.max (InR.wr _)) (show(0:Int)<65536 by decide),qI]
 simp_all
theorem Dz9 (n:V3)(l:List V3)(a:Int)(s:1<=l.length)(u:l.length<4294967296):∃i:Int,(kzz n l a).o=some i/\0<=i/\i<(l.length:Int):=by
 have d:(kzz n l a).o=(rzn n l a).run NN:=rfl;rw[d];simp only[rzn,qj];refine pzz (g:=λb=>b) (l.length-1) qa (λj (y:Int×Int)=>y.2=((j+1:Nat):Int)/\0<=y.1/\y.1<(l.length:Int)) (λ(z:Int)=>0<=z/\z<(l.length:Int)) ⟨rfl,jt,qa⟩ (λj y t c=>?_) (λy c=>?_) (λz k=>⟨_,rfl,k⟩)
 ·obtain⟨r,m,e⟩:=c;obtain⟨q,h⟩:=mzh n (l.getD y.2.toNat qu);obtain⟨p,f⟩:=mzh n (l.getD y.1.toNat qu);rw[h,f,qI,qI,r,az5 qa,az8 ⟨qa,qa⟩,az8 ⟨qa,qa⟩,wn qa];cases qv (qt.wrap (a * q)<qt.wrap (a * p))
  ·exact⟨_,rfl,rfl,m,e⟩
  ·exact⟨_,rfl,rfl,qa,qa⟩
 simp_all
theorem Jzs (w:List Int)(t i:Int)(a:w.length<4294967296)(f:0<=i)(e:i<(w.length:Int)):∃u,(qz3 w t i).o=some u/\u.length=w.length:=by
 have d:(qz3 w t i).o=(zzh w t i).run NN:=rfl;rw[d];simp only[zzh,qj];rw[az8 ⟨qa,by rw[azd];omega⟩];refine pzz (g:=λb=>b) w.length a (λj (y:List Int×Int×Int)=>y.2.2=(j:Int)/\y.1.length=w.length) (λ(z:List Int×Int)=>z.1.length=w.length) ⟨rfl,rfl⟩ (λj y k c=>?_) (λy c=>?_) (λz h=>?_)
 ·grind[az8,wn]
 ·simp_all
 grind[az8]
def SO (x:ezr):Prop:=inV x.XO/\x.Left.length<=8/\x.XK.length<=8
theorem az42 {f:Int×Int×Int×List Int×List Int×Int->Option (Step3 (Int×Int×Int×List Int×List Int×Int) U0 ezr)}{k:U0->Option ezr}{y:Int×Int×Int×List Int×List Int×Int}(I:Int×Int×Int×List Int×List Int×Int->Prop)
 (l:∀y,I y->(∃a,f y=some (.next a)/\I a/\a.2.2.2.2.2=y.2.2.2.2.2+1)\/∃r,f y=some (.fin r)/\SO r) (j:∀y,I y->y.2.2.2.2.2<=65) (m:Nat) (e:I y) (d:y.2.2.2.2.2+m>=66) (c:m<NN):∃r,andK (iter f NN y) k=some r/\SO r:=by
 have b:∀ (m N:Nat) y,I y->y.2.2.2.2.2+m>=66->m<N->∃r,iter f N y=some (.inr r)/\SO r:=by
  intro m;induction m with
  |zero=>grind
  |succ m i=>
   intro N y e d c;obtain⟨M,rfl⟩:∃M,N=M+1:=⟨N-1,qa⟩
   grind[iter]
 obtain⟨r,h,g⟩:=b m NN y e d c;exact⟨r,by rw[h];rfl,g⟩
theorem Gzj (a b:List V3)(d c:Int):∃x,(fzp a b d c).o=some x/\SO x:=by
 have f:inV ((0,0,0):V3):=⟨⟨jr,jr⟩,⟨jr,jr⟩,⟨jr,jr⟩⟩;have S:(fzp a b d c).o=(vzg a b d c).run NN:=rfl;rw[S];simp only[vzg,qj,az3m,qI,bzc,az3];cases H:fewV a
 ·exact⟨_,rfl,f,by simp[nl],by simp[nl]⟩
 ·cases J:fewV b
  ·exact⟨_,rfl,f,by simp[nl],by simp[nl]⟩
  ·have I:=az98 H;have K:=az98 J;simp only[qJ,qd,ezt];cases hc:qv (d<0)||(qv (d>2097152)||(qv (c<0)||qv (c>64)))
   ·simp only[qp,qi]at hc;simp only[qd,qF,wd];rw[az8 ⟨qa,qa,qa,qa⟩,az8 ⟨qa,qa,qa,qa⟩,az8 ⟨qa,qa⟩,az8 ⟨qa,qa⟩,az8 ⟨qa,qa⟩,az8 ⟨qa,qa⟩];refine az42 (λy=>inV (y.1,y.2.1,y.2.2.1)/\y.2.2.2.1.length=a.length/\y.2.2.2.2.1.length=b.length/\0<=y.2.2.2.2.2/\y.2.2.2.2.2<=c) (λy C=>?_) (λy C=>qa) 66 ⟨f,jt,jt,jt,ju⟩ jt jr;obtain⟨V,R,Q,i4,i5⟩:=C;obtain⟨s1,k,-⟩:=Rzt a y.2.2.2.1 R qa;obtain⟨L,A,-⟩:=Rzt b y.2.2.2.2.1 Q qa;obtain⟨w,O,F⟩:=zzj s1 L;obtain⟨X,en⟩:=az0v F d;rw[k,qI,A,qI,O,qI,en,qI];cases X
    ·obtain⟨n,ok,eN,e⟩:=Gzf (v:=(qt.wrap (w.1.tdiv 65536),qt.wrap (w.2.1.tdiv 65536),qt.wrap (w.2.2.tdiv 65536))) ⟨InR.wr _,InR.wr _,InR.wr _⟩;rw[eN,qI];cases ok
     ·right;exact⟨_,rfl,e,jy,jy⟩
     ·obtain⟨i,M,g,E⟩:=Dz9 n a 1 I.1 qa;obtain⟨j,Z,m,D⟩:=Dz9 n b (-1) K.1 qa;obtain⟨U,h⟩:=mzh n (a.getD i.toNat qu);obtain⟨d2,s⟩:=mzh n (b.getD j.toNat qu);obtain⟨G,W,hm⟩:=zzj (a.getD i.toNat qu) (b.getD j.toNat qu);obtain⟨z,eE,he⟩:=zzj (qt.wrap (w.1.tdiv 65536),qt.wrap (w.2.1.tdiv 65536),qt.wrap (w.2.2.tdiv 65536)) G;obtain⟨u,eu⟩:=mzh (qt.wrap (w.1.tdiv 65536),qt.wrap (w.2.1.tdiv 65536),qt.wrap (w.2.2.tdiv 65536)) z;obtain⟨v,P⟩:=mzh z z;obtain⟨p,B⟩:∃p,(tzz n).o=some p:=⟨_,Nzh n⟩;rw[M,qI,Z,qI,az8 ⟨g,E⟩,h,qI,az8 ⟨m,D⟩,s,qI,B,qI];cases qv (qt.wrap (U-d2)>qt.wrap (p * d))
      ·rw[az8 ⟨g,E⟩,az8 ⟨m,D⟩,W,qI,eE,qI,eu,qI,P,qI];cases hs:qv (y.2.2.2.2.2>=c)||qv (u<=0)
       ·simp only[qp,qi]at hs;have l:max 1 (qt.wrap (v.tdiv 256))≠0:=qa
        rw[az8 l];generalize min 256 (qt.wrap (u.tdiv (max 1 (qt.wrap (v.tdiv 256)))))=t;cases t==0
        ·obtain⟨m1,q,Y⟩:=Jzs y.2.2.2.1 t i qa g qa;obtain⟨m2,r,N⟩:=Jzs y.2.2.2.2.1 t j qa m qa;left;rw[q,qI,r,qI,w64 (x:=y.2.2.2.2.2+1) qa qa];exact⟨_,rfl,⟨e,jy,jy,jy,jy⟩,rfl⟩
        ·right;exact⟨_,rfl,e,jy,jy⟩
       ·right;exact⟨_,rfl,e,jy,jy⟩
      ·right;exact⟨_,rfl,e,jy,jy⟩
    ·right;exact⟨_,rfl,V,jy,jy⟩
   ·exact⟨_,rfl,f,by simp[nl],by simp[nl]⟩
def firB (l:List V3)(a:List IV3)(ra:Int)(b:List IV3)(rb:Int)(i:Nat):Bool:=sepV (l.getD i qu) a ra b rb
theorem Xzp (l:List V3)(a:List IV3)(ra:Int)(b:List IV3)(rb:Int)(hl:l.length<4294967296):(Jzr l a ra b rb).o=some ((scan (λi=>sw (firB l a ra b rb i) ((i:Int),true)) l.length 0).getD (0,false)):=by
 show(zzg l a ra b rb).run NN=_;simp only[zzg,qj,xzc,qI];refine(dz8 (λi=>sw (firB l a ra b rb i) ((i:Int),true)) l.length hl (λj hj=>?_) ?_).trans ?_
 ·rw[az5 qa,az8 qa,wn qa,qF,<-czn];rfl
 ·rw[az9 qa]
 ·cases scan (λi=>sw (firB l a ra b rb i) ((i:Int),true)) l.length 0<;>rfl
theorem az0x (a:Int):(hzt a).o=some (max a (qt.wrap (0-a))):=rfl
theorem kzq {σ τ R:Type}{f:σ->Option (Step3 σ τ R)}{k:τ->Option R}{P:R->Prop}{x:σ}(I:Nat->σ->Prop)(Q:τ->Prop)(m:Nat)(h0:I m x)(hN:m<4294967296)
 (hr:∀m x,I m x->(∃x' m',f x=some (.next x')/\m'<m/\I m' x')\/(∃y,f x=some (.out y)/\Q y)\/∃r,f x=some (.fin r)/\P r) (hk:∀y,Q y->∃r,k y=some r/\P r):∃r,andK (iter f NN x) k=some r/\P r:=by
 have go:∀ (N m:Nat) (x:σ),I m x->m<N->(∃y,iter f N x=some (.inl y)/\Q y)\/∃r,iter f N x=some (.inr r)/\P r:=by
  intro N;induction N with
  |zero=>intro m x _ h;omega
  |succ N ih=>
   intro m x hi h;rcases hr m x hi with⟨x',m',h1,h2,h3⟩|⟨y,h1,h2⟩|⟨r,h1,h2⟩
   ·simp only[iter,h1];exact ih m' x' h3 qa
   ·exact .inl ⟨y,by simp[iter,h1],h2⟩
   ·exact .inr ⟨r,by simp[iter,h1],h2⟩
 rcases go NN m x h0 hN with⟨y,e1,e2⟩|⟨r,e1,e2⟩
 ·rw[gzm e1];exact hk y e2
 ·rw[yz0 e1];exact⟨r,rfl,e2⟩
theorem az00 {x k:Int}(c:0<k)(a:k<=4611686018427387904):(tzq x k).o=some (x % k):=by
 show(Czu x k).run NN=_;have b:=qw x k
 grind[wu,wv,Czu,qj,az8,az3,w64,Ezw]
section
variable {l:List Int} (hl:l.length<4294967296) {n:Int} (h0:0<=n) (h1:n<=(l.length:Int))
include hl h0 h1
theorem bzt {k:Int}(c:0<k)(a:k<=4611686018427387904):∃r b,(bzg l n k).o=some (r,l,b)/\0<=r/\r<k/\0<=b/\b<=(l.length:Int):=by
 have d:(bzg l n k).o=(xzz l n k).run NN:=rfl;rw[d];simp only[xzz,qj];by_cases h:n>=(l.length:Int)
 ·grind
 ·rw[az9 h,w64 (x:=n+1) qa qa,w64 qa qa,az8 ⟨qa,qa⟩,az00 c a,qI];exact⟨_,_,rfl,wu _ qa,wv _ c,qa,qa⟩
theorem Pzk {k:Int}(j:0<=k)(c:k<=1000000):∃r a,(qzt l n k).o=some (r,l,a)/\ -k<=r/\r<=k/\0<=a/\a<=(l.length:Int):=by
 have b:(qzt l n k).o=(qzu l n k).run NN:=rfl;rw[b];simp only[qzu,qj];obtain⟨r,a,d,m,g,i,f⟩:=bzt hl h0 h1 (k:=2 * k+1) qa qa
 grind[w64]
def JB (j:azu):Prop:= -1048576<=j.Lo/\j.Lo<=j.Hi/\j.Hi<=1048576
end
def PB (n:Nat)(l:List az6):Prop:=l.length<=n/\∀x∈l,x.Xm.length<=1048576
def tW (w:List Int):Nat->Int
 |0=>0
 |j+1=>qt.wrap (tW w j+w.getD j qu)
def cW (w:List Int)(g:Nat->Int):Nat->Int
 |0=>0
 |j+1=>qt.wrap (cW w g j+qt.wrap (w.getD j qu * g j))
def cV (l:List IV3)(w:List Int)(j:Nat):IV3:=
 (⟨cW w (λi=>(l.getD i qu).1.Lo) j,cW w (λi=>(l.getD i qu).1.Hi) j⟩,⟨cW w (λi=>(l.getD i qu).2.1.Lo) j,cW w (λi=>(l.getD i qu).2.1.Hi) j⟩,⟨cW w (λi=>(l.getD i qu).2.2.Lo) j,cW w (λi=>(l.getD i qu).2.2.Hi) j⟩)
def badW (w:List Int)(j:Nat):Bool:=qv (w.getD j qu<0)||qv (w.getD j qu>65536)
def zc:IV3×Int×Bool:=((⟨0,0⟩,⟨0,0⟩,⟨0,0⟩),0,false)
def okC (l:List IV3)(w:List Int):Prop:=dza l=true/\w.length=l.length/\azz (badW w) w.length=true/\1<=tW w w.length/\tW w w.length<=65536
instance (l:List IV3)(w:List Int):Decidable (okC l w):=by unfold okC;infer_instance
def Qz1 (l:List IV3)(w:List Int):IV3×Int×Bool:=if okC l w then(cV l w w.length,tW w w.length,true)else zc
theorem badW_iff {w:List Int}{n:Nat}:azz (badW w) n=true↔∀j,j<n->0<=w.getD j qu/\w.getD j qu<=65536:=by
 grind[noneB_iff,badW]
theorem azjw {w:List Int}{n:Nat}(h:∀j,j<n->0<=w.getD j qu/\w.getD j qu<=65536)(a:n<=8):∀j,j<=n->0<=tW w j/\tW w j<=65536 * (j:Int)/\∀i,i<=j->tW w i<=tW w j
 |0,_=>⟨by simp[tW],by simp[tW],λi e=>ju⟩
 |j+1,f=>by
  obtain⟨d,c,b⟩:=azjw h a j qa
  grind[tW,w64]
theorem azaq {l:List IV3}{w:List Int}(a:dza l=false):¬okC l w:=λh=>by obtain⟨b,_⟩:=h;simp_all
def badR (w:List Int)(j:Nat):Bool:=qv (w.getD j qu<0)||qv (w.getD j qu>qt.wrap (65536-tW w j))
theorem azcz {w:List Int}{n:Nat}(a:n<=8):azz (badR w) n=true↔azz (badW w) n=true/\tW w n<=65536:=by
 rw[badW_iff];constructor
 ·intro h;rw[noneB_iff]at h;have b:∀j,j<=n->0<=tW w j/\tW w j<=65536:=by
   intro j;induction j<;>grind[tW,badR,w64]
  grind[badR,w64]
 ·rintro⟨h,c⟩;rw[noneB_iff];intro j f;have d:=azjw h a n (qk _);have e:=azjw h a j qa
  grind[tW,w64,badR]
theorem Rzr (l:List IV3)(w:List Int):(rzj l w).o=some (Qz1 l w):=by
 show(rzk l w).run NN=_;simp only[rzk,qj,hz5,qI,bzc,az3,Qz1];cases b:dza l
 ·rw[qb (azaq b)];rfl
 ·have e:=iz9 b;simp only[qJ,qd];by_cases k:w.length=l.length
  ·rw[bz8 qa];refine(gzt (λj=>(tW w j,(j:Int))) (λj=>sw (badR w j) zc) (tW w w.length) w.length rfl (show w.length<4294967296 from qa) (λj i=>?_) ?_).trans ?_
   ·rw[az5 qa,az8 ⟨qa,qa⟩,az8 ⟨qa,qa⟩,az8 ⟨qa,qa⟩,bzc,az3,qF,ezt,show(qv (w.getD j qu<0)||qv (w.getD j qu>qt.wrap (65536-tW w j)))=badR w j from rfl,wn qa];cases badR w j<;>rfl
   ·simp_all
   ·rw[bze];have a:=azcz (w:=w) (n:=w.length) qa;cases g:azz (badR w) w.length
    ·rw[qb (λh=>by obtain⟨_,_,p,_,r⟩:=h;simp_all)];rfl
    ·obtain⟨c,f⟩:=a.1 g;by_cases d:tW w w.length<1
     ·rw[qb (λh=>by obtain⟨_,_,_,m,_⟩:=h;omega),az5 d];rfl
     ·rw[qc (show okC l w from⟨b,k,c,qa,qa⟩),az9 d];refine(bzm (λj=>((cV l w j).1.Lo,(cV l w j).1.Hi,(cV l w j).2.1.Lo,(cV l w j).2.1.Hi,(cV l w j).2.2.Lo,(cV l w j).2.2.Hi,(j:Int))) ((cV l w w.length).1.Lo,(cV l w w.length).1.Hi,(cV l w w.length).2.1.Lo,(cV l w w.length).2.1.Hi,(cV l w w.length).2.2.Lo,(cV l w w.length).2.2.Hi) w.length rfl (show w.length<4294967296 from qa) (λj i=>?_) ?_).trans rfl
      ·dsimp only;rw[az5 qa];simp only[az8 (show 0<=(j:Int)/\(j:Int)<(w.length:Int) from qa),az8 (show 0<=(j:Int)/\(j:Int)<(l.length:Int) from qa),qF];rw[wn qa];rfl
      simp_all
  ·rw[cze qa,qb (λh=>by obtain⟨_,q,_⟩:=h;omega)];rfl
theorem azms {a b:Int}(c:0<=a/\a<=65536)(d: -268435456<=b/\b<=268435456): -17592186044416<=a * b/\a * b<=17592186044416:=by
 have h:(a * b).natAbs<=65536 * 268435456:=by rw[qH];exact qz qa qa
 omega
theorem azkk {w:List Int}{g:Nat->Int}{n:Nat}(h:∀j,j<n->0<=w.getD j qu/\w.getD j qu<=65536)(a:∀j,j<n-> -268435456<=g j/\g j<=268435456)(b:n<=8):∀j,j<=n-> -17592186044416 * (j:Int)<=cW w g j/\cW w g j<=17592186044416 * (j:Int)
 |0,_=>by simp[cW]
 |j+1,d=>by
  obtain⟨e,c⟩:=azkk h a b j qa;have f:=azms (h j qa) (a j qa)
  grind[cW,w64]
def sm (x:Int):Prop:= -140737488355328<=x/\x<=140737488355328
def smV (v:IV3):Prop:=(sm v.1.Lo/\sm v.1.Hi)/\(sm v.2.1.Lo/\sm v.2.1.Hi)/\sm v.2.2.Lo/\sm v.2.2.Hi
theorem azd7 {l:List IV3}{w:List Int}(h:(Qz1 l w).2.2=true):1<=(Qz1 l w).2.1/\(Qz1 l w).2.1<=65536/\smV (Qz1 l w).1:=by
 unfold Qz1 at h⊢;by_cases c:okC l w
 ·rw[qc c];obtain⟨e,r,o,n,f⟩:=c;have q:=iz9 e;have p:=badW_iff.1 o;have k:∀j,j<w.length->iza (l.getD j qu)=true:=λj d=>xza e qa
  have a:∀g:IV3->Int,(∀v:IV3,iza v=true-> -268435456<=g v/\g v<=268435456)->sm (cW w (λi=>g (l.getD i qu)) w.length):=λg m=>by
   have:=azkk p (g:=λi=>g (l.getD i qu)) (λj d=>m _ (k j d)) qa w.length (qk _);unfold sm;omega
  have s:∀v:IV3,iza v=true->(-268435456<=v.1.Lo/\v.1.Lo<=v.1.Hi/\v.1.Hi<=268435456)/\(-268435456<=v.2.1.Lo/\v.2.1.Lo<=v.2.1.Hi/\v.2.1.Hi<=268435456)/\(-268435456<=v.2.2.Lo/\v.2.2.Lo<=v.2.2.Hi/\v.2.2.Hi<=268435456):=λv b=>by
   grind[iza,azbt]
  exact⟨n,f,⟨a (λv=>v.1.Lo) (λv b=>jv),a (λv=>v.1.Hi) (λv b=>jv)⟩,⟨a (λv=>v.2.1.Lo) (λv b=>jv),a (λv=>v.2.1.Hi) (λv b=>jv)⟩,a (λv=>v.2.2.Lo) (λv b=>jv),a (λv=>v.2.2.Hi) (λv b=>jv)⟩
 ·rw[qb c]at h;cases h
theorem Ozr (u v:List Int)(a:List IV3)(d:Int)(b:List IV3)(c:Int):∃y:Bool,(gzw u v a d b c).o=some y:=by
 have r:∃y:Int×Bool,(vzd u v a d b c).o=some y:=by
  have f:(vzd u v a d b c).o=(vze u v a d b c).run NN:=rfl;rw[f];have g:(Qz1 a u).2.2=true->1<=(Qz1 a u).2.1:=λh=>(azd7 h).1
  generalize n:Qz1 a u=x at g;simp only[vze,qj,Rzr,n,vzi,qI,bzc,az3];generalize Qz1 b v=y;cases e:x.2.2
  ·simp_all
  ·have j:=g e;cases (bif !true then true else bif !y.2.2 then true else bif x.2.1 !=y.2.1 then true else bif !radV d then true else !radV c)
   ·have l:∀p q:Int,(bz1 (max (max (qt.wrap p) (qt.wrap (0-qt.wrap p))) (max (qt.wrap q) (qt.wrap (0-qt.wrap q)))) x.2.1).o=some (cdiv (max (max (qt.wrap p) (qt.wrap (0-qt.wrap p))) (max (qt.wrap q) (qt.wrap (0-qt.wrap q)))) x.2.1):=
     λp q=>czf (((InR.wr _).max (InR.wr _)).max ((InR.wr _).max (InR.wr _))) qa
    simp only[qd,az0x,qI,l];generalize cdiv _ _=i;cases qv (i>qt.wrap (d+c))
    ·generalize cdiv _ _=m;cases qv (m>qt.wrap (d+c))
     ·generalize cdiv _ _=k;cases qv (k>qt.wrap (d+c))<;>exact⟨_,rfl⟩
     simp_all
    simp_all
   simp_all
 have f:(gzw u v a d b c).o=(ozt u v a d b c).run NN:=rfl
 grind[ozt,qj]
def ovV (u v:List Int)(a:List IV3)(c:Int)(b:List IV3)(d:Int):Bool:=(gzw u v a c b d).o.getD false
theorem Ozq (u v:List Int)(a:List IV3)(c:Int)(b:List IV3)(d:Int):(gzw u v a c b d).o=some (ovV u v a c b d):=by
 obtain⟨y,e⟩:=Ozr u v a c b d;rw[ovV,e];rfl
def az8m (s:az7)(b:List az0)(w:bzd):Bool:=
 if(bzv s=0/\boxV s.Xg b=true)/\0<=w.XQ/\w.XQ<((cz5 s).length:Int)then
  ovV w.Left w.XK (cz1 s b (pA s w.XQ.toNat)) (lzp s (pA s w.XQ.toNat)) (cz1 s b (pB s w.XQ.toNat)) (lzp s (pB s w.XQ.toNat))else false
section
variable (s:az7) (p q:List Int) (hp:p.length<4294967296) (hq:q.length<4294967296)
include hp hq
end
open Go.Proofs
open Go.Proofs
open Go.Proofs
def az73 (a b:List IV3):V3×Bool:=(uz2 a b).o.getD qu
def Yzl (a b:List V3)(m:Int):ezr:=(fzp a b m 64).o.getD qu
theorem azcc (a b:List V3)(m:Int):(Yzl a b m).Left.length<=8/\(Yzl a b m).XK.length<=8:=by
 obtain⟨r,h,h1⟩:=Gzj a b m 64;unfold Yzl;rw[h];exact h1.2
def axesL:List V3:=[(1,0,0),(-1,0,0),(0,1,0),(0,-1,0),(0,0,1),(0,0,-1)]
def az5d (a:List IV3)(c:Int)(b:List IV3)(d:Int):ezr:=Yzl (cenV a) (cenV b) (qt.wrap (c+d))
def azep (a:List IV3)(c:Int)(b:List IV3)(d:Int):List V3:=bif dz5 (az5d a c b d).XO then [(az5d a c b d).XO]else []
def azj8 (a:List IV3)(c:Int)(b:List IV3)(d:Int):List V3:=(bif (az73 a b).2 then [(az73 a b).1]else [])++(axesL++azep a c b d)
def az6h (a:List IV3)(c:Int)(b:List IV3)(d:Int)(e:List V3):List V3:=e.filter dz5++azj8 a c b d
def okF (a:List IV3)(c:Int)(b:List IV3)(d:Int):Bool:=dza a&&(dza b&&(radV c&&radV d))
def ofF:Option V3->V3×Bool
 |some n=>(n,true)
 |none=>((0,0,0),false)
def az30 (a:List IV3)(c:Int)(b:List IV3)(d:Int)(e:List V3):V3×Bool:=
 bif okF a c b d then ofF ((az6h a c b d e).find? λn=>sepV n a c b d)else((0,0,0),false)
def PR (F:Option V3)(d:Bool)(x:V3):Prop:=match F with
 |some n=>d=true/\x=n
 |none=>d=false
theorem az9b (sp:V3->Bool)(x:V3)(l:List V3):(x::l).find? sp=bif sp x then some x else l.find? sp:=by
 rfl
theorem azdb {l:List V3}{j:Nat}(h:j<l.length):l.drop j=l.getD j qu::l.drop (j+1):=by
 simp_all
open Go.Proofs
def az08:bzd:=⟨0,nl,nl⟩
def fndK (s:az7)(b:List az0)(a:List V3)(k:Nat):V3×Bool:=az30 (cz1 s b (pA s k)) (lzp s (pA s k)) (cz1 s b (pB s k)) (lzp s (pB s k)) ((a.drop k).take 1)
def nrK (s:az7)(b:List az0)(k:Nat):ezr:=az5d (cz1 s b (pA s k)) (lzp s (pA s k)) (cz1 s b (pB s k)) (lzp s (pB s k))
def ovK (s:az7)(b:List az0)(k:Nat):Bool:=ovV (nrK s b k).Left (nrK s b k).XK (cz1 s b (pA s k)) (lzp s (pA s k)) (cz1 s b (pB s k)) (lzp s (pB s k))
def colK (s:az7)(b:List az0)(a:List V3)(k:Nat):Option ezs:=sw (!(fndK s b a k).2&&ovK s b k) ⟨2,nl,⟨(k:Int),(nrK s b k).Left,(nrK s b k).XK⟩⟩
def misK (s:az7)(b:List az0)(a:List V3)(k:Nat):Bool:= !(fndK s b a k).2
def clsV (s:az7)(b:List az0)(a:List V3):ezs:=if bzv s=0/\boxV s.Xg b=true then
 (match scan (colK s b a) (cz5 s).length 0 with
  |some v=>v
  |none=>⟨bif azz (misK s b a) (cz5 s).length then 1 else 0,tab (λk=>(fndK s b a k).1) (cz5 s).length,az08⟩)
 else⟨0,nl,az08⟩
theorem az9a {a:List IV3}{c:Int}{b:List IV3}{d:Int}{e:List V3}(h:(az30 a c b d e).2=true):sepV (az30 a c b d e).1 a c b d=true:=by
 unfold az30 at h⊢;generalize okF a c b d=k at h⊢;cases k with
 |false=>cases h
 |true=>
  generalize f:List.find? _ _=F at h⊢;cases F with
  |none=>cases h
  |some n=>exact List.find?_some (p:=λn=>sepV n a c b d) f
theorem Vza {g:Nat->Bool}{n:Nat}:azz g (n+1)=(azz g n&& !g n):=by
 grind[noneB_iff]
theorem az8i (s:az7)(b:List az0)(a:List V3):
 ((clsV s b a).Xo=0/\(clsV s b a).Xx=az08)\/
 ((clsV s b a).Xo=1/\(clsV s b a).Xx=az08/\(bzv s=0/\boxV s.Xg b=true)/\uzt s b (clsV s b a).Xm=true)\/
 ((clsV s b a).Xo=2/\(clsV s b a).Xm=[]/\az8m s b (clsV s b a).Xx=true/\(clsV s b a).Xx.Left.length<=8/\(clsV s b a).Xx.XK.length<=8):=by
 unfold clsV;by_cases h:bzv s=0/\boxV s.Xg b=true
 ·rw[qc h];cases f:scan (colK s b a) (cz5 s).length 0 with
  |some v=>
   obtain⟨j,-,i,e,-⟩:=ezb _ _ f;unfold colK sw at e;cases c:(!(fndK s b a j).2&&ovK s b j)with
   |false=>simp_all
   |true=>
    rw[c]at e;simp only[qe,Option.some.injEq]at e;subst e;simp only[qm]at c;have l:=azcc (cenV (cz1 s b (pA s j))) (cenV (cz1 s b (pB s j))) (qt.wrap (lzp s (pA s j)+lzp s (pB s j)));refine .inr (.inr ⟨rfl,rfl,?_,l.1,l.2⟩);unfold az8m;rw[qc ⟨h,ju,ju⟩];exact c.2
  |none=>
   cases g:azz (misK s b a) (cz5 s).length with
   |false=>simp_all
   |true=>
    refine .inr (.inl ⟨rfl,rfl,h,?_⟩);simp only[uzt,qm,qf,noneB_iff,sepK,wx];refine⟨h.1,h.2,bzf _ _,λk c=>?_⟩;rw[hzb c];have:=noneB_iff.1 g k c;simp only[misK,wx]at this;exact az9a this
 grind
theorem azhv (s:az7)(b:List az0)(a:List V3):(clsV s b a).Xm.length<=576:=by
 grind[xz9,clsV,ezb,colK,sw,nl,bzf]
open Go.Proofs
theorem az7a (p q:List Int)(k i:Int):(dzx p q k i).1.length<=p.length:=by
 grind[dzx,bzf,nl]
abbrev XW:=Int×List az6×Int×Int×List V3×Int×List Int×List Int
def PsB (ps:List az6):Prop:=ps.length<=4096/\∀x∈ps,x.Xm.length<=576
open Go.Proofs
def azap:azo:=⟨0,nl,⟨0,0,nl⟩,⟨0,nl,nl⟩⟩
def Mzz (ok:Bool)(ps:List az6)(W:XW):azo:=
 bif ok then⟨1,ps,⟨0,0,nl⟩,⟨0,nl,nl⟩⟩else⟨W.1,W.2.1,⟨W.2.2.1,W.2.2.2.1,W.2.2.2.2.1⟩,⟨W.2.2.2.2.2.1,W.2.2.2.2.2.2.1,W.2.2.2.2.2.2.2⟩⟩
def W0:XW:=(0,nl,0,0,nl,0,nl,nl)
open Go.Proofs
def TileF (d:Int)(b:Nat):Int->List az6->Int->Prop
 |e,[],a=>e=a
 |e,x::l,a=>(0<=x.Xi/\x.Xi<=d/\x.Xm.length=b/\x.Xs * 2 ^ (d-x.Xi).toNat=e)/\TileF d b (e+2 ^ (d-x.Xi).toNat) l a
theorem TileF.append {d:Int}{e:Nat}:∀ {l m:List az6} {a b c:Int},TileF d e a l b->TileF d e b m c->TileF d e a (l++m) c
 |[],_,_,_,_,h,k=>by have h:_=_:=h;simp_all
 |_::_,_,_,_,_,h,k=>⟨h.1,TileF.append h.2 k⟩
def az25 (s:az7)(p q:List Int)(d:Int)(x:az6):Prop:=(0<=x.Xi/\x.Xi<=d)/\(0<=x.Xs/\x.Xs<2 ^ x.Xi.toNat)/\uzt s (dzx p q x.Xi x.Xs).1 x.Xm=true
def azkf (s:az7)(p q:List Int)(d:Int)(W:XW):Prop:=W.2.1=[]/\(0<=W.2.2.1/\W.2.2.1<=d)/\(0<=W.2.2.2.1/\W.2.2.2.1<2 ^ W.2.2.1.toNat)/\W.2.2.2.2.1=[]/\
 ((W.1=0/\W.2.2.2.2.2=(0,[],[]))\/(W.1=2/\az8m s (dzx p q W.2.2.1 W.2.2.2.1).1 ⟨W.2.2.2.2.2.1,W.2.2.2.2.2.2.1,W.2.2.2.2.2.2.2⟩=true/\W.2.2.2.2.2.2.1.length<=8/\W.2.2.2.2.2.2.2.length<=8))
def az4g (s:az7)(p q:List Int):Bool:=(bzv s !=0)||(!azs s.Xg p|| !azs s.Xg q)
structure ProveOk (s:az7) (p q:List Int) (d:Int) (r:azo):Prop where
 kind:r.Xo=0\/r.Xo=1\/r.Xo=2
 ready:r.Xo≠0->bzv s=0/\azs s.Xg p=true/\azs s.Xg q=true
 tiles:r.Xo=1->TileF d (cz5 s).length 0 r.Xz (2 ^ d.toNat)
 free:r.Xo=1->∀x∈r.Xz,az25 s p q d x
 empty:r.Xo=1->r.At=⟨0,0,[]⟩
 none:r.Xo≠1->r.Xz=[]
 depth:0<=r.At.Xi/\r.At.Xi<=d
 index:0<=r.At.Xs/\r.At.Xs<2 ^ r.At.Xi.toNat
 norm:r.At.Xm=[]
 coll:r.Xo=2->az8m s (dzx p q r.At.Xi r.At.Xs).1 r.Xx=true
 wit:r.Xo≠2->r.Xx=az08
 lens:r.Xx.Left.length<=8/\r.Xx.XK.length<=8
 bd:PsB r.Xz
def d1 (x:Nat):Nat:=x * 6746518852 / 65536
def d2 (x:Nat):Nat:=d1 x * d1 x / 1073741824
def d3 (x:Nat):Nat:=d2 x * d1 x / 1073741824
def d4 (x:Nat):Nat:=d3 x * d1 x / 1073741824
def d5 (x:Nat):Nat:=d4 x * d1 x / 1073741824
def u1 (x:Nat):Nat:=(x * 6746518853+65535) / 65536
def u2 (x:Nat):Nat:=(u1 x * u1 x+1073741823) / 1073741824
def u3 (x:Nat):Nat:=(u2 x * u1 x+1073741823) / 1073741824
def u4 (x:Nat):Nat:=(u3 x * u1 x+1073741823) / 1073741824
def u5 (x:Nat):Nat:=(u4 x * u1 x+1073741823) / 1073741824
def u6 (x:Nat):Nat:=(u5 x * u1 x+1073741823) / 1073741824
def u7 (x:Nat):Nat:=(u6 x * u1 x+1073741823) / 1073741824
def u8 (x:Nat):Nat:=(u7 x * u1 x+1073741823) / 1073741824
section
variable {x:Nat} (h:x<=8192)
include h
end
end Go.Abs
