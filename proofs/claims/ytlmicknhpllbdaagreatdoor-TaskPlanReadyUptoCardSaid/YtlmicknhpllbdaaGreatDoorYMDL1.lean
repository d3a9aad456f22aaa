/-
  DL1 (a part of a claim: our own text).
-/
import Derived.Test.YtlmicknhpllbdaaGreatDoorYMPLib
import Derived.Test.YtlmicknhpllbdaaGreatDoorYMD4
import Derived.Lib.DecodeN
namespace Go.Abs
theorem hzf {α:Type}{a b:Int}{x y:α}(h:a=b):(bif (a==b)then x else y)=x:=Uz3 (by simpa using h)
theorem hzg {α:Type}{a b:Int}{x y:α}(h:a≠b):(bif (a==b)then x else y)=y:=Ezp (by simpa using h)
theorem ezd {α:Type}{a b:Int}{x y:α}(h:a≠b):(bif (a !=b)then x else y)=x:=Uz3 (by simpa using h)
theorem dzf {α:Type}{a b:Int}{x y:α}(h:a=b):(bif (a !=b)then x else y)=y:=Ezp (by simpa using h)
theorem wr (n:Int):IntKind.i64.wrap n=(n+9223372036854775808) % 18446744073709551616-9223372036854775808:=by
 show(if(true&&decide (n % 18446744073709551616≥9223372036854775808))=true then n % 18446744073709551616-18446744073709551616 else n % 18446744073709551616)=_
 by_cases h:n % 18446744073709551616≥9223372036854775808
 ·rw[if_pos (by rw[decide_eq_true h];rfl)];omega
 ·rw[if_neg (by rw[decide_eq_false h];decide)];omega
theorem azgs (n:Int): -9223372036854775808≤IntKind.i64.wrap n:=by rw[wr];omega
theorem azgr (n:Int):IntKind.i64.wrap n≤9223372036854775807:=by rw[wr];omega
theorem azf4 (n:Int):IntKind.i64.wrap (IntKind.i64.wrap n)=IntKind.i64.wrap n:=w64 (azgs n) (azgr n)
theorem Wzu (a b:Int):IntKind.i64.wrap (IntKind.i64.wrap a+b)=IntKind.i64.wrap (a+b):=by simp only[wr];omega
theorem azf2 (a b:Int):IntKind.i64.wrap (a+IntKind.i64.wrap b)=IntKind.i64.wrap (a+b):=by simp only[wr];omega
theorem Wzv (a b:Int):IntKind.i64.wrap (IntKind.i64.wrap a-b)=IntKind.i64.wrap (a-b):=by simp only[wr];omega
theorem az88 (a b:Int):IntKind.i64.wrap (a-IntKind.i64.wrap b)=IntKind.i64.wrap (a-b):=by simp only[wr];omega
def InR (x:Int):Prop:= -9223372036854775808≤x/\x≤9223372036854775807
theorem InR.wr (n:Int):InR (IntKind.i64.wrap n):=⟨azgs n,azgr n⟩
theorem InR.w {x:Int}(h:InR x):IntKind.i64.wrap x=x:=w64 h.1 h.2
def cdiv (a b:Int):Int:= -((-a) / b)
theorem mzd {a b:Int}(ha:0≤a):a.tdiv b=a / b:=Int.tdiv_eq_ediv_of_nonneg ha
theorem Wzt {a b:Int}(ha:0≤a):a.tmod b=a % b:=Int.tmod_eq_emod_of_nonneg ha
theorem Zzv (a b:Int):(-a).tdiv b= -(a.tdiv b):=Int.neg_tdiv a b
theorem az84 (a b:Int):(-a).tmod b= -(a.tmod b):=Int.neg_tmod a b
theorem vzp {a b q r:Int}(h0:0≤r)(h1:r<b)(h:a=b * q+r):a / b=q:=by
 subst h
 rw[Int.mul_add_ediv_left _ _ (by omega:b≠0),Int.ediv_eq_zero_of_lt h0 h1];omega
theorem az0v {a b:Int}(hb:0<b):(if a.tmod b<0 then a.tdiv b-1 else a.tdiv b)=a / b:=by
 have h1:=Int.mul_tdiv_add_tmod a b
 have h2:=Int.tmod_lt_of_pos a hb
 have h3:=Int.lt_tmod_of_pos a hb
 split
 ·symm;exact vzp (r:=a.tmod b+b) (by omega) (by omega) (by rw[Int.mul_sub];omega)
 ·symm;exact vzp (r:=a.tmod b) (by omega) (by omega) (by omega)
theorem azbp {a b:Int}(hb:0<b):(if a.tmod b>0 then a.tdiv b+1 else a.tdiv b)=cdiv a b:=by
 have:=az0v (a:= -a) hb
 rw[az84,Zzv]at this
 unfold cdiv
 rw[←this]
 split
 ·rw[if_pos (by omega)];omega
 ·rw[if_neg (by omega)];omega
theorem Oz9 {a b:Int}(hb:0<b):b * (a / b)≤a:=Int.mul_ediv_self_le (by omega)
theorem Xzh {a b:Int}(hb:0<b):a<b * (a / b)+b:=Int.lt_mul_ediv_self_add hb
theorem Oz8 {a b:Int}(hb:0<b):(0≤a->0≤a / b/\a / b≤a)/\(a<0->a≤a / b/\a / b<0):=by
 refine⟨fun h=>⟨Int.ediv_nonneg h (by omega),Int.ediv_le_self _ h⟩,fun h=>⟨?_,Int.ediv_neg_of_neg_of_pos h hb⟩⟩
 have h1:=Xzh (a:=a) hb
 have h2:a / b<0:=Int.ediv_neg_of_neg_of_pos h hb
 by_cases hc:a≤a / b
 ·exact hc
 ·exfalso
  have h3:a / b+1≤a:=by omega
  have h4:b * (a / b)+b=b * (a / b+1):=by rw[Int.mul_add];omega
  have h5:b * (a / b+1)≤1 * (a / b+1):=Int.mul_le_mul_of_nonpos_right (by omega) (by omega)
  omega
theorem InR.div {a b:Int}(h:InR a)(hb:0<b):InR (a / b):=by
 have:=Oz8 (a:=a) hb
 obtain⟨h1,h2⟩:=h
 by_cases h0:0≤a
 ·have:=this.1 h0;exact⟨by omega,by omega⟩
 ·have:=this.2 (by omega);exact⟨by omega,by omega⟩
theorem az08 {a b:Int}(hb:0<b):(0<a->0<cdiv a b/\cdiv a b≤a)/\(a≤0->a≤cdiv a b/\cdiv a b≤0):=by
 have:=Oz8 (a:= -a) hb
 unfold cdiv
 exact⟨fun h=>by have:=this.2 (by omega);omega,fun h=>by have:=this.1 (by omega);omega⟩
theorem InR.cdiv {a b:Int}(h:InR a)(hb:0<b):InR (Go.Abs.cdiv a b):=by
 have:=az08 (a:=a) hb
 obtain⟨h1,h2⟩:=h
 by_cases h0:0<a
 ·have:=this.1 h0;exact⟨by omega,by omega⟩
 ·have:=this.2 (by omega);exact⟨by omega,by omega⟩
theorem azf0 {a b:Int}(hb:0<b):(0≤a->0≤a.tdiv b/\a.tdiv b≤a)/\(a≤0->a≤a.tdiv b/\a.tdiv b≤0):=by
 refine⟨fun h=>?_,fun h=>?_⟩
 ·rw[mzd h];exact(Oz8 hb).1 h
 ·have h1:=(Oz8 (a:= -a) hb).1 (by omega)
  rw[←mzd (by omega),Zzv]at h1
  omega
theorem InR.tdiv {a b:Int}(h:InR a)(hb:0<b):InR (a.tdiv b):=by
 have:=azf0 (a:=a) hb
 obtain⟨h1,h2⟩:=h
 by_cases h0:0≤a
 ·have:=this.1 h0;exact⟨by omega,by omega⟩
 ·have:=this.2 (by omega);exact⟨by omega,by omega⟩
theorem azfo {a b:Int}(ha:InR a)(hb:0<b):(bif decide (a.tmod b<0)then IntKind.i64.wrap (IntKind.i64.wrap (a.tdiv b)-1)else IntKind.i64.wrap (a.tdiv b))=a / b:=by
 rw[(ha.tdiv hb).w,←az0v hb,cond_eq_ite]
 simp only[decide_eq_true_eq]
 split
 ·rename_i h
  have:=ha.div hb
  rw[←az0v hb,if_pos h]at this
  exact this.w
 ·rfl
theorem azgw {a b:Int}(ha:InR a)(hb:0<b):(bif decide (a.tmod b>0)then IntKind.i64.wrap (IntKind.i64.wrap (a.tdiv b)+1)else IntKind.i64.wrap (a.tdiv b))=cdiv a b:=by
 rw[(ha.tdiv hb).w,←azbp hb,cond_eq_ite]
 simp only[decide_eq_true_eq]
 split
 ·rename_i h
  have:=ha.cdiv hb
  rw[←azbp hb,if_pos h]at this
  exact this.w
 ·rfl
theorem Gz5 {a b q:Int}(hb:0<b):cdiv a b=q↔a≤b * q/\b * q<a+b:=by
 unfold cdiv
 have h1:=Oz9 (a:= -a) hb
 have h2:=Xzh (a:= -a) hb
 constructor
 ·intro h
  have:b * q= -(b * (-a / b)):=by rw[←h,Int.mul_neg]
  omega
 ·intro h
  have: -a / b= -q:=vzp (r:=b * q-a) (by omega) (by omega) (by rw[Int.mul_neg];omega)
  omega
def scan {R:Type}(g:Nat->Option R):Nat->Nat->Option R
 |0,_=>none
 |n+1,i=>match g i with
  |some r=>some r
  |none=>scan g n (i+1)
theorem izc {R:Type}{g:Nat->Option R}:∀ (n i:Nat),scan g n i=none↔∀j,i≤j->j<i+n->g j=none
 |0,i=>by simp only[scan,true_iff];intro j h1 h2;omega
 |n+1,i=>by
  simp only[scan]
  constructor
  ·intro h
   split at h
   ·cases h
   ·rename_i h0
    intro j h1 h2
    by_cases e:j=i
    ·subst e;exact h0
    ·exact(izc n (i+1)).1 h j (by omega) (by omega)
  ·intro h
   rw[h i (by omega) (by omega)]
   exact(izc n (i+1)).2 fun j h1 h2=>h j (by omega) (by omega)
theorem jzo {R:Type}{g:Nat->Option R}{r:R}:∀ (n i:Nat),scan g n i=some r->∃j,i≤j/\j<i+n/\g j=some r/\∀k,i≤k->k<j->g k=none
 |0,i,h=>by cases h
 |n+1,i,h=>by
  simp only[scan]at h
  split at h
  ·rename_i h0;cases h;exact⟨i,by omega,by omega,h0,fun k h1 h2=>by omega⟩
  ·rename_i h0
   obtain⟨j,h1,h2,h3,h4⟩:=jzo n (i+1) h
   refine⟨j,by omega,by omega,h3,fun k h5 h6=>?_⟩
   by_cases e:k=i
   ·subst e;exact h0
   ·exact h4 k (by omega) h6
theorem Yz3 {σ τ R:Type}{f:σ->Option (Step3 σ τ R)}(st:Nat->σ)(g:Nat->Option R)(y:τ):
 ∀ (n i N:Nat),n<N->(∀j,i≤j->j<i+n->f (st j)=match g j with|some r=>some (.fin r)|none=>some (.next (st (j+1))))->f (st (i+n))=some (.out y)->
   iter f N (st i)=some (match scan g n i with|some r=>.inr r|none=>.inl y)
 |0,i,0,h,_,_=>by omega
 |0,i,N+1,_,_,h=>by simp only[Nat.add_zero]at h;simp[iter,h,scan]
 |n+1,i,0,h,_,_=>by omega
 |n+1,i,N+1,h0,hs,he=>by
  have h1:=hs i (by omega) (by omega)
  simp only[scan]
  cases hg:g i with
  |some r=>rw[hg]at h1;simp[iter,h1]
  |none=>
   rw[hg]at h1
   simp only[iter,h1]
   exact Yz3 st g y n (i+1) N (by omega) (fun j a b=>hs j (by omega) (by omega)) (by rw[←he];congr 2;omega)
theorem iz5 {σ τ R:Type}{f:σ->Option (Step3 σ τ R)}{k:τ->Option R}{x:σ}(st:Nat->σ)(g:Nat->Option R)(y:τ)(n:Nat)(hx:x=st 0)(hn:n<NN)
 (hs:∀j,j<n->f (st j)=match g j with|some r=>some (.fin r)|none=>some (.next (st (j+1)))) (he:f (st n)=some (.out y)):
 andK (iter f NN x) k=match scan g n 0 with|some r=>some r|none=>k y:=by
 rw[hx,Yz3 st g y n 0 NN hn (fun j _ h=>hs j (by omega)) (by rw[Nat.zero_add];exact he)]
 cases scan g n 0<;>rfl
theorem bzb {σ τ R:Type}{f:σ->Option (Step3 σ τ R)}{k:τ->Option R}{x:σ}(st:Nat->σ)(y:τ)(n:Nat)(hx:x=st 0)(hn:n<NN)
 (hs:∀j,j<n->f (st j)=some (.next (st (j+1)))) (he:f (st n)=some (.out y)):andK (iter f NN x) k=k y:=by
 rw[hx,Uz1 (az9t st rfl n hn hs he)]
theorem az9 {R:Type}{p:Prop}[Decidable p]{k:Option R}(h:p):grd p k=k:=by unfold grd;simp[h]
theorem czq {α:Type}{b:Bool}{x y:α}:(bif b then some x else some y)=some (bif b then x else y):=by cases b<;>rfl
theorem azp {σ τ R:Type}{b:Bool}{x y:τ}:(bif b then some (Step3.out x)else some (Step3.out y):Option (Step3 σ τ R))=some (.out (bif b then x else y)):=by cases b<;>rfl
theorem cz5 {b c:Bool}:(bif b then true else c)=(b||c):=by cases b<;>rfl
theorem jz8 {b c:Bool}:(bif b then c else false)=(b&&c):=by cases b<;>rfl
theorem dzn {a b:Int}(ha:InR a)(hb:0<b):(bz7 a b).o=some (a / b):=by
 show(Bzl a b).run NN=_
 have h0:b≠0:=by omega
 simp only[Bzl,T.run,az9 h0,azp,az8]
 exact congrArg some (azfo ha hb)
theorem bzu {a b:Int}(ha:InR a)(hb:0<b):(azt a b).o=some (cdiv a b):=by
 show(Fzf a b).run NN=_
 have h0:b≠0:=by omega
 simp only[Fzf,T.run,az9 h0,azp,az8]
 exact congrArg some (azgw ha hb)
theorem ezj (k:Nat):(0:Int)<2 ^ k:=Int.pow_pos (by omega)
theorem Nzf (a:Int)(k:Nat):a.fdiv (2 ^ k)=a / 2 ^ k:=Int.fdiv_eq_ediv_of_nonneg _ (Int.le_of_lt (ezj k))
theorem izl (a:Int)(k:Nat)(hk:k≤64):(bz1 a (k:Int)).o=some (a / 2 ^ k):=by
 show(mzq a (k:Int)).run NN=_
 simp only[mzq,T.run]
 rw[az3 (by omega),az9 (by omega),Int.toNat_natCast,Nat.min_eq_left hk,Nzf]
theorem up_w {a b:Int}(ha:InR a)(hb:0<b)(hlo:InR (b * (a / b))):(bif (IntKind.i64.wrap (a / b * b) !=a)then IntKind.i64.wrap (a / b+1)else a / b)=cdiv a b:=by
 rw[Int.mul_comm,hlo.w]
 have h1:=Oz9 (a:=a) hb
 have h2:=Xzh (a:=a) hb
 symm
 rw[Gz5 hb]
 by_cases e:b * (a / b)=a
 ·rw[dzf e];omega
 ·rw[ezd e]
  have:IntKind.i64.wrap (a / b+1)=a / b+1:=by
   have h3:=ha.cdiv hb
   have:cdiv a b=a / b+1:=by rw[Gz5 hb,Int.mul_add];omega
   rw[this]at h3;exact h3.w
  rw[this,Int.mul_add];omega
theorem azgb {a:Int}{k:Nat}(hk:k≤63)(ha:InR a):InR (2 ^ k * (a / 2 ^ k)):=by
 have hp:=ezj k
 have h1:=Oz9 (a:=a) hp
 obtain⟨h3,h4⟩:=ha
 have h5: -(2 ^ (63-k))≤a / 2 ^ k:=by
  rw[Int.le_ediv_iff_mul_le hp,Int.neg_mul,←Int.pow_add,Nat.sub_add_cancel hk]
  have:(2:Int) ^ 63=9223372036854775808:=by decide
  omega
 have h6:2 ^ k * -(2:Int) ^ (63-k)≤2 ^ k * (a / 2 ^ k):=Int.mul_le_mul_of_nonneg_left h5 (by omega)
 rw[Int.mul_neg,←Int.pow_add,Nat.add_sub_cancel' hk]at h6
 have:(2:Int) ^ 63=9223372036854775808:=by decide
 exact⟨by omega,by omega⟩
theorem lz0 {a:Int}(k:Nat)(hk:k≤63)(ha:InR a):(bz6 a (k:Int)).o=some (cdiv a (2 ^ k)):=by
 show(rzc a (k:Int)).run NN=_
 simp only[rzc,T.run]
 rw[az3 (by omega),az9 (by omega),az9 (by omega),Int.toNat_natCast,Nat.min_eq_left (by omega),Nzf,azp,az8,up_w ha (ezj k) (azgb hk ha)]
theorem sd16 (a:Int):(bz1 a 16).o=some (a / 65536):=izl a 16 (by decide)
theorem sd30 (a:Int):(bz1 a 30).o=some (a / 1073741824):=izl a 30 (by decide)
theorem sd14 (a:Int):(bz1 a 14).o=some (a / 16384):=izl a 14 (by decide)
theorem su16 {a:Int}(h:InR a):(bz6 a 16).o=some (cdiv a 65536):=lz0 16 (by decide) h
theorem su30 {a:Int}(h:InR a):(bz6 a 30).o=some (cdiv a 1073741824):=lz0 30 (by decide) h
theorem su14 {a:Int}(h:InR a):(bz6 a 14).o=some (cdiv a 16384):=lz0 14 (by decide) h
def clV (x:Int):Int:=max (-2147483648) (min x 2147483648)
def vV (a:az0):Bool:=decide (-2147483648≤a.Lo)&&(decide (a.Lo≤a.Hi)&&decide (a.Hi≤2147483648))
theorem vV_iff {a:az0}:vV a=true↔ -2147483648≤a.Lo/\a.Lo≤a.Hi/\a.Hi≤2147483648:=by simp[vV]
def iz:az0:=⟨0,0⟩
def limV (lo hi:Int):az0:=⟨clV lo,clV hi⟩
def addV (a b:az0):az0:=if vV a&&vV b then limV (a.Lo+b.Lo) (a.Hi+b.Hi)else iz
def negV (a:az0):az0:=if vV a then⟨-a.Hi,-a.Lo⟩else iz
def Yzc (a b:az0):Int:=min (min (min (a.Lo * b.Lo) (a.Lo * b.Hi)) (a.Hi * b.Lo)) (a.Hi * b.Hi)
def Yzb (a b:az0):Int:=max (max (max (a.Lo * b.Lo) (a.Lo * b.Hi)) (a.Hi * b.Lo)) (a.Hi * b.Hi)
def mulV (a b:az0):az0:=if vV a&&vV b then limV (Yzc a b / 65536) (cdiv (Yzb a b) 65536)else iz
def az3x (a b:az0):az0:=if vV a&&vV b then⟨min a.Lo b.Lo,max a.Hi b.Hi⟩else iz
def ofV (x:Int):az0:=⟨clV x,clV x⟩
def midV (a:az0):Int:=if vV a then(a.Lo+a.Hi) / 2 else 0
theorem Vz1 (a:Int):(xz0 a).o=some (clV a):=by
 show(xz1 a).run NN=_
 simp only[xz1,T.run,clV,Option.some.injEq];omega
theorem Lzl (a:Int):(oz9 a).o=some (clV a):=by
 show(Bzk a).run NN=_
 simp only[Bzk,T.run,clV]
theorem czm (a:az0):(bzj a).o=some (vV a):=by
 show(ozt a).run NN=_
 simp only[ozt,T.run,vV,czq,jz8]
theorem gzf (a:az0):(dzo a).o=some (vV a):=by
 show(Bzr a).run NN=_
 simp only[Bzr,T.run,vV,czq,jz8]
theorem ozx (a b:az0):(jzz a b).o=some (vV a&&vV b):=by
 show(ozw a b).run NN=_
 simp only[ozw,T.run,czm,Option.bind_some,czq,jz8]
theorem lz3 (a b:Int):(hzi a b).o=some (limV a b):=by
 show(lz2 a b).run NN=_
 simp only[lz2,T.run,Vz1,Option.bind_some,limV]
theorem Ez9 (a b:Int):(uzy a b).o=some (limV a b):=by
 show(uzz a b).run NN=_
 simp only[uzz,T.run,Lzl,Option.bind_some,limV]
theorem izn (a:Int):(cza a).o=some (ofV a):=by
 show(xzd a).run NN=_
 simp only[xzd,T.run,lz3,Option.bind_some,limV,ofV]
theorem Hzs (a:Int):(oza a).o=some (ofV a):=by
 show(Pzr a).run NN=_
 simp only[Pzr,T.run,Lzl,Option.bind_some,ofV]
theorem wsum {a b:Int}(ha: -2147483648≤a/\a≤2147483648)(hb: -2147483648≤b/\b≤2147483648):IntKind.i64.wrap (a+b)=a+b:=w64 (by omega) (by omega)
theorem wmul {a b:Int}(ha: -2147483648≤a/\a≤2147483648)(hb: -2147483648≤b/\b≤2147483648):IntKind.i64.wrap (a * b)=a * b/\ -4611686018427387904≤a * b/\a * b≤4611686018427387904:=by
 have h: -4611686018427387904≤a * b/\a * b≤4611686018427387904:=by
  have h1:(a * b).natAbs≤2147483648 * 2147483648:=by rw[Int.natAbs_mul];exact Nat.mul_le_mul (by omega) (by omega)
  omega
 exact⟨w64 (by omega) (by omega),h⟩
theorem uzc (a b:az0):(azj a b).o=some (addV a b):=by
 show(uzb a b).run NN=_
 simp only[uzb,T.run,ozx,lz3,Option.bind_some,czq,addV]
 cases h:vV a&&vV b
 ·rfl
 ·simp only[Bool.and_eq_true,vV_iff]at h
  rw[wsum ⟨by omega,by omega⟩ ⟨by omega,by omega⟩,wsum ⟨by omega,by omega⟩ ⟨by omega,by omega⟩];rfl
theorem Kz2 (a b:az0):(bza a b).o=some (addV a b):=by
 show(Kz1 a b).run NN=_
 simp only[Kz1,T.run,gzf,Ez9,Option.bind_some,czq,azp,az8,addV]
 cases h1:vV a
 ·rfl
 ·cases h2:vV b
  ·rfl
  ·simp only[vV_iff]at h1 h2
   rw[wsum ⟨by omega,by omega⟩ ⟨by omega,by omega⟩,wsum ⟨by omega,by omega⟩ ⟨by omega,by omega⟩];rfl
theorem Dzs (a:az0):(nzn a).o=some (negV a):=by
 show(uzg a).run NN=_
 simp only[uzg,T.run,czm,Option.bind_some,czq,negV]
 cases h:vV a
 ·rfl
 ·simp only[vV_iff]at h
  rw[w64 (x:=0-a.Hi) (by omega) (by omega),w64 (x:=0-a.Lo) (by omega) (by omega)]
  simp
theorem Tzr (a:az0):(Czu a).o=some (negV a):=by
 show(Kza a).run NN=_
 simp only[Kza,T.run,gzf,Option.bind_some,czq,negV]
 cases h:vV a
 ·rfl
 ·simp only[vV_iff]at h
  rw[w64 (x:=0-a.Hi) (by omega) (by omega),w64 (x:=0-a.Lo) (by omega) (by omega)]
  simp
theorem Azt (a b:az0):(fz1 a b).o=some (az3x a b):=by
 show(rzh a b).run NN=_
 simp only[rzh,T.run,ozx,Option.bind_some,czq,az3x]
 cases h:vV a&&vV b<;>rfl
theorem az1d (a b:az0):(yz7 a b).o=some (az3x a b):=by
 show(Fzg a b).run NN=_
 simp only[Fzg,T.run,gzf,Option.bind_some,czq,azp,az8,az3x]
 cases h1:vV a<;>cases h2:vV b<;>rfl
theorem zz3 (a:az0)(h:vV a=true):(ozu a).o=some (a.Hi-a.Lo):=by
 show(ozv a).run NN=_
 simp only[ozv,T.run,czm,Option.bind_some,czq,h]
 simp only[vV_iff]at h
 rw[w64 (by omega) (by omega)];rfl
theorem Rzt (a:az0)(x:Int):(Dzp a x).o=some (vV a&&(decide (a.Lo≤x)&&decide (x≤a.Hi))):=by
 show(uzd a x).run NN=_
 simp only[uzd,T.run,czm,Option.bind_some,czq,jz8]
theorem Jzl {a b:Int}(hb:InR b):(vzs a b).o=some (limV (a / 65536) (cdiv b 65536)):=by
 show(mzr a b).run NN=_
 simp only[mzr,T.run,sd16,su16 hb,lz3,Option.bind_some]
theorem az6s {a b:az0}(ha:vV a=true)(hb:vV b=true):InR (Yzc a b)/\InR (Yzb a b)/\Yzc a b≤Yzb a b:=by
 simp only[vV_iff]at ha hb
 obtain⟨-,p1,p2⟩:=wmul (a:=a.Lo) (b:=b.Lo) ⟨by omega,by omega⟩ ⟨by omega,by omega⟩
 obtain⟨-,q1,q2⟩:=wmul (a:=a.Lo) (b:=b.Hi) ⟨by omega,by omega⟩ ⟨by omega,by omega⟩
 obtain⟨-,r1,r2⟩:=wmul (a:=a.Hi) (b:=b.Lo) ⟨by omega,by omega⟩ ⟨by omega,by omega⟩
 obtain⟨-,s1,s2⟩:=wmul (a:=a.Hi) (b:=b.Hi) ⟨by omega,by omega⟩ ⟨by omega,by omega⟩
 unfold Yzc Yzb InR
 generalize a.Lo * b.Lo=p at *
 generalize a.Lo * b.Hi=q at *
 generalize a.Hi * b.Lo=r at *
 generalize a.Hi * b.Hi=s at *
 omega
theorem Tzq (a b:az0):(azw a b).o=some (mulV a b):=by
 show(Kz9 a b).run NN=_
 simp only[Kz9,T.run,gzf,Ez9,Option.bind_some,czq,azp,az8,mulV]
 cases h1:vV a
 ·rfl
 ·cases h2:vV b
  ·rfl
  ·have hm:=az6s h1 h2
   simp only[vV_iff]at h1 h2
   rw[(wmul (a:=a.Lo) (b:=b.Lo) ⟨by omega,by omega⟩ ⟨by omega,by omega⟩).1,(wmul (a:=a.Lo) (b:=b.Hi) ⟨by omega,by omega⟩ ⟨by omega,by omega⟩).1,
    (wmul (a:=a.Hi) (b:=b.Lo) ⟨by omega,by omega⟩ ⟨by omega,by omega⟩).1,(wmul (a:=a.Hi) (b:=b.Hi) ⟨by omega,by omega⟩ ⟨by omega,by omega⟩).1]
   show(bz7 (Yzc a b) 65536).o.bind _=_
   rw[dzn hm.1 (by decide),Option.bind_some]
   show(azt (Yzb a b) 65536).o.bind _=_
   rw[bzu hm.2.1 (by decide)];rfl
theorem Dzr (a b:az0):(azl a b).o=some (mulV a b):=by
 show(uzf a b).run NN=_
 simp only[uzf,T.run,ozx,Option.bind_some,mulV]
 cases h:vV a&&vV b
 ·rfl
 ·simp only[Bool.and_eq_true]at h
  have hm:=az6s h.1 h.2
  simp only[vV_iff]at h
  rw[(wmul (a:=a.Lo) (b:=b.Lo) ⟨by omega,by omega⟩ ⟨by omega,by omega⟩).1,(wmul (a:=a.Lo) (b:=b.Hi) ⟨by omega,by omega⟩ ⟨by omega,by omega⟩).1,
     (wmul (a:=a.Hi) (b:=b.Lo) ⟨by omega,by omega⟩ ⟨by omega,by omega⟩).1,(wmul (a:=a.Hi) (b:=b.Hi) ⟨by omega,by omega⟩ ⟨by omega,by omega⟩).1]
  simp only[Bool.not_true,cond_false]
  refine Eq.trans (bzb (fun i=>match i with
   |0=>(a.Lo * b.Lo,a.Lo * b.Lo,0)
   |1=>(a.Lo * b.Lo,a.Lo * b.Lo,1)
   |2=>(min (a.Lo * b.Lo) (a.Lo * b.Hi),max (a.Lo * b.Lo) (a.Lo * b.Hi),2)
   |3=>(min (min (a.Lo * b.Lo) (a.Lo * b.Hi)) (a.Hi * b.Lo),max (max (a.Lo * b.Lo) (a.Lo * b.Hi)) (a.Hi * b.Lo),3)
   |_=>(Yzc a b,Yzb a b,4)) (Yzc a b,Yzb a b) 4 rfl (by decide) ?_ ?_) ?_
  ·intro j hj
   match j,hj with
   |0,_=>simp[az9,IntKind.wrap,IntKind.bits,IntKind.signed]
   |1,_=>simp[az9,IntKind.wrap,IntKind.bits,IntKind.signed]
   |2,_=>simp[az9,IntKind.wrap,IntKind.bits,IntKind.signed]
   |3,_=>simp[az9,IntKind.wrap,IntKind.bits,IntKind.signed,Yzc,Yzb]
  ·rfl
  ·rw[Jzl hm.2.1];rfl
def pd1 (x:Int):Int:=IntKind.i64.wrap (x * 6746518852) / 65536
def pu1 (x:Int):Int:=cdiv (IntKind.i64.wrap (x * 6746518853)) 65536
def pd (x:Int):Nat->Int
 |0=>pd1 x
 |k+1=>IntKind.i64.wrap (pd x k * pd1 x) / 1073741824
def pu (x:Int):Nat->Int
 |0=>pu1 x
 |k+1=>cdiv (IntKind.i64.wrap (pu x k * pu1 x)) 1073741824
theorem yzy (x:Int):(ozm x).o=some ((1073741824,pd x 0,pd x 1,pd x 2,pd x 3,pd x 4,pd x 5,pd x 6,pd x 7,pd x 8,pd x 9),(1073741824,pu x 0,pu x 1,pu x 2,pu x 3,pu x 4,pu x 5,pu x 6,pu x 7,pu x 8,pu x 9)):=by
 show(ozn x).run NN=_
 simp only[ozn,T.run,sd16,su16 (InR.wr _),sd30,su30 (InR.wr _),Option.bind_some,pd,pu,pd1,pu1]
theorem Hzv (x:Int):(yza x).o=some ((0,pd x 0,pd x 1,pd x 2,pd x 3,pd x 4,pd x 5,pd x 6,pd x 7,pd x 8,pd x 9),(0,pu x 0,pu x 1,pu x 2,pu x 3,pu x 4,pu x 5,pu x 6,pu x 7,pu x 8,pu x 9)):=by
 have h1:∀y:Int,(bz7 (IntKind.i64.wrap y) 65536).o=some (IntKind.i64.wrap y / 65536):=fun y=>dzn (InR.wr _) (by decide)
 have h2:∀y:Int,(azt (IntKind.i64.wrap y) 65536).o=some (cdiv (IntKind.i64.wrap y) 65536):=fun y=>bzu (InR.wr _) (by decide)
 have h3:∀y:Int,(bz7 (IntKind.i64.wrap y) 1073741824).o=some (IntKind.i64.wrap y / 1073741824):=fun y=>dzn (InR.wr _) (by decide)
 have h4:∀y:Int,(azt (IntKind.i64.wrap y) 1073741824).o=some (cdiv (IntKind.i64.wrap y) 1073741824):=fun y=>bzu (InR.wr _) (by decide)
 show(yzb x).run NN=_
 simp only[yzb,T.run,h1,h2,h3,h4,Option.bind_some,pd,pu,pd1,pu1]
theorem azcj {x:Int}(h0:0≤x)(h1:x≤8192):0≤pd1 x/\pd1 x≤1073741824:=by
 unfold pd1;rw[w64 (by omega) (by omega)];omega
theorem azcl {x:Int}(h0:0≤x)(h1:x≤8192):0≤pu1 x/\pu1 x≤1073741824:=by
 unfold pu1 cdiv;rw[w64 (by omega) (by omega)];omega
theorem az79 {a b:Int}(ha:0≤a/\a≤1073741824)(hb:0≤b/\b≤1073741824):0≤a * b/\a * b≤1152921504606846976:=by
 refine⟨Int.mul_nonneg ha.1 hb.1,?_⟩
 have:=Int.mul_le_mul ha.2 hb.2 hb.1 (by omega:(0:Int)≤1073741824)
 omega
theorem az76 {x:Int}(h0:0≤x)(h1:x≤8192):∀k,0≤pd x k/\pd x k≤1073741824
 |0=>azcj h0 h1
 |k+1=>by
  have:=az79 (az76 h0 h1 k) (azcj h0 h1)
  simp only[pd]
  generalize pd x k * pd1 x=y at this⊢
  rw[w64 (by omega) (by omega)];omega
theorem az7b {x:Int}(h0:0≤x)(h1:x≤8192):∀k,0≤pu x k/\pu x k≤1073741824
 |0=>azcl h0 h1
 |k+1=>by
  have:=az79 (az7b h0 h1 k) (azcl h0 h1)
  simp only[pu]
  generalize pu x k * pu1 x=y at this⊢
  rw[w64 (by omega) (by omega)];unfold cdiv;omega
theorem dze {n d:Int}(h0:0≤n)(h1:n≤1073741824)(h2:0<d)(h3:d≤1073741824):(czt n d).o=some (cdiv n d):=by
 show(rz2 n d).run NN=_
 simp only[rz2,T.run]
 rw[az9 (by omega),w64 (x:=n+d) (by omega) (by omega),w64 (x:=n+d-1) (by omega) (by omega),mzd (by omega)]
 have h4:=Oz9 (a:=n+d-1) h2
 have h5:=Xzh (a:=n+d-1) h2
 have h6:=(Oz8 (a:=n+d-1) h2).1 (by omega)
 rw[w64 (by omega) (by omega)]
 congr 1;symm
 rw[Gz5 h2];omega
def alt (l:List Int):Nat->Int×Int
 |0=>(0,1)
 |k+1=>(IntKind.i64.wrap ((alt l k).1+IntKind.i64.wrap ((alt l k).2 * l.getD k default)),IntKind.i64.wrap (0- (alt l k).2))
theorem kz7 (l:List Int)(h:l.length<4294967296):(czf l).o=some (alt l l.length).1:=by
 show(kz6 l).run NN=_
 simp only[kz6,T.run]
 refine Eq.trans (bzb (fun i=>((alt l i).1,(alt l i).2,(i:Int))) (alt l l.length).1 l.length rfl h ?_ ?_) rfl
 ·intro j hj
  rw[az5 (by simpa using hj),az9 ⟨by simp,by simpa using hj⟩]
  simp only[alt,w64n (show j<9223372036854775807 by omega),Int.toNat_natCast]
 ·rw[az3 (by simp)]
theorem alt4 {a b c d:Int}(ha:0≤a/\a≤1073741824)(hb:0≤b/\b≤1073741824)(hc:0≤c/\c≤1073741824)(hd:0≤d/\d≤1073741824):(czf [a,b,c,d]).o=some (a-b+c-d):=by
 rw[kz7 _ (by simp)]
 simp[alt,wr];omega
theorem alt5 {a b c d e:Int}(ha:0≤a/\a≤1073741824)(hb:0≤b/\b≤1073741824)(hc:0≤c/\c≤1073741824)(hd:0≤d/\d≤1073741824)(he:0≤e/\e≤1073741824):(czf [a,b,c,d,e]).o=some (a-b+c-d+e):=by
 rw[kz7 _ (by simp)]
 simp[alt,wr];omega
theorem alt6 {a b c d e f:Int}(ha:0≤a/\a≤1073741824)(hb:0≤b/\b≤1073741824)(hc:0≤c/\c≤1073741824)(hd:0≤d/\d≤1073741824)(he:0≤e/\e≤1073741824)(hf:0≤f/\f≤1073741824):(czf [a,b,c,d,e,f]).o=some (a-b+c-d+e-f):=by
 rw[kz7 _ (by simp)]
 simp[alt,wr];omega
def encV (lo hi:Int):az0:=⟨max 0 (lo / 16384),min 65536 (cdiv hi 16384)⟩
theorem vzm {a b:Int}(hb:InR b):(mzm a b).o=some (encV a b):=by
 show(mzn a b).run NN=_
 simp only[mzn,T.run,sd14,su14 hb,Option.bind_some,encV]
theorem zzg {a b:Int}(ha:InR a)(hb:InR b):(pz9 a b).o=some (encV a b):=by
 show(pza a b).run NN=_
 simp only[pza,T.run,dzn ha (show(0:Int)<16384 by decide),bzu hb (show(0:Int)<16384 by decide),Option.bind_some,encV]
def sLo (x:Int):Int:=pd x 0-cdiv (pu x 2) 6+pd x 4 / 120-cdiv (pu x 6) 5040
def sHi (x:Int):Int:=pu x 0-pd x 2 / 6+cdiv (pu x 4) 120-pd x 6 / 5040+cdiv (pu x 8) 362880
def cLo (x:Int):Int:=1073741824-cdiv (pu x 1) 2+pd x 3 / 24-cdiv (pu x 5) 720+pd x 7 / 40320-cdiv (pu x 9) 3628800
def cHi (x:Int):Int:=1073741824-pd x 1 / 2+cdiv (pu x 3) 24-pd x 5 / 720+cdiv (pu x 7) 40320
theorem q_bd {a b:Int}(ha:0≤a/\a≤1073741824)(hb:0<b):0≤a / b/\a / b≤1073741824:=by
 have:=(Oz8 (a:=a) hb).1 ha.1;omega
theorem c_bd {a b:Int}(ha:0≤a/\a≤1073741824)(hb:0<b):0≤cdiv a b/\cdiv a b≤1073741824:=by
 have h:=az08 (a:=a) hb
 by_cases h0:a=0
 ·have:=h.2 (by omega);omega
 ·have:=h.1 (by omega);omega
theorem wq {a b:Int}(ha:0≤a/\a≤1073741824)(hb:0<b):IntKind.i64.wrap (a.tdiv b)=a / b:=by
 rw[mzd ha.1];have:=q_bd ha hb;exact w64 (by omega) (by omega)
theorem in30 {a:Int}(ha:0≤a/\a≤1073741824):InR a:=⟨by omega,by omega⟩
section
variable {x:Int} (h0:0≤x) (h1:x≤8192)
include h0 h1
theorem Xz2:(Kzx x).o=some (encV (sLo x) (sHi x)):=by
 have P:=az76 h0 h1
 have U:=az7b h0 h1
 show(zzw x).run NN=_
 simp only[zzw,T.run,T.ix,yzy,Option.bind_some,dze (U 2).1 (U 2).2 (show(0:Int)<6 by decide) (by decide),dze (U 6).1 (U 6).2 (show(0:Int)<5040 by decide) (by decide),
  dze (U 4).1 (U 4).2 (show(0:Int)<120 by decide) (by decide),dze (U 8).1 (U 8).2 (show(0:Int)<362880 by decide) (by decide),wq (P 4) (show(0:Int)<120 by decide),wq (P 2) (show(0:Int)<6 by decide),wq (P 6) (show(0:Int)<5040 by decide),
  alt4 (P 0) (c_bd (U 2) (show(0:Int)<6 by decide)) (q_bd (P 4) (show(0:Int)<120 by decide)) (c_bd (U 6) (show(0:Int)<5040 by decide)),
  alt5 (U 0) (q_bd (P 2) (show(0:Int)<6 by decide)) (c_bd (U 4) (show(0:Int)<120 by decide)) (q_bd (P 6) (show(0:Int)<5040 by decide)) (c_bd (U 8) (show(0:Int)<362880 by decide))]
 have a0:=U 0;have a1:=q_bd (P 2) (show(0:Int)<6 by decide);have a2:=c_bd (U 4) (show(0:Int)<120 by decide);have a3:=q_bd (P 6) (show(0:Int)<5040 by decide);have a4:=c_bd (U 8) (show(0:Int)<362880 by decide)
 rw[vzm ⟨by omega,by omega⟩];rfl
theorem Rza:(Dzj x).o=some (encV (cLo x) (cHi x)):=by
 have P:=az76 h0 h1
 have U:=az7b h0 h1
 have one:(0:Int)≤1073741824/\(1073741824:Int)≤1073741824:=by decide
 show(uz1 x).run NN=_
 simp only[uz1,T.run,T.ix,yzy,Option.bind_some,dze (U 1).1 (U 1).2 (show(0:Int)<2 by decide) (by decide),dze (U 5).1 (U 5).2 (show(0:Int)<720 by decide) (by decide),dze (U 9).1 (U 9).2 (show(0:Int)<3628800 by decide) (by decide),
  dze (U 3).1 (U 3).2 (show(0:Int)<24 by decide) (by decide),dze (U 7).1 (U 7).2 (show(0:Int)<40320 by decide) (by decide),wq (P 3) (show(0:Int)<24 by decide),wq (P 7) (show(0:Int)<40320 by decide),wq (P 1) (show(0:Int)<2 by decide),wq (P 5) (show(0:Int)<720 by decide),
  alt6 one (c_bd (U 1) (show(0:Int)<2 by decide)) (q_bd (P 3) (show(0:Int)<24 by decide)) (c_bd (U 5) (show(0:Int)<720 by decide)) (q_bd (P 7) (show(0:Int)<40320 by decide)) (c_bd (U 9) (show(0:Int)<3628800 by decide)),
  alt5 one (q_bd (P 1) (show(0:Int)<2 by decide)) (c_bd (U 3) (show(0:Int)<24 by decide)) (q_bd (P 5) (show(0:Int)<720 by decide)) (c_bd (U 7) (show(0:Int)<40320 by decide))]
 have a1:=q_bd (P 1) (show(0:Int)<2 by decide);have a2:=c_bd (U 3) (show(0:Int)<24 by decide);have a3:=q_bd (P 5) (show(0:Int)<720 by decide);have a4:=c_bd (U 7) (show(0:Int)<40320 by decide)
 rw[vzm ⟨by omega,by omega⟩];rfl
theorem az1g:(Pzx x).o=some (encV (sLo x) (sHi x)):=by
 have P:=az76 h0 h1
 have U:=az7b h0 h1
 show(Fzl x).run NN=_
 simp only[Fzl,T.run,T.ix,Hzv,Option.bind_some,bzu (in30 (U 2)) (show(0:Int)<6 by decide),bzu (in30 (U 6)) (show(0:Int)<5040 by decide),bzu (in30 (U 4)) (show(0:Int)<120 by decide),bzu (in30 (U 8)) (show(0:Int)<362880 by decide),
  dzn (in30 (P 4)) (show(0:Int)<120 by decide),dzn (in30 (P 2)) (show(0:Int)<6 by decide),dzn (in30 (P 6)) (show(0:Int)<5040 by decide),Wzu,Wzv]
 have b0:=P 0;have b1:=c_bd (U 2) (show(0:Int)<6 by decide);have b2:=q_bd (P 4) (show(0:Int)<120 by decide);have b3:=c_bd (U 6) (show(0:Int)<5040 by decide)
 have a0:=U 0;have a1:=q_bd (P 2) (show(0:Int)<6 by decide);have a2:=c_bd (U 4) (show(0:Int)<120 by decide);have a3:=q_bd (P 6) (show(0:Int)<5040 by decide);have a4:=c_bd (U 8) (show(0:Int)<362880 by decide)
 rw[w64 (x:=pd x 0-cdiv (pu x 2) 6+pd x 4 / 120-cdiv (pu x 6) 5040) (by omega) (by omega),w64 (x:=pu x 0-pd x 2 / 6+cdiv (pu x 4) 120-pd x 6 / 5040+cdiv (pu x 8) 362880) (by omega) (by omega),zzg ⟨by omega,by omega⟩ ⟨by omega,by omega⟩];rfl
theorem Vzz:(Hzu x).o=some (encV (cLo x) (cHi x)):=by
 have P:=az76 h0 h1
 have U:=az7b h0 h1
 show(yz9 x).run NN=_
 simp only[yz9,T.run,T.ix,Hzv,Option.bind_some,bzu (in30 (U 1)) (show(0:Int)<2 by decide),bzu (in30 (U 5)) (show(0:Int)<720 by decide),bzu (in30 (U 9)) (show(0:Int)<3628800 by decide),bzu (in30 (U 3)) (show(0:Int)<24 by decide),bzu (in30 (U 7)) (show(0:Int)<40320 by decide),
  dzn (in30 (P 3)) (show(0:Int)<24 by decide),dzn (in30 (P 7)) (show(0:Int)<40320 by decide),dzn (in30 (P 1)) (show(0:Int)<2 by decide),dzn (in30 (P 5)) (show(0:Int)<720 by decide),Wzu,Wzv]
 have b1:=c_bd (U 1) (show(0:Int)<2 by decide);have b2:=q_bd (P 3) (show(0:Int)<24 by decide);have b3:=c_bd (U 5) (show(0:Int)<720 by decide);have b4:=q_bd (P 7) (show(0:Int)<40320 by decide);have b5:=c_bd (U 9) (show(0:Int)<3628800 by decide)
 have a1:=q_bd (P 1) (show(0:Int)<2 by decide);have a2:=c_bd (U 3) (show(0:Int)<24 by decide);have a3:=q_bd (P 5) (show(0:Int)<720 by decide);have a4:=c_bd (U 7) (show(0:Int)<40320 by decide)
 rw[w64 (x:=1073741824-cdiv (pu x 1) 2+pd x 3 / 24-cdiv (pu x 5) 720+pd x 7 / 40320-cdiv (pu x 9) 3628800) (by omega) (by omega),w64 (x:=1073741824-pd x 1 / 2+cdiv (pu x 3) 24-pd x 5 / 720+cdiv (pu x 7) 40320) (by omega) (by omega),zzg ⟨by omega,by omega⟩ ⟨by omega,by omega⟩];rfl
end
def qV (r:Int):az0:=if r≤8192 then encV (sLo r) (sHi r)else encV (cLo (16384-r)) (cHi (16384-r))
theorem Gz1 {r:Int}(h0:0≤r)(h1:r≤16384):(kzs r).o=some (qV r):=by
 show(wzm r).run NN=_
 simp only[wzm,T.run,qV]
 by_cases h:r≤8192
 ·rw[az5 h,if_pos h,Xz2 h0 h];rfl
 ·rw[az3 h,if_neg h,w64 (by omega) (by omega),Rza (by omega) (by omega)];rfl
theorem Ez7 {r:Int}(h0:0≤r)(h1:r≤16384):(jzm r).o=some (qV r):=by
 show(uzw r).run NN=_
 simp only[uzw,T.run,qV]
 by_cases h:r≤8192
 ·rw[az5 h,if_pos h,az1g h0 h];rfl
 ·rw[az3 h,if_neg h,w64 (by omega) (by omega),Vzz (by omega) (by omega)];rfl
theorem az8f (a:Int):(((BitVec.ofInt 64 a&&&BitVec.ofInt 64 65535).toNat:Nat):Int)=a % 65536:=by
 have h1:(BitVec.ofInt 64 65535).toNat=2 ^ 16-1:=by decide
 rw[BitVec.toNat_and,h1,Nat.and_two_pow_sub_one_eq_mod,BitVec.toNat_ofInt]
 omega
theorem rz4 (a:Int):(kzu a).o=some (a % 65536):=by
 show(rz3 a).run NN=_
 simp only[rz3,T.run]
 rw[az8f,w64 (by omega) (by omega)]
theorem Kz8 (a:Int):(Czt a).o=some (a % 65536):=by
 show(Kz7 a).run NN=_
 simp only[Kz7,T.run]
 have h2:=Int.tmod_lt_of_pos a (show(0:Int)<65536 by decide)
 have h3:=Int.lt_tmod_of_pos a (show(0:Int)<65536 by decide)
 have h1:=Int.mul_tdiv_add_tmod a 65536
 rw[w64 (by omega) (by omega),Wzt (by omega)]
 congr 1;omega
def sinV (a:Int):az0:=
 if a % 65536 / 16384=0 then qV (a % 65536 % 16384)else if a % 65536 / 16384=1 then qV (16384-a % 65536 % 16384)else
 if a % 65536 / 16384=2 then negV (qV (a % 65536 % 16384))else negV (qV (16384-a % 65536 % 16384))
theorem Nzu (a:Int):(wzl a).o=some (sinV a):=by
 show(Ezm a).run NN=_
 simp only[Ezm,T.run,rz4,Option.bind_some,sinV]
 rw[mzd (by omega),Wzt (by omega),w64 (x:=a % 65536 / 16384) (by omega) (by omega),w64 (x:=16384-a % 65536 % 16384) (by omega) (by omega),Gz1 (by omega) (by omega),Gz1 (by omega) (by omega)]
 simp only[Option.bind_some,Dzs]
 by_cases h0:a % 65536 / 16384=0
 ·rw[hzf h0,if_pos h0]
 ·rw[hzg h0,if_neg h0]
  by_cases h1:a % 65536 / 16384=1
  ·rw[hzf h1,if_pos h1]
  ·rw[hzg h1,if_neg h1]
   by_cases h2:a % 65536 / 16384=2
   ·rw[hzf h2,if_pos h2]
   ·rw[hzg h2,if_neg h2]
theorem Tzs (a:Int):(Czv a).o=some (sinV a):=by
 show(Kzb a).run NN=_
 simp only[Kzb,T.run,Kz8,Option.bind_some,sinV]
 rw[mzd (by omega),Wzt (by omega),w64 (x:=a % 65536 / 16384) (by omega) (by omega),w64 (x:=16384-a % 65536 % 16384) (by omega) (by omega),Ez7 (by omega) (by omega),Ez7 (by omega) (by omega)]
 simp only[Option.bind_some,Tzr]
 by_cases h0:a % 65536 / 16384=0
 ·rw[hzf h0,if_pos h0]
 ·rw[hzg h0,if_neg h0]
  by_cases h1:a % 65536 / 16384=1
  ·rw[hzf h1,if_pos h1]
  ·rw[hzg h1,if_neg h1]
   by_cases h2:a % 65536 / 16384=2
   ·rw[hzf h2,if_pos h2]
   ·rw[hzg h2,if_neg h2]
def cosV (a:Int):az0:=sinV (a % 65536+16384)
theorem az02 (a:Int):(Ezk a).o=some (cosV a):=by
 show(Ezl a).run NN=_
 simp only[Ezl,T.run,rz4,Option.bind_some,cosV]
 rw[w64 (by omega) (by omega),Nzu];rfl
theorem az44 (a:Int):(Kz4 a).o=some (cosV a):=by
 show(Kz5 a).run NN=_
 simp only[Kz5,T.run,Kz8,Option.bind_some,cosV]
 rw[w64 (by omega) (by omega),Tzs];rfl
def Mze (a:az0)(c:Int):Bool:=decide (a.Lo+(c-a.Lo) % 65536≤a.Hi)
def azfq (b:Bool)(x y:az0):az0:=if b then az3x x y else x
def Yzm (a lo hi:az0)(top bot:Int):az0:=
 if vV a then(if a.Hi-a.Lo≥65536 then⟨-65536,65536⟩else azfq (Mze a bot) (azfq (Mze a top) (az3x lo hi) (ofV 65536)) (ofV (-65536)))else iz
section
variable {a:az0} (h:vV a=true) {c:Int} (h0:0≤c) (h1:c≤65536)
include h h0 h1
theorem qz3:(kzt a c).o=some (Mze a c):=by
 show(wzn a c).run NN=_
 have hv:=h
 simp only[vV_iff]at hv
 simp only[wzn,T.run,rz4,Option.bind_some,Rzt,h,Bool.true_and,Mze]
 rw[w64 (x:=c-a.Lo) (by omega) (by omega),w64 (by omega) (by omega),decide_eq_true (p:=a.Lo≤_) (by omega),Bool.true_and]
theorem Lzm:(Bzs a c).o=some (Mze a c):=by
 show(Bzt a c).run NN=_
 have hv:=h
 simp only[vV_iff]at hv
 simp only[Bzt,T.run,Kz8,Option.bind_some,Mze]
 rw[w64 (x:=c-a.Lo) (by omega) (by omega),w64 (by omega) (by omega)]
end
theorem Xz1 (a:az0){t b:Int}(ht:0≤t/\t≤65536)(hb:0≤b/\b≤65536):(Kzw a t b).o=some (Yzm a (cosV a.Lo) (cosV a.Hi) t b):=by
 show(zzv a t b).run NN=_
 simp only[zzv,T.run,czm,Option.bind_some,Yzm]
 cases h:vV a
 ·rfl
 ·simp only[Bool.not_true,cond_false,zz3 a h,Option.bind_some,az02,Azt,qz3 h ht.1 ht.2,qz3 h hb.1 hb.2,izn,if_true]
  by_cases hw:a.Hi-a.Lo≥65536
  ·rw[az5 hw,if_pos hw]
  ·rw[az3 hw,if_neg hw]
   cases Mze a t<;>cases Mze a b<;>rfl
theorem Rzb (a:az0){t b:Int}(ht:0≤t/\t≤65536)(hb:0≤b/\b≤65536):(Dzk a t b).o=some (Yzm a (sinV a.Lo) (sinV a.Hi) t b):=by
 show(uz2 a t b).run NN=_
 simp only[uz2,T.run,czm,Option.bind_some,Yzm]
 cases h:vV a
 ·rfl
 ·simp only[Bool.not_true,cond_false,zz3 a h,Option.bind_some,Nzu,Azt,qz3 h ht.1 ht.2,qz3 h hb.1 hb.2,izn,if_true]
  by_cases hw:a.Hi-a.Lo≥65536
  ·rw[az5 hw,if_pos hw]
  ·rw[az3 hw,if_neg hw]
   cases Mze a t<;>cases Mze a b<;>rfl
theorem Pzw (a lo hi:az0){t b:Int}(ht:0≤t/\t≤65536)(hb:0≤b/\b≤65536):(Fzj a lo hi t b).o=some (Yzm a lo hi t b):=by
 show(Fzk a lo hi t b).run NN=_
 simp only[Fzk,T.run,gzf,Option.bind_some,Yzm]
 cases h:vV a
 ·rfl
 ·have hv:=h
  simp only[vV_iff]at hv
  rw[w64 (by omega) (by omega)]
  simp only[Bool.not_true,cond_false,Option.bind_some,az1d,Lzm h ht.1 ht.2,Lzm h hb.1 hb.2,Hzs,if_true]
  by_cases hw:a.Hi-a.Lo≥65536
  ·rw[az5 hw,if_pos hw]
  ·rw[az3 hw,if_neg hw]
   cases Mze a t<;>cases Mze a b<;>rfl
def sinO (a:az0):az0:=Yzm a (sinV a.Lo) (sinV a.Hi) 16384 49152
def cosO (a:az0):az0:=Yzm a (cosV a.Lo) (cosV a.Hi) 0 32768
theorem Nzt (a:az0):(zzu a).o=some (sinO a):=by
 show(rz1 a).run NN=_
 simp only[rz1,T.run,Rzb a (show(0:Int)≤16384/\(16384:Int)≤65536 by decide) (show(0:Int)≤49152/\(49152:Int)≤65536 by decide),Option.bind_some,sinO]
theorem Nzs (a:az0):(zzt a).o=some (cosO a):=by
 show(rz0 a).run NN=_
 simp only[rz0,T.run,Xz1 a (show(0:Int)≤0/\(0:Int)≤65536 by decide) (show(0:Int)≤32768/\(32768:Int)≤65536 by decide),Option.bind_some,cosO]
theorem Szd (a:az0):(Ez8 a).o=some (sinO a):=by
 show(uzx a).run NN=_
 simp only[uzx,T.run,Tzs,Pzw a _ _ (show(0:Int)≤16384/\(16384:Int)≤65536 by decide) (show(0:Int)≤49152/\(49152:Int)≤65536 by decide),Option.bind_some,sinO]
theorem Szc (a:az0):(Ez6 a).o=some (cosO a):=by
 show(uzv a).run NN=_
 simp only[uzv,T.run,az44,Pzw a _ _ (show(0:Int)≤0/\(0:Int)≤65536 by decide) (show(0:Int)≤32768/\(32768:Int)≤65536 by decide),Option.bind_some,cosO]
abbrev IV3:=az0×az0×az0
abbrev IM3:=IV3×IV3×IV3
def izv:IV3:=(iz,iz,iz)
def zzc (v:Int×Int×Int):IV3:=(ofV v.1,ofV v.2.1,ofV v.2.2)
def az4j:IM3:=((ofV 65536,iz,iz),(iz,ofV 65536,iz),(iz,iz,ofV 65536))
def az3i (a b:IV3):IV3:=(addV a.1 b.1,addV a.2.1 b.2.1,addV a.2.2 b.2.2)
def dotV (r v:IV3):az0:=addV (addV (mulV r.1 v.1) (mulV r.2.1 v.2.1)) (mulV r.2.2 v.2.2)
def Szy (m:IM3)(v:IV3):IV3:=(dotV m.1 v,dotV m.2.1 v,dotV m.2.2 v)
def lim1 (a:az0):az0:=⟨max (-65536) (min a.Lo 65536),max (-65536) (min a.Hi 65536)⟩
def rowV (r:IV3)(b:IM3):IV3:=(lim1 (dotV r (b.1.1,b.2.1.1,b.2.2.1)),lim1 (dotV r (b.1.2.1,b.2.1.2.1,b.2.2.2.1)),lim1 (dotV r (b.1.2.2,b.2.1.2.2,b.2.2.2.2)))
def az5g (a b:IM3):IM3:=(rowV a.1 b,rowV a.2.1 b,rowV a.2.2 b)
def Zzw (axis:Int)(a:az0):IM3:=
 if vV a then(if axis=0 then((ofV 65536,iz,iz),(iz,cosO a,negV (sinO a)),(iz,sinO a,cosO a))else
  if axis=1 then((cosO a,iz,sinO a),(iz,ofV 65536,iz),(negV (sinO a),iz,cosO a))else
  if axis=2 then((cosO a,negV (sinO a),iz),(sinO a,cosO a,iz),(iz,iz,ofV 65536))else(izv,izv,izv))else(izv,izv,izv)
def Lzu (v:IV3):bz2:=⟨az4j,v⟩
def Zz6:bz2:=⟨az4j,izv⟩
def az0b (a b:bz2):bz2:=⟨az5g a.R b.R,az3i a.T (Szy a.R b.T)⟩
def Vzg (p:bz2)(v:IV3):IV3:=az3i p.T (Szy p.R v)
def Lzw (k:Int)(a:az0):IV3:=if k=4 then(a,iz,iz)else if k=5 then(iz,a,iz)else(iz,iz,a)
def Dzu (j:azk)(a:az0):bz2:=
 az0b (Lzu (zzc j.Offset)) (if j.Kind=1\/j.Kind=2\/j.Kind=3 then⟨Zzw (j.Kind-1) a,izv⟩else if j.Kind=4\/j.Kind=5\/j.Kind=6 then Lzu (Lzw j.Kind a)else Zz6)
theorem az8l {a b:Int}(h:a≤b):clV a≤clV b:=by unfold clV;omega
theorem azbq (a:Int): -2147483648≤clV a/\clV a≤2147483648:=by unfold clV;omega
theorem azg2 {a b:Int}(h:a≤b):vV (limV a b)=true:=by
 rw[vV_iff];exact⟨(azbq a).1,az8l h,(azbq b).2⟩
theorem iz_v:vV iz=true:=rfl
theorem of0:ofV 0=iz:=rfl
theorem Vz2 {a b c:Int}(h:a≤b)(hc:0<c):a / c≤cdiv b c:=by
 have h1:=Oz9 (a:=a) hc
 have h2:=Oz9 (a:= -b) hc
 unfold cdiv
 by_cases e:a / c≤ -(-b / c)
 ·exact e
 ·exfalso
  have h3:c * (-(-b / c))<c * (a / c):=Int.mul_lt_mul_of_pos_left (by omega) hc
  rw[Int.mul_neg]at h3
  omega
theorem azg4 (a b:az0):vV (mulV a b)=true:=by
 unfold mulV
 split
 ·rename_i h
  simp only[Bool.and_eq_true]at h
  exact azg2 (Vz2 (az6s h.1 h.2).2.2 (by decide))
 ·exact iz_v
theorem azcw {x:az0}(h:vV x=true):addV iz x=x:=by
 have hv:=h
 rw[vV_iff]at hv
 obtain⟨lo,hi⟩:=x
 simp only at hv
 have e1:clV (0+lo)=lo:=by unfold clV;omega
 have e2:clV (0+hi)=hi:=by unfold clV;omega
 simp only[addV,h,iz_v,Bool.and_self,if_true,limV]
 exact congr (congrArg az0.mk e1) e2
theorem add0 (a b:az0):addV ⟨0,0⟩ (mulV a b)=mulV a b:=azcw (azg4 a b)
theorem nzp (v:Int×Int×Int):(jzc v).o=some (zzc v):=by
 show(uzi v).run NN=_
 simp only[uzi,T.run,T.ix,izn,Option.bind_some,zzc]
theorem ozb (v:Int×Int×Int):(tzo v).o=some (zzc v):=by
 show(Bzm v).run NN=_
 simp only[Bzm,T.run,T.ix,Hzs,Option.bind_some,zzc]
theorem Jzt:matrix_Identity_C.o=some az4j:=by
 show matrix_Identity_T.run NN=_
 simp only[matrix_Identity_T,T.run,T.ix,izn,Option.bind_some,az4j,iz]
theorem Pzv:ref1_Unit_C.o=some az4j:=by
 show ref1_Unit_T.run NN=_
 simp only[ref1_Unit_T,T.run,Hzs,Option.bind_some,az4j,iz]
theorem Lzb (a b:IV3):(Lza a b).o=some (az3i a b):=by
 show(Bz0 a b).run NN=_
 simp only[Bz0,T.run,T.ix,uzc,Option.bind_some,az3i]
theorem Hzr (a b:IV3):(yz5 a b).o=some (az3i a b):=by
 show(yz6 a b).run NN=_
 simp only[yz6,T.run,T.ix,Kz2,Option.bind_some,az3i]
theorem Dzx (m:IM3)(v:IV3):(Dzw m v).o=some (Szy m v):=by
 show(uzh m v).run NN=_
 simp only[uzh,T.run,T.ix,uzc,Dzr,Option.bind_some,add0,Szy,dotV]
theorem Bzh (m:IM3)(v:IV3):(rzs m v).o=some (Szy m v):=by
 show(rzt m v).run NN=_
 simp only[rzt,T.run,T.ix,Kz2,Tzq,Option.bind_some,Szy,dotV]
theorem Mzd (x:Int):(azx x).o=some (max (-65536) (min x 65536)):=by
 show(pz0 x).run NN=_
 simp only[pz0,T.run,Option.some.injEq];omega
set_option maxRecDepth 20000 in
theorem Mzc (a b:IM3):(zz7 a b).o=some (az5g a b):=by
 show(ozz a b).run NN=_
 simp only[ozz,T.run,T.ix,uzc,Dzr,Mzd,Option.bind_some,add0,az5g,rowV,dotV,lim1]
set_option maxRecDepth 20000 in
theorem Kz3 (a b:IM3):(vzy a b).o=some (az5g a b):=by
 show(mzz a b).run NN=_
 simp only[mzz,T.run,T.ix,Kz2,Tzq,Option.bind_some,az5g,rowV,dotV,lim1]
theorem Vzc (k:Int)(a:az0):(Gzu k a).o=some (Zzw k a):=by
 show(xzn k a).run NN=_
 simp only[xzn,T.run,czm,Nzs,Nzt,Dzs,izn,Option.bind_some,Zzw,of0]
 cases h:vV a
 ·rfl
 ·simp only[Bool.not_true,cond_false,if_true]
  by_cases h0:k=0
  ·rw[hzf h0,if_pos h0]
  ·rw[hzg h0,if_neg h0]
   by_cases h1:k=1
   ·rw[hzf h1,if_pos h1]
   ·rw[hzg h1,if_neg h1]
    by_cases h2:k=2
    ·rw[hzf h2,if_pos h2]
    ·rw[hzg h2,if_neg h2];rfl
theorem az1f (k:Int)(a:az0):(Pzu k a).o=some (Zzw k a):=by
 show(Fzi k a).run NN=_
 simp only[Fzi,T.run,gzf,Szc,Szd,Tzr,Hzs,Option.bind_some,Zzw]
 cases h:vV a
 ·rfl
 ·simp only[Bool.not_true,cond_false,if_true]
  by_cases h0:k=0
  ·rw[hzf h0,if_pos h0];rfl
  ·rw[hzg h0,if_neg h0]
   by_cases h1:k=1
   ·rw[hzf h1,if_pos h1];rfl
   ·rw[hzg h1,if_neg h1]
    by_cases h2:k=2
    ·rw[hzf h2,if_pos h2];rfl
    ·rw[hzg h2,if_neg h2];rfl
theorem Lzf:pose_still_C.o=some izv:=by
 show pose_still_T.run NN=_
 simp only[pose_still_T,T.run,nzp,Option.bind_some,zzc,of0,izv]
theorem oz5 (v:IV3):(tzh v).o=some (Lzu v):=by
 show(Bz8 v).run NN=_
 simp only[Bz8,T.run,Jzt,Option.bind_some,Lzu]
theorem Bz7:pose_Identity_C.o=some Zz6:=by
 show pose_Identity_T.run NN=_
 simp only[pose_Identity_T,T.run,Lzf,oz5,Option.bind_some,Lzu,Zz6]
theorem az19 (k:Int)(a:az0):(Pzn k a).o=some ⟨Zzw k a,izv⟩:=by
 show(Fz8 k a).run NN=_
 simp only[Fz8,T.run,Vzc,Lzf,Option.bind_some]
theorem nzs (a b:bz2):(jzf a b).o=some (az0b a b):=by
 show(uzm a b).run NN=_
 have h1:(tzi a).o=(oz6 a).run NN:=rfl
 simp only[uzm,T.run,h1,oz6,Option.bind_some,Mzc]
 refine Eq.trans (congrArg (fun o=>Option.bind o _) (show(nzt _ _ _ _ _ _ _ _ _ _ _ _ _ _ _ _ _ _ _ _ _ _ _ _ _).o=(jzg _ _ _ _ _ _ _ _ _ _ _ _ _ _ _ _ _ _ _ _ _ _ _ _ _).run NN from rfl)) ?_
 simp only[jzg,T.run,Dzx,Lzb,Option.bind_some];rfl
theorem Lze (a:bz2)(v:IV3):(Bz5 a v).o=some (Vzg a v):=by
 show(Bz6 a v).run NN=_
 have h1:(tzi a).o=(oz6 a).run NN:=rfl
 simp only[Bz6,T.run,h1,oz6,Option.bind_some]
 refine Eq.trans (congrArg (fun o=>Option.bind o _) (show(nzt _ _ _ _ _ _ _ _ _ _ _ _ _ _ _ _ _ _ _ _ _ _ _ _ _).o=(jzg _ _ _ _ _ _ _ _ _ _ _ _ _ _ _ _ _ _ _ _ _ _ _ _ _).run NN from rfl)) ?_
 simp only[jzg,T.run,Dzx,Lzb,Option.bind_some];rfl
theorem Pzs:ref1_Rest_C.o=some Zz6:=by
 show ref1_Rest_T.run NN=_
 simp only[ref1_Rest_T,T.run,Pzv,Option.bind_some];rfl
theorem Bzp (v:IV3):(Bzn v).o=some (Lzu v):=by
 show(Bzo v).run NN=_
 simp only[Bzo,T.run,Pzv,Option.bind_some,Lzu]
theorem Pzt (k:Int)(a:az0):(Bzq k a).o=some ⟨Zzw k a,izv⟩:=by
 show(rzv k a).run NN=_
 simp only[rzv,T.run,az1f,Option.bind_some];rfl
theorem nzv (a b:bz2):(uzt a b).o=some (az0b a b):=by
 show(uzu a b).run NN=_
 simp only[uzu,T.run,Kz3,Bzh,Hzr,Option.bind_some,az0b]
theorem Lzk (a:bz2)(v:IV3):(Bzi a v).o=some (Vzg a v):=by
 show(Bzj a v).run NN=_
 simp only[Bzj,T.run,Bzh,Hzr,Option.bind_some,Vzg]
theorem az05 (k:Int)(a:az0):(Nzw k a).o=some ⟨Zzw k a,izv⟩:=by
 show(Ezo k a).run NN=_
 simp only[Ezo,T.run,az19,Option.bind_some]
theorem az04 (k:Int)(a:az0):(Nzv k a).o=some Zz6:=by
 show(Ezn k a).run NN=_
 simp only[Ezn,T.run,Bz7,Option.bind_some]
theorem Xz4 {k:Int}(a:az0)(h:k=4\/k=5\/k=6):(Kzy (k-4) a).o=some (Lzu (Lzw k a)):=by
 show(zzx (k-4) a).run NN=_
 simp only[zzx,T.run,T.ix]
 rcases h with rfl|rfl|rfl
 ·simp only[show((4-4:Int)==0)=true from rfl,cond_true,az8,oz5];rfl
 ·simp only[show((5-4:Int)==0)=false from rfl,show((5-4:Int)==1)=true from rfl,cond_true,cond_false,az8,oz5];rfl
 ·simp only[show((6-4:Int)==0)=false from rfl,show((6-4:Int)==1)=false from rfl,show((6-4:Int)==2)=true from rfl,cond_true,cond_false,az8,oz5];rfl
theorem az40 (k a b c:Int){R:Type}:(bif k==a then some (.out (k==a))else bif k==b then some (.out (k==b))else some (.out (k==c)):Option (Step3 Unit Bool R))=some (.out (decide (k=a\/k=b\/k=c))):=by
 by_cases h1:k=a
 ·rw[hzf h1];simp[h1]
 ·rw[hzg h1]
  by_cases h2:k=b
  ·rw[hzf h2];simp[h2]
  ·rw[hzg h2];simp[h1,h2,Bool.beq_eq_decide_eq]
theorem mo0 (k:Int):(gz1 k).o=if k=1\/k=2\/k=3 then some (k-1)else none:=by
 show(gz2 k).run NN=_
 simp only[gz2,T.run,az40,az8]
 by_cases h:k=1\/k=2\/k=3
 ·rw[az5 h,if_pos h,w64 (by omega) (by omega)]
 ·rw[az3 h,if_neg h];cases decide (k=4\/k=5\/k=6)<;>rfl
theorem mo1 (k:Int)(h:¬ (k=1\/k=2\/k=3)):(gz3 k).o=if k=4\/k=5\/k=6 then some (k-4)else none:=by
 show(gz4 k).run NN=_
 simp only[gz4,T.run,az40,az8]
 rw[az3 h]
 by_cases h:k=4\/k=5\/k=6
 ·rw[az5 h,if_pos h,w64 (by omega) (by omega)]
 ·rw[az3 h,if_neg h]
theorem mo2 (k:Int)(h:¬ (k=1\/k=2\/k=3))(h':¬ (k=4\/k=5\/k=6)):(kzi k).o=some 0:=by
 show(gz5 k).run NN=_
 simp only[gz5,T.run,az40,az8]
 rw[az3 h,az3 h']
theorem Gzo (j:azk)(a:az0):(tz7 j a).o=some (Dzu j a):=by
 show(lz4 j a).run NN=_
 simp only[lz4,T.run,nzp,oz5,Option.bind_some,mo0,Dzu]
 by_cases h:j.Kind=1\/j.Kind=2\/j.Kind=3
 ·simp only[if_pos h,Option.isSome_some,cond_true,Option.bind_some,az05,nzs]
 ·simp only[if_neg h,Option.isSome_none,cond_false,mo1 _ h]
  by_cases h':j.Kind=4\/j.Kind=5\/j.Kind=6
  ·simp only[if_pos h',Option.isSome_some,cond_true,Option.bind_some,Xz4 a h',nzs]
  ·simp only[if_neg h',Option.isSome_none,cond_false,mo2 _ h h',Option.bind_some,az04,nzs]
theorem azgj (k:Int)(a:az0){R:Type}(h:k=4\/k=5\/k=6):(bif IntKind.i64.wrap (k-4)==0 then some (.out (a.Lo,a.Hi,0,0,0,0))else bif IntKind.i64.wrap (k-4)==1 then some (.out (0,0,a.Lo,a.Hi,0,0))else
 bif IntKind.i64.wrap (k-4)==2 then some (.out (0,0,0,0,a.Lo,a.Hi))else none:Option (Step3 Unit (Int×Int×Int×Int×Int×Int) R))=some (.out ((Lzw k a).1.Lo,(Lzw k a).1.Hi,(Lzw k a).2.1.Lo,(Lzw k a).2.1.Hi,(Lzw k a).2.2.Lo,(Lzw k a).2.2.Hi)):=by
 rw[w64 (by omega) (by omega)]
 rcases h with rfl|rfl|rfl<;>rfl
theorem Vzs (j:azk)(a:az0):(Hzj j a).o=some (Dzu j a):=by
 show(xzv j a).run NN=_
 simp only[xzv,T.run,T.ix,Pzs,Option.bind_some,az40,az8,Dzu]
 by_cases h:j.Kind=1\/j.Kind=2\/j.Kind=3
 ·simp only[az5 h,if_pos h,Pzt,Option.bind_some,az8,ozb,Bzp,nzv]
  rw[w64 (by omega) (by omega)]
 ·simp only[az3 h,if_neg h]
  by_cases h':j.Kind=4\/j.Kind=5\/j.Kind=6
  ·simp only[az5 h',if_pos h',azgj _ _ h',az8,ozb,Bzp,nzv,Option.bind_some]
  ·simp only[az3 h',if_neg h',az8,ozb,Bzp,nzv,Option.bind_some]
theorem dzu {R:Type}{f:Int->Option (Step3 Int U0 R)}{k:U0->Option R}(g:Nat->Option R)(n:Nat)(hn:n<4294967296)
 (hs:∀j,j<n->f (j:Int)=match g j with|some r=>some (.fin r)|none=>some (.next ((j+1:Nat):Int))) (he:f (n:Int)=some (.out .u)):
 andK (iter f NN 0) k=match scan g n 0 with|some r=>some r|none=>k .u:=iz5 (fun j=>(j:Int)) g .u n rfl hn hs he
theorem wn {n:Nat}(h:n<4294967296):IntKind.i64.wrap ((n:Int)+1)=((n+1:Nat):Int):=w64n (by omega)
def sw {R:Type}(b:Bool)(r:R):Option R:=bif b then some r else none
theorem czc {σ τ R:Type}{b:Bool}{r:R}{x:σ}:(bif b then some (.fin r)else some (.next x):Option (Step3 σ τ R))=match sw b r with|some r=>some (.fin r)|none=>some (.next x):=by cases b<;>rfl
def azz (g:Nat->Bool)(n:Nat):Bool:=decide (∀i,i<n->g i=false)
theorem bzh {R:Type}{g:Nat->Bool}{n:Nat}{r:R}:scan (fun i=>sw (g i) r) n 0=sw (!azz g n) r:=by
 cases h:scan (fun i=>sw (g i) r) n 0 with
 |none=>
  rw[izc]at h
  have:azz g n=true:=decide_eq_true fun i hi=>by
   have:=h i (Nat.zero_le _) (by omega)
   unfold sw at this
   cases hg:g i with
   |true=>rw[hg]at this;cases this
   |false=>rfl
  rw[this];rfl
 |some x=>
  obtain⟨j,h1,h2,h3,-⟩:=jzo _ _ h
  have:azz g n=false:=decide_eq_false fun hn=>by
   have:=hn j (by omega)
   simp only[this,sw,cond_false]at h3;cases h3
  rw[this]
  unfold sw at h3⊢
  cases hg:g j with
  |true=>rw[hg]at h3;simpa using h3.symm
  |false=>rw[hg]at h3;cases h3
theorem noneB_iff {g:Nat->Bool}{n:Nat}:azz g n=true↔∀i,i<n->g i=false:=by simp[azz]
theorem Pz9 {g g':Nat->Bool}{n:Nat}(h:∀i,i<n->g i=g' i):azz g n=azz g' n:=by
 unfold azz;congr 1;apply propext;exact⟨fun a i hi=>(h i hi)▸a i hi,fun a i hi=>(h i hi).symm▸a i hi⟩
theorem azc2 (s:ByteArray)(i:Nat):s.get! i=s.data.getD i 0:=by
 cases s with|mk d=>simp only[ByteArray.get!];rw[getElem!_def,Array.getD_eq_getD_getElem?];cases d[i]?<;>rfl
def Lzz (s:ByteArray)(i:Nat):Nat:=(s.data.getD i 0).toNat
theorem azbx {s:ByteArray}{i:Nat}(h:Lzz s i<128):Utf8.decode s i=(Lzz s i,1):=by
 rw[Lib.decode_at,azc2];exact if_pos h
theorem azfl {s:ByteArray}{i:Nat}(h:128≤Lzz s i):128≤(Utf8.decode s i).1:=by
 rw[Lib.decode_at,azc2]
 unfold Lib.decodeN
 rw[if_neg (by unfold Lzz at h;omega)]
 repeat' split
 all_goals(simp only;omega)
def badN (s:ByteArray)(i:Nat):Bool:=decide (¬ (97≤Lzz s i/\Lzz s i≤122)/\(i=0\/(Lzz s i≠95/\¬ (48≤Lzz s i/\Lzz s i≤57))))
def Dz7 (s:ByteArray):Bool:= !(decide (s.size=0)||(decide (16<s.size)||(s==⟨#[119,111,114,108,100]⟩)))&&azz (badN s) s.size
theorem Qz2 (s:ByteArray):(Fzn s).o=some (Dz7 s):=by
 show(Fzo s).run NN=_
 simp only[Fzo,T.run,azp,az8,Dz7,cz5]
 have e1:decide ((s.size:Int)<1)=decide (s.size=0):=by congr 1;apply propext;omega
 have e2:decide ((s.size:Int)>16)=decide (16<s.size):=by congr 1;apply propext;omega
 rw[e1,e2]
 cases h:(decide (s.size=0)||(decide (16<s.size)||(s==⟨#[119,111,114,108,100]⟩)))
 ·simp only[Bool.or_eq_false_iff,decide_eq_false_iff_not]at h
  rw[cond_false]
  refine(dzu (fun i=>sw (badN s i) false) s.size (by omega) (fun j hj=>?_) ?_).trans ?_
  ·rw[az5 (by omega),←czc,wn (by omega)]
   simp only[Int.toNat_natCast,az9 (show 0≤(j:Int)/\(j:Int)<(s.size:Int) by omega),azp,az8]
   refine congrArg (fun b=>bif b then some (Step3.fin false)else some (Step3.next ((j+1:Nat):Int))) ?_
   rw[Bool.eq_iff_iff]
   simp only[cz5,jz8,badN,Bool.and_eq_true,Bool.or_eq_true,Bool.not_eq_true',Bool.and_eq_false_iff,Bool.or_eq_false_iff,decide_eq_true_eq,decide_eq_false_iff_not,beq_iff_eq,bne_iff_ne,ne_eq]
   unfold Lzz
   omega
  ·rw[az3 (by omega)]
  ·rw[bzh]
   cases azz (badN s) s.size<;>rfl
 ·rfl
theorem Nzc (a:Int):(zzl a).o=some (decide (97≤a)&&decide (a≤122)):=by
 show(pzv a).run NN=_
 simp only[pzv,T.run,czq,jz8]
theorem Rz1 (a:Int):(Czl a).o=some (decide (48≤a)&&decide (a≤57)):=by
 show(szn a).run NN=_
 simp only[szn,T.run,czq,jz8]
theorem Lzy (s:ByteArray):(Czj s).o=some (Dz7 s):=by
 show(Czk s).run NN=_
 simp only[Czk,T.run,azp,az8,Dz7,cz5]
 have e1:((s.size:Int)==0)=decide (s.size=0):=by rw[Bool.eq_iff_iff];simp
 have e2:decide ((s.size:Int)>16)=decide (16<s.size):=by congr 1;apply propext;omega
 rw[e1,e2]
 cases h:(decide (s.size=0)||(decide (16<s.size)||(s==⟨#[119,111,114,108,100]⟩)))
 ·simp only[Bool.or_eq_false_iff,decide_eq_false_iff_not]at h
  rw[cond_false]
  refine(iz5 (fun j=>j) (fun i=>sw (badN s i) false) .u s.size rfl (show s.size<4294967296 by omega) (fun j hj=>?_) ?_).trans ?_
  ·rw[az5 hj]
   simp only[Nzc,Rz1,Option.bind_some,azp,az8]
   have key:(bif !(decide (97≤((Utf8.decode s j).1:Int))&&decide (((Utf8.decode s j).1:Int)≤122))then bif ((j:Int)==0)then true else
    bif !(decide (48≤((Utf8.decode s j).1:Int))&&decide (((Utf8.decode s j).1:Int)≤57))then((Utf8.decode s j).1:Int) !=95 else false else false)=badN s j:=by
    by_cases hb:Lzz s j<128
    ·rw[azbx hb,Bool.eq_iff_iff]
     simp only[cz5,jz8,badN,Bool.and_eq_true,Bool.or_eq_true,Bool.not_eq_true',Bool.and_eq_false_iff,Bool.or_eq_false_iff,decide_eq_true_eq,decide_eq_false_iff_not,beq_iff_eq,bne_iff_ne,ne_eq]
     omega
    ·have:=azfl (s:=s) (i:=j) (by omega)
     rw[Bool.eq_iff_iff]
     simp only[cz5,jz8,badN,Bool.and_eq_true,Bool.or_eq_true,Bool.not_eq_true',Bool.and_eq_false_iff,Bool.or_eq_false_iff,decide_eq_true_eq,decide_eq_false_iff_not,beq_iff_eq,bne_iff_ne,ne_eq]
     omega
   rw[key]
   cases hbad:badN s j
   ·have:Lzz s j<128:=by
     simp only[badN,decide_eq_false_iff_not]at hbad
     omega
    rw[azbx this];rfl
   ·rfl
  ·rw[az3 (by omega)]
  ·rw[bzh]
   cases azz (badN s) s.size<;>rfl
 ·rfl
def Gzh (l:List azk)(nm:ByteArray)(i:Nat):Bool:=(l.getD i default).Name==nm
theorem Zz7 (r:azn)(nm:ByteArray)(h:r.Joints.length<4294967296):(Lzs r nm).o=some (match scan (fun i=>sw (Gzh r.Joints nm i) (i:Int)) r.Joints.length 0 with|some x=>x|none=> -1):=by
 show(Cz5 r nm).run NN=_
 simp only[Cz5,T.run]
 refine(dzu (fun i=>sw (Gzh r.Joints nm i) (i:Int)) r.Joints.length h (fun j hj=>?_) ?_).trans ?_
 ·rw[az5 (by omega),az9 (by omega),wn (by omega),Int.toNat_natCast,←czc];rfl
 ·rw[az3 (by omega)]
 ·cases scan (fun i=>sw (Gzh r.Joints nm i) (i:Int)) r.Joints.length 0<;>rfl
theorem azcz (b:ByteArray):(b==b)=true:=by
 obtain⟨d⟩:=b
 show(d==d)=true
 exact beq_self_eq_true d
theorem azdd {l:List azk}{i:Nat}(hi:i<l.length):((match scan (fun k=>sw (Gzh l (l.getD i default).Name k) (k:Int)) l.length 0 with|some x=>x|none=> -1) !=(i:Int))= !azz (Gzh l (l.getD i default).Name) i:=by
 have hself:Gzh l (l.getD i default).Name i=true:=azcz _
 cases h:scan (fun k=>sw (Gzh l (l.getD i default).Name k) (k:Int)) l.length 0 with
 |none=>
  rw[izc]at h
  have:=h i (Nat.zero_le _) (by omega)
  simp only[hself,sw,cond_true]at this;cases this
 |some x=>
  obtain⟨j,h1,h2,h3,h4⟩:=jzo _ _ h
  have hj:Gzh l (l.getD i default).Name j=true/\x=(j:Int):=by
   cases hb:Gzh l (l.getD i default).Name j with
   |false=>simp only[hb,sw,cond_false]at h3;cases h3
   |true=>simp only[hb,sw,cond_true,Option.some.injEq]at h3;exact⟨rfl,h3.symm⟩
  have hji:j≤i:=by
   by_cases e:j≤i
   ·exact e
   ·have:=h4 i (Nat.zero_le _) (by omega)
    simp only[hself,sw,cond_true]at this;cases this
  simp only[hj.2]
  rw[Bool.eq_iff_iff]
  rw[bne_iff_ne,Bool.not_eq_true',←Bool.not_eq_true]
  constructor
  ·intro hne hall
   have:=noneB_iff.1 hall j (by omega)
   rw[hj.1]at this;cases this
  ·intro hn e
   apply hn
   rw[noneB_iff]
   intro k hk
   have:=h4 k (Nat.zero_le _) (by omega)
   cases hb:Gzh l (l.getD i default).Name k with
   |false=>rfl
   |true=>simp only[hb,sw,cond_true]at this;cases this
def fzp (v:Int×Int×Int)(m:Int):Bool:=decide (-m≤v.1)&&(decide (v.1≤m)&&(decide (-m≤v.2.1)&&(decide (v.2.1≤m)&&(decide (-m≤v.2.2)&&decide (v.2.2≤m)))))
theorem nearV_iff {v:Int×Int×Int}{m:Int}:fzp v m=true↔(-m≤v.1/\v.1≤m)/\(-m≤v.2.1/\v.2.1≤m)/\(-m≤v.2.2/\v.2.2≤m):=by
 simp only[fzp,Bool.and_eq_true,decide_eq_true_eq,and_assoc]
theorem ezg (v:Int×Int×Int){m:Int}(h0:0≤m)(h1:m≤9223372036854775807):(dzt v m).o=some (fzp v m):=by
 show(Fzp v m).run NN=_
 simp only[Fzp,T.run,T.ix,azp,az8]
 simp only[czq]
 rw[w64 (x:=0-m) (by omega) (by omega)]
 congr 1
 rw[Bool.eq_iff_iff,nearV_iff]
 simp only[cz5]
 cases h1:decide (v.1<0-m)||decide (v.1>m)<;>cases h2:decide (v.2.1<0-m)||decide (v.2.1>m)<;>cases h3:decide (v.2.2<0-m)||decide (v.2.2>m)<;>
  simp only[Bool.or_eq_true,Bool.or_eq_false_iff,decide_eq_true_eq,decide_eq_false_iff_not]at h1 h2 h3<;>simp only[cond_true,cond_false,true_iff,false_iff,reduceCtorEq]<;>omega
def bey (x:Int):Bool:=decide (x< -4194304)||decide (x>4194304)
theorem Ezf (v:Int×Int×Int):(vz7 v).o=some (!fzp v 4194304):=by
 show(vz8 v).run NN=_
 simp only[vz8,T.run,azp,az8,cz5]
 refine(dzu (fun i=>sw (bey (([v.1,v.2.1,v.2.2]:List Int).getD i 0)) true) 3 (by decide) (fun j hj=>?_) ?_).trans ?_
 ·rw[az5 (by omega),az9 (by omega),wn (by omega),Int.toNat_natCast,←czc];rfl
 ·rw[az3 (by omega)]
 ·rw[bzh]
  have:azz (fun i=>bey (([v.1,v.2.1,v.2.2]:List Int).getD i 0)) 3=fzp v 4194304:=by
   rw[Bool.eq_iff_iff,noneB_iff,nearV_iff]
   constructor
   ·intro h
    have a:=h 0 (by decide);have b:=h 1 (by decide);have c:=h 2 (by decide)
    simp only[bey,List.getD_cons_zero,List.getD_cons_succ,Bool.or_eq_false_iff,decide_eq_false_iff_not]at a b c
    omega
   ·intro h i hi
    match i,hi with
    |0,_=>simp only[bey,List.getD_cons_zero,Bool.or_eq_false_iff,decide_eq_false_iff_not];omega
    |1,_=>simp only[bey,List.getD_cons_zero,List.getD_cons_succ,Bool.or_eq_false_iff,decide_eq_false_iff_not];omega
    |2,_=>simp only[bey,List.getD_cons_zero,List.getD_cons_succ,Bool.or_eq_false_iff,decide_eq_false_iff_not];omega
  rw[this];cases fzp v 4194304<;>rfl
def oz7 (k:Int):Int:=if k=0 then 0 else if k=1\/k=2\/k=3 then 524288 else 4194304
theorem Wz6 {k:Int}(h0:0≤k)(h1:k≤6):(Iz5 k).o=some (oz7 k):=by
 show(yzm k).run NN=_
 simp only[yzm,T.run,az40,az8,oz7]
 by_cases h:k=1\/k=2\/k=3
 ·rw[az5 h,if_neg (by omega),if_pos h]
 ·rw[az3 h]
  by_cases h':k=4\/k=5\/k=6
  ·rw[az5 h',if_neg (by omega),if_neg h]
  ·rw[az3 h',if_pos (by omega)]
theorem Zz5 (k:Int):(Lzq k).o=some (oz7 k):=by
 show(Cz0 k).run NN=_
 simp only[Cz0,T.run,az40,az8,oz7]
 by_cases h0:k=0
 ·rw[hzf h0,if_pos h0]
 ·rw[hzg h0,if_neg h0]
  by_cases h:k=1\/k=2\/k=3
  ·rw[az5 h,if_pos h]
  ·rw[az3 h,if_neg h]
def betV (x a b:Int):Bool:=decide (a≤x)&&decide (x≤b)
theorem Iz4 (x m:Int):(izs x m).o=some (betV x 1 m):=by
 show(yzl x m).run NN=_
 simp only[yzl,T.run,czq,jz8,betV]
theorem vz6 (x a b:Int):(fzq x a b).o=some (betV x a b):=by
 show(vz5 x a b).run NN=_
 simp only[vz5,T.run,czq,jz8,betV]
def az8n (j:azk):Bool:=betV j.Weight 1 1024&&(betV j.Speed 1 1048576&&(betV j.Accel 1 1048576&&betV j.Torque 1 1099511627776))
def zz4 (l:List azk)(i:Nat):Int:=
 let j:=l.getD i default
 if !Dz7 j.Name|| !azz (Gzh l j.Name) i then 802 else if decide (j.Kind<0)||decide (j.Kind>6)then 803 else if decide (j.Parent< -1)||decide (j.Parent≥(i:Int))then 804 else if !fzp j.Offset 4194304 then 805 else
 if decide (j.Lo>j.Hi)||(decide (j.Lo< -oz7 j.Kind)||decide (j.Hi>oz7 j.Kind))then 806 else if !az8n j then 807 else 0
theorem azfg:∀a b c d:Bool,(bif !a||(!b||(!c|| !d))then some (807:Int)else some 0)=some (if(!(a&&(b&&(c&&d))))=true then 807 else 0):=by decide
theorem az34 (k:Int):0≤oz7 k/\oz7 k≤4194304:=by unfold oz7;split<;>(try split)<;>omega
theorem Yzd (k:Int):IntKind.i64.wrap (0-oz7 k)= -oz7 k:=by
 have:=az34 k;rw[w64 (by omega) (by omega)];omega
theorem Iz3 (r:azn){i:Nat}(hi:i<r.Joints.length)(h:r.Joints.length<4294967296):(tzq r (i:Int)).o=some (zz4 r.Joints i):=by
 show(lzy r (i:Int)).run NN=_
 simp only[lzy,T.run]
 rw[az9 (by omega),Int.toNat_natCast]
 simp only[Lzy,Zz7 r _ h,Ezf,Iz4,Option.bind_some,azp,az8,zz4]
 rw[azdd hi]
 generalize r.Joints.getD i default=j
 cases h1:Dz7 j.Name
 ·rfl
 ·cases h2:azz (Gzh r.Joints j.Name) i
  ·rfl
  ·simp only[Bool.not_true,cond_false,Bool.or_self,if_neg Bool.false_ne_true]
   by_cases h3:j.Kind<0
   ·rw[decide_eq_true h3];rfl
   ·by_cases h4:j.Kind>6
    ·rw[decide_eq_true h4,decide_eq_false h3];rfl
    ·simp only[decide_eq_false h3,decide_eq_false h4,cond_false,Bool.or_self,if_neg Bool.false_ne_true,Wz6 (show 0≤j.Kind by omega) (by omega),Option.bind_some,Yzd,azp,az8,cz5]
     cases decide (j.Parent< -1)||decide (j.Parent≥(i:Int))
     ·cases fzp j.Offset 4194304
      ·rfl
      ·simp only[Bool.not_true,cond_false,if_neg Bool.false_ne_true]
       cases decide (j.Lo>j.Hi)||(decide (j.Lo< -oz7 j.Kind)||decide (j.Hi>oz7 j.Kind))
       ·simp only[cond_false,if_neg Bool.false_ne_true,az8n]
        exact azfg _ _ _ _
       ·rfl
     ·rfl
theorem Kzc (l:List azk){i:Nat}(hi:i<l.length)(h:l.length<4294967296):(vzz l (i:Int)).o=some (zz4 l i):=by
 show(nz6 l (i:Int)).run NN=_
 simp only[nz6,T.run]
 rw[az9 (by omega),Int.toNat_natCast]
 simp only[Qz2,Option.bind_some,zz4]
 cases h1:Dz7 (l.getD i default).Name
 ·rfl
 ·simp only[Bool.not_true,cond_false,Bool.false_or]
  refine(dzu (fun k=>sw (Gzh l (l.getD i default).Name k) 802) i (by omega) (fun j hj=>?_) ?_).trans ?_
  ·rw[az5 (by omega),az9 (by omega),wn (by omega),Int.toNat_natCast,←czc];rfl
  ·rw[az3 (by omega)]
  ·rw[bzh]
   generalize l.getD i default=j
   cases h2:azz (Gzh l j.Name) i
   ·rfl
   ·simp only[Bool.not_true,sw,cond_false,if_neg Bool.false_ne_true,ezg _ (show(0:Int)≤4194304 by decide) (by decide),Zz5,vz6,Option.bind_some,Yzd,azp,az8,cz5]
    cases decide (j.Kind<0)||decide (j.Kind>6)
    ·cases decide (j.Parent< -1)||decide (j.Parent≥(i:Int))
     ·cases fzp j.Offset 4194304
      ·rfl
      ·simp only[Bool.not_true,cond_false,if_neg Bool.false_ne_true]
       cases decide (j.Lo>j.Hi)||(decide (j.Lo< -oz7 j.Kind)||decide (j.Hi>oz7 j.Kind))
       ·simp only[cond_false,if_neg Bool.false_ne_true,az8n]
        exact azfg _ _ _ _
       ·rfl
     ·rfl
    ·rfl
def tab {α:Type}(f:Nat->α)(n:Nat):List α:=(List.range n).map f
theorem gzm {α:Type}(f:Nat->α)(n:Nat):tab f (n+1)=tab f n++[f n]:=by simp[tab,List.range_succ]
theorem dz1 {α:Type}(f:Nat->α)(n:Nat):(tab f n).length=n:=by simp[tab]
theorem pzq {α:Type}{f:Nat->α}{n i:Nat}{d:α}(h:i<n):(tab f n).getD i d=f i:=by simp[tab,List.getD_eq_getElem?_getD,h]
def half {α:Type}(f:Nat->α)(z:α)(n j:Nat):List α:=tab f j++List.replicate (n-j) z
theorem tz6 {α:Type}{f:Nat->α}{z:α}{n j:Nat}(h:j≤n):(half f z n j).length=n:=by simp[half,dz1];omega
theorem nzm {α:Type}{f:Nat->α}{z:α}{n j:Nat}(h:j<n):(half f z n j).set j (f j)=half f z n (j+1):=by
 unfold half
 rw[List.set_append_right _ _ (by rw[dz1];omega),dz1,Nat.sub_self]
 obtain⟨m,hm⟩:∃m,n-j=m+1:=⟨n-j-1,by omega⟩
 rw[hm,List.replicate_succ,List.set_cons_zero,gzm,show n- (j+1)=m by omega];simp
theorem rzg {α:Type}(f:Nat->α)(z:α)(n:Nat):half f z n 0=List.replicate n z:=by simp[half,tab]
theorem xzb {α:Type}(f:Nat->α)(z:α)(n:Nat):half f z n n=tab f n:=by simp[half]
def az42 (n:Nat)(m:bz5):Bool:=(decide (0≤m.Link)&&decide (m.Link<(n:Int)))&&(betV m.Mass 1 65536&&fzp m.Point 4194304)
theorem Kzg (r:azn)(m:bz5):(wz2 r m).o=some (az42 r.Joints.length m):=by
 show(nz8 r m).run NN=_
 simp only[nz8,T.run,Iz4,Ezf,Option.bind_some,az42]
 cases decide (0≤m.Link)<;>cases decide (m.Link<(r.Joints.length:Int))<;>cases betV m.Mass 1 65536<;>cases fzp m.Point 4194304<;>rfl
def badM (n:Nat)(l:List bz5)(i:Nat):Bool:= !az42 n (l.getD i default)
theorem azdl (l:List bz5)(js:List azk)(ms:List bz5)(h:l.length<4294967296):(ezv l js ms).o=some (match scan (fun i=>sw (badM js.length l i) (i:Int)) l.length 0 with|some x=>x|none=> -1,js,ms):=by
 show(czy l js ms).run NN=_
 simp only[czy,T.run]
 have e1:∀m,(Cz4 m js ms).o=some (!az42 js.length m,js,ms):=fun m=>by
  show(sz1 m js ms).run NN=_
  simp only[sz1,T.run,Kzg,Option.bind_some]
 refine(iz5 (fun j=>(js,ms,(j:Int))) (fun i=>sw (badM js.length l i) ((i:Int),js,ms)) (js,ms) l.length rfl h (fun j hj=>?_) ?_).trans ?_
 ·rw[az5 (by simpa using hj),az9 ⟨by simp,by simpa using hj⟩]
  simp only[e1,Option.bind_some,Int.toNat_natCast]
  rw[wn (by omega)];unfold badM;cases az42 js.length (l.getD j default)<;>rfl
 ·rw[az3 (by simp)]
 ·have:∀n i,scan (fun i=>sw (badM js.length l i) ((i:Int),js,ms)) n i=(scan (fun i=>sw (badM js.length l i) (i:Int)) n i).map fun x=>(x,js,ms):=by
   intro n
   induction n with
   |zero=>intro i;rfl
   |succ n ih=>
    intro i;simp only[scan]
    cases badM js.length l i with
    |true=>rfl
    |false=>exact ih (i+1)
  rw[this]
  cases scan (fun i=>sw (badM js.length l i) (i:Int)) l.length 0<;>rfl
theorem Fzu {g:Nat->Bool}{n:Nat}:decide ((match scan (fun i=>sw (g i) (i:Int)) n 0 with|some x=>x|none=> -1)≥0)= !azz g n:=by
 cases h:scan (fun i=>sw (g i) (i:Int)) n 0 with
 |none=>
  rw[izc]at h
  have:azz g n=true:=noneB_iff.2 fun i hi=>by
   have:=h i (Nat.zero_le _) (by omega)
   cases hg:g i with
   |true=>rw[hg]at this;cases this
   |false=>rfl
  rw[this];rfl
 |some x=>
  obtain⟨j,h1,h2,h3,-⟩:=jzo _ _ h
  cases hg:g j with
  |false=>rw[hg]at h3;cases h3
  |true=>
   rw[hg]at h3;simp only[sw,cond_true,Option.some.injEq]at h3
   have:azz g n=false:=by
    cases hn:azz g n with
    |false=>rfl
    |true=>have:=noneB_iff.1 hn j (by omega);rw[hg]at this;cases this
   rw[this,←h3];simp
theorem azd1 (l:List bz5)(js:List azk)(ms:List bz5)(h:l.length<4294967296):(ez7 l js ms).o=some (!azz (badM js.length l) l.length,js,ms):=by
 show(czj l js ms).run NN=_
 simp only[czj,T.run,azdl l js ms h,Option.bind_some]
 rw[Fzu]
def errJ (l:List azk)(i:Nat):Option Int:=sw (zz4 l i !=0) (zz4 l i)
def hzn (r:azn):Int:=
 if r.Joints.length=0\/10<r.Joints.length then 801 else match scan (errJ r.Joints) r.Joints.length 0 with
  |some e=>e
  |none=>if 32<r.Masses.length\/azz (badM r.Joints.length r.Masses) r.Masses.length=false then 808 else 0
theorem yzk (r:azn):(ezp r).o=some (hzn r):=by
 show(yzj r).run NN=_
 simp only[yzj,T.run,azp,az8,hzn]
 by_cases h:r.Joints.length=0\/10<r.Joints.length
 ·rw[if_pos h]
  rcases h with h|h
  ·rw[hzf (by omega)];rfl
  ·rw[hzg (by omega),az5 (by omega)]
 ·rw[if_neg h,hzg (by omega),az3 (by omega)]
  refine(dzu (errJ r.Joints) r.Joints.length (by omega) (fun j hj=>?_) ?_).trans ?_
  ·rw[az5 (by omega)]
   simp only[Iz3 ⟨r.Joints,r.Masses⟩ hj (show r.Joints.length<4294967296 by omega),Option.bind_some]
   rw[wn (by omega),czc];rfl
  ·rw[az3 (by omega)]
  ·cases scan (errJ r.Joints) r.Joints.length 0 with
   |some e=>rfl
   |none=>
    simp only
    by_cases hm:32<r.Masses.length
    ·rw[az5 (by omega),if_pos (Or.inl hm)];rfl
    ·rw[az3 (by omega),azd1 _ _ _ (by omega)]
     cases hn:azz (badM r.Joints.length r.Masses) r.Masses.length
     ·rw[if_pos (Or.inr rfl)];rfl
     ·rw[if_neg (by simp;omega)];rfl
theorem ezy (r:azn):(dzs r).o=some (hzn r):=by
 show(nz4 r).run NN=_
 simp only[nz4,T.run,azp,az8,hzn]
 by_cases h:r.Joints.length=0\/10<r.Joints.length
 ·rw[if_pos h]
  rcases h with h|h
  ·rw[az5 (by omega)];rfl
  ·rw[az3 (by omega),az5 (by omega)]
 ·rw[if_neg h,az3 (by omega),az3 (by omega)]
  refine(dzu (errJ r.Joints) r.Joints.length (by omega) (fun j hj=>?_) ?_).trans ?_
  ·rw[az5 (by omega)]
   simp only[Kzc r.Joints hj (show r.Joints.length<4294967296 by omega),Option.bind_some]
   rw[wn (by omega),czc];rfl
  ·rw[az3 (by omega)]
  ·cases scan (errJ r.Joints) r.Joints.length 0 with
   |some e=>rfl
   |none=>
    simp only
    by_cases hm:32<r.Masses.length
    ·rw[az5 (by omega),if_pos (Or.inl hm)]
    ·rw[az3 (by omega)]
     refine(dzu (fun i=>sw (badM r.Joints.length r.Masses i) 808) r.Masses.length (by omega) (fun j hj=>?_) ?_).trans ?_
     ·rw[az5 (by omega),az9 (by omega),wn (by omega),Int.toNat_natCast,←czc]
      simp only[vz6,ezg _ (show(0:Int)≤4194304 by decide) (by decide),Option.bind_some,azp,az8]
      refine congrArg (fun b=>bif b then some (Step3.fin 808)else some (Step3.next ((j+1:Nat):Int))) ?_
      unfold badM az42
      generalize r.Masses.getD j default=m
      have e1:decide (m.Link<0)= !decide (0≤m.Link):=by rw[Bool.eq_iff_iff];simp
      have e2:decide (m.Link≥(r.Joints.length:Int))= !decide (m.Link<(r.Joints.length:Int)):=by rw[Bool.eq_iff_iff];simp
      rw[e1,e2]
      cases decide (0≤m.Link)<;>cases decide (m.Link<(r.Joints.length:Int))<;>cases betV m.Mass 1 65536<;>cases fzp m.Point 4194304<;>rfl
     ·rw[az3 (by omega)]
     ·rw[bzh]
      cases hn:azz (badM r.Joints.length r.Masses) r.Masses.length
      ·rw[if_pos (Or.inr rfl)];rfl
      ·rw[if_neg (by simp;omega)];rfl
theorem gzd {r:azn}(h:hzn r=0):1≤r.Joints.length/\r.Joints.length≤10/\∀i,i<r.Joints.length->zz4 r.Joints i=0:=by
 unfold hzn at h
 split at h
 ·cases h
 ·refine⟨by omega,by omega,fun i hi=>?_⟩
  split at h
  ·rename_i e he
   obtain⟨j,-,-,h3,-⟩:=jzo _ _ he
   unfold errJ sw at h3
   cases hb:zz4 r.Joints j !=0 with
   |false=>rw[hb]at h3;cases h3
   |true=>
    rw[hb]at h3;simp only[cond_true,Option.some.injEq]at h3
    simp only[bne_iff_ne]at hb
    rw[h3]at hb;exact absurd h hb
  ·rename_i he
   have:=(izc _ _).1 he i (Nat.zero_le _) (by omega)
   unfold errJ sw at this
   cases hb:zz4 r.Joints i !=0 with
   |false=>simpa using hb
   |true=>rw[hb]at this;cases this
def lz8 (n:Nat)(k:Int):Bool:=decide (-1≤k)&&decide (k<(n:Int))
theorem Ezg (s:azc)(k:Int):(nzy s k).o=some (lz8 s.Robot.Joints.length k):=by
 show(vz9 s k).run NN=_
 simp only[vz9,T.run,czq,jz8,lz8]
theorem lzw (r:azn)(k:Int):(ezo r k).o=some (lz8 r.Joints.length k):=by
 show(yzg r k).run NN=_
 simp only[yzg,T.run,czq,jz8,lz8,ge_iff_le]
def farP (l:List (Int×Int×Int))(i:Nat):Bool:= !fzp (l.getD i default) 4194304
def sz6 (n:Nat)(x:aza):Int:=
 if(lz8 n x.Link&&betV x.Radius 1 1048576)=false\/x.Points.length=0\/8<x.Points.length then 902 else if azz (farP x.Points) x.Points.length then 0 else 805
theorem far3 (v:Int×Int×Int):azz (fun i=>bey (([v.1,v.2.1,v.2.2]:List Int).getD i 0)) 3=fzp v 4194304:=by
 rw[Bool.eq_iff_iff,noneB_iff,nearV_iff]
 constructor
 ·intro h
  have a:=h 0 (by decide);have b:=h 1 (by decide);have c:=h 2 (by decide)
  simp only[bey,List.getD_cons_zero,List.getD_cons_succ,Bool.or_eq_false_iff,decide_eq_false_iff_not]at a b c
  omega
 ·intro h i hi
  match i,hi with
  |0,_=>simp only[bey,List.getD_cons_zero,Bool.or_eq_false_iff,decide_eq_false_iff_not];omega
  |1,_=>simp only[bey,List.getD_cons_zero,List.getD_cons_succ,Bool.or_eq_false_iff,decide_eq_false_iff_not];omega
  |2,_=>simp only[bey,List.getD_cons_zero,List.getD_cons_succ,Bool.or_eq_false_iff,decide_eq_false_iff_not];omega
theorem Iz7 (s:azc)(x:aza):(tzr s x).o=some (sz6 s.Robot.Joints.length x):=by
 show(mz0 s x).run NN=_
 simp only[mz0,T.run,Ezg,Option.bind_some,azp,az8,sz6]
 cases hl:lz8 s.Robot.Joints.length x.Link
 ·rfl
 ·simp only[Bool.not_true,cond_false,Bool.true_and]
  by_cases h1:x.Radius<1
  ·rw[az5 h1,if_pos];· rfl
   simp[betV];omega
  ·rw[az3 h1]
   by_cases h2:x.Radius>1048576
   ·rw[az5 h2,if_pos];· rfl
    simp[betV];omega
   ·rw[az3 h2]
    by_cases h3:x.Points.length=0
    ·rw[az5 (by omega),if_pos (Or.inr (Or.inl h3))];rfl
    ·rw[az3 (by omega)]
     by_cases h4:8<x.Points.length
     ·rw[az5 (by omega),if_pos (Or.inr (Or.inr h4))]
     ·have hb:betV x.Radius 1 1048576=true:=by simp[betV];omega
      rw[az3 (by omega),hb,if_neg (fun h5=>by rcases h5 with h5|h5|h5;· cases h5
                                              ·omega
                                              ·omega)]
      refine(dzu (fun i=>sw (farP x.Points i) 805) x.Points.length (by omega) (fun j hj=>?_) ?_).trans ?_
      ·rw[az5 (by omega),az9 (by omega),Int.toNat_natCast,wn (by omega)]
       refine(dzu (fun i=>sw (bey (([(x.Points.getD j default).1,(x.Points.getD j default).2.1,(x.Points.getD j default).2.2]:List Int).getD i 0)) (Step3.fin 805)) 3 (by decide) (fun k hk=>?_) ?_).trans ?_
       ·rw[az5 (by omega),az9 (by omega),wn (by omega),Int.toNat_natCast,←czc]
        simp only[cz5];rfl
       ·rw[az3 (by omega)]
       ·rw[bzh,far3];unfold farP
        cases fzp (x.Points.getD j default) 4194304<;>rfl
      ·rw[az3 (by omega)]
      ·rw[bzh];cases azz (farP x.Points) x.Points.length<;>rfl
def errS (n:Nat)(l:List aza)(i:Nat):Option Int:=sw (sz6 n (l.getD i default) !=0) (sz6 n (l.getD i default))
def badK (n:Nat)(l:List cz7)(i:Nat):Bool:= !(lz8 n (l.getD i default).A&&lz8 n (l.getD i default).B)
def dzw (s:azc):Int:=
 if hzn s.Robot≠0 then hzn s.Robot else if 24<s.Shapes.length then 901 else match scan (errS s.Robot.Joints.length s.Shapes) s.Shapes.length 0 with
  |some e=>e
  |none=>if 64<s.Skips.length then 903 else if azz (badK s.Robot.Joints.length s.Skips) s.Skips.length then 0 else 903
theorem qze (s:azc):(ez1 s).o=some (dzw s):=by
 show(yzn s).run NN=_
 simp only[yzn,T.run,yzk,Option.bind_some,dzw]
 by_cases h:hzn s.Robot=0
 ·rw[dzf h,if_neg (by simpa using h)]
  by_cases h1:24<s.Shapes.length
  ·rw[az5 (by omega),if_pos h1]
  ·rw[az3 (by omega),if_neg h1]
   refine(dzu (errS s.Robot.Joints.length s.Shapes) s.Shapes.length (by omega) (fun j hj=>?_) ?_).trans ?_
   ·rw[az5 (by omega),az9 (by omega),wn (by omega),Int.toNat_natCast]
    simp only[Iz7,Option.bind_some]
    rw[czc];rfl
   ·rw[az3 (by omega)]
   ·cases scan (errS s.Robot.Joints.length s.Shapes) s.Shapes.length 0 with
    |some e=>rfl
    |none=>
     simp only
     by_cases h2:64<s.Skips.length
     ·rw[az5 (by omega),if_pos h2]
     ·rw[az3 (by omega),if_neg h2]
      refine(dzu (fun i=>sw (badK s.Robot.Joints.length s.Skips i) 903) s.Skips.length (by omega) (fun j hj=>?_) ?_).trans ?_
      ·rw[az5 (by omega),az9 (by omega),wn (by omega),Int.toNat_natCast,←czc]
       simp only[Ezg,Option.bind_some,azp,az8,badK]
       cases lz8 s.Robot.Joints.length (s.Skips.getD j default).A<;>cases lz8 s.Robot.Joints.length (s.Skips.getD j default).B<;>rfl
      ·rw[az3 (by omega)]
      ·rw[bzh];cases azz (badK s.Robot.Joints.length s.Skips) s.Skips.length<;>rfl
 ·rw[ezd h,if_pos h]
theorem izr (s:azc):(gzc s).o=some (dzw s):=by
 show(nz5 s).run NN=_
 simp only[nz5,T.run,ezy,Option.bind_some,dzw]
 by_cases h:hzn s.Robot=0
 ·rw[dzf h,if_neg (by simpa using h)]
  by_cases h1:24<s.Shapes.length
  ·rw[az5 (by omega),if_pos h1]
  ·rw[az3 (by omega),if_neg h1]
   refine(dzu (errS s.Robot.Joints.length s.Shapes) s.Shapes.length (by omega) (fun j hj=>?_) ?_).trans ?_
   ·rw[az5 (by omega),az9 (by omega),wn (by omega),Int.toNat_natCast]
    unfold errS
    generalize s.Shapes.getD j default=x
    simp only[lzw,vz6,Option.bind_some,azp,az8,sz6]
    cases hl:lz8 s.Robot.Joints.length x.Link
    ·rfl
    ·cases hr:betV x.Radius 1 1048576
     ·rfl
     ·simp only[Bool.not_true,cond_false,Bool.and_self]
      by_cases h3:x.Points.length=0
      ·rw[az5 (by omega),if_pos (Or.inr (Or.inl h3))];rfl
      ·rw[az3 (by omega)]
       by_cases h4:8<x.Points.length
       ·rw[az5 (by omega),if_pos (Or.inr (Or.inr h4))];rfl
       ·rw[az3 (by omega),if_neg (fun h5=>by rcases h5 with h5|h5|h5;· cases h5
                                             ·omega
                                             ·omega)]
        refine(dzu (fun i=>sw (farP x.Points i) (Step3.fin 805)) x.Points.length (by omega) (fun k hk=>?_) ?_).trans ?_
        ·rw[az5 (by omega),az9 (by omega),wn (by omega),Int.toNat_natCast,←czc]
         simp only[ezg _ (show(0:Int)≤4194304 by decide) (by decide),Option.bind_some];rfl
        ·rw[az3 (by omega)]
        ·rw[bzh];cases azz (farP x.Points) x.Points.length<;>rfl
   ·rw[az3 (by omega)]
   ·cases scan (errS s.Robot.Joints.length s.Shapes) s.Shapes.length 0 with
    |some e=>rfl
    |none=>
     simp only
     by_cases h2:64<s.Skips.length
     ·rw[az5 (by omega),if_pos h2]
     ·rw[az3 (by omega),if_neg h2]
      refine(dzu (fun i=>sw (badK s.Robot.Joints.length s.Skips i) 903) s.Skips.length (by omega) (fun j hj=>?_) ?_).trans ?_
      ·rw[az5 (by omega),wn (by omega),←czc]
       simp only[Int.toNat_natCast,az9 (show 0≤(j:Int)/\(j:Int)<(s.Skips.length:Int) by omega),lzw,Option.bind_some,azp,az8,badK]
       cases lz8 s.Robot.Joints.length (s.Skips.getD j default).A<;>cases lz8 s.Robot.Joints.length (s.Skips.getD j default).B<;>rfl
      ·rw[az3 (by omega)]
      ·rw[bzh];cases azz (badK s.Robot.Joints.length s.Skips) s.Skips.length<;>rfl
 ·rw[ezd h,if_pos h]
def outJ (l:List azk)(c:List Int)(i:Nat):Bool:=decide (c.getD i default<(l.getD i default).Lo)||decide (c.getD i default>(l.getD i default).Hi)
def jz0 (r:azn)(c:List Int):Bool:=decide (hzn r=0)&&(decide (c.length=r.Joints.length)&&azz (outJ r.Joints c) c.length)
theorem Rzi (l:List azk)(c:List Int)(h:l.length<4294967296):(gze l c).o=some (decide (c.length=l.length)&&azz (outJ l c) c.length):=by
 show(ez4 l c).run NN=_
 simp only[ez4,T.run]
 have e1:∀j x,(vzo j x).o=some (decide (j.Lo≤x)&&decide (x≤j.Hi)):=fun j x=>by
  show(mzp j x).run NN=_
  simp only[mzp,T.run,czq,jz8]
 by_cases h1:c.length=l.length
 ·rw[dzf (by omega),decide_eq_true h1,Bool.true_and]
  refine(dzu (fun i=>sw (outJ l c i) false) l.length h (fun j hj=>?_) ?_).trans ?_
  ·rw[az5 (by omega),az9 (by omega),az9 (by omega),wn (by omega),Int.toNat_natCast,←czc]
   simp only[e1,Option.bind_some]
   refine congrArg (fun b=>bif b then some (Step3.fin false)else some (Step3.next ((j+1:Nat):Int))) ?_
   rw[Bool.eq_iff_iff]
   simp only[outJ,Bool.not_eq_true',Bool.and_eq_false_iff,Bool.or_eq_true,decide_eq_true_eq,decide_eq_false_iff_not]
   omega
  ·rw[az3 (by omega)]
  ·rw[bzh,h1];cases azz (outJ l c) l.length<;>rfl
 ·rw[ezd (by omega),decide_eq_false h1];rfl
theorem Az4 (r:azn)(c:List Int):(bzk r c).o=some (jz0 r c):=by
 show(rz7 r c).run NN=_
 simp only[rz7,T.run,yzk,Option.bind_some,jz0]
 by_cases h:hzn r=0
 ·have:=gzd h
  rw[hzf h,Rzi _ _ (by omega),decide_eq_true h];rfl
 ·rw[hzg h,decide_eq_false h];rfl
theorem Ez2 (r:azn)(c:List Int):(uzn r c).o=some (jz0 r c):=by
 show(uzo r c).run NN=_
 simp only[uzo,T.run,ezy,Option.bind_some,azp,az8,jz0]
 by_cases h:hzn r=0
 ·have:=gzd h
  rw[dzf h,decide_eq_true h,Bool.true_and]
  by_cases h1:c.length=r.Joints.length
  ·rw[dzf (by omega),decide_eq_true h1,Bool.true_and]
   refine(dzu (fun i=>sw (outJ r.Joints c i) false) c.length (by omega) (fun j hj=>?_) ?_).trans ?_
   ·rw[az5 (by omega),wn (by omega),←czc]
    simp only[Int.toNat_natCast,az9 (show 0≤(j:Int)/\(j:Int)<(c.length:Int) by omega),az9 (show 0≤(j:Int)/\(j:Int)<(r.Joints.length:Int) by omega),azp,az8,cz5,outJ]
   ·rw[az3 (by omega)]
   ·rw[bzh];cases azz (outJ r.Joints c) c.length<;>rfl
  ·rw[ezd (by omega),decide_eq_false h1];rfl
 ·rw[ezd h,decide_eq_false h];rfl
def big1 (l:List Int)(i:Nat):Bool:=decide (l.getD i default< -2147483648)||decide (l.getD i default>2147483648)
def Cze (l:List Int):Bool:=azz (big1 l) l.length
theorem Rzj (l:List Int)(h:l.length<4294967296):(gzz l).o=some (Cze l):=by
 show(uz6 l).run NN=_
 have e1:∀x,(zz0 x).o=some (decide (x< -2147483648)||decide (x>2147483648)):=fun x=>by
  show(ozq x).run NN=_
  simp only[ozq,T.run,czq,cz5]
 have e2:(gzh l).o=some (match scan (fun i=>sw (big1 l i) (i:Int)) l.length 0 with|some x=>x|none=> -1):=by
  show(ez9 l).run NN=_
  simp only[ez9,T.run]
  refine(dzu (fun i=>sw (big1 l i) (i:Int)) l.length h (fun j hj=>?_) ?_).trans ?_
  ·rw[az5 (by omega),az9 (by omega),wn (by omega),Int.toNat_natCast,←czc]
   simp only[e1,Option.bind_some,big1]
  ·rw[az3 (by omega)]
  ·cases scan (fun i=>sw (big1 l i) (i:Int)) l.length 0<;>rfl
 have e3:(fzo l).o=some (!Cze l):=by
  show(dzl l).run NN=_
  simp only[dzl,T.run,e2,Option.bind_some]
  rw[Fzu];rfl
 simp only[uz6,T.run,e3,Option.bind_some,Bool.not_not]
theorem Vzu (l:List Int)(h:l.length<4294967296):(Hzo l).o=some (Cze l):=by
 show(yz0 l).run NN=_
 simp only[yz0,T.run]
 refine(dzu (fun i=>sw (big1 l i) false) l.length h (fun j hj=>?_) ?_).trans ?_
 ·rw[az5 (by omega),wn (by omega),←czc]
  simp only[Int.toNat_natCast,az9 (show 0≤(j:Int)/\(j:Int)<(l.length:Int) by omega),azp,az8,cz5,big1]
 ·rw[az3 (by omega)]
 ·rw[bzh];unfold Cze;cases azz (big1 l) l.length<;>rfl
theorem az4o {a b:Nat}:((a:Int)==(b:Int))=decide (a=b):=by rw[Bool.eq_iff_iff];simp only[beq_iff_eq,decide_eq_true_eq];omega
def ptI (c:List Int)(i:Nat):az0:=⟨c.getD i default,c.getD i default⟩
def ptB (c:List Int):List az0:=if Cze c=true then tab (ptI c) c.length else nl
section
variable {a b i:Int} {k:Nat} (ha: -2147483648≤a/\a≤2147483648) (hb: -2147483648≤b/\b≤2147483648) (h0:0≤i) (hi:i<2 ^ k) (hk:k≤20)
include ha hb h0 hi hk
end
structure JointOk (l:List azk) (i:Nat):Prop where
 kind:0≤(l.getD i default).Kind/\(l.getD i default).Kind≤6
 parent: -1≤(l.getD i default).Parent/\(l.getD i default).Parent<(i:Int)
 off:fzp (l.getD i default).Offset 4194304=true
 lim:(l.getD i default).Lo≤(l.getD i default).Hi/\ -oz7 (l.getD i default).Kind≤(l.getD i default).Lo/\(l.getD i default).Hi≤oz7 (l.getD i default).Kind
 cost:az8n (l.getD i default)=true
theorem az6i {l:List azk}{i:Nat}(h:zz4 l i=0):JointOk l i:=by
 unfold zz4 at h
 simp only at h
 split at h
 ·cases h
 ·split at h
  ·cases h
  ·rename_i h2
   split at h
   ·cases h
   ·rename_i h3
    split at h
    ·cases h
    ·rename_i h4
     split at h
     ·cases h
     ·rename_i h5
      split at h
      ·cases h
      ·rename_i h6
       simp only[Bool.or_eq_true,decide_eq_true_eq,Bool.not_eq_true',Bool.not_eq_false]at h2 h3 h4 h5 h6
       exact⟨by omega,by omega,h4,by omega,h6⟩
theorem kza {r:azn}(h:hzn r=0){i:Nat}(hi:i<r.Joints.length):JointOk r.Joints i:=az6i ((gzd h).2.2 i hi)
def notV (b:List az0)(i:Nat):Bool:= !vV (b.getD i default)
def boxV (r:azn)(b:List az0):Bool:=decide (b.length=r.Joints.length)&&azz (notV b) b.length
theorem Mzu (b:List az0)(h:b.length<4294967296):(zze b).o=some (azz (notV b) b.length):=by
 show(pz6 b).run NN=_
 simp only[pz6,T.run,gzf,Option.bind_some]
 refine(dzu (fun i=>sw (notV b i) false) b.length h (fun j hj=>?_) ?_).trans ?_
 ·rw[az5 (by omega),az9 (by omega),wn (by omega),Int.toNat_natCast,←czc];rfl
 ·rw[az3 (by omega)]
 ·rw[bzh];cases azz (notV b) b.length<;>rfl
theorem xzu (r:azn)(b:List az0)(h:b.length<4294967296):(qzb r b).o=some (boxV r b):=by
 show(xzt r b).run NN=_
 simp only[xzt,T.run,Mzu b h,Option.bind_some,boxV,az4o]
 cases decide (b.length=r.Joints.length)<;>rfl
theorem tz9 (r:azn)(b:List az0)(h:b.length<4294967296):(hzj r b).o=some (boxV r b):=by
 have e1:∀x,(pzx x).o=some (!vV x):=fun x=>by
  show(jz1 x).run NN=_
  simp only[jz1,T.run,czm,Option.bind_some]
 have e2:(dza b).o=some (match scan (fun i=>sw (notV b i) (i:Int)) b.length 0 with|some x=>x|none=> -1):=by
  show(cz1 b).run NN=_
  simp only[cz1,T.run,e1,Option.bind_some]
  refine(dzu (fun i=>sw (notV b i) (i:Int)) b.length h (fun j hj=>?_) ?_).trans ?_
  ·rw[az5 (by omega),az9 (by omega),wn (by omega),Int.toNat_natCast,←czc];rfl
  ·rw[az3 (by omega)]
  ·cases scan (fun i=>sw (notV b i) (i:Int)) b.length 0<;>rfl
 have e3:(czw b).o=some (!azz (notV b) b.length):=by
  show(bzv b).run NN=_
  simp only[bzv,T.run,e2,Option.bind_some]
  exact congrArg some Fzu
 show(lz6 r b).run NN=_
 simp only[lz6,T.run,e3,Option.bind_some,boxV,az4o,Bool.not_not]
 cases decide (b.length=r.Joints.length)<;>rfl
section
variable (r:azn) (b:List az0)
def lk1 (L:List bz2)(i:Nat):bz2:=
 if(r.Joints.getD i default).Parent= -1 then Dzu (r.Joints.getD i default) (b.getD i default)else az0b (L.getD (r.Joints.getD i default).Parent.toNat default) (Dzu (r.Joints.getD i default) (b.getD i default))
def lkL:Nat->List bz2
 |0=>[]
 |i+1=>lkL i++[lk1 r b (lkL i) i]
def lkP (i:Nat):bz2:=lk1 r b (lkL r b i) i
theorem az6l:∀j,lkL r b j=tab (lkP r b) j
 |0=>rfl
 |j+1=>by rw[gzm,←az6l j];rfl
end
variable {r:azn} {b:List az0}
theorem az2q {α:Type}{f:Nat->α}{z d:α}{n j i:Nat}(h:i<j):(half f z n j).getD i d=f i:=by
 unfold half
 rw[List.getD_eq_getElem?_getD,List.getElem?_append_left (by rw[dz1];exact h),←List.getD_eq_getElem?_getD,pzq h]
theorem Tzu {α:Type}{l:List α}{i j:Nat}{x d:α}(h:i≠j):(l.set i x).getD j d=l.getD j d:=by
 rw[List.getD_eq_getElem?_getD,List.getElem?_set_ne h,List.getD_eq_getElem?_getD]
theorem Tzt {α:Type}{l:List α}{i:Nat}{x d:α}(h:i<l.length):(l.set i x).getD i d=x:=by
 rw[List.getD_eq_getElem?_getD,List.getElem?_set_self h];rfl
theorem Hzl (hr:hzn r=0)(hb:boxV r b=true):(xzx r b).o=some (tab (lkP r b) r.Joints.length):=by
 have hr':=gzd hr
 have hb':=hb
 simp only[boxV,Bool.and_eq_true,decide_eq_true_eq]at hb'
 show(xzy r b).run NN=_
 simp only[xzy,T.run,ezy,xzu r b (by omega),hb,hr,Option.bind_some]
 rw[dzf rfl,az8,Bool.not_true,cond_false]
 refine(bzb (fun j=>(tab (lkP r b) j,(j:Int))) (tab (lkP r b) r.Joints.length) r.Joints.length rfl (show r.Joints.length<4294967296 by omega) (fun j hj=>?_) ?_).trans rfl
 ·have jo:=kza hr hj
  rw[az5 (by simp;omega),az9 ⟨by simp,by simpa using hj⟩,az9 ⟨by simp,by simp;omega⟩]
  simp only[Int.toNat_natCast,Vzs,Option.bind_some]
  rw[az9 ⟨by omega,by omega⟩,gzm]
  by_cases hp:(r.Joints.getD j default).Parent= -1
  ·have e:lkP r b j=Dzu (r.Joints.getD j default) (b.getD j default):=by unfold lkP lk1;rw[if_pos hp]
   rw[dzf hp]
   simp only[az8]
   rw[az9 ⟨by simp[dz1];omega,by simp[dz1,azy];omega⟩,wn (by omega),e]
  ·have jp:=jo.parent
   have e:lkP r b j=az0b ((tab (lkP r b) j).getD (r.Joints.getD j default).Parent.toNat default) (Dzu (r.Joints.getD j default) (b.getD j default)):=by
    unfold lkP lk1;rw[if_neg hp,az6l];rfl
   rw[ezd hp,az9 ⟨by omega,by omega⟩,az9 ⟨by omega,by rw[dz1];omega⟩,az9 (by rw[dz1];omega)]
   simp only[nzv,Option.bind_some,az8]
   rw[az9 ⟨by simp[dz1];omega,by simp[dz1,azy];omega⟩,wn (by omega),e]
 ·rw[az3 (by simp;omega)]
theorem tza (hr:hzn r=0)(hb:boxV r b=true):(hzk r b).o=some (tab (lkP r b) r.Joints.length):=by
 have hr':=gzd hr
 have hb':=hb
 simp only[boxV,Bool.and_eq_true,decide_eq_true_eq]at hb'
 show(lz7 r b).run NN=_
 simp only[lz7,T.run]
 rw[az9 ⟨by omega,by omega,by omega,by omega⟩,Int.toNat_natCast]
 refine(bzb (fun j=>(half (lkP r b) (⟨(izv,izv,izv),izv⟩:bz2) r.Joints.length j,(j:Int))) (tab (lkP r b) r.Joints.length) r.Joints.length ?_ (show r.Joints.length<4294967296 by omega) (fun j hj=>?_) ?_).trans rfl
 ·rw[rzg];rfl
 ·have jo:=kza hr hj
  have jp:=jo.parent
  rw[az5 (by simp;omega),az9 ⟨by simp,by simpa using hj⟩,az9 ⟨by simp,by simp;omega⟩]
  simp only[Int.toNat_natCast,Gzo,Option.bind_some,List.length_set,tz6 (show j≤r.Joints.length by omega)]
  rw[az9 ⟨by omega,by omega⟩,az9 ⟨hj,by omega⟩,wn (by omega)]
  by_cases hp:(r.Joints.getD j default).Parent= -1
  ·have e:lkP r b j=Dzu (r.Joints.getD j default) (b.getD j default):=by unfold lkP lk1;rw[if_pos hp]
   rw[dzf hp]
   simp only[az8]
   rw[←nzm hj,e]
  ·have e:lkP r b j=az0b (lkP r b (r.Joints.getD j default).Parent.toNat) (Dzu (r.Joints.getD j default) (b.getD j default)):=by
    conv=>lhs;unfold lkP lk1
    rw[if_neg hp,az6l,pzq (by omega)]
   rw[ezd hp,az9 ⟨by omega,by omega⟩,az9 (by omega),az9 ⟨by omega,by omega⟩,az9 hj,Tzu (by omega),az2q (by omega),Tzt (by rw[tz6 (by omega)];exact hj)]
   simp only[nzs,Option.bind_some]
   rw[az9 ⟨by omega,by omega⟩,az9 ⟨hj,by omega⟩,az8,List.set_set,←e,nzm hj]
 ·rw[az3 (by simp)];simp only[xzb]
def jz5 (x:aza):Bool:=(betV x.Radius 1 1048576&&decide (1≤x.Points.length/\x.Points.length≤8))&&azz (farP x.Points) x.Points.length
def Hzh (x:aza)(p:bz2):List IV3:=if jz5 x then tab (fun i=>Vzg p (zzc (x.Points.getD i default))) x.Points.length else nl
theorem sz5 {x:aza}(h:jz5 x=true):1≤x.Points.length/\x.Points.length≤8:=by
 simp only[jz5,Bool.and_eq_true,decide_eq_true_eq]at h;exact h.1.2
theorem Tzv (x:aza){α:Type}(k:Bool->Option α):(andC (bif decide (x.Radius<1)then some (.out true)else bif decide (x.Radius>1048576)then some (.out true)else bif decide ((x.Points.length:Int)<1)then some (.out true)else
 some (.out (decide ((x.Points.length:Int)>8)))) k)=k (!(betV x.Radius 1 1048576&&decide (1≤x.Points.length/\x.Points.length≤8))):=by
 simp only[azp,az8]
 congr 1
 rw[Bool.eq_iff_iff]
 simp only[cz5,betV,Bool.or_eq_true,Bool.not_eq_true',Bool.and_eq_false_iff,decide_eq_true_eq,decide_eq_false_iff_not]
 omega
theorem tzj (x:aza):(lzo x).o=some (jz5 x):=by
 show(lzp x).run NN=_
 simp only[lzp,T.run,Tzv,jz5]
 cases h:betV x.Radius 1 1048576&&decide (1≤x.Points.length/\x.Points.length≤8)
 ·rfl
 ·simp only[Bool.and_eq_true,decide_eq_true_eq]at h
  simp only[Bool.not_true,cond_false,Bool.true_and]
  refine(dzu (fun i=>sw (farP x.Points i) false) x.Points.length (by omega) (fun k hk=>?_) ?_).trans ?_
  ·rw[az5 (by omega),az9 (by omega),wn (by omega),Int.toNat_natCast,←czc]
   simp only[ezg _ (show(0:Int)≤4194304 by decide) (by decide),Option.bind_some];rfl
  ·rw[az3 (by omega)]
  ·rw[bzh];cases azz (farP x.Points) x.Points.length<;>rfl
theorem Ize (x:aza):(yzp x).o=some (jz5 x):=by
 show(yzq x).run NN=_
 simp only[yzq,T.run,Tzv,jz5]
 cases h:betV x.Radius 1 1048576&&decide (1≤x.Points.length/\x.Points.length≤8)
 ·rfl
 ·simp only[Bool.and_eq_true,decide_eq_true_eq]at h
  simp only[Bool.not_true,cond_false,Bool.true_and]
  refine(dzu (fun i=>sw (farP x.Points i) false) x.Points.length (by omega) (fun j hj=>?_) ?_).trans ?_
  ·rw[az5 (by omega),az9 (by omega),Int.toNat_natCast,wn (by omega)]
   refine(dzu (fun i=>sw (bey (([(x.Points.getD j default).1,(x.Points.getD j default).2.1,(x.Points.getD j default).2.2]:List Int).getD i 0)) (Step3.fin false)) 3 (by decide) (fun k hk=>?_) ?_).trans ?_
   ·rw[az5 (by omega),az9 (by omega),wn (by omega),Int.toNat_natCast,←czc]
    simp only[azp,az8,cz5];rfl
   ·rw[az3 (by omega)]
   ·rw[bzh,far3];unfold farP
    cases fzp (x.Points.getD j default) 4194304<;>rfl
  ·rw[az3 (by omega)]
  ·rw[bzh];cases azz (farP x.Points) x.Points.length<;>rfl
theorem Hzn (x:aza)(p:bz2):(Hzm x p).o=some (Hzh x p):=by
 show(xzz x p).run NN=_
 simp only[xzz,T.run,tzj,Option.bind_some,Hzh]
 cases h:jz5 x
 ·rfl
 ·have hl:=sz5 h
  simp only[Bool.not_true,cond_false,if_true]
  refine(bzb (fun j=>(tab (fun i=>Vzg p (zzc (x.Points.getD i default))) j,(j:Int))) (tab (fun i=>Vzg p (zzc (x.Points.getD i default))) x.Points.length) x.Points.length rfl (show x.Points.length<4294967296 by omega) (fun j hj=>?_) ?_).trans rfl
  ·rw[az5 (by simpa using hj),az9 ⟨by simp,by simpa using hj⟩]
   simp only[Int.toNat_natCast,ozb,Lzk,Option.bind_some]
   rw[az9 ⟨by simp[dz1];omega,by simp[dz1,azy];omega⟩,wn (by omega),gzm]
  ·rw[az3 (by simp)]
theorem Izg (x:aza)(p:bz2):(Izf x p).o=some (Hzh x p):=by
 show(yzr x p).run NN=_
 simp only[yzr,T.run,Ize,Option.bind_some,Hzh]
 cases h:jz5 x
 ·rfl
 ·have hl:=sz5 h
  simp only[Bool.not_true,cond_false,if_true]
  rw[az9 ⟨by omega,by omega,by omega,by omega⟩,Int.toNat_natCast]
  refine(bzb (fun j=>(half (fun i=>Vzg p (zzc (x.Points.getD i default))) izv x.Points.length j,(j:Int))) (tab (fun i=>Vzg p (zzc (x.Points.getD i default))) x.Points.length) x.Points.length ?_ (show x.Points.length<4294967296 by omega) (fun j hj=>?_) ?_).trans rfl
  ·rw[rzg];rfl
  ·rw[az5 (by simpa using hj),az9 ⟨by simp,by simpa using hj⟩]
   simp only[Int.toNat_natCast,nzp,Lze,Option.bind_some,tz6 (show j≤x.Points.length by omega)]
   rw[az9 ⟨by omega,by omega⟩,az9 ⟨hj,by omega⟩,wn (by omega),←nzm hj]
  ·rw[az3 (by simp)];simp only[xzb]
def az6k (r:azn)(b:List az0)(k:Int):bz2:=if k= -1 then Zz6 else lkP r b k.toNat
def bzw (s:azc)(b:List az0)(i:Nat):List IV3:=Hzh (s.Shapes.getD i default) (az6k s.Robot b (s.Shapes.getD i default).Link)
def xzs (s:azc)(b:List az0):List (List IV3):=if dzw s=0/\boxV s.Robot b=true then tab (bzw s b) s.Shapes.length else nl
structure SceneOk (s:azc):Prop where
 robot:hzn s.Robot=0
 len:s.Shapes.length≤24
 shape:∀i,i<s.Shapes.length->sz6 s.Robot.Joints.length (s.Shapes.getD i default)=0
 skips:s.Skips.length≤64
theorem oze {s:azc}(h:dzw s=0):SceneOk s:=by
 unfold dzw at h
 split at h
 ·rename_i h1;exact absurd h h1
 ·rename_i h1
  split at h
  ·cases h
  ·rename_i h2
   split at h
   ·rename_i e he
    obtain⟨j,-,-,h3,-⟩:=jzo _ _ he
    unfold errS sw at h3
    cases hb:sz6 s.Robot.Joints.length (s.Shapes.getD j default) !=0 with
    |false=>rw[hb]at h3;cases h3
    |true=>
     rw[hb]at h3;simp only[cond_true,Option.some.injEq]at h3
     simp only[bne_iff_ne]at hb
     rw[h3]at hb;exact absurd h hb
   ·rename_i he
    split at h
    ·cases h
    ·rename_i h4
     refine⟨by simpa using h1,by omega,fun i hi=>?_,by omega⟩
     have:=(izc _ _).1 he i (Nat.zero_le _) (by omega)
     unfold errS sw at this
     cases hb:sz6 s.Robot.Joints.length (s.Shapes.getD i default) !=0 with
     |false=>simpa using hb
     |true=>rw[hb]at this;cases this
theorem wz4 {n:Nat}{x:aza}(h:sz6 n x=0):jz5 x=true/\ -1≤x.Link/\x.Link<(n:Int):=by
 unfold sz6 at h
 split at h
 ·cases h
 ·rename_i h1
  split at h
  ·rename_i h2
   have hb:(lz8 n x.Link&&betV x.Radius 1 1048576)=true:=by
    cases hc:(lz8 n x.Link&&betV x.Radius 1 1048576)with
    |true=>rfl
    |false=>exact absurd (Or.inl hc) h1
   simp only[Bool.and_eq_true]at hb
   refine⟨?_,?_⟩
   ·simp only[jz5,Bool.and_eq_true,decide_eq_true_eq];exact⟨⟨hb.2,by omega⟩,h2⟩
   ·have:=hb.1;simp only[lz8,Bool.and_eq_true,decide_eq_true_eq]at this;exact this
  ·cases h
theorem Sz8 (s:azc)(b:List az0)(hbl:b.length<4294967296):(Ez4 s b).o=some (xzs s b):=by
 show(uzq s b).run NN=_
 simp only[uzq,T.run,izr,xzu _ b hbl,Option.bind_some,xzs]
 by_cases h:dzw s=0
 ·rw[dzf h,az8]
  cases hb:boxV s.Robot b
  ·rw[if_neg (fun h=>by cases h.2)];rfl
  ·have so:=oze h
   rw[if_pos ⟨h,rfl⟩,Bool.not_true,cond_false,Hzl so.robot hb,Option.bind_some]
   refine(bzb (fun j=>(tab (bzw s b) j,(j:Int))) (tab (bzw s b) s.Shapes.length) s.Shapes.length rfl (show s.Shapes.length<4294967296 by have:=so.len;omega) (fun j hj=>?_) ?_).trans rfl
   ·have so2:=so.len
    have sl:=(wz4 (so.shape j hj)).2
    rw[az5 (by simpa using hj)]
    simp only[Int.toNat_natCast,Pzs,Option.bind_some]
    rw[az9 ⟨by omega,by omega⟩,wn (by omega),gzm]
    by_cases hp:(s.Shapes.getD j default).Link= -1
    ·have e:bzw s b j=Hzh (s.Shapes.getD j default) Zz6:=by unfold bzw az6k;rw[if_pos hp]
     rw[dzf hp]
     simp only[az8]
     rw[az9 ⟨by omega,by omega⟩]
     simp only[Hzn,Option.bind_some]
     rw[az9 ⟨by simp[dz1];omega,by simp[dz1,azy];omega⟩,e]
    ·have e:bzw s b j=Hzh (s.Shapes.getD j default) ((tab (lkP s.Robot b) s.Robot.Joints.length).getD (s.Shapes.getD j default).Link.toNat default):=by
      unfold bzw az6k;rw[if_neg hp,pzq (by omega)]
     rw[ezd hp,az9 ⟨by omega,by omega⟩,az9 ⟨by omega,by rw[dz1];omega⟩]
     simp only[az8]
     rw[az9 ⟨by omega,by omega⟩]
     simp only[Hzn,Option.bind_some]
     rw[az9 ⟨by simp[dz1];omega,by simp[dz1,azy];omega⟩,e]
   ·rw[az3 (by simp)]
 ·rw[ezd h,az8,cond_true,if_neg (fun h'=>h h'.1)]
theorem Fz3 (s:azc)(b:List az0)(hbl:b.length<4294967296):(rzi s b).o=some (xzs s b):=by
 show(kz8 s b).run NN=_
 simp only[kz8,T.run,qze,tz9 _ b hbl,Option.bind_some,xzs]
 cases hb:boxV s.Robot b
 ·rw[if_neg (fun h=>by cases h.2)];rfl
 ·simp only[Bool.not_true,cond_false,az8]
  by_cases h:dzw s=0
  ·have so:=oze h
   have so2:=so.len
   rw[if_pos ⟨h,trivial⟩,dzf h,tza so.robot hb,Option.bind_some,az9 ⟨by omega,by omega,by omega,by omega⟩,Int.toNat_natCast]
   refine(bzb (fun j=>(half (bzw s b) nl s.Shapes.length j,(j:Int))) (tab (bzw s b) s.Shapes.length) s.Shapes.length ?_ (show s.Shapes.length<4294967296 by omega) (fun j hj=>?_) ?_).trans rfl
   ·rw[rzg];rfl
   ·have sl:=(wz4 (so.shape j hj)).2
    rw[az5 (by simpa using hj),az9 ⟨by simp,by simpa using hj⟩]
    simp only[Int.toNat_natCast,Bz7,Option.bind_some,tz6 (show j≤s.Shapes.length by omega)]
    rw[wn (by omega),←nzm hj]
    by_cases hp:(s.Shapes.getD j default).Link= -1
    ·have e:bzw s b j=Hzh (s.Shapes.getD j default) Zz6:=by unfold bzw az6k;rw[if_pos hp]
     rw[dzf hp]
     simp only[az8,Izg,Option.bind_some]
     rw[az9 ⟨by omega,by omega⟩,az9 ⟨hj,by omega⟩,e]
    ·have e:bzw s b j=Hzh (s.Shapes.getD j default) ((tab (lkP s.Robot b) s.Robot.Joints.length).getD (s.Shapes.getD j default).Link.toNat default):=by
      unfold bzw az6k;rw[if_neg hp,pzq (by omega)]
     rw[ezd hp,az9 ⟨by omega,by rw[dz1];omega⟩]
     simp only[az8,Izg,Option.bind_some]
     rw[az9 ⟨by omega,by omega⟩,az9 ⟨hj,by omega⟩,e]
   ·rw[az3 (by simp)];simp only[xzb]
  ·rw[if_neg (fun h'=>h h'.1),ezd h]
section
variable (par:Nat->Nat) (mv:Nat->Prop) [DecidablePred mv]
inductive AncN:Nat->Nat->Prop
 |self {m:Nat}:0<m->AncN m m
 |up {m x:Nat}:0<m->AncN (par m) x->AncN m x
def cF:Nat->Nat->Nat
 |0,_=>0
 |d+1,m=>if m=0 then 0 else if mv m then m else cF d (par m)
end
section
variable {par:Nat->Nat} {mv:Nat->Prop} [DecidablePred mv]
theorem AncN.pos {m x:Nat}(h:AncN par m x):0<m/\0<x:=by
 induction h with
 |self h=>exact⟨h,h⟩
 |up h _ ih=>exact⟨h,ih.2⟩
theorem AncN.le {n m x:Nat}(hp:∀m,0<m->m≤n->par m<m)(h:AncN par m x):m≤n->x≤m:=by
 induction h with
 |self=>intro _;exact Nat.le_refl _
 |up h0 _ ih=>rename_i m x _;intro hm;have:=hp m h0 hm;have:=ih (by omega);omega
theorem az4s {n:Nat}(hp:∀m,0<m->m≤n->par m<m):∀ (d d' m:Nat),m≤n->m<d->m<d'->cF par mv d m=cF par mv d' m
 |0,_,_,_,h,_=>by omega
 |_,0,_,_,_,h=>by omega
 |d+1,d'+1,m,hm,h1,h2=>by
  simp only[cF]
  by_cases h0:m=0
  ·simp only[h0,if_true]
  ·simp only[h0,if_false]
   have:=hp m (by omega) hm
   by_cases hv:mv m
   ·simp only[hv,if_true]
   ·simp only[hv,if_false];exact az4s hp d d' (par m) (by omega) (by omega) (by omega)
theorem Xzb {n:Nat}(hp:∀m,0<m->m≤n->par m<m):∀ (d m:Nat),m≤n->m<d->(∀x,mv x->(AncN par m x↔AncN par (cF par mv d m) x))/\(cF par mv d m≠0->mv (cF par mv d m)/\AncN par m (cF par mv d m))/\cF par mv d m≤m
 |0,_,_,h=>by omega
 |d+1,m,hm,h=>by
  simp only[cF]
  by_cases h0:m=0
  ·rw[if_pos h0];subst h0;exact⟨fun _ _=>Iff.rfl,fun h=>absurd rfl h,Nat.le_refl _⟩
  ·simp only[h0,if_false]
   have hl:=hp m (by omega) hm
   by_cases hv:mv m
   ·rw[if_pos hv];exact⟨fun _ _=>Iff.rfl,fun _=>⟨hv,.self (by omega)⟩,Nat.le_refl _⟩
   ·simp only[hv,if_false]
    obtain⟨h1,h2,h3⟩:=Xzb hp d (par m) (by omega) (by omega)
    refine⟨fun x hx=>?_,fun hn=>⟨(h2 hn).1,.up (by omega) (h2 hn).2⟩,by omega⟩
    rw[←h1 x hx]
    constructor
    ·intro ha
     cases ha with
     |self=>exact absurd hx hv
     |up _ ha=>exact ha
    ·intro ha;exact .up (by omega) ha
theorem azbb {n:Nat}(hp:∀m,0<m->m≤n->par m<m){a b d:Nat}(ha:a≤n)(hb:b≤n)(hd:n<d):cF par mv d a=cF par mv d b↔∀x,mv x->(AncN par a x↔AncN par b x):=by
 obtain⟨a1,a2,a3⟩:=Xzb (mv:=mv) hp d a ha (by omega)
 obtain⟨b1,b2,b3⟩:=Xzb (mv:=mv) hp d b hb (by omega)
 constructor
 ·intro h x hx;rw[a1 x hx,b1 x hx,h]
 ·intro h
  have key:∀ {a b:Nat},a≤n->b≤n->cF par mv d a≠0->(∀x,mv x->(AncN par a x↔AncN par b x))->cF par mv d a≤cF par mv d b:=by
   intro a b ha hb hn h
   obtain⟨a1,a2,a3⟩:=Xzb (mv:=mv) hp d a ha (by omega)
   obtain⟨b1,b2,b3⟩:=Xzb (mv:=mv) hp d b hb (by omega)
   have:=(b1 _ (a2 hn).1).1 ((h _ (a2 hn).1).1 (a2 hn).2)
   exact this.le hp (by omega)
  by_cases h0:cF par mv d a=0
  ·by_cases h1:cF par mv d b=0
   ·omega
   ·have:=key hb ha h1 (fun x hx=>(h x hx).symm);omega
  ·have h2:=key ha hb h0 h
   have h3:=key hb ha (by omega) (fun x hx=>(h x hx).symm)
   omega
end
section
variable (r:azn)
def parN (m:Nat):Nat:=((r.Joints.getD (m-1) default).Parent+1).toNat
def mvN (m:Nat):Prop:=(r.Joints.getD (m-1) default).Lo≠(r.Joints.getD (m-1) default).Hi
instance:DecidablePred (mvN r):=fun m=>inferInstanceAs (Decidable (_≠_))
def carN (m:Nat):Nat:=cF (parN r) (mvN r) (r.Joints.length+1) m
end
variable {r:azn} (hr:hzn r=0)
include hr
theorem Pzf:∀m,0<m->m≤r.Joints.length->parN r m<m:=fun m h0 hm=>by
 have:=(kza hr (show m-1<r.Joints.length by omega)).parent
 unfold parN;omega
omit hr in
theorem az4w:carN r 0=0:=by
 unfold carN;simp only[cF,if_true]
theorem az4v {i:Nat}(hi:i<r.Joints.length):carN r (i+1)=if(r.Joints.getD i default).Lo=(r.Joints.getD i default).Hi then carN r ((r.Joints.getD i default).Parent+1).toNat else i+1:=by
 have hl:=Pzf hr (i+1) (by omega) (by omega)
 unfold carN
 conv=>lhs;simp only[cF]
 rw[if_neg (by omega)]
 by_cases h:(r.Joints.getD i default).Lo=(r.Joints.getD i default).Hi
 ·rw[if_neg (fun hm=>hm h),if_pos h]
  exact az4s (Pzf hr) _ _ (parN r (i+1)) (by omega) (by omega) (by omega)
 ·rw[if_pos (show mvN r (i+1)from h),if_neg h]
def caP (r:azn)(m:Nat):Int:=(carN r m:Int)-1
theorem Nz0:(zzi r).o=some (tab (caP r) (r.Joints.length+1)):=by
 have hr':=gzd hr
 show(pzf r).run NN=_
 simp only[pzf,T.run]
 rw[wn (by omega),Int.toNat_natCast,az9 ⟨by omega,by omega,by omega,by omega⟩]
 simp only[List.length_replicate]
 rw[az9 ⟨by omega,by omega⟩,az9 ⟨by simp,by omega⟩]
 refine(bzb (fun j=>(half (caP r) 0 (r.Joints.length+1) (j+1),(j:Int))) (tab (caP r) (r.Joints.length+1)) r.Joints.length ?_ (show r.Joints.length<4294967296 by omega) (fun j hj=>?_) ?_).trans rfl
 ·rw[←nzm (by omega),rzg]
  have:caP r 0= -1:=by unfold caP;rw[az4w];rfl
  rw[this];rfl
 ·have jp:=(kza hr hj).parent
  rw[az5 (by simpa using hj),az9 ⟨by simp,by simpa using hj⟩]
  simp only[Int.toNat_natCast,tz6 (show j+1≤r.Joints.length+1 by omega),List.length_set]
  rw[wn (by omega),Int.toNat_natCast,az9 ⟨by omega,by omega⟩,az9 ⟨by omega,by omega⟩,w64 (x:=(r.Joints.getD j default).Parent+1) (by omega) (by omega)]
  have e:=az4v hr hj
  by_cases h:(r.Joints.getD j default).Lo=(r.Joints.getD j default).Hi
  ·have e2:caP r (j+1)=caP r ((r.Joints.getD j default).Parent+1).toNat:=by unfold caP;rw[e,if_pos h]
   rw[hzf h,az9 ⟨by omega,by omega⟩,az9 (by omega),az9 ⟨by omega,by omega⟩,az9 ⟨by omega,by omega⟩,Tzu (by omega),az2q (by omega),az8,List.set_set,←nzm (j:=j+1) (by omega),e2]
  ·have e2:caP r (j+1)=(j:Int):=by unfold caP;rw[e,if_neg h];omega
   rw[hzg h,az8,←nzm (j:=j+1) (by omega),e2]
 ·rw[az3 (by simp)];simp only[xzb]
theorem Lzn {k:Int}(h0: -1≤k)(h1:k<(r.Joints.length:Int)):∃L:List Int,(tzp r k).o=some L/\L.length≤r.Joints.length/\∀x:Nat,(x:Int)∈L↔AncN (parN r) (k+1).toNat (x+1):=by
 have hr':=gzd hr
 have e0:(tzp r k).o=(Bzx r k).run NN:=rfl
 rw[e0]
 simp only[Bzx,T.run,ezy,hr,lzw,Option.bind_some]
 rw[dzf rfl,az8,show lz8 r.Joints.length k=true by simp[lz8];omega,Bool.not_true,cond_false]
 refine az0r (β:=List Int) (g:=fun L=>some L) (P:=fun L=>L.length≤r.Joints.length/\∀x:Nat,(x:Int)∈L↔AncN (parN r) (k+1).toNat (x+1))
  (fun (y:List Int×Int)=> -1≤y.2/\y.2<(r.Joints.length:Int)/\y.1.length+(y.2+1).toNat≤r.Joints.length/\∀x:Nat,((x:Int)∈y.1\/AncN (parN r) (y.2+1).toNat (x+1))↔AncN (parN r) (k+1).toNat (x+1))
  (fun (y:List Int×Int)=>(y.2+1).toNat) (fun (L:List Int)=>L.length≤r.Joints.length/\∀x:Nat,(x:Int)∈L↔AncN (parN r) (k+1).toNat (x+1)) ⟨h0,h1,?_,fun x=>?_⟩ ?_ (fun y hy=>?_) (fun L hL=>⟨L,rfl,hL⟩)
 ·simp[nl];omega
 ·simp[nl]
 ·show(k+1).toNat<4294967296;omega
 ·obtain⟨a1,a2,a3,a4⟩:=hy
  by_cases hk:y.2= -1
  ·refine .inr ⟨y.1,by rw[dzf hk],by omega,fun x=>?_⟩
   rw[←a4 x]
   constructor
   ·exact Or.inl
   ·rintro(h|h)
    ·exact h
    ·have:=h.pos.1;rw[hk]at this;exact absurd this (by decide)
  ·left
   have jp:=(kza hr (show y.2.toNat<r.Joints.length by omega)).parent
   refine⟨(y.2::y.1,(r.Joints.getD y.2.toNat default).Parent),?_,⟨jp.1,by omega,by simp only[List.length_cons];omega,fun x=>?_⟩,by simp only;omega⟩
   ·rw[ezd hk,az9 ⟨by simp;omega,by simp[azy];omega⟩,az9 ⟨by omega,by omega⟩];rfl
   ·rw[←a4 x]
    have hpar:parN r (y.2+1).toNat=((r.Joints.getD y.2.toNat default).Parent+1).toNat:=by
     unfold parN;rw[show(y.2+1).toNat-1=y.2.toNat by omega]
    simp only[List.mem_cons]
    constructor
    ·rintro((h|h)|h)
     ·right;rw[show(y.2+1).toNat=x+1 by omega];exact .self (by omega)
     ·exact Or.inl h
     ·right;exact .up (by omega) (hpar▸h)
    ·rintro(h|h)
     ·exact Or.inl (Or.inr h)
     ·generalize hm:(y.2+1).toNat=m at h
      cases h with
      |self h=>left;left;omega
      |up h ha=>right;rw[←hm,hpar]at ha;exact ha
omit hr in
theorem Hzw (l:List Int)(x:Int)(h:l.length<4294967296):(yzh l x).o=some (decide (x∈l)):=by
 show(yzi l x).run NN=_
 simp only[yzi,T.run]
 refine(dzu (fun i=>sw (l.getD i default==x) true) l.length h (fun j hj=>?_) ?_).trans ?_
 ·rw[az5 (by omega),az9 (by omega),wn (by omega),Int.toNat_natCast,←czc]
 ·rw[az3 (by omega)]
 ·rw[bzh]
  have:azz (fun i=>l.getD i default==x) l.length= !decide (x∈l):=by
   rw[Bool.eq_iff_iff,noneB_iff,Bool.not_eq_true',decide_eq_false_iff_not]
   constructor
   ·intro hn hx
    obtain⟨i,hi,e⟩:=List.getElem_of_mem hx
    have:=hn i hi
    rw[List.getD_eq_getElem?_getD,List.getElem?_eq_getElem hi,Option.getD_some,e]at this
    simp at this
   ·intro hn i hi
    rw[List.getD_eq_getElem?_getD,List.getElem?_eq_getElem hi,Option.getD_some]
    simp only[beq_eq_false_iff_ne,ne_eq]
    intro e;apply hn;rw[←e];exact List.getElem_mem hi
  rw[this];cases decide (x∈l)<;>rfl
def betL (p:Nat->Bool)(n:Nat):List Int:=((List.range n).filter p).map fun (i:Nat)=>(i:Int)
omit hr in
theorem az4p (p:Nat->Bool)(n:Nat):betL p (n+1)=if p n then betL p n++[(n:Int)]else betL p n:=by
 unfold betL;rw[List.range_succ,List.filter_append,List.map_append]
 cases h:p n<;>simp[h]
omit hr in
theorem az21 (p:Nat->Bool)(n:Nat):(betL p n).length≤n:=by
 unfold betL;rw[List.length_map];exact Nat.le_trans (List.length_filter_le _ _) (by simp)
omit hr in
theorem az8i {p:Nat->Bool}{n:Nat}{x:Int}:x∈betL p n↔∃i:Nat,x=(i:Int)/\i<n/\p i=true:=by
 unfold betL;simp only[List.mem_map,List.mem_filter,List.mem_range]
 constructor
 ·rintro⟨i,⟨h1,h2⟩,rfl⟩;exact⟨i,rfl,h1,h2⟩
 ·rintro⟨i,rfl,h1,h2⟩;exact⟨i,⟨h1,h2⟩,rfl⟩
theorem Szg {a b:Int}(a0: -1≤a)(a1:a<(r.Joints.length:Int))(b0: -1≤b)(b1:b<(r.Joints.length:Int)):
 ∃L:List Int,(Ezb r a b).o=some L/\L.length≤r.Joints.length/\∀x:Int,x∈L↔∃i:Nat,x=(i:Int)/\i<r.Joints.length/\¬ (AncN (parN r) (a+1).toNat (i+1)↔AncN (parN r) (b+1).toNat (i+1)):=by
 have hr':=gzd hr
 obtain⟨X,x1,x2,x3⟩:=Lzn hr a0 a1
 obtain⟨Y,y1,y2,y3⟩:=Lzn hr b0 b1
 let p:Nat->Bool:=fun i=> !(decide ((i:Int)∈X)==decide ((i:Int)∈Y))
 refine⟨betL p r.Joints.length,?_,az21 _ _,fun x=>?_⟩
 ·show(vz3 r a b).run NN=_
  simp only[vz3,T.run,ezy,hr,lzw,Option.bind_some]
  rw[dzf rfl,show lz8 r.Joints.length a=true by simp[lz8];omega,show lz8 r.Joints.length b=true by simp[lz8];omega]
  simp only[Bool.not_true,cond_false,az8,x1,y1,Option.bind_some]
  refine(bzb (fun j=>(betL p j,(j:Int))) (betL p r.Joints.length) r.Joints.length rfl (show r.Joints.length<4294967296 by omega) (fun j hj=>?_) ?_).trans rfl
  ·have:=az21 p j
   rw[az5 (by simpa using hj)]
   simp only[Hzw X _ (show X.length<4294967296 by omega),Hzw Y _ (show Y.length<4294967296 by omega),Option.bind_some]
   rw[wn (by omega),az4p,az9 ⟨by simp;omega,by simp[azy];omega⟩]
   show andC (bif p j then _ else _) _=_
   cases p j<;>rfl
  ·rw[az3 (by simp)]
 ·rw[az8i]
  constructor
  ·rintro⟨i,h1,h2,h3⟩
   refine⟨i,h1,h2,?_⟩
   rw[←x3,←y3]
   intro hh
   simp only[p,Bool.not_eq_true',beq_eq_false_iff_ne,ne_eq,decide_eq_decide]at h3
   exact h3 hh
  ·rintro⟨i,h1,h2,h3⟩
   refine⟨i,h1,h2,?_⟩
   rw[←x3,←y3]at h3
   simp only[p,Bool.not_eq_true',beq_eq_false_iff_ne,ne_eq,decide_eq_decide]
   exact h3
theorem Zz4 {a b:Int}(a0: -1≤a)(a1:a<(r.Joints.length:Int))(b0: -1≤b)(b1:b<(r.Joints.length:Int)):(Lzp r a b).o=some (decide (carN r (a+1).toNat=carN r (b+1).toNat)):=by
 have hr':=gzd hr
 obtain⟨L,l1,l2,l3⟩:=Szg hr a0 a1 b0 b1
 show(Bzz r a b).run NN=_
 simp only[Bzz,T.run,ezy,hr,lzw,Option.bind_some]
 rw[dzf rfl,show lz8 r.Joints.length a=true by simp[lz8];omega,show lz8 r.Joints.length b=true by simp[lz8];omega]
 simp only[Bool.not_true,cond_false,az8,l1,Option.bind_some]
 have hin:∀j,j<L.length->0≤L.getD j default/\L.getD j default<(r.Joints.length:Int):=fun j hj=>by
  have:L.getD j default∈L:=by rw[List.getD_eq_getElem?_getD,List.getElem?_eq_getElem hj,Option.getD_some];exact List.getElem_mem hj
  obtain⟨i,h1,h2,-⟩:=(l3 _).1 this
  rw[h1];omega
 refine(dzu (fun j=>sw (decide ((r.Joints.getD (L.getD j default).toNat default).Lo<(r.Joints.getD (L.getD j default).toNat default).Hi)) false) L.length (by omega) (fun j hj=>?_) ?_).trans ?_
 ·rw[az5 (by omega),az9 (by omega),Int.toNat_natCast,az9 (hin j hj),az9 (by omega),az9 (hin j hj),wn (by omega),←czc]
 ·rw[az3 (by omega)]
 ·rw[bzh]
  have:azz (fun j=>decide ((r.Joints.getD (L.getD j default).toNat default).Lo<(r.Joints.getD (L.getD j default).toNat default).Hi)) L.length=decide (carN r (a+1).toNat=carN r (b+1).toNat):=by
   rw[Bool.eq_iff_iff,noneB_iff,decide_eq_true_eq]
   unfold carN
   rw[azbb (Pzf hr) (by omega) (by omega) (by omega)]
   constructor
   ·intro h x hx
    by_cases hA:AncN (parN r) (a+1).toNat x↔AncN (parN r) (b+1).toNat x
    ·exact hA
    ·exfalso
     have hx0:0<x/\x≤r.Joints.length:=by
      by_cases h1:AncN (parN r) (a+1).toNat x
      ·have:=h1.le (Pzf hr) (by omega);exact⟨h1.pos.2,by omega⟩
      ·by_cases h2:AncN (parN r) (b+1).toNat x
       ·have:=h2.le (Pzf hr) (by omega);exact⟨h2.pos.2,by omega⟩
       ·exact absurd ⟨fun h=>absurd h h1,fun h=>absurd h h2⟩ hA
     obtain⟨i,rfl⟩:∃i,x=i+1:=⟨x-1,by omega⟩
     have hm:(i:Int)∈L:=(l3 _).2 ⟨i,rfl,by omega,hA⟩
     obtain⟨j,hj,e⟩:=List.getElem_of_mem hm
     have:=h j hj
     have e2:L.getD j default=(i:Int):=by rw[List.getD_eq_getElem?_getD,List.getElem?_eq_getElem hj,Option.getD_some,e]
     rw[e2,Int.toNat_natCast,decide_eq_false_iff_not]at this
     have jo:=(kza hr (show i<r.Joints.length by omega)).lim.1
     apply hx
     simp only[Nat.add_sub_cancel];omega
   ·intro h j hj
    have:L.getD j default∈L:=by rw[List.getD_eq_getElem?_getD,List.getElem?_eq_getElem hj,Option.getD_some];exact List.getElem_mem hj
    obtain⟨i,h1,h2,h3⟩:=(l3 _).1 this
    rw[h1,Int.toNat_natCast,decide_eq_false_iff_not]
    intro hlt
    exact h3 (h (i+1) (by show(r.Joints.getD (i+1-1) default).Lo≠(r.Joints.getD (i+1-1) default).Hi;simp only[Nat.add_sub_cancel];omega))
  rw[this];cases decide (carN r (a+1).toNat=carN r (b+1).toNat)<;>rfl
omit hr
def skB (l:List cz7)(a b:Int)(i:Nat):Bool:=((l.getD i default).A==a&&(l.getD i default).B==b)||((l.getD i default).A==b&&(l.getD i default).B==a)
def skV (s:azc)(a b:Int):Bool:= !azz (skB s.Skips a b) s.Skips.length
theorem Qzn (s:azc)(a b:Int)(h:s.Skips.length<4294967296):(Cz8 s a b).o=some (skV s a b):=by
 show(sz3 s a b).run NN=_
 simp only[sz3,T.run,azp,az8,Bool.and_true,cz5]
 refine(dzu (fun i=>sw (skB s.Skips a b i) true) s.Skips.length h (fun j hj=>?_) ?_).trans ?_
 ·rw[az5 (by omega),az9 (by omega),wn (by omega),Int.toNat_natCast,←czc];rfl
 ·rw[az3 (by omega)]
 ·rw[bzh];unfold skV;cases azz (skB s.Skips a b) s.Skips.length<;>rfl
theorem Szh (s:azc)(a b:Int)(h:s.Skips.length<4294967296):(Ezc s a b).o=some (skV s a b):=by
 show(vz4 s a b).run NN=_
 simp only[vz4,T.run]
 refine(dzu (fun i=>sw (skB s.Skips a b i) true) s.Skips.length h (fun j hj=>?_) ?_).trans ?_
 ·rw[az5 (by omega),az9 (by omega),wn (by omega),Int.toNat_natCast,←czc]
  unfold skB
  cases (s.Skips.getD j default).A==a<;>cases (s.Skips.getD j default).B==b<;>cases (s.Skips.getD j default).A==b<;>cases (s.Skips.getD j default).B==a<;>rfl
 ·rw[az3 (by omega)]
 ·rw[bzh];unfold skV;cases azz (skB s.Skips a b) s.Skips.length<;>rfl
section
variable (c:Nat->Nat->Bool)
def pin (L:List bzx)(i:Nat):Nat->List bzx
 |0=>L
 |m+1=>if c i (i+1+m)then pin L i m++[⟨(i:Int),((i+1+m:Nat):Int)⟩]else pin L i m
def pou (n:Nat):Nat->List bzx
 |0=>nl
 |i+1=>pin c (pou n i) i (n- (i+1))
theorem Vzn (L:List bzx)(i:Nat):∀m,(pin c L i m).length≤L.length+m
 |0=>by simp[pin]
 |m+1=>by
  have:=Vzn L i m
  simp only[pin];split
  ·simp;omega
  ·omega
theorem Vzp {n:Nat}:∀i,(pou c n i).length≤i * n
 |0=>by simp[pou,nl]
 |i+1=>by
  have h1:=Vzp (n:=n) i
  have h2:=Vzn c (pou c n i) i (n- (i+1))
  simp only[pou];rw[Nat.add_mul];omega
end
def Ozw (s:azc)(i:Nat):Int:=(s.Shapes.getD i default).Link
def oz4 (s:azc)(i k:Nat):Bool:= !decide (carN s.Robot (Ozw s i+1).toNat=carN s.Robot (Ozw s k+1).toNat)&& !skV s (Ozw s i) (Ozw s k)
def dz2 (s:azc):List bzx:=if dzw s=0 then pou (oz4 s) s.Shapes.length s.Shapes.length else nl
theorem Zz3 (s:azc):(Lzo s).o=some (dz2 s):=by
 show(Bzy s).run NN=_
 simp only[Bzy,T.run,izr,Option.bind_some,dz2]
 by_cases h:dzw s=0
 ·have so:=oze h
  have so2:=so.len
  have so3:=so.skips
  rw[dzf h,if_pos h]
  refine(bzb (fun i=>(pou (oz4 s) s.Shapes.length i,(i:Int))) (pou (oz4 s) s.Shapes.length s.Shapes.length) s.Shapes.length rfl (show s.Shapes.length<4294967296 by omega) (fun i hi=>?_) ?_).trans rfl
  ·rw[az5 (by simpa using hi)]
   simp only[Int.toNat_natCast]
   rw[wn (by omega)]
   refine(bzb (fun m=>(pin (oz4 s) (pou (oz4 s) s.Shapes.length i) i m,((i+1+m:Nat):Int))) (pou (oz4 s) s.Shapes.length (i+1)) (s.Shapes.length- (i+1)) rfl (show s.Shapes.length- (i+1)<4294967296 by omega) (fun m hm=>?_) ?_).trans rfl
   ·have hk:i+1+m<s.Shapes.length:=by omega
    have l1:=(wz4 (so.shape i hi)).2
    have l2:=(wz4 (so.shape (i+1+m) hk)).2
    have lp:=Vzn (oz4 s) (pou (oz4 s) s.Shapes.length i) i m
    have lo:=Vzp (oz4 s) (n:=s.Shapes.length) i
    have li:i * s.Shapes.length≤24 * 24:=Nat.mul_le_mul (by omega) (by omega)
    simp only[Int.toNat_natCast]
    rw[az5 (by omega),az9 ⟨by omega,by omega⟩,az9 ⟨by omega,by omega⟩,wn (by omega)]
    simp only[Zz4 so.robot l1.1 l1.2 l2.1 l2.2,Szh s _ _ (show s.Skips.length<4294967296 by omega),Option.bind_some,pin]
    have e:(andC (bif (s.Shapes.getD i default).Link !=(s.Shapes.getD (i+1+m) default).Link then bif !decide (carN s.Robot ((s.Shapes.getD i default).Link+1).toNat=carN s.Robot ((s.Shapes.getD (i+1+m) default).Link+1).toNat)then
     some (.out (!skV s (s.Shapes.getD i default).Link (s.Shapes.getD (i+1+m) default).Link))else some (.out false)else some (.out false)):(Bool->Option (Step3 Unit (List bzx) (Step3 (List bzx×Int) (List bzx) (Step3 (List bzx×Int) (List bzx) (List bzx)))))->_)=fun k=>k (oz4 s i (i+1+m)):=by
     funext k
     by_cases hl:(s.Shapes.getD i default).Link=(s.Shapes.getD (i+1+m) default).Link
     ·rw[dzf hl,az8]
      have:oz4 s i (i+1+m)=false:=by simp only[oz4,Ozw,hl,decide_true,Bool.not_true,Bool.false_and]
      rw[this]
     ·rw[ezd hl];unfold oz4 Ozw
      cases decide (carN s.Robot ((s.Shapes.getD i default).Link+1).toNat=carN s.Robot ((s.Shapes.getD (i+1+m) default).Link+1).toNat)<;>rfl
    rw[e]
    simp only
    rw[az9 ⟨by simp;omega,by simp[azy];omega⟩]
    cases oz4 s i (i+1+m)<;>rfl
   ·rw[az3 (by omega)];rfl
  ·rw[az3 (by simp)]
 ·rw[ezd h,if_neg h]
theorem Wzd (s:azc):(Iz6 s).o=some (dz2 s):=by
 show(yzo s).run NN=_
 simp only[yzo,T.run,qze,Option.bind_some,dz2]
 by_cases h:dzw s=0
 ·have so:=oze h
  have so2:=so.len
  have so3:=so.skips
  have so4:=gzd so.robot
  rw[dzf h,if_pos h,Nz0 so.robot,Option.bind_some]
  refine(bzb (fun i=>(pou (oz4 s) s.Shapes.length i,(i:Int))) (pou (oz4 s) s.Shapes.length s.Shapes.length) s.Shapes.length rfl (show s.Shapes.length<4294967296 by omega) (fun i hi=>?_) ?_).trans rfl
  ·rw[az5 (by simpa using hi),az9 ⟨by simp,by simpa using hi⟩]
   simp only[Int.toNat_natCast]
   rw[wn (by omega)]
   refine(bzb (fun m=>(pin (oz4 s) (pou (oz4 s) s.Shapes.length i) i m,((i+1+m:Nat):Int))) (pou (oz4 s) s.Shapes.length (i+1)) (s.Shapes.length- (i+1)) rfl (show s.Shapes.length- (i+1)<4294967296 by omega) (fun m hm=>?_) ?_).trans rfl
   ·have hk:i+1+m<s.Shapes.length:=by omega
    have l1:=(wz4 (so.shape i hi)).2
    have l2:=(wz4 (so.shape (i+1+m) hk)).2
    have lp:=Vzn (oz4 s) (pou (oz4 s) s.Shapes.length i) i m
    have lo:=Vzp (oz4 s) (n:=s.Shapes.length) i
    have li:i * s.Shapes.length≤24 * 24:=Nat.mul_le_mul (by omega) (by omega)
    simp only[Int.toNat_natCast,dz1]
    rw[az5 (by omega),az9 ⟨by omega,by omega⟩,w64 (x:=(s.Shapes.getD i default).Link+1) (by omega) (by omega),w64 (x:=(s.Shapes.getD (i+1+m) default).Link+1) (by omega) (by omega),
     az9 ⟨by omega,by omega⟩,az9 ⟨by omega,by omega⟩,wn (by omega),pzq (by omega),pzq (by omega)]
    simp only[Qzn s _ _ (show s.Skips.length<4294967296 by omega),Option.bind_some,pin]
    have e:(andC (bif !(caP s.Robot ((s.Shapes.getD i default).Link+1).toNat==caP s.Robot ((s.Shapes.getD (i+1+m) default).Link+1).toNat)then
     some (.out (!skV s (s.Shapes.getD i default).Link (s.Shapes.getD (i+1+m) default).Link))else some (.out false)):(Bool->Option (Step3 Unit (List bzx) (Step3 (List bzx×Int) (List bzx) (Step3 (List bzx×Int) (List bzx) (List bzx)))))->_)=fun k=>k (oz4 s i (i+1+m)):=by
     funext k
     have e1:(caP s.Robot ((s.Shapes.getD i default).Link+1).toNat==caP s.Robot ((s.Shapes.getD (i+1+m) default).Link+1).toNat)=decide (carN s.Robot ((s.Shapes.getD i default).Link+1).toNat=carN s.Robot ((s.Shapes.getD (i+1+m) default).Link+1).toNat):=by
      rw[Bool.eq_iff_iff];unfold caP;simp only[beq_iff_eq,decide_eq_true_eq];omega
     rw[e1];unfold oz4 Ozw
     cases decide (carN s.Robot ((s.Shapes.getD i default).Link+1).toNat=carN s.Robot ((s.Shapes.getD (i+1+m) default).Link+1).toNat)<;>rfl
    rw[e]
    simp only
    rw[az9 ⟨by simp;omega,by simp[azy];omega⟩]
    cases oz4 s i (i+1+m)<;>rfl
   ·rw[az3 (by omega)];rfl
  ·rw[az3 (by simp)]
 ·rw[ezd h,if_neg h]
theorem u64w {x:Int}(h0:0≤x)(h1:x<18446744073709551616):IntKind.u64.wrap x=x:=by
 show(if(false&&decide (x % 18446744073709551616≥9223372036854775808))=true then x % 18446744073709551616-18446744073709551616 else x % 18446744073709551616)=x
 rw[if_neg (by simp)];omega
theorem u8w {x:Int}(h0:0≤x)(h1:x<256):IntKind.u8.wrap x=x:=by
 show(if(false&&decide (x % 256≥128))=true then x % 256-256 else x % 256)=x
 rw[if_neg (by simp)];omega
def IsRoot (n s:Int):Prop:=0≤s/\s * s≤n/\n<(s+1) * (s+1)
theorem IsRoot.uniq {n s t:Int}(h1:IsRoot n s)(h2:IsRoot n t):s=t:=by
 obtain⟨a0,a1,a2⟩:=h1
 obtain⟨b0,b1,b2⟩:=h2
 by_cases h:s<t
 ·have:(s+1) * (s+1)≤t * t:=Int.mul_le_mul (by omega) (by omega) (by omega) (by omega)
  omega
 ·by_cases h':t<s
  ·have:(t+1) * (t+1)≤s * s:=Int.mul_le_mul (by omega) (by omega) (by omega) (by omega)
   omega
  ·omega
theorem az1e {n:Int}(h0:1≤n)(h1:n<4611686018427387904):∃s,(rzu n).o=some s/\IsRoot n s:=by
 have e0:(rzu n).o=(Fzh n).run NN:=rfl
 rw[e0]
 simp only[Fzh,T.run]
 rw[az3 (by omega)]
 refine az0r (β:=Int) (g:=fun s=>some s) (P:=fun s=>IsRoot n s) (fun (y:Int×Int)=>1≤y.1/\y.1<y.2/\y.2≤4294967296/\y.1 * y.1≤n/\n<y.2 * y.2) (fun y=>(y.2-y.1).toNat) (fun s=>IsRoot n s)
  ⟨by decide,by decide,by decide,by omega,by simp only;omega⟩ (by decide) (fun y hy=>?_) (fun s hs=>⟨s,rfl,hs⟩)
 obtain⟨a1,a2,a3,a4,a5⟩:=hy
 rw[w64 (x:=y.2-y.1) (by omega) (by omega)]
 by_cases hd:y.2-y.1>1
 ·left
  rw[az5 hd,mzd (by omega),w64 (x:=(y.2-y.1) / 2) (by omega) (by omega),w64 (x:=y.1+(y.2-y.1) / 2) (by omega) (by omega),az9 (by omega)]
  generalize hm:y.1+(y.2-y.1) / 2=m
  have m1:y.1<m/\m<y.2:=by omega
  have q:=Oz8 (a:=n) (b:=m) (by omega)
  have q1:=q.1 (by omega)
  rw[mzd (by omega),w64 (x:=n / m) (by omega) (by omega)]
  have key:m≤n / m↔m * m≤n:=Int.le_ediv_iff_mul_le (by omega)
  by_cases hc:m≤n / m
  ·rw[az5 hc];exact⟨_,rfl,⟨by simp only;omega,by simp only;omega,a3,key.1 hc,a5⟩,by simp only;omega⟩
  ·rw[az3 hc];exact⟨_,rfl,⟨a1,by simp only;omega,by simp only;omega,a4,by simp only;have:=mt key.2 hc;omega⟩,by simp only;omega⟩
 ·right
  rw[az3 hd]
  exact⟨_,rfl,by omega,a4,by rw[show y.1+1=y.2 by omega];exact a5⟩
def lenT (b:Nat):Nat:=((#[0,1,2,2,3,3,3,3,4,4,4,4,4,4,4,4,5,5,5,5,5,5,5,5,5,5,5,5,5,5,5,5,6,6,6,6,6,6,6,6,6,6,6,6,6,6,6,6,6,6,6,6,6,6,6,6,6,6,6,6,6,6,6,6,7,7,7,7,7,7,7,7,7,7,7,7,7,7,7,7,7,7,7,7,7,7,7,7,7,7,7,7,7,7,7,7,7,7,7,7,7,7,7,7,7,7,7,7,7,7,7,7,7,7,7,7,7,7,7,7,7,7,7,7,7,7,7,7,8,8,8,8,8,8,8,8,8,8,8,8,8,8,8,8,8,8,8,8,8,8,8,8,8,8,8,8,8,8,8,8,8,8,8,8,8,8,8,8,8,8,8,8,8,8,8,8,8,8,8,8,8,8,8,8,8,8,8,8,8,8,8,8,8,8,8,8,8,8,8,8,8,8,8,8,8,8,8,8,8,8,8,8,8,8,8,8,8,8,8,8,8,8,8,8,8,8,8,8,8,8,8,8,8,8,8,8,8,8,8,8,8,8,8,8,8,8,8,8,8,8,8,8,8,8,8,8]:Array UInt8).getD b 0).toNat
theorem azdt:∀b,b<256->b<2 ^ lenT b/\lenT b≤8:=of_decide_eq_true (by kernel_rfl)
def lenE (y:Int×Int):Option Int:=grd (0≤IntKind.u8.wrap y.1/\IntKind.u8.wrap y.1<((256:Nat):Int)) (some (IntKind.i64.wrap (y.2+IntKind.i64.wrap ((lenT (IntKind.u8.wrap y.1).toNat:Nat):Int))))
theorem azg0 (n:Int):(gz6 n).o=
 andC (bif decide (n≥4294967296)then some (.out (n.fdiv (2 ^ min (32:Int).toNat 64),32))else some (.out (n,0)):Option (Step3 Unit (Int×Int) Int)) fun y5=>
 andC (bif decide (y5.1≥65536)then some (.out (y5.1.fdiv (2 ^ min (16:Int).toNat 64),IntKind.i64.wrap (y5.2+16)))else some (.out (y5.1,y5.2)):Option (Step3 Unit (Int×Int) Int)) fun y6=>
 andC (bif decide (y6.1≥256)then some (.out (y6.1.fdiv (2 ^ min (8:Int).toNat 64),IntKind.i64.wrap (y6.2+8)))else some (.out (y6.1,y6.2)):Option (Step3 Unit (Int×Int) Int)) fun y7=>lenE y7:=by kernel_rfl
theorem Jzq {n:Int}(h0:0≤n)(h1:n<4294967296):∃L:Nat,(gz6 n).o=some (L:Int)/\n<2 ^ L/\L≤32:=by
 rw[azg0,az3 (by omega),az8]
 have fin:∀ (x:Int) (k:Nat),0≤x->x<256->k≤24->n<(x+1) * 2 ^ k->∃L:Nat,lenE (x,(k:Int))=some (L:Int)/\n<2 ^ L/\L≤32:=by
  intro x k x0 x1 hk hn
  obtain⟨b,rfl⟩:∃b:Nat,x=(b:Int):=⟨x.toNat,by omega⟩
  have hb:=azdt b (by omega)
  unfold lenE
  simp only
  rw[u8w (by omega) (by omega),az9 ⟨by omega,by omega⟩,Int.toNat_natCast,w64 (x:=((lenT b:Nat):Int)) (by omega) (by omega),w64 (by omega) (by omega)]
  refine⟨k+lenT b,by rw[Int.natCast_add],?_,by omega⟩
  have h2:(((b+1:Nat):Int)) * 2 ^ k≤2 ^ lenT b * 2 ^ k:=by
   refine Int.mul_le_mul_of_nonneg_right ?_ (Int.le_of_lt (ezj k))
   exact_mod_cast hb.1
  rw[Nat.add_comm,Int.pow_add]
  have h3:((b:Int)+1)=((b+1:Nat):Int):=by omega
  rw[h3]at hn
  omega
 have s16:∀x:Int,x.fdiv (2 ^ min (Int.toNat 16) 64)=x / 65536:=fun x=>Nzf x 16
 have s8:∀x:Int,x.fdiv (2 ^ min (Int.toNat 8) 64)=x / 256:=fun x=>Nzf x 8
 have p24:(2:Int) ^ 24=16777216:=by decide
 have p16:(2:Int) ^ 16=65536:=by decide
 have p8:(2:Int) ^ 8=256:=by decide
 have e16:IntKind.i64.wrap (0+16)=16:=by decide
 have e8:IntKind.i64.wrap (0+8)=8:=by decide
 have e24:IntKind.i64.wrap (16+8)=24:=by decide
 by_cases c1:n≥65536
 ·rw[az5 c1,az8,s16,e16]
  by_cases c2:n / 65536≥256
  ·rw[az5 c2,az8,s8,e24];exact fin _ 24 (by omega) (by omega) (by omega) (by rw[p24];omega)
  ·rw[az3 c2,az8];exact fin _ 16 (by omega) (by omega) (by omega) (by rw[p16];omega)
 ·rw[az3 c1,az8]
  by_cases c2:n≥256
  ·rw[az5 c2,az8,s8,e8];exact fin _ 8 (by omega) (by omega) (by omega) (by rw[p8];omega)
  ·rw[az3 c2,az8];exact fin _ 0 (by omega) (by omega) (by omega) (by simp only[Int.pow_zero];omega)
theorem Xzr {n:Int}(h0:1≤n)(h1:n<4294967296):∃s,(Azm n).o=some s/\IsRoot n s:=by
 have e0:(Azm n).o=(Azn n).run NN:=rfl
 rw[e0]
 obtain⟨L,l1,l2,l3⟩:=Jzq (n:=n) (by omega) h1
 simp only[Azn,T.run]
 rw[az3 (by omega),u64w (x:=n) (by omega) (by omega),l1,Option.bind_some,w64 (x:=(L:Int)+1) (by omega) (by omega),mzd (by omega),w64 (x:=((L:Int)+1) / 2) (by omega) (by omega),az9 (by omega)]
 obtain⟨W,hW⟩:∃W:Nat,((L:Int)+1) / 2=(W:Int):=⟨(L+1) / 2,by omega⟩
 rw[hW,Int.toNat_natCast,Nat.min_eq_left (by omega),Int.one_mul]
 have hw16:W≤16:=by omega
 have hpw:(2:Int) ^ W≤65536:=by
  have:(2:Int) ^ W≤2 ^ 16:=by exact_mod_cast Nat.pow_le_pow_right (by decide:0<2) hw16
  have e:(2:Int) ^ 16=65536:=by decide
  omega
 have hp0:=ezj W
 rw[u64w (x:=2 ^ W) (by omega) (by omega)]
 have hn4:n<2 ^ W * 2 ^ W:=by
  rw[←Int.pow_add]
  have:(2:Int) ^ L≤2 ^ (W+W):=by exact_mod_cast Nat.pow_le_pow_right (by decide:0<2) (show L≤W+W by omega)
  omega
 refine az0r (β:=Int) (g:=fun s=>some s) (P:=fun s=>IsRoot n s) (fun (y:Int×Int×Int)=>∃k:Nat,y.2.2=((W-k:Nat):Int)/\k≤W/\y.2.1=2 ^ k/\0≤y.1/\y.1≤2 ^ W-2 ^ k/\y.1 * y.1≤n/\n<(y.1+2 ^ k) * (y.1+2 ^ k))
  (fun y=>((W:Int)-y.2.2).toNat) (fun s=>IsRoot n s) ⟨W,by simp,Nat.le_refl _,rfl,by simp,by simp,by simp;omega,by simp only[Int.zero_add];exact hn4⟩ (by show _<4294967296;simp only;omega) (fun y hy=>?_) (fun s hs=>⟨IntKind.i64.wrap s,rfl,?_⟩)
 ·obtain⟨k,b1,b2,b3,b4,b5,b6,b7⟩:=hy
  rw[b1,b3]
  cases k with
  |zero=>
   right
   rw[az3 (by omega)]
   exact⟨_,rfl,b4,b6,by simpa using b7⟩
  |succ k=>
   left
   have hk2:(2:Int) ^ (k+1)=2 * 2 ^ k:=by rw[Int.pow_succ];omega
   have hkp:=ezj k
   rw[az5 (by omega),mzd (by omega),show(2:Int) ^ (k+1) / 2=2 ^ k by omega,u64w (x:=2 ^ k) (by omega) (by omega),u64w (x:=y.1+2 ^ k) (by omega) (by omega)]
   have hsq:(y.1+2 ^ k) * (y.1+2 ^ k)≤65536 * 65536:=Int.mul_le_mul (by omega) (by omega) (by omega) (by omega)
   have hsq0:0≤(y.1+2 ^ k) * (y.1+2 ^ k):=Int.mul_nonneg (by omega) (by omega)
   rw[u64w (x:=(y.1+2 ^ k) * (y.1+2 ^ k)) hsq0 (by omega)]
   have hi:IntKind.i64.wrap (((W- (k+1):Nat):Int)+1)=((W-k:Nat):Int):=by rw[w64 (by omega) (by omega)];omega
   rw[hi]
   by_cases hc:(y.1+2 ^ k) * (y.1+2 ^ k)≤n
   ·rw[az5 hc,az8]
    exact⟨_,rfl,⟨k,rfl,by omega,rfl,by simp only;omega,by simp only;omega,hc,by simp only;rw[show y.1+2 ^ k+2 ^ k=y.1+2 ^ (k+1) by omega];exact b7⟩,by simp only;omega⟩
   ·rw[az3 hc,az8]
    exact⟨_,rfl,⟨k,rfl,by omega,rfl,b4,by simp only;omega,b6,by simp only;omega⟩,by simp only;omega⟩
 ·obtain⟨c1,c2,c3⟩:=hs
  have:s≤n:=by
   by_cases hz:s=0
   ·omega
   ·have:s * 1≤s * s:=Int.mul_le_mul_of_nonneg_left (by omega) c1
    omega
  rw[w64 (by omega) (by omega)];exact⟨c1,c2,c3⟩
noncomputable def zzq (n:Int):Int:=(rzu n).o.getD 0
theorem az38 {n:Int}(h0:1≤n)(h1:n<4294967296):IsRoot n (zzq n)/\(rzu n).o=some (zzq n):=by
 obtain⟨s,e,h⟩:=az1e h0 (by omega)
 unfold zzq;rw[e];exact⟨h,rfl⟩
theorem az7p {n s:Int}(h0:1≤n)(h:IsRoot n s):s≤n:=by
 obtain⟨c1,c2,-⟩:=h
 by_cases hz:s=0
 ·omega
 ·have:s * 1≤s * s:=Int.mul_le_mul_of_nonneg_left (by omega) c1
  omega
noncomputable def rupV (n:Int):Int:=if zzq n * zzq n<n then zzq n+1 else zzq n
theorem Rzs {n:Int}(h0:1≤n)(h1:n<4294967296):(Dzn n).o=some (rupV n):=by
 obtain⟨s,e,h⟩:=Xzr h0 h1
 obtain⟨k1,k2⟩:=az38 h0 h1
 have es:s=zzq n:=h.uniq k1
 have sl:=az7p h0 k1
 obtain⟨r1,r2,r3⟩:=k1
 show(uz8 n).run NN=_
 simp only[uz8,T.run,e,Option.bind_some,es,rupV]
 rw[w64 (x:=zzq n * zzq n) (by have:=Int.mul_nonneg r1 r1;omega) (by omega),w64 (x:=zzq n+1) (by omega) (by omega)]
 by_cases hc:zzq n * zzq n<n
 ·rw[az5 hc,if_pos hc,az8]
 ·rw[az3 hc,if_neg hc,az8]
theorem Vzy {n:Int}(h0:1≤n)(h1:n<4294967296):(Hzt n).o=some (rupV n):=by
 obtain⟨k1,k2⟩:=az38 h0 h1
 have sl:=az7p h0 k1
 obtain⟨r1,r2,r3⟩:=k1
 show(yz8 n).run NN=_
 simp only[yz8,T.run,k2,Option.bind_some,rupV]
 rw[az5 (by omega),az8,w64 (x:=zzq n * zzq n) (by have:=Int.mul_nonneg r1 r1;omega) (by omega),w64 (x:=zzq n+1) (by omega) (by omega)]
 by_cases hc:zzq n * zzq n<n
 ·rw[az5 hc,if_pos hc,az8]
 ·rw[az3 hc,if_neg hc,az8]
abbrev V3:=Int×Int×Int
def bzc (n:V3):Bool:= !((n.1==0)&&((n.2.1==0)&&((n.2.2==0)&&true)))&&fzp n 16384
theorem hz5 (n:V3):(ezr n).o=some (bzc n):=by
 show(uzr n).run NN=_
 simp only[uzr,T.run,ezg n (show(0:Int)≤16384 by decide) (by decide),Option.bind_some,bzc]
 cases (n.1==0)&&((n.2.1==0)&&((n.2.2==0)&&true))<;>rfl
def bey2 (x:Int):Bool:=decide (x< -16384)||decide (x>16384)
theorem izw (v:V3):(ezz v).o=some (fzp v 16384):=by
 show(nzf v).run NN=_
 simp only[nzf,T.run,azp,az8,cz5]
 refine(dzu (fun i=>sw (bey2 (([v.1,v.2.1,v.2.2]:List Int).getD i 0)) false) 3 (by decide) (fun j hj=>?_) ?_).trans ?_
 ·rw[az5 (by omega),az9 (by omega),wn (by omega),Int.toNat_natCast,←czc];rfl
 ·rw[az3 (by omega)]
 ·rw[bzh]
  have:azz (fun i=>bey2 (([v.1,v.2.1,v.2.2]:List Int).getD i 0)) 3=fzp v 16384:=by
   rw[Bool.eq_iff_iff,noneB_iff,nearV_iff]
   constructor
   ·intro h
    have a:=h 0 (by decide);have b:=h 1 (by decide);have c:=h 2 (by decide)
    simp only[bey2,List.getD_cons_zero,List.getD_cons_succ,Bool.or_eq_false_iff,decide_eq_false_iff_not]at a b c
    omega
   ·intro h i hi
    match i,hi with
    |0,_=>simp only[bey2,List.getD_cons_zero,Bool.or_eq_false_iff,decide_eq_false_iff_not];omega
    |1,_=>simp only[bey2,List.getD_cons_zero,List.getD_cons_succ,Bool.or_eq_false_iff,decide_eq_false_iff_not];omega
    |2,_=>simp only[bey2,List.getD_cons_zero,List.getD_cons_succ,Bool.or_eq_false_iff,decide_eq_false_iff_not];omega
  rw[this];cases fzp v 16384<;>rfl
theorem fzg (n:V3):(fzf n).o=some (bzc n):=by
 show(pzp n).run NN=_
 simp only[pzp,T.run,izw,Option.bind_some,bzc]
 cases fzp n 16384<;>cases (n.1==0)&&((n.2.1==0)&&((n.2.2==0)&&true))<;>rfl
theorem Rz2 {n:V3}(h:bzc n=true):((-16384≤n.1/\n.1≤16384)/\(-16384≤n.2.1/\n.2.1≤16384)/\(-16384≤n.2.2/\n.2.2≤16384))/\(n.1≠0\/n.2.1≠0\/n.2.2≠0):=by
 simp only[bzc,Bool.and_eq_true,nearV_iff,Bool.not_eq_true',Bool.and_eq_false_iff,beq_eq_false_iff_ne,ne_eq,Bool.and_true]at h
 refine⟨h.2,?_⟩
 rcases h.1 with h|h|h
 ·exact Or.inl h
 ·exact Or.inr (Or.inl h)
 ·exact Or.inr (Or.inr h)
theorem azet {x:Int}(h: -16384≤x/\x≤16384):0≤x * x/\x * x≤268435456/\(x≠0->1≤x * x):=by
 have h1:(x * x).natAbs≤16384 * 16384:=by rw[Int.natAbs_mul];exact Nat.mul_le_mul (by omega) (by omega)
 have h0:0≤x * x:=by
  by_cases hx:0≤x
  ·exact Int.mul_nonneg hx hx
  ·exact Int.mul_nonneg_of_nonpos_of_nonpos (by omega) (by omega)
 refine⟨h0,by omega,fun hx=>?_⟩
 have:x * x≠0:=Int.mul_ne_zero hx hx
 omega
def sqV (n:V3):Int:=n.1 * n.1+n.2.1 * n.2.1+n.2.2 * n.2.2
noncomputable def az13 (n:V3):Int:=if bzc n then rupV (sqV n)else 0
theorem azcr {n:V3}(h:bzc n=true):1≤sqV n/\sqV n<4294967296/\IntKind.i64.wrap (IntKind.i64.wrap (IntKind.i64.wrap (n.1 * n.1)+IntKind.i64.wrap (n.2.1 * n.2.1))+IntKind.i64.wrap (n.2.2 * n.2.2))=sqV n:=by
 obtain⟨⟨b1,b2,b3⟩,hz⟩:=Rz2 h
 have s1:=azet b1;have s2:=azet b2;have s3:=azet b3
 unfold sqV
 rw[w64 (x:=n.1 * n.1) (by omega) (by omega),w64 (x:=n.2.1 * n.2.1) (by omega) (by omega),w64 (x:=n.2.2 * n.2.2) (by omega) (by omega),w64 (x:=n.1 * n.1+n.2.1 * n.2.1) (by omega) (by omega),w64 (by omega) (by omega)]
 refine⟨?_,by omega,rfl⟩
 rcases hz with h|h|h
 ·have:=s1.2.2 h;omega
 ·have:=s2.2.2 h;omega
 ·have:=s3.2.2 h;omega
theorem vzh (n:V3):(vzf n).o=some (az13 n):=by
 show(vzg n).run NN=_
 simp only[vzg,T.run,T.ix,fzg,Option.bind_some,az13]
 cases h:bzc n
 ·rfl
 ·have hs:=azcr h
  simp only[Bool.not_true,cond_false,if_true]
  rw[hs.2.2,Rzs hs.1 hs.2.1];rfl
theorem Bzd (n:V3):(tzk n).o=some (az13 n):=by
 show(Bzc n).run NN=_
 simp only[Bzc,T.run,T.ix,hz5,Option.bind_some,az13]
 cases h:bzc n
 ·rfl
 ·have hs:=azcr h
  simp only[Bool.not_true,cond_false,if_true]
  rw[hs.2.2,Vzy hs.1 hs.2.1];rfl
def rng (x:az0):Bool:= !(decide (x.Lo< -268435456)||(decide (x.Lo>x.Hi)||decide (x.Hi>268435456)))
theorem az7m {x:az0}:rng x=true↔ -268435456≤x.Lo/\x.Lo≤x.Hi/\x.Hi≤268435456:=by
 simp only[rng,Bool.not_eq_true',Bool.or_eq_false_iff,decide_eq_false_iff_not];omega
def izq (v:IV3):Bool:=rng v.1&&(rng v.2.1&&rng v.2.2)
def farL (l:List IV3)(i:Nat):Bool:= !izq (l.getD i default)
def bzm (l:List IV3):Bool:=decide (1≤l.length/\l.length≤8)&&azz (farL l) l.length
theorem vzw {l:List IV3}(h:bzm l=true){i:Nat}(hi:i<l.length):izq (l.getD i default)=true:=by
 simp only[bzm,Bool.and_eq_true]at h
 have:=noneB_iff.1 h.2 i hi
 simpa[farL]using this
theorem ezc {l:List IV3}(h:bzm l=true):1≤l.length/\l.length≤8:=by
 simp only[bzm,Bool.and_eq_true,decide_eq_true_eq]at h;exact h.1
theorem Bze (v:IV3):(rzo v).o=some (izq v):=by
 show(rzp v).run NN=_
 simp only[rzp,T.run,T.ix,azp,az8,cz5,izq,rng]
 cases decide (v.1.Lo< -268435456)||(decide (v.1.Lo>v.1.Hi)||decide (v.1.Hi>268435456))<;>cases decide (v.2.1.Lo< -268435456)||(decide (v.2.1.Lo>v.2.1.Hi)||decide (v.2.1.Hi>268435456))<;>
  cases decide (v.2.2.Lo< -268435456)||(decide (v.2.2.Lo>v.2.2.Hi)||decide (v.2.2.Hi>268435456))<;>rfl
theorem ez2 (l:List IV3):(dzb l).o=some (bzm l):=by
 show(vza l).run NN=_
 simp only[vza,T.run,T.ix,azp,az8,cz5,bzm]
 by_cases h:1≤l.length/\l.length≤8
 ·rw[decide_eq_true h,decide_eq_false (p:=(l.length:Int)<1) (by omega),decide_eq_false (p:=(l.length:Int)>8) (by omega)]
  simp only[Bool.or_self,cond_false,Bool.true_and]
  refine(dzu (fun i=>sw (farL l i) false) l.length (by omega) (fun j hj=>?_) ?_).trans ?_
  ·rw[az5 (by omega),az9 (by omega),wn (by omega),Int.toNat_natCast,←czc]
   unfold farL izq rng
   generalize l.getD j default=v
   cases decide (v.1.Lo< -268435456)||(decide (v.1.Lo>v.1.Hi)||decide (v.1.Hi>268435456))<;>cases decide (v.2.1.Lo< -268435456)||(decide (v.2.1.Lo>v.2.1.Hi)||decide (v.2.1.Hi>268435456))<;>
    cases decide (v.2.2.Lo< -268435456)||(decide (v.2.2.Lo>v.2.2.Hi)||decide (v.2.2.Hi>268435456))<;>rfl
  ·rw[az3 (by omega)]
  ·rw[bzh];cases azz (farL l) l.length<;>rfl
 ·rw[decide_eq_false h]
  by_cases h1:(l.length:Int)<1
  ·rw[decide_eq_true h1];rfl
  ·rw[decide_eq_false h1,decide_eq_true (p:=(l.length:Int)>8) (by omega)];rfl
theorem hz4 (l:List IV3):(dzz l).o=some (bzm l):=by
 show(uzp l).run NN=_
 simp only[uzp,T.run,azp,az8,Bze,Option.bind_some]
 refine(dzu (fun i=>sw (farL l i) false) (min l.length 9) (by omega) (fun j hj=>?_) ?_).trans ?_
 ·have e:(bif decide ((j:Int)<(l.length:Int))then decide ((j:Int)≤8)else false)=true:=by rw[az5 (by omega),decide_eq_true (p:=(j:Int)≤8) (by omega)]
  rw[e,cond_true,az9 (by omega),wn (by omega),Int.toNat_natCast,←czc];rfl
 ·have e:(bif decide (((min l.length 9:Nat):Int)<(l.length:Int))then decide (((min l.length 9:Nat):Int)≤8)else false)=false:=by
   by_cases hl:l.length≤8
   ·rw[az3 (by omega)]
   ·by_cases h9:((min l.length 9:Nat):Int)<(l.length:Int)
    ·rw[az5 h9,decide_eq_false (p:=((min l.length 9:Nat):Int)≤8) (by omega)]
    ·rw[az3 h9]
  rw[e,cond_false]
 ·rw[bzh]
  unfold bzm
  by_cases h:1≤l.length/\l.length≤8
  ·rw[decide_eq_true h,Nat.min_eq_left (by omega),Bool.true_and]
   cases azz (farL l) l.length
   ·rfl
   ·show(bif decide ((l.length:Int)≥1)then _ else _)=_
    rw[az5 (by omega),decide_eq_true (p:=(l.length:Int)≤8) (by omega)]
  ·rw[decide_eq_false h,Bool.false_and]
   cases azz (farL l) (min l.length 9)
   ·rfl
   ·show(bif decide ((l.length:Int)≥1)then _ else _)=_
    by_cases h1:(l.length:Int)≥1
    ·rw[az5 h1,decide_eq_false (p:=(l.length:Int)≤8) (by omega)]
    ·rw[az3 h1]
def dLo (n:V3)(v:IV3):Int:=min (n.1 * v.1.Lo) (n.1 * v.1.Hi)+min (n.2.1 * v.2.1.Lo) (n.2.1 * v.2.1.Hi)+min (n.2.2 * v.2.2.Lo) (n.2.2 * v.2.2.Hi)
def dHi (n:V3)(v:IV3):Int:=max (n.1 * v.1.Lo) (n.1 * v.1.Hi)+max (n.2.1 * v.2.1.Lo) (n.2.1 * v.2.1.Hi)+max (n.2.2 * v.2.2.Lo) (n.2.2 * v.2.2.Hi)
theorem Vzh {a b:Int}(ha: -16384≤a/\a≤16384)(hb: -268435456≤b/\b≤268435456): -4398046511104≤a * b/\a * b≤4398046511104:=by
 have h:(a * b).natAbs≤16384 * 268435456:=by rw[Int.natAbs_mul];exact Nat.mul_le_mul (by omega) (by omega)
 omega
theorem azby {n:V3}{v:IV3}(hn:bzc n=true)(hv:izq v=true):
 IntKind.i64.wrap (IntKind.i64.wrap (IntKind.i64.wrap (0+min (IntKind.i64.wrap (n.1 * v.1.Lo)) (IntKind.i64.wrap (n.1 * v.1.Hi)))+min (IntKind.i64.wrap (n.2.1 * v.2.1.Lo)) (IntKind.i64.wrap (n.2.1 * v.2.1.Hi)))+min (IntKind.i64.wrap (n.2.2 * v.2.2.Lo)) (IntKind.i64.wrap (n.2.2 * v.2.2.Hi)))=dLo n v/\
 IntKind.i64.wrap (IntKind.i64.wrap (IntKind.i64.wrap (0+max (IntKind.i64.wrap (n.1 * v.1.Lo)) (IntKind.i64.wrap (n.1 * v.1.Hi)))+max (IntKind.i64.wrap (n.2.1 * v.2.1.Lo)) (IntKind.i64.wrap (n.2.1 * v.2.1.Hi)))+max (IntKind.i64.wrap (n.2.2 * v.2.2.Lo)) (IntKind.i64.wrap (n.2.2 * v.2.2.Hi)))=dHi n v/\
 (-13194139533312≤dLo n v/\dLo n v≤13194139533312)/\(-13194139533312≤dHi n v/\dHi n v≤13194139533312):=by
 obtain⟨⟨b1,b2,b3⟩,-⟩:=Rz2 hn
 simp only[izq,Bool.and_eq_true,az7m]at hv
 obtain⟨v1,v2,v3⟩:=hv
 have p1:=Vzh b1 (show -268435456≤v.1.Lo/\v.1.Lo≤268435456 by omega)
 have p2:=Vzh b1 (show -268435456≤v.1.Hi/\v.1.Hi≤268435456 by omega)
 have p3:=Vzh b2 (show -268435456≤v.2.1.Lo/\v.2.1.Lo≤268435456 by omega)
 have p4:=Vzh b2 (show -268435456≤v.2.1.Hi/\v.2.1.Hi≤268435456 by omega)
 have p5:=Vzh b3 (show -268435456≤v.2.2.Lo/\v.2.2.Lo≤268435456 by omega)
 have p6:=Vzh b3 (show -268435456≤v.2.2.Hi/\v.2.2.Hi≤268435456 by omega)
 unfold dLo dHi
 generalize n.1 * v.1.Lo=x1 at *
 generalize n.1 * v.1.Hi=x2 at *
 generalize n.2.1 * v.2.1.Lo=x3 at *
 generalize n.2.1 * v.2.1.Hi=x4 at *
 generalize n.2.2 * v.2.2.Lo=x5 at *
 generalize n.2.2 * v.2.2.Hi=x6 at *
 rw[w64 (x:=x1) (by omega) (by omega),w64 (x:=x2) (by omega) (by omega),w64 (x:=x3) (by omega) (by omega),w64 (x:=x4) (by omega) (by omega),w64 (x:=x5) (by omega) (by omega),w64 (x:=x6) (by omega) (by omega)]
 rw[w64 (x:=0+min x1 x2) (by omega) (by omega),w64 (x:=0+max x1 x2) (by omega) (by omega),w64 (x:=0+min x1 x2+min x3 x4) (by omega) (by omega),w64 (x:=0+max x1 x2+max x3 x4) (by omega) (by omega),w64 (by omega) (by omega),w64 (by omega) (by omega)]
 refine⟨by omega,by omega,⟨by omega,by omega⟩,⟨by omega,by omega⟩⟩
theorem Izn {n:V3}{v:IV3}(hn:bzc n=true)(hv:izq v=true):(yzv n v).o=some (dLo n v,dHi n v):=by
 have h:=azby hn hv
 show(yzw n v).run NN=_
 simp only[yzw,T.run,T.ix,h.1,h.2.1]
theorem Pzp {n:V3}{v:IV3}(hn:bzc n=true)(hv:izq v=true):(Fzb n v).o=some (dLo n v,dHi n v):=by
 have h:=azby hn hv
 show(Fzc n v).run NN=_
 simp only[Fzc,T.run,T.ix,hz5,Bze,hn,hv,Option.bind_some,Bool.not_true,cond_false,az8,h.1,h.2.1]
def bst (c:Int->Int->Bool)(f:Nat->Int):Nat->Int×Int
 |0=>(0,0)
 |j+1=>if decide (j=0)||c (f j) (bst c f j).1 then(f j,(j:Int))else bst c f j
def ltB (a b:Int):Bool:=decide (a<b)
def gtB (a b:Int):Bool:=decide (a>b)
def Gzp (n:V3)(l:List IV3):Int×Int:=bst ltB (fun i=>dLo n (l.getD i default)) l.length
def Gzn (n:V3)(l:List IV3):Int×Int:=bst gtB (fun i=>dHi n (l.getD i default)) l.length
section
variable {n:V3} {l:List IV3} (hn:bzc n=true) (hl:bzm l=true)
include hn hl
theorem Mz7:(zz1 n.1 n.2.1 n.2.2 l).o=some ((Gzp n l).1,(Gzp n l).2,n.1,n.2.1,n.2.2):=by
 have hlen:=ezc hl
 show(ozr n.1 n.2.1 n.2.2 l).run NN=_
 simp only[ozr,T.run]
 refine(bzb (fun j=>(n.1,n.2.1,n.2.2,(bst ltB (fun i=>dLo n (l.getD i default)) j).1,(bst ltB (fun i=>dLo n (l.getD i default)) j).2,(j:Int))) (n.1,n.2.1,n.2.2,(Gzp n l).1,(Gzp n l).2) l.length rfl (show l.length<4294967296 by omega) (fun j hj=>?_) ?_).trans rfl
 ·rw[az5 (by simpa using hj),az9 ⟨by simp,by simpa using hj⟩]
  have e1:(qz0 (l.getD j default) n.1 n.2.1 n.2.2).o=some (dLo n (l.getD j default),n.1,n.2.1,n.2.2):=by
   show(jz6 (l.getD j default) n.1 n.2.1 n.2.2).run NN=_
   simp only[jz6,T.run,Izn (n:=(n.1,n.2.1,n.2.2)) hn (vzw hl hj),Option.bind_some]
  have e2:∀a b,(qz1 a b).o=some (ltB a b):=fun a b=>rfl
  simp only[Int.toNat_natCast,e1,e2,Option.bind_some]
  rw[wn (by omega)]
  simp only[azp,az8,bst]
  have e:((j:Int)==0)=decide (j=0):=by rw[Bool.eq_iff_iff];simp
  rw[e,cz5]
  cases decide (j=0)||ltB (dLo n (l.getD j default)) (bst ltB (fun i=>dLo n (l.getD i default)) j).1<;>rfl
 ·rw[az3 (by simp)];rfl
theorem Gza:(tz2 n.1 n.2.1 n.2.2 l).o=some ((Gzn n l).1,(Gzn n l).2,n.1,n.2.1,n.2.2):=by
 have hlen:=ezc hl
 show(kzx n.1 n.2.1 n.2.2 l).run NN=_
 simp only[kzx,T.run]
 refine(bzb (fun j=>(n.1,n.2.1,n.2.2,(bst gtB (fun i=>dHi n (l.getD i default)) j).1,(bst gtB (fun i=>dHi n (l.getD i default)) j).2,(j:Int))) (n.1,n.2.1,n.2.2,(Gzn n l).1,(Gzn n l).2) l.length rfl (show l.length<4294967296 by omega) (fun j hj=>?_) ?_).trans rfl
 ·rw[az5 (by simpa using hj),az9 ⟨by simp,by simpa using hj⟩]
  have e1:(tzw (l.getD j default) n.1 n.2.1 n.2.2).o=some (dHi n (l.getD j default),n.1,n.2.1,n.2.2):=by
   show(mzb (l.getD j default) n.1 n.2.1 n.2.2).run NN=_
   simp only[mzb,T.run,Izn (n:=(n.1,n.2.1,n.2.2)) hn (vzw hl hj),Option.bind_some]
  have e2:∀a b,(tzx a b).o=some (gtB a b):=fun a b=>rfl
  simp only[Int.toNat_natCast,e1,e2,Option.bind_some]
  rw[wn (by omega)]
  simp only[azp,az8,bst]
  have e:((j:Int)==0)=decide (j=0):=by rw[Bool.eq_iff_iff];simp
  rw[e,cz5]
  cases decide (j=0)||gtB (dHi n (l.getD j default)) (bst gtB (fun i=>dHi n (l.getD i default)) j).1<;>rfl
 ·rw[az3 (by simp)];rfl
end
def Tze (n:V3)(l:List IV3):Int×Int×Bool:=bif bzc n&&bzm l then((Gzp n l).1,(Gzp n l).2,true)else(0,0,false)
def Tzb (n:V3)(l:List IV3):Int×Int×Bool:=bif bzc n&&bzm l then((Gzn n l).1,(Gzn n l).2,true)else(0,0,false)
theorem Qzx (n:V3)(l:List IV3):(Czg n l).o=some (Tze n l):=by
 show(szg n l).run NN=_
 have e1:(tzv (n.1,n.2.1,n.2.2)).o=some (n.1,n.2.1,n.2.2):=rfl
 simp only[szg,T.run,fzg,ez2,Option.bind_some,Tze,e1]
 cases hn:bzc n
 ·rfl
 ·cases hl:bzm l
  ·rfl
  ·simp only[Bool.not_true,cond_false,az8,Mz7 hn hl,Option.bind_some,Bool.and_self,cond_true]
theorem Izm (n:V3)(l:List IV3):(tzu n l).o=some (Tzb n l):=by
 show(mza n l).run NN=_
 have e1:(zzk (n.1,n.2.1,n.2.2)).o=some (n.1,n.2.1,n.2.2):=rfl
 simp only[mza,T.run,fzg,ez2,Option.bind_some,Tzb,e1]
 cases hn:bzc n
 ·rfl
 ·cases hl:bzm l
  ·rfl
  ·simp only[Bool.not_true,cond_false,az8,Gza hn hl,Option.bind_some,Bool.and_self,cond_true]
theorem Vzt (n:V3)(l:List IV3):(Hzk n l).o=some (Tze n l):=by
 show(xzw n l).run NN=_
 simp only[xzw,T.run,hz5,hz4,Option.bind_some,Tze]
 cases hn:bzc n
 ·rfl
 ·cases hl:bzm l
  ·rfl
  ·have hlen:=ezc hl
   simp only[Bool.not_true,cond_false,az8,Bool.and_self,cond_true]
   refine(bzb (fun j=>((bst ltB (fun i=>dLo n (l.getD i default)) j).1,(bst ltB (fun i=>dLo n (l.getD i default)) j).2,(j:Int))) ((Gzp n l).1,(Gzp n l).2) l.length rfl (show l.length<4294967296 by omega) (fun j hj=>?_) ?_).trans rfl
   ·rw[az5 (by simpa using hj),az9 ⟨by simp,by simpa using hj⟩]
    simp only[Int.toNat_natCast,Pzp hn (vzw hl hj),Option.bind_some]
    rw[wn (by omega)]
    simp only[azp,az8,bst]
    have e:((j:Int)==0)=decide (j=0):=by rw[Bool.eq_iff_iff];simp
    rw[e,cz5]
    have hc:∀a b:Int,decide (a<b)=ltB a b:=fun _ _=>rfl
    rw[hc]
    cases decide (j=0)||ltB (dLo n (l.getD j default)) (bst ltB (fun i=>dLo n (l.getD i default)) j).1<;>rfl
   ·rw[az3 (by simp)];rfl
theorem Mzt (n:V3)(l:List IV3):(zzd n l).o=some (Tzb n l):=by
 show(pz5 n l).run NN=_
 simp only[pz5,T.run,hz5,hz4,Option.bind_some,Tzb]
 cases hn:bzc n
 ·rfl
 ·cases hl:bzm l
  ·rfl
  ·have hlen:=ezc hl
   simp only[Bool.not_true,cond_false,az8,Bool.and_self,cond_true]
   refine(bzb (fun j=>((bst gtB (fun i=>dHi n (l.getD i default)) j).1,(bst gtB (fun i=>dHi n (l.getD i default)) j).2,(j:Int))) ((Gzn n l).1,(Gzn n l).2) l.length rfl (show l.length<4294967296 by omega) (fun j hj=>?_) ?_).trans rfl
   ·rw[az5 (by simpa using hj),az9 ⟨by simp,by simpa using hj⟩]
    simp only[Int.toNat_natCast,Pzp hn (vzw hl hj),Option.bind_some]
    rw[wn (by omega)]
    simp only[azp,az8,bst]
    have e:((j:Int)==0)=decide (j=0):=by rw[Bool.eq_iff_iff];simp
    rw[e,cz5]
    have hc:∀a b:Int,decide (a>b)=gtB a b:=fun _ _=>rfl
    rw[hc]
    cases decide (j=0)||gtB (dHi n (l.getD j default)) (bst gtB (fun i=>dHi n (l.getD i default)) j).1<;>rfl
   ·rw[az3 (by simp)];rfl
def radV (r:Int):Bool:=decide (0≤r)&&decide (r≤1048576)
noncomputable def Ozy (n:V3)(a:List IV3)(ra:Int)(b:List IV3)(rb:Int):Int:=
 IntKind.i64.wrap (IntKind.i64.wrap ((Gzp n a).1- (Gzn n b).1)-IntKind.i64.wrap (az13 n * IntKind.i64.wrap (ra+rb)))
def az1q (n:V3)(a:List IV3)(ra:Int)(b:List IV3)(rb:Int):Bool:=bzc n&&(bzm a&&(bzm b&&(radV ra&&radV rb)))
noncomputable def sepV (n:V3)(a:List IV3)(ra:Int)(b:List IV3)(rb:Int):Bool:=az1q n a ra b rb&&decide (Ozy n a ra b rb>0)
theorem jzl (r:Int):(ezt r).o=some (radV r):=by
 show(jzk r).run NN=_
 simp only[jzk,T.run,czq,jz8,radV,ge_iff_le]
theorem Sz9 (n:V3)(a:List IV3)(ra:Int)(b:List IV3)(rb:Int):(Ez5 n a ra b rb).o=some (bif az1q n a ra b rb then(Ozy n a ra b rb,true)else(0,false)):=by
 show(uzs n a ra b rb).run NN=_
 simp only[uzs,T.run,Vzt,Mzt,jzl,Bzd,Option.bind_some,Tze,Tzb,az1q,Ozy]
 cases bzc n<;>cases bzm a<;>cases bzm b<;>cases radV ra<;>cases radV rb<;>rfl
theorem Kz0 (n:V3)(a:List IV3)(ra:Int)(b:List IV3)(rb:Int):(vzx n a ra b rb).o=some (sepV n a ra b rb):=by
 show(mzx n a ra b rb).run NN=_
 simp only[mzx,T.run,Sz9,Option.bind_some,sepV]
 cases az1q n a ra b rb<;>rfl
theorem Zzn (x:fzi):(Czb x).o=some (bzm x.points&&radV x.radius):=by
 show(Czc x).run NN=_
 simp only[Czc,T.run,ez2,Option.bind_some,radV]
 cases bzm x.points<;>cases decide (0≤x.radius)<;>rfl
theorem Jzz (n:V3)(a:List IV3)(ra:Int)(b:List IV3)(rb:Int):(mzu n a ra b rb).o=some (sepV n a ra b rb):=by
 have e1:(Lzd a ra b rb).o=some ⟨⟨a,ra⟩,⟨b,rb⟩⟩:=rfl
 have e2:(Ezh ⟨⟨a,ra⟩,⟨b,rb⟩⟩ n).o=some (bif az1q n a ra b rb then(Ozy n a ra b rb,true)else(0,false)):=by
  show(vzb ⟨⟨a,ra⟩,⟨b,rb⟩⟩ n).run NN=_
  simp only[vzb,T.run,Zzn,Qzx,Izm,vzh,Option.bind_some,Tze,Tzb,az1q,Ozy]
  cases bzc n<;>cases bzm a<;>cases bzm b<;>cases radV ra<;>cases radV rb<;>rfl
 have e3:(wz6 ⟨⟨a,ra⟩,⟨b,rb⟩⟩ n).o=some (sepV n a ra b rb):=by
  show(nz9 ⟨⟨a,ra⟩,⟨b,rb⟩⟩ n).run NN=_
  simp only[nz9,T.run,e2,Option.bind_some,sepV]
  cases az1q n a ra b rb<;>rfl
 show(mzv n a ra b rb).run NN=_
 simp only[mzv,T.run,e1,e3,Option.bind_some]
theorem az18 {c:Nat->Nat->Bool}{L:List bzx}{i:Nat}{x:bzx}:∀ {m:Nat},x∈pin c L i m->x∈L\/∃k,k<m/\x=⟨(i:Int),((i+1+k:Nat):Int)⟩
 |0,h=>Or.inl h
 |m+1,h=>by
  simp only[pin]at h
  split at h
  ·rcases List.mem_append.1 h with h|h
   ·rcases az18 h with h|⟨k,h1,h2⟩
    ·exact Or.inl h
    ·exact Or.inr ⟨k,by omega,h2⟩
   ·exact Or.inr ⟨m,by omega,List.mem_singleton.1 h⟩
  ·rcases az18 h with h|⟨k,h1,h2⟩
   ·exact Or.inl h
   ·exact Or.inr ⟨k,by omega,h2⟩
theorem az77 {c:Nat->Nat->Bool}{n:Nat}{x:bzx}:∀ {i:Nat},i≤n->x∈pou c n i->0≤x.A/\x.A<(n:Int)/\0≤x.B/\x.B<(n:Int)
 |0,_,h=>by simp[pou,nl]at h
 |i+1,hi,h=>by
  simp only[pou]at h
  rcases az18 h with h|⟨k,h1,h2⟩
  ·exact az77 (by omega) h
  ·subst h2;simp only;omega
theorem hzh {α:Type}[Inhabited α]{l:List α}{i:Nat}(h:i<l.length):l.getD i default∈l:=by
 rw[List.getD_eq_getElem?_getD,List.getElem?_eq_getElem h,Option.getD_some];exact List.getElem_mem h
theorem az30 {s:azc}(h:dzw s=0){k:Nat}(hk:k<(dz2 s).length):(0≤((dz2 s).getD k default).A/\((dz2 s).getD k default).A<(s.Shapes.length:Int))/\(0≤((dz2 s).getD k default).B/\((dz2 s).getD k default).B<(s.Shapes.length:Int)):=by
 have hm:=hzh hk
 generalize (dz2 s).getD k default=x at hm⊢
 unfold dz2 at hm
 rw[if_pos h]at hm
 have:=az77 (Nat.le_refl _) hm
 omega
theorem Pze (s:azc):(dz2 s).length≤576:=by
 unfold dz2
 split
 ·rename_i h
  have h1:=(oze h).len
  have h2:=Vzp (oz4 s) (n:=s.Shapes.length) s.Shapes.length
  have h3:s.Shapes.length * s.Shapes.length≤24 * 24:=Nat.mul_le_mul h1 h1
  omega
 ·simp[nl]
def pA (s:azc)(k:Nat):Nat:=((dz2 s).getD k default).A.toNat
def pB (s:azc)(k:Nat):Nat:=((dz2 s).getD k default).B.toNat
def mze (s:azc)(i:Nat):Int:=(s.Shapes.getD i default).Radius
theorem Pzm {s:azc}{b:List az0}(h:dzw s=0)(hb:boxV s.Robot b=true):xzs s b=tab (bzw s b) s.Shapes.length:=by unfold xzs;rw[if_pos ⟨h,hb⟩]
theorem Mz2 (s:azc)(b:List az0)(hbl:b.length<4294967296):(ozo s b).o=some (if dzw s=0/\boxV s.Robot b=true then(⟨s.Shapes,dz2 s,xzs s b⟩,true)else(⟨nl,nl,nl⟩,false)):=by
 show(ozp s b).run NN=_
 simp only[ozp,T.run,qze,Option.bind_some]
 by_cases h:dzw s=0
 ·rw[dzf h,az8]
  by_cases hl:b.length=s.Robot.Joints.length
  ·rw[dzf (by omega)]
   refine(dzu (fun i=>sw (notV b i) ((⟨nl,nl,nl⟩:cze),false)) b.length hbl (fun j hj=>?_) ?_).trans ?_
   ·rw[az5 (by omega),az9 (by omega),wn (by omega),Int.toNat_natCast,←czc]
    simp only[czm,Option.bind_some];rfl
   ·rw[az3 (by omega)]
   ·rw[bzh]
    have:boxV s.Robot b=azz (notV b) b.length:=by unfold boxV;rw[decide_eq_true hl,Bool.true_and]
    rw[this]
    cases azz (notV b) b.length
    ·rw[if_neg (fun h=>by cases h.2)];rfl
    ·rw[if_pos ⟨h,rfl⟩]
     simp only[sw,Bool.not_true,cond_false,Wzd,Fz3 s b hbl,Option.bind_some]
  ·rw[ezd (by omega),if_neg]
   rintro⟨-,hb⟩
   simp only[boxV,Bool.and_eq_true,decide_eq_true_eq]at hb
   exact hl hb.1
 ·rw[ezd h,az8,if_neg (fun h'=>h h'.1)];rfl
noncomputable def az7z (s:azc)(b:List az0)(k:Nat):azr:=⟨bzw s b (pA s k),mze s (pA s k)⟩
noncomputable def az80 (s:azc)(b:List az0)(k:Nat):azr:=⟨bzw s b (pB s k),mze s (pB s k)⟩
theorem Vzx (s:azc)(b:List az0)(hbl:b.length<4294967296):(Hzq s b).o=some (if dzw s=0/\boxV s.Robot b=true then(tab (az7z s b) (dz2 s).length,tab (az80 s b) (dz2 s).length,true)else(nl,nl,false)):=by
 have hpl:=Pze s
 show(yz4 s b).run NN=_
 simp only[yz4,T.run,izr,xzu _ b hbl,Option.bind_some]
 by_cases h:dzw s=0
 ·rw[dzf h,az8]
  cases hb:boxV s.Robot b
  ·rw[if_neg (fun h=>by cases h.2)];rfl
  ·rw[if_pos ⟨h,rfl⟩]
   simp only[Bool.not_true,cond_false,Sz8 s b hbl,Zz3,Option.bind_some,Pzm h hb]
   refine(bzb (fun j=>(tab (az7z s b) j,tab (az80 s b) j,(j:Int))) (tab (az7z s b) (dz2 s).length,tab (az80 s b) (dz2 s).length) (dz2 s).length rfl (show(dz2 s).length<4294967296 by omega) (fun j hj=>?_) ?_).trans rfl
   ·have hp:=az30 h hj
    rw[az5 (by simpa using hj),az9 ⟨by simp,by simpa using hj⟩,az9 ⟨by simp,by simpa using hj⟩]
    simp only[Int.toNat_natCast,dz1]
    rw[az9 hp.1,az9 hp.1,az9 ⟨by simp;omega,by simp[azy];omega⟩,az9 hp.2,az9 hp.2,az9 ⟨by simp;omega,by simp[azy];omega⟩,wn (by omega),pzq (by omega),pzq (by omega),gzm,gzm];rfl
   ·rw[az3 (by simp)]
 ·rw[ezd h,az8,if_neg (fun h'=>h h'.1)];rfl
theorem Wzc {R S:Type}{g:Nat->Bool}{r:Nat->R}{f:R->S}:∀ (n i:Nat),scan (fun j=>sw (g j) (f (r j))) n i=(scan (fun j=>sw (g j) (r j)) n i).map f
 |0,_=>rfl
 |n+1,i=>by
  simp only[scan]
  cases g i with
  |true=>rfl
  |false=>exact Wzc n (i+1)
section
variable (s:azc) (p q:List Int) (l:List azi) (hp:p.length<4294967296) (hq:q.length<4294967296)
include hp hq
end
def inV (v:V3):Prop:=InR v.1/\InR v.2.1/\InR v.2.2
theorem az45 (a:az0):(Czs a).o=some (midV a):=by
 show(Kz6 a).run NN=_
 simp only[Kz6,T.run,gzf,Option.bind_some,midV]
 cases h:vV a
 ·rfl
 ·simp only[vV_iff]at h
  rw[w64 (by omega) (by omega),dzn ⟨by omega,by omega⟩ (by decide)];rfl
def cenF (l:List IV3)(i:Nat):V3:=(midV (l.getD i default).1,midV (l.getD i default).2.1,midV (l.getD i default).2.2)
def cenV (l:List IV3):List V3:=if bzm l then tab (cenF l) l.length else nl
theorem lzn (l:List IV3):(dzg l).o=some (cenV l):=by
 show(rzl l).run NN=_
 simp only[rzl,T.run,T.ix,hz4,Option.bind_some,cenV]
 cases h:bzm l
 ·rfl
 ·have hl:=ezc h
  simp only[Bool.not_true,cond_false,if_true]
  refine(bzb (fun j=>(tab (cenF l) j,(j:Int))) (tab (cenF l) l.length) l.length rfl (show l.length<4294967296 by omega) (fun j hj=>?_) ?_).trans rfl
  ·rw[az5 (by simpa using hj),az9 ⟨by simp,by simpa using hj⟩]
   simp only[az45,Option.bind_some]
   rw[az9 ⟨by simp,by simpa using hj⟩,az9 ⟨by simp,by simpa using hj⟩,az9 ⟨by simp[dz1];omega,by simp[dz1,azy];omega⟩,wn (by omega),gzm];rfl
  ·rw[az3 (by simp)]
theorem az2d {l:List IV3}(h:bzm l=true):(cenV l).length=l.length:=by unfold cenV;rw[if_pos h,dz1]
theorem wzb {a:Int}(ha:InR a): -16384≤a.tdiv 562949953421312/\a.tdiv 562949953421312≤16384:=by
 obtain⟨h1,h2⟩:=ha
 have e:=Int.mul_tdiv_add_tmod a 562949953421312
 have l1:=Int.tmod_lt_of_pos a (show(0:Int)<562949953421312 by decide)
 have l2:=Int.lt_tmod_of_pos a (show(0:Int)<562949953421312 by decide)
 omega
theorem Ez3 {v:V3}(h:inV v):∃n ok,(hz0 v).o=some (n,ok)/\inV n:=by
 have e0:(hz0 v).o=(jzh v).run NN:=rfl
 rw[e0]
 simp only[jzh,T.run,T.ix]
 cases (v.1==0)&&((v.2.1==0)&&((v.2.2==0)&&true))
 ·simp only[cond_false]
  have key:∀ (m k N:Nat),k+m=49->m<N->∃n ok,andK (iter (fun (x6:Int)=>(grd (x6≠0) (grd (x6≠0) (grd (x6≠0) ((dzt ((IntKind.i64.wrap (v.1.tdiv x6)),(IntKind.i64.wrap (v.2.1.tdiv x6)),(IntKind.i64.wrap (v.2.2.tdiv x6))) 16384).o.bind fun y15=>
   bif y15 then some (.fin (((IntKind.i64.wrap (v.1.tdiv x6)),(IntKind.i64.wrap (v.2.1.tdiv x6)),(IntKind.i64.wrap (v.2.2.tdiv x6))),true))else some (.next (IntKind.i64.wrap (x6 * 2)))))):Option (Step3 Int U0 (V3×Bool)))) N (2 ^ k)) (fun _=>none)=some (n,ok)/\inV n:=by
   intro m
   induction m with
   |zero=>
    intro k N hk hN
    obtain⟨M,rfl⟩:∃M,N=M+1:=⟨N-1,by omega⟩
    obtain rfl:k=49:=by omega
    have e:(2:Int) ^ 49=562949953421312:=by decide
    have t1:=wzb h.1;have t2:=wzb h.2.1;have t3:=wzb h.2.2
    simp only[iter,e]
    rw[az9 (by decide),az9 (by decide),az9 (by decide),w64 (x:=v.1.tdiv _) (by omega) (by omega),w64 (x:=v.2.1.tdiv _) (by omega) (by omega),w64 (x:=v.2.2.tdiv _) (by omega) (by omega),ezg _ (by decide) (by decide),Option.bind_some,
     show fzp (v.1.tdiv 562949953421312,v.2.1.tdiv 562949953421312,v.2.2.tdiv 562949953421312) 16384=true from nearV_iff.2 ⟨t1,t2,t3⟩]
    exact⟨_,_,rfl,⟨by simp only;omega,by simp only;omega⟩,⟨by simp only;omega,by simp only;omega⟩,⟨by simp only;omega,by simp only;omega⟩⟩
   |succ m ih=>
    intro k N hk hN
    obtain⟨M,rfl⟩:∃M,N=M+1:=⟨N-1,by omega⟩
    have hp:=ezj k
    have hp2:(2:Int) ^ k≤562949953421312:=by
     have:(2:Int) ^ k≤2 ^ 49:=by exact_mod_cast Nat.pow_le_pow_right (by decide:0<2) (show k≤49 by omega)
     have e:(2:Int) ^ 49=562949953421312:=by decide
     omega
    simp only[iter]
    rw[az9 (by omega),az9 (by omega),az9 (by omega),ezg _ (by decide) (by decide),Option.bind_some]
    cases fzp (IntKind.i64.wrap (v.1.tdiv (2 ^ k)),IntKind.i64.wrap (v.2.1.tdiv (2 ^ k)),IntKind.i64.wrap (v.2.2.tdiv (2 ^ k))) 16384
    ·simp only[cond_false]
     rw[w64 (x:=2 ^ k * 2) (by omega) (by omega),←Int.pow_succ]
     exact ih (k+1) M (by omega) (by omega)
    ·exact⟨_,_,rfl,InR.wr _,InR.wr _,InR.wr _⟩
  exact key 49 0 NN rfl (by decide)
 ·exact⟨_,_,rfl,h⟩
def farN (l:List V3)(i:Nat):Bool:= !fzp (l.getD i default) 268435456
def fewV (l:List V3):Bool:=decide (1≤l.length/\l.length≤8)&&azz (farN l) l.length
theorem Jze {l:List V3}(h:fewV l=true):1≤l.length/\l.length≤8:=by
 simp only[fewV,Bool.and_eq_true,decide_eq_true_eq]at h;exact h.1
theorem Pzq (l:List V3):(Fzd l).o=some (fewV l):=by
 show(Fze l).run NN=_
 simp only[Fze,T.run,azp,az8,ezg _ (show(0:Int)≤268435456 by decide) (by decide),Option.bind_some]
 refine(dzu (fun i=>sw (farN l i) false) (min l.length 9) (by omega) (fun j hj=>?_) ?_).trans ?_
 ·have e:(bif decide ((j:Int)<(l.length:Int))then decide ((j:Int)≤8)else false)=true:=by rw[az5 (by omega),decide_eq_true (p:=(j:Int)≤8) (by omega)]
  rw[e,cond_true,az9 (by omega),wn (by omega),Int.toNat_natCast,←czc];rfl
 ·have e:(bif decide (((min l.length 9:Nat):Int)<(l.length:Int))then decide (((min l.length 9:Nat):Int)≤8)else false)=false:=by
   by_cases hl:l.length≤8
   ·rw[az3 (by omega)]
   ·by_cases h9:((min l.length 9:Nat):Int)<(l.length:Int)
    ·rw[az5 h9,decide_eq_false (p:=((min l.length 9:Nat):Int)≤8) (by omega)]
    ·rw[az3 h9]
  rw[e,cond_false]
 ·rw[bzh]
  unfold fewV
  by_cases h:1≤l.length/\l.length≤8
  ·rw[decide_eq_true h,Nat.min_eq_left (by omega),Bool.true_and]
   cases azz (farN l) l.length
   ·rfl
   ·show(bif decide ((l.length:Int)≥1)then _ else _)=_
    rw[az5 (by omega),decide_eq_true (p:=(l.length:Int)≤8) (by omega)]
  ·rw[decide_eq_false h,Bool.false_and]
   cases azz (farN l) (min l.length 9)
   ·rfl
   ·show(bif decide ((l.length:Int)≥1)then _ else _)=_
    by_cases h1:(l.length:Int)≥1
    ·rw[az5 h1,decide_eq_false (p:=(l.length:Int)≤8) (by omega)]
    ·rw[az3 h1]
theorem qz8 {σ τ R β:Type}{f:σ->Option (Step3 σ τ R)}{k:τ->Option R}{g:β->R}{P:β->Prop}{x:σ}(n:Nat)(hn:n<4294967296)(I:Nat->σ->Prop)(Q:τ->Prop)(h0:I 0 x)
 (hs:∀j y,j<n->I j y->∃y',f y=some (.next y')/\I (j+1) y') (he:∀y,I n y->∃z,f y=some (.out z)/\Q z) (hk:∀z,Q z->∃b,k z=some (g b)/\P b):∃b,andK (iter f NN x) k=some (g b)/\P b:=by
 have key:∀ (m j N:Nat) (y:σ),j+m=n->m<N->I j y->∃z,iter f N y=some (.inl z)/\Q z:=by
  intro m
  induction m with
  |zero=>
   intro j N y hj hN hI
   obtain⟨M,rfl⟩:∃M,N=M+1:=⟨N-1,by omega⟩
   obtain rfl:j=n:=by omega
   obtain⟨z,h1,h2⟩:=he y hI
   exact⟨z,by simp[iter,h1],h2⟩
  |succ m ih=>
   intro j N y hj hN hI
   obtain⟨M,rfl⟩:∃M,N=M+1:=⟨N-1,by omega⟩
   obtain⟨y',h1,h2⟩:=hs j y (by omega) hI
   simp only[iter,h1]
   exact ih (j+1) M y' (by omega) (by omega) h2
 obtain⟨z,h1,h2⟩:=key n 0 NN x (by omega) hn h0
 obtain⟨b,h3,h4⟩:=hk z h2
 exact⟨b,by rw[h1];exact h3,h4⟩
theorem yz2 (l:List V3)(w:List Int)(h:w.length=l.length)(hl:l.length<4294967296):∃v,(rzq l w).o=some v/\True:=by
 have e0:(rzq l w).o=(rzr l w).run NN:=rfl
 rw[e0]
 simp only[rzr,T.run,T.ix]
 refine qz8 (g:=fun b=>b) l.length hl (fun j (y:Int×Int×Int×Int)=>y.2.2.2=(j:Int)) (fun (_:V3)=>True) rfl (fun j y hj hy=>?_) (fun y hy=>?_) (fun z _=>⟨_,rfl,trivial⟩)
 ·rw[hy,az5 (by omega),az9 ⟨by omega,by omega⟩,az9 ⟨by omega,by omega⟩,az9 ⟨by omega,by omega⟩,az9 ⟨by omega,by omega⟩,az9 ⟨by omega,by omega⟩,az9 ⟨by omega,by omega⟩,wn (by omega)]
  exact⟨_,rfl,rfl⟩
 ·rw[hy,az3 (by omega)];exact⟨_,rfl,trivial⟩
theorem yz3 (a b:V3):∃v,(lzu a b).o=some v/\inV v:=⟨_,rfl,InR.wr _,InR.wr _,InR.wr _⟩
theorem mzy (a b:V3):∃v,(iz9 a b).o=some v:=⟨_,rfl⟩
theorem InR.max {a b:Int}(ha:InR a)(hb:InR b):InR (max a b):=by
 obtain⟨h1,h2⟩:=ha;obtain⟨h3,h4⟩:=hb;exact⟨by omega,by omega⟩
theorem Zz1 {v:V3}(h:inV v)(r:Int):∃b,(tzn v r).o=some b:=by
 have e0:(tzn v r).o=(oz8 v r).run NN:=rfl
 rw[e0]
 simp only[oz8,T.run,T.ix,bzu (h.1.max (InR.wr _)) (show(0:Int)<65536 by decide),bzu (h.2.1.max (InR.wr _)) (show(0:Int)<65536 by decide),bzu (h.2.2.max (InR.wr _)) (show(0:Int)<65536 by decide),Option.bind_some]
 exact⟨_,rfl⟩
theorem Bzf (n:V3)(l:List V3)(sg:Int)(h0:1≤l.length)(hl:l.length<4294967296):∃i:Int,(fz2 n l sg).o=some i/\0≤i/\i<(l.length:Int):=by
 have e0:(fz2 n l sg).o=(iz8 n l sg).run NN:=rfl
 rw[e0]
 simp only[iz8,T.run]
 refine qz8 (g:=fun b=>b) (l.length-1) (by omega) (fun j (y:Int×Int)=>y.2=((j+1:Nat):Int)/\0≤y.1/\y.1<(l.length:Int)) (fun (z:Int)=>0≤z/\z<(l.length:Int)) ⟨rfl,by simp,by simp;omega⟩ (fun j y hj hy=>?_) (fun y hy=>?_) (fun z hz=>⟨_,rfl,hz⟩)
 ·obtain⟨h1,h2,h3⟩:=hy
  obtain⟨d1,e1⟩:=mzy n (l.getD y.2.toNat default)
  obtain⟨d2,e2⟩:=mzy n (l.getD y.1.toNat default)
  rw[e1,e2,Option.bind_some,Option.bind_some,h1,az5 (by omega),az9 ⟨by omega,by omega⟩,az9 ⟨by omega,by omega⟩,wn (by omega)]
  cases decide (IntKind.i64.wrap (sg * d1)<IntKind.i64.wrap (sg * d2))
  ·exact⟨_,rfl,rfl,h2,h3⟩
  ·exact⟨_,rfl,rfl,by simp only;omega,by simp only;omega⟩
 ·obtain⟨h1,h2,h3⟩:=hy
  rw[h1,az3 (by omega)];exact⟨_,rfl,h2,h3⟩
theorem qzc (w:List Int)(t i:Int)(hl:w.length<4294967296)(h0:0≤i)(h1:i<(w.length:Int)):∃u,(lzs w t i).o=some u/\u.length=w.length:=by
 have e0:(lzs w t i).o=(lzt w t i).run NN:=rfl
 rw[e0]
 simp only[lzt,T.run]
 rw[az9 ⟨by omega,by rw[azy];omega⟩]
 refine qz8 (g:=fun b=>b) w.length hl (fun j (y:List Int×Int×Int)=>y.2.2=(j:Int)/\y.1.length=w.length) (fun (z:List Int×Int)=>z.1.length=w.length) ⟨rfl,rfl⟩ (fun j y hj hy=>?_) (fun y hy=>?_) (fun z hz=>?_)
 ·obtain⟨a1,a2⟩:=hy
  rw[a1,az5 (by omega),az9 ⟨by omega,by omega⟩,Int.toNat_natCast,az9 (by omega),az9 ⟨by omega,by omega⟩,az9 (by omega),az9 ⟨by omega,by omega⟩,az9 ⟨by omega,by omega⟩,wn (by omega)]
  exact⟨_,rfl,rfl,by simp only[List.length_set];exact a2⟩
 ·obtain⟨a1,a2⟩:=hy
  rw[a1,az3 (by omega)];exact⟨_,rfl,a2⟩
 ·rw[az9 ⟨by omega,by omega⟩,az9 (by omega),az9 ⟨by omega,by omega⟩,az9 ⟨by omega,by omega⟩]
  exact⟨_,rfl,by rw[List.length_set];exact hz⟩
def SO (x:dzc):Prop:=inV x.Normal/\x.Left.length≤8/\x.Right.length≤8
theorem az1p {f:Int×Int×Int×List Int×List Int×Int->Option (Step3 (Int×Int×Int×List Int×List Int×Int) U0 dzc)}{k:U0->Option dzc}{y:Int×Int×Int×List Int×List Int×Int}(I:Int×Int×Int×List Int×List Int×Int->Prop)
 (hr:∀y,I y->(∃y',f y=some (.next y')/\I y'/\y'.2.2.2.2.2=y.2.2.2.2.2+1)\/∃r,f y=some (.fin r)/\SO r) (hI:∀y,I y->y.2.2.2.2.2≤65) (m:Nat) (h1:I y) (h2:y.2.2.2.2.2+m≥66) (h3:m<NN):∃r,andK (iter f NN y) k=some r/\SO r:=by
 have key:∀ (m N:Nat) y,I y->y.2.2.2.2.2+m≥66->m<N->∃r,iter f N y=some (.inr r)/\SO r:=by
  intro m
  induction m with
  |zero=>intro N y h1 h2;have:=hI y h1;omega
  |succ m ih=>
   intro N y h1 h2 h3
   obtain⟨M,rfl⟩:∃M,N=M+1:=⟨N-1,by omega⟩
   rcases hr y h1 with⟨y',e1,e2,e3⟩|⟨r,e1,e2⟩
   ·simp only[iter,e1];exact ih M y' e2 (by omega) (by omega)
   ·exact⟨r,by simp[iter,e1],e2⟩
 obtain⟨r,e1,e2⟩:=key m NN y h1 h2 h3
 exact⟨r,by rw[e1];rfl,e2⟩
theorem Sza (a b:List V3)(rho steps:Int):∃x,(ezs a b rho steps).o=some x/\SO x:=by
 have z0:inV ((0,0,0):V3):=⟨⟨by decide,by decide⟩,⟨by decide,by decide⟩,⟨by decide,by decide⟩⟩
 have e0:(ezs a b rho steps).o=(jzj a b rho steps).run NN:=rfl
 rw[e0]
 simp only[jzj,T.run,T.ix,Pzq,Option.bind_some,azp,az8]
 cases ha:fewV a
 ·exact⟨_,rfl,z0,by simp[nl],by simp[nl]⟩
 ·cases hb:fewV b
  ·exact⟨_,rfl,z0,by simp[nl],by simp[nl]⟩
  ·have la:=Jze ha
   have lb:=Jze hb
   simp only[Bool.not_true,cond_false,cz5]
   cases hc:decide (rho<0)||(decide (rho>2097152)||(decide (steps<0)||decide (steps>64)))
   ·simp only[Bool.or_eq_false_iff,decide_eq_false_iff_not]at hc
    simp only[cond_false,Int.toNat_natCast,List.length_replicate]
    rw[az9 ⟨by omega,by omega,by omega,by omega⟩,az9 ⟨by omega,by omega,by omega,by omega⟩,az9 ⟨by omega,by omega⟩,az9 ⟨by simp;omega,by omega⟩,az9 ⟨by omega,by omega⟩,az9 ⟨by simp;omega,by omega⟩]
    refine az1p (fun y=>inV (y.1,y.2.1,y.2.2.1)/\y.2.2.2.1.length=a.length/\y.2.2.2.2.1.length=b.length/\0≤y.2.2.2.2.2/\y.2.2.2.2.2≤steps) (fun y hy=>?_) (fun y hy=>by have:=hy.2.2.2.2;omega) 66 ⟨z0,by simp,by simp,by simp,by simp;omega⟩ (by simp) (by decide)
    obtain⟨i1,i2,i3,i4,i5⟩:=hy
    obtain⟨s1,es1,-⟩:=yz2 a y.2.2.2.1 i2 (by omega)
    obtain⟨s2,es2,-⟩:=yz2 b y.2.2.2.2.1 i3 (by omega)
    obtain⟨w,ew,hw⟩:=yz3 s1 s2
    obtain⟨nb,en⟩:=Zz1 hw rho
    rw[es1,Option.bind_some,es2,Option.bind_some,ew,Option.bind_some,en,Option.bind_some]
    cases nb
    ·simp only[cond_false]
     obtain⟨n,ok,eN,hN⟩:=Ez3 (v:=(IntKind.i64.wrap (w.1.tdiv 65536),IntKind.i64.wrap (w.2.1.tdiv 65536),IntKind.i64.wrap (w.2.2.tdiv 65536))) ⟨InR.wr _,InR.wr _,InR.wr _⟩
     rw[eN,Option.bind_some]
     cases ok
     ·right;exact⟨_,rfl,hN,by simp only;omega,by simp only;omega⟩
     ·obtain⟨i,ei,i0,il⟩:=Bzf n a 1 la.1 (by omega)
      obtain⟨j,ej,j0,jl⟩:=Bzf n b (-1) lb.1 (by omega)
      obtain⟨d1,ed1⟩:=mzy n (a.getD i.toNat default)
      obtain⟨d2,ed2⟩:=mzy n (b.getD j.toNat default)
      obtain⟨mm,em,hm⟩:=yz3 (a.getD i.toNat default) (b.getD j.toNat default)
      obtain⟨ee,eE,he⟩:=yz3 (IntKind.i64.wrap (w.1.tdiv 65536),IntKind.i64.wrap (w.2.1.tdiv 65536),IntKind.i64.wrap (w.2.2.tdiv 65536)) mm
      obtain⟨u,eu⟩:=mzy (IntKind.i64.wrap (w.1.tdiv 65536),IntKind.i64.wrap (w.2.1.tdiv 65536),IntKind.i64.wrap (w.2.2.tdiv 65536)) ee
      obtain⟨v,ev⟩:=mzy ee ee
      obtain⟨nv,env⟩:∃nv,(tzk n).o=some nv:=⟨_,Bzd n⟩
      simp only[Bool.not_true,cond_false]
      rw[ei,Option.bind_some,ej,Option.bind_some,az9 ⟨i0,il⟩,ed1,Option.bind_some,az9 ⟨j0,jl⟩,ed2,Option.bind_some,env,Option.bind_some]
      cases decide (IntKind.i64.wrap (d1-d2)>IntKind.i64.wrap (nv * rho))
      ·simp only[cond_false]
       rw[az9 ⟨i0,il⟩,az9 ⟨j0,jl⟩,em,Option.bind_some,eE,Option.bind_some,eu,Option.bind_some,ev,Option.bind_some]
       cases hs:decide (y.2.2.2.2.2≥steps)||decide (u≤0)
       ·simp only[Bool.or_eq_false_iff,decide_eq_false_iff_not]at hs
        simp only[cond_false]
        have hmx:max 1 (IntKind.i64.wrap (v.tdiv 256))≠0:=by omega
        rw[az9 hmx]
        generalize min 256 (IntKind.i64.wrap (u.tdiv (max 1 (IntKind.i64.wrap (v.tdiv 256)))))=t
        cases t==0
        ·simp only[cond_false]
         obtain⟨m1,em1,lm1⟩:=qzc y.2.2.2.1 t i (by omega) i0 (by omega)
         obtain⟨m2,em2,lm2⟩:=qzc y.2.2.2.2.1 t j (by omega) j0 (by omega)
         left
         rw[em1,Option.bind_some,em2,Option.bind_some,w64 (x:=y.2.2.2.2.2+1) (by omega) (by omega)]
         exact⟨_,rfl,⟨hN,by simp only;omega,by simp only;omega,by simp only;omega,by simp only;omega⟩,rfl⟩
        ·right;exact⟨_,rfl,hN,by simp only;omega,by simp only;omega⟩
       ·right;exact⟨_,rfl,hN,by simp only;omega,by simp only;omega⟩
      ·right;exact⟨_,rfl,hN,by simp only;omega,by simp only;omega⟩
    ·right;exact⟨_,rfl,i1,by simp only;omega,by simp only;omega⟩
   ·exact⟨_,rfl,z0,by simp[nl],by simp[nl]⟩
noncomputable def firB (l:List V3)(a:List IV3)(ra:Int)(b:List IV3)(rb:Int)(i:Nat):Bool:=sepV (l.getD i default) a ra b rb
theorem Vzv (l:List V3)(a:List IV3)(ra:Int)(b:List IV3)(rb:Int)(hl:l.length<4294967296):(Hzp l a ra b rb).o=some ((scan (fun i=>sw (firB l a ra b rb i) ((i:Int),true)) l.length 0).getD (0,false)):=by
 show(yz1 l a ra b rb).run NN=_
 simp only[yz1,T.run,Kz0,Option.bind_some]
 refine(dzu (fun i=>sw (firB l a ra b rb i) ((i:Int),true)) l.length hl (fun j hj=>?_) ?_).trans ?_
 ·rw[az5 (by omega),az9 (by omega),wn (by omega),Int.toNat_natCast,←czc];rfl
 ·rw[az3 (by omega)]
 ·cases scan (fun i=>sw (firB l a ra b rb i) ((i:Int),true)) l.length 0<;>rfl
theorem Lzj (a:Int):(iza a).o=some (max a (IntKind.i64.wrap (0-a))):=rfl
theorem lza {σ τ R:Type}{f:σ->Option (Step3 σ τ R)}{k:τ->Option R}{P:R->Prop}{x:σ}(I:Nat->σ->Prop)(Q:τ->Prop)(m:Nat)(h0:I m x)(hN:m<4294967296)
 (hr:∀m x,I m x->(∃x' m',f x=some (.next x')/\m'<m/\I m' x')\/(∃y,f x=some (.out y)/\Q y)\/∃r,f x=some (.fin r)/\P r) (hk:∀y,Q y->∃r,k y=some r/\P r):∃r,andK (iter f NN x) k=some r/\P r:=by
 have go:∀ (N m:Nat) (x:σ),I m x->m<N->(∃y,iter f N x=some (.inl y)/\Q y)\/∃r,iter f N x=some (.inr r)/\P r:=by
  intro N
  induction N with
  |zero=>intro m x _ h;omega
  |succ N ih=>
   intro m x hi h
   rcases hr m x hi with⟨x',m',h1,h2,h3⟩|⟨y,h1,h2⟩|⟨r,h1,h2⟩
   ·simp only[iter,h1];exact ih m' x' h3 (by omega)
   ·exact .inl ⟨y,by simp[iter,h1],h2⟩
   ·exact .inr ⟨r,by simp[iter,h1],h2⟩
 rcases go NN m x h0 hN with⟨y,e1,e2⟩|⟨r,e1,e2⟩
 ·rw[Uz1 e1];exact hk y e2
 ·rw[az8e e1];exact⟨r,rfl,e2⟩
end Go.Abs
